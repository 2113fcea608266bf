/- Part 2 of the proof. -/
import Derived.Test.YtmegplnmiepfbaaGreatDoorF0
import Derived.Test.YtmegplnmiepfbaaGreatDoorProg
set_option linter.unusedVariables false
set_option linter.unusedSimpArgs false
set_option linter.defProp false
set_option maxRecDepth 100000
namespace Go.Proofs.YtmegplnmiepfbaaGreatDoor.S
open Go.Sx
noncomputable abbrev P:Program:=Go.Proofs.Tryz.prog
noncomputable def rows:List (Nat×TI):=[(0,⟨.uT [],1,0,[.tuple #[]],[]⟩),
 (2,⟨.int .i64,1,8,[.int .i64 0],[.int .i64]⟩),
 (3,⟨.int .i64,1,8,[.int .i64 0],[.int .i64]⟩),
 (4,⟨.bool,1,1,[.bool false],[.bool]⟩),
 (5,⟨.int .u8,1,1,[.int .u8 0],[.int .u8]⟩),
 (9,⟨.str,1,16,[.string .empty],[.str]⟩),
 (17,⟨.ptr,1,8,[.pointer none],[.ptr]⟩),
 (20,⟨.iface,1,16,[.nilIface],[.any]⟩),
 (21,⟨.int .i32,1,4,[.int .i32 0],[.int .i32]⟩),
 (22,⟨.slice 5,1,24,[.slice none 0 0],[.sl]⟩),
 (25,⟨.struct [(0,3),(1,3),(2,22)],3,40,[.int .i64 0,.int .i64 0,.slice none 0 0],[.int .i64,.int .i64,.sl]⟩),
 (26,⟨.ptr,1,8,[.pointer none],[.ptr]⟩),
 (28,⟨.slice 51,1,24,[.slice none 0 0],[.sl]⟩),
 (29,⟨.slice 3,1,24,[.slice none 0 0],[.sl]⟩),
 (30,⟨.int .u64,1,8,[.int .u64 0],[.int .u64]⟩),
 (32,⟨.struct [(0,30),(1,30),(2,30),(3,30),(4,30),(5,30)],6,48,[.int .u64 0,.int .u64 0,.int .u64 0,.int .u64 0,.int .u64 0,.int .u64 0],[.int .u64,.int .u64,.int .u64,.int .u64,.int .u64,.int .u64]⟩),
 (34,⟨.struct [(0,3),(1,3),(2,3),(3,3),(4,28),(5,29),(6,32)],12,128,[.int .i64 0,.int .i64 0,.int .i64 0,.int .i64 0,.slice none 0 0,.slice none 0 0,.int .u64 0,.int .u64 0,.int .u64 0,.int .u64 0,.int .u64 0,.int .u64 0],[.int .i64,.int .i64,.int .i64,.int .i64,.sl,.sl,.int .u64,.int .u64,.int .u64,.int .u64,.int .u64,.int .u64]⟩),
 (38,⟨.struct [(0,3),(1,3),(2,3),(3,22)],4,48,[.int .i64 0,.int .i64 0,.int .i64 0,.slice none 0 0],[.int .i64,.int .i64,.int .i64,.sl]⟩),
 (39,⟨.slice 43,1,24,[.slice none 0 0],[.sl]⟩),
 (43,⟨.struct [(0,3),(1,3),(2,3)],3,24,[.int .i64 0,.int .i64 0,.int .i64 0],[.int .i64,.int .i64,.int .i64]⟩),
 (45,⟨.slice 90,1,24,[.slice none 0 0],[.sl]⟩),
 (46,⟨.slice 38,1,24,[.slice none 0 0],[.sl]⟩),
 (49,⟨.slice 4,1,24,[.slice none 0 0],[.sl]⟩),
 (51,⟨.struct [(0,3),(1,3)],2,16,[.int .i64 0,.int .i64 0],[.int .i64,.int .i64]⟩),
 (55,⟨.uT [3,3,4],1,0,[.tuple #[.int .i64 0,.int .i64 0,.bool false]],[]⟩),
 (64,⟨.slice 34,1,24,[.slice none 0 0],[.sl]⟩),
 (68,⟨.ptr,1,8,[.pointer none],[.ptr]⟩),
 (70,⟨.ptr,1,8,[.pointer none],[.ptr]⟩),
 (72,⟨.struct [(0,3),(1,68),(2,70)],3,24,[.int .i64 0,.pointer none,.pointer none],[.int .i64,.ptr,.ptr]⟩),
 (74,⟨.iface,1,16,[.nilIface],[.any]⟩),
 (76,⟨.ptr,1,8,[.pointer none],[.ptr]⟩),
 (78,⟨.ptr,1,8,[.pointer none],[.ptr]⟩),
 (80,⟨.struct [(0,3),(1,74)],2,24,[.int .i64 0,.nilIface],[.int .i64,.any]⟩),
 (81,⟨.int .u64,1,8,[.int .u64 0],[.int .u64]⟩),
 (82,⟨.uT [3,22],1,0,[.tuple #[.int .i64 0,.slice none 0 0]],[]⟩),
 (84,⟨.struct [(0,3),(1,3),(2,22)],3,40,[.int .i64 0,.int .i64 0,.slice none 0 0],[.int .i64,.int .i64,.sl]⟩),
 (90,⟨.struct [(0,3),(1,3),(2,3)],3,24,[.int .i64 0,.int .i64 0,.int .i64 0],[.int .i64,.int .i64,.int .i64]⟩),
 (95,⟨.uT [3,3],1,0,[.tuple #[.int .i64 0,.int .i64 0]],[]⟩),
 (100,⟨.ptr,1,8,[.pointer none],[.ptr]⟩),
 (102,⟨.ptr,1,8,[.pointer none],[.ptr]⟩),
 (103,⟨.ptr,1,8,[.pointer none],[.ptr]⟩),
 (104,⟨.ptr,1,8,[.pointer none],[.ptr]⟩),
 (106,⟨.struct [(0,102),(1,103),(2,104),(3,100),(4,32)],10,80,[.pointer none,.pointer none,.pointer none,.pointer none,.int .u64 0,.int .u64 0,.int .u64 0,.int .u64 0,.int .u64 0,.int .u64 0],[.ptr,.ptr,.ptr,.ptr,.int .u64,.int .u64,.int .u64,.int .u64,.int .u64,.int .u64]⟩),
 (108,⟨.int .i64,1,8,[.int .i64 0],[.int .i64]⟩),
 (112,⟨.uT [3,74],1,0,[.tuple #[.int .i64 0,.nilIface]],[]⟩),
 (120,⟨.ptr,1,8,[.pointer none],[.ptr]⟩),
 (122,⟨.ptr,1,8,[.pointer none],[.ptr]⟩),
 (123,⟨.ptr,1,8,[.pointer none],[.ptr]⟩),
 (125,⟨.struct [(0,3),(1,3),(2,3),(3,122),(4,123)],5,40,[.int .i64 0,.int .i64 0,.int .i64 0,.pointer none,.pointer none],[.int .i64,.int .i64,.int .i64,.ptr,.ptr]⟩),
 (131,⟨.ptr,1,8,[.pointer none],[.ptr]⟩),
 (133,⟨.slice 303,1,24,[.slice none 0 0],[.sl]⟩),
 (135,⟨.struct [(0,131),(1,133),(2,32)],8,80,[.pointer none,.slice none 0 0,.int .u64 0,.int .u64 0,.int .u64 0,.int .u64 0,.int .u64 0,.int .u64 0],[.ptr,.sl,.int .u64,.int .u64,.int .u64,.int .u64,.int .u64,.int .u64]⟩),
 (137,⟨.struct [(0,3),(1,3),(2,4)],3,24,[.int .i64 0,.int .i64 0,.bool false],[.int .i64,.int .i64,.bool]⟩),
 (138,⟨.uT [137,4],1,0,[.tuple #[.agg #[.int .i64 0,.int .i64 0,.bool false],.bool false]],[]⟩),
 (140,⟨.uT [25,3],1,0,[.tuple #[.agg #[.int .i64 0,.int .i64 0,.slice none 0 0],.int .i64 0]],[]⟩),
 (144,⟨.uT [43,4],1,0,[.tuple #[.agg #[.int .i64 0,.int .i64 0,.int .i64 0],.bool false]],[]⟩),
 (146,⟨.func,1,8,[.nilFunc],[.any]⟩),
 (148,⟨.uT [3,3,3],1,0,[.tuple #[.int .i64 0,.int .i64 0,.int .i64 0]],[]⟩),
 (150,⟨.uT [29,74],1,0,[.tuple #[.slice none 0 0,.nilIface]],[]⟩),
 (152,⟨.uT [28,29,3],1,0,[.tuple #[.slice none 0 0,.slice none 0 0,.int .i64 0]],[]⟩),
 (155,⟨.iface,1,16,[.nilIface],[.any]⟩),
 (158,⟨.other,1,8,[.pointer none],[.ptr]⟩),
 (159,⟨.int .u64,1,8,[.int .u64 0],[.int .u64]⟩),
 (161,⟨.struct [(0,17),(1,158),(2,159)],3,24,[.pointer none,.pointer none,.int .u64 0],[.ptr,.ptr,.int .u64]⟩),
 (164,⟨.int .u8,1,1,[.int .u8 0],[.int .u8]⟩),
 (169,⟨.map,1,8,[.map none],[.map]⟩),
 (171,⟨.struct [(0,3),(1,3),(2,169),(3,29)],4,48,[.int .i64 0,.int .i64 0,.map none,.slice none 0 0],[.int .i64,.int .i64,.map,.sl]⟩),
 (172,⟨.slice 2,1,24,[.slice none 0 0],[.sl]⟩),
 (174,⟨.struct [(0,25),(3,2),(4,172)],5,72,[.int .i64 0,.int .i64 0,.slice none 0 0,.int .i64 0,.slice none 0 0],[.int .i64,.int .i64,.sl,.int .i64,.sl]⟩),
 (175,⟨.arr 6 30,6,48,[.int .u64 0,.int .u64 0,.int .u64 0,.int .u64 0,.int .u64 0,.int .u64 0],[.int .u64,.int .u64,.int .u64,.int .u64,.int .u64,.int .u64]⟩),
 (179,⟨.slice 334,1,24,[.slice none 0 0],[.sl]⟩),
 (180,⟨.map,1,8,[.map none],[.map]⟩),
 (182,⟨.struct [(0,3),(1,179),(2,180),(3,3),(4,3)],5,56,[.int .i64 0,.slice none 0 0,.map none,.int .i64 0,.int .i64 0],[.int .i64,.sl,.map,.int .i64,.int .i64]⟩),
 (183,⟨.uT [38,3],1,0,[.tuple #[.agg #[.int .i64 0,.int .i64 0,.int .i64 0,.slice none 0 0],.int .i64 0]],[]⟩),
 (185,⟨.uT [25,74],1,0,[.tuple #[.agg #[.int .i64 0,.int .i64 0,.slice none 0 0],.nilIface]],[]⟩),
 (187,⟨.int .i64,1,8,[.int .i64 0],[.int .i64]⟩),
 (188,⟨.ptr,1,8,[.pointer none],[.ptr]⟩),
 (195,⟨.ptr,1,8,[.pointer none],[.ptr]⟩),
 (197,⟨.struct [(0,103),(1,102),(2,195),(3,30)],4,32,[.pointer none,.pointer none,.pointer none,.int .u64 0],[.ptr,.ptr,.ptr,.int .u64]⟩),
 (198,⟨.uT [3,4],1,0,[.tuple #[.int .i64 0,.bool false]],[]⟩),
 (202,⟨.ptr,1,8,[.pointer none],[.ptr]⟩),
 (203,⟨.func,1,8,[.nilFunc],[.any]⟩),
 (204,⟨.uT [3,3,74],1,0,[.tuple #[.int .i64 0,.int .i64 0,.nilIface]],[]⟩),
 (207,⟨.map,1,8,[.map none],[.map]⟩),
 (208,⟨.slice 211,1,24,[.slice none 0 0],[.sl]⟩),
 (211,⟨.struct [(0,3),(1,3),(2,29)],3,40,[.int .i64 0,.int .i64 0,.slice none 0 0],[.int .i64,.int .i64,.sl]⟩),
 (213,⟨.struct [(0,29),(1,29)],2,48,[.slice none 0 0,.slice none 0 0],[.sl,.sl]⟩),
 (214,⟨.uT [213,3],1,0,[.tuple #[.agg #[.slice none 0 0,.slice none 0 0],.int .i64 0]],[]⟩),
 (216,⟨.uT [39,28,29,3],1,0,[.tuple #[.slice none 0 0,.slice none 0 0,.slice none 0 0,.int .i64 0]],[]⟩),
 (221,⟨.iface,1,16,[.nilIface],[.any]⟩),
 (224,⟨.iface,1,16,[.nilIface],[.any]⟩),
 (226,⟨.iface,1,16,[.nilIface],[.any]⟩),
 (227,⟨.slice 74,1,24,[.slice none 0 0],[.sl]⟩),
 (231,⟨.iface,1,16,[.nilIface],[.any]⟩),
 (234,⟨.slice 319,1,24,[.slice none 0 0],[.sl]⟩),
 (236,⟨.struct [(0,102),(1,234),(2,2),(3,30)],4,48,[.pointer none,.slice none 0 0,.int .i64 0,.int .u64 0],[.ptr,.sl,.int .i64,.int .u64]⟩),
 (238,⟨.uT [84,3,3],1,0,[.tuple #[.agg #[.int .i64 0,.int .i64 0,.slice none 0 0],.int .i64 0,.int .i64 0]],[]⟩),
 (240,⟨.ptr,1,8,[.pointer none],[.ptr]⟩),
 (242,⟨.struct [(0,3),(1,74)],2,24,[.int .i64 0,.nilIface],[.int .i64,.any]⟩),
 (245,⟨.slice 248,1,24,[.slice none 0 0],[.sl]⟩),
 (247,⟨.struct [(0,245),(1,3)],2,32,[.slice none 0 0,.int .i64 0],[.sl,.int .i64]⟩),
 (248,⟨.int .u32,1,4,[.int .u32 0],[.int .u32]⟩),
 (249,⟨.uT [213,74],1,0,[.tuple #[.agg #[.slice none 0 0,.slice none 0 0],.nilIface]],[]⟩),
 (253,⟨.arr 2 3,2,16,[.int .i64 0,.int .i64 0],[.int .i64,.int .i64]⟩),
 (257,⟨.ptr,1,8,[.pointer none],[.ptr]⟩),
 (258,⟨.map,1,8,[.map none],[.map]⟩),
 (260,⟨.struct [(0,3),(1,3),(2,258),(3,28),(4,29)],5,72,[.int .i64 0,.int .i64 0,.map none,.slice none 0 0,.slice none 0 0],[.int .i64,.int .i64,.map,.sl,.sl]⟩),
 (263,⟨.ptr,1,8,[.pointer none],[.ptr]⟩),
 (265,⟨.struct [(0,22),(1,3)],2,32,[.slice none 0 0,.int .i64 0],[.sl,.int .i64]⟩),
 (266,⟨.uT [84,74],1,0,[.tuple #[.agg #[.int .i64 0,.int .i64 0,.slice none 0 0],.nilIface]],[]⟩),
 (268,⟨.ptr,1,8,[.pointer none],[.ptr]⟩),
 (269,⟨.ptr,1,8,[.pointer none],[.ptr]⟩),
 (271,⟨.struct [(0,3),(1,3),(2,74)],3,32,[.int .i64 0,.int .i64 0,.nilIface],[.int .i64,.int .i64,.any]⟩),
 (273,⟨.ptr,1,8,[.pointer none],[.ptr]⟩),
 (275,⟨.struct [(0,3),(1,74)],2,24,[.int .i64 0,.nilIface],[.int .i64,.any]⟩),
 (276,⟨.uT [84,4],1,0,[.tuple #[.agg #[.int .i64 0,.int .i64 0,.slice none 0 0],.bool false]],[]⟩),
 (278,⟨.slice 294,1,24,[.slice none 0 0],[.sl]⟩),
 (284,⟨.uT [22,74],1,0,[.tuple #[.slice none 0 0,.nilIface]],[]⟩),
 (286,⟨.uT [22,3],1,0,[.tuple #[.slice none 0 0,.int .i64 0]],[]⟩),
 (289,⟨.slice 292,1,24,[.slice none 0 0],[.sl]⟩),
 (292,⟨.struct [(0,3),(1,3)],2,16,[.int .i64 0,.int .i64 0],[.int .i64,.int .i64]⟩),
 (294,⟨.struct [(0,3),(1,3),(2,3)],3,24,[.int .i64 0,.int .i64 0,.int .i64 0],[.int .i64,.int .i64,.int .i64]⟩),
 (296,⟨.slice 21,1,24,[.slice none 0 0],[.sl]⟩),
 (298,⟨.struct [(0,3),(1,2),(2,296)],3,40,[.int .i64 0,.int .i64 0,.slice none 0 0],[.int .i64,.int .i64,.sl]⟩),
 (300,⟨.uT [3,4,4],1,0,[.tuple #[.int .i64 0,.bool false,.bool false]],[]⟩),
 (303,⟨.struct [(0,2),(1,278),(2,213)],4,80,[.int .i64 0,.slice none 0 0,.slice none 0 0,.slice none 0 0],[.int .i64,.sl,.sl,.sl]⟩),
 (307,⟨.ptr,1,8,[.pointer none],[.ptr]⟩),
 (314,⟨.arr 4 3,4,32,[.int .i64 0,.int .i64 0,.int .i64 0,.int .i64 0],[.int .i64,.int .i64,.int .i64,.int .i64]⟩),
 (317,⟨.func,1,8,[.nilFunc],[.any]⟩),
 (319,⟨.struct [(0,2),(1,29),(2,296)],3,56,[.int .i64 0,.slice none 0 0,.slice none 0 0],[.int .i64,.sl,.sl]⟩),
 (322,⟨.ptr,1,8,[.pointer none],[.ptr]⟩),
 (331,⟨.func,1,8,[.nilFunc],[.any]⟩),
 (334,⟨.struct [(0,253),(2,3),(3,3)],4,32,[.int .i64 0,.int .i64 0,.int .i64 0,.int .i64 0],[.int .i64,.int .i64,.int .i64,.int .i64]⟩),
 (336,⟨.uT [29,3],1,0,[.tuple #[.slice none 0 0,.int .i64 0]],[]⟩),
 (338,⟨.ptr,1,8,[.pointer none],[.ptr]⟩),
 (340,⟨.struct [(0,84),(3,278),(4,29)],5,88,[.int .i64 0,.int .i64 0,.slice none 0 0,.slice none 0 0,.slice none 0 0],[.int .i64,.int .i64,.sl,.sl,.sl]⟩),
 (341,⟨.uT [81,81],1,0,[.tuple #[.int .u64 0,.int .u64 0]],[]⟩),
 (349,⟨.slice 353,1,24,[.slice none 0 0],[.sl]⟩),
 (351,⟨.struct [(0,349)],1,24,[.slice none 0 0],[.sl]⟩),
 (353,⟨.struct [(0,3),(1,3)],2,16,[.int .i64 0,.int .i64 0],[.int .i64,.int .i64]⟩),
 (354,⟨.ptr,1,8,[.pointer none],[.ptr]⟩),
 (355,⟨.uT [354,3,4],1,0,[.tuple #[.pointer none,.int .i64 0,.bool false]],[]⟩),
 (358,⟨.ptr,1,8,[.pointer none],[.ptr]⟩),
 (359,⟨.ptr,1,8,[.pointer none],[.ptr]⟩),
 (363,⟨.struct [(0,84),(3,359),(4,278),(5,29)],6,96,[.int .i64 0,.int .i64 0,.slice none 0 0,.pointer none,.slice none 0 0,.slice none 0 0],[.int .i64,.int .i64,.sl,.ptr,.sl,.sl]⟩),
 (367,⟨.uT [30,30],1,0,[.tuple #[.int .u64 0,.int .u64 0]],[]⟩),
 (370,⟨.func,1,8,[.nilFunc],[.any]⟩),
 (372,⟨.int .i64,1,8,[.int .i64 0],[.int .i64]⟩),
 (373,⟨.uT [3,372],1,0,[.tuple #[.int .i64 0,.int .i64 0]],[]⟩),
 (385,⟨.struct [(0,29),(1,3)],2,32,[.slice none 0 0,.int .i64 0],[.sl,.int .i64]⟩),
 (386,⟨.arr 256 385,512,8192,([]++(List.replicate 256 [.slice none 0 0,.int .i64 0]).flatten),([]++(List.replicate 256 [.sl,.int .i64]).flatten)⟩),
 (388,⟨.struct [(0,3),(1,3),(2,386)],514,8208,([.int .i64 0,.int .i64 0]++(List.replicate 256 [.slice none 0 0,.int .i64 0]).flatten),([.int .i64,.int .i64]++(List.replicate 256 [.sl,.int .i64]).flatten)⟩),
 (390,⟨.int .u64,1,8,[.int .u64 0],[.int .u64]⟩),
 (393,⟨.ptr,1,8,[.pointer none],[.ptr]⟩),
 (397,⟨.ptr,1,8,[.pointer none],[.ptr]⟩),
 (400,⟨.ptr,1,8,[.pointer none],[.ptr]⟩)]
noncomputable def T:uK:=aaM rows
noncomputable def fns:List Nat:=[3,4,5,6,7,8,9,10,11,12,13,14,15,16,17,18,19,20,21,22,23,24,25,26,27,28,29,30,31,32,33,34,35,36,37,38,39,40,41,42,43,44,45,46,47,48,49,50,51,52,53,54,55,56,57,58,59,60,61,62,63,64,65,66,67,68,69,70,71,72,73,74,75,76,77,78,79,80,81,82,83,84,85,86,87,88,89,90,91,92,93,94,96,100,101,102,103,104,105,106,107,108,109,110,111,112,113,114,115,116,117,118,119,120,121,122,123,124,125,126,127,128,129,130,131,132,133,134,135,136,137,140,141,142,143,144,145,146,147,148,149,150,151,152,153,154,155,156,157,158,159,160,161,162,163,164,165,166,167,168,169,170,171,172,173,174,175,176,177,178,179,180,181,182,183,184,185,186,187,188,189,190,191,192,193,194,195,196,197,198,199,200,201,202,203,204,205,206,207,208,209,210,211,212,213,214,215,216,217,218,220,221,222,223,224,225,226,227,228,229,230,231,232,233,234,235,236,237,238,240,241,242,243,244,245,246,247,248,249,250,252,253,254,255,256,257,258,259,260,261,262,263,264,265,266,267,268,269,270,271,272,273,274,275,276,277,278,279,280,281,282,302,321,323,325]
noncomputable def cx (n:Nat):Cx:=⟨P,T,λf=>oW f fns,n⟩
def HB:rows.map (λp=>UO P p.1)=rows.map (λp=>some (p.2.d,p.2.size,p.2.bytes,p.2.zero)):=by kernel_rfl
def aum:alr P fns=true:=by kernel_rfl
def aqa:P.follows .mixedOrders=true:=by kernel_rfl
def ok (n:Nat):mN (cx n):=asQ HB aum aqa n
abbrev Bk (n:Nat)(fn:Func)(K:Value->World->Prop)(j:Nat)(l:List (Nat×Kd))(B:KP l):Prop:=Za (cx n) fn (ahO (cx n) fn K) j l B
def l9:=bC (.o .b)
def AJ:=λb c d e f g i j l m w (Q:Bool->WP)=>aq P 6 #[ae b,ae c,.slice d e f,.slice g i j,ae l,ae m] w (l9 Q)
def Mu:=bC (.o (.i .i64))
def aV:=λb c d w (Q:Int->WP)=>aq P 10 #[ae b,ae c,ae d] w (Mu Q)
def ajR:=bC (.o .p)
def Em:=λb c w (Q:OA->WP)=>aq P 11 #[ae b,ae c] w (ajR Q)
def IT:=bC (.g [.i .i64,.i .i64,.i .i64,.i .i64,.l,.l,.i .u64,.i .u64,.i .u64,.i .u64,.i .u64,.i .u64])
def ij:=λb c d e f g i w (Q:Int->Int->Int->Int->L3 (L3 (Int->Int->Int->Int->Int->Int->WP)))=>aq P 12 #[.pointer b,.agg #[ae c,ae d,ae e,.slice f g i]] w (IT Q)
def Dc:=bC (.o .l)
def lE:=λb c d e f w (Q:L3 WP)=>aq P 13 #[.agg #[ae b,ae c,.slice d e f]] w (Dc Q)
def Ph:=bC (.o .l)
def we:=λb w (Q:L3 WP)=>aq P 14 #[.pointer b] w (Ph Q)
def Pj:=bC (.o .b)
def ql:=λw (Q:Bool->WP)=>aq P 15 #[] w (Pj Q)
def fK:=bC (.o .l)
def uX:=λb c d e f g i j w (Q:L3 WP)=>aq P 16 #[ae b,ae c,.slice d e f,.slice g i j] w (fK Q)
def TU:=bC (.o .l)
def yM:=λb c d e w (Q:L3 WP)=>aq P 17 #[.slice b c d,ae e] w (TU Q)
def DV:=bC (.o .p)
def uY:=λb c d e f g i j l m w (Q:OA->WP)=>aq P 18 #[ae b,ae c,ae d,ae e,.slice f g i,.slice j l m] w (DV Q)
def TV:=bC (.g [.i .i64,.i .i64,.l])
def oh:=λb w (Q:Int->Int->L3 WP)=>aq P 19 #[.pointer b] w (TV Q)
def Pm:=fY [.o (.i .i64),.o (.i .i64),.o .b]
def qm:=λb c d w (Q:Int->Int->Bool->WP)=>aq P 20 #[.pointer b,ae c,ae d] w (Pm Q)
def CI:=bC (.o (.i .i64))
def l_:=λb c d e w (Q:Int->WP)=>aq P 21 #[ae b,ae c,ae d,ae e] w (CI Q)
def Pn:=bC (.g [.i .u64,.i .u64,.i .u64,.i .u64,.i .u64,.i .u64])
def wg:=λb w (Q:Int->Int->Int->Int->Int->Int->WP)=>aq P 22 #[.pointer b] w (Pn Q)
def Oh:=bC (.o (.i .i64))
def pe:=λb c w (Q:Int->WP)=>aq P 23 #[ae b,ae c] w (Oh Q)
def ajS:=bC (.o .p)
def Jo:=λb w (Q:OA->WP)=>aq P 27 #[ae b] w (ajS Q)
def BU:=bC (.o .w)
def z0:=λb c d e f g i j w (Q:Value->WP)=>aq P 28 #[.pointer b,.agg #[ae c,ae d,ae e,.slice f g i],.pointer j] w (BU Q)
def ahQ:=bC (.o (.i .i64))
def CJ:=λb w (Q:Int->WP)=>aq P 29 #[b] w (ahQ Q)
def K4:=fY [.o (.i .i64),.o .l]
def sR:=λb c d e f w (Q:Int->L3 WP)=>aq P 30 #[.agg #[ae b,ae c,.slice d e f]] w (K4 Q)
def Dd:=bC (.g [.i .i64,.i .i64,.l])
def tP:=λb c d e f g w (Q:Int->Int->L3 WP)=>aq P 31 #[.agg #[ae b,ae c,.slice d e f],ae g] w (Dd Q)
def TX:=bC (.o .p)
def Fb:=λb w (Q:OA->WP)=>aq P 32 #[.pointer b] w (TX Q)
def Po:=bC (.o .l)
def mZ:=λb w (Q:L3 WP)=>aq P 33 #[.pointer b] w (Po Q)
def De:=bC (.o .b)
def tQ:=λb c d e f g w (Q:Bool->WP)=>aq P 34 #[.slice b c d,.slice e f g] w (De Q)
def rZ:=bC (.g [.i .i64,.i .i64,.l])
def qo:=λb c d e f w (Q:Int->Int->L3 WP)=>aq P 35 #[ae b,ae c,.slice d e f] w (rZ Q)
def Pp:=bC (.o (.i .u8))
def qp:=λb w (Q:Int->WP)=>aq P 36 #[.int .u8 b] w (Pp Q)
def Fc:=bC (.g [.i .i64,.i .i64,.i .i64,.l])
def wj:=λb c d e w (Q:Int->Int->Int->L3 WP)=>aq P 37 #[.agg #[ae b,ae c,ae d],ae e] w (Fc Q)
def Mv:=bC (.o .b)
def tR:=λb c d e f w (Q:Bool->WP)=>aq P 38 #[.agg #[ae b,ae c,.slice d e f]] w (Mv Q)
def TY:=bC (.o .p)
def yN:=λb w (Q:OA->WP)=>aq P 39 #[.pointer b] w (TY Q)
def aa2:=bC (.g [.i .i64,.i .i64,.l])
def Dw:=λb w (Q:Int->Int->L3 WP)=>aq P 40 #[.pointer b] w (aa2 Q)
def aa3:=fY [.o (.i .i64),.o (.i .i64)]
def s9:=λb c d w (Q:Int->Int->WP)=>aq P 41 #[ae b,ae c,ae d] w (aa3 Q)
def ac_:=bC (.o (.i .i64))
def z6:=λb c d e w (Q:Int->WP)=>aq P 42 #[ae b,ae c,ae d,ae e] w (ac_ Q)
def XB:=bC (.g [.i .u64,.i .u64,.i .u64,.i .u64,.i .u64,.i .u64])
def A5:=λb w (Q:Int->Int->Int->Int->Int->Int->WP)=>aq P 43 #[.pointer b] w (XB Q)
def K5:=fY [.o (.i .i64),.o (.i .i64)]
def kN:=λb c w (Q:Int->Int->WP)=>aq P 44 #[ae b,ae c] w (K5 Q)
def afZ:=bC (.o .p)
def F1:=λb w (Q:OA->WP)=>aq P 47 #[ae b] w (afZ Q)
def alx:=bC (.o .b)
def K6:=λb c d e f g w (Q:Bool->WP)=>aq P 48 #[.agg #[ae b,ae c,ae d,.slice e f g]] w (alx Q)
def Fe:=bC (.o .w)
def wk:=λb c d e f g i w (Q:Value->WP)=>aq P 49 #[.pointer b,.agg #[ae c,ae d,ae e,.slice f g i]] w (Fe Q)
def RG:=bC (.o .w)
def xP:=λb c d e w (Q:Value->WP)=>aq P 50 #[.pointer b,.slice c d e] w (RG Q)
def XC:=fY []
def vD:=λb w (Q:WP)=>aq P 51 #[.pointer b] w (XC Q)
def F2:=bC (.o .w)
def xQ:=λb c d w (Q:Value->WP)=>aq P 52 #[.pointer b,ae c,ae d] w (F2 Q)
def Pq:=fY [.o (.i .i64),.o .w]
def wm:=λb c d w (Q:Int->Value->WP)=>aq P 53 #[.pointer b,ae c,ae d] w (Pq Q)
def ada:=bC (.o .w)
def gj:=λb w (Q:Value->WP)=>aq P 54 #[ae b] w (ada Q)
def K7:=bC (.o (.i .i64))
def sS:=λb c d w (Q:Int->WP)=>aq P 55 #[.pointer b,ae c,ae d] w (K7 Q)
def Mw:=bC (.o (.i .i64))
def tS:=λb c w (Q:Int->WP)=>aq P 56 #[.pointer b,ae c] w (Mw Q)
def Pt:=bC (.o .w)
def wo:=λb c d e w (Q:Value->WP)=>aq P 57 #[.pointer b,.pointer c,ae d,ae e] w (Pt Q)
def RH:=bC (.o .w)
def xR:=λb c w (Q:Value->WP)=>aq P 58 #[.pointer b,.pointer c] w (RH Q)
def af0:=bC (.o .b)
def pz:=λb c w (Q:Bool->WP)=>aq P 59 #[b,c] w (af0 Q)
def Jp:=bC (.o .b)
def nv:=λb c w (Q:Bool->WP)=>aq P 60 #[b,c] w (Jp Q)
def lU:=bC (.o .l)
def wq:=λb c d w (Q:L3 WP)=>aq P 61 #[.slice b c d] w (lU Q)
def Pu:=fY [.o (.i .i64),.o (.i .i64)]
def qq:=λb c d w (Q:Int->Int->WP)=>aq P 62 #[ae b,ae c,ae d] w (Pu Q)
def Mx:=bC (.o (.i .i64))
def tT:=λb c d e w (Q:Int->WP)=>aq P 63 #[ae b,ae c,ae d,ae e] w (Mx Q)
def G9:=bC (.o .l)
def yO:=λb w (Q:L3 WP)=>aq P 64 #[.pointer b] w (G9 Q)
def RI:=bC (.o .b)
def rm:=λb c w (Q:Bool->WP)=>aq P 65 #[ae b,ae c] w (RI Q)
def Ff:=bC (.o .b)
def Df:=λb c d w (Q:Bool->WP)=>aq P 66 #[.slice b c d] w (Ff Q)
def XD:=bC (.g [.i .i64,.i .i64,.l])
def A6:=λb w (Q:Int->Int->L3 WP)=>aq P 67 #[.pointer b] w (XD Q)
def ahR:=bC (.o .b)
def yP:=λb c d w (Q:Bool->WP)=>aq P 68 #[ae b,ae c,ae d] w (ahR Q)
def af1:=bC (.o .b)
def lF:=λb c w (Q:Bool->WP)=>aq P 69 #[ae b,ae c] w (af1 Q)
def Jq:=bC (.g [.i .u64,.i .u64,.i .u64,.i .u64,.i .u64,.i .u64])
def wU:=λb c d e f g i j l m n o w (Q:Int->Int->Int->Int->Int->Int->WP)=>aq P 70 #[.agg #[.int .u64 b,.int .u64 c,.int .u64 d,.int .u64 e,.int .u64 f,.int .u64 g],.agg #[.int .u64 i,.int .u64 j,.int .u64 l,.int .u64 m,.int .u64 n,.int .u64 o]] w (Jq Q)
def Vd:=bC (.g [.i .u64,.i .u64,.i .u64,.i .u64,.i .u64,.i .u64])
def tU:=λb w (Q:Int->Int->Int->Int->Int->Int->WP)=>aq P 71 #[.pointer b] w (Vd Q)
def Pv:=bC (.g [.i .u64,.i .u64,.i .u64,.i .u64,.i .u64,.i .u64])
def wu:=λb w (Q:Int->Int->Int->Int->Int->Int->WP)=>aq P 72 #[.pointer b] w (Pv Q)
def ajT:=bC (.o .p)
def Jr:=λb w (Q:OA->WP)=>aq P 74 #[ae b] w (ajT Q)
def aly:=bC (.o .b)
def K8:=λb c d w (Q:Bool->WP)=>aq P 75 #[.slice b c d] w (aly Q)
def Js:=fY [.g [.i .i64,.i .i64,.b],.o .b]
def wV:=λb w (Q:Int->Int->Bool->Bool->WP)=>aq P 76 #[ae b] w (Js Q)
def ajU:=bC (.o .b)
def AK:=λb c w (Q:Bool->WP)=>aq P 77 #[ae b,ae c] w (ajU Q)
def Zb:=bC (.o (.i .i64))
def rL:=λb c w (Q:Int->WP)=>aq P 78 #[.pointer b,ae c] w (Zb Q)
def af2:=fY [.g [.i .i64,.i .i64,.l],.o (.i .i64)]
def F3:=λb c d w (Q:Int->Int->L3 (Int->WP))=>aq P 79 #[.slice b c d] w (af2 Q)
def Zc:=bC (.o (.i .i64))
def BV:=λb c d e f g w (Q:Int->WP)=>aq P 80 #[.pointer b,.agg #[ae c,ae d,.slice e f g]] w (Zc Q)
def af3:=bC (.o .p)
def F4:=λb c d w (Q:OA->WP)=>aq P 81 #[ae b,ae c,ae d] w (af3 Q)
def Pw:=fY []
def qt:=λb w (Q:WP)=>aq P 82 #[.pointer b] w (Pw Q)
def Px:=fY []
def qu:=λb w (Q:WP)=>aq P 83 #[.pointer b] w (Px Q)
def TZ:=bC (.o (.i .i64))
def yQ:=λb c w (Q:Int->WP)=>aq P 84 #[.pointer b,ae c] w (TZ Q)
def Zd:=bC (.o (.i .i64))
def BW:=λb c d w (Q:Int->WP)=>aq P 85 #[.pointer b,ae c,ae d] w (Zd Q)
def Py:=fY [.o (.i .i64),.o (.i .i64)]
def wv:=λb c d w (Q:Int->Int->WP)=>aq P 86 #[.pointer b,ae c,ae d] w (Py Q)
def T0:=fY [.g [.i .i64,.i .i64,.i .i64],.o .b]
def iQ:=λb c w (Q:Int->Int->Int->Bool->WP)=>aq P 87 #[.pointer b,ae c] w (T0 Q)
def Ve:=bC (.o .b)
def pA:=λb c w (Q:Bool->WP)=>aq P 88 #[.pointer b,ae c] w (Ve Q)
def r6:=bC (.o (.i .i64))
def m6:=λb c d e w (Q:Int->WP)=>aq P 89 #[.pointer b,ae c,ae d,ae e] w (r6 Q)
def RJ:=fY []
def nK:=λb c d e w (Q:WP)=>aq P 90 #[.pointer b,.agg #[ae c,ae d,ae e]] w (RJ Q)
def T1:=bC (.o .b)
def yR:=λb c d w (Q:Bool->WP)=>aq P 91 #[.pointer b,ae c,ae d] w (T1 Q)
def Ze:=fY [.o (.i .i64),.o (.i .i64),.o (.i .i64)]
def BX:=λb c d w (Q:Int->Int->Int->WP)=>aq P 92 #[.pointer b,ae c,ae d] w (Ze Q)
def jg:=fY [.o .l,.o .w]
def xS:=λb c d e w (Q:L3 (Value->WP))=>aq P 93 #[.pointer b,.slice c d e] w (jg Q)
def tV:=fY [.o .l,.o .l,.o (.i .i64)]
def xU:=λb c d e w (Q:L3 (L3 (Int->WP)))=>aq P 94 #[.pointer b,.slice c d e] w (tV Q)
def pZ:=bC (.o .b)
def wW:=λb c d w (Q:Bool->WP)=>aq P 96 #[b,c,.bool d] w (pZ Q)
def wL:=bC (.o .b)
def F5:=λb c d e f g w (Q:Bool->WP)=>aq P 100 #[b,c,.agg #[.pointer d,.pointer e,.int .u64 f],g] w (wL Q)
def T2:=bC (.o .b)
def lV:=λb c d w (Q:Bool->WP)=>aq P 101 #[ae b,ae c,ae d] w (T2 Q)
def Fg:=bC (.o .l)
def qv:=λb w (Q:L3 WP)=>aq P 102 #[.pointer b] w (Fg Q)
def Jt:=bC (.o .l)
def jJ:=λb c d w (Q:L3 WP)=>aq P 103 #[.slice b c d] w (Jt Q)
def Zf:=bC (.g [.i .u64,.i .u64,.i .u64,.i .u64,.i .u64,.i .u64])
def cW:=λb c d e f g w (Q:Int->Int->Int->Int->Int->Int->WP)=>aq P 104 #[.agg #[.int .u64 b,.int .u64 c,.int .u64 d,.int .u64 e,.int .u64 f,.int .u64 g]] w (Zf Q)
def af4:=bC (.o (.i .u64))
def r7:=λb c w (Q:Int->WP)=>aq P 105 #[.int .u64 b,.int .u64 c] w (af4 Q)
def T3:=bC (.o (.i .u64))
def r8:=λb w (Q:Int->WP)=>aq P 106 #[.pointer b] w (T3 Q)
def Oi:=bC (.o (.i .u64))
def pB:=λb w (Q:Int->WP)=>aq P 107 #[.pointer b] w (Oi Q)
def XE:=fY []
def vF:=λb w (Q:WP)=>aq P 108 #[.pointer b] w (XE Q)
def ajV:=fY [.g [.i .i64,.i .i64,.i .i64,.l],.o (.i .i64)]
def Ju:=λb c d w (Q:Int->Int->Int->L3 (Int->WP))=>aq P 109 #[.slice b c d] w (ajV Q)
def Vf:=bC (.o (.i .i64))
def e_:=λb c w (Q:Int->WP)=>aq P 110 #[.pointer b,ae c] w (Vf Q)
def Pz:=fY [.g [.i .i64,.i .i64,.l],.o .w]
def EH:=λb c d w (Q:Int->Int->L3 (Value->WP))=>aq P 111 #[.slice b c d] w (Pz Q)
def af5:=bC (.o .b)
def Bm:=λb c d e f w (Q:Bool->WP)=>aq P 112 #[.agg #[ae b,ae c,.slice d e f]] w (af5 Q)
def Vg:=bC (.o .p)
def HC:=λb c d e f g w (Q:OA->WP)=>aq P 113 #[.agg #[ae b,ae c,.slice d e f],ae g] w (Vg Q)
def T4:=bC (.o (.i .i64))
def fZ:=λb w (Q:Int->WP)=>aq P 114 #[.pointer b] w (T4 Q)
def ahS:=bC (.o .p)
def HD:=λb w (Q:OA->WP)=>aq P 115 #[.pointer b] w (ahS Q)
def af6:=bC (.o .p)
def F6:=λb c w (Q:OA->WP)=>aq P 116 #[.pointer b,.pointer c] w (af6 Q)
def af7:=bC (.o .p)
def F7:=λb w (Q:OA->WP)=>aq P 117 #[ae b] w (af7 Q)
def af8:=bC (.o .p)
def F8:=λb w (Q:OA->WP)=>aq P 118 #[ae b] w (af8 Q)
def T5:=bC (.o (.i .i64))
def lW:=λb c w (Q:Int->WP)=>aq P 119 #[.pointer b,ae c] w (T5 Q)
def Vh:=bC (.o (.i .i64))
def z7:=λb c d w (Q:Int->WP)=>aq P 120 #[.pointer b,ae c,ae d] w (Vh Q)
def T6:=fY [.o (.i .i64),.o .b]
def yS:=λb c d w (Q:Int->Bool->WP)=>aq P 121 #[.pointer b,ae c,ae d] w (T6 Q)
def T7:=bC (.o .b)
def r9:=λb c d w (Q:Bool->WP)=>aq P 122 #[.pointer b,ae c,ae d] w (T7 Q)
def Zg:=bC (.o (.i .i64))
def dY:=λb c d w (Q:Int->WP)=>aq P 123 #[ae b,ae c,ae d] w (Zg Q)
def T8:=bC (.o (.i .i64))
def yT:=λb w (Q:Int->WP)=>aq P 124 #[.pointer b] w (T8 Q)
def RK:=bC (.o .b)
def xV:=λb c w (Q:Bool->WP)=>aq P 125 #[.pointer b,ae c] w (RK Q)
def RL:=bC (.o (.i .i64))
def rq:=λb c w (Q:Int->WP)=>aq P 126 #[.pointer b,ae c] w (RL Q)
def T9:=bC (.o .b)
def r_:=λb c d w (Q:Bool->WP)=>aq P 127 #[.pointer b,ae c,d] w (T9 Q)
def PA:=fY []
def Dg:=λb c w (Q:WP)=>aq P 128 #[.pointer b,.pointer c] w (PA Q)
def Zh:=fY [.o (.i .i64),.o (.i .i64),.o .w]
def BY:=λb c d w (Q:Int->Int->Value->WP)=>aq P 129 #[.pointer b,ae c,ae d] w (Zh Q)
def ahT:=bC (.o (.i .i64))
def yU:=λb w (Q:Int->WP)=>aq P 130 #[b] w (ahT Q)
def Zi:=fY [.o (.i .i64),.o (.i .i64)]
def wX:=λb w (Q:Int->Int->WP)=>aq P 131 #[.pointer b] w (Zi Q)
def aa4:=bC (.o (.i .i64))
def nj:=λb c d w (Q:Int->WP)=>aq P 132 #[ae b,ae c,ae d] w (aa4 Q)
def yV:=bC (.o .l)
def EI:=λb c d e f w (Q:L3 WP)=>aq P 133 #[ae b,ae c,.slice d e f] w (yV Q)
def XF:=fY [.g [.l,.l],.o (.i .i64)]
def vG:=λb c d w (Q:L3 (L3 (Int->WP)))=>aq P 134 #[.pointer b,ae c,ae d] w (XF Q)
def K9:=fY [.o .l,.o .l,.o .l,.o (.i .i64)]
def HE:=λb c d e f g i j w (Q:L3 (L3 (L3 (Int->WP))))=>aq P 135 #[ae b,ae c,.slice d e f,.slice g i j] w (K9 Q)
def PB:=bC (.o .b)
def wB:=λb c d w (Q:Bool->WP)=>aq P 136 #[.pointer b,ae c,ae d] w (PB Q)
def RM:=bC (.o .b)
def xW:=λb c d w (Q:Bool->WP)=>aq P 137 #[.pointer b,ae c,ae d] w (RM Q)
def Tq:=bC (.o (.i .i64))
def wY:=λb c d w (Q:Int->WP)=>aq P 140 #[.slice b c d] w (Tq Q)
def adb:=bC (.o (.i .i64))
def EJ:=λb c w (Q:Int->WP)=>aq P 141 #[ae b,ae c] w (adb Q)
def ade:=fY [.o (.i .i64),.o (.i .i64)]
def n7:=λb c d w (Q:Int->Int->WP)=>aq P 142 #[ae b,ae c,ae d] w (ade Q)
def Vi:=fY [.g [.i .i64,.i .i64,.l],.o (.i .i64),.o (.i .i64)]
def HF:=λb c d e f w (Q:Int->Int->L3 (Int->Int->WP))=>aq P 143 #[.slice b c d,ae e,ae f] w (Vi Q)
def Tr:=fY []
def F9:=λb c d e f g i j l m n w (Q:WP)=>aq P 144 #[.agg #[ae b,ae c,.slice d e f],ae g,.agg #[ae i,ae j,.slice l m n]] w (Tr Q)
def G3:=bC (.o .b)
def iV:=λb c d e w (Q:Bool->WP)=>aq P 145 #[.slice b c d,.int .u8 e] w (G3 Q)
def XG:=fY [.o (.i .i64),.o (.i .i64)]
def ld:=λb c w (Q:Int->Int->WP)=>aq P 146 #[ae b,ae c] w (XG Q)
def Vj:=fY [.o (.i .i64),.o (.i .i64)]
def eM:=λb w (Q:Int->Int->WP)=>aq P 147 #[.pointer b] w (Vj Q)
def Vk:=bC (.o .b)
def tW:=λb c w (Q:Bool->WP)=>aq P 148 #[.pointer b,ae c] w (Vk Q)
def RN:=bC (.o .b)
def ru:=λb c w (Q:Bool->WP)=>aq P 149 #[.pointer b,ae c] w (RN Q)
def yu:=fY [.g [.l,.l],.o .w]
def vH:=λb c d w (Q:L3 (L3 (Value->WP)))=>aq P 150 #[.pointer b,ae c,ae d] w (yu Q)
def Vl:=bC (.o .b)
def CK:=λb c d e f w (Q:Bool->WP)=>aq P 151 #[ae b,ae c,.slice d e f] w (Vl Q)
def PC:=bC (.o .l)
def EK:=λb c d w (Q:L3 WP)=>aq P 152 #[.slice b c d] w (PC Q)
def adf:=bC (.o .b)
def K_:=λb w (Q:Bool->WP)=>aq P 153 #[ae b] w (adf Q)
def FJ:=bC (.o .b)
def nL:=λb c d e w (Q:Bool->WP)=>aq P 154 #[.slice b c d,e] w (FJ Q)
def F_:=bC (.o .b)
def xX:=λb c d w (Q:Bool->WP)=>aq P 155 #[.pointer b,.pointer c,ae d] w (F_ Q)
def Oj:=fY []
def BZ:=λb c w (Q:WP)=>aq P 156 #[.pointer b,.pointer c] w (Oj Q)
def Zj:=fY [.o (.i .i64),.o (.i .i64),.o .b]
def wZ:=λb c d w (Q:Int->Int->Bool->WP)=>aq P 157 #[ae b,ae c,ae d] w (Zj Q)
def z8:=fY [.g [.i .i64,.i .i64,.l],.o .w]
def xY:=λb c d w (Q:Int->Int->L3 (Value->WP))=>aq P 158 #[.pointer b,ae c,ae d] w (z8 Q)
def Zk:=bC (.o (.i .i64))
def om:=λb c d e w (Q:Int->WP)=>aq P 159 #[ae b,ae c,ae d,ae e] w (Zk Q)
def AL:=bC (.o (.i .i64))
def yW:=λb c d e w (Q:Int->WP)=>aq P 160 #[.slice b c d,.int .u8 e] w (AL Q)
def IU:=fY [.g [.i .i64,.i .i64,.l],.o .b]
def tX:=λb c w (Q:Int->Int->L3 (Bool->WP))=>aq P 161 #[.pointer b,ae c] w (IU Q)
def z9:=bC (.o .l)
def B0:=λb c d w (Q:L3 WP)=>aq P 162 #[.pointer b,.pointer c,ae d] w (z9 Q)
def yX:=bC (.o .p)
def wC:=λb c w (Q:OA->WP)=>aq P 163 #[.pointer b,ae c] w (yX Q)
def nF:=fY [.g [.l,.l],.o (.i .i64)]
def oo:=λb c d e f g i j l m n o w (Q:L3 (L3 (Int->WP)))=>aq P 164 #[.pointer b,ae c,ae d,ae e,.agg #[ae f,ae g,.slice i j l],.slice m n o] w (nF Q)
def PD:=bC (.o (.i .i64))
def i_:=λb c w (Q:Int->WP)=>aq P 165 #[.pointer b,ae c] w (PD Q)
def yY:=bC (.o (.i .i64))
def w8:=λb c d e w (Q:Int->WP)=>aq P 166 #[.slice b c d,e] w (yY Q)
def RO:=fY [.o .l,.o .w]
def xZ:=λb c w (Q:L3 (Value->WP))=>aq P 167 #[.pointer b,ae c] w (RO Q)
def ahU:=fY [.o .l,.o (.i .i64)]
def HG:=λb c d e f w (Q:L3 (Int->WP))=>aq P 168 #[.agg #[ae b,ae c,.slice d e f]] w (ahU Q)
def aa5:=bC (.o .b)
def Dx:=λb c d e f g w (Q:Bool->WP)=>aq P 169 #[.slice b c d,.slice e f g] w (aa5 Q)
def PE:=bC (.o (.i .i64))
def wD:=λb w (Q:Int->WP)=>aq P 170 #[.pointer b] w (PE Q)
def La:=bC (.o .l)
def oq:=λb c w (Q:L3 WP)=>aq P 171 #[.pointer b,ae c] w (La Q)
def Lb:=bC (.o .l)
def B2:=λb c w (Q:L3 WP)=>aq P 172 #[.pointer b,ae c] w (Lb Q)
def Vm:=bC (.o (.i .i64))
def z_:=λb c w (Q:Int->WP)=>aq P 173 #[.pointer b,ae c] w (Vm Q)
def PF:=bC (.o (.i .i64))
def EL:=λb c d e w (Q:Int->WP)=>aq P 174 #[ae b,ae c,ae d,ae e] w (PF Q)
def RP:=bC (.o (.i .i64))
def x6:=λb w (Q:Int->WP)=>aq P 175 #[.pointer b] w (RP Q)
def adg:=bC (.o .l)
def kG:=λb c d w (Q:L3 WP)=>aq P 176 #[.slice b c d] w (adg Q)
def Fh:=bC (.o (.i .i64))
def wE:=λb w (Q:Int->WP)=>aq P 177 #[.pointer b] w (Fh Q)
def ja:=bC (.o .p)
def tY:=λb c w (Q:OA->WP)=>aq P 178 #[.pointer b,ae c] w (ja Q)
def af9:=bC (.o .b)
def Bn:=λb c d e f g i j w (Q:Bool->WP)=>aq P 179 #[.agg #[ae b,ae c,.slice d e f],.slice g i j] w (af9 Q)
def Np:=fY [.o (.i .i64),.o .b,.o .b]
def Dy:=λb c d w (Q:Int->Bool->Bool->WP)=>aq P 180 #[.pointer b,ae c,ae d] w (Np Q)
def adh:=bC (.o .b)
def EM:=λb c d e f g w (Q:Bool->WP)=>aq P 181 #[.slice b c d,.slice e f g] w (adh Q)
def af_:=fY []
def sj:=λb w (Q:WP)=>aq P 182 #[.pointer b] w (af_ Q)
def aga:=bC (.g [.l,.l])
def Bo:=λb c d e f g w (Q:L3 (L3 WP))=>aq P 183 #[.agg #[.slice b c d,.slice e f g]] w (aga Q)
def Nq:=fY [.g [.l,.l],.o (.i .i64)]
def Dz:=λb c d e f g i j w (Q:L3 (L3 (Int->WP)))=>aq P 184 #[.agg #[ae b,ae c,.slice d e f],.slice g i j] w (Nq Q)
def DA:=bC (.o .l)
def jh:=λb c d w (Q:L3 WP)=>aq P 185 #[.slice b c d] w (DA Q)
def RQ:=fY [.o .l,.o .w]
def nM:=λb c w (Q:L3 (Value->WP))=>aq P 186 #[.pointer b,ae c] w (RQ Q)
def PG:=fY [.o .l,.o .w]
def qw:=λb c w (Q:L3 (Value->WP))=>aq P 187 #[.pointer b,ae c] w (PG Q)
def Aa:=bC (.o .l)
def rM:=λb c d e w (Q:L3 WP)=>aq P 188 #[.slice b c d,ae e] w (Aa Q)
def tZ:=fY [.o .l,.o .w]
def x7:=λb c w (Q:L3 (Value->WP))=>aq P 189 #[.pointer b,ae c] w (tZ Q)
def ahV:=bC (.o .b)
def uO:=λb c d e f w (Q:Bool->WP)=>aq P 190 #[.agg #[ae b,ae c,.slice d e f]] w (ahV Q)
def CL:=fY [.o (.i .i64),.o .l]
def EO:=λb c d e f w (Q:Int->L3 WP)=>aq P 191 #[.agg #[ae b,ae c,.slice d e f]] w (CL Q)
def uZ:=bC (.o .l)
def B3:=λb c d w (Q:L3 WP)=>aq P 192 #[ae b,ae c,ae d] w (uZ Q)
def aa6:=bC (.o .b)
def s_:=λb c w (Q:Bool->WP)=>aq P 193 #[.pointer b,ae c] w (aa6 Q)
def Zl:=bC (.g [.i .i64,.i .i64,.i .i64,.i .i64])
def w9:=λw (Q:Int->Int->Int->Int->WP)=>aq P 194 #[] w (Zl Q)
def aa7:=bC (.o (.i .i64))
def yw:=λb c d e w (Q:Int->WP)=>aq P 195 #[ae b,ae c,ae d,ae e] w (aa7 Q)
def BE:=fY []
def kO:=λb c d e w (Q:WP)=>aq P 196 #[.slice b c d,e] w (BE Q)
def aa8:=bC (.o (.i .i64))
def DB:=λb c d e f g w (Q:Int->WP)=>aq P 197 #[.agg #[ae b,ae c,ae d],.agg #[ae e,ae f,ae g]] w (aa8 Q)
def ji:=bC (.o .l)
def lj:=λb c d w (Q:L3 WP)=>aq P 198 #[.slice b c d] w (ji Q)
def G_:=bC (.o .l)
def yZ:=λb w (Q:L3 WP)=>aq P 199 #[.pointer b] w (G_ Q)
def w_:=bC (.g [.i .i64,.l,.l])
def Ab:=λb c w (Q:Int->L3 (L3 WP))=>aq P 200 #[.pointer b,ae c] w (w_ Q)
def qg:=bC (.o .l)
def oX:=λb c d e w (Q:L3 WP)=>aq P 201 #[.slice b c d,ae e] w (qg Q)
def ahW:=bC (.o .p)
def CM:=λw (Q:OA->WP)=>aq P 202 #[] w (ahW Q)
def kz:=bC (.o .m)
def t_:=λb c w (Q:ON->WP)=>aq P 203 #[.pointer b,ae c] w (kz Q)
def T_:=bC (.o .l)
def y6:=λb c w (Q:L3 WP)=>aq P 204 #[.pointer b,ae c] w (T_ Q)
def RR:=bC (.o .b)
def ry:=λb c d w (Q:Bool->WP)=>aq P 205 #[.pointer b,ae c,ae d] w (RR Q)
def Vn:=fY []
def mP:=λb c d w (Q:WP)=>aq P 206 #[.pointer b,ae c,ae d] w (Vn Q)
def DC (Q:Int->Int->Bool->World->Prop)(v:Value)(w:World):Prop:=
 dT v λc=>dG c λd e=>dI .i64 d λf=>dG e λg i=>dI .i64 g λj=>dG i λl m=>dB l λn=>kM m<|Q f j n w
def jE:=λb w (Q:Int->Int->Bool->WP)=>aq P 207 #[.pointer b] w (DC Q)
def He {b:Option Addr}{w:World}{Q Q':Int->Int->Bool->World->Prop}(hq:∀a b c w,Q a b c w->Q' a b c w)(h:jE b w Q):jE b w Q':=by
 refine aq.mono ?_ h
 intro v w' h0
 unfold DC at h0⊢
 obtain⟨c,rfl,h1⟩:=acX h0
 obtain⟨d,e,rfl,h2⟩:=jF h1
 obtain⟨f,rfl,h3⟩:=CC h2
 obtain⟨g,i,rfl,h4⟩:=jF h3
 obtain⟨j,rfl,h5⟩:=CC h4
 obtain⟨l,m,rfl,h6⟩:=jF h5
 obtain⟨n,rfl,h7⟩:=Hs h6
 obtain⟨rfl,h8⟩:=rH h7
 exact hq _ _ _ w' h8
def B4:=bC (.o .l)
def Ac:=λb c w (Q:L3 WP)=>aq P 208 #[.pointer b,ae c] w (B4 Q)
def zK:=bC (.o .b)
def nY:=λb c d e w (Q:Bool->WP)=>aq P 209 #[.slice b c d,e] w (zK Q)
def aa9:=bC (.o .b)
def DD:=λb c d e w (Q:Bool->WP)=>aq P 210 #[.agg #[ae b,ae c,ae d],.pointer e] w (aa9 Q)
def agb:=bC (.o .b)
def Ga:=λb c d e f g i w (Q:Bool->WP)=>aq P 211 #[.agg #[ae b,ae c,.slice d e f],ae g,ae i] w (agb Q)
def IV:=fY []
def ug:=λb c w (Q:WP)=>aq P 212 #[.pointer b,ae c] w (IV Q)
def Lc:=fY []
def xd:=λb c w (Q:WP)=>aq P 213 #[.pointer b,ae c] w (Lc Q)
def tf:=bC (.o .b)
def rN:=λb c d e f g w (Q:Bool->WP)=>aq P 214 #[.slice b c d,.slice e f g] w (tf Q)
def Ld:=bC (.o .l)
def kP:=λb c d w (Q:L3 WP)=>aq P 215 #[.slice b c d] w (Ld Q)
def Le:=fY [.o .l,.o (.i .i64)]
def xe:=λb c d e f g i j w (Q:L3 (Int->WP))=>aq P 216 #[.agg #[ae b,ae c,.slice d e f],.slice g i j] w (Le Q)
def Vo:=bC (.o (.i .i64))
def Ad:=λb c w (Q:Int->WP)=>aq P 217 #[.pointer b,ae c] w (Vo Q)
def XH:=fY [.o (.i .u64),.o (.i .u64)]
def qB:=λb c w (Q:Int->Int->WP)=>aq P 218 #[.int .u64 b,.int .u64 c] w (XH Q)
def adi:=bC (.o .b)
def Ae:=λb w (Q:Bool->WP)=>aq P 220 #[ae b] w (adi Q)
def y7:=bC (.o .l)
def HH:=λb c d e f g w (Q:L3 WP)=>aq P 221 #[.agg #[ae b,ae c,.slice d e f],ae g] w (y7 Q)
def EP:=bC (.o .l)
def B5:=λb c d w (Q:L3 WP)=>aq P 222 #[ae b,ae c,ae d] w (EP Q)
def cK:=fY []
def fk:=λb c d e f g i w (Q:WP)=>aq P 223 #[.slice b c d,ae e,ae f,ae g,i] w (cK Q)
def XI:=bC (.o (.i .i64))
def vJ:=λb w (Q:Int->WP)=>aq P 224 #[.int .u64 b] w (XI Q)
def PI:=bC (.o (.i .i64))
def ER:=λb c d w (Q:Int->WP)=>aq P 225 #[.slice b c d] w (PI Q)
def Ua:=bC (.o (.i .i64))
def ot:=λb c w (Q:Int->WP)=>aq P 226 #[ae b,ae c] w (Ua Q)
def CN:=fY [.o .l,.o (.i .i64)]
def ES:=λb c d e f g i j w (Q:L3 (Int->WP))=>aq P 227 #[.agg #[ae b,ae c,.slice d e f],.slice g i j] w (CN Q)
def Lg:=fY []
def B6:=λb w (Q:WP)=>aq P 228 #[.pointer b] w (Lg Q)
def XJ:=fY [.o (.i .i64),.o (.i .i64),.o .b]
def A7:=λb w (Q:Int->Int->Bool->WP)=>aq P 229 #[.pointer b] w (XJ Q)
def ou:=fY []
def Af:=λb w (Q:WP)=>aq P 230 #[.pointer b] w (ou Q)
def Vp:=fY [.o .p,.o (.i .i64),.o .b]
def uh:=λb c w (Q:OA->Int->Bool->WP)=>aq P 231 #[.pointer b,ae c] w (Vp Q)
def PJ:=bC (.o (.i .i64))
def wF:=λb c d w (Q:Int->WP)=>aq P 232 #[.pointer b,ae c,ae d] w (PJ Q)
def qC:=bC (.o (.i .i64))
def pC:=λb c d e w (Q:Int->WP)=>aq P 233 #[.slice b c d,e] w (qC Q)
def ahX:=bC (.o .p)
def CO:=λb w (Q:OA->WP)=>aq P 234 #[ae b] w (ahX Q)
def uj:=bC (.o .l)
def kj:=λb c d e w (Q:L3 WP)=>aq P 235 #[.slice b c d,ae e] w (uj Q)
def Fi:=fY []
def Dh:=λb w (Q:WP)=>aq P 236 #[.pointer b] w (Fi Q)
def CP:=bC (.o (.i .i64))
def Ag:=λb c d e f w (Q:Int->WP)=>aq P 237 #[.slice b c d,ae e,ae f] w (CP Q)
def uk:=bC (.o (.i .i64))
def DW:=λb c d w (Q:Int->WP)=>aq P 238 #[.pointer b,ae c,ae d] w (uk Q)
def Ub:=fY [.o (.i .u64),.o (.i .u64)]
def Fj:=λb c w (Q:Int->Int->WP)=>aq P 240 #[.int .u64 b,.int .u64 c] w (Ub Q)
def DX:=bC (.o .b)
def mQ:=λb c d e w (Q:Bool->WP)=>aq P 241 #[.slice b c d,e] w (DX Q)
def adj:=bC (.o .b)
def Lh:=λb c w (Q:Bool->WP)=>aq P 242 #[.int .u8 b,.pointer c] w (adj Q)
def ik:=fY []
def jK:=λb c d e f g w (Q:WP)=>aq P 243 #[.slice b c d,ae e,ae f,g] w (ik Q)
def mR:=fY []
def lR:=λb c d e f g w (Q:WP)=>aq P 244 #[.slice b c d,ae e,ae f,g] w (mR Q)
def iq:=fY []
def jL:=λb c d e f g w (Q:WP)=>aq P 245 #[.slice b c d,ae e,ae f,g] w (iq Q)
def lq:=fY [.o (.i .i64),.o (.i .i64)]
def kH:=λb c d e f g w (Q:Int->Int->WP)=>aq P 246 #[.slice b c d,ae e,ae f,g] w (lq Q)
def p8:=fY []
def j7:=λb c d e f g w (Q:WP)=>aq P 247 #[.slice b c d,ae e,ae f,g] w (p8 Q)
def bt:=bC (.o .b)
def iB:=λb c d e f g w (Q:Bool->WP)=>aq P 248 #[.slice b c d,ae e,ae f,g] w (bt Q)
def eE:=bC (.o (.i .i64))
def jD:=λb c d e f g i w (Q:Int->WP)=>aq P 249 #[.slice b c d,ae e,ae f,ae g,i] w (eE Q)
def cS:=fY [.o (.i .i64),.o .b]
def lu:=λb c d e f g i w (Q:Int->Bool->WP)=>aq P 250 #[.slice b c d,ae e,ae f,ae g,i] w (cS Q)
def vK:=bC (.o (.i .i64))
def Fk:=λb w (Q:Int->WP)=>aq P 252 #[.int .u64 b] w (vK Q)
def XK:=bC (.o .b)
def qD:=λb w (Q:Bool->WP)=>aq P 253 #[ae b] w (XK Q)
def Ts:=bC (.o .b)
def Gb:=λb c d e f g i j w (Q:Bool->WP)=>aq P 254 #[.agg #[ae b,ae c,.slice d e f],.slice g i j] w (Ts Q)
def ahY:=fY [.o .l,.o (.i .i64)]
def HI:=λb c d e f g w (Q:L3 (Int->WP))=>aq P 255 #[.agg #[ae b,ae c,.slice d e f],ae g] w (ahY Q)
def Uc:=bC (.o .b)
def sq:=λb c d e w (Q:Bool->WP)=>aq P 256 #[.agg #[ae b,ae c],.agg #[ae d,ae e]] w (Uc Q)
def XL:=bC (.o (.i .i64))
def A8:=λb w (Q:Int->WP)=>aq P 257 #[.pointer b] w (XL Q)
def Ud:=fY [.o (.i .i64),.o .b]
def Fl:=λb c w (Q:Int->Bool->WP)=>aq P 258 #[.pointer b,ae c] w (Ud Q)
def DY:=fY []
def jM:=λb w (Q:WP)=>aq P 259 #[.pointer b] w (DY Q)
def XM:=bC (.o (.i .i64))
def qE:=λb w (Q:Int->WP)=>aq P 260 #[.pointer b] w (XM Q)
def JU:=fY [.o (.i .i64),.o (.i .i64),.o .b]
def A9:=λb w (Q:Int->Int->Bool->WP)=>aq P 261 #[.pointer b] w (JU Q)
def pD:=fY []
def sU:=λb c w (Q:WP)=>aq P 262 #[.pointer b,ae c] w (pD Q)
def XN:=bC (.o .b)
def nG:=λb c d w (Q:Bool->WP)=>aq P 263 #[.pointer b,ae c,ae d] w (XN Q)
def xg:=bC (.o (.i .i64))
def u6:=λb c d e w (Q:Int->WP)=>aq P 264 #[.slice b c d,e] w (xg Q)
def jv:=fY []
def iY:=λb c d e f g i w (Q:WP)=>aq P 265 #[.slice b c d,ae e,ae f,ae g,i] w (jv Q)
def Kc:=bC (.o (.i .u64))
def zS:=λb w (Q:Int->WP)=>aq P 266 #[ae b] w (Kc Q)
def Lj:=bC (.o (.i .u64))
def sV:=λb w (Q:Int->WP)=>aq P 267 #[.pointer b] w (Lj Q)
def zL:=bC (.o (.i .i64))
def fg:=λb c d e f g w (Q:Int->WP)=>aq P 268 #[.slice b c d,ae e,.pointer f,g] w (zL Q)
def DZ:=bC (.o (.i .i64))
def jw:=λb c d e f g i j w (Q:Int->WP)=>aq P 269 #[.slice b c d,ae e,ae f,ae g,.pointer i,j] w (DZ Q)
def ajW:=bC (.o (.i .i64))
def Jv:=λb c d e f g w (Q:Int->WP)=>aq P 270 #[.agg #[ae b,ae c,.slice d e f],ae g] w (ajW Q)
def v7:=fY [.o (.i .i64),.o .b]
def nN:=λb c d e w (Q:Int->Bool->WP)=>aq P 271 #[.slice b c d,ae e] w (v7 Q)
def Vq:=bC (.o .b)
def Ah:=λb c w (Q:Bool->WP)=>aq P 272 #[.pointer b,ae c] w (Vq Q)
def XO:=bC (.o .b)
def vL:=λb c d w (Q:Bool->WP)=>aq P 273 #[.pointer b,ae c,ae d] w (XO Q)
def PK:=bC (.o .b)
def qx:=λb w (Q:Bool->WP)=>aq P 274 #[.pointer b] w (PK Q)
def Ue:=bC (.o (.i .i64))
def y8:=λb w (Q:Int->WP)=>aq P 275 #[.pointer b] w (Ue Q)
def My:=fY []
def ir:=λb c d w (Q:WP)=>aq P 276 #[.pointer b,ae c,ae d] w (My Q)
def vM:=bC (.o (.i .i64))
def y9:=λb c d w (Q:Int->WP)=>aq P 277 #[.pointer b,ae c,ae d] w (vM Q)
def D0:=fY [.o (.i .i64),.o (.i .i64)]
def gN:=λb c d e f g i w (Q:Int->Int->WP)=>aq P 278 #[.slice b c d,ae e,ae f,.pointer g,i] w (D0 Q)
def ajX:=bC (.o .b)
def Jw:=λb c d e f g w (Q:Bool->WP)=>aq P 279 #[.agg #[ae b,ae c,.slice d e f],ae g] w (ajX Q)
def Zm:=bC (.o .b)
def IW:=λb c w (Q:Bool->WP)=>aq P 280 #[ae b,ae c] w (Zm Q)
def RS:=bC (.o .b)
def nO:=λb w (Q:Bool->WP)=>aq P 281 #[ae b] w (RS Q)
def Uf:=fY []
def y_:=λb c w (Q:WP)=>aq P 282 #[.pointer b,ae c] w (Uf Q)
def Vr:=bC (.o .w)
def Gc:=λb w (Q:Value->WP)=>aq P 302 #[.pointer b] w (Vr Q)
def PL:=bC (.o .w)
def Di:=λb w (Q:Value->WP)=>aq P 321 #[.pointer b] w (PL Q)
def Ug:=bC (.o .w)
def Fm:=λb w (Q:Value->WP)=>aq P 325 #[.pointer b] w (Ug Q)
def um:=λa b c w Q=>bB (aV a b c w Q) (NZ (IntKind.wrap .i64 ((IntKind.wrap .i64 (c-b))+1))<|cond (decide ((Int.tmod a (IntKind.wrap .i64 ((IntKind.wrap .i64 (c-b))+1)))<0)) (Q (IntKind.wrap .i64 (b+(IntKind.wrap .i64 ((IntKind.wrap .i64 ((IntKind.wrap .i64 ((Int.tmod a (IntKind.wrap .i64 ((IntKind.wrap .i64 (c-b))+1)))+c))-b))+1)))) w) (Q (IntKind.wrap .i64 (b+(Int.tmod a (IntKind.wrap .i64 ((IntKind.wrap .i64 (c-b))+1))))) w)) (ok 24) [] [] Tryz.func10
def Uh:=λa w Q=>bB (vF a w Q) (cond (!a.isNone) (cz P 180 none w λb w=>wA a λc=>St (c.add 1) (.slice none 0 0) w λw=>wA a λd=>St (d.add 2) (.map b) w λw=>wA a λe=>St (e.add 3) (ae (-1)) w λw=>wA a λf=>St (f.add 4) (ae (-1)) w λw=>Q w) (Q w)) (ok 17) [] [] Tryz.func108
def agc:=λa w Q=>bB (Jr a w Q) (cond (decide (a<1)) (Q none w) (Bx [ae a,.slice none 0 0,.map none,ae 0,ae 0] 182 w λb w=>vF (some b) w λw=>Q (some b) w)) (ok 12) [] [] Tryz.func74
def aa_:=λa w Q=>bB (F1 a w Q) (cond (decide (a<1)) (Q none w) (Jr a w λb w=>Bx [.pointer b,.slice none 0 0,.int .u64 0,.int .u64 0,.int .u64 0,.int .u64 0,.int .u64 0,.int .u64 0] 135 w λc w=>Q (some c) w)) (ok 9) [] [] Tryz.func47
def agd:=λa w Q=>bB (Jo a w Q) (cond (decide (a<1)) (Q none w) (F1 a w λb w=>Bx [.pointer none,.pointer none,.pointer none,.pointer b,.int .u64 0,.int .u64 0,.int .u64 0,.int .u64 0,.int .u64 0,.int .u64 0] 106 w λc w=>Q (some c) w)) (ok 9) [] [] Tryz.func27
def age:=λa b w Q=>bB (Em a b w Q) (cond (decide (a<1)) (Q none w) (cond (decide (b<1)) (Q none w) (cond (decide (b>65536)) (Q none w) (Jo a w λc w=>Bx [ae b,.pointer c,.pointer none] 72 w λd w=>Q (some d) w)))) (ok 20) [] [] Tryz.func11
def Fo:=λa w Q=>bB (yN a w Q) (cond a.isNone (Q none w) (wA a λb=>bg (b.add 1) w λc=>Q c w)) (ok 9) [] [] Tryz.func39
def Vs:=λa b c d e f w Q=>bB (cW a b c d e f w Q) (Bx [.int .u64 a,.int .u64 b,.int .u64 c,.int .u64 d,.int .u64 e,.int .u64 f] 32 w λg w=>Al T 175 w λi w=>af .u64 g w λj=>af .u64 (g.add 1) w λl=>af .u64 (g.add 2) w λm=>af .u64 (g.add 3) w λn=>af .u64 (g.add 4) w λo=>af .u64 (g.add 5) w λp=>St (i.add 0) (.int .u64 j) w λw=>St (i.add 1) (.int .u64 l) w λw=>St (i.add 2) (.int .u64 m) w λw=>St (i.add 3) (.int .u64 n) w λw=>St (i.add 4) (.int .u64 o) w λw=>St (i.add 5) (.int .u64 p) w λw=>af .u64 (i.add 0) w λq=>af .u64 (i.add 1) w λr=>af .u64 (i.add 2) w λs=>af .u64 (i.add 3) w λt=>af .u64 (i.add 4) w λu=>af .u64 (i.add 5) w λv=>Q q r s t u v w) (ok 16) [] [] Tryz.func104
def aba:=λa b w Q=>bB (r7 a b w Q) (cond (decide (a>(IntKind.wrap .u64 (18446744073709551615-b)))) (Q 18446744073709551615 w) (Q (IntKind.wrap .u64 (a+b)) w)) (ok 12) [] [] Tryz.func105
def sW (Q:Int->Int->Int->Int->Int->Int->WP)(R3:Addr->Addr->Addr->Int->WP)(a b c:Addr)(d:Int)(w:World):Prop:=cond (decide (d<6)) (aJ d 6<|af .u64 (b.add (d.toNat*1)) w.drew λe=>aJ d 6<|af .u64 (c.add (d.toNat*1)) w.drew λf=>r7 e f w.drew λg w=>aJ d 6<|St (b.add (d.toNat*1)) (.int .u64 g) w λw=>R3 a b c (IntKind.wrap .i64 (d+1)) w) (aJ 0 6<|af .u64 (b.add (((0:Int).toNat)*1)) w λi=>aJ 1 6<|af .u64 (b.add (((1:Int).toNat)*1)) w λj=>aJ 2 6<|af .u64 (b.add (((2:Int).toNat)*1)) w λl=>aJ 3 6<|af .u64 (b.add (((3:Int).toNat)*1)) w λm=>aJ 4 6<|af .u64 (b.add (((4:Int).toNat)*1)) w λn=>aJ 5 6<|af .u64 (b.add (((5:Int).toNat)*1)) w λo=>St (a.add 0) (.int .u64 i) w λw=>St (a.add 1) (.int .u64 j) w λw=>St (a.add 2) (.int .u64 l) w λw=>St (a.add 3) (.int .u64 m) w λw=>St (a.add 4) (.int .u64 n) w λw=>St (a.add 5) (.int .u64 o) w λw=>af .u64 (a.add 0) w λp=>af .u64 (a.add 1) w λq=>af .u64 (a.add 2) w λr=>af .u64 (a.add 3) w λs=>af .u64 (a.add 4) w λt=>af .u64 (a.add 5) w λu=>Q p q r s t u w)
def p9 (Q:Int->Int->Int->Int->Int->Int->WP):Nat->Addr->Addr->Addr->Int->WP
 |0,_,_,_,_,_=>False
 |k+1,a,b,c,d,w=>sW Q (p9 Q k) a b c d w
def gU (Q:Int->Int->Int->Int->Int->Int->WP)(a b c:Addr)(w:World):Prop:=∃k',p9 Q k' a b c 0 w
noncomputable def HJ:cv:=[(1,.op 0 (.op 2 (.br (.op 1 (.br (.op 3 (.br (.op 4 (.op 5 (.op 6 (.op 7 .done)))) (.op 5 (.op 4 (.op 6 (.op 7 .done)))))) (.br (.op 4 (.br (.op 3 (.op 5 (.op 6 (.op 7 .done)))) (.op 5 (.op 3 (.op 6 (.op 7 .done)))))) (.op 5 (.br (.op 3 (.op 4 (.op 6 (.op 7 .done)))) (.op 4 (.op 3 (.op 6 (.op 7 .done))))))))) (.br (.op 4 (.br (.op 1 (.br (.op 3 (.op 5 (.op 6 (.op 7 .done)))) (.op 5 (.op 3 (.op 6 (.op 7 .done)))))) (.op 5 (.op 1 (.op 3 (.op 6 (.op 7 .done))))))) (.op 5 (.br (.op 1 (.br (.op 3 (.op 4 (.op 6 (.op 7 .done)))) (.op 4 (.op 3 (.op 6 (.op 7 .done)))))) (.op 4 (.op 1 (.op 3 (.op 6 (.op 7 .done))))))))))),(5,sp 0 7 (.op 7 (.op 8 (.op 9 .done))))]
def agf (Q):∀k,Bk 38 Tryz.f70 (Jq Q) 3 [(4,.a),(5,.a),(6,.a),(12,.i .i64)] (p9 Q k):=bK λk h=>aT (ok 38) HJ [aM h]
def agh (Q):Bk 38 Tryz.f70 (Jq Q) 2 [(4,.a),(5,.a),(6,.a)] (gU Q):=aT (ok 38) HJ [ct (agf Q)]
def abb:=λa b c d e f g i j l m n w Q=>bB (wU a b c d e f g i j l m n w Q) (Bx [.int .u64 a,.int .u64 b,.int .u64 c,.int .u64 d,.int .u64 e,.int .u64 f] 32 w λo w=>Bx [.int .u64 g,.int .u64 i,.int .u64 j,.int .u64 l,.int .u64 m,.int .u64 n] 32 w λp w=>Al T 32 w λq w=>af .u64 (o.add 0) w.drew λr=>af .u64 (o.add 1) w.drew λs=>af .u64 (o.add 2) w.drew λt=>af .u64 (o.add 3) w.drew λu=>af .u64 (o.add 4) w.drew λv=>af .u64 (o.add 5) w.drew λx=>af .u64 (p.add 0) w.drew λy=>af .u64 (p.add 1) w.drew λz=>af .u64 (p.add 2) w.drew λa1=>af .u64 (p.add 3) w.drew λb1=>af .u64 (p.add 4) w.drew λc1=>af .u64 (p.add 5) w.drew λd1=>(cW r s t u v x w.drew λe1 f1 g1 i1 j1 l1 w=>w.cell? (p.add 0)=some (.int .u64 y)/\w.cell? (p.add 1)=some (.int .u64 z)/\w.cell? (p.add 2)=some (.int .u64 a1)/\w.cell? (p.add 3)=some (.int .u64 b1)/\w.cell? (p.add 4)=some (.int .u64 c1)/\w.cell? (p.add 5)=some (.int .u64 d1)/\(cW y z a1 b1 c1 d1 w λm1 n1 o1 p1 q1 r1 w=>(Al T 175 w λs1 w=>w.cell? (p.add 0)=some (.int .u64 y)/\w.cell? (p.add 1)=some (.int .u64 z)/\w.cell? (p.add 2)=some (.int .u64 a1)/\w.cell? (p.add 3)=some (.int .u64 b1)/\w.cell? (p.add 4)=some (.int .u64 c1)/\w.cell? (p.add 5)=some (.int .u64 d1)/\w.cell? (o.add 0)=some (.int .u64 r)/\w.cell? (o.add 1)=some (.int .u64 s)/\w.cell? (o.add 2)=some (.int .u64 t)/\w.cell? (o.add 3)=some (.int .u64 u)/\w.cell? (o.add 4)=some (.int .u64 v)/\w.cell? (o.add 5)=some (.int .u64 x)/\Al T 175 w λt1 w=>w.cell? (p.add 0)=some (.int .u64 y)/\w.cell? (p.add 1)=some (.int .u64 z)/\w.cell? (p.add 2)=some (.int .u64 a1)/\w.cell? (p.add 3)=some (.int .u64 b1)/\w.cell? (p.add 4)=some (.int .u64 c1)/\w.cell? (p.add 5)=some (.int .u64 d1)/\w.cell? (o.add 0)=some (.int .u64 r)/\w.cell? (o.add 1)=some (.int .u64 s)/\w.cell? (o.add 2)=some (.int .u64 t)/\w.cell? (o.add 3)=some (.int .u64 u)/\w.cell? (o.add 4)=some (.int .u64 v)/\w.cell? (o.add 5)=some (.int .u64 x)/\St (s1.add 0) (.int .u64 e1) w λw=>St (s1.add 1) (.int .u64 f1) w λw=>St (s1.add 2) (.int .u64 g1) w λw=>St (s1.add 3) (.int .u64 i1) w λw=>St (s1.add 4) (.int .u64 j1) w λw=>St (s1.add 5) (.int .u64 l1) w λw=>St (t1.add 0) (.int .u64 m1) w λw=>St (t1.add 1) (.int .u64 n1) w λw=>St (t1.add 2) (.int .u64 o1) w λw=>St (t1.add 3) (.int .u64 p1) w λw=>St (t1.add 4) (.int .u64 q1) w λw=>St (t1.add 5) (.int .u64 r1) w λw=>gU Q q s1 t1 w)/\(Al T 175 w λu1 w=>w.cell? (p.add 0)=some (.int .u64 y)/\w.cell? (p.add 1)=some (.int .u64 z)/\w.cell? (p.add 2)=some (.int .u64 a1)/\w.cell? (p.add 3)=some (.int .u64 b1)/\w.cell? (p.add 4)=some (.int .u64 c1)/\w.cell? (p.add 5)=some (.int .u64 d1)/\w.cell? (o.add 0)=some (.int .u64 r)/\w.cell? (o.add 1)=some (.int .u64 s)/\w.cell? (o.add 2)=some (.int .u64 t)/\w.cell? (o.add 3)=some (.int .u64 u)/\w.cell? (o.add 4)=some (.int .u64 v)/\w.cell? (o.add 5)=some (.int .u64 x)/\Al T 175 w λv1 w=>w.cell? (p.add 0)=some (.int .u64 y)/\w.cell? (p.add 1)=some (.int .u64 z)/\w.cell? (p.add 2)=some (.int .u64 a1)/\w.cell? (p.add 3)=some (.int .u64 b1)/\w.cell? (p.add 4)=some (.int .u64 c1)/\w.cell? (p.add 5)=some (.int .u64 d1)/\w.cell? (o.add 0)=some (.int .u64 r)/\w.cell? (o.add 1)=some (.int .u64 s)/\w.cell? (o.add 2)=some (.int .u64 t)/\w.cell? (o.add 3)=some (.int .u64 u)/\w.cell? (o.add 4)=some (.int .u64 v)/\w.cell? (o.add 5)=some (.int .u64 x)/\St (v1.add 0) (.int .u64 e1) w λw=>St (v1.add 1) (.int .u64 f1) w λw=>St (v1.add 2) (.int .u64 g1) w λw=>St (v1.add 3) (.int .u64 i1) w λw=>St (v1.add 4) (.int .u64 j1) w λw=>St (v1.add 5) (.int .u64 l1) w λw=>St (u1.add 0) (.int .u64 m1) w λw=>St (u1.add 1) (.int .u64 n1) w λw=>St (u1.add 2) (.int .u64 o1) w λw=>St (u1.add 3) (.int .u64 p1) w λw=>St (u1.add 4) (.int .u64 q1) w λw=>St (u1.add 5) (.int .u64 r1) w λw=>gU Q q v1 u1 w))/\((Al T 175 w λx1 w=>w.cell? (p.add 0)=some (.int .u64 y)/\w.cell? (p.add 1)=some (.int .u64 z)/\w.cell? (p.add 2)=some (.int .u64 a1)/\w.cell? (p.add 3)=some (.int .u64 b1)/\w.cell? (p.add 4)=some (.int .u64 c1)/\w.cell? (p.add 5)=some (.int .u64 d1)/\w.cell? (o.add 0)=some (.int .u64 r)/\w.cell? (o.add 1)=some (.int .u64 s)/\w.cell? (o.add 2)=some (.int .u64 t)/\w.cell? (o.add 3)=some (.int .u64 u)/\w.cell? (o.add 4)=some (.int .u64 v)/\w.cell? (o.add 5)=some (.int .u64 x)/\(cW y z a1 b1 c1 d1 w λy1 z1 a2 b2 c2 d2 w=>Al T 175 w λe2 w=>w.cell? (p.add 0)=some (.int .u64 y)/\w.cell? (p.add 1)=some (.int .u64 z)/\w.cell? (p.add 2)=some (.int .u64 a1)/\w.cell? (p.add 3)=some (.int .u64 b1)/\w.cell? (p.add 4)=some (.int .u64 c1)/\w.cell? (p.add 5)=some (.int .u64 d1)/\w.cell? (o.add 0)=some (.int .u64 r)/\w.cell? (o.add 1)=some (.int .u64 s)/\w.cell? (o.add 2)=some (.int .u64 t)/\w.cell? (o.add 3)=some (.int .u64 u)/\w.cell? (o.add 4)=some (.int .u64 v)/\w.cell? (o.add 5)=some (.int .u64 x)/\St (x1.add 0) (.int .u64 e1) w λw=>St (x1.add 1) (.int .u64 f1) w λw=>St (x1.add 2) (.int .u64 g1) w λw=>St (x1.add 3) (.int .u64 i1) w λw=>St (x1.add 4) (.int .u64 j1) w λw=>St (x1.add 5) (.int .u64 l1) w λw=>St (e2.add 0) (.int .u64 y1) w λw=>St (e2.add 1) (.int .u64 z1) w λw=>St (e2.add 2) (.int .u64 a2) w λw=>St (e2.add 3) (.int .u64 b2) w λw=>St (e2.add 4) (.int .u64 c2) w λw=>St (e2.add 5) (.int .u64 d2) w λw=>gU Q q x1 e2 w)/\(Al T 175 w λf2 w=>w.cell? (p.add 0)=some (.int .u64 y)/\w.cell? (p.add 1)=some (.int .u64 z)/\w.cell? (p.add 2)=some (.int .u64 a1)/\w.cell? (p.add 3)=some (.int .u64 b1)/\w.cell? (p.add 4)=some (.int .u64 c1)/\w.cell? (p.add 5)=some (.int .u64 d1)/\w.cell? (o.add 0)=some (.int .u64 r)/\w.cell? (o.add 1)=some (.int .u64 s)/\w.cell? (o.add 2)=some (.int .u64 t)/\w.cell? (o.add 3)=some (.int .u64 u)/\w.cell? (o.add 4)=some (.int .u64 v)/\w.cell? (o.add 5)=some (.int .u64 x)/\cW y z a1 b1 c1 d1 w λg2 i2 j2 l2 m2 n2 w=>St (x1.add 0) (.int .u64 e1) w λw=>St (x1.add 1) (.int .u64 f1) w λw=>St (x1.add 2) (.int .u64 g1) w λw=>St (x1.add 3) (.int .u64 i1) w λw=>St (x1.add 4) (.int .u64 j1) w λw=>St (x1.add 5) (.int .u64 l1) w λw=>St (f2.add 0) (.int .u64 g2) w λw=>St (f2.add 1) (.int .u64 i2) w λw=>St (f2.add 2) (.int .u64 j2) w λw=>St (f2.add 3) (.int .u64 l2) w λw=>St (f2.add 4) (.int .u64 m2) w λw=>St (f2.add 5) (.int .u64 n2) w λw=>gU Q q x1 f2 w))/\(Al T 175 w λo2 w=>w.cell? (p.add 0)=some (.int .u64 y)/\w.cell? (p.add 1)=some (.int .u64 z)/\w.cell? (p.add 2)=some (.int .u64 a1)/\w.cell? (p.add 3)=some (.int .u64 b1)/\w.cell? (p.add 4)=some (.int .u64 c1)/\w.cell? (p.add 5)=some (.int .u64 d1)/\w.cell? (o.add 0)=some (.int .u64 r)/\w.cell? (o.add 1)=some (.int .u64 s)/\w.cell? (o.add 2)=some (.int .u64 t)/\w.cell? (o.add 3)=some (.int .u64 u)/\w.cell? (o.add 4)=some (.int .u64 v)/\w.cell? (o.add 5)=some (.int .u64 x)/\(cW y z a1 b1 c1 d1 w λp2 q2 r2 s2 t2 u2 w=>Al T 175 w λv2 w=>w.cell? (p.add 0)=some (.int .u64 y)/\w.cell? (p.add 1)=some (.int .u64 z)/\w.cell? (p.add 2)=some (.int .u64 a1)/\w.cell? (p.add 3)=some (.int .u64 b1)/\w.cell? (p.add 4)=some (.int .u64 c1)/\w.cell? (p.add 5)=some (.int .u64 d1)/\w.cell? (o.add 0)=some (.int .u64 r)/\w.cell? (o.add 1)=some (.int .u64 s)/\w.cell? (o.add 2)=some (.int .u64 t)/\w.cell? (o.add 3)=some (.int .u64 u)/\w.cell? (o.add 4)=some (.int .u64 v)/\w.cell? (o.add 5)=some (.int .u64 x)/\St (v2.add 0) (.int .u64 e1) w λw=>St (v2.add 1) (.int .u64 f1) w λw=>St (v2.add 2) (.int .u64 g1) w λw=>St (v2.add 3) (.int .u64 i1) w λw=>St (v2.add 4) (.int .u64 j1) w λw=>St (v2.add 5) (.int .u64 l1) w λw=>St (o2.add 0) (.int .u64 p2) w λw=>St (o2.add 1) (.int .u64 q2) w λw=>St (o2.add 2) (.int .u64 r2) w λw=>St (o2.add 3) (.int .u64 s2) w λw=>St (o2.add 4) (.int .u64 t2) w λw=>St (o2.add 5) (.int .u64 u2) w λw=>gU Q q v2 o2 w)/\(Al T 175 w λx2 w=>w.cell? (p.add 0)=some (.int .u64 y)/\w.cell? (p.add 1)=some (.int .u64 z)/\w.cell? (p.add 2)=some (.int .u64 a1)/\w.cell? (p.add 3)=some (.int .u64 b1)/\w.cell? (p.add 4)=some (.int .u64 c1)/\w.cell? (p.add 5)=some (.int .u64 d1)/\w.cell? (o.add 0)=some (.int .u64 r)/\w.cell? (o.add 1)=some (.int .u64 s)/\w.cell? (o.add 2)=some (.int .u64 t)/\w.cell? (o.add 3)=some (.int .u64 u)/\w.cell? (o.add 4)=some (.int .u64 v)/\w.cell? (o.add 5)=some (.int .u64 x)/\cW y z a1 b1 c1 d1 w λy2 z2 a3 b3 c3 d3 w=>St (x2.add 0) (.int .u64 e1) w λw=>St (x2.add 1) (.int .u64 f1) w λw=>St (x2.add 2) (.int .u64 g1) w λw=>St (x2.add 3) (.int .u64 i1) w λw=>St (x2.add 4) (.int .u64 j1) w λw=>St (x2.add 5) (.int .u64 l1) w λw=>St (o2.add 0) (.int .u64 y2) w λw=>St (o2.add 1) (.int .u64 z2) w λw=>St (o2.add 2) (.int .u64 a3) w λw=>St (o2.add 3) (.int .u64 b3) w λw=>St (o2.add 4) (.int .u64 c3) w λw=>St (o2.add 5) (.int .u64 d3) w λw=>gU Q q x2 o2 w))))/\((Al T 175 w.drew λe3 w=>w.cell? (p.add 0)=some (.int .u64 y)/\w.cell? (p.add 1)=some (.int .u64 z)/\w.cell? (p.add 2)=some (.int .u64 a1)/\w.cell? (p.add 3)=some (.int .u64 b1)/\w.cell? (p.add 4)=some (.int .u64 c1)/\w.cell? (p.add 5)=some (.int .u64 d1)/\w.cell? (o.add 0)=some (.int .u64 r)/\w.cell? (o.add 1)=some (.int .u64 s)/\w.cell? (o.add 2)=some (.int .u64 t)/\w.cell? (o.add 3)=some (.int .u64 u)/\w.cell? (o.add 4)=some (.int .u64 v)/\w.cell? (o.add 5)=some (.int .u64 x)/\(cW r s t u v x w λf3 g3 i3 j3 l3 m3 w=>w.cell? (p.add 0)=some (.int .u64 y)/\w.cell? (p.add 1)=some (.int .u64 z)/\w.cell? (p.add 2)=some (.int .u64 a1)/\w.cell? (p.add 3)=some (.int .u64 b1)/\w.cell? (p.add 4)=some (.int .u64 c1)/\w.cell? (p.add 5)=some (.int .u64 d1)/\(cW y z a1 b1 c1 d1 w λn3 o3 p3 q3 r3 s3 w=>Al T 175 w λt3 w=>w.cell? (p.add 0)=some (.int .u64 y)/\w.cell? (p.add 1)=some (.int .u64 z)/\w.cell? (p.add 2)=some (.int .u64 a1)/\w.cell? (p.add 3)=some (.int .u64 b1)/\w.cell? (p.add 4)=some (.int .u64 c1)/\w.cell? (p.add 5)=some (.int .u64 d1)/\w.cell? (o.add 0)=some (.int .u64 r)/\w.cell? (o.add 1)=some (.int .u64 s)/\w.cell? (o.add 2)=some (.int .u64 t)/\w.cell? (o.add 3)=some (.int .u64 u)/\w.cell? (o.add 4)=some (.int .u64 v)/\w.cell? (o.add 5)=some (.int .u64 x)/\St (e3.add 0) (.int .u64 f3) w λw=>St (e3.add 1) (.int .u64 g3) w λw=>St (e3.add 2) (.int .u64 i3) w λw=>St (e3.add 3) (.int .u64 j3) w λw=>St (e3.add 4) (.int .u64 l3) w λw=>St (e3.add 5) (.int .u64 m3) w λw=>St (t3.add 0) (.int .u64 n3) w λw=>St (t3.add 1) (.int .u64 o3) w λw=>St (t3.add 2) (.int .u64 p3) w λw=>St (t3.add 3) (.int .u64 q3) w λw=>St (t3.add 4) (.int .u64 r3) w λw=>St (t3.add 5) (.int .u64 s3) w λw=>gU Q q e3 t3 w)/\(Al T 175 w λu3 w=>w.cell? (p.add 0)=some (.int .u64 y)/\w.cell? (p.add 1)=some (.int .u64 z)/\w.cell? (p.add 2)=some (.int .u64 a1)/\w.cell? (p.add 3)=some (.int .u64 b1)/\w.cell? (p.add 4)=some (.int .u64 c1)/\w.cell? (p.add 5)=some (.int .u64 d1)/\w.cell? (o.add 0)=some (.int .u64 r)/\w.cell? (o.add 1)=some (.int .u64 s)/\w.cell? (o.add 2)=some (.int .u64 t)/\w.cell? (o.add 3)=some (.int .u64 u)/\w.cell? (o.add 4)=some (.int .u64 v)/\w.cell? (o.add 5)=some (.int .u64 x)/\cW y z a1 b1 c1 d1 w λv3 x3 y3 z3 a4 b4 w=>St (e3.add 0) (.int .u64 f3) w λw=>St (e3.add 1) (.int .u64 g3) w λw=>St (e3.add 2) (.int .u64 i3) w λw=>St (e3.add 3) (.int .u64 j3) w λw=>St (e3.add 4) (.int .u64 l3) w λw=>St (e3.add 5) (.int .u64 m3) w λw=>St (u3.add 0) (.int .u64 v3) w λw=>St (u3.add 1) (.int .u64 x3) w λw=>St (u3.add 2) (.int .u64 y3) w λw=>St (u3.add 3) (.int .u64 z3) w λw=>St (u3.add 4) (.int .u64 a4) w λw=>St (u3.add 5) (.int .u64 b4) w λw=>gU Q q e3 u3 w))/\(Al T 175 w λc4 w=>w.cell? (p.add 0)=some (.int .u64 y)/\w.cell? (p.add 1)=some (.int .u64 z)/\w.cell? (p.add 2)=some (.int .u64 a1)/\w.cell? (p.add 3)=some (.int .u64 b1)/\w.cell? (p.add 4)=some (.int .u64 c1)/\w.cell? (p.add 5)=some (.int .u64 d1)/\w.cell? (o.add 0)=some (.int .u64 r)/\w.cell? (o.add 1)=some (.int .u64 s)/\w.cell? (o.add 2)=some (.int .u64 t)/\w.cell? (o.add 3)=some (.int .u64 u)/\w.cell? (o.add 4)=some (.int .u64 v)/\w.cell? (o.add 5)=some (.int .u64 x)/\cW r s t u v x w λd4 e4 f4 g4 i4 j4 w=>w.cell? (p.add 0)=some (.int .u64 y)/\w.cell? (p.add 1)=some (.int .u64 z)/\w.cell? (p.add 2)=some (.int .u64 a1)/\w.cell? (p.add 3)=some (.int .u64 b1)/\w.cell? (p.add 4)=some (.int .u64 c1)/\w.cell? (p.add 5)=some (.int .u64 d1)/\cW y z a1 b1 c1 d1 w λl4 m4 n4 o4 p4 q4 w=>St (e3.add 0) (.int .u64 d4) w λw=>St (e3.add 1) (.int .u64 e4) w λw=>St (e3.add 2) (.int .u64 f4) w λw=>St (e3.add 3) (.int .u64 g4) w λw=>St (e3.add 4) (.int .u64 i4) w λw=>St (e3.add 5) (.int .u64 j4) w λw=>St (c4.add 0) (.int .u64 l4) w λw=>St (c4.add 1) (.int .u64 m4) w λw=>St (c4.add 2) (.int .u64 n4) w λw=>St (c4.add 3) (.int .u64 o4) w λw=>St (c4.add 4) (.int .u64 p4) w λw=>St (c4.add 5) (.int .u64 q4) w λw=>gU Q q e3 c4 w))/\(Al T 175 w.drew λr4 w=>w.cell? (p.add 0)=some (.int .u64 y)/\w.cell? (p.add 1)=some (.int .u64 z)/\w.cell? (p.add 2)=some (.int .u64 a1)/\w.cell? (p.add 3)=some (.int .u64 b1)/\w.cell? (p.add 4)=some (.int .u64 c1)/\w.cell? (p.add 5)=some (.int .u64 d1)/\w.cell? (o.add 0)=some (.int .u64 r)/\w.cell? (o.add 1)=some (.int .u64 s)/\w.cell? (o.add 2)=some (.int .u64 t)/\w.cell? (o.add 3)=some (.int .u64 u)/\w.cell? (o.add 4)=some (.int .u64 v)/\w.cell? (o.add 5)=some (.int .u64 x)/\(cW r s t u v x w λs4 t4 u4 v4 x4 y4 w=>w.cell? (p.add 0)=some (.int .u64 y)/\w.cell? (p.add 1)=some (.int .u64 z)/\w.cell? (p.add 2)=some (.int .u64 a1)/\w.cell? (p.add 3)=some (.int .u64 b1)/\w.cell? (p.add 4)=some (.int .u64 c1)/\w.cell? (p.add 5)=some (.int .u64 d1)/\(cW y z a1 b1 c1 d1 w λz4 a5 b5 c5 d5 e5 w=>Al T 175 w λf5 w=>w.cell? (p.add 0)=some (.int .u64 y)/\w.cell? (p.add 1)=some (.int .u64 z)/\w.cell? (p.add 2)=some (.int .u64 a1)/\w.cell? (p.add 3)=some (.int .u64 b1)/\w.cell? (p.add 4)=some (.int .u64 c1)/\w.cell? (p.add 5)=some (.int .u64 d1)/\w.cell? (o.add 0)=some (.int .u64 r)/\w.cell? (o.add 1)=some (.int .u64 s)/\w.cell? (o.add 2)=some (.int .u64 t)/\w.cell? (o.add 3)=some (.int .u64 u)/\w.cell? (o.add 4)=some (.int .u64 v)/\w.cell? (o.add 5)=some (.int .u64 x)/\St (f5.add 0) (.int .u64 s4) w λw=>St (f5.add 1) (.int .u64 t4) w λw=>St (f5.add 2) (.int .u64 u4) w λw=>St (f5.add 3) (.int .u64 v4) w λw=>St (f5.add 4) (.int .u64 x4) w λw=>St (f5.add 5) (.int .u64 y4) w λw=>St (r4.add 0) (.int .u64 z4) w λw=>St (r4.add 1) (.int .u64 a5) w λw=>St (r4.add 2) (.int .u64 b5) w λw=>St (r4.add 3) (.int .u64 c5) w λw=>St (r4.add 4) (.int .u64 d5) w λw=>St (r4.add 5) (.int .u64 e5) w λw=>gU Q q f5 r4 w)/\(Al T 175 w λg5 w=>w.cell? (p.add 0)=some (.int .u64 y)/\w.cell? (p.add 1)=some (.int .u64 z)/\w.cell? (p.add 2)=some (.int .u64 a1)/\w.cell? (p.add 3)=some (.int .u64 b1)/\w.cell? (p.add 4)=some (.int .u64 c1)/\w.cell? (p.add 5)=some (.int .u64 d1)/\w.cell? (o.add 0)=some (.int .u64 r)/\w.cell? (o.add 1)=some (.int .u64 s)/\w.cell? (o.add 2)=some (.int .u64 t)/\w.cell? (o.add 3)=some (.int .u64 u)/\w.cell? (o.add 4)=some (.int .u64 v)/\w.cell? (o.add 5)=some (.int .u64 x)/\cW y z a1 b1 c1 d1 w λi5 j5 l5 m5 n5 o5 w=>St (g5.add 0) (.int .u64 s4) w λw=>St (g5.add 1) (.int .u64 t4) w λw=>St (g5.add 2) (.int .u64 u4) w λw=>St (g5.add 3) (.int .u64 v4) w λw=>St (g5.add 4) (.int .u64 x4) w λw=>St (g5.add 5) (.int .u64 y4) w λw=>St (r4.add 0) (.int .u64 i5) w λw=>St (r4.add 1) (.int .u64 j5) w λw=>St (r4.add 2) (.int .u64 l5) w λw=>St (r4.add 3) (.int .u64 m5) w λw=>St (r4.add 4) (.int .u64 n5) w λw=>St (r4.add 5) (.int .u64 o5) w λw=>gU Q q g5 r4 w))/\(Al T 175 w λp5 w=>w.cell? (p.add 0)=some (.int .u64 y)/\w.cell? (p.add 1)=some (.int .u64 z)/\w.cell? (p.add 2)=some (.int .u64 a1)/\w.cell? (p.add 3)=some (.int .u64 b1)/\w.cell? (p.add 4)=some (.int .u64 c1)/\w.cell? (p.add 5)=some (.int .u64 d1)/\w.cell? (o.add 0)=some (.int .u64 r)/\w.cell? (o.add 1)=some (.int .u64 s)/\w.cell? (o.add 2)=some (.int .u64 t)/\w.cell? (o.add 3)=some (.int .u64 u)/\w.cell? (o.add 4)=some (.int .u64 v)/\w.cell? (o.add 5)=some (.int .u64 x)/\cW r s t u v x w λq5 r5 s5 t5 u5 v5 w=>w.cell? (p.add 0)=some (.int .u64 y)/\w.cell? (p.add 1)=some (.int .u64 z)/\w.cell? (p.add 2)=some (.int .u64 a1)/\w.cell? (p.add 3)=some (.int .u64 b1)/\w.cell? (p.add 4)=some (.int .u64 c1)/\w.cell? (p.add 5)=some (.int .u64 d1)/\cW y z a1 b1 c1 d1 w λx5 y5 z5 a6 b6 c6 w=>St (p5.add 0) (.int .u64 q5) w λw=>St (p5.add 1) (.int .u64 r5) w λw=>St (p5.add 2) (.int .u64 s5) w λw=>St (p5.add 3) (.int .u64 t5) w λw=>St (p5.add 4) (.int .u64 u5) w λw=>St (p5.add 5) (.int .u64 v5) w λw=>St (r4.add 0) (.int .u64 x5) w λw=>St (r4.add 1) (.int .u64 y5) w λw=>St (r4.add 2) (.int .u64 z5) w λw=>St (r4.add 3) (.int .u64 a6) w λw=>St (r4.add 4) (.int .u64 b6) w λw=>St (r4.add 5) (.int .u64 c6) w λw=>gU Q q p5 r4 w)))) (ok 38) HJ [aM (agh Q)] Tryz.func70
def Fp:=λa w Q=>bB (r8 a w Q) (cond a.isNone (Q 0 w) (wA a λb=>af .u64 (b.add 3) w λc=>Q c w)) (ok 9) [] [] Tryz.func106
def B7:=λa w Q=>bB (pB a w Q) (cond a.isNone (Q 0 w) (wA a λb=>af .u64 (b.add 3) w λc=>Q c w)) (ok 9) [] [] Tryz.func107
noncomputable def Ui:cv:=[(1,sp 0 4 (sp 5 4 (.op 4 (.op 9 (.op 10 (.op 11 .done))))))]
def RT:=λa w Q=>bB (tU a w Q) (Al T 32 w λb w=>wA a λc=>bg (c.add 1) w.drew λd=>wA a λe=>bg (e.add 2) w.drew λf=>r8 d w.drew λg w=>w.cell? (e.add 2)=some (.pointer f)/\pB f w λi w=>St (b.add 0) (.int .u64 g) w λw=>St (b.add 1) (.int .u64 i) w λw=>St (b.add 2) (.int .u64 0) w λw=>St (b.add 3) (.int .u64 0) w λw=>St (b.add 4) (.int .u64 0) w λw=>St (b.add 5) (.int .u64 0) w λw=>af .u64 (b.add 0) w λj=>af .u64 (b.add 1) w λl=>af .u64 (b.add 2) w λm=>af .u64 (b.add 3) w λn=>af .u64 (b.add 4) w λo=>af .u64 (b.add 5) w λp=>Q j l m n o p w) (ok 14) Ui [] Tryz.func71
def Mz:=λa w Q=>bB (wu a w Q) (Al T 32 w λb w=>cond a.isNone (St (b.add 0) (.int .u64 0) w λw=>St (b.add 1) (.int .u64 0) w λw=>St (b.add 2) (.int .u64 0) w λw=>St (b.add 3) (.int .u64 0) w λw=>St (b.add 4) (.int .u64 0) w λw=>St (b.add 5) (.int .u64 0) w λw=>af .u64 (b.add 0) w λc=>af .u64 (b.add 1) w λd=>af .u64 (b.add 2) w λe=>af .u64 (b.add 3) w λf=>af .u64 (b.add 4) w λg=>af .u64 (b.add 5) w λi=>Q c d e f g i w) (wA a λj=>af .u64 ((j.add 2).add 0) w λl=>af .u64 ((j.add 2).add 1) w λm=>af .u64 ((j.add 2).add 2) w λn=>af .u64 ((j.add 2).add 3) w λo=>af .u64 ((j.add 2).add 4) w λp=>af .u64 ((j.add 2).add 5) w λq=>St (b.add 0) (.int .u64 l) w λw=>St (b.add 1) (.int .u64 m) w λw=>St (b.add 2) (.int .u64 n) w λw=>St (b.add 3) (.int .u64 o) w λw=>St (b.add 4) (.int .u64 p) w λw=>St (b.add 5) (.int .u64 q) w λw=>af .u64 (b.add 0) w λr=>af .u64 (b.add 1) w λs=>af .u64 (b.add 2) w λt=>af .u64 (b.add 3) w λu=>af .u64 (b.add 4) w λv=>af .u64 (b.add 5) w λx=>Q r s t u v x w)) (ok 10) [] [] Tryz.func72
noncomputable def Vt:cv:=[(3,sp 0 5 (sp 7 4 (.op 5 (.op 6 (.op 11 (.op 12 (.op 13 .done)))))))]
def Uj:=λa w Q=>bB (A5 a w Q) (Al T 32 w λb w=>cond a.isNone (St (b.add 0) (.int .u64 0) w λw=>St (b.add 1) (.int .u64 0) w λw=>St (b.add 2) (.int .u64 0) w λw=>St (b.add 3) (.int .u64 0) w λw=>St (b.add 4) (.int .u64 0) w λw=>St (b.add 5) (.int .u64 0) w λw=>af .u64 (b.add 0) w λc=>af .u64 (b.add 1) w λd=>af .u64 (b.add 2) w λe=>af .u64 (b.add 3) w λf=>af .u64 (b.add 4) w λg=>af .u64 (b.add 5) w λi=>Q c d e f g i w) (wA a λj=>af .u64 ((j.add 4).add 0) w.drew λl=>af .u64 ((j.add 4).add 1) w.drew λm=>af .u64 ((j.add 4).add 2) w.drew λn=>af .u64 ((j.add 4).add 3) w.drew λo=>af .u64 ((j.add 4).add 4) w.drew λp=>af .u64 ((j.add 4).add 5) w.drew λq=>wA a λr=>bg (r.add 3) w.drew λs=>tU a w.drew λt u v x y z w=>w.cell? (r.add 3)=some (.pointer s)/\w.cell? ((j.add 4).add 0)=some (.int .u64 l)/\w.cell? ((j.add 4).add 1)=some (.int .u64 m)/\w.cell? ((j.add 4).add 2)=some (.int .u64 n)/\w.cell? ((j.add 4).add 3)=some (.int .u64 o)/\w.cell? ((j.add 4).add 4)=some (.int .u64 p)/\w.cell? ((j.add 4).add 5)=some (.int .u64 q)/\wU l m n o p q t u v x y z w λa1 b1 c1 d1 e1 f1 w=>w.cell? (r.add 3)=some (.pointer s)/\wu s w λg1 i1 j1 l1 m1 n1 w=>wU a1 b1 c1 d1 e1 f1 g1 i1 j1 l1 m1 n1 w λo1 p1 q1 r1 s1 t1 w=>St (b.add 0) (.int .u64 o1) w λw=>St (b.add 1) (.int .u64 p1) w λw=>St (b.add 2) (.int .u64 q1) w λw=>St (b.add 3) (.int .u64 r1) w λw=>St (b.add 4) (.int .u64 s1) w λw=>St (b.add 5) (.int .u64 t1) w λw=>af .u64 (b.add 0) w λu1=>af .u64 (b.add 1) w λv1=>af .u64 (b.add 2) w λx1=>af .u64 (b.add 3) w λy1=>af .u64 (b.add 4) w λz1=>af .u64 (b.add 5) w λa2=>Q u1 v1 x1 y1 z1 a2 w)) (ok 19) Vt [] Tryz.func43
def MA:=λa w Q=>bB (wg a w Q) (Al T 32 w λb w=>yN a w λc w=>A5 c w λd e f g i j w=>St (b.add 0) (.int .u64 d) w λw=>St (b.add 1) (.int .u64 e) w λw=>St (b.add 2) (.int .u64 f) w λw=>St (b.add 3) (.int .u64 g) w λw=>St (b.add 4) (.int .u64 i) w λw=>St (b.add 5) (.int .u64 j) w λw=>af .u64 (b.add 0) w λl=>af .u64 (b.add 1) w λm=>af .u64 (b.add 2) w λn=>af .u64 (b.add 3) w λo=>af .u64 (b.add 4) w λp=>af .u64 (b.add 5) w λq=>Q l m n o p q w) (ok 6) [] [] Tryz.func22
def mS (Q:Int->Int->Bool->Bool->WP)(a b:Addr)(w:World):Prop:=af .i64 (b.add 0) w λc=>af .i64 (b.add 1) w λd=>cE (b.add 2) w λe=>St (a.add 0) (ae c) w λw=>St (a.add 1) (ae d) w λw=>St (a.add 2) (.bool e) w λw=>af .i64 (a.add 0) w λf=>af .i64 (a.add 1) w λg=>cE (a.add 2) w λi=>Q f g i true w
def uP (Q:Int->Int->Bool->Bool->WP)(a b:Addr)(w:World):Prop:=St (b.add 1) (ae 4) w λw=>St b (ae 4) w λw=>mS Q a b w
def PM (Q):Bk 26 Tryz.f76 (Js Q) 16 [(2,.a),(4,.a)] (mS Q):=aT (ok 26) [] []
def adl (Q):Bk 26 Tryz.f76 (Js Q) 13 [(2,.a),(4,.a)] (uP Q):=aT (ok 26) [] [aM (PM Q)]
def abc:=λa w Q=>bB (wV a w Q) (Al T 137 w λb w=>Al T 137 w λc w=>cond (a==1) (St (c.add 2) (.bool true) w λw=>mS Q b c w) (cond (a==2) (St c (ae 4) w λw=>St (c.add 1) (ae 1) w λw=>mS Q b c w) (cond (a==3) (uP Q b c w) (cond (a==4) (uP Q b c w) (cond (a==6) (uP Q b c w) (cond (a==5) (St c (ae 4) w λw=>mS Q b c w) (cond (a==7) (mS Q b c w) (cond (a==8) (mS Q b c w) (St (b.add 0) (ae 0) w λw=>St (b.add 1) (ae 0) w λw=>St (b.add 2) (.bool false) w λw=>af .i64 (b.add 0) w λd=>af .i64 (b.add 1) w λe=>cE (b.add 2) w λf=>Q d e f false w))))))))) (ok 26) [] [aM (adl Q),aM (PM Q)] Tryz.func76
def AM (Q:Int->WP)(R3:Int->L3 (Int->Int->WP))(a:Int)(b:OA)(c d:Nat)(e f:Int)(w:World):Prop:=cond (decide (f<e)) (aJ f c<|wA b λg=>af .u8 (g.add (f.toNat*1)) w λi=>DS (IntKind.wrap .i64 (8*f))<|R3 (ior .i64 a (BL .i64 (IntKind.wrap .i64 i) (IntKind.wrap .i64 (8*f)))) b c d e (IntKind.wrap .i64 (f+1)) w) (Q a w)
def wM (Q:Int->WP):Nat->Int->L3 (Int->Int->WP)
 |0,_,_,_,_,_,_,_=>False
 |k+1,a,b,c,d,e,f,w=>AM Q (wM Q k) a b c d e f w
def agk (Q):∀k,Bk 22 Tryz.f140 (Tq Q) 3 [(3,.i .i64),(6,.l),(7,.i .i64),(8,.i .i64)] (wM Q k):=bK λk h=>aT (ok 22) [] [aM h]
def abd:=λa b c w Q=>bB (wY a b c w Q) (∃k',wM Q k' 0 a b c (b:Int) 0 w) (ok 22) [] [ct (agk Q)] Tryz.func140
noncomputable def ah1:cv:=[(1,sp 0 6 (.op 6 (.op 7 .done))),(14,sp 0 5 (sp 6 9 (sp 17 6 (.op 5 (.op 15 (.op 16 (.op 23 (.op 24 .done))))))))]
def agl:=λa b c w Q=>bB (Ju a b c w Q) (Al T 38 w λd w=>aJ 0 b<|wA a λe=>af .u8 (e.add (((0:Int).toNat)*1)) w.drew λf=>bT a b c 1 (some 1) none λg i j=>wV (IntKind.wrap .i64 f) w.drew λl m n o w=>Al T 137 w λp w=>St (p.add 0) (ae l) w λw=>St (p.add 1) (ae m) w λw=>St (p.add 2) (.bool n) w λw=>cond (!o) (St (d.add 0) (ae 0) w λw=>St (d.add 1) (ae (IntKind.wrap .i64 f)) w λw=>St (d.add 2) (ae 0) w λw=>St (d.add 3) (.slice none 0 0) w λw=>af .i64 (d.add 0) w λq=>af .i64 (d.add 1) w λr=>af .i64 (d.add 2) w λs=>aA (d.add 3) w λt u v=>Q q r s t u v 1 w) (cE (p.add 2) w λx=>cond x (cond (decide ((i:Int)<4)) (St (d.add 0) (ae 0) w λw=>St (d.add 1) (ae 0) w λw=>St (d.add 2) (ae 0) w λw=>St (d.add 3) (.slice none 0 0) w λw=>af .i64 (d.add 0) w λy=>af .i64 (d.add 1) w λz=>af .i64 (d.add 2) w λa1=>aA (d.add 3) w λb1 c1 d1=>Q y z a1 b1 c1 d1 0 w) (bT g i j 1 none (some 4) λe1 f1 g1=>wY e1 f1 g1 w λi1 w=>cond (decide ((IntKind.wrap .i64 ((i:Int)-4))<i1)) (St (d.add 0) (ae 0) w λw=>St (d.add 1) (ae 0) w λw=>St (d.add 2) (ae 0) w λw=>St (d.add 3) (.slice none 0 0) w λw=>af .i64 (d.add 0) w λj1=>af .i64 (d.add 1) w λl1=>af .i64 (d.add 2) w λm1=>aA (d.add 3) w λn1 o1 p1=>Q j1 l1 m1 n1 o1 p1 0 w) (bT g i j 1 (some 4) (some (IntKind.wrap .i64 (4+i1))) λq1 r1 s1=>App P #[22,22] 22 (.slice none 0 0) (.slice q1 r1 s1) w λt1 u1 v1 w=>St (d.add 0) (ae (IntKind.wrap .i64 f)) w λw=>St (d.add 1) (ae 0) w λw=>St (d.add 2) (ae 0) w λw=>St (d.add 3) (.slice t1 u1 v1) w λw=>af .i64 (d.add 0) w λx1=>af .i64 (d.add 1) w λy1=>af .i64 (d.add 2) w λz1=>aA (d.add 3) w λa2 b2 c2=>Q x1 y1 z1 a2 b2 c2 (IntKind.wrap .i64 (5+i1)) w))) (af .i64 p w λd2=>af .i64 (p.add 1) w λe2=>cond (decide ((i:Int)<(IntKind.wrap .i64 (d2+e2)))) (St (d.add 0) (ae 0) w λw=>St (d.add 1) (ae 0) w λw=>St (d.add 2) (ae 0) w λw=>St (d.add 3) (.slice none 0 0) w λw=>af .i64 (d.add 0) w λf2=>af .i64 (d.add 1) w λg2=>af .i64 (d.add 2) w λi2=>aA (d.add 3) w λj2 l2 m2=>Q f2 g2 i2 j2 l2 m2 0 w) (af .i64 p w.drew λn2=>bT g i j 1 none (some n2) λo2 p2 q2=>af .i64 p w.drew λr2=>af .i64 p w.drew λs2=>af .i64 (p.add 1) w.drew λt2=>bT g i j 1 (some r2) (some (IntKind.wrap .i64 (s2+t2))) λu2 v2 x2=>af .i64 p w.drew λy2=>af .i64 (p.add 1) w.drew λz2=>wY o2 p2 q2 w.drew λa3 w=>w.cell? (p.add 1)=some (ae z2)/\w.cell? p=some (ae y2)/\w.cell? (p.add 1)=some (ae t2)/\w.cell? p=some (ae s2)/\w.cell? p=some (ae r2)/\wY u2 v2 x2 w λb3 w=>w.cell? (p.add 1)=some (ae z2)/\w.cell? p=some (ae y2)/\St (d.add 0) (ae (IntKind.wrap .i64 f)) w λw=>St (d.add 1) (ae a3) w λw=>St (d.add 2) (ae b3) w λw=>St (d.add 3) (.slice none 0 0) w λw=>w.cell? (p.add 1)=some (ae z2)/\w.cell? p=some (ae y2)/\af .i64 (d.add 0) w λc3=>af .i64 (d.add 1) w λd3=>af .i64 (d.add 2) w λe3=>aA (d.add 3) w λf3 g3 i3=>Q c3 d3 e3 f3 g3 i3 (IntKind.wrap .i64 ((IntKind.wrap .i64 (1+y2))+z2)) w)))) (ok 80) ah1 [] Tryz.func109
def ah2:=λa b c w Q=>bB (K8 a b c w Q) (cond ((b:Int)==0) (Q false w) (Ju a b c w λd e f g i j l w=>Al T 38 w λm w=>St (m.add 0) (ae d) w λw=>St (m.add 1) (ae e) w λw=>St (m.add 2) (ae f) w λw=>St (m.add 3) (.slice g i j) w λw=>Q (l==0) w)) (ok 15) [] [] Tryz.func75
def agm:=λa b w Q=>bB (AK a b w Q) (cond (decide (a≥0)) (DS (IntKind.wrap .i64 (8*b))<|Q (decide (a<(BL .i64 1 (IntKind.wrap .i64 (8*b))))) w) (Q false w)) (ok 14) [] [] Tryz.func77
def ah3:=λa b c d e f w Q=>bB (K6 a b c d e f w Q) (Bx [ae a,ae b,ae c,.slice d e f] 38 w λg w=>af .i64 g w λi=>cond (i==0) (af .i64 (g.add 1) w λj=>cond (j==(-1)) (af .i64 (g.add 2) w λl=>cond (l==0) (aA (g.add 3) w λm n o=>K8 m n o w λp w=>Q p w) (Q false w)) (af .i64 (g.add 1) w λq=>wV q w λr s t u w=>Al T 137 w λv w=>St (v.add 0) (ae r) w λw=>St (v.add 1) (ae s) w λw=>St (v.add 2) (.bool t) w λw=>af .i64 (g.add 1) w λx=>AK x 1 w λy w=>cond y (cond (!u) (af .i64 (g.add 2) w λz=>cond (z==0) (aA (g.add 3) w λa1 b1 c1=>Q ((b1:Int)==0) w) (Q false w)) (Q false w)) (Q false w))) (af .i64 g w λd1=>wV d1 w λe1 f1 g1 i1 w=>Al T 137 w λj1 w=>St (j1.add 0) (ae e1) w λw=>St (j1.add 1) (ae f1) w λw=>St (j1.add 2) (.bool g1) w λw=>cond i1 (af .i64 (g.add 1) w λl1=>af .i64 j1 w λm1=>AK l1 m1 w λn1 w=>cond n1 (af .i64 (g.add 2) w λo1=>af .i64 (j1.add 1) w λp1=>AK o1 p1 w λq1 w=>cond q1 (aA (g.add 3) w λr1 s1 t1=>cond ((s1:Int)==0) (Q true w) (cE (j1.add 2) w λu1=>cond u1 (aA (g.add 3) w λv1 x1 y1=>Q (decide ((x1:Int)<=4294967295)) w) (Q false w))) (Q false w)) (Q false w)) (Q false w))) (ok 82) [] [] Tryz.func48
def RU:=λa b w Q=>bB (e_ a b w Q) (cond a.isNone (Q 0 w) (cond (decide (b<0)) (Q 0 w) (wA a λc=>aA (c.add 2) w λd e f=>cond (decide (b≥(e:Int))) (Q 0 w) (wA a λg=>aA (g.add 2) w λi j l=>aJ b j<|wA i λm=>af .u8 (m.add (b.toNat*1)) w λn=>Q (IntKind.wrap .i64 n) w)))) (ok 30) [] [] Tryz.func110
def Vu:=λa b w Q=>bB (rL a b w Q) (cond a.isNone (Q 0 w) (wA a λc=>bg c w λd=>e_ d b w λe w=>Q e w)) (ok 13) [] [] Tryz.func78
def su (Q:Value->WP)(a:OA)(b:Addr)(w:World):Prop:=wA a λc=>bg (c.add 1) w.drew λd=>af .i64 (b.add 1) w.drew λe=>rL d e w.drew λf w=>cond (f==0) (Q (.iface 108 (ae 7)) w) (Q (.nilIface) w)
noncomputable def D1:cv:=[(4,sp 0 6 (.op 6 (.op 7 .done))),(6,sp 0 6 (.op 6 (.op 7 .done)))]
def PN (Q):Bk 29 Tryz.f49 (Fe Q) 6 [(0,.p),(3,.a)] (su Q):=aT (ok 29) D1 []
def MB:=λa b c d e f g w Q=>bB (wk a b c d e f g w Q) (Bx [ae b,ae c,ae d,.slice e f g] 38 w λi w=>af .i64 i w λj=>cond (j==3) (wA a λl=>bg (l.add 1) w.drew λm=>af .i64 (i.add 2) w.drew λn=>rL m n w.drew λo w=>cond (o==0) (Q (.iface 108 (ae 7)) w) (su Q a i w)) (cond (j==2) (su Q a i w) (Q (.nilIface) w))) (ok 29) D1 [aM (PN Q)] Tryz.func49
def ET:=λa w Q=>bB (gj a w Q) (cond (a==0) (Q (.nilIface) w) (Q (.iface 108 (ae a)) w)) (ok 7) [] [] Tryz.func54
def adm (P1:Value->Value->Value->Addr->WP)(Q:Bool->WP)(R18:Value->Value->Addr->L3 (Int->Int->WP))(a b:Value)(c:Addr)(d:OA)(e f:Nat)(g i:Int)(w:World):Prop:=cond (decide (i<g)) (aJ i e<|wA d λj=>bY (j.add (i.toNat*1)) w λl=>BM l λm=>cond m (R18 a b c d e f g (IntKind.wrap .i64 (i+1)) w) (bg (c.add 0) w λn=>bg (c.add 1) w λo=>af .u64 (c.add 2) w λp=>F5 l a n o p b w λq w=>cond q (Q true w) (R18 a b c d e f g (IntKind.wrap .i64 (i+1)) w))) (Q false w)
def HK (P1:Value->Value->Value->Addr->WP)(Q:Bool->WP):Nat->Value->Value->Addr->L3 (Int->Int->WP)
 |0,_,_,_,_,_,_,_,_,_=>False
 |k+1,a,b,c,d,e,f,g,i,w=>adm P1 Q (HK P1 Q k) a b c d e f g i w
def Jx (P1:Value->Value->Value->Addr->WP)(Q:Bool->WP)(a b c:Value)(d:Addr)(w:World):Prop:=aL P (Instr.typeAssert a 74 224 true) w λe w=>dT e λf=>dG f λg i=>dV g λj=>dG i λl m=>dB l λn=>kM m<|cond n (yH (cx 62) j "Unwrap" [] w λo w=>dV o λp=>BM p λq=>cond q (Q false w) (P1 p b c d w)) (aL P (Instr.typeAssert a 74 226 true) w λr w=>dT r λs=>dG s λt u=>dV t λv=>dG u λx y=>dB x λz=>kM y<|cond z (yH (cx 62) v "Unwrap" [] w λa1 w=>dS a1 λb1 c1 d1=>∃k',HK P1 Q k' b c d b1 c1 d1 (c1:Int) 0 w) (Q false w))
def wN (Q:Bool->WP)(R1:Value->Value->Value->Addr->WP)(a b c:Value)(d:Addr)(w:World):Prop:=tJ P 95 #[a] w λe w=>dV e λf=>yH (cx 62) f "AssignableTo" [c] w λg w=>dB g λi=>cond i (bg (d.add 0) w λj=>bg (d.add 1) w λl=>af .u64 (d.add 2) w λm=>tJ P 138 #[.agg #[.pointer j,.pointer l,.int .u64 m]] w λn w=>dL n λo=>dG o λp q=>dP p λr=>dG q λs t=>dP s λu=>dG t λv x=>dI .u64 v λy=>kM x<|tJ P 97 #[a] w λz w=>dL z λa1=>dG a1 λb1 c1=>dP b1 λd1=>dG c1 λe1 f1=>dP e1 λg1=>dG f1 λi1 j1=>dI .u64 i1 λl1=>kM j1<|tJ P 139 #[.agg #[.pointer r,.pointer u,.int .u64 y],.agg #[.pointer d1,.pointer g1,.int .u64 l1]] w λm1 w=>dT m1 λn1=>kM n1<|Q true w) (aL P (Instr.typeAssert a 74 231 true) w λo1 w=>dT o1 λp1=>dG p1 λq1 r1=>dV q1 λs1=>dG r1 λt1 u1=>dB t1 λv1=>kM u1<|cond v1 (yH (cx 62) s1 "As" [b] w λx1 w=>dB x1 λy1=>cond y1 (Q true w) (Jx R1 Q a b c d w)) (Jx R1 Q a b c d w))
def je (Q:Bool->WP):Nat->Value->Value->Value->Addr->WP
 |0,_,_,_,_,_=>False
 |k+1,a,b,c,d,w=>wN Q (je Q k) a b c d w
def adn {P1}(Q)(H1:Bk 62 Tryz.f100 (wL Q) 1 [(0,.v),(1,.v),(3,.v),(6,.a)] P1):∀k,Bk 62 Tryz.f100 (wL Q) 18 [(1,.v),(3,.v),(6,.a),(48,.l),(49,.i .i64),(50,.i .i64)] (HK P1 Q k):=bK λk h=>aT (ok 62) [] [aM h]
def agn {P1}(Q)(H1:Bk 62 Tryz.f100 (wL Q) 1 [(0,.v),(1,.v),(3,.v),(6,.a)] P1):Bk 62 Tryz.f100 (wL Q) 7 [(0,.v),(1,.v),(3,.v),(6,.a)] (Jx P1 Q):=aT (ok 62) [] [aM H1,ct (adn Q H1)]
def ago (Q):∀k,Bk 62 Tryz.f100 (wL Q) 1 [(0,.v),(1,.v),(3,.v),(6,.a)] (je Q k):=bK λk h=>aT (ok 62) [] [aM (agn Q h)]
def Gd:=λa b c d e f w Q=>bB (F5 a b c d e f w Q) (Bx [.pointer c,.pointer d,.int .u64 e] 161 w λg w=>∃k',je Q k' a b f g w) (ok 62) [] [ct (ago Q)] Tryz.func100
def HL (Q:Bool->WP)(a b:Value)(c:Addr)(d:Value)(w:World):Prop:=bg (c.add 0) w λe=>bg (c.add 1) w λf=>af .u64 (c.add 2) w λg=>F5 a b e f g d w λi w=>Q i w
def Jy (Q:Bool->WP)(a b:Value)(c:Addr)(d:Value)(w:World):Prop:=False
def PO (Q):Bk 42 Tryz.f60 (Jp Q) 12 [(0,.v),(1,.v),(5,.a),(7,.v)] (HL Q):=aT (ok 42) [] []
def agp (Q):Bk 42 Tryz.f60 (Jp Q) 8 [(0,.v),(1,.v),(5,.a),(6,.v)] (Jy Q):=aT (ok 42) [] [aM (PO Q)]
def Bp:=λa b w Q=>bB (nv a b w Q) (BM a λc=>cond c (Q false w) (BM b λd=>cond d (False) (tJ P 97 #[b] w λe w=>dL e λf=>dG f λg i=>dP g λj=>dG i λl m=>dP l λn=>dG m λo p=>dI .u64 o λq=>kM p<|Al T 161 w λr w=>St (r.add 0) (.pointer j) w λw=>St (r.add 1) (.pointer n) w λw=>St (r.add 2) (.int .u64 q) w λw=>bg (r.add 0) w λs=>bg (r.add 1) w λt=>af .u64 (r.add 2) w λu=>tJ P 98 #[.agg #[.pointer s,.pointer t,.int .u64 u]] w λv w=>dV v λx=>yH (cx 42) x "Kind" [] w λy w=>dI .u8 y λz=>cond (z !=22) (Jy Q a b r x w) (bg (r.add 0) w λa1=>bg (r.add 1) w λb1=>af .u64 (r.add 2) w λc1=>tJ P 99 #[.agg #[.pointer a1,.pointer b1,.int .u64 c1]] w λd1 w=>dB d1 λe1=>cond e1 (Jy Q a b r x w) (yH (cx 42) x "Elem" [] w λf1 w=>dV f1 λg1=>yH (cx 42) g1 "Kind" [] w λi1 w=>dI .u8 i1 λj1=>cond (j1 !=20) (bY (aZ 1) w λl1=>yH (cx 42) g1 "Implements" [l1] w λm1 w=>dB m1 λn1=>cond (!n1) (False) (HL Q a b r g1 w)) (HL Q a b r g1 w)))))) (ok 42) [] [aM (agp Q),aM (PO Q)] Tryz.func60
def abe:=λa b w Q=>bB (lF a b w Q) (cond (decide (a≥1)) (cond (decide (a<=1024)) (cond (decide (b≥1)) (Q (decide (b<=1024)) w) (Q false w)) (Q false w)) (Q false w)) (ok 19) [] [] Tryz.func69
def Ul:=λa b w Q=>bB (ld a b w Q) (lF a b w λc w=>cond (!c) (Q 0 0 w) (NZ 16<|NZ 16<|Q (IntKind.wrap .i64 (Int.tdiv (IntKind.wrap .i64 ((IntKind.wrap .i64 (a+16))-1)) 16)) (IntKind.wrap .i64 (Int.tdiv (IntKind.wrap .i64 ((IntKind.wrap .i64 (b+16))-1)) 16)) w)) (ok 18) [] [] Tryz.func146
def Zn:=λa b w Q=>bB (EJ a b w Q) (ld a b w λc d w=>Q (IntKind.wrap .i64 (c*d)) w) (ok 16) [] [] Tryz.func141
noncomputable def XP:cv:=[(4,sp 0 8 (.op 8 (.op 9 (.op 10 .done))))]
def Vv:=λa b c w Q=>bB (wZ a b c w Q) (ld a b w λd e w=>cond (decide (c<0)) (Q 0 0 false w) (cond (decide (c≥(IntKind.wrap .i64 (d*e)))) (Q 0 0 false w) (NZ d<|NZ d<|Q (IntKind.wrap .i64 ((Int.tmod c d)*16)) (IntKind.wrap .i64 ((IntKind.wrap .i64 (Int.tdiv c d))*16)) true w.drew))) (ok 34) XP [] Tryz.func157
def Zo:=λa b c w Q=>bB (n7 a b c w Q) (wZ a b c w λd e f w=>cond (!f) (Q 0 0 w) (Q (Ds 16 (IntKind.wrap .i64 (a-d))) (Ds 16 (IntKind.wrap .i64 (b-e))) w)) (ok 29) [] [] Tryz.func142
def ado (P1:Value->Value->Bool->WP)(Q:Bool->WP)(R17:Value->Bool->L3 (Int->Int->WP))(a:Value)(b:Bool)(c:OA)(d e:Nat)(f g:Int)(w:World):Prop:=cond (decide (g<f)) (aJ g d<|wA c λi=>bY (i.add (g.toNat*1)) w λj=>wW j a b w λl w=>cond l (Q true w) (R17 a b c d e f (IntKind.wrap .i64 (g+1)) w)) (Q false w)
def HM (P1:Value->Value->Bool->WP)(Q:Bool->WP):Nat->Value->Bool->L3 (Int->Int->WP)
 |0,_,_,_,_,_,_,_,_=>False
 |k+1,a,b,c,d,e,f,g,w=>ado P1 Q (HM P1 Q k) a b c d e f g w
def Jz (P1:Value->Value->Bool->WP)(Q:Bool->WP)(a b:Value)(c:Bool)(w:World):Prop:=aL P (Instr.typeAssert a 74 224 true) w λd w=>dT d λe=>dG e λf g=>dV f λi=>dG g λj l=>dB j λm=>kM l<|cond m (yH (cx 54) i "Unwrap" [] w λn w=>dV n λo=>BM o λp=>cond p (Q false w) (P1 o b c w)) (aL P (Instr.typeAssert a 74 226 true) w λq w=>dT q λr=>dG r λs t=>dV s λu=>dG t λv x=>dB v λy=>kM x<|cond y (yH (cx 54) u "Unwrap" [] w λz w=>dS z λa1 b1 c1=>∃k',HM P1 Q k' b c a1 b1 c1 (b1:Int) 0 w) (Q false w))
def JA (P1:Value->Value->Bool->WP)(Q:Bool->WP)(a b:Value)(c:Bool)(w:World):Prop:=aL P (Instr.typeAssert a 74 221 true) w λd w=>dT d λe=>dG e λf g=>dV f λi=>dG g λj l=>dB j λm=>kM l<|cond m (yH (cx 54) i "Is" [b] w λn w=>dB n λo=>cond o (Q true w) (Jz P1 Q a b c w)) (Jz P1 Q a b c w)
def AN (Q:Bool->WP)(R1:Value->Value->Bool->WP)(a b:Value)(c:Bool)(w:World):Prop:=cond c (bW P .eql 74 (.tmp 16) (.tmp 17) a b w λd w=>cond d (Q true w) (JA R1 Q a b c w)) (JA R1 Q a b c w)
def p_ (Q:Bool->WP):Nat->Value->Value->Bool->WP
 |0,_,_,_,_=>False
 |k+1,a,b,c,w=>AN Q (p_ Q k) a b c w
def adp {P1}(Q)(H1:Bk 54 Tryz.f96 (pZ Q) 1 [(0,.v),(1,.v),(2,.b)] P1):∀k,Bk 54 Tryz.f96 (pZ Q) 17 [(1,.v),(2,.b),(43,.l),(44,.i .i64),(45,.i .i64)] (HM P1 Q k):=bK λk h=>aT (ok 54) [] [aM h]
def agq {P1}(Q)(H1:Bk 54 Tryz.f96 (pZ Q) 1 [(0,.v),(1,.v),(2,.b)] P1):Bk 54 Tryz.f96 (pZ Q) 6 [(0,.v),(1,.v),(2,.b)] (Jz P1 Q):=aT (ok 54) [] [aM H1,ct (adp Q H1)]
def agr {P1}(Q)(H1:Bk 54 Tryz.f96 (pZ Q) 1 [(0,.v),(1,.v),(2,.b)] P1):Bk 54 Tryz.f96 (pZ Q) 3 [(0,.v),(1,.v),(2,.b)] (JA P1 Q):=aT (ok 54) [] [aM (agq Q H1)]
def ags (Q):∀k,Bk 54 Tryz.f96 (pZ Q) 1 [(0,.v),(1,.v),(2,.b)] (p_ Q k):=bK λk h=>aT (ok 54) [] [aM (agr Q h)]
def Nr:=λa b c w Q=>bB (wW a b c w Q) (∃k',p_ Q k' a b c w) (ok 54) [] [ct (ags Q)] Tryz.func96
def Ns:=λa b w Q=>bB (pz a b w Q) (BM a λc=>cond c (bW P .eql 74 (.tmp 12) (.tmp 13) a b w λd w=>Q d w) (BM b λe=>cond e (bW P .eql 74 (.tmp 12) (.tmp 13) a b w λf w=>Q f w) (tJ P 95 #[b] w λg w=>dV g λi=>yH (cx 22) i "Comparable" [] w λj w=>dB j λl=>wW a b l w λm w=>Q m w))) (ok 22) [] [] Tryz.func59
def HN:=λa b c w Q=>bB (jJ a b c w Q) (cond a.isNone (Q none 0 0 w) (Bx [] 5 w λd w=>App P #[22,22] 22 (.slice (some d) 0 0) (.slice a b c) w λe f g w=>Q e f g w)) (ok 8) [] [] Tryz.func103
noncomputable def PR:cv:=[(1,sp 0 12 .done),(2,.op 0 (.op 1 (.op 2 .done))),(4,sp 0 15 (.op 15 (.op 16 .done)))]
def Ol:=λa b w Q=>bB (nM a b w Q) (wA a λc=>aA c w.drew λd e f=>wA a λg=>af .i64 (g.add 1) w.drew λi=>cond (decide ((IntKind.wrap .i64 ((e:Int)-i))<b)) (bY (aZ 6) w.drew.drew λj=>w.drew.drew.cell? (aZ 6)=some j/\dV j λl=>Q none 0 0 l w.drew.drew) (wA a λm=>af .i64 (m.add 1) w.drew λn=>wA a λo=>St (o.add 1) (ae (IntKind.wrap .i64 (n+b))) w.drew λw=>wA a λp=>aA p w.drew λq r s=>wA a λt=>af .i64 (t.add 1) w.drew λu=>wA a λv=>af .i64 (v.add 1) w.drew λx=>bT q r s 1 (some (IntKind.wrap .i64 (u-b))) (some x) λy z a1=>Q y z a1 (.nilIface) w.drew)) (ok 42) PR [] Tryz.func186
def kQ (Q:Int->WP)(R2:L3 (Int->Int->Int->WP))(a:OA)(b c:Nat)(d e f:Int)(w:World):Prop:=cond (decide (f<e)) (aJ f b<|wA a λg=>af .u8 (g.add (f.toNat*1)) w λi=>cond (d==i) (Q f w) (R2 a b c d e (IntKind.wrap .i64 (f+1)) w)) (Q (-1) w)
def jf (Q:Int->WP):Nat->L3 (Int->Int->Int->WP)
 |0,_,_,_,_,_,_,_=>False
 |k+1,a,b,c,d,e,f,w=>kQ Q (jf Q k) a b c d e f w
def JB (Q):∀k,Bk 19 Tryz.f160 (AL Q) 2 [(0,.l),(1,.i .u8),(7,.i .i64),(8,.i .i64)] (jf Q k):=bK λk h=>aT (ok 19) [] [aM h]
def HO:=λa b c d w Q=>bB (yW a b c d w Q) (∃k',jf Q k' a b c d (b:Int) 0 w) (ok 19) [] [ct (JB Q)] Tryz.func160
def FL:=λa b c d w Q=>bB (iV a b c d w Q) (yW a b c d w λe w=>Q (decide (e≥0)) w) (ok 9) [] [] Tryz.func145
def MD:=λa b w Q=>bB (qw a b w Q) (nM a b w λc d e f w=>BM f λg=>cond g (iV c d e 0 w λi w=>cond i (bY (aZ 5) w λj=>dV j λl=>Q c d e l w) (dV f λm=>Q c d e m w)) (dV f λn=>Q c d e n w)) (ok 23) [] [] Tryz.func187
def PS:=λa b w Q=>bB (Fj a b w Q) (DS 32<|DS 32<|DS 32<|DS 32<|DS 32<|Q (IntKind.wrap .u64 ((IntKind.wrap .u64 ((IntKind.wrap .u64 ((o7 .u64 a 32)*(o7 .u64 b 32)))+(o7 .u64 (IntKind.wrap .u64 ((IntKind.wrap .u64 ((o7 .u64 a 32)*(BK .u64 b 4294967295)))+(o7 .u64 (IntKind.wrap .u64 ((BK .u64 a 4294967295)*(BK .u64 b 4294967295))) 32))) 32)))+(o7 .u64 (IntKind.wrap .u64 ((BK .u64 (IntKind.wrap .u64 ((IntKind.wrap .u64 ((o7 .u64 a 32)*(BK .u64 b 4294967295)))+(o7 .u64 (IntKind.wrap .u64 ((BK .u64 a 4294967295)*(BK .u64 b 4294967295))) 32))) 4294967295)+(IntKind.wrap .u64 ((BK .u64 a 4294967295)*(o7 .u64 b 32))))) 32))) (IntKind.wrap .u64 (a*b)) w) (ok 51) [] [] Tryz.func240
def Um:=λa b w Q=>bB (qB a b w Q) (Fj a b w λc d w=>Q c d w) (ok 30) [] [] Tryz.func218
def tg (Q:L3 WP)(R18:Int->Int->L3 (Int->WP))(a b:Int)(c:OA)(d e:Nat)(f:Int)(w:World):Prop:=cond (decide (f<a)) (bT c d e 1 (some f) none λg i j=>bT c d e 1 none (some (Ds f b)) λl m n=>cJ P #[22,22] 3 (.slice g i j) (.slice l m n) w.drew λo w=>R18 a b c d e (IntKind.wrap .i64 (f+o)) w) (Q c d e w)
def tj (Q:L3 WP):Nat->Int->Int->L3 (Int->WP)
 |0,_,_,_,_,_,_,_=>False
 |k+1,a,b,c,d,e,f,w=>tg Q (tj Q k) a b c d e f w
def yx (Q:L3 WP)(a:OA)(b c:Nat)(d e:Int)(w:World):Prop:=tJ P 219 #[ae d] w λf w=>dS f λg i j=>aL P (Instr.sliceAt 22 (.slice g i j) none (some (ae d)) (some (ae d))) w λo w=>dS o λl m n=>cJ P #[22,22] 3 (.slice l m n) (.slice a b c) w λp w=>∃k',tj Q k' d e l m n p w
def EU (Q:L3 WP)(a:OA)(b c:Nat)(d:Int)(w:World):Prop:=False
noncomputable def yy:cv:=[(20,sp 0 7 (.op 7 (.op 8 (.op 9 .done))))]
def XQ (Q):∀k,Bk 77 Tryz.f188 (Aa Q) 18 [(7,.i .i64),(8,.i .i64),(9,.l),(10,.i .i64)] (tj Q k):=bK λk h=>aT (ok 77) yy [aM h]
def JV (Q):Bk 77 Tryz.f188 (Aa Q) 16 [(0,.l),(7,.i .i64),(8,.i .i64)] (yx Q):=aT (ok 77) yy [ct (XQ Q)]
def Zp (Q):Bk 77 Tryz.f188 (Aa Q) 7 [(0,.l),(6,.i .u64)] (EU Q):=aT (ok 77) yy [aM (JV Q)]
def IY:=λa b c d w Q=>bB (rM a b c d w Q) (cond (d==0) (Bx [] 5 w λe w=>Q (some e) 0 0 w) (cond (decide (d<0)) (False) (qB (IntKind.wrap .u64 (b:Int)) (IntKind.wrap .u64 d) w λf g w=>cond (decide (f>0)) (EU Q a b c g w) (cond (decide (g>9223372036854775807)) (EU Q a b c g w) (cond ((b:Int)==0) (Bx [] 5 w λi w=>Q (some i) 0 0 w) (cond (decide ((IntKind.wrap .i64 g)>8192)) (NZ (b:Int)<|cond ((IntKind.wrap .i64 ((IntKind.wrap .i64 (Int.tdiv 8192 (b:Int)))*(b:Int)))==0) (yx Q a b c (IntKind.wrap .i64 g) (b:Int) w) (yx Q a b c (IntKind.wrap .i64 g) (IntKind.wrap .i64 ((IntKind.wrap .i64 (Int.tdiv 8192 (b:Int)))*(b:Int))) w)) (yx Q a b c (IntKind.wrap .i64 g) (IntKind.wrap .i64 g) w))))))) (ok 77) yy [aM (Zp Q),aM (JV Q)] Tryz.func188
def uo (P2:OA->Int->L3 WP)(Q:L3 (Value->WP))(a:OA)(b:Int)(c:OA)(d e:Nat)(f g:Int)(w:World):Prop:=Bx [.int .u8 g] 5 w λi w=>rM (some i) 1 1 f w λj l m w=>App P #[22,22] 22 (.slice c d e) (.slice j l m) w λn o p w=>P2 a b n o p w
def pE (Q:L3 (Value->WP))(R2:OA->Int->L3 WP)(a:OA)(b:Int)(c:OA)(d e:Nat)(w:World):Prop:=cond (decide ((d:Int)<b)) (nM a 2 w λf g i j w=>BM j λl=>cond (!l) (dV j λm=>Q none 0 0 m w) (aJ 0 g<|wA f λn=>af .u8 (n.add (((0:Int).toNat)*1)) w.drew λo=>aJ 1 g<|wA f λp=>af .u8 (p.add (((1:Int).toNat)*1)) w.drew λq=>w.drew.cell? (p.add (((1:Int).toNat)*1))=some (.int .u8 q)/\cond (q==0) (bY (aZ 5) w.drew.drew λr=>w.drew.drew.cell? (aZ 5)=some r/\dV r λs=>Q none 0 0 s w.drew.drew) (cond (decide ((IntKind.wrap .i64 ((IntKind.wrap .i64 o)+1))>(IntKind.wrap .i64 (b-(d:Int))))) (bY (aZ 5) w.drew.drew λt=>w.drew.drew.cell? (aZ 5)=some t/\dV t λu=>Q none 0 0 u w.drew.drew) (cond (decide ((d:Int)>0)) (aJ (IntKind.wrap .i64 ((d:Int)-1)) d<|wA c λv=>af .u8 (v.add (((IntKind.wrap .i64 ((d:Int)-1))).toNat*1)) w.drew λx=>cond (x==q) (bY (aZ 5) w.drew.drew λy=>w.drew.drew.cell? (aZ 5)=some y/\dV y λz=>Q none 0 0 z w.drew.drew) (uo R2 Q a b c d e (IntKind.wrap .i64 ((IntKind.wrap .i64 o)+1)) q w.drew)) (uo R2 Q a b c d e (IntKind.wrap .i64 ((IntKind.wrap .i64 o)+1)) q w.drew))))) (Q c d e (.nilIface) w)
def pF (Q:L3 (Value->WP)):Nat->OA->Int->L3 WP
 |0,_,_,_,_,_,_=>False
 |k+1,a,b,c,d,e,w=>pE Q (pF Q k) a b c d e w
noncomputable def za:cv:=[(6,sp 0 8 (.op 8 (.op 9 .done))),(8,.op 0 (.op 1 (.op 2 .done)))]
def RV {P2}(Q)(H2:Bk 64 Tryz.f189 (tZ Q) 2 [(0,.p),(1,.i .i64),(6,.l)] P2):Bk 64 Tryz.f189 (tZ Q) 9 [(0,.p),(1,.i .i64),(6,.l),(9,.i .i64),(10,.i .u8)] (uo P2 Q):=aT (ok 64) za [aM H2]
def RW (Q):∀k,Bk 64 Tryz.f189 (tZ Q) 2 [(0,.p),(1,.i .i64),(6,.l)] (pF Q k):=bK λk h=>aT (ok 64) za [aM (RV Q h)]
def Om:=λa b w Q=>bB (x7 a b w Q) (∃k',pF Q k' a b none 0 0 w) (ok 64) za [ct (RW Q)] Tryz.func189
noncomputable def PT:cv:=[(12,.op 0 (.op 1 (.op 2 .done)))]
def On:=λa b w Q=>bB (xZ a b w Q) (nM a 1 w λc d e f w=>BM f λg=>cond (!g) (dV f λi=>Q none 0 0 i w) (aJ 0 d<|wA c λj=>af .u8 (j.add (((0:Int).toNat)*1)) w λl=>cond (l==0) (qw a 1 w λm n o p w=>rM m n o b w λq r s w=>dV p λt=>Q q r s t w) (cond (l==1) (qw a b w λu v x y w=>dV y λz=>Q u v x z w) (cond (l==2) (x7 a b w λa1 b1 c1 d1 w=>dV d1 λe1=>Q a1 b1 c1 e1 w) (bY (aZ 5) w.drew λf1=>w.drew.cell? (aZ 5)=some f1/\dV f1 λg1=>Q none 0 0 g1 w.drew))))) (ok 47) PT [] Tryz.func167
def Zq:=λa w Q=>bB (Ae a w Q) (cond (decide (a≥1)) (Q (decide (a<=16)) w) (Q false w)) (ok 9) [] [] Tryz.func220
def adq:=λa b c d e w Q=>bB (uO a b c d e w Q) (Bx [ae a,ae b,.slice c d e] 84 w λf w=>af .i64 f w λg=>Ae g w λi w=>cond i (af .i64 (f.add 1) w λj=>Ae j w λl w=>cond l (aA (f.add 2) w λm n o=>af .i64 f w λp=>af .i64 (f.add 1) w λq=>cond ((n:Int)==(IntKind.wrap .i64 (p*q))) (aA (f.add 2) w λr s t=>iV r s t 0 w λu w=>Q (!u) w) (Q false w)) (Q false w)) (Q false w)) (ok 28) [] [] Tryz.func190
def jj (Q:Int->WP)(R2:L3 (Value->Int->Int->WP))(a:OA)(b c:Nat)(d:Value)(e f:Int)(w:World):Prop:=cond (decide (f<e)) (aJ f b<|wA a λg=>af .u8 (g.add (f.toNat*1)) w λi=>h_ (cx 19) d [.int .u8 i] w λj w=>dB j λl=>cond l (Q f w) (R2 a b c d e (IntKind.wrap .i64 (f+1)) w)) (Q (-1) w)
def jk (Q:Int->WP):Nat->L3 (Value->Int->Int->WP)
 |0,_,_,_,_,_,_,_=>False
 |k+1,a,b,c,d,e,f,w=>jj Q (jk Q k) a b c d e f w
def Ge (Q):∀k,Bk 19 Tryz.f264 (xg Q) 2 [(0,.l),(1,.v),(7,.i .i64),(8,.i .i64)] (jk Q k):=bK λk h=>aT (ok 19) [] [aM h]
def EV:=λa b c d w Q=>bB (u6 a b c d w Q) (∃k',jk Q k' a b c d (b:Int) 0 w) (ok 19) [] [ct (Ge Q)] Tryz.func264
def CQ:=λa b c d w Q=>bB (mQ a b c d w Q) (u6 a b c d w λe w=>Q (decide (e≥0)) w) (ok 9) [] [] Tryz.func241
def Zr:=λa b w Q=>bB (Lh a b w Q) (wA b λc=>aA (c.add 2) w λd e f=>aJ 0 e<|wA d λg=>af .u8 (g.add (((0:Int).toNat)*1)) w λi=>Q (a !=i) w) (ok 10) [] [] Tryz.func242
def En (u7:Addr->L3 (Int->WP))(Q:L3 WP)(a:Addr)(b:OA)(c d:Nat)(e f:Int)(w:World):Prop:=aA (a.add 2) w λg i j=>aJ e i<|wA g λl=>af .u8 (l.add (e.toNat*1)) w λm=>Bx [.int .u8 (IntKind.wrap .u8 (IntKind.wrap .i64 (f-1))),.int .u8 m] 5 w λn w=>App P #[22,22] 22 (.slice b c d) (.slice (some n) 2 2) w λo p q w=>u7 a o p q (IntKind.wrap .i64 (e+f)) w
def JC (u7:Addr->L3 (Int->WP))(Q:L3 WP)(R12:Addr->L3 (Int->Int->WP))(a:Addr)(b:OA)(c d:Nat)(e f:Int)(w:World):Prop:=aA (a.add 2) w.drew λg i j=>cond (decide ((IntKind.wrap .i64 (e+f))<(i:Int))) (aA (a.add 2) w.drew λl m n=>aJ (IntKind.wrap .i64 (e+f)) m<|wA l λo=>af .u8 (o.add (((IntKind.wrap .i64 (e+f))).toNat*1)) w.drew λp=>aA (a.add 2) w.drew λq r s=>aJ e r<|wA q λt=>af .u8 (t.add (e.toNat*1)) w.drew λu=>cond (p==u) (R12 a b c d e (IntKind.wrap .i64 (f+1)) w.drew) (En u7 Q a b c d e f w.drew)) (En u7 Q a b c d e f w.drew)
def wO (u7:Addr->L3 (Int->WP))(Q:L3 WP):Nat->Addr->L3 (Int->Int->WP)
 |0,_,_,_,_,_,_,_=>False
 |k+1,a,b,c,d,e,f,w=>JC u7 Q (wO u7 Q k) a b c d e f w
def JD (Q:L3 WP)(R10:Addr->L3 (Int->WP))(a:Addr)(b:OA)(c d:Nat)(e:Int)(w:World):Prop:=aA (a.add 2) w λf g i=>cond (decide (e<(g:Int))) (∃k',wO R10 Q k' a b c d e 1 w) (Q b c d w)
def wP (Q:L3 WP):Nat->Addr->L3 (Int->WP)
 |0,_,_,_,_,_,_=>False
 |k+1,a,b,c,d,e,w=>JD Q (wP Q k) a b c d e w
noncomputable def Eo:cv:=[(12,sp 0 22 .done)]
def agt {u7}(Q)(H10:Bk 75 Tryz.f221 (y7 Q) 10 [(2,.a),(5,.l),(6,.i .i64)] u7):Bk 75 Tryz.f221 (y7 Q) 14 [(2,.a),(5,.l),(6,.i .i64),(7,.i .i64)] (En u7 Q):=aT (ok 75) Eo [aM H10]
def agu {u7}(Q)(H10:Bk 75 Tryz.f221 (y7 Q) 10 [(2,.a),(5,.l),(6,.i .i64)] u7):∀k,Bk 75 Tryz.f221 (y7 Q) 12 [(2,.a),(5,.l),(6,.i .i64),(7,.i .i64)] (wO u7 Q k):=bK λk h=>aT (ok 75) Eo [aM h,aM (agt Q H10)]
def agv (Q):∀k,Bk 75 Tryz.f221 (y7 Q) 10 [(2,.a),(5,.l),(6,.i .i64)] (wP Q k):=bK λk h=>aT (ok 75) Eo [ct (agu Q h)]
def adr:=λa b c d e f w Q=>bB (HH a b c d e f w Q) (Bx [ae a,ae b,.slice c d e] 84 w λg w=>Bx [.int .u8 (IntKind.wrap .u8 f)] 5 w λi w=>cond (f==0) (aA (g.add 2) w λj l m=>mQ j l m (.func (.func 242) #[] #[.pointer (some g)]) w λn w=>cond n (Q none 0 0 w) (aA (g.add 2) w λo p q=>aJ 0 p<|wA o λr=>af .u8 (r.add (((0:Int).toNat)*1)) w λs=>Bx [.int .u8 s] 5 w λt w=>App P #[22,22] 22 (.slice (some i) 1 1) (.slice (some t) 1 1) w λu v x w=>Q u v x w)) (cond (f==1) (aA (g.add 2) w λy z a1=>App P #[22,22] 22 (.slice (some i) 1 1) (.slice y z a1) w λb1 c1 d1 w=>Q b1 c1 d1 w) (∃k',wP Q k' g (some i) 1 1 0 w))) (ok 75) Eo [ct (agv Q)] Tryz.func221
def ze (P3:Addr->Int->L3 (Int->WP))(Q:Int->L3 WP)(a:Addr)(b:Int)(c:OA)(d e:Nat)(f:Int)(w:World):Prop:=P3 a b c d e (IntKind.wrap .i64 (f+1)) w
def jN (Q:Int->L3 WP)(R3:Addr->Int->L3 (Int->WP))(a:Addr)(b:Int)(c:OA)(d e:Nat)(f:Int)(w:World):Prop:=cond (decide (f<3)) (af .i64 (a.add 0) w λg=>af .i64 (a.add 1) w λi=>aA (a.add 2) w λj l m=>HH g i j l m f w λn o p w=>cond (!n.isNone) (cond c.isNone (ze R3 Q a f n o p f w) (cond (decide ((o:Int)<(d:Int))) (ze R3 Q a f n o p f w) (R3 a b c d e (IntKind.wrap .i64 (f+1)) w))) (R3 a b c d e (IntKind.wrap .i64 (f+1)) w)) (Q b c d e w)
def ow (Q:Int->L3 WP):Nat->Addr->Int->L3 (Int->WP)
 |0,_,_,_,_,_,_,_=>False
 |k+1,a,b,c,d,e,f,w=>jN Q (ow Q k) a b c d e f w
def ads {P3}(Q)(H3:Bk 32 Tryz.f191 (CL Q) 3 [(1,.a),(4,.i .i64),(5,.l),(8,.i .i64)] P3):Bk 32 Tryz.f191 (CL Q) 7 [(1,.a),(6,.i .i64),(7,.l),(8,.i .i64)] (ze P3 Q):=aT (ok 32) [] [aM H3]
def adt (Q):∀k,Bk 32 Tryz.f191 (CL Q) 3 [(1,.a),(4,.i .i64),(5,.l),(8,.i .i64)] (ow Q k):=bK λk h=>aT (ok 32) [] [aM h,aM (ads Q h)]
def Zs:=λa b c d e w Q=>bB (EO a b c d e w Q) (Bx [ae a,ae b,.slice c d e] 84 w λf w=>∃k',ow Q k' f (-1) none 0 0 0 w) (ok 32) [] [ct (adt Q)] Tryz.func191
def adu:=λa b c d e w Q=>bB (HG a b c d e w Q) (Bx [ae a,ae b,.slice c d e] 84 w λf w=>af .i64 (f.add 0) w λg=>af .i64 (f.add 1) w λi=>aA (f.add 2) w λj l m=>uO g i j l m w λn w=>cond (!n) (Q none 0 0 1 w) (af .i64 (f.add 0) w λo=>af .i64 (f.add 1) w λp=>aA (f.add 2) w λq r s=>EO o p q r s w λt u v x w=>Q u v x 0 w)) (ok 15) [] [] Tryz.func168
def XR:=λa b c d e f w Q=>bB (Dx a b c d e f w Q) (aL P (convert 22 9 (.slice a b c)) w λg w=>YV g λi=>aL P (convert 22 9 (.slice d e f)) w λj w=>YV j λl=>Q (i.toList==l.toList) w) (ok 10) [] [] Tryz.func169
def zf (Q:Int->Int->L3 (Value->WP))(a b:Addr)(w:World):Prop:=St (a.add 0) (ae 0) w λw=>St (a.add 1) (ae 0) w λw=>St (a.add 2) (.slice none 0 0) w λw=>af .i64 (a.add 0) w λc=>af .i64 (a.add 1) w λd=>aA (a.add 2) w λe f g=>Q c d e f g (.iface 268 (.pointer (some b))) w
def mT (Q:Int->Int->L3 (Value->WP))(a:OA)(b:Addr)(c:Value)(d:Addr)(w:World):Prop:=BM c λe=>cond e (af .i64 (d.add 0) w λf=>af .i64 (d.add 1) w λg=>aA (d.add 2) w λi j l=>St (b.add 0) (ae f) w λw=>St (b.add 1) (ae g) w λw=>St (b.add 2) (.slice i j l) w λw=>af .i64 (b.add 0) w λm=>af .i64 (b.add 1) w λn=>aA (b.add 2) w λo p q=>Q m n o p q (.nilIface) w) (wA a λr=>af .i64 (r.add 1) w λs=>dV c λt=>Bx [ae s,ae 3,t] 271 w λu w=>bY (aZ 6) w λv=>pz c v w λx w=>cond x (St (u.add 1) (ae 2) w λw=>zf Q b u w) (zf Q b u w))
noncomputable def zg:cv:=[(5,sp 0 10 (.op 10 (.op 11 .done)))]
def PU (Q):Bk 66 Tryz.f158 (z8 Q) 12 [(6,.a),(13,.a)] (zf Q):=aT (ok 66) zg []
def RX (Q):Bk 66 Tryz.f158 (z8 Q) 7 [(0,.p),(6,.a),(9,.v),(10,.a)] (mT Q):=aT (ok 66) zg [aM (PU Q)]
def Oo:=λa b c w Q=>bB (xY a b c w Q) (Al T 84 w λd w=>xZ a (IntKind.wrap .i64 (b*c)) w λe f g i w=>jJ e f g w λj l m w=>Al T 84 w λn w=>St (n.add 0) (ae b) w λw=>St (n.add 1) (ae c) w λw=>St (n.add 2) (.slice j l m) w λw=>BM i λo=>cond o (af .i64 (n.add 0) w λp=>af .i64 (n.add 1) w λq=>aA (n.add 2) w λr s t=>HG p q r s t w λu v x y w=>wA a λz=>aA z w.drew λa1 b1 c1=>wA a λd1=>af .i64 (d1.add 1) w.drew λe1=>bT a1 b1 c1 1 none (some e1) λf1 g1 i1=>Dx u v x f1 g1 i1 w.drew λj1 w=>cond (!j1) (bY (aZ 5) w λl1=>mT Q a d l1 n w) (mT Q a d i n w)) (mT Q a d i n w)) (ok 66) zg [aM (RX Q)] Tryz.func158
def B8 (Q:Int->Int->L3 (Int->Int->WP))(a:Addr)(w:World):Prop:=St (a.add 0) (ae 0) w λw=>St (a.add 1) (ae 0) w λw=>St (a.add 2) (.slice none 0 0) w λw=>af .i64 (a.add 0) w λb=>af .i64 (a.add 1) w λc=>aA (a.add 2) w λd e f=>Q b c d e f 0 1 w
noncomputable def Tt:cv:=[(7,sp 0 5 (.op 5 (.op 6 (.op 7 .done)))),(8,sp 0 5 (.op 5 (.op 6 (.op 7 .done))))]
def ah5 (Q):Bk 50 Tryz.f143 (Vi Q) 2 [(6,.a)] (B8 Q):=aT (ok 50) Tt []
def adv:=λa b c d e w Q=>bB (HF a b c d e w Q) (Al T 84 w λf w=>cond (decide (d<1)) (B8 Q f w) (cond (decide (d>16)) (B8 Q f w) (cond (decide (e<1)) (B8 Q f w) (cond (decide (e>16)) (B8 Q f w) (Bx [.slice a b c,ae 0] 265 w λg w=>xY (some g) d e w λi j l m n o w=>St (f.add 0) (ae i) w λw=>St (f.add 1) (ae j) w λw=>St (f.add 2) (.slice l m n) w λw=>Al T 268 w λp w=>St p (.pointer none) w λw=>nv o (.iface 269 (.pointer (some p))) w λq w=>cond q (bg p w.drew λr=>wA r λs=>af .i64 (s.add 1) w.drew λt=>St (f.add 0) (ae 0) w.drew λw=>St (f.add 1) (ae 0) w λw=>St (f.add 2) (.slice none 0 0) w λw=>w.cell? (s.add 1)=some (ae t)/\w.cell? p=some (.pointer r)/\w.cell? (s.add 1)=some (ae t)/\w.cell? p=some (.pointer r)/\af .i64 (f.add 0) w λu=>af .i64 (f.add 1) w λv=>aA (f.add 2) w λx y z=>Q u v x y z 0 t w) (af .i64 (f.add 0) w.drew λa1=>af .i64 (f.add 1) w.drew λb1=>aA (f.add 2) w.drew λc1 d1 e1=>af .i64 (g.add 1) w.drew λf1=>St (f.add 0) (ae a1) w.drew λw=>St (f.add 1) (ae b1) w λw=>St (f.add 2) (.slice c1 d1 e1) w λw=>w.cell? (g.add 1)=some (ae f1)/\af .i64 (f.add 0) w λg1=>af .i64 (f.add 1) w λi1=>aA (f.add 2) w λj1 l1 m1=>Q g1 i1 j1 l1 m1 f1 0 w)))))) (ok 50) Tt [aM (ah5 Q)] Tryz.func143
def Zt:=λa b c d w Q=>bB (z6 a b c d w Q) (lF a b w λe w=>cond (!e) (Q (-1) w) (cond (decide (c<0)) (Q (-1) w) (cond (decide (c≥a)) (Q (-1) w) (cond (decide (d<0)) (Q (-1) w) (cond (decide (d≥b)) (Q (-1) w) (Q (IntKind.wrap .i64 ((IntKind.wrap .i64 (d*a))+c)) w)))))) (ok 36) [] [] Tryz.func42
noncomputable def XS:cv:=[(5,sp 0 12 (.op 12 (.op 13 .done)))]
def Vw:=λa b c d w Q=>bB (om a b c d w Q) (wZ a b c w λe f g w=>n7 a b c w λi j w=>cond (!g) (Q (-1) w) (cond (decide (d<0)) (Q (-1) w) (cond (decide (d≥(IntKind.wrap .i64 (i*j)))) (Q (-1) w) (NZ i<|NZ i<|z6 a b (IntKind.wrap .i64 (e+(Int.tmod d i))) (IntKind.wrap .i64 (f+(IntKind.wrap .i64 (Int.tdiv d i)))) w.drew λl w=>Q l w)))) (ok 55) XS [] Tryz.func159
def AO (Q:WP)(R3:Addr->Addr->Int->Int->Int->WP)(a b:Addr)(c d e:Int)(w:World):Prop:=cond (decide (e<d)) (aA (a.add 2) w.drew λf g i=>af .i64 a w.drew λj=>bT f g i 1 (some (IntKind.wrap .i64 (c+(IntKind.wrap .i64 (e*j))))) none λl m n=>aA (b.add 2) w.drew λo p q=>af .i64 b w.drew λr=>af .i64 b w.drew λs=>bT o p q 1 (some (IntKind.wrap .i64 (e*r))) (some (IntKind.wrap .i64 ((IntKind.wrap .i64 (e+1))*s))) λt u v=>cJ P #[22,22] 3 (.slice l m n) (.slice t u v) w.drew λx w=>R3 a b c d (IntKind.wrap .i64 (e+1)) w) (Q w)
def Ep (Q:WP):Nat->Addr->Addr->Int->Int->Int->WP
 |0,_,_,_,_,_,_=>False
 |k+1,a,b,c,d,e,w=>AO Q (Ep Q k) a b c d e w
noncomputable def PV:cv:=[(5,sp 0 21 (.op 21 .done))]
def agw (Q):∀k,Bk 42 Tryz.f144 (Tr Q) 3 [(3,.a),(5,.a),(6,.i .i64),(15,.i .i64),(16,.i .i64)] (Ep Q k):=bK λk h=>aT (ok 42) PV [aM h]
def abf:=λa b c d e f g i j l m w Q=>bB (F9 a b c d e f g i j l m w Q) (Bx [ae a,ae b,.slice c d e] 25 w λn w=>Bx [ae g,ae i,.slice j l m] 84 w λo w=>af .i64 n w λp=>af .i64 (n.add 1) w λq=>om p q f 0 w λr w=>af .i64 (o.add 1) w λs=>∃k',Ep Q k' n o r s 0 w) (ok 42) PV [ct (agw Q)] Tryz.func144
def zh (Q:Int->Int->L3 (Value->WP))(R9:L3 (Addr->Addr->Int->Int->WP))(a:OA)(b c:Nat)(d e:Addr)(f g:Int)(w:World):Prop:=cond (decide (g<f)) (af .i64 e w λi=>af .i64 (e.add 1) w λj=>n7 i j g w λl m w=>HF a b c l m w λn o p q r s t w=>Al T 84 w λu w=>St (u.add 0) (ae n) w λw=>St (u.add 1) (ae o) w λw=>St (u.add 2) (.slice p q r) w λw=>cond (t !=0) (Bx [ae g,.iface 187 (ae t)] 242 w λv w=>St (d.add 0) (ae 0) w λw=>St (d.add 1) (ae 0) w λw=>St (d.add 2) (.slice none 0 0) w λw=>af .i64 (d.add 0) w λx=>af .i64 (d.add 1) w λy=>aA (d.add 2) w λz a1 b1=>Q x y z a1 b1 (.iface 240 (.pointer (some v))) w) (af .i64 (e.add 0) w λc1=>af .i64 (e.add 1) w λd1=>aA (e.add 2) w λe1 f1 g1=>af .i64 (u.add 0) w λi1=>af .i64 (u.add 1) w λj1=>aA (u.add 2) w λl1 m1 n1=>F9 c1 d1 e1 f1 g1 g i1 j1 l1 m1 n1 w λw=>bT a b c 1 (some s) none λo1 p1 q1=>R9 o1 p1 q1 d e f (IntKind.wrap .i64 (g+1)) w)) (cond (decide ((b:Int)>0)) (St (d.add 0) (ae 0) w λw=>St (d.add 1) (ae 0) w λw=>St (d.add 2) (.slice none 0 0) w λw=>af .i64 (d.add 0) w λr1=>af .i64 (d.add 1) w λs1=>aA (d.add 2) w λt1 u1 v1=>Q r1 s1 t1 u1 v1 (.iface 187 (ae 3)) w) (af .i64 (e.add 0) w λx1=>af .i64 (e.add 1) w λy1=>aA (e.add 2) w λz1 a2 b2=>St (d.add 0) (ae x1) w λw=>St (d.add 1) (ae y1) w λw=>St (d.add 2) (.slice z1 a2 b2) w λw=>af .i64 (d.add 0) w λc2=>af .i64 (d.add 1) w λd2=>aA (d.add 2) w λe2 f2 g2=>Q c2 d2 e2 f2 g2 (.nilIface) w))
def CR (Q:Int->Int->L3 (Value->WP)):Nat->L3 (Addr->Addr->Int->Int->WP)
 |0,_,_,_,_,_,_,_,_=>False
 |k+1,a,b,c,d,e,f,g,w=>zh Q (CR Q k) a b c d e f g w
noncomputable def Nt:cv:=[(3,sp 0 21 (.op 21 (.op 22 .done)))]
def adw (Q):∀k,Bk 102 Tryz.f111 (Pz Q) 9 [(0,.l),(2,.a),(4,.a),(58,.i .i64),(59,.i .i64)] (CR Q k):=bK λk h=>aT (ok 102) Nt [aM h]
def Zu:=λa b c w Q=>bB (EH a b c w Q) (Al T 25 w λd w=>cond (decide ((b:Int)<4)) (St (d.add 0) (ae 0) w λw=>St (d.add 1) (ae 0) w λw=>St (d.add 2) (.slice none 0 0) w λw=>af .i64 (d.add 0) w λe=>af .i64 (d.add 1) w λf=>aA (d.add 2) w λg i j=>Q e f g i j (.iface 187 (ae 2)) w) (aJ 0 b<|wA a λl=>af .u8 (l.add (((0:Int).toNat)*1)) w.drew λm=>aJ 1 b<|wA a λn=>af .u8 (n.add (((1:Int).toNat)*1)) w.drew λo=>DS 8<|aJ 2 b<|wA a λp=>af .u8 (p.add (((2:Int).toNat)*1)) w.drew λq=>aJ 3 b<|wA a λr=>af .u8 (r.add (((3:Int).toNat)*1)) w.drew λs=>DS 8<|Al T 25 w.drew λt w=>w.cell? (r.add (((3:Int).toNat)*1))=some (.int .u8 s)/\w.cell? (p.add (((2:Int).toNat)*1))=some (.int .u8 q)/\w.cell? (n.add (((1:Int).toNat)*1))=some (.int .u8 o)/\w.cell? (l.add (((0:Int).toNat)*1))=some (.int .u8 m)/\St (t.add 0) (ae (ior .i64 (IntKind.wrap .i64 m) (BL .i64 (IntKind.wrap .i64 o) 8))) w λw=>St (t.add 1) (ae (ior .i64 (IntKind.wrap .i64 q) (BL .i64 (IntKind.wrap .i64 s) 8))) w λw=>St (t.add 2) (.slice none 0 0) w λw=>af .i64 t w λu=>af .i64 (t.add 1) w λv=>lF u v w λx w=>cond (!x) (St (d.add 0) (ae 0) w λw=>St (d.add 1) (ae 0) w λw=>St (d.add 2) (.slice none 0 0) w λw=>af .i64 (d.add 0) w λy=>af .i64 (d.add 1) w λz=>aA (d.add 2) w λa1 b1 c1=>Q y z a1 b1 c1 (.iface 187 (ae 3)) w) (bT a b c 1 (some 4) none λd1 e1 f1=>af .i64 t w λg1=>af .i64 (t.add 1) w λi1=>cB P 22 (ae (IntKind.wrap .i64 (g1*i1))) (ae (IntKind.wrap .i64 (g1*i1))) w λj1 l1 m1 w=>St (t.add 2) (.slice j1 l1 m1) w λw=>af .i64 t w λn1=>af .i64 (t.add 1) w λo1=>EJ n1 o1 w λp1 w=>∃k',CR Q k' d1 e1 f1 d t p1 0 w))) (ok 102) Nt [ct (adw Q)] Tryz.func111
noncomputable def adx:cv:=[(4,sp 0 2 (.op 2 (.op 3 .done)))]
def abg:=λa b c w Q=>bB (F3 a b c w Q) (Al T 25 w λd w=>EH a b c w λe f g i j l w=>Al T 25 w λm w=>St (m.add 0) (ae e) w λw=>St (m.add 1) (ae f) w λw=>St (m.add 2) (.slice g i j) w λw=>Al T 187 w λn w=>St n (ae 0) w λw=>nv l (.iface 188 (.pointer (some n))) w λo w=>cond o (af .i64 n w.drew λp=>St (d.add 0) (ae 0) w.drew λw=>St (d.add 1) (ae 0) w λw=>St (d.add 2) (.slice none 0 0) w λw=>w.cell? n=some (ae p)/\af .i64 (d.add 0) w λq=>af .i64 (d.add 1) w λr=>aA (d.add 2) w λs t u=>Q q r s t u p w) (af .i64 (m.add 0) w λv=>af .i64 (m.add 1) w λx=>aA (m.add 2) w λy z a1=>St (d.add 0) (ae v) w λw=>St (d.add 1) (ae x) w λw=>St (d.add 2) (.slice y z a1) w λw=>af .i64 (d.add 0) w λb1=>af .i64 (d.add 1) w λc1=>aA (d.add 2) w λd1 e1 f1=>Q b1 c1 d1 e1 f1 0 w)) (ok 18) adx [] Tryz.func79
def ME:=λa w Q=>bB (qt a w Q) (cond (!a.isNone) (wA a λb=>bg b w λc=>vF c w λw=>wA a λd=>St (d.add 1) (.slice none 0 0) w λw=>Q w) (Q w)) (ok 12) [] [] Tryz.func82
def abh:=λa b c d e w Q=>bB (Bm a b c d e w Q) (Bx [ae a,ae b,.slice c d e] 25 w λf w=>af .i64 f w λg=>af .i64 (f.add 1) w λi=>lF g i w λj w=>cond j (aA (f.add 2) w λl m n=>af .i64 f w λo=>af .i64 (f.add 1) w λp=>cond ((m:Int)==(IntKind.wrap .i64 (o*p))) (aA (f.add 2) w λq r s=>iV q r s 0 w λt w=>Q (!t) w) (Q false w)) (Q false w)) (ok 25) [] [] Tryz.func112
def B9 (Q:OA->WP)(R7:Addr->Int->Int->WP)(a:Addr)(b c:Int)(w:World):Prop:=cond (decide (c<b)) (aA (a.add 4) w.drew λd e f=>af .i64 (a.add 3) w.drew λg=>aJ c e<|wA d λi=>St (i.add (c.toNat*1)) (ae g) w.drew λw=>R7 a b (IntKind.wrap .i64 (c+1)) w) (Q (some a) w)
def zi (Q:OA->WP):Nat->Addr->Int->Int->WP
 |0,_,_,_,_=>False
 |k+1,a,b,c,w=>B9 Q (zi Q k) a b c w
noncomputable def Tu:cv:=[(5,sp 0 6 (.op 6 (.op 7 (.op 8 (.op 9 .done))))),(9,sp 0 10 (.op 10 .done))]
def ah6 (Q):∀k,Bk 61 Tryz.f113 (Vg Q) 7 [(7,.a),(45,.i .i64),(46,.i .i64)] (zi Q k):=bK λk h=>aT (ok 61) Tu [aM h]
def ady:=λa b c d e f w Q=>bB (HC a b c d e f w Q) (Bx [ae a,ae b,.slice c d e] 25 w λg w=>af .i64 (g.add 0) w λi=>af .i64 (g.add 1) w λj=>aA (g.add 2) w λl m n=>Bm i j l m n w λo w=>cond (!o) (Q none w) (cond (decide (f<0)) (Q none w) (cond (decide (f>4611686018427387904)) (Q none w) (aA (g.add 2) w λp q r=>jJ p q r w λs t u w=>St (g.add 2) (.slice s t u) w λw=>af .i64 g w λv=>af .i64 (g.add 1) w λx=>ld v x w λy z w=>af .i64 (g.add 0) w.drew λa1=>af .i64 (g.add 1) w.drew λb1=>aA (g.add 2) w.drew λc1 d1 e1=>cB P 172 (ae (IntKind.wrap .i64 (y*z))) (ae (IntKind.wrap .i64 (y*z))) w.drew λf1 g1 i1 w=>w.cell? (g.add 0)=some (ae a1)/\w.cell? (g.add 1)=some (ae b1)/\w.cell? (g.add 2)=some (.slice c1 d1 e1)/\Bx [ae a1,ae b1,.slice c1 d1 e1,ae (IntKind.wrap .i64 (f+1)),.slice f1 g1 i1] 174 w λj1 w=>aA (j1.add 4) w λl1 m1 n1=>∃k',zi Q k' j1 (m1:Int) 0 w)))) (ok 61) Tu [ct (ah6 Q)] Tryz.func113
def Fq:=λa w Q=>bB (fZ a w Q) (cond a.isNone (Q 0 w) (wA a λb=>af .i64 (b.add 3) w λc=>Q c w)) (ok 9) [] [] Tryz.func114
noncomputable def Un:cv:=[(3,sp 0 10 (.op 10 (.op 11 .done)))]
def RY:=λa w Q=>bB (eM a w Q) (cond a.isNone (Q 0 0 w) (wA a λb=>af .i64 b w.drew λc=>wA a λd=>af .i64 (d.add 1) w.drew λe=>w.drew.cell? (d.add 1)=some (ae e)/\Q c e w.drew)) (ok 16) Un [] Tryz.func147
def adz:=λa w Q=>bB (HD a w Q) (cond a.isNone (Q none w) (eM a w λb c w=>ld b c w λd e w=>cB P 234 (ae (IntKind.wrap .i64 (d*e))) (ae (IntKind.wrap .i64 (d*e))) w λf g i w=>Bx [.pointer a,.slice f g i,ae 0,.int .u64 0] 236 w λj w=>Q (some j) w)) (ok 22) [] [] Tryz.func115
def abi:=λa b w Q=>bB (F6 a b w Q) (cond a.isNone (Q none w) (cond b.isNone (Q none w) (Bx [.pointer a,.pointer b,.pointer none,.int .u64 0] 197 w λc w=>Q (some c) w))) (ok 15) [] [] Tryz.func116
noncomputable def XT:cv:=[(5,sp 0 6 (.op 6 (.op 7 (sp 8 2 (.op 10 .done))))),(6,sp 0 6 (.op 6 (.op 7 (sp 8 2 (.op 10 .done))))),(8,sp 0 9 (.op 9 (sp 10 2 (.op 12 .done))))]
def Vx:=λa b c d e f w Q=>bB (BV a b c d e f w Q) (Bx [ae b,ae c,.slice d e f] 25 w λg w=>cond a.isNone (Q 4 w) (af .i64 (g.add 0) w λi=>af .i64 (g.add 1) w λj=>aA (g.add 2) w λl m n=>Bm i j l m n w λo w=>cond (!o) (Q 6 w) (wA a λp=>af .u64 ((p.add 4).add 0) w.drew λq=>af .u64 ((p.add 4).add 1) w.drew λr=>af .u64 ((p.add 4).add 2) w.drew λs=>af .u64 ((p.add 4).add 3) w.drew λt=>af .u64 ((p.add 4).add 4) w.drew λu=>af .u64 ((p.add 4).add 5) w.drew λv=>tU a w.drew λx y z a1 b1 c1 w=>w.cell? ((p.add 4).add 0)=some (.int .u64 q)/\w.cell? ((p.add 4).add 1)=some (.int .u64 r)/\w.cell? ((p.add 4).add 2)=some (.int .u64 s)/\w.cell? ((p.add 4).add 3)=some (.int .u64 t)/\w.cell? ((p.add 4).add 4)=some (.int .u64 u)/\w.cell? ((p.add 4).add 5)=some (.int .u64 v)/\wU q r s t u v x y z a1 b1 c1 w λd1 e1 f1 g1 i1 j1 w=>wA a λl1=>St ((l1.add 4).add 0) (.int .u64 d1) w λw=>St ((l1.add 4).add 1) (.int .u64 e1) w λw=>St ((l1.add 4).add 2) (.int .u64 f1) w λw=>St ((l1.add 4).add 3) (.int .u64 g1) w λw=>St ((l1.add 4).add 4) (.int .u64 i1) w λw=>St ((l1.add 4).add 5) (.int .u64 j1) w λw=>af .i64 (g.add 0) w.drew λm1=>af .i64 (g.add 1) w.drew λn1=>aA (g.add 2) w.drew λo1 p1 q1=>wA a λr1=>bg r1 w.drew λs1=>fZ s1 w.drew λt1 w=>w.cell? (g.add 0)=some (ae m1)/\w.cell? (g.add 1)=some (ae n1)/\w.cell? (g.add 2)=some (.slice o1 p1 q1)/\HC m1 n1 o1 p1 q1 t1 w λu1 w=>wA a λv1=>St v1 (.pointer u1) w λw=>wA a λx1=>bg x1 w λy1=>HD y1 w λz1 w=>wA a λa2=>St (a2.add 1) (.pointer z1) w λw=>wA a λb2=>bg (b2.add 1) w.drew λc2=>wA a λd2=>bg d2 w.drew λe2=>F6 c2 e2 w.drew λf2 w=>wA a λg2=>St (g2.add 2) (.pointer f2) w λw=>wA a λi2=>bg (i2.add 3) w λj2=>qt j2 w λw=>Q 0 w))) (ok 57) XT [] Tryz.func80
def abj:=λa w Q=>bB (F7 a w Q) (cond (decide (a<1)) (Q none w) (cond (decide (a>65536)) (Q none w) (cz P 169 none w λb w=>Bx [ae a,ae 0,.map b,.slice none 0 0] 171 w λc w=>Q (some c) w))) (ok 13) [] [] Tryz.func117
def abk:=λa w Q=>bB (F8 a w Q) (cond (decide (a<1)) (Q none w) (cond (decide (a>1048576)) (Q none w) (cB P 245 (ae a) (ae a) w λb c d w=>Bx [.slice b c d,ae 0] 247 w λe w=>Q (some e) w))) (ok 13) [] [] Tryz.func118
def abl:=λa b c w Q=>bB (F4 a b c w Q) (lF a b w λd w=>cond (!d) (Q none w) (cond (decide (c<1)) (Q none w) (cond (decide (c>65536)) (Q none w) (F7 c w λe w=>F8 (IntKind.wrap .i64 (a*b)) w λf w=>Bx [ae a,ae b,ae c,.pointer e,.pointer f] 125 w λg w=>Q (some g) w)))) (ok 30) [] [] Tryz.func81
noncomputable def PW:cv:=[(4,sp 0 5 (.op 5 (.op 6 .done))),(6,sp 0 9 (.op 9 (sp 10 2 (.op 12 .done))))]
def Oq:=λa b c d w Q=>bB (xP a b c d w Q) (F3 b c d w λe f g i j l w=>Al T 25 w λm w=>St (m.add 0) (ae e) w λw=>St (m.add 1) (ae f) w λw=>St (m.add 2) (.slice g i j) w λw=>cond (l !=0) (Q (.iface 108 (ae 6)) w) (wA a λn=>bg (n.add 1) w.drew λo=>af .i64 (m.add 0) w.drew λp=>af .i64 (m.add 1) w.drew λq=>aA (m.add 2) w.drew λr s t=>BV o p q r s t w.drew λu w=>cond (u==0) (af .i64 m w.drew λv=>af .i64 (m.add 1) w.drew λx=>wA a λy=>af .i64 y w.drew λz=>F4 v x z w.drew λa1 w=>wA a λb1=>St (b1.add 2) (.pointer a1) w λw=>gj u w λc1 w=>dV c1 λd1=>Q d1 w) (gj u w λe1 w=>dV e1 λf1=>Q f1 w))) (ok 37) PW [] Tryz.func50
def Dj:=λa w Q=>bB (qu a w Q) (cond (!a.isNone) (wA a λb=>St (b.add 2) (.pointer none) w λw=>Q w) (Q w)) (ok 7) [] [] Tryz.func83
def Hf:=λa w Q=>bB (vD a w Q) (cond (!a.isNone) (wA a λb=>bg (b.add 3) w λc=>qt c w λw=>wA a λd=>bg (d.add 2) w λe=>qu e w λw=>Q w) (Q w)) (ok 14) [] [] Tryz.func51
def RZ:=λa b w Q=>bB (tW a b w Q) (cond (!a.isNone) (cond (decide (b≥0)) (wA a λc=>aA c w λd e f=>Q (decide (b<(e:Int))) w) (Q false w)) (Q false w)) (ok 20) [] [] Tryz.func148
def PX:=λa b w Q=>bB (lW a b w Q) (tW a b w λc w=>cond (!c) (Q (-1) w) (wA a λd=>aA d w λe f g=>aJ b f<|wA e λi=>af .u32 (i.add (b.toNat*1)) w λj=>Q (IntKind.wrap .i64 ((IntKind.wrap .i64 j)-1)) w)) (ok 18) [] [] Tryz.func119
def PY:=λa b w Q=>bB (yQ a b w Q) (cond a.isNone (Q (-1) w) (wA a λc=>bg (c.add 4) w λd=>lW d b w λe w=>Q e w)) (ok 13) [] [] Tryz.func84
def adA:=λa b c w Q=>bB (yP a b c w Q) (lF a b w λd w=>cond d (cond (decide (c≥0)) (Q (decide (c<(IntKind.wrap .i64 (a*b)))) w) (Q false w)) (Q false w)) (ok 21) [] [] Tryz.func68
noncomputable def Zv:cv:=[(3,sp 0 6 (.op 6 (.op 7 .done)))]
def XU:=λa b c w Q=>bB (s9 a b c w Q) (yP a b c w λd w=>cond (!d) (Q (-1) (-1) w) (NZ a<|NZ a<|Q (Int.tmod c a) (IntKind.wrap .i64 (Int.tdiv c a)) w.drew)) (ok 19) Zv [] Tryz.func41
def Vy:=λa b c w Q=>bB (dY a b c w Q) (s9 a b c w λd e w=>cond (decide (d<0)) (Q (-1) w) (ld a b w λf g w=>NZ 16<|NZ 16<|Q (IntKind.wrap .i64 ((IntKind.wrap .i64 ((IntKind.wrap .i64 (Int.tdiv e 16))*f))+(IntKind.wrap .i64 (Int.tdiv d 16)))) w)) (ok 33) [] [] Tryz.func123
noncomputable def Uo:cv:=[(9,sp 0 15 (sp 16 4 (.op 15 (.op 20 (.op 21 .done)))))]
def R0:=λa b c w Q=>bB (z7 a b c w Q) (cond a.isNone (Q 4 w) (cond (decide (b<0)) (Q 7 w) (wA a λd=>aA (d.add 2) w λe f g=>cond (decide (b≥(f:Int))) (Q 7 w) (cond (decide (c<1)) (Q 8 w) (cond (decide (c>255)) (Q 8 w) (wA a λi=>aA (i.add 2) w λj l m=>aJ b l<|wA j λn=>St (n.add (b.toNat*1)) (.int .u8 (IntKind.wrap .u8 c)) w λw=>wA a λo=>af .i64 (o.add 3) w λp=>wA a λq=>St (q.add 3) (ae (IntKind.wrap .i64 (p+1))) w λw=>wA a λr=>aA (r.add 4) w.drew λs t u=>wA a λv=>af .i64 v w.drew λx=>wA a λy=>af .i64 (y.add 1) w.drew λz=>wA a λa1=>af .i64 (a1.add 3) w.drew λb1=>dY x z b w.drew λc1 w=>w.cell? (a1.add 3)=some (ae b1)/\w.cell? (r.add 4)=some (.slice s t u)/\(aJ c1 t<|wA s λd1=>St (d1.add (c1.toNat*1)) (ae b1) w λw=>Q 0 w))))))) (ok 67) Uo [] Tryz.func120
def Vz:=λa b c w Q=>bB (BW a b c w Q) (cond a.isNone (Q 4 w) (wA a λd=>bg d w λe=>z7 e b c w λf w=>Q f w)) (ok 16) [] [] Tryz.func85
def uu (Q:Value->WP)(a:OA)(b c:Int)(w:World):Prop:=wA a λd=>bg (d.add 1) w λe=>BW e b c w λf w=>gj f w λg w=>dV g λi=>Q i w
def R_ (Q):Bk 36 Tryz.f52 (F2 Q) 5 [(0,.p),(1,.i .i64),(2,.i .i64)] (uu Q):=aT (ok 36) [] []
def Ot:=λa b c w Q=>bB (xQ a b c w Q) (cond (decide (c<1)) (Q (.iface 108 (ae 8)) w) (cond (decide (c>255)) (Q (.iface 108 (ae 8)) w) (cond (c==255) (wA a λd=>bg (d.add 2) w λe=>yQ e b w λf w=>cond (decide (f≥0)) (Q (.iface 108 (ae 10)) w) (uu Q a b c w)) (uu Q a b c w)))) (ok 36) [] [aM (R_ Q)] Tryz.func52
noncomputable def Up:cv:=[(1,sp 0 9 (.op 9 (.op 10 (.op 11 .done))))]
def Sa:=λa b w Q=>bB (pA a b w Q) (wA a λc=>af .i64 c w.drew λd=>wA a λe=>af .i64 (e.add 1) w.drew λf=>dY d f b w.drew λg w=>Q (decide (g≥0)) w) (ok 16) Up [] Tryz.func88
def PZ:=λa w Q=>bB (yT a w Q) (cond a.isNone (Q 0 w) (wA a λb=>cu (b.add 2) w λc=>aL P (Builtin.len_ #[169] 3 [.map c].toArray) w λd w=>dI .i64 d λe=>Q e w)) (ok 10) [] [] Tryz.func124
def nP (Q:Int->WP)(a b:Int)(w:World):Prop:=cond (a==b) (Q 13 w) (Q 0 w)
def x8 (Q:Int->WP)(a:OA)(b c:Int)(w:World):Prop:=wA a λd=>bg (d.add 3) w.drew λe=>wA a λf=>af .i64 (f.add 2) w.drew λg=>yT e w.drew λi w=>w.cell? (f.add 2)=some (ae g)/\cond (decide (i≥g)) (Q 11 w) (nP Q b c w)
def zj (Q:Int->WP)(a:OA)(b c:Int)(w:World):Prop:=wA a λd=>bg (d.add 4) w λe=>lW e b w λf w=>cond (f !=(-1)) (Q 10 w) (x8 Q a b c w)
noncomputable def rA:cv:=[(10,sp 0 4 (sp 5 4 (.op 4 (.op 9 .done))))]
def D2 (Q):Bk 48 Tryz.f89 (r6 Q) 12 [(2,.i .i64),(3,.i .i64)] (nP Q):=aT (ok 48) rA []
def D3 (Q):Bk 48 Tryz.f89 (r6 Q) 10 [(0,.p),(2,.i .i64),(3,.i .i64)] (x8 Q):=aT (ok 48) rA [aM (D2 Q)]
def P0 (Q):Bk 48 Tryz.f89 (r6 Q) 8 [(0,.p),(2,.i .i64),(3,.i .i64)] (zj Q):=aT (ok 48) rA [aM (D3 Q)]
def Dk:=λa b c d w Q=>bB (m6 a b c d w Q) (cond (b==0) (pA a c w λe w=>cond (!e) (Q 7 w) (pA a d w λf w=>cond (!f) (Q 7 w) (zj Q a c d w))) (cond (b==1) (zj Q a c d w) (cond (b==2) (x8 Q a c d w) (cond (b==3) (nP Q c d w) (Q 0 w))))) (ok 48) rA [aM (P0 Q),aM (D3 Q),aM (D2 Q)] Tryz.func89
noncomputable def Sb:cv:=[(1,sp 0 7 (sp 8 4 (.op 7 (sp 12 2 .done))))]
def P9:=λa b c w Q=>bB (yS a b c w Q) (cond a.isNone (Q 0 false w.drew) (wA a λd=>cu (d.add 2) w.drew λe=>wA a λf=>af .i64 f w.drew λg=>aL P (Builtin.len_ #[169] 3 [.map e].toArray) w.drew λi w=>dI .i64 i λj=>w.cell? f=some (ae g)/\cond (decide (j≥g)) (Q 0 false w) (wA a λl=>af .i64 (l.add 1) w λm=>wA a λn=>af .i64 (n.add 1) w λo=>wA a λp=>St (p.add 1) (ae (IntKind.wrap .i64 (o+1))) w λw=>wA a λq=>cu (q.add 2) w λr=>bD P (Instr.mapUpdate 169 (.map r) (ae m) (.agg #[ae m,ae b,ae c])) w λw=>wA a λs=>aA (s.add 3) w λt u v=>Bx [ae m] 3 w λx w=>App P #[29,29] 29 (.slice t u v) (.slice (some x) 1 1) w λy z a1 w=>wA a λb1=>St (b1.add 3) (.slice y z a1) w λw=>Q m true w))) (ok 54) Sb [] Tryz.func121
def Ou:=λa b w Q=>bB (ru a b w Q) (tW a b w λc w=>cond c (wA a λd=>aA d w λe f g=>aJ b f<|wA e λi=>af .u32 (i.add (b.toNat*1)) w λj=>Q (j==0) w) (Q false w)) (ok 18) [] [] Tryz.func149
def P_:=λa b c w Q=>bB (r9 a b c w Q) (ru a b w λd w=>cond (!d) (Q false w) (cond (decide (c<0)) (Q false w) (cond (decide (c≥4294967295)) (Q false w) (wA a λe=>aA e w λf g i=>aJ b g<|wA f λj=>St (j.add (b.toNat*1)) (.int .u32 (IntKind.wrap .u32 (IntKind.wrap .i64 (c+1)))) w λw=>wA a λl=>af .i64 (l.add 1) w λm=>wA a λn=>St (n.add 1) (ae (IntKind.wrap .i64 (m+1))) w λw=>Q true w)))) (ok 35) [] [] Tryz.func122
def MF:=λa b c w Q=>bB (wv a b c w Q) (cond a.isNone (Q (-1) 1 w) (m6 a 0 b c w λd w=>cond (d !=0) (Q (-1) d w) (wA a λe=>bg (e.add 3) w λf=>yS f b c w λg i w=>wA a λj=>bg (j.add 4) w λl=>r9 l b g w λm w=>Q g 0 w))) (ok 35) [] [] Tryz.func86
def MG:=λa b c w Q=>bB (wm a b c w Q) (wA a λd=>bg (d.add 1) w λe=>rL e b w λf w=>cond (f==255) (Q (-1) (.iface 108 (ae 9)) w) (wA a λg=>bg (g.add 2) w λi=>wv i b c w λj l w=>gj l w λm w=>dV m λn=>Q j n w)) (ok 31) [] [] Tryz.func53
def Qa:=λa b w Q=>bB (iQ a b w Q) (Al T 43 w λc w=>cond a.isNone (St (c.add 0) (ae 0) w λw=>St (c.add 1) (ae 0) w λw=>St (c.add 2) (ae 0) w λw=>af .i64 (c.add 0) w λd=>af .i64 (c.add 1) w λe=>af .i64 (c.add 2) w λf=>Q d e f false w) (wA a λg=>cu (g.add 2) w λi=>aL P (Instr.lookup 169 (.map i) (ae b) true) w λj w=>dT j λl=>dG l λm n=>dL m λo=>dG o λp q=>dI .i64 p λr=>dG q λs t=>dI .i64 s λu=>dG t λv x=>dI .i64 v λy=>kM x<|dG n λz a1=>dB z λb1=>kM a1<|Al T 43 w λc1 w=>St (c1.add 0) (ae r) w λw=>St (c1.add 1) (ae u) w λw=>St (c1.add 2) (ae y) w λw=>af .i64 (c1.add 0) w λd1=>af .i64 (c1.add 1) w λe1=>af .i64 (c1.add 2) w λf1=>St (c.add 0) (ae d1) w λw=>St (c.add 1) (ae e1) w λw=>St (c.add 2) (ae f1) w λw=>af .i64 (c.add 0) w λg1=>af .i64 (c.add 1) w λi1=>af .i64 (c.add 2) w λj1=>Q g1 i1 j1 b1 w)) (ok 22) [] [] Tryz.func87
def ox (Q:L3 WP)(R3:OA->L3 (L3 (Int->Int->WP)))(a b:OA)(c d:Nat)(e:OA)(f g:Nat)(i j:Int)(w:World):Prop:=cond (decide (j<i)) (aJ j f<|wA e λl=>af .i64 (l.add (j.toNat*1)) w λm=>wA a λn=>cu (n.add 2) w λo=>aL P (Instr.lookup 169 (.map o) (ae m) true) w λp w=>dT p λq=>dG q λr s=>dL r λt=>dG t λu v=>dI .i64 u λx=>dG v λy z=>dI .i64 y λa1=>dG z λb1 c1=>dI .i64 b1 λd1=>kM c1<|dG s λe1 f1=>dB e1 λg1=>kM f1<|Al T 43 w λi1 w=>St (i1.add 0) (ae x) w λw=>St (i1.add 1) (ae a1) w λw=>St (i1.add 2) (ae d1) w λw=>cond g1 (Bx [ae m] 3 w λj1 w=>App P #[29,29] 29 (.slice b c d) (.slice (some j1) 1 1) w λl1 m1 n1 w=>R3 a l1 m1 n1 e f g i (IntKind.wrap .i64 (j+1)) w) (R3 a b c d e f g i (IntKind.wrap .i64 (j+1)) w)) (Q b c d w)
def lX (Q:L3 WP):Nat->OA->L3 (L3 (Int->Int->WP))
 |0,_,_,_,_,_,_,_,_,_,_=>False
 |k+1,a,b,c,d,e,f,g,i,j,w=>ox Q (lX Q k) a b c d e f g i j w
def Qb (Q):∀k,Bk 33 Tryz.f102 (Fg Q) 3 [(0,.p),(3,.l),(11,.l),(12,.i .i64),(13,.i .i64)] (lX Q k):=bK λk h=>aT (ok 33) [] [aM h]
def MH:=λa w Q=>bB (qv a w Q) (wA a λb=>aA (b.add 3) w λc d e=>∃k',lX Q k' a none 0 0 c d e (d:Int) 0 w) (ok 33) [] [ct (Qb Q)] Tryz.func102
noncomputable def Qc:cv:=[(5,sp 0 9 (.op 9 (sp 10 2 .done)))]
def Ov:=λa b w Q=>bB (xV a b w Q) (iQ a b w λc d e f w=>Al T 43 w λg w=>St (g.add 0) (ae c) w λw=>St (g.add 1) (ae d) w λw=>St (g.add 2) (ae e) w λw=>cond (!f) (Q false w) (wA a λi=>cu (i.add 2) w λj=>aL P (Builtin.delete_ #[169,3] 0 [.map j,ae b].toArray) w λl w=>wA a λm=>aA (m.add 3) w.drew λn o p=>wA a λq=>cu (q.add 2) w.drew λr=>aL P (Builtin.len_ #[169] 3 [.map r].toArray) w.drew λs w=>dI .i64 s λt=>w.cell? (m.add 3)=some (.slice n o p)/\cond (decide ((o:Int)>(IntKind.wrap .i64 (2*t)))) (qv a w λu v x w=>wA a λy=>St (y.add 3) (.slice u v x) w λw=>Q true w) (Q true w))) (ok 37) Qc [] Tryz.func125
def Ow:=λa b w Q=>bB (rq a b w Q) (lW a b w λc w=>cond (c !=(-1)) (wA a λd=>aA d w λe f g=>aJ b f<|wA e λi=>St (i.add (b.toNat*1)) (.int .u32 0) w λw=>wA a λj=>af .i64 (j.add 1) w λl=>wA a λm=>St (m.add 1) (ae (IntKind.wrap .i64 (l-1))) w λw=>Q c w) (Q c w)) (ok 25) [] [] Tryz.func126
noncomputable def Qd:cv:=[(1,sp 0 6 (.op 6 .done)),(2,sp 0 6 (.op 6 .done))]
def Ox:=λa b c d w Q=>bB (nK a b c d w Q) (Bx [ae b,ae c,ae d] 43 w λe w=>wA a λf=>bg (f.add 3) w.drew λg=>af .i64 e w.drew λi=>xV g i w.drew λj w=>wA a λl=>bg (l.add 4) w.drew λm=>af .i64 (e.add 1) w.drew λn=>rq m n w.drew λo w=>Q w) (ok 18) Qd [] Tryz.func90
noncomputable def Sc:cv:=[(4,sp 0 6 (.op 6 .done))]
def Qe:=λa b c w Q=>bB (r_ a b c w Q) (iQ a b w λd e f g w=>Al T 43 w λi w=>St (i.add 0) (ae d) w λw=>St (i.add 1) (ae e) w λw=>St (i.add 2) (ae f) w λw=>cond g (h_ (cx 25) c [.pointer (some i)] w λj w=>dT j λl=>kM l<|wA a λm=>cu (m.add 2) w.drew λn=>af .i64 (i.add 0) w.drew λo=>af .i64 (i.add 1) w.drew λp=>af .i64 (i.add 2) w.drew λq=>bD P (Instr.mapUpdate 169 (.map n) (ae b) (.agg #[ae o,ae p,ae q])) w.drew λw=>Q g w) (Q g w)) (ok 25) Sc [] Tryz.func127
def MI:=λa b w Q=>bB (Dg a b w Q) (wA b λc=>af .i64 c w λd=>wA a λe=>St (e.add 2) (ae d) w λw=>Q w) (ok 7) [] [] Tryz.func128
def Qf:=λa b c w Q=>bB (yR a b c w Q) (Bx [ae c] 3 w λd w=>r_ a b (.func (.func 128) #[] #[.pointer (some d)]) w λe w=>Q e w) (ok 11) [] [] Tryz.func91
def JE:=λa b c w Q=>bB (sS a b c w Q) (cond a.isNone (Q 1 w) (wA a λd=>bg (d.add 3) w λe=>iQ e b w λf g i j w=>Al T 43 w λl w=>St (l.add 0) (ae f) w λw=>St (l.add 1) (ae g) w λw=>St (l.add 2) (ae i) w λw=>cond (!j) (Q 12 w) (pA a c w λm w=>cond (!m) (Q 7 w) (af .i64 (l.add 1) w λn=>m6 a 3 n c w λo w=>cond (o !=0) (af .i64 (l.add 0) w λp=>af .i64 (l.add 1) w λq=>af .i64 (l.add 2) w λr=>nK a p q r w λw=>Q o w) (wA a λs=>bg (s.add 3) w λt=>yR t b c w λu w=>Q 0 w))))) (ok 47) [] [] Tryz.func55
def Kf:=λa b w Q=>bB (tS a b w Q) (cond a.isNone (Q 1 w) (wA a λc=>bg (c.add 3) w λd=>iQ d b w λe f g i w=>Al T 43 w λj w=>St (j.add 0) (ae e) w λw=>St (j.add 1) (ae f) w λw=>St (j.add 2) (ae g) w λw=>cond (!i) (Q 12 w) (af .i64 (j.add 0) w λl=>af .i64 (j.add 1) w λm=>af .i64 (j.add 2) w λn=>nK a l m n w λw=>Q 0 w))) (ok 23) [] [] Tryz.func56
def VA:=λa w Q=>bB (wX a w Q) (cond a.isNone (Q 0 0 w) (wA a λb=>bg b w λc=>eM c w λd e w=>Q d e w)) (ok 13) [] [] Tryz.func131
def XV:=λa b c w Q=>bB (nj a b c w Q) (s9 a b c w λd e w=>cond (decide (d<0)) (Q (-1) w) (dY a b c w λf w=>n7 a b f w λg i w=>NZ 16<|NZ 16<|Q (IntKind.wrap .i64 ((IntKind.wrap .i64 ((Int.tmod e 16)*g))+(Int.tmod d 16))) w)) (ok 37) [] [] Tryz.func132
def rO (Q:Int->Int->L3 (Bool->WP))(R7:OA->Int->Addr->Int->Int->Int->Addr->Int->Int->WP)(a:OA)(b:Int)(c:Addr)(d e f:Int)(g:Addr)(i j:Int)(w:World):Prop:=cond (decide (j<i)) (om d e b (IntKind.wrap .i64 (j*f)) w λl w=>aA (g.add 2) w.drew λm n o=>wA a λp=>aA (p.add 2) w.drew λq r s=>bT q r s 1 (some l) (some (IntKind.wrap .i64 (l+f))) λt u v=>App P #[22,22] 22 (.slice m n o) (.slice t u v) w.drew λx y z w=>St (g.add 2) (.slice x y z) w λw=>R7 a b c d e f g i (IntKind.wrap .i64 (j+1)) w) (af .i64 (g.add 0) w λa1=>af .i64 (g.add 1) w λb1=>aA (g.add 2) w λc1 d1 e1=>St (c.add 0) (ae a1) w λw=>St (c.add 1) (ae b1) w λw=>St (c.add 2) (.slice c1 d1 e1) w λw=>af .i64 (c.add 0) w λf1=>af .i64 (c.add 1) w λg1=>aA (c.add 2) w λi1 j1 l1=>Q f1 g1 i1 j1 l1 true w)
def oy (Q:Int->Int->L3 (Bool->WP)):Nat->OA->Int->Addr->Int->Int->Int->Addr->Int->Int->WP
 |0,_,_,_,_,_,_,_,_,_,_=>False
 |k+1,a,b,c,d,e,f,g,i,j,w=>rO Q (oy Q k) a b c d e f g i j w
noncomputable def Hg:cv:=[(10,sp 0 12 (.op 12 (.op 13 (.op 14 .done))))]
def VB (Q):∀k,Bk 58 Tryz.f161 (IU Q) 7 [(0,.p),(1,.i .i64),(4,.a),(6,.i .i64),(7,.i .i64),(8,.i .i64),(10,.a),(31,.i .i64),(32,.i .i64)] (oy Q k):=bK λk h=>aT (ok 58) Hg [aM h]
def Sd:=λa b w Q=>bB (tX a b w Q) (Al T 84 w λc w=>eM a w λd e w=>n7 d e b w λf g w=>cond (f==0) (St (c.add 0) (ae 0) w λw=>St (c.add 1) (ae 0) w λw=>St (c.add 2) (.slice none 0 0) w λw=>af .i64 (c.add 0) w λi=>af .i64 (c.add 1) w λj=>aA (c.add 2) w λl m n=>Q i j l m n false w) (Al T 84 w λo w=>St (o.add 0) (ae f) w λw=>St (o.add 1) (ae g) w λw=>St (o.add 2) (.slice none 0 0) w λw=>∃k',oy Q k' a b c d e f o g 0 w)) (ok 58) Hg [ct (VB Q)] Tryz.func161
def MJ:=λa w Q=>bB (wD a w Q) (cond a.isNone (Q 0 w) (wA a λb=>af .i64 (b.add 1) w λc=>Q c w)) (ok 9) [] [] Tryz.func170
def VC:=λw Q=>bB (w9 w Q) (Al T 314 w λa w=>St (a.add 0) (ae 0) w λw=>St (a.add 1) (ae 1) w λw=>St (a.add 2) (ae 2) w λw=>St (a.add 3) (ae 3) w λw=>af .i64 (a.add 0) w λb=>af .i64 (a.add 1) w λc=>af .i64 (a.add 2) w λd=>af .i64 (a.add 3) w λe=>Q b c d e w) (ok 2) [] [] Tryz.func194
def nA (Q:Int->WP)(a b c d:Int)(w:World):Prop:=z6 a b c d w λe w=>Q e w
def xj (Q:Int->WP)(a b c d e:Int)(w:World):Prop:=nA Q a b c (IntKind.wrap .i64 (d+e)) w
def xk (Q:Int->WP)(a b c d e:Int)(w:World):Prop:=nA Q a b (IntKind.wrap .i64 (c+e)) d w
def Gf (Q):Bk 43 Tryz.f21 (CI Q) 16 [(0,.i .i64),(1,.i .i64),(9,.i .i64),(10,.i .i64)] (nA Q):=aT (ok 43) [] []
def abm (Q):Bk 43 Tryz.f21 (CI Q) 12 [(0,.i .i64),(1,.i .i64),(9,.i .i64),(10,.i .i64),(11,.i .i64)] (xj Q):=aT (ok 43) [] [aM (Gf Q)]
def abn (Q):Bk 43 Tryz.f21 (CI Q) 14 [(0,.i .i64),(1,.i .i64),(9,.i .i64),(10,.i .i64),(11,.i .i64)] (xk Q):=aT (ok 43) [] [aM (Gf Q)]
def Zw:=λa b c d w Q=>bB (l_ a b c d w Q) (s9 a b c w λe f w=>cond (decide (e<0)) (Q (-1) w) (cond (d==0) (xj Q a b e f (-1) w) (cond (d==2) (xj Q a b e f 1 w) (cond (d==3) (xk Q a b e f (-1) w) (cond (d==1) (xk Q a b e f 1 w) (cond (d==4) (nA Q a b e f w) (Q (-1) w))))))) (ok 43) [] [aM (abm Q),aM (abn Q),aM (Gf Q)] Tryz.func21
def XW:=λa b c d w Q=>bB (yw a b c d w Q) (l_ a b c d w λe w=>cond (decide (e<0)) (Q (-1) w) (dY a b e w λf w=>dY a b c w λg w=>cond (f==g) (Q (-1) w) (Q e w))) (ok 29) [] [] Tryz.func195
def tq (Q:L3 WP)(R10:L3 (Int->Int->Int->WP))(a:OA)(b c:Nat)(d e f:Int)(w:World):Prop:=cond (decide (f<e)) (Bx [ae (IntKind.wrap .i64 (d+f))] 3 w λg w=>App P #[29,29] 29 (.slice a b c) (.slice (some g) 1 1) w λi j l w=>R10 i j l d e (IntKind.wrap .i64 (f+1)) w) (Q a b c w)
def nk (Q:L3 WP):Nat->L3 (Int->Int->Int->WP)
 |0,_,_,_,_,_,_,_=>False
 |k+1,a,b,c,d,e,f,w=>tq Q (nk Q k) a b c d e f w
def tu (Q:L3 WP)(R16:Int->L3 (Int->Int->Int->WP))(a:Int)(b:OA)(c d:Nat)(e f g:Int)(w:World):Prop:=cond (decide (g<f)) (Bx [ae (IntKind.wrap .i64 (e+(IntKind.wrap .i64 (g*a))))] 3 w λi w=>App P #[29,29] 29 (.slice b c d) (.slice (some i) 1 1) w λj l m w=>R16 a j l m e f (IntKind.wrap .i64 (g+1)) w) (Q b c d w)
def nq (Q:L3 WP):Nat->Int->L3 (Int->Int->Int->WP)
 |0,_,_,_,_,_,_,_,_=>False
 |k+1,a,b,c,d,e,f,g,w=>tu Q (nq Q k) a b c d e f g w
def XX (Q):∀k,Bk 51 Tryz.f222 (EP Q) 10 [(7,.l),(8,.i .i64),(24,.i .i64),(25,.i .i64)] (nk Q k):=bK λk h=>aT (ok 51) [] [aM h]
def XY (Q):∀k,Bk 51 Tryz.f222 (EP Q) 16 [(0,.i .i64),(7,.l),(8,.i .i64),(37,.i .i64),(38,.i .i64)] (nq Q k):=bK λk h=>aT (ok 51) [] [aM h]
def VD:=λa b c w Q=>bB (B5 a b c w Q) (cond (c==2) (∃k',nk Q k' none 0 0 (IntKind.wrap .i64 ((IntKind.wrap .i64 (b-1))*a)) a 0 w) (cond (c==0) (∃k',nk Q k' none 0 0 0 a 0 w) (cond (c==1) (∃k',nq Q k' a none 0 0 (IntKind.wrap .i64 (a-1)) b 0 w) (cond (c==3) (∃k',nq Q k' a none 0 0 0 b 0 w) (Q none 0 0 w))))) (ok 51) [] [ct (XX Q),ct (XY Q)] Tryz.func222
def u9 (P4:Int->Int->Int->Int->Int->L3 (Int->Int->Int->Int->Int->WP))(Q:L3 WP)(R9:Int->Int->Int->Int->Int->L3 (Int->Int->Int->Int->Int->L3 (Int->Int->WP)))(a b c d e:Int)(f:OA)(g i:Nat)(j l m n o:Int)(p:OA)(q r:Nat)(s t:Int)(w:World):Prop:=cond (decide (t<s)) (aJ t q<|wA p λu=>af .i64 (u.add (t.toNat*1)) w λv=>aJ v g<|wA f λx=>St (x.add (v.toNat*1)) (.bool true) w λw=>R9 a b c d e f g i j l m n o p q r s (IntKind.wrap .i64 (t+1)) w) (P4 a b c d e f g i j l m n (IntKind.wrap .i64 (o+1)) w)
def qQ (P4:Int->Int->Int->Int->Int->L3 (Int->Int->Int->Int->Int->WP))(Q:L3 WP):Nat->Int->Int->Int->Int->Int->L3 (Int->Int->Int->Int->Int->L3 (Int->Int->WP))
 |0,_,_,_,_,_,_,_,_,_,_,_,_,_,_,_,_,_,_,_=>False
 |k+1,a,b,c,d,e,f,g,i,j,l,m,n,o,p,q,r,s,t,w=>u9 P4 Q (qQ P4 Q k) a b c d e f g i j l m n o p q r s t w
def tA (Q:L3 WP)(R16:Int->Int->Int->L3 (L3 (Int->Int->WP)))(a b c:Int)(d:OA)(e f:Nat)(g:OA)(i j:Nat)(l m:Int)(w:World):Prop:=cond (decide (m<l)) (aJ m i<|wA g λn=>cE (n.add (m.toNat*1)) w λo=>cond o (om a b c m w λp w=>Bx [ae p] 3 w λq w=>App P #[29,29] 29 (.slice d e f) (.slice (some q) 1 1) w λr s t w=>R16 a b c r s t g i j l (IntKind.wrap .i64 (m+1)) w) (R16 a b c d e f g i j l (IntKind.wrap .i64 (m+1)) w)) (Q d e f w)
def pU (Q:L3 WP):Nat->Int->Int->Int->L3 (L3 (Int->Int->WP))
 |0,_,_,_,_,_,_,_,_,_,_,_,_=>False
 |k+1,a,b,c,d,e,f,g,i,j,l,m,w=>tA Q (pU Q k) a b c d e f g i j l m w
def u_ (Q:L3 WP)(R4:Int->Int->Int->Int->Int->L3 (Int->Int->Int->Int->Int->WP))(a b c d e:Int)(f:OA)(g i:Nat)(j l m n o:Int)(w:World):Prop:=cond (decide (o<4)) (aJ o 4<|IxV [ae j,ae l,ae m,ae n] o.toNat λp=>dI .i64 p λq=>B5 d e q w λr s t w=>cond ((s:Int)==0) (R4 a b c d e f g i j l m n (IntKind.wrap .i64 (o+1)) w) (aJ 0 s<|wA r λu=>af .i64 (u.add (((0:Int).toNat)*1)) w λv=>om a b c v w λx w=>yw a b x q w λy w=>cond (decide (y<0)) (R4 a b c d e f g i j l m n (IntKind.wrap .i64 (o+1)) w) (∃k',qQ R4 Q k' a b c d e f g i j l m n o r s t (s:Int) 0 w))) (∃k',pU Q k' a b c none 0 0 f g i (g:Int) 0 w)
def qR (Q:L3 WP):Nat->Int->Int->Int->Int->Int->L3 (Int->Int->Int->Int->Int->WP)
 |0,_,_,_,_,_,_,_,_,_,_,_,_,_,_=>False
 |k+1,a,b,c,d,e,f,g,i,j,l,m,n,o,w=>u_ Q (qR Q k) a b c d e f g i j l m n o w
def Zx {P4}(Q)(H4:Bk 83 Tryz.f192 (uZ Q) 4 [(0,.i .i64),(1,.i .i64),(2,.i .i64),(7,.i .i64),(8,.i .i64),(9,.l),(29,.g [.i64,.i64,.i64,.i64]),(30,.i .i64)] P4):∀k,Bk 83 Tryz.f192 (uZ Q) 9 [(0,.i .i64),(1,.i .i64),(2,.i .i64),(7,.i .i64),(8,.i .i64),(9,.l),(29,.g [.i64,.i64,.i64,.i64]),(30,.i .i64),(54,.l),(55,.i .i64),(56,.i .i64)] (qQ P4 Q k):=bK λk h=>aT (ok 83) [] [aM H4,aM h]
def XZ (Q):∀k,Bk 83 Tryz.f192 (uZ Q) 16 [(0,.i .i64),(1,.i .i64),(2,.i .i64),(15,.l),(65,.l),(66,.i .i64),(67,.i .i64)] (pU Q k):=bK λk h=>aT (ok 83) [] [aM h]
def Zy (Q):∀k,Bk 83 Tryz.f192 (uZ Q) 4 [(0,.i .i64),(1,.i .i64),(2,.i .i64),(7,.i .i64),(8,.i .i64),(9,.l),(29,.g [.i64,.i64,.i64,.i64]),(30,.i .i64)] (qR Q k):=bK λk h=>aT (ok 83) [] [aM h,ct (Zx Q h),ct (XZ Q)]
def VE:=λa b c w Q=>bB (B3 a b c w Q) (n7 a b c w λd e w=>cB P 49 (ae (IntKind.wrap .i64 (d*e))) (ae (IntKind.wrap .i64 (d*e))) w λf g i w=>w9 w λj l m n w=>∃k',qR Q k' a b c d e f g i j l m n 0 w) (ok 83) [] [ct (Zy Q)] Tryz.func192
def X0:=λa b w Q=>bB (s_ a b w Q) (e_ a b w λc w=>cond (decide (c>0)) (Q (decide (c<255)) w) (Q false w)) (ok 15) [] [] Tryz.func193
def vg (Q:L3 WP)(R4:OA->L3 (L3 (Int->Int->WP)))(a b:OA)(c d:Nat)(e:OA)(f g:Nat)(i j:Int)(w:World):Prop:=cond (decide (j<i)) (aJ j f<|wA e λl=>af .i64 (l.add (j.toNat*1)) w λm=>s_ a m w λn w=>cond n (Bx [ae m] 3 w λo w=>App P #[29,29] 29 (.slice b c d) (.slice (some o) 1 1) w λp q r w=>R4 a p q r e f g i (IntKind.wrap .i64 (j+1)) w) (R4 a b c d e f g i (IntKind.wrap .i64 (j+1)) w)) (Q b c d w)
def qS (Q:L3 WP):Nat->OA->L3 (L3 (Int->Int->WP))
 |0,_,_,_,_,_,_,_,_,_,_=>False
 |k+1,a,b,c,d,e,f,g,i,j,w=>vg Q (qS Q k) a b c d e f g i j w
def Zz (Q):∀k,Bk 33 Tryz.f171 (La Q) 4 [(0,.p),(7,.l),(18,.l),(19,.i .i64),(20,.i .i64)] (qS Q k):=bK λk h=>aT (ok 33) [] [aM h]
def VF:=λa b w Q=>bB (oq a b w Q) (eM a w λc d w=>B3 c d b w λe f g w=>∃k',qS Q k' a none 0 0 e f g (f:Int) 0 w) (ok 33) [] [ct (Zz Q)] Tryz.func171
def vh (Q:L3 WP)(R6:OA->Int->Int->Int->L3 (Int->Int->Int->Int->Int->WP))(a:OA)(b c d:Int)(e:OA)(f g:Nat)(i j l m n:Int)(w:World):Prop:=cond (decide (n<4)) (aJ n 4<|IxV [ae i,ae j,ae l,ae m] n.toNat λo=>dI .i64 o λp=>yw c d b p w λq w=>cond (decide (q≥0)) (s_ a q w λr w=>cond r (e_ a q w λs w=>Bx [ae q,ae s] 292 w λt w=>App P #[289,289] 289 (.slice e f g) (.slice (some t) 1 1) w λu v x w=>R6 a b c d u v x i j l m (IntKind.wrap .i64 (n+1)) w) (R6 a b c d e f g i j l m (IntKind.wrap .i64 (n+1)) w)) (R6 a b c d e f g i j l m (IntKind.wrap .i64 (n+1)) w)) (Q e f g w)
def n8 (Q:L3 WP):Nat->OA->Int->Int->Int->L3 (Int->Int->Int->Int->Int->WP)
 |0,_,_,_,_,_,_,_,_,_,_,_,_,_=>False
 |k+1,a,b,c,d,e,f,g,i,j,l,m,n,w=>vh Q (n8 Q k) a b c d e f g i j l m n w
def ZA (Q):∀k,Bk 46 Tryz.f172 (Lb Q) 6 [(0,.p),(1,.i .i64),(5,.i .i64),(6,.i .i64),(7,.l),(20,.g [.i64,.i64,.i64,.i64]),(21,.i .i64)] (n8 Q k):=bK λk h=>aT (ok 46) [] [aM h]
def VG:=λa b w Q=>bB (B2 a b w Q) (eM a w λc d w=>s_ a b w λe w=>cond (!e) (Q none 0 0 w) (w9 w λf g i j w=>∃k',n8 Q k' a b c d none 0 0 f g i j 0 w)) (ok 46) [] [ct (ZA Q)] Tryz.func172
def Se:=λa b w Q=>bB (z_ a b w Q) (cond a.isNone (Q 1099511627776 w) (cond (decide (b<0)) (Q 1099511627776 w) (wA a λc=>aA (c.add 2) w λd e f=>cond (decide (b≥(e:Int))) (Q 1099511627776 w) (wA a λg=>aA (g.add 2) w λi j l=>aJ b j<|wA i λm=>af .i32 (m.add (b.toNat*1)) w λn=>cond (n==2147483647) (Q 1099511627776 w) (wA a λo=>aA (o.add 2) w λp q r=>aJ b q<|wA p λs=>af .i32 (s.add (b.toNat*1)) w λt=>Q (IntKind.wrap .i64 t) w))))) (ok 38) [] [] Tryz.func173
def iC (Q:Int->WP)(R4:Int->Int->Int->Int->Int->WP)(a b c d e:Int)(w:World):Prop:=cond (decide (e<=4)) (l_ a b c e w λf w=>cond (f==d) (Q e w) (R4 a b c d (IntKind.wrap .i64 (e+1)) w)) (Q 5 w)
def mU (Q:Int->WP):Nat->Int->Int->Int->Int->Int->WP
 |0,_,_,_,_,_,_=>False
 |k+1,a,b,c,d,e,w=>iC Q (mU Q k) a b c d e w
def adB (Q):∀k,Bk 34 Tryz.f174 (PF Q) 4 [(0,.i .i64),(1,.i .i64),(2,.i .i64),(3,.i .i64),(9,.i .i64)] (mU Q k):=bK λk h=>aT (ok 34) [] [aM h]
def ZB:=λa b c d w Q=>bB (EL a b c d w Q) (yP a b c w λe w=>cond (!e) (Q 5 w) (yP a b d w λf w=>cond (!f) (Q 5 w) (∃k',mU Q k' a b c d 0 w))) (ok 34) [] [ct (adB Q)] Tryz.func174
def Oz:=λa w Q=>bB (x6 a w Q) (cond a.isNone (Q (-1) w) (wA a λb=>af .i64 b w λc=>Q c w)) (ok 9) [] [] Tryz.func175
def B_:=λa b c w Q=>bB (jh a b c w Q) (cond a.isNone (Q none 0 0 w) (Bx [] 294 w λd w=>App P #[278,278] 278 (.slice (some d) 0 0) (.slice a b c) w λe f g w=>Q e f g w)) (ok 8) [] [] Tryz.func185
def fL (P1:L3 (Int->Int->Value->Int->WP))(Q:WP)(R4:L3 (Int->Int->Value->Int->Int->WP))(a:OA)(b c:Nat)(d e:Int)(f:Value)(g i:Int)(w:World):Prop:=cond (decide (i>d)) (aJ i b<|wA a λj=>af .i64 ((j.add (i.toNat*3)).add 0) w.drew λl=>af .i64 ((j.add (i.toNat*3)).add 1) w.drew λm=>af .i64 ((j.add (i.toNat*3)).add 2) w.drew λn=>aJ (IntKind.wrap .i64 (i-1)) b<|wA a λo=>af .i64 ((o.add (((IntKind.wrap .i64 (i-1))).toNat*3)).add 0) w.drew λp=>af .i64 ((o.add (((IntKind.wrap .i64 (i-1))).toNat*3)).add 1) w.drew λq=>af .i64 ((o.add (((IntKind.wrap .i64 (i-1))).toNat*3)).add 2) w.drew λr=>h_ (cx 53) f [.agg #[ae l,ae m,ae n],.agg #[ae p,ae q,ae r]] w.drew λs w=>dI .i64 s λt=>cond (decide (t<0)) (aJ (IntKind.wrap .i64 (i-1)) b<|wA a λu=>af .i64 ((u.add (((IntKind.wrap .i64 (i-1))).toNat*3)).add 0) w.drew λv=>af .i64 ((u.add (((IntKind.wrap .i64 (i-1))).toNat*3)).add 1) w.drew λx=>af .i64 ((u.add (((IntKind.wrap .i64 (i-1))).toNat*3)).add 2) w.drew λy=>aJ i b<|wA a λz=>af .i64 ((z.add (i.toNat*3)).add 0) w.drew λa1=>af .i64 ((z.add (i.toNat*3)).add 1) w.drew λb1=>af .i64 ((z.add (i.toNat*3)).add 2) w.drew λc1=>aJ i b<|wA a λd1=>St ((d1.add (i.toNat*3)).add 0) (ae v) w.drew λw=>St ((d1.add (i.toNat*3)).add 1) (ae x) w λw=>St ((d1.add (i.toNat*3)).add 2) (ae y) w λw=>aJ (IntKind.wrap .i64 (i-1)) b<|wA a λe1=>St ((e1.add (((IntKind.wrap .i64 (i-1))).toNat*3)).add 0) (ae a1) w λw=>St ((e1.add (((IntKind.wrap .i64 (i-1))).toNat*3)).add 1) (ae b1) w λw=>St ((e1.add (((IntKind.wrap .i64 (i-1))).toNat*3)).add 2) (ae c1) w λw=>R4 a b c d e f g (IntKind.wrap .i64 (i-1)) w) (P1 a b c d e f (IntKind.wrap .i64 (g+1)) w)) (P1 a b c d e f (IntKind.wrap .i64 (g+1)) w.drew)
def eN (P1:L3 (Int->Int->Value->Int->WP))(Q:WP):Nat->L3 (Int->Int->Value->Int->Int->WP)
 |0,_,_,_,_,_,_,_,_,_=>False
 |k+1,a,b,c,d,e,f,g,i,w=>fL P1 Q (eN P1 Q k) a b c d e f g i w
def fN (Q:WP)(R1:L3 (Int->Int->Value->Int->WP))(a:OA)(b c:Nat)(d e:Int)(f:Value)(g:Int)(w:World):Prop:=cond (decide (g<e)) (∃k',eN R1 Q k' a b c d e f g g w) (Q w)
def eO (Q:WP):Nat->L3 (Int->Int->Value->Int->WP)
 |0,_,_,_,_,_,_,_,_=>False
 |k+1,a,b,c,d,e,f,g,w=>fN Q (eO Q k) a b c d e f g w
noncomputable def j8:cv:=[(4,sp 0 14 (.op 14 (sp 15 2 .done))),(6,sp 0 15 (.op 15 (.op 16 (.op 17 .done))))]
def Ai {P1}(Q)(H1:Bk 53 Tryz.f243 (ik Q) 1 [(0,.l),(1,.i .i64),(2,.i .i64),(3,.v),(8,.i .i64)] P1):∀k,Bk 53 Tryz.f243 (ik Q) 4 [(0,.l),(1,.i .i64),(2,.i .i64),(3,.v),(8,.i .i64),(9,.i .i64)] (eN P1 Q k):=bK λk h=>aT (ok 53) j8 [aM H1,aM h]
def Aj (Q):∀k,Bk 53 Tryz.f243 (ik Q) 1 [(0,.l),(1,.i .i64),(2,.i .i64),(3,.v),(8,.i .i64)] (eO Q k):=bK λk h=>aT (ok 53) j8 [ct (Ai Q h)]
def zk:=λa b c d e f w Q=>bB (jK a b c d e f w Q) (∃k',eO Q k' a b c d e f (IntKind.wrap .i64 (d+1)) w) (ok 53) j8 [ct (Aj Q)] Tryz.func243
def fF (P1:L3 (Int->Int->Value->Int->WP))(Q:WP)(a:OA)(b c:Nat)(d e:Int)(f:Value)(g i:Int)(w:World):Prop:=aJ (IntKind.wrap .i64 (e+g)) b<|wA a λj=>af .i64 ((j.add (((IntKind.wrap .i64 (e+g))).toNat*3)).add 0) w.drew λl=>af .i64 ((j.add (((IntKind.wrap .i64 (e+g))).toNat*3)).add 1) w.drew λm=>af .i64 ((j.add (((IntKind.wrap .i64 (e+g))).toNat*3)).add 2) w.drew λn=>aJ (IntKind.wrap .i64 (e+i)) b<|wA a λo=>af .i64 ((o.add (((IntKind.wrap .i64 (e+i))).toNat*3)).add 0) w.drew λp=>af .i64 ((o.add (((IntKind.wrap .i64 (e+i))).toNat*3)).add 1) w.drew λq=>af .i64 ((o.add (((IntKind.wrap .i64 (e+i))).toNat*3)).add 2) w.drew λr=>h_ (cx 82) f [.agg #[ae l,ae m,ae n],.agg #[ae p,ae q,ae r]] w.drew λs w=>dI .i64 s λt=>cond (!(decide (t<0))) (Q w) (aJ (IntKind.wrap .i64 (e+i)) b<|wA a λu=>af .i64 ((u.add (((IntKind.wrap .i64 (e+i))).toNat*3)).add 0) w.drew λv=>af .i64 ((u.add (((IntKind.wrap .i64 (e+i))).toNat*3)).add 1) w.drew λx=>af .i64 ((u.add (((IntKind.wrap .i64 (e+i))).toNat*3)).add 2) w.drew λy=>aJ (IntKind.wrap .i64 (e+g)) b<|wA a λz=>af .i64 ((z.add (((IntKind.wrap .i64 (e+g))).toNat*3)).add 0) w.drew λa1=>af .i64 ((z.add (((IntKind.wrap .i64 (e+g))).toNat*3)).add 1) w.drew λb1=>af .i64 ((z.add (((IntKind.wrap .i64 (e+g))).toNat*3)).add 2) w.drew λc1=>aJ (IntKind.wrap .i64 (e+g)) b<|wA a λd1=>St ((d1.add (((IntKind.wrap .i64 (e+g))).toNat*3)).add 0) (ae v) w.drew λw=>St ((d1.add (((IntKind.wrap .i64 (e+g))).toNat*3)).add 1) (ae x) w λw=>St ((d1.add (((IntKind.wrap .i64 (e+g))).toNat*3)).add 2) (ae y) w λw=>aJ (IntKind.wrap .i64 (e+i)) b<|wA a λe1=>St ((e1.add (((IntKind.wrap .i64 (e+i))).toNat*3)).add 0) (ae a1) w λw=>St ((e1.add (((IntKind.wrap .i64 (e+i))).toNat*3)).add 1) (ae b1) w λw=>St ((e1.add (((IntKind.wrap .i64 (e+i))).toNat*3)).add 2) (ae c1) w λw=>P1 a b c d e f i w)
def gO (Q:WP)(R1:L3 (Int->Int->Value->Int->WP))(a:OA)(b c:Nat)(d e:Int)(f:Value)(g:Int)(w:World):Prop:=cond (decide ((IntKind.wrap .i64 ((IntKind.wrap .i64 (2*g))+1))≥d)) (Q w) (cond (decide ((IntKind.wrap .i64 ((IntKind.wrap .i64 ((IntKind.wrap .i64 (2*g))+1))+1))<d)) (aJ (IntKind.wrap .i64 (e+(IntKind.wrap .i64 ((IntKind.wrap .i64 (2*g))+1)))) b<|wA a λi=>af .i64 ((i.add (((IntKind.wrap .i64 (e+(IntKind.wrap .i64 ((IntKind.wrap .i64 (2*g))+1))))).toNat*3)).add 0) w.drew λj=>af .i64 ((i.add (((IntKind.wrap .i64 (e+(IntKind.wrap .i64 ((IntKind.wrap .i64 (2*g))+1))))).toNat*3)).add 1) w.drew λl=>af .i64 ((i.add (((IntKind.wrap .i64 (e+(IntKind.wrap .i64 ((IntKind.wrap .i64 (2*g))+1))))).toNat*3)).add 2) w.drew λm=>aJ (IntKind.wrap .i64 ((IntKind.wrap .i64 (e+(IntKind.wrap .i64 ((IntKind.wrap .i64 (2*g))+1))))+1)) b<|wA a λn=>af .i64 ((n.add (((IntKind.wrap .i64 ((IntKind.wrap .i64 (e+(IntKind.wrap .i64 ((IntKind.wrap .i64 (2*g))+1))))+1))).toNat*3)).add 0) w.drew λo=>af .i64 ((n.add (((IntKind.wrap .i64 ((IntKind.wrap .i64 (e+(IntKind.wrap .i64 ((IntKind.wrap .i64 (2*g))+1))))+1))).toNat*3)).add 1) w.drew λp=>af .i64 ((n.add (((IntKind.wrap .i64 ((IntKind.wrap .i64 (e+(IntKind.wrap .i64 ((IntKind.wrap .i64 (2*g))+1))))+1))).toNat*3)).add 2) w.drew λq=>h_ (cx 82) f [.agg #[ae j,ae l,ae m],.agg #[ae o,ae p,ae q]] w.drew λr w=>dI .i64 r λs=>cond (decide (s<0)) (fF R1 Q a b c d e f g (IntKind.wrap .i64 ((IntKind.wrap .i64 ((IntKind.wrap .i64 (2*g))+1))+1)) w) (fF R1 Q a b c d e f g (IntKind.wrap .i64 ((IntKind.wrap .i64 (2*g))+1)) w)) (fF R1 Q a b c d e f g (IntKind.wrap .i64 ((IntKind.wrap .i64 (2*g))+1)) w.drew))
def eS (Q:WP):Nat->L3 (Int->Int->Value->Int->WP)
 |0,_,_,_,_,_,_,_,_=>False
 |k+1,a,b,c,d,e,f,g,w=>gO Q (eS Q k) a b c d e f g w
noncomputable def mg:cv:=[(3,sp 0 19 (.op 19 (sp 20 2 .done))),(5,sp 0 13 (.op 13 (sp 14 2 .done))),(6,sp 0 21 (.op 21 (.op 22 (.op 23 .done))))]
def CS {P1}(Q)(H1:Bk 82 Tryz.f265 (jv Q) 1 [(0,.l),(2,.i .i64),(3,.i .i64),(4,.v),(10,.i .i64)] P1):Bk 82 Tryz.f265 (jv Q) 5 [(0,.l),(2,.i .i64),(3,.i .i64),(4,.v),(10,.i .i64),(11,.i .i64)] (fF P1 Q):=aT (ok 82) mg [aM H1]
def CT (Q):∀k,Bk 82 Tryz.f265 (jv Q) 1 [(0,.l),(2,.i .i64),(3,.i .i64),(4,.v),(10,.i .i64)] (eS Q k):=bK λk h=>aT (ok 82) mg [aM (CS Q h)]
def BF:=λa b c d e f g w Q=>bB (iY a b c d e f g w Q) (∃k',eS Q k' a b c e f g d w) (ok 82) mg [ct (CT Q)] Tryz.func265
def gP (Q:WP)(R8:L3 (Value->Int->Int->Int->WP))(a:OA)(b c:Nat)(d:Value)(e f g:Int)(w:World):Prop:=cond (decide (g≥0)) (aJ (IntKind.wrap .i64 (e+g)) b<|wA a λi=>af .i64 ((i.add (((IntKind.wrap .i64 (e+g))).toNat*3)).add 0) w.drew λj=>af .i64 ((i.add (((IntKind.wrap .i64 (e+g))).toNat*3)).add 1) w.drew λl=>af .i64 ((i.add (((IntKind.wrap .i64 (e+g))).toNat*3)).add 2) w.drew λm=>aJ e b<|wA a λn=>af .i64 ((n.add (e.toNat*3)).add 0) w.drew λo=>af .i64 ((n.add (e.toNat*3)).add 1) w.drew λp=>af .i64 ((n.add (e.toNat*3)).add 2) w.drew λq=>aJ e b<|wA a λr=>St ((r.add (e.toNat*3)).add 0) (ae j) w.drew λw=>St ((r.add (e.toNat*3)).add 1) (ae l) w λw=>St ((r.add (e.toNat*3)).add 2) (ae m) w λw=>aJ (IntKind.wrap .i64 (e+g)) b<|wA a λs=>St ((s.add (((IntKind.wrap .i64 (e+g))).toNat*3)).add 0) (ae o) w λw=>St ((s.add (((IntKind.wrap .i64 (e+g))).toNat*3)).add 1) (ae p) w λw=>St ((s.add (((IntKind.wrap .i64 (e+g))).toNat*3)).add 2) (ae q) w λw=>iY a b c f g e d w λw=>R8 a b c d e f (IntKind.wrap .i64 (g-1)) w) (Q w)
def fG (Q:WP):Nat->L3 (Value->Int->Int->Int->WP)
 |0,_,_,_,_,_,_,_,_=>False
 |k+1,a,b,c,d,e,f,g,w=>gP Q (fG Q k) a b c d e f g w
def gQ (Q:WP)(R4:L3 (Value->Int->Int->Int->Int->WP))(a:OA)(b c:Nat)(d:Value)(e f g i:Int)(w:World):Prop:=cond (decide (i≥0)) (iY a b c i g e d w λw=>R4 a b c d e f g (IntKind.wrap .i64 (i-1)) w) (∃k',fG Q k' a b c d e f (IntKind.wrap .i64 (g-1)) w)
def fH (Q:WP):Nat->L3 (Value->Int->Int->Int->Int->WP)
 |0,_,_,_,_,_,_,_,_,_=>False
 |k+1,a,b,c,d,e,f,g,i,w=>gQ Q (fH Q k) a b c d e f g i w
noncomputable def mj:cv:=[(10,sp 0 17 (.op 17 (.op 18 (.op 19 .done))))]
def CU (Q):∀k,Bk 60 Tryz.f244 (mR Q) 8 [(0,.l),(3,.v),(8,.i .i64),(9,.i .i64),(12,.i .i64)] (fG Q k):=bK λk h=>aT (ok 60) mj [aM h]
def CV (Q):∀k,Bk 60 Tryz.f244 (mR Q) 4 [(0,.l),(3,.v),(8,.i .i64),(9,.i .i64),(10,.i .i64),(11,.i .i64)] (fH Q k):=bK λk h=>aT (ok 60) mj [aM h,ct (CU Q)]
def BG:=λa b c d e f w Q=>bB (lR a b c d e f w Q) (NZ 2<|∃k',fH Q k' a b c f d 0 (IntKind.wrap .i64 (e-d)) (IntKind.wrap .i64 (Int.tdiv (IntKind.wrap .i64 ((IntKind.wrap .i64 (e-d))-1)) 2)) w) (ok 60) mj [ct (CV Q)] Tryz.func244
def uw (Q:Int->WP)(a b:Int)(w:World):Prop:=aJ (IntKind.wrap .u8 a) (ByteArray.mk ((#[0,1,2,2,3,3,3,3,4,4,4,4,4,4,4,4,5,5,5,5,5,5,5,5,5,5,5,5,5,5,5,5,6,6,6,6,6,6,6,6,6,6,6,6,6,6,6,6,6,6,6,6,6,6,6,6,6,6,6,6,6,6,6,6]++#[7,7,7,7,7,7,7,7,7,7,7,7,7,7,7,7,7,7,7,7,7,7,7,7,7,7,7,7,7,7,7,7,7,7,7,7,7,7,7,7,7,7,7,7,7,7,7,7,7,7,7,7,7,7,7,7,7,7,7,7,7,7,7,7])++(#[8,8,8,8,8,8,8,8,8,8,8,8,8,8,8,8,8,8,8,8,8,8,8,8,8,8,8,8,8,8,8,8,8,8,8,8,8,8,8,8,8,8,8,8,8,8,8,8,8,8,8,8,8,8,8,8,8,8,8,8,8,8,8,8]++#[8,8,8,8,8,8,8,8,8,8,8,8,8,8,8,8,8,8,8,8,8,8,8,8,8,8,8,8,8,8,8,8,8,8,8,8,8,8,8,8,8,8,8,8,8,8,8,8,8,8,8,8,8,8,8,8,8,8,8,8,8,8,8,8]))).size<|Q (IntKind.wrap .i64 (b+(IntKind.wrap .i64 (sb (ByteArray.mk ((#[0,1,2,2,3,3,3,3,4,4,4,4,4,4,4,4,5,5,5,5,5,5,5,5,5,5,5,5,5,5,5,5,6,6,6,6,6,6,6,6,6,6,6,6,6,6,6,6,6,6,6,6,6,6,6,6,6,6,6,6,6,6,6,6]++#[7,7,7,7,7,7,7,7,7,7,7,7,7,7,7,7,7,7,7,7,7,7,7,7,7,7,7,7,7,7,7,7,7,7,7,7,7,7,7,7,7,7,7,7,7,7,7,7,7,7,7,7,7,7,7,7,7,7,7,7,7,7,7,7])++(#[8,8,8,8,8,8,8,8,8,8,8,8,8,8,8,8,8,8,8,8,8,8,8,8,8,8,8,8,8,8,8,8,8,8,8,8,8,8,8,8,8,8,8,8,8,8,8,8,8,8,8,8,8,8,8,8,8,8,8,8,8,8,8,8]++#[8,8,8,8,8,8,8,8,8,8,8,8,8,8,8,8,8,8,8,8,8,8,8,8,8,8,8,8,8,8,8,8,8,8,8,8,8,8,8,8,8,8,8,8,8,8,8,8,8,8,8,8,8,8,8,8,8,8,8,8,8,8,8,8]))) (((IntKind.wrap .u8 a)).toNat))))) w
def vN (Q:Int->WP)(a b:Int)(w:World):Prop:=cond (decide (a≥256)) (DS 8<|uw Q (o7 .u64 a 8) (IntKind.wrap .i64 (b+8)) w) (uw Q a b w)
def vO (Q:Int->WP)(a b:Int)(w:World):Prop:=cond (decide (a≥65536)) (DS 16<|vN Q (o7 .u64 a 16) (IntKind.wrap .i64 (b+16)) w) (vN Q a b w)
def Sf (Q):Bk 25 Tryz.f252 (vK Q) 10 [(0,.i .u64),(2,.i .i64)] (uw Q):=aT (ok 25) [] []
def Uq (Q):Bk 25 Tryz.f252 (vK Q) 7 [(0,.i .u64),(2,.i .i64)] (vN Q):=aT (ok 25) [] [aM (Sf Q)]
def Ur (Q):Bk 25 Tryz.f252 (vK Q) 4 [(0,.i .u64),(2,.i .i64)] (vO Q):=aT (ok 25) [] [aM (Uq Q)]
def Qg:=λa w Q=>bB (Fk a w Q) (cond (decide (a≥4294967296)) (DS 32<|vO Q (o7 .u64 a 32) 32 w) (vO Q a 0 w)) (ok 25) [] [aM (Ur Q)] Tryz.func252
def Us:=λa w Q=>bB (vJ a w Q) (Fk a w λb w=>Q b w) (ok 8) [] [] Tryz.func224
def I0:=λa w Q=>bB (zS a w Q) (vJ (IntKind.wrap .u64 a) w λb w=>DS b<|Q (BL .u64 1 b) w) (ok 7) [] [] Tryz.func266
noncomputable def Kg:cv:=[(1,sp 0 9 (.op 9 .done)),(2,sp 0 9 (.op 9 .done)),(3,sp 0 9 (.op 9 .done))]
def JF:=λa w Q=>bB (sV a w Q) (wA a λb=>af .u64 b w.drew λc=>wA a λd=>af .u64 d w.drew λe=>DS 13<|wA a λf=>St f (.int .u64 (ag7 .u64 c (BL .u64 e 13))) w.drew λw=>wA a λg=>af .u64 g w.drew λi=>wA a λj=>af .u64 j w.drew λl=>DS 7<|wA a λm=>St m (.int .u64 (ag7 .u64 i (o7 .u64 l 7))) w.drew λw=>wA a λn=>af .u64 n w.drew λo=>wA a λp=>af .u64 p w.drew λq=>DS 17<|wA a λr=>St r (.int .u64 (ag7 .u64 o (BL .u64 q 17))) w.drew λw=>wA a λs=>af .u64 s w λt=>Q t w) (ok 33) Kg [] Tryz.func267
def fB (P5:L3 (Int->Int->Addr->Int->Int->WP))(Q:WP)(a:OA)(b c:Nat)(d e:Int)(f:Addr)(g i j:Int)(w:World):Prop:=aJ (IntKind.wrap .i64 (d+j)) b<|wA a λl=>af .i64 ((l.add (((IntKind.wrap .i64 (d+j))).toNat*3)).add 0) w.drew λm=>af .i64 ((l.add (((IntKind.wrap .i64 (d+j))).toNat*3)).add 1) w.drew λn=>af .i64 ((l.add (((IntKind.wrap .i64 (d+j))).toNat*3)).add 2) w.drew λo=>aJ i b<|wA a λp=>af .i64 ((p.add (i.toNat*3)).add 0) w.drew λq=>af .i64 ((p.add (i.toNat*3)).add 1) w.drew λr=>af .i64 ((p.add (i.toNat*3)).add 2) w.drew λs=>aJ i b<|wA a λt=>St ((t.add (i.toNat*3)).add 0) (ae m) w.drew λw=>St ((t.add (i.toNat*3)).add 1) (ae n) w λw=>St ((t.add (i.toNat*3)).add 2) (ae o) w λw=>aJ (IntKind.wrap .i64 (d+j)) b<|wA a λu=>St ((u.add (((IntKind.wrap .i64 (d+j))).toNat*3)).add 0) (ae q) w λw=>St ((u.add (((IntKind.wrap .i64 (d+j))).toNat*3)).add 1) (ae r) w λw=>St ((u.add (((IntKind.wrap .i64 (d+j))).toNat*3)).add 2) (ae s) w λw=>P5 a b c d e f g (IntKind.wrap .i64 (i+1)) w
def kI (Q:WP)(R5:L3 (Int->Int->Addr->Int->Int->WP))(a:OA)(b c:Nat)(d e:Int)(f:Addr)(g i:Int)(w:World):Prop:=NZ 4<|cond (decide (i<=(IntKind.wrap .i64 ((IntKind.wrap .i64 (d+(IntKind.wrap .i64 ((IntKind.wrap .i64 (Int.tdiv e 4))*2))))+1)))) (sV (some f) w λj w=>cond (decide ((IntKind.wrap .i64 (BK .u64 j (IntKind.wrap .u64 (g-1))))≥e)) (fB R5 Q a b c d e f g i (IntKind.wrap .i64 ((IntKind.wrap .i64 (BK .u64 j (IntKind.wrap .u64 (g-1))))-e)) w) (fB R5 Q a b c d e f g i (IntKind.wrap .i64 (BK .u64 j (IntKind.wrap .u64 (g-1)))) w)) (Q w)
def dH (Q:WP):Nat->L3 (Int->Int->Addr->Int->Int->WP)
 |0,_,_,_,_,_,_,_,_,_=>False
 |k+1,a,b,c,d,e,f,g,i,w=>kI Q (dH Q k) a b c d e f g i w
noncomputable def j9:cv:=[(10,sp 0 17 (.op 17 (.op 18 (.op 19 .done))))]
def zM {P5}(Q)(H5:Bk 67 Tryz.f245 (iq Q) 5 [(0,.l),(1,.i .i64),(8,.i .i64),(9,.a),(10,.i .u64),(11,.i .i64)] P5):Bk 67 Tryz.f245 (iq Q) 10 [(0,.l),(1,.i .i64),(8,.i .i64),(9,.a),(10,.i .u64),(11,.i .i64),(12,.i .i64)] (fB P5 Q):=aT (ok 67) j9 [aM H5]
def Ak (Q):∀k,Bk 67 Tryz.f245 (iq Q) 5 [(0,.l),(1,.i .i64),(8,.i .i64),(9,.a),(10,.i .u64),(11,.i .i64)] (dH Q k):=bK λk h=>aT (ok 67) j9 [aM (zM Q h)]
def zl:=λa b c d e f w Q=>bB (jL a b c d e f w Q) (cond (decide ((IntKind.wrap .i64 (e-d))≥8)) (Al T 390 w λg w=>St g (.int .u64 (IntKind.wrap .u64 (IntKind.wrap .i64 (e-d)))) w λw=>zS (IntKind.wrap .i64 (e-d)) w λi w=>NZ 4<|∃k',dH Q k' a b c d (IntKind.wrap .i64 (e-d)) g i (IntKind.wrap .i64 ((IntKind.wrap .i64 (d+(IntKind.wrap .i64 ((IntKind.wrap .i64 (Int.tdiv (IntKind.wrap .i64 (e-d)) 4))*2))))-1)) w) (Q w)) (ok 67) j9 [ct (Ak Q)] Tryz.func245
noncomputable def DE:cv:=[(1,sp 0 9 (.op 9 (.op 10 .done)))]
def CW:=λa b c d e f g w Q=>bB (gN a b c d e f g w Q) (aJ e b<|wA a λi=>af .i64 ((i.add (e.toNat*3)).add 0) w.drew λj=>af .i64 ((i.add (e.toNat*3)).add 1) w.drew λl=>af .i64 ((i.add (e.toNat*3)).add 2) w.drew λm=>aJ d b<|wA a λn=>af .i64 ((n.add (d.toNat*3)).add 0) w.drew λo=>af .i64 ((n.add (d.toNat*3)).add 1) w.drew λp=>af .i64 ((n.add (d.toNat*3)).add 2) w.drew λq=>h_ (cx 32) g [.agg #[ae j,ae l,ae m],.agg #[ae o,ae p,ae q]] w.drew λr w=>dI .i64 r λs=>cond (decide (s<0)) (wA f λt=>af .i64 t w λu=>wA f λv=>St v (ae (IntKind.wrap .i64 (u+1))) w λw=>Q e d w) (Q d e w)) (ok 32) DE [] Tryz.func278
def CX:=λa b c d e f g i w Q=>bB (jw a b c d e f g i w Q) (gN a b c d e g i w λj l w=>gN a b c l f g i w λm n w=>gN a b c j m g i w λo p w=>Q p w) (ok 41) [] [] Tryz.func269
def yl:=λa b c d e f w Q=>bB (fg a b c d e f w Q) (jw a b c (IntKind.wrap .i64 (d-1)) d (IntKind.wrap .i64 (d+1)) e f w λg w=>Q g w) (ok 18) [] [] Tryz.func268
def iD (Q:Int->Int->WP)(a:Addr)(b:Int)(w:World):Prop:=af .i64 a w λc=>cond (c==0) (Q b 1 w) (cond (c==12) (Q b 2 w) (Q b 0 w))
def iE (Q:Int->Int->WP)(a:OA)(b c:Nat)(d:Value)(e:Addr)(f g i:Int)(w:World):Prop:=jw a b c f g i (some e) d w λj w=>iD Q e j w
def qd (Q):Bk 63 Tryz.f246 (lq Q) 12 [(11,.a),(13,.i .i64)] (iD Q):=aT (ok 63) [] []
def AP (Q):Bk 63 Tryz.f246 (lq Q) 11 [(0,.l),(3,.v),(11,.a),(12,.i .i64),(13,.i .i64),(14,.i .i64)] (iE Q):=aT (ok 63) [] [aM (qd Q)]
def Am:=λa b c d e f w Q=>bB (kH a b c d e f w Q) (Al T 3 w λg w=>NZ 4<|NZ 4<|NZ 4<|cond (decide ((IntKind.wrap .i64 (e-d))≥8)) (cond (decide ((IntKind.wrap .i64 (e-d))≥50)) (fg a b c (IntKind.wrap .i64 (d+(IntKind.wrap .i64 ((IntKind.wrap .i64 (Int.tdiv (IntKind.wrap .i64 (e-d)) 4))*1)))) (some g) f w λi w=>fg a b c (IntKind.wrap .i64 (d+(IntKind.wrap .i64 ((IntKind.wrap .i64 (Int.tdiv (IntKind.wrap .i64 (e-d)) 4))*2)))) (some g) f w λj w=>fg a b c (IntKind.wrap .i64 (d+(IntKind.wrap .i64 ((IntKind.wrap .i64 (Int.tdiv (IntKind.wrap .i64 (e-d)) 4))*3)))) (some g) f w λl w=>iE Q a b c f g i j l w) (iE Q a b c f g (IntKind.wrap .i64 (d+(IntKind.wrap .i64 ((IntKind.wrap .i64 (Int.tdiv (IntKind.wrap .i64 (e-d)) 4))*1)))) (IntKind.wrap .i64 (d+(IntKind.wrap .i64 ((IntKind.wrap .i64 (Int.tdiv (IntKind.wrap .i64 (e-d)) 4))*2)))) (IntKind.wrap .i64 (d+(IntKind.wrap .i64 ((IntKind.wrap .i64 (Int.tdiv (IntKind.wrap .i64 (e-d)) 4))*3)))) w)) (iD Q g (IntKind.wrap .i64 (d+(IntKind.wrap .i64 ((IntKind.wrap .i64 (Int.tdiv (IntKind.wrap .i64 (e-d)) 4))*2)))) w)) (ok 63) [] [aM (AP Q),aM (qd Q)] Tryz.func246
def fU (Q:WP)(R2:L3 (Int->Int->WP))(a:OA)(b c:Nat)(d e:Int)(w:World):Prop:=cond (decide (d<e)) (aJ e b<|wA a λf=>af .i64 ((f.add (e.toNat*3)).add 0) w.drew λg=>af .i64 ((f.add (e.toNat*3)).add 1) w.drew λi=>af .i64 ((f.add (e.toNat*3)).add 2) w.drew λj=>aJ d b<|wA a λl=>af .i64 ((l.add (d.toNat*3)).add 0) w.drew λm=>af .i64 ((l.add (d.toNat*3)).add 1) w.drew λn=>af .i64 ((l.add (d.toNat*3)).add 2) w.drew λo=>aJ d b<|wA a λp=>St ((p.add (d.toNat*3)).add 0) (ae g) w.drew λw=>St ((p.add (d.toNat*3)).add 1) (ae i) w λw=>St ((p.add (d.toNat*3)).add 2) (ae j) w λw=>aJ e b<|wA a λq=>St ((q.add (e.toNat*3)).add 0) (ae m) w λw=>St ((q.add (e.toNat*3)).add 1) (ae n) w λw=>St ((q.add (e.toNat*3)).add 2) (ae o) w λw=>R2 a b c (IntKind.wrap .i64 (d+1)) (IntKind.wrap .i64 (e-1)) w) (Q w)
def eX (Q:WP):Nat->L3 (Int->Int->WP)
 |0,_,_,_,_,_,_=>False
 |k+1,a,b,c,d,e,w=>fU Q (eX Q k) a b c d e w
noncomputable def pG:cv:=[(3,sp 0 13 (.op 13 (.op 14 (.op 15 .done))))]
def AQ (Q):∀k,Bk 34 Tryz.f247 (p8 Q) 2 [(0,.l),(8,.i .i64),(9,.i .i64)] (eX Q k):=bK λk h=>aT (ok 34) pG [aM h]
def zN:=λa b c d e f w Q=>bB (j7 a b c d e f w Q) (∃k',eX Q k' a b c d (IntKind.wrap .i64 (e-1)) w) (ok 34) pG [ct (AQ Q)] Tryz.func247
def eB (P3:L3 (Int->Int->Value->Int->Int->WP))(Q:Bool->WP)(R20:L3 (Int->Int->Value->Int->Int->Int->WP))(a:OA)(b c:Nat)(d e:Int)(f:Value)(g i j:Int)(w:World):Prop:=cond (decide (j<e)) (aJ j b<|wA a λl=>af .i64 ((l.add (j.toNat*3)).add 0) w.drew λm=>af .i64 ((l.add (j.toNat*3)).add 1) w.drew λn=>af .i64 ((l.add (j.toNat*3)).add 2) w.drew λo=>aJ (IntKind.wrap .i64 (j-1)) b<|wA a λp=>af .i64 ((p.add (((IntKind.wrap .i64 (j-1))).toNat*3)).add 0) w.drew λq=>af .i64 ((p.add (((IntKind.wrap .i64 (j-1))).toNat*3)).add 1) w.drew λr=>af .i64 ((p.add (((IntKind.wrap .i64 (j-1))).toNat*3)).add 2) w.drew λs=>h_ (cx 141) f [.agg #[ae m,ae n,ae o],.agg #[ae q,ae r,ae s]] w.drew λt w=>dI .i64 t λu=>cond (!(decide (u<0))) (P3 a b c d e f g (IntKind.wrap .i64 (i+1)) w) (aJ (IntKind.wrap .i64 (j-1)) b<|wA a λv=>af .i64 ((v.add (((IntKind.wrap .i64 (j-1))).toNat*3)).add 0) w.drew λx=>af .i64 ((v.add (((IntKind.wrap .i64 (j-1))).toNat*3)).add 1) w.drew λy=>af .i64 ((v.add (((IntKind.wrap .i64 (j-1))).toNat*3)).add 2) w.drew λz=>aJ j b<|wA a λa1=>af .i64 ((a1.add (j.toNat*3)).add 0) w.drew λb1=>af .i64 ((a1.add (j.toNat*3)).add 1) w.drew λc1=>af .i64 ((a1.add (j.toNat*3)).add 2) w.drew λd1=>aJ j b<|wA a λe1=>St ((e1.add (j.toNat*3)).add 0) (ae x) w.drew λw=>St ((e1.add (j.toNat*3)).add 1) (ae y) w λw=>St ((e1.add (j.toNat*3)).add 2) (ae z) w λw=>aJ (IntKind.wrap .i64 (j-1)) b<|wA a λf1=>St ((f1.add (((IntKind.wrap .i64 (j-1))).toNat*3)).add 0) (ae b1) w λw=>St ((f1.add (((IntKind.wrap .i64 (j-1))).toNat*3)).add 1) (ae c1) w λw=>St ((f1.add (((IntKind.wrap .i64 (j-1))).toNat*3)).add 2) (ae d1) w λw=>R20 a b c d e f g i (IntKind.wrap .i64 (j+1)) w)) (P3 a b c d e f g (IntKind.wrap .i64 (i+1)) w)
def cY (P3:L3 (Int->Int->Value->Int->Int->WP))(Q:Bool->WP):Nat->L3 (Int->Int->Value->Int->Int->Int->WP)
 |0,_,_,_,_,_,_,_,_,_,_=>False
 |k+1,a,b,c,d,e,f,g,i,j,w=>eB P3 Q (cY P3 Q k) a b c d e f g i j w
def cZ (P3:L3 (Int->Int->Value->Int->Int->WP))(Q:Bool->WP)(a:OA)(b c:Nat)(d e:Int)(f:Value)(g i:Int)(w:World):Prop:=cond (decide ((IntKind.wrap .i64 (e-g))≥2)) (∃k',cY P3 Q k' a b c d e f g i (IntKind.wrap .i64 (g+1)) w) (P3 a b c d e f g (IntKind.wrap .i64 (i+1)) w)
def eC (P3:L3 (Int->Int->Value->Int->Int->WP))(Q:Bool->WP)(Yx:L3 (Int->Int->Value->Int->Int->Int->WP))(a:OA)(b c:Nat)(d e:Int)(f:Value)(g i j:Int)(w:World):Prop:=cond (decide (j≥1)) (aJ j b<|wA a λl=>af .i64 ((l.add (j.toNat*3)).add 0) w.drew λm=>af .i64 ((l.add (j.toNat*3)).add 1) w.drew λn=>af .i64 ((l.add (j.toNat*3)).add 2) w.drew λo=>aJ (IntKind.wrap .i64 (j-1)) b<|wA a λp=>af .i64 ((p.add (((IntKind.wrap .i64 (j-1))).toNat*3)).add 0) w.drew λq=>af .i64 ((p.add (((IntKind.wrap .i64 (j-1))).toNat*3)).add 1) w.drew λr=>af .i64 ((p.add (((IntKind.wrap .i64 (j-1))).toNat*3)).add 2) w.drew λs=>h_ (cx 141) f [.agg #[ae m,ae n,ae o],.agg #[ae q,ae r,ae s]] w.drew λt w=>dI .i64 t λu=>cond (!(decide (u<0))) (cZ P3 Q a b c d e f g i w) (aJ (IntKind.wrap .i64 (j-1)) b<|wA a λv=>af .i64 ((v.add (((IntKind.wrap .i64 (j-1))).toNat*3)).add 0) w.drew λx=>af .i64 ((v.add (((IntKind.wrap .i64 (j-1))).toNat*3)).add 1) w.drew λy=>af .i64 ((v.add (((IntKind.wrap .i64 (j-1))).toNat*3)).add 2) w.drew λz=>aJ j b<|wA a λa1=>af .i64 ((a1.add (j.toNat*3)).add 0) w.drew λb1=>af .i64 ((a1.add (j.toNat*3)).add 1) w.drew λc1=>af .i64 ((a1.add (j.toNat*3)).add 2) w.drew λd1=>aJ j b<|wA a λe1=>St ((e1.add (j.toNat*3)).add 0) (ae x) w.drew λw=>St ((e1.add (j.toNat*3)).add 1) (ae y) w λw=>St ((e1.add (j.toNat*3)).add 2) (ae z) w λw=>aJ (IntKind.wrap .i64 (j-1)) b<|wA a λf1=>St ((f1.add (((IntKind.wrap .i64 (j-1))).toNat*3)).add 0) (ae b1) w λw=>St ((f1.add (((IntKind.wrap .i64 (j-1))).toNat*3)).add 1) (ae c1) w λw=>St ((f1.add (((IntKind.wrap .i64 (j-1))).toNat*3)).add 2) (ae d1) w λw=>Yx a b c d e f g i (IntKind.wrap .i64 (j-1)) w)) (cZ P3 Q a b c d e f g i w)
def c7 (P3:L3 (Int->Int->Value->Int->Int->WP))(Q:Bool->WP):Nat->L3 (Int->Int->Value->Int->Int->Int->WP)
 |0,_,_,_,_,_,_,_,_,_,_=>False
 |k+1,a,b,c,d,e,f,g,i,j,w=>eC P3 Q (c7 P3 Q k) a b c d e f g i j w
def eJ (P3:L3 (Int->Int->Value->Int->Int->WP))(Q:Bool->WP)(a:OA)(b c:Nat)(d e:Int)(f:Value)(g i:Int)(w:World):Prop:=cond (g==e) (Q true w) (cond (decide ((IntKind.wrap .i64 (e-d))<50)) (Q false w) (aJ (IntKind.wrap .i64 (g-1)) b<|wA a λj=>af .i64 ((j.add (((IntKind.wrap .i64 (g-1))).toNat*3)).add 0) w.drew λl=>af .i64 ((j.add (((IntKind.wrap .i64 (g-1))).toNat*3)).add 1) w.drew λm=>af .i64 ((j.add (((IntKind.wrap .i64 (g-1))).toNat*3)).add 2) w.drew λn=>aJ g b<|wA a λo=>af .i64 ((o.add (g.toNat*3)).add 0) w.drew λp=>af .i64 ((o.add (g.toNat*3)).add 1) w.drew λq=>af .i64 ((o.add (g.toNat*3)).add 2) w.drew λr=>aJ g b<|wA a λs=>St ((s.add (g.toNat*3)).add 0) (ae l) w.drew λw=>St ((s.add (g.toNat*3)).add 1) (ae m) w λw=>St ((s.add (g.toNat*3)).add 2) (ae n) w λw=>aJ (IntKind.wrap .i64 (g-1)) b<|wA a λt=>St ((t.add (((IntKind.wrap .i64 (g-1))).toNat*3)).add 0) (ae p) w λw=>St ((t.add (((IntKind.wrap .i64 (g-1))).toNat*3)).add 1) (ae q) w λw=>St ((t.add (((IntKind.wrap .i64 (g-1))).toNat*3)).add 2) (ae r) w λw=>cond (decide ((IntKind.wrap .i64 (g-d))≥2)) (∃k',c7 P3 Q k' a b c d e f g i (IntKind.wrap .i64 (g-1)) w) (cZ P3 Q a b c d e f g i w)))
def eK (P3:L3 (Int->Int->Value->Int->Int->WP))(Q:Bool->WP)(R5:L3 (Int->Int->Value->Int->Int->WP))(a:OA)(b c:Nat)(d e:Int)(f:Value)(g i:Int)(w:World):Prop:=cond (decide (g<e)) (aJ g b<|wA a λj=>af .i64 ((j.add (g.toNat*3)).add 0) w.drew λl=>af .i64 ((j.add (g.toNat*3)).add 1) w.drew λm=>af .i64 ((j.add (g.toNat*3)).add 2) w.drew λn=>aJ (IntKind.wrap .i64 (g-1)) b<|wA a λo=>af .i64 ((o.add (((IntKind.wrap .i64 (g-1))).toNat*3)).add 0) w.drew λp=>af .i64 ((o.add (((IntKind.wrap .i64 (g-1))).toNat*3)).add 1) w.drew λq=>af .i64 ((o.add (((IntKind.wrap .i64 (g-1))).toNat*3)).add 2) w.drew λr=>h_ (cx 141) f [.agg #[ae l,ae m,ae n],.agg #[ae p,ae q,ae r]] w.drew λs w=>dI .i64 s λt=>cond (!(decide (t<0))) (R5 a b c d e f (IntKind.wrap .i64 (g+1)) i w) (eJ P3 Q a b c d e f g i w)) (eJ P3 Q a b c d e f g i w.drew)
def dh (P3:L3 (Int->Int->Value->Int->Int->WP))(Q:Bool->WP):Nat->L3 (Int->Int->Value->Int->Int->WP)
 |0,_,_,_,_,_,_,_,_,_=>False
 |k+1,a,b,c,d,e,f,g,i,w=>eK P3 Q (dh P3 Q k) a b c d e f g i w
def eL (Q:Bool->WP)(R3:L3 (Int->Int->Value->Int->Int->WP))(a:OA)(b c:Nat)(d e:Int)(f:Value)(g i:Int)(w:World):Prop:=cond (decide (i<5)) (∃k',dh R3 Q k' a b c d e f g i w) (Q false w)
def bu (Q:Bool->WP):Nat->L3 (Int->Int->Value->Int->Int->WP)
 |0,_,_,_,_,_,_,_,_,_=>False
 |k+1,a,b,c,d,e,f,g,i,w=>eL Q (bu Q k) a b c d e f g i w
noncomputable def cD:cv:=[(5,sp 0 14 (.op 14 (sp 15 3 .done))),(11,sp 0 15 (.op 15 (.op 16 (.op 17 .done)))),(16,sp 0 10 (.op 10 (sp 11 2 .done))),(17,sp 0 15 (.op 15 (.op 16 (.op 17 .done)))),(22,sp 0 10 (.op 10 (sp 11 2 .done))),(23,sp 0 15 (.op 15 (.op 16 (.op 17 .done))))]
def vi {P3}(Q)(H3:Bk 141 Tryz.f248 (bt Q) 3 [(0,.l),(1,.i .i64),(2,.i .i64),(3,.v),(9,.i .i64),(10,.i .i64)] P3):∀k,Bk 141 Tryz.f248 (bt Q) 20 [(0,.l),(1,.i .i64),(2,.i .i64),(3,.v),(9,.i .i64),(10,.i .i64),(12,.i .i64)] (cY P3 Q k):=bK λk h=>aT (ok 141) cD [aM H3,aM h]
def mq {P3}(Q)(H3:Bk 141 Tryz.f248 (bt Q) 3 [(0,.l),(1,.i .i64),(2,.i .i64),(3,.v),(9,.i .i64),(10,.i .i64)] P3):Bk 141 Tryz.f248 (bt Q) 18 [(0,.l),(1,.i .i64),(2,.i .i64),(3,.v),(9,.i .i64),(10,.i .i64)] (cZ P3 Q):=aT (ok 141) cD [aM H3,ct (vi Q H3)]
def vk {P3}(Q)(H3:Bk 141 Tryz.f248 (bt Q) 3 [(0,.l),(1,.i .i64),(2,.i .i64),(3,.v),(9,.i .i64),(10,.i .i64)] P3):∀k,Bk 141 Tryz.f248 (bt Q) 14 [(0,.l),(1,.i .i64),(2,.i .i64),(3,.v),(9,.i .i64),(10,.i .i64),(11,.i .i64)] (c7 P3 Q k):=bK λk h=>aT (ok 141) cD [aM h,aM (mq Q H3)]
def vX {P3}(Q)(H3:Bk 141 Tryz.f248 (bt Q) 3 [(0,.l),(1,.i .i64),(2,.i .i64),(3,.v),(9,.i .i64),(10,.i .i64)] P3):Bk 141 Tryz.f248 (bt Q) 7 [(0,.l),(1,.i .i64),(2,.i .i64),(3,.v),(9,.i .i64),(10,.i .i64)] (eJ P3 Q):=aT (ok 141) cD [ct (vk Q H3),aM (mq Q H3)]
def vY {P3}(Q)(H3:Bk 141 Tryz.f248 (bt Q) 3 [(0,.l),(1,.i .i64),(2,.i .i64),(3,.v),(9,.i .i64),(10,.i .i64)] P3):∀k,Bk 141 Tryz.f248 (bt Q) 5 [(0,.l),(1,.i .i64),(2,.i .i64),(3,.v),(9,.i .i64),(10,.i .i64)] (dh P3 Q k):=bK λk h=>aT (ok 141) cD [aM h,aM (vX Q H3)]
def vZ (Q):∀k,Bk 141 Tryz.f248 (bt Q) 3 [(0,.l),(1,.i .i64),(2,.i .i64),(3,.v),(9,.i .i64),(10,.i .i64)] (bu Q k):=bK λk h=>aT (ok 141) cD [ct (vY Q h)]
def uQ:=λa b c d e f w Q=>bB (iB a b c d e f w Q) (∃k',bu Q k' a b c d e f (IntKind.wrap .i64 (d+1)) 0 w) (ok 141) cD [ct (vZ Q)] Tryz.func248
def eF (P3:L3 (Int->Value->Int->Int->WP))(Q:Int->WP)(a:OA)(b c:Nat)(d:Int)(e:Value)(f g:Int)(w:World):Prop:=cond (decide (f>g)) (Q f w) (aJ g b<|wA a λi=>af .i64 ((i.add (g.toNat*3)).add 0) w.drew λj=>af .i64 ((i.add (g.toNat*3)).add 1) w.drew λl=>af .i64 ((i.add (g.toNat*3)).add 2) w.drew λm=>aJ f b<|wA a λn=>af .i64 ((n.add (f.toNat*3)).add 0) w.drew λo=>af .i64 ((n.add (f.toNat*3)).add 1) w.drew λp=>af .i64 ((n.add (f.toNat*3)).add 2) w.drew λq=>aJ f b<|wA a λr=>St ((r.add (f.toNat*3)).add 0) (ae j) w.drew λw=>St ((r.add (f.toNat*3)).add 1) (ae l) w λw=>St ((r.add (f.toNat*3)).add 2) (ae m) w λw=>aJ g b<|wA a λs=>St ((s.add (g.toNat*3)).add 0) (ae o) w λw=>St ((s.add (g.toNat*3)).add 1) (ae p) w λw=>St ((s.add (g.toNat*3)).add 2) (ae q) w λw=>P3 a b c d e (IntKind.wrap .i64 (f+1)) (IntKind.wrap .i64 (g-1)) w)
def dy (P3:L3 (Int->Value->Int->Int->WP))(Q:Int->WP)(R5:L3 (Int->Value->Int->Int->WP))(a:OA)(b c:Nat)(d:Int)(e:Value)(f g:Int)(w:World):Prop:=cond (decide (f<=g)) (aJ d b<|wA a λi=>af .i64 ((i.add (d.toNat*3)).add 0) w.drew λj=>af .i64 ((i.add (d.toNat*3)).add 1) w.drew λl=>af .i64 ((i.add (d.toNat*3)).add 2) w.drew λm=>aJ g b<|wA a λn=>af .i64 ((n.add (g.toNat*3)).add 0) w.drew λo=>af .i64 ((n.add (g.toNat*3)).add 1) w.drew λp=>af .i64 ((n.add (g.toNat*3)).add 2) w.drew λq=>h_ (cx 90) e [.agg #[ae j,ae l,ae m],.agg #[ae o,ae p,ae q]] w.drew λr w=>dI .i64 r λs=>cond (decide (s<0)) (R5 a b c d e f (IntKind.wrap .i64 (g-1)) w) (eF P3 Q a b c d e f g w)) (eF P3 Q a b c d e f g w.drew)
def cN (P3:L3 (Int->Value->Int->Int->WP))(Q:Int->WP):Nat->L3 (Int->Value->Int->Int->WP)
 |0,_,_,_,_,_,_,_,_=>False
 |k+1,a,b,c,d,e,f,g,w=>dy P3 Q (cN P3 Q k) a b c d e f g w
def fE (Q:Int->WP)(R3:L3 (Int->Value->Int->Int->WP))(a:OA)(b c:Nat)(d:Int)(e:Value)(f g:Int)(w:World):Prop:=cond (decide (f<=g)) (aJ d b<|wA a λi=>af .i64 ((i.add (d.toNat*3)).add 0) w.drew λj=>af .i64 ((i.add (d.toNat*3)).add 1) w.drew λl=>af .i64 ((i.add (d.toNat*3)).add 2) w.drew λm=>aJ f b<|wA a λn=>af .i64 ((n.add (f.toNat*3)).add 0) w.drew λo=>af .i64 ((n.add (f.toNat*3)).add 1) w.drew λp=>af .i64 ((n.add (f.toNat*3)).add 2) w.drew λq=>h_ (cx 90) e [.agg #[ae j,ae l,ae m],.agg #[ae o,ae p,ae q]] w.drew λr w=>dI .i64 r λs=>cond (!(decide (s<0))) (R3 a b c d e (IntKind.wrap .i64 (f+1)) g w) (∃k',cN R3 Q k' a b c d e f g w)) (∃k',cN R3 Q k' a b c d e f g w.drew)
def cO (Q:Int->WP):Nat->L3 (Int->Value->Int->Int->WP)
 |0,_,_,_,_,_,_,_,_=>False
 |k+1,a,b,c,d,e,f,g,w=>fE Q (cO Q k) a b c d e f g w
noncomputable def gR:cv:=[(1,sp 0 13 (.op 13 (.op 14 (.op 15 .done)))),(3,sp 0 13 (.op 13 (sp 14 3 .done))),(5,sp 0 13 (.op 13 (sp 14 2 .done))),(8,sp 0 13 (.op 13 (.op 14 (.op 15 .done))))]
def zO {P3}(Q)(H3:Bk 90 Tryz.f249 (eE Q) 3 [(0,.l),(1,.i .i64),(4,.v),(11,.i .i64),(12,.i .i64)] P3):Bk 90 Tryz.f249 (eE Q) 7 [(0,.l),(1,.i .i64),(4,.v),(11,.i .i64),(12,.i .i64)] (eF P3 Q):=aT (ok 90) gR [aM H3]
def zP {P3}(Q)(H3:Bk 90 Tryz.f249 (eE Q) 3 [(0,.l),(1,.i .i64),(4,.v),(11,.i .i64),(12,.i .i64)] P3):∀k,Bk 90 Tryz.f249 (eE Q) 5 [(0,.l),(1,.i .i64),(4,.v),(11,.i .i64),(12,.i .i64)] (cN P3 Q k):=bK λk h=>aT (ok 90) gR [aM h,aM (zO Q H3)]
def zQ (Q):∀k,Bk 90 Tryz.f249 (eE Q) 3 [(0,.l),(1,.i .i64),(4,.v),(11,.i .i64),(12,.i .i64)] (cO Q k):=bK λk h=>aT (ok 90) gR [aM h,ct (zP Q h)]
def ym:=λa b c d e f g w Q=>bB (jD a b c d e f g w Q) (aJ f b<|wA a λi=>af .i64 ((i.add (f.toNat*3)).add 0) w.drew λj=>af .i64 ((i.add (f.toNat*3)).add 1) w.drew λl=>af .i64 ((i.add (f.toNat*3)).add 2) w.drew λm=>aJ d b<|wA a λn=>af .i64 ((n.add (d.toNat*3)).add 0) w.drew λo=>af .i64 ((n.add (d.toNat*3)).add 1) w.drew λp=>af .i64 ((n.add (d.toNat*3)).add 2) w.drew λq=>aJ d b<|wA a λr=>St ((r.add (d.toNat*3)).add 0) (ae j) w.drew λw=>St ((r.add (d.toNat*3)).add 1) (ae l) w λw=>St ((r.add (d.toNat*3)).add 2) (ae m) w λw=>aJ f b<|wA a λs=>St ((s.add (f.toNat*3)).add 0) (ae o) w λw=>St ((s.add (f.toNat*3)).add 1) (ae p) w λw=>St ((s.add (f.toNat*3)).add 2) (ae q) w λw=>∃k',cO Q k' a b c d g (IntKind.wrap .i64 (d+1)) (IntKind.wrap .i64 (e-1)) w) (ok 90) gR [ct (zQ Q)] Tryz.func249
def fe (tB:L3 (Int->Value->Int->Int->WP))(Q:Int->Bool->WP)(a:OA)(b c:Nat)(d:Int)(e:Value)(f g:Int)(w:World):Prop:=cond (decide (f>g)) (aJ d b<|wA a λi=>af .i64 ((i.add (d.toNat*3)).add 0) w.drew λj=>af .i64 ((i.add (d.toNat*3)).add 1) w.drew λl=>af .i64 ((i.add (d.toNat*3)).add 2) w.drew λm=>aJ g b<|wA a λn=>af .i64 ((n.add (g.toNat*3)).add 0) w.drew λo=>af .i64 ((n.add (g.toNat*3)).add 1) w.drew λp=>af .i64 ((n.add (g.toNat*3)).add 2) w.drew λq=>aJ g b<|wA a λr=>St ((r.add (g.toNat*3)).add 0) (ae j) w.drew λw=>St ((r.add (g.toNat*3)).add 1) (ae l) w λw=>St ((r.add (g.toNat*3)).add 2) (ae m) w λw=>aJ d b<|wA a λs=>St ((s.add (d.toNat*3)).add 0) (ae o) w λw=>St ((s.add (d.toNat*3)).add 1) (ae p) w λw=>St ((s.add (d.toNat*3)).add 2) (ae q) w λw=>Q g false w) (aJ g b<|wA a λt=>af .i64 ((t.add (g.toNat*3)).add 0) w.drew λu=>af .i64 ((t.add (g.toNat*3)).add 1) w.drew λv=>af .i64 ((t.add (g.toNat*3)).add 2) w.drew λx=>aJ f b<|wA a λy=>af .i64 ((y.add (f.toNat*3)).add 0) w.drew λz=>af .i64 ((y.add (f.toNat*3)).add 1) w.drew λa1=>af .i64 ((y.add (f.toNat*3)).add 2) w.drew λb1=>aJ f b<|wA a λc1=>St ((c1.add (f.toNat*3)).add 0) (ae u) w.drew λw=>St ((c1.add (f.toNat*3)).add 1) (ae v) w λw=>St ((c1.add (f.toNat*3)).add 2) (ae x) w λw=>aJ g b<|wA a λd1=>St ((d1.add (g.toNat*3)).add 0) (ae z) w λw=>St ((d1.add (g.toNat*3)).add 1) (ae a1) w λw=>St ((d1.add (g.toNat*3)).add 2) (ae b1) w λw=>tB a b c d e (IntKind.wrap .i64 (f+1)) (IntKind.wrap .i64 (g-1)) w)
def eo (tB:L3 (Int->Value->Int->Int->WP))(Q:Int->Bool->WP)(R15:L3 (Int->Value->Int->Int->WP))(a:OA)(b c:Nat)(d:Int)(e:Value)(f g:Int)(w:World):Prop:=cond (decide (f<=g)) (aJ g b<|wA a λi=>af .i64 ((i.add (g.toNat*3)).add 0) w.drew λj=>af .i64 ((i.add (g.toNat*3)).add 1) w.drew λl=>af .i64 ((i.add (g.toNat*3)).add 2) w.drew λm=>aJ d b<|wA a λn=>af .i64 ((n.add (d.toNat*3)).add 0) w.drew λo=>af .i64 ((n.add (d.toNat*3)).add 1) w.drew λp=>af .i64 ((n.add (d.toNat*3)).add 2) w.drew λq=>h_ (cx 178) e [.agg #[ae j,ae l,ae m],.agg #[ae o,ae p,ae q]] w.drew λr w=>dI .i64 r λs=>cond (!(decide (s<0))) (R15 a b c d e f (IntKind.wrap .i64 (g-1)) w) (fe tB Q a b c d e f g w)) (fe tB Q a b c d e f g w.drew)
def c9 (tB:L3 (Int->Value->Int->Int->WP))(Q:Int->Bool->WP):Nat->L3 (Int->Value->Int->Int->WP)
 |0,_,_,_,_,_,_,_,_=>False
 |k+1,a,b,c,d,e,f,g,w=>eo tB Q (c9 tB Q k) a b c d e f g w
def gw (Q:Int->Bool->WP)(R13:L3 (Int->Value->Int->Int->WP))(a:OA)(b c:Nat)(d:Int)(e:Value)(f g:Int)(w:World):Prop:=cond (decide (f<=g)) (aJ f b<|wA a λi=>af .i64 ((i.add (f.toNat*3)).add 0) w.drew λj=>af .i64 ((i.add (f.toNat*3)).add 1) w.drew λl=>af .i64 ((i.add (f.toNat*3)).add 2) w.drew λm=>aJ d b<|wA a λn=>af .i64 ((n.add (d.toNat*3)).add 0) w.drew λo=>af .i64 ((n.add (d.toNat*3)).add 1) w.drew λp=>af .i64 ((n.add (d.toNat*3)).add 2) w.drew λq=>h_ (cx 178) e [.agg #[ae j,ae l,ae m],.agg #[ae o,ae p,ae q]] w.drew λr w=>dI .i64 r λs=>cond (decide (s<0)) (R13 a b c d e (IntKind.wrap .i64 (f+1)) g w) (∃k',c9 R13 Q k' a b c d e f g w)) (∃k',c9 R13 Q k' a b c d e f g w.drew)
def c_ (Q:Int->Bool->WP):Nat->L3 (Int->Value->Int->Int->WP)
 |0,_,_,_,_,_,_,_,_=>False
 |k+1,a,b,c,d,e,f,g,w=>gw Q (c_ Q k) a b c d e f g w
def gE (Q:Int->Bool->WP)(a:OA)(b c:Nat)(d:Int)(e:Value)(f g:Int)(w:World):Prop:=cond (decide (f>g)) (aJ d b<|wA a λi=>af .i64 ((i.add (d.toNat*3)).add 0) w.drew λj=>af .i64 ((i.add (d.toNat*3)).add 1) w.drew λl=>af .i64 ((i.add (d.toNat*3)).add 2) w.drew λm=>aJ g b<|wA a λn=>af .i64 ((n.add (g.toNat*3)).add 0) w.drew λo=>af .i64 ((n.add (g.toNat*3)).add 1) w.drew λp=>af .i64 ((n.add (g.toNat*3)).add 2) w.drew λq=>aJ g b<|wA a λr=>St ((r.add (g.toNat*3)).add 0) (ae j) w.drew λw=>St ((r.add (g.toNat*3)).add 1) (ae l) w λw=>St ((r.add (g.toNat*3)).add 2) (ae m) w λw=>aJ d b<|wA a λs=>St ((s.add (d.toNat*3)).add 0) (ae o) w λw=>St ((s.add (d.toNat*3)).add 1) (ae p) w λw=>St ((s.add (d.toNat*3)).add 2) (ae q) w λw=>Q g true w) (aJ g b<|wA a λt=>af .i64 ((t.add (g.toNat*3)).add 0) w.drew λu=>af .i64 ((t.add (g.toNat*3)).add 1) w.drew λv=>af .i64 ((t.add (g.toNat*3)).add 2) w.drew λx=>aJ f b<|wA a λy=>af .i64 ((y.add (f.toNat*3)).add 0) w.drew λz=>af .i64 ((y.add (f.toNat*3)).add 1) w.drew λa1=>af .i64 ((y.add (f.toNat*3)).add 2) w.drew λb1=>aJ f b<|wA a λc1=>St ((c1.add (f.toNat*3)).add 0) (ae u) w.drew λw=>St ((c1.add (f.toNat*3)).add 1) (ae v) w λw=>St ((c1.add (f.toNat*3)).add 2) (ae x) w λw=>aJ g b<|wA a λd1=>St ((d1.add (g.toNat*3)).add 0) (ae z) w λw=>St ((d1.add (g.toNat*3)).add 1) (ae a1) w λw=>St ((d1.add (g.toNat*3)).add 2) (ae b1) w λw=>∃k',c_ Q k' a b c d e (IntKind.wrap .i64 (f+1)) (IntKind.wrap .i64 (g-1)) w)
def gF (Q:Int->Bool->WP)(R5:L3 (Int->Value->Int->Int->WP))(a:OA)(b c:Nat)(d:Int)(e:Value)(f g:Int)(w:World):Prop:=cond (decide (f<=g)) (aJ g b<|wA a λi=>af .i64 ((i.add (g.toNat*3)).add 0) w.drew λj=>af .i64 ((i.add (g.toNat*3)).add 1) w.drew λl=>af .i64 ((i.add (g.toNat*3)).add 2) w.drew λm=>aJ d b<|wA a λn=>af .i64 ((n.add (d.toNat*3)).add 0) w.drew λo=>af .i64 ((n.add (d.toNat*3)).add 1) w.drew λp=>af .i64 ((n.add (d.toNat*3)).add 2) w.drew λq=>h_ (cx 178) e [.agg #[ae j,ae l,ae m],.agg #[ae o,ae p,ae q]] w.drew λr w=>dI .i64 r λs=>cond (!(decide (s<0))) (R5 a b c d e f (IntKind.wrap .i64 (g-1)) w) (gE Q a b c d e f g w)) (gE Q a b c d e f g w.drew)
def dD (Q:Int->Bool->WP):Nat->L3 (Int->Value->Int->Int->WP)
 |0,_,_,_,_,_,_,_,_=>False
 |k+1,a,b,c,d,e,f,g,w=>gF Q (dD Q k) a b c d e f g w
def gG (Q:Int->Bool->WP)(R3:L3 (Int->Value->Int->Int->WP))(a:OA)(b c:Nat)(d:Int)(e:Value)(f g:Int)(w:World):Prop:=cond (decide (f<=g)) (aJ f b<|wA a λi=>af .i64 ((i.add (f.toNat*3)).add 0) w.drew λj=>af .i64 ((i.add (f.toNat*3)).add 1) w.drew λl=>af .i64 ((i.add (f.toNat*3)).add 2) w.drew λm=>aJ d b<|wA a λn=>af .i64 ((n.add (d.toNat*3)).add 0) w.drew λo=>af .i64 ((n.add (d.toNat*3)).add 1) w.drew λp=>af .i64 ((n.add (d.toNat*3)).add 2) w.drew λq=>h_ (cx 178) e [.agg #[ae j,ae l,ae m],.agg #[ae o,ae p,ae q]] w.drew λr w=>dI .i64 r λs=>cond (decide (s<0)) (R3 a b c d e (IntKind.wrap .i64 (f+1)) g w) (∃k',dD Q k' a b c d e f g w)) (∃k',dD Q k' a b c d e f g w.drew)
def fm (Q:Int->Bool->WP):Nat->L3 (Int->Value->Int->Int->WP)
 |0,_,_,_,_,_,_,_,_=>False
 |k+1,a,b,c,d,e,f,g,w=>gG Q (fm Q k) a b c d e f g w
noncomputable def eA:cv:=[(1,sp 0 13 (.op 13 (.op 14 (.op 15 .done)))),(3,sp 0 13 (.op 13 (sp 14 2 .done))),(5,sp 0 13 (.op 13 (sp 14 3 .done))),(8,sp 0 13 (.op 13 (.op 14 (.op 15 .done)))),(10,sp 0 13 (.op 13 (.op 14 (.op 15 .done)))),(13,sp 0 13 (.op 13 (sp 14 2 .done))),(15,sp 0 13 (.op 13 (sp 14 3 .done))),(18,sp 0 13 (.op 13 (.op 14 (.op 15 .done)))),(21,sp 0 13 (.op 13 (.op 14 (.op 15 .done))))]
def BH {tB}(Q)(H13:Bk 178 Tryz.f250 (cS Q) 13 [(0,.l),(1,.i .i64),(4,.v),(12,.i .i64),(13,.i .i64)] tB):Bk 178 Tryz.f250 (cS Q) 17 [(0,.l),(1,.i .i64),(4,.v),(12,.i .i64),(13,.i .i64)] (fe tB Q):=aT (ok 178) eA [aM H13]
def BI {tB}(Q)(H13:Bk 178 Tryz.f250 (cS Q) 13 [(0,.l),(1,.i .i64),(4,.v),(12,.i .i64),(13,.i .i64)] tB):∀k,Bk 178 Tryz.f250 (cS Q) 15 [(0,.l),(1,.i .i64),(4,.v),(12,.i .i64),(13,.i .i64)] (c9 tB Q k):=bK λk h=>aT (ok 178) eA [aM h,aM (BH Q H13)]
def BJ (Q):∀k,Bk 178 Tryz.f250 (cS Q) 13 [(0,.l),(1,.i .i64),(4,.v),(12,.i .i64),(13,.i .i64)] (c_ Q k):=bK λk h=>aT (ok 178) eA [aM h,ct (BI Q h)]
def Ca (Q):Bk 178 Tryz.f250 (cS Q) 7 [(0,.l),(1,.i .i64),(4,.v),(12,.i .i64),(13,.i .i64)] (gE Q):=aT (ok 178) eA [ct (BJ Q)]
def Cb (Q):∀k,Bk 178 Tryz.f250 (cS Q) 5 [(0,.l),(1,.i .i64),(4,.v),(12,.i .i64),(13,.i .i64)] (dD Q k):=bK λk h=>aT (ok 178) eA [aM h,aM (Ca Q)]
def Cc (Q):∀k,Bk 178 Tryz.f250 (cS Q) 3 [(0,.l),(1,.i .i64),(4,.v),(12,.i .i64),(13,.i .i64)] (fm Q k):=bK λk h=>aT (ok 178) eA [aM h,ct (Cb Q)]
def A_:=λa b c d e f g w Q=>bB (lu a b c d e f g w Q) (aJ f b<|wA a λi=>af .i64 ((i.add (f.toNat*3)).add 0) w.drew λj=>af .i64 ((i.add (f.toNat*3)).add 1) w.drew λl=>af .i64 ((i.add (f.toNat*3)).add 2) w.drew λm=>aJ d b<|wA a λn=>af .i64 ((n.add (d.toNat*3)).add 0) w.drew λo=>af .i64 ((n.add (d.toNat*3)).add 1) w.drew λp=>af .i64 ((n.add (d.toNat*3)).add 2) w.drew λq=>aJ d b<|wA a λr=>St ((r.add (d.toNat*3)).add 0) (ae j) w.drew λw=>St ((r.add (d.toNat*3)).add 1) (ae l) w λw=>St ((r.add (d.toNat*3)).add 2) (ae m) w λw=>aJ f b<|wA a λs=>St ((s.add (f.toNat*3)).add 0) (ae o) w λw=>St ((s.add (f.toNat*3)).add 1) (ae p) w λw=>St ((s.add (f.toNat*3)).add 2) (ae q) w λw=>∃k',fm Q k' a b c d g (IntKind.wrap .i64 (d+1)) (IntKind.wrap .i64 (e-1)) w) (ok 178) eA [ct (Cc Q)] Tryz.func250
def jx (P2:L3 (Int->Int->Int->Value->Bool->Bool->WP))(Q:WP)(a:OA)(b c:Nat)(d e f:Int)(g:Value)(i j:Int)(w:World):Prop:=lu a b c d e j g w λl m w=>NZ 8<|cond (decide ((IntKind.wrap .i64 (l-d))<(IntKind.wrap .i64 (e-l)))) (fk a b c d l f g w λw=>P2 a b c (IntKind.wrap .i64 (l+1)) e f g (decide ((IntKind.wrap .i64 (l-d))≥(IntKind.wrap .i64 (Int.tdiv i 8)))) m w) (fk a b c (IntKind.wrap .i64 (l+1)) e f g w λw=>P2 a b c d l f g (decide ((IntKind.wrap .i64 (e-l))≥(IntKind.wrap .i64 (Int.tdiv i 8)))) m w)
def eU (P2:L3 (Int->Int->Int->Value->Bool->Bool->WP))(Q:WP)(a:OA)(b c:Nat)(d e f:Int)(g:Value)(i j:Bool)(l m:Int)(w:World):Prop:=cond (decide (d>0)) (aJ (IntKind.wrap .i64 (d-1)) b<|wA a λn=>af .i64 ((n.add (((IntKind.wrap .i64 (d-1))).toNat*3)).add 0) w.drew λo=>af .i64 ((n.add (((IntKind.wrap .i64 (d-1))).toNat*3)).add 1) w.drew λp=>af .i64 ((n.add (((IntKind.wrap .i64 (d-1))).toNat*3)).add 2) w.drew λq=>aJ m b<|wA a λr=>af .i64 ((r.add (m.toNat*3)).add 0) w.drew λs=>af .i64 ((r.add (m.toNat*3)).add 1) w.drew λt=>af .i64 ((r.add (m.toNat*3)).add 2) w.drew λu=>h_ (cx 148) g [.agg #[ae o,ae p,ae q],.agg #[ae s,ae t,ae u]] w.drew λv w=>dI .i64 v λx=>cond (!(decide (x<0))) (jD a b c d e m g w λy w=>P2 a b c y e f g i j w) (jx P2 Q a b c d e f g l m w)) (jx P2 Q a b c d e f g l m w.drew)
def gS (P2:L3 (Int->Int->Int->Value->Bool->Bool->WP))(Q:WP)(a:OA)(b c:Nat)(d e f:Int)(g:Value)(i j:Bool)(l m n:Int)(w:World):Prop:=cond i (cond j (cond (n==1) (iB a b c d e g w λo w=>cond o (Q w) (eU P2 Q a b c d e f g i j l m w)) (eU P2 Q a b c d e f g i j l m w)) (eU P2 Q a b c d e f g i j l m w)) (eU P2 Q a b c d e f g i j l m w)
def jy (P2:L3 (Int->Int->Int->Value->Bool->Bool->WP))(Q:WP)(a:OA)(b c:Nat)(d e f:Int)(g:Value)(i j:Bool)(l:Int)(w:World):Prop:=kH a b c d e g w λm n w=>cond (n==2) (j7 a b c d e g w λw=>gS P2 Q a b c d e f g i j l (IntKind.wrap .i64 ((IntKind.wrap .i64 (e-1))-(IntKind.wrap .i64 (m-d)))) 1 w) (gS P2 Q a b c d e f g i j l m n w)
def gZ (Q:WP)(R2:L3 (Int->Int->Int->Value->Bool->Bool->WP))(a:OA)(b c:Nat)(d e f:Int)(g:Value)(i j:Bool)(w:World):Prop:=cond (decide ((IntKind.wrap .i64 (e-d))<=12)) (jK a b c d e g w λw=>Q w) (cond (f==0) (lR a b c d e g w λw=>Q w) (cond (!i) (jL a b c d e g w λw=>jy R2 Q a b c d e (IntKind.wrap .i64 (f-1)) g i j (IntKind.wrap .i64 (e-d)) w) (jy R2 Q a b c d e f g i j (IntKind.wrap .i64 (e-d)) w)))
def cL (Q:WP):Nat->L3 (Int->Int->Int->Value->Bool->Bool->WP)
 |0,_,_,_,_,_,_,_,_,_,_=>False
 |k+1,a,b,c,d,e,f,g,i,j,w=>gZ Q (cL Q k) a b c d e f g i j w
noncomputable def fI:cv:=[(17,sp 0 13 (.op 13 (sp 14 3 .done)))]
def CY {P2}(Q)(H2:Bk 148 Tryz.f223 (cK Q) 2 [(0,.l),(1,.i .i64),(2,.i .i64),(3,.i .i64),(4,.v),(10,.b),(11,.b)] P2):Bk 148 Tryz.f223 (cK Q) 20 [(0,.l),(1,.i .i64),(2,.i .i64),(3,.i .i64),(4,.v),(12,.i .i64),(13,.i .i64)] (jx P2 Q):=aT (ok 148) fI [aM H2]
def CZ {P2}(Q)(H2:Bk 148 Tryz.f223 (cK Q) 2 [(0,.l),(1,.i .i64),(2,.i .i64),(3,.i .i64),(4,.v),(10,.b),(11,.b)] P2):Bk 148 Tryz.f223 (cK Q) 17 [(0,.l),(1,.i .i64),(2,.i .i64),(3,.i .i64),(4,.v),(10,.b),(11,.b),(12,.i .i64),(13,.i .i64)] (eU P2 Q):=aT (ok 148) fI [aM H2,aM (CY Q H2)]
def C0 {P2}(Q)(H2:Bk 148 Tryz.f223 (cK Q) 2 [(0,.l),(1,.i .i64),(2,.i .i64),(3,.i .i64),(4,.v),(10,.b),(11,.b)] P2):Bk 148 Tryz.f223 (cK Q) 15 [(0,.l),(1,.i .i64),(2,.i .i64),(3,.i .i64),(4,.v),(10,.b),(11,.b),(12,.i .i64),(13,.i .i64),(14,.i .i64)] (gS P2 Q):=aT (ok 148) fI [aM (CZ Q H2)]
def C1 {P2}(Q)(H2:Bk 148 Tryz.f223 (cK Q) 2 [(0,.l),(1,.i .i64),(2,.i .i64),(3,.i .i64),(4,.v),(10,.b),(11,.b)] P2):Bk 148 Tryz.f223 (cK Q) 10 [(0,.l),(1,.i .i64),(2,.i .i64),(3,.i .i64),(4,.v),(10,.b),(11,.b),(12,.i .i64)] (jy P2 Q):=aT (ok 148) fI [aM (C0 Q H2)]
def DF (Q):∀k,Bk 148 Tryz.f223 (cK Q) 2 [(0,.l),(1,.i .i64),(2,.i .i64),(3,.i .i64),(4,.v),(10,.b),(11,.b)] (cL Q k):=bK λk h=>aT (ok 148) fI [aM (C1 Q h)]
def rP:=λa b c d e f g w Q=>bB (fk a b c d e f g w Q) (∃k',cL Q k' a b c d e f g true true w) (ok 148) fI [ct (DF Q)] Tryz.func223
def AR:=λa b c d w Q=>bB (kO a b c d w Q) (vJ (IntKind.wrap .u64 (b:Int)) w λe w=>fk a b c 0 (b:Int) e d w λw=>Q w) (ok 14) [] [] Tryz.func196
def mV (Q:Int->WP)(R3:Int->L3 (Int->Int->WP))(a:Int)(b:OA)(c d:Nat)(e f:Int)(w:World):Prop:=cond (decide (f<e)) (aJ f c<|wA b λg=>af .i64 (g.add (f.toNat*1)) w λi=>cond (i !=a) (Q i w) (R3 a b c d e (IntKind.wrap .i64 (f+1)) w)) (Q a w)
def qT (Q:Int->WP):Nat->Int->L3 (Int->Int->WP)
 |0,_,_,_,_,_,_,_=>False
 |k+1,a,b,c,d,e,f,w=>mV Q (qT Q k) a b c d e f w
def adC (Q):∀k,Bk 18 Tryz.f225 (PI Q) 3 [(3,.i .i64),(6,.l),(7,.i .i64),(8,.i .i64)] (qT Q k):=bK λk h=>aT (ok 18) [] [aM h]
def ZC:=λa b c w Q=>bB (ER a b c w Q) (∃k',qT Q k' 0 a b c (b:Int) 0 w) (ok 18) [] [ct (adC Q)] Tryz.func225
def Ba:=λa w Q=>bB (qD a w Q) (Q (a !=a) w) (ok 6) [] [] Tryz.func253
def Qh:=λa b w Q=>bB (ot a b w Q) (qD a w λc w=>qD b w λd w=>cond c (cond d (Q 0 w) (Q (-1) w)) (cond d (Q 1 w) (cond (decide (a<b)) (Q (-1) w) (cond (decide (a>b)) (Q 1 w) (Q 0 w))))) (ok 20) [] [] Tryz.func226
noncomputable def ZD:cv:=[(1,sp 0 4 (sp 5 4 (sp 10 4 (.op 4 (.op 9 (.op 14 (.op 15 (.op 16 (.op 17 .done)))))))))]
def X1:=λa b c d e f w Q=>bB (DB a b c d e f w Q) (Bx [ae a,ae b,ae c] 294 w λg w=>Bx [ae d,ae e,ae f] 294 w λi w=>af .i64 (g.add 2) w.drew λj=>af .i64 (i.add 2) w.drew λl=>af .i64 g w.drew λm=>af .i64 i w.drew λn=>af .i64 (g.add 1) w.drew λo=>af .i64 (i.add 1) w.drew λp=>ot j l w.drew λq w=>w.cell? (i.add 1)=some (ae p)/\w.cell? (g.add 1)=some (ae o)/\w.cell? i=some (ae n)/\w.cell? g=some (ae m)/\ot m n w λr w=>w.cell? (i.add 1)=some (ae p)/\w.cell? (g.add 1)=some (ae o)/\ot o p w λs w=>Bx [ae q,ae r,ae s] 3 w λt w=>ER (some t) 3 3 w λu w=>Q u w) (ok 22) ZD [] Tryz.func197
def Cd (P4:L3 (Int->WP))(Q:L3 WP)(R9:L3 (Int->L3 (Int->WP)))(a:OA)(b c:Nat)(d:Int)(e:OA)(f g:Nat)(i:Int)(w:World):Prop:=cond (decide (i<(f:Int))) (aJ i f<|wA e λj=>af .i64 ((j.add (i.toNat*3)).add 0) w.drew λl=>af .i64 ((j.add (i.toNat*3)).add 1) w.drew λm=>af .i64 ((j.add (i.toNat*3)).add 2) w.drew λn=>aJ (IntKind.wrap .i64 (i-1)) f<|wA e λo=>af .i64 ((o.add (((IntKind.wrap .i64 (i-1))).toNat*3)).add 0) w.drew λp=>af .i64 ((o.add (((IntKind.wrap .i64 (i-1))).toNat*3)).add 1) w.drew λq=>af .i64 ((o.add (((IntKind.wrap .i64 (i-1))).toNat*3)).add 2) w.drew λr=>bW P .neq 294 (.tmp 38) (.tmp 43) (.agg #[ae l,ae m,ae n]) (.agg #[ae p,ae q,ae r]) w.drew λs w=>cond s (aJ i f<|wA e λt=>af .i64 ((t.add (i.toNat*3)).add 0) w λu=>af .i64 ((t.add (i.toNat*3)).add 1) w λv=>af .i64 ((t.add (i.toNat*3)).add 2) w λx=>aJ d b<|wA a λy=>St ((y.add (d.toNat*3)).add 0) (ae u) w λw=>St ((y.add (d.toNat*3)).add 1) (ae v) w λw=>St ((y.add (d.toNat*3)).add 2) (ae x) w λw=>R9 a b c (IntKind.wrap .i64 (d+1)) e f g (IntKind.wrap .i64 (i+1)) w) (R9 a b c d e f g (IntKind.wrap .i64 (i+1)) w)) (bT a b c 3 (some d) none λz a1 b1=>aL P (Builtin.clear_ #[278] 0 [.slice z a1 b1].toArray) w λc1 w=>bT a b c 3 none (some d) λd1 e1 f1=>Q d1 e1 f1 w)
def mu (P4:L3 (Int->WP))(Q:L3 WP):Nat->L3 (Int->L3 (Int->WP))
 |0,_,_,_,_,_,_,_,_,_=>False
 |k+1,a,b,c,d,e,f,g,i,w=>Cd P4 Q (mu P4 Q k) a b c d e f g i w
def gH (Q:L3 WP)(R4:L3 (Int->WP))(a:OA)(b c:Nat)(d:Int)(w:World):Prop:=cond (decide (d<(b:Int))) (aJ d b<|wA a λe=>af .i64 ((e.add (d.toNat*3)).add 0) w.drew λf=>af .i64 ((e.add (d.toNat*3)).add 1) w.drew λg=>af .i64 ((e.add (d.toNat*3)).add 2) w.drew λi=>aJ (IntKind.wrap .i64 (d-1)) b<|wA a λj=>af .i64 ((j.add (((IntKind.wrap .i64 (d-1))).toNat*3)).add 0) w.drew λl=>af .i64 ((j.add (((IntKind.wrap .i64 (d-1))).toNat*3)).add 1) w.drew λm=>af .i64 ((j.add (((IntKind.wrap .i64 (d-1))).toNat*3)).add 2) w.drew λn=>bW P .eql 294 (.tmp 19) (.tmp 24) (.agg #[ae f,ae g,ae i]) (.agg #[ae l,ae m,ae n]) w.drew λo w=>cond o (bT a b c 3 (some d) none λp q r=>∃k',mu R4 Q k' a b c d p q r 1 w) (R4 a b c (IntKind.wrap .i64 (d+1)) w)) (Q a b c w)
def fo (Q:L3 WP):Nat->L3 (Int->WP)
 |0,_,_,_,_,_=>False
 |k+1,a,b,c,d,w=>gH Q (fo Q k) a b c d w
noncomputable def lT:cv:=[(6,sp 0 9 (.op 9 .done)),(11,sp 0 9 (.op 9 .done))]
def Ce {P4}(Q)(H4:Bk 61 Tryz.f198 (ji Q) 4 [(0,.l),(3,.i .i64)] P4):∀k,Bk 61 Tryz.f198 (ji Q) 9 [(0,.l),(3,.i .i64),(4,.l),(5,.i .i64)] (mu P4 Q k):=bK λk h=>aT (ok 61) lT [aM h]
def Cf (Q):∀k,Bk 61 Tryz.f198 (ji Q) 4 [(0,.l),(3,.i .i64)] (fo Q k):=bK λk h=>aT (ok 61) lT [aM h,ct (Ce Q h)]
def Bb:=λa b c w Q=>bB (lj a b c w Q) (cond (decide ((b:Int)<2)) (Q a b c w) (∃k',fo Q k' a b c 1 w)) (ok 61) lT [ct (Cf Q)] Tryz.func198
def ZE:=λa b c w Q=>bB (kG a b c w Q) (jh a b c w λd e f w=>kO d e f (.func (.func 197) #[] #[]) w λw=>lj d e f w λg i j w=>Q g i j w) (ok 9) [] [] Tryz.func176
def vl (P6:OA->OA->Int->Int->Int->L3 (L3 (Int->Int->WP)))(Q:L3 WP)(R9:OA->OA->Int->Int->Int->L3 (Int->L3 (Int->Int->L3 (Int->Int->WP))))(a b:OA)(c d e:Int)(f:OA)(g i:Nat)(j:Int)(l:OA)(m n:Nat)(o p:Int)(q:OA)(r s:Nat)(t u:Int)(w:World):Prop:=cond (decide (u<t)) (aJ u r<|wA q λv=>af .i64 ((v.add (u.toNat*2)).add 0) w λx=>af .i64 ((v.add (u.toNat*2)).add 1) w λy=>Al T 292 w λz w=>St (z.add 0) (ae x) w λw=>St (z.add 1) (ae y) w λw=>af .i64 z w λa1=>z_ b a1 w λb1 w=>cond (b1 !=1099511627776) (af .i64 z w.drew λc1=>af .i64 (z.add 1) w.drew λd1=>nj d e j w.drew λe1 w=>w.cell? (z.add 1)=some (ae d1)/\w.cell? z=some (ae c1)/\EL d e j c1 w λf1 w=>w.cell? (z.add 1)=some (ae d1)/\Bx [ae e1,ae f1,ae (IntKind.wrap .i64 (d1+b1))] 294 w λg1 w=>App P #[278,278] 278 (.slice f g i) (.slice (some g1) 1 1) w λi1 j1 l1 w=>R9 a b c d e i1 j1 l1 j l m n o p q r s t (IntKind.wrap .i64 (u+1)) w) (R9 a b c d e f g i j l m n o p q r s t (IntKind.wrap .i64 (u+1)) w)) (P6 a b c d e f g i l m n o (IntKind.wrap .i64 (p+1)) w)
def qU (P6:OA->OA->Int->Int->Int->L3 (L3 (Int->Int->WP)))(Q:L3 WP):Nat->OA->OA->Int->Int->Int->L3 (Int->L3 (Int->Int->L3 (Int->Int->WP)))
 |0,_,_,_,_,_,_,_,_,_,_,_,_,_,_,_,_,_,_,_,_=>False
 |k+1,a,b,c,d,e,f,g,i,j,l,m,n,o,p,q,r,s,t,u,w=>vl P6 Q (qU P6 Q k) a b c d e f g i j l m n o p q r s t u w
def vm (Q:L3 WP)(R6:OA->OA->Int->Int->Int->L3 (L3 (Int->Int->WP)))(a b:OA)(c d e:Int)(f:OA)(g i:Nat)(j:OA)(l m:Nat)(n o:Int)(w:World):Prop:=cond (decide (o<n)) (aJ o l<|wA j λp=>af .i64 (p.add (o.toNat*1)) w λq=>B2 a q w λr s t w=>∃k',qU R6 Q k' a b c d e f g i q j l m n o r s t (s:Int) 0 w) (x6 b w λu w=>dY d e u w λv w=>cond (v==c) (e_ a u w λx w=>cond (x !=255) (nj d e u w λy w=>Bx [ae y,ae 4,ae 0] 294 w λz w=>App P #[278,278] 278 (.slice f g i) (.slice (some z) 1 1) w λa1 b1 c1 w=>kG a1 b1 c1 w λd1 e1 f1 w=>Q d1 e1 f1 w) (kG f g i w λg1 i1 j1 w=>Q g1 i1 j1 w)) (kG f g i w λl1 m1 n1 w=>Q l1 m1 n1 w))
def n9 (Q:L3 WP):Nat->OA->OA->Int->Int->Int->L3 (L3 (Int->Int->WP))
 |0,_,_,_,_,_,_,_,_,_,_,_,_,_,_=>False
 |k+1,a,b,c,d,e,f,g,i,j,l,m,n,o,w=>vm Q (n9 Q k) a b c d e f g i j l m n o w
noncomputable def DG:cv:=[(13,sp 0 4 (sp 5 5 (sp 11 4 (.op 4 (.op 10 (.op 15 (.op 16 (.op 17 (.op 18 .done)))))))))]
def ZF {P6}(Q)(H6:Bk 96 Tryz.f162 (z9 Q) 6 [(0,.p),(1,.p),(2,.i .i64),(7,.i .i64),(8,.i .i64),(9,.l),(32,.l),(33,.i .i64),(34,.i .i64)] P6):∀k,Bk 96 Tryz.f162 (z9 Q) 9 [(0,.p),(1,.p),(2,.i .i64),(7,.i .i64),(8,.i .i64),(9,.l),(11,.i .i64),(32,.l),(33,.i .i64),(34,.i .i64),(40,.l),(41,.i .i64),(42,.i .i64)] (qU P6 Q k):=bK λk h=>aT (ok 96) DG [aM H6,aM h]
def ZG (Q):∀k,Bk 96 Tryz.f162 (z9 Q) 6 [(0,.p),(1,.p),(2,.i .i64),(7,.i .i64),(8,.i .i64),(9,.l),(32,.l),(33,.i .i64),(34,.i .i64)] (n9 Q k):=bK λk h=>aT (ok 96) DG [ct (ZF Q h)]
def VH:=λa b c w Q=>bB (B0 a b c w Q) (eM a w λd e w=>cond b.isNone (Q none 0 0 w) (wD b w λf w=>fZ a w λg w=>cond (f !=g) (Q none 0 0 w) (oq a c w λi j l w=>∃k',n9 Q k' a b c d e none 0 0 i j l (j:Int) 0 w))) (ok 96) DG [ct (ZG Q)] Tryz.func162
def MK:=λa b w Q=>bB (i_ a b w Q) (cond a.isNone (Q 0 w) (cond (decide (b<0)) (Q 0 w) (wA a λc=>aA (c.add 4) w λd e f=>cond (decide (b≥(e:Int))) (Q 0 w) (wA a λg=>aA (g.add 4) w λi j l=>aJ b j<|wA i λm=>af .i64 (m.add (b.toNat*1)) w λn=>Q n w)))) (ok 27) [] [] Tryz.func165
def qF (Q:L3 WP)(R5:OA->L3 (Int->Int->WP))(a b:OA)(c d:Nat)(e f:Int)(w:World):Prop:=cond (decide (f<e)) (wA a λg=>aA (g.add 1) w.drew λi j l=>aJ f j<|wA i λm=>af .i64 (m.add (f.toNat*3)) w.drew λn=>wA a λo=>bg o w.drew λp=>i_ p f w.drew λq w=>w.cell? (m.add (f.toNat*3))=some (ae n)/\w.cell? (g.add 1)=some (.slice i j l)/\cond (n !=q) (Bx [ae f] 3 w λr w=>App P #[29,29] 29 (.slice b c d) (.slice (some r) 1 1) w λs t u w=>R5 a s t u e (IntKind.wrap .i64 (f+1)) w) (R5 a b c d e (IntKind.wrap .i64 (f+1)) w)) (Q b c d w)
def nH (Q:L3 WP):Nat->OA->L3 (Int->Int->WP)
 |0,_,_,_,_,_,_,_=>False
 |k+1,a,b,c,d,e,f,w=>qF Q (nH Q k) a b c d e f w
noncomputable def Gg:cv:=[(1,sp 0 11 (.op 11 (sp 12 2 .done))),(7,sp 0 13 (.op 13 (.op 14 .done)))]
def Ut (Q):∀k,Bk 48 Tryz.f199 (G_ Q) 5 [(0,.p),(3,.l),(23,.i .i64),(24,.i .i64)] (nH Q k):=bK λk h=>aT (ok 48) Gg [aM h]
def Qi:=λa w Q=>bB (yZ a w Q) (cond a.isNone (Q none 0 0 w.drew) (wA a λb=>af .i64 (b.add 2) w.drew λc=>wA a λd=>bg d w.drew λe=>fZ e w.drew λf w=>w.cell? (b.add 2)=some (ae c)/\cond (c==f) (Q none 0 0 w) (wA a λg=>aA (g.add 1) w λi j l=>∃k',nH Q k' a none 0 0 (j:Int) 0 w))) (ok 48) Gg [ct (Ut Q)] Tryz.func199
def agx:=λa b c d e f w Q=>bB (Jw a b c d e f w Q) (Bx [ae a,ae b,.slice c d e] 84 w λg w=>cond (decide (f≥0)) (aA (g.add 2) w λi j l=>cond (decide (f<(j:Int))) (af .i64 (g.add 0) w λm=>af .i64 (g.add 1) w λn=>aA (g.add 2) w λo p q=>uO m n o p q w λr w=>Q r w) (Q false w)) (Q false w)) (ok 18) [] [] Tryz.func279
def agy:=λa b c d e f w Q=>bB (Jv a b c d e f w Q) (Bx [ae a,ae b,.slice c d e] 84 w λg w=>af .i64 (g.add 0) w λi=>af .i64 (g.add 1) w λj=>aA (g.add 2) w λl m n=>Jw i j l m n f w λo w=>cond (!o) (Q 0 w) (aA (g.add 2) w λp q r=>aJ f q<|wA p λs=>af .u8 (s.add (f.toNat*1)) w λt=>Q (IntKind.wrap .i64 t) w)) (ok 15) [] [] Tryz.func270
def AS (Q:Bool->WP)(R2:L3 (Addr->L3 (Int->Int->WP)))(a:OA)(b c:Nat)(d:Addr)(e:OA)(f g:Nat)(i j:Int)(w:World):Prop:=cond (decide (j<i)) (aJ j f<|wA e λl=>af .i64 (l.add (j.toNat*1)) w λm=>af .i64 (d.add 0) w λn=>af .i64 (d.add 1) w λo=>aA (d.add 2) w λp q r=>Jv n o p q r m w λs w=>cond (s==0) (Q false w) (cond (s==255) (Q false w) (cond (decide (j>0)) (aJ (IntKind.wrap .i64 (j-1)) b<|wA a λt=>af .i64 (t.add (((IntKind.wrap .i64 (j-1))).toNat*1)) w λu=>cond (decide (m<=u)) (Q false w) (R2 a b c d e f g i (IntKind.wrap .i64 (j+1)) w)) (R2 a b c d e f g i (IntKind.wrap .i64 (j+1)) w)))) (af .i64 (d.add 0) w λv=>af .i64 (d.add 1) w λx=>aA (d.add 2) w λy z a1=>uO v x y z a1 w λb1 w=>Q b1 w)
def wQ (Q:Bool->WP):Nat->L3 (Addr->L3 (Int->Int->WP))
 |0,_,_,_,_,_,_,_,_,_,_=>False
 |k+1,a,b,c,d,e,f,g,i,j,w=>AS Q (wQ Q k) a b c d e f g i j w
def agz (Q):∀k,Bk 40 Tryz.f254 (Ts Q) 2 [(1,.l),(2,.a),(8,.l),(9,.i .i64),(10,.i .i64)] (wQ Q k):=bK λk h=>aT (ok 40) [] [aM h]
def abp:=λa b c d e f g i w Q=>bB (Gb a b c d e f g i w Q) (Bx [ae a,ae b,.slice c d e] 84 w λj w=>∃k',wQ Q k' f g i j f g i (g:Int) 0 w) (ok 40) [] [ct (agz Q)] Tryz.func254
def gf (Q:Int->WP)(R2:L3 (Value->Int->Int->WP))(a:OA)(b c:Nat)(d:Value)(e f:Int)(w:World):Prop:=cond (decide (f<e)) (aJ f b<|wA a λg=>af .i64 ((g.add (f.toNat*3)).add 0) w λi=>af .i64 ((g.add (f.toNat*3)).add 1) w λj=>af .i64 ((g.add (f.toNat*3)).add 2) w λl=>h_ (cx 19) d [.agg #[ae i,ae j,ae l]] w λm w=>dB m λn=>cond n (Q f w) (R2 a b c d e (IntKind.wrap .i64 (f+1)) w)) (Q (-1) w)
def e7 (Q:Int->WP):Nat->L3 (Value->Int->Int->WP)
 |0,_,_,_,_,_,_,_=>False
 |k+1,a,b,c,d,e,f,w=>gf Q (e7 Q k) a b c d e f w
def Bc (Q):∀k,Bk 19 Tryz.f233 (qC Q) 2 [(0,.l),(1,.v),(7,.i .i64),(8,.i .i64)] (e7 Q k):=bK λk h=>aT (ok 19) [] [aM h]
def An:=λa b c d w Q=>bB (pC a b c d w Q) (∃k',e7 Q k' a b c d (b:Int) 0 w) (ok 19) [] [ct (Bc Q)] Tryz.func233
def yn:=λa b c d w Q=>bB (nY a b c d w Q) (pC a b c d w λe w=>Q (decide (e≥0)) w) (ok 9) [] [] Tryz.func209
noncomputable def adD:cv:=[(1,sp 0 8 (.op 8 (.op 9 .done)))]
def abq:=λa b c d e f g w Q=>bB (Ga a b c d e f g w Q) (Bx [ae a,ae b,.slice c d e] 84 w λi w=>af .i64 i w.drew λj=>NZ j<|af .i64 i w.drew λl=>NZ l<|w.drew.cell? i=some (ae l)/\cond (g==0) (Q ((IntKind.wrap .i64 (Int.tdiv f l))==0) w.drew) (cond (g==1) (af .i64 i w.drew λm=>Q ((Int.tmod f j)==(IntKind.wrap .i64 (m-1))) w.drew) (cond (g==2) (af .i64 (i.add 1) w.drew λn=>Q ((IntKind.wrap .i64 (Int.tdiv f l))==(IntKind.wrap .i64 (n-1))) w.drew) (cond (g==3) (Q ((Int.tmod f j)==0) w.drew) (Q (g==4) w.drew))))) (ok 42) adD [] Tryz.func211
def X2:=λa b c d w Q=>bB (DD a b c d w Q) (Bx [ae a,ae b,ae c] 294 w λe w=>af .i64 e w λf=>cond (decide (f<0)) (Q true w) (af .i64 e w λg=>wA d λi=>aA (i.add 2) w λj l m=>cond (decide (g≥(l:Int))) (Q true w) (wA d λn=>aA (n.add 2) w λo p q=>af .i64 e w λr=>aJ r p<|wA o λs=>af .u8 (s.add (r.toNat*1)) w λt=>cond (t==255) (Q true w) (af .i64 (e.add 2) w λu=>cond (decide (u<0)) (Q true w) (af .i64 (e.add 2) w λv=>cond (decide (v>1073741824)) (Q true w) (wA d λx=>af .i64 (x.add 0) w λy=>af .i64 (x.add 1) w λz=>aA (x.add 2) w λa1 b1 c1=>af .i64 e w λd1=>af .i64 (e.add 1) w λe1=>Ga y z a1 b1 c1 d1 e1 w λf1 w=>Q (!f1) w)))))) (ok 43) [] [] Tryz.func210
def abr:=λa b c d e f g i w Q=>bB (Bn a b c d e f g i w Q) (Bx [ae a,ae b,.slice c d e] 84 w λj w=>af .i64 (j.add 0) w λl=>af .i64 (j.add 1) w λm=>aA (j.add 2) w λn o p=>uO l m n o p w λq w=>cond (!q) (Q false w) (nY f g i (.func (.func 210) #[] #[.pointer (some j)]) w λr w=>Q (!r) w)) (ok 12) [] [] Tryz.func179
def adE:=λa w Q=>bB (CO a w Q) (cond (decide (a<0)) (Q none w) (cond (decide (a>1099511627776)) (Q none w) (Bx [ae a,ae 0,.slice none 0 0,ae 0,.slice none 0 0,ae 0,.slice none 0 0,ae 0,.slice none 0 0,ae 0,.slice none 0 0,ae 0,.slice none 0 0,ae 0,.slice none 0 0,ae 0,.slice none 0 0,ae 0,.slice none 0 0,ae 0,.slice none 0 0,ae 0,.slice none 0 0,ae 0,.slice none 0 0,ae 0,.slice none 0 0,ae 0,.slice none 0 0,ae 0,.slice none 0 0,ae 0,.slice none 0 0,ae 0,.slice none 0 0,ae 0,.slice none 0 0,ae 0,.slice none 0 0,ae 0,.slice none 0 0,ae 0,.slice none 0 0,ae 0,.slice none 0 0,ae 0,.slice none 0 0,ae 0,.slice none 0 0,ae 0,.slice none 0 0,ae 0,.slice none 0 0,ae 0,.slice none 0 0,ae 0,.slice none 0 0,ae 0,.slice none 0 0,ae 0,.slice none 0 0,ae 0,.slice none 0 0,ae 0,.slice none 0 0,ae 0,.slice none 0 0,ae 0,.slice none 0 0,ae 0,.slice none 0 0,ae 0,.slice none 0 0,ae 0,.slice none 0 0,ae 0,.slice none 0 0,ae 0,.slice none 0 0,ae 0,.slice none 0 0,ae 0,.slice none 0 0,ae 0,.slice none 0 0,ae 0,.slice none 0 0,ae 0,.slice none 0 0,ae 0,.slice none 0 0,ae 0,.slice none 0 0,ae 0,.slice none 0 0,ae 0,.slice none 0 0,ae 0,.slice none 0 0,ae 0,.slice none 0 0,ae 0,.slice none 0 0,ae 0,.slice none 0 0,ae 0,.slice none 0 0,ae 0,.slice none 0 0,ae 0,.slice none 0 0,ae 0,.slice none 0 0,ae 0,.slice none 0 0,ae 0,.slice none 0 0,ae 0,.slice none 0 0,ae 0,.slice none 0 0,ae 0,.slice none 0 0,ae 0,.slice none 0 0,ae 0,.slice none 0 0,ae 0,.slice none 0 0,ae 0,.slice none 0 0,ae 0,.slice none 0 0,ae 0,.slice none 0 0,ae 0,.slice none 0 0,ae 0,.slice none 0 0,ae 0,.slice none 0 0,ae 0,.slice none 0 0,ae 0,.slice none 0 0,ae 0,.slice none 0 0,ae 0,.slice none 0 0,ae 0,.slice none 0 0,ae 0,.slice none 0 0,ae 0,.slice none 0 0,ae 0,.slice none 0 0,ae 0,.slice none 0 0,ae 0,.slice none 0 0,ae 0,.slice none 0 0,ae 0,.slice none 0 0,ae 0,.slice none 0 0,ae 0,.slice none 0 0,ae 0,.slice none 0 0,ae 0,.slice none 0 0,ae 0,.slice none 0 0,ae 0,.slice none 0 0,ae 0,.slice none 0 0,ae 0,.slice none 0 0,ae 0,.slice none 0 0,ae 0,.slice none 0 0,ae 0,.slice none 0 0,ae 0,.slice none 0 0,ae 0,.slice none 0 0,ae 0,.slice none 0 0,ae 0,.slice none 0 0,ae 0,.slice none 0 0,ae 0,.slice none 0 0,ae 0,.slice none 0 0,ae 0,.slice none 0 0,ae 0,.slice none 0 0,ae 0,.slice none 0 0,ae 0,.slice none 0 0,ae 0,.slice none 0 0,ae 0,.slice none 0 0,ae 0,.slice none 0 0,ae 0,.slice none 0 0,ae 0,.slice none 0 0,ae 0,.slice none 0 0,ae 0,.slice none 0 0,ae 0,.slice none 0 0,ae 0,.slice none 0 0,ae 0,.slice none 0 0,ae 0,.slice none 0 0,ae 0,.slice none 0 0,ae 0,.slice none 0 0,ae 0,.slice none 0 0,ae 0,.slice none 0 0,ae 0,.slice none 0 0,ae 0,.slice none 0 0,ae 0,.slice none 0 0,ae 0,.slice none 0 0,ae 0,.slice none 0 0,ae 0,.slice none 0 0,ae 0,.slice none 0 0,ae 0,.slice none 0 0,ae 0,.slice none 0 0,ae 0,.slice none 0 0,ae 0,.slice none 0 0,ae 0,.slice none 0 0,ae 0,.slice none 0 0,ae 0,.slice none 0 0,ae 0,.slice none 0 0,ae 0,.slice none 0 0,ae 0,.slice none 0 0,ae 0,.slice none 0 0,ae 0,.slice none 0 0,ae 0,.slice none 0 0,ae 0,.slice none 0 0,ae 0,.slice none 0 0,ae 0,.slice none 0 0,ae 0,.slice none 0 0,ae 0,.slice none 0 0,ae 0,.slice none 0 0,ae 0,.slice none 0 0,ae 0,.slice none 0 0,ae 0,.slice none 0 0,ae 0,.slice none 0 0,ae 0,.slice none 0 0,ae 0,.slice none 0 0,ae 0,.slice none 0 0,ae 0,.slice none 0 0,ae 0,.slice none 0 0,ae 0,.slice none 0 0,ae 0,.slice none 0 0,ae 0,.slice none 0 0,ae 0,.slice none 0 0,ae 0,.slice none 0 0,ae 0,.slice none 0 0,ae 0,.slice none 0 0,ae 0,.slice none 0 0,ae 0,.slice none 0 0,ae 0,.slice none 0 0,ae 0,.slice none 0 0,ae 0,.slice none 0 0,ae 0,.slice none 0 0,ae 0,.slice none 0 0,ae 0,.slice none 0 0,ae 0,.slice none 0 0,ae 0,.slice none 0 0,ae 0,.slice none 0 0,ae 0,.slice none 0 0,ae 0,.slice none 0 0,ae 0,.slice none 0 0,ae 0,.slice none 0 0,ae 0,.slice none 0 0,ae 0,.slice none 0 0,ae 0,.slice none 0 0,ae 0,.slice none 0 0,ae 0,.slice none 0 0,ae 0,.slice none 0 0,ae 0,.slice none 0 0,ae 0,.slice none 0 0,ae 0,.slice none 0 0,ae 0,.slice none 0 0,ae 0,.slice none 0 0,ae 0,.slice none 0 0,ae 0,.slice none 0 0,ae 0,.slice none 0 0,ae 0,.slice none 0 0,ae 0,.slice none 0 0,ae 0,.slice none 0 0,ae 0,.slice none 0 0,ae 0,.slice none 0 0,ae 0,.slice none 0 0,ae 0,.slice none 0 0,ae 0,.slice none 0 0,ae 0,.slice none 0 0,ae 0,.slice none 0 0,ae 0,.slice none 0 0,ae 0,.slice none 0 0,ae 0,.slice none 0 0,ae 0,.slice none 0 0,ae 0,.slice none 0 0,ae 0,.slice none 0 0,ae 0,.slice none 0 0,ae 0,.slice none 0 0,ae 0,.slice none 0 0,ae 0,.slice none 0 0,ae 0,.slice none 0 0,ae 0,.slice none 0 0,ae 0,.slice none 0 0,ae 0,.slice none 0 0,ae 0,.slice none 0 0,ae 0,.slice none 0 0,ae 0,.slice none 0 0,ae 0,.slice none 0 0,ae 0,.slice none 0 0,ae 0,.slice none 0 0,ae 0,.slice none 0 0,ae 0,.slice none 0 0,ae 0,.slice none 0 0,ae 0,.slice none 0 0,ae 0,.slice none 0 0,ae 0,.slice none 0 0,ae 0,.slice none 0 0,ae 0,.slice none 0 0,ae 0,.slice none 0 0,ae 0,.slice none 0 0,ae 0,.slice none 0 0,ae 0,.slice none 0 0,ae 0,.slice none 0 0,ae 0,.slice none 0 0,ae 0,.slice none 0 0,ae 0,.slice none 0 0,ae 0,.slice none 0 0,ae 0,.slice none 0 0,ae 0,.slice none 0 0,ae 0,.slice none 0 0,ae 0,.slice none 0 0,ae 0,.slice none 0 0,ae 0,.slice none 0 0,ae 0,.slice none 0 0,ae 0,.slice none 0 0,ae 0,.slice none 0 0,ae 0,.slice none 0 0,ae 0,.slice none 0 0,ae 0,.slice none 0 0,ae 0,.slice none 0 0,ae 0,.slice none 0 0,ae 0,.slice none 0 0,ae 0,.slice none 0 0,ae 0,.slice none 0 0,ae 0,.slice none 0 0,ae 0,.slice none 0 0,ae 0] 388 w λb w=>Q (some b) w))) (ok 12) [] [] Tryz.func234
def lG (Q:L3 WP)(R8:L3 (Int->WP))(a:OA)(b c:Nat)(d:Int)(w:World):Prop:=cond (decide (d<(b:Int))) (bT a b c 1 (some d) none λe f g=>bT a b c 1 none (some d) λi j l=>cJ P #[29,29] 3 (.slice e f g) (.slice i j l) w.drew λm w=>R8 a b c (IntKind.wrap .i64 (d+m)) w) (Q a b c w)
def lH (Q:L3 WP):Nat->L3 (Int->WP)
 |0,_,_,_,_,_=>False
 |k+1,a,b,c,d,w=>lG Q (lH Q k) a b c d w
def ux (Q:L3 WP)(a:OA)(b c:Nat)(d:Int)(w:World):Prop:=False
noncomputable def sX:cv:=[(9,sp 0 7 (.op 7 (.op 8 (.op 9 .done))))]
def Bq (Q):∀k,Bk 48 Tryz.f235 (uj Q) 8 [(7,.l),(8,.i .i64)] (lH Q k):=bK λk h=>aT (ok 48) sX [aM h]
def Kh (Q):Bk 48 Tryz.f235 (uj Q) 5 [(0,.l),(6,.i .u64)] (ux Q):=aT (ok 48) sX [ct (Bq Q)]
def I1:=λa b c d w Q=>bB (kj a b c d w Q) (cond (decide (d<0)) (False) (qB (IntKind.wrap .u64 (b:Int)) (IntKind.wrap .u64 d) w λe f w=>cond (decide (e>0)) (ux Q a b c f w) (cond (decide (f>9223372036854775807)) (ux Q a b c f w) (cB P 29 (ae (IntKind.wrap .i64 f)) (ae (IntKind.wrap .i64 f)) w λg i j w=>cJ P #[29,29] 3 (.slice g i j) (.slice a b c) w λl w=>∃k',lH Q k' g i j l w)))) (ok 48) sX [aM (Kh Q),ct (Bq Q)] Tryz.func235
def Uu:=λa w Q=>bB (qE a w Q) (cond a.isNone (Q 0 w) (wA a λb=>af .i64 (b.add 1) w λc=>Q c w)) (ok 9) [] [] Tryz.func260
def Sg:=λa b w Q=>bB (Ah a b w Q) (cond a.isNone (Q false w) (wA a λc=>af .i64 (c.add 1) w λd=>cond (decide (d>0)) (Q false w) (wA a λe=>af .i64 e w λf=>cond (decide (b<f)) (Q false w) (cond (decide (b>1099511627776)) (Q false w) (wA a λg=>St g (ae b) w λw=>Q true w))))) (ok 30) [] [] Tryz.func272
def Qj:=λa b w Q=>bB (y_ a b w Q) (wA a λc=>aA c w λd e f=>Bx [ae b] 3 w λg w=>App P #[29,29] 29 (.slice d e f) (.slice (some g) 1 1) w λi j l w=>wA a λm=>St m (.slice i j l) w λw=>Q w) (ok 14) [] [] Tryz.func282
def Uv:=λa b c w Q=>bB (vL a b c w Q) (cond a.isNone (Q false w) (wA a λd=>af .i64 d w λe=>cond (decide (b<e)) (Q false w) (wA a λf=>af .i64 f w λg=>cond (decide ((IntKind.wrap .i64 (b-g))≥256)) (Q false w) (NZ 256<|wA a λi=>aJ (Int.tmod b 256) 256<|y_ (some ((i.add 2).add (((Int.tmod b 256)).toNat*2))) c w λw=>wA a λj=>af .i64 (j.add 1) w λl=>wA a λm=>St (m.add 1) (ae (IntKind.wrap .i64 (l+1))) w λw=>Q true w)))) (ok 41) [] [] Tryz.func273
def x9 (Q:WP)(R2:OA->WP)(a:OA)(w:World):Prop:=wA a λb=>aA (b.add 4) w.drew λc d e=>cond (decide ((d:Int)>0)) (wA a λf=>bg (f.add 3) w.drew λg=>wA a λi=>aA (i.add 4) w.drew λj l m=>aJ 0 l<|wA j λn=>af .i64 ((n.add (((0:Int).toNat)*3)).add 2) w.drew λo=>wA a λp=>aA (p.add 4) w.drew λq r s=>aJ 0 r<|wA q λt=>af .i64 (t.add (((0:Int).toNat)*3)) w.drew λu=>vL g o u w.drew λv w=>cond v (wA a λx=>aA (x.add 4) w λy z a1=>bT y z a1 3 (some 1) none λb1 c1 d1=>wA a λe1=>St (e1.add 4) (.slice b1 c1 d1) w λw=>R2 a w) (Q w)) (Q w.drew)
def gy (Q:WP):Nat->OA->WP
 |0,_,_=>False
 |k+1,a,w=>x9 Q (gy Q k) a w
noncomputable def Dl:cv:=[(1,sp 0 11 (.op 11 .done)),(2,sp 0 25 (.op 25 (.op 26 .done)))]
def OC (Q):∀k,Bk 63 Tryz.f259 (DY Q) 2 [(0,.p)] (gy Q k):=bK λk h=>aT (ok 63) Dl [aM h]
def Lm:=λa w Q=>bB (jM a w Q) (wA a λb=>aA (b.add 4) w λc d e=>cond (decide ((d:Int)>0)) (wA a λf=>bg (f.add 3) w λg=>qE g w λi w=>cond (i==0) (wA a λj=>bg (j.add 3) w.drew λl=>wA a λm=>aA (m.add 4) w.drew λn o p=>aJ 0 o<|wA n λq=>af .i64 ((q.add (((0:Int).toNat)*3)).add 2) w.drew λr=>Ah l r w.drew λs w=>∃k',gy Q k' a w) (∃k',gy Q k' a w)) (∃k',gy Q k' a w)) (ok 63) Dl [ct (OC Q)] Tryz.func259
noncomputable def OD:cv:=[(1,sp 0 10 (.op 10 .done))]
def ML:=λa w Q=>bB (qx a w Q) (wA a λb=>af .i64 (b.add 1) w.drew λc=>wA a λd=>aA d w.drew λe f g=>Q (c==(f:Int)) w.drew) (ok 13) OD [] Tryz.func274
noncomputable def Si:cv:=[(1,sp 0 10 (.op 10 .done))]
def Qk:=λa w Q=>bB (y8 a w Q) (wA a λb=>aA b w.drew λc d e=>wA a λf=>af .i64 (f.add 1) w.drew λg=>aJ g d<|wA c λi=>af .i64 (i.add (g.toNat*1)) w.drew λj=>wA a λl=>af .i64 (l.add 1) w.drew λm=>wA a λn=>St (n.add 1) (ae (IntKind.wrap .i64 (m+1))) w.drew λw=>qx a w λo w=>cond o (wA a λp=>aA p w λq r s=>bT q r s 1 none (some 0) λt u v=>wA a λx=>St x (.slice t u v) w λw=>wA a λy=>St (y.add 1) (ae 0) w λw=>Q j w) (Q j w)) (ok 35) Si [] Tryz.func275
def DH (Q:Int->Int->Bool->WP)(R3:OA->WP)(a:OA)(w:World):Prop:=wA a λb=>af .i64 b w.drew λc=>NZ 256<|wA a λd=>aJ (Int.tmod c 256) 256<|qx (some ((d.add 2).add (((Int.tmod c 256)).toNat*2))) w.drew λe w=>cond e (wA a λf=>af .i64 f w λg=>wA a λi=>St i (ae (IntKind.wrap .i64 (g+1))) w λw=>R3 a w) (wA a λj=>af .i64 (j.add 1) w λl=>wA a λm=>St (m.add 1) (ae (IntKind.wrap .i64 (l-1))) w λw=>wA a λn=>af .i64 n w.drew λo=>wA a λp=>af .i64 p w.drew λq=>NZ 256<|wA a λr=>aJ (Int.tmod q 256) 256<|y8 (some ((r.add 2).add (((Int.tmod q 256)).toNat*2))) w.drew λs w=>w.cell? n=some (ae o)/\Q o s true w)
def pV (Q:Int->Int->Bool->WP):Nat->OA->WP
 |0,_,_=>False
 |k+1,a,w=>DH Q (pV Q k) a w
noncomputable def I3:cv:=[(3,sp 0 9 (.op 9 .done)),(6,sp 0 13 (.op 13 (.op 14 (.op 15 (.op 16 .done)))))]
def X3 (Q):∀k,Bk 46 Tryz.f261 (JU Q) 3 [(0,.p)] (pV Q k):=bK λk h=>aT (ok 46) I3 [aM h]
def Uw:=λa w Q=>bB (A9 a w Q) (qE a w λb w=>cond (b==0) (Q 0 0 false w) (∃k',pV Q k' a w)) (ok 46) I3 [ct (X3 Q)] Tryz.func261
def Ki:=λa b c w Q=>bB (ir a b c w Q) (wA a λd=>aA (d.add 2) w λe f g=>aJ b f<|wA e λi=>af .u8 (i.add (b.toNat*1)) w λj=>cond (j !=255) (wA a λl=>aA (l.add 5) w λm n o=>aJ b n<|wA m λp=>af .i64 (p.add (b.toNat*1)) w λq=>cond (q==1099511627776) (wA a λr=>bg (r.add 3) w λs=>vL s c b w λt w=>Q w) (Q w)) (Q w)) (ok 32) [] [] Tryz.func276
def my (Q:WP)(a:OA)(b c d:Int)(w:World):Prop:=cond (decide (d>0)) (ir a (IntKind.wrap .i64 (b-1)) c w λw=>Q w) (Q w)
def pH (Q:WP)(a:OA)(b c d e:Int)(w:World):Prop:=wA a λf=>af .i64 (f.add 1) w λg=>cond (decide (e<(IntKind.wrap .i64 (g-1)))) (wA a λi=>af .i64 i w λj=>ir a (IntKind.wrap .i64 (b+j)) c w λw=>my Q a b c d w) (my Q a b c d w)
def pI (Q:WP)(a:OA)(b c d e:Int)(w:World):Prop:=wA a λf=>af .i64 f w λg=>cond (decide (d<(IntKind.wrap .i64 (g-1)))) (ir a (IntKind.wrap .i64 (b+1)) c w λw=>pH Q a b c d e w) (pH Q a b c d e w)
noncomputable def oT:cv:=[(0,sp 0 17 (.op 17 .done)),(1,sp 0 14 (.op 14 (.op 15 .done)))]
def Ln (Q):Bk 88 Tryz.f262 (pD Q) 8 [(0,.p),(1,.i .i64),(4,.i .i64),(5,.i .i64)] (my Q):=aT (ok 88) oT []
def Lo (Q):Bk 88 Tryz.f262 (pD Q) 6 [(0,.p),(1,.i .i64),(4,.i .i64),(5,.i .i64),(6,.i .i64)] (pH Q):=aT (ok 88) oT [aM (Ln Q)]
def Lp (Q):Bk 88 Tryz.f262 (pD Q) 4 [(0,.p),(1,.i .i64),(4,.i .i64),(5,.i .i64),(6,.i .i64)] (pI Q):=aT (ok 88) oT [aM (Lo Q)]
def JG:=λa b w Q=>bB (sU a b w Q) (wA a λc=>aA (c.add 5) w.drew λd e f=>aJ b e<|wA d λg=>af .i64 (g.add (b.toNat*1)) w.drew λi=>wA a λj=>aA (j.add 2) w.drew λl m n=>aJ b m<|wA l λo=>af .u8 (o.add (b.toNat*1)) w.drew λp=>wA a λq=>af .i64 q w.drew.drew λr=>NZ r<|wA a λs=>af .i64 s w.drew.drew λt=>NZ t<|w.drew.drew.cell? s=some (ae t)/\cond (decide ((IntKind.wrap .i64 (Int.tdiv b t))>0)) (wA a λu=>af .i64 u w.drew.drew λv=>ir a (IntKind.wrap .i64 (b-v)) (IntKind.wrap .i64 (i+(IntKind.wrap .i64 p))) w.drew.drew λw=>pI Q a b (IntKind.wrap .i64 (i+(IntKind.wrap .i64 p))) (Int.tmod b r) (IntKind.wrap .i64 (Int.tdiv b t)) w) (pI Q a b (IntKind.wrap .i64 (i+(IntKind.wrap .i64 p))) (Int.tmod b r) (IntKind.wrap .i64 (Int.tdiv b t)) w.drew.drew)) (ok 88) oT [aM (Lp Q)] Tryz.func262
def zm (Q:WP)(R1:OA->WP)(a:OA)(w:World):Prop:=wA a λb=>bg (b.add 3) w λc=>qE c w λd w=>cond (decide (d>0)) (wA a λe=>bg (e.add 3) w λf=>A9 f w λg i j w=>wA a λl=>aA (l.add 5) w λm n o=>aJ i n<|wA m λp=>af .i64 (p.add (i.toNat*1)) w λq=>cond (q==1099511627776) (wA a λr=>aA (r.add 5) w λs t u=>aJ i t<|wA s λv=>St (v.add (i.toNat*1)) (ae g) w λw=>sU a i w λw=>jM a w λw=>R1 a w) (jM a w λw=>R1 a w)) (Q w)
def jO (Q:WP):Nat->OA->WP
 |0,_,_=>False
 |k+1,a,w=>zm Q (jO Q k) a w
def Ql (Q):∀k,Bk 42 Tryz.f236 (Fi Q) 1 [(0,.p)] (jO Q k):=bK λk h=>aT (ok 42) [] [aM h]
def MM:=λa w Q=>bB (Dh a w Q) (jM a w λw=>∃k',jO Q k' a w) (ok 42) [] [ct (Ql Q)] Tryz.func236
def qV (Q:L3 (Int->WP))(a:Addr)(w:World):Prop:=Dh (some a) w λw=>aA (a.add 5) w λb c d=>Q b c d 0 w
noncomputable def JW:cv:=[(3,.op 0 (.op 2 (sp 5 3 (.br (.op 1 (.br (.op 3 (.op 4 (.op 8 (.op 9 (.op 10 (.op 11 .done)))))) (.op 4 (.op 3 (.op 8 (.op 9 (.op 10 (.op 11 .done)))))))) (.op 4 (.op 1 (.op 3 (.op 8 (.op 9 (.op 10 (.op 11 .done)))))))))))]
def ZH (Q):Bk 28 Tryz.f216 (Le Q) 4 [(6,.a)] (qV Q):=aT (ok 28) JW []
def VI:=λa b c d e f g i w Q=>bB (xe a b c d e f g i w Q) (Bx [ae a,ae b,.slice c d e] 84 w λj w=>af .i64 (j.add 0) w λl=>af .i64 (j.add 1) w λm=>aA (j.add 2) w λn o p=>Bn l m n o p f g i w λq w=>cond (!q) (Q none 0 0 1 w) (af .i64 (j.add 0) w.drew λr=>af .i64 (j.add 1) w.drew λs=>aA (j.add 2) w.drew λt u v=>aA (j.add 2) w.drew λx y z=>(CO 0 w.drew λa1 w=>w.cell? (j.add 2)=some (.slice x y z)/\w.cell? (j.add 0)=some (ae r)/\w.cell? (j.add 1)=some (ae s)/\w.cell? (j.add 2)=some (.slice t u v)/\(kG f g i w λb1 c1 d1 w=>w.cell? (j.add 2)=some (.slice x y z)/\w.cell? (j.add 0)=some (ae r)/\w.cell? (j.add 1)=some (ae s)/\w.cell? (j.add 2)=some (.slice t u v)/\Bx [ae 1099511627776] 3 w λe1 w=>w.cell? (j.add 2)=some (.slice x y z)/\w.cell? (j.add 0)=some (ae r)/\w.cell? (j.add 1)=some (ae s)/\w.cell? (j.add 2)=some (.slice t u v)/\kj (some e1) 1 1 (y:Int) w λf1 g1 i1 w=>w.cell? (j.add 0)=some (ae r)/\w.cell? (j.add 1)=some (ae s)/\w.cell? (j.add 2)=some (.slice t u v)/\Bx [ae r,ae s,.slice t u v,.pointer a1,.slice b1 c1 d1,.slice f1 g1 i1] 363 w λj1 w=>qV Q j1 w)/\(Bx [ae 1099511627776] 3 w λl1 w=>w.cell? (j.add 2)=some (.slice x y z)/\w.cell? (j.add 0)=some (ae r)/\w.cell? (j.add 1)=some (ae s)/\w.cell? (j.add 2)=some (.slice t u v)/\kG f g i w λm1 n1 o1 w=>w.cell? (j.add 2)=some (.slice x y z)/\w.cell? (j.add 0)=some (ae r)/\w.cell? (j.add 1)=some (ae s)/\w.cell? (j.add 2)=some (.slice t u v)/\kj (some l1) 1 1 (y:Int) w λp1 q1 r1 w=>w.cell? (j.add 0)=some (ae r)/\w.cell? (j.add 1)=some (ae s)/\w.cell? (j.add 2)=some (.slice t u v)/\Bx [ae r,ae s,.slice t u v,.pointer a1,.slice m1 n1 o1,.slice p1 q1 r1] 363 w λs1 w=>qV Q s1 w))/\(Bx [ae 1099511627776] 3 w.drew λt1 w=>w.cell? (j.add 2)=some (.slice x y z)/\w.cell? (j.add 0)=some (ae r)/\w.cell? (j.add 1)=some (ae s)/\w.cell? (j.add 2)=some (.slice t u v)/\CO 0 w λu1 w=>w.cell? (j.add 2)=some (.slice x y z)/\w.cell? (j.add 0)=some (ae r)/\w.cell? (j.add 1)=some (ae s)/\w.cell? (j.add 2)=some (.slice t u v)/\kG f g i w λv1 x1 y1 w=>w.cell? (j.add 2)=some (.slice x y z)/\w.cell? (j.add 0)=some (ae r)/\w.cell? (j.add 1)=some (ae s)/\w.cell? (j.add 2)=some (.slice t u v)/\kj (some t1) 1 1 (y:Int) w λz1 a2 b2 w=>w.cell? (j.add 0)=some (ae r)/\w.cell? (j.add 1)=some (ae s)/\w.cell? (j.add 2)=some (.slice t u v)/\Bx [ae r,ae s,.slice t u v,.pointer u1,.slice v1 x1 y1,.slice z1 a2 b2] 363 w λc2 w=>qV Q c2 w))) (ok 28) JW [aM (ZH Q)] Tryz.func216
def adF:=λa b c d e f w Q=>bB (HI a b c d e f w Q) (Bx [ae a,ae b,.slice c d e] 84 w λg w=>af .i64 (g.add 0) w λi=>af .i64 (g.add 1) w λj=>aA (g.add 2) w λl m n=>Bx [ae f,ae 4,ae 0] 294 w λo w=>xe i j l m n (some o) 1 1 w λp q r s w=>Q p q r s w) (ok 13) [] [] Tryz.func255
def xl (P6:L3 (Addr->Int->L3 (L3 (Int->Int->WP))))(Q:L3 (Int->WP))(R10:L3 (Addr->Int->L3 (Int->L3 (L3 (Int->Int->L3 (Int->Int->WP))))))(a:OA)(b c:Nat)(d:Addr)(e:Int)(f:OA)(g i:Nat)(j:Int)(l:OA)(m n:Nat)(o:OA)(p q:Nat)(r s:Int)(t:OA)(u v:Nat)(x y:Int)(w:World):Prop:=cond (decide (y<x)) (aJ y u<|wA t λz=>af .i64 (z.add (y.toNat*1)) w λa1=>aJ a1 m<|wA l λb1=>af .i64 (b1.add (a1.toNat*1)) w λc1=>aJ (IntKind.wrap .i64 ((IntKind.wrap .i64 (y*e))+j)) g<|wA f λd1=>St (d1.add (((IntKind.wrap .i64 ((IntKind.wrap .i64 (y*e))+j))).toNat*1)) (ae c1) w λw=>R10 a b c d e f g i j l m n o p q r s t u v x (IntKind.wrap .i64 (y+1)) w) (P6 a b c d e f g i o p q r (IntKind.wrap .i64 (s+1)) w)
def sv (P6:L3 (Addr->Int->L3 (L3 (Int->Int->WP))))(Q:L3 (Int->WP)):Nat->L3 (Addr->Int->L3 (Int->L3 (L3 (Int->Int->L3 (Int->Int->WP)))))
 |0=>λ_ _ _ _ _ _ _ _ _ _ _ _ _ _ _ _ _ _ _ _ _ _ _=>False
 |k+1=>λa b c d e f g i j l m n o p q r s t u v x y w=>xl P6 Q (sv P6 Q k) a b c d e f g i j l m n o p q r s t u v x y w
def zn (Q:L3 (Int->WP))(R6:L3 (Addr->Int->L3 (L3 (Int->Int->WP))))(a:OA)(b c:Nat)(d:Addr)(e:Int)(f:OA)(g i:Nat)(j:OA)(l m:Nat)(n o:Int)(w:World):Prop:=cond (decide (o<n)) (aJ o l<|wA j λp=>af .i64 (p.add (o.toNat*1)) w λq=>af .i64 (d.add 0) w λr=>af .i64 (d.add 1) w λs=>aA (d.add 2) w λt u v=>HI r s t u v q w λx y z a1 w=>∃k',sv R6 Q k' a b c d e f g i o x y z j l m n o a b c (b:Int) 0 w) (Q f g i 0 w)
def qW (Q:L3 (Int->WP)):Nat->L3 (Addr->Int->L3 (L3 (Int->Int->WP)))
 |0,_,_,_,_,_,_,_,_,_,_,_,_,_,_=>False
 |k+1,a,b,c,d,e,f,g,i,j,l,m,n,o,w=>zn Q (qW Q k) a b c d e f g i j l m n o w
def abt {P6}(Q)(H6:Bk 58 Tryz.f227 (CN Q) 6 [(1,.l),(2,.a),(6,.i .i64),(7,.l),(24,.l),(25,.i .i64),(26,.i .i64)] P6):∀k,Bk 58 Tryz.f227 (CN Q) 10 [(1,.l),(2,.a),(6,.i .i64),(7,.l),(8,.i .i64),(10,.l),(24,.l),(25,.i .i64),(26,.i .i64),(37,.l),(38,.i .i64),(39,.i .i64)] (sv P6 Q k):=bK λk h=>aT (ok 58) [] [aM H6,aM h]
def adG (Q):∀k,Bk 58 Tryz.f227 (CN Q) 6 [(1,.l),(2,.a),(6,.i .i64),(7,.l),(24,.l),(25,.i .i64),(26,.i .i64)] (qW Q k):=bK λk h=>aT (ok 58) [] [ct (abt Q h)]
def ZI:=λa b c d e f g i w Q=>bB (ES a b c d e f g i w Q) (Bx [ae a,ae b,.slice c d e] 84 w λj w=>af .i64 (j.add 0) w λl=>af .i64 (j.add 1) w λm=>aA (j.add 2) w λn o p=>Gb l m n o p f g i w λq w=>cond (!q) (Q none 0 0 1 w) (cB P 29 (ae (IntKind.wrap .i64 ((g:Int)*(g:Int)))) (ae (IntKind.wrap .i64 ((g:Int)*(g:Int)))) w λr s t w=>∃k',qW Q k' f g i j (g:Int) r s t f g i (g:Int) 0 w)) (ok 58) [] [ct (adG Q)] Tryz.func227
def qG (Q:Int->L3 (L3 WP))(R13:Addr->Addr->L3 (Int->Int->WP))(a b:Addr)(c:OA)(d e:Nat)(f g:Int)(w:World):Prop:=cond (decide (g<f)) (aJ g d<|wA c λi=>af .i64 (i.add (g.toNat*1)) w λj=>aA (b.add 2) w λl m n=>aJ g m<|wA l λo=>St (o.add (g.toNat*1)) (.int .i32 (-1)) w λw=>cond (j !=1099511627776) (aA (b.add 2) w λp q r=>aJ g q<|wA p λs=>St (s.add (g.toNat*1)) (.int .i32 (IntKind.wrap .i32 j)) w λw=>R13 a b c d e f (IntKind.wrap .i64 (g+1)) w) (R13 a b c d e f (IntKind.wrap .i64 (g+1)) w)) (af .i64 (b.add 0) w λt=>aA (b.add 1) w λu v x=>aA (b.add 2) w λy z a1=>St (a.add 0) (ae t) w λw=>St (a.add 1) (.slice u v x) w λw=>St (a.add 2) (.slice y z a1) w λw=>af .i64 (a.add 0) w λb1=>aA (a.add 1) w λc1 d1 e1=>aA (a.add 2) w λf1 g1 i1=>Q b1 c1 d1 e1 f1 g1 i1 w)
def lz (Q:Int->L3 (L3 WP)):Nat->Addr->Addr->L3 (Int->Int->WP)
 |0,_,_,_,_,_,_,_,_=>False
 |k+1,a,b,c,d,e,f,g,w=>qG Q (lz Q k) a b c d e f g w
def rQ (Q:Int->L3 (L3 WP))(R6:Addr->Int->Int->Addr->Addr->L3 (L3 (Int->Int->WP)))(a:Addr)(b c:Int)(d e:Addr)(f:OA)(g i:Nat)(j:OA)(l m:Nat)(n o:Int)(w:World):Prop:=cond (decide (o<n)) (aJ o l<|wA j λp=>af .i64 (p.add (o.toNat*1)) w λq=>nj b c q w λr w=>Bx [ae r] 3 w λs w=>App P #[29,29] 29 (.slice f g i) (.slice (some s) 1 1) w λt u v w=>R6 a b c d e t u v j l m n (IntKind.wrap .i64 (o+1)) w) (af .i64 (d.add 0) w λx=>af .i64 (d.add 1) w λy=>aA (d.add 2) w λz a1 b1=>ES x y z a1 b1 f g i w λc1 d1 e1 f1 w=>cB P 296 (ae (d1:Int)) (ae (d1:Int)) w λg1 i1 j1 w=>St (e.add 2) (.slice g1 i1 j1) w λw=>∃k',lz Q k' a e c1 d1 e1 (d1:Int) 0 w)
def oz (Q:Int->L3 (L3 WP)):Nat->Addr->Int->Int->Addr->Addr->L3 (L3 (Int->Int->WP))
 |0,_,_,_,_,_,_,_,_,_,_,_,_,_,_=>False
 |k+1,a,b,c,d,e,f,g,i,j,l,m,n,o,w=>rQ Q (oz Q k) a b c d e f g i j l m n o w
def rR (Q:Int->L3 (L3 WP))(a:Addr)(b c:Int)(d e:Addr)(w:World):Prop:=aA (e.add 1) w λf g i=>∃k',oz Q k' a b c d e none 0 0 f g i (g:Int) 0 w
noncomputable def vQ:cv:=[(3,sp 0 5 (sp 6 5 (.br (.op 5 (.br (.op 11 (.op 12 (.op 13 (.op 14 .done)))) (.op 13 (.op 11 (.op 12 (.op 14 .done)))))) (.op 13 (.op 5 (.op 11 (.op 12 (.op 14 .done))))))))]
def Ux (Q):∀k,Bk 93 Tryz.f200 (w_ Q) 13 [(4,.a),(9,.a),(72,.l),(73,.i .i64),(74,.i .i64)] (lz Q k):=bK λk h=>aT (ok 93) vQ [aM h]
def VJ (Q):∀k,Bk 93 Tryz.f200 (w_ Q) 6 [(4,.a),(5,.i .i64),(6,.i .i64),(7,.a),(9,.a),(10,.l),(48,.l),(49,.i .i64),(50,.i .i64)] (oz Q k):=bK λk h=>aT (ok 93) vQ [aM h,ct (Ux Q)]
def VK (Q):Bk 93 Tryz.f200 (w_ Q) 4 [(4,.a),(5,.i .i64),(6,.i .i64),(7,.a),(9,.a)] (rR Q):=aT (ok 93) vQ [ct (VJ Q)]
def Sj:=λa b w Q=>bB (Ab a b w Q) (Al T 319 w λc w=>wA a λd=>bg d w λe=>eM e w λf g w=>wA a λi=>bg i w λj=>tX j b w λl m n o p q w=>Al T 84 w λr w=>St (r.add 0) (ae l) w λw=>St (r.add 1) (ae m) w λw=>St (r.add 2) (.slice n o p) w λw=>wA a λs=>bg s w.drew λt=>wA a λu=>bg u w.drew λv=>(i_ t b w.drew λx w=>w.cell? u=some (.pointer v)/\(oq v b w λy z a1 w=>Al T 319 w λb1 w=>w.cell? u=some (.pointer v)/\w.cell? s=some (.pointer t)/\St (b1.add 0) (ae x) w λw=>St (b1.add 1) (.slice y z a1) w λw=>St (b1.add 2) (.slice none 0 0) w λw=>rR Q c f g r b1 w)/\(Al T 319 w λc1 w=>w.cell? u=some (.pointer v)/\w.cell? s=some (.pointer t)/\oq v b w λd1 e1 f1 w=>St (c1.add 0) (ae x) w λw=>St (c1.add 1) (.slice d1 e1 f1) w λw=>St (c1.add 2) (.slice none 0 0) w λw=>rR Q c f g r c1 w))/\(Al T 319 w.drew λg1 w=>w.cell? u=some (.pointer v)/\w.cell? s=some (.pointer t)/\i_ t b w λi1 w=>w.cell? u=some (.pointer v)/\oq v b w λj1 l1 m1 w=>St (g1.add 0) (ae i1) w λw=>St (g1.add 1) (.slice j1 l1 m1) w λw=>St (g1.add 2) (.slice none 0 0) w λw=>rR Q c f g r g1 w)) (ok 93) vQ [aM (VK Q)] Tryz.func200
def oA (Q:Int->WP)(R5:OA->L3 (L3 (Int->Int->WP)))(a b:OA)(c d:Nat)(e:OA)(f g:Nat)(i j:Int)(w:World):Prop:=cond (decide (j<i)) (aJ j f<|wA e λl=>af .i64 (l.add (j.toNat*1)) w λm=>wA a λn=>aA (n.add 1) w.drew λo p q=>Ab a m w.drew λr s t u v x y w=>w.cell? (n.add 1)=some (.slice o p q)/\(aJ m p<|wA o λz=>St ((z.add (m.toNat*3)).add 0) (ae r) w λw=>St ((z.add (m.toNat*3)).add 1) (.slice s t u) w λw=>St ((z.add (m.toNat*3)).add 2) (.slice v x y) w λw=>wA a λa1=>af .u64 (a1.add 3) w λb1=>r7 b1 1 w λc1 w=>wA a λd1=>St (d1.add 3) (.int .u64 c1) w λw=>R5 a b c d e f g i (IntKind.wrap .i64 (j+1)) w)) (wA a λe1=>bg e1 w λf1=>fZ f1 w λg1 w=>wA a λi1=>St (i1.add 2) (ae g1) w λw=>Q (c:Int) w)
def lY (Q:Int->WP):Nat->OA->L3 (L3 (Int->Int->WP))
 |0,_,_,_,_,_,_,_,_,_,_=>False
 |k+1,a,b,c,d,e,f,g,i,j,w=>oA Q (lY Q k) a b c d e f g i j w
noncomputable def D4:cv:=[(7,sp 0 7 (.op 7 (.op 8 (.op 9 .done))))]
def Qm (Q):∀k,Bk 44 Tryz.f177 (Fh Q) 5 [(0,.p),(3,.l),(10,.l),(11,.i .i64),(12,.i .i64)] (lY Q k):=bK λk h=>aT (ok 44) D4 [aM h]
def MN:=λa w Q=>bB (wE a w Q) (cond a.isNone (Q 0 w) (yZ a w λb c d w=>∃k',lY Q k' a b c d b c d (c:Int) 0 w)) (ok 44) D4 [ct (Qm Q)] Tryz.func177
def jB (Q:L3 WP)(R8:L3 (Int->WP))(a:OA)(b c:Nat)(d:Int)(w:World):Prop:=cond (decide (d<(b:Int))) (bT a b c 1 (some d) none λe f g=>bT a b c 1 none (some d) λi j l=>cJ P #[296,296] 3 (.slice e f g) (.slice i j l) w.drew λm w=>R8 a b c (IntKind.wrap .i64 (d+m)) w) (Q a b c w)
def jC (Q:L3 WP):Nat->L3 (Int->WP)
 |0,_,_,_,_,_=>False
 |k+1,a,b,c,d,w=>jB Q (jC Q k) a b c d w
def qh (Q:L3 WP)(a:OA)(b c:Nat)(d:Int)(w:World):Prop:=False
noncomputable def pJ:cv:=[(9,sp 0 7 (.op 7 (.op 8 (.op 9 .done))))]
def yf (Q):∀k,Bk 48 Tryz.f201 (qg Q) 8 [(7,.l),(8,.i .i64)] (jC Q k):=bK λk h=>aT (ok 48) pJ [aM h]
def G5 (Q):Bk 48 Tryz.f201 (qg Q) 5 [(0,.l),(6,.i .u64)] (qh Q):=aT (ok 48) pJ [ct (yf Q)]
def FM:=λa b c d w Q=>bB (oX a b c d w Q) (cond (decide (d<0)) (False) (qB (IntKind.wrap .u64 (b:Int)) (IntKind.wrap .u64 d) w λe f w=>cond (decide (e>0)) (qh Q a b c f w) (cond (decide (f>9223372036854775807)) (qh Q a b c f w) (cB P 296 (ae (IntKind.wrap .i64 f)) (ae (IntKind.wrap .i64 f)) w λg i j w=>cJ P #[296,296] 3 (.slice g i j) (.slice a b c) w λl w=>∃k',jC Q k' g i j l w)))) (ok 48) pJ [aM (G5 Q),ct (yf Q)] Tryz.func201
def adH:=λw Q=>bB (CM w Q) (Bx [.slice none 0 0] 351 w λa w=>Q (some a) w) (ok 3) [] [] Tryz.func202
def Qn:=λa b c d w Q=>bB (sq a b c d w Q) (Bx [ae a,ae b] 353 w λe w=>Bx [ae c,ae d] 353 w λf w=>af .i64 e w λg=>af .i64 f w λi=>cond (decide (g<i)) (Q true w) (af .i64 e w λj=>af .i64 f w λl=>cond (j==l) (af .i64 (e.add 1) w λm=>af .i64 (f.add 1) w λn=>Q (decide (m<n)) w) (Q false w))) (ok 24) [] [] Tryz.func256
def vo (Q:WP)(R1:OA->Int->WP)(a:OA)(b:Int)(w:World):Prop:=cond (decide (b>0)) (NZ 2<|wA a λc=>aA c w.drew λd e f=>aJ b e<|wA d λg=>af .i64 ((g.add (b.toNat*2)).add 0) w.drew λi=>af .i64 ((g.add (b.toNat*2)).add 1) w.drew λj=>wA a λl=>aA l w.drew λm n o=>aJ (IntKind.wrap .i64 (Int.tdiv (IntKind.wrap .i64 (b-1)) 2)) n<|wA m λp=>af .i64 ((p.add (((IntKind.wrap .i64 (Int.tdiv (IntKind.wrap .i64 (b-1)) 2))).toNat*2)).add 0) w.drew λq=>af .i64 ((p.add (((IntKind.wrap .i64 (Int.tdiv (IntKind.wrap .i64 (b-1)) 2))).toNat*2)).add 1) w.drew λr=>sq i j q r w.drew λs w=>cond (!s) (Q w) (wA a λt=>aA t w.drew λu v x=>wA a λy=>aA y w.drew λz a1 b1=>wA a λc1=>aA c1 w.drew λd1 e1 f1=>aJ (IntKind.wrap .i64 (Int.tdiv (IntKind.wrap .i64 (b-1)) 2)) e1<|wA d1 λg1=>af .i64 ((g1.add (((IntKind.wrap .i64 (Int.tdiv (IntKind.wrap .i64 (b-1)) 2))).toNat*2)).add 0) w.drew λi1=>af .i64 ((g1.add (((IntKind.wrap .i64 (Int.tdiv (IntKind.wrap .i64 (b-1)) 2))).toNat*2)).add 1) w.drew λj1=>wA a λl1=>aA l1 w.drew λm1 n1 o1=>aJ b n1<|wA m1 λp1=>af .i64 ((p1.add (b.toNat*2)).add 0) w.drew λq1=>af .i64 ((p1.add (b.toNat*2)).add 1) w.drew λr1=>aJ b v<|wA u λs1=>St ((s1.add (b.toNat*2)).add 0) (ae i1) w.drew λw=>St ((s1.add (b.toNat*2)).add 1) (ae j1) w λw=>aJ (IntKind.wrap .i64 (Int.tdiv (IntKind.wrap .i64 (b-1)) 2)) a1<|wA z λt1=>St ((t1.add (((IntKind.wrap .i64 (Int.tdiv (IntKind.wrap .i64 (b-1)) 2))).toNat*2)).add 0) (ae q1) w λw=>St ((t1.add (((IntKind.wrap .i64 (Int.tdiv (IntKind.wrap .i64 (b-1)) 2))).toNat*2)).add 1) (ae r1) w λw=>R1 a (IntKind.wrap .i64 (Int.tdiv (IntKind.wrap .i64 (b-1)) 2)) w)) (Q w)
def qX (Q:WP):Nat->OA->Int->WP
 |0,_,_,_=>False
 |k+1,a,b,w=>vo Q (qX Q k) a b w
noncomputable def JX:cv:=[(3,sp 0 14 (.op 14 (.op 15 .done))),(4,sp 0 25 (.op 25 (.op 26 (.op 27 .done))))]
def ZJ (Q):∀k,Bk 58 Tryz.f228 (Lg Q) 1 [(0,.p),(2,.i .i64)] (qX Q k):=bK λk h=>aT (ok 58) JX [aM h]
def VL:=λa w Q=>bB (B6 a w Q) (wA a λb=>aA b w λc d e=>∃k',qX Q k' a (IntKind.wrap .i64 ((d:Int)-1)) w) (ok 58) JX [ct (ZJ Q)] Tryz.func228
def Sk:=λa b c w Q=>bB (mP a b c w Q) (cond a.isNone (Q w) (wA a λd=>aA d w λe f g=>Bx [ae b,ae c] 353 w λi w=>App P #[349,349] 349 (.slice e f g) (.slice (some i) 1 1) w λj l m w=>wA a λn=>St n (.slice j l m) w λw=>B6 a w λw=>Q w)) (ok 22) [] [] Tryz.func206
def Uy:=λa w Q=>bB (A8 a w Q) (cond a.isNone (Q 0 w) (wA a λb=>aA b w λc d e=>Q (d:Int) w)) (ok 10) [] [] Tryz.func257
noncomputable def VM:cv:=[(3,sp 0 14 (.op 14 (.op 15 (.op 16 .done))))]
def Uz:=λa w Q=>bB (A7 a w Q) (A8 a w λb w=>cond (b==0) (Q 0 0 false w) (wA a λc=>aA c w.drew λd e f=>aJ 0 e<|wA d λg=>af .i64 (g.add (((0:Int).toNat)*2)) w.drew λi=>wA a λj=>aA j w.drew λl m n=>aJ 0 m<|wA l λo=>af .i64 ((o.add (((0:Int).toNat)*2)).add 1) w.drew λp=>w.drew.cell? ((o.add (((0:Int).toNat)*2)).add 1)=some (ae p)/\w.drew.cell? j=some (.slice l m n)/\Q i p true w.drew)) (ok 22) VM [] Tryz.func229
def oB (P1:OA->Int->WP)(Q:WP)(a:OA)(b c:Int)(w:World):Prop:=cond (c==b) (Q w) (wA a λd=>aA d w.drew λe f g=>wA a λi=>aA i w.drew λj l m=>wA a λn=>aA n w.drew λo p q=>aJ c p<|wA o λr=>af .i64 ((r.add (c.toNat*2)).add 0) w.drew λs=>af .i64 ((r.add (c.toNat*2)).add 1) w.drew λt=>wA a λu=>aA u w.drew λv x y=>aJ b x<|wA v λz=>af .i64 ((z.add (b.toNat*2)).add 0) w.drew λa1=>af .i64 ((z.add (b.toNat*2)).add 1) w.drew λb1=>aJ b f<|wA e λc1=>St ((c1.add (b.toNat*2)).add 0) (ae s) w.drew λw=>St ((c1.add (b.toNat*2)).add 1) (ae t) w λw=>aJ c l<|wA j λd1=>St ((d1.add (c.toNat*2)).add 0) (ae a1) w λw=>St ((d1.add (c.toNat*2)).add 1) (ae b1) w λw=>P1 a c w)
def mz (P1:OA->Int->WP)(Q:WP)(R3:OA->Int->Int->Int->WP)(a:OA)(b c d:Int)(w:World):Prop:=cond (decide (d<=(IntKind.wrap .i64 ((IntKind.wrap .i64 (2*b))+2)))) (wA a λe=>aA e w λf g i=>cond (decide (d<(g:Int))) (wA a λj=>aA j w.drew λl m n=>aJ d m<|wA l λo=>af .i64 ((o.add (d.toNat*2)).add 0) w.drew λp=>af .i64 ((o.add (d.toNat*2)).add 1) w.drew λq=>wA a λr=>aA r w.drew λs t u=>aJ c t<|wA s λv=>af .i64 ((v.add (c.toNat*2)).add 0) w.drew λx=>af .i64 ((v.add (c.toNat*2)).add 1) w.drew λy=>sq p q x y w.drew λz w=>cond z (R3 a b d (IntKind.wrap .i64 (d+1)) w) (R3 a b c (IntKind.wrap .i64 (d+1)) w)) (oB P1 Q a b c w)) (oB P1 Q a b c w)
def mA (P1:OA->Int->WP)(Q:WP):Nat->OA->Int->Int->Int->WP
 |0,_,_,_,_,_=>False
 |k+1,a,b,c,d,w=>mz P1 Q (mA P1 Q k) a b c d w
def xm (Q:WP)(R1:OA->Int->WP)(a:OA)(b:Int)(w:World):Prop:=∃k',mA R1 Q k' a b b (IntKind.wrap .i64 ((IntKind.wrap .i64 (2*b))+1)) w
def oC (Q:WP):Nat->OA->Int->WP
 |0,_,_,_=>False
 |k+1,a,b,w=>xm Q (oC Q k) a b w
noncomputable def vS:cv:=[(5,sp 0 14 (.op 14 .done)),(8,sp 0 25 (.op 25 (.op 26 (.op 27 .done))))]
def VN {P1}(Q)(H1:Bk 71 Tryz.f230 (ou Q) 1 [(0,.p),(2,.i .i64)] P1):Bk 71 Tryz.f230 (ou Q) 7 [(0,.p),(2,.i .i64),(3,.i .i64)] (oB P1 Q):=aT (ok 71) vS [aM H1]
def VO {P1}(Q)(H1:Bk 71 Tryz.f230 (ou Q) 1 [(0,.p),(2,.i .i64)] P1):∀k,Bk 71 Tryz.f230 (ou Q) 3 [(0,.p),(2,.i .i64),(3,.i .i64),(4,.i .i64)] (mA P1 Q k):=bK λk h=>aT (ok 71) vS [aM h,aM (VN Q H1)]
def VP (Q):∀k,Bk 71 Tryz.f230 (ou Q) 1 [(0,.p),(2,.i .i64)] (oC Q k):=bK λk h=>aT (ok 71) vS [ct (VO Q h)]
def Sm:=λa w Q=>bB (Af a w Q) (∃k',oC Q k' a 0 w) (ok 71) vS [ct (VP Q)] Tryz.func230
def yA (Q:Int->Int->Bool->WP)(a b:Int)(c:Bool)(w:World):Prop:=Q a b c w
noncomputable def I4:cv:=[(4,sp 0 12 (.op 12 .done))]
def X4 (Q):Bk 45 Tryz.f207 (DC Q) 7 [(2,.i .i64),(3,.i .i64),(4,.b)] (yA Q):=aT (ok 45) I4 []
def UA:=λa w Q=>bB (jE a w Q) (A7 a w λb c d w=>cond d (wA a λe=>aA e w λf g i=>wA a λj=>aA j w.drew λl m n=>wA a λo=>aA o w.drew λp q r=>aJ (IntKind.wrap .i64 ((g:Int)-1)) q<|wA p λs=>af .i64 ((s.add (((IntKind.wrap .i64 ((g:Int)-1))).toNat*2)).add 0) w.drew λt=>af .i64 ((s.add (((IntKind.wrap .i64 ((g:Int)-1))).toNat*2)).add 1) w.drew λu=>aJ 0 m<|wA l λv=>St ((v.add (((0:Int).toNat)*2)).add 0) (ae t) w.drew λw=>St ((v.add (((0:Int).toNat)*2)).add 1) (ae u) w λw=>wA a λx=>aA x w λy z a1=>bT y z a1 2 none (some (IntKind.wrap .i64 ((g:Int)-1))) λb1 c1 d1=>wA a λe1=>St e1 (.slice b1 c1 d1) w λw=>Af a w λw=>yA Q b c d w) (yA Q b c d w)) (ok 45) I4 [aM (X4 Q)] Tryz.func207
def m7 (P8:OA->Int->Int->Int->ON->OA->Int->Int->Bool->WP)(Q:ON->WP)(a:OA)(b c d:Int)(e:ON)(f:OA)(w:World):Prop:=jE f w λg i j w=>P8 a b c d e f g i j w
def mB (P8:OA->Int->Int->Int->ON->OA->Int->Int->Bool->WP)(Q:ON->WP)(Yx:OA->Int->Int->Int->ON->OA->Int->Int->Int->WP)(a:OA)(b c d:Int)(e:ON)(f:OA)(g i j:Int)(w:World):Prop:=cond (decide (j<=3)) (l_ c d i j w λl w=>cond (decide (l<0)) (Yx a b c d e f g i (IntKind.wrap .i64 (j+1)) w) (dY c d l w λm w=>dY c d b w λn w=>cond (m !=n) (Yx a b c d e f g i (IntKind.wrap .i64 (j+1)) w) (wA a λo=>bg (o.add 1) w λp=>e_ p l w λq w=>cond (q==255) (Yx a b c d e f g i (IntKind.wrap .i64 (j+1)) w) (wA a λr=>bg (r.add 1) w λs=>e_ s i w λt w=>mP f (IntKind.wrap .i64 (g+t)) l w λw=>Yx a b c d e f g i (IntKind.wrap .i64 (j+1)) w)))) (m7 P8 Q a b c d e f w)
def iJ (P8:OA->Int->Int->Int->ON->OA->Int->Int->Bool->WP)(Q:ON->WP):Nat->OA->Int->Int->Int->ON->OA->Int->Int->Int->WP
 |0,_,_,_,_,_,_,_,_,_,_=>False
 |k+1,a,b,c,d,e,f,g,i,j,w=>mB P8 Q (iJ P8 Q k) a b c d e f g i j w
def jb (Q:ON->WP)(R8:OA->Int->Int->Int->ON->OA->Int->Int->Bool->WP)(a:OA)(b c d:Int)(e:ON)(f:OA)(g i:Int)(j:Bool)(w:World):Prop:=cond j (aL P (Instr.lookup 207 (.map e) (ae i) true) w λl w=>dT l λm=>dG m λn o=>dI .i64 n λp=>dG o λq r=>dB q λs=>kM r<|cond s (m7 R8 Q a b c d e f w) (bD P (Instr.mapUpdate 207 (.map e) (ae i) (ae g)) w λw=>∃k',iJ R8 Q k' a b c d e f g i 0 w)) (Q e w)
def jc (Q:ON->WP):Nat->OA->Int->Int->Int->ON->OA->Int->Int->Bool->WP
 |0,_,_,_,_,_,_,_,_,_,_=>False
 |k+1,a,b,c,d,e,f,g,i,j,w=>jb Q (jc Q k) a b c d e f g i j w
def Dm {P8}(Q)(H8:Bk 103 Tryz.f203 (kz Q) 8 [(0,.p),(1,.i .i64),(5,.i .i64),(6,.i .i64),(7,.m),(8,.p),(9,.i .i64),(10,.i .i64),(11,.b)] P8):Bk 103 Tryz.f203 (kz Q) 9 [(0,.p),(1,.i .i64),(5,.i .i64),(6,.i .i64),(7,.m),(8,.p)] (m7 P8 Q):=aT (ok 103) [] [aM H8]
def Lq {P8}(Q)(H8:Bk 103 Tryz.f203 (kz Q) 8 [(0,.p),(1,.i .i64),(5,.i .i64),(6,.i .i64),(7,.m),(8,.p),(9,.i .i64),(10,.i .i64),(11,.b)] P8):∀k,Bk 103 Tryz.f203 (kz Q) 14 [(0,.p),(1,.i .i64),(5,.i .i64),(6,.i .i64),(7,.m),(8,.p),(9,.i .i64),(10,.i .i64),(14,.i .i64)] (iJ P8 Q k):=bK λk h=>aT (ok 103) [] [aM (Dm Q H8),aM h]
def MO (Q):∀k,Bk 103 Tryz.f203 (kz Q) 8 [(0,.p),(1,.i .i64),(5,.i .i64),(6,.i .i64),(7,.m),(8,.p),(9,.i .i64),(10,.i .i64),(11,.b)] (jc Q k):=bK λk h=>aT (ok 103) [] [aM (Dm Q h),ct (Lq Q h)]
def Kj:=λa b w Q=>bB (t_ a b w Q) (wA a λc=>bg (c.add 1) w λd=>eM d w λe f w=>cz P 207 none w λg w=>wA a λi=>bg (i.add 1) w λj=>e_ j b w λl w=>cond (l==255) (Q g w) (CM w λm w=>mP m 0 b w λw=>jE m w λn o p w=>∃k',jc Q k' a b e f g m n o p w)) (ok 103) [] [ct (MO Q)] Tryz.func203
def JH:=λa b c w Q=>bB (kP a b c w Q) (cond a.isNone (Q none 0 0 w) (Bx [] 3 w λd w=>App P #[29,29] 29 (.slice (some d) 0 0) (.slice a b c) w λe f g w=>Q e f g w)) (ok 8) [] [] Tryz.func215
def Qp:=λa b w Q=>bB (y6 a b w Q) (cond a.isNone (Q none 0 0 w) (cond (decide (b<0)) (Q none 0 0 w) (wA a λc=>aA (c.add 1) w λd e f=>cond (decide (b≥(e:Int))) (Q none 0 0 w) (wA a λg=>aA (g.add 1) w λi j l=>aJ b j<|wA i λm=>aA ((m.add (b.toNat*3)).add 1) w λn o p=>kP n o p w λq r s w=>Q q r s w)))) (ok 29) [] [] Tryz.func204
def OE:=λa b c w Q=>bB (ry a b c w Q) (wA a λd=>aA (d.add 2) w λe f g=>aJ b f<|wA e λi=>af .i32 (i.add (b.toNat*1)) w λj=>cond (decide (c≥(IntKind.wrap .i64 j))) (Q false w) (wA a λl=>aA (l.add 2) w λm n o=>aJ b n<|wA m λp=>St (p.add (b.toNat*1)) (.int .i32 (IntKind.wrap .i32 c)) w λw=>Q true w)) (ok 25) [] [] Tryz.func205
def VQ:=λa b w Q=>bB (IW a b w Q) (qD a w λc w=>cond c (qD b w λd w=>cond (!d) (Q true w) (Q (decide (a<b)) w)) (Q (decide (a<b)) w)) (ok 17) [] [] Tryz.func280
def OF:=λa w Q=>bB (nO a w Q) (Q (a !=a) w) (ok 6) [] [] Tryz.func281
def iW (Q:Int->Bool->WP)(R3:L3 (Int->Int->Int->Int->WP))(a:OA)(b c:Nat)(d e f g:Int)(w:World):Prop:=cond (decide (f<g)) (DS 1<|aJ (IntKind.wrap .i64 (o7 .u64 (IntKind.wrap .u64 (IntKind.wrap .i64 (f+g))) 1)) b<|wA a λi=>af .i64 (i.add (((IntKind.wrap .i64 (o7 .u64 (IntKind.wrap .u64 (IntKind.wrap .i64 (f+g))) 1))).toNat*1)) w λj=>IW j d w λl w=>cond l (R3 a b c d e (IntKind.wrap .i64 ((IntKind.wrap .i64 (o7 .u64 (IntKind.wrap .u64 (IntKind.wrap .i64 (f+g))) 1))+1)) g w) (R3 a b c d e f (IntKind.wrap .i64 (o7 .u64 (IntKind.wrap .u64 (IntKind.wrap .i64 (f+g))) 1)) w)) (cond (decide (f<e)) (aJ f b<|wA a λm=>af .i64 (m.add (f.toNat*1)) w λn=>cond (n==d) (Q f true w) (aJ f b<|wA a λo=>af .i64 (o.add (f.toNat*1)) w λp=>nO p w λq w=>cond q (nO d w λr w=>Q f r w) (Q f false w))) (Q f false w))
def gB (Q:Int->Bool->WP):Nat->L3 (Int->Int->Int->Int->WP)
 |0,_,_,_,_,_,_,_,_=>False
 |k+1,a,b,c,d,e,f,g,w=>iW Q (gB Q k) a b c d e f g w
def FN (Q):∀k,Bk 54 Tryz.f271 (v7 Q) 3 [(0,.l),(1,.i .i64),(6,.i .i64),(7,.i .i64),(8,.i .i64)] (gB Q k):=bK λk h=>aT (ok 54) [] [aM h]
def D5:=λa b c d w Q=>bB (nN a b c d w Q) (∃k',gB Q k' a b c d (b:Int) 0 (b:Int) w) (ok 54) [] [ct (FN Q)] Tryz.func271
def Qq:=λa b w Q=>bB (Fl a b w Q) (wA a λc=>aA (c.add 1) w λd e f=>nN d e f b w λg i w=>Q g i w) (ok 14) [] [] Tryz.func258
def Sn:=λa b w Q=>bB (uh a b w Q) (cond a.isNone (Q none 0 false w) (wA a λc=>bg c w λd=>eM d w λe f w=>dY e f b w λg w=>cond (decide (g<0)) (Q none 0 false w) (wA a λi=>aA (i.add 1) w λj l m=>aJ g l<|wA j λn=>Fl (some (n.add (g.toNat*3))) b w λo p w=>Q (some (n.add (g.toNat*3))) o p w))) (ok 44) [] [] Tryz.func231
noncomputable def OG:cv:=[(1,sp 0 15 (.op 15 .done))]
def MP:=λa b c w Q=>bB (wF a b c w Q) (wA a λd=>aA (d.add 2) w.drew λe f g=>wA a λi=>aA (i.add 1) w.drew λj l m=>aJ (IntKind.wrap .i64 ((IntKind.wrap .i64 (b*(l:Int)))+c)) f<|wA e λn=>af .i32 (n.add (((IntKind.wrap .i64 ((IntKind.wrap .i64 (b*(l:Int)))+c))).toNat*1)) w.drew λo=>cond (o !=(-1)) (Q (IntKind.wrap .i64 o) w.drew) (Q 1099511627776 w.drew)) (ok 27) OG [] Tryz.func232
def qH (Q:L3 WP)(Yx:OA->Int->OA->L3 (Int->Int->Int->WP))(a:OA)(b:Int)(c d:OA)(e f:Nat)(g i j:Int)(w:World):Prop:=cond (decide (j<=3)) (l_ g i b j w λl w=>uh a l w λm n o w=>cond o (bW P .neq 354 (.tmp 89) (.tmp 90) (.pointer m) (.pointer c) w λp w=>cond p (wA a λq=>bg q w λr=>e_ r b w λs w=>Bx [ae l,ae s] 292 w λt w=>App P #[289,289] 289 (.slice d e f) (.slice (some t) 1 1) w λu v x w=>Yx a b c u v x g i (IntKind.wrap .i64 (j+1)) w) (Yx a b c d e f g i (IntKind.wrap .i64 (j+1)) w)) (Yx a b c d e f g i (IntKind.wrap .i64 (j+1)) w)) (Q d e f w)
def lA (Q:L3 WP):Nat->OA->Int->OA->L3 (Int->Int->Int->WP)
 |0,_,_,_,_,_,_,_,_,_,_=>False
 |k+1,a,b,c,d,e,f,g,i,j,w=>qH Q (lA Q k) a b c d e f g i j w
def rS (Q:L3 WP)(R6:OA->Int->OA->Int->L3 (L3 (Int->Int->WP)))(a:OA)(b:Int)(c:OA)(d:Int)(e:OA)(f g:Nat)(i:OA)(j l:Nat)(m n:Int)(w:World):Prop:=cond (decide (n<m)) (aJ n j<|wA i λo=>af .i64 (o.add (n.toNat*1)) w λp=>wF c n d w λq w=>cond (n !=d) (cond (q !=1099511627776) (Bx [ae p,ae q] 292 w λr w=>App P #[289,289] 289 (.slice e f g) (.slice (some r) 1 1) w λs t u w=>R6 a b c d s t u i j l m (IntKind.wrap .i64 (n+1)) w) (R6 a b c d e f g i j l m (IntKind.wrap .i64 (n+1)) w)) (R6 a b c d e f g i j l m (IntKind.wrap .i64 (n+1)) w)) (wA a λv=>bg v w λx=>eM x w λy z w=>∃k',lA Q k' a b c e f g y z 0 w)
def mC (Q:L3 WP):Nat->OA->Int->OA->Int->L3 (L3 (Int->Int->WP))
 |0,_,_,_,_,_,_,_,_,_,_,_,_,_=>False
 |k+1,a,b,c,d,e,f,g,i,j,l,m,n,w=>rS Q (mC Q k) a b c d e f g i j l m n w
def UB (Q):∀k,Bk 105 Tryz.f208 (B4 Q) 14 [(0,.p),(1,.i .i64),(5,.p),(8,.l),(12,.i .i64),(13,.i .i64),(14,.i .i64)] (lA Q k):=bK λk h=>aT (ok 105) [] [aM h]
def VR (Q):∀k,Bk 105 Tryz.f208 (B4 Q) 6 [(0,.p),(1,.i .i64),(5,.p),(6,.i .i64),(8,.l),(38,.l),(39,.i .i64),(40,.i .i64)] (mC Q k):=bK λk h=>aT (ok 105) [] [aM h,ct (UB Q)]
def So:=λa b w Q=>bB (Ac a b w Q) (uh a b w λc d e w=>cond (!e) (Q none 0 0 w) (wA c λf=>aA (f.add 1) w λg i j=>cB P 289 (ae 0) (ae (IntKind.wrap .i64 ((i:Int)+1))) w λl m n w=>wA c λo=>aA (o.add 1) w λp q r=>∃k',mC Q k' a b c d l m n p q r (q:Int) 0 w)) (ok 105) [] [ct (VR Q)] Tryz.func208
def mD (tB:OA->Addr->OA->Int->Int->Bool->WP)(Q:OA->WP)(a:OA)(b:Addr)(c:OA)(w:World):Prop:=jE c w λd e f w=>tB a b c d e f w
def mE (tB:OA->Addr->OA->Int->Int->Bool->WP)(Q:OA->WP)(R17:OA->Addr->OA->Int->L3 (Int->Int->WP))(a:OA)(b:Addr)(c:OA)(d:Int)(e:OA)(f g:Nat)(i j:Int)(w:World):Prop:=cond (decide (j<i)) (aJ j f<|wA e λl=>af .i64 ((l.add (j.toNat*2)).add 0) w λm=>af .i64 ((l.add (j.toNat*2)).add 1) w λn=>Al T 292 w λo w=>St (o.add 0) (ae m) w λw=>St (o.add 1) (ae n) w λw=>af .i64 o w λp=>af .i64 (o.add 1) w λq=>ry (some b) p (IntKind.wrap .i64 (d+q)) w λr w=>cond r (af .i64 (o.add 1) w λs=>af .i64 o w λt=>mP c (IntKind.wrap .i64 (d+s)) t w λw=>R17 a b c d e f g i (IntKind.wrap .i64 (j+1)) w) (R17 a b c d e f g i (IntKind.wrap .i64 (j+1)) w)) (mD tB Q a b c w)
def jP (tB:OA->Addr->OA->Int->Int->Bool->WP)(Q:OA->WP):Nat->OA->Addr->OA->Int->L3 (Int->Int->WP)
 |0,_,_,_,_,_,_,_,_,_,_=>False
 |k+1,a,b,c,d,e,f,g,i,j,w=>mE tB Q (jP tB Q k) a b c d e f g i j w
def iK (Q:OA->WP)(R13:OA->Addr->OA->Int->Int->Bool->WP)(a:OA)(b:Addr)(c:OA)(d e:Int)(f:Bool)(w:World):Prop:=cond f (aA (b.add 2) w λg i j=>aJ e i<|wA g λl=>af .i32 (l.add (e.toNat*1)) w λm=>cond (decide (d>(IntKind.wrap .i64 m))) (mD R13 Q a b c w) (wA a λn=>bg n w λo=>Ac o e w λp q r w=>∃k',jP R13 Q k' a b c d p q r (q:Int) 0 w)) (Q (some b) w)
def iL (Q:OA->WP):Nat->OA->Addr->OA->Int->Int->Bool->WP
 |0,_,_,_,_,_,_,_=>False
 |k+1,a,b,c,d,e,f,w=>iK Q (iL Q k) a b c d e f w
def m8 (Q:OA->WP)(R6:OA->Addr->OA->ON->L3 (Int->Int->WP))(a:OA)(b:Addr)(c:OA)(d:ON)(e:OA)(f g:Nat)(i j:Int)(w:World):Prop:=cond (decide (j<i)) (aJ j f<|wA e λl=>af .i64 (l.add (j.toNat*1)) w λm=>aL P (Instr.lookup 207 (.map d) (ae m) true) w λn w=>dT n λo=>dG o λp q=>dI .i64 p λr=>dG q λs t=>dB s λu=>kM t<|cond u (ry (some b) m r w λv w=>cond v (mP c r m w λw=>R6 a b c d e f g i (IntKind.wrap .i64 (j+1)) w) (R6 a b c d e f g i (IntKind.wrap .i64 (j+1)) w)) (R6 a b c d e f g i (IntKind.wrap .i64 (j+1)) w)) (jE c w λx y z w=>∃k',iL Q k' a b c x y z w)
def jd (Q:OA->WP):Nat->OA->Addr->OA->ON->L3 (Int->Int->WP)
 |0,_,_,_,_,_,_,_,_,_,_=>False
 |k+1,a,b,c,d,e,f,g,i,j,w=>m8 Q (jd Q k) a b c d e f g i j w
noncomputable def mF:cv:=[(5,sp 0 7 (.op 10 (.op 7 (.op 8 (.op 9 .done)))))]
def Cg {tB}(Q)(H13:Bk 128 Tryz.f178 (ja Q) 13 [(0,.p),(7,.a),(8,.p),(14,.i .i64),(15,.i .i64),(16,.b)] tB):Bk 128 Tryz.f178 (ja Q) 14 [(0,.p),(7,.a),(8,.p)] (mD tB Q):=aT (ok 128) mF [aM H13]
def Lt {tB}(Q)(H13:Bk 128 Tryz.f178 (ja Q) 13 [(0,.p),(7,.a),(8,.p),(14,.i .i64),(15,.i .i64),(16,.b)] tB):∀k,Bk 128 Tryz.f178 (ja Q) 17 [(0,.p),(7,.a),(8,.p),(14,.i .i64),(104,.l),(105,.i .i64),(106,.i .i64)] (jP tB Q k):=bK λk h=>aT (ok 128) mF [aM (Cg Q H13),aM h]
def Lu (Q):∀k,Bk 128 Tryz.f178 (ja Q) 13 [(0,.p),(7,.a),(8,.p),(14,.i .i64),(15,.i .i64),(16,.b)] (iL Q k):=bK λk h=>aT (ok 128) mF [aM (Cg Q h),ct (Lt Q h)]
def MQ (Q):∀k,Bk 128 Tryz.f178 (ja Q) 6 [(0,.p),(7,.a),(8,.p),(9,.m),(52,.l),(53,.i .i64),(54,.i .i64)] (jd Q k):=bK λk h=>aT (ok 128) mF [aM h,ct (Lu Q)]
def Kk:=λa b w Q=>bB (tY a b w Q) (wA a λc=>bg (c.add 1) w λd=>eM d w λe f w=>wA a λg=>bg (g.add 1) w λi=>fZ i w λj w=>Bx [.int .i32 2147483647] 21 w λl w=>oX (some l) 1 1 (IntKind.wrap .i64 (e*f)) w λm n o w=>Bx [ae b,ae j,.slice m n o] 298 w λp w=>CM w λq w=>t_ a b w λr w=>wA a λs=>bg s w.drew λt=>dY e f b w.drew λu w=>w.cell? s=some (.pointer t)/\y6 t u w λv x y w=>∃k',jd Q k' a p q r v x y (x:Int) 0 w) (ok 128) mF [ct (MQ Q)] Tryz.func178
def zo (Q:OA->WP)(a:OA)(w:World):Prop:=wA a λb=>bg (b.add 2) w λc=>Q c w
def oD (Q:OA->WP)(a:OA)(b:Int)(w:World):Prop:=tY a b w λc w=>wA a λd=>St (d.add 2) (.pointer c) w λw=>wA a λe=>af .u64 (e.add 3) w λf=>r7 f 1 w λg w=>wA a λi=>St (i.add 3) (.int .u64 g) w λw=>zo Q a w
noncomputable def x_:cv:=[(4,sp 0 28 (.op 28 (sp 29 2 .done)))]
def Fs (Q):Bk 70 Tryz.f163 (yX Q) 7 [(0,.p)] (zo Q):=aT (ok 70) x_ []
def Qr (Q):Bk 70 Tryz.f163 (yX Q) 5 [(0,.p),(1,.i .i64)] (oD Q):=aT (ok 70) x_ [aM (Fs Q)]
def MR:=λa b w Q=>bB (wC a b w Q) (cond a.isNone (Q none w) (wA a λc=>bg (c.add 1) w λd=>e_ d b w λe w=>cond (e==0) (Q none w) (wA a λf=>bg f w λg=>wE g w λi w=>wA a λj=>bg (j.add 2) w.drew λl=>cond l.isNone (oD Q a b w.drew) (wA a λm=>bg (m.add 2) w.drew λn=>wA n λo=>af .i64 o w.drew λp=>cond (p !=b) (oD Q a b w.drew) (wA a λq=>bg (q.add 2) w.drew λr=>wA r λs=>af .i64 (s.add 1) w.drew λt=>wA a λu=>bg (u.add 1) w.drew λv=>fZ v w.drew λx w=>w.cell? (s.add 1)=some (ae t)/\w.cell? (q.add 2)=some (.pointer r)/\cond (t !=x) (oD Q a b w) (zo Q a w)))))) (ok 70) x_ [aM (Qr Q),aM (Fs Q)] Tryz.func163
def xo (Q:WP)(a:OA)(b:Addr)(w:World):Prop:=af .i64 (b.add 3) w λc=>cond (c==(-1)) (af .i64 (b.add 2) w λd=>wA a λe=>St (e.add 4) (ae d) w λw=>Q w) (wA a λf=>aA (f.add 1) w.drew λg i j=>af .i64 (b.add 3) w.drew λl=>af .i64 (b.add 2) w.drew λm=>aJ l i<|wA g λn=>St ((n.add (l.toNat*4)).add 2) (ae m) w.drew λw=>Q w)
noncomputable def Hh:cv:=[(3,sp 0 10 (.op 10 .done)),(6,sp 0 10 (.op 10 .done))]
def VS (Q):Bk 48 Tryz.f212 (IV Q) 4 [(0,.p),(4,.a)] (xo Q):=aT (ok 48) Hh []
def Sp:=λa b w Q=>bB (ug a b w Q) (wA a λc=>aA (c.add 1) w λd e f=>aJ b e<|wA d λg=>af .i64 ((g.add (b.toNat*4)).add 0) w λi=>af .i64 ((g.add (b.toNat*4)).add 1) w λj=>af .i64 ((g.add (b.toNat*4)).add 2) w λl=>af .i64 ((g.add (b.toNat*4)).add 3) w λm=>Al T 334 w λn w=>St (n.add 0) (ae i) w λw=>St (n.add 1) (ae j) w λw=>St (n.add 2) (ae l) w λw=>St (n.add 3) (ae m) w λw=>af .i64 (n.add 2) w λo=>cond (o==(-1)) (af .i64 (n.add 3) w λp=>wA a λq=>St (q.add 3) (ae p) w λw=>xo Q a n w) (wA a λr=>aA (r.add 1) w.drew λs t u=>af .i64 (n.add 2) w.drew λv=>af .i64 (n.add 3) w.drew λx=>aJ v t<|wA s λy=>St ((y.add (v.toNat*4)).add 3) (ae x) w.drew λw=>xo Q a n w)) (ok 48) Hh [aM (VS Q)] Tryz.func212
def Ao (Q:WP)(a:OA)(b:Int)(w:World):Prop:=wA a λc=>St (c.add 3) (ae b) w λw=>Q w
noncomputable def JY:cv:=[(0,sp 0 16 (.op 16 (sp 17 2 (.op 19 .done)))),(3,sp 0 11 (.op 11 .done))]
def ZK (Q):Bk 46 Tryz.f213 (Lc Q) 4 [(0,.p),(1,.i .i64)] (Ao Q):=aT (ok 46) JY []
def VT:=λa b w Q=>bB (xd a b w Q) (wA a λc=>aA (c.add 1) w.drew λd e f=>wA a λg=>aA (g.add 1) w.drew λi j l=>wA a λm=>af .i64 (m.add 3) w.drew λn=>aJ b e<|wA d λo=>St ((o.add (b.toNat*4)).add 2) (ae (-1)) w.drew λw=>aJ b j<|wA i λp=>St ((p.add (b.toNat*4)).add 3) (ae n) w λw=>wA a λq=>af .i64 (q.add 3) w λr=>cond (r==(-1)) (wA a λs=>St (s.add 4) (ae b) w λw=>Ao Q a b w) (wA a λt=>aA (t.add 1) w.drew λu v x=>wA a λy=>af .i64 (y.add 3) w.drew λz=>aJ z v<|wA u λa1=>St ((a1.add (z.toNat*4)).add 2) (ae b) w.drew λw=>Ao Q a b w)) (ok 46) JY [aM (ZK Q)] Tryz.func213
def n_ (Q:Int->Bool->Bool->WP)(a:OA)(b:Int)(c d:Bool)(e:Addr)(w:World):Prop:=wA a λf=>cu (f.add 2) w.drew λg=>af .i64 (e.add 0) w.drew λi=>af .i64 (e.add 1) w.drew λj=>bD P (Instr.mapUpdate 180 (.map g) (.agg #[ae i,ae j]) (ae b)) w.drew λw=>xd a b w λw=>Q b c d w
noncomputable def Lv:cv:=[(4,sp 0 5 (.op 5 (sp 6 3 (.op 9 (.op 10 .done))))),(7,sp 0 12 (.op 12 .done)),(8,sp 0 8 (.op 8 .done)),(11,sp 0 10 (.op 10 .done)),(13,sp 0 7 (.op 7 (.op 8 (sp 9 2 (.op 11 .done))))),(14,sp 0 6 (.op 6 .done))]
def ZL (Q):Bk 95 Tryz.f180 (Np Q) 14 [(0,.p),(6,.i .i64),(7,.b),(8,.b),(9,.a)] (n_ Q):=aT (ok 95) Lv []
def X5:=λa b c w Q=>bB (Dy a b c w Q) (cond a.isNone (Q (-1) false false w) (Al T 253 w λd w=>St (d.add 0) (ae b) w λw=>St (d.add 1) (ae c) w λw=>wA a λe=>cu (e.add 2) w.drew λf=>af .i64 (d.add 0) w.drew λg=>af .i64 (d.add 1) w.drew λi=>aL P (Instr.lookup 180 (.map f) (.agg #[ae g,ae i]) true) w.drew λj w=>dT j λl=>dG l λm n=>dI .i64 m λo=>dG n λp q=>dB p λr=>kM q<|cond r (ug a o w λw=>n_ Q a o r false d w) (wA a λs=>aA (s.add 1) w.drew λt u v=>wA a λx=>af .i64 x w.drew λy=>cond (decide ((u:Int)<y)) (wA a λz=>aA (z.add 1) w.drew λa1 b1 c1=>wA a λd1=>aA (d1.add 1) w.drew.drew λe1 f1 g1=>af .i64 (d.add 0) w.drew.drew λi1=>af .i64 (d.add 1) w.drew.drew λj1=>Bx [ae i1,ae j1,ae 0,ae 0] 334 w.drew.drew λl1 w=>w.cell? (d1.add 1)=some (.slice e1 f1 g1)/\App P #[179,179] 179 (.slice e1 f1 g1) (.slice (some l1) 1 1) w λm1 n1 o1 w=>wA a λp1=>St (p1.add 1) (.slice m1 n1 o1) w λw=>n_ Q a (b1:Int) r false d w) (wA a λq1=>af .i64 (q1.add 4) w.drew λr1=>ug a r1 w.drew λw=>wA a λs1=>cu (s1.add 2) w.drew λt1=>wA a λu1=>aA (u1.add 1) w.drew λv1 x1 y1=>aJ r1 x1<|wA v1 λz1=>af .i64 ((z1.add (r1.toNat*4)).add 0) w.drew λa2=>af .i64 ((z1.add (r1.toNat*4)).add 1) w.drew λb2=>aL P (Builtin.delete_ #[180,253] 0 [.map t1,.agg #[ae a2,ae b2]].toArray) w.drew λc2 w=>wA a λd2=>aA (d2.add 1) w.drew λe2 f2 g2=>af .i64 (d.add 0) w.drew λi2=>af .i64 (d.add 1) w.drew λj2=>aJ r1 f2<|wA e2 λl2=>St ((l2.add (r1.toNat*4)).add 0) (ae i2) w.drew λw=>St ((l2.add (r1.toNat*4)).add 1) (ae j2) w λw=>n_ Q a r1 r true d w)))) (ok 95) Lv [aM (ZL Q)] Tryz.func180
def g6 (Q:Bool->WP)(R4:L3 (L3 (Int->Int->WP)))(a:OA)(b c:Nat)(d:OA)(e f:Nat)(g i:Int)(w:World):Prop:=cond (decide (i<g)) (aJ i b<|wA a λj=>af .i64 ((j.add (i.toNat*3)).add 0) w.drew λl=>af .i64 ((j.add (i.toNat*3)).add 1) w.drew λm=>af .i64 ((j.add (i.toNat*3)).add 2) w.drew λn=>aJ i e<|wA d λo=>af .i64 ((o.add (i.toNat*3)).add 0) w.drew λp=>af .i64 ((o.add (i.toNat*3)).add 1) w.drew λq=>af .i64 ((o.add (i.toNat*3)).add 2) w.drew λr=>bW P .neq 294 (.tmp 19) (.tmp 23) (.agg #[ae l,ae m,ae n]) (.agg #[ae p,ae q,ae r]) w.drew λs w=>cond s (Q false w) (R4 a b c d e f g (IntKind.wrap .i64 (i+1)) w)) (Q true w)
def fQ (Q:Bool->WP):Nat->L3 (L3 (Int->Int->WP))
 |0,_,_,_,_,_,_,_,_,_=>False
 |k+1,a,b,c,d,e,f,g,i,w=>g6 Q (fQ Q k) a b c d e f g i w
noncomputable def sw:cv:=[(6,sp 0 8 (.op 8 .done))]
def DI (Q):∀k,Bk 26 Tryz.f214 (tf Q) 4 [(0,.l),(1,.l),(12,.i .i64),(13,.i .i64)] (fQ Q k):=bK λk h=>aT (ok 26) sw [aM h]
def Ch:=λa b c d e f w Q=>bB (rN a b c d e f w Q) (cond ((b:Int) !=(e:Int)) (Q false w) (∃k',fQ Q k' a b c d e f (b:Int) 0 w)) (ok 26) sw [ct (DI Q)] Tryz.func214
def ZM:=λa b c d e f w Q=>bB (EM a b c d e f w Q) (rN a b c d e f w λg w=>Q g w) (ok 8) [] [] Tryz.func181
def abu:=λa w Q=>bB (sj a w Q) (wA a λb=>af .u64 b w λc=>r7 c 1 w λd w=>wA a λe=>St e (.int .u64 d) w λw=>Q w) (ok 8) [] [] Tryz.func182
noncomputable def adI:cv:=[(1,sp 0 2 (sp 3 2 (.op 2 (.op 5 (.op 6 (.op 7 .done))))))]
def abv:=λa b c d e f w Q=>bB (Bo a b c d e f w Q) (Bx [.slice a b c,.slice d e f] 213 w λg w=>Al T 213 w λi w=>aA g w.drew λj l m=>aA (g.add 1) w.drew λn o p=>kP j l m w.drew λq r s w=>w.cell? (g.add 1)=some (.slice n o p)/\kP n o p w λt u v w=>St (i.add 0) (.slice q r s) w λw=>St (i.add 1) (.slice t u v) w λw=>aA (i.add 0) w λx y z=>aA (i.add 1) w λa1 b1 c1=>Q x y z a1 b1 c1 w) (ok 10) adI [] Tryz.func183
def C2 (P3:Int->Int->Int->Bool->L3 (Int->Int->WP))(Q:Int->WP)(a b:Int)(c:Addr)(d:OA)(e f:Nat)(g i:Int)(w:World):Prop:=af .i64 (c.add 2) w λj=>P3 a b j true d e f g (IntKind.wrap .i64 (i+1)) w
def zp (Q:Int->WP)(R3:Int->Int->Int->Bool->L3 (Int->Int->WP))(a b c:Int)(d:Bool)(e:OA)(f g:Nat)(i j:Int)(w:World):Prop:=cond (decide (j<i)) (aJ j f<|wA e λl=>af .i64 ((l.add (j.toNat*3)).add 0) w λm=>af .i64 ((l.add (j.toNat*3)).add 1) w λn=>af .i64 ((l.add (j.toNat*3)).add 2) w λo=>Al T 294 w λp w=>St (p.add 0) (ae m) w λw=>St (p.add 1) (ae n) w λw=>St (p.add 2) (ae o) w λw=>af .i64 p w λq=>cond (q==a) (af .i64 (p.add 1) w λr=>cond (r==b) (cond (!d) (C2 R3 Q a b p e f g i j w) (af .i64 (p.add 2) w λs=>cond (decide (s<c)) (C2 R3 Q a b p e f g i j w) (R3 a b c d e f g i (IntKind.wrap .i64 (j+1)) w))) (R3 a b c d e f g i (IntKind.wrap .i64 (j+1)) w)) (R3 a b c d e f g i (IntKind.wrap .i64 (j+1)) w)) (Q c w)
def oE (Q:Int->WP):Nat->Int->Int->Int->Bool->L3 (Int->Int->WP)
 |0,_,_,_,_,_,_,_,_,_,_=>False
 |k+1,a,b,c,d,e,f,g,i,j,w=>zp Q (oE Q k) a b c d e f g i j w
def adJ {P3}(Q)(H3:Bk 41 Tryz.f237 (CP Q) 3 [(1,.i .i64),(2,.i .i64),(7,.i .i64),(8,.b),(11,.l),(12,.i .i64),(13,.i .i64)] P3):Bk 41 Tryz.f237 (CP Q) 6 [(1,.i .i64),(2,.i .i64),(10,.a),(11,.l),(12,.i .i64),(13,.i .i64)] (C2 P3 Q):=aT (ok 41) [] [aM H3]
def adK (Q):∀k,Bk 41 Tryz.f237 (CP Q) 3 [(1,.i .i64),(2,.i .i64),(7,.i .i64),(8,.b),(11,.l),(12,.i .i64),(13,.i .i64)] (oE Q k):=bK λk h=>aT (ok 41) [] [aM h,aM (adJ Q h)]
def ZN:=λa b c d e w Q=>bB (Ag a b c d e w Q) (∃k',oE Q k' d e 1099511627776 false a b c (b:Int) 0 w) (ok 41) [] [ct (adK Q)] Tryz.func237
def qI (Q:Int->WP)(a b c:Int)(w:World):Prop:=cond (b==3) (cond (decide (c>0)) (Q (IntKind.wrap .i64 (a-1)) w) (Q (-1) w)) (Q (-1) w)
def qJ (Q:Int->WP)(a:OA)(b c d e:Int)(w:World):Prop:=cond (c==2) (wA a λf=>af .i64 (f.add 1) w λg=>cond (decide (e<(IntKind.wrap .i64 (g-1)))) (wA a λi=>af .i64 i w λj=>Q (IntKind.wrap .i64 (b+j)) w) (qI Q b c d w)) (qI Q b c d w)
def qK (Q:Int->WP)(a:OA)(b c d e:Int)(w:World):Prop:=cond (c==1) (wA a λf=>af .i64 f w λg=>cond (decide (d<(IntKind.wrap .i64 (g-1)))) (Q (IntKind.wrap .i64 (b+1)) w) (qJ Q a b c d e w)) (qJ Q a b c d e w)
noncomputable def uy:cv:=[(1,sp 0 14 (.op 14 (.op 15 .done)))]
def UC (Q):Bk 81 Tryz.f277 (vM Q) 8 [(1,.i .i64),(2,.i .i64),(7,.i .i64)] (qI Q):=aT (ok 81) uy []
def UD (Q):Bk 81 Tryz.f277 (vM Q) 6 [(0,.p),(1,.i .i64),(2,.i .i64),(7,.i .i64),(8,.i .i64)] (qJ Q):=aT (ok 81) uy [aM (UC Q)]
def UE (Q):Bk 81 Tryz.f277 (vM Q) 4 [(0,.p),(1,.i .i64),(2,.i .i64),(7,.i .i64),(8,.i .i64)] (qK Q):=aT (ok 81) uy [aM (UD Q)]
def Qs:=λa b c w Q=>bB (y9 a b c w Q) (wA a λd=>af .i64 d w.drew λe=>NZ e<|wA a λf=>af .i64 f w.drew λg=>NZ g<|w.drew.cell? f=some (ae g)/\cond (c==0) (cond (decide ((IntKind.wrap .i64 (Int.tdiv b g))>0)) (wA a λi=>af .i64 i w.drew λj=>Q (IntKind.wrap .i64 (b-j)) w.drew) (qK Q a b c (Int.tmod b e) (IntKind.wrap .i64 (Int.tdiv b g)) w.drew)) (qK Q a b c (Int.tmod b e) (IntKind.wrap .i64 (Int.tdiv b g)) w.drew)) (ok 81) uy [aM (UE Q)] Tryz.func277
noncomputable def VU:cv:=[(3,sp 0 6 (sp 7 7 (.op 6 (.op 14 (.op 15 .done))))),(4,sp 0 36 (.op 36 .done))]
def UF:=λa b c w Q=>bB (nG a b c w Q) (y9 a b c w λd w=>cond (decide (d<0)) (wA a λe=>aA (e.add 3) w.drew λf g i=>wA a λj=>aA (j.add 4) w.drew λl m n=>aJ b m<|wA l λo=>af .i64 (o.add (b.toNat*1)) w.drew λp=>Ag f g i b c w.drew λq w=>w.cell? (o.add (b.toNat*1))=some (ae p)/\w.cell? (j.add 4)=some (.slice l m n)/\Q (q==p) w) (wA a λr=>aA (r.add 2) w.drew λs t u=>aJ d t<|wA s λv=>af .u8 (v.add (d.toNat*1)) w.drew λx=>cond (x !=255) (wA a λy=>aA (y.add 2) w.drew λz a1 b1=>aJ d a1<|wA z λc1=>af .u8 (c1.add (d.toNat*1)) w.drew λd1=>wA a λe1=>aA (e1.add 4) w.drew λf1 g1 i1=>aJ d g1<|wA f1 λj1=>af .i64 (j1.add (d.toNat*1)) w.drew λl1=>wA a λm1=>aA (m1.add 4) w.drew λn1 o1 p1=>aJ b o1<|wA n1 λq1=>af .i64 (q1.add (b.toNat*1)) w.drew λr1=>Q ((IntKind.wrap .i64 ((IntKind.wrap .i64 d1)+l1))==r1) w.drew) (Q false w.drew))) (ok 65) VU [] Tryz.func263
def sy (Q:Int->WP)(a:OA)(b:Int)(w:World):Prop:=nG a b 3 w λc w=>cond c (Q 3 w) (Q 5 w)
def sA (Q:Int->WP)(a:OA)(b:Int)(w:World):Prop:=nG a b 2 w λc w=>cond c (Q 2 w) (sy Q a b w)
def uz (Q:Int->WP)(a:OA)(b:Int)(w:World):Prop:=nG a b 1 w λc w=>cond c (Q 1 w) (sA Q a b w)
def Ft (Q):Bk 28 Tryz.f238 (uk Q) 12 [(0,.p),(1,.i .i64)] (sy Q):=aT (ok 28) [] []
def Fu (Q):Bk 28 Tryz.f238 (uk Q) 10 [(0,.p),(1,.i .i64)] (sA Q):=aT (ok 28) [] [aM (Ft Q)]
def Sq (Q):Bk 28 Tryz.f238 (uk Q) 8 [(0,.p),(1,.i .i64)] (uz Q):=aT (ok 28) [] [aM (Fu Q)]
def OH:=λa b c w Q=>bB (DW a b c w Q) (cond (c==0) (nG a b 0 w λd w=>cond d (Q 0 w) (uz Q a b w)) (cond (c==1) (uz Q a b w) (cond (c==2) (sA Q a b w) (cond (c==3) (sy Q a b w) (Q 5 w))))) (ok 28) [] [aM (Sq Q),aM (Fu Q),aM (Ft Q)] Tryz.func238
def Sr:=λa b w Q=>bB (Ad a b w Q) (wA a λc=>aA (c.add 4) w λd e f=>aJ b e<|wA d λg=>af .i64 (g.add (b.toNat*1)) w λi=>cond (i==1099511627776) (Q 5 w) (wA a λj=>aA (j.add 3) w λl m n=>Ag l m n b 4 w λo w=>cond (i==o) (Q 4 w) (DW a b 0 w λp w=>Q p w))) (ok 25) [] [] Tryz.func217
def xp (Q:L3 (L3 (Int->WP)))(R7:Addr->Addr->Addr->Int->Int->WP)(a b c:Addr)(d e:Int)(w:World):Prop:=cond (decide (e<d)) (aA (c.add 1) w.drew λf g i=>Ad (some b) e w.drew λj w=>w.cell? (c.add 1)=some (.slice f g i)/\Bx [ae j] 3 w λl w=>w.cell? (c.add 1)=some (.slice f g i)/\App P #[29,29] 29 (.slice f g i) (.slice (some l) 1 1) w λm n o w=>St (c.add 1) (.slice m n o) w λw=>R7 a b c d (IntKind.wrap .i64 (e+1)) w) (aA (c.add 0) w λp q r=>aA (c.add 1) w λs t u=>St (a.add 0) (.slice p q r) w λw=>St (a.add 1) (.slice s t u) w λw=>aA (a.add 0) w λv x y=>aA (a.add 1) w λz a1 b1=>Q v x y z a1 b1 0 w)
def sB (Q:L3 (L3 (Int->WP))):Nat->Addr->Addr->Addr->Int->Int->WP
 |0,_,_,_,_,_,_=>False
 |k+1,a,b,c,d,e,w=>xp Q (sB Q k) a b c d e w
noncomputable def Lw:cv:=[(9,sp 0 4 (.op 4 (.op 5 (.op 6 (.op 7 (.op 8 .done))))))]
def abw (Q):∀k,Bk 43 Tryz.f184 (Nq Q) 7 [(4,.a),(8,.a),(9,.a),(29,.i .i64),(30,.i .i64)] (sB Q k):=bK λk h=>aT (ok 43) Lw [aM h]
def X6:=λa b c d e f g i w Q=>bB (Dz a b c d e f g i w Q) (Bx [ae a,ae b,.slice c d e] 84 w λj w=>Al T 213 w λl w=>af .i64 (j.add 0) w λm=>af .i64 (j.add 1) w λn=>aA (j.add 2) w λo p q=>xe m n o p q f g i w λr s t u w=>cond (u !=0) (St (l.add 0) (.slice none 0 0) w λw=>St (l.add 1) (.slice none 0 0) w λw=>aA (l.add 0) w λv x y=>aA (l.add 1) w λz a1 b1=>Q v x y z a1 b1 u w) (af .i64 (j.add 0) w λc1=>af .i64 (j.add 1) w λd1=>aA (j.add 2) w λe1 f1 g1=>Bx [ae c1,ae d1,.slice e1 f1 g1,.slice f g i,.slice r s t] 340 w λi1 w=>Al T 213 w λj1 w=>St (j1.add 0) (.slice r s t) w λw=>St (j1.add 1) (.slice none 0 0) w λw=>∃k',sB Q k' l i1 j1 (s:Int) 0 w)) (ok 43) Lw [ct (abw Q)] Tryz.func184
def Bd (Q:L3 (L3 (Int->WP)))(a:Addr)(w:World):Prop:=St (a.add 0) (.slice none 0 0) w λw=>St (a.add 1) (.slice none 0 0) w λw=>aA (a.add 0) w λb c d=>aA (a.add 1) w λe f g=>Q b c d e f g 1 w
def pK (Q:L3 (L3 (Int->WP)))(a:OA)(b:Int)(c:OA)(d e:Nat)(f g i:Addr)(w:World):Prop:=wA a λj=>sj (some ((j.add 2).add 2)) w λw=>af .i64 (f.add 0) w λl=>af .i64 (f.add 1) w λm=>aA (f.add 2) w λn o p=>Dz l m n o p c d e w λq r s t u v x w=>Al T 213 w λy w=>St (y.add 0) (.slice q r s) w λw=>St (y.add 1) (.slice t u v) w λw=>aA (y.add 0) w.drew λz a1 b1=>aA (y.add 1) w.drew λc1 d1 e1=>jh c d e w.drew λf1 g1 i1 w=>w.cell? (y.add 0)=some (.slice z a1 b1)/\w.cell? (y.add 1)=some (.slice c1 d1 e1)/\St (i.add 0) (ae b) w λw=>St (i.add 1) (.slice f1 g1 i1) w λw=>St (i.add 2) (.slice z a1 b1) w λw=>St (i.add 3) (.slice c1 d1 e1) w λw=>aA (y.add 0) w λj1 l1 m1=>aA (y.add 1) w λn1 o1 p1=>Bo j1 l1 m1 n1 o1 p1 w λq1 r1 s1 t1 u1 v1 w=>St (g.add 0) (.slice q1 r1 s1) w λw=>St (g.add 1) (.slice t1 u1 v1) w λw=>aA (g.add 0) w λx1 y1 z1=>aA (g.add 1) w λa2 b2 c2=>Q x1 y1 z1 a2 b2 c2 0 w
def pL (Q:L3 (L3 (Int->WP)))(a:OA)(b:Int)(c:OA)(d e:Nat)(f g:Addr)(i:Bool)(j:Addr)(w:World):Prop:=cond i (wA a λl=>sj (some ((l.add 2).add 5)) w λw=>pK Q a b c d e f g j w) (pK Q a b c d e f g j w)
def jl (Q:L3 (L3 (Int->WP)))(a:OA)(b:Int)(c:OA)(d e:Nat)(f g:Addr)(i j:Bool)(l:Addr)(w:World):Prop:=cond i (wA a λm=>sj (some ((m.add 2).add 4)) w λw=>pL Q a b c d e f g j l w) (pL Q a b c d e f g j l w)
def qL (Q:L3 (L3 (Int->WP)))(a:OA)(b:Int)(c:OA)(d e:Nat)(f g:Addr)(i:Int)(j l:Bool)(w:World):Prop:=wA a λm=>aA (m.add 1) w λn o p=>aJ i o<|wA n λq=>cond j (af .i64 (q.add (i.toNat*4)) w λr=>cond (r==b) (aA ((q.add (i.toNat*4)).add 1) w λs t u=>EM s t u c d e w λv w=>cond v (wA a λx=>sj (some ((x.add 2).add 3)) w λw=>aA (((q.add (i.toNat*4)).add 2).add 0) w λy z a1=>aA (((q.add (i.toNat*4)).add 2).add 1) w λb1 c1 d1=>Bo y z a1 b1 c1 d1 w λe1 f1 g1 i1 j1 l1 w=>St (g.add 0) (.slice e1 f1 g1) w λw=>St (g.add 1) (.slice i1 j1 l1) w λw=>aA (g.add 0) w λm1 n1 o1=>aA (g.add 1) w λp1 q1 r1=>Q m1 n1 o1 p1 q1 r1 0 w) (jl Q a b c d e f g j l (q.add (i.toNat*4)) w)) (jl Q a b c d e f g j l (q.add (i.toNat*4)) w)) (jl Q a b c d e f g j l (q.add (i.toNat*4)) w)
noncomputable def mW:cv:=[(16,sp 0 3 (.op 4 (.op 3 (sp 5 2 (.op 7 .done)))))]
def UG (Q):Bk 122 Tryz.f164 (nF Q) 2 [(12,.a)] (Bd Q):=aT (ok 122) mW []
def Ss (Q):Bk 122 Tryz.f164 (nF Q) 14 [(0,.p),(3,.i .i64),(5,.l),(10,.a),(12,.a),(17,.a)] (pK Q):=aT (ok 122) mW []
def Su (Q):Bk 122 Tryz.f164 (nF Q) 12 [(0,.p),(3,.i .i64),(5,.l),(10,.a),(12,.a),(16,.b),(17,.a)] (pL Q):=aT (ok 122) mW [aM (Ss Q)]
def Sv (Q):Bk 122 Tryz.f164 (nF Q) 10 [(0,.p),(3,.i .i64),(5,.l),(10,.a),(12,.a),(15,.b),(16,.b),(17,.a)] (jl Q):=aT (ok 122) mW [aM (Su Q)]
def UH (Q):Bk 122 Tryz.f164 (nF Q) 6 [(0,.p),(3,.i .i64),(5,.l),(10,.a),(12,.a),(14,.i .i64),(15,.b),(16,.b)] (qL Q):=aT (ok 122) mW [aM (Sv Q)]
def Qt:=λa b c d e f g i j l m n w Q=>bB (oo a b c d e f g i j l m n w Q) (Bx [ae e,ae f,.slice g i j] 84 w λo w=>Al T 213 w λp w=>cond a.isNone (Bd Q p w) (af .i64 (o.add 0) w λq=>af .i64 (o.add 1) w λr=>aA (o.add 2) w λs t u=>Bn q r s t u l m n w λv w=>cond (!v) (Bd Q p w) (wA a λx=>bg x w λy=>Dy y b c w λz a1 b1 w=>wA a λc1=>aA (c1.add 1) w λd1 e1 f1=>cond (z==(e1:Int)) (wA a λg1=>aA (g1.add 1) w λi1 j1 l1=>Bx [ae 0,.slice none 0 0,.slice none 0 0,.slice none 0 0] 303 w λm1 w=>App P #[133,133] 133 (.slice i1 j1 l1) (.slice (some m1) 1 1) w λn1 o1 p1 w=>wA a λq1=>St (q1.add 1) (.slice n1 o1 p1) w λw=>qL Q a d l m n o p z a1 b1 w) (qL Q a d l m n o p z a1 b1 w)))) (ok 122) mW [aM (UG Q),aM (UH Q)] Tryz.func164
def yB (Q:L3 (L3 (Value->WP)))(a:Int)(b:Addr)(w:World):Prop:=bY (aZ 2) w.drew λc=>dV c λd=>(Bx [ae a,d] 275 w.drew λe w=>St (b.add 0) (.slice none 0 0) w λw=>St (b.add 1) (.slice none 0 0) w λw=>w.cell? (aZ 2)=some c/\aA (b.add 0) w λf g i=>aA (b.add 1) w λj l m=>Q f g i j l m (.iface 273 (.pointer (some e))) w)/\(St (b.add 0) (.slice none 0 0) w.drew λw=>St (b.add 1) (.slice none 0 0) w λw=>w.cell? (aZ 2)=some c/\Bx [ae a,d] 275 w λn w=>aA (b.add 0) w λo p q=>aA (b.add 1) w λr s t=>Q o p q r s t (.iface 273 (.pointer (some n))) w)
def tC (Q:L3 (L3 (Value->WP)))(a:Int)(b:Addr)(w:World):Prop:=bY (aZ 3) w.drew λc=>dV c λd=>(Bx [ae a,d] 275 w.drew λe w=>St (b.add 0) (.slice none 0 0) w λw=>St (b.add 1) (.slice none 0 0) w λw=>w.cell? (aZ 3)=some c/\aA (b.add 0) w λf g i=>aA (b.add 1) w λj l m=>Q f g i j l m (.iface 273 (.pointer (some e))) w)/\(St (b.add 0) (.slice none 0 0) w.drew λw=>St (b.add 1) (.slice none 0 0) w λw=>w.cell? (aZ 3)=some c/\Bx [ae a,d] 275 w λn w=>aA (b.add 0) w λo p q=>aA (b.add 1) w λr s t=>Q o p q r s t (.iface 273 (.pointer (some n))) w)
def jG (Q:L3 (L3 (Value->WP)))(a:Int)(b c:Addr)(d:Int)(w:World):Prop:=cond (d !=0) (bY (aZ 4) w.drew λe=>dV e λf=>(Bx [ae a,f] 275 w.drew λg w=>St (b.add 0) (.slice none 0 0) w λw=>St (b.add 1) (.slice none 0 0) w λw=>w.cell? (aZ 4)=some e/\aA (b.add 0) w λi j l=>aA (b.add 1) w λm n o=>Q i j l m n o (.iface 273 (.pointer (some g))) w)/\(St (b.add 0) (.slice none 0 0) w.drew λw=>St (b.add 1) (.slice none 0 0) w λw=>w.cell? (aZ 4)=some e/\Bx [ae a,f] 275 w λp w=>aA (b.add 0) w λq r s=>aA (b.add 1) w λt u v=>Q q r s t u v (.iface 273 (.pointer (some p))) w)) (aA (c.add 0) w λx y z=>aA (c.add 1) w λa1 b1 c1=>St (b.add 0) (.slice x y z) w λw=>St (b.add 1) (.slice a1 b1 c1) w λw=>aA (b.add 0) w λd1 e1 f1=>aA (b.add 1) w λg1 i1 j1=>Q d1 e1 f1 g1 i1 j1 (.nilIface) w)
noncomputable def xq:cv:=[(2,sp 0 4 (.br (.op 4 (.op 5 (.op 6 (.op 7 .done)))) (.op 6 (.op 4 (.op 5 (.op 7 .done)))))),(5,sp 0 4 (.br (.op 4 (.op 5 (.op 6 (.op 7 .done)))) (.op 6 (.op 4 (.op 5 (.op 7 .done)))))),(6,sp 0 9 (.op 10 (.op 9 (.op 11 (.op 12 .done))))),(7,sp 0 11 (sp 12 2 (.br (.op 11 (.br (.op 14 (sp 15 3 (.op 18 (.op 19 (.op 20 .done))))) (.op 18 (.op 14 (sp 15 3 (.op 19 (.op 20 .done))))))) (.op 18 (.op 11 (.op 14 (sp 15 3 (.op 19 (.op 20 .done))))))))),(9,sp 0 4 (.br (.op 4 (.op 5 (.op 6 (.op 7 .done)))) (.op 6 (.op 4 (.op 5 (.op 7 .done))))))]
def X7 (Q):Bk 93 Tryz.f150 (yu Q) 2 [(1,.i .i64),(6,.a)] (yB Q):=aT (ok 93) xq []
def X8 (Q):Bk 93 Tryz.f150 (yu Q) 5 [(1,.i .i64),(6,.a)] (tC Q):=aT (ok 93) xq []
def X9 (Q):Bk 93 Tryz.f150 (yu Q) 8 [(1,.i .i64),(6,.a),(11,.a),(12,.i .i64)] (jG Q):=aT (ok 93) xq []
def UI:=λa b c w Q=>bB (vH a b c w Q) (Al T 213 w λd w=>cond a.isNone (yB Q b d w) (wA a λe=>bg e w λf=>cond f.isNone (yB Q b d w) (wA a λg=>bg g w λi=>tX i c w λj l m n o p w=>Al T 84 w λq w=>St (q.add 0) (ae j) w λw=>St (q.add 1) (ae l) w λw=>St (q.add 2) (.slice m n o) w λw=>wA a λr=>bg r w λs=>e_ s b w λt w=>cond (t==0) (tC Q b d w) (cond (!p) (tC Q b d w) (wA a λu=>bg u w.drew λv=>wA a λx=>bg (x.add 2) w.drew λy=>wC y b w.drew λz w=>w.cell? u=some (.pointer v)/\B0 v z c w λa1 b1 c1 w=>wA a λd1=>bg (d1.add 3) w.drew λe1=>wA a λf1=>bg f1 w.drew λg1=>af .i64 (q.add 0) w.drew λi1=>af .i64 (q.add 1) w.drew λj1=>aA (q.add 2) w.drew λl1 m1 n1=>(i_ g1 c w.drew λo1 w=>w.cell? (q.add 0)=some (ae i1)/\w.cell? (q.add 1)=some (ae j1)/\w.cell? (q.add 2)=some (.slice l1 m1 n1)/\w.cell? (d1.add 3)=some (.pointer e1)/\(oo e1 b c o1 i1 j1 l1 m1 n1 a1 b1 c1 w λp1 q1 r1 s1 t1 u1 v1 w=>Al T 213 w λx1 w=>w.cell? (q.add 0)=some (ae i1)/\w.cell? (q.add 1)=some (ae j1)/\w.cell? (q.add 2)=some (.slice l1 m1 n1)/\w.cell? f1=some (.pointer g1)/\w.cell? (d1.add 3)=some (.pointer e1)/\St (x1.add 0) (.slice p1 q1 r1) w λw=>St (x1.add 1) (.slice s1 t1 u1) w λw=>jG Q b d x1 v1 w)/\(Al T 213 w λy1 w=>w.cell? (q.add 0)=some (ae i1)/\w.cell? (q.add 1)=some (ae j1)/\w.cell? (q.add 2)=some (.slice l1 m1 n1)/\w.cell? f1=some (.pointer g1)/\w.cell? (d1.add 3)=some (.pointer e1)/\oo e1 b c o1 i1 j1 l1 m1 n1 a1 b1 c1 w λz1 a2 b2 c2 d2 e2 f2 w=>St (y1.add 0) (.slice z1 a2 b2) w λw=>St (y1.add 1) (.slice c2 d2 e2) w λw=>jG Q b d y1 f2 w))/\(Al T 213 w.drew λg2 w=>w.cell? (q.add 0)=some (ae i1)/\w.cell? (q.add 1)=some (ae j1)/\w.cell? (q.add 2)=some (.slice l1 m1 n1)/\w.cell? f1=some (.pointer g1)/\w.cell? (d1.add 3)=some (.pointer e1)/\i_ g1 c w λi2 w=>w.cell? (q.add 0)=some (ae i1)/\w.cell? (q.add 1)=some (ae j1)/\w.cell? (q.add 2)=some (.slice l1 m1 n1)/\w.cell? (d1.add 3)=some (.pointer e1)/\oo e1 b c i2 i1 j1 l1 m1 n1 a1 b1 c1 w λj2 l2 m2 n2 o2 p2 q2 w=>St (g2.add 0) (.slice j2 l2 m2) w λw=>St (g2.add 1) (.slice n2 o2 p2) w λw=>jG Q b d g2 q2 w)))))) (ok 93) xq [aM (X7 Q),aM (X8 Q),aM (X9 Q)] Tryz.func150
end Go.Proofs.YtmegplnmiepfbaaGreatDoor.S
