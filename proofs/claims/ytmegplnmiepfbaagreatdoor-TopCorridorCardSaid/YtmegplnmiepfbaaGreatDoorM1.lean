/- Part 2 of the proof. -/
import Derived.Test.YtmegplnmiepfbaaGreatDoorM0
import Derived.Test.YtmegplnmiepfbaaGreatDoorProg
set_option linter.unusedVariables false
set_option linter.unusedSimpArgs false
set_option linter.defProp false
set_option maxRecDepth 100000
namespace Go.Proofs.YtmegplnmiepfbaaGreatDoor.S
open Go.Sx
noncomputable abbrev P:Program:=Go.Proofs.Tryz.prog
noncomputable def rows:List (Nat×TI):=[(0,⟨.um [],1,0,[.tuple #[]],[]⟩),
 (2,⟨.int .i64,1,8,[.int .i64 0],[.int .i64]⟩),
 (3,⟨.int .i64,1,8,[.int .i64 0],[.int .i64]⟩),
 (4,⟨.bool,1,1,[.bool false],[.bool]⟩),
 (5,⟨.int .u8,1,1,[.int .u8 0],[.int .u8]⟩),
 (9,⟨.str,1,16,[.string .empty],[.str]⟩),
 (17,⟨.ptr,1,8,[.pointer none],[.ptr]⟩),
 (20,⟨.iface,1,16,[.nilIface],[.any]⟩),
 (21,⟨.int .i32,1,4,[.int .i32 0],[.int .i32]⟩),
 (22,⟨.slice 5,1,24,[.slice none 0 0],[.sl]⟩),
 (25,⟨.struct [(0,3),(1,3),(2,22)],3,40,[.int .i64 0,.int .i64 0,.slice none 0 0],[.int .i64,.int .i64,.sl]⟩),
 (26,⟨.ptr,1,8,[.pointer none],[.ptr]⟩),
 (28,⟨.slice 51,1,24,[.slice none 0 0],[.sl]⟩),
 (29,⟨.slice 3,1,24,[.slice none 0 0],[.sl]⟩),
 (30,⟨.int .u64,1,8,[.int .u64 0],[.int .u64]⟩),
 (32,⟨.struct [(0,30),(1,30),(2,30),(3,30),(4,30),(5,30)],6,48,[.int .u64 0,.int .u64 0,.int .u64 0,.int .u64 0,.int .u64 0,.int .u64 0],[.int .u64,.int .u64,.int .u64,.int .u64,.int .u64,.int .u64]⟩),
 (34,⟨.struct [(0,3),(1,3),(2,3),(3,3),(4,28),(5,29),(6,32)],12,128,[.int .i64 0,.int .i64 0,.int .i64 0,.int .i64 0,.slice none 0 0,.slice none 0 0,.int .u64 0,.int .u64 0,.int .u64 0,.int .u64 0,.int .u64 0,.int .u64 0],[.int .i64,.int .i64,.int .i64,.int .i64,.sl,.sl,.int .u64,.int .u64,.int .u64,.int .u64,.int .u64,.int .u64]⟩),
 (38,⟨.struct [(0,3),(1,3),(2,3),(3,22)],4,48,[.int .i64 0,.int .i64 0,.int .i64 0,.slice none 0 0],[.int .i64,.int .i64,.int .i64,.sl]⟩),
 (39,⟨.slice 43,1,24,[.slice none 0 0],[.sl]⟩),
 (43,⟨.struct [(0,3),(1,3),(2,3)],3,24,[.int .i64 0,.int .i64 0,.int .i64 0],[.int .i64,.int .i64,.int .i64]⟩),
 (45,⟨.slice 90,1,24,[.slice none 0 0],[.sl]⟩),
 (46,⟨.slice 38,1,24,[.slice none 0 0],[.sl]⟩),
 (49,⟨.slice 4,1,24,[.slice none 0 0],[.sl]⟩),
 (51,⟨.struct [(0,3),(1,3)],2,16,[.int .i64 0,.int .i64 0],[.int .i64,.int .i64]⟩),
 (55,⟨.um [3,3,4],1,0,[.tuple #[.int .i64 0,.int .i64 0,.bool false]],[]⟩),
 (64,⟨.slice 34,1,24,[.slice none 0 0],[.sl]⟩),
 (68,⟨.ptr,1,8,[.pointer none],[.ptr]⟩),
 (70,⟨.ptr,1,8,[.pointer none],[.ptr]⟩),
 (72,⟨.struct [(0,3),(1,68),(2,70)],3,24,[.int .i64 0,.pointer none,.pointer none],[.int .i64,.ptr,.ptr]⟩),
 (74,⟨.iface,1,16,[.nilIface],[.any]⟩),
 (76,⟨.ptr,1,8,[.pointer none],[.ptr]⟩),
 (78,⟨.ptr,1,8,[.pointer none],[.ptr]⟩),
 (80,⟨.struct [(0,3),(1,74)],2,24,[.int .i64 0,.nilIface],[.int .i64,.any]⟩),
 (81,⟨.int .u64,1,8,[.int .u64 0],[.int .u64]⟩),
 (82,⟨.um [3,22],1,0,[.tuple #[.int .i64 0,.slice none 0 0]],[]⟩),
 (84,⟨.struct [(0,3),(1,3),(2,22)],3,40,[.int .i64 0,.int .i64 0,.slice none 0 0],[.int .i64,.int .i64,.sl]⟩),
 (90,⟨.struct [(0,3),(1,3),(2,3)],3,24,[.int .i64 0,.int .i64 0,.int .i64 0],[.int .i64,.int .i64,.int .i64]⟩),
 (95,⟨.um [3,3],1,0,[.tuple #[.int .i64 0,.int .i64 0]],[]⟩),
 (100,⟨.ptr,1,8,[.pointer none],[.ptr]⟩),
 (102,⟨.ptr,1,8,[.pointer none],[.ptr]⟩),
 (103,⟨.ptr,1,8,[.pointer none],[.ptr]⟩),
 (104,⟨.ptr,1,8,[.pointer none],[.ptr]⟩),
 (106,⟨.struct [(0,102),(1,103),(2,104),(3,100),(4,32)],10,80,[.pointer none,.pointer none,.pointer none,.pointer none,.int .u64 0,.int .u64 0,.int .u64 0,.int .u64 0,.int .u64 0,.int .u64 0],[.ptr,.ptr,.ptr,.ptr,.int .u64,.int .u64,.int .u64,.int .u64,.int .u64,.int .u64]⟩),
 (108,⟨.int .i64,1,8,[.int .i64 0],[.int .i64]⟩),
 (112,⟨.um [3,74],1,0,[.tuple #[.int .i64 0,.nilIface]],[]⟩),
 (120,⟨.ptr,1,8,[.pointer none],[.ptr]⟩),
 (122,⟨.ptr,1,8,[.pointer none],[.ptr]⟩),
 (123,⟨.ptr,1,8,[.pointer none],[.ptr]⟩),
 (125,⟨.struct [(0,3),(1,3),(2,3),(3,122),(4,123)],5,40,[.int .i64 0,.int .i64 0,.int .i64 0,.pointer none,.pointer none],[.int .i64,.int .i64,.int .i64,.ptr,.ptr]⟩),
 (131,⟨.ptr,1,8,[.pointer none],[.ptr]⟩),
 (133,⟨.slice 303,1,24,[.slice none 0 0],[.sl]⟩),
 (135,⟨.struct [(0,131),(1,133),(2,32)],8,80,[.pointer none,.slice none 0 0,.int .u64 0,.int .u64 0,.int .u64 0,.int .u64 0,.int .u64 0,.int .u64 0],[.ptr,.sl,.int .u64,.int .u64,.int .u64,.int .u64,.int .u64,.int .u64]⟩),
 (137,⟨.struct [(0,3),(1,3),(2,4)],3,24,[.int .i64 0,.int .i64 0,.bool false],[.int .i64,.int .i64,.bool]⟩),
 (138,⟨.um [137,4],1,0,[.tuple #[.agg #[.int .i64 0,.int .i64 0,.bool false],.bool false]],[]⟩),
 (140,⟨.um [25,3],1,0,[.tuple #[.agg #[.int .i64 0,.int .i64 0,.slice none 0 0],.int .i64 0]],[]⟩),
 (144,⟨.um [43,4],1,0,[.tuple #[.agg #[.int .i64 0,.int .i64 0,.int .i64 0],.bool false]],[]⟩),
 (146,⟨.func,1,8,[.nilFunc],[.any]⟩),
 (148,⟨.um [3,3,3],1,0,[.tuple #[.int .i64 0,.int .i64 0,.int .i64 0]],[]⟩),
 (150,⟨.um [29,74],1,0,[.tuple #[.slice none 0 0,.nilIface]],[]⟩),
 (152,⟨.um [28,29,3],1,0,[.tuple #[.slice none 0 0,.slice none 0 0,.int .i64 0]],[]⟩),
 (155,⟨.iface,1,16,[.nilIface],[.any]⟩),
 (158,⟨.other,1,8,[.pointer none],[.ptr]⟩),
 (159,⟨.int .u64,1,8,[.int .u64 0],[.int .u64]⟩),
 (161,⟨.struct [(0,17),(1,158),(2,159)],3,24,[.pointer none,.pointer none,.int .u64 0],[.ptr,.ptr,.int .u64]⟩),
 (164,⟨.int .u8,1,1,[.int .u8 0],[.int .u8]⟩),
 (169,⟨.map,1,8,[.map none],[.map]⟩),
 (171,⟨.struct [(0,3),(1,3),(2,169),(3,29)],4,48,[.int .i64 0,.int .i64 0,.map none,.slice none 0 0],[.int .i64,.int .i64,.map,.sl]⟩),
 (172,⟨.slice 2,1,24,[.slice none 0 0],[.sl]⟩),
 (174,⟨.struct [(0,25),(3,2),(4,172)],5,72,[.int .i64 0,.int .i64 0,.slice none 0 0,.int .i64 0,.slice none 0 0],[.int .i64,.int .i64,.sl,.int .i64,.sl]⟩),
 (175,⟨.arr 6 30,6,48,[.int .u64 0,.int .u64 0,.int .u64 0,.int .u64 0,.int .u64 0,.int .u64 0],[.int .u64,.int .u64,.int .u64,.int .u64,.int .u64,.int .u64]⟩),
 (179,⟨.slice 334,1,24,[.slice none 0 0],[.sl]⟩),
 (180,⟨.map,1,8,[.map none],[.map]⟩),
 (182,⟨.struct [(0,3),(1,179),(2,180),(3,3),(4,3)],5,56,[.int .i64 0,.slice none 0 0,.map none,.int .i64 0,.int .i64 0],[.int .i64,.sl,.map,.int .i64,.int .i64]⟩),
 (183,⟨.um [38,3],1,0,[.tuple #[.agg #[.int .i64 0,.int .i64 0,.int .i64 0,.slice none 0 0],.int .i64 0]],[]⟩),
 (185,⟨.um [25,74],1,0,[.tuple #[.agg #[.int .i64 0,.int .i64 0,.slice none 0 0],.nilIface]],[]⟩),
 (187,⟨.int .i64,1,8,[.int .i64 0],[.int .i64]⟩),
 (188,⟨.ptr,1,8,[.pointer none],[.ptr]⟩),
 (195,⟨.ptr,1,8,[.pointer none],[.ptr]⟩),
 (197,⟨.struct [(0,103),(1,102),(2,195),(3,30)],4,32,[.pointer none,.pointer none,.pointer none,.int .u64 0],[.ptr,.ptr,.ptr,.int .u64]⟩),
 (198,⟨.um [3,4],1,0,[.tuple #[.int .i64 0,.bool false]],[]⟩),
 (202,⟨.ptr,1,8,[.pointer none],[.ptr]⟩),
 (203,⟨.func,1,8,[.nilFunc],[.any]⟩),
 (204,⟨.um [3,3,74],1,0,[.tuple #[.int .i64 0,.int .i64 0,.nilIface]],[]⟩),
 (207,⟨.map,1,8,[.map none],[.map]⟩),
 (208,⟨.slice 211,1,24,[.slice none 0 0],[.sl]⟩),
 (211,⟨.struct [(0,3),(1,3),(2,29)],3,40,[.int .i64 0,.int .i64 0,.slice none 0 0],[.int .i64,.int .i64,.sl]⟩),
 (213,⟨.struct [(0,29),(1,29)],2,48,[.slice none 0 0,.slice none 0 0],[.sl,.sl]⟩),
 (214,⟨.um [213,3],1,0,[.tuple #[.agg #[.slice none 0 0,.slice none 0 0],.int .i64 0]],[]⟩),
 (216,⟨.um [39,28,29,3],1,0,[.tuple #[.slice none 0 0,.slice none 0 0,.slice none 0 0,.int .i64 0]],[]⟩),
 (221,⟨.iface,1,16,[.nilIface],[.any]⟩),
 (224,⟨.iface,1,16,[.nilIface],[.any]⟩),
 (226,⟨.iface,1,16,[.nilIface],[.any]⟩),
 (227,⟨.slice 74,1,24,[.slice none 0 0],[.sl]⟩),
 (231,⟨.iface,1,16,[.nilIface],[.any]⟩),
 (234,⟨.slice 319,1,24,[.slice none 0 0],[.sl]⟩),
 (236,⟨.struct [(0,102),(1,234),(2,2),(3,30)],4,48,[.pointer none,.slice none 0 0,.int .i64 0,.int .u64 0],[.ptr,.sl,.int .i64,.int .u64]⟩),
 (238,⟨.um [84,3,3],1,0,[.tuple #[.agg #[.int .i64 0,.int .i64 0,.slice none 0 0],.int .i64 0,.int .i64 0]],[]⟩),
 (240,⟨.ptr,1,8,[.pointer none],[.ptr]⟩),
 (242,⟨.struct [(0,3),(1,74)],2,24,[.int .i64 0,.nilIface],[.int .i64,.any]⟩),
 (245,⟨.slice 248,1,24,[.slice none 0 0],[.sl]⟩),
 (247,⟨.struct [(0,245),(1,3)],2,32,[.slice none 0 0,.int .i64 0],[.sl,.int .i64]⟩),
 (248,⟨.int .u32,1,4,[.int .u32 0],[.int .u32]⟩),
 (249,⟨.um [213,74],1,0,[.tuple #[.agg #[.slice none 0 0,.slice none 0 0],.nilIface]],[]⟩),
 (253,⟨.arr 2 3,2,16,[.int .i64 0,.int .i64 0],[.int .i64,.int .i64]⟩),
 (257,⟨.ptr,1,8,[.pointer none],[.ptr]⟩),
 (258,⟨.map,1,8,[.map none],[.map]⟩),
 (260,⟨.struct [(0,3),(1,3),(2,258),(3,28),(4,29)],5,72,[.int .i64 0,.int .i64 0,.map none,.slice none 0 0,.slice none 0 0],[.int .i64,.int .i64,.map,.sl,.sl]⟩),
 (263,⟨.ptr,1,8,[.pointer none],[.ptr]⟩),
 (265,⟨.struct [(0,22),(1,3)],2,32,[.slice none 0 0,.int .i64 0],[.sl,.int .i64]⟩),
 (266,⟨.um [84,74],1,0,[.tuple #[.agg #[.int .i64 0,.int .i64 0,.slice none 0 0],.nilIface]],[]⟩),
 (268,⟨.ptr,1,8,[.pointer none],[.ptr]⟩),
 (269,⟨.ptr,1,8,[.pointer none],[.ptr]⟩),
 (271,⟨.struct [(0,3),(1,3),(2,74)],3,32,[.int .i64 0,.int .i64 0,.nilIface],[.int .i64,.int .i64,.any]⟩),
 (273,⟨.ptr,1,8,[.pointer none],[.ptr]⟩),
 (275,⟨.struct [(0,3),(1,74)],2,24,[.int .i64 0,.nilIface],[.int .i64,.any]⟩),
 (276,⟨.um [84,4],1,0,[.tuple #[.agg #[.int .i64 0,.int .i64 0,.slice none 0 0],.bool false]],[]⟩),
 (278,⟨.slice 294,1,24,[.slice none 0 0],[.sl]⟩),
 (284,⟨.um [22,74],1,0,[.tuple #[.slice none 0 0,.nilIface]],[]⟩),
 (286,⟨.um [22,3],1,0,[.tuple #[.slice none 0 0,.int .i64 0]],[]⟩),
 (289,⟨.slice 292,1,24,[.slice none 0 0],[.sl]⟩),
 (292,⟨.struct [(0,3),(1,3)],2,16,[.int .i64 0,.int .i64 0],[.int .i64,.int .i64]⟩),
 (294,⟨.struct [(0,3),(1,3),(2,3)],3,24,[.int .i64 0,.int .i64 0,.int .i64 0],[.int .i64,.int .i64,.int .i64]⟩),
 (296,⟨.slice 21,1,24,[.slice none 0 0],[.sl]⟩),
 (298,⟨.struct [(0,3),(1,2),(2,296)],3,40,[.int .i64 0,.int .i64 0,.slice none 0 0],[.int .i64,.int .i64,.sl]⟩),
 (300,⟨.um [3,4,4],1,0,[.tuple #[.int .i64 0,.bool false,.bool false]],[]⟩),
 (303,⟨.struct [(0,2),(1,278),(2,213)],4,80,[.int .i64 0,.slice none 0 0,.slice none 0 0,.slice none 0 0],[.int .i64,.sl,.sl,.sl]⟩),
 (307,⟨.ptr,1,8,[.pointer none],[.ptr]⟩),
 (314,⟨.arr 4 3,4,32,[.int .i64 0,.int .i64 0,.int .i64 0,.int .i64 0],[.int .i64,.int .i64,.int .i64,.int .i64]⟩),
 (317,⟨.func,1,8,[.nilFunc],[.any]⟩),
 (319,⟨.struct [(0,2),(1,29),(2,296)],3,56,[.int .i64 0,.slice none 0 0,.slice none 0 0],[.int .i64,.sl,.sl]⟩),
 (322,⟨.ptr,1,8,[.pointer none],[.ptr]⟩),
 (331,⟨.func,1,8,[.nilFunc],[.any]⟩),
 (334,⟨.struct [(0,253),(2,3),(3,3)],4,32,[.int .i64 0,.int .i64 0,.int .i64 0,.int .i64 0],[.int .i64,.int .i64,.int .i64,.int .i64]⟩),
 (336,⟨.um [29,3],1,0,[.tuple #[.slice none 0 0,.int .i64 0]],[]⟩),
 (338,⟨.ptr,1,8,[.pointer none],[.ptr]⟩),
 (340,⟨.struct [(0,84),(3,278),(4,29)],5,88,[.int .i64 0,.int .i64 0,.slice none 0 0,.slice none 0 0,.slice none 0 0],[.int .i64,.int .i64,.sl,.sl,.sl]⟩),
 (341,⟨.um [81,81],1,0,[.tuple #[.int .u64 0,.int .u64 0]],[]⟩),
 (349,⟨.slice 353,1,24,[.slice none 0 0],[.sl]⟩),
 (351,⟨.struct [(0,349)],1,24,[.slice none 0 0],[.sl]⟩),
 (353,⟨.struct [(0,3),(1,3)],2,16,[.int .i64 0,.int .i64 0],[.int .i64,.int .i64]⟩),
 (354,⟨.ptr,1,8,[.pointer none],[.ptr]⟩),
 (355,⟨.um [354,3,4],1,0,[.tuple #[.pointer none,.int .i64 0,.bool false]],[]⟩),
 (358,⟨.ptr,1,8,[.pointer none],[.ptr]⟩),
 (359,⟨.ptr,1,8,[.pointer none],[.ptr]⟩),
 (363,⟨.struct [(0,84),(3,359),(4,278),(5,29)],6,96,[.int .i64 0,.int .i64 0,.slice none 0 0,.pointer none,.slice none 0 0,.slice none 0 0],[.int .i64,.int .i64,.sl,.ptr,.sl,.sl]⟩),
 (367,⟨.um [30,30],1,0,[.tuple #[.int .u64 0,.int .u64 0]],[]⟩),
 (370,⟨.func,1,8,[.nilFunc],[.any]⟩),
 (372,⟨.int .i64,1,8,[.int .i64 0],[.int .i64]⟩),
 (373,⟨.um [3,372],1,0,[.tuple #[.int .i64 0,.int .i64 0]],[]⟩),
 (385,⟨.struct [(0,29),(1,3)],2,32,[.slice none 0 0,.int .i64 0],[.sl,.int .i64]⟩),
 (386,⟨.arr 256 385,512,8192,([]++(List.replicate 256 [.slice none 0 0,.int .i64 0]).flatten),([]++(List.replicate 256 [.sl,.int .i64]).flatten)⟩),
 (388,⟨.struct [(0,3),(1,3),(2,386)],514,8208,([.int .i64 0,.int .i64 0]++(List.replicate 256 [.slice none 0 0,.int .i64 0]).flatten),([.int .i64,.int .i64]++(List.replicate 256 [.sl,.int .i64]).flatten)⟩),
 (390,⟨.int .u64,1,8,[.int .u64 0],[.int .u64]⟩),
 (393,⟨.ptr,1,8,[.pointer none],[.ptr]⟩),
 (397,⟨.ptr,1,8,[.pointer none],[.ptr]⟩),
 (400,⟨.ptr,1,8,[.pointer none],[.ptr]⟩)]
noncomputable def T:tW:=Za rows
noncomputable def fns:List Nat:=[3,4,5,6,7,8,9,10,11,12,13,14,15,16,17,18,19,20,21,22,23,24,25,26,27,28,29,30,31,32,33,34,35,36,37,38,39,40,41,42,43,44,45,46,47,48,49,50,51,52,53,54,55,56,57,58,59,60,61,62,63,64,65,66,67,68,69,70,71,72,73,74,75,76,77,78,79,80,81,82,83,84,85,86,87,88,89,90,91,92,93,94,96,100,101,102,103,104,105,106,107,108,109,110,111,112,113,114,115,116,117,118,119,120,121,122,123,124,125,126,127,128,129,130,131,132,133,134,135,136,137,140,141,142,143,144,145,146,147,148,149,150,151,152,153,154,155,156,157,158,159,160,161,162,163,164,165,166,167,168,169,170,171,172,173,174,175,176,177,178,179,180,181,182,183,184,185,186,187,188,189,190,191,192,193,194,195,196,197,198,199,200,201,202,203,204,205,206,207,208,209,210,211,212,213,214,215,216,217,218,220,221,222,223,224,225,226,227,228,229,230,231,232,233,234,235,236,237,238,240,241,242,243,244,245,246,247,248,249,250,252,253,254,255,256,257,258,259,260,261,262,263,264,265,266,267,268,269,270,271,272,273,274,275,276,277,278,279,280,281,282,302,321,323,325]
noncomputable def cx (n:Nat):Cx:=⟨P,T,λf=>oK f fns,n⟩
def GD:rows.map (λp=>Tp P p.1)=rows.map (λp=>some (p.2.d,p.2.size,p.2.bytes,p.2.zero)):=by kernel_rfl
def arX:ajw P fns=true:=by kernel_rfl
def an1:P.follows .mixedOrders=true:=by kernel_rfl
def ok (n:Nat):mA (cx n):=aqx GD arX an1 n
abbrev Bk (n:Nat)(fn:Func)(K:Value->World->Prop)(j:Nat)(l:List (Nat×Kd))(B:KP l):Prop:=XF (cx n) fn (afT (cx n) fn K) j l B
def qY:=bF (.o .b)
def xx:=λb c d e f g w (Q:Bool->WP)=>aq P 3 #[ae b,.slice c d e,ae f,.bool g] w (qY Q)
def K_:=bF (.o (.i .i64))
def jh:=λb c d w (Q:Int->WP)=>aq P 10 #[ae b,ae c,ae d] w (K_ Q)
def ahR:=bF (.o .p)
def Ds:=λb c w (Q:OA->WP)=>aq P 11 #[ae b,ae c] w (ahR Q)
def HI:=bF (.g [.i .i64,.i .i64,.i .i64,.i .i64,.l,.l,.i .u64,.i .u64,.i .u64,.i .u64,.i .u64,.i .u64])
def fF:=λb c d e f g i w (Q:Int->Int->Int->Int->L3 (L3 (Int->Int->Int->Int->Int->Int->WP)))=>aq P 12 #[.pointer b,.agg #[ae c,ae d,ae e,.slice f g i]] w (HI Q)
def Cw:=bF (.o .l)
def oF:=λb c d e f w (Q:L3 WP)=>aq P 13 #[.agg #[ae b,ae c,.slice d e f]] w (Cw Q)
def NQ:=bF (.o .l)
def pW:=λb w (Q:L3 WP)=>aq P 14 #[.pointer b] w (NQ Q)
def NR:=bF (.o .b)
def vv:=λw (Q:Bool->WP)=>aq P 15 #[] w (NR Q)
def BZ:=bF (.o (.i .i64))
def nQ:=λb c d e w (Q:Int->WP)=>aq P 21 #[ae b,ae c,ae d,ae e] w (BZ Q)
def NS:=bF (.g [.i .u64,.i .u64,.i .u64,.i .u64,.i .u64,.i .u64])
def vw:=λb w (Q:Int->Int->Int->Int->Int->Int->WP)=>aq P 22 #[.pointer b] w (NS Q)
def MW:=bF (.o (.i .i64))
def oQ:=λb c w (Q:Int->WP)=>aq P 23 #[ae b,ae c] w (MW Q)
def ahS:=bF (.o .p)
def Il:=λb w (Q:OA->WP)=>aq P 27 #[ae b] w (ahS Q)
def A9:=bF (.o .w)
def zl:=λb c d e f g i j w (Q:Value->WP)=>aq P 28 #[.pointer b,.agg #[ae c,ae d,ae e,.slice f g i],.pointer j] w (A9 Q)
def afV:=bF (.o (.i .i64))
def B0:=λb w (Q:Int->WP)=>aq P 29 #[b] w (afV Q)
def JK:=fU [.o (.i .i64),.o .l]
def r8:=λb c d e f w (Q:Int->L3 WP)=>aq P 30 #[.agg #[ae b,ae c,.slice d e f]] w (JK Q)
def Cy:=bF (.g [.i .i64,.i .i64,.l])
def s9:=λb c d e f g w (Q:Int->Int->L3 WP)=>aq P 31 #[.agg #[ae b,ae c,.slice d e f],ae g] w (Cy Q)
def Ss:=bF (.o .p)
def Eg:=λb w (Q:OA->WP)=>aq P 32 #[.pointer b] w (Ss Q)
def NT:=bF (.o .l)
def mQ:=λb w (Q:L3 WP)=>aq P 33 #[.pointer b] w (NT Q)
def Cz:=bF (.o .b)
def s_:=λb c d e f g w (Q:Bool->WP)=>aq P 34 #[.slice b c d,.slice e f g] w (Cz Q)
def Su:=bF (.o .p)
def Eh:=λb w (Q:OA->WP)=>aq P 39 #[.pointer b] w (Su Q)
def Zr:=fU [.o (.i .i64),.o (.i .i64)]
def sA:=λb c d w (Q:Int->Int->WP)=>aq P 41 #[ae b,ae c,ae d] w (Zr Q)
def abl:=bF (.o (.i .i64))
def zm:=λb c d e w (Q:Int->WP)=>aq P 42 #[ae b,ae c,ae d,ae e] w (abl Q)
def V9:=bF (.g [.i .u64,.i .u64,.i .u64,.i .u64,.i .u64,.i .u64])
def Aj:=λb w (Q:Int->Int->Int->Int->Int->Int->WP)=>aq P 43 #[.pointer b] w (V9 Q)
def JL:=fU [.o (.i .i64),.o (.i .i64)]
def kC:=λb c w (Q:Int->Int->WP)=>aq P 44 #[ae b,ae c] w (JL Q)
def aeb:=bF (.o .p)
def E4:=λb w (Q:OA->WP)=>aq P 47 #[ae b] w (aeb Q)
def ajA:=bF (.o .b)
def JM:=λb c d e f g w (Q:Bool->WP)=>aq P 48 #[.agg #[ae b,ae c,ae d,.slice e f g]] w (ajA Q)
def Ei:=bF (.o .w)
def vz:=λb c d e f g i w (Q:Value->WP)=>aq P 49 #[.pointer b,.agg #[ae c,ae d,ae e,.slice f g i]] w (Ei Q)
def Qc:=bF (.o .w)
def wV:=λb c d e w (Q:Value->WP)=>aq P 50 #[.pointer b,.slice c d e] w (Qc Q)
def V_:=fU []
def uR:=λb w (Q:WP)=>aq P 51 #[.pointer b] w (V_ Q)
def E5:=bF (.o .w)
def wW:=λb c d w (Q:Value->WP)=>aq P 52 #[.pointer b,ae c,ae d] w (E5 Q)
def NU:=fU [.o (.i .i64),.o .w]
def vA:=λb c d w (Q:Int->Value->WP)=>aq P 53 #[.pointer b,ae c,ae d] w (NU Q)
def abm:=bF (.o .w)
def fW:=λb w (Q:Value->WP)=>aq P 54 #[ae b] w (abm Q)
def JN:=bF (.o (.i .i64))
def r9:=λb c d w (Q:Int->WP)=>aq P 55 #[.pointer b,ae c,ae d] w (JN Q)
def La:=bF (.o (.i .i64))
def tf:=λb c w (Q:Int->WP)=>aq P 56 #[.pointer b,ae c] w (La Q)
def NV:=bF (.o .w)
def vB:=λb c d e w (Q:Value->WP)=>aq P 57 #[.pointer b,.pointer c,ae d,ae e] w (NV Q)
def Qd:=bF (.o .w)
def wX:=λb c w (Q:Value->WP)=>aq P 58 #[.pointer b,.pointer c] w (Qd Q)
def aec:=bF (.o .b)
def oR:=λb c w (Q:Bool->WP)=>aq P 59 #[b,c] w (aec Q)
def Im:=bF (.o .b)
def m7:=λb c w (Q:Bool->WP)=>aq P 60 #[b,c] w (Im Q)
def lu:=bF (.o .l)
def vC:=λb c d w (Q:L3 WP)=>aq P 61 #[.slice b c d] w (lu Q)
def NW:=fU [.o (.i .i64),.o (.i .i64)]
def pX:=λb c d w (Q:Int->Int->WP)=>aq P 62 #[ae b,ae c,ae d] w (NW Q)
def Lb:=bF (.o (.i .i64))
def tg:=λb c d e w (Q:Int->WP)=>aq P 63 #[ae b,ae c,ae d,ae e] w (Lb Q)
def Gd:=bF (.o .l)
def xY:=λb w (Q:L3 WP)=>aq P 64 #[.pointer b] w (Gd Q)
def Qe:=bF (.o .b)
def wY:=λb c w (Q:Bool->WP)=>aq P 65 #[ae b,ae c] w (Qe Q)
def afW:=bF (.o .b)
def xZ:=λb c d w (Q:Bool->WP)=>aq P 68 #[ae b,ae c,ae d] w (afW Q)
def aed:=bF (.o .b)
def kW:=λb c w (Q:Bool->WP)=>aq P 69 #[ae b,ae c] w (aed Q)
def Io:=bF (.g [.i .u64,.i .u64,.i .u64,.i .u64,.i .u64,.i .u64])
def v8:=λb c d e f g i j l m n o w (Q:Int->Int->Int->Int->Int->Int->WP)=>aq P 70 #[.agg #[.int .u64 b,.int .u64 c,.int .u64 d,.int .u64 e,.int .u64 f,.int .u64 g],.agg #[.int .u64 i,.int .u64 j,.int .u64 l,.int .u64 m,.int .u64 n,.int .u64 o]] w (Io Q)
def TS:=bF (.g [.i .u64,.i .u64,.i .u64,.i .u64,.i .u64,.i .u64])
def tj:=λb w (Q:Int->Int->Int->Int->Int->Int->WP)=>aq P 71 #[.pointer b] w (TS Q)
def NX:=bF (.g [.i .u64,.i .u64,.i .u64,.i .u64,.i .u64,.i .u64])
def vD:=λb w (Q:Int->Int->Int->Int->Int->Int->WP)=>aq P 72 #[.pointer b] w (NX Q)
def ahT:=bF (.o .p)
def Ip:=λb w (Q:OA->WP)=>aq P 74 #[ae b] w (ahT Q)
def ajB:=bF (.o .b)
def JO:=λb c d w (Q:Bool->WP)=>aq P 75 #[.slice b c d] w (ajB Q)
def Iq:=fU [.g [.i .i64,.i .i64,.b],.o .b]
def v9:=λb w (Q:Int->Int->Bool->Bool->WP)=>aq P 76 #[ae b] w (Iq Q)
def ahU:=bF (.o .b)
def zX:=λb c w (Q:Bool->WP)=>aq P 77 #[ae b,ae c] w (ahU Q)
def XG:=bF (.o (.i .i64))
def qZ:=λb c w (Q:Int->WP)=>aq P 78 #[.pointer b,ae c] w (XG Q)
def aee:=fU [.g [.i .i64,.i .i64,.l],.o (.i .i64)]
def E6:=λb c d w (Q:Int->Int->L3 (Int->WP))=>aq P 79 #[.slice b c d] w (aee Q)
def XH:=bF (.o (.i .i64))
def A_:=λb c d e f g w (Q:Int->WP)=>aq P 80 #[.pointer b,.agg #[ae c,ae d,.slice e f g]] w (XH Q)
def aef:=bF (.o .p)
def E7:=λb c d w (Q:OA->WP)=>aq P 81 #[ae b,ae c,ae d] w (aef Q)
def NY:=fU []
def pY:=λb w (Q:WP)=>aq P 82 #[.pointer b] w (NY Q)
def N0:=fU []
def pZ:=λb w (Q:WP)=>aq P 83 #[.pointer b] w (N0 Q)
def Sv:=bF (.o (.i .i64))
def x6:=λb c w (Q:Int->WP)=>aq P 84 #[.pointer b,ae c] w (Sv Q)
def XI:=bF (.o (.i .i64))
def Ba:=λb c d w (Q:Int->WP)=>aq P 85 #[.pointer b,ae c,ae d] w (XI Q)
def N2:=fU [.o (.i .i64),.o (.i .i64)]
def vF:=λb c d w (Q:Int->Int->WP)=>aq P 86 #[.pointer b,ae c,ae d] w (N2 Q)
def Sw:=fU [.g [.i .i64,.i .i64,.i .i64],.o .b]
def iE:=λb c w (Q:Int->Int->Int->Bool->WP)=>aq P 87 #[.pointer b,ae c] w (Sw Q)
def TT:=bF (.o .b)
def oS:=λb c w (Q:Bool->WP)=>aq P 88 #[.pointer b,ae c] w (TT Q)
def rE:=bF (.o (.i .i64))
def mR:=λb c d e w (Q:Int->WP)=>aq P 89 #[.pointer b,ae c,ae d,ae e] w (rE Q)
def Qf:=fU []
def nu:=λb c d e w (Q:WP)=>aq P 90 #[.pointer b,.agg #[ae c,ae d,ae e]] w (Qf Q)
def Sy:=bF (.o .b)
def x7:=λb c d w (Q:Bool->WP)=>aq P 91 #[.pointer b,ae c,ae d] w (Sy Q)
def XJ:=fU [.o (.i .i64),.o (.i .i64),.o (.i .i64)]
def Bb:=λb c d w (Q:Int->Int->Int->WP)=>aq P 92 #[.pointer b,ae c,ae d] w (XJ Q)
def iY:=fU [.o .l,.o .w]
def wZ:=λb c d e w (Q:L3 (Value->WP))=>aq P 93 #[.pointer b,.slice c d e] w (iY Q)
def tq:=fU [.o .l,.o .l,.o (.i .i64)]
def w8:=λb c d e w (Q:L3 (L3 (Int->WP)))=>aq P 94 #[.pointer b,.slice c d e] w (tq Q)
def pK:=bF (.o .b)
def v_:=λb c d w (Q:Bool->WP)=>aq P 96 #[b,c,.bool d] w (pK Q)
def vS:=bF (.o .b)
def E8:=λb c d e f g w (Q:Bool->WP)=>aq P 100 #[b,c,.agg #[.pointer d,.pointer e,.int .u64 f],g] w (vS Q)
def Sz:=bF (.o .b)
def lz:=λb c d w (Q:Bool->WP)=>aq P 101 #[ae b,ae c,ae d] w (Sz Q)
def Ej:=bF (.o .l)
def p8:=λb w (Q:L3 WP)=>aq P 102 #[.pointer b] w (Ej Q)
def Ir:=bF (.o .l)
def mC:=λb c d w (Q:L3 WP)=>aq P 103 #[.slice b c d] w (Ir Q)
def XK:=bF (.g [.i .u64,.i .u64,.i .u64,.i .u64,.i .u64,.i .u64])
def cQ:=λb c d e f g w (Q:Int->Int->Int->Int->Int->Int->WP)=>aq P 104 #[.agg #[.int .u64 b,.int .u64 c,.int .u64 d,.int .u64 e,.int .u64 f,.int .u64 g]] w (XK Q)
def aeg:=bF (.o (.i .u64))
def rF:=λb c w (Q:Int->WP)=>aq P 105 #[.int .u64 b,.int .u64 c] w (aeg Q)
def SA:=bF (.o (.i .u64))
def rG:=λb w (Q:Int->WP)=>aq P 106 #[.pointer b] w (SA Q)
def MX:=bF (.o (.i .u64))
def oT:=λb w (Q:Int->WP)=>aq P 107 #[.pointer b] w (MX Q)
def Wa:=fU []
def uS:=λb w (Q:WP)=>aq P 108 #[.pointer b] w (Wa Q)
def ahV:=fU [.g [.i .i64,.i .i64,.i .i64,.l],.o (.i .i64)]
def Is:=λb c d w (Q:Int->Int->Int->L3 (Int->WP))=>aq P 109 #[.slice b c d] w (ahV Q)
def TU:=bF (.o (.i .i64))
def eU:=λb c w (Q:Int->WP)=>aq P 110 #[.pointer b,ae c] w (TU Q)
def N3:=fU [.g [.i .i64,.i .i64,.l],.o .w]
def DN:=λb c d w (Q:Int->Int->L3 (Value->WP))=>aq P 111 #[.slice b c d] w (N3 Q)
def aeh:=bF (.o .b)
def AD:=λb c d e f w (Q:Bool->WP)=>aq P 112 #[.agg #[ae b,ae c,.slice d e f]] w (aeh Q)
def TV:=bF (.o .p)
def GF:=λb c d e f g w (Q:OA->WP)=>aq P 113 #[.agg #[ae b,ae c,.slice d e f],ae g] w (TV Q)
def SB:=bF (.o (.i .i64))
def fQ:=λb w (Q:Int->WP)=>aq P 114 #[.pointer b] w (SB Q)
def afX:=bF (.o .p)
def GG:=λb w (Q:OA->WP)=>aq P 115 #[.pointer b] w (afX Q)
def aei:=bF (.o .p)
def E9:=λb c w (Q:OA->WP)=>aq P 116 #[.pointer b,.pointer c] w (aei Q)
def aej:=bF (.o .p)
def E_:=λb w (Q:OA->WP)=>aq P 117 #[ae b] w (aej Q)
def aek:=bF (.o .p)
def Fa:=λb w (Q:OA->WP)=>aq P 118 #[ae b] w (aek Q)
def SC:=bF (.o (.i .i64))
def lA:=λb c w (Q:Int->WP)=>aq P 119 #[.pointer b,ae c] w (SC Q)
def TX:=bF (.o (.i .i64))
def zn:=λb c d w (Q:Int->WP)=>aq P 120 #[.pointer b,ae c,ae d] w (TX Q)
def SD:=fU [.o (.i .i64),.o .b]
def x8:=λb c d w (Q:Int->Bool->WP)=>aq P 121 #[.pointer b,ae c,ae d] w (SD Q)
def SE:=bF (.o .b)
def rH:=λb c d w (Q:Bool->WP)=>aq P 122 #[.pointer b,ae c,ae d] w (SE Q)
def XL:=bF (.o (.i .i64))
def dH:=λb c d w (Q:Int->WP)=>aq P 123 #[ae b,ae c,ae d] w (XL Q)
def SF:=bF (.o (.i .i64))
def x9:=λb w (Q:Int->WP)=>aq P 124 #[.pointer b] w (SF Q)
def Qg:=bF (.o .b)
def w9:=λb c w (Q:Bool->WP)=>aq P 125 #[.pointer b,ae c] w (Qg Q)
def Qh:=bF (.o (.i .i64))
def qM:=λb c w (Q:Int->WP)=>aq P 126 #[.pointer b,ae c] w (Qh Q)
def SG:=bF (.o .b)
def rI:=λb c d w (Q:Bool->WP)=>aq P 127 #[.pointer b,ae c,d] w (SG Q)
def N4:=fU []
def CA:=λb c w (Q:WP)=>aq P 128 #[.pointer b,.pointer c] w (N4 Q)
def XM:=fU [.o (.i .i64),.o (.i .i64),.o .w]
def Bc:=λb c d w (Q:Int->Int->Value->WP)=>aq P 129 #[.pointer b,ae c,ae d] w (XM Q)
def afY:=bF (.o (.i .i64))
def x_:=λb w (Q:Int->WP)=>aq P 130 #[b] w (afY Q)
def XN:=fU [.o (.i .i64),.o (.i .i64)]
def wc:=λb w (Q:Int->Int->WP)=>aq P 131 #[.pointer b] w (XN Q)
def Zs:=bF (.o (.i .i64))
def mW:=λb c d w (Q:Int->WP)=>aq P 132 #[ae b,ae c,ae d] w (Zs Q)
def ya:=bF (.o .l)
def DO:=λb c d e f w (Q:L3 WP)=>aq P 133 #[ae b,ae c,.slice d e f] w (ya Q)
def Wb:=fU [.g [.l,.l],.o (.i .i64)]
def uT:=λb c d w (Q:L3 (L3 (Int->WP)))=>aq P 134 #[.pointer b,ae c,ae d] w (Wb Q)
def JP:=fU [.o .l,.o .l,.o .l,.o (.i .i64)]
def GH:=λb c d e f g i j w (Q:L3 (L3 (L3 (Int->WP))))=>aq P 135 #[ae b,ae c,.slice d e f,.slice g i j] w (JP Q)
def N5:=bF (.o .b)
def vG:=λb c d w (Q:Bool->WP)=>aq P 136 #[.pointer b,ae c,ae d] w (N5 Q)
def Qi:=bF (.o .b)
def w_:=λb c d w (Q:Bool->WP)=>aq P 137 #[.pointer b,ae c,ae d] w (Qi Q)
def RS:=bF (.o (.i .i64))
def we:=λb c d w (Q:Int->WP)=>aq P 140 #[.slice b c d] w (RS Q)
def abn:=bF (.o (.i .i64))
def DP:=λb c w (Q:Int->WP)=>aq P 141 #[ae b,ae c] w (abn Q)
def abo:=fU [.o (.i .i64),.o (.i .i64)]
def nR:=λb c d w (Q:Int->Int->WP)=>aq P 142 #[ae b,ae c,ae d] w (abo Q)
def TY:=fU [.g [.i .i64,.i .i64,.l],.o (.i .i64),.o (.i .i64)]
def GI:=λb c d e f w (Q:Int->Int->L3 (Int->Int->WP))=>aq P 143 #[.slice b c d,ae e,ae f] w (TY Q)
def RT:=fU []
def Fb:=λb c d e f g i j l m n w (Q:WP)=>aq P 144 #[.agg #[ae b,ae c,.slice d e f],ae g,.agg #[ae i,ae j,.slice l m n]] w (RT Q)
def F6:=bF (.o .b)
def iH:=λb c d e w (Q:Bool->WP)=>aq P 145 #[.slice b c d,.int .u8 e] w (F6 Q)
def Wc:=fU [.o (.i .i64),.o (.i .i64)]
def kO:=λb c w (Q:Int->Int->WP)=>aq P 146 #[ae b,ae c] w (Wc Q)
def TZ:=fU [.o (.i .i64),.o (.i .i64)]
def eG:=λb w (Q:Int->Int->WP)=>aq P 147 #[.pointer b] w (TZ Q)
def T0:=bF (.o .b)
def tu:=λb c w (Q:Bool->WP)=>aq P 148 #[.pointer b,ae c] w (T0 Q)
def Qj:=bF (.o .b)
def qN:=λb c w (Q:Bool->WP)=>aq P 149 #[.pointer b,ae c] w (Qj Q)
def xJ:=fU [.g [.l,.l],.o .w]
def uU:=λb c d w (Q:L3 (L3 (Value->WP)))=>aq P 150 #[.pointer b,ae c,ae d] w (xJ Q)
def T1:=bF (.o .b)
def B1:=λb c d e f w (Q:Bool->WP)=>aq P 151 #[ae b,ae c,.slice d e f] w (T1 Q)
def N6:=bF (.o .l)
def DQ:=λb c d w (Q:L3 WP)=>aq P 152 #[.slice b c d] w (N6 Q)
def abp:=bF (.o .b)
def JQ:=λb w (Q:Bool->WP)=>aq P 153 #[ae b] w (abp Q)
def EL:=bF (.o .b)
def nv:=λb c d e w (Q:Bool->WP)=>aq P 154 #[.slice b c d,e] w (EL Q)
def Fc:=bF (.o .b)
def xd:=λb c d w (Q:Bool->WP)=>aq P 155 #[.pointer b,.pointer c,ae d] w (Fc Q)
def MY:=fU []
def Bd:=λb c w (Q:WP)=>aq P 156 #[.pointer b,.pointer c] w (MY Q)
def XO:=fU [.o (.i .i64),.o (.i .i64),.o .b]
def wg:=λb c d w (Q:Int->Int->Bool->WP)=>aq P 157 #[ae b,ae c,ae d] w (XO Q)
def zo:=fU [.g [.i .i64,.i .i64,.l],.o .w]
def xe:=λb c d w (Q:Int->Int->L3 (Value->WP))=>aq P 158 #[.pointer b,ae c,ae d] w (zo Q)
def XP:=bF (.o (.i .i64))
def nV:=λb c d e w (Q:Int->WP)=>aq P 159 #[ae b,ae c,ae d,ae e] w (XP Q)
def zY:=bF (.o (.i .i64))
def yb:=λb c d e w (Q:Int->WP)=>aq P 160 #[.slice b c d,.int .u8 e] w (zY Q)
def HJ:=fU [.g [.i .i64,.i .i64,.l],.o .b]
def tA:=λb c w (Q:Int->Int->L3 (Bool->WP))=>aq P 161 #[.pointer b,ae c] w (HJ Q)
def zp:=bF (.o .l)
def Be:=λb c d w (Q:L3 WP)=>aq P 162 #[.pointer b,.pointer c,ae d] w (zp Q)
def yc:=bF (.o .p)
def vH:=λb c w (Q:OA->WP)=>aq P 163 #[.pointer b,ae c] w (yc Q)
def nh:=fU [.g [.l,.l],.o (.i .i64)]
def nW:=λb c d e f g i j l m n o w (Q:L3 (L3 (Int->WP)))=>aq P 164 #[.pointer b,ae c,ae d,ae e,.agg #[ae f,ae g,.slice i j l],.slice m n o] w (nh Q)
def N7:=bF (.o (.i .i64))
def iM:=λb c w (Q:Int->WP)=>aq P 165 #[.pointer b,ae c] w (N7 Q)
def yd:=bF (.o (.i .i64))
def wj:=λb c d e w (Q:Int->WP)=>aq P 166 #[.slice b c d,e] w (yd Q)
def Qk:=fU [.o .l,.o .w]
def xg:=λb c w (Q:L3 (Value->WP))=>aq P 167 #[.pointer b,ae c] w (Qk Q)
def afZ:=fU [.o .l,.o (.i .i64)]
def GJ:=λb c d e f w (Q:L3 (Int->WP))=>aq P 168 #[.agg #[ae b,ae c,.slice d e f]] w (afZ Q)
def Zt:=bF (.o .b)
def CK:=λb c d e f g w (Q:Bool->WP)=>aq P 169 #[.slice b c d,.slice e f g] w (Zt Q)
def N8:=bF (.o (.i .i64))
def vJ:=λb w (Q:Int->WP)=>aq P 170 #[.pointer b] w (N8 Q)
def JR:=bF (.o .l)
def nX:=λb c w (Q:L3 WP)=>aq P 171 #[.pointer b,ae c] w (JR Q)
def JS:=bF (.o .l)
def Bf:=λb c w (Q:L3 WP)=>aq P 172 #[.pointer b,ae c] w (JS Q)
def T2:=bF (.o (.i .i64))
def zq:=λb c w (Q:Int->WP)=>aq P 173 #[.pointer b,ae c] w (T2 Q)
def N9:=bF (.o (.i .i64))
def DR:=λb c d e w (Q:Int->WP)=>aq P 174 #[ae b,ae c,ae d,ae e] w (N9 Q)
def Ql:=bF (.o (.i .i64))
def xh:=λb w (Q:Int->WP)=>aq P 175 #[.pointer b] w (Ql Q)
def abq:=bF (.o .l)
def j8:=λb c d w (Q:L3 WP)=>aq P 176 #[.slice b c d] w (abq Q)
def Ek:=bF (.o (.i .i64))
def vK:=λb w (Q:Int->WP)=>aq P 177 #[.pointer b] w (Ek Q)
def iO:=bF (.o .p)
def tB:=λb c w (Q:OA->WP)=>aq P 178 #[.pointer b,ae c] w (iO Q)
def ael:=bF (.o .b)
def AE:=λb c d e f g i j w (Q:Bool->WP)=>aq P 179 #[.agg #[ae b,ae c,.slice d e f],.slice g i j] w (ael Q)
def LX:=fU [.o (.i .i64),.o .b,.o .b]
def CL:=λb c d w (Q:Int->Bool->Bool->WP)=>aq P 180 #[.pointer b,ae c,ae d] w (LX Q)
def abr:=bF (.o .b)
def DS:=λb c d e f g w (Q:Bool->WP)=>aq P 181 #[.slice b c d,.slice e f g] w (abr Q)
def aem:=fU []
def rJ:=λb w (Q:WP)=>aq P 182 #[.pointer b] w (aem Q)
def aen:=bF (.g [.l,.l])
def AF:=λb c d e f g w (Q:L3 (L3 WP))=>aq P 183 #[.agg #[.slice b c d,.slice e f g]] w (aen Q)
def LY:=fU [.g [.l,.l],.o (.i .i64)]
def CM:=λb c d e f g i j w (Q:L3 (L3 (Int->WP)))=>aq P 184 #[.agg #[ae b,ae c,.slice d e f],.slice g i j] w (LY Q)
def CN:=bF (.o .l)
def iZ:=λb c d w (Q:L3 WP)=>aq P 185 #[.slice b c d] w (CN Q)
def Qm:=fU [.o .l,.o .w]
def nA:=λb c w (Q:L3 (Value->WP))=>aq P 186 #[.pointer b,ae c] w (Qm Q)
def N_:=fU [.o .l,.o .w]
def p9:=λb c w (Q:L3 (Value->WP))=>aq P 187 #[.pointer b,ae c] w (N_ Q)
def zu:=bF (.o .l)
def q8:=λb c d e w (Q:L3 WP)=>aq P 188 #[.slice b c d,ae e] w (zu Q)
def tC:=fU [.o .l,.o .w]
def xj:=λb c w (Q:L3 (Value->WP))=>aq P 189 #[.pointer b,ae c] w (tC Q)
def af0:=bF (.o .b)
def ug:=λb c d e f w (Q:Bool->WP)=>aq P 190 #[.agg #[ae b,ae c,.slice d e f]] w (af0 Q)
def B2:=fU [.o (.i .i64),.o .l]
def DT:=λb c d e f w (Q:Int->L3 WP)=>aq P 191 #[.agg #[ae b,ae c,.slice d e f]] w (B2 Q)
def ux:=bF (.o .l)
def Bg:=λb c d w (Q:L3 WP)=>aq P 192 #[ae b,ae c,ae d] w (ux Q)
def Zu:=bF (.o .b)
def sB:=λb c w (Q:Bool->WP)=>aq P 193 #[.pointer b,ae c] w (Zu Q)
def XQ:=bF (.g [.i .i64,.i .i64,.i .i64,.i .i64])
def wk:=λw (Q:Int->Int->Int->Int->WP)=>aq P 194 #[] w (XQ Q)
def Zv:=bF (.o (.i .i64))
def xK:=λb c d e w (Q:Int->WP)=>aq P 195 #[ae b,ae c,ae d,ae e] w (Zv Q)
def AV:=fU []
def kE:=λb c d e w (Q:WP)=>aq P 196 #[.slice b c d,e] w (AV Q)
def Zw:=bF (.o (.i .i64))
def CO:=λb c d e f g w (Q:Int->WP)=>aq P 197 #[.agg #[ae b,ae c,ae d],.agg #[ae e,ae f,ae g]] w (Zw Q)
def i_:=bF (.o .l)
def kP:=λb c d w (Q:L3 WP)=>aq P 198 #[.slice b c d] w (i_ Q)
def Ge:=bF (.o .l)
def ye:=λb w (Q:L3 WP)=>aq P 199 #[.pointer b] w (Ge Q)
def wm:=bF (.g [.i .i64,.l,.l])
def zv:=λb c w (Q:Int->L3 (L3 WP))=>aq P 200 #[.pointer b,ae c] w (wm Q)
def pR:=bF (.o .l)
def oL:=λb c d e w (Q:L3 WP)=>aq P 201 #[.slice b c d,ae e] w (pR Q)
def af1:=bF (.o .p)
def B3:=λw (Q:OA->WP)=>aq P 202 #[] w (af1 Q)
def jW:=bF (.o .m)
def tD:=λb c w (Q:ON->WP)=>aq P 203 #[.pointer b,ae c] w (jW Q)
def SH:=bF (.o .l)
def yf:=λb c w (Q:L3 WP)=>aq P 204 #[.pointer b,ae c] w (SH Q)
def Qn:=bF (.o .b)
def nB:=λb c d w (Q:Bool->WP)=>aq P 205 #[.pointer b,ae c,ae d] w (Qn Q)
def T3:=fU []
def mD:=λb c d w (Q:WP)=>aq P 206 #[.pointer b,ae c,ae d] w (T3 Q)
def CP (Q:Int->Int->Bool->World->Prop)(v:Value)(w:World):Prop:=
 dT v λc=>c_ c λd e=>dI .i64 d λf=>c_ e λg i=>dI .i64 g λj=>c_ i λl m=>dB l λn=>j7 m<|Q f j n w
def jr:=λb w (Q:Int->Int->Bool->WP)=>aq P 207 #[.pointer b] w (CP Q)
def Gf {b:Option Addr}{w:World}{Q Q':Int->Int->Bool->World->Prop}(hq:∀a b c w,Q a b c w->Q' a b c w)(h:jr b w Q):jr b w Q':=by
 refine aq.mono ?_ h
 intro v w' h0
 unfold CP at h0⊢
 obtain⟨c,rfl,h1⟩:=abb h0
 obtain⟨d,e,rfl,h2⟩:=jt h1
 obtain⟨f,rfl,h3⟩:=BT h2
 obtain⟨g,i,rfl,h4⟩:=jt h3
 obtain⟨j,rfl,h5⟩:=BT h4
 obtain⟨l,m,rfl,h6⟩:=jt h5
 obtain⟨n,rfl,h7⟩:=Gu h6
 obtain⟨rfl,h8⟩:=qU h7
 exact hq _ _ _ w' h8
def Bh:=bF (.o .l)
def zw:=λb c w (Q:L3 WP)=>aq P 208 #[.pointer b,ae c] w (Bh Q)
def yX:=bF (.o .b)
def nM:=λb c d e w (Q:Bool->WP)=>aq P 209 #[.slice b c d,e] w (yX Q)
def Zx:=bF (.o .b)
def CQ:=λb c d e w (Q:Bool->WP)=>aq P 210 #[.agg #[ae b,ae c,ae d],.pointer e] w (Zx Q)
def aeo:=bF (.o .b)
def Fe:=λb c d e f g i w (Q:Bool->WP)=>aq P 211 #[.agg #[ae b,ae c,.slice d e f],ae g,ae i] w (aeo Q)
def HK:=fU []
def tE:=λb c w (Q:WP)=>aq P 212 #[.pointer b,ae c] w (HK Q)
def JT:=fU []
def wo:=λb c w (Q:WP)=>aq P 213 #[.pointer b,ae c] w (JT Q)
def sC:=bF (.o .b)
def q9:=λb c d e f g w (Q:Bool->WP)=>aq P 214 #[.slice b c d,.slice e f g] w (sC Q)
def JU:=bF (.o .l)
def kF:=λb c d w (Q:L3 WP)=>aq P 215 #[.slice b c d] w (JU Q)
def JV:=fU [.o .l,.o (.i .i64)]
def wq:=λb c d e f g i j w (Q:L3 (Int->WP))=>aq P 216 #[.agg #[ae b,ae c,.slice d e f],.slice g i j] w (JV Q)
def T4:=bF (.o (.i .i64))
def zx:=λb c w (Q:Int->WP)=>aq P 217 #[.pointer b,ae c] w (T4 Q)
def Wd:=fU [.o (.i .u64),.o (.i .u64)]
def qf:=λb c w (Q:Int->Int->WP)=>aq P 218 #[.int .u64 b,.int .u64 c] w (Wd Q)
def abt:=bF (.o .b)
def zy:=λb w (Q:Bool->WP)=>aq P 220 #[ae b] w (abt Q)
def yg:=bF (.o .l)
def GK:=λb c d e f g w (Q:L3 WP)=>aq P 221 #[.agg #[ae b,ae c,.slice d e f],ae g] w (yg Q)
def DU:=bF (.o .l)
def Bi:=λb c d w (Q:L3 WP)=>aq P 222 #[ae b,ae c,ae d] w (DU Q)
def cB:=fU []
def e9:=λb c d e f g i w (Q:WP)=>aq P 223 #[.slice b c d,ae e,ae f,ae g,i] w (cB Q)
def We:=bF (.o (.i .i64))
def uV:=λb w (Q:Int->WP)=>aq P 224 #[.int .u64 b] w (We Q)
def Oa:=bF (.o (.i .i64))
def DV:=λb c d w (Q:Int->WP)=>aq P 225 #[.slice b c d] w (Oa Q)
def SI:=bF (.o (.i .i64))
def nY:=λb c w (Q:Int->WP)=>aq P 226 #[ae b,ae c] w (SI Q)
def B4:=fU [.o .l,.o (.i .i64)]
def DW:=λb c d e f g i j w (Q:L3 (Int->WP))=>aq P 227 #[.agg #[ae b,ae c,.slice d e f],.slice g i j] w (B4 Q)
def JW:=fU []
def Bj:=λb w (Q:WP)=>aq P 228 #[.pointer b] w (JW Q)
def Wf:=fU [.o (.i .i64),.o (.i .i64),.o .b]
def Ak:=λb w (Q:Int->Int->Bool->WP)=>aq P 229 #[.pointer b] w (Wf Q)
def nZ:=fU []
def zz:=λb w (Q:WP)=>aq P 230 #[.pointer b] w (nZ Q)
def T5:=fU [.o .p,.o (.i .i64),.o .b]
def tF:=λb c w (Q:OA->Int->Bool->WP)=>aq P 231 #[.pointer b,ae c] w (T5 Q)
def Ob:=bF (.o (.i .i64))
def vL:=λb c d w (Q:Int->WP)=>aq P 232 #[.pointer b,ae c,ae d] w (Ob Q)
def qg:=bF (.o (.i .i64))
def oU:=λb c d e w (Q:Int->WP)=>aq P 233 #[.slice b c d,e] w (qg Q)
def af2:=bF (.o .p)
def B5:=λb w (Q:OA->WP)=>aq P 234 #[ae b] w (af2 Q)
def tG:=bF (.o .l)
def jS:=λb c d e w (Q:L3 WP)=>aq P 235 #[.slice b c d,ae e] w (tG Q)
def Em:=fU []
def CB:=λb w (Q:WP)=>aq P 236 #[.pointer b] w (Em Q)
def B6:=bF (.o (.i .i64))
def zA:=λb c d e f w (Q:Int->WP)=>aq P 237 #[.slice b c d,ae e,ae f] w (B6 Q)
def tH:=bF (.o (.i .i64))
def C9:=λb c d w (Q:Int->WP)=>aq P 238 #[.pointer b,ae c,ae d] w (tH Q)
def SJ:=fU [.o (.i .u64),.o (.i .u64)]
def En:=λb c w (Q:Int->Int->WP)=>aq P 240 #[.int .u64 b,.int .u64 c] w (SJ Q)
def C_:=bF (.o .b)
def mE:=λb c d e w (Q:Bool->WP)=>aq P 241 #[.slice b c d,e] w (C_ Q)
def abu:=bF (.o .b)
def JX:=λb c w (Q:Bool->WP)=>aq P 242 #[.int .u8 b,.pointer c] w (abu Q)
def gY:=fU []
def jv:=λb c d e f g w (Q:WP)=>aq P 243 #[.slice b c d,ae e,ae f,g] w (gY Q)
def mF:=fU []
def lj:=λb c d e f g w (Q:WP)=>aq P 244 #[.slice b c d,ae e,ae f,g] w (mF Q)
def gZ:=fU []
def jw:=λb c d e f g w (Q:WP)=>aq P 245 #[.slice b c d,ae e,ae f,g] w (gZ Q)
def kQ:=fU [.o (.i .i64),.o (.i .i64)]
def j9:=λb c d e f g w (Q:Int->Int->WP)=>aq P 246 #[.slice b c d,ae e,ae f,g] w (kQ Q)
def pL:=fU []
def jO:=λb c d e f g w (Q:WP)=>aq P 247 #[.slice b c d,ae e,ae f,g] w (pL Q)
def bj:=bF (.o .b)
def ig:=λb c d e f g w (Q:Bool->WP)=>aq P 248 #[.slice b c d,ae e,ae f,g] w (bj Q)
def ej:=bF (.o (.i .i64))
def jq:=λb c d e f g i w (Q:Int->WP)=>aq P 249 #[.slice b c d,ae e,ae f,ae g,i] w (ej Q)
def cK:=fU [.o (.i .i64),.o .b]
def kS:=λb c d e f g i w (Q:Int->Bool->WP)=>aq P 250 #[.slice b c d,ae e,ae f,ae g,i] w (cK Q)
def uW:=bF (.o (.i .i64))
def Eo:=λb w (Q:Int->WP)=>aq P 252 #[.int .u64 b] w (uW Q)
def Wg:=bF (.o .b)
def qh:=λb w (Q:Bool->WP)=>aq P 253 #[ae b] w (Wg Q)
def RU:=bF (.o .b)
def Ff:=λb c d e f g i j w (Q:Bool->WP)=>aq P 254 #[.agg #[ae b,ae c,.slice d e f],.slice g i j] w (RU Q)
def af3:=fU [.o .l,.o (.i .i64)]
def GL:=λb c d e f g w (Q:L3 (Int->WP))=>aq P 255 #[.agg #[ae b,ae c,.slice d e f],ae g] w (af3 Q)
def SK:=bF (.o .b)
def rK:=λb c d e w (Q:Bool->WP)=>aq P 256 #[.agg #[ae b,ae c],.agg #[ae d,ae e]] w (SK Q)
def Wh:=bF (.o (.i .i64))
def Am:=λb w (Q:Int->WP)=>aq P 257 #[.pointer b] w (Wh Q)
def SL:=fU [.o (.i .i64),.o .b]
def Ep:=λb c w (Q:Int->Bool->WP)=>aq P 258 #[.pointer b,ae c] w (SL Q)
def Da:=fU []
def jx:=λb w (Q:WP)=>aq P 259 #[.pointer b] w (Da Q)
def Wi:=bF (.o (.i .i64))
def qi:=λb w (Q:Int->WP)=>aq P 260 #[.pointer b] w (Wi Q)
def IS:=fU [.o (.i .i64),.o (.i .i64),.o .b]
def An:=λb w (Q:Int->Int->Bool->WP)=>aq P 261 #[.pointer b] w (IS Q)
def oV:=fU []
def r_:=λb c w (Q:WP)=>aq P 262 #[.pointer b,ae c] w (oV Q)
def Wj:=bF (.o .b)
def ni:=λb c d w (Q:Bool->WP)=>aq P 263 #[.pointer b,ae c,ae d] w (Wj Q)
def wu:=bF (.o (.i .i64))
def uy:=λb c d e w (Q:Int->WP)=>aq P 264 #[.slice b c d,e] w (wu Q)
def ji:=fU []
def iJ:=λb c d e f g i w (Q:WP)=>aq P 265 #[.slice b c d,ae e,ae f,ae g,i] w (ji Q)
def I8:=bF (.o (.i .u64))
def za:=λb w (Q:Int->WP)=>aq P 266 #[ae b] w (I8 Q)
def JY:=bF (.o (.i .u64))
def sj:=λb w (Q:Int->WP)=>aq P 267 #[.pointer b] w (JY Q)
def yY:=bF (.o (.i .i64))
def eZ:=λb c d e f g w (Q:Int->WP)=>aq P 268 #[.slice b c d,ae e,.pointer f,g] w (yY Q)
def Db:=bF (.o (.i .i64))
def jj:=λb c d e f g i j w (Q:Int->WP)=>aq P 269 #[.slice b c d,ae e,ae f,ae g,.pointer i,j] w (Db Q)
def ahW:=bF (.o (.i .i64))
def It:=λb c d e f g w (Q:Int->WP)=>aq P 270 #[.agg #[ae b,ae c,.slice d e f],ae g] w (ahW Q)
def vo:=fU [.o (.i .i64),.o .b]
def nC:=λb c d e w (Q:Int->Bool->WP)=>aq P 271 #[.slice b c d,ae e] w (vo Q)
def T6:=bF (.o .b)
def zB:=λb c w (Q:Bool->WP)=>aq P 272 #[.pointer b,ae c] w (T6 Q)
def Wk:=bF (.o .b)
def uX:=λb c d w (Q:Bool->WP)=>aq P 273 #[.pointer b,ae c,ae d] w (Wk Q)
def Oc:=bF (.o .b)
def p_:=λb w (Q:Bool->WP)=>aq P 274 #[.pointer b] w (Oc Q)
def SM:=bF (.o (.i .i64))
def yh:=λb w (Q:Int->WP)=>aq P 275 #[.pointer b] w (SM Q)
def Lc:=fU []
def g6:=λb c d w (Q:WP)=>aq P 276 #[.pointer b,ae c,ae d] w (Lc Q)
def uY:=bF (.o (.i .i64))
def yj:=λb c d w (Q:Int->WP)=>aq P 277 #[.pointer b,ae c,ae d] w (uY Q)
def Dc:=fU [.o (.i .i64),.o (.i .i64)]
def gE:=λb c d e f g i w (Q:Int->Int->WP)=>aq P 278 #[.slice b c d,ae e,ae f,.pointer g,i] w (Dc Q)
def ahX:=bF (.o .b)
def Iu:=λb c d e f g w (Q:Bool->WP)=>aq P 279 #[.agg #[ae b,ae c,.slice d e f],ae g] w (ahX Q)
def XR:=bF (.o .b)
def HL:=λb c w (Q:Bool->WP)=>aq P 280 #[ae b,ae c] w (XR Q)
def Qo:=bF (.o .b)
def nD:=λb w (Q:Bool->WP)=>aq P 281 #[ae b] w (Qo Q)
def SO:=fU []
def yl:=λb c w (Q:WP)=>aq P 282 #[.pointer b,ae c] w (SO Q)
def T7:=bF (.o .w)
def Fg:=λb w (Q:Value->WP)=>aq P 302 #[.pointer b] w (T7 Q)
def Od:=bF (.o .w)
def CC:=λb w (Q:Value->WP)=>aq P 321 #[.pointer b] w (Od Q)
def SP:=bF (.o .w)
def Er:=λb w (Q:Value->WP)=>aq P 325 #[.pointer b] w (SP Q)
def tI:=λa b c w Q=>bB (jh a b c w Q) (NZ (IntKind.wrap .i64 ((IntKind.wrap .i64 (c-b))+1))<|
cond (decide ((Int.tmod a (IntKind.wrap .i64 ((IntKind.wrap .i64 (c-b))+1)))<0))
(Q (IntKind.wrap .i64 (b+(IntKind.wrap .i64 ((IntKind.wrap .i64 ((IntKind.wrap .i64 ((Int.tmod a (IntKind.wrap .i64 ((IntKind.wrap .i64 (c-b))+1)))+c))-b))+1)))) w)
(Q (IntKind.wrap .i64 (b+(Int.tmod a (IntKind.wrap .i64 ((IntKind.wrap .i64 (c-b))+1))))) w)) (ok 24) [] [] Tryz.func10
def SQ:=λa w Q=>bB (uS a w Q) (cond (!a.isNone)
(cm P 180 none w λb w=>
wA a λc=>
St (c.add 1) (.slice none 0 0) w λw=>
wA a λd=>
St (d.add 2) (.map b) w λw=>
wA a λe=>
St (e.add 3) (ae (-1)) w λw=>
wA a λf=>
St (f.add 4) (ae (-1)) w λw=>
Q w)
(Q w)) (ok 17) [] [] Tryz.func108
def aep:=λa w Q=>bB (Ip a w Q) (cond (decide (a<1))
(Q none w)
(Bx [ae a,.slice none 0 0,.map none,ae 0,ae 0] 182 w λb w=>
uS (some b) w λw=>
Q (some b) w)) (ok 12) [] [] Tryz.func74
def Zy:=λa w Q=>bB (E4 a w Q) (cond (decide (a<1))
(Q none w)
(Ip a w λb w=>
Bx [.pointer b,.slice none 0 0,.int .u64 0,.int .u64 0,.int .u64 0,.int .u64 0,.int .u64 0,.int .u64 0] 135 w λc w=>
Q (some c) w)) (ok 9) [] [] Tryz.func47
def aeq:=λa w Q=>bB (Il a w Q) (cond (decide (a<1))
(Q none w)
(E4 a w λb w=>
Bx [.pointer none,.pointer none,.pointer none,.pointer b,.int .u64 0,.int .u64 0,.int .u64 0,.int .u64 0,.int .u64 0,.int .u64 0] 106 w λc w=>
Q (some c) w)) (ok 9) [] [] Tryz.func27
def aer:=λa b w Q=>bB (Ds a b w Q) (cond (decide (a<1))
(Q none w)
(cond (decide (b<1))
(Q none w)
(cond (decide (b>65536))
(Q none w)
(Il a w λc w=>
Bx [ae b,.pointer c,.pointer none] 72 w λd w=>
Q (some d) w)))) (ok 20) [] [] Tryz.func11
def Oe:=λa w Q=>bB (Eh a w Q) (cond a.isNone
(Q none w)
(wA a λb=>
bg (b.add 1) w λc=>
Q c w)) (ok 9) [] [] Tryz.func39
def T8:=λa b c d e f w Q=>bB (cQ a b c d e f w Q) (Bx [.int .u64 a,.int .u64 b,.int .u64 c,.int .u64 d,.int .u64 e,.int .u64 f] 32 w λg w=>
Al T 175 w λi w=>
af .u64 g w λj=>
af .u64 (g.add 1) w λl=>
af .u64 (g.add 2) w λm=>
af .u64 (g.add 3) w λn=>
af .u64 (g.add 4) w λo=>
af .u64 (g.add 5) w λp=>
St (i.add 0) (.int .u64 j) w λw=>
St (i.add 1) (.int .u64 l) w λw=>
St (i.add 2) (.int .u64 m) w λw=>
St (i.add 3) (.int .u64 n) w λw=>
St (i.add 4) (.int .u64 o) w λw=>
St (i.add 5) (.int .u64 p) w λw=>
af .u64 (i.add 0) w λq=>
af .u64 (i.add 1) w λr=>
af .u64 (i.add 2) w λs=>
af .u64 (i.add 3) w λt=>
af .u64 (i.add 4) w λu=>
af .u64 (i.add 5) w λv=>
Q q r s t u v w) (ok 16) [] [] Tryz.func104
def Zz:=λa b w Q=>bB (rF a b w Q) (cond (decide (a>(IntKind.wrap .u64 (18446744073709551615-b))))
(Q 18446744073709551615 w)
(Q (IntKind.wrap .u64 (a+b)) w)) (ok 12) [] [] Tryz.func105
def sq (Q:Int->Int->Int->Int->Int->Int->WP)(R3:Addr->Addr->Addr->Int->WP)(a b c:Addr)(d:Int)(w:World):Prop:=cond (decide (d<6)) (aH d 6<|af .u64 (b.add (d.toNat*1)) w.drew λe=>aH d 6<|af .u64 (c.add (d.toNat*1)) w.drew λf=>rF e f w.drew λg w=>aH d 6<|St (b.add (d.toNat*1)) (.int .u64 g) w λw=>R3 a b c (IntKind.wrap .i64 (d+1)) w) (aH 0 6<|af .u64 (b.add (((0:Int).toNat)*1)) w λi=>aH 1 6<|af .u64 (b.add (((1:Int).toNat)*1)) w λj=>aH 2 6<|af .u64 (b.add (((2:Int).toNat)*1)) w λl=>aH 3 6<|af .u64 (b.add (((3:Int).toNat)*1)) w λm=>aH 4 6<|af .u64 (b.add (((4:Int).toNat)*1)) w λn=>aH 5 6<|af .u64 (b.add (((5:Int).toNat)*1)) w λo=>St (a.add 0) (.int .u64 i) w λw=>St (a.add 1) (.int .u64 j) w λw=>St (a.add 2) (.int .u64 l) w λw=>St (a.add 3) (.int .u64 m) w λw=>St (a.add 4) (.int .u64 n) w λw=>St (a.add 5) (.int .u64 o) w λw=>af .u64 (a.add 0) w λp=>af .u64 (a.add 1) w λq=>af .u64 (a.add 2) w λr=>af .u64 (a.add 3) w λs=>af .u64 (a.add 4) w λt=>af .u64 (a.add 5) w λu=>Q p q r s t u w)
def pM (Q:Int->Int->Int->Int->Int->Int->WP):Nat->Addr->Addr->Addr->Int->WP
 |0,_,_,_,_,_=>False
 |k+1,a,b,c,d,w=>sq Q (pM Q k) a b c d w
def gM (Q:Int->Int->Int->Int->Int->Int->WP)(a b c:Addr)(w:World):Prop:=∃k',pM Q k' a b c 0 w
noncomputable def GM:cu:=[(1,.op 0 (.op 2 (.br (.op 1 (.br (.op 3 (.br (.op 4 (.op 5 (.op 6 (.op 7 .done)))) (.op 5 (.op 4 (.op 6 (.op 7 .done)))))) (.br (.op 4 (.br (.op 3 (.op 5 (.op 6 (.op 7 .done)))) (.op 5 (.op 3 (.op 6 (.op 7 .done)))))) (.op 5 (.br (.op 3 (.op 4 (.op 6 (.op 7 .done)))) (.op 4 (.op 3 (.op 6 (.op 7 .done))))))))) (.br (.op 4 (.br (.op 1 (.br (.op 3 (.op 5 (.op 6 (.op 7 .done)))) (.op 5 (.op 3 (.op 6 (.op 7 .done)))))) (.op 5 (.op 1 (.op 3 (.op 6 (.op 7 .done))))))) (.op 5 (.br (.op 1 (.br (.op 3 (.op 4 (.op 6 (.op 7 .done)))) (.op 4 (.op 3 (.op 6 (.op 7 .done)))))) (.op 4 (.op 1 (.op 3 (.op 6 (.op 7 .done))))))))))),(5,sp 0 7 (.op 7 (.op 8 (.op 9 .done))))]
def aes (Q):∀k,Bk 38 Tryz.f70 (Io Q) 3 [(4,.a),(5,.a),(6,.a),(12,.i .i64)] (pM Q k):=bK λk h=>aW (ok 38) GM [aN h]
def aet (Q):Bk 38 Tryz.f70 (Io Q) 2 [(4,.a),(5,.a),(6,.a)] (gM Q):=aW (ok 38) GM [ck (aes Q)]
def ZA:=λa b c d e f g i j l m n w Q=>bB (v8 a b c d e f g i j l m n w Q) (Bx [.int .u64 a,.int .u64 b,.int .u64 c,.int .u64 d,.int .u64 e,.int .u64 f] 32 w λo w=>
Bx [.int .u64 g,.int .u64 i,.int .u64 j,.int .u64 l,.int .u64 m,.int .u64 n] 32 w λp w=>
Al T 32 w λq w=>
af .u64 (o.add 0) w.drew λr=>
af .u64 (o.add 1) w.drew λs=>
af .u64 (o.add 2) w.drew λt=>
af .u64 (o.add 3) w.drew λu=>
af .u64 (o.add 4) w.drew λv=>
af .u64 (o.add 5) w.drew λx=>
af .u64 (p.add 0) w.drew λy=>
af .u64 (p.add 1) w.drew λz=>
af .u64 (p.add 2) w.drew λa1=>
af .u64 (p.add 3) w.drew λb1=>
af .u64 (p.add 4) w.drew λc1=>
af .u64 (p.add 5) w.drew λd1=>
(cQ r s t u v x w.drew λe1 f1 g1 i1 j1 l1 w=>
w.cell? (p.add 0)=some (.int .u64 y)/\
w.cell? (p.add 1)=some (.int .u64 z)/\
w.cell? (p.add 2)=some (.int .u64 a1)/\
w.cell? (p.add 3)=some (.int .u64 b1)/\
w.cell? (p.add 4)=some (.int .u64 c1)/\
w.cell? (p.add 5)=some (.int .u64 d1)/\
(cQ y z a1 b1 c1 d1 w λm1 n1 o1 p1 q1 r1 w=>
(Al T 175 w λs1 w=>
w.cell? (p.add 0)=some (.int .u64 y)/\
w.cell? (p.add 1)=some (.int .u64 z)/\
w.cell? (p.add 2)=some (.int .u64 a1)/\
w.cell? (p.add 3)=some (.int .u64 b1)/\
w.cell? (p.add 4)=some (.int .u64 c1)/\
w.cell? (p.add 5)=some (.int .u64 d1)/\
w.cell? (o.add 0)=some (.int .u64 r)/\
w.cell? (o.add 1)=some (.int .u64 s)/\
w.cell? (o.add 2)=some (.int .u64 t)/\
w.cell? (o.add 3)=some (.int .u64 u)/\
w.cell? (o.add 4)=some (.int .u64 v)/\
w.cell? (o.add 5)=some (.int .u64 x)/\
Al T 175 w λt1 w=>
w.cell? (p.add 0)=some (.int .u64 y)/\
w.cell? (p.add 1)=some (.int .u64 z)/\
w.cell? (p.add 2)=some (.int .u64 a1)/\
w.cell? (p.add 3)=some (.int .u64 b1)/\
w.cell? (p.add 4)=some (.int .u64 c1)/\
w.cell? (p.add 5)=some (.int .u64 d1)/\
w.cell? (o.add 0)=some (.int .u64 r)/\
w.cell? (o.add 1)=some (.int .u64 s)/\
w.cell? (o.add 2)=some (.int .u64 t)/\
w.cell? (o.add 3)=some (.int .u64 u)/\
w.cell? (o.add 4)=some (.int .u64 v)/\
w.cell? (o.add 5)=some (.int .u64 x)/\
St (s1.add 0) (.int .u64 e1) w λw=>
St (s1.add 1) (.int .u64 f1) w λw=>
St (s1.add 2) (.int .u64 g1) w λw=>
St (s1.add 3) (.int .u64 i1) w λw=>
St (s1.add 4) (.int .u64 j1) w λw=>
St (s1.add 5) (.int .u64 l1) w λw=>
St (t1.add 0) (.int .u64 m1) w λw=>
St (t1.add 1) (.int .u64 n1) w λw=>
St (t1.add 2) (.int .u64 o1) w λw=>
St (t1.add 3) (.int .u64 p1) w λw=>
St (t1.add 4) (.int .u64 q1) w λw=>
St (t1.add 5) (.int .u64 r1) w λw=>
gM Q q s1 t1 w)/\
(Al T 175 w λu1 w=>
w.cell? (p.add 0)=some (.int .u64 y)/\
w.cell? (p.add 1)=some (.int .u64 z)/\
w.cell? (p.add 2)=some (.int .u64 a1)/\
w.cell? (p.add 3)=some (.int .u64 b1)/\
w.cell? (p.add 4)=some (.int .u64 c1)/\
w.cell? (p.add 5)=some (.int .u64 d1)/\
w.cell? (o.add 0)=some (.int .u64 r)/\
w.cell? (o.add 1)=some (.int .u64 s)/\
w.cell? (o.add 2)=some (.int .u64 t)/\
w.cell? (o.add 3)=some (.int .u64 u)/\
w.cell? (o.add 4)=some (.int .u64 v)/\
w.cell? (o.add 5)=some (.int .u64 x)/\
Al T 175 w λv1 w=>
w.cell? (p.add 0)=some (.int .u64 y)/\
w.cell? (p.add 1)=some (.int .u64 z)/\
w.cell? (p.add 2)=some (.int .u64 a1)/\
w.cell? (p.add 3)=some (.int .u64 b1)/\
w.cell? (p.add 4)=some (.int .u64 c1)/\
w.cell? (p.add 5)=some (.int .u64 d1)/\
w.cell? (o.add 0)=some (.int .u64 r)/\
w.cell? (o.add 1)=some (.int .u64 s)/\
w.cell? (o.add 2)=some (.int .u64 t)/\
w.cell? (o.add 3)=some (.int .u64 u)/\
w.cell? (o.add 4)=some (.int .u64 v)/\
w.cell? (o.add 5)=some (.int .u64 x)/\
St (v1.add 0) (.int .u64 e1) w λw=>
St (v1.add 1) (.int .u64 f1) w λw=>
St (v1.add 2) (.int .u64 g1) w λw=>
St (v1.add 3) (.int .u64 i1) w λw=>
St (v1.add 4) (.int .u64 j1) w λw=>
St (v1.add 5) (.int .u64 l1) w λw=>
St (u1.add 0) (.int .u64 m1) w λw=>
St (u1.add 1) (.int .u64 n1) w λw=>
St (u1.add 2) (.int .u64 o1) w λw=>
St (u1.add 3) (.int .u64 p1) w λw=>
St (u1.add 4) (.int .u64 q1) w λw=>
St (u1.add 5) (.int .u64 r1) w λw=>
gM Q q v1 u1 w))/\
((Al T 175 w λx1 w=>
w.cell? (p.add 0)=some (.int .u64 y)/\
w.cell? (p.add 1)=some (.int .u64 z)/\
w.cell? (p.add 2)=some (.int .u64 a1)/\
w.cell? (p.add 3)=some (.int .u64 b1)/\
w.cell? (p.add 4)=some (.int .u64 c1)/\
w.cell? (p.add 5)=some (.int .u64 d1)/\
w.cell? (o.add 0)=some (.int .u64 r)/\
w.cell? (o.add 1)=some (.int .u64 s)/\
w.cell? (o.add 2)=some (.int .u64 t)/\
w.cell? (o.add 3)=some (.int .u64 u)/\
w.cell? (o.add 4)=some (.int .u64 v)/\
w.cell? (o.add 5)=some (.int .u64 x)/\
(cQ y z a1 b1 c1 d1 w λy1 z1 a2 b2 c2 d2 w=>
Al T 175 w λe2 w=>
w.cell? (p.add 0)=some (.int .u64 y)/\
w.cell? (p.add 1)=some (.int .u64 z)/\
w.cell? (p.add 2)=some (.int .u64 a1)/\
w.cell? (p.add 3)=some (.int .u64 b1)/\
w.cell? (p.add 4)=some (.int .u64 c1)/\
w.cell? (p.add 5)=some (.int .u64 d1)/\
w.cell? (o.add 0)=some (.int .u64 r)/\
w.cell? (o.add 1)=some (.int .u64 s)/\
w.cell? (o.add 2)=some (.int .u64 t)/\
w.cell? (o.add 3)=some (.int .u64 u)/\
w.cell? (o.add 4)=some (.int .u64 v)/\
w.cell? (o.add 5)=some (.int .u64 x)/\
St (x1.add 0) (.int .u64 e1) w λw=>
St (x1.add 1) (.int .u64 f1) w λw=>
St (x1.add 2) (.int .u64 g1) w λw=>
St (x1.add 3) (.int .u64 i1) w λw=>
St (x1.add 4) (.int .u64 j1) w λw=>
St (x1.add 5) (.int .u64 l1) w λw=>
St (e2.add 0) (.int .u64 y1) w λw=>
St (e2.add 1) (.int .u64 z1) w λw=>
St (e2.add 2) (.int .u64 a2) w λw=>
St (e2.add 3) (.int .u64 b2) w λw=>
St (e2.add 4) (.int .u64 c2) w λw=>
St (e2.add 5) (.int .u64 d2) w λw=>
gM Q q x1 e2 w)/\
(Al T 175 w λf2 w=>
w.cell? (p.add 0)=some (.int .u64 y)/\
w.cell? (p.add 1)=some (.int .u64 z)/\
w.cell? (p.add 2)=some (.int .u64 a1)/\
w.cell? (p.add 3)=some (.int .u64 b1)/\
w.cell? (p.add 4)=some (.int .u64 c1)/\
w.cell? (p.add 5)=some (.int .u64 d1)/\
w.cell? (o.add 0)=some (.int .u64 r)/\
w.cell? (o.add 1)=some (.int .u64 s)/\
w.cell? (o.add 2)=some (.int .u64 t)/\
w.cell? (o.add 3)=some (.int .u64 u)/\
w.cell? (o.add 4)=some (.int .u64 v)/\
w.cell? (o.add 5)=some (.int .u64 x)/\
cQ y z a1 b1 c1 d1 w λg2 i2 j2 l2 m2 n2 w=>
St (x1.add 0) (.int .u64 e1) w λw=>
St (x1.add 1) (.int .u64 f1) w λw=>
St (x1.add 2) (.int .u64 g1) w λw=>
St (x1.add 3) (.int .u64 i1) w λw=>
St (x1.add 4) (.int .u64 j1) w λw=>
St (x1.add 5) (.int .u64 l1) w λw=>
St (f2.add 0) (.int .u64 g2) w λw=>
St (f2.add 1) (.int .u64 i2) w λw=>
St (f2.add 2) (.int .u64 j2) w λw=>
St (f2.add 3) (.int .u64 l2) w λw=>
St (f2.add 4) (.int .u64 m2) w λw=>
St (f2.add 5) (.int .u64 n2) w λw=>
gM Q q x1 f2 w))/\
(Al T 175 w λo2 w=>
w.cell? (p.add 0)=some (.int .u64 y)/\
w.cell? (p.add 1)=some (.int .u64 z)/\
w.cell? (p.add 2)=some (.int .u64 a1)/\
w.cell? (p.add 3)=some (.int .u64 b1)/\
w.cell? (p.add 4)=some (.int .u64 c1)/\
w.cell? (p.add 5)=some (.int .u64 d1)/\
w.cell? (o.add 0)=some (.int .u64 r)/\
w.cell? (o.add 1)=some (.int .u64 s)/\
w.cell? (o.add 2)=some (.int .u64 t)/\
w.cell? (o.add 3)=some (.int .u64 u)/\
w.cell? (o.add 4)=some (.int .u64 v)/\
w.cell? (o.add 5)=some (.int .u64 x)/\
(cQ y z a1 b1 c1 d1 w λp2 q2 r2 s2 t2 u2 w=>
Al T 175 w λv2 w=>
w.cell? (p.add 0)=some (.int .u64 y)/\
w.cell? (p.add 1)=some (.int .u64 z)/\
w.cell? (p.add 2)=some (.int .u64 a1)/\
w.cell? (p.add 3)=some (.int .u64 b1)/\
w.cell? (p.add 4)=some (.int .u64 c1)/\
w.cell? (p.add 5)=some (.int .u64 d1)/\
w.cell? (o.add 0)=some (.int .u64 r)/\
w.cell? (o.add 1)=some (.int .u64 s)/\
w.cell? (o.add 2)=some (.int .u64 t)/\
w.cell? (o.add 3)=some (.int .u64 u)/\
w.cell? (o.add 4)=some (.int .u64 v)/\
w.cell? (o.add 5)=some (.int .u64 x)/\
St (v2.add 0) (.int .u64 e1) w λw=>
St (v2.add 1) (.int .u64 f1) w λw=>
St (v2.add 2) (.int .u64 g1) w λw=>
St (v2.add 3) (.int .u64 i1) w λw=>
St (v2.add 4) (.int .u64 j1) w λw=>
St (v2.add 5) (.int .u64 l1) w λw=>
St (o2.add 0) (.int .u64 p2) w λw=>
St (o2.add 1) (.int .u64 q2) w λw=>
St (o2.add 2) (.int .u64 r2) w λw=>
St (o2.add 3) (.int .u64 s2) w λw=>
St (o2.add 4) (.int .u64 t2) w λw=>
St (o2.add 5) (.int .u64 u2) w λw=>
gM Q q v2 o2 w)/\
(Al T 175 w λx2 w=>
w.cell? (p.add 0)=some (.int .u64 y)/\
w.cell? (p.add 1)=some (.int .u64 z)/\
w.cell? (p.add 2)=some (.int .u64 a1)/\
w.cell? (p.add 3)=some (.int .u64 b1)/\
w.cell? (p.add 4)=some (.int .u64 c1)/\
w.cell? (p.add 5)=some (.int .u64 d1)/\
w.cell? (o.add 0)=some (.int .u64 r)/\
w.cell? (o.add 1)=some (.int .u64 s)/\
w.cell? (o.add 2)=some (.int .u64 t)/\
w.cell? (o.add 3)=some (.int .u64 u)/\
w.cell? (o.add 4)=some (.int .u64 v)/\
w.cell? (o.add 5)=some (.int .u64 x)/\
cQ y z a1 b1 c1 d1 w λy2 z2 a3 b3 c3 d3 w=>
St (x2.add 0) (.int .u64 e1) w λw=>
St (x2.add 1) (.int .u64 f1) w λw=>
St (x2.add 2) (.int .u64 g1) w λw=>
St (x2.add 3) (.int .u64 i1) w λw=>
St (x2.add 4) (.int .u64 j1) w λw=>
St (x2.add 5) (.int .u64 l1) w λw=>
St (o2.add 0) (.int .u64 y2) w λw=>
St (o2.add 1) (.int .u64 z2) w λw=>
St (o2.add 2) (.int .u64 a3) w λw=>
St (o2.add 3) (.int .u64 b3) w λw=>
St (o2.add 4) (.int .u64 c3) w λw=>
St (o2.add 5) (.int .u64 d3) w λw=>
gM Q q x2 o2 w))))/\
((Al T 175 w.drew λe3 w=>
w.cell? (p.add 0)=some (.int .u64 y)/\
w.cell? (p.add 1)=some (.int .u64 z)/\
w.cell? (p.add 2)=some (.int .u64 a1)/\
w.cell? (p.add 3)=some (.int .u64 b1)/\
w.cell? (p.add 4)=some (.int .u64 c1)/\
w.cell? (p.add 5)=some (.int .u64 d1)/\
w.cell? (o.add 0)=some (.int .u64 r)/\
w.cell? (o.add 1)=some (.int .u64 s)/\
w.cell? (o.add 2)=some (.int .u64 t)/\
w.cell? (o.add 3)=some (.int .u64 u)/\
w.cell? (o.add 4)=some (.int .u64 v)/\
w.cell? (o.add 5)=some (.int .u64 x)/\
(cQ r s t u v x w λf3 g3 i3 j3 l3 m3 w=>
w.cell? (p.add 0)=some (.int .u64 y)/\
w.cell? (p.add 1)=some (.int .u64 z)/\
w.cell? (p.add 2)=some (.int .u64 a1)/\
w.cell? (p.add 3)=some (.int .u64 b1)/\
w.cell? (p.add 4)=some (.int .u64 c1)/\
w.cell? (p.add 5)=some (.int .u64 d1)/\
(cQ y z a1 b1 c1 d1 w λn3 o3 p3 q3 r3 s3 w=>
Al T 175 w λt3 w=>
w.cell? (p.add 0)=some (.int .u64 y)/\
w.cell? (p.add 1)=some (.int .u64 z)/\
w.cell? (p.add 2)=some (.int .u64 a1)/\
w.cell? (p.add 3)=some (.int .u64 b1)/\
w.cell? (p.add 4)=some (.int .u64 c1)/\
w.cell? (p.add 5)=some (.int .u64 d1)/\
w.cell? (o.add 0)=some (.int .u64 r)/\
w.cell? (o.add 1)=some (.int .u64 s)/\
w.cell? (o.add 2)=some (.int .u64 t)/\
w.cell? (o.add 3)=some (.int .u64 u)/\
w.cell? (o.add 4)=some (.int .u64 v)/\
w.cell? (o.add 5)=some (.int .u64 x)/\
St (e3.add 0) (.int .u64 f3) w λw=>
St (e3.add 1) (.int .u64 g3) w λw=>
St (e3.add 2) (.int .u64 i3) w λw=>
St (e3.add 3) (.int .u64 j3) w λw=>
St (e3.add 4) (.int .u64 l3) w λw=>
St (e3.add 5) (.int .u64 m3) w λw=>
St (t3.add 0) (.int .u64 n3) w λw=>
St (t3.add 1) (.int .u64 o3) w λw=>
St (t3.add 2) (.int .u64 p3) w λw=>
St (t3.add 3) (.int .u64 q3) w λw=>
St (t3.add 4) (.int .u64 r3) w λw=>
St (t3.add 5) (.int .u64 s3) w λw=>
gM Q q e3 t3 w)/\
(Al T 175 w λu3 w=>
w.cell? (p.add 0)=some (.int .u64 y)/\
w.cell? (p.add 1)=some (.int .u64 z)/\
w.cell? (p.add 2)=some (.int .u64 a1)/\
w.cell? (p.add 3)=some (.int .u64 b1)/\
w.cell? (p.add 4)=some (.int .u64 c1)/\
w.cell? (p.add 5)=some (.int .u64 d1)/\
w.cell? (o.add 0)=some (.int .u64 r)/\
w.cell? (o.add 1)=some (.int .u64 s)/\
w.cell? (o.add 2)=some (.int .u64 t)/\
w.cell? (o.add 3)=some (.int .u64 u)/\
w.cell? (o.add 4)=some (.int .u64 v)/\
w.cell? (o.add 5)=some (.int .u64 x)/\
cQ y z a1 b1 c1 d1 w λv3 x3 y3 z3 a4 b4 w=>
St (e3.add 0) (.int .u64 f3) w λw=>
St (e3.add 1) (.int .u64 g3) w λw=>
St (e3.add 2) (.int .u64 i3) w λw=>
St (e3.add 3) (.int .u64 j3) w λw=>
St (e3.add 4) (.int .u64 l3) w λw=>
St (e3.add 5) (.int .u64 m3) w λw=>
St (u3.add 0) (.int .u64 v3) w λw=>
St (u3.add 1) (.int .u64 x3) w λw=>
St (u3.add 2) (.int .u64 y3) w λw=>
St (u3.add 3) (.int .u64 z3) w λw=>
St (u3.add 4) (.int .u64 a4) w λw=>
St (u3.add 5) (.int .u64 b4) w λw=>
gM Q q e3 u3 w))/\
(Al T 175 w λc4 w=>
w.cell? (p.add 0)=some (.int .u64 y)/\
w.cell? (p.add 1)=some (.int .u64 z)/\
w.cell? (p.add 2)=some (.int .u64 a1)/\
w.cell? (p.add 3)=some (.int .u64 b1)/\
w.cell? (p.add 4)=some (.int .u64 c1)/\
w.cell? (p.add 5)=some (.int .u64 d1)/\
w.cell? (o.add 0)=some (.int .u64 r)/\
w.cell? (o.add 1)=some (.int .u64 s)/\
w.cell? (o.add 2)=some (.int .u64 t)/\
w.cell? (o.add 3)=some (.int .u64 u)/\
w.cell? (o.add 4)=some (.int .u64 v)/\
w.cell? (o.add 5)=some (.int .u64 x)/\
cQ r s t u v x w λd4 e4 f4 g4 i4 j4 w=>
w.cell? (p.add 0)=some (.int .u64 y)/\
w.cell? (p.add 1)=some (.int .u64 z)/\
w.cell? (p.add 2)=some (.int .u64 a1)/\
w.cell? (p.add 3)=some (.int .u64 b1)/\
w.cell? (p.add 4)=some (.int .u64 c1)/\
w.cell? (p.add 5)=some (.int .u64 d1)/\
cQ y z a1 b1 c1 d1 w λl4 m4 n4 o4 p4 q4 w=>
St (e3.add 0) (.int .u64 d4) w λw=>
St (e3.add 1) (.int .u64 e4) w λw=>
St (e3.add 2) (.int .u64 f4) w λw=>
St (e3.add 3) (.int .u64 g4) w λw=>
St (e3.add 4) (.int .u64 i4) w λw=>
St (e3.add 5) (.int .u64 j4) w λw=>
St (c4.add 0) (.int .u64 l4) w λw=>
St (c4.add 1) (.int .u64 m4) w λw=>
St (c4.add 2) (.int .u64 n4) w λw=>
St (c4.add 3) (.int .u64 o4) w λw=>
St (c4.add 4) (.int .u64 p4) w λw=>
St (c4.add 5) (.int .u64 q4) w λw=>
gM Q q e3 c4 w))/\
(Al T 175 w.drew λr4 w=>
w.cell? (p.add 0)=some (.int .u64 y)/\
w.cell? (p.add 1)=some (.int .u64 z)/\
w.cell? (p.add 2)=some (.int .u64 a1)/\
w.cell? (p.add 3)=some (.int .u64 b1)/\
w.cell? (p.add 4)=some (.int .u64 c1)/\
w.cell? (p.add 5)=some (.int .u64 d1)/\
w.cell? (o.add 0)=some (.int .u64 r)/\
w.cell? (o.add 1)=some (.int .u64 s)/\
w.cell? (o.add 2)=some (.int .u64 t)/\
w.cell? (o.add 3)=some (.int .u64 u)/\
w.cell? (o.add 4)=some (.int .u64 v)/\
w.cell? (o.add 5)=some (.int .u64 x)/\
(cQ r s t u v x w λs4 t4 u4 v4 x4 y4 w=>
w.cell? (p.add 0)=some (.int .u64 y)/\
w.cell? (p.add 1)=some (.int .u64 z)/\
w.cell? (p.add 2)=some (.int .u64 a1)/\
w.cell? (p.add 3)=some (.int .u64 b1)/\
w.cell? (p.add 4)=some (.int .u64 c1)/\
w.cell? (p.add 5)=some (.int .u64 d1)/\
(cQ y z a1 b1 c1 d1 w λz4 a5 b5 c5 d5 e5 w=>
Al T 175 w λf5 w=>
w.cell? (p.add 0)=some (.int .u64 y)/\
w.cell? (p.add 1)=some (.int .u64 z)/\
w.cell? (p.add 2)=some (.int .u64 a1)/\
w.cell? (p.add 3)=some (.int .u64 b1)/\
w.cell? (p.add 4)=some (.int .u64 c1)/\
w.cell? (p.add 5)=some (.int .u64 d1)/\
w.cell? (o.add 0)=some (.int .u64 r)/\
w.cell? (o.add 1)=some (.int .u64 s)/\
w.cell? (o.add 2)=some (.int .u64 t)/\
w.cell? (o.add 3)=some (.int .u64 u)/\
w.cell? (o.add 4)=some (.int .u64 v)/\
w.cell? (o.add 5)=some (.int .u64 x)/\
St (f5.add 0) (.int .u64 s4) w λw=>
St (f5.add 1) (.int .u64 t4) w λw=>
St (f5.add 2) (.int .u64 u4) w λw=>
St (f5.add 3) (.int .u64 v4) w λw=>
St (f5.add 4) (.int .u64 x4) w λw=>
St (f5.add 5) (.int .u64 y4) w λw=>
St (r4.add 0) (.int .u64 z4) w λw=>
St (r4.add 1) (.int .u64 a5) w λw=>
St (r4.add 2) (.int .u64 b5) w λw=>
St (r4.add 3) (.int .u64 c5) w λw=>
St (r4.add 4) (.int .u64 d5) w λw=>
St (r4.add 5) (.int .u64 e5) w λw=>
gM Q q f5 r4 w)/\
(Al T 175 w λg5 w=>
w.cell? (p.add 0)=some (.int .u64 y)/\
w.cell? (p.add 1)=some (.int .u64 z)/\
w.cell? (p.add 2)=some (.int .u64 a1)/\
w.cell? (p.add 3)=some (.int .u64 b1)/\
w.cell? (p.add 4)=some (.int .u64 c1)/\
w.cell? (p.add 5)=some (.int .u64 d1)/\
w.cell? (o.add 0)=some (.int .u64 r)/\
w.cell? (o.add 1)=some (.int .u64 s)/\
w.cell? (o.add 2)=some (.int .u64 t)/\
w.cell? (o.add 3)=some (.int .u64 u)/\
w.cell? (o.add 4)=some (.int .u64 v)/\
w.cell? (o.add 5)=some (.int .u64 x)/\
cQ y z a1 b1 c1 d1 w λi5 j5 l5 m5 n5 o5 w=>
St (g5.add 0) (.int .u64 s4) w λw=>
St (g5.add 1) (.int .u64 t4) w λw=>
St (g5.add 2) (.int .u64 u4) w λw=>
St (g5.add 3) (.int .u64 v4) w λw=>
St (g5.add 4) (.int .u64 x4) w λw=>
St (g5.add 5) (.int .u64 y4) w λw=>
St (r4.add 0) (.int .u64 i5) w λw=>
St (r4.add 1) (.int .u64 j5) w λw=>
St (r4.add 2) (.int .u64 l5) w λw=>
St (r4.add 3) (.int .u64 m5) w λw=>
St (r4.add 4) (.int .u64 n5) w λw=>
St (r4.add 5) (.int .u64 o5) w λw=>
gM Q q g5 r4 w))/\
(Al T 175 w λp5 w=>
w.cell? (p.add 0)=some (.int .u64 y)/\
w.cell? (p.add 1)=some (.int .u64 z)/\
w.cell? (p.add 2)=some (.int .u64 a1)/\
w.cell? (p.add 3)=some (.int .u64 b1)/\
w.cell? (p.add 4)=some (.int .u64 c1)/\
w.cell? (p.add 5)=some (.int .u64 d1)/\
w.cell? (o.add 0)=some (.int .u64 r)/\
w.cell? (o.add 1)=some (.int .u64 s)/\
w.cell? (o.add 2)=some (.int .u64 t)/\
w.cell? (o.add 3)=some (.int .u64 u)/\
w.cell? (o.add 4)=some (.int .u64 v)/\
w.cell? (o.add 5)=some (.int .u64 x)/\
cQ r s t u v x w λq5 r5 s5 t5 u5 v5 w=>
w.cell? (p.add 0)=some (.int .u64 y)/\
w.cell? (p.add 1)=some (.int .u64 z)/\
w.cell? (p.add 2)=some (.int .u64 a1)/\
w.cell? (p.add 3)=some (.int .u64 b1)/\
w.cell? (p.add 4)=some (.int .u64 c1)/\
w.cell? (p.add 5)=some (.int .u64 d1)/\
cQ y z a1 b1 c1 d1 w λx5 y5 z5 a6 b6 c6 w=>
St (p5.add 0) (.int .u64 q5) w λw=>
St (p5.add 1) (.int .u64 r5) w λw=>
St (p5.add 2) (.int .u64 s5) w λw=>
St (p5.add 3) (.int .u64 t5) w λw=>
St (p5.add 4) (.int .u64 u5) w λw=>
St (p5.add 5) (.int .u64 v5) w λw=>
St (r4.add 0) (.int .u64 x5) w λw=>
St (r4.add 1) (.int .u64 y5) w λw=>
St (r4.add 2) (.int .u64 z5) w λw=>
St (r4.add 3) (.int .u64 a6) w λw=>
St (r4.add 4) (.int .u64 b6) w λw=>
St (r4.add 5) (.int .u64 c6) w λw=>
gM Q q p5 r4 w)))) (ok 38) GM [aN (aet Q)] Tryz.func70
def Es:=λa w Q=>bB (rG a w Q) (cond a.isNone
(Q 0 w)
(wA a λb=>
af .u64 (b.add 3) w λc=>
Q c w)) (ok 9) [] [] Tryz.func106
def Bl:=λa w Q=>bB (oT a w Q) (cond a.isNone
(Q 0 w)
(wA a λb=>
af .u64 (b.add 3) w λc=>
Q c w)) (ok 9) [] [] Tryz.func107
noncomputable def SR:cu:=[(1,sp 0 4 (sp 5 4 (.op 4 (.op 9 (.op 10 (.op 11 .done))))))]
def Qp:=λa w Q=>bB (tj a w Q) (Al T 32 w λb w=>
wA a λc=>
bg (c.add 1) w.drew λd=>
wA a λe=>
bg (e.add 2) w.drew λf=>
rG d w.drew λg w=>
w.cell? (e.add 2)=some (.pointer f)/\
oT f w λi w=>
St (b.add 0) (.int .u64 g) w λw=>
St (b.add 1) (.int .u64 i) w λw=>
St (b.add 2) (.int .u64 0) w λw=>
St (b.add 3) (.int .u64 0) w λw=>
St (b.add 4) (.int .u64 0) w λw=>
St (b.add 5) (.int .u64 0) w λw=>
af .u64 (b.add 0) w λj=>
af .u64 (b.add 1) w λl=>
af .u64 (b.add 2) w λm=>
af .u64 (b.add 3) w λn=>
af .u64 (b.add 4) w λo=>
af .u64 (b.add 5) w λp=>
Q j l m n o p w) (ok 14) SR [] Tryz.func71
def Ld:=λa w Q=>bB (vD a w Q) (Al T 32 w λb w=>
cond a.isNone
(St (b.add 0) (.int .u64 0) w λw=>
St (b.add 1) (.int .u64 0) w λw=>
St (b.add 2) (.int .u64 0) w λw=>
St (b.add 3) (.int .u64 0) w λw=>
St (b.add 4) (.int .u64 0) w λw=>
St (b.add 5) (.int .u64 0) w λw=>
af .u64 (b.add 0) w λc=>
af .u64 (b.add 1) w λd=>
af .u64 (b.add 2) w λe=>
af .u64 (b.add 3) w λf=>
af .u64 (b.add 4) w λg=>
af .u64 (b.add 5) w λi=>
Q c d e f g i w)
(wA a λj=>
af .u64 ((j.add 2).add 0) w λl=>
af .u64 ((j.add 2).add 1) w λm=>
af .u64 ((j.add 2).add 2) w λn=>
af .u64 ((j.add 2).add 3) w λo=>
af .u64 ((j.add 2).add 4) w λp=>
af .u64 ((j.add 2).add 5) w λq=>
St (b.add 0) (.int .u64 l) w λw=>
St (b.add 1) (.int .u64 m) w λw=>
St (b.add 2) (.int .u64 n) w λw=>
St (b.add 3) (.int .u64 o) w λw=>
St (b.add 4) (.int .u64 p) w λw=>
St (b.add 5) (.int .u64 q) w λw=>
af .u64 (b.add 0) w λr=>
af .u64 (b.add 1) w λs=>
af .u64 (b.add 2) w λt=>
af .u64 (b.add 3) w λu=>
af .u64 (b.add 4) w λv=>
af .u64 (b.add 5) w λx=>
Q r s t u v x w)) (ok 10) [] [] Tryz.func72
noncomputable def T9:cu:=[(3,sp 0 5 (sp 7 4 (.op 5 (.op 6 (.op 11 (.op 12 (.op 13 .done)))))))]
def SS:=λa w Q=>bB (Aj a w Q) (Al T 32 w λb w=>
cond a.isNone
(St (b.add 0) (.int .u64 0) w λw=>
St (b.add 1) (.int .u64 0) w λw=>
St (b.add 2) (.int .u64 0) w λw=>
St (b.add 3) (.int .u64 0) w λw=>
St (b.add 4) (.int .u64 0) w λw=>
St (b.add 5) (.int .u64 0) w λw=>
af .u64 (b.add 0) w λc=>
af .u64 (b.add 1) w λd=>
af .u64 (b.add 2) w λe=>
af .u64 (b.add 3) w λf=>
af .u64 (b.add 4) w λg=>
af .u64 (b.add 5) w λi=>
Q c d e f g i w)
(wA a λj=>
af .u64 ((j.add 4).add 0) w.drew λl=>
af .u64 ((j.add 4).add 1) w.drew λm=>
af .u64 ((j.add 4).add 2) w.drew λn=>
af .u64 ((j.add 4).add 3) w.drew λo=>
af .u64 ((j.add 4).add 4) w.drew λp=>
af .u64 ((j.add 4).add 5) w.drew λq=>
wA a λr=>
bg (r.add 3) w.drew λs=>
tj a w.drew λt u v x y z w=>
w.cell? (r.add 3)=some (.pointer s)/\
w.cell? ((j.add 4).add 0)=some (.int .u64 l)/\
w.cell? ((j.add 4).add 1)=some (.int .u64 m)/\
w.cell? ((j.add 4).add 2)=some (.int .u64 n)/\
w.cell? ((j.add 4).add 3)=some (.int .u64 o)/\
w.cell? ((j.add 4).add 4)=some (.int .u64 p)/\
w.cell? ((j.add 4).add 5)=some (.int .u64 q)/\
v8 l m n o p q t u v x y z w λa1 b1 c1 d1 e1 f1 w=>
w.cell? (r.add 3)=some (.pointer s)/\
vD s w λg1 i1 j1 l1 m1 n1 w=>
v8 a1 b1 c1 d1 e1 f1 g1 i1 j1 l1 m1 n1 w λo1 p1 q1 r1 s1 t1 w=>
St (b.add 0) (.int .u64 o1) w λw=>
St (b.add 1) (.int .u64 p1) w λw=>
St (b.add 2) (.int .u64 q1) w λw=>
St (b.add 3) (.int .u64 r1) w λw=>
St (b.add 4) (.int .u64 s1) w λw=>
St (b.add 5) (.int .u64 t1) w λw=>
af .u64 (b.add 0) w λu1=>
af .u64 (b.add 1) w λv1=>
af .u64 (b.add 2) w λx1=>
af .u64 (b.add 3) w λy1=>
af .u64 (b.add 4) w λz1=>
af .u64 (b.add 5) w λa2=>
Q u1 v1 x1 y1 z1 a2 w)) (ok 19) T9 [] Tryz.func43
def Le:=λa w Q=>bB (vw a w Q) (Al T 32 w λb w=>
Eh a w λc w=>
Aj c w λd e f g i j w=>
St (b.add 0) (.int .u64 d) w λw=>
St (b.add 1) (.int .u64 e) w λw=>
St (b.add 2) (.int .u64 f) w λw=>
St (b.add 3) (.int .u64 g) w λw=>
St (b.add 4) (.int .u64 i) w λw=>
St (b.add 5) (.int .u64 j) w λw=>
af .u64 (b.add 0) w λl=>
af .u64 (b.add 1) w λm=>
af .u64 (b.add 2) w λn=>
af .u64 (b.add 3) w λo=>
af .u64 (b.add 4) w λp=>
af .u64 (b.add 5) w λq=>
Q l m n o p q w) (ok 6) [] [] Tryz.func22
def mG (Q:Int->Int->Bool->Bool->WP)(a b:Addr)(w:World):Prop:=af .i64 (b.add 0) w λc=>af .i64 (b.add 1) w λd=>cw (b.add 2) w λe=>St (a.add 0) (ae c) w λw=>St (a.add 1) (ae d) w λw=>St (a.add 2) (.bool e) w λw=>af .i64 (a.add 0) w λf=>af .i64 (a.add 1) w λg=>cw (a.add 2) w λi=>Q f g i true w
def uh (Q:Int->Int->Bool->Bool->WP)(a b:Addr)(w:World):Prop:=St (b.add 1) (ae 4) w λw=>St b (ae 4) w λw=>mG Q a b w
def Of (Q):Bk 26 Tryz.f76 (Iq Q) 16 [(2,.a),(4,.a)] (mG Q):=aW (ok 26) [] []
def abv (Q):Bk 26 Tryz.f76 (Iq Q) 13 [(2,.a),(4,.a)] (uh Q):=aW (ok 26) [] [aN (Of Q)]
def ZC:=λa w Q=>bB (v9 a w Q) (Al T 137 w λb w=>
Al T 137 w λc w=>
cond (a==1)
(St (c.add 2) (.bool true) w λw=>
mG Q b c w)
(cond (a==2)
(St c (ae 4) w λw=>
St (c.add 1) (ae 1) w λw=>
mG Q b c w)
(cond (a==3)
(uh Q b c w)
(cond (a==4)
(uh Q b c w)
(cond (a==6)
(uh Q b c w)
(cond (a==5)
(St c (ae 4) w λw=>
mG Q b c w)
(cond (a==7)
(mG Q b c w)
(cond (a==8)
(mG Q b c w)
(St (b.add 0) (ae 0) w λw=>
St (b.add 1) (ae 0) w λw=>
St (b.add 2) (.bool false) w λw=>
af .i64 (b.add 0) w λd=>
af .i64 (b.add 1) w λe=>
cw (b.add 2) w λf=>
Q d e f false w))))))))) (ok 26) [] [aN (abv Q),aN (Of Q)] Tryz.func76
def zZ (Q:Int->WP)(R3:Int->L3 (Int->Int->WP))(a:Int)(b:OA)(c d:Nat)(e f:Int)(w:World):Prop:=cond (decide (f<e)) (aH f c<|wA b λg=>af .u8 (g.add (f.toNat*1)) w λi=>C4 (IntKind.wrap .i64 (8*f))<|R3 (ior .i64 a (Ai .i64 (IntKind.wrap .i64 i) (IntKind.wrap .i64 (8*f)))) b c d e (IntKind.wrap .i64 (f+1)) w) (Q a w)
def vT (Q:Int->WP):Nat->Int->L3 (Int->Int->WP)
 |0,_,_,_,_,_,_,_=>False
 |k+1,a,b,c,d,e,f,w=>zZ Q (vT Q k) a b c d e f w
def aeu (Q):∀k,Bk 22 Tryz.f140 (RS Q) 3 [(3,.i .i64),(6,.l),(7,.i .i64),(8,.i .i64)] (vT Q k):=bK λk h=>aW (ok 22) [] [aN h]
def ZD:=λa b c w Q=>bB (we a b c w Q) (∃k',vT Q k' 0 a b c (b:Int) 0 w) (ok 22) [] [ck (aeu Q)] Tryz.func140
noncomputable def af6:cu:=[(1,sp 0 6 (.op 6 (.op 7 .done))),(14,sp 0 5 (sp 6 9 (sp 17 6 (.op 5 (.op 15 (.op 16 (.op 23 (.op 24 .done))))))))]
def aev:=λa b c w Q=>bB (Is a b c w Q) (Al T 38 w λd w=>
aH 0 b<|
wA a λe=>
af .u8 (e.add (((0:Int).toNat)*1)) w.drew λf=>
bR a b c 1 (some 1) none λg i j=>
v9 (IntKind.wrap .i64 f) w.drew λl m n o w=>
Al T 137 w λp w=>
St (p.add 0) (ae l) w λw=>
St (p.add 1) (ae m) w λw=>
St (p.add 2) (.bool n) w λw=>
cond (!o)
(St (d.add 0) (ae 0) w λw=>
St (d.add 1) (ae (IntKind.wrap .i64 f)) w λw=>
St (d.add 2) (ae 0) w λw=>
St (d.add 3) (.slice none 0 0) w λw=>
af .i64 (d.add 0) w λq=>
af .i64 (d.add 1) w λr=>
af .i64 (d.add 2) w λs=>
aC (d.add 3) w λt u v=>
Q q r s t u v 1 w)
(cw (p.add 2) w λx=>
cond x
(cond (decide ((i:Int)<4))
(St (d.add 0) (ae 0) w λw=>
St (d.add 1) (ae 0) w λw=>
St (d.add 2) (ae 0) w λw=>
St (d.add 3) (.slice none 0 0) w λw=>
af .i64 (d.add 0) w λy=>
af .i64 (d.add 1) w λz=>
af .i64 (d.add 2) w λa1=>
aC (d.add 3) w λb1 c1 d1=>
Q y z a1 b1 c1 d1 0 w)
(bR g i j 1 none (some 4) λe1 f1 g1=>
we e1 f1 g1 w λi1 w=>
cond (decide ((IntKind.wrap .i64 ((i:Int)-4))<i1))
(St (d.add 0) (ae 0) w λw=>
St (d.add 1) (ae 0) w λw=>
St (d.add 2) (ae 0) w λw=>
St (d.add 3) (.slice none 0 0) w λw=>
af .i64 (d.add 0) w λj1=>
af .i64 (d.add 1) w λl1=>
af .i64 (d.add 2) w λm1=>
aC (d.add 3) w λn1 o1 p1=>
Q j1 l1 m1 n1 o1 p1 0 w)
(bR g i j 1 (some 4) (some (IntKind.wrap .i64 (4+i1))) λq1 r1 s1=>
App P #[22,22] 22 (.slice none 0 0) (.slice q1 r1 s1) w λt1 u1 v1 w=>
St (d.add 0) (ae (IntKind.wrap .i64 f)) w λw=>
St (d.add 1) (ae 0) w λw=>
St (d.add 2) (ae 0) w λw=>
St (d.add 3) (.slice t1 u1 v1) w λw=>
af .i64 (d.add 0) w λx1=>
af .i64 (d.add 1) w λy1=>
af .i64 (d.add 2) w λz1=>
aC (d.add 3) w λa2 b2 c2=>
Q x1 y1 z1 a2 b2 c2 (IntKind.wrap .i64 (5+i1)) w)))
(af .i64 p w λd2=>
af .i64 (p.add 1) w λe2=>
cond (decide ((i:Int)<(IntKind.wrap .i64 (d2+e2))))
(St (d.add 0) (ae 0) w λw=>
St (d.add 1) (ae 0) w λw=>
St (d.add 2) (ae 0) w λw=>
St (d.add 3) (.slice none 0 0) w λw=>
af .i64 (d.add 0) w λf2=>
af .i64 (d.add 1) w λg2=>
af .i64 (d.add 2) w λi2=>
aC (d.add 3) w λj2 l2 m2=>
Q f2 g2 i2 j2 l2 m2 0 w)
(af .i64 p w.drew λn2=>
bR g i j 1 none (some n2) λo2 p2 q2=>
af .i64 p w.drew λr2=>
af .i64 p w.drew λs2=>
af .i64 (p.add 1) w.drew λt2=>
bR g i j 1 (some r2) (some (IntKind.wrap .i64 (s2+t2))) λu2 v2 x2=>
af .i64 p w.drew λy2=>
af .i64 (p.add 1) w.drew λz2=>
we o2 p2 q2 w.drew λa3 w=>
w.cell? (p.add 1)=some (ae z2)/\
w.cell? p=some (ae y2)/\
w.cell? (p.add 1)=some (ae t2)/\
w.cell? p=some (ae s2)/\
w.cell? p=some (ae r2)/\
we u2 v2 x2 w λb3 w=>
w.cell? (p.add 1)=some (ae z2)/\
w.cell? p=some (ae y2)/\
St (d.add 0) (ae (IntKind.wrap .i64 f)) w λw=>
St (d.add 1) (ae a3) w λw=>
St (d.add 2) (ae b3) w λw=>
St (d.add 3) (.slice none 0 0) w λw=>
w.cell? (p.add 1)=some (ae z2)/\
w.cell? p=some (ae y2)/\
af .i64 (d.add 0) w λc3=>
af .i64 (d.add 1) w λd3=>
af .i64 (d.add 2) w λe3=>
aC (d.add 3) w λf3 g3 i3=>
Q c3 d3 e3 f3 g3 i3 (IntKind.wrap .i64 ((IntKind.wrap .i64 (1+y2))+z2)) w)))) (ok 80) af6 [] Tryz.func109
def af7:=λa b c w Q=>bB (JO a b c w Q) (cond ((b:Int)==0)
(Q false w)
(Is a b c w λd e f g i j l w=>
Al T 38 w λm w=>
St (m.add 0) (ae d) w λw=>
St (m.add 1) (ae e) w λw=>
St (m.add 2) (ae f) w λw=>
St (m.add 3) (.slice g i j) w λw=>
Q (l==0) w)) (ok 15) [] [] Tryz.func75
def aew:=λa b w Q=>bB (zX a b w Q) (cond (decide (a≥0))
(C4 (IntKind.wrap .i64 (8*b))<|
Q (decide (a<(Ai .i64 1 (IntKind.wrap .i64 (8*b))))) w)
(Q false w)) (ok 14) [] [] Tryz.func77
def af8:=λa b c d e f w Q=>bB (JM a b c d e f w Q) (Bx [ae a,ae b,ae c,.slice d e f] 38 w λg w=>
af .i64 g w λi=>
cond (i==0)
(af .i64 (g.add 1) w λj=>
cond (j==(-1))
(af .i64 (g.add 2) w λl=>
cond (l==0)
(aC (g.add 3) w λm n o=>
JO m n o w λp w=>
Q p w)
(Q false w))
(af .i64 (g.add 1) w λq=>
v9 q w λr s t u w=>
Al T 137 w λv w=>
St (v.add 0) (ae r) w λw=>
St (v.add 1) (ae s) w λw=>
St (v.add 2) (.bool t) w λw=>
af .i64 (g.add 1) w λx=>
zX x 1 w λy w=>
cond y
(cond (!u)
(af .i64 (g.add 2) w λz=>
cond (z==0)
(aC (g.add 3) w λa1 b1 c1=>
Q ((b1:Int)==0) w)
(Q false w))
(Q false w))
(Q false w)))
(af .i64 g w λd1=>
v9 d1 w λe1 f1 g1 i1 w=>
Al T 137 w λj1 w=>
St (j1.add 0) (ae e1) w λw=>
St (j1.add 1) (ae f1) w λw=>
St (j1.add 2) (.bool g1) w λw=>
cond i1
(af .i64 (g.add 1) w λl1=>
af .i64 j1 w λm1=>
zX l1 m1 w λn1 w=>
cond n1
(af .i64 (g.add 2) w λo1=>
af .i64 (j1.add 1) w λp1=>
zX o1 p1 w λq1 w=>
cond q1
(aC (g.add 3) w λr1 s1 t1=>
cond ((s1:Int)==0)
(Q true w)
(cw (j1.add 2) w λu1=>
cond u1
(aC (g.add 3) w λv1 x1 y1=>
Q (decide ((x1:Int)<=4294967295)) w)
(Q false w)))
(Q false w))
(Q false w))
(Q false w))) (ok 82) [] [] Tryz.func48
def Qq:=λa b w Q=>bB (eU a b w Q) (cond a.isNone
(Q 0 w)
(cond (decide (b<0))
(Q 0 w)
(wA a λc=>
aC (c.add 2) w λd e f=>
cond (decide (b≥(e:Int)))
(Q 0 w)
(wA a λg=>
aC (g.add 2) w λi j l=>
aH b j<|
wA i λm=>
af .u8 (m.add (b.toNat*1)) w λn=>
Q (IntKind.wrap .i64 n) w)))) (ok 30) [] [] Tryz.func110
def T_:=λa b w Q=>bB (qZ a b w Q) (cond a.isNone
(Q 0 w)
(wA a λc=>
bg c w λd=>
eU d b w λe w=>
Q e w)) (ok 13) [] [] Tryz.func78
def rL (Q:Value->WP)(a:OA)(b:Addr)(w:World):Prop:=wA a λc=>bg (c.add 1) w.drew λd=>af .i64 (b.add 1) w.drew λe=>qZ d e w.drew λf w=>cond (f==0) (Q (.iface 108 (ae 7)) w) (Q (.nilIface) w)
noncomputable def Dd:cu:=[(4,sp 0 6 (.op 6 (.op 7 .done))),(6,sp 0 6 (.op 6 (.op 7 .done)))]
def Og (Q):Bk 29 Tryz.f49 (Ei Q) 6 [(0,.p),(3,.a)] (rL Q):=aW (ok 29) Dd []
def Lg:=λa b c d e f g w Q=>bB (vz a b c d e f g w Q) (Bx [ae b,ae c,ae d,.slice e f g] 38 w λi w=>
af .i64 i w λj=>
cond (j==3)
(wA a λl=>
bg (l.add 1) w.drew λm=>
af .i64 (i.add 2) w.drew λn=>
qZ m n w.drew λo w=>
cond (o==0)
(Q (.iface 108 (ae 7)) w)
(rL Q a i w))
(cond (j==2)
(rL Q a i w)
(Q (.nilIface) w))) (ok 29) Dd [aN (Og Q)] Tryz.func49
def DX:=λa w Q=>bB (fW a w Q) (cond (a==0)
(Q (.nilIface) w)
(Q (.iface 108 (ae a)) w)) (ok 7) [] [] Tryz.func54
def abw (P1:Value->Value->Value->Addr->WP)(Q:Bool->WP)(R18:Value->Value->Addr->L3 (Int->Int->WP))(a b:Value)(c:Addr)(d:OA)(e f:Nat)(g i:Int)(w:World):Prop:=cond (decide (i<g)) (aH i e<|wA d λj=>bX (j.add (i.toNat*1)) w λl=>A2 l λm=>cond m (R18 a b c d e f g (IntKind.wrap .i64 (i+1)) w) (bg (c.add 0) w λn=>bg (c.add 1) w λo=>af .u64 (c.add 2) w λp=>E8 l a n o p b w λq w=>cond q (Q true w) (R18 a b c d e f g (IntKind.wrap .i64 (i+1)) w))) (Q false w)
def GP (P1:Value->Value->Value->Addr->WP)(Q:Bool->WP):Nat->Value->Value->Addr->L3 (Int->Int->WP)
 |0,_,_,_,_,_,_,_,_,_=>False
 |k+1,a,b,c,d,e,f,g,i,w=>abw P1 Q (GP P1 Q k) a b c d e f g i w
def Iv (P1:Value->Value->Value->Addr->WP)(Q:Bool->WP)(a b c:Value)(d:Addr)(w:World):Prop:=aI P (Instr.typeAssert a 74 224 true) w λe w=>dT e λf=>c_ f λg i=>dV g λj=>c_ i λl m=>dB l λn=>j7 m<|cond n (xV (cx 62) j "Unwrap" [] w λo w=>dV o λp=>A2 p λq=>cond q (Q false w) (P1 p b c d w)) (aI P (Instr.typeAssert a 74 226 true) w λr w=>dT r λs=>c_ s λt u=>dV t λv=>c_ u λx y=>dB x λz=>j7 y<|cond z (xV (cx 62) v "Unwrap" [] w λa1 w=>dS a1 λb1 c1 d1=>∃k',GP P1 Q k' b c d b1 c1 d1 (c1:Int) 0 w) (Q false w))
def vU (Q:Bool->WP)(R1:Value->Value->Value->Addr->WP)(a b c:Value)(d:Addr)(w:World):Prop:=sU P 95 #[a] w λe w=>dV e λf=>xV (cx 62) f "AssignableTo" [c] w λg w=>dB g λi=>cond i (bg (d.add 0) w λj=>bg (d.add 1) w λl=>af .u64 (d.add 2) w λm=>sU P 138 #[.agg #[.pointer j,.pointer l,.int .u64 m]] w λn w=>dL n λo=>c_ o λp q=>dP p λr=>c_ q λs t=>dP s λu=>c_ t λv x=>dI .u64 v λy=>j7 x<|sU P 97 #[a] w λz w=>dL z λa1=>c_ a1 λb1 c1=>dP b1 λd1=>c_ c1 λe1 f1=>dP e1 λg1=>c_ f1 λi1 j1=>dI .u64 i1 λl1=>j7 j1<|sU P 139 #[.agg #[.pointer r,.pointer u,.int .u64 y],.agg #[.pointer d1,.pointer g1,.int .u64 l1]] w λm1 w=>dT m1 λn1=>j7 n1<|Q true w) (aI P (Instr.typeAssert a 74 231 true) w λo1 w=>dT o1 λp1=>c_ p1 λq1 r1=>dV q1 λs1=>c_ r1 λt1 u1=>dB t1 λv1=>j7 u1<|cond v1 (xV (cx 62) s1 "As" [b] w λx1 w=>dB x1 λy1=>cond y1 (Q true w) (Iv R1 Q a b c d w)) (Iv R1 Q a b c d w))
def iT (Q:Bool->WP):Nat->Value->Value->Value->Addr->WP
 |0,_,_,_,_,_=>False
 |k+1,a,b,c,d,w=>vU Q (iT Q k) a b c d w
def abx {P1}(Q)(H1:Bk 62 Tryz.f100 (vS Q) 1 [(0,.v),(1,.v),(3,.v),(6,.a)] P1):∀k,Bk 62 Tryz.f100 (vS Q) 18 [(1,.v),(3,.v),(6,.a),(48,.l),(49,.i .i64),(50,.i .i64)] (GP P1 Q k):=bK λk h=>aW (ok 62) [] [aN h]
def aex {P1}(Q)(H1:Bk 62 Tryz.f100 (vS Q) 1 [(0,.v),(1,.v),(3,.v),(6,.a)] P1):Bk 62 Tryz.f100 (vS Q) 7 [(0,.v),(1,.v),(3,.v),(6,.a)] (Iv P1 Q):=aW (ok 62) [] [aN H1,ck (abx Q H1)]
def aey (Q):∀k,Bk 62 Tryz.f100 (vS Q) 1 [(0,.v),(1,.v),(3,.v),(6,.a)] (iT Q k):=bK λk h=>aW (ok 62) [] [aN (aex Q h)]
def Fh:=λa b c d e f w Q=>bB (E8 a b c d e f w Q) (Bx [.pointer c,.pointer d,.int .u64 e] 161 w λg w=>
∃k',iT Q k' a b f g w) (ok 62) [] [ck (aey Q)] Tryz.func100
def GQ (Q:Bool->WP)(a b:Value)(c:Addr)(d:Value)(w:World):Prop:=bg (c.add 0) w λe=>bg (c.add 1) w λf=>af .u64 (c.add 2) w λg=>E8 a b e f g d w λi w=>Q i w
def Iw (Q:Bool->WP)(a b:Value)(c:Addr)(d:Value)(w:World):Prop:=False
def Oh (Q):Bk 42 Tryz.f60 (Im Q) 12 [(0,.v),(1,.v),(5,.a),(7,.v)] (GQ Q):=aW (ok 42) [] []
def aez (Q):Bk 42 Tryz.f60 (Im Q) 8 [(0,.v),(1,.v),(5,.a),(6,.v)] (Iw Q):=aW (ok 42) [] [aN (Oh Q)]
def AG:=λa b w Q=>bB (m7 a b w Q) (A2 a λc=>
cond c
(Q false w)
(A2 b λd=>
cond d
(False
)
(sU P 97 #[b] w λe w=>
dL e λf=>
c_ f λg i=>
dP g λj=>
c_ i λl m=>
dP l λn=>
c_ m λo p=>
dI .u64 o λq=>
j7 p<|
Al T 161 w λr w=>
St (r.add 0) (.pointer j) w λw=>
St (r.add 1) (.pointer n) w λw=>
St (r.add 2) (.int .u64 q) w λw=>
bg (r.add 0) w λs=>
bg (r.add 1) w λt=>
af .u64 (r.add 2) w λu=>
sU P 98 #[.agg #[.pointer s,.pointer t,.int .u64 u]] w λv w=>
dV v λx=>
xV (cx 42) x "Kind" [] w λy w=>
dI .u8 y λz=>
cond (z !=22)
(Iw Q a b r x w)
(bg (r.add 0) w λa1=>
bg (r.add 1) w λb1=>
af .u64 (r.add 2) w λc1=>
sU P 99 #[.agg #[.pointer a1,.pointer b1,.int .u64 c1]] w λd1 w=>
dB d1 λe1=>
cond e1
(Iw Q a b r x w)
(xV (cx 42) x "Elem" [] w λf1 w=>
dV f1 λg1=>
xV (cx 42) g1 "Kind" [] w λi1 w=>
dI .u8 i1 λj1=>
cond (j1 !=20)
(bX (aZ 1) w λl1=>
xV (cx 42) g1 "Implements" [l1] w λm1 w=>
dB m1 λn1=>
cond (!n1)
(False
)
(GQ Q a b r g1 w))
(GQ Q a b r g1 w)))))) (ok 42) [] [aN (aez Q),aN (Oh Q)] Tryz.func60
def ZE:=λa b w Q=>bB (kW a b w Q) (cond (decide (a≥1))
(cond (decide (a<=1024))
(cond (decide (b≥1))
(Q (decide (b<=1024)) w)
(Q false w))
(Q false w))
(Q false w)) (ok 19) [] [] Tryz.func69
def SV:=λa b w Q=>bB (kO a b w Q) (kW a b w λc w=>
cond (!c)
(Q 0 0 w)
(NZ 16<|
NZ 16<|
Q (IntKind.wrap .i64 (Int.tdiv (IntKind.wrap .i64 ((IntKind.wrap .i64 (a+16))-1)) 16)) (IntKind.wrap .i64 (Int.tdiv (IntKind.wrap .i64 ((IntKind.wrap .i64 (b+16))-1)) 16)) w)) (ok 18) [] [] Tryz.func146
def XS:=λa b w Q=>bB (DP a b w Q) (kO a b w λc d w=>
Q (IntKind.wrap .i64 (c*d)) w) (ok 16) [] [] Tryz.func141
noncomputable def Wl:cu:=[(4,sp 0 8 (.op 8 (.op 9 (.op 10 .done))))]
def Ua:=λa b c w Q=>bB (wg a b c w Q) (kO a b w λd e w=>
cond (decide (c<0))
(Q 0 0 false w)
(cond (decide (c≥(IntKind.wrap .i64 (d*e))))
(Q 0 0 false w)
(NZ d<|
NZ d<|
Q (IntKind.wrap .i64 ((Int.tmod c d)*16)) (IntKind.wrap .i64 ((IntKind.wrap .i64 (Int.tdiv c d))*16)) true w.drew))) (ok 34) Wl [] Tryz.func157
def XT:=λa b c w Q=>bB (nR a b c w Q) (wg a b c w λd e f w=>
cond (!f)
(Q 0 0 w)
(Q (EU 16 (IntKind.wrap .i64 (a-d))) (EU 16 (IntKind.wrap .i64 (b-e))) w)) (ok 29) [] [] Tryz.func142
def aby (P1:Value->Value->Bool->WP)(Q:Bool->WP)(R17:Value->Bool->L3 (Int->Int->WP))(a:Value)(b:Bool)(c:OA)(d e:Nat)(f g:Int)(w:World):Prop:=cond (decide (g<f)) (aH g d<|wA c λi=>bX (i.add (g.toNat*1)) w λj=>v_ j a b w λl w=>cond l (Q true w) (R17 a b c d e f (IntKind.wrap .i64 (g+1)) w)) (Q false w)
def GR (P1:Value->Value->Bool->WP)(Q:Bool->WP):Nat->Value->Bool->L3 (Int->Int->WP)
 |0,_,_,_,_,_,_,_,_=>False
 |k+1,a,b,c,d,e,f,g,w=>aby P1 Q (GR P1 Q k) a b c d e f g w
def Ix (P1:Value->Value->Bool->WP)(Q:Bool->WP)(a b:Value)(c:Bool)(w:World):Prop:=aI P (Instr.typeAssert a 74 224 true) w λd w=>dT d λe=>c_ e λf g=>dV f λi=>c_ g λj l=>dB j λm=>j7 l<|cond m (xV (cx 54) i "Unwrap" [] w λn w=>dV n λo=>A2 o λp=>cond p (Q false w) (P1 o b c w)) (aI P (Instr.typeAssert a 74 226 true) w λq w=>dT q λr=>c_ r λs t=>dV s λu=>c_ t λv x=>dB v λy=>j7 x<|cond y (xV (cx 54) u "Unwrap" [] w λz w=>dS z λa1 b1 c1=>∃k',GR P1 Q k' b c a1 b1 c1 (b1:Int) 0 w) (Q false w))
def Iy (P1:Value->Value->Bool->WP)(Q:Bool->WP)(a b:Value)(c:Bool)(w:World):Prop:=aI P (Instr.typeAssert a 74 221 true) w λd w=>dT d λe=>c_ e λf g=>dV f λi=>c_ g λj l=>dB j λm=>j7 l<|cond m (xV (cx 54) i "Is" [b] w λn w=>dB n λo=>cond o (Q true w) (Ix P1 Q a b c w)) (Ix P1 Q a b c w)
def z0 (Q:Bool->WP)(R1:Value->Value->Bool->WP)(a b:Value)(c:Bool)(w:World):Prop:=cond c (bT P .eql 74 (.tmp 16) (.tmp 17) a b w λd w=>cond d (Q true w) (Iy R1 Q a b c w)) (Iy R1 Q a b c w)
def pN (Q:Bool->WP):Nat->Value->Value->Bool->WP
 |0,_,_,_,_=>False
 |k+1,a,b,c,w=>z0 Q (pN Q k) a b c w
def abz {P1}(Q)(H1:Bk 54 Tryz.f96 (pK Q) 1 [(0,.v),(1,.v),(2,.b)] P1):∀k,Bk 54 Tryz.f96 (pK Q) 17 [(1,.v),(2,.b),(43,.l),(44,.i .i64),(45,.i .i64)] (GR P1 Q k):=bK λk h=>aW (ok 54) [] [aN h]
def aeA {P1}(Q)(H1:Bk 54 Tryz.f96 (pK Q) 1 [(0,.v),(1,.v),(2,.b)] P1):Bk 54 Tryz.f96 (pK Q) 6 [(0,.v),(1,.v),(2,.b)] (Ix P1 Q):=aW (ok 54) [] [aN H1,ck (abz Q H1)]
def aeB {P1}(Q)(H1:Bk 54 Tryz.f96 (pK Q) 1 [(0,.v),(1,.v),(2,.b)] P1):Bk 54 Tryz.f96 (pK Q) 3 [(0,.v),(1,.v),(2,.b)] (Iy P1 Q):=aW (ok 54) [] [aN (aeA Q H1)]
def aeC (Q):∀k,Bk 54 Tryz.f96 (pK Q) 1 [(0,.v),(1,.v),(2,.b)] (pN Q k):=bK λk h=>aW (ok 54) [] [aN (aeB Q h)]
def LZ:=λa b c w Q=>bB (v_ a b c w Q) (∃k',pN Q k' a b c w) (ok 54) [] [ck (aeC Q)] Tryz.func96
def L0:=λa b w Q=>bB (oR a b w Q) (A2 a λc=>
cond c
(bT P .eql 74 (.tmp 12) (.tmp 13) a b w λd w=>
Q d w)
(A2 b λe=>
cond e
(bT P .eql 74 (.tmp 12) (.tmp 13) a b w λf w=>
Q f w)
(sU P 95 #[b] w λg w=>
dV g λi=>
xV (cx 22) i "Comparable" [] w λj w=>
dB j λl=>
v_ a b l w λm w=>
Q m w))) (ok 22) [] [] Tryz.func59
def GS:=λa b c w Q=>bB (mC a b c w Q) (cond a.isNone
(Q none 0 0 w)
(Bx [] 5 w λd w=>
App P #[22,22] 22 (.slice (some d) 0 0) (.slice a b c) w λe f g w=>
Q e f g w)) (ok 8) [] [] Tryz.func103
noncomputable def Oi:cu:=[(1,sp 0 12 .done),(2,.op 0 (.op 1 (.op 2 .done))),(4,sp 0 15 (.op 15 (.op 16 .done)))]
def MZ:=λa b w Q=>bB (nA a b w Q) (wA a λc=>
aC c w.drew λd e f=>
wA a λg=>
af .i64 (g.add 1) w.drew λi=>
cond (decide ((IntKind.wrap .i64 ((e:Int)-i))<b))
(bX (aZ 6) w.drew.drew λj=>
w.drew.drew.cell? (aZ 6)=some j/\
dV j λl=>
Q none 0 0 l w.drew.drew)
(wA a λm=>
af .i64 (m.add 1) w.drew λn=>
wA a λo=>
St (o.add 1) (ae (IntKind.wrap .i64 (n+b))) w.drew λw=>
wA a λp=>
aC p w.drew λq r s=>
wA a λt=>
af .i64 (t.add 1) w.drew λu=>
wA a λv=>
af .i64 (v.add 1) w.drew λx=>
bR q r s 1 (some (IntKind.wrap .i64 (u-b))) (some x) λy z a1=>
Q y z a1 (.nilIface) w.drew)) (ok 42) Oi [] Tryz.func186
def kG (Q:Int->WP)(R2:L3 (Int->Int->Int->WP))(a:OA)(b c:Nat)(d e f:Int)(w:World):Prop:=cond (decide (f<e)) (aH f b<|wA a λg=>af .u8 (g.add (f.toNat*1)) w λi=>cond (d==i) (Q f w) (R2 a b c d e (IntKind.wrap .i64 (f+1)) w)) (Q (-1) w)
def iU (Q:Int->WP):Nat->L3 (Int->Int->Int->WP)
 |0,_,_,_,_,_,_,_=>False
 |k+1,a,b,c,d,e,f,w=>kG Q (iU Q k) a b c d e f w
def Iz (Q):∀k,Bk 19 Tryz.f160 (zY Q) 2 [(0,.l),(1,.i .u8),(7,.i .i64),(8,.i .i64)] (iU Q k):=bK λk h=>aW (ok 19) [] [aN h]
def GU:=λa b c d w Q=>bB (yb a b c d w Q) (∃k',iU Q k' a b c d (b:Int) 0 w) (ok 19) [] [ck (Iz Q)] Tryz.func160
def EM:=λa b c d w Q=>bB (iH a b c d w Q) (yb a b c d w λe w=>
Q (decide (e≥0)) w) (ok 9) [] [] Tryz.func145
def Lh:=λa b w Q=>bB (p9 a b w Q) (nA a b w λc d e f w=>
A2 f λg=>
cond g
(iH c d e 0 w λi w=>
cond i
(bX (aZ 5) w λj=>
dV j λl=>
Q c d e l w)
(dV f λm=>
Q c d e m w))
(dV f λn=>
Q c d e n w)) (ok 23) [] [] Tryz.func187
def Ol:=λa b w Q=>bB (En a b w Q) (C4 32<|
C4 32<|
C4 32<|
C4 32<|
C4 32<|
Q (IntKind.wrap .u64 ((IntKind.wrap .u64 ((IntKind.wrap .u64 ((oJ .u64 a 32)*(oJ .u64 b 32)))+(oJ .u64 (IntKind.wrap .u64 ((IntKind.wrap .u64 ((oJ .u64 a 32)*(A1 .u64 b 4294967295)))+(oJ .u64 (IntKind.wrap .u64 ((A1 .u64 a 4294967295)*(A1 .u64 b 4294967295))) 32))) 32)))+(oJ .u64 (IntKind.wrap .u64 ((A1 .u64 (IntKind.wrap .u64 ((IntKind.wrap .u64 ((oJ .u64 a 32)*(A1 .u64 b 4294967295)))+(oJ .u64 (IntKind.wrap .u64 ((A1 .u64 a 4294967295)*(A1 .u64 b 4294967295))) 32))) 4294967295)+(IntKind.wrap .u64 ((A1 .u64 a 4294967295)*(oJ .u64 b 32))))) 32))) (IntKind.wrap .u64 (a*b)) w) (ok 51) [] [] Tryz.func240
def SW:=λa b w Q=>bB (qf a b w Q) (En a b w λc d w=>
Q c d w) (ok 30) [] [] Tryz.func218
def sD (Q:L3 WP)(R18:Int->Int->L3 (Int->WP))(a b:Int)(c:OA)(d e:Nat)(f:Int)(w:World):Prop:=cond (decide (f<a)) (bR c d e 1 (some f) none λg i j=>bR c d e 1 none (some (EU f b)) λl m n=>cA P #[22,22] 3 (.slice g i j) (.slice l m n) w.drew λo w=>R18 a b c d e (IntKind.wrap .i64 (f+o)) w) (Q c d e w)
def sE (Q:L3 WP):Nat->Int->Int->L3 (Int->WP)
 |0,_,_,_,_,_,_,_=>False
 |k+1,a,b,c,d,e,f,w=>sD Q (sE Q k) a b c d e f w
def xL (Q:L3 WP)(a:OA)(b c:Nat)(d e:Int)(w:World):Prop:=sU P 219 #[ae d] w λf w=>dS f λg i j=>aI P (Instr.sliceAt 22 (.slice g i j) none (some (ae d)) (some (ae d))) w λo w=>dS o λl m n=>cA P #[22,22] 3 (.slice l m n) (.slice a b c) w λp w=>∃k',sE Q k' d e l m n p w
def DY (Q:L3 WP)(a:OA)(b c:Nat)(d:Int)(w:World):Prop:=False
noncomputable def xM:cu:=[(20,sp 0 7 (.op 7 (.op 8 (.op 9 .done))))]
def Wm (Q):∀k,Bk 77 Tryz.f188 (zu Q) 18 [(7,.i .i64),(8,.i .i64),(9,.l),(10,.i .i64)] (sE Q k):=bK λk h=>aW (ok 77) xM [aN h]
def IT (Q):Bk 77 Tryz.f188 (zu Q) 16 [(0,.l),(7,.i .i64),(8,.i .i64)] (xL Q):=aW (ok 77) xM [ck (Wm Q)]
def XU (Q):Bk 77 Tryz.f188 (zu Q) 7 [(0,.l),(6,.i .u64)] (DY Q):=aW (ok 77) xM [aN (IT Q)]
def HM:=λa b c d w Q=>bB (q8 a b c d w Q) (cond (d==0)
(Bx [] 5 w λe w=>
Q (some e) 0 0 w)
(cond (decide (d<0))
(False
)
(qf (IntKind.wrap .u64 (b:Int)) (IntKind.wrap .u64 d) w λf g w=>
cond (decide (f>0))
(DY Q a b c g w)
(cond (decide (g>9223372036854775807))
(DY Q a b c g w)
(cond ((b:Int)==0)
(Bx [] 5 w λi w=>
Q (some i) 0 0 w)
(cond (decide ((IntKind.wrap .i64 g)>8192))
(NZ (b:Int)<|
cond ((IntKind.wrap .i64 ((IntKind.wrap .i64 (Int.tdiv 8192 (b:Int)))*(b:Int)))==0)
(xL Q a b c (IntKind.wrap .i64 g) (b:Int) w)
(xL Q a b c (IntKind.wrap .i64 g) (IntKind.wrap .i64 ((IntKind.wrap .i64 (Int.tdiv 8192 (b:Int)))*(b:Int))) w))
(xL Q a b c (IntKind.wrap .i64 g) (IntKind.wrap .i64 g) w))))))) (ok 77) xM [aN (XU Q),aN (IT Q)] Tryz.func188
def tJ (P2:OA->Int->L3 WP)(Q:L3 (Value->WP))(a:OA)(b:Int)(c:OA)(d e:Nat)(f g:Int)(w:World):Prop:=Bx [.int .u8 g] 5 w λi w=>q8 (some i) 1 1 f w λj l m w=>App P #[22,22] 22 (.slice c d e) (.slice j l m) w λn o p w=>P2 a b n o p w
def oW (Q:L3 (Value->WP))(R2:OA->Int->L3 WP)(a:OA)(b:Int)(c:OA)(d e:Nat)(w:World):Prop:=cond (decide ((d:Int)<b)) (nA a 2 w λf g i j w=>A2 j λl=>cond (!l) (dV j λm=>Q none 0 0 m w) (aH 0 g<|wA f λn=>af .u8 (n.add (((0:Int).toNat)*1)) w.drew λo=>aH 1 g<|wA f λp=>af .u8 (p.add (((1:Int).toNat)*1)) w.drew λq=>w.drew.cell? (p.add (((1:Int).toNat)*1))=some (.int .u8 q)/\cond (q==0) (bX (aZ 5) w.drew.drew λr=>w.drew.drew.cell? (aZ 5)=some r/\dV r λs=>Q none 0 0 s w.drew.drew) (cond (decide ((IntKind.wrap .i64 ((IntKind.wrap .i64 o)+1))>(IntKind.wrap .i64 (b-(d:Int))))) (bX (aZ 5) w.drew.drew λt=>w.drew.drew.cell? (aZ 5)=some t/\dV t λu=>Q none 0 0 u w.drew.drew) (cond (decide ((d:Int)>0)) (aH (IntKind.wrap .i64 ((d:Int)-1)) d<|wA c λv=>af .u8 (v.add (((IntKind.wrap .i64 ((d:Int)-1))).toNat*1)) w.drew λx=>cond (x==q) (bX (aZ 5) w.drew.drew λy=>w.drew.drew.cell? (aZ 5)=some y/\dV y λz=>Q none 0 0 z w.drew.drew) (tJ R2 Q a b c d e (IntKind.wrap .i64 ((IntKind.wrap .i64 o)+1)) q w.drew)) (tJ R2 Q a b c d e (IntKind.wrap .i64 ((IntKind.wrap .i64 o)+1)) q w.drew))))) (Q c d e (.nilIface) w)
def oX (Q:L3 (Value->WP)):Nat->OA->Int->L3 WP
 |0,_,_,_,_,_,_=>False
 |k+1,a,b,c,d,e,w=>oW Q (oX Q k) a b c d e w
noncomputable def yn:cu:=[(6,sp 0 8 (.op 8 (.op 9 .done))),(8,.op 0 (.op 1 (.op 2 .done)))]
def Qr {P2}(Q)(H2:Bk 64 Tryz.f189 (tC Q) 2 [(0,.p),(1,.i .i64),(6,.l)] P2):Bk 64 Tryz.f189 (tC Q) 9 [(0,.p),(1,.i .i64),(6,.l),(9,.i .i64),(10,.i .u8)] (tJ P2 Q):=aW (ok 64) yn [aN H2]
def Qs (Q):∀k,Bk 64 Tryz.f189 (tC Q) 2 [(0,.p),(1,.i .i64),(6,.l)] (oX Q k):=bK λk h=>aW (ok 64) yn [aN (Qr Q h)]
def M0:=λa b w Q=>bB (xj a b w Q) (∃k',oX Q k' a b none 0 0 w) (ok 64) yn [ck (Qs Q)] Tryz.func189
noncomputable def Om:cu:=[(12,.op 0 (.op 1 (.op 2 .done)))]
def M1:=λa b w Q=>bB (xg a b w Q) (nA a 1 w λc d e f w=>
A2 f λg=>
cond (!g)
(dV f λi=>
Q none 0 0 i w)
(aH 0 d<|
wA c λj=>
af .u8 (j.add (((0:Int).toNat)*1)) w λl=>
cond (l==0)
(p9 a 1 w λm n o p w=>
q8 m n o b w λq r s w=>
dV p λt=>
Q q r s t w)
(cond (l==1)
(p9 a b w λu v x y w=>
dV y λz=>
Q u v x z w)
(cond (l==2)
(xj a b w λa1 b1 c1 d1 w=>
dV d1 λe1=>
Q a1 b1 c1 e1 w)
(bX (aZ 5) w.drew λf1=>
w.drew.cell? (aZ 5)=some f1/\
dV f1 λg1=>
Q none 0 0 g1 w.drew))))) (ok 47) Om [] Tryz.func167
def XV:=λa w Q=>bB (zy a w Q) (cond (decide (a≥1))
(Q (decide (a<=16)) w)
(Q false w)) (ok 9) [] [] Tryz.func220
def abA:=λa b c d e w Q=>bB (ug a b c d e w Q) (Bx [ae a,ae b,.slice c d e] 84 w λf w=>
af .i64 f w λg=>
zy g w λi w=>
cond i
(af .i64 (f.add 1) w λj=>
zy j w λl w=>
cond l
(aC (f.add 2) w λm n o=>
af .i64 f w λp=>
af .i64 (f.add 1) w λq=>
cond ((n:Int)==(IntKind.wrap .i64 (p*q)))
(aC (f.add 2) w λr s t=>
iH r s t 0 w λu w=>
Q (!u) w)
(Q false w))
(Q false w))
(Q false w)) (ok 28) [] [] Tryz.func190
def ja (Q:Int->WP)(R2:L3 (Value->Int->Int->WP))(a:OA)(b c:Nat)(d:Value)(e f:Int)(w:World):Prop:=cond (decide (f<e)) (aH f b<|wA a λg=>af .u8 (g.add (f.toNat*1)) w λi=>gX (cx 19) d [.int .u8 i] w λj w=>dB j λl=>cond l (Q f w) (R2 a b c d e (IntKind.wrap .i64 (f+1)) w)) (Q (-1) w)
def jb (Q:Int->WP):Nat->L3 (Value->Int->Int->WP)
 |0,_,_,_,_,_,_,_=>False
 |k+1,a,b,c,d,e,f,w=>ja Q (jb Q k) a b c d e f w
def Fi (Q):∀k,Bk 19 Tryz.f264 (wu Q) 2 [(0,.l),(1,.v),(7,.i .i64),(8,.i .i64)] (jb Q k):=bK λk h=>aW (ok 19) [] [aN h]
def DZ:=λa b c d w Q=>bB (uy a b c d w Q) (∃k',jb Q k' a b c d (b:Int) 0 w) (ok 19) [] [ck (Fi Q)] Tryz.func264
def B7:=λa b c d w Q=>bB (mE a b c d w Q) (uy a b c d w λe w=>
Q (decide (e≥0)) w) (ok 9) [] [] Tryz.func241
def XW:=λa b w Q=>bB (JX a b w Q) (wA b λc=>
aC (c.add 2) w λd e f=>
aH 0 e<|
wA d λg=>
af .u8 (g.add (((0:Int).toNat)*1)) w λi=>
Q (a !=i) w) (ok 10) [] [] Tryz.func242
def Dt (uz:Addr->L3 (Int->WP))(Q:L3 WP)(a:Addr)(b:OA)(c d:Nat)(e f:Int)(w:World):Prop:=aC (a.add 2) w λg i j=>aH e i<|wA g λl=>af .u8 (l.add (e.toNat*1)) w λm=>Bx [.int .u8 (IntKind.wrap .u8 (IntKind.wrap .i64 (f-1))),.int .u8 m] 5 w λn w=>App P #[22,22] 22 (.slice b c d) (.slice (some n) 2 2) w λo p q w=>uz a o p q (IntKind.wrap .i64 (e+f)) w
def IA (uz:Addr->L3 (Int->WP))(Q:L3 WP)(R12:Addr->L3 (Int->Int->WP))(a:Addr)(b:OA)(c d:Nat)(e f:Int)(w:World):Prop:=aC (a.add 2) w.drew λg i j=>cond (decide ((IntKind.wrap .i64 (e+f))<(i:Int))) (aC (a.add 2) w.drew λl m n=>aH (IntKind.wrap .i64 (e+f)) m<|wA l λo=>af .u8 (o.add (((IntKind.wrap .i64 (e+f))).toNat*1)) w.drew λp=>aC (a.add 2) w.drew λq r s=>aH e r<|wA q λt=>af .u8 (t.add (e.toNat*1)) w.drew λu=>cond (p==u) (R12 a b c d e (IntKind.wrap .i64 (f+1)) w.drew) (Dt uz Q a b c d e f w.drew)) (Dt uz Q a b c d e f w.drew)
def vV (uz:Addr->L3 (Int->WP))(Q:L3 WP):Nat->Addr->L3 (Int->Int->WP)
 |0,_,_,_,_,_,_,_=>False
 |k+1,a,b,c,d,e,f,w=>IA uz Q (vV uz Q k) a b c d e f w
def IB (Q:L3 WP)(R10:Addr->L3 (Int->WP))(a:Addr)(b:OA)(c d:Nat)(e:Int)(w:World):Prop:=aC (a.add 2) w λf g i=>cond (decide (e<(g:Int))) (∃k',vV R10 Q k' a b c d e 1 w) (Q b c d w)
def vW (Q:L3 WP):Nat->Addr->L3 (Int->WP)
 |0,_,_,_,_,_,_=>False
 |k+1,a,b,c,d,e,w=>IB Q (vW Q k) a b c d e w
noncomputable def Du:cu:=[(12,sp 0 22 .done)]
def aeD {uz}(Q)(H10:Bk 75 Tryz.f221 (yg Q) 10 [(2,.a),(5,.l),(6,.i .i64)] uz):Bk 75 Tryz.f221 (yg Q) 14 [(2,.a),(5,.l),(6,.i .i64),(7,.i .i64)] (Dt uz Q):=aW (ok 75) Du [aN H10]
def aeE {uz}(Q)(H10:Bk 75 Tryz.f221 (yg Q) 10 [(2,.a),(5,.l),(6,.i .i64)] uz):∀k,Bk 75 Tryz.f221 (yg Q) 12 [(2,.a),(5,.l),(6,.i .i64),(7,.i .i64)] (vV uz Q k):=bK λk h=>aW (ok 75) Du [aN h,aN (aeD Q H10)]
def aeF (Q):∀k,Bk 75 Tryz.f221 (yg Q) 10 [(2,.a),(5,.l),(6,.i .i64)] (vW Q k):=bK λk h=>aW (ok 75) Du [ck (aeE Q h)]
def abB:=λa b c d e f w Q=>bB (GK a b c d e f w Q) (Bx [ae a,ae b,.slice c d e] 84 w λg w=>
Bx [.int .u8 (IntKind.wrap .u8 f)] 5 w λi w=>
cond (f==0)
(aC (g.add 2) w λj l m=>
mE j l m (.func (.func 242) #[] #[.pointer (some g)]) w λn w=>
cond n
(Q none 0 0 w)
(aC (g.add 2) w λo p q=>
aH 0 p<|
wA o λr=>
af .u8 (r.add (((0:Int).toNat)*1)) w λs=>
Bx [.int .u8 s] 5 w λt w=>
App P #[22,22] 22 (.slice (some i) 1 1) (.slice (some t) 1 1) w λu v x w=>
Q u v x w))
(cond (f==1)
(aC (g.add 2) w λy z a1=>
App P #[22,22] 22 (.slice (some i) 1 1) (.slice y z a1) w λb1 c1 d1 w=>
Q b1 c1 d1 w)
(∃k',vW Q k' g (some i) 1 1 0 w))) (ok 75) Du [ck (aeF Q)] Tryz.func221
def yo (P3:Addr->Int->L3 (Int->WP))(Q:Int->L3 WP)(a:Addr)(b:Int)(c:OA)(d e:Nat)(f:Int)(w:World):Prop:=P3 a b c d e (IntKind.wrap .i64 (f+1)) w
def jy (Q:Int->L3 WP)(R3:Addr->Int->L3 (Int->WP))(a:Addr)(b:Int)(c:OA)(d e:Nat)(f:Int)(w:World):Prop:=cond (decide (f<3)) (af .i64 (a.add 0) w λg=>af .i64 (a.add 1) w λi=>aC (a.add 2) w λj l m=>GK g i j l m f w λn o p w=>cond (!n.isNone) (cond c.isNone (yo R3 Q a f n o p f w) (cond (decide ((o:Int)<(d:Int))) (yo R3 Q a f n o p f w) (R3 a b c d e (IntKind.wrap .i64 (f+1)) w))) (R3 a b c d e (IntKind.wrap .i64 (f+1)) w)) (Q b c d e w)
def n6 (Q:Int->L3 WP):Nat->Addr->Int->L3 (Int->WP)
 |0,_,_,_,_,_,_,_=>False
 |k+1,a,b,c,d,e,f,w=>jy Q (n6 Q k) a b c d e f w
def abC {P3}(Q)(H3:Bk 32 Tryz.f191 (B2 Q) 3 [(1,.a),(4,.i .i64),(5,.l),(8,.i .i64)] P3):Bk 32 Tryz.f191 (B2 Q) 7 [(1,.a),(6,.i .i64),(7,.l),(8,.i .i64)] (yo P3 Q):=aW (ok 32) [] [aN H3]
def abD (Q):∀k,Bk 32 Tryz.f191 (B2 Q) 3 [(1,.a),(4,.i .i64),(5,.l),(8,.i .i64)] (n6 Q k):=bK λk h=>aW (ok 32) [] [aN h,aN (abC Q h)]
def XX:=λa b c d e w Q=>bB (DT a b c d e w Q) (Bx [ae a,ae b,.slice c d e] 84 w λf w=>
∃k',n6 Q k' f (-1) none 0 0 0 w) (ok 32) [] [ck (abD Q)] Tryz.func191
def abE:=λa b c d e w Q=>bB (GJ a b c d e w Q) (Bx [ae a,ae b,.slice c d e] 84 w λf w=>
af .i64 (f.add 0) w λg=>
af .i64 (f.add 1) w λi=>
aC (f.add 2) w λj l m=>
ug g i j l m w λn w=>
cond (!n)
(Q none 0 0 1 w)
(af .i64 (f.add 0) w λo=>
af .i64 (f.add 1) w λp=>
aC (f.add 2) w λq r s=>
DT o p q r s w λt u v x w=>
Q u v x 0 w)) (ok 15) [] [] Tryz.func168
def Wn:=λa b c d e f w Q=>bB (CK a b c d e f w Q) (aI P (convert 22 9 (.slice a b c)) w λg w=>
Xp g λi=>
aI P (convert 22 9 (.slice d e f)) w λj w=>
Xp j λl=>
Q (i.toList==l.toList) w) (ok 10) [] [] Tryz.func169
def yp (Q:Int->Int->L3 (Value->WP))(a b:Addr)(w:World):Prop:=St (a.add 0) (ae 0) w λw=>St (a.add 1) (ae 0) w λw=>St (a.add 2) (.slice none 0 0) w λw=>af .i64 (a.add 0) w λc=>af .i64 (a.add 1) w λd=>aC (a.add 2) w λe f g=>Q c d e f g (.iface 268 (.pointer (some b))) w
def mH (Q:Int->Int->L3 (Value->WP))(a:OA)(b:Addr)(c:Value)(d:Addr)(w:World):Prop:=A2 c λe=>cond e (af .i64 (d.add 0) w λf=>af .i64 (d.add 1) w λg=>aC (d.add 2) w λi j l=>St (b.add 0) (ae f) w λw=>St (b.add 1) (ae g) w λw=>St (b.add 2) (.slice i j l) w λw=>af .i64 (b.add 0) w λm=>af .i64 (b.add 1) w λn=>aC (b.add 2) w λo p q=>Q m n o p q (.nilIface) w) (wA a λr=>af .i64 (r.add 1) w λs=>dV c λt=>Bx [ae s,ae 3,t] 271 w λu w=>bX (aZ 6) w λv=>oR c v w λx w=>cond x (St (u.add 1) (ae 2) w λw=>yp Q b u w) (yp Q b u w))
noncomputable def yq:cu:=[(5,sp 0 10 (.op 10 (.op 11 .done)))]
def On (Q):Bk 66 Tryz.f158 (zo Q) 12 [(6,.a),(13,.a)] (yp Q):=aW (ok 66) yq []
def Qt (Q):Bk 66 Tryz.f158 (zo Q) 7 [(0,.p),(6,.a),(9,.v),(10,.a)] (mH Q):=aW (ok 66) yq [aN (On Q)]
def M3:=λa b c w Q=>bB (xe a b c w Q) (Al T 84 w λd w=>
xg a (IntKind.wrap .i64 (b*c)) w λe f g i w=>
mC e f g w λj l m w=>
Al T 84 w λn w=>
St (n.add 0) (ae b) w λw=>
St (n.add 1) (ae c) w λw=>
St (n.add 2) (.slice j l m) w λw=>
A2 i λo=>
cond o
(af .i64 (n.add 0) w λp=>
af .i64 (n.add 1) w λq=>
aC (n.add 2) w λr s t=>
GJ p q r s t w λu v x y w=>
wA a λz=>
aC z w.drew λa1 b1 c1=>
wA a λd1=>
af .i64 (d1.add 1) w.drew λe1=>
bR a1 b1 c1 1 none (some e1) λf1 g1 i1=>
CK u v x f1 g1 i1 w.drew λj1 w=>
cond (!j1)
(bX (aZ 5) w λl1=>
mH Q a d l1 n w)
(mH Q a d i n w))
(mH Q a d i n w)) (ok 66) yq [aN (Qt Q)] Tryz.func158
def Bm (Q:Int->Int->L3 (Int->Int->WP))(a:Addr)(w:World):Prop:=St (a.add 0) (ae 0) w λw=>St (a.add 1) (ae 0) w λw=>St (a.add 2) (.slice none 0 0) w λw=>af .i64 (a.add 0) w λb=>af .i64 (a.add 1) w λc=>aC (a.add 2) w λd e f=>Q b c d e f 0 1 w
noncomputable def RV:cu:=[(7,sp 0 5 (.op 5 (.op 6 (.op 7 .done)))),(8,sp 0 5 (.op 5 (.op 6 (.op 7 .done))))]
def af_ (Q):Bk 50 Tryz.f143 (TY Q) 2 [(6,.a)] (Bm Q):=aW (ok 50) RV []
def abF:=λa b c d e w Q=>bB (GI a b c d e w Q) (Al T 84 w λf w=>
cond (decide (d<1))
(Bm Q f w)
(cond (decide (d>16))
(Bm Q f w)
(cond (decide (e<1))
(Bm Q f w)
(cond (decide (e>16))
(Bm Q f w)
(Bx [.slice a b c,ae 0] 265 w λg w=>
xe (some g) d e w λi j l m n o w=>
St (f.add 0) (ae i) w λw=>
St (f.add 1) (ae j) w λw=>
St (f.add 2) (.slice l m n) w λw=>
Al T 268 w λp w=>
St p (.pointer none) w λw=>
m7 o (.iface 269 (.pointer (some p))) w λq w=>
cond q
(bg p w.drew λr=>
wA r λs=>
af .i64 (s.add 1) w.drew λt=>
St (f.add 0) (ae 0) w.drew λw=>
St (f.add 1) (ae 0) w λw=>
St (f.add 2) (.slice none 0 0) w λw=>
w.cell? (s.add 1)=some (ae t)/\
w.cell? p=some (.pointer r)/\
w.cell? (s.add 1)=some (ae t)/\
w.cell? p=some (.pointer r)/\
af .i64 (f.add 0) w λu=>
af .i64 (f.add 1) w λv=>
aC (f.add 2) w λx y z=>
Q u v x y z 0 t w)
(af .i64 (f.add 0) w.drew λa1=>
af .i64 (f.add 1) w.drew λb1=>
aC (f.add 2) w.drew λc1 d1 e1=>
af .i64 (g.add 1) w.drew λf1=>
St (f.add 0) (ae a1) w.drew λw=>
St (f.add 1) (ae b1) w λw=>
St (f.add 2) (.slice c1 d1 e1) w λw=>
w.cell? (g.add 1)=some (ae f1)/\
af .i64 (f.add 0) w λg1=>
af .i64 (f.add 1) w λi1=>
aC (f.add 2) w λj1 l1 m1=>
Q g1 i1 j1 l1 m1 f1 0 w)))))) (ok 50) RV [aN (af_ Q)] Tryz.func143
def XY:=λa b c d w Q=>bB (zm a b c d w Q) (kW a b w λe w=>
cond (!e)
(Q (-1) w)
(cond (decide (c<0))
(Q (-1) w)
(cond (decide (c≥a))
(Q (-1) w)
(cond (decide (d<0))
(Q (-1) w)
(cond (decide (d≥b))
(Q (-1) w)
(Q (IntKind.wrap .i64 ((IntKind.wrap .i64 (d*a))+c)) w)))))) (ok 36) [] [] Tryz.func42
noncomputable def Wo:cu:=[(5,sp 0 12 (.op 12 (.op 13 .done)))]
def Ub:=λa b c d w Q=>bB (nV a b c d w Q) (wg a b c w λe f g w=>
nR a b c w λi j w=>
cond (!g)
(Q (-1) w)
(cond (decide (d<0))
(Q (-1) w)
(cond (decide (d≥(IntKind.wrap .i64 (i*j))))
(Q (-1) w)
(NZ i<|
NZ i<|
zm a b (IntKind.wrap .i64 (e+(Int.tmod d i))) (IntKind.wrap .i64 (f+(IntKind.wrap .i64 (Int.tdiv d i)))) w.drew λl w=>
Q l w)))) (ok 55) Wo [] Tryz.func159
def z6 (Q:WP)(R3:Addr->Addr->Int->Int->Int->WP)(a b:Addr)(c d e:Int)(w:World):Prop:=cond (decide (e<d)) (aC (a.add 2) w.drew λf g i=>af .i64 a w.drew λj=>bR f g i 1 (some (IntKind.wrap .i64 (c+(IntKind.wrap .i64 (e*j))))) none λl m n=>aC (b.add 2) w.drew λo p q=>af .i64 b w.drew λr=>af .i64 b w.drew λs=>bR o p q 1 (some (IntKind.wrap .i64 (e*r))) (some (IntKind.wrap .i64 ((IntKind.wrap .i64 (e+1))*s))) λt u v=>cA P #[22,22] 3 (.slice l m n) (.slice t u v) w.drew λx w=>R3 a b c d (IntKind.wrap .i64 (e+1)) w) (Q w)
def Dv (Q:WP):Nat->Addr->Addr->Int->Int->Int->WP
 |0,_,_,_,_,_,_=>False
 |k+1,a,b,c,d,e,w=>z6 Q (Dv Q k) a b c d e w
noncomputable def Oo:cu:=[(5,sp 0 21 (.op 21 .done))]
def aeG (Q):∀k,Bk 42 Tryz.f144 (RT Q) 3 [(3,.a),(5,.a),(6,.i .i64),(15,.i .i64),(16,.i .i64)] (Dv Q k):=bK λk h=>aW (ok 42) Oo [aN h]
def ZF:=λa b c d e f g i j l m w Q=>bB (Fb a b c d e f g i j l m w Q) (Bx [ae a,ae b,.slice c d e] 25 w λn w=>
Bx [ae g,ae i,.slice j l m] 84 w λo w=>
af .i64 n w λp=>
af .i64 (n.add 1) w λq=>
nV p q f 0 w λr w=>
af .i64 (o.add 1) w λs=>
∃k',Dv Q k' n o r s 0 w) (ok 42) Oo [ck (aeG Q)] Tryz.func144
def yu (Q:Int->Int->L3 (Value->WP))(R9:L3 (Addr->Addr->Int->Int->WP))(a:OA)(b c:Nat)(d e:Addr)(f g:Int)(w:World):Prop:=cond (decide (g<f)) (af .i64 e w λi=>af .i64 (e.add 1) w λj=>nR i j g w λl m w=>GI a b c l m w λn o p q r s t w=>Al T 84 w λu w=>St (u.add 0) (ae n) w λw=>St (u.add 1) (ae o) w λw=>St (u.add 2) (.slice p q r) w λw=>cond (t !=0) (Bx [ae g,.iface 187 (ae t)] 242 w λv w=>St (d.add 0) (ae 0) w λw=>St (d.add 1) (ae 0) w λw=>St (d.add 2) (.slice none 0 0) w λw=>af .i64 (d.add 0) w λx=>af .i64 (d.add 1) w λy=>aC (d.add 2) w λz a1 b1=>Q x y z a1 b1 (.iface 240 (.pointer (some v))) w) (af .i64 (e.add 0) w λc1=>af .i64 (e.add 1) w λd1=>aC (e.add 2) w λe1 f1 g1=>af .i64 (u.add 0) w λi1=>af .i64 (u.add 1) w λj1=>aC (u.add 2) w λl1 m1 n1=>Fb c1 d1 e1 f1 g1 g i1 j1 l1 m1 n1 w λw=>bR a b c 1 (some s) none λo1 p1 q1=>R9 o1 p1 q1 d e f (IntKind.wrap .i64 (g+1)) w)) (cond (decide ((b:Int)>0)) (St (d.add 0) (ae 0) w λw=>St (d.add 1) (ae 0) w λw=>St (d.add 2) (.slice none 0 0) w λw=>af .i64 (d.add 0) w λr1=>af .i64 (d.add 1) w λs1=>aC (d.add 2) w λt1 u1 v1=>Q r1 s1 t1 u1 v1 (.iface 187 (ae 3)) w) (af .i64 (e.add 0) w λx1=>af .i64 (e.add 1) w λy1=>aC (e.add 2) w λz1 a2 b2=>St (d.add 0) (ae x1) w λw=>St (d.add 1) (ae y1) w λw=>St (d.add 2) (.slice z1 a2 b2) w λw=>af .i64 (d.add 0) w λc2=>af .i64 (d.add 1) w λd2=>aC (d.add 2) w λe2 f2 g2=>Q c2 d2 e2 f2 g2 (.nilIface) w))
def B8 (Q:Int->Int->L3 (Value->WP)):Nat->L3 (Addr->Addr->Int->Int->WP)
 |0,_,_,_,_,_,_,_,_=>False
 |k+1,a,b,c,d,e,f,g,w=>yu Q (B8 Q k) a b c d e f g w
noncomputable def L4:cu:=[(3,sp 0 21 (.op 21 (.op 22 .done)))]
def abG (Q):∀k,Bk 102 Tryz.f111 (N3 Q) 9 [(0,.l),(2,.a),(4,.a),(58,.i .i64),(59,.i .i64)] (B8 Q k):=bK λk h=>aW (ok 102) L4 [aN h]
def XZ:=λa b c w Q=>bB (DN a b c w Q) (Al T 25 w λd w=>
cond (decide ((b:Int)<4))
(St (d.add 0) (ae 0) w λw=>
St (d.add 1) (ae 0) w λw=>
St (d.add 2) (.slice none 0 0) w λw=>
af .i64 (d.add 0) w λe=>
af .i64 (d.add 1) w λf=>
aC (d.add 2) w λg i j=>
Q e f g i j (.iface 187 (ae 2)) w)
(aH 0 b<|
wA a λl=>
af .u8 (l.add (((0:Int).toNat)*1)) w.drew λm=>
aH 1 b<|
wA a λn=>
af .u8 (n.add (((1:Int).toNat)*1)) w.drew λo=>
C4 8<|
aH 2 b<|
wA a λp=>
af .u8 (p.add (((2:Int).toNat)*1)) w.drew λq=>
aH 3 b<|
wA a λr=>
af .u8 (r.add (((3:Int).toNat)*1)) w.drew λs=>
C4 8<|
Al T 25 w.drew λt w=>
w.cell? (r.add (((3:Int).toNat)*1))=some (.int .u8 s)/\
w.cell? (p.add (((2:Int).toNat)*1))=some (.int .u8 q)/\
w.cell? (n.add (((1:Int).toNat)*1))=some (.int .u8 o)/\
w.cell? (l.add (((0:Int).toNat)*1))=some (.int .u8 m)/\
St (t.add 0) (ae (ior .i64 (IntKind.wrap .i64 m) (Ai .i64 (IntKind.wrap .i64 o) 8))) w λw=>
St (t.add 1) (ae (ior .i64 (IntKind.wrap .i64 q) (Ai .i64 (IntKind.wrap .i64 s) 8))) w λw=>
St (t.add 2) (.slice none 0 0) w λw=>
af .i64 t w λu=>
af .i64 (t.add 1) w λv=>
kW u v w λx w=>
cond (!x)
(St (d.add 0) (ae 0) w λw=>
St (d.add 1) (ae 0) w λw=>
St (d.add 2) (.slice none 0 0) w λw=>
af .i64 (d.add 0) w λy=>
af .i64 (d.add 1) w λz=>
aC (d.add 2) w λa1 b1 c1=>
Q y z a1 b1 c1 (.iface 187 (ae 3)) w)
(bR a b c 1 (some 4) none λd1 e1 f1=>
af .i64 t w λg1=>
af .i64 (t.add 1) w λi1=>
cq P 22 (ae (IntKind.wrap .i64 (g1*i1))) (ae (IntKind.wrap .i64 (g1*i1))) w λj1 l1 m1 w=>
St (t.add 2) (.slice j1 l1 m1) w λw=>
af .i64 t w λn1=>
af .i64 (t.add 1) w λo1=>
DP n1 o1 w λp1 w=>
∃k',B8 Q k' d1 e1 f1 d t p1 0 w))) (ok 102) L4 [ck (abG Q)] Tryz.func111
noncomputable def abH:cu:=[(4,sp 0 2 (.op 2 (.op 3 .done)))]
def ZG:=λa b c w Q=>bB (E6 a b c w Q) (Al T 25 w λd w=>
DN a b c w λe f g i j l w=>
Al T 25 w λm w=>
St (m.add 0) (ae e) w λw=>
St (m.add 1) (ae f) w λw=>
St (m.add 2) (.slice g i j) w λw=>
Al T 187 w λn w=>
St n (ae 0) w λw=>
m7 l (.iface 188 (.pointer (some n))) w λo w=>
cond o
(af .i64 n w.drew λp=>
St (d.add 0) (ae 0) w.drew λw=>
St (d.add 1) (ae 0) w λw=>
St (d.add 2) (.slice none 0 0) w λw=>
w.cell? n=some (ae p)/\
af .i64 (d.add 0) w λq=>
af .i64 (d.add 1) w λr=>
aC (d.add 2) w λs t u=>
Q q r s t u p w)
(af .i64 (m.add 0) w λv=>
af .i64 (m.add 1) w λx=>
aC (m.add 2) w λy z a1=>
St (d.add 0) (ae v) w λw=>
St (d.add 1) (ae x) w λw=>
St (d.add 2) (.slice y z a1) w λw=>
af .i64 (d.add 0) w λb1=>
af .i64 (d.add 1) w λc1=>
aC (d.add 2) w λd1 e1 f1=>
Q b1 c1 d1 e1 f1 0 w)) (ok 18) abH [] Tryz.func79
def Lj:=λa w Q=>bB (pY a w Q) (cond (!a.isNone)
(wA a λb=>
bg b w λc=>
uS c w λw=>
wA a λd=>
St (d.add 1) (.slice none 0 0) w λw=>
Q w)
(Q w)) (ok 12) [] [] Tryz.func82
def ZH:=λa b c d e w Q=>bB (AD a b c d e w Q) (Bx [ae a,ae b,.slice c d e] 25 w λf w=>
af .i64 f w λg=>
af .i64 (f.add 1) w λi=>
kW g i w λj w=>
cond j
(aC (f.add 2) w λl m n=>
af .i64 f w λo=>
af .i64 (f.add 1) w λp=>
cond ((m:Int)==(IntKind.wrap .i64 (o*p)))
(aC (f.add 2) w λq r s=>
iH q r s 0 w λt w=>
Q (!t) w)
(Q false w))
(Q false w)) (ok 25) [] [] Tryz.func112
def Bn (Q:OA->WP)(R7:Addr->Int->Int->WP)(a:Addr)(b c:Int)(w:World):Prop:=cond (decide (c<b)) (aC (a.add 4) w.drew λd e f=>af .i64 (a.add 3) w.drew λg=>aH c e<|wA d λi=>St (i.add (c.toNat*1)) (ae g) w.drew λw=>R7 a b (IntKind.wrap .i64 (c+1)) w) (Q (some a) w)
def yw (Q:OA->WP):Nat->Addr->Int->Int->WP
 |0,_,_,_,_=>False
 |k+1,a,b,c,w=>Bn Q (yw Q k) a b c w
noncomputable def RW:cu:=[(5,sp 0 6 (.op 6 (.op 7 (.op 8 (.op 9 .done))))),(9,sp 0 10 (.op 10 .done))]
def aga (Q):∀k,Bk 61 Tryz.f113 (TV Q) 7 [(7,.a),(45,.i .i64),(46,.i .i64)] (yw Q k):=bK λk h=>aW (ok 61) RW [aN h]
def abI:=λa b c d e f w Q=>bB (GF a b c d e f w Q) (Bx [ae a,ae b,.slice c d e] 25 w λg w=>
af .i64 (g.add 0) w λi=>
af .i64 (g.add 1) w λj=>
aC (g.add 2) w λl m n=>
AD i j l m n w λo w=>
cond (!o)
(Q none w)
(cond (decide (f<0))
(Q none w)
(cond (decide (f>4611686018427387904))
(Q none w)
(aC (g.add 2) w λp q r=>
mC p q r w λs t u w=>
St (g.add 2) (.slice s t u) w λw=>
af .i64 g w λv=>
af .i64 (g.add 1) w λx=>
kO v x w λy z w=>
af .i64 (g.add 0) w.drew λa1=>
af .i64 (g.add 1) w.drew λb1=>
aC (g.add 2) w.drew λc1 d1 e1=>
cq P 172 (ae (IntKind.wrap .i64 (y*z))) (ae (IntKind.wrap .i64 (y*z))) w.drew λf1 g1 i1 w=>
w.cell? (g.add 0)=some (ae a1)/\
w.cell? (g.add 1)=some (ae b1)/\
w.cell? (g.add 2)=some (.slice c1 d1 e1)/\
Bx [ae a1,ae b1,.slice c1 d1 e1,ae (IntKind.wrap .i64 (f+1)),.slice f1 g1 i1] 174 w λj1 w=>
aC (j1.add 4) w λl1 m1 n1=>
∃k',yw Q k' j1 (m1:Int) 0 w)))) (ok 61) RW [ck (aga Q)] Tryz.func113
def Et:=λa w Q=>bB (fQ a w Q) (cond a.isNone
(Q 0 w)
(wA a λb=>
af .i64 (b.add 3) w λc=>
Q c w)) (ok 9) [] [] Tryz.func114
noncomputable def SX:cu:=[(3,sp 0 10 (.op 10 (.op 11 .done)))]
def Qu:=λa w Q=>bB (eG a w Q) (cond a.isNone
(Q 0 0 w)
(wA a λb=>
af .i64 b w.drew λc=>
wA a λd=>
af .i64 (d.add 1) w.drew λe=>
w.drew.cell? (d.add 1)=some (ae e)/\
Q c e w.drew)) (ok 16) SX [] Tryz.func147
def abJ:=λa w Q=>bB (GG a w Q) (cond a.isNone
(Q none w)
(eG a w λb c w=>
kO b c w λd e w=>
cq P 234 (ae (IntKind.wrap .i64 (d*e))) (ae (IntKind.wrap .i64 (d*e))) w λf g i w=>
Bx [.pointer a,.slice f g i,ae 0,.int .u64 0] 236 w λj w=>
Q (some j) w)) (ok 22) [] [] Tryz.func115
def ZI:=λa b w Q=>bB (E9 a b w Q) (cond a.isNone
(Q none w)
(cond b.isNone
(Q none w)
(Bx [.pointer a,.pointer b,.pointer none,.int .u64 0] 197 w λc w=>
Q (some c) w))) (ok 15) [] [] Tryz.func116
noncomputable def Wp:cu:=[(5,sp 0 6 (.op 6 (.op 7 (sp 8 2 (.op 10 .done))))),(6,sp 0 6 (.op 6 (.op 7 (sp 8 2 (.op 10 .done))))),(8,sp 0 9 (.op 9 (sp 10 2 (.op 12 .done))))]
def Uc:=λa b c d e f w Q=>bB (A_ a b c d e f w Q) (Bx [ae b,ae c,.slice d e f] 25 w λg w=>
cond a.isNone
(Q 4 w)
(af .i64 (g.add 0) w λi=>
af .i64 (g.add 1) w λj=>
aC (g.add 2) w λl m n=>
AD i j l m n w λo w=>
cond (!o)
(Q 6 w)
(wA a λp=>
af .u64 ((p.add 4).add 0) w.drew λq=>
af .u64 ((p.add 4).add 1) w.drew λr=>
af .u64 ((p.add 4).add 2) w.drew λs=>
af .u64 ((p.add 4).add 3) w.drew λt=>
af .u64 ((p.add 4).add 4) w.drew λu=>
af .u64 ((p.add 4).add 5) w.drew λv=>
tj a w.drew λx y z a1 b1 c1 w=>
w.cell? ((p.add 4).add 0)=some (.int .u64 q)/\
w.cell? ((p.add 4).add 1)=some (.int .u64 r)/\
w.cell? ((p.add 4).add 2)=some (.int .u64 s)/\
w.cell? ((p.add 4).add 3)=some (.int .u64 t)/\
w.cell? ((p.add 4).add 4)=some (.int .u64 u)/\
w.cell? ((p.add 4).add 5)=some (.int .u64 v)/\
v8 q r s t u v x y z a1 b1 c1 w λd1 e1 f1 g1 i1 j1 w=>
wA a λl1=>
St ((l1.add 4).add 0) (.int .u64 d1) w λw=>
St ((l1.add 4).add 1) (.int .u64 e1) w λw=>
St ((l1.add 4).add 2) (.int .u64 f1) w λw=>
St ((l1.add 4).add 3) (.int .u64 g1) w λw=>
St ((l1.add 4).add 4) (.int .u64 i1) w λw=>
St ((l1.add 4).add 5) (.int .u64 j1) w λw=>
af .i64 (g.add 0) w.drew λm1=>
af .i64 (g.add 1) w.drew λn1=>
aC (g.add 2) w.drew λo1 p1 q1=>
wA a λr1=>
bg r1 w.drew λs1=>
fQ s1 w.drew λt1 w=>
w.cell? (g.add 0)=some (ae m1)/\
w.cell? (g.add 1)=some (ae n1)/\
w.cell? (g.add 2)=some (.slice o1 p1 q1)/\
GF m1 n1 o1 p1 q1 t1 w λu1 w=>
wA a λv1=>
St v1 (.pointer u1) w λw=>
wA a λx1=>
bg x1 w λy1=>
GG y1 w λz1 w=>
wA a λa2=>
St (a2.add 1) (.pointer z1) w λw=>
wA a λb2=>
bg (b2.add 1) w.drew λc2=>
wA a λd2=>
bg d2 w.drew λe2=>
E9 c2 e2 w.drew λf2 w=>
wA a λg2=>
St (g2.add 2) (.pointer f2) w λw=>
wA a λi2=>
bg (i2.add 3) w λj2=>
pY j2 w λw=>
Q 0 w))) (ok 57) Wp [] Tryz.func80
def ZJ:=λa w Q=>bB (E_ a w Q) (cond (decide (a<1))
(Q none w)
(cond (decide (a>65536))
(Q none w)
(cm P 169 none w λb w=>
Bx [ae a,ae 0,.map b,.slice none 0 0] 171 w λc w=>
Q (some c) w))) (ok 13) [] [] Tryz.func117
def ZK:=λa w Q=>bB (Fa a w Q) (cond (decide (a<1))
(Q none w)
(cond (decide (a>1048576))
(Q none w)
(cq P 245 (ae a) (ae a) w λb c d w=>
Bx [.slice b c d,ae 0] 247 w λe w=>
Q (some e) w))) (ok 13) [] [] Tryz.func118
def ZL:=λa b c w Q=>bB (E7 a b c w Q) (kW a b w λd w=>
cond (!d)
(Q none w)
(cond (decide (c<1))
(Q none w)
(cond (decide (c>65536))
(Q none w)
(E_ c w λe w=>
Fa (IntKind.wrap .i64 (a*b)) w λf w=>
Bx [ae a,ae b,ae c,.pointer e,.pointer f] 125 w λg w=>
Q (some g) w)))) (ok 30) [] [] Tryz.func81
noncomputable def Oq:cu:=[(4,sp 0 5 (.op 5 (.op 6 .done))),(6,sp 0 9 (.op 9 (sp 10 2 (.op 12 .done))))]
def M4:=λa b c d w Q=>bB (wV a b c d w Q) (E6 b c d w λe f g i j l w=>
Al T 25 w λm w=>
St (m.add 0) (ae e) w λw=>
St (m.add 1) (ae f) w λw=>
St (m.add 2) (.slice g i j) w λw=>
cond (l !=0)
(Q (.iface 108 (ae 6)) w)
(wA a λn=>
bg (n.add 1) w.drew λo=>
af .i64 (m.add 0) w.drew λp=>
af .i64 (m.add 1) w.drew λq=>
aC (m.add 2) w.drew λr s t=>
A_ o p q r s t w.drew λu w=>
cond (u==0)
(af .i64 m w.drew λv=>
af .i64 (m.add 1) w.drew λx=>
wA a λy=>
af .i64 y w.drew λz=>
E7 v x z w.drew λa1 w=>
wA a λb1=>
St (b1.add 2) (.pointer a1) w λw=>
fW u w λc1 w=>
dV c1 λd1=>
Q d1 w)
(fW u w λe1 w=>
dV e1 λf1=>
Q f1 w))) (ok 37) Oq [] Tryz.func50
def CD:=λa w Q=>bB (pZ a w Q) (cond (!a.isNone)
(wA a λb=>
St (b.add 2) (.pointer none) w λw=>
Q w)
(Q w)) (ok 7) [] [] Tryz.func83
def Gg:=λa w Q=>bB (uR a w Q) (cond (!a.isNone)
(wA a λb=>
bg (b.add 3) w λc=>
pY c w λw=>
wA a λd=>
bg (d.add 2) w λe=>
pZ e w λw=>
Q w)
(Q w)) (ok 14) [] [] Tryz.func51
def Qv:=λa b w Q=>bB (tu a b w Q) (cond (!a.isNone)
(cond (decide (b≥0))
(wA a λc=>
aC c w λd e f=>
Q (decide (b<(e:Int))) w)
(Q false w))
(Q false w)) (ok 20) [] [] Tryz.func148
def Ot:=λa b w Q=>bB (lA a b w Q) (tu a b w λc w=>
cond (!c)
(Q (-1) w)
(wA a λd=>
aC d w λe f g=>
aH b f<|
wA e λi=>
af .u32 (i.add (b.toNat*1)) w λj=>
Q (IntKind.wrap .i64 ((IntKind.wrap .i64 j)-1)) w)) (ok 18) [] [] Tryz.func119
def Ou:=λa b w Q=>bB (x6 a b w Q) (cond a.isNone
(Q (-1) w)
(wA a λc=>
bg (c.add 4) w λd=>
lA d b w λe w=>
Q e w)) (ok 13) [] [] Tryz.func84
def abK:=λa b c w Q=>bB (xZ a b c w Q) (kW a b w λd w=>
cond d
(cond (decide (c≥0))
(Q (decide (c<(IntKind.wrap .i64 (a*b)))) w)
(Q false w))
(Q false w)) (ok 21) [] [] Tryz.func68
noncomputable def X0:cu:=[(3,sp 0 6 (.op 6 (.op 7 .done)))]
def Wq:=λa b c w Q=>bB (sA a b c w Q) (xZ a b c w λd w=>
cond (!d)
(Q (-1) (-1) w)
(NZ a<|
NZ a<|
Q (Int.tmod c a) (IntKind.wrap .i64 (Int.tdiv c a)) w.drew)) (ok 19) X0 [] Tryz.func41
def Ud:=λa b c w Q=>bB (dH a b c w Q) (sA a b c w λd e w=>
cond (decide (d<0))
(Q (-1) w)
(kO a b w λf g w=>
NZ 16<|
NZ 16<|
Q (IntKind.wrap .i64 ((IntKind.wrap .i64 ((IntKind.wrap .i64 (Int.tdiv e 16))*f))+(IntKind.wrap .i64 (Int.tdiv d 16)))) w)) (ok 33) [] [] Tryz.func123
noncomputable def SY:cu:=[(9,sp 0 15 (sp 16 4 (.op 15 (.op 20 (.op 21 .done)))))]
def Qw:=λa b c w Q=>bB (zn a b c w Q) (cond a.isNone
(Q 4 w)
(cond (decide (b<0))
(Q 7 w)
(wA a λd=>
aC (d.add 2) w λe f g=>
cond (decide (b≥(f:Int)))
(Q 7 w)
(cond (decide (c<1))
(Q 8 w)
(cond (decide (c>255))
(Q 8 w)
(wA a λi=>
aC (i.add 2) w λj l m=>
aH b l<|
wA j λn=>
St (n.add (b.toNat*1)) (.int .u8 (IntKind.wrap .u8 c)) w λw=>
wA a λo=>
af .i64 (o.add 3) w λp=>
wA a λq=>
St (q.add 3) (ae (IntKind.wrap .i64 (p+1))) w λw=>
wA a λr=>
aC (r.add 4) w.drew λs t u=>
wA a λv=>
af .i64 v w.drew λx=>
wA a λy=>
af .i64 (y.add 1) w.drew λz=>
wA a λa1=>
af .i64 (a1.add 3) w.drew λb1=>
dH x z b w.drew λc1 w=>
w.cell? (a1.add 3)=some (ae b1)/\
w.cell? (r.add 4)=some (.slice s t u)/\
(aH c1 t<|
wA s λd1=>
St (d1.add (c1.toNat*1)) (ae b1) w λw=>
Q 0 w))))))) (ok 67) SY [] Tryz.func120
def Ue:=λa b c w Q=>bB (Ba a b c w Q) (cond a.isNone
(Q 4 w)
(wA a λd=>
bg d w λe=>
zn e b c w λf w=>
Q f w)) (ok 16) [] [] Tryz.func85
def tK (Q:Value->WP)(a:OA)(b c:Int)(w:World):Prop:=wA a λd=>bg (d.add 1) w λe=>Ba e b c w λf w=>fW f w λg w=>dV g λi=>Q i w
def Qx (Q):Bk 36 Tryz.f52 (E5 Q) 5 [(0,.p),(1,.i .i64),(2,.i .i64)] (tK Q):=aW (ok 36) [] []
def M5:=λa b c w Q=>bB (wW a b c w Q) (cond (decide (c<1))
(Q (.iface 108 (ae 8)) w)
(cond (decide (c>255))
(Q (.iface 108 (ae 8)) w)
(cond (c==255)
(wA a λd=>
bg (d.add 2) w λe=>
x6 e b w λf w=>
cond (decide (f≥0))
(Q (.iface 108 (ae 10)) w)
(tK Q a b c w))
(tK Q a b c w)))) (ok 36) [] [aN (Qx Q)] Tryz.func52
noncomputable def SZ:cu:=[(1,sp 0 9 (.op 9 (.op 10 (.op 11 .done))))]
def Qy:=λa b w Q=>bB (oS a b w Q) (wA a λc=>
af .i64 c w.drew λd=>
wA a λe=>
af .i64 (e.add 1) w.drew λf=>
dH d f b w.drew λg w=>
Q (decide (g≥0)) w) (ok 16) SZ [] Tryz.func88
def Ov:=λa w Q=>bB (x9 a w Q) (cond a.isNone
(Q 0 w)
(wA a λb=>
cf (b.add 2) w λc=>
aI P (Builtin.len_ #[169] 3 [.map c].toArray) w λd w=>dI .i64 d λe=>
Q e w)) (ok 10) [] [] Tryz.func124
def nE (Q:Int->WP)(a b:Int)(w:World):Prop:=cond (a==b) (Q 13 w) (Q 0 w)
def xk (Q:Int->WP)(a:OA)(b c:Int)(w:World):Prop:=wA a λd=>bg (d.add 3) w.drew λe=>wA a λf=>af .i64 (f.add 2) w.drew λg=>x9 e w.drew λi w=>w.cell? (f.add 2)=some (ae g)/\cond (decide (i≥g)) (Q 11 w) (nE Q b c w)
def yx (Q:Int->WP)(a:OA)(b c:Int)(w:World):Prop:=wA a λd=>bg (d.add 4) w λe=>lA e b w λf w=>cond (f !=(-1)) (Q 10 w) (xk Q a b c w)
noncomputable def qO:cu:=[(10,sp 0 4 (sp 5 4 (.op 4 (.op 9 .done))))]
def De (Q):Bk 48 Tryz.f89 (rE Q) 12 [(2,.i .i64),(3,.i .i64)] (nE Q):=aW (ok 48) qO []
def Df (Q):Bk 48 Tryz.f89 (rE Q) 10 [(0,.p),(2,.i .i64),(3,.i .i64)] (xk Q):=aW (ok 48) qO [aN (De Q)]
def Ow (Q):Bk 48 Tryz.f89 (rE Q) 8 [(0,.p),(2,.i .i64),(3,.i .i64)] (yx Q):=aW (ok 48) qO [aN (Df Q)]
def CE:=λa b c d w Q=>bB (mR a b c d w Q) (cond (b==0)
(oS a c w λe w=>
cond (!e)
(Q 7 w)
(oS a d w λf w=>
cond (!f)
(Q 7 w)
(yx Q a c d w)))
(cond (b==1)
(yx Q a c d w)
(cond (b==2)
(xk Q a c d w)
(cond (b==3)
(nE Q c d w)
(Q 0 w))))) (ok 48) qO [aN (Ow Q),aN (Df Q),aN (De Q)] Tryz.func89
noncomputable def Qz:cu:=[(1,sp 0 7 (sp 8 4 (.op 7 (sp 12 2 .done))))]
def Ox:=λa b c w Q=>bB (x8 a b c w Q) (cond a.isNone
(Q 0 false w.drew)
(wA a λd=>
cf (d.add 2) w.drew λe=>
wA a λf=>
af .i64 f w.drew λg=>
aI P (Builtin.len_ #[169] 3 [.map e].toArray) w.drew λi w=>dI .i64 i λj=>
w.cell? f=some (ae g)/\
cond (decide (j≥g))
(Q 0 false w)
(wA a λl=>
af .i64 (l.add 1) w λm=>
wA a λn=>
af .i64 (n.add 1) w λo=>
wA a λp=>
St (p.add 1) (ae (IntKind.wrap .i64 (o+1))) w λw=>
wA a λq=>
cf (q.add 2) w λr=>
bw P (Instr.mapUpdate 169 (.map r) (ae m) (.agg #[ae m,ae b,ae c])) w λw=>
wA a λs=>
aC (s.add 3) w λt u v=>
Bx [ae m] 3 w λx w=>
App P #[29,29] 29 (.slice t u v) (.slice (some x) 1 1) w λy z a1 w=>
wA a λb1=>
St (b1.add 3) (.slice y z a1) w λw=>
Q m true w))) (ok 54) Qz [] Tryz.func121
def M6:=λa b w Q=>bB (qN a b w Q) (tu a b w λc w=>
cond c
(wA a λd=>
aC d w λe f g=>
aH b f<|
wA e λi=>
af .u32 (i.add (b.toNat*1)) w λj=>
Q (j==0) w)
(Q false w)) (ok 18) [] [] Tryz.func149
def Oy:=λa b c w Q=>bB (rH a b c w Q) (qN a b w λd w=>
cond (!d)
(Q false w)
(cond (decide (c<0))
(Q false w)
(cond (decide (c≥4294967295))
(Q false w)
(wA a λe=>
aC e w λf g i=>
aH b g<|
wA f λj=>
St (j.add (b.toNat*1)) (.int .u32 (IntKind.wrap .u32 (IntKind.wrap .i64 (c+1)))) w λw=>
wA a λl=>
af .i64 (l.add 1) w λm=>
wA a λn=>
St (n.add 1) (ae (IntKind.wrap .i64 (m+1))) w λw=>
Q true w)))) (ok 35) [] [] Tryz.func122
def Ll:=λa b c w Q=>bB (vF a b c w Q) (cond a.isNone
(Q (-1) 1 w)
(mR a 0 b c w λd w=>
cond (d !=0)
(Q (-1) d w)
(wA a λe=>
bg (e.add 3) w λf=>
x8 f b c w λg i w=>
wA a λj=>
bg (j.add 4) w λl=>
rH l b g w λm w=>
Q g 0 w))) (ok 35) [] [] Tryz.func86
def Lm:=λa b c w Q=>bB (vA a b c w Q) (wA a λd=>
bg (d.add 1) w λe=>
qZ e b w λf w=>
cond (f==255)
(Q (-1) (.iface 108 (ae 9)) w)
(wA a λg=>
bg (g.add 2) w λi=>
vF i b c w λj l w=>
fW l w λm w=>
dV m λn=>
Q j n w)) (ok 31) [] [] Tryz.func53
def Oz:=λa b w Q=>bB (iE a b w Q) (Al T 43 w λc w=>
cond a.isNone
(St (c.add 0) (ae 0) w λw=>
St (c.add 1) (ae 0) w λw=>
St (c.add 2) (ae 0) w λw=>
af .i64 (c.add 0) w λd=>
af .i64 (c.add 1) w λe=>
af .i64 (c.add 2) w λf=>
Q d e f false w)
(wA a λg=>
cf (g.add 2) w λi=>
aI P (Instr.lookup 169 (.map i) (ae b) true) w λj w=>
dT j λl=>
c_ l λm n=>
dL m λo=>
c_ o λp q=>
dI .i64 p λr=>
c_ q λs t=>
dI .i64 s λu=>
c_ t λv x=>
dI .i64 v λy=>
j7 x<|
c_ n λz a1=>
dB z λb1=>
j7 a1<|
Al T 43 w λc1 w=>
St (c1.add 0) (ae r) w λw=>
St (c1.add 1) (ae u) w λw=>
St (c1.add 2) (ae y) w λw=>
af .i64 (c1.add 0) w λd1=>
af .i64 (c1.add 1) w λe1=>
af .i64 (c1.add 2) w λf1=>
St (c.add 0) (ae d1) w λw=>
St (c.add 1) (ae e1) w λw=>
St (c.add 2) (ae f1) w λw=>
af .i64 (c.add 0) w λg1=>
af .i64 (c.add 1) w λi1=>
af .i64 (c.add 2) w λj1=>
Q g1 i1 j1 b1 w)) (ok 22) [] [] Tryz.func87
def n7 (Q:L3 WP)(R3:OA->L3 (L3 (Int->Int->WP)))(a b:OA)(c d:Nat)(e:OA)(f g:Nat)(i j:Int)(w:World):Prop:=cond (decide (j<i)) (aH j f<|wA e λl=>af .i64 (l.add (j.toNat*1)) w λm=>wA a λn=>cf (n.add 2) w λo=>aI P (Instr.lookup 169 (.map o) (ae m) true) w λp w=>dT p λq=>c_ q λr s=>dL r λt=>c_ t λu v=>dI .i64 u λx=>c_ v λy z=>dI .i64 y λa1=>c_ z λb1 c1=>dI .i64 b1 λd1=>j7 c1<|c_ s λe1 f1=>dB e1 λg1=>j7 f1<|Al T 43 w λi1 w=>St (i1.add 0) (ae x) w λw=>St (i1.add 1) (ae a1) w λw=>St (i1.add 2) (ae d1) w λw=>cond g1 (Bx [ae m] 3 w λj1 w=>App P #[29,29] 29 (.slice b c d) (.slice (some j1) 1 1) w λl1 m1 n1 w=>R3 a l1 m1 n1 e f g i (IntKind.wrap .i64 (j+1)) w) (R3 a b c d e f g i (IntKind.wrap .i64 (j+1)) w)) (Q b c d w)
def lC (Q:L3 WP):Nat->OA->L3 (L3 (Int->Int->WP))
 |0,_,_,_,_,_,_,_,_,_,_=>False
 |k+1,a,b,c,d,e,f,g,i,j,w=>n7 Q (lC Q k) a b c d e f g i j w
def OB (Q):∀k,Bk 33 Tryz.f102 (Ej Q) 3 [(0,.p),(3,.l),(11,.l),(12,.i .i64),(13,.i .i64)] (lC Q k):=bK λk h=>aW (ok 33) [] [aN h]
def Ln:=λa w Q=>bB (p8 a w Q) (wA a λb=>
aC (b.add 3) w λc d e=>
∃k',lC Q k' a none 0 0 c d e (d:Int) 0 w) (ok 33) [] [ck (OB Q)] Tryz.func102
noncomputable def OC:cu:=[(5,sp 0 9 (.op 9 (sp 10 2 .done)))]
def M7:=λa b w Q=>bB (w9 a b w Q) (iE a b w λc d e f w=>
Al T 43 w λg w=>
St (g.add 0) (ae c) w λw=>
St (g.add 1) (ae d) w λw=>
St (g.add 2) (ae e) w λw=>
cond (!f)
(Q false w)
(wA a λi=>
cf (i.add 2) w λj=>
aI P (Builtin.delete_ #[169,3] 0 [.map j,ae b].toArray) w λl w=>
wA a λm=>
aC (m.add 3) w.drew λn o p=>
wA a λq=>
cf (q.add 2) w.drew λr=>
aI P (Builtin.len_ #[169] 3 [.map r].toArray) w.drew λs w=>dI .i64 s λt=>
w.cell? (m.add 3)=some (.slice n o p)/\
cond (decide ((o:Int)>(IntKind.wrap .i64 (2*t))))
(p8 a w λu v x w=>
wA a λy=>
St (y.add 3) (.slice u v x) w λw=>
Q true w)
(Q true w))) (ok 37) OC [] Tryz.func125
def M8:=λa b w Q=>bB (qM a b w Q) (lA a b w λc w=>
cond (c !=(-1))
(wA a λd=>
aC d w λe f g=>
aH b f<|
wA e λi=>
St (i.add (b.toNat*1)) (.int .u32 0) w λw=>
wA a λj=>
af .i64 (j.add 1) w λl=>
wA a λm=>
St (m.add 1) (ae (IntKind.wrap .i64 (l-1))) w λw=>
Q c w)
(Q c w)) (ok 25) [] [] Tryz.func126
noncomputable def OD:cu:=[(1,sp 0 6 (.op 6 .done)),(2,sp 0 6 (.op 6 .done))]
def M9:=λa b c d w Q=>bB (nu a b c d w Q) (Bx [ae b,ae c,ae d] 43 w λe w=>
wA a λf=>
bg (f.add 3) w.drew λg=>
af .i64 e w.drew λi=>
w9 g i w.drew λj w=>
wA a λl=>
bg (l.add 4) w.drew λm=>
af .i64 (e.add 1) w.drew λn=>
qM m n w.drew λo w=>
Q w) (ok 18) OD [] Tryz.func90
noncomputable def QA:cu:=[(4,sp 0 6 (.op 6 .done))]
def OE:=λa b c w Q=>bB (rI a b c w Q) (iE a b w λd e f g w=>
Al T 43 w λi w=>
St (i.add 0) (ae d) w λw=>
St (i.add 1) (ae e) w λw=>
St (i.add 2) (ae f) w λw=>
cond g
(gX (cx 25) c [.pointer (some i)] w λj w=>
dT j λl=>
j7 l<|
wA a λm=>
cf (m.add 2) w.drew λn=>
af .i64 (i.add 0) w.drew λo=>
af .i64 (i.add 1) w.drew λp=>
af .i64 (i.add 2) w.drew λq=>
bw P (Instr.mapUpdate 169 (.map n) (ae b) (.agg #[ae o,ae p,ae q])) w.drew λw=>
Q g w)
(Q g w)) (ok 25) QA [] Tryz.func127
def Lo:=λa b w Q=>bB (CA a b w Q) (wA b λc=>
af .i64 c w λd=>
wA a λe=>
St (e.add 2) (ae d) w λw=>
Q w) (ok 7) [] [] Tryz.func128
def OF:=λa b c w Q=>bB (x7 a b c w Q) (Bx [ae c] 3 w λd w=>
rI a b (.func (.func 128) #[] #[.pointer (some d)]) w λe w=>
Q e w) (ok 11) [] [] Tryz.func91
def IC:=λa b c w Q=>bB (r9 a b c w Q) (cond a.isNone
(Q 1 w)
(wA a λd=>
bg (d.add 3) w λe=>
iE e b w λf g i j w=>
Al T 43 w λl w=>
St (l.add 0) (ae f) w λw=>
St (l.add 1) (ae g) w λw=>
St (l.add 2) (ae i) w λw=>
cond (!j)
(Q 12 w)
(oS a c w λm w=>
cond (!m)
(Q 7 w)
(af .i64 (l.add 1) w λn=>
mR a 3 n c w λo w=>
cond (o !=0)
(af .i64 (l.add 0) w λp=>
af .i64 (l.add 1) w λq=>
af .i64 (l.add 2) w λr=>
nu a p q r w λw=>
Q o w)
(wA a λs=>
bg (s.add 3) w λt=>
x7 t b c w λu w=>
Q 0 w))))) (ok 47) [] [] Tryz.func55
def I_:=λa b w Q=>bB (tf a b w Q) (cond a.isNone
(Q 1 w)
(wA a λc=>
bg (c.add 3) w λd=>
iE d b w λe f g i w=>
Al T 43 w λj w=>
St (j.add 0) (ae e) w λw=>
St (j.add 1) (ae f) w λw=>
St (j.add 2) (ae g) w λw=>
cond (!i)
(Q 12 w)
(af .i64 (j.add 0) w λl=>
af .i64 (j.add 1) w λm=>
af .i64 (j.add 2) w λn=>
nu a l m n w λw=>
Q 0 w))) (ok 23) [] [] Tryz.func56
def Uf:=λa w Q=>bB (wc a w Q) (cond a.isNone
(Q 0 0 w)
(wA a λb=>
bg b w λc=>
eG c w λd e w=>
Q d e w)) (ok 13) [] [] Tryz.func131
def Wr:=λa b c w Q=>bB (mW a b c w Q) (sA a b c w λd e w=>
cond (decide (d<0))
(Q (-1) w)
(dH a b c w λf w=>
nR a b f w λg i w=>
NZ 16<|
NZ 16<|
Q (IntKind.wrap .i64 ((IntKind.wrap .i64 ((Int.tmod e 16)*g))+(Int.tmod d 16))) w)) (ok 37) [] [] Tryz.func132
def q_ (Q:Int->Int->L3 (Bool->WP))(R7:OA->Int->Addr->Int->Int->Int->Addr->Int->Int->WP)(a:OA)(b:Int)(c:Addr)(d e f:Int)(g:Addr)(i j:Int)(w:World):Prop:=cond (decide (j<i)) (nV d e b (IntKind.wrap .i64 (j*f)) w λl w=>aC (g.add 2) w.drew λm n o=>wA a λp=>aC (p.add 2) w.drew λq r s=>bR q r s 1 (some l) (some (IntKind.wrap .i64 (l+f))) λt u v=>App P #[22,22] 22 (.slice m n o) (.slice t u v) w.drew λx y z w=>St (g.add 2) (.slice x y z) w λw=>R7 a b c d e f g i (IntKind.wrap .i64 (j+1)) w) (af .i64 (g.add 0) w λa1=>af .i64 (g.add 1) w λb1=>aC (g.add 2) w λc1 d1 e1=>St (c.add 0) (ae a1) w λw=>St (c.add 1) (ae b1) w λw=>St (c.add 2) (.slice c1 d1 e1) w λw=>af .i64 (c.add 0) w λf1=>af .i64 (c.add 1) w λg1=>aC (c.add 2) w λi1 j1 l1=>Q f1 g1 i1 j1 l1 true w)
def n8 (Q:Int->Int->L3 (Bool->WP)):Nat->OA->Int->Addr->Int->Int->Int->Addr->Int->Int->WP
 |0,_,_,_,_,_,_,_,_,_,_=>False
 |k+1,a,b,c,d,e,f,g,i,j,w=>q_ Q (n8 Q k) a b c d e f g i j w
noncomputable def Gh:cu:=[(10,sp 0 12 (.op 12 (.op 13 (.op 14 .done))))]
def Ug (Q):∀k,Bk 58 Tryz.f161 (HJ Q) 7 [(0,.p),(1,.i .i64),(4,.a),(6,.i .i64),(7,.i .i64),(8,.i .i64),(10,.a),(31,.i .i64),(32,.i .i64)] (n8 Q k):=bK λk h=>aW (ok 58) Gh [aN h]
def QB:=λa b w Q=>bB (tA a b w Q) (Al T 84 w λc w=>
eG a w λd e w=>
nR d e b w λf g w=>
cond (f==0)
(St (c.add 0) (ae 0) w λw=>
St (c.add 1) (ae 0) w λw=>
St (c.add 2) (.slice none 0 0) w λw=>
af .i64 (c.add 0) w λi=>
af .i64 (c.add 1) w λj=>
aC (c.add 2) w λl m n=>
Q i j l m n false w)
(Al T 84 w λo w=>
St (o.add 0) (ae f) w λw=>
St (o.add 1) (ae g) w λw=>
St (o.add 2) (.slice none 0 0) w λw=>
∃k',n8 Q k' a b c d e f o g 0 w)) (ok 58) Gh [ck (Ug Q)] Tryz.func161
def Lp:=λa w Q=>bB (vJ a w Q) (cond a.isNone
(Q 0 w)
(wA a λb=>
af .i64 (b.add 1) w λc=>
Q c w)) (ok 9) [] [] Tryz.func170
def Uh:=λw Q=>bB (wk w Q) (Al T 314 w λa w=>
St (a.add 0) (ae 0) w λw=>
St (a.add 1) (ae 1) w λw=>
St (a.add 2) (ae 2) w λw=>
St (a.add 3) (ae 3) w λw=>
af .i64 (a.add 0) w λb=>
af .i64 (a.add 1) w λc=>
af .i64 (a.add 2) w λd=>
af .i64 (a.add 3) w λe=>
Q b c d e w) (ok 2) [] [] Tryz.func194
def m8 (Q:Int->WP)(a b c d:Int)(w:World):Prop:=zm a b c d w λe w=>Q e w
def wv (Q:Int->WP)(a b c d e:Int)(w:World):Prop:=m8 Q a b c (IntKind.wrap .i64 (d+e)) w
def wB (Q:Int->WP)(a b c d e:Int)(w:World):Prop:=m8 Q a b (IntKind.wrap .i64 (c+e)) d w
def Fj (Q):Bk 43 Tryz.f21 (BZ Q) 16 [(0,.i .i64),(1,.i .i64),(9,.i .i64),(10,.i .i64)] (m8 Q):=aW (ok 43) [] []
def ZM (Q):Bk 43 Tryz.f21 (BZ Q) 12 [(0,.i .i64),(1,.i .i64),(9,.i .i64),(10,.i .i64),(11,.i .i64)] (wv Q):=aW (ok 43) [] [aN (Fj Q)]
def ZN (Q):Bk 43 Tryz.f21 (BZ Q) 14 [(0,.i .i64),(1,.i .i64),(9,.i .i64),(10,.i .i64),(11,.i .i64)] (wB Q):=aW (ok 43) [] [aN (Fj Q)]
def X1:=λa b c d w Q=>bB (nQ a b c d w Q) (sA a b c w λe f w=>
cond (decide (e<0))
(Q (-1) w)
(cond (d==0)
(wv Q a b e f (-1) w)
(cond (d==2)
(wv Q a b e f 1 w)
(cond (d==3)
(wB Q a b e f (-1) w)
(cond (d==1)
(wB Q a b e f 1 w)
(cond (d==4)
(m8 Q a b e f w)
(Q (-1) w))))))) (ok 43) [] [aN (ZM Q),aN (ZN Q),aN (Fj Q)] Tryz.func21
def Ws:=λa b c d w Q=>bB (xK a b c d w Q) (nQ a b c d w λe w=>
cond (decide (e<0))
(Q (-1) w)
(dH a b e w λf w=>
dH a b c w λg w=>
cond (f==g)
(Q (-1) w)
(Q e w))) (ok 29) [] [] Tryz.func195
def sF (Q:L3 WP)(R10:L3 (Int->Int->Int->WP))(a:OA)(b c:Nat)(d e f:Int)(w:World):Prop:=cond (decide (f<e)) (Bx [ae (IntKind.wrap .i64 (d+f))] 3 w λg w=>App P #[29,29] 29 (.slice a b c) (.slice (some g) 1 1) w λi j l w=>R10 i j l d e (IntKind.wrap .i64 (f+1)) w) (Q a b c w)
def mX (Q:L3 WP):Nat->L3 (Int->Int->Int->WP)
 |0,_,_,_,_,_,_,_=>False
 |k+1,a,b,c,d,e,f,w=>sF Q (mX Q k) a b c d e f w
def sG (Q:L3 WP)(ZO:Int->L3 (Int->Int->Int->WP))(a:Int)(b:OA)(c d:Nat)(e f g:Int)(w:World):Prop:=cond (decide (g<f)) (Bx [ae (IntKind.wrap .i64 (e+(IntKind.wrap .i64 (g*a))))] 3 w λi w=>App P #[29,29] 29 (.slice b c d) (.slice (some i) 1 1) w λj l m w=>ZO a j l m e f (IntKind.wrap .i64 (g+1)) w) (Q b c d w)
def mY (Q:L3 WP):Nat->Int->L3 (Int->Int->Int->WP)
 |0,_,_,_,_,_,_,_,_=>False
 |k+1,a,b,c,d,e,f,g,w=>sG Q (mY Q k) a b c d e f g w
def Wt (Q):∀k,Bk 51 Tryz.f222 (DU Q) 10 [(7,.l),(8,.i .i64),(24,.i .i64),(25,.i .i64)] (mX Q k):=bK λk h=>aW (ok 51) [] [aN h]
def Wu (Q):∀k,Bk 51 Tryz.f222 (DU Q) 16 [(0,.i .i64),(7,.l),(8,.i .i64),(37,.i .i64),(38,.i .i64)] (mY Q k):=bK λk h=>aW (ok 51) [] [aN h]
def Ui:=λa b c w Q=>bB (Bi a b c w Q) (cond (c==2)
(∃k',mX Q k' none 0 0 (IntKind.wrap .i64 ((IntKind.wrap .i64 (b-1))*a)) a 0 w)
(cond (c==0)
(∃k',mX Q k' none 0 0 0 a 0 w)
(cond (c==1)
(∃k',mY Q k' a none 0 0 (IntKind.wrap .i64 (a-1)) b 0 w)
(cond (c==3)
(∃k',mY Q k' a none 0 0 0 b 0 w)
(Q none 0 0 w))))) (ok 51) [] [ck (Wt Q),ck (Wu Q)] Tryz.func222
def uA (P4:Int->Int->Int->Int->Int->L3 (Int->Int->Int->Int->Int->WP))(Q:L3 WP)(R9:Int->Int->Int->Int->Int->L3 (Int->Int->Int->Int->Int->L3 (Int->Int->WP)))(a b c d e:Int)(f:OA)(g i:Nat)(j l m n o:Int)(p:OA)(q r:Nat)(s t:Int)(w:World):Prop:=cond (decide (t<s)) (aH t q<|wA p λu=>af .i64 (u.add (t.toNat*1)) w λv=>aH v g<|wA f λx=>St (x.add (v.toNat*1)) (.bool true) w λw=>R9 a b c d e f g i j l m n o p q r s (IntKind.wrap .i64 (t+1)) w) (P4 a b c d e f g i j l m n (IntKind.wrap .i64 (o+1)) w)
def qy (P4:Int->Int->Int->Int->Int->L3 (Int->Int->Int->Int->Int->WP))(Q:L3 WP):Nat->Int->Int->Int->Int->Int->L3 (Int->Int->Int->Int->Int->L3 (Int->Int->WP))
 |0,_,_,_,_,_,_,_,_,_,_,_,_,_,_,_,_,_,_,_=>False
 |k+1,a,b,c,d,e,f,g,i,j,l,m,n,o,p,q,r,s,t,w=>uA P4 Q (qy P4 Q k) a b c d e f g i j l m n o p q r s t w
def sH (Q:L3 WP)(ZO:Int->Int->Int->L3 (L3 (Int->Int->WP)))(a b c:Int)(d:OA)(e f:Nat)(g:OA)(i j:Nat)(l m:Int)(w:World):Prop:=cond (decide (m<l)) (aH m i<|wA g λn=>cw (n.add (m.toNat*1)) w λo=>cond o (nV a b c m w λp w=>Bx [ae p] 3 w λq w=>App P #[29,29] 29 (.slice d e f) (.slice (some q) 1 1) w λr s t w=>ZO a b c r s t g i j l (IntKind.wrap .i64 (m+1)) w) (ZO a b c d e f g i j l (IntKind.wrap .i64 (m+1)) w)) (Q d e f w)
def pE (Q:L3 WP):Nat->Int->Int->Int->L3 (L3 (Int->Int->WP))
 |0,_,_,_,_,_,_,_,_,_,_,_,_=>False
 |k+1,a,b,c,d,e,f,g,i,j,l,m,w=>sH Q (pE Q k) a b c d e f g i j l m w
def uB (Q:L3 WP)(R4:Int->Int->Int->Int->Int->L3 (Int->Int->Int->Int->Int->WP))(a b c d e:Int)(f:OA)(g i:Nat)(j l m n o:Int)(w:World):Prop:=cond (decide (o<4)) (aH o 4<|IxV [ae j,ae l,ae m,ae n] o.toNat λp=>dI .i64 p λq=>Bi d e q w λr s t w=>cond ((s:Int)==0) (R4 a b c d e f g i j l m n (IntKind.wrap .i64 (o+1)) w) (aH 0 s<|wA r λu=>af .i64 (u.add (((0:Int).toNat)*1)) w λv=>nV a b c v w λx w=>xK a b x q w λy w=>cond (decide (y<0)) (R4 a b c d e f g i j l m n (IntKind.wrap .i64 (o+1)) w) (∃k',qy R4 Q k' a b c d e f g i j l m n o r s t (s:Int) 0 w))) (∃k',pE Q k' a b c none 0 0 f g i (g:Int) 0 w)
def qz (Q:L3 WP):Nat->Int->Int->Int->Int->Int->L3 (Int->Int->Int->Int->Int->WP)
 |0,_,_,_,_,_,_,_,_,_,_,_,_,_,_=>False
 |k+1,a,b,c,d,e,f,g,i,j,l,m,n,o,w=>uB Q (qz Q k) a b c d e f g i j l m n o w
def X2 {P4}(Q)(H4:Bk 83 Tryz.f192 (ux Q) 4 [(0,.i .i64),(1,.i .i64),(2,.i .i64),(7,.i .i64),(8,.i .i64),(9,.l),(29,.g [.i64,.i64,.i64,.i64]),(30,.i .i64)] P4):∀k,Bk 83 Tryz.f192 (ux Q) 9 [(0,.i .i64),(1,.i .i64),(2,.i .i64),(7,.i .i64),(8,.i .i64),(9,.l),(29,.g [.i64,.i64,.i64,.i64]),(30,.i .i64),(54,.l),(55,.i .i64),(56,.i .i64)] (qy P4 Q k):=bK λk h=>aW (ok 83) [] [aN H4,aN h]
def Wv (Q):∀k,Bk 83 Tryz.f192 (ux Q) 16 [(0,.i .i64),(1,.i .i64),(2,.i .i64),(15,.l),(65,.l),(66,.i .i64),(67,.i .i64)] (pE Q k):=bK λk h=>aW (ok 83) [] [aN h]
def X3 (Q):∀k,Bk 83 Tryz.f192 (ux Q) 4 [(0,.i .i64),(1,.i .i64),(2,.i .i64),(7,.i .i64),(8,.i .i64),(9,.l),(29,.g [.i64,.i64,.i64,.i64]),(30,.i .i64)] (qz Q k):=bK λk h=>aW (ok 83) [] [aN h,ck (X2 Q h),ck (Wv Q)]
def Uj:=λa b c w Q=>bB (Bg a b c w Q) (nR a b c w λd e w=>
cq P 49 (ae (IntKind.wrap .i64 (d*e))) (ae (IntKind.wrap .i64 (d*e))) w λf g i w=>
wk w λj l m n w=>
∃k',qz Q k' a b c d e f g i j l m n 0 w) (ok 83) [] [ck (X3 Q)] Tryz.func192
def Ww:=λa b w Q=>bB (sB a b w Q) (eU a b w λc w=>
cond (decide (c>0))
(Q (decide (c<255)) w)
(Q false w)) (ok 15) [] [] Tryz.func193
def uC (Q:L3 WP)(R4:OA->L3 (L3 (Int->Int->WP)))(a b:OA)(c d:Nat)(e:OA)(f g:Nat)(i j:Int)(w:World):Prop:=cond (decide (j<i)) (aH j f<|wA e λl=>af .i64 (l.add (j.toNat*1)) w λm=>sB a m w λn w=>cond n (Bx [ae m] 3 w λo w=>App P #[29,29] 29 (.slice b c d) (.slice (some o) 1 1) w λp q r w=>R4 a p q r e f g i (IntKind.wrap .i64 (j+1)) w) (R4 a b c d e f g i (IntKind.wrap .i64 (j+1)) w)) (Q b c d w)
def qA (Q:L3 WP):Nat->OA->L3 (L3 (Int->Int->WP))
 |0,_,_,_,_,_,_,_,_,_,_=>False
 |k+1,a,b,c,d,e,f,g,i,j,w=>uC Q (qA Q k) a b c d e f g i j w
def X4 (Q):∀k,Bk 33 Tryz.f171 (JR Q) 4 [(0,.p),(7,.l),(18,.l),(19,.i .i64),(20,.i .i64)] (qA Q k):=bK λk h=>aW (ok 33) [] [aN h]
def Uk:=λa b w Q=>bB (nX a b w Q) (eG a w λc d w=>
Bg c d b w λe f g w=>
∃k',qA Q k' a none 0 0 e f g (f:Int) 0 w) (ok 33) [] [ck (X4 Q)] Tryz.func171
def uD (Q:L3 WP)(R6:OA->Int->Int->Int->L3 (Int->Int->Int->Int->Int->WP))(a:OA)(b c d:Int)(e:OA)(f g:Nat)(i j l m n:Int)(w:World):Prop:=cond (decide (n<4)) (aH n 4<|IxV [ae i,ae j,ae l,ae m] n.toNat λo=>dI .i64 o λp=>xK c d b p w λq w=>cond (decide (q≥0)) (sB a q w λr w=>cond r (eU a q w λs w=>Bx [ae q,ae s] 292 w λt w=>App P #[289,289] 289 (.slice e f g) (.slice (some t) 1 1) w λu v x w=>R6 a b c d u v x i j l m (IntKind.wrap .i64 (n+1)) w) (R6 a b c d e f g i j l m (IntKind.wrap .i64 (n+1)) w)) (R6 a b c d e f g i j l m (IntKind.wrap .i64 (n+1)) w)) (Q e f g w)
def nS (Q:L3 WP):Nat->OA->Int->Int->Int->L3 (Int->Int->Int->Int->Int->WP)
 |0,_,_,_,_,_,_,_,_,_,_,_,_,_=>False
 |k+1,a,b,c,d,e,f,g,i,j,l,m,n,w=>uD Q (nS Q k) a b c d e f g i j l m n w
def X5 (Q):∀k,Bk 46 Tryz.f172 (JS Q) 6 [(0,.p),(1,.i .i64),(5,.i .i64),(6,.i .i64),(7,.l),(20,.g [.i64,.i64,.i64,.i64]),(21,.i .i64)] (nS Q k):=bK λk h=>aW (ok 46) [] [aN h]
def Ul:=λa b w Q=>bB (Bf a b w Q) (eG a w λc d w=>
sB a b w λe w=>
cond (!e)
(Q none 0 0 w)
(wk w λf g i j w=>
∃k',nS Q k' a b c d none 0 0 f g i j 0 w)) (ok 46) [] [ck (X5 Q)] Tryz.func172
def QC:=λa b w Q=>bB (zq a b w Q) (cond a.isNone
(Q 1099511627776 w)
(cond (decide (b<0))
(Q 1099511627776 w)
(wA a λc=>
aC (c.add 2) w λd e f=>
cond (decide (b≥(e:Int)))
(Q 1099511627776 w)
(wA a λg=>
aC (g.add 2) w λi j l=>
aH b j<|
wA i λm=>
af .i32 (m.add (b.toNat*1)) w λn=>
cond (n==2147483647)
(Q 1099511627776 w)
(wA a λo=>
aC (o.add 2) w λp q r=>
aH b q<|
wA p λs=>
af .i32 (s.add (b.toNat*1)) w λt=>
Q (IntKind.wrap .i64 t) w))))) (ok 38) [] [] Tryz.func173
def ij (Q:Int->WP)(R4:Int->Int->Int->Int->Int->WP)(a b c d e:Int)(w:World):Prop:=cond (decide (e<=4)) (nQ a b c e w λf w=>cond (f==d) (Q e w) (R4 a b c d (IntKind.wrap .i64 (e+1)) w)) (Q 5 w)
def mI (Q:Int->WP):Nat->Int->Int->Int->Int->Int->WP
 |0,_,_,_,_,_,_=>False
 |k+1,a,b,c,d,e,w=>ij Q (mI Q k) a b c d e w
def abL (Q):∀k,Bk 34 Tryz.f174 (N9 Q) 4 [(0,.i .i64),(1,.i .i64),(2,.i .i64),(3,.i .i64),(9,.i .i64)] (mI Q k):=bK λk h=>aW (ok 34) [] [aN h]
def X6:=λa b c d w Q=>bB (DR a b c d w Q) (xZ a b c w λe w=>
cond (!e)
(Q 5 w)
(xZ a b d w λf w=>
cond (!f)
(Q 5 w)
(∃k',mI Q k' a b c d 0 w))) (ok 34) [] [ck (abL Q)] Tryz.func174
def Na:=λa w Q=>bB (xh a w Q) (cond a.isNone
(Q (-1) w)
(wA a λb=>
af .i64 b w λc=>
Q c w)) (ok 9) [] [] Tryz.func175
def Bo:=λa b c w Q=>bB (iZ a b c w Q) (cond a.isNone
(Q none 0 0 w)
(Bx [] 294 w λd w=>
App P #[278,278] 278 (.slice (some d) 0 0) (.slice a b c) w λe f g w=>
Q e f g w)) (ok 8) [] [] Tryz.func185
def fG (P1:L3 (Int->Int->Value->Int->WP))(Q:WP)(R4:L3 (Int->Int->Value->Int->Int->WP))(a:OA)(b c:Nat)(d e:Int)(f:Value)(g i:Int)(w:World):Prop:=cond (decide (i>d)) (aH i b<|wA a λj=>af .i64 ((j.add (i.toNat*3)).add 0) w.drew λl=>af .i64 ((j.add (i.toNat*3)).add 1) w.drew λm=>af .i64 ((j.add (i.toNat*3)).add 2) w.drew λn=>aH (IntKind.wrap .i64 (i-1)) b<|wA a λo=>af .i64 ((o.add (((IntKind.wrap .i64 (i-1))).toNat*3)).add 0) w.drew λp=>af .i64 ((o.add (((IntKind.wrap .i64 (i-1))).toNat*3)).add 1) w.drew λq=>af .i64 ((o.add (((IntKind.wrap .i64 (i-1))).toNat*3)).add 2) w.drew λr=>gX (cx 53) f [.agg #[ae l,ae m,ae n],.agg #[ae p,ae q,ae r]] w.drew λs w=>dI .i64 s λt=>cond (decide (t<0)) (aH (IntKind.wrap .i64 (i-1)) b<|wA a λu=>af .i64 ((u.add (((IntKind.wrap .i64 (i-1))).toNat*3)).add 0) w.drew λv=>af .i64 ((u.add (((IntKind.wrap .i64 (i-1))).toNat*3)).add 1) w.drew λx=>af .i64 ((u.add (((IntKind.wrap .i64 (i-1))).toNat*3)).add 2) w.drew λy=>aH i b<|wA a λz=>af .i64 ((z.add (i.toNat*3)).add 0) w.drew λa1=>af .i64 ((z.add (i.toNat*3)).add 1) w.drew λb1=>af .i64 ((z.add (i.toNat*3)).add 2) w.drew λc1=>aH i b<|wA a λd1=>St ((d1.add (i.toNat*3)).add 0) (ae v) w.drew λw=>St ((d1.add (i.toNat*3)).add 1) (ae x) w λw=>St ((d1.add (i.toNat*3)).add 2) (ae y) w λw=>aH (IntKind.wrap .i64 (i-1)) b<|wA a λe1=>St ((e1.add (((IntKind.wrap .i64 (i-1))).toNat*3)).add 0) (ae a1) w λw=>St ((e1.add (((IntKind.wrap .i64 (i-1))).toNat*3)).add 1) (ae b1) w λw=>St ((e1.add (((IntKind.wrap .i64 (i-1))).toNat*3)).add 2) (ae c1) w λw=>R4 a b c d e f g (IntKind.wrap .i64 (i-1)) w) (P1 a b c d e f (IntKind.wrap .i64 (g+1)) w)) (P1 a b c d e f (IntKind.wrap .i64 (g+1)) w.drew)
def eI (P1:L3 (Int->Int->Value->Int->WP))(Q:WP):Nat->L3 (Int->Int->Value->Int->Int->WP)
 |0,_,_,_,_,_,_,_,_,_=>False
 |k+1,a,b,c,d,e,f,g,i,w=>fG P1 Q (eI P1 Q k) a b c d e f g i w
def fH (Q:WP)(R1:L3 (Int->Int->Value->Int->WP))(a:OA)(b c:Nat)(d e:Int)(f:Value)(g:Int)(w:World):Prop:=cond (decide (g<e)) (∃k',eI R1 Q k' a b c d e f g g w) (Q w)
def eJ (Q:WP):Nat->L3 (Int->Int->Value->Int->WP)
 |0,_,_,_,_,_,_,_,_=>False
 |k+1,a,b,c,d,e,f,g,w=>fH Q (eJ Q k) a b c d e f g w
noncomputable def jP:cu:=[(4,sp 0 14 (.op 14 (sp 15 2 .done))),(6,sp 0 15 (.op 15 (.op 16 (.op 17 .done))))]
def zC {P1}(Q)(H1:Bk 53 Tryz.f243 (gY Q) 1 [(0,.l),(1,.i .i64),(2,.i .i64),(3,.v),(8,.i .i64)] P1):∀k,Bk 53 Tryz.f243 (gY Q) 4 [(0,.l),(1,.i .i64),(2,.i .i64),(3,.v),(8,.i .i64),(9,.i .i64)] (eI P1 Q k):=bK λk h=>aW (ok 53) jP [aN H1,aN h]
def zD (Q):∀k,Bk 53 Tryz.f243 (gY Q) 1 [(0,.l),(1,.i .i64),(2,.i .i64),(3,.v),(8,.i .i64)] (eJ Q k):=bK λk h=>aW (ok 53) jP [ck (zC Q h)]
def yy:=λa b c d e f w Q=>bB (jv a b c d e f w Q) (∃k',eJ Q k' a b c d e f (IntKind.wrap .i64 (d+1)) w) (ok 53) jP [ck (zD Q)] Tryz.func243
def fm (P1:L3 (Int->Int->Value->Int->WP))(Q:WP)(a:OA)(b c:Nat)(d e:Int)(f:Value)(g i:Int)(w:World):Prop:=aH (IntKind.wrap .i64 (e+g)) b<|wA a λj=>af .i64 ((j.add (((IntKind.wrap .i64 (e+g))).toNat*3)).add 0) w.drew λl=>af .i64 ((j.add (((IntKind.wrap .i64 (e+g))).toNat*3)).add 1) w.drew λm=>af .i64 ((j.add (((IntKind.wrap .i64 (e+g))).toNat*3)).add 2) w.drew λn=>aH (IntKind.wrap .i64 (e+i)) b<|wA a λo=>af .i64 ((o.add (((IntKind.wrap .i64 (e+i))).toNat*3)).add 0) w.drew λp=>af .i64 ((o.add (((IntKind.wrap .i64 (e+i))).toNat*3)).add 1) w.drew λq=>af .i64 ((o.add (((IntKind.wrap .i64 (e+i))).toNat*3)).add 2) w.drew λr=>gX (cx 82) f [.agg #[ae l,ae m,ae n],.agg #[ae p,ae q,ae r]] w.drew λs w=>dI .i64 s λt=>cond (!(decide (t<0))) (Q w) (aH (IntKind.wrap .i64 (e+i)) b<|wA a λu=>af .i64 ((u.add (((IntKind.wrap .i64 (e+i))).toNat*3)).add 0) w.drew λv=>af .i64 ((u.add (((IntKind.wrap .i64 (e+i))).toNat*3)).add 1) w.drew λx=>af .i64 ((u.add (((IntKind.wrap .i64 (e+i))).toNat*3)).add 2) w.drew λy=>aH (IntKind.wrap .i64 (e+g)) b<|wA a λz=>af .i64 ((z.add (((IntKind.wrap .i64 (e+g))).toNat*3)).add 0) w.drew λa1=>af .i64 ((z.add (((IntKind.wrap .i64 (e+g))).toNat*3)).add 1) w.drew λb1=>af .i64 ((z.add (((IntKind.wrap .i64 (e+g))).toNat*3)).add 2) w.drew λc1=>aH (IntKind.wrap .i64 (e+g)) b<|wA a λd1=>St ((d1.add (((IntKind.wrap .i64 (e+g))).toNat*3)).add 0) (ae v) w.drew λw=>St ((d1.add (((IntKind.wrap .i64 (e+g))).toNat*3)).add 1) (ae x) w λw=>St ((d1.add (((IntKind.wrap .i64 (e+g))).toNat*3)).add 2) (ae y) w λw=>aH (IntKind.wrap .i64 (e+i)) b<|wA a λe1=>St ((e1.add (((IntKind.wrap .i64 (e+i))).toNat*3)).add 0) (ae a1) w λw=>St ((e1.add (((IntKind.wrap .i64 (e+i))).toNat*3)).add 1) (ae b1) w λw=>St ((e1.add (((IntKind.wrap .i64 (e+i))).toNat*3)).add 2) (ae c1) w λw=>P1 a b c d e f i w)
def gF (Q:WP)(R1:L3 (Int->Int->Value->Int->WP))(a:OA)(b c:Nat)(d e:Int)(f:Value)(g:Int)(w:World):Prop:=cond (decide ((IntKind.wrap .i64 ((IntKind.wrap .i64 (2*g))+1))≥d)) (Q w) (cond (decide ((IntKind.wrap .i64 ((IntKind.wrap .i64 ((IntKind.wrap .i64 (2*g))+1))+1))<d)) (aH (IntKind.wrap .i64 (e+(IntKind.wrap .i64 ((IntKind.wrap .i64 (2*g))+1)))) b<|wA a λi=>af .i64 ((i.add (((IntKind.wrap .i64 (e+(IntKind.wrap .i64 ((IntKind.wrap .i64 (2*g))+1))))).toNat*3)).add 0) w.drew λj=>af .i64 ((i.add (((IntKind.wrap .i64 (e+(IntKind.wrap .i64 ((IntKind.wrap .i64 (2*g))+1))))).toNat*3)).add 1) w.drew λl=>af .i64 ((i.add (((IntKind.wrap .i64 (e+(IntKind.wrap .i64 ((IntKind.wrap .i64 (2*g))+1))))).toNat*3)).add 2) w.drew λm=>aH (IntKind.wrap .i64 ((IntKind.wrap .i64 (e+(IntKind.wrap .i64 ((IntKind.wrap .i64 (2*g))+1))))+1)) b<|wA a λn=>af .i64 ((n.add (((IntKind.wrap .i64 ((IntKind.wrap .i64 (e+(IntKind.wrap .i64 ((IntKind.wrap .i64 (2*g))+1))))+1))).toNat*3)).add 0) w.drew λo=>af .i64 ((n.add (((IntKind.wrap .i64 ((IntKind.wrap .i64 (e+(IntKind.wrap .i64 ((IntKind.wrap .i64 (2*g))+1))))+1))).toNat*3)).add 1) w.drew λp=>af .i64 ((n.add (((IntKind.wrap .i64 ((IntKind.wrap .i64 (e+(IntKind.wrap .i64 ((IntKind.wrap .i64 (2*g))+1))))+1))).toNat*3)).add 2) w.drew λq=>gX (cx 82) f [.agg #[ae j,ae l,ae m],.agg #[ae o,ae p,ae q]] w.drew λr w=>dI .i64 r λs=>cond (decide (s<0)) (fm R1 Q a b c d e f g (IntKind.wrap .i64 ((IntKind.wrap .i64 ((IntKind.wrap .i64 (2*g))+1))+1)) w) (fm R1 Q a b c d e f g (IntKind.wrap .i64 ((IntKind.wrap .i64 (2*g))+1)) w)) (fm R1 Q a b c d e f g (IntKind.wrap .i64 ((IntKind.wrap .i64 (2*g))+1)) w.drew))
def eK (Q:WP):Nat->L3 (Int->Int->Value->Int->WP)
 |0,_,_,_,_,_,_,_,_=>False
 |k+1,a,b,c,d,e,f,g,w=>gF Q (eK Q k) a b c d e f g w
noncomputable def lK:cu:=[(3,sp 0 19 (.op 19 (sp 20 2 .done))),(5,sp 0 13 (.op 13 (sp 14 2 .done))),(6,sp 0 21 (.op 21 (.op 22 (.op 23 .done))))]
def B9 {P1}(Q)(H1:Bk 82 Tryz.f265 (ji Q) 1 [(0,.l),(2,.i .i64),(3,.i .i64),(4,.v),(10,.i .i64)] P1):Bk 82 Tryz.f265 (ji Q) 5 [(0,.l),(2,.i .i64),(3,.i .i64),(4,.v),(10,.i .i64),(11,.i .i64)] (fm P1 Q):=aW (ok 82) lK [aN H1]
def B_ (Q):∀k,Bk 82 Tryz.f265 (ji Q) 1 [(0,.l),(2,.i .i64),(3,.i .i64),(4,.v),(10,.i .i64)] (eK Q k):=bK λk h=>aW (ok 82) lK [aN (B9 Q h)]
def AW:=λa b c d e f g w Q=>bB (iJ a b c d e f g w Q) (∃k',eK Q k' a b c e f g d w) (ok 82) lK [ck (B_ Q)] Tryz.func265
def gG (Q:WP)(R8:L3 (Value->Int->Int->Int->WP))(a:OA)(b c:Nat)(d:Value)(e f g:Int)(w:World):Prop:=cond (decide (g≥0)) (aH (IntKind.wrap .i64 (e+g)) b<|wA a λi=>af .i64 ((i.add (((IntKind.wrap .i64 (e+g))).toNat*3)).add 0) w.drew λj=>af .i64 ((i.add (((IntKind.wrap .i64 (e+g))).toNat*3)).add 1) w.drew λl=>af .i64 ((i.add (((IntKind.wrap .i64 (e+g))).toNat*3)).add 2) w.drew λm=>aH e b<|wA a λn=>af .i64 ((n.add (e.toNat*3)).add 0) w.drew λo=>af .i64 ((n.add (e.toNat*3)).add 1) w.drew λp=>af .i64 ((n.add (e.toNat*3)).add 2) w.drew λq=>aH e b<|wA a λr=>St ((r.add (e.toNat*3)).add 0) (ae j) w.drew λw=>St ((r.add (e.toNat*3)).add 1) (ae l) w λw=>St ((r.add (e.toNat*3)).add 2) (ae m) w λw=>aH (IntKind.wrap .i64 (e+g)) b<|wA a λs=>St ((s.add (((IntKind.wrap .i64 (e+g))).toNat*3)).add 0) (ae o) w λw=>St ((s.add (((IntKind.wrap .i64 (e+g))).toNat*3)).add 1) (ae p) w λw=>St ((s.add (((IntKind.wrap .i64 (e+g))).toNat*3)).add 2) (ae q) w λw=>iJ a b c f g e d w λw=>R8 a b c d e f (IntKind.wrap .i64 (g-1)) w) (Q w)
def fo (Q:WP):Nat->L3 (Value->Int->Int->Int->WP)
 |0,_,_,_,_,_,_,_,_=>False
 |k+1,a,b,c,d,e,f,g,w=>gG Q (fo Q k) a b c d e f g w
def gH (Q:WP)(R4:L3 (Value->Int->Int->Int->Int->WP))(a:OA)(b c:Nat)(d:Value)(e f g i:Int)(w:World):Prop:=cond (decide (i≥0)) (iJ a b c i g e d w λw=>R4 a b c d e f g (IntKind.wrap .i64 (i-1)) w) (∃k',fo Q k' a b c d e f (IntKind.wrap .i64 (g-1)) w)
def fq (Q:WP):Nat->L3 (Value->Int->Int->Int->Int->WP)
 |0,_,_,_,_,_,_,_,_,_=>False
 |k+1,a,b,c,d,e,f,g,i,w=>gH Q (fq Q k) a b c d e f g i w
noncomputable def lN:cu:=[(10,sp 0 17 (.op 17 (.op 18 (.op 19 .done))))]
def Ca (Q):∀k,Bk 60 Tryz.f244 (mF Q) 8 [(0,.l),(3,.v),(8,.i .i64),(9,.i .i64),(12,.i .i64)] (fo Q k):=bK λk h=>aW (ok 60) lN [aN h]
def Cb (Q):∀k,Bk 60 Tryz.f244 (mF Q) 4 [(0,.l),(3,.v),(8,.i .i64),(9,.i .i64),(10,.i .i64),(11,.i .i64)] (fq Q k):=bK λk h=>aW (ok 60) lN [aN h,ck (Ca Q)]
def AX:=λa b c d e f w Q=>bB (lj a b c d e f w Q) (NZ 2<|
∃k',fq Q k' a b c f d 0 (IntKind.wrap .i64 (e-d)) (IntKind.wrap .i64 (Int.tdiv (IntKind.wrap .i64 ((IntKind.wrap .i64 (e-d))-1)) 2)) w) (ok 60) lN [ck (Cb Q)] Tryz.func244
def tL (Q:Int->WP)(a b:Int)(w:World):Prop:=aH (IntKind.wrap .u8 a) (ByteArray.mk ((#[0,1,2,2,3,3,3,3,4,4,4,4,4,4,4,4,5,5,5,5,5,5,5,5,5,5,5,5,5,5,5,5,6,6,6,6,6,6,6,6,6,6,6,6,6,6,6,6,6,6,6,6,6,6,6,6,6,6,6,6,6,6,6,6]++#[7,7,7,7,7,7,7,7,7,7,7,7,7,7,7,7,7,7,7,7,7,7,7,7,7,7,7,7,7,7,7,7,7,7,7,7,7,7,7,7,7,7,7,7,7,7,7,7,7,7,7,7,7,7,7,7,7,7,7,7,7,7,7,7])++(#[8,8,8,8,8,8,8,8,8,8,8,8,8,8,8,8,8,8,8,8,8,8,8,8,8,8,8,8,8,8,8,8,8,8,8,8,8,8,8,8,8,8,8,8,8,8,8,8,8,8,8,8,8,8,8,8,8,8,8,8,8,8,8,8]++#[8,8,8,8,8,8,8,8,8,8,8,8,8,8,8,8,8,8,8,8,8,8,8,8,8,8,8,8,8,8,8,8,8,8,8,8,8,8,8,8,8,8,8,8,8,8,8,8,8,8,8,8,8,8,8,8,8,8,8,8,8,8,8,8]))).size<|Q (IntKind.wrap .i64 (b+(IntKind.wrap .i64 (sb (ByteArray.mk ((#[0,1,2,2,3,3,3,3,4,4,4,4,4,4,4,4,5,5,5,5,5,5,5,5,5,5,5,5,5,5,5,5,6,6,6,6,6,6,6,6,6,6,6,6,6,6,6,6,6,6,6,6,6,6,6,6,6,6,6,6,6,6,6,6]++#[7,7,7,7,7,7,7,7,7,7,7,7,7,7,7,7,7,7,7,7,7,7,7,7,7,7,7,7,7,7,7,7,7,7,7,7,7,7,7,7,7,7,7,7,7,7,7,7,7,7,7,7,7,7,7,7,7,7,7,7,7,7,7,7])++(#[8,8,8,8,8,8,8,8,8,8,8,8,8,8,8,8,8,8,8,8,8,8,8,8,8,8,8,8,8,8,8,8,8,8,8,8,8,8,8,8,8,8,8,8,8,8,8,8,8,8,8,8,8,8,8,8,8,8,8,8,8,8,8,8]++#[8,8,8,8,8,8,8,8,8,8,8,8,8,8,8,8,8,8,8,8,8,8,8,8,8,8,8,8,8,8,8,8,8,8,8,8,8,8,8,8,8,8,8,8,8,8,8,8,8,8,8,8,8,8,8,8,8,8,8,8,8,8,8,8]))) (((IntKind.wrap .u8 a)).toNat))))) w
def uZ (Q:Int->WP)(a b:Int)(w:World):Prop:=cond (decide (a≥256)) (C4 8<|tL Q (oJ .u64 a 8) (IntKind.wrap .i64 (b+8)) w) (tL Q a b w)
def u6 (Q:Int->WP)(a b:Int)(w:World):Prop:=cond (decide (a≥65536)) (C4 16<|uZ Q (oJ .u64 a 16) (IntKind.wrap .i64 (b+16)) w) (uZ Q a b w)
def QD (Q):Bk 25 Tryz.f252 (uW Q) 10 [(0,.i .u64),(2,.i .i64)] (tL Q):=aW (ok 25) [] []
def S0 (Q):Bk 25 Tryz.f252 (uW Q) 7 [(0,.i .u64),(2,.i .i64)] (uZ Q):=aW (ok 25) [] [aN (QD Q)]
def S1 (Q):Bk 25 Tryz.f252 (uW Q) 4 [(0,.i .u64),(2,.i .i64)] (u6 Q):=aW (ok 25) [] [aN (S0 Q)]
def OG:=λa w Q=>bB (Eo a w Q) (cond (decide (a≥4294967296))
(C4 32<|
u6 Q (oJ .u64 a 32) 32 w)
(u6 Q a 0 w)) (ok 25) [] [aN (S1 Q)] Tryz.func252
def S2:=λa w Q=>bB (uV a w Q) (Eo a w λb w=>
Q b w) (ok 8) [] [] Tryz.func224
def HO:=λa w Q=>bB (za a w Q) (uV (IntKind.wrap .u64 a) w λb w=>
C4 b<|
Q (Ai .u64 1 b) w) (ok 7) [] [] Tryz.func266
noncomputable def Ja:cu:=[(1,sp 0 9 (.op 9 .done)),(2,sp 0 9 (.op 9 .done)),(3,sp 0 9 (.op 9 .done))]
def ID:=λa w Q=>bB (sj a w Q) (wA a λb=>
af .u64 b w.drew λc=>
wA a λd=>
af .u64 d w.drew λe=>
C4 13<|
wA a λf=>
St f (.int .u64 (afd .u64 c (Ai .u64 e 13))) w.drew λw=>
wA a λg=>
af .u64 g w.drew λi=>
wA a λj=>
af .u64 j w.drew λl=>
C4 7<|
wA a λm=>
St m (.int .u64 (afd .u64 i (oJ .u64 l 7))) w.drew λw=>
wA a λn=>
af .u64 n w.drew λo=>
wA a λp=>
af .u64 p w.drew λq=>
C4 17<|
wA a λr=>
St r (.int .u64 (afd .u64 o (Ai .u64 q 17))) w.drew λw=>
wA a λs=>
af .u64 s w λt=>
Q t w) (ok 33) Ja [] Tryz.func267
def fg (P5:L3 (Int->Int->Addr->Int->Int->WP))(Q:WP)(a:OA)(b c:Nat)(d e:Int)(f:Addr)(g i j:Int)(w:World):Prop:=aH (IntKind.wrap .i64 (d+j)) b<|wA a λl=>af .i64 ((l.add (((IntKind.wrap .i64 (d+j))).toNat*3)).add 0) w.drew λm=>af .i64 ((l.add (((IntKind.wrap .i64 (d+j))).toNat*3)).add 1) w.drew λn=>af .i64 ((l.add (((IntKind.wrap .i64 (d+j))).toNat*3)).add 2) w.drew λo=>aH i b<|wA a λp=>af .i64 ((p.add (i.toNat*3)).add 0) w.drew λq=>af .i64 ((p.add (i.toNat*3)).add 1) w.drew λr=>af .i64 ((p.add (i.toNat*3)).add 2) w.drew λs=>aH i b<|wA a λt=>St ((t.add (i.toNat*3)).add 0) (ae m) w.drew λw=>St ((t.add (i.toNat*3)).add 1) (ae n) w λw=>St ((t.add (i.toNat*3)).add 2) (ae o) w λw=>aH (IntKind.wrap .i64 (d+j)) b<|wA a λu=>St ((u.add (((IntKind.wrap .i64 (d+j))).toNat*3)).add 0) (ae q) w λw=>St ((u.add (((IntKind.wrap .i64 (d+j))).toNat*3)).add 1) (ae r) w λw=>St ((u.add (((IntKind.wrap .i64 (d+j))).toNat*3)).add 2) (ae s) w λw=>P5 a b c d e f g (IntKind.wrap .i64 (i+1)) w
def j_ (Q:WP)(R5:L3 (Int->Int->Addr->Int->Int->WP))(a:OA)(b c:Nat)(d e:Int)(f:Addr)(g i:Int)(w:World):Prop:=NZ 4<|cond (decide (i<=(IntKind.wrap .i64 ((IntKind.wrap .i64 (d+(IntKind.wrap .i64 ((IntKind.wrap .i64 (Int.tdiv e 4))*2))))+1)))) (sj (some f) w λj w=>cond (decide ((IntKind.wrap .i64 (A1 .u64 j (IntKind.wrap .u64 (g-1))))≥e)) (fg R5 Q a b c d e f g i (IntKind.wrap .i64 ((IntKind.wrap .i64 (A1 .u64 j (IntKind.wrap .u64 (g-1))))-e)) w) (fg R5 Q a b c d e f g i (IntKind.wrap .i64 (A1 .u64 j (IntKind.wrap .u64 (g-1)))) w)) (Q w)
def dw (Q:WP):Nat->L3 (Int->Int->Addr->Int->Int->WP)
 |0,_,_,_,_,_,_,_,_,_=>False
 |k+1,a,b,c,d,e,f,g,i,w=>j_ Q (dw Q k) a b c d e f g i w
noncomputable def jQ:cu:=[(10,sp 0 17 (.op 17 (.op 18 (.op 19 .done))))]
def yZ {P5}(Q)(H5:Bk 67 Tryz.f245 (gZ Q) 5 [(0,.l),(1,.i .i64),(8,.i .i64),(9,.a),(10,.i .u64),(11,.i .i64)] P5):Bk 67 Tryz.f245 (gZ Q) 10 [(0,.l),(1,.i .i64),(8,.i .i64),(9,.a),(10,.i .u64),(11,.i .i64),(12,.i .i64)] (fg P5 Q):=aW (ok 67) jQ [aN H5]
def zE (Q):∀k,Bk 67 Tryz.f245 (gZ Q) 5 [(0,.l),(1,.i .i64),(8,.i .i64),(9,.a),(10,.i .u64),(11,.i .i64)] (dw Q k):=bK λk h=>aW (ok 67) jQ [aN (yZ Q h)]
def yz:=λa b c d e f w Q=>bB (jw a b c d e f w Q) (cond (decide ((IntKind.wrap .i64 (e-d))≥8))
(Al T 390 w λg w=>
St g (.int .u64 (IntKind.wrap .u64 (IntKind.wrap .i64 (e-d)))) w λw=>
za (IntKind.wrap .i64 (e-d)) w λi w=>
NZ 4<|
∃k',dw Q k' a b c d (IntKind.wrap .i64 (e-d)) g i (IntKind.wrap .i64 ((IntKind.wrap .i64 (d+(IntKind.wrap .i64 ((IntKind.wrap .i64 (Int.tdiv (IntKind.wrap .i64 (e-d)) 4))*2))))-1)) w)
(Q w)) (ok 67) jQ [ck (zE Q)] Tryz.func245
noncomputable def CR:cu:=[(1,sp 0 9 (.op 9 (.op 10 .done)))]
def Cc:=λa b c d e f g w Q=>bB (gE a b c d e f g w Q) (aH e b<|
wA a λi=>
af .i64 ((i.add (e.toNat*3)).add 0) w.drew λj=>
af .i64 ((i.add (e.toNat*3)).add 1) w.drew λl=>
af .i64 ((i.add (e.toNat*3)).add 2) w.drew λm=>
aH d b<|
wA a λn=>
af .i64 ((n.add (d.toNat*3)).add 0) w.drew λo=>
af .i64 ((n.add (d.toNat*3)).add 1) w.drew λp=>
af .i64 ((n.add (d.toNat*3)).add 2) w.drew λq=>
gX (cx 32) g [.agg #[ae j,ae l,ae m],.agg #[ae o,ae p,ae q]] w.drew λr w=>
dI .i64 r λs=>
cond (decide (s<0))
(wA f λt=>
af .i64 t w λu=>
wA f λv=>
St v (ae (IntKind.wrap .i64 (u+1))) w λw=>
Q e d w)
(Q d e w)) (ok 32) CR [] Tryz.func278
def Cd:=λa b c d e f g i w Q=>bB (jj a b c d e f g i w Q) (gE a b c d e g i w λj l w=>
gE a b c l f g i w λm n w=>
gE a b c j m g i w λo p w=>
Q p w) (ok 41) [] [] Tryz.func269
def xD:=λa b c d e f w Q=>bB (eZ a b c d e f w Q) (jj a b c (IntKind.wrap .i64 (d-1)) d (IntKind.wrap .i64 (d+1)) e f w λg w=>
Q g w) (ok 18) [] [] Tryz.func268
def ik (Q:Int->Int->WP)(a:Addr)(b:Int)(w:World):Prop:=af .i64 a w λc=>cond (c==0) (Q b 1 w) (cond (c==12) (Q b 2 w) (Q b 0 w))
def iq (Q:Int->Int->WP)(a:OA)(b c:Nat)(d:Value)(e:Addr)(f g i:Int)(w:World):Prop:=jj a b c f g i (some e) d w λj w=>ik Q e j w
def pO (Q):Bk 63 Tryz.f246 (kQ Q) 12 [(11,.a),(13,.i .i64)] (ik Q):=aW (ok 63) [] []
def z7 (Q):Bk 63 Tryz.f246 (kQ Q) 11 [(0,.l),(3,.v),(11,.a),(12,.i .i64),(13,.i .i64),(14,.i .i64)] (iq Q):=aW (ok 63) [] [aN (pO Q)]
def zF:=λa b c d e f w Q=>bB (j9 a b c d e f w Q) (Al T 3 w λg w=>
NZ 4<|
NZ 4<|
NZ 4<|
cond (decide ((IntKind.wrap .i64 (e-d))≥8))
(cond (decide ((IntKind.wrap .i64 (e-d))≥50))
(eZ a b c (IntKind.wrap .i64 (d+(IntKind.wrap .i64 ((IntKind.wrap .i64 (Int.tdiv (IntKind.wrap .i64 (e-d)) 4))*1)))) (some g) f w λi w=>
eZ a b c (IntKind.wrap .i64 (d+(IntKind.wrap .i64 ((IntKind.wrap .i64 (Int.tdiv (IntKind.wrap .i64 (e-d)) 4))*2)))) (some g) f w λj w=>
eZ a b c (IntKind.wrap .i64 (d+(IntKind.wrap .i64 ((IntKind.wrap .i64 (Int.tdiv (IntKind.wrap .i64 (e-d)) 4))*3)))) (some g) f w λl w=>
iq Q a b c f g i j l w)
(iq Q a b c f g (IntKind.wrap .i64 (d+(IntKind.wrap .i64 ((IntKind.wrap .i64 (Int.tdiv (IntKind.wrap .i64 (e-d)) 4))*1)))) (IntKind.wrap .i64 (d+(IntKind.wrap .i64 ((IntKind.wrap .i64 (Int.tdiv (IntKind.wrap .i64 (e-d)) 4))*2)))) (IntKind.wrap .i64 (d+(IntKind.wrap .i64 ((IntKind.wrap .i64 (Int.tdiv (IntKind.wrap .i64 (e-d)) 4))*3)))) w))
(ik Q g (IntKind.wrap .i64 (d+(IntKind.wrap .i64 ((IntKind.wrap .i64 (Int.tdiv (IntKind.wrap .i64 (e-d)) 4))*2)))) w)) (ok 63) [] [aN (z7 Q),aN (pO Q)] Tryz.func246
def fN (Q:WP)(R2:L3 (Int->Int->WP))(a:OA)(b c:Nat)(d e:Int)(w:World):Prop:=cond (decide (d<e)) (aH e b<|wA a λf=>af .i64 ((f.add (e.toNat*3)).add 0) w.drew λg=>af .i64 ((f.add (e.toNat*3)).add 1) w.drew λi=>af .i64 ((f.add (e.toNat*3)).add 2) w.drew λj=>aH d b<|wA a λl=>af .i64 ((l.add (d.toNat*3)).add 0) w.drew λm=>af .i64 ((l.add (d.toNat*3)).add 1) w.drew λn=>af .i64 ((l.add (d.toNat*3)).add 2) w.drew λo=>aH d b<|wA a λp=>St ((p.add (d.toNat*3)).add 0) (ae g) w.drew λw=>St ((p.add (d.toNat*3)).add 1) (ae i) w λw=>St ((p.add (d.toNat*3)).add 2) (ae j) w λw=>aH e b<|wA a λq=>St ((q.add (e.toNat*3)).add 0) (ae m) w λw=>St ((q.add (e.toNat*3)).add 1) (ae n) w λw=>St ((q.add (e.toNat*3)).add 2) (ae o) w λw=>R2 a b c (IntKind.wrap .i64 (d+1)) (IntKind.wrap .i64 (e-1)) w) (Q w)
def eM (Q:WP):Nat->L3 (Int->Int->WP)
 |0,_,_,_,_,_,_=>False
 |k+1,a,b,c,d,e,w=>fN Q (eM Q k) a b c d e w
noncomputable def oY:cu:=[(3,sp 0 13 (.op 13 (.op 14 (.op 15 .done))))]
def z8 (Q):∀k,Bk 34 Tryz.f247 (pL Q) 2 [(0,.l),(8,.i .i64),(9,.i .i64)] (eM Q k):=bK λk h=>aW (ok 34) oY [aN h]
def y6:=λa b c d e f w Q=>bB (jO a b c d e f w Q) (∃k',eM Q k' a b c d (IntKind.wrap .i64 (e-1)) w) (ok 34) oY [ck (z8 Q)] Tryz.func247
def ee (P3:L3 (Int->Int->Value->Int->Int->WP))(Q:Bool->WP)(R20:L3 (Int->Int->Value->Int->Int->Int->WP))(a:OA)(b c:Nat)(d e:Int)(f:Value)(g i j:Int)(w:World):Prop:=cond (decide (j<e)) (aH j b<|wA a λl=>af .i64 ((l.add (j.toNat*3)).add 0) w.drew λm=>af .i64 ((l.add (j.toNat*3)).add 1) w.drew λn=>af .i64 ((l.add (j.toNat*3)).add 2) w.drew λo=>aH (IntKind.wrap .i64 (j-1)) b<|wA a λp=>af .i64 ((p.add (((IntKind.wrap .i64 (j-1))).toNat*3)).add 0) w.drew λq=>af .i64 ((p.add (((IntKind.wrap .i64 (j-1))).toNat*3)).add 1) w.drew λr=>af .i64 ((p.add (((IntKind.wrap .i64 (j-1))).toNat*3)).add 2) w.drew λs=>gX (cx 141) f [.agg #[ae m,ae n,ae o],.agg #[ae q,ae r,ae s]] w.drew λt w=>dI .i64 t λu=>cond (!(decide (u<0))) (P3 a b c d e f g (IntKind.wrap .i64 (i+1)) w) (aH (IntKind.wrap .i64 (j-1)) b<|wA a λv=>af .i64 ((v.add (((IntKind.wrap .i64 (j-1))).toNat*3)).add 0) w.drew λx=>af .i64 ((v.add (((IntKind.wrap .i64 (j-1))).toNat*3)).add 1) w.drew λy=>af .i64 ((v.add (((IntKind.wrap .i64 (j-1))).toNat*3)).add 2) w.drew λz=>aH j b<|wA a λa1=>af .i64 ((a1.add (j.toNat*3)).add 0) w.drew λb1=>af .i64 ((a1.add (j.toNat*3)).add 1) w.drew λc1=>af .i64 ((a1.add (j.toNat*3)).add 2) w.drew λd1=>aH j b<|wA a λe1=>St ((e1.add (j.toNat*3)).add 0) (ae x) w.drew λw=>St ((e1.add (j.toNat*3)).add 1) (ae y) w λw=>St ((e1.add (j.toNat*3)).add 2) (ae z) w λw=>aH (IntKind.wrap .i64 (j-1)) b<|wA a λf1=>St ((f1.add (((IntKind.wrap .i64 (j-1))).toNat*3)).add 0) (ae b1) w λw=>St ((f1.add (((IntKind.wrap .i64 (j-1))).toNat*3)).add 1) (ae c1) w λw=>St ((f1.add (((IntKind.wrap .i64 (j-1))).toNat*3)).add 2) (ae d1) w λw=>R20 a b c d e f g i (IntKind.wrap .i64 (j+1)) w)) (P3 a b c d e f g (IntKind.wrap .i64 (i+1)) w)
def cR (P3:L3 (Int->Int->Value->Int->Int->WP))(Q:Bool->WP):Nat->L3 (Int->Int->Value->Int->Int->Int->WP)
 |0,_,_,_,_,_,_,_,_,_,_=>False
 |k+1,a,b,c,d,e,f,g,i,j,w=>ee P3 Q (cR P3 Q k) a b c d e f g i j w
def cS (P3:L3 (Int->Int->Value->Int->Int->WP))(Q:Bool->WP)(a:OA)(b c:Nat)(d e:Int)(f:Value)(g i:Int)(w:World):Prop:=cond (decide ((IntKind.wrap .i64 (e-g))≥2)) (∃k',cR P3 Q k' a b c d e f g i (IntKind.wrap .i64 (g+1)) w) (P3 a b c d e f g (IntKind.wrap .i64 (i+1)) w)
def ef (P3:L3 (Int->Int->Value->Int->Int->WP))(Q:Bool->WP)(W6:L3 (Int->Int->Value->Int->Int->Int->WP))(a:OA)(b c:Nat)(d e:Int)(f:Value)(g i j:Int)(w:World):Prop:=cond (decide (j≥1)) (aH j b<|wA a λl=>af .i64 ((l.add (j.toNat*3)).add 0) w.drew λm=>af .i64 ((l.add (j.toNat*3)).add 1) w.drew λn=>af .i64 ((l.add (j.toNat*3)).add 2) w.drew λo=>aH (IntKind.wrap .i64 (j-1)) b<|wA a λp=>af .i64 ((p.add (((IntKind.wrap .i64 (j-1))).toNat*3)).add 0) w.drew λq=>af .i64 ((p.add (((IntKind.wrap .i64 (j-1))).toNat*3)).add 1) w.drew λr=>af .i64 ((p.add (((IntKind.wrap .i64 (j-1))).toNat*3)).add 2) w.drew λs=>gX (cx 141) f [.agg #[ae m,ae n,ae o],.agg #[ae q,ae r,ae s]] w.drew λt w=>dI .i64 t λu=>cond (!(decide (u<0))) (cS P3 Q a b c d e f g i w) (aH (IntKind.wrap .i64 (j-1)) b<|wA a λv=>af .i64 ((v.add (((IntKind.wrap .i64 (j-1))).toNat*3)).add 0) w.drew λx=>af .i64 ((v.add (((IntKind.wrap .i64 (j-1))).toNat*3)).add 1) w.drew λy=>af .i64 ((v.add (((IntKind.wrap .i64 (j-1))).toNat*3)).add 2) w.drew λz=>aH j b<|wA a λa1=>af .i64 ((a1.add (j.toNat*3)).add 0) w.drew λb1=>af .i64 ((a1.add (j.toNat*3)).add 1) w.drew λc1=>af .i64 ((a1.add (j.toNat*3)).add 2) w.drew λd1=>aH j b<|wA a λe1=>St ((e1.add (j.toNat*3)).add 0) (ae x) w.drew λw=>St ((e1.add (j.toNat*3)).add 1) (ae y) w λw=>St ((e1.add (j.toNat*3)).add 2) (ae z) w λw=>aH (IntKind.wrap .i64 (j-1)) b<|wA a λf1=>St ((f1.add (((IntKind.wrap .i64 (j-1))).toNat*3)).add 0) (ae b1) w λw=>St ((f1.add (((IntKind.wrap .i64 (j-1))).toNat*3)).add 1) (ae c1) w λw=>St ((f1.add (((IntKind.wrap .i64 (j-1))).toNat*3)).add 2) (ae d1) w λw=>W6 a b c d e f g i (IntKind.wrap .i64 (j-1)) w)) (cS P3 Q a b c d e f g i w)
def cT (P3:L3 (Int->Int->Value->Int->Int->WP))(Q:Bool->WP):Nat->L3 (Int->Int->Value->Int->Int->Int->WP)
 |0,_,_,_,_,_,_,_,_,_,_=>False
 |k+1,a,b,c,d,e,f,g,i,j,w=>ef P3 Q (cT P3 Q k) a b c d e f g i j w
def eC (P3:L3 (Int->Int->Value->Int->Int->WP))(Q:Bool->WP)(a:OA)(b c:Nat)(d e:Int)(f:Value)(g i:Int)(w:World):Prop:=cond (g==e) (Q true w) (cond (decide ((IntKind.wrap .i64 (e-d))<50)) (Q false w) (aH (IntKind.wrap .i64 (g-1)) b<|wA a λj=>af .i64 ((j.add (((IntKind.wrap .i64 (g-1))).toNat*3)).add 0) w.drew λl=>af .i64 ((j.add (((IntKind.wrap .i64 (g-1))).toNat*3)).add 1) w.drew λm=>af .i64 ((j.add (((IntKind.wrap .i64 (g-1))).toNat*3)).add 2) w.drew λn=>aH g b<|wA a λo=>af .i64 ((o.add (g.toNat*3)).add 0) w.drew λp=>af .i64 ((o.add (g.toNat*3)).add 1) w.drew λq=>af .i64 ((o.add (g.toNat*3)).add 2) w.drew λr=>aH g b<|wA a λs=>St ((s.add (g.toNat*3)).add 0) (ae l) w.drew λw=>St ((s.add (g.toNat*3)).add 1) (ae m) w λw=>St ((s.add (g.toNat*3)).add 2) (ae n) w λw=>aH (IntKind.wrap .i64 (g-1)) b<|wA a λt=>St ((t.add (((IntKind.wrap .i64 (g-1))).toNat*3)).add 0) (ae p) w λw=>St ((t.add (((IntKind.wrap .i64 (g-1))).toNat*3)).add 1) (ae q) w λw=>St ((t.add (((IntKind.wrap .i64 (g-1))).toNat*3)).add 2) (ae r) w λw=>cond (decide ((IntKind.wrap .i64 (g-d))≥2)) (∃k',cT P3 Q k' a b c d e f g i (IntKind.wrap .i64 (g-1)) w) (cS P3 Q a b c d e f g i w)))
def eE (P3:L3 (Int->Int->Value->Int->Int->WP))(Q:Bool->WP)(R5:L3 (Int->Int->Value->Int->Int->WP))(a:OA)(b c:Nat)(d e:Int)(f:Value)(g i:Int)(w:World):Prop:=cond (decide (g<e)) (aH g b<|wA a λj=>af .i64 ((j.add (g.toNat*3)).add 0) w.drew λl=>af .i64 ((j.add (g.toNat*3)).add 1) w.drew λm=>af .i64 ((j.add (g.toNat*3)).add 2) w.drew λn=>aH (IntKind.wrap .i64 (g-1)) b<|wA a λo=>af .i64 ((o.add (((IntKind.wrap .i64 (g-1))).toNat*3)).add 0) w.drew λp=>af .i64 ((o.add (((IntKind.wrap .i64 (g-1))).toNat*3)).add 1) w.drew λq=>af .i64 ((o.add (((IntKind.wrap .i64 (g-1))).toNat*3)).add 2) w.drew λr=>gX (cx 141) f [.agg #[ae l,ae m,ae n],.agg #[ae p,ae q,ae r]] w.drew λs w=>dI .i64 s λt=>cond (!(decide (t<0))) (R5 a b c d e f (IntKind.wrap .i64 (g+1)) i w) (eC P3 Q a b c d e f g i w)) (eC P3 Q a b c d e f g i w.drew)
def c7 (P3:L3 (Int->Int->Value->Int->Int->WP))(Q:Bool->WP):Nat->L3 (Int->Int->Value->Int->Int->WP)
 |0,_,_,_,_,_,_,_,_,_=>False
 |k+1,a,b,c,d,e,f,g,i,w=>eE P3 Q (c7 P3 Q k) a b c d e f g i w
def eF (Q:Bool->WP)(R3:L3 (Int->Int->Value->Int->Int->WP))(a:OA)(b c:Nat)(d e:Int)(f:Value)(g i:Int)(w:World):Prop:=cond (decide (i<5)) (∃k',c7 R3 Q k' a b c d e f g i w) (Q false w)
def bp (Q:Bool->WP):Nat->L3 (Int->Int->Value->Int->Int->WP)
 |0,_,_,_,_,_,_,_,_,_=>False
 |k+1,a,b,c,d,e,f,g,i,w=>eF Q (bp Q k) a b c d e f g i w
noncomputable def cv:cu:=[(5,sp 0 14 (.op 14 (sp 15 3 .done))),(11,sp 0 15 (.op 15 (.op 16 (.op 17 .done)))),(16,sp 0 10 (.op 10 (sp 11 2 .done))),(17,sp 0 15 (.op 15 (.op 16 (.op 17 .done)))),(22,sp 0 10 (.op 10 (sp 11 2 .done))),(23,sp 0 15 (.op 15 (.op 16 (.op 17 .done))))]
def uE {P3}(Q)(H3:Bk 141 Tryz.f248 (bj Q) 3 [(0,.l),(1,.i .i64),(2,.i .i64),(3,.v),(9,.i .i64),(10,.i .i64)] P3):∀k,Bk 141 Tryz.f248 (bj Q) 20 [(0,.l),(1,.i .i64),(2,.i .i64),(3,.v),(9,.i .i64),(10,.i .i64),(12,.i .i64)] (cR P3 Q k):=bK λk h=>aW (ok 141) cv [aN H3,aN h]
def lO {P3}(Q)(H3:Bk 141 Tryz.f248 (bj Q) 3 [(0,.l),(1,.i .i64),(2,.i .i64),(3,.v),(9,.i .i64),(10,.i .i64)] P3):Bk 141 Tryz.f248 (bj Q) 18 [(0,.l),(1,.i .i64),(2,.i .i64),(3,.v),(9,.i .i64),(10,.i .i64)] (cS P3 Q):=aW (ok 141) cv [aN H3,ck (uE Q H3)]
def uF {P3}(Q)(H3:Bk 141 Tryz.f248 (bj Q) 3 [(0,.l),(1,.i .i64),(2,.i .i64),(3,.v),(9,.i .i64),(10,.i .i64)] P3):∀k,Bk 141 Tryz.f248 (bj Q) 14 [(0,.l),(1,.i .i64),(2,.i .i64),(3,.v),(9,.i .i64),(10,.i .i64),(11,.i .i64)] (cT P3 Q k):=bK λk h=>aW (ok 141) cv [aN h,aN (lO Q H3)]
def vi {P3}(Q)(H3:Bk 141 Tryz.f248 (bj Q) 3 [(0,.l),(1,.i .i64),(2,.i .i64),(3,.v),(9,.i .i64),(10,.i .i64)] P3):Bk 141 Tryz.f248 (bj Q) 7 [(0,.l),(1,.i .i64),(2,.i .i64),(3,.v),(9,.i .i64),(10,.i .i64)] (eC P3 Q):=aW (ok 141) cv [ck (uF Q H3),aN (lO Q H3)]
def vk {P3}(Q)(H3:Bk 141 Tryz.f248 (bj Q) 3 [(0,.l),(1,.i .i64),(2,.i .i64),(3,.v),(9,.i .i64),(10,.i .i64)] P3):∀k,Bk 141 Tryz.f248 (bj Q) 5 [(0,.l),(1,.i .i64),(2,.i .i64),(3,.v),(9,.i .i64),(10,.i .i64)] (c7 P3 Q k):=bK λk h=>aW (ok 141) cv [aN h,aN (vi Q H3)]
def vl (Q):∀k,Bk 141 Tryz.f248 (bj Q) 3 [(0,.l),(1,.i .i64),(2,.i .i64),(3,.v),(9,.i .i64),(10,.i .i64)] (bp Q k):=bK λk h=>aW (ok 141) cv [ck (vk Q h)]
def uj:=λa b c d e f w Q=>bB (ig a b c d e f w Q) (∃k',bp Q k' a b c d e f (IntKind.wrap .i64 (d+1)) 0 w) (ok 141) cv [ck (vl Q)] Tryz.func248
def eo (P3:L3 (Int->Value->Int->Int->WP))(Q:Int->WP)(a:OA)(b c:Nat)(d:Int)(e:Value)(f g:Int)(w:World):Prop:=cond (decide (f>g)) (Q f w) (aH g b<|wA a λi=>af .i64 ((i.add (g.toNat*3)).add 0) w.drew λj=>af .i64 ((i.add (g.toNat*3)).add 1) w.drew λl=>af .i64 ((i.add (g.toNat*3)).add 2) w.drew λm=>aH f b<|wA a λn=>af .i64 ((n.add (f.toNat*3)).add 0) w.drew λo=>af .i64 ((n.add (f.toNat*3)).add 1) w.drew λp=>af .i64 ((n.add (f.toNat*3)).add 2) w.drew λq=>aH f b<|wA a λr=>St ((r.add (f.toNat*3)).add 0) (ae j) w.drew λw=>St ((r.add (f.toNat*3)).add 1) (ae l) w λw=>St ((r.add (f.toNat*3)).add 2) (ae m) w λw=>aH g b<|wA a λs=>St ((s.add (g.toNat*3)).add 0) (ae o) w λw=>St ((s.add (g.toNat*3)).add 1) (ae p) w λw=>St ((s.add (g.toNat*3)).add 2) (ae q) w λw=>P3 a b c d e (IntKind.wrap .i64 (f+1)) (IntKind.wrap .i64 (g-1)) w)
def c9 (P3:L3 (Int->Value->Int->Int->WP))(Q:Int->WP)(R5:L3 (Int->Value->Int->Int->WP))(a:OA)(b c:Nat)(d:Int)(e:Value)(f g:Int)(w:World):Prop:=cond (decide (f<=g)) (aH d b<|wA a λi=>af .i64 ((i.add (d.toNat*3)).add 0) w.drew λj=>af .i64 ((i.add (d.toNat*3)).add 1) w.drew λl=>af .i64 ((i.add (d.toNat*3)).add 2) w.drew λm=>aH g b<|wA a λn=>af .i64 ((n.add (g.toNat*3)).add 0) w.drew λo=>af .i64 ((n.add (g.toNat*3)).add 1) w.drew λp=>af .i64 ((n.add (g.toNat*3)).add 2) w.drew λq=>gX (cx 90) e [.agg #[ae j,ae l,ae m],.agg #[ae o,ae p,ae q]] w.drew λr w=>dI .i64 r λs=>cond (decide (s<0)) (R5 a b c d e f (IntKind.wrap .i64 (g-1)) w) (eo P3 Q a b c d e f g w)) (eo P3 Q a b c d e f g w.drew)
def cG (P3:L3 (Int->Value->Int->Int->WP))(Q:Int->WP):Nat->L3 (Int->Value->Int->Int->WP)
 |0,_,_,_,_,_,_,_,_=>False
 |k+1,a,b,c,d,e,f,g,w=>c9 P3 Q (cG P3 Q k) a b c d e f g w
def fk (Q:Int->WP)(R3:L3 (Int->Value->Int->Int->WP))(a:OA)(b c:Nat)(d:Int)(e:Value)(f g:Int)(w:World):Prop:=cond (decide (f<=g)) (aH d b<|wA a λi=>af .i64 ((i.add (d.toNat*3)).add 0) w.drew λj=>af .i64 ((i.add (d.toNat*3)).add 1) w.drew λl=>af .i64 ((i.add (d.toNat*3)).add 2) w.drew λm=>aH f b<|wA a λn=>af .i64 ((n.add (f.toNat*3)).add 0) w.drew λo=>af .i64 ((n.add (f.toNat*3)).add 1) w.drew λp=>af .i64 ((n.add (f.toNat*3)).add 2) w.drew λq=>gX (cx 90) e [.agg #[ae j,ae l,ae m],.agg #[ae o,ae p,ae q]] w.drew λr w=>dI .i64 r λs=>cond (!(decide (s<0))) (R3 a b c d e (IntKind.wrap .i64 (f+1)) g w) (∃k',cG R3 Q k' a b c d e f g w)) (∃k',cG R3 Q k' a b c d e f g w.drew)
def cH (Q:Int->WP):Nat->L3 (Int->Value->Int->Int->WP)
 |0,_,_,_,_,_,_,_,_=>False
 |k+1,a,b,c,d,e,f,g,w=>fk Q (cH Q k) a b c d e f g w
noncomputable def gI:cu:=[(1,sp 0 13 (.op 13 (.op 14 (.op 15 .done)))),(3,sp 0 13 (.op 13 (sp 14 3 .done))),(5,sp 0 13 (.op 13 (sp 14 2 .done))),(8,sp 0 13 (.op 13 (.op 14 (.op 15 .done))))]
def y7 {P3}(Q)(H3:Bk 90 Tryz.f249 (ej Q) 3 [(0,.l),(1,.i .i64),(4,.v),(11,.i .i64),(12,.i .i64)] P3):Bk 90 Tryz.f249 (ej Q) 7 [(0,.l),(1,.i .i64),(4,.v),(11,.i .i64),(12,.i .i64)] (eo P3 Q):=aW (ok 90) gI [aN H3]
def y8 {P3}(Q)(H3:Bk 90 Tryz.f249 (ej Q) 3 [(0,.l),(1,.i .i64),(4,.v),(11,.i .i64),(12,.i .i64)] P3):∀k,Bk 90 Tryz.f249 (ej Q) 5 [(0,.l),(1,.i .i64),(4,.v),(11,.i .i64),(12,.i .i64)] (cG P3 Q k):=bK λk h=>aW (ok 90) gI [aN h,aN (y7 Q H3)]
def y9 (Q):∀k,Bk 90 Tryz.f249 (ej Q) 3 [(0,.l),(1,.i .i64),(4,.v),(11,.i .i64),(12,.i .i64)] (cH Q k):=bK λk h=>aW (ok 90) gI [aN h,ck (y8 Q h)]
def xE:=λa b c d e f g w Q=>bB (jq a b c d e f g w Q) (aH f b<|
wA a λi=>
af .i64 ((i.add (f.toNat*3)).add 0) w.drew λj=>
af .i64 ((i.add (f.toNat*3)).add 1) w.drew λl=>
af .i64 ((i.add (f.toNat*3)).add 2) w.drew λm=>
aH d b<|
wA a λn=>
af .i64 ((n.add (d.toNat*3)).add 0) w.drew λo=>
af .i64 ((n.add (d.toNat*3)).add 1) w.drew λp=>
af .i64 ((n.add (d.toNat*3)).add 2) w.drew λq=>
aH d b<|
wA a λr=>
St ((r.add (d.toNat*3)).add 0) (ae j) w.drew λw=>
St ((r.add (d.toNat*3)).add 1) (ae l) w λw=>
St ((r.add (d.toNat*3)).add 2) (ae m) w λw=>
aH f b<|
wA a λs=>
St ((s.add (f.toNat*3)).add 0) (ae o) w λw=>
St ((s.add (f.toNat*3)).add 1) (ae p) w λw=>
St ((s.add (f.toNat*3)).add 2) (ae q) w λw=>
∃k',cH Q k' a b c d g (IntKind.wrap .i64 (d+1)) (IntKind.wrap .i64 (e-1)) w) (ok 90) gI [ck (y9 Q)] Tryz.func249
def eY (sI:L3 (Int->Value->Int->Int->WP))(Q:Int->Bool->WP)(a:OA)(b c:Nat)(d:Int)(e:Value)(f g:Int)(w:World):Prop:=cond (decide (f>g)) (aH d b<|wA a λi=>af .i64 ((i.add (d.toNat*3)).add 0) w.drew λj=>af .i64 ((i.add (d.toNat*3)).add 1) w.drew λl=>af .i64 ((i.add (d.toNat*3)).add 2) w.drew λm=>aH g b<|wA a λn=>af .i64 ((n.add (g.toNat*3)).add 0) w.drew λo=>af .i64 ((n.add (g.toNat*3)).add 1) w.drew λp=>af .i64 ((n.add (g.toNat*3)).add 2) w.drew λq=>aH g b<|wA a λr=>St ((r.add (g.toNat*3)).add 0) (ae j) w.drew λw=>St ((r.add (g.toNat*3)).add 1) (ae l) w λw=>St ((r.add (g.toNat*3)).add 2) (ae m) w λw=>aH d b<|wA a λs=>St ((s.add (d.toNat*3)).add 0) (ae o) w λw=>St ((s.add (d.toNat*3)).add 1) (ae p) w λw=>St ((s.add (d.toNat*3)).add 2) (ae q) w λw=>Q g false w) (aH g b<|wA a λt=>af .i64 ((t.add (g.toNat*3)).add 0) w.drew λu=>af .i64 ((t.add (g.toNat*3)).add 1) w.drew λv=>af .i64 ((t.add (g.toNat*3)).add 2) w.drew λx=>aH f b<|wA a λy=>af .i64 ((y.add (f.toNat*3)).add 0) w.drew λz=>af .i64 ((y.add (f.toNat*3)).add 1) w.drew λa1=>af .i64 ((y.add (f.toNat*3)).add 2) w.drew λb1=>aH f b<|wA a λc1=>St ((c1.add (f.toNat*3)).add 0) (ae u) w.drew λw=>St ((c1.add (f.toNat*3)).add 1) (ae v) w λw=>St ((c1.add (f.toNat*3)).add 2) (ae x) w λw=>aH g b<|wA a λd1=>St ((d1.add (g.toNat*3)).add 0) (ae z) w λw=>St ((d1.add (g.toNat*3)).add 1) (ae a1) w λw=>St ((d1.add (g.toNat*3)).add 2) (ae b1) w λw=>sI a b c d e (IntKind.wrap .i64 (f+1)) (IntKind.wrap .i64 (g-1)) w)
def dQ (sI:L3 (Int->Value->Int->Int->WP))(Q:Int->Bool->WP)(R15:L3 (Int->Value->Int->Int->WP))(a:OA)(b c:Nat)(d:Int)(e:Value)(f g:Int)(w:World):Prop:=cond (decide (f<=g)) (aH g b<|wA a λi=>af .i64 ((i.add (g.toNat*3)).add 0) w.drew λj=>af .i64 ((i.add (g.toNat*3)).add 1) w.drew λl=>af .i64 ((i.add (g.toNat*3)).add 2) w.drew λm=>aH d b<|wA a λn=>af .i64 ((n.add (d.toNat*3)).add 0) w.drew λo=>af .i64 ((n.add (d.toNat*3)).add 1) w.drew λp=>af .i64 ((n.add (d.toNat*3)).add 2) w.drew λq=>gX (cx 178) e [.agg #[ae j,ae l,ae m],.agg #[ae o,ae p,ae q]] w.drew λr w=>dI .i64 r λs=>cond (!(decide (s<0))) (R15 a b c d e f (IntKind.wrap .i64 (g-1)) w) (eY sI Q a b c d e f g w)) (eY sI Q a b c d e f g w.drew)
def cW (sI:L3 (Int->Value->Int->Int->WP))(Q:Int->Bool->WP):Nat->L3 (Int->Value->Int->Int->WP)
 |0,_,_,_,_,_,_,_,_=>False
 |k+1,a,b,c,d,e,f,g,w=>dQ sI Q (cW sI Q k) a b c d e f g w
def f_ (Q:Int->Bool->WP)(ZP:L3 (Int->Value->Int->Int->WP))(a:OA)(b c:Nat)(d:Int)(e:Value)(f g:Int)(w:World):Prop:=cond (decide (f<=g)) (aH f b<|wA a λi=>af .i64 ((i.add (f.toNat*3)).add 0) w.drew λj=>af .i64 ((i.add (f.toNat*3)).add 1) w.drew λl=>af .i64 ((i.add (f.toNat*3)).add 2) w.drew λm=>aH d b<|wA a λn=>af .i64 ((n.add (d.toNat*3)).add 0) w.drew λo=>af .i64 ((n.add (d.toNat*3)).add 1) w.drew λp=>af .i64 ((n.add (d.toNat*3)).add 2) w.drew λq=>gX (cx 178) e [.agg #[ae j,ae l,ae m],.agg #[ae o,ae p,ae q]] w.drew λr w=>dI .i64 r λs=>cond (decide (s<0)) (ZP a b c d e (IntKind.wrap .i64 (f+1)) g w) (∃k',cW ZP Q k' a b c d e f g w)) (∃k',cW ZP Q k' a b c d e f g w.drew)
def cY (Q:Int->Bool->WP):Nat->L3 (Int->Value->Int->Int->WP)
 |0,_,_,_,_,_,_,_,_=>False
 |k+1,a,b,c,d,e,f,g,w=>f_ Q (cY Q k) a b c d e f g w
def gm (Q:Int->Bool->WP)(a:OA)(b c:Nat)(d:Int)(e:Value)(f g:Int)(w:World):Prop:=cond (decide (f>g)) (aH d b<|wA a λi=>af .i64 ((i.add (d.toNat*3)).add 0) w.drew λj=>af .i64 ((i.add (d.toNat*3)).add 1) w.drew λl=>af .i64 ((i.add (d.toNat*3)).add 2) w.drew λm=>aH g b<|wA a λn=>af .i64 ((n.add (g.toNat*3)).add 0) w.drew λo=>af .i64 ((n.add (g.toNat*3)).add 1) w.drew λp=>af .i64 ((n.add (g.toNat*3)).add 2) w.drew λq=>aH g b<|wA a λr=>St ((r.add (g.toNat*3)).add 0) (ae j) w.drew λw=>St ((r.add (g.toNat*3)).add 1) (ae l) w λw=>St ((r.add (g.toNat*3)).add 2) (ae m) w λw=>aH d b<|wA a λs=>St ((s.add (d.toNat*3)).add 0) (ae o) w λw=>St ((s.add (d.toNat*3)).add 1) (ae p) w λw=>St ((s.add (d.toNat*3)).add 2) (ae q) w λw=>Q g true w) (aH g b<|wA a λt=>af .i64 ((t.add (g.toNat*3)).add 0) w.drew λu=>af .i64 ((t.add (g.toNat*3)).add 1) w.drew λv=>af .i64 ((t.add (g.toNat*3)).add 2) w.drew λx=>aH f b<|wA a λy=>af .i64 ((y.add (f.toNat*3)).add 0) w.drew λz=>af .i64 ((y.add (f.toNat*3)).add 1) w.drew λa1=>af .i64 ((y.add (f.toNat*3)).add 2) w.drew λb1=>aH f b<|wA a λc1=>St ((c1.add (f.toNat*3)).add 0) (ae u) w.drew λw=>St ((c1.add (f.toNat*3)).add 1) (ae v) w λw=>St ((c1.add (f.toNat*3)).add 2) (ae x) w λw=>aH g b<|wA a λd1=>St ((d1.add (g.toNat*3)).add 0) (ae z) w λw=>St ((d1.add (g.toNat*3)).add 1) (ae a1) w λw=>St ((d1.add (g.toNat*3)).add 2) (ae b1) w λw=>∃k',cY Q k' a b c d e (IntKind.wrap .i64 (f+1)) (IntKind.wrap .i64 (g-1)) w)
def gu (Q:Int->Bool->WP)(R5:L3 (Int->Value->Int->Int->WP))(a:OA)(b c:Nat)(d:Int)(e:Value)(f g:Int)(w:World):Prop:=cond (decide (f<=g)) (aH g b<|wA a λi=>af .i64 ((i.add (g.toNat*3)).add 0) w.drew λj=>af .i64 ((i.add (g.toNat*3)).add 1) w.drew λl=>af .i64 ((i.add (g.toNat*3)).add 2) w.drew λm=>aH d b<|wA a λn=>af .i64 ((n.add (d.toNat*3)).add 0) w.drew λo=>af .i64 ((n.add (d.toNat*3)).add 1) w.drew λp=>af .i64 ((n.add (d.toNat*3)).add 2) w.drew λq=>gX (cx 178) e [.agg #[ae j,ae l,ae m],.agg #[ae o,ae p,ae q]] w.drew λr w=>dI .i64 r λs=>cond (!(decide (s<0))) (R5 a b c d e f (IntKind.wrap .i64 (g-1)) w) (gm Q a b c d e f g w)) (gm Q a b c d e f g w.drew)
def dh (Q:Int->Bool->WP):Nat->L3 (Int->Value->Int->Int->WP)
 |0,_,_,_,_,_,_,_,_=>False
 |k+1,a,b,c,d,e,f,g,w=>gu Q (dh Q k) a b c d e f g w
def gw (Q:Int->Bool->WP)(R3:L3 (Int->Value->Int->Int->WP))(a:OA)(b c:Nat)(d:Int)(e:Value)(f g:Int)(w:World):Prop:=cond (decide (f<=g)) (aH f b<|wA a λi=>af .i64 ((i.add (f.toNat*3)).add 0) w.drew λj=>af .i64 ((i.add (f.toNat*3)).add 1) w.drew λl=>af .i64 ((i.add (f.toNat*3)).add 2) w.drew λm=>aH d b<|wA a λn=>af .i64 ((n.add (d.toNat*3)).add 0) w.drew λo=>af .i64 ((n.add (d.toNat*3)).add 1) w.drew λp=>af .i64 ((n.add (d.toNat*3)).add 2) w.drew λq=>gX (cx 178) e [.agg #[ae j,ae l,ae m],.agg #[ae o,ae p,ae q]] w.drew λr w=>dI .i64 r λs=>cond (decide (s<0)) (R3 a b c d e (IntKind.wrap .i64 (f+1)) g w) (∃k',dh Q k' a b c d e f g w)) (∃k',dh Q k' a b c d e f g w.drew)
def e_ (Q:Int->Bool->WP):Nat->L3 (Int->Value->Int->Int->WP)
 |0,_,_,_,_,_,_,_,_=>False
 |k+1,a,b,c,d,e,f,g,w=>gw Q (e_ Q k) a b c d e f g w
noncomputable def dU:cu:=[(1,sp 0 13 (.op 13 (.op 14 (.op 15 .done)))),(3,sp 0 13 (.op 13 (sp 14 2 .done))),(5,sp 0 13 (.op 13 (sp 14 3 .done))),(8,sp 0 13 (.op 13 (.op 14 (.op 15 .done)))),(10,sp 0 13 (.op 13 (.op 14 (.op 15 .done)))),(13,sp 0 13 (.op 13 (sp 14 2 .done))),(15,sp 0 13 (.op 13 (sp 14 3 .done))),(18,sp 0 13 (.op 13 (.op 14 (.op 15 .done)))),(21,sp 0 13 (.op 13 (.op 14 (.op 15 .done))))]
def AY {sI}(Q)(H13:Bk 178 Tryz.f250 (cK Q) 13 [(0,.l),(1,.i .i64),(4,.v),(12,.i .i64),(13,.i .i64)] sI):Bk 178 Tryz.f250 (cK Q) 17 [(0,.l),(1,.i .i64),(4,.v),(12,.i .i64),(13,.i .i64)] (eY sI Q):=aW (ok 178) dU [aN H13]
def AZ {sI}(Q)(H13:Bk 178 Tryz.f250 (cK Q) 13 [(0,.l),(1,.i .i64),(4,.v),(12,.i .i64),(13,.i .i64)] sI):∀k,Bk 178 Tryz.f250 (cK Q) 15 [(0,.l),(1,.i .i64),(4,.v),(12,.i .i64),(13,.i .i64)] (cW sI Q k):=bK λk h=>aW (ok 178) dU [aN h,aN (AY Q H13)]
def A0 (Q):∀k,Bk 178 Tryz.f250 (cK Q) 13 [(0,.l),(1,.i .i64),(4,.v),(12,.i .i64),(13,.i .i64)] (cY Q k):=bK λk h=>aW (ok 178) dU [aN h,ck (AZ Q h)]
def Bp (Q):Bk 178 Tryz.f250 (cK Q) 7 [(0,.l),(1,.i .i64),(4,.v),(12,.i .i64),(13,.i .i64)] (gm Q):=aW (ok 178) dU [ck (A0 Q)]
def Bq (Q):∀k,Bk 178 Tryz.f250 (cK Q) 5 [(0,.l),(1,.i .i64),(4,.v),(12,.i .i64),(13,.i .i64)] (dh Q k):=bK λk h=>aW (ok 178) dU [aN h,aN (Bp Q)]
def Br (Q):∀k,Bk 178 Tryz.f250 (cK Q) 3 [(0,.l),(1,.i .i64),(4,.v),(12,.i .i64),(13,.i .i64)] (e_ Q k):=bK λk h=>aW (ok 178) dU [aN h,ck (Bq Q)]
def Ao:=λa b c d e f g w Q=>bB (kS a b c d e f g w Q) (aH f b<|
wA a λi=>
af .i64 ((i.add (f.toNat*3)).add 0) w.drew λj=>
af .i64 ((i.add (f.toNat*3)).add 1) w.drew λl=>
af .i64 ((i.add (f.toNat*3)).add 2) w.drew λm=>
aH d b<|
wA a λn=>
af .i64 ((n.add (d.toNat*3)).add 0) w.drew λo=>
af .i64 ((n.add (d.toNat*3)).add 1) w.drew λp=>
af .i64 ((n.add (d.toNat*3)).add 2) w.drew λq=>
aH d b<|
wA a λr=>
St ((r.add (d.toNat*3)).add 0) (ae j) w.drew λw=>
St ((r.add (d.toNat*3)).add 1) (ae l) w λw=>
St ((r.add (d.toNat*3)).add 2) (ae m) w λw=>
aH f b<|
wA a λs=>
St ((s.add (f.toNat*3)).add 0) (ae o) w λw=>
St ((s.add (f.toNat*3)).add 1) (ae p) w λw=>
St ((s.add (f.toNat*3)).add 2) (ae q) w λw=>
∃k',e_ Q k' a b c d g (IntKind.wrap .i64 (d+1)) (IntKind.wrap .i64 (e-1)) w) (ok 178) dU [ck (Br Q)] Tryz.func250
def jk (P2:L3 (Int->Int->Int->Value->Bool->Bool->WP))(Q:WP)(a:OA)(b c:Nat)(d e f:Int)(g:Value)(i j:Int)(w:World):Prop:=kS a b c d e j g w λl m w=>NZ 8<|cond (decide ((IntKind.wrap .i64 (l-d))<(IntKind.wrap .i64 (e-l)))) (e9 a b c d l f g w λw=>P2 a b c (IntKind.wrap .i64 (l+1)) e f g (decide ((IntKind.wrap .i64 (l-d))≥(IntKind.wrap .i64 (Int.tdiv i 8)))) m w) (e9 a b c (IntKind.wrap .i64 (l+1)) e f g w λw=>P2 a b c d l f g (decide ((IntKind.wrap .i64 (e-l))≥(IntKind.wrap .i64 (Int.tdiv i 8)))) m w)
def eL (P2:L3 (Int->Int->Int->Value->Bool->Bool->WP))(Q:WP)(a:OA)(b c:Nat)(d e f:Int)(g:Value)(i j:Bool)(l m:Int)(w:World):Prop:=cond (decide (d>0)) (aH (IntKind.wrap .i64 (d-1)) b<|wA a λn=>af .i64 ((n.add (((IntKind.wrap .i64 (d-1))).toNat*3)).add 0) w.drew λo=>af .i64 ((n.add (((IntKind.wrap .i64 (d-1))).toNat*3)).add 1) w.drew λp=>af .i64 ((n.add (((IntKind.wrap .i64 (d-1))).toNat*3)).add 2) w.drew λq=>aH m b<|wA a λr=>af .i64 ((r.add (m.toNat*3)).add 0) w.drew λs=>af .i64 ((r.add (m.toNat*3)).add 1) w.drew λt=>af .i64 ((r.add (m.toNat*3)).add 2) w.drew λu=>gX (cx 148) g [.agg #[ae o,ae p,ae q],.agg #[ae s,ae t,ae u]] w.drew λv w=>dI .i64 v λx=>cond (!(decide (x<0))) (jq a b c d e m g w λy w=>P2 a b c y e f g i j w) (jk P2 Q a b c d e f g l m w)) (jk P2 Q a b c d e f g l m w.drew)
def gJ (P2:L3 (Int->Int->Int->Value->Bool->Bool->WP))(Q:WP)(a:OA)(b c:Nat)(d e f:Int)(g:Value)(i j:Bool)(l m n:Int)(w:World):Prop:=cond i (cond j (cond (n==1) (ig a b c d e g w λo w=>cond o (Q w) (eL P2 Q a b c d e f g i j l m w)) (eL P2 Q a b c d e f g i j l m w)) (eL P2 Q a b c d e f g i j l m w)) (eL P2 Q a b c d e f g i j l m w)
def jl (P2:L3 (Int->Int->Int->Value->Bool->Bool->WP))(Q:WP)(a:OA)(b c:Nat)(d e f:Int)(g:Value)(i j:Bool)(l:Int)(w:World):Prop:=j9 a b c d e g w λm n w=>cond (n==2) (jO a b c d e g w λw=>gJ P2 Q a b c d e f g i j l (IntKind.wrap .i64 ((IntKind.wrap .i64 (e-1))-(IntKind.wrap .i64 (m-d)))) 1 w) (gJ P2 Q a b c d e f g i j l m n w)
def gU (Q:WP)(R2:L3 (Int->Int->Int->Value->Bool->Bool->WP))(a:OA)(b c:Nat)(d e f:Int)(g:Value)(i j:Bool)(w:World):Prop:=cond (decide ((IntKind.wrap .i64 (e-d))<=12)) (jv a b c d e g w λw=>Q w) (cond (f==0) (lj a b c d e g w λw=>Q w) (cond (!i) (jw a b c d e g w λw=>jl R2 Q a b c d e (IntKind.wrap .i64 (f-1)) g i j (IntKind.wrap .i64 (e-d)) w) (jl R2 Q a b c d e f g i j (IntKind.wrap .i64 (e-d)) w)))
def cD (Q:WP):Nat->L3 (Int->Int->Int->Value->Bool->Bool->WP)
 |0,_,_,_,_,_,_,_,_,_,_=>False
 |k+1,a,b,c,d,e,f,g,i,j,w=>gU Q (cD Q k) a b c d e f g i j w
noncomputable def fu:cu:=[(17,sp 0 13 (.op 13 (sp 14 3 .done)))]
def Ce {P2}(Q)(H2:Bk 148 Tryz.f223 (cB Q) 2 [(0,.l),(1,.i .i64),(2,.i .i64),(3,.i .i64),(4,.v),(10,.b),(11,.b)] P2):Bk 148 Tryz.f223 (cB Q) 20 [(0,.l),(1,.i .i64),(2,.i .i64),(3,.i .i64),(4,.v),(12,.i .i64),(13,.i .i64)] (jk P2 Q):=aW (ok 148) fu [aN H2]
def Cf {P2}(Q)(H2:Bk 148 Tryz.f223 (cB Q) 2 [(0,.l),(1,.i .i64),(2,.i .i64),(3,.i .i64),(4,.v),(10,.b),(11,.b)] P2):Bk 148 Tryz.f223 (cB Q) 17 [(0,.l),(1,.i .i64),(2,.i .i64),(3,.i .i64),(4,.v),(10,.b),(11,.b),(12,.i .i64),(13,.i .i64)] (eL P2 Q):=aW (ok 148) fu [aN H2,aN (Ce Q H2)]
def Cg {P2}(Q)(H2:Bk 148 Tryz.f223 (cB Q) 2 [(0,.l),(1,.i .i64),(2,.i .i64),(3,.i .i64),(4,.v),(10,.b),(11,.b)] P2):Bk 148 Tryz.f223 (cB Q) 15 [(0,.l),(1,.i .i64),(2,.i .i64),(3,.i .i64),(4,.v),(10,.b),(11,.b),(12,.i .i64),(13,.i .i64),(14,.i .i64)] (gJ P2 Q):=aW (ok 148) fu [aN (Cf Q H2)]
def Ch {P2}(Q)(H2:Bk 148 Tryz.f223 (cB Q) 2 [(0,.l),(1,.i .i64),(2,.i .i64),(3,.i .i64),(4,.v),(10,.b),(11,.b)] P2):Bk 148 Tryz.f223 (cB Q) 10 [(0,.l),(1,.i .i64),(2,.i .i64),(3,.i .i64),(4,.v),(10,.b),(11,.b),(12,.i .i64)] (jl P2 Q):=aW (ok 148) fu [aN (Cg Q H2)]
def CS (Q):∀k,Bk 148 Tryz.f223 (cB Q) 2 [(0,.l),(1,.i .i64),(2,.i .i64),(3,.i .i64),(4,.v),(10,.b),(11,.b)] (cD Q k):=bK λk h=>aW (ok 148) fu [aN (Ch Q h)]
def rf:=λa b c d e f g w Q=>bB (e9 a b c d e f g w Q) (∃k',cD Q k' a b c d e f g true true w) (ok 148) fu [ck (CS Q)] Tryz.func223
def z9:=λa b c d w Q=>bB (kE a b c d w Q) (uV (IntKind.wrap .u64 (b:Int)) w λe w=>
e9 a b c 0 (b:Int) e d w λw=>
Q w) (ok 14) [] [] Tryz.func196
def mJ (Q:Int->WP)(R3:Int->L3 (Int->Int->WP))(a:Int)(b:OA)(c d:Nat)(e f:Int)(w:World):Prop:=cond (decide (f<e)) (aH f c<|wA b λg=>af .i64 (g.add (f.toNat*1)) w λi=>cond (i !=a) (Q i w) (R3 a b c d e (IntKind.wrap .i64 (f+1)) w)) (Q a w)
def qB (Q:Int->WP):Nat->Int->L3 (Int->Int->WP)
 |0,_,_,_,_,_,_,_=>False
 |k+1,a,b,c,d,e,f,w=>mJ Q (qB Q k) a b c d e f w
def abM (Q):∀k,Bk 18 Tryz.f225 (Oa Q) 3 [(3,.i .i64),(6,.l),(7,.i .i64),(8,.i .i64)] (qB Q k):=bK λk h=>aW (ok 18) [] [aN h]
def X7:=λa b c w Q=>bB (DV a b c w Q) (∃k',qB Q k' 0 a b c (b:Int) 0 w) (ok 18) [] [ck (abM Q)] Tryz.func225
def Ap:=λa w Q=>bB (qh a w Q) (Q (a !=a) w) (ok 6) [] [] Tryz.func253
def OH:=λa b w Q=>bB (nY a b w Q) (qh a w λc w=>
qh b w λd w=>
cond c
(cond d
(Q 0 w)
(Q (-1) w))
(cond d
(Q 1 w)
(cond (decide (a<b))
(Q (-1) w)
(cond (decide (a>b))
(Q 1 w)
(Q 0 w))))) (ok 20) [] [] Tryz.func226
noncomputable def X8:cu:=[(1,sp 0 4 (sp 5 4 (sp 10 4 (.op 4 (.op 9 (.op 14 (.op 15 (.op 16 (.op 17 .done)))))))))]
def Wx:=λa b c d e f w Q=>bB (CO a b c d e f w Q) (Bx [ae a,ae b,ae c] 294 w λg w=>
Bx [ae d,ae e,ae f] 294 w λi w=>
af .i64 (g.add 2) w.drew λj=>
af .i64 (i.add 2) w.drew λl=>
af .i64 g w.drew λm=>
af .i64 i w.drew λn=>
af .i64 (g.add 1) w.drew λo=>
af .i64 (i.add 1) w.drew λp=>
nY j l w.drew λq w=>
w.cell? (i.add 1)=some (ae p)/\
w.cell? (g.add 1)=some (ae o)/\
w.cell? i=some (ae n)/\
w.cell? g=some (ae m)/\
nY m n w λr w=>
w.cell? (i.add 1)=some (ae p)/\
w.cell? (g.add 1)=some (ae o)/\
nY o p w λs w=>
Bx [ae q,ae r,ae s] 3 w λt w=>
DV (some t) 3 3 w λu w=>
Q u w) (ok 22) X8 [] Tryz.func197
def Bs (P4:L3 (Int->WP))(Q:L3 WP)(R9:L3 (Int->L3 (Int->WP)))(a:OA)(b c:Nat)(d:Int)(e:OA)(f g:Nat)(i:Int)(w:World):Prop:=cond (decide (i<(f:Int))) (aH i f<|wA e λj=>af .i64 ((j.add (i.toNat*3)).add 0) w.drew λl=>af .i64 ((j.add (i.toNat*3)).add 1) w.drew λm=>af .i64 ((j.add (i.toNat*3)).add 2) w.drew λn=>aH (IntKind.wrap .i64 (i-1)) f<|wA e λo=>af .i64 ((o.add (((IntKind.wrap .i64 (i-1))).toNat*3)).add 0) w.drew λp=>af .i64 ((o.add (((IntKind.wrap .i64 (i-1))).toNat*3)).add 1) w.drew λq=>af .i64 ((o.add (((IntKind.wrap .i64 (i-1))).toNat*3)).add 2) w.drew λr=>bT P .neq 294 (.tmp 38) (.tmp 43) (.agg #[ae l,ae m,ae n]) (.agg #[ae p,ae q,ae r]) w.drew λs w=>cond s (aH i f<|wA e λt=>af .i64 ((t.add (i.toNat*3)).add 0) w λu=>af .i64 ((t.add (i.toNat*3)).add 1) w λv=>af .i64 ((t.add (i.toNat*3)).add 2) w λx=>aH d b<|wA a λy=>St ((y.add (d.toNat*3)).add 0) (ae u) w λw=>St ((y.add (d.toNat*3)).add 1) (ae v) w λw=>St ((y.add (d.toNat*3)).add 2) (ae x) w λw=>R9 a b c (IntKind.wrap .i64 (d+1)) e f g (IntKind.wrap .i64 (i+1)) w) (R9 a b c d e f g (IntKind.wrap .i64 (i+1)) w)) (bR a b c 3 (some d) none λz a1 b1=>aI P (Builtin.clear_ #[278] 0 [.slice z a1 b1].toArray) w λc1 w=>bR a b c 3 none (some d) λd1 e1 f1=>Q d1 e1 f1 w)
def lQ (P4:L3 (Int->WP))(Q:L3 WP):Nat->L3 (Int->L3 (Int->WP))
 |0,_,_,_,_,_,_,_,_,_=>False
 |k+1,a,b,c,d,e,f,g,i,w=>Bs P4 Q (lQ P4 Q k) a b c d e f g i w
def gx (Q:L3 WP)(R4:L3 (Int->WP))(a:OA)(b c:Nat)(d:Int)(w:World):Prop:=cond (decide (d<(b:Int))) (aH d b<|wA a λe=>af .i64 ((e.add (d.toNat*3)).add 0) w.drew λf=>af .i64 ((e.add (d.toNat*3)).add 1) w.drew λg=>af .i64 ((e.add (d.toNat*3)).add 2) w.drew λi=>aH (IntKind.wrap .i64 (d-1)) b<|wA a λj=>af .i64 ((j.add (((IntKind.wrap .i64 (d-1))).toNat*3)).add 0) w.drew λl=>af .i64 ((j.add (((IntKind.wrap .i64 (d-1))).toNat*3)).add 1) w.drew λm=>af .i64 ((j.add (((IntKind.wrap .i64 (d-1))).toNat*3)).add 2) w.drew λn=>bT P .eql 294 (.tmp 19) (.tmp 24) (.agg #[ae f,ae g,ae i]) (.agg #[ae l,ae m,ae n]) w.drew λo w=>cond o (bR a b c 3 (some d) none λp q r=>∃k',lQ R4 Q k' a b c d p q r 1 w) (R4 a b c (IntKind.wrap .i64 (d+1)) w)) (Q a b c w)
def fe (Q:L3 WP):Nat->L3 (Int->WP)
 |0,_,_,_,_,_=>False
 |k+1,a,b,c,d,w=>gx Q (fe Q k) a b c d w
noncomputable def lq:cu:=[(6,sp 0 9 (.op 9 .done)),(11,sp 0 9 (.op 9 .done))]
def Bt {P4}(Q)(H4:Bk 61 Tryz.f198 (i_ Q) 4 [(0,.l),(3,.i .i64)] P4):∀k,Bk 61 Tryz.f198 (i_ Q) 9 [(0,.l),(3,.i .i64),(4,.l),(5,.i .i64)] (lQ P4 Q k):=bK λk h=>aW (ok 61) lq [aN h]
def Bu (Q):∀k,Bk 61 Tryz.f198 (i_ Q) 4 [(0,.l),(3,.i .i64)] (fe Q k):=bK λk h=>aW (ok 61) lq [aN h,ck (Bt Q h)]
def Aq:=λa b c w Q=>bB (kP a b c w Q) (cond (decide ((b:Int)<2))
(Q a b c w)
(∃k',fe Q k' a b c 1 w)) (ok 61) lq [ck (Bu Q)] Tryz.func198
def X9:=λa b c w Q=>bB (j8 a b c w Q) (iZ a b c w λd e f w=>
kE d e f (.func (.func 197) #[] #[]) w λw=>
kP d e f w λg i j w=>
Q g i j w) (ok 9) [] [] Tryz.func176
def uG (P6:OA->OA->Int->Int->Int->L3 (L3 (Int->Int->WP)))(Q:L3 WP)(R9:OA->OA->Int->Int->Int->L3 (Int->L3 (Int->Int->L3 (Int->Int->WP))))(a b:OA)(c d e:Int)(f:OA)(g i:Nat)(j:Int)(l:OA)(m n:Nat)(o p:Int)(q:OA)(r s:Nat)(t u:Int)(w:World):Prop:=cond (decide (u<t)) (aH u r<|wA q λv=>af .i64 ((v.add (u.toNat*2)).add 0) w λx=>af .i64 ((v.add (u.toNat*2)).add 1) w λy=>Al T 292 w λz w=>St (z.add 0) (ae x) w λw=>St (z.add 1) (ae y) w λw=>af .i64 z w λa1=>zq b a1 w λb1 w=>cond (b1 !=1099511627776) (af .i64 z w.drew λc1=>af .i64 (z.add 1) w.drew λd1=>mW d e j w.drew λe1 w=>w.cell? (z.add 1)=some (ae d1)/\w.cell? z=some (ae c1)/\DR d e j c1 w λf1 w=>w.cell? (z.add 1)=some (ae d1)/\Bx [ae e1,ae f1,ae (IntKind.wrap .i64 (d1+b1))] 294 w λg1 w=>App P #[278,278] 278 (.slice f g i) (.slice (some g1) 1 1) w λi1 j1 l1 w=>R9 a b c d e i1 j1 l1 j l m n o p q r s t (IntKind.wrap .i64 (u+1)) w) (R9 a b c d e f g i j l m n o p q r s t (IntKind.wrap .i64 (u+1)) w)) (P6 a b c d e f g i l m n o (IntKind.wrap .i64 (p+1)) w)
def qC (P6:OA->OA->Int->Int->Int->L3 (L3 (Int->Int->WP)))(Q:L3 WP):Nat->OA->OA->Int->Int->Int->L3 (Int->L3 (Int->Int->L3 (Int->Int->WP)))
 |0,_,_,_,_,_,_,_,_,_,_,_,_,_,_,_,_,_,_,_,_=>False
 |k+1,a,b,c,d,e,f,g,i,j,l,m,n,o,p,q,r,s,t,u,w=>uG P6 Q (qC P6 Q k) a b c d e f g i j l m n o p q r s t u w
def uH (Q:L3 WP)(R6:OA->OA->Int->Int->Int->L3 (L3 (Int->Int->WP)))(a b:OA)(c d e:Int)(f:OA)(g i:Nat)(j:OA)(l m:Nat)(n o:Int)(w:World):Prop:=cond (decide (o<n)) (aH o l<|wA j λp=>af .i64 (p.add (o.toNat*1)) w λq=>Bf a q w λr s t w=>∃k',qC R6 Q k' a b c d e f g i q j l m n o r s t (s:Int) 0 w) (xh b w λu w=>dH d e u w λv w=>cond (v==c) (eU a u w λx w=>cond (x !=255) (mW d e u w λy w=>Bx [ae y,ae 4,ae 0] 294 w λz w=>App P #[278,278] 278 (.slice f g i) (.slice (some z) 1 1) w λa1 b1 c1 w=>j8 a1 b1 c1 w λd1 e1 f1 w=>Q d1 e1 f1 w) (j8 f g i w λg1 i1 j1 w=>Q g1 i1 j1 w)) (j8 f g i w λl1 m1 n1 w=>Q l1 m1 n1 w))
def nT (Q:L3 WP):Nat->OA->OA->Int->Int->Int->L3 (L3 (Int->Int->WP))
 |0,_,_,_,_,_,_,_,_,_,_,_,_,_,_=>False
 |k+1,a,b,c,d,e,f,g,i,j,l,m,n,o,w=>uH Q (nT Q k) a b c d e f g i j l m n o w
noncomputable def CT:cu:=[(13,sp 0 4 (sp 5 5 (sp 11 4 (.op 4 (.op 10 (.op 15 (.op 16 (.op 17 (.op 18 .done)))))))))]
def X_ {P6}(Q)(H6:Bk 96 Tryz.f162 (zp Q) 6 [(0,.p),(1,.p),(2,.i .i64),(7,.i .i64),(8,.i .i64),(9,.l),(32,.l),(33,.i .i64),(34,.i .i64)] P6):∀k,Bk 96 Tryz.f162 (zp Q) 9 [(0,.p),(1,.p),(2,.i .i64),(7,.i .i64),(8,.i .i64),(9,.l),(11,.i .i64),(32,.l),(33,.i .i64),(34,.i .i64),(40,.l),(41,.i .i64),(42,.i .i64)] (qC P6 Q k):=bK λk h=>aW (ok 96) CT [aN H6,aN h]
def Ya (Q):∀k,Bk 96 Tryz.f162 (zp Q) 6 [(0,.p),(1,.p),(2,.i .i64),(7,.i .i64),(8,.i .i64),(9,.l),(32,.l),(33,.i .i64),(34,.i .i64)] (nT Q k):=bK λk h=>aW (ok 96) CT [ck (X_ Q h)]
def Un:=λa b c w Q=>bB (Be a b c w Q) (eG a w λd e w=>
cond b.isNone
(Q none 0 0 w)
(vJ b w λf w=>
fQ a w λg w=>
cond (f !=g)
(Q none 0 0 w)
(nX a c w λi j l w=>
∃k',nT Q k' a b c d e none 0 0 i j l (j:Int) 0 w))) (ok 96) CT [ck (Ya Q)] Tryz.func162
def Lq:=λa b w Q=>bB (iM a b w Q) (cond a.isNone
(Q 0 w)
(cond (decide (b<0))
(Q 0 w)
(wA a λc=>
aC (c.add 4) w λd e f=>
cond (decide (b≥(e:Int)))
(Q 0 w)
(wA a λg=>
aC (g.add 4) w λi j l=>
aH b j<|
wA i λm=>
af .i64 (m.add (b.toNat*1)) w λn=>
Q n w)))) (ok 27) [] [] Tryz.func165
def qj (Q:L3 WP)(R5:OA->L3 (Int->Int->WP))(a b:OA)(c d:Nat)(e f:Int)(w:World):Prop:=cond (decide (f<e)) (wA a λg=>aC (g.add 1) w.drew λi j l=>aH f j<|wA i λm=>af .i64 (m.add (f.toNat*3)) w.drew λn=>wA a λo=>bg o w.drew λp=>iM p f w.drew λq w=>w.cell? (m.add (f.toNat*3))=some (ae n)/\w.cell? (g.add 1)=some (.slice i j l)/\cond (n !=q) (Bx [ae f] 3 w λr w=>App P #[29,29] 29 (.slice b c d) (.slice (some r) 1 1) w λs t u w=>R5 a s t u e (IntKind.wrap .i64 (f+1)) w) (R5 a b c d e (IntKind.wrap .i64 (f+1)) w)) (Q b c d w)
def nj (Q:L3 WP):Nat->OA->L3 (Int->Int->WP)
 |0,_,_,_,_,_,_,_=>False
 |k+1,a,b,c,d,e,f,w=>qj Q (nj Q k) a b c d e f w
noncomputable def Fk:cu:=[(1,sp 0 11 (.op 11 (sp 12 2 .done))),(7,sp 0 13 (.op 13 (.op 14 .done)))]
def S3 (Q):∀k,Bk 48 Tryz.f199 (Ge Q) 5 [(0,.p),(3,.l),(23,.i .i64),(24,.i .i64)] (nj Q k):=bK λk h=>aW (ok 48) Fk [aN h]
def OI:=λa w Q=>bB (ye a w Q) (cond a.isNone
(Q none 0 0 w.drew)
(wA a λb=>
af .i64 (b.add 2) w.drew λc=>
wA a λd=>
bg d w.drew λe=>
fQ e w.drew λf w=>
w.cell? (b.add 2)=some (ae c)/\
cond (c==f)
(Q none 0 0 w)
(wA a λg=>
aC (g.add 1) w λi j l=>
∃k',nj Q k' a none 0 0 (j:Int) 0 w))) (ok 48) Fk [ck (S3 Q)] Tryz.func199
def aeH:=λa b c d e f w Q=>bB (Iu a b c d e f w Q) (Bx [ae a,ae b,.slice c d e] 84 w λg w=>
cond (decide (f≥0))
(aC (g.add 2) w λi j l=>
cond (decide (f<(j:Int)))
(af .i64 (g.add 0) w λm=>
af .i64 (g.add 1) w λn=>
aC (g.add 2) w λo p q=>
ug m n o p q w λr w=>
Q r w)
(Q false w))
(Q false w)) (ok 18) [] [] Tryz.func279
def aeI:=λa b c d e f w Q=>bB (It a b c d e f w Q) (Bx [ae a,ae b,.slice c d e] 84 w λg w=>
af .i64 (g.add 0) w λi=>
af .i64 (g.add 1) w λj=>
aC (g.add 2) w λl m n=>
Iu i j l m n f w λo w=>
cond (!o)
(Q 0 w)
(aC (g.add 2) w λp q r=>
aH f q<|
wA p λs=>
af .u8 (s.add (f.toNat*1)) w λt=>
Q (IntKind.wrap .i64 t) w)) (ok 15) [] [] Tryz.func270
def z_ (Q:Bool->WP)(R2:L3 (Addr->L3 (Int->Int->WP)))(a:OA)(b c:Nat)(d:Addr)(e:OA)(f g:Nat)(i j:Int)(w:World):Prop:=cond (decide (j<i)) (aH j f<|wA e λl=>af .i64 (l.add (j.toNat*1)) w λm=>af .i64 (d.add 0) w λn=>af .i64 (d.add 1) w λo=>aC (d.add 2) w λp q r=>It n o p q r m w λs w=>cond (s==0) (Q false w) (cond (s==255) (Q false w) (cond (decide (j>0)) (aH (IntKind.wrap .i64 (j-1)) b<|wA a λt=>af .i64 (t.add (((IntKind.wrap .i64 (j-1))).toNat*1)) w λu=>cond (decide (m<=u)) (Q false w) (R2 a b c d e f g i (IntKind.wrap .i64 (j+1)) w)) (R2 a b c d e f g i (IntKind.wrap .i64 (j+1)) w)))) (af .i64 (d.add 0) w λv=>af .i64 (d.add 1) w λx=>aC (d.add 2) w λy z a1=>ug v x y z a1 w λb1 w=>Q b1 w)
def vX (Q:Bool->WP):Nat->L3 (Addr->L3 (Int->Int->WP))
 |0,_,_,_,_,_,_,_,_,_,_=>False
 |k+1,a,b,c,d,e,f,g,i,j,w=>z_ Q (vX Q k) a b c d e f g i j w
def aeJ (Q):∀k,Bk 40 Tryz.f254 (RU Q) 2 [(1,.l),(2,.a),(8,.l),(9,.i .i64),(10,.i .i64)] (vX Q k):=bK λk h=>aW (ok 40) [] [aN h]
def ZQ:=λa b c d e f g i w Q=>bB (Ff a b c d e f g i w Q) (Bx [ae a,ae b,.slice c d e] 84 w λj w=>
∃k',vX Q k' f g i j f g i (g:Int) 0 w) (ok 40) [] [ck (aeJ Q)] Tryz.func254
def fV (Q:Int->WP)(R2:L3 (Value->Int->Int->WP))(a:OA)(b c:Nat)(d:Value)(e f:Int)(w:World):Prop:=cond (decide (f<e)) (aH f b<|wA a λg=>af .i64 ((g.add (f.toNat*3)).add 0) w λi=>af .i64 ((g.add (f.toNat*3)).add 1) w λj=>af .i64 ((g.add (f.toNat*3)).add 2) w λl=>gX (cx 19) d [.agg #[ae i,ae j,ae l]] w λm w=>dB m λn=>cond n (Q f w) (R2 a b c d e (IntKind.wrap .i64 (f+1)) w)) (Q (-1) w)
def eO (Q:Int->WP):Nat->L3 (Value->Int->Int->WP)
 |0,_,_,_,_,_,_,_=>False
 |k+1,a,b,c,d,e,f,w=>fV Q (eO Q k) a b c d e f w
def Ar (Q):∀k,Bk 19 Tryz.f233 (qg Q) 2 [(0,.l),(1,.v),(7,.i .i64),(8,.i .i64)] (eO Q k):=bK λk h=>aW (ok 19) [] [aN h]
def zG:=λa b c d w Q=>bB (oU a b c d w Q) (∃k',eO Q k' a b c d (b:Int) 0 w) (ok 19) [] [ck (Ar Q)] Tryz.func233
def xF:=λa b c d w Q=>bB (nM a b c d w Q) (oU a b c d w λe w=>
Q (decide (e≥0)) w) (ok 9) [] [] Tryz.func209
noncomputable def abN:cu:=[(1,sp 0 8 (.op 8 (.op 9 .done)))]
def ZR:=λa b c d e f g w Q=>bB (Fe a b c d e f g w Q) (Bx [ae a,ae b,.slice c d e] 84 w λi w=>
af .i64 i w.drew λj=>
NZ j<|
af .i64 i w.drew λl=>
NZ l<|
w.drew.cell? i=some (ae l)/\
cond (g==0)
(Q ((IntKind.wrap .i64 (Int.tdiv f l))==0) w.drew)
(cond (g==1)
(af .i64 i w.drew λm=>
Q ((Int.tmod f j)==(IntKind.wrap .i64 (m-1))) w.drew)
(cond (g==2)
(af .i64 (i.add 1) w.drew λn=>
Q ((IntKind.wrap .i64 (Int.tdiv f l))==(IntKind.wrap .i64 (n-1))) w.drew)
(cond (g==3)
(Q ((Int.tmod f j)==0) w.drew)
(Q (g==4) w.drew))))) (ok 42) abN [] Tryz.func211
def Wz:=λa b c d w Q=>bB (CQ a b c d w Q) (Bx [ae a,ae b,ae c] 294 w λe w=>
af .i64 e w λf=>
cond (decide (f<0))
(Q true w)
(af .i64 e w λg=>
wA d λi=>
aC (i.add 2) w λj l m=>
cond (decide (g≥(l:Int)))
(Q true w)
(wA d λn=>
aC (n.add 2) w λo p q=>
af .i64 e w λr=>
aH r p<|
wA o λs=>
af .u8 (s.add (r.toNat*1)) w λt=>
cond (t==255)
(Q true w)
(af .i64 (e.add 2) w λu=>
cond (decide (u<0))
(Q true w)
(af .i64 (e.add 2) w λv=>
cond (decide (v>1073741824))
(Q true w)
(wA d λx=>
af .i64 (x.add 0) w λy=>
af .i64 (x.add 1) w λz=>
aC (x.add 2) w λa1 b1 c1=>
af .i64 e w λd1=>
af .i64 (e.add 1) w λe1=>
Fe y z a1 b1 c1 d1 e1 w λf1 w=>
Q (!f1) w)))))) (ok 43) [] [] Tryz.func210
def ZS:=λa b c d e f g i w Q=>bB (AE a b c d e f g i w Q) (Bx [ae a,ae b,.slice c d e] 84 w λj w=>
af .i64 (j.add 0) w λl=>
af .i64 (j.add 1) w λm=>
aC (j.add 2) w λn o p=>
ug l m n o p w λq w=>
cond (!q)
(Q false w)
(nM f g i (.func (.func 210) #[] #[.pointer (some j)]) w λr w=>
Q (!r) w)) (ok 12) [] [] Tryz.func179
def abO:=λa w Q=>bB (B5 a w Q) (cond (decide (a<0))
(Q none w)
(cond (decide (a>1099511627776))
(Q none w)
(Bx [ae a,ae 0,.slice none 0 0,ae 0,.slice none 0 0,ae 0,.slice none 0 0,ae 0,.slice none 0 0,ae 0,.slice none 0 0,ae 0,.slice none 0 0,ae 0,.slice none 0 0,ae 0,.slice none 0 0,ae 0,.slice none 0 0,ae 0,.slice none 0 0,ae 0,.slice none 0 0,ae 0,.slice none 0 0,ae 0,.slice none 0 0,ae 0,.slice none 0 0,ae 0,.slice none 0 0,ae 0,.slice none 0 0,ae 0,.slice none 0 0,ae 0,.slice none 0 0,ae 0,.slice none 0 0,ae 0,.slice none 0 0,ae 0,.slice none 0 0,ae 0,.slice none 0 0,ae 0,.slice none 0 0,ae 0,.slice none 0 0,ae 0,.slice none 0 0,ae 0,.slice none 0 0,ae 0,.slice none 0 0,ae 0,.slice none 0 0,ae 0,.slice none 0 0,ae 0,.slice none 0 0,ae 0,.slice none 0 0,ae 0,.slice none 0 0,ae 0,.slice none 0 0,ae 0,.slice none 0 0,ae 0,.slice none 0 0,ae 0,.slice none 0 0,ae 0,.slice none 0 0,ae 0,.slice none 0 0,ae 0,.slice none 0 0,ae 0,.slice none 0 0,ae 0,.slice none 0 0,ae 0,.slice none 0 0,ae 0,.slice none 0 0,ae 0,.slice none 0 0,ae 0,.slice none 0 0,ae 0,.slice none 0 0,ae 0,.slice none 0 0,ae 0,.slice none 0 0,ae 0,.slice none 0 0,ae 0,.slice none 0 0,ae 0,.slice none 0 0,ae 0,.slice none 0 0,ae 0,.slice none 0 0,ae 0,.slice none 0 0,ae 0,.slice none 0 0,ae 0,.slice none 0 0,ae 0,.slice none 0 0,ae 0,.slice none 0 0,ae 0,.slice none 0 0,ae 0,.slice none 0 0,ae 0,.slice none 0 0,ae 0,.slice none 0 0,ae 0,.slice none 0 0,ae 0,.slice none 0 0,ae 0,.slice none 0 0,ae 0,.slice none 0 0,ae 0,.slice none 0 0,ae 0,.slice none 0 0,ae 0,.slice none 0 0,ae 0,.slice none 0 0,ae 0,.slice none 0 0,ae 0,.slice none 0 0,ae 0,.slice none 0 0,ae 0,.slice none 0 0,ae 0,.slice none 0 0,ae 0,.slice none 0 0,ae 0,.slice none 0 0,ae 0,.slice none 0 0,ae 0,.slice none 0 0,ae 0,.slice none 0 0,ae 0,.slice none 0 0,ae 0,.slice none 0 0,ae 0,.slice none 0 0,ae 0,.slice none 0 0,ae 0,.slice none 0 0,ae 0,.slice none 0 0,ae 0,.slice none 0 0,ae 0,.slice none 0 0,ae 0,.slice none 0 0,ae 0,.slice none 0 0,ae 0,.slice none 0 0,ae 0,.slice none 0 0,ae 0,.slice none 0 0,ae 0,.slice none 0 0,ae 0,.slice none 0 0,ae 0,.slice none 0 0,ae 0,.slice none 0 0,ae 0,.slice none 0 0,ae 0,.slice none 0 0,ae 0,.slice none 0 0,ae 0,.slice none 0 0,ae 0,.slice none 0 0,ae 0,.slice none 0 0,ae 0,.slice none 0 0,ae 0,.slice none 0 0,ae 0,.slice none 0 0,ae 0,.slice none 0 0,ae 0,.slice none 0 0,ae 0,.slice none 0 0,ae 0,.slice none 0 0,ae 0,.slice none 0 0,ae 0,.slice none 0 0,ae 0,.slice none 0 0,ae 0,.slice none 0 0,ae 0,.slice none 0 0,ae 0,.slice none 0 0,ae 0,.slice none 0 0,ae 0,.slice none 0 0,ae 0,.slice none 0 0,ae 0,.slice none 0 0,ae 0,.slice none 0 0,ae 0,.slice none 0 0,ae 0,.slice none 0 0,ae 0,.slice none 0 0,ae 0,.slice none 0 0,ae 0,.slice none 0 0,ae 0,.slice none 0 0,ae 0,.slice none 0 0,ae 0,.slice none 0 0,ae 0,.slice none 0 0,ae 0,.slice none 0 0,ae 0,.slice none 0 0,ae 0,.slice none 0 0,ae 0,.slice none 0 0,ae 0,.slice none 0 0,ae 0,.slice none 0 0,ae 0,.slice none 0 0,ae 0,.slice none 0 0,ae 0,.slice none 0 0,ae 0,.slice none 0 0,ae 0,.slice none 0 0,ae 0,.slice none 0 0,ae 0,.slice none 0 0,ae 0,.slice none 0 0,ae 0,.slice none 0 0,ae 0,.slice none 0 0,ae 0,.slice none 0 0,ae 0,.slice none 0 0,ae 0,.slice none 0 0,ae 0,.slice none 0 0,ae 0,.slice none 0 0,ae 0,.slice none 0 0,ae 0,.slice none 0 0,ae 0,.slice none 0 0,ae 0,.slice none 0 0,ae 0,.slice none 0 0,ae 0,.slice none 0 0,ae 0,.slice none 0 0,ae 0,.slice none 0 0,ae 0,.slice none 0 0,ae 0,.slice none 0 0,ae 0,.slice none 0 0,ae 0,.slice none 0 0,ae 0,.slice none 0 0,ae 0,.slice none 0 0,ae 0,.slice none 0 0,ae 0,.slice none 0 0,ae 0,.slice none 0 0,ae 0,.slice none 0 0,ae 0,.slice none 0 0,ae 0,.slice none 0 0,ae 0,.slice none 0 0,ae 0,.slice none 0 0,ae 0,.slice none 0 0,ae 0,.slice none 0 0,ae 0,.slice none 0 0,ae 0,.slice none 0 0,ae 0,.slice none 0 0,ae 0,.slice none 0 0,ae 0,.slice none 0 0,ae 0,.slice none 0 0,ae 0,.slice none 0 0,ae 0,.slice none 0 0,ae 0,.slice none 0 0,ae 0,.slice none 0 0,ae 0,.slice none 0 0,ae 0,.slice none 0 0,ae 0,.slice none 0 0,ae 0,.slice none 0 0,ae 0,.slice none 0 0,ae 0,.slice none 0 0,ae 0,.slice none 0 0,ae 0,.slice none 0 0,ae 0,.slice none 0 0,ae 0,.slice none 0 0,ae 0,.slice none 0 0,ae 0,.slice none 0 0,ae 0,.slice none 0 0,ae 0,.slice none 0 0,ae 0,.slice none 0 0,ae 0,.slice none 0 0,ae 0,.slice none 0 0,ae 0,.slice none 0 0,ae 0,.slice none 0 0,ae 0,.slice none 0 0,ae 0,.slice none 0 0,ae 0,.slice none 0 0,ae 0,.slice none 0 0,ae 0,.slice none 0 0,ae 0,.slice none 0 0,ae 0,.slice none 0 0,ae 0,.slice none 0 0,ae 0,.slice none 0 0,ae 0,.slice none 0 0,ae 0,.slice none 0 0,ae 0,.slice none 0 0,ae 0,.slice none 0 0,ae 0,.slice none 0 0,ae 0,.slice none 0 0,ae 0,.slice none 0 0,ae 0,.slice none 0 0,ae 0,.slice none 0 0,ae 0,.slice none 0 0,ae 0,.slice none 0 0,ae 0,.slice none 0 0,ae 0,.slice none 0 0,ae 0,.slice none 0 0,ae 0,.slice none 0 0,ae 0,.slice none 0 0,ae 0,.slice none 0 0,ae 0,.slice none 0 0,ae 0,.slice none 0 0,ae 0,.slice none 0 0,ae 0,.slice none 0 0,ae 0,.slice none 0 0,ae 0,.slice none 0 0,ae 0,.slice none 0 0,ae 0,.slice none 0 0,ae 0,.slice none 0 0,ae 0,.slice none 0 0,ae 0,.slice none 0 0,ae 0,.slice none 0 0,ae 0,.slice none 0 0,ae 0,.slice none 0 0,ae 0,.slice none 0 0,ae 0,.slice none 0 0,ae 0,.slice none 0 0,ae 0,.slice none 0 0,ae 0,.slice none 0 0,ae 0,.slice none 0 0,ae 0,.slice none 0 0,ae 0,.slice none 0 0,ae 0,.slice none 0 0,ae 0,.slice none 0 0,ae 0,.slice none 0 0,ae 0,.slice none 0 0,ae 0] 388 w λb w=>
Q (some b) w))) (ok 12) [] [] Tryz.func234
def kX (Q:L3 WP)(R8:L3 (Int->WP))(a:OA)(b c:Nat)(d:Int)(w:World):Prop:=cond (decide (d<(b:Int))) (bR a b c 1 (some d) none λe f g=>bR a b c 1 none (some d) λi j l=>cA P #[29,29] 3 (.slice e f g) (.slice i j l) w.drew λm w=>R8 a b c (IntKind.wrap .i64 (d+m)) w) (Q a b c w)
def kY (Q:L3 WP):Nat->L3 (Int->WP)
 |0,_,_,_,_,_=>False
 |k+1,a,b,c,d,w=>kX Q (kY Q k) a b c d w
def tM (Q:L3 WP)(a:OA)(b c:Nat)(d:Int)(w:World):Prop:=False
noncomputable def su:cu:=[(9,sp 0 7 (.op 7 (.op 8 (.op 9 .done))))]
def AH (Q):∀k,Bk 48 Tryz.f235 (tG Q) 8 [(7,.l),(8,.i .i64)] (kY Q k):=bK λk h=>aW (ok 48) su [aN h]
def Jb (Q):Bk 48 Tryz.f235 (tG Q) 5 [(0,.l),(6,.i .u64)] (tM Q):=aW (ok 48) su [ck (AH Q)]
def HP:=λa b c d w Q=>bB (jS a b c d w Q) (cond (decide (d<0))
(False
)
(qf (IntKind.wrap .u64 (b:Int)) (IntKind.wrap .u64 d) w λe f w=>
cond (decide (e>0))
(tM Q a b c f w)
(cond (decide (f>9223372036854775807))
(tM Q a b c f w)
(cq P 29 (ae (IntKind.wrap .i64 f)) (ae (IntKind.wrap .i64 f)) w λg i j w=>
cA P #[29,29] 3 (.slice g i j) (.slice a b c) w λl w=>
∃k',kY Q k' g i j l w)))) (ok 48) su [aN (Jb Q),ck (AH Q)] Tryz.func235
def S4:=λa w Q=>bB (qi a w Q) (cond a.isNone
(Q 0 w)
(wA a λb=>
af .i64 (b.add 1) w λc=>
Q c w)) (ok 9) [] [] Tryz.func260
def QE:=λa b w Q=>bB (zB a b w Q) (cond a.isNone
(Q false w)
(wA a λc=>
af .i64 (c.add 1) w λd=>
cond (decide (d>0))
(Q false w)
(wA a λe=>
af .i64 e w λf=>
cond (decide (b<f))
(Q false w)
(cond (decide (b>1099511627776))
(Q false w)
(wA a λg=>
St g (ae b) w λw=>
Q true w))))) (ok 30) [] [] Tryz.func272
def OJ:=λa b w Q=>bB (yl a b w Q) (wA a λc=>
aC c w λd e f=>
Bx [ae b] 3 w λg w=>
App P #[29,29] 29 (.slice d e f) (.slice (some g) 1 1) w λi j l w=>
wA a λm=>
St m (.slice i j l) w λw=>
Q w) (ok 14) [] [] Tryz.func282
def S5:=λa b c w Q=>bB (uX a b c w Q) (cond a.isNone
(Q false w)
(wA a λd=>
af .i64 d w λe=>
cond (decide (b<e))
(Q false w)
(wA a λf=>
af .i64 f w λg=>
cond (decide ((IntKind.wrap .i64 (b-g))≥256))
(Q false w)
(NZ 256<|
wA a λi=>
aH (Int.tmod b 256) 256<|
yl (some ((i.add 2).add (((Int.tmod b 256)).toNat*2))) c w λw=>
wA a λj=>
af .i64 (j.add 1) w λl=>
wA a λm=>
St (m.add 1) (ae (IntKind.wrap .i64 (l+1))) w λw=>
Q true w)))) (ok 41) [] [] Tryz.func273
def xl (Q:WP)(R2:OA->WP)(a:OA)(w:World):Prop:=wA a λb=>aC (b.add 4) w.drew λc d e=>cond (decide ((d:Int)>0)) (wA a λf=>bg (f.add 3) w.drew λg=>wA a λi=>aC (i.add 4) w.drew λj l m=>aH 0 l<|wA j λn=>af .i64 ((n.add (((0:Int).toNat)*3)).add 2) w.drew λo=>wA a λp=>aC (p.add 4) w.drew λq r s=>aH 0 r<|wA q λt=>af .i64 (t.add (((0:Int).toNat)*3)) w.drew λu=>uX g o u w.drew λv w=>cond v (wA a λx=>aC (x.add 4) w λy z a1=>bR y z a1 3 (some 1) none λb1 c1 d1=>wA a λe1=>St (e1.add 4) (.slice b1 c1 d1) w λw=>R2 a w) (Q w)) (Q w.drew)
def gd (Q:WP):Nat->OA->WP
 |0,_,_=>False
 |k+1,a,w=>xl Q (gd Q k) a w
noncomputable def CF:cu:=[(1,sp 0 11 (.op 11 .done)),(2,sp 0 25 (.op 25 (.op 26 .done)))]
def Nb (Q):∀k,Bk 63 Tryz.f259 (Da Q) 2 [(0,.p)] (gd Q k):=bK λk h=>aW (ok 63) CF [aN h]
def J0:=λa w Q=>bB (jx a w Q) (wA a λb=>
aC (b.add 4) w λc d e=>
cond (decide ((d:Int)>0))
(wA a λf=>
bg (f.add 3) w λg=>
qi g w λi w=>
cond (i==0)
(wA a λj=>
bg (j.add 3) w.drew λl=>
wA a λm=>
aC (m.add 4) w.drew λn o p=>
aH 0 o<|
wA n λq=>
af .i64 ((q.add (((0:Int).toNat)*3)).add 2) w.drew λr=>
zB l r w.drew λs w=>
∃k',gd Q k' a w)
(∃k',gd Q k' a w))
(∃k',gd Q k' a w)) (ok 63) CF [ck (Nb Q)] Tryz.func259
noncomputable def Nc:cu:=[(1,sp 0 10 (.op 10 .done))]
def Lt:=λa w Q=>bB (p_ a w Q) (wA a λb=>
af .i64 (b.add 1) w.drew λc=>
wA a λd=>
aC d w.drew λe f g=>
Q (c==(f:Int)) w.drew) (ok 13) Nc [] Tryz.func274
noncomputable def QF:cu:=[(1,sp 0 10 (.op 10 .done))]
def OK:=λa w Q=>bB (yh a w Q) (wA a λb=>
aC b w.drew λc d e=>
wA a λf=>
af .i64 (f.add 1) w.drew λg=>
aH g d<|
wA c λi=>
af .i64 (i.add (g.toNat*1)) w.drew λj=>
wA a λl=>
af .i64 (l.add 1) w.drew λm=>
wA a λn=>
St (n.add 1) (ae (IntKind.wrap .i64 (m+1))) w.drew λw=>
p_ a w λo w=>
cond o
(wA a λp=>
aC p w λq r s=>
bR q r s 1 none (some 0) λt u v=>
wA a λx=>
St x (.slice t u v) w λw=>
wA a λy=>
St (y.add 1) (ae 0) w λw=>
Q j w)
(Q j w)) (ok 35) QF [] Tryz.func275
def CU (Q:Int->Int->Bool->WP)(R3:OA->WP)(a:OA)(w:World):Prop:=wA a λb=>af .i64 b w.drew λc=>NZ 256<|wA a λd=>aH (Int.tmod c 256) 256<|p_ (some ((d.add 2).add (((Int.tmod c 256)).toNat*2))) w.drew λe w=>cond e (wA a λf=>af .i64 f w λg=>wA a λi=>St i (ae (IntKind.wrap .i64 (g+1))) w λw=>R3 a w) (wA a λj=>af .i64 (j.add 1) w λl=>wA a λm=>St (m.add 1) (ae (IntKind.wrap .i64 (l-1))) w λw=>wA a λn=>af .i64 n w.drew λo=>wA a λp=>af .i64 p w.drew λq=>NZ 256<|wA a λr=>aH (Int.tmod q 256) 256<|yh (some ((r.add 2).add (((Int.tmod q 256)).toNat*2))) w.drew λs w=>w.cell? n=some (ae o)/\Q o s true w)
def pF (Q:Int->Int->Bool->WP):Nat->OA->WP
 |0,_,_=>False
 |k+1,a,w=>CU Q (pF Q k) a w
noncomputable def HQ:cu:=[(3,sp 0 9 (.op 9 .done)),(6,sp 0 13 (.op 13 (.op 14 (.op 15 (.op 16 .done)))))]
def WA (Q):∀k,Bk 46 Tryz.f261 (IS Q) 3 [(0,.p)] (pF Q k):=bK λk h=>aW (ok 46) HQ [aN h]
def S6:=λa w Q=>bB (An a w Q) (qi a w λb w=>
cond (b==0)
(Q 0 0 false w)
(∃k',pF Q k' a w)) (ok 46) HQ [ck (WA Q)] Tryz.func261
def Jc:=λa b c w Q=>bB (g6 a b c w Q) (wA a λd=>
aC (d.add 2) w λe f g=>
aH b f<|
wA e λi=>
af .u8 (i.add (b.toNat*1)) w λj=>
cond (j !=255)
(wA a λl=>
aC (l.add 5) w λm n o=>
aH b n<|
wA m λp=>
af .i64 (p.add (b.toNat*1)) w λq=>
cond (q==1099511627776)
(wA a λr=>
bg (r.add 3) w λs=>
uX s c b w λt w=>
Q w)
(Q w))
(Q w)) (ok 32) [] [] Tryz.func276
def lR (Q:WP)(a:OA)(b c d:Int)(w:World):Prop:=cond (decide (d>0)) (g6 a (IntKind.wrap .i64 (b-1)) c w λw=>Q w) (Q w)
def oZ (Q:WP)(a:OA)(b c d e:Int)(w:World):Prop:=wA a λf=>af .i64 (f.add 1) w λg=>cond (decide (e<(IntKind.wrap .i64 (g-1)))) (wA a λi=>af .i64 i w λj=>g6 a (IntKind.wrap .i64 (b+j)) c w λw=>lR Q a b c d w) (lR Q a b c d w)
def o6 (Q:WP)(a:OA)(b c d e:Int)(w:World):Prop:=wA a λf=>af .i64 f w λg=>cond (decide (d<(IntKind.wrap .i64 (g-1)))) (g6 a (IntKind.wrap .i64 (b+1)) c w λw=>oZ Q a b c d e w) (oZ Q a b c d e w)
noncomputable def oG:cu:=[(0,sp 0 17 (.op 17 .done)),(1,sp 0 14 (.op 14 (.op 15 .done)))]
def J4 (Q):Bk 88 Tryz.f262 (oV Q) 8 [(0,.p),(1,.i .i64),(4,.i .i64),(5,.i .i64)] (lR Q):=aW (ok 88) oG []
def J5 (Q):Bk 88 Tryz.f262 (oV Q) 6 [(0,.p),(1,.i .i64),(4,.i .i64),(5,.i .i64),(6,.i .i64)] (oZ Q):=aW (ok 88) oG [aN (J4 Q)]
def J6 (Q):Bk 88 Tryz.f262 (oV Q) 4 [(0,.p),(1,.i .i64),(4,.i .i64),(5,.i .i64),(6,.i .i64)] (o6 Q):=aW (ok 88) oG [aN (J5 Q)]
def IE:=λa b w Q=>bB (r_ a b w Q) (wA a λc=>
aC (c.add 5) w.drew λd e f=>
aH b e<|
wA d λg=>
af .i64 (g.add (b.toNat*1)) w.drew λi=>
wA a λj=>
aC (j.add 2) w.drew λl m n=>
aH b m<|
wA l λo=>
af .u8 (o.add (b.toNat*1)) w.drew λp=>
wA a λq=>
af .i64 q w.drew.drew λr=>
NZ r<|
wA a λs=>
af .i64 s w.drew.drew λt=>
NZ t<|
w.drew.drew.cell? s=some (ae t)/\
cond (decide ((IntKind.wrap .i64 (Int.tdiv b t))>0))
(wA a λu=>
af .i64 u w.drew.drew λv=>
g6 a (IntKind.wrap .i64 (b-v)) (IntKind.wrap .i64 (i+(IntKind.wrap .i64 p))) w.drew.drew λw=>
o6 Q a b (IntKind.wrap .i64 (i+(IntKind.wrap .i64 p))) (Int.tmod b r) (IntKind.wrap .i64 (Int.tdiv b t)) w)
(o6 Q a b (IntKind.wrap .i64 (i+(IntKind.wrap .i64 p))) (Int.tmod b r) (IntKind.wrap .i64 (Int.tdiv b t)) w.drew.drew)) (ok 88) oG [aN (J6 Q)] Tryz.func262
def yA (Q:WP)(R1:OA->WP)(a:OA)(w:World):Prop:=wA a λb=>bg (b.add 3) w λc=>qi c w λd w=>cond (decide (d>0)) (wA a λe=>bg (e.add 3) w λf=>An f w λg i j w=>wA a λl=>aC (l.add 5) w λm n o=>aH i n<|wA m λp=>af .i64 (p.add (i.toNat*1)) w λq=>cond (q==1099511627776) (wA a λr=>aC (r.add 5) w λs t u=>aH i t<|wA s λv=>St (v.add (i.toNat*1)) (ae g) w λw=>r_ a i w λw=>jx a w λw=>R1 a w) (jx a w λw=>R1 a w)) (Q w)
def jz (Q:WP):Nat->OA->WP
 |0,_,_=>False
 |k+1,a,w=>yA Q (jz Q k) a w
def OL (Q):∀k,Bk 42 Tryz.f236 (Em Q) 1 [(0,.p)] (jz Q k):=bK λk h=>aW (ok 42) [] [aN h]
def Lu:=λa w Q=>bB (CB a w Q) (jx a w λw=>
∃k',jz Q k' a w) (ok 42) [] [ck (OL Q)] Tryz.func236
def qD (Q:L3 (Int->WP))(a:Addr)(w:World):Prop:=CB (some a) w λw=>aC (a.add 5) w λb c d=>Q b c d 0 w
noncomputable def IU:cu:=[(3,.op 0 (.op 2 (sp 5 3 (.br (.op 1 (.br (.op 3 (.op 4 (.op 8 (.op 9 (.op 10 (.op 11 .done)))))) (.op 4 (.op 3 (.op 8 (.op 9 (.op 10 (.op 11 .done)))))))) (.op 4 (.op 1 (.op 3 (.op 8 (.op 9 (.op 10 (.op 11 .done)))))))))))]
def Yb (Q):Bk 28 Tryz.f216 (JV Q) 4 [(6,.a)] (qD Q):=aW (ok 28) IU []
def Uo:=λa b c d e f g i w Q=>bB (wq a b c d e f g i w Q) (Bx [ae a,ae b,.slice c d e] 84 w λj w=>
af .i64 (j.add 0) w λl=>
af .i64 (j.add 1) w λm=>
aC (j.add 2) w λn o p=>
AE l m n o p f g i w λq w=>
cond (!q)
(Q none 0 0 1 w)
(af .i64 (j.add 0) w.drew λr=>
af .i64 (j.add 1) w.drew λs=>
aC (j.add 2) w.drew λt u v=>
aC (j.add 2) w.drew λx y z=>
(B5 0 w.drew λa1 w=>
w.cell? (j.add 2)=some (.slice x y z)/\
w.cell? (j.add 0)=some (ae r)/\
w.cell? (j.add 1)=some (ae s)/\
w.cell? (j.add 2)=some (.slice t u v)/\
(j8 f g i w λb1 c1 d1 w=>
w.cell? (j.add 2)=some (.slice x y z)/\
w.cell? (j.add 0)=some (ae r)/\
w.cell? (j.add 1)=some (ae s)/\
w.cell? (j.add 2)=some (.slice t u v)/\
Bx [ae 1099511627776] 3 w λe1 w=>
w.cell? (j.add 2)=some (.slice x y z)/\
w.cell? (j.add 0)=some (ae r)/\
w.cell? (j.add 1)=some (ae s)/\
w.cell? (j.add 2)=some (.slice t u v)/\
jS (some e1) 1 1 (y:Int) w λf1 g1 i1 w=>
w.cell? (j.add 0)=some (ae r)/\
w.cell? (j.add 1)=some (ae s)/\
w.cell? (j.add 2)=some (.slice t u v)/\
Bx [ae r,ae s,.slice t u v,.pointer a1,.slice b1 c1 d1,.slice f1 g1 i1] 363 w λj1 w=>
qD Q j1 w)/\
(Bx [ae 1099511627776] 3 w λl1 w=>
w.cell? (j.add 2)=some (.slice x y z)/\
w.cell? (j.add 0)=some (ae r)/\
w.cell? (j.add 1)=some (ae s)/\
w.cell? (j.add 2)=some (.slice t u v)/\
j8 f g i w λm1 n1 o1 w=>
w.cell? (j.add 2)=some (.slice x y z)/\
w.cell? (j.add 0)=some (ae r)/\
w.cell? (j.add 1)=some (ae s)/\
w.cell? (j.add 2)=some (.slice t u v)/\
jS (some l1) 1 1 (y:Int) w λp1 q1 r1 w=>
w.cell? (j.add 0)=some (ae r)/\
w.cell? (j.add 1)=some (ae s)/\
w.cell? (j.add 2)=some (.slice t u v)/\
Bx [ae r,ae s,.slice t u v,.pointer a1,.slice m1 n1 o1,.slice p1 q1 r1] 363 w λs1 w=>
qD Q s1 w))/\
(Bx [ae 1099511627776] 3 w.drew λt1 w=>
w.cell? (j.add 2)=some (.slice x y z)/\
w.cell? (j.add 0)=some (ae r)/\
w.cell? (j.add 1)=some (ae s)/\
w.cell? (j.add 2)=some (.slice t u v)/\
B5 0 w λu1 w=>
w.cell? (j.add 2)=some (.slice x y z)/\
w.cell? (j.add 0)=some (ae r)/\
w.cell? (j.add 1)=some (ae s)/\
w.cell? (j.add 2)=some (.slice t u v)/\
j8 f g i w λv1 x1 y1 w=>
w.cell? (j.add 2)=some (.slice x y z)/\
w.cell? (j.add 0)=some (ae r)/\
w.cell? (j.add 1)=some (ae s)/\
w.cell? (j.add 2)=some (.slice t u v)/\
jS (some t1) 1 1 (y:Int) w λz1 a2 b2 w=>
w.cell? (j.add 0)=some (ae r)/\
w.cell? (j.add 1)=some (ae s)/\
w.cell? (j.add 2)=some (.slice t u v)/\
Bx [ae r,ae s,.slice t u v,.pointer u1,.slice v1 x1 y1,.slice z1 a2 b2] 363 w λc2 w=>
qD Q c2 w))) (ok 28) IU [aN (Yb Q)] Tryz.func216
def abP:=λa b c d e f w Q=>bB (GL a b c d e f w Q) (Bx [ae a,ae b,.slice c d e] 84 w λg w=>
af .i64 (g.add 0) w λi=>
af .i64 (g.add 1) w λj=>
aC (g.add 2) w λl m n=>
Bx [ae f,ae 4,ae 0] 294 w λo w=>
wq i j l m n (some o) 1 1 w λp q r s w=>
Q p q r s w) (ok 13) [] [] Tryz.func255
def wC (P6:L3 (Addr->Int->L3 (L3 (Int->Int->WP))))(Q:L3 (Int->WP))(R10:L3 (Addr->Int->L3 (Int->L3 (L3 (Int->Int->L3 (Int->Int->WP))))))(a:OA)(b c:Nat)(d:Addr)(e:Int)(f:OA)(g i:Nat)(j:Int)(l:OA)(m n:Nat)(o:OA)(p q:Nat)(r s:Int)(t:OA)(u v:Nat)(x y:Int)(w:World):Prop:=cond (decide (y<x)) (aH y u<|wA t λz=>af .i64 (z.add (y.toNat*1)) w λa1=>aH a1 m<|wA l λb1=>af .i64 (b1.add (a1.toNat*1)) w λc1=>aH (IntKind.wrap .i64 ((IntKind.wrap .i64 (y*e))+j)) g<|wA f λd1=>St (d1.add (((IntKind.wrap .i64 ((IntKind.wrap .i64 (y*e))+j))).toNat*1)) (ae c1) w λw=>R10 a b c d e f g i j l m n o p q r s t u v x (IntKind.wrap .i64 (y+1)) w) (P6 a b c d e f g i o p q r (IntKind.wrap .i64 (s+1)) w)
def rM (P6:L3 (Addr->Int->L3 (L3 (Int->Int->WP))))(Q:L3 (Int->WP)):Nat->L3 (Addr->Int->L3 (Int->L3 (L3 (Int->Int->L3 (Int->Int->WP)))))
 |0=>λ_ _ _ _ _ _ _ _ _ _ _ _ _ _ _ _ _ _ _ _ _ _ _=>False
 |k+1=>λa b c d e f g i j l m n o p q r s t u v x y w=>wC P6 Q (rM P6 Q k) a b c d e f g i j l m n o p q r s t u v x y w
def yB (Q:L3 (Int->WP))(R6:L3 (Addr->Int->L3 (L3 (Int->Int->WP))))(a:OA)(b c:Nat)(d:Addr)(e:Int)(f:OA)(g i:Nat)(j:OA)(l m:Nat)(n o:Int)(w:World):Prop:=cond (decide (o<n)) (aH o l<|wA j λp=>af .i64 (p.add (o.toNat*1)) w λq=>af .i64 (d.add 0) w λr=>af .i64 (d.add 1) w λs=>aC (d.add 2) w λt u v=>GL r s t u v q w λx y z a1 w=>∃k',rM R6 Q k' a b c d e f g i o x y z j l m n o a b c (b:Int) 0 w) (Q f g i 0 w)
def qE (Q:L3 (Int->WP)):Nat->L3 (Addr->Int->L3 (L3 (Int->Int->WP)))
 |0,_,_,_,_,_,_,_,_,_,_,_,_,_,_=>False
 |k+1,a,b,c,d,e,f,g,i,j,l,m,n,o,w=>yB Q (qE Q k) a b c d e f g i j l m n o w
def ZT {P6}(Q)(H6:Bk 58 Tryz.f227 (B4 Q) 6 [(1,.l),(2,.a),(6,.i .i64),(7,.l),(24,.l),(25,.i .i64),(26,.i .i64)] P6):∀k,Bk 58 Tryz.f227 (B4 Q) 10 [(1,.l),(2,.a),(6,.i .i64),(7,.l),(8,.i .i64),(10,.l),(24,.l),(25,.i .i64),(26,.i .i64),(37,.l),(38,.i .i64),(39,.i .i64)] (rM P6 Q k):=bK λk h=>aW (ok 58) [] [aN H6,aN h]
def abQ (Q):∀k,Bk 58 Tryz.f227 (B4 Q) 6 [(1,.l),(2,.a),(6,.i .i64),(7,.l),(24,.l),(25,.i .i64),(26,.i .i64)] (qE Q k):=bK λk h=>aW (ok 58) [] [ck (ZT Q h)]
def Yc:=λa b c d e f g i w Q=>bB (DW a b c d e f g i w Q) (Bx [ae a,ae b,.slice c d e] 84 w λj w=>
af .i64 (j.add 0) w λl=>
af .i64 (j.add 1) w λm=>
aC (j.add 2) w λn o p=>
Ff l m n o p f g i w λq w=>
cond (!q)
(Q none 0 0 1 w)
(cq P 29 (ae (IntKind.wrap .i64 ((g:Int)*(g:Int)))) (ae (IntKind.wrap .i64 ((g:Int)*(g:Int)))) w λr s t w=>
∃k',qE Q k' f g i j (g:Int) r s t f g i (g:Int) 0 w)) (ok 58) [] [ck (abQ Q)] Tryz.func227
def qk (Q:Int->L3 (L3 WP))(ZP:Addr->Addr->L3 (Int->Int->WP))(a b:Addr)(c:OA)(d e:Nat)(f g:Int)(w:World):Prop:=cond (decide (g<f)) (aH g d<|wA c λi=>af .i64 (i.add (g.toNat*1)) w λj=>aC (b.add 2) w λl m n=>aH g m<|wA l λo=>St (o.add (g.toNat*1)) (.int .i32 (-1)) w λw=>cond (j !=1099511627776) (aC (b.add 2) w λp q r=>aH g q<|wA p λs=>St (s.add (g.toNat*1)) (.int .i32 (IntKind.wrap .i32 j)) w λw=>ZP a b c d e f (IntKind.wrap .i64 (g+1)) w) (ZP a b c d e f (IntKind.wrap .i64 (g+1)) w)) (af .i64 (b.add 0) w λt=>aC (b.add 1) w λu v x=>aC (b.add 2) w λy z a1=>St (a.add 0) (ae t) w λw=>St (a.add 1) (.slice u v x) w λw=>St (a.add 2) (.slice y z a1) w λw=>af .i64 (a.add 0) w λb1=>aC (a.add 1) w λc1 d1 e1=>aC (a.add 2) w λf1 g1 i1=>Q b1 c1 d1 e1 f1 g1 i1 w)
def kT (Q:Int->L3 (L3 WP)):Nat->Addr->Addr->L3 (Int->Int->WP)
 |0,_,_,_,_,_,_,_,_=>False
 |k+1,a,b,c,d,e,f,g,w=>qk Q (kT Q k) a b c d e f g w
def ri (Q:Int->L3 (L3 WP))(R6:Addr->Int->Int->Addr->Addr->L3 (L3 (Int->Int->WP)))(a:Addr)(b c:Int)(d e:Addr)(f:OA)(g i:Nat)(j:OA)(l m:Nat)(n o:Int)(w:World):Prop:=cond (decide (o<n)) (aH o l<|wA j λp=>af .i64 (p.add (o.toNat*1)) w λq=>mW b c q w λr w=>Bx [ae r] 3 w λs w=>App P #[29,29] 29 (.slice f g i) (.slice (some s) 1 1) w λt u v w=>R6 a b c d e t u v j l m n (IntKind.wrap .i64 (o+1)) w) (af .i64 (d.add 0) w λx=>af .i64 (d.add 1) w λy=>aC (d.add 2) w λz a1 b1=>DW x y z a1 b1 f g i w λc1 d1 e1 f1 w=>cq P 296 (ae (d1:Int)) (ae (d1:Int)) w λg1 i1 j1 w=>St (e.add 2) (.slice g1 i1 j1) w λw=>∃k',kT Q k' a e c1 d1 e1 (d1:Int) 0 w)
def n9 (Q:Int->L3 (L3 WP)):Nat->Addr->Int->Int->Addr->Addr->L3 (L3 (Int->Int->WP))
 |0,_,_,_,_,_,_,_,_,_,_,_,_,_,_=>False
 |k+1,a,b,c,d,e,f,g,i,j,l,m,n,o,w=>ri Q (n9 Q k) a b c d e f g i j l m n o w
def n_ (Q:Int->L3 (L3 WP))(a:Addr)(b c:Int)(d e:Addr)(w:World):Prop:=aC (e.add 1) w λf g i=>∃k',n9 Q k' a b c d e none 0 0 f g i (g:Int) 0 w
noncomputable def u7:cu:=[(3,sp 0 5 (sp 6 5 (.br (.op 5 (.br (.op 11 (.op 12 (.op 13 (.op 14 .done)))) (.op 13 (.op 11 (.op 12 (.op 14 .done)))))) (.op 13 (.op 5 (.op 11 (.op 12 (.op 14 .done))))))))]
def S7 (Q):∀k,Bk 93 Tryz.f200 (wm Q) 13 [(4,.a),(9,.a),(72,.l),(73,.i .i64),(74,.i .i64)] (kT Q k):=bK λk h=>aW (ok 93) u7 [aN h]
def Up (Q):∀k,Bk 93 Tryz.f200 (wm Q) 6 [(4,.a),(5,.i .i64),(6,.i .i64),(7,.a),(9,.a),(10,.l),(48,.l),(49,.i .i64),(50,.i .i64)] (n9 Q k):=bK λk h=>aW (ok 93) u7 [aN h,ck (S7 Q)]
def Uq (Q):Bk 93 Tryz.f200 (wm Q) 4 [(4,.a),(5,.i .i64),(6,.i .i64),(7,.a),(9,.a)] (n_ Q):=aW (ok 93) u7 [ck (Up Q)]
def QG:=λa b w Q=>bB (zv a b w Q) (Al T 319 w λc w=>
wA a λd=>
bg d w λe=>
eG e w λf g w=>
wA a λi=>
bg i w λj=>
tA j b w λl m n o p q w=>
Al T 84 w λr w=>
St (r.add 0) (ae l) w λw=>
St (r.add 1) (ae m) w λw=>
St (r.add 2) (.slice n o p) w λw=>
wA a λs=>
bg s w.drew λt=>
wA a λu=>
bg u w.drew λv=>
(iM t b w.drew λx w=>
w.cell? u=some (.pointer v)/\
(nX v b w λy z a1 w=>
Al T 319 w λb1 w=>
w.cell? u=some (.pointer v)/\
w.cell? s=some (.pointer t)/\
St (b1.add 0) (ae x) w λw=>
St (b1.add 1) (.slice y z a1) w λw=>
St (b1.add 2) (.slice none 0 0) w λw=>
n_ Q c f g r b1 w)/\
(Al T 319 w λc1 w=>
w.cell? u=some (.pointer v)/\
w.cell? s=some (.pointer t)/\
nX v b w λd1 e1 f1 w=>
St (c1.add 0) (ae x) w λw=>
St (c1.add 1) (.slice d1 e1 f1) w λw=>
St (c1.add 2) (.slice none 0 0) w λw=>
n_ Q c f g r c1 w))/\
(Al T 319 w.drew λg1 w=>
w.cell? u=some (.pointer v)/\
w.cell? s=some (.pointer t)/\
iM t b w λi1 w=>
w.cell? u=some (.pointer v)/\
nX v b w λj1 l1 m1 w=>
St (g1.add 0) (ae i1) w λw=>
St (g1.add 1) (.slice j1 l1 m1) w λw=>
St (g1.add 2) (.slice none 0 0) w λw=>
n_ Q c f g r g1 w)) (ok 93) u7 [aN (Uq Q)] Tryz.func200
def oe (Q:Int->WP)(R5:OA->L3 (L3 (Int->Int->WP)))(a b:OA)(c d:Nat)(e:OA)(f g:Nat)(i j:Int)(w:World):Prop:=cond (decide (j<i)) (aH j f<|wA e λl=>af .i64 (l.add (j.toNat*1)) w λm=>wA a λn=>aC (n.add 1) w.drew λo p q=>zv a m w.drew λr s t u v x y w=>w.cell? (n.add 1)=some (.slice o p q)/\(aH m p<|wA o λz=>St ((z.add (m.toNat*3)).add 0) (ae r) w λw=>St ((z.add (m.toNat*3)).add 1) (.slice s t u) w λw=>St ((z.add (m.toNat*3)).add 2) (.slice v x y) w λw=>wA a λa1=>af .u64 (a1.add 3) w λb1=>rF b1 1 w λc1 w=>wA a λd1=>St (d1.add 3) (.int .u64 c1) w λw=>R5 a b c d e f g i (IntKind.wrap .i64 (j+1)) w)) (wA a λe1=>bg e1 w λf1=>fQ f1 w λg1 w=>wA a λi1=>St (i1.add 2) (ae g1) w λw=>Q (c:Int) w)
def lD (Q:Int->WP):Nat->OA->L3 (L3 (Int->Int->WP))
 |0,_,_,_,_,_,_,_,_,_,_=>False
 |k+1,a,b,c,d,e,f,g,i,j,w=>oe Q (lD Q k) a b c d e f g i j w
noncomputable def Dg:cu:=[(7,sp 0 7 (.op 7 (.op 8 (.op 9 .done))))]
def OM (Q):∀k,Bk 44 Tryz.f177 (Ek Q) 5 [(0,.p),(3,.l),(10,.l),(11,.i .i64),(12,.i .i64)] (lD Q k):=bK λk h=>aW (ok 44) Dg [aN h]
def Lv:=λa w Q=>bB (vK a w Q) (cond a.isNone
(Q 0 w)
(ye a w λb c d w=>
∃k',lD Q k' a b c d b c d (c:Int) 0 w)) (ok 44) Dg [ck (OM Q)] Tryz.func177
def jn (Q:L3 WP)(R8:L3 (Int->WP))(a:OA)(b c:Nat)(d:Int)(w:World):Prop:=cond (decide (d<(b:Int))) (bR a b c 1 (some d) none λe f g=>bR a b c 1 none (some d) λi j l=>cA P #[296,296] 3 (.slice e f g) (.slice i j l) w.drew λm w=>R8 a b c (IntKind.wrap .i64 (d+m)) w) (Q a b c w)
def jo (Q:L3 WP):Nat->L3 (Int->WP)
 |0,_,_,_,_,_=>False
 |k+1,a,b,c,d,w=>jn Q (jo Q k) a b c d w
def pS (Q:L3 WP)(a:OA)(b c:Nat)(d:Int)(w:World):Prop:=False
noncomputable def o7:cu:=[(9,sp 0 7 (.op 7 (.op 8 (.op 9 .done))))]
def xy (Q):∀k,Bk 48 Tryz.f201 (pR Q) 8 [(7,.l),(8,.i .i64)] (jo Q k):=bK λk h=>aW (ok 48) o7 [aN h]
def F8 (Q):Bk 48 Tryz.f201 (pR Q) 5 [(0,.l),(6,.i .u64)] (pS Q):=aW (ok 48) o7 [ck (xy Q)]
def EO:=λa b c d w Q=>bB (oL a b c d w Q) (cond (decide (d<0))
(False
)
(qf (IntKind.wrap .u64 (b:Int)) (IntKind.wrap .u64 d) w λe f w=>
cond (decide (e>0))
(pS Q a b c f w)
(cond (decide (f>9223372036854775807))
(pS Q a b c f w)
(cq P 296 (ae (IntKind.wrap .i64 f)) (ae (IntKind.wrap .i64 f)) w λg i j w=>
cA P #[296,296] 3 (.slice g i j) (.slice a b c) w λl w=>
∃k',jo Q k' g i j l w)))) (ok 48) o7 [aN (F8 Q),ck (xy Q)] Tryz.func201
def abR:=λw Q=>bB (B3 w Q) (Bx [.slice none 0 0] 351 w λa w=>
Q (some a) w) (ok 3) [] [] Tryz.func202
def OO:=λa b c d w Q=>bB (rK a b c d w Q) (Bx [ae a,ae b] 353 w λe w=>
Bx [ae c,ae d] 353 w λf w=>
af .i64 e w λg=>
af .i64 f w λi=>
cond (decide (g<i))
(Q true w)
(af .i64 e w λj=>
af .i64 f w λl=>
cond (j==l)
(af .i64 (e.add 1) w λm=>
af .i64 (f.add 1) w λn=>
Q (decide (m<n)) w)
(Q false w))) (ok 24) [] [] Tryz.func256
def uI (Q:WP)(R1:OA->Int->WP)(a:OA)(b:Int)(w:World):Prop:=cond (decide (b>0)) (NZ 2<|wA a λc=>aC c w.drew λd e f=>aH b e<|wA d λg=>af .i64 ((g.add (b.toNat*2)).add 0) w.drew λi=>af .i64 ((g.add (b.toNat*2)).add 1) w.drew λj=>wA a λl=>aC l w.drew λm n o=>aH (IntKind.wrap .i64 (Int.tdiv (IntKind.wrap .i64 (b-1)) 2)) n<|wA m λp=>af .i64 ((p.add (((IntKind.wrap .i64 (Int.tdiv (IntKind.wrap .i64 (b-1)) 2))).toNat*2)).add 0) w.drew λq=>af .i64 ((p.add (((IntKind.wrap .i64 (Int.tdiv (IntKind.wrap .i64 (b-1)) 2))).toNat*2)).add 1) w.drew λr=>rK i j q r w.drew λs w=>cond (!s) (Q w) (wA a λt=>aC t w.drew λu v x=>wA a λy=>aC y w.drew λz a1 b1=>wA a λc1=>aC c1 w.drew λd1 e1 f1=>aH (IntKind.wrap .i64 (Int.tdiv (IntKind.wrap .i64 (b-1)) 2)) e1<|wA d1 λg1=>af .i64 ((g1.add (((IntKind.wrap .i64 (Int.tdiv (IntKind.wrap .i64 (b-1)) 2))).toNat*2)).add 0) w.drew λi1=>af .i64 ((g1.add (((IntKind.wrap .i64 (Int.tdiv (IntKind.wrap .i64 (b-1)) 2))).toNat*2)).add 1) w.drew λj1=>wA a λl1=>aC l1 w.drew λm1 n1 o1=>aH b n1<|wA m1 λp1=>af .i64 ((p1.add (b.toNat*2)).add 0) w.drew λq1=>af .i64 ((p1.add (b.toNat*2)).add 1) w.drew λr1=>aH b v<|wA u λs1=>St ((s1.add (b.toNat*2)).add 0) (ae i1) w.drew λw=>St ((s1.add (b.toNat*2)).add 1) (ae j1) w λw=>aH (IntKind.wrap .i64 (Int.tdiv (IntKind.wrap .i64 (b-1)) 2)) a1<|wA z λt1=>St ((t1.add (((IntKind.wrap .i64 (Int.tdiv (IntKind.wrap .i64 (b-1)) 2))).toNat*2)).add 0) (ae q1) w λw=>St ((t1.add (((IntKind.wrap .i64 (Int.tdiv (IntKind.wrap .i64 (b-1)) 2))).toNat*2)).add 1) (ae r1) w λw=>R1 a (IntKind.wrap .i64 (Int.tdiv (IntKind.wrap .i64 (b-1)) 2)) w)) (Q w)
def qF (Q:WP):Nat->OA->Int->WP
 |0,_,_,_=>False
 |k+1,a,b,w=>uI Q (qF Q k) a b w
noncomputable def IV:cu:=[(3,sp 0 14 (.op 14 (.op 15 .done))),(4,sp 0 25 (.op 25 (.op 26 (.op 27 .done))))]
def Yd (Q):∀k,Bk 58 Tryz.f228 (JW Q) 1 [(0,.p),(2,.i .i64)] (qF Q k):=bK λk h=>aW (ok 58) IV [aN h]
def Ur:=λa w Q=>bB (Bj a w Q) (wA a λb=>
aC b w λc d e=>
∃k',qF Q k' a (IntKind.wrap .i64 ((d:Int)-1)) w) (ok 58) IV [ck (Yd Q)] Tryz.func228
def QH:=λa b c w Q=>bB (mD a b c w Q) (cond a.isNone
(Q w)
(wA a λd=>
aC d w λe f g=>
Bx [ae b,ae c] 353 w λi w=>
App P #[349,349] 349 (.slice e f g) (.slice (some i) 1 1) w λj l m w=>
wA a λn=>
St n (.slice j l m) w λw=>
Bj a w λw=>
Q w)) (ok 22) [] [] Tryz.func206
def S8:=λa w Q=>bB (Am a w Q) (cond a.isNone
(Q 0 w)
(wA a λb=>
aC b w λc d e=>
Q (d:Int) w)) (ok 10) [] [] Tryz.func257
noncomputable def Us:cu:=[(3,sp 0 14 (.op 14 (.op 15 (.op 16 .done))))]
def S9:=λa w Q=>bB (Ak a w Q) (Am a w λb w=>
cond (b==0)
(Q 0 0 false w)
(wA a λc=>
aC c w.drew λd e f=>
aH 0 e<|
wA d λg=>
af .i64 (g.add (((0:Int).toNat)*2)) w.drew λi=>
wA a λj=>
aC j w.drew λl m n=>
aH 0 m<|
wA l λo=>
af .i64 ((o.add (((0:Int).toNat)*2)).add 1) w.drew λp=>
w.drew.cell? ((o.add (((0:Int).toNat)*2)).add 1)=some (ae p)/\
w.drew.cell? j=some (.slice l m n)/\
Q i p true w.drew)) (ok 22) Us [] Tryz.func229
def og (P1:OA->Int->WP)(Q:WP)(a:OA)(b c:Int)(w:World):Prop:=cond (c==b) (Q w) (wA a λd=>aC d w.drew λe f g=>wA a λi=>aC i w.drew λj l m=>wA a λn=>aC n w.drew λo p q=>aH c p<|wA o λr=>af .i64 ((r.add (c.toNat*2)).add 0) w.drew λs=>af .i64 ((r.add (c.toNat*2)).add 1) w.drew λt=>wA a λu=>aC u w.drew λv x y=>aH b x<|wA v λz=>af .i64 ((z.add (b.toNat*2)).add 0) w.drew λa1=>af .i64 ((z.add (b.toNat*2)).add 1) w.drew λb1=>aH b f<|wA e λc1=>St ((c1.add (b.toNat*2)).add 0) (ae s) w.drew λw=>St ((c1.add (b.toNat*2)).add 1) (ae t) w λw=>aH c l<|wA j λd1=>St ((d1.add (c.toNat*2)).add 0) (ae a1) w λw=>St ((d1.add (c.toNat*2)).add 1) (ae b1) w λw=>P1 a c w)
def lT (P1:OA->Int->WP)(Q:WP)(R3:OA->Int->Int->Int->WP)(a:OA)(b c d:Int)(w:World):Prop:=cond (decide (d<=(IntKind.wrap .i64 ((IntKind.wrap .i64 (2*b))+2)))) (wA a λe=>aC e w λf g i=>cond (decide (d<(g:Int))) (wA a λj=>aC j w.drew λl m n=>aH d m<|wA l λo=>af .i64 ((o.add (d.toNat*2)).add 0) w.drew λp=>af .i64 ((o.add (d.toNat*2)).add 1) w.drew λq=>wA a λr=>aC r w.drew λs t u=>aH c t<|wA s λv=>af .i64 ((v.add (c.toNat*2)).add 0) w.drew λx=>af .i64 ((v.add (c.toNat*2)).add 1) w.drew λy=>rK p q x y w.drew λz w=>cond z (R3 a b d (IntKind.wrap .i64 (d+1)) w) (R3 a b c (IntKind.wrap .i64 (d+1)) w)) (og P1 Q a b c w)) (og P1 Q a b c w)
def lU (P1:OA->Int->WP)(Q:WP):Nat->OA->Int->Int->Int->WP
 |0,_,_,_,_,_=>False
 |k+1,a,b,c,d,w=>lT P1 Q (lU P1 Q k) a b c d w
def rj (Q:WP)(R1:OA->Int->WP)(a:OA)(b:Int)(w:World):Prop:=∃k',lU R1 Q k' a b b (IntKind.wrap .i64 ((IntKind.wrap .i64 (2*b))+1)) w
def lV (Q:WP):Nat->OA->Int->WP
 |0,_,_,_=>False
 |k+1,a,b,w=>rj Q (lV Q k) a b w
noncomputable def u9:cu:=[(5,sp 0 14 (.op 14 .done)),(8,sp 0 25 (.op 25 (.op 26 (.op 27 .done))))]
def Ut {P1}(Q)(H1:Bk 71 Tryz.f230 (nZ Q) 1 [(0,.p),(2,.i .i64)] P1):Bk 71 Tryz.f230 (nZ Q) 7 [(0,.p),(2,.i .i64),(3,.i .i64)] (og P1 Q):=aW (ok 71) u9 [aN H1]
def Uu {P1}(Q)(H1:Bk 71 Tryz.f230 (nZ Q) 1 [(0,.p),(2,.i .i64)] P1):∀k,Bk 71 Tryz.f230 (nZ Q) 3 [(0,.p),(2,.i .i64),(3,.i .i64),(4,.i .i64)] (lU P1 Q k):=bK λk h=>aW (ok 71) u9 [aN h,aN (Ut Q H1)]
def Uv (Q):∀k,Bk 71 Tryz.f230 (nZ Q) 1 [(0,.p),(2,.i .i64)] (lV Q k):=bK λk h=>aW (ok 71) u9 [ck (Uu Q h)]
def QI:=λa w Q=>bB (zz a w Q) (∃k',lV Q k' a 0 w) (ok 71) u9 [ck (Uv Q)] Tryz.func230
def sJ (Q:Int->Int->Bool->WP)(a b:Int)(c:Bool)(w:World):Prop:=Q a b c w
noncomputable def HR:cu:=[(4,sp 0 12 (.op 12 .done))]
def WB (Q):Bk 45 Tryz.f207 (CP Q) 7 [(2,.i .i64),(3,.i .i64),(4,.b)] (sJ Q):=aW (ok 45) HR []
def S_:=λa w Q=>bB (jr a w Q) (Ak a w λb c d w=>
cond d
(wA a λe=>
aC e w λf g i=>
wA a λj=>
aC j w.drew λl m n=>
wA a λo=>
aC o w.drew λp q r=>
aH (IntKind.wrap .i64 ((g:Int)-1)) q<|
wA p λs=>
af .i64 ((s.add (((IntKind.wrap .i64 ((g:Int)-1))).toNat*2)).add 0) w.drew λt=>
af .i64 ((s.add (((IntKind.wrap .i64 ((g:Int)-1))).toNat*2)).add 1) w.drew λu=>
aH 0 m<|
wA l λv=>
St ((v.add (((0:Int).toNat)*2)).add 0) (ae t) w.drew λw=>
St ((v.add (((0:Int).toNat)*2)).add 1) (ae u) w λw=>
wA a λx=>
aC x w λy z a1=>
bR y z a1 2 none (some (IntKind.wrap .i64 ((g:Int)-1))) λb1 c1 d1=>
wA a λe1=>
St e1 (.slice b1 c1 d1) w λw=>
zz a w λw=>
sJ Q b c d w)
(sJ Q b c d w)) (ok 45) HR [aN (WB Q)] Tryz.func207
def fS (P8:OA->Int->Int->Int->ON->OA->Int->Int->Bool->WP)(Q:ON->WP)(a:OA)(b c d:Int)(e:ON)(f:OA)(w:World):Prop:=jr f w λg i j w=>P8 a b c d e f g i j w
def lW (P8:OA->Int->Int->Int->ON->OA->Int->Int->Bool->WP)(Q:ON->WP)(W6:OA->Int->Int->Int->ON->OA->Int->Int->Int->WP)(a:OA)(b c d:Int)(e:ON)(f:OA)(g i j:Int)(w:World):Prop:=cond (decide (j<=3)) (nQ c d i j w λl w=>cond (decide (l<0)) (W6 a b c d e f g i (IntKind.wrap .i64 (j+1)) w) (dH c d l w λm w=>dH c d b w λn w=>cond (m !=n) (W6 a b c d e f g i (IntKind.wrap .i64 (j+1)) w) (wA a λo=>bg (o.add 1) w λp=>eU p l w λq w=>cond (q==255) (W6 a b c d e f g i (IntKind.wrap .i64 (j+1)) w) (wA a λr=>bg (r.add 1) w λs=>eU s i w λt w=>mD f (IntKind.wrap .i64 (g+t)) l w λw=>W6 a b c d e f g i (IntKind.wrap .i64 (j+1)) w)))) (fS P8 Q a b c d e f w)
def iv (P8:OA->Int->Int->Int->ON->OA->Int->Int->Bool->WP)(Q:ON->WP):Nat->OA->Int->Int->Int->ON->OA->Int->Int->Int->WP
 |0,_,_,_,_,_,_,_,_,_,_=>False
 |k+1,a,b,c,d,e,f,g,i,j,w=>lW P8 Q (iv P8 Q k) a b c d e f g i j w
def iP (Q:ON->WP)(R8:OA->Int->Int->Int->ON->OA->Int->Int->Bool->WP)(a:OA)(b c d:Int)(e:ON)(f:OA)(g i:Int)(j:Bool)(w:World):Prop:=cond j (aI P (Instr.lookup 207 (.map e) (ae i) true) w λl w=>dT l λm=>c_ m λn o=>dI .i64 n λp=>c_ o λq r=>dB q λs=>j7 r<|cond s (fS R8 Q a b c d e f w) (bw P (Instr.mapUpdate 207 (.map e) (ae i) (ae g)) w λw=>∃k',iv R8 Q k' a b c d e f g i 0 w)) (Q e w)
def gO (Q:ON->WP):Nat->OA->Int->Int->Int->ON->OA->Int->Int->Bool->WP
 |0,_,_,_,_,_,_,_,_,_,_=>False
 |k+1,a,b,c,d,e,f,g,i,j,w=>iP Q (gO Q k) a b c d e f g i j w
def CG {P8}(Q)(H8:Bk 103 Tryz.f203 (jW Q) 8 [(0,.p),(1,.i .i64),(5,.i .i64),(6,.i .i64),(7,.m),(8,.p),(9,.i .i64),(10,.i .i64),(11,.b)] P8):Bk 103 Tryz.f203 (jW Q) 9 [(0,.p),(1,.i .i64),(5,.i .i64),(6,.i .i64),(7,.m),(8,.p)] (fS P8 Q):=aW (ok 103) [] [aN H8]
def J7 {P8}(Q)(H8:Bk 103 Tryz.f203 (jW Q) 8 [(0,.p),(1,.i .i64),(5,.i .i64),(6,.i .i64),(7,.m),(8,.p),(9,.i .i64),(10,.i .i64),(11,.b)] P8):∀k,Bk 103 Tryz.f203 (jW Q) 14 [(0,.p),(1,.i .i64),(5,.i .i64),(6,.i .i64),(7,.m),(8,.p),(9,.i .i64),(10,.i .i64),(14,.i .i64)] (iv P8 Q k):=bK λk h=>aW (ok 103) [] [aN (CG Q H8),aN h]
def Lw (Q):∀k,Bk 103 Tryz.f203 (jW Q) 8 [(0,.p),(1,.i .i64),(5,.i .i64),(6,.i .i64),(7,.m),(8,.p),(9,.i .i64),(10,.i .i64),(11,.b)] (gO Q k):=bK λk h=>aW (ok 103) [] [aN (CG Q h),ck (J7 Q h)]
def Jd:=λa b w Q=>bB (tD a b w Q) (wA a λc=>
bg (c.add 1) w λd=>
eG d w λe f w=>
cm P 207 none w λg w=>
wA a λi=>
bg (i.add 1) w λj=>
eU j b w λl w=>
cond (l==255)
(Q g w)
(B3 w λm w=>
mD m 0 b w λw=>
jr m w λn o p w=>
∃k',gO Q k' a b e f g m n o p w)) (ok 103) [] [ck (Lw Q)] Tryz.func203
def IF:=λa b c w Q=>bB (kF a b c w Q) (cond a.isNone
(Q none 0 0 w)
(Bx [] 3 w λd w=>
App P #[29,29] 29 (.slice (some d) 0 0) (.slice a b c) w λe f g w=>
Q e f g w)) (ok 8) [] [] Tryz.func215
def OQ:=λa b w Q=>bB (yf a b w Q) (cond a.isNone
(Q none 0 0 w)
(cond (decide (b<0))
(Q none 0 0 w)
(wA a λc=>
aC (c.add 1) w λd e f=>
cond (decide (b≥(e:Int)))
(Q none 0 0 w)
(wA a λg=>
aC (g.add 1) w λi j l=>
aH b j<|
wA i λm=>
aC ((m.add (b.toNat*3)).add 1) w λn o p=>
kF n o p w λq r s w=>
Q q r s w)))) (ok 29) [] [] Tryz.func204
def Nd:=λa b c w Q=>bB (nB a b c w Q) (wA a λd=>
aC (d.add 2) w λe f g=>
aH b f<|
wA e λi=>
af .i32 (i.add (b.toNat*1)) w λj=>
cond (decide (c≥(IntKind.wrap .i64 j)))
(Q false w)
(wA a λl=>
aC (l.add 2) w λm n o=>
aH b n<|
wA m λp=>
St (p.add (b.toNat*1)) (.int .i32 (IntKind.wrap .i32 c)) w λw=>
Q true w)) (ok 25) [] [] Tryz.func205
def Uw:=λa b w Q=>bB (HL a b w Q) (qh a w λc w=>
cond c
(qh b w λd w=>
cond (!d)
(Q true w)
(Q (decide (a<b)) w))
(Q (decide (a<b)) w)) (ok 17) [] [] Tryz.func280
def Nf:=λa w Q=>bB (nD a w Q) (Q (a !=a) w) (ok 6) [] [] Tryz.func281
def iI (Q:Int->Bool->WP)(R3:L3 (Int->Int->Int->Int->WP))(a:OA)(b c:Nat)(d e f g:Int)(w:World):Prop:=cond (decide (f<g)) (C4 1<|aH (IntKind.wrap .i64 (oJ .u64 (IntKind.wrap .u64 (IntKind.wrap .i64 (f+g))) 1)) b<|wA a λi=>af .i64 (i.add (((IntKind.wrap .i64 (oJ .u64 (IntKind.wrap .u64 (IntKind.wrap .i64 (f+g))) 1))).toNat*1)) w λj=>HL j d w λl w=>cond l (R3 a b c d e (IntKind.wrap .i64 ((IntKind.wrap .i64 (oJ .u64 (IntKind.wrap .u64 (IntKind.wrap .i64 (f+g))) 1))+1)) g w) (R3 a b c d e f (IntKind.wrap .i64 (oJ .u64 (IntKind.wrap .u64 (IntKind.wrap .i64 (f+g))) 1)) w)) (cond (decide (f<e)) (aH f b<|wA a λm=>af .i64 (m.add (f.toNat*1)) w λn=>cond (n==d) (Q f true w) (aH f b<|wA a λo=>af .i64 (o.add (f.toNat*1)) w λp=>nD p w λq w=>cond q (nD d w λr w=>Q f r w) (Q f false w))) (Q f false w))
def gj (Q:Int->Bool->WP):Nat->L3 (Int->Int->Int->Int->WP)
 |0,_,_,_,_,_,_,_,_=>False
 |k+1,a,b,c,d,e,f,g,w=>iI Q (gj Q k) a b c d e f g w
def EP (Q):∀k,Bk 54 Tryz.f271 (vo Q) 3 [(0,.l),(1,.i .i64),(6,.i .i64),(7,.i .i64),(8,.i .i64)] (gj Q k):=bK λk h=>aW (ok 54) [] [aN h]
def Dh:=λa b c d w Q=>bB (nC a b c d w Q) (∃k',gj Q k' a b c d (b:Int) 0 (b:Int) w) (ok 54) [] [ck (EP Q)] Tryz.func271
def OR:=λa b w Q=>bB (Ep a b w Q) (wA a λc=>
aC (c.add 1) w λd e f=>
nC d e f b w λg i w=>
Q g i w) (ok 14) [] [] Tryz.func258
def QJ:=λa b w Q=>bB (tF a b w Q) (cond a.isNone
(Q none 0 false w)
(wA a λc=>
bg c w λd=>
eG d w λe f w=>
dH e f b w λg w=>
cond (decide (g<0))
(Q none 0 false w)
(wA a λi=>
aC (i.add 1) w λj l m=>
aH g l<|
wA j λn=>
Ep (some (n.add (g.toNat*3))) b w λo p w=>
Q (some (n.add (g.toNat*3))) o p w))) (ok 44) [] [] Tryz.func231
noncomputable def Ng:cu:=[(1,sp 0 15 (.op 15 .done))]
def Lx:=λa b c w Q=>bB (vL a b c w Q) (wA a λd=>
aC (d.add 2) w.drew λe f g=>
wA a λi=>
aC (i.add 1) w.drew λj l m=>
aH (IntKind.wrap .i64 ((IntKind.wrap .i64 (b*(l:Int)))+c)) f<|
wA e λn=>
af .i32 (n.add (((IntKind.wrap .i64 ((IntKind.wrap .i64 (b*(l:Int)))+c))).toNat*1)) w.drew λo=>
cond (o !=(-1))
(Q (IntKind.wrap .i64 o) w.drew)
(Q 1099511627776 w.drew)) (ok 27) Ng [] Tryz.func232
def ql (Q:L3 WP)(W6:OA->Int->OA->L3 (Int->Int->Int->WP))(a:OA)(b:Int)(c d:OA)(e f:Nat)(g i j:Int)(w:World):Prop:=cond (decide (j<=3)) (nQ g i b j w λl w=>tF a l w λm n o w=>cond o (bT P .neq 354 (.tmp 89) (.tmp 90) (.pointer m) (.pointer c) w λp w=>cond p (wA a λq=>bg q w λr=>eU r b w λs w=>Bx [ae l,ae s] 292 w λt w=>App P #[289,289] 289 (.slice d e f) (.slice (some t) 1 1) w λu v x w=>W6 a b c u v x g i (IntKind.wrap .i64 (j+1)) w) (W6 a b c d e f g i (IntKind.wrap .i64 (j+1)) w)) (W6 a b c d e f g i (IntKind.wrap .i64 (j+1)) w)) (Q d e f w)
def kU (Q:L3 WP):Nat->OA->Int->OA->L3 (Int->Int->Int->WP)
 |0,_,_,_,_,_,_,_,_,_,_=>False
 |k+1,a,b,c,d,e,f,g,i,j,w=>ql Q (kU Q k) a b c d e f g i j w
def rm (Q:L3 WP)(R6:OA->Int->OA->Int->L3 (L3 (Int->Int->WP)))(a:OA)(b:Int)(c:OA)(d:Int)(e:OA)(f g:Nat)(i:OA)(j l:Nat)(m n:Int)(w:World):Prop:=cond (decide (n<m)) (aH n j<|wA i λo=>af .i64 (o.add (n.toNat*1)) w λp=>vL c n d w λq w=>cond (n !=d) (cond (q !=1099511627776) (Bx [ae p,ae q] 292 w λr w=>App P #[289,289] 289 (.slice e f g) (.slice (some r) 1 1) w λs t u w=>R6 a b c d s t u i j l m (IntKind.wrap .i64 (n+1)) w) (R6 a b c d e f g i j l m (IntKind.wrap .i64 (n+1)) w)) (R6 a b c d e f g i j l m (IntKind.wrap .i64 (n+1)) w)) (wA a λv=>bg v w λx=>eG x w λy z w=>∃k',kU Q k' a b c e f g y z 0 w)
def lX (Q:L3 WP):Nat->OA->Int->OA->Int->L3 (L3 (Int->Int->WP))
 |0,_,_,_,_,_,_,_,_,_,_,_,_,_=>False
 |k+1,a,b,c,d,e,f,g,i,j,l,m,n,w=>rm Q (lX Q k) a b c d e f g i j l m n w
def Tb (Q):∀k,Bk 105 Tryz.f208 (Bh Q) 14 [(0,.p),(1,.i .i64),(5,.p),(8,.l),(12,.i .i64),(13,.i .i64),(14,.i .i64)] (kU Q k):=bK λk h=>aW (ok 105) [] [aN h]
def Ux (Q):∀k,Bk 105 Tryz.f208 (Bh Q) 6 [(0,.p),(1,.i .i64),(5,.p),(6,.i .i64),(8,.l),(38,.l),(39,.i .i64),(40,.i .i64)] (lX Q k):=bK λk h=>aW (ok 105) [] [aN h,ck (Tb Q)]
def QK:=λa b w Q=>bB (zw a b w Q) (tF a b w λc d e w=>
cond (!e)
(Q none 0 0 w)
(wA c λf=>
aC (f.add 1) w λg i j=>
cq P 289 (ae 0) (ae (IntKind.wrap .i64 ((i:Int)+1))) w λl m n w=>
wA c λo=>
aC (o.add 1) w λp q r=>
∃k',lX Q k' a b c d l m n p q r (q:Int) 0 w)) (ok 105) [] [ck (Ux Q)] Tryz.func208
def gy (sI:OA->Addr->OA->Int->Int->Bool->WP)(Q:OA->WP)(a:OA)(b:Addr)(c:OA)(w:World):Prop:=jr c w λd e f w=>sI a b c d e f w
def lY (sI:OA->Addr->OA->Int->Int->Bool->WP)(Q:OA->WP)(R17:OA->Addr->OA->Int->L3 (Int->Int->WP))(a:OA)(b:Addr)(c:OA)(d:Int)(e:OA)(f g:Nat)(i j:Int)(w:World):Prop:=cond (decide (j<i)) (aH j f<|wA e λl=>af .i64 ((l.add (j.toNat*2)).add 0) w λm=>af .i64 ((l.add (j.toNat*2)).add 1) w λn=>Al T 292 w λo w=>St (o.add 0) (ae m) w λw=>St (o.add 1) (ae n) w λw=>af .i64 o w λp=>af .i64 (o.add 1) w λq=>nB (some b) p (IntKind.wrap .i64 (d+q)) w λr w=>cond r (af .i64 (o.add 1) w λs=>af .i64 o w λt=>mD c (IntKind.wrap .i64 (d+s)) t w λw=>R17 a b c d e f g i (IntKind.wrap .i64 (j+1)) w) (R17 a b c d e f g i (IntKind.wrap .i64 (j+1)) w)) (gy sI Q a b c w)
def jA (sI:OA->Addr->OA->Int->Int->Bool->WP)(Q:OA->WP):Nat->OA->Addr->OA->Int->L3 (Int->Int->WP)
 |0,_,_,_,_,_,_,_,_,_,_=>False
 |k+1,a,b,c,d,e,f,g,i,j,w=>lY sI Q (jA sI Q k) a b c d e f g i j w
def iw (Q:OA->WP)(ZP:OA->Addr->OA->Int->Int->Bool->WP)(a:OA)(b:Addr)(c:OA)(d e:Int)(f:Bool)(w:World):Prop:=cond f (aC (b.add 2) w λg i j=>aH e i<|wA g λl=>af .i32 (l.add (e.toNat*1)) w λm=>cond (decide (d>(IntKind.wrap .i64 m))) (gy ZP Q a b c w) (wA a λn=>bg n w λo=>zw o e w λp q r w=>∃k',jA ZP Q k' a b c d p q r (q:Int) 0 w)) (Q (some b) w)
def iy (Q:OA->WP):Nat->OA->Addr->OA->Int->Int->Bool->WP
 |0,_,_,_,_,_,_,_=>False
 |k+1,a,b,c,d,e,f,w=>iw Q (iy Q k) a b c d e f w
def mS (Q:OA->WP)(R6:OA->Addr->OA->ON->L3 (Int->Int->WP))(a:OA)(b:Addr)(c:OA)(d:ON)(e:OA)(f g:Nat)(i j:Int)(w:World):Prop:=cond (decide (j<i)) (aH j f<|wA e λl=>af .i64 (l.add (j.toNat*1)) w λm=>aI P (Instr.lookup 207 (.map d) (ae m) true) w λn w=>dT n λo=>c_ o λp q=>dI .i64 p λr=>c_ q λs t=>dB s λu=>j7 t<|cond u (nB (some b) m r w λv w=>cond v (mD c r m w λw=>R6 a b c d e f g i (IntKind.wrap .i64 (j+1)) w) (R6 a b c d e f g i (IntKind.wrap .i64 (j+1)) w)) (R6 a b c d e f g i (IntKind.wrap .i64 (j+1)) w)) (jr c w λx y z w=>∃k',iy Q k' a b c x y z w)
def gP (Q:OA->WP):Nat->OA->Addr->OA->ON->L3 (Int->Int->WP)
 |0,_,_,_,_,_,_,_,_,_,_=>False
 |k+1,a,b,c,d,e,f,g,i,j,w=>mS Q (gP Q k) a b c d e f g i j w
noncomputable def lZ:cu:=[(5,sp 0 7 (.op 10 (.op 7 (.op 8 (.op 9 .done)))))]
def Bv {sI}(Q)(H13:Bk 128 Tryz.f178 (iO Q) 13 [(0,.p),(7,.a),(8,.p),(14,.i .i64),(15,.i .i64),(16,.b)] sI):Bk 128 Tryz.f178 (iO Q) 14 [(0,.p),(7,.a),(8,.p)] (gy sI Q):=aW (ok 128) lZ [aN H13]
def J8 {sI}(Q)(H13:Bk 128 Tryz.f178 (iO Q) 13 [(0,.p),(7,.a),(8,.p),(14,.i .i64),(15,.i .i64),(16,.b)] sI):∀k,Bk 128 Tryz.f178 (iO Q) 17 [(0,.p),(7,.a),(8,.p),(14,.i .i64),(104,.l),(105,.i .i64),(106,.i .i64)] (jA sI Q k):=bK λk h=>aW (ok 128) lZ [aN (Bv Q H13),aN h]
def J9 (Q):∀k,Bk 128 Tryz.f178 (iO Q) 13 [(0,.p),(7,.a),(8,.p),(14,.i .i64),(15,.i .i64),(16,.b)] (iy Q k):=bK λk h=>aW (ok 128) lZ [aN (Bv Q h),ck (J8 Q h)]
def Ly (Q):∀k,Bk 128 Tryz.f178 (iO Q) 6 [(0,.p),(7,.a),(8,.p),(9,.m),(52,.l),(53,.i .i64),(54,.i .i64)] (gP Q k):=bK λk h=>aW (ok 128) lZ [aN h,ck (J9 Q)]
def Je:=λa b w Q=>bB (tB a b w Q) (wA a λc=>
bg (c.add 1) w λd=>
eG d w λe f w=>
wA a λg=>
bg (g.add 1) w λi=>
fQ i w λj w=>
Bx [.int .i32 2147483647] 21 w λl w=>
oL (some l) 1 1 (IntKind.wrap .i64 (e*f)) w λm n o w=>
Bx [ae b,ae j,.slice m n o] 298 w λp w=>
B3 w λq w=>
tD a b w λr w=>
wA a λs=>
bg s w.drew λt=>
dH e f b w.drew λu w=>
w.cell? s=some (.pointer t)/\
yf t u w λv x y w=>
∃k',gP Q k' a p q r v x y (x:Int) 0 w) (ok 128) lZ [ck (Ly Q)] Tryz.func178
def oh (Q:OA->WP)(a:OA)(w:World):Prop:=wA a λb=>bg (b.add 2) w λc=>Q c w
def lE (Q:OA->WP)(a:OA)(b:Int)(w:World):Prop:=tB a b w λc w=>wA a λd=>St (d.add 2) (.pointer c) w λw=>wA a λe=>af .u64 (e.add 3) w λf=>rF f 1 w λg w=>wA a λi=>St (i.add 3) (.int .u64 g) w λw=>oh Q a w
noncomputable def xm:cu:=[(4,sp 0 28 (.op 28 (sp 29 2 .done)))]
def Eu (Q):Bk 70 Tryz.f163 (yc Q) 7 [(0,.p)] (oh Q):=aW (ok 70) xm []
def OS (Q):Bk 70 Tryz.f163 (yc Q) 5 [(0,.p),(1,.i .i64)] (lE Q):=aW (ok 70) xm [aN (Eu Q)]
def Lz:=λa b w Q=>bB (vH a b w Q) (cond a.isNone
(Q none w)
(wA a λc=>
bg (c.add 1) w λd=>
eU d b w λe w=>
cond (e==0)
(Q none w)
(wA a λf=>
bg f w λg=>
vK g w λi w=>
wA a λj=>
bg (j.add 2) w.drew λl=>
cond l.isNone
(lE Q a b w.drew)
(wA a λm=>
bg (m.add 2) w.drew λn=>
wA n λo=>
af .i64 o w.drew λp=>
cond (p !=b)
(lE Q a b w.drew)
(wA a λq=>
bg (q.add 2) w.drew λr=>
wA r λs=>
af .i64 (s.add 1) w.drew λt=>
wA a λu=>
bg (u.add 1) w.drew λv=>
fQ v w.drew λx w=>
w.cell? (s.add 1)=some (ae t)/\
w.cell? (q.add 2)=some (.pointer r)/\
cond (t !=x)
(lE Q a b w)
(oh Q a w)))))) (ok 70) xm [aN (OS Q),aN (Eu Q)] Tryz.func163
def rq (Q:WP)(a:OA)(b:Addr)(w:World):Prop:=af .i64 (b.add 3) w λc=>cond (c==(-1)) (af .i64 (b.add 2) w λd=>wA a λe=>St (e.add 4) (ae d) w λw=>Q w) (wA a λf=>aC (f.add 1) w.drew λg i j=>af .i64 (b.add 3) w.drew λl=>af .i64 (b.add 2) w.drew λm=>aH l i<|wA g λn=>St ((n.add (l.toNat*4)).add 2) (ae m) w.drew λw=>Q w)
noncomputable def Gi:cu:=[(3,sp 0 10 (.op 10 .done)),(6,sp 0 10 (.op 10 .done))]
def Uy (Q):Bk 48 Tryz.f212 (HK Q) 4 [(0,.p),(4,.a)] (rq Q):=aW (ok 48) Gi []
def QL:=λa b w Q=>bB (tE a b w Q) (wA a λc=>
aC (c.add 1) w λd e f=>
aH b e<|
wA d λg=>
af .i64 ((g.add (b.toNat*4)).add 0) w λi=>
af .i64 ((g.add (b.toNat*4)).add 1) w λj=>
af .i64 ((g.add (b.toNat*4)).add 2) w λl=>
af .i64 ((g.add (b.toNat*4)).add 3) w λm=>
Al T 334 w λn w=>
St (n.add 0) (ae i) w λw=>
St (n.add 1) (ae j) w λw=>
St (n.add 2) (ae l) w λw=>
St (n.add 3) (ae m) w λw=>
af .i64 (n.add 2) w λo=>
cond (o==(-1))
(af .i64 (n.add 3) w λp=>
wA a λq=>
St (q.add 3) (ae p) w λw=>
rq Q a n w)
(wA a λr=>
aC (r.add 1) w.drew λs t u=>
af .i64 (n.add 2) w.drew λv=>
af .i64 (n.add 3) w.drew λx=>
aH v t<|
wA s λy=>
St ((y.add (v.toNat*4)).add 3) (ae x) w.drew λw=>
rq Q a n w)) (ok 48) Gi [aN (Uy Q)] Tryz.func212
def uJ (Q:WP)(a:OA)(b:Int)(w:World):Prop:=wA a λc=>St (c.add 3) (ae b) w λw=>Q w
noncomputable def IW:cu:=[(0,sp 0 16 (.op 16 (sp 17 2 (.op 19 .done)))),(3,sp 0 11 (.op 11 .done))]
def Ye (Q):Bk 46 Tryz.f213 (JT Q) 4 [(0,.p),(1,.i .i64)] (uJ Q):=aW (ok 46) IW []
def Uz:=λa b w Q=>bB (wo a b w Q) (wA a λc=>
aC (c.add 1) w.drew λd e f=>
wA a λg=>
aC (g.add 1) w.drew λi j l=>
wA a λm=>
af .i64 (m.add 3) w.drew λn=>
aH b e<|
wA d λo=>
St ((o.add (b.toNat*4)).add 2) (ae (-1)) w.drew λw=>
aH b j<|
wA i λp=>
St ((p.add (b.toNat*4)).add 3) (ae n) w λw=>
wA a λq=>
af .i64 (q.add 3) w λr=>
cond (r==(-1))
(wA a λs=>
St (s.add 4) (ae b) w λw=>
uJ Q a b w)
(wA a λt=>
aC (t.add 1) w.drew λu v x=>
wA a λy=>
af .i64 (y.add 3) w.drew λz=>
aH z v<|
wA u λa1=>
St ((a1.add (z.toNat*4)).add 2) (ae b) w.drew λw=>
uJ Q a b w)) (ok 46) IW [aN (Ye Q)] Tryz.func213
def l6 (Q:Int->Bool->Bool->WP)(a:OA)(b:Int)(c d:Bool)(e:Addr)(w:World):Prop:=wA a λf=>cf (f.add 2) w.drew λg=>af .i64 (e.add 0) w.drew λi=>af .i64 (e.add 1) w.drew λj=>bw P (Instr.mapUpdate 180 (.map g) (.agg #[ae i,ae j]) (ae b)) w.drew λw=>wo a b w λw=>Q b c d w
noncomputable def J_:cu:=[(4,sp 0 5 (.op 5 (sp 6 3 (.op 9 (.op 10 .done))))),(7,sp 0 12 (.op 12 .done)),(8,sp 0 8 (.op 8 .done)),(11,sp 0 10 (.op 10 .done)),(13,sp 0 7 (.op 7 (.op 8 (sp 9 2 (.op 11 .done))))),(14,sp 0 6 (.op 6 .done))]
def Yf (Q):Bk 95 Tryz.f180 (LX Q) 14 [(0,.p),(6,.i .i64),(7,.b),(8,.b),(9,.a)] (l6 Q):=aW (ok 95) J_ []
def WC:=λa b c w Q=>bB (CL a b c w Q) (cond a.isNone
(Q (-1) false false w)
(Al T 253 w λd w=>
St (d.add 0) (ae b) w λw=>
St (d.add 1) (ae c) w λw=>
wA a λe=>
cf (e.add 2) w.drew λf=>
af .i64 (d.add 0) w.drew λg=>
af .i64 (d.add 1) w.drew λi=>
aI P (Instr.lookup 180 (.map f) (.agg #[ae g,ae i]) true) w.drew λj w=>
dT j λl=>
c_ l λm n=>
dI .i64 m λo=>
c_ n λp q=>
dB p λr=>
j7 q<|
cond r
(tE a o w λw=>
l6 Q a o r false d w)
(wA a λs=>
aC (s.add 1) w.drew λt u v=>
wA a λx=>
af .i64 x w.drew λy=>
cond (decide ((u:Int)<y))
(wA a λz=>
aC (z.add 1) w.drew λa1 b1 c1=>
wA a λd1=>
aC (d1.add 1) w.drew.drew λe1 f1 g1=>
af .i64 (d.add 0) w.drew.drew λi1=>
af .i64 (d.add 1) w.drew.drew λj1=>
Bx [ae i1,ae j1,ae 0,ae 0] 334 w.drew.drew λl1 w=>
w.cell? (d1.add 1)=some (.slice e1 f1 g1)/\
App P #[179,179] 179 (.slice e1 f1 g1) (.slice (some l1) 1 1) w λm1 n1 o1 w=>
wA a λp1=>
St (p1.add 1) (.slice m1 n1 o1) w λw=>
l6 Q a (b1:Int) r false d w)
(wA a λq1=>
af .i64 (q1.add 4) w.drew λr1=>
tE a r1 w.drew λw=>
wA a λs1=>
cf (s1.add 2) w.drew λt1=>
wA a λu1=>
aC (u1.add 1) w.drew λv1 x1 y1=>
aH r1 x1<|
wA v1 λz1=>
af .i64 ((z1.add (r1.toNat*4)).add 0) w.drew λa2=>
af .i64 ((z1.add (r1.toNat*4)).add 1) w.drew λb2=>
aI P (Builtin.delete_ #[180,253] 0 [.map t1,.agg #[ae a2,ae b2]].toArray) w.drew λc2 w=>
wA a λd2=>
aC (d2.add 1) w.drew λe2 f2 g2=>
af .i64 (d.add 0) w.drew λi2=>
af .i64 (d.add 1) w.drew λj2=>
aH r1 f2<|
wA e2 λl2=>
St ((l2.add (r1.toNat*4)).add 0) (ae i2) w.drew λw=>
St ((l2.add (r1.toNat*4)).add 1) (ae j2) w λw=>
l6 Q a r1 r true d w)))) (ok 95) J_ [aN (Yf Q)] Tryz.func180
def gV (Q:Bool->WP)(R4:L3 (L3 (Int->Int->WP)))(a:OA)(b c:Nat)(d:OA)(e f:Nat)(g i:Int)(w:World):Prop:=cond (decide (i<g)) (aH i b<|wA a λj=>af .i64 ((j.add (i.toNat*3)).add 0) w.drew λl=>af .i64 ((j.add (i.toNat*3)).add 1) w.drew λm=>af .i64 ((j.add (i.toNat*3)).add 2) w.drew λn=>aH i e<|wA d λo=>af .i64 ((o.add (i.toNat*3)).add 0) w.drew λp=>af .i64 ((o.add (i.toNat*3)).add 1) w.drew λq=>af .i64 ((o.add (i.toNat*3)).add 2) w.drew λr=>bT P .neq 294 (.tmp 19) (.tmp 23) (.agg #[ae l,ae m,ae n]) (.agg #[ae p,ae q,ae r]) w.drew λs w=>cond s (Q false w) (R4 a b c d e f g (IntKind.wrap .i64 (i+1)) w)) (Q true w)
def fK (Q:Bool->WP):Nat->L3 (L3 (Int->Int->WP))
 |0,_,_,_,_,_,_,_,_,_=>False
 |k+1,a,b,c,d,e,f,g,i,w=>gV Q (fK Q k) a b c d e f g i w
noncomputable def rN:cu:=[(6,sp 0 8 (.op 8 .done))]
def CV (Q):∀k,Bk 26 Tryz.f214 (sC Q) 4 [(0,.l),(1,.l),(12,.i .i64),(13,.i .i64)] (fK Q k):=bK λk h=>aW (ok 26) rN [aN h]
def Bw:=λa b c d e f w Q=>bB (q9 a b c d e f w Q) (cond ((b:Int) !=(e:Int))
(Q false w)
(∃k',fK Q k' a b c d e f (b:Int) 0 w)) (ok 26) rN [ck (CV Q)] Tryz.func214
def Yg:=λa b c d e f w Q=>bB (DS a b c d e f w Q) (q9 a b c d e f w λg w=>
Q g w) (ok 8) [] [] Tryz.func181
def ZU:=λa w Q=>bB (rJ a w Q) (wA a λb=>
af .u64 b w λc=>
rF c 1 w λd w=>
wA a λe=>
St e (.int .u64 d) w λw=>
Q w) (ok 8) [] [] Tryz.func182
noncomputable def abS:cu:=[(1,sp 0 2 (sp 3 2 (.op 2 (.op 5 (.op 6 (.op 7 .done))))))]
def ZV:=λa b c d e f w Q=>bB (AF a b c d e f w Q) (Bx [.slice a b c,.slice d e f] 213 w λg w=>
Al T 213 w λi w=>
aC g w.drew λj l m=>
aC (g.add 1) w.drew λn o p=>
kF j l m w.drew λq r s w=>
w.cell? (g.add 1)=some (.slice n o p)/\
kF n o p w λt u v w=>
St (i.add 0) (.slice q r s) w λw=>
St (i.add 1) (.slice t u v) w λw=>
aC (i.add 0) w λx y z=>
aC (i.add 1) w λa1 b1 c1=>
Q x y z a1 b1 c1 w) (ok 10) abS [] Tryz.func183
def Ci (P3:Int->Int->Int->Bool->L3 (Int->Int->WP))(Q:Int->WP)(a b:Int)(c:Addr)(d:OA)(e f:Nat)(g i:Int)(w:World):Prop:=af .i64 (c.add 2) w λj=>P3 a b j true d e f g (IntKind.wrap .i64 (i+1)) w
def yC (Q:Int->WP)(R3:Int->Int->Int->Bool->L3 (Int->Int->WP))(a b c:Int)(d:Bool)(e:OA)(f g:Nat)(i j:Int)(w:World):Prop:=cond (decide (j<i)) (aH j f<|wA e λl=>af .i64 ((l.add (j.toNat*3)).add 0) w λm=>af .i64 ((l.add (j.toNat*3)).add 1) w λn=>af .i64 ((l.add (j.toNat*3)).add 2) w λo=>Al T 294 w λp w=>St (p.add 0) (ae m) w λw=>St (p.add 1) (ae n) w λw=>St (p.add 2) (ae o) w λw=>af .i64 p w λq=>cond (q==a) (af .i64 (p.add 1) w λr=>cond (r==b) (cond (!d) (Ci R3 Q a b p e f g i j w) (af .i64 (p.add 2) w λs=>cond (decide (s<c)) (Ci R3 Q a b p e f g i j w) (R3 a b c d e f g i (IntKind.wrap .i64 (j+1)) w))) (R3 a b c d e f g i (IntKind.wrap .i64 (j+1)) w)) (R3 a b c d e f g i (IntKind.wrap .i64 (j+1)) w)) (Q c w)
def om (Q:Int->WP):Nat->Int->Int->Int->Bool->L3 (Int->Int->WP)
 |0,_,_,_,_,_,_,_,_,_,_=>False
 |k+1,a,b,c,d,e,f,g,i,j,w=>yC Q (om Q k) a b c d e f g i j w
def abT {P3}(Q)(H3:Bk 41 Tryz.f237 (B6 Q) 3 [(1,.i .i64),(2,.i .i64),(7,.i .i64),(8,.b),(11,.l),(12,.i .i64),(13,.i .i64)] P3):Bk 41 Tryz.f237 (B6 Q) 6 [(1,.i .i64),(2,.i .i64),(10,.a),(11,.l),(12,.i .i64),(13,.i .i64)] (Ci P3 Q):=aW (ok 41) [] [aN H3]
def abU (Q):∀k,Bk 41 Tryz.f237 (B6 Q) 3 [(1,.i .i64),(2,.i .i64),(7,.i .i64),(8,.b),(11,.l),(12,.i .i64),(13,.i .i64)] (om Q k):=bK λk h=>aW (ok 41) [] [aN h,aN (abT Q h)]
def Yh:=λa b c d e w Q=>bB (zA a b c d e w Q) (∃k',om Q k' d e 1099511627776 false a b c (b:Int) 0 w) (ok 41) [] [ck (abU Q)] Tryz.func237
def qm (Q:Int->WP)(a b c:Int)(w:World):Prop:=cond (b==3) (cond (decide (c>0)) (Q (IntKind.wrap .i64 (a-1)) w) (Q (-1) w)) (Q (-1) w)
def qo (Q:Int->WP)(a:OA)(b c d e:Int)(w:World):Prop:=cond (c==2) (wA a λf=>af .i64 (f.add 1) w λg=>cond (decide (e<(IntKind.wrap .i64 (g-1)))) (wA a λi=>af .i64 i w λj=>Q (IntKind.wrap .i64 (b+j)) w) (qm Q b c d w)) (qm Q b c d w)
def qp (Q:Int->WP)(a:OA)(b c d e:Int)(w:World):Prop:=cond (c==1) (wA a λf=>af .i64 f w λg=>cond (decide (d<(IntKind.wrap .i64 (g-1)))) (Q (IntKind.wrap .i64 (b+1)) w) (qo Q a b c d e w)) (qo Q a b c d e w)
noncomputable def tN:cu:=[(1,sp 0 14 (.op 14 (.op 15 .done)))]
def Tc (Q):Bk 81 Tryz.f277 (uY Q) 8 [(1,.i .i64),(2,.i .i64),(7,.i .i64)] (qm Q):=aW (ok 81) tN []
def Td (Q):Bk 81 Tryz.f277 (uY Q) 6 [(0,.p),(1,.i .i64),(2,.i .i64),(7,.i .i64),(8,.i .i64)] (qo Q):=aW (ok 81) tN [aN (Tc Q)]
def Te (Q):Bk 81 Tryz.f277 (uY Q) 4 [(0,.p),(1,.i .i64),(2,.i .i64),(7,.i .i64),(8,.i .i64)] (qp Q):=aW (ok 81) tN [aN (Td Q)]
def OT:=λa b c w Q=>bB (yj a b c w Q) (wA a λd=>
af .i64 d w.drew λe=>
NZ e<|
wA a λf=>
af .i64 f w.drew λg=>
NZ g<|
w.drew.cell? f=some (ae g)/\
cond (c==0)
(cond (decide ((IntKind.wrap .i64 (Int.tdiv b g))>0))
(wA a λi=>
af .i64 i w.drew λj=>
Q (IntKind.wrap .i64 (b-j)) w.drew)
(qp Q a b c (Int.tmod b e) (IntKind.wrap .i64 (Int.tdiv b g)) w.drew))
(qp Q a b c (Int.tmod b e) (IntKind.wrap .i64 (Int.tdiv b g)) w.drew)) (ok 81) tN [aN (Te Q)] Tryz.func277
noncomputable def UA:cu:=[(3,sp 0 6 (sp 7 7 (.op 6 (.op 14 (.op 15 .done))))),(4,sp 0 36 (.op 36 .done))]
def Tf:=λa b c w Q=>bB (ni a b c w Q) (yj a b c w λd w=>
cond (decide (d<0))
(wA a λe=>
aC (e.add 3) w.drew λf g i=>
wA a λj=>
aC (j.add 4) w.drew λl m n=>
aH b m<|
wA l λo=>
af .i64 (o.add (b.toNat*1)) w.drew λp=>
zA f g i b c w.drew λq w=>
w.cell? (o.add (b.toNat*1))=some (ae p)/\
w.cell? (j.add 4)=some (.slice l m n)/\
Q (q==p) w)
(wA a λr=>
aC (r.add 2) w.drew λs t u=>
aH d t<|
wA s λv=>
af .u8 (v.add (d.toNat*1)) w.drew λx=>
cond (x !=255)
(wA a λy=>
aC (y.add 2) w.drew λz a1 b1=>
aH d a1<|
wA z λc1=>
af .u8 (c1.add (d.toNat*1)) w.drew λd1=>
wA a λe1=>
aC (e1.add 4) w.drew λf1 g1 i1=>
aH d g1<|
wA f1 λj1=>
af .i64 (j1.add (d.toNat*1)) w.drew λl1=>
wA a λm1=>
aC (m1.add 4) w.drew λn1 o1 p1=>
aH b o1<|
wA n1 λq1=>
af .i64 (q1.add (b.toNat*1)) w.drew λr1=>
Q ((IntKind.wrap .i64 ((IntKind.wrap .i64 d1)+l1))==r1) w.drew)
(Q false w.drew))) (ok 65) UA [] Tryz.func263
def rO (Q:Int->WP)(a:OA)(b:Int)(w:World):Prop:=ni a b 3 w λc w=>cond c (Q 3 w) (Q 5 w)
def rP (Q:Int->WP)(a:OA)(b:Int)(w:World):Prop:=ni a b 2 w λc w=>cond c (Q 2 w) (rO Q a b w)
def tO (Q:Int->WP)(a:OA)(b:Int)(w:World):Prop:=ni a b 1 w λc w=>cond c (Q 1 w) (rP Q a b w)
def Ev (Q):Bk 28 Tryz.f238 (tH Q) 12 [(0,.p),(1,.i .i64)] (rO Q):=aW (ok 28) [] []
def Ew (Q):Bk 28 Tryz.f238 (tH Q) 10 [(0,.p),(1,.i .i64)] (rP Q):=aW (ok 28) [] [aN (Ev Q)]
def QM (Q):Bk 28 Tryz.f238 (tH Q) 8 [(0,.p),(1,.i .i64)] (tO Q):=aW (ok 28) [] [aN (Ew Q)]
def Nh:=λa b c w Q=>bB (C9 a b c w Q) (cond (c==0)
(ni a b 0 w λd w=>
cond d
(Q 0 w)
(tO Q a b w))
(cond (c==1)
(tO Q a b w)
(cond (c==2)
(rP Q a b w)
(cond (c==3)
(rO Q a b w)
(Q 5 w))))) (ok 28) [] [aN (QM Q),aN (Ew Q),aN (Ev Q)] Tryz.func238
def QN:=λa b w Q=>bB (zx a b w Q) (wA a λc=>
aC (c.add 4) w λd e f=>
aH b e<|
wA d λg=>
af .i64 (g.add (b.toNat*1)) w λi=>
cond (i==1099511627776)
(Q 5 w)
(wA a λj=>
aC (j.add 3) w λl m n=>
zA l m n b 4 w λo w=>
cond (i==o)
(Q 4 w)
(C9 a b 0 w λp w=>
Q p w))) (ok 25) [] [] Tryz.func217
def wD (Q:L3 (L3 (Int->WP)))(R7:Addr->Addr->Addr->Int->Int->WP)(a b c:Addr)(d e:Int)(w:World):Prop:=cond (decide (e<d)) (aC (c.add 1) w.drew λf g i=>zx (some b) e w.drew λj w=>w.cell? (c.add 1)=some (.slice f g i)/\Bx [ae j] 3 w λl w=>w.cell? (c.add 1)=some (.slice f g i)/\App P #[29,29] 29 (.slice f g i) (.slice (some l) 1 1) w λm n o w=>St (c.add 1) (.slice m n o) w λw=>R7 a b c d (IntKind.wrap .i64 (e+1)) w) (aC (c.add 0) w λp q r=>aC (c.add 1) w λs t u=>St (a.add 0) (.slice p q r) w λw=>St (a.add 1) (.slice s t u) w λw=>aC (a.add 0) w λv x y=>aC (a.add 1) w λz a1 b1=>Q v x y z a1 b1 0 w)
def rQ (Q:L3 (L3 (Int->WP))):Nat->Addr->Addr->Addr->Int->Int->WP
 |0,_,_,_,_,_,_=>False
 |k+1,a,b,c,d,e,w=>wD Q (rQ Q k) a b c d e w
noncomputable def Ka:cu:=[(9,sp 0 4 (.op 4 (.op 5 (.op 6 (.op 7 (.op 8 .done))))))]
def ZW (Q):∀k,Bk 43 Tryz.f184 (LY Q) 7 [(4,.a),(8,.a),(9,.a),(29,.i .i64),(30,.i .i64)] (rQ Q k):=bK λk h=>aW (ok 43) Ka [aN h]
def WD:=λa b c d e f g i w Q=>bB (CM a b c d e f g i w Q) (Bx [ae a,ae b,.slice c d e] 84 w λj w=>
Al T 213 w λl w=>
af .i64 (j.add 0) w λm=>
af .i64 (j.add 1) w λn=>
aC (j.add 2) w λo p q=>
wq m n o p q f g i w λr s t u w=>
cond (u !=0)
(St (l.add 0) (.slice none 0 0) w λw=>
St (l.add 1) (.slice none 0 0) w λw=>
aC (l.add 0) w λv x y=>
aC (l.add 1) w λz a1 b1=>
Q v x y z a1 b1 u w)
(af .i64 (j.add 0) w λc1=>
af .i64 (j.add 1) w λd1=>
aC (j.add 2) w λe1 f1 g1=>
Bx [ae c1,ae d1,.slice e1 f1 g1,.slice f g i,.slice r s t] 340 w λi1 w=>
Al T 213 w λj1 w=>
St (j1.add 0) (.slice r s t) w λw=>
St (j1.add 1) (.slice none 0 0) w λw=>
∃k',rQ Q k' l i1 j1 (s:Int) 0 w)) (ok 43) Ka [ck (ZW Q)] Tryz.func184
def Au (Q:L3 (L3 (Int->WP)))(a:Addr)(w:World):Prop:=St (a.add 0) (.slice none 0 0) w λw=>St (a.add 1) (.slice none 0 0) w λw=>aC (a.add 0) w λb c d=>aC (a.add 1) w λe f g=>Q b c d e f g 1 w
def mK (Q:L3 (L3 (Int->WP)))(a:OA)(b:Int)(c:OA)(d e:Nat)(f g i:Addr)(w:World):Prop:=wA a λj=>rJ (some ((j.add 2).add 2)) w λw=>af .i64 (f.add 0) w λl=>af .i64 (f.add 1) w λm=>aC (f.add 2) w λn o p=>CM l m n o p c d e w λq r s t u v x w=>Al T 213 w λy w=>St (y.add 0) (.slice q r s) w λw=>St (y.add 1) (.slice t u v) w λw=>aC (y.add 0) w.drew λz a1 b1=>aC (y.add 1) w.drew λc1 d1 e1=>iZ c d e w.drew λf1 g1 i1 w=>w.cell? (y.add 0)=some (.slice z a1 b1)/\w.cell? (y.add 1)=some (.slice c1 d1 e1)/\St (i.add 0) (ae b) w λw=>St (i.add 1) (.slice f1 g1 i1) w λw=>St (i.add 2) (.slice z a1 b1) w λw=>St (i.add 3) (.slice c1 d1 e1) w λw=>aC (y.add 0) w λj1 l1 m1=>aC (y.add 1) w λn1 o1 p1=>AF j1 l1 m1 n1 o1 p1 w λq1 r1 s1 t1 u1 v1 w=>St (g.add 0) (.slice q1 r1 s1) w λw=>St (g.add 1) (.slice t1 u1 v1) w λw=>aC (g.add 0) w λx1 y1 z1=>aC (g.add 1) w λa2 b2 c2=>Q x1 y1 z1 a2 b2 c2 0 w
def o8 (Q:L3 (L3 (Int->WP)))(a:OA)(b:Int)(c:OA)(d e:Nat)(f g:Addr)(i:Bool)(j:Addr)(w:World):Prop:=cond i (wA a λl=>rJ (some ((l.add 2).add 5)) w λw=>mK Q a b c d e f g j w) (mK Q a b c d e f g j w)
def jc (Q:L3 (L3 (Int->WP)))(a:OA)(b:Int)(c:OA)(d e:Nat)(f g:Addr)(i j:Bool)(l:Addr)(w:World):Prop:=cond i (wA a λm=>rJ (some ((m.add 2).add 4)) w λw=>o8 Q a b c d e f g j l w) (o8 Q a b c d e f g j l w)
def nk (Q:L3 (L3 (Int->WP)))(a:OA)(b:Int)(c:OA)(d e:Nat)(f g:Addr)(i:Int)(j l:Bool)(w:World):Prop:=wA a λm=>aC (m.add 1) w λn o p=>aH i o<|wA n λq=>cond j (af .i64 (q.add (i.toNat*4)) w λr=>cond (r==b) (aC ((q.add (i.toNat*4)).add 1) w λs t u=>DS s t u c d e w λv w=>cond v (wA a λx=>rJ (some ((x.add 2).add 3)) w λw=>aC (((q.add (i.toNat*4)).add 2).add 0) w λy z a1=>aC (((q.add (i.toNat*4)).add 2).add 1) w λb1 c1 d1=>AF y z a1 b1 c1 d1 w λe1 f1 g1 i1 j1 l1 w=>St (g.add 0) (.slice e1 f1 g1) w λw=>St (g.add 1) (.slice i1 j1 l1) w λw=>aC (g.add 0) w λm1 n1 o1=>aC (g.add 1) w λp1 q1 r1=>Q m1 n1 o1 p1 q1 r1 0 w) (jc Q a b c d e f g j l (q.add (i.toNat*4)) w)) (jc Q a b c d e f g j l (q.add (i.toNat*4)) w)) (jc Q a b c d e f g j l (q.add (i.toNat*4)) w)
noncomputable def mL:cu:=[(16,sp 0 3 (.op 4 (.op 3 (sp 5 2 (.op 7 .done)))))]
def Tg (Q):Bk 122 Tryz.f164 (nh Q) 2 [(12,.a)] (Au Q):=aW (ok 122) mL []
def QO (Q):Bk 122 Tryz.f164 (nh Q) 14 [(0,.p),(3,.i .i64),(5,.l),(10,.a),(12,.a),(17,.a)] (mK Q):=aW (ok 122) mL []
def QS (Q):Bk 122 Tryz.f164 (nh Q) 12 [(0,.p),(3,.i .i64),(5,.l),(10,.a),(12,.a),(16,.b),(17,.a)] (o8 Q):=aW (ok 122) mL [aN (QO Q)]
def QT (Q):Bk 122 Tryz.f164 (nh Q) 10 [(0,.p),(3,.i .i64),(5,.l),(10,.a),(12,.a),(15,.b),(16,.b),(17,.a)] (jc Q):=aW (ok 122) mL [aN (QS Q)]
def Th (Q):Bk 122 Tryz.f164 (nh Q) 6 [(0,.p),(3,.i .i64),(5,.l),(10,.a),(12,.a),(14,.i .i64),(15,.b),(16,.b)] (nk Q):=aW (ok 122) mL [aN (QT Q)]
def OU:=λa b c d e f g i j l m n w Q=>bB (nW a b c d e f g i j l m n w Q) (Bx [ae e,ae f,.slice g i j] 84 w λo w=>
Al T 213 w λp w=>
cond a.isNone
(Au Q p w)
(af .i64 (o.add 0) w λq=>
af .i64 (o.add 1) w λr=>
aC (o.add 2) w λs t u=>
AE q r s t u l m n w λv w=>
cond (!v)
(Au Q p w)
(wA a λx=>
bg x w λy=>
CL y b c w λz a1 b1 w=>
wA a λc1=>
aC (c1.add 1) w λd1 e1 f1=>
cond (z==(e1:Int))
(wA a λg1=>
aC (g1.add 1) w λi1 j1 l1=>
Bx [ae 0,.slice none 0 0,.slice none 0 0,.slice none 0 0] 303 w λm1 w=>
App P #[133,133] 133 (.slice i1 j1 l1) (.slice (some m1) 1 1) w λn1 o1 p1 w=>
wA a λq1=>
St (q1.add 1) (.slice n1 o1 p1) w λw=>
nk Q a d l m n o p z a1 b1 w)
(nk Q a d l m n o p z a1 b1 w)))) (ok 122) mL [aN (Tg Q),aN (Th Q)] Tryz.func164
def xN (Q:L3 (L3 (Value->WP)))(a:Int)(b:Addr)(w:World):Prop:=bX (aZ 2) w.drew λc=>dV c λd=>(Bx [ae a,d] 275 w.drew λe w=>St (b.add 0) (.slice none 0 0) w λw=>St (b.add 1) (.slice none 0 0) w λw=>w.cell? (aZ 2)=some c/\aC (b.add 0) w λf g i=>aC (b.add 1) w λj l m=>Q f g i j l m (.iface 273 (.pointer (some e))) w)/\(St (b.add 0) (.slice none 0 0) w.drew λw=>St (b.add 1) (.slice none 0 0) w λw=>w.cell? (aZ 2)=some c/\Bx [ae a,d] 275 w λn w=>aC (b.add 0) w λo p q=>aC (b.add 1) w λr s t=>Q o p q r s t (.iface 273 (.pointer (some n))) w)
def sK (Q:L3 (L3 (Value->WP)))(a:Int)(b:Addr)(w:World):Prop:=bX (aZ 3) w.drew λc=>dV c λd=>(Bx [ae a,d] 275 w.drew λe w=>St (b.add 0) (.slice none 0 0) w λw=>St (b.add 1) (.slice none 0 0) w λw=>w.cell? (aZ 3)=some c/\aC (b.add 0) w λf g i=>aC (b.add 1) w λj l m=>Q f g i j l m (.iface 273 (.pointer (some e))) w)/\(St (b.add 0) (.slice none 0 0) w.drew λw=>St (b.add 1) (.slice none 0 0) w λw=>w.cell? (aZ 3)=some c/\Bx [ae a,d] 275 w λn w=>aC (b.add 0) w λo p q=>aC (b.add 1) w λr s t=>Q o p q r s t (.iface 273 (.pointer (some n))) w)
def ju (Q:L3 (L3 (Value->WP)))(a:Int)(b c:Addr)(d:Int)(w:World):Prop:=cond (d !=0) (bX (aZ 4) w.drew λe=>dV e λf=>(Bx [ae a,f] 275 w.drew λg w=>St (b.add 0) (.slice none 0 0) w λw=>St (b.add 1) (.slice none 0 0) w λw=>w.cell? (aZ 4)=some e/\aC (b.add 0) w λi j l=>aC (b.add 1) w λm n o=>Q i j l m n o (.iface 273 (.pointer (some g))) w)/\(St (b.add 0) (.slice none 0 0) w.drew λw=>St (b.add 1) (.slice none 0 0) w λw=>w.cell? (aZ 4)=some e/\Bx [ae a,f] 275 w λp w=>aC (b.add 0) w λq r s=>aC (b.add 1) w λt u v=>Q q r s t u v (.iface 273 (.pointer (some p))) w)) (aC (c.add 0) w λx y z=>aC (c.add 1) w λa1 b1 c1=>St (b.add 0) (.slice x y z) w λw=>St (b.add 1) (.slice a1 b1 c1) w λw=>aC (b.add 0) w λd1 e1 f1=>aC (b.add 1) w λg1 i1 j1=>Q d1 e1 f1 g1 i1 j1 (.nilIface) w)
noncomputable def wE:cu:=[(2,sp 0 4 (.br (.op 4 (.op 5 (.op 6 (.op 7 .done)))) (.op 6 (.op 4 (.op 5 (.op 7 .done)))))),(5,sp 0 4 (.br (.op 4 (.op 5 (.op 6 (.op 7 .done)))) (.op 6 (.op 4 (.op 5 (.op 7 .done)))))),(6,sp 0 9 (.op 10 (.op 9 (.op 11 (.op 12 .done))))),(7,sp 0 11 (sp 12 2 (.br (.op 11 (.br (.op 14 (sp 15 3 (.op 18 (.op 19 (.op 20 .done))))) (.op 18 (.op 14 (sp 15 3 (.op 19 (.op 20 .done))))))) (.op 18 (.op 11 (.op 14 (sp 15 3 (.op 19 (.op 20 .done))))))))),(9,sp 0 4 (.br (.op 4 (.op 5 (.op 6 (.op 7 .done)))) (.op 6 (.op 4 (.op 5 (.op 7 .done))))))]
def WE (Q):Bk 93 Tryz.f150 (xJ Q) 2 [(1,.i .i64),(6,.a)] (xN Q):=aW (ok 93) wE []
def WG (Q):Bk 93 Tryz.f150 (xJ Q) 5 [(1,.i .i64),(6,.a)] (sK Q):=aW (ok 93) wE []
def WH (Q):Bk 93 Tryz.f150 (xJ Q) 8 [(1,.i .i64),(6,.a),(11,.a),(12,.i .i64)] (ju Q):=aW (ok 93) wE []
def Ti:=λa b c w Q=>bB (uU a b c w Q) (Al T 213 w λd w=>
cond a.isNone
(xN Q b d w)
(wA a λe=>
bg e w λf=>
cond f.isNone
(xN Q b d w)
(wA a λg=>
bg g w λi=>
tA i c w λj l m n o p w=>
Al T 84 w λq w=>
St (q.add 0) (ae j) w λw=>
St (q.add 1) (ae l) w λw=>
St (q.add 2) (.slice m n o) w λw=>
wA a λr=>
bg r w λs=>
eU s b w λt w=>
cond (t==0)
(sK Q b d w)
(cond (!p)
(sK Q b d w)
(wA a λu=>
bg u w.drew λv=>
wA a λx=>
bg (x.add 2) w.drew λy=>
vH y b w.drew λz w=>
w.cell? u=some (.pointer v)/\
Be v z c w λa1 b1 c1 w=>
wA a λd1=>
bg (d1.add 3) w.drew λe1=>
wA a λf1=>
bg f1 w.drew λg1=>
af .i64 (q.add 0) w.drew λi1=>
af .i64 (q.add 1) w.drew λj1=>
aC (q.add 2) w.drew λl1 m1 n1=>
(iM g1 c w.drew λo1 w=>
w.cell? (q.add 0)=some (ae i1)/\
w.cell? (q.add 1)=some (ae j1)/\
w.cell? (q.add 2)=some (.slice l1 m1 n1)/\
w.cell? (d1.add 3)=some (.pointer e1)/\
(nW e1 b c o1 i1 j1 l1 m1 n1 a1 b1 c1 w λp1 q1 r1 s1 t1 u1 v1 w=>
Al T 213 w λx1 w=>
w.cell? (q.add 0)=some (ae i1)/\
w.cell? (q.add 1)=some (ae j1)/\
w.cell? (q.add 2)=some (.slice l1 m1 n1)/\
w.cell? f1=some (.pointer g1)/\
w.cell? (d1.add 3)=some (.pointer e1)/\
St (x1.add 0) (.slice p1 q1 r1) w λw=>
St (x1.add 1) (.slice s1 t1 u1) w λw=>
ju Q b d x1 v1 w)/\
(Al T 213 w λy1 w=>
w.cell? (q.add 0)=some (ae i1)/\
w.cell? (q.add 1)=some (ae j1)/\
w.cell? (q.add 2)=some (.slice l1 m1 n1)/\
w.cell? f1=some (.pointer g1)/\
w.cell? (d1.add 3)=some (.pointer e1)/\
nW e1 b c o1 i1 j1 l1 m1 n1 a1 b1 c1 w λz1 a2 b2 c2 d2 e2 f2 w=>
St (y1.add 0) (.slice z1 a2 b2) w λw=>
St (y1.add 1) (.slice c2 d2 e2) w λw=>
ju Q b d y1 f2 w))/\
(Al T 213 w.drew λg2 w=>
w.cell? (q.add 0)=some (ae i1)/\
w.cell? (q.add 1)=some (ae j1)/\
w.cell? (q.add 2)=some (.slice l1 m1 n1)/\
w.cell? f1=some (.pointer g1)/\
w.cell? (d1.add 3)=some (.pointer e1)/\
iM g1 c w λi2 w=>
w.cell? (q.add 0)=some (ae i1)/\
w.cell? (q.add 1)=some (ae j1)/\
w.cell? (q.add 2)=some (.slice l1 m1 n1)/\
w.cell? (d1.add 3)=some (.pointer e1)/\
nW e1 b c i2 i1 j1 l1 m1 n1 a1 b1 c1 w λj2 l2 m2 n2 o2 p2 q2 w=>
St (g2.add 0) (.slice j2 l2 m2) w λw=>
St (g2.add 1) (.slice n2 o2 p2) w λw=>
ju Q b d g2 q2 w)))))) (ok 93) wE [aN (WE Q),aN (WG Q),aN (WH Q)] Tryz.func150
end Go.Proofs.YtmegplnmiepfbaaGreatDoor.S
