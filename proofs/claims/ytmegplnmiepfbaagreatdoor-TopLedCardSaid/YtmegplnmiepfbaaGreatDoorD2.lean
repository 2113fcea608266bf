/- Part 3 of the proof. -/
import Derived.Test.YtmegplnmiepfbaaGreatDoorD1
import Derived.Sort.LotA
import Derived.Sort.LotB
import Derived.Sort.LotC
import Derived.Sort.LotD3
set_option linter.unusedVariables false
set_option linter.unusedSimpArgs false
set_option linter.defProp false
set_option maxRecDepth 100000
namespace Go.Proofs.YtmegplnmiepfbaaGreatDoor.S
open Go.Sx
noncomputable def X7:cv:=[(6,sp 0 10 (.op 10 (.op 11 (.op 12 .done))))]
def VV:=λa b c w Q=>bB (BV a b c w Q) (wV a w λd e w=>dY d e c w λf w=>vB a b f w λg i j l m n o w=>Al T 213 w λp w=>St (p.add 0) (.slice g i j) w λw=>St (p.add 1) (.slice l m n) w λw=>BI o λq=>cond (!q) (dV o λr=>Q 0 0 r w) (nf d e c w λs w=>aA p w.drew λt u v=>aJ s u<|wA t λx=>af .i64 (x.add (s.toNat*1)) w.drew λy=>aA (p.add 1) w.drew λz a1 b1=>aJ s a1<|wA z λc1=>af .i64 (c1.add (s.toNat*1)) w.drew λd1=>w.drew.cell? (c1.add (s.toNat*1))=some (ae d1)/\w.drew.cell? (p.add 1)=some (.slice z a1 b1)/\Q y d1 (.nilIface) w.drew)) (ok 45) X7 [] Tryz.func129
def Qu:=λa w Q=>bB (yP a w Q) (BI a λb=>cond b (Q 0 w) (bZ (aZ 2) w λc=>o7 a c w λd w=>cond d (Q 4 w) (bZ (aZ 3) w λe=>o7 a e w λf w=>cond f (Q 7 w) (Q 1 w)))) (ok 14) [] [] Tryz.func130
def VW:=λa b c w Q=>bB (BU a b c w Q) (BV a b c w λd e f w=>yP f w λg w=>Q d e g w) (ok 22) [] [] Tryz.func92
def MP:=λa b c d w Q=>bB (wg a b c d w Q) (wA a λe=>bg (e.add 1) w λf=>BU f c d w λg i j w=>cond (j==0) (wA b λl=>St (l.add 1) (ae g) w λw=>wA b λm=>St (m.add 2) (ae i) w λw=>gh j w λn w=>dV n λo=>Q o w) (gh j w λp w=>dV p λq=>Q q w)) (ok 35) [] [] Tryz.func57
def qH (Q:L3 WP)(R5:OA->L3 (L3 (Int->Int->WP)))(a b:OA)(c d:Nat)(e:OA)(f g:Nat)(i j:Int)(w:World):Prop:=cond (decide (j<i)) (aJ j f<|wA e λl=>af .i64 (l.add (j.toNat*1)) w λm=>wA a λn=>cu (n.add 2) w λo=>aL P (Instr.lookup 169 (.map o) (ae m) false) w λp w=>dL p λq=>dH q λr s=>dI .i64 r λt=>dH s λu v=>dI .i64 u λx=>dH v λy z=>dI .i64 y λa1=>kL z<|Bx [ae t,ae x,ae a1] 43 w λb1 w=>App P #[39,39] 39 (.slice b c d) (.slice (some b1) 1 1) w λc1 d1 e1 w=>R5 a c1 d1 e1 e f g i (IntKind.wrap .i64 (j+1)) w) (Q b c d w)
def vM (Q:L3 WP):Nat->OA->L3 (L3 (Int->Int->WP))
 |0,_,_,_,_,_,_,_,_,_,_=>False
 |k+1,a,b,c,d,e,f,g,i,j,w=>qH Q (vM Q k) a b c d e f g i j w
def UI (Q):∀k,Bk 26 Tryz.f64 (G9 Q) 5 [(0,.p),(3,.l),(9,.l),(10,.i .i64),(11,.i .i64)] (vM Q k):=bK λk h=>aU (ok 26) [] [aM h]
def Qv:=λa w Q=>bB (yJ a w Q) (cond a.isNone (Q none 0 0 w) (qm a w λb c d w=>∃k',vM Q k' a none 0 0 b c d (c:Int) 0 w)) (ok 26) [] [ct (UI Q)] Tryz.func64
def MQ:=λa w Q=>bB (mV a w Q) (cond a.isNone (Q none 0 0 w) (wA a λb=>bg (b.add 3) w λc=>yJ c w λd e f w=>Q d e f w)) (ok 10) [] [] Tryz.func33
def Cf (Q:Bool->WP)(R6:Int->Int->Int->ON->L3 (Int->Int->WP))(a b c:Int)(d:ON)(e:OA)(f g:Nat)(i j:Int)(w:World):Prop:=cond (decide (j<i)) (aJ j f<|wA e λl=>af .i64 ((l.add (j.toNat*3)).add 0) w λm=>af .i64 ((l.add (j.toNat*3)).add 1) w λn=>af .i64 ((l.add (j.toNat*3)).add 2) w λo=>Al T 43 w λp w=>St (p.add 0) (ae m) w λw=>St (p.add 1) (ae n) w λw=>St (p.add 2) (ae o) w λw=>af .i64 p w λq=>cond (decide (q<=c)) (Q false w) (af .i64 (p.add 1) w λr=>dY a b r w λs w=>cond (decide (s<0)) (Q false w) (af .i64 (p.add 2) w λt=>dY a b t w λu w=>cond (decide (u<0)) (Q false w) (af .i64 (p.add 1) w λv=>aL P (Instr.lookup 258 (.map d) (ae v) false) w λx w=>dB x λy=>cond y (Q false w) (af .i64 (p.add 1) w.drew λz=>af .i64 p w.drew λa1=>w.drew.cell? (p.add 1)=some (ae z)/\bD P (Instr.mapUpdate 258 (.map d) (ae z) (.bool true)) w.drew λw=>R6 a b a1 d e f g i (IntKind.wrap .i64 (j+1)) w))))) (Q true w)
def Gi (Q:Bool->WP):Nat->Int->Int->Int->ON->L3 (Int->Int->WP)
 |0,_,_,_,_,_,_,_,_,_,_=>False
 |k+1,a,b,c,d,e,f,g,i,j,w=>Cf Q (Gi Q k) a b c d e f g i j w
noncomputable def Tu:cv:=[(10,sp 0 5 (.op 5 (.op 6 .done)))]
def ah4 (Q):∀k,Bk 56 Tryz.f151 (Vl Q) 6 [(0,.i .i64),(1,.i .i64),(7,.i .i64),(8,.m),(18,.l),(19,.i .i64),(20,.i .i64)] (Gi Q k):=bK λk h=>aU (ok 56) Tu [aM h]
def adK:=λa b c d e w Q=>bB (CH a b c d e w Q) (lF a b w λf w=>cond (!f) (Q false w) (cz P 258 (some (ae (d:Int))) w λg w=>∃k',Gi Q k' a b (-1) g c d e (d:Int) 0 w)) (ok 56) Tu [ct (ah4 Q)] Tryz.func151
def zl (Q:L3 WP)(R4:L3 (ON->L3 (Int->Int->WP)))(a:OA)(b c:Nat)(d:ON)(e:OA)(f g:Nat)(i j:Int)(w:World):Prop:=cond (decide (j<i)) (aJ j f<|wA e λl=>af .i64 ((l.add (j.toNat*3)).add 0) w λm=>af .i64 ((l.add (j.toNat*3)).add 1) w λn=>af .i64 ((l.add (j.toNat*3)).add 2) w λo=>Al T 43 w λp w=>St (p.add 0) (ae m) w λw=>St (p.add 1) (ae n) w λw=>St (p.add 2) (ae o) w λw=>af .i64 (p.add 2) w λq=>aL P (Instr.lookup 258 (.map d) (ae q) false) w λr w=>dB r λs=>cond (!s) (af .i64 (p.add 2) w λt=>bD P (Instr.mapUpdate 258 (.map d) (ae t) (.bool true)) w λw=>af .i64 (p.add 2) w λu=>Bx [ae u] 3 w λv w=>App P #[29,29] 29 (.slice a b c) (.slice (some v) 1 1) w λx y z w=>R4 x y z d e f g i (IntKind.wrap .i64 (j+1)) w) (R4 a b c d e f g i (IntKind.wrap .i64 (j+1)) w)) (Q a b c w)
def C0 (Q:L3 WP):Nat->L3 (ON->L3 (Int->Int->WP))
 |0,_,_,_,_,_,_,_,_,_,_=>False
 |k+1,a,b,c,d,e,f,g,i,j,w=>zl Q (C0 Q k) a b c d e f g i j w
def adL (Q):∀k,Bk 29 Tryz.f152 (PC Q) 4 [(3,.l),(4,.m),(8,.l),(9,.i .i64),(10,.i .i64)] (C0 Q k):=bK λk h=>aU (ok 29) [] [aM h]
def ZN:=λa b c w Q=>bB (EK a b c w Q) (cz P 258 none w λd w=>∃k',C0 Q k' none 0 0 d a b c (b:Int) 0 w) (ok 29) [] [ct (adL Q)] Tryz.func152
def pH (P6:Int->Int->L3 (ON->ON->L3 (Int->Int->WP)))(Q:L3 WP)(a b:Int)(c:OA)(d e:Nat)(f g:ON)(i:Addr)(j:Int)(l:OA)(m n:Nat)(o p:Int)(w:World):Prop:=af .i64 (i.add 2) w λq=>aL P (Instr.lookup 252 (.map f) (ae q) false) w λr w=>dS r λs t u=>aJ j t<|wA s λv=>aA ((v.add (j.toNat*3)).add 2) w.drew λx y z=>af .i64 i w.drew λa1=>Bx [ae a1] 3 w.drew λb1 w=>w.cell? ((v.add (j.toNat*3)).add 2)=some (.slice x y z)/\App P #[29,29] 29 (.slice x y z) (.slice (some b1) 1 1) w λc1 d1 e1 w=>St ((v.add (j.toNat*3)).add 2) (.slice c1 d1 e1) w λw=>P6 a b c d e f g l m n o (IntKind.wrap .i64 (p+1)) w
def xp (Q:L3 WP)(R20:ON->L3 (L3 (Int->Int->WP)))(a:ON)(b:OA)(c d:Nat)(e:OA)(f g:Nat)(i j:Int)(w:World):Prop:=cond (decide (j<i)) (aJ j f<|wA e λl=>af .i64 (l.add (j.toNat*1)) w λm=>aL P (Instr.lookup 252 (.map a) (ae m) false) w λn w=>dS n λo p q=>App P #[208,208] 208 (.slice b c d) (.slice o p q) w λr s t w=>R20 a r s t e f g i (IntKind.wrap .i64 (j+1)) w) (Q b c d w)
def Bm (Q:L3 WP):Nat->ON->L3 (L3 (Int->Int->WP))
 |0,_,_,_,_,_,_,_,_,_,_=>False
 |k+1,a,b,c,d,e,f,g,i,j,w=>xp Q (Bm Q k) a b c d e f g i j w
def zm (Q:L3 WP)(R6:Int->Int->L3 (ON->ON->L3 (Int->Int->WP)))(a b:Int)(c:OA)(d e:Nat)(f g:ON)(i:OA)(j l:Nat)(m n:Int)(w:World):Prop:=cond (decide (n<m)) (aJ n j<|wA i λo=>af .i64 ((o.add (n.toNat*3)).add 0) w λp=>af .i64 ((o.add (n.toNat*3)).add 1) w λq=>af .i64 ((o.add (n.toNat*3)).add 2) w λr=>Al T 43 w λs w=>St (s.add 0) (ae p) w λw=>St (s.add 1) (ae q) w λw=>St (s.add 2) (ae r) w λw=>af .i64 (s.add 1) w λt=>dY a b t w λu w=>af .i64 (s.add 2) w λv=>Al T 253 w λx w=>St (x.add 0) (ae v) w λw=>St (x.add 1) (ae u) w λw=>af .i64 (x.add 0) w λy=>af .i64 (x.add 1) w λz=>aL P (Instr.lookup 180 (.map g) (.agg #[ae y,ae z]) true) w λa1 w=>dT a1 λb1=>dH b1 λc1 d1=>dI .i64 c1 λe1=>dH d1 λf1 g1=>dB f1 λi1=>kL g1<|cond (!i1) (af .i64 (s.add 2) w λj1=>aL P (Instr.lookup 252 (.map f) (ae j1) false) w λl1 w=>dS l1 λm1 n1 o1=>af .i64 (x.add 0) w λp1=>af .i64 (x.add 1) w λq1=>bD P (Instr.mapUpdate 180 (.map g) (.agg #[ae p1,ae q1]) (ae (n1:Int))) w λw=>af .i64 (s.add 2) w.drew λr1=>af .i64 (s.add 2) w.drew λs1=>af .i64 (s.add 2) w.drew λt1=>(aL P (Instr.lookup 252 (.map f) (ae s1) false) w.drew λu1 w=>dS u1 λv1 x1 y1=>w.cell? (s.add 2)=some (ae t1)/\w.cell? (s.add 2)=some (ae r1)/\Bx [ae t1,ae u,.slice none 0 0] 211 w λz1 w=>w.cell? (s.add 2)=some (ae s1)/\w.cell? (s.add 2)=some (ae r1)/\App P #[208,208] 208 (.slice v1 x1 y1) (.slice (some z1) 1 1) w λa2 b2 c2 w=>w.cell? (s.add 2)=some (ae r1)/\bD P (Instr.mapUpdate 252 (.map f) (ae r1) (.slice a2 b2 c2)) w λw=>pH R6 Q a b c d e f g s (n1:Int) i j l m n w)/\(Bx [ae t1,ae u,.slice none 0 0] 211 w.drew λd2 w=>w.cell? (s.add 2)=some (ae s1)/\w.cell? (s.add 2)=some (ae r1)/\aL P (Instr.lookup 252 (.map f) (ae s1) false) w λe2 w=>dS e2 λf2 g2 i2=>w.cell? (s.add 2)=some (ae t1)/\w.cell? (s.add 2)=some (ae r1)/\App P #[208,208] 208 (.slice f2 g2 i2) (.slice (some d2) 1 1) w λj2 l2 m2 w=>w.cell? (s.add 2)=some (ae r1)/\bD P (Instr.mapUpdate 252 (.map f) (ae r1) (.slice j2 l2 m2)) w λw=>pH R6 Q a b c d e f g s (n1:Int) i j l m n w)) (pH R6 Q a b c d e f g s e1 i j l m n w)) (EK c d e w λn2 o2 p2 w=>∃k',Bm Q k' f none 0 0 n2 o2 p2 (o2:Int) 0 w)
def zn (Q:L3 WP):Nat->Int->Int->L3 (ON->ON->L3 (Int->Int->WP))
 |0,_,_,_,_,_,_,_,_,_,_,_,_,_=>False
 |k+1,a,b,c,d,e,f,g,i,j,l,m,n,w=>zm Q (zn Q k) a b c d e f g i j l m n w
noncomputable def Bn:cv:=[(14,sp 0 6 (sp 7 4 (.br (.op 6 (.op 11 (.op 12 (.op 13 .done)))) (.op 11 (.op 6 (.op 12 (.op 13 .done))))))),(16,sp 0 7 (.op 7 (.op 8 (sp 9 2 (.op 11 .done)))))]
def abw {P6}(Q)(H6:Bk 102 Tryz.f133 (yQ Q) 6 [(0,.i .i64),(1,.i .i64),(2,.l),(7,.m),(8,.m),(26,.l),(27,.i .i64),(28,.i .i64)] P6):Bk 102 Tryz.f133 (yQ Q) 15 [(0,.i .i64),(1,.i .i64),(2,.l),(7,.m),(8,.m),(10,.a),(13,.i .i64),(26,.l),(27,.i .i64),(28,.i .i64)] (pH P6 Q):=aU (ok 102) Bn [aM H6]
def abx (Q):∀k,Bk 102 Tryz.f133 (yQ Q) 20 [(7,.m),(16,.l),(89,.l),(90,.i .i64),(91,.i .i64)] (Bm Q k):=bK λk h=>aU (ok 102) Bn [aM h]
def adM (Q):∀k,Bk 102 Tryz.f133 (yQ Q) 6 [(0,.i .i64),(1,.i .i64),(2,.l),(7,.m),(8,.m),(26,.l),(27,.i .i64),(28,.i .i64)] (zn Q k):=bK λk h=>aU (ok 102) Bn [aM (abw Q h),ct (abx Q)]
def ZO:=λa b c d e w Q=>bB (EI a b c d e w Q) (CH a b c d e w λf w=>cond (!f) (Q none 0 0 w) (cz P 252 none w λg w=>cz P 180 none w λi w=>∃k',zn Q k' a b c d e g i c d e (d:Int) 0 w)) (ok 102) Bn [ct (adM Q)] Tryz.func133
noncomputable def VX:cv:=[(2,sp 0 2 (.op 2 (.op 3 (.op 4 .done))))]
def UJ:=λa b c w Q=>bB (vA a b c w Q) (Al T 213 w λd w=>vB a b c w λe f g i j l m w=>Al T 213 w λn w=>St (n.add 0) (.slice e f g) w λw=>St (n.add 1) (.slice i j l) w λw=>aA (n.add 0) w.drew λo p q=>aA (n.add 1) w.drew λr s t=>yP m w.drew λu w=>w.cell? (n.add 0)=some (.slice o p q)/\w.cell? (n.add 1)=some (.slice r s t)/\St (d.add 0) (.slice o p q) w λw=>St (d.add 1) (.slice r s t) w λw=>aA (d.add 0) w λv x y=>aA (d.add 1) w λz a1 b1=>Q v x y z a1 b1 u w) (ok 20) VX [] Tryz.func134
def oz (uW:OA->L3 (ON->ON->L3 (Int->Int->WP)))(Q:L3 (Value->WP))(R16:OA->L3 (ON->ON->Addr->L3 (Int->Int->L3 (Int->Int->WP))))(a b:OA)(c d:Nat)(e f:ON)(g:Addr)(i:OA)(j l:Nat)(m n:Int)(o:OA)(p q:Nat)(r s:Int)(w:World):Prop:=cond (decide (s<r)) (aJ s p<|wA o λt=>af .i64 (t.add (s.toNat*1)) w λu=>aA (g.add 1) w λv x y=>aL P (Instr.lookup 207 (.map e) (ae u) false) w λz w=>dI .i64 z λa1=>aJ a1 x<|wA v λb1=>af .i64 (b1.add (a1.toNat*1)) w λc1=>bD P (Instr.mapUpdate 207 (.map f) (ae u) (ae c1)) w λw=>R16 a b c d e f g i j l m n o p q r (IntKind.wrap .i64 (s+1)) w) (uW a b c d e f i j l m (IntKind.wrap .i64 (n+1)) w)
def sv (uW:OA->L3 (ON->ON->L3 (Int->Int->WP)))(Q:L3 (Value->WP)):Nat->OA->L3 (ON->ON->Addr->L3 (Int->Int->L3 (Int->Int->WP)))
 |0,_,_,_,_,_,_,_,_,_,_,_,_,_,_,_,_,_,_=>False
 |k+1,a,b,c,d,e,f,g,i,j,l,m,n,o,p,q,r,s,w=>oz uW Q (sv uW Q k) a b c d e f g i j l m n o p q r s w
def oA (uW:OA->L3 (ON->ON->L3 (Int->Int->WP)))(Q:L3 (Value->WP))(a b:OA)(c d:Nat)(e f:ON)(g i:Addr)(j:Int)(l:OA)(m n:Nat)(o p:Int)(w:World):Prop:=cond (j !=0) (Q none 0 0 (.iface 108 (ae j)) w) (aA (g.add 2) w λq r s=>∃k',sv uW Q k' a b c d e f i l m n o p q r s (r:Int) 0 w)
def oB (Q:L3 (Value->WP))(R23:ON->L3 (L3 (Int->Int->WP)))(a:ON)(b:OA)(c d:Nat)(e:OA)(f g:Nat)(i j:Int)(w:World):Prop:=cond (decide (j<i)) (aJ j f<|wA e λl=>af .i64 ((l.add (j.toNat*3)).add 0) w λm=>af .i64 ((l.add (j.toNat*3)).add 1) w λn=>af .i64 ((l.add (j.toNat*3)).add 2) w λo=>Al T 43 w λp w=>St (p.add 0) (ae m) w λw=>St (p.add 1) (ae n) w λw=>St (p.add 2) (ae o) w λw=>af .i64 p w λq=>aL P (Instr.lookup 207 (.map a) (ae q) false) w λr w=>dI .i64 r λs=>Bx [ae s] 3 w λt w=>App P #[29,29] 29 (.slice b c d) (.slice (some t) 1 1) w λu v x w=>R23 a u v x e f g i (IntKind.wrap .i64 (j+1)) w) (Q b c d (.nilIface) w)
def sw (Q:L3 (Value->WP)):Nat->ON->L3 (L3 (Int->Int->WP))
 |0,_,_,_,_,_,_,_,_,_,_=>False
 |k+1,a,b,c,d,e,f,g,i,j,w=>oB Q (sw Q k) a b c d e f g i j w
def oC (Q:L3 (Value->WP))(Yu:OA->L3 (ON->ON->L3 (Int->Int->WP)))(a b:OA)(c d:Nat)(e f:ON)(g:OA)(i j:Nat)(l m:Int)(w:World):Prop:=cond (decide (m<l)) (aJ m i<|wA g λn=>af .i64 ((n.add (m.toNat*3)).add 0) w λo=>af .i64 ((n.add (m.toNat*3)).add 1) w λp=>aA ((n.add (m.toNat*3)).add 2) w λq r s=>Al T 211 w λt w=>St (t.add 0) (ae o) w λw=>St (t.add 1) (ae p) w λw=>St (t.add 2) (.slice q r s) w λw=>wA a λu=>bg (u.add 1) w.drew λv=>af .i64 t w.drew λx=>af .i64 (t.add 1) w.drew λy=>(vA v x y w.drew λz a1 b1 c1 d1 e1 f1 w=>Al T 213 w λg1 w=>w.cell? (t.add 1)=some (ae y)/\w.cell? t=some (ae x)/\w.cell? (u.add 1)=some (.pointer v)/\St (g1.add 0) (.slice z a1 b1) w λw=>St (g1.add 1) (.slice c1 d1 e1) w λw=>oA Yu Q a b c d e f t g1 f1 g i j l m w)/\(Al T 213 w.drew λi1 w=>w.cell? (t.add 1)=some (ae y)/\w.cell? t=some (ae x)/\w.cell? (u.add 1)=some (.pointer v)/\vA v x y w λj1 l1 m1 n1 o1 p1 q1 w=>St (i1.add 0) (.slice j1 l1 m1) w λw=>St (i1.add 1) (.slice n1 o1 p1) w λw=>oA Yu Q a b c d e f t i1 q1 g i j l m w)) (∃k',sw Q k' f none 0 0 b c d (c:Int) 0 w)
def oD (Q:L3 (Value->WP)):Nat->OA->L3 (ON->ON->L3 (Int->Int->WP))
 |0,_,_,_,_,_,_,_,_,_,_,_,_=>False
 |k+1,a,b,c,d,e,f,g,i,j,l,m,w=>oC Q (oD Q k) a b c d e f g i j l m w
def pI (Q:L3 (Value->WP))(R4:OA->L3 (Int->Int->ON->L3 (Int->Int->WP)))(a b:OA)(c d:Nat)(e f:Int)(g:ON)(i:OA)(j l:Nat)(m n:Int)(w:World):Prop:=cond (decide (n<m)) (aJ n j<|wA i λo=>af .i64 ((o.add (n.toNat*3)).add 0) w λp=>af .i64 ((o.add (n.toNat*3)).add 1) w λq=>af .i64 ((o.add (n.toNat*3)).add 2) w λr=>Al T 43 w λs w=>St (s.add 0) (ae p) w λw=>St (s.add 1) (ae q) w λw=>St (s.add 2) (ae r) w λw=>af .i64 s w.drew λt=>af .i64 (s.add 1) w.drew λu=>nf e f u w.drew λv w=>w.cell? s=some (ae t)/\bD P (Instr.mapUpdate 207 (.map g) (ae t) (ae v)) w λw=>R4 a b c d e f g i j l m (IntKind.wrap .i64 (n+1)) w) (cz P 207 none w λx w=>EI e f b c d w λy z a1 w=>∃k',oD Q k' a b c d g x y z a1 (z:Int) 0 w)
def uu (Q:L3 (Value->WP)):Nat->OA->L3 (Int->Int->ON->L3 (Int->Int->WP))
 |0,_,_,_,_,_,_,_,_,_,_,_,_,_=>False
 |k+1,a,b,c,d,e,f,g,i,j,l,m,n,w=>pI Q (uu Q k) a b c d e f g i j l m n w
noncomputable def lW:cv:=[(6,sp 0 7 (.op 7 (.op 8 .done))),(12,sp 0 8 (.br (.op 8 (sp 9 3 (.op 12 (.op 13 (.op 14 .done))))) (.op 12 (.op 8 (sp 9 3 (.op 13 (.op 14 .done)))))))]
def Qw {uW}(Q)(H10:Bk 104 Tryz.f93 (jh Q) 10 [(0,.p),(1,.l),(8,.m),(11,.m),(49,.l),(50,.i .i64),(51,.i .i64)] uW):∀k,Bk 104 Tryz.f93 (jh Q) 16 [(0,.p),(1,.l),(8,.m),(11,.m),(14,.a),(49,.l),(50,.i .i64),(51,.i .i64),(72,.l),(73,.i .i64),(74,.i .i64)] (sv uW Q k):=bK λk h=>aU (ok 104) lW [aM H10,aM h]
def Qx {uW}(Q)(H10:Bk 104 Tryz.f93 (jh Q) 10 [(0,.p),(1,.l),(8,.m),(11,.m),(49,.l),(50,.i .i64),(51,.i .i64)] uW):Bk 104 Tryz.f93 (jh Q) 13 [(0,.p),(1,.l),(8,.m),(11,.m),(13,.a),(14,.a),(15,.i .i64),(49,.l),(50,.i .i64),(51,.i .i64)] (oA uW Q):=aU (ok 104) lW [ct (Qw Q H10)]
def Qy (Q):∀k,Bk 104 Tryz.f93 (jh Q) 23 [(11,.m),(18,.l),(89,.l),(90,.i .i64),(91,.i .i64)] (sw Q k):=bK λk h=>aU (ok 104) lW [aM h]
def Qz (Q):∀k,Bk 104 Tryz.f93 (jh Q) 10 [(0,.p),(1,.l),(8,.m),(11,.m),(49,.l),(50,.i .i64),(51,.i .i64)] (oD Q k):=bK λk h=>aU (ok 104) lW [aM (Qx Q h),ct (Qy Q)]
def Sv (Q):∀k,Bk 104 Tryz.f93 (jh Q) 4 [(0,.p),(1,.l),(6,.i .i64),(7,.i .i64),(8,.m),(30,.l),(31,.i .i64),(32,.i .i64)] (uu Q k):=bK λk h=>aU (ok 104) lW [aM h,ct (Qz Q)]
def OG:=λa b c d w Q=>bB (xO a b c d w Q) (wA a λe=>bg (e.add 1) w λf=>wV f w λg i w=>cz P 207 none w λj w=>∃k',uu Q k' a b c d g i j b c d (c:Int) 0 w) (ok 104) lW [ct (Sv Q)] Tryz.func93
def ZP:=λa w Q=>bB (K5 a w Q) (cond (decide (a<0)) (Q true w) (Q (decide (a>5)) w)) (ok 9) [] [] Tryz.func153
def jQ (Q:Int->WP)(R2:L3 (Value->Int->Int->WP))(a:OA)(b c:Nat)(d:Value)(e f:Int)(w:World):Prop:=cond (decide (f<e)) (aJ f b<|wA a λg=>af .i64 (g.add (f.toNat*1)) w λi=>h_ (cx 19) d [ae i] w λj w=>dB j λl=>cond l (Q f w) (R2 a b c d e (IntKind.wrap .i64 (f+1)) w)) (Q (-1) w)
def jR (Q:Int->WP):Nat->L3 (Value->Int->Int->WP)
 |0,_,_,_,_,_,_,_=>False
 |k+1,a,b,c,d,e,f,w=>jQ Q (jR Q k) a b c d e f w
def HQ (Q):∀k,Bk 19 Tryz.f166 (yT Q) 2 [(0,.l),(1,.v),(7,.i .i64),(8,.i .i64)] (jR Q k):=bK λk h=>aU (ok 19) [] [aM h]
def Gj:=λa b c d w Q=>bB (wY a b c d w Q) (∃k',jR Q k' a b c d (b:Int) 0 w) (ok 19) [] [ct (HQ Q)] Tryz.func166
def D6:=λa b c d w Q=>bB (nH a b c d w Q) (wY a b c d w λe w=>Q (decide (e≥0)) w) (ok 9) [] [] Tryz.func154
def kH (Q:Bool->WP)(a b:OA)(c:Int)(w:World):Prop:=wA a λd=>af .i64 d w.drew λe=>wA a λf=>af .i64 (f.add 1) w.drew λg=>wA b λi=>af .i64 (i.add 1) w.drew λj=>l6 e g j c w.drew λl w=>cond (decide (l<0)) (Q true w) (wA a λm=>cu (m.add 2) w λn=>aL P (Instr.lookup 258 (.map n) (ae l) false) w λo w=>dB o λp=>cond p (Q true w) (wA a λq=>cu (q.add 2) w.drew λr=>wA b λs=>af .i64 (s.add 1) w.drew λt=>aL P (Builtin.delete_ #[258,3] 0 [.map r,ae t].toArray) w.drew λu w=>wA b λv=>St (v.add 1) (ae l) w λw=>wA a λx=>aA (x.add 3) w.drew λy z a1=>wA b λb1=>af .i64 b1 w.drew λc1=>Bx [ae c1,ae l] 51 w.drew λd1 w=>w.cell? (x.add 3)=some (.slice y z a1)/\App P #[28,28] 28 (.slice y z a1) (.slice (some d1) 1 1) w λe1 f1 g1 w=>wA a λi1=>St (i1.add 3) (.slice e1 f1 g1) w λw=>wA b λj1=>af .i64 (j1.add 2) w λl1=>cond (l==l1) (wA a λm1=>aA (m1.add 4) w.drew λn1 o1 p1=>wA b λq1=>af .i64 q1 w.drew λr1=>Bx [ae r1] 3 w.drew λs1 w=>w.cell? (m1.add 4)=some (.slice n1 o1 p1)/\App P #[29,29] 29 (.slice n1 o1 p1) (.slice (some s1) 1 1) w λt1 u1 v1 w=>wA a λx1=>St (x1.add 4) (.slice t1 u1 v1) w λw=>Q false w) (wA a λy1=>cu (y1.add 2) w λz1=>bD P (Instr.mapUpdate 258 (.map z1) (ae l) (.bool true)) w λw=>Q true w)))
noncomputable def Fv:cv:=[(6,sp 0 13 (.op 13 (.op 14 .done))),(9,sp 0 8 (.op 8 .done)),(11,sp 0 11 (.op 11 (.op 12 (sp 13 2 (.op 15 .done))))),(13,sp 0 9 (.op 9 (.op 10 (sp 11 2 (.op 13 .done)))))]
def Sw (Q):Bk 92 Tryz.f155 (Ga Q) 6 [(0,.p),(1,.p),(2,.i .i64)] (kH Q):=aU (ok 92) Fv []
def OH:=λa b c w Q=>bB (xS a b c w Q) (cond (c==0) (kH Q a b c w) (cond (c==1) (kH Q a b c w) (cond (c==2) (kH Q a b c w) (cond (c==3) (kH Q a b c w) (Q true w))))) (ok 92) Fv [aM (Sw Q)] Tryz.func155
def AO (Q:L3 (L3 (L3 (Int->WP))))(R11:L3 (L3 (Addr->L3 (Int->Int->WP))))(a:OA)(b c:Nat)(d:OA)(e f:Nat)(g:Addr)(i:OA)(j l:Nat)(m n:Int)(w:World):Prop:=cond (decide (n<m)) (aJ n j<|wA i λo=>af .i64 ((o.add (n.toNat*3)).add 0) w λp=>af .i64 ((o.add (n.toNat*3)).add 1) w λq=>af .i64 ((o.add (n.toNat*3)).add 2) w λr=>Al T 43 w λs w=>St (s.add 0) (ae p) w λw=>St (s.add 1) (ae q) w λw=>St (s.add 2) (ae r) w λw=>aJ n b<|wA a λt=>af .i64 (t.add (n.toNat*1)) w λu=>xS (some g) (some s) u w λv w=>cond v (af .i64 (s.add 0) w λx=>af .i64 (s.add 1) w λy=>af .i64 (s.add 2) w λz=>Bx [ae x,ae y,ae z] 43 w λa1 w=>App P #[39,39] 39 (.slice d e f) (.slice (some a1) 1 1) w λb1 c1 d1 w=>R11 a b c b1 c1 d1 g i j l m (IntKind.wrap .i64 (n+1)) w) (R11 a b c d e f g i j l m (IntKind.wrap .i64 (n+1)) w)) (aA (g.add 3) w.drew λe1 f1 g1=>aA (g.add 4) w.drew λi1 j1 l1=>w.drew.cell? (g.add 4)=some (.slice i1 j1 l1)/\w.drew.cell? (g.add 3)=some (.slice e1 f1 g1)/\w.drew.cell? (g.add 4)=some (.slice i1 j1 l1)/\Q d e f e1 f1 g1 i1 j1 l1 0 w.drew)
def Er (Q:L3 (L3 (L3 (Int->WP)))):Nat->L3 (L3 (Addr->L3 (Int->Int->WP)))
 |0,_,_,_,_,_,_,_,_,_,_,_,_,_=>False
 |k+1,a,b,c,d,e,f,g,i,j,l,m,n,w=>AO Q (Er Q k) a b c d e f g i j l m n w
def Cg (Q:L3 (L3 (L3 (Int->WP))))(R6:L3 (L3 (L3 (Addr->L3 (Int->Int->WP)))))(a:OA)(b c:Nat)(d:OA)(e f:Nat)(g:OA)(i j:Nat)(l:Addr)(m:OA)(n o:Nat)(p q:Int)(w:World):Prop:=cond (decide (q<p)) (aJ q n<|wA m λr=>af .i64 ((r.add (q.toNat*3)).add 0) w λs=>af .i64 ((r.add (q.toNat*3)).add 1) w λt=>af .i64 ((r.add (q.toNat*3)).add 2) w λu=>Al T 43 w λv w=>St (v.add 0) (ae s) w λw=>St (v.add 1) (ae t) w λw=>St (v.add 2) (ae u) w λw=>cu (l.add 2) w.drew λx=>af .i64 (v.add 1) w.drew λy=>bD P (Instr.mapUpdate 258 (.map x) (ae y) (.bool true)) w.drew λw=>R6 a b c d e f g i j l m n o p (IntKind.wrap .i64 (q+1)) w) (∃k',Er Q k' d e f g i j l a b c (b:Int) 0 w)
def Gk (Q:L3 (L3 (L3 (Int->WP)))):Nat->L3 (L3 (L3 (Addr->L3 (Int->Int->WP))))
 |0,_,_,_,_,_,_,_,_,_,_,_,_,_,_,_,_=>False
 |k+1,a,b,c,d,e,f,g,i,j,l,m,n,o,p,q,w=>Cg Q (Gk Q k) a b c d e f g i j l m n o p q w
noncomputable def JH:cv:=[(8,sp 0 6 (.op 6 .done)),(16,sp 0 9 (.op 9 (.op 10 (.op 11 (.op 12 .done)))))]
def agw (Q):∀k,Bk 82 Tryz.f135 (K4 Q) 11 [(3,.l),(8,.l),(13,.a),(55,.l),(56,.i .i64),(57,.i .i64)] (Er Q k):=bK λk h=>aU (ok 82) JH [aM h]
def ah5 (Q):∀k,Bk 82 Tryz.f135 (K4 Q) 6 [(2,.l),(3,.l),(8,.l),(13,.a),(42,.l),(43,.i .i64),(44,.i .i64)] (Gk Q k):=bK λk h=>aU (ok 82) JH [aM h,ct (agw Q)]
def adN:=λa b c d e f g i w Q=>bB (HE a b c d e f g i w Q) (CH a b c d e w λj w=>cond (!j) (Q none 0 0 none 0 0 none 0 0 1 w) (cond ((g:Int) !=(d:Int)) (Q none 0 0 none 0 0 none 0 0 1 w) (nH f g i (.func (.func 153) #[] #[]) w λl w=>cond l (Q none 0 0 none 0 0 none 0 0 1 w) (cz P 258 (some (ae (d:Int))) w λm w=>Bx [ae a,ae b,.map m,.slice none 0 0,.slice none 0 0] 260 w λn w=>∃k',Gk Q k' c d e f g i none 0 0 n c d e (d:Int) 0 w)))) (ok 82) JH [ct (ah5 Q)] Tryz.func135
def MR:=λa b c w Q=>bB (wo a b c w Q) (lT a b w λd w=>cond (d==(-1)) (Q false w) (rf a c w λe w=>cond (!e) (Q false w) (q_ a b w λf w=>rY a c f w λg w=>Q g w))) (ok 23) [] [] Tryz.func136
def Lq:=λa b w Q=>bB (BW a b w Q) (wA b λc=>af .i64 c w λd=>wA a λe=>St (e.add 1) (ae d) w λw=>Q w) (ok 7) [] [] Tryz.func156
def OI:=λa b c w Q=>bB (xR a b c w Q) (Bx [ae c] 3 w λd w=>rZ a b (.func (.func 156) #[] #[.pointer (some d)]) w λe w=>Q e w) (ok 11) [] [] Tryz.func137
def lX (P7:OA->L3 (L3 (L3 (Int->Int->WP))))(Q:L3 (L3 (Int->WP)))(a b:OA)(c d:Nat)(e:OA)(f g:Nat)(i j:Addr)(l:OA)(m n:Nat)(o p:Int)(w:World):Prop:=af .i64 (i.add 1) w λq=>af .i64 (j.add 2) w λr=>cond (q==r) (af .i64 (j.add 0) w λs=>af .i64 (j.add 1) w λt=>af .i64 (j.add 2) w λu=>nG a s t u w λw=>P7 a b c d e f g l m n o (IntKind.wrap .i64 (p+1)) w) (wA a λv=>bg (v.add 4) w.drew λx=>af .i64 (j.add 1) w.drew λy=>af .i64 (i.add 1) w.drew λz=>wo x y z w.drew λa1 w=>wA a λb1=>bg (b1.add 3) w.drew λc1=>af .i64 i w.drew λd1=>af .i64 (i.add 1) w.drew λe1=>xR c1 d1 e1 w.drew λf1 w=>P7 a b c d e f g l m n o (IntKind.wrap .i64 (p+1)) w)
def pJ (Q:L3 (L3 (Int->WP)))(R7:OA->L3 (L3 (L3 (Int->Int->WP))))(a b:OA)(c d:Nat)(e:OA)(f g:Nat)(i:OA)(j l:Nat)(m n:Int)(w:World):Prop:=cond (decide (n<m)) (aJ n j<|wA i λo=>af .i64 ((o.add (n.toNat*2)).add 0) w λp=>af .i64 ((o.add (n.toNat*2)).add 1) w λq=>Al T 51 w λr w=>St (r.add 0) (ae p) w λw=>St (r.add 1) (ae q) w λw=>wA a λs=>bg (s.add 3) w.drew λt=>af .i64 r w.drew λu=>(iR t u w.drew λv x y z w=>Al T 43 w λa1 w=>w.cell? r=some (ae u)/\w.cell? (s.add 3)=some (.pointer t)/\St (a1.add 0) (ae v) w λw=>St (a1.add 1) (ae x) w λw=>St (a1.add 2) (ae y) w λw=>lX R7 Q a b c d e f g r a1 i j l m n w)/\(Al T 43 w.drew λb1 w=>w.cell? r=some (ae u)/\w.cell? (s.add 3)=some (.pointer t)/\iR t u w λc1 d1 e1 f1 w=>St (b1.add 0) (ae c1) w λw=>St (b1.add 1) (ae d1) w λw=>St (b1.add 2) (ae e1) w λw=>lX R7 Q a b c d e f g r b1 i j l m n w)) (Q b c d e f g 0 w)
def pK (Q:L3 (L3 (Int->WP))):Nat->OA->L3 (L3 (L3 (Int->Int->WP)))
 |0,_,_,_,_,_,_,_,_,_,_,_,_,_=>False
 |k+1,a,b,c,d,e,f,g,i,j,l,m,n,w=>pJ Q (pK Q k) a b c d e f g i j l m n w
noncomputable def zo:cv:=[(3,sp 0 9 (.op 10 (.op 9 (.op 11 (sp 12 5 (.op 17 (.op 18 (.op 19 .done)))))))),(9,sp 0 6 (.br (.op 6 (sp 7 3 (.op 10 (.op 11 (.op 12 .done))))) (.op 10 (.op 6 (sp 7 3 (.op 11 (.op 12 .done))))))),(12,sp 0 8 (.op 8 .done)),(13,sp 0 8 (.op 8 .done))]
def QA {P7}(Q)(H7:Bk 78 Tryz.f94 (tQ Q) 7 [(0,.p),(4,.l),(5,.l),(33,.l),(34,.i .i64),(35,.i .i64)] P7):Bk 78 Tryz.f94 (tQ Q) 10 [(0,.p),(4,.l),(5,.l),(8,.a),(9,.a),(33,.l),(34,.i .i64),(35,.i .i64)] (lX P7 Q):=aU (ok 78) zo [aM H7]
def Sy (Q):∀k,Bk 78 Tryz.f94 (tQ Q) 7 [(0,.p),(4,.l),(5,.l),(33,.l),(34,.i .i64),(35,.i .i64)] (pK Q k):=bK λk h=>aU (ok 78) zo [aM (QA Q h)]
def OJ:=λa b c d w Q=>bB (xP a b c d w Q) (cond a.isNone (Q none 0 0 none 0 0 1 w) (wA a λe=>af .i64 e w.drew λf=>wA a λg=>af .i64 (g.add 1) w.drew λi=>mV a w.drew λj l m w=>w.cell? (g.add 1)=some (ae i)/\w.cell? e=some (ae f)/\HE f i j l m b c d w λn o p q r s t u v x w=>cond (x !=0) (Q none 0 0 none 0 0 x w) (∃k',pK Q k' a q r s t u v q r s (r:Int) 0 w))) (ok 78) zo [ct (Sy Q)] Tryz.func94
def OK:=λa b w Q=>bB (xN a b w Q) (wA a λc=>bg (c.add 2) w λd=>mV d w λe f g w=>xO a e f g w λi j l m w=>BI m λn=>cond (!n) (dV m λo=>Q o w) (wA a λp=>bg (p.add 2) w λq=>xP q i j l w λr s t u v x y w=>wA b λz=>St (z.add 4) (.slice r s t) w λw=>wA b λa1=>St (a1.add 5) (.slice u v x) w λw=>gh y w λb1 w=>dV b1 λc1=>Q c1 w)) (ok 43) [] [] Tryz.func58
def fA (Q:Value->WP)(a:Value)(w:World):Prop:=dV a λb=>Q b w
def oE (Q:Value->WP)(a b:OA)(c:Addr)(w:World):Prop:=af .i64 (c.add 0) w λd=>af .i64 (c.add 1) w λe=>af .i64 (c.add 2) w λf=>aA (c.add 3) w λg i j=>wc a d e f g i j w λl w=>BI l λm=>cond (!m) (dV l λn=>Q n w) (af .i64 c w λo=>cond (o==1) (aA (c.add 3) w λp q r=>xL a p q r w λs w=>fA Q s w) (cond (o==8) (wA a λt=>bg (t.add 1) w λu=>vw u w λw=>fA Q l w) (cond (o==2) (af .i64 (c.add 1) w λv=>af .i64 (c.add 2) w λx=>xM a v x w λy w=>fA Q y w) (cond (o==3) (af .i64 (c.add 1) w λz=>af .i64 (c.add 2) w λa1=>we a z a1 w λb1 c1 w=>wA b λd1=>St (d1.add 3) (ae b1) w λw=>fA Q c1 w) (cond (o==4) (wA a λe1=>bg (e1.add 2) w.drew λf1=>af .i64 (c.add 1) w.drew λg1=>af .i64 (c.add 2) w.drew λi1=>sK f1 g1 i1 w.drew λj1 w=>gh j1 w λl1 w=>fA Q l1 w) (cond (o==5) (wA a λm1=>bg (m1.add 2) w.drew λn1=>af .i64 (c.add 1) w.drew λo1=>tN n1 o1 w.drew λp1 w=>gh p1 w λq1 w=>fA Q q1 w) (cond (o==6) (af .i64 (c.add 1) w λr1=>af .i64 (c.add 2) w λs1=>wg a b r1 s1 w λt1 w=>fA Q t1 w) (cond (o==7) (xN a b w λu1 w=>fA Q u1 w) (fA Q l w)))))))))
noncomputable def A_:cv:=[(18,sp 0 8 (.op 8 (.op 9 (.op 10 .done)))),(20,sp 0 6 (.op 6 (.op 7 (.op 8 .done))))]
def UK (Q):Bk 114 Tryz.f28 (BR Q) 25 [(6,.v)] (fA Q):=aU (ok 114) A_ []
def VY (Q):Bk 114 Tryz.f28 (BR Q) 5 [(0,.p),(2,.p),(4,.a)] (oE Q):=aU (ok 114) A_ [aM (UK Q)]
def Sz:=λa b c d e f g i w Q=>bB (zW a b c d e f g i w Q) (Bx [ae b,ae c,ae d,.slice e f g] 38 w λj w=>af .i64 j w λl=>cond (l==0) (bZ (aZ 0) w λm=>dV m λn=>Q n w) (af .i64 (j.add 0) w λo=>af .i64 (j.add 1) w λp=>af .i64 (j.add 2) w λq=>aA (j.add 3) w λr s t=>K1 o p q r s t w λu w=>cond (!u) (bZ (aZ 0) w λv=>dV v λx=>Q x w) (wA a λy=>bg (y.add 2) w λz=>cond z.isNone (af .i64 j w λa1=>cond (a1 !=1) (af .i64 j w λb1=>cond (b1 !=8) (Q (.iface 108 (ae 4)) w) (oE Q a i j w)) (oE Q a i j w)) (oE Q a i j w)))) (ok 114) A_ [aM (VY Q)] Tryz.func28
def adO:=λa w Q=>bB (CG a w Q) (Al T 108 w λb w=>bZ (aZ 0) w λc=>o7 a c w λd w=>cond d (Q 5 w) (ni a (.iface 120 (.pointer (some b))) w λe w=>cond e (af .i64 b w λf=>Q f w) (Q 0 w))) (ok 13) [] [] Tryz.func29
def oF (Q:Int->Int->Int->Int->L3 (L3 (Int->Int->Int->Int->Int->Int->WP)))(a:OA)(b c:Addr)(w:World):Prop:=v9 a w λd e f g i j w=>St ((c.add 6).add 0) (.int .u64 d) w λw=>St ((c.add 6).add 1) (.int .u64 e) w λw=>St ((c.add 6).add 2) (.int .u64 f) w λw=>St ((c.add 6).add 3) (.int .u64 g) w λw=>St ((c.add 6).add 4) (.int .u64 i) w λw=>St ((c.add 6).add 5) (.int .u64 j) w λw=>af .i64 (c.add 0) w λl=>af .i64 (c.add 1) w λm=>af .i64 (c.add 2) w λn=>af .i64 (c.add 3) w λo=>aA (c.add 4) w λp q r=>aA (c.add 5) w λs t u=>af .u64 (c.add 6) w λv=>af .u64 (c.add 7) w λx=>af .u64 (c.add 8) w λy=>af .u64 (c.add 9) w λz=>af .u64 (c.add 10) w λa1=>af .u64 (c.add 11) w λb1=>St (b.add 0) (ae l) w λw=>St (b.add 1) (ae m) w λw=>St (b.add 2) (ae n) w λw=>St (b.add 3) (ae o) w λw=>St (b.add 4) (.slice p q r) w λw=>St (b.add 5) (.slice s t u) w λw=>St (b.add 6) (.int .u64 v) w λw=>St (b.add 7) (.int .u64 x) w λw=>St (b.add 8) (.int .u64 y) w λw=>St (b.add 9) (.int .u64 z) w λw=>St (b.add 10) (.int .u64 a1) w λw=>St (b.add 11) (.int .u64 b1) w λw=>af .i64 (b.add 0) w λc1=>af .i64 (b.add 1) w λd1=>af .i64 (b.add 2) w λe1=>af .i64 (b.add 3) w λf1=>aA (b.add 4) w λg1 i1 j1=>aA (b.add 5) w λl1 m1 n1=>af .u64 (b.add 6) w λo1=>af .u64 (b.add 7) w λp1=>af .u64 (b.add 8) w λq1=>af .u64 (b.add 9) w λr1=>af .u64 (b.add 10) w λs1=>af .u64 (b.add 11) w λt1=>Q c1 d1 e1 f1 g1 i1 j1 l1 m1 n1 o1 p1 q1 r1 s1 t1 w
def VZ (Q):Bk 29 Tryz.f12 (IQ Q) 8 [(0,.p),(4,.a),(5,.a)] (oF Q):=aU (ok 29) [] []
def SA:=λa b c d e f g w Q=>bB (ij a b c d e f g w Q) (Bx [ae b,ae c,ae d,.slice e f g] 38 w λi w=>Al T 34 w λj w=>Al T 34 w λl w=>St (l.add 0) (ae 5) w λw=>St (l.add 1) (ae 0) w λw=>St (l.add 2) (ae 5) w λw=>St (l.add 3) (ae (-1)) w λw=>St (l.add 4) (.slice none 0 0) w λw=>St (l.add 5) (.slice none 0 0) w λw=>St (l.add 6) (.int .u64 0) w λw=>St (l.add 7) (.int .u64 0) w λw=>St (l.add 8) (.int .u64 0) w λw=>St (l.add 9) (.int .u64 0) w λw=>St (l.add 10) (.int .u64 0) w λw=>St (l.add 11) (.int .u64 0) w λw=>cond a.isNone (af .i64 (l.add 0) w λm=>af .i64 (l.add 1) w λn=>af .i64 (l.add 2) w λo=>af .i64 (l.add 3) w λp=>aA (l.add 4) w λq r s=>aA (l.add 5) w λt u v=>af .u64 (l.add 6) w λx=>af .u64 (l.add 7) w λy=>af .u64 (l.add 8) w λz=>af .u64 (l.add 9) w λa1=>af .u64 (l.add 10) w λb1=>af .u64 (l.add 11) w λc1=>St (j.add 0) (ae m) w λw=>St (j.add 1) (ae n) w λw=>St (j.add 2) (ae o) w λw=>St (j.add 3) (ae p) w λw=>St (j.add 4) (.slice q r s) w λw=>St (j.add 5) (.slice t u v) w λw=>St (j.add 6) (.int .u64 x) w λw=>St (j.add 7) (.int .u64 y) w λw=>St (j.add 8) (.int .u64 z) w λw=>St (j.add 9) (.int .u64 a1) w λw=>St (j.add 10) (.int .u64 b1) w λw=>St (j.add 11) (.int .u64 c1) w λw=>af .i64 (j.add 0) w λd1=>af .i64 (j.add 1) w λe1=>af .i64 (j.add 2) w λf1=>af .i64 (j.add 3) w λg1=>aA (j.add 4) w λi1 j1 l1=>aA (j.add 5) w λm1 n1 o1=>af .u64 (j.add 6) w λp1=>af .u64 (j.add 7) w λq1=>af .u64 (j.add 8) w λr1=>af .u64 (j.add 9) w λs1=>af .u64 (j.add 10) w λt1=>af .u64 (j.add 11) w λu1=>Q d1 e1 f1 g1 i1 j1 l1 m1 n1 o1 p1 q1 r1 s1 t1 u1 w) (St l (ae 0) w λw=>af .i64 (i.add 0) w λv1=>af .i64 (i.add 1) w λx1=>af .i64 (i.add 2) w λy1=>aA (i.add 3) w λz1 a2 b2=>zW a v1 x1 y1 z1 a2 b2 (some l) w λc2 w=>BI c2 λd2=>cond (!d2) (af .i64 i w λe2=>dV c2 λf2=>Bx [ae e2,f2] 80 w λg2 w=>CG (.iface 78 (.pointer (some g2))) w λi2 w=>St l (ae i2) w λw=>oF Q a j l w) (oF Q a j l w))) (ok 29) [] [aM (VZ Q)] Tryz.func12
def QB:=λa b c w Q=>bB (lR a b c w Q) (cond (decide (a≥b)) (Q (decide (a<=c)) w) (Q false w)) (ok 15) [] [] Tryz.func101
def D7:=λa b w Q=>bB (q9 a b w Q) (lR a 1 1024 w λc w=>cond c (lR b 1 1024 w λd w=>Q d w) (Q false w)) (ok 11) [] [] Tryz.func65
def JI:=λa b w Q=>bB (kM a b w Q) (q9 a b w λc w=>cond (!c) (Q 0 0 w) (NZ 16<|NZ 16<|Q (IntKind.wrap .i64 (Int.tdiv (IntKind.wrap .i64 ((IntKind.wrap .i64 (a+16))-1)) 16)) (IntKind.wrap .i64 (Int.tdiv (IntKind.wrap .i64 ((IntKind.wrap .i64 (b+16))-1)) 16)) w)) (ok 18) [] [] Tryz.func44
def Lt:=λa b w Q=>bB (o6 a b w Q) (kM a b w λc d w=>Q (IntKind.wrap .i64 (c*d)) w) (ok 16) [] [] Tryz.func23
def sy (P3:L3 (L3 (Int->WP)))(Q:L3 WP)(a:OA)(b c:Nat)(d:OA)(e f:Nat)(g i:Int)(w:World):Prop:=aJ g b<|wA a λj=>af .u8 (j.add (g.toNat*1)) w λl=>Bx [.int .u8 (IntKind.wrap .u8 (IntKind.wrap .i64 (i-1))),.int .u8 l] 5 w λm w=>App P #[22,22] 22 (.slice d e f) (.slice (some m) 2 2) w λn o p w=>P3 a b c n o p (IntKind.wrap .i64 (g+i)) w
def oG (P3:L3 (L3 (Int->WP)))(Q:L3 WP)(R5:L3 (L3 (Int->Int->WP)))(a:OA)(b c:Nat)(d:OA)(e f:Nat)(g i:Int)(w:World):Prop:=cond (decide ((IntKind.wrap .i64 (g+i))<(b:Int))) (aJ (IntKind.wrap .i64 (g+i)) b<|wA a λj=>af .u8 (j.add (((IntKind.wrap .i64 (g+i))).toNat*1)) w.drew λl=>aJ g b<|wA a λm=>af .u8 (m.add (g.toNat*1)) w.drew λn=>cond (l==n) (R5 a b c d e f g (IntKind.wrap .i64 (i+1)) w.drew) (sy P3 Q a b c d e f g i w.drew)) (sy P3 Q a b c d e f g i w.drew)
def lY (P3:L3 (L3 (Int->WP)))(Q:L3 WP):Nat->L3 (L3 (Int->Int->WP))
 |0,_,_,_,_,_,_,_,_,_=>False
 |k+1,a,b,c,d,e,f,g,i,w=>oG P3 Q (lY P3 Q k) a b c d e f g i w
def oH (Q:L3 WP)(R3:L3 (L3 (Int->WP)))(a:OA)(b c:Nat)(d:OA)(e f:Nat)(g:Int)(w:World):Prop:=cond (decide (g<(b:Int))) (∃k',lY R3 Q k' a b c d e f g 1 w) (Q d e f w)
def oI (Q:L3 WP):Nat->L3 (L3 (Int->WP))
 |0,_,_,_,_,_,_,_,_=>False
 |k+1,a,b,c,d,e,f,g,w=>oH Q (oI Q k) a b c d e f g w
noncomputable def rm:cv:=[(5,sp 0 19 .done)]
def QC {P3}(Q)(H3:Bk 46 Tryz.f61 (lQ Q) 3 [(0,.l),(3,.l),(4,.i .i64)] P3):Bk 46 Tryz.f61 (lQ Q) 7 [(0,.l),(3,.l),(4,.i .i64),(5,.i .i64)] (sy P3 Q):=aU (ok 46) rm [aM H3]
def QD {P3}(Q)(H3:Bk 46 Tryz.f61 (lQ Q) 3 [(0,.l),(3,.l),(4,.i .i64)] P3):∀k,Bk 46 Tryz.f61 (lQ Q) 5 [(0,.l),(3,.l),(4,.i .i64),(5,.i .i64)] (lY P3 Q k):=bK λk h=>aU (ok 46) rm [aM h,aM (QC Q H3)]
def QE (Q):∀k,Bk 46 Tryz.f61 (lQ Q) 3 [(0,.l),(3,.l),(4,.i .i64)] (oI Q k):=bK λk h=>aU (ok 46) rm [ct (QD Q h)]
def MS:=λa b c w Q=>bB (wj a b c w Q) (Bx [.int .u8 2] 5 w λd w=>∃k',oI Q k' a b c (some d) 1 1 0 w) (ok 46) rm [ct (QE Q)] Tryz.func61
noncomputable def Kk:cv:=[(3,sp 0 4 (.br (.op 4 (.op 5 (.op 6 .done))) (.op 5 (.op 4 (.op 6 .done)))))]
def JJ:=λa b c d e w Q=>bB (sJ a b c d e w Q) (Bx [ae a,ae b,.slice c d e] 84 w λf w=>aA (f.add 2) w λg i j=>wj g i j w λl m n w=>cond ((m:Int)==3) (aA (f.add 2) w.drew λo p q=>aJ 0 p<|wA o λr=>af .u8 (r.add (((0:Int).toNat)*1)) w.drew λs=>(Bx [.int .u8 0,.int .u8 s] 5 w.drew λt w=>w.cell? (r.add (((0:Int).toNat)*1))=some (.int .u8 s)/\w.cell? (f.add 2)=some (.slice o p q)/\Q 0 (some t) 2 2 w)/\(w.drew.cell? (r.add (((0:Int).toNat)*1))=some (.int .u8 s)/\w.drew.cell? (f.add 2)=some (.slice o p q)/\Bx [.int .u8 0,.int .u8 s] 5 w.drew λu w=>Q 0 (some u) 2 2 w)) (aA (f.add 2) w λv x y=>cond (decide ((m:Int)<(IntKind.wrap .i64 (1+(x:Int))))) (Q 2 l m n w) (Bx [.int .u8 1] 5 w λz w=>aA (f.add 2) w λa1 b1 c1=>App P #[22,22] 22 (.slice (some z) 1 1) (.slice a1 b1 c1) w λd1 e1 f1 w=>Q 1 d1 e1 f1 w))) (ok 28) Kk [] Tryz.func30
noncomputable def OL:cv:=[(4,sp 0 14 (.op 14 (.op 15 .done)))]
def MT:=λa b c w Q=>bB (qj a b c w Q) (o6 a b w λd w=>lR c 0 (IntKind.wrap .i64 (d-1)) w λe w=>cond (!e) (Q 0 0 w) (kM a b w λf g w=>NZ f<|NZ f<|Q (Dr 16 (IntKind.wrap .i64 (a-(IntKind.wrap .i64 (16*(Int.tmod c f)))))) (Dr 16 (IntKind.wrap .i64 (b-(IntKind.wrap .i64 (16*(IntKind.wrap .i64 (Int.tdiv c f))))))) w.drew)) (ok 37) OL [] Tryz.func62
noncomputable def Lu:cv:=[(5,sp 0 19 (.op 19 .done))]
def Kl:=λa b c d w Q=>bB (tO a b c d w Q) (qj a b c w λe f w=>lR d 0 (IntKind.wrap .i64 ((IntKind.wrap .i64 (e*f))-1)) w λg w=>cond (!g) (Q (-1) w) (kM a b w λi j w=>NZ i<|NZ e<|NZ i<|NZ e<|Q (IntKind.wrap .i64 ((IntKind.wrap .i64 ((IntKind.wrap .i64 ((IntKind.wrap .i64 ((IntKind.wrap .i64 (16*(IntKind.wrap .i64 (Int.tdiv c i))))+(IntKind.wrap .i64 (Int.tdiv d e))))*a))+(IntKind.wrap .i64 (16*(Int.tmod c i)))))+(Int.tmod d e))) w.drew)) (ok 52) Lu [] Tryz.func63
def mZ (Q:Int->Int->L3 WP)(R4:Int->Addr->Addr->Int->Int->Addr->Int->WP)(a:Int)(b c:Addr)(d e:Int)(f:Addr)(g:Int)(w:World):Prop:=cond (decide (g<(IntKind.wrap .i64 (d*e)))) (aA (f.add 2) w.drew λi j l=>aA (b.add 2) w.drew λm n o=>af .i64 b w.drew λp=>af .i64 (b.add 1) w.drew λq=>tO p q a g w.drew λr w=>w.cell? (b.add 2)=some (.slice m n o)/\w.cell? (f.add 2)=some (.slice i j l)/\(aJ r n<|wA m λs=>af .u8 (s.add (r.toNat*1)) w λt=>Bx [.int .u8 t] 5 w λu w=>w.cell? (f.add 2)=some (.slice i j l)/\App P #[22,22] 22 (.slice i j l) (.slice (some u) 1 1) w λv x y w=>St (f.add 2) (.slice v x y) w λw=>R4 a b c d e f (IntKind.wrap .i64 (g+1)) w)) (af .i64 (f.add 0) w λz=>af .i64 (f.add 1) w λa1=>aA (f.add 2) w λb1 c1 d1=>St (c.add 0) (ae z) w λw=>St (c.add 1) (ae a1) w λw=>St (c.add 2) (.slice b1 c1 d1) w λw=>af .i64 (c.add 0) w λe1=>af .i64 (c.add 1) w λf1=>aA (c.add 2) w λg1 i1 j1=>Q e1 f1 g1 i1 j1 w)
def ku (Q:Int->Int->L3 WP):Nat->Int->Addr->Addr->Int->Int->Addr->Int->WP
 |0,_,_,_,_,_,_,_,_=>False
 |k+1,a,b,c,d,e,f,g,w=>mZ Q (ku Q k) a b c d e f g w
noncomputable def Ch:cv:=[(6,sp 0 10 (.op 10 (sp 11 2 (.op 13 (.op 14 (.op 15 (.op 16 .done)))))))]
def MU (Q):∀k,Bk 45 Tryz.f31 (Db Q) 4 [(1,.i .i64),(2,.a),(4,.a),(5,.i .i64),(6,.i .i64),(7,.a),(8,.i .i64)] (ku Q k):=bK λk h=>aU (ok 45) Ch [aM h]
def Km:=λa b c d e f w Q=>bB (tK a b c d e f w Q) (Bx [ae a,ae b,.slice c d e] 25 w λg w=>Al T 84 w λi w=>af .i64 g w λj=>af .i64 (g.add 1) w λl=>qj j l f w λm n w=>Al T 84 w λo w=>St (o.add 0) (ae m) w λw=>St (o.add 1) (ae n) w λw=>St (o.add 2) (.slice none 0 0) w λw=>∃k',ku Q k' f g i m n o 0 w) (ok 45) Ch [ct (MU Q)] Tryz.func31
def wD (Q:L3 WP)(R3:Addr->L3 (Int->WP))(a:Addr)(b:OA)(c d:Nat)(e:Int)(w:World):Prop:=af .i64 a w λf=>af .i64 (a.add 1) w λg=>o6 f g w λi w=>cond (decide (e<i)) (af .i64 (a.add 0) w λj=>af .i64 (a.add 1) w λl=>aA (a.add 2) w λm n o=>tK j l m n o e w λp q r s t w=>sJ p q r s t w λu v x y w=>App P #[22,22] 22 (.slice b c d) (.slice v x y) w λz a1 b1 w=>R3 a z a1 b1 (IntKind.wrap .i64 (e+1)) w) (Q b c d w)
def kz (Q:L3 WP):Nat->Addr->L3 (Int->WP)
 |0,_,_,_,_,_,_=>False
 |k+1,a,b,c,d,e,w=>wD Q (kz Q k) a b c d e w
def MV (Q):∀k,Bk 42 Tryz.f13 (Da Q) 3 [(1,.a),(3,.l),(4,.i .i64)] (kz Q k):=bK λk h=>aU (ok 42) [] [aM h]
def Kn:=λa b c d e w Q=>bB (lE a b c d e w Q) (Bx [ae a,ae b,.slice c d e] 25 w λf w=>af .i64 f w λg=>af .i64 f w λi=>DR 8<|af .i64 (f.add 1) w λj=>af .i64 (f.add 1) w λl=>DR 8<|Bx [.int .u8 (IntKind.wrap .u8 g),.int .u8 (IntKind.wrap .u8 (oW .i64 i 8)),.int .u8 (IntKind.wrap .u8 j),.int .u8 (IntKind.wrap .u8 (oW .i64 l 8))] 5 w λm w=>∃k',kz Q k' f (some m) 4 4 0 w) (ok 42) [] [ct (MV Q)] Tryz.func13
def QF:=λa w Q=>bB (Fb a w Q) (cond a.isNone (Q none w) (wA a λb=>bg (b.add 2) w λc=>Q c w)) (ok 9) [] [] Tryz.func32
def MW:=λa w Q=>bB (v7 a w Q) (Fb a w λb w=>mV b w λc d e w=>Q c d e w) (ok 6) [] [] Tryz.func14
def m6 (Q:Bool->WP)(R4:L3 (L3 (Int->WP)))(a:OA)(b c:Nat)(d:OA)(e f:Nat)(g:Int)(w:World):Prop:=cond (decide (g<(b:Int))) (aJ g b<|wA a λi=>af .i64 ((i.add (g.toNat*2)).add 0) w.drew λj=>af .i64 ((i.add (g.toNat*2)).add 1) w.drew λl=>aJ g e<|wA d λm=>af .i64 ((m.add (g.toNat*2)).add 0) w.drew λn=>af .i64 ((m.add (g.toNat*2)).add 1) w.drew λo=>bX P .neq 51 (.tmp 20) (.tmp 24) (.agg #[ae j,ae l]) (.agg #[ae n,ae o]) w.drew λp w=>cond p (Q false w) (R4 a b c d e f (IntKind.wrap .i64 (g+1)) w)) (Q true w)
def kA (Q:Bool->WP):Nat->L3 (L3 (Int->WP))
 |0,_,_,_,_,_,_,_,_=>False
 |k+1,a,b,c,d,e,f,g,w=>m6 Q (kA Q k) a b c d e f g w
noncomputable def Ci:cv:=[(6,sp 0 8 (.op 8 .done))]
def MX (Q):∀k,Bk 26 Tryz.f34 (Dc Q) 4 [(0,.l),(1,.l),(5,.i .i64)] (kA Q k):=bK λk h=>aU (ok 26) Ci [aM h]
def Ko:=λa b c d e f w Q=>bB (tL a b c d e f w Q) (cond ((b:Int) !=(e:Int)) (Q false w) (∃k',kA Q k' a b c d e f 0 w)) (ok 26) Ci [ct (MX Q)] Tryz.func34
def MY:=λw Q=>bB (v8 w Q) (Em 1 2 w λa w=>cond a.isNone (Q false w) (Bx [.int .u8 5,.int .u8 2,.int .u8 9] 5 w λb w=>Al T 25 w λc w=>St (c.add 0) (ae 3) w λw=>St (c.add 1) (ae 1) w λw=>St (c.add 2) (.slice (some b) 3 3) w λw=>af .i64 (c.add 0) w λd=>af .i64 (c.add 1) w λe=>aA (c.add 2) w λf g i=>lE d e f g i w λj l m w=>ij a 1 0 0 j l m w λn o p q r s t u v x y z a1 b1 c1 d1 w=>Al T 34 w λe1 w=>St (e1.add 0) (ae n) w λw=>St (e1.add 1) (ae o) w λw=>St (e1.add 2) (ae p) w λw=>St (e1.add 3) (ae q) w λw=>St (e1.add 4) (.slice r s t) w λw=>St (e1.add 5) (.slice u v x) w λw=>St (e1.add 6) (.int .u64 y) w λw=>St (e1.add 7) (.int .u64 z) w λw=>St (e1.add 8) (.int .u64 a1) w λw=>St (e1.add 9) (.int .u64 b1) w λw=>St (e1.add 10) (.int .u64 c1) w λw=>St (e1.add 11) (.int .u64 d1) w λw=>ij a 3 0 2 none 0 0 w λf1 g1 i1 j1 l1 m1 n1 o1 p1 q1 r1 s1 t1 u1 v1 x1 w=>Al T 34 w λy1 w=>St (y1.add 0) (ae f1) w λw=>St (y1.add 1) (ae g1) w λw=>St (y1.add 2) (ae i1) w λw=>St (y1.add 3) (ae j1) w λw=>St (y1.add 4) (.slice l1 m1 n1) w λw=>St (y1.add 5) (.slice o1 p1 q1) w λw=>St (y1.add 6) (.int .u64 r1) w λw=>St (y1.add 7) (.int .u64 s1) w λw=>St (y1.add 8) (.int .u64 t1) w λw=>St (y1.add 9) (.int .u64 u1) w λw=>St (y1.add 10) (.int .u64 v1) w λw=>St (y1.add 11) (.int .u64 x1) w λw=>ij a 6 2 0 none 0 0 w λz1 a2 b2 c2 d2 e2 f2 g2 i2 j2 l2 m2 n2 o2 p2 q2 w=>Al T 34 w λr2 w=>St (r2.add 0) (ae z1) w λw=>St (r2.add 1) (ae a2) w λw=>St (r2.add 2) (ae b2) w λw=>St (r2.add 3) (ae c2) w λw=>St (r2.add 4) (.slice d2 e2 f2) w λw=>St (r2.add 5) (.slice g2 i2 j2) w λw=>St (r2.add 6) (.int .u64 l2) w λw=>St (r2.add 7) (.int .u64 m2) w λw=>St (r2.add 8) (.int .u64 n2) w λw=>St (r2.add 9) (.int .u64 o2) w λw=>St (r2.add 10) (.int .u64 p2) w λw=>St (r2.add 11) (.int .u64 q2) w λw=>ij a 7 0 0 none 0 0 w λs2 t2 u2 v2 x2 y2 z2 a3 b3 c3 d3 e3 f3 g3 i3 j3 w=>Al T 34 w λl3 w=>St (l3.add 0) (ae s2) w λw=>St (l3.add 1) (ae t2) w λw=>St (l3.add 2) (ae u2) w λw=>St (l3.add 3) (ae v2) w λw=>St (l3.add 4) (.slice x2 y2 z2) w λw=>St (l3.add 5) (.slice a3 b3 c3) w λw=>St (l3.add 6) (.int .u64 d3) w λw=>St (l3.add 7) (.int .u64 e3) w λw=>St (l3.add 8) (.int .u64 f3) w λw=>St (l3.add 9) (.int .u64 g3) w λw=>St (l3.add 10) (.int .u64 i3) w λw=>St (l3.add 11) (.int .u64 j3) w λw=>af .i64 e1 w λm3=>cond (m3==0) (af .i64 (y1.add 3) w λn3=>cond (n3==0) (af .i64 (r2.add 1) w λo3=>cond (o3==11) (af .i64 (r2.add 2) w λp3=>cond (p3==1) (aA (l3.add 4) w λq3 r3 s3=>Bx [ae 0,ae 1] 51 w λt3 w=>tL q3 r3 s3 (some t3) 1 1 w λu3 w=>cond u3 (v7 a w λv3 x3 y3 w=>Q ((x3:Int)==1) w) (Q false w)) (Q false w)) (Q false w)) (Q false w)) (Q false w))) (ok 57) [] [] Tryz.func15
def MZ:=λa w Q=>bB (qi a w Q) (NZ 8<|cond ((Int.tmod a 8)==7) (Q 255 w) (cond (decide (a<160)) (NZ 4<|Q (IntKind.wrap .u8 (1+(Int.tmod a 4))) w) (Q a w))) (ok 12) [] [] Tryz.func36
def sA (P3:L3 (Addr->Addr->Int->WP))(Q:Int->Int->L3 WP)(a:OA)(b c:Nat)(d e:Addr)(f g:Int)(w:World):Prop:=aA (e.add 2) w.drew λi j l=>qi g w.drew λm w=>w.cell? (e.add 2)=some (.slice i j l)/\Bx [.int .u8 m] 5 w λn w=>w.cell? (e.add 2)=some (.slice i j l)/\App P #[22,22] 22 (.slice i j l) (.slice (some n) 1 1) w λo p q w=>St (e.add 2) (.slice o p q) w λw=>P3 a b c d e (IntKind.wrap .i64 (f+1)) w
def zp (Q:Int->Int->L3 WP)(R3:L3 (Addr->Addr->Int->WP))(a:OA)(b c:Nat)(d e:Addr)(f:Int)(w:World):Prop:=af .i64 e w λg=>af .i64 (e.add 1) w λi=>cond (decide (f<(IntKind.wrap .i64 (g*i)))) (cond (decide ((b:Int)>0)) (NZ (b:Int)<|NZ (b:Int)<|aJ (Int.tmod (IntKind.wrap .i64 (f+(IntKind.wrap .i64 ((IntKind.wrap .i64 (Int.tdiv f (b:Int)))*5)))) (b:Int)) b<|wA a λj=>af .u8 (j.add (((Int.tmod (IntKind.wrap .i64 (f+(IntKind.wrap .i64 ((IntKind.wrap .i64 (Int.tdiv f (b:Int)))*5)))) (b:Int))).toNat*1)) w λl=>sA R3 Q a b c d e f l w) (sA R3 Q a b c d e f 1 w)) (af .i64 (e.add 0) w λm=>af .i64 (e.add 1) w λn=>aA (e.add 2) w λo p q=>St (d.add 0) (ae m) w λw=>St (d.add 1) (ae n) w λw=>St (d.add 2) (.slice o p q) w λw=>af .i64 (d.add 0) w λr=>af .i64 (d.add 1) w λs=>aA (d.add 2) w λt u v=>Q r s t u v w)
def jS (Q:Int->Int->L3 WP):Nat->L3 (Addr->Addr->Int->WP)
 |0,_,_,_,_,_,_,_=>False
 |k+1,a,b,c,d,e,f,w=>zp Q (jS Q k) a b c d e f w
noncomputable def x8:cv:=[(9,sp 0 3 (.op 3 (.op 4 (.op 5 (.op 6 (.op 7 .done))))))]
def QG {P3}(Q)(H3:Bk 48 Tryz.f35 (rU Q) 3 [(2,.l),(6,.a),(7,.a),(8,.i .i64)] P3):Bk 48 Tryz.f35 (rU Q) 9 [(2,.l),(6,.a),(7,.a),(8,.i .i64),(9,.i .u8)] (sA P3 Q):=aU (ok 48) x8 [aM H3]
def QH (Q):∀k,Bk 48 Tryz.f35 (rU Q) 3 [(2,.l),(6,.a),(7,.a),(8,.i .i64)] (jS Q k):=bK λk h=>aU (ok 48) x8 [aM (QG Q h)]
def M0:=λa b c d e w Q=>bB (qh a b c d e w Q) (Al T 25 w λf w=>aS a 1 40 w λg w=>aS b 1 40 w λi w=>Al T 25 w λj w=>St (j.add 0) (ae g) w λw=>St (j.add 1) (ae i) w λw=>St (j.add 2) (.slice none 0 0) w λw=>∃k',jS Q k' c d e f j 0 w) (ok 48) x8 [ct (QH Q)] Tryz.func35
def iS (Q:Int->Int->Int->L3 WP)(a:Int)(b c d:Addr)(w:World):Prop:=af .i64 d w λe=>cond (e==1) (af .i64 (b.add 1) w.drew λf=>af .i64 (b.add 2) w.drew λg=>(Bx [.int .u8 2,.int .u8 0,.int .u8 1,.int .u8 0,.int .u8 1,.int .u8 (IntKind.wrap .u8 f),.int .u8 (IntKind.wrap .u8 g)] 5 w.drew λi w=>St (d.add 1) (ae 0) w λw=>w.cell? (b.add 2)=some (ae g)/\w.cell? (b.add 1)=some (ae f)/\St (d.add 2) (ae 0) w λw=>w.cell? (b.add 2)=some (ae g)/\w.cell? (b.add 1)=some (ae f)/\St (d.add 3) (.slice (some i) 7 7) w λw=>af .i64 (d.add 0) w λj=>af .i64 (d.add 1) w λl=>af .i64 (d.add 2) w λm=>aA (d.add 3) w λn o p=>St (c.add 0) (ae j) w λw=>St (c.add 1) (ae l) w λw=>St (c.add 2) (ae m) w λw=>St (c.add 3) (.slice n o p) w λw=>af .i64 (c.add 0) w λq=>af .i64 (c.add 1) w λr=>af .i64 (c.add 2) w λs=>aA (c.add 3) w λt u v=>Q q r s t u v w)/\(St (d.add 1) (ae 0) w.drew λw=>w.cell? (b.add 2)=some (ae g)/\w.cell? (b.add 1)=some (ae f)/\(Bx [.int .u8 2,.int .u8 0,.int .u8 1,.int .u8 0,.int .u8 1,.int .u8 (IntKind.wrap .u8 f),.int .u8 (IntKind.wrap .u8 g)] 5 w λx w=>St (d.add 2) (ae 0) w λw=>w.cell? (b.add 2)=some (ae g)/\w.cell? (b.add 1)=some (ae f)/\St (d.add 3) (.slice (some x) 7 7) w λw=>af .i64 (d.add 0) w λy=>af .i64 (d.add 1) w λz=>af .i64 (d.add 2) w λa1=>aA (d.add 3) w λb1 c1 d1=>St (c.add 0) (ae y) w λw=>St (c.add 1) (ae z) w λw=>St (c.add 2) (ae a1) w λw=>St (c.add 3) (.slice b1 c1 d1) w λw=>af .i64 (c.add 0) w λe1=>af .i64 (c.add 1) w λf1=>af .i64 (c.add 2) w λg1=>aA (c.add 3) w λi1 j1 l1=>Q e1 f1 g1 i1 j1 l1 w)/\(St (d.add 2) (ae 0) w λw=>w.cell? (b.add 2)=some (ae g)/\w.cell? (b.add 1)=some (ae f)/\Bx [.int .u8 2,.int .u8 0,.int .u8 1,.int .u8 0,.int .u8 1,.int .u8 (IntKind.wrap .u8 f),.int .u8 (IntKind.wrap .u8 g)] 5 w λm1 w=>St (d.add 3) (.slice (some m1) 7 7) w λw=>af .i64 (d.add 0) w λn1=>af .i64 (d.add 1) w λo1=>af .i64 (d.add 2) w λp1=>aA (d.add 3) w λq1 r1 s1=>St (c.add 0) (ae n1) w λw=>St (c.add 1) (ae o1) w λw=>St (c.add 2) (ae p1) w λw=>St (c.add 3) (.slice q1 r1 s1) w λw=>af .i64 (c.add 0) w λt1=>af .i64 (c.add 1) w λu1=>af .i64 (c.add 2) w λv1=>aA (c.add 3) w λx1 y1 z1=>Q t1 u1 v1 x1 y1 z1 w))) (cond (e==2) (af .i64 (b.add 1) w λa2=>aS a2 0 (IntKind.wrap .i64 (a-1)) w λb2 w=>St (d.add 1) (ae b2) w λw=>af .i64 (b.add 1) w λc2=>aS c2 0 1 w λd2 w=>St (d.add 2) (ae (IntKind.wrap .i64 (d2*255))) w λw=>af .i64 (d.add 0) w λe2=>af .i64 (d.add 1) w λf2=>af .i64 (d.add 2) w λg2=>aA (d.add 3) w λi2 j2 l2=>St (c.add 0) (ae e2) w λw=>St (c.add 1) (ae f2) w λw=>St (c.add 2) (ae g2) w λw=>St (c.add 3) (.slice i2 j2 l2) w λw=>af .i64 (c.add 0) w λm2=>af .i64 (c.add 1) w λn2=>af .i64 (c.add 2) w λo2=>aA (c.add 3) w λp2 q2 r2=>Q m2 n2 o2 p2 q2 r2 w) (cond (e==5) (St (d.add 2) (ae 0) w λw=>af .i64 (d.add 0) w λs2=>af .i64 (d.add 1) w λt2=>af .i64 (d.add 2) w λu2=>aA (d.add 3) w λv2 x2 y2=>St (c.add 0) (ae s2) w λw=>St (c.add 1) (ae t2) w λw=>St (c.add 2) (ae u2) w λw=>St (c.add 3) (.slice v2 x2 y2) w λw=>af .i64 (c.add 0) w λz2=>af .i64 (c.add 1) w λa3=>af .i64 (c.add 2) w λb3=>aA (c.add 3) w λc3 d3 e3=>Q z2 a3 b3 c3 d3 e3 w) (af .i64 (d.add 0) w λf3=>af .i64 (d.add 1) w λg3=>af .i64 (d.add 2) w λi3=>aA (d.add 3) w λj3 l3 m3=>St (c.add 0) (ae f3) w λw=>St (c.add 1) (ae g3) w λw=>St (c.add 2) (ae i3) w λw=>St (c.add 3) (.slice j3 l3 m3) w λw=>af .i64 (c.add 0) w λn3=>af .i64 (c.add 1) w λo3=>af .i64 (c.add 2) w λp3=>aA (c.add 3) w λq3 r3 s3=>Q n3 o3 p3 q3 r3 s3 w)))
noncomputable def D8:cv:=[(1,sp 0 2 (sp 3 3 (sp 8 2 (.br (.op 2 (.br (.op 6 (.op 7 (.br (.op 10 (.op 11 (.op 12 (.op 13 .done)))) (.op 12 (.op 10 (.op 11 (.op 13 .done))))))) (.op 12 (.op 6 (.op 7 (.op 10 (.op 11 (.op 13 .done)))))))) (.op 12 (.op 2 (.op 6 (.op 7 (.op 10 (.op 11 (.op 13 .done))))))))))),(4,sp 0 6 (.op 7 (.br (.op 6 (.op 8 (.op 9 (.op 10 (.op 11 (.op 12 .done)))))) (.op 8 (.op 9 (.br (.op 6 (.op 10 (.op 11 (.op 12 .done)))) (.op 10 (.op 6 (.op 11 (.op 12 .done))))))))))]
def QI (Q):Bk 49 Tryz.f37 (Fc Q) 2 [(1,.i .i64),(2,.a),(4,.a),(5,.a)] (iS Q):=aU (ok 49) D8 []
def M1:=λa b c d w Q=>bB (v_ a b c d w Q) (Bx [ae a,ae b,ae c] 90 w λe w=>Al T 38 w λf w=>af .i64 (e.add 2) w.drew λg=>af .i64 (e.add 1) w.drew λi=>af .i64 (e.add 1) w.drew λj=>(aS g 1 6 w.drew λl w=>w.cell? (e.add 1)=some (ae j)/\w.cell? (e.add 1)=some (ae i)/\(aS i 0 5 w λm w=>w.cell? (e.add 1)=some (ae j)/\(aS j 0 9 w λn w=>Al T 38 w λo w=>w.cell? (e.add 1)=some (ae j)/\w.cell? (e.add 1)=some (ae i)/\w.cell? (e.add 2)=some (ae g)/\St (o.add 0) (ae l) w λw=>St (o.add 1) (ae (IntKind.wrap .i64 (d+m))) w λw=>St (o.add 2) (ae n) w λw=>St (o.add 3) (.slice none 0 0) w λw=>iS Q d e f o w)/\(Al T 38 w λp w=>w.cell? (e.add 1)=some (ae j)/\w.cell? (e.add 1)=some (ae i)/\w.cell? (e.add 2)=some (ae g)/\aS j 0 9 w λq w=>St (p.add 0) (ae l) w λw=>St (p.add 1) (ae (IntKind.wrap .i64 (d+m))) w λw=>St (p.add 2) (ae q) w λw=>St (p.add 3) (.slice none 0 0) w λw=>iS Q d e f p w))/\(Al T 38 w λr w=>w.cell? (e.add 1)=some (ae j)/\w.cell? (e.add 1)=some (ae i)/\w.cell? (e.add 2)=some (ae g)/\aS i 0 5 w λs w=>w.cell? (e.add 1)=some (ae j)/\aS j 0 9 w λt w=>St (r.add 0) (ae l) w λw=>St (r.add 1) (ae (IntKind.wrap .i64 (d+s))) w λw=>St (r.add 2) (ae t) w λw=>St (r.add 3) (.slice none 0 0) w λw=>iS Q d e f r w))/\(Al T 38 w.drew λu w=>w.cell? (e.add 1)=some (ae j)/\w.cell? (e.add 1)=some (ae i)/\w.cell? (e.add 2)=some (ae g)/\aS g 1 6 w λv w=>w.cell? (e.add 1)=some (ae j)/\w.cell? (e.add 1)=some (ae i)/\aS i 0 5 w λx w=>w.cell? (e.add 1)=some (ae j)/\aS j 0 9 w λy w=>St (u.add 0) (ae v) w λw=>St (u.add 1) (ae (IntKind.wrap .i64 (d+x))) w λw=>St (u.add 2) (ae y) w λw=>St (u.add 3) (.slice none 0 0) w λw=>iS Q d e f u w)) (ok 49) D8 [aM (QI Q)] Tryz.func37
def cQ (P5:Int->Int->L3 (L3 (Addr->L3 (Int->Int->WP))))(Q:L3 WP)(a b:Int)(c:OA)(d e:Nat)(f:OA)(g i:Nat)(j:Addr)(l:OA)(m n:Nat)(o p:Int)(q:Addr)(w:World):Prop:=af .i64 (q.add 0) w λr=>af .i64 (q.add 1) w λs=>af .i64 (q.add 2) w λt=>aA (q.add 3) w λu v x=>Bx [ae r,ae s,ae t,.slice u v x] 38 w λy w=>App P #[46,46] 46 (.slice l m n) (.slice (some y) 1 1) w λz a1 b1 w=>P5 a b c d e f g i j z a1 b1 o (IntKind.wrap .i64 (p+1)) w
def m7 (P5:Int->Int->L3 (L3 (Addr->L3 (Int->Int->WP))))(Q:L3 WP)(a b:Int)(c:OA)(d e:Nat)(f:OA)(g i:Nat)(j:Addr)(l:OA)(m n:Nat)(o p:Int)(q:Addr)(w:World):Prop:=St q (ae 3) w λw=>cQ P5 Q a b c d e f g i j l m n o p q w
def qq (P5:Int->Int->L3 (L3 (Addr->L3 (Int->Int->WP))))(Q:L3 WP)(a b:Int)(c:OA)(d e:Nat)(f:OA)(g i:Nat)(j:Addr)(l:OA)(m n:Nat)(o p:Int)(q r:Addr)(w:World):Prop:=af .i64 (q.add 2) w λs=>qi (IntKind.wrap .u8 s) w λt w=>St r (ae 2) w λw=>St (r.add 2) (ae (IntKind.wrap .i64 t)) w λw=>cQ P5 Q a b c d e f g i j l m n o p r w
def jr (P5:Int->Int->L3 (L3 (Addr->L3 (Int->Int->WP))))(Q:L3 WP)(a b:Int)(c:OA)(d e:Nat)(f:OA)(g i:Nat)(j:Addr)(l:OA)(m n:Nat)(o p:Int)(q r:Addr)(w:World):Prop:=af .i64 q w λs=>aS s 0 15 w λt w=>cond (t==0) (m7 P5 Q a b c d e f g i j l m n o p r w) (cond (t==1) (m7 P5 Q a b c d e f g i j l m n o p r w) (cond (t==2) (m7 P5 Q a b c d e f g i j l m n o p r w) (cond (t==3) (af .i64 (q.add 1) w λu=>aS u 0 9 w λv w=>St r (ae 4) w λw=>St (r.add 1) (ae v) w λw=>cQ P5 Q a b c d e f g i j l m n o p r w) (cond (t==4) (af .i64 (q.add 1) w λx=>aS x 0 9 w λy w=>St r (ae 5) w λw=>St (r.add 1) (ae y) w λw=>St (r.add 2) (ae 0) w λw=>cQ P5 Q a b c d e f g i j l m n o p r w) (cond (t==5) (qq P5 Q a b c d e f g i j l m n o p q r w) (cond (t==6) (qq P5 Q a b c d e f g i j l m n o p q r w) (cond (t==7) (St r (ae 6) w λw=>cQ P5 Q a b c d e f g i j l m n o p r w) (cond (t==8) (St r (ae 6) w λw=>cQ P5 Q a b c d e f g i j l m n o p r w) (cond (t==9) (St (r.add 0) (ae 8) w λw=>St (r.add 1) (ae 0) w λw=>St (r.add 2) (ae 0) w λw=>St (r.add 3) (.slice none 0 0) w λw=>cQ P5 Q a b c d e f g i j l m n o p r w) (cond (t==10) (af .i64 (q.add 1) w λz=>NZ 4<|cond ((Int.tmod z 4)==0) (af .i64 (q.add 1) w λa1=>NZ 4<|af .i64 (q.add 2) w λb1=>qh (IntKind.wrap .i64 (a+(IntKind.wrap .i64 (Int.tdiv a1 4)))) (IntKind.wrap .i64 (b+b1)) c d e w λc1 d1 e1 f1 g1 w=>St (j.add 0) (ae c1) w λw=>St (j.add 1) (ae d1) w λw=>St (j.add 2) (.slice e1 f1 g1) w λw=>aA (j.add 2) w λi1 j1 l1=>af .i64 (j.add 0) w λm1=>af .i64 (j.add 1) w λn1=>aA (j.add 2) w λo1 p1 q1=>lE m1 n1 o1 p1 q1 w λr1 s1 t1 w=>St (r.add 0) (ae 1) w λw=>St (r.add 1) (ae 0) w λw=>St (r.add 2) (ae 0) w λw=>St (r.add 3) (.slice r1 s1 t1) w λw=>cQ P5 Q a b c d e f g i j l m n (j1:Int) p r w) (af .i64 (q.add 2) w λu1=>aS u1 0 200 w λv1 w=>St (r.add 0) (ae 0) w λw=>St (r.add 1) (ae (IntKind.wrap .i64 (9+v1))) w λw=>St (r.add 2) (ae 0) w λw=>St (r.add 3) (.slice none 0 0) w λw=>cQ P5 Q a b c d e f g i j l m n o p r w)) (cond (t==11) (af .i64 (q.add 0) w λx1=>af .i64 (q.add 1) w λy1=>af .i64 (q.add 2) w λz1=>v_ x1 y1 z1 o w λa2 b2 c2 d2 e2 f2 w=>St (r.add 0) (ae a2) w λw=>St (r.add 1) (ae b2) w λw=>St (r.add 2) (ae c2) w λw=>St (r.add 3) (.slice d2 e2 f2) w λw=>cQ P5 Q a b c d e f g i j l m n o p r w) (St (r.add 0) (ae 7) w λw=>St (r.add 1) (ae 0) w λw=>St (r.add 2) (ae 0) w λw=>St (r.add 3) (.slice none 0 0) w λw=>cQ P5 Q a b c d e f g i j l m n o p r w))))))))))))
def nM (Q:L3 WP)(R5:Int->Int->L3 (L3 (Addr->L3 (Int->Int->WP))))(a b:Int)(c:OA)(d e:Nat)(f:OA)(g i:Nat)(j:Addr)(l:OA)(m n:Nat)(o p:Int)(w:World):Prop:=cond (decide (p<(g:Int))) (cond (decide (p<60)) (aJ p g<|wA f λq=>af .i64 ((q.add (p.toNat*3)).add 0) w λr=>af .i64 ((q.add (p.toNat*3)).add 1) w λs=>af .i64 ((q.add (p.toNat*3)).add 2) w λt=>Al T 90 w λu w=>St (u.add 0) (ae r) w λw=>St (u.add 1) (ae s) w λw=>St (u.add 2) (ae t) w λw=>af .i64 (u.add 1) w.drew λv=>af .i64 (u.add 2) w.drew λx=>(aS v 0 (IntKind.wrap .i64 (o-1)) w.drew λy w=>w.cell? (u.add 2)=some (ae x)/\(aS x 0 (IntKind.wrap .i64 (o-1)) w λz w=>Al T 38 w λa1 w=>w.cell? (u.add 2)=some (ae x)/\w.cell? (u.add 1)=some (ae v)/\St (a1.add 0) (ae 0) w λw=>St (a1.add 1) (ae y) w λw=>St (a1.add 2) (ae z) w λw=>St (a1.add 3) (.slice none 0 0) w λw=>jr R5 Q a b c d e f g i j l m n o p u a1 w)/\(Al T 38 w λb1 w=>w.cell? (u.add 2)=some (ae x)/\w.cell? (u.add 1)=some (ae v)/\aS x 0 (IntKind.wrap .i64 (o-1)) w λc1 w=>St (b1.add 0) (ae 0) w λw=>St (b1.add 1) (ae y) w λw=>St (b1.add 2) (ae c1) w λw=>St (b1.add 3) (.slice none 0 0) w λw=>jr R5 Q a b c d e f g i j l m n o p u b1 w))/\(Al T 38 w.drew λd1 w=>w.cell? (u.add 2)=some (ae x)/\w.cell? (u.add 1)=some (ae v)/\aS v 0 (IntKind.wrap .i64 (o-1)) w λe1 w=>w.cell? (u.add 2)=some (ae x)/\aS x 0 (IntKind.wrap .i64 (o-1)) w λf1 w=>St (d1.add 0) (ae 0) w λw=>St (d1.add 1) (ae e1) w λw=>St (d1.add 2) (ae f1) w λw=>St (d1.add 3) (.slice none 0 0) w λw=>jr R5 Q a b c d e f g i j l m n o p u d1 w)) (Q l m n w)) (Q l m n w)
def jt (Q:L3 WP):Nat->Int->Int->L3 (L3 (Addr->L3 (Int->Int->WP)))
 |0,_,_,_,_,_,_,_,_,_,_,_,_,_,_,_=>False
 |k+1,a,b,c,d,e,f,g,i,j,l,m,n,o,p,w=>nM Q (jt Q k) a b c d e f g i j l m n o p w
noncomputable def kB:cv:=[(8,sp 0 4 (sp 5 4 (.br (.op 4 (.br (.op 9 (.op 10 (.op 11 (.op 12 .done)))) (.op 11 (.op 9 (.op 10 (.op 12 .done)))))) (.op 11 (.op 4 (.op 9 (.op 10 (.op 12 .done))))))))]
def wE {P5}(Q)(H5:Bk 130 Tryz.f16 (fK Q) 5 [(0,.i .i64),(1,.i .i64),(2,.l),(3,.l),(9,.a),(10,.l),(11,.i .i64),(12,.i .i64)] P5):Bk 130 Tryz.f16 (fK Q) 35 [(0,.i .i64),(1,.i .i64),(2,.l),(3,.l),(9,.a),(10,.l),(11,.i .i64),(12,.i .i64),(14,.a)] (cQ P5 Q):=aU (ok 130) kB [aM H5]
def M3 {P5}(Q)(H5:Bk 130 Tryz.f16 (fK Q) 5 [(0,.i .i64),(1,.i .i64),(2,.l),(3,.l),(9,.a),(10,.l),(11,.i .i64),(12,.i .i64)] P5):Bk 130 Tryz.f16 (fK Q) 14 [(0,.i .i64),(1,.i .i64),(2,.l),(3,.l),(9,.a),(10,.l),(11,.i .i64),(12,.i .i64),(14,.a)] (m7 P5 Q):=aU (ok 130) kB [aM (wE Q H5)]
def M4 {P5}(Q)(H5:Bk 130 Tryz.f16 (fK Q) 5 [(0,.i .i64),(1,.i .i64),(2,.l),(3,.l),(9,.a),(10,.l),(11,.i .i64),(12,.i .i64)] P5):Bk 130 Tryz.f16 (fK Q) 21 [(0,.i .i64),(1,.i .i64),(2,.l),(3,.l),(9,.a),(10,.l),(11,.i .i64),(12,.i .i64),(13,.a),(14,.a)] (qq P5 Q):=aU (ok 130) kB [aM (wE Q H5)]
def OM {P5}(Q)(H5:Bk 130 Tryz.f16 (fK Q) 5 [(0,.i .i64),(1,.i .i64),(2,.l),(3,.l),(9,.a),(10,.l),(11,.i .i64),(12,.i .i64)] P5):Bk 130 Tryz.f16 (fK Q) 9 [(0,.i .i64),(1,.i .i64),(2,.l),(3,.l),(9,.a),(10,.l),(11,.i .i64),(12,.i .i64),(13,.a),(14,.a)] (jr P5 Q):=aU (ok 130) kB [aM (M3 Q H5),aM (M4 Q H5),aM (wE Q H5)]
def OO (Q):∀k,Bk 130 Tryz.f16 (fK Q) 5 [(0,.i .i64),(1,.i .i64),(2,.l),(3,.l),(9,.a),(10,.l),(11,.i .i64),(12,.i .i64)] (jt Q k):=bK λk h=>aU (ok 130) kB [aM (OM Q h)]
def Lv:=λa b c d e f g i w Q=>bB (uS a b c d e f g i w Q) (qh a b c d e w λj l m n o w=>Al T 25 w λp w=>St (p.add 0) (ae j) w λw=>St (p.add 1) (ae l) w λw=>St (p.add 2) (.slice m n o) w λw=>af .i64 (p.add 0) w λq=>af .i64 (p.add 1) w λr=>aA (p.add 2) w λs t u=>lE q r s t u w λv x y w=>Bx [ae 1,ae 0,ae 0,.slice v x y] 38 w λz w=>aA (p.add 2) w λa1 b1 c1=>∃k',jt Q k' a b c d e f g i p (some z) 1 1 (b1:Int) 0 w) (ok 130) kB [ct (OO Q)] Tryz.func16
def QJ:=λa b c d w Q=>bB (yH a b c d w Q) (bU a b c 3 none (some (Dr (b:Int) d)) λe f g=>Q e f g w) (ok 11) [] [] Tryz.func17
noncomputable def V0:cv:=[(3,sp 0 15 (.op 15 (.op 16 (.op 17 .done))))]
def UL:=λa w Q=>bB (A0 a w Q) (Al T 25 w λb w=>cond a.isNone (St (b.add 0) (ae 0) w λw=>St (b.add 1) (ae 0) w λw=>St (b.add 2) (.slice none 0 0) w λw=>af .i64 (b.add 0) w λc=>af .i64 (b.add 1) w λd=>aA (b.add 2) w λe f g=>Q c d e f g w) (wA a λi=>af .i64 i w.drew λj=>wA a λl=>af .i64 (l.add 1) w.drew λm=>wA a λn=>aA (n.add 2) w.drew λo p q=>jJ o p q w.drew λr s t w=>w.cell? (l.add 1)=some (ae m)/\w.cell? i=some (ae j)/\St (b.add 0) (ae j) w λw=>St (b.add 1) (ae m) w λw=>St (b.add 2) (.slice r s t) w λw=>af .i64 (b.add 0) w λu=>af .i64 (b.add 1) w λv=>aA (b.add 2) w λx y z=>Q u v x y z w)) (ok 23) V0 [] Tryz.func67
def X8:=λa w Q=>bB (Dv a w Q) (Al T 25 w λb w=>cond a.isNone (St (b.add 0) (ae 0) w λw=>St (b.add 1) (ae 0) w λw=>St (b.add 2) (.slice none 0 0) w λw=>af .i64 (b.add 0) w λc=>af .i64 (b.add 1) w λd=>aA (b.add 2) w λe f g=>Q c d e f g w) (wA a λi=>bg i w λj=>A0 j w λl m n o p w=>St (b.add 0) (ae l) w λw=>St (b.add 1) (ae m) w λw=>St (b.add 2) (.slice n o p) w λw=>af .i64 (b.add 0) w λq=>af .i64 (b.add 1) w λr=>aA (b.add 2) w λs t u=>Q q r s t u w)) (ok 11) [] [] Tryz.func40
def QK:=λa w Q=>bB (n7 a w Q) (Al T 25 w λb w=>yI a w λc w=>Dv c w λd e f g i w=>St (b.add 0) (ae d) w λw=>St (b.add 1) (ae e) w λw=>St (b.add 2) (.slice f g i) w λw=>af .i64 (b.add 0) w λj=>af .i64 (b.add 1) w λl=>aA (b.add 2) w λm n o=>Q j l m n o w) (ok 6) [] [] Tryz.func19
def oJ (Q:Bool->WP)(R2:L3 (Int->WP))(a:OA)(b c:Nat)(d:Int)(w:World):Prop:=cond (decide (d<(b:Int))) (aJ d b<|wA a λe=>af .u8 (e.add (d.toNat*1)) w λf=>cond (f==0) (Q false w) (R2 a b c (IntKind.wrap .i64 (d+1)) w)) (Q true w)
def sB (Q:Bool->WP):Nat->L3 (Int->WP)
 |0,_,_,_,_,_=>False
 |k+1,a,b,c,d,w=>oJ Q (sB Q k) a b c d w
def QL (Q):∀k,Bk 15 Tryz.f66 (Ff Q) 2 [(0,.l),(3,.i .i64)] (sB Q k):=bK λk h=>aU (ok 15) [] [aM h]
def M5:=λa b c w Q=>bB (Dd a b c w Q) (∃k',sB Q k' a b c 0 w) (ok 15) [] [ct (QL Q)] Tryz.func66
def Kq:=λa b c d e w Q=>bB (tM a b c d e w Q) (Bx [ae a,ae b,.slice c d e] 25 w λf w=>af .i64 f w λg=>af .i64 (f.add 1) w λi=>q9 g i w λj w=>cond j (aA (f.add 2) w λl m n=>af .i64 f w λo=>af .i64 (f.add 1) w λp=>cond ((m:Int)==(IntKind.wrap .i64 (o*p))) (aA (f.add 2) w λq r s=>Dd q r s w λt w=>Q t w) (Q false w)) (Q false w)) (ok 24) [] [] Tryz.func38
def nN (Q:OA->WP)(R6:OA->L3 (Int->WP))(a b:OA)(c d:Nat)(e:Int)(w:World):Prop:=cond (decide (e<(c:Int))) (aJ e c<|wA b λf=>af .i64 ((f.add (e.toNat*4)).add 0) w λg=>af .i64 ((f.add (e.toNat*4)).add 1) w λi=>af .i64 ((f.add (e.toNat*4)).add 2) w λj=>aA ((f.add (e.toNat*4)).add 3) w λl m n=>ij a g i j l m n w λo p q r s t u v x y z a1 b1 c1 d1 e1 w=>R6 a b c d (IntKind.wrap .i64 (e+1)) w) (n7 a w λf1 g1 i1 j1 l1 w=>tM f1 g1 i1 j1 l1 w λm1 w=>cond (!m1) (Q none w) (Q a w))
def rq (Q:OA->WP):Nat->OA->L3 (Int->WP)
 |0,_,_,_,_,_,_=>False
 |k+1,a,b,c,d,e,w=>nN Q (rq Q k) a b c d e w
def OP (Q):∀k,Bk 43 Tryz.f18 (DV Q) 6 [(13,.p),(14,.l),(15,.i .i64)] (rq Q k):=bK λk h=>aU (ok 43) [] [aM h]
def Lw:=λa b c d e f g i j l w Q=>bB (uT a b c d e f g i j l w Q) (Em a b w λm w=>cond m.isNone (Q none w) (uS c d e f g i j l w λn o p w=>∃k',rq Q k' m n o p 0 w)) (ok 43) [] [ct (OP Q)] Tryz.func18
noncomputable def OQ:cv:=[(2,sp 0 7 (.op 7 (.op 8 (.op 9 .done))))]
def M6:=λa b c w Q=>bB (qg a b c w Q) (ij a 6 b c none 0 0 w λd e f g i j l m n o p q r s t u w=>Al T 34 w λv w=>St (v.add 0) (ae d) w λw=>St (v.add 1) (ae e) w λw=>St (v.add 2) (ae f) w λw=>St (v.add 3) (ae g) w λw=>St (v.add 4) (.slice i j l) w λw=>St (v.add 5) (.slice m n o) w λw=>St (v.add 6) (.int .u64 p) w λw=>St (v.add 7) (.int .u64 q) w λw=>St (v.add 8) (.int .u64 r) w λw=>St (v.add 9) (.int .u64 s) w λw=>St (v.add 10) (.int .u64 t) w λw=>St (v.add 11) (.int .u64 u) w λw=>af .i64 (v.add 1) w.drew λx=>af .i64 (v.add 2) w.drew λy=>af .i64 v w.drew λz=>w.drew.cell? v=some (ae z)/\w.drew.cell? (v.add 2)=some (ae y)/\w.drew.cell? v=some (ae z)/\Q x y (z==0) w.drew) (ok 22) OQ [] Tryz.func20
def m8 (Q:Bool->WP)(Yu:OA->Addr->Int->Int->Int->Int->Int->WP)(a:OA)(b:Addr)(c d e f g:Int)(w:World):Prop:=cond (decide (f<=3)) (af .i64 b w λi=>af .i64 (b.add 1) w λj=>l6 i j d f w λl w=>cond (decide (l<0)) (Q false w) (aA (b.add 2) w λm n o=>cond (decide (l≥(n:Int))) (Q false w) (aA (b.add 2) w λp q r=>aJ l q<|wA p λs=>af .u8 (s.add (l.toNat*1)) w λt=>cond (t==255) (Q false w) (aA (b.add 2) w λu v x=>cond (decide (g>(v:Int))) (Q false w) (aA (b.add 2) w λy z a1=>aJ l z<|wA y λb1=>af .u8 (b1.add (l.toNat*1)) w λc1=>qg a c l w λd1 e1 f1 w=>cond (!f1) (Q false w) (cond (d1 !=(IntKind.wrap .i64 (e-(IntKind.wrap .i64 c1)))) (Q false w) (Yu a b c l (IntKind.wrap .i64 (e-(IntKind.wrap .i64 c1))) e1 (IntKind.wrap .i64 (g+1)) w))))))) (v8 w λg1 w=>cond g1 (cond (f==5) (Q true w) (cond (f==4) (cond (d==c) (Q (e==0) w) (Q false w)) (Q false w))) (Q false w))
def qt (Q:Bool->WP):Nat->OA->Addr->Int->Int->Int->Int->Int->WP
 |0,_,_,_,_,_,_,_,_=>False
 |k+1,a,b,c,d,e,f,g,w=>m8 Q (qt Q k) a b c d e f g w
noncomputable def Dl:cv:=[(5,sp 0 5 (sp 6 5 (.op 5 (.op 11 (.op 12 (.op 13 .done))))))]
def M7 (Q):∀k,Bk 148 Tryz.f5 (DU Q) 10 [(15,.p),(16,.a),(17,.i .i64),(18,.i .i64),(19,.i .i64),(20,.i .i64),(22,.i .i64)] (qt Q k):=bK λk h=>aU (ok 148) Dl [aM h]
def Lx:=λa b c d e f g i j l m w Q=>bB (BQ a b c d e f g i j l m w Q) (aS a 1 3 w λn w=>yH g i j 12 w λo p q w=>uT n 5 b c d e f o p q w λr w=>cond r.isNone (Q false w) (n7 r w λs t u v x w=>Al T 25 w λy w=>St (y.add 0) (ae s) w λw=>St (y.add 1) (ae t) w λw=>St (y.add 2) (.slice u v x) w λw=>aA (y.add 2) w.drew λz a1 b1=>aA (y.add 2) w.drew λc1 d1 e1=>aS l 0 (IntKind.wrap .i64 ((a1:Int)-1)) w.drew λf1 w=>w.cell? (y.add 2)=some (.slice c1 d1 e1)/\aS m 0 (IntKind.wrap .i64 ((d1:Int)-1)) w λg1 w=>qg r f1 g1 w λi1 j1 l1 w=>cond (!l1) (Q false w) (cond (decide (i1<0)) (Q false w) (cond (!((j1==5)==(i1==1099511627776))) (Q false w) (∃k',qt Q k' r y f1 g1 i1 j1 0 w))))) (ok 148) Dl [ct (M7 Q)] Tryz.func5
def SB:=λa w Q=>bB (Gd a w Q) (wA a λb=>bZ (b.add 1) w λc=>dV c λd=>Q d w) (ok 7) [] [] Tryz.func302
def M8:=λa w Q=>bB (Dg a w Q) (wA a λb=>bZ (b.add 1) w λc=>dV c λd=>Q d w) (ok 7) [] [] Tryz.func321
def QM:=λa w Q=>bB (Fm a w Q) (wA a λb=>bZ (b.add 1) w λc=>dV c λd=>Q d w) (ok 7) [] [] Tryz.func325
end Go.Proofs.YtmegplnmiepfbaaGreatDoor.S
namespace Go.Proofs.YtmegplnmiepfbaaGreatDoor.S
open Go.Sx
attribute [local irreducible] af cD bw bg aA cu bZ St Bx Al App cH cA cz bX aL bD aq bU av ak aW mapA
def ee:wO P T:=EB P rows HB
def cV {a b:Int}(h:a=b):(a==b)=true:=by grind
def cy {a b:Int}(h:¬a=b):(a==b)=false:=by grind
def Gl {a b:Int}(h:¬a=b):(a !=b)=true:=by grind
def Es {a b:Int}(h:a=b):(a !=b)=false:=by grind
section
variable {F:Nat->Prop}{W w0:World}{L:List As}{mw mh c:Int}
def pL {Q:Bool->World->Prop}(h:Q (decide (iO mw mh)) w0):lF mw mh w0 Q:=by
 apply abd;have e:decide (iO mw mh)=(decide (mw≥1)&&(decide (mw<=1024)&&(decide (mh≥1)&&decide (mh<=1024)))):=by rw[Bool.eq_iff_iff];simp[Bool.and_eq_true,decide_eq_true_eq];exact⟨λ⟨⟨a,b⟩,c,d⟩=>⟨a,b,c,d⟩,λ⟨a,b,c,d⟩=>⟨⟨a,b⟩,c,d⟩⟩
 grind
def HR {Q:Bool->World->Prop}(h:Q (decide (bF mw mh c)) w0):yK mw mh c w0 Q:=by
 apply adz;apply pL;by_cases hm:iO mw mh
 ·have:=mU hm;rw[bM hm,aG];have e:decide (bF mw mh c)=(decide (c≥0)&&decide (c<mw*mh)):=by rw[Bool.eq_iff_iff];simp[bF,Bool.and_eq_true,decide_eq_true_eq,hm,true_and,ge_iff_le]
  grind
 ·rw[bp hm];rw[decide_eq_false (λe=>hm e.1)]at h;exact h
def qT {x y:Int}{Q:Int->World->Prop}(h:Q (gW mw mh x y) w0):zX mw mh x y w0 Q:=by
 apply Zs;apply pL;by_cases hm:iO mw mh
 ·rw[decide_eq_true hm,Bool.not_true,cond_false];by_cases h1:x<0
  ·rw[bM h1];rw[sH (by omega)]at h;exact h
  rw[bp h1];by_cases h2:x≥mw
  ·rw[bM h2];rw[sH (by omega)]at h;exact h
  rw[bp h2];by_cases h3:y<0
  ·rw[bM h3];rw[sH (by omega)]at h;exact h
  rw[bp h3];by_cases h4:y≥mh
  ·rw[bM h4];rw[sH (by omega)]at h;exact h
  rw[bp h4];rw[m_ hm (by omega) (by omega)]at h;have hr:=IP (aaZ (x:=x) (y:=y) hm (by omega) (by omega));have h0:0<=y*mw:=Int.mul_nonneg (by omega) (by omega);rw[aG (n:=y*mw),aG];exact h
 ·unfold gW at h;grind
def DI {Q:Int->Int->World->Prop}(s0:Sep F W w0 L)(h:∀w',Sep F W w' L->Fr No w0 w'->Q (if bF mw mh c then c%mw else-1) (if bF mw mh c then c/mw else-1) w'):sV mw mh c w0 Q:=by
 apply XR;apply HR;by_cases hc:bF mw mh c
 ·have U7:=hc.2;have hx:=Ip hc;have D9:=hc.1.2;rw[decide_eq_true hc,Bool.not_true,cond_false];refine⟨by omega,⟨by omega,?_⟩⟩;rw[Int.tmod_eq_emod_of_nonneg U7.1,Int.tdiv_eq_ediv_of_nonneg U7.1,aG];have:=h _ (ay s0) Fr.refl;grind
 ·have:=h _ s0 Fr.refl;grind
def ju {sd:Int}{Q:Int->World->Prop}(s0:Sep F W w0 L)(h:∀w',Sep F W w' L->Fr No w0 w'->Q (a_ mw mh c sd) w'):l6 mw mh c sd w0 Q:=by
 apply Zv;refine DI s0 λw s f=>?_;have h:=h w s f;unfold a_ at h;by_cases hc:bF mw mh c
 ·rw[if_pos hc,if_pos hc];rw[if_pos hc]at h;have hx:=Ip hc;have hm:=hc.1.1;have D9:=hc.1.2;rw[bp];by_cases k0:sd=0
  ·rw[cV k0,cond_true];rw[if_pos k0]at h;unfold xg nj;rw[aG];exact qT h
  rw[cy k0,cond_false];rw[if_neg k0]at h;by_cases k2:sd=2
  ·rw[cV k2,cond_true];rw[if_pos k2]at h;unfold xg nj;rw[aG];exact qT h
  rw[cy k2,cond_false];rw[if_neg k2]at h;by_cases k3:sd=3
  ·rw[cV k3,cond_true];rw[if_pos k3]at h;unfold xh nj;rw[aG];exact qT h
  rw[cy k3,cond_false];rw[if_neg k3]at h;by_cases k1:sd=1
  ·rw[cV k1,cond_true];rw[if_pos k1]at h;unfold xh nj;rw[aG];exact qT h
  rw[cy k1,cond_false];rw[if_neg k1]at h;by_cases k4:sd=4
  ·rw[cV k4,cond_true];rw[if_pos k4]at h;exact qT h
  grind
 grind
def Ak (w h a b:Int):Int:=
 if bF w h a/\bF w h b then if a_ w h a 0=b then 0 else if a_ w h a 1=b then 1 else if a_ w h a 2=b then 2 else if a_ w h a 3=b then 3 else if a_ w h a 4=b then 4 else 5 else 5
def ZQ {b:Int}{Q:Int->World->Prop}(s0:Sep F W w0 L)(h:∀w',Sep F W w' L->Fr No w0 w'->Q (Ak mw mh c b) w'):EL mw mh c b w0 Q:=by
 apply ZA;apply HR;by_cases hc:bF mw mh c
 ·rw[decide_eq_true hc,Bool.not_true,cond_false];apply HR;by_cases hb:bF mw mh b
  ·rw[decide_eq_true hb,Bool.not_true,cond_false];have s:=bh (F:=No) (w:=w0);have fin:∀(w:World) (r:Int),Ak mw mh c b=r->Sep No w0 w []->Q r w:=by intro w r e s;subst e;exact h _ (bR s0 (au s)) (au s)
   unfold Ak at fin;refine⟨6,?_⟩;show iC Q (mP Q 5) _ _ _ _ _ _;unfold iC;refine ju s λw s _=>?_;by_cases k0:a_ mw mh c 0=b
   ·grind
   rw[cy k0,cond_false,wrap_i64 (by decide) (by decide)];show iC Q (mP Q 4) _ _ _ _ _ _;unfold iC;refine ju s λw s _=>?_;by_cases k0:a_ mw mh c 1=b
   ·grind
   rw[show(a_ mw mh c (0+1)==b)=false from cy k0,cond_false,wrap_i64 (by decide) (by decide)];show iC Q (mP Q 3) _ _ _ _ _ _;unfold iC;refine ju s λw s _=>?_;by_cases k0:a_ mw mh c 2=b
   ·grind
   rw[show(a_ mw mh c (0+1+1)==b)=false from cy k0,cond_false,wrap_i64 (by decide) (by decide)];show iC Q (mP Q 2) _ _ _ _ _ _;unfold iC;refine ju s λw s _=>?_;by_cases k0:a_ mw mh c 3=b
   ·grind
   rw[show(a_ mw mh c (0+1+1+1)==b)=false from cy k0,cond_false,wrap_i64 (by decide) (by decide)];show iC Q (mP Q 1) _ _ _ _ _ _;unfold iC;refine ju s λw s _=>?_;by_cases k0:a_ mw mh c 4=b
   ·grind
   rw[show(a_ mw mh c (0+1+1+1+1)==b)=false from cy k0,cond_false,wrap_i64 (by decide) (by decide)];show iC Q (mP Q 0) _ _ _ _ _ _;unfold iC;grind
  ·have:=h _ s0 Fr.refl;unfold Ak at this;grind
 ·have:=h _ s0 Fr.refl;unfold Ak at this;grind
def ZR (w h:Int):Int:=if iO w h then cR w else 0
def adP (w h:Int):Int:=if iO w h then cR h else 0
def qI {Q:Int->Int->World->Prop}(h:Q (ZR mw mh) (adP mw mh) w0):k_ mw mh w0 Q:=by
 apply Uk;apply pL;unfold ZR adP at h;by_cases hm:iO mw mh
 ·have h1:=hm.1;have h2:=hm.2;rw[decide_eq_true hm,Bool.not_true,cond_false];refine⟨by decide,by decide,?_⟩;rw[aG (n:=mw+16),aG (n:=mw+16-1),aG (n:=mh+16),aG (n:=mh+16-1),
   Int.tdiv_eq_ediv_of_nonneg (by omega),Int.tdiv_eq_ediv_of_nonneg (by omega),aG,aG]
  unfold cR at h;grind
 grind
def eY {Q:Int->World->Prop}(s0:Sep F W w0 L)(h:∀w',Sep F W w' L->Fr No w0 w'->Q (aC mw mh c) w'):dY mw mh c w0 Q:=by
 apply Vy;refine DI s0 λw s f=>?_;have h:=h w s f;unfold aC at h;by_cases hc:bF mw mh c
 ·rw[if_pos hc,if_pos hc];have hs:=(bW hc).2;unfold aC at hs;rw[if_pos hc]at h hs;have hx:=Ip hc;have hm:=hc.1;have ha:=Fa hm.1;have hcs:=gM hm.1 hm.2;rw[bp];apply qI;rw[ZR,if_pos hm];refine⟨by decide,by decide,?_⟩;have h2:=hm.2;have a:0<=c/mw/16*cR mw:=Int.mul_nonneg (by omega) (by omega);rw[Int.tdiv_eq_ediv_of_nonneg (by omega),Int.tdiv_eq_ediv_of_nonneg (by omega),aG (n:=c/mw/16),aG (n:=c%mw/16),aG (n:=c/mw/16*cR mw),aG];exact h
 grind
def I3 {sc:Int}{Q:Int->Int->Bool->World->Prop}(s0:Sep F W w0 L)(h:∀w',Sep F W w' L->Fr No w0 w'->Q (if dW mw mh sc then sc%cR mw*16 else 0) (if dW mw mh sc then sc/cR mw*16 else 0) (decide (dW mw mh sc)) w'):wX mw mh sc w0 Q:=by
 apply Vv;apply qI;have no:¬dW mw mh sc->Q 0 0 false w0:=λhn=>by have:=h _ s0 Fr.refl;grind
 by_cases h0:sc<0
 ·rw[bM h0];exact no λe=>by have:=e.2;omega
 rw[bp h0];unfold ZR adP;by_cases hm:iO mw mh
 ·rw[if_pos hm,if_pos hm];have hcs:=gM hm.1 hm.2;have e:cR mw*cR mh=eI mw mh:=rfl;rw[e,aG];by_cases h1:sc≥eI mw mh
  ·rw[bM h1];exact no λe=>by have:=e.2;omega
  rw[bp h1];have hs:dW mw mh sc:=⟨hm,by omega,by omega⟩;have hx:=IM hm.1 hm.2 hs.2;have ha:=Fa hm.1;have q1:=hm.1;have q2:=hm.2;refine⟨by omega,by omega,?_⟩;rw[Int.tmod_eq_emod_of_nonneg (by omega),Int.tdiv_eq_ediv_of_nonneg (by omega),aG (n:=sc/cR mw),aG,aG];have:=h _ (ay s0) Fr.refl;grind
 ·rw[if_neg hm,if_neg hm,show IntKind.wrap .i64 (0*0)=0 from rfl,bM];exact no λe=>hm e.1
def vi {sc:Int}{Q:Int->Int->World->Prop}(s0:Sep F W w0 L)(h:∀w',Sep F W w' L->Fr No w0 w'->Q (Y8 mw mh sc) (ac7 mw mh sc) w'):nW mw mh sc w0 Q:=by
 apply Zn;refine I3 s0 λw s f=>?_;have h:=h w s f;unfold Y8 ac7 at h;by_cases hs:dW mw mh sc
 ·have hx:=IM hs.1.1 hs.1.2 hs.2;have q1:=hs.1.1;have q2:=hs.1.2;rw[aG,aG];have e1:Dr 16 (mw-sc%cR mw*16)=aD mw mh sc:=by unfold Dr aD;omega
  have e2:Dr 16 (mh-sc/cR mw*16)=bz mw mh sc:=by unfold Dr bz;omega
  grind
 grind
def tq {Q:Int->World->Prop}(s0:Sep F W w0 L)(h:∀w',Sep F W w' L->Fr No w0 w'->Q (dX mw mh c) w'):nf mw mh c w0 Q:=by
 apply XS;refine DI s0 λw s f=>?_;by_cases hc:bF mw mh c
 ·rw[if_pos hc,if_pos hc];have hx:=Ip hc;have hl:=jY hc;have hs:=bW hc;have hz:=qK hc.1.1 hc.1.2 hs.2;have el:dX mw mh c=c/mw%16*aD mw mh (aC mw mh c)+c%mw%16:=if_pos hc;rw[bp];refine eY s λw s f2=>?_;refine vi s λw s f3=>?_;refine⟨by decide,by decide,?_⟩;rw[Y8,if_pos hs,Int.tmod_eq_emod_of_nonneg (by omega),Int.tmod_eq_emod_of_nonneg (by omega)];have a:=Int.mul_le_mul hz.1.2 hz.2.2 (by omega) (by decide);rw[aG (n:=c/mw%16*aD mw mh (aC mw mh c)),aG,<-el];exact h _ s ((f.trans f2 (λ_ _=>id)).trans f3 (λ_ _=>id))
 ·have h:=h _ s f;unfold dX at h;grind
def xq {sc l:Int}{Q:Int->World->Prop}(s0:Sep F W w0 L)(h:∀w',Sep F W w' L->Fr No w0 w'->Q (CE mw mh sc l) w'):n8 mw mh sc l w0 Q:=by
 apply Vw;refine I3 s0 λw s f=>?_;refine vi s λw s f2=>?_;have f:=f.trans f2 (λ_ _=>id);have no:¬(dW mw mh sc/\0<=l/\l<aD mw mh sc*bz mw mh sc)->Q (-1) w:=λhn=>by have:=h _ s f;unfold CE at this;grind
 by_cases hs:dW mw mh sc
 ·unfold Y8 ac7;rw[if_pos hs,if_pos hs,if_pos hs,if_pos hs,decide_eq_true hs,Bool.not_true,cond_false];have hx:=IM hs.1.1 hs.1.2 hs.2;have hz:=qK hs.1.1 hs.1.2 hs.2;have q1:=hs.1.1;have q2:=hs.1.2;have a:=Int.mul_le_mul hz.1.2 hz.2.2 (by omega) (by decide);have b:0<=aD mw mh sc*bz mw mh sc:=Int.mul_nonneg (by omega) (by omega);rw[aG];by_cases h0:l<0
  ·grind
  rw[bp h0];by_cases h1:l≥aD mw mh sc*bz mw mh sc
  ·grind
  rw[bp h1];have hl:0<=l/\l<aD mw mh sc*bz mw mh sc:=by omega
  have hxy:=Pf hs hl;refine⟨by omega,by omega,?_⟩;rw[Int.tmod_eq_emod_of_nonneg (by omega),Int.tdiv_eq_ediv_of_nonneg (by omega),aG (n:=l/aD mw mh sc),aG,aG];apply qT;have h:=h _ (ay s) f;unfold CE bY at h;rw[if_pos ⟨hs,hl⟩]at h;have e1:sc%cR mw*16+l%aD mw mh sc<mw:=by
   have:aD mw mh sc<=mw-16*(sc%cR mw):=by unfold aD;omega
   omega
  have e2:sc/cR mw*16+l/aD mw mh sc<mh:=by
   have:bz mw mh sc<=mh-16*(sc/cR mw):=by unfold bz;omega
   omega
  rw[m_ hs.1 (by omega) (by omega),Int.mul_comm (sc/cR mw) 16,Int.mul_comm (sc%cR mw) 16,<-Int.add_assoc];exact h
 grind
end
end Go.Proofs.YtmegplnmiepfbaaGreatDoor.S
namespace Go.Proofs.YtmegplnmiepfbaaGreatDoor.S.Tl
open Go.Sx
def ee:wO P T:=EB P rows HB
attribute [local irreducible] af cD bw bg aA cu bZ St Bx Al App cH cA cz bX aL bD aq bU av ak aW
def DJ (W H:Int)(cs:List Int):Bool:=decide (1<=W/\W<=16)&&(decide (1<=H/\H<=16)&&(decide ((cs.length:Int)=W*H)&&!decide ((0:Int)∈cs)))
def ZS {W H:Int}{cs:List Int}:DJ W H cs=true↔(1<=W/\W<=16)/\(1<=H/\H<=16)/\(cs.length:Int)=W*H/\(0:Int)∉cs:=by simp[DJ]
section
variable {F:Nat->Prop}{W w:World}{L:List As}{a:Option Addr}{n c:Nat}{cs:List Int}
def arM (h:lZ w a n 1 bq cs){i:Nat}(hi:i<n):∃ad,a=some ad/\w.cell? (ad.add (i*1))=some (.int .u8 (gi cs i)):=by obtain⟨ad,e,hc⟩:=h.2 i _ (iz (by rw[h.1];exact hi));exact⟨ad,e,hc 0 _ rfl⟩
def aR {k:IntKind}{m:Int}{ad:Addr}{K:Int->Prop}(h:w.cell? ad=some (.int k m))(hk:K m):af k ad w K:=by unfold af;grind
def Ly {m:Int}{Q:Bool->World->Prop}(h:Q (decide (1<=m/\m<=16)) w):Aa m w Q:=by apply Zp;grind
def aly {v:Int}{Q:Int->World->Prop}(hA:lZ w a n 1 bq cs)(hn:n<1000000000)(hy:v∈cs->∀i:Nat,Q i w)(hno:v∉cs->Q (-1) w):
  ∀(m i:Nat),i+m=n->(∀j,j<i->gi cs j≠v)->jg Q (m+1) a n c v n i w:=by
 intro m;induction m with
 |zero=>
  intro i hi SD;show kP Q (jg Q 0) _ _ _ _ _ _ _;rw[kP,bp];refine hno λhv=>?_;obtain⟨j,hj,e⟩:=List.getElem_of_mem hv;have:=SD j (by rw[hA.1]at hj;omega);have h2:=iz hj;grind
 |succ m ih=>
  intro i hi SD;show kP Q (jg Q (m+1)) _ _ _ _ _ _ _;unfold kP;obtain⟨ad,rfl,hc⟩:=arM hA (i:=i) (by omega);rw[bM];refine⟨by omega,by omega,ah ?_⟩;apply aR hc;by_cases hv:v=gi cs i
  ·rw[hv,beq_self_eq_true,cond_true];exact hy (by rw[hv];exact ff (by rw[hA.1];omega)) i
  ·rw[show(v==gi cs i)=false by grind,cond_false,aG];refine ih (i+1) (by omega) λj hj=>?_;grind
def HS {v:Int}{Q:Bool->World->Prop}(hA:lZ w a n 1 bq cs)(hn:n<1000000000)(h:Q (decide (v∈cs)) w):iW a n c v w Q:=by
 apply FL;apply HO;refine⟨n+1,aly hA hn (λhv i=>?_) (λhv=>?_) n 0 (by omega) (λj hj=>by omega)⟩
 all_goals simp_all
def C1 {tw th:Int}{Q:Bool->World->Prop}(s:Sep F W w L)(hA:lZ w a n 1 bq cs)(h:∀w',Sep F W w' L->Fr No w w'->Q (DJ tw th cs) w'):uJ tw th a n c w Q:=by
 apply adp;refine aN (F:=No) bh λb1 w1 s1=>?_;have hh:=h w1 (bR s (au s1)) (au s1);have hA1:=hA.fr (au s1);unfold DJ at hh;apply lI s1 0 rfl;apply Ly;cases h1:decide (1<=tw/\tw<=16)with
 |false=>
  grind
 |true=>
  rw[h1,Bool.true_and]at hh;apply lI s1 0 rfl;apply Ly;cases h2:decide (1<=th/\th<=16)with
  |false=>
   grind
  |true=>
   rw[h2,Bool.true_and]at hh;have h1':=of_decide_eq_true h1;have h2':=of_decide_eq_true h2;apply lS s1 0 rfl;apply lI s1 0 rfl;apply lI s1 0 rfl;have hp:1<=tw*th/\tw*th<=256:=by have q1:=Int.mul_le_mul h1'.1 h2'.1 (by decide) (by omega);have q2:=Int.mul_le_mul h1'.2 h2'.2 (by omega) (by decide);omega
   rw[aG];have hl:=hA.1;by_cases h3:(cs.length:Int)=tw*th
   ·rw[decide_eq_true h3,Bool.true_and]at hh;rw[show((n:Int)==tw*th)=true by grind,cond_true];apply lS s1 0 rfl;exact HS hA1 (by omega) hh
   grind
def isB (tw th:Int)(cs:List Int)(l:Int):Bool:=decide (0<=l/\l<(cs.length:Int))&&DJ tw th cs
def agx {tw th l:Int}{Q:Bool->World->Prop}(s:Sep F W w L)(hA:lZ w a n 1 bq cs)(h:∀w',Sep F W w' L->Fr No w w'->Q (isB tw th cs l) w'):Jv tw th a n c l w Q:=by
 apply agt;refine aN (F:=No) bh λb1 w1 s1=>?_;have hh:=h w1 (bR s (au s1)) (au s1);have hA1:=hA.fr (au s1);have hl:=hA.1;unfold isB at hh;by_cases h1:l≥0
 ·rw[bM h1];apply lS s1 0 rfl;by_cases h2:l<(n:Int)
  ·rw[bM h2];apply lI s1 0 rfl;apply lI s1 0 rfl;apply lS s1 0 rfl;refine C1 s1 hA1 λw2 s2 k2=>?_;have hh:=h w2 (bR s (au s2)) (au s2);unfold isB at hh;grind
  grind
 grind
def atI (tw th:Int)(cs:List Int)(l:Int):Int:=cond (isB tw th cs l) (gi cs l.toNat) 0
def agy {tw th l:Int}{Q:Int->World->Prop}(s:Sep F W w L)(hA:lZ w a n 1 bq cs)(hcs:∀x∈cs,0<=x/\x<256)(h:∀w',Sep F W w' L->Fr No w w'->Q (atI tw th cs l) w'):Ju tw th a n c l w Q:=by
 apply agu;refine aN (F:=No) bh λb1 w1 s1=>?_;apply lI s1 0 rfl;apply lI s1 0 rfl;apply lS s1 0 rfl;refine agx s1 (hA.fr (au s1)) λw2 s2 k2=>?_;have hh:=h w2 (bR s (au s2)) (au s2);have hA2:=hA.fr (au s2);have hl:=hA.1;unfold atI at hh;cases hb:isB tw th cs l with
 |false=>
  grind
 |true=>
  rw[hb,cond_true]at hh;have hr:0<=l/\l<(cs.length:Int):=by unfold isB at hb;grind
  obtain⟨i,rfl⟩:∃i:Nat,l=i:=⟨l.toNat,by omega⟩;obtain⟨ad,rfl,hc⟩:=arM hA2 (i:=i) (by omega);apply lS s2 0 rfl;refine⟨by omega,by omega,ah ?_⟩;apply aR hc;have:=hcs _ (ff (i:=i) (by omega));rw[aG];exact hh
end
end Go.Proofs.YtmegplnmiepfbaaGreatDoor.S.Tl
namespace Go.Proofs.YtmegplnmiepfbaaGreatDoor.S.O
open Go.Sx
def ee:wO P T:=EB P rows HB
def xu:zc T 38=[ae 0,ae 0,ae 0,.slice none 0 0]:=rfl
def ru:zc T 137=[ae 0,ae 0,.bool false]:=rfl
attribute [local irreducible] af cD bw bg aA cu bZ St Bx Al App cH cA cz bX aL bD aq bU av ak aW
def Gm {F:Nat->Prop}{W w:World}{L:List As}{k:Int}{Q:Int->Int->Bool->Bool->World->Prop}(s0:Sep F W w L)(h:∀w',Sep F W w' L->Fr No w w'->Q (wQ k) (BO k) (shL k) (Dt k) w'):wT k w Q:=by
 apply abb;have s:=bh (F:=No) (w:=w);by_cases hk:1<=k/\k<=8
 ·have hk':k=1\/k=2\/k=3\/k=4\/k=5\/k=6\/k=7\/k=8:=by omega
  rcases hk' with rfl|rfl|rfl|rfl|rfl|rfl|rfl|rfl
  all_goals
   repeat' first
    |apply lI s 0 rfl
    |apply lS s 0 rfl
    |apply lB s 0 rfl
    |apply lP s 0 rfl
    |apply And.intro (cg s 0 rfl)
    |apply lI s 1 rfl
    |apply lS s 1 rfl
    |apply lB s 1 rfl
    |apply lP s 1 rfl
    |apply And.intro (cg s 1 rfl)
    |(refine sT s 0 rfl λw s=>?_)
    |(refine sT s 1 rfl λw s=>?_)
    |refine aN s λb w s=>?_
    |(refine aT s λb w s=>?_;simp[xu,ru]at s)
    |unfold uK
    |unfold mN
    |(replace s:=ay s;first
     |apply lI s 0 rfl
     |apply lS s 0 rfl
     |apply lB s 0 rfl
     |apply lP s 0 rfl
     |apply And.intro (cg s 0 rfl)
     |apply lI s 1 rfl
     |apply lS s 1 rfl
     |apply lB s 1 rfl
     |apply lP s 1 rfl
     |apply And.intro (cg s 1 rfl)
     |(refine ax s (i:=0) rfl rfl rfl λw s=>?_)
     |(refine ax s (i:=1) rfl rfl rfl λw s=>?_;simp[List.set_cons_zero,List.set_cons_succ]at s)
     |refine aN s λb w s=>?_
     |(refine aT s λb w s=>?_;simp[xu,ru]at s)
     |unfold uK
     |unfold mN)
  all_goals exact h _ (bR s0 (au s)) (au s)
 ·have e:∀j:Int,1<=j/\j<=8->(k==j)=false:=λj hj=>by grind
  rw[e 1 (by decide),e 2 (by decide),e 3 (by decide),e 4 (by decide),e 5 (by decide),e 6 (by decide),e 7 (by decide),e 8 (by decide)]
  (refine aT s λb w s=>?_;simp[xu,ru]at s)
  (refine aT s λb w s=>?_;simp[xu,ru]at s)
  (refine ax s (i:=1) rfl rfl rfl λw s=>?_)
  (refine ax s (i:=1) rfl rfl rfl λw s=>?_)
  (refine ax s (i:=1) rfl rfl rfl λw s=>?_)
  apply lI s 1 rfl;apply lI s 1 rfl;apply lB s 1 rfl;have:=h _ (bR s0 (au s)) (au s);rw[show wQ k=0 by unfold wQ;grind,show BO k=0 by unfold BO;grind,show shL k=false from decide_eq_false (by omega),show Dt k=false from decide_eq_false (by omega)]at this;exact this
def JK {w:World}{n:Int}{sz:Nat}{Q:Bool->World->Prop}(hs:sz<=4)(h:Q (Ej n sz) w):AF n sz w Q:=by
 apply agi;unfold Ej at h;by_cases h0:n≥0
 ·rw[bM h0];have e:BH .i64 1 (IntKind.wrap .i64 (8*(sz:Int)))=256^sz/\0<=IntKind.wrap .i64 (8*(sz:Int)):=by
   have hs':sz=0\/sz=1\/sz=2\/sz=3\/sz=4:=by omega
   rcases hs' with rfl|rfl|rfl|rfl|rfl<;>decide
  refine⟨e.2,?_⟩;grind
 grind
def adQ {a b:Int}{k:Nat}(hk:k<=24)(ha:0<=a/\a<2^k)(hb:0<=b/\b<256):ior .i64 a (BH .i64 b (k:Int))=a+b*2^k:=by
 obtain⟨m,rfl⟩:∃m:Nat,a=m:=⟨a.toNat,by omega⟩;obtain⟨p,rfl⟩:∃p:Nat,b=p:=⟨b.toNat,by omega⟩;have hm:m<2^k:=by grind
 have IL:(2:Nat)^k<=2^24:=Nat.pow_le_pow_right (by decide) hk;have hp:p*2^k<=255*2^24:=Nat.mul_le_mul (by omega) IL;have e1:BH .i64 (p:Int) (k:Int)=((p*2^k:Nat):Int):=by
  unfold BH;have e:min ((k:Nat):Int).toNat (IntKind.i64).bits=k:=by simp[IntKind.bits];omega
  rw[e,show(p:Int)*2^k=((p*2^k:Nat):Int) by grind,aG]
 rw[e1];rw[ior,BitVec.ofInt_natCast,BitVec.ofInt_natCast,BitVec.toNat_or,BitVec.toNat_ofNat,BitVec.toNat_ofNat];have b64:(IntKind.i64).bits=64:=rfl;rw[b64,Nat.mod_eq_of_lt (by omega),Nat.mod_eq_of_lt (by omega),Nat.or_comm,Nat.mul_comm p,<-Nat.two_pow_add_eq_or_of_lt hm];rw[Nat.mul_comm]at hp;rw[aG];grind
def ap5 (l:List Int)(x:Int):oY (l++[x])=oY l+x*2^(8*l.length):=by
 induction l with
 |nil=>simp[oY]
 |cons y l ih=>
  simp[List.cons_append,oY,ih,List.length_cons];grind
def anE {l:List Int}{i:Nat}(h:i<l.length):l.take (i+1)=l.take i++[gi l i]:=by rw[List.take_add_one,iz h];rfl
section
variable {F:Nat->Prop}{W w:World}{L:List As}{a:Option Addr}{n c:Nat}{bs:List Int}
def Gn {Q:Int->World->Prop}(hA:Sl w a n c 1 bq bs)(hr:dZ bs)(hn:n<=4)(h:Q (oY bs) w):wW a n c w Q:=by
 apply abc;have loop:∀(m i:Nat),i+m=n->wJ Q (m+1) (oY (bs.take i)) a n c n i w:=by
  intro m;induction m with
  |zero=>
   intro i hi;show AH Q (wJ Q 0) _ _ _ _ _ _ _;rw[AH,bp,List.take_of_length_le (by rw[hA.len];omega)];exact h
  |succ m ih=>
   intro i hi;show AH Q (wJ Q (m+1)) _ _ _ _ _ _ _;rw[AH,bM];apply Sl.AD hA rfl (by omega);have hv:=hr _ (ff (i:=i) (by rw[hA.len];omega));rw[aG,aG,aG];refine⟨by omega,?_⟩;have li:(bs.take i).length=i:=by rw[List.length_take,hA.len];omega
   have e:=aaY (hr.take i);have e2:(256:Int)^i=2^(8*i):=by rw[Int.pow_mul];rfl
   rw[show 8*(i:Int)=((8*i:Nat):Int) by grind,adQ (by omega) (by grind) hv];have:=ih (i+1) (by omega);rw[anE (by rw[hA.len];omega),ap5,li]at this;exact this
 have:=loop n 0 (by omega);exact⟨n+1,this⟩
end
end Go.Proofs.YtmegplnmiepfbaaGreatDoor.S.O
namespace Go.Proofs.YtmegplnmiepfbaaGreatDoor.S.O
open Go.Sx
attribute [local irreducible] af cD bw bg aA cu bZ St Bx Al App cH cA cz bX aL bD aq bU av ak aW
section
variable {F:Nat->Prop}{W w:World}{L:List As}{a:Option Addr}{n c:Nat}{bs:List Int}
def clone {K:Option Addr->Nat->Nat->World->Prop}(s:Sep F W w L)(h:Sl w a n c 1 bq bs)(hn:n<=1000000000000)(k:∀ra rc w',Sep F W w' (ak ra n rc 5 1 (flat bq bs)::L)->K ra n rc w'):
  App P #[22,22] 22 (.slice none 0 0) (.slice a n c) w K:=by
 have src:=h.src (e:=5) cY AV;refine ig ee (bE s 5 1) (i:=0) (bytes:=1) rfl rfl rfl rfl rfl rfl (by decide) rfl src (by simp[maxLen];omega) (by omega) h.nil λa1 c1 w1 s1=>?_;grind
def auj {K:Option Addr->Nat->Nat->World->Prop}{b:Nat}(s:Sep F W w (av b 5 []::L))(h:Sl w a n c 1 bq bs)(hn:n<=1000000000000)(k:∀ra rc w',Sep F W w' (ak ra n rc 5 1 (flat bq bs)::L)->K ra n rc w'):
  App P #[22,22] 22 (.slice (sZ b) 0 0) (.slice a n c) w K:=by
 have src:=h.src (e:=5) cY AV;have s:=gX (n:=0) (size:=1) s (i:=0) rfl rfl (by decide) (by simp);refine ig ee s (i:=0) (bytes:=1) rfl rfl rfl rfl rfl rfl (by decide) rfl src (by simp[maxLen];omega) (by omega) h.nil λa1 c1 w1 s1=>?_;grind
def agz {w0:World}{Q:Int->Int->Int->Option Addr->Nat->Nat->Int->World->Prop}(s0:Sep F W w0 L)(hA:Sl w0 a n c 1 bq bs)(hr:dZ bs)(hn:0<n)(hn2:n<=1000000000000)
  (h:∀ra rn rc w',rn=(Bf bs).1.m.length->Sep F W w' (ak ra rn rc 5 1 (flat bq (Bf bs).1.m)::L)->Fr No w0 w'->Q (Bf bs).1.k (Bf bs).1.A (Bf bs).1.B ra rn rc ((Bf bs).2:Nat) w'):Jt a n c w0 Q:=by
 apply agh;have hl:=hA.len;cases bs with
 |nil=>grind
 |cons x r=>
  obtain⟨hx,hr⟩:=hr.cons;rw[List.length_cons]at hl;have s:=bh (F:=No) (w:=w0);have rr:=hr
  (refine aT s λb w s=>?_;simp[xu,ru]at s)
  apply Sl.AD (hA.fr (au s)).drew rfl (by omega);have g0:gi (x::r) 0=x:=rfl;rw[g0,aG];refine hA.lo (m:=1) rfl (by omega) λta tn tc QN hT=>?_;have hT:Sl w0 ta tn tc 1 bq r:=hT;refine Gm (ay s) λw s k=>?_
  (refine aT s λb w s=>?_;simp[xu,ru]at s)
  (refine ax s (i:=0) rfl rfl rfl λw s=>?_)
  (refine ax s (i:=0) rfl rfl rfl λw s=>?_)
  (refine ax s (i:=0) rfl rfl rfl λw s=>?_)
  have short:Bf (x::r)=(⟨0,0,0,[]⟩,0)->∀w',Fr No w0 w'->Q 0 0 0 none 0 0 0 w':=λe w' f=>by rw[e]at h;exact h none 0 0 w' rfl (bE (bR s0 f) 5 1) f
  cases hk:Dt x with
  |false=>
   have e:Bf (x::r)=(⟨0,x,0,[]⟩,1):=by rw[CD,if_neg (by grind)]
   rw[e]at h
   (refine ax s (i:=1) rfl rfl rfl λw s=>?_)
   (refine ax s (i:=1) rfl rfl rfl λw s=>?_)
   (refine ax s (i:=1) rfl rfl rfl λw s=>?_)
   (refine ax s (i:=1) rfl rfl rfl λw s=>?_)
   apply lI s 1 rfl;apply lI s 1 rfl;apply lI s 1 rfl;apply lS s 1 rfl;exact h none 0 0 _ rfl (bE (bR s0 (au s)) 5 1) (au s)
  |true=>
   apply lB s 0 rfl;cases hL:shL x with
   |true=>
    by_cases h4:tn<4
    ·rw[bM]
     (refine ax s (i:=1) rfl rfl rfl λw s=>?_)
     (refine ax s (i:=1) rfl rfl rfl λw s=>?_)
     (refine ax s (i:=1) rfl rfl rfl λw s=>?_)
     (refine ax s (i:=1) rfl rfl rfl λw s=>?_)
     apply lI s 1 rfl;apply lI s 1 rfl;apply lI s 1 rfl;apply lS s 1 rfl;exact short (by rw[CD,if_pos hk,if_pos hL,AE]) _ (au s)
    ·rw[bp];refine hT.hi (m:=4) rfl (by omega) λua uc hU=>?_;apply Gn (hU.fr (au s)) (rr.take 4) (by decide);have l4:(r.take 4).length=4:=by grind
     have rg:=aaY (rr.take 4);rw[aG];by_cases h5:(tn:Int)-4<oY (r.take 4)
     ·rw[bM h5]
      (refine ax s (i:=1) rfl rfl rfl λw s=>?_)
      (refine ax s (i:=1) rfl rfl rfl λw s=>?_)
      (refine ax s (i:=1) rfl rfl rfl λw s=>?_)
      (refine ax s (i:=1) rfl rfl rfl λw s=>?_)
      apply lI s 1 rfl;apply lI s 1 rfl;apply lI s 1 rfl;apply lS s 1 rfl;exact short (by rw[CD,if_pos hk,if_pos hL,fQ,AE]) _ (au s)
     ·rw[bp h5,aG,aG];have e:Bf (x::r)=(⟨x,0,0,(r.drop 4).take (oY (r.take 4)).toNat⟩,5+(oY (r.take 4)).toNat):=by rw[CD,if_pos hk,if_pos hL,fQ,fQ]
      rw[e]at h;refine hT.mid (p:=4) (q:=4+(oY (r.take 4)).toNat) rfl (by omega) (by omega) (by omega) λva vn vc hvn hV=>?_;rw[show 4+(oY (r.take 4)).toNat-4=(oY (r.take 4)).toNat by omega]at hvn hV;refine clone s (hV.fr (au s)) (by omega) λra rc w s=>?_
      (refine ax s (i:=2) rfl rfl rfl λw s=>?_)
      (refine ax s (i:=2) rfl rfl rfl λw s=>?_)
      (refine ax s (i:=2) rfl rfl rfl λw s=>?_)
      (refine ax s (i:=2) rfl rfl rfl λw s=>?_)
      apply lI s 2 rfl;apply lI s 2 rfl;apply lI s 2 rfl;apply lS s 2 rfl;have hq:=h ra vn rc _ (by grind) (dD s0 s (i:=0) rfl) (au s);grind
   |false=>
    apply lI s 0 rfl;apply lI s 0 rfl;have hab:=ap1 x;rw[aG];by_cases h5:tn<wQ x+BO x
    ·rw[bM]
     (refine ax s (i:=1) rfl rfl rfl λw s=>?_)
     (refine ax s (i:=1) rfl rfl rfl λw s=>?_)
     (refine ax s (i:=1) rfl rfl rfl λw s=>?_)
     (refine ax s (i:=1) rfl rfl rfl λw s=>?_)
     apply lI s 1 rfl;apply lI s 1 rfl;apply lI s 1 rfl;apply lS s 1 rfl;exact short (by rw[CD,if_pos hk,if_neg (by grind),AE]) _ (au s)
    ·rw[bp];have e:Bf (x::r)=(⟨x,oY (r.take (wQ x)),oY ((r.drop (wQ x)).take (BO x)),[]⟩,1+wQ x+BO x):=by rw[CD,if_pos hk,if_neg (by grind),fQ]
     rw[e]at h;have s:=ay s;apply lI s 0 rfl;refine hT.hi (m:=wQ x) rfl (by omega) λua uc hU=>?_;apply lI s 0 rfl;apply lI s 0 rfl;apply lI s 0 rfl;rw[aG];refine hT.mid (p:=wQ x) (q:=wQ x+BO x) rfl (by omega) (by omega) (by omega) λva vn vc hvn hV=>?_;apply lI s 0 rfl;apply lI s 0 rfl;apply Gn (hU.fr (au s)) (rr.take _) (by omega);apply And.intro (cg s 0 rfl);apply And.intro (cg s 0 rfl);apply And.intro (cg s 0 rfl);apply And.intro (cg s 0 rfl);apply And.intro (cg s 0 rfl);apply Gn (hV.fr (au s)) ((rr.drop _).take _) (by omega);apply And.intro (cg s 0 rfl);apply And.intro (cg s 0 rfl)
     (refine ax s (i:=1) rfl rfl rfl λw s=>?_)
     (refine ax s (i:=1) rfl rfl rfl λw s=>?_)
     (refine ax s (i:=1) rfl rfl rfl λw s=>?_)
     (refine ax s (i:=1) rfl rfl rfl λw s=>?_)
     apply And.intro (cg s 0 rfl);apply And.intro (cg s 0 rfl);apply lI s 1 rfl;apply lI s 1 rfl;apply lI s 1 rfl;apply lS s 1 rfl;rw[aG (n:=(1:Int)+(wQ x:Int)),aG];have hq:=h none 0 0 _ rfl (bE (bR s0 (au s)) 5 1) (au s);grind
def ah7 {Q:Bool->World->Prop}(s0:Sep F W w L)(hA:Sl w a n c 1 bq bs)(hr:dZ bs)(hn2:n<=1000000000000)(h:∀w',Sep F W w' L->Fr No w w'->Q (ap2 bs) w'):K3 a n c w Q:=by
 apply ahY;have hl:=hA.len;by_cases h0:n=0
 ·subst h0;have:bs=[]:=List.eq_nil_of_length_eq_zero hl;subst this;have:=h w s0 Fr.refl;exact this
 ·rw[show((n:Int)==0)=false by grind,cond_false];have s:=bh (F:=No) (w:=w);refine agz s hA hr (by omega) hn2 λra rn rc w _ s _=>?_
  (refine aT s λb w s=>?_;simp[xu,ru]at s)
  (refine ax s (i:=0) rfl rfl rfl λw s=>?_)
  (refine ax s (i:=0) rfl rfl rfl λw s=>?_)
  (refine ax s (i:=0) rfl rfl rfl λw s=>?_)
  (refine ax s (i:=0) rfl rfl rfl λw s=>?_)
  have hq:=h _ (bR s0 (au s)) (au s);have hne:bs≠[]:=λe=>by grind
  unfold ap2 at hq;rw[decide_eq_true hne,Bool.true_and]at hq;rw[show(((Bf bs).2:Int)==0)=decide ((Bf bs).2=0) by grind];exact hq
end
def ah8 {F:Nat->Prop}{W w0:World}{L:List As}{a:Option Addr}{n c:Nat}{o:kW}{Q:Bool->World->Prop}(s0:Sep F W w0 L)(hA:Sl w0 a n c 1 bq o.m)(hr:dZ o.m)(hn2:n<=1000000000000)(h:∀w',Sep F W w' L->Fr No w0 w'->Q (Du o) w'):K1 o.k o.A o.B a n c w0 Q:=by
 apply ahZ;obtain⟨k,A,B,m⟩:=o;simp only at hA hr h⊢;have hl:=hA.len;have hm0:((n:Int)==0)=decide (m=[]):=by
  rw[Bool.eq_iff_iff,beq_iff_eq,decide_eq_true_eq];constructor
  ·intro e;simp_all
  grind
 have s:=bh (F:=No) (w:=w0);have hh:∀w' Ls,Sep No w0 w' Ls->Q (Du ⟨k,A,B,m⟩) w':=λw' Ls s=>h w' (bR s0 (au s)) (au s);unfold Du at hh;refine aN s λb w s=>?_;apply lI s 0 rfl;by_cases hk:k=0
 ·rw[show(k==0)=true by grind,cond_true];apply lI s 0 rfl;by_cases hA1:A=-1
  ·rw[show(A==-1)=true by grind,cond_true];apply lI s 0 rfl;by_cases hB:B=0
   ·rw[show(B==0)=true by grind,cond_true];apply lS s 0 rfl;refine ah7 s (hA.fr (au s)) hr hn2 λw s _=>?_;grind
   grind
  ·rw[show(A==-1)=false by grind,cond_false];apply lI s 0 rfl;refine Gm s λw s _=>?_
   (refine aT s λb w s=>?_;simp[xu,ru]at s)
   (refine ax s (i:=0) rfl rfl rfl λw s=>?_)
   (refine ax s (i:=0) rfl rfl rfl λw s=>?_)
   (refine ax s (i:=0) rfl rfl rfl λw s=>?_)
   apply lI s 1 rfl;apply JK (by decide);cases hf:Ej A 1 with
   |false=>
    grind
   |true=>
    cases hs:Dt A with
    |true=>
     grind
    |false=>
     apply lI s 1 rfl;by_cases hB:B=0
     ·rw[show(B==0)=true by grind,cond_true];apply lS s 1 rfl;grind
     grind
 ·simp[if_neg hk]at hh;rw[show(k==0)=false by grind,cond_false];apply lI s 0 rfl;refine Gm s λw s _=>?_
  (refine aT s λb w s=>?_;simp[xu,ru]at s)
  (refine ax s (i:=0) rfl rfl rfl λw s=>?_)
  (refine ax s (i:=0) rfl rfl rfl λw s=>?_)
  (refine ax s (i:=0) rfl rfl rfl λw s=>?_)
  cases hs:Dt k with
  |false=>
   grind
  |true=>
   have hab:=ap1 k;apply lI s 1 rfl;apply lI s 0 rfl;apply JK hab.1;cases hf:Ej A (wQ k)with
   |false=>
    grind
   |true=>
    apply lI s 1 rfl;apply lI s 0 rfl;apply JK hab.2;cases hg:Ej B (BO k)with
    |false=>
     grind
    |true=>
     apply lS s 1 rfl;rw[hm0];by_cases hm:m=[]
     ·grind
     ·rw[bp hm];apply lB s 0 rfl;have:=hh _ _ s;cases hL:shL k with
      |false=>grind
      |true=>
       apply lS s 1 rfl;rw[hs,hf,hg,decide_eq_false hm,Bool.false_or,Bool.true_and,Bool.true_and,Bool.true_and,hL,Bool.true_and]at this;rwa[show decide ((n:Int)<=4294967295)=decide (m.length<=4294967295)from decide_eq_decide.2 (by omega)]
structure Hi where
 k:Int
 A:Int
 B:Int
 a:Option Addr
 n:Nat
 c:Nat
def Gp (v:Hi):List Value:=[ae v.k,ae v.A,ae v.B,.slice v.a v.n v.c]
def asV (v:Hi):(Gp v).length=4:=rfl
def akz (v:Hi)(u:Value)(h:u∈Gp v):u.oneCell'=true:=by simp[Gp,List.mem_cons,List.not_mem_nil,or_false]at h;rcases h with rfl|rfl|rfl|rfl<;>rfl
structure OpV (w:World) (v:Hi) (o:kW):Prop where
 k:v.k=o.k
 A:v.A=o.A
 B:v.B=o.B
 m:Sl w v.a v.n v.c 1 bq o.m
 jA:dZ o.m
structure agQ (e:Hi×kW):Prop where
 k:e.1.k=e.2.k
 A:e.1.A=e.2.A
 B:e.1.B=e.2.B
 jA:dZ e.2.m
def Et (es:List (Hi×kW)):As:=aW (∀e∈es,agQ e) (es.map λe=>ak e.1.a e.1.n e.1.c 5 1 (flat bq e.2.m))
section
variable {F:Nat->Prop}{W w:World}{L:List As}{oa:Option Addr}{on oc:Nat}{es:List (Hi×kW)}
def anF (s:Sep F W w L):Sep F W w (Et []::L):=by exact dA s (by simp)
def ae4 {v:Hi}{o:kW}(s:Sep F W w (Et es::ak v.a v.n v.c 5 1 (flat bq o.m)::L))(ha:agQ (v,o)):Sep F W w (Et (es++[(v,o)])::L):=by
 unfold Et at s⊢;obtain⟨h1,s⟩:=gL s;refine dA ?_ λe he=>?_
 all_goals grind
def av0 {v:Hi}{o:kW}{K:Option Addr->Nat->Nat->World->Prop}(s:Sep F W w (ak oa on oc 38 4 (flat Gp (es.map (·.1)))::Et es::ak v.a v.n v.c 5 1 (flat bq o.m)::L))(ha:agQ (v,o))(Cj:on<=1000000000)
  (k:∀a' c' w',Sep F W w' (ak a' (on+1) c' 38 4 (flat Gp ((es++[(v,o)]).map (·.1)))::Et (es++[(v,o)])::L)->K a' (on+1) c' w'):
  Bx [ae v.k,ae v.A,ae v.B,.slice v.a v.n v.c] 38 w λp w1=>App P #[46,46] 46 (.slice oa on oc) (.slice (some p) 1 1) w1 K:=by
 refine aN s λb w1 s1=>?_;have src:Src w1 (sZ b) 1 4 (Gp v):=⟨rfl,akz v,λj u hj=>by rw[cq,Nat.zero_add];exact cM s1 (i:=0) rfl rfl hj⟩;refine ig ee s1 (i:=1) (bytes:=48) rfl rfl rfl rfl rfl rfl (by decide) rfl src (by simp[maxLen];omega) (by omega) (λe=>by cases e) λa1 c1 w2 s2=>?_;have e:flat Gp (es.map (·.1))++Gp v=flat Gp ((es++[(v,o)]).map (·.1)):=by rw[List.map_append,fX];simp[flat]
 rw[e]at s2;apply k a1 c1 w2;have s4:=ck (ai s2) (List.Perm.trans (List.Perm.swap ..) (List.Perm.cons _ (List.Perm.swap ..)));exact ck (ae4 s4 ha) (List.Perm.swap ..)
end
def bT {n lo hi:Int}{w:World}{Q:Int->World->Prop}(h1:lo<=hi)(h2:-1099511627776<=lo)(h3:hi<=1099511627776)(h:Q (lo+n%(hi-lo+1)) w):aS n lo hi w Q:=by
 apply t_;rw[aG (n:=hi-lo),aG];generalize hs:hi-lo+1=s at h;have h4:=Int.lt_tmod_of_pos n (b:=s) (by omega);have h5:=Int.tmod_lt_of_pos n (b:=s) (by omega);have h6:=Int.tmod_add_mul_tdiv n s;refine⟨by omega,?_⟩;generalize ht:Int.tmod n s=t at*;have e:n%s=t%s:=by rw[<-h6,Int.add_mul_emod_self_left]
 by_cases hn:t<0
 ·rw[bM hn,aG (n:=t+hi),aG (n:=t+hi-lo),aG (n:=t+hi-lo+1),aG];have e2:t%s=t+s:=by rw[<-Int.add_emod_right,Int.emod_eq_of_lt (by omega) (by omega)]
  grind
 ·rw[bp hn,aG];rw[e,Int.emod_eq_of_lt (by omega) h5]at h;exact h
def zq {w:World}{m lo hi:Int}{Q:Bool->World->Prop}(h:Q (decide (lo<=m/\m<=hi)) w):lR m lo hi w Q:=by apply QB;grind
section
variable {F:Nat->Prop}{W w w0:World}{L:List As}{a a' b:Option Addr}{n c n' c' m q:Nat}{bs cs:List Int}
def ah9 {x:Int}{K:Option Addr->Nat->Nat->World->Prop}(s:Sep F W w (ak a n c 5 1 (flat bq bs)::L))(hn:n<=2000000000000)
  (k:∀a' c' w',Sep F W w' (ak a' (n+1) c' 5 1 (flat bq (bs++[x]))::L)->K a' (n+1) c' w'):Bx [.int .u8 x] 5 w λp w1=>App P #[22,22] 22 (.slice a n c) (.slice (some p) 1 1) w1 K:=by
 refine aN s λb w s=>?_;have src:Src w (sZ b) 1 1 [.int .u8 x]:=⟨rfl,(λu hu=>by rw[List.mem_singleton.1 hu];rfl),λj u hj=>by rw[cq,Nat.zero_add];exact cM s (i:=0) rfl rfl hj⟩;refine ig ee s (i:=1) (bytes:=1) rfl rfl rfl rfl rfl rfl (by decide) rfl src (by simp[maxLen];omega) (by omega) (λe=>by cases e) λa1 c1 w1 s1=>?_;have e:flat bq bs++[.int .u8 x]=flat bq (bs++[x]):=by rw[fX];rfl
 rw[e]at s1;exact k _ _ _ (ai s1)
def alB {K:Option Addr->Nat->Nat->World->Prop}(s:Sep F W w (ak a n c 5 1 (flat bq bs)::L))(h:Sl w b m q 1 bq cs)(hn:n+m<=2000000000000)
  (k:∀a' c' w',Sep F W w' (ak a' (n+m) c' 5 1 (flat bq (bs++cs))::L)->K a' (n+m) c' w'):App P #[22,22] 22 (.slice a n c) (.slice b m q) w K:=by
 have src:=h.src (e:=5) cY AV;refine ig ee s (i:=0) (bytes:=1) rfl rfl rfl rfl rfl rfl (by decide) rfl src (by simp[maxLen];omega) (by omega) h.nil λa1 c1 w1 s1=>?_;rw[<-fX]at s1;grind
end
section
variable {F:Nat->Prop}{W w w0:World}{L:List As}
def arP {b:Nat}{x:Int}(s:Sep F W w (av b 5 [.int .u8 x]::L)):Sep F W w (ak (sZ b) 1 1 5 1 (flat bq [x])::L):=
 gX s (i:=0) rfl rfl (by decide) (λu hu=>by have hu:u∈[Value.int .u8 x]:=hu;rw[List.mem_singleton]at hu;rw[hu];rfl)
end
end Go.Proofs.YtmegplnmiepfbaaGreatDoor.S.O
namespace Go.Proofs.YtmegplnmiepfbaaGreatDoor.S
open Go.Sx
attribute [local irreducible] af cD bw bg aA cu bZ St Bx Al App cH cA cz bX aL bD aq bU av ak aW mapA
def kX {p:Addr}{A B:Prop}(h:B):cond (some p).isNone A B:=h
structure iw where
 m:bJ
 ep:Int
 vs:List Int
structure xw (g:iw):Prop where
 may:cP g.m
 len:(g.vs.length:Int)=eI g.m.w g.m.h
 ep:1<=g.ep/\g.ep<4611686018427387904
 vs:∀v∈g.vs,1<=v/\v<=g.ep
structure uw where
 p:Nat
 ca:Option Addr
 cn:Nat
 cc:Nat
 va:Option Addr
 vn:Nat
 vc:Nat
def alC (r:uw)(g:iw):List Value:=[ae g.m.w,ae g.m.h,.slice r.ca r.cn r.cc,ae g.ep,.slice r.va r.vn r.vc]
def aby (r:uw)(g:iw):List As:=[av r.p 174 (alC r g),ak r.ca r.cn r.cc 5 1 (flat bq g.m.cs),ak r.va r.vn r.vc 2 1 (flat one g.vs)]
def nR (r:uw)(g:iw):As:=aW (xw g) (aby r g)
structure nk (w:World) (r:uw) (g:iw):Prop where
 ok:xw g
 cell:∀(j:Nat) v,(alC r g)[j]? =some v->w.cell? ((aZ r.p).add j)=some v
 C:Sl w r.ca r.cn r.cc 1 bq g.m.cs
 V:Sl w r.va r.vn r.vc 1 one g.vs
def xw.iO {g:iw}(h:xw g):iO g.m.w g.m.h:=⟨h.may.w,h.may.h⟩
section
variable {F:Nat->Prop}{W w w0:World}{L:List As}{r:uw}{g:iw}
def nk.fr {w':World}(k:nk w r g)(f:Fr No w w'):nk w' r g:=⟨k.ok,λj v h=>Fr.cell f (k.cell j v h) id,k.C.fr f,k.V.fr f⟩
def ae5 (s:Sep F W w (nR r g::L)):xw g/\Sep F W w (aby r g++L):=gL s
def abz (s:Sep F W w (aby r g++L))(h:xw g):Sep F W w (nR r g::L):=dA s h
def oK (s:Sep F W w (nR r g::L)):nk w r g:=by obtain⟨h,s⟩:=ae5 s;exact⟨h,λj v hj=>by rw[cq,Nat.zero_add];exact cM s (i:=0) rfl rfl hj,aO s (i:=1) rfl cY (by decide),aO s (i:=2) rfl cE (by decide)⟩
def cL (m:bJ)(c:Int):Int:=if 0<=c/\c<m.cs.length then gi m.cs c.toNat else 0
def jn {c:Int}{Q:Int->World->Prop}(k:nk w r g)(h:Q (cL g.m c) w):e_ (sZ r.p) c w Q:=by
 apply RT;apply kX;have hl:=k.C.len;unfold cL at h;by_cases h0:c<0
 ·grind
 rw[bp h0];refine ah (dy (k.cell 2 _ rfl) ?_);by_cases h1:c≥(r.cn:Int)
 ·grind
 rw[bp h1];refine ah (dy (k.cell 2 _ rfl) ?_);rw[AE]at h;have hb:=k.ok.may.jA _ (ff (i:=c.toNat) (by omega));apply k.C.AD (k:=c.toNat) (by omega) (by omega);rw[aG];exact h
def qU {Q:Int->World->Prop}(k:nk w r g)(h:Q g.ep w):fZ (sZ r.p) w Q:=by apply Fq;exact kX (ah (aR (k.cell 3 _ rfl) h))
def ZV {Q:Int->World->Prop}(h:Q 0 w):fZ none w Q:=Fq _ _ _ h
def jo {Q:Int->Int->World->Prop}(s0:Sep F W w L)(k:nk w r g)(h:∀w',Sep F W w' L->Fr No w w'->Q g.m.w g.m.h w'):eM (sZ r.p) w Q:=by apply RX;have k:=k.fr (w':=w.drew) Fr.refl;exact kX (ah (aR (k.cell 0 _ rfl) (ah (aR (k.cell 1 _ rfl) ⟨k.cell 1 _ rfl,h _ (ay s0) Fr.refl⟩))))
def zu (g:iw)(s:Int):Int:=if 0<=s/\s<g.vs.length then gi g.vs s.toNat else 0
def rO {c:Int}{Q:Int->World->Prop}(k:nk w r g)(h:Q (zu g c) w):ja (sZ r.p) c w Q:=by
 apply MH;apply kX;have hl:=k.V.len;unfold zu at h;by_cases h0:c<0
 ·grind
 rw[bp h0];refine ah (dy (k.cell 4 _ rfl) ?_);by_cases h1:c≥(r.vn:Int)
 ·grind
 rw[bp h1];refine ah (dy (k.cell 4 _ rfl) ?_);rw[AE]at h;exact k.V.rE (by omega) (by omega) h
def HT {w h s:Int}(hs:dW w h s){y x:Nat}(hx:(x:Int)<aD w h s):bY w h s (y*aD w h s+x)=bY w h s (y*aD w h s)+x:=by obtain⟨e1,e2⟩:=rF (w:=aD w h s) (x:=(x:Int)) (y:=(y:Int)) (by omega);obtain⟨e3,e4⟩:=rF (w:=aD w h s) (x:=0) (y:=(y:Int)) (by omega);unfold bY;grind
def anG {m:bJ}{s:Int}(hm:cP m)(hs:dW m.w m.h s){y tw:Nat}(hw:(tw:Int)=aD m.w m.h s)(hy:(y:Int)<bz m.w m.h s){f:Nat}(hf:(f:Int)=bY m.w m.h s (y*aD m.w m.h s)):
  f+tw<=m.cs.length/\((List.range (y*tw)).map λl:Nat=>gi m.cs (bY m.w m.h s l).toNat)++(m.cs.drop f).take tw=(List.range ((y+1)*tw)).map λl:Nat=>gi m.cs (bY m.w m.h s l).toNat:=by
 have hz:=qK hs.1.1 hs.1.2 hs.2;have hl:=hm.len;have hin:∀x:Nat,x<tw->0<=bY m.w m.h s (y*aD m.w m.h s)+x/\bY m.w m.h s (y*aD m.w m.h s)+x<m.w*m.h:=λx hx=>by
  rw[<-HT hs (by omega)];refine FX hs.1.1 hs.1.2 hs.2 ⟨?_,?_⟩
  ·have:0<=(y:Int)*aD m.w m.h s:=Int.mul_nonneg (by omega) (by omega);omega
  ·have:((y:Int)+1)*aD m.w m.h s<=bz m.w m.h s*aD m.w m.h s:=Int.mul_le_mul_of_nonneg_right (by omega) (by omega);grind
 have av1:=hin (tw-1) (by omega);refine⟨by omega,?_⟩;rw[Nat.add_mul,Nat.one_mul,List.range_add,List.map_append,List.map_map];congr 1;refine List.ext_getElem (by simp;omega) λi h1 h2=>?_;simp[List.length_map,List.length_range]at h2;simp only[List.getElem_take,List.getElem_drop,List.getElem_map,List.getElem_range,Function.comp];have e:((y*tw+i:Nat):Int)=y*aD m.w m.h s+i:=by grind
 rw[e,HT hs (by omega)];have e2:(bY m.w m.h s (y*aD m.w m.h s)+(i:Int)).toNat=f+i:=by omega
 have:=iz (l:=m.cs) (i:=f+i) (by omega);grind
def Nr {sc:Int}{Q:Int->Int->Option Addr->Nat->Nat->Bool->World->Prop}(s0:Sep F W w0 L)(k:nk w0 r g)
  (hno:¬dW g.m.w g.m.h sc->∀w',Sep F W w' L->Fr No w0 w'->Q 0 0 none 0 0 false w')
  (hyes:dW g.m.w g.m.h sc->∀ta tn tc w',Sep F W w' (ak ta tn tc 5 1 (flat bq (qf g.m sc))::L)->Fr No w0 w'->Q (aD g.m.w g.m.h sc) (bz g.m.w g.m.h sc) ta tn tc true w'):tS (sZ r.p) sc w0 Q:=by
 apply Sc;have s:=bh (F:=No) (w:=w0);refine aT s λqb w s=>?_;refine jo s (k.fr (au s)) λw s _=>?_;refine vi s λw s _=>?_;unfold Y8 ac7;have hm:=k.ok.may;have hC:=k.C;have yd:=hC.len;have hmul:=mU k.ok.iO;by_cases hs:dW g.m.w g.m.h sc
 ·have hz:=qK hs.1.1 hs.1.2 hs.2;rw[if_pos hs,if_pos hs,cy (by omega),cond_false];obtain⟨tw,QO⟩:∃n:Nat,(n:Int)=aD g.m.w g.m.h sc:=⟨(aD g.m.w g.m.h sc).toNat,by omega⟩;obtain⟨th,hth⟩:∃n:Nat,(n:Int)=bz g.m.w g.m.h sc:=⟨(bz g.m.w g.m.h sc).toNat,by omega⟩;refine aT s λtb w s=>?_;refine ax s (i:=0) rfl rfl rfl λw s=>?_;refine ax s (i:=0) rfl rfl rfl λw s=>?_;refine ax s (i:=0) rfl rfl rfl λw s=>?_;have s:=ck (bE s 5 1) (List.Perm.refl _);have loop:∀(j y:Nat) (ta:Option Addr) (tn tc:Nat) (w:World),y+j=th->tn=y*tw->
    Sep No w0 w [ak ta tn tc 5 1 (flat bq ((List.range (y*tw)).map λl:Nat=>gi g.m.cs (bY g.m.w g.m.h sc l).toNat)),av tb 84 [ae (aD g.m.w g.m.h sc),ae (bz g.m.w g.m.h sc),.slice ta tn tc],av qb 84 [ae 0,ae 0,.slice none 0 0]]->
    oo Q (j+1) (sZ r.p) sc (aZ qb) g.m.w g.m.h (aD g.m.w g.m.h sc) (aZ tb) (bz g.m.w g.m.h sc) y w:=by
   intro j;induction j with
   |zero=>
    intro y ta tn tc w hy QN s;show rJ Q (oo Q 0) _ _ _ _ _ _ _ _ _ _;rw[rJ,bp];apply lI s 1 rfl;apply lI s 1 rfl;apply lS s 1 rfl
    (refine ax s (i:=2) rfl rfl rfl λw s=>?_)
    (refine ax s (i:=2) rfl rfl rfl λw s=>?_)
    (refine ax s (i:=2) rfl rfl rfl λw s=>?_)
    apply lI s 2 rfl;apply lI s 2 rfl;apply lS s 2 rfl;refine hyes hs _ _ _ _ (dD s0 s (i:=0) ?_) (au s);unfold qf;grind
   |succ j ih=>
    intro y ta tn tc w hy QN s;show rJ Q (oo Q (j+1)) _ _ _ _ _ _ _ _ _ _;unfold rJ;have hyl:(y:Int)*aD g.m.w g.m.h sc+aD g.m.w g.m.h sc<=aD g.m.w g.m.h sc*bz g.m.w g.m.h sc:=by have:((y:Int)+1)*aD g.m.w g.m.h sc<=bz g.m.w g.m.h sc*aD g.m.w g.m.h sc:=Int.mul_le_mul_of_nonneg_right (by omega) (by omega);grind
    have hy0:0<=(y:Int)*aD g.m.w g.m.h sc:=Int.mul_nonneg (by omega) (by omega);have ha:=Int.mul_le_mul hz.1.2 hz.2.2 (by omega) (by decide);rw[bM,aG];refine xq s λw s _=>?_;rw[CE,if_pos ⟨hs,by omega,by omega⟩];have hg:=FX hs.1.1 hs.1.2 hs.2 (l:=(y:Int)*aD g.m.w g.m.h sc) (by omega);obtain⟨f,hf⟩:∃n:Nat,(n:Int)=bY g.m.w g.m.h sc (y*aD g.m.w g.m.h sc):=⟨(bY g.m.w g.m.h sc (y*aD g.m.w g.m.h sc)).toNat,by omega⟩;obtain⟨hin,hrow⟩:=anG hm hs QO (by omega) hf;rw[<-hf,aG];have s:=ay s;apply lS s 1 rfl;have k':=k.fr (au s);refine ah (dy (k'.cell 2 _ rfl) ?_);refine k'.C.mid (q:=f+tw) rfl (by omega) (by omega) (by omega) λa' n' c' hn' hS=>?_;rw[show f+tw-f=tw by omega]at hS hn';have hyt:((y*tw:Nat):Int)=(y:Int)*aD g.m.w g.m.h sc:=by grind
    refine O.alB s hS (by omega) λYw Yx w s=>?_;refine ax s (i:=1) rfl rfl rfl λw s=>?_;rw[aG];grind
  refine⟨th+1,loop th 0 none 0 0 w (by omega) (by omega) ?_⟩;rw[Nat.zero_mul];exact s
 ·rw[if_neg hs,if_neg hs,cV rfl,cond_true]
  (refine ax s (i:=0) rfl rfl rfl λw s=>?_)
  (refine ax s (i:=0) rfl rfl rfl λw s=>?_)
  (refine ax s (i:=0) rfl rfl rfl λw s=>?_)
  apply lI s 0 rfl;apply lI s 0 rfl;apply lS s 0 rfl;exact hno hs _ (bR s0 (au s)) (au s)
end
section
variable {F:Nat->Prop}{W w w0:World}{L:List As}{r:uw}{g:iw}{a:Option Addr}{n c:Nat}{bs:List Int}
def EW {f:Int->List Value}{es:List Int}{e:TypeId}{i k:Nat}{x' idx:Int}{v:Value}{K:World->Prop}(hf:∀x,(f x).length=1)(s:Sep F W w L)(hi:L[i]? =some (ak a n c e 1 (flat f es)))(hk:idx=k)(hkn:k<es.length)(hx':f x'=[v])(hv:v.oneCell'=true)
  (h:∀w',Sep F W w' (L.set i (ak a n c e 1 (flat f (es.set k x'))))->K w'):aJ idx n (wA a λp=>St (p.add (idx.toNat*1)) v w K):=by
 have hn:=qZ s hi;rw[iU hf,Nat.mul_one,Nat.mul_one]at hn;obtain⟨b,o,rfl⟩:=pT s hi (by omega);subst hk;refine⟨by omega,by omega,ah ?_⟩;obtain⟨x,hx⟩:∃x,es[k]? =some x:=⟨_,List.getElem?_eq_getElem hkn⟩;have h1:=hf x;refine dQ hf s hi hx (j:=0) (by simp[Addr.add]) (by decide) ?_ hv h;rw[hx']
 match hfx:f x,h1 with
 |[y],_=>rfl
def Gq {Q:Option Addr->Nat->Nat->World->Prop}(s:Sep F W w L)(hA:Sl w a n c 1 bq bs)(hn:n<=1000000000000)(h:∀ra rc w',Sep F W w' (ak ra n rc 5 1 (flat bq bs)::L)->Fr No w w'->Q ra n rc w'):jJ a n c w Q:=by
 apply HN;cases a with
 |none=>
  have hl:=hA.len;have:=hA.nil rfl;have h0:n=0:=by have:=hA.le;omega
  subst h0;have hb:=List.eq_nil_of_length_eq_zero hl;subst hb;exact h _ _ _ (bE s 5 1) Fr.refl
 |some p=>
  apply kX;refine aN (bh (F:=No)) λb w' s'=>?_;refine O.auj s' (hA.fr (au s')) hn λra rc w' s'=>?_;exact h _ _ _ (dD s s' (i:=0) rfl) (au s')
def W9 (m:bJ):Bool:=decide (iO m.w m.h)&&(decide ((m.cs.length:Int)=m.w*m.h)&&!decide ((0:Int)∈m.cs))
def V1 {m:bJ}(hr:dZ m.cs):W9 m=true↔cP m:=by
 simp[W9,Bool.and_eq_true,decide_eq_true_eq,Bool.not_eq_true',decide_eq_false_iff_not];constructor
 ·rintro ⟨h1,h2,h3⟩;refine⟨h1.1,h1.2,h2,λx hx=>?_⟩;have:=hr x hx;grind
 ·intro h;exact⟨⟨h.w,h.h⟩,h.len,λh0=>by have:=h.jA _ h0;omega⟩
def Ns {m:bJ}{Q:Bool->World->Prop}(s0:Sep F W w L)(hA:Sl w a n c 1 bq m.cs)(h:∀w',Sep F W w' L->Fr No w w'->Q (W9 m) w'):Bg m.w m.h a n c w Q:=by
 apply abg;refine aN (bh (F:=No)) λmb w s=>?_;apply lI s 0 rfl;apply lI s 0 rfl;apply pL;have hA:=hA.fr (au s);have hl:=hA.len;have h:=h w (bR s0 (au s)) (au s);unfold W9 at h;by_cases hm:iO m.w m.h
 ·have hmul:=mU hm;rw[bM hm];rw[decide_eq_true hm,Bool.true_and]at h;apply lS s 0 rfl;apply lI s 0 rfl;apply lI s 0 rfl;rw[aG];by_cases hc:(m.cs.length:Int)=m.w*m.h
  ·rw[cV (by omega),cond_true];rw[decide_eq_true hc,Bool.true_and]at h;apply lS s 0 rfl;exact Tl.HS hA.row (by omega) h
  grind
 grind
def OR (m:bJ)(e:Int):iw:=⟨m,e+1,List.replicate (eI m.w m.h).toNat (e+1)⟩
def akB {m:bJ}{e:Int}(hm:cP m)(he:0<=e/\e<2305843009213693952):xw (OR m e):=by
 have hc:=gM hm.w hm.h;refine⟨hm,?_,by show 1<=e+1/\e+1<_;omega,λv hv=>?_⟩
 ·show((List.replicate _ _).length:Int)=_;rw[List.length_replicate];show((eI m.w m.h).toNat:Int)=eI m.w m.h;omega
 ·rw[List.eq_of_mem_replicate hv];show 1<=e+1/\e+1<=e+1;omega
def adS {m:bJ}{e:Int}{Q:Option Addr->World->Prop}(s0:Sep F W w0 L)(hA:Sl w0 a n c 1 bq m.cs)(hr:dZ m.cs)(he:0<=e/\e<2305843009213693952)
  (hno:¬cP m->∀w',Sep F W w' L->Fr No w0 w'->Q none w')(hyes:cP m->∀r w',Sep F W w' (nR r (OR m e)::L)->Fr No w0 w'->Q (sZ r.p) w'):HC m.w m.h a n c e w0 Q:=by
 apply adx;refine aN (bh (F:=No)) λmb w s=>?_;apply lI s 0 rfl;apply lI s 0 rfl;apply lS s 0 rfl;refine Ns s (hA.fr (au s)) λw s _=>?_;by_cases hm:cP m
 ·have hmul:=mU ⟨hm.w,hm.h⟩;have hl:=hA.len;have hlen:=hm.len;have QS:=gM hm.w hm.h;rw[(V1 hr).2 hm,Bool.not_true,cond_false,bp,bp];apply lS s 0 rfl;refine Gq s (hA.fr (au s)) (by omega) λca cc w s _=>?_;refine ax s (i:=1) rfl rfl rfl λw s=>?_;apply lI s 1 rfl;apply lI s 1 rfl;apply qI;unfold ZR adP;rw[if_pos ⟨hm.w,hm.h⟩,if_pos ⟨hm.w,hm.h⟩];have s:=ay s;apply lI s 1 rfl;apply lI s 1 rfl;apply lS s 1 rfl;rw[show cR m.w*cR m.h=eI m.w m.h from rfl,aG,aG];obtain⟨N,hN⟩:∃N:Nat,eI m.w m.h=N:=⟨(eI m.w m.h).toNat,by omega⟩;rw[hN];refine xI (bytes:=8) ee s rfl rfl rfl rfl rfl rfl (by decide) cE rfl (λu hu=>by simp[one]at hu;subst hu;rfl) rfl rfl (Nat.le_refl _) (by omega) (by simp[maxLen];omega) λvb w s=>?_;refine⟨cg s 2 rfl,cg s 2 rfl,cg s 2 rfl,?_⟩;refine aN s λgb w s=>?_;apply lS s 0 rfl;have loop:∀(j i:Nat) (w:World),i+j=N->Sep No w0 w (av gb 174 [ae m.w,ae m.h,.slice ca n cc,ae (e+1),.slice (sZ vb) N N]::ak (sZ vb) N N 2 1 (flat one (List.replicate i (e+1)++List.replicate j 0))::ak ca n cc 5 1 (flat bq m.cs)::av mb 25 [ae m.w,ae m.h,.slice ca n cc]::[])->
    za Q (j+1) (aZ gb) N i w:=by
   intro j;induction j with
   |zero=>
    intro i w hi s;show B6 Q (za Q 0) _ _ _ _;rw[B6,bp];have hi:i=N:=by omega
    subst hi;have s:=cf (L':=[_,_,_]) [0,2,1] s rfl (by decide);have s:Sep No w0 w (aby ⟨gb,ca,n,cc,sZ vb,i,i⟩ (OR m e)++[]):=by
     have e1:(OR m e).vs=List.replicate i (e+1)++List.replicate 0 0:=by show List.replicate (eI m.w m.h).toNat (e+1)=_;grind
     show Sep No w0 w [av gb 174 (alC ⟨gb,ca,n,cc,sZ vb,i,i⟩ (OR m e)),ak ca n cc 5 1 (flat bq m.cs),ak (sZ vb) i i 2 1 (flat one (OR m e).vs)];rw[e1];exact s
    have s:=abz s (akB hm he);exact hyes hm ⟨gb,ca,n,cc,sZ vb,i,i⟩ _ (dD s0 s (i:=0) rfl) (au s)
   |succ j ih=>
    intro i w hi s;show B6 Q (za Q (j+1)) _ _ _ _;rw[B6,bM];have s:=ay s;apply lS s 0 rfl;apply lI s 0 rfl;refine EW (x':=e+1) cE s (i:=1) rfl rfl (by simp) rfl rfl λw s=>?_;rw[aG];apply ih (i+1) w (by omega);have e1:(List.replicate i (e+1)++List.replicate (j+1) 0).set i (e+1)=List.replicate (i+1) (e+1)++List.replicate j 0:=by rw[List.set_append_right _ _ (by simp),List.length_replicate,Nat.sub_self,List.replicate_succ,List.set_cons_zero,List.replicate_succ',List.append_assoc];rfl
    grind
  exact⟨N+1,loop N 0 w (by omega) s⟩
 ·have hb:W9 m=false:=by
   cases hb:W9 m with
   |false=>rfl
   |true=>exact(hm ((V1 hr).1 hb)).elim
  rw[hb,Bool.not_false,cond_true];exact hno hm _ (bR s0 (au s)) (au s)
def xx (g:iw)(c x:Int):iw:=⟨⟨g.m.w,g.m.h,g.m.cs.set c.toNat x⟩,g.ep+1,g.vs.set (aC g.m.w g.m.h c).toNat (g.ep+1)⟩
def ah_ {g:iw}(hg:xw g){c x:Int}(hx:1<=x/\x<=255)(he:g.ep<2305843009213693952):xw (xx g c x):=by
 refine⟨⟨hg.may.w,hg.may.h,?_,λy hy=>?_⟩,?_,?_,λv hv=>?_⟩
 ·show((g.m.cs.set c.toNat x).length:Int)=_;rw[List.length_set];exact hg.may.len
 ·rcases List.mem_or_eq_of_mem_set hy with hy|rfl
  ·exact hg.may.jA y hy
  ·omega
 ·show((g.vs.set _ _).length:Int)=_;rw[List.length_set];exact hg.len
 ·have:=hg.ep;show 1<=g.ep+1/\g.ep+1<_;omega
 ·have:=hg.ep;show 1<=v/\v<=g.ep+1;rcases List.mem_or_eq_of_mem_set hv with hv|rfl
  ·have:=hg.vs v hv;omega
  ·omega
def abA {ce x:Int}{Q:Int->World->Prop}(s:Sep F W w (nR r g::L))(he:g.ep<2305843009213693952)
  (h7:¬bF g.m.w g.m.h ce->Q 7 w)(h8:bF g.m.w g.m.h ce->¬(1<=x/\x<=255)->Q 8 w)
  (h0:bF g.m.w g.m.h ce->1<=x/\x<=255->∀w',Sep F W w' (nR r (xx g ce x)::L)->Q 0 w'):zY (sZ r.p) ce x w Q:=by
 apply RZ;apply kX;have k:=oK s;obtain⟨hg,s⟩:=ae5 s;have s:=s;have hl:=k.C.len;have hlen:=hg.may.len;by_cases h1:ce<0
 ·rw[bM h1];exact h7 λe=>by have:=e.2;omega
 rw[bp h1];apply ah;apply lS s 0 rfl;by_cases h2:ce≥(r.cn:Int)
 ·rw[bM h2];exact h7 λe=>by have:=e.2;omega
 rw[bp h2];have hc:bF g.m.w g.m.h ce:=⟨hg.iO,by omega,by omega⟩;by_cases h3:x<1
 ·grind
 rw[bp h3];by_cases h4:x>255
 ·grind
 rw[bp h4];have Yy:=hg.ep;apply ah;apply lS s 0 rfl;rw[wrap_u8',Int.emod_eq_of_lt (by omega) (by omega)];refine EW (k:=ce.toNat) (x':=x) cY s (i:=1) rfl (by omega) (by omega) rfl rfl λw s=>?_;apply ah;apply lI s 0 rfl;apply ah;rw[aG];refine ax s (i:=0) rfl rfl rfl λw s=>?_;have s:=ay s;apply ah;apply lS s 0 rfl;apply ah;apply lI s 0 rfl;apply ah;apply lI s 0 rfl;apply ah;apply lI s 0 rfl;refine eY s λw s _=>?_;refine⟨cg s 0 rfl,cg s 0 rfl,?_⟩;have hs:=bW hc;have hvl:=hg.len;refine EW (k:=(aC g.m.w g.m.h ce).toNat) (x':=g.ep+1) cE s (i:=2) rfl (by have:=hs.2;omega) (by have:=hs.2;omega) rfl rfl λw s=>?_;exact h0 hc (by omega) _ (abz s (ah_ hg (by omega) he))
def adT {Q:Int->Int->Option Addr->Nat->Nat->World->Prop}(s0:Sep F W w0 L)(k:nk w0 r g)
  (h:∀ra rc w',Sep F W w' (ak ra r.cn rc 5 1 (flat bq g.m.cs)::L)->Fr No w0 w'->Q g.m.w g.m.h ra r.cn rc w'):A0 (sZ r.p) w0 Q:=by
 apply UL;refine aT (bh (F:=No)) λmb w s=>?_;apply kX;have hm:=k.ok.may;have hmul:=mU k.ok.iO;have hlen:=hm.len;have hl:=k.C.len;have s:=ay s;have k':=k.fr (au s);refine ah (aR (k'.cell 0 _ rfl) ?_);refine ah (aR (k'.cell 1 _ rfl) ?_);refine ah (dy (k'.cell 2 _ rfl) ?_);refine Gq s k'.C (by omega) λra rc w s _=>?_;have k':=k.fr (au s);refine⟨k'.cell 1 _ rfl,k'.cell 0 _ rfl,?_⟩
 (refine ax s (i:=1) rfl rfl rfl λw s=>?_)
 (refine ax s (i:=1) rfl rfl rfl λw s=>?_)
 (refine ax s (i:=1) rfl rfl rfl λw s=>?_)
 apply lI s 1 rfl;apply lI s 1 rfl;apply lS s 1 rfl;exact h _ _ _ (dD s0 s (i:=0) rfl) (au s)
end
def gI (w h c s:Int):Int:=if a_ w h c s<0 then-1 else if aC w h (a_ w h c s)=aC w h c then-1 else a_ w h c s
def eZ (m:bJ)(c:Int):Bool:=decide (0<cL m c/\cL m c<255)
def mC (n:Int)(f:Int->Int):List Int:=(List.range n.toNat).map λi:Nat=>f i
def mD (tw th s:Int):List Int:=
 if s=2 then mC tw λx=>(th-1)*tw+x
 else if s=0 then mC tw λx=>0+x
 else if s=1 then mC th λy=>tw-1+y*tw
 else if s=3 then mC th λy=>0+y*tw
 else[]
def abB {k:IntKind}{n:Int}{K:Int->Prop}(h:K n):dI k (.int k n) K:=by cases k<;>exact h
def aul {K:Value->Prop}{a b c d:Int}{j:Nat}{x:Int}(hj:j=0/\x=a\/j=1/\x=b\/j=2/\x=c\/j=3/\x=d)(h:K (ae x)):IxV [ae a,ae b,ae c,ae d] j K:=by rcases hj with⟨rfl,rfl⟩|⟨rfl,rfl⟩|⟨rfl,rfl⟩|⟨rfl,rfl⟩<;>exact⟨_,rfl,h⟩
section
variable {F:Nat->Prop}{W w w0:World}{L:List As}{r:uw}{g:iw}{a:Option Addr}{n c:Nat}{bs:List Int}{mw mh ce:Int}
def LA {x:Int}{K:Option Addr->Nat->Nat->World->Prop}(s:Sep F W w (ak a n c 3 1 (flat one bs)::L))(hn:n<=1000000000)
  (k:∀a' c' w',Sep F W w' (ak a' (n+1) c' 3 1 (flat one (bs++[x]))::L)->K a' (n+1) c' w'):Bx [ae x] 3 w λp w1=>App P #[29,29] 29 (.slice a n c) (.slice (some p) 1 1) w1 K:=by
 refine aN s λb w s=>?_;have src:Src w (sZ b) 1 1 [ae x]:=⟨rfl,(λu hu=>by rw[List.mem_singleton.1 hu];rfl),λj u hj=>by rw[cq,Nat.zero_add];exact cM s (i:=0) rfl rfl hj⟩;refine ig ee s (i:=1) (bytes:=8) rfl rfl rfl rfl rfl rfl (by decide) rfl src (by simp[maxLen];omega) (by omega) (λe=>by cases e) λa1 c1 w1 s1=>?_;have e:flat one bs++[ae x]=flat one (bs++[x]):=by rw[fX];rfl
 rw[e]at s1;exact k _ _ _ (ai s1)
def I4 {Q:Int->Int->Int->Int->World->Prop}(s0:Sep F W w L)(h:∀w',Sep F W w' L->Fr No w w'->Q 0 1 2 3 w'):wZ w Q:=by
 apply VC;refine aT (bh (F:=No)) λb w s=>?_
 (refine ax s (i:=0) rfl rfl rfl λw s=>?_)
 (refine ax s (i:=0) rfl rfl rfl λw s=>?_)
 (refine ax s (i:=0) rfl rfl rfl λw s=>?_)
 (refine ax s (i:=0) rfl rfl rfl λw s=>?_)
 apply lI s 0 rfl;apply lI s 0 rfl;apply lI s 0 rfl;apply lI s 0 rfl;exact h _ (bR s0 (au s)) (au s)
def JX {sd:Int}{Q:Int->World->Prop}(s0:Sep F W w L)(h:∀w',Sep F W w' L->Fr No w w'->Q (gI mw mh ce sd) w'):yo mw mh ce sd w Q:=by
 apply XT;refine ju (bh (F:=No)) λw s _=>?_;have fin:∀w',Sep No _ w' []->Q (gI mw mh ce sd) w':=λw' s=>h w' (bR s0 (au s)) (au s);unfold gI at fin;by_cases h1:a_ mw mh ce sd<0
 ·grind
 rw[bp h1];refine eY s λw s _=>?_;refine eY s λw s _=>?_;grind
def DK {Q:Bool->World->Prop}(k:nk w r g)(h:Q (eZ g.m ce) w):sW (sZ r.p) ce w Q:=by apply XX;apply jn k;unfold eZ at h;grind
def abC (n:Nat)(f:Int->Int):mC ((n+1:Nat):Int) f=mC n f++[f n]:=by unfold mC;rw[Int.toNat_natCast,Int.toNat_natCast,List.range_succ,List.map_append];rfl
def ae6 {Q:Option Addr->Nat->Nat->World->Prop}{f0:Int}{N:Nat}(hf:0<=f0/\f0<=100000)(hN:N<=16)(h:∀ra rc w',Sep F W w' (ak ra N rc 3 1 (flat one (mC N λx=>f0+x))::L)->Q ra N rc w'):
  ∀(j i:Nat) (la:Option Addr) (lc:Nat) (w:World),i+j=N->Sep F W w (ak la i lc 3 1 (flat one (mC i λx=>f0+x))::L)->ng Q (j+1) la i lc f0 N i w:=by
 intro j;induction j with
 |zero=>
  intro i la lc w hi s;show s9 Q (ng Q 0) _ _ _ _ _ _ _;unfold s9;grind
 |succ j ih=>
  intro i la lc w hi s;show s9 Q (ng Q (j+1)) _ _ _ _ _ _ _;rw[s9,bM,aG];refine LA s (by omega) λla lc w s=>?_;rw[aG];rw[<-abC i λx=>f0+x]at s;exact ih (i+1) la lc w (by omega) s
def ae7 {Q:Option Addr->Nat->Nat->World->Prop}{f0 tw:Int}{N:Nat}(hf:0<=f0/\f0<=100000)(ht:0<=tw/\tw<=16)(hN:N<=16)(h:∀ra rc w',Sep F W w' (ak ra N rc 3 1 (flat one (mC N λy=>f0+y*tw))::L)->Q ra N rc w'):
  ∀(j i:Nat) (la:Option Addr) (lc:Nat) (w:World),i+j=N->Sep F W w (ak la i lc 3 1 (flat one (mC i λy=>f0+y*tw))::L)->nh Q (j+1) tw la i lc f0 N i w:=by
 intro j;induction j with
 |zero=>
  intro i la lc w hi s;show s_ Q (nh Q 0) _ _ _ _ _ _ _ _;unfold s_;grind
 |succ j ih=>
  intro i la lc w hi s;show s_ Q (nh Q (j+1)) _ _ _ _ _ _ _ _;unfold s_;have h1:0<=(i:Int)*tw:=Int.mul_nonneg (by omega) ht.1;have h2:(i:Int)*tw<=16*16:=Int.mul_le_mul (by omega) ht.2 ht.1 (by decide);rw[bM,aG (n:=(i:Int)*tw),aG];refine LA s (by omega) λla lc w s=>?_;rw[aG];rw[<-abC i λy=>f0+y*tw]at s;exact ih (i+1) la lc w (by omega) s
def V2 {tw th sd:Int}{Q:Option Addr->Nat->Nat->World->Prop}(s0:Sep F W w L)(ht:1<=tw/\tw<=16)(hh:1<=th/\th<=16)
  (h:∀ra rn rc w',Sep F W w' (ak ra rn rc 3 1 (flat one (mD tw th sd))::L)->Q ra rn rc w'):B2 tw th sd w Q:=by
 apply VD;have s:=bE s0 3 1;obtain⟨TW,rfl⟩:∃N:Nat,tw=N:=⟨tw.toNat,by omega⟩;obtain⟨TH,rfl⟩:∃N:Nat,th=N:=⟨th.toNat,by omega⟩;unfold mD at h;by_cases k2:sd=2
 ·rw[cV k2,cond_true];rw[if_pos k2]at h;have h1:0<=((TH:Int)-1)*TW:=Int.mul_nonneg (by omega) (by omega);have h2:((TH:Int)-1)*TW<=16*16:=Int.mul_le_mul (by omega) (by omega) (by omega) (by decide);rw[aG (n:=(TH:Int)-1),aG];exact⟨TW+1,ae6 (by omega) (by omega) (λra rc w' s=>h ra TW rc w' s) TW 0 none 0 w (by omega) s⟩
 rw[cy k2,cond_false];rw[if_neg k2]at h;by_cases k0:sd=0
 ·rw[cV k0,cond_true];rw[if_pos k0]at h;exact⟨TW+1,ae6 (by omega) (by omega) (λra rc w' s=>h ra TW rc w' s) TW 0 none 0 w (by omega) s⟩
 rw[cy k0,cond_false];rw[if_neg k0]at h;by_cases k1:sd=1
 ·rw[cV k1,cond_true];rw[if_pos k1]at h;rw[aG];exact⟨TH+1,ae7 (by omega) (by omega) (by omega) (λra rc w' s=>h ra TH rc w' s) TH 0 none 0 w (by omega) s⟩
 rw[cy k1,cond_false];rw[if_neg k1]at h;by_cases k3:sd=3
 ·rw[cV k3,cond_true];rw[if_pos k3]at h;exact⟨TH+1,ae7 (by omega) (by omega) (by omega) (λra rc w' s=>h ra TH rc w' s) TH 0 none 0 w (by omega) s⟩
 rw[cy k3,cond_false];rw[if_neg k3]at h;exact h _ _ _ _ s
end
def bl (b:Bool):List Value:=[.bool b]
def aia (b:Bool):(bl b).length=1:=rfl
def I5 (w h sc s:Int):Bool:=decide (0<=gI w h (CE w h sc (gi (mD (aD w h sc) (bz w h sc) s) 0)) s)
def yx (w h sc:Int)(j:Nat)(l:Nat):Bool:=(List.range j).any λs:Nat=>I5 w h sc s&&decide ((l:Int)∈mD (aD w h sc) (bz w h sc) s)
def vk (w h sc:Int):List Int:=((List.range (aD w h sc*bz w h sc).toNat).filter (yx w h sc 4)).map λl:Nat=>bY w h sc l
def alF (w h sc:Int)(j l:Nat):yx w h sc (j+1) l=(yx w h sc j l||(I5 w h sc j&&decide ((l:Int)∈mD (aD w h sc) (bz w h sc) j))):=by unfold yx;grind
def mem_range {n x:Int}{f:Int->Int}(h:x∈mC n f):∃i:Nat,(i:Int)<n/\x=f i:=by unfold mC at h;grind
def xy (n:Int)(f:Int->Int):(mC n f).length=n.toNat:=by unfold mC;simp
def aib {tw th sd:Int}(ht:1<=tw/\tw<=16)(hh:1<=th/\th<=16):(mD tw th sd).length<=16/\(0<=sd/\sd<=3->0<(mD tw th sd).length)/\∀x∈mD tw th sd,0<=x/\x<tw*th:=by
 have m1:∀y:Int,0<=y->y<th->0<=y*tw/\y*tw+tw<=tw*th:=λy h1 h2=>by have a:0<=y*tw:=Int.mul_nonneg h1 (by omega);have b:(y+1)*tw<=th*tw:=Int.mul_le_mul_of_nonneg_right (by omega) (by omega);grind
 unfold mD;split
 ·refine⟨by rw[xy];omega,λ_=>by rw[xy];omega,λx hx=>?_⟩;obtain⟨i,hi,rfl⟩:=mem_range hx;have:=m1 (th-1) (by omega) (by omega);omega
 ·split
  ·refine⟨by rw[xy];omega,λ_=>by rw[xy];omega,λx hx=>?_⟩;obtain⟨i,hi,rfl⟩:=mem_range hx;have:=m1 0 (by omega) (by omega);omega
  ·split
   ·refine⟨by rw[xy];omega,λ_=>by rw[xy];omega,λx hx=>?_⟩;obtain⟨i,hi,rfl⟩:=mem_range hx;grind
   ·split
    ·refine⟨by rw[xy];omega,λ_=>by rw[xy];omega,λx hx=>?_⟩;obtain⟨i,hi,rfl⟩:=mem_range hx;grind
    grind
def anI {N x:Nat}{E:Nat->Bool}:((List.range N).map E).set x true=(List.range N).map λl=>E l||decide (l=x):=by refine List.ext_getElem (by simp) λi h1 h2=>?_;grind
section
variable {F:Nat->Prop}{W w w0:World}{L:List As}{r:uw}{g:iw}{a:Option Addr}{n c:Nat}{bs:List Int}{mw mh ce sc:Int}
def Nt {α:Type}{f:α->List Value}{es:List α}{e:TypeId}{i k:Nat}{x':α}{idx:Int}{v:Value}{K:World->Prop}(hf:∀x,(f x).length=1)(s:Sep F W w L)(hi:L[i]? =some (ak a n c e 1 (flat f es)))(hk:idx=k)(hkn:k<es.length)(hx':f x'=[v])(hv:v.oneCell'=true)
  (h:∀w',Sep F W w' (L.set i (ak a n c e 1 (flat f (es.set k x'))))->K w'):aJ idx n (wA a λp=>St (p.add (idx.toNat*1)) v w K):=by
 have hn:=qZ s hi;rw[iU hf,Nat.mul_one,Nat.mul_one]at hn;obtain⟨b,o,rfl⟩:=pT s hi (by omega);subst hk;refine⟨by omega,by omega,ah ?_⟩;obtain⟨x,hx⟩:∃x,es[k]? =some x:=⟨_,List.getElem?_eq_getElem hkn⟩;have h1:=hf x;refine dQ hf s hi hx (j:=0) (by simp[Addr.add]) (by decide) ?_ hv h;rw[hx']
 match hfx:f x,h1 with
 |[y],_=>rfl
def anJ {P4:Int->Int->Int->Int->Int->Option Addr->Nat->Nat->Int->Int->Int->Int->Int->World->Prop}{Q:Option Addr->Nat->Nat->World->Prop}{tw th sd:Int}{ea la:Option Addr}{N ec ln lc:Nat}{xs:List Int}{E:Nat->Bool}(vW:0<=sd/\sd<=3)(hl:xs.length=ln)(pZ:ln<=16)(hx:∀x∈xs,0<=x/\x<N)
  (next:∀w',Sep No w0 w' (ak ea N ec 4 1 (flat bl ((List.range N).map λl=>E l||decide ((l:Int)∈xs)))::ak la ln lc 3 1 (flat one xs)::L)->P4 mw mh sc tw th ea N ec 0 1 2 3 (sd+1) w'):
  ∀(j i:Nat) (w:World),i+j=ln->Sep No w0 w (ak ea N ec 4 1 (flat bl ((List.range N).map λl=>E l||decide ((l:Int)∈xs.take i)))::ak la ln lc 3 1 (flat one xs)::L)->
   qL P4 Q (j+1) mw mh sc tw th ea N ec 0 1 2 3 sd la ln lc ln i w:=by
 intro j;induction j with
 |zero=>
  intro i w hi s;show uX P4 Q (qL P4 Q 0) _ _ _ _ _ _ _ _ _ _ _ _ _ _ _ _ _ _ _;rw[uX,bp,aG];grind
 |succ j ih=>
  intro i w hi s;show uX P4 Q (qL P4 Q (j+1)) _ _ _ _ _ _ _ _ _ _ _ _ _ _ _ _ _ _ _;rw[uX,bM];have hX:=aO s (i:=1) rfl cE (by decide);apply hX.rE rfl (by omega);have hxi:=hx _ (ff (i:=i) (by omega));obtain⟨x,hxe⟩:∃x:Nat,gi xs i=x:=⟨(gi xs i).toNat,by omega⟩;rw[hxe]at hxi⊢;refine Nt (x':=true) aia s (i:=0) rfl rfl (by simp;omega) rfl rfl λw s=>?_;rw[aG];apply ih (i+1) w (by omega);rw[anI]at s;have e:(λl:Nat=>(E l||decide ((l:Int)∈xs.take i))||decide (l=x))=λl:Nat=>E l||decide ((l:Int)∈xs.take (i+1)):=by
   funext l;rw[Bool.or_assoc];congr 1;have ht:xs.take (i+1)=xs.take i++[(x:Int)]:=by rw[List.take_add_one,iz (by omega),hxe];rfl
   grind
  grind
def anK {Q:Option Addr->Nat->Nat->World->Prop}{ea:Option Addr}{N ec:Nat}{E:Nat->Bool}(hs:dW mw mh sc)(hN:(N:Int)=aD mw mh sc*bz mw mh sc)(hN2:N<=256)
  (h:∀ra rn rc w',Sep No w0 w' (ak ra rn rc 3 1 (flat one (((List.range N).filter E).map λl:Nat=>bY mw mh sc l))::ak ea N ec 4 1 (flat bl ((List.range N).map E))::L)->Q ra rn rc w'):
  ∀(j i:Nat) (oa:Option Addr) (on oc:Nat) (w:World),i+j=N->on<=i->Sep No w0 w (ak oa on oc 3 1 (flat one (((List.range i).filter E).map λl:Nat=>bY mw mh sc l))::ak ea N ec 4 1 (flat bl ((List.range N).map E))::L)->
   pQ Q (j+1) mw mh sc oa on oc ea N ec N i w:=by
 intro j;induction j with
 |zero=>
  intro i oa on oc w hi ho s;show tf Q (pQ Q 0) _ _ _ _ _ _ _ _ _ _ _ _;unfold tf;grind
 |succ j ih=>
  intro i oa on oc w hi ho s;show tf Q (pQ Q (j+1)) _ _ _ _ _ _ _ _ _ _ _ _;rw[tf,bM];obtain⟨b,o,rfl⟩:=pT s (i:=1) rfl (by omega);refine⟨by omega,by omega,ah ?_⟩;apply ajN aia s (i:=1) (k:=i) (j:=0) rfl (x:=E i) (by grind) (by simp[Addr.add]) rfl;have hf:(List.range (i+1)).filter E=(List.range i).filter E++(if E i=true then[i]else[]):=by rw[List.range_succ,List.filter_append];grind
  cases hE:E i with
  |true=>
   refine xq s λw s _=>?_;unfold CE;refine LA s (by omega) λoa oc w s=>?_;rw[aG];apply ih (i+1) oa (on+1) oc w (by omega) (by omega);grind
  |false=>
   rw[cond_false,aG];grind
def V3 {Q:Option Addr->Nat->Nat->World->Prop}(s0:Sep F W w L)(hs:dW mw mh sc)(h:∀ra rn rc w',Sep F W w' (ak ra rn rc 3 1 (flat one (vk mw mh sc))::L)->Fr No w w'->Q ra rn rc w'):BZ mw mh sc w Q:=by
 apply VE;have hz:=qK hs.1.1 hs.1.2 hs.2;have hmx:=Int.mul_le_mul hz.1.2 hz.2.2 (by omega) (by decide);have hmn:=Int.mul_le_mul hz.1.1 hz.2.1 (by decide) (by omega);obtain⟨N,hN⟩:∃N:Nat,aD mw mh sc*bz mw mh sc=N:=⟨(aD mw mh sc*bz mw mh sc).toNat,by omega⟩;refine vi (bh (F:=No)) λw1 s _=>?_;unfold Y8 ac7;rw[if_pos hs,if_pos hs,aG,hN];refine xI (bytes:=1) ee s rfl rfl rfl rfl rfl rfl (by decide) aia rfl (λu hu=>by simp[bl]at hu;subst hu;rfl) rfl rfl (Nat.le_refl _) (by omega) (by simp[maxLen];omega) λeb w1 s=>?_;refine I4 s λw1 s _=>?_;have apK:List.replicate N false=(List.range N).map (yx mw mh sc 0):=by refine List.ext_getElem (by simp) λi h1 h2=>?_;simp[yx]
 rw[apK]at s;have loop:∀(j i:Nat) (w1:World) (L':List As),i+j=4->Sep No w w1 (ak (sZ eb) N N 4 1 (flat bl ((List.range N).map (yx mw mh sc i)))::L')->
   qM Q (j+1) mw mh sc (aD mw mh sc) (bz mw mh sc) (sZ eb) N N 0 1 2 3 i w1:=by
  intro j;induction j with
  |zero=>
   intro i w1 L' hi s;show uY Q (qM Q 0) _ _ _ _ _ _ _ _ _ _ _ _ _ _;unfold uY;have hi:i=4:=by omega
   subst hi;have s:=bE s 3 1;refine⟨N+1,anK hs hN.symm (by omega) (λra rn rc w' s=>?_) N 0 none 0 0 w1 (by omega) (by omega) s⟩;refine h _ _ _ _ (dD s0 s (i:=0) ?_) (au s);unfold vk;grind
  |succ j ih=>
   intro i w1 L' hi s;show uY Q (qM Q (j+1)) _ _ _ _ _ _ _ _ _ _ _ _ _ _;rw[uY,bM];refine⟨by omega,by omega,?_⟩;refine aul (x:=(i:Int)) (by omega) (abB ?_);obtain⟨o1,o2,o3⟩:=aib (sd:=(i:Int)) hz.1 hz.2;refine V2 s hz.1 hz.2 λra rn rc w1 s=>?_;have hX:=aO s (i:=0) rfl cE (by decide);have hXl:=hX.len;rw[cy (by omega),cond_false];apply hX.rE (k:=0) rfl (by omega);refine xq s λw1 s _=>?_;refine JX s λw1 s _=>?_;have hnew:=alF mw mh sc i;by_cases hov:gI mw mh (CE mw mh sc (gi (mD (aD mw mh sc) (bz mw mh sc) i) 0)) i<0
   ·rw[bM hov,aG];have aBv:I5 mw mh sc i=false:=by unfold I5;grind
    have e:yx mw mh sc i=yx mw mh sc (i+1):=by funext l;simp_all
    rw[e]at s;exact ih (i+1) w1 _ (by omega) (ai s)
   ·rw[bp hov];have Cj:I5 mw mh sc i=true:=by unfold I5;grind
    have s:=ck s (List.Perm.swap ..);refine⟨rn+1,anJ (w0:=w) (L:=L') (E:=yx mw mh sc i) (by omega) hXl (by omega) (λx hx=>by grind) (λw' s=>?_) rn 0 w1 (by omega) ?_⟩
    ·have e:(λl:Nat=>yx mw mh sc i l||decide ((l:Int)∈mD (aD mw mh sc) (bz mw mh sc) i))=yx mw mh sc (i+1):=by grind
     grind
    simp_all
 exact⟨5,loop 4 0 w1 _ (by omega) s⟩
def aX (m:bJ)(sc:Int):List Int:=(vk m.w m.h sc).filter (eZ m)
def abD (hs:dW mw mh sc):(vk mw mh sc).length<=256:=by have hz:=qK hs.1.1 hs.1.2 hs.2;have hmx:=Int.mul_le_mul hz.1.2 hz.2.2 (by omega) (by decide);unfold vk;grind
def xz {Q:Option Addr->Nat->Nat->World->Prop}(s0:Sep F W w L)(k:nk w r g)(hs:dW g.m.w g.m.h sc)(h:∀ra rn rc w',Sep F W w' (ak ra rn rc 3 1 (flat one (aX g.m sc))::L)->Fr No w w'->Q ra rn rc w'):n_ (sZ r.p) sc w Q:=by
 apply VF;refine jo (bh (F:=No)) k λw1 s _=>?_;refine V3 s hs λca cn cc w1 s _=>?_;have yd:=(aO s (i:=0) rfl cE (by decide)).len;have aic:=abD hs;have loop:∀(j i:Nat) (oa:Option Addr) (on oc:Nat) (w1:World),i+j=cn->on<=i->Sep No w w1 [ak oa on oc 3 1 (flat one (((vk g.m.w g.m.h sc).take i).filter (eZ g.m))),ak ca cn cc 3 1 (flat one (vk g.m.w g.m.h sc))]->
   qN Q (j+1) (sZ r.p) oa on oc ca cn cc cn i w1:=by
  intro j;induction j with
  |zero=>
   intro i oa on oc w1 hi ho s;show uZ Q (qN Q 0) _ _ _ _ _ _ _ _ _ _;rw[uZ,bp];rw[List.take_of_length_le (by omega)]at s;exact h _ _ _ _ (dD s0 s (i:=0) rfl) (au s)
  |succ j ih=>
   intro i oa on oc w1 hi ho s;show uZ Q (qN Q (j+1)) _ _ _ _ _ _ _ _ _ _;rw[uZ,bM];apply(aO s (i:=1) rfl cE (by decide)).rE rfl (by omega);apply DK (k.fr (au s));have ht:(vk g.m.w g.m.h sc).take (i+1)=(vk g.m.w g.m.h sc).take i++[gi (vk g.m.w g.m.h sc) i]:=by rw[List.take_add_one,iz (by omega)];rfl
   cases ho2:eZ g.m (gi (vk g.m.w g.m.h sc) i)with
   |true=>
    refine LA s (by omega) λoa oc w1 s=>?_;rw[aG];apply ih (i+1) oa (on+1) oc w1 (by omega) (by omega);grind
   |false=>
    rw[cond_false,aG];apply ih (i+1) oa on oc w1 (by omega) (by omega);grind
 exact⟨cn+1,loop cn 0 none 0 0 w1 (by omega) (by omega) (bE s 3 1)⟩
end
def Dm (e:Int×Int):List Value:=[ae e.1,ae e.2]
def QT (e:Int×Int):(Dm e).length=2:=rfl
def akD (e:Int×Int)(u:Value)(h:u∈Dm e):u.oneCell'=true:=by simp[Dm,List.mem_cons,List.not_mem_nil,or_false]at h;rcases h with rfl|rfl<;>rfl
def Fw (m:bJ)(c s:Int):Option (Int×Int):=if 0<=gI m.w m.h c s/\eZ m (gI m.w m.h c s)=true then some (gI m.w m.h c s,cL m (gI m.w m.h c s))else none
def Gs (m:bJ)(c:Int)(j:Nat):List (Int×Int):=(List.range j).filterMap λs:Nat=>Fw m c s
def vl (m:bJ)(c:Int):List (Int×Int):=if eZ m c=true then Gs m c 4 else[]
def ajW (m:bJ)(c:Int)(j:Nat):Gs m c (j+1)=Gs m c j++(Fw m c j).toList:=by rw[Gs,List.range_succ,List.filterMap_append];congr 1
section
variable {F:Nat->Prop}{W w w0:World}{L:List As}{r:uw}{g:iw}{a:Option Addr}{n c:Nat}{es:List (Int×Int)}{ce:Int}
def ap7 {x:Int×Int}{K:Option Addr->Nat->Nat->World->Prop}(s:Sep F W w (ak a n c 292 2 (flat Dm es)::L))(hn:n<=1000000000)
  (k:∀a' c' w',Sep F W w' (ak a' (n+1) c' 292 2 (flat Dm (es++[x]))::L)->K a' (n+1) c' w'):Bx [ae x.1,ae x.2] 292 w λp w1=>App P #[289,289] 289 (.slice a n c) (.slice (some p) 1 1) w1 K:=by
 refine aN s λb w s=>?_;have src:Src w (sZ b) 1 2 (Dm x):=⟨rfl,akD x,λj u hj=>by rw[cq,Nat.zero_add];exact cM s (i:=0) rfl rfl hj⟩;refine ig ee s (i:=1) (bytes:=16) rfl rfl rfl rfl rfl rfl (by decide) rfl src (by simp[maxLen];omega) (by omega) (λe=>by cases e) λa1 c1 w1 s1=>?_;have e:flat Dm es++Dm x=flat Dm (es++[x]):=by rw[fX];simp[flat]
 rw[e]at s1;exact k _ _ _ (ai s1)
def V4 {Q:Option Addr->Nat->Nat->World->Prop}(s0:Sep F W w L)(k:nk w r g)(h:∀ra rn rc w',Sep F W w' (ak ra rn rc 292 2 (flat Dm (vl g.m ce))::L)->Fr No w w'->Q ra rn rc w'):BY (sZ r.p) ce w Q:=by
 apply VG;refine jo (bh (F:=No)) k λw1 s _=>?_;apply DK (k.fr (au s));unfold vl at h;cases ho:eZ g.m ce with
 |false=>
  rw[ho,if_neg (by decide)]at h;exact h _ _ _ _ (bE (bR s0 (au s)) 292 2) (au s)
 |true=>
  rw[ho,if_pos rfl]at h;refine I4 s λw1 s _=>?_;have loop:∀(j i:Nat) (oa:Option Addr) (on oc:Nat) (w1:World) (L':List As),i+j=4->on<=i->Sep No w w1 (ak oa on oc 292 2 (flat Dm (Gs g.m ce i))::L')->
    nX Q (j+1) (sZ r.p) ce g.m.w g.m.h oa on oc 0 1 2 3 i w1:=by
   intro j;induction j with
   |zero=>
    intro i oa on oc w1 L' hi Cj s;show u6 Q (nX Q 0) _ _ _ _ _ _ _ _ _ _ _ _ _;unfold u6;have hi:i=4:=by omega
    subst hi;exact h _ _ _ _ (dD s0 s (i:=0) rfl) (au s)
   |succ j ih=>
    intro i oa on oc w1 L' hi Cj s;show u6 Q (nX Q (j+1)) _ _ _ _ _ _ _ _ _ _ _ _ _;rw[u6,bM];refine⟨by omega,by omega,?_⟩;refine aul (x:=(i:Int)) (by omega) (abB ?_);refine JX s λw1 s _=>?_;have hsu:=ajW g.m ce i;have skip:Fw g.m ce i=none->∀w1,Sep No w w1 (ak oa on oc 292 2 (flat Dm (Gs g.m ce i))::L')->nX Q (j+1) (sZ r.p) ce g.m.w g.m.h oa on oc 0 1 2 3 (IntKind.wrap .i64 ((i:Int)+1)) w1:=λhn w1 s=>by rw[aG];grind
    by_cases h1:gI g.m.w g.m.h ce i≥0
    ·rw[bM h1];apply DK (k.fr (au s));cases h2:eZ g.m (gI g.m.w g.m.h ce i)with
     |true=>
      apply jn (k.fr (au s));have IG:Fw g.m ce i=some (gI g.m.w g.m.h ce i,cL g.m (gI g.m.w g.m.h ce i)):=if_pos ⟨h1,h2⟩;refine ap7 (x:=(gI g.m.w g.m.h ce i,cL g.m (gI g.m.w g.m.h ce i))) s (by omega) λoa oc w1 s=>?_;rw[aG];grind
     |false=>
      exact skip (if_neg (by rw[h2];simp)) _ s
    ·rw[bp h1];exact skip (fQ) _ s
  exact⟨5,loop 4 0 none 0 0 w1 _ (by omega) (by omega) (bE s 292 2)⟩
end
structure bj where
 c:Int
 s:Int
 k:Int
deriving DecidableEq,Inhabited
def fS (x:bj):List Value:=[ae x.c,ae x.s,ae x.k]
def nq (x:bj):(fS x).length=3:=rfl
def V5 (x:bj)(u:Value)(h:u∈fS x):u.oneCell'=true:=by simp[fS,List.mem_cons,List.not_mem_nil,or_false]at h;rcases h with rfl|rfl|rfl<;>rfl
def V6 (x y:Int):Int:=if x<y then-1 else if x>y then 1 else 0
def aid (a b:bj):Int:=if V6 a.k b.k≠0 then V6 a.k b.k else if V6 a.c b.c≠0 then V6 a.c b.c else V6 a.s b.s
section
variable {F:Nat->Prop}{W w w0:World}{L:List As}
def DM {x y:Int}{Q:Int->World->Prop}(h:Q (V6 x y) w):oe x y w Q:=by apply Qh;apply A6;rw[Es rfl];apply A6;rw[Es rfl];show cond false _ (cond false _ _);unfold V6 at h;grind
def agA {a:Option Addr}{n c:Nat}{x y z:Int}{Q:Int->World->Prop}(hA:Sl w a n c 1 one [x,y,z])(h:Q (if x≠0 then x else if y≠0 then y else z) w):ER a n c w Q:=by
 have hl:n=3:=hA.len.symm;subst hl;apply ZB;refine⟨4,?_⟩;show mQ Q (qO Q 3) _ _ _ _ _ _ _;unfold mQ;apply hA.rE (k:=0) rfl (by omega);show cond (x !=0) _ _;by_cases hx:x=0
 ·rw[Es hx,cond_false,wrap_i64 (by decide) (by decide)];rw[if_neg (λe=>e hx)]at h;show mQ Q (qO Q 2) _ _ _ _ _ _ _;unfold mQ;apply hA.rE (k:=1) rfl (by omega);show cond (y !=0) _ _;by_cases hy:y=0
  ·rw[Es hy,cond_false,wrap_i64 (by decide) (by decide)];rw[if_neg (λe=>e hy)]at h;show mQ Q (qO Q 1) _ _ _ _ _ _ _;unfold mQ;apply hA.rE (k:=2) rfl (by omega);show cond (z !=0) _ _;by_cases hz:z=0
   ·rw[Es hz,cond_false,wrap_i64 (by decide) (by decide)];show mQ Q (qO Q 0) _ _ _ _ _ _ _;unfold mQ;grind
   ·rw[Gl hz,cond_true];exact h
  ·rw[Gl hy,cond_true];rw[if_pos hy]at h;exact h
 ·rw[Gl hx,cond_true];rw[if_pos hx]at h;exact h
def X9 {x y:bj}{Q:Int->World->Prop}(s0:Sep F W w L)(h:∀w',Sep F W w' L->Fr No w w'->Q (aid x y) w'):DA x.c x.s x.k y.c y.s y.k w Q:=by apply XY;refine aN (bh (F:=No)) λab w s=>?_;refine aN s λbb w s=>?_;have s:=ay s;apply lI s 1 rfl;apply lI s 0 rfl;apply lI s 1 rfl;apply lI s 0 rfl;apply lI s 1 rfl;apply lI s 0 rfl;apply DM;refine⟨cg s 0 rfl,cg s 1 rfl,cg s 0 rfl,cg s 1 rfl,?_⟩;apply DM;refine⟨cg s 0 rfl,cg s 1 rfl,?_⟩;apply DM;refine aN s λpb w s=>?_;have s:=gX (n:=3) (size:=1) s (i:=0) rfl rfl (by decide) (λu hu=>by simp[List.mem_cons,List.not_mem_nil,or_false]at hu;rcases hu with rfl|rfl|rfl<;>rfl);have s:=s;apply agA (aO s (i:=0) rfl cE (by decide));exact h _ (bR s0 (au s)) (au s)
def cxF (m f:Nat):(cx m).F f=oP f fns:=rfl
def ayM:oP 197 fns=true:=by kernel_rfl
def ajX {m:Nat}{x y:bj}{Q:Int->World->Prop}(h:DA x.c x.s x.k y.c y.s y.k w Q):h_ (cx m) (.func (.func 197) #[] #[]) [.agg #[ae x.c,ae x.s,ae x.k],.agg #[ae y.c,ae y.s,ae y.k]] w λv w'=>dI .i64 v λr=>Q r w':=by unfold h_;simp only;exact h
end
def ZW (tw th c s:Int):Bool:=if s=0 then c/tw==0 else if s=1 then c%tw==tw-1 else if s=2 then c/tw==th-1 else if s=3 then c%tw==0 else s==4
def Am (tw th:Int)(cs:List Int)(x:bj):Bool:=decide (0<=x.c/\x.c<cs.length)&&(gi cs x.c.toNat !=255&&(decide (0<=x.k/\x.k<=1073741824)&&ZW tw th x.c x.s))
def rP (tw th:Int)(cs:List Int)(xs:List bj):Bool:=Tl.DJ tw th cs&&xs.all (Am tw th cs)
section
variable {F:Nat->Prop}{W w w0:World}{L:List As}{a la:Option Addr}{n c ln lc tb:Nat}{cs:List Int}{tw th:Int}{xs:List bj}
def abE {ce sd:Int}{Q:Bool->World->Prop}(s0:Sep F W w L)(hw:1<=tw/\tw<=16)(hh:1<=th/\th<=16)(hc:0<=ce/\ce<1000000)(h:∀w',Sep F W w' L->Fr No w w'->Q (ZW tw th ce sd) w'):Gb tw th a n c ce sd w Q:=by
 apply abp;refine aN (bh (F:=No)) λtb w s=>?_;have s:=ay s;apply lI s 0 rfl;refine⟨by omega,?_⟩;apply lI s 0 rfl;refine⟨by omega,cg s 0 rfl,?_⟩;have h:=h _ (bR s0 (au s)) (au s);have d0:0<=ce/tw:=Int.ediv_nonneg hc.1 (by omega);have d1:ce/tw<=ce:=Int.ediv_le_self _ hc.1;rw[Int.tdiv_eq_ediv_of_nonneg hc.1,Int.tmod_eq_emod_of_nonneg hc.1,aG];unfold ZW at h;by_cases k0:sd=0
 ·grind
 rw[cy k0,cond_false];rw[if_neg k0]at h;by_cases k1:sd=1
 ·rw[cV k1,cond_true];rw[if_pos k1]at h;apply lI s 0 rfl;rw[aG];exact h
 rw[cy k1,cond_false];rw[if_neg k1]at h;by_cases k2:sd=2
 ·rw[cV k2,cond_true];rw[if_pos k2]at h;apply lI s 0 rfl;rw[aG];exact h
 grind
def rQ (w:World)(b:Nat)(vs:List Value):Prop:=∀(j:Nat) v,vs[j]? =some v->w.cell? ((aZ b).add j)=some v
def rQ.fr {w':World}{b:Nat}{vs:List Value}(k:rQ w b vs)(f:Fr No w w'):rQ w' b vs:=λj v h=>Fr.cell f (k j v h) id
def kY {b i:Nat}{t:TypeId}{vs:List Value}(s:Sep F W w L)(hi:L[i]? =some (av b t vs)):rQ w b vs:=λj v hj=>by rw[cq,Nat.zero_add];exact cM s rfl hi hj
def X_ {x:bj}{Q:Bool->World->Prop}(s0:Sep F W w L)(hK:rQ w tb [ae tw,ae th,.slice a n c])(hA:Sl w a n c 1 bq cs)(hm:Tl.DJ tw th cs=true)
  (h:∀w',Sep F W w' L->Fr No w w'->Q (!Am tw th cs x) w'):DC x.c x.s x.k (sZ tb) w Q:=by
 apply XZ;obtain⟨h1,h2,h3,_⟩:=Tl.ZS.1 hm;have hl:=hA.len;have hmx:=Int.mul_le_mul h1.2 h2.2 (by omega) (by decide);refine aN (bh (F:=No)) λsb w1 s=>?_;have K:=hK.fr (au s);have A:=hA.fr (au s);have no:Am tw th cs x=false->Q true w1:=λe=>by have:=h _ (bR s0 (au s)) (au s);grind
 unfold Am at no h;apply lI s 0 rfl;by_cases k1:x.c<0
 ·grind
 rw[bp k1];apply lI s 0 rfl;refine ah (dy (K 2 _ rfl) ?_);by_cases k2:x.c≥(n:Int)
 ·grind
 rw[bp k2];rw[decide_eq_true (show 0<=x.c/\x.c<cs.length by omega),Bool.true_and]at no h;refine ah (dy (K 2 _ rfl) ?_);apply lI s 0 rfl;apply A.AD (k:=x.c.toNat) (by omega) (by omega);by_cases k3:gi cs x.c.toNat=255
 ·grind
 rw[cy k3,cond_false];rw[Gl k3,Bool.true_and]at no h;apply lI s 0 rfl;by_cases k4:x.k<0
 ·grind
 rw[bp k4];apply lI s 0 rfl;by_cases k5:x.k>1073741824
 ·grind
 rw[bp k5];rw[decide_eq_true (show 0<=x.k/\x.k<=1073741824 by omega),Bool.true_and]at h;refine ah (aR (K 0 _ rfl) (aR (K 1 _ rfl) (dy (K 2 _ rfl) ?_)));apply lI s 0 rfl;apply lI s 0 rfl;refine abE s h1 h2 (by omega) λw1 s _=>?_;exact h _ (bR s0 (au s)) (au s)
def aA5:oP 210 fns=true:=by kernel_rfl
def anL {m p:Nat}{x:bj}{Q:Bool->World->Prop}(h:DC x.c x.s x.k (sZ p) w Q):h_ (cx m) (.func (.func 210) #[] #[.pointer (sZ p)]) [.agg #[ae x.c,ae x.s,ae x.k]] w λv w'=>dB v λr=>Q r w':=by unfold h_;simp only;exact h
def ap8 {Q:Int->World->Prop}(hK:rQ w0 tb [ae tw,ae th,.slice a n c])(hA:Sl w0 a n c 1 bq cs)(hm:Tl.DJ tw th cs=true)(hX:Sl w0 la ln lc 3 fS xs)(pZ:ln<=1000000)
  (hy:xs.all (Am tw th cs)=true->∀w',Sep No w0 w' []->Q (-1) w')(hno:xs.all (Am tw th cs)=false->∀(i:Nat) w',Sep No w0 w' []->Q i w'):
  ∀(j i:Nat) (w:World),i+j=ln->(xs.take i).all (Am tw th cs)=true->Sep No w0 w []->e7 Q (j+1) la ln lc (.func (.func 210) #[] #[.pointer (sZ tb)]) ln i w:=by
 have hl:=hX.len;intro j;induction j with
 |zero=>
  intro i w hi ha s;show gg Q (e7 Q 0) _ _ _ _ _ _ _;unfold gg;grind
 |succ j ih=>
  intro i w hi ha s;show gg Q (e7 Q (j+1)) _ _ _ _ _ _ _;rw[gg,bM];refine(hX.fr (au s)).El rfl (by omega) λp x hx hc=>?_;refine aR (hc 0 _ rfl) (aR (hc 1 _ rfl) (aR (hc 2 _ rfl) ?_));refine anL (X_ s (hK.fr (au s)) (hA.fr (au s)) hm λw s _=>?_);cases hb:Am tw th cs x with
  |false=>
   grind
  |true=>
   rw[Bool.not_true,cond_false,aG];refine ih (i+1) w (by omega) ?_ s;rw[List.take_add_one,hx,List.all_append,ha];simp[hb]
def Nu {Q:Bool->World->Prop}(s0:Sep F W w L)(hA:Sl w a n c 1 bq cs)(hX:Sl w la ln lc 3 fS xs)(pZ:ln<=1000000)(h:∀w',Sep F W w' L->Fr No w w'->Q (rP tw th cs xs) w'):Bh tw th a n c la ln lc w Q:=by
 apply abq;refine aN (bh (F:=No)) λtb w1 s=>?_;apply lI s 0 rfl;apply lI s 0 rfl;apply lS s 0 rfl;refine Tl.C1 s (hA.fr (au s)).row λw1 s _=>?_;have fin:∀(r:Bool) (w':World),rP tw th cs xs=r->Fr No w w'->Q r w':=λr w' e f=>by subst e;exact h _ (bR s0 f) f
 unfold rP at fin;cases hm:Tl.DJ tw th cs with
 |false=>
  rw[hm,Bool.false_and]at fin;exact fin _ _ rfl (au s)
 |true=>
  rw[hm,Bool.true_and]at fin;have f1:=au s;apply yj;apply Ai;refine⟨ln+1,ap8 (kY s (i:=0) rfl) (hA.fr f1) hm (hX.fr f1) pZ (λha w' s'=>?_) (λha i w' s'=>?_) ln 0 w1 (by omega) rfl bh⟩
  ·exact fin _ _ ha (f1.trans (au s') (λ_ _=>id))
  ·exact fin _ _ ha (f1.trans (au s') (λ_ _=>id))
end
end Go.Proofs.YtmegplnmiepfbaaGreatDoor.S
namespace Go.Proofs.YtmegplnmiepfbaaGreatDoor.S
open Go.Sx
def ke {n:Int}(h:0<=n/\n<18446744073709551616):IntKind.wrap .u64 n=n:=by
 have:IntKind.wrap .u64 n=n%18446744073709551616:=by simp[IntKind.wrap,IntKind.bits,IntKind.signed]
 grind
def Nv {x:Int}(h:0<=x/\x<4294967296):oW .u64 x 32=0:=by show x.fdiv (2^32)=0;grind
def V7 {x:Int}(h:0<=x/\x<4294967296):BG .u64 x 4294967295=x:=by
 obtain⟨n,rfl⟩:∃n:Nat,x=n:=⟨x.toNat,by omega⟩;have e:(BitVec.ofInt 64 (n:Int)&&&BitVec.ofInt 64 4294967295).toNat=n:=by
  rw[BitVec.toNat_and];have e1:(BitVec.ofInt 64 (n:Int)).toNat=n:=by grind
  have e2:(BitVec.ofInt 64 4294967295).toNat=2^32-1:=by decide
  rw[e1,e2,Nat.and_two_pow_sub_one_eq_mod];omega
 show IntKind.wrap .u64 ((BitVec.ofInt 64 (n:Int)&&&BitVec.ofInt 64 4294967295).toNat:Nat)=_;rw[e];exact ke (by omega)
def aum {x y:Int}(hx:0<=x/\x<1048577)(hy:0<=y/\y<1048577):0<=x*y/\x*y<2000000000000:=by have a:=Int.mul_nonneg hx.1 hy.1;have b:x*y<=1048576*1048576:=Int.mul_le_mul (by omega) (by omega) hy.1 (by decide);omega
def C2 {w:World}{x y:Int}{Q:Int->Int->World->Prop}(hx:0<=x/\x<1048577)(hy:0<=y/\y<1048577)(hxy:x*y<4294967296)(h:Q 0 (x*y) w):qw x y w Q:=by have hm:=aum hx hy;apply Ul;apply PS;refine⟨by decide,by decide,by decide,by decide,by decide,?_⟩;rw[Nv (by omega),Nv (by omega),V7 (by omega),V7 (by omega)];simp[Int.zero_mul,Int.mul_zero,Int.zero_add,Int.add_zero,ke (n:=0) (by decide),ke (n:=x*y) (by omega),Nv (x:=x*y) (by omega),Nv (x:=0) (by decide),V7 (x:=0) (by decide)];exact h
end Go.Proofs.YtmegplnmiepfbaaGreatDoor.S
namespace Go.Proofs.YtmegplnmiepfbaaGreatDoor.S
open Go.Sx
attribute [local irreducible] af cD bw bg aA cu bZ St Bx Al App cH cA cz bX aL bD aq bU av ak aW mapA
def LB:∀l:List Int,flat one l=l.map λx=>Value.int .i64 x
 |[]=>rfl
 |x::l=>by have:=LB l;simp[flat,List.flatMap_cons,List.map_cons]at this⊢;rw[this];rfl
def E_ (x:Int)(u:Value)(h:u∈one x):u.oneCell'=true:=by simp[one,List.mem_singleton]at h;rw[h];rfl
def ap9 {v z:Int}{n k N:Nat}(hk:k<=n)(hN:n+k<=N):
  (flat one (List.replicate n v++List.replicate (N-n) z)).take (n*1)++(flat one ((List.replicate n v++List.replicate (N-n) z).take n)).take (k*1)++(flat one (List.replicate n v++List.replicate (N-n) z)).drop ((n+k)*1)=flat one (List.replicate (n+k) v++List.replicate (N-(n+k)) z):=by
 simp only[LB,Nat.mul_one];rw[<-List.map_take,<-List.map_take,<-List.map_drop,<-List.map_append,<-List.map_append];congr 1;rw[List.take_left' (by simp),List.take_replicate,Nat.min_eq_left hk,List.replicate_append_replicate,<-List.drop_drop,List.drop_left' (by simp),List.drop_replicate,Nat.sub_sub]
section
variable {F:Nat->Prop}{W w w0:World}{L:List As}{xa:Option Addr}{xc:Nat}{v:Int}
def ajY {Q:Option Addr->Nat->Nat->World->Prop}{b N:Nat}(hN:N<=1048576)(h:∀w',Sep No w0 w' (ak (sZ b) N N 3 1 (flat one (List.replicate N v))::L)->Q (sZ b) N N w'):
  ∀(m n:Nat) (w:World),N<=n+m->1<=n->n<=N->Sep No w0 w (ak (sZ b) N N 3 1 (flat one (List.replicate n v++List.replicate (N-n) 0))::L)->lH Q (m+1) (sZ b) N N n w:=by
 have done:∀(R:Option Addr->Nat->Nat->Int->World->Prop) (w:World),Sep No w0 w (ak (sZ b) N N 3 1 (flat one (List.replicate N v++List.replicate (N-N) 0))::L)->lG Q R (sZ b) N N N w:=λR w s=>by unfold lG;grind
 intro m;induction m with
 |zero=>
  intro n w hm h1 h2 s;have:n=N:=by omega
  subst this;exact done _ _ s
 |succ m ih=>
  intro n w hm h1 h2 s;show lG Q (lH Q (m+1)) _ _ _ _ _;by_cases hn:n=N
  ·grind
  ·rw[lG,bM];apply Pd rfl h2;rw[fQ];apply Pc rfl h2;have s:=ay s;have hT:=(aO s (i:=0) rfl cE (by decide)).top h2;refine ED (p:=n) ee s rfl rfl rfl rfl (by decide) (i:=0) rfl (hT.src (e:=3) cE E_) (by omega) (by simp[Addr.add];omega) λw s=>?_;rw[ap9 (Nat.min_le_left _ _) (by omega)]at s;have e:IntKind.wrap .i64 ((n:Int)+((min n (N-n):Nat):Int))=((n+min n (N-n):Nat):Int):=by rw[aG];omega
   grind
def LC {N:Nat}{Q:Option Addr->Nat->Nat->World->Prop}(s0:Sep F W w L)(hA:Sl w xa 1 xc 1 one [v])(hN:1<=N/\N<=1048576)
  (h:∀ra w',Sep F W w' (ak ra N N 3 1 (flat one (List.replicate N v))::L)->Fr No w w'->Q ra N N w'):j_ xa 1 xc N w Q:=by
 apply IZ;rw[bp,ke (by decide),ke (by omega)];apply C2 (by decide) (by omega) (by omega);have e1:((1:Nat):Int)*N=N:=by omega
 rw[e1,bp (by decide),bp,aG];refine xI (bytes:=8) ee (bh (F:=No)) rfl rfl rfl rfl rfl rfl (by decide) cE rfl (λu hu=>E_ 0 u hu) rfl rfl (Nat.le_refl _) (by omega) (by simp[maxLen];omega) λb w' s=>?_;refine ED (p:=0) ee s rfl rfl rfl rfl (by decide) (i:=0) rfl ((hA.fr (au s)).src (e:=3) cE E_) (by omega) rfl λw' s=>?_;have hm:min 1 N=1:=by omega
 rw[hm]at s⊢;have e2:(flat one (List.replicate N 0)).take (0*1)++(flat one [v]).take (1*1)++(flat one (List.replicate N 0)).drop ((0+1)*1)=flat one (List.replicate 1 v++List.replicate (N-1) 0):=by simp only[LB,Nat.zero_mul,List.take_zero,List.nil_append,Nat.mul_one,Nat.zero_add];simp_all
 rw[e2]at s;exact⟨N+1,ajY hN.2 (λw' s=>h _ _ (dD s0 s (i:=0) rfl) (au s)) N 1 w' (by omega) (by omega) hN.1 s⟩
end
section
variable {F:Nat->Prop}{W w w0:World}{L:List As}{a:Option Addr}{n c:Nat}{xs:List bj}{bs:List Int}
def V8 {Q:Option Addr->Nat->Nat->World->Prop}(s:Sep F W w L)(hA:Sl w a n c 3 fS xs)(hn:n<=1000000000)(h:∀ra rc w',Sep F W w' (ak ra n rc 294 3 (flat fS xs)::L)->Fr No w w'->Q ra n rc w'):ji a n c w Q:=by
 apply B7;cases a with
 |none=>
  have hl:=hA.len;have:=hA.nil rfl;have h0:n=0:=by have:=hA.le;omega
  subst h0;have hb:=List.eq_nil_of_length_eq_zero hl;subst hb;exact h _ _ _ (bE s 294 3) Fr.refl
 |some p=>
  apply kX;refine aN (bh (F:=No)) λb w' s'=>?_;have src:=(hA.fr (au s')).src (e:=294) nq V5;have s':=gX (n:=0) (size:=3) s' (i:=0) rfl rfl (by decide) (by simp);refine ig ee s' (i:=0) (bytes:=24) rfl rfl rfl rfl rfl rfl (by decide) rfl src (by simp[maxLen];omega) (by omega) (hA.fr (au s')).nil λa1 c1 w1 s1=>?_;simp[List.set_cons_zero,List.nil_append,Nat.zero_add]at s1⊢;exact h _ _ _ (dD s s1 (i:=0) rfl) (au s1)
def LD {Q:Option Addr->Nat->Nat->World->Prop}(s:Sep F W w L)(hA:Sl w a n c 1 one bs)(hn:n<=1000000000)(h:∀ra rc w',Sep F W w' (ak ra n rc 3 1 (flat one bs)::L)->Fr No w w'->Q ra n rc w'):kO a n c w Q:=by
 apply JG;cases a with
 |none=>
  have hl:=hA.len;have:=hA.nil rfl;have h0:n=0:=by have:=hA.le;omega
  subst h0;have hb:=List.eq_nil_of_length_eq_zero hl;subst hb;exact h _ _ _ (bE s 3 1) Fr.refl
 |some p=>
  apply kX;refine aN (bh (F:=No)) λb w' s'=>?_;have src:=(hA.fr (au s')).src (e:=3) cE E_;have s':=gX (n:=0) (size:=1) s' (i:=0) rfl rfl (by decide) (by simp);refine ig ee s' (i:=0) (bytes:=8) rfl rfl rfl rfl rfl rfl (by decide) rfl src (by simp[maxLen];omega) (by omega) (hA.fr (au s')).nil λa1 c1 w1 s1=>?_;simp[List.set_cons_zero,List.nil_append,Nat.zero_add]at s1⊢;exact h _ _ _ (dD s s1 (i:=0) rfl) (au s1)
end
def w32 (x:Int):List Value:=[.int .u32 x]
def W_ (x:Int):(w32 x).length=1:=rfl
structure QU where
 p:Nat
 a:Option Addr
 n:Nat
 c:Nat
 fR:Int
def Xa (ws:List Int):Prop:=∀x∈ws,0<=x/\x<4294967296
def adU (r:QU)(ws:List Int):List As:=[av r.p 247 [.slice r.a r.n r.c,ae r.fR],ak r.a r.n r.c 248 1 (flat w32 ws)]
def vm (r:QU)(ws:List Int):As:=aW (Xa ws) (adU r ws)
def wrap_u32' {n:Int}(h:0<=n/\n<4294967296):IntKind.wrap .u32 n=n:=by
 have:IntKind.wrap .u32 n=n%4294967296:=by simp[IntKind.wrap,IntKind.bits,IntKind.signed]
 grind
section
variable {F:Nat->Prop}{W w w0:World}{L:List As}{r:QU}{ws:List Int}{ce id:Int}
def SE (s:Sep F W w (vm r ws::L)):Xa ws/\Sep F W w (adU r ws++L):=gL s
def OS (s:Sep F W w (adU r ws++L))(h:Xa ws):Sep F W w (vm r ws::L):=dA s h
structure abF (w:World) (r:QU) (ws:List Int):Prop where
 ok:Xa ws
 cell:rQ w r.p [.slice r.a r.n r.c,ae r.fR]
 V:Sl w r.a r.n r.c 1 w32 ws
def Gt (s:Sep F W w (vm r ws::L)):abF w r ws:=by obtain⟨h,s⟩:=SE s;exact⟨h,kY s (i:=0) rfl,aO s (i:=1) rfl W_ (by decide)⟩
def Ck (ws:List Int)(c:Int):Int:=if 0<=c/\c<ws.length then gi ws c.toNat-1 else-1
def An (ws:List Int)(c:Int):Bool:=decide (0<=c/\c<ws.length)&&gi ws c.toNat==0
def QV {Q:Bool->World->Prop}(k:abF w r ws)(h:Q (decide (0<=ce/\ce<ws.length)) w):tR (sZ r.p) ce w Q:=by
 apply RY;have hl:=k.V.len;show cond true _ _;rw[cond_true];by_cases h0:ce≥0
 ·rw[bM h0];refine ah (dy (k.cell 0 _ rfl) ?_);grind
 grind
def LF {Q:Bool->World->Prop}(k:abF w r ws)(h:Q (An ws ce) w):rf (sZ r.p) ce w Q:=by
 apply Oq;apply QV k;have hl:=k.V.len;unfold An at h;by_cases h0:0<=ce/\ce<ws.length
 ·rw[bM h0];rw[decide_eq_true h0,Bool.true_and]at h;refine ah (dy (k.cell 0 _ rfl) ?_);exact FV k.V (by omega) (by omega) h
 grind
def Bo {Q:Int->World->Prop}(k:abF w r ws)(h:Q (Ck ws ce) w):lT (sZ r.p) ce w Q:=by
 apply PX;apply QV k;have hl:=k.V.len;unfold Ck at h;by_cases h0:0<=ce/\ce<ws.length
 ·rw[decide_eq_true h0,Bool.not_true,cond_false];rw[if_pos h0]at h;refine ah (dy (k.cell 0 _ rfl) ?_);apply FV k.V (k:=ce.toNat) (by omega) (by omega);have hb:=k.ok _ (ff (i:=ce.toNat) (by omega));rw[aG (n:=gi ws ce.toNat),aG];exact h
 grind
def Nw {Q:Bool->World->Prop}(s:Sep F W w (vm r ws::L))(zO:0<=id/\id<4294967295)(hno:An ws ce=false->Q false w)
  (hyes:An ws ce=true->∀fR w',Sep F W w' (vm {r with fR:=fR} (ws.set ce.toNat (id+1))::L)->Q true w'):rY (sZ r.p) ce id w Q:=by
 apply P_;have k:=Gt s;apply LF k;cases hf:An ws ce with
 |false=>exact hno hf
 |true=>
  rw[Bool.not_true,cond_false,bp,bp];have h0:0<=ce/\ce<ws.length:=by unfold An at hf;grind
  obtain⟨hok,s⟩:=SE s;have s:=s;apply ah;apply lS s 0 rfl;rw[aG,wrap_u32' (by omega)];refine Nt (k:=ce.toNat) (x':=id+1) W_ s (i:=1) rfl (by omega) (by omega) rfl rfl λw s=>?_;apply ah;apply lI s 0 rfl;apply ah;refine ax s (i:=0) rfl rfl rfl λw s=>?_;refine hyes hf (IntKind.wrap .i64 (r.fR+1)) _ (OS s λx hx=>?_);rcases List.mem_or_eq_of_mem_set hx with hx|rfl
  ·exact hok x hx
  ·omega
end
section
variable {F:Nat->Prop}{W w w0:World}{L:List As}{r:QU}{ws:List Int}{ce id:Int}
def LG {Q:Int->World->Prop}(s:Sep F W w (vm r ws::L))(hno:Ck ws ce=-1->Q (-1) w)
  (hyes:Ck ws ce≠-1->∀fR w',Sep F W w' (vm {r with fR:=fR} (ws.set ce.toNat 0)::L)->Q (Ck ws ce) w'):q_ (sZ r.p) ce w Q:=by
 apply Ou;have k:=Gt s;apply Bo k;by_cases hf:Ck ws ce=-1
 ·grind
 ·rw[Gl hf,cond_true];have h0:0<=ce/\ce<ws.length:=by unfold Ck at hf;grind
  obtain⟨hok,s⟩:=SE s;have s:=s;apply ah;apply lS s 0 rfl;refine Nt (k:=ce.toNat) (x':=0) W_ s (i:=1) rfl (by omega) (by omega) rfl rfl λw s=>?_;apply ah;apply lI s 0 rfl;apply ah;refine ax s (i:=0) rfl rfl rfl λw s=>?_;refine hyes hf (IntKind.wrap .i64 (r.fR-1)) _ (OS s λx hx=>?_);rcases List.mem_or_eq_of_mem_set hx with hx|rfl
  ·exact hok x hx
  ·omega
def abG {N:Nat}{Q:Option Addr->World->Prop}(s:Sep F W w L)(hN:1<=N/\N<=1048576)(h:∀r w',Sep F W w' (vm r (List.replicate N 0)::L)->Q (sZ r.p) w'):F9 N w Q:=by apply abj;rw[bp,bp];refine xI (bytes:=4) ee s rfl rfl rfl rfl rfl rfl (by decide) W_ rfl (λu hu=>by simp[w32]at hu;subst hu;rfl) rfl rfl (Nat.le_refl _) (by omega) (by simp[maxLen];omega) λb w' s=>?_;refine aN s λp w' s=>?_;refine h ⟨p,sZ b,N,N,0⟩ _ (OS s λx hx=>?_);grind
def Ya {fr to:Int}{Q:Bool->World->Prop}(s:Sep F W w (vm r ws::L))(hno:Ck ws fr=-1\/An ws to=false->Q false w)
  (hyes:Ck ws fr≠-1->An ws to=true->∀fR w',Sep F W w' (vm {r with fR:=fR} ((ws.set fr.toNat 0).set to.toNat (Ck ws fr+1))::L)->Q true w'):wo (sZ r.p) fr to w Q:=by
 apply MR;have k:=Gt s;apply Bo k;by_cases hf:Ck ws fr=-1
 ·grind
 rw[cy hf,cond_false];apply LF k;cases ht:An ws to with
 |false=>
  grind
 |true=>
  refine LG s (λe=>(hf e).elim) λ_ fR w s=>?_;have hw:0<=Ck ws fr/\Ck ws fr<4294967295:=by
   unfold Ck at hf⊢;split at hf
   ·rename_i h0;have:=k.ok _ (ff (i:=fr.toNat) (by omega));omega
   grind
  have hfree:An (ws.set fr.toNat 0) to=true:=by unfold An at ht⊢;simp[Bool.and_eq_true,decide_eq_true_eq,List.length_set,beq_iff_eq]at ht⊢;refine⟨ht.1,?_⟩;unfold gi at ht⊢;grind
  refine Nw (r:={r with fR:=fR}) s (by omega) (λe=>by grind) λ_ aBw w s=>?_;grind
end
def oS (x:Int):List Value:=[.int .i32 x]
def vo (x:Int):(oS x).length=1:=rfl
def ae9 {n:Int}(h:-2147483648<=n/\n<2147483648):IntKind.wrap .i32 n=n:=by simp only[IntKind.wrap,IntKind.bits,IntKind.signed];simp;omega
structure Gu where
 goal:Int
 ep:Int
 ds:List Int
structure xA where
 p:Nat
 a:Option Addr
 n:Nat
 c:Nat
def anM (r:xA)(t:Gu):List Value:=[ae t.goal,ae t.ep,.slice r.a r.n r.c]
def aie (ds:List Int):Prop:=∀x∈ds,0<=x/\x<=2147483647
def adV (r:xA)(t:Gu):List As:=[av r.p 298 (anM r t),ak r.a r.n r.c 21 1 (flat oS t.ds)]
def D_ (r:xA)(t:Gu):As:=aW (aie t.ds) (adV r t)
structure Gv (w:World) (r:xA) (t:Gu):Prop where
 ok:aie t.ds
 cell:rQ w r.p (anM r t)
 V:Sl w r.a r.n r.c 1 oS t.ds
section
variable {F:Nat->Prop}{W w w0:World}{L:List As}{r:xA}{t:Gu}{ce key:Int}
def Gv.fr {w':World}(k:Gv w r t)(f:Fr No w w'):Gv w' r t:=⟨k.ok,k.cell.fr f,k.V.fr f⟩
def abH (s:Sep F W w (D_ r t::L)):aie t.ds/\Sep F W w (adV r t++L):=gL s
def Yz (s:Sep F W w (adV r t++L))(h:aie t.ds):Sep F W w (D_ r t::L):=dA s h
def SF (s:Sep F W w (D_ r t::L)):Gv w r t:=by obtain⟨h,s⟩:=abH s;exact⟨h,kY s (i:=0) rfl,aO s (i:=1) rfl vo (by decide)⟩
def atF (ds:List Int)(c:Int):Int:=if 0<=c/\c<ds.length then(if gi ds c.toNat=2147483647 then bS else gi ds c.toNat)else bS
def adW {Q:Int->World->Prop}(k:Gv w r t)(h:Q (atF t.ds ce) w):z6 (sZ r.p) ce w Q:=by
 apply Sd;apply kX;have hl:=k.V.len;unfold atF at h;by_cases h0:ce<0
 ·rw[bM h0];rw[fQ]at h;exact h
 rw[bp h0];refine ah (dy (k.cell 2 _ rfl) ?_);by_cases h1:ce≥(r.n:Int)
 ·rw[bM h1];rw[fQ]at h;exact h
 rw[bp h1];rw[AE]at h;refine ah (dy (k.cell 2 _ rfl) ?_);apply FV k.V (k:=ce.toNat) (by omega) (by omega);have hb:=k.ok _ (ff (i:=ce.toNat) (by omega));by_cases h2:gi t.ds ce.toNat=2147483647
 ·rw[cV h2,cond_true];rw[if_pos h2]at h;exact h
 rw[cy h2,cond_false];rw[if_neg h2]at h;refine ah (dy (k.cell 2 _ rfl) ?_);apply FV k.V (k:=ce.toNat) (by omega) (by omega);rw[aG];exact h
def ZX {Q:Int->World->Prop}(k:Gv w r t)(h:Q t.goal w):xW (sZ r.p) w Q:=by apply Ox;exact kX (ah (aR (k.cell 0 _ rfl) h))
def Yb {Q:Int->World->Prop}(k:Gv w r t)(h:Q t.ep w):wu (sZ r.p) w Q:=by apply MG;exact kX (ah (aR (k.cell 1 _ rfl) h))
def LH {Q:Bool->World->Prop}(s:Sep F W w (D_ r t::L))(hc:0<=ce/\ce<t.ds.length)(hk:0<=key/\key<4000000000)(hno:key≥gi t.ds ce.toNat->Q false w)
  (hyes:key<gi t.ds ce.toNat->∀w',Sep F W w' (D_ r ⟨t.goal,t.ep,t.ds.set ce.toNat key⟩::L)->Q true w'):ri (sZ r.p) ce key w Q:=by
 apply OC;have k:=SF s;have hl:=k.V.len;have hb:=k.ok _ (ff (i:=ce.toNat) (by omega));refine ah (dy (k.cell 2 _ rfl) ?_);apply FV k.V (k:=ce.toNat) (by omega) (by omega);rw[aG];by_cases h1:key≥gi t.ds ce.toNat
 ·grind
 rw[bp h1];refine ah (dy (k.cell 2 _ rfl) ?_);obtain⟨hok,s⟩:=abH s;have s:=s;rw[ae9 (by omega)];refine Nt (k:=ce.toNat) (x':=key) vo s (i:=1) rfl (by omega) (by omega) rfl rfl λw s=>?_;refine hyes (by omega) _ (Yz s λx hx=>?_);rcases List.mem_or_eq_of_mem_set hx with hx|rfl
 ·exact hok x hx
 ·omega
end
def SG (c s:Int)(st:Int×Bool)(x:bj):Int×Bool:=if x.c=c/\x.s=s/\(st.2=false\/x.k<st.1)then(x.k,true)else st
def Iq (xs:List bj)(c s:Int):Int:=(xs.foldl (SG c s) (bS,false)).1
section
variable {F:Nat->Prop}{W w w0:World}{L:List As}{la:Option Addr}{ln lc:Nat}{xs:List bj}{ce sd:Int}
def anO {Q:Int->World->Prop}(hX:Sl w0 la ln lc 3 fS xs)(pZ:ln<=1000000)(h:∀w',Sep No w0 w' []->Q (Iq xs ce sd) w'):
  ∀(j i:Nat) (b:Int) (q:Bool) (w:World),i+j=ln->(xs.drop i).foldl (SG ce sd) (b,q)=xs.foldl (SG ce sd) (bS,false)->Sep No w0 w []->oy Q (j+1) ce sd b q la ln lc ln i w:=by
 have hl:=hX.len;intro j;induction j with
 |zero=>
  intro i b q w hi he s;show zk Q (oy Q 0) _ _ _ _ _ _ _ _ _ _;unfold zk;have:=h w s;unfold Iq at this;grind
 |succ j ih=>
  intro i b q w hi he s;show zk Q (oy Q (j+1)) _ _ _ _ _ _ _ _ _ _;rw[zk,bM];refine(hX.fr (au s)).El rfl (by omega) λp x hx hc=>?_;refine aR (hc 0 _ rfl) (aR (hc 1 _ rfl) (aR (hc 2 _ rfl) ?_));obtain⟨IJ,hx'⟩:=List.getElem?_eq_some_iff.1 hx;rw[List.drop_eq_getElem_cons IJ,hx',List.foldl_cons]at he;refine aT s λsb w s=>?_;refine ax s (i:=0) rfl rfl rfl λw s=>?_;refine ax s (i:=0) rfl rfl rfl λw s=>?_;refine ax s (i:=0) rfl rfl rfl λw s=>?_;have skip:¬(x.c=ce/\x.s=sd/\(q=false\/x.k<b))->oy Q (j+1) ce sd b q la ln lc ln (IntKind.wrap .i64 ((i:Int)+1)) w:=λhn=>by rw[aG];refine ih (i+1) b q w (by omega) ?_ (ai s);have e:SG ce sd (b,q) x=(b,q):=if_neg hn;grind
  have take:x.c=ce/\x.s=sd/\(q=false\/x.k<b)->CZ (oy Q (j+1)) Q ce sd (aZ sb) la ln lc ln i w:=λhy=>by apply lI s 0 rfl;rw[aG];refine ih (i+1) x.k true w (by omega) ?_ (ai s);have e:SG ce sd (b,q) x=(x.k,true):=if_pos hy;grind
  apply lI s 0 rfl;by_cases k1:x.c=ce
  ·rw[cV k1,cond_true];apply lI s 0 rfl;by_cases k2:x.s=sd
   ·rw[cV k2,cond_true];cases q with
    |false=>
     grind
    |true=>
     apply lI s 0 rfl;grind
   grind
  grind
def LI {Q:Int->World->Prop}(s0:Sep F W w L)(hX:Sl w la ln lc 3 fS xs)(pZ:ln<=1000000)(h:∀w',Sep F W w' L->Fr No w w'->Q (Iq xs ce sd) w'):Ac la ln lc ce sd w Q:=by apply ZM;exact⟨ln+1,anO hX pZ (λw' s=>h _ (bR s0 (au s)) (au s)) ln 0 bS false w (by omega) (by grind) bh⟩
end
def bN (tw th l s:Int):Int:=
 if s=0 then(if l/tw>0 then l-tw else-1)
 else if s=1 then(if l%tw<tw-1 then l+1 else-1)
 else if s=2 then(if l/tw<th-1 then l+tw else-1)
 else if s=3 then(if l%tw>0 then l-1 else-1)
 else-1
section
variable {F:Nat->Prop}{W w w0:World}{L:List As}{p:Nat}{tw th l sd:Int}{vs:List Value}
def abI {Q:Int->World->Prop}(s0:Sep F W w L)(k:rQ w p (ae tw::ae th::vs))(hw:1<=tw/\tw<=16)(hh:1<=th/\th<=16)(hl:0<=l/\l<1000000)
  (h:∀w',Sep F W w' L->Fr No w w'->Q (bN tw th l sd) w'):yY (sZ p) l sd w Q:=by
 apply Qs;have k:=k.fr (w':=w.drew) Fr.refl;have h:=h _ (ay s0) Fr.refl;have d0:0<=l/tw:=Int.ediv_nonneg hl.1 (by omega);have d1:l/tw<=l:=Int.ediv_le_self _ hl.1;refine ah (aR (k 0 _ rfl) ⟨by omega,ah (aR (k 0 _ rfl) ⟨by omega,k 0 _ rfl,?_⟩)⟩);rw[Int.tdiv_eq_ediv_of_nonneg hl.1,Int.tmod_eq_emod_of_nonneg hl.1,aG];unfold bN at h;have b8:(if sd=3 then(if l%tw>0 then l-1 else-1)else-1:Int)=bN tw th l sd->qD Q l sd (l%tw) w.drew:=λe=>by
  unfold bN at e;unfold qD;by_cases k3:sd=3
  ·by_cases q:l%tw>0
   ·rw[bM q,aG];grind
   grind
  grind
 have b6:(sd≠0->sd≠1->True)->(sd=0\/sd=1->bN tw th l sd=-1)->qE Q (sZ p) l sd (l%tw) (l/tw) w.drew:=λ_ e=>by
  unfold qE;by_cases k2:sd=2
  ·rw[cV k2,cond_true];rw[fQ,fQ,if_pos k2]at h;refine ah (aR (k 1 _ rfl) ?_);rw[aG];by_cases q:l/tw<th-1
   ·rw[bM q];rw[if_pos q]at h;refine ah (aR (k 0 _ rfl) ?_);rw[aG];exact h
   ·rw[bp q];apply b8;unfold bN;omega
  ·rw[cy k2,cond_false];apply b8;by_cases k01:sd=0\/sd=1
   ·omega
   ·unfold bN;omega
 have b4:(sd=0->bN tw th l sd=-1)->qF Q (sZ p) l sd (l%tw) (l/tw) w.drew:=λe=>by
  unfold qF;by_cases k1:sd=1
  ·rw[cV k1,cond_true];refine ah (aR (k 0 _ rfl) ?_);rw[aG];by_cases q:l%tw<tw-1
   ·rw[bM q,aG];grind
   ·rw[bp q];refine b6 (λ_ _=>trivial) λ_=>?_;unfold bN;omega
  grind
 by_cases k0:sd=0
 ·rw[cV k0,cond_true];by_cases q:l/tw>0
  ·rw[bM q];rw[if_pos k0,if_pos q]at h;refine ah (aR (k 0 _ rfl) ?_);rw[aG];exact h
  ·rw[bp q];refine b4 λ_=>?_;unfold bN;grind
 grind
end
end Go.Proofs.YtmegplnmiepfbaaGreatDoor.S
namespace Go.Proofs.YtmegplnmiepfbaaGreatDoor.S
open Go.Sx
section
variable {w h sc l s c x y:Int}
def Gw (hm:iO w h)(hx:0<=x/\x<w)(hy:0<=y/\y<h):aC w h (y*w+x)/cR w=y/16/\aC w h (y*w+x)%cR w=x/16:=by obtain⟨e1,e2⟩:=rF (y:=y) hx;have:=Va (aaZ hm hx hy);grind
def zv (hs:dW w h sc):(1<=aD w h sc/\aD w h sc<=16)/\(1<=bz w h sc/\bz w h sc<=16)/\0<=sc%cR w/\0<=sc/cR w/\16*(sc%cR w)<w/\16*(sc/cR w)<h:=by
 obtain⟨hm,h0,h1⟩:=hs;have ha:1<=cR w:=by unfold cR;have:=hm.1;omega
 have m0:=Int.emod_nonneg sc (show cR w≠0 by omega);have m1:=Int.emod_lt_of_pos sc (show 0<cR w by omega);have d0:0<=sc/cR w:=Int.ediv_nonneg h0 (by omega);have d1:sc/cR w<cR h:=Int.ediv_lt_of_lt_mul (by omega) (by unfold eI at h1;grind);have a1:16*(sc%cR w)<w:=by unfold cR at*;omega
 have a2:16*(sc/cR w)<h:=by have:cR h=(h+15)/16:=rfl;omega
 unfold aD bz;omega
def QW (hs:dW w h sc)(hl:0<=l/\l<aD w h sc*bz w h sc)(vW:0<=s/\s<=3)(hn:0<=bN (aD w h sc) (bz w h sc) l s):
  (0<=bN (aD w h sc) (bz w h sc) l s/\bN (aD w h sc) (bz w h sc) l s<aD w h sc*bz w h sc)/\a_ w h (bY w h sc l) s=bY w h sc (bN (aD w h sc) (bz w h sc) l s):=by
 obtain⟨⟨w1,w2⟩,⟨h1,h2⟩,p1,p2,p3,p4⟩:=zv hs;have hw:aD w h sc<=w-16*(sc%cR w):=by unfold aD;omega
 have hh:bz w h sc<=h-16*(sc/cR w):=by unfold bz;omega
 obtain⟨i0,i1⟩:0<=l%aD w h sc/\l%aD w h sc<aD w h sc:=⟨Int.emod_nonneg _ (by omega),Int.emod_lt_of_pos _ (by omega)⟩;obtain⟨j0,j1⟩:0<=l/aD w h sc/\l/aD w h sc<bz w h sc:=⟨Int.ediv_nonneg hl.1 (by omega),Int.ediv_lt_of_lt_mul (by omega) (by rw[Int.mul_comm];exact hl.2)⟩;have hle:l=l/aD w h sc*aD w h sc+l%aD w h sc:=by have:=Int.mul_ediv_add_emod l (aD w h sc);rw[Int.mul_comm]at this;omega
 have hg:∀i j,0<=i/\i<aD w h sc->bY w h sc (j*aD w h sc+i)=(16*(sc/cR w)+j)*w+(16*(sc%cR w)+i):=λi j hi=>by obtain⟨e1,e2⟩:=rF hi;rw[bY,e1,e2];omega
 have key:∀i j i' j',l=j*aD w h sc+i->0<=i/\i<aD w h sc->0<=i'/\i'<aD w h sc->0<=j'/\j'<bz w h sc->bN (aD w h sc) (bz w h sc) l s=j'*aD w h sc+i'->
   (0<=j/\j<bz w h sc)->a_ w h ((16*(sc/cR w)+j)*w+(16*(sc%cR w)+i)) s=gW w h (16*(sc%cR w)+i') (16*(sc/cR w)+j')->
   (0<=bN (aD w h sc) (bz w h sc) l s/\bN (aD w h sc) (bz w h sc) l s<aD w h sc*bz w h sc)/\a_ w h (bY w h sc l) s=bY w h sc (bN (aD w h sc) (bz w h sc) l s):=by
  intro i j i' j' el hi hi' hj' en hj es;rw[en,el,hg _ _ hi,hg _ _ hi',es,m_ hs.1 (by omega) (by omega)];refine⟨⟨by have:=Int.mul_nonneg hj'.1 (show 0<=aD w h sc by omega);omega,?_⟩,rfl⟩;have:=Int.mul_le_mul_of_nonneg_right (show j'+1<=bz w h sc by omega) (show 0<=aD w h sc by omega);rw[Int.add_mul,Int.one_mul,Int.mul_comm (bz w h sc)]at this;omega
 have hst:=EF (s:=s) hs.1 (x:=16*(sc%cR w)+l%aD w h sc) (y:=16*(sc/cR w)+l/aD w h sc) (by omega) (by omega);unfold bN at hn;obtain rfl|rfl|rfl|rfl:s=0\/s=1\/s=2\/s=3:=by omega
 ·by_cases q:l/aD w h sc>0
  ·refine key _ _ (l%aD w h sc) (l/aD w h sc-1) hle ⟨i0,i1⟩ ⟨i0,i1⟩ (by omega) ?_ ⟨j0,j1⟩ ?_
   ·rw[bN,if_pos rfl,if_pos q,Int.sub_mul,Int.one_mul];omega
   ·rw[hst,if_pos rfl];congr 1;omega
  ·omega
 ·by_cases q:l%aD w h sc<aD w h sc-1
  ·refine key _ _ (l%aD w h sc+1) (l/aD w h sc) hle ⟨i0,i1⟩ (by omega) (by omega) ?_ ⟨j0,j1⟩ ?_
   ·unfold bN;omega
   ·rw[hst,if_neg (by decide),if_neg (by decide),if_neg (by decide),if_pos rfl];congr 1;omega
  ·omega
 ·by_cases q:l/aD w h sc<bz w h sc-1
  ·refine key _ _ (l%aD w h sc) (l/aD w h sc+1) hle ⟨i0,i1⟩ ⟨i0,i1⟩ (by omega) ?_ ⟨j0,j1⟩ ?_
   ·rw[bN,if_neg (by decide),if_neg (by decide),if_pos rfl,if_pos q,Int.add_mul,Int.one_mul];omega
   ·rw[hst,if_neg (by decide),if_pos rfl];congr 1;omega
  ·omega
 ·by_cases q:l%aD w h sc>0
  ·refine key _ _ (l%aD w h sc-1) (l/aD w h sc) hle ⟨i0,i1⟩ (by omega) (by omega) ?_ ⟨j0,j1⟩ ?_
   ·unfold bN;omega
   ·rw[hst,if_neg (by decide),if_neg (by decide),if_pos rfl];congr 1;omega
  ·omega
def SH (hs:dW w h sc)(hl:0<=l/\l<aD w h sc*bz w h sc)(vW:0<=s/\s<=3)(hn:¬0<=bN (aD w h sc) (bz w h sc) l s):
  (0<=a_ w h (bY w h sc l) s->aC w h (a_ w h (bY w h sc l) s)≠sc)/\l∈mD (aD w h sc) (bz w h sc) s/\
  (0<=a_ w h (bY w h sc l) s->0<=a_ w h (bY w h sc (gi (mD (aD w h sc) (bz w h sc) s) 0)) s):=by
 obtain⟨⟨w1,w2⟩,⟨h1,h2⟩,p1,p2,p3,p4⟩:=zv hs;have hw:aD w h sc=min 16 (w-16*(sc%cR w)):=rfl;have hh:bz w h sc=min 16 (h-16*(sc/cR w)):=rfl;obtain⟨i0,i1⟩:0<=l%aD w h sc/\l%aD w h sc<aD w h sc:=⟨Int.emod_nonneg _ (by omega),Int.emod_lt_of_pos _ (by omega)⟩;obtain⟨j0,j1⟩:0<=l/aD w h sc/\l/aD w h sc<bz w h sc:=⟨Int.ediv_nonneg hl.1 (by omega),Int.ediv_lt_of_lt_mul (by omega) (by rw[Int.mul_comm];exact hl.2)⟩;have hle:l=l/aD w h sc*aD w h sc+l%aD w h sc:=by have:=Int.mul_ediv_add_emod l (aD w h sc);rw[Int.mul_comm]at this;omega
 have hg:∀i j,0<=i/\i<aD w h sc->bY w h sc (j*aD w h sc+i)=(16*(sc/cR w)+j)*w+(16*(sc%cR w)+i):=λi j hi=>by obtain⟨e1,e2⟩:=rF hi;rw[bY,e1,e2];omega
 have hst:=EF (s:=s) hs.1 (x:=16*(sc%cR w)+l%aD w h sc) (y:=16*(sc/cR w)+l/aD w h sc) (by omega) (by omega);have hgl:bY w h sc l=(16*(sc/cR w)+l/aD w h sc)*w+(16*(sc%cR w)+l%aD w h sc):=by have:=hg (l%aD w h sc) (l/aD w h sc) ⟨i0,i1⟩;rw[<-hle]at this;exact this
 rw[<-hgl]at hst;have first:∀i j,0<=i/\i<aD w h sc->0<=j/\j<bz w h sc->a_ w h (bY w h sc (j*aD w h sc+i)) s=if s=0 then gW w h (16*(sc%cR w)+i) (16*(sc/cR w)+j-1)else if s=2 then gW w h (16*(sc%cR w)+i) (16*(sc/cR w)+j+1)else if s=3 then gW w h (16*(sc%cR w)+i-1) (16*(sc/cR w)+j)else if s=1 then gW w h (16*(sc%cR w)+i+1) (16*(sc/cR w)+j)else if s=4 then gW w h (16*(sc%cR w)+i) (16*(sc/cR w)+j)else-1:=λi j hi hj=>by rw[hg i j hi];exact EF hs.1 (by omega) (by omega)
 have ok:∀{x y:Int},0<=gW w h x y->(0<=x/\x<w)/\(0<=y/\y<h)/\gW w h x y=y*w+x:=λh0=>by obtain⟨a,b,_⟩:=BP h0;exact⟨a,b,m_ hs.1 a b⟩
 have pos:∀{x y:Int},0<=x/\x<w->0<=y/\y<h->0<=gW w h x y:=λhx hy=>by rw[m_ hs.1 hx hy];have:=Int.mul_nonneg hy.1 (show 0<=w by omega);omega
 have head:∀(n:Int) (f:Int->Int),0<n->gi (mC n f) 0=f 0:=λn f hn=>by unfold gi mC;rw[List.getD_eq_getElem?_getD,List.getElem?_map,List.getElem?_range (by omega)];rfl
 have mem:∀(n:Int) (f:Int->Int) (k:Int),0<=k/\k<n->f k∈mC n f:=λn f k hk=>by refine List.mem_map.2 ⟨k.toNat,List.mem_range.2 (by omega),?_⟩;rw[Int.toNat_of_nonneg hk.1]
 unfold bN at hn;obtain rfl|rfl|rfl|rfl:s=0\/s=1\/s=2\/s=3:=by omega
 ·rw[hst,if_pos rfl];have q:¬l/aD w h sc>0:=λq=>by have:=Int.mul_le_mul_of_nonneg_right (show 1<=l/aD w h sc by omega) (show 0<=aD w h sc by omega);omega
  have hj:l/aD w h sc=0:=by omega
  have ha:mD (aD w h sc) (bz w h sc) 0=mC (aD w h sc) λx=>0+x:=by unfold mD;rw[if_neg (by decide),if_pos rfl]
  rw[ha];refine⟨λh0 e=>?_,?_,λh0=>?_⟩
  ·obtain⟨a,b,e1⟩:=ok h0;rw[e1]at e;have:=(Gw hs.1 a b).1;rw[e]at this;omega
  ·have:=mem (aD w h sc) (λx=>0+x) l (by rw[hj,Int.zero_mul]at hle;omega);simpa using this
  ·rw[head _ _ (by omega)];have:=first 0 0 (by omega) (by omega)
   rw[Int.zero_mul]at this;rw[this,if_pos rfl];obtain⟨a,b,_⟩:=ok h0;exact pos (by omega) (by omega)
 ·rw[hst,if_neg (by decide),if_neg (by decide),if_neg (by decide),if_pos rfl];have q:¬l%aD w h sc<aD w h sc-1:=λq=>by omega
  have ha:mD (aD w h sc) (bz w h sc) 1=mC (bz w h sc) λy=>aD w h sc-1+y*aD w h sc:=by unfold mD;rw[if_neg (by decide),if_neg (by decide),if_pos rfl]
  rw[ha];refine⟨λh0 e=>?_,?_,λh0=>?_⟩
  ·obtain⟨a,b,e1⟩:=ok h0;rw[e1]at e;have:=(Gw hs.1 a b).2;rw[e]at this;omega
  ·have:=mem (bz w h sc) (λy=>aD w h sc-1+y*aD w h sc) (l/aD w h sc) ⟨j0,j1⟩;rwa[show aD w h sc-1+l/aD w h sc*aD w h sc=l by omega]at this
  ·rw[head _ _ (by omega)];have:=first (aD w h sc-1) 0 (by omega) (by omega)
   rw[Int.zero_mul,Int.zero_add]at this;rw[Int.zero_mul,Int.add_zero,this,if_neg (by decide),if_neg (by decide),if_neg (by decide),if_pos rfl];obtain⟨a,b,_⟩:=ok h0;exact pos (by omega) (by omega)
 ·rw[hst,if_neg (by decide),if_pos rfl];have q:¬l/aD w h sc<bz w h sc-1:=λq=>by omega
  have ha:mD (aD w h sc) (bz w h sc) 2=mC (aD w h sc) λx=>(bz w h sc-1)*aD w h sc+x:=by unfold mD;rw[if_pos rfl]
  rw[ha];have hj:l/aD w h sc=bz w h sc-1:=by omega
  refine⟨λh0 e=>?_,?_,λh0=>?_⟩
  ·obtain⟨a,b,e1⟩:=ok h0;rw[e1]at e;have:=(Gw hs.1 a b).1;rw[e]at this;omega
  ·have:=mem (aD w h sc) (λx=>(bz w h sc-1)*aD w h sc+x) (l%aD w h sc) ⟨i0,i1⟩;rwa[show(bz w h sc-1)*aD w h sc+l%aD w h sc=l by rw[<-hj];omega]at this
  ·rw[head _ _ (by omega)];have:=first 0 (bz w h sc-1) (by omega) (by omega)
   rw[this,if_neg (by decide),if_pos rfl];obtain⟨a,b,_⟩:=ok h0;exact pos (by omega) (by omega)
 ·rw[hst,if_neg (by decide),if_neg (by decide),if_pos rfl];have q:¬l%aD w h sc>0:=λq=>by have:=Int.mul_nonneg j0 (show 0<=aD w h sc by omega);omega
  have ha:mD (aD w h sc) (bz w h sc) 3=mC (bz w h sc) λy=>0+y*aD w h sc:=by unfold mD;rw[if_neg (by decide),if_neg (by decide),if_neg (by decide),if_pos rfl]
  rw[ha];refine⟨λh0 e=>?_,?_,λh0=>?_⟩
  ·obtain⟨a,b,e1⟩:=ok h0;rw[e1]at e;have:=(Gw hs.1 a b).2;rw[e]at this;omega
  ·have:=mem (bz w h sc) (λy=>0+y*aD w h sc) (l/aD w h sc) ⟨j0,j1⟩;rwa[show 0+l/aD w h sc*aD w h sc=l by omega]at this
  ·rw[head _ _ (by omega),Int.zero_mul,Int.add_zero];have:=first 0 0 (by omega) (by omega)
   rw[Int.zero_mul,Int.add_zero]at this;rw[this,if_neg (by decide),if_neg (by decide),if_pos rfl];obtain⟨a,b,_⟩:=ok h0;exact pos (by omega) (by omega)
end
def fJ (m:bJ)(x n c:Int):Prop:=eZ m x=true/\eZ m n=true/\(∃s:Int,(0<=s/\s<=3)/\a_ m.w m.h x s=n)/\c=cL m n
def f_ (m:bJ)(t x k:Int):Prop:=x=t/\eZ m t=true/\k=0
noncomputable def D (m:bJ)(t x:Int):Int:=gC (f_ m t) (fJ m) x
def cU (m:bJ)(x:Int):Int:=aC m.w m.h x
def n6 (m:bJ)(x:Int):Prop:=x∈aX m (cU m x)
section
variable {m:bJ}{t x n c d s sc l:Int}
def zP (h:eZ m x=true):0<cL m x/\cL m x<255:=by unfold eZ at h;simpa using h
def jT (hm:cP m)(h:eZ m x=true):bF m.w m.h x:=by
 have:=(zP h).1;unfold cL at this;split at this
 ·rename_i hx;rw[hm.len]at hx;exact⟨⟨hm.w,hm.h⟩,hx⟩
 ·omega
def C3 (h:fJ m x n c):1<=c/\c<=254:=by have:=zP h.2.1;rw[h.2.2.2];omega
def SI {k:Int}(h:f_ m t x k):0<=k/\k<=0:=by rw[h.2.2];omega
def cK:∀x n c,fJ m x n c->0<=c:=λx n c h=>by have:=C3 h;omega
def iL:∀x k,f_ m t x k->0<=k:=λx k h=>(SI h).1
def adY (h:Wy (f_ m t) (fJ m) x d):eZ m x=true/\eZ m t=true:=by
 induction h with
 |src h=>exact⟨by rw[h.1];exact h.2.1,h.2.1⟩
 |go e _ ih=>exact⟨e.1,ih.2⟩
def jU (m:bJ):List Int:=(List.range m.cs.length).map λi:Nat=>(i:Int)
def zw (hm:cP m)(hx:bF m.w m.h x):x∈jU m:=by have h1:=hx.2;have h2:=hm.len;exact List.mem_map.2 ⟨x.toNat,List.mem_range.2 (by omega),by omega⟩
def aih (hm:cP m)(hw:Wy (f_ m t) (fJ m) x d):0<=D m t x/\D m t x<=254*(m.w*m.h-1):=by
 have h1:=aa0 (S:=f_ m t) (E:=fJ m) (λx k h=>SI h) (λx n c h=>C3 h) (jU m) (λx d h=>zw hm (jT hm (adY h).1)) hw;have h2:((jU m).length:Int)=m.w*m.h:=by rw[<-hm.len];simp[jU]
 refine⟨lD iL cK (pP iL cK hw).1,?_⟩;show gC (f_ m t) (fJ m) x<=_;omega
def ap_ (hm:cP m)(hw:Wy (f_ m t) (fJ m) x d):D m t x<1000000000:=by have:=aih hm hw;have:=mU ⟨hm.w,hm.h⟩;omega
def Xb (h:¬∃d,Wy (f_ m t) (fJ m) x d):D m t x=bS:=xK λd hd=>h ⟨d,hd⟩
def Bp (hm:cP m):D m t x<bS↔∃d,Wy (f_ m t) (fJ m) x d:=by
 constructor
 ·intro h;refine Classical.byContradiction λk=>?_;rw[Xb k]at h;grind
 ·rintro ⟨d,hd⟩;have:=ap_ hm hd;unfold bS;omega
def arR (hw:Wy (f_ m t) (fJ m) x d):Wy (f_ m t) (fJ m) x (D m t x)/\∀e,Wy (f_ m t) (fJ m) x e->D m t x<=e:=pP iL cK hw
def anP (h:eZ m t=true):D m t t=0:=KX (.src ⟨rfl,h,rfl⟩) λe he=>lD iL cK he
def av2 (hw:Wy (f_ m t) (fJ m) x d)(hx:x≠t):1<=D m t x:=by
 rcases Ka iL cK hw with h1|⟨n,c,h1,h2,d',h3⟩
 ·exact(hx h1.1).elim
 ·have:=C3 h1;have h0:=lD iL cK (pP iL cK h3).1;show 1<=gC (f_ m t) (fJ m) x;omega
def Kr (m:bJ)(t x s:Int):Prop:=0<=a_ m.w m.h x s/\eZ m (a_ m.w m.h x s)=true/\cL m (a_ m.w m.h x s)+D m t (a_ m.w m.h x s)=D m t x
open Classical in
noncomputable def kI (m:bJ)(t x:Int):Int:=
 if D m t x=bS then 5 else if x=t then 4 else if Kr m t x 0 then 0 else if Kr m t x 1 then 1 else if Kr m t x 2 then 2 else if Kr m t x 3 then 3 else 5
def aqa (hm:cP m)(hD:D m t x<bS)(hx:x≠t):∃s,(0<=s/\s<=3)/\Kr m t x s:=by
 obtain⟨d,hw⟩:=(Bp hm).1 hD;rcases Ka iL cK hw with h1|⟨n,c,h1,h2,d',h3⟩
 ·exact(hx h1.1).elim
 ·obtain⟨ho,hn,⟨s,hs,rfl⟩,rfl⟩:=h1;refine⟨s,hs,(jT hm hn).2.1,hn,?_⟩;show cL m _+gC (f_ m t) (fJ m) _=gC (f_ m t) (fJ m) x;omega
def Xc (hm:cP m)(hD:D m t x<bS)(hx:x≠t):(0<=kI m t x/\kI m t x<=3)/\Kr m t x (kI m t x)/\∀s,0<=s->s<kI m t x->¬Kr m t x s:=by obtain⟨s,hs,hd⟩:=aqa hm hD hx;rw[kI,fQ,if_neg hx];grind
def I6 {w h:Int}(hs:0<=s/\s<=3)(h0:0<=a_ w h x s):∃s',(0<=s'/\s'<=3)/\a_ w h (a_ w h x s) s'=x:=by
 obtain⟨c1,c2⟩:=uR h0;obtain⟨q1,q2,q3⟩:=Ip c1;have hst:a_ w h x s=if s=0 then gW w h (x%w) (x/w-1)else if s=2 then gW w h (x%w) (x/w+1)else if s=3 then gW w h (x%w-1) (x/w)else if s=1 then gW w h (x%w+1) (x/w)else if s=4 then gW w h (x%w) (x/w)else-1:=by unfold a_;grind
 have ok:∀{a b:Int},0<=gW w h a b->(0<=a/\a<w)/\(0<=b/\b<h)/\gW w h a b=b*w+a:=λh0=>by obtain⟨a,b,_⟩:=BP h0;exact⟨a,b,m_ c1.1 a b⟩
 rw[hst]at h0⊢;obtain rfl|rfl|rfl|rfl:s=0\/s=1\/s=2\/s=3:=by omega
 ·rw[if_pos rfl]at h0⊢;obtain⟨a,b,e⟩:=ok h0;rw[e];refine⟨2,by decide,?_⟩;rw[EF c1.1 a b,if_neg (by decide),if_pos rfl,m_ c1.1 (by omega) (by omega),Int.sub_add_cancel];exact q3.symm
 ·rw[if_neg (by decide),if_neg (by decide),if_neg (by decide),if_pos rfl]at h0⊢;obtain⟨a,b,e⟩:=ok h0;rw[e];refine⟨3,by decide,?_⟩;rw[EF c1.1 a b,if_neg (by decide),if_neg (by decide),if_pos rfl,m_ c1.1 (by omega) (by omega)];omega
 ·rw[if_neg (by decide),if_pos rfl]at h0⊢;obtain⟨a,b,e⟩:=ok h0;rw[e];refine⟨0,by decide,?_⟩;rw[EF c1.1 a b,if_pos rfl,m_ c1.1 (by omega) (by omega),Int.add_sub_cancel];exact q3.symm
 ·rw[if_neg (by decide),if_neg (by decide),if_pos rfl]at h0⊢;obtain⟨a,b,e⟩:=ok h0;rw[e];refine⟨1,by decide,?_⟩;rw[EF c1.1 a b,if_neg (by decide),if_neg (by decide),if_neg (by decide),if_pos rfl,m_ c1.1 (by omega) (by omega)];omega
def anQ {tw th:Int}(ht:1<=tw)(hh:1<=th)(vW:0<=s/\s<=3)(h:l∈mD tw th s):¬0<=bN tw th l s:=by
 have mem:∀{n:Int} {f:Int->Int},l∈mC n f->∃k:Int,(0<=k/\k<n)/\l=f k:=λh=>by obtain⟨i,h1,h2⟩:=mem_range h;grind
 unfold mD at h;unfold bN;obtain rfl|rfl|rfl|rfl:s=0\/s=1\/s=2\/s=3:=by omega
 ·grind
 ·rw[if_neg (by decide),if_neg (by decide),if_pos rfl]at h;obtain⟨k,h1,rfl⟩:=mem h;have:=(rF (w:=tw) (x:=tw-1) (y:=k) (by omega)).2;grind
 ·obtain⟨k,h1,rfl⟩:=mem h;have:=(rF (y:=th-1) (by omega)).1;omega
 ·rw[if_neg (by decide),if_neg (by decide),if_neg (by decide),if_pos rfl]at h;obtain⟨k,h1,rfl⟩:=mem h;simp_all
def anR {w h:Int}(hc:bF w h c)(vW:0<=s/\s<=3)(ho:0<=gI w h c s):c∈vk w h (aC w h c):=by
 have hs:=bW hc;have hl:=jY hc;have hg:=nQ hc;obtain⟨⟨w1,w2⟩,⟨h1,h2⟩,_⟩:=zv hs;have hst:0<=a_ w h c s/\aC w h (a_ w h c s)≠aC w h c:=by unfold gI at ho;omega
 have hout:¬0<=bN (aD w h (aC w h c)) (bz w h (aC w h c)) (dX w h c) s:=λk=>by obtain⟨k1,k2⟩:=QW hs hl vW k;rw[hg]at k2;apply hst.2;rw[k2];exact iV hs k1
 obtain⟨o1,o2,o3⟩:=SH hs hl vW hout;rw[hg]at o1 o3;have o3:=o3 hst.1;have ok:=aib (sd:=s) ⟨w1,w2⟩ ⟨h1,h2⟩;have h0:=ff (ok.2.1 vW);have hr0:=ok.2.2 _ h0;have Cj:I5 w h (aC w h c) s=true:=by
  rw[I5,decide_eq_true_iff];rw[CE,if_pos ⟨hs,hr0⟩];rw[gI,fQ,if_neg]
  ·exact o3
  ·rw[iV hs hr0];exact(SH hs hr0 vW (anQ w1 h1 vW h0)).1 o3
 refine List.mem_map.2 ⟨(dX w h c).toNat,List.mem_filter.2 ⟨List.mem_range.2 (by omega),?_⟩,?_⟩
 ·rw[yx,List.any_eq_true];refine⟨s.toNat,List.mem_range.2 (by omega),?_⟩;grind
 grind
def anS {w h:Int}(hs:dW w h sc)(h1:c∈vk w h sc):bF w h c/\aC w h c=sc:=by obtain⟨l,h2,rfl⟩:=List.mem_map.1 h1;have h3:=List.mem_range.1 (List.mem_filter.1 h2).1;exact⟨sI hs (by omega),iV hs (by omega)⟩
def mE (hs:dW m.w m.h sc)(h1:c∈aX m sc):eZ m c=true/\bF m.w m.h c/\aC m.w m.h c=sc:=by obtain⟨h2,h3⟩:=List.mem_filter.1 h1;exact⟨h3,anS hs h2⟩
def V9 (hm:cP m)(ho:eZ m c=true)(vW:0<=s/\s<=3)(h:0<=gI m.w m.h c s):n6 m c:=by exact List.mem_filter.2 ⟨anR (jT hm ho) vW h,ho⟩
def ry (hm:cP m):∀x n c,fJ m x n c->cU m x≠cU m n->n6 m x/\n6 m n:=by
 rintro x n c ⟨h1,h2,⟨s,hs,rfl⟩,_⟩ hne;have O8:=(jT hm h2).2.1;obtain⟨s',hs',hb⟩:=I6 hs O8;refine⟨V9 hm h1 hs ?_,V9 hm h2 hs' ?_⟩
 ·rw[gI,fQ,if_neg λe=>hne e.symm];exact O8
 ·have hx0:=(jT hm h1).2.1;rw[gI,hb,fQ,if_neg (show¬aC m.w m.h x=aC m.w m.h (a_ m.w m.h x s)from hne)];exact hx0
end
section
variable {m:bJ}{t x n c d s sc l:Int}
noncomputable def R (m:bJ)(t x:Int):Int:=gC (KY (f_ m t) (fJ m) (cU m) (n6 m) t) (Jm (fJ m) (cU m) (n6 m)) x
def alG (m:bJ)(t s x k:Int):Prop:=cU m x=s/\(f_ m t x k\/∃n c,fJ m x n c/\cU m n≠s/\D m t n<bS/\k=D m t n+c)
def Fx:∀x k,f_ m t x k->x=t/\k=0:=λx k h=>⟨h.1,h.2.2⟩
def av3 (hm:cP m)(hx:n6 m x)(h:D m t x<bS):Wy (KY (f_ m t) (fJ m) (cU m) (n6 m) t) (Jm (fJ m) (cU m) (n6 m)) x (D m t x):=by obtain⟨d,hw⟩:=(Bp hm).1 h;have h1:=arR hw;obtain⟨e,h2,h3⟩:=ahJ Fx cK (ry hm) hx h1.1;have h4:=h1.2 _ (Nk Fx cK (ry hm) h3);grind
def aup (hm:cP m)(hx:n6 m x):R m t x=D m t x:=
 Y9 (λd hd=>lD iL cK hd) (λd hd=>ahJ Fx cK (ry hm) hx hd) λd hd=>Nk Fx cK (ry hm) hd
def asW (hm:cP m)(hx:cU m x=s):gC (alG m t s) (tJ (fJ m) (cU m) s) x=D m t x:=by
 subst hx;have LJ:=@Nk Int (f_ m t) (fJ m) (cU m) (n6 m) t Fx cK (ry hm);have e1:gC (ahH (f_ m t) (fJ m) (cU m) (cU m x) (Wy (KY (f_ m t) (fJ m) (cU m) (n6 m) t) (Jm (fJ m) (cU m) (n6 m)))) (tJ (fJ m) (cU m) (cU m x)) x=D m t x:=
  Y9 (λd hd=>lD iL cK hd) (λd hd=>ahI Fx cK (ry hm) hd)
   λd hd=>anw Fx cK (ry hm) (λn d hn=>LJ hn) hd
 rw[<-e1];refine asQ ?_ (λx n c h=>cK _ _ _ h.1) ?_ ?_
 ·rintro x k ⟨_,h|⟨n,c,d,h1,_,h2,rfl⟩⟩
  ·exact iL _ _ h
  ·have:=cK _ _ _ h1;have:=lD iL cK (LJ h2);omega
 ·rintro x k ⟨h0,h|⟨n,c,d,h1,h3,h2,rfl⟩⟩
  ·exact⟨k,Int.le_refl _,h0,.inl h⟩
  ·have h4:=LJ h2;have h5:=arR h4;have h6:=h5.2 _ h4;exact⟨D m t n+c,by omega,h0,.inr ⟨n,c,h1,h3,(Bp hm).2 ⟨d,h4⟩,rfl⟩⟩
 ·rintro x k ⟨h0,h|⟨n,c,h1,h3,h4,rfl⟩⟩
  ·exact⟨h0,.inl h⟩
  ·exact⟨h0,.inr ⟨n,c,_,h1,h3,av3 hm (ry hm _ _ _ h1 (by grind)).2 h4,rfl⟩⟩
def Ir (cs:List Int)(l:Int):Prop:=0<=l/\l<cs.length/\gi cs l.toNat≠255
def Is (tw th:Int)(cs:List Int)(x n c:Int):Prop:=Ir cs x/\Ir cs n/\(∃s:Int,(0<=s/\s<=3)/\bN tw th x s=n)/\c=gi cs n.toNat
def aqb {α β:Type}{S:α->Int->Prop}{E:α->α->Int->Prop}{S':β->Int->Prop}{E':β->β->Int->Prop}{φ:α->β}{G:α->Prop}
  (h1:∀x k,G x->(S x k↔S' (φ x) k))(h2:∀x n c,G x->E x n c->G n/\E' (φ x) (φ n) c)(h3:∀x y c,G x->E' (φ x) y c->∃n,G n/\y=φ n/\E x n c){x:α}(hx:G x):gC S E x=gC S' E' (φ x):=by
 have a:∀{x d},Wy S E x d->G x->Wy S' E' (φ x) d:=λh=>by
  induction h with
  |src h=>exact λg=>.src ((h1 _ _ g).1 h)
  |go e _ ih=>exact λg=>.go (h2 _ _ _ g e).2 (ih (h2 _ _ _ g e).1)
 have b:∀{y d},Wy S' E' y d->∀x,G x->y=φ x->Wy S E x d:=λh=>by
  induction h with
  |src h=>rintro x g rfl;exact .src ((h1 _ _ g).2 h)
  |go e _ ih=>
   rintro x g rfl;obtain⟨n,h4,h5,h6⟩:=h3 _ _ _ g e;exact .go h6 (ih n h4 h5)
 have e:∀d,Wy S E x d↔Wy S' E' (φ x) d:=λd=>⟨λh=>a h hx,λh=>b h x hx rfl⟩;by_cases h:∃d,Wy S E x d/\∀e,Wy S E x e->d<=e
 ·obtain⟨d,p,q⟩:=h;rw[KX p q,KX ((e d).1 p) λe' he'=>q _ ((e e').2 he')]
 ·unfold gC;grind
def dO (m:bJ)(sc:Int):List Int:=(List.range (aD m.w m.h sc*bz m.w m.h sc).toNat).map λl:Nat=>cL m (bY m.w m.h sc l)
def Cl:((dO m sc).length:Int)=(aD m.w m.h sc*bz m.w m.h sc).toNat:=by simp[dO]
def LK (hl:0<=l/\l<aD m.w m.h sc*bz m.w m.h sc):gi (dO m sc) l.toNat=cL m (bY m.w m.h sc l):=by unfold gi dO;grind
def LL (hm:cP m)(hc:bF m.w m.h c):1<=cL m c/\cL m c<=255:=by have h1:=hc.2;have h2:=hm.len;unfold cL;have:=hm.jA _ (ff (i:=c.toNat) (by omega));omega
def Cm (hm:cP m)(hc:bF m.w m.h c):eZ m c=true↔cL m c≠255:=by have:=LL hm hc;unfold eZ;grind
def I7 (hm:cP m)(hs:dW m.w m.h sc)(hl:0<=l/\l<aD m.w m.h sc*bz m.w m.h sc):Ir (dO m sc) l↔eZ m (bY m.w m.h sc l)=true:=by rw[Cm hm (sI hs hl)];rw[Ir,LK hl,Cl];omega
def aii (hm:cP m)(hs:dW m.w m.h sc){S S':Int->Int->Prop}(hS:∀l k,0<=l/\l<aD m.w m.h sc*bz m.w m.h sc->(S l k↔S' (bY m.w m.h sc l) k))(hl:0<=l/\l<aD m.w m.h sc*bz m.w m.h sc):
  gC S (Is (aD m.w m.h sc) (bz m.w m.h sc) (dO m sc)) l=gC S' (tJ (fJ m) (cU m) sc) (bY m.w m.h sc l):=by
 refine aqb (λx k g=>hS x k g) ?_ ?_ hl
 ·rintro x n c g ⟨h1,h2,⟨s,vW,rfl⟩,rfl⟩;have h3:=QW hs g vW h2.1;refine⟨h3.1,⟨(I7 hm hs g).1 h1,(I7 hm hs h3.1).1 h2,⟨s,vW,h3.2⟩,?_⟩,iV hs g,iV hs h3.1⟩;exact LK h3.1
 ·rintro x y c g ⟨⟨h1,h2,⟨s,vW,rfl⟩,rfl⟩,h3,h4⟩;have h0:=(jT hm h2).2.1;by_cases hn:0<=bN (aD m.w m.h sc) (bz m.w m.h sc) x s
  ·have h5:=QW hs g vW hn;refine⟨_,h5.1,h5.2,(I7 hm hs g).2 h1,(I7 hm hs h5.1).2 (by grind),⟨s,vW,rfl⟩,?_⟩;rw[h5.2];exact(LK h5.1).symm
  ·exact((SH hs g vW hn).1 h0 h4).elim
def anT (hm:cP m)(hs:dW m.w m.h sc)(hl:0<=l/\l<aD m.w m.h sc*bz m.w m.h sc){S:Int->Int->Prop}(hS:∀l k,0<=l/\l<aD m.w m.h sc*bz m.w m.h sc->(S l k↔alG m t sc (bY m.w m.h sc l) k)):
  gC S (Is (aD m.w m.h sc) (bz m.w m.h sc) (dO m sc)) l=D m t (bY m.w m.h sc l):=by
 rw[aii hm hs hS hl];exact asW hm (iV hs hl)
end
section
variable {m:bJ}{t x n c d s sc l k:Int}{xs ys:List bj}
def ae_ (h:∀x∈xs,x.c=c->x.s=s->x.k=k):∀st:Int×Bool,(st.2=true->st.1=k)->(xs.foldl (SG c s) st).1=if∃x∈xs,x.c=c/\x.s=s then k else st.1:=by
 induction xs with
 |nil=>grind
 |cons a xs ih=>
  intro st hst;rw[List.foldl_cons];have ih:=ih (λx hx=>h x (by simp[hx]));unfold SG at ih⊢;by_cases ha:a.c=c/\a.s=s
  ·have hk:=h a (by simp) ha.1 ha.2;by_cases hb:st.2=false\/a.k<st.1
   ·rw[if_pos ⟨ha.1,ha.2,hb⟩,ih _ λ_=>hk,if_pos (c:=∃x∈a::xs,x.c=c/\x.s=s) ⟨a,by simp,ha⟩];split
    ·rfl
    ·exact hk
   ·rw[if_neg λe=>hb e.2.2,ih _ hst,if_pos (c:=∃x∈a::xs,x.c=c/\x.s=s) ⟨a,by simp,ha⟩];split
    ·rfl
    ·apply hst;rcases h2:st.2 with _|_
     ·exact(hb (.inl h2)).elim
     ·rfl
  ·rw[if_neg λe=>ha ⟨e.1,e.2.1⟩,ih _ hst];have:(∃x∈a::xs,x.c=c/\x.s=s)↔∃x∈xs,x.c=c/\x.s=s:=by
    constructor
    ·rintro ⟨x,hx,h1⟩;rcases List.mem_cons.1 hx with rfl|hx
     ·exact(ha h1).elim
     ·exact⟨x,hx,h1⟩
    ·rintro ⟨x,hx,h1⟩;exact⟨x,by simp[hx],h1⟩
   by_cases q:∃x∈xs,x.c=c/\x.s=s
   ·rw[if_pos q,if_pos (this.2 q)]
   ·rw[if_neg q,if_neg λe=>q (this.1 e)]
def afa (h:∀x∈xs,x.c=c->x.s=s->x.k=k)(he:∃x∈xs,x.c=c/\x.s=s):Iq xs c s=k:=by rw[Iq,ae_ h (bS,false) (by simp),if_pos he]
def V_ (h:∀x∈xs,¬(x.c=c/\x.s=s)):Iq xs c s=bS:=by rw[Iq,ae_ (k:=0) (λx hx h1 h2=>(h x hx ⟨h1,h2⟩).elim) (bS,false) (by simp),if_neg λ⟨x,hx,h1⟩=>h x hx h1]
def Nx (xs:List bj)(l k:Int):Prop:=∃x∈xs,x.c=l/\x.k=k
def It (m:bJ)(at_:Int->Int)(c:Int):List bj:=(vl m c).filterMap λe=>if at_ e.1=bS then none else some ⟨dX m.w m.h c,Ak m.w m.h c e.1,e.2+at_ e.1⟩
def EX (m:bJ)(at_:Int->Int)(t sc:Int):List bj:=(aX m sc).flatMap (It m at_)++if aC m.w m.h t=sc/\cL m t≠255 then[⟨dX m.w m.h t,4,0⟩]else[]
def asX {w h s':Int}(hs:0<=s/\s<=3)(hs':0<=s'/\s'<=4)(h0:0<=a_ w h x s)(e:a_ w h x s'=a_ w h x s):s'=s:=by
 obtain⟨c1,c2⟩:=uR h0;have hst:∀s,a_ w h x s=if s=0 then gW w h (x%w) (x/w-1)else if s=2 then gW w h (x%w) (x/w+1)else if s=3 then gW w h (x%w-1) (x/w)else if s=1 then gW w h (x%w+1) (x/w)else if s=4 then gW w h (x%w) (x/w)else-1:=λs=>by unfold a_;grind
 have ok:∀{a b:Int},0<=gW w h a b->(0<=a/\a<w)/\(0<=b/\b<h)/\gW w h a b=b*w+a:=λh0=>by obtain⟨a,b,_⟩:=BP h0;exact⟨a,b,m_ c1.1 a b⟩
 grind
def Wa {w h:Int}(hs:0<=s/\s<=3)(h0:0<=a_ w h x s):Ak w h x (a_ w h x s)=s:=by
 obtain⟨c1,c2⟩:=uR h0;unfold Ak;have k:∀s',0<=s'/\s'<=4->s'≠s->¬a_ w h x s'=a_ w h x s:=λs' h1 h2 e=>h2 (asX hs h1 h0 e);obtain rfl|rfl|rfl|rfl:s=0\/s=1\/s=2\/s=3:=by omega
 all_goals grind
def Cn {w h:Int}(h0:0<=gI w h c s):gI w h c s=a_ w h c s/\aC w h (a_ w h c s)≠aC w h c:=by unfold gI at h0⊢;omega
def Wb {e:Int×Int}:e∈vl m c↔eZ m c=true/\∃s:Int,(0<=s/\s<=3)/\0<=gI m.w m.h c s/\eZ m (gI m.w m.h c s)=true/\e=(gI m.w m.h c s,cL m (gI m.w m.h c s)):=by
 unfold vl;by_cases ho:eZ m c=true
 ·rw[if_pos ho];rw[Gs,List.mem_filterMap];constructor
  ·rintro ⟨s,h1,h2⟩;have h1:=List.mem_range.1 h1;unfold Fw at h2;grind
  ·rintro ⟨_,s,h1,h2,h3,rfl⟩;refine⟨s.toNat,List.mem_range.2 (by omega),?_⟩;unfold Fw;grind
 grind
def QX (hm:cP m)(hs:dW m.w m.h sc)(ht:bF m.w m.h t){x:bj}:x∈EX m (D m t) t sc↔
  ((0<=x.c/\x.c<aD m.w m.h sc*bz m.w m.h sc)/\(0<=x.s/\x.s<=3)/\eZ m (bY m.w m.h sc x.c)=true/\0<=gI m.w m.h (bY m.w m.h sc x.c) x.s/\eZ m (gI m.w m.h (bY m.w m.h sc x.c) x.s)=true/\
   D m t (gI m.w m.h (bY m.w m.h sc x.c) x.s)<bS/\x.k=cL m (gI m.w m.h (bY m.w m.h sc x.c) x.s)+D m t (gI m.w m.h (bY m.w m.h sc x.c) x.s))\/
  ((0<=x.c/\x.c<aD m.w m.h sc*bz m.w m.h sc)/\bY m.w m.h sc x.c=t/\eZ m t=true/\x.s=4/\x.k=0):=by
 have axS:∀z,D m t z≠bS↔D m t z<bS:=λz=>by
  constructor
  ·intro h;by_cases q:∃d,Wy (f_ m t) (fJ m) z d
   ·exact(Bp hm).2 q
   ·exact(h (Xb q)).elim
  omega
 rw[EX,List.mem_append,List.mem_flatMap];refine or_congr ⟨?_,?_⟩ ⟨?_,?_⟩
 ·rintro ⟨c,h1,h2⟩;obtain⟨ho,hc,hsc⟩:=mE hs h1;obtain⟨e,h3,h4⟩:=List.mem_filterMap.1 h2;split at h4
  ·cases h4
  rename_i h5;cases h4;obtain⟨_,s,h6,h7,h8,rfl⟩:=Wb.1 h3;have hl:=jY hc;have hg:=nQ hc;obtain⟨h9,h10⟩:=Cn h7;have vW:Ak m.w m.h c (gI m.w m.h c s)=s:=by rw[h9];exact Wa h6 (by grind)
  grind
 ·rintro ⟨h1,h2,h3,h4,h5,h6,h7⟩;have hsc:=iV hs h1;refine⟨bY m.w m.h sc x.c,?_,?_⟩
  ·have:=V9 hm h3 h2 h4;unfold n6 cU at this;grind
  ·refine List.mem_filterMap.2 ⟨_,Wb.2 ⟨h3,x.s,h2,h4,h5,rfl⟩,?_⟩;obtain⟨h9,h10⟩:=Cn h4;rw[if_neg ((axS _).2 h6),FZ hs h1];have vW:Ak m.w m.h (bY m.w m.h sc x.c) (gI m.w m.h (bY m.w m.h sc x.c) x.s)=x.s:=by rw[h9];exact Wa h2 (by grind)
   rw[vW,<-h7]
 ·intro h;split at h
  ·rename_i h1;rw[List.mem_singleton]at h;subst h;have hl:=jY ht;have hg:=nQ ht;rw[h1.1]at hl hg;exact⟨hl,hg,(Cm hm ht).2 h1.2,rfl,rfl⟩
  ·simp at h
 ·rintro ⟨h1,h2,h3,h4,h5⟩;have hsc:=iV hs h1;rw[h2]at hsc;rw[if_pos ⟨hsc,(Cm hm ht).1 h3⟩,List.mem_singleton];have h6:=FZ hs h1;rw[h2]at h6;rw[h6,<-h4,<-h5]
def aqc (hm:cP m)(hs:dW m.w m.h sc)(ht:bF m.w m.h t)(hxs:∀x,x∈xs↔x∈EX m (D m t) t sc)(hl:0<=l/\l<aD m.w m.h sc*bz m.w m.h sc):Nx xs l k↔alG m t sc (bY m.w m.h sc l) k:=by
 have hsc:=iV hs hl;constructor
 ·rintro ⟨x,h1,rfl,rfl⟩;rcases(QX hm hs ht).1 ((hxs x).1 h1)with⟨_,h2,h3,h4,h5,h6,h7⟩|⟨_,h2,h3,h4,h5⟩
  ·obtain⟨h9,h10⟩:=Cn h4;refine⟨hsc,.inr ⟨_,_,⟨h3,h5,⟨x.s,h2,h9.symm⟩,rfl⟩,?_,h6,by omega⟩⟩;rw[h9];rw[hsc]at h10;exact h10
  ·exact⟨hsc,.inl ⟨h2,h3,h5⟩⟩
 ·rintro ⟨_,⟨h1,h2,h3⟩|⟨n,c,⟨h1,h2,⟨s,h3,rfl⟩,rfl⟩,h4,h5,rfl⟩⟩
  ·exact⟨⟨l,4,k⟩,(hxs _).2 ((QX hm hs ht).2 (.inr ⟨hl,h1,h2,rfl,h3⟩)),rfl,rfl⟩
  ·have h0:=(jT hm h2).2.1;have ho:gI m.w m.h (bY m.w m.h sc l) s=a_ m.w m.h (bY m.w m.h sc l) s:=by rw[gI,fQ,if_neg (by rw[hsc];exact h4)]
   refine⟨⟨l,s,_⟩,(hxs _).2 ((QX hm hs ht).2 (.inl ⟨hl,h3,h1,by grind,by grind,by grind,by rw[ho]⟩)),rfl,?_⟩;grind
noncomputable def LM (tw th:Int)(cs:List Int)(xs:List bj)(l:Int):Int:=gC (Nx xs) (Is tw th cs) l
def Tv (tw th:Int)(cs:List Int)(xs:List bj)(f:Int->Int)(l s:Int):Bool:=
 if bN tw th l s<0 then Iq xs l s==f l else gi cs (bN tw th l s).toNat !=255&&(gi cs (bN tw th l s).toNat+f (bN tw th l s)==f l)
def ZY (tw th:Int)(cs:List Int)(xs:List bj)(f:Int->Int)(l:Int):Int:=
 if f l=bS then 5 else if Iq xs l 4=f l then 4 else if Tv tw th cs xs f l 0 then 0 else if Tv tw th cs xs f l 1 then 1 else if Tv tw th cs xs f l 2 then 2 else if Tv tw th cs xs f l 3 then 3 else 5
def auq (hm:cP m)(hs:dW m.w m.h sc)(ht:bF m.w m.h t)(hxs:∀x,x∈xs↔x∈EX m (D m t) t sc)(hl:0<=l/\l<aD m.w m.h sc*bz m.w m.h sc):
  LM (aD m.w m.h sc) (bz m.w m.h sc) (dO m sc) xs l=D m t (bY m.w m.h sc l):=
 anT hm hs hl λl k h=>aqc hm hs ht hxs h
def dir_eq (hm:cP m)(hs:dW m.w m.h sc)(ht:bF m.w m.h t)(hxs:∀x,x∈xs↔x∈EX m (D m t) t sc){f:Int->Int}(hf:∀l,0<=l/\l<aD m.w m.h sc*bz m.w m.h sc->f l=D m t (bY m.w m.h sc l))(hl:0<=l/\l<aD m.w m.h sc*bz m.w m.h sc):
  ZY (aD m.w m.h sc) (bz m.w m.h sc) (dO m sc) xs f l=kI m t (bY m.w m.h sc l):=by
 have hsc:=iV hs hl;have hmem:=λx=>(hxs x).trans (QX hm hs ht);unfold ZY kI;rw[hf l hl];by_cases hI:D m t (bY m.w m.h sc l)=bS
 ·grind
 rw[if_neg hI,if_neg hI];have hDl:D m t (bY m.w m.h sc l)<bS:=by
  by_cases q:∃d,Wy (f_ m t) (fJ m) (bY m.w m.h sc l) d
  ·exact(Bp hm).2 q
  ·exact(hI (Xb q)).elim
 have hop:eZ m (bY m.w m.h sc l)=true/\eZ m t=true:=by obtain⟨d,hd⟩:=(Bp hm).1 hDl;exact adY hd
 by_cases hT:bY m.w m.h sc l=t
 ·rw[if_pos hT,if_pos];rw[hT,anP hop.2];refine afa (λx hx h1 h2=>?_) ⟨⟨l,4,0⟩,(hmem _).2 (.inr ⟨hl,hT,hop.2,rfl,rfl⟩),rfl,rfl⟩;grind
 rw[if_neg hT,if_neg]
 ·have key:∀s,0<=s/\s<=3->(Tv (aD m.w m.h sc) (bz m.w m.h sc) (dO m sc) xs f l s=true↔Kr m t (bY m.w m.h sc l) s):=λs vW=>by
   unfold Tv Kr;rw[hf l hl];by_cases hn:0<=bN (aD m.w m.h sc) (bz m.w m.h sc) l s
   ·obtain⟨h1,h2⟩:=QW hs hl vW hn;rw[fQ,h2,LK h1,hf _ h1,Cm hm (sI hs h1),Bool.and_eq_true,bne_iff_ne,beq_iff_eq];exact⟨λh=>⟨(sI hs h1).2.1,h⟩,λh=>h.2⟩
   ·obtain⟨h1,_⟩:=SH hs hl vW hn;rw[AE,beq_iff_eq];by_cases h0:0<=a_ m.w m.h (bY m.w m.h sc l) s
    ·have ho:gI m.w m.h (bY m.w m.h sc l) s=a_ m.w m.h (bY m.w m.h sc l) s:=by unfold gI;omega
     by_cases h2:eZ m (a_ m.w m.h (bY m.w m.h sc l) s)=true/\D m t (a_ m.w m.h (bY m.w m.h sc l) s)<bS
     ·rw[afa (k:=cL m (a_ m.w m.h (bY m.w m.h sc l) s)+D m t (a_ m.w m.h (bY m.w m.h sc l) s)) (λx hx h3 h4=>?_) ⟨⟨l,s,_⟩,(hmem _).2 (.inl ⟨hl,vW,hop.1,by grind,by grind,by grind,by rw[ho]⟩),rfl,rfl⟩]
      all_goals grind
     ·rw[V_ λx hx h3=>?_]
      ·constructor
       ·omega
       ·rintro ⟨_,h3,h4⟩;have h5:=zP h3;exact(h2 ⟨h3,by omega⟩).elim
      grind
    ·rw[V_ λx hx h3=>?_]
     ·constructor
      ·intro h;omega
      ·exact λh=>(h0 h.1).elim
     ·rcases(hmem x).1 hx with⟨_,_,_,h4,_⟩|⟨_,_,_,h5,_⟩
      ·rw[h3.1,h3.2]at h4;have h5:=(Cn h4).1;exact h0 (by rw[<-h5];exact h4)
      ·omega
  grind
 ·rw[V_ λx hx h3=>?_]
  ·exact λh=>hI h.symm
  ·rcases(hmem x).1 hx with⟨_,h4,_⟩|⟨_,h4,_⟩
   ·omega
   ·rw[h3.1]at h4;exact hT h4
def aus (hm:cP m)(hs:dW m.w m.h sc)(ht:bF m.w m.h t){x:bj}(hx:x∈EX m (D m t) t sc):Am (aD m.w m.h sc) (bz m.w m.h sc) (dO m sc) x=true:=by
 have hlen:((dO m sc).length:Int)=aD m.w m.h sc*bz m.w m.h sc\/aD m.w m.h sc*bz m.w m.h sc<0:=by rw[Cl];omega
 obtain⟨⟨w1,w2⟩,⟨h1,h2⟩,_⟩:=zv hs;have out:∀l s,0<=s/\s<=3->¬0<=bN (aD m.w m.h sc) (bz m.w m.h sc) l s->0<=l/\l<aD m.w m.h sc*bz m.w m.h sc->ZW (aD m.w m.h sc) (bz m.w m.h sc) l s=true:=λl s vW hn hl=>by
  obtain⟨i0,i1⟩:0<=l%aD m.w m.h sc/\l%aD m.w m.h sc<aD m.w m.h sc:=⟨Int.emod_nonneg _ (by omega),Int.emod_lt_of_pos _ (by omega)⟩;obtain⟨j0,j1⟩:0<=l/aD m.w m.h sc/\l/aD m.w m.h sc<bz m.w m.h sc:=⟨Int.ediv_nonneg hl.1 (by omega),Int.ediv_lt_of_lt_mul (by omega) (by grind)⟩;have hle:l=l/aD m.w m.h sc*aD m.w m.h sc+l%aD m.w m.h sc:=by have:=Int.mul_ediv_add_emod l (aD m.w m.h sc);grind
  unfold bN at hn;unfold ZW;obtain rfl|rfl|rfl|rfl:s=0\/s=1\/s=2\/s=3:=by omega
  ·by_cases q:l/aD m.w m.h sc>0
   ·have:=Int.mul_le_mul_of_nonneg_right (show 1<=l/aD m.w m.h sc by omega) (show 0<=aD m.w m.h sc by omega);omega
   grind
  ·grind
  ·grind
  ·by_cases q:l%aD m.w m.h sc>0
   ·have:=Int.mul_nonneg j0 (show 0<=aD m.w m.h sc by omega);omega
   grind
 have fin:(0<=x.c/\x.c<aD m.w m.h sc*bz m.w m.h sc)->eZ m (bY m.w m.h sc x.c)=true->(0<=x.k/\x.k<=1073741824)->ZW (aD m.w m.h sc) (bz m.w m.h sc) x.c x.s=true->Am (aD m.w m.h sc) (bz m.w m.h sc) (dO m sc) x=true:=λhl ho hk hout=>by rw[Am,LK hl,decide_eq_true (show 0<=x.c/\x.c<((dO m sc).length:Int) by omega),decide_eq_true hk,hout,Bool.true_and,Bool.true_and,Bool.and_true,bne_iff_ne];exact(Cm hm (sI hs hl)).1 ho
 rcases(QX hm hs ht).1 hx with⟨a1,a2,a3,a4,a5,a6,a7⟩|⟨a1,a2,a3,a4,a5⟩
 ·obtain⟨d,hd⟩:=(Bp hm).1 a6;have b1:=ap_ hm hd;have b2:=aih hm hd;have b3:=zP a5;refine fin a1 a3 (by omega) (out _ _ a2 (λk=>?_) a1);obtain⟨o1,o2⟩:=QW hs a1 a2 k;obtain⟨q1,q2⟩:=Cn a4;rw[o2,iV hs o1,iV hs a1]at q2;exact q2 rfl
 ·apply fin a1 (by grind) (by omega);unfold ZW;grind
end
def cS (a b:bj):Bool:=decide (aid a b<0)
def adZ {a b:bj}:cS a b=true↔a.k<b.k\/a.k=b.k/\(a.c<b.c\/a.c=b.c/\a.s<b.s):=by unfold cS aid V6;grind
def QY {a b:bj}:cS a b=false↔¬(a.k<b.k\/a.k=b.k/\(a.c<b.c\/a.c=b.c/\a.s<b.s)):=by rw[<-adZ,Bool.not_eq_true]
def Fy:Go.Sort.SWO cS where
 irrefl x:=by rw[QY];omega
 trans x y z h k:=by rw[adZ]at*;omega
 ntrans x y z h k:=by rw[QY]at*;omega
def aut {x y:bj}(h:cS x y=false)(k:cS y x=false):x=y:=by rw[QY]at h k;obtain⟨c,s,q⟩:=x;obtain⟨c',s',q'⟩:=y;grind
def ZZ (xs:List bj):List bj:=xs.mergeSort λx y=>!cS y x
def Ny (xs:List bj):List bj:=ZZ xs
def asY {xs:List bj}{x:bj}:x∈ZZ xs↔x∈xs:=List.mem_mergeSort
def asZ {xs:List bj}:(ZZ xs).length=xs.length:=List.length_mergeSort _
def aqd {xs:List bj}{x:bj}:x∈Ny xs↔x∈xs:=asY
def aqe {xs:List bj}:(Ny xs).length=xs.length:=asZ
def alH {xs:List bj}:(ZZ xs).Pairwise λa b=>a.k<=b.k:=by
 have h:=List.pairwise_mergeSort (le:=λx y=>!cS y x) (λa b c h k=>by
  simp[Bool.not_eq_true']at*;exact Fy.ntrans _ _ _ k h) (λa b=>by
  simp[Bool.or_eq_true,Bool.not_eq_true'];by_cases q:cS b a=true
  ·right;rw[adZ]at q;rw[QY];omega
  grind) xs
 refine List.Pairwise.imp ?_ h;intro a b h;simp[Bool.not_eq_true']at h;rw[QY]at h;omega
def ajZ {xs:List bj}:(Ny xs).Pairwise λa b=>a.k<=b.k:=alH
def Ea (n:Nat)(out:List Int)(a c:Int):Bool:=c==0||(decide ((n:Int)-out.length<a+1)||(decide (0<out.length)&&gi out (out.length-1)==c))
def pM (n:Nat):List Int->List Int->Nat->Option (List Int×Nat)
 |a::c::r,out,used=>if n<=out.length then some (out,used)else if Ea n out a c then none else pM n r (out++List.replicate (a+1).toNat c) (used+2)
 |_,out,used=>if n<=out.length then some (out,used)else none
def Iu (n:Nat):List Int->Option (List Int×Nat)
 |[]=>none
 |f::r=>if f=0 then(if r=[]\/gi r 0=0 then none else some (List.replicate n (gi r 0),2))
  else if f=1 then(if r.length<n\/0∈r.take n then none else some (r.take n,1+n))
  else if f=2 then pM n r [] 1
  else none
def Fz (n:Nat)(f:Int)(r:List Int):Iu n (f::r)=if f=0 then(if r=[]\/gi r 0=0 then none else some (List.replicate n (gi r 0),2))
 else if f=1 then(if r.length<n\/0∈r.take n then none else some (r.take n,1+n))
 else if f=2 then pM n r [] 1
 else none:=rfl
def EY (bs:List Int)(n:Nat):Option (List Int×Nat):=match Iu n bs with
 |some (cs,used)=>if(tI cs).2=bs.take used then some (cs,used)else none
 |none=>none
def Nz (x:Int):∀l:List Int,l.take (lead x l)=List.replicate (lead x l) x
 |[]=>rfl
 |y::ys=>by
  unfold lead;split
  ·rename_i h;subst h;rw[List.take_succ_cons,List.replicate_succ,Nz]
  ·rfl
def afb (x:Int):∀l:List Int,∀y ys,l.drop (lead x l)=y::ys->y≠x
 |[],y,ys,h=>by grind
 |z::zs,y,ys,h=>by
  unfold lead at h;split at h
  ·exact afb x zs y ys h
  grind
def NA {n:Nat}{out:List Int}{used:Nat}(h:n<=out.length):∀bs,pM n bs out used=some (out,used)
 |[]=>by simp[pM,h]
 |[a]=>by simp[pM,h]
 |a::c::r=>by rw[pM,if_pos h]
def afc (n:Nat):∀(f:Nat) (cs out rest:List Int) (used:Nat),cs.length<=f->cs.length<=256->(∀x∈cs,1<=x/\x<256)->n=out.length+cs.length->(0<out.length->∀y ys,cs=y::ys->gi out (out.length-1)≠y)->
  pM n (lC f cs++rest) out used=some (out++cs,used+(lC f cs).length)
 |0,cs,out,rest,used,hf,aqf,hr,hn,hl=>by have:cs=[]:=List.eq_nil_of_length_eq_zero (by omega);subst this;rw[NA (by omega)];simp[lC]
 |f+1,[],out,rest,used,hf,aqf,hr,hn,hl=>by rw[NA (by grind)];simp[lC]
 |f+1,x::ys,out,rest,used,hf,aqf,hr,hn,hl=>by
  have hk:=Pe x ys;simp[List.length_cons]at hf aqf hn;have hx:=hr x (by simp);have e:((lead x ys:Nat):Int)%256=lead x ys:=Int.emod_eq_of_lt (by omega) (by omega);have ey:List.replicate (lead x ys+1) x++ys.drop (lead x ys)=x::ys:=by rw[List.replicate_succ,<-Nz,List.cons_append,List.take_append_drop]
  show pM n (((lead x ys:Nat):Int)%256::x::(lC f (ys.drop (lead x ys))++rest)) out used=_;rw[e,pM,fQ,if_neg]
  ·have:=afc n f (ys.drop (lead x ys)) (out++List.replicate (lead x ys+1) x) rest (used+2) (by grind) (by grind) (λz hz=>hr z (by grind)) (by grind) (λ_ y zs hy=>by have h1:=afb x ys y zs hy;intro h2;apply h1;rw[<-h2];unfold gi;grind)
   rw[show((lead x ys:Nat)+1:Int).toNat=lead x ys+1 by omega,this,List.append_assoc,ey];congr 2;show _=used+(((lead x ys:Nat):Int)%256::x::lC f (ys.drop (lead x ys))).length;grind
  ·unfold Ea;grind
def aqg {cs rest:List Int}(hr:∀x∈cs,1<=x/\x<256)(h1:1<=cs.length/\cs.length<=256):Iu cs.length ((tI cs).2++rest)=some (cs,(tI cs).2.length):=by
 have hb:=afc cs.length cs.length cs [] rest 1 (Nat.le_refl _) h1.2 hr (by simp) (by simp);rw[List.nil_append]at hb;unfold tI;split
 ·rename_i h3;obtain⟨x,ys,rfl⟩:∃x ys,cs=x::ys:=by
   cases cs with
   |nil=>simp at h1
   |cons x ys=>grind
  have h4:(lC (x::ys).length (x::ys)).length=2:=by unfold tH at h3;grind
  have h5:lC ys.length (ys.drop (lead x ys))=[]:=by apply List.eq_nil_of_length_eq_zero;have:(lC (x::ys).length (x::ys)).length=(lC ys.length (ys.drop (lead x ys))).length+2:=rfl;omega
  have h6:ys.drop (lead x ys)=[]:=by
   cases hd:ys.drop (lead x ys)with
   |nil=>rfl
   |cons z zs=>
    rw[hd]at h5;have h7:0<ys.length:=by grind
    obtain⟨k,hk⟩:∃k,ys.length=k+1:=⟨ys.length-1,by omega⟩;rw[hk]at h5;cases h5
  have h7:lead x ys=ys.length:=by
   have:=Pe x ys;have h8:(ys.drop (lead x ys)).length=0:=by rw[h6];rfl
   grind
  have h8:ys=List.replicate ys.length x:=by have:=Nz x ys;grind
  have hx:=hr x (by simp);show Iu _ (0::x::rest)=some (x::ys,2);rw[Fz,if_pos rfl,if_neg]
  ·show some (List.replicate (ys.length+1) x,2)=some (x::ys,2);grind
  ·rintro (h|h)
   ·cases h
   ·have:x=0:=h;omega
 ·split
  ·show Iu _ (2::(lC cs.length cs++rest))=some (cs,(2::lC cs.length cs).length);rw[Fz,if_neg (by decide),if_neg (by decide),if_pos rfl,hb,List.length_cons,Nat.add_comm]
  ·show Iu _ (1::(cs++rest))=some (cs,(1::cs).length);rw[Fz,if_neg (by decide),if_pos rfl,if_neg,List.take_left,List.length_cons,Nat.add_comm];grind
def as0 {cs rest:List Int}(hr:∀x∈cs,1<=x/\x<256)(h1:1<=cs.length/\cs.length<=256):EY ((tI cs).2++rest) cs.length=some (cs,(tI cs).2.length):=by rw[EY,aqg hr h1];grind
def SJ (n:Nat):∀(bs out:List Int) (used:Nat) (cs:List Int) (u:Nat),(∀x∈bs,0<=x/\x<256)->(∀x∈out,1<=x/\x<256)->out.length<=n->pM n bs out used=some (cs,u)->cs.length=n/\(∀x∈cs,1<=x/\x<256)/\u<=used+bs.length
 |[],out,used,cs,u,hb,ho,hn,h=>by unfold pM at h;grind
 |[a],out,used,cs,u,hb,ho,hn,h=>by unfold pM at h;grind
 |a::c::r,out,used,cs,u,hb,ho,hn,h=>by
  unfold pM at h;split at h
  ·grind
  ·split at h
   ·cases h
   ·rename_i h1 h2;unfold Ea at h2;have:=SJ n r _ (used+2) cs u (λx hx=>hb x (by simp[hx])) (λx hx=>by grind) (by grind) h
    grind
def anU {bs cs:List Int}{n used:Nat}(hn:1<=n)(hb:∀x∈bs,0<=x/\x<256)(h:EY bs n=some (cs,used)):cs.length=n/\(∀x∈cs,1<=x/\x<256)/\used<=bs.length:=by
 unfold EY at h;split at h
 ·rename_i cs' used' hB;split at h
  ·cases h;cases bs with
   |nil=>cases hB
   |cons f r=>
    rw[Fz]at hB;split at hB
    ·split at hB
     ·cases hB
     ·rename_i h1;cases hB;obtain⟨x,r',rfl⟩:∃x r',r=x::r':=by
       cases r with
       |nil=>grind
       |cons x r'=>grind
      have hx:=hb x (by simp);refine⟨by simp,λy hy=>?_,by simp⟩;rw[List.mem_replicate]at hy;have h3:y=x:=hy.2;omega
    ·split at hB
     ·grind
     ·split at hB
      ·have:=SJ n r [] 1 cs used (λx hx=>hb x (by simp[hx])) (by simp) (by simp) hB;grind
      ·cases hB
  ·cases h
 ·cases h
def EZ (w h sc:Int)(M ts:List Int)(y:Int):List Int:=(List.range M.length).map λc:Nat=>if aC w h c=sc/\dX w h c/aD w h sc<y then gi ts (dX w h c).toNat else gi M c
def aij (w h sc:Int)(M ts:List Int):List Int:=EZ w h sc M ts (bz w h sc)
def qV (w h:Int):Nat->Int->List Int->List Int->Option (List Int×List Int)
 |0,_,bs,M=>some (bs,M)
 |k+1,i,bs,M=>match EY bs (aD w h i*bz w h i).toNat with
  |none=>none
  |some (ts,used)=>qV w h k (i+1) (bs.drop used) (aij w h i M ts)
def Bq (bs:List Int):Int:=gi bs 0+256*gi bs 1
def Br (bs:List Int):Int:=gi bs 2+256*gi bs 3
def kV (bs:List Int):Option bJ:=
 if bs.length<4 then none else if iO (Bq bs) (Br bs)then
  match qV (Bq bs) (Br bs) (eI (Bq bs) (Br bs)).toNat 0 (bs.drop 4) (List.replicate (Bq bs*Br bs).toNat 0)with
  |some (bs',M)=>if bs'=[]then some ⟨Bq bs,Br bs,M⟩else none
  |none=>none
 else none
section
variable {w h sc y:Int}{M ts:List Int}{c:Nat}
def LN:(EZ w h sc M ts y).length=M.length:=by simp[EZ]
def SK:(aij w h sc M ts).length=M.length:=LN
def Xd (hc:c<M.length):gi (EZ w h sc M ts y) c=if aC w h c=sc/\dX w h c/aD w h sc<y then gi ts (dX w h c).toNat else gi M c:=by unfold gi EZ;rw[List.getD_eq_getElem?_getD,List.getElem?_map,List.getElem?_range hc];rfl
def akE (hc:c<M.length)(hC:bF w h c):gi (aij w h sc M ts) c=if aC w h c=sc then gi ts (dX w h c).toNat else gi M c:=by
 rw[aij,Xd hc];by_cases e:aC w h c=sc
 ·rw[if_pos e,if_pos];refine⟨e,?_⟩;have hl:=jY hC;have hs:=bW hC;rw[e]at hl hs;obtain⟨⟨w1,w2⟩,⟨h1,h2⟩,_⟩:=zv hs;exact Int.ediv_lt_of_lt_mul (by omega) (by grind)
 grind
def aik {a:Int}(h:1<=a/\a<=1024):a%256+256*(a/256%256)=a:=by omega
def aqh {m:bJ}(hm:cP m){s:Int}(hs:dW m.w m.h s):(qf m s).length=(aD m.w m.h s*bz m.w m.h s).toNat:=by unfold qf;grind
def aqi {m:bJ}{l:Int}(hl:0<=l/\l<aD m.w m.h sc*bz m.w m.h sc):gi (qf m sc) l.toNat=gi m.cs (bY m.w m.h sc l).toNat:=by show(qf m sc).getD l.toNat 0=_;unfold qf;grind
def ail {m:bJ}(hm:cP m)(hs:dW m.w m.h sc):qf m sc=dO m sc:=by refine List.map_congr_left λl hl=>?_;have hl:=List.mem_range.1 hl;have hg:=sI hs (l:=l) (by omega);have:=hm.len;have:=hg.2;unfold cL;omega
def afd {m:bJ}(hm:cP m):∀(k:Nat) (i:Nat) (M:List Int),(i:Int)+k=eI m.w m.h->M.length=m.cs.length->(∀c:Nat,c<m.cs.length->aC m.w m.h c<i->gi M c=gi m.cs c)->
  qV m.w m.h k i ((List.range' i k).flatMap λs:Nat=>(tI (qf m s)).2) M=some ([],m.cs)
 |0,i,M,hk,hl,hM=>by show some ([],M)=some ([],m.cs);congr 2;refine U5 hl λc hc=>hM c (by omega) ?_;have hC:bF m.w m.h c:=⟨⟨hm.w,hm.h⟩,by omega,by rw[<-hm.len];omega⟩;have:=(bW hC).2.2;omega
 |k+1,i,M,hk,hl,hM=>by
  have hs:dW m.w m.h i:=⟨⟨hm.w,hm.h⟩,by omega,by omega⟩;have hlen:=U_ hm hs.2;have e:=aqh hm hs;rw[List.range'_succ,List.flatMap_cons,qV,<-e,as0 (U9 hm hs.2) hlen.2];simp only;rw[List.drop_left,show((i:Int)+1)=((i+1:Nat):Int) by omega];refine afd hm k (i+1) _ (by omega) (by rw[SK,hl]) λc hc hsc=>?_;have hC:bF m.w m.h c:=⟨⟨hm.w,hm.h⟩,by omega,by rw[<-hm.len];omega⟩;rw[akE (by omega) hC];by_cases q:aC m.w m.h c=i
  ·rw[if_pos q];have hl2:=jY hC;have hg:=nQ hC;rw[q]at hl2 hg;rw[aqi hl2,hg];rfl
  grind
def abK {m:bJ}(hm:cP m):kV (yG m)=some m:=by
 have e1:Bq (yG m)=m.w:=aik hm.w;have e2:Br (yG m)=m.h:=aik hm.h;rw[kV,e1,e2,if_neg (by unfold yG;simp),if_pos ⟨hm.w,hm.h⟩];have:=afd hm (eI m.w m.h).toNat 0 (List.replicate (m.w*m.h).toNat 0) (by have:=(gM hm.w hm.h).1;omega) (by have:=hm.len;simp;omega) (λc hc h=>by have hC:bF m.w m.h c:=⟨⟨hm.w,hm.h⟩,by omega,by rw[<-hm.len];omega⟩;have:=(bW hC).2.1;omega)
 rw[<-List.range_eq_range']at this;have e3:(yG m).drop 4=(List.range (eI m.w m.h).toNat).flatMap λs:Nat=>(tI (qf m s)).2:=by rfl
 simp_all
def aim (hm:iO w h):∀(k:Nat) (i:Nat) (bs M bs' M':List Int),(i:Int)+k=eI w h->(M.length:Int)=w*h->(∀x∈bs,0<=x/\x<256)->(∀c:Nat,c<M.length->aC w h c<i->1<=gi M c/\gi M c<256)->
  qV w h k i bs M=some (bs',M')->(M'.length:Int)=w*h/\∀x∈M',1<=x/\x<256
 |0,i,bs,M,bs',M',hk,hl,hb,hM,h=>by cases h;refine⟨hl,λx hx=>?_⟩;obtain⟨c,hc⟩:=List.mem_iff_getElem?.1 hx;have yd:=(List.getElem?_eq_some_iff.1 hc).1;have hC:bF w h c:=⟨hm,by omega,by omega⟩;have:=hM c yd (by have:=(bW hC).2.2;omega);rw[iz yd]at hc;grind
 |k+1,i,bs,M,bs',M',hk,hl,hb,hM,hg=>by
  have hs:dW w h i:=⟨hm,by omega,by omega⟩;obtain⟨⟨w1,w2⟩,⟨h1,h2⟩,_⟩:=zv hs;have h11:1<=aD w h i*bz w h i:=by have:=Int.mul_le_mul w1 h1 (by decide) (by omega);omega
  rw[qV]at hg;split at hg
  ·cases hg
  ·rename_i ts used hT;obtain⟨t1,t2,t3⟩:=anU (by omega) hb hT;refine aim hm k (i+1) _ _ bs' M' (by omega) (by rw[SK];exact hl) (λx hx=>hb x (List.mem_of_mem_drop hx)) (λc hc hsc=>?_) hg;rw[SK]at hc;have hC:bF w h c:=⟨hm,by omega,by omega⟩;rw[akE hc hC];by_cases q:aC w h c=i
   ·rw[if_pos q];have hl2:=jY hC;rw[q]at hl2;exact t2 _ (ff (by omega))
   grind
def afe {bs:List Int}{m:bJ}(hb:∀x∈bs,0<=x/\x<256)(h:kV bs=some m):cP m:=by
 unfold kV at h;split at h
 ·cases h
 ·split at h
  ·rename_i hm;split at h
   ·rename_i bs' M hT;split at h
    ·cases h;have hwh:=mU hm;obtain⟨a,b⟩:=aim hm _ 0 _ _ _ _ (by have:=(gM hm.1 hm.2).1;omega) (by grind) (λx hx=>hb x (List.mem_of_mem_drop hx)) (λc hc hsc=>by rw[List.length_replicate]at hc;have hC:bF (Bq bs) (Br bs) c:=⟨hm,by omega,by omega⟩;have:=(bW hC).2.1;omega) hT
     exact⟨hm.1,hm.2,a,b⟩
    ·cases h
   ·cases h
  ·cases h
end
end Go.Proofs.YtmegplnmiepfbaaGreatDoor.S
namespace Go.Proofs.YtmegplnmiepfbaaGreatDoor.S.Rg
abbrev E:=Int×Int
def YA (j:Nat)(e:E):Bool:=decide (e.1%256=(j:Int))
def tF (l:List E)(j:Nat):List Int:=(l.filter (YA j)).map (·.2)
def Fit (a:Int)(l:List E):Prop:=∀e∈l,a<=e.1/\e.1<a+256
def anV (l:List E)(e:E)(j:Nat):tF (l++[e]) j=if e.1%256=(j:Int)then tF l j++[e.2]else tF l j:=by
 unfold tF;by_cases h:e.1%256=(j:Int)
 ·simp[YA,h]
 ·simp[YA,h]
def aqj {a:Int}{l:List E}{e:E}(h:Fit a l)(h1:a<=e.1)(h2:e.1<a+256):Fit a (l++[e]):=by
 intro x hx;rcases List.mem_append.1 hx with hx|hx
 ·exact h x hx
 grind
def aff {k:Int}:∀{l:List E},(∃e∈l,e.1=k)->∃l1 x l2,l=l1++(k,x)::l2/\∀e∈l1,e.1≠k
 |[],h=>by grind
 |y::l,h=>by
  by_cases hy:y.1=k
  ·exact⟨[],y.2,l,by subst hy;rfl,by simp⟩
  ·obtain⟨l1,x,l2,h1,h2⟩:=aff (k:=k) (l:=l) (by grind)
   grind
def Xe {a k:Int}{l:List E}{j:Nat}(h:Fit a l)(hk:a<=k/\k<a+256)(hj:k%256=(j:Int)){e:E}(he:e∈l):YA j e=true↔e.1=k:=by have:=h e he;unfold YA;grind
def anW {a k:Int}{l:List E}{j:Nat}(h:Fit a l)(hk:a<=k/\k<a+256)(hj:k%256=(j:Int))(SD:∀e∈l,k<=e.1)(hne:tF l j≠[]):
  ∃l1 x l2,l=l1++(k,x)::l2/\(∀e∈l1,k<e.1)/\(∀e∈l2,k<=e.1)/\tF l j=x::tF (l1++l2) j/\(∀j',j'≠j->tF (l1++l2) j'=tF l j')/\Fit k (l1++l2):=by
 have hex:∃e∈l,e.1=k:=by
  unfold tF at hne;cases hf:l.filter (YA j)with
  |nil=>grind
  |cons e r=>
   have:e∈l.filter (YA j):=by rw[hf];simp
   obtain⟨h1,h2⟩:=List.mem_filter.1 this;exact⟨e,h1,(Xe h hk hj h1).1 h2⟩
 obtain⟨l1,x,l2,rfl,hl1⟩:=aff hex;refine⟨l1,x,l2,rfl,λe he=>?_,λe he=>SD e (by simp[he]),?_,λj' hj'=>?_,λe he=>?_⟩
 ·grind
 ·unfold tF;have h1:l1.filter (YA j)=[]:=by rw[List.filter_eq_nil_iff];intro e he hb;exact hl1 e he ((Xe h hk hj (by simp[he])).1 hb)
  rw[List.filter_append,List.filter_append,h1,List.filter_cons_of_pos (by unfold YA;grind)];rfl
 ·unfold tF;rw[List.filter_append,List.filter_append,List.filter_cons_of_neg (by unfold YA;grind)]
 ·have h1:e∈l1++(k,x)::l2:=by grind
  have:=h e h1;grind
def aj0 {a:Int}{l:List E}(h:Fit a l)(hne:l≠[]):∃d:Nat,d<256/\(∀e∈l,a+d<=e.1)/\∃e∈l,e.1=a+d:=by
 have key:∀n:Nat,(∃e∈l,e.1<a+n)->∃d:Nat,d<n/\(∀e∈l,a+d<=e.1)/\∃e∈l,e.1=a+d:=by
  intro n;induction n with
  |zero=>
   rintro ⟨e,he,hlt⟩;have:=h e he;omega
  |succ n ih=>
   rintro ⟨e,he,hlt⟩;by_cases hn:∃e∈l,e.1<a+n
   all_goals grind
 obtain⟨e,he⟩:=List.exists_mem_of_ne_nil l hne;exact key 256 ⟨e,he,(h e he).2⟩
def abL {a k:Int}{l:List E}{j:Nat}(h:Fit a l)(hk:a<=k/\k<a+256)(hj:k%256=(j:Int)):tF l j=[]↔∀e∈l,e.1≠k:=by
 rw[tF,List.map_eq_nil_iff,List.filter_eq_nil_iff];constructor
 ·intro h1 e he hk';exact h1 e he ((Xe h hk hj he).2 hk')
 ·intro h1 e he hb;exact h1 e he ((Xe h hk hj he).1 hb)
end Go.Proofs.YtmegplnmiepfbaaGreatDoor.S.Rg
namespace Go.Proofs.YtmegplnmiepfbaaGreatDoor.S.Rg
open Go.Sx
def ee:wO P T:=EB P rows HB
def bT {n lo hi:Int}{w:World}{Q:Int->World->Prop}(h1:lo<=hi)(h2:-1099511627776<=lo)(h3:hi<=1099511627776)(h:Q (lo+n%(hi-lo+1)) w):aS n lo hi w Q:=by
 apply t_;rw[aG (n:=hi-lo),aG];generalize hs:hi-lo+1=s at h;have h4:=Int.lt_tmod_of_pos n (b:=s) (by omega);have h5:=Int.tmod_lt_of_pos n (b:=s) (by omega);have h6:=Int.tmod_add_mul_tdiv n s;refine⟨by omega,?_⟩;generalize ht:Int.tmod n s=t at*;have e:n%s=t%s:=by rw[<-h6,Int.add_mul_emod_self_left]
 by_cases hn:t<0
 ·rw[bM hn,aG (n:=t+hi),aG (n:=t+hi-lo),aG (n:=t+hi-lo+1),aG];have e2:t%s=t+s:=by rw[<-Int.add_emod_right,Int.emod_eq_of_lt (by omega) (by omega)]
  grind
 ·rw[bp hn,aG];rw[e,Int.emod_eq_of_lt (by omega) h5]at h;exact h
structure Bk where
 a:Option Addr
 c:Nat
 xs:List Int
 gone:Nat
def ints (l:List Int):List Value:=l.map (.int .i64)
def Wc (b:Bk):List Value:=[.slice b.a b.xs.length b.c,ae b.gone]
def Xf (b:Bk):(Wc b).length=2:=rfl
def Ba (b:Bk):As:=ak b.a b.xs.length b.c 3 1 (ints b.xs)
def tu (a len:Int)(bs:List Bk):List Value:=ae a::ae len::flat Wc bs
def SL (p:Nat)(a len:Int)(bs:List Bk):List As:=av p 388 (tu a len bs)::bs.map Ba
structure Rel (a:Int) (l:List E) (bs:List Bk) (N:Nat):Prop where
 n:bs.length=256
 fit:Fit a l
 nn:0<=a
 big:a+256*(l.length:Int)<=1099511627776+256*(N:Int)
 nv:l.length<=N
 room:N<1000000
 bk:∀(j:Nat) b,bs[j]? =some b->b.xs.drop b.gone=tF l j/\b.gone<=b.xs.length/\b.xs.length<=N
def Bs (p:Nat)(a:Int)(l:List E)(bs:List Bk)(N:Nat):As:=aW (Rel a l bs N) (SL p a l.length bs)
attribute [local irreducible] af cD bw bg aA cu bZ St Bx Al App cH cA cz bX aL bD aq bU av ak
section
variable {F:Nat->Prop}{W w:World}{L:List As}{i j p o n c:Nat}{t:TypeId}{cs:List Value}{a:Option Addr}{xs:List Int}
def Z0 {x:Int}{Q:World->Prop}(s:Sep F W w L)(hi:L[i]? =some (av p t cs))(ho:cs[o]? =some (.slice a n c))(hj:L[j]? =some (ak a n c 3 1 (ints xs)))(hij:i≠j)(hn:n<1000000)
  (h:∀w' a' c',Sep F W w' ((L.set j (ak a' (n+1) c' 3 1 (ints (xs++[x])))).set i (av p t (cs.set o (.slice a' (n+1) c'))))->Q w'):yZ (some ⟨p,o,none⟩) x w Q:=by
 apply Qj;apply ah;apply gT s rfl hi ho;refine aN s λbx w1 s=>?_;have src:Src w1 (sZ bx) 1 1 [ae x]:=⟨rfl,λu hu=>by rw[List.mem_singleton.1 hu];rfl,λj u hj=>by rw[cq,Nat.zero_add];exact cM s (i:=0) rfl rfl hj⟩;refine ig ee s (bytes:=8) rfl rfl rfl rfl rfl rfl (by decide) (by rw[List.getElem?_cons_succ];exact hj) src (by simp[maxLen];omega) (by omega) (λe=>by cases e) λa' c' w2 s=>?_;have s:=ai s;have e1:ints xs++[ae x]=ints (xs++[x]):=by simp[ints]
 apply ah;have ho':=(List.getElem?_eq_some_iff.1 ho).1;refine ax s rfl (by rw[List.getElem?_set_ne (Ne.symm hij)];exact hi) (by simp_all) λw3 s=>?_;grind
def Co {g:Int}{Q:Bool->World->Prop}(s:Sep F W w L)(hi:L[i]? =some (av p t cs))(ho:cs[o]? =some (.slice a n c))(ho':cs[o+1]? =some (ae g))(h:Q (g==(n:Int)) w.drew):qp (some ⟨p,o,none⟩) w Q:=by apply MI;have s':Sep F W w.drew L:=s;apply ah;refine dx s' (by rw[cq]) hi ho' (ah ?_);exact gT s' rfl hi ho h
def Z1 {g:Nat}{x:Int}{Q:Int->World->Prop}(s:Sep F W w L)(hi:L[i]? =some (av p t cs))(ho:cs[o]? =some (.slice a n c))(ho':cs[o+1]? =some (ae g))(hj:L[j]? =some (ak a n c 3 1 (ints xs)))(hij:i≠j)(hn:n<1000000)(hx:xs[g]? =some x)
  (h1:g+1<n->∀w',Sep F W w' (L.set i (av p t (cs.set (o+1) (ae ((g+1:Nat):Int)))))->Q x w')
  (h2:g+1=n->∀w',Sep F W w' ((L.set i (av p t ((cs.set o (.slice a 0 c)).set (o+1) (ae ((0:Nat):Int))))).set j (ak a 0 c 3 1 []))->Q x w'):yX (some ⟨p,o,none⟩) w Q:=by
 apply Qk;have hiL:=(List.getElem?_eq_some_iff.1 hi).1;have hol:=(List.getElem?_eq_some_iff.1 ho).1;have axT:=(List.getElem?_eq_some_iff.1 ho').1;have hxl:=(List.getElem?_eq_some_iff.1 hx).1;have hl:xs.length=n:=by have:=qZ s hj;simpa[ints]using this
 obtain⟨b,ob,rfl⟩:=pT s hj (by omega);have s0:Sep F W w.drew L:=s;apply ah;refine gT s0 rfl hi ho (ah ?_);apply dx s0 (by rw[cq]) hi ho';refine⟨by omega,by omega,ah ?_⟩;rw[show((g:Int)).toNat*1=g by omega];refine U2 s0 hj (by rw[cq]) (by rw[ints,List.getElem?_map,hx];rfl) (ah ?_);refine dx s0 (by rw[cq]) hi ho' (ah ?_);rw[aG,show((g:Int)+1)=((g+1:Nat):Int) by omega];refine ax s0 (by rw[cq]) hi (by simp_all) λw1 s1=>?_;apply Co (a:=some ⟨b,ob,none⟩) (n:=n) (c:=c) s1 (List.getElem?_set_self hiL) (by grind) (List.getElem?_set_self axT);have s2:Sep F W w1.drew _:=s1;by_cases he:g+1=n
 ·rw[he,beq_self_eq_true,cond_true];apply ah;apply gT s2 rfl (List.getElem?_set_self hiL) (by rw[List.getElem?_set_ne (by omega)];exact ho);refine Pc (m:=0) rfl (by omega) (ah ?_);refine ax s2 rfl (List.getElem?_set_self hiL) (by simp_all) λw3 s3=>?_;rw[gY]at s3;apply ah;refine ax s3 (by rw[cq]) (List.getElem?_set_self hiL) (by simp_all) λw4 s4=>?_;rw[gY]at s4;have s5:=Tn s4 (by rw[List.getElem?_set_ne hij];exact hj) (Nat.zero_le _);apply h2 he w4;have ec:((cs.set (o+1) (ae ((n:Nat):Int))).set o (.slice (some ⟨b,ob,none⟩) 0 c)).set (o+1) (ae 0)=(cs.set o (.slice (some ⟨b,ob,none⟩) 0 c)).set (o+1) (ae ((0:Nat):Int)):=by have e3:(cs.set (o+1) (ae ((n:Nat):Int))).set o (.slice (some ⟨b,ob,none⟩) 0 c)=(cs.set o (.slice (some ⟨b,ob,none⟩) 0 c)).set (o+1) (ae ((n:Nat):Int)):=List.set_comm _ _ (by omega);simp_all
  grind
 grind
end
end Go.Proofs.YtmegplnmiepfbaaGreatDoor.S.Rg
namespace Go.Proofs.YtmegplnmiepfbaaGreatDoor.S.Rg
open Go.Sx
def FA {p:Addr}{A B:Prop}(h:B):cond (some p).isNone A B:=h
def LO {bs:List Bk}{j:Nat}{b:Bk}(h:bs[j]? =some b):(bs.map Ba)[j]? =some (Ba b):=by grind
def NB {a len:Int}{bs:List Bk}{j:Nat}{b:Bk}(h:bs[j]? =some b):(tu a len bs)[j*2+2]? =some (.slice b.a b.xs.length b.c):=by show(flat Wc bs)[j*2+0]? =_;rw[sG Xf h (by decide)];rfl
def OT {a len:Int}{bs:List Bk}{j:Nat}{b:Bk}(h:bs[j]? =some b):(tu a len bs)[j*2+2+1]? =some (ae b.gone):=by show(flat Wc bs)[j*2+1]? =_;rw[sG Xf h (by decide)];rfl
def Tw {a len:Int}{bs:List Bk}{j:Nat}{b b':Bk}{v:Value}(h:bs[j]? =some b)(hv:Wc b'=(Wc b).set 0 v):(tu a len bs).set (j*2+2) v=tu a len (bs.set j b'):=by show _::_::(flat Wc bs).set (j*2+0) v=_;rw[RB Xf h (by decide) hv];rfl
def NC {a len:Int}{bs:List Bk}{j:Nat}{b b':Bk}{v:Value}(h:bs[j]? =some b)(hv:Wc b'=(Wc b).set 1 v):(tu a len bs).set (j*2+2+1) v=tu a len (bs.set j b'):=by show _::_::(flat Wc bs).set (j*2+1) v=_;rw[RB Xf h (by decide) hv];rfl
attribute [local irreducible] af cD bw bg aA cu bZ St Bx Al App cH cA cz bX aL bD aq bU av ak aW
section
variable {F:Nat->Prop}{W w:World}{L:List As}{i p:Nat}{a:Int}{l:List E}{bs:List Bk}{N:Nat}
def HU (s:Sep F W w L)(hi:L[i]? =some (Bs p a l bs N)):Rel a l bs N:=aeY s hi
def ND (s:Sep F W w L)(hi:L[i]? =some (Bs p a l bs N)):Sep (Bs p a l bs N).fp w w (SL p a l.length bs):=IK s hi
def C4 {Q:Int->World->Prop}(s:Sep F W w L)(hi:L[i]? =some (Bs p a l bs N))(h:Q (l.length:Int) w):qz (sZ p) w Q:=by apply Ut;refine FA (ah ?_);exact dx (ND s hi) (i:=0) rfl rfl rfl h
def QZ {k x:Int}{Q:Bool->World->Prop}(s:Sep F W w L)(hi:L[i]? =some (Bs p a l bs N))(hk:k<9223372036854775808)(oT:N+1<1000000)
  (hno:¬(a<=k/\k<a+256)->Q false w)(hyes:a<=k/\k<a+256->∀w' bs',Sep F W w' (L.set i (Bs p a (l++[(k,x)]) bs' (N+1)))->Q true w'):vF (sZ p) k x w Q:=by
 apply Uu;have hr:=HU s hi;have s0:=ND s hi;have hnn:=hr.nn;refine FA (ah ?_);apply dx s0 (i:=0) rfl rfl rfl;by_cases h1:k<a
 ·grind
 ·rw[bp h1];apply ah;apply dx s0 (i:=0) rfl rfl rfl;rw[aG];by_cases h2:k-a≥256
  ·grind
  ·rw[bp h2];have hkk:a<=k/\k<a+256:=by omega
   rw[Int.tmod_eq_emod_of_nonneg (by omega)];obtain⟨j,hj⟩:∃j:Nat,k%256=(j:Int):=⟨(k%256).toNat,by omega⟩;have abM:j<256:=by omega
   obtain⟨b,hb⟩:∃b,bs[j]? =some b:=⟨_,List.getElem?_eq_getElem (by rw[hr.n];exact abM)⟩;have hbk:=hr.bk j b hb;rw[hj];refine⟨by decide,ah ⟨by omega,by omega,?_⟩⟩;have ea:((aZ p).add 2).add (((j:Int)).toNat*2)=⟨p,j*2+2,none⟩:=by rw[cq,cq,show((j:Int)).toNat=j from rfl];grind
   rw[ea];refine Z0 s0 (i:=0) (j:=j+1) rfl (NB hb) (by show(bs.map Ba)[j]? =_;exact LO hb) (by omega) (by omega) λw1 a' c' s1=>?_;have e1:ak a' (b.xs.length+1) c' 3 1 (ints (b.xs++[x]))=Ba ⟨a',c',b.xs++[x],b.gone⟩:=by unfold Ba;grind
   have e2:(tu a l.length bs).set (j*2+2) (.slice a' (b.xs.length+1) c')=tu a l.length (bs.set j ⟨a',c',b.xs++[x],b.gone⟩):=Tw hb (by unfold Wc;grind);rw[e1,e2]at s1;have s1:Sep (Bs p a l bs N).fp w w1 (av p 388 (tu a l.length (bs.set j ⟨a',c',b.xs++[x],b.gone⟩))::(bs.map Ba).set j (Ba ⟨a',c',b.xs++[x],b.gone⟩)):=s1;rw[<-List.map_set]at s1;apply ah;refine dx s1 (i:=0) rfl rfl rfl (ah ?_);have hfl:=hr.nv;rw[aG];refine ax s1 (i:=0) rfl rfl rfl λw2 s2=>?_;have hlen:((l.length:Int)+1)=((l++[(k,x)]).length:Int):=by simp
   rw[hlen]at s2;refine hyes hkk w2 (bs.set j ⟨a',c',b.xs++[x],b.gone⟩) (RC s hi s2 ?_);refine⟨by simp[hr.n],aqj hr.fit hkk.1 hkk.2,hr.nn,(by have:=hr.big;simp;omega),(by omega),oT,λj' b' hb'=>?_⟩;rw[anV];by_cases hjj:j=j'
   ·grind
   ·rw[List.getElem?_set_ne hjj]at hb';have:=hr.bk j' b' hb';grind
end
end Go.Proofs.YtmegplnmiepfbaaGreatDoor.S.Rg
namespace Go.Proofs.YtmegplnmiepfbaaGreatDoor.S.Rg
open Go.Sx
attribute [local irreducible] af cD bw bg aA cu bZ St Bx Al App cH cA cz bX aL bD aq bU av ak aW
section
variable {F:Nat->Prop}{W w:World}{L:List As}{i p:Nat}{a:Int}{l:List E}{bs:List Bk}{N:Nat}
def abN {k:Int}{Q:Bool->World->Prop}(s:Sep F W w L)(hi:L[i]? =some (Bs p a l bs N))
  (hno:¬(l=[]/\a<=k/\k<=1099511627776)->Q false w)(hyes:l=[]/\a<=k/\k<=1099511627776->∀w' bs',Sep F W w' (L.set i (Bs p k [] bs' N))->Q true w'):Ad (sZ p) k w Q:=by
 apply Sf;have hr:=HU s hi;have s0:=ND s hi;have hnn:=hr.nn;refine FA (ah ?_);apply dx s0 (i:=0) rfl rfl rfl;by_cases h0:l=[]
 ·subst h0;rw[bp (by simp)];apply ah;apply dx s0 (i:=0) rfl rfl rfl;by_cases h1:k<a
  ·grind
  ·rw[bp h1];by_cases h2:k>1099511627776
   ·grind
   ·rw[bp h2];apply ah;refine ax s0 (i:=0) rfl rfl rfl λw1 s1=>?_;have s1:=s1;exact hyes ⟨rfl,by omega,by omega⟩ w1 bs (RC s hi s1 ⟨hr.n,(λe he=>by cases he),by omega,(by simp;omega),hr.nv,hr.room,hr.bk⟩)
 simp_all
def agB {Q:Int->Int->Bool->World->Prop}(hr:Rel a l bs N){d:Nat}(hd:d<256)(SD:∀e∈l,a+d<=e.1)(hex:∃e∈l,e.1=a+d){w0:World}{G:Nat->Prop}
  (h:∀w' l1 x l2 bs',l=l1++(a+d,x)::l2->(∀e∈l1,a+d<e.1)->(∀e∈l2,a+d<=e.1)->Rel (a+d) (l1++l2) bs' N->Sep G w0 w' (SL p (a+d) (l1++l2).length bs')->Q (a+d) x true w'):
  ∀(m e:Nat) (w:World),e+m=d->Sep G w0 w (SL p (a+e) l.length bs)->pR Q (m+1) (sZ p) w:=by
 have hnn:=hr.nn;have ahl:=hr.big;have aA6:=hr.nv;have azp:=hr.room;intro m;induction m with
 |zero=>
  intro e w he s;obtain rfl:e=d:=by omega
  show DG Q (pR Q 0) _ _;obtain⟨j,hj⟩:∃j:Nat,(a+e)%256=(j:Int):=⟨((a+e)%256).toNat,by omega⟩;have abM:j<256:=by omega
  obtain⟨b,hb⟩:∃b,bs[j]? =some b:=⟨_,List.getElem?_eq_getElem (by rw[hr.n];exact abM)⟩;have hbk:=hr.bk j b hb;have hroom:=hr.room;have hkk:a<=a+e/\a+e<a+256:=by omega
  have hpn:tF l j≠[]:=λh0=>by obtain⟨x,hx,hxe⟩:=hex;exact(abL hr.fit hkk hj).1 h0 x hx hxe
  obtain⟨l1,x,l2,hl,g1,g2,g3,g4,g5⟩:=anW hr.fit hkk hj SD hpn;have hlt:b.gone<b.xs.length:=by grind
  have ea:((aZ p).add 2).add (((j:Int)).toNat*2)=⟨p,j*2+2,none⟩:=by rw[cq,cq,show((j:Int)).toNat=j from rfl];grind
  have em:Int.tmod (a+e) 256=(j:Int):=by grind
  have s0:Sep G w0 w.drew _:=s;apply ah;apply dx s0 (i:=0) rfl rfl rfl;rw[em];refine⟨by decide,ah ⟨by omega,by omega,?_⟩⟩;rw[ea];apply Co s0 (i:=0) rfl (NB hb) (OT hb);rw[show(((b.gone:Int))==(b.xs.length:Int))=false by grind,cond_false];have s1:=s;apply ah;refine dx s1 (i:=0) rfl rfl rfl (ah ?_);refine ax s1 (i:=0) rfl rfl rfl λw3 s3=>?_;have el:IntKind.wrap .i64 ((l.length:Int)-1)=((l1++l2).length:Int):=by rw[aG];grind
  rw[el]at s3;have s3:=s3;have s4:Sep G w0 w3.drew (SL p (a+e) (l1++l2).length bs):=s3;apply ah;refine dx s4 (i:=0) rfl rfl rfl (ah ?_);apply dx s4 (i:=0) rfl rfl rfl;rw[em];refine⟨by decide,ah ⟨by omega,by omega,?_⟩⟩;rw[ea];have hx:b.xs[b.gone]? =some x:=by have:=congrArg (λq=>q[0]?) (hbk.1.trans g3);grind
  have abP:b.xs.drop (b.gone+1)=tF (l1++l2) j:=by have:=congrArg (List.drop 1) (hbk.1.trans g3);simpa[List.drop_drop]using this
  have rel:∀b':Bk,b'.xs.drop b'.gone=tF (l1++l2) j->b'.gone<=b'.xs.length->b'.xs.length<=N->Rel (a+e) (l1++l2) (bs.set j b') N:=by
   intro b' q1 q2 q3;refine⟨by simp[hr.n],g5,by omega,?_,?_,hroom,λj' b2 hb2=>?_⟩
   ·grind
   ·grind
   ·by_cases hjj:j=j'
    ·grind
    ·rw[List.getElem?_set_ne hjj]at hb2;rw[g4 j' (Ne.symm hjj)];exact hr.bk j' b2 hb2
  refine Z1 s4 (i:=0) (j:=j+1) rfl (NB hb) (OT hb) (by show(bs.map Ba)[j]? =_;exact LO hb) (by omega) (by omega) hx (λhg w5 s5=>?_) λhg w5 s5=>?_
  ·have e2:(tu (a+e) (l1++l2).length bs).set (j*2+2+1) (ae ((b.gone+1:Nat):Int))=tu (a+e) (l1++l2).length (bs.set j {b with gone:=b.gone+1}):=NC hb rfl;rw[e2]at s5;have e3:bs.map Ba=(bs.set j {b with gone:=b.gone+1}).map Ba:=by rw[List.map_set,show Ba {b with gone:=b.gone+1}=Ba b from rfl,rD (LO hb)]
   have s5:Sep G w0 w5 (av p 388 (tu (a+e) (l1++l2).length (bs.set j {b with gone:=b.gone+1}))::bs.map Ba):=s5;rw[e3]at s5;refine⟨cM s5 (i:=0) rfl rfl rfl,?_⟩;exact h w5 l1 x l2 _ hl g1 g2 (rel {b with gone:=b.gone+1} abP (show b.gone+1<=b.xs.length by omega) hbk.2.2) s5
  ·have e2:((tu (a+e) (l1++l2).length bs).set (j*2+2) (.slice b.a 0 b.c)).set (j*2+2+1) (ae ((0:Nat):Int))=tu (a+e) (l1++l2).length (bs.set j ⟨b.a,b.c,[],0⟩):=by
    have hjl:j<bs.length:=by grind
    rw[Tw (b':=⟨b.a,b.c,[],b.gone⟩) (v:=.slice b.a 0 b.c) hb rfl,NC (b:=⟨b.a,b.c,[],b.gone⟩) (b':=⟨b.a,b.c,[],0⟩) (List.getElem?_set_self hjl) rfl,gY]
   rw[e2]at s5;have e3:ak b.a 0 b.c 3 1 []=Ba ⟨b.a,b.c,[],0⟩:=rfl;have s5:Sep G w0 w5 (av p 388 (tu (a+e) (l1++l2).length (bs.set j ⟨b.a,b.c,[],0⟩))::(bs.map Ba).set j (Ba ⟨b.a,b.c,[],0⟩)):=s5;rw[<-List.map_set]at s5;refine⟨cM s5 (i:=0) rfl rfl rfl,?_⟩;refine h w5 l1 x l2 _ hl g1 g2 (rel _ ?_ (by simp) (by simp)) s5;grind
 |succ m ih=>
  intro e w he s;show DG Q (pR Q (m+1)) _ _;obtain⟨j,hj⟩:∃j:Nat,(a+e)%256=(j:Int):=⟨((a+e)%256).toNat,by omega⟩;have abM:j<256:=by omega
  obtain⟨b,hb⟩:∃b,bs[j]? =some b:=⟨_,List.getElem?_eq_getElem (by rw[hr.n];exact abM)⟩;have hbk:=hr.bk j b hb;have hkk:a<=a+e/\a+e<a+256:=by omega
  have hpn:=(abL hr.fit hkk hj).2 λx hx hxe=>by grind
  have av4:b.gone=b.xs.length:=by have:=congrArg List.length hbk.1;grind
  have ea:((aZ p).add 2).add (((j:Int)).toNat*2)=⟨p,j*2+2,none⟩:=by rw[cq,cq,show((j:Int)).toNat=j from rfl];grind
  have em:Int.tmod (a+e) 256=(j:Int):=by grind
  have s0:Sep G w0 w.drew _:=s;apply ah;apply dx s0 (i:=0) rfl rfl rfl;rw[em];refine⟨by decide,ah ⟨by omega,by omega,?_⟩⟩;rw[ea];apply Co s0 (i:=0) rfl (NB hb) (OT hb);rw[av4,beq_self_eq_true,cond_true];have s1:=s;apply ah;refine dx s1 (i:=0) (j:=0) rfl rfl rfl (ah ?_);refine ax s1 (i:=0) (j:=0) rfl rfl rfl λw3 s3=>?_;rw[aG,show a+(e:Int)+1=a+((e+1:Nat):Int) by omega]at s3;exact ih (e+1) w3 (by omega) s3
def ad0 {Q:Int->Int->Bool->World->Prop}(s:Sep F W w L)(hi:L[i]? =some (Bs p a l bs N))(h0:l=[]->Q 0 0 false w)
  (h1:∀w' k l1 x l2 bs',l=l1++(k,x)::l2->(∀e∈l1,k<e.1)->(∀e∈l2,k<=e.1)->Sep F W w' (L.set i (Bs p k (l1++l2) bs' N))->Q k x true w'):A4 (sZ p) w Q:=by
 apply Uv;apply C4 s hi;have hr:=HU s hi;by_cases hl:l=[]
 ·grind
 ·have hpos:=List.length_pos_iff.2 hl;rw[show(((l.length:Int))==0)=false by grind,cond_false];obtain⟨d,hd,SD,hex⟩:=aj0 hr.fit hl;have s0:=ND s hi;refine⟨d+1,agB (G:=(Bs p a l bs N).fp) (w0:=w) hr hd SD hex (λw' l1 x l2 bs' q1 q2 q3 q4 s'=>?_) d 0 w (by omega) (by grind)⟩;exact h1 w' (a+d) l1 x l2 bs' q1 q2 q3 (RC s hi s' q4)
def aio:Bk:=⟨none,0,[],0⟩
def Q0 {f:Int}{Q:Option Addr->World->Prop}(s:Sep F W w L)(hno:f<0\/f>1099511627776->Q none w)(hyes:0<=f/\f<=1099511627776->∀p w' bs,Sep F W w' (Bs p f [] bs 0::L)->Q (sZ p) w'):CL f w Q:=by
 apply adD;by_cases h1:f<0
 ·rw[bM h1];grind
 ·rw[bp h1];by_cases h2:f>1099511627776
  ·rw[bM h2];grind
  ·rw[bp h2];refine aN s λp w1 s=>?_;have s2:=To s 3 1 256;have s3:=ck s2 List.perm_middle;have rel:Rel f [] (List.replicate 256 aio) 0:=by refine⟨List.length_replicate,(λe he=>by cases he),by omega,(by simp[List.length_nil];omega),Nat.le_refl _,by decide,λj b hb=>?_⟩;have:b=aio:=List.eq_of_mem_replicate (List.mem_of_getElem? hb);subst this;exact⟨rfl,Nat.le_refl _,Nat.le_refl _⟩
   have e1:(List.replicate 256 aio).map Ba=List.replicate 256 (ak none 0 0 3 1 []):=by rw[List.map_replicate];rfl
   apply hyes (by omega) p w1 (List.replicate 256 aio);have s4:Sep F W w1 (SL p f ([]:List E).length (List.replicate 256 aio)++L):=by unfold SL;exact avU s3 (by kernel_rfl)
   exact dA s4 rel
end
end Go.Proofs.YtmegplnmiepfbaaGreatDoor.S.Rg
namespace Go.Proofs.YtmegplnmiepfbaaGreatDoor.S
open Go.Sx
def fD (ds:List Int)(l:Int):Int:=if 0<=l/\l<ds.length then gi ds l.toNat else bS
def Gx (ds:List Int):Nat:=ds.countP λd=>d==bS
def kc (x:bj):Int×Int:=(x.k,x.c)
def Wd {k:Int}(hk:k≠bS):∀{ds:List Int} {i:Nat},i<ds.length->gi ds i=bS->Gx (ds.set i k)+1=Gx ds
 |[],i,h,_=>by simp at h
 |d::ds,0,h,hd=>by have hd:d=bS:=hd;unfold Gx;grind
 |d::ds,i+1,h,hd=>by have ih:=Wd hk (i:=i) (by simpa using h) hd;unfold Gx at ih⊢;grind
def axU (ds:List Int):Gx ds<=ds.length:=List.countP_le_length
def auu {ds:List Int}{x k:Int}(hx:0<=x/\x<ds.length)(y:Int):fD (ds.set x.toNat k) y=if y=x then k else fD ds y:=by
 unfold fD;rw[List.length_set];by_cases hy:0<=y/\y<ds.length
 ·rw[if_pos hy,if_pos hy,aaV (by omega)];omega
 grind
def SM {tw th l s:Int}(ht:1<=tw)(hh:1<=th)(hl:0<=l/\l<tw*th)(h0:0<=bN tw th l s):bN tw th l s<tw*th/\∃s',(0<=s'/\s'<=3)/\bN tw th (bN tw th l s) s'=l:=by
 obtain⟨i0,i1⟩:0<=l%tw/\l%tw<tw:=⟨Int.emod_nonneg _ (by omega),Int.emod_lt_of_pos _ (by omega)⟩;obtain⟨j0,j1⟩:0<=l/tw/\l/tw<th:=⟨Int.ediv_nonneg hl.1 (by omega),Int.ediv_lt_of_lt_mul (by omega) (by grind)⟩;have hle:l=l/tw*tw+l%tw:=by have:=Int.mul_ediv_add_emod l tw;grind
 have jA:∀i j,0<=i/\i<tw->0<=j/\j<th->j*tw+i<tw*th:=λi j hi hj=>by have:=Int.mul_le_mul_of_nonneg_right (show j+1<=th by omega) (show 0<=tw by omega);grind
 unfold bN at h0;by_cases s0:s=0
 ·subst s0;by_cases q:l/tw>0
  ·have e:bN tw th l 0=(l/tw-1)*tw+l%tw:=by unfold bN;grind
   rw[e];refine⟨jA _ _ ⟨i0,i1⟩ (by omega),2,by decide,?_⟩;obtain⟨d1,d2⟩:=rF (y:=l/tw-1) ⟨i0,i1⟩;unfold bN;grind
  omega
 by_cases s1:s=1
 ·subst s1;by_cases q:l%tw<tw-1
  ·have e:bN tw th l 1=l/tw*tw+(l%tw+1):=by unfold bN;omega
   rw[e];refine⟨jA _ _ (by omega) ⟨j0,j1⟩,3,by decide,?_⟩;obtain⟨d1,d2⟩:=rF (x:=l%tw+1) (w:=tw) (y:=l/tw) (by omega);unfold bN;omega
  omega
 by_cases s2:s=2
 ·subst s2;by_cases q:l/tw<th-1
  ·have e:bN tw th l 2=(l/tw+1)*tw+l%tw:=by unfold bN;grind
   rw[e];refine⟨jA _ _ ⟨i0,i1⟩ (by omega),0,by decide,?_⟩;obtain⟨d1,d2⟩:=rF (y:=l/tw+1) ⟨i0,i1⟩;unfold bN;grind
  omega
 by_cases s3:s=3
 ·subst s3;by_cases q:l%tw>0
  ·have e:bN tw th l 3=l/tw*tw+(l%tw-1):=by unfold bN;omega
   rw[e];refine⟨jA _ _ (by omega) ⟨j0,j1⟩,1,by decide,?_⟩;obtain⟨d1,d2⟩:=rF (x:=l%tw-1) (w:=tw) (y:=l/tw) (by omega);unfold bN;omega
  omega
 omega
def kT (tw th:Int)(cs ds:List Int)(key x:Int)(j:Nat):List (Int×Int):=(List.range j).filterMap λs:Nat=>
 if 0<=bN tw th x s/\gi cs (bN tw th x s).toNat≠255/\gi ds (bN tw th x s).toNat=bS then some (key,bN tw th x s)else none
def abQ (tw th:Int)(cs ds:List Int)(key x s:Int):List (Int×Int):=if 0<=bN tw th x s/\gi cs (bN tw th x s).toNat≠255/\gi ds (bN tw th x s).toNat=bS then[(key,bN tw th x s)]else[]
def abR (tw th:Int)(cs ds:List Int)(key x:Int)(j:Nat):kT tw th cs ds key x (j+1)=kT tw th cs ds key x j++abQ tw th cs ds key x j:=by unfold kT abQ;rw[List.range_succ,List.filterMap_append];grind
def We (tw th:Int)(cs ds:List Int)(key x:Int)(j:Nat):(kT tw th cs ds key x j).length<=j:=by have:=List.length_filterMap_le (λs:Nat=>if 0<=bN tw th x s/\gi cs (bN tw th x s).toNat≠255/\gi ds (bN tw th x s).toNat=bS then some (key,bN tw th x s)else none) (List.range j);rw[List.length_range]at this;exact this
def afh {tw th:Int}{cs ds:List Int}{key x:Int}{e:Int×Int}:e∈kT tw th cs ds key x 4↔∃s:Int,(0<=s/\s<=3)/\(0<=bN tw th x s/\gi cs (bN tw th x s).toNat≠255/\gi ds (bN tw th x s).toNat=bS)/\e=(key,bN tw th x s):=by
 rw[kT,List.mem_filterMap];constructor
 ·grind
 ·rintro ⟨s,h1,h2,rfl⟩;refine⟨s.toNat,List.mem_range.2 (by omega),?_⟩;grind
structure Cp (tw th:Int) (cs:List Int) (xs:List bj) (a:Int) (l:List (Int×Int)) (N:Nat) (todo:List bj) (ds:List Int):Prop where
 len:ds.length=cs.length
 dj:Pg (Nx xs) (Is tw th cs) (fD ds) (l++todo.map kc)
 Ec:∀e∈l++todo.map kc,Ir cs e.2
 top:∀e∈l++todo.map kc,e.1+254*(Gx ds:Int)<=1073741824+254*(cs.length:Int)
 NF:todo.Pairwise λa b=>a.k<=b.k
 low:∀x∈todo,a<=x.k
 fR:N+todo.length+4*Gx ds<=xs.length+4*cs.length
section
variable {tw th:Int}{cs ds:List Int}{xs todo:List bj}{a:Int}{l:List (Int×Int)}{N:Nat}
def aiq (hcs:∀x∈cs,1<=x/\x<256):∀x n c,Is tw th cs x n c->0<=c:=λx n c h=>by rw[h.2.2.2];have:=hcs _ (ff (i:=n.toNat) (by have:=h.2.1;unfold Ir at this;omega));omega
def Cp.take {x:bj}(h:Cp tw th cs xs a l N (x::todo) ds):Cp tw th cs xs a (l++[kc x]) (N+1) todo ds:=by
 have e:l++(x::todo).map kc=(l++[kc x])++todo.map kc:=by simp
 have h1:=h.dj;have h2:=h.Ec;have h3:=h.top;have h4:=h.fR;rw[e]at h1 h2 h3;simp[List.length_cons]at h4;exact⟨h.len,h1,h2,h3,(List.pairwise_cons.1 h.NF).2,λy hy=>h.low y (by simp[hy]),by omega⟩
def Cp.jump {x:bj}(h:Cp tw th cs xs a l N (x::todo) ds):Cp tw th cs xs x.k l N (x::todo) ds:=
 ⟨h.len,h.dj,h.Ec,h.top,h.NF,λy hy=>by
  rcases List.mem_cons.1 hy with rfl|hy
  ·grind
  ·exact(List.pairwise_cons.1 h.NF).1 y hy,h.fR⟩
def Cp.skip {k x:Int}{l1 l2:List (Int×Int)}(h:Cp tw th cs xs a (l1++(k,x)::l2) N todo ds)(hx:fD ds x<bS)(hk:∀y∈todo,k<=y.k):Cp tw th cs xs k (l1++l2) N todo ds:=by
 have hm:∀e∈(l1++l2)++todo.map kc,e∈(l1++(k,x)::l2)++todo.map kc:=λe he=>by grind
 exact⟨h.len,h.dj.skip (k:=k) hx hm λe he=>by grind,λe he=>h.Ec e (hm e he),λe he=>h.top e (hm e he),h.NF,hk,h.fR⟩
def Cp.step {k x:Int}{l1 l2:List (Int×Int)}{M:Nat}(hcs:∀x∈cs,1<=x/\x<256)(hw:1<=tw)(hh:1<=th)(hlen:(cs.length:Int)=tw*th)(vX:cs.length<=256)(h:Cp tw th cs xs a (l1++(k,x)::l2) N todo ds)(hx:gi ds x.toNat=bS)
  (hmin:∀e∈l1++l2,k<=e.1)(hk:∀y∈todo,k<=y.k)(hM:M=N+(kT tw th cs (ds.set x.toNat k) (k+gi cs x.toNat) x 4).length):
  Cp tw th cs xs k ((l1++l2)++kT tw th cs (ds.set x.toNat k) (k+gi cs x.toNat) x 4) M todo (ds.set x.toNat k):=by
 have hin:(k,x)∈(l1++(k,x)::l2)++todo.map kc:=by simp
 have I8:=h.Ec _ hin;have hxr:0<=x/\x<ds.length:=by rw[h.len];exact⟨I8.1,I8.2.1⟩
 have Z2:=h.top _ hin;have hkI:k<bS:=by unfold bS;omega
 have Z3:∀y,fD (ds.set x.toNat k) y=if y=x then k else fD ds y:=auu hxr
 have Hj:=Wd (k:=k) (by omega) (by omega) hx;have hbound:∀e∈(l1++(k,x)::l2)++todo.map kc,k<=e.1:=λe he=>by
  simp only[List.mem_append,List.mem_cons,List.mem_map]at he;rcases he with(he|rfl|he)|⟨y,hy,rfl⟩
  ·grind
  ·grind
  ·grind
  ·exact hk y hy
 have hcx:=hcs _ (ff (i:=x.toNat) (by rw[<-h.len];omega));have hfx:¬fD ds x<bS:=by unfold fD;grind
 have auw:∀e∈((l1++l2)++kT tw th cs (ds.set x.toNat k) (k+gi cs x.toNat) x 4)++todo.map kc,e∈(l1++(k,x)::l2)++todo.map kc\/e∈kT tw th cs (ds.set x.toNat k) (k+gi cs x.toNat) x 4:=λe he=>by grind
 have axV:∀e∈kT tw th cs (ds.set x.toNat k) (k+gi cs x.toNat) x 4,Ir cs e.2/\e.1=k+gi cs x.toNat/\Is tw th cs e.2 x (gi cs x.toNat):=λe he=>by obtain⟨s,hs,⟨h1,h2,h3⟩,rfl⟩:=afh.1 he;have hr:=SM hw hh (by rw[<-hlen,<-h.len];exact hxr) h1;have ho:Ir cs (bN tw th x s):=⟨h1,by grind,h2⟩;exact⟨ho,rfl,ho,I8,hr.2,rfl⟩
 refine⟨by rw[List.length_set];exact h.len,?_,?_,?_,h.NF,hk,?_⟩
 ·refine h.dj.step (aiq hcs) hfx hkI hin hbound (by grind) (λy hy=>by grind) ?_ ?_ ?_
  ·grind
  ·grind
  ·rintro y c ⟨h1,h2,⟨s,hs,h3⟩,rfl⟩;by_cases hy:fD (ds.set x.toNat k) y<bS
   ·exact .inl hy
   ·refine .inr ⟨k+gi cs x.toNat,Int.le_refl _,?_⟩;have hr:=SM (s:=s) hw hh (by rw[<-hlen];exact⟨h1.1,h1.2.1⟩) (by grind);rw[h3]at hr;obtain⟨s',hs',h4⟩:=hr.2;rw[List.mem_append,List.mem_append];refine .inl (.inr (afh.2 ⟨s',hs',?_,by rw[h4]⟩));rw[h4];refine⟨h1.1,h1.2.2,?_⟩;have Tx:0<=y/\y<(ds.set x.toNat k).length:=by rw[List.length_set,h.len];exact⟨h1.1,h1.2.1⟩
    have hz:fD (ds.set x.toNat k) y=bS:=by
     rw[Z3]at hy⊢;by_cases e:y=x
     ·omega
     ·rw[if_neg e]at hy⊢;exact h.dj.none y hy
    unfold fD at hz;grind
 ·intro e he;rcases auw e he with h1|h1
  ·exact h.Ec e h1
  grind
 ·intro e he;rcases auw e he with h1|h1
  ·have:=h.top e h1;omega
  ·have:=(axV e h1).2.1;have:gi cs x.toNat≠255:=I8.2.2;omega
 ·have h1:=We tw th cs (ds.set x.toNat k) (k+gi cs x.toNat) x 4;have h2:=h.fR;omega
def an0 (hok:rP tw th cs xs=true){zs:List bj}(hz:∀x,x∈zs↔x∈xs)(hzl:zs.length=xs.length)(hzs:zs.Pairwise λa b=>a.k<=b.k):Cp tw th cs xs 0 [] 0 zs (List.replicate cs.length bS):=by
 have hf:∀x,fD (List.replicate cs.length bS) x=bS:=λx=>by
  unfold fD;split
  ·rename_i h;unfold gi;grind
  ·rfl
 have hu:Gx (List.replicate cs.length bS)=cs.length:=by rw[Gx,List.countP_replicate,if_pos (by decide)]
 unfold rP at hok;rw[Bool.and_eq_true,List.all_eq_true]at hok;have alI:∀x∈zs,Ir cs x.c/\0<=x.k/\x.k<=1073741824:=λx hx=>by have:=hok.2 x ((hz x).1 hx);unfold Am at this;simp[Bool.and_eq_true,decide_eq_true_iff,bne_iff_ne]at this;exact⟨⟨this.1.1,this.1.2,this.2.1⟩,this.2.2.1⟩
 refine⟨by simp,⟨?_,?_,?_,?_,?_,?_⟩,?_,?_,hzs,λx hx=>(alI x hx).2.1,by omega⟩
 ·intro e he;obtain⟨y,hy,rfl⟩:=List.mem_map.1 he;exact .src ⟨y,(hz y).1 hy,rfl,rfl⟩
 ·grind
 ·grind
 ·rintro x k ⟨y,hy,rfl,rfl⟩;exact .inr ⟨y.k,Int.le_refl _,by rw[List.nil_append];exact List.mem_map.2 ⟨y,(hz y).2 hy,rfl⟩⟩
 ·grind
 ·grind
 ·intro e he;obtain⟨y,hy,rfl⟩:=List.mem_map.1 he;exact(alI y hy).1
 ·intro e he;obtain⟨y,hy,rfl⟩:=List.mem_map.1 he;have:=(alI y hy).2;show y.k+_<=_;omega
noncomputable def jv (tw th:Int)(cs:List Int)(xs:List bj):List Int:=(List.range cs.length).map λl:Nat=>LM tw th cs xs l
def Cp.done (h:Cp tw th cs xs a [] N [] ds):ds=jv tw th cs xs:=by
 have h1:=h.dj;have h2:∀x,gC (Nx xs) (Is tw th cs) x=fD ds x:=λx=>Pg.done (by grind) x;refine U5 (by unfold jv;rw[List.length_map,List.length_range,h.len]) λi hi=>?_;rw[jv,show gi ((List.range cs.length).map λl:Nat=>LM tw th cs xs l) i=LM tw th cs xs i from ?_]
 ·rw[LM,h2];unfold fD;grind
 ·rw[gi,List.getD_eq_getElem?_getD,List.getElem?_map,List.getElem?_range (by rw[<-h.len];exact hi)];rfl
end
end Go.Proofs.YtmegplnmiepfbaaGreatDoor.S
namespace Go.Proofs.YtmegplnmiepfbaaGreatDoor.S
open Go.Sx
open Go.Sort (swp)
attribute [local irreducible] af cD bw bg aA cu bZ St Bx Al App cH cA cz bX aL bD aq bU av ak aW mapA
noncomputable abbrev iM:Value:=.func (.func 197) #[] #[]
abbrev c9 (a:Option Addr)(n c:Nat)(d:Array bj):As:=ak a n c 294 3 (flat fS d.toList)
section
variable {F:Nat->Prop}{W w w0:World}{L:List As}{a:Option Addr}{n c:Nat}{d:Array bj}
def gj (s:Sep F W w (c9 a n c d::L)):d.size=n:=by have:=(aO s (i:=0) rfl nq (by decide)).len;grind
def Xg {k:Nat}(h:k<d.size):d.toList[k]? =some d[k]!:=by grind
def RdS {idx:Int}{k:Nat}{K:Int->Int->Int->Prop}(s:Sep F W w (c9 a n c d::L))(hk:idx=k)(hn:k<d.size)(h:K d[k]!.c d[k]!.s d[k]!.k):
  aJ idx n (wA a λp=>af .i64 ((p.add (idx.toNat*3)).add 0) w λx=>af .i64 ((p.add (idx.toNat*3)).add 1) w λy=>af .i64 ((p.add (idx.toNat*3)).add 2) w λz=>K x y z):=
 (aO s (i:=0) rfl nq (by decide)).El hk (by rw[<-gj s];exact hn) λp x hx hc=>by rw[Xg hn]at hx;cases hx;exact aR (hc 0 _ rfl) (aR (hc 1 _ rfl) (aR (hc 2 _ rfl) h))
def WrS {idx:Int}{k:Nat}{x:bj}{K:World->Prop}(s:Sep F W w (c9 a n c d::L))(hk:idx=k)(hn:k<d.size)(h:∀w',Sep F W w' (c9 a n c (d.setIfInBounds k x)::L)->K w'):
  aJ idx n (wA a λp=>St ((p.add (idx.toNat*3)).add 0) (ae x.c) w λw=>St ((p.add (idx.toNat*3)).add 1) (ae x.s) w λw=>St ((p.add (idx.toNat*3)).add 2) (ae x.k) w λw=>K w):=by
 have hsz:=gj s;subst hk;have hg:=Xg hn;refine CC s (i:=0) rfl rfl (by omega) λg o ha=>?_;subst ha;have ad:∀j,(((⟨g,o,none⟩:Addr).add ((k:Int).toNat*3)).add j)=⟨g,o+(k*3+j),none⟩:=λj=>by rw[add_add,cq,Int.toNat_natCast]
 refine dQ (x':=⟨x.c,d[k]!.s,d[k]!.k⟩) nq s (i:=0) rfl hg (ad 0) (by decide) rfl rfl λw s=>?_;refine dQ (x:=⟨x.c,d[k]!.s,d[k]!.k⟩) (x':=⟨x.c,x.s,d[k]!.k⟩) nq s (i:=0) rfl (by grind) (ad 1) (by decide) rfl rfl λw s=>?_;refine dQ (x:=⟨x.c,x.s,d[k]!.k⟩) (x':=x) nq s (i:=0) rfl (by grind) (ad 2) (by decide) rfl rfl λw s=>?_;simp[List.set_cons_zero,List.set_set]at s;grind
def Gy {m:Nat}{i j:Int}{p q:Nat}{K:Int->World->Prop}(s:Sep F W w (c9 a n c d::L))(hi:i=p)(hp:p<d.size)(hj:j=q)(hq:q<d.size)(h:∀w',Sep F W w' (c9 a n c d::L)->K (aid d[p]! d[q]!) w'):
  aJ i n (wA a λp=>af .i64 ((p.add (i.toNat*3)).add 0) w λx=>af .i64 ((p.add (i.toNat*3)).add 1) w λy=>af .i64 ((p.add (i.toNat*3)).add 2) w λz=>
  aJ j n (wA a λp=>af .i64 ((p.add (j.toNat*3)).add 0) w λx'=>af .i64 ((p.add (j.toNat*3)).add 1) w λy'=>af .i64 ((p.add (j.toNat*3)).add 2) w λz'=>
  h_ (cx m) iM [.agg #[ae x,ae y,ae z],.agg #[ae x',ae y',ae z']] w λv w'=>dI .i64 v λr=>K r w')):=
 RdS (K:=λx y z=>aJ j n (wA a λp=>af .i64 ((p.add (j.toNat*3)).add 0) w λx'=>af .i64 ((p.add (j.toNat*3)).add 1) w λy'=>af .i64 ((p.add (j.toNat*3)).add 2) w λz'=>
  h_ (cx m) iM [.agg #[ae x,ae y,ae z],.agg #[ae x',ae y',ae z']] w λv w'=>dI .i64 v λr=>K r w')) s hi hp
  (RdS s hj hq
   (ajX (X9 s λw' s' _=>h w' s')))
def DN {i j:Int}{p q:Nat}{K:World->Prop}(s:Sep F W w (c9 a n c d::L))(hi:i=p)(hp:p<d.size)(hj:j=q)(hq:q<d.size)(h:∀w',Sep F W w' (c9 a n c (swp d p q)::L)->K w'):
  aJ j n (wA a λp=>af .i64 ((p.add (j.toNat*3)).add 0) w λx=>af .i64 ((p.add (j.toNat*3)).add 1) w λy=>af .i64 ((p.add (j.toNat*3)).add 2) w λz=>
  aJ i n (wA a λp=>af .i64 ((p.add (i.toNat*3)).add 0) w λx'=>af .i64 ((p.add (i.toNat*3)).add 1) w λy'=>af .i64 ((p.add (i.toNat*3)).add 2) w λz'=>
  aJ i n (wA a λp=>St ((p.add (i.toNat*3)).add 0) (ae x) w λw=>St ((p.add (i.toNat*3)).add 1) (ae y) w λw=>St ((p.add (i.toNat*3)).add 2) (ae z) w λw=>
  aJ j n (wA a λp=>St ((p.add (j.toNat*3)).add 0) (ae x') w λw=>St ((p.add (j.toNat*3)).add 1) (ae y') w λw=>St ((p.add (j.toNat*3)).add 2) (ae z') w λw=>K w)))):=by
 refine RdS (K:=λx y z=>aJ i n (wA a λp=>af .i64 ((p.add (i.toNat*3)).add 0) w λx'=>af .i64 ((p.add (i.toNat*3)).add 1) w λy'=>af .i64 ((p.add (i.toNat*3)).add 2) w λz'=>
  aJ i n (wA a λp=>St ((p.add (i.toNat*3)).add 0) (ae x) w λw=>St ((p.add (i.toNat*3)).add 1) (ae y) w λw=>St ((p.add (i.toNat*3)).add 2) (ae z) w λw=>
  aJ j n (wA a λp=>St ((p.add (j.toNat*3)).add 0) (ae x') w λw=>St ((p.add (j.toNat*3)).add 1) (ae y') w λw=>St ((p.add (j.toNat*3)).add 2) (ae z') w λw=>K w)))) s hj hq ?_
 refine RdS (K:=λx' y' z'=>aJ i n (wA a λp=>St ((p.add (i.toNat*3)).add 0) (ae d[q]!.c) w λw=>St ((p.add (i.toNat*3)).add 1) (ae d[q]!.s) w λw=>St ((p.add (i.toNat*3)).add 2) (ae d[q]!.k) w λw=>
  aJ j n (wA a λp=>St ((p.add (j.toNat*3)).add 0) (ae x') w λw=>St ((p.add (j.toNat*3)).add 1) (ae y') w λw=>St ((p.add (j.toNat*3)).add 2) (ae z') w λw=>K w))) s hi hp ?_
 refine WrS (K:=λw=>aJ j n (wA a λp_1=>St ((p_1.add (j.toNat*3)).add 0) (ae d[p]!.c) w λw=>St ((p_1.add (j.toNat*3)).add 1) (ae d[p]!.s) w λw=>St ((p_1.add (j.toNat*3)).add 2) (ae d[p]!.k) w λw=>K w)) s hi hp λw s=>?_;exact WrS s hj (by grind) h
end
end Go.Proofs.YtmegplnmiepfbaaGreatDoor.S
namespace Go.Proofs.YtmegplnmiepfbaaGreatDoor.S
open Go.Sx
open Go.Sort (swp insInner insOuter insertionSort siftDown heapBuild heapPop heapSort)
attribute [local irreducible] af cD bw bg aA cu bZ St Bx Al App cH cA cz bX aL bD aq bU av ak aW mapA
section
variable {F:Nat->Prop}{W w w0:World}{L:List As}{a:Option Addr}{n c:Nat}{d:Array bj}
def an1 {P1:Option Addr->Nat->Nat->Int->Int->Value->Int->World->Prop}{Q:World->Prop}{lo:Nat}{b:Int}{i:Nat}(hn:n<1000000)(hi:i<1000000)
  (h:∀d' w',d'.size=n->Sep F W w' (c9 a n c d'::L)->(d'=insInner cS lo i d)->P1 a n c lo b iM ((i+1:Nat):Int) w'):
  ∀(j:Nat) (d1:Array bj) (w:World),j<n->insInner cS lo j d1=insInner cS lo i d->Sep F W w (c9 a n c d1::L)->eN P1 Q (j+1) a n c lo b iM i j w:=by
 intro j;induction j with
 |zero=>
  intro d1 w hj he s;show fL P1 Q (eN P1 Q 0) _ _ _ _ _ _ _ _ _;rw[fL,bp,aG];exact h d1 _ (gj s) (ay s) he
 |succ j ih=>
  intro d1 w hj he s;have hsz:=gj s;show fL P1 Q (eN P1 Q (j+1)) _ _ _ _ _ _ _ _ _;unfold fL;rw[insInner]at he;by_cases hl:j+1>lo
  ·rw[bM (show((j+1:Nat):Int)>lo by omega),aG];rw[decide_eq_true hl,Bool.true_and]at he;refine Gy (q:=j) (ay s) rfl (by omega) (by omega) (by omega) λw s=>?_;show cond (cS d1[j+1]! d1[j]!) _ _;by_cases hc:cS d1[j+1]! d1[j]! =true
   ·rw[hc,cond_true];refine DN (q:=j) (ay s) rfl (by omega) (by omega) (by omega) λw s=>?_;grind
   ·rw[Bool.not_eq_true]at hc;rw[hc,cond_false,aG];grind
  ·rw[bp (show¬((j+1:Nat):Int)>lo by omega),aG];rw[decide_eq_false hl,Bool.false_and,if_neg (by decide)]at he;exact h d1 _ hsz (ay s) he
def an2 {Q:World->Prop}{lo b:Nat}(hn:n<1000000)(hb:b<=n)(h:∀w',Sep F W w' (c9 a n c (insertionSort cS d lo b)::L)->Q w'):
  ∀(j i:Nat) (d1:Array bj) (w:World),i+j=b+1\/b<i/\j=0->insOuter cS lo b i d1=insertionSort cS d lo b->Sep F W w (c9 a n c d1::L)->eO Q (j+1) a n c lo b iM i w:=by
 intro j;induction j with
 |zero=>
  intro i d1 w hi he s;show fN Q (eO Q 0) _ _ _ _ _ _ _ _;unfold fN;rw[insOuter,fQ]at he;grind
 |succ j ih=>
  intro i d1 w hi he s;show fN Q (eO Q (j+1)) _ _ _ _ _ _ _ _;unfold fN;rw[insOuter]at he;by_cases hib:i<b
  ·rw[bM];rw[if_pos hib]at he;refine⟨i+1,an1 hn (by omega) (λd' w' hs' s' e=>?_) i d1 w (by omega) rfl s⟩;subst e;exact ih (i+1) _ w' (by omega) he s'
  grind
def Hl {Q:World->Prop}{lo b:Nat}(s:Sep F W w (c9 a n c d::L))(hn:n<1000000)(hlo:lo<=b)(hb:b<=n)(h:∀w',Sep F W w' (c9 a n c (insertionSort cS d lo b)::L)->Q w'):
  jK a n c lo b iM w Q:=by
 apply zf;rw[aG];exact⟨b-lo+1,an2 hn hb h (b-lo) (lo+1) d w (by omega) rfl s⟩
def an3 {Q:World->Prop}{hi first:Nat}(hn:n<1000000)(hh:first+hi<=n){d0:Array bj}(h:∀w',Sep F W w' (c9 a n c d0::L)->Q w'):
  ∀(j root:Nat) (d1:Array bj) (w:World),hi<=root+j->root<n->siftDown cS hi first root d1=d0->Sep F W w (c9 a n c d1::L)->eS Q (j+1) a n c hi first iM root w:=by
 intro j;induction j with
 |zero=>
  intro root d1 w hj hr he s;show gO Q (eS Q 0) _ _ _ _ _ _ _ _;rw[gO,aG (n:=2*(root:Int)),aG,bM];rw[siftDown,dif_pos (by omega)]at he;grind
 |succ j ih=>
  intro root d1 w hj hr he s;have hsz:=gj s;show gO Q (eS Q (j+1)) _ _ _ _ _ _ _ _;rw[gO,aG (n:=2*(root:Int)),aG];rw[siftDown]at he;by_cases h1:2*root+1≥hi
  ·grind
  rw[bp,aG,aG,aG];rw[dif_neg h1]at he;have b5:∀(ch:Nat) (w:World),root<ch->ch<hi->Sep F W w (c9 a n c d1::L)->(if(!cS d1[first+root]! d1[first+ch]!)=true then d1 else siftDown cS hi first ch (swp d1 (first+root) (first+ch)))=d0->
    fF (eS Q (j+1)) Q a n c hi first iM root ch w:=λch w aBx hch s he=>by
   rw[fF,aG,aG];refine Gy (p:=first+root) (q:=first+ch) (ay s) (by omega) (by omega) (by omega) (by omega) λw s=>?_;show cond (!cS d1[first+root]! d1[first+ch]!) _ _;by_cases hc:cS d1[first+root]! d1[first+ch]! =true
   ·rw[hc,Bool.not_true,cond_false];refine DN (p:=first+root) (q:=first+ch) (ay s) (by omega) (by omega) (by omega) (by omega) λw s=>?_;grind
   grind
  have e1:(2*(root:Int)+1)=((2*root+1:Nat):Int):=by omega
  have e2:(2*(root:Int)+1+1)=((2*root+2:Nat):Int):=by omega
  rw[e2];by_cases h2:2*root+2<hi
  ·rw[bM (show((2*root+2:Nat):Int)<hi by omega)];refine Gy (p:=first+(2*root+1)) (q:=first+(2*root+1)+1) (ay s) (by omega) (by omega) (by omega) (by omega) λw s=>?_;show cond (cS d1[first+(2*root+1)]! d1[first+(2*root+1)+1]!) _ _;by_cases hc:cS d1[first+(2*root+1)]! d1[first+(2*root+1)+1]! =true
   ·rw[hc,cond_true];apply b5 (2*root+2) w (by omega) h2 s;grind
   ·rw[Bool.not_eq_true]at hc;rw[hc,cond_false,e1];rw[if_neg (by grind)]at he;exact b5 (2*root+1) w (by omega) (by omega) s he
  ·rw[bp (show¬((2*root+2:Nat):Int)<hi by omega),e1];rw[if_neg (by grind)]at he;exact b5 (2*root+1) _ (by omega) (by omega) (ay s) he
def Q1 {Q:World->Prop}{lo hi first:Nat}(s:Sep F W w (c9 a n c d::L))(hn:n<1000000)(hh:first+hi<=n)(hlo:lo<n)(h:∀w',Sep F W w' (c9 a n c (siftDown cS hi first lo d)::L)->Q w'):
  iZ a n c lo hi first iM w Q:=by
 apply BB;exact⟨hi+1,an3 hn hh h hi lo d w (by omega) hlo rfl s⟩
def aqk {Q:World->Prop}{first:Nat}(hn:n<1000000){d0:Array bj}(h:∀w',Sep F W w' (c9 a n c d0::L)->Q w'):
  ∀(k:Nat) (d1:Array bj) (w:World),first+k<=n->heapPop cS first k d1=d0->Sep F W w (c9 a n c d1::L)->fG Q (k+1) a n c iM first 0 ((k:Int)-1) w:=by
 intro k;induction k with
 |zero=>
  intro d1 w hk he s;show gP Q (fG Q 0) _ _ _ _ _ _ _ _;unfold gP;rw[heapPop]at he;grind
 |succ k ih=>
  intro d1 w hk he s;have hsz:=gj s;show gP Q (fG Q (k+1)) _ _ _ _ _ _ _ _;rw[gP,show((k+1:Nat):Int)-1=(k:Int) by omega,bM,aG,aG];rw[heapPop]at he;refine DN (p:=first) (q:=first+k) (ay s) (by omega) (by omega) (by omega) (by omega) λw s=>?_;refine Q1 (lo:=0) s hn (by omega) (by omega) λw s=>?_;grind
def alJ {Q:World->Prop}{first hi:Nat}(hn:n<1000000)(hh:first+hi<=n){d0:Array bj}(h:∀w',Sep F W w' (c9 a n c d0::L)->Q w'):
  ∀(k:Nat) (d1:Array bj) (w:World),k<=hi->heapPop cS first hi (heapBuild cS hi first k d1)=d0->Sep F W w (c9 a n c d1::L)->fH Q (k+1) a n c iM first 0 hi ((k:Int)-1) w:=by
 intro k;induction k with
 |zero=>
  intro d1 w hk he s;show gQ Q (fH Q 0) _ _ _ _ _ _ _ _ _;rw[gQ,bp,aG];exact⟨hi+1,aqk hn h hi d1 w hh he s⟩
 |succ k ih=>
  intro d1 w hk he s;show gQ Q (fH Q (k+1)) _ _ _ _ _ _ _ _ _;rw[gQ,show((k+1:Nat):Int)-1=(k:Int) by omega,bM,aG];rw[heapBuild]at he;refine Q1 s hn hh (by omega) λw s=>?_;grind
def ad1 {Q:World->Prop}{lo b:Nat}(s:Sep F W w (c9 a n c d::L))(hn:n<1000000)(hlo:lo<b)(hb:b<=n)(h:∀w',Sep F W w' (c9 a n c (heapSort cS d lo b)::L)->Q w'):
  lN a n c lo b iM w Q:=by
 apply BC;refine⟨by decide,?_⟩;rw[aG,aG (n:=(b:Int)-lo-1),Int.tdiv_eq_ediv_of_nonneg (by omega),aG,
  show(b:Int)-lo=((b-lo:Nat):Int) by omega]
 have:=alJ hn (by omega) h ((b-lo-1)/2+1) d w (by omega) rfl s;grind
end
end Go.Proofs.YtmegplnmiepfbaaGreatDoor.S
namespace Go.Proofs.YtmegplnmiepfbaaGreatDoor.S
open Go.Sx
open Go.Sort (swp scanUp scanDown partLoop partition partEqLoop partitionEqual)
attribute [local irreducible] af cD bw bg aA cu bZ St Bx Al App cH cA cz bX aL bD aq bU av ak aW mapA
section
variable {F:Nat->Prop}{W w w0:World}{L:List As}{a:Option Addr}{n c:Nat}{d:Array bj}
def oL {α:Type}(A B:α):(if false=true then A else B)=B:=rfl
def Wf {α:Type}(A B:α):(if true=true then A else B)=A:=rfl
def up_eq (p:bj->Bool)(d:Array bj)(j i:Nat):scanUp p d j i=if(decide (i<=j)&&p d[i]!)=true then scanUp p d j (i+1)else i:=by rw[scanUp]
def down_eq (p:bj->Bool)(d:Array bj)(i j:Nat)(hi:1<=i):scanDown p d i j=if(decide (i<=j)&&p d[j]!)=true then scanDown p d i (j-1)else j:=by
 cases j with
 |zero=>rw[scanDown,decide_eq_false (by omega),Bool.false_and,oL]
 |succ j=>rw[scanDown];rfl
def an4 {Q:Int->Bool->World->Prop}{lo:Nat}(hn:n<1000000){R:Nat×Array bj}(h:∀w',R.1<n->Sep F W w' (c9 a n c (swp R.2 R.1 lo)::L)->Q R.1 false w'):
  ∀(f i j:Nat) (d:Array bj) (w:World),j+1<=i+f->lo<i->lo<=j->j<n->i<=n->partLoop cS lo i j d=R->Sep F W w (c9 a n c d::L)->dg Q (f+1) a n c lo iM i j w:=by
 intro f;induction f with
 |zero=>
  intro i j d w hf hlo hj0 hj hi hR s;have hsz:=gj s;rw[Go.Sort.partLoop_eq]at hR;rw[up_eq,decide_eq_false (by omega),Bool.false_and,oL,down_eq _ _ _ _ (by omega),decide_eq_false (by omega),Bool.false_and,oL,AE]at hR;subst hR;show gw Q (dg Q 0) _ _ _ _ _ _ _ _;rw[gw,bp];refine⟨1,?_⟩;show eo _ Q (c_ _ Q 0) _ _ _ _ _ _ _ _;rw[eo,bp];rw[fe,bM];exact DN (ay (ay (ay s))) rfl (by omega) rfl (by omega) λw s=>h w hj s
 |succ f ih=>
  intro i j d w hf hlo hj0 hj hi hR s;have hsz:=gj s;show gw Q (dg Q (f+1)) _ _ _ _ _ _ _ _;unfold gw;rw[Go.Sort.partLoop_eq]at hR;have down:∀(k j':Nat) (w:World),j'=lo+k->j'<=j->Sep F W w (c9 a n c d::L)->
    (if i>scanDown (λx=>!cS x d[lo]!) d i j' then(scanDown (λx=>!cS x d[lo]!) d i j',d)else partLoop cS lo (i+1) (scanDown (λx=>!cS x d[lo]!) d i j'-1) (swp d i (scanDown (λx=>!cS x d[lo]!) d i j')))=R->
    c_ (dg Q (f+1)) Q (k+1) a n c lo iM i j' w:=by
   have YB:∀(j':Nat) (w:World),lo<=j'->j'<=j->Sep F W w (c9 a n c d::L)->(if i>j' then(j',d)else partLoop cS lo (i+1) (j'-1) (swp d i j'))=R->
     fe (dg Q (f+1)) Q a n c lo iM i j' w:=λj' w h1 h2 s hR=>by
    unfold fe;by_cases hij:i>j'
    ·rw[if_pos hij]at hR;subst hR;rw[bM];exact DN (ay s) rfl (by omega) rfl (by omega) λw s=>h w (show j'<n by omega) s
    ·rw[if_neg hij]at hR;rw[bp,aG,aG];refine DN (ay s) rfl (by omega) rfl (by omega) λw s=>?_;rw[show(i:Int)+1=((i+1:Nat):Int) by omega,show(j':Int)-1=((j'-1:Nat):Int) by omega];exact ih (i+1) (j'-1) _ w (by omega) (by omega) (by omega) (by omega) (by omega) hR s
   intro k;induction k with
   |zero=>
    intro j' w hk hj' s hR;rw[down_eq _ _ _ _ (by omega),decide_eq_false (by omega),Bool.false_and,oL]at hR;show eo _ Q (c_ _ Q 0) _ _ _ _ _ _ _ _;rw[eo,bp];exact YB j' _ (by omega) hj' (ay s) hR
   |succ k ih2=>
    intro j' w hk hj' s hR;rw[down_eq _ _ _ _ (by omega)]at hR;show eo _ Q (c_ _ Q (k+1)) _ _ _ _ _ _ _ _;unfold eo;by_cases hij:i<=j'
    ·rw[bM];refine Gy (ay s) rfl (by omega) rfl (by omega) λw s=>?_;show cond (!cS d[j']! d[lo]!) _ _;rw[decide_eq_true hij,Bool.true_and]at hR;cases hc:cS d[j']! d[lo]! with
     |false=>
      rw[Bool.not_false,cond_true,aG,show(j':Int)-1=((j'-1:Nat):Int) by omega];grind
     |true=>
      grind
    ·rw[bp];rw[decide_eq_false hij,Bool.false_and,oL]at hR;exact YB j' _ (by omega) hj' (ay s) hR
  by_cases hij:i<=j
  ·rw[bM];refine Gy (ay s) rfl (by omega) rfl (by omega) λw s=>?_;show cond (cS d[i]! d[lo]!) _ _;cases hc:cS d[i]! d[lo]! with
   |true=>
    rw[cond_true,aG];rw[up_eq,hc,decide_eq_true hij,Bool.true_and,Wf,<-Go.Sort.partLoop_eq]at hR;exact ih (i+1) j d w (by omega) (by omega) hj0 hj (by omega) hR s
   |false=>
    rw[up_eq,hc,Bool.and_false,oL]at hR;exact⟨j-lo+1,down (j-lo) j w (by omega) (Nat.le_refl _) s hR⟩
  ·rw[bp];rw[up_eq,decide_eq_false hij,Bool.false_and,oL]at hR;exact⟨j-lo+1,down (j-lo) j _ (by omega) (Nat.le_refl _) (ay s) hR⟩
def abS {Q:Int->Bool->World->Prop}{lo b pv:Nat}(s:Sep F W w (c9 a n c d::L))(hn:n<1000000)(hlo:lo<=pv/\pv<b)(hb:b<=n)
  (h:∀w',Sep F W w' (c9 a n c (partition cS d lo b pv).2.2::L)->Q (partition cS d lo b pv).1 (partition cS d lo b pv).2.1 w'):
  lq a n c lo b pv iM w Q:=by
 apply A5;have hsz:=gj s;refine DN (ay s) rfl (by omega) rfl (by omega) λw s=>?_;rw[aG,aG];unfold partition at h;simp only at h;generalize swp d lo pv=d1 at h s;have hsz:=gj s;have b7:∀(i j':Nat) (w:World),lo<i->i<=b->lo<=j'->j'<b->scanUp (λx=>cS x d1[lo]!) d1 (b-1) (lo+1)=i->scanDown (λx=>!cS x d1[lo]!) d1 i (b-1)=j'->Sep F W w (c9 a n c d1::L)->
   gD Q a n c lo iM i j' w:=λi j' w h1 h1' h2 h3 hI hJ s=>by
  rw[hI,hJ]at h;unfold gD;by_cases hij:i>j'
  ·rw[bM];rw[if_pos hij]at h;exact DN (ay s) rfl (by omega) rfl (by omega) λw s=>h w s
  ·rw[bp,aG,aG];rw[if_neg hij]at h;refine DN (ay s) rfl (by omega) rfl (by omega) λw s=>?_;rw[show(i:Int)+1=((i+1:Nat):Int) by omega,show(j':Int)-1=((j'-1:Nat):Int) by omega];exact⟨j'+1,an4 hn (λw' _ s=>h w' s) j' (i+1) (j'-1) _ w (by omega) (by omega) (by omega) (by omega) (by omega) rfl s⟩
 have b5:∀(i:Nat),lo<i->i<=b->scanUp (λx=>cS x d1[lo]!) d1 (b-1) (lo+1)=i->∀(k j':Nat) (w:World),j'=lo+k->j'<b->scanDown (λx=>!cS x d1[lo]!) d1 i (b-1)=scanDown (λx=>!cS x d1[lo]!) d1 i j'->Sep F W w (c9 a n c d1::L)->
   dG Q (k+1) a n c lo iM i j' w:=λi h1 h1' hI k=>by
  induction k with
  |zero=>
   intro j' w hk hj' hJ s;rw[down_eq _ _ _ j' (by omega),decide_eq_false (by omega),Bool.false_and,oL]at hJ;show gE Q (dG Q 0) _ _ _ _ _ _ _ _;rw[gE,bp];exact b7 i j' _ h1 h1' (by omega) hj' hI hJ (ay s)
  |succ k ih2=>
   intro j' w hk hj' hJ s;rw[down_eq _ _ _ j' (by omega)]at hJ;show gE Q (dG Q (k+1)) _ _ _ _ _ _ _ _;unfold gE;by_cases hij:i<=j'
   ·rw[bM];refine Gy (ay s) rfl (by omega) rfl (by omega) λw s=>?_;show cond (!cS d1[j']! d1[lo]!) _ _;rw[decide_eq_true hij,Bool.true_and]at hJ;cases hc:cS d1[j']! d1[lo]! with
    |false=>
     rw[Bool.not_false,cond_true,aG,show(j':Int)-1=((j'-1:Nat):Int) by omega];grind
    |true=>
     grind
   ·rw[bp];rw[decide_eq_false hij,Bool.false_and,oL]at hJ;exact b7 i j' _ h1 h1' (by omega) hj' hI hJ (ay s)
 have b3:∀(k i:Nat) (w:World),i+k=b->lo<i->scanUp (λx=>cS x d1[lo]!) d1 (b-1) (lo+1)=scanUp (λx=>cS x d1[lo]!) d1 (b-1) i->Sep F W w (c9 a n c d1::L)->
   fm Q (k+1) a n c lo iM i ((b-1:Nat):Int) w:=λk=>by
  have go5:∀(i:Nat) (w:World),lo<i->i<=b->scanUp (λx=>cS x d1[lo]!) d1 (b-1) (lo+1)=i->Sep F W w (c9 a n c d1::L)->∃k',dG Q k' a n c lo iM i ((b-1:Nat):Int) w:=
   λi w h1 h2 hI s=>⟨b-1-lo+1,b5 i h1 h2 hI (b-1-lo) (b-1) w (by omega) (by omega) rfl s⟩
  induction k with
  |zero=>
   intro i w hk hi hI s;rw[up_eq _ _ _ i,decide_eq_false (by omega),Bool.false_and,oL]at hI;show gF Q (fm Q 0) _ _ _ _ _ _ _ _;rw[gF,bp];exact go5 i _ hi (by omega) hI (ay s)
  |succ k ih2=>
   intro i w hk hi hI s;rw[up_eq _ _ _ i]at hI;show gF Q (fm Q (k+1)) _ _ _ _ _ _ _ _;rw[gF,bM];refine Gy (ay s) rfl (by omega) rfl (by omega) λw s=>?_;show cond (cS d1[i]! d1[lo]!) _ _;rw[decide_eq_true (show i<=b-1 by omega),Bool.true_and]at hI;cases hc:cS d1[i]! d1[lo]! with
   |true=>
    rw[hc,Wf]at hI;rw[cond_true,aG];exact ih2 (i+1) w (by omega) (by omega) hI s
   |false=>
    grind
 have:=b3 (b-(lo+1)) (lo+1) w (by omega) (by omega) rfl s;grind
def aj1 {Q:Int->World->Prop}{lo:Nat}(hn:n<1000000){R:Nat×Array bj}(h:∀w',R.1<=n->Sep F W w' (c9 a n c R.2::L)->Q R.1 w'):
  ∀(f i j:Nat) (d:Array bj) (w:World),j+1<=i+f->lo<i->lo<=j->j<n->i<=n->partEqLoop cS lo i j d=R->Sep F W w (c9 a n c d::L)->cO Q (f+1) a n c lo iM i j w:=by
 intro f;induction f with
 |zero=>
  intro i j d w hf hlo hj0 hj hi hR s;have hsz:=gj s;rw[Go.Sort.partEqLoop_eq]at hR;rw[up_eq,decide_eq_false (by omega),Bool.false_and,oL,down_eq _ _ _ _ (by omega),decide_eq_false (by omega),Bool.false_and,oL,AE]at hR;subst hR;show fE Q (cO Q 0) _ _ _ _ _ _ _ _;rw[fE,bp];refine⟨1,?_⟩;show dz _ Q (cN _ Q 0) _ _ _ _ _ _ _ _;rw[dz,bp];rw[eF,bM];exact h _ hi (ay (ay s))
 |succ f ih=>
  intro i j d w hf hlo hj0 hj hi hR s;have hsz:=gj s;show fE Q (cO Q (f+1)) _ _ _ _ _ _ _ _;unfold fE;rw[Go.Sort.partEqLoop_eq]at hR;have down:∀(k j':Nat) (w:World),j'=lo+k->j'<=j->Sep F W w (c9 a n c d::L)->
    (if i>scanDown (λx=>cS d[lo]! x) d i j' then(i,d)else partEqLoop cS lo (i+1) (scanDown (λx=>cS d[lo]! x) d i j'-1) (swp d i (scanDown (λx=>cS d[lo]! x) d i j')))=R->
    cN (cO Q (f+1)) Q (k+1) a n c lo iM i j' w:=by
   have b7:∀(j':Nat) (w:World),lo<=j'->j'<=j->Sep F W w (c9 a n c d::L)->(if i>j' then(i,d)else partEqLoop cS lo (i+1) (j'-1) (swp d i j'))=R->
     eF (cO Q (f+1)) Q a n c lo iM i j' w:=λj' w h1 h2 s hR=>by
    unfold eF;by_cases hij:i>j'
    ·grind
    ·rw[if_neg hij]at hR;rw[bp,aG,aG];refine DN (ay s) rfl (by omega) rfl (by omega) λw s=>?_;rw[show(i:Int)+1=((i+1:Nat):Int) by omega,show(j':Int)-1=((j'-1:Nat):Int) by omega];exact ih (i+1) (j'-1) _ w (by omega) (by omega) (by omega) (by omega) (by omega) hR s
   intro k;induction k with
   |zero=>
    intro j' w hk hj' s hR;rw[down_eq _ _ _ _ (by omega),decide_eq_false (by omega),Bool.false_and,oL]at hR;show dz _ Q (cN _ Q 0) _ _ _ _ _ _ _ _;rw[dz,bp];exact b7 j' _ (by omega) hj' (ay s) hR
   |succ k ih2=>
    intro j' w hk hj' s hR;rw[down_eq _ _ _ _ (by omega)]at hR;show dz _ Q (cN _ Q (k+1)) _ _ _ _ _ _ _ _;unfold dz;by_cases hij:i<=j'
    ·rw[bM];refine Gy (ay s) rfl (by omega) rfl (by omega) λw s=>?_;show cond (cS d[lo]! d[j']!) _ _;rw[decide_eq_true hij,Bool.true_and]at hR;cases hc:cS d[lo]! d[j']! with
     |true=>
      rw[cond_true,aG,show(j':Int)-1=((j'-1:Nat):Int) by omega];grind
     |false=>
      grind
    ·rw[bp];rw[decide_eq_false hij,Bool.false_and,oL]at hR;exact b7 j' _ (by omega) hj' (ay s) hR
  by_cases hij:i<=j
  ·rw[bM];refine Gy (ay s) rfl (by omega) rfl (by omega) λw s=>?_;show cond (!cS d[lo]! d[i]!) _ _;cases hc:cS d[lo]! d[i]! with
   |false=>
    rw[Bool.not_false,cond_true,aG];rw[up_eq,hc,decide_eq_true hij,Bool.true_and,Bool.not_false,Wf,<-Go.Sort.partEqLoop_eq]at hR;exact ih (i+1) j d w (by omega) (by omega) hj0 hj (by omega) hR s
   |true=>
    rw[up_eq,hc,Bool.not_true,Bool.and_false,oL]at hR;exact⟨j-lo+1,down (j-lo) j w (by omega) (Nat.le_refl _) s hR⟩
  ·rw[bp];rw[up_eq,decide_eq_false hij,Bool.false_and,oL]at hR;exact⟨j-lo+1,down (j-lo) j _ (by omega) (Nat.le_refl _) (ay s) hR⟩
def SO {Q:Int->World->Prop}{lo b pv:Nat}(s:Sep F W w (c9 a n c d::L))(hn:n<1000000)(hlo:lo<=pv/\pv<b)(hb:b<=n)
  (h:∀w',Sep F W w' (c9 a n c (partitionEqual cS d lo b pv).2::L)->Q (partitionEqual cS d lo b pv).1 w'):
  jD a n c lo b pv iM w Q:=by
 apply yh;have hsz:=gj s;refine DN (ay s) rfl (by omega) rfl (by omega) λw s=>?_;rw[aG,aG,show(b:Int)-1=((b-1:Nat):Int) by omega];exact⟨b+1,aj1 hn (λw' _ s=>h w' s) b (lo+1) (b-1) _ w (by omega) (by omega) (by omega) (by omega) (by omega) rfl s⟩
end
end Go.Proofs.YtmegplnmiepfbaaGreatDoor.S
namespace Go.Proofs.YtmegplnmiepfbaaGreatDoor.S
open Go.Sx
open Go.Sort (swp scanSorted shiftDown shiftUp partialIns partialInsertionSort PermIn)
attribute [local irreducible] af cD bw bg aA cu bZ St Bx Al App cH cA cz bX aL bD aq bU av ak aW mapA
section
variable {F:Nat->Prop}{W w w0:World}{L:List As}{a:Option Addr}{n c:Nat}{d:Array bj}
def aql {Q:Bool->World->Prop}{lo b:Nat}(hn:n<1000000)(hb:b<=n)(hlo:lo<b){R:Array bj×Bool}(h:∀w',Sep F W w' (c9 a n c R.1::L)->Q R.2 w'):
  ∀(f i:Nat) (d:Array bj) (w:World),f<=5->lo<i->i<=b->partialIns cS lo b f i d=R->Sep F W w (c9 a n c d::L)->bu Q (f+1) a n c lo b iM i (5-f:Int) w:=by
 intro f;induction f with
 |zero=>
  intro i d w hf hi hib hR s;rw[partialIns]at hR;subst hR;show eL Q (bu Q 0) _ _ _ _ _ _ _ _ _;unfold eL;grind
 |succ f ih=>
  intro i d w hf hi hib hR s;show eL Q (bu Q (f+1)) _ _ _ _ _ _ _ _ _;rw[eL,bM];have next:∀(i:Nat) (d:Array bj) (w:World),lo<i->i<=b->partialIns cS lo b f i d=R->Sep F W w (c9 a n c d::L)->bu Q (f+1) a n c lo b iM i (IntKind.wrap .i64 ((5-(f+1:Nat):Int)+1)) w:=λi d w h1 h2 h3 s=>by rw[aG,show(5-(f+1:Nat):Int)+1=5-f by omega];grind
  have up:∀(i:Nat) (d':Array bj),lo<i->i<=b->partialIns cS lo b f i d'=R->∀(k j:Nat) (d:Array bj) (w:World),j+k=b->lo<j->shiftUp cS b j d=d'->Sep F W w (c9 a n c d::L)->
    cZ (bu Q (f+1)) Q (k+1) a n c lo b iM i (5-(f+1:Nat):Int) j w:=by
   intro i d' h1 h2 h3 k;induction k with
   |zero=>
    intro j d w hj hj0 hS s;rw[shiftUp,fQ]at hS;subst hS;show eB _ Q (cZ _ Q 0) _ _ _ _ _ _ _ _ _ _;unfold eB;grind
   |succ k ih2=>
    intro j d w hj hj0 hS s;have hsz:=gj s;rw[shiftUp,AE]at hS;show eB _ Q (cZ _ Q (k+1)) _ _ _ _ _ _ _ _ _ _;rw[eB,bM,aG];refine Gy (q:=j-1) (ay s) rfl (by omega) (by omega) (by omega) λw s=>?_;show cond (!cS d[j]! d[j-1]!) _ _;cases hc:cS d[j]! d[j-1]! with
    |false=>
     grind
    |true=>
     rw[hc,Bool.not_true,oL]at hS;rw[Bool.not_true,cond_false,aG];refine DN (q:=j-1) (ay s) rfl (by omega) (by omega) (by omega) λw s=>?_;exact ih2 (j+1) _ w (by omega) (by omega) hS s
  have b18:∀(i:Nat) (d:Array bj) (w:World),lo<i->i<b->partialIns cS lo b f i (if b-i≥2 then shiftUp cS b (i+1) d else d)=R->Sep F W w (c9 a n c d::L)->
    c7 (bu Q (f+1)) Q a n c lo b iM i (5-(f+1:Nat):Int) w:=λi d w h1 h2 h3 s=>by
   rw[c7,aG];by_cases h4:b-i≥2
   ·rw[if_pos h4]at h3;rw[bM,aG];exact⟨_,up i _ h1 (by omega) h3 (b-(i+1)) (i+1) d w (by omega) (by omega) rfl s⟩
   ·rw[if_neg h4]at h3;rw[bp];exact next i d _ h1 (by omega) h3 s
  have down:∀(i:Nat) (d':Array bj),lo<i->i<b->partialIns cS lo b f i (if b-i≥2 then shiftUp cS b (i+1) d' else d')=R->∀(j:Nat) (d:Array bj) (w:World),j<b->shiftDown cS j d=d'->Sep F W w (c9 a n c d::L)->
    c8 (bu Q (f+1)) Q (j+1) a n c lo b iM i (5-(f+1:Nat):Int) j w:=by
   intro i d' h1 h2 h3 j;induction j with
   |zero=>
    intro d w hj hS s;subst hS;show eC _ Q (c8 _ Q 0) _ _ _ _ _ _ _ _ _ _;unfold eC;exact b18 i d _ h1 h2 h3 s
   |succ j ih2=>
    intro d w hj hS s;have hsz:=gj s;rw[shiftDown]at hS;show eC _ Q (c8 _ Q (j+1)) _ _ _ _ _ _ _ _ _ _;rw[eC,bM,aG];refine Gy (q:=j) (ay s) rfl (by omega) (by omega) (by omega) λw s=>?_;show cond (!cS d[j+1]! d[j]!) _ _;cases hc:cS d[j+1]! d[j]! with
    |false=>
     rw[hc,Bool.not_false,Wf]at hS;subst hS;exact b18 i d w h1 h2 h3 s
    |true=>
     rw[hc,Bool.not_true,oL]at hS;rw[Bool.not_true,cond_false,show((j+1:Nat):Int)-1=(j:Int) by omega];refine DN (q:=j) (ay s) rfl (by omega) (by omega) (by omega) λw s=>?_;exact ih2 _ w (by omega) hS s
  have scan:∀(k i:Nat) (w:World),i+k=b->lo<i->Sep F W w (c9 a n c d::L)->(if scanSorted cS d b i=b then(d,true)else if b-lo<50 then(d,false)else
     partialIns cS lo b f (scanSorted cS d b i) (if b-scanSorted cS d b i≥2 then shiftUp cS b (scanSorted cS d b i+1) (if scanSorted cS d b i-lo≥2 then shiftDown cS (scanSorted cS d b i-1) (swp d (scanSorted cS d b i) (scanSorted cS d b i-1))else swp d (scanSorted cS d b i) (scanSorted cS d b i-1))
      else(if scanSorted cS d b i-lo≥2 then shiftDown cS (scanSorted cS d b i-1) (swp d (scanSorted cS d b i) (scanSorted cS d b i-1))else swp d (scanSorted cS d b i) (scanSorted cS d b i-1))))=R->
    dw (bu Q (f+1)) Q (k+1) a n c lo b iM i (5-(f+1:Nat):Int) w:=by
   have b7:∀(i:Nat) (w:World),lo<i->i<=b->Sep F W w (c9 a n c d::L)->(if i=b then(d,true)else if b-lo<50 then(d,false)else
     partialIns cS lo b f i (if b-i≥2 then shiftUp cS b (i+1) (if i-lo≥2 then shiftDown cS (i-1) (swp d i (i-1))else swp d i (i-1))else(if i-lo≥2 then shiftDown cS (i-1) (swp d i (i-1))else swp d i (i-1))))=R->
     eJ (bu Q (f+1)) Q a n c lo b iM i (5-(f+1:Nat):Int) w:=λi w h1 h2 s hR=>by
    have hsz:=gj s;unfold eJ;by_cases h3:i=b
    ·rw[if_pos h3]at hR;subst hR;rw[cV (by omega),cond_true];exact h _ s
    ·rw[if_neg h3]at hR;rw[cy (by omega),cond_false,aG];by_cases h4:b-lo<50
     ·rw[if_pos h4]at hR;subst hR;rw[bM];exact h _ s
     ·rw[if_neg h4]at hR;rw[bp,aG,aG];refine DN (q:=i-1) (ay s) rfl (by omega) (by omega) (by omega) λw s=>?_;by_cases h5:i-lo≥2
      ·rw[if_pos h5]at hR;rw[bM,show(i:Int)-1=((i-1:Nat):Int) by omega];exact⟨_,down i _ h1 (by omega) hR (i-1) _ w (by omega) rfl s⟩
      ·rw[if_neg h5]at hR;rw[bp];exact b18 i _ w h1 (by omega) hR s
   intro k;induction k with
   |zero=>
    intro i w hk hi s hR;rw[scanSorted,decide_eq_false (by omega),Bool.false_and,oL]at hR;show eK _ Q (dw _ Q 0) _ _ _ _ _ _ _ _ _;rw[eK,bp];exact b7 i _ hi (by omega) (ay s) hR
   |succ k ih2=>
    intro i w hk hi s hR;have hsz:=gj s;rw[scanSorted,decide_eq_true (by omega),Bool.true_and]at hR;show eK _ Q (dw _ Q (k+1)) _ _ _ _ _ _ _ _ _;rw[eK,bM,aG];refine Gy (q:=i-1) (ay s) rfl (by omega) (by omega) (by omega) λw s=>?_;show cond (!cS d[i]! d[i-1]!) _ _;cases hc:cS d[i]! d[i-1]! with
    |false=>
     rw[hc,Bool.not_false,Wf]at hR;rw[Bool.not_false,cond_true,aG];exact ih2 (i+1) w (by omega) (by omega) s hR
    |true=>
     rw[hc,Bool.not_true,oL]at hR;exact b7 i w hi (by omega) s hR
  exact⟨_,scan (b-i) i w (by omega) hi s hR⟩
def Z4 {Q:Bool->World->Prop}{lo b:Nat}(s:Sep F W w (c9 a n c d::L))(hn:n<1000000)(hlo:lo<b)(hb:b<=n)(h:∀w',Sep F W w' (c9 a n c (partialInsertionSort cS d lo b).1::L)->Q (partialInsertionSort cS d lo b).2 w'):
  iB a n c lo b iM w Q:=by
 apply uL;rw[aG];exact⟨_,aql hn hb hlo h 5 (lo+1) d w (by decide) (by omega) (by omega) rfl s⟩
def akI {lo b i j:Nat}{d d':Array bj}(h:PermIn lo b d d')(hb:b<=d'.size)(hi:lo<=i/\i<b)(hj:lo<=j/\j<b):PermIn lo b d (swp d' i j):=
 Go.Sort.permIn_trans _ _ _ _ _ h (Go.Sort.swp_permIn _ _ _ _ _ hi.1 hi.2 hj.1 hj.2 hb)
def agC {Q:World->Prop}{lo b:Nat}(s:Sep F W w (c9 a n c d::L))(hn:n<1000000)(hlo:lo<b)(hb:b<=n)(h:∀d' w',PermIn lo b d d'->Sep F W w' (c9 a n c d'::L)->Q w'):
  jZ a n c lo b iM w Q:=by
 apply zI;rw[aG];have loop:∀(k i j:Nat) (d':Array bj) (w:World),j<=i+k->lo<=i->j<b->i<=b->PermIn lo b d d'->Sep F W w (c9 a n c d'::L)->eV Q (k+1) a n c i j w:=by
  intro k;induction k with
  |zero=>
   intro i j d' w hk hi hj hib hp s;show fT Q (eV Q 0) _ _ _ _ _ _;unfold fT;grind
  |succ k ih=>
   intro i j d' w hk hi hj hib hp s;have hsz:=gj s;show fT Q (eV Q (k+1)) _ _ _ _ _ _;unfold fT;by_cases hij:i<j
   ·rw[bM,aG,aG];refine DN (ay s) rfl (by omega) rfl (by omega) λw s=>?_;rw[show(j:Int)-1=((j-1:Nat):Int) by omega];exact ih (i+1) (j-1) _ w (by omega) (by omega) (by omega) (by omega) (akI hp (by omega) (by omega) (by omega)) s
   grind
 have:=loop b lo (b-1) d w (by omega) (Nat.le_refl _) (by omega) (by omega) (Go.Sort.permIn_refl _ _ _) s;grind
def LP {Q:Int->Int->World->Prop}{i j sp:Nat}{k:Int}{t:TypeId}(s:Sep F W w (c9 a n c d::av sp t [ae k]::L))(hi:i<n)(hj:j<n)
  (h:∀(x y:Nat) k' w',(x=i/\y=j\/x=j/\y=i)->Sep F W w' (c9 a n c d::av sp t [ae k']::L)->Q x y w'):gN a n c i j (sZ sp) iM w Q:=by
 apply CT;have hsz:=gj s;refine Gy (ay s) rfl (by omega) rfl (by omega) λw s=>?_;cases hc:decide (aid d[j]! d[i]! <0)with
 |true=>
  rw[cond_true];refine ah (lI s 1 rfl (ah ?_));refine sT s 1 rfl λw s=>?_;grind
 |false=>
  grind
def Wg {Q:Int->World->Prop}{i j l sp:Nat}{k:Int}{t:TypeId}(s:Sep F W w (c9 a n c d::av sp t [ae k]::L))(hi:i<n)(hj:j<n)(hl:l<n)
  (h:∀(x:Nat) k' w',(x=i\/x=j\/x=l)->Sep F W w' (c9 a n c d::av sp t [ae k']::L)->Q x w'):jx a n c i j l (sZ sp) iM w Q:=by
 apply CU;refine LP s hi hj λx y k w e s=>?_;refine LP s (show y<n by omega) hl λx' y' k w e' s=>?_;refine LP s (show x<n by omega) (show x'<n by omega) λx2 y2 k w e2 s=>?_;grind
def Gz {Q:Int->World->Prop}{i sp:Nat}{k:Int}{t:TypeId}(s:Sep F W w (c9 a n c d::av sp t [ae k]::L))(hn:n<1000000)(hi:1<=i/\i+1<n)
  (h:∀(x:Nat) k' w',(i<=x+1/\x<=i+1)->Sep F W w' (c9 a n c d::av sp t [ae k']::L)->Q x w'):fg a n c i (sZ sp) iM w Q:=by
 apply yg;rw[aG,aG,show(i:Int)-1=((i-1:Nat):Int) by omega,show(i:Int)+1=((i+1:Nat):Int) by omega];exact Wg s (by omega) (by omega) (by omega) λx k w e s=>h x k w (by omega) s
def Yc {Q:Int->Int->World->Prop}{lo b:Nat}(s:Sep F W w (c9 a n c d::L))(hn:n<1000000)(hlo:lo<b)(hb:b<=n)
  (h:∀(x:Nat) (hint:Int) w',lo<=x/\x<b->Sep F W w' (c9 a n c d::L)->Q x hint w'):kF a n c lo b iM w Q:=by
 apply Ah;refine aT s λsp w s=>⟨by decide,by decide,by decide,?_⟩;have s:=i_ s;have b12:∀(x:Nat) (k:Int) (w:World),lo<=x/\x<b->Sep F W w (c9 a n c d::av sp 3 [ae k]::L)->iD Q (aZ sp) x w:=λx k w hx s=>by apply lI s 1 rfl;have s':Sep F W w (c9 a n c d::L):=gB s (List.Sublist.cons_cons _ (List.sublist_cons_self _ _));grind
 have b11:∀(i j l:Nat) (k:Int) (w:World),lo<=i/\i<b->lo<=j/\j<b->lo<=l/\l<b->Sep F W w (c9 a n c d::av sp 3 [ae k]::L)->iE Q a n c iM (aZ sp) i j l w:=λi j l k w hi hj hl s=>by exact Wg s (by omega) (by omega) (by omega) λx k w e s=>b12 x k w (by omega) s
 rw[aG,Int.tdiv_eq_ediv_of_nonneg (by omega),aG (n:=((b:Int)-lo)/4),
  aG (n:=((b:Int)-lo)/4*1),aG (n:=((b:Int)-lo)/4*2),aG (n:=((b:Int)-lo)/4*3),
  aG,aG,aG]
 have e1:(lo:Int)+((b:Int)-lo)/4*1=((lo+(b-lo)/4*1:Nat):Int):=by omega
 have e2:(lo:Int)+((b:Int)-lo)/4*2=((lo+(b-lo)/4*2:Nat):Int):=by omega
 have e3:(lo:Int)+((b:Int)-lo)/4*3=((lo+(b-lo)/4*3:Nat):Int):=by omega
 rw[e1,e2,e3];by_cases h8:b-lo≥8
 ·rw[bM (show(b:Int)-lo≥8 by omega)];by_cases h50:b-lo≥50
  ·rw[bM (show(b:Int)-lo≥50 by omega)];refine Gz s hn (by omega) λx k w e s=>?_;refine Gz s hn (by omega) λy k w e' s=>?_;refine Gz s hn (by omega) λz k w e2 s=>?_;grind
  ·rw[bp (show¬(b:Int)-lo≥50 by omega)];exact b11 _ _ _ _ w (by omega) (by omega) (by omega) s
 ·rw[bp (show¬(b:Int)-lo≥8 by omega)];exact b12 _ _ w (by omega) s
end
end Go.Proofs.YtmegplnmiepfbaaGreatDoor.S
namespace Go.Proofs.YtmegplnmiepfbaaGreatDoor.S
open Go.Sx
open Go.Sort (swp PermIn SortedIn Below)
attribute [local irreducible] af cD bw bg aA cu bZ St Bx Al App cH cA cz bX aL bD aq bU av ak aW mapA
section
variable {F:Nat->Prop}{W w w0:World}{L:List As}{a:Option Addr}{n c:Nat}{d:Array bj}
def alL (T:ByteArray):Bool:=(List.range 256).all λx=>decide (0<=sb T x/\sb T x<=8/\(x:Int)<2^(sb T x).toNat/\(1<=x->(2:Int)^(sb T x).toNat<=2*x))
def axW:∃T:ByteArray,T.size=256/\alL T=true/\∀Q x k w,uj Q x k w=(aJ (IntKind.wrap .u8 x) T.size<|Q (IntKind.wrap .i64 (k+IntKind.wrap .i64 (sb T (IntKind.wrap .u8 x).toNat))) w):=by
 refine⟨_,?_,?_,λ_ _ _ _=>rfl⟩
 ·kernel_rfl
 ·kernel_rfl
def akJ {T:ByteArray}(h2:alL T=true){x:Nat}(hx:x<256):0<=sb T x/\sb T x<=8/\(x:Int)<2^(sb T x).toNat/\(1<=x->(2:Int)^(sb T x).toNat<=2*x):=by unfold alL at h2;grind
def Q2 {x:Nat}{Q:Int->World->Prop}(hx:x<65536)(h:∀v:Nat,v<=16->(x:Int)<2^v->(8<=x->(2:Int)^v<=2*x)->Q v w):vC x w Q:=by
 apply Ur;apply Qg;unfold vJ vH;rw[bp,bp];obtain⟨T,h1,h2,h3⟩:=axW;by_cases hs:x<256
 ·rw[bp,h3,h1,wrap_u8' x,Int.emod_eq_of_lt (by omega) (by omega)];refine⟨by omega,by omega,?_⟩;obtain⟨a1,a2,a3,a4⟩:=akJ h2 hs;rw[Int.toNat_natCast,aG (n:=sb T x),aG,Int.zero_add];grind
 ·rw[bM];refine⟨by decide,?_⟩;have e:oW .u64 (x:Int) 8=((x/256:Nat):Int):=by rw[oW,show(2:Int)^(min (8:Int).toNat (IntKind.u64).bits)=256 from rfl,Int.fdiv_eq_ediv_of_nonneg _ (by decide)];omega
  rw[e,wrap_i64 (by decide) (by decide),h3,h1,wrap_u8' ((x/256:Nat):Int),Int.emod_eq_of_lt (by omega) (by omega)];refine⟨by omega,by omega,?_⟩;obtain⟨a1,a2,a3,a4⟩:=akJ h2 (x:=x/256) (by omega);rw[Int.toNat_natCast,aG (n:=sb T (x/256)),aG];have e2:(2:Int)^(8+(sb T (x/256)).toNat)=256*2^(sb T (x/256)).toNat:=by grind
  grind
def auz {x m:Int}(hm:0<=m/\m<1000000):0<=BG .u64 x m/\BG .u64 x m<=m:=by
 unfold BG;have h1:(BitVec.ofInt 64 x&&&BitVec.ofInt 64 m).toNat<=m.toNat:=by apply Nat.le_trans Nat.and_le_right;grind
 have h1:(BitVec.ofInt (IntKind.u64).bits x&&&BitVec.ofInt (IntKind.u64).bits m).toNat<=m.toNat:=h1;rw[ke (by omega)];omega
def ad2 {Q:Int->World->Prop}{sp:Nat}{k:Int}{t:TypeId}(s:Sep F W w (c9 a n c d::av sp t [.int .u64 k]::L))
  (h:∀r k' w',Sep F W w' (c9 a n c d::av sp t [.int .u64 k']::L)->Q r w'):sO (sZ sp) w Q:=by
 apply JE;refine ah (lI s 1 rfl (ah (lI s 1 rfl ⟨by decide,ah ?_⟩)));refine sT s 1 rfl λw s=>?_;refine ah (lI s 1 rfl (ah (lI s 1 rfl ⟨by decide,ah ?_⟩)));refine sT s 1 rfl λw s=>?_;refine ah (lI s 1 rfl (ah (lI s 1 rfl ⟨by decide,ah ?_⟩)));refine sT s 1 rfl λw s=>?_;refine ah (lI s 1 rfl ?_);grind
def ais {Q:World->Prop}{lo b:Nat}(s:Sep F W w (c9 a n c d::L))(hn:n<2000)(hlo:lo<b)(hb:b<=n)(h:∀d' w',PermIn lo b d d'->Sep F W w' (c9 a n c d'::L)->Q w'):
  jL a n c lo b iM w Q:=by
 apply zg;rw[aG];by_cases h8:b-lo≥8
 ·rw[bM (show(b:Int)-lo≥8 by omega)];refine aT s λsp w s=>?_;refine ax s (i:=0) rfl rfl rfl λw s=>?_;have s:=i_ s;apply IY;rw[ke (by omega),show(b:Int)-lo=((b-lo:Nat):Int) by omega];refine Q2 (by omega) λv hv h1 h2=>⟨by omega,by decide,?_⟩;have h2:=h2 h8;have hsh:BH .u64 1 (v:Int)=(2:Int)^v:=by rw[BH,Int.toNat_natCast,Int.one_mul,show min v (IntKind.u64).bits=v by simp[IntKind.bits];omega];exact ke (by omega)
  rw[hsh];generalize (2:Int)^v=M at h1 h2;rw[Int.tdiv_eq_ediv_of_nonneg (by omega),aG (n:=((b-lo:Nat):Int)/4),aG (n:=((b-lo:Nat):Int)/4*2),aG (n:=(lo:Int)+((b-lo:Nat):Int)/4*2),
   aG]
  have loop:∀(k idx:Nat) (d':Array bj) (r:Int) (t:TypeId) (w:World),idx+k=lo+(b-lo)/4*2+2->lo<=idx->PermIn lo b d d'->Sep F W w (c9 a n c d'::av sp t [.int .u64 r]::L)->
    dJ Q (k+1) a n c lo ((b-lo:Nat):Int) (aZ sp) M idx w:=by
   intro k;induction k with
   |zero=>
    intro idx d' r t w hk hi hp s;show kG Q (dJ Q 0) _ _ _ _ _ _ _ _ _;refine⟨by decide,?_⟩;rw[Int.tdiv_eq_ediv_of_nonneg (by omega),aG (n:=((b-lo:Nat):Int)/4),aG (n:=((b-lo:Nat):Int)/4*2),aG (n:=(lo:Int)+((b-lo:Nat):Int)/4*2),
     aG,bp]
    exact h d' w hp (gB s (List.Sublist.cons_cons _ (List.sublist_cons_self _ _)))
   |succ k ih=>
    intro idx d' r t w hk hi hp s;show kG Q (dJ Q (k+1)) _ _ _ _ _ _ _ _ _;refine⟨by decide,?_⟩;rw[Int.tdiv_eq_ediv_of_nonneg (by omega),aG (n:=((b-lo:Nat):Int)/4),aG (n:=((b-lo:Nat):Int)/4*2),aG (n:=(lo:Int)+((b-lo:Nat):Int)/4*2),
     aG,bM]
    refine ad2 s λrr r w s=>?_;have hsz:=gj s;have b10:∀(o:Nat) (w:World),o<b-lo->Sep F W w (c9 a n c d'::av sp t [.int .u64 r]::L)->fB (dJ Q (k+1)) Q a n c lo ((b-lo:Nat):Int) (aZ sp) M idx o w:=λo w ho s=>by rw[fB,aG,aG];refine DN (q:=lo+o) (ay s) rfl (by omega) (by omega) (by omega) λw s=>?_;exact ih (idx+1) _ r t w (by omega) (by omega) (akI hp (by omega) (by omega) (by omega)) s
    rw[ke (by omega)];have ha:=auz (x:=rr) (m:=M-1) (by omega);generalize BG .u64 rr (M-1)=q at ha;rw[aG];by_cases hq:q≥((b-lo:Nat):Int)
    ·rw[bM hq,aG];have:=b10 (q-((b-lo:Nat):Int)).toNat w (by omega) s;grind
    ·have:=b10 q.toNat w (by omega) s;grind
  have:=loop 3 (lo+(b-lo)/4*2-1) d _ _ w (by omega) (by omega) (Go.Sort.permIn_refl _ _ _) s;grind
 ·rw[bp (show¬(b:Int)-lo≥8 by omega)];exact h d w (Go.Sort.permIn_refl _ _ _) s
end
end Go.Proofs.YtmegplnmiepfbaaGreatDoor.S
namespace Go.Proofs.YtmegplnmiepfbaaGreatDoor.S
open Go.Sx
def auA (P:Program)(t:TypeId)(xs ys:Array Value):Option Bool:=match P.underlying t with
 |some (.struct fs)=>ahq P xs ys fs.toList
 |_=>none
def an8 {P:Program}{t:TypeId}{xs ys:Array Value}{x y:Operand}{r:Bool}{w:World}{K:Bool->World->Prop}(hp:P.stoodInHeld t=false)(hg:P.eqGuardType P.depth t=false)(hr:auA P t xs ys=some r)(h:K r w):bX P .eql t x y (.agg xs) (.agg ys) w K:=by
 unfold auA at hr;split at hr
 ·rename_i fs hu;exact at7 hu hp hg hr h
 ·cases hr
def eq3 {a b c a' b' c':Int}:(a==a'&&(b==b'&&(c==c'&&true)))=decide (a=a'/\b=b'/\c=c'):=by grind
def as2 {a b:bj}:(a.c=b.c/\a.s=b.s/\a.k=b.k)↔a=b:=by obtain⟨a1,a2,a3⟩:=a;obtain⟨b1,b2,b3⟩:=b;simp
attribute [local irreducible] bX
def an9 {w:World}{x y:Operand}{a b:bj}{K:Bool->World->Prop}(h:K (decide (a=b)) w):bX P .eql 294 x y (.agg #[ae a.c,ae a.s,ae a.k]) (.agg #[ae b.c,ae b.s,ae b.k]) w K:=by apply an8 (r:=a.c==b.c&&(a.s==b.s&&(a.k==b.k&&true))) (by kernel_rfl) (by kernel_rfl) (by kernel_rfl);rw[eq3];simp[as2];exact h
def auB {w:World}{x y:Operand}{a b:bj}{K:Bool->World->Prop}(h:K (!decide (a=b)) w):bX P .neq 294 x y (.agg #[ae a.c,ae a.s,ae a.k]) (.agg #[ae b.c,ae b.s,ae b.k]) w K:=
 aks (by kernel_rfl) (an9 h)
end Go.Proofs.YtmegplnmiepfbaaGreatDoor.S
