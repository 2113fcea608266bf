/- Part 3 of the proof. -/
import Derived.Test.YtmegplnmiepfbaaGreatDoorM1
import Derived.Sort.LotA
import Derived.Sort.LotB
import Derived.Sort.LotC
import Derived.Sort.LotD3
set_option linter.unusedVariables false
set_option linter.unusedSimpArgs false
set_option linter.defProp false
set_option maxRecDepth 100000
namespace Go.Proofs.YtmegplnmiepfbaaGreatDoor.S
open Go.Sx
noncomputable def WI:cu:=[(6,sp 0 10 (.op 10 (.op 11 (.op 12 .done))))]
def UB:=λa b c w Q=>bB (Bc a b c w Q) (wc a w λd e w=>
dH d e c w λf w=>
uU a b f w λg i j l m n o w=>
Al T 213 w λp w=>
St (p.add 0) (.slice g i j) w λw=>
St (p.add 1) (.slice l m n) w λw=>
A2 o λq=>
cond (!q)
(dV o λr=>
Q 0 0 r w)
(mW d e c w λs w=>
aC p w.drew λt u v=>
aH s u<|
wA t λx=>
af .i64 (x.add (s.toNat*1)) w.drew λy=>
aC (p.add 1) w.drew λz a1 b1=>
aH s a1<|
wA z λc1=>
af .i64 (c1.add (s.toNat*1)) w.drew λd1=>
w.drew.cell? (c1.add (s.toNat*1))=some (ae d1)/\
w.drew.cell? (p.add 1)=some (.slice z a1 b1)/\
Q y d1 (.nilIface) w.drew)) (ok 45) WI [] Tryz.func129
def OV:=λa w Q=>bB (x_ a w Q) (A2 a λb=>
cond b
(Q 0 w)
(bX (aZ 2) w λc=>
oR a c w λd w=>
cond d
(Q 4 w)
(bX (aZ 3) w λe=>
oR a e w λf w=>
cond f
(Q 7 w)
(Q 1 w)))) (ok 14) [] [] Tryz.func130
def UC:=λa b c w Q=>bB (Bb a b c w Q) (Bc a b c w λd e f w=>
x_ f w λg w=>
Q d e g w) (ok 22) [] [] Tryz.func92
def LA:=λa b c d w Q=>bB (vB a b c d w Q) (wA a λe=>
bg (e.add 1) w λf=>
Bb f c d w λg i j w=>
cond (j==0)
(wA b λl=>
St (l.add 1) (ae g) w λw=>
wA b λm=>
St (m.add 2) (ae i) w λw=>
fW j w λn w=>
dV n λo=>
Q o w)
(fW j w λp w=>
dV p λq=>
Q q w)) (ok 35) [] [] Tryz.func57
def qq (Q:L3 WP)(R5:OA->L3 (L3 (Int->Int->WP)))(a b:OA)(c d:Nat)(e:OA)(f g:Nat)(i j:Int)(w:World):Prop:=cond (decide (j<i)) (aH j f<|wA e λl=>af .i64 (l.add (j.toNat*1)) w λm=>wA a λn=>cf (n.add 2) w λo=>aI P (Instr.lookup 169 (.map o) (ae m) false) w λp w=>dL p λq=>c_ q λr s=>dI .i64 r λt=>c_ s λu v=>dI .i64 u λx=>c_ v λy z=>dI .i64 y λa1=>j7 z<|Bx [ae t,ae x,ae a1] 43 w λb1 w=>App P #[39,39] 39 (.slice b c d) (.slice (some b1) 1 1) w λc1 d1 e1 w=>R5 a c1 d1 e1 e f g i (IntKind.wrap .i64 (j+1)) w) (Q b c d w)
def u_ (Q:L3 WP):Nat->OA->L3 (L3 (Int->Int->WP))
 |0,_,_,_,_,_,_,_,_,_,_=>False
 |k+1,a,b,c,d,e,f,g,i,j,w=>qq Q (u_ Q k) a b c d e f g i j w
def Tj (Q):∀k,Bk 26 Tryz.f64 (Gd Q) 5 [(0,.p),(3,.l),(9,.l),(10,.i .i64),(11,.i .i64)] (u_ Q k):=bK λk h=>aW (ok 26) [] [aN h]
def OW:=λa w Q=>bB (xY a w Q) (cond a.isNone
(Q none 0 0 w)
(p8 a w λb c d w=>
∃k',u_ Q k' a none 0 0 b c d (c:Int) 0 w)) (ok 26) [] [ck (Tj Q)] Tryz.func64
def LB:=λa w Q=>bB (mQ a w Q) (cond a.isNone
(Q none 0 0 w)
(wA a λb=>
bg (b.add 3) w λc=>
xY c w λd e f w=>
Q d e f w)) (ok 10) [] [] Tryz.func33
def By (Q:Bool->WP)(R6:Int->Int->Int->ON->L3 (Int->Int->WP))(a b c:Int)(d:ON)(e:OA)(f g:Nat)(i j:Int)(w:World):Prop:=cond (decide (j<i)) (aH j f<|wA e λl=>af .i64 ((l.add (j.toNat*3)).add 0) w λm=>af .i64 ((l.add (j.toNat*3)).add 1) w λn=>af .i64 ((l.add (j.toNat*3)).add 2) w λo=>Al T 43 w λp w=>St (p.add 0) (ae m) w λw=>St (p.add 1) (ae n) w λw=>St (p.add 2) (ae o) w λw=>af .i64 p w λq=>cond (decide (q<=c)) (Q false w) (af .i64 (p.add 1) w λr=>dH a b r w λs w=>cond (decide (s<0)) (Q false w) (af .i64 (p.add 2) w λt=>dH a b t w λu w=>cond (decide (u<0)) (Q false w) (af .i64 (p.add 1) w λv=>aI P (Instr.lookup 258 (.map d) (ae v) false) w λx w=>dB x λy=>cond y (Q false w) (af .i64 (p.add 1) w.drew λz=>af .i64 p w.drew λa1=>w.drew.cell? (p.add 1)=some (ae z)/\bw P (Instr.mapUpdate 258 (.map d) (ae z) (.bool true)) w.drew λw=>R6 a b a1 d e f g i (IntKind.wrap .i64 (j+1)) w))))) (Q true w)
def Fl (Q:Bool->WP):Nat->Int->Int->Int->ON->L3 (Int->Int->WP)
 |0,_,_,_,_,_,_,_,_,_,_=>False
 |k+1,a,b,c,d,e,f,g,i,j,w=>By Q (Fl Q k) a b c d e f g i j w
noncomputable def RX:cu:=[(10,sp 0 5 (.op 5 (.op 6 .done)))]
def agc (Q):∀k,Bk 56 Tryz.f151 (T1 Q) 6 [(0,.i .i64),(1,.i .i64),(7,.i .i64),(8,.m),(18,.l),(19,.i .i64),(20,.i .i64)] (Fl Q k):=bK λk h=>aW (ok 56) RX [aN h]
def abV:=λa b c d e w Q=>bB (B1 a b c d e w Q) (kW a b w λf w=>
cond (!f)
(Q false w)
(cm P 258 (some (ae (d:Int))) w λg w=>
∃k',Fl Q k' a b (-1) g c d e (d:Int) 0 w)) (ok 56) RX [ck (agc Q)] Tryz.func151
def yD (Q:L3 WP)(R4:L3 (ON->L3 (Int->Int->WP)))(a:OA)(b c:Nat)(d:ON)(e:OA)(f g:Nat)(i j:Int)(w:World):Prop:=cond (decide (j<i)) (aH j f<|wA e λl=>af .i64 ((l.add (j.toNat*3)).add 0) w λm=>af .i64 ((l.add (j.toNat*3)).add 1) w λn=>af .i64 ((l.add (j.toNat*3)).add 2) w λo=>Al T 43 w λp w=>St (p.add 0) (ae m) w λw=>St (p.add 1) (ae n) w λw=>St (p.add 2) (ae o) w λw=>af .i64 (p.add 2) w λq=>aI P (Instr.lookup 258 (.map d) (ae q) false) w λr w=>dB r λs=>cond (!s) (af .i64 (p.add 2) w λt=>bw P (Instr.mapUpdate 258 (.map d) (ae t) (.bool true)) w λw=>af .i64 (p.add 2) w λu=>Bx [ae u] 3 w λv w=>App P #[29,29] 29 (.slice a b c) (.slice (some v) 1 1) w λx y z w=>R4 x y z d e f g i (IntKind.wrap .i64 (j+1)) w) (R4 a b c d e f g i (IntKind.wrap .i64 (j+1)) w)) (Q a b c w)
def Cj (Q:L3 WP):Nat->L3 (ON->L3 (Int->Int->WP))
 |0,_,_,_,_,_,_,_,_,_,_=>False
 |k+1,a,b,c,d,e,f,g,i,j,w=>yD Q (Cj Q k) a b c d e f g i j w
def abW (Q):∀k,Bk 29 Tryz.f152 (N6 Q) 4 [(3,.l),(4,.m),(8,.l),(9,.i .i64),(10,.i .i64)] (Cj Q k):=bK λk h=>aW (ok 29) [] [aN h]
def Yi:=λa b c w Q=>bB (DQ a b c w Q) (cm P 258 none w λd w=>
∃k',Cj Q k' none 0 0 d a b c (b:Int) 0 w) (ok 29) [] [ck (abW Q)] Tryz.func152
def o9 (P6:Int->Int->L3 (ON->ON->L3 (Int->Int->WP)))(Q:L3 WP)(a b:Int)(c:OA)(d e:Nat)(f g:ON)(i:Addr)(j:Int)(l:OA)(m n:Nat)(o p:Int)(w:World):Prop:=af .i64 (i.add 2) w λq=>aI P (Instr.lookup 252 (.map f) (ae q) false) w λr w=>dS r λs t u=>aH j t<|wA s λv=>aC ((v.add (j.toNat*3)).add 2) w.drew λx y z=>af .i64 i w.drew λa1=>Bx [ae a1] 3 w.drew λb1 w=>w.cell? ((v.add (j.toNat*3)).add 2)=some (.slice x y z)/\App P #[29,29] 29 (.slice x y z) (.slice (some b1) 1 1) w λc1 d1 e1 w=>St ((v.add (j.toNat*3)).add 2) (.slice c1 d1 e1) w λw=>P6 a b c d e f g l m n o (IntKind.wrap .i64 (p+1)) w
def wF (Q:L3 WP)(R20:ON->L3 (L3 (Int->Int->WP)))(a:ON)(b:OA)(c d:Nat)(e:OA)(f g:Nat)(i j:Int)(w:World):Prop:=cond (decide (j<i)) (aH j f<|wA e λl=>af .i64 (l.add (j.toNat*1)) w λm=>aI P (Instr.lookup 252 (.map a) (ae m) false) w λn w=>dS n λo p q=>App P #[208,208] 208 (.slice b c d) (.slice o p q) w λr s t w=>R20 a r s t e f g i (IntKind.wrap .i64 (j+1)) w) (Q b c d w)
def AI (Q:L3 WP):Nat->ON->L3 (L3 (Int->Int->WP))
 |0,_,_,_,_,_,_,_,_,_,_=>False
 |k+1,a,b,c,d,e,f,g,i,j,w=>wF Q (AI Q k) a b c d e f g i j w
def yE (Q:L3 WP)(R6:Int->Int->L3 (ON->ON->L3 (Int->Int->WP)))(a b:Int)(c:OA)(d e:Nat)(f g:ON)(i:OA)(j l:Nat)(m n:Int)(w:World):Prop:=cond (decide (n<m)) (aH n j<|wA i λo=>af .i64 ((o.add (n.toNat*3)).add 0) w λp=>af .i64 ((o.add (n.toNat*3)).add 1) w λq=>af .i64 ((o.add (n.toNat*3)).add 2) w λr=>Al T 43 w λs w=>St (s.add 0) (ae p) w λw=>St (s.add 1) (ae q) w λw=>St (s.add 2) (ae r) w λw=>af .i64 (s.add 1) w λt=>dH a b t w λu w=>af .i64 (s.add 2) w λv=>Al T 253 w λx w=>St (x.add 0) (ae v) w λw=>St (x.add 1) (ae u) w λw=>af .i64 (x.add 0) w λy=>af .i64 (x.add 1) w λz=>aI P (Instr.lookup 180 (.map g) (.agg #[ae y,ae z]) true) w λa1 w=>dT a1 λb1=>c_ b1 λc1 d1=>dI .i64 c1 λe1=>c_ d1 λf1 g1=>dB f1 λi1=>j7 g1<|cond (!i1) (af .i64 (s.add 2) w λj1=>aI P (Instr.lookup 252 (.map f) (ae j1) false) w λl1 w=>dS l1 λm1 n1 o1=>af .i64 (x.add 0) w λp1=>af .i64 (x.add 1) w λq1=>bw P (Instr.mapUpdate 180 (.map g) (.agg #[ae p1,ae q1]) (ae (n1:Int))) w λw=>af .i64 (s.add 2) w.drew λr1=>af .i64 (s.add 2) w.drew λs1=>af .i64 (s.add 2) w.drew λt1=>(aI P (Instr.lookup 252 (.map f) (ae s1) false) w.drew λu1 w=>dS u1 λv1 x1 y1=>w.cell? (s.add 2)=some (ae t1)/\w.cell? (s.add 2)=some (ae r1)/\Bx [ae t1,ae u,.slice none 0 0] 211 w λz1 w=>w.cell? (s.add 2)=some (ae s1)/\w.cell? (s.add 2)=some (ae r1)/\App P #[208,208] 208 (.slice v1 x1 y1) (.slice (some z1) 1 1) w λa2 b2 c2 w=>w.cell? (s.add 2)=some (ae r1)/\bw P (Instr.mapUpdate 252 (.map f) (ae r1) (.slice a2 b2 c2)) w λw=>o9 R6 Q a b c d e f g s (n1:Int) i j l m n w)/\(Bx [ae t1,ae u,.slice none 0 0] 211 w.drew λd2 w=>w.cell? (s.add 2)=some (ae s1)/\w.cell? (s.add 2)=some (ae r1)/\aI P (Instr.lookup 252 (.map f) (ae s1) false) w λe2 w=>dS e2 λf2 g2 i2=>w.cell? (s.add 2)=some (ae t1)/\w.cell? (s.add 2)=some (ae r1)/\App P #[208,208] 208 (.slice f2 g2 i2) (.slice (some d2) 1 1) w λj2 l2 m2 w=>w.cell? (s.add 2)=some (ae r1)/\bw P (Instr.mapUpdate 252 (.map f) (ae r1) (.slice j2 l2 m2)) w λw=>o9 R6 Q a b c d e f g s (n1:Int) i j l m n w)) (o9 R6 Q a b c d e f g s e1 i j l m n w)) (DQ c d e w λn2 o2 p2 w=>∃k',AI Q k' f none 0 0 n2 o2 p2 (o2:Int) 0 w)
def yF (Q:L3 WP):Nat->Int->Int->L3 (ON->ON->L3 (Int->Int->WP))
 |0,_,_,_,_,_,_,_,_,_,_,_,_,_=>False
 |k+1,a,b,c,d,e,f,g,i,j,l,m,n,w=>yE Q (yF Q k) a b c d e f g i j l m n w
noncomputable def AJ:cu:=[(14,sp 0 6 (sp 7 4 (.br (.op 6 (.op 11 (.op 12 (.op 13 .done)))) (.op 11 (.op 6 (.op 12 (.op 13 .done))))))),(16,sp 0 7 (.op 7 (.op 8 (sp 9 2 (.op 11 .done)))))]
def ZX {P6}(Q)(H6:Bk 102 Tryz.f133 (ya Q) 6 [(0,.i .i64),(1,.i .i64),(2,.l),(7,.m),(8,.m),(26,.l),(27,.i .i64),(28,.i .i64)] P6):Bk 102 Tryz.f133 (ya Q) 15 [(0,.i .i64),(1,.i .i64),(2,.l),(7,.m),(8,.m),(10,.a),(13,.i .i64),(26,.l),(27,.i .i64),(28,.i .i64)] (o9 P6 Q):=aW (ok 102) AJ [aN H6]
def ZY (Q):∀k,Bk 102 Tryz.f133 (ya Q) 20 [(7,.m),(16,.l),(89,.l),(90,.i .i64),(91,.i .i64)] (AI Q k):=bK λk h=>aW (ok 102) AJ [aN h]
def abX (Q):∀k,Bk 102 Tryz.f133 (ya Q) 6 [(0,.i .i64),(1,.i .i64),(2,.l),(7,.m),(8,.m),(26,.l),(27,.i .i64),(28,.i .i64)] (yF Q k):=bK λk h=>aW (ok 102) AJ [aN (ZX Q h),ck (ZY Q)]
def Yj:=λa b c d e w Q=>bB (DO a b c d e w Q) (B1 a b c d e w λf w=>
cond (!f)
(Q none 0 0 w)
(cm P 252 none w λg w=>
cm P 180 none w λi w=>
∃k',yF Q k' a b c d e g i c d e (d:Int) 0 w)) (ok 102) AJ [ck (abX Q)] Tryz.func133
noncomputable def UD:cu:=[(2,sp 0 2 (.op 2 (.op 3 (.op 4 .done))))]
def Tk:=λa b c w Q=>bB (uT a b c w Q) (Al T 213 w λd w=>
uU a b c w λe f g i j l m w=>
Al T 213 w λn w=>
St (n.add 0) (.slice e f g) w λw=>
St (n.add 1) (.slice i j l) w λw=>
aC (n.add 0) w.drew λo p q=>
aC (n.add 1) w.drew λr s t=>
x_ m w.drew λu w=>
w.cell? (n.add 0)=some (.slice o p q)/\
w.cell? (n.add 1)=some (.slice r s t)/\
St (d.add 0) (.slice o p q) w λw=>
St (d.add 1) (.slice r s t) w λw=>
aC (d.add 0) w λv x y=>
aC (d.add 1) w λz a1 b1=>
Q v x y z a1 b1 u w) (ok 20) UD [] Tryz.func134
def oo (uz:OA->L3 (ON->ON->L3 (Int->Int->WP)))(Q:L3 (Value->WP))(ZO:OA->L3 (ON->ON->Addr->L3 (Int->Int->L3 (Int->Int->WP))))(a b:OA)(c d:Nat)(e f:ON)(g:Addr)(i:OA)(j l:Nat)(m n:Int)(o:OA)(p q:Nat)(r s:Int)(w:World):Prop:=cond (decide (s<r)) (aH s p<|wA o λt=>af .i64 (t.add (s.toNat*1)) w λu=>aC (g.add 1) w λv x y=>aI P (Instr.lookup 207 (.map e) (ae u) false) w λz w=>dI .i64 z λa1=>aH a1 x<|wA v λb1=>af .i64 (b1.add (a1.toNat*1)) w λc1=>bw P (Instr.mapUpdate 207 (.map f) (ae u) (ae c1)) w λw=>ZO a b c d e f g i j l m n o p q r (IntKind.wrap .i64 (s+1)) w) (uz a b c d e f i j l m (IntKind.wrap .i64 (n+1)) w)
def rR (uz:OA->L3 (ON->ON->L3 (Int->Int->WP)))(Q:L3 (Value->WP)):Nat->OA->L3 (ON->ON->Addr->L3 (Int->Int->L3 (Int->Int->WP)))
 |0,_,_,_,_,_,_,_,_,_,_,_,_,_,_,_,_,_,_=>False
 |k+1,a,b,c,d,e,f,g,i,j,l,m,n,o,p,q,r,s,w=>oo uz Q (rR uz Q k) a b c d e f g i j l m n o p q r s w
def oq (uz:OA->L3 (ON->ON->L3 (Int->Int->WP)))(Q:L3 (Value->WP))(a b:OA)(c d:Nat)(e f:ON)(g i:Addr)(j:Int)(l:OA)(m n:Nat)(o p:Int)(w:World):Prop:=cond (j !=0) (Q none 0 0 (.iface 108 (ae j)) w) (aC (g.add 2) w λq r s=>∃k',rR uz Q k' a b c d e f i l m n o p q r s (r:Int) 0 w)
def ot (Q:L3 (Value->WP))(R23:ON->L3 (L3 (Int->Int->WP)))(a:ON)(b:OA)(c d:Nat)(e:OA)(f g:Nat)(i j:Int)(w:World):Prop:=cond (decide (j<i)) (aH j f<|wA e λl=>af .i64 ((l.add (j.toNat*3)).add 0) w λm=>af .i64 ((l.add (j.toNat*3)).add 1) w λn=>af .i64 ((l.add (j.toNat*3)).add 2) w λo=>Al T 43 w λp w=>St (p.add 0) (ae m) w λw=>St (p.add 1) (ae n) w λw=>St (p.add 2) (ae o) w λw=>af .i64 p w λq=>aI P (Instr.lookup 207 (.map a) (ae q) false) w λr w=>dI .i64 r λs=>Bx [ae s] 3 w λt w=>App P #[29,29] 29 (.slice b c d) (.slice (some t) 1 1) w λu v x w=>R23 a u v x e f g i (IntKind.wrap .i64 (j+1)) w) (Q b c d (.nilIface) w)
def rS (Q:L3 (Value->WP)):Nat->ON->L3 (L3 (Int->Int->WP))
 |0,_,_,_,_,_,_,_,_,_,_=>False
 |k+1,a,b,c,d,e,f,g,i,j,w=>ot Q (rS Q k) a b c d e f g i j w
def ou (Q:L3 (Value->WP))(R10:OA->L3 (ON->ON->L3 (Int->Int->WP)))(a b:OA)(c d:Nat)(e f:ON)(g:OA)(i j:Nat)(l m:Int)(w:World):Prop:=cond (decide (m<l)) (aH m i<|wA g λn=>af .i64 ((n.add (m.toNat*3)).add 0) w λo=>af .i64 ((n.add (m.toNat*3)).add 1) w λp=>aC ((n.add (m.toNat*3)).add 2) w λq r s=>Al T 211 w λt w=>St (t.add 0) (ae o) w λw=>St (t.add 1) (ae p) w λw=>St (t.add 2) (.slice q r s) w λw=>wA a λu=>bg (u.add 1) w.drew λv=>af .i64 t w.drew λx=>af .i64 (t.add 1) w.drew λy=>(uT v x y w.drew λz a1 b1 c1 d1 e1 f1 w=>Al T 213 w λg1 w=>w.cell? (t.add 1)=some (ae y)/\w.cell? t=some (ae x)/\w.cell? (u.add 1)=some (.pointer v)/\St (g1.add 0) (.slice z a1 b1) w λw=>St (g1.add 1) (.slice c1 d1 e1) w λw=>oq R10 Q a b c d e f t g1 f1 g i j l m w)/\(Al T 213 w.drew λi1 w=>w.cell? (t.add 1)=some (ae y)/\w.cell? t=some (ae x)/\w.cell? (u.add 1)=some (.pointer v)/\uT v x y w λj1 l1 m1 n1 o1 p1 q1 w=>St (i1.add 0) (.slice j1 l1 m1) w λw=>St (i1.add 1) (.slice n1 o1 p1) w λw=>oq R10 Q a b c d e f t i1 q1 g i j l m w)) (∃k',rS Q k' f none 0 0 b c d (c:Int) 0 w)
def ow (Q:L3 (Value->WP)):Nat->OA->L3 (ON->ON->L3 (Int->Int->WP))
 |0,_,_,_,_,_,_,_,_,_,_,_,_=>False
 |k+1,a,b,c,d,e,f,g,i,j,l,m,w=>ou Q (ow Q k) a b c d e f g i j l m w
def o_ (Q:L3 (Value->WP))(R4:OA->L3 (Int->Int->ON->L3 (Int->Int->WP)))(a b:OA)(c d:Nat)(e f:Int)(g:ON)(i:OA)(j l:Nat)(m n:Int)(w:World):Prop:=cond (decide (n<m)) (aH n j<|wA i λo=>af .i64 ((o.add (n.toNat*3)).add 0) w λp=>af .i64 ((o.add (n.toNat*3)).add 1) w λq=>af .i64 ((o.add (n.toNat*3)).add 2) w λr=>Al T 43 w λs w=>St (s.add 0) (ae p) w λw=>St (s.add 1) (ae q) w λw=>St (s.add 2) (ae r) w λw=>af .i64 s w.drew λt=>af .i64 (s.add 1) w.drew λu=>mW e f u w.drew λv w=>w.cell? s=some (ae t)/\bw P (Instr.mapUpdate 207 (.map g) (ae t) (ae v)) w λw=>R4 a b c d e f g i j l m (IntKind.wrap .i64 (n+1)) w) (cm P 207 none w λx w=>DO e f b c d w λy z a1 w=>∃k',ow Q k' a b c d g x y z a1 (z:Int) 0 w)
def tP (Q:L3 (Value->WP)):Nat->OA->L3 (Int->Int->ON->L3 (Int->Int->WP))
 |0,_,_,_,_,_,_,_,_,_,_,_,_,_=>False
 |k+1,a,b,c,d,e,f,g,i,j,l,m,n,w=>o_ Q (tP Q k) a b c d e f g i j l m n w
noncomputable def lF:cu:=[(6,sp 0 7 (.op 7 (.op 8 .done))),(12,sp 0 8 (.br (.op 8 (sp 9 3 (.op 12 (.op 13 (.op 14 .done))))) (.op 12 (.op 8 (sp 9 3 (.op 13 (.op 14 .done)))))))]
def OX {uz}(Q)(H10:Bk 104 Tryz.f93 (iY Q) 10 [(0,.p),(1,.l),(8,.m),(11,.m),(49,.l),(50,.i .i64),(51,.i .i64)] uz):∀k,Bk 104 Tryz.f93 (iY Q) 16 [(0,.p),(1,.l),(8,.m),(11,.m),(14,.a),(49,.l),(50,.i .i64),(51,.i .i64),(72,.l),(73,.i .i64),(74,.i .i64)] (rR uz Q k):=bK λk h=>aW (ok 104) lF [aN H10,aN h]
def OY {uz}(Q)(H10:Bk 104 Tryz.f93 (iY Q) 10 [(0,.p),(1,.l),(8,.m),(11,.m),(49,.l),(50,.i .i64),(51,.i .i64)] uz):Bk 104 Tryz.f93 (iY Q) 13 [(0,.p),(1,.l),(8,.m),(11,.m),(13,.a),(14,.a),(15,.i .i64),(49,.l),(50,.i .i64),(51,.i .i64)] (oq uz Q):=aW (ok 104) lF [ck (OX Q H10)]
def OZ (Q):∀k,Bk 104 Tryz.f93 (iY Q) 23 [(11,.m),(18,.l),(89,.l),(90,.i .i64),(91,.i .i64)] (rS Q k):=bK λk h=>aW (ok 104) lF [aN h]
def O0 (Q):∀k,Bk 104 Tryz.f93 (iY Q) 10 [(0,.p),(1,.l),(8,.m),(11,.m),(49,.l),(50,.i .i64),(51,.i .i64)] (ow Q k):=bK λk h=>aW (ok 104) lF [aN (OY Q h),ck (OZ Q)]
def QU (Q):∀k,Bk 104 Tryz.f93 (iY Q) 4 [(0,.p),(1,.l),(6,.i .i64),(7,.i .i64),(8,.m),(30,.l),(31,.i .i64),(32,.i .i64)] (tP Q k):=bK λk h=>aW (ok 104) lF [aN h,ck (O0 Q)]
def Ni:=λa b c d w Q=>bB (wZ a b c d w Q) (wA a λe=>
bg (e.add 1) w λf=>
wc f w λg i w=>
cm P 207 none w λj w=>
∃k',tP Q k' a b c d g i j b c d (c:Int) 0 w) (ok 104) lF [ck (QU Q)] Tryz.func93
def Yk:=λa w Q=>bB (JQ a w Q) (cond (decide (a<0))
(Q true w)
(Q (decide (a>5)) w)) (ok 9) [] [] Tryz.func153
def jB (Q:Int->WP)(R2:L3 (Value->Int->Int->WP))(a:OA)(b c:Nat)(d:Value)(e f:Int)(w:World):Prop:=cond (decide (f<e)) (aH f b<|wA a λg=>af .i64 (g.add (f.toNat*1)) w λi=>gX (cx 19) d [ae i] w λj w=>dB j λl=>cond l (Q f w) (R2 a b c d e (IntKind.wrap .i64 (f+1)) w)) (Q (-1) w)
def jC (Q:Int->WP):Nat->L3 (Value->Int->Int->WP)
 |0,_,_,_,_,_,_,_=>False
 |k+1,a,b,c,d,e,f,w=>jB Q (jC Q k) a b c d e f w
def GV (Q):∀k,Bk 19 Tryz.f166 (yd Q) 2 [(0,.l),(1,.v),(7,.i .i64),(8,.i .i64)] (jC Q k):=bK λk h=>aW (ok 19) [] [aN h]
def Fm:=λa b c d w Q=>bB (wj a b c d w Q) (∃k',jC Q k' a b c d (b:Int) 0 w) (ok 19) [] [ck (GV Q)] Tryz.func166
def Di:=λa b c d w Q=>bB (nv a b c d w Q) (wj a b c d w λe w=>
Q (decide (e≥0)) w) (ok 9) [] [] Tryz.func154
def ke (Q:Bool->WP)(a b:OA)(c:Int)(w:World):Prop:=wA a λd=>af .i64 d w.drew λe=>wA a λf=>af .i64 (f.add 1) w.drew λg=>wA b λi=>af .i64 (i.add 1) w.drew λj=>nQ e g j c w.drew λl w=>cond (decide (l<0)) (Q true w) (wA a λm=>cf (m.add 2) w λn=>aI P (Instr.lookup 258 (.map n) (ae l) false) w λo w=>dB o λp=>cond p (Q true w) (wA a λq=>cf (q.add 2) w.drew λr=>wA b λs=>af .i64 (s.add 1) w.drew λt=>aI P (Builtin.delete_ #[258,3] 0 [.map r,ae t].toArray) w.drew λu w=>wA b λv=>St (v.add 1) (ae l) w λw=>wA a λx=>aC (x.add 3) w.drew λy z a1=>wA b λb1=>af .i64 b1 w.drew λc1=>Bx [ae c1,ae l] 51 w.drew λd1 w=>w.cell? (x.add 3)=some (.slice y z a1)/\App P #[28,28] 28 (.slice y z a1) (.slice (some d1) 1 1) w λe1 f1 g1 w=>wA a λi1=>St (i1.add 3) (.slice e1 f1 g1) w λw=>wA b λj1=>af .i64 (j1.add 2) w λl1=>cond (l==l1) (wA a λm1=>aC (m1.add 4) w.drew λn1 o1 p1=>wA b λq1=>af .i64 q1 w.drew λr1=>Bx [ae r1] 3 w.drew λs1 w=>w.cell? (m1.add 4)=some (.slice n1 o1 p1)/\App P #[29,29] 29 (.slice n1 o1 p1) (.slice (some s1) 1 1) w λt1 u1 v1 w=>wA a λx1=>St (x1.add 4) (.slice t1 u1 v1) w λw=>Q false w) (wA a λy1=>cf (y1.add 2) w λz1=>bw P (Instr.mapUpdate 258 (.map z1) (ae l) (.bool true)) w λw=>Q true w)))
noncomputable def Ex:cu:=[(6,sp 0 13 (.op 13 (.op 14 .done))),(9,sp 0 8 (.op 8 .done)),(11,sp 0 11 (.op 11 (.op 12 (sp 13 2 (.op 15 .done))))),(13,sp 0 9 (.op 9 (.op 10 (sp 11 2 (.op 13 .done)))))]
def QV (Q):Bk 92 Tryz.f155 (Fc Q) 6 [(0,.p),(1,.p),(2,.i .i64)] (ke Q):=aW (ok 92) Ex []
def Nj:=λa b c w Q=>bB (xd a b c w Q) (cond (c==0)
(ke Q a b c w)
(cond (c==1)
(ke Q a b c w)
(cond (c==2)
(ke Q a b c w)
(cond (c==3)
(ke Q a b c w)
(Q true w))))) (ok 92) Ex [aN (QV Q)] Tryz.func155
def Aa (Q:L3 (L3 (L3 (Int->WP))))(R11:L3 (L3 (Addr->L3 (Int->Int->WP))))(a:OA)(b c:Nat)(d:OA)(e f:Nat)(g:Addr)(i:OA)(j l:Nat)(m n:Int)(w:World):Prop:=cond (decide (n<m)) (aH n j<|wA i λo=>af .i64 ((o.add (n.toNat*3)).add 0) w λp=>af .i64 ((o.add (n.toNat*3)).add 1) w λq=>af .i64 ((o.add (n.toNat*3)).add 2) w λr=>Al T 43 w λs w=>St (s.add 0) (ae p) w λw=>St (s.add 1) (ae q) w λw=>St (s.add 2) (ae r) w λw=>aH n b<|wA a λt=>af .i64 (t.add (n.toNat*1)) w λu=>xd (some g) (some s) u w λv w=>cond v (af .i64 (s.add 0) w λx=>af .i64 (s.add 1) w λy=>af .i64 (s.add 2) w λz=>Bx [ae x,ae y,ae z] 43 w λa1 w=>App P #[39,39] 39 (.slice d e f) (.slice (some a1) 1 1) w λb1 c1 d1 w=>R11 a b c b1 c1 d1 g i j l m (IntKind.wrap .i64 (n+1)) w) (R11 a b c d e f g i j l m (IntKind.wrap .i64 (n+1)) w)) (aC (g.add 3) w.drew λe1 f1 g1=>aC (g.add 4) w.drew λi1 j1 l1=>w.drew.cell? (g.add 4)=some (.slice i1 j1 l1)/\w.drew.cell? (g.add 3)=some (.slice e1 f1 g1)/\w.drew.cell? (g.add 4)=some (.slice i1 j1 l1)/\Q d e f e1 f1 g1 i1 j1 l1 0 w.drew)
def Dw (Q:L3 (L3 (L3 (Int->WP)))):Nat->L3 (L3 (Addr->L3 (Int->Int->WP)))
 |0,_,_,_,_,_,_,_,_,_,_,_,_,_=>False
 |k+1,a,b,c,d,e,f,g,i,j,l,m,n,w=>Aa Q (Dw Q k) a b c d e f g i j l m n w
def Bz (Q:L3 (L3 (L3 (Int->WP))))(R6:L3 (L3 (L3 (Addr->L3 (Int->Int->WP)))))(a:OA)(b c:Nat)(d:OA)(e f:Nat)(g:OA)(i j:Nat)(l:Addr)(m:OA)(n o:Nat)(p q:Int)(w:World):Prop:=cond (decide (q<p)) (aH q n<|wA m λr=>af .i64 ((r.add (q.toNat*3)).add 0) w λs=>af .i64 ((r.add (q.toNat*3)).add 1) w λt=>af .i64 ((r.add (q.toNat*3)).add 2) w λu=>Al T 43 w λv w=>St (v.add 0) (ae s) w λw=>St (v.add 1) (ae t) w λw=>St (v.add 2) (ae u) w λw=>cf (l.add 2) w.drew λx=>af .i64 (v.add 1) w.drew λy=>bw P (Instr.mapUpdate 258 (.map x) (ae y) (.bool true)) w.drew λw=>R6 a b c d e f g i j l m n o p (IntKind.wrap .i64 (q+1)) w) (∃k',Dw Q k' d e f g i j l a b c (b:Int) 0 w)
def Fo (Q:L3 (L3 (L3 (Int->WP)))):Nat->L3 (L3 (L3 (Addr->L3 (Int->Int->WP))))
 |0,_,_,_,_,_,_,_,_,_,_,_,_,_,_,_,_=>False
 |k+1,a,b,c,d,e,f,g,i,j,l,m,n,o,p,q,w=>Bz Q (Fo Q k) a b c d e f g i j l m n o p q w
noncomputable def IG:cu:=[(8,sp 0 6 (.op 6 .done)),(16,sp 0 9 (.op 9 (.op 10 (.op 11 (.op 12 .done)))))]
def aeK (Q):∀k,Bk 82 Tryz.f135 (JP Q) 11 [(3,.l),(8,.l),(13,.a),(55,.l),(56,.i .i64),(57,.i .i64)] (Dw Q k):=bK λk h=>aW (ok 82) IG [aN h]
def agd (Q):∀k,Bk 82 Tryz.f135 (JP Q) 6 [(2,.l),(3,.l),(8,.l),(13,.a),(42,.l),(43,.i .i64),(44,.i .i64)] (Fo Q k):=bK λk h=>aW (ok 82) IG [aN h,ck (aeK Q)]
def abY:=λa b c d e f g i w Q=>bB (GH a b c d e f g i w Q) (B1 a b c d e w λj w=>
cond (!j)
(Q none 0 0 none 0 0 none 0 0 1 w)
(cond ((g:Int) !=(d:Int))
(Q none 0 0 none 0 0 none 0 0 1 w)
(nv f g i (.func (.func 153) #[] #[]) w λl w=>
cond l
(Q none 0 0 none 0 0 none 0 0 1 w)
(cm P 258 (some (ae (d:Int))) w λm w=>
Bx [ae a,ae b,.map m,.slice none 0 0,.slice none 0 0] 260 w λn w=>
∃k',Fo Q k' c d e f g i none 0 0 n c d e (d:Int) 0 w)))) (ok 82) IG [ck (agd Q)] Tryz.func135
def LC:=λa b c w Q=>bB (vG a b c w Q) (lA a b w λd w=>
cond (d==(-1))
(Q false w)
(qN a c w λe w=>
cond (!e)
(Q false w)
(qM a b w λf w=>
rH a c f w λg w=>
Q g w))) (ok 23) [] [] Tryz.func136
def Kb:=λa b w Q=>bB (Bd a b w Q) (wA b λc=>
af .i64 c w λd=>
wA a λe=>
St (e.add 1) (ae d) w λw=>
Q w) (ok 7) [] [] Tryz.func156
def Nk:=λa b c w Q=>bB (w_ a b c w Q) (Bx [ae c] 3 w λd w=>
rI a b (.func (.func 156) #[] #[.pointer (some d)]) w λe w=>
Q e w) (ok 11) [] [] Tryz.func137
def lG (P7:OA->L3 (L3 (L3 (Int->Int->WP))))(Q:L3 (L3 (Int->WP)))(a b:OA)(c d:Nat)(e:OA)(f g:Nat)(i j:Addr)(l:OA)(m n:Nat)(o p:Int)(w:World):Prop:=af .i64 (i.add 1) w λq=>af .i64 (j.add 2) w λr=>cond (q==r) (af .i64 (j.add 0) w λs=>af .i64 (j.add 1) w λt=>af .i64 (j.add 2) w λu=>nu a s t u w λw=>P7 a b c d e f g l m n o (IntKind.wrap .i64 (p+1)) w) (wA a λv=>bg (v.add 4) w.drew λx=>af .i64 (j.add 1) w.drew λy=>af .i64 (i.add 1) w.drew λz=>vG x y z w.drew λa1 w=>wA a λb1=>bg (b1.add 3) w.drew λc1=>af .i64 i w.drew λd1=>af .i64 (i.add 1) w.drew λe1=>w_ c1 d1 e1 w.drew λf1 w=>P7 a b c d e f g l m n o (IntKind.wrap .i64 (p+1)) w)
def pe (Q:L3 (L3 (Int->WP)))(R7:OA->L3 (L3 (L3 (Int->Int->WP))))(a b:OA)(c d:Nat)(e:OA)(f g:Nat)(i:OA)(j l:Nat)(m n:Int)(w:World):Prop:=cond (decide (n<m)) (aH n j<|wA i λo=>af .i64 ((o.add (n.toNat*2)).add 0) w λp=>af .i64 ((o.add (n.toNat*2)).add 1) w λq=>Al T 51 w λr w=>St (r.add 0) (ae p) w λw=>St (r.add 1) (ae q) w λw=>wA a λs=>bg (s.add 3) w.drew λt=>af .i64 r w.drew λu=>(iE t u w.drew λv x y z w=>Al T 43 w λa1 w=>w.cell? r=some (ae u)/\w.cell? (s.add 3)=some (.pointer t)/\St (a1.add 0) (ae v) w λw=>St (a1.add 1) (ae x) w λw=>St (a1.add 2) (ae y) w λw=>lG R7 Q a b c d e f g r a1 i j l m n w)/\(Al T 43 w.drew λb1 w=>w.cell? r=some (ae u)/\w.cell? (s.add 3)=some (.pointer t)/\iE t u w λc1 d1 e1 f1 w=>St (b1.add 0) (ae c1) w λw=>St (b1.add 1) (ae d1) w λw=>St (b1.add 2) (ae e1) w λw=>lG R7 Q a b c d e f g r b1 i j l m n w)) (Q b c d e f g 0 w)
def pz (Q:L3 (L3 (Int->WP))):Nat->OA->L3 (L3 (L3 (Int->Int->WP)))
 |0,_,_,_,_,_,_,_,_,_,_,_,_,_=>False
 |k+1,a,b,c,d,e,f,g,i,j,l,m,n,w=>pe Q (pz Q k) a b c d e f g i j l m n w
noncomputable def yG:cu:=[(3,sp 0 9 (.op 10 (.op 9 (.op 11 (sp 12 5 (.op 17 (.op 18 (.op 19 .done)))))))),(9,sp 0 6 (.br (.op 6 (sp 7 3 (.op 10 (.op 11 (.op 12 .done))))) (.op 10 (.op 6 (sp 7 3 (.op 11 (.op 12 .done))))))),(12,sp 0 8 (.op 8 .done)),(13,sp 0 8 (.op 8 .done))]
def O1 {P7}(Q)(H7:Bk 78 Tryz.f94 (tq Q) 7 [(0,.p),(4,.l),(5,.l),(33,.l),(34,.i .i64),(35,.i .i64)] P7):Bk 78 Tryz.f94 (tq Q) 10 [(0,.p),(4,.l),(5,.l),(8,.a),(9,.a),(33,.l),(34,.i .i64),(35,.i .i64)] (lG P7 Q):=aW (ok 78) yG [aN H7]
def QW (Q):∀k,Bk 78 Tryz.f94 (tq Q) 7 [(0,.p),(4,.l),(5,.l),(33,.l),(34,.i .i64),(35,.i .i64)] (pz Q k):=bK λk h=>aW (ok 78) yG [aN (O1 Q h)]
def Nl:=λa b c d w Q=>bB (w8 a b c d w Q) (cond a.isNone
(Q none 0 0 none 0 0 1 w)
(wA a λe=>
af .i64 e w.drew λf=>
wA a λg=>
af .i64 (g.add 1) w.drew λi=>
mQ a w.drew λj l m w=>
w.cell? (g.add 1)=some (ae i)/\
w.cell? e=some (ae f)/\
GH f i j l m b c d w λn o p q r s t u v x w=>
cond (x !=0)
(Q none 0 0 none 0 0 x w)
(∃k',pz Q k' a q r s t u v q r s (r:Int) 0 w))) (ok 78) yG [ck (QW Q)] Tryz.func94
def Nm:=λa b w Q=>bB (wX a b w Q) (wA a λc=>
bg (c.add 2) w λd=>
mQ d w λe f g w=>
wZ a e f g w λi j l m w=>
A2 m λn=>
cond (!n)
(dV m λo=>
Q o w)
(wA a λp=>
bg (p.add 2) w λq=>
w8 q i j l w λr s t u v x y w=>
wA b λz=>
St (z.add 4) (.slice r s t) w λw=>
wA b λa1=>
St (a1.add 5) (.slice u v x) w λw=>
fW y w λb1 w=>
dV b1 λc1=>
Q c1 w)) (ok 43) [] [] Tryz.func58
def ff (Q:Value->WP)(a:Value)(w:World):Prop:=dV a λb=>Q b w
def ox (Q:Value->WP)(a b:OA)(c:Addr)(w:World):Prop:=af .i64 (c.add 0) w λd=>af .i64 (c.add 1) w λe=>af .i64 (c.add 2) w λf=>aC (c.add 3) w λg i j=>vz a d e f g i j w λl w=>A2 l λm=>cond (!m) (dV l λn=>Q n w) (af .i64 c w λo=>cond (o==1) (aC (c.add 3) w λp q r=>wV a p q r w λs w=>ff Q s w) (cond (o==8) (wA a λt=>bg (t.add 1) w λu=>uR u w λw=>ff Q l w) (cond (o==2) (af .i64 (c.add 1) w λv=>af .i64 (c.add 2) w λx=>wW a v x w λy w=>ff Q y w) (cond (o==3) (af .i64 (c.add 1) w λz=>af .i64 (c.add 2) w λa1=>vA a z a1 w λb1 c1 w=>wA b λd1=>St (d1.add 3) (ae b1) w λw=>ff Q c1 w) (cond (o==4) (wA a λe1=>bg (e1.add 2) w.drew λf1=>af .i64 (c.add 1) w.drew λg1=>af .i64 (c.add 2) w.drew λi1=>r9 f1 g1 i1 w.drew λj1 w=>fW j1 w λl1 w=>ff Q l1 w) (cond (o==5) (wA a λm1=>bg (m1.add 2) w.drew λn1=>af .i64 (c.add 1) w.drew λo1=>tf n1 o1 w.drew λp1 w=>fW p1 w λq1 w=>ff Q q1 w) (cond (o==6) (af .i64 (c.add 1) w λr1=>af .i64 (c.add 2) w λs1=>vB a b r1 s1 w λt1 w=>ff Q t1 w) (cond (o==7) (wX a b w λu1 w=>ff Q u1 w) (ff Q l w)))))))))
noncomputable def Av:cu:=[(18,sp 0 8 (.op 8 (.op 9 (.op 10 .done)))),(20,sp 0 6 (.op 6 (.op 7 (.op 8 .done))))]
def Tm (Q):Bk 114 Tryz.f28 (A9 Q) 25 [(6,.v)] (ff Q):=aW (ok 114) Av []
def UE (Q):Bk 114 Tryz.f28 (A9 Q) 5 [(0,.p),(2,.p),(4,.a)] (ox Q):=aW (ok 114) Av [aN (Tm Q)]
def QX:=λa b c d e f g i w Q=>bB (zl a b c d e f g i w Q) (Bx [ae b,ae c,ae d,.slice e f g] 38 w λj w=>
af .i64 j w λl=>
cond (l==0)
(bX (aZ 0) w λm=>
dV m λn=>
Q n w)
(af .i64 (j.add 0) w λo=>
af .i64 (j.add 1) w λp=>
af .i64 (j.add 2) w λq=>
aC (j.add 3) w λr s t=>
JM o p q r s t w λu w=>
cond (!u)
(bX (aZ 0) w λv=>
dV v λx=>
Q x w)
(wA a λy=>
bg (y.add 2) w λz=>
cond z.isNone
(af .i64 j w λa1=>
cond (a1 !=1)
(af .i64 j w λb1=>
cond (b1 !=8)
(Q (.iface 108 (ae 4)) w)
(ox Q a i j w))
(ox Q a i j w))
(ox Q a i j w)))) (ok 114) Av [aN (UE Q)] Tryz.func28
def abZ:=λa w Q=>bB (B0 a w Q) (Al T 108 w λb w=>
bX (aZ 0) w λc=>
oR a c w λd w=>
cond d
(Q 5 w)
(m7 a (.iface 120 (.pointer (some b))) w λe w=>
cond e
(af .i64 b w λf=>
Q f w)
(Q 0 w))) (ok 13) [] [] Tryz.func29
def oy (Q:Int->Int->Int->Int->L3 (L3 (Int->Int->Int->Int->Int->Int->WP)))(a:OA)(b c:Addr)(w:World):Prop:=vw a w λd e f g i j w=>St ((c.add 6).add 0) (.int .u64 d) w λw=>St ((c.add 6).add 1) (.int .u64 e) w λw=>St ((c.add 6).add 2) (.int .u64 f) w λw=>St ((c.add 6).add 3) (.int .u64 g) w λw=>St ((c.add 6).add 4) (.int .u64 i) w λw=>St ((c.add 6).add 5) (.int .u64 j) w λw=>af .i64 (c.add 0) w λl=>af .i64 (c.add 1) w λm=>af .i64 (c.add 2) w λn=>af .i64 (c.add 3) w λo=>aC (c.add 4) w λp q r=>aC (c.add 5) w λs t u=>af .u64 (c.add 6) w λv=>af .u64 (c.add 7) w λx=>af .u64 (c.add 8) w λy=>af .u64 (c.add 9) w λz=>af .u64 (c.add 10) w λa1=>af .u64 (c.add 11) w λb1=>St (b.add 0) (ae l) w λw=>St (b.add 1) (ae m) w λw=>St (b.add 2) (ae n) w λw=>St (b.add 3) (ae o) w λw=>St (b.add 4) (.slice p q r) w λw=>St (b.add 5) (.slice s t u) w λw=>St (b.add 6) (.int .u64 v) w λw=>St (b.add 7) (.int .u64 x) w λw=>St (b.add 8) (.int .u64 y) w λw=>St (b.add 9) (.int .u64 z) w λw=>St (b.add 10) (.int .u64 a1) w λw=>St (b.add 11) (.int .u64 b1) w λw=>af .i64 (b.add 0) w λc1=>af .i64 (b.add 1) w λd1=>af .i64 (b.add 2) w λe1=>af .i64 (b.add 3) w λf1=>aC (b.add 4) w λg1 i1 j1=>aC (b.add 5) w λl1 m1 n1=>af .u64 (b.add 6) w λo1=>af .u64 (b.add 7) w λp1=>af .u64 (b.add 8) w λq1=>af .u64 (b.add 9) w λr1=>af .u64 (b.add 10) w λs1=>af .u64 (b.add 11) w λt1=>Q c1 d1 e1 f1 g1 i1 j1 l1 m1 n1 o1 p1 q1 r1 s1 t1 w
def UF (Q):Bk 29 Tryz.f12 (HI Q) 8 [(0,.p),(4,.a),(5,.a)] (oy Q):=aW (ok 29) [] []
def QY:=λa b c d e f g w Q=>bB (fF a b c d e f g w Q) (Bx [ae b,ae c,ae d,.slice e f g] 38 w λi w=>
Al T 34 w λj w=>
Al T 34 w λl w=>
St (l.add 0) (ae 5) w λw=>
St (l.add 1) (ae 0) w λw=>
St (l.add 2) (ae 5) w λw=>
St (l.add 3) (ae (-1)) w λw=>
St (l.add 4) (.slice none 0 0) w λw=>
St (l.add 5) (.slice none 0 0) w λw=>
St (l.add 6) (.int .u64 0) w λw=>
St (l.add 7) (.int .u64 0) w λw=>
St (l.add 8) (.int .u64 0) w λw=>
St (l.add 9) (.int .u64 0) w λw=>
St (l.add 10) (.int .u64 0) w λw=>
St (l.add 11) (.int .u64 0) w λw=>
cond a.isNone
(af .i64 (l.add 0) w λm=>
af .i64 (l.add 1) w λn=>
af .i64 (l.add 2) w λo=>
af .i64 (l.add 3) w λp=>
aC (l.add 4) w λq r s=>
aC (l.add 5) w λt u v=>
af .u64 (l.add 6) w λx=>
af .u64 (l.add 7) w λy=>
af .u64 (l.add 8) w λz=>
af .u64 (l.add 9) w λa1=>
af .u64 (l.add 10) w λb1=>
af .u64 (l.add 11) w λc1=>
St (j.add 0) (ae m) w λw=>
St (j.add 1) (ae n) w λw=>
St (j.add 2) (ae o) w λw=>
St (j.add 3) (ae p) w λw=>
St (j.add 4) (.slice q r s) w λw=>
St (j.add 5) (.slice t u v) w λw=>
St (j.add 6) (.int .u64 x) w λw=>
St (j.add 7) (.int .u64 y) w λw=>
St (j.add 8) (.int .u64 z) w λw=>
St (j.add 9) (.int .u64 a1) w λw=>
St (j.add 10) (.int .u64 b1) w λw=>
St (j.add 11) (.int .u64 c1) w λw=>
af .i64 (j.add 0) w λd1=>
af .i64 (j.add 1) w λe1=>
af .i64 (j.add 2) w λf1=>
af .i64 (j.add 3) w λg1=>
aC (j.add 4) w λi1 j1 l1=>
aC (j.add 5) w λm1 n1 o1=>
af .u64 (j.add 6) w λp1=>
af .u64 (j.add 7) w λq1=>
af .u64 (j.add 8) w λr1=>
af .u64 (j.add 9) w λs1=>
af .u64 (j.add 10) w λt1=>
af .u64 (j.add 11) w λu1=>
Q d1 e1 f1 g1 i1 j1 l1 m1 n1 o1 p1 q1 r1 s1 t1 u1 w)
(St l (ae 0) w λw=>
af .i64 (i.add 0) w λv1=>
af .i64 (i.add 1) w λx1=>
af .i64 (i.add 2) w λy1=>
aC (i.add 3) w λz1 a2 b2=>
zl a v1 x1 y1 z1 a2 b2 (some l) w λc2 w=>
A2 c2 λd2=>
cond (!d2)
(af .i64 i w λe2=>
dV c2 λf2=>
Bx [ae e2,f2] 80 w λg2 w=>
B0 (.iface 78 (.pointer (some g2))) w λi2 w=>
St l (ae i2) w λw=>
oy Q a j l w)
(oy Q a j l w))) (ok 29) [] [aN (UF Q)] Tryz.func12
def O2:=λa b c w Q=>bB (lz a b c w Q) (cond (decide (a≥b))
(Q (decide (a<=c)) w)
(Q false w)) (ok 15) [] [] Tryz.func101
def Nn:=λa b w Q=>bB (wY a b w Q) (lz a 1 1024 w λc w=>
cond c
(lz b 1 1024 w λd w=>
Q d w)
(Q false w)) (ok 11) [] [] Tryz.func65
def II:=λa b w Q=>bB (kC a b w Q) (wY a b w λc w=>
cond (!c)
(Q 0 0 w)
(NZ 16<|
NZ 16<|
Q (IntKind.wrap .i64 (Int.tdiv (IntKind.wrap .i64 ((IntKind.wrap .i64 (a+16))-1)) 16)) (IntKind.wrap .i64 (Int.tdiv (IntKind.wrap .i64 ((IntKind.wrap .i64 (b+16))-1)) 16)) w)) (ok 18) [] [] Tryz.func44
def Kc:=λa b w Q=>bB (oQ a b w Q) (kC a b w λc d w=>
Q (IntKind.wrap .i64 (c*d)) w) (ok 16) [] [] Tryz.func23
def rT (P3:L3 (L3 (Int->WP)))(Q:L3 WP)(a:OA)(b c:Nat)(d:OA)(e f:Nat)(g i:Int)(w:World):Prop:=aH g b<|wA a λj=>af .u8 (j.add (g.toNat*1)) w λl=>Bx [.int .u8 (IntKind.wrap .u8 (IntKind.wrap .i64 (i-1))),.int .u8 l] 5 w λm w=>App P #[22,22] 22 (.slice d e f) (.slice (some m) 2 2) w λn o p w=>P3 a b c n o p (IntKind.wrap .i64 (g+i)) w
def oz (P3:L3 (L3 (Int->WP)))(Q:L3 WP)(R5:L3 (L3 (Int->Int->WP)))(a:OA)(b c:Nat)(d:OA)(e f:Nat)(g i:Int)(w:World):Prop:=cond (decide ((IntKind.wrap .i64 (g+i))<(b:Int))) (aH (IntKind.wrap .i64 (g+i)) b<|wA a λj=>af .u8 (j.add (((IntKind.wrap .i64 (g+i))).toNat*1)) w.drew λl=>aH g b<|wA a λm=>af .u8 (m.add (g.toNat*1)) w.drew λn=>cond (l==n) (R5 a b c d e f g (IntKind.wrap .i64 (i+1)) w.drew) (rT P3 Q a b c d e f g i w.drew)) (rT P3 Q a b c d e f g i w.drew)
def lH (P3:L3 (L3 (Int->WP)))(Q:L3 WP):Nat->L3 (L3 (Int->Int->WP))
 |0,_,_,_,_,_,_,_,_,_=>False
 |k+1,a,b,c,d,e,f,g,i,w=>oz P3 Q (lH P3 Q k) a b c d e f g i w
def oA (Q:L3 WP)(R3:L3 (L3 (Int->WP)))(a:OA)(b c:Nat)(d:OA)(e f:Nat)(g:Int)(w:World):Prop:=cond (decide (g<(b:Int))) (∃k',lH R3 Q k' a b c d e f g 1 w) (Q d e f w)
def oB (Q:L3 WP):Nat->L3 (L3 (Int->WP))
 |0,_,_,_,_,_,_,_,_=>False
 |k+1,a,b,c,d,e,f,g,w=>oA Q (oB Q k) a b c d e f g w
noncomputable def qP:cu:=[(5,sp 0 19 .done)]
def O3 {P3}(Q)(H3:Bk 46 Tryz.f61 (lu Q) 3 [(0,.l),(3,.l),(4,.i .i64)] P3):Bk 46 Tryz.f61 (lu Q) 7 [(0,.l),(3,.l),(4,.i .i64),(5,.i .i64)] (rT P3 Q):=aW (ok 46) qP [aN H3]
def O4 {P3}(Q)(H3:Bk 46 Tryz.f61 (lu Q) 3 [(0,.l),(3,.l),(4,.i .i64)] P3):∀k,Bk 46 Tryz.f61 (lu Q) 5 [(0,.l),(3,.l),(4,.i .i64),(5,.i .i64)] (lH P3 Q k):=bK λk h=>aW (ok 46) qP [aN h,aN (O3 Q H3)]
def O5 (Q):∀k,Bk 46 Tryz.f61 (lu Q) 3 [(0,.l),(3,.l),(4,.i .i64)] (oB Q k):=bK λk h=>aW (ok 46) qP [ck (O4 Q h)]
def LD:=λa b c w Q=>bB (vC a b c w Q) (Bx [.int .u8 2] 5 w λd w=>
∃k',oB Q k' a b c (some d) 1 1 0 w) (ok 46) qP [ck (O5 Q)] Tryz.func61
noncomputable def Jf:cu:=[(3,sp 0 4 (.br (.op 4 (.op 5 (.op 6 .done))) (.op 5 (.op 4 (.op 6 .done)))))]
def IJ:=λa b c d e w Q=>bB (r8 a b c d e w Q) (Bx [ae a,ae b,.slice c d e] 84 w λf w=>
aC (f.add 2) w λg i j=>
vC g i j w λl m n w=>
cond ((m:Int)==3)
(aC (f.add 2) w.drew λo p q=>
aH 0 p<|
wA o λr=>
af .u8 (r.add (((0:Int).toNat)*1)) w.drew λs=>
(Bx [.int .u8 0,.int .u8 s] 5 w.drew λt w=>
w.cell? (r.add (((0:Int).toNat)*1))=some (.int .u8 s)/\
w.cell? (f.add 2)=some (.slice o p q)/\
Q 0 (some t) 2 2 w)/\
(w.drew.cell? (r.add (((0:Int).toNat)*1))=some (.int .u8 s)/\
w.drew.cell? (f.add 2)=some (.slice o p q)/\
Bx [.int .u8 0,.int .u8 s] 5 w.drew λu w=>
Q 0 (some u) 2 2 w))
(aC (f.add 2) w λv x y=>
cond (decide ((m:Int)<(IntKind.wrap .i64 (1+(x:Int)))))
(Q 2 l m n w)
(Bx [.int .u8 1] 5 w λz w=>
aC (f.add 2) w λa1 b1 c1=>
App P #[22,22] 22 (.slice (some z) 1 1) (.slice a1 b1 c1) w λd1 e1 f1 w=>
Q 1 d1 e1 f1 w))) (ok 28) Jf [] Tryz.func30
noncomputable def Np:cu:=[(4,sp 0 14 (.op 14 (.op 15 .done)))]
def LF:=λa b c w Q=>bB (pX a b c w Q) (oQ a b w λd w=>
lz c 0 (IntKind.wrap .i64 (d-1)) w λe w=>
cond (!e)
(Q 0 0 w)
(kC a b w λf g w=>
NZ f<|
NZ f<|
Q (EU 16 (IntKind.wrap .i64 (a-(IntKind.wrap .i64 (16*(Int.tmod c f)))))) (EU 16 (IntKind.wrap .i64 (b-(IntKind.wrap .i64 (16*(IntKind.wrap .i64 (Int.tdiv c f))))))) w.drew)) (ok 37) Np [] Tryz.func62
noncomputable def Kf:cu:=[(5,sp 0 19 (.op 19 .done))]
def Jg:=λa b c d w Q=>bB (tg a b c d w Q) (pX a b c w λe f w=>
lz d 0 (IntKind.wrap .i64 ((IntKind.wrap .i64 (e*f))-1)) w λg w=>
cond (!g)
(Q (-1) w)
(kC a b w λi j w=>
NZ i<|
NZ e<|
NZ i<|
NZ e<|
Q (IntKind.wrap .i64 ((IntKind.wrap .i64 ((IntKind.wrap .i64 ((IntKind.wrap .i64 ((IntKind.wrap .i64 (16*(IntKind.wrap .i64 (Int.tdiv c i))))+(IntKind.wrap .i64 (Int.tdiv d e))))*a))+(IntKind.wrap .i64 (16*(Int.tmod c i)))))+(Int.tmod d e))) w.drew)) (ok 52) Kf [] Tryz.func63
def mT (Q:Int->Int->L3 WP)(R4:Int->Addr->Addr->Int->Int->Addr->Int->WP)(a:Int)(b c:Addr)(d e:Int)(f:Addr)(g:Int)(w:World):Prop:=cond (decide (g<(IntKind.wrap .i64 (d*e)))) (aC (f.add 2) w.drew λi j l=>aC (b.add 2) w.drew λm n o=>af .i64 b w.drew λp=>af .i64 (b.add 1) w.drew λq=>tg p q a g w.drew λr w=>w.cell? (b.add 2)=some (.slice m n o)/\w.cell? (f.add 2)=some (.slice i j l)/\(aH r n<|wA m λs=>af .u8 (s.add (r.toNat*1)) w λt=>Bx [.int .u8 t] 5 w λu w=>w.cell? (f.add 2)=some (.slice i j l)/\App P #[22,22] 22 (.slice i j l) (.slice (some u) 1 1) w λv x y w=>St (f.add 2) (.slice v x y) w λw=>R4 a b c d e f (IntKind.wrap .i64 (g+1)) w)) (af .i64 (f.add 0) w λz=>af .i64 (f.add 1) w λa1=>aC (f.add 2) w λb1 c1 d1=>St (c.add 0) (ae z) w λw=>St (c.add 1) (ae a1) w λw=>St (c.add 2) (.slice b1 c1 d1) w λw=>af .i64 (c.add 0) w λe1=>af .i64 (c.add 1) w λf1=>aC (c.add 2) w λg1 i1 j1=>Q e1 f1 g1 i1 j1 w)
def jX (Q:Int->Int->L3 WP):Nat->Int->Addr->Addr->Int->Int->Addr->Int->WP
 |0,_,_,_,_,_,_,_,_=>False
 |k+1,a,b,c,d,e,f,g,w=>mT Q (jX Q k) a b c d e f g w
noncomputable def BA:cu:=[(6,sp 0 10 (.op 10 (sp 11 2 (.op 13 (.op 14 (.op 15 (.op 16 .done)))))))]
def LG (Q):∀k,Bk 45 Tryz.f31 (Cy Q) 4 [(1,.i .i64),(2,.a),(4,.a),(5,.i .i64),(6,.i .i64),(7,.a),(8,.i .i64)] (jX Q k):=bK λk h=>aW (ok 45) BA [aN h]
def Jh:=λa b c d e f w Q=>bB (s9 a b c d e f w Q) (Bx [ae a,ae b,.slice c d e] 25 w λg w=>
Al T 84 w λi w=>
af .i64 g w λj=>
af .i64 (g.add 1) w λl=>
pX j l f w λm n w=>
Al T 84 w λo w=>
St (o.add 0) (ae m) w λw=>
St (o.add 1) (ae n) w λw=>
St (o.add 2) (.slice none 0 0) w λw=>
∃k',jX Q k' f g i m n o 0 w) (ok 45) BA [ck (LG Q)] Tryz.func31
def vM (Q:L3 WP)(R3:Addr->L3 (Int->WP))(a:Addr)(b:OA)(c d:Nat)(e:Int)(w:World):Prop:=af .i64 a w λf=>af .i64 (a.add 1) w λg=>oQ f g w λi w=>cond (decide (e<i)) (af .i64 (a.add 0) w λj=>af .i64 (a.add 1) w λl=>aC (a.add 2) w λm n o=>s9 j l m n o e w λp q r s t w=>r8 p q r s t w λu v x y w=>App P #[22,22] 22 (.slice b c d) (.slice v x y) w λz a1 b1 w=>R3 a z a1 b1 (IntKind.wrap .i64 (e+1)) w) (Q b c d w)
def jY (Q:L3 WP):Nat->Addr->L3 (Int->WP)
 |0,_,_,_,_,_,_=>False
 |k+1,a,b,c,d,e,w=>vM Q (jY Q k) a b c d e w
def LH (Q):∀k,Bk 42 Tryz.f13 (Cw Q) 3 [(1,.a),(3,.l),(4,.i .i64)] (jY Q k):=bK λk h=>aW (ok 42) [] [aN h]
def Ji:=λa b c d e w Q=>bB (oF a b c d e w Q) (Bx [ae a,ae b,.slice c d e] 25 w λf w=>
af .i64 f w λg=>
af .i64 f w λi=>
C4 8<|
af .i64 (f.add 1) w λj=>
af .i64 (f.add 1) w λl=>
C4 8<|
Bx [.int .u8 (IntKind.wrap .u8 g),.int .u8 (IntKind.wrap .u8 (oJ .i64 i 8)),.int .u8 (IntKind.wrap .u8 j),.int .u8 (IntKind.wrap .u8 (oJ .i64 l 8))] 5 w λm w=>
∃k',jY Q k' f (some m) 4 4 0 w) (ok 42) [] [ck (LH Q)] Tryz.func13
def O6:=λa w Q=>bB (Eg a w Q) (cond a.isNone
(Q none w)
(wA a λb=>
bg (b.add 2) w λc=>
Q c w)) (ok 9) [] [] Tryz.func32
def LI:=λa w Q=>bB (pW a w Q) (Eg a w λb w=>
mQ b w λc d e w=>
Q c d e w) (ok 6) [] [] Tryz.func14
def mU (Q:Bool->WP)(R4:L3 (L3 (Int->WP)))(a:OA)(b c:Nat)(d:OA)(e f:Nat)(g:Int)(w:World):Prop:=cond (decide (g<(b:Int))) (aH g b<|wA a λi=>af .i64 ((i.add (g.toNat*2)).add 0) w.drew λj=>af .i64 ((i.add (g.toNat*2)).add 1) w.drew λl=>aH g e<|wA d λm=>af .i64 ((m.add (g.toNat*2)).add 0) w.drew λn=>af .i64 ((m.add (g.toNat*2)).add 1) w.drew λo=>bT P .neq 51 (.tmp 20) (.tmp 24) (.agg #[ae j,ae l]) (.agg #[ae n,ae o]) w.drew λp w=>cond p (Q false w) (R4 a b c d e f (IntKind.wrap .i64 (g+1)) w)) (Q true w)
def jZ (Q:Bool->WP):Nat->L3 (L3 (Int->WP))
 |0,_,_,_,_,_,_,_,_=>False
 |k+1,a,b,c,d,e,f,g,w=>mU Q (jZ Q k) a b c d e f g w
noncomputable def BB:cu:=[(6,sp 0 8 (.op 8 .done))]
def LJ (Q):∀k,Bk 26 Tryz.f34 (Cz Q) 4 [(0,.l),(1,.l),(5,.i .i64)] (jZ Q k):=bK λk h=>aW (ok 26) BB [aN h]
def Jj:=λa b c d e f w Q=>bB (s_ a b c d e f w Q) (cond ((b:Int) !=(e:Int))
(Q false w)
(∃k',jZ Q k' a b c d e f 0 w)) (ok 26) BB [ck (LJ Q)] Tryz.func34
def LK:=λw Q=>bB (vv w Q) (Ds 1 2 w λa w=>
cond a.isNone
(Q false w)
(Bx [.int .u8 5,.int .u8 2,.int .u8 9] 5 w λb w=>
Al T 25 w λc w=>
St (c.add 0) (ae 3) w λw=>
St (c.add 1) (ae 1) w λw=>
St (c.add 2) (.slice (some b) 3 3) w λw=>
af .i64 (c.add 0) w λd=>
af .i64 (c.add 1) w λe=>
aC (c.add 2) w λf g i=>
oF d e f g i w λj l m w=>
fF a 1 0 0 j l m w λn o p q r s t u v x y z a1 b1 c1 d1 w=>
Al T 34 w λe1 w=>
St (e1.add 0) (ae n) w λw=>
St (e1.add 1) (ae o) w λw=>
St (e1.add 2) (ae p) w λw=>
St (e1.add 3) (ae q) w λw=>
St (e1.add 4) (.slice r s t) w λw=>
St (e1.add 5) (.slice u v x) w λw=>
St (e1.add 6) (.int .u64 y) w λw=>
St (e1.add 7) (.int .u64 z) w λw=>
St (e1.add 8) (.int .u64 a1) w λw=>
St (e1.add 9) (.int .u64 b1) w λw=>
St (e1.add 10) (.int .u64 c1) w λw=>
St (e1.add 11) (.int .u64 d1) w λw=>
fF a 3 0 2 none 0 0 w λf1 g1 i1 j1 l1 m1 n1 o1 p1 q1 r1 s1 t1 u1 v1 x1 w=>
Al T 34 w λy1 w=>
St (y1.add 0) (ae f1) w λw=>
St (y1.add 1) (ae g1) w λw=>
St (y1.add 2) (ae i1) w λw=>
St (y1.add 3) (ae j1) w λw=>
St (y1.add 4) (.slice l1 m1 n1) w λw=>
St (y1.add 5) (.slice o1 p1 q1) w λw=>
St (y1.add 6) (.int .u64 r1) w λw=>
St (y1.add 7) (.int .u64 s1) w λw=>
St (y1.add 8) (.int .u64 t1) w λw=>
St (y1.add 9) (.int .u64 u1) w λw=>
St (y1.add 10) (.int .u64 v1) w λw=>
St (y1.add 11) (.int .u64 x1) w λw=>
fF a 6 2 0 none 0 0 w λz1 a2 b2 c2 d2 e2 f2 g2 i2 j2 l2 m2 n2 o2 p2 q2 w=>
Al T 34 w λr2 w=>
St (r2.add 0) (ae z1) w λw=>
St (r2.add 1) (ae a2) w λw=>
St (r2.add 2) (ae b2) w λw=>
St (r2.add 3) (ae c2) w λw=>
St (r2.add 4) (.slice d2 e2 f2) w λw=>
St (r2.add 5) (.slice g2 i2 j2) w λw=>
St (r2.add 6) (.int .u64 l2) w λw=>
St (r2.add 7) (.int .u64 m2) w λw=>
St (r2.add 8) (.int .u64 n2) w λw=>
St (r2.add 9) (.int .u64 o2) w λw=>
St (r2.add 10) (.int .u64 p2) w λw=>
St (r2.add 11) (.int .u64 q2) w λw=>
fF a 7 0 0 none 0 0 w λs2 t2 u2 v2 x2 y2 z2 a3 b3 c3 d3 e3 f3 g3 i3 j3 w=>
Al T 34 w λl3 w=>
St (l3.add 0) (ae s2) w λw=>
St (l3.add 1) (ae t2) w λw=>
St (l3.add 2) (ae u2) w λw=>
St (l3.add 3) (ae v2) w λw=>
St (l3.add 4) (.slice x2 y2 z2) w λw=>
St (l3.add 5) (.slice a3 b3 c3) w λw=>
St (l3.add 6) (.int .u64 d3) w λw=>
St (l3.add 7) (.int .u64 e3) w λw=>
St (l3.add 8) (.int .u64 f3) w λw=>
St (l3.add 9) (.int .u64 g3) w λw=>
St (l3.add 10) (.int .u64 i3) w λw=>
St (l3.add 11) (.int .u64 j3) w λw=>
af .i64 e1 w λm3=>
cond (m3==0)
(af .i64 (y1.add 3) w λn3=>
cond (n3==0)
(af .i64 (r2.add 1) w λo3=>
cond (o3==11)
(af .i64 (r2.add 2) w λp3=>
cond (p3==1)
(aC (l3.add 4) w λq3 r3 s3=>
Bx [ae 0,ae 1] 51 w λt3 w=>
s_ q3 r3 s3 (some t3) 1 1 w λu3 w=>
cond u3
(pW a w λv3 x3 y3 w=>
Q ((x3:Int)==1) w)
(Q false w))
(Q false w))
(Q false w))
(Q false w))
(Q false w))) (ok 57) [] [] Tryz.func15
def jD (Q:Bool->WP)(ZO:Int->OA->Int->Int->WP)(a:Int)(b:OA)(c d:Int)(w:World):Prop:=cond (decide (d<c)) (fF b 7 0 0 none 0 0 w λe f g i j l m n o p q r s t u v w=>Al T 34 w λx w=>St (x.add 0) (ae e) w λw=>St (x.add 1) (ae f) w λw=>St (x.add 2) (ae g) w λw=>St (x.add 3) (ae i) w λw=>St (x.add 4) (.slice j l m) w λw=>St (x.add 5) (.slice n o p) w λw=>St (x.add 6) (.int .u64 q) w λw=>St (x.add 7) (.int .u64 r) w λw=>St (x.add 8) (.int .u64 s) w λw=>St (x.add 9) (.int .u64 t) w λw=>St (x.add 10) (.int .u64 u) w λw=>St (x.add 11) (.int .u64 v) w λw=>af .i64 x w λy=>cond (y !=0) (Q false w) (aC (x.add 5) w λz a1 b1=>cond ((a1:Int) !=0) (Q false w) (cond (decide (d≥a)) (aC (x.add 4) w λc1 d1 e1=>cond ((d1:Int) !=0) (Q false w) (ZO a b c (IntKind.wrap .i64 (d+1)) w)) (ZO a b c (IntKind.wrap .i64 (d+1)) w)))) (pW b w λf1 g1 i1 w=>vv w.drew λj1 w=>cond j1 (cond ((g1:Int)==2) (aH 0 g1<|wA f1 λl1=>af .i64 ((l1.add (((0:Int).toNat)*3)).add 1) w λm1=>aH 1 g1<|wA f1 λn1=>af .i64 ((n1.add (((1:Int).toNat)*3)).add 1) w λo1=>cond (decide (m1<o1)) (cond (decide (c<a)) (Q true w) (aH 0 g1<|wA f1 λp1=>af .i64 ((p1.add (((0:Int).toNat)*3)).add 1) w λq1=>aH 1 g1<|wA f1 λr1=>af .i64 ((r1.add (((1:Int).toNat)*3)).add 1) w λs1=>Q ((IntKind.wrap .i64 (q1+1))==s1) w)) (Q false w)) (Q false w)) (Q false w))
def jE (Q:Bool->WP):Nat->Int->OA->Int->Int->WP
 |0,_,_,_,_,_=>False
 |k+1,a,b,c,d,w=>jD Q (jE Q k) a b c d w
def jT (Q:Bool->WP)(R6:L3 (Int->Int->Addr->Int->WP))(a:OA)(b c:Nat)(d e:Int)(f:Addr)(g:Int)(w:World):Prop:=cond (decide (g<e)) (aC (f.add 2) w λi j l=>aH g j<|wA i λm=>St (m.add (g.toNat*1)) (.int .u8 1) w λw=>cond (decide ((b:Int)>0)) (aC (f.add 2) w.drew λn o p=>NZ (b:Int)<|aH (Int.tmod g (b:Int)) b<|wA a λq=>af .u8 (q.add (((Int.tmod g (b:Int))).toNat*1)) w.drew λr=>NZ 254<|aH g o<|wA n λs=>St (s.add (g.toNat*1)) (.int .u8 (IntKind.wrap .u8 (1+(Int.tmod r 254)))) w.drew λw=>R6 a b c d e f (IntKind.wrap .i64 (g+1)) w) (R6 a b c d e f (IntKind.wrap .i64 (g+1)) w)) (Ds 3 2 w λt w=>cond t.isNone (Q false w) (af .i64 (f.add 0) w λu=>af .i64 (f.add 1) w λv=>aC (f.add 2) w λx y z=>oF u v x y z w λa1 b1 c1 w=>fF t 1 0 0 a1 b1 c1 w λd1 e1 f1 g1 i1 j1 l1 m1 n1 o1 p1 q1 r1 s1 t1 u1 w=>cond (d1 !=0) (Q false w) (fF t 3 0 (IntKind.wrap .i64 (e-1)) none 0 0 w λv1 x1 y1 z1 a2 b2 c2 d2 e2 f2 g2 i2 j2 l2 m2 n2 w=>cond (v1 !=0) (Q false w) (fF t 3 (IntKind.wrap .i64 (e-1)) 0 none 0 0 w λo2 p2 q2 r2 s2 t2 u2 v2 x2 y2 z2 a3 b3 c3 d3 e3 w=>cond (o2 !=0) (Q false w) (jh d 0 150 w λf3 w=>∃k',jE Q k' e t f3 0 w)))))
def jU (Q:Bool->WP):Nat->L3 (Int->Int->Addr->Int->WP)
 |0,_,_,_,_,_,_,_,_=>False
 |k+1,a,b,c,d,e,f,g,w=>jT Q (jU Q k) a b c d e f g w
noncomputable def qG:cu:=[(10,sp 0 13 (.op 13 .done)),(22,.op 0 (sp 1 33 (.op 34 .done)))]
def GW (Q):∀k,Bk 148 Tryz.f3 (qY Q) 16 [(9,.i .i64),(12,.p),(13,.i .i64),(14,.i .i64)] (jE Q k):=bK λk h=>aW (ok 148) qG [aN h]
def HS (Q):∀k,Bk 148 Tryz.f3 (qY Q) 6 [(1,.l),(2,.i .i64),(9,.i .i64),(10,.a),(11,.i .i64)] (jU Q k):=bK λk h=>aW (ok 148) qG [aN h,ck (GW Q)]
def F9:=λa b c d e f w Q=>bB (xx a b c d e f w Q) (jh a 2 60 w λg w=>
cq P 22 (ae g) (ae g) w λi j l w=>
Al T 25 w λm w=>
St (m.add 0) (ae g) w λw=>
St (m.add 1) (ae 1) w λw=>
St (m.add 2) (.slice i j l) w λw=>
cond f
(St m (ae 1) w λw=>
St (m.add 1) (ae g) w λw=>
∃k',jU Q k' b c d e g m 0 w)
(∃k',jU Q k' b c d e g m 0 w)) (ok 148) qG [ck (HS Q)] Tryz.func3
def QZ:=λa w Q=>bB (Fg a w Q) (wA a λb=>
bX (b.add 1) w λc=>
dV c λd=>
Q d w) (ok 7) [] [] Tryz.func302
def LL:=λa w Q=>bB (CC a w Q) (wA a λb=>
bX (b.add 1) w λc=>
dV c λd=>
Q d w) (ok 7) [] [] Tryz.func321
def O7:=λa w Q=>bB (Er a w Q) (wA a λb=>
bX (b.add 1) w λc=>
dV c λd=>
Q d w) (ok 7) [] [] Tryz.func325
end Go.Proofs.YtmegplnmiepfbaaGreatDoor.S
namespace Go.Proofs.YtmegplnmiepfbaaGreatDoor.S
open Go.Sx
attribute [local irreducible] af cw bq bg aC cf bX St Bx Al App cA cq cm bT aI bw aq bR av aj aV mapA
def dW:vY P T:=DF P rows GD
def dJ {a b:Int}(h:a=b):(a==b)=true:=by grind
def cM {a b:Int}(h:¬a=b):(a==b)=false:=by grind
def Fp {a b:Int}(h:¬a=b):(a !=b)=true:=by grind
def wG {a b:Int}(h:a=b):(a !=b)=false:=by grind
section
variable {F:Nat->Prop}{W w0:World}{L:List As}{mw mh c:Int}
def pA {Q:Bool->World->Prop}(h:Q (decide (iX mw mh)) w0):kW mw mh w0 Q:=by
 apply ZE
 have e:decide (iX mw mh)=(decide (mw≥1)&&(decide (mw<=1024)&&(decide (mh≥1)&&decide (mh<=1024)))):=by
  rw[Bool.eq_iff_iff]
  simp[Bool.and_eq_true,decide_eq_true_eq]
  exact⟨λ⟨⟨a,b⟩,c,d⟩=>⟨a,b,c,d⟩,λ⟨a,b,c,d⟩=>⟨⟨a,b⟩,c,d⟩⟩
 grind
def GX {Q:Bool->World->Prop}(h:Q (decide (bE mw mh c)) w0):xZ mw mh c w0 Q:=by
 apply abK
 apply pA
 by_cases hm:iX mw mh
 ·have:=oO hm
  rw[bY hm,aJ]
  have e:decide (bE mw mh c)=(decide (c≥0)&&decide (c<mw*mh)):=by
   rw[Bool.eq_iff_iff]
   simp[bE,Bool.and_eq_true,decide_eq_true_eq,hm,true_and,ge_iff_le]
  grind
 ·rw[bD hm]
  rw[decide_eq_false (λe=>hm e.1)]at h
  exact h
def qH {x y:Int}{Q:Int->World->Prop}(h:Q (gR mw mh x y) w0):zm mw mh x y w0 Q:=by
 apply XY
 apply pA
 by_cases hm:iX mw mh
 ·rw[decide_eq_true hm,Bool.not_true,cond_false]
  by_cases h1:x<0
  ·rw[bY h1]
   rw[r6 (by omega)]at h
   exact h
  rw[bD h1]
  by_cases h2:x≥mw
  ·rw[bY h2]
   rw[r6 (by omega)]at h
   exact h
  rw[bD h2]
  by_cases h3:y<0
  ·rw[bY h3]
   rw[r6 (by omega)]at h
   exact h
  rw[bD h3]
  by_cases h4:y≥mh
  ·rw[bY h4]
   rw[r6 (by omega)]at h
   exact h
  rw[bD h4]
  rw[mV hm (by omega) (by omega)]at h
  have hr:=HH (Zp (x:=x) (y:=y) hm (by omega) (by omega))
  have h0:0<=y*mw:=Int.mul_nonneg (by omega) (by omega)
  rw[aJ (n:=y*mw),aJ]
  exact h
 ·unfold gR at h
  grind
def CW {Q:Int->Int->World->Prop}(s0:Sep F W w0 L)(h:∀w',Sep F W w' L->Fr No w0 w'->Q (if bE mw mh c then c%mw else-1) (if bE mw mh c then c/mw else-1) w'):sA mw mh c w0 Q:=by
 apply Wq
 apply GX
 by_cases hc:bE mw mh c
 ·have NM:=hc.2
  have hx:=Hh hc
  have BC:=hc.1.2
  rw[decide_eq_true hc,Bool.not_true,cond_false]
  refine⟨by omega,⟨by omega,?_⟩⟩
  rw[Int.tmod_eq_emod_of_nonneg NM.1,Int.tdiv_eq_ediv_of_nonneg NM.1,aJ]
  have:=h _ (ay s0) Fr.refl
  grind
 ·have:=h _ s0 Fr.refl
  grind
def kj {sd:Int}{Q:Int->World->Prop}(s0:Sep F W w0 L)(h:∀w',Sep F W w' L->Fr No w0 w'->Q (aY mw mh c sd) w'):nQ mw mh c sd w0 Q:=by
 apply X1
 refine CW s0 λw s f=>?_
 have h:=h w s f
 unfold aY at h
 by_cases hc:bE mw mh c
 ·rw[if_pos hc,if_pos hc]
  rw[if_pos hc]at h
  have hx:=Hh hc
  have hm:=hc.1.1
  have BC:=hc.1.2
  rw[bD]
  by_cases k0:sd=0
  ·rw[dJ k0,cond_true]
   rw[if_pos k0]at h
   unfold wv m8
   rw[aJ]
   exact qH h
  rw[cM k0,cond_false]
  rw[if_neg k0]at h
  by_cases k2:sd=2
  ·rw[dJ k2,cond_true]
   rw[if_pos k2]at h
   unfold wv m8
   rw[aJ]
   exact qH h
  rw[cM k2,cond_false]
  rw[if_neg k2]at h
  by_cases k3:sd=3
  ·rw[dJ k3,cond_true]
   rw[if_pos k3]at h
   unfold wB m8
   rw[aJ]
   exact qH h
  rw[cM k3,cond_false]
  rw[if_neg k3]at h
  by_cases k1:sd=1
  ·rw[dJ k1,cond_true]
   rw[if_pos k1]at h
   unfold wB m8
   rw[aJ]
   exact qH h
  rw[cM k1,cond_false]
  rw[if_neg k1]at h
  by_cases k4:sd=4
  ·rw[dJ k4,cond_true]
   rw[if_pos k4]at h
   exact qH h
  grind
 grind
def xO (w h a b:Int):Int:=
 if bE w h a/\bE w h b then if aY w h a 0=b then 0 else if aY w h a 1=b then 1 else if aY w h a 2=b then 2 else if aY w h a 3=b then 3 else if aY w h a 4=b then 4 else 5 else 5
def Yl {b:Int}{Q:Int->World->Prop}(s0:Sep F W w0 L)(h:∀w',Sep F W w' L->Fr No w0 w'->Q (xO mw mh c b) w'):DR mw mh c b w0 Q:=by
 apply X6
 apply GX
 by_cases hc:bE mw mh c
 ·rw[decide_eq_true hc,Bool.not_true,cond_false]
  apply GX
  by_cases hb:bE mw mh b
  ·rw[decide_eq_true hb,Bool.not_true,cond_false]
   have s:=bt (F:=No) (w:=w0)
   have fin:∀(w:World) (r:Int),xO mw mh c b=r->Sep No w0 w []->Q r w:=by
    intro w r e s
    subst e
    exact h _ (b9 s0 (au s)) (au s)
   unfold xO at fin
   refine⟨6,?_⟩
   show ij Q (mI Q 5) _ _ _ _ _ _
   unfold ij
   refine kj s λw s _=>?_
   by_cases k0:aY mw mh c 0=b
   ·grind
   rw[cM k0,cond_false,wrap_i64 (by decide) (by decide)]
   show ij Q (mI Q 4) _ _ _ _ _ _
   unfold ij
   refine kj s λw s _=>?_
   by_cases k0:aY mw mh c 1=b
   ·grind
   rw[show(aY mw mh c (0+1)==b)=false from cM k0,cond_false,wrap_i64 (by decide) (by decide)]
   show ij Q (mI Q 3) _ _ _ _ _ _
   unfold ij
   refine kj s λw s _=>?_
   by_cases k0:aY mw mh c 2=b
   ·grind
   rw[show(aY mw mh c (0+1+1)==b)=false from cM k0,cond_false,wrap_i64 (by decide) (by decide)]
   show ij Q (mI Q 2) _ _ _ _ _ _
   unfold ij
   refine kj s λw s _=>?_
   by_cases k0:aY mw mh c 3=b
   ·grind
   rw[show(aY mw mh c (0+1+1+1)==b)=false from cM k0,cond_false,wrap_i64 (by decide) (by decide)]
   show ij Q (mI Q 1) _ _ _ _ _ _
   unfold ij
   refine kj s λw s _=>?_
   by_cases k0:aY mw mh c 4=b
   ·grind
   rw[show(aY mw mh c (0+1+1+1+1)==b)=false from cM k0,cond_false,wrap_i64 (by decide) (by decide)]
   show ij Q (mI Q 0) _ _ _ _ _ _
   unfold ij
   grind
  ·have:=h _ s0 Fr.refl
   unfold xO at this
   grind
 ·have:=h _ s0 Fr.refl
  unfold xO at this
  grind
def Ym (w h:Int):Int:=if iX w h then cF w else 0
def ab0 (w h:Int):Int:=if iX w h then cF h else 0
def qt {Q:Int->Int->World->Prop}(h:Q (Ym mw mh) (ab0 mw mh) w0):kO mw mh w0 Q:=by
 apply SV
 apply pA
 unfold Ym ab0 at h
 by_cases hm:iX mw mh
 ·have h1:=hm.1
  have h2:=hm.2
  rw[decide_eq_true hm,Bool.not_true,cond_false]
  refine⟨by decide,by decide,?_⟩
  rw[aJ (n:=mw+16),aJ (n:=mw+16-1),aJ (n:=mh+16),aJ (n:=mh+16-1),
   Int.tdiv_eq_ediv_of_nonneg (by omega),Int.tdiv_eq_ediv_of_nonneg (by omega),aJ,aJ]
  unfold cF at h
  grind
 grind
def eN {Q:Int->World->Prop}(s0:Sep F W w0 L)(h:∀w',Sep F W w' L->Fr No w0 w'->Q (aB mw mh c) w'):dH mw mh c w0 Q:=by
 apply Ud
 refine CW s0 λw s f=>?_
 have h:=h w s f
 unfold aB at h
 by_cases hc:bE mw mh c
 ·rw[if_pos hc,if_pos hc]
  have hs:=(bS hc).2
  unfold aB at hs
  rw[if_pos hc]at h hs
  have hx:=Hh hc
  have hm:=hc.1
  have ha:=Ef hm.1
  have hcs:=gD hm.1 hm.2
  rw[bD]
  apply qt
  rw[Ym,if_pos hm]
  refine⟨by decide,by decide,?_⟩
  have h2:=hm.2
  have a:0<=c/mw/16*cF mw:=Int.mul_nonneg (by omega) (by omega)
  rw[Int.tdiv_eq_ediv_of_nonneg (by omega),Int.tdiv_eq_ediv_of_nonneg (by omega),aJ (n:=c/mw/16),aJ (n:=c%mw/16),aJ (n:=c/mw/16*cF mw),aJ]
  exact h
 grind
def HT {sc:Int}{Q:Int->Int->Bool->World->Prop}(s0:Sep F W w0 L)(h:∀w',Sep F W w' L->Fr No w0 w'->Q (if dG mw mh sc then sc%cF mw*16 else 0) (if dG mw mh sc then sc/cF mw*16 else 0) (decide (dG mw mh sc)) w'):wg mw mh sc w0 Q:=by
 apply Ua
 apply qt
 have no:¬dG mw mh sc->Q 0 0 false w0:=λhn=>by
  have:=h _ s0 Fr.refl
  grind
 by_cases h0:sc<0
 ·rw[bY h0]
  exact no λe=>by have:=e.2;omega
 rw[bD h0]
 unfold Ym ab0
 by_cases hm:iX mw mh
 ·rw[if_pos hm,if_pos hm]
  have hcs:=gD hm.1 hm.2
  have e:cF mw*cF mh=d_ mw mh:=rfl
  rw[e,aJ]
  by_cases h1:sc≥d_ mw mh
  ·rw[bY h1]
   exact no λe=>by have:=e.2;omega
  rw[bD h1]
  have hs:dG mw mh sc:=⟨hm,by omega,by omega⟩
  have hx:=HF hm.1 hm.2 hs.2
  have ha:=Ef hm.1
  have q1:=hm.1
  have q2:=hm.2
  refine⟨by omega,by omega,?_⟩
  rw[Int.tmod_eq_emod_of_nonneg (by omega),Int.tdiv_eq_ediv_of_nonneg (by omega),aJ (n:=sc/cF mw),aJ,aJ]
  have:=h _ (ay s0) Fr.refl
  grind
 ·rw[if_neg hm,if_neg hm,show IntKind.wrap .i64 (0*0)=0 from rfl,bY]
  exact no λe=>hm e.1
def uK {sc:Int}{Q:Int->Int->World->Prop}(s0:Sep F W w0 L)(h:∀w',Sep F W w' L->Fr No w0 w'->Q (XD mw mh sc) (abj mw mh sc) w'):nR mw mh sc w0 Q:=by
 apply XT
 refine HT s0 λw s f=>?_
 have h:=h w s f
 unfold XD abj at h
 by_cases hs:dG mw mh sc
 ·have hx:=HF hs.1.1 hs.1.2 hs.2
  have q1:=hs.1.1
  have q2:=hs.1.2
  rw[aJ,aJ]
  have e1:EU 16 (mw-sc%cF mw*16)=aD mw mh sc:=by unfold EU aD;omega
  have e2:EU 16 (mh-sc/cF mw*16)=bu mw mh sc:=by unfold EU bu;omega
  grind
 grind
def sM {Q:Int->World->Prop}(s0:Sep F W w0 L)(h:∀w',Sep F W w' L->Fr No w0 w'->Q (dA mw mh c) w'):mW mw mh c w0 Q:=by
 apply Wr
 refine CW s0 λw s f=>?_
 by_cases hc:bE mw mh c
 ·rw[if_pos hc,if_pos hc]
  have hx:=Hh hc
  have hl:=jM hc
  have hs:=bS hc
  have hz:=qw hc.1.1 hc.1.2 hs.2
  have el:dA mw mh c=c/mw%16*aD mw mh (aB mw mh c)+c%mw%16:=if_pos hc
  rw[bD]
  refine eN s λw s f2=>?_
  refine uK s λw s f3=>?_
  refine⟨by decide,by decide,?_⟩
  rw[XD,if_pos hs,Int.tmod_eq_emod_of_nonneg (by omega),Int.tmod_eq_emod_of_nonneg (by omega)]
  have a:=Int.mul_le_mul hz.1.2 hz.2.2 (by omega) (by decide)
  rw[aJ (n:=c/mw%16*aD mw mh (aB mw mh c)),aJ,<-el]
  exact h _ s ((f.trans f2 (λ_ _=>id)).trans f3 (λ_ _=>id))
 ·have h:=h _ s f
  unfold dA at h
  grind
def wH {sc l:Int}{Q:Int->World->Prop}(s0:Sep F W w0 L)(h:∀w',Sep F W w' L->Fr No w0 w'->Q (BY mw mh sc l) w'):nV mw mh sc l w0 Q:=by
 apply Ub
 refine HT s0 λw s f=>?_
 refine uK s λw s f2=>?_
 have f:=f.trans f2 (λ_ _=>id)
 have no:¬(dG mw mh sc/\0<=l/\l<aD mw mh sc*bu mw mh sc)->Q (-1) w:=λhn=>by
  have:=h _ s f
  unfold BY at this
  grind
 by_cases hs:dG mw mh sc
 ·unfold XD abj
  rw[if_pos hs,if_pos hs,if_pos hs,if_pos hs,decide_eq_true hs,Bool.not_true,cond_false]
  have hx:=HF hs.1.1 hs.1.2 hs.2
  have hz:=qw hs.1.1 hs.1.2 hs.2
  have q1:=hs.1.1
  have q2:=hs.1.2
  have a:=Int.mul_le_mul hz.1.2 hz.2.2 (by omega) (by decide)
  have b:0<=aD mw mh sc*bu mw mh sc:=Int.mul_nonneg (by omega) (by omega)
  rw[aJ]
  by_cases h0:l<0
  ·grind
  rw[bD h0]
  by_cases h1:l≥aD mw mh sc*bu mw mh sc
  ·grind
  rw[bD h1]
  have hl:0<=l/\l<aD mw mh sc*bu mw mh sc:=by omega
  have hxy:=NO hs hl
  refine⟨by omega,by omega,?_⟩
  rw[Int.tmod_eq_emod_of_nonneg (by omega),Int.tdiv_eq_ediv_of_nonneg (by omega),aJ (n:=l/aD mw mh sc),aJ,aJ]
  apply qH
  have h:=h _ (ay s) f
  unfold BY bU at h
  rw[if_pos ⟨hs,hl⟩]at h
  have e1:sc%cF mw*16+l%aD mw mh sc<mw:=by
   have:aD mw mh sc<=mw-16*(sc%cF mw):=by unfold aD;omega
   omega
  have e2:sc/cF mw*16+l/aD mw mh sc<mh:=by
   have:bu mw mh sc<=mh-16*(sc/cF mw):=by unfold bu;omega
   omega
  rw[mV hs.1 (by omega) (by omega),Int.mul_comm (sc/cF mw) 16,Int.mul_comm (sc%cF mw) 16,<-Int.add_assoc]
  exact h
 grind
end
end Go.Proofs.YtmegplnmiepfbaaGreatDoor.S
namespace Go.Proofs.YtmegplnmiepfbaaGreatDoor.S.Tl
open Go.Sx
def dW:vY P T:=DF P rows GD
attribute [local irreducible] af cw bq bg aC cf bX St Bx Al App cA cq cm bT aI bw aq bR av aj aV
def CX (W H:Int)(cs:List Int):Bool:=decide (1<=W/\W<=16)&&(decide (1<=H/\H<=16)&&(decide ((cs.length:Int)=W*H)&&!decide ((0:Int)∈cs)))
def Yn {W H:Int}{cs:List Int}:CX W H cs=true↔(1<=W/\W<=16)/\(1<=H/\H<=16)/\(cs.length:Int)=W*H/\(0:Int)∉cs:=by
 simp[CX]
section
variable {F:Nat->Prop}{W w:World}{L:List As}{a:Option Addr}{n c:Nat}{cs:List Int}
def apH (h:lJ w a n 1 bA cs){i:Nat}(hi:i<n):∃ad,a=some ad/\w.cell? (ad.add (i*1))=some (.int .u8 (gi cs i)):=by
 obtain⟨ad,e,hc⟩:=h.2 i _ (gT (by rw[h.1];exact hi))
 exact⟨ad,e,hc 0 _ rfl⟩
def aP {k:IntKind}{m:Int}{ad:Addr}{K:Int->Prop}(h:w.cell? ad=some (.int k m))(hk:K m):af k ad w K:=by
 unfold af
 grind
def Kg {m:Int}{Q:Bool->World->Prop}(h:Q (decide (1<=m/\m<=16)) w):zy m w Q:=by
 apply XV
 grind
def ajF {v:Int}{Q:Int->World->Prop}(hA:lJ w a n 1 bA cs)(hn:n<1000000000)(hy:v∈cs->∀i:Nat,Q i w)(hno:v∉cs->Q (-1) w):
  ∀(m i:Nat),i+m=n->(∀j,j<i->gi cs j≠v)->iU Q (m+1) a n c v n i w:=by
 intro m
 induction m with
 |zero=>
  intro i hi Q1
  show kG Q (iU Q 0) _ _ _ _ _ _ _
  rw[kG,bD]
  refine hno λhv=>?_
  obtain⟨j,hj,e⟩:=List.getElem_of_mem hv
  have:=Q1 j (by rw[hA.1]at hj;omega)
  have h2:=gT hj
  grind
 |succ m ih=>
  intro i hi Q1
  show kG Q (iU Q (m+1)) _ _ _ _ _ _ _
  unfold kG
  obtain⟨ad,rfl,hc⟩:=apH hA (i:=i) (by omega)
  rw[bY]
  refine⟨by omega,by omega,ah ?_⟩
  apply aP hc
  by_cases hv:v=gi cs i
  ·rw[hv,beq_self_eq_true,cond_true]
   exact hy (by rw[hv];exact fE (by rw[hA.1];omega)) i
  ·rw[show(v==gi cs i)=false by grind,cond_false,aJ]
   refine ih (i+1) (by omega) λj hj=>?_
   grind
def GY {v:Int}{Q:Bool->World->Prop}(hA:lJ w a n 1 bA cs)(hn:n<1000000000)(h:Q (decide (v∈cs)) w):iH a n c v w Q:=by
 apply EM
 apply GU
 refine⟨n+1,ajF hA hn (λhv i=>?_) (λhv=>?_) n 0 (by omega) (λj hj=>by omega)⟩
 all_goals simp_all
def Ck {tw th:Int}{Q:Bool->World->Prop}(s:Sep F W w L)(hA:lJ w a n 1 bA cs)(h:∀w',Sep F W w' L->Fr No w w'->Q (CX tw th cs) w'):ug tw th a n c w Q:=by
 apply abA
 refine aT (F:=No) bt λb1 w1 s1=>?_
 have hh:=h w1 (b9 s (au s1)) (au s1)
 have hA1:=hA.fr (au s1)
 unfold CX at hh
 apply lI s1 0 rfl
 apply Kg
 cases h1:decide (1<=tw/\tw<=16)with
 |false=>
  grind
 |true=>
  rw[h1,Bool.true_and]at hh
  apply lI s1 0 rfl
  apply Kg
  cases h2:decide (1<=th/\th<=16)with
  |false=>
   grind
  |true=>
   rw[h2,Bool.true_and]at hh
   have h1':=of_decide_eq_true h1
   have h2':=of_decide_eq_true h2
   apply lS s1 0 rfl
   apply lI s1 0 rfl
   apply lI s1 0 rfl
   have hp:1<=tw*th/\tw*th<=256:=by
    have q1:=Int.mul_le_mul h1'.1 h2'.1 (by decide) (by omega)
    have q2:=Int.mul_le_mul h1'.2 h2'.2 (by omega) (by decide)
    omega
   rw[aJ]
   have hl:=hA.1
   by_cases h3:(cs.length:Int)=tw*th
   ·rw[decide_eq_true h3,Bool.true_and]at hh
    rw[show((n:Int)==tw*th)=true by grind,cond_true]
    apply lS s1 0 rfl
    exact GY hA1 (by omega) hh
   grind
def isB (tw th:Int)(cs:List Int)(l:Int):Bool:=decide (0<=l/\l<(cs.length:Int))&&CX tw th cs
def aeL {tw th l:Int}{Q:Bool->World->Prop}(s:Sep F W w L)(hA:lJ w a n 1 bA cs)(h:∀w',Sep F W w' L->Fr No w w'->Q (isB tw th cs l) w'):Iu tw th a n c l w Q:=by
 apply aeH
 refine aT (F:=No) bt λb1 w1 s1=>?_
 have hh:=h w1 (b9 s (au s1)) (au s1)
 have hA1:=hA.fr (au s1)
 have hl:=hA.1
 unfold isB at hh
 by_cases h1:l≥0
 ·rw[bY h1]
  apply lS s1 0 rfl
  by_cases h2:l<(n:Int)
  ·rw[bY h2]
   apply lI s1 0 rfl
   apply lI s1 0 rfl
   apply lS s1 0 rfl
   refine Ck s1 hA1 λw2 s2 k2=>?_
   have hh:=h w2 (b9 s (au s2)) (au s2)
   unfold isB at hh
   grind
  grind
 grind
def atI (tw th:Int)(cs:List Int)(l:Int):Int:=cond (isB tw th cs l) (gi cs l.toNat) 0
def aeM {tw th l:Int}{Q:Int->World->Prop}(s:Sep F W w L)(hA:lJ w a n 1 bA cs)(hcs:∀x∈cs,0<=x/\x<256)(h:∀w',Sep F W w' L->Fr No w w'->Q (atI tw th cs l) w'):It tw th a n c l w Q:=by
 apply aeI
 refine aT (F:=No) bt λb1 w1 s1=>?_
 apply lI s1 0 rfl
 apply lI s1 0 rfl
 apply lS s1 0 rfl
 refine aeL s1 (hA.fr (au s1)) λw2 s2 k2=>?_
 have hh:=h w2 (b9 s (au s2)) (au s2)
 have hA2:=hA.fr (au s2)
 have hl:=hA.1
 unfold atI at hh
 cases hb:isB tw th cs l with
 |false=>
  grind
 |true=>
  rw[hb,cond_true]at hh
  have hr:0<=l/\l<(cs.length:Int):=by
   unfold isB at hb
   grind
  obtain⟨i,rfl⟩:∃i:Nat,l=i:=⟨l.toNat,by omega⟩
  obtain⟨ad,rfl,hc⟩:=apH hA2 (i:=i) (by omega)
  apply lS s2 0 rfl
  refine⟨by omega,by omega,ah ?_⟩
  apply aP hc
  have:=hcs _ (fE (i:=i) (by omega))
  rw[aJ]
  exact hh
end
end Go.Proofs.YtmegplnmiepfbaaGreatDoor.S.Tl
namespace Go.Proofs.YtmegplnmiepfbaaGreatDoor.S.O
open Go.Sx
def dW:vY P T:=DF P rows GD
def wI:zc T 38=[ae 0,ae 0,ae 0,.slice none 0 0]:=rfl
def qQ:zc T 137=[ae 0,ae 0,.bool false]:=rfl
attribute [local irreducible] af cw bq bg aC cf bX St Bx Al App cA cq cm bT aI bw aq bR av aj aV
def Fq {F:Nat->Prop}{W w:World}{L:List As}{k:Int}{Q:Int->Int->Bool->Bool->World->Prop}(s0:Sep F W w L)(h:∀w',Sep F W w' L->Fr No w w'->Q (vZ k) (A7 k) (shL k) (DJ k) w'):v9 k w Q:=by
 apply ZC
 have s:=bt (F:=No) (w:=w)
 by_cases hk:1<=k/\k<=8
 ·have hk':k=1\/k=2\/k=3\/k=4\/k=5\/k=6\/k=7\/k=8:=by omega
  rcases hk' with rfl|rfl|rfl|rfl|rfl|rfl|rfl|rfl
  all_goals
   repeat' first
    |apply lI s 0 rfl
    |apply lS s 0 rfl
    |apply lB s 0 rfl
    |apply lP s 0 rfl
    |apply And.intro (dg s 0 rfl)
    |apply lI s 1 rfl
    |apply lS s 1 rfl
    |apply lB s 1 rfl
    |apply lP s 1 rfl
    |apply And.intro (dg s 1 rfl)
    |(refine sT s 0 rfl λw s=>?_)
    |(refine sT s 1 rfl λw s=>?_)
    |refine aT s λb w s=>?_
    |(refine a_ s λb w s=>?_;simp[wI,qQ]at s)
    |unfold uh
    |unfold mG
    |(replace s:=ay s;first
     |apply lI s 0 rfl
     |apply lS s 0 rfl
     |apply lB s 0 rfl
     |apply lP s 0 rfl
     |apply And.intro (dg s 0 rfl)
     |apply lI s 1 rfl
     |apply lS s 1 rfl
     |apply lB s 1 rfl
     |apply lP s 1 rfl
     |apply And.intro (dg s 1 rfl)
     |(refine ax s (i:=0) rfl rfl rfl λw s=>?_)
     |(refine ax s (i:=1) rfl rfl rfl λw s=>?_;simp[List.set_cons_zero,List.set_cons_succ]at s)
     |refine aT s λb w s=>?_
     |(refine a_ s λb w s=>?_;simp[wI,qQ]at s)
     |unfold uh
     |unfold mG)
  all_goals exact h _ (b9 s0 (au s)) (au s)
 ·have e:∀j:Int,1<=j/\j<=8->(k==j)=false:=λj hj=>by grind
  rw[e 1 (by decide),e 2 (by decide),e 3 (by decide),e 4 (by decide),e 5 (by decide),e 6 (by decide),e 7 (by decide),e 8 (by decide)]
  (refine a_ s λb w s=>?_;simp[wI,qQ]at s)
  (refine a_ s λb w s=>?_;simp[wI,qQ]at s)
  (refine ax s (i:=1) rfl rfl rfl λw s=>?_)
  (refine ax s (i:=1) rfl rfl rfl λw s=>?_)
  (refine ax s (i:=1) rfl rfl rfl λw s=>?_)
  apply lI s 1 rfl
  apply lI s 1 rfl
  apply lB s 1 rfl
  have:=h _ (b9 s0 (au s)) (au s)
  rw[show vZ k=0 by unfold vZ;grind,show A7 k=0 by unfold A7;grind,show shL k=false from decide_eq_false (by omega),show DJ k=false from decide_eq_false (by omega)]at this
  exact this
def IK {w:World}{n:Int}{sz:Nat}{Q:Bool->World->Prop}(hs:sz<=4)(h:Q (Dr n sz) w):zX n sz w Q:=by
 apply aew
 unfold Dr at h
 by_cases h0:n≥0
 ·rw[bY h0]
  have e:Ai .i64 1 (IntKind.wrap .i64 (8*(sz:Int)))=256^sz/\0<=IntKind.wrap .i64 (8*(sz:Int)):=by
   have hs':sz=0\/sz=1\/sz=2\/sz=3\/sz=4:=by omega
   rcases hs' with rfl|rfl|rfl|rfl|rfl<;>decide
  refine⟨e.2,?_⟩
  grind
 grind
def ab1 {a b:Int}{k:Nat}(hk:k<=24)(ha:0<=a/\a<2^k)(hb:0<=b/\b<256):ior .i64 a (Ai .i64 b (k:Int))=a+b*2^k:=by
 obtain⟨m,rfl⟩:∃m:Nat,a=m:=⟨a.toNat,by omega⟩
 obtain⟨p,rfl⟩:∃p:Nat,b=p:=⟨b.toNat,by omega⟩
 have hm:m<2^k:=by grind
 have HD:(2:Nat)^k<=2^24:=Nat.pow_le_pow_right (by decide) hk
 have hp:p*2^k<=255*2^24:=Nat.mul_le_mul (by omega) HD
 have e1:Ai .i64 (p:Int) (k:Int)=((p*2^k:Nat):Int):=by
  unfold Ai
  have e:min ((k:Nat):Int).toNat (IntKind.i64).bits=k:=by simp[IntKind.bits];omega
  rw[e,show(p:Int)*2^k=((p*2^k:Nat):Int) by grind,aJ]
 rw[e1]
 rw[ior,BitVec.ofInt_natCast,BitVec.ofInt_natCast,BitVec.toNat_or,BitVec.toNat_ofNat,BitVec.toNat_ofNat]
 have b64:(IntKind.i64).bits=64:=rfl
 rw[b64,Nat.mod_eq_of_lt (by omega),Nat.mod_eq_of_lt (by omega),Nat.or_comm,Nat.mul_comm p,<-Nat.two_pow_add_eq_or_of_lt hm]
 rw[Nat.mul_comm]at hp
 rw[aJ]
 grind
def an2 (l:List Int)(x:Int):oN (l++[x])=oN l+x*2^(8*l.length):=by
 induction l with
 |nil=>simp[oN]
 |cons y l ih=>
  simp[List.cons_append,oN,ih,List.length_cons]
  grind
def alE {l:List Int}{i:Nat}(h:i<l.length):l.take (i+1)=l.take i++[gi l i]:=by
 rw[List.take_add_one,gT h]
 rfl
section
variable {F:Nat->Prop}{W w:World}{L:List As}{a:Option Addr}{n c:Nat}{bs:List Int}
def Fs {Q:Int->World->Prop}(hA:Sl w a n c 1 bA bs)(hr:gA bs)(hn:n<=4)(h:Q (oN bs) w):we a n c w Q:=by
 apply ZD
 have loop:∀(m i:Nat),i+m=n->vT Q (m+1) (oN (bs.take i)) a n c n i w:=by
  intro m
  induction m with
  |zero=>
   intro i hi
   show zZ Q (vT Q 0) _ _ _ _ _ _ _
   rw[zZ,bD,List.take_of_length_le (by rw[hA.len];omega)]
   exact h
  |succ m ih=>
   intro i hi
   show zZ Q (vT Q (m+1)) _ _ _ _ _ _ _
   rw[zZ,bY]
   apply Sl.Cv hA rfl (by omega)
   have hv:=hr _ (fE (i:=i) (by rw[hA.len];omega))
   rw[aJ,aJ,aJ]
   refine⟨by omega,?_⟩
   have li:(bs.take i).length=i:=by rw[List.length_take,hA.len];omega
   have e:=Zn (hr.take i)
   have e2:(256:Int)^i=2^(8*i):=by rw[Int.pow_mul];rfl
   rw[show 8*(i:Int)=((8*i:Nat):Int) by grind,ab1 (by omega) (by grind) hv]
   have:=ih (i+1) (by omega)
   rw[alE (by rw[hA.len];omega),an2,li]at this
   exact this
 have:=loop n 0 (by omega)
 exact⟨n+1,this⟩
end
end Go.Proofs.YtmegplnmiepfbaaGreatDoor.S.O
namespace Go.Proofs.YtmegplnmiepfbaaGreatDoor.S.O
open Go.Sx
attribute [local irreducible] af cw bq bg aC cf bX St Bx Al App cA cq cm bT aI bw aq bR av aj aV
section
variable {F:Nat->Prop}{W w:World}{L:List As}{a:Option Addr}{n c:Nat}{bs:List Int}
def clone {K:Option Addr->Nat->Nat->World->Prop}(s:Sep F W w L)(h:Sl w a n c 1 bA bs)(hn:n<=1000000000000)(k:∀ra rc w',Sep F W w' (aj ra n rc 5 1 (flat bA bs)::L)->K ra n rc w'):
  App P #[22,22] 22 (.slice none 0 0) (.slice a n c) w K:=by
 have src:=h.src (e:=5) cZ Ag
 refine iL dW (bG s 5 1) (i:=0) (bytes:=1) rfl rfl rfl rfl rfl rfl (by decide) rfl src (by simp[maxLen];omega) (by omega) h.nil λa1 c1 w1 s1=>?_
 grind
def ar1 {K:Option Addr->Nat->Nat->World->Prop}{b:Nat}(s:Sep F W w (av b 5 []::L))(h:Sl w a n c 1 bA bs)(hn:n<=1000000000000)(k:∀ra rc w',Sep F W w' (aj ra n rc 5 1 (flat bA bs)::L)->K ra n rc w'):
  App P #[22,22] 22 (.slice (sZ b) 0 0) (.slice a n c) w K:=by
 have src:=h.src (e:=5) cZ Ag
 have s:=iV (n:=0) (size:=1) s (i:=0) rfl rfl (by decide) (by simp)
 refine iL dW s (i:=0) (bytes:=1) rfl rfl rfl rfl rfl rfl (by decide) rfl src (by simp[maxLen];omega) (by omega) h.nil λa1 c1 w1 s1=>?_
 grind
def aeN {w0:World}{Q:Int->Int->Int->Option Addr->Nat->Nat->Int->World->Prop}(s0:Sep F W w0 L)(hA:Sl w0 a n c 1 bA bs)(hr:gA bs)(hn:0<n)(hn2:n<=1000000000000)
  (h:∀ra rn rc w',rn=(AB bs).1.m.length->Sep F W w' (aj ra rn rc 5 1 (flat bA (AB bs).1.m)::L)->Fr No w0 w'->Q (AB bs).1.k (AB bs).1.A (AB bs).1.B ra rn rc ((AB bs).2:Nat) w'):Is a n c w0 Q:=by
 apply aev
 have hl:=hA.len
 cases bs with
 |nil=>grind
 |cons x r=>
  obtain⟨hx,hr⟩:=hr.cons
  rw[List.length_cons]at hl
  have s:=bt (F:=No) (w:=w0)
  have rr:=hr
  (refine a_ s λb w s=>?_;simp[wI,qQ]at s)
  apply Sl.Cv (hA.fr (au s)).drew rfl (by omega)
  have g0:gi (x::r) 0=x:=rfl
  rw[g0,aJ]
  refine hA.lo (m:=1) rfl (by omega) λta tn tc O8 hT=>?_
  have hT:Sl w0 ta tn tc 1 bA r:=hT
  refine Fq (ay s) λw s k=>?_
  (refine a_ s λb w s=>?_;simp[wI,qQ]at s)
  (refine ax s (i:=0) rfl rfl rfl λw s=>?_)
  (refine ax s (i:=0) rfl rfl rfl λw s=>?_)
  (refine ax s (i:=0) rfl rfl rfl λw s=>?_)
  have short:AB (x::r)=(⟨0,0,0,[]⟩,0)->∀w',Fr No w0 w'->Q 0 0 0 none 0 0 0 w':=λe w' f=>by
   rw[e]at h
   exact h none 0 0 w' rfl (bG (b9 s0 f) 5 1) f
  cases hk:DJ x with
  |false=>
   have e:AB (x::r)=(⟨0,x,0,[]⟩,1):=by rw[BX,if_neg (by grind)]
   rw[e]at h
   (refine ax s (i:=1) rfl rfl rfl λw s=>?_)
   (refine ax s (i:=1) rfl rfl rfl λw s=>?_)
   (refine ax s (i:=1) rfl rfl rfl λw s=>?_)
   (refine ax s (i:=1) rfl rfl rfl λw s=>?_)
   apply lI s 1 rfl
   apply lI s 1 rfl
   apply lI s 1 rfl
   apply lS s 1 rfl
   exact h none 0 0 _ rfl (bG (b9 s0 (au s)) 5 1) (au s)
  |true=>
   apply lB s 0 rfl
   cases hL:shL x with
   |true=>
    by_cases h4:tn<4
    ·rw[bY]
     (refine ax s (i:=1) rfl rfl rfl λw s=>?_)
     (refine ax s (i:=1) rfl rfl rfl λw s=>?_)
     (refine ax s (i:=1) rfl rfl rfl λw s=>?_)
     (refine ax s (i:=1) rfl rfl rfl λw s=>?_)
     apply lI s 1 rfl
     apply lI s 1 rfl
     apply lI s 1 rfl
     apply lS s 1 rfl
     exact short (by rw[BX,if_pos hk,if_pos hL,HE]) _ (au s)
    ·rw[bD]
     refine hT.hi (m:=4) rfl (by omega) λua uc hU=>?_
     apply Fs (hU.fr (au s)) (rr.take 4) (by decide)
     have l4:(r.take 4).length=4:=by grind
     have rg:=Zn (rr.take 4)
     rw[aJ]
     by_cases h5:(tn:Int)-4<oN (r.take 4)
     ·rw[bY h5]
      (refine ax s (i:=1) rfl rfl rfl λw s=>?_)
      (refine ax s (i:=1) rfl rfl rfl λw s=>?_)
      (refine ax s (i:=1) rfl rfl rfl λw s=>?_)
      (refine ax s (i:=1) rfl rfl rfl λw s=>?_)
      apply lI s 1 rfl
      apply lI s 1 rfl
      apply lI s 1 rfl
      apply lS s 1 rfl
      exact short (by rw[BX,if_pos hk,if_pos hL,vm,HE]) _ (au s)
     ·rw[bD h5,aJ,aJ]
      have e:AB (x::r)=(⟨x,0,0,(r.drop 4).take (oN (r.take 4)).toNat⟩,5+(oN (r.take 4)).toNat):=by rw[BX,if_pos hk,if_pos hL,vm,vm]
      rw[e]at h
      refine hT.mid (p:=4) (q:=4+(oN (r.take 4)).toNat) rfl (by omega) (by omega) (by omega) λva vn vc hvn hV=>?_
      rw[show 4+(oN (r.take 4)).toNat-4=(oN (r.take 4)).toNat by omega]at hvn hV
      refine clone s (hV.fr (au s)) (by omega) λra rc w s=>?_
      (refine ax s (i:=2) rfl rfl rfl λw s=>?_)
      (refine ax s (i:=2) rfl rfl rfl λw s=>?_)
      (refine ax s (i:=2) rfl rfl rfl λw s=>?_)
      (refine ax s (i:=2) rfl rfl rfl λw s=>?_)
      apply lI s 2 rfl
      apply lI s 2 rfl
      apply lI s 2 rfl
      apply lS s 2 rfl
      have hq:=h ra vn rc _ (by grind) (dY s0 s (i:=0) rfl) (au s)
      grind
   |false=>
    apply lI s 0 rfl
    apply lI s 0 rfl
    have hab:=anX x
    rw[aJ]
    by_cases h5:tn<vZ x+A7 x
    ·rw[bY]
     (refine ax s (i:=1) rfl rfl rfl λw s=>?_)
     (refine ax s (i:=1) rfl rfl rfl λw s=>?_)
     (refine ax s (i:=1) rfl rfl rfl λw s=>?_)
     (refine ax s (i:=1) rfl rfl rfl λw s=>?_)
     apply lI s 1 rfl
     apply lI s 1 rfl
     apply lI s 1 rfl
     apply lS s 1 rfl
     exact short (by rw[BX,if_pos hk,if_neg (by grind),HE]) _ (au s)
    ·rw[bD]
     have e:AB (x::r)=(⟨x,oN (r.take (vZ x)),oN ((r.drop (vZ x)).take (A7 x)),[]⟩,1+vZ x+A7 x):=by rw[BX,if_pos hk,if_neg (by grind),vm]
     rw[e]at h
     have s:=ay s
     apply lI s 0 rfl
     refine hT.hi (m:=vZ x) rfl (by omega) λua uc hU=>?_
     apply lI s 0 rfl
     apply lI s 0 rfl
     apply lI s 0 rfl
     rw[aJ]
     refine hT.mid (p:=vZ x) (q:=vZ x+A7 x) rfl (by omega) (by omega) (by omega) λva vn vc hvn hV=>?_
     apply lI s 0 rfl
     apply lI s 0 rfl
     apply Fs (hU.fr (au s)) (rr.take _) (by omega)
     apply And.intro (dg s 0 rfl)
     apply And.intro (dg s 0 rfl)
     apply And.intro (dg s 0 rfl)
     apply And.intro (dg s 0 rfl)
     apply And.intro (dg s 0 rfl)
     apply Fs (hV.fr (au s)) ((rr.drop _).take _) (by omega)
     apply And.intro (dg s 0 rfl)
     apply And.intro (dg s 0 rfl)
     (refine ax s (i:=1) rfl rfl rfl λw s=>?_)
     (refine ax s (i:=1) rfl rfl rfl λw s=>?_)
     (refine ax s (i:=1) rfl rfl rfl λw s=>?_)
     (refine ax s (i:=1) rfl rfl rfl λw s=>?_)
     apply And.intro (dg s 0 rfl)
     apply And.intro (dg s 0 rfl)
     apply lI s 1 rfl
     apply lI s 1 rfl
     apply lI s 1 rfl
     apply lS s 1 rfl
     rw[aJ (n:=(1:Int)+(vZ x:Int)),aJ]
     have hq:=h none 0 0 _ rfl (bG (b9 s0 (au s)) 5 1) (au s)
     grind
def agf {Q:Bool->World->Prop}(s0:Sep F W w L)(hA:Sl w a n c 1 bA bs)(hr:gA bs)(hn2:n<=1000000000000)(h:∀w',Sep F W w' L->Fr No w w'->Q (anY bs) w'):JO a n c w Q:=by
 apply af7
 have hl:=hA.len
 by_cases h0:n=0
 ·subst h0
  have:bs=[]:=List.eq_nil_of_length_eq_zero hl
  subst this
  have:=h w s0 Fr.refl
  exact this
 ·rw[show((n:Int)==0)=false by grind,cond_false]
  have s:=bt (F:=No) (w:=w)
  refine aeN s hA hr (by omega) hn2 λra rn rc w _ s _=>?_
  (refine a_ s λb w s=>?_;simp[wI,qQ]at s)
  (refine ax s (i:=0) rfl rfl rfl λw s=>?_)
  (refine ax s (i:=0) rfl rfl rfl λw s=>?_)
  (refine ax s (i:=0) rfl rfl rfl λw s=>?_)
  (refine ax s (i:=0) rfl rfl rfl λw s=>?_)
  have hq:=h _ (b9 s0 (au s)) (au s)
  have hne:bs≠[]:=λe=>by grind
  unfold anY at hq
  rw[decide_eq_true hne,Bool.true_and]at hq
  rw[show(((AB bs).2:Int)==0)=decide ((AB bs).2=0) by grind]
  exact hq
end
def agh {F:Nat->Prop}{W w0:World}{L:List As}{a:Option Addr}{n c:Nat}{o:A6}{Q:Bool->World->Prop}(s0:Sep F W w0 L)(hA:Sl w0 a n c 1 bA o.m)(hr:gA o.m)(hn2:n<=1000000000000)(h:∀w',Sep F W w' L->Fr No w0 w'->Q (DK o) w'):JM o.k o.A o.B a n c w0 Q:=by
 apply af8
 obtain⟨k,A,B,m⟩:=o
 simp only at hA hr h⊢
 have hl:=hA.len
 have hm0:((n:Int)==0)=decide (m=[]):=by
  rw[Bool.eq_iff_iff,beq_iff_eq,decide_eq_true_eq]
  constructor
  ·intro e;simp_all
  grind
 have s:=bt (F:=No) (w:=w0)
 have hh:∀w' Ls,Sep No w0 w' Ls->Q (DK ⟨k,A,B,m⟩) w':=λw' Ls s=>h w' (b9 s0 (au s)) (au s)
 unfold DK at hh
 refine aT s λb w s=>?_
 apply lI s 0 rfl
 by_cases hk:k=0
 ·rw[show(k==0)=true by grind,cond_true]
  apply lI s 0 rfl
  by_cases hA1:A=-1
  ·rw[show(A==-1)=true by grind,cond_true]
   apply lI s 0 rfl
   by_cases hB:B=0
   ·rw[show(B==0)=true by grind,cond_true]
    apply lS s 0 rfl
    refine agf s (hA.fr (au s)) hr hn2 λw s _=>?_
    grind
   grind
  ·rw[show(A==-1)=false by grind,cond_false]
   apply lI s 0 rfl
   refine Fq s λw s _=>?_
   (refine a_ s λb w s=>?_;simp[wI,qQ]at s)
   (refine ax s (i:=0) rfl rfl rfl λw s=>?_)
   (refine ax s (i:=0) rfl rfl rfl λw s=>?_)
   (refine ax s (i:=0) rfl rfl rfl λw s=>?_)
   apply lI s 1 rfl
   apply IK (by decide)
   cases hf:Dr A 1 with
   |false=>
    grind
   |true=>
    cases hs:DJ A with
    |true=>
     grind
    |false=>
     apply lI s 1 rfl
     by_cases hB:B=0
     ·rw[show(B==0)=true by grind,cond_true]
      apply lS s 1 rfl
      grind
     grind
 ·simp[if_neg hk]at hh
  rw[show(k==0)=false by grind,cond_false]
  apply lI s 0 rfl
  refine Fq s λw s _=>?_
  (refine a_ s λb w s=>?_;simp[wI,qQ]at s)
  (refine ax s (i:=0) rfl rfl rfl λw s=>?_)
  (refine ax s (i:=0) rfl rfl rfl λw s=>?_)
  (refine ax s (i:=0) rfl rfl rfl λw s=>?_)
  cases hs:DJ k with
  |false=>
   grind
  |true=>
   have hab:=anX k
   apply lI s 1 rfl
   apply lI s 0 rfl
   apply IK hab.1
   cases hf:Dr A (vZ k)with
   |false=>
    grind
   |true=>
    apply lI s 1 rfl
    apply lI s 0 rfl
    apply IK hab.2
    cases hg:Dr B (A7 k)with
    |false=>
     grind
    |true=>
     apply lS s 1 rfl
     rw[hm0]
     by_cases hm:m=[]
     ·grind
     ·rw[bD hm]
      apply lB s 0 rfl
      have:=hh _ _ s
      cases hL:shL k with
      |false=>grind
      |true=>
       apply lS s 1 rfl
       rw[hs,hf,hg,decide_eq_false hm,Bool.false_or,Bool.true_and,Bool.true_and,Bool.true_and,hL,Bool.true_and]at this
       rwa[show decide ((n:Int)<=4294967295)=decide (m.length<=4294967295)from decide_eq_decide.2 (by omega)]
structure OpR where
 k:Int
 A:Int
 B:Int
 a:Option Addr
 n:Nat
 c:Nat
structure OpV (w:World) (v:OpR) (o:A6):Prop where
 k:v.k=o.k
 A:v.A=o.A
 B:v.B=o.B
 m:Sl w v.a v.n v.c 1 bA o.m
 jR:gA o.m
structure ayK (e:OpR×A6):Prop where
 k:e.1.k=e.2.k
 A:e.1.A=e.2.A
 B:e.1.B=e.2.B
 jR:gA e.2.m
def oH {n lo hi:Int}{w:World}{Q:Int->World->Prop}(h1:lo<=hi)(h2:-1099511627776<=lo)(h3:hi<=1099511627776)(h:Q (lo+n%(hi-lo+1)) w):jh n lo hi w Q:=by
 apply tI
 rw[aJ (n:=hi-lo),aJ]
 generalize hs:hi-lo+1=s at h
 have h4:=Int.lt_tmod_of_pos n (b:=s) (by omega)
 have h5:=Int.tmod_lt_of_pos n (b:=s) (by omega)
 have h6:=Int.tmod_add_mul_tdiv n s
 refine⟨by omega,?_⟩
 generalize ht:Int.tmod n s=t at*
 have e:n%s=t%s:=by rw[<-h6,Int.add_mul_emod_self_left]
 by_cases hn:t<0
 ·rw[bY hn,aJ (n:=t+hi),aJ (n:=t+hi-lo),aJ (n:=t+hi-lo+1),aJ]
  have e2:t%s=t+s:=by rw[<-Int.add_emod_right,Int.emod_eq_of_lt (by omega) (by omega)]
  grind
 ·rw[bD hn,aJ]
  rw[e,Int.emod_eq_of_lt (by omega) h5]at h
  exact h
def Ft {w:World}{m lo hi:Int}{Q:Bool->World->Prop}(h:Q (decide (lo<=m/\m<=hi)) w):lz m lo hi w Q:=by
 apply O2
 grind
section
variable {F:Nat->Prop}{W w w0:World}{L:List As}{a a' b:Option Addr}{n c n' c' m q:Nat}{bs cs:List Int}
def agi {x:Int}{K:Option Addr->Nat->Nat->World->Prop}(s:Sep F W w (aj a n c 5 1 (flat bA bs)::L))(hn:n<=2000000000000)
  (k:∀a' c' w',Sep F W w' (aj a' (n+1) c' 5 1 (flat bA (bs++[x]))::L)->K a' (n+1) c' w'):Bx [.int .u8 x] 5 w λp w1=>App P #[22,22] 22 (.slice a n c) (.slice (some p) 1 1) w1 K:=by
 refine aT s λb w s=>?_
 have src:Src w (sZ b) 1 1 [.int .u8 x]:=⟨rfl,(λu hu=>by rw[List.mem_singleton.1 hu];rfl),λj u hj=>by rw[bZ,Nat.zero_add];exact cg s (i:=0) rfl rfl hj⟩
 refine iL dW s (i:=1) (bytes:=1) rfl rfl rfl rfl rfl rfl (by decide) rfl src (by simp[maxLen];omega) (by omega) (λe=>by cases e) λa1 c1 w1 s1=>?_
 have e:flat bA bs++[.int .u8 x]=flat bA (bs++[x]):=by rw[gK];rfl
 rw[e]at s1
 exact k _ _ _ (ai s1)
def ajI {K:Option Addr->Nat->Nat->World->Prop}(s:Sep F W w (aj a n c 5 1 (flat bA bs)::L))(h:Sl w b m q 1 bA cs)(hn:n+m<=2000000000000)
  (k:∀a' c' w',Sep F W w' (aj a' (n+m) c' 5 1 (flat bA (bs++cs))::L)->K a' (n+m) c' w'):App P #[22,22] 22 (.slice a n c) (.slice b m q) w K:=by
 have src:=h.src (e:=5) cZ Ag
 refine iL dW s (i:=0) (bytes:=1) rfl rfl rfl rfl rfl rfl (by decide) rfl src (by simp[maxLen];omega) (by omega) h.nil λa1 c1 w1 s1=>?_
 rw[<-gK]at s1
 grind
end
section
variable {F:Nat->Prop}{W w w0:World}{L:List As}
def apK {b:Nat}{x:Int}(s:Sep F W w (av b 5 [.int .u8 x]::L)):Sep F W w (aj (sZ b) 1 1 5 1 (flat bA [x])::L):=
 iV s (i:=0) rfl rfl (by decide) (λu hu=>by have hu:u∈[Value.int .u8 x]:=hu;rw[List.mem_singleton]at hu;rw[hu];rfl)
end
end Go.Proofs.YtmegplnmiepfbaaGreatDoor.S.O
namespace Go.Proofs.YtmegplnmiepfbaaGreatDoor.S
open Go.Sx
attribute [local irreducible] af cw bq bg aC cf bX St Bx Al App cA cq cm bT aI bw aq bR av aj aV mapA
def mz {p:Addr}{A B:Prop}(h:B):cond (some p).isNone A B:=h
def zcT:zc T 84=[ae 0,ae 0,.slice none 0 0]:=rfl
structure g7 where
 m:bP
 ep:Int
 vs:List Int
structure wJ (g:g7):Prop where
 may:c8 g.m
 len:(g.vs.length:Int)=d_ g.m.w g.m.h
 ep:1<=g.ep/\g.ep<4611686018427387904
 vs:∀v∈g.vs,1<=v/\v<=g.ep
structure tQ where
 p:Nat
 ca:Option Addr
 cn:Nat
 cc:Nat
 va:Option Addr
 vn:Nat
 vc:Nat
def ajJ (r:tQ)(g:g7):List Value:=[ae g.m.w,ae g.m.h,.slice r.ca r.cn r.cc,ae g.ep,.slice r.va r.vn r.vc]
def ZZ (r:tQ)(g:g7):List As:=[av r.p 174 (ajJ r g),aj r.ca r.cn r.cc 5 1 (flat bA g.m.cs),aj r.va r.vn r.vc 2 1 (flat one g.vs)]
def mM (r:tQ)(g:g7):As:=aV (wJ g) (ZZ r g)
structure nJ (w:World) (r:tQ) (g:g7):Prop where
 ok:wJ g
 cell:∀(j:Nat) v,(ajJ r g)[j]? =some v->w.cell? ((aZ r.p).add j)=some v
 C:Sl w r.ca r.cn r.cc 1 bA g.m.cs
 V:Sl w r.va r.vn r.vc 1 one g.vs
def wJ.iX {g:g7}(h:wJ g):iX g.m.w g.m.h:=⟨h.may.w,h.may.h⟩
section
variable {F:Nat->Prop}{W w w0:World}{L:List As}{r:tQ}{g:g7}
def nJ.fr {w':World}(k:nJ w r g)(f:Fr No w w'):nJ w' r g:=⟨k.ok,λj v h=>Fr.cell f (k.cell j v h) id,k.C.fr f,k.V.fr f⟩
def adk (s:Sep F W w (mM r g::L)):wJ g/\Sep F W w (ZZ r g++L):=iW s
def Z0 (s:Sep F W w (ZZ r g++L))(h:wJ g):Sep F W w (mM r g::L):=dX s h
def oC (s:Sep F W w (mM r g::L)):nJ w r g:=by
 obtain⟨h,s⟩:=adk s
 exact⟨h,λj v hj=>by rw[bZ,Nat.zero_add];exact cg s (i:=0) rfl rfl hj,aK s (i:=1) rfl cZ (by decide),aK s (i:=2) rfl ct (by decide)⟩
def cE (m:bP)(c:Int):Int:=if 0<=c/\c<m.cs.length then gi m.cs c.toNat else 0
def jd {c:Int}{Q:Int->World->Prop}(k:nJ w r g)(h:Q (cE g.m c) w):eU (sZ r.p) c w Q:=by
 apply Qq
 apply mz
 have hl:=k.C.len
 unfold cE at h
 by_cases h0:c<0
 ·grind
 rw[bD h0]
 refine ah (dz (k.cell 2 _ rfl) ?_)
 by_cases h1:c≥(r.cn:Int)
 ·grind
 rw[bD h1]
 refine ah (dz (k.cell 2 _ rfl) ?_)
 rw[HE]at h
 have hb:=k.ok.may.jR _ (fE (i:=c.toNat) (by omega))
 apply k.C.Cv (k:=c.toNat) (by omega) (by omega)
 rw[aJ]
 exact h
def qI {Q:Int->World->Prop}(k:nJ w r g)(h:Q g.ep w):fQ (sZ r.p) w Q:=by
 apply Et
 exact mz (ah (aP (k.cell 3 _ rfl) h))
def Yo {Q:Int->World->Prop}(h:Q 0 w):fQ none w Q:=Et _ _ _ h
def je {Q:Int->Int->World->Prop}(s0:Sep F W w L)(k:nJ w r g)(h:∀w',Sep F W w' L->Fr No w w'->Q g.m.w g.m.h w'):eG (sZ r.p) w Q:=by
 apply Qu
 have k:=k.fr (w':=w.drew) Fr.refl
 exact mz (ah (aP (k.cell 0 _ rfl) (ah (aP (k.cell 1 _ rfl) ⟨k.cell 1 _ rfl,h _ (ay s0) Fr.refl⟩))))
def yI (g:g7)(s:Int):Int:=if 0<=s/\s<g.vs.length then gi g.vs s.toNat else 0
def ru {c:Int}{Q:Int->World->Prop}(k:nJ w r g)(h:Q (yI g c) w):iM (sZ r.p) c w Q:=by
 apply Lq
 apply mz
 have hl:=k.V.len
 unfold yI at h
 by_cases h0:c<0
 ·grind
 rw[bD h0]
 refine ah (dz (k.cell 4 _ rfl) ?_)
 by_cases h1:c≥(r.vn:Int)
 ·grind
 rw[bD h1]
 refine ah (dz (k.cell 4 _ rfl) ?_)
 rw[HE]at h
 exact k.V.pJ (by omega) (by omega) h
def GZ {w h s:Int}(hs:dG w h s){y x:Nat}(hx:(x:Int)<aD w h s):bU w h s (y*aD w h s+x)=bU w h s (y*aD w h s)+x:=by
 obtain⟨e1,e2⟩:=qW (w:=aD w h s) (x:=(x:Int)) (y:=(y:Int)) (by omega)
 obtain⟨e3,e4⟩:=qW (w:=aD w h s) (x:=0) (y:=(y:Int)) (by omega)
 unfold bU
 grind
def alF {m:bP}{s:Int}(hm:c8 m)(hs:dG m.w m.h s){y tw:Nat}(hw:(tw:Int)=aD m.w m.h s)(hy:(y:Int)<bu m.w m.h s){f:Nat}(hf:(f:Int)=bU m.w m.h s (y*aD m.w m.h s)):
  f+tw<=m.cs.length/\((List.range (y*tw)).map λl:Nat=>gi m.cs (bU m.w m.h s l).toNat)++(m.cs.drop f).take tw=(List.range ((y+1)*tw)).map λl:Nat=>gi m.cs (bU m.w m.h s l).toNat:=by
 have hz:=qw hs.1.1 hs.1.2 hs.2
 have hl:=hm.len
 have hin:∀x:Nat,x<tw->0<=bU m.w m.h s (y*aD m.w m.h s)+x/\bU m.w m.h s (y*aD m.w m.h s)+x<m.w*m.h:=λx hx=>by
  rw[<-GZ hs (by omega)]
  refine E1 hs.1.1 hs.1.2 hs.2 ⟨?_,?_⟩
  ·have:0<=(y:Int)*aD m.w m.h s:=Int.mul_nonneg (by omega) (by omega)
   omega
  ·have:((y:Int)+1)*aD m.w m.h s<=bu m.w m.h s*aD m.w m.h s:=Int.mul_le_mul_of_nonneg_right (by omega) (by omega)
   grind
 have atO:=hin (tw-1) (by omega)
 refine⟨by omega,?_⟩
 rw[Nat.add_mul,Nat.one_mul,List.range_add,List.map_append,List.map_map]
 congr 1
 refine List.ext_getElem (by simp;omega) λi h1 h2=>?_
 simp[List.length_map,List.length_range]at h2
 simp only[List.getElem_take,List.getElem_drop,List.getElem_map,List.getElem_range,Function.comp]
 have e:((y*tw+i:Nat):Int)=y*aD m.w m.h s+i:=by grind
 rw[e,GZ hs (by omega)]
 have e2:(bU m.w m.h s (y*aD m.w m.h s)+(i:Int)).toNat=f+i:=by omega
 have:=gT (l:=m.cs) (i:=f+i) (by omega)
 grind
def L5 {sc:Int}{Q:Int->Int->Option Addr->Nat->Nat->Bool->World->Prop}(s0:Sep F W w0 L)(k:nJ w0 r g)
  (hno:¬dG g.m.w g.m.h sc->∀w',Sep F W w' L->Fr No w0 w'->Q 0 0 none 0 0 false w')
  (hyes:dG g.m.w g.m.h sc->∀ta tn tc w',Sep F W w' (aj ta tn tc 5 1 (flat bA (pV g.m sc))::L)->Fr No w0 w'->Q (aD g.m.w g.m.h sc) (bu g.m.w g.m.h sc) ta tn tc true w'):tA (sZ r.p) sc w0 Q:=by
 apply QB
 have s:=bt (F:=No) (w:=w0)
 refine a_ s λqb w s=>?_
 refine je s (k.fr (au s)) λw s _=>?_
 refine uK s λw s _=>?_
 unfold XD abj
 have hm:=k.ok.may
 have hC:=k.C
 have wK:=hC.len
 have hmul:=oO k.ok.iX
 by_cases hs:dG g.m.w g.m.h sc
 ·have hz:=qw hs.1.1 hs.1.2 hs.2
  rw[if_pos hs,if_pos hs,cM (by omega),cond_false]
  obtain⟨tw,O9⟩:∃n:Nat,(n:Int)=aD g.m.w g.m.h sc:=⟨(aD g.m.w g.m.h sc).toNat,by omega⟩
  obtain⟨th,hth⟩:∃n:Nat,(n:Int)=bu g.m.w g.m.h sc:=⟨(bu g.m.w g.m.h sc).toNat,by omega⟩
  refine a_ s λtb w s=>?_
  refine ax s (i:=0) rfl rfl rfl λw s=>?_
  refine ax s (i:=0) rfl rfl rfl λw s=>?_
  refine ax s (i:=0) rfl rfl rfl λw s=>?_
  have s:=cz (bG s 5 1) (List.Perm.refl _)
  have loop:∀(j y:Nat) (ta:Option Addr) (tn tc:Nat) (w:World),y+j=th->tn=y*tw->
    Sep No w0 w [aj ta tn tc 5 1 (flat bA ((List.range (y*tw)).map λl:Nat=>gi g.m.cs (bU g.m.w g.m.h sc l).toNat)),av tb 84 [ae (aD g.m.w g.m.h sc),ae (bu g.m.w g.m.h sc),.slice ta tn tc],av qb 84 [ae 0,ae 0,.slice none 0 0]]->
    n8 Q (j+1) (sZ r.p) sc (aZ qb) g.m.w g.m.h (aD g.m.w g.m.h sc) (aZ tb) (bu g.m.w g.m.h sc) y w:=by
   intro j
   induction j with
   |zero=>
    intro y ta tn tc w hy O8 s
    show q_ Q (n8 Q 0) _ _ _ _ _ _ _ _ _ _
    rw[q_,bD]
    apply lI s 1 rfl
    apply lI s 1 rfl
    apply lS s 1 rfl
    (refine ax s (i:=2) rfl rfl rfl λw s=>?_)
    (refine ax s (i:=2) rfl rfl rfl λw s=>?_)
    (refine ax s (i:=2) rfl rfl rfl λw s=>?_)
    apply lI s 2 rfl
    apply lI s 2 rfl
    apply lS s 2 rfl
    refine hyes hs _ _ _ _ (dY s0 s (i:=0) ?_) (au s)
    unfold pV
    grind
   |succ j ih=>
    intro y ta tn tc w hy O8 s
    show q_ Q (n8 Q (j+1)) _ _ _ _ _ _ _ _ _ _
    unfold q_
    have hyl:(y:Int)*aD g.m.w g.m.h sc+aD g.m.w g.m.h sc<=aD g.m.w g.m.h sc*bu g.m.w g.m.h sc:=by
     have:((y:Int)+1)*aD g.m.w g.m.h sc<=bu g.m.w g.m.h sc*aD g.m.w g.m.h sc:=Int.mul_le_mul_of_nonneg_right (by omega) (by omega)
     grind
    have hy0:0<=(y:Int)*aD g.m.w g.m.h sc:=Int.mul_nonneg (by omega) (by omega)
    have ha:=Int.mul_le_mul hz.1.2 hz.2.2 (by omega) (by decide)
    rw[bY,aJ]
    refine wH s λw s _=>?_
    rw[BY,if_pos ⟨hs,by omega,by omega⟩]
    have hg:=E1 hs.1.1 hs.1.2 hs.2 (l:=(y:Int)*aD g.m.w g.m.h sc) (by omega)
    obtain⟨f,hf⟩:∃n:Nat,(n:Int)=bU g.m.w g.m.h sc (y*aD g.m.w g.m.h sc):=⟨(bU g.m.w g.m.h sc (y*aD g.m.w g.m.h sc)).toNat,by omega⟩
    obtain⟨hin,hrow⟩:=alF hm hs O9 (by omega) hf
    rw[<-hf,aJ]
    have s:=ay s
    apply lS s 1 rfl
    have k':=k.fr (au s)
    refine ah (dz (k'.cell 2 _ rfl) ?_)
    refine k'.C.mid (q:=f+tw) rfl (by omega) (by omega) (by omega) λa' n' c' hn' hS=>?_
    rw[show f+tw-f=tw by omega]at hS hn'
    have hyt:((y*tw:Nat):Int)=(y:Int)*aD g.m.w g.m.h sc:=by grind
    refine O.ajI s hS (by omega) λW7 W8 w s=>?_
    refine ax s (i:=1) rfl rfl rfl λw s=>?_
    rw[aJ]
    grind
  refine⟨th+1,loop th 0 none 0 0 w (by omega) (by omega) ?_⟩
  rw[Nat.zero_mul]
  exact s
 ·rw[if_neg hs,if_neg hs,dJ rfl,cond_true]
  (refine ax s (i:=0) rfl rfl rfl λw s=>?_)
  (refine ax s (i:=0) rfl rfl rfl λw s=>?_)
  (refine ax s (i:=0) rfl rfl rfl λw s=>?_)
  apply lI s 0 rfl
  apply lI s 0 rfl
  apply lS s 0 rfl
  exact hno hs _ (b9 s0 (au s)) (au s)
end
section
variable {F:Nat->Prop}{W w w0:World}{L:List As}{r:tQ}{g:g7}{a:Option Addr}{n c:Nat}{bs:List Int}
def zH {f:Int->List Value}{es:List Int}{e:TypeId}{i k:Nat}{x' idx:Int}{v:Value}{K:World->Prop}(hf:∀x,(f x).length=1)(s:Sep F W w L)(hi:L[i]? =some (aj a n c e 1 (flat f es)))(hk:idx=k)(hkn:k<es.length)(hx':f x'=[v])(hv:v.oneCell'=true)
  (h:∀w',Sep F W w' (L.set i (aj a n c e 1 (flat f (es.set k x'))))->K w'):aH idx n (wA a λp=>St (p.add (idx.toNat*1)) v w K):=by
 have hn:=qL s hi
 rw[iF hf,Nat.mul_one,Nat.mul_one]at hn
 obtain⟨b,o,rfl⟩:=pI s hi (by omega)
 subst hk
 refine⟨by omega,by omega,ah ?_⟩
 obtain⟨x,hx⟩:∃x,es[k]? =some x:=⟨_,List.getElem?_eq_getElem hkn⟩
 have h1:=hf x
 refine dD hf s hi hx (j:=0) (by simp[Addr.add]) (by decide) ?_ hv h
 rw[hx']
 match hfx:f x,h1 with
 |[y],_=>rfl
def Kh {Q:Option Addr->Nat->Nat->World->Prop}(s:Sep F W w L)(hA:Sl w a n c 1 bA bs)(hn:n<=1000000000000)(h:∀ra rc w',Sep F W w' (aj ra n rc 5 1 (flat bA bs)::L)->Fr No w w'->Q ra n rc w'):mC a n c w Q:=by
 apply GS
 cases a with
 |none=>
  have hl:=hA.len
  have:=hA.nil rfl
  have h0:n=0:=by have:=hA.le;omega
  subst h0
  have hb:=List.eq_nil_of_length_eq_zero hl
  subst hb
  exact h _ _ _ (bG s 5 1) Fr.refl
 |some p=>
  apply mz
  refine aT (bt (F:=No)) λb w' s'=>?_
  refine O.ar1 s' (hA.fr (au s')) hn λra rc w' s'=>?_
  exact h _ _ _ (dY s s' (i:=0) rfl) (au s')
def VN (m:bP):Bool:=decide (iX m.w m.h)&&(decide ((m.cs.length:Int)=m.w*m.h)&&!decide ((0:Int)∈m.cs))
def UG {m:bP}(hr:gA m.cs):VN m=true↔c8 m:=by
 simp[VN,Bool.and_eq_true,decide_eq_true_eq,Bool.not_eq_true',decide_eq_false_iff_not]
 constructor
 ·rintro ⟨h1,h2,h3⟩
  refine⟨h1.1,h1.2,h2,λx hx=>?_⟩
  have:=hr x hx
  grind
 ·intro h
  exact⟨⟨h.w,h.h⟩,h.len,λh0=>by have:=h.jR _ h0;omega⟩
def L6 {m:bP}{Q:Bool->World->Prop}(s0:Sep F W w L)(hA:Sl w a n c 1 bA m.cs)(h:∀w',Sep F W w' L->Fr No w w'->Q (VN m) w'):AD m.w m.h a n c w Q:=by
 apply ZH
 refine aT (bt (F:=No)) λmb w s=>?_
 apply lI s 0 rfl
 apply lI s 0 rfl
 apply pA
 have hA:=hA.fr (au s)
 have hl:=hA.len
 have h:=h w (b9 s0 (au s)) (au s)
 unfold VN at h
 by_cases hm:iX m.w m.h
 ·have hmul:=oO hm
  rw[bY hm]
  rw[decide_eq_true hm,Bool.true_and]at h
  apply lS s 0 rfl
  apply lI s 0 rfl
  apply lI s 0 rfl
  rw[aJ]
  by_cases hc:(m.cs.length:Int)=m.w*m.h
  ·rw[dJ (by omega),cond_true]
   rw[decide_eq_true hc,Bool.true_and]at h
   apply lS s 0 rfl
   exact Tl.GY hA.row (by omega) h
  grind
 grind
def Nq (m:bP)(e:Int):g7:=⟨m,e+1,List.replicate (d_ m.w m.h).toNat (e+1)⟩
def aiE {m:bP}{e:Int}(hm:c8 m)(he:0<=e/\e<2305843009213693952):wJ (Nq m e):=by
 have hc:=gD hm.w hm.h
 refine⟨hm,?_,by show 1<=e+1/\e+1<_;omega,λv hv=>?_⟩
 ·show((List.replicate _ _).length:Int)=_
  rw[List.length_replicate]
  show((d_ m.w m.h).toNat:Int)=d_ m.w m.h
  omega
 ·rw[List.eq_of_mem_replicate hv]
  show 1<=e+1/\e+1<=e+1
  omega
def ab2 {m:bP}{e:Int}{Q:Option Addr->World->Prop}(s0:Sep F W w0 L)(hA:Sl w0 a n c 1 bA m.cs)(hr:gA m.cs)(he:0<=e/\e<2305843009213693952)
  (hno:¬c8 m->∀w',Sep F W w' L->Fr No w0 w'->Q none w')(hyes:c8 m->∀r w',Sep F W w' (mM r (Nq m e)::L)->Fr No w0 w'->Q (sZ r.p) w'):GF m.w m.h a n c e w0 Q:=by
 apply abI
 refine aT (bt (F:=No)) λmb w s=>?_
 apply lI s 0 rfl
 apply lI s 0 rfl
 apply lS s 0 rfl
 refine L6 s (hA.fr (au s)) λw s _=>?_
 by_cases hm:c8 m
 ·have hmul:=oO ⟨hm.w,hm.h⟩
  have hl:=hA.len
  have hlen:=hm.len
  have hcn:=gD hm.w hm.h
  rw[(UG hr).2 hm,Bool.not_true,cond_false,bD,bD]
  apply lS s 0 rfl
  refine Kh s (hA.fr (au s)) (by omega) λca cc w s _=>?_
  refine ax s (i:=1) rfl rfl rfl λw s=>?_
  apply lI s 1 rfl
  apply lI s 1 rfl
  apply qt
  unfold Ym ab0
  rw[if_pos ⟨hm.w,hm.h⟩,if_pos ⟨hm.w,hm.h⟩]
  have s:=ay s
  apply lI s 1 rfl
  apply lI s 1 rfl
  apply lS s 1 rfl
  rw[show cF m.w*cF m.h=d_ m.w m.h from rfl,aJ,aJ]
  obtain⟨N,hN⟩:∃N:Nat,d_ m.w m.h=N:=⟨(d_ m.w m.h).toNat,by omega⟩
  rw[hN]
  refine uw (bytes:=8) dW s rfl rfl rfl rfl rfl rfl (by decide) ct rfl (λu hu=>by simp[one]at hu;subst hu;rfl) rfl rfl (Nat.le_refl _) (by omega) (by simp[maxLen];omega) λvb w s=>?_
  refine⟨dg s 2 rfl,dg s 2 rfl,dg s 2 rfl,?_⟩
  refine aT s λgb w s=>?_
  apply lS s 0 rfl
  have loop:∀(j i:Nat) (w:World),i+j=N->Sep No w0 w (av gb 174 [ae m.w,ae m.h,.slice ca n cc,ae (e+1),.slice (sZ vb) N N]::aj (sZ vb) N N 2 1 (flat one (List.replicate i (e+1)++List.replicate j 0))::aj ca n cc 5 1 (flat bA m.cs)::av mb 25 [ae m.w,ae m.h,.slice ca n cc]::[])->
    yw Q (j+1) (aZ gb) N i w:=by
   intro j
   induction j with
   |zero=>
    intro i w hi s
    show Bn Q (yw Q 0) _ _ _ _
    rw[Bn,bD]
    have hi:i=N:=by omega
    subst hi
    have s:=bH (L':=[_,_,_]) [0,2,1] s rfl (by decide)
    have s:Sep No w0 w (ZZ ⟨gb,ca,n,cc,sZ vb,i,i⟩ (Nq m e)++[]):=by
     have e1:(Nq m e).vs=List.replicate i (e+1)++List.replicate 0 0:=by
      show List.replicate (d_ m.w m.h).toNat (e+1)=_
      grind
     show Sep No w0 w [av gb 174 (ajJ ⟨gb,ca,n,cc,sZ vb,i,i⟩ (Nq m e)),aj ca n cc 5 1 (flat bA m.cs),aj (sZ vb) i i 2 1 (flat one (Nq m e).vs)]
     rw[e1]
     exact s
    have s:=Z0 s (aiE hm he)
    exact hyes hm ⟨gb,ca,n,cc,sZ vb,i,i⟩ _ (dY s0 s (i:=0) rfl) (au s)
   |succ j ih=>
    intro i w hi s
    show Bn Q (yw Q (j+1)) _ _ _ _
    rw[Bn,bY]
    have s:=ay s
    apply lS s 0 rfl
    apply lI s 0 rfl
    refine zH (x':=e+1) ct s (i:=1) rfl rfl (by simp) rfl rfl λw s=>?_
    rw[aJ]
    apply ih (i+1) w (by omega)
    have e1:(List.replicate i (e+1)++List.replicate (j+1) 0).set i (e+1)=List.replicate (i+1) (e+1)++List.replicate j 0:=by
     rw[List.set_append_right _ _ (by simp),List.length_replicate,Nat.sub_self,List.replicate_succ,List.set_cons_zero,List.replicate_succ',List.append_assoc]
     rfl
    grind
  exact⟨N+1,loop N 0 w (by omega) s⟩
 ·have hb:VN m=false:=by
   cases hb:VN m with
   |false=>rfl
   |true=>exact(hm ((UG hr).1 hb)).elim
  rw[hb,Bool.not_false,cond_true]
  exact hno hm _ (b9 s0 (au s)) (au s)
def wL (g:g7)(c x:Int):g7:=⟨⟨g.m.w,g.m.h,g.m.cs.set c.toNat x⟩,g.ep+1,g.vs.set (aB g.m.w g.m.h c).toNat (g.ep+1)⟩
def agj {g:g7}(hg:wJ g){c x:Int}(hx:1<=x/\x<=255)(he:g.ep<2305843009213693952):wJ (wL g c x):=by
 refine⟨⟨hg.may.w,hg.may.h,?_,λy hy=>?_⟩,?_,?_,λv hv=>?_⟩
 ·show((g.m.cs.set c.toNat x).length:Int)=_
  rw[List.length_set]
  exact hg.may.len
 ·rcases List.mem_or_eq_of_mem_set hy with hy|rfl
  ·exact hg.may.jR y hy
  ·omega
 ·show((g.vs.set _ _).length:Int)=_
  rw[List.length_set]
  exact hg.len
 ·have:=hg.ep
  show 1<=g.ep+1/\g.ep+1<_
  omega
 ·have:=hg.ep
  show 1<=v/\v<=g.ep+1
  rcases List.mem_or_eq_of_mem_set hv with hv|rfl
  ·have:=hg.vs v hv
   omega
  ·omega
def Z2 {ce x:Int}{Q:Int->World->Prop}(s:Sep F W w (mM r g::L))(he:g.ep<2305843009213693952)
  (h7:¬bE g.m.w g.m.h ce->Q 7 w)(h8:bE g.m.w g.m.h ce->¬(1<=x/\x<=255)->Q 8 w)
  (h0:bE g.m.w g.m.h ce->1<=x/\x<=255->∀w',Sep F W w' (mM r (wL g ce x)::L)->Q 0 w'):zn (sZ r.p) ce x w Q:=by
 apply Qw
 apply mz
 have k:=oC s
 obtain⟨hg,s⟩:=adk s
 have s:=s
 have hl:=k.C.len
 have hlen:=hg.may.len
 by_cases h1:ce<0
 ·rw[bY h1]
  exact h7 λe=>by have:=e.2;omega
 rw[bD h1]
 apply ah
 apply lS s 0 rfl
 by_cases h2:ce≥(r.cn:Int)
 ·rw[bY h2]
  exact h7 λe=>by have:=e.2;omega
 rw[bD h2]
 have hc:bE g.m.w g.m.h ce:=⟨hg.iX,by omega,by omega⟩
 by_cases h3:x<1
 ·grind
 rw[bD h3]
 by_cases h4:x>255
 ·grind
 rw[bD h4]
 have W9:=hg.ep
 apply ah
 apply lS s 0 rfl
 rw[wrap_u8',Int.emod_eq_of_lt (by omega) (by omega)]
 refine zH (k:=ce.toNat) (x':=x) cZ s (i:=1) rfl (by omega) (by omega) rfl rfl λw s=>?_
 apply ah
 apply lI s 0 rfl
 apply ah
 rw[aJ]
 refine ax s (i:=0) rfl rfl rfl λw s=>?_
 have s:=ay s
 apply ah
 apply lS s 0 rfl
 apply ah
 apply lI s 0 rfl
 apply ah
 apply lI s 0 rfl
 apply ah
 apply lI s 0 rfl
 refine eN s λw s _=>?_
 refine⟨dg s 0 rfl,dg s 0 rfl,?_⟩
 have hs:=bS hc
 have hvl:=hg.len
 refine zH (k:=(aB g.m.w g.m.h ce).toNat) (x':=g.ep+1) ct s (i:=2) rfl (by have:=hs.2;omega) (by have:=hs.2;omega) rfl rfl λw s=>?_
 exact h0 hc (by omega) _ (Z0 s (agj hg (by omega) he))
end
def gf (w h c s:Int):Int:=if aY w h c s<0 then-1 else if aB w h (aY w h c s)=aB w h c then-1 else aY w h c s
def eV (m:bP)(c:Int):Bool:=decide (0<cE m c/\cE m c<255)
def l7 (n:Int)(f:Int->Int):List Int:=(List.range n.toNat).map λi:Nat=>f i
def l8 (tw th s:Int):List Int:=
 if s=2 then l7 tw λx=>(th-1)*tw+x
 else if s=0 then l7 tw λx=>0+x
 else if s=1 then l7 th λy=>tw-1+y*tw
 else if s=3 then l7 th λy=>0+y*tw
 else[]
def Z3 {k:IntKind}{n:Int}{K:Int->Prop}(h:K n):dI k (.int k n) K:=by cases k<;>exact h
def ar3 {K:Value->Prop}{a b c d:Int}{j:Nat}{x:Int}(hj:j=0/\x=a\/j=1/\x=b\/j=2/\x=c\/j=3/\x=d)(h:K (ae x)):IxV [ae a,ae b,ae c,ae d] j K:=by
 rcases hj with⟨rfl,rfl⟩|⟨rfl,rfl⟩|⟨rfl,rfl⟩|⟨rfl,rfl⟩<;>exact⟨_,rfl,h⟩
section
variable {F:Nat->Prop}{W w w0:World}{L:List As}{r:tQ}{g:g7}{a:Option Addr}{n c:Nat}{bs:List Int}{mw mh ce:Int}
def Ki {x:Int}{K:Option Addr->Nat->Nat->World->Prop}(s:Sep F W w (aj a n c 3 1 (flat one bs)::L))(hn:n<=1000000000)
  (k:∀a' c' w',Sep F W w' (aj a' (n+1) c' 3 1 (flat one (bs++[x]))::L)->K a' (n+1) c' w'):Bx [ae x] 3 w λp w1=>App P #[29,29] 29 (.slice a n c) (.slice (some p) 1 1) w1 K:=by
 refine aT s λb w s=>?_
 have src:Src w (sZ b) 1 1 [ae x]:=⟨rfl,(λu hu=>by rw[List.mem_singleton.1 hu];rfl),λj u hj=>by rw[bZ,Nat.zero_add];exact cg s (i:=0) rfl rfl hj⟩
 refine iL dW s (i:=1) (bytes:=8) rfl rfl rfl rfl rfl rfl (by decide) rfl src (by simp[maxLen];omega) (by omega) (λe=>by cases e) λa1 c1 w1 s1=>?_
 have e:flat one bs++[ae x]=flat one (bs++[x]):=by rw[gK];rfl
 rw[e]at s1
 exact k _ _ _ (ai s1)
def HU {Q:Int->Int->Int->Int->World->Prop}(s0:Sep F W w L)(h:∀w',Sep F W w' L->Fr No w w'->Q 0 1 2 3 w'):wk w Q:=by
 apply Uh
 refine a_ (bt (F:=No)) λb w s=>?_
 (refine ax s (i:=0) rfl rfl rfl λw s=>?_)
 (refine ax s (i:=0) rfl rfl rfl λw s=>?_)
 (refine ax s (i:=0) rfl rfl rfl λw s=>?_)
 (refine ax s (i:=0) rfl rfl rfl λw s=>?_)
 apply lI s 0 rfl
 apply lI s 0 rfl
 apply lI s 0 rfl
 apply lI s 0 rfl
 exact h _ (b9 s0 (au s)) (au s)
def IX {sd:Int}{Q:Int->World->Prop}(s0:Sep F W w L)(h:∀w',Sep F W w' L->Fr No w w'->Q (gf mw mh ce sd) w'):xK mw mh ce sd w Q:=by
 apply Ws
 refine kj (bt (F:=No)) λw s _=>?_
 have fin:∀w',Sep No _ w' []->Q (gf mw mh ce sd) w':=λw' s=>h w' (b9 s0 (au s)) (au s)
 unfold gf at fin
 by_cases h1:aY mw mh ce sd<0
 ·grind
 rw[bD h1]
 refine eN s λw s _=>?_
 refine eN s λw s _=>?_
 grind
def CY {Q:Bool->World->Prop}(k:nJ w r g)(h:Q (eV g.m ce) w):sB (sZ r.p) ce w Q:=by
 apply Ww
 apply jd k
 unfold eV at h
 grind
def Z4 (n:Nat)(f:Int->Int):l7 ((n+1:Nat):Int) f=l7 n f++[f n]:=by
 unfold l7
 rw[Int.toNat_natCast,Int.toNat_natCast,List.range_succ,List.map_append]
 rfl
def adn {Q:Option Addr->Nat->Nat->World->Prop}{f0:Int}{N:Nat}(hf:0<=f0/\f0<=100000)(hN:N<=16)(h:∀ra rc w',Sep F W w' (aj ra N rc 3 1 (flat one (l7 N λx=>f0+x))::L)->Q ra N rc w'):
  ∀(j i:Nat) (la:Option Addr) (lc:Nat) (w:World),i+j=N->Sep F W w (aj la i lc 3 1 (flat one (l7 i λx=>f0+x))::L)->mX Q (j+1) la i lc f0 N i w:=by
 intro j
 induction j with
 |zero=>
  intro i la lc w hi s
  show sF Q (mX Q 0) _ _ _ _ _ _ _
  unfold sF
  grind
 |succ j ih=>
  intro i la lc w hi s
  show sF Q (mX Q (j+1)) _ _ _ _ _ _ _
  rw[sF,bY,aJ]
  refine Ki s (by omega) λla lc w s=>?_
  rw[aJ]
  rw[<-Z4 i λx=>f0+x]at s
  exact ih (i+1) la lc w (by omega) s
def ado {Q:Option Addr->Nat->Nat->World->Prop}{f0 tw:Int}{N:Nat}(hf:0<=f0/\f0<=100000)(ht:0<=tw/\tw<=16)(hN:N<=16)(h:∀ra rc w',Sep F W w' (aj ra N rc 3 1 (flat one (l7 N λy=>f0+y*tw))::L)->Q ra N rc w'):
  ∀(j i:Nat) (la:Option Addr) (lc:Nat) (w:World),i+j=N->Sep F W w (aj la i lc 3 1 (flat one (l7 i λy=>f0+y*tw))::L)->mY Q (j+1) tw la i lc f0 N i w:=by
 intro j
 induction j with
 |zero=>
  intro i la lc w hi s
  show sG Q (mY Q 0) _ _ _ _ _ _ _ _
  unfold sG
  grind
 |succ j ih=>
  intro i la lc w hi s
  show sG Q (mY Q (j+1)) _ _ _ _ _ _ _ _
  unfold sG
  have h1:0<=(i:Int)*tw:=Int.mul_nonneg (by omega) ht.1
  have h2:(i:Int)*tw<=16*16:=Int.mul_le_mul (by omega) ht.2 ht.1 (by decide)
  rw[bY,aJ (n:=(i:Int)*tw),aJ]
  refine Ki s (by omega) λla lc w s=>?_
  rw[aJ]
  rw[<-Z4 i λy=>f0+y*tw]at s
  exact ih (i+1) la lc w (by omega) s
def UH {tw th sd:Int}{Q:Option Addr->Nat->Nat->World->Prop}(s0:Sep F W w L)(ht:1<=tw/\tw<=16)(hh:1<=th/\th<=16)
  (h:∀ra rn rc w',Sep F W w' (aj ra rn rc 3 1 (flat one (l8 tw th sd))::L)->Q ra rn rc w'):Bi tw th sd w Q:=by
 apply Ui
 have s:=bG s0 3 1
 obtain⟨TW,rfl⟩:∃N:Nat,tw=N:=⟨tw.toNat,by omega⟩
 obtain⟨TH,rfl⟩:∃N:Nat,th=N:=⟨th.toNat,by omega⟩
 unfold l8 at h
 by_cases k2:sd=2
 ·rw[dJ k2,cond_true]
  rw[if_pos k2]at h
  have h1:0<=((TH:Int)-1)*TW:=Int.mul_nonneg (by omega) (by omega)
  have h2:((TH:Int)-1)*TW<=16*16:=Int.mul_le_mul (by omega) (by omega) (by omega) (by decide)
  rw[aJ (n:=(TH:Int)-1),aJ]
  exact⟨TW+1,adn (by omega) (by omega) (λra rc w' s=>h ra TW rc w' s) TW 0 none 0 w (by omega) s⟩
 rw[cM k2,cond_false]
 rw[if_neg k2]at h
 by_cases k0:sd=0
 ·rw[dJ k0,cond_true]
  rw[if_pos k0]at h
  exact⟨TW+1,adn (by omega) (by omega) (λra rc w' s=>h ra TW rc w' s) TW 0 none 0 w (by omega) s⟩
 rw[cM k0,cond_false]
 rw[if_neg k0]at h
 by_cases k1:sd=1
 ·rw[dJ k1,cond_true]
  rw[if_pos k1]at h
  rw[aJ]
  exact⟨TH+1,ado (by omega) (by omega) (by omega) (λra rc w' s=>h ra TH rc w' s) TH 0 none 0 w (by omega) s⟩
 rw[cM k1,cond_false]
 rw[if_neg k1]at h
 by_cases k3:sd=3
 ·rw[dJ k3,cond_true]
  rw[if_pos k3]at h
  exact⟨TH+1,ado (by omega) (by omega) (by omega) (λra rc w' s=>h ra TH rc w' s) TH 0 none 0 w (by omega) s⟩
 rw[cM k3,cond_false]
 rw[if_neg k3]at h
 exact h _ _ _ _ s
end
def bl (b:Bool):List Value:=[.bool b]
def agk (b:Bool):(bl b).length=1:=rfl
def HV (w h sc s:Int):Bool:=decide (0<=gf w h (BY w h sc (gi (l8 (aD w h sc) (bu w h sc) s) 0)) s)
def xP (w h sc:Int)(j:Nat)(l:Nat):Bool:=(List.range j).any λs:Nat=>HV w h sc s&&decide ((l:Int)∈l8 (aD w h sc) (bu w h sc) s)
def uL (w h sc:Int):List Int:=((List.range (aD w h sc*bu w h sc).toNat).filter (xP w h sc 4)).map λl:Nat=>bU w h sc l
def ajM (w h sc:Int)(j l:Nat):xP w h sc (j+1) l=(xP w h sc j l||(HV w h sc j&&decide ((l:Int)∈l8 (aD w h sc) (bu w h sc) j))):=by
 unfold xP
 grind
def mem_range {n x:Int}{f:Int->Int}(h:x∈l7 n f):∃i:Nat,(i:Int)<n/\x=f i:=by
 unfold l7 at h
 grind
def wM (n:Int)(f:Int->Int):(l7 n f).length=n.toNat:=by unfold l7;simp
def agl {tw th sd:Int}(ht:1<=tw/\tw<=16)(hh:1<=th/\th<=16):(l8 tw th sd).length<=16/\(0<=sd/\sd<=3->0<(l8 tw th sd).length)/\∀x∈l8 tw th sd,0<=x/\x<tw*th:=by
 have m1:∀y:Int,0<=y->y<th->0<=y*tw/\y*tw+tw<=tw*th:=λy h1 h2=>by
  have a:0<=y*tw:=Int.mul_nonneg h1 (by omega)
  have b:(y+1)*tw<=th*tw:=Int.mul_le_mul_of_nonneg_right (by omega) (by omega)
  grind
 unfold l8
 split
 ·refine⟨by rw[wM];omega,λ_=>by rw[wM];omega,λx hx=>?_⟩
  obtain⟨i,hi,rfl⟩:=mem_range hx
  have:=m1 (th-1) (by omega) (by omega)
  omega
 ·split
  ·refine⟨by rw[wM];omega,λ_=>by rw[wM];omega,λx hx=>?_⟩
   obtain⟨i,hi,rfl⟩:=mem_range hx
   have:=m1 0 (by omega) (by omega)
   omega
  ·split
   ·refine⟨by rw[wM];omega,λ_=>by rw[wM];omega,λx hx=>?_⟩
    obtain⟨i,hi,rfl⟩:=mem_range hx
    grind
   ·split
    ·refine⟨by rw[wM];omega,λ_=>by rw[wM];omega,λx hx=>?_⟩
     obtain⟨i,hi,rfl⟩:=mem_range hx
     grind
    grind
def alH {N x:Nat}{E:Nat->Bool}:((List.range N).map E).set x true=(List.range N).map λl=>E l||decide (l=x):=by
 refine List.ext_getElem (by simp) λi h1 h2=>?_
 grind
section
variable {F:Nat->Prop}{W w w0:World}{L:List As}{r:tQ}{g:g7}{a:Option Addr}{n c:Nat}{bs:List Int}{mw mh ce sc:Int}
def L7 {α:Type}{f:α->List Value}{es:List α}{e:TypeId}{i k:Nat}{x':α}{idx:Int}{v:Value}{K:World->Prop}(hf:∀x,(f x).length=1)(s:Sep F W w L)(hi:L[i]? =some (aj a n c e 1 (flat f es)))(hk:idx=k)(hkn:k<es.length)(hx':f x'=[v])(hv:v.oneCell'=true)
  (h:∀w',Sep F W w' (L.set i (aj a n c e 1 (flat f (es.set k x'))))->K w'):aH idx n (wA a λp=>St (p.add (idx.toNat*1)) v w K):=by
 have hn:=qL s hi
 rw[iF hf,Nat.mul_one,Nat.mul_one]at hn
 obtain⟨b,o,rfl⟩:=pI s hi (by omega)
 subst hk
 refine⟨by omega,by omega,ah ?_⟩
 obtain⟨x,hx⟩:∃x,es[k]? =some x:=⟨_,List.getElem?_eq_getElem hkn⟩
 have h1:=hf x
 refine dD hf s hi hx (j:=0) (by simp[Addr.add]) (by decide) ?_ hv h
 rw[hx']
 match hfx:f x,h1 with
 |[y],_=>rfl
def alI {P4:Int->Int->Int->Int->Int->Option Addr->Nat->Nat->Int->Int->Int->Int->Int->World->Prop}{Q:Option Addr->Nat->Nat->World->Prop}{tw th sd:Int}{ea la:Option Addr}{N ec ln lc:Nat}{xs:List Int}{E:Nat->Bool}(vp:0<=sd/\sd<=3)(hl:xs.length=ln)(pP:ln<=16)(hx:∀x∈xs,0<=x/\x<N)
  (next:∀w',Sep No w0 w' (aj ea N ec 4 1 (flat bl ((List.range N).map λl=>E l||decide ((l:Int)∈xs)))::aj la ln lc 3 1 (flat one xs)::L)->P4 mw mh sc tw th ea N ec 0 1 2 3 (sd+1) w'):
  ∀(j i:Nat) (w:World),i+j=ln->Sep No w0 w (aj ea N ec 4 1 (flat bl ((List.range N).map λl=>E l||decide ((l:Int)∈xs.take i)))::aj la ln lc 3 1 (flat one xs)::L)->
   qy P4 Q (j+1) mw mh sc tw th ea N ec 0 1 2 3 sd la ln lc ln i w:=by
 intro j
 induction j with
 |zero=>
  intro i w hi s
  show uA P4 Q (qy P4 Q 0) _ _ _ _ _ _ _ _ _ _ _ _ _ _ _ _ _ _ _
  rw[uA,bD,aJ]
  grind
 |succ j ih=>
  intro i w hi s
  show uA P4 Q (qy P4 Q (j+1)) _ _ _ _ _ _ _ _ _ _ _ _ _ _ _ _ _ _ _
  rw[uA,bY]
  have hX:=aK s (i:=1) rfl ct (by decide)
  apply hX.pJ rfl (by omega)
  have hxi:=hx _ (fE (i:=i) (by omega))
  obtain⟨x,hxe⟩:∃x:Nat,gi xs i=x:=⟨(gi xs i).toNat,by omega⟩
  rw[hxe]at hxi⊢
  refine L7 (x':=true) agk s (i:=0) rfl rfl (by simp;omega) rfl rfl λw s=>?_
  rw[aJ]
  apply ih (i+1) w (by omega)
  rw[alH]at s
  have e:(λl:Nat=>(E l||decide ((l:Int)∈xs.take i))||decide (l=x))=λl:Nat=>E l||decide ((l:Int)∈xs.take (i+1)):=by
   funext l
   rw[Bool.or_assoc]
   congr 1
   have ht:xs.take (i+1)=xs.take i++[(x:Int)]:=by
    rw[List.take_add_one,gT (by omega),hxe]
    rfl
   grind
  grind
def alJ {Q:Option Addr->Nat->Nat->World->Prop}{ea:Option Addr}{N ec:Nat}{E:Nat->Bool}(hs:dG mw mh sc)(hN:(N:Int)=aD mw mh sc*bu mw mh sc)(hN2:N<=256)
  (h:∀ra rn rc w',Sep No w0 w' (aj ra rn rc 3 1 (flat one (((List.range N).filter E).map λl:Nat=>bU mw mh sc l))::aj ea N ec 4 1 (flat bl ((List.range N).map E))::L)->Q ra rn rc w'):
  ∀(j i:Nat) (oa:Option Addr) (on oc:Nat) (w:World),i+j=N->on<=i->Sep No w0 w (aj oa on oc 3 1 (flat one (((List.range i).filter E).map λl:Nat=>bU mw mh sc l))::aj ea N ec 4 1 (flat bl ((List.range N).map E))::L)->
   pE Q (j+1) mw mh sc oa on oc ea N ec N i w:=by
 intro j
 induction j with
 |zero=>
  intro i oa on oc w hi ho s
  show sH Q (pE Q 0) _ _ _ _ _ _ _ _ _ _ _ _
  unfold sH
  grind
 |succ j ih=>
  intro i oa on oc w hi ho s
  show sH Q (pE Q (j+1)) _ _ _ _ _ _ _ _ _ _ _ _
  rw[sH,bY]
  obtain⟨b,o,rfl⟩:=pI s (i:=1) rfl (by omega)
  refine⟨by omega,by omega,ah ?_⟩
  apply ahN agk s (i:=1) (k:=i) (j:=0) rfl (x:=E i) (by grind) (by simp[Addr.add]) rfl
  have hf:(List.range (i+1)).filter E=(List.range i).filter E++(if E i=true then[i]else[]):=by
   rw[List.range_succ,List.filter_append]
   grind
  cases hE:E i with
  |true=>
   refine wH s λw s _=>?_
   unfold BY
   refine Ki s (by omega) λoa oc w s=>?_
   rw[aJ]
   apply ih (i+1) oa (on+1) oc w (by omega) (by omega)
   grind
  |false=>
   rw[cond_false,aJ]
   grind
def UI {Q:Option Addr->Nat->Nat->World->Prop}(s0:Sep F W w L)(hs:dG mw mh sc)(h:∀ra rn rc w',Sep F W w' (aj ra rn rc 3 1 (flat one (uL mw mh sc))::L)->Fr No w w'->Q ra rn rc w'):Bg mw mh sc w Q:=by
 apply Uj
 have hz:=qw hs.1.1 hs.1.2 hs.2
 have hmx:=Int.mul_le_mul hz.1.2 hz.2.2 (by omega) (by decide)
 have hmn:=Int.mul_le_mul hz.1.1 hz.2.1 (by decide) (by omega)
 obtain⟨N,hN⟩:∃N:Nat,aD mw mh sc*bu mw mh sc=N:=⟨(aD mw mh sc*bu mw mh sc).toNat,by omega⟩
 refine uK (bt (F:=No)) λw1 s _=>?_
 unfold XD abj
 rw[if_pos hs,if_pos hs,aJ,hN]
 refine uw (bytes:=1) dW s rfl rfl rfl rfl rfl rfl (by decide) agk rfl (λu hu=>by simp[bl]at hu;subst hu;rfl) rfl rfl (Nat.le_refl _) (by omega) (by simp[maxLen];omega) λeb w1 s=>?_
 refine HU s λw1 s _=>?_
 have anE:List.replicate N false=(List.range N).map (xP mw mh sc 0):=by
  refine List.ext_getElem (by simp) λi h1 h2=>?_
  simp[xP]
 rw[anE]at s
 have loop:∀(j i:Nat) (w1:World) (L':List As),i+j=4->Sep No w w1 (aj (sZ eb) N N 4 1 (flat bl ((List.range N).map (xP mw mh sc i)))::L')->
   qz Q (j+1) mw mh sc (aD mw mh sc) (bu mw mh sc) (sZ eb) N N 0 1 2 3 i w1:=by
  intro j
  induction j with
  |zero=>
   intro i w1 L' hi s
   show uB Q (qz Q 0) _ _ _ _ _ _ _ _ _ _ _ _ _ _
   unfold uB
   have hi:i=4:=by omega
   subst hi
   have s:=bG s 3 1
   refine⟨N+1,alJ hs hN.symm (by omega) (λra rn rc w' s=>?_) N 0 none 0 0 w1 (by omega) (by omega) s⟩
   refine h _ _ _ _ (dY s0 s (i:=0) ?_) (au s)
   unfold uL
   grind
  |succ j ih=>
   intro i w1 L' hi s
   show uB Q (qz Q (j+1)) _ _ _ _ _ _ _ _ _ _ _ _ _ _
   rw[uB,bY]
   refine⟨by omega,by omega,?_⟩
   refine ar3 (x:=(i:Int)) (by omega) (Z3 ?_)
   obtain⟨o1,o2,o3⟩:=agl (sd:=(i:Int)) hz.1 hz.2
   refine UH s hz.1 hz.2 λra rn rc w1 s=>?_
   have hX:=aK s (i:=0) rfl ct (by decide)
   have hXl:=hX.len
   rw[cM (by omega),cond_false]
   apply hX.pJ (k:=0) rfl (by omega)
   refine wH s λw1 s _=>?_
   refine IX s λw1 s _=>?_
   have hnew:=ajM mw mh sc i
   by_cases hov:gf mw mh (BY mw mh sc (gi (l8 (aD mw mh sc) (bu mw mh sc) i) 0)) i<0
   ·rw[bY hov,aJ]
    have azd:HV mw mh sc i=false:=by unfold HV;grind
    have e:xP mw mh sc i=xP mw mh sc (i+1):=by funext l;simp_all
    rw[e]at s
    exact ih (i+1) w1 _ (by omega) (ai s)
   ·rw[bD hov]
    have HW:HV mw mh sc i=true:=by unfold HV;grind
    have s:=cz s (List.Perm.swap ..)
    refine⟨rn+1,alI (w0:=w) (L:=L') (E:=xP mw mh sc i) (by omega) hXl (by omega) (λx hx=>by grind) (λw' s=>?_) rn 0 w1 (by omega) ?_⟩
    ·have e:(λl:Nat=>xP mw mh sc i l||decide ((l:Int)∈l8 (aD mw mh sc) (bu mw mh sc) i))=xP mw mh sc (i+1):=by grind
     grind
    simp_all
 exact⟨5,loop 4 0 w1 _ (by omega) s⟩
def aR (m:bP)(sc:Int):List Int:=(uL m.w m.h sc).filter (eV m)
def Z5 (hs:dG mw mh sc):(uL mw mh sc).length<=256:=by
 have hz:=qw hs.1.1 hs.1.2 hs.2
 have hmx:=Int.mul_le_mul hz.1.2 hz.2.2 (by omega) (by decide)
 unfold uL
 grind
def wN {Q:Option Addr->Nat->Nat->World->Prop}(s0:Sep F W w L)(k:nJ w r g)(hs:dG g.m.w g.m.h sc)(h:∀ra rn rc w',Sep F W w' (aj ra rn rc 3 1 (flat one (aR g.m sc))::L)->Fr No w w'->Q ra rn rc w'):nX (sZ r.p) sc w Q:=by
 apply Uk
 refine je (bt (F:=No)) k λw1 s _=>?_
 refine UI s hs λca cn cc w1 s _=>?_
 have wK:=(aK s (i:=0) rfl ct (by decide)).len
 have agm:=Z5 hs
 have loop:∀(j i:Nat) (oa:Option Addr) (on oc:Nat) (w1:World),i+j=cn->on<=i->Sep No w w1 [aj oa on oc 3 1 (flat one (((uL g.m.w g.m.h sc).take i).filter (eV g.m))),aj ca cn cc 3 1 (flat one (uL g.m.w g.m.h sc))]->
   qA Q (j+1) (sZ r.p) oa on oc ca cn cc cn i w1:=by
  intro j
  induction j with
  |zero=>
   intro i oa on oc w1 hi ho s
   show uC Q (qA Q 0) _ _ _ _ _ _ _ _ _ _
   rw[uC,bD]
   rw[List.take_of_length_le (by omega)]at s
   exact h _ _ _ _ (dY s0 s (i:=0) rfl) (au s)
  |succ j ih=>
   intro i oa on oc w1 hi ho s
   show uC Q (qA Q (j+1)) _ _ _ _ _ _ _ _ _ _
   rw[uC,bY]
   apply(aK s (i:=1) rfl ct (by decide)).pJ rfl (by omega)
   apply CY (k.fr (au s))
   have ht:(uL g.m.w g.m.h sc).take (i+1)=(uL g.m.w g.m.h sc).take i++[gi (uL g.m.w g.m.h sc) i]:=by
    rw[List.take_add_one,gT (by omega)]
    rfl
   cases ho2:eV g.m (gi (uL g.m.w g.m.h sc) i)with
   |true=>
    refine Ki s (by omega) λoa oc w1 s=>?_
    rw[aJ]
    apply ih (i+1) oa (on+1) oc w1 (by omega) (by omega)
    grind
   |false=>
    rw[cond_false,aJ]
    apply ih (i+1) oa on oc w1 (by omega) (by omega)
    grind
 exact⟨cn+1,loop cn 0 none 0 0 w1 (by omega) (by omega) (bG s 3 1)⟩
end
def BD (e:Int×Int):List Value:=[ae e.1,ae e.2]
def O_ (e:Int×Int):(BD e).length=2:=rfl
def aiG (e:Int×Int)(u:Value)(h:u∈BD e):u.oneCell'=true:=by
 simp[BD,List.mem_cons,List.not_mem_nil,or_false]at h
 rcases h with rfl|rfl<;>rfl
def Ey (m:bP)(c s:Int):Option (Int×Int):=if 0<=gf m.w m.h c s/\eV m (gf m.w m.h c s)=true then some (gf m.w m.h c s,cE m (gf m.w m.h c s))else none
def Fu (m:bP)(c:Int)(j:Nat):List (Int×Int):=(List.range j).filterMap λs:Nat=>Ey m c s
def uM (m:bP)(c:Int):List (Int×Int):=if eV m c=true then Fu m c 4 else[]
def ah0 (m:bP)(c:Int)(j:Nat):Fu m c (j+1)=Fu m c j++(Ey m c j).toList:=by
 rw[Fu,List.range_succ,List.filterMap_append]
 congr 1
section
variable {F:Nat->Prop}{W w w0:World}{L:List As}{r:tQ}{g:g7}{a:Option Addr}{n c:Nat}{es:List (Int×Int)}{ce:Int}
def an5 {x:Int×Int}{K:Option Addr->Nat->Nat->World->Prop}(s:Sep F W w (aj a n c 292 2 (flat BD es)::L))(hn:n<=1000000000)
  (k:∀a' c' w',Sep F W w' (aj a' (n+1) c' 292 2 (flat BD (es++[x]))::L)->K a' (n+1) c' w'):Bx [ae x.1,ae x.2] 292 w λp w1=>App P #[289,289] 289 (.slice a n c) (.slice (some p) 1 1) w1 K:=by
 refine aT s λb w s=>?_
 have src:Src w (sZ b) 1 2 (BD x):=⟨rfl,aiG x,λj u hj=>by rw[bZ,Nat.zero_add];exact cg s (i:=0) rfl rfl hj⟩
 refine iL dW s (i:=1) (bytes:=16) rfl rfl rfl rfl rfl rfl (by decide) rfl src (by simp[maxLen];omega) (by omega) (λe=>by cases e) λa1 c1 w1 s1=>?_
 have e:flat BD es++BD x=flat BD (es++[x]):=by rw[gK];simp[flat]
 rw[e]at s1
 exact k _ _ _ (ai s1)
def UJ {Q:Option Addr->Nat->Nat->World->Prop}(s0:Sep F W w L)(k:nJ w r g)(h:∀ra rn rc w',Sep F W w' (aj ra rn rc 292 2 (flat BD (uM g.m ce))::L)->Fr No w w'->Q ra rn rc w'):Bf (sZ r.p) ce w Q:=by
 apply Ul
 refine je (bt (F:=No)) k λw1 s _=>?_
 apply CY (k.fr (au s))
 unfold uM at h
 cases ho:eV g.m ce with
 |false=>
  rw[ho,if_neg (by decide)]at h
  exact h _ _ _ _ (bG (b9 s0 (au s)) 292 2) (au s)
 |true=>
  rw[ho,if_pos rfl]at h
  refine HU s λw1 s _=>?_
  have loop:∀(j i:Nat) (oa:Option Addr) (on oc:Nat) (w1:World) (L':List As),i+j=4->on<=i->Sep No w w1 (aj oa on oc 292 2 (flat BD (Fu g.m ce i))::L')->
    nS Q (j+1) (sZ r.p) ce g.m.w g.m.h oa on oc 0 1 2 3 i w1:=by
   intro j
   induction j with
   |zero=>
    intro i oa on oc w1 L' hi HW s
    show uD Q (nS Q 0) _ _ _ _ _ _ _ _ _ _ _ _ _
    unfold uD
    have hi:i=4:=by omega
    subst hi
    exact h _ _ _ _ (dY s0 s (i:=0) rfl) (au s)
   |succ j ih=>
    intro i oa on oc w1 L' hi HW s
    show uD Q (nS Q (j+1)) _ _ _ _ _ _ _ _ _ _ _ _ _
    rw[uD,bY]
    refine⟨by omega,by omega,?_⟩
    refine ar3 (x:=(i:Int)) (by omega) (Z3 ?_)
    refine IX s λw1 s _=>?_
    have hsu:=ah0 g.m ce i
    have skip:Ey g.m ce i=none->∀w1,Sep No w w1 (aj oa on oc 292 2 (flat BD (Fu g.m ce i))::L')->nS Q (j+1) (sZ r.p) ce g.m.w g.m.h oa on oc 0 1 2 3 (IntKind.wrap .i64 ((i:Int)+1)) w1:=λhn w1 s=>by
     rw[aJ]
     grind
    by_cases h1:gf g.m.w g.m.h ce i≥0
    ·rw[bY h1]
     apply CY (k.fr (au s))
     cases h2:eV g.m (gf g.m.w g.m.h ce i)with
     |true=>
      apply jd (k.fr (au s))
      have Hy:Ey g.m ce i=some (gf g.m.w g.m.h ce i,cE g.m (gf g.m.w g.m.h ce i)):=if_pos ⟨h1,h2⟩
      refine an5 (x:=(gf g.m.w g.m.h ce i,cE g.m (gf g.m.w g.m.h ce i))) s (by omega) λoa oc w1 s=>?_
      rw[aJ]
      grind
     |false=>
      exact skip (if_neg (by rw[h2];simp)) _ s
    ·rw[bD h1]
     exact skip (vm) _ s
  exact⟨5,loop 4 0 none 0 0 w1 _ (by omega) (by omega) (bG s 292 2)⟩
end
structure bh where
 c:Int
 s:Int
 k:Int
deriving DecidableEq,Inhabited
def fL (x:bh):List Value:=[ae x.c,ae x.s,ae x.k]
def m9 (x:bh):(fL x).length=3:=rfl
def UK (x:bh)(u:Value)(h:u∈fL x):u.oneCell'=true:=by
 simp[fL,List.mem_cons,List.not_mem_nil,or_false]at h
 rcases h with rfl|rfl|rfl<;>rfl
def UL (x y:Int):Int:=if x<y then-1 else if x>y then 1 else 0
def agn (a b:bh):Int:=if UL a.k b.k≠0 then UL a.k b.k else if UL a.c b.c≠0 then UL a.c b.c else UL a.s b.s
section
variable {F:Nat->Prop}{W w w0:World}{L:List As}
def CZ {x y:Int}{Q:Int->World->Prop}(h:Q (UL x y) w):nY x y w Q:=by
 apply OH
 apply Ap
 rw[wG rfl]
 apply Ap
 rw[wG rfl]
 show cond false _ (cond false _ _)
 unfold UL at h
 grind
def aeP {a:Option Addr}{n c:Nat}{x y z:Int}{Q:Int->World->Prop}(hA:Sl w a n c 1 one [x,y,z])(h:Q (if x≠0 then x else if y≠0 then y else z) w):DV a n c w Q:=by
 have hl:n=3:=hA.len.symm
 subst hl
 apply X7
 refine⟨4,?_⟩
 show mJ Q (qB Q 3) _ _ _ _ _ _ _
 unfold mJ
 apply hA.pJ (k:=0) rfl (by omega)
 show cond (x !=0) _ _
 by_cases hx:x=0
 ·rw[wG hx,cond_false,wrap_i64 (by decide) (by decide)]
  rw[if_neg (λe=>e hx)]at h
  show mJ Q (qB Q 2) _ _ _ _ _ _ _
  unfold mJ
  apply hA.pJ (k:=1) rfl (by omega)
  show cond (y !=0) _ _
  by_cases hy:y=0
  ·rw[wG hy,cond_false,wrap_i64 (by decide) (by decide)]
   rw[if_neg (λe=>e hy)]at h
   show mJ Q (qB Q 1) _ _ _ _ _ _ _
   unfold mJ
   apply hA.pJ (k:=2) rfl (by omega)
   show cond (z !=0) _ _
   by_cases hz:z=0
   ·rw[wG hz,cond_false,wrap_i64 (by decide) (by decide)]
    show mJ Q (qB Q 0) _ _ _ _ _ _ _
    unfold mJ
    grind
   ·rw[Fp hz,cond_true]
    exact h
  ·rw[Fp hy,cond_true]
   rw[if_pos hy]at h
   exact h
 ·rw[Fp hx,cond_true]
  rw[if_pos hx]at h
  exact h
def WJ {x y:bh}{Q:Int->World->Prop}(s0:Sep F W w L)(h:∀w',Sep F W w' L->Fr No w w'->Q (agn x y) w'):CO x.c x.s x.k y.c y.s y.k w Q:=by
 apply Wx
 refine aT (bt (F:=No)) λab w s=>?_
 refine aT s λbb w s=>?_
 have s:=ay s
 apply lI s 1 rfl
 apply lI s 0 rfl
 apply lI s 1 rfl
 apply lI s 0 rfl
 apply lI s 1 rfl
 apply lI s 0 rfl
 apply CZ
 refine⟨dg s 0 rfl,dg s 1 rfl,dg s 0 rfl,dg s 1 rfl,?_⟩
 apply CZ
 refine⟨dg s 0 rfl,dg s 1 rfl,?_⟩
 apply CZ
 refine aT s λpb w s=>?_
 have s:=iV (n:=3) (size:=1) s (i:=0) rfl rfl (by decide) (λu hu=>by simp[List.mem_cons,List.not_mem_nil,or_false]at hu;rcases hu with rfl|rfl|rfl<;>rfl)
 have s:=s
 apply aeP (aK s (i:=0) rfl ct (by decide))
 exact h _ (b9 s0 (au s)) (au s)
def cxF (m f:Nat):(cx m).F f=oK f fns:=rfl
def aww:oK 197 fns=true:=by kernel_rfl
def ah1 {m:Nat}{x y:bh}{Q:Int->World->Prop}(h:CO x.c x.s x.k y.c y.s y.k w Q):gX (cx m) (.func (.func 197) #[] #[]) [.agg #[ae x.c,ae x.s,ae x.k],.agg #[ae y.c,ae y.s,ae y.k]] w λv w'=>dI .i64 v λr=>Q r w':=by
 unfold gX
 simp only
 exact h
end
def Yp (tw th c s:Int):Bool:=if s=0 then c/tw==0 else if s=1 then c%tw==tw-1 else if s=2 then c/tw==th-1 else if s=3 then c%tw==0 else s==4
def zI (tw th:Int)(cs:List Int)(x:bh):Bool:=decide (0<=x.c/\x.c<cs.length)&&(gi cs x.c.toNat !=255&&(decide (0<=x.k/\x.k<=1073741824)&&Yp tw th x.c x.s))
def ry (tw th:Int)(cs:List Int)(xs:List bh):Bool:=Tl.CX tw th cs&&xs.all (zI tw th cs)
section
variable {F:Nat->Prop}{W w w0:World}{L:List As}{a la:Option Addr}{n c ln lc tb:Nat}{cs:List Int}{tw th:Int}{xs:List bh}
def Z6 {ce sd:Int}{Q:Bool->World->Prop}(s0:Sep F W w L)(hw:1<=tw/\tw<=16)(hh:1<=th/\th<=16)(hc:0<=ce/\ce<1000000)(h:∀w',Sep F W w' L->Fr No w w'->Q (Yp tw th ce sd) w'):Fe tw th a n c ce sd w Q:=by
 apply ZR
 refine aT (bt (F:=No)) λtb w s=>?_
 have s:=ay s
 apply lI s 0 rfl
 refine⟨by omega,?_⟩
 apply lI s 0 rfl
 refine⟨by omega,dg s 0 rfl,?_⟩
 have h:=h _ (b9 s0 (au s)) (au s)
 have d0:0<=ce/tw:=Int.ediv_nonneg hc.1 (by omega)
 have d1:ce/tw<=ce:=Int.ediv_le_self _ hc.1
 rw[Int.tdiv_eq_ediv_of_nonneg hc.1,Int.tmod_eq_emod_of_nonneg hc.1,aJ]
 unfold Yp at h
 by_cases k0:sd=0
 ·grind
 rw[cM k0,cond_false]
 rw[if_neg k0]at h
 by_cases k1:sd=1
 ·rw[dJ k1,cond_true]
  rw[if_pos k1]at h
  apply lI s 0 rfl
  rw[aJ]
  exact h
 rw[cM k1,cond_false]
 rw[if_neg k1]at h
 by_cases k2:sd=2
 ·rw[dJ k2,cond_true]
  rw[if_pos k2]at h
  apply lI s 0 rfl
  rw[aJ]
  exact h
 grind
def rz (w:World)(b:Nat)(vs:List Value):Prop:=∀(j:Nat) v,vs[j]? =some v->w.cell? ((aZ b).add j)=some v
def rz.fr {w':World}{b:Nat}{vs:List Value}(k:rz w b vs)(f:Fr No w w'):rz w' b vs:=λj v h=>Fr.cell f (k j v h) id
def kM {b i:Nat}{t:TypeId}{vs:List Value}(s:Sep F W w L)(hi:L[i]? =some (av b t vs)):rz w b vs:=λj v hj=>by
 rw[bZ,Nat.zero_add]
 exact cg s rfl hi hj
def WK {x:bh}{Q:Bool->World->Prop}(s0:Sep F W w L)(hK:rz w tb [ae tw,ae th,.slice a n c])(hA:Sl w a n c 1 bA cs)(hm:Tl.CX tw th cs=true)
  (h:∀w',Sep F W w' L->Fr No w w'->Q (!zI tw th cs x) w'):CQ x.c x.s x.k (sZ tb) w Q:=by
 apply Wz
 obtain⟨h1,h2,h3,_⟩:=Tl.Yn.1 hm
 have hl:=hA.len
 have hmx:=Int.mul_le_mul h1.2 h2.2 (by omega) (by decide)
 refine aT (bt (F:=No)) λsb w1 s=>?_
 have K:=hK.fr (au s)
 have A:=hA.fr (au s)
 have no:zI tw th cs x=false->Q true w1:=λe=>by
  have:=h _ (b9 s0 (au s)) (au s)
  grind
 unfold zI at no h
 apply lI s 0 rfl
 by_cases k1:x.c<0
 ·grind
 rw[bD k1]
 apply lI s 0 rfl
 refine ah (dz (K 2 _ rfl) ?_)
 by_cases k2:x.c≥(n:Int)
 ·grind
 rw[bD k2]
 rw[decide_eq_true (show 0<=x.c/\x.c<cs.length by omega),Bool.true_and]at no h
 refine ah (dz (K 2 _ rfl) ?_)
 apply lI s 0 rfl
 apply A.Cv (k:=x.c.toNat) (by omega) (by omega)
 by_cases k3:gi cs x.c.toNat=255
 ·grind
 rw[cM k3,cond_false]
 rw[Fp k3,Bool.true_and]at no h
 apply lI s 0 rfl
 by_cases k4:x.k<0
 ·grind
 rw[bD k4]
 apply lI s 0 rfl
 by_cases k5:x.k>1073741824
 ·grind
 rw[bD k5]
 rw[decide_eq_true (show 0<=x.k/\x.k<=1073741824 by omega),Bool.true_and]at h
 refine ah (aP (K 0 _ rfl) (aP (K 1 _ rfl) (dz (K 2 _ rfl) ?_)))
 apply lI s 0 rfl
 apply lI s 0 rfl
 refine Z6 s h1 h2 (by omega) λw1 s _=>?_
 exact h _ (b9 s0 (au s)) (au s)
def ayL:oK 210 fns=true:=by kernel_rfl
def alK {m p:Nat}{x:bh}{Q:Bool->World->Prop}(h:CQ x.c x.s x.k (sZ p) w Q):gX (cx m) (.func (.func 210) #[] #[.pointer (sZ p)]) [.agg #[ae x.c,ae x.s,ae x.k]] w λv w'=>dB v λr=>Q r w':=by
 unfold gX
 simp only
 exact h
def an6 {Q:Int->World->Prop}(hK:rz w0 tb [ae tw,ae th,.slice a n c])(hA:Sl w0 a n c 1 bA cs)(hm:Tl.CX tw th cs=true)(hX:Sl w0 la ln lc 3 fL xs)(pP:ln<=1000000)
  (hy:xs.all (zI tw th cs)=true->∀w',Sep No w0 w' []->Q (-1) w')(hno:xs.all (zI tw th cs)=false->∀(i:Nat) w',Sep No w0 w' []->Q i w'):
  ∀(j i:Nat) (w:World),i+j=ln->(xs.take i).all (zI tw th cs)=true->Sep No w0 w []->eO Q (j+1) la ln lc (.func (.func 210) #[] #[.pointer (sZ tb)]) ln i w:=by
 have hl:=hX.len
 intro j
 induction j with
 |zero=>
  intro i w hi ha s
  show fV Q (eO Q 0) _ _ _ _ _ _ _
  unfold fV
  grind
 |succ j ih=>
  intro i w hi ha s
  show fV Q (eO Q (j+1)) _ _ _ _ _ _ _
  rw[fV,bY]
  refine(hX.fr (au s)).El rfl (by omega) λp x hx hc=>?_
  refine aP (hc 0 _ rfl) (aP (hc 1 _ rfl) (aP (hc 2 _ rfl) ?_))
  refine alK (WK s (hK.fr (au s)) (hA.fr (au s)) hm λw s _=>?_)
  cases hb:zI tw th cs x with
  |false=>
   grind
  |true=>
   rw[Bool.not_true,cond_false,aJ]
   refine ih (i+1) w (by omega) ?_ s
   rw[List.take_add_one,hx,List.all_append,ha]
   simp[hb]
def L8 {Q:Bool->World->Prop}(s0:Sep F W w L)(hA:Sl w a n c 1 bA cs)(hX:Sl w la ln lc 3 fL xs)(pP:ln<=1000000)(h:∀w',Sep F W w' L->Fr No w w'->Q (ry tw th cs xs) w'):AE tw th a n c la ln lc w Q:=by
 apply ZS
 refine aT (bt (F:=No)) λtb w1 s=>?_
 apply lI s 0 rfl
 apply lI s 0 rfl
 apply lS s 0 rfl
 refine Tl.Ck s (hA.fr (au s)).row λw1 s _=>?_
 have fin:∀(r:Bool) (w':World),ry tw th cs xs=r->Fr No w w'->Q r w':=λr w' e f=>by
  subst e
  exact h _ (b9 s0 f) f
 unfold ry at fin
 cases hm:Tl.CX tw th cs with
 |false=>
  rw[hm,Bool.false_and]at fin
  exact fin _ _ rfl (au s)
 |true=>
  rw[hm,Bool.true_and]at fin
  have f1:=au s
  apply xF
  apply zG
  refine⟨ln+1,an6 (kM s (i:=0) rfl) (hA.fr f1) hm (hX.fr f1) pP (λha w' s'=>?_) (λha i w' s'=>?_) ln 0 w1 (by omega) rfl bt⟩
  ·exact fin _ _ ha (f1.trans (au s') (λ_ _=>id))
  ·exact fin _ _ ha (f1.trans (au s') (λ_ _=>id))
end
end Go.Proofs.YtmegplnmiepfbaaGreatDoor.S
namespace Go.Proofs.YtmegplnmiepfbaaGreatDoor.S
open Go.Sx
def jV {n:Int}(h:0<=n/\n<18446744073709551616):IntKind.wrap .u64 n=n:=by
 have:IntKind.wrap .u64 n=n%18446744073709551616:=by simp[IntKind.wrap,IntKind.bits,IntKind.signed]
 grind
def L9 {x:Int}(h:0<=x/\x<4294967296):oJ .u64 x 32=0:=by
 show x.fdiv (2^32)=0
 grind
def UM {x:Int}(h:0<=x/\x<4294967296):A1 .u64 x 4294967295=x:=by
 obtain⟨n,rfl⟩:∃n:Nat,x=n:=⟨x.toNat,by omega⟩
 have e:(BitVec.ofInt 64 (n:Int)&&&BitVec.ofInt 64 4294967295).toNat=n:=by
  rw[BitVec.toNat_and]
  have e1:(BitVec.ofInt 64 (n:Int)).toNat=n:=by grind
  have e2:(BitVec.ofInt 64 4294967295).toNat=2^32-1:=by decide
  rw[e1,e2,Nat.and_two_pow_sub_one_eq_mod]
  omega
 show IntKind.wrap .u64 ((BitVec.ofInt 64 (n:Int)&&&BitVec.ofInt 64 4294967295).toNat:Nat)=_
 rw[e]
 exact jV (by omega)
def ar4 {x y:Int}(hx:0<=x/\x<1048577)(hy:0<=y/\y<1048577):0<=x*y/\x*y<2000000000000:=by
 have a:=Int.mul_nonneg hx.1 hy.1
 have b:x*y<=1048576*1048576:=Int.mul_le_mul (by omega) (by omega) hy.1 (by decide)
 omega
def Cm {w:World}{x y:Int}{Q:Int->Int->World->Prop}(hx:0<=x/\x<1048577)(hy:0<=y/\y<1048577)(hxy:x*y<4294967296)(h:Q 0 (x*y) w):qf x y w Q:=by
 have hm:=ar4 hx hy
 apply SW
 apply Ol
 refine⟨by decide,by decide,by decide,by decide,by decide,?_⟩
 rw[L9 (by omega),L9 (by omega),UM (by omega),UM (by omega)]
 simp[Int.zero_mul,Int.mul_zero,Int.zero_add,Int.add_zero,jV (n:=0) (by decide),jV (n:=x*y) (by omega),L9 (x:=x*y) (by omega),L9 (x:=0) (by decide),UM (x:=0) (by decide)]
 exact h
end Go.Proofs.YtmegplnmiepfbaaGreatDoor.S
namespace Go.Proofs.YtmegplnmiepfbaaGreatDoor.S
open Go.Sx
attribute [local irreducible] af cw bq bg aC cf bX St Bx Al App cA cq cm bT aI bw aq bR av aj aV mapA
def Kj:∀l:List Int,flat one l=l.map λx=>Value.int .i64 x
 |[]=>rfl
 |x::l=>by
  have:=Kj l
  simp[flat,List.flatMap_cons,List.map_cons]at this⊢
  rw[this]
  rfl
def Ee (x:Int)(u:Value)(h:u∈one x):u.oneCell'=true:=by
 simp[one,List.mem_singleton]at h
 rw[h]
 rfl
def an7 {v z:Int}{n k N:Nat}(hk:k<=n)(hN:n+k<=N):
  (flat one (List.replicate n v++List.replicate (N-n) z)).take (n*1)++(flat one ((List.replicate n v++List.replicate (N-n) z).take n)).take (k*1)++(flat one (List.replicate n v++List.replicate (N-n) z)).drop ((n+k)*1)=flat one (List.replicate (n+k) v++List.replicate (N-(n+k)) z):=by
 simp only[Kj,Nat.mul_one]
 rw[<-List.map_take,<-List.map_take,<-List.map_drop,<-List.map_append,<-List.map_append]
 congr 1
 rw[List.take_left' (by simp),List.take_replicate,Nat.min_eq_left hk,List.replicate_append_replicate,<-List.drop_drop,List.drop_left' (by simp),List.drop_replicate,Nat.sub_sub]
section
variable {F:Nat->Prop}{W w w0:World}{L:List As}{xa:Option Addr}{xc:Nat}{v:Int}
def ah2 {Q:Option Addr->Nat->Nat->World->Prop}{b N:Nat}(hN:N<=1048576)(h:∀w',Sep No w0 w' (aj (sZ b) N N 3 1 (flat one (List.replicate N v))::L)->Q (sZ b) N N w'):
  ∀(m n:Nat) (w:World),N<=n+m->1<=n->n<=N->Sep No w0 w (aj (sZ b) N N 3 1 (flat one (List.replicate n v++List.replicate (N-n) 0))::L)->kY Q (m+1) (sZ b) N N n w:=by
 have done:∀(R:Option Addr->Nat->Nat->Int->World->Prop) (w:World),Sep No w0 w (aj (sZ b) N N 3 1 (flat one (List.replicate N v++List.replicate (N-N) 0))::L)->kX Q R (sZ b) N N N w:=λR w s=>by
  unfold kX
  grind
 intro m
 induction m with
 |zero=>
  intro n w hm h1 h2 s
  have:n=N:=by omega
  subst this
  exact done _ _ s
 |succ m ih=>
  intro n w hm h1 h2 s
  show kX Q (kY Q (m+1)) _ _ _ _ _
  by_cases hn:n=N
  ·grind
  ·rw[kX,bY]
   apply NL rfl h2
   rw[vm]
   apply NK rfl h2
   have s:=ay s
   have hT:=(aK s (i:=0) rfl ct (by decide)).top h2
   refine DI (p:=n) dW s rfl rfl rfl rfl (by decide) (i:=0) rfl (hT.src (e:=3) ct Ee) (by omega) (by simp[Addr.add];omega) λw s=>?_
   rw[an7 (Nat.min_le_left _ _) (by omega)]at s
   have e:IntKind.wrap .i64 ((n:Int)+((min n (N-n):Nat):Int))=((n+min n (N-n):Nat):Int):=by
    rw[aJ]
    omega
   grind
def Kk {N:Nat}{Q:Option Addr->Nat->Nat->World->Prop}(s0:Sep F W w L)(hA:Sl w xa 1 xc 1 one [v])(hN:1<=N/\N<=1048576)
  (h:∀ra w',Sep F W w' (aj ra N N 3 1 (flat one (List.replicate N v))::L)->Fr No w w'->Q ra N N w'):jS xa 1 xc N w Q:=by
 apply HP
 rw[bD,jV (by decide),jV (by omega)]
 apply Cm (by decide) (by omega) (by omega)
 have e1:((1:Nat):Int)*N=N:=by omega
 rw[e1,bD (by decide),bD,aJ]
 refine uw (bytes:=8) dW (bt (F:=No)) rfl rfl rfl rfl rfl rfl (by decide) ct rfl (λu hu=>Ee 0 u hu) rfl rfl (Nat.le_refl _) (by omega) (by simp[maxLen];omega) λb w' s=>?_
 refine DI (p:=0) dW s rfl rfl rfl rfl (by decide) (i:=0) rfl ((hA.fr (au s)).src (e:=3) ct Ee) (by omega) rfl λw' s=>?_
 have hm:min 1 N=1:=by omega
 rw[hm]at s⊢
 have e2:(flat one (List.replicate N 0)).take (0*1)++(flat one [v]).take (1*1)++(flat one (List.replicate N 0)).drop ((0+1)*1)=flat one (List.replicate 1 v++List.replicate (N-1) 0):=by
  simp only[Kj,Nat.zero_mul,List.take_zero,List.nil_append,Nat.mul_one,Nat.zero_add]
  simp_all
 rw[e2]at s
 exact⟨N+1,ah2 hN.2 (λw' s=>h _ _ (dY s0 s (i:=0) rfl) (au s)) N 1 w' (by omega) (by omega) hN.1 s⟩
end
section
variable {F:Nat->Prop}{W w w0:World}{L:List As}{a:Option Addr}{n c:Nat}{xs:List bh}{bs:List Int}
def UN {Q:Option Addr->Nat->Nat->World->Prop}(s:Sep F W w L)(hA:Sl w a n c 3 fL xs)(hn:n<=1000000000)(h:∀ra rc w',Sep F W w' (aj ra n rc 294 3 (flat fL xs)::L)->Fr No w w'->Q ra n rc w'):iZ a n c w Q:=by
 apply Bo
 cases a with
 |none=>
  have hl:=hA.len
  have:=hA.nil rfl
  have h0:n=0:=by have:=hA.le;omega
  subst h0
  have hb:=List.eq_nil_of_length_eq_zero hl
  subst hb
  exact h _ _ _ (bG s 294 3) Fr.refl
 |some p=>
  apply mz
  refine aT (bt (F:=No)) λb w' s'=>?_
  have src:=(hA.fr (au s')).src (e:=294) m9 UK
  have s':=iV (n:=0) (size:=3) s' (i:=0) rfl rfl (by decide) (by simp)
  refine iL dW s' (i:=0) (bytes:=24) rfl rfl rfl rfl rfl rfl (by decide) rfl src (by simp[maxLen];omega) (by omega) (hA.fr (au s')).nil λa1 c1 w1 s1=>?_
  simp[List.set_cons_zero,List.nil_append,Nat.zero_add]at s1⊢
  exact h _ _ _ (dY s s1 (i:=0) rfl) (au s1)
def Kl {Q:Option Addr->Nat->Nat->World->Prop}(s:Sep F W w L)(hA:Sl w a n c 1 one bs)(hn:n<=1000000000)(h:∀ra rc w',Sep F W w' (aj ra n rc 3 1 (flat one bs)::L)->Fr No w w'->Q ra n rc w'):kF a n c w Q:=by
 apply IF
 cases a with
 |none=>
  have hl:=hA.len
  have:=hA.nil rfl
  have h0:n=0:=by have:=hA.le;omega
  subst h0
  have hb:=List.eq_nil_of_length_eq_zero hl
  subst hb
  exact h _ _ _ (bG s 3 1) Fr.refl
 |some p=>
  apply mz
  refine aT (bt (F:=No)) λb w' s'=>?_
  have src:=(hA.fr (au s')).src (e:=3) ct Ee
  have s':=iV (n:=0) (size:=1) s' (i:=0) rfl rfl (by decide) (by simp)
  refine iL dW s' (i:=0) (bytes:=8) rfl rfl rfl rfl rfl rfl (by decide) rfl src (by simp[maxLen];omega) (by omega) (hA.fr (au s')).nil λa1 c1 w1 s1=>?_
  simp[List.set_cons_zero,List.nil_append,Nat.zero_add]at s1⊢
  exact h _ _ _ (dY s s1 (i:=0) rfl) (au s1)
end
def w32 (x:Int):List Value:=[.int .u32 x]
def VO (x:Int):(w32 x).length=1:=rfl
structure Pa where
 p:Nat
 a:Option Addr
 n:Nat
 c:Nat
 fA:Int
def VP (ws:List Int):Prop:=∀x∈ws,0<=x/\x<4294967296
def ab3 (r:Pa)(ws:List Int):List As:=[av r.p 247 [.slice r.a r.n r.c,ae r.fA],aj r.a r.n r.c 248 1 (flat w32 ws)]
def uN (r:Pa)(ws:List Int):As:=aV (VP ws) (ab3 r ws)
def wrap_u32' {n:Int}(h:0<=n/\n<4294967296):IntKind.wrap .u32 n=n:=by
 have:IntKind.wrap .u32 n=n%4294967296:=by simp[IntKind.wrap,IntKind.bits,IntKind.signed]
 grind
section
variable {F:Nat->Prop}{W w w0:World}{L:List As}{r:Pa}{ws:List Int}{ce id:Int}
def Q2 (s:Sep F W w (uN r ws::L)):VP ws/\Sep F W w (ab3 r ws++L):=iW s
def Nr (s:Sep F W w (ab3 r ws++L))(h:VP ws):Sep F W w (uN r ws::L):=dX s h
structure Z7 (w:World) (r:Pa) (ws:List Int):Prop where
 ok:VP ws
 cell:rz w r.p [.slice r.a r.n r.c,ae r.fA]
 V:Sl w r.a r.n r.c 1 w32 ws
def Fv (s:Sep F W w (uN r ws::L)):Z7 w r ws:=by
 obtain⟨h,s⟩:=Q2 s
 exact⟨h,kM s (i:=0) rfl,aK s (i:=1) rfl VO (by decide)⟩
def BE (ws:List Int)(c:Int):Int:=if 0<=c/\c<ws.length then gi ws c.toNat-1 else-1
def zJ (ws:List Int)(c:Int):Bool:=decide (0<=c/\c<ws.length)&&gi ws c.toNat==0
def Pb {Q:Bool->World->Prop}(k:Z7 w r ws)(h:Q (decide (0<=ce/\ce<ws.length)) w):tu (sZ r.p) ce w Q:=by
 apply Qv
 have hl:=k.V.len
 show cond true _ _
 rw[cond_true]
 by_cases h0:ce≥0
 ·rw[bY h0]
  refine ah (dz (k.cell 0 _ rfl) ?_)
  grind
 grind
def Km {Q:Bool->World->Prop}(k:Z7 w r ws)(h:Q (zJ ws ce) w):qN (sZ r.p) ce w Q:=by
 apply M6
 apply Pb k
 have hl:=k.V.len
 unfold zJ at h
 by_cases h0:0<=ce/\ce<ws.length
 ·rw[bY h0]
  rw[decide_eq_true h0,Bool.true_and]at h
  refine ah (dz (k.cell 0 _ rfl) ?_)
  exact E0 k.V (by omega) (by omega) h
 grind
def AK {Q:Int->World->Prop}(k:Z7 w r ws)(h:Q (BE ws ce) w):lA (sZ r.p) ce w Q:=by
 apply Ot
 apply Pb k
 have hl:=k.V.len
 unfold BE at h
 by_cases h0:0<=ce/\ce<ws.length
 ·rw[decide_eq_true h0,Bool.not_true,cond_false]
  rw[if_pos h0]at h
  refine ah (dz (k.cell 0 _ rfl) ?_)
  apply E0 k.V (k:=ce.toNat) (by omega) (by omega)
  have hb:=k.ok _ (fE (i:=ce.toNat) (by omega))
  rw[aJ (n:=gi ws ce.toNat),aJ]
  exact h
 grind
def L_ {Q:Bool->World->Prop}(s:Sep F W w (uN r ws::L))(ze:0<=id/\id<4294967295)(hno:zJ ws ce=false->Q false w)
  (hyes:zJ ws ce=true->∀fA w',Sep F W w' (uN {r with fA:=fA} (ws.set ce.toNat (id+1))::L)->Q true w'):rH (sZ r.p) ce id w Q:=by
 apply Oy
 have k:=Fv s
 apply Km k
 cases hf:zJ ws ce with
 |false=>exact hno hf
 |true=>
  rw[Bool.not_true,cond_false,bD,bD]
  have h0:0<=ce/\ce<ws.length:=by
   unfold zJ at hf
   grind
  obtain⟨hok,s⟩:=Q2 s
  have s:=s
  apply ah
  apply lS s 0 rfl
  rw[aJ,wrap_u32' (by omega)]
  refine L7 (k:=ce.toNat) (x':=id+1) VO s (i:=1) rfl (by omega) (by omega) rfl rfl λw s=>?_
  apply ah
  apply lI s 0 rfl
  apply ah
  refine ax s (i:=0) rfl rfl rfl λw s=>?_
  refine hyes hf (IntKind.wrap .i64 (r.fA+1)) _ (Nr s λx hx=>?_)
  rcases List.mem_or_eq_of_mem_set hx with hx|rfl
  ·exact hok x hx
  ·omega
end
section
variable {F:Nat->Prop}{W w w0:World}{L:List As}{r:Pa}{ws:List Int}{ce id:Int}
def Kn {Q:Int->World->Prop}(s:Sep F W w (uN r ws::L))(hno:BE ws ce=-1->Q (-1) w)
  (hyes:BE ws ce≠-1->∀fA w',Sep F W w' (uN {r with fA:=fA} (ws.set ce.toNat 0)::L)->Q (BE ws ce) w'):qM (sZ r.p) ce w Q:=by
 apply M8
 have k:=Fv s
 apply AK k
 by_cases hf:BE ws ce=-1
 ·grind
 ·rw[Fp hf,cond_true]
  have h0:0<=ce/\ce<ws.length:=by
   unfold BE at hf
   grind
  obtain⟨hok,s⟩:=Q2 s
  have s:=s
  apply ah
  apply lS s 0 rfl
  refine L7 (k:=ce.toNat) (x':=0) VO s (i:=1) rfl (by omega) (by omega) rfl rfl λw s=>?_
  apply ah
  apply lI s 0 rfl
  apply ah
  refine ax s (i:=0) rfl rfl rfl λw s=>?_
  refine hyes hf (IntKind.wrap .i64 (r.fA-1)) _ (Nr s λx hx=>?_)
  rcases List.mem_or_eq_of_mem_set hx with hx|rfl
  ·exact hok x hx
  ·omega
def Z8 {N:Nat}{Q:Option Addr->World->Prop}(s:Sep F W w L)(hN:1<=N/\N<=1048576)(h:∀r w',Sep F W w' (uN r (List.replicate N 0)::L)->Q (sZ r.p) w'):Fa N w Q:=by
 apply ZK
 rw[bD,bD]
 refine uw (bytes:=4) dW s rfl rfl rfl rfl rfl rfl (by decide) VO rfl (λu hu=>by simp[w32]at hu;subst hu;rfl) rfl rfl (Nat.le_refl _) (by omega) (by simp[maxLen];omega) λb w' s=>?_
 refine aT s λp w' s=>?_
 refine h ⟨p,sZ b,N,N,0⟩ _ (Nr s λx hx=>?_)
 grind
def WL {fr to:Int}{Q:Bool->World->Prop}(s:Sep F W w (uN r ws::L))(hno:BE ws fr=-1\/zJ ws to=false->Q false w)
  (hyes:BE ws fr≠-1->zJ ws to=true->∀fA w',Sep F W w' (uN {r with fA:=fA} ((ws.set fr.toNat 0).set to.toNat (BE ws fr+1))::L)->Q true w'):vG (sZ r.p) fr to w Q:=by
 apply LC
 have k:=Fv s
 apply AK k
 by_cases hf:BE ws fr=-1
 ·grind
 rw[cM hf,cond_false]
 apply Km k
 cases ht:zJ ws to with
 |false=>
  grind
 |true=>
  refine Kn s (λe=>(hf e).elim) λ_ fA w s=>?_
  have hw:0<=BE ws fr/\BE ws fr<4294967295:=by
   unfold BE at hf⊢
   split at hf
   ·rename_i h0
    have:=k.ok _ (fE (i:=fr.toNat) (by omega))
    omega
   grind
  have hfree:zJ (ws.set fr.toNat 0) to=true:=by
   unfold zJ at ht⊢
   simp[Bool.and_eq_true,decide_eq_true_eq,List.length_set,beq_iff_eq]at ht⊢
   refine⟨ht.1,?_⟩
   unfold gi at ht⊢
   grind
  refine L_ (r:={r with fA:=fA}) s (by omega) (λe=>by grind) λ_ aze w s=>?_
  grind
end
def mN (x:Int):List Value:=[.int .i32 x]
def uO (x:Int):(mN x).length=1:=rfl
def adq {n:Int}(h:-2147483648<=n/\n<2147483648):IntKind.wrap .i32 n=n:=by
 simp only[IntKind.wrap,IntKind.bits,IntKind.signed]
 simp
 omega
structure Fw where
 goal:Int
 ep:Int
 ds:List Int
structure wO where
 p:Nat
 a:Option Addr
 n:Nat
 c:Nat
def ago (r:wO)(t:Fw):List Value:=[ae t.goal,ae t.ep,.slice r.a r.n r.c]
def agp (ds:List Int):Prop:=∀x∈ds,0<=x/\x<=2147483647
def ab4 (r:wO)(t:Fw):List As:=[av r.p 298 (ago r t),aj r.a r.n r.c 21 1 (flat mN t.ds)]
def yJ (r:wO)(t:Fw):As:=aV (agp t.ds) (ab4 r t)
structure Fx (w:World) (r:wO) (t:Fw):Prop where
 ok:agp t.ds
 cell:rz w r.p (ago r t)
 V:Sl w r.a r.n r.c 1 mN t.ds
section
variable {F:Nat->Prop}{W w w0:World}{L:List As}{r:wO}{t:Fw}{ce key:Int}
def Fx.fr {w':World}(k:Fx w r t)(f:Fr No w w'):Fx w' r t:=⟨k.ok,k.cell.fr f,k.V.fr f⟩
def Z9 (s:Sep F W w (yJ r t::L)):agp t.ds/\Sep F W w (ab4 r t++L):=iW s
def W_ (s:Sep F W w (ab4 r t++L))(h:agp t.ds):Sep F W w (yJ r t::L):=dX s h
def Q3 (s:Sep F W w (yJ r t::L)):Fx w r t:=by
 obtain⟨h,s⟩:=Z9 s
 exact⟨h,kM s (i:=0) rfl,aK s (i:=1) rfl uO (by decide)⟩
def atF (ds:List Int)(c:Int):Int:=if 0<=c/\c<ds.length then(if gi ds c.toNat=2147483647 then bW else gi ds c.toNat)else bW
def ab5 {Q:Int->World->Prop}(k:Fx w r t)(h:Q (atF t.ds ce) w):zq (sZ r.p) ce w Q:=by
 apply QC
 apply mz
 have hl:=k.V.len
 unfold atF at h
 by_cases h0:ce<0
 ·rw[bY h0]
  rw[vm]at h
  exact h
 rw[bD h0]
 refine ah (dz (k.cell 2 _ rfl) ?_)
 by_cases h1:ce≥(r.n:Int)
 ·rw[bY h1]
  rw[vm]at h
  exact h
 rw[bD h1]
 rw[HE]at h
 refine ah (dz (k.cell 2 _ rfl) ?_)
 apply E0 k.V (k:=ce.toNat) (by omega) (by omega)
 have hb:=k.ok _ (fE (i:=ce.toNat) (by omega))
 by_cases h2:gi t.ds ce.toNat=2147483647
 ·rw[dJ h2,cond_true]
  rw[if_pos h2]at h
  exact h
 rw[cM h2,cond_false]
 rw[if_neg h2]at h
 refine ah (dz (k.cell 2 _ rfl) ?_)
 apply E0 k.V (k:=ce.toNat) (by omega) (by omega)
 rw[aJ]
 exact h
def Yr {Q:Int->World->Prop}(k:Fx w r t)(h:Q t.goal w):xh (sZ r.p) w Q:=by
 apply Na
 exact mz (ah (aP (k.cell 0 _ rfl) h))
def WM {Q:Int->World->Prop}(k:Fx w r t)(h:Q t.ep w):vJ (sZ r.p) w Q:=by
 apply Lp
 exact mz (ah (aP (k.cell 1 _ rfl) h))
def Ko {Q:Bool->World->Prop}(s:Sep F W w (yJ r t::L))(hc:0<=ce/\ce<t.ds.length)(hk:0<=key/\key<4000000000)(hno:key≥gi t.ds ce.toNat->Q false w)
  (hyes:key<gi t.ds ce.toNat->∀w',Sep F W w' (yJ r ⟨t.goal,t.ep,t.ds.set ce.toNat key⟩::L)->Q true w'):nB (sZ r.p) ce key w Q:=by
 apply Nd
 have k:=Q3 s
 have hl:=k.V.len
 have hb:=k.ok _ (fE (i:=ce.toNat) (by omega))
 refine ah (dz (k.cell 2 _ rfl) ?_)
 apply E0 k.V (k:=ce.toNat) (by omega) (by omega)
 rw[aJ]
 by_cases h1:key≥gi t.ds ce.toNat
 ·grind
 rw[bD h1]
 refine ah (dz (k.cell 2 _ rfl) ?_)
 obtain⟨hok,s⟩:=Z9 s
 have s:=s
 rw[adq (by omega)]
 refine L7 (k:=ce.toNat) (x':=key) uO s (i:=1) rfl (by omega) (by omega) rfl rfl λw s=>?_
 refine hyes (by omega) _ (W_ s λx hx=>?_)
 rcases List.mem_or_eq_of_mem_set hx with hx|rfl
 ·exact hok x hx
 ·omega
end
def Q4 (c s:Int)(st:Int×Bool)(x:bh):Int×Bool:=if x.c=c/\x.s=s/\(st.2=false\/x.k<st.1)then(x.k,true)else st
def Hi (xs:List bh)(c s:Int):Int:=(xs.foldl (Q4 c s) (bW,false)).1
section
variable {F:Nat->Prop}{W w w0:World}{L:List As}{la:Option Addr}{ln lc:Nat}{xs:List bh}{ce sd:Int}
def alM {Q:Int->World->Prop}(hX:Sl w0 la ln lc 3 fL xs)(pP:ln<=1000000)(h:∀w',Sep No w0 w' []->Q (Hi xs ce sd) w'):
  ∀(j i:Nat) (b:Int) (q:Bool) (w:World),i+j=ln->(xs.drop i).foldl (Q4 ce sd) (b,q)=xs.foldl (Q4 ce sd) (bW,false)->Sep No w0 w []->om Q (j+1) ce sd b q la ln lc ln i w:=by
 have hl:=hX.len
 intro j
 induction j with
 |zero=>
  intro i b q w hi he s
  show yC Q (om Q 0) _ _ _ _ _ _ _ _ _ _
  unfold yC
  have:=h w s
  unfold Hi at this
  grind
 |succ j ih=>
  intro i b q w hi he s
  show yC Q (om Q (j+1)) _ _ _ _ _ _ _ _ _ _
  rw[yC,bY]
  refine(hX.fr (au s)).El rfl (by omega) λp x hx hc=>?_
  refine aP (hc 0 _ rfl) (aP (hc 1 _ rfl) (aP (hc 2 _ rfl) ?_))
  obtain⟨Ed,hx'⟩:=List.getElem?_eq_some_iff.1 hx
  rw[List.drop_eq_getElem_cons Ed,hx',List.foldl_cons]at he
  refine a_ s λsb w s=>?_
  refine ax s (i:=0) rfl rfl rfl λw s=>?_
  refine ax s (i:=0) rfl rfl rfl λw s=>?_
  refine ax s (i:=0) rfl rfl rfl λw s=>?_
  have skip:¬(x.c=ce/\x.s=sd/\(q=false\/x.k<b))->om Q (j+1) ce sd b q la ln lc ln (IntKind.wrap .i64 ((i:Int)+1)) w:=λhn=>by
   rw[aJ]
   refine ih (i+1) b q w (by omega) ?_ (ai s)
   have e:Q4 ce sd (b,q) x=(b,q):=if_neg hn
   grind
  have take:x.c=ce/\x.s=sd/\(q=false\/x.k<b)->Ci (om Q (j+1)) Q ce sd (aZ sb) la ln lc ln i w:=λhy=>by
   apply lI s 0 rfl
   rw[aJ]
   refine ih (i+1) x.k true w (by omega) ?_ (ai s)
   have e:Q4 ce sd (b,q) x=(x.k,true):=if_pos hy
   grind
  apply lI s 0 rfl
  by_cases k1:x.c=ce
  ·rw[dJ k1,cond_true]
   apply lI s 0 rfl
   by_cases k2:x.s=sd
   ·rw[dJ k2,cond_true]
    cases q with
    |false=>
     grind
    |true=>
     apply lI s 0 rfl
     grind
   grind
  grind
def Kq {Q:Int->World->Prop}(s0:Sep F W w L)(hX:Sl w la ln lc 3 fL xs)(pP:ln<=1000000)(h:∀w',Sep F W w' L->Fr No w w'->Q (Hi xs ce sd) w'):zA la ln lc ce sd w Q:=by
 apply Yh
 exact⟨ln+1,alM hX pP (λw' s=>h _ (b9 s0 (au s)) (au s)) ln 0 bW false w (by omega) (by grind) bt⟩
end
def bN (tw th l s:Int):Int:=
 if s=0 then(if l/tw>0 then l-tw else-1)
 else if s=1 then(if l%tw<tw-1 then l+1 else-1)
 else if s=2 then(if l/tw<th-1 then l+tw else-1)
 else if s=3 then(if l%tw>0 then l-1 else-1)
 else-1
section
variable {F:Nat->Prop}{W w w0:World}{L:List As}{p:Nat}{tw th l sd:Int}{vs:List Value}
def Z_ {Q:Int->World->Prop}(s0:Sep F W w L)(k:rz w p (ae tw::ae th::vs))(hw:1<=tw/\tw<=16)(hh:1<=th/\th<=16)(hl:0<=l/\l<1000000)
  (h:∀w',Sep F W w' L->Fr No w w'->Q (bN tw th l sd) w'):yj (sZ p) l sd w Q:=by
 apply OT
 have k:=k.fr (w':=w.drew) Fr.refl
 have h:=h _ (ay s0) Fr.refl
 have d0:0<=l/tw:=Int.ediv_nonneg hl.1 (by omega)
 have d1:l/tw<=l:=Int.ediv_le_self _ hl.1
 refine ah (aP (k 0 _ rfl) ⟨by omega,ah (aP (k 0 _ rfl) ⟨by omega,k 0 _ rfl,?_⟩)⟩)
 rw[Int.tdiv_eq_ediv_of_nonneg hl.1,Int.tmod_eq_emod_of_nonneg hl.1,aJ]
 unfold bN at h
 have b8:(if sd=3 then(if l%tw>0 then l-1 else-1)else-1:Int)=bN tw th l sd->qm Q l sd (l%tw) w.drew:=λe=>by
  unfold bN at e
  unfold qm
  by_cases k3:sd=3
  ·by_cases q:l%tw>0
   ·rw[bY q,aJ]
    grind
   grind
  grind
 have b6:(sd≠0->sd≠1->True)->(sd=0\/sd=1->bN tw th l sd=-1)->qo Q (sZ p) l sd (l%tw) (l/tw) w.drew:=λ_ e=>by
  unfold qo
  by_cases k2:sd=2
  ·rw[dJ k2,cond_true]
   rw[vm,vm,if_pos k2]at h
   refine ah (aP (k 1 _ rfl) ?_)
   rw[aJ]
   by_cases q:l/tw<th-1
   ·rw[bY q]
    rw[if_pos q]at h
    refine ah (aP (k 0 _ rfl) ?_)
    rw[aJ]
    exact h
   ·rw[bD q]
    apply b8
    unfold bN
    omega
  ·rw[cM k2,cond_false]
   apply b8
   by_cases k01:sd=0\/sd=1
   ·omega
   ·unfold bN
    omega
 have b4:(sd=0->bN tw th l sd=-1)->qp Q (sZ p) l sd (l%tw) (l/tw) w.drew:=λe=>by
  unfold qp
  by_cases k1:sd=1
  ·rw[dJ k1,cond_true]
   refine ah (aP (k 0 _ rfl) ?_)
   rw[aJ]
   by_cases q:l%tw<tw-1
   ·rw[bY q,aJ]
    grind
   ·rw[bD q]
    refine b6 (λ_ _=>trivial) λ_=>?_
    unfold bN
    omega
  grind
 by_cases k0:sd=0
 ·rw[dJ k0,cond_true]
  by_cases q:l/tw>0
  ·rw[bY q]
   rw[if_pos k0,if_pos q]at h
   refine ah (aP (k 0 _ rfl) ?_)
   rw[aJ]
   exact h
  ·rw[bD q]
   refine b4 λ_=>?_
   unfold bN
   grind
 grind
end
end Go.Proofs.YtmegplnmiepfbaaGreatDoor.S
namespace Go.Proofs.YtmegplnmiepfbaaGreatDoor.S
open Go.Sx
section
variable {w h sc l s c x y:Int}
def Fy (hm:iX w h)(hx:0<=x/\x<w)(hy:0<=y/\y<h):aB w h (y*w+x)/cF w=y/16/\aB w h (y*w+x)%cF w=x/16:=by
 obtain⟨e1,e2⟩:=qW (y:=y) hx
 have:=TP (Zp hm hx hy)
 grind
def yK (hs:dG w h sc):(1<=aD w h sc/\aD w h sc<=16)/\(1<=bu w h sc/\bu w h sc<=16)/\0<=sc%cF w/\0<=sc/cF w/\16*(sc%cF w)<w/\16*(sc/cF w)<h:=by
 obtain⟨hm,h0,h1⟩:=hs
 have ha:1<=cF w:=by unfold cF;have:=hm.1;omega
 have m0:=Int.emod_nonneg sc (show cF w≠0 by omega)
 have m1:=Int.emod_lt_of_pos sc (show 0<cF w by omega)
 have d0:0<=sc/cF w:=Int.ediv_nonneg h0 (by omega)
 have d1:sc/cF w<cF h:=Int.ediv_lt_of_lt_mul (by omega) (by unfold d_ at h1;grind)
 have a1:16*(sc%cF w)<w:=by unfold cF at*;omega
 have a2:16*(sc/cF w)<h:=by
  have:cF h=(h+15)/16:=rfl
  omega
 unfold aD bu
 omega
def Pc (hs:dG w h sc)(hl:0<=l/\l<aD w h sc*bu w h sc)(vp:0<=s/\s<=3)(hn:0<=bN (aD w h sc) (bu w h sc) l s):
  (0<=bN (aD w h sc) (bu w h sc) l s/\bN (aD w h sc) (bu w h sc) l s<aD w h sc*bu w h sc)/\aY w h (bU w h sc l) s=bU w h sc (bN (aD w h sc) (bu w h sc) l s):=by
 obtain⟨⟨w1,w2⟩,⟨h1,h2⟩,p1,p2,p3,p4⟩:=yK hs
 have hw:aD w h sc<=w-16*(sc%cF w):=by unfold aD;omega
 have hh:bu w h sc<=h-16*(sc/cF w):=by unfold bu;omega
 obtain⟨i0,i1⟩:0<=l%aD w h sc/\l%aD w h sc<aD w h sc:=⟨Int.emod_nonneg _ (by omega),Int.emod_lt_of_pos _ (by omega)⟩
 obtain⟨j0,j1⟩:0<=l/aD w h sc/\l/aD w h sc<bu w h sc:=⟨Int.ediv_nonneg hl.1 (by omega),Int.ediv_lt_of_lt_mul (by omega) (by rw[Int.mul_comm];exact hl.2)⟩
 have hle:l=l/aD w h sc*aD w h sc+l%aD w h sc:=by
  have:=Int.mul_ediv_add_emod l (aD w h sc)
  rw[Int.mul_comm]at this
  omega
 have hg:∀i j,0<=i/\i<aD w h sc->bU w h sc (j*aD w h sc+i)=(16*(sc/cF w)+j)*w+(16*(sc%cF w)+i):=λi j hi=>by
  obtain⟨e1,e2⟩:=qW hi
  rw[bU,e1,e2]
  omega
 have key:∀i j i' j',l=j*aD w h sc+i->0<=i/\i<aD w h sc->0<=i'/\i'<aD w h sc->0<=j'/\j'<bu w h sc->bN (aD w h sc) (bu w h sc) l s=j'*aD w h sc+i'->
   (0<=j/\j<bu w h sc)->aY w h ((16*(sc/cF w)+j)*w+(16*(sc%cF w)+i)) s=gR w h (16*(sc%cF w)+i') (16*(sc/cF w)+j')->
   (0<=bN (aD w h sc) (bu w h sc) l s/\bN (aD w h sc) (bu w h sc) l s<aD w h sc*bu w h sc)/\aY w h (bU w h sc l) s=bU w h sc (bN (aD w h sc) (bu w h sc) l s):=by
  intro i j i' j' el hi hi' hj' en hj es
  rw[en,el,hg _ _ hi,hg _ _ hi',es,mV hs.1 (by omega) (by omega)]
  refine⟨⟨by have:=Int.mul_nonneg hj'.1 (show 0<=aD w h sc by omega);omega,?_⟩,rfl⟩
  have:=Int.mul_le_mul_of_nonneg_right (show j'+1<=bu w h sc by omega) (show 0<=aD w h sc by omega)
  rw[Int.add_mul,Int.one_mul,Int.mul_comm (bu w h sc)]at this
  omega
 have hst:=DL (s:=s) hs.1 (x:=16*(sc%cF w)+l%aD w h sc) (y:=16*(sc/cF w)+l/aD w h sc) (by omega) (by omega)
 unfold bN at hn
 obtain rfl|rfl|rfl|rfl:s=0\/s=1\/s=2\/s=3:=by omega
 ·by_cases q:l/aD w h sc>0
  ·refine key _ _ (l%aD w h sc) (l/aD w h sc-1) hle ⟨i0,i1⟩ ⟨i0,i1⟩ (by omega) ?_ ⟨j0,j1⟩ ?_
   ·rw[bN,if_pos rfl,if_pos q,Int.sub_mul,Int.one_mul]
    omega
   ·rw[hst,if_pos rfl]
    congr 1
    omega
  ·omega
 ·by_cases q:l%aD w h sc<aD w h sc-1
  ·refine key _ _ (l%aD w h sc+1) (l/aD w h sc) hle ⟨i0,i1⟩ (by omega) (by omega) ?_ ⟨j0,j1⟩ ?_
   ·unfold bN
    omega
   ·rw[hst,if_neg (by decide),if_neg (by decide),if_neg (by decide),if_pos rfl]
    congr 1
    omega
  ·omega
 ·by_cases q:l/aD w h sc<bu w h sc-1
  ·refine key _ _ (l%aD w h sc) (l/aD w h sc+1) hle ⟨i0,i1⟩ ⟨i0,i1⟩ (by omega) ?_ ⟨j0,j1⟩ ?_
   ·rw[bN,if_neg (by decide),if_neg (by decide),if_pos rfl,if_pos q,Int.add_mul,Int.one_mul]
    omega
   ·rw[hst,if_neg (by decide),if_pos rfl]
    congr 1
    omega
  ·omega
 ·by_cases q:l%aD w h sc>0
  ·refine key _ _ (l%aD w h sc-1) (l/aD w h sc) hle ⟨i0,i1⟩ (by omega) (by omega) ?_ ⟨j0,j1⟩ ?_
   ·unfold bN
    omega
   ·rw[hst,if_neg (by decide),if_neg (by decide),if_pos rfl]
    congr 1
    omega
  ·omega
def Q5 (hs:dG w h sc)(hl:0<=l/\l<aD w h sc*bu w h sc)(vp:0<=s/\s<=3)(hn:¬0<=bN (aD w h sc) (bu w h sc) l s):
  (0<=aY w h (bU w h sc l) s->aB w h (aY w h (bU w h sc l) s)≠sc)/\l∈l8 (aD w h sc) (bu w h sc) s/\
  (0<=aY w h (bU w h sc l) s->0<=aY w h (bU w h sc (gi (l8 (aD w h sc) (bu w h sc) s) 0)) s):=by
 obtain⟨⟨w1,w2⟩,⟨h1,h2⟩,p1,p2,p3,p4⟩:=yK hs
 have hw:aD w h sc=min 16 (w-16*(sc%cF w)):=rfl
 have hh:bu w h sc=min 16 (h-16*(sc/cF w)):=rfl
 obtain⟨i0,i1⟩:0<=l%aD w h sc/\l%aD w h sc<aD w h sc:=⟨Int.emod_nonneg _ (by omega),Int.emod_lt_of_pos _ (by omega)⟩
 obtain⟨j0,j1⟩:0<=l/aD w h sc/\l/aD w h sc<bu w h sc:=⟨Int.ediv_nonneg hl.1 (by omega),Int.ediv_lt_of_lt_mul (by omega) (by rw[Int.mul_comm];exact hl.2)⟩
 have hle:l=l/aD w h sc*aD w h sc+l%aD w h sc:=by
  have:=Int.mul_ediv_add_emod l (aD w h sc)
  rw[Int.mul_comm]at this
  omega
 have hg:∀i j,0<=i/\i<aD w h sc->bU w h sc (j*aD w h sc+i)=(16*(sc/cF w)+j)*w+(16*(sc%cF w)+i):=λi j hi=>by
  obtain⟨e1,e2⟩:=qW hi
  rw[bU,e1,e2]
  omega
 have hst:=DL (s:=s) hs.1 (x:=16*(sc%cF w)+l%aD w h sc) (y:=16*(sc/cF w)+l/aD w h sc) (by omega) (by omega)
 have Xa:bU w h sc l=(16*(sc/cF w)+l/aD w h sc)*w+(16*(sc%cF w)+l%aD w h sc):=by
  have:=hg (l%aD w h sc) (l/aD w h sc) ⟨i0,i1⟩
  rw[<-hle]at this
  exact this
 rw[<-Xa]at hst
 have first:∀i j,0<=i/\i<aD w h sc->0<=j/\j<bu w h sc->aY w h (bU w h sc (j*aD w h sc+i)) s=if s=0 then gR w h (16*(sc%cF w)+i) (16*(sc/cF w)+j-1)else if s=2 then gR w h (16*(sc%cF w)+i) (16*(sc/cF w)+j+1)else if s=3 then gR w h (16*(sc%cF w)+i-1) (16*(sc/cF w)+j)else if s=1 then gR w h (16*(sc%cF w)+i+1) (16*(sc/cF w)+j)else if s=4 then gR w h (16*(sc%cF w)+i) (16*(sc/cF w)+j)else-1:=λi j hi hj=>by
  rw[hg i j hi]
  exact DL hs.1 (by omega) (by omega)
 have ok:∀{x y:Int},0<=gR w h x y->(0<=x/\x<w)/\(0<=y/\y<h)/\gR w h x y=y*w+x:=λh0=>by
  obtain⟨a,b,_⟩:=A8 h0
  exact⟨a,b,mV hs.1 a b⟩
 have pos:∀{x y:Int},0<=x/\x<w->0<=y/\y<h->0<=gR w h x y:=λhx hy=>by
  rw[mV hs.1 hx hy]
  have:=Int.mul_nonneg hy.1 (show 0<=w by omega)
  omega
 have head:∀(n:Int) (f:Int->Int),0<n->gi (l7 n f) 0=f 0:=λn f hn=>by
  unfold gi l7
  rw[List.getD_eq_getElem?_getD,List.getElem?_map,List.getElem?_range (by omega)]
  rfl
 have mem:∀(n:Int) (f:Int->Int) (k:Int),0<=k/\k<n->f k∈l7 n f:=λn f k hk=>by
  refine List.mem_map.2 ⟨k.toNat,List.mem_range.2 (by omega),?_⟩
  rw[Int.toNat_of_nonneg hk.1]
 unfold bN at hn
 obtain rfl|rfl|rfl|rfl:s=0\/s=1\/s=2\/s=3:=by omega
 ·rw[hst,if_pos rfl]
  have q:¬l/aD w h sc>0:=λq=>by
   have:=Int.mul_le_mul_of_nonneg_right (show 1<=l/aD w h sc by omega) (show 0<=aD w h sc by omega)
   omega
  have hj:l/aD w h sc=0:=by omega
  have ha:l8 (aD w h sc) (bu w h sc) 0=l7 (aD w h sc) λx=>0+x:=by unfold l8;rw[if_neg (by decide),if_pos rfl]
  rw[ha]
  refine⟨λh0 e=>?_,?_,λh0=>?_⟩
  ·obtain⟨a,b,e1⟩:=ok h0
   rw[e1]at e
   have:=(Fy hs.1 a b).1
   rw[e]at this
   omega
  ·have:=mem (aD w h sc) (λx=>0+x) l (by rw[hj,Int.zero_mul]at hle;omega)
   simpa using this
  ·rw[head _ _ (by omega)]
   have:=first 0 0 (by omega) (by omega)
   rw[Int.zero_mul]at this
   rw[this,if_pos rfl]
   obtain⟨a,b,_⟩:=ok h0
   exact pos (by omega) (by omega)
 ·rw[hst,if_neg (by decide),if_neg (by decide),if_neg (by decide),if_pos rfl]
  have q:¬l%aD w h sc<aD w h sc-1:=λq=>by
   omega
  have ha:l8 (aD w h sc) (bu w h sc) 1=l7 (bu w h sc) λy=>aD w h sc-1+y*aD w h sc:=by unfold l8;rw[if_neg (by decide),if_neg (by decide),if_pos rfl]
  rw[ha]
  refine⟨λh0 e=>?_,?_,λh0=>?_⟩
  ·obtain⟨a,b,e1⟩:=ok h0
   rw[e1]at e
   have:=(Fy hs.1 a b).2
   rw[e]at this
   omega
  ·have:=mem (bu w h sc) (λy=>aD w h sc-1+y*aD w h sc) (l/aD w h sc) ⟨j0,j1⟩
   rwa[show aD w h sc-1+l/aD w h sc*aD w h sc=l by omega]at this
  ·rw[head _ _ (by omega)]
   have:=first (aD w h sc-1) 0 (by omega) (by omega)
   rw[Int.zero_mul,Int.zero_add]at this
   rw[Int.zero_mul,Int.add_zero,this,if_neg (by decide),if_neg (by decide),if_neg (by decide),if_pos rfl]
   obtain⟨a,b,_⟩:=ok h0
   exact pos (by omega) (by omega)
 ·rw[hst,if_neg (by decide),if_pos rfl]
  have q:¬l/aD w h sc<bu w h sc-1:=λq=>by
   omega
  have ha:l8 (aD w h sc) (bu w h sc) 2=l7 (aD w h sc) λx=>(bu w h sc-1)*aD w h sc+x:=by unfold l8;rw[if_pos rfl]
  rw[ha]
  have hj:l/aD w h sc=bu w h sc-1:=by omega
  refine⟨λh0 e=>?_,?_,λh0=>?_⟩
  ·obtain⟨a,b,e1⟩:=ok h0
   rw[e1]at e
   have:=(Fy hs.1 a b).1
   rw[e]at this
   omega
  ·have:=mem (aD w h sc) (λx=>(bu w h sc-1)*aD w h sc+x) (l%aD w h sc) ⟨i0,i1⟩
   rwa[show(bu w h sc-1)*aD w h sc+l%aD w h sc=l by rw[<-hj];omega]at this
  ·rw[head _ _ (by omega)]
   have:=first 0 (bu w h sc-1) (by omega) (by omega)
   rw[this,if_neg (by decide),if_pos rfl]
   obtain⟨a,b,_⟩:=ok h0
   exact pos (by omega) (by omega)
 ·rw[hst,if_neg (by decide),if_neg (by decide),if_pos rfl]
  have q:¬l%aD w h sc>0:=λq=>by
   have:=Int.mul_nonneg j0 (show 0<=aD w h sc by omega)
   omega
  have ha:l8 (aD w h sc) (bu w h sc) 3=l7 (bu w h sc) λy=>0+y*aD w h sc:=by unfold l8;rw[if_neg (by decide),if_neg (by decide),if_neg (by decide),if_pos rfl]
  rw[ha]
  refine⟨λh0 e=>?_,?_,λh0=>?_⟩
  ·obtain⟨a,b,e1⟩:=ok h0
   rw[e1]at e
   have:=(Fy hs.1 a b).2
   rw[e]at this
   omega
  ·have:=mem (bu w h sc) (λy=>0+y*aD w h sc) (l/aD w h sc) ⟨j0,j1⟩
   rwa[show 0+l/aD w h sc*aD w h sc=l by omega]at this
  ·rw[head _ _ (by omega),Int.zero_mul,Int.add_zero]
   have:=first 0 0 (by omega) (by omega)
   rw[Int.zero_mul,Int.add_zero]at this
   rw[this,if_neg (by decide),if_neg (by decide),if_pos rfl]
   obtain⟨a,b,_⟩:=ok h0
   exact pos (by omega) (by omega)
end
def fI (m:bP)(x n c:Int):Prop:=eV m x=true/\eV m n=true/\(∃s:Int,(0<=s/\s<=3)/\aY m.w m.h x s=n)/\c=cE m n
def fJ (m:bP)(t x k:Int):Prop:=x=t/\eV m t=true/\k=0
noncomputable def D (m:bP)(t x:Int):Int:=fZ (fJ m t) (fI m) x
def cP (m:bP)(x:Int):Int:=aB m.w m.h x
def mZ (m:bP)(x:Int):Prop:=x∈aR m (cP m x)
section
variable {m:bP}{t x n c d s sc l:Int}
def BF (h:eV m x=true):0<cE m x/\cE m x<255:=by unfold eV at h;simpa using h
def jF (hm:c8 m)(h:eV m x=true):bE m.w m.h x:=by
 have:=(BF h).1
 unfold cE at this
 split at this
 ·rename_i hx
  rw[hm.len]at hx
  exact⟨⟨hm.w,hm.h⟩,hx⟩
 ·omega
def Fz (h:fI m x n c):1<=c/\c<=254:=by
 have:=BF h.2.1
 rw[h.2.2.2]
 omega
def Q6 {k:Int}(h:fJ m t x k):0<=k/\k<=0:=by rw[h.2.2];omega
def cU:∀x n c,fI m x n c->0<=c:=λx n c h=>by have:=Fz h;omega
def kH:∀x k,fJ m t x k->0<=k:=λx k h=>(Q6 h).1
def aiH (h:Wy (fJ m t) (fI m) x d):eV m x=true/\eV m t=true:=by
 induction h with
 |src h=>exact⟨by rw[h.1];exact h.2.1,h.2.1⟩
 |go e _ ih=>exact⟨e.1,ih.2⟩
def jG (m:bP):List Int:=(List.range m.cs.length).map λi:Nat=>(i:Int)
def yL (hm:c8 m)(hx:bE m.w m.h x):x∈jG m:=by
 have h1:=hx.2
 have h2:=hm.len
 exact List.mem_map.2 ⟨x.toNat,List.mem_range.2 (by omega),by omega⟩
def an8 (hm:c8 m)(hw:Wy (fJ m t) (fI m) x d):0<=D m t x/\D m t x<=254*(m.w*m.h-1):=by
 have h1:=Zq (S:=fJ m t) (E:=fI m) (λx k h=>Q6 h) (λx n c h=>Fz h) (jG m) (λx d h=>yL hm (jF hm (aiH h).1)) hw
 have h2:((jG m).length:Int)=m.w*m.h:=by rw[<-hm.len];simp[jG]
 refine⟨mB kH cU (qx kH cU hw).1,?_⟩
 show fZ (fJ m t) (fI m) x<=_
 omega
def an9 (hm:c8 m)(hw:Wy (fJ m t) (fI m) x d):D m t x<1000000000:=by
 have:=an8 hm hw
 have:=oO ⟨hm.w,hm.h⟩
 omega
def ae5 (h:¬∃d,Wy (fJ m t) (fI m) x d):D m t x=bW:=wU λd hd=>h ⟨d,hd⟩
def Jk (hm:c8 m):D m t x<bW↔∃d,Wy (fJ m t) (fI m) x d:=by
 constructor
 ·intro h
  refine Classical.byContradiction λk=>?_
  rw[ae5 k]at h
  grind
 ·rintro ⟨d,hd⟩
  have:=an9 hm hd
  unfold bW
  omega
def apM (hw:Wy (fJ m t) (fI m) x d):Wy (fJ m t) (fI m) x (D m t x)/\∀e,Wy (fJ m t) (fI m) x e->D m t x<=e:=qx kH cU hw
def ar6 (h:eV m t=true):D m t t=0:=JI (.src ⟨rfl,h,rfl⟩) λe he=>mB kH cU he
def Jl (m:bP)(t x s:Int):Prop:=0<=aY m.w m.h x s/\eV m (aY m.w m.h x s)=true/\cE m (aY m.w m.h x s)+D m t (aY m.w m.h x s)=D m t x
open Classical in
noncomputable def pB (m:bP)(t x:Int):Int:=
 if D m t x=bW then 5 else if x=t then 4 else if Jl m t x 0 then 0 else if Jl m t x 1 then 1 else if Jl m t x 2 then 2 else if Jl m t x 3 then 3 else 5
def an_ (hm:c8 m)(hD:D m t x<bW)(hx:x≠t):∃s,(0<=s/\s<=3)/\Jl m t x s:=by
 obtain⟨d,hw⟩:=(Jk hm).1 hD
 rcases Qa kH cU hw with h1|⟨n,c,h1,h2,d',h3⟩
 ·exact(hx h1.1).elim
 ·obtain⟨ho,hn,⟨s,hs,rfl⟩,rfl⟩:=h1
  refine⟨s,hs,(jF hm hn).2.1,hn,?_⟩
  show cE m _+fZ (fJ m t) (fI m) _=fZ (fJ m t) (fI m) x
  omega
def aiI (hm:c8 m)(hD:D m t x<bW)(hx:x≠t):(0<=pB m t x/\pB m t x<=3)/\Jl m t x (pB m t x)/\∀s,0<=s->s<pB m t x->¬Jl m t x s:=by
 obtain⟨s,hs,hd⟩:=an_ hm hD hx
 rw[pB,vm,if_neg hx]
 grind
def HX {w h:Int}(hs:0<=s/\s<=3)(h0:0<=aY w h x s):∃s',(0<=s'/\s'<=3)/\aY w h (aY w h x s) s'=x:=by
 obtain⟨c1,c2⟩:=zk h0
 obtain⟨q1,q2,q3⟩:=Hh c1
 have hst:aY w h x s=if s=0 then gR w h (x%w) (x/w-1)else if s=2 then gR w h (x%w) (x/w+1)else if s=3 then gR w h (x%w-1) (x/w)else if s=1 then gR w h (x%w+1) (x/w)else if s=4 then gR w h (x%w) (x/w)else-1:=by
  unfold aY
  grind
 have ok:∀{a b:Int},0<=gR w h a b->(0<=a/\a<w)/\(0<=b/\b<h)/\gR w h a b=b*w+a:=λh0=>by
  obtain⟨a,b,_⟩:=A8 h0
  exact⟨a,b,mV c1.1 a b⟩
 rw[hst]at h0⊢
 obtain rfl|rfl|rfl|rfl:s=0\/s=1\/s=2\/s=3:=by omega
 ·rw[if_pos rfl]at h0⊢
  obtain⟨a,b,e⟩:=ok h0
  rw[e]
  refine⟨2,by decide,?_⟩
  rw[DL c1.1 a b,if_neg (by decide),if_pos rfl,mV c1.1 (by omega) (by omega),Int.sub_add_cancel]
  exact q3.symm
 ·rw[if_neg (by decide),if_neg (by decide),if_neg (by decide),if_pos rfl]at h0⊢
  obtain⟨a,b,e⟩:=ok h0
  rw[e]
  refine⟨3,by decide,?_⟩
  rw[DL c1.1 a b,if_neg (by decide),if_neg (by decide),if_pos rfl,mV c1.1 (by omega) (by omega)]
  omega
 ·rw[if_neg (by decide),if_pos rfl]at h0⊢
  obtain⟨a,b,e⟩:=ok h0
  rw[e]
  refine⟨0,by decide,?_⟩
  rw[DL c1.1 a b,if_pos rfl,mV c1.1 (by omega) (by omega),Int.add_sub_cancel]
  exact q3.symm
 ·rw[if_neg (by decide),if_neg (by decide),if_pos rfl]at h0⊢
  obtain⟨a,b,e⟩:=ok h0
  rw[e]
  refine⟨1,by decide,?_⟩
  rw[DL c1.1 a b,if_neg (by decide),if_neg (by decide),if_neg (by decide),if_pos rfl,mV c1.1 (by omega) (by omega)]
  omega
def alN {tw th:Int}(ht:1<=tw)(hh:1<=th)(vp:0<=s/\s<=3)(h:l∈l8 tw th s):¬0<=bN tw th l s:=by
 have mem:∀{n:Int} {f:Int->Int},l∈l7 n f->∃k:Int,(0<=k/\k<n)/\l=f k:=λh=>by
  obtain⟨i,h1,h2⟩:=mem_range h
  grind
 unfold l8 at h
 unfold bN
 obtain rfl|rfl|rfl|rfl:s=0\/s=1\/s=2\/s=3:=by omega
 ·grind
 ·rw[if_neg (by decide),if_neg (by decide),if_pos rfl]at h
  obtain⟨k,h1,rfl⟩:=mem h
  have:=(qW (w:=tw) (x:=tw-1) (y:=k) (by omega)).2
  grind
 ·obtain⟨k,h1,rfl⟩:=mem h
  have:=(qW (y:=th-1) (by omega)).1
  omega
 ·rw[if_neg (by decide),if_neg (by decide),if_neg (by decide),if_pos rfl]at h
  obtain⟨k,h1,rfl⟩:=mem h
  simp_all
def alO {w h:Int}(hc:bE w h c)(vp:0<=s/\s<=3)(ho:0<=gf w h c s):c∈uL w h (aB w h c):=by
 have hs:=bS hc
 have hl:=jM hc
 have hg:=nI hc
 obtain⟨⟨w1,w2⟩,⟨h1,h2⟩,_⟩:=yK hs
 have hst:0<=aY w h c s/\aB w h (aY w h c s)≠aB w h c:=by
  unfold gf at ho
  omega
 have hout:¬0<=bN (aD w h (aB w h c)) (bu w h (aB w h c)) (dA w h c) s:=λk=>by
  obtain⟨k1,k2⟩:=Pc hs hl vp k
  rw[hg]at k2
  apply hst.2
  rw[k2]
  exact iG hs k1
 obtain⟨o1,o2,o3⟩:=Q5 hs hl vp hout
 rw[hg]at o1 o3
 have o3:=o3 hst.1
 have ok:=agl (sd:=s) ⟨w1,w2⟩ ⟨h1,h2⟩
 have h0:=fE (ok.2.1 vp)
 have hr0:=ok.2.2 _ h0
 have HW:HV w h (aB w h c) s=true:=by
  rw[HV,decide_eq_true_iff]
  rw[BY,if_pos ⟨hs,hr0⟩]
  rw[gf,vm,if_neg]
  ·exact o3
  ·rw[iG hs hr0]
   exact(Q5 hs hr0 vp (alN w1 h1 vp h0)).1 o3
 refine List.mem_map.2 ⟨(dA w h c).toNat,List.mem_filter.2 ⟨List.mem_range.2 (by omega),?_⟩,?_⟩
 ·rw[xP,List.any_eq_true]
  refine⟨s.toNat,List.mem_range.2 (by omega),?_⟩
  grind
 grind
def alP {w h:Int}(hs:dG w h sc)(h1:c∈uL w h sc):bE w h c/\aB w h c=sc:=by
 obtain⟨l,h2,rfl⟩:=List.mem_map.1 h1
 have h3:=List.mem_range.1 (List.mem_filter.1 h2).1
 exact⟨r7 hs (by omega),iG hs (by omega)⟩
def l9 (hs:dG m.w m.h sc)(h1:c∈aR m sc):eV m c=true/\bE m.w m.h c/\aB m.w m.h c=sc:=by
 obtain⟨h2,h3⟩:=List.mem_filter.1 h1
 exact⟨h3,alP hs h2⟩
def UO (hm:c8 m)(ho:eV m c=true)(vp:0<=s/\s<=3)(h:0<=gf m.w m.h c s):mZ m c:=by
 exact List.mem_filter.2 ⟨alO (jF hm ho) vp h,ho⟩
def qR (hm:c8 m):∀x n c,fI m x n c->cP m x≠cP m n->mZ m x/\mZ m n:=by
 rintro x n c ⟨h1,h2,⟨s,hs,rfl⟩,_⟩ hne
 have Tz:=(jF hm h2).2.1
 obtain⟨s',hs',hb⟩:=HX hs Tz
 refine⟨UO hm h1 hs ?_,UO hm h2 hs' ?_⟩
 ·rw[gf,vm,if_neg λe=>hne e.symm]
  exact Tz
 ·have hx0:=(jF hm h1).2.1
  rw[gf,hb,vm,if_neg (show¬aB m.w m.h x=aB m.w m.h (aY m.w m.h x s)from hne)]
  exact hx0
end
section
variable {m:bP}{t x n c d s sc l:Int}
noncomputable def R (m:bP)(t x:Int):Int:=fZ (JJ (fJ m t) (fI m) (cP m) (mZ m) t) (Ik (fI m) (cP m) (mZ m)) x
def ajN (m:bP)(t s x k:Int):Prop:=cP m x=s/\(fJ m t x k\/∃n c,fI m x n c/\cP m n≠s/\D m t n<bW/\k=D m t n+c)
def Ez:∀x k,fJ m t x k->x=t/\k=0:=λx k h=>⟨h.1,h.2.2⟩
def atP (hm:c8 m)(hx:mZ m x)(h:D m t x<bW):Wy (JJ (fJ m t) (fI m) (cP m) (mZ m) t) (Ik (fI m) (cP m) (mZ m)) x (D m t x):=by
 obtain⟨d,hw⟩:=(Jk hm).1 h
 have h1:=apM hw
 obtain⟨e,h2,h3⟩:=afS Ez cU (qR hm) hx h1.1
 have h4:=h1.2 _ (LW Ez cU (qR hm) h3)
 grind
def ar8 (hm:c8 m)(hx:mZ m x):R m t x=D m t x:=
 XE (λd hd=>mB kH cU hd) (λd hd=>afS Ez cU (qR hm) hx hd) λd hd=>LW Ez cU (qR hm) hd
def aqL (hm:c8 m)(hx:cP m x=s):fZ (ajN m t s) (s8 (fI m) (cP m) s) x=D m t x:=by
 subst hx
 have Kr:=@LW Int (fJ m t) (fI m) (cP m) (mZ m) t Ez cU (qR hm)
 have e1:fZ (afQ (fJ m t) (fI m) (cP m) (cP m x) (Wy (JJ (fJ m t) (fI m) (cP m) (mZ m) t) (Ik (fI m) (cP m) (mZ m)))) (s8 (fI m) (cP m) (cP m x)) x=D m t x:=
  XE (λd hd=>mB kH cU hd) (λd hd=>afR Ez cU (qR hm) hd)
   λd hd=>alx Ez cU (qR hm) (λn d hn=>Kr hn) hd
 rw[<-e1]
 refine aqI ?_ (λx n c h=>cU _ _ _ h.1) ?_ ?_
 ·rintro x k ⟨_,h|⟨n,c,d,h1,_,h2,rfl⟩⟩
  ·exact kH _ _ h
  ·have:=cU _ _ _ h1
   have:=mB kH cU (Kr h2)
   omega
 ·rintro x k ⟨h0,h|⟨n,c,d,h1,h3,h2,rfl⟩⟩
  ·exact⟨k,Int.le_refl _,h0,.inl h⟩
  ·have h4:=Kr h2
   have h5:=apM h4
   have h6:=h5.2 _ h4
   exact⟨D m t n+c,by omega,h0,.inr ⟨n,c,h1,h3,(Jk hm).2 ⟨d,h4⟩,rfl⟩⟩
 ·rintro x k ⟨h0,h|⟨n,c,h1,h3,h4,rfl⟩⟩
  ·exact⟨h0,.inl h⟩
  ·exact⟨h0,.inr ⟨n,c,_,h1,h3,atP hm (qR hm _ _ _ h1 (by grind)).2 h4,rfl⟩⟩
def Hj (cs:List Int)(l:Int):Prop:=0<=l/\l<cs.length/\gi cs l.toNat≠255
def Hl (tw th:Int)(cs:List Int)(x n c:Int):Prop:=Hj cs x/\Hj cs n/\(∃s:Int,(0<=s/\s<=3)/\bN tw th x s=n)/\c=gi cs n.toNat
def aoa {α β:Type}{S:α->Int->Prop}{E:α->α->Int->Prop}{S':β->Int->Prop}{E':β->β->Int->Prop}{φ:α->β}{G:α->Prop}
  (h1:∀x k,G x->(S x k↔S' (φ x) k))(h2:∀x n c,G x->E x n c->G n/\E' (φ x) (φ n) c)(h3:∀x y c,G x->E' (φ x) y c->∃n,G n/\y=φ n/\E x n c){x:α}(hx:G x):fZ S E x=fZ S' E' (φ x):=by
 have a:∀{x d},Wy S E x d->G x->Wy S' E' (φ x) d:=λh=>by
  induction h with
  |src h=>exact λg=>.src ((h1 _ _ g).1 h)
  |go e _ ih=>exact λg=>.go (h2 _ _ _ g e).2 (ih (h2 _ _ _ g e).1)
 have b:∀{y d},Wy S' E' y d->∀x,G x->y=φ x->Wy S E x d:=λh=>by
  induction h with
  |src h=>rintro x g rfl;exact .src ((h1 _ _ g).2 h)
  |go e _ ih=>
   rintro x g rfl
   obtain⟨n,h4,h5,h6⟩:=h3 _ _ _ g e
   exact .go h6 (ih n h4 h5)
 have e:∀d,Wy S E x d↔Wy S' E' (φ x) d:=λd=>⟨λh=>a h hx,λh=>b h x hx rfl⟩
 by_cases h:∃d,Wy S E x d/\∀e,Wy S E x e->d<=e
 ·obtain⟨d,p,q⟩:=h
  rw[JI p q,JI ((e d).1 p) λe' he'=>q _ ((e e').2 he')]
 ·unfold fZ
  grind
def dx (m:bP)(sc:Int):List Int:=(List.range (aD m.w m.h sc*bu m.w m.h sc).toNat).map λl:Nat=>cE m (bU m.w m.h sc l)
def BG:((dx m sc).length:Int)=(aD m.w m.h sc*bu m.w m.h sc).toNat:=by simp[dx]
def Ks (hl:0<=l/\l<aD m.w m.h sc*bu m.w m.h sc):gi (dx m sc) l.toNat=cE m (bU m.w m.h sc l):=by
 unfold gi dx
 grind
def Kt (hm:c8 m)(hc:bE m.w m.h c):1<=cE m c/\cE m c<=255:=by
 have h1:=hc.2
 have h2:=hm.len
 unfold cE
 have:=hm.jR _ (fE (i:=c.toNat) (by omega))
 omega
def BH (hm:c8 m)(hc:bE m.w m.h c):eV m c=true↔cE m c≠255:=by
 have:=Kt hm hc
 unfold eV
 grind
def HY (hm:c8 m)(hs:dG m.w m.h sc)(hl:0<=l/\l<aD m.w m.h sc*bu m.w m.h sc):Hj (dx m sc) l↔eV m (bU m.w m.h sc l)=true:=by
 rw[BH hm (r7 hs hl)]
 rw[Hj,Ks hl,BG]
 omega
def agq (hm:c8 m)(hs:dG m.w m.h sc){S S':Int->Int->Prop}(hS:∀l k,0<=l/\l<aD m.w m.h sc*bu m.w m.h sc->(S l k↔S' (bU m.w m.h sc l) k))(hl:0<=l/\l<aD m.w m.h sc*bu m.w m.h sc):
  fZ S (Hl (aD m.w m.h sc) (bu m.w m.h sc) (dx m sc)) l=fZ S' (s8 (fI m) (cP m) sc) (bU m.w m.h sc l):=by
 refine aoa (λx k g=>hS x k g) ?_ ?_ hl
 ·rintro x n c g ⟨h1,h2,⟨s,vp,rfl⟩,rfl⟩
  have h3:=Pc hs g vp h2.1
  refine⟨h3.1,⟨(HY hm hs g).1 h1,(HY hm hs h3.1).1 h2,⟨s,vp,h3.2⟩,?_⟩,iG hs g,iG hs h3.1⟩
  exact Ks h3.1
 ·rintro x y c g ⟨⟨h1,h2,⟨s,vp,rfl⟩,rfl⟩,h3,h4⟩
  have h0:=(jF hm h2).2.1
  by_cases hn:0<=bN (aD m.w m.h sc) (bu m.w m.h sc) x s
  ·have h5:=Pc hs g vp hn
   refine⟨_,h5.1,h5.2,(HY hm hs g).2 h1,(HY hm hs h5.1).2 (by grind),⟨s,vp,rfl⟩,?_⟩
   rw[h5.2]
   exact(Ks h5.1).symm
  ·exact((Q5 hs g vp hn).1 h0 h4).elim
def alQ (hm:c8 m)(hs:dG m.w m.h sc)(hl:0<=l/\l<aD m.w m.h sc*bu m.w m.h sc){S:Int->Int->Prop}(hS:∀l k,0<=l/\l<aD m.w m.h sc*bu m.w m.h sc->(S l k↔ajN m t sc (bU m.w m.h sc l) k)):
  fZ S (Hl (aD m.w m.h sc) (bu m.w m.h sc) (dx m sc)) l=D m t (bU m.w m.h sc l):=by
 rw[agq hm hs hS hl]
 exact aqL hm (iG hs hl)
end
section
variable {m:bP}{t x n c d s sc l k:Int}{xs ys:List bh}
def adr (h:∀x∈xs,x.c=c->x.s=s->x.k=k):∀st:Int×Bool,(st.2=true->st.1=k)->(xs.foldl (Q4 c s) st).1=if∃x∈xs,x.c=c/\x.s=s then k else st.1:=by
 induction xs with
 |nil=>grind
 |cons a xs ih=>
  intro st hst
  rw[List.foldl_cons]
  have ih:=ih (λx hx=>h x (by simp[hx]))
  unfold Q4 at ih⊢
  by_cases ha:a.c=c/\a.s=s
  ·have hk:=h a (by simp) ha.1 ha.2
   by_cases hb:st.2=false\/a.k<st.1
   ·rw[if_pos ⟨ha.1,ha.2,hb⟩,ih _ λ_=>hk,if_pos (c:=∃x∈a::xs,x.c=c/\x.s=s) ⟨a,by simp,ha⟩]
    split
    ·rfl
    ·exact hk
   ·rw[if_neg λe=>hb e.2.2,ih _ hst,if_pos (c:=∃x∈a::xs,x.c=c/\x.s=s) ⟨a,by simp,ha⟩]
    split
    ·rfl
    ·apply hst
     rcases h2:st.2 with _|_
     ·exact(hb (.inl h2)).elim
     ·rfl
  ·rw[if_neg λe=>ha ⟨e.1,e.2.1⟩,ih _ hst]
   have:(∃x∈a::xs,x.c=c/\x.s=s)↔∃x∈xs,x.c=c/\x.s=s:=by
    constructor
    ·rintro ⟨x,hx,h1⟩
     rcases List.mem_cons.1 hx with rfl|hx
     ·exact(ha h1).elim
     ·exact⟨x,hx,h1⟩
    ·rintro ⟨x,hx,h1⟩
     exact⟨x,by simp[hx],h1⟩
   by_cases q:∃x∈xs,x.c=c/\x.s=s
   ·rw[if_pos q,if_pos (this.2 q)]
   ·rw[if_neg q,if_neg λe=>q (this.1 e)]
def ads (h:∀x∈xs,x.c=c->x.s=s->x.k=k)(he:∃x∈xs,x.c=c/\x.s=s):Hi xs c s=k:=by
 rw[Hi,adr h (bW,false) (by simp),if_pos he]
def UP (h:∀x∈xs,¬(x.c=c/\x.s=s)):Hi xs c s=bW:=by
 rw[Hi,adr (k:=0) (λx hx h1 h2=>(h x hx ⟨h1,h2⟩).elim) (bW,false) (by simp),if_neg λ⟨x,hx,h1⟩=>h x hx h1]
def Ma (xs:List bh)(l k:Int):Prop:=∃x∈xs,x.c=l/\x.k=k
def Ho (m:bP)(at_:Int->Int)(c:Int):List bh:=(uM m c).filterMap λe=>if at_ e.1=bW then none else some ⟨dA m.w m.h c,xO m.w m.h c e.1,e.2+at_ e.1⟩
def D0 (m:bP)(at_:Int->Int)(t sc:Int):List bh:=(aR m sc).flatMap (Ho m at_)++if aB m.w m.h t=sc/\cE m t≠255 then[⟨dA m.w m.h t,4,0⟩]else[]
def aqM {w h s':Int}(hs:0<=s/\s<=3)(hs':0<=s'/\s'<=4)(h0:0<=aY w h x s)(e:aY w h x s'=aY w h x s):s'=s:=by
 obtain⟨c1,c2⟩:=zk h0
 have hst:∀s,aY w h x s=if s=0 then gR w h (x%w) (x/w-1)else if s=2 then gR w h (x%w) (x/w+1)else if s=3 then gR w h (x%w-1) (x/w)else if s=1 then gR w h (x%w+1) (x/w)else if s=4 then gR w h (x%w) (x/w)else-1:=λs=>by
  unfold aY
  grind
 have ok:∀{a b:Int},0<=gR w h a b->(0<=a/\a<w)/\(0<=b/\b<h)/\gR w h a b=b*w+a:=λh0=>by
  obtain⟨a,b,_⟩:=A8 h0
  exact⟨a,b,mV c1.1 a b⟩
 grind
def UQ {w h:Int}(hs:0<=s/\s<=3)(h0:0<=aY w h x s):xO w h x (aY w h x s)=s:=by
 obtain⟨c1,c2⟩:=zk h0
 unfold xO
 have k:∀s',0<=s'/\s'<=4->s'≠s->¬aY w h x s'=aY w h x s:=λs' h1 h2 e=>h2 (aqM hs h1 h0 e)
 obtain rfl|rfl|rfl|rfl:s=0\/s=1\/s=2\/s=3:=by omega
 all_goals grind
def BI {w h:Int}(h0:0<=gf w h c s):gf w h c s=aY w h c s/\aB w h (aY w h c s)≠aB w h c:=by
 unfold gf at h0⊢
 omega
def UR {e:Int×Int}:e∈uM m c↔eV m c=true/\∃s:Int,(0<=s/\s<=3)/\0<=gf m.w m.h c s/\eV m (gf m.w m.h c s)=true/\e=(gf m.w m.h c s,cE m (gf m.w m.h c s)):=by
 unfold uM
 by_cases ho:eV m c=true
 ·rw[if_pos ho]
  rw[Fu,List.mem_filterMap]
  constructor
  ·rintro ⟨s,h1,h2⟩
   have h1:=List.mem_range.1 h1
   unfold Ey at h2
   grind
  ·rintro ⟨_,s,h1,h2,h3,rfl⟩
   refine⟨s.toNat,List.mem_range.2 (by omega),?_⟩
   unfold Ey
   grind
 grind
def Pd (hm:c8 m)(hs:dG m.w m.h sc)(ht:bE m.w m.h t){x:bh}:x∈D0 m (D m t) t sc↔
  ((0<=x.c/\x.c<aD m.w m.h sc*bu m.w m.h sc)/\(0<=x.s/\x.s<=3)/\eV m (bU m.w m.h sc x.c)=true/\0<=gf m.w m.h (bU m.w m.h sc x.c) x.s/\eV m (gf m.w m.h (bU m.w m.h sc x.c) x.s)=true/\
   D m t (gf m.w m.h (bU m.w m.h sc x.c) x.s)<bW/\x.k=cE m (gf m.w m.h (bU m.w m.h sc x.c) x.s)+D m t (gf m.w m.h (bU m.w m.h sc x.c) x.s))\/
  ((0<=x.c/\x.c<aD m.w m.h sc*bu m.w m.h sc)/\bU m.w m.h sc x.c=t/\eV m t=true/\x.s=4/\x.k=0):=by
 have avF:∀z,D m t z≠bW↔D m t z<bW:=λz=>by
  constructor
  ·intro h
   by_cases q:∃d,Wy (fJ m t) (fI m) z d
   ·exact(Jk hm).2 q
   ·exact(h (ae5 q)).elim
  omega
 rw[D0,List.mem_append,List.mem_flatMap]
 refine or_congr ⟨?_,?_⟩ ⟨?_,?_⟩
 ·rintro ⟨c,h1,h2⟩
  obtain⟨ho,hc,hsc⟩:=l9 hs h1
  obtain⟨e,h3,h4⟩:=List.mem_filterMap.1 h2
  split at h4
  ·cases h4
  rename_i h5
  cases h4
  obtain⟨_,s,h6,h7,h8,rfl⟩:=UR.1 h3
  have hl:=jM hc
  have hg:=nI hc
  obtain⟨h9,h10⟩:=BI h7
  have vp:xO m.w m.h c (gf m.w m.h c s)=s:=by
   rw[h9]
   exact UQ h6 (by grind)
  grind
 ·rintro ⟨h1,h2,h3,h4,h5,h6,h7⟩
  have hsc:=iG hs h1
  refine⟨bU m.w m.h sc x.c,?_,?_⟩
  ·have:=UO hm h3 h2 h4
   unfold mZ cP at this
   grind
  ·refine List.mem_filterMap.2 ⟨_,UR.2 ⟨h3,x.s,h2,h4,h5,rfl⟩,?_⟩
   obtain⟨h9,h10⟩:=BI h4
   rw[if_neg ((avF _).2 h6),E2 hs h1]
   have vp:xO m.w m.h (bU m.w m.h sc x.c) (gf m.w m.h (bU m.w m.h sc x.c) x.s)=x.s:=by
    rw[h9]
    exact UQ h2 (by grind)
   rw[vp,<-h7]
 ·intro h
  split at h
  ·rename_i h1
   rw[List.mem_singleton]at h
   subst h
   have hl:=jM ht
   have hg:=nI ht
   rw[h1.1]at hl hg
   exact⟨hl,hg,(BH hm ht).2 h1.2,rfl,rfl⟩
  ·simp at h
 ·rintro ⟨h1,h2,h3,h4,h5⟩
  have hsc:=iG hs h1
  rw[h2]at hsc
  rw[if_pos ⟨hsc,(BH hm ht).1 h3⟩,List.mem_singleton]
  have h6:=E2 hs h1
  rw[h2]at h6
  rw[h6,<-h4,<-h5]
def aob (hm:c8 m)(hs:dG m.w m.h sc)(ht:bE m.w m.h t)(hxs:∀x,x∈xs↔x∈D0 m (D m t) t sc)(hl:0<=l/\l<aD m.w m.h sc*bu m.w m.h sc):Ma xs l k↔ajN m t sc (bU m.w m.h sc l) k:=by
 have hsc:=iG hs hl
 constructor
 ·rintro ⟨x,h1,rfl,rfl⟩
  rcases(Pd hm hs ht).1 ((hxs x).1 h1)with⟨_,h2,h3,h4,h5,h6,h7⟩|⟨_,h2,h3,h4,h5⟩
  ·obtain⟨h9,h10⟩:=BI h4
   refine⟨hsc,.inr ⟨_,_,⟨h3,h5,⟨x.s,h2,h9.symm⟩,rfl⟩,?_,h6,by omega⟩⟩
   rw[h9]
   rw[hsc]at h10
   exact h10
  ·exact⟨hsc,.inl ⟨h2,h3,h5⟩⟩
 ·rintro ⟨_,⟨h1,h2,h3⟩|⟨n,c,⟨h1,h2,⟨s,h3,rfl⟩,rfl⟩,h4,h5,rfl⟩⟩
  ·exact⟨⟨l,4,k⟩,(hxs _).2 ((Pd hm hs ht).2 (.inr ⟨hl,h1,h2,rfl,h3⟩)),rfl,rfl⟩
  ·have h0:=(jF hm h2).2.1
   have ho:gf m.w m.h (bU m.w m.h sc l) s=aY m.w m.h (bU m.w m.h sc l) s:=by
    rw[gf,vm,if_neg (by rw[hsc];exact h4)]
   refine⟨⟨l,s,_⟩,(hxs _).2 ((Pd hm hs ht).2 (.inl ⟨hl,h3,h1,by grind,by grind,by grind,by rw[ho]⟩)),rfl,?_⟩
   grind
noncomputable def Ku (tw th:Int)(cs:List Int)(xs:List bh)(l:Int):Int:=fZ (Ma xs) (Hl tw th cs) l
def RY (tw th:Int)(cs:List Int)(xs:List bh)(f:Int->Int)(l s:Int):Bool:=
 if bN tw th l s<0 then Hi xs l s==f l else gi cs (bN tw th l s).toNat !=255&&(gi cs (bN tw th l s).toNat+f (bN tw th l s)==f l)
def Ys (tw th:Int)(cs:List Int)(xs:List bh)(f:Int->Int)(l:Int):Int:=
 if f l=bW then 5 else if Hi xs l 4=f l then 4 else if RY tw th cs xs f l 0 then 0 else if RY tw th cs xs f l 1 then 1 else if RY tw th cs xs f l 2 then 2 else if RY tw th cs xs f l 3 then 3 else 5
def ar9 (hm:c8 m)(hs:dG m.w m.h sc)(ht:bE m.w m.h t)(hxs:∀x,x∈xs↔x∈D0 m (D m t) t sc)(hl:0<=l/\l<aD m.w m.h sc*bu m.w m.h sc):
  Ku (aD m.w m.h sc) (bu m.w m.h sc) (dx m sc) xs l=D m t (bU m.w m.h sc l):=
 alQ hm hs hl λl k h=>aob hm hs ht hxs h
def dir_eq (hm:c8 m)(hs:dG m.w m.h sc)(ht:bE m.w m.h t)(hxs:∀x,x∈xs↔x∈D0 m (D m t) t sc){f:Int->Int}(hf:∀l,0<=l/\l<aD m.w m.h sc*bu m.w m.h sc->f l=D m t (bU m.w m.h sc l))(hl:0<=l/\l<aD m.w m.h sc*bu m.w m.h sc):
  Ys (aD m.w m.h sc) (bu m.w m.h sc) (dx m sc) xs f l=pB m t (bU m.w m.h sc l):=by
 have hsc:=iG hs hl
 have hmem:=λx=>(hxs x).trans (Pd hm hs ht)
 unfold Ys pB
 rw[hf l hl]
 by_cases hI:D m t (bU m.w m.h sc l)=bW
 ·grind
 rw[if_neg hI,if_neg hI]
 have hDl:D m t (bU m.w m.h sc l)<bW:=by
  by_cases q:∃d,Wy (fJ m t) (fI m) (bU m.w m.h sc l) d
  ·exact(Jk hm).2 q
  ·exact(hI (ae5 q)).elim
 have hop:eV m (bU m.w m.h sc l)=true/\eV m t=true:=by
  obtain⟨d,hd⟩:=(Jk hm).1 hDl
  exact aiH hd
 by_cases hT:bU m.w m.h sc l=t
 ·rw[if_pos hT,if_pos]
  rw[hT,ar6 hop.2]
  refine ads (λx hx h1 h2=>?_) ⟨⟨l,4,0⟩,(hmem _).2 (.inr ⟨hl,hT,hop.2,rfl,rfl⟩),rfl,rfl⟩
  grind
 rw[if_neg hT,if_neg]
 ·have key:∀s,0<=s/\s<=3->(RY (aD m.w m.h sc) (bu m.w m.h sc) (dx m sc) xs f l s=true↔Jl m t (bU m.w m.h sc l) s):=λs vp=>by
   unfold RY Jl
   rw[hf l hl]
   by_cases hn:0<=bN (aD m.w m.h sc) (bu m.w m.h sc) l s
   ·obtain⟨h1,h2⟩:=Pc hs hl vp hn
    rw[vm,h2,Ks h1,hf _ h1,BH hm (r7 hs h1),Bool.and_eq_true,bne_iff_ne,beq_iff_eq]
    exact⟨λh=>⟨(r7 hs h1).2.1,h⟩,λh=>h.2⟩
   ·obtain⟨h1,_⟩:=Q5 hs hl vp hn
    rw[HE,beq_iff_eq]
    by_cases h0:0<=aY m.w m.h (bU m.w m.h sc l) s
    ·have ho:gf m.w m.h (bU m.w m.h sc l) s=aY m.w m.h (bU m.w m.h sc l) s:=by
      unfold gf
      omega
     by_cases h2:eV m (aY m.w m.h (bU m.w m.h sc l) s)=true/\D m t (aY m.w m.h (bU m.w m.h sc l) s)<bW
     ·rw[ads (k:=cE m (aY m.w m.h (bU m.w m.h sc l) s)+D m t (aY m.w m.h (bU m.w m.h sc l) s)) (λx hx h3 h4=>?_) ⟨⟨l,s,_⟩,(hmem _).2 (.inl ⟨hl,vp,hop.1,by grind,by grind,by grind,by rw[ho]⟩),rfl,rfl⟩]
      all_goals grind
     ·rw[UP λx hx h3=>?_]
      ·constructor
       ·omega
       ·rintro ⟨_,h3,h4⟩
        have h5:=BF h3
        exact(h2 ⟨h3,by omega⟩).elim
      grind
    ·rw[UP λx hx h3=>?_]
     ·constructor
      ·intro h;omega
      ·exact λh=>(h0 h.1).elim
     ·rcases(hmem x).1 hx with⟨_,_,_,h4,_⟩|⟨_,_,_,h5,_⟩
      ·rw[h3.1,h3.2]at h4
       have h5:=(BI h4).1
       exact h0 (by rw[<-h5];exact h4)
      ·omega
  grind
 ·rw[UP λx hx h3=>?_]
  ·exact λh=>hI h.symm
  ·rcases(hmem x).1 hx with⟨_,h4,_⟩|⟨_,h4,_⟩
   ·omega
   ·rw[h3.1]at h4
    exact hT h4
def asa (hm:c8 m)(hs:dG m.w m.h sc)(ht:bE m.w m.h t){x:bh}(hx:x∈D0 m (D m t) t sc):zI (aD m.w m.h sc) (bu m.w m.h sc) (dx m sc) x=true:=by
 have hlen:((dx m sc).length:Int)=aD m.w m.h sc*bu m.w m.h sc\/aD m.w m.h sc*bu m.w m.h sc<0:=by rw[BG];omega
 obtain⟨⟨w1,w2⟩,⟨h1,h2⟩,_⟩:=yK hs
 have out:∀l s,0<=s/\s<=3->¬0<=bN (aD m.w m.h sc) (bu m.w m.h sc) l s->0<=l/\l<aD m.w m.h sc*bu m.w m.h sc->Yp (aD m.w m.h sc) (bu m.w m.h sc) l s=true:=λl s vp hn hl=>by
  obtain⟨i0,i1⟩:0<=l%aD m.w m.h sc/\l%aD m.w m.h sc<aD m.w m.h sc:=⟨Int.emod_nonneg _ (by omega),Int.emod_lt_of_pos _ (by omega)⟩
  obtain⟨j0,j1⟩:0<=l/aD m.w m.h sc/\l/aD m.w m.h sc<bu m.w m.h sc:=⟨Int.ediv_nonneg hl.1 (by omega),Int.ediv_lt_of_lt_mul (by omega) (by grind)⟩
  have hle:l=l/aD m.w m.h sc*aD m.w m.h sc+l%aD m.w m.h sc:=by
   have:=Int.mul_ediv_add_emod l (aD m.w m.h sc)
   grind
  unfold bN at hn
  unfold Yp
  obtain rfl|rfl|rfl|rfl:s=0\/s=1\/s=2\/s=3:=by omega
  ·by_cases q:l/aD m.w m.h sc>0
   ·have:=Int.mul_le_mul_of_nonneg_right (show 1<=l/aD m.w m.h sc by omega) (show 0<=aD m.w m.h sc by omega)
    omega
   grind
  ·grind
  ·grind
  ·by_cases q:l%aD m.w m.h sc>0
   ·have:=Int.mul_nonneg j0 (show 0<=aD m.w m.h sc by omega)
    omega
   grind
 have fin:(0<=x.c/\x.c<aD m.w m.h sc*bu m.w m.h sc)->eV m (bU m.w m.h sc x.c)=true->(0<=x.k/\x.k<=1073741824)->Yp (aD m.w m.h sc) (bu m.w m.h sc) x.c x.s=true->zI (aD m.w m.h sc) (bu m.w m.h sc) (dx m sc) x=true:=λhl ho hk hout=>by
  rw[zI,Ks hl,decide_eq_true (show 0<=x.c/\x.c<((dx m sc).length:Int) by omega),decide_eq_true hk,hout,Bool.true_and,Bool.true_and,Bool.and_true,bne_iff_ne]
  exact(BH hm (r7 hs hl)).1 ho
 rcases(Pd hm hs ht).1 hx with⟨a1,a2,a3,a4,a5,a6,a7⟩|⟨a1,a2,a3,a4,a5⟩
 ·obtain⟨d,hd⟩:=(Jk hm).1 a6
  have b1:=an9 hm hd
  have b2:=an8 hm hd
  have b3:=BF a5
  refine fin a1 a3 (by omega) (out _ _ a2 (λk=>?_) a1)
  obtain⟨o1,o2⟩:=Pc hs a1 a2 k
  obtain⟨q1,q2⟩:=BI a4
  rw[o2,iG hs o1,iG hs a1]at q2
  exact q2 rfl
 ·apply fin a1 (by grind) (by omega)
  unfold Yp
  grind
end
def cJ (a b:bh):Bool:=decide (agn a b<0)
def ab7 {a b:bh}:cJ a b=true↔a.k<b.k\/a.k=b.k/\(a.c<b.c\/a.c=b.c/\a.s<b.s):=by
 unfold cJ agn UL
 grind
def Pe {a b:bh}:cJ a b=false↔¬(a.k<b.k\/a.k=b.k/\(a.c<b.c\/a.c=b.c/\a.s<b.s)):=by rw[<-ab7,Bool.not_eq_true]
def EA:Go.Sort.SWO cJ where
 irrefl x:=by rw[Pe];omega
 trans x y z h k:=by rw[ab7]at*;omega
 ntrans x y z h k:=by rw[Pe]at*;omega
def asb {x y:bh}(h:cJ x y=false)(k:cJ y x=false):x=y:=by
 rw[Pe]at h k
 obtain⟨c,s,q⟩:=x
 obtain⟨c',s',q'⟩:=y
 grind
def Yt (xs:List bh):List bh:=xs.mergeSort λx y=>!cJ y x
def Mb (xs:List bh):List bh:=Yt xs
def aqN {xs:List bh}{x:bh}:x∈Yt xs↔x∈xs:=List.mem_mergeSort
def aqO {xs:List bh}:(Yt xs).length=xs.length:=List.length_mergeSort _
def aoc {xs:List bh}{x:bh}:x∈Mb xs↔x∈xs:=aqN
def aod {xs:List bh}:(Mb xs).length=xs.length:=aqO
def ajO {xs:List bh}:(Yt xs).Pairwise λa b=>a.k<=b.k:=by
 have h:=List.pairwise_mergeSort (le:=λx y=>!cJ y x) (λa b c h k=>by
  simp[Bool.not_eq_true']at*
  exact EA.ntrans _ _ _ k h) (λa b=>by
  simp[Bool.or_eq_true,Bool.not_eq_true']
  by_cases q:cJ b a=true
  ·right
   rw[ab7]at q
   rw[Pe]
   omega
  grind) xs
 refine List.Pairwise.imp ?_ h
 intro a b h
 simp[Bool.not_eq_true']at h
 rw[Pe]at h
 omega
def ah3 {xs:List bh}:(Mb xs).Pairwise λa b=>a.k<=b.k:=ajO
def Dj (n:Nat)(out:List Int)(a c:Int):Bool:=c==0||(decide ((n:Int)-out.length<a+1)||(decide (0<out.length)&&gi out (out.length-1)==c))
def pC (n:Nat):List Int->List Int->Nat->Option (List Int×Nat)
 |a::c::r,out,used=>if n<=out.length then some (out,used)else if Dj n out a c then none else pC n r (out++List.replicate (a+1).toNat c) (used+2)
 |_,out,used=>if n<=out.length then some (out,used)else none
def Jm (n:Nat):List Int->Option (List Int×Nat)
 |[]=>none
 |f::r=>if f=0 then(if r=[]\/gi r 0=0 then none else some (List.replicate n (gi r 0),2))
  else if f=1 then(if r.length<n\/0∈r.take n then none else some (r.take n,1+n))
  else if f=2 then pC n r [] 1
  else none
def EB (n:Nat)(f:Int)(r:List Int):Jm n (f::r)=if f=0 then(if r=[]\/gi r 0=0 then none else some (List.replicate n (gi r 0),2))
 else if f=1 then(if r.length<n\/0∈r.take n then none else some (r.take n,1+n))
 else if f=2 then pC n r [] 1
 else none:=rfl
def G0 (bs:List Int)(n:Nat):Option (List Int×Nat):=match Jm n bs with
 |some (cs,used)=>if(sY cs).2=bs.take used then some (cs,used)else none
 |none=>none
def Mc (x:Int):∀l:List Int,l.take (lead x l)=List.replicate (lead x l) x
 |[]=>rfl
 |y::ys=>by
  unfold lead
  split
  ·rename_i h
   subst h
   rw[List.take_succ_cons,List.replicate_succ,Mc]
  ·rfl
def adt (x:Int):∀l:List Int,∀y ys,l.drop (lead x l)=y::ys->y≠x
 |[],y,ys,h=>by grind
 |z::zs,y,ys,h=>by
  unfold lead at h
  split at h
  ·exact adt x zs y ys h
  grind
def Md {n:Nat}{out:List Int}{used:Nat}(h:n<=out.length):∀bs,pC n bs out used=some (out,used)
 |[]=>by simp[pC,h]
 |[a]=>by simp[pC,h]
 |a::c::r=>by rw[pC,if_pos h]
def adu (n:Nat):∀(f:Nat) (cs out rest:List Int) (used:Nat),cs.length<=f->cs.length<=256->(∀x∈cs,1<=x/\x<256)->n=out.length+cs.length->(0<out.length->∀y ys,cs=y::ys->gi out (out.length-1)≠y)->
  pC n (kV f cs++rest) out used=some (out++cs,used+(kV f cs).length)
 |0,cs,out,rest,used,hf,aoe,hr,hn,hl=>by
  have:cs=[]:=List.eq_nil_of_length_eq_zero (by omega)
  subst this
  rw[Md (by omega)]
  simp[kV]
 |f+1,[],out,rest,used,hf,aoe,hr,hn,hl=>by
  rw[Md (by grind)]
  simp[kV]
 |f+1,x::ys,out,rest,used,hf,aoe,hr,hn,hl=>by
  have hk:=NN x ys
  simp[List.length_cons]at hf aoe hn
  have hx:=hr x (by simp)
  have e:((lead x ys:Nat):Int)%256=lead x ys:=Int.emod_eq_of_lt (by omega) (by omega)
  have ey:List.replicate (lead x ys+1) x++ys.drop (lead x ys)=x::ys:=by
   rw[List.replicate_succ,<-Mc,List.cons_append,List.take_append_drop]
  show pC n (((lead x ys:Nat):Int)%256::x::(kV f (ys.drop (lead x ys))++rest)) out used=_
  rw[e,pC,vm,if_neg]
  ·have:=adu n f (ys.drop (lead x ys)) (out++List.replicate (lead x ys+1) x) rest (used+2) (by grind) (by grind) (λz hz=>hr z (by grind)) (by grind) (λ_ y zs hy=>by
    have h1:=adt x ys y zs hy
    intro h2
    apply h1
    rw[<-h2]
    unfold gi
    grind)
   rw[show((lead x ys:Nat)+1:Int).toNat=lead x ys+1 by omega,this,List.append_assoc,ey]
   congr 2
   show _=used+(((lead x ys:Nat):Int)%256::x::kV f (ys.drop (lead x ys))).length
   grind
  ·unfold Dj
   grind
def aof {cs rest:List Int}(hr:∀x∈cs,1<=x/\x<256)(h1:1<=cs.length/\cs.length<=256):Jm cs.length ((sY cs).2++rest)=some (cs,(sY cs).2.length):=by
 have hb:=adu cs.length cs.length cs [] rest 1 (Nat.le_refl _) h1.2 hr (by simp) (by simp)
 rw[List.nil_append]at hb
 unfold sY
 split
 ·rename_i h3
  obtain⟨x,ys,rfl⟩:∃x ys,cs=x::ys:=by
   cases cs with
   |nil=>simp at h1
   |cons x ys=>grind
  have h4:(kV (x::ys).length (x::ys)).length=2:=by
   unfold sX at h3
   grind
  have h5:kV ys.length (ys.drop (lead x ys))=[]:=by
   apply List.eq_nil_of_length_eq_zero
   have:(kV (x::ys).length (x::ys)).length=(kV ys.length (ys.drop (lead x ys))).length+2:=rfl
   omega
  have h6:ys.drop (lead x ys)=[]:=by
   cases hd:ys.drop (lead x ys)with
   |nil=>rfl
   |cons z zs=>
    rw[hd]at h5
    have h7:0<ys.length:=by grind
    obtain⟨k,hk⟩:∃k,ys.length=k+1:=⟨ys.length-1,by omega⟩
    rw[hk]at h5
    cases h5
  have h7:lead x ys=ys.length:=by
   have:=NN x ys
   have h8:(ys.drop (lead x ys)).length=0:=by rw[h6];rfl
   grind
  have h8:ys=List.replicate ys.length x:=by
   have:=Mc x ys
   grind
  have hx:=hr x (by simp)
  show Jm _ (0::x::rest)=some (x::ys,2)
  rw[EB,if_pos rfl,if_neg]
  ·show some (List.replicate (ys.length+1) x,2)=some (x::ys,2)
   grind
  ·rintro (h|h)
   ·cases h
   ·have:x=0:=h
    omega
 ·split
  ·show Jm _ (2::(kV cs.length cs++rest))=some (cs,(2::kV cs.length cs).length)
   rw[EB,if_neg (by decide),if_neg (by decide),if_pos rfl,hb,List.length_cons,Nat.add_comm]
  ·show Jm _ (1::(cs++rest))=some (cs,(1::cs).length)
   rw[EB,if_neg (by decide),if_pos rfl,if_neg,List.take_left,List.length_cons,Nat.add_comm]
   grind
def aqP {cs rest:List Int}(hr:∀x∈cs,1<=x/\x<256)(h1:1<=cs.length/\cs.length<=256):G0 ((sY cs).2++rest) cs.length=some (cs,(sY cs).2.length):=by
 rw[G0,aof hr h1]
 grind
def Q7 (n:Nat):∀(bs out:List Int) (used:Nat) (cs:List Int) (u:Nat),(∀x∈bs,0<=x/\x<256)->(∀x∈out,1<=x/\x<256)->out.length<=n->pC n bs out used=some (cs,u)->cs.length=n/\(∀x∈cs,1<=x/\x<256)/\u<=used+bs.length
 |[],out,used,cs,u,hb,ho,hn,h=>by
  unfold pC at h
  grind
 |[a],out,used,cs,u,hb,ho,hn,h=>by
  unfold pC at h
  grind
 |a::c::r,out,used,cs,u,hb,ho,hn,h=>by
  unfold pC at h
  split at h
  ·grind
  ·split at h
   ·cases h
   ·rename_i h1 h2
    unfold Dj at h2
    have:=Q7 n r _ (used+2) cs u (λx hx=>hb x (by simp[hx])) (λx hx=>by
     grind) (by grind) h
    grind
def alR {bs cs:List Int}{n used:Nat}(hn:1<=n)(hb:∀x∈bs,0<=x/\x<256)(h:G0 bs n=some (cs,used)):cs.length=n/\(∀x∈cs,1<=x/\x<256)/\used<=bs.length:=by
 unfold G0 at h
 split at h
 ·rename_i cs' used' hB
  split at h
  ·cases h
   cases bs with
   |nil=>cases hB
   |cons f r=>
    rw[EB]at hB
    split at hB
    ·split at hB
     ·cases hB
     ·rename_i h1
      cases hB
      obtain⟨x,r',rfl⟩:∃x r',r=x::r':=by
       cases r with
       |nil=>grind
       |cons x r'=>grind
      have hx:=hb x (by simp)
      refine⟨by simp,λy hy=>?_,by simp⟩
      rw[List.mem_replicate]at hy
      have h3:y=x:=hy.2
      omega
    ·split at hB
     ·grind
     ·split at hB
      ·have:=Q7 n r [] 1 cs used (λx hx=>hb x (by simp[hx])) (by simp) (by simp) hB
       grind
      ·cases hB
  ·cases h
 ·cases h
def D1 (w h sc:Int)(M ts:List Int)(y:Int):List Int:=(List.range M.length).map λc:Nat=>if aB w h c=sc/\dA w h c/aD w h sc<y then gi ts (dA w h c).toNat else gi M c
def agr (w h sc:Int)(M ts:List Int):List Int:=D1 w h sc M ts (bu w h sc)
def xo (w h:Int):Nat->Int->List Int->List Int->Option (List Int×List Int)
 |0,_,bs,M=>some (bs,M)
 |k+1,i,bs,M=>match G0 bs (aD w h i*bu w h i).toNat with
  |none=>none
  |some (ts,used)=>xo w h k (i+1) (bs.drop used) (agr w h i M ts)
def AL (bs:List Int):Int:=gi bs 0+256*gi bs 1
def AM (bs:List Int):Int:=gi bs 2+256*gi bs 3
def kL (bs:List Int):Option bP:=
 if bs.length<4 then none else if iX (AL bs) (AM bs)then
  match xo (AL bs) (AM bs) (d_ (AL bs) (AM bs)).toNat 0 (bs.drop 4) (List.replicate (AL bs*AM bs).toNat 0)with
  |some (bs',M)=>if bs'=[]then some ⟨AL bs,AM bs,M⟩else none
  |none=>none
 else none
section
variable {w h sc y:Int}{M ts:List Int}{c:Nat}
def Kv:(D1 w h sc M ts y).length=M.length:=by simp[D1]
def Q8:(agr w h sc M ts).length=M.length:=Kv
def VQ (hc:c<M.length):gi (D1 w h sc M ts y) c=if aB w h c=sc/\dA w h c/aD w h sc<y then gi ts (dA w h c).toNat else gi M c:=by
 unfold gi D1
 rw[List.getD_eq_getElem?_getD,List.getElem?_map,List.getElem?_range hc]
 rfl
def aiJ (hc:c<M.length)(hC:bE w h c):gi (agr w h sc M ts) c=if aB w h c=sc then gi ts (dA w h c).toNat else gi M c:=by
 rw[agr,VQ hc]
 by_cases e:aB w h c=sc
 ·rw[if_pos e,if_pos]
  refine⟨e,?_⟩
  have hl:=jM hC
  have hs:=bS hC
  rw[e]at hl hs
  obtain⟨⟨w1,w2⟩,⟨h1,h2⟩,_⟩:=yK hs
  exact Int.ediv_lt_of_lt_mul (by omega) (by grind)
 grind
def ags {a:Int}(h:1<=a/\a<=1024):a%256+256*(a/256%256)=a:=by omega
def aog {m:bP}(hm:c8 m){s:Int}(hs:dG m.w m.h s):(pV m s).length=(aD m.w m.h s*bu m.w m.h s).toNat:=by
 unfold pV
 grind
def aoh {m:bP}{l:Int}(hl:0<=l/\l<aD m.w m.h sc*bu m.w m.h sc):gi (pV m sc) l.toNat=gi m.cs (bU m.w m.h sc l).toNat:=by
 show(pV m sc).getD l.toNat 0=_
 unfold pV
 grind
def agt {m:bP}(hm:c8 m)(hs:dG m.w m.h sc):pV m sc=dx m sc:=by
 refine List.map_congr_left λl hl=>?_
 have hl:=List.mem_range.1 hl
 have hg:=r7 hs (l:=l) (by omega)
 have:=hm.len
 have:=hg.2
 unfold cE
 omega
def adv {m:bP}(hm:c8 m):∀(k:Nat) (i:Nat) (M:List Int),(i:Int)+k=d_ m.w m.h->M.length=m.cs.length->(∀c:Nat,c<m.cs.length->aB m.w m.h c<i->gi M c=gi m.cs c)->
  xo m.w m.h k i ((List.range' i k).flatMap λs:Nat=>(sY (pV m s)).2) M=some ([],m.cs)
 |0,i,M,hk,hl,hM=>by
  show some ([],M)=some ([],m.cs)
  congr 2
  refine TK hl λc hc=>hM c (by omega) ?_
  have hC:bE m.w m.h c:=⟨⟨hm.w,hm.h⟩,by omega,by rw[<-hm.len];omega⟩
  have:=(bS hC).2.2
  omega
 |k+1,i,M,hk,hl,hM=>by
  have hs:dG m.w m.h i:=⟨⟨hm.w,hm.h⟩,by omega,by omega⟩
  have hlen:=TO hm hs.2
  have e:=aog hm hs
  rw[List.range'_succ,List.flatMap_cons,xo,<-e,aqP (TN hm hs.2) hlen.2]
  simp only
  rw[List.drop_left,show((i:Int)+1)=((i+1:Nat):Int) by omega]
  refine adv hm k (i+1) _ (by omega) (by rw[Q8,hl]) λc hc hsc=>?_
  have hC:bE m.w m.h c:=⟨⟨hm.w,hm.h⟩,by omega,by rw[<-hm.len];omega⟩
  rw[aiJ (by omega) hC]
  by_cases q:aB m.w m.h c=i
  ·rw[if_pos q]
   have RZ:=jM hC
   have hg:=nI hC
   rw[q]at RZ hg
   rw[aoh RZ,hg]
   rfl
  grind
def aaa {m:bP}(hm:c8 m):kL (xX m)=some m:=by
 have e1:AL (xX m)=m.w:=ags hm.w
 have e2:AM (xX m)=m.h:=ags hm.h
 rw[kL,e1,e2,if_neg (by unfold xX;simp),if_pos ⟨hm.w,hm.h⟩]
 have:=adv hm (d_ m.w m.h).toNat 0 (List.replicate (m.w*m.h).toNat 0) (by have:=(gD hm.w hm.h).1;omega) (by have:=hm.len;simp;omega) (λc hc h=>by
  have hC:bE m.w m.h c:=⟨⟨hm.w,hm.h⟩,by omega,by rw[<-hm.len];omega⟩
  have:=(bS hC).2.1
  omega)
 rw[<-List.range_eq_range']at this
 have e3:(xX m).drop 4=(List.range (d_ m.w m.h).toNat).flatMap λs:Nat=>(sY (pV m s)).2:=by rfl
 simp_all
def agu (hm:iX w h):∀(k:Nat) (i:Nat) (bs M bs' M':List Int),(i:Int)+k=d_ w h->(M.length:Int)=w*h->(∀x∈bs,0<=x/\x<256)->(∀c:Nat,c<M.length->aB w h c<i->1<=gi M c/\gi M c<256)->
  xo w h k i bs M=some (bs',M')->(M'.length:Int)=w*h/\∀x∈M',1<=x/\x<256
 |0,i,bs,M,bs',M',hk,hl,hb,hM,h=>by
  cases h
  refine⟨hl,λx hx=>?_⟩
  obtain⟨c,hc⟩:=List.mem_iff_getElem?.1 hx
  have wK:=(List.getElem?_eq_some_iff.1 hc).1
  have hC:bE w h c:=⟨hm,by omega,by omega⟩
  have:=hM c wK (by have:=(bS hC).2.2;omega)
  rw[gT wK]at hc
  grind
 |k+1,i,bs,M,bs',M',hk,hl,hb,hM,hg=>by
  have hs:dG w h i:=⟨hm,by omega,by omega⟩
  obtain⟨⟨w1,w2⟩,⟨h1,h2⟩,_⟩:=yK hs
  have h11:1<=aD w h i*bu w h i:=by
   have:=Int.mul_le_mul w1 h1 (by decide) (by omega)
   omega
  rw[xo]at hg
  split at hg
  ·cases hg
  ·rename_i ts used hT
   obtain⟨t1,t2,t3⟩:=alR (by omega) hb hT
   refine agu hm k (i+1) _ _ bs' M' (by omega) (by rw[Q8];exact hl) (λx hx=>hb x (List.mem_of_mem_drop hx)) (λc hc hsc=>?_) hg
   rw[Q8]at hc
   have hC:bE w h c:=⟨hm,by omega,by omega⟩
   rw[aiJ hc hC]
   by_cases q:aB w h c=i
   ·rw[if_pos q]
    have RZ:=jM hC
    rw[q]at RZ
    exact t2 _ (fE (by omega))
   grind
def adw {bs:List Int}{m:bP}(hb:∀x∈bs,0<=x/\x<256)(h:kL bs=some m):c8 m:=by
 unfold kL at h
 split at h
 ·cases h
 ·split at h
  ·rename_i hm
   split at h
   ·rename_i bs' M hT
    split at h
    ·cases h
     have hwh:=oO hm
     obtain⟨a,b⟩:=agu hm _ 0 _ _ _ _ (by have:=(gD hm.1 hm.2).1;omega) (by grind) (λx hx=>hb x (List.mem_of_mem_drop hx)) (λc hc hsc=>by
      rw[List.length_replicate]at hc
      have hC:bE (AL bs) (AM bs) c:=⟨hm,by omega,by omega⟩
      have:=(bS hC).2.1
      omega) hT
     exact⟨hm.1,hm.2,a,b⟩
    ·cases h
   ·cases h
  ·cases h
end
end Go.Proofs.YtmegplnmiepfbaaGreatDoor.S
namespace Go.Proofs.YtmegplnmiepfbaaGreatDoor.S.Rg
abbrev E:=Int×Int
def Xb (j:Nat)(e:E):Bool:=decide (e.1%256=(j:Int))
def sV (l:List E)(j:Nat):List Int:=(l.filter (Xb j)).map (·.2)
def Fit (a:Int)(l:List E):Prop:=∀e∈l,a<=e.1/\e.1<a+256
def alS (l:List E)(e:E)(j:Nat):sV (l++[e]) j=if e.1%256=(j:Int)then sV l j++[e.2]else sV l j:=by
 unfold sV
 by_cases h:e.1%256=(j:Int)
 ·simp[Xb,h]
 ·simp[Xb,h]
def aoi {a:Int}{l:List E}{e:E}(h:Fit a l)(h1:a<=e.1)(h2:e.1<a+256):Fit a (l++[e]):=by
 intro x hx
 rcases List.mem_append.1 hx with hx|hx
 ·exact h x hx
 grind
def adx {k:Int}:∀{l:List E},(∃e∈l,e.1=k)->∃l1 x l2,l=l1++(k,x)::l2/\∀e∈l1,e.1≠k
 |[],h=>by grind
 |y::l,h=>by
  by_cases hy:y.1=k
  ·exact⟨[],y.2,l,by subst hy;rfl,by simp⟩
  ·obtain⟨l1,x,l2,h1,h2⟩:=adx (k:=k) (l:=l) (by
    grind)
   grind
def VR {a k:Int}{l:List E}{j:Nat}(h:Fit a l)(hk:a<=k/\k<a+256)(hj:k%256=(j:Int)){e:E}(he:e∈l):Xb j e=true↔e.1=k:=by
 have:=h e he
 unfold Xb
 grind
def alT {a k:Int}{l:List E}{j:Nat}(h:Fit a l)(hk:a<=k/\k<a+256)(hj:k%256=(j:Int))(Q1:∀e∈l,k<=e.1)(hne:sV l j≠[]):
  ∃l1 x l2,l=l1++(k,x)::l2/\(∀e∈l1,k<e.1)/\(∀e∈l2,k<=e.1)/\sV l j=x::sV (l1++l2) j/\(∀j',j'≠j->sV (l1++l2) j'=sV l j')/\Fit k (l1++l2):=by
 have hex:∃e∈l,e.1=k:=by
  unfold sV at hne
  cases hf:l.filter (Xb j)with
  |nil=>grind
  |cons e r=>
   have:e∈l.filter (Xb j):=by rw[hf];simp
   obtain⟨h1,h2⟩:=List.mem_filter.1 this
   exact⟨e,h1,(VR h hk hj h1).1 h2⟩
 obtain⟨l1,x,l2,rfl,hl1⟩:=adx hex
 refine⟨l1,x,l2,rfl,λe he=>?_,λe he=>Q1 e (by simp[he]),?_,λj' hj'=>?_,λe he=>?_⟩
 ·grind
 ·unfold sV
  have h1:l1.filter (Xb j)=[]:=by
   rw[List.filter_eq_nil_iff]
   intro e he hb
   exact hl1 e he ((VR h hk hj (by simp[he])).1 hb)
  rw[List.filter_append,List.filter_append,h1,List.filter_cons_of_pos (by unfold Xb;grind)]
  rfl
 ·unfold sV
  rw[List.filter_append,List.filter_append,List.filter_cons_of_neg (by unfold Xb;grind)]
 ·have h1:e∈l1++(k,x)::l2:=by grind
  have:=h e h1
  grind
def ah4 {a:Int}{l:List E}(h:Fit a l)(hne:l≠[]):∃d:Nat,d<256/\(∀e∈l,a+d<=e.1)/\∃e∈l,e.1=a+d:=by
 have key:∀n:Nat,(∃e∈l,e.1<a+n)->∃d:Nat,d<n/\(∀e∈l,a+d<=e.1)/\∃e∈l,e.1=a+d:=by
  intro n
  induction n with
  |zero=>
   rintro ⟨e,he,hlt⟩
   have:=h e he
   omega
  |succ n ih=>
   rintro ⟨e,he,hlt⟩
   by_cases hn:∃e∈l,e.1<a+n
   all_goals grind
 obtain⟨e,he⟩:=List.exists_mem_of_ne_nil l hne
 exact key 256 ⟨e,he,(h e he).2⟩
def aab {a k:Int}{l:List E}{j:Nat}(h:Fit a l)(hk:a<=k/\k<a+256)(hj:k%256=(j:Int)):sV l j=[]↔∀e∈l,e.1≠k:=by
 rw[sV,List.map_eq_nil_iff,List.filter_eq_nil_iff]
 constructor
 ·intro h1 e he hk'
  exact h1 e he ((VR h hk hj he).2 hk')
 ·intro h1 e he hb
  exact h1 e he ((VR h hk hj he).1 hb)
end Go.Proofs.YtmegplnmiepfbaaGreatDoor.S.Rg
namespace Go.Proofs.YtmegplnmiepfbaaGreatDoor.S.Rg
open Go.Sx
def dW:vY P T:=DF P rows GD
def oH {n lo hi:Int}{w:World}{Q:Int->World->Prop}(h1:lo<=hi)(h2:-1099511627776<=lo)(h3:hi<=1099511627776)(h:Q (lo+n%(hi-lo+1)) w):jh n lo hi w Q:=by
 apply tI
 rw[aJ (n:=hi-lo),aJ]
 generalize hs:hi-lo+1=s at h
 have h4:=Int.lt_tmod_of_pos n (b:=s) (by omega)
 have h5:=Int.tmod_lt_of_pos n (b:=s) (by omega)
 have h6:=Int.tmod_add_mul_tdiv n s
 refine⟨by omega,?_⟩
 generalize ht:Int.tmod n s=t at*
 have e:n%s=t%s:=by rw[<-h6,Int.add_mul_emod_self_left]
 by_cases hn:t<0
 ·rw[bY hn,aJ (n:=t+hi),aJ (n:=t+hi-lo),aJ (n:=t+hi-lo+1),aJ]
  have e2:t%s=t+s:=by rw[<-Int.add_emod_right,Int.emod_eq_of_lt (by omega) (by omega)]
  grind
 ·rw[bD hn,aJ]
  rw[e,Int.emod_eq_of_lt (by omega) h5]at h
  exact h
structure Bk where
 a:Option Addr
 c:Nat
 xs:List Int
 gone:Nat
def ints (l:List Int):List Value:=l.map (ae)
def US (b:Bk):List Value:=[.slice b.a b.xs.length b.c,ae b.gone]
def VS (b:Bk):(US b).length=2:=rfl
def Aw (b:Bk):As:=aj b.a b.xs.length b.c 3 1 (ints b.xs)
def sO (a len:Int)(bs:List Bk):List Value:=ae a::ae len::flat US bs
def Q9 (p:Nat)(a len:Int)(bs:List Bk):List As:=av p 388 (sO a len bs)::bs.map Aw
structure Rel (a:Int) (l:List E) (bs:List Bk) (N:Nat):Prop where
 n:bs.length=256
 fit:Fit a l
 nn:0<=a
 big:a+256*(l.length:Int)<=1099511627776+256*(N:Int)
 nF:l.length<=N
 room:N<1000000
 bk:∀(j:Nat) b,bs[j]? =some b->b.xs.drop b.gone=sV l j/\b.gone<=b.xs.length/\b.xs.length<=N
def AN (p:Nat)(a:Int)(l:List E)(bs:List Bk)(N:Nat):As:=aV (Rel a l bs N) (Q9 p a l.length bs)
attribute [local irreducible] af cw bq bg aC cf bX St Bx Al App cA cq cm bT aI bw aq bR av aj
section
variable {F:Nat->Prop}{W w:World}{L:List As}{i j p o n c:Nat}{t:TypeId}{cs:List Value}{a:Option Addr}{xs:List Int}
def Yu {x:Int}{Q:World->Prop}(s:Sep F W w L)(hi:L[i]? =some (av p t cs))(ho:cs[o]? =some (.slice a n c))(hj:L[j]? =some (aj a n c 3 1 (ints xs)))(hij:i≠j)(hn:n<1000000)
  (h:∀w' a' c',Sep F W w' ((L.set j (aj a' (n+1) c' 3 1 (ints (xs++[x])))).set i (av p t (cs.set o (.slice a' (n+1) c'))))->Q w'):yl (some ⟨p,o,none⟩) x w Q:=by
 apply OJ
 apply ah
 apply bC s rfl hi ho
 refine aT s λbx w1 s=>?_
 have src:Src w1 (sZ bx) 1 1 [ae x]:=⟨rfl,λu hu=>by rw[List.mem_singleton.1 hu];rfl,λj u hj=>by rw[bZ,Nat.zero_add];exact cg s (i:=0) rfl rfl hj⟩
 refine iL dW s (bytes:=8) rfl rfl rfl rfl rfl rfl (by decide) (by rw[List.getElem?_cons_succ];exact hj) src (by simp[maxLen];omega) (by omega) (λe=>by cases e) λa' c' w2 s=>?_
 have s:=ai s
 have e1:ints xs++[ae x]=ints (xs++[x]):=by simp[ints]
 apply ah
 have ho':=(List.getElem?_eq_some_iff.1 ho).1
 refine ax s rfl (by rw[List.getElem?_set_ne (Ne.symm hij)];exact hi) (by simp_all) λw3 s=>?_
 grind
def BJ {g:Int}{Q:Bool->World->Prop}(s:Sep F W w L)(hi:L[i]? =some (av p t cs))(ho:cs[o]? =some (.slice a n c))(ho':cs[o+1]? =some (ae g))(h:Q (g==(n:Int)) w.drew):p_ (some ⟨p,o,none⟩) w Q:=by
 apply Lt
 have s':Sep F W w.drew L:=s
 apply ah
 refine aU s' (by rw[bZ]) hi ho' (ah ?_)
 exact bC s' rfl hi ho h
def Yv {g:Nat}{x:Int}{Q:Int->World->Prop}(s:Sep F W w L)(hi:L[i]? =some (av p t cs))(ho:cs[o]? =some (.slice a n c))(ho':cs[o+1]? =some (ae g))(hj:L[j]? =some (aj a n c 3 1 (ints xs)))(hij:i≠j)(hn:n<1000000)(hx:xs[g]? =some x)
  (h1:g+1<n->∀w',Sep F W w' (L.set i (av p t (cs.set (o+1) (ae ((g+1:Nat):Int)))))->Q x w')
  (h2:g+1=n->∀w',Sep F W w' ((L.set i (av p t ((cs.set o (.slice a 0 c)).set (o+1) (ae ((0:Nat):Int))))).set j (aj a 0 c 3 1 []))->Q x w'):yh (some ⟨p,o,none⟩) w Q:=by
 apply OK
 have hiL:=(List.getElem?_eq_some_iff.1 hi).1
 have hol:=(List.getElem?_eq_some_iff.1 ho).1
 have avG:=(List.getElem?_eq_some_iff.1 ho').1
 have hxl:=(List.getElem?_eq_some_iff.1 hx).1
 have hl:xs.length=n:=by have:=qL s hj;simpa[ints]using this
 obtain⟨b,ob,rfl⟩:=pI s hj (by omega)
 have s0:Sep F W w.drew L:=s
 apply ah
 refine bC s0 rfl hi ho (ah ?_)
 apply aU s0 (by rw[bZ]) hi ho'
 refine⟨by omega,by omega,ah ?_⟩
 rw[show((g:Int)).toNat*1=g by omega]
 refine TC s0 hj (by rw[bZ]) (by rw[ints,List.getElem?_map,hx];rfl) (ah ?_)
 refine aU s0 (by rw[bZ]) hi ho' (ah ?_)
 rw[aJ,show((g:Int)+1)=((g+1:Nat):Int) by omega]
 refine ax s0 (by rw[bZ]) hi (by simp_all) λw1 s1=>?_
 apply BJ (a:=some ⟨b,ob,none⟩) (n:=n) (c:=c) s1 (List.getElem?_set_self hiL) (by grind) (List.getElem?_set_self avG)
 have s2:Sep F W w1.drew _:=s1
 by_cases he:g+1=n
 ·rw[he,beq_self_eq_true,cond_true]
  apply ah
  apply bC s2 rfl (List.getElem?_set_self hiL) (by rw[List.getElem?_set_ne (by omega)];exact ho)
  refine NK (m:=0) rfl (by omega) (ah ?_)
  refine ax s2 rfl (List.getElem?_set_self hiL) (by simp_all) λw3 s3=>?_
  rw[gS]at s3
  apply ah
  refine ax s3 (by rw[bZ]) (List.getElem?_set_self hiL) (by simp_all) λw4 s4=>?_
  rw[gS]at s4
  have s5:=RQ s4 (by rw[List.getElem?_set_ne hij];exact hj) (Nat.zero_le _)
  apply h2 he w4
  have ec:((cs.set (o+1) (ae ((n:Nat):Int))).set o (.slice (some ⟨b,ob,none⟩) 0 c)).set (o+1) (ae 0)=(cs.set o (.slice (some ⟨b,ob,none⟩) 0 c)).set (o+1) (ae ((0:Nat):Int)):=by
   have e3:(cs.set (o+1) (ae ((n:Nat):Int))).set o (.slice (some ⟨b,ob,none⟩) 0 c)=(cs.set o (.slice (some ⟨b,ob,none⟩) 0 c)).set (o+1) (ae ((n:Nat):Int)):=List.set_comm _ _ (by omega)
   simp_all
  grind
 grind
end
end Go.Proofs.YtmegplnmiepfbaaGreatDoor.S.Rg
namespace Go.Proofs.YtmegplnmiepfbaaGreatDoor.S.Rg
open Go.Sx
def EC {p:Addr}{A B:Prop}(h:B):cond (some p).isNone A B:=h
def Kw {bs:List Bk}{j:Nat}{b:Bk}(h:bs[j]? =some b):(bs.map Aw)[j]? =some (Aw b):=by grind
def Me {a len:Int}{bs:List Bk}{j:Nat}{b:Bk}(h:bs[j]? =some b):(sO a len bs)[j*2+2]? =some (.slice b.a b.xs.length b.c):=by
 show(flat US bs)[j*2+0]? =_
 rw[rZ VS h (by decide)];rfl
def Ns {a len:Int}{bs:List Bk}{j:Nat}{b:Bk}(h:bs[j]? =some b):(sO a len bs)[j*2+2+1]? =some (ae b.gone):=by
 show(flat US bs)[j*2+1]? =_
 rw[rZ VS h (by decide)];rfl
def R0 {a len:Int}{bs:List Bk}{j:Nat}{b b':Bk}{v:Value}(h:bs[j]? =some b)(hv:US b'=(US b).set 0 v):(sO a len bs).set (j*2+2) v=sO a len (bs.set j b'):=by
 show _::_::(flat US bs).set (j*2+0) v=_
 rw[PZ VS h (by decide) hv];rfl
def Mf {a len:Int}{bs:List Bk}{j:Nat}{b b':Bk}{v:Value}(h:bs[j]? =some b)(hv:US b'=(US b).set 1 v):(sO a len bs).set (j*2+2+1) v=sO a len (bs.set j b'):=by
 show _::_::(flat US bs).set (j*2+1) v=_
 rw[PZ VS h (by decide) hv];rfl
attribute [local irreducible] af cw bq bg aC cf bX St Bx Al App cA cq cm bT aI bw aq bR av aj aV
section
variable {F:Nat->Prop}{W w:World}{L:List As}{i p:Nat}{a:Int}{l:List E}{bs:List Bk}{N:Nat}
def G1 (s:Sep F W w L)(hi:L[i]? =some (AN p a l bs N)):Rel a l bs N:=adb s hi
def Mg (s:Sep F W w L)(hi:L[i]? =some (AN p a l bs N)):Sep (AN p a l bs N).fp w w (Q9 p a l.length bs):=HC s hi
def Cn {Q:Int->World->Prop}(s:Sep F W w L)(hi:L[i]? =some (AN p a l bs N))(h:Q (l.length:Int) w):qi (sZ p) w Q:=by
 apply S4
 refine EC (ah ?_)
 exact aU (Mg s hi) (i:=0) rfl rfl rfl h
def Pf {k x:Int}{Q:Bool->World->Prop}(s:Sep F W w L)(hi:L[i]? =some (AN p a l bs N))(hk:k<9223372036854775808)(m6:N+1<1000000)
  (hno:¬(a<=k/\k<a+256)->Q false w)(hyes:a<=k/\k<a+256->∀w' bs',Sep F W w' (L.set i (AN p a (l++[(k,x)]) bs' (N+1)))->Q true w'):uX (sZ p) k x w Q:=by
 apply S5
 have hr:=G1 s hi
 have s0:=Mg s hi
 have hnn:=hr.nn
 refine EC (ah ?_)
 apply aU s0 (i:=0) rfl rfl rfl
 by_cases h1:k<a
 ·grind
 ·rw[bD h1]
  apply ah
  apply aU s0 (i:=0) rfl rfl rfl
  rw[aJ]
  by_cases h2:k-a≥256
  ·grind
  ·rw[bD h2]
   have hkk:a<=k/\k<a+256:=by omega
   rw[Int.tmod_eq_emod_of_nonneg (by omega)]
   obtain⟨j,hj⟩:∃j:Nat,k%256=(j:Int):=⟨(k%256).toNat,by omega⟩
   have aac:j<256:=by omega
   obtain⟨b,hb⟩:∃b,bs[j]? =some b:=⟨_,List.getElem?_eq_getElem (by rw[hr.n];exact aac)⟩
   have hbk:=hr.bk j b hb
   rw[hj]
   refine⟨by decide,ah ⟨by omega,by omega,?_⟩⟩
   have ea:((aZ p).add 2).add (((j:Int)).toNat*2)=⟨p,j*2+2,none⟩:=by
    rw[bZ,bZ,show((j:Int)).toNat=j from rfl];grind
   rw[ea]
   refine Yu s0 (i:=0) (j:=j+1) rfl (Me hb) (by show(bs.map Aw)[j]? =_;exact Kw hb) (by omega) (by omega) λw1 a' c' s1=>?_
   have e1:aj a' (b.xs.length+1) c' 3 1 (ints (b.xs++[x]))=Aw ⟨a',c',b.xs++[x],b.gone⟩:=by unfold Aw;grind
   have e2:(sO a l.length bs).set (j*2+2) (.slice a' (b.xs.length+1) c')=sO a l.length (bs.set j ⟨a',c',b.xs++[x],b.gone⟩):=R0 hb (by unfold US;grind)
   rw[e1,e2]at s1
   have s1:Sep (AN p a l bs N).fp w w1 (av p 388 (sO a l.length (bs.set j ⟨a',c',b.xs++[x],b.gone⟩))::(bs.map Aw).set j (Aw ⟨a',c',b.xs++[x],b.gone⟩)):=s1
   rw[<-List.map_set]at s1
   apply ah
   refine aU s1 (i:=0) rfl rfl rfl (ah ?_)
   have hfl:=hr.nF
   rw[aJ]
   refine ax s1 (i:=0) rfl rfl rfl λw2 s2=>?_
   have hlen:((l.length:Int)+1)=((l++[(k,x)]).length:Int):=by simp
   rw[hlen]at s2
   refine hyes hkk w2 (bs.set j ⟨a',c',b.xs++[x],b.gone⟩) (P0 s hi s2 ?_)
   refine⟨by simp[hr.n],aoi hr.fit hkk.1 hkk.2,hr.nn,(by have:=hr.big;simp;omega),(by omega),m6,λj' b' hb'=>?_⟩
   rw[alS]
   by_cases hjj:j=j'
   ·grind
   ·rw[List.getElem?_set_ne hjj]at hb'
    have:=hr.bk j' b' hb'
    grind
end
end Go.Proofs.YtmegplnmiepfbaaGreatDoor.S.Rg
namespace Go.Proofs.YtmegplnmiepfbaaGreatDoor.S.Rg
open Go.Sx
attribute [local irreducible] af cw bq bg aC cf bX St Bx Al App cA cq cm bT aI bw aq bR av aj aV
section
variable {F:Nat->Prop}{W w:World}{L:List As}{i p:Nat}{a:Int}{l:List E}{bs:List Bk}{N:Nat}
def aad {k:Int}{Q:Bool->World->Prop}(s:Sep F W w L)(hi:L[i]? =some (AN p a l bs N))
  (hno:¬(l=[]/\a<=k/\k<=1099511627776)->Q false w)(hyes:l=[]/\a<=k/\k<=1099511627776->∀w' bs',Sep F W w' (L.set i (AN p k [] bs' N))->Q true w'):zB (sZ p) k w Q:=by
 apply QE
 have hr:=G1 s hi
 have s0:=Mg s hi
 have hnn:=hr.nn
 refine EC (ah ?_)
 apply aU s0 (i:=0) rfl rfl rfl
 by_cases h0:l=[]
 ·subst h0
  rw[bD (by simp)]
  apply ah
  apply aU s0 (i:=0) rfl rfl rfl
  by_cases h1:k<a
  ·grind
  ·rw[bD h1]
   by_cases h2:k>1099511627776
   ·grind
   ·rw[bD h2]
    apply ah
    refine ax s0 (i:=0) rfl rfl rfl λw1 s1=>?_
    have s1:=s1
    exact hyes ⟨rfl,by omega,by omega⟩ w1 bs (P0 s hi s1 ⟨hr.n,(λe he=>by cases he),by omega,(by simp;omega),hr.nF,hr.room,hr.bk⟩)
 simp_all
def aeQ {Q:Int->Int->Bool->World->Prop}(hr:Rel a l bs N){d:Nat}(hd:d<256)(Q1:∀e∈l,a+d<=e.1)(hex:∃e∈l,e.1=a+d){w0:World}{G:Nat->Prop}
  (h:∀w' l1 x l2 bs',l=l1++(a+d,x)::l2->(∀e∈l1,a+d<e.1)->(∀e∈l2,a+d<=e.1)->Rel (a+d) (l1++l2) bs' N->Sep G w0 w' (Q9 p (a+d) (l1++l2).length bs')->Q (a+d) x true w'):
  ∀(m e:Nat) (w:World),e+m=d->Sep G w0 w (Q9 p (a+e) l.length bs)->pF Q (m+1) (sZ p) w:=by
 have hnn:=hr.nn
 have afv:=hr.big
 have ayM:=hr.nF
 have axc:=hr.room
 intro m
 induction m with
 |zero=>
  intro e w he s
  obtain rfl:e=d:=by omega
  show CU Q (pF Q 0) _ _
  obtain⟨j,hj⟩:∃j:Nat,(a+e)%256=(j:Int):=⟨((a+e)%256).toNat,by omega⟩
  have aac:j<256:=by omega
  obtain⟨b,hb⟩:∃b,bs[j]? =some b:=⟨_,List.getElem?_eq_getElem (by rw[hr.n];exact aac)⟩
  have hbk:=hr.bk j b hb
  have hroom:=hr.room
  have hkk:a<=a+e/\a+e<a+256:=by omega
  have hpn:sV l j≠[]:=λh0=>by
   obtain⟨x,hx,hxe⟩:=hex
   exact(aab hr.fit hkk hj).1 h0 x hx hxe
  obtain⟨l1,x,l2,hl,g1,g2,g3,g4,g5⟩:=alT hr.fit hkk hj Q1 hpn
  have hlt:b.gone<b.xs.length:=by grind
  have ea:((aZ p).add 2).add (((j:Int)).toNat*2)=⟨p,j*2+2,none⟩:=by
   rw[bZ,bZ,show((j:Int)).toNat=j from rfl];grind
  have em:Int.tmod (a+e) 256=(j:Int):=by grind
  have s0:Sep G w0 w.drew _:=s
  apply ah
  apply aU s0 (i:=0) rfl rfl rfl
  rw[em]
  refine⟨by decide,ah ⟨by omega,by omega,?_⟩⟩
  rw[ea]
  apply BJ s0 (i:=0) rfl (Me hb) (Ns hb)
  rw[show(((b.gone:Int))==(b.xs.length:Int))=false by grind,cond_false]
  have s1:=s
  apply ah
  refine aU s1 (i:=0) rfl rfl rfl (ah ?_)
  refine ax s1 (i:=0) rfl rfl rfl λw3 s3=>?_
  have el:IntKind.wrap .i64 ((l.length:Int)-1)=((l1++l2).length:Int):=by
   rw[aJ]
   grind
  rw[el]at s3
  have s3:=s3
  have s4:Sep G w0 w3.drew (Q9 p (a+e) (l1++l2).length bs):=s3
  apply ah
  refine aU s4 (i:=0) rfl rfl rfl (ah ?_)
  apply aU s4 (i:=0) rfl rfl rfl
  rw[em]
  refine⟨by decide,ah ⟨by omega,by omega,?_⟩⟩
  rw[ea]
  have hx:b.xs[b.gone]? =some x:=by
   have:=congrArg (λq=>q[0]?) (hbk.1.trans g3)
   grind
  have aaf:b.xs.drop (b.gone+1)=sV (l1++l2) j:=by
   have:=congrArg (List.drop 1) (hbk.1.trans g3)
   simpa[List.drop_drop]using this
  have rel:∀b':Bk,b'.xs.drop b'.gone=sV (l1++l2) j->b'.gone<=b'.xs.length->b'.xs.length<=N->Rel (a+e) (l1++l2) (bs.set j b') N:=by
   intro b' q1 q2 q3
   refine⟨by simp[hr.n],g5,by omega,?_,?_,hroom,λj' b2 RO=>?_⟩
   ·grind
   ·grind
   ·by_cases hjj:j=j'
    ·grind
    ·rw[List.getElem?_set_ne hjj]at RO
     rw[g4 j' (Ne.symm hjj)]
     exact hr.bk j' b2 RO
  refine Yv s4 (i:=0) (j:=j+1) rfl (Me hb) (Ns hb) (by show(bs.map Aw)[j]? =_;exact Kw hb) (by omega) (by omega) hx (λhg w5 s5=>?_) λhg w5 s5=>?_
  ·have e2:(sO (a+e) (l1++l2).length bs).set (j*2+2+1) (ae ((b.gone+1:Nat):Int))=sO (a+e) (l1++l2).length (bs.set j {b with gone:=b.gone+1}):=Mf hb rfl
   rw[e2]at s5
   have e3:bs.map Aw=(bs.set j {b with gone:=b.gone+1}).map Aw:=by
    rw[List.map_set,show Aw {b with gone:=b.gone+1}=Aw b from rfl,qV (Kw hb)]
   have s5:Sep G w0 w5 (av p 388 (sO (a+e) (l1++l2).length (bs.set j {b with gone:=b.gone+1}))::bs.map Aw):=s5
   rw[e3]at s5
   refine⟨cg s5 (i:=0) rfl rfl rfl,?_⟩
   exact h w5 l1 x l2 _ hl g1 g2 (rel {b with gone:=b.gone+1} aaf (show b.gone+1<=b.xs.length by omega) hbk.2.2) s5
  ·have e2:((sO (a+e) (l1++l2).length bs).set (j*2+2) (.slice b.a 0 b.c)).set (j*2+2+1) (ae ((0:Nat):Int))=sO (a+e) (l1++l2).length (bs.set j ⟨b.a,b.c,[],0⟩):=by
    have TJ:j<bs.length:=by grind
    rw[R0 (b':=⟨b.a,b.c,[],b.gone⟩) (v:=.slice b.a 0 b.c) hb rfl,Mf (b:=⟨b.a,b.c,[],b.gone⟩) (b':=⟨b.a,b.c,[],0⟩) (List.getElem?_set_self TJ) rfl,gS]
   rw[e2]at s5
   have e3:aj b.a 0 b.c 3 1 []=Aw ⟨b.a,b.c,[],0⟩:=rfl
   have s5:Sep G w0 w5 (av p 388 (sO (a+e) (l1++l2).length (bs.set j ⟨b.a,b.c,[],0⟩))::(bs.map Aw).set j (Aw ⟨b.a,b.c,[],0⟩)):=s5
   rw[<-List.map_set]at s5
   refine⟨cg s5 (i:=0) rfl rfl rfl,?_⟩
   refine h w5 l1 x l2 _ hl g1 g2 (rel _ ?_ (by simp) (by simp)) s5
   grind
 |succ m ih=>
  intro e w he s
  show CU Q (pF Q (m+1)) _ _
  obtain⟨j,hj⟩:∃j:Nat,(a+e)%256=(j:Int):=⟨((a+e)%256).toNat,by omega⟩
  have aac:j<256:=by omega
  obtain⟨b,hb⟩:∃b,bs[j]? =some b:=⟨_,List.getElem?_eq_getElem (by rw[hr.n];exact aac)⟩
  have hbk:=hr.bk j b hb
  have hkk:a<=a+e/\a+e<a+256:=by omega
  have hpn:=(aab hr.fit hkk hj).2 λx hx hxe=>by
   grind
  have atQ:b.gone=b.xs.length:=by
   have:=congrArg List.length hbk.1
   grind
  have ea:((aZ p).add 2).add (((j:Int)).toNat*2)=⟨p,j*2+2,none⟩:=by
   rw[bZ,bZ,show((j:Int)).toNat=j from rfl];grind
  have em:Int.tmod (a+e) 256=(j:Int):=by grind
  have s0:Sep G w0 w.drew _:=s
  apply ah
  apply aU s0 (i:=0) rfl rfl rfl
  rw[em]
  refine⟨by decide,ah ⟨by omega,by omega,?_⟩⟩
  rw[ea]
  apply BJ s0 (i:=0) rfl (Me hb) (Ns hb)
  rw[atQ,beq_self_eq_true,cond_true]
  have s1:=s
  apply ah
  refine aU s1 (i:=0) (j:=0) rfl rfl rfl (ah ?_)
  refine ax s1 (i:=0) (j:=0) rfl rfl rfl λw3 s3=>?_
  rw[aJ,show a+(e:Int)+1=a+((e+1:Nat):Int) by omega]at s3
  exact ih (e+1) w3 (by omega) s3
def ab8 {Q:Int->Int->Bool->World->Prop}(s:Sep F W w L)(hi:L[i]? =some (AN p a l bs N))(h0:l=[]->Q 0 0 false w)
  (h1:∀w' k l1 x l2 bs',l=l1++(k,x)::l2->(∀e∈l1,k<e.1)->(∀e∈l2,k<=e.1)->Sep F W w' (L.set i (AN p k (l1++l2) bs' N))->Q k x true w'):An (sZ p) w Q:=by
 apply S6
 apply Cn s hi
 have hr:=G1 s hi
 by_cases hl:l=[]
 ·grind
 ·have hpos:=List.length_pos_iff.2 hl
  rw[show(((l.length:Int))==0)=false by grind,cond_false]
  obtain⟨d,hd,Q1,hex⟩:=ah4 hr.fit hl
  have s0:=Mg s hi
  refine⟨d+1,aeQ (G:=(AN p a l bs N).fp) (w0:=w) hr hd Q1 hex (λw' l1 x l2 bs' q1 q2 q3 q4 s'=>?_) d 0 w (by omega) (by grind)⟩
  exact h1 w' (a+d) l1 x l2 bs' q1 q2 q3 (P0 s hi s' q4)
def agv:Bk:=⟨none,0,[],0⟩
def Pg {f:Int}{Q:Option Addr->World->Prop}(s:Sep F W w L)(hno:f<0\/f>1099511627776->Q none w)(hyes:0<=f/\f<=1099511627776->∀p w' bs,Sep F W w' (AN p f [] bs 0::L)->Q (sZ p) w'):B5 f w Q:=by
 apply abO
 by_cases h1:f<0
 ·rw[bY h1]
  grind
 ·rw[bD h1]
  by_cases h2:f>1099511627776
  ·rw[bY h2]
   grind
  ·rw[bD h2]
   refine aT s λp w1 s=>?_
   have s2:=RR s 3 1 256
   have s3:=cz s2 List.perm_middle
   have rel:Rel f [] (List.replicate 256 agv) 0:=by
    refine⟨List.length_replicate,(λe he=>by cases he),by omega,(by simp[List.length_nil];omega),Nat.le_refl _,by decide,λj b hb=>?_⟩
    have:b=agv:=List.eq_of_mem_replicate (List.mem_of_getElem? hb)
    subst this
    exact⟨rfl,Nat.le_refl _,Nat.le_refl _⟩
   have e1:(List.replicate 256 agv).map Aw=List.replicate 256 (aj none 0 0 3 1 []):=by rw[List.map_replicate];rfl
   apply hyes (by omega) p w1 (List.replicate 256 agv)
   have s4:Sep F W w1 (Q9 p f ([]:List E).length (List.replicate 256 agv)++L):=by
    unfold Q9
    exact atD s3 (by kernel_rfl)
   exact dX s4 rel
end
end Go.Proofs.YtmegplnmiepfbaaGreatDoor.S.Rg
namespace Go.Proofs.YtmegplnmiepfbaaGreatDoor.S
open Go.Sx
def fD (ds:List Int)(l:Int):Int:=if 0<=l/\l<ds.length then gi ds l.toNat else bW
def FA (ds:List Int):Nat:=ds.countP λd=>d==bW
def kc (x:bh):Int×Int:=(x.k,x.c)
def UT {k:Int}(hk:k≠bW):∀{ds:List Int} {i:Nat},i<ds.length->gi ds i=bW->FA (ds.set i k)+1=FA ds
 |[],i,h,_=>by simp at h
 |d::ds,0,h,hd=>by
  have hd:d=bW:=hd
  unfold FA
  grind
 |d::ds,i+1,h,hd=>by
  have ih:=UT hk (i:=i) (by simpa using h) hd
  unfold FA at ih⊢
  grind
def avH (ds:List Int):FA ds<=ds.length:=List.countP_le_length
def asd {ds:List Int}{x k:Int}(hx:0<=x/\x<ds.length)(y:Int):fD (ds.set x.toNat k) y=if y=x then k else fD ds y:=by
 unfold fD
 rw[List.length_set]
 by_cases hy:0<=y/\y<ds.length
 ·rw[if_pos hy,if_pos hy,TL (by omega)]
  omega
 grind
def Q_ {tw th l s:Int}(ht:1<=tw)(hh:1<=th)(hl:0<=l/\l<tw*th)(h0:0<=bN tw th l s):bN tw th l s<tw*th/\∃s',(0<=s'/\s'<=3)/\bN tw th (bN tw th l s) s'=l:=by
 obtain⟨i0,i1⟩:0<=l%tw/\l%tw<tw:=⟨Int.emod_nonneg _ (by omega),Int.emod_lt_of_pos _ (by omega)⟩
 obtain⟨j0,j1⟩:0<=l/tw/\l/tw<th:=⟨Int.ediv_nonneg hl.1 (by omega),Int.ediv_lt_of_lt_mul (by omega) (by grind)⟩
 have hle:l=l/tw*tw+l%tw:=by
  have:=Int.mul_ediv_add_emod l tw
  grind
 have jR:∀i j,0<=i/\i<tw->0<=j/\j<th->j*tw+i<tw*th:=λi j hi hj=>by
  have:=Int.mul_le_mul_of_nonneg_right (show j+1<=th by omega) (show 0<=tw by omega)
  grind
 unfold bN at h0
 by_cases s0:s=0
 ·subst s0
  by_cases q:l/tw>0
  ·have e:bN tw th l 0=(l/tw-1)*tw+l%tw:=by unfold bN;grind
   rw[e]
   refine⟨jR _ _ ⟨i0,i1⟩ (by omega),2,by decide,?_⟩
   obtain⟨d1,d2⟩:=qW (y:=l/tw-1) ⟨i0,i1⟩
   unfold bN
   grind
  omega
 by_cases s1:s=1
 ·subst s1
  by_cases q:l%tw<tw-1
  ·have e:bN tw th l 1=l/tw*tw+(l%tw+1):=by unfold bN;omega
   rw[e]
   refine⟨jR _ _ (by omega) ⟨j0,j1⟩,3,by decide,?_⟩
   obtain⟨d1,d2⟩:=qW (x:=l%tw+1) (w:=tw) (y:=l/tw) (by omega)
   unfold bN
   omega
  omega
 by_cases s2:s=2
 ·subst s2
  by_cases q:l/tw<th-1
  ·have e:bN tw th l 2=(l/tw+1)*tw+l%tw:=by unfold bN;grind
   rw[e]
   refine⟨jR _ _ ⟨i0,i1⟩ (by omega),0,by decide,?_⟩
   obtain⟨d1,d2⟩:=qW (y:=l/tw+1) ⟨i0,i1⟩
   unfold bN
   grind
  omega
 by_cases s3:s=3
 ·subst s3
  by_cases q:l%tw>0
  ·have e:bN tw th l 3=l/tw*tw+(l%tw-1):=by unfold bN;omega
   rw[e]
   refine⟨jR _ _ (by omega) ⟨j0,j1⟩,1,by decide,?_⟩
   obtain⟨d1,d2⟩:=qW (x:=l%tw-1) (w:=tw) (y:=l/tw) (by omega)
   unfold bN
   omega
  omega
 omega
def kJ (tw th:Int)(cs ds:List Int)(key x:Int)(j:Nat):List (Int×Int):=(List.range j).filterMap λs:Nat=>
 if 0<=bN tw th x s/\gi cs (bN tw th x s).toNat≠255/\gi ds (bN tw th x s).toNat=bW then some (key,bN tw th x s)else none
def aag (tw th:Int)(cs ds:List Int)(key x s:Int):List (Int×Int):=if 0<=bN tw th x s/\gi cs (bN tw th x s).toNat≠255/\gi ds (bN tw th x s).toNat=bW then[(key,bN tw th x s)]else[]
def aah (tw th:Int)(cs ds:List Int)(key x:Int)(j:Nat):kJ tw th cs ds key x (j+1)=kJ tw th cs ds key x j++aag tw th cs ds key x j:=by
 unfold kJ aag
 rw[List.range_succ,List.filterMap_append]
 grind
def UU (tw th:Int)(cs ds:List Int)(key x:Int)(j:Nat):(kJ tw th cs ds key x j).length<=j:=by
 have:=List.length_filterMap_le (λs:Nat=>if 0<=bN tw th x s/\gi cs (bN tw th x s).toNat≠255/\gi ds (bN tw th x s).toNat=bW then some (key,bN tw th x s)else none) (List.range j)
 rw[List.length_range]at this
 exact this
def adz {tw th:Int}{cs ds:List Int}{key x:Int}{e:Int×Int}:e∈kJ tw th cs ds key x 4↔∃s:Int,(0<=s/\s<=3)/\(0<=bN tw th x s/\gi cs (bN tw th x s).toNat≠255/\gi ds (bN tw th x s).toNat=bW)/\e=(key,bN tw th x s):=by
 rw[kJ,List.mem_filterMap]
 constructor
 ·grind
 ·rintro ⟨s,h1,h2,rfl⟩
  refine⟨s.toNat,List.mem_range.2 (by omega),?_⟩
  grind
structure BK (tw th:Int) (cs:List Int) (xs:List bh) (a:Int) (l:List (Int×Int)) (N:Nat) (todo:List bh) (ds:List Int):Prop where
 len:ds.length=cs.length
 dj:NP (Ma xs) (Hl tw th cs) (fD ds) (l++todo.map kc)
 Dl:∀e∈l++todo.map kc,Hj cs e.2
 top:∀e∈l++todo.map kc,e.1+254*(FA ds:Int)<=1073741824+254*(cs.length:Int)
 Mh:todo.Pairwise λa b=>a.k<=b.k
 low:∀x∈todo,a<=x.k
 fA:N+todo.length+4*FA ds<=xs.length+4*cs.length
section
variable {tw th:Int}{cs ds:List Int}{xs todo:List bh}{a:Int}{l:List (Int×Int)}{N:Nat}
def agx (hcs:∀x∈cs,1<=x/\x<256):∀x n c,Hl tw th cs x n c->0<=c:=λx n c h=>by
 rw[h.2.2.2]
 have:=hcs _ (fE (i:=n.toNat) (by have:=h.2.1;unfold Hj at this;omega))
 omega
def BK.take {x:bh}(h:BK tw th cs xs a l N (x::todo) ds):BK tw th cs xs a (l++[kc x]) (N+1) todo ds:=by
 have e:l++(x::todo).map kc=(l++[kc x])++todo.map kc:=by simp
 have h1:=h.dj
 have h2:=h.Dl
 have h3:=h.top
 have h4:=h.fA
 rw[e]at h1 h2 h3
 simp[List.length_cons]at h4
 exact⟨h.len,h1,h2,h3,(List.pairwise_cons.1 h.Mh).2,λy hy=>h.low y (by simp[hy]),by omega⟩
def BK.jump {x:bh}(h:BK tw th cs xs a l N (x::todo) ds):BK tw th cs xs x.k l N (x::todo) ds:=
 ⟨h.len,h.dj,h.Dl,h.top,h.Mh,λy hy=>by
  rcases List.mem_cons.1 hy with rfl|hy
  ·grind
  ·exact(List.pairwise_cons.1 h.Mh).1 y hy,h.fA⟩
def BK.skip {k x:Int}{l1 l2:List (Int×Int)}(h:BK tw th cs xs a (l1++(k,x)::l2) N todo ds)(hx:fD ds x<bW)(hk:∀y∈todo,k<=y.k):BK tw th cs xs k (l1++l2) N todo ds:=by
 have hm:∀e∈(l1++l2)++todo.map kc,e∈(l1++(k,x)::l2)++todo.map kc:=λe he=>by
  grind
 exact⟨h.len,h.dj.skip (k:=k) hx hm λe he=>by
  grind,λe he=>h.Dl e (hm e he),λe he=>h.top e (hm e he),h.Mh,hk,h.fA⟩
def BK.step {k x:Int}{l1 l2:List (Int×Int)}{M:Nat}(hcs:∀x∈cs,1<=x/\x<256)(hw:1<=tw)(hh:1<=th)(hlen:(cs.length:Int)=tw*th)(vq:cs.length<=256)(h:BK tw th cs xs a (l1++(k,x)::l2) N todo ds)(hx:gi ds x.toNat=bW)
  (hmin:∀e∈l1++l2,k<=e.1)(hk:∀y∈todo,k<=y.k)(hM:M=N+(kJ tw th cs (ds.set x.toNat k) (k+gi cs x.toNat) x 4).length):
  BK tw th cs xs k ((l1++l2)++kJ tw th cs (ds.set x.toNat k) (k+gi cs x.toNat) x 4) M todo (ds.set x.toNat k):=by
 have hin:(k,x)∈(l1++(k,x)::l2)++todo.map kc:=by simp
 have Gj:=h.Dl _ hin
 have hxr:0<=x/\x<ds.length:=by rw[h.len];exact⟨Gj.1,Gj.2.1⟩
 have UW:=h.top _ hin
 have hkI:k<bW:=by unfold bW;omega
 have Kx:∀y,fD (ds.set x.toNat k) y=if y=x then k else fD ds y:=asd hxr
 have Gk:=UT (k:=k) (by omega) (by omega) hx
 have hbound:∀e∈(l1++(k,x)::l2)++todo.map kc,k<=e.1:=λe he=>by
  simp only[List.mem_append,List.mem_cons,List.mem_map]at he
  rcases he with(he|rfl|he)|⟨y,hy,rfl⟩
  ·grind
  ·grind
  ·grind
  ·exact hk y hy
 have hcx:=hcs _ (fE (i:=x.toNat) (by rw[<-h.len];omega))
 have hfx:¬fD ds x<bW:=by
  unfold fD
  grind
 have asf:∀e∈((l1++l2)++kJ tw th cs (ds.set x.toNat k) (k+gi cs x.toNat) x 4)++todo.map kc,e∈(l1++(k,x)::l2)++todo.map kc\/e∈kJ tw th cs (ds.set x.toNat k) (k+gi cs x.toNat) x 4:=λe he=>by
  grind
 have avI:∀e∈kJ tw th cs (ds.set x.toNat k) (k+gi cs x.toNat) x 4,Hj cs e.2/\e.1=k+gi cs x.toNat/\Hl tw th cs e.2 x (gi cs x.toNat):=λe he=>by
  obtain⟨s,hs,⟨h1,h2,h3⟩,rfl⟩:=adz.1 he
  have hr:=Q_ hw hh (by rw[<-hlen,<-h.len];exact hxr) h1
  have ho:Hj cs (bN tw th x s):=⟨h1,by grind,h2⟩
  exact⟨ho,rfl,ho,Gj,hr.2,rfl⟩
 refine⟨by rw[List.length_set];exact h.len,?_,?_,?_,h.Mh,hk,?_⟩
 ·refine h.dj.step (agx hcs) hfx hkI hin hbound (by grind) (λy hy=>by grind) ?_ ?_ ?_
  ·grind
  ·grind
  ·rintro y c ⟨h1,h2,⟨s,hs,h3⟩,rfl⟩
   by_cases hy:fD (ds.set x.toNat k) y<bW
   ·exact .inl hy
   ·refine .inr ⟨k+gi cs x.toNat,Int.le_refl _,?_⟩
    have hr:=Q_ (s:=s) hw hh (by rw[<-hlen];exact⟨h1.1,h1.2.1⟩) (by grind)
    rw[h3]at hr
    obtain⟨s',hs',h4⟩:=hr.2
    rw[List.mem_append,List.mem_append]
    refine .inl (.inr (adz.2 ⟨s',hs',?_,by rw[h4]⟩))
    rw[h4]
    refine⟨h1.1,h1.2.2,?_⟩
    have R_:0<=y/\y<(ds.set x.toNat k).length:=by rw[List.length_set,h.len];exact⟨h1.1,h1.2.1⟩
    have hz:fD (ds.set x.toNat k) y=bW:=by
     rw[Kx]at hy⊢
     by_cases e:y=x
     ·omega
     ·rw[if_neg e]at hy⊢
      exact h.dj.none y hy
    unfold fD at hz
    grind
 ·intro e he
  rcases asf e he with h1|h1
  ·exact h.Dl e h1
  grind
 ·intro e he
  rcases asf e he with h1|h1
  ·have:=h.top e h1
   omega
  ·have:=(avI e h1).2.1
   have:gi cs x.toNat≠255:=Gj.2.2
   omega
 ·have h1:=UU tw th cs (ds.set x.toNat k) (k+gi cs x.toNat) x 4
  have h2:=h.fA
  omega
def alU (hok:ry tw th cs xs=true){zs:List bh}(hz:∀x,x∈zs↔x∈xs)(hzl:zs.length=xs.length)(hzs:zs.Pairwise λa b=>a.k<=b.k):BK tw th cs xs 0 [] 0 zs (List.replicate cs.length bW):=by
 have hf:∀x,fD (List.replicate cs.length bW) x=bW:=λx=>by
  unfold fD
  split
  ·rename_i h
   unfold gi
   grind
  ·rfl
 have hu:FA (List.replicate cs.length bW)=cs.length:=by
  rw[FA,List.countP_replicate,if_pos (by decide)]
 unfold ry at hok
 rw[Bool.and_eq_true,List.all_eq_true]at hok
 have ajQ:∀x∈zs,Hj cs x.c/\0<=x.k/\x.k<=1073741824:=λx hx=>by
  have:=hok.2 x ((hz x).1 hx)
  unfold zI at this
  simp[Bool.and_eq_true,decide_eq_true_iff,bne_iff_ne]at this
  exact⟨⟨this.1.1,this.1.2,this.2.1⟩,this.2.2.1⟩
 refine⟨by simp,⟨?_,?_,?_,?_,?_,?_⟩,?_,?_,hzs,λx hx=>(ajQ x hx).2.1,by omega⟩
 ·intro e he
  obtain⟨y,hy,rfl⟩:=List.mem_map.1 he
  exact .src ⟨y,(hz y).1 hy,rfl,rfl⟩
 ·grind
 ·grind
 ·rintro x k ⟨y,hy,rfl,rfl⟩
  exact .inr ⟨y.k,Int.le_refl _,by rw[List.nil_append];exact List.mem_map.2 ⟨y,(hz y).2 hy,rfl⟩⟩
 ·grind
 ·grind
 ·intro e he
  obtain⟨y,hy,rfl⟩:=List.mem_map.1 he
  exact(ajQ y hy).1
 ·intro e he
  obtain⟨y,hy,rfl⟩:=List.mem_map.1 he
  have:=(ajQ y hy).2
  show y.k+_<=_
  omega
noncomputable def jg (tw th:Int)(cs:List Int)(xs:List bh):List Int:=(List.range cs.length).map λl:Nat=>Ku tw th cs xs l
def BK.done (h:BK tw th cs xs a [] N [] ds):ds=jg tw th cs xs:=by
 have h1:=h.dj
 have h2:∀x,fZ (Ma xs) (Hl tw th cs) x=fD ds x:=λx=>NP.done (by grind) x
 refine TK (by unfold jg;rw[List.length_map,List.length_range,h.len]) λi hi=>?_
 rw[jg,show gi ((List.range cs.length).map λl:Nat=>Ku tw th cs xs l) i=Ku tw th cs xs i from ?_]
 ·rw[Ku,h2]
  unfold fD
  grind
 ·rw[gi,List.getD_eq_getElem?_getD,List.getElem?_map,List.getElem?_range (by rw[<-h.len];exact hi)]
  rfl
end
end Go.Proofs.YtmegplnmiepfbaaGreatDoor.S
namespace Go.Proofs.YtmegplnmiepfbaaGreatDoor.S
open Go.Sx
open Go.Sort (swp)
attribute [local irreducible] af cw bq bg aC cf bX St Bx Al App cA cq cm bT aI bw aq bR av aj aV mapA
noncomputable abbrev iz:Value:=.func (.func 197) #[] #[]
abbrev cV (a:Option Addr)(n c:Nat)(d:Array bh):As:=aj a n c 294 3 (flat fL d.toList)
section
variable {F:Nat->Prop}{W w w0:World}{L:List As}{a:Option Addr}{n c:Nat}{d:Array bh}
def fX (s:Sep F W w (cV a n c d::L)):d.size=n:=by
 have:=(aK s (i:=0) rfl m9 (by decide)).len
 grind
def VT {k:Nat}(h:k<d.size):d.toList[k]? =some d[k]!:=by grind
def RdS {idx:Int}{k:Nat}{K:Int->Int->Int->Prop}(s:Sep F W w (cV a n c d::L))(hk:idx=k)(hn:k<d.size)(h:K d[k]!.c d[k]!.s d[k]!.k):
  aH idx n (wA a λp=>af .i64 ((p.add (idx.toNat*3)).add 0) w λx=>af .i64 ((p.add (idx.toNat*3)).add 1) w λy=>af .i64 ((p.add (idx.toNat*3)).add 2) w λz=>K x y z):=
 (aK s (i:=0) rfl m9 (by decide)).El hk (by rw[<-fX s];exact hn) λp x hx hc=>by
  rw[VT hn]at hx
  cases hx
  exact aP (hc 0 _ rfl) (aP (hc 1 _ rfl) (aP (hc 2 _ rfl) h))
def WrS {idx:Int}{k:Nat}{x:bh}{K:World->Prop}(s:Sep F W w (cV a n c d::L))(hk:idx=k)(hn:k<d.size)(h:∀w',Sep F W w' (cV a n c (d.setIfInBounds k x)::L)->K w'):
  aH idx n (wA a λp=>St ((p.add (idx.toNat*3)).add 0) (ae x.c) w λw=>St ((p.add (idx.toNat*3)).add 1) (ae x.s) w λw=>St ((p.add (idx.toNat*3)).add 2) (ae x.k) w λw=>K w):=by
 have hsz:=fX s
 subst hk
 have hg:=VT hn
 refine BW s (i:=0) rfl rfl (by omega) λg o ha=>?_
 subst ha
 have ad:∀j,(((⟨g,o,none⟩:Addr).add ((k:Int).toNat*3)).add j)=⟨g,o+(k*3+j),none⟩:=λj=>by rw[add_add,bZ,Int.toNat_natCast]
 refine dD (x':=⟨x.c,d[k]!.s,d[k]!.k⟩) m9 s (i:=0) rfl hg (ad 0) (by decide) rfl rfl λw s=>?_
 refine dD (x:=⟨x.c,d[k]!.s,d[k]!.k⟩) (x':=⟨x.c,x.s,d[k]!.k⟩) m9 s (i:=0) rfl (by grind) (ad 1) (by decide) rfl rfl λw s=>?_
 refine dD (x:=⟨x.c,x.s,d[k]!.k⟩) (x':=x) m9 s (i:=0) rfl (by grind) (ad 2) (by decide) rfl rfl λw s=>?_
 simp[List.set_cons_zero,List.set_set]at s
 grind
def FB {m:Nat}{i j:Int}{p q:Nat}{K:Int->World->Prop}(s:Sep F W w (cV a n c d::L))(hi:i=p)(hp:p<d.size)(hj:j=q)(hq:q<d.size)(h:∀w',Sep F W w' (cV a n c d::L)->K (agn d[p]! d[q]!) w'):
  aH i n (wA a λp=>af .i64 ((p.add (i.toNat*3)).add 0) w λx=>af .i64 ((p.add (i.toNat*3)).add 1) w λy=>af .i64 ((p.add (i.toNat*3)).add 2) w λz=>
  aH j n (wA a λp=>af .i64 ((p.add (j.toNat*3)).add 0) w λx'=>af .i64 ((p.add (j.toNat*3)).add 1) w λy'=>af .i64 ((p.add (j.toNat*3)).add 2) w λz'=>
  gX (cx m) iz [.agg #[ae x,ae y,ae z],.agg #[ae x',ae y',ae z']] w λv w'=>dI .i64 v λr=>K r w')):=
 RdS (K:=λx y z=>aH j n (wA a λp=>af .i64 ((p.add (j.toNat*3)).add 0) w λx'=>af .i64 ((p.add (j.toNat*3)).add 1) w λy'=>af .i64 ((p.add (j.toNat*3)).add 2) w λz'=>
  gX (cx m) iz [.agg #[ae x,ae y,ae z],.agg #[ae x',ae y',ae z']] w λv w'=>dI .i64 v λr=>K r w')) s hi hp
  (RdS s hj hq
   (ah1 (WJ s λw' s' _=>h w' s')))
def C0 {i j:Int}{p q:Nat}{K:World->Prop}(s:Sep F W w (cV a n c d::L))(hi:i=p)(hp:p<d.size)(hj:j=q)(hq:q<d.size)(h:∀w',Sep F W w' (cV a n c (swp d p q)::L)->K w'):
  aH j n (wA a λp=>af .i64 ((p.add (j.toNat*3)).add 0) w λx=>af .i64 ((p.add (j.toNat*3)).add 1) w λy=>af .i64 ((p.add (j.toNat*3)).add 2) w λz=>
  aH i n (wA a λp=>af .i64 ((p.add (i.toNat*3)).add 0) w λx'=>af .i64 ((p.add (i.toNat*3)).add 1) w λy'=>af .i64 ((p.add (i.toNat*3)).add 2) w λz'=>
  aH i n (wA a λp=>St ((p.add (i.toNat*3)).add 0) (ae x) w λw=>St ((p.add (i.toNat*3)).add 1) (ae y) w λw=>St ((p.add (i.toNat*3)).add 2) (ae z) w λw=>
  aH j n (wA a λp=>St ((p.add (j.toNat*3)).add 0) (ae x') w λw=>St ((p.add (j.toNat*3)).add 1) (ae y') w λw=>St ((p.add (j.toNat*3)).add 2) (ae z') w λw=>K w)))):=by
 refine RdS (K:=λx y z=>aH i n (wA a λp=>af .i64 ((p.add (i.toNat*3)).add 0) w λx'=>af .i64 ((p.add (i.toNat*3)).add 1) w λy'=>af .i64 ((p.add (i.toNat*3)).add 2) w λz'=>
  aH i n (wA a λp=>St ((p.add (i.toNat*3)).add 0) (ae x) w λw=>St ((p.add (i.toNat*3)).add 1) (ae y) w λw=>St ((p.add (i.toNat*3)).add 2) (ae z) w λw=>
  aH j n (wA a λp=>St ((p.add (j.toNat*3)).add 0) (ae x') w λw=>St ((p.add (j.toNat*3)).add 1) (ae y') w λw=>St ((p.add (j.toNat*3)).add 2) (ae z') w λw=>K w)))) s hj hq ?_
 refine RdS (K:=λx' y' z'=>aH i n (wA a λp=>St ((p.add (i.toNat*3)).add 0) (ae d[q]!.c) w λw=>St ((p.add (i.toNat*3)).add 1) (ae d[q]!.s) w λw=>St ((p.add (i.toNat*3)).add 2) (ae d[q]!.k) w λw=>
  aH j n (wA a λp=>St ((p.add (j.toNat*3)).add 0) (ae x') w λw=>St ((p.add (j.toNat*3)).add 1) (ae y') w λw=>St ((p.add (j.toNat*3)).add 2) (ae z') w λw=>K w))) s hi hp ?_
 refine WrS (K:=λw=>aH j n (wA a λp_1=>St ((p_1.add (j.toNat*3)).add 0) (ae d[p]!.c) w λw=>St ((p_1.add (j.toNat*3)).add 1) (ae d[p]!.s) w λw=>St ((p_1.add (j.toNat*3)).add 2) (ae d[p]!.k) w λw=>K w)) s hi hp λw s=>?_
 exact WrS s hj (by grind) h
end
end Go.Proofs.YtmegplnmiepfbaaGreatDoor.S
namespace Go.Proofs.YtmegplnmiepfbaaGreatDoor.S
open Go.Sx
open Go.Sort (swp insInner insOuter insertionSort siftDown heapBuild heapPop heapSort)
attribute [local irreducible] af cw bq bg aC cf bX St Bx Al App cA cq cm bT aI bw aq bR av aj aV mapA
section
variable {F:Nat->Prop}{W w w0:World}{L:List As}{a:Option Addr}{n c:Nat}{d:Array bh}
def alV {P1:Option Addr->Nat->Nat->Int->Int->Value->Int->World->Prop}{Q:World->Prop}{lo:Nat}{b:Int}{i:Nat}(hn:n<1000000)(hi:i<1000000)
  (h:∀d' w',d'.size=n->Sep F W w' (cV a n c d'::L)->(d'=insInner cJ lo i d)->P1 a n c lo b iz ((i+1:Nat):Int) w'):
  ∀(j:Nat) (d1:Array bh) (w:World),j<n->insInner cJ lo j d1=insInner cJ lo i d->Sep F W w (cV a n c d1::L)->eI P1 Q (j+1) a n c lo b iz i j w:=by
 intro j
 induction j with
 |zero=>
  intro d1 w hj he s
  show fG P1 Q (eI P1 Q 0) _ _ _ _ _ _ _ _ _
  rw[fG,bD,aJ]
  exact h d1 _ (fX s) (ay s) he
 |succ j ih=>
  intro d1 w hj he s
  have hsz:=fX s
  show fG P1 Q (eI P1 Q (j+1)) _ _ _ _ _ _ _ _ _
  unfold fG
  rw[insInner]at he
  by_cases hl:j+1>lo
  ·rw[bY (show((j+1:Nat):Int)>lo by omega),aJ]
   rw[decide_eq_true hl,Bool.true_and]at he
   refine FB (q:=j) (ay s) rfl (by omega) (by omega) (by omega) λw s=>?_
   show cond (cJ d1[j+1]! d1[j]!) _ _
   by_cases hc:cJ d1[j+1]! d1[j]! =true
   ·rw[hc,cond_true]
    refine C0 (q:=j) (ay s) rfl (by omega) (by omega) (by omega) λw s=>?_
    grind
   ·rw[Bool.not_eq_true]at hc
    rw[hc,cond_false,aJ]
    grind
  ·rw[bD (show¬((j+1:Nat):Int)>lo by omega),aJ]
   rw[decide_eq_false hl,Bool.false_and,if_neg (by decide)]at he
   exact h d1 _ hsz (ay s) he
def alW {Q:World->Prop}{lo b:Nat}(hn:n<1000000)(hb:b<=n)(h:∀w',Sep F W w' (cV a n c (insertionSort cJ d lo b)::L)->Q w'):
  ∀(j i:Nat) (d1:Array bh) (w:World),i+j=b+1\/b<i/\j=0->insOuter cJ lo b i d1=insertionSort cJ d lo b->Sep F W w (cV a n c d1::L)->eJ Q (j+1) a n c lo b iz i w:=by
 intro j
 induction j with
 |zero=>
  intro i d1 w hi he s
  show fH Q (eJ Q 0) _ _ _ _ _ _ _ _
  unfold fH
  rw[insOuter,vm]at he
  grind
 |succ j ih=>
  intro i d1 w hi he s
  show fH Q (eJ Q (j+1)) _ _ _ _ _ _ _ _
  unfold fH
  rw[insOuter]at he
  by_cases hib:i<b
  ·rw[bY]
   rw[if_pos hib]at he
   refine⟨i+1,alV hn (by omega) (λd' w' hs' s' e=>?_) i d1 w (by omega) rfl s⟩
   subst e
   exact ih (i+1) _ w' (by omega) he s'
  grind
def Gl {Q:World->Prop}{lo b:Nat}(s:Sep F W w (cV a n c d::L))(hn:n<1000000)(hlo:lo<=b)(hb:b<=n)(h:∀w',Sep F W w' (cV a n c (insertionSort cJ d lo b)::L)->Q w'):
  jv a n c lo b iz w Q:=by
 apply yy
 rw[aJ]
 exact⟨b-lo+1,alW hn hb h (b-lo) (lo+1) d w (by omega) rfl s⟩
def alX {Q:World->Prop}{hi first:Nat}(hn:n<1000000)(hh:first+hi<=n){d0:Array bh}(h:∀w',Sep F W w' (cV a n c d0::L)->Q w'):
  ∀(j root:Nat) (d1:Array bh) (w:World),hi<=root+j->root<n->siftDown cJ hi first root d1=d0->Sep F W w (cV a n c d1::L)->eK Q (j+1) a n c hi first iz root w:=by
 intro j
 induction j with
 |zero=>
  intro root d1 w hj hr he s
  show gF Q (eK Q 0) _ _ _ _ _ _ _ _
  rw[gF,aJ (n:=2*(root:Int)),aJ,bY]
  rw[siftDown,dif_pos (by omega)]at he
  grind
 |succ j ih=>
  intro root d1 w hj hr he s
  have hsz:=fX s
  show gF Q (eK Q (j+1)) _ _ _ _ _ _ _ _
  rw[gF,aJ (n:=2*(root:Int)),aJ]
  rw[siftDown]at he
  by_cases h1:2*root+1≥hi
  ·grind
  rw[bD,aJ,aJ,aJ]
  rw[dif_neg h1]at he
  have b5:∀(ch:Nat) (w:World),root<ch->ch<hi->Sep F W w (cV a n c d1::L)->(if(!cJ d1[first+root]! d1[first+ch]!)=true then d1 else siftDown cJ hi first ch (swp d1 (first+root) (first+ch)))=d0->
    fm (eK Q (j+1)) Q a n c hi first iz root ch w:=λch w azf hch s he=>by
   rw[fm,aJ,aJ]
   refine FB (p:=first+root) (q:=first+ch) (ay s) (by omega) (by omega) (by omega) (by omega) λw s=>?_
   show cond (!cJ d1[first+root]! d1[first+ch]!) _ _
   by_cases hc:cJ d1[first+root]! d1[first+ch]! =true
   ·rw[hc,Bool.not_true,cond_false]
    refine C0 (p:=first+root) (q:=first+ch) (ay s) (by omega) (by omega) (by omega) (by omega) λw s=>?_
    grind
   grind
  have e1:(2*(root:Int)+1)=((2*root+1:Nat):Int):=by omega
  have e2:(2*(root:Int)+1+1)=((2*root+2:Nat):Int):=by omega
  rw[e2]
  by_cases h2:2*root+2<hi
  ·rw[bY (show((2*root+2:Nat):Int)<hi by omega)]
   refine FB (p:=first+(2*root+1)) (q:=first+(2*root+1)+1) (ay s) (by omega) (by omega) (by omega) (by omega) λw s=>?_
   show cond (cJ d1[first+(2*root+1)]! d1[first+(2*root+1)+1]!) _ _
   by_cases hc:cJ d1[first+(2*root+1)]! d1[first+(2*root+1)+1]! =true
   ·rw[hc,cond_true]
    apply b5 (2*root+2) w (by omega) h2 s
    grind
   ·rw[Bool.not_eq_true]at hc
    rw[hc,cond_false,e1]
    rw[if_neg (by grind)]at he
    exact b5 (2*root+1) w (by omega) (by omega) s he
  ·rw[bD (show¬((2*root+2:Nat):Int)<hi by omega),e1]
   rw[if_neg (by grind)]at he
   exact b5 (2*root+1) _ (by omega) (by omega) (ay s) he
def Ph {Q:World->Prop}{lo hi first:Nat}(s:Sep F W w (cV a n c d::L))(hn:n<1000000)(hh:first+hi<=n)(hlo:lo<n)(h:∀w',Sep F W w' (cV a n c (siftDown cJ hi first lo d)::L)->Q w'):
  iJ a n c lo hi first iz w Q:=by
 apply AW
 exact⟨hi+1,alX hn hh h hi lo d w (by omega) hlo rfl s⟩
def aok {Q:World->Prop}{first:Nat}(hn:n<1000000){d0:Array bh}(h:∀w',Sep F W w' (cV a n c d0::L)->Q w'):
  ∀(k:Nat) (d1:Array bh) (w:World),first+k<=n->heapPop cJ first k d1=d0->Sep F W w (cV a n c d1::L)->fo Q (k+1) a n c iz first 0 ((k:Int)-1) w:=by
 intro k
 induction k with
 |zero=>
  intro d1 w hk he s
  show gG Q (fo Q 0) _ _ _ _ _ _ _ _
  unfold gG
  rw[heapPop]at he
  grind
 |succ k ih=>
  intro d1 w hk he s
  have hsz:=fX s
  show gG Q (fo Q (k+1)) _ _ _ _ _ _ _ _
  rw[gG,show((k+1:Nat):Int)-1=(k:Int) by omega,bY,aJ,aJ]
  rw[heapPop]at he
  refine C0 (p:=first) (q:=first+k) (ay s) (by omega) (by omega) (by omega) (by omega) λw s=>?_
  refine Ph (lo:=0) s hn (by omega) (by omega) λw s=>?_
  grind
def ajR {Q:World->Prop}{first hi:Nat}(hn:n<1000000)(hh:first+hi<=n){d0:Array bh}(h:∀w',Sep F W w' (cV a n c d0::L)->Q w'):
  ∀(k:Nat) (d1:Array bh) (w:World),k<=hi->heapPop cJ first hi (heapBuild cJ hi first k d1)=d0->Sep F W w (cV a n c d1::L)->fq Q (k+1) a n c iz first 0 hi ((k:Int)-1) w:=by
 intro k
 induction k with
 |zero=>
  intro d1 w hk he s
  show gH Q (fq Q 0) _ _ _ _ _ _ _ _ _
  rw[gH,bD,aJ]
  exact⟨hi+1,aok hn h hi d1 w hh he s⟩
 |succ k ih=>
  intro d1 w hk he s
  show gH Q (fq Q (k+1)) _ _ _ _ _ _ _ _ _
  rw[gH,show((k+1:Nat):Int)-1=(k:Int) by omega,bY,aJ]
  rw[heapBuild]at he
  refine Ph s hn hh (by omega) λw s=>?_
  grind
def ab9 {Q:World->Prop}{lo b:Nat}(s:Sep F W w (cV a n c d::L))(hn:n<1000000)(hlo:lo<b)(hb:b<=n)(h:∀w',Sep F W w' (cV a n c (heapSort cJ d lo b)::L)->Q w'):
  lj a n c lo b iz w Q:=by
 apply AX
 refine⟨by decide,?_⟩
 rw[aJ,aJ (n:=(b:Int)-lo-1),Int.tdiv_eq_ediv_of_nonneg (by omega),aJ,
  show(b:Int)-lo=((b-lo:Nat):Int) by omega]
 have:=ajR hn (by omega) h ((b-lo-1)/2+1) d w (by omega) rfl s
 grind
end
end Go.Proofs.YtmegplnmiepfbaaGreatDoor.S
namespace Go.Proofs.YtmegplnmiepfbaaGreatDoor.S
open Go.Sx
open Go.Sort (swp scanUp scanDown partLoop partition partEqLoop partitionEqual)
attribute [local irreducible] af cw bq bg aC cf bX St Bx Al App cA cq cm bT aI bw aq bR av aj aV mapA
section
variable {F:Nat->Prop}{W w w0:World}{L:List As}{a:Option Addr}{n c:Nat}{d:Array bh}
def oD {α:Type}(A B:α):(if false=true then A else B)=B:=rfl
def UX {α:Type}(A B:α):(if true=true then A else B)=A:=rfl
def up_eq (p:bh->Bool)(d:Array bh)(j i:Nat):scanUp p d j i=if(decide (i<=j)&&p d[i]!)=true then scanUp p d j (i+1)else i:=by rw[scanUp]
def down_eq (p:bh->Bool)(d:Array bh)(i j:Nat)(hi:1<=i):scanDown p d i j=if(decide (i<=j)&&p d[j]!)=true then scanDown p d i (j-1)else j:=by
 cases j with
 |zero=>rw[scanDown,decide_eq_false (by omega),Bool.false_and,oD]
 |succ j=>rw[scanDown];rfl
def alY {Q:Int->Bool->World->Prop}{lo:Nat}(hn:n<1000000){R:Nat×Array bh}(h:∀w',R.1<n->Sep F W w' (cV a n c (swp R.2 R.1 lo)::L)->Q R.1 false w'):
  ∀(f i j:Nat) (d:Array bh) (w:World),j+1<=i+f->lo<i->lo<=j->j<n->i<=n->partLoop cJ lo i j d=R->Sep F W w (cV a n c d::L)->cY Q (f+1) a n c lo iz i j w:=by
 intro f
 induction f with
 |zero=>
  intro i j d w hf hlo hj0 hj hi hR s
  have hsz:=fX s
  rw[Go.Sort.partLoop_eq]at hR
  rw[up_eq,decide_eq_false (by omega),Bool.false_and,oD,down_eq _ _ _ _ (by omega),decide_eq_false (by omega),Bool.false_and,oD,HE]at hR
  subst hR
  show f_ Q (cY Q 0) _ _ _ _ _ _ _ _
  rw[f_,bD]
  refine⟨1,?_⟩
  show dQ _ Q (cW _ Q 0) _ _ _ _ _ _ _ _
  rw[dQ,bD]
  rw[eY,bY]
  exact C0 (ay (ay (ay s))) rfl (by omega) rfl (by omega) λw s=>h w hj s
 |succ f ih=>
  intro i j d w hf hlo hj0 hj hi hR s
  have hsz:=fX s
  show f_ Q (cY Q (f+1)) _ _ _ _ _ _ _ _
  unfold f_
  rw[Go.Sort.partLoop_eq]at hR
  have down:∀(k j':Nat) (w:World),j'=lo+k->j'<=j->Sep F W w (cV a n c d::L)->
    (if i>scanDown (λx=>!cJ x d[lo]!) d i j' then(scanDown (λx=>!cJ x d[lo]!) d i j',d)else partLoop cJ lo (i+1) (scanDown (λx=>!cJ x d[lo]!) d i j'-1) (swp d i (scanDown (λx=>!cJ x d[lo]!) d i j')))=R->
    cW (cY Q (f+1)) Q (k+1) a n c lo iz i j' w:=by
   have Xc:∀(j':Nat) (w:World),lo<=j'->j'<=j->Sep F W w (cV a n c d::L)->(if i>j' then(j',d)else partLoop cJ lo (i+1) (j'-1) (swp d i j'))=R->
     eY (cY Q (f+1)) Q a n c lo iz i j' w:=λj' w h1 h2 s hR=>by
    unfold eY
    by_cases hij:i>j'
    ·rw[if_pos hij]at hR
     subst hR
     rw[bY]
     exact C0 (ay s) rfl (by omega) rfl (by omega) λw s=>h w (show j'<n by omega) s
    ·rw[if_neg hij]at hR
     rw[bD,aJ,aJ]
     refine C0 (ay s) rfl (by omega) rfl (by omega) λw s=>?_
     rw[show(i:Int)+1=((i+1:Nat):Int) by omega,show(j':Int)-1=((j'-1:Nat):Int) by omega]
     exact ih (i+1) (j'-1) _ w (by omega) (by omega) (by omega) (by omega) (by omega) hR s
   intro k
   induction k with
   |zero=>
    intro j' w hk hj' s hR
    rw[down_eq _ _ _ _ (by omega),decide_eq_false (by omega),Bool.false_and,oD]at hR
    show dQ _ Q (cW _ Q 0) _ _ _ _ _ _ _ _
    rw[dQ,bD]
    exact Xc j' _ (by omega) hj' (ay s) hR
   |succ k ih2=>
    intro j' w hk hj' s hR
    rw[down_eq _ _ _ _ (by omega)]at hR
    show dQ _ Q (cW _ Q (k+1)) _ _ _ _ _ _ _ _
    unfold dQ
    by_cases hij:i<=j'
    ·rw[bY]
     refine FB (ay s) rfl (by omega) rfl (by omega) λw s=>?_
     show cond (!cJ d[j']! d[lo]!) _ _
     rw[decide_eq_true hij,Bool.true_and]at hR
     cases hc:cJ d[j']! d[lo]! with
     |false=>
      rw[Bool.not_false,cond_true,aJ,show(j':Int)-1=((j'-1:Nat):Int) by omega]
      grind
     |true=>
      grind
    ·rw[bD]
     rw[decide_eq_false hij,Bool.false_and,oD]at hR
     exact Xc j' _ (by omega) hj' (ay s) hR
  by_cases hij:i<=j
  ·rw[bY]
   refine FB (ay s) rfl (by omega) rfl (by omega) λw s=>?_
   show cond (cJ d[i]! d[lo]!) _ _
   cases hc:cJ d[i]! d[lo]! with
   |true=>
    rw[cond_true,aJ]
    rw[up_eq,hc,decide_eq_true hij,Bool.true_and,UX,<-Go.Sort.partLoop_eq]at hR
    exact ih (i+1) j d w (by omega) (by omega) hj0 hj (by omega) hR s
   |false=>
    rw[up_eq,hc,Bool.and_false,oD]at hR
    exact⟨j-lo+1,down (j-lo) j w (by omega) (Nat.le_refl _) s hR⟩
  ·rw[bD]
   rw[up_eq,decide_eq_false hij,Bool.false_and,oD]at hR
   exact⟨j-lo+1,down (j-lo) j _ (by omega) (Nat.le_refl _) (ay s) hR⟩
def aai {Q:Int->Bool->World->Prop}{lo b pv:Nat}(s:Sep F W w (cV a n c d::L))(hn:n<1000000)(hlo:lo<=pv/\pv<b)(hb:b<=n)
  (h:∀w',Sep F W w' (cV a n c (partition cJ d lo b pv).2.2::L)->Q (partition cJ d lo b pv).1 (partition cJ d lo b pv).2.1 w'):
  kS a n c lo b pv iz w Q:=by
 apply Ao
 have hsz:=fX s
 refine C0 (ay s) rfl (by omega) rfl (by omega) λw s=>?_
 rw[aJ,aJ]
 unfold partition at h
 simp only at h
 generalize swp d lo pv=d1 at h s
 have hsz:=fX s
 have b7:∀(i j':Nat) (w:World),lo<i->i<=b->lo<=j'->j'<b->scanUp (λx=>cJ x d1[lo]!) d1 (b-1) (lo+1)=i->scanDown (λx=>!cJ x d1[lo]!) d1 i (b-1)=j'->Sep F W w (cV a n c d1::L)->
   gm Q a n c lo iz i j' w:=λi j' w h1 h1' h2 h3 hI hJ s=>by
  rw[hI,hJ]at h
  unfold gm
  by_cases hij:i>j'
  ·rw[bY]
   rw[if_pos hij]at h
   exact C0 (ay s) rfl (by omega) rfl (by omega) λw s=>h w s
  ·rw[bD,aJ,aJ]
   rw[if_neg hij]at h
   refine C0 (ay s) rfl (by omega) rfl (by omega) λw s=>?_
   rw[show(i:Int)+1=((i+1:Nat):Int) by omega,show(j':Int)-1=((j'-1:Nat):Int) by omega]
   exact⟨j'+1,alY hn (λw' _ s=>h w' s) j' (i+1) (j'-1) _ w (by omega) (by omega) (by omega) (by omega) (by omega) rfl s⟩
 have b5:∀(i:Nat),lo<i->i<=b->scanUp (λx=>cJ x d1[lo]!) d1 (b-1) (lo+1)=i->∀(k j':Nat) (w:World),j'=lo+k->j'<b->scanDown (λx=>!cJ x d1[lo]!) d1 i (b-1)=scanDown (λx=>!cJ x d1[lo]!) d1 i j'->Sep F W w (cV a n c d1::L)->
   dh Q (k+1) a n c lo iz i j' w:=λi h1 h1' hI k=>by
  induction k with
  |zero=>
   intro j' w hk hj' hJ s
   rw[down_eq _ _ _ j' (by omega),decide_eq_false (by omega),Bool.false_and,oD]at hJ
   show gu Q (dh Q 0) _ _ _ _ _ _ _ _
   rw[gu,bD]
   exact b7 i j' _ h1 h1' (by omega) hj' hI hJ (ay s)
  |succ k ih2=>
   intro j' w hk hj' hJ s
   rw[down_eq _ _ _ j' (by omega)]at hJ
   show gu Q (dh Q (k+1)) _ _ _ _ _ _ _ _
   unfold gu
   by_cases hij:i<=j'
   ·rw[bY]
    refine FB (ay s) rfl (by omega) rfl (by omega) λw s=>?_
    show cond (!cJ d1[j']! d1[lo]!) _ _
    rw[decide_eq_true hij,Bool.true_and]at hJ
    cases hc:cJ d1[j']! d1[lo]! with
    |false=>
     rw[Bool.not_false,cond_true,aJ,show(j':Int)-1=((j'-1:Nat):Int) by omega]
     grind
    |true=>
     grind
   ·rw[bD]
    rw[decide_eq_false hij,Bool.false_and,oD]at hJ
    exact b7 i j' _ h1 h1' (by omega) hj' hI hJ (ay s)
 have b3:∀(k i:Nat) (w:World),i+k=b->lo<i->scanUp (λx=>cJ x d1[lo]!) d1 (b-1) (lo+1)=scanUp (λx=>cJ x d1[lo]!) d1 (b-1) i->Sep F W w (cV a n c d1::L)->
   e_ Q (k+1) a n c lo iz i ((b-1:Nat):Int) w:=λk=>by
  have go5:∀(i:Nat) (w:World),lo<i->i<=b->scanUp (λx=>cJ x d1[lo]!) d1 (b-1) (lo+1)=i->Sep F W w (cV a n c d1::L)->∃k',dh Q k' a n c lo iz i ((b-1:Nat):Int) w:=
   λi w h1 h2 hI s=>⟨b-1-lo+1,b5 i h1 h2 hI (b-1-lo) (b-1) w (by omega) (by omega) rfl s⟩
  induction k with
  |zero=>
   intro i w hk hi hI s
   rw[up_eq _ _ _ i,decide_eq_false (by omega),Bool.false_and,oD]at hI
   show gw Q (e_ Q 0) _ _ _ _ _ _ _ _
   rw[gw,bD]
   exact go5 i _ hi (by omega) hI (ay s)
  |succ k ih2=>
   intro i w hk hi hI s
   rw[up_eq _ _ _ i]at hI
   show gw Q (e_ Q (k+1)) _ _ _ _ _ _ _ _
   rw[gw,bY]
   refine FB (ay s) rfl (by omega) rfl (by omega) λw s=>?_
   show cond (cJ d1[i]! d1[lo]!) _ _
   rw[decide_eq_true (show i<=b-1 by omega),Bool.true_and]at hI
   cases hc:cJ d1[i]! d1[lo]! with
   |true=>
    rw[hc,UX]at hI
    rw[cond_true,aJ]
    exact ih2 (i+1) w (by omega) (by omega) hI s
   |false=>
    grind
 have:=b3 (b-(lo+1)) (lo+1) w (by omega) (by omega) rfl s
 grind
def ah5 {Q:Int->World->Prop}{lo:Nat}(hn:n<1000000){R:Nat×Array bh}(h:∀w',R.1<=n->Sep F W w' (cV a n c R.2::L)->Q R.1 w'):
  ∀(f i j:Nat) (d:Array bh) (w:World),j+1<=i+f->lo<i->lo<=j->j<n->i<=n->partEqLoop cJ lo i j d=R->Sep F W w (cV a n c d::L)->cH Q (f+1) a n c lo iz i j w:=by
 intro f
 induction f with
 |zero=>
  intro i j d w hf hlo hj0 hj hi hR s
  have hsz:=fX s
  rw[Go.Sort.partEqLoop_eq]at hR
  rw[up_eq,decide_eq_false (by omega),Bool.false_and,oD,down_eq _ _ _ _ (by omega),decide_eq_false (by omega),Bool.false_and,oD,HE]at hR
  subst hR
  show fk Q (cH Q 0) _ _ _ _ _ _ _ _
  rw[fk,bD]
  refine⟨1,?_⟩
  show c9 _ Q (cG _ Q 0) _ _ _ _ _ _ _ _
  rw[c9,bD]
  rw[eo,bY]
  exact h _ hi (ay (ay s))
 |succ f ih=>
  intro i j d w hf hlo hj0 hj hi hR s
  have hsz:=fX s
  show fk Q (cH Q (f+1)) _ _ _ _ _ _ _ _
  unfold fk
  rw[Go.Sort.partEqLoop_eq]at hR
  have down:∀(k j':Nat) (w:World),j'=lo+k->j'<=j->Sep F W w (cV a n c d::L)->
    (if i>scanDown (λx=>cJ d[lo]! x) d i j' then(i,d)else partEqLoop cJ lo (i+1) (scanDown (λx=>cJ d[lo]! x) d i j'-1) (swp d i (scanDown (λx=>cJ d[lo]! x) d i j')))=R->
    cG (cH Q (f+1)) Q (k+1) a n c lo iz i j' w:=by
   have b7:∀(j':Nat) (w:World),lo<=j'->j'<=j->Sep F W w (cV a n c d::L)->(if i>j' then(i,d)else partEqLoop cJ lo (i+1) (j'-1) (swp d i j'))=R->
     eo (cH Q (f+1)) Q a n c lo iz i j' w:=λj' w h1 h2 s hR=>by
    unfold eo
    by_cases hij:i>j'
    ·grind
    ·rw[if_neg hij]at hR
     rw[bD,aJ,aJ]
     refine C0 (ay s) rfl (by omega) rfl (by omega) λw s=>?_
     rw[show(i:Int)+1=((i+1:Nat):Int) by omega,show(j':Int)-1=((j'-1:Nat):Int) by omega]
     exact ih (i+1) (j'-1) _ w (by omega) (by omega) (by omega) (by omega) (by omega) hR s
   intro k
   induction k with
   |zero=>
    intro j' w hk hj' s hR
    rw[down_eq _ _ _ _ (by omega),decide_eq_false (by omega),Bool.false_and,oD]at hR
    show c9 _ Q (cG _ Q 0) _ _ _ _ _ _ _ _
    rw[c9,bD]
    exact b7 j' _ (by omega) hj' (ay s) hR
   |succ k ih2=>
    intro j' w hk hj' s hR
    rw[down_eq _ _ _ _ (by omega)]at hR
    show c9 _ Q (cG _ Q (k+1)) _ _ _ _ _ _ _ _
    unfold c9
    by_cases hij:i<=j'
    ·rw[bY]
     refine FB (ay s) rfl (by omega) rfl (by omega) λw s=>?_
     show cond (cJ d[lo]! d[j']!) _ _
     rw[decide_eq_true hij,Bool.true_and]at hR
     cases hc:cJ d[lo]! d[j']! with
     |true=>
      rw[cond_true,aJ,show(j':Int)-1=((j'-1:Nat):Int) by omega]
      grind
     |false=>
      grind
    ·rw[bD]
     rw[decide_eq_false hij,Bool.false_and,oD]at hR
     exact b7 j' _ (by omega) hj' (ay s) hR
  by_cases hij:i<=j
  ·rw[bY]
   refine FB (ay s) rfl (by omega) rfl (by omega) λw s=>?_
   show cond (!cJ d[lo]! d[i]!) _ _
   cases hc:cJ d[lo]! d[i]! with
   |false=>
    rw[Bool.not_false,cond_true,aJ]
    rw[up_eq,hc,decide_eq_true hij,Bool.true_and,Bool.not_false,UX,<-Go.Sort.partEqLoop_eq]at hR
    exact ih (i+1) j d w (by omega) (by omega) hj0 hj (by omega) hR s
   |true=>
    rw[up_eq,hc,Bool.not_true,Bool.and_false,oD]at hR
    exact⟨j-lo+1,down (j-lo) j w (by omega) (Nat.le_refl _) s hR⟩
  ·rw[bD]
   rw[up_eq,decide_eq_false hij,Bool.false_and,oD]at hR
   exact⟨j-lo+1,down (j-lo) j _ (by omega) (Nat.le_refl _) (ay s) hR⟩
def Ra {Q:Int->World->Prop}{lo b pv:Nat}(s:Sep F W w (cV a n c d::L))(hn:n<1000000)(hlo:lo<=pv/\pv<b)(hb:b<=n)
  (h:∀w',Sep F W w' (cV a n c (partitionEqual cJ d lo b pv).2::L)->Q (partitionEqual cJ d lo b pv).1 w'):
  jq a n c lo b pv iz w Q:=by
 apply xE
 have hsz:=fX s
 refine C0 (ay s) rfl (by omega) rfl (by omega) λw s=>?_
 rw[aJ,aJ,show(b:Int)-1=((b-1:Nat):Int) by omega]
 exact⟨b+1,ah5 hn (λw' _ s=>h w' s) b (lo+1) (b-1) _ w (by omega) (by omega) (by omega) (by omega) (by omega) rfl s⟩
end
end Go.Proofs.YtmegplnmiepfbaaGreatDoor.S
namespace Go.Proofs.YtmegplnmiepfbaaGreatDoor.S
open Go.Sx
open Go.Sort (swp scanSorted shiftDown shiftUp partialIns partialInsertionSort PermIn)
attribute [local irreducible] af cw bq bg aC cf bX St Bx Al App cA cq cm bT aI bw aq bR av aj aV mapA
section
variable {F:Nat->Prop}{W w w0:World}{L:List As}{a:Option Addr}{n c:Nat}{d:Array bh}
def aol {Q:Bool->World->Prop}{lo b:Nat}(hn:n<1000000)(hb:b<=n)(hlo:lo<b){R:Array bh×Bool}(h:∀w',Sep F W w' (cV a n c R.1::L)->Q R.2 w'):
  ∀(f i:Nat) (d:Array bh) (w:World),f<=5->lo<i->i<=b->partialIns cJ lo b f i d=R->Sep F W w (cV a n c d::L)->bp Q (f+1) a n c lo b iz i (5-f:Int) w:=by
 intro f
 induction f with
 |zero=>
  intro i d w hf hi hib hR s
  rw[partialIns]at hR
  subst hR
  show eF Q (bp Q 0) _ _ _ _ _ _ _ _ _
  unfold eF
  grind
 |succ f ih=>
  intro i d w hf hi hib hR s
  show eF Q (bp Q (f+1)) _ _ _ _ _ _ _ _ _
  rw[eF,bY]
  have next:∀(i:Nat) (d:Array bh) (w:World),lo<i->i<=b->partialIns cJ lo b f i d=R->Sep F W w (cV a n c d::L)->bp Q (f+1) a n c lo b iz i (IntKind.wrap .i64 ((5-(f+1:Nat):Int)+1)) w:=λi d w h1 h2 h3 s=>by
   rw[aJ,show(5-(f+1:Nat):Int)+1=5-f by omega]
   grind
  have up:∀(i:Nat) (d':Array bh),lo<i->i<=b->partialIns cJ lo b f i d'=R->∀(k j:Nat) (d:Array bh) (w:World),j+k=b->lo<j->shiftUp cJ b j d=d'->Sep F W w (cV a n c d::L)->
    cR (bp Q (f+1)) Q (k+1) a n c lo b iz i (5-(f+1:Nat):Int) j w:=by
   intro i d' h1 h2 h3 k
   induction k with
   |zero=>
    intro j d w hj hj0 hS s
    rw[shiftUp,vm]at hS
    subst hS
    show ee _ Q (cR _ Q 0) _ _ _ _ _ _ _ _ _ _
    unfold ee
    grind
   |succ k ih2=>
    intro j d w hj hj0 hS s
    have hsz:=fX s
    rw[shiftUp,HE]at hS
    show ee _ Q (cR _ Q (k+1)) _ _ _ _ _ _ _ _ _ _
    rw[ee,bY,aJ]
    refine FB (q:=j-1) (ay s) rfl (by omega) (by omega) (by omega) λw s=>?_
    show cond (!cJ d[j]! d[j-1]!) _ _
    cases hc:cJ d[j]! d[j-1]! with
    |false=>
     grind
    |true=>
     rw[hc,Bool.not_true,oD]at hS
     rw[Bool.not_true,cond_false,aJ]
     refine C0 (q:=j-1) (ay s) rfl (by omega) (by omega) (by omega) λw s=>?_
     exact ih2 (j+1) _ w (by omega) (by omega) hS s
  have b18:∀(i:Nat) (d:Array bh) (w:World),lo<i->i<b->partialIns cJ lo b f i (if b-i≥2 then shiftUp cJ b (i+1) d else d)=R->Sep F W w (cV a n c d::L)->
    cS (bp Q (f+1)) Q a n c lo b iz i (5-(f+1:Nat):Int) w:=λi d w h1 h2 h3 s=>by
   rw[cS,aJ]
   by_cases h4:b-i≥2
   ·rw[if_pos h4]at h3
    rw[bY,aJ]
    exact⟨_,up i _ h1 (by omega) h3 (b-(i+1)) (i+1) d w (by omega) (by omega) rfl s⟩
   ·rw[if_neg h4]at h3
    rw[bD]
    exact next i d _ h1 (by omega) h3 s
  have down:∀(i:Nat) (d':Array bh),lo<i->i<b->partialIns cJ lo b f i (if b-i≥2 then shiftUp cJ b (i+1) d' else d')=R->∀(j:Nat) (d:Array bh) (w:World),j<b->shiftDown cJ j d=d'->Sep F W w (cV a n c d::L)->
    cT (bp Q (f+1)) Q (j+1) a n c lo b iz i (5-(f+1:Nat):Int) j w:=by
   intro i d' h1 h2 h3 j
   induction j with
   |zero=>
    intro d w hj hS s
    subst hS
    show ef _ Q (cT _ Q 0) _ _ _ _ _ _ _ _ _ _
    unfold ef
    exact b18 i d _ h1 h2 h3 s
   |succ j ih2=>
    intro d w hj hS s
    have hsz:=fX s
    rw[shiftDown]at hS
    show ef _ Q (cT _ Q (j+1)) _ _ _ _ _ _ _ _ _ _
    rw[ef,bY,aJ]
    refine FB (q:=j) (ay s) rfl (by omega) (by omega) (by omega) λw s=>?_
    show cond (!cJ d[j+1]! d[j]!) _ _
    cases hc:cJ d[j+1]! d[j]! with
    |false=>
     rw[hc,Bool.not_false,UX]at hS
     subst hS
     exact b18 i d w h1 h2 h3 s
    |true=>
     rw[hc,Bool.not_true,oD]at hS
     rw[Bool.not_true,cond_false,show((j+1:Nat):Int)-1=(j:Int) by omega]
     refine C0 (q:=j) (ay s) rfl (by omega) (by omega) (by omega) λw s=>?_
     exact ih2 _ w (by omega) hS s
  have scan:∀(k i:Nat) (w:World),i+k=b->lo<i->Sep F W w (cV a n c d::L)->(if scanSorted cJ d b i=b then(d,true)else if b-lo<50 then(d,false)else
     partialIns cJ lo b f (scanSorted cJ d b i) (if b-scanSorted cJ d b i≥2 then shiftUp cJ b (scanSorted cJ d b i+1) (if scanSorted cJ d b i-lo≥2 then shiftDown cJ (scanSorted cJ d b i-1) (swp d (scanSorted cJ d b i) (scanSorted cJ d b i-1))else swp d (scanSorted cJ d b i) (scanSorted cJ d b i-1))
      else(if scanSorted cJ d b i-lo≥2 then shiftDown cJ (scanSorted cJ d b i-1) (swp d (scanSorted cJ d b i) (scanSorted cJ d b i-1))else swp d (scanSorted cJ d b i) (scanSorted cJ d b i-1))))=R->
    c7 (bp Q (f+1)) Q (k+1) a n c lo b iz i (5-(f+1:Nat):Int) w:=by
   have b7:∀(i:Nat) (w:World),lo<i->i<=b->Sep F W w (cV a n c d::L)->(if i=b then(d,true)else if b-lo<50 then(d,false)else
     partialIns cJ lo b f i (if b-i≥2 then shiftUp cJ b (i+1) (if i-lo≥2 then shiftDown cJ (i-1) (swp d i (i-1))else swp d i (i-1))else(if i-lo≥2 then shiftDown cJ (i-1) (swp d i (i-1))else swp d i (i-1))))=R->
     eC (bp Q (f+1)) Q a n c lo b iz i (5-(f+1:Nat):Int) w:=λi w h1 h2 s hR=>by
    have hsz:=fX s
    unfold eC
    by_cases h3:i=b
    ·rw[if_pos h3]at hR
     subst hR
     rw[dJ (by omega),cond_true]
     exact h _ s
    ·rw[if_neg h3]at hR
     rw[cM (by omega),cond_false,aJ]
     by_cases h4:b-lo<50
     ·rw[if_pos h4]at hR
      subst hR
      rw[bY]
      exact h _ s
     ·rw[if_neg h4]at hR
      rw[bD,aJ,aJ]
      refine C0 (q:=i-1) (ay s) rfl (by omega) (by omega) (by omega) λw s=>?_
      by_cases h5:i-lo≥2
      ·rw[if_pos h5]at hR
       rw[bY,show(i:Int)-1=((i-1:Nat):Int) by omega]
       exact⟨_,down i _ h1 (by omega) hR (i-1) _ w (by omega) rfl s⟩
      ·rw[if_neg h5]at hR
       rw[bD]
       exact b18 i _ w h1 (by omega) hR s
   intro k
   induction k with
   |zero=>
    intro i w hk hi s hR
    rw[scanSorted,decide_eq_false (by omega),Bool.false_and,oD]at hR
    show eE _ Q (c7 _ Q 0) _ _ _ _ _ _ _ _ _
    rw[eE,bD]
    exact b7 i _ hi (by omega) (ay s) hR
   |succ k ih2=>
    intro i w hk hi s hR
    have hsz:=fX s
    rw[scanSorted,decide_eq_true (by omega),Bool.true_and]at hR
    show eE _ Q (c7 _ Q (k+1)) _ _ _ _ _ _ _ _ _
    rw[eE,bY,aJ]
    refine FB (q:=i-1) (ay s) rfl (by omega) (by omega) (by omega) λw s=>?_
    show cond (!cJ d[i]! d[i-1]!) _ _
    cases hc:cJ d[i]! d[i-1]! with
    |false=>
     rw[hc,Bool.not_false,UX]at hR
     rw[Bool.not_false,cond_true,aJ]
     exact ih2 (i+1) w (by omega) (by omega) s hR
    |true=>
     rw[hc,Bool.not_true,oD]at hR
     exact b7 i w hi (by omega) s hR
  exact⟨_,scan (b-i) i w (by omega) hi s hR⟩
def Yw {Q:Bool->World->Prop}{lo b:Nat}(s:Sep F W w (cV a n c d::L))(hn:n<1000000)(hlo:lo<b)(hb:b<=n)(h:∀w',Sep F W w' (cV a n c (partialInsertionSort cJ d lo b).1::L)->Q (partialInsertionSort cJ d lo b).2 w'):
  ig a n c lo b iz w Q:=by
 apply uj
 rw[aJ]
 exact⟨_,aol hn hb hlo h 5 (lo+1) d w (by decide) (by omega) (by omega) rfl s⟩
def aiO {lo b i j:Nat}{d d':Array bh}(h:PermIn lo b d d')(hb:b<=d'.size)(hi:lo<=i/\i<b)(hj:lo<=j/\j<b):PermIn lo b d (swp d' i j):=
 Go.Sort.permIn_trans _ _ _ _ _ h (Go.Sort.swp_permIn _ _ _ _ _ hi.1 hi.2 hj.1 hj.2 hb)
def aeR {Q:World->Prop}{lo b:Nat}(s:Sep F W w (cV a n c d::L))(hn:n<1000000)(hlo:lo<b)(hb:b<=n)(h:∀d' w',PermIn lo b d d'->Sep F W w' (cV a n c d'::L)->Q w'):
  jO a n c lo b iz w Q:=by
 apply y6
 rw[aJ]
 have loop:∀(k i j:Nat) (d':Array bh) (w:World),j<=i+k->lo<=i->j<b->i<=b->PermIn lo b d d'->Sep F W w (cV a n c d'::L)->eM Q (k+1) a n c i j w:=by
  intro k
  induction k with
  |zero=>
   intro i j d' w hk hi hj hib hp s
   show fN Q (eM Q 0) _ _ _ _ _ _
   unfold fN
   grind
  |succ k ih=>
   intro i j d' w hk hi hj hib hp s
   have hsz:=fX s
   show fN Q (eM Q (k+1)) _ _ _ _ _ _
   unfold fN
   by_cases hij:i<j
   ·rw[bY,aJ,aJ]
    refine C0 (ay s) rfl (by omega) rfl (by omega) λw s=>?_
    rw[show(j:Int)-1=((j-1:Nat):Int) by omega]
    exact ih (i+1) (j-1) _ w (by omega) (by omega) (by omega) (by omega) (aiO hp (by omega) (by omega) (by omega)) s
   grind
 have:=loop b lo (b-1) d w (by omega) (Nat.le_refl _) (by omega) (by omega) (Go.Sort.permIn_refl _ _ _) s
 grind
def Ky {Q:Int->Int->World->Prop}{i j sp:Nat}{k:Int}{t:TypeId}(s:Sep F W w (cV a n c d::av sp t [ae k]::L))(hi:i<n)(hj:j<n)
  (h:∀(x y:Nat) k' w',(x=i/\y=j\/x=j/\y=i)->Sep F W w' (cV a n c d::av sp t [ae k']::L)->Q x y w'):gE a n c i j (sZ sp) iz w Q:=by
 apply Cc
 have hsz:=fX s
 refine FB (ay s) rfl (by omega) rfl (by omega) λw s=>?_
 cases hc:decide (agn d[j]! d[i]! <0)with
 |true=>
  rw[cond_true]
  refine ah (lI s 1 rfl (ah ?_))
  refine sT s 1 rfl λw s=>?_
  grind
 |false=>
  grind
def UY {Q:Int->World->Prop}{i j l sp:Nat}{k:Int}{t:TypeId}(s:Sep F W w (cV a n c d::av sp t [ae k]::L))(hi:i<n)(hj:j<n)(hl:l<n)
  (h:∀(x:Nat) k' w',(x=i\/x=j\/x=l)->Sep F W w' (cV a n c d::av sp t [ae k']::L)->Q x w'):jj a n c i j l (sZ sp) iz w Q:=by
 apply Cd
 refine Ky s hi hj λx y k w e s=>?_
 refine Ky s (show y<n by omega) hl λx' y' k w e' s=>?_
 refine Ky s (show x<n by omega) (show x'<n by omega) λx2 y2 k w e2 s=>?_
 grind
def FC {Q:Int->World->Prop}{i sp:Nat}{k:Int}{t:TypeId}(s:Sep F W w (cV a n c d::av sp t [ae k]::L))(hn:n<1000000)(hi:1<=i/\i+1<n)
  (h:∀(x:Nat) k' w',(i<=x+1/\x<=i+1)->Sep F W w' (cV a n c d::av sp t [ae k']::L)->Q x w'):eZ a n c i (sZ sp) iz w Q:=by
 apply xD
 rw[aJ,aJ,show(i:Int)-1=((i-1:Nat):Int) by omega,show(i:Int)+1=((i+1:Nat):Int) by omega]
 exact UY s (by omega) (by omega) (by omega) λx k w e s=>h x k w (by omega) s
def WN {Q:Int->Int->World->Prop}{lo b:Nat}(s:Sep F W w (cV a n c d::L))(hn:n<1000000)(hlo:lo<b)(hb:b<=n)
  (h:∀(x:Nat) (hint:Int) w',lo<=x/\x<b->Sep F W w' (cV a n c d::L)->Q x hint w'):j9 a n c lo b iz w Q:=by
 apply zF
 refine a_ s λsp w s=>⟨by decide,by decide,by decide,?_⟩
 have s:=jN s
 have b12:∀(x:Nat) (k:Int) (w:World),lo<=x/\x<b->Sep F W w (cV a n c d::av sp 3 [ae k]::L)->ik Q (aZ sp) x w:=λx k w hx s=>by
  apply lI s 1 rfl
  have s':Sep F W w (cV a n c d::L):=gL s (List.Sublist.cons_cons _ (List.sublist_cons_self _ _))
  grind
 have b11:∀(i j l:Nat) (k:Int) (w:World),lo<=i/\i<b->lo<=j/\j<b->lo<=l/\l<b->Sep F W w (cV a n c d::av sp 3 [ae k]::L)->iq Q a n c iz (aZ sp) i j l w:=λi j l k w hi hj hl s=>by
  exact UY s (by omega) (by omega) (by omega) λx k w e s=>b12 x k w (by omega) s
 rw[aJ,Int.tdiv_eq_ediv_of_nonneg (by omega),aJ (n:=((b:Int)-lo)/4),
  aJ (n:=((b:Int)-lo)/4*1),aJ (n:=((b:Int)-lo)/4*2),aJ (n:=((b:Int)-lo)/4*3),
  aJ,aJ,aJ]
 have e1:(lo:Int)+((b:Int)-lo)/4*1=((lo+(b-lo)/4*1:Nat):Int):=by omega
 have e2:(lo:Int)+((b:Int)-lo)/4*2=((lo+(b-lo)/4*2:Nat):Int):=by omega
 have e3:(lo:Int)+((b:Int)-lo)/4*3=((lo+(b-lo)/4*3:Nat):Int):=by omega
 rw[e1,e2,e3]
 by_cases h8:b-lo≥8
 ·rw[bY (show(b:Int)-lo≥8 by omega)]
  by_cases h50:b-lo≥50
  ·rw[bY (show(b:Int)-lo≥50 by omega)]
   refine FC s hn (by omega) λx k w e s=>?_
   refine FC s hn (by omega) λy k w e' s=>?_
   refine FC s hn (by omega) λz k w e2 s=>?_
   grind
  ·rw[bD (show¬(b:Int)-lo≥50 by omega)]
   exact b11 _ _ _ _ w (by omega) (by omega) (by omega) s
 ·rw[bD (show¬(b:Int)-lo≥8 by omega)]
  exact b12 _ _ w (by omega) s
end
end Go.Proofs.YtmegplnmiepfbaaGreatDoor.S
namespace Go.Proofs.YtmegplnmiepfbaaGreatDoor.S
open Go.Sx
open Go.Sort (swp PermIn SortedIn Below)
attribute [local irreducible] af cw bq bg aC cf bX St Bx Al App cA cq cm bT aI bw aq bR av aj aV mapA
section
variable {F:Nat->Prop}{W w w0:World}{L:List As}{a:Option Addr}{n c:Nat}{d:Array bh}
def ajT (T:ByteArray):Bool:=(List.range 256).all λx=>decide (0<=sb T x/\sb T x<=8/\(x:Int)<2^(sb T x).toNat/\(1<=x->(2:Int)^(sb T x).toNat<=2*x))
def avJ:∃T:ByteArray,T.size=256/\ajT T=true/\∀Q x k w,tL Q x k w=(aH (IntKind.wrap .u8 x) T.size<|Q (IntKind.wrap .i64 (k+IntKind.wrap .i64 (sb T (IntKind.wrap .u8 x).toNat))) w):=by
 refine⟨_,?_,?_,λ_ _ _ _=>rfl⟩
 ·kernel_rfl
 ·kernel_rfl
def aiP {T:ByteArray}(h2:ajT T=true){x:Nat}(hx:x<256):0<=sb T x/\sb T x<=8/\(x:Int)<2^(sb T x).toNat/\(1<=x->(2:Int)^(sb T x).toNat<=2*x):=by
 unfold ajT at h2
 grind
def Pj {x:Nat}{Q:Int->World->Prop}(hx:x<65536)(h:∀v:Nat,v<=16->(x:Int)<2^v->(8<=x->(2:Int)^v<=2*x)->Q v w):uV x w Q:=by
 apply S2
 apply OG
 unfold u6 uZ
 rw[bD,bD]
 obtain⟨T,h1,h2,h3⟩:=avJ
 by_cases hs:x<256
 ·rw[bD,h3,h1,wrap_u8' x,Int.emod_eq_of_lt (by omega) (by omega)]
  refine⟨by omega,by omega,?_⟩
  obtain⟨a1,a2,a3,a4⟩:=aiP h2 hs
  rw[Int.toNat_natCast,aJ (n:=sb T x),aJ,Int.zero_add]
  grind
 ·rw[bY]
  refine⟨by decide,?_⟩
  have e:oJ .u64 (x:Int) 8=((x/256:Nat):Int):=by
   rw[oJ,show(2:Int)^(min (8:Int).toNat (IntKind.u64).bits)=256 from rfl,Int.fdiv_eq_ediv_of_nonneg _ (by decide)]
   omega
  rw[e,wrap_i64 (by decide) (by decide),h3,h1,wrap_u8' ((x/256:Nat):Int),Int.emod_eq_of_lt (by omega) (by omega)]
  refine⟨by omega,by omega,?_⟩
  obtain⟨a1,a2,a3,a4⟩:=aiP h2 (x:=x/256) (by omega)
  rw[Int.toNat_natCast,aJ (n:=sb T (x/256)),aJ]
  have e2:(2:Int)^(8+(sb T (x/256)).toNat)=256*2^(sb T (x/256)).toNat:=by grind
  grind
def ash {x m:Int}(hm:0<=m/\m<1000000):0<=A1 .u64 x m/\A1 .u64 x m<=m:=by
 unfold A1
 have h1:(BitVec.ofInt 64 x&&&BitVec.ofInt 64 m).toNat<=m.toNat:=by
  apply Nat.le_trans Nat.and_le_right
  grind
 have h1:(BitVec.ofInt (IntKind.u64).bits x&&&BitVec.ofInt (IntKind.u64).bits m).toNat<=m.toNat:=h1
 rw[jV (by omega)]
 omega
def ab_ {Q:Int->World->Prop}{sp:Nat}{k:Int}{t:TypeId}(s:Sep F W w (cV a n c d::av sp t [.int .u64 k]::L))
  (h:∀r k' w',Sep F W w' (cV a n c d::av sp t [.int .u64 k']::L)->Q r w'):sj (sZ sp) w Q:=by
 apply ID
 refine ah (lI s 1 rfl (ah (lI s 1 rfl ⟨by decide,ah ?_⟩)))
 refine sT s 1 rfl λw s=>?_
 refine ah (lI s 1 rfl (ah (lI s 1 rfl ⟨by decide,ah ?_⟩)))
 refine sT s 1 rfl λw s=>?_
 refine ah (lI s 1 rfl (ah (lI s 1 rfl ⟨by decide,ah ?_⟩)))
 refine sT s 1 rfl λw s=>?_
 refine ah (lI s 1 rfl ?_)
 grind
def agz {Q:World->Prop}{lo b:Nat}(s:Sep F W w (cV a n c d::L))(hn:n<2000)(hlo:lo<b)(hb:b<=n)(h:∀d' w',PermIn lo b d d'->Sep F W w' (cV a n c d'::L)->Q w'):
  jw a n c lo b iz w Q:=by
 apply yz
 rw[aJ]
 by_cases h8:b-lo≥8
 ·rw[bY (show(b:Int)-lo≥8 by omega)]
  refine a_ s λsp w s=>?_
  refine ax s (i:=0) rfl rfl rfl λw s=>?_
  have s:=jN s
  apply HO
  rw[jV (by omega),show(b:Int)-lo=((b-lo:Nat):Int) by omega]
  refine Pj (by omega) λv hv h1 h2=>⟨by omega,by decide,?_⟩
  have h2:=h2 h8
  have hsh:Ai .u64 1 (v:Int)=(2:Int)^v:=by
   rw[Ai,Int.toNat_natCast,Int.one_mul,show min v (IntKind.u64).bits=v by simp[IntKind.bits];omega]
   exact jV (by omega)
  rw[hsh]
  generalize (2:Int)^v=M at h1 h2
  rw[Int.tdiv_eq_ediv_of_nonneg (by omega),aJ (n:=((b-lo:Nat):Int)/4),aJ (n:=((b-lo:Nat):Int)/4*2),aJ (n:=(lo:Int)+((b-lo:Nat):Int)/4*2),
   aJ]
  have loop:∀(k idx:Nat) (d':Array bh) (r:Int) (t:TypeId) (w:World),idx+k=lo+(b-lo)/4*2+2->lo<=idx->PermIn lo b d d'->Sep F W w (cV a n c d'::av sp t [.int .u64 r]::L)->
    dw Q (k+1) a n c lo ((b-lo:Nat):Int) (aZ sp) M idx w:=by
   intro k
   induction k with
   |zero=>
    intro idx d' r t w hk hi hp s
    show j_ Q (dw Q 0) _ _ _ _ _ _ _ _ _
    refine⟨by decide,?_⟩
    rw[Int.tdiv_eq_ediv_of_nonneg (by omega),aJ (n:=((b-lo:Nat):Int)/4),aJ (n:=((b-lo:Nat):Int)/4*2),aJ (n:=(lo:Int)+((b-lo:Nat):Int)/4*2),
     aJ,bD]
    exact h d' w hp (gL s (List.Sublist.cons_cons _ (List.sublist_cons_self _ _)))
   |succ k ih=>
    intro idx d' r t w hk hi hp s
    show j_ Q (dw Q (k+1)) _ _ _ _ _ _ _ _ _
    refine⟨by decide,?_⟩
    rw[Int.tdiv_eq_ediv_of_nonneg (by omega),aJ (n:=((b-lo:Nat):Int)/4),aJ (n:=((b-lo:Nat):Int)/4*2),aJ (n:=(lo:Int)+((b-lo:Nat):Int)/4*2),
     aJ,bY]
    refine ab_ s λrr r w s=>?_
    have hsz:=fX s
    have b10:∀(o:Nat) (w:World),o<b-lo->Sep F W w (cV a n c d'::av sp t [.int .u64 r]::L)->fg (dw Q (k+1)) Q a n c lo ((b-lo:Nat):Int) (aZ sp) M idx o w:=λo w ho s=>by
     rw[fg,aJ,aJ]
     refine C0 (q:=lo+o) (ay s) rfl (by omega) (by omega) (by omega) λw s=>?_
     exact ih (idx+1) _ r t w (by omega) (by omega) (aiO hp (by omega) (by omega) (by omega)) s
    rw[jV (by omega)]
    have ha:=ash (x:=rr) (m:=M-1) (by omega)
    generalize A1 .u64 rr (M-1)=q at ha
    rw[aJ]
    by_cases hq:q≥((b-lo:Nat):Int)
    ·rw[bY hq,aJ]
     have:=b10 (q-((b-lo:Nat):Int)).toNat w (by omega) s
     grind
    ·have:=b10 q.toNat w (by omega) s
     grind
  have:=loop 3 (lo+(b-lo)/4*2-1) d _ _ w (by omega) (by omega) (Go.Sort.permIn_refl _ _ _) s
  grind
 ·rw[bD (show¬(b:Int)-lo≥8 by omega)]
  exact h d w (Go.Sort.permIn_refl _ _ _) s
end
end Go.Proofs.YtmegplnmiepfbaaGreatDoor.S
namespace Go.Proofs.YtmegplnmiepfbaaGreatDoor.S
open Go.Sx
def asi (P:Program)(t:TypeId)(xs ys:Array Value):Option Bool:=match P.underlying t with
 |some (.struct fs)=>afA P xs ys fs.toList
 |_=>none
def al2 {P:Program}{t:TypeId}{xs ys:Array Value}{x y:Operand}{r:Bool}{w:World}{K:Bool->World->Prop}(hp:P.stoodInHeld t=false)(hg:P.eqGuardType P.depth t=false)(hr:asi P t xs ys=some r)(h:K r w):bT P .eql t x y (.agg xs) (.agg ys) w K:=by
 unfold asi at hr
 split at hr
 ·rename_i fs hu
  exact arR hu hp hg hr h
 ·cases hr
def eq3 {a b c a' b' c':Int}:(a==a'&&(b==b'&&(c==c'&&true)))=decide (a=a'/\b=b'/\c=c'):=by grind
def aqR {a b:bh}:(a.c=b.c/\a.s=b.s/\a.k=b.k)↔a=b:=by
 obtain⟨a1,a2,a3⟩:=a
 obtain⟨b1,b2,b3⟩:=b
 simp
attribute [local irreducible] bT
def al3 {w:World}{x y:Operand}{a b:bh}{K:Bool->World->Prop}(h:K (decide (a=b)) w):bT P .eql 294 x y (.agg #[ae a.c,ae a.s,ae a.k]) (.agg #[ae b.c,ae b.s,ae b.k]) w K:=by
 apply al2 (r:=a.c==b.c&&(a.s==b.s&&(a.k==b.k&&true))) (by kernel_rfl) (by kernel_rfl) (by kernel_rfl)
 rw[eq3]
 simp[aqR]
 exact h
def asj {w:World}{x y:Operand}{a b:bh}{K:Bool->World->Prop}(h:K (!decide (a=b)) w):bT P .neq 294 x y (.agg #[ae a.c,ae a.s,ae a.k]) (.agg #[ae b.c,ae b.s,ae b.k]) w K:=
 aiy (by kernel_rfl) (al3 h)
end Go.Proofs.YtmegplnmiepfbaaGreatDoor.S
namespace Go.Proofs.YtmegplnmiepfbaaGreatDoor.S
open Go.Sx
open Go.Sort (swp PermIn SortedIn Below)
attribute [local irreducible] af cw bq bg aC cf bX St Bx Al App cA cq cm bT aI bw aq bR av aj aV mapA
section
variable {F:Nat->Prop}{W w w0:World}{L:List As}{a:Option Addr}{n c:Nat}{d:Array bh}
def agA (lo b:Nat)(d d':Array bh):Prop:=PermIn lo b d d'/\SortedIn cJ lo b d'
def aom (hn:n<2000):∀(N:Nat) (lo b:Nat) (limit:Int) (wb wp:Bool) (d:Array bh) (w:World) (Q:World->Prop) (f:Nat),b-lo<=N->N<f->lo<=b->b<=n->Below cJ lo b d->0<=limit/\limit<1000->Sep F W w (cV a n c d::L)->
   (∀d' w',agA lo b d d'->Sep F W w' (cV a n c d'::L)->Q w')->cD Q f a n c lo b limit iz wb wp w:=by
 intro N
 induction N with
 |zero=>
  intro lo b limit wb wp d w Q f h1 hf h2 h3 hB zK s h
  obtain⟨f,rfl⟩:∃g,f=g+1:=⟨f-1,by omega⟩
  show gU Q (cD Q f) _ _ _ _ _ _ _ _ _ _
  unfold gU
  have hsz:=fX s
  rw[aJ,bY]
  refine Gl s (by omega) h2 h3 λw s=>h _ w ?_ s
  exact Go.Sort.insertionSort_holds EA d lo b h2 (by omega)
 |succ N ih=>
  have call:∀(lo b:Nat) (limit:Int) (d:Array bh) (w:World) (Q:World->Prop),b-lo<=N->lo<=b->b<=n->Below cJ lo b d->0<=limit/\limit<1000->Sep F W w (cV a n c d::L)->
    (∀d' w',agA lo b d d'->Sep F W w' (cV a n c d'::L)->Q w')->e9 a n c lo b limit iz w Q:=λlo b limit d w Q h1 h2 h3 h4 h5 s h=>by
   apply rf
   exact⟨N+1,ih lo b limit true true d w Q (N+1) h1 (Nat.lt_succ_self N) h2 h3 h4 h5 s h⟩
  intro lo b limit wb wp d w Q f h1 hf h2 h3 hB zK s h
  obtain⟨f,rfl⟩:∃g,f=g+1:=⟨f-1,by omega⟩
  show gU Q (cD Q f) _ _ _ _ _ _ _ _ _ _
  unfold gU
  have hsz:=fX s
  rw[aJ]
  by_cases h12:b-lo<=12
  ·rw[bY]
   refine Gl s (by omega) h2 h3 λw s=>h _ w ?_ s
   exact Go.Sort.insertionSort_holds EA d lo b h2 (by omega)
  rw[bD]
  by_cases hl0:limit=0
  ·rw[dJ hl0,cond_true]
   refine ab9 s (by omega) (by omega) h3 λw s=>h _ w ?_ s
   exact Go.Sort.heapSort_holds EA d lo b h2 (by omega)
  rw[cM hl0,cond_false]
  have via:∀{d1 d':Array bh},PermIn lo b d d1->agA lo b d1 d'->agA lo b d d':=λh1 h2=>⟨Go.Sort.permIn_trans _ _ _ _ _ h1 h2.1,h2.2⟩
  have b20:∀(limit:Int) (pv:Nat) (d1:Array bh) (w:World),0<=limit/\limit<1000->lo<=pv/\pv<b->PermIn lo b d d1->Sep F W w (cV a n c d1::L)->
    jk (cD Q f) Q a n c lo b limit iz ((b:Int)-lo) pv w:=λlimit pv d1 w zK hp hP s=>by
   have asn:=fX s
   rcases hx:Go.Sort.partition cJ d1 lo b pv with⟨mid,ap,d4⟩
   obtain⟨p1,p2,p3,p4,p5,p6,p7⟩:=Go.Sort.round_part EA (Go.Sort.partition_holds cJ) hp.1 hp.2 (by omega) (Go.Sort.Below.perm hB (by omega) hP) hx
   refine aai s (by omega) hp h3 λw s=>⟨by decide,?_⟩
   rw[hx]at s⊢
   rw[aJ,aJ,aJ]
   by_cases hm:(mid:Int)-lo<b-mid
   ·rw[bY hm]
    refine call lo mid limit d4 w _ (by omega) (by omega) (by omega) p4 zK s λd5 w hS s=>?_
    obtain⟨q1,q2⟩:=p6 d5 hS.1 hS.2
    exact ih (mid+1) b limit _ _ d5 w Q f (by omega) (by omega) (by omega) h3 q1 zK s λd6 w hS2 s=>h d6 w (via hP (q2 d6 hS2.1 hS2.2)) s
   ·rw[bD hm]
    refine call (mid+1) b limit d4 w _ (by omega) (by omega) (by omega) p5 zK s λd5 w hS s=>?_
    obtain⟨q1,q2⟩:=p7 d5 hS.1 hS.2
    exact ih lo mid limit _ _ d5 w Q f (by omega) (by omega) (by omega) (by omega) q1 zK s λd6 w hS2 s=>h d6 w (via hP (q2 d6 hS2.1 hS2.2)) s
  have Xc:∀(limit:Int) (pv:Nat) (d1:Array bh) (w:World),0<=limit/\limit<1000->lo<=pv/\pv<b->PermIn lo b d d1->Sep F W w (cV a n c d1::L)->
    eL (cD Q f) Q a n c lo b limit iz wb wp ((b:Int)-lo) pv w:=λlimit pv d1 w zK hp hP s=>by
   have asn:=fX s
   unfold eL
   by_cases h0:lo>0
   ·rw[bY,aJ]
    refine FB (p:=lo-1) (ay s) (by omega) (by omega) rfl (by omega) λw s=>?_
    show cond (!cJ d1[lo-1]! d1[pv]!) _ _
    cases hc:cJ d1[lo-1]! d1[pv]! with
    |false=>
     rcases hx:Go.Sort.partitionEqual cJ d1 lo b pv with⟨mid,d4⟩
     obtain⟨p1,p2,p3,p4,p5⟩:=Go.Sort.round_eq EA (Go.Sort.partitionEqual_holds cJ) h0 hp.1 hp.2 (by omega) (Go.Sort.Below.perm hB (by omega) hP) hc hx
     refine Ra s (by omega) hp h3 λw s=>?_
     rw[hx]at s⊢
     exact ih mid b limit _ _ _ w Q f (by omega) (by omega) p2 h3 p4 zK s λd6 w hS2 s=>h d6 w (via hP (p5 d6 hS2.1 hS2.2)) s
    |true=>
     exact b20 limit pv d1 w zK hp hP s
   ·rw[bD]
    exact b20 limit pv d1 _ zK hp hP (ay s)
  have b15:∀(limit:Int) (pv:Nat) (hint:Int) (d1:Array bh) (w:World),0<=limit/\limit<1000->lo<=pv/\pv<b->PermIn lo b d d1->Sep F W w (cV a n c d1::L)->
    gJ (cD Q f) Q a n c lo b limit iz wb wp ((b:Int)-lo) pv hint w:=λlimit pv hint d1 w zK hp hP s=>by
   have asn:=fX s
   unfold gJ
   cases hwb:wb with
   |false=>rw[cond_false];rw[hwb]at Xc;exact Xc limit pv d1 w zK hp hP s
   |true=>
    cases hwp:wp with
    |false=>rw[cond_false];rw[hwb,hwp]at Xc;exact Xc limit pv d1 w zK hp hP s
    |true=>
     rw[hwb,hwp]at Xc
     cases hint==1 with
     |false=>rw[cond_false];exact Xc limit pv d1 w zK hp hP s
     |true=>
      have hpi:=Go.Sort.partialInsertionSort_holds EA d1 lo b (by omega) (by omega) (Go.Sort.Below.perm hB (by omega) hP)
      refine Yw s (by omega) (by omega) h3 λw s=>?_
      cases hr:(Go.Sort.partialInsertionSort cJ d1 lo b).2 with
      |true=>
       exact h _ w (via hP ⟨hpi.1,hpi.2 hr⟩) s
      |false=>
       exact Xc limit pv _ w zK hp (Go.Sort.permIn_trans _ _ _ _ _ hP hpi.1) s
  have b10:∀(limit:Int) (d1:Array bh) (w:World),0<=limit/\limit<1000->PermIn lo b d d1->Sep F W w (cV a n c d1::L)->
    jl (cD Q f) Q a n c lo b limit iz wb wp ((b:Int)-lo) w:=λlimit d1 w zK hP s=>by
   refine WN s (by omega) (by omega) h3 λpv hint w hp s=>?_
   cases hint==2 with
   |true=>
    refine aeR s (by omega) (by omega) h3 λd2 w hP2 s=>?_
    rw[aJ (n:=(b:Int)-1),aJ (n:=(pv:Int)-lo),aJ,show(b:Int)-1-(pv-lo)=((b-1-(pv-lo):Nat):Int) by omega]
    exact b15 limit _ 1 d2 w zK (by omega) (Go.Sort.permIn_trans _ _ _ _ _ hP hP2) s
   |false=>
    exact b15 limit pv hint d1 w zK hp hP s
  cases wb with
  |false=>
   refine agz s hn (by omega) h3 λd1 w hP s=>?_
   rw[aJ]
   exact b10 (limit-1) d1 w (by omega) hP s
  |true=>
   exact b10 limit d w zK (Go.Sort.permIn_refl _ _ _) s
def al4 (hn:n<2000){lo b:Nat}{limit:Int}{Q:World->Prop}(h2:lo<=b)(h3:b<=n)(h4:Below cJ lo b d)(h5:0<=limit/\limit<1000)(s:Sep F W w (cV a n c d::L))
  (h:∀d' w',agA lo b d d'->Sep F W w' (cV a n c d'::L)->Q w'):e9 a n c lo b limit iz w Q:=by
 apply rf
 exact⟨b-lo+1,aom hn (b-lo) lo b limit true true d w Q (b-lo+1) (Nat.le_refl _) (by omega) h2 h3 h4 h5 s h⟩
def acd {Q:World->Prop}{xs:List bh}(s:Sep F W w (aj a n c 294 3 (flat fL xs)::L))(hn:n<2000)(h:∀w',Sep F W w' (aj a n c 294 3 (flat fL (Yt xs))::L)->Q w'):
  kE a n c iz w Q:=by
 have s:=s
 have hsz:=fX s
 apply z9
 rw[jV (by omega)]
 refine Pj (by omega) λv hv _ _=>?_
 refine al4 hn (Nat.zero_le _) (Nat.le_refl _) (.inl rfl) (by omega) s λd' w hS s=>h w ?_
 have:=Go.Sort.sorted_unique_holds EA (λx y h k=>asb h k) xs.toArray d' (by rw[hsz];exact hS.1) (by rw[hsz];exact hS.2)
 unfold Yt
 grind
def aeS {Q:Option Addr->Nat->Nat->World->Prop}{xs:List bh}(s:Sep F W w (aj a n c 294 3 (flat fL xs)::L))(hn:n<1000000)(hnd:xs.Nodup)(h:∀w',Sep F W w' (aj a n c 294 3 (flat fL xs)::L)->Q a n c w'):
  kP a n c w Q:=by
 have s:Sep F W w (cV a n c xs.toArray::L):=s
 have hsz:=fX s
 have hl:xs.length=n:=by grind
 apply Aq
 by_cases h2:n<2
 ·grind
 ·rw[bD]
  have loop:∀(k i:Nat) (w:World),i+k=n->0<i->Sep F W w (cV a n c xs.toArray::L)->fe Q (k+1) a n c i w:=by
   intro k
   induction k with
   |zero=>
    intro i w hi h0 s
    show gx Q (fe Q 0) _ _ _ _ _
    unfold gx
    grind
   |succ k ih=>
    intro i w hi h0 s
    show gx Q (fe Q (k+1)) _ _ _ _ _
    rw[gx,bY,aJ]
    apply RdS (ay s) rfl (by omega)
    apply RdS (k:=i-1) (ay s) (by omega) (by omega)
    have hne:xs.toArray[i]!≠xs.toArray[i-1]!:=λe=>by
     have e1:=VT (d:=xs.toArray) (k:=i) (by omega)
     have e2:=VT (d:=xs.toArray) (k:=i-1) (by omega)
     rw[e,<-e2]at e1
     have e1:=e1
     have:=(List.getElem?_inj (by omega) hnd).1 e1
     omega
    apply al3
    rw[bD hne,aJ]
    exact ih (i+1) _ (by omega) (by omega) (ay s)
  exact⟨n-1+1,loop (n-1) 1 w (by omega) (by omega) s⟩
def al5 {xs:List bh}(h:xs.Nodup):(Yt xs).Nodup:=(List.mergeSort_perm xs _).nodup_iff.2 h
def zL {Q:Option Addr->Nat->Nat->World->Prop}{xs:List bh}(s0:Sep F W w L)(hX:Sl w a n c 3 fL xs)(hn:n<2000)(hnd:xs.Nodup)(h:∀ra rc w',Sep F W w' (aj ra n rc 294 3 (flat fL (Mb xs))::L)->Fr No w w'->Q ra n rc w'):
  j8 a n c w Q:=by
 apply X9
 refine UN (bt (F:=No)) hX (by omega) λra rc w1 s _=>?_
 refine acd s hn λw1 s=>?_
 refine aeS s (by omega) (al5 hnd) λw1 s=>?_
 exact h ra rc w1 (dY s0 s (i:=0) rfl) (au s)
def Yx {Q:Bool->World->Prop}{xs ys:List bh}{b:Option Addr}{m e:Nat}(hX:Sl w a n c 3 fL xs)(hY:Sl w b m e 3 fL ys)(s0:Sep F W w L)(hn:n<1000000)(hm:m<1000000)(h:∀w',Sep F W w' L->Fr No w w'->Q (decide (xs=ys)) w'):
  DS a n c b m e w Q:=by
 apply Yg
 apply Bw
 have h1:=hX.len
 have h2:=hY.len
 have fin:∀(r:Bool) (w':World),r=decide (xs=ys)->Sep No w w' []->Q r w':=λr w' e s=>by
  subst e
  exact h w' (b9 s0 (au s)) (au s)
 by_cases hl:n=m
 ·subst hl
  have loop:∀(k i:Nat) (w1:World),i+k=n->xs.take i=ys.take i->Sep No w w1 []->fK Q (k+1) a n c b n e n i w1:=by
   intro k
   induction k with
   |zero=>
    intro i w1 hi he s
    show gV Q (fK Q 0) _ _ _ _ _ _ _ _ _
    unfold gV
    grind
   |succ k ih=>
    intro i w1 hi he s
    show gV Q (fK Q (k+1)) _ _ _ _ _ _ _ _ _
    rw[gV,bY]
    have s:=ay s
    refine(hX.fr (au s)).El rfl (by omega) λp x hx hc=>?_
    refine aP (hc 0 _ rfl) (aP (hc 1 _ rfl) (aP (hc 2 _ rfl) ?_))
    refine(hY.fr (au s)).El rfl (by omega) λp y hy hc=>?_
    refine aP (hc 0 _ rfl) (aP (hc 1 _ rfl) (aP (hc 2 _ rfl) ?_))
    apply asj
    by_cases hxy:x=y
    ·rw[decide_eq_true hxy,Bool.not_true,cond_false,aJ]
     refine ih (i+1) _ (by omega) ?_ s
     rw[List.take_add_one,List.take_add_one,hx,hy,he,hxy]
    grind
  rw[bne_self_eq_false,cond_false]
  exact⟨n+1,loop n 0 w (by omega) (by simp) bt⟩
 ·rw[show((n:Int) !=(m:Int))=true by grind,cond_true]
  refine fin false _ ?_ bt
  grind
end
end Go.Proofs.YtmegplnmiepfbaaGreatDoor.S
