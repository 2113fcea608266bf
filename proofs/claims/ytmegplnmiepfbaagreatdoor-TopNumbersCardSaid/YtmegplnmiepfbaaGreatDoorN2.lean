/- Part 3 of the proof. -/
import Derived.Test.YtmegplnmiepfbaaGreatDoorN1
import Derived.Sort.LotA
import Derived.Sort.LotB
import Derived.Sort.LotC
import Derived.Sort.LotD3
set_option linter.unusedVariables false
set_option linter.unusedSimpArgs false
set_option linter.defProp false
set_option maxRecDepth 100000
namespace Go.Proofs.YtmegplnmiepfbaaGreatDoor.S
open Go.Sx
noncomputable def XT:cv:=[(6,sp 0 10 (.op 10 (.op 11 (.op 12 .done))))]
def VI:=λa b c w Q=>bB (BS a b c w Q) (wV a w λd e w=>dZ d e c w λf w=>vD a b f w λg i j l m n o w=>Al T 213 w λp w=>St (p.add 0) (.slice g i j) w λw=>St (p.add 1) (.slice l m n) w λw=>BE o λq=>cond (!q) (dV o λr=>Q 0 0 r w) (nh d e c w λs w=>aA p w.drew λt u v=>aK s u<|wA t λx=>af .i64 (x.add (s.toNat*1)) w.drew λy=>aA (p.add 1) w.drew λz a1 b1=>aK s a1<|wA z λc1=>af .i64 (c1.add (s.toNat*1)) w.drew λd1=>w.drew.cell? (c1.add (s.toNat*1))=some (ae d1)/\w.drew.cell? (p.add 1)=some (.slice z a1 b1)/\Q y d1 (.nilIface) w.drew)) (ok 45) XT [] Tryz.func129
def Qk:=λa w Q=>bB (yP a w Q) (BE a λb=>cond b (Q 0 w) (bY (aZ 2) w λc=>o_ a c w λd w=>cond d (Q 4 w) (bY (aZ 3) w λe=>o_ a e w λf w=>cond f (Q 7 w) (Q 1 w)))) (ok 14) [] [] Tryz.func130
def VJ:=λa b c w Q=>bB (BR a b c w Q) (BS a b c w λd e f w=>yP f w λg w=>Q d e g w) (ok 22) [] [] Tryz.func92
def MK:=λa b c d w Q=>bB (wj a b c d w Q) (wA a λe=>bg (e.add 1) w λf=>BR f c d w λg i j w=>cond (j==0) (wA b λl=>St (l.add 1) (ae g) w λw=>wA b λm=>St (m.add 2) (ae i) w λw=>gm j w λn w=>dV n λo=>Q o w) (gm j w λp w=>dV p λq=>Q q w)) (ok 35) [] [] Tryz.func57
def qJ (Q:L3 WP)(R5:OA->L3 (L3 (Int->Int->WP)))(a b:OA)(c d:Nat)(e:OA)(f g:Nat)(i j:Int)(w:World):Prop:=cond (decide (j<i)) (aK j f<|wA e λl=>af .i64 (l.add (j.toNat*1)) w λm=>wA a λn=>cq (n.add 2) w λo=>aL P (Instr.lookup 169 (.map o) (ae m) false) w λp w=>dL p λq=>dK q λr s=>dI .i64 r λt=>dK s λu v=>dI .i64 u λx=>dK v λy z=>dI .i64 y λa1=>kL z<|Bx [ae t,ae x,ae a1] 43 w λb1 w=>App P #[39,39] 39 (.slice b c d) (.slice (some b1) 1 1) w λc1 d1 e1 w=>R5 a c1 d1 e1 e f g i (IntKind.wrap .i64 (j+1)) w) (Q b c d w)
def vO (Q:L3 WP):Nat->OA->L3 (L3 (Int->Int->WP))
 |0,_,_,_,_,_,_,_,_,_,_=>False
 |k+1,a,b,c,d,e,f,g,i,j,w=>qJ Q (vO Q k) a b c d e f g i j w
def Ut (Q):∀k,Bk 26 Tryz.f64 (G9 Q) 5 [(0,.p),(3,.l),(9,.l),(10,.i .i64),(11,.i .i64)] (vO Q k):=bM λk h=>aT (ok 26) [] [aM h]
def Ql:=λa w Q=>bB (yJ a w Q) (cond a.isNone (Q none 0 0 w) (qt a w λb c d w=>∃k',vO Q k' a none 0 0 b c d (c:Int) 0 w)) (ok 26) [] [cu (Ut Q)] Tryz.func64
def Dm:=λa w Q=>bB (mX a w Q) (cond a.isNone (Q none 0 0 w) (wA a λb=>bg (b.add 3) w λc=>yJ c w λd e f w=>Q d e f w)) (ok 10) [] [] Tryz.func33
def Cc (Q:Bool->WP)(R6:Int->Int->Int->ON->L3 (Int->Int->WP))(a b c:Int)(d:ON)(e:OA)(f g:Nat)(i j:Int)(w:World):Prop:=cond (decide (j<i)) (aK j f<|wA e λl=>af .i64 ((l.add (j.toNat*3)).add 0) w λm=>af .i64 ((l.add (j.toNat*3)).add 1) w λn=>af .i64 ((l.add (j.toNat*3)).add 2) w λo=>Al T 43 w λp w=>St (p.add 0) (ae m) w λw=>St (p.add 1) (ae n) w λw=>St (p.add 2) (ae o) w λw=>af .i64 p w λq=>cond (decide (q<=c)) (Q false w) (af .i64 (p.add 1) w λr=>dZ a b r w λs w=>cond (decide (s<0)) (Q false w) (af .i64 (p.add 2) w λt=>dZ a b t w λu w=>cond (decide (u<0)) (Q false w) (af .i64 (p.add 1) w λv=>aL P (Instr.lookup 258 (.map d) (ae v) false) w λx w=>dB x λy=>cond y (Q false w) (af .i64 (p.add 1) w.drew λz=>af .i64 p w.drew λa1=>w.drew.cell? (p.add 1)=some (ae z)/\bC P (Instr.mapUpdate 258 (.map d) (ae z) (.bool true)) w.drew λw=>R6 a b a1 d e f g i (IntKind.wrap .i64 (j+1)) w))))) (Q true w)
def Gm (Q:Bool->WP):Nat->Int->Int->Int->ON->L3 (Int->Int->WP)
 |0,_,_,_,_,_,_,_,_,_,_=>False
 |k+1,a,b,c,d,e,f,g,i,j,w=>Cc Q (Gm Q k) a b c d e f g i j w
noncomputable def Tg:cv:=[(10,sp 0 5 (.op 5 (.op 6 .done)))]
def ahO (Q):∀k,Bk 56 Tryz.f151 (U9 Q) 6 [(0,.i .i64),(1,.i .i64),(7,.i .i64),(8,.m),(18,.l),(19,.i .i64),(20,.i .i64)] (Gm Q k):=bM λk h=>aT (ok 56) Tg [aM h]
def adw:=λa b c d e w Q=>bB (CI a b c d e w Q) (lH a b w λf w=>cond (!f) (Q false w) (cw P 258 (some (ae (d:Int))) w λg w=>∃k',Gm Q k' a b (-1) g c d e (d:Int) 0 w)) (ok 56) Tg [cu (ahO Q)] Tryz.func151
def zl (Q:L3 WP)(R4:L3 (ON->L3 (Int->Int->WP)))(a:OA)(b c:Nat)(d:ON)(e:OA)(f g:Nat)(i j:Int)(w:World):Prop:=cond (decide (j<i)) (aK j f<|wA e λl=>af .i64 ((l.add (j.toNat*3)).add 0) w λm=>af .i64 ((l.add (j.toNat*3)).add 1) w λn=>af .i64 ((l.add (j.toNat*3)).add 2) w λo=>Al T 43 w λp w=>St (p.add 0) (ae m) w λw=>St (p.add 1) (ae n) w λw=>St (p.add 2) (ae o) w λw=>af .i64 (p.add 2) w λq=>aL P (Instr.lookup 258 (.map d) (ae q) false) w λr w=>dB r λs=>cond (!s) (af .i64 (p.add 2) w λt=>bC P (Instr.mapUpdate 258 (.map d) (ae t) (.bool true)) w λw=>af .i64 (p.add 2) w λu=>Bx [ae u] 3 w λv w=>App P #[29,29] 29 (.slice a b c) (.slice (some v) 1 1) w λx y z w=>R4 x y z d e f g i (IntKind.wrap .i64 (j+1)) w) (R4 a b c d e f g i (IntKind.wrap .i64 (j+1)) w)) (Q a b c w)
def C1 (Q:L3 WP):Nat->L3 (ON->L3 (Int->Int->WP))
 |0,_,_,_,_,_,_,_,_,_,_=>False
 |k+1,a,b,c,d,e,f,g,i,j,w=>zl Q (C1 Q k) a b c d e f g i j w
def adx (Q):∀k,Bk 29 Tryz.f152 (Pp Q) 4 [(3,.l),(4,.m),(8,.l),(9,.i .i64),(10,.i .i64)] (C1 Q k):=bM λk h=>aT (ok 29) [] [aM h]
def Zy:=λa b c w Q=>bB (ER a b c w Q) (cw P 258 none w λd w=>∃k',C1 Q k' none 0 0 d a b c (b:Int) 0 w) (ok 29) [] [cu (adx Q)] Tryz.func152
def pK (P6:Int->Int->L3 (ON->ON->L3 (Int->Int->WP)))(Q:L3 WP)(a b:Int)(c:OA)(d e:Nat)(f g:ON)(i:Addr)(j:Int)(l:OA)(m n:Nat)(o p:Int)(w:World):Prop:=af .i64 (i.add 2) w λq=>aL P (Instr.lookup 252 (.map f) (ae q) false) w λr w=>dS r λs t u=>aK j t<|wA s λv=>aA ((v.add (j.toNat*3)).add 2) w.drew λx y z=>af .i64 i w.drew λa1=>Bx [ae a1] 3 w.drew λb1 w=>w.cell? ((v.add (j.toNat*3)).add 2)=some (.slice x y z)/\App P #[29,29] 29 (.slice x y z) (.slice (some b1) 1 1) w λc1 d1 e1 w=>St ((v.add (j.toNat*3)).add 2) (.slice c1 d1 e1) w λw=>P6 a b c d e f g l m n o (IntKind.wrap .i64 (p+1)) w
def xp (Q:L3 WP)(R20:ON->L3 (L3 (Int->Int->WP)))(a:ON)(b:OA)(c d:Nat)(e:OA)(f g:Nat)(i j:Int)(w:World):Prop:=cond (decide (j<i)) (aK j f<|wA e λl=>af .i64 (l.add (j.toNat*1)) w λm=>aL P (Instr.lookup 252 (.map a) (ae m) false) w λn w=>dS n λo p q=>App P #[208,208] 208 (.slice b c d) (.slice o p q) w λr s t w=>R20 a r s t e f g i (IntKind.wrap .i64 (j+1)) w) (Q b c d w)
def Bi (Q:L3 WP):Nat->ON->L3 (L3 (Int->Int->WP))
 |0,_,_,_,_,_,_,_,_,_,_=>False
 |k+1,a,b,c,d,e,f,g,i,j,w=>xp Q (Bi Q k) a b c d e f g i j w
def zm (Q:L3 WP)(R6:Int->Int->L3 (ON->ON->L3 (Int->Int->WP)))(a b:Int)(c:OA)(d e:Nat)(f g:ON)(i:OA)(j l:Nat)(m n:Int)(w:World):Prop:=cond (decide (n<m)) (aK n j<|wA i λo=>af .i64 ((o.add (n.toNat*3)).add 0) w λp=>af .i64 ((o.add (n.toNat*3)).add 1) w λq=>af .i64 ((o.add (n.toNat*3)).add 2) w λr=>Al T 43 w λs w=>St (s.add 0) (ae p) w λw=>St (s.add 1) (ae q) w λw=>St (s.add 2) (ae r) w λw=>af .i64 (s.add 1) w λt=>dZ a b t w λu w=>af .i64 (s.add 2) w λv=>Al T 253 w λx w=>St (x.add 0) (ae v) w λw=>St (x.add 1) (ae u) w λw=>af .i64 (x.add 0) w λy=>af .i64 (x.add 1) w λz=>aL P (Instr.lookup 180 (.map g) (.agg #[ae y,ae z]) true) w λa1 w=>dT a1 λb1=>dK b1 λc1 d1=>dI .i64 c1 λe1=>dK d1 λf1 g1=>dB f1 λi1=>kL g1<|cond (!i1) (af .i64 (s.add 2) w λj1=>aL P (Instr.lookup 252 (.map f) (ae j1) false) w λl1 w=>dS l1 λm1 n1 o1=>af .i64 (x.add 0) w λp1=>af .i64 (x.add 1) w λq1=>bC P (Instr.mapUpdate 180 (.map g) (.agg #[ae p1,ae q1]) (ae (n1:Int))) w λw=>af .i64 (s.add 2) w.drew λr1=>af .i64 (s.add 2) w.drew λs1=>af .i64 (s.add 2) w.drew λt1=>(aL P (Instr.lookup 252 (.map f) (ae s1) false) w.drew λu1 w=>dS u1 λv1 x1 y1=>w.cell? (s.add 2)=some (ae t1)/\w.cell? (s.add 2)=some (ae r1)/\Bx [ae t1,ae u,.slice none 0 0] 211 w λz1 w=>w.cell? (s.add 2)=some (ae s1)/\w.cell? (s.add 2)=some (ae r1)/\App P #[208,208] 208 (.slice v1 x1 y1) (.slice (some z1) 1 1) w λa2 b2 c2 w=>w.cell? (s.add 2)=some (ae r1)/\bC P (Instr.mapUpdate 252 (.map f) (ae r1) (.slice a2 b2 c2)) w λw=>pK R6 Q a b c d e f g s (n1:Int) i j l m n w)/\(Bx [ae t1,ae u,.slice none 0 0] 211 w.drew λd2 w=>w.cell? (s.add 2)=some (ae s1)/\w.cell? (s.add 2)=some (ae r1)/\aL P (Instr.lookup 252 (.map f) (ae s1) false) w λe2 w=>dS e2 λf2 g2 i2=>w.cell? (s.add 2)=some (ae t1)/\w.cell? (s.add 2)=some (ae r1)/\App P #[208,208] 208 (.slice f2 g2 i2) (.slice (some d2) 1 1) w λj2 l2 m2 w=>w.cell? (s.add 2)=some (ae r1)/\bC P (Instr.mapUpdate 252 (.map f) (ae r1) (.slice j2 l2 m2)) w λw=>pK R6 Q a b c d e f g s (n1:Int) i j l m n w)) (pK R6 Q a b c d e f g s e1 i j l m n w)) (ER c d e w λn2 o2 p2 w=>∃k',Bi Q k' f none 0 0 n2 o2 p2 (o2:Int) 0 w)
def zn (Q:L3 WP):Nat->Int->Int->L3 (ON->ON->L3 (Int->Int->WP))
 |0,_,_,_,_,_,_,_,_,_,_,_,_,_=>False
 |k+1,a,b,c,d,e,f,g,i,j,l,m,n,w=>zm Q (zn Q k) a b c d e f g i j l m n w
noncomputable def Bj:cv:=[(14,sp 0 6 (sp 7 4 (.br (.op 6 (.op 11 (.op 12 (.op 13 .done)))) (.op 11 (.op 6 (.op 12 (.op 13 .done))))))),(16,sp 0 7 (.op 7 (.op 8 (sp 9 2 (.op 11 .done)))))]
def abj {P6}(Q)(H6:Bk 102 Tryz.f133 (yQ Q) 6 [(0,.i .i64),(1,.i .i64),(2,.l),(7,.m),(8,.m),(26,.l),(27,.i .i64),(28,.i .i64)] P6):Bk 102 Tryz.f133 (yQ Q) 15 [(0,.i .i64),(1,.i .i64),(2,.l),(7,.m),(8,.m),(10,.a),(13,.i .i64),(26,.l),(27,.i .i64),(28,.i .i64)] (pK P6 Q):=aT (ok 102) Bj [aM H6]
def abk (Q):∀k,Bk 102 Tryz.f133 (yQ Q) 20 [(7,.m),(16,.l),(89,.l),(90,.i .i64),(91,.i .i64)] (Bi Q k):=bM λk h=>aT (ok 102) Bj [aM h]
def ady (Q):∀k,Bk 102 Tryz.f133 (yQ Q) 6 [(0,.i .i64),(1,.i .i64),(2,.l),(7,.m),(8,.m),(26,.l),(27,.i .i64),(28,.i .i64)] (zn Q k):=bM λk h=>aT (ok 102) Bj [aM (abj Q h),cu (abk Q)]
def Zz:=λa b c d e w Q=>bB (EO a b c d e w Q) (CI a b c d e w λf w=>cond (!f) (Q none 0 0 w) (cw P 252 none w λg w=>cw P 180 none w λi w=>∃k',zn Q k' a b c d e g i c d e (d:Int) 0 w)) (ok 102) Bj [cu (ady Q)] Tryz.func133
noncomputable def VK:cv:=[(2,sp 0 2 (.op 2 (.op 3 (.op 4 .done))))]
def Uu:=λa b c w Q=>bB (vC a b c w Q) (Al T 213 w λd w=>vD a b c w λe f g i j l m w=>Al T 213 w λn w=>St (n.add 0) (.slice e f g) w λw=>St (n.add 1) (.slice i j l) w λw=>aA (n.add 0) w.drew λo p q=>aA (n.add 1) w.drew λr s t=>yP m w.drew λu w=>w.cell? (n.add 0)=some (.slice o p q)/\w.cell? (n.add 1)=some (.slice r s t)/\St (d.add 0) (.slice o p q) w λw=>St (d.add 1) (.slice r s t) w λw=>aA (d.add 0) w λv x y=>aA (d.add 1) w λz a1 b1=>Q v x y z a1 b1 u w) (ok 20) VK [] Tryz.func134
def oD (uY:OA->L3 (ON->ON->L3 (Int->Int->WP)))(Q:L3 (Value->WP))(R16:OA->L3 (ON->ON->Addr->L3 (Int->Int->L3 (Int->Int->WP))))(a b:OA)(c d:Nat)(e f:ON)(g:Addr)(i:OA)(j l:Nat)(m n:Int)(o:OA)(p q:Nat)(r s:Int)(w:World):Prop:=cond (decide (s<r)) (aK s p<|wA o λt=>af .i64 (t.add (s.toNat*1)) w λu=>aA (g.add 1) w λv x y=>aL P (Instr.lookup 207 (.map e) (ae u) false) w λz w=>dI .i64 z λa1=>aK a1 x<|wA v λb1=>af .i64 (b1.add (a1.toNat*1)) w λc1=>bC P (Instr.mapUpdate 207 (.map f) (ae u) (ae c1)) w λw=>R16 a b c d e f g i j l m n o p q r (IntKind.wrap .i64 (s+1)) w) (uY a b c d e f i j l m (IntKind.wrap .i64 (n+1)) w)
def sB (uY:OA->L3 (ON->ON->L3 (Int->Int->WP)))(Q:L3 (Value->WP)):Nat->OA->L3 (ON->ON->Addr->L3 (Int->Int->L3 (Int->Int->WP)))
 |0,_,_,_,_,_,_,_,_,_,_,_,_,_,_,_,_,_,_=>False
 |k+1,a,b,c,d,e,f,g,i,j,l,m,n,o,p,q,r,s,w=>oD uY Q (sB uY Q k) a b c d e f g i j l m n o p q r s w
def oE (uY:OA->L3 (ON->ON->L3 (Int->Int->WP)))(Q:L3 (Value->WP))(a b:OA)(c d:Nat)(e f:ON)(g i:Addr)(j:Int)(l:OA)(m n:Nat)(o p:Int)(w:World):Prop:=cond (j !=0) (Q none 0 0 (.iface 108 (ae j)) w) (aA (g.add 2) w λq r s=>∃k',sB uY Q k' a b c d e f i l m n o p q r s (r:Int) 0 w)
def oF (Q:L3 (Value->WP))(R23:ON->L3 (L3 (Int->Int->WP)))(a:ON)(b:OA)(c d:Nat)(e:OA)(f g:Nat)(i j:Int)(w:World):Prop:=cond (decide (j<i)) (aK j f<|wA e λl=>af .i64 ((l.add (j.toNat*3)).add 0) w λm=>af .i64 ((l.add (j.toNat*3)).add 1) w λn=>af .i64 ((l.add (j.toNat*3)).add 2) w λo=>Al T 43 w λp w=>St (p.add 0) (ae m) w λw=>St (p.add 1) (ae n) w λw=>St (p.add 2) (ae o) w λw=>af .i64 p w λq=>aL P (Instr.lookup 207 (.map a) (ae q) false) w λr w=>dI .i64 r λs=>Bx [ae s] 3 w λt w=>App P #[29,29] 29 (.slice b c d) (.slice (some t) 1 1) w λu v x w=>R23 a u v x e f g i (IntKind.wrap .i64 (j+1)) w) (Q b c d (.nilIface) w)
def sC (Q:L3 (Value->WP)):Nat->ON->L3 (L3 (Int->Int->WP))
 |0,_,_,_,_,_,_,_,_,_,_=>False
 |k+1,a,b,c,d,e,f,g,i,j,w=>oF Q (sC Q k) a b c d e f g i j w
def oG (Q:L3 (Value->WP))(R10:OA->L3 (ON->ON->L3 (Int->Int->WP)))(a b:OA)(c d:Nat)(e f:ON)(g:OA)(i j:Nat)(l m:Int)(w:World):Prop:=cond (decide (m<l)) (aK m i<|wA g λn=>af .i64 ((n.add (m.toNat*3)).add 0) w λo=>af .i64 ((n.add (m.toNat*3)).add 1) w λp=>aA ((n.add (m.toNat*3)).add 2) w λq r s=>Al T 211 w λt w=>St (t.add 0) (ae o) w λw=>St (t.add 1) (ae p) w λw=>St (t.add 2) (.slice q r s) w λw=>wA a λu=>bg (u.add 1) w.drew λv=>af .i64 t w.drew λx=>af .i64 (t.add 1) w.drew λy=>(vC v x y w.drew λz a1 b1 c1 d1 e1 f1 w=>Al T 213 w λg1 w=>w.cell? (t.add 1)=some (ae y)/\w.cell? t=some (ae x)/\w.cell? (u.add 1)=some (.pointer v)/\St (g1.add 0) (.slice z a1 b1) w λw=>St (g1.add 1) (.slice c1 d1 e1) w λw=>oE R10 Q a b c d e f t g1 f1 g i j l m w)/\(Al T 213 w.drew λi1 w=>w.cell? (t.add 1)=some (ae y)/\w.cell? t=some (ae x)/\w.cell? (u.add 1)=some (.pointer v)/\vC v x y w λj1 l1 m1 n1 o1 p1 q1 w=>St (i1.add 0) (.slice j1 l1 m1) w λw=>St (i1.add 1) (.slice n1 o1 p1) w λw=>oE R10 Q a b c d e f t i1 q1 g i j l m w)) (∃k',sC Q k' f none 0 0 b c d (c:Int) 0 w)
def oH (Q:L3 (Value->WP)):Nat->OA->L3 (ON->ON->L3 (Int->Int->WP))
 |0,_,_,_,_,_,_,_,_,_,_,_,_=>False
 |k+1,a,b,c,d,e,f,g,i,j,l,m,w=>oG Q (oH Q k) a b c d e f g i j l m w
def pL (Q:L3 (Value->WP))(R4:OA->L3 (Int->Int->ON->L3 (Int->Int->WP)))(a b:OA)(c d:Nat)(e f:Int)(g:ON)(i:OA)(j l:Nat)(m n:Int)(w:World):Prop:=cond (decide (n<m)) (aK n j<|wA i λo=>af .i64 ((o.add (n.toNat*3)).add 0) w λp=>af .i64 ((o.add (n.toNat*3)).add 1) w λq=>af .i64 ((o.add (n.toNat*3)).add 2) w λr=>Al T 43 w λs w=>St (s.add 0) (ae p) w λw=>St (s.add 1) (ae q) w λw=>St (s.add 2) (ae r) w λw=>af .i64 s w.drew λt=>af .i64 (s.add 1) w.drew λu=>nh e f u w.drew λv w=>w.cell? s=some (ae t)/\bC P (Instr.mapUpdate 207 (.map g) (ae t) (ae v)) w λw=>R4 a b c d e f g i j l m (IntKind.wrap .i64 (n+1)) w) (cw P 207 none w λx w=>EO e f b c d w λy z a1 w=>∃k',oH Q k' a b c d g x y z a1 (z:Int) 0 w)
def uy (Q:L3 (Value->WP)):Nat->OA->L3 (Int->Int->ON->L3 (Int->Int->WP))
 |0,_,_,_,_,_,_,_,_,_,_,_,_,_=>False
 |k+1,a,b,c,d,e,f,g,i,j,l,m,n,w=>pL Q (uy Q k) a b c d e f g i j l m n w
noncomputable def lY:cv:=[(6,sp 0 7 (.op 7 (.op 8 .done))),(12,sp 0 8 (.br (.op 8 (sp 9 3 (.op 12 (.op 13 (.op 14 .done))))) (.op 12 (.op 8 (sp 9 3 (.op 13 (.op 14 .done)))))))]
def Qm {uY}(Q)(H10:Bk 104 Tryz.f93 (jh Q) 10 [(0,.p),(1,.l),(8,.m),(11,.m),(49,.l),(50,.i .i64),(51,.i .i64)] uY):∀k,Bk 104 Tryz.f93 (jh Q) 16 [(0,.p),(1,.l),(8,.m),(11,.m),(14,.a),(49,.l),(50,.i .i64),(51,.i .i64),(72,.l),(73,.i .i64),(74,.i .i64)] (sB uY Q k):=bM λk h=>aT (ok 104) lY [aM H10,aM h]
def Qn {uY}(Q)(H10:Bk 104 Tryz.f93 (jh Q) 10 [(0,.p),(1,.l),(8,.m),(11,.m),(49,.l),(50,.i .i64),(51,.i .i64)] uY):Bk 104 Tryz.f93 (jh Q) 13 [(0,.p),(1,.l),(8,.m),(11,.m),(13,.a),(14,.a),(15,.i .i64),(49,.l),(50,.i .i64),(51,.i .i64)] (oE uY Q):=aT (ok 104) lY [cu (Qm Q H10)]
def Qo (Q):∀k,Bk 104 Tryz.f93 (jh Q) 23 [(11,.m),(18,.l),(89,.l),(90,.i .i64),(91,.i .i64)] (sC Q k):=bM λk h=>aT (ok 104) lY [aM h]
def Qp (Q):∀k,Bk 104 Tryz.f93 (jh Q) 10 [(0,.p),(1,.l),(8,.m),(11,.m),(49,.l),(50,.i .i64),(51,.i .i64)] (oH Q k):=bM λk h=>aT (ok 104) lY [aM (Qn Q h),cu (Qo Q)]
def Sg (Q):∀k,Bk 104 Tryz.f93 (jh Q) 4 [(0,.p),(1,.l),(6,.i .i64),(7,.i .i64),(8,.m),(30,.l),(31,.i .i64),(32,.i .i64)] (uy Q k):=bM λk h=>aT (ok 104) lY [aM h,cu (Qp Q)]
def Oy:=λa b c d w Q=>bB (xM a b c d w Q) (wA a λe=>bg (e.add 1) w λf=>wV f w λg i w=>cw P 207 none w λj w=>∃k',uy Q k' a b c d g i j b c d (c:Int) 0 w) (ok 104) lY [cu (Sg Q)] Tryz.func93
def ZA:=λa w Q=>bB (K7 a w Q) (cond (decide (a<0)) (Q true w) (Q (decide (a>5)) w)) (ok 9) [] [] Tryz.func153
def jQ (Q:Int->WP)(R2:L3 (Value->Int->Int->WP))(a:OA)(b c:Nat)(d:Value)(e f:Int)(w:World):Prop:=cond (decide (f<e)) (aK f b<|wA a λg=>af .i64 (g.add (f.toNat*1)) w λi=>iv (cx 19) d [ae i] w λj w=>dB j λl=>cond l (Q f w) (R2 a b c d e (IntKind.wrap .i64 (f+1)) w)) (Q (-1) w)
def jR (Q:Int->WP):Nat->L3 (Value->Int->Int->WP)
 |0,_,_,_,_,_,_,_=>False
 |k+1,a,b,c,d,e,f,w=>jQ Q (jR Q k) a b c d e f w
def HR (Q):∀k,Bk 19 Tryz.f166 (yT Q) 2 [(0,.l),(1,.v),(7,.i .i64),(8,.i .i64)] (jR Q k):=bM λk h=>aT (ok 19) [] [aM h]
def Gn:=λa b c d w Q=>bB (wY a b c d w Q) (∃k',jR Q k' a b c d (b:Int) 0 w) (ok 19) [] [cu (HR Q)] Tryz.func166
def D6:=λa b c d w Q=>bB (nJ a b c d w Q) (wY a b c d w λe w=>Q (decide (e≥0)) w) (ok 9) [] [] Tryz.func154
def kG (Q:Bool->WP)(a b:OA)(c:Int)(w:World):Prop:=wA a λd=>af .i64 d w.drew λe=>wA a λf=>af .i64 (f.add 1) w.drew λg=>wA b λi=>af .i64 (i.add 1) w.drew λj=>n6 e g j c w.drew λl w=>cond (decide (l<0)) (Q true w) (wA a λm=>cq (m.add 2) w λn=>aL P (Instr.lookup 258 (.map n) (ae l) false) w λo w=>dB o λp=>cond p (Q true w) (wA a λq=>cq (q.add 2) w.drew λr=>wA b λs=>af .i64 (s.add 1) w.drew λt=>aL P (Builtin.delete_ #[258,3] 0 [.map r,ae t].toArray) w.drew λu w=>wA b λv=>St (v.add 1) (ae l) w λw=>wA a λx=>aA (x.add 3) w.drew λy z a1=>wA b λb1=>af .i64 b1 w.drew λc1=>Bx [ae c1,ae l] 51 w.drew λd1 w=>w.cell? (x.add 3)=some (.slice y z a1)/\App P #[28,28] 28 (.slice y z a1) (.slice (some d1) 1 1) w λe1 f1 g1 w=>wA a λi1=>St (i1.add 3) (.slice e1 f1 g1) w λw=>wA b λj1=>af .i64 (j1.add 2) w λl1=>cond (l==l1) (wA a λm1=>aA (m1.add 4) w.drew λn1 o1 p1=>wA b λq1=>af .i64 q1 w.drew λr1=>Bx [ae r1] 3 w.drew λs1 w=>w.cell? (m1.add 4)=some (.slice n1 o1 p1)/\App P #[29,29] 29 (.slice n1 o1 p1) (.slice (some s1) 1 1) w λt1 u1 v1 w=>wA a λx1=>St (x1.add 4) (.slice t1 u1 v1) w λw=>Q false w) (wA a λy1=>cq (y1.add 2) w λz1=>bC P (Instr.mapUpdate 258 (.map z1) (ae l) (.bool true)) w λw=>Q true w)))
noncomputable def FA:cv:=[(6,sp 0 13 (.op 13 (.op 14 .done))),(9,sp 0 8 (.op 8 .done)),(11,sp 0 11 (.op 11 (.op 12 (sp 13 2 (.op 15 .done))))),(13,sp 0 9 (.op 9 (.op 10 (sp 11 2 (.op 13 .done)))))]
def Si (Q):Bk 92 Tryz.f155 (Ge Q) 6 [(0,.p),(1,.p),(2,.i .i64)] (kG Q):=aT (ok 92) FA []
def Oz:=λa b c w Q=>bB (xQ a b c w Q) (cond (c==0) (kG Q a b c w) (cond (c==1) (kG Q a b c w) (cond (c==2) (kG Q a b c w) (cond (c==3) (kG Q a b c w) (Q true w))))) (ok 92) FA [aM (Si Q)] Tryz.func155
def AM (Q:L3 (L3 (L3 (Int->WP))))(R11:L3 (L3 (Addr->L3 (Int->Int->WP))))(a:OA)(b c:Nat)(d:OA)(e f:Nat)(g:Addr)(i:OA)(j l:Nat)(m n:Int)(w:World):Prop:=cond (decide (n<m)) (aK n j<|wA i λo=>af .i64 ((o.add (n.toNat*3)).add 0) w λp=>af .i64 ((o.add (n.toNat*3)).add 1) w λq=>af .i64 ((o.add (n.toNat*3)).add 2) w λr=>Al T 43 w λs w=>St (s.add 0) (ae p) w λw=>St (s.add 1) (ae q) w λw=>St (s.add 2) (ae r) w λw=>aK n b<|wA a λt=>af .i64 (t.add (n.toNat*1)) w λu=>xQ (some g) (some s) u w λv w=>cond v (af .i64 (s.add 0) w λx=>af .i64 (s.add 1) w λy=>af .i64 (s.add 2) w λz=>Bx [ae x,ae y,ae z] 43 w λa1 w=>App P #[39,39] 39 (.slice d e f) (.slice (some a1) 1 1) w λb1 c1 d1 w=>R11 a b c b1 c1 d1 g i j l m (IntKind.wrap .i64 (n+1)) w) (R11 a b c d e f g i j l m (IntKind.wrap .i64 (n+1)) w)) (aA (g.add 3) w.drew λe1 f1 g1=>aA (g.add 4) w.drew λi1 j1 l1=>w.drew.cell? (g.add 4)=some (.slice i1 j1 l1)/\w.drew.cell? (g.add 3)=some (.slice e1 f1 g1)/\w.drew.cell? (g.add 4)=some (.slice i1 j1 l1)/\Q d e f e1 f1 g1 i1 j1 l1 0 w.drew)
def Eu (Q:L3 (L3 (L3 (Int->WP)))):Nat->L3 (L3 (Addr->L3 (Int->Int->WP)))
 |0,_,_,_,_,_,_,_,_,_,_,_,_,_=>False
 |k+1,a,b,c,d,e,f,g,i,j,l,m,n,w=>AM Q (Eu Q k) a b c d e f g i j l m n w
def Cd (Q:L3 (L3 (L3 (Int->WP))))(R6:L3 (L3 (L3 (Addr->L3 (Int->Int->WP)))))(a:OA)(b c:Nat)(d:OA)(e f:Nat)(g:OA)(i j:Nat)(l:Addr)(m:OA)(n o:Nat)(p q:Int)(w:World):Prop:=cond (decide (q<p)) (aK q n<|wA m λr=>af .i64 ((r.add (q.toNat*3)).add 0) w λs=>af .i64 ((r.add (q.toNat*3)).add 1) w λt=>af .i64 ((r.add (q.toNat*3)).add 2) w λu=>Al T 43 w λv w=>St (v.add 0) (ae s) w λw=>St (v.add 1) (ae t) w λw=>St (v.add 2) (ae u) w λw=>cq (l.add 2) w.drew λx=>af .i64 (v.add 1) w.drew λy=>bC P (Instr.mapUpdate 258 (.map x) (ae y) (.bool true)) w.drew λw=>R6 a b c d e f g i j l m n o p (IntKind.wrap .i64 (q+1)) w) (∃k',Eu Q k' d e f g i j l a b c (b:Int) 0 w)
def Gp (Q:L3 (L3 (L3 (Int->WP)))):Nat->L3 (L3 (L3 (Addr->L3 (Int->Int->WP))))
 |0,_,_,_,_,_,_,_,_,_,_,_,_,_,_,_,_=>False
 |k+1,a,b,c,d,e,f,g,i,j,l,m,n,o,p,q,w=>Cd Q (Gp Q k) a b c d e f g i j l m n o p q w
noncomputable def JI:cv:=[(8,sp 0 6 (.op 6 .done)),(16,sp 0 9 (.op 9 (.op 10 (.op 11 (.op 12 .done)))))]
def age (Q):∀k,Bk 82 Tryz.f135 (K6 Q) 11 [(3,.l),(8,.l),(13,.a),(55,.l),(56,.i .i64),(57,.i .i64)] (Eu Q k):=bM λk h=>aT (ok 82) JI [aM h]
def ahP (Q):∀k,Bk 82 Tryz.f135 (K6 Q) 6 [(2,.l),(3,.l),(8,.l),(13,.a),(42,.l),(43,.i .i64),(44,.i .i64)] (Gp Q k):=bM λk h=>aT (ok 82) JI [aM h,cu (age Q)]
def adz:=λa b c d e f g i w Q=>bB (HF a b c d e f g i w Q) (CI a b c d e w λj w=>cond (!j) (Q none 0 0 none 0 0 none 0 0 1 w) (cond ((g:Int) !=(d:Int)) (Q none 0 0 none 0 0 none 0 0 1 w) (nJ f g i (.func (.func 153) #[] #[]) w λl w=>cond l (Q none 0 0 none 0 0 none 0 0 1 w) (cw P 258 (some (ae (d:Int))) w λm w=>Bx [ae a,ae b,.map m,.slice none 0 0,.slice none 0 0] 260 w λn w=>∃k',Gp Q k' c d e f g i none 0 0 n c d e (d:Int) 0 w)))) (ok 82) JI [cu (ahP Q)] Tryz.func135
def ML:=λa b c w Q=>bB (wq a b c w Q) (lV a b w λd w=>cond (d==(-1)) (Q false w) (rm a c w λe w=>cond (!e) (Q false w) (rj a b w λf w=>r8 a c f w λg w=>Q g w))) (ok 23) [] [] Tryz.func136
def Lt:=λa b w Q=>bB (BT a b w Q) (wA b λc=>af .i64 c w λd=>wA a λe=>St (e.add 1) (ae d) w λw=>Q w) (ok 7) [] [] Tryz.func156
def OB:=λa b c w Q=>bB (xP a b c w Q) (Bx [ae c] 3 w λd w=>r9 a b (.func (.func 156) #[] #[.pointer (some d)]) w λe w=>Q e w) (ok 11) [] [] Tryz.func137
def lZ (P7:OA->L3 (L3 (L3 (Int->Int->WP))))(Q:L3 (L3 (Int->WP)))(a b:OA)(c d:Nat)(e:OA)(f g:Nat)(i j:Addr)(l:OA)(m n:Nat)(o p:Int)(w:World):Prop:=af .i64 (i.add 1) w λq=>af .i64 (j.add 2) w λr=>cond (q==r) (af .i64 (j.add 0) w λs=>af .i64 (j.add 1) w λt=>af .i64 (j.add 2) w λu=>nI a s t u w λw=>P7 a b c d e f g l m n o (IntKind.wrap .i64 (p+1)) w) (wA a λv=>bg (v.add 4) w.drew λx=>af .i64 (j.add 1) w.drew λy=>af .i64 (i.add 1) w.drew λz=>wq x y z w.drew λa1 w=>wA a λb1=>bg (b1.add 3) w.drew λc1=>af .i64 i w.drew λd1=>af .i64 (i.add 1) w.drew λe1=>xP c1 d1 e1 w.drew λf1 w=>P7 a b c d e f g l m n o (IntKind.wrap .i64 (p+1)) w)
def pM (Q:L3 (L3 (Int->WP)))(R7:OA->L3 (L3 (L3 (Int->Int->WP))))(a b:OA)(c d:Nat)(e:OA)(f g:Nat)(i:OA)(j l:Nat)(m n:Int)(w:World):Prop:=cond (decide (n<m)) (aK n j<|wA i λo=>af .i64 ((o.add (n.toNat*2)).add 0) w λp=>af .i64 ((o.add (n.toNat*2)).add 1) w λq=>Al T 51 w λr w=>St (r.add 0) (ae p) w λw=>St (r.add 1) (ae q) w λw=>wA a λs=>bg (s.add 3) w.drew λt=>af .i64 r w.drew λu=>(iR t u w.drew λv x y z w=>Al T 43 w λa1 w=>w.cell? r=some (ae u)/\w.cell? (s.add 3)=some (.pointer t)/\St (a1.add 0) (ae v) w λw=>St (a1.add 1) (ae x) w λw=>St (a1.add 2) (ae y) w λw=>lZ R7 Q a b c d e f g r a1 i j l m n w)/\(Al T 43 w.drew λb1 w=>w.cell? r=some (ae u)/\w.cell? (s.add 3)=some (.pointer t)/\iR t u w λc1 d1 e1 f1 w=>St (b1.add 0) (ae c1) w λw=>St (b1.add 1) (ae d1) w λw=>St (b1.add 2) (ae e1) w λw=>lZ R7 Q a b c d e f g r b1 i j l m n w)) (Q b c d e f g 0 w)
def pN (Q:L3 (L3 (Int->WP))):Nat->OA->L3 (L3 (L3 (Int->Int->WP)))
 |0,_,_,_,_,_,_,_,_,_,_,_,_,_=>False
 |k+1,a,b,c,d,e,f,g,i,j,l,m,n,w=>pM Q (pN Q k) a b c d e f g i j l m n w
noncomputable def zo:cv:=[(3,sp 0 9 (.op 10 (.op 9 (.op 11 (sp 12 5 (.op 17 (.op 18 (.op 19 .done)))))))),(9,sp 0 6 (.br (.op 6 (sp 7 3 (.op 10 (.op 11 (.op 12 .done))))) (.op 10 (.op 6 (sp 7 3 (.op 11 (.op 12 .done))))))),(12,sp 0 8 (.op 8 .done)),(13,sp 0 8 (.op 8 .done))]
def Qq {P7}(Q)(H7:Bk 78 Tryz.f94 (tT Q) 7 [(0,.p),(4,.l),(5,.l),(33,.l),(34,.i .i64),(35,.i .i64)] P7):Bk 78 Tryz.f94 (tT Q) 10 [(0,.p),(4,.l),(5,.l),(8,.a),(9,.a),(33,.l),(34,.i .i64),(35,.i .i64)] (lZ P7 Q):=aT (ok 78) zo [aM H7]
def Sj (Q):∀k,Bk 78 Tryz.f94 (tT Q) 7 [(0,.p),(4,.l),(5,.l),(33,.l),(34,.i .i64),(35,.i .i64)] (pN Q k):=bM λk h=>aT (ok 78) zo [aM (Qq Q h)]
def OC:=λa b c d w Q=>bB (xN a b c d w Q) (cond a.isNone (Q none 0 0 none 0 0 1 w) (wA a λe=>af .i64 e w.drew λf=>wA a λg=>af .i64 (g.add 1) w.drew λi=>mX a w.drew λj l m w=>w.cell? (g.add 1)=some (ae i)/\w.cell? e=some (ae f)/\HF f i j l m b c d w λn o p q r s t u v x w=>cond (x !=0) (Q none 0 0 none 0 0 x w) (∃k',pN Q k' a q r s t u v q r s (r:Int) 0 w))) (ok 78) zo [cu (Sj Q)] Tryz.func94
def OD:=λa b w Q=>bB (xL a b w Q) (wA a λc=>bg (c.add 2) w λd=>mX d w λe f g w=>xM a e f g w λi j l m w=>BE m λn=>cond (!n) (dV m λo=>Q o w) (wA a λp=>bg (p.add 2) w λq=>xN q i j l w λr s t u v x y w=>wA b λz=>St (z.add 4) (.slice r s t) w λw=>wA b λa1=>St (a1.add 5) (.slice u v x) w λw=>gm y w λb1 w=>dV b1 λc1=>Q c1 w)) (ok 43) [] [] Tryz.func58
def fB (Q:Value->WP)(a:Value)(w:World):Prop:=dV a λb=>Q b w
def oI (Q:Value->WP)(a b:OA)(c:Addr)(w:World):Prop:=af .i64 (c.add 0) w λd=>af .i64 (c.add 1) w λe=>af .i64 (c.add 2) w λf=>aA (c.add 3) w λg i j=>we a d e f g i j w λl w=>BE l λm=>cond (!m) (dV l λn=>Q n w) (af .i64 c w λo=>cond (o==1) (aA (c.add 3) w λp q r=>xJ a p q r w λs w=>fB Q s w) (cond (o==8) (wA a λt=>bg (t.add 1) w λu=>vA u w λw=>fB Q l w) (cond (o==2) (af .i64 (c.add 1) w λv=>af .i64 (c.add 2) w λx=>xK a v x w λy w=>fB Q y w) (cond (o==3) (af .i64 (c.add 1) w λz=>af .i64 (c.add 2) w λa1=>wg a z a1 w λb1 c1 w=>wA b λd1=>St (d1.add 3) (ae b1) w λw=>fB Q c1 w) (cond (o==4) (wA a λe1=>bg (e1.add 2) w.drew λf1=>af .i64 (c.add 1) w.drew λg1=>af .i64 (c.add 2) w.drew λi1=>sQ f1 g1 i1 w.drew λj1 w=>gm j1 w λl1 w=>fB Q l1 w) (cond (o==5) (wA a λm1=>bg (m1.add 2) w.drew λn1=>af .i64 (c.add 1) w.drew λo1=>tQ n1 o1 w.drew λp1 w=>gm p1 w λq1 w=>fB Q q1 w) (cond (o==6) (af .i64 (c.add 1) w λr1=>af .i64 (c.add 2) w λs1=>wj a b r1 s1 w λt1 w=>fB Q t1 w) (cond (o==7) (xL a b w λu1 w=>fB Q u1 w) (fB Q l w)))))))))
noncomputable def A6:cv:=[(18,sp 0 8 (.op 8 (.op 9 (.op 10 .done)))),(20,sp 0 6 (.op 6 (.op 7 (.op 8 .done))))]
def Uv (Q):Bk 114 Tryz.f28 (BO Q) 25 [(6,.v)] (fB Q):=aT (ok 114) A6 []
def VL (Q):Bk 114 Tryz.f28 (BO Q) 5 [(0,.p),(2,.p),(4,.a)] (oI Q):=aT (ok 114) A6 [aM (Uv Q)]
def Sk:=λa b c d e f g i w Q=>bB (zS a b c d e f g i w Q) (Bx [ae b,ae c,ae d,.slice e f g] 38 w λj w=>af .i64 j w λl=>cond (l==0) (bY (aZ 0) w λm=>dV m λn=>Q n w) (af .i64 (j.add 0) w λo=>af .i64 (j.add 1) w λp=>af .i64 (j.add 2) w λq=>aA (j.add 3) w λr s t=>K3 o p q r s t w λu w=>cond (!u) (bY (aZ 0) w λv=>dV v λx=>Q x w) (wA a λy=>bg (y.add 2) w λz=>cond z.isNone (af .i64 j w λa1=>cond (a1 !=1) (af .i64 j w λb1=>cond (b1 !=8) (Q (.iface 108 (ae 4)) w) (oI Q a i j w)) (oI Q a i j w)) (oI Q a i j w)))) (ok 114) A6 [aM (VL Q)] Tryz.func28
def adA:=λa w Q=>bB (CH a w Q) (Al T 108 w λb w=>bY (aZ 0) w λc=>o_ a c w λd w=>cond d (Q 5 w) (nv a (.iface 120 (.pointer (some b))) w λe w=>cond e (af .i64 b w λf=>Q f w) (Q 0 w))) (ok 13) [] [] Tryz.func29
def oJ (Q:Int->Int->Int->Int->L3 (L3 (Int->Int->Int->Int->Int->Int->WP)))(a:OA)(b c:Addr)(w:World):Prop:=qk a w λd e f g i j w=>St ((c.add 6).add 0) (.int .u64 d) w λw=>St ((c.add 6).add 1) (.int .u64 e) w λw=>St ((c.add 6).add 2) (.int .u64 f) w λw=>St ((c.add 6).add 3) (.int .u64 g) w λw=>St ((c.add 6).add 4) (.int .u64 i) w λw=>St ((c.add 6).add 5) (.int .u64 j) w λw=>af .i64 (c.add 0) w λl=>af .i64 (c.add 1) w λm=>af .i64 (c.add 2) w λn=>af .i64 (c.add 3) w λo=>aA (c.add 4) w λp q r=>aA (c.add 5) w λs t u=>af .u64 (c.add 6) w λv=>af .u64 (c.add 7) w λx=>af .u64 (c.add 8) w λy=>af .u64 (c.add 9) w λz=>af .u64 (c.add 10) w λa1=>af .u64 (c.add 11) w λb1=>St (b.add 0) (ae l) w λw=>St (b.add 1) (ae m) w λw=>St (b.add 2) (ae n) w λw=>St (b.add 3) (ae o) w λw=>St (b.add 4) (.slice p q r) w λw=>St (b.add 5) (.slice s t u) w λw=>St (b.add 6) (.int .u64 v) w λw=>St (b.add 7) (.int .u64 x) w λw=>St (b.add 8) (.int .u64 y) w λw=>St (b.add 9) (.int .u64 z) w λw=>St (b.add 10) (.int .u64 a1) w λw=>St (b.add 11) (.int .u64 b1) w λw=>af .i64 (b.add 0) w λc1=>af .i64 (b.add 1) w λd1=>af .i64 (b.add 2) w λe1=>af .i64 (b.add 3) w λf1=>aA (b.add 4) w λg1 i1 j1=>aA (b.add 5) w λl1 m1 n1=>af .u64 (b.add 6) w λo1=>af .u64 (b.add 7) w λp1=>af .u64 (b.add 8) w λq1=>af .u64 (b.add 9) w λr1=>af .u64 (b.add 10) w λs1=>af .u64 (b.add 11) w λt1=>Q c1 d1 e1 f1 g1 i1 j1 l1 m1 n1 o1 p1 q1 r1 s1 t1 w
def VM (Q):Bk 29 Tryz.f12 (IQ Q) 8 [(0,.p),(4,.a),(5,.a)] (oJ Q):=aT (ok 29) [] []
def Sm:=λa b c d e f g w Q=>bB (jg a b c d e f g w Q) (Bx [ae b,ae c,ae d,.slice e f g] 38 w λi w=>Al T 34 w λj w=>Al T 34 w λl w=>St (l.add 0) (ae 5) w λw=>St (l.add 1) (ae 0) w λw=>St (l.add 2) (ae 5) w λw=>St (l.add 3) (ae (-1)) w λw=>St (l.add 4) (.slice none 0 0) w λw=>St (l.add 5) (.slice none 0 0) w λw=>St (l.add 6) (.int .u64 0) w λw=>St (l.add 7) (.int .u64 0) w λw=>St (l.add 8) (.int .u64 0) w λw=>St (l.add 9) (.int .u64 0) w λw=>St (l.add 10) (.int .u64 0) w λw=>St (l.add 11) (.int .u64 0) w λw=>cond a.isNone (af .i64 (l.add 0) w λm=>af .i64 (l.add 1) w λn=>af .i64 (l.add 2) w λo=>af .i64 (l.add 3) w λp=>aA (l.add 4) w λq r s=>aA (l.add 5) w λt u v=>af .u64 (l.add 6) w λx=>af .u64 (l.add 7) w λy=>af .u64 (l.add 8) w λz=>af .u64 (l.add 9) w λa1=>af .u64 (l.add 10) w λb1=>af .u64 (l.add 11) w λc1=>St (j.add 0) (ae m) w λw=>St (j.add 1) (ae n) w λw=>St (j.add 2) (ae o) w λw=>St (j.add 3) (ae p) w λw=>St (j.add 4) (.slice q r s) w λw=>St (j.add 5) (.slice t u v) w λw=>St (j.add 6) (.int .u64 x) w λw=>St (j.add 7) (.int .u64 y) w λw=>St (j.add 8) (.int .u64 z) w λw=>St (j.add 9) (.int .u64 a1) w λw=>St (j.add 10) (.int .u64 b1) w λw=>St (j.add 11) (.int .u64 c1) w λw=>af .i64 (j.add 0) w λd1=>af .i64 (j.add 1) w λe1=>af .i64 (j.add 2) w λf1=>af .i64 (j.add 3) w λg1=>aA (j.add 4) w λi1 j1 l1=>aA (j.add 5) w λm1 n1 o1=>af .u64 (j.add 6) w λp1=>af .u64 (j.add 7) w λq1=>af .u64 (j.add 8) w λr1=>af .u64 (j.add 9) w λs1=>af .u64 (j.add 10) w λt1=>af .u64 (j.add 11) w λu1=>Q d1 e1 f1 g1 i1 j1 l1 m1 n1 o1 p1 q1 r1 s1 t1 u1 w) (St l (ae 0) w λw=>af .i64 (i.add 0) w λv1=>af .i64 (i.add 1) w λx1=>af .i64 (i.add 2) w λy1=>aA (i.add 3) w λz1 a2 b2=>zS a v1 x1 y1 z1 a2 b2 (some l) w λc2 w=>BE c2 λd2=>cond (!d2) (af .i64 i w λe2=>dV c2 λf2=>Bx [ae e2,f2] 80 w λg2 w=>CH (.iface 78 (.pointer (some g2))) w λi2 w=>St l (ae i2) w λw=>oJ Q a j l w) (oJ Q a j l w))) (ok 29) [] [aM (VM Q)] Tryz.func12
def Qr:=λa b c w Q=>bB (lU a b c w Q) (cond (decide (a≥b)) (Q (decide (a<=c)) w) (Q false w)) (ok 15) [] [] Tryz.func101
def D7:=λa b w Q=>bB (ri a b w Q) (lU a 1 1024 w λc w=>cond c (lU b 1 1024 w λd w=>Q d w) (Q false w)) (ok 11) [] [] Tryz.func65
def AN:=λa b w Q=>bB (kM a b w Q) (ri a b w λc w=>cond (!c) (Q 0 0 w) (NZ 16<|NZ 16<|Q (IntKind.wrap .i64 (Int.tdiv (IntKind.wrap .i64 ((IntKind.wrap .i64 (a+16))-1)) 16)) (IntKind.wrap .i64 (Int.tdiv (IntKind.wrap .i64 ((IntKind.wrap .i64 (b+16))-1)) 16)) w)) (ok 18) [] [] Tryz.func44
def Ce:=λa b w Q=>bB (jI a b w Q) (kM a b w λc d w=>Q (IntKind.wrap .i64 (c*d)) w) (ok 16) [] [] Tryz.func23
def sD (P3:L3 (L3 (Int->WP)))(Q:L3 WP)(a:OA)(b c:Nat)(d:OA)(e f:Nat)(g i:Int)(w:World):Prop:=aK g b<|wA a λj=>af .u8 (j.add (g.toNat*1)) w λl=>Bx [.int .u8 (IntKind.wrap .u8 (IntKind.wrap .i64 (i-1))),.int .u8 l] 5 w λm w=>App P #[22,22] 22 (.slice d e f) (.slice (some m) 2 2) w λn o p w=>P3 a b c n o p (IntKind.wrap .i64 (g+i)) w
def oK (P3:L3 (L3 (Int->WP)))(Q:L3 WP)(R5:L3 (L3 (Int->Int->WP)))(a:OA)(b c:Nat)(d:OA)(e f:Nat)(g i:Int)(w:World):Prop:=cond (decide ((IntKind.wrap .i64 (g+i))<(b:Int))) (aK (IntKind.wrap .i64 (g+i)) b<|wA a λj=>af .u8 (j.add (((IntKind.wrap .i64 (g+i))).toNat*1)) w.drew λl=>aK g b<|wA a λm=>af .u8 (m.add (g.toNat*1)) w.drew λn=>cond (l==n) (R5 a b c d e f g (IntKind.wrap .i64 (i+1)) w.drew) (sD P3 Q a b c d e f g i w.drew)) (sD P3 Q a b c d e f g i w.drew)
def l6 (P3:L3 (L3 (Int->WP)))(Q:L3 WP):Nat->L3 (L3 (Int->Int->WP))
 |0,_,_,_,_,_,_,_,_,_=>False
 |k+1,a,b,c,d,e,f,g,i,w=>oK P3 Q (l6 P3 Q k) a b c d e f g i w
def oL (Q:L3 WP)(R3:L3 (L3 (Int->WP)))(a:OA)(b c:Nat)(d:OA)(e f:Nat)(g:Int)(w:World):Prop:=cond (decide (g<(b:Int))) (∃k',l6 R3 Q k' a b c d e f g 1 w) (Q d e f w)
def oM (Q:L3 WP):Nat->L3 (L3 (Int->WP))
 |0,_,_,_,_,_,_,_,_=>False
 |k+1,a,b,c,d,e,f,g,w=>oL Q (oM Q k) a b c d e f g w
noncomputable def ry:cv:=[(5,sp 0 19 .done)]
def Qs {P3}(Q)(H3:Bk 46 Tryz.f61 (lT Q) 3 [(0,.l),(3,.l),(4,.i .i64)] P3):Bk 46 Tryz.f61 (lT Q) 7 [(0,.l),(3,.l),(4,.i .i64),(5,.i .i64)] (sD P3 Q):=aT (ok 46) ry [aM H3]
def Qt {P3}(Q)(H3:Bk 46 Tryz.f61 (lT Q) 3 [(0,.l),(3,.l),(4,.i .i64)] P3):∀k,Bk 46 Tryz.f61 (lT Q) 5 [(0,.l),(3,.l),(4,.i .i64),(5,.i .i64)] (l6 P3 Q k):=bM λk h=>aT (ok 46) ry [aM h,aM (Qs Q H3)]
def Qu (Q):∀k,Bk 46 Tryz.f61 (lT Q) 3 [(0,.l),(3,.l),(4,.i .i64)] (oM Q k):=bM λk h=>aT (ok 46) ry [cu (Qt Q h)]
def MM:=λa b c w Q=>bB (wk a b c w Q) (Bx [.int .u8 2] 5 w λd w=>∃k',oM Q k' a b c (some d) 1 1 0 w) (ok 46) ry [cu (Qu Q)] Tryz.func61
noncomputable def Kl:cv:=[(3,sp 0 4 (.br (.op 4 (.op 5 (.op 6 .done))) (.op 5 (.op 4 (.op 6 .done)))))]
def JJ:=λa b c d e w Q=>bB (sP a b c d e w Q) (Bx [ae a,ae b,.slice c d e] 84 w λf w=>aA (f.add 2) w λg i j=>wk g i j w λl m n w=>cond ((m:Int)==3) (aA (f.add 2) w.drew λo p q=>aK 0 p<|wA o λr=>af .u8 (r.add (((0:Int).toNat)*1)) w.drew λs=>(Bx [.int .u8 0,.int .u8 s] 5 w.drew λt w=>w.cell? (r.add (((0:Int).toNat)*1))=some (.int .u8 s)/\w.cell? (f.add 2)=some (.slice o p q)/\Q 0 (some t) 2 2 w)/\(w.drew.cell? (r.add (((0:Int).toNat)*1))=some (.int .u8 s)/\w.drew.cell? (f.add 2)=some (.slice o p q)/\Bx [.int .u8 0,.int .u8 s] 5 w.drew λu w=>Q 0 (some u) 2 2 w)) (aA (f.add 2) w λv x y=>cond (decide ((m:Int)<(IntKind.wrap .i64 (1+(x:Int))))) (Q 2 l m n w) (Bx [.int .u8 1] 5 w λz w=>aA (f.add 2) w λa1 b1 c1=>App P #[22,22] 22 (.slice (some z) 1 1) (.slice a1 b1 c1) w λd1 e1 f1 w=>Q 1 d1 e1 f1 w))) (ok 28) Kl [] Tryz.func30
noncomputable def OE:cv:=[(4,sp 0 14 (.op 14 (.op 15 .done)))]
def MN:=λa b c w Q=>bB (qo a b c w Q) (jI a b w λd w=>lU c 0 (IntKind.wrap .i64 (d-1)) w λe w=>cond (!e) (Q 0 0 w) (kM a b w λf g w=>NZ f<|NZ f<|Q (Dt 16 (IntKind.wrap .i64 (a-(IntKind.wrap .i64 (16*(Int.tmod c f)))))) (Dt 16 (IntKind.wrap .i64 (b-(IntKind.wrap .i64 (16*(IntKind.wrap .i64 (Int.tdiv c f))))))) w.drew)) (ok 37) OE [] Tryz.func62
noncomputable def Lu:cv:=[(5,sp 0 19 (.op 19 .done))]
def Km:=λa b c d w Q=>bB (tR a b c d w Q) (qo a b c w λe f w=>lU d 0 (IntKind.wrap .i64 ((IntKind.wrap .i64 (e*f))-1)) w λg w=>cond (!g) (Q (-1) w) (kM a b w λi j w=>NZ i<|NZ e<|NZ i<|NZ e<|Q (IntKind.wrap .i64 ((IntKind.wrap .i64 ((IntKind.wrap .i64 ((IntKind.wrap .i64 ((IntKind.wrap .i64 (16*(IntKind.wrap .i64 (Int.tdiv c i))))+(IntKind.wrap .i64 (Int.tdiv d e))))*a))+(IntKind.wrap .i64 (16*(Int.tmod c i)))))+(Int.tmod d e))) w.drew)) (ok 52) Lu [] Tryz.func63
def m7 (Q:Int->Int->L3 WP)(R4:Int->Addr->Addr->Int->Int->Addr->Int->WP)(a:Int)(b c:Addr)(d e:Int)(f:Addr)(g:Int)(w:World):Prop:=cond (decide (g<(IntKind.wrap .i64 (d*e)))) (aA (f.add 2) w.drew λi j l=>aA (b.add 2) w.drew λm n o=>af .i64 b w.drew λp=>af .i64 (b.add 1) w.drew λq=>tR p q a g w.drew λr w=>w.cell? (b.add 2)=some (.slice m n o)/\w.cell? (f.add 2)=some (.slice i j l)/\(aK r n<|wA m λs=>af .u8 (s.add (r.toNat*1)) w λt=>Bx [.int .u8 t] 5 w λu w=>w.cell? (f.add 2)=some (.slice i j l)/\App P #[22,22] 22 (.slice i j l) (.slice (some u) 1 1) w λv x y w=>St (f.add 2) (.slice v x y) w λw=>R4 a b c d e f (IntKind.wrap .i64 (g+1)) w)) (af .i64 (f.add 0) w λz=>af .i64 (f.add 1) w λa1=>aA (f.add 2) w λb1 c1 d1=>St (c.add 0) (ae z) w λw=>St (c.add 1) (ae a1) w λw=>St (c.add 2) (.slice b1 c1 d1) w λw=>af .i64 (c.add 0) w λe1=>af .i64 (c.add 1) w λf1=>aA (c.add 2) w λg1 i1 j1=>Q e1 f1 g1 i1 j1 w)
def ko (Q:Int->Int->L3 WP):Nat->Int->Addr->Addr->Int->Int->Addr->Int->WP
 |0,_,_,_,_,_,_,_,_=>False
 |k+1,a,b,c,d,e,f,g,w=>m7 Q (ko Q k) a b c d e f g w
noncomputable def Cf:cv:=[(6,sp 0 10 (.op 10 (sp 11 2 (.op 13 (.op 14 (.op 15 (.op 16 .done)))))))]
def MO (Q):∀k,Bk 45 Tryz.f31 (Dd Q) 4 [(1,.i .i64),(2,.a),(4,.a),(5,.i .i64),(6,.i .i64),(7,.a),(8,.i .i64)] (ko Q k):=bM λk h=>aT (ok 45) Cf [aM h]
def Kn:=λa b c d e f w Q=>bB (tO a b c d e f w Q) (Bx [ae a,ae b,.slice c d e] 25 w λg w=>Al T 84 w λi w=>af .i64 g w λj=>af .i64 (g.add 1) w λl=>qo j l f w λm n w=>Al T 84 w λo w=>St (o.add 0) (ae m) w λw=>St (o.add 1) (ae n) w λw=>St (o.add 2) (.slice none 0 0) w λw=>∃k',ko Q k' f g i m n o 0 w) (ok 45) Cf [cu (MO Q)] Tryz.func31
def wE (Q:L3 WP)(R3:Addr->L3 (Int->WP))(a:Addr)(b:OA)(c d:Nat)(e:Int)(w:World):Prop:=af .i64 a w λf=>af .i64 (a.add 1) w λg=>jI f g w λi w=>cond (decide (e<i)) (af .i64 (a.add 0) w λj=>af .i64 (a.add 1) w λl=>aA (a.add 2) w λm n o=>tO j l m n o e w λp q r s t w=>sP p q r s t w λu v x y w=>App P #[22,22] 22 (.slice b c d) (.slice v x y) w λz a1 b1 w=>R3 a z a1 b1 (IntKind.wrap .i64 (e+1)) w) (Q b c d w)
def ku (Q:L3 WP):Nat->Addr->L3 (Int->WP)
 |0,_,_,_,_,_,_=>False
 |k+1,a,b,c,d,e,w=>wE Q (ku Q k) a b c d e w
def MP (Q):∀k,Bk 42 Tryz.f13 (Dc Q) 3 [(1,.a),(3,.l),(4,.i .i64)] (ku Q k):=bM λk h=>aT (ok 42) [] [aM h]
def Ko:=λa b c d e w Q=>bB (lG a b c d e w Q) (Bx [ae a,ae b,.slice c d e] 25 w λf w=>af .i64 f w λg=>af .i64 f w λi=>DT 8<|af .i64 (f.add 1) w λj=>af .i64 (f.add 1) w λl=>DT 8<|Bx [.int .u8 (IntKind.wrap .u8 g),.int .u8 (IntKind.wrap .u8 (o6 .i64 i 8)),.int .u8 (IntKind.wrap .u8 j),.int .u8 (IntKind.wrap .u8 (o6 .i64 l 8))] 5 w λm w=>∃k',ku Q k' f (some m) 4 4 0 w) (ok 42) [] [cu (MP Q)] Tryz.func13
def FB:=λa w Q=>bB (Fi a w Q) (cond a.isNone (Q none w) (wA a λb=>bg (b.add 2) w λc=>Q c w)) (ok 9) [] [] Tryz.func32
def Dn:=λa w Q=>bB (mW a w Q) (Fi a w λb w=>mX b w λc d e w=>Q c d e w) (ok 6) [] [] Tryz.func14
def m8 (Q:Bool->WP)(R4:L3 (L3 (Int->WP)))(a:OA)(b c:Nat)(d:OA)(e f:Nat)(g:Int)(w:World):Prop:=cond (decide (g<(b:Int))) (aK g b<|wA a λi=>af .i64 ((i.add (g.toNat*2)).add 0) w.drew λj=>af .i64 ((i.add (g.toNat*2)).add 1) w.drew λl=>aK g e<|wA d λm=>af .i64 ((m.add (g.toNat*2)).add 0) w.drew λn=>af .i64 ((m.add (g.toNat*2)).add 1) w.drew λo=>bT P .neq 51 (.tmp 20) (.tmp 24) (.agg #[ae j,ae l]) (.agg #[ae n,ae o]) w.drew λp w=>cond p (Q false w) (R4 a b c d e f (IntKind.wrap .i64 (g+1)) w)) (Q true w)
def kz (Q:Bool->WP):Nat->L3 (L3 (Int->WP))
 |0,_,_,_,_,_,_,_,_=>False
 |k+1,a,b,c,d,e,f,g,w=>m8 Q (kz Q k) a b c d e f g w
noncomputable def Cg:cv:=[(6,sp 0 8 (.op 8 .done))]
def MQ (Q):∀k,Bk 26 Tryz.f34 (De Q) 4 [(0,.l),(1,.l),(5,.i .i64)] (kz Q k):=bM λk h=>aT (ok 26) Cg [aM h]
def Kq:=λa b c d e f w Q=>bB (tP a b c d e f w Q) (cond ((b:Int) !=(e:Int)) (Q false w) (∃k',kz Q k' a b c d e f 0 w)) (ok 26) Cg [cu (MQ Q)] Tryz.func34
def MR:=λw Q=>bB (v_ w Q) (Ep 1 2 w λa w=>cond a.isNone (Q false w) (Bx [.int .u8 5,.int .u8 2,.int .u8 9] 5 w λb w=>Al T 25 w λc w=>St (c.add 0) (ae 3) w λw=>St (c.add 1) (ae 1) w λw=>St (c.add 2) (.slice (some b) 3 3) w λw=>af .i64 (c.add 0) w λd=>af .i64 (c.add 1) w λe=>aA (c.add 2) w λf g i=>lG d e f g i w λj l m w=>jg a 1 0 0 j l m w λn o p q r s t u v x y z a1 b1 c1 d1 w=>Al T 34 w λe1 w=>St (e1.add 0) (ae n) w λw=>St (e1.add 1) (ae o) w λw=>St (e1.add 2) (ae p) w λw=>St (e1.add 3) (ae q) w λw=>St (e1.add 4) (.slice r s t) w λw=>St (e1.add 5) (.slice u v x) w λw=>St (e1.add 6) (.int .u64 y) w λw=>St (e1.add 7) (.int .u64 z) w λw=>St (e1.add 8) (.int .u64 a1) w λw=>St (e1.add 9) (.int .u64 b1) w λw=>St (e1.add 10) (.int .u64 c1) w λw=>St (e1.add 11) (.int .u64 d1) w λw=>jg a 3 0 2 none 0 0 w λf1 g1 i1 j1 l1 m1 n1 o1 p1 q1 r1 s1 t1 u1 v1 x1 w=>Al T 34 w λy1 w=>St (y1.add 0) (ae f1) w λw=>St (y1.add 1) (ae g1) w λw=>St (y1.add 2) (ae i1) w λw=>St (y1.add 3) (ae j1) w λw=>St (y1.add 4) (.slice l1 m1 n1) w λw=>St (y1.add 5) (.slice o1 p1 q1) w λw=>St (y1.add 6) (.int .u64 r1) w λw=>St (y1.add 7) (.int .u64 s1) w λw=>St (y1.add 8) (.int .u64 t1) w λw=>St (y1.add 9) (.int .u64 u1) w λw=>St (y1.add 10) (.int .u64 v1) w λw=>St (y1.add 11) (.int .u64 x1) w λw=>jg a 6 2 0 none 0 0 w λz1 a2 b2 c2 d2 e2 f2 g2 i2 j2 l2 m2 n2 o2 p2 q2 w=>Al T 34 w λr2 w=>St (r2.add 0) (ae z1) w λw=>St (r2.add 1) (ae a2) w λw=>St (r2.add 2) (ae b2) w λw=>St (r2.add 3) (ae c2) w λw=>St (r2.add 4) (.slice d2 e2 f2) w λw=>St (r2.add 5) (.slice g2 i2 j2) w λw=>St (r2.add 6) (.int .u64 l2) w λw=>St (r2.add 7) (.int .u64 m2) w λw=>St (r2.add 8) (.int .u64 n2) w λw=>St (r2.add 9) (.int .u64 o2) w λw=>St (r2.add 10) (.int .u64 p2) w λw=>St (r2.add 11) (.int .u64 q2) w λw=>jg a 7 0 0 none 0 0 w λs2 t2 u2 v2 x2 y2 z2 a3 b3 c3 d3 e3 f3 g3 i3 j3 w=>Al T 34 w λl3 w=>St (l3.add 0) (ae s2) w λw=>St (l3.add 1) (ae t2) w λw=>St (l3.add 2) (ae u2) w λw=>St (l3.add 3) (ae v2) w λw=>St (l3.add 4) (.slice x2 y2 z2) w λw=>St (l3.add 5) (.slice a3 b3 c3) w λw=>St (l3.add 6) (.int .u64 d3) w λw=>St (l3.add 7) (.int .u64 e3) w λw=>St (l3.add 8) (.int .u64 f3) w λw=>St (l3.add 9) (.int .u64 g3) w λw=>St (l3.add 10) (.int .u64 i3) w λw=>St (l3.add 11) (.int .u64 j3) w λw=>af .i64 e1 w λm3=>cond (m3==0) (af .i64 (y1.add 3) w λn3=>cond (n3==0) (af .i64 (r2.add 1) w λo3=>cond (o3==11) (af .i64 (r2.add 2) w λp3=>cond (p3==1) (aA (l3.add 4) w λq3 r3 s3=>Bx [ae 0,ae 1] 51 w λt3 w=>tP q3 r3 s3 (some t3) 1 1 w λu3 w=>cond u3 (mW a w λv3 x3 y3 w=>Q ((x3:Int)==1) w) (Q false w)) (Q false w)) (Q false w)) (Q false w)) (Q false w))) (ok 57) [] [] Tryz.func15
def MS:=λa w Q=>bB (qm a w Q) (NZ 8<|cond ((Int.tmod a 8)==7) (Q 255 w) (cond (decide (a<160)) (NZ 4<|Q (IntKind.wrap .u8 (1+(Int.tmod a 4))) w) (Q a w))) (ok 12) [] [] Tryz.func36
def sE (P3:L3 (Addr->Addr->Int->WP))(Q:Int->Int->L3 WP)(a:OA)(b c:Nat)(d e:Addr)(f g:Int)(w:World):Prop:=aA (e.add 2) w.drew λi j l=>qm g w.drew λm w=>w.cell? (e.add 2)=some (.slice i j l)/\Bx [.int .u8 m] 5 w λn w=>w.cell? (e.add 2)=some (.slice i j l)/\App P #[22,22] 22 (.slice i j l) (.slice (some n) 1 1) w λo p q w=>St (e.add 2) (.slice o p q) w λw=>P3 a b c d e (IntKind.wrap .i64 (f+1)) w
def zp (Q:Int->Int->L3 WP)(R3:L3 (Addr->Addr->Int->WP))(a:OA)(b c:Nat)(d e:Addr)(f:Int)(w:World):Prop:=af .i64 e w λg=>af .i64 (e.add 1) w λi=>cond (decide (f<(IntKind.wrap .i64 (g*i)))) (cond (decide ((b:Int)>0)) (NZ (b:Int)<|NZ (b:Int)<|aK (Int.tmod (IntKind.wrap .i64 (f+(IntKind.wrap .i64 ((IntKind.wrap .i64 (Int.tdiv f (b:Int)))*5)))) (b:Int)) b<|wA a λj=>af .u8 (j.add (((Int.tmod (IntKind.wrap .i64 (f+(IntKind.wrap .i64 ((IntKind.wrap .i64 (Int.tdiv f (b:Int)))*5)))) (b:Int))).toNat*1)) w λl=>sE R3 Q a b c d e f l w) (sE R3 Q a b c d e f 1 w)) (af .i64 (e.add 0) w λm=>af .i64 (e.add 1) w λn=>aA (e.add 2) w λo p q=>St (d.add 0) (ae m) w λw=>St (d.add 1) (ae n) w λw=>St (d.add 2) (.slice o p q) w λw=>af .i64 (d.add 0) w λr=>af .i64 (d.add 1) w λs=>aA (d.add 2) w λt u v=>Q r s t u v w)
def jS (Q:Int->Int->L3 WP):Nat->L3 (Addr->Addr->Int->WP)
 |0,_,_,_,_,_,_,_=>False
 |k+1,a,b,c,d,e,f,w=>zp Q (jS Q k) a b c d e f w
noncomputable def xZ:cv:=[(9,sp 0 3 (.op 3 (.op 4 (.op 5 (.op 6 (.op 7 .done))))))]
def Qv {P3}(Q)(H3:Bk 48 Tryz.f35 (rY Q) 3 [(2,.l),(6,.a),(7,.a),(8,.i .i64)] P3):Bk 48 Tryz.f35 (rY Q) 9 [(2,.l),(6,.a),(7,.a),(8,.i .i64),(9,.i .u8)] (sE P3 Q):=aT (ok 48) xZ [aM H3]
def Qw (Q):∀k,Bk 48 Tryz.f35 (rY Q) 3 [(2,.l),(6,.a),(7,.a),(8,.i .i64)] (jS Q k):=bM λk h=>aT (ok 48) xZ [aM (Qv Q h)]
def MT:=λa b c d e w Q=>bB (ql a b c d e w Q) (Al T 25 w λf w=>aY a 1 40 w λg w=>aY b 1 40 w λi w=>Al T 25 w λj w=>St (j.add 0) (ae g) w λw=>St (j.add 1) (ae i) w λw=>St (j.add 2) (.slice none 0 0) w λw=>∃k',jS Q k' c d e f j 0 w) (ok 48) xZ [cu (Qw Q)] Tryz.func35
def iS (Q:Int->Int->Int->L3 WP)(a:Int)(b c d:Addr)(w:World):Prop:=af .i64 d w λe=>cond (e==1) (af .i64 (b.add 1) w.drew λf=>af .i64 (b.add 2) w.drew λg=>(Bx [.int .u8 2,.int .u8 0,.int .u8 1,.int .u8 0,.int .u8 1,.int .u8 (IntKind.wrap .u8 f),.int .u8 (IntKind.wrap .u8 g)] 5 w.drew λi w=>St (d.add 1) (ae 0) w λw=>w.cell? (b.add 2)=some (ae g)/\w.cell? (b.add 1)=some (ae f)/\St (d.add 2) (ae 0) w λw=>w.cell? (b.add 2)=some (ae g)/\w.cell? (b.add 1)=some (ae f)/\St (d.add 3) (.slice (some i) 7 7) w λw=>af .i64 (d.add 0) w λj=>af .i64 (d.add 1) w λl=>af .i64 (d.add 2) w λm=>aA (d.add 3) w λn o p=>St (c.add 0) (ae j) w λw=>St (c.add 1) (ae l) w λw=>St (c.add 2) (ae m) w λw=>St (c.add 3) (.slice n o p) w λw=>af .i64 (c.add 0) w λq=>af .i64 (c.add 1) w λr=>af .i64 (c.add 2) w λs=>aA (c.add 3) w λt u v=>Q q r s t u v w)/\(St (d.add 1) (ae 0) w.drew λw=>w.cell? (b.add 2)=some (ae g)/\w.cell? (b.add 1)=some (ae f)/\(Bx [.int .u8 2,.int .u8 0,.int .u8 1,.int .u8 0,.int .u8 1,.int .u8 (IntKind.wrap .u8 f),.int .u8 (IntKind.wrap .u8 g)] 5 w λx w=>St (d.add 2) (ae 0) w λw=>w.cell? (b.add 2)=some (ae g)/\w.cell? (b.add 1)=some (ae f)/\St (d.add 3) (.slice (some x) 7 7) w λw=>af .i64 (d.add 0) w λy=>af .i64 (d.add 1) w λz=>af .i64 (d.add 2) w λa1=>aA (d.add 3) w λb1 c1 d1=>St (c.add 0) (ae y) w λw=>St (c.add 1) (ae z) w λw=>St (c.add 2) (ae a1) w λw=>St (c.add 3) (.slice b1 c1 d1) w λw=>af .i64 (c.add 0) w λe1=>af .i64 (c.add 1) w λf1=>af .i64 (c.add 2) w λg1=>aA (c.add 3) w λi1 j1 l1=>Q e1 f1 g1 i1 j1 l1 w)/\(St (d.add 2) (ae 0) w λw=>w.cell? (b.add 2)=some (ae g)/\w.cell? (b.add 1)=some (ae f)/\Bx [.int .u8 2,.int .u8 0,.int .u8 1,.int .u8 0,.int .u8 1,.int .u8 (IntKind.wrap .u8 f),.int .u8 (IntKind.wrap .u8 g)] 5 w λm1 w=>St (d.add 3) (.slice (some m1) 7 7) w λw=>af .i64 (d.add 0) w λn1=>af .i64 (d.add 1) w λo1=>af .i64 (d.add 2) w λp1=>aA (d.add 3) w λq1 r1 s1=>St (c.add 0) (ae n1) w λw=>St (c.add 1) (ae o1) w λw=>St (c.add 2) (ae p1) w λw=>St (c.add 3) (.slice q1 r1 s1) w λw=>af .i64 (c.add 0) w λt1=>af .i64 (c.add 1) w λu1=>af .i64 (c.add 2) w λv1=>aA (c.add 3) w λx1 y1 z1=>Q t1 u1 v1 x1 y1 z1 w))) (cond (e==2) (af .i64 (b.add 1) w λa2=>aY a2 0 (IntKind.wrap .i64 (a-1)) w λb2 w=>St (d.add 1) (ae b2) w λw=>af .i64 (b.add 1) w λc2=>aY c2 0 1 w λd2 w=>St (d.add 2) (ae (IntKind.wrap .i64 (d2*255))) w λw=>af .i64 (d.add 0) w λe2=>af .i64 (d.add 1) w λf2=>af .i64 (d.add 2) w λg2=>aA (d.add 3) w λi2 j2 l2=>St (c.add 0) (ae e2) w λw=>St (c.add 1) (ae f2) w λw=>St (c.add 2) (ae g2) w λw=>St (c.add 3) (.slice i2 j2 l2) w λw=>af .i64 (c.add 0) w λm2=>af .i64 (c.add 1) w λn2=>af .i64 (c.add 2) w λo2=>aA (c.add 3) w λp2 q2 r2=>Q m2 n2 o2 p2 q2 r2 w) (cond (e==5) (St (d.add 2) (ae 0) w λw=>af .i64 (d.add 0) w λs2=>af .i64 (d.add 1) w λt2=>af .i64 (d.add 2) w λu2=>aA (d.add 3) w λv2 x2 y2=>St (c.add 0) (ae s2) w λw=>St (c.add 1) (ae t2) w λw=>St (c.add 2) (ae u2) w λw=>St (c.add 3) (.slice v2 x2 y2) w λw=>af .i64 (c.add 0) w λz2=>af .i64 (c.add 1) w λa3=>af .i64 (c.add 2) w λb3=>aA (c.add 3) w λc3 d3 e3=>Q z2 a3 b3 c3 d3 e3 w) (af .i64 (d.add 0) w λf3=>af .i64 (d.add 1) w λg3=>af .i64 (d.add 2) w λi3=>aA (d.add 3) w λj3 l3 m3=>St (c.add 0) (ae f3) w λw=>St (c.add 1) (ae g3) w λw=>St (c.add 2) (ae i3) w λw=>St (c.add 3) (.slice j3 l3 m3) w λw=>af .i64 (c.add 0) w λn3=>af .i64 (c.add 1) w λo3=>af .i64 (c.add 2) w λp3=>aA (c.add 3) w λq3 r3 s3=>Q n3 o3 p3 q3 r3 s3 w)))
noncomputable def D8:cv:=[(1,sp 0 2 (sp 3 3 (sp 8 2 (.br (.op 2 (.br (.op 6 (.op 7 (.br (.op 10 (.op 11 (.op 12 (.op 13 .done)))) (.op 12 (.op 10 (.op 11 (.op 13 .done))))))) (.op 12 (.op 6 (.op 7 (.op 10 (.op 11 (.op 13 .done)))))))) (.op 12 (.op 2 (.op 6 (.op 7 (.op 10 (.op 11 (.op 13 .done))))))))))),(4,sp 0 6 (.op 7 (.br (.op 6 (.op 8 (.op 9 (.op 10 (.op 11 (.op 12 .done)))))) (.op 8 (.op 9 (.br (.op 6 (.op 10 (.op 11 (.op 12 .done)))) (.op 10 (.op 6 (.op 11 (.op 12 .done))))))))))]
def Qx (Q):Bk 49 Tryz.f37 (Fj Q) 2 [(1,.i .i64),(2,.a),(4,.a),(5,.a)] (iS Q):=aT (ok 49) D8 []
def MU:=λa b c d w Q=>bB (wc a b c d w Q) (Bx [ae a,ae b,ae c] 90 w λe w=>Al T 38 w λf w=>af .i64 (e.add 2) w.drew λg=>af .i64 (e.add 1) w.drew λi=>af .i64 (e.add 1) w.drew λj=>(aY g 1 6 w.drew λl w=>w.cell? (e.add 1)=some (ae j)/\w.cell? (e.add 1)=some (ae i)/\(aY i 0 5 w λm w=>w.cell? (e.add 1)=some (ae j)/\(aY j 0 9 w λn w=>Al T 38 w λo w=>w.cell? (e.add 1)=some (ae j)/\w.cell? (e.add 1)=some (ae i)/\w.cell? (e.add 2)=some (ae g)/\St (o.add 0) (ae l) w λw=>St (o.add 1) (ae (IntKind.wrap .i64 (d+m))) w λw=>St (o.add 2) (ae n) w λw=>St (o.add 3) (.slice none 0 0) w λw=>iS Q d e f o w)/\(Al T 38 w λp w=>w.cell? (e.add 1)=some (ae j)/\w.cell? (e.add 1)=some (ae i)/\w.cell? (e.add 2)=some (ae g)/\aY j 0 9 w λq w=>St (p.add 0) (ae l) w λw=>St (p.add 1) (ae (IntKind.wrap .i64 (d+m))) w λw=>St (p.add 2) (ae q) w λw=>St (p.add 3) (.slice none 0 0) w λw=>iS Q d e f p w))/\(Al T 38 w λr w=>w.cell? (e.add 1)=some (ae j)/\w.cell? (e.add 1)=some (ae i)/\w.cell? (e.add 2)=some (ae g)/\aY i 0 5 w λs w=>w.cell? (e.add 1)=some (ae j)/\aY j 0 9 w λt w=>St (r.add 0) (ae l) w λw=>St (r.add 1) (ae (IntKind.wrap .i64 (d+s))) w λw=>St (r.add 2) (ae t) w λw=>St (r.add 3) (.slice none 0 0) w λw=>iS Q d e f r w))/\(Al T 38 w.drew λu w=>w.cell? (e.add 1)=some (ae j)/\w.cell? (e.add 1)=some (ae i)/\w.cell? (e.add 2)=some (ae g)/\aY g 1 6 w λv w=>w.cell? (e.add 1)=some (ae j)/\w.cell? (e.add 1)=some (ae i)/\aY i 0 5 w λx w=>w.cell? (e.add 1)=some (ae j)/\aY j 0 9 w λy w=>St (u.add 0) (ae v) w λw=>St (u.add 1) (ae (IntKind.wrap .i64 (d+x))) w λw=>St (u.add 2) (ae y) w λw=>St (u.add 3) (.slice none 0 0) w λw=>iS Q d e f u w)) (ok 49) D8 [aM (Qx Q)] Tryz.func37
def cN (P5:Int->Int->L3 (L3 (Addr->L3 (Int->Int->WP))))(Q:L3 WP)(a b:Int)(c:OA)(d e:Nat)(f:OA)(g i:Nat)(j:Addr)(l:OA)(m n:Nat)(o p:Int)(q:Addr)(w:World):Prop:=af .i64 (q.add 0) w λr=>af .i64 (q.add 1) w λs=>af .i64 (q.add 2) w λt=>aA (q.add 3) w λu v x=>Bx [ae r,ae s,ae t,.slice u v x] 38 w λy w=>App P #[46,46] 46 (.slice l m n) (.slice (some y) 1 1) w λz a1 b1 w=>P5 a b c d e f g i j z a1 b1 o (IntKind.wrap .i64 (p+1)) w
def m9 (P5:Int->Int->L3 (L3 (Addr->L3 (Int->Int->WP))))(Q:L3 WP)(a b:Int)(c:OA)(d e:Nat)(f:OA)(g i:Nat)(j:Addr)(l:OA)(m n:Nat)(o p:Int)(q:Addr)(w:World):Prop:=St q (ae 3) w λw=>cN P5 Q a b c d e f g i j l m n o p q w
def qw (P5:Int->Int->L3 (L3 (Addr->L3 (Int->Int->WP))))(Q:L3 WP)(a b:Int)(c:OA)(d e:Nat)(f:OA)(g i:Nat)(j:Addr)(l:OA)(m n:Nat)(o p:Int)(q r:Addr)(w:World):Prop:=af .i64 (q.add 2) w λs=>qm (IntKind.wrap .u8 s) w λt w=>St r (ae 2) w λw=>St (r.add 2) (ae (IntKind.wrap .i64 t)) w λw=>cN P5 Q a b c d e f g i j l m n o p r w
def jr (P5:Int->Int->L3 (L3 (Addr->L3 (Int->Int->WP))))(Q:L3 WP)(a b:Int)(c:OA)(d e:Nat)(f:OA)(g i:Nat)(j:Addr)(l:OA)(m n:Nat)(o p:Int)(q r:Addr)(w:World):Prop:=af .i64 q w λs=>aY s 0 15 w λt w=>cond (t==0) (m9 P5 Q a b c d e f g i j l m n o p r w) (cond (t==1) (m9 P5 Q a b c d e f g i j l m n o p r w) (cond (t==2) (m9 P5 Q a b c d e f g i j l m n o p r w) (cond (t==3) (af .i64 (q.add 1) w λu=>aY u 0 9 w λv w=>St r (ae 4) w λw=>St (r.add 1) (ae v) w λw=>cN P5 Q a b c d e f g i j l m n o p r w) (cond (t==4) (af .i64 (q.add 1) w λx=>aY x 0 9 w λy w=>St r (ae 5) w λw=>St (r.add 1) (ae y) w λw=>St (r.add 2) (ae 0) w λw=>cN P5 Q a b c d e f g i j l m n o p r w) (cond (t==5) (qw P5 Q a b c d e f g i j l m n o p q r w) (cond (t==6) (qw P5 Q a b c d e f g i j l m n o p q r w) (cond (t==7) (St r (ae 6) w λw=>cN P5 Q a b c d e f g i j l m n o p r w) (cond (t==8) (St r (ae 6) w λw=>cN P5 Q a b c d e f g i j l m n o p r w) (cond (t==9) (St (r.add 0) (ae 8) w λw=>St (r.add 1) (ae 0) w λw=>St (r.add 2) (ae 0) w λw=>St (r.add 3) (.slice none 0 0) w λw=>cN P5 Q a b c d e f g i j l m n o p r w) (cond (t==10) (af .i64 (q.add 1) w λz=>NZ 4<|cond ((Int.tmod z 4)==0) (af .i64 (q.add 1) w λa1=>NZ 4<|af .i64 (q.add 2) w λb1=>ql (IntKind.wrap .i64 (a+(IntKind.wrap .i64 (Int.tdiv a1 4)))) (IntKind.wrap .i64 (b+b1)) c d e w λc1 d1 e1 f1 g1 w=>St (j.add 0) (ae c1) w λw=>St (j.add 1) (ae d1) w λw=>St (j.add 2) (.slice e1 f1 g1) w λw=>aA (j.add 2) w λi1 j1 l1=>af .i64 (j.add 0) w λm1=>af .i64 (j.add 1) w λn1=>aA (j.add 2) w λo1 p1 q1=>lG m1 n1 o1 p1 q1 w λr1 s1 t1 w=>St (r.add 0) (ae 1) w λw=>St (r.add 1) (ae 0) w λw=>St (r.add 2) (ae 0) w λw=>St (r.add 3) (.slice r1 s1 t1) w λw=>cN P5 Q a b c d e f g i j l m n (j1:Int) p r w) (af .i64 (q.add 2) w λu1=>aY u1 0 200 w λv1 w=>St (r.add 0) (ae 0) w λw=>St (r.add 1) (ae (IntKind.wrap .i64 (9+v1))) w λw=>St (r.add 2) (ae 0) w λw=>St (r.add 3) (.slice none 0 0) w λw=>cN P5 Q a b c d e f g i j l m n o p r w)) (cond (t==11) (af .i64 (q.add 0) w λx1=>af .i64 (q.add 1) w λy1=>af .i64 (q.add 2) w λz1=>wc x1 y1 z1 o w λa2 b2 c2 d2 e2 f2 w=>St (r.add 0) (ae a2) w λw=>St (r.add 1) (ae b2) w λw=>St (r.add 2) (ae c2) w λw=>St (r.add 3) (.slice d2 e2 f2) w λw=>cN P5 Q a b c d e f g i j l m n o p r w) (St (r.add 0) (ae 7) w λw=>St (r.add 1) (ae 0) w λw=>St (r.add 2) (ae 0) w λw=>St (r.add 3) (.slice none 0 0) w λw=>cN P5 Q a b c d e f g i j l m n o p r w))))))))))))
def nO (Q:L3 WP)(R5:Int->Int->L3 (L3 (Addr->L3 (Int->Int->WP))))(a b:Int)(c:OA)(d e:Nat)(f:OA)(g i:Nat)(j:Addr)(l:OA)(m n:Nat)(o p:Int)(w:World):Prop:=cond (decide (p<(g:Int))) (cond (decide (p<60)) (aK p g<|wA f λq=>af .i64 ((q.add (p.toNat*3)).add 0) w λr=>af .i64 ((q.add (p.toNat*3)).add 1) w λs=>af .i64 ((q.add (p.toNat*3)).add 2) w λt=>Al T 90 w λu w=>St (u.add 0) (ae r) w λw=>St (u.add 1) (ae s) w λw=>St (u.add 2) (ae t) w λw=>af .i64 (u.add 1) w.drew λv=>af .i64 (u.add 2) w.drew λx=>(aY v 0 (IntKind.wrap .i64 (o-1)) w.drew λy w=>w.cell? (u.add 2)=some (ae x)/\(aY x 0 (IntKind.wrap .i64 (o-1)) w λz w=>Al T 38 w λa1 w=>w.cell? (u.add 2)=some (ae x)/\w.cell? (u.add 1)=some (ae v)/\St (a1.add 0) (ae 0) w λw=>St (a1.add 1) (ae y) w λw=>St (a1.add 2) (ae z) w λw=>St (a1.add 3) (.slice none 0 0) w λw=>jr R5 Q a b c d e f g i j l m n o p u a1 w)/\(Al T 38 w λb1 w=>w.cell? (u.add 2)=some (ae x)/\w.cell? (u.add 1)=some (ae v)/\aY x 0 (IntKind.wrap .i64 (o-1)) w λc1 w=>St (b1.add 0) (ae 0) w λw=>St (b1.add 1) (ae y) w λw=>St (b1.add 2) (ae c1) w λw=>St (b1.add 3) (.slice none 0 0) w λw=>jr R5 Q a b c d e f g i j l m n o p u b1 w))/\(Al T 38 w.drew λd1 w=>w.cell? (u.add 2)=some (ae x)/\w.cell? (u.add 1)=some (ae v)/\aY v 0 (IntKind.wrap .i64 (o-1)) w λe1 w=>w.cell? (u.add 2)=some (ae x)/\aY x 0 (IntKind.wrap .i64 (o-1)) w λf1 w=>St (d1.add 0) (ae 0) w λw=>St (d1.add 1) (ae e1) w λw=>St (d1.add 2) (ae f1) w λw=>St (d1.add 3) (.slice none 0 0) w λw=>jr R5 Q a b c d e f g i j l m n o p u d1 w)) (Q l m n w)) (Q l m n w)
def jt (Q:L3 WP):Nat->Int->Int->L3 (L3 (Addr->L3 (Int->Int->WP)))
 |0,_,_,_,_,_,_,_,_,_,_,_,_,_,_,_=>False
 |k+1,a,b,c,d,e,f,g,i,j,l,m,n,o,p,w=>nO Q (jt Q k) a b c d e f g i j l m n o p w
noncomputable def kA:cv:=[(8,sp 0 4 (sp 5 4 (.br (.op 4 (.br (.op 9 (.op 10 (.op 11 (.op 12 .done)))) (.op 11 (.op 9 (.op 10 (.op 12 .done)))))) (.op 11 (.op 4 (.op 9 (.op 10 (.op 12 .done))))))))]
def wF {P5}(Q)(H5:Bk 130 Tryz.f16 (fN Q) 5 [(0,.i .i64),(1,.i .i64),(2,.l),(3,.l),(9,.a),(10,.l),(11,.i .i64),(12,.i .i64)] P5):Bk 130 Tryz.f16 (fN Q) 35 [(0,.i .i64),(1,.i .i64),(2,.l),(3,.l),(9,.a),(10,.l),(11,.i .i64),(12,.i .i64),(14,.a)] (cN P5 Q):=aT (ok 130) kA [aM H5]
def MV {P5}(Q)(H5:Bk 130 Tryz.f16 (fN Q) 5 [(0,.i .i64),(1,.i .i64),(2,.l),(3,.l),(9,.a),(10,.l),(11,.i .i64),(12,.i .i64)] P5):Bk 130 Tryz.f16 (fN Q) 14 [(0,.i .i64),(1,.i .i64),(2,.l),(3,.l),(9,.a),(10,.l),(11,.i .i64),(12,.i .i64),(14,.a)] (m9 P5 Q):=aT (ok 130) kA [aM (wF Q H5)]
def MW {P5}(Q)(H5:Bk 130 Tryz.f16 (fN Q) 5 [(0,.i .i64),(1,.i .i64),(2,.l),(3,.l),(9,.a),(10,.l),(11,.i .i64),(12,.i .i64)] P5):Bk 130 Tryz.f16 (fN Q) 21 [(0,.i .i64),(1,.i .i64),(2,.l),(3,.l),(9,.a),(10,.l),(11,.i .i64),(12,.i .i64),(13,.a),(14,.a)] (qw P5 Q):=aT (ok 130) kA [aM (wF Q H5)]
def OF {P5}(Q)(H5:Bk 130 Tryz.f16 (fN Q) 5 [(0,.i .i64),(1,.i .i64),(2,.l),(3,.l),(9,.a),(10,.l),(11,.i .i64),(12,.i .i64)] P5):Bk 130 Tryz.f16 (fN Q) 9 [(0,.i .i64),(1,.i .i64),(2,.l),(3,.l),(9,.a),(10,.l),(11,.i .i64),(12,.i .i64),(13,.a),(14,.a)] (jr P5 Q):=aT (ok 130) kA [aM (MV Q H5),aM (MW Q H5),aM (wF Q H5)]
def OG (Q):∀k,Bk 130 Tryz.f16 (fN Q) 5 [(0,.i .i64),(1,.i .i64),(2,.l),(3,.l),(9,.a),(10,.l),(11,.i .i64),(12,.i .i64)] (jt Q k):=bM λk h=>aT (ok 130) kA [aM (OF Q h)]
def Lv:=λa b c d e f g i w Q=>bB (uV a b c d e f g i w Q) (ql a b c d e w λj l m n o w=>Al T 25 w λp w=>St (p.add 0) (ae j) w λw=>St (p.add 1) (ae l) w λw=>St (p.add 2) (.slice m n o) w λw=>af .i64 (p.add 0) w λq=>af .i64 (p.add 1) w λr=>aA (p.add 2) w λs t u=>lG q r s t u w λv x y w=>Bx [ae 1,ae 0,ae 0,.slice v x y] 38 w λz w=>aA (p.add 2) w λa1 b1 c1=>∃k',jt Q k' a b c d e f g i p (some z) 1 1 (b1:Int) 0 w) (ok 130) kA [cu (OG Q)] Tryz.func16
def Qy:=λa b c d w Q=>bB (yH a b c d w Q) (bR a b c 3 none (some (Dt (b:Int) d)) λe f g=>Q e f g w) (ok 11) [] [] Tryz.func17
noncomputable def VN:cv:=[(3,sp 0 15 (.op 15 (.op 16 (.op 17 .done))))]
def Uw:=λa w Q=>bB (AW a w Q) (Al T 25 w λb w=>cond a.isNone (St (b.add 0) (ae 0) w λw=>St (b.add 1) (ae 0) w λw=>St (b.add 2) (.slice none 0 0) w λw=>af .i64 (b.add 0) w λc=>af .i64 (b.add 1) w λd=>aA (b.add 2) w λe f g=>Q c d e f g w) (wA a λi=>af .i64 i w.drew λj=>wA a λl=>af .i64 (l.add 1) w.drew λm=>wA a λn=>aA (n.add 2) w.drew λo p q=>jJ o p q w.drew λr s t w=>w.cell? (l.add 1)=some (ae m)/\w.cell? i=some (ae j)/\St (b.add 0) (ae j) w λw=>St (b.add 1) (ae m) w λw=>St (b.add 2) (.slice r s t) w λw=>af .i64 (b.add 0) w λu=>af .i64 (b.add 1) w λv=>aA (b.add 2) w λx y z=>Q u v x y z w)) (ok 23) VN [] Tryz.func67
def XU:=λa w Q=>bB (Dw a w Q) (Al T 25 w λb w=>cond a.isNone (St (b.add 0) (ae 0) w λw=>St (b.add 1) (ae 0) w λw=>St (b.add 2) (.slice none 0 0) w λw=>af .i64 (b.add 0) w λc=>af .i64 (b.add 1) w λd=>aA (b.add 2) w λe f g=>Q c d e f g w) (wA a λi=>bg i w λj=>AW j w λl m n o p w=>St (b.add 0) (ae l) w λw=>St (b.add 1) (ae m) w λw=>St (b.add 2) (.slice n o p) w λw=>af .i64 (b.add 0) w λq=>af .i64 (b.add 1) w λr=>aA (b.add 2) w λs t u=>Q q r s t u w)) (ok 11) [] [] Tryz.func40
def Qz:=λa w Q=>bB (rX a w Q) (Al T 25 w λb w=>yI a w λc w=>Dw c w λd e f g i w=>St (b.add 0) (ae d) w λw=>St (b.add 1) (ae e) w λw=>St (b.add 2) (.slice f g i) w λw=>af .i64 (b.add 0) w λj=>af .i64 (b.add 1) w λl=>aA (b.add 2) w λm n o=>Q j l m n o w) (ok 6) [] [] Tryz.func19
def dH (P6:L3 (OA->Int->WP))(Q:Bool->WP)(w:World):Prop:=Q false w
def kQ (Q:Bool->WP)(R6:L3 (OA->Int->WP))(a:OA)(b c:Nat)(d:OA)(e:Int)(w:World):Prop:=cond (decide (e<(b:Int))) (qk d w λf g i j l m w=>mW d w λn o p w=>Al T 32 w λq w=>St (q.add 0) (.int .u64 f) w λw=>St (q.add 1) (.int .u64 g) w λw=>St (q.add 2) (.int .u64 i) w λw=>St (q.add 3) (.int .u64 j) w λw=>St (q.add 4) (.int .u64 l) w λw=>St (q.add 5) (.int .u64 m) w λw=>aK e b<|wA a λr=>af .i64 ((r.add (e.toNat*4)).add 0) w λs=>af .i64 ((r.add (e.toNat*4)).add 1) w λt=>af .i64 ((r.add (e.toNat*4)).add 2) w λu=>aA ((r.add (e.toNat*4)).add 3) w λv x y=>jg d s t u v x y w λz a1 b1 c1 d1 e1 f1 g1 i1 j1 l1 m1 n1 o1 p1 q1 w=>Al T 34 w λr1 w=>St (r1.add 0) (ae z) w λw=>St (r1.add 1) (ae a1) w λw=>St (r1.add 2) (ae b1) w λw=>St (r1.add 3) (ae c1) w λw=>St (r1.add 4) (.slice d1 e1 f1) w λw=>St (r1.add 5) (.slice g1 i1 j1) w λw=>St (r1.add 6) (.int .u64 l1) w λw=>St (r1.add 7) (.int .u64 m1) w λw=>St (r1.add 8) (.int .u64 n1) w λw=>St (r1.add 9) (.int .u64 o1) w λw=>St (r1.add 10) (.int .u64 p1) w λw=>St (r1.add 11) (.int .u64 q1) w λw=>rX d w λs1 t1 u1 v1 x1 w=>Al T 25 w λy1 w=>St (y1.add 0) (ae s1) w λw=>St (y1.add 1) (ae t1) w λw=>St (y1.add 2) (.slice u1 v1 x1) w λw=>af .i64 y1 w λz1=>af .i64 (y1.add 1) w λa2=>jI z1 a2 w λb2 w=>af .i64 (r1.add 1) w λc2=>cond (decide (c2<0)) (dH R6 Q w) (af .i64 (r1.add 1) w λd2=>aA (y1.add 2) w λe2 f2 g2=>cond (decide (d2>(IntKind.wrap .i64 (254*(IntKind.wrap .i64 ((f2:Int)-1)))))) (af .i64 (r1.add 1) w λi2=>cond (i2 !=1099511627776) (dH R6 Q w) (af .u64 (r1.add 6) w λj2=>af .u64 q w λl2=>cond (decide (j2>(IntKind.wrap .u64 (l2+(IntKind.wrap .u64 b2))))) (dH R6 Q w) (af .u64 ((r1.add 6).add 1) w λm2=>af .u64 (q.add 1) w λn2=>cond (decide (m2>(IntKind.wrap .u64 ((IntKind.wrap .u64 (n2+(IntKind.wrap .u64 (o:Int))))+1)))) (dH R6 Q w) (af .u64 ((r1.add 6).add 2) w λo2=>af .u64 (q.add 2) w λp2=>cond (decide (o2>(IntKind.wrap .u64 ((IntKind.wrap .u64 (p2+(IntKind.wrap .u64 (o:Int))))+1)))) (dH R6 Q w) (af .u64 ((r1.add 6).add 3) w λq2=>af .u64 (q.add 3) w λr2=>cond (decide (q2>(IntKind.wrap .u64 ((IntKind.wrap .u64 (r2+(IntKind.wrap .u64 (o:Int))))+1)))) (dH R6 Q w) (R6 a b c d (IntKind.wrap .i64 (e+1)) w)))))) (af .u64 (r1.add 6) w λs2=>af .u64 q w λt2=>cond (decide (s2>(IntKind.wrap .u64 (t2+(IntKind.wrap .u64 b2))))) (dH R6 Q w) (af .u64 ((r1.add 6).add 1) w λu2=>af .u64 (q.add 1) w λv2=>cond (decide (u2>(IntKind.wrap .u64 ((IntKind.wrap .u64 (v2+(IntKind.wrap .u64 (o:Int))))+1)))) (dH R6 Q w) (af .u64 ((r1.add 6).add 2) w λx2=>af .u64 (q.add 2) w λy2=>cond (decide (x2>(IntKind.wrap .u64 ((IntKind.wrap .u64 (y2+(IntKind.wrap .u64 (o:Int))))+1)))) (dH R6 Q w) (af .u64 ((r1.add 6).add 3) w λz2=>af .u64 (q.add 3) w λa3=>cond (decide (z2>(IntKind.wrap .u64 ((IntKind.wrap .u64 (a3+(IntKind.wrap .u64 (o:Int))))+1)))) (dH R6 Q w) (R6 a b c d (IntKind.wrap .i64 (e+1)) w))))))) (v_ w λb3 w=>Q b3 w)
def kS (Q:Bool->WP):Nat->L3 (OA->Int->WP)
 |0,_,_,_,_,_,_=>False
 |k+1,a,b,c,d,e,w=>kQ Q (kS Q k) a b c d e w
def I3 {P6}(Q)(H6:Bk 114 Tryz.f7 (nU Q) 6 [(9,.l),(10,.p),(11,.i .i64)] P6):Bk 114 Tryz.f7 (nU Q) 13 [] (dH P6 Q):=aT (ok 114) [] []
def JK (Q):∀k,Bk 114 Tryz.f7 (nU Q) 6 [(9,.l),(10,.p),(11,.i .i64)] (kS Q k):=bM λk h=>aT (ok 114) [] [aM h,aM (I3 Q h)]
def HS:=λa b c d e f g i w Q=>bB (yG a b c d e f g i w Q) (yH f g i 40 w λj l m w=>uV a b c d e j l m w λn o p w=>Ep 2 6 w λq w=>cond q.isNone (Q false w) (∃k',kS Q k' n o p q 0 w)) (ok 114) [] [cu (JK Q)] Tryz.func7
def Sn:=λa w Q=>bB (Gh a w Q) (wA a λb=>bY (b.add 1) w λc=>dV c λd=>Q d w) (ok 7) [] [] Tryz.func302
def MX:=λa w Q=>bB (Dh a w Q) (wA a λb=>bY (b.add 1) w λc=>dV c λd=>Q d w) (ok 7) [] [] Tryz.func321
def QA:=λa w Q=>bB (Ft a w Q) (wA a λb=>bY (b.add 1) w λc=>dV c λd=>Q d w) (ok 7) [] [] Tryz.func325
end Go.Proofs.YtmegplnmiepfbaaGreatDoor.S
namespace Go.Proofs.YtmegplnmiepfbaaGreatDoor.S
open Go.Sx
attribute [local irreducible] af cA bw bg aA cq bY St Bx Al App cD cy cw bT aL bC aq bR av ak aV mapA
def ef:wP P T:=EF P rows HC
def eC {a b:Int}(h:a=b):(a==b)=true:=by grind
def cQ {a b:Int}(h:¬a=b):(a==b)=false:=by grind
def Gq {a b:Int}(h:¬a=b):(a !=b)=true:=by grind
def Ev {a b:Int}(h:a=b):(a !=b)=false:=by grind
section
variable {F:Nat->Prop}{W w0:World}{L:List As}{mw mh c:Int}
def pO {Q:Bool->World->Prop}(h:Q (decide (gz mw mh)) w0):lH mw mh w0 Q:=by
 apply aa2;have e:decide (gz mw mh)=(decide (mw≥1)&&(decide (mw<=1024)&&(decide (mh≥1)&&decide (mh<=1024)))):=by rw[Bool.eq_iff_iff];simp[Bool.and_eq_true,decide_eq_true_eq];exact⟨λ⟨⟨a,b⟩,c,d⟩=>⟨a,b,c,d⟩,λ⟨a,b,c,d⟩=>⟨⟨a,b⟩,c,d⟩⟩
 grind
def HT {Q:Bool->World->Prop}(h:Q (decide (bK mw mh c)) w0):yK mw mh c w0 Q:=by
 apply adl;apply pO;by_cases hm:gz mw mh
 ·have:=mV hm;rw[bN hm,aG];have e:decide (bK mw mh c)=(decide (c≥0)&&decide (c<mw*mh)):=by rw[Bool.eq_iff_iff];simp[bK,Bool.and_eq_true,decide_eq_true_eq,hm,true_and,ge_iff_le]
  grind
 ·rw[bp hm];rw[decide_eq_false (λe=>hm e.1)]at h;exact h
def qX {x y:Int}{Q:Int->World->Prop}(h:Q (g8 mw mh x y) w0):zT mw mh x y w0 Q:=by
 apply Zd;apply pO;by_cases hm:gz mw mh
 ·rw[decide_eq_true hm,Bool.not_true,cond_false];by_cases h1:x<0
  ·rw[bN h1];rw[sM (by omega)]at h;exact h
  rw[bp h1];by_cases h2:x≥mw
  ·rw[bN h2];rw[sM (by omega)]at h;exact h
  rw[bp h2];by_cases h3:y<0
  ·rw[bN h3];rw[sM (by omega)]at h;exact h
  rw[bp h3];by_cases h4:y≥mh
  ·rw[bN h4];rw[sM (by omega)]at h;exact h
  rw[bp h4];rw[ng hm (by omega) (by omega)]at h;have hr:=UX (aaN (x:=x) (y:=y) hm (by omega) (by omega));have h0:0<=y*mw:=Int.mul_nonneg (by omega) (by omega);rw[aG (n:=y*mw),aG];exact h
 ·unfold g8 at h;grind
def DK {Q:Int->Int->World->Prop}(s0:Sep F W w0 L)(h:∀w',Sep F W w' L->Fr No w0 w'->Q (if bK mw mh c then c%mw else-1) (if bK mw mh c then c/mw else-1) w'):s8 mw mh c w0 Q:=by
 apply XD;apply HT;by_cases hc:bK mw mh c
 ·have US:=hc.2;have hx:=Ir hc;have D9:=hc.1.2;rw[decide_eq_true hc,Bool.not_true,cond_false];refine⟨by omega,⟨by omega,?_⟩⟩;rw[Int.tmod_eq_emod_of_nonneg US.1,Int.tdiv_eq_ediv_of_nonneg US.1,aG];have:=h _ (ay s0) Fr.refl;grind
 ·have:=h _ s0 Fr.refl;grind
def kH {sd:Int}{Q:Int->World->Prop}(s0:Sep F W w0 L)(h:∀w',Sep F W w' L->Fr No w0 w'->Q (bf mw mh c sd) w'):n6 mw mh c sd w0 Q:=by
 apply Zg;refine DK s0 λw s f=>?_;have h:=h w s f;unfold bf at h;by_cases hc:bK mw mh c
 ·rw[if_pos hc,if_pos hc];rw[if_pos hc]at h;have hx:=Ir hc;have hm:=hc.1.1;have D9:=hc.1.2;rw[bp];by_cases k0:sd=0
  ·rw[eC k0,cond_true];rw[if_pos k0]at h;unfold xg nA;rw[aG];exact qX h
  rw[cQ k0,cond_false];rw[if_neg k0]at h;by_cases k2:sd=2
  ·rw[eC k2,cond_true];rw[if_pos k2]at h;unfold xg nA;rw[aG];exact qX h
  rw[cQ k2,cond_false];rw[if_neg k2]at h;by_cases k3:sd=3
  ·rw[eC k3,cond_true];rw[if_pos k3]at h;unfold xh nA;rw[aG];exact qX h
  rw[cQ k3,cond_false];rw[if_neg k3]at h;by_cases k1:sd=1
  ·rw[eC k1,cond_true];rw[if_pos k1]at h;unfold xh nA;rw[aG];exact qX h
  rw[cQ k1,cond_false];rw[if_neg k1]at h;by_cases k4:sd=4
  ·rw[eC k4,cond_true];rw[if_pos k4]at h;exact qX h
  grind
 grind
def Ag (w h a b:Int):Int:=
 if bK w h a/\bK w h b then if bf w h a 0=b then 0 else if bf w h a 1=b then 1 else if bf w h a 2=b then 2 else if bf w h a 3=b then 3 else if bf w h a 4=b then 4 else 5 else 5
def ZB {b:Int}{Q:Int->World->Prop}(s0:Sep F W w0 L)(h:∀w',Sep F W w' L->Fr No w0 w'->Q (Ag mw mh c b) w'):ES mw mh c b w0 Q:=by
 apply Zl;apply HT;by_cases hc:bK mw mh c
 ·rw[decide_eq_true hc,Bool.not_true,cond_false];apply HT;by_cases hb:bK mw mh b
  ·rw[decide_eq_true hb,Bool.not_true,cond_false];have s:=bh (F:=No) (w:=w0);have fin:∀(w:World) (r:Int),Ag mw mh c b=r->Sep No w0 w []->Q r w:=by intro w r e s;subst e;exact h _ (bV s0 (au s)) (au s)
   unfold Ag at fin;refine⟨6,?_⟩;show iH Q (mQ Q 5) _ _ _ _ _ _;unfold iH;refine kH s λw s _=>?_;by_cases k0:bf mw mh c 0=b
   ·grind
   rw[cQ k0,cond_false,wrap_i64 (by decide) (by decide)];show iH Q (mQ Q 4) _ _ _ _ _ _;unfold iH;refine kH s λw s _=>?_;by_cases k0:bf mw mh c 1=b
   ·grind
   rw[show(bf mw mh c (0+1)==b)=false from cQ k0,cond_false,wrap_i64 (by decide) (by decide)];show iH Q (mQ Q 3) _ _ _ _ _ _;unfold iH;refine kH s λw s _=>?_;by_cases k0:bf mw mh c 2=b
   ·grind
   rw[show(bf mw mh c (0+1+1)==b)=false from cQ k0,cond_false,wrap_i64 (by decide) (by decide)];show iH Q (mQ Q 2) _ _ _ _ _ _;unfold iH;refine kH s λw s _=>?_;by_cases k0:bf mw mh c 3=b
   ·grind
   rw[show(bf mw mh c (0+1+1+1)==b)=false from cQ k0,cond_false,wrap_i64 (by decide) (by decide)];show iH Q (mQ Q 1) _ _ _ _ _ _;unfold iH;refine kH s λw s _=>?_;by_cases k0:bf mw mh c 4=b
   ·grind
   rw[show(bf mw mh c (0+1+1+1+1)==b)=false from cQ k0,cond_false,wrap_i64 (by decide) (by decide)];show iH Q (mQ Q 0) _ _ _ _ _ _;unfold iH;grind
  ·have:=h _ s0 Fr.refl;unfold Ag at this;grind
 ·have:=h _ s0 Fr.refl;unfold Ag at this;grind
def ZC (w h:Int):Int:=if gz w h then cE w else 0
def adB (w h:Int):Int:=if gz w h then cE h else 0
def qK {Q:Int->Int->World->Prop}(h:Q (ZC mw mh) (adB mw mh) w0):lu mw mh w0 Q:=by
 apply T6;apply pO;unfold ZC adB at h;by_cases hm:gz mw mh
 ·have h1:=hm.1;have h2:=hm.2;rw[decide_eq_true hm,Bool.not_true,cond_false];refine⟨by decide,by decide,?_⟩;rw[aG (n:=mw+16),aG (n:=mw+16-1),aG (n:=mh+16),aG (n:=mh+16-1),
   Int.tdiv_eq_ediv_of_nonneg (by omega),Int.tdiv_eq_ediv_of_nonneg (by omega),aG,aG]
  unfold cE at h;grind
 grind
def eZ {Q:Int->World->Prop}(s0:Sep F W w0 L)(h:∀w',Sep F W w' L->Fr No w0 w'->Q (aC mw mh c) w'):dZ mw mh c w0 Q:=by
 apply Vl;refine DK s0 λw s f=>?_;have h:=h w s f;unfold aC at h;by_cases hc:bK mw mh c
 ·rw[if_pos hc,if_pos hc];have hs:=(bS hc).2;unfold aC at hs;rw[if_pos hc]at h hs;have hx:=Ir hc;have hm:=hc.1;have ha:=Fg hm.1;have hcs:=e_ hm.1 hm.2;rw[bp];apply qK;rw[ZC,if_pos hm];refine⟨by decide,by decide,?_⟩;have h2:=hm.2;have a:0<=c/mw/16*cE mw:=Int.mul_nonneg (by omega) (by omega);rw[Int.tdiv_eq_ediv_of_nonneg (by omega),Int.tdiv_eq_ediv_of_nonneg (by omega),aG (n:=c/mw/16),aG (n:=c%mw/16),aG (n:=c/mw/16*cE mw),aG];exact h
 grind
def I4 {sc:Int}{Q:Int->Int->Bool->World->Prop}(s0:Sep F W w0 L)(h:∀w',Sep F W w' L->Fr No w0 w'->Q (if dX mw mh sc then sc%cE mw*16 else 0) (if dX mw mh sc then sc/cE mw*16 else 0) (decide (dX mw mh sc)) w'):wX mw mh sc w0 Q:=by
 apply Vi;apply qK;have no:¬dX mw mh sc->Q 0 0 false w0:=λhn=>by have:=h _ s0 Fr.refl;grind
 by_cases h0:sc<0
 ·rw[bN h0];exact no λe=>by have:=e.2;omega
 rw[bp h0];unfold ZC adB;by_cases hm:gz mw mh
 ·rw[if_pos hm,if_pos hm];have hcs:=e_ hm.1 hm.2;have e:cE mw*cE mh=dy mw mh:=rfl;rw[e,aG];by_cases h1:sc≥dy mw mh
  ·rw[bN h1];exact no λe=>by have:=e.2;omega
  rw[bp h1];have hs:dX mw mh sc:=⟨hm,by omega,by omega⟩;have hx:=IN hm.1 hm.2 hs.2;have ha:=Fg hm.1;have q1:=hm.1;have q2:=hm.2;refine⟨by omega,by omega,?_⟩;rw[Int.tmod_eq_emod_of_nonneg (by omega),Int.tdiv_eq_ediv_of_nonneg (by omega),aG (n:=sc/cE mw),aG,aG];have:=h _ (ay s0) Fr.refl;grind
 ·rw[if_neg hm,if_neg hm,show IntKind.wrap .i64 (0*0)=0 from rfl,bN];exact no λe=>hm e.1
def vl {sc:Int}{Q:Int->Int->World->Prop}(s0:Sep F W w0 L)(h:∀w',Sep F W w' L->Fr No w0 w'->Q (YS mw mh sc) (acU mw mh sc) w'):n7 mw mh sc w0 Q:=by
 apply Y9;refine I4 s0 λw s f=>?_;have h:=h w s f;unfold YS acU at h;by_cases hs:dX mw mh sc
 ·have hx:=IN hs.1.1 hs.1.2 hs.2;have q1:=hs.1.1;have q2:=hs.1.2;rw[aG,aG];have e1:Dt 16 (mw-sc%cE mw*16)=aD mw mh sc:=by unfold Dt aD;omega
  have e2:Dt 16 (mh-sc/cE mw*16)=bz mw mh sc:=by unfold Dt bz;omega
  grind
 grind
def tC {Q:Int->World->Prop}(s0:Sep F W w0 L)(h:∀w',Sep F W w' L->Fr No w0 w'->Q (dY mw mh c) w'):nh mw mh c w0 Q:=by
 apply XE;refine DK s0 λw s f=>?_;by_cases hc:bK mw mh c
 ·rw[if_pos hc,if_pos hc];have hx:=Ir hc;have hl:=jY hc;have hs:=bS hc;have hz:=qN hc.1.1 hc.1.2 hs.2;have el:dY mw mh c=c/mw%16*aD mw mh (aC mw mh c)+c%mw%16:=if_pos hc;rw[bp];refine eZ s λw s f2=>?_;refine vl s λw s f3=>?_;refine⟨by decide,by decide,?_⟩;rw[YS,if_pos hs,Int.tmod_eq_emod_of_nonneg (by omega),Int.tmod_eq_emod_of_nonneg (by omega)];have a:=Int.mul_le_mul hz.1.2 hz.2.2 (by omega) (by decide);rw[aG (n:=c/mw%16*aD mw mh (aC mw mh c)),aG,<-el];exact h _ s ((f.trans f2 (λ_ _=>id)).trans f3 (λ_ _=>id))
 ·have h:=h _ s f;unfold dY at h;grind
def xq {sc l:Int}{Q:Int->World->Prop}(s0:Sep F W w0 L)(h:∀w',Sep F W w' L->Fr No w0 w'->Q (CF mw mh sc l) w'):og mw mh sc l w0 Q:=by
 apply Vj;refine I4 s0 λw s f=>?_;refine vl s λw s f2=>?_;have f:=f.trans f2 (λ_ _=>id);have no:¬(dX mw mh sc/\0<=l/\l<aD mw mh sc*bz mw mh sc)->Q (-1) w:=λhn=>by have:=h _ s f;unfold CF at this;grind
 by_cases hs:dX mw mh sc
 ·unfold YS acU;rw[if_pos hs,if_pos hs,if_pos hs,if_pos hs,decide_eq_true hs,Bool.not_true,cond_false];have hx:=IN hs.1.1 hs.1.2 hs.2;have hz:=qN hs.1.1 hs.1.2 hs.2;have q1:=hs.1.1;have q2:=hs.1.2;have a:=Int.mul_le_mul hz.1.2 hz.2.2 (by omega) (by decide);have b:0<=aD mw mh sc*bz mw mh sc:=Int.mul_nonneg (by omega) (by omega);rw[aG];by_cases h0:l<0
  ·grind
  rw[bp h0];by_cases h1:l≥aD mw mh sc*bz mw mh sc
  ·grind
  rw[bp h1];have hl:0<=l/\l<aD mw mh sc*bz mw mh sc:=by omega
  have hxy:=O6 hs hl;refine⟨by omega,by omega,?_⟩;rw[Int.tmod_eq_emod_of_nonneg (by omega),Int.tdiv_eq_ediv_of_nonneg (by omega),aG (n:=l/aD mw mh sc),aG,aG];apply qX;have h:=h _ (ay s) f;unfold CF bU at h;rw[if_pos ⟨hs,hl⟩]at h;have e1:sc%cE mw*16+l%aD mw mh sc<mw:=by
   have:aD mw mh sc<=mw-16*(sc%cE mw):=by unfold aD;omega
   omega
  have e2:sc/cE mw*16+l/aD mw mh sc<mh:=by
   have:bz mw mh sc<=mh-16*(sc/cE mw):=by unfold bz;omega
   omega
  rw[ng hs.1 (by omega) (by omega),Int.mul_comm (sc/cE mw) 16,Int.mul_comm (sc%cE mw) 16,<-Int.add_assoc];exact h
 grind
end
end Go.Proofs.YtmegplnmiepfbaaGreatDoor.S
namespace Go.Proofs.YtmegplnmiepfbaaGreatDoor.S.Tl
open Go.Sx
def ef:wP P T:=EF P rows HC
attribute [local irreducible] af cA bw bg aA cq bY St Bx Al App cD cy cw bT aL bC aq bR av ak aV
def DL (W H:Int)(cs:List Int):Bool:=decide (1<=W/\W<=16)&&(decide (1<=H/\H<=16)&&(decide ((cs.length:Int)=W*H)&&!decide ((0:Int)∈cs)))
def ZD {W H:Int}{cs:List Int}:DL W H cs=true↔(1<=W/\W<=16)/\(1<=H/\H<=16)/\(cs.length:Int)=W*H/\(0:Int)∉cs:=by simp[DL]
section
variable {F:Nat->Prop}{W w:World}{L:List As}{a:Option Addr}{n c:Nat}{cs:List Int}
def arC (h:l7 w a n 1 bu cs){i:Nat}(hi:i<n):∃ad,a=some ad/\w.cell? (ad.add (i*1))=some (.int .u8 (gi cs i)):=by obtain⟨ad,e,hc⟩:=h.2 i _ (iD (by rw[h.1];exact hi));exact⟨ad,e,hc 0 _ rfl⟩
def aR {k:IntKind}{m:Int}{ad:Addr}{K:Int->Prop}(h:w.cell? ad=some (.int k m))(hk:K m):af k ad w K:=by unfold af;grind
def Lw {m:Int}{Q:Bool->World->Prop}(h:Q (decide (1<=m/\m<=16)) w):z7 m w Q:=by apply Za;grind
def alq {v:Int}{Q:Int->World->Prop}(hA:l7 w a n 1 bu cs)(hn:n<1000000000)(hy:v∈cs->∀i:Nat,Q i w)(hno:v∉cs->Q (-1) w):
  ∀(m i:Nat),i+m=n->(∀j,j<i->gi cs j≠v)->jf Q (m+1) a n c v n i w:=by
 intro m;induction m with
 |zero=>
  intro i hi Sp;show kP Q (jf Q 0) _ _ _ _ _ _ _;rw[kP,bp];refine hno λhv=>?_;obtain⟨j,hj,e⟩:=List.getElem_of_mem hv;have:=Sp j (by rw[hA.1]at hj;omega);have h2:=iD hj;grind
 |succ m ih=>
  intro i hi Sp;show kP Q (jf Q (m+1)) _ _ _ _ _ _ _;unfold kP;obtain⟨ad,rfl,hc⟩:=arC hA (i:=i) (by omega);rw[bN];refine⟨by omega,by omega,ah ?_⟩;apply aR hc;by_cases hv:v=gi cs i
  ·rw[hv,beq_self_eq_true,cond_true];exact hy (by rw[hv];exact fE (by rw[hA.1];omega)) i
  ·rw[show(v==gi cs i)=false by grind,cond_false,aG];refine ih (i+1) (by omega) λj hj=>?_;grind
def HU {v:Int}{Q:Bool->World->Prop}(hA:l7 w a n 1 bu cs)(hn:n<1000000000)(h:Q (decide (v∈cs)) w):iV a n c v w Q:=by
 apply FQ;apply HP;refine⟨n+1,alq hA hn (λhv i=>?_) (λhv=>?_) n 0 (by omega) (λj hj=>by omega)⟩
 all_goals simp_all
def C2 {tw th:Int}{Q:Bool->World->Prop}(s:Sep F W w L)(hA:l7 w a n 1 bu cs)(h:∀w',Sep F W w' L->Fr No w w'->Q (DL tw th cs) w'):uN tw th a n c w Q:=by
 apply ac_;refine aN (F:=No) bh λb1 w1 s1=>?_;have hh:=h w1 (bV s (au s1)) (au s1);have hA1:=hA.fr (au s1);unfold DL at hh;apply lI s1 0 rfl;apply Lw;cases h1:decide (1<=tw/\tw<=16)with
 |false=>
  grind
 |true=>
  rw[h1,Bool.true_and]at hh;apply lI s1 0 rfl;apply Lw;cases h2:decide (1<=th/\th<=16)with
  |false=>
   grind
  |true=>
   rw[h2,Bool.true_and]at hh;have h1':=of_decide_eq_true h1;have h2':=of_decide_eq_true h2;apply lS s1 0 rfl;apply lI s1 0 rfl;apply lI s1 0 rfl;have hp:1<=tw*th/\tw*th<=256:=by have q1:=Int.mul_le_mul h1'.1 h2'.1 (by decide) (by omega);have q2:=Int.mul_le_mul h1'.2 h2'.2 (by omega) (by decide);omega
   rw[aG];have hl:=hA.1;by_cases h3:(cs.length:Int)=tw*th
   ·rw[decide_eq_true h3,Bool.true_and]at hh;rw[show((n:Int)==tw*th)=true by grind,cond_true];apply lS s1 0 rfl;exact HU hA1 (by omega) hh
   grind
def isB (tw th:Int)(cs:List Int)(l:Int):Bool:=decide (0<=l/\l<(cs.length:Int))&&DL tw th cs
def agf {tw th l:Int}{Q:Bool->World->Prop}(s:Sep F W w L)(hA:l7 w a n 1 bu cs)(h:∀w',Sep F W w' L->Fr No w w'->Q (isB tw th cs l) w'):Jw tw th a n c l w Q:=by
 apply agb;refine aN (F:=No) bh λb1 w1 s1=>?_;have hh:=h w1 (bV s (au s1)) (au s1);have hA1:=hA.fr (au s1);have hl:=hA.1;unfold isB at hh;by_cases h1:l≥0
 ·rw[bN h1];apply lS s1 0 rfl;by_cases h2:l<(n:Int)
  ·rw[bN h2];apply lI s1 0 rfl;apply lI s1 0 rfl;apply lS s1 0 rfl;refine C2 s1 hA1 λw2 s2 k2=>?_;have hh:=h w2 (bV s (au s2)) (au s2);unfold isB at hh;grind
  grind
 grind
def atI (tw th:Int)(cs:List Int)(l:Int):Int:=cond (isB tw th cs l) (gi cs l.toNat) 0
def agh {tw th l:Int}{Q:Int->World->Prop}(s:Sep F W w L)(hA:l7 w a n 1 bu cs)(hcs:∀x∈cs,0<=x/\x<256)(h:∀w',Sep F W w' L->Fr No w w'->Q (atI tw th cs l) w'):Jv tw th a n c l w Q:=by
 apply agc;refine aN (F:=No) bh λb1 w1 s1=>?_;apply lI s1 0 rfl;apply lI s1 0 rfl;apply lS s1 0 rfl;refine agf s1 (hA.fr (au s1)) λw2 s2 k2=>?_;have hh:=h w2 (bV s (au s2)) (au s2);have hA2:=hA.fr (au s2);have hl:=hA.1;unfold atI at hh;cases hb:isB tw th cs l with
 |false=>
  grind
 |true=>
  rw[hb,cond_true]at hh;have hr:0<=l/\l<(cs.length:Int):=by unfold isB at hb;grind
  obtain⟨i,rfl⟩:∃i:Nat,l=i:=⟨l.toNat,by omega⟩;obtain⟨ad,rfl,hc⟩:=arC hA2 (i:=i) (by omega);apply lS s2 0 rfl;refine⟨by omega,by omega,ah ?_⟩;apply aR hc;have:=hcs _ (fE (i:=i) (by omega));rw[aG];exact hh
end
end Go.Proofs.YtmegplnmiepfbaaGreatDoor.S.Tl
namespace Go.Proofs.YtmegplnmiepfbaaGreatDoor.S.O
open Go.Sx
def ef:wP P T:=EF P rows HC
def xu:zc T 38=[ae 0,ae 0,ae 0,.slice none 0 0]:=rfl
def rA:zc T 137=[ae 0,ae 0,.bool false]:=rfl
attribute [local irreducible] af cA bw bg aA cq bY St Bx Al App cD cy cw bT aL bC aq bR av ak aV
def Gs {F:Nat->Prop}{W w:World}{L:List As}{k:Int}{Q:Int->Int->Bool->Bool->World->Prop}(s0:Sep F W w L)(h:∀w',Sep F W w' L->Fr No w w'->Q (wQ k) (BL k) (shL k) (Dv k) w'):wT k w Q:=by
 apply aa0;have s:=bh (F:=No) (w:=w);by_cases hk:1<=k/\k<=8
 ·have hk':k=1\/k=2\/k=3\/k=4\/k=5\/k=6\/k=7\/k=8:=by omega
  rcases hk' with rfl|rfl|rfl|rfl|rfl|rfl|rfl|rfl
  all_goals
   repeat' first
    |apply lI s 0 rfl
    |apply lS s 0 rfl
    |apply lB s 0 rfl
    |apply lP s 0 rfl
    |apply And.intro (cj s 0 rfl)
    |apply lI s 1 rfl
    |apply lS s 1 rfl
    |apply lB s 1 rfl
    |apply lP s 1 rfl
    |apply And.intro (cj s 1 rfl)
    |(refine sT s 0 rfl λw s=>?_)
    |(refine sT s 1 rfl λw s=>?_)
    |refine aN s λb w s=>?_
    |(refine aS s λb w s=>?_;simp[xu,rA]at s)
    |unfold uO
    |unfold mO
    |(replace s:=ay s;first
     |apply lI s 0 rfl
     |apply lS s 0 rfl
     |apply lB s 0 rfl
     |apply lP s 0 rfl
     |apply And.intro (cj s 0 rfl)
     |apply lI s 1 rfl
     |apply lS s 1 rfl
     |apply lB s 1 rfl
     |apply lP s 1 rfl
     |apply And.intro (cj s 1 rfl)
     |(refine ax s (i:=0) rfl rfl rfl λw s=>?_)
     |(refine ax s (i:=1) rfl rfl rfl λw s=>?_;simp[List.set_cons_zero,List.set_cons_succ]at s)
     |refine aN s λb w s=>?_
     |(refine aS s λb w s=>?_;simp[xu,rA]at s)
     |unfold uO
     |unfold mO)
  all_goals exact h _ (bV s0 (au s)) (au s)
 ·have e:∀j:Int,1<=j/\j<=8->(k==j)=false:=λj hj=>by grind
  rw[e 1 (by decide),e 2 (by decide),e 3 (by decide),e 4 (by decide),e 5 (by decide),e 6 (by decide),e 7 (by decide),e 8 (by decide)]
  (refine aS s λb w s=>?_;simp[xu,rA]at s)
  (refine aS s λb w s=>?_;simp[xu,rA]at s)
  (refine ax s (i:=1) rfl rfl rfl λw s=>?_)
  (refine ax s (i:=1) rfl rfl rfl λw s=>?_)
  (refine ax s (i:=1) rfl rfl rfl λw s=>?_)
  apply lI s 1 rfl;apply lI s 1 rfl;apply lB s 1 rfl;have:=h _ (bV s0 (au s)) (au s);rw[show wQ k=0 by unfold wQ;grind,show BL k=0 by unfold BL;grind,show shL k=false from decide_eq_false (by omega),show Dv k=false from decide_eq_false (by omega)]at this;exact this
def JL {w:World}{n:Int}{sz:Nat}{Q:Bool->World->Prop}(hs:sz<=4)(h:Q (En n sz) w):AB n sz w Q:=by
 apply af1;unfold En at h;by_cases h0:n≥0
 ·rw[bN h0];have e:BD .i64 1 (IntKind.wrap .i64 (8*(sz:Int)))=256^sz/\0<=IntKind.wrap .i64 (8*(sz:Int)):=by
   have hs':sz=0\/sz=1\/sz=2\/sz=3\/sz=4:=by omega
   rcases hs' with rfl|rfl|rfl|rfl|rfl<;>decide
  refine⟨e.2,?_⟩;grind
 grind
def adC {a b:Int}{k:Nat}(hk:k<=24)(ha:0<=a/\a<2^k)(hb:0<=b/\b<256):ior .i64 a (BD .i64 b (k:Int))=a+b*2^k:=by
 obtain⟨m,rfl⟩:∃m:Nat,a=m:=⟨a.toNat,by omega⟩;obtain⟨p,rfl⟩:∃p:Nat,b=p:=⟨b.toNat,by omega⟩;have hm:m<2^k:=by grind
 have IM:(2:Nat)^k<=2^24:=Nat.pow_le_pow_right (by decide) hk;have hp:p*2^k<=255*2^24:=Nat.mul_le_mul (by omega) IM;have e1:BD .i64 (p:Int) (k:Int)=((p*2^k:Nat):Int):=by
  unfold BD;have e:min ((k:Nat):Int).toNat (IntKind.i64).bits=k:=by simp[IntKind.bits];omega
  rw[e,show(p:Int)*2^k=((p*2^k:Nat):Int) by grind,aG]
 rw[e1];rw[ior,BitVec.ofInt_natCast,BitVec.ofInt_natCast,BitVec.toNat_or,BitVec.toNat_ofNat,BitVec.toNat_ofNat];have b64:(IntKind.i64).bits=64:=rfl;rw[b64,Nat.mod_eq_of_lt (by omega),Nat.mod_eq_of_lt (by omega),Nat.or_comm,Nat.mul_comm p,<-Nat.two_pow_add_eq_or_of_lt hm];rw[Nat.mul_comm]at hp;rw[aG];grind
def apW (l:List Int)(x:Int):o8 (l++[x])=o8 l+x*2^(8*l.length):=by
 induction l with
 |nil=>simp[o8]
 |cons y l ih=>
  simp[List.cons_append,o8,ih,List.length_cons];grind
def ant {l:List Int}{i:Nat}(h:i<l.length):l.take (i+1)=l.take i++[gi l i]:=by rw[List.take_add_one,iD h];rfl
section
variable {F:Nat->Prop}{W w:World}{L:List As}{a:Option Addr}{n c:Nat}{bs:List Int}
def Gt {Q:Int->World->Prop}(hA:Sl w a n c 1 bu bs)(hr:ee bs)(hn:n<=4)(h:Q (o8 bs) w):wW a n c w Q:=by
 apply aa1;have loop:∀(m i:Nat),i+m=n->wK Q (m+1) (o8 (bs.take i)) a n c n i w:=by
  intro m;induction m with
  |zero=>
   intro i hi;show AE Q (wK Q 0) _ _ _ _ _ _ _;rw[AE,bp,List.take_of_length_le (by rw[hA.len];omega)];exact h
  |succ m ih=>
   intro i hi;show AE Q (wK Q (m+1)) _ _ _ _ _ _ _;rw[AE,bN];apply Sl.Db hA rfl (by omega);have hv:=hr _ (fE (i:=i) (by rw[hA.len];omega));rw[aG,aG,aG];refine⟨by omega,?_⟩;have li:(bs.take i).length=i:=by rw[List.length_take,hA.len];omega
   have e:=aaM (hr.take i);have e2:(256:Int)^i=2^(8*i):=by rw[Int.pow_mul];rfl
   rw[show 8*(i:Int)=((8*i:Nat):Int) by grind,adC (by omega) (by grind) hv];have:=ih (i+1) (by omega);rw[ant (by rw[hA.len];omega),apW,li]at this;exact this
 have:=loop n 0 (by omega);exact⟨n+1,this⟩
end
end Go.Proofs.YtmegplnmiepfbaaGreatDoor.S.O
namespace Go.Proofs.YtmegplnmiepfbaaGreatDoor.S.O
open Go.Sx
attribute [local irreducible] af cA bw bg aA cq bY St Bx Al App cD cy cw bT aL bC aq bR av ak aV
section
variable {F:Nat->Prop}{W w:World}{L:List As}{a:Option Addr}{n c:Nat}{bs:List Int}
def clone {K:Option Addr->Nat->Nat->World->Prop}(s:Sep F W w L)(h:Sl w a n c 1 bu bs)(hn:n<=1000000000000)(k:∀ra rc w',Sep F W w' (ak ra n rc 5 1 (flat bu bs)::L)->K ra n rc w'):
  App P #[22,22] 22 (.slice none 0 0) (.slice a n c) w K:=by
 have src:=h.src (e:=5) dJ AT;refine iw ef (bD s 5 1) (i:=0) (bytes:=1) rfl rfl rfl rfl rfl rfl (by decide) rfl src (by simp[maxLen];omega) (by omega) h.nil λa1 c1 w1 s1=>?_;grind
def at5 {K:Option Addr->Nat->Nat->World->Prop}{b:Nat}(s:Sep F W w (av b 5 []::L))(h:Sl w a n c 1 bu bs)(hn:n<=1000000000000)(k:∀ra rc w',Sep F W w' (ak ra n rc 5 1 (flat bu bs)::L)->K ra n rc w'):
  App P #[22,22] 22 (.slice (sZ b) 0 0) (.slice a n c) w K:=by
 have src:=h.src (e:=5) dJ AT;have s:=g9 (n:=0) (size:=1) s (i:=0) rfl rfl (by decide) (by simp);refine iw ef s (i:=0) (bytes:=1) rfl rfl rfl rfl rfl rfl (by decide) rfl src (by simp[maxLen];omega) (by omega) h.nil λa1 c1 w1 s1=>?_;grind
def agi {w0:World}{Q:Int->Int->Int->Option Addr->Nat->Nat->Int->World->Prop}(s0:Sep F W w0 L)(hA:Sl w0 a n c 1 bu bs)(hr:ee bs)(hn:0<n)(hn2:n<=1000000000000)
  (h:∀ra rn rc w',rn=(Bc bs).1.m.length->Sep F W w' (ak ra rn rc 5 1 (flat bu (Bc bs).1.m)::L)->Fr No w0 w'->Q (Bc bs).1.k (Bc bs).1.A (Bc bs).1.B ra rn rc ((Bc bs).2:Nat) w'):Ju a n c w0 Q:=by
 apply af0;have hl:=hA.len;cases bs with
 |nil=>grind
 |cons x r=>
  obtain⟨hx,hr⟩:=hr.cons;rw[List.length_cons]at hl;have s:=bh (F:=No) (w:=w0);have rr:=hr
  (refine aS s λb w s=>?_;simp[xu,rA]at s)
  apply Sl.Db (hA.fr (au s)).drew rfl (by omega);have g0:gi (x::r) 0=x:=rfl;rw[g0,aG];refine hA.lo (m:=1) rfl (by omega) λta tn tc QB hT=>?_;have hT:Sl w0 ta tn tc 1 bu r:=hT;refine Gs (ay s) λw s k=>?_
  (refine aS s λb w s=>?_;simp[xu,rA]at s)
  (refine ax s (i:=0) rfl rfl rfl λw s=>?_)
  (refine ax s (i:=0) rfl rfl rfl λw s=>?_)
  (refine ax s (i:=0) rfl rfl rfl λw s=>?_)
  have short:Bc (x::r)=(⟨0,0,0,[]⟩,0)->∀w',Fr No w0 w'->Q 0 0 0 none 0 0 0 w':=λe w' f=>by rw[e]at h;exact h none 0 0 w' rfl (bD (bV s0 f) 5 1) f
  cases hk:Dv x with
  |false=>
   have e:Bc (x::r)=(⟨0,x,0,[]⟩,1):=by rw[CE,if_neg (by grind)]
   rw[e]at h
   (refine ax s (i:=1) rfl rfl rfl λw s=>?_)
   (refine ax s (i:=1) rfl rfl rfl λw s=>?_)
   (refine ax s (i:=1) rfl rfl rfl λw s=>?_)
   (refine ax s (i:=1) rfl rfl rfl λw s=>?_)
   apply lI s 1 rfl;apply lI s 1 rfl;apply lI s 1 rfl;apply lS s 1 rfl;exact h none 0 0 _ rfl (bD (bV s0 (au s)) 5 1) (au s)
  |true=>
   apply lB s 0 rfl;cases hL:shL x with
   |true=>
    by_cases h4:tn<4
    ·rw[bN]
     (refine ax s (i:=1) rfl rfl rfl λw s=>?_)
     (refine ax s (i:=1) rfl rfl rfl λw s=>?_)
     (refine ax s (i:=1) rfl rfl rfl λw s=>?_)
     (refine ax s (i:=1) rfl rfl rfl λw s=>?_)
     apply lI s 1 rfl;apply lI s 1 rfl;apply lI s 1 rfl;apply lS s 1 rfl;exact short (by rw[CE,if_pos hk,if_pos hL,AA]) _ (au s)
    ·rw[bp];refine hT.hi (m:=4) rfl (by omega) λua uc hU=>?_;apply Gt (hU.fr (au s)) (rr.take 4) (by decide);have l4:(r.take 4).length=4:=by grind
     have rg:=aaM (rr.take 4);rw[aG];by_cases h5:(tn:Int)-4<o8 (r.take 4)
     ·rw[bN h5]
      (refine ax s (i:=1) rfl rfl rfl λw s=>?_)
      (refine ax s (i:=1) rfl rfl rfl λw s=>?_)
      (refine ax s (i:=1) rfl rfl rfl λw s=>?_)
      (refine ax s (i:=1) rfl rfl rfl λw s=>?_)
      apply lI s 1 rfl;apply lI s 1 rfl;apply lI s 1 rfl;apply lS s 1 rfl;exact short (by rw[CE,if_pos hk,if_pos hL,fS,AA]) _ (au s)
     ·rw[bp h5,aG,aG];have e:Bc (x::r)=(⟨x,0,0,(r.drop 4).take (o8 (r.take 4)).toNat⟩,5+(o8 (r.take 4)).toNat):=by rw[CE,if_pos hk,if_pos hL,fS,fS]
      rw[e]at h;refine hT.mid (p:=4) (q:=4+(o8 (r.take 4)).toNat) rfl (by omega) (by omega) (by omega) λva vn vc hvn hV=>?_;rw[show 4+(o8 (r.take 4)).toNat-4=(o8 (r.take 4)).toNat by omega]at hvn hV;refine clone s (hV.fr (au s)) (by omega) λra rc w s=>?_
      (refine ax s (i:=2) rfl rfl rfl λw s=>?_)
      (refine ax s (i:=2) rfl rfl rfl λw s=>?_)
      (refine ax s (i:=2) rfl rfl rfl λw s=>?_)
      (refine ax s (i:=2) rfl rfl rfl λw s=>?_)
      apply lI s 2 rfl;apply lI s 2 rfl;apply lI s 2 rfl;apply lS s 2 rfl;have hq:=h ra vn rc _ (by grind) (dD s0 s (i:=0) rfl) (au s);grind
   |false=>
    apply lI s 0 rfl;apply lI s 0 rfl;have hab:=apS x;rw[aG];by_cases h5:tn<wQ x+BL x
    ·rw[bN]
     (refine ax s (i:=1) rfl rfl rfl λw s=>?_)
     (refine ax s (i:=1) rfl rfl rfl λw s=>?_)
     (refine ax s (i:=1) rfl rfl rfl λw s=>?_)
     (refine ax s (i:=1) rfl rfl rfl λw s=>?_)
     apply lI s 1 rfl;apply lI s 1 rfl;apply lI s 1 rfl;apply lS s 1 rfl;exact short (by rw[CE,if_pos hk,if_neg (by grind),AA]) _ (au s)
    ·rw[bp];have e:Bc (x::r)=(⟨x,o8 (r.take (wQ x)),o8 ((r.drop (wQ x)).take (BL x)),[]⟩,1+wQ x+BL x):=by rw[CE,if_pos hk,if_neg (by grind),fS]
     rw[e]at h;have s:=ay s;apply lI s 0 rfl;refine hT.hi (m:=wQ x) rfl (by omega) λua uc hU=>?_;apply lI s 0 rfl;apply lI s 0 rfl;apply lI s 0 rfl;rw[aG];refine hT.mid (p:=wQ x) (q:=wQ x+BL x) rfl (by omega) (by omega) (by omega) λva vn vc hvn hV=>?_;apply lI s 0 rfl;apply lI s 0 rfl;apply Gt (hU.fr (au s)) (rr.take _) (by omega);apply And.intro (cj s 0 rfl);apply And.intro (cj s 0 rfl);apply And.intro (cj s 0 rfl);apply And.intro (cj s 0 rfl);apply And.intro (cj s 0 rfl);apply Gt (hV.fr (au s)) ((rr.drop _).take _) (by omega);apply And.intro (cj s 0 rfl);apply And.intro (cj s 0 rfl)
     (refine ax s (i:=1) rfl rfl rfl λw s=>?_)
     (refine ax s (i:=1) rfl rfl rfl λw s=>?_)
     (refine ax s (i:=1) rfl rfl rfl λw s=>?_)
     (refine ax s (i:=1) rfl rfl rfl λw s=>?_)
     apply And.intro (cj s 0 rfl);apply And.intro (cj s 0 rfl);apply lI s 1 rfl;apply lI s 1 rfl;apply lI s 1 rfl;apply lS s 1 rfl;rw[aG (n:=(1:Int)+(wQ x:Int)),aG];have hq:=h none 0 0 _ rfl (bD (bV s0 (au s)) 5 1) (au s);grind
def ahR {Q:Bool->World->Prop}(s0:Sep F W w L)(hA:Sl w a n c 1 bu bs)(hr:ee bs)(hn2:n<=1000000000000)(h:∀w',Sep F W w' L->Fr No w w'->Q (apT bs) w'):K5 a n c w Q:=by
 apply ahI;have hl:=hA.len;by_cases h0:n=0
 ·subst h0;have:bs=[]:=List.eq_nil_of_length_eq_zero hl;subst this;have:=h w s0 Fr.refl;exact this
 ·rw[show((n:Int)==0)=false by grind,cond_false];have s:=bh (F:=No) (w:=w);refine agi s hA hr (by omega) hn2 λra rn rc w _ s _=>?_
  (refine aS s λb w s=>?_;simp[xu,rA]at s)
  (refine ax s (i:=0) rfl rfl rfl λw s=>?_)
  (refine ax s (i:=0) rfl rfl rfl λw s=>?_)
  (refine ax s (i:=0) rfl rfl rfl λw s=>?_)
  (refine ax s (i:=0) rfl rfl rfl λw s=>?_)
  have hq:=h _ (bV s0 (au s)) (au s);have hne:bs≠[]:=λe=>by grind
  unfold apT at hq;rw[decide_eq_true hne,Bool.true_and]at hq;rw[show(((Bc bs).2:Int)==0)=decide ((Bc bs).2=0) by grind];exact hq
end
def ahS {F:Nat->Prop}{W w0:World}{L:List As}{a:Option Addr}{n c:Nat}{o:k_}{Q:Bool->World->Prop}(s0:Sep F W w0 L)(hA:Sl w0 a n c 1 bu o.m)(hr:ee o.m)(hn2:n<=1000000000000)(h:∀w',Sep F W w' L->Fr No w0 w'->Q (EI o) w'):K3 o.k o.A o.B a n c w0 Q:=by
 apply ahJ;obtain⟨k,A,B,m⟩:=o;simp only at hA hr h⊢;have hl:=hA.len;have hm0:((n:Int)==0)=decide (m=[]):=by
  rw[Bool.eq_iff_iff,beq_iff_eq,decide_eq_true_eq];constructor
  ·intro e;simp_all
  grind
 have s:=bh (F:=No) (w:=w0);have hh:∀w' Ls,Sep No w0 w' Ls->Q (EI ⟨k,A,B,m⟩) w':=λw' Ls s=>h w' (bV s0 (au s)) (au s);unfold EI at hh;refine aN s λb w s=>?_;apply lI s 0 rfl;by_cases hk:k=0
 ·rw[show(k==0)=true by grind,cond_true];apply lI s 0 rfl;by_cases hA1:A=-1
  ·rw[show(A==-1)=true by grind,cond_true];apply lI s 0 rfl;by_cases hB:B=0
   ·rw[show(B==0)=true by grind,cond_true];apply lS s 0 rfl;refine ahR s (hA.fr (au s)) hr hn2 λw s _=>?_;grind
   grind
  ·rw[show(A==-1)=false by grind,cond_false];apply lI s 0 rfl;refine Gs s λw s _=>?_
   (refine aS s λb w s=>?_;simp[xu,rA]at s)
   (refine ax s (i:=0) rfl rfl rfl λw s=>?_)
   (refine ax s (i:=0) rfl rfl rfl λw s=>?_)
   (refine ax s (i:=0) rfl rfl rfl λw s=>?_)
   apply lI s 1 rfl;apply JL (by decide);cases hf:En A 1 with
   |false=>
    grind
   |true=>
    cases hs:Dv A with
    |true=>
     grind
    |false=>
     apply lI s 1 rfl;by_cases hB:B=0
     ·rw[show(B==0)=true by grind,cond_true];apply lS s 1 rfl;grind
     grind
 ·simp[if_neg hk]at hh;rw[show(k==0)=false by grind,cond_false];apply lI s 0 rfl;refine Gs s λw s _=>?_
  (refine aS s λb w s=>?_;simp[xu,rA]at s)
  (refine ax s (i:=0) rfl rfl rfl λw s=>?_)
  (refine ax s (i:=0) rfl rfl rfl λw s=>?_)
  (refine ax s (i:=0) rfl rfl rfl λw s=>?_)
  cases hs:Dv k with
  |false=>
   grind
  |true=>
   have hab:=apS k;apply lI s 1 rfl;apply lI s 0 rfl;apply JL hab.1;cases hf:En A (wQ k)with
   |false=>
    grind
   |true=>
    apply lI s 1 rfl;apply lI s 0 rfl;apply JL hab.2;cases hg:En B (BL k)with
    |false=>
     grind
    |true=>
     apply lS s 1 rfl;rw[hm0];by_cases hm:m=[]
     ·grind
     ·rw[bp hm];apply lB s 0 rfl;have:=hh _ _ s;cases hL:shL k with
      |false=>grind
      |true=>
       apply lS s 1 rfl;rw[hs,hf,hg,decide_eq_false hm,Bool.false_or,Bool.true_and,Bool.true_and,Bool.true_and,hL,Bool.true_and]at this;rwa[show decide ((n:Int)<=4294967295)=decide (m.length<=4294967295)from decide_eq_decide.2 (by omega)]
structure Gu where
 k:Int
 A:Int
 B:Int
 a:Option Addr
 n:Nat
 c:Nat
def Gv (v:Gu):List Value:=[ae v.k,ae v.A,ae v.B,.slice v.a v.n v.c]
def asL (v:Gu):(Gv v).length=4:=rfl
def akp (v:Gu)(u:Value)(h:u∈Gv v):u.oneCell'=true:=by simp[Gv,List.mem_cons,List.not_mem_nil,or_false]at h;rcases h with rfl|rfl|rfl|rfl<;>rfl
structure OpV (w:World) (v:Gu) (o:k_):Prop where
 k:v.k=o.k
 A:v.A=o.A
 B:v.B=o.B
 m:Sl w v.a v.n v.c 1 bu o.m
 jC:ee o.m
structure agB (e:Gu×k_):Prop where
 k:e.1.k=e.2.k
 A:e.1.A=e.2.A
 B:e.1.B=e.2.B
 jC:ee e.2.m
def Ew (es:List (Gu×k_)):As:=aV (∀e∈es,agB e) (es.map λe=>ak e.1.a e.1.n e.1.c 5 1 (flat bu e.2.m))
section
variable {F:Nat->Prop}{W w:World}{L:List As}{oa:Option Addr}{on oc:Nat}{es:List (Gu×k_)}
def anu (s:Sep F W w L):Sep F W w (Ew []::L):=by exact dA s (by simp)
def aeS {v:Gu}{o:k_}(s:Sep F W w (Ew es::ak v.a v.n v.c 5 1 (flat bu o.m)::L))(ha:agB (v,o)):Sep F W w (Ew (es++[(v,o)])::L):=by
 unfold Ew at s⊢;obtain⟨h1,s⟩:=gP s;refine dA ?_ λe he=>?_
 all_goals grind
def avR {v:Gu}{o:k_}{K:Option Addr->Nat->Nat->World->Prop}(s:Sep F W w (ak oa on oc 38 4 (flat Gv (es.map (·.1)))::Ew es::ak v.a v.n v.c 5 1 (flat bu o.m)::L))(ha:agB (v,o))(Ch:on<=1000000000)
  (k:∀a' c' w',Sep F W w' (ak a' (on+1) c' 38 4 (flat Gv ((es++[(v,o)]).map (·.1)))::Ew (es++[(v,o)])::L)->K a' (on+1) c' w'):
  Bx [ae v.k,ae v.A,ae v.B,.slice v.a v.n v.c] 38 w λp w1=>App P #[46,46] 46 (.slice oa on oc) (.slice (some p) 1 1) w1 K:=by
 refine aN s λb w1 s1=>?_;have src:Src w1 (sZ b) 1 4 (Gv v):=⟨rfl,akp v,λj u hj=>by rw[cm,Nat.zero_add];exact cK s1 (i:=0) rfl rfl hj⟩;refine iw ef s1 (i:=1) (bytes:=48) rfl rfl rfl rfl rfl rfl (by decide) rfl src (by simp[maxLen];omega) (by omega) (λe=>by cases e) λa1 c1 w2 s2=>?_;have e:flat Gv (es.map (·.1))++Gv v=flat Gv ((es++[(v,o)]).map (·.1)):=by rw[List.map_append,fZ];simp[flat]
 rw[e]at s2;apply k a1 c1 w2;have s4:=cg (ai s2) (List.Perm.trans (List.Perm.swap ..) (List.Perm.cons _ (List.Perm.swap ..)));exact cg (aeS s4 ha) (List.Perm.swap ..)
end
def cF {n lo hi:Int}{w:World}{Q:Int->World->Prop}(h1:lo<=hi)(h2:-1099511627776<=lo)(h3:hi<=1099511627776)(h:Q (lo+n%(hi-lo+1)) w):aY n lo hi w Q:=by
 apply uj;rw[aG (n:=hi-lo),aG];generalize hs:hi-lo+1=s at h;have h4:=Int.lt_tmod_of_pos n (b:=s) (by omega);have h5:=Int.tmod_lt_of_pos n (b:=s) (by omega);have h6:=Int.tmod_add_mul_tdiv n s;refine⟨by omega,?_⟩;generalize ht:Int.tmod n s=t at*;have e:n%s=t%s:=by rw[<-h6,Int.add_mul_emod_self_left]
 by_cases hn:t<0
 ·rw[bN hn,aG (n:=t+hi),aG (n:=t+hi-lo),aG (n:=t+hi-lo+1),aG];have e2:t%s=t+s:=by rw[<-Int.add_emod_right,Int.emod_eq_of_lt (by omega) (by omega)]
  grind
 ·rw[bp hn,aG];rw[e,Int.emod_eq_of_lt (by omega) h5]at h;exact h
def zq {w:World}{m lo hi:Int}{Q:Bool->World->Prop}(h:Q (decide (lo<=m/\m<=hi)) w):lU m lo hi w Q:=by apply Qr;grind
section
variable {F:Nat->Prop}{W w w0:World}{L:List As}{a a' b:Option Addr}{n c n' c' m q:Nat}{bs cs:List Int}
def ahT {x:Int}{K:Option Addr->Nat->Nat->World->Prop}(s:Sep F W w (ak a n c 5 1 (flat bu bs)::L))(hn:n<=2000000000000)
  (k:∀a' c' w',Sep F W w' (ak a' (n+1) c' 5 1 (flat bu (bs++[x]))::L)->K a' (n+1) c' w'):Bx [.int .u8 x] 5 w λp w1=>App P #[22,22] 22 (.slice a n c) (.slice (some p) 1 1) w1 K:=by
 refine aN s λb w s=>?_;have src:Src w (sZ b) 1 1 [.int .u8 x]:=⟨rfl,(λu hu=>by rw[List.mem_singleton.1 hu];rfl),λj u hj=>by rw[cm,Nat.zero_add];exact cK s (i:=0) rfl rfl hj⟩;refine iw ef s (i:=1) (bytes:=1) rfl rfl rfl rfl rfl rfl (by decide) rfl src (by simp[maxLen];omega) (by omega) (λe=>by cases e) λa1 c1 w1 s1=>?_;have e:flat bu bs++[.int .u8 x]=flat bu (bs++[x]):=by rw[fZ];rfl
 rw[e]at s1;exact k _ _ _ (ai s1)
def alr {K:Option Addr->Nat->Nat->World->Prop}(s:Sep F W w (ak a n c 5 1 (flat bu bs)::L))(h:Sl w b m q 1 bu cs)(hn:n+m<=2000000000000)
  (k:∀a' c' w',Sep F W w' (ak a' (n+m) c' 5 1 (flat bu (bs++cs))::L)->K a' (n+m) c' w'):App P #[22,22] 22 (.slice a n c) (.slice b m q) w K:=by
 have src:=h.src (e:=5) dJ AT;refine iw ef s (i:=0) (bytes:=1) rfl rfl rfl rfl rfl rfl (by decide) rfl src (by simp[maxLen];omega) (by omega) h.nil λa1 c1 w1 s1=>?_;rw[<-fZ]at s1;grind
end
section
variable {F:Nat->Prop}{W w w0:World}{L:List As}
def arF {b:Nat}{x:Int}(s:Sep F W w (av b 5 [.int .u8 x]::L)):Sep F W w (ak (sZ b) 1 1 5 1 (flat bu [x])::L):=
 g9 s (i:=0) rfl rfl (by decide) (λu hu=>by have hu:u∈[Value.int .u8 x]:=hu;rw[List.mem_singleton]at hu;rw[hu];rfl)
end
end Go.Proofs.YtmegplnmiepfbaaGreatDoor.S.O
namespace Go.Proofs.YtmegplnmiepfbaaGreatDoor.S
open Go.Sx
attribute [local irreducible] af cA bw bg aA cq bY St Bx Al App cD cy cw bT aL bC aq bR av ak aV mapA
def ld {p:Addr}{A B:Prop}(h:B):cond (some p).isNone A B:=h
structure gW where
 m:bJ
 ep:Int
 vs:List Int
structure xw (g:gW):Prop where
 may:cR g.m
 len:(g.vs.length:Int)=dy g.m.w g.m.h
 ep:1<=g.ep/\g.ep<4611686018427387904
 vs:∀v∈g.vs,1<=v/\v<=g.ep
structure uz where
 p:Nat
 ca:Option Addr
 cn:Nat
 cc:Nat
 va:Option Addr
 vn:Nat
 vc:Nat
def als (r:uz)(g:gW):List Value:=[ae g.m.w,ae g.m.h,.slice r.ca r.cn r.cc,ae g.ep,.slice r.va r.vn r.vc]
def abl (r:uz)(g:gW):List As:=[av r.p 174 (als r g),ak r.ca r.cn r.cc 5 1 (flat bu g.m.cs),ak r.va r.vn r.vc 2 1 (flat one g.vs)]
def nV (r:uz)(g:gW):As:=aV (xw g) (abl r g)
structure nB (w:World) (r:uz) (g:gW):Prop where
 ok:xw g
 cell:∀(j:Nat) v,(als r g)[j]? =some v->w.cell? ((aZ r.p).add j)=some v
 C:Sl w r.ca r.cn r.cc 1 bu g.m.cs
 V:Sl w r.va r.vn r.vc 1 one g.vs
def xw.gz {g:gW}(h:xw g):gz g.m.w g.m.h:=⟨h.may.w,h.may.h⟩
section
variable {F:Nat->Prop}{W w w0:World}{L:List As}{r:uz}{g:gW}
def nB.fr {w':World}(k:nB w r g)(f:Fr No w w'):nB w' r g:=⟨k.ok,λj v h=>Fr.cell f (k.cell j v h) id,k.C.fr f,k.V.fr f⟩
def aeT (s:Sep F W w (nV r g::L)):xw g/\Sep F W w (abl r g++L):=gP s
def abm (s:Sep F W w (abl r g++L))(h:xw g):Sep F W w (nV r g::L):=dA s h
def oN (s:Sep F W w (nV r g::L)):nB w r g:=by obtain⟨h,s⟩:=aeT s;exact⟨h,λj v hj=>by rw[cm,Nat.zero_add];exact cK s (i:=0) rfl rfl hj,aO s (i:=1) rfl dJ (by decide),aO s (i:=2) rfl cB (by decide)⟩
def cT (m:bJ)(c:Int):Int:=if 0<=c/\c<m.cs.length then gi m.cs c.toNat else 0
def jn {c:Int}{Q:Int->World->Prop}(k:nB w r g)(h:Q (cT g.m c) w):fe (sZ r.p) c w Q:=by
 apply RH;apply ld;have hl:=k.C.len;unfold cT at h;by_cases h0:c<0
 ·grind
 rw[bp h0];refine ah (dx (k.cell 2 _ rfl) ?_);by_cases h1:c≥(r.cn:Int)
 ·grind
 rw[bp h1];refine ah (dx (k.cell 2 _ rfl) ?_);rw[AA]at h;have hb:=k.ok.may.jC _ (fE (i:=c.toNat) (by omega));apply k.C.Db (k:=c.toNat) (by omega) (by omega);rw[aG];exact h
def qY {Q:Int->World->Prop}(k:nB w r g)(h:Q g.ep w):f_ (sZ r.p) w Q:=by apply Fw;exact ld (ah (aR (k.cell 3 _ rfl) h))
def ZG {Q:Int->World->Prop}(h:Q 0 w):f_ none w Q:=Fw _ _ _ h
def jo {Q:Int->Int->World->Prop}(s0:Sep F W w L)(k:nB w r g)(h:∀w',Sep F W w' L->Fr No w w'->Q g.m.w g.m.h w'):eN (sZ r.p) w Q:=by apply RL;have k:=k.fr (w':=w.drew) Fr.refl;exact ld (ah (aR (k.cell 0 _ rfl) (ah (aR (k.cell 1 _ rfl) ⟨k.cell 1 _ rfl,h _ (ay s0) Fr.refl⟩))))
def wG (g:gW)(s:Int):Int:=if 0<=s/\s<g.vs.length then gi g.vs s.toNat else 0
def rQ {c:Int}{Q:Int->World->Prop}(k:nB w r g)(h:Q (wG g c) w):i_ (sZ r.p) c w Q:=by
 apply MC;apply ld;have hl:=k.V.len;unfold wG at h;by_cases h0:c<0
 ·grind
 rw[bp h0];refine ah (dx (k.cell 4 _ rfl) ?_);by_cases h1:c≥(r.vn:Int)
 ·grind
 rw[bp h1];refine ah (dx (k.cell 4 _ rfl) ?_);rw[AA]at h;exact k.V.rG (by omega) (by omega) h
def HV {w h s:Int}(hs:dX w h s){y x:Nat}(hx:(x:Int)<aD w h s):bU w h s (y*aD w h s+x)=bU w h s (y*aD w h s)+x:=by obtain⟨e1,e2⟩:=rH (w:=aD w h s) (x:=(x:Int)) (y:=(y:Int)) (by omega);obtain⟨e3,e4⟩:=rH (w:=aD w h s) (x:=0) (y:=(y:Int)) (by omega);unfold bU;grind
def anv {m:bJ}{s:Int}(hm:cR m)(hs:dX m.w m.h s){y tw:Nat}(hw:(tw:Int)=aD m.w m.h s)(hy:(y:Int)<bz m.w m.h s){f:Nat}(hf:(f:Int)=bU m.w m.h s (y*aD m.w m.h s)):
  f+tw<=m.cs.length/\((List.range (y*tw)).map λl:Nat=>gi m.cs (bU m.w m.h s l).toNat)++(m.cs.drop f).take tw=(List.range ((y+1)*tw)).map λl:Nat=>gi m.cs (bU m.w m.h s l).toNat:=by
 have hz:=qN hs.1.1 hs.1.2 hs.2;have hl:=hm.len;have hin:∀x:Nat,x<tw->0<=bU m.w m.h s (y*aD m.w m.h s)+x/\bU m.w m.h s (y*aD m.w m.h s)+x<m.w*m.h:=λx hx=>by
  rw[<-HV hs (by omega)];refine F1 hs.1.1 hs.1.2 hs.2 ⟨?_,?_⟩
  ·have:0<=(y:Int)*aD m.w m.h s:=Int.mul_nonneg (by omega) (by omega);omega
  ·have:((y:Int)+1)*aD m.w m.h s<=bz m.w m.h s*aD m.w m.h s:=Int.mul_le_mul_of_nonneg_right (by omega) (by omega);grind
 have avS:=hin (tw-1) (by omega);refine⟨by omega,?_⟩;rw[Nat.add_mul,Nat.one_mul,List.range_add,List.map_append,List.map_map];congr 1;refine List.ext_getElem (by simp;omega) λi h1 h2=>?_;simp[List.length_map,List.length_range]at h2;simp only[List.getElem_take,List.getElem_drop,List.getElem_map,List.getElem_range,Function.comp];have e:((y*tw+i:Nat):Int)=y*aD m.w m.h s+i:=by grind
 rw[e,HV hs (by omega)];have e2:(bU m.w m.h s (y*aD m.w m.h s)+(i:Int)).toNat=f+i:=by omega
 have:=iD (l:=m.cs) (i:=f+i) (by omega);grind
def Ng {sc:Int}{Q:Int->Int->Option Addr->Nat->Nat->Bool->World->Prop}(s0:Sep F W w0 L)(k:nB w0 r g)
  (hno:¬dX g.m.w g.m.h sc->∀w',Sep F W w' L->Fr No w0 w'->Q 0 0 none 0 0 false w')
  (hyes:dX g.m.w g.m.h sc->∀ta tn tc w',Sep F W w' (ak ta tn tc 5 1 (flat bu (qj g.m sc))::L)->Fr No w0 w'->Q (aD g.m.w g.m.h sc) (bz g.m.w g.m.h sc) ta tn tc true w'):tV (sZ r.p) sc w0 Q:=by
 apply RS;have s:=bh (F:=No) (w:=w0);refine aS s λqb w s=>?_;refine jo s (k.fr (au s)) λw s _=>?_;refine vl s λw s _=>?_;unfold YS acU;have hm:=k.ok.may;have hC:=k.C;have x9:=hC.len;have hmul:=mV k.ok.gz;by_cases hs:dX g.m.w g.m.h sc
 ·have hz:=qN hs.1.1 hs.1.2 hs.2;rw[if_pos hs,if_pos hs,cQ (by omega),cond_false];obtain⟨tw,QC⟩:∃n:Nat,(n:Int)=aD g.m.w g.m.h sc:=⟨(aD g.m.w g.m.h sc).toNat,by omega⟩;obtain⟨th,hth⟩:∃n:Nat,(n:Int)=bz g.m.w g.m.h sc:=⟨(bz g.m.w g.m.h sc).toNat,by omega⟩;refine aS s λtb w s=>?_;refine ax s (i:=0) rfl rfl rfl λw s=>?_;refine ax s (i:=0) rfl rfl rfl λw s=>?_;refine ax s (i:=0) rfl rfl rfl λw s=>?_;have s:=cg (bD s 5 1) (List.Perm.refl _);have loop:∀(j y:Nat) (ta:Option Addr) (tn tc:Nat) (w:World),y+j=th->tn=y*tw->
    Sep No w0 w [ak ta tn tc 5 1 (flat bu ((List.range (y*tw)).map λl:Nat=>gi g.m.cs (bU g.m.w g.m.h sc l).toNat)),av tb 84 [ae (aD g.m.w g.m.h sc),ae (bz g.m.w g.m.h sc),.slice ta tn tc],av qb 84 [ae 0,ae 0,.slice none 0 0]]->
    ow Q (j+1) (sZ r.p) sc (aZ qb) g.m.w g.m.h (aD g.m.w g.m.h sc) (aZ tb) (bz g.m.w g.m.h sc) y w:=by
   intro j;induction j with
   |zero=>
    intro y ta tn tc w hy QB s;show rL Q (ow Q 0) _ _ _ _ _ _ _ _ _ _;rw[rL,bp];apply lI s 1 rfl;apply lI s 1 rfl;apply lS s 1 rfl
    (refine ax s (i:=2) rfl rfl rfl λw s=>?_)
    (refine ax s (i:=2) rfl rfl rfl λw s=>?_)
    (refine ax s (i:=2) rfl rfl rfl λw s=>?_)
    apply lI s 2 rfl;apply lI s 2 rfl;apply lS s 2 rfl;refine hyes hs _ _ _ _ (dD s0 s (i:=0) ?_) (au s);unfold qj;grind
   |succ j ih=>
    intro y ta tn tc w hy QB s;show rL Q (ow Q (j+1)) _ _ _ _ _ _ _ _ _ _;unfold rL;have hyl:(y:Int)*aD g.m.w g.m.h sc+aD g.m.w g.m.h sc<=aD g.m.w g.m.h sc*bz g.m.w g.m.h sc:=by have:((y:Int)+1)*aD g.m.w g.m.h sc<=bz g.m.w g.m.h sc*aD g.m.w g.m.h sc:=Int.mul_le_mul_of_nonneg_right (by omega) (by omega);grind
    have hy0:0<=(y:Int)*aD g.m.w g.m.h sc:=Int.mul_nonneg (by omega) (by omega);have ha:=Int.mul_le_mul hz.1.2 hz.2.2 (by omega) (by decide);rw[bN,aG];refine xq s λw s _=>?_;rw[CF,if_pos ⟨hs,by omega,by omega⟩];have hg:=F1 hs.1.1 hs.1.2 hs.2 (l:=(y:Int)*aD g.m.w g.m.h sc) (by omega);obtain⟨f,hf⟩:∃n:Nat,(n:Int)=bU g.m.w g.m.h sc (y*aD g.m.w g.m.h sc):=⟨(bU g.m.w g.m.h sc (y*aD g.m.w g.m.h sc)).toNat,by omega⟩;obtain⟨hin,hrow⟩:=anv hm hs QC (by omega) hf;rw[<-hf,aG];have s:=ay s;apply lS s 1 rfl;have k':=k.fr (au s);refine ah (dx (k'.cell 2 _ rfl) ?_);refine k'.C.mid (q:=f+tw) rfl (by omega) (by omega) (by omega) λa' n' c' hn' hS=>?_;rw[show f+tw-f=tw by omega]at hS hn';have hyt:((y*tw:Nat):Int)=(y:Int)*aD g.m.w g.m.h sc:=by grind
    refine O.alr s hS (by omega) λYg Yh w s=>?_;refine ax s (i:=1) rfl rfl rfl λw s=>?_;rw[aG];grind
  refine⟨th+1,loop th 0 none 0 0 w (by omega) (by omega) ?_⟩;rw[Nat.zero_mul];exact s
 ·rw[if_neg hs,if_neg hs,eC rfl,cond_true]
  (refine ax s (i:=0) rfl rfl rfl λw s=>?_)
  (refine ax s (i:=0) rfl rfl rfl λw s=>?_)
  (refine ax s (i:=0) rfl rfl rfl λw s=>?_)
  apply lI s 0 rfl;apply lI s 0 rfl;apply lS s 0 rfl;exact hno hs _ (bV s0 (au s)) (au s)
end
section
variable {F:Nat->Prop}{W w w0:World}{L:List As}{r:uz}{g:gW}{a:Option Addr}{n c:Nat}{bs:List Int}
def E1 {f:Int->List Value}{es:List Int}{e:TypeId}{i k:Nat}{x' idx:Int}{v:Value}{K:World->Prop}(hf:∀x,(f x).length=1)(s:Sep F W w L)(hi:L[i]? =some (ak a n c e 1 (flat f es)))(hk:idx=k)(hkn:k<es.length)(hx':f x'=[v])(hv:v.oneCell'=true)
  (h:∀w',Sep F W w' (L.set i (ak a n c e 1 (flat f (es.set k x'))))->K w'):aK idx n (wA a λp=>St (p.add (idx.toNat*1)) v w K):=by
 have hn:=rf s hi;rw[iT hf,Nat.mul_one,Nat.mul_one]at hn;obtain⟨b,o,rfl⟩:=pV s hi (by omega);subst hk;refine⟨by omega,by omega,ah ?_⟩;obtain⟨x,hx⟩:∃x,es[k]? =some x:=⟨_,List.getElem?_eq_getElem hkn⟩;have h1:=hf x;refine dW hf s hi hx (j:=0) (by simp[Addr.add]) (by decide) ?_ hv h;rw[hx']
 match hfx:f x,h1 with
 |[y],_=>rfl
def Gw {Q:Option Addr->Nat->Nat->World->Prop}(s:Sep F W w L)(hA:Sl w a n c 1 bu bs)(hn:n<=1000000000000)(h:∀ra rc w',Sep F W w' (ak ra n rc 5 1 (flat bu bs)::L)->Fr No w w'->Q ra n rc w'):jJ a n c w Q:=by
 apply HO;cases a with
 |none=>
  have hl:=hA.len;have:=hA.nil rfl;have h0:n=0:=by have:=hA.le;omega
  subst h0;have hb:=List.eq_nil_of_length_eq_zero hl;subst hb;exact h _ _ _ (bD s 5 1) Fr.refl
 |some p=>
  apply ld;refine aN (bh (F:=No)) λb w' s'=>?_;refine O.at5 s' (hA.fr (au s')) hn λra rc w' s'=>?_;exact h _ _ _ (dD s s' (i:=0) rfl) (au s')
def WX (m:bJ):Bool:=decide (gz m.w m.h)&&(decide ((m.cs.length:Int)=m.w*m.h)&&!decide ((0:Int)∈m.cs))
def VO {m:bJ}(hr:ee m.cs):WX m=true↔cR m:=by
 simp[WX,Bool.and_eq_true,decide_eq_true_eq,Bool.not_eq_true',decide_eq_false_iff_not];constructor
 ·rintro ⟨h1,h2,h3⟩;refine⟨h1.1,h1.2,h2,λx hx=>?_⟩;have:=hr x hx;grind
 ·intro h;exact⟨⟨h.w,h.h⟩,h.len,λh0=>by have:=h.jC _ h0;omega⟩
def Nh {m:bJ}{Q:Bool->World->Prop}(s0:Sep F W w L)(hA:Sl w a n c 1 bu m.cs)(h:∀w',Sep F W w' L->Fr No w w'->Q (WX m) w'):Bd m.w m.h a n c w Q:=by
 apply aa5;refine aN (bh (F:=No)) λmb w s=>?_;apply lI s 0 rfl;apply lI s 0 rfl;apply pO;have hA:=hA.fr (au s);have hl:=hA.len;have h:=h w (bV s0 (au s)) (au s);unfold WX at h;by_cases hm:gz m.w m.h
 ·have hmul:=mV hm;rw[bN hm];rw[decide_eq_true hm,Bool.true_and]at h;apply lS s 0 rfl;apply lI s 0 rfl;apply lI s 0 rfl;rw[aG];by_cases hc:(m.cs.length:Int)=m.w*m.h
  ·rw[eC (by omega),cond_true];rw[decide_eq_true hc,Bool.true_and]at h;apply lS s 0 rfl;exact Tl.HU hA.row (by omega) h
  grind
 grind
def OH (m:bJ)(e:Int):gW:=⟨m,e+1,List.replicate (dy m.w m.h).toNat (e+1)⟩
def akr {m:bJ}{e:Int}(hm:cR m)(he:0<=e/\e<2305843009213693952):xw (OH m e):=by
 have hc:=e_ hm.w hm.h;refine⟨hm,?_,by show 1<=e+1/\e+1<_;omega,λv hv=>?_⟩
 ·show((List.replicate _ _).length:Int)=_;rw[List.length_replicate];show((dy m.w m.h).toNat:Int)=dy m.w m.h;omega
 ·rw[List.eq_of_mem_replicate hv];show 1<=e+1/\e+1<=e+1;omega
def adE {m:bJ}{e:Int}{Q:Option Addr->World->Prop}(s0:Sep F W w0 L)(hA:Sl w0 a n c 1 bu m.cs)(hr:ee m.cs)(he:0<=e/\e<2305843009213693952)
  (hno:¬cR m->∀w',Sep F W w' L->Fr No w0 w'->Q none w')(hyes:cR m->∀r w',Sep F W w' (nV r (OH m e)::L)->Fr No w0 w'->Q (sZ r.p) w'):HD m.w m.h a n c e w0 Q:=by
 apply adj;refine aN (bh (F:=No)) λmb w s=>?_;apply lI s 0 rfl;apply lI s 0 rfl;apply lS s 0 rfl;refine Nh s (hA.fr (au s)) λw s _=>?_;by_cases hm:cR m
 ·have hmul:=mV ⟨hm.w,hm.h⟩;have hl:=hA.len;have hlen:=hm.len;have VP:=e_ hm.w hm.h;rw[(VO hr).2 hm,Bool.not_true,cond_false,bp,bp];apply lS s 0 rfl;refine Gw s (hA.fr (au s)) (by omega) λca cc w s _=>?_;refine ax s (i:=1) rfl rfl rfl λw s=>?_;apply lI s 1 rfl;apply lI s 1 rfl;apply qK;unfold ZC adB;rw[if_pos ⟨hm.w,hm.h⟩,if_pos ⟨hm.w,hm.h⟩];have s:=ay s;apply lI s 1 rfl;apply lI s 1 rfl;apply lS s 1 rfl;rw[show cE m.w*cE m.h=dy m.w m.h from rfl,aG,aG];obtain⟨N,hN⟩:∃N:Nat,dy m.w m.h=N:=⟨(dy m.w m.h).toNat,by omega⟩;rw[hN];refine xH (bytes:=8) ef s rfl rfl rfl rfl rfl rfl (by decide) cB rfl (λu hu=>by simp[one]at hu;subst hu;rfl) rfl rfl (Nat.le_refl _) (by omega) (by simp[maxLen];omega) λvb w s=>?_;refine⟨cj s 2 rfl,cj s 2 rfl,cj s 2 rfl,?_⟩;refine aN s λgb w s=>?_;apply lS s 0 rfl;have loop:∀(j i:Nat) (w:World),i+j=N->Sep No w0 w (av gb 174 [ae m.w,ae m.h,.slice ca n cc,ae (e+1),.slice (sZ vb) N N]::ak (sZ vb) N N 2 1 (flat one (List.replicate i (e+1)++List.replicate j 0))::ak ca n cc 5 1 (flat bu m.cs)::av mb 25 [ae m.w,ae m.h,.slice ca n cc]::[])->
    za Q (j+1) (aZ gb) N i w:=by
   intro j;induction j with
   |zero=>
    intro i w hi s;show B3 Q (za Q 0) _ _ _ _;rw[B3,bp];have hi:i=N:=by omega
    subst hi;have s:=b_ (L':=[_,_,_]) [0,2,1] s rfl (by decide);have s:Sep No w0 w (abl ⟨gb,ca,n,cc,sZ vb,i,i⟩ (OH m e)++[]):=by
     have e1:(OH m e).vs=List.replicate i (e+1)++List.replicate 0 0:=by show List.replicate (dy m.w m.h).toNat (e+1)=_;grind
     show Sep No w0 w [av gb 174 (als ⟨gb,ca,n,cc,sZ vb,i,i⟩ (OH m e)),ak ca n cc 5 1 (flat bu m.cs),ak (sZ vb) i i 2 1 (flat one (OH m e).vs)];rw[e1];exact s
    have s:=abm s (akr hm he);exact hyes hm ⟨gb,ca,n,cc,sZ vb,i,i⟩ _ (dD s0 s (i:=0) rfl) (au s)
   |succ j ih=>
    intro i w hi s;show B3 Q (za Q (j+1)) _ _ _ _;rw[B3,bN];have s:=ay s;apply lS s 0 rfl;apply lI s 0 rfl;refine E1 (x':=e+1) cB s (i:=1) rfl rfl (by simp) rfl rfl λw s=>?_;rw[aG];apply ih (i+1) w (by omega);have e1:(List.replicate i (e+1)++List.replicate (j+1) 0).set i (e+1)=List.replicate (i+1) (e+1)++List.replicate j 0:=by rw[List.set_append_right _ _ (by simp),List.length_replicate,Nat.sub_self,List.replicate_succ,List.set_cons_zero,List.replicate_succ',List.append_assoc];rfl
    grind
  exact⟨N+1,loop N 0 w (by omega) s⟩
 ·have hb:WX m=false:=by
   cases hb:WX m with
   |false=>rfl
   |true=>exact(hm ((VO hr).1 hb)).elim
  rw[hb,Bool.not_false,cond_true];exact hno hm _ (bV s0 (au s)) (au s)
def vQ (g:gW)(c x:Int):gW:=⟨⟨g.m.w,g.m.h,g.m.cs.set c.toNat x⟩,g.ep+1,g.vs.set (aC g.m.w g.m.h c).toNat (g.ep+1)⟩
def ahU {g:gW}(hg:xw g){c x:Int}(hx:1<=x/\x<=255)(he:g.ep<2305843009213693952):xw (vQ g c x):=by
 refine⟨⟨hg.may.w,hg.may.h,?_,λy hy=>?_⟩,?_,?_,λv hv=>?_⟩
 ·show((g.m.cs.set c.toNat x).length:Int)=_;rw[List.length_set];exact hg.may.len
 ·rcases List.mem_or_eq_of_mem_set hy with hy|rfl
  ·exact hg.may.jC y hy
  ·omega
 ·show((g.vs.set _ _).length:Int)=_;rw[List.length_set];exact hg.len
 ·have:=hg.ep;show 1<=g.ep+1/\g.ep+1<_;omega
 ·have:=hg.ep;show 1<=v/\v<=g.ep+1;rcases List.mem_or_eq_of_mem_set hv with hv|rfl
  ·have:=hg.vs v hv;omega
  ·omega
def abn {ce x:Int}{Q:Int->World->Prop}(s:Sep F W w (nV r g::L))(he:g.ep<2305843009213693952)
  (h7:¬bK g.m.w g.m.h ce->Q 7 w)(h8:bK g.m.w g.m.h ce->¬(1<=x/\x<=255)->Q 8 w)
  (h0:bK g.m.w g.m.h ce->1<=x/\x<=255->∀w',Sep F W w' (nV r (vQ g ce x)::L)->Q 0 w'):zU (sZ r.p) ce x w Q:=by
 apply RN;apply ld;have k:=oN s;obtain⟨hg,s⟩:=aeT s;have s:=s;have hl:=k.C.len;have hlen:=hg.may.len;by_cases h1:ce<0
 ·rw[bN h1];exact h7 λe=>by have:=e.2;omega
 rw[bp h1];apply ah;apply lS s 0 rfl;by_cases h2:ce≥(r.cn:Int)
 ·rw[bN h2];exact h7 λe=>by have:=e.2;omega
 rw[bp h2];have hc:bK g.m.w g.m.h ce:=⟨hg.gz,by omega,by omega⟩;by_cases h3:x<1
 ·grind
 rw[bp h3];by_cases h4:x>255
 ·grind
 rw[bp h4];have Yi:=hg.ep;apply ah;apply lS s 0 rfl;rw[wrap_u8',Int.emod_eq_of_lt (by omega) (by omega)];refine E1 (k:=ce.toNat) (x':=x) dJ s (i:=1) rfl (by omega) (by omega) rfl rfl λw s=>?_;apply ah;apply lI s 0 rfl;apply ah;rw[aG];refine ax s (i:=0) rfl rfl rfl λw s=>?_;have s:=ay s;apply ah;apply lS s 0 rfl;apply ah;apply lI s 0 rfl;apply ah;apply lI s 0 rfl;apply ah;apply lI s 0 rfl;refine eZ s λw s _=>?_;refine⟨cj s 0 rfl,cj s 0 rfl,?_⟩;have hs:=bS hc;have hvl:=hg.len;refine E1 (k:=(aC g.m.w g.m.h ce).toNat) (x':=g.ep+1) cB s (i:=2) rfl (by have:=hs.2;omega) (by have:=hs.2;omega) rfl rfl λw s=>?_;exact h0 hc (by omega) _ (abm s (ahU hg (by omega) he))
def adF {Q:Int->Int->Option Addr->Nat->Nat->World->Prop}(s0:Sep F W w0 L)(k:nB w0 r g)
  (h:∀ra rc w',Sep F W w' (ak ra r.cn rc 5 1 (flat bu g.m.cs)::L)->Fr No w0 w'->Q g.m.w g.m.h ra r.cn rc w'):AW (sZ r.p) w0 Q:=by
 apply Uw;refine aS (bh (F:=No)) λmb w s=>?_;apply ld;have hm:=k.ok.may;have hmul:=mV k.ok.gz;have hlen:=hm.len;have hl:=k.C.len;have s:=ay s;have k':=k.fr (au s);refine ah (aR (k'.cell 0 _ rfl) ?_);refine ah (aR (k'.cell 1 _ rfl) ?_);refine ah (dx (k'.cell 2 _ rfl) ?_);refine Gw s k'.C (by omega) λra rc w s _=>?_;have k':=k.fr (au s);refine⟨k'.cell 1 _ rfl,k'.cell 0 _ rfl,?_⟩
 (refine ax s (i:=1) rfl rfl rfl λw s=>?_)
 (refine ax s (i:=1) rfl rfl rfl λw s=>?_)
 (refine ax s (i:=1) rfl rfl rfl λw s=>?_)
 apply lI s 1 rfl;apply lI s 1 rfl;apply lS s 1 rfl;exact h _ _ _ (dD s0 s (i:=0) rfl) (au s)
end
def gK (w h c s:Int):Int:=if bf w h c s<0 then-1 else if aC w h (bf w h c s)=aC w h c then-1 else bf w h c s
def ff (m:bJ)(c:Int):Bool:=decide (0<cT m c/\cT m c<255)
def mD (n:Int)(f:Int->Int):List Int:=(List.range n.toNat).map λi:Nat=>f i
def mE (tw th s:Int):List Int:=
 if s=2 then mD tw λx=>(th-1)*tw+x
 else if s=0 then mD tw λx=>0+x
 else if s=1 then mD th λy=>tw-1+y*tw
 else if s=3 then mD th λy=>0+y*tw
 else[]
def abo {k:IntKind}{n:Int}{K:Int->Prop}(h:K n):dI k (.int k n) K:=by cases k<;>exact h
def at7 {K:Value->Prop}{a b c d:Int}{j:Nat}{x:Int}(hj:j=0/\x=a\/j=1/\x=b\/j=2/\x=c\/j=3/\x=d)(h:K (ae x)):IxV [ae a,ae b,ae c,ae d] j K:=by rcases hj with⟨rfl,rfl⟩|⟨rfl,rfl⟩|⟨rfl,rfl⟩|⟨rfl,rfl⟩<;>exact⟨_,rfl,h⟩
section
variable {F:Nat->Prop}{W w w0:World}{L:List As}{r:uz}{g:gW}{a:Option Addr}{n c:Nat}{bs:List Int}{mw mh ce:Int}
def Lx {x:Int}{K:Option Addr->Nat->Nat->World->Prop}(s:Sep F W w (ak a n c 3 1 (flat one bs)::L))(hn:n<=1000000000)
  (k:∀a' c' w',Sep F W w' (ak a' (n+1) c' 3 1 (flat one (bs++[x]))::L)->K a' (n+1) c' w'):Bx [ae x] 3 w λp w1=>App P #[29,29] 29 (.slice a n c) (.slice (some p) 1 1) w1 K:=by
 refine aN s λb w s=>?_;have src:Src w (sZ b) 1 1 [ae x]:=⟨rfl,(λu hu=>by rw[List.mem_singleton.1 hu];rfl),λj u hj=>by rw[cm,Nat.zero_add];exact cK s (i:=0) rfl rfl hj⟩;refine iw ef s (i:=1) (bytes:=8) rfl rfl rfl rfl rfl rfl (by decide) rfl src (by simp[maxLen];omega) (by omega) (λe=>by cases e) λa1 c1 w1 s1=>?_;have e:flat one bs++[ae x]=flat one (bs++[x]):=by rw[fZ];rfl
 rw[e]at s1;exact k _ _ _ (ai s1)
def I5 {Q:Int->Int->Int->Int->World->Prop}(s0:Sep F W w L)(h:∀w',Sep F W w' L->Fr No w w'->Q 0 1 2 3 w'):wZ w Q:=by
 apply Vp;refine aS (bh (F:=No)) λb w s=>?_
 (refine ax s (i:=0) rfl rfl rfl λw s=>?_)
 (refine ax s (i:=0) rfl rfl rfl λw s=>?_)
 (refine ax s (i:=0) rfl rfl rfl λw s=>?_)
 (refine ax s (i:=0) rfl rfl rfl λw s=>?_)
 apply lI s 0 rfl;apply lI s 0 rfl;apply lI s 0 rfl;apply lI s 0 rfl;exact h _ (bV s0 (au s)) (au s)
def J0 {sd:Int}{Q:Int->World->Prop}(s0:Sep F W w L)(h:∀w',Sep F W w' L->Fr No w w'->Q (gK mw mh ce sd) w'):ym mw mh ce sd w Q:=by
 apply XF;refine kH (bh (F:=No)) λw s _=>?_;have fin:∀w',Sep No _ w' []->Q (gK mw mh ce sd) w':=λw' s=>h w' (bV s0 (au s)) (au s);unfold gK at fin;by_cases h1:bf mw mh ce sd<0
 ·grind
 rw[bp h1];refine eZ s λw s _=>?_;refine eZ s λw s _=>?_;grind
def DM {Q:Bool->World->Prop}(k:nB w r g)(h:Q (ff g.m ce) w):s9 (sZ r.p) ce w Q:=by apply XJ;apply jn k;unfold ff at h;grind
def abp (n:Nat)(f:Int->Int):mD ((n+1:Nat):Int) f=mD n f++[f n]:=by unfold mD;rw[Int.toNat_natCast,Int.toNat_natCast,List.range_succ,List.map_append];rfl
def aeU {Q:Option Addr->Nat->Nat->World->Prop}{f0:Int}{N:Nat}(hf:0<=f0/\f0<=100000)(hN:N<=16)(h:∀ra rc w',Sep F W w' (ak ra N rc 3 1 (flat one (mD N λx=>f0+x))::L)->Q ra N rc w'):
  ∀(j i:Nat) (la:Option Addr) (lc:Nat) (w:World),i+j=N->Sep F W w (ak la i lc 3 1 (flat one (mD i λx=>f0+x))::L)->ni Q (j+1) la i lc f0 N i w:=by
 intro j;induction j with
 |zero=>
  intro i la lc w hi s;show tj Q (ni Q 0) _ _ _ _ _ _ _;unfold tj;grind
 |succ j ih=>
  intro i la lc w hi s;show tj Q (ni Q (j+1)) _ _ _ _ _ _ _;rw[tj,bN,aG];refine Lx s (by omega) λla lc w s=>?_;rw[aG];rw[<-abp i λx=>f0+x]at s;exact ih (i+1) la lc w (by omega) s
def aeV {Q:Option Addr->Nat->Nat->World->Prop}{f0 tw:Int}{N:Nat}(hf:0<=f0/\f0<=100000)(ht:0<=tw/\tw<=16)(hN:N<=16)(h:∀ra rc w',Sep F W w' (ak ra N rc 3 1 (flat one (mD N λy=>f0+y*tw))::L)->Q ra N rc w'):
  ∀(j i:Nat) (la:Option Addr) (lc:Nat) (w:World),i+j=N->Sep F W w (ak la i lc 3 1 (flat one (mD i λy=>f0+y*tw))::L)->nj Q (j+1) tw la i lc f0 N i w:=by
 intro j;induction j with
 |zero=>
  intro i la lc w hi s;show tq Q (nj Q 0) _ _ _ _ _ _ _ _;unfold tq;grind
 |succ j ih=>
  intro i la lc w hi s;show tq Q (nj Q (j+1)) _ _ _ _ _ _ _ _;unfold tq;have h1:0<=(i:Int)*tw:=Int.mul_nonneg (by omega) ht.1;have h2:(i:Int)*tw<=16*16:=Int.mul_le_mul (by omega) ht.2 ht.1 (by decide);rw[bN,aG (n:=(i:Int)*tw),aG];refine Lx s (by omega) λla lc w s=>?_;rw[aG];rw[<-abp i λy=>f0+y*tw]at s;exact ih (i+1) la lc w (by omega) s
def VQ {tw th sd:Int}{Q:Option Addr->Nat->Nat->World->Prop}(s0:Sep F W w L)(ht:1<=tw/\tw<=16)(hh:1<=th/\th<=16)
  (h:∀ra rn rc w',Sep F W w' (ak ra rn rc 3 1 (flat one (mE tw th sd))::L)->Q ra rn rc w'):BY tw th sd w Q:=by
 apply Vq;have s:=bD s0 3 1;obtain⟨TW,rfl⟩:∃N:Nat,tw=N:=⟨tw.toNat,by omega⟩;obtain⟨TH,rfl⟩:∃N:Nat,th=N:=⟨th.toNat,by omega⟩;unfold mE at h;by_cases k2:sd=2
 ·rw[eC k2,cond_true];rw[if_pos k2]at h;have h1:0<=((TH:Int)-1)*TW:=Int.mul_nonneg (by omega) (by omega);have h2:((TH:Int)-1)*TW<=16*16:=Int.mul_le_mul (by omega) (by omega) (by omega) (by decide);rw[aG (n:=(TH:Int)-1),aG];exact⟨TW+1,aeU (by omega) (by omega) (λra rc w' s=>h ra TW rc w' s) TW 0 none 0 w (by omega) s⟩
 rw[cQ k2,cond_false];rw[if_neg k2]at h;by_cases k0:sd=0
 ·rw[eC k0,cond_true];rw[if_pos k0]at h;exact⟨TW+1,aeU (by omega) (by omega) (λra rc w' s=>h ra TW rc w' s) TW 0 none 0 w (by omega) s⟩
 rw[cQ k0,cond_false];rw[if_neg k0]at h;by_cases k1:sd=1
 ·rw[eC k1,cond_true];rw[if_pos k1]at h;rw[aG];exact⟨TH+1,aeV (by omega) (by omega) (by omega) (λra rc w' s=>h ra TH rc w' s) TH 0 none 0 w (by omega) s⟩
 rw[cQ k1,cond_false];rw[if_neg k1]at h;by_cases k3:sd=3
 ·rw[eC k3,cond_true];rw[if_pos k3]at h;exact⟨TH+1,aeV (by omega) (by omega) (by omega) (λra rc w' s=>h ra TH rc w' s) TH 0 none 0 w (by omega) s⟩
 rw[cQ k3,cond_false];rw[if_neg k3]at h;exact h _ _ _ _ s
end
def bl (b:Bool):List Value:=[.bool b]
def ahV (b:Bool):(bl b).length=1:=rfl
def I6 (w h sc s:Int):Bool:=decide (0<=gK w h (CF w h sc (gi (mE (aD w h sc) (bz w h sc) s) 0)) s)
def yu (w h sc:Int)(j:Nat)(l:Nat):Bool:=(List.range j).any λs:Nat=>I6 w h sc s&&decide ((l:Int)∈mE (aD w h sc) (bz w h sc) s)
def vm (w h sc:Int):List Int:=((List.range (aD w h sc*bz w h sc).toNat).filter (yu w h sc 4)).map λl:Nat=>bU w h sc l
def alw (w h sc:Int)(j l:Nat):yu w h sc (j+1) l=(yu w h sc j l||(I6 w h sc j&&decide ((l:Int)∈mE (aD w h sc) (bz w h sc) j))):=by unfold yu;grind
def mem_range {n x:Int}{f:Int->Int}(h:x∈mD n f):∃i:Nat,(i:Int)<n/\x=f i:=by unfold mD at h;grind
def xx (n:Int)(f:Int->Int):(mD n f).length=n.toNat:=by unfold mD;simp
def ahW {tw th sd:Int}(ht:1<=tw/\tw<=16)(hh:1<=th/\th<=16):(mE tw th sd).length<=16/\(0<=sd/\sd<=3->0<(mE tw th sd).length)/\∀x∈mE tw th sd,0<=x/\x<tw*th:=by
 have m1:∀y:Int,0<=y->y<th->0<=y*tw/\y*tw+tw<=tw*th:=λy h1 h2=>by have a:0<=y*tw:=Int.mul_nonneg h1 (by omega);have b:(y+1)*tw<=th*tw:=Int.mul_le_mul_of_nonneg_right (by omega) (by omega);grind
 unfold mE;split
 ·refine⟨by rw[xx];omega,λ_=>by rw[xx];omega,λx hx=>?_⟩;obtain⟨i,hi,rfl⟩:=mem_range hx;have:=m1 (th-1) (by omega) (by omega);omega
 ·split
  ·refine⟨by rw[xx];omega,λ_=>by rw[xx];omega,λx hx=>?_⟩;obtain⟨i,hi,rfl⟩:=mem_range hx;have:=m1 0 (by omega) (by omega);omega
  ·split
   ·refine⟨by rw[xx];omega,λ_=>by rw[xx];omega,λx hx=>?_⟩;obtain⟨i,hi,rfl⟩:=mem_range hx;grind
   ·split
    ·refine⟨by rw[xx];omega,λ_=>by rw[xx];omega,λx hx=>?_⟩;obtain⟨i,hi,rfl⟩:=mem_range hx;grind
    grind
def anx {N x:Nat}{E:Nat->Bool}:((List.range N).map E).set x true=(List.range N).map λl=>E l||decide (l=x):=by refine List.ext_getElem (by simp) λi h1 h2=>?_;grind
section
variable {F:Nat->Prop}{W w w0:World}{L:List As}{r:uz}{g:gW}{a:Option Addr}{n c:Nat}{bs:List Int}{mw mh ce sc:Int}
def Ni {α:Type}{f:α->List Value}{es:List α}{e:TypeId}{i k:Nat}{x':α}{idx:Int}{v:Value}{K:World->Prop}(hf:∀x,(f x).length=1)(s:Sep F W w L)(hi:L[i]? =some (ak a n c e 1 (flat f es)))(hk:idx=k)(hkn:k<es.length)(hx':f x'=[v])(hv:v.oneCell'=true)
  (h:∀w',Sep F W w' (L.set i (ak a n c e 1 (flat f (es.set k x'))))->K w'):aK idx n (wA a λp=>St (p.add (idx.toNat*1)) v w K):=by
 have hn:=rf s hi;rw[iT hf,Nat.mul_one,Nat.mul_one]at hn;obtain⟨b,o,rfl⟩:=pV s hi (by omega);subst hk;refine⟨by omega,by omega,ah ?_⟩;obtain⟨x,hx⟩:∃x,es[k]? =some x:=⟨_,List.getElem?_eq_getElem hkn⟩;have h1:=hf x;refine dW hf s hi hx (j:=0) (by simp[Addr.add]) (by decide) ?_ hv h;rw[hx']
 match hfx:f x,h1 with
 |[y],_=>rfl
def anz {P4:Int->Int->Int->Int->Int->Option Addr->Nat->Nat->Int->Int->Int->Int->Int->World->Prop}{Q:Option Addr->Nat->Nat->World->Prop}{tw th sd:Int}{ea la:Option Addr}{N ec ln lc:Nat}{xs:List Int}{E:Nat->Bool}(vZ:0<=sd/\sd<=3)(hl:xs.length=ln)(p9:ln<=16)(hx:∀x∈xs,0<=x/\x<N)
  (next:∀w',Sep No w0 w' (ak ea N ec 4 1 (flat bl ((List.range N).map λl=>E l||decide ((l:Int)∈xs)))::ak la ln lc 3 1 (flat one xs)::L)->P4 mw mh sc tw th ea N ec 0 1 2 3 (sd+1) w'):
  ∀(j i:Nat) (w:World),i+j=ln->Sep No w0 w (ak ea N ec 4 1 (flat bl ((List.range N).map λl=>E l||decide ((l:Int)∈xs.take i)))::ak la ln lc 3 1 (flat one xs)::L)->
   qP P4 Q (j+1) mw mh sc tw th ea N ec 0 1 2 3 sd la ln lc ln i w:=by
 intro j;induction j with
 |zero=>
  intro i w hi s;show uZ P4 Q (qP P4 Q 0) _ _ _ _ _ _ _ _ _ _ _ _ _ _ _ _ _ _ _;rw[uZ,bp,aG];grind
 |succ j ih=>
  intro i w hi s;show uZ P4 Q (qP P4 Q (j+1)) _ _ _ _ _ _ _ _ _ _ _ _ _ _ _ _ _ _ _;rw[uZ,bN];have hX:=aO s (i:=1) rfl cB (by decide);apply hX.rG rfl (by omega);have hxi:=hx _ (fE (i:=i) (by omega));obtain⟨x,hxe⟩:∃x:Nat,gi xs i=x:=⟨(gi xs i).toNat,by omega⟩;rw[hxe]at hxi⊢;refine Ni (x':=true) ahV s (i:=0) rfl rfl (by simp;omega) rfl rfl λw s=>?_;rw[aG];apply ih (i+1) w (by omega);rw[anx]at s;have e:(λl:Nat=>(E l||decide ((l:Int)∈xs.take i))||decide (l=x))=λl:Nat=>E l||decide ((l:Int)∈xs.take (i+1)):=by
   funext l;rw[Bool.or_assoc];congr 1;have ht:xs.take (i+1)=xs.take i++[(x:Int)]:=by rw[List.take_add_one,iD (by omega),hxe];rfl
   grind
  grind
def anA {Q:Option Addr->Nat->Nat->World->Prop}{ea:Option Addr}{N ec:Nat}{E:Nat->Bool}(hs:dX mw mh sc)(hN:(N:Int)=aD mw mh sc*bz mw mh sc)(hN2:N<=256)
  (h:∀ra rn rc w',Sep No w0 w' (ak ra rn rc 3 1 (flat one (((List.range N).filter E).map λl:Nat=>bU mw mh sc l))::ak ea N ec 4 1 (flat bl ((List.range N).map E))::L)->Q ra rn rc w'):
  ∀(j i:Nat) (oa:Option Addr) (on oc:Nat) (w:World),i+j=N->on<=i->Sep No w0 w (ak oa on oc 3 1 (flat one (((List.range i).filter E).map λl:Nat=>bU mw mh sc l))::ak ea N ec 4 1 (flat bl ((List.range N).map E))::L)->
   pS Q (j+1) mw mh sc oa on oc ea N ec N i w:=by
 intro j;induction j with
 |zero=>
  intro i oa on oc w hi ho s;show tu Q (pS Q 0) _ _ _ _ _ _ _ _ _ _ _ _;unfold tu;grind
 |succ j ih=>
  intro i oa on oc w hi ho s;show tu Q (pS Q (j+1)) _ _ _ _ _ _ _ _ _ _ _ _;rw[tu,bN];obtain⟨b,o,rfl⟩:=pV s (i:=1) rfl (by omega);refine⟨by omega,by omega,ah ?_⟩;apply ajx ahV s (i:=1) (k:=i) (j:=0) rfl (x:=E i) (by grind) (by simp[Addr.add]) rfl;have hf:(List.range (i+1)).filter E=(List.range i).filter E++(if E i=true then[i]else[]):=by rw[List.range_succ,List.filter_append];grind
  cases hE:E i with
  |true=>
   refine xq s λw s _=>?_;unfold CF;refine Lx s (by omega) λoa oc w s=>?_;rw[aG];apply ih (i+1) oa (on+1) oc w (by omega) (by omega);grind
  |false=>
   rw[cond_false,aG];grind
def VR {Q:Option Addr->Nat->Nat->World->Prop}(s0:Sep F W w L)(hs:dX mw mh sc)(h:∀ra rn rc w',Sep F W w' (ak ra rn rc 3 1 (flat one (vm mw mh sc))::L)->Fr No w w'->Q ra rn rc w'):BW mw mh sc w Q:=by
 apply Vr;have hz:=qN hs.1.1 hs.1.2 hs.2;have hmx:=Int.mul_le_mul hz.1.2 hz.2.2 (by omega) (by decide);have hmn:=Int.mul_le_mul hz.1.1 hz.2.1 (by decide) (by omega);obtain⟨N,hN⟩:∃N:Nat,aD mw mh sc*bz mw mh sc=N:=⟨(aD mw mh sc*bz mw mh sc).toNat,by omega⟩;refine vl (bh (F:=No)) λw1 s _=>?_;unfold YS acU;rw[if_pos hs,if_pos hs,aG,hN];refine xH (bytes:=1) ef s rfl rfl rfl rfl rfl rfl (by decide) ahV rfl (λu hu=>by simp[bl]at hu;subst hu;rfl) rfl rfl (Nat.le_refl _) (by omega) (by simp[maxLen];omega) λeb w1 s=>?_;refine I5 s λw1 s _=>?_;have apB:List.replicate N false=(List.range N).map (yu mw mh sc 0):=by refine List.ext_getElem (by simp) λi h1 h2=>?_;simp[yu]
 rw[apB]at s;have loop:∀(j i:Nat) (w1:World) (L':List As),i+j=4->Sep No w w1 (ak (sZ eb) N N 4 1 (flat bl ((List.range N).map (yu mw mh sc i)))::L')->
   qQ Q (j+1) mw mh sc (aD mw mh sc) (bz mw mh sc) (sZ eb) N N 0 1 2 3 i w1:=by
  intro j;induction j with
  |zero=>
   intro i w1 L' hi s;show u6 Q (qQ Q 0) _ _ _ _ _ _ _ _ _ _ _ _ _ _;unfold u6;have hi:i=4:=by omega
   subst hi;have s:=bD s 3 1;refine⟨N+1,anA hs hN.symm (by omega) (λra rn rc w' s=>?_) N 0 none 0 0 w1 (by omega) (by omega) s⟩;refine h _ _ _ _ (dD s0 s (i:=0) ?_) (au s);unfold vm;grind
  |succ j ih=>
   intro i w1 L' hi s;show u6 Q (qQ Q (j+1)) _ _ _ _ _ _ _ _ _ _ _ _ _ _;rw[u6,bN];refine⟨by omega,by omega,?_⟩;refine at7 (x:=(i:Int)) (by omega) (abo ?_);obtain⟨o1,o2,o3⟩:=ahW (sd:=(i:Int)) hz.1 hz.2;refine VQ s hz.1 hz.2 λra rn rc w1 s=>?_;have hX:=aO s (i:=0) rfl cB (by decide);have hXl:=hX.len;rw[cQ (by omega),cond_false];apply hX.rG (k:=0) rfl (by omega);refine xq s λw1 s _=>?_;refine J0 s λw1 s _=>?_;have hnew:=alw mw mh sc i;by_cases hov:gK mw mh (CF mw mh sc (gi (mE (aD mw mh sc) (bz mw mh sc) i) 0)) i<0
   ·rw[bN hov,aG];have aBn:I6 mw mh sc i=false:=by unfold I6;grind
    have e:yu mw mh sc i=yu mw mh sc (i+1):=by funext l;simp_all
    rw[e]at s;exact ih (i+1) w1 _ (by omega) (ai s)
   ·rw[bp hov];have Ch:I6 mw mh sc i=true:=by unfold I6;grind
    have s:=cg s (List.Perm.swap ..);refine⟨rn+1,anz (w0:=w) (L:=L') (E:=yu mw mh sc i) (by omega) hXl (by omega) (λx hx=>by grind) (λw' s=>?_) rn 0 w1 (by omega) ?_⟩
    ·have e:(λl:Nat=>yu mw mh sc i l||decide ((l:Int)∈mE (aD mw mh sc) (bz mw mh sc) i))=yu mw mh sc (i+1):=by grind
     grind
    simp_all
 exact⟨5,loop 4 0 w1 _ (by omega) s⟩
def aW (m:bJ)(sc:Int):List Int:=(vm m.w m.h sc).filter (ff m)
def abq (hs:dX mw mh sc):(vm mw mh sc).length<=256:=by have hz:=qN hs.1.1 hs.1.2 hs.2;have hmx:=Int.mul_le_mul hz.1.2 hz.2.2 (by omega) (by decide);unfold vm;grind
def xy {Q:Option Addr->Nat->Nat->World->Prop}(s0:Sep F W w L)(k:nB w r g)(hs:dX g.m.w g.m.h sc)(h:∀ra rn rc w',Sep F W w' (ak ra rn rc 3 1 (flat one (aW g.m sc))::L)->Fr No w w'->Q ra rn rc w'):om (sZ r.p) sc w Q:=by
 apply Vs;refine jo (bh (F:=No)) k λw1 s _=>?_;refine VR s hs λca cn cc w1 s _=>?_;have x9:=(aO s (i:=0) rfl cB (by decide)).len;have ahX:=abq hs;have loop:∀(j i:Nat) (oa:Option Addr) (on oc:Nat) (w1:World),i+j=cn->on<=i->Sep No w w1 [ak oa on oc 3 1 (flat one (((vm g.m.w g.m.h sc).take i).filter (ff g.m))),ak ca cn cc 3 1 (flat one (vm g.m.w g.m.h sc))]->
   qR Q (j+1) (sZ r.p) oa on oc ca cn cc cn i w1:=by
  intro j;induction j with
  |zero=>
   intro i oa on oc w1 hi ho s;show u7 Q (qR Q 0) _ _ _ _ _ _ _ _ _ _;rw[u7,bp];rw[List.take_of_length_le (by omega)]at s;exact h _ _ _ _ (dD s0 s (i:=0) rfl) (au s)
  |succ j ih=>
   intro i oa on oc w1 hi ho s;show u7 Q (qR Q (j+1)) _ _ _ _ _ _ _ _ _ _;rw[u7,bN];apply(aO s (i:=1) rfl cB (by decide)).rG rfl (by omega);apply DM (k.fr (au s));have ht:(vm g.m.w g.m.h sc).take (i+1)=(vm g.m.w g.m.h sc).take i++[gi (vm g.m.w g.m.h sc) i]:=by rw[List.take_add_one,iD (by omega)];rfl
   cases ho2:ff g.m (gi (vm g.m.w g.m.h sc) i)with
   |true=>
    refine Lx s (by omega) λoa oc w1 s=>?_;rw[aG];apply ih (i+1) oa (on+1) oc w1 (by omega) (by omega);grind
   |false=>
    rw[cond_false,aG];apply ih (i+1) oa on oc w1 (by omega) (by omega);grind
 exact⟨cn+1,loop cn 0 none 0 0 w1 (by omega) (by omega) (bD s 3 1)⟩
end
def Dp (e:Int×Int):List Value:=[ae e.1,ae e.2]
def QD (e:Int×Int):(Dp e).length=2:=rfl
def akt (e:Int×Int)(u:Value)(h:u∈Dp e):u.oneCell'=true:=by simp[Dp,List.mem_cons,List.not_mem_nil,or_false]at h;rcases h with rfl|rfl<;>rfl
def FC (m:bJ)(c s:Int):Option (Int×Int):=if 0<=gK m.w m.h c s/\ff m (gK m.w m.h c s)=true then some (gK m.w m.h c s,cT m (gK m.w m.h c s))else none
def Gx (m:bJ)(c:Int)(j:Nat):List (Int×Int):=(List.range j).filterMap λs:Nat=>FC m c s
def vo (m:bJ)(c:Int):List (Int×Int):=if ff m c=true then Gx m c 4 else[]
def ajI (m:bJ)(c:Int)(j:Nat):Gx m c (j+1)=Gx m c j++(FC m c j).toList:=by rw[Gx,List.range_succ,List.filterMap_append];congr 1
section
variable {F:Nat->Prop}{W w w0:World}{L:List As}{r:uz}{g:gW}{a:Option Addr}{n c:Nat}{es:List (Int×Int)}{ce:Int}
def apY {x:Int×Int}{K:Option Addr->Nat->Nat->World->Prop}(s:Sep F W w (ak a n c 292 2 (flat Dp es)::L))(hn:n<=1000000000)
  (k:∀a' c' w',Sep F W w' (ak a' (n+1) c' 292 2 (flat Dp (es++[x]))::L)->K a' (n+1) c' w'):Bx [ae x.1,ae x.2] 292 w λp w1=>App P #[289,289] 289 (.slice a n c) (.slice (some p) 1 1) w1 K:=by
 refine aN s λb w s=>?_;have src:Src w (sZ b) 1 2 (Dp x):=⟨rfl,akt x,λj u hj=>by rw[cm,Nat.zero_add];exact cK s (i:=0) rfl rfl hj⟩;refine iw ef s (i:=1) (bytes:=16) rfl rfl rfl rfl rfl rfl (by decide) rfl src (by simp[maxLen];omega) (by omega) (λe=>by cases e) λa1 c1 w1 s1=>?_;have e:flat Dp es++Dp x=flat Dp (es++[x]):=by rw[fZ];simp[flat]
 rw[e]at s1;exact k _ _ _ (ai s1)
def VS {Q:Option Addr->Nat->Nat->World->Prop}(s0:Sep F W w L)(k:nB w r g)(h:∀ra rn rc w',Sep F W w' (ak ra rn rc 292 2 (flat Dp (vo g.m ce))::L)->Fr No w w'->Q ra rn rc w'):BV (sZ r.p) ce w Q:=by
 apply Vt;refine jo (bh (F:=No)) k λw1 s _=>?_;apply DM (k.fr (au s));unfold vo at h;cases ho:ff g.m ce with
 |false=>
  rw[ho,if_neg (by decide)]at h;exact h _ _ _ _ (bD (bV s0 (au s)) 292 2) (au s)
 |true=>
  rw[ho,if_pos rfl]at h;refine I5 s λw1 s _=>?_;have loop:∀(j i:Nat) (oa:Option Addr) (on oc:Nat) (w1:World) (L':List As),i+j=4->on<=i->Sep No w w1 (ak oa on oc 292 2 (flat Dp (Gx g.m ce i))::L')->
    n8 Q (j+1) (sZ r.p) ce g.m.w g.m.h oa on oc 0 1 2 3 i w1:=by
   intro j;induction j with
   |zero=>
    intro i oa on oc w1 L' hi Ch s;show u9 Q (n8 Q 0) _ _ _ _ _ _ _ _ _ _ _ _ _;unfold u9;have hi:i=4:=by omega
    subst hi;exact h _ _ _ _ (dD s0 s (i:=0) rfl) (au s)
   |succ j ih=>
    intro i oa on oc w1 L' hi Ch s;show u9 Q (n8 Q (j+1)) _ _ _ _ _ _ _ _ _ _ _ _ _;rw[u9,bN];refine⟨by omega,by omega,?_⟩;refine at7 (x:=(i:Int)) (by omega) (abo ?_);refine J0 s λw1 s _=>?_;have hsu:=ajI g.m ce i;have skip:FC g.m ce i=none->∀w1,Sep No w w1 (ak oa on oc 292 2 (flat Dp (Gx g.m ce i))::L')->n8 Q (j+1) (sZ r.p) ce g.m.w g.m.h oa on oc 0 1 2 3 (IntKind.wrap .i64 ((i:Int)+1)) w1:=λhn w1 s=>by rw[aG];grind
    by_cases h1:gK g.m.w g.m.h ce i≥0
    ·rw[bN h1];apply DM (k.fr (au s));cases h2:ff g.m (gK g.m.w g.m.h ce i)with
     |true=>
      apply jn (k.fr (au s));have II:FC g.m ce i=some (gK g.m.w g.m.h ce i,cT g.m (gK g.m.w g.m.h ce i)):=if_pos ⟨h1,h2⟩;refine apY (x:=(gK g.m.w g.m.h ce i,cT g.m (gK g.m.w g.m.h ce i))) s (by omega) λoa oc w1 s=>?_;rw[aG];grind
     |false=>
      exact skip (if_neg (by rw[h2];simp)) _ s
    ·rw[bp h1];exact skip (fS) _ s
  exact⟨5,loop 4 0 none 0 0 w1 _ (by omega) (by omega) (bD s 292 2)⟩
end
structure bj where
 c:Int
 s:Int
 k:Int
deriving DecidableEq,Inhabited
def fT (x:bj):List Value:=[ae x.c,ae x.s,ae x.k]
def nC (x:bj):(fT x).length=3:=rfl
def VT (x:bj)(u:Value)(h:u∈fT x):u.oneCell'=true:=by simp[fT,List.mem_cons,List.not_mem_nil,or_false]at h;rcases h with rfl|rfl|rfl<;>rfl
def VU (x y:Int):Int:=if x<y then-1 else if x>y then 1 else 0
def ahY (a b:bj):Int:=if VU a.k b.k≠0 then VU a.k b.k else if VU a.c b.c≠0 then VU a.c b.c else VU a.s b.s
section
variable {F:Nat->Prop}{W w w0:World}{L:List As}
def DO {x y:Int}{Q:Int->World->Prop}(h:Q (VU x y) w):oo x y w Q:=by apply P0;apply A2;rw[Ev rfl];apply A2;rw[Ev rfl];show cond false _ (cond false _ _);unfold VU at h;grind
def agj {a:Option Addr}{n c:Nat}{x y z:Int}{Q:Int->World->Prop}(hA:Sl w a n c 1 one [x,y,z])(h:Q (if x≠0 then x else if y≠0 then y else z) w):EW a n c w Q:=by
 have hl:n=3:=hA.len.symm;subst hl;apply Zm;refine⟨4,?_⟩;show mR Q (qS Q 3) _ _ _ _ _ _ _;unfold mR;apply hA.rG (k:=0) rfl (by omega);show cond (x !=0) _ _;by_cases hx:x=0
 ·rw[Ev hx,cond_false,wrap_i64 (by decide) (by decide)];rw[if_neg (λe=>e hx)]at h;show mR Q (qS Q 2) _ _ _ _ _ _ _;unfold mR;apply hA.rG (k:=1) rfl (by omega);show cond (y !=0) _ _;by_cases hy:y=0
  ·rw[Ev hy,cond_false,wrap_i64 (by decide) (by decide)];rw[if_neg (λe=>e hy)]at h;show mR Q (qS Q 1) _ _ _ _ _ _ _;unfold mR;apply hA.rG (k:=2) rfl (by omega);show cond (z !=0) _ _;by_cases hz:z=0
   ·rw[Ev hz,cond_false,wrap_i64 (by decide) (by decide)];show mR Q (qS Q 0) _ _ _ _ _ _ _;unfold mR;grind
   ·rw[Gq hz,cond_true];exact h
  ·rw[Gq hy,cond_true];rw[if_pos hy]at h;exact h
 ·rw[Gq hx,cond_true];rw[if_pos hx]at h;exact h
def XV {x y:bj}{Q:Int->World->Prop}(s0:Sep F W w L)(h:∀w',Sep F W w' L->Fr No w w'->Q (ahY x y) w'):DB x.c x.s x.k y.c y.s y.k w Q:=by apply XK;refine aN (bh (F:=No)) λab w s=>?_;refine aN s λbb w s=>?_;have s:=ay s;apply lI s 1 rfl;apply lI s 0 rfl;apply lI s 1 rfl;apply lI s 0 rfl;apply lI s 1 rfl;apply lI s 0 rfl;apply DO;refine⟨cj s 0 rfl,cj s 1 rfl,cj s 0 rfl,cj s 1 rfl,?_⟩;apply DO;refine⟨cj s 0 rfl,cj s 1 rfl,?_⟩;apply DO;refine aN s λpb w s=>?_;have s:=g9 (n:=3) (size:=1) s (i:=0) rfl rfl (by decide) (λu hu=>by simp[List.mem_cons,List.not_mem_nil,or_false]at hu;rcases hu with rfl|rfl|rfl<;>rfl);have s:=s;apply agj (aO s (i:=0) rfl cB (by decide));exact h _ (bV s0 (au s)) (au s)
def cxF (m f:Nat):(cx m).F f=oT f fns:=rfl
def ayK:oT 197 fns=true:=by kernel_rfl
def ajJ {m:Nat}{x y:bj}{Q:Int->World->Prop}(h:DB x.c x.s x.k y.c y.s y.k w Q):iv (cx m) (.func (.func 197) #[] #[]) [.agg #[ae x.c,ae x.s,ae x.k],.agg #[ae y.c,ae y.s,ae y.k]] w λv w'=>dI .i64 v λr=>Q r w':=by unfold iv;simp only;exact h
end
def ZH (tw th c s:Int):Bool:=if s=0 then c/tw==0 else if s=1 then c%tw==tw-1 else if s=2 then c/tw==th-1 else if s=3 then c%tw==0 else s==4
def Ai (tw th:Int)(cs:List Int)(x:bj):Bool:=decide (0<=x.c/\x.c<cs.length)&&(gi cs x.c.toNat !=255&&(decide (0<=x.k/\x.k<=1073741824)&&ZH tw th x.c x.s))
def rR (tw th:Int)(cs:List Int)(xs:List bj):Bool:=Tl.DL tw th cs&&xs.all (Ai tw th cs)
section
variable {F:Nat->Prop}{W w w0:World}{L:List As}{a la:Option Addr}{n c ln lc tb:Nat}{cs:List Int}{tw th:Int}{xs:List bj}
def abr {ce sd:Int}{Q:Bool->World->Prop}(s0:Sep F W w L)(hw:1<=tw/\tw<=16)(hh:1<=th/\th<=16)(hc:0<=ce/\ce<1000000)(h:∀w',Sep F W w' L->Fr No w w'->Q (ZH tw th ce sd) w'):Gf tw th a n c ce sd w Q:=by
 apply abd;refine aN (bh (F:=No)) λtb w s=>?_;have s:=ay s;apply lI s 0 rfl;refine⟨by omega,?_⟩;apply lI s 0 rfl;refine⟨by omega,cj s 0 rfl,?_⟩;have h:=h _ (bV s0 (au s)) (au s);have d0:0<=ce/tw:=Int.ediv_nonneg hc.1 (by omega);have d1:ce/tw<=ce:=Int.ediv_le_self _ hc.1;rw[Int.tdiv_eq_ediv_of_nonneg hc.1,Int.tmod_eq_emod_of_nonneg hc.1,aG];unfold ZH at h;by_cases k0:sd=0
 ·grind
 rw[cQ k0,cond_false];rw[if_neg k0]at h;by_cases k1:sd=1
 ·rw[eC k1,cond_true];rw[if_pos k1]at h;apply lI s 0 rfl;rw[aG];exact h
 rw[cQ k1,cond_false];rw[if_neg k1]at h;by_cases k2:sd=2
 ·rw[eC k2,cond_true];rw[if_pos k2]at h;apply lI s 0 rfl;rw[aG];exact h
 grind
def rS (w:World)(b:Nat)(vs:List Value):Prop:=∀(j:Nat) v,vs[j]? =some v->w.cell? ((aZ b).add j)=some v
def rS.fr {w':World}{b:Nat}{vs:List Value}(k:rS w b vs)(f:Fr No w w'):rS w' b vs:=λj v h=>Fr.cell f (k j v h) id
def lj {b i:Nat}{t:TypeId}{vs:List Value}(s:Sep F W w L)(hi:L[i]? =some (av b t vs)):rS w b vs:=λj v hj=>by rw[cm,Nat.zero_add];exact cK s rfl hi hj
def XW {x:bj}{Q:Bool->World->Prop}(s0:Sep F W w L)(hK:rS w tb [ae tw,ae th,.slice a n c])(hA:Sl w a n c 1 bu cs)(hm:Tl.DL tw th cs=true)
  (h:∀w',Sep F W w' L->Fr No w w'->Q (!Ai tw th cs x) w'):DD x.c x.s x.k (sZ tb) w Q:=by
 apply XL;obtain⟨h1,h2,h3,_⟩:=Tl.ZD.1 hm;have hl:=hA.len;have hmx:=Int.mul_le_mul h1.2 h2.2 (by omega) (by decide);refine aN (bh (F:=No)) λsb w1 s=>?_;have K:=hK.fr (au s);have A:=hA.fr (au s);have no:Ai tw th cs x=false->Q true w1:=λe=>by have:=h _ (bV s0 (au s)) (au s);grind
 unfold Ai at no h;apply lI s 0 rfl;by_cases k1:x.c<0
 ·grind
 rw[bp k1];apply lI s 0 rfl;refine ah (dx (K 2 _ rfl) ?_);by_cases k2:x.c≥(n:Int)
 ·grind
 rw[bp k2];rw[decide_eq_true (show 0<=x.c/\x.c<cs.length by omega),Bool.true_and]at no h;refine ah (dx (K 2 _ rfl) ?_);apply lI s 0 rfl;apply A.Db (k:=x.c.toNat) (by omega) (by omega);by_cases k3:gi cs x.c.toNat=255
 ·grind
 rw[cQ k3,cond_false];rw[Gq k3,Bool.true_and]at no h;apply lI s 0 rfl;by_cases k4:x.k<0
 ·grind
 rw[bp k4];apply lI s 0 rfl;by_cases k5:x.k>1073741824
 ·grind
 rw[bp k5];rw[decide_eq_true (show 0<=x.k/\x.k<=1073741824 by omega),Bool.true_and]at h;refine ah (aR (K 0 _ rfl) (aR (K 1 _ rfl) (dx (K 2 _ rfl) ?_)));apply lI s 0 rfl;apply lI s 0 rfl;refine abr s h1 h2 (by omega) λw1 s _=>?_;exact h _ (bV s0 (au s)) (au s)
def aAZ:oT 210 fns=true:=by kernel_rfl
def anB {m p:Nat}{x:bj}{Q:Bool->World->Prop}(h:DD x.c x.s x.k (sZ p) w Q):iv (cx m) (.func (.func 210) #[] #[.pointer (sZ p)]) [.agg #[ae x.c,ae x.s,ae x.k]] w λv w'=>dB v λr=>Q r w':=by unfold iv;simp only;exact h
def apZ {Q:Int->World->Prop}(hK:rS w0 tb [ae tw,ae th,.slice a n c])(hA:Sl w0 a n c 1 bu cs)(hm:Tl.DL tw th cs=true)(hX:Sl w0 la ln lc 3 fT xs)(p9:ln<=1000000)
  (hy:xs.all (Ai tw th cs)=true->∀w',Sep No w0 w' []->Q (-1) w')(hno:xs.all (Ai tw th cs)=false->∀(i:Nat) w',Sep No w0 w' []->Q i w'):
  ∀(j i:Nat) (w:World),i+j=ln->(xs.take i).all (Ai tw th cs)=true->Sep No w0 w []->e7 Q (j+1) la ln lc (.func (.func 210) #[] #[.pointer (sZ tb)]) ln i w:=by
 have hl:=hX.len;intro j;induction j with
 |zero=>
  intro i w hi ha s;show gj Q (e7 Q 0) _ _ _ _ _ _ _;unfold gj;grind
 |succ j ih=>
  intro i w hi ha s;show gj Q (e7 Q (j+1)) _ _ _ _ _ _ _;rw[gj,bN];refine(hX.fr (au s)).El rfl (by omega) λp x hx hc=>?_;refine aR (hc 0 _ rfl) (aR (hc 1 _ rfl) (aR (hc 2 _ rfl) ?_));refine anB (XW s (hK.fr (au s)) (hA.fr (au s)) hm λw s _=>?_);cases hb:Ai tw th cs x with
  |false=>
   grind
  |true=>
   rw[Bool.not_true,cond_false,aG];refine ih (i+1) w (by omega) ?_ s;rw[List.take_add_one,hx,List.all_append,ha];simp[hb]
def Nj {Q:Bool->World->Prop}(s0:Sep F W w L)(hA:Sl w a n c 1 bu cs)(hX:Sl w la ln lc 3 fT xs)(p9:ln<=1000000)(h:∀w',Sep F W w' L->Fr No w w'->Q (rR tw th cs xs) w'):Be tw th a n c la ln lc w Q:=by
 apply abe;refine aN (bh (F:=No)) λtb w1 s=>?_;apply lI s 0 rfl;apply lI s 0 rfl;apply lS s 0 rfl;refine Tl.C2 s (hA.fr (au s)).row λw1 s _=>?_;have fin:∀(r:Bool) (w':World),rR tw th cs xs=r->Fr No w w'->Q r w':=λr w' e f=>by subst e;exact h _ (bV s0 f) f
 unfold rR at fin;cases hm:Tl.DL tw th cs with
 |false=>
  rw[hm,Bool.false_and]at fin;exact fin _ _ rfl (au s)
 |true=>
  rw[hm,Bool.true_and]at fin;have f1:=au s;apply yf;apply Ae;refine⟨ln+1,apZ (lj s (i:=0) rfl) (hA.fr f1) hm (hX.fr f1) p9 (λha w' s'=>?_) (λha i w' s'=>?_) ln 0 w1 (by omega) rfl bh⟩
  ·exact fin _ _ ha (f1.trans (au s') (λ_ _=>id))
  ·exact fin _ _ ha (f1.trans (au s') (λ_ _=>id))
end
end Go.Proofs.YtmegplnmiepfbaaGreatDoor.S
namespace Go.Proofs.YtmegplnmiepfbaaGreatDoor.S
open Go.Sx
def ke {n:Int}(h:0<=n/\n<18446744073709551616):IntKind.wrap .u64 n=n:=by
 have:IntKind.wrap .u64 n=n%18446744073709551616:=by simp[IntKind.wrap,IntKind.bits,IntKind.signed]
 grind
def Nk {x:Int}(h:0<=x/\x<4294967296):o6 .u64 x 32=0:=by show x.fdiv (2^32)=0;grind
def VV {x:Int}(h:0<=x/\x<4294967296):BC .u64 x 4294967295=x:=by
 obtain⟨n,rfl⟩:∃n:Nat,x=n:=⟨x.toNat,by omega⟩;have e:(BitVec.ofInt 64 (n:Int)&&&BitVec.ofInt 64 4294967295).toNat=n:=by
  rw[BitVec.toNat_and];have e1:(BitVec.ofInt 64 (n:Int)).toNat=n:=by grind
  have e2:(BitVec.ofInt 64 4294967295).toNat=2^32-1:=by decide
  rw[e1,e2,Nat.and_two_pow_sub_one_eq_mod];omega
 show IntKind.wrap .u64 ((BitVec.ofInt 64 (n:Int)&&&BitVec.ofInt 64 4294967295).toNat:Nat)=_;rw[e];exact ke (by omega)
def aub {x y:Int}(hx:0<=x/\x<1048577)(hy:0<=y/\y<1048577):0<=x*y/\x*y<2000000000000:=by have a:=Int.mul_nonneg hx.1 hy.1;have b:x*y<=1048576*1048576:=Int.mul_le_mul (by omega) (by omega) hy.1 (by decide);omega
def C3 {w:World}{x y:Int}{Q:Int->Int->World->Prop}(hx:0<=x/\x<1048577)(hy:0<=y/\y<1048577)(hxy:x*y<4294967296)(h:Q 0 (x*y) w):qy x y w Q:=by have hm:=aub hx hy;apply T7;apply PF;refine⟨by decide,by decide,by decide,by decide,by decide,?_⟩;rw[Nk (by omega),Nk (by omega),VV (by omega),VV (by omega)];simp[Int.zero_mul,Int.mul_zero,Int.zero_add,Int.add_zero,ke (n:=0) (by decide),ke (n:=x*y) (by omega),Nk (x:=x*y) (by omega),Nk (x:=0) (by decide),VV (x:=0) (by decide)];exact h
end Go.Proofs.YtmegplnmiepfbaaGreatDoor.S
namespace Go.Proofs.YtmegplnmiepfbaaGreatDoor.S
open Go.Sx
attribute [local irreducible] af cA bw bg aA cq bY St Bx Al App cD cy cw bT aL bC aq bR av ak aV mapA
def Ly:∀l:List Int,flat one l=l.map λx=>Value.int .i64 x
 |[]=>rfl
 |x::l=>by have:=Ly l;simp[flat,List.flatMap_cons,List.map_cons]at this⊢;rw[this];rfl
def Ff (x:Int)(u:Value)(h:u∈one x):u.oneCell'=true:=by simp[one,List.mem_singleton]at h;rw[h];rfl
def ap0 {v z:Int}{n k N:Nat}(hk:k<=n)(hN:n+k<=N):
  (flat one (List.replicate n v++List.replicate (N-n) z)).take (n*1)++(flat one ((List.replicate n v++List.replicate (N-n) z).take n)).take (k*1)++(flat one (List.replicate n v++List.replicate (N-n) z)).drop ((n+k)*1)=flat one (List.replicate (n+k) v++List.replicate (N-(n+k)) z):=by
 simp only[Ly,Nat.mul_one];rw[<-List.map_take,<-List.map_take,<-List.map_drop,<-List.map_append,<-List.map_append];congr 1;rw[List.take_left' (by simp),List.take_replicate,Nat.min_eq_left hk,List.replicate_append_replicate,<-List.drop_drop,List.drop_left' (by simp),List.drop_replicate,Nat.sub_sub]
section
variable {F:Nat->Prop}{W w w0:World}{L:List As}{xa:Option Addr}{xc:Nat}{v:Int}
def ajK {Q:Option Addr->Nat->Nat->World->Prop}{b N:Nat}(hN:N<=1048576)(h:∀w',Sep No w0 w' (ak (sZ b) N N 3 1 (flat one (List.replicate N v))::L)->Q (sZ b) N N w'):
  ∀(m n:Nat) (w:World),N<=n+m->1<=n->n<=N->Sep No w0 w (ak (sZ b) N N 3 1 (flat one (List.replicate n v++List.replicate (N-n) 0))::L)->lK Q (m+1) (sZ b) N N n w:=by
 have done:∀(R:Option Addr->Nat->Nat->Int->World->Prop) (w:World),Sep No w0 w (ak (sZ b) N N 3 1 (flat one (List.replicate N v++List.replicate (N-N) 0))::L)->lJ Q R (sZ b) N N N w:=λR w s=>by unfold lJ;grind
 intro m;induction m with
 |zero=>
  intro n w hm h1 h2 s;have:n=N:=by omega
  subst this;exact done _ _ s
 |succ m ih=>
  intro n w hm h1 h2 s;show lJ Q (lK Q (m+1)) _ _ _ _ _;by_cases hn:n=N
  ·grind
  ·rw[lJ,bN];apply O4 rfl h2;rw[fS];apply O3 rfl h2;have s:=ay s;have hT:=(aO s (i:=0) rfl cB (by decide)).top h2;refine EH (p:=n) ef s rfl rfl rfl rfl (by decide) (i:=0) rfl (hT.src (e:=3) cB Ff) (by omega) (by simp[Addr.add];omega) λw s=>?_;rw[ap0 (Nat.min_le_left _ _) (by omega)]at s;have e:IntKind.wrap .i64 ((n:Int)+((min n (N-n):Nat):Int))=((n+min n (N-n):Nat):Int):=by rw[aG];omega
   grind
def Lz {N:Nat}{Q:Option Addr->Nat->Nat->World->Prop}(s0:Sep F W w L)(hA:Sl w xa 1 xc 1 one [v])(hN:1<=N/\N<=1048576)
  (h:∀ra w',Sep F W w' (ak ra N N 3 1 (flat one (List.replicate N v))::L)->Fr No w w'->Q ra N N w'):j_ xa 1 xc N w Q:=by
 apply IZ;rw[bp,ke (by decide),ke (by omega)];apply C3 (by decide) (by omega) (by omega);have e1:((1:Nat):Int)*N=N:=by omega
 rw[e1,bp (by decide),bp,aG];refine xH (bytes:=8) ef (bh (F:=No)) rfl rfl rfl rfl rfl rfl (by decide) cB rfl (λu hu=>Ff 0 u hu) rfl rfl (Nat.le_refl _) (by omega) (by simp[maxLen];omega) λb w' s=>?_;refine EH (p:=0) ef s rfl rfl rfl rfl (by decide) (i:=0) rfl ((hA.fr (au s)).src (e:=3) cB Ff) (by omega) rfl λw' s=>?_;have hm:min 1 N=1:=by omega
 rw[hm]at s⊢;have e2:(flat one (List.replicate N 0)).take (0*1)++(flat one [v]).take (1*1)++(flat one (List.replicate N 0)).drop ((0+1)*1)=flat one (List.replicate 1 v++List.replicate (N-1) 0):=by simp only[Ly,Nat.zero_mul,List.take_zero,List.nil_append,Nat.mul_one,Nat.zero_add];simp_all
 rw[e2]at s;exact⟨N+1,ajK hN.2 (λw' s=>h _ _ (dD s0 s (i:=0) rfl) (au s)) N 1 w' (by omega) (by omega) hN.1 s⟩
end
section
variable {F:Nat->Prop}{W w w0:World}{L:List As}{a:Option Addr}{n c:Nat}{xs:List bj}{bs:List Int}
def VW {Q:Option Addr->Nat->Nat->World->Prop}(s:Sep F W w L)(hA:Sl w a n c 3 fT xs)(hn:n<=1000000000)(h:∀ra rc w',Sep F W w' (ak ra n rc 294 3 (flat fT xs)::L)->Fr No w w'->Q ra n rc w'):ji a n c w Q:=by
 apply B4;cases a with
 |none=>
  have hl:=hA.len;have:=hA.nil rfl;have h0:n=0:=by have:=hA.le;omega
  subst h0;have hb:=List.eq_nil_of_length_eq_zero hl;subst hb;exact h _ _ _ (bD s 294 3) Fr.refl
 |some p=>
  apply ld;refine aN (bh (F:=No)) λb w' s'=>?_;have src:=(hA.fr (au s')).src (e:=294) nC VT;have s':=g9 (n:=0) (size:=3) s' (i:=0) rfl rfl (by decide) (by simp);refine iw ef s' (i:=0) (bytes:=24) rfl rfl rfl rfl rfl rfl (by decide) rfl src (by simp[maxLen];omega) (by omega) (hA.fr (au s')).nil λa1 c1 w1 s1=>?_;simp[List.set_cons_zero,List.nil_append,Nat.zero_add]at s1⊢;exact h _ _ _ (dD s s1 (i:=0) rfl) (au s1)
def LA {Q:Option Addr->Nat->Nat->World->Prop}(s:Sep F W w L)(hA:Sl w a n c 1 one bs)(hn:n<=1000000000)(h:∀ra rc w',Sep F W w' (ak ra n rc 3 1 (flat one bs)::L)->Fr No w w'->Q ra n rc w'):kO a n c w Q:=by
 apply JH;cases a with
 |none=>
  have hl:=hA.len;have:=hA.nil rfl;have h0:n=0:=by have:=hA.le;omega
  subst h0;have hb:=List.eq_nil_of_length_eq_zero hl;subst hb;exact h _ _ _ (bD s 3 1) Fr.refl
 |some p=>
  apply ld;refine aN (bh (F:=No)) λb w' s'=>?_;have src:=(hA.fr (au s')).src (e:=3) cB Ff;have s':=g9 (n:=0) (size:=1) s' (i:=0) rfl rfl (by decide) (by simp);refine iw ef s' (i:=0) (bytes:=8) rfl rfl rfl rfl rfl rfl (by decide) rfl src (by simp[maxLen];omega) (by omega) (hA.fr (au s')).nil λa1 c1 w1 s1=>?_;simp[List.set_cons_zero,List.nil_append,Nat.zero_add]at s1⊢;exact h _ _ _ (dD s s1 (i:=0) rfl) (au s1)
end
def w32 (x:Int):List Value:=[.int .u32 x]
def WY (x:Int):(w32 x).length=1:=rfl
structure QE where
 p:Nat
 a:Option Addr
 n:Nat
 c:Nat
 fH:Int
def WZ (ws:List Int):Prop:=∀x∈ws,0<=x/\x<4294967296
def adG (r:QE)(ws:List Int):List As:=[av r.p 247 [.slice r.a r.n r.c,ae r.fH],ak r.a r.n r.c 248 1 (flat w32 ws)]
def vp (r:QE)(ws:List Int):As:=aV (WZ ws) (adG r ws)
def wrap_u32' {n:Int}(h:0<=n/\n<4294967296):IntKind.wrap .u32 n=n:=by
 have:IntKind.wrap .u32 n=n%4294967296:=by simp[IntKind.wrap,IntKind.bits,IntKind.signed]
 grind
section
variable {F:Nat->Prop}{W w w0:World}{L:List As}{r:QE}{ws:List Int}{ce id:Int}
def Sq (s:Sep F W w (vp r ws::L)):WZ ws/\Sep F W w (adG r ws++L):=gP s
def OJ (s:Sep F W w (adG r ws++L))(h:WZ ws):Sep F W w (vp r ws::L):=dA s h
structure abt (w:World) (r:QE) (ws:List Int):Prop where
 ok:WZ ws
 cell:rS w r.p [.slice r.a r.n r.c,ae r.fH]
 V:Sl w r.a r.n r.c 1 w32 ws
def Gy (s:Sep F W w (vp r ws::L)):abt w r ws:=by obtain⟨h,s⟩:=Sq s;exact⟨h,lj s (i:=0) rfl,aO s (i:=1) rfl WY (by decide)⟩
def Ci (ws:List Int)(c:Int):Int:=if 0<=c/\c<ws.length then gi ws c.toNat-1 else-1
def Aj (ws:List Int)(c:Int):Bool:=decide (0<=c/\c<ws.length)&&gi ws c.toNat==0
def QF {Q:Bool->World->Prop}(k:abt w r ws)(h:Q (decide (0<=ce/\ce<ws.length)) w):tU (sZ r.p) ce w Q:=by
 apply RM;have hl:=k.V.len;show cond true _ _;rw[cond_true];by_cases h0:ce≥0
 ·rw[bN h0];refine ah (dx (k.cell 0 _ rfl) ?_);grind
 grind
def LB {Q:Bool->World->Prop}(k:abt w r ws)(h:Q (Aj ws ce) w):rm (sZ r.p) ce w Q:=by
 apply Oh;apply QF k;have hl:=k.V.len;unfold Aj at h;by_cases h0:0<=ce/\ce<ws.length
 ·rw[bN h0];rw[decide_eq_true h0,Bool.true_and]at h;refine ah (dx (k.cell 0 _ rfl) ?_);exact FZ k.V (by omega) (by omega) h
 grind
def Bl {Q:Int->World->Prop}(k:abt w r ws)(h:Q (Ci ws ce) w):lV (sZ r.p) ce w Q:=by
 apply PL;apply QF k;have hl:=k.V.len;unfold Ci at h;by_cases h0:0<=ce/\ce<ws.length
 ·rw[decide_eq_true h0,Bool.not_true,cond_false];rw[if_pos h0]at h;refine ah (dx (k.cell 0 _ rfl) ?_);apply FZ k.V (k:=ce.toNat) (by omega) (by omega);have hb:=k.ok _ (fE (i:=ce.toNat) (by omega));rw[aG (n:=gi ws ce.toNat),aG];exact h
 grind
def Nl {Q:Bool->World->Prop}(s:Sep F W w (vp r ws::L))(zL:0<=id/\id<4294967295)(hno:Aj ws ce=false->Q false w)
  (hyes:Aj ws ce=true->∀fH w',Sep F W w' (vp {r with fH:=fH} (ws.set ce.toNat (id+1))::L)->Q true w'):r8 (sZ r.p) ce id w Q:=by
 apply PS;have k:=Gy s;apply LB k;cases hf:Aj ws ce with
 |false=>exact hno hf
 |true=>
  rw[Bool.not_true,cond_false,bp,bp];have h0:0<=ce/\ce<ws.length:=by unfold Aj at hf;grind
  obtain⟨hok,s⟩:=Sq s;have s:=s;apply ah;apply lS s 0 rfl;rw[aG,wrap_u32' (by omega)];refine Ni (k:=ce.toNat) (x':=id+1) WY s (i:=1) rfl (by omega) (by omega) rfl rfl λw s=>?_;apply ah;apply lI s 0 rfl;apply ah;refine ax s (i:=0) rfl rfl rfl λw s=>?_;refine hyes hf (IntKind.wrap .i64 (r.fH+1)) _ (OJ s λx hx=>?_);rcases List.mem_or_eq_of_mem_set hx with hx|rfl
  ·exact hok x hx
  ·omega
end
section
variable {F:Nat->Prop}{W w w0:World}{L:List As}{r:QE}{ws:List Int}{ce id:Int}
def LC {Q:Int->World->Prop}(s:Sep F W w (vp r ws::L))(hno:Ci ws ce=-1->Q (-1) w)
  (hyes:Ci ws ce≠-1->∀fH w',Sep F W w' (vp {r with fH:=fH} (ws.set ce.toNat 0)::L)->Q (Ci ws ce) w'):rj (sZ r.p) ce w Q:=by
 apply Oj;have k:=Gy s;apply Bl k;by_cases hf:Ci ws ce=-1
 ·grind
 ·rw[Gq hf,cond_true];have h0:0<=ce/\ce<ws.length:=by unfold Ci at hf;grind
  obtain⟨hok,s⟩:=Sq s;have s:=s;apply ah;apply lS s 0 rfl;refine Ni (k:=ce.toNat) (x':=0) WY s (i:=1) rfl (by omega) (by omega) rfl rfl λw s=>?_;apply ah;apply lI s 0 rfl;apply ah;refine ax s (i:=0) rfl rfl rfl λw s=>?_;refine hyes hf (IntKind.wrap .i64 (r.fH-1)) _ (OJ s λx hx=>?_);rcases List.mem_or_eq_of_mem_set hx with hx|rfl
  ·exact hok x hx
  ·omega
def abu {N:Nat}{Q:Option Addr->World->Prop}(s:Sep F W w L)(hN:1<=N/\N<=1048576)(h:∀r w',Sep F W w' (vp r (List.replicate N 0)::L)->Q (sZ r.p) w'):Gc N w Q:=by apply aa8;rw[bp,bp];refine xH (bytes:=4) ef s rfl rfl rfl rfl rfl rfl (by decide) WY rfl (λu hu=>by simp[w32]at hu;subst hu;rfl) rfl rfl (Nat.le_refl _) (by omega) (by simp[maxLen];omega) λb w' s=>?_;refine aN s λp w' s=>?_;refine h ⟨p,sZ b,N,N,0⟩ _ (OJ s λx hx=>?_);grind
def XX {fr to:Int}{Q:Bool->World->Prop}(s:Sep F W w (vp r ws::L))(hno:Ci ws fr=-1\/Aj ws to=false->Q false w)
  (hyes:Ci ws fr≠-1->Aj ws to=true->∀fH w',Sep F W w' (vp {r with fH:=fH} ((ws.set fr.toNat 0).set to.toNat (Ci ws fr+1))::L)->Q true w'):wq (sZ r.p) fr to w Q:=by
 apply ML;have k:=Gy s;apply Bl k;by_cases hf:Ci ws fr=-1
 ·grind
 rw[cQ hf,cond_false];apply LB k;cases ht:Aj ws to with
 |false=>
  grind
 |true=>
  refine LC s (λe=>(hf e).elim) λ_ fH w s=>?_;have hw:0<=Ci ws fr/\Ci ws fr<4294967295:=by
   unfold Ci at hf⊢;split at hf
   ·rename_i h0;have:=k.ok _ (fE (i:=fr.toNat) (by omega));omega
   grind
  have hfree:Aj (ws.set fr.toNat 0) to=true:=by unfold Aj at ht⊢;simp[Bool.and_eq_true,decide_eq_true_eq,List.length_set,beq_iff_eq]at ht⊢;refine⟨ht.1,?_⟩;unfold gi at ht⊢;grind
  refine Nl (r:={r with fH:=fH}) s (by omega) (λe=>by grind) λ_ aBo w s=>?_;grind
end
def oW (x:Int):List Value:=[.int .i32 x]
def vq (x:Int):(oW x).length=1:=rfl
def aeX {n:Int}(h:-2147483648<=n/\n<2147483648):IntKind.wrap .i32 n=n:=by simp only[IntKind.wrap,IntKind.bits,IntKind.signed];simp;omega
structure Gz where
 goal:Int
 ep:Int
 ds:List Int
structure xz where
 p:Nat
 a:Option Addr
 n:Nat
 c:Nat
def anC (r:xz)(t:Gz):List Value:=[ae t.goal,ae t.ep,.slice r.a r.n r.c]
def ahZ (ds:List Int):Prop:=∀x∈ds,0<=x/\x<=2147483647
def adH (r:xz)(t:Gz):List As:=[av r.p 298 (anC r t),ak r.a r.n r.c 21 1 (flat oW t.ds)]
def D_ (r:xz)(t:Gz):As:=aV (ahZ t.ds) (adH r t)
structure GA (w:World) (r:xz) (t:Gz):Prop where
 ok:ahZ t.ds
 cell:rS w r.p (anC r t)
 V:Sl w r.a r.n r.c 1 oW t.ds
section
variable {F:Nat->Prop}{W w w0:World}{L:List As}{r:xz}{t:Gz}{ce key:Int}
def GA.fr {w':World}(k:GA w r t)(f:Fr No w w'):GA w' r t:=⟨k.ok,k.cell.fr f,k.V.fr f⟩
def abv (s:Sep F W w (D_ r t::L)):ahZ t.ds/\Sep F W w (adH r t++L):=gP s
def Yj (s:Sep F W w (adH r t++L))(h:ahZ t.ds):Sep F W w (D_ r t::L):=dA s h
def Sr (s:Sep F W w (D_ r t::L)):GA w r t:=by obtain⟨h,s⟩:=abv s;exact⟨h,lj s (i:=0) rfl,aO s (i:=1) rfl vq (by decide)⟩
def atF (ds:List Int)(c:Int):Int:=if 0<=c/\c<ds.length then(if gi ds c.toNat=2147483647 then bW else gi ds c.toNat)else bW
def adI {Q:Int->World->Prop}(k:GA w r t)(h:Q (atF t.ds ce) w):zX (sZ r.p) ce w Q:=by
 apply RT;apply ld;have hl:=k.V.len;unfold atF at h;by_cases h0:ce<0
 ·rw[bN h0];rw[fS]at h;exact h
 rw[bp h0];refine ah (dx (k.cell 2 _ rfl) ?_);by_cases h1:ce≥(r.n:Int)
 ·rw[bN h1];rw[fS]at h;exact h
 rw[bp h1];rw[AA]at h;refine ah (dx (k.cell 2 _ rfl) ?_);apply FZ k.V (k:=ce.toNat) (by omega) (by omega);have hb:=k.ok _ (fE (i:=ce.toNat) (by omega));by_cases h2:gi t.ds ce.toNat=2147483647
 ·rw[eC h2,cond_true];rw[if_pos h2]at h;exact h
 rw[cQ h2,cond_false];rw[if_neg h2]at h;refine ah (dx (k.cell 2 _ rfl) ?_);apply FZ k.V (k:=ce.toNat) (by omega) (by omega);rw[aG];exact h
def ZI {Q:Int->World->Prop}(k:GA w r t)(h:Q t.goal w):xU (sZ r.p) w Q:=by apply On;exact ld (ah (aR (k.cell 0 _ rfl) h))
def XY {Q:Int->World->Prop}(k:GA w r t)(h:Q t.ep w):wv (sZ r.p) w Q:=by apply MB;exact ld (ah (aR (k.cell 1 _ rfl) h))
def LD {Q:Bool->World->Prop}(s:Sep F W w (D_ r t::L))(hc:0<=ce/\ce<t.ds.length)(hk:0<=key/\key<4000000000)(hno:key≥gi t.ds ce.toNat->Q false w)
  (hyes:key<gi t.ds ce.toNat->∀w',Sep F W w' (D_ r ⟨t.goal,t.ep,t.ds.set ce.toNat key⟩::L)->Q true w'):rq (sZ r.p) ce key w Q:=by
 apply Ou;have k:=Sr s;have hl:=k.V.len;have hb:=k.ok _ (fE (i:=ce.toNat) (by omega));refine ah (dx (k.cell 2 _ rfl) ?_);apply FZ k.V (k:=ce.toNat) (by omega) (by omega);rw[aG];by_cases h1:key≥gi t.ds ce.toNat
 ·grind
 rw[bp h1];refine ah (dx (k.cell 2 _ rfl) ?_);obtain⟨hok,s⟩:=abv s;have s:=s;rw[aeX (by omega)];refine Ni (k:=ce.toNat) (x':=key) vq s (i:=1) rfl (by omega) (by omega) rfl rfl λw s=>?_;refine hyes (by omega) _ (Yj s λx hx=>?_);rcases List.mem_or_eq_of_mem_set hx with hx|rfl
 ·exact hok x hx
 ·omega
end
def Ss (c s:Int)(st:Int×Bool)(x:bj):Int×Bool:=if x.c=c/\x.s=s/\(st.2=false\/x.k<st.1)then(x.k,true)else st
def Is (xs:List bj)(c s:Int):Int:=(xs.foldl (Ss c s) (bW,false)).1
section
variable {F:Nat->Prop}{W w w0:World}{L:List As}{la:Option Addr}{ln lc:Nat}{xs:List bj}{ce sd:Int}
def anE {Q:Int->World->Prop}(hX:Sl w0 la ln lc 3 fT xs)(p9:ln<=1000000)(h:∀w',Sep No w0 w' []->Q (Is xs ce sd) w'):
  ∀(j i:Nat) (b:Int) (q:Bool) (w:World),i+j=ln->(xs.drop i).foldl (Ss ce sd) (b,q)=xs.foldl (Ss ce sd) (bW,false)->Sep No w0 w []->oC Q (j+1) ce sd b q la ln lc ln i w:=by
 have hl:=hX.len;intro j;induction j with
 |zero=>
  intro i b q w hi he s;show zk Q (oC Q 0) _ _ _ _ _ _ _ _ _ _;unfold zk;have:=h w s;unfold Is at this;grind
 |succ j ih=>
  intro i b q w hi he s;show zk Q (oC Q (j+1)) _ _ _ _ _ _ _ _ _ _;rw[zk,bN];refine(hX.fr (au s)).El rfl (by omega) λp x hx hc=>?_;refine aR (hc 0 _ rfl) (aR (hc 1 _ rfl) (aR (hc 2 _ rfl) ?_));obtain⟨IK,hx'⟩:=List.getElem?_eq_some_iff.1 hx;rw[List.drop_eq_getElem_cons IK,hx',List.foldl_cons]at he;refine aS s λsb w s=>?_;refine ax s (i:=0) rfl rfl rfl λw s=>?_;refine ax s (i:=0) rfl rfl rfl λw s=>?_;refine ax s (i:=0) rfl rfl rfl λw s=>?_;have skip:¬(x.c=ce/\x.s=sd/\(q=false\/x.k<b))->oC Q (j+1) ce sd b q la ln lc ln (IntKind.wrap .i64 ((i:Int)+1)) w:=λhn=>by rw[aG];refine ih (i+1) b q w (by omega) ?_ (ai s);have e:Ss ce sd (b,q) x=(b,q):=if_neg hn;grind
  have take:x.c=ce/\x.s=sd/\(q=false\/x.k<b)->C0 (oC Q (j+1)) Q ce sd (aZ sb) la ln lc ln i w:=λhy=>by apply lI s 0 rfl;rw[aG];refine ih (i+1) x.k true w (by omega) ?_ (ai s);have e:Ss ce sd (b,q) x=(x.k,true):=if_pos hy;grind
  apply lI s 0 rfl;by_cases k1:x.c=ce
  ·rw[eC k1,cond_true];apply lI s 0 rfl;by_cases k2:x.s=sd
   ·rw[eC k2,cond_true];cases q with
    |false=>
     grind
    |true=>
     apply lI s 0 rfl;grind
   grind
  grind
def LF {Q:Int->World->Prop}(s0:Sep F W w L)(hX:Sl w la ln lc 3 fT xs)(p9:ln<=1000000)(h:∀w',Sep F W w' L->Fr No w w'->Q (Is xs ce sd) w'):z9 la ln lc ce sd w Q:=by apply Zx;exact⟨ln+1,anE hX p9 (λw' s=>h _ (bV s0 (au s)) (au s)) ln 0 bW false w (by omega) (by grind) bh⟩
end
def bP (tw th l s:Int):Int:=
 if s=0 then(if l/tw>0 then l-tw else-1)
 else if s=1 then(if l%tw<tw-1 then l+1 else-1)
 else if s=2 then(if l/tw<th-1 then l+tw else-1)
 else if s=3 then(if l%tw>0 then l-1 else-1)
 else-1
section
variable {F:Nat->Prop}{W w w0:World}{L:List As}{p:Nat}{tw th l sd:Int}{vs:List Value}
def abw {Q:Int->World->Prop}(s0:Sep F W w L)(k:rS w p (ae tw::ae th::vs))(hw:1<=tw/\tw<=16)(hh:1<=th/\th<=16)(hl:0<=l/\l<1000000)
  (h:∀w',Sep F W w' L->Fr No w w'->Q (bP tw th l sd) w'):yY (sZ p) l sd w Q:=by
 apply Qi;have k:=k.fr (w':=w.drew) Fr.refl;have h:=h _ (ay s0) Fr.refl;have d0:0<=l/tw:=Int.ediv_nonneg hl.1 (by omega);have d1:l/tw<=l:=Int.ediv_le_self _ hl.1;refine ah (aR (k 0 _ rfl) ⟨by omega,ah (aR (k 0 _ rfl) ⟨by omega,k 0 _ rfl,?_⟩)⟩);rw[Int.tdiv_eq_ediv_of_nonneg hl.1,Int.tmod_eq_emod_of_nonneg hl.1,aG];unfold bP at h;have b8:(if sd=3 then(if l%tw>0 then l-1 else-1)else-1:Int)=bP tw th l sd->qF Q l sd (l%tw) w.drew:=λe=>by
  unfold bP at e;unfold qF;by_cases k3:sd=3
  ·by_cases q:l%tw>0
   ·rw[bN q,aG];grind
   grind
  grind
 have b6:(sd≠0->sd≠1->True)->(sd=0\/sd=1->bP tw th l sd=-1)->qG Q (sZ p) l sd (l%tw) (l/tw) w.drew:=λ_ e=>by
  unfold qG;by_cases k2:sd=2
  ·rw[eC k2,cond_true];rw[fS,fS,if_pos k2]at h;refine ah (aR (k 1 _ rfl) ?_);rw[aG];by_cases q:l/tw<th-1
   ·rw[bN q];rw[if_pos q]at h;refine ah (aR (k 0 _ rfl) ?_);rw[aG];exact h
   ·rw[bp q];apply b8;unfold bP;omega
  ·rw[cQ k2,cond_false];apply b8;by_cases k01:sd=0\/sd=1
   ·omega
   ·unfold bP;omega
 have b4:(sd=0->bP tw th l sd=-1)->qH Q (sZ p) l sd (l%tw) (l/tw) w.drew:=λe=>by
  unfold qH;by_cases k1:sd=1
  ·rw[eC k1,cond_true];refine ah (aR (k 0 _ rfl) ?_);rw[aG];by_cases q:l%tw<tw-1
   ·rw[bN q,aG];grind
   ·rw[bp q];refine b6 (λ_ _=>trivial) λ_=>?_;unfold bP;omega
  grind
 by_cases k0:sd=0
 ·rw[eC k0,cond_true];by_cases q:l/tw>0
  ·rw[bN q];rw[if_pos k0,if_pos q]at h;refine ah (aR (k 0 _ rfl) ?_);rw[aG];exact h
  ·rw[bp q];refine b4 λ_=>?_;unfold bP;grind
 grind
end
end Go.Proofs.YtmegplnmiepfbaaGreatDoor.S
namespace Go.Proofs.YtmegplnmiepfbaaGreatDoor.S
open Go.Sx
section
variable {w h sc l s c x y:Int}
def GB (hm:gz w h)(hx:0<=x/\x<w)(hy:0<=y/\y<h):aC w h (y*w+x)/cE w=y/16/\aC w h (y*w+x)%cE w=x/16:=by obtain⟨e1,e2⟩:=rH (y:=y) hx;have:=UY (aaN hm hx hy);grind
def zu (hs:dX w h sc):(1<=aD w h sc/\aD w h sc<=16)/\(1<=bz w h sc/\bz w h sc<=16)/\0<=sc%cE w/\0<=sc/cE w/\16*(sc%cE w)<w/\16*(sc/cE w)<h:=by
 obtain⟨hm,h0,h1⟩:=hs;have ha:1<=cE w:=by unfold cE;have:=hm.1;omega
 have m0:=Int.emod_nonneg sc (show cE w≠0 by omega);have m1:=Int.emod_lt_of_pos sc (show 0<cE w by omega);have d0:0<=sc/cE w:=Int.ediv_nonneg h0 (by omega);have d1:sc/cE w<cE h:=Int.ediv_lt_of_lt_mul (by omega) (by unfold dy at h1;grind);have a1:16*(sc%cE w)<w:=by unfold cE at*;omega
 have a2:16*(sc/cE w)<h:=by have:cE h=(h+15)/16:=rfl;omega
 unfold aD bz;omega
def QG (hs:dX w h sc)(hl:0<=l/\l<aD w h sc*bz w h sc)(vZ:0<=s/\s<=3)(hn:0<=bP (aD w h sc) (bz w h sc) l s):
  (0<=bP (aD w h sc) (bz w h sc) l s/\bP (aD w h sc) (bz w h sc) l s<aD w h sc*bz w h sc)/\bf w h (bU w h sc l) s=bU w h sc (bP (aD w h sc) (bz w h sc) l s):=by
 obtain⟨⟨w1,w2⟩,⟨h1,h2⟩,p1,p2,p3,p4⟩:=zu hs;have hw:aD w h sc<=w-16*(sc%cE w):=by unfold aD;omega
 have hh:bz w h sc<=h-16*(sc/cE w):=by unfold bz;omega
 obtain⟨i0,i1⟩:0<=l%aD w h sc/\l%aD w h sc<aD w h sc:=⟨Int.emod_nonneg _ (by omega),Int.emod_lt_of_pos _ (by omega)⟩;obtain⟨j0,j1⟩:0<=l/aD w h sc/\l/aD w h sc<bz w h sc:=⟨Int.ediv_nonneg hl.1 (by omega),Int.ediv_lt_of_lt_mul (by omega) (by rw[Int.mul_comm];exact hl.2)⟩;have hle:l=l/aD w h sc*aD w h sc+l%aD w h sc:=by have:=Int.mul_ediv_add_emod l (aD w h sc);rw[Int.mul_comm]at this;omega
 have hg:∀i j,0<=i/\i<aD w h sc->bU w h sc (j*aD w h sc+i)=(16*(sc/cE w)+j)*w+(16*(sc%cE w)+i):=λi j hi=>by obtain⟨e1,e2⟩:=rH hi;rw[bU,e1,e2];omega
 have key:∀i j i' j',l=j*aD w h sc+i->0<=i/\i<aD w h sc->0<=i'/\i'<aD w h sc->0<=j'/\j'<bz w h sc->bP (aD w h sc) (bz w h sc) l s=j'*aD w h sc+i'->
   (0<=j/\j<bz w h sc)->bf w h ((16*(sc/cE w)+j)*w+(16*(sc%cE w)+i)) s=g8 w h (16*(sc%cE w)+i') (16*(sc/cE w)+j')->
   (0<=bP (aD w h sc) (bz w h sc) l s/\bP (aD w h sc) (bz w h sc) l s<aD w h sc*bz w h sc)/\bf w h (bU w h sc l) s=bU w h sc (bP (aD w h sc) (bz w h sc) l s):=by
  intro i j i' j' el hi hi' hj' en hj es;rw[en,el,hg _ _ hi,hg _ _ hi',es,ng hs.1 (by omega) (by omega)];refine⟨⟨by have:=Int.mul_nonneg hj'.1 (show 0<=aD w h sc by omega);omega,?_⟩,rfl⟩;have:=Int.mul_le_mul_of_nonneg_right (show j'+1<=bz w h sc by omega) (show 0<=aD w h sc by omega);rw[Int.add_mul,Int.one_mul,Int.mul_comm (bz w h sc)]at this;omega
 have hst:=EK (s:=s) hs.1 (x:=16*(sc%cE w)+l%aD w h sc) (y:=16*(sc/cE w)+l/aD w h sc) (by omega) (by omega);unfold bP at hn;obtain rfl|rfl|rfl|rfl:s=0\/s=1\/s=2\/s=3:=by omega
 ·by_cases q:l/aD w h sc>0
  ·refine key _ _ (l%aD w h sc) (l/aD w h sc-1) hle ⟨i0,i1⟩ ⟨i0,i1⟩ (by omega) ?_ ⟨j0,j1⟩ ?_
   ·rw[bP,if_pos rfl,if_pos q,Int.sub_mul,Int.one_mul];omega
   ·rw[hst,if_pos rfl];congr 1;omega
  ·omega
 ·by_cases q:l%aD w h sc<aD w h sc-1
  ·refine key _ _ (l%aD w h sc+1) (l/aD w h sc) hle ⟨i0,i1⟩ (by omega) (by omega) ?_ ⟨j0,j1⟩ ?_
   ·unfold bP;omega
   ·rw[hst,if_neg (by decide),if_neg (by decide),if_neg (by decide),if_pos rfl];congr 1;omega
  ·omega
 ·by_cases q:l/aD w h sc<bz w h sc-1
  ·refine key _ _ (l%aD w h sc) (l/aD w h sc+1) hle ⟨i0,i1⟩ ⟨i0,i1⟩ (by omega) ?_ ⟨j0,j1⟩ ?_
   ·rw[bP,if_neg (by decide),if_neg (by decide),if_pos rfl,if_pos q,Int.add_mul,Int.one_mul];omega
   ·rw[hst,if_neg (by decide),if_pos rfl];congr 1;omega
  ·omega
 ·by_cases q:l%aD w h sc>0
  ·refine key _ _ (l%aD w h sc-1) (l/aD w h sc) hle ⟨i0,i1⟩ (by omega) (by omega) ?_ ⟨j0,j1⟩ ?_
   ·unfold bP;omega
   ·rw[hst,if_neg (by decide),if_neg (by decide),if_pos rfl];congr 1;omega
  ·omega
def Su (hs:dX w h sc)(hl:0<=l/\l<aD w h sc*bz w h sc)(vZ:0<=s/\s<=3)(hn:¬0<=bP (aD w h sc) (bz w h sc) l s):
  (0<=bf w h (bU w h sc l) s->aC w h (bf w h (bU w h sc l) s)≠sc)/\l∈mE (aD w h sc) (bz w h sc) s/\
  (0<=bf w h (bU w h sc l) s->0<=bf w h (bU w h sc (gi (mE (aD w h sc) (bz w h sc) s) 0)) s):=by
 obtain⟨⟨w1,w2⟩,⟨h1,h2⟩,p1,p2,p3,p4⟩:=zu hs;have hw:aD w h sc=min 16 (w-16*(sc%cE w)):=rfl;have hh:bz w h sc=min 16 (h-16*(sc/cE w)):=rfl;obtain⟨i0,i1⟩:0<=l%aD w h sc/\l%aD w h sc<aD w h sc:=⟨Int.emod_nonneg _ (by omega),Int.emod_lt_of_pos _ (by omega)⟩;obtain⟨j0,j1⟩:0<=l/aD w h sc/\l/aD w h sc<bz w h sc:=⟨Int.ediv_nonneg hl.1 (by omega),Int.ediv_lt_of_lt_mul (by omega) (by rw[Int.mul_comm];exact hl.2)⟩;have hle:l=l/aD w h sc*aD w h sc+l%aD w h sc:=by have:=Int.mul_ediv_add_emod l (aD w h sc);rw[Int.mul_comm]at this;omega
 have hg:∀i j,0<=i/\i<aD w h sc->bU w h sc (j*aD w h sc+i)=(16*(sc/cE w)+j)*w+(16*(sc%cE w)+i):=λi j hi=>by obtain⟨e1,e2⟩:=rH hi;rw[bU,e1,e2];omega
 have hst:=EK (s:=s) hs.1 (x:=16*(sc%cE w)+l%aD w h sc) (y:=16*(sc/cE w)+l/aD w h sc) (by omega) (by omega);have hgl:bU w h sc l=(16*(sc/cE w)+l/aD w h sc)*w+(16*(sc%cE w)+l%aD w h sc):=by have:=hg (l%aD w h sc) (l/aD w h sc) ⟨i0,i1⟩;rw[<-hle]at this;exact this
 rw[<-hgl]at hst;have first:∀i j,0<=i/\i<aD w h sc->0<=j/\j<bz w h sc->bf w h (bU w h sc (j*aD w h sc+i)) s=if s=0 then g8 w h (16*(sc%cE w)+i) (16*(sc/cE w)+j-1)else if s=2 then g8 w h (16*(sc%cE w)+i) (16*(sc/cE w)+j+1)else if s=3 then g8 w h (16*(sc%cE w)+i-1) (16*(sc/cE w)+j)else if s=1 then g8 w h (16*(sc%cE w)+i+1) (16*(sc/cE w)+j)else if s=4 then g8 w h (16*(sc%cE w)+i) (16*(sc/cE w)+j)else-1:=λi j hi hj=>by rw[hg i j hi];exact EK hs.1 (by omega) (by omega)
 have ok:∀{x y:Int},0<=g8 w h x y->(0<=x/\x<w)/\(0<=y/\y<h)/\g8 w h x y=y*w+x:=λh0=>by obtain⟨a,b,_⟩:=BN h0;exact⟨a,b,ng hs.1 a b⟩
 have pos:∀{x y:Int},0<=x/\x<w->0<=y/\y<h->0<=g8 w h x y:=λhx hy=>by rw[ng hs.1 hx hy];have:=Int.mul_nonneg hy.1 (show 0<=w by omega);omega
 have head:∀(n:Int) (f:Int->Int),0<n->gi (mD n f) 0=f 0:=λn f hn=>by unfold gi mD;rw[List.getD_eq_getElem?_getD,List.getElem?_map,List.getElem?_range (by omega)];rfl
 have mem:∀(n:Int) (f:Int->Int) (k:Int),0<=k/\k<n->f k∈mD n f:=λn f k hk=>by refine List.mem_map.2 ⟨k.toNat,List.mem_range.2 (by omega),?_⟩;rw[Int.toNat_of_nonneg hk.1]
 unfold bP at hn;obtain rfl|rfl|rfl|rfl:s=0\/s=1\/s=2\/s=3:=by omega
 ·rw[hst,if_pos rfl];have q:¬l/aD w h sc>0:=λq=>by have:=Int.mul_le_mul_of_nonneg_right (show 1<=l/aD w h sc by omega) (show 0<=aD w h sc by omega);omega
  have hj:l/aD w h sc=0:=by omega
  have ha:mE (aD w h sc) (bz w h sc) 0=mD (aD w h sc) λx=>0+x:=by unfold mE;rw[if_neg (by decide),if_pos rfl]
  rw[ha];refine⟨λh0 e=>?_,?_,λh0=>?_⟩
  ·obtain⟨a,b,e1⟩:=ok h0;rw[e1]at e;have:=(GB hs.1 a b).1;rw[e]at this;omega
  ·have:=mem (aD w h sc) (λx=>0+x) l (by rw[hj,Int.zero_mul]at hle;omega);simpa using this
  ·rw[head _ _ (by omega)];have:=first 0 0 (by omega) (by omega)
   rw[Int.zero_mul]at this;rw[this,if_pos rfl];obtain⟨a,b,_⟩:=ok h0;exact pos (by omega) (by omega)
 ·rw[hst,if_neg (by decide),if_neg (by decide),if_neg (by decide),if_pos rfl];have q:¬l%aD w h sc<aD w h sc-1:=λq=>by omega
  have ha:mE (aD w h sc) (bz w h sc) 1=mD (bz w h sc) λy=>aD w h sc-1+y*aD w h sc:=by unfold mE;rw[if_neg (by decide),if_neg (by decide),if_pos rfl]
  rw[ha];refine⟨λh0 e=>?_,?_,λh0=>?_⟩
  ·obtain⟨a,b,e1⟩:=ok h0;rw[e1]at e;have:=(GB hs.1 a b).2;rw[e]at this;omega
  ·have:=mem (bz w h sc) (λy=>aD w h sc-1+y*aD w h sc) (l/aD w h sc) ⟨j0,j1⟩;rwa[show aD w h sc-1+l/aD w h sc*aD w h sc=l by omega]at this
  ·rw[head _ _ (by omega)];have:=first (aD w h sc-1) 0 (by omega) (by omega)
   rw[Int.zero_mul,Int.zero_add]at this;rw[Int.zero_mul,Int.add_zero,this,if_neg (by decide),if_neg (by decide),if_neg (by decide),if_pos rfl];obtain⟨a,b,_⟩:=ok h0;exact pos (by omega) (by omega)
 ·rw[hst,if_neg (by decide),if_pos rfl];have q:¬l/aD w h sc<bz w h sc-1:=λq=>by omega
  have ha:mE (aD w h sc) (bz w h sc) 2=mD (aD w h sc) λx=>(bz w h sc-1)*aD w h sc+x:=by unfold mE;rw[if_pos rfl]
  rw[ha];have hj:l/aD w h sc=bz w h sc-1:=by omega
  refine⟨λh0 e=>?_,?_,λh0=>?_⟩
  ·obtain⟨a,b,e1⟩:=ok h0;rw[e1]at e;have:=(GB hs.1 a b).1;rw[e]at this;omega
  ·have:=mem (aD w h sc) (λx=>(bz w h sc-1)*aD w h sc+x) (l%aD w h sc) ⟨i0,i1⟩;rwa[show(bz w h sc-1)*aD w h sc+l%aD w h sc=l by rw[<-hj];omega]at this
  ·rw[head _ _ (by omega)];have:=first 0 (bz w h sc-1) (by omega) (by omega)
   rw[this,if_neg (by decide),if_pos rfl];obtain⟨a,b,_⟩:=ok h0;exact pos (by omega) (by omega)
 ·rw[hst,if_neg (by decide),if_neg (by decide),if_pos rfl];have q:¬l%aD w h sc>0:=λq=>by have:=Int.mul_nonneg j0 (show 0<=aD w h sc by omega);omega
  have ha:mE (aD w h sc) (bz w h sc) 3=mD (bz w h sc) λy=>0+y*aD w h sc:=by unfold mE;rw[if_neg (by decide),if_neg (by decide),if_neg (by decide),if_pos rfl]
  rw[ha];refine⟨λh0 e=>?_,?_,λh0=>?_⟩
  ·obtain⟨a,b,e1⟩:=ok h0;rw[e1]at e;have:=(GB hs.1 a b).2;rw[e]at this;omega
  ·have:=mem (bz w h sc) (λy=>0+y*aD w h sc) (l/aD w h sc) ⟨j0,j1⟩;rwa[show 0+l/aD w h sc*aD w h sc=l by omega]at this
  ·rw[head _ _ (by omega),Int.zero_mul,Int.add_zero];have:=first 0 0 (by omega) (by omega)
   rw[Int.zero_mul,Int.add_zero]at this;rw[this,if_neg (by decide),if_neg (by decide),if_pos rfl];obtain⟨a,b,_⟩:=ok h0;exact pos (by omega) (by omega)
end
def fU (m:bJ)(x n c:Int):Prop:=ff m x=true/\ff m n=true/\(∃s:Int,(0<=s/\s<=3)/\bf m.w m.h x s=n)/\c=cT m n
def gB (m:bJ)(t x k:Int):Prop:=x=t/\ff m t=true/\k=0
noncomputable def D (m:bJ)(t x:Int):Int:=gL (gB m t) (fU m) x
def cS (m:bJ)(x:Int):Int:=aC m.w m.h x
def oe (m:bJ)(x:Int):Prop:=x∈aW m (cS m x)
section
variable {m:bJ}{t x n c d s sc l:Int}
def Cj (h:ff m x=true):0<cT m x/\cT m x<255:=by unfold ff at h;simpa using h
def jT (hm:cR m)(h:ff m x=true):bK m.w m.h x:=by
 have:=(Cj h).1;unfold cT at this;split at this
 ·rename_i hx;rw[hm.len]at hx;exact⟨⟨hm.w,hm.h⟩,hx⟩
 ·omega
def GC (h:fU m x n c):1<=c/\c<=254:=by have:=Cj h.2.1;rw[h.2.2.2];omega
def Sv {k:Int}(h:gB m t x k):0<=k/\k<=0:=by rw[h.2.2];omega
def cZ:∀x n c,fU m x n c->0<=c:=λx n c h=>by have:=GC h;omega
def kT:∀x k,gB m t x k->0<=k:=λx k h=>(Sv h).1
def aku (h:Wy (gB m t) (fU m) x d):ff m x=true/\ff m t=true:=by
 induction h with
 |src h=>exact⟨by rw[h.1];exact h.2.1,h.2.1⟩
 |go e _ ih=>exact⟨e.1,ih.2⟩
def jU (m:bJ):List Int:=(List.range m.cs.length).map λi:Nat=>(i:Int)
def zv (hm:cR m)(hx:bK m.w m.h x):x∈jU m:=by have h1:=hx.2;have h2:=hm.len;exact List.mem_map.2 ⟨x.toNat,List.mem_range.2 (by omega),by omega⟩
def ah1 (hm:cR m)(hw:Wy (gB m t) (fU m) x d):0<=D m t x/\D m t x<=254*(m.w*m.h-1):=by
 have h1:=aaO (S:=gB m t) (E:=fU m) (λx k h=>Sv h) (λx n c h=>GC h) (jU m) (λx d h=>zv hm (jT hm (aku h).1)) hw;have h2:((jU m).length:Int)=m.w*m.h:=by rw[<-hm.len];simp[jU]
 refine⟨mK kT cZ (qO kT cZ hw).1,?_⟩;show gL (gB m t) (fU m) x<=_;omega
def ap1 (hm:cR m)(hw:Wy (gB m t) (fU m) x d):D m t x<1000000000:=by have:=ah1 hm hw;have:=mV ⟨hm.w,hm.h⟩;omega
def abx (h:¬∃d,Wy (gB m t) (fU m) x d):D m t x=bW:=xI λd hd=>h ⟨d,hd⟩
def GD (hm:cR m):D m t x<bW↔∃d,Wy (gB m t) (fU m) x d:=by
 constructor
 ·intro h;refine Classical.byContradiction λk=>?_;rw[abx k]at h;grind
 ·rintro ⟨d,hd⟩;have:=ap1 hm hd;unfold bW;omega
def arH (hw:Wy (gB m t) (fU m) x d):Wy (gB m t) (fU m) x (D m t x)/\∀e,Wy (gB m t) (fU m) x e->D m t x<=e:=qO kT cZ hw
def aud (h:ff m t=true):D m t t=0:=KZ (.src ⟨rfl,h,rfl⟩) λe he=>mK kT cZ he
def Kr (m:bJ)(t x s:Int):Prop:=0<=bf m.w m.h x s/\ff m (bf m.w m.h x s)=true/\cT m (bf m.w m.h x s)+D m t (bf m.w m.h x s)=D m t x
open Classical in
noncomputable def sW (m:bJ)(t x:Int):Int:=
 if D m t x=bW then 5 else if x=t then 4 else if Kr m t x 0 then 0 else if Kr m t x 1 then 1 else if Kr m t x 2 then 2 else if Kr m t x 3 then 3 else 5
def ap2 (hm:cR m)(hD:D m t x<bW)(hx:x≠t):∃s,(0<=s/\s<=3)/\Kr m t x s:=by
 obtain⟨d,hw⟩:=(GD hm).1 hD;rcases Rr kT cZ hw with h1|⟨n,c,h1,h2,d',h3⟩
 ·exact(hx h1.1).elim
 ·obtain⟨ho,hn,⟨s,hs,rfl⟩,rfl⟩:=h1;refine⟨s,hs,(jT hm hn).2.1,hn,?_⟩;show cT m _+gL (gB m t) (fU m) _=gL (gB m t) (fU m) x;omega
def akv (hm:cR m)(hD:D m t x<bW)(hx:x≠t):(0<=sW m t x/\sW m t x<=3)/\Kr m t x (sW m t x)/\∀s,0<=s->s<sW m t x->¬Kr m t x s:=by obtain⟨s,hs,hd⟩:=ap2 hm hD hx;rw[sW,fS,if_neg hx];grind
def I7 {w h:Int}(hs:0<=s/\s<=3)(h0:0<=bf w h x s):∃s',(0<=s'/\s'<=3)/\bf w h (bf w h x s) s'=x:=by
 obtain⟨c1,c2⟩:=zR h0;obtain⟨q1,q2,q3⟩:=Ir c1;have hst:bf w h x s=if s=0 then g8 w h (x%w) (x/w-1)else if s=2 then g8 w h (x%w) (x/w+1)else if s=3 then g8 w h (x%w-1) (x/w)else if s=1 then g8 w h (x%w+1) (x/w)else if s=4 then g8 w h (x%w) (x/w)else-1:=by unfold bf;grind
 have ok:∀{a b:Int},0<=g8 w h a b->(0<=a/\a<w)/\(0<=b/\b<h)/\g8 w h a b=b*w+a:=λh0=>by obtain⟨a,b,_⟩:=BN h0;exact⟨a,b,ng c1.1 a b⟩
 rw[hst]at h0⊢;obtain rfl|rfl|rfl|rfl:s=0\/s=1\/s=2\/s=3:=by omega
 ·rw[if_pos rfl]at h0⊢;obtain⟨a,b,e⟩:=ok h0;rw[e];refine⟨2,by decide,?_⟩;rw[EK c1.1 a b,if_neg (by decide),if_pos rfl,ng c1.1 (by omega) (by omega),Int.sub_add_cancel];exact q3.symm
 ·rw[if_neg (by decide),if_neg (by decide),if_neg (by decide),if_pos rfl]at h0⊢;obtain⟨a,b,e⟩:=ok h0;rw[e];refine⟨3,by decide,?_⟩;rw[EK c1.1 a b,if_neg (by decide),if_neg (by decide),if_pos rfl,ng c1.1 (by omega) (by omega)];omega
 ·rw[if_neg (by decide),if_pos rfl]at h0⊢;obtain⟨a,b,e⟩:=ok h0;rw[e];refine⟨0,by decide,?_⟩;rw[EK c1.1 a b,if_pos rfl,ng c1.1 (by omega) (by omega),Int.add_sub_cancel];exact q3.symm
 ·rw[if_neg (by decide),if_neg (by decide),if_pos rfl]at h0⊢;obtain⟨a,b,e⟩:=ok h0;rw[e];refine⟨1,by decide,?_⟩;rw[EK c1.1 a b,if_neg (by decide),if_neg (by decide),if_neg (by decide),if_pos rfl,ng c1.1 (by omega) (by omega)];omega
def anF {tw th:Int}(ht:1<=tw)(hh:1<=th)(vZ:0<=s/\s<=3)(h:l∈mE tw th s):¬0<=bP tw th l s:=by
 have mem:∀{n:Int} {f:Int->Int},l∈mD n f->∃k:Int,(0<=k/\k<n)/\l=f k:=λh=>by obtain⟨i,h1,h2⟩:=mem_range h;grind
 unfold mE at h;unfold bP;obtain rfl|rfl|rfl|rfl:s=0\/s=1\/s=2\/s=3:=by omega
 ·grind
 ·rw[if_neg (by decide),if_neg (by decide),if_pos rfl]at h;obtain⟨k,h1,rfl⟩:=mem h;have:=(rH (w:=tw) (x:=tw-1) (y:=k) (by omega)).2;grind
 ·obtain⟨k,h1,rfl⟩:=mem h;have:=(rH (y:=th-1) (by omega)).1;omega
 ·rw[if_neg (by decide),if_neg (by decide),if_neg (by decide),if_pos rfl]at h;obtain⟨k,h1,rfl⟩:=mem h;simp_all
def anG {w h:Int}(hc:bK w h c)(vZ:0<=s/\s<=3)(ho:0<=gK w h c s):c∈vm w h (aC w h c):=by
 have hs:=bS hc;have hl:=jY hc;have hg:=nT hc;obtain⟨⟨w1,w2⟩,⟨h1,h2⟩,_⟩:=zu hs;have hst:0<=bf w h c s/\aC w h (bf w h c s)≠aC w h c:=by unfold gK at ho;omega
 have hout:¬0<=bP (aD w h (aC w h c)) (bz w h (aC w h c)) (dY w h c) s:=λk=>by obtain⟨k1,k2⟩:=QG hs hl vZ k;rw[hg]at k2;apply hst.2;rw[k2];exact iU hs k1
 obtain⟨o1,o2,o3⟩:=Su hs hl vZ hout;rw[hg]at o1 o3;have o3:=o3 hst.1;have ok:=ahW (sd:=s) ⟨w1,w2⟩ ⟨h1,h2⟩;have h0:=fE (ok.2.1 vZ);have hr0:=ok.2.2 _ h0;have Ch:I6 w h (aC w h c) s=true:=by
  rw[I6,decide_eq_true_iff];rw[CF,if_pos ⟨hs,hr0⟩];rw[gK,fS,if_neg]
  ·exact o3
  ·rw[iU hs hr0];exact(Su hs hr0 vZ (anF w1 h1 vZ h0)).1 o3
 refine List.mem_map.2 ⟨(dY w h c).toNat,List.mem_filter.2 ⟨List.mem_range.2 (by omega),?_⟩,?_⟩
 ·rw[yu,List.any_eq_true];refine⟨s.toNat,List.mem_range.2 (by omega),?_⟩;grind
 grind
def anH {w h:Int}(hs:dX w h sc)(h1:c∈vm w h sc):bK w h c/\aC w h c=sc:=by obtain⟨l,h2,rfl⟩:=List.mem_map.1 h1;have h3:=List.mem_range.1 (List.mem_filter.1 h2).1;exact⟨sO hs (by omega),iU hs (by omega)⟩
def mF (hs:dX m.w m.h sc)(h1:c∈aW m sc):ff m c=true/\bK m.w m.h c/\aC m.w m.h c=sc:=by obtain⟨h2,h3⟩:=List.mem_filter.1 h1;exact⟨h3,anH hs h2⟩
def VX (hm:cR m)(ho:ff m c=true)(vZ:0<=s/\s<=3)(h:0<=gK m.w m.h c s):oe m c:=by exact List.mem_filter.2 ⟨anG (jT hm ho) vZ h,ho⟩
def rB (hm:cR m):∀x n c,fU m x n c->cS m x≠cS m n->oe m x/\oe m n:=by
 rintro x n c ⟨h1,h2,⟨s,hs,rfl⟩,_⟩ hne;have O0:=(jT hm h2).2.1;obtain⟨s',hs',hb⟩:=I7 hs O0;refine⟨VX hm h1 hs ?_,VX hm h2 hs' ?_⟩
 ·rw[gK,fS,if_neg λe=>hne e.symm];exact O0
 ·have hx0:=(jT hm h1).2.1;rw[gK,hb,fS,if_neg (show¬aC m.w m.h x=aC m.w m.h (bf m.w m.h x s)from hne)];exact hx0
end
section
variable {m:bJ}{t x n c d s sc l:Int}
noncomputable def R (m:bJ)(t x:Int):Int:=gL (K0 (gB m t) (fU m) (cS m) (oe m) t) (Jn (fU m) (cS m) (oe m)) x
def alx (m:bJ)(t s x k:Int):Prop:=cS m x=s/\(gB m t x k\/∃n c,fU m x n c/\cS m n≠s/\D m t n<bW/\k=D m t n+c)
def FD:∀x k,gB m t x k->x=t/\k=0:=λx k h=>⟨h.1,h.2.2⟩
def avT (hm:cR m)(hx:oe m x)(h:D m t x<bW):Wy (K0 (gB m t) (fU m) (cS m) (oe m) t) (Jn (fU m) (cS m) (oe m)) x (D m t x):=by obtain⟨d,hw⟩:=(GD hm).1 h;have h1:=arH hw;obtain⟨e,h2,h3⟩:=ahs FD cZ (rB hm) hx h1.1;have h4:=h1.2 _ (M_ FD cZ (rB hm) h3);grind
def auf (hm:cR m)(hx:oe m x):R m t x=D m t x:=
 YT (λd hd=>mK kT cZ hd) (λd hd=>ahs FD cZ (rB hm) hx hd) λd hd=>M_ FD cZ (rB hm) hd
def asM (hm:cR m)(hx:cS m x=s):gL (alx m t s) (tN (fU m) (cS m) s) x=D m t x:=by
 subst hx;have LG:=@M_ Int (gB m t) (fU m) (cS m) (oe m) t FD cZ (rB hm);have e1:gL (ahq (gB m t) (fU m) (cS m) (cS m x) (Wy (K0 (gB m t) (fU m) (cS m) (oe m) t) (Jn (fU m) (cS m) (oe m)))) (tN (fU m) (cS m) (cS m x)) x=D m t x:=
  YT (λd hd=>mK kT cZ hd) (λd hd=>ahr FD cZ (rB hm) hd)
   λd hd=>anl FD cZ (rB hm) (λn d hn=>LG hn) hd
 rw[<-e1];refine asF ?_ (λx n c h=>cZ _ _ _ h.1) ?_ ?_
 ·rintro x k ⟨_,h|⟨n,c,d,h1,_,h2,rfl⟩⟩
  ·exact kT _ _ h
  ·have:=cZ _ _ _ h1;have:=mK kT cZ (LG h2);omega
 ·rintro x k ⟨h0,h|⟨n,c,d,h1,h3,h2,rfl⟩⟩
  ·exact⟨k,Int.le_refl _,h0,.inl h⟩
  ·have h4:=LG h2;have h5:=arH h4;have h6:=h5.2 _ h4;exact⟨D m t n+c,by omega,h0,.inr ⟨n,c,h1,h3,(GD hm).2 ⟨d,h4⟩,rfl⟩⟩
 ·rintro x k ⟨h0,h|⟨n,c,h1,h3,h4,rfl⟩⟩
  ·exact⟨h0,.inl h⟩
  ·exact⟨h0,.inr ⟨n,c,_,h1,h3,avT hm (rB hm _ _ _ h1 (by grind)).2 h4,rfl⟩⟩
def It (cs:List Int)(l:Int):Prop:=0<=l/\l<cs.length/\gi cs l.toNat≠255
def Iu (tw th:Int)(cs:List Int)(x n c:Int):Prop:=It cs x/\It cs n/\(∃s:Int,(0<=s/\s<=3)/\bP tw th x s=n)/\c=gi cs n.toNat
def ap3 {α β:Type}{S:α->Int->Prop}{E:α->α->Int->Prop}{S':β->Int->Prop}{E':β->β->Int->Prop}{φ:α->β}{G:α->Prop}
  (h1:∀x k,G x->(S x k↔S' (φ x) k))(h2:∀x n c,G x->E x n c->G n/\E' (φ x) (φ n) c)(h3:∀x y c,G x->E' (φ x) y c->∃n,G n/\y=φ n/\E x n c){x:α}(hx:G x):gL S E x=gL S' E' (φ x):=by
 have a:∀{x d},Wy S E x d->G x->Wy S' E' (φ x) d:=λh=>by
  induction h with
  |src h=>exact λg=>.src ((h1 _ _ g).1 h)
  |go e _ ih=>exact λg=>.go (h2 _ _ _ g e).2 (ih (h2 _ _ _ g e).1)
 have b:∀{y d},Wy S' E' y d->∀x,G x->y=φ x->Wy S E x d:=λh=>by
  induction h with
  |src h=>rintro x g rfl;exact .src ((h1 _ _ g).2 h)
  |go e _ ih=>
   rintro x g rfl;obtain⟨n,h4,h5,h6⟩:=h3 _ _ _ g e;exact .go h6 (ih n h4 h5)
 have e:∀d,Wy S E x d↔Wy S' E' (φ x) d:=λd=>⟨λh=>a h hx,λh=>b h x hx rfl⟩;by_cases h:∃d,Wy S E x d/\∀e,Wy S E x e->d<=e
 ·obtain⟨d,p,q⟩:=h;rw[KZ p q,KZ ((e d).1 p) λe' he'=>q _ ((e e').2 he')]
 ·unfold gL;grind
def dU (m:bJ)(sc:Int):List Int:=(List.range (aD m.w m.h sc*bz m.w m.h sc).toNat).map λl:Nat=>cT m (bU m.w m.h sc l)
def Ck:((dU m sc).length:Int)=(aD m.w m.h sc*bz m.w m.h sc).toNat:=by simp[dU]
def LH (hl:0<=l/\l<aD m.w m.h sc*bz m.w m.h sc):gi (dU m sc) l.toNat=cT m (bU m.w m.h sc l):=by unfold gi dU;grind
def LI (hm:cR m)(hc:bK m.w m.h c):1<=cT m c/\cT m c<=255:=by have h1:=hc.2;have h2:=hm.len;unfold cT;have:=hm.jC _ (fE (i:=c.toNat) (by omega));omega
def Cl (hm:cR m)(hc:bK m.w m.h c):ff m c=true↔cT m c≠255:=by have:=LI hm hc;unfold ff;grind
def I8 (hm:cR m)(hs:dX m.w m.h sc)(hl:0<=l/\l<aD m.w m.h sc*bz m.w m.h sc):It (dU m sc) l↔ff m (bU m.w m.h sc l)=true:=by rw[Cl hm (sO hs hl)];rw[It,LH hl,Ck];omega
def ah2 (hm:cR m)(hs:dX m.w m.h sc){S S':Int->Int->Prop}(hS:∀l k,0<=l/\l<aD m.w m.h sc*bz m.w m.h sc->(S l k↔S' (bU m.w m.h sc l) k))(hl:0<=l/\l<aD m.w m.h sc*bz m.w m.h sc):
  gL S (Iu (aD m.w m.h sc) (bz m.w m.h sc) (dU m sc)) l=gL S' (tN (fU m) (cS m) sc) (bU m.w m.h sc l):=by
 refine ap3 (λx k g=>hS x k g) ?_ ?_ hl
 ·rintro x n c g ⟨h1,h2,⟨s,vZ,rfl⟩,rfl⟩;have h3:=QG hs g vZ h2.1;refine⟨h3.1,⟨(I8 hm hs g).1 h1,(I8 hm hs h3.1).1 h2,⟨s,vZ,h3.2⟩,?_⟩,iU hs g,iU hs h3.1⟩;exact LH h3.1
 ·rintro x y c g ⟨⟨h1,h2,⟨s,vZ,rfl⟩,rfl⟩,h3,h4⟩;have h0:=(jT hm h2).2.1;by_cases hn:0<=bP (aD m.w m.h sc) (bz m.w m.h sc) x s
  ·have h5:=QG hs g vZ hn;refine⟨_,h5.1,h5.2,(I8 hm hs g).2 h1,(I8 hm hs h5.1).2 (by grind),⟨s,vZ,rfl⟩,?_⟩;rw[h5.2];exact(LH h5.1).symm
  ·exact((Su hs g vZ hn).1 h0 h4).elim
def anI (hm:cR m)(hs:dX m.w m.h sc)(hl:0<=l/\l<aD m.w m.h sc*bz m.w m.h sc){S:Int->Int->Prop}(hS:∀l k,0<=l/\l<aD m.w m.h sc*bz m.w m.h sc->(S l k↔alx m t sc (bU m.w m.h sc l) k)):
  gL S (Iu (aD m.w m.h sc) (bz m.w m.h sc) (dU m sc)) l=D m t (bU m.w m.h sc l):=by
 rw[ah2 hm hs hS hl];exact asM hm (iU hs hl)
end
section
variable {m:bJ}{t x n c d s sc l k:Int}{xs ys:List bj}
def aeY (h:∀x∈xs,x.c=c->x.s=s->x.k=k):∀st:Int×Bool,(st.2=true->st.1=k)->(xs.foldl (Ss c s) st).1=if∃x∈xs,x.c=c/\x.s=s then k else st.1:=by
 induction xs with
 |nil=>grind
 |cons a xs ih=>
  intro st hst;rw[List.foldl_cons];have ih:=ih (λx hx=>h x (by simp[hx]));unfold Ss at ih⊢;by_cases ha:a.c=c/\a.s=s
  ·have hk:=h a (by simp) ha.1 ha.2;by_cases hb:st.2=false\/a.k<st.1
   ·rw[if_pos ⟨ha.1,ha.2,hb⟩,ih _ λ_=>hk,if_pos (c:=∃x∈a::xs,x.c=c/\x.s=s) ⟨a,by simp,ha⟩];split
    ·rfl
    ·exact hk
   ·rw[if_neg λe=>hb e.2.2,ih _ hst,if_pos (c:=∃x∈a::xs,x.c=c/\x.s=s) ⟨a,by simp,ha⟩];split
    ·rfl
    ·apply hst;rcases h2:st.2 with _|_
     ·exact(hb (.inl h2)).elim
     ·rfl
  ·rw[if_neg λe=>ha ⟨e.1,e.2.1⟩,ih _ hst];have:(∃x∈a::xs,x.c=c/\x.s=s)↔∃x∈xs,x.c=c/\x.s=s:=by
    constructor
    ·rintro ⟨x,hx,h1⟩;rcases List.mem_cons.1 hx with rfl|hx
     ·exact(ha h1).elim
     ·exact⟨x,hx,h1⟩
    ·rintro ⟨x,hx,h1⟩;exact⟨x,by simp[hx],h1⟩
   by_cases q:∃x∈xs,x.c=c/\x.s=s
   ·rw[if_pos q,if_pos (this.2 q)]
   ·rw[if_neg q,if_neg λe=>q (this.1 e)]
def aeZ (h:∀x∈xs,x.c=c->x.s=s->x.k=k)(he:∃x∈xs,x.c=c/\x.s=s):Is xs c s=k:=by rw[Is,aeY h (bW,false) (by simp),if_pos he]
def VY (h:∀x∈xs,¬(x.c=c/\x.s=s)):Is xs c s=bW:=by rw[Is,aeY (k:=0) (λx hx h1 h2=>(h x hx ⟨h1,h2⟩).elim) (bW,false) (by simp),if_neg λ⟨x,hx,h1⟩=>h x hx h1]
def Nm (xs:List bj)(l k:Int):Prop:=∃x∈xs,x.c=l/\x.k=k
def Iv (m:bJ)(at_:Int->Int)(c:Int):List bj:=(vo m c).filterMap λe=>if at_ e.1=bW then none else some ⟨dY m.w m.h c,Ag m.w m.h c e.1,e.2+at_ e.1⟩
def E2 (m:bJ)(at_:Int->Int)(t sc:Int):List bj:=(aW m sc).flatMap (Iv m at_)++if aC m.w m.h t=sc/\cT m t≠255 then[⟨dY m.w m.h t,4,0⟩]else[]
def asN {w h s':Int}(hs:0<=s/\s<=3)(hs':0<=s'/\s'<=4)(h0:0<=bf w h x s)(e:bf w h x s'=bf w h x s):s'=s:=by
 obtain⟨c1,c2⟩:=zR h0;have hst:∀s,bf w h x s=if s=0 then g8 w h (x%w) (x/w-1)else if s=2 then g8 w h (x%w) (x/w+1)else if s=3 then g8 w h (x%w-1) (x/w)else if s=1 then g8 w h (x%w+1) (x/w)else if s=4 then g8 w h (x%w) (x/w)else-1:=λs=>by unfold bf;grind
 have ok:∀{a b:Int},0<=g8 w h a b->(0<=a/\a<w)/\(0<=b/\b<h)/\g8 w h a b=b*w+a:=λh0=>by obtain⟨a,b,_⟩:=BN h0;exact⟨a,b,ng c1.1 a b⟩
 grind
def VZ {w h:Int}(hs:0<=s/\s<=3)(h0:0<=bf w h x s):Ag w h x (bf w h x s)=s:=by
 obtain⟨c1,c2⟩:=zR h0;unfold Ag;have k:∀s',0<=s'/\s'<=4->s'≠s->¬bf w h x s'=bf w h x s:=λs' h1 h2 e=>h2 (asN hs h1 h0 e);obtain rfl|rfl|rfl|rfl:s=0\/s=1\/s=2\/s=3:=by omega
 all_goals grind
def Cm {w h:Int}(h0:0<=gK w h c s):gK w h c s=bf w h c s/\aC w h (bf w h c s)≠aC w h c:=by unfold gK at h0⊢;omega
def V0 {e:Int×Int}:e∈vo m c↔ff m c=true/\∃s:Int,(0<=s/\s<=3)/\0<=gK m.w m.h c s/\ff m (gK m.w m.h c s)=true/\e=(gK m.w m.h c s,cT m (gK m.w m.h c s)):=by
 unfold vo;by_cases ho:ff m c=true
 ·rw[if_pos ho];rw[Gx,List.mem_filterMap];constructor
  ·rintro ⟨s,h1,h2⟩;have h1:=List.mem_range.1 h1;unfold FC at h2;grind
  ·rintro ⟨_,s,h1,h2,h3,rfl⟩;refine⟨s.toNat,List.mem_range.2 (by omega),?_⟩;unfold FC;grind
 grind
def QH (hm:cR m)(hs:dX m.w m.h sc)(ht:bK m.w m.h t){x:bj}:x∈E2 m (D m t) t sc↔
  ((0<=x.c/\x.c<aD m.w m.h sc*bz m.w m.h sc)/\(0<=x.s/\x.s<=3)/\ff m (bU m.w m.h sc x.c)=true/\0<=gK m.w m.h (bU m.w m.h sc x.c) x.s/\ff m (gK m.w m.h (bU m.w m.h sc x.c) x.s)=true/\
   D m t (gK m.w m.h (bU m.w m.h sc x.c) x.s)<bW/\x.k=cT m (gK m.w m.h (bU m.w m.h sc x.c) x.s)+D m t (gK m.w m.h (bU m.w m.h sc x.c) x.s))\/
  ((0<=x.c/\x.c<aD m.w m.h sc*bz m.w m.h sc)/\bU m.w m.h sc x.c=t/\ff m t=true/\x.s=4/\x.k=0):=by
 have axQ:∀z,D m t z≠bW↔D m t z<bW:=λz=>by
  constructor
  ·intro h;by_cases q:∃d,Wy (gB m t) (fU m) z d
   ·exact(GD hm).2 q
   ·exact(h (abx q)).elim
  omega
 rw[E2,List.mem_append,List.mem_flatMap];refine or_congr ⟨?_,?_⟩ ⟨?_,?_⟩
 ·rintro ⟨c,h1,h2⟩;obtain⟨ho,hc,hsc⟩:=mF hs h1;obtain⟨e,h3,h4⟩:=List.mem_filterMap.1 h2;split at h4
  ·cases h4
  rename_i h5;cases h4;obtain⟨_,s,h6,h7,h8,rfl⟩:=V0.1 h3;have hl:=jY hc;have hg:=nT hc;obtain⟨h9,h10⟩:=Cm h7;have vZ:Ag m.w m.h c (gK m.w m.h c s)=s:=by rw[h9];exact VZ h6 (by grind)
  grind
 ·rintro ⟨h1,h2,h3,h4,h5,h6,h7⟩;have hsc:=iU hs h1;refine⟨bU m.w m.h sc x.c,?_,?_⟩
  ·have:=VX hm h3 h2 h4;unfold oe cS at this;grind
  ·refine List.mem_filterMap.2 ⟨_,V0.2 ⟨h3,x.s,h2,h4,h5,rfl⟩,?_⟩;obtain⟨h9,h10⟩:=Cm h4;rw[if_neg ((axQ _).2 h6),F3 hs h1];have vZ:Ag m.w m.h (bU m.w m.h sc x.c) (gK m.w m.h (bU m.w m.h sc x.c) x.s)=x.s:=by rw[h9];exact VZ h2 (by grind)
   rw[vZ,<-h7]
 ·intro h;split at h
  ·rename_i h1;rw[List.mem_singleton]at h;subst h;have hl:=jY ht;have hg:=nT ht;rw[h1.1]at hl hg;exact⟨hl,hg,(Cl hm ht).2 h1.2,rfl,rfl⟩
  ·simp at h
 ·rintro ⟨h1,h2,h3,h4,h5⟩;have hsc:=iU hs h1;rw[h2]at hsc;rw[if_pos ⟨hsc,(Cl hm ht).1 h3⟩,List.mem_singleton];have h6:=F3 hs h1;rw[h2]at h6;rw[h6,<-h4,<-h5]
def ap4 (hm:cR m)(hs:dX m.w m.h sc)(ht:bK m.w m.h t)(hxs:∀x,x∈xs↔x∈E2 m (D m t) t sc)(hl:0<=l/\l<aD m.w m.h sc*bz m.w m.h sc):Nm xs l k↔alx m t sc (bU m.w m.h sc l) k:=by
 have hsc:=iU hs hl;constructor
 ·rintro ⟨x,h1,rfl,rfl⟩;rcases(QH hm hs ht).1 ((hxs x).1 h1)with⟨_,h2,h3,h4,h5,h6,h7⟩|⟨_,h2,h3,h4,h5⟩
  ·obtain⟨h9,h10⟩:=Cm h4;refine⟨hsc,.inr ⟨_,_,⟨h3,h5,⟨x.s,h2,h9.symm⟩,rfl⟩,?_,h6,by omega⟩⟩;rw[h9];rw[hsc]at h10;exact h10
  ·exact⟨hsc,.inl ⟨h2,h3,h5⟩⟩
 ·rintro ⟨_,⟨h1,h2,h3⟩|⟨n,c,⟨h1,h2,⟨s,h3,rfl⟩,rfl⟩,h4,h5,rfl⟩⟩
  ·exact⟨⟨l,4,k⟩,(hxs _).2 ((QH hm hs ht).2 (.inr ⟨hl,h1,h2,rfl,h3⟩)),rfl,rfl⟩
  ·have h0:=(jT hm h2).2.1;have ho:gK m.w m.h (bU m.w m.h sc l) s=bf m.w m.h (bU m.w m.h sc l) s:=by rw[gK,fS,if_neg (by rw[hsc];exact h4)]
   refine⟨⟨l,s,_⟩,(hxs _).2 ((QH hm hs ht).2 (.inl ⟨hl,h3,h1,by grind,by grind,by grind,by rw[ho]⟩)),rfl,?_⟩;grind
noncomputable def LJ (tw th:Int)(cs:List Int)(xs:List bj)(l:Int):Int:=gL (Nm xs) (Iu tw th cs) l
def Th (tw th:Int)(cs:List Int)(xs:List bj)(f:Int->Int)(l s:Int):Bool:=
 if bP tw th l s<0 then Is xs l s==f l else gi cs (bP tw th l s).toNat !=255&&(gi cs (bP tw th l s).toNat+f (bP tw th l s)==f l)
def ZJ (tw th:Int)(cs:List Int)(xs:List bj)(f:Int->Int)(l:Int):Int:=
 if f l=bW then 5 else if Is xs l 4=f l then 4 else if Th tw th cs xs f l 0 then 0 else if Th tw th cs xs f l 1 then 1 else if Th tw th cs xs f l 2 then 2 else if Th tw th cs xs f l 3 then 3 else 5
def aug (hm:cR m)(hs:dX m.w m.h sc)(ht:bK m.w m.h t)(hxs:∀x,x∈xs↔x∈E2 m (D m t) t sc)(hl:0<=l/\l<aD m.w m.h sc*bz m.w m.h sc):
  LJ (aD m.w m.h sc) (bz m.w m.h sc) (dU m sc) xs l=D m t (bU m.w m.h sc l):=
 anI hm hs hl λl k h=>ap4 hm hs ht hxs h
def dir_eq (hm:cR m)(hs:dX m.w m.h sc)(ht:bK m.w m.h t)(hxs:∀x,x∈xs↔x∈E2 m (D m t) t sc){f:Int->Int}(hf:∀l,0<=l/\l<aD m.w m.h sc*bz m.w m.h sc->f l=D m t (bU m.w m.h sc l))(hl:0<=l/\l<aD m.w m.h sc*bz m.w m.h sc):
  ZJ (aD m.w m.h sc) (bz m.w m.h sc) (dU m sc) xs f l=sW m t (bU m.w m.h sc l):=by
 have hsc:=iU hs hl;have hmem:=λx=>(hxs x).trans (QH hm hs ht);unfold ZJ sW;rw[hf l hl];by_cases hI:D m t (bU m.w m.h sc l)=bW
 ·grind
 rw[if_neg hI,if_neg hI];have hDl:D m t (bU m.w m.h sc l)<bW:=by
  by_cases q:∃d,Wy (gB m t) (fU m) (bU m.w m.h sc l) d
  ·exact(GD hm).2 q
  ·exact(hI (abx q)).elim
 have hop:ff m (bU m.w m.h sc l)=true/\ff m t=true:=by obtain⟨d,hd⟩:=(GD hm).1 hDl;exact aku hd
 by_cases hT:bU m.w m.h sc l=t
 ·rw[if_pos hT,if_pos];rw[hT,aud hop.2];refine aeZ (λx hx h1 h2=>?_) ⟨⟨l,4,0⟩,(hmem _).2 (.inr ⟨hl,hT,hop.2,rfl,rfl⟩),rfl,rfl⟩;grind
 rw[if_neg hT,if_neg]
 ·have key:∀s,0<=s/\s<=3->(Th (aD m.w m.h sc) (bz m.w m.h sc) (dU m sc) xs f l s=true↔Kr m t (bU m.w m.h sc l) s):=λs vZ=>by
   unfold Th Kr;rw[hf l hl];by_cases hn:0<=bP (aD m.w m.h sc) (bz m.w m.h sc) l s
   ·obtain⟨h1,h2⟩:=QG hs hl vZ hn;rw[fS,h2,LH h1,hf _ h1,Cl hm (sO hs h1),Bool.and_eq_true,bne_iff_ne,beq_iff_eq];exact⟨λh=>⟨(sO hs h1).2.1,h⟩,λh=>h.2⟩
   ·obtain⟨h1,_⟩:=Su hs hl vZ hn;rw[AA,beq_iff_eq];by_cases h0:0<=bf m.w m.h (bU m.w m.h sc l) s
    ·have ho:gK m.w m.h (bU m.w m.h sc l) s=bf m.w m.h (bU m.w m.h sc l) s:=by unfold gK;omega
     by_cases h2:ff m (bf m.w m.h (bU m.w m.h sc l) s)=true/\D m t (bf m.w m.h (bU m.w m.h sc l) s)<bW
     ·rw[aeZ (k:=cT m (bf m.w m.h (bU m.w m.h sc l) s)+D m t (bf m.w m.h (bU m.w m.h sc l) s)) (λx hx h3 h4=>?_) ⟨⟨l,s,_⟩,(hmem _).2 (.inl ⟨hl,vZ,hop.1,by grind,by grind,by grind,by rw[ho]⟩),rfl,rfl⟩]
      all_goals grind
     ·rw[VY λx hx h3=>?_]
      ·constructor
       ·omega
       ·rintro ⟨_,h3,h4⟩;have h5:=Cj h3;exact(h2 ⟨h3,by omega⟩).elim
      grind
    ·rw[VY λx hx h3=>?_]
     ·constructor
      ·intro h;omega
      ·exact λh=>(h0 h.1).elim
     ·rcases(hmem x).1 hx with⟨_,_,_,h4,_⟩|⟨_,_,_,h5,_⟩
      ·rw[h3.1,h3.2]at h4;have h5:=(Cm h4).1;exact h0 (by rw[<-h5];exact h4)
      ·omega
  grind
 ·rw[VY λx hx h3=>?_]
  ·exact λh=>hI h.symm
  ·rcases(hmem x).1 hx with⟨_,h4,_⟩|⟨_,h4,_⟩
   ·omega
   ·rw[h3.1]at h4;exact hT h4
def aui (hm:cR m)(hs:dX m.w m.h sc)(ht:bK m.w m.h t){x:bj}(hx:x∈E2 m (D m t) t sc):Ai (aD m.w m.h sc) (bz m.w m.h sc) (dU m sc) x=true:=by
 have hlen:((dU m sc).length:Int)=aD m.w m.h sc*bz m.w m.h sc\/aD m.w m.h sc*bz m.w m.h sc<0:=by rw[Ck];omega
 obtain⟨⟨w1,w2⟩,⟨h1,h2⟩,_⟩:=zu hs;have out:∀l s,0<=s/\s<=3->¬0<=bP (aD m.w m.h sc) (bz m.w m.h sc) l s->0<=l/\l<aD m.w m.h sc*bz m.w m.h sc->ZH (aD m.w m.h sc) (bz m.w m.h sc) l s=true:=λl s vZ hn hl=>by
  obtain⟨i0,i1⟩:0<=l%aD m.w m.h sc/\l%aD m.w m.h sc<aD m.w m.h sc:=⟨Int.emod_nonneg _ (by omega),Int.emod_lt_of_pos _ (by omega)⟩;obtain⟨j0,j1⟩:0<=l/aD m.w m.h sc/\l/aD m.w m.h sc<bz m.w m.h sc:=⟨Int.ediv_nonneg hl.1 (by omega),Int.ediv_lt_of_lt_mul (by omega) (by grind)⟩;have hle:l=l/aD m.w m.h sc*aD m.w m.h sc+l%aD m.w m.h sc:=by have:=Int.mul_ediv_add_emod l (aD m.w m.h sc);grind
  unfold bP at hn;unfold ZH;obtain rfl|rfl|rfl|rfl:s=0\/s=1\/s=2\/s=3:=by omega
  ·by_cases q:l/aD m.w m.h sc>0
   ·have:=Int.mul_le_mul_of_nonneg_right (show 1<=l/aD m.w m.h sc by omega) (show 0<=aD m.w m.h sc by omega);omega
   grind
  ·grind
  ·grind
  ·by_cases q:l%aD m.w m.h sc>0
   ·have:=Int.mul_nonneg j0 (show 0<=aD m.w m.h sc by omega);omega
   grind
 have fin:(0<=x.c/\x.c<aD m.w m.h sc*bz m.w m.h sc)->ff m (bU m.w m.h sc x.c)=true->(0<=x.k/\x.k<=1073741824)->ZH (aD m.w m.h sc) (bz m.w m.h sc) x.c x.s=true->Ai (aD m.w m.h sc) (bz m.w m.h sc) (dU m sc) x=true:=λhl ho hk hout=>by rw[Ai,LH hl,decide_eq_true (show 0<=x.c/\x.c<((dU m sc).length:Int) by omega),decide_eq_true hk,hout,Bool.true_and,Bool.true_and,Bool.and_true,bne_iff_ne];exact(Cl hm (sO hs hl)).1 ho
 rcases(QH hm hs ht).1 hx with⟨a1,a2,a3,a4,a5,a6,a7⟩|⟨a1,a2,a3,a4,a5⟩
 ·obtain⟨d,hd⟩:=(GD hm).1 a6;have b1:=ap1 hm hd;have b2:=ah1 hm hd;have b3:=Cj a5;refine fin a1 a3 (by omega) (out _ _ a2 (λk=>?_) a1);obtain⟨o1,o2⟩:=QG hs a1 a2 k;obtain⟨q1,q2⟩:=Cm a4;rw[o2,iU hs o1,iU hs a1]at q2;exact q2 rfl
 ·apply fin a1 (by grind) (by omega);unfold ZH;grind
end
def cO (a b:bj):Bool:=decide (ahY a b<0)
def adK {a b:bj}:cO a b=true↔a.k<b.k\/a.k=b.k/\(a.c<b.c\/a.c=b.c/\a.s<b.s):=by unfold cO ahY VU;grind
def QI {a b:bj}:cO a b=false↔¬(a.k<b.k\/a.k=b.k/\(a.c<b.c\/a.c=b.c/\a.s<b.s)):=by rw[<-adK,Bool.not_eq_true]
def FE:Go.Sort.SWO cO where
 irrefl x:=by rw[QI];omega
 trans x y z h k:=by rw[adK]at*;omega
 ntrans x y z h k:=by rw[QI]at*;omega
def auj {x y:bj}(h:cO x y=false)(k:cO y x=false):x=y:=by rw[QI]at h k;obtain⟨c,s,q⟩:=x;obtain⟨c',s',q'⟩:=y;grind
def ZK (xs:List bj):List bj:=xs.mergeSort λx y=>!cO y x
def Nn (xs:List bj):List bj:=ZK xs
def asO {xs:List bj}{x:bj}:x∈ZK xs↔x∈xs:=List.mem_mergeSort
def asP {xs:List bj}:(ZK xs).length=xs.length:=List.length_mergeSort _
def ap5 {xs:List bj}{x:bj}:x∈Nn xs↔x∈xs:=asO
def ap6 {xs:List bj}:(Nn xs).length=xs.length:=asP
def aly {xs:List bj}:(ZK xs).Pairwise λa b=>a.k<=b.k:=by
 have h:=List.pairwise_mergeSort (le:=λx y=>!cO y x) (λa b c h k=>by
  simp[Bool.not_eq_true']at*;exact FE.ntrans _ _ _ k h) (λa b=>by
  simp[Bool.or_eq_true,Bool.not_eq_true'];by_cases q:cO b a=true
  ·right;rw[adK]at q;rw[QI];omega
  grind) xs
 refine List.Pairwise.imp ?_ h;intro a b h;simp[Bool.not_eq_true']at h;rw[QI]at h;omega
def ajL {xs:List bj}:(Nn xs).Pairwise λa b=>a.k<=b.k:=aly
def Ea (n:Nat)(out:List Int)(a c:Int):Bool:=c==0||(decide ((n:Int)-out.length<a+1)||(decide (0<out.length)&&gi out (out.length-1)==c))
def pP (n:Nat):List Int->List Int->Nat->Option (List Int×Nat)
 |a::c::r,out,used=>if n<=out.length then some (out,used)else if Ea n out a c then none else pP n r (out++List.replicate (a+1).toNat c) (used+2)
 |_,out,used=>if n<=out.length then some (out,used)else none
def Iw (n:Nat):List Int->Option (List Int×Nat)
 |[]=>none
 |f::r=>if f=0 then(if r=[]\/gi r 0=0 then none else some (List.replicate n (gi r 0),2))
  else if f=1 then(if r.length<n\/0∈r.take n then none else some (r.take n,1+n))
  else if f=2 then pP n r [] 1
  else none
def FF (n:Nat)(f:Int)(r:List Int):Iw n (f::r)=if f=0 then(if r=[]\/gi r 0=0 then none else some (List.replicate n (gi r 0),2))
 else if f=1 then(if r.length<n\/0∈r.take n then none else some (r.take n,1+n))
 else if f=2 then pP n r [] 1
 else none:=rfl
def E3 (bs:List Int)(n:Nat):Option (List Int×Nat):=match Iw n bs with
 |some (cs,used)=>if(tM cs).2=bs.take used then some (cs,used)else none
 |none=>none
def Np (x:Int):∀l:List Int,l.take (lead x l)=List.replicate (lead x l) x
 |[]=>rfl
 |y::ys=>by
  unfold lead;split
  ·rename_i h;subst h;rw[List.take_succ_cons,List.replicate_succ,Np]
  ·rfl
def ae0 (x:Int):∀l:List Int,∀y ys,l.drop (lead x l)=y::ys->y≠x
 |[],y,ys,h=>by grind
 |z::zs,y,ys,h=>by
  unfold lead at h;split at h
  ·exact ae0 x zs y ys h
  grind
def Nq {n:Nat}{out:List Int}{used:Nat}(h:n<=out.length):∀bs,pP n bs out used=some (out,used)
 |[]=>by simp[pP,h]
 |[a]=>by simp[pP,h]
 |a::c::r=>by rw[pP,if_pos h]
def ae1 (n:Nat):∀(f:Nat) (cs out rest:List Int) (used:Nat),cs.length<=f->cs.length<=256->(∀x∈cs,1<=x/\x<256)->n=out.length+cs.length->(0<out.length->∀y ys,cs=y::ys->gi out (out.length-1)≠y)->
  pP n (lF f cs++rest) out used=some (out++cs,used+(lF f cs).length)
 |0,cs,out,rest,used,hf,ap7,hr,hn,hl=>by have:cs=[]:=List.eq_nil_of_length_eq_zero (by omega);subst this;rw[Nq (by omega)];simp[lF]
 |f+1,[],out,rest,used,hf,ap7,hr,hn,hl=>by rw[Nq (by grind)];simp[lF]
 |f+1,x::ys,out,rest,used,hf,ap7,hr,hn,hl=>by
  have hk:=O5 x ys;simp[List.length_cons]at hf ap7 hn;have hx:=hr x (by simp);have e:((lead x ys:Nat):Int)%256=lead x ys:=Int.emod_eq_of_lt (by omega) (by omega);have ey:List.replicate (lead x ys+1) x++ys.drop (lead x ys)=x::ys:=by rw[List.replicate_succ,<-Np,List.cons_append,List.take_append_drop]
  show pP n (((lead x ys:Nat):Int)%256::x::(lF f (ys.drop (lead x ys))++rest)) out used=_;rw[e,pP,fS,if_neg]
  ·have:=ae1 n f (ys.drop (lead x ys)) (out++List.replicate (lead x ys+1) x) rest (used+2) (by grind) (by grind) (λz hz=>hr z (by grind)) (by grind) (λ_ y zs hy=>by have h1:=ae0 x ys y zs hy;intro h2;apply h1;rw[<-h2];unfold gi;grind)
   rw[show((lead x ys:Nat)+1:Int).toNat=lead x ys+1 by omega,this,List.append_assoc,ey];congr 2;show _=used+(((lead x ys:Nat):Int)%256::x::lF f (ys.drop (lead x ys))).length;grind
  ·unfold Ea;grind
def ap8 {cs rest:List Int}(hr:∀x∈cs,1<=x/\x<256)(h1:1<=cs.length/\cs.length<=256):Iw cs.length ((tM cs).2++rest)=some (cs,(tM cs).2.length):=by
 have hb:=ae1 cs.length cs.length cs [] rest 1 (Nat.le_refl _) h1.2 hr (by simp) (by simp);rw[List.nil_append]at hb;unfold tM;split
 ·rename_i h3;obtain⟨x,ys,rfl⟩:∃x ys,cs=x::ys:=by
   cases cs with
   |nil=>simp at h1
   |cons x ys=>grind
  have h4:(lF (x::ys).length (x::ys)).length=2:=by unfold tL at h3;grind
  have h5:lF ys.length (ys.drop (lead x ys))=[]:=by apply List.eq_nil_of_length_eq_zero;have:(lF (x::ys).length (x::ys)).length=(lF ys.length (ys.drop (lead x ys))).length+2:=rfl;omega
  have h6:ys.drop (lead x ys)=[]:=by
   cases hd:ys.drop (lead x ys)with
   |nil=>rfl
   |cons z zs=>
    rw[hd]at h5;have h7:0<ys.length:=by grind
    obtain⟨k,hk⟩:∃k,ys.length=k+1:=⟨ys.length-1,by omega⟩;rw[hk]at h5;cases h5
  have h7:lead x ys=ys.length:=by
   have:=O5 x ys;have h8:(ys.drop (lead x ys)).length=0:=by rw[h6];rfl
   grind
  have h8:ys=List.replicate ys.length x:=by have:=Np x ys;grind
  have hx:=hr x (by simp);show Iw _ (0::x::rest)=some (x::ys,2);rw[FF,if_pos rfl,if_neg]
  ·show some (List.replicate (ys.length+1) x,2)=some (x::ys,2);grind
  ·rintro (h|h)
   ·cases h
   ·have:x=0:=h;omega
 ·split
  ·show Iw _ (2::(lF cs.length cs++rest))=some (cs,(2::lF cs.length cs).length);rw[FF,if_neg (by decide),if_neg (by decide),if_pos rfl,hb,List.length_cons,Nat.add_comm]
  ·show Iw _ (1::(cs++rest))=some (cs,(1::cs).length);rw[FF,if_neg (by decide),if_pos rfl,if_neg,List.take_left,List.length_cons,Nat.add_comm];grind
def asQ {cs rest:List Int}(hr:∀x∈cs,1<=x/\x<256)(h1:1<=cs.length/\cs.length<=256):E3 ((tM cs).2++rest) cs.length=some (cs,(tM cs).2.length):=by rw[E3,ap8 hr h1];grind
def Sw (n:Nat):∀(bs out:List Int) (used:Nat) (cs:List Int) (u:Nat),(∀x∈bs,0<=x/\x<256)->(∀x∈out,1<=x/\x<256)->out.length<=n->pP n bs out used=some (cs,u)->cs.length=n/\(∀x∈cs,1<=x/\x<256)/\u<=used+bs.length
 |[],out,used,cs,u,hb,ho,hn,h=>by unfold pP at h;grind
 |[a],out,used,cs,u,hb,ho,hn,h=>by unfold pP at h;grind
 |a::c::r,out,used,cs,u,hb,ho,hn,h=>by
  unfold pP at h;split at h
  ·grind
  ·split at h
   ·cases h
   ·rename_i h1 h2;unfold Ea at h2;have:=Sw n r _ (used+2) cs u (λx hx=>hb x (by simp[hx])) (λx hx=>by grind) (by grind) h
    grind
def anJ {bs cs:List Int}{n used:Nat}(hn:1<=n)(hb:∀x∈bs,0<=x/\x<256)(h:E3 bs n=some (cs,used)):cs.length=n/\(∀x∈cs,1<=x/\x<256)/\used<=bs.length:=by
 unfold E3 at h;split at h
 ·rename_i cs' used' hB;split at h
  ·cases h;cases bs with
   |nil=>cases hB
   |cons f r=>
    rw[FF]at hB;split at hB
    ·split at hB
     ·cases hB
     ·rename_i h1;cases hB;obtain⟨x,r',rfl⟩:∃x r',r=x::r':=by
       cases r with
       |nil=>grind
       |cons x r'=>grind
      have hx:=hb x (by simp);refine⟨by simp,λy hy=>?_,by simp⟩;rw[List.mem_replicate]at hy;have h3:y=x:=hy.2;omega
    ·split at hB
     ·grind
     ·split at hB
      ·have:=Sw n r [] 1 cs used (λx hx=>hb x (by simp[hx])) (by simp) (by simp) hB;grind
      ·cases hB
  ·cases h
 ·cases h
def E4 (w h sc:Int)(M ts:List Int)(y:Int):List Int:=(List.range M.length).map λc:Nat=>if aC w h c=sc/\dY w h c/aD w h sc<y then gi ts (dY w h c).toNat else gi M c
def ah3 (w h sc:Int)(M ts:List Int):List Int:=E4 w h sc M ts (bz w h sc)
def qZ (w h:Int):Nat->Int->List Int->List Int->Option (List Int×List Int)
 |0,_,bs,M=>some (bs,M)
 |k+1,i,bs,M=>match E3 bs (aD w h i*bz w h i).toNat with
  |none=>none
  |some (ts,used)=>qZ w h k (i+1) (bs.drop used) (ah3 w h i M ts)
def Bm (bs:List Int):Int:=gi bs 0+256*gi bs 1
def Bn (bs:List Int):Int:=gi bs 2+256*gi bs 3
def kZ (bs:List Int):Option bJ:=
 if bs.length<4 then none else if gz (Bm bs) (Bn bs)then
  match qZ (Bm bs) (Bn bs) (dy (Bm bs) (Bn bs)).toNat 0 (bs.drop 4) (List.replicate (Bm bs*Bn bs).toNat 0)with
  |some (bs',M)=>if bs'=[]then some ⟨Bm bs,Bn bs,M⟩else none
  |none=>none
 else none
section
variable {w h sc y:Int}{M ts:List Int}{c:Nat}
def LK:(E4 w h sc M ts y).length=M.length:=by simp[E4]
def Sy:(ah3 w h sc M ts).length=M.length:=LK
def W0 (hc:c<M.length):gi (E4 w h sc M ts y) c=if aC w h c=sc/\dY w h c/aD w h sc<y then gi ts (dY w h c).toNat else gi M c:=by unfold gi E4;rw[List.getD_eq_getElem?_getD,List.getElem?_map,List.getElem?_range hc];rfl
def akw (hc:c<M.length)(hC:bK w h c):gi (ah3 w h sc M ts) c=if aC w h c=sc then gi ts (dY w h c).toNat else gi M c:=by
 rw[ah3,W0 hc];by_cases e:aC w h c=sc
 ·rw[if_pos e,if_pos];refine⟨e,?_⟩;have hl:=jY hC;have hs:=bS hC;rw[e]at hl hs;obtain⟨⟨w1,w2⟩,⟨h1,h2⟩,_⟩:=zu hs;exact Int.ediv_lt_of_lt_mul (by omega) (by grind)
 grind
def ah4 {a:Int}(h:1<=a/\a<=1024):a%256+256*(a/256%256)=a:=by omega
def ap9 {m:bJ}(hm:cR m){s:Int}(hs:dX m.w m.h s):(qj m s).length=(aD m.w m.h s*bz m.w m.h s).toNat:=by unfold qj;grind
def ap_ {m:bJ}{l:Int}(hl:0<=l/\l<aD m.w m.h sc*bz m.w m.h sc):gi (qj m sc) l.toNat=gi m.cs (bU m.w m.h sc l).toNat:=by show(qj m sc).getD l.toNat 0=_;unfold qj;grind
def ah5 {m:bJ}(hm:cR m)(hs:dX m.w m.h sc):qj m sc=dU m sc:=by refine List.map_congr_left λl hl=>?_;have hl:=List.mem_range.1 hl;have hg:=sO hs (l:=l) (by omega);have:=hm.len;have:=hg.2;unfold cT;omega
def ae2 {m:bJ}(hm:cR m):∀(k:Nat) (i:Nat) (M:List Int),(i:Int)+k=dy m.w m.h->M.length=m.cs.length->(∀c:Nat,c<m.cs.length->aC m.w m.h c<i->gi M c=gi m.cs c)->
  qZ m.w m.h k i ((List.range' i k).flatMap λs:Nat=>(tM (qj m s)).2) M=some ([],m.cs)
 |0,i,M,hk,hl,hM=>by show some ([],M)=some ([],m.cs);congr 2;refine UQ hl λc hc=>hM c (by omega) ?_;have hC:bK m.w m.h c:=⟨⟨hm.w,hm.h⟩,by omega,by rw[<-hm.len];omega⟩;have:=(bS hC).2.2;omega
 |k+1,i,M,hk,hl,hM=>by
  have hs:dX m.w m.h i:=⟨⟨hm.w,hm.h⟩,by omega,by omega⟩;have hlen:=UW hm hs.2;have e:=ap9 hm hs;rw[List.range'_succ,List.flatMap_cons,qZ,<-e,asQ (UU hm hs.2) hlen.2];simp only;rw[List.drop_left,show((i:Int)+1)=((i+1:Nat):Int) by omega];refine ae2 hm k (i+1) _ (by omega) (by rw[Sy,hl]) λc hc hsc=>?_;have hC:bK m.w m.h c:=⟨⟨hm.w,hm.h⟩,by omega,by rw[<-hm.len];omega⟩;rw[akw (by omega) hC];by_cases q:aC m.w m.h c=i
  ·rw[if_pos q];have hl2:=jY hC;have hg:=nT hC;rw[q]at hl2 hg;rw[ap_ hl2,hg];rfl
  grind
def abz {m:bJ}(hm:cR m):kZ (yE m)=some m:=by
 have e1:Bm (yE m)=m.w:=ah4 hm.w;have e2:Bn (yE m)=m.h:=ah4 hm.h;rw[kZ,e1,e2,if_neg (by unfold yE;simp),if_pos ⟨hm.w,hm.h⟩];have:=ae2 hm (dy m.w m.h).toNat 0 (List.replicate (m.w*m.h).toNat 0) (by have:=(e_ hm.w hm.h).1;omega) (by have:=hm.len;simp;omega) (λc hc h=>by have hC:bK m.w m.h c:=⟨⟨hm.w,hm.h⟩,by omega,by rw[<-hm.len];omega⟩;have:=(bS hC).2.1;omega)
 rw[<-List.range_eq_range']at this;have e3:(yE m).drop 4=(List.range (dy m.w m.h).toNat).flatMap λs:Nat=>(tM (qj m s)).2:=by rfl
 simp_all
def ah6 (hm:gz w h):∀(k:Nat) (i:Nat) (bs M bs' M':List Int),(i:Int)+k=dy w h->(M.length:Int)=w*h->(∀x∈bs,0<=x/\x<256)->(∀c:Nat,c<M.length->aC w h c<i->1<=gi M c/\gi M c<256)->
  qZ w h k i bs M=some (bs',M')->(M'.length:Int)=w*h/\∀x∈M',1<=x/\x<256
 |0,i,bs,M,bs',M',hk,hl,hb,hM,h=>by cases h;refine⟨hl,λx hx=>?_⟩;obtain⟨c,hc⟩:=List.mem_iff_getElem?.1 hx;have x9:=(List.getElem?_eq_some_iff.1 hc).1;have hC:bK w h c:=⟨hm,by omega,by omega⟩;have:=hM c x9 (by have:=(bS hC).2.2;omega);rw[iD x9]at hc;grind
 |k+1,i,bs,M,bs',M',hk,hl,hb,hM,hg=>by
  have hs:dX w h i:=⟨hm,by omega,by omega⟩;obtain⟨⟨w1,w2⟩,⟨h1,h2⟩,_⟩:=zu hs;have h11:1<=aD w h i*bz w h i:=by have:=Int.mul_le_mul w1 h1 (by decide) (by omega);omega
  rw[qZ]at hg;split at hg
  ·cases hg
  ·rename_i ts used hT;obtain⟨t1,t2,t3⟩:=anJ (by omega) hb hT;refine ah6 hm k (i+1) _ _ bs' M' (by omega) (by rw[Sy];exact hl) (λx hx=>hb x (List.mem_of_mem_drop hx)) (λc hc hsc=>?_) hg;rw[Sy]at hc;have hC:bK w h c:=⟨hm,by omega,by omega⟩;rw[akw hc hC];by_cases q:aC w h c=i
   ·rw[if_pos q];have hl2:=jY hC;rw[q]at hl2;exact t2 _ (fE (by omega))
   grind
def V1 {bs:List Int}{m:bJ}(hb:∀x∈bs,0<=x/\x<256)(h:kZ bs=some m):cR m:=by
 unfold kZ at h;split at h
 ·cases h
 ·split at h
  ·rename_i hm;split at h
   ·rename_i bs' M hT;split at h
    ·cases h;have LL:=mV hm;obtain⟨a,b⟩:=ah6 hm _ 0 _ _ _ _ (by have:=(e_ hm.1 hm.2).1;omega) (by grind) (λx hx=>hb x (List.mem_of_mem_drop hx)) (λc hc hsc=>by rw[List.length_replicate]at hc;have hC:bK (Bm bs) (Bn bs) c:=⟨hm,by omega,by omega⟩;have:=(bS hC).2.1;omega) hT
     exact⟨hm.1,hm.2,a,b⟩
    ·cases h
   ·cases h
  ·cases h
end
end Go.Proofs.YtmegplnmiepfbaaGreatDoor.S
namespace Go.Proofs.YtmegplnmiepfbaaGreatDoor.S.Rg
abbrev E:=Int×Int
def Yk (j:Nat)(e:E):Bool:=decide (e.1%256=(j:Int))
def tI (l:List E)(j:Nat):List Int:=(l.filter (Yk j)).map (·.2)
def Fit (a:Int)(l:List E):Prop:=∀e∈l,a<=e.1/\e.1<a+256
def anK (l:List E)(e:E)(j:Nat):tI (l++[e]) j=if e.1%256=(j:Int)then tI l j++[e.2]else tI l j:=by
 unfold tI;by_cases h:e.1%256=(j:Int)
 ·simp[Yk,h]
 ·simp[Yk,h]
def aqa {a:Int}{l:List E}{e:E}(h:Fit a l)(h1:a<=e.1)(h2:e.1<a+256):Fit a (l++[e]):=by
 intro x hx;rcases List.mem_append.1 hx with hx|hx
 ·exact h x hx
 grind
def ae3 {k:Int}:∀{l:List E},(∃e∈l,e.1=k)->∃l1 x l2,l=l1++(k,x)::l2/\∀e∈l1,e.1≠k
 |[],h=>by grind
 |y::l,h=>by
  by_cases hy:y.1=k
  ·exact⟨[],y.2,l,by subst hy;rfl,by simp⟩
  ·obtain⟨l1,x,l2,h1,h2⟩:=ae3 (k:=k) (l:=l) (by grind)
   grind
def W1 {a k:Int}{l:List E}{j:Nat}(h:Fit a l)(hk:a<=k/\k<a+256)(hj:k%256=(j:Int)){e:E}(he:e∈l):Yk j e=true↔e.1=k:=by have:=h e he;unfold Yk;grind
def anL {a k:Int}{l:List E}{j:Nat}(h:Fit a l)(hk:a<=k/\k<a+256)(hj:k%256=(j:Int))(Sp:∀e∈l,k<=e.1)(hne:tI l j≠[]):
  ∃l1 x l2,l=l1++(k,x)::l2/\(∀e∈l1,k<e.1)/\(∀e∈l2,k<=e.1)/\tI l j=x::tI (l1++l2) j/\(∀j',j'≠j->tI (l1++l2) j'=tI l j')/\Fit k (l1++l2):=by
 have hex:∃e∈l,e.1=k:=by
  unfold tI at hne;cases hf:l.filter (Yk j)with
  |nil=>grind
  |cons e r=>
   have:e∈l.filter (Yk j):=by rw[hf];simp
   obtain⟨h1,h2⟩:=List.mem_filter.1 this;exact⟨e,h1,(W1 h hk hj h1).1 h2⟩
 obtain⟨l1,x,l2,rfl,hl1⟩:=ae3 hex;refine⟨l1,x,l2,rfl,λe he=>?_,λe he=>Sp e (by simp[he]),?_,λj' hj'=>?_,λe he=>?_⟩
 ·grind
 ·unfold tI;have h1:l1.filter (Yk j)=[]:=by rw[List.filter_eq_nil_iff];intro e he hb;exact hl1 e he ((W1 h hk hj (by simp[he])).1 hb)
  rw[List.filter_append,List.filter_append,h1,List.filter_cons_of_pos (by unfold Yk;grind)];rfl
 ·unfold tI;rw[List.filter_append,List.filter_append,List.filter_cons_of_neg (by unfold Yk;grind)]
 ·have h1:e∈l1++(k,x)::l2:=by grind
  have:=h e h1;grind
def ajM {a:Int}{l:List E}(h:Fit a l)(hne:l≠[]):∃d:Nat,d<256/\(∀e∈l,a+d<=e.1)/\∃e∈l,e.1=a+d:=by
 have key:∀n:Nat,(∃e∈l,e.1<a+n)->∃d:Nat,d<n/\(∀e∈l,a+d<=e.1)/\∃e∈l,e.1=a+d:=by
  intro n;induction n with
  |zero=>
   rintro ⟨e,he,hlt⟩;have:=h e he;omega
  |succ n ih=>
   rintro ⟨e,he,hlt⟩;by_cases hn:∃e∈l,e.1<a+n
   all_goals grind
 obtain⟨e,he⟩:=List.exists_mem_of_ne_nil l hne;exact key 256 ⟨e,he,(h e he).2⟩
def abA {a k:Int}{l:List E}{j:Nat}(h:Fit a l)(hk:a<=k/\k<a+256)(hj:k%256=(j:Int)):tI l j=[]↔∀e∈l,e.1≠k:=by
 rw[tI,List.map_eq_nil_iff,List.filter_eq_nil_iff];constructor
 ·intro h1 e he hk';exact h1 e he ((W1 h hk hj he).2 hk')
 ·intro h1 e he hb;exact h1 e he ((W1 h hk hj he).1 hb)
end Go.Proofs.YtmegplnmiepfbaaGreatDoor.S.Rg
namespace Go.Proofs.YtmegplnmiepfbaaGreatDoor.S.Rg
open Go.Sx
def ef:wP P T:=EF P rows HC
def cF {n lo hi:Int}{w:World}{Q:Int->World->Prop}(h1:lo<=hi)(h2:-1099511627776<=lo)(h3:hi<=1099511627776)(h:Q (lo+n%(hi-lo+1)) w):aY n lo hi w Q:=by
 apply uj;rw[aG (n:=hi-lo),aG];generalize hs:hi-lo+1=s at h;have h4:=Int.lt_tmod_of_pos n (b:=s) (by omega);have h5:=Int.tmod_lt_of_pos n (b:=s) (by omega);have h6:=Int.tmod_add_mul_tdiv n s;refine⟨by omega,?_⟩;generalize ht:Int.tmod n s=t at*;have e:n%s=t%s:=by rw[<-h6,Int.add_mul_emod_self_left]
 by_cases hn:t<0
 ·rw[bN hn,aG (n:=t+hi),aG (n:=t+hi-lo),aG (n:=t+hi-lo+1),aG];have e2:t%s=t+s:=by rw[<-Int.add_emod_right,Int.emod_eq_of_lt (by omega) (by omega)]
  grind
 ·rw[bp hn,aG];rw[e,Int.emod_eq_of_lt (by omega) h5]at h;exact h
structure Bk where
 a:Option Addr
 c:Nat
 xs:List Int
 gone:Nat
def ints (l:List Int):List Value:=l.map (.int .i64)
def V2 (b:Bk):List Value:=[.slice b.a b.xs.length b.c,ae b.gone]
def W2 (b:Bk):(V2 b).length=2:=rfl
def A7 (b:Bk):As:=ak b.a b.xs.length b.c 3 1 (ints b.xs)
def tD (a len:Int)(bs:List Bk):List Value:=ae a::ae len::flat V2 bs
def Sz (p:Nat)(a len:Int)(bs:List Bk):List As:=av p 388 (tD a len bs)::bs.map A7
structure Rel (a:Int) (l:List E) (bs:List Bk) (N:Nat):Prop where
 n:bs.length=256
 fit:Fit a l
 nn:0<=a
 big:a+256*(l.length:Int)<=1099511627776+256*(N:Int)
 nP:l.length<=N
 room:N<1000000
 bk:∀(j:Nat) b,bs[j]? =some b->b.xs.drop b.gone=tI l j/\b.gone<=b.xs.length/\b.xs.length<=N
def Bo (p:Nat)(a:Int)(l:List E)(bs:List Bk)(N:Nat):As:=aV (Rel a l bs N) (Sz p a l.length bs)
attribute [local irreducible] af cA bw bg aA cq bY St Bx Al App cD cy cw bT aL bC aq bR av ak
section
variable {F:Nat->Prop}{W w:World}{L:List As}{i j p o n c:Nat}{t:TypeId}{cs:List Value}{a:Option Addr}{xs:List Int}
def ZL {x:Int}{Q:World->Prop}(s:Sep F W w L)(hi:L[i]? =some (av p t cs))(ho:cs[o]? =some (.slice a n c))(hj:L[j]? =some (ak a n c 3 1 (ints xs)))(hij:i≠j)(hn:n<1000000)
  (h:∀w' a' c',Sep F W w' ((L.set j (ak a' (n+1) c' 3 1 (ints (xs++[x])))).set i (av p t (cs.set o (.slice a' (n+1) c'))))->Q w'):yZ (some ⟨p,o,none⟩) x w Q:=by
 apply P_;apply ah;apply gX s rfl hi ho;refine aN s λbx w1 s=>?_;have src:Src w1 (sZ bx) 1 1 [ae x]:=⟨rfl,λu hu=>by rw[List.mem_singleton.1 hu];rfl,λj u hj=>by rw[cm,Nat.zero_add];exact cK s (i:=0) rfl rfl hj⟩;refine iw ef s (bytes:=8) rfl rfl rfl rfl rfl rfl (by decide) (by rw[List.getElem?_cons_succ];exact hj) src (by simp[maxLen];omega) (by omega) (λe=>by cases e) λa' c' w2 s=>?_;have s:=ai s;have e1:ints xs++[ae x]=ints (xs++[x]):=by simp[ints]
 apply ah;have ho':=(List.getElem?_eq_some_iff.1 ho).1;refine ax s rfl (by rw[List.getElem?_set_ne (Ne.symm hij)];exact hi) (by simp_all) λw3 s=>?_;grind
def Cn {g:Int}{Q:Bool->World->Prop}(s:Sep F W w L)(hi:L[i]? =some (av p t cs))(ho:cs[o]? =some (.slice a n c))(ho':cs[o+1]? =some (ae g))(h:Q (g==(n:Int)) w.drew):qv (some ⟨p,o,none⟩) w Q:=by apply MD;have s':Sep F W w.drew L:=s;apply ah;refine dw s' (by rw[cm]) hi ho' (ah ?_);exact gX s' rfl hi ho h
def ZM {g:Nat}{x:Int}{Q:Int->World->Prop}(s:Sep F W w L)(hi:L[i]? =some (av p t cs))(ho:cs[o]? =some (.slice a n c))(ho':cs[o+1]? =some (ae g))(hj:L[j]? =some (ak a n c 3 1 (ints xs)))(hij:i≠j)(hn:n<1000000)(hx:xs[g]? =some x)
  (h1:g+1<n->∀w',Sep F W w' (L.set i (av p t (cs.set (o+1) (ae ((g+1:Nat):Int)))))->Q x w')
  (h2:g+1=n->∀w',Sep F W w' ((L.set i (av p t ((cs.set o (.slice a 0 c)).set (o+1) (ae ((0:Nat):Int))))).set j (ak a 0 c 3 1 []))->Q x w'):yX (some ⟨p,o,none⟩) w Q:=by
 apply Qa;have hiL:=(List.getElem?_eq_some_iff.1 hi).1;have hol:=(List.getElem?_eq_some_iff.1 ho).1;have axR:=(List.getElem?_eq_some_iff.1 ho').1;have hxl:=(List.getElem?_eq_some_iff.1 hx).1;have hl:xs.length=n:=by have:=rf s hj;simpa[ints]using this
 obtain⟨b,ob,rfl⟩:=pV s hj (by omega);have s0:Sep F W w.drew L:=s;apply ah;refine gX s0 rfl hi ho (ah ?_);apply dw s0 (by rw[cm]) hi ho';refine⟨by omega,by omega,ah ?_⟩;rw[show((g:Int)).toNat*1=g by omega];refine UM s0 hj (by rw[cm]) (by rw[ints,List.getElem?_map,hx];rfl) (ah ?_);refine dw s0 (by rw[cm]) hi ho' (ah ?_);rw[aG,show((g:Int)+1)=((g+1:Nat):Int) by omega];refine ax s0 (by rw[cm]) hi (by simp_all) λw1 s1=>?_;apply Cn (a:=some ⟨b,ob,none⟩) (n:=n) (c:=c) s1 (List.getElem?_set_self hiL) (by grind) (List.getElem?_set_self axR);have s2:Sep F W w1.drew _:=s1;by_cases he:g+1=n
 ·rw[he,beq_self_eq_true,cond_true];apply ah;apply gX s2 rfl (List.getElem?_set_self hiL) (by rw[List.getElem?_set_ne (by omega)];exact ho);refine O3 (m:=0) rfl (by omega) (ah ?_);refine ax s2 rfl (List.getElem?_set_self hiL) (by simp_all) λw3 s3=>?_;rw[g_]at s3;apply ah;refine ax s3 (by rw[cm]) (List.getElem?_set_self hiL) (by simp_all) λw4 s4=>?_;rw[g_]at s4;have s5:=S9 s4 (by rw[List.getElem?_set_ne hij];exact hj) (Nat.zero_le _);apply h2 he w4;have ec:((cs.set (o+1) (ae ((n:Nat):Int))).set o (.slice (some ⟨b,ob,none⟩) 0 c)).set (o+1) (ae 0)=(cs.set o (.slice (some ⟨b,ob,none⟩) 0 c)).set (o+1) (ae ((0:Nat):Int)):=by have e3:(cs.set (o+1) (ae ((n:Nat):Int))).set o (.slice (some ⟨b,ob,none⟩) 0 c)=(cs.set o (.slice (some ⟨b,ob,none⟩) 0 c)).set (o+1) (ae ((n:Nat):Int)):=List.set_comm _ _ (by omega);simp_all
  grind
 grind
end
end Go.Proofs.YtmegplnmiepfbaaGreatDoor.S.Rg
namespace Go.Proofs.YtmegplnmiepfbaaGreatDoor.S.Rg
open Go.Sx
def FG {p:Addr}{A B:Prop}(h:B):cond (some p).isNone A B:=h
def LM {bs:List Bk}{j:Nat}{b:Bk}(h:bs[j]? =some b):(bs.map A7)[j]? =some (A7 b):=by grind
def Nr {a len:Int}{bs:List Bk}{j:Nat}{b:Bk}(h:bs[j]? =some b):(tD a len bs)[j*2+2]? =some (.slice b.a b.xs.length b.c):=by show(flat V2 bs)[j*2+0]? =_;rw[sK W2 h (by decide)];rfl
def OK {a len:Int}{bs:List Bk}{j:Nat}{b:Bk}(h:bs[j]? =some b):(tD a len bs)[j*2+2+1]? =some (ae b.gone):=by show(flat V2 bs)[j*2+1]? =_;rw[sK W2 h (by decide)];rfl
def Ti {a len:Int}{bs:List Bk}{j:Nat}{b b':Bk}{v:Value}(h:bs[j]? =some b)(hv:V2 b'=(V2 b).set 0 v):(tD a len bs).set (j*2+2) v=tD a len (bs.set j b'):=by show _::_::(flat V2 bs).set (j*2+0) v=_;rw[Ro W2 h (by decide) hv];rfl
def Ns {a len:Int}{bs:List Bk}{j:Nat}{b b':Bk}{v:Value}(h:bs[j]? =some b)(hv:V2 b'=(V2 b).set 1 v):(tD a len bs).set (j*2+2+1) v=tD a len (bs.set j b'):=by show _::_::(flat V2 bs).set (j*2+1) v=_;rw[Ro W2 h (by decide) hv];rfl
attribute [local irreducible] af cA bw bg aA cq bY St Bx Al App cD cy cw bT aL bC aq bR av ak aV
section
variable {F:Nat->Prop}{W w:World}{L:List As}{i p:Nat}{a:Int}{l:List E}{bs:List Bk}{N:Nat}
def HW (s:Sep F W w L)(hi:L[i]? =some (Bo p a l bs N)):Rel a l bs N:=aeL s hi
def Nt (s:Sep F W w L)(hi:L[i]? =some (Bo p a l bs N)):Sep (Bo p a l bs N).fp w w (Sz p a l.length bs):=IL s hi
def C4 {Q:Int->World->Prop}(s:Sep F W w L)(hi:L[i]? =some (Bo p a l bs N))(h:Q (l.length:Int) w):qB (sZ p) w Q:=by apply Ue;refine FG (ah ?_);exact dw (Nt s hi) (i:=0) rfl rfl rfl h
def QJ {k x:Int}{Q:Bool->World->Prop}(s:Sep F W w L)(hi:L[i]? =some (Bo p a l bs N))(hk:k<9223372036854775808)(oX:N+1<1000000)
  (hno:¬(a<=k/\k<a+256)->Q false w)(hyes:a<=k/\k<a+256->∀w' bs',Sep F W w' (L.set i (Bo p a (l++[(k,x)]) bs' (N+1)))->Q true w'):vH (sZ p) k x w Q:=by
 apply Uf;have hr:=HW s hi;have s0:=Nt s hi;have hnn:=hr.nn;refine FG (ah ?_);apply dw s0 (i:=0) rfl rfl rfl;by_cases h1:k<a
 ·grind
 ·rw[bp h1];apply ah;apply dw s0 (i:=0) rfl rfl rfl;rw[aG];by_cases h2:k-a≥256
  ·grind
  ·rw[bp h2];have hkk:a<=k/\k<a+256:=by omega
   rw[Int.tmod_eq_emod_of_nonneg (by omega)];obtain⟨j,hj⟩:∃j:Nat,k%256=(j:Int):=⟨(k%256).toNat,by omega⟩;have abB:j<256:=by omega
   obtain⟨b,hb⟩:∃b,bs[j]? =some b:=⟨_,List.getElem?_eq_getElem (by rw[hr.n];exact abB)⟩;have hbk:=hr.bk j b hb;rw[hj];refine⟨by decide,ah ⟨by omega,by omega,?_⟩⟩;have ea:((aZ p).add 2).add (((j:Int)).toNat*2)=⟨p,j*2+2,none⟩:=by rw[cm,cm,show((j:Int)).toNat=j from rfl];grind
   rw[ea];refine ZL s0 (i:=0) (j:=j+1) rfl (Nr hb) (by show(bs.map A7)[j]? =_;exact LM hb) (by omega) (by omega) λw1 a' c' s1=>?_;have e1:ak a' (b.xs.length+1) c' 3 1 (ints (b.xs++[x]))=A7 ⟨a',c',b.xs++[x],b.gone⟩:=by unfold A7;grind
   have e2:(tD a l.length bs).set (j*2+2) (.slice a' (b.xs.length+1) c')=tD a l.length (bs.set j ⟨a',c',b.xs++[x],b.gone⟩):=Ti hb (by unfold V2;grind);rw[e1,e2]at s1;have s1:Sep (Bo p a l bs N).fp w w1 (av p 388 (tD a l.length (bs.set j ⟨a',c',b.xs++[x],b.gone⟩))::(bs.map A7).set j (A7 ⟨a',c',b.xs++[x],b.gone⟩)):=s1;rw[<-List.map_set]at s1;apply ah;refine dw s1 (i:=0) rfl rfl rfl (ah ?_);have hfl:=hr.nP;rw[aG];refine ax s1 (i:=0) rfl rfl rfl λw2 s2=>?_;have hlen:((l.length:Int)+1)=((l++[(k,x)]).length:Int):=by simp
   rw[hlen]at s2;refine hyes hkk w2 (bs.set j ⟨a',c',b.xs++[x],b.gone⟩) (Rp s hi s2 ?_);refine⟨by simp[hr.n],aqa hr.fit hkk.1 hkk.2,hr.nn,(by have:=hr.big;simp;omega),(by omega),oX,λj' b' hb'=>?_⟩;rw[anK];by_cases hjj:j=j'
   ·grind
   ·rw[List.getElem?_set_ne hjj]at hb';have:=hr.bk j' b' hb';grind
end
end Go.Proofs.YtmegplnmiepfbaaGreatDoor.S.Rg
namespace Go.Proofs.YtmegplnmiepfbaaGreatDoor.S.Rg
open Go.Sx
attribute [local irreducible] af cA bw bg aA cq bY St Bx Al App cD cy cw bT aL bC aq bR av ak aV
section
variable {F:Nat->Prop}{W w:World}{L:List As}{i p:Nat}{a:Int}{l:List E}{bs:List Bk}{N:Nat}
def abC {k:Int}{Q:Bool->World->Prop}(s:Sep F W w L)(hi:L[i]? =some (Bo p a l bs N))
  (hno:¬(l=[]/\a<=k/\k<=1099511627776)->Q false w)(hyes:l=[]/\a<=k/\k<=1099511627776->∀w' bs',Sep F W w' (L.set i (Bo p k [] bs' N))->Q true w'):z_ (sZ p) k w Q:=by
 apply RV;have hr:=HW s hi;have s0:=Nt s hi;have hnn:=hr.nn;refine FG (ah ?_);apply dw s0 (i:=0) rfl rfl rfl;by_cases h0:l=[]
 ·subst h0;rw[bp (by simp)];apply ah;apply dw s0 (i:=0) rfl rfl rfl;by_cases h1:k<a
  ·grind
  ·rw[bp h1];by_cases h2:k>1099511627776
   ·grind
   ·rw[bp h2];apply ah;refine ax s0 (i:=0) rfl rfl rfl λw1 s1=>?_;have s1:=s1;exact hyes ⟨rfl,by omega,by omega⟩ w1 bs (Rp s hi s1 ⟨hr.n,(λe he=>by cases he),by omega,(by simp;omega),hr.nP,hr.room,hr.bk⟩)
 simp_all
def agk {Q:Int->Int->Bool->World->Prop}(hr:Rel a l bs N){d:Nat}(hd:d<256)(Sp:∀e∈l,a+d<=e.1)(hex:∃e∈l,e.1=a+d){w0:World}{G:Nat->Prop}
  (h:∀w' l1 x l2 bs',l=l1++(a+d,x)::l2->(∀e∈l1,a+d<e.1)->(∀e∈l2,a+d<=e.1)->Rel (a+d) (l1++l2) bs' N->Sep G w0 w' (Sz p (a+d) (l1++l2).length bs')->Q (a+d) x true w'):
  ∀(m e:Nat) (w:World),e+m=d->Sep G w0 w (Sz p (a+e) l.length bs)->pT Q (m+1) (sZ p) w:=by
 have hnn:=hr.nn;have ag6:=hr.big;have aA0:=hr.nP;have azn:=hr.room;intro m;induction m with
 |zero=>
  intro e w he s;obtain rfl:e=d:=by omega
  show DI Q (pT Q 0) _ _;obtain⟨j,hj⟩:∃j:Nat,(a+e)%256=(j:Int):=⟨((a+e)%256).toNat,by omega⟩;have abB:j<256:=by omega
  obtain⟨b,hb⟩:∃b,bs[j]? =some b:=⟨_,List.getElem?_eq_getElem (by rw[hr.n];exact abB)⟩;have hbk:=hr.bk j b hb;have hroom:=hr.room;have hkk:a<=a+e/\a+e<a+256:=by omega
  have hpn:tI l j≠[]:=λh0=>by obtain⟨x,hx,hxe⟩:=hex;exact(abA hr.fit hkk hj).1 h0 x hx hxe
  obtain⟨l1,x,l2,hl,g1,g2,g3,g4,g5⟩:=anL hr.fit hkk hj Sp hpn;have hlt:b.gone<b.xs.length:=by grind
  have ea:((aZ p).add 2).add (((j:Int)).toNat*2)=⟨p,j*2+2,none⟩:=by rw[cm,cm,show((j:Int)).toNat=j from rfl];grind
  have em:Int.tmod (a+e) 256=(j:Int):=by grind
  have s0:Sep G w0 w.drew _:=s;apply ah;apply dw s0 (i:=0) rfl rfl rfl;rw[em];refine⟨by decide,ah ⟨by omega,by omega,?_⟩⟩;rw[ea];apply Cn s0 (i:=0) rfl (Nr hb) (OK hb);rw[show(((b.gone:Int))==(b.xs.length:Int))=false by grind,cond_false];have s1:=s;apply ah;refine dw s1 (i:=0) rfl rfl rfl (ah ?_);refine ax s1 (i:=0) rfl rfl rfl λw3 s3=>?_;have el:IntKind.wrap .i64 ((l.length:Int)-1)=((l1++l2).length:Int):=by rw[aG];grind
  rw[el]at s3;have s3:=s3;have s4:Sep G w0 w3.drew (Sz p (a+e) (l1++l2).length bs):=s3;apply ah;refine dw s4 (i:=0) rfl rfl rfl (ah ?_);apply dw s4 (i:=0) rfl rfl rfl;rw[em];refine⟨by decide,ah ⟨by omega,by omega,?_⟩⟩;rw[ea];have hx:b.xs[b.gone]? =some x:=by have:=congrArg (λq=>q[0]?) (hbk.1.trans g3);grind
  have abE:b.xs.drop (b.gone+1)=tI (l1++l2) j:=by have:=congrArg (List.drop 1) (hbk.1.trans g3);simpa[List.drop_drop]using this
  have rel:∀b':Bk,b'.xs.drop b'.gone=tI (l1++l2) j->b'.gone<=b'.xs.length->b'.xs.length<=N->Rel (a+e) (l1++l2) (bs.set j b') N:=by
   intro b' q1 q2 q3;refine⟨by simp[hr.n],g5,by omega,?_,?_,hroom,λj' b2 hb2=>?_⟩
   ·grind
   ·grind
   ·by_cases hjj:j=j'
    ·grind
    ·rw[List.getElem?_set_ne hjj]at hb2;rw[g4 j' (Ne.symm hjj)];exact hr.bk j' b2 hb2
  refine ZM s4 (i:=0) (j:=j+1) rfl (Nr hb) (OK hb) (by show(bs.map A7)[j]? =_;exact LM hb) (by omega) (by omega) hx (λhg w5 s5=>?_) λhg w5 s5=>?_
  ·have e2:(tD (a+e) (l1++l2).length bs).set (j*2+2+1) (ae ((b.gone+1:Nat):Int))=tD (a+e) (l1++l2).length (bs.set j {b with gone:=b.gone+1}):=Ns hb rfl;rw[e2]at s5;have e3:bs.map A7=(bs.set j {b with gone:=b.gone+1}).map A7:=by rw[List.map_set,show A7 {b with gone:=b.gone+1}=A7 b from rfl,rF (LM hb)]
   have s5:Sep G w0 w5 (av p 388 (tD (a+e) (l1++l2).length (bs.set j {b with gone:=b.gone+1}))::bs.map A7):=s5;rw[e3]at s5;refine⟨cK s5 (i:=0) rfl rfl rfl,?_⟩;exact h w5 l1 x l2 _ hl g1 g2 (rel {b with gone:=b.gone+1} abE (show b.gone+1<=b.xs.length by omega) hbk.2.2) s5
  ·have e2:((tD (a+e) (l1++l2).length bs).set (j*2+2) (.slice b.a 0 b.c)).set (j*2+2+1) (ae ((0:Nat):Int))=tD (a+e) (l1++l2).length (bs.set j ⟨b.a,b.c,[],0⟩):=by
    have hjl:j<bs.length:=by grind
    rw[Ti (b':=⟨b.a,b.c,[],b.gone⟩) (v:=.slice b.a 0 b.c) hb rfl,Ns (b:=⟨b.a,b.c,[],b.gone⟩) (b':=⟨b.a,b.c,[],0⟩) (List.getElem?_set_self hjl) rfl,g_]
   rw[e2]at s5;have e3:ak b.a 0 b.c 3 1 []=A7 ⟨b.a,b.c,[],0⟩:=rfl;have s5:Sep G w0 w5 (av p 388 (tD (a+e) (l1++l2).length (bs.set j ⟨b.a,b.c,[],0⟩))::(bs.map A7).set j (A7 ⟨b.a,b.c,[],0⟩)):=s5;rw[<-List.map_set]at s5;refine⟨cK s5 (i:=0) rfl rfl rfl,?_⟩;refine h w5 l1 x l2 _ hl g1 g2 (rel _ ?_ (by simp) (by simp)) s5;grind
 |succ m ih=>
  intro e w he s;show DI Q (pT Q (m+1)) _ _;obtain⟨j,hj⟩:∃j:Nat,(a+e)%256=(j:Int):=⟨((a+e)%256).toNat,by omega⟩;have abB:j<256:=by omega
  obtain⟨b,hb⟩:∃b,bs[j]? =some b:=⟨_,List.getElem?_eq_getElem (by rw[hr.n];exact abB)⟩;have hbk:=hr.bk j b hb;have hkk:a<=a+e/\a+e<a+256:=by omega
  have hpn:=(abA hr.fit hkk hj).2 λx hx hxe=>by grind
  have avU:b.gone=b.xs.length:=by have:=congrArg List.length hbk.1;grind
  have ea:((aZ p).add 2).add (((j:Int)).toNat*2)=⟨p,j*2+2,none⟩:=by rw[cm,cm,show((j:Int)).toNat=j from rfl];grind
  have em:Int.tmod (a+e) 256=(j:Int):=by grind
  have s0:Sep G w0 w.drew _:=s;apply ah;apply dw s0 (i:=0) rfl rfl rfl;rw[em];refine⟨by decide,ah ⟨by omega,by omega,?_⟩⟩;rw[ea];apply Cn s0 (i:=0) rfl (Nr hb) (OK hb);rw[avU,beq_self_eq_true,cond_true];have s1:=s;apply ah;refine dw s1 (i:=0) (j:=0) rfl rfl rfl (ah ?_);refine ax s1 (i:=0) (j:=0) rfl rfl rfl λw3 s3=>?_;rw[aG,show a+(e:Int)+1=a+((e+1:Nat):Int) by omega]at s3;exact ih (e+1) w3 (by omega) s3
def adL {Q:Int->Int->Bool->World->Prop}(s:Sep F W w L)(hi:L[i]? =some (Bo p a l bs N))(h0:l=[]->Q 0 0 false w)
  (h1:∀w' k l1 x l2 bs',l=l1++(k,x)::l2->(∀e∈l1,k<e.1)->(∀e∈l2,k<=e.1)->Sep F W w' (L.set i (Bo p k (l1++l2) bs' N))->Q k x true w'):AZ (sZ p) w Q:=by
 apply Ug;apply C4 s hi;have hr:=HW s hi;by_cases hl:l=[]
 ·grind
 ·have hpos:=List.length_pos_iff.2 hl;rw[show(((l.length:Int))==0)=false by grind,cond_false];obtain⟨d,hd,Sp,hex⟩:=ajM hr.fit hl;have s0:=Nt s hi;refine⟨d+1,agk (G:=(Bo p a l bs N).fp) (w0:=w) hr hd Sp hex (λw' l1 x l2 bs' q1 q2 q3 q4 s'=>?_) d 0 w (by omega) (by grind)⟩;exact h1 w' (a+d) l1 x l2 bs' q1 q2 q3 (Rp s hi s' q4)
def ah8:Bk:=⟨none,0,[],0⟩
def QK {f:Int}{Q:Option Addr->World->Prop}(s:Sep F W w L)(hno:f<0\/f>1099511627776->Q none w)(hyes:0<=f/\f<=1099511627776->∀p w' bs,Sep F W w' (Bo p f [] bs 0::L)->Q (sZ p) w'):CM f w Q:=by
 apply adp;by_cases h1:f<0
 ·rw[bN h1];grind
 ·rw[bp h1];by_cases h2:f>1099511627776
  ·rw[bN h2];grind
  ·rw[bp h2];refine aN s λp w1 s=>?_;have s2:=S_ s 3 1 256;have s3:=cg s2 List.perm_middle;have rel:Rel f [] (List.replicate 256 ah8) 0:=by refine⟨List.length_replicate,(λe he=>by cases he),by omega,(by simp[List.length_nil];omega),Nat.le_refl _,by decide,λj b hb=>?_⟩;have:b=ah8:=List.eq_of_mem_replicate (List.mem_of_getElem? hb);subst this;exact⟨rfl,Nat.le_refl _,Nat.le_refl _⟩
   have e1:(List.replicate 256 ah8).map A7=List.replicate 256 (ak none 0 0 3 1 []):=by rw[List.map_replicate];rfl
   apply hyes (by omega) p w1 (List.replicate 256 ah8);have s4:Sep F W w1 (Sz p f ([]:List E).length (List.replicate 256 ah8)++L):=by unfold Sz;exact avL s3 (by kernel_rfl)
   exact dA s4 rel
end
end Go.Proofs.YtmegplnmiepfbaaGreatDoor.S.Rg
namespace Go.Proofs.YtmegplnmiepfbaaGreatDoor.S
open Go.Sx
def fD (ds:List Int)(l:Int):Int:=if 0<=l/\l<ds.length then gi ds l.toNat else bW
def GF (ds:List Int):Nat:=ds.countP λd=>d==bW
def kc (x:bj):Int×Int:=(x.k,x.c)
def V3 {k:Int}(hk:k≠bW):∀{ds:List Int} {i:Nat},i<ds.length->gi ds i=bW->GF (ds.set i k)+1=GF ds
 |[],i,h,_=>by simp at h
 |d::ds,0,h,hd=>by have hd:d=bW:=hd;unfold GF;grind
 |d::ds,i+1,h,hd=>by have ih:=V3 hk (i:=i) (by simpa using h) hd;unfold GF at ih⊢;grind
def axS (ds:List Int):GF ds<=ds.length:=List.countP_le_length
def auk {ds:List Int}{x k:Int}(hx:0<=x/\x<ds.length)(y:Int):fD (ds.set x.toNat k) y=if y=x then k else fD ds y:=by
 unfold fD;rw[List.length_set];by_cases hy:0<=y/\y<ds.length
 ·rw[if_pos hy,if_pos hy,aaI (by omega)];omega
 grind
def SA {tw th l s:Int}(ht:1<=tw)(hh:1<=th)(hl:0<=l/\l<tw*th)(h0:0<=bP tw th l s):bP tw th l s<tw*th/\∃s',(0<=s'/\s'<=3)/\bP tw th (bP tw th l s) s'=l:=by
 obtain⟨i0,i1⟩:0<=l%tw/\l%tw<tw:=⟨Int.emod_nonneg _ (by omega),Int.emod_lt_of_pos _ (by omega)⟩;obtain⟨j0,j1⟩:0<=l/tw/\l/tw<th:=⟨Int.ediv_nonneg hl.1 (by omega),Int.ediv_lt_of_lt_mul (by omega) (by grind)⟩;have hle:l=l/tw*tw+l%tw:=by have:=Int.mul_ediv_add_emod l tw;grind
 have jC:∀i j,0<=i/\i<tw->0<=j/\j<th->j*tw+i<tw*th:=λi j hi hj=>by have:=Int.mul_le_mul_of_nonneg_right (show j+1<=th by omega) (show 0<=tw by omega);grind
 unfold bP at h0;by_cases s0:s=0
 ·subst s0;by_cases q:l/tw>0
  ·have e:bP tw th l 0=(l/tw-1)*tw+l%tw:=by unfold bP;grind
   rw[e];refine⟨jC _ _ ⟨i0,i1⟩ (by omega),2,by decide,?_⟩;obtain⟨d1,d2⟩:=rH (y:=l/tw-1) ⟨i0,i1⟩;unfold bP;grind
  omega
 by_cases s1:s=1
 ·subst s1;by_cases q:l%tw<tw-1
  ·have e:bP tw th l 1=l/tw*tw+(l%tw+1):=by unfold bP;omega
   rw[e];refine⟨jC _ _ (by omega) ⟨j0,j1⟩,3,by decide,?_⟩;obtain⟨d1,d2⟩:=rH (x:=l%tw+1) (w:=tw) (y:=l/tw) (by omega);unfold bP;omega
  omega
 by_cases s2:s=2
 ·subst s2;by_cases q:l/tw<th-1
  ·have e:bP tw th l 2=(l/tw+1)*tw+l%tw:=by unfold bP;grind
   rw[e];refine⟨jC _ _ ⟨i0,i1⟩ (by omega),0,by decide,?_⟩;obtain⟨d1,d2⟩:=rH (y:=l/tw+1) ⟨i0,i1⟩;unfold bP;grind
  omega
 by_cases s3:s=3
 ·subst s3;by_cases q:l%tw>0
  ·have e:bP tw th l 3=l/tw*tw+(l%tw-1):=by unfold bP;omega
   rw[e];refine⟨jC _ _ (by omega) ⟨j0,j1⟩,1,by decide,?_⟩;obtain⟨d1,d2⟩:=rH (x:=l%tw-1) (w:=tw) (y:=l/tw) (by omega);unfold bP;omega
  omega
 omega
def kX (tw th:Int)(cs ds:List Int)(key x:Int)(j:Nat):List (Int×Int):=(List.range j).filterMap λs:Nat=>
 if 0<=bP tw th x s/\gi cs (bP tw th x s).toNat≠255/\gi ds (bP tw th x s).toNat=bW then some (key,bP tw th x s)else none
def abF (tw th:Int)(cs ds:List Int)(key x s:Int):List (Int×Int):=if 0<=bP tw th x s/\gi cs (bP tw th x s).toNat≠255/\gi ds (bP tw th x s).toNat=bW then[(key,bP tw th x s)]else[]
def abG (tw th:Int)(cs ds:List Int)(key x:Int)(j:Nat):kX tw th cs ds key x (j+1)=kX tw th cs ds key x j++abF tw th cs ds key x j:=by unfold kX abF;rw[List.range_succ,List.filterMap_append];grind
def V4 (tw th:Int)(cs ds:List Int)(key x:Int)(j:Nat):(kX tw th cs ds key x j).length<=j:=by have:=List.length_filterMap_le (λs:Nat=>if 0<=bP tw th x s/\gi cs (bP tw th x s).toNat≠255/\gi ds (bP tw th x s).toNat=bW then some (key,bP tw th x s)else none) (List.range j);rw[List.length_range]at this;exact this
def ae5 {tw th:Int}{cs ds:List Int}{key x:Int}{e:Int×Int}:e∈kX tw th cs ds key x 4↔∃s:Int,(0<=s/\s<=3)/\(0<=bP tw th x s/\gi cs (bP tw th x s).toNat≠255/\gi ds (bP tw th x s).toNat=bW)/\e=(key,bP tw th x s):=by
 rw[kX,List.mem_filterMap];constructor
 ·grind
 ·rintro ⟨s,h1,h2,rfl⟩;refine⟨s.toNat,List.mem_range.2 (by omega),?_⟩;grind
structure Co (tw th:Int) (cs:List Int) (xs:List bj) (a:Int) (l:List (Int×Int)) (N:Nat) (todo:List bj) (ds:List Int):Prop where
 len:ds.length=cs.length
 dj:O7 (Nm xs) (Iu tw th cs) (fD ds) (l++todo.map kc)
 Ec:∀e∈l++todo.map kc,It cs e.2
 top:∀e∈l++todo.map kc,e.1+254*(GF ds:Int)<=1073741824+254*(cs.length:Int)
 Nu:todo.Pairwise λa b=>a.k<=b.k
 low:∀x∈todo,a<=x.k
 fH:N+todo.length+4*GF ds<=xs.length+4*cs.length
section
variable {tw th:Int}{cs ds:List Int}{xs todo:List bj}{a:Int}{l:List (Int×Int)}{N:Nat}
def ah_ (hcs:∀x∈cs,1<=x/\x<256):∀x n c,Iu tw th cs x n c->0<=c:=λx n c h=>by rw[h.2.2.2];have:=hcs _ (fE (i:=n.toNat) (by have:=h.2.1;unfold It at this;omega));omega
def Co.take {x:bj}(h:Co tw th cs xs a l N (x::todo) ds):Co tw th cs xs a (l++[kc x]) (N+1) todo ds:=by
 have e:l++(x::todo).map kc=(l++[kc x])++todo.map kc:=by simp
 have h1:=h.dj;have h2:=h.Ec;have h3:=h.top;have h4:=h.fH;rw[e]at h1 h2 h3;simp[List.length_cons]at h4;exact⟨h.len,h1,h2,h3,(List.pairwise_cons.1 h.Nu).2,λy hy=>h.low y (by simp[hy]),by omega⟩
def Co.jump {x:bj}(h:Co tw th cs xs a l N (x::todo) ds):Co tw th cs xs x.k l N (x::todo) ds:=
 ⟨h.len,h.dj,h.Ec,h.top,h.Nu,λy hy=>by
  rcases List.mem_cons.1 hy with rfl|hy
  ·grind
  ·exact(List.pairwise_cons.1 h.Nu).1 y hy,h.fH⟩
def Co.skip {k x:Int}{l1 l2:List (Int×Int)}(h:Co tw th cs xs a (l1++(k,x)::l2) N todo ds)(hx:fD ds x<bW)(hk:∀y∈todo,k<=y.k):Co tw th cs xs k (l1++l2) N todo ds:=by
 have hm:∀e∈(l1++l2)++todo.map kc,e∈(l1++(k,x)::l2)++todo.map kc:=λe he=>by grind
 exact⟨h.len,h.dj.skip (k:=k) hx hm λe he=>by grind,λe he=>h.Ec e (hm e he),λe he=>h.top e (hm e he),h.Nu,hk,h.fH⟩
def Co.step {k x:Int}{l1 l2:List (Int×Int)}{M:Nat}(hcs:∀x∈cs,1<=x/\x<256)(hw:1<=tw)(hh:1<=th)(hlen:(cs.length:Int)=tw*th)(v7:cs.length<=256)(h:Co tw th cs xs a (l1++(k,x)::l2) N todo ds)(hx:gi ds x.toNat=bW)
  (hmin:∀e∈l1++l2,k<=e.1)(hk:∀y∈todo,k<=y.k)(hM:M=N+(kX tw th cs (ds.set x.toNat k) (k+gi cs x.toNat) x 4).length):
  Co tw th cs xs k ((l1++l2)++kX tw th cs (ds.set x.toNat k) (k+gi cs x.toNat) x 4) M todo (ds.set x.toNat k):=by
 have hin:(k,x)∈(l1++(k,x)::l2)++todo.map kc:=by simp
 have I9:=h.Ec _ hin;have hxr:0<=x/\x<ds.length:=by rw[h.len];exact⟨I9.1,I9.2.1⟩
 have ZN:=h.top _ hin;have hkI:k<bW:=by unfold bW;omega
 have ZO:∀y,fD (ds.set x.toNat k) y=if y=x then k else fD ds y:=auk hxr
 have Hi:=V3 (k:=k) (by omega) (by omega) hx;have hbound:∀e∈(l1++(k,x)::l2)++todo.map kc,k<=e.1:=λe he=>by
  simp only[List.mem_append,List.mem_cons,List.mem_map]at he;rcases he with(he|rfl|he)|⟨y,hy,rfl⟩
  ·grind
  ·grind
  ·grind
  ·exact hk y hy
 have hcx:=hcs _ (fE (i:=x.toNat) (by rw[<-h.len];omega));have hfx:¬fD ds x<bW:=by unfold fD;grind
 have aum:∀e∈((l1++l2)++kX tw th cs (ds.set x.toNat k) (k+gi cs x.toNat) x 4)++todo.map kc,e∈(l1++(k,x)::l2)++todo.map kc\/e∈kX tw th cs (ds.set x.toNat k) (k+gi cs x.toNat) x 4:=λe he=>by grind
 have axT:∀e∈kX tw th cs (ds.set x.toNat k) (k+gi cs x.toNat) x 4,It cs e.2/\e.1=k+gi cs x.toNat/\Iu tw th cs e.2 x (gi cs x.toNat):=λe he=>by obtain⟨s,hs,⟨h1,h2,h3⟩,rfl⟩:=ae5.1 he;have hr:=SA hw hh (by rw[<-hlen,<-h.len];exact hxr) h1;have ho:It cs (bP tw th x s):=⟨h1,by grind,h2⟩;exact⟨ho,rfl,ho,I9,hr.2,rfl⟩
 refine⟨by rw[List.length_set];exact h.len,?_,?_,?_,h.Nu,hk,?_⟩
 ·refine h.dj.step (ah_ hcs) hfx hkI hin hbound (by grind) (λy hy=>by grind) ?_ ?_ ?_
  ·grind
  ·grind
  ·rintro y c ⟨h1,h2,⟨s,hs,h3⟩,rfl⟩;by_cases hy:fD (ds.set x.toNat k) y<bW
   ·exact .inl hy
   ·refine .inr ⟨k+gi cs x.toNat,Int.le_refl _,?_⟩;have hr:=SA (s:=s) hw hh (by rw[<-hlen];exact⟨h1.1,h1.2.1⟩) (by grind);rw[h3]at hr;obtain⟨s',hs',h4⟩:=hr.2;rw[List.mem_append,List.mem_append];refine .inl (.inr (ae5.2 ⟨s',hs',?_,by rw[h4]⟩));rw[h4];refine⟨h1.1,h1.2.2,?_⟩;have Tj:0<=y/\y<(ds.set x.toNat k).length:=by rw[List.length_set,h.len];exact⟨h1.1,h1.2.1⟩
    have hz:fD (ds.set x.toNat k) y=bW:=by
     rw[ZO]at hy⊢;by_cases e:y=x
     ·omega
     ·rw[if_neg e]at hy⊢;exact h.dj.none y hy
    unfold fD at hz;grind
 ·intro e he;rcases aum e he with h1|h1
  ·exact h.Ec e h1
  grind
 ·intro e he;rcases aum e he with h1|h1
  ·have:=h.top e h1;omega
  ·have:=(axT e h1).2.1;have:gi cs x.toNat≠255:=I9.2.2;omega
 ·have h1:=V4 tw th cs (ds.set x.toNat k) (k+gi cs x.toNat) x 4;have h2:=h.fH;omega
def anO (hok:rR tw th cs xs=true){zs:List bj}(hz:∀x,x∈zs↔x∈xs)(hzl:zs.length=xs.length)(hzs:zs.Pairwise λa b=>a.k<=b.k):Co tw th cs xs 0 [] 0 zs (List.replicate cs.length bW):=by
 have hf:∀x,fD (List.replicate cs.length bW) x=bW:=λx=>by
  unfold fD;split
  ·rename_i h;unfold gi;grind
  ·rfl
 have hu:GF (List.replicate cs.length bW)=cs.length:=by rw[GF,List.countP_replicate,if_pos (by decide)]
 unfold rR at hok;rw[Bool.and_eq_true,List.all_eq_true]at hok;have alz:∀x∈zs,It cs x.c/\0<=x.k/\x.k<=1073741824:=λx hx=>by have:=hok.2 x ((hz x).1 hx);unfold Ai at this;simp[Bool.and_eq_true,decide_eq_true_iff,bne_iff_ne]at this;exact⟨⟨this.1.1,this.1.2,this.2.1⟩,this.2.2.1⟩
 refine⟨by simp,⟨?_,?_,?_,?_,?_,?_⟩,?_,?_,hzs,λx hx=>(alz x hx).2.1,by omega⟩
 ·intro e he;obtain⟨y,hy,rfl⟩:=List.mem_map.1 he;exact .src ⟨y,(hz y).1 hy,rfl,rfl⟩
 ·grind
 ·grind
 ·rintro x k ⟨y,hy,rfl,rfl⟩;exact .inr ⟨y.k,Int.le_refl _,by rw[List.nil_append];exact List.mem_map.2 ⟨y,(hz y).2 hy,rfl⟩⟩
 ·grind
 ·grind
 ·intro e he;obtain⟨y,hy,rfl⟩:=List.mem_map.1 he;exact(alz y hy).1
 ·intro e he;obtain⟨y,hy,rfl⟩:=List.mem_map.1 he;have:=(alz y hy).2;show y.k+_<=_;omega
noncomputable def ju (tw th:Int)(cs:List Int)(xs:List bj):List Int:=(List.range cs.length).map λl:Nat=>LJ tw th cs xs l
def Co.done (h:Co tw th cs xs a [] N [] ds):ds=ju tw th cs xs:=by
 have h1:=h.dj;have h2:∀x,gL (Nm xs) (Iu tw th cs) x=fD ds x:=λx=>O7.done (by grind) x;refine UQ (by unfold ju;rw[List.length_map,List.length_range,h.len]) λi hi=>?_;rw[ju,show gi ((List.range cs.length).map λl:Nat=>LJ tw th cs xs l) i=LJ tw th cs xs i from ?_]
 ·rw[LJ,h2];unfold fD;grind
 ·rw[gi,List.getD_eq_getElem?_getD,List.getElem?_map,List.getElem?_range (by rw[<-h.len];exact hi)];rfl
end
end Go.Proofs.YtmegplnmiepfbaaGreatDoor.S
namespace Go.Proofs.YtmegplnmiepfbaaGreatDoor.S
open Go.Sx
open Go.Sort (swp)
attribute [local irreducible] af cA bw bg aA cq bY St Bx Al App cD cy cw bT aL bC aq bR av ak aV mapA
noncomputable abbrev iP:Value:=.func (.func 197) #[] #[]
abbrev c7 (a:Option Addr)(n c:Nat)(d:Array bj):As:=ak a n c 294 3 (flat fT d.toList)
section
variable {F:Nat->Prop}{W w w0:World}{L:List As}{a:Option Addr}{n c:Nat}{d:Array bj}
def gu (s:Sep F W w (c7 a n c d::L)):d.size=n:=by have:=(aO s (i:=0) rfl nC (by decide)).len;grind
def W3 {k:Nat}(h:k<d.size):d.toList[k]? =some d[k]!:=by grind
def RdS {idx:Int}{k:Nat}{K:Int->Int->Int->Prop}(s:Sep F W w (c7 a n c d::L))(hk:idx=k)(hn:k<d.size)(h:K d[k]!.c d[k]!.s d[k]!.k):
  aK idx n (wA a λp=>af .i64 ((p.add (idx.toNat*3)).add 0) w λx=>af .i64 ((p.add (idx.toNat*3)).add 1) w λy=>af .i64 ((p.add (idx.toNat*3)).add 2) w λz=>K x y z):=
 (aO s (i:=0) rfl nC (by decide)).El hk (by rw[<-gu s];exact hn) λp x hx hc=>by rw[W3 hn]at hx;cases hx;exact aR (hc 0 _ rfl) (aR (hc 1 _ rfl) (aR (hc 2 _ rfl) h))
def WrS {idx:Int}{k:Nat}{x:bj}{K:World->Prop}(s:Sep F W w (c7 a n c d::L))(hk:idx=k)(hn:k<d.size)(h:∀w',Sep F W w' (c7 a n c (d.setIfInBounds k x)::L)->K w'):
  aK idx n (wA a λp=>St ((p.add (idx.toNat*3)).add 0) (ae x.c) w λw=>St ((p.add (idx.toNat*3)).add 1) (ae x.s) w λw=>St ((p.add (idx.toNat*3)).add 2) (ae x.k) w λw=>K w):=by
 have hsz:=gu s;subst hk;have hg:=W3 hn;refine CD s (i:=0) rfl rfl (by omega) λg o ha=>?_;subst ha;have ad:∀j,(((⟨g,o,none⟩:Addr).add ((k:Int).toNat*3)).add j)=⟨g,o+(k*3+j),none⟩:=λj=>by rw[add_add,cm,Int.toNat_natCast]
 refine dW (x':=⟨x.c,d[k]!.s,d[k]!.k⟩) nC s (i:=0) rfl hg (ad 0) (by decide) rfl rfl λw s=>?_;refine dW (x:=⟨x.c,d[k]!.s,d[k]!.k⟩) (x':=⟨x.c,x.s,d[k]!.k⟩) nC s (i:=0) rfl (by grind) (ad 1) (by decide) rfl rfl λw s=>?_;refine dW (x:=⟨x.c,x.s,d[k]!.k⟩) (x':=x) nC s (i:=0) rfl (by grind) (ad 2) (by decide) rfl rfl λw s=>?_;simp[List.set_cons_zero,List.set_set]at s;grind
def GG {m:Nat}{i j:Int}{p q:Nat}{K:Int->World->Prop}(s:Sep F W w (c7 a n c d::L))(hi:i=p)(hp:p<d.size)(hj:j=q)(hq:q<d.size)(h:∀w',Sep F W w' (c7 a n c d::L)->K (ahY d[p]! d[q]!) w'):
  aK i n (wA a λp=>af .i64 ((p.add (i.toNat*3)).add 0) w λx=>af .i64 ((p.add (i.toNat*3)).add 1) w λy=>af .i64 ((p.add (i.toNat*3)).add 2) w λz=>
  aK j n (wA a λp=>af .i64 ((p.add (j.toNat*3)).add 0) w λx'=>af .i64 ((p.add (j.toNat*3)).add 1) w λy'=>af .i64 ((p.add (j.toNat*3)).add 2) w λz'=>
  iv (cx m) iP [.agg #[ae x,ae y,ae z],.agg #[ae x',ae y',ae z']] w λv w'=>dI .i64 v λr=>K r w')):=
 RdS (K:=λx y z=>aK j n (wA a λp=>af .i64 ((p.add (j.toNat*3)).add 0) w λx'=>af .i64 ((p.add (j.toNat*3)).add 1) w λy'=>af .i64 ((p.add (j.toNat*3)).add 2) w λz'=>
  iv (cx m) iP [.agg #[ae x,ae y,ae z],.agg #[ae x',ae y',ae z']] w λv w'=>dI .i64 v λr=>K r w')) s hi hp
  (RdS s hj hq
   (ajJ (XV s λw' s' _=>h w' s')))
def DP {i j:Int}{p q:Nat}{K:World->Prop}(s:Sep F W w (c7 a n c d::L))(hi:i=p)(hp:p<d.size)(hj:j=q)(hq:q<d.size)(h:∀w',Sep F W w' (c7 a n c (swp d p q)::L)->K w'):
  aK j n (wA a λp=>af .i64 ((p.add (j.toNat*3)).add 0) w λx=>af .i64 ((p.add (j.toNat*3)).add 1) w λy=>af .i64 ((p.add (j.toNat*3)).add 2) w λz=>
  aK i n (wA a λp=>af .i64 ((p.add (i.toNat*3)).add 0) w λx'=>af .i64 ((p.add (i.toNat*3)).add 1) w λy'=>af .i64 ((p.add (i.toNat*3)).add 2) w λz'=>
  aK i n (wA a λp=>St ((p.add (i.toNat*3)).add 0) (ae x) w λw=>St ((p.add (i.toNat*3)).add 1) (ae y) w λw=>St ((p.add (i.toNat*3)).add 2) (ae z) w λw=>
  aK j n (wA a λp=>St ((p.add (j.toNat*3)).add 0) (ae x') w λw=>St ((p.add (j.toNat*3)).add 1) (ae y') w λw=>St ((p.add (j.toNat*3)).add 2) (ae z') w λw=>K w)))):=by
 refine RdS (K:=λx y z=>aK i n (wA a λp=>af .i64 ((p.add (i.toNat*3)).add 0) w λx'=>af .i64 ((p.add (i.toNat*3)).add 1) w λy'=>af .i64 ((p.add (i.toNat*3)).add 2) w λz'=>
  aK i n (wA a λp=>St ((p.add (i.toNat*3)).add 0) (ae x) w λw=>St ((p.add (i.toNat*3)).add 1) (ae y) w λw=>St ((p.add (i.toNat*3)).add 2) (ae z) w λw=>
  aK j n (wA a λp=>St ((p.add (j.toNat*3)).add 0) (ae x') w λw=>St ((p.add (j.toNat*3)).add 1) (ae y') w λw=>St ((p.add (j.toNat*3)).add 2) (ae z') w λw=>K w)))) s hj hq ?_
 refine RdS (K:=λx' y' z'=>aK i n (wA a λp=>St ((p.add (i.toNat*3)).add 0) (ae d[q]!.c) w λw=>St ((p.add (i.toNat*3)).add 1) (ae d[q]!.s) w λw=>St ((p.add (i.toNat*3)).add 2) (ae d[q]!.k) w λw=>
  aK j n (wA a λp=>St ((p.add (j.toNat*3)).add 0) (ae x') w λw=>St ((p.add (j.toNat*3)).add 1) (ae y') w λw=>St ((p.add (j.toNat*3)).add 2) (ae z') w λw=>K w))) s hi hp ?_
 refine WrS (K:=λw=>aK j n (wA a λp_1=>St ((p_1.add (j.toNat*3)).add 0) (ae d[p]!.c) w λw=>St ((p_1.add (j.toNat*3)).add 1) (ae d[p]!.s) w λw=>St ((p_1.add (j.toNat*3)).add 2) (ae d[p]!.k) w λw=>K w)) s hi hp λw s=>?_;exact WrS s hj (by grind) h
end
end Go.Proofs.YtmegplnmiepfbaaGreatDoor.S
namespace Go.Proofs.YtmegplnmiepfbaaGreatDoor.S
open Go.Sx
open Go.Sort (swp insInner insOuter insertionSort siftDown heapBuild heapPop heapSort)
attribute [local irreducible] af cA bw bg aA cq bY St Bx Al App cD cy cw bT aL bC aq bR av ak aV mapA
section
variable {F:Nat->Prop}{W w w0:World}{L:List As}{a:Option Addr}{n c:Nat}{d:Array bj}
def anP {P1:Option Addr->Nat->Nat->Int->Int->Value->Int->World->Prop}{Q:World->Prop}{lo:Nat}{b:Int}{i:Nat}(hn:n<1000000)(hi:i<1000000)
  (h:∀d' w',d'.size=n->Sep F W w' (c7 a n c d'::L)->(d'=insInner cO lo i d)->P1 a n c lo b iP ((i+1:Nat):Int) w'):
  ∀(j:Nat) (d1:Array bj) (w:World),j<n->insInner cO lo j d1=insInner cO lo i d->Sep F W w (c7 a n c d1::L)->eO P1 Q (j+1) a n c lo b iP i j w:=by
 intro j;induction j with
 |zero=>
  intro d1 w hj he s;show fO P1 Q (eO P1 Q 0) _ _ _ _ _ _ _ _ _;rw[fO,bp,aG];exact h d1 _ (gu s) (ay s) he
 |succ j ih=>
  intro d1 w hj he s;have hsz:=gu s;show fO P1 Q (eO P1 Q (j+1)) _ _ _ _ _ _ _ _ _;unfold fO;rw[insInner]at he;by_cases hl:j+1>lo
  ·rw[bN (show((j+1:Nat):Int)>lo by omega),aG];rw[decide_eq_true hl,Bool.true_and]at he;refine GG (q:=j) (ay s) rfl (by omega) (by omega) (by omega) λw s=>?_;show cond (cO d1[j+1]! d1[j]!) _ _;by_cases hc:cO d1[j+1]! d1[j]! =true
   ·rw[hc,cond_true];refine DP (q:=j) (ay s) rfl (by omega) (by omega) (by omega) λw s=>?_;grind
   ·rw[Bool.not_eq_true]at hc;rw[hc,cond_false,aG];grind
  ·rw[bp (show¬((j+1:Nat):Int)>lo by omega),aG];rw[decide_eq_false hl,Bool.false_and,if_neg (by decide)]at he;exact h d1 _ hsz (ay s) he
def anQ {Q:World->Prop}{lo b:Nat}(hn:n<1000000)(hb:b<=n)(h:∀w',Sep F W w' (c7 a n c (insertionSort cO d lo b)::L)->Q w'):
  ∀(j i:Nat) (d1:Array bj) (w:World),i+j=b+1\/b<i/\j=0->insOuter cO lo b i d1=insertionSort cO d lo b->Sep F W w (c7 a n c d1::L)->eS Q (j+1) a n c lo b iP i w:=by
 intro j;induction j with
 |zero=>
  intro i d1 w hi he s;show fP Q (eS Q 0) _ _ _ _ _ _ _ _;unfold fP;rw[insOuter,fS]at he;grind
 |succ j ih=>
  intro i d1 w hi he s;show fP Q (eS Q (j+1)) _ _ _ _ _ _ _ _;unfold fP;rw[insOuter]at he;by_cases hib:i<b
  ·rw[bN];rw[if_pos hib]at he;refine⟨i+1,anP hn (by omega) (λd' w' hs' s' e=>?_) i d1 w (by omega) rfl s⟩;subst e;exact ih (i+1) _ w' (by omega) he s'
  grind
def Hj {Q:World->Prop}{lo b:Nat}(s:Sep F W w (c7 a n c d::L))(hn:n<1000000)(hlo:lo<=b)(hb:b<=n)(h:∀w',Sep F W w' (c7 a n c (insertionSort cO d lo b)::L)->Q w'):
  jK a n c lo b iP w Q:=by
 apply zf;rw[aG];exact⟨b-lo+1,anQ hn hb h (b-lo) (lo+1) d w (by omega) rfl s⟩
def anR {Q:World->Prop}{hi first:Nat}(hn:n<1000000)(hh:first+hi<=n){d0:Array bj}(h:∀w',Sep F W w' (c7 a n c d0::L)->Q w'):
  ∀(j root:Nat) (d1:Array bj) (w:World),hi<=root+j->root<n->siftDown cO hi first root d1=d0->Sep F W w (c7 a n c d1::L)->eU Q (j+1) a n c hi first iP root w:=by
 intro j;induction j with
 |zero=>
  intro root d1 w hj hr he s;show gR Q (eU Q 0) _ _ _ _ _ _ _ _;rw[gR,aG (n:=2*(root:Int)),aG,bN];rw[siftDown,dif_pos (by omega)]at he;grind
 |succ j ih=>
  intro root d1 w hj hr he s;have hsz:=gu s;show gR Q (eU Q (j+1)) _ _ _ _ _ _ _ _;rw[gR,aG (n:=2*(root:Int)),aG];rw[siftDown]at he;by_cases h1:2*root+1≥hi
  ·grind
  rw[bp,aG,aG,aG];rw[dif_neg h1]at he;have b5:∀(ch:Nat) (w:World),root<ch->ch<hi->Sep F W w (c7 a n c d1::L)->(if(!cO d1[first+root]! d1[first+ch]!)=true then d1 else siftDown cO hi first ch (swp d1 (first+root) (first+ch)))=d0->
    fI (eU Q (j+1)) Q a n c hi first iP root ch w:=λch w aBp hch s he=>by
   rw[fI,aG,aG];refine GG (p:=first+root) (q:=first+ch) (ay s) (by omega) (by omega) (by omega) (by omega) λw s=>?_;show cond (!cO d1[first+root]! d1[first+ch]!) _ _;by_cases hc:cO d1[first+root]! d1[first+ch]! =true
   ·rw[hc,Bool.not_true,cond_false];refine DP (p:=first+root) (q:=first+ch) (ay s) (by omega) (by omega) (by omega) (by omega) λw s=>?_;grind
   grind
  have e1:(2*(root:Int)+1)=((2*root+1:Nat):Int):=by omega
  have e2:(2*(root:Int)+1+1)=((2*root+2:Nat):Int):=by omega
  rw[e2];by_cases h2:2*root+2<hi
  ·rw[bN (show((2*root+2:Nat):Int)<hi by omega)];refine GG (p:=first+(2*root+1)) (q:=first+(2*root+1)+1) (ay s) (by omega) (by omega) (by omega) (by omega) λw s=>?_;show cond (cO d1[first+(2*root+1)]! d1[first+(2*root+1)+1]!) _ _;by_cases hc:cO d1[first+(2*root+1)]! d1[first+(2*root+1)+1]! =true
   ·rw[hc,cond_true];apply b5 (2*root+2) w (by omega) h2 s;grind
   ·rw[Bool.not_eq_true]at hc;rw[hc,cond_false,e1];rw[if_neg (by grind)]at he;exact b5 (2*root+1) w (by omega) (by omega) s he
  ·rw[bp (show¬((2*root+2:Nat):Int)<hi by omega),e1];rw[if_neg (by grind)]at he;exact b5 (2*root+1) _ (by omega) (by omega) (ay s) he
def QL {Q:World->Prop}{lo hi first:Nat}(s:Sep F W w (c7 a n c d::L))(hn:n<1000000)(hh:first+hi<=n)(hlo:lo<n)(h:∀w',Sep F W w' (c7 a n c (siftDown cO hi first lo d)::L)->Q w'):
  iY a n c lo hi first iP w Q:=by
 apply Bw;exact⟨hi+1,anR hn hh h hi lo d w (by omega) hlo rfl s⟩
def aqb {Q:World->Prop}{first:Nat}(hn:n<1000000){d0:Array bj}(h:∀w',Sep F W w' (c7 a n c d0::L)->Q w'):
  ∀(k:Nat) (d1:Array bj) (w:World),first+k<=n->heapPop cO first k d1=d0->Sep F W w (c7 a n c d1::L)->fJ Q (k+1) a n c iP first 0 ((k:Int)-1) w:=by
 intro k;induction k with
 |zero=>
  intro d1 w hk he s;show gS Q (fJ Q 0) _ _ _ _ _ _ _ _;unfold gS;rw[heapPop]at he;grind
 |succ k ih=>
  intro d1 w hk he s;have hsz:=gu s;show gS Q (fJ Q (k+1)) _ _ _ _ _ _ _ _;rw[gS,show((k+1:Nat):Int)-1=(k:Int) by omega,bN,aG,aG];rw[heapPop]at he;refine DP (p:=first) (q:=first+k) (ay s) (by omega) (by omega) (by omega) (by omega) λw s=>?_;refine QL (lo:=0) s hn (by omega) (by omega) λw s=>?_;grind
def alA {Q:World->Prop}{first hi:Nat}(hn:n<1000000)(hh:first+hi<=n){d0:Array bj}(h:∀w',Sep F W w' (c7 a n c d0::L)->Q w'):
  ∀(k:Nat) (d1:Array bj) (w:World),k<=hi->heapPop cO first hi (heapBuild cO hi first k d1)=d0->Sep F W w (c7 a n c d1::L)->fK Q (k+1) a n c iP first 0 hi ((k:Int)-1) w:=by
 intro k;induction k with
 |zero=>
  intro d1 w hk he s;show gT Q (fK Q 0) _ _ _ _ _ _ _ _ _;rw[gT,bp,aG];exact⟨hi+1,aqb hn h hi d1 w hh he s⟩
 |succ k ih=>
  intro d1 w hk he s;show gT Q (fK Q (k+1)) _ _ _ _ _ _ _ _ _;rw[gT,show((k+1:Nat):Int)-1=(k:Int) by omega,bN,aG];rw[heapBuild]at he;refine QL s hn hh (by omega) λw s=>?_;grind
def adM {Q:World->Prop}{lo b:Nat}(s:Sep F W w (c7 a n c d::L))(hn:n<1000000)(hlo:lo<b)(hb:b<=n)(h:∀w',Sep F W w' (c7 a n c (heapSort cO d lo b)::L)->Q w'):
  lQ a n c lo b iP w Q:=by
 apply By;refine⟨by decide,?_⟩;rw[aG,aG (n:=(b:Int)-lo-1),Int.tdiv_eq_ediv_of_nonneg (by omega),aG,
  show(b:Int)-lo=((b-lo:Nat):Int) by omega]
 have:=alA hn (by omega) h ((b-lo-1)/2+1) d w (by omega) rfl s;grind
end
end Go.Proofs.YtmegplnmiepfbaaGreatDoor.S
namespace Go.Proofs.YtmegplnmiepfbaaGreatDoor.S
open Go.Sx
open Go.Sort (swp scanUp scanDown partLoop partition partEqLoop partitionEqual)
attribute [local irreducible] af cA bw bg aA cq bY St Bx Al App cD cy cw bT aL bC aq bR av ak aV mapA
section
variable {F:Nat->Prop}{W w w0:World}{L:List As}{a:Option Addr}{n c:Nat}{d:Array bj}
def oO {α:Type}(A B:α):(if false=true then A else B)=B:=rfl
def V5 {α:Type}(A B:α):(if true=true then A else B)=A:=rfl
def up_eq (p:bj->Bool)(d:Array bj)(j i:Nat):scanUp p d j i=if(decide (i<=j)&&p d[i]!)=true then scanUp p d j (i+1)else i:=by rw[scanUp]
def down_eq (p:bj->Bool)(d:Array bj)(i j:Nat)(hi:1<=i):scanDown p d i j=if(decide (i<=j)&&p d[j]!)=true then scanDown p d i (j-1)else j:=by
 cases j with
 |zero=>rw[scanDown,decide_eq_false (by omega),Bool.false_and,oO]
 |succ j=>rw[scanDown];rfl
def anS {Q:Int->Bool->World->Prop}{lo:Nat}(hn:n<1000000){R:Nat×Array bj}(h:∀w',R.1<n->Sep F W w' (c7 a n c (swp R.2 R.1 lo)::L)->Q R.1 false w'):
  ∀(f i j:Nat) (d:Array bj) (w:World),j+1<=i+f->lo<i->lo<=j->j<n->i<=n->partLoop cO lo i j d=R->Sep F W w (c7 a n c d::L)->c9 Q (f+1) a n c lo iP i j w:=by
 intro f;induction f with
 |zero=>
  intro i j d w hf hlo hj0 hj hi hR s;have hsz:=gu s;rw[Go.Sort.partLoop_eq]at hR;rw[up_eq,decide_eq_false (by omega),Bool.false_and,oO,down_eq _ _ _ _ (by omega),decide_eq_false (by omega),Bool.false_and,oO,AA]at hR;subst hR;show gy Q (c9 Q 0) _ _ _ _ _ _ _ _;rw[gy,bp];refine⟨1,?_⟩;show eA _ Q (c8 _ Q 0) _ _ _ _ _ _ _ _;rw[eA,bp];rw[fg,bN];exact DP (ay (ay (ay s))) rfl (by omega) rfl (by omega) λw s=>h w hj s
 |succ f ih=>
  intro i j d w hf hlo hj0 hj hi hR s;have hsz:=gu s;show gy Q (c9 Q (f+1)) _ _ _ _ _ _ _ _;unfold gy;rw[Go.Sort.partLoop_eq]at hR;have down:∀(k j':Nat) (w:World),j'=lo+k->j'<=j->Sep F W w (c7 a n c d::L)->
    (if i>scanDown (λx=>!cO x d[lo]!) d i j' then(scanDown (λx=>!cO x d[lo]!) d i j',d)else partLoop cO lo (i+1) (scanDown (λx=>!cO x d[lo]!) d i j'-1) (swp d i (scanDown (λx=>!cO x d[lo]!) d i j')))=R->
    c8 (c9 Q (f+1)) Q (k+1) a n c lo iP i j' w:=by
   have Yl:∀(j':Nat) (w:World),lo<=j'->j'<=j->Sep F W w (c7 a n c d::L)->(if i>j' then(j',d)else partLoop cO lo (i+1) (j'-1) (swp d i j'))=R->
     fg (c9 Q (f+1)) Q a n c lo iP i j' w:=λj' w h1 h2 s hR=>by
    unfold fg;by_cases hij:i>j'
    ·rw[if_pos hij]at hR;subst hR;rw[bN];exact DP (ay s) rfl (by omega) rfl (by omega) λw s=>h w (show j'<n by omega) s
    ·rw[if_neg hij]at hR;rw[bp,aG,aG];refine DP (ay s) rfl (by omega) rfl (by omega) λw s=>?_;rw[show(i:Int)+1=((i+1:Nat):Int) by omega,show(j':Int)-1=((j'-1:Nat):Int) by omega];exact ih (i+1) (j'-1) _ w (by omega) (by omega) (by omega) (by omega) (by omega) hR s
   intro k;induction k with
   |zero=>
    intro j' w hk hj' s hR;rw[down_eq _ _ _ _ (by omega),decide_eq_false (by omega),Bool.false_and,oO]at hR;show eA _ Q (c8 _ Q 0) _ _ _ _ _ _ _ _;rw[eA,bp];exact Yl j' _ (by omega) hj' (ay s) hR
   |succ k ih2=>
    intro j' w hk hj' s hR;rw[down_eq _ _ _ _ (by omega)]at hR;show eA _ Q (c8 _ Q (k+1)) _ _ _ _ _ _ _ _;unfold eA;by_cases hij:i<=j'
    ·rw[bN];refine GG (ay s) rfl (by omega) rfl (by omega) λw s=>?_;show cond (!cO d[j']! d[lo]!) _ _;rw[decide_eq_true hij,Bool.true_and]at hR;cases hc:cO d[j']! d[lo]! with
     |false=>
      rw[Bool.not_false,cond_true,aG,show(j':Int)-1=((j'-1:Nat):Int) by omega];grind
     |true=>
      grind
    ·rw[bp];rw[decide_eq_false hij,Bool.false_and,oO]at hR;exact Yl j' _ (by omega) hj' (ay s) hR
  by_cases hij:i<=j
  ·rw[bN];refine GG (ay s) rfl (by omega) rfl (by omega) λw s=>?_;show cond (cO d[i]! d[lo]!) _ _;cases hc:cO d[i]! d[lo]! with
   |true=>
    rw[cond_true,aG];rw[up_eq,hc,decide_eq_true hij,Bool.true_and,V5,<-Go.Sort.partLoop_eq]at hR;exact ih (i+1) j d w (by omega) (by omega) hj0 hj (by omega) hR s
   |false=>
    rw[up_eq,hc,Bool.and_false,oO]at hR;exact⟨j-lo+1,down (j-lo) j w (by omega) (Nat.le_refl _) s hR⟩
  ·rw[bp];rw[up_eq,decide_eq_false hij,Bool.false_and,oO]at hR;exact⟨j-lo+1,down (j-lo) j _ (by omega) (Nat.le_refl _) (ay s) hR⟩
def abH {Q:Int->Bool->World->Prop}{lo b pv:Nat}(s:Sep F W w (c7 a n c d::L))(hn:n<1000000)(hlo:lo<=pv/\pv<b)(hb:b<=n)
  (h:∀w',Sep F W w' (c7 a n c (partition cO d lo b pv).2.2::L)->Q (partition cO d lo b pv).1 (partition cO d lo b pv).2.1 w'):
  lC a n c lo b pv iP w Q:=by
 apply A0;have hsz:=gu s;refine DP (ay s) rfl (by omega) rfl (by omega) λw s=>?_;rw[aG,aG];unfold partition at h;simp only at h;generalize swp d lo pv=d1 at h s;have hsz:=gu s;have b7:∀(i j':Nat) (w:World),lo<i->i<=b->lo<=j'->j'<b->scanUp (λx=>cO x d1[lo]!) d1 (b-1) (lo+1)=i->scanDown (λx=>!cO x d1[lo]!) d1 i (b-1)=j'->Sep F W w (c7 a n c d1::L)->
   gG Q a n c lo iP i j' w:=λi j' w h1 h1' h2 h3 hI hJ s=>by
  rw[hI,hJ]at h;unfold gG;by_cases hij:i>j'
  ·rw[bN];rw[if_pos hij]at h;exact DP (ay s) rfl (by omega) rfl (by omega) λw s=>h w s
  ·rw[bp,aG,aG];rw[if_neg hij]at h;refine DP (ay s) rfl (by omega) rfl (by omega) λw s=>?_;rw[show(i:Int)+1=((i+1:Nat):Int) by omega,show(j':Int)-1=((j'-1:Nat):Int) by omega];exact⟨j'+1,anS hn (λw' _ s=>h w' s) j' (i+1) (j'-1) _ w (by omega) (by omega) (by omega) (by omega) (by omega) rfl s⟩
 have b5:∀(i:Nat),lo<i->i<=b->scanUp (λx=>cO x d1[lo]!) d1 (b-1) (lo+1)=i->∀(k j':Nat) (w:World),j'=lo+k->j'<b->scanDown (λx=>!cO x d1[lo]!) d1 i (b-1)=scanDown (λx=>!cO x d1[lo]!) d1 i j'->Sep F W w (c7 a n c d1::L)->
   dG Q (k+1) a n c lo iP i j' w:=λi h1 h1' hI k=>by
  induction k with
  |zero=>
   intro j' w hk hj' hJ s;rw[down_eq _ _ _ j' (by omega),decide_eq_false (by omega),Bool.false_and,oO]at hJ;show gH Q (dG Q 0) _ _ _ _ _ _ _ _;rw[gH,bp];exact b7 i j' _ h1 h1' (by omega) hj' hI hJ (ay s)
  |succ k ih2=>
   intro j' w hk hj' hJ s;rw[down_eq _ _ _ j' (by omega)]at hJ;show gH Q (dG Q (k+1)) _ _ _ _ _ _ _ _;unfold gH;by_cases hij:i<=j'
   ·rw[bN];refine GG (ay s) rfl (by omega) rfl (by omega) λw s=>?_;show cond (!cO d1[j']! d1[lo]!) _ _;rw[decide_eq_true hij,Bool.true_and]at hJ;cases hc:cO d1[j']! d1[lo]! with
    |false=>
     rw[Bool.not_false,cond_true,aG,show(j':Int)-1=((j'-1:Nat):Int) by omega];grind
    |true=>
     grind
   ·rw[bp];rw[decide_eq_false hij,Bool.false_and,oO]at hJ;exact b7 i j' _ h1 h1' (by omega) hj' hI hJ (ay s)
 have b3:∀(k i:Nat) (w:World),i+k=b->lo<i->scanUp (λx=>cO x d1[lo]!) d1 (b-1) (lo+1)=scanUp (λx=>cO x d1[lo]!) d1 (b-1) i->Sep F W w (c7 a n c d1::L)->
   fo Q (k+1) a n c lo iP i ((b-1:Nat):Int) w:=λk=>by
  have go5:∀(i:Nat) (w:World),lo<i->i<=b->scanUp (λx=>cO x d1[lo]!) d1 (b-1) (lo+1)=i->Sep F W w (c7 a n c d1::L)->∃k',dG Q k' a n c lo iP i ((b-1:Nat):Int) w:=
   λi w h1 h2 hI s=>⟨b-1-lo+1,b5 i h1 h2 hI (b-1-lo) (b-1) w (by omega) (by omega) rfl s⟩
  induction k with
  |zero=>
   intro i w hk hi hI s;rw[up_eq _ _ _ i,decide_eq_false (by omega),Bool.false_and,oO]at hI;show gI Q (fo Q 0) _ _ _ _ _ _ _ _;rw[gI,bp];exact go5 i _ hi (by omega) hI (ay s)
  |succ k ih2=>
   intro i w hk hi hI s;rw[up_eq _ _ _ i]at hI;show gI Q (fo Q (k+1)) _ _ _ _ _ _ _ _;rw[gI,bN];refine GG (ay s) rfl (by omega) rfl (by omega) λw s=>?_;show cond (cO d1[i]! d1[lo]!) _ _;rw[decide_eq_true (show i<=b-1 by omega),Bool.true_and]at hI;cases hc:cO d1[i]! d1[lo]! with
   |true=>
    rw[hc,V5]at hI;rw[cond_true,aG];exact ih2 (i+1) w (by omega) (by omega) hI s
   |false=>
    grind
 have:=b3 (b-(lo+1)) (lo+1) w (by omega) (by omega) rfl s;grind
def ajO {Q:Int->World->Prop}{lo:Nat}(hn:n<1000000){R:Nat×Array bj}(h:∀w',R.1<=n->Sep F W w' (c7 a n c R.2::L)->Q R.1 w'):
  ∀(f i j:Nat) (d:Array bj) (w:World),j+1<=i+f->lo<i->lo<=j->j<n->i<=n->partEqLoop cO lo i j d=R->Sep F W w (c7 a n c d::L)->cM Q (f+1) a n c lo iP i j w:=by
 intro f;induction f with
 |zero=>
  intro i j d w hf hlo hj0 hj hi hR s;have hsz:=gu s;rw[Go.Sort.partEqLoop_eq]at hR;rw[up_eq,decide_eq_false (by omega),Bool.false_and,oO,down_eq _ _ _ _ (by omega),decide_eq_false (by omega),Bool.false_and,oO,AA]at hR;subst hR;show fG Q (cM Q 0) _ _ _ _ _ _ _ _;rw[fG,bp];refine⟨1,?_⟩;show dz _ Q (cL _ Q 0) _ _ _ _ _ _ _ _;rw[dz,bp];rw[eI,bN];exact h _ hi (ay (ay s))
 |succ f ih=>
  intro i j d w hf hlo hj0 hj hi hR s;have hsz:=gu s;show fG Q (cM Q (f+1)) _ _ _ _ _ _ _ _;unfold fG;rw[Go.Sort.partEqLoop_eq]at hR;have down:∀(k j':Nat) (w:World),j'=lo+k->j'<=j->Sep F W w (c7 a n c d::L)->
    (if i>scanDown (λx=>cO d[lo]! x) d i j' then(i,d)else partEqLoop cO lo (i+1) (scanDown (λx=>cO d[lo]! x) d i j'-1) (swp d i (scanDown (λx=>cO d[lo]! x) d i j')))=R->
    cL (cM Q (f+1)) Q (k+1) a n c lo iP i j' w:=by
   have b7:∀(j':Nat) (w:World),lo<=j'->j'<=j->Sep F W w (c7 a n c d::L)->(if i>j' then(i,d)else partEqLoop cO lo (i+1) (j'-1) (swp d i j'))=R->
     eI (cM Q (f+1)) Q a n c lo iP i j' w:=λj' w h1 h2 s hR=>by
    unfold eI;by_cases hij:i>j'
    ·grind
    ·rw[if_neg hij]at hR;rw[bp,aG,aG];refine DP (ay s) rfl (by omega) rfl (by omega) λw s=>?_;rw[show(i:Int)+1=((i+1:Nat):Int) by omega,show(j':Int)-1=((j'-1:Nat):Int) by omega];exact ih (i+1) (j'-1) _ w (by omega) (by omega) (by omega) (by omega) (by omega) hR s
   intro k;induction k with
   |zero=>
    intro j' w hk hj' s hR;rw[down_eq _ _ _ _ (by omega),decide_eq_false (by omega),Bool.false_and,oO]at hR;show dz _ Q (cL _ Q 0) _ _ _ _ _ _ _ _;rw[dz,bp];exact b7 j' _ (by omega) hj' (ay s) hR
   |succ k ih2=>
    intro j' w hk hj' s hR;rw[down_eq _ _ _ _ (by omega)]at hR;show dz _ Q (cL _ Q (k+1)) _ _ _ _ _ _ _ _;unfold dz;by_cases hij:i<=j'
    ·rw[bN];refine GG (ay s) rfl (by omega) rfl (by omega) λw s=>?_;show cond (cO d[lo]! d[j']!) _ _;rw[decide_eq_true hij,Bool.true_and]at hR;cases hc:cO d[lo]! d[j']! with
     |true=>
      rw[cond_true,aG,show(j':Int)-1=((j'-1:Nat):Int) by omega];grind
     |false=>
      grind
    ·rw[bp];rw[decide_eq_false hij,Bool.false_and,oO]at hR;exact b7 j' _ (by omega) hj' (ay s) hR
  by_cases hij:i<=j
  ·rw[bN];refine GG (ay s) rfl (by omega) rfl (by omega) λw s=>?_;show cond (!cO d[lo]! d[i]!) _ _;cases hc:cO d[lo]! d[i]! with
   |false=>
    rw[Bool.not_false,cond_true,aG];rw[up_eq,hc,decide_eq_true hij,Bool.true_and,Bool.not_false,V5,<-Go.Sort.partEqLoop_eq]at hR;exact ih (i+1) j d w (by omega) (by omega) hj0 hj (by omega) hR s
   |true=>
    rw[up_eq,hc,Bool.not_true,Bool.and_false,oO]at hR;exact⟨j-lo+1,down (j-lo) j w (by omega) (Nat.le_refl _) s hR⟩
  ·rw[bp];rw[up_eq,decide_eq_false hij,Bool.false_and,oO]at hR;exact⟨j-lo+1,down (j-lo) j _ (by omega) (Nat.le_refl _) (ay s) hR⟩
def SB {Q:Int->World->Prop}{lo b pv:Nat}(s:Sep F W w (c7 a n c d::L))(hn:n<1000000)(hlo:lo<=pv/\pv<b)(hb:b<=n)
  (h:∀w',Sep F W w' (c7 a n c (partitionEqual cO d lo b pv).2::L)->Q (partitionEqual cO d lo b pv).1 w'):
  jB a n c lo b pv iP w Q:=by
 apply ye;have hsz:=gu s;refine DP (ay s) rfl (by omega) rfl (by omega) λw s=>?_;rw[aG,aG,show(b:Int)-1=((b-1:Nat):Int) by omega];exact⟨b+1,ajO hn (λw' _ s=>h w' s) b (lo+1) (b-1) _ w (by omega) (by omega) (by omega) (by omega) (by omega) rfl s⟩
end
end Go.Proofs.YtmegplnmiepfbaaGreatDoor.S
namespace Go.Proofs.YtmegplnmiepfbaaGreatDoor.S
open Go.Sx
open Go.Sort (swp scanSorted shiftDown shiftUp partialIns partialInsertionSort PermIn)
attribute [local irreducible] af cA bw bg aA cq bY St Bx Al App cD cy cw bT aL bC aq bR av ak aV mapA
section
variable {F:Nat->Prop}{W w w0:World}{L:List As}{a:Option Addr}{n c:Nat}{d:Array bj}
def aqc {Q:Bool->World->Prop}{lo b:Nat}(hn:n<1000000)(hb:b<=n)(hlo:lo<b){R:Array bj×Bool}(h:∀w',Sep F W w' (c7 a n c R.1::L)->Q R.2 w'):
  ∀(f i:Nat) (d:Array bj) (w:World),f<=5->lo<i->i<=b->partialIns cO lo b f i d=R->Sep F W w (c7 a n c d::L)->bt Q (f+1) a n c lo b iP i (5-f:Int) w:=by
 intro f;induction f with
 |zero=>
  intro i d w hf hi hib hR s;rw[partialIns]at hR;subst hR;show eM Q (bt Q 0) _ _ _ _ _ _ _ _ _;unfold eM;grind
 |succ f ih=>
  intro i d w hf hi hib hR s;show eM Q (bt Q (f+1)) _ _ _ _ _ _ _ _ _;rw[eM,bN];have next:∀(i:Nat) (d:Array bj) (w:World),lo<i->i<=b->partialIns cO lo b f i d=R->Sep F W w (c7 a n c d::L)->bt Q (f+1) a n c lo b iP i (IntKind.wrap .i64 ((5-(f+1:Nat):Int)+1)) w:=λi d w h1 h2 h3 s=>by rw[aG,show(5-(f+1:Nat):Int)+1=5-f by omega];grind
  have up:∀(i:Nat) (d':Array bj),lo<i->i<=b->partialIns cO lo b f i d'=R->∀(k j:Nat) (d:Array bj) (w:World),j+k=b->lo<j->shiftUp cO b j d=d'->Sep F W w (c7 a n c d::L)->
    cV (bt Q (f+1)) Q (k+1) a n c lo b iP i (5-(f+1:Nat):Int) j w:=by
   intro i d' h1 h2 h3 k;induction k with
   |zero=>
    intro j d w hj hj0 hS s;rw[shiftUp,fS]at hS;subst hS;show eE _ Q (cV _ Q 0) _ _ _ _ _ _ _ _ _ _;unfold eE;grind
   |succ k ih2=>
    intro j d w hj hj0 hS s;have hsz:=gu s;rw[shiftUp,AA]at hS;show eE _ Q (cV _ Q (k+1)) _ _ _ _ _ _ _ _ _ _;rw[eE,bN,aG];refine GG (q:=j-1) (ay s) rfl (by omega) (by omega) (by omega) λw s=>?_;show cond (!cO d[j]! d[j-1]!) _ _;cases hc:cO d[j]! d[j-1]! with
    |false=>
     grind
    |true=>
     rw[hc,Bool.not_true,oO]at hS;rw[Bool.not_true,cond_false,aG];refine DP (q:=j-1) (ay s) rfl (by omega) (by omega) (by omega) λw s=>?_;exact ih2 (j+1) _ w (by omega) (by omega) hS s
  have b18:∀(i:Nat) (d:Array bj) (w:World),lo<i->i<b->partialIns cO lo b f i (if b-i≥2 then shiftUp cO b (i+1) d else d)=R->Sep F W w (c7 a n c d::L)->
    cW (bt Q (f+1)) Q a n c lo b iP i (5-(f+1:Nat):Int) w:=λi d w h1 h2 h3 s=>by
   rw[cW,aG];by_cases h4:b-i≥2
   ·rw[if_pos h4]at h3;rw[bN,aG];exact⟨_,up i _ h1 (by omega) h3 (b-(i+1)) (i+1) d w (by omega) (by omega) rfl s⟩
   ·rw[if_neg h4]at h3;rw[bp];exact next i d _ h1 (by omega) h3 s
  have down:∀(i:Nat) (d':Array bj),lo<i->i<b->partialIns cO lo b f i (if b-i≥2 then shiftUp cO b (i+1) d' else d')=R->∀(j:Nat) (d:Array bj) (w:World),j<b->shiftDown cO j d=d'->Sep F W w (c7 a n c d::L)->
    cY (bt Q (f+1)) Q (j+1) a n c lo b iP i (5-(f+1:Nat):Int) j w:=by
   intro i d' h1 h2 h3 j;induction j with
   |zero=>
    intro d w hj hS s;subst hS;show eF _ Q (cY _ Q 0) _ _ _ _ _ _ _ _ _ _;unfold eF;exact b18 i d _ h1 h2 h3 s
   |succ j ih2=>
    intro d w hj hS s;have hsz:=gu s;rw[shiftDown]at hS;show eF _ Q (cY _ Q (j+1)) _ _ _ _ _ _ _ _ _ _;rw[eF,bN,aG];refine GG (q:=j) (ay s) rfl (by omega) (by omega) (by omega) λw s=>?_;show cond (!cO d[j+1]! d[j]!) _ _;cases hc:cO d[j+1]! d[j]! with
    |false=>
     rw[hc,Bool.not_false,V5]at hS;subst hS;exact b18 i d w h1 h2 h3 s
    |true=>
     rw[hc,Bool.not_true,oO]at hS;rw[Bool.not_true,cond_false,show((j+1:Nat):Int)-1=(j:Int) by omega];refine DP (q:=j) (ay s) rfl (by omega) (by omega) (by omega) λw s=>?_;exact ih2 _ w (by omega) hS s
  have scan:∀(k i:Nat) (w:World),i+k=b->lo<i->Sep F W w (c7 a n c d::L)->(if scanSorted cO d b i=b then(d,true)else if b-lo<50 then(d,false)else
     partialIns cO lo b f (scanSorted cO d b i) (if b-scanSorted cO d b i≥2 then shiftUp cO b (scanSorted cO d b i+1) (if scanSorted cO d b i-lo≥2 then shiftDown cO (scanSorted cO d b i-1) (swp d (scanSorted cO d b i) (scanSorted cO d b i-1))else swp d (scanSorted cO d b i) (scanSorted cO d b i-1))
      else(if scanSorted cO d b i-lo≥2 then shiftDown cO (scanSorted cO d b i-1) (swp d (scanSorted cO d b i) (scanSorted cO d b i-1))else swp d (scanSorted cO d b i) (scanSorted cO d b i-1))))=R->
    dh (bt Q (f+1)) Q (k+1) a n c lo b iP i (5-(f+1:Nat):Int) w:=by
   have b7:∀(i:Nat) (w:World),lo<i->i<=b->Sep F W w (c7 a n c d::L)->(if i=b then(d,true)else if b-lo<50 then(d,false)else
     partialIns cO lo b f i (if b-i≥2 then shiftUp cO b (i+1) (if i-lo≥2 then shiftDown cO (i-1) (swp d i (i-1))else swp d i (i-1))else(if i-lo≥2 then shiftDown cO (i-1) (swp d i (i-1))else swp d i (i-1))))=R->
     eK (bt Q (f+1)) Q a n c lo b iP i (5-(f+1:Nat):Int) w:=λi w h1 h2 s hR=>by
    have hsz:=gu s;unfold eK;by_cases h3:i=b
    ·rw[if_pos h3]at hR;subst hR;rw[eC (by omega),cond_true];exact h _ s
    ·rw[if_neg h3]at hR;rw[cQ (by omega),cond_false,aG];by_cases h4:b-lo<50
     ·rw[if_pos h4]at hR;subst hR;rw[bN];exact h _ s
     ·rw[if_neg h4]at hR;rw[bp,aG,aG];refine DP (q:=i-1) (ay s) rfl (by omega) (by omega) (by omega) λw s=>?_;by_cases h5:i-lo≥2
      ·rw[if_pos h5]at hR;rw[bN,show(i:Int)-1=((i-1:Nat):Int) by omega];exact⟨_,down i _ h1 (by omega) hR (i-1) _ w (by omega) rfl s⟩
      ·rw[if_neg h5]at hR;rw[bp];exact b18 i _ w h1 (by omega) hR s
   intro k;induction k with
   |zero=>
    intro i w hk hi s hR;rw[scanSorted,decide_eq_false (by omega),Bool.false_and,oO]at hR;show eL _ Q (dh _ Q 0) _ _ _ _ _ _ _ _ _;rw[eL,bp];exact b7 i _ hi (by omega) (ay s) hR
   |succ k ih2=>
    intro i w hk hi s hR;have hsz:=gu s;rw[scanSorted,decide_eq_true (by omega),Bool.true_and]at hR;show eL _ Q (dh _ Q (k+1)) _ _ _ _ _ _ _ _ _;rw[eL,bN,aG];refine GG (q:=i-1) (ay s) rfl (by omega) (by omega) (by omega) λw s=>?_;show cond (!cO d[i]! d[i-1]!) _ _;cases hc:cO d[i]! d[i-1]! with
    |false=>
     rw[hc,Bool.not_false,V5]at hR;rw[Bool.not_false,cond_true,aG];exact ih2 (i+1) w (by omega) (by omega) s hR
    |true=>
     rw[hc,Bool.not_true,oO]at hR;exact b7 i w hi (by omega) s hR
  exact⟨_,scan (b-i) i w (by omega) hi s hR⟩
def ZP {Q:Bool->World->Prop}{lo b:Nat}(s:Sep F W w (c7 a n c d::L))(hn:n<1000000)(hlo:lo<b)(hb:b<=n)(h:∀w',Sep F W w' (c7 a n c (partialInsertionSort cO d lo b).1::L)->Q (partialInsertionSort cO d lo b).2 w'):
  iG a n c lo b iP w Q:=by
 apply uP;rw[aG];exact⟨_,aqc hn hb hlo h 5 (lo+1) d w (by decide) (by omega) (by omega) rfl s⟩
def akA {lo b i j:Nat}{d d':Array bj}(h:PermIn lo b d d')(hb:b<=d'.size)(hi:lo<=i/\i<b)(hj:lo<=j/\j<b):PermIn lo b d (swp d' i j):=
 Go.Sort.permIn_trans _ _ _ _ _ h (Go.Sort.swp_permIn _ _ _ _ _ hi.1 hi.2 hj.1 hj.2 hb)
def agl {Q:World->Prop}{lo b:Nat}(s:Sep F W w (c7 a n c d::L))(hn:n<1000000)(hlo:lo<b)(hb:b<=n)(h:∀d' w',PermIn lo b d d'->Sep F W w' (c7 a n c d'::L)->Q w'):
  jZ a n c lo b iP w Q:=by
 apply zG;rw[aG];have loop:∀(k i j:Nat) (d':Array bj) (w:World),j<=i+k->lo<=i->j<b->i<=b->PermIn lo b d d'->Sep F W w (c7 a n c d'::L)->eX Q (k+1) a n c i j w:=by
  intro k;induction k with
  |zero=>
   intro i j d' w hk hi hj hib hp s;show fW Q (eX Q 0) _ _ _ _ _ _;unfold fW;grind
  |succ k ih=>
   intro i j d' w hk hi hj hib hp s;have hsz:=gu s;show fW Q (eX Q (k+1)) _ _ _ _ _ _;unfold fW;by_cases hij:i<j
   ·rw[bN,aG,aG];refine DP (ay s) rfl (by omega) rfl (by omega) λw s=>?_;rw[show(j:Int)-1=((j-1:Nat):Int) by omega];exact ih (i+1) (j-1) _ w (by omega) (by omega) (by omega) (by omega) (akA hp (by omega) (by omega) (by omega)) s
   grind
 have:=loop b lo (b-1) d w (by omega) (Nat.le_refl _) (by omega) (by omega) (Go.Sort.permIn_refl _ _ _) s;grind
def LN {Q:Int->Int->World->Prop}{i j sp:Nat}{k:Int}{t:TypeId}(s:Sep F W w (c7 a n c d::av sp t [ae k]::L))(hi:i<n)(hj:j<n)
  (h:∀(x y:Nat) k' w',(x=i/\y=j\/x=j/\y=i)->Sep F W w' (c7 a n c d::av sp t [ae k']::L)->Q x y w'):gQ a n c i j (sZ sp) iP w Q:=by
 apply CU;have hsz:=gu s;refine GG (ay s) rfl (by omega) rfl (by omega) λw s=>?_;cases hc:decide (ahY d[j]! d[i]! <0)with
 |true=>
  rw[cond_true];refine ah (lI s 1 rfl (ah ?_));refine sT s 1 rfl λw s=>?_;grind
 |false=>
  grind
def V6 {Q:Int->World->Prop}{i j l sp:Nat}{k:Int}{t:TypeId}(s:Sep F W w (c7 a n c d::av sp t [ae k]::L))(hi:i<n)(hj:j<n)(hl:l<n)
  (h:∀(x:Nat) k' w',(x=i\/x=j\/x=l)->Sep F W w' (c7 a n c d::av sp t [ae k']::L)->Q x w'):jw a n c i j l (sZ sp) iP w Q:=by
 apply CV;refine LN s hi hj λx y k w e s=>?_;refine LN s (show y<n by omega) hl λx' y' k w e' s=>?_;refine LN s (show x<n by omega) (show x'<n by omega) λx2 y2 k w e2 s=>?_;grind
def GH {Q:Int->World->Prop}{i sp:Nat}{k:Int}{t:TypeId}(s:Sep F W w (c7 a n c d::av sp t [ae k]::L))(hn:n<1000000)(hi:1<=i/\i+1<n)
  (h:∀(x:Nat) k' w',(i<=x+1/\x<=i+1)->Sep F W w' (c7 a n c d::av sp t [ae k']::L)->Q x w'):fk a n c i (sZ sp) iP w Q:=by
 apply yd;rw[aG,aG,show(i:Int)-1=((i-1:Nat):Int) by omega,show(i:Int)+1=((i+1:Nat):Int) by omega];exact V6 s (by omega) (by omega) (by omega) λx k w e s=>h x k w (by omega) s
def XZ {Q:Int->Int->World->Prop}{lo b:Nat}(s:Sep F W w (c7 a n c d::L))(hn:n<1000000)(hlo:lo<b)(hb:b<=n)
  (h:∀(x:Nat) (hint:Int) w',lo<=x/\x<b->Sep F W w' (c7 a n c d::L)->Q x hint w'):kE a n c lo b iP w Q:=by
 apply Ad;refine aS s λsp w s=>⟨by decide,by decide,by decide,?_⟩;have s:=iZ s;have b12:∀(x:Nat) (k:Int) (w:World),lo<=x/\x<b->Sep F W w (c7 a n c d::av sp 3 [ae k]::L)->iI Q (aZ sp) x w:=λx k w hx s=>by apply lI s 1 rfl;have s':Sep F W w (c7 a n c d::L):=gF s (List.Sublist.cons_cons _ (List.sublist_cons_self _ _));grind
 have b11:∀(i j l:Nat) (k:Int) (w:World),lo<=i/\i<b->lo<=j/\j<b->lo<=l/\l<b->Sep F W w (c7 a n c d::av sp 3 [ae k]::L)->iJ Q a n c iP (aZ sp) i j l w:=λi j l k w hi hj hl s=>by exact V6 s (by omega) (by omega) (by omega) λx k w e s=>b12 x k w (by omega) s
 rw[aG,Int.tdiv_eq_ediv_of_nonneg (by omega),aG (n:=((b:Int)-lo)/4),
  aG (n:=((b:Int)-lo)/4*1),aG (n:=((b:Int)-lo)/4*2),aG (n:=((b:Int)-lo)/4*3),
  aG,aG,aG]
 have e1:(lo:Int)+((b:Int)-lo)/4*1=((lo+(b-lo)/4*1:Nat):Int):=by omega
 have e2:(lo:Int)+((b:Int)-lo)/4*2=((lo+(b-lo)/4*2:Nat):Int):=by omega
 have e3:(lo:Int)+((b:Int)-lo)/4*3=((lo+(b-lo)/4*3:Nat):Int):=by omega
 rw[e1,e2,e3];by_cases h8:b-lo≥8
 ·rw[bN (show(b:Int)-lo≥8 by omega)];by_cases h50:b-lo≥50
  ·rw[bN (show(b:Int)-lo≥50 by omega)];refine GH s hn (by omega) λx k w e s=>?_;refine GH s hn (by omega) λy k w e' s=>?_;refine GH s hn (by omega) λz k w e2 s=>?_;grind
  ·rw[bp (show¬(b:Int)-lo≥50 by omega)];exact b11 _ _ _ _ w (by omega) (by omega) (by omega) s
 ·rw[bp (show¬(b:Int)-lo≥8 by omega)];exact b12 _ _ w (by omega) s
end
end Go.Proofs.YtmegplnmiepfbaaGreatDoor.S
namespace Go.Proofs.YtmegplnmiepfbaaGreatDoor.S
open Go.Sx
open Go.Sort (swp PermIn SortedIn Below)
attribute [local irreducible] af cA bw bg aA cq bY St Bx Al App cD cy cw bT aL bC aq bR av ak aV mapA
section
variable {F:Nat->Prop}{W w w0:World}{L:List As}{a:Option Addr}{n c:Nat}{d:Array bj}
def alC (T:ByteArray):Bool:=(List.range 256).all λx=>decide (0<=sb T x/\sb T x<=8/\(x:Int)<2^(sb T x).toNat/\(1<=x->(2:Int)^(sb T x).toNat<=2*x))
def axU:∃T:ByteArray,T.size=256/\alC T=true/\∀Q x k w,uo Q x k w=(aK (IntKind.wrap .u8 x) T.size<|Q (IntKind.wrap .i64 (k+IntKind.wrap .i64 (sb T (IntKind.wrap .u8 x).toNat))) w):=by
 refine⟨_,?_,?_,λ_ _ _ _=>rfl⟩
 ·kernel_rfl
 ·kernel_rfl
def akB {T:ByteArray}(h2:alC T=true){x:Nat}(hx:x<256):0<=sb T x/\sb T x<=8/\(x:Int)<2^(sb T x).toNat/\(1<=x->(2:Int)^(sb T x).toNat<=2*x):=by unfold alC at h2;grind
def QM {x:Nat}{Q:Int->World->Prop}(hx:x<65536)(h:∀v:Nat,v<=16->(x:Int)<2^v->(8<=x->(2:Int)^v<=2*x)->Q v w):vF x w Q:=by
 apply Uc;apply PZ;unfold vL vK;rw[bp,bp];obtain⟨T,h1,h2,h3⟩:=axU;by_cases hs:x<256
 ·rw[bp,h3,h1,wrap_u8' x,Int.emod_eq_of_lt (by omega) (by omega)];refine⟨by omega,by omega,?_⟩;obtain⟨a1,a2,a3,a4⟩:=akB h2 hs;rw[Int.toNat_natCast,aG (n:=sb T x),aG,Int.zero_add];grind
 ·rw[bN];refine⟨by decide,?_⟩;have e:o6 .u64 (x:Int) 8=((x/256:Nat):Int):=by rw[o6,show(2:Int)^(min (8:Int).toNat (IntKind.u64).bits)=256 from rfl,Int.fdiv_eq_ediv_of_nonneg _ (by decide)];omega
  rw[e,wrap_i64 (by decide) (by decide),h3,h1,wrap_u8' ((x/256:Nat):Int),Int.emod_eq_of_lt (by omega) (by omega)];refine⟨by omega,by omega,?_⟩;obtain⟨a1,a2,a3,a4⟩:=akB h2 (x:=x/256) (by omega);rw[Int.toNat_natCast,aG (n:=sb T (x/256)),aG];have e2:(2:Int)^(8+(sb T (x/256)).toNat)=256*2^(sb T (x/256)).toNat:=by grind
  grind
def auo {x m:Int}(hm:0<=m/\m<1000000):0<=BC .u64 x m/\BC .u64 x m<=m:=by
 unfold BC;have h1:(BitVec.ofInt 64 x&&&BitVec.ofInt 64 m).toNat<=m.toNat:=by apply Nat.le_trans Nat.and_le_right;grind
 have h1:(BitVec.ofInt (IntKind.u64).bits x&&&BitVec.ofInt (IntKind.u64).bits m).toNat<=m.toNat:=h1;rw[ke (by omega)];omega
def adN {Q:Int->World->Prop}{sp:Nat}{k:Int}{t:TypeId}(s:Sep F W w (c7 a n c d::av sp t [.int .u64 k]::L))
  (h:∀r k' w',Sep F W w' (c7 a n c d::av sp t [.int .u64 k']::L)->Q r w'):sS (sZ sp) w Q:=by
 apply JF;refine ah (lI s 1 rfl (ah (lI s 1 rfl ⟨by decide,ah ?_⟩)));refine sT s 1 rfl λw s=>?_;refine ah (lI s 1 rfl (ah (lI s 1 rfl ⟨by decide,ah ?_⟩)));refine sT s 1 rfl λw s=>?_;refine ah (lI s 1 rfl (ah (lI s 1 rfl ⟨by decide,ah ?_⟩)));refine sT s 1 rfl λw s=>?_;refine ah (lI s 1 rfl ?_);grind
def aib {Q:World->Prop}{lo b:Nat}(s:Sep F W w (c7 a n c d::L))(hn:n<2000)(hlo:lo<b)(hb:b<=n)(h:∀d' w',PermIn lo b d d'->Sep F W w' (c7 a n c d'::L)->Q w'):
  jL a n c lo b iP w Q:=by
 apply zg;rw[aG];by_cases h8:b-lo≥8
 ·rw[bN (show(b:Int)-lo≥8 by omega)];refine aS s λsp w s=>?_;refine ax s (i:=0) rfl rfl rfl λw s=>?_;have s:=iZ s;apply IY;rw[ke (by omega),show(b:Int)-lo=((b-lo:Nat):Int) by omega];refine QM (by omega) λv hv h1 h2=>⟨by omega,by decide,?_⟩;have h2:=h2 h8;have hsh:BD .u64 1 (v:Int)=(2:Int)^v:=by rw[BD,Int.toNat_natCast,Int.one_mul,show min v (IntKind.u64).bits=v by simp[IntKind.bits];omega];exact ke (by omega)
  rw[hsh];generalize (2:Int)^v=M at h1 h2;rw[Int.tdiv_eq_ediv_of_nonneg (by omega),aG (n:=((b-lo:Nat):Int)/4),aG (n:=((b-lo:Nat):Int)/4*2),aG (n:=(lo:Int)+((b-lo:Nat):Int)/4*2),
   aG]
  have loop:∀(k idx:Nat) (d':Array bj) (r:Int) (t:TypeId) (w:World),idx+k=lo+(b-lo)/4*2+2->lo<=idx->PermIn lo b d d'->Sep F W w (c7 a n c d'::av sp t [.int .u64 r]::L)->
    dN Q (k+1) a n c lo ((b-lo:Nat):Int) (aZ sp) M idx w:=by
   intro k;induction k with
   |zero=>
    intro idx d' r t w hk hi hp s;show kF Q (dN Q 0) _ _ _ _ _ _ _ _ _;refine⟨by decide,?_⟩;rw[Int.tdiv_eq_ediv_of_nonneg (by omega),aG (n:=((b-lo:Nat):Int)/4),aG (n:=((b-lo:Nat):Int)/4*2),aG (n:=(lo:Int)+((b-lo:Nat):Int)/4*2),
     aG,bp]
    exact h d' w hp (gF s (List.Sublist.cons_cons _ (List.sublist_cons_self _ _)))
   |succ k ih=>
    intro idx d' r t w hk hi hp s;show kF Q (dN Q (k+1)) _ _ _ _ _ _ _ _ _;refine⟨by decide,?_⟩;rw[Int.tdiv_eq_ediv_of_nonneg (by omega),aG (n:=((b-lo:Nat):Int)/4),aG (n:=((b-lo:Nat):Int)/4*2),aG (n:=(lo:Int)+((b-lo:Nat):Int)/4*2),
     aG,bN]
    refine adN s λrr r w s=>?_;have hsz:=gu s;have b10:∀(o:Nat) (w:World),o<b-lo->Sep F W w (c7 a n c d'::av sp t [.int .u64 r]::L)->fF (dN Q (k+1)) Q a n c lo ((b-lo:Nat):Int) (aZ sp) M idx o w:=λo w ho s=>by rw[fF,aG,aG];refine DP (q:=lo+o) (ay s) rfl (by omega) (by omega) (by omega) λw s=>?_;exact ih (idx+1) _ r t w (by omega) (by omega) (akA hp (by omega) (by omega) (by omega)) s
    rw[ke (by omega)];have ha:=auo (x:=rr) (m:=M-1) (by omega);generalize BC .u64 rr (M-1)=q at ha;rw[aG];by_cases hq:q≥((b-lo:Nat):Int)
    ·rw[bN hq,aG];have:=b10 (q-((b-lo:Nat):Int)).toNat w (by omega) s;grind
    ·have:=b10 q.toNat w (by omega) s;grind
  have:=loop 3 (lo+(b-lo)/4*2-1) d _ _ w (by omega) (by omega) (Go.Sort.permIn_refl _ _ _) s;grind
 ·rw[bp (show¬(b:Int)-lo≥8 by omega)];exact h d w (Go.Sort.permIn_refl _ _ _) s
end
end Go.Proofs.YtmegplnmiepfbaaGreatDoor.S
namespace Go.Proofs.YtmegplnmiepfbaaGreatDoor.S
open Go.Sx
def aup (P:Program)(t:TypeId)(xs ys:Array Value):Option Bool:=match P.underlying t with
 |some (.struct fs)=>aha P xs ys fs.toList
 |_=>none
def anW {P:Program}{t:TypeId}{xs ys:Array Value}{x y:Operand}{r:Bool}{w:World}{K:Bool->World->Prop}(hp:P.stoodInHeld t=false)(hg:P.eqGuardType P.depth t=false)(hr:aup P t xs ys=some r)(h:K r w):bT P .eql t x y (.agg xs) (.agg ys) w K:=by
 unfold aup at hr;split at hr
 ·rename_i fs hu;exact atS hu hp hg hr h
 ·cases hr
def eq3 {a b c a' b' c':Int}:(a==a'&&(b==b'&&(c==c'&&true)))=decide (a=a'/\b=b'/\c=c'):=by grind
def asS {a b:bj}:(a.c=b.c/\a.s=b.s/\a.k=b.k)↔a=b:=by obtain⟨a1,a2,a3⟩:=a;obtain⟨b1,b2,b3⟩:=b;simp
attribute [local irreducible] bT
def anX {w:World}{x y:Operand}{a b:bj}{K:Bool->World->Prop}(h:K (decide (a=b)) w):bT P .eql 294 x y (.agg #[ae a.c,ae a.s,ae a.k]) (.agg #[ae b.c,ae b.s,ae b.k]) w K:=by apply anW (r:=a.c==b.c&&(a.s==b.s&&(a.k==b.k&&true))) (by kernel_rfl) (by kernel_rfl) (by kernel_rfl);rw[eq3];simp[asS];exact h
def auq {w:World}{x y:Operand}{a b:bj}{K:Bool->World->Prop}(h:K (!decide (a=b)) w):bT P .neq 294 x y (.agg #[ae a.c,ae a.s,ae a.k]) (.agg #[ae b.c,ae b.s,ae b.k]) w K:=
 aki (by kernel_rfl) (anX h)
end Go.Proofs.YtmegplnmiepfbaaGreatDoor.S
