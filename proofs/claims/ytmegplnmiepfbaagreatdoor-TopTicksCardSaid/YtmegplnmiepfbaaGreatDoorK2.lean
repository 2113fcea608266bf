/- Part 3 of the proof. -/
import Derived.Test.YtmegplnmiepfbaaGreatDoorK1
import Derived.Sort.LotA
import Derived.Sort.LotB
import Derived.Sort.LotC
import Derived.Sort.LotD3
set_option linter.unusedVariables false
set_option linter.unusedSimpArgs false
set_option linter.defProp false
set_option maxRecDepth 100000
namespace Go.Proofs.YtmegplnmiepfbaaGreatDoor.S
open Go.Sx
noncomputable def YG:cz:=[(6,sp 0 10 (.op 10 (.op 11 (.op 12 .done))))]
def Wp:=λa b c w Q=>bB (Cn a b c w Q) (xw a w λd e w=>d_ d e c w λf w=>vZ a b f w λg i j l m n o w=>Al T 213 w λp w=>St (p.add 0) (.slice g i j) w λw=>St (p.add 1) (.slice l m n) w λw=>Cb o λq=>cond (!q) (dV o λr=>Q 0 0 r w) (nJ d e c w λs w=>aA p w.drew λt u v=>aJ s u<|wA t λx=>af .i64 (x.add (s.toNat*1)) w.drew λy=>aA (p.add 1) w.drew λz a1 b1=>aJ s a1<|wA z λc1=>af .i64 (c1.add (s.toNat*1)) w.drew λd1=>w.drew.cell? (c1.add (s.toNat*1))=some (ae d1)/\w.drew.cell? (p.add 1)=some (.slice z a1 b1)/\Q y d1 (.nilIface) w.drew)) (ok 45) YG [] Tryz.func129
def QX:=λa w Q=>bB (zi a w Q) (Cb a λb=>cond b (Q 0 w) (b_ (aZ 2) w λc=>pL a c w λd w=>cond d (Q 4 w) (b_ (aZ 3) w λe=>pL a e w λf w=>cond f (Q 7 w) (Q 1 w)))) (ok 14) [] [] Tryz.func130
def Wq:=λa b c w Q=>bB (Cm a b c w Q) (Cn a b c w λd e f w=>zi f w λg w=>Q d e g w) (ok 22) [] [] Tryz.func92
def Nj:=λa b c d w Q=>bB (wO a b c d w Q) (wA a λe=>bg (e.add 1) w λf=>Cm f c d w λg i j w=>cond (j==0) (wA b λl=>St (l.add 1) (ae g) w λw=>wA b λm=>St (m.add 2) (ae i) w λw=>gw j w λn w=>dV n λo=>Q o w) (gw j w λp w=>dV p λq=>Q q w)) (ok 35) [] [] Tryz.func57
def qZ (Q:L3 WP)(R5:OA->L3 (L3 (Int->Int->WP)))(a b:OA)(c d:Nat)(e:OA)(f g:Nat)(i j:Int)(w:World):Prop:=cond (decide (j<i)) (aJ j f<|wA e λl=>af .i64 (l.add (j.toNat*1)) w λm=>wA a λn=>cy (n.add 2) w λo=>aN P (Instr.lookup 169 (.map o) (ae m) false) w λp w=>dL p λq=>dJ q λr s=>dI .i64 r λt=>dJ s λu v=>dI .i64 u λx=>dJ v λy z=>dI .i64 y λa1=>kU z<|Bx [ae t,ae x,ae a1] 43 w λb1 w=>App P #[39,39] 39 (.slice b c d) (.slice (some b1) 1 1) w λc1 d1 e1 w=>R5 a c1 d1 e1 e f g i (IntKind.wrap .i64 (j+1)) w) (Q b c d w)
def wk (Q:L3 WP):Nat->OA->L3 (L3 (Int->Int->WP))
 |0,_,_,_,_,_,_,_,_,_,_=>False
 |k+1,a,b,c,d,e,f,g,i,j,w=>qZ Q (wk Q k) a b c d e f g i j w
def Vb (Q):∀k,Bk 26 Tryz.f64 (HK Q) 5 [(0,.p),(3,.l),(9,.l),(10,.i .i64),(11,.i .i64)] (wk Q k):=bL λk h=>aU (ok 26) [] [aO h]
def QY:=λa w Q=>bB (y_ a w Q) (cond a.isNone (Q none 0 0 w) (qH a w λb c d w=>∃k',wk Q k' a none 0 0 b c d (c:Int) 0 w)) (ok 26) [] [cq (Vb Q)] Tryz.func64
def Nk:=λa w Q=>bB (nA a w Q) (cond a.isNone (Q none 0 0 w) (wA a λb=>bg (b.add 3) w λc=>y_ c w λd e f w=>Q d e f w)) (ok 10) [] [] Tryz.func33
def CJ (Q:Bool->WP)(R6:Int->Int->Int->ON->L3 (Int->Int->WP))(a b c:Int)(d:ON)(e:OA)(f g:Nat)(i j:Int)(w:World):Prop:=cond (decide (j<i)) (aJ j f<|wA e λl=>af .i64 ((l.add (j.toNat*3)).add 0) w λm=>af .i64 ((l.add (j.toNat*3)).add 1) w λn=>af .i64 ((l.add (j.toNat*3)).add 2) w λo=>Al T 43 w λp w=>St (p.add 0) (ae m) w λw=>St (p.add 1) (ae n) w λw=>St (p.add 2) (ae o) w λw=>af .i64 p w λq=>cond (decide (q<=c)) (Q false w) (af .i64 (p.add 1) w λr=>d_ a b r w λs w=>cond (decide (s<0)) (Q false w) (af .i64 (p.add 2) w λt=>d_ a b t w λu w=>cond (decide (u<0)) (Q false w) (af .i64 (p.add 1) w λv=>aN P (Instr.lookup 258 (.map d) (ae v) false) w λx w=>dB x λy=>cond y (Q false w) (af .i64 (p.add 1) w.drew λz=>af .i64 p w.drew λa1=>w.drew.cell? (p.add 1)=some (ae z)/\bG P (Instr.mapUpdate 258 (.map d) (ae z) (.bool true)) w.drew λw=>R6 a b a1 d e f g i (IntKind.wrap .i64 (j+1)) w))))) (Q true w)
def GO (Q:Bool->WP):Nat->Int->Int->Int->ON->L3 (Int->Int->WP)
 |0,_,_,_,_,_,_,_,_,_,_=>False
 |k+1,a,b,c,d,e,f,g,i,j,w=>CJ Q (GO Q k) a b c d e f g i j w
noncomputable def T3:cz:=[(10,sp 0 5 (.op 5 (.op 6 .done)))]
def aiF (Q):∀k,Bk 56 Tryz.f151 (VP Q) 6 [(0,.i .i64),(1,.i .i64),(7,.i .i64),(8,.m),(18,.l),(19,.i .i64),(20,.i .i64)] (GO Q k):=bL λk h=>aU (ok 56) T3 [aO h]
def aeg:=λa b c d e w Q=>bB (Db a b c d e w Q) (lT a b w λf w=>cond (!f) (Q false w) (cB P 258 (some (ae (d:Int))) w λg w=>∃k',GO Q k' a b (-1) g c d e (d:Int) 0 w)) (ok 56) T3 [cq (aiF Q)] Tryz.func151
def zJ (Q:L3 WP)(R4:L3 (ON->L3 (Int->Int->WP)))(a:OA)(b c:Nat)(d:ON)(e:OA)(f g:Nat)(i j:Int)(w:World):Prop:=cond (decide (j<i)) (aJ j f<|wA e λl=>af .i64 ((l.add (j.toNat*3)).add 0) w λm=>af .i64 ((l.add (j.toNat*3)).add 1) w λn=>af .i64 ((l.add (j.toNat*3)).add 2) w λo=>Al T 43 w λp w=>St (p.add 0) (ae m) w λw=>St (p.add 1) (ae n) w λw=>St (p.add 2) (ae o) w λw=>af .i64 (p.add 2) w λq=>aN P (Instr.lookup 258 (.map d) (ae q) false) w λr w=>dB r λs=>cond (!s) (af .i64 (p.add 2) w λt=>bG P (Instr.mapUpdate 258 (.map d) (ae t) (.bool true)) w λw=>af .i64 (p.add 2) w λu=>Bx [ae u] 3 w λv w=>App P #[29,29] 29 (.slice a b c) (.slice (some v) 1 1) w λx y z w=>R4 x y z d e f g i (IntKind.wrap .i64 (j+1)) w) (R4 a b c d e f g i (IntKind.wrap .i64 (j+1)) w)) (Q a b c w)
def Dv (Q:L3 WP):Nat->L3 (ON->L3 (Int->Int->WP))
 |0,_,_,_,_,_,_,_,_,_,_=>False
 |k+1,a,b,c,d,e,f,g,i,j,w=>zJ Q (Dv Q k) a b c d e f g i j w
def aeh (Q):∀k,Bk 29 Tryz.f152 (Qc Q) 4 [(3,.l),(4,.m),(8,.l),(9,.i .i64),(10,.i .i64)] (Dv Q k):=bL λk h=>aU (ok 29) [] [aO h]
def aak:=λa b c w Q=>bB (Fi a b c w Q) (cB P 258 none w λd w=>∃k',Dv Q k' none 0 0 d a b c (b:Int) 0 w) (ok 29) [] [cq (aeh Q)] Tryz.func152
def pY (P6:Int->Int->L3 (ON->ON->L3 (Int->Int->WP)))(Q:L3 WP)(a b:Int)(c:OA)(d e:Nat)(f g:ON)(i:Addr)(j:Int)(l:OA)(m n:Nat)(o p:Int)(w:World):Prop:=af .i64 (i.add 2) w λq=>aN P (Instr.lookup 252 (.map f) (ae q) false) w λr w=>dS r λs t u=>aJ j t<|wA s λv=>aA ((v.add (j.toNat*3)).add 2) w.drew λx y z=>af .i64 i w.drew λa1=>Bx [ae a1] 3 w.drew λb1 w=>w.cell? ((v.add (j.toNat*3)).add 2)=some (.slice x y z)/\App P #[29,29] 29 (.slice x y z) (.slice (some b1) 1 1) w λc1 d1 e1 w=>St ((v.add (j.toNat*3)).add 2) (.slice c1 d1 e1) w λw=>P6 a b c d e f g l m n o (IntKind.wrap .i64 (p+1)) w
def xN (Q:L3 WP)(R20:ON->L3 (L3 (Int->Int->WP)))(a:ON)(b:OA)(c d:Nat)(e:OA)(f g:Nat)(i j:Int)(w:World):Prop:=cond (decide (j<i)) (aJ j f<|wA e λl=>af .i64 (l.add (j.toNat*1)) w λm=>aN P (Instr.lookup 252 (.map a) (ae m) false) w λn w=>dS n λo p q=>App P #[208,208] 208 (.slice b c d) (.slice o p q) w λr s t w=>R20 a r s t e f g i (IntKind.wrap .i64 (j+1)) w) (Q b c d w)
def BQ (Q:L3 WP):Nat->ON->L3 (L3 (Int->Int->WP))
 |0,_,_,_,_,_,_,_,_,_,_=>False
 |k+1,a,b,c,d,e,f,g,i,j,w=>xN Q (BQ Q k) a b c d e f g i j w
def zK (Q:L3 WP)(R6:Int->Int->L3 (ON->ON->L3 (Int->Int->WP)))(a b:Int)(c:OA)(d e:Nat)(f g:ON)(i:OA)(j l:Nat)(m n:Int)(w:World):Prop:=cond (decide (n<m)) (aJ n j<|wA i λo=>af .i64 ((o.add (n.toNat*3)).add 0) w λp=>af .i64 ((o.add (n.toNat*3)).add 1) w λq=>af .i64 ((o.add (n.toNat*3)).add 2) w λr=>Al T 43 w λs w=>St (s.add 0) (ae p) w λw=>St (s.add 1) (ae q) w λw=>St (s.add 2) (ae r) w λw=>af .i64 (s.add 1) w λt=>d_ a b t w λu w=>af .i64 (s.add 2) w λv=>Al T 253 w λx w=>St (x.add 0) (ae v) w λw=>St (x.add 1) (ae u) w λw=>af .i64 (x.add 0) w λy=>af .i64 (x.add 1) w λz=>aN P (Instr.lookup 180 (.map g) (.agg #[ae y,ae z]) true) w λa1 w=>dT a1 λb1=>dJ b1 λc1 d1=>dI .i64 c1 λe1=>dJ d1 λf1 g1=>dB f1 λi1=>kU g1<|cond (!i1) (af .i64 (s.add 2) w λj1=>aN P (Instr.lookup 252 (.map f) (ae j1) false) w λl1 w=>dS l1 λm1 n1 o1=>af .i64 (x.add 0) w λp1=>af .i64 (x.add 1) w λq1=>bG P (Instr.mapUpdate 180 (.map g) (.agg #[ae p1,ae q1]) (ae (n1:Int))) w λw=>af .i64 (s.add 2) w.drew λr1=>af .i64 (s.add 2) w.drew λs1=>af .i64 (s.add 2) w.drew λt1=>(aN P (Instr.lookup 252 (.map f) (ae s1) false) w.drew λu1 w=>dS u1 λv1 x1 y1=>w.cell? (s.add 2)=some (ae t1)/\w.cell? (s.add 2)=some (ae r1)/\Bx [ae t1,ae u,.slice none 0 0] 211 w λz1 w=>w.cell? (s.add 2)=some (ae s1)/\w.cell? (s.add 2)=some (ae r1)/\App P #[208,208] 208 (.slice v1 x1 y1) (.slice (some z1) 1 1) w λa2 b2 c2 w=>w.cell? (s.add 2)=some (ae r1)/\bG P (Instr.mapUpdate 252 (.map f) (ae r1) (.slice a2 b2 c2)) w λw=>pY R6 Q a b c d e f g s (n1:Int) i j l m n w)/\(Bx [ae t1,ae u,.slice none 0 0] 211 w.drew λd2 w=>w.cell? (s.add 2)=some (ae s1)/\w.cell? (s.add 2)=some (ae r1)/\aN P (Instr.lookup 252 (.map f) (ae s1) false) w λe2 w=>dS e2 λf2 g2 i2=>w.cell? (s.add 2)=some (ae t1)/\w.cell? (s.add 2)=some (ae r1)/\App P #[208,208] 208 (.slice f2 g2 i2) (.slice (some d2) 1 1) w λj2 l2 m2 w=>w.cell? (s.add 2)=some (ae r1)/\bG P (Instr.mapUpdate 252 (.map f) (ae r1) (.slice j2 l2 m2)) w λw=>pY R6 Q a b c d e f g s (n1:Int) i j l m n w)) (pY R6 Q a b c d e f g s e1 i j l m n w)) (Fi c d e w λn2 o2 p2 w=>∃k',BQ Q k' f none 0 0 n2 o2 p2 (o2:Int) 0 w)
def zL (Q:L3 WP):Nat->Int->Int->L3 (ON->ON->L3 (Int->Int->WP))
 |0,_,_,_,_,_,_,_,_,_,_,_,_,_=>False
 |k+1,a,b,c,d,e,f,g,i,j,l,m,n,w=>zK Q (zL Q k) a b c d e f g i j l m n w
noncomputable def BR:cz:=[(14,sp 0 6 (sp 7 4 (.br (.op 6 (.op 11 (.op 12 (.op 13 .done)))) (.op 11 (.op 6 (.op 12 (.op 13 .done))))))),(16,sp 0 7 (.op 7 (.op 8 (sp 9 2 (.op 11 .done)))))]
def ab5 {P6}(Q)(H6:Bk 102 Tryz.f133 (zj Q) 6 [(0,.i .i64),(1,.i .i64),(2,.l),(7,.m),(8,.m),(26,.l),(27,.i .i64),(28,.i .i64)] P6):Bk 102 Tryz.f133 (zj Q) 15 [(0,.i .i64),(1,.i .i64),(2,.l),(7,.m),(8,.m),(10,.a),(13,.i .i64),(26,.l),(27,.i .i64),(28,.i .i64)] (pY P6 Q):=aU (ok 102) BR [aO H6]
def ab6 (Q):∀k,Bk 102 Tryz.f133 (zj Q) 20 [(7,.m),(16,.l),(89,.l),(90,.i .i64),(91,.i .i64)] (BQ Q k):=bL λk h=>aU (ok 102) BR [aO h]
def aei (Q):∀k,Bk 102 Tryz.f133 (zj Q) 6 [(0,.i .i64),(1,.i .i64),(2,.l),(7,.m),(8,.m),(26,.l),(27,.i .i64),(28,.i .i64)] (zL Q k):=bL λk h=>aU (ok 102) BR [aO (ab5 Q h),cq (ab6 Q)]
def aal:=λa b c d e w Q=>bB (Fg a b c d e w Q) (Db a b c d e w λf w=>cond (!f) (Q none 0 0 w) (cB P 252 none w λg w=>cB P 180 none w λi w=>∃k',zL Q k' a b c d e g i c d e (d:Int) 0 w)) (ok 102) BR [cq (aei Q)] Tryz.func133
noncomputable def Wr:cz:=[(2,sp 0 2 (.op 2 (.op 3 (.op 4 .done))))]
def Vc:=λa b c w Q=>bB (vY a b c w Q) (Al T 213 w λd w=>vZ a b c w λe f g i j l m w=>Al T 213 w λn w=>St (n.add 0) (.slice e f g) w λw=>St (n.add 1) (.slice i j l) w λw=>aA (n.add 0) w.drew λo p q=>aA (n.add 1) w.drew λr s t=>zi m w.drew λu w=>w.cell? (n.add 0)=some (.slice o p q)/\w.cell? (n.add 1)=some (.slice r s t)/\St (d.add 0) (.slice o p q) w λw=>St (d.add 1) (.slice r s t) w λw=>aA (d.add 0) w λv x y=>aA (d.add 1) w λz a1 b1=>Q v x y z a1 b1 u w) (ok 20) Wr [] Tryz.func134
def oO (vw:OA->L3 (ON->ON->L3 (Int->Int->WP)))(Q:L3 (Value->WP))(R16:OA->L3 (ON->ON->Addr->L3 (Int->Int->L3 (Int->Int->WP))))(a b:OA)(c d:Nat)(e f:ON)(g:Addr)(i:OA)(j l:Nat)(m n:Int)(o:OA)(p q:Nat)(r s:Int)(w:World):Prop:=cond (decide (s<r)) (aJ s p<|wA o λt=>af .i64 (t.add (s.toNat*1)) w λu=>aA (g.add 1) w λv x y=>aN P (Instr.lookup 207 (.map e) (ae u) false) w λz w=>dI .i64 z λa1=>aJ a1 x<|wA v λb1=>af .i64 (b1.add (a1.toNat*1)) w λc1=>bG P (Instr.mapUpdate 207 (.map f) (ae u) (ae c1)) w λw=>R16 a b c d e f g i j l m n o p q r (IntKind.wrap .i64 (s+1)) w) (vw a b c d e f i j l m (IntKind.wrap .i64 (n+1)) w)
def sV (vw:OA->L3 (ON->ON->L3 (Int->Int->WP)))(Q:L3 (Value->WP)):Nat->OA->L3 (ON->ON->Addr->L3 (Int->Int->L3 (Int->Int->WP)))
 |0,_,_,_,_,_,_,_,_,_,_,_,_,_,_,_,_,_,_=>False
 |k+1,a,b,c,d,e,f,g,i,j,l,m,n,o,p,q,r,s,w=>oO vw Q (sV vw Q k) a b c d e f g i j l m n o p q r s w
def oP (vw:OA->L3 (ON->ON->L3 (Int->Int->WP)))(Q:L3 (Value->WP))(a b:OA)(c d:Nat)(e f:ON)(g i:Addr)(j:Int)(l:OA)(m n:Nat)(o p:Int)(w:World):Prop:=cond (j !=0) (Q none 0 0 (.iface 108 (ae j)) w) (aA (g.add 2) w λq r s=>∃k',sV vw Q k' a b c d e f i l m n o p q r s (r:Int) 0 w)
def oQ (Q:L3 (Value->WP))(R23:ON->L3 (L3 (Int->Int->WP)))(a:ON)(b:OA)(c d:Nat)(e:OA)(f g:Nat)(i j:Int)(w:World):Prop:=cond (decide (j<i)) (aJ j f<|wA e λl=>af .i64 ((l.add (j.toNat*3)).add 0) w λm=>af .i64 ((l.add (j.toNat*3)).add 1) w λn=>af .i64 ((l.add (j.toNat*3)).add 2) w λo=>Al T 43 w λp w=>St (p.add 0) (ae m) w λw=>St (p.add 1) (ae n) w λw=>St (p.add 2) (ae o) w λw=>af .i64 p w λq=>aN P (Instr.lookup 207 (.map a) (ae q) false) w λr w=>dI .i64 r λs=>Bx [ae s] 3 w λt w=>App P #[29,29] 29 (.slice b c d) (.slice (some t) 1 1) w λu v x w=>R23 a u v x e f g i (IntKind.wrap .i64 (j+1)) w) (Q b c d (.nilIface) w)
def sW (Q:L3 (Value->WP)):Nat->ON->L3 (L3 (Int->Int->WP))
 |0,_,_,_,_,_,_,_,_,_,_=>False
 |k+1,a,b,c,d,e,f,g,i,j,w=>oQ Q (sW Q k) a b c d e f g i j w
def oR (Q:L3 (Value->WP))(R10:OA->L3 (ON->ON->L3 (Int->Int->WP)))(a b:OA)(c d:Nat)(e f:ON)(g:OA)(i j:Nat)(l m:Int)(w:World):Prop:=cond (decide (m<l)) (aJ m i<|wA g λn=>af .i64 ((n.add (m.toNat*3)).add 0) w λo=>af .i64 ((n.add (m.toNat*3)).add 1) w λp=>aA ((n.add (m.toNat*3)).add 2) w λq r s=>Al T 211 w λt w=>St (t.add 0) (ae o) w λw=>St (t.add 1) (ae p) w λw=>St (t.add 2) (.slice q r s) w λw=>wA a λu=>bg (u.add 1) w.drew λv=>af .i64 t w.drew λx=>af .i64 (t.add 1) w.drew λy=>(vY v x y w.drew λz a1 b1 c1 d1 e1 f1 w=>Al T 213 w λg1 w=>w.cell? (t.add 1)=some (ae y)/\w.cell? t=some (ae x)/\w.cell? (u.add 1)=some (.pointer v)/\St (g1.add 0) (.slice z a1 b1) w λw=>St (g1.add 1) (.slice c1 d1 e1) w λw=>oP R10 Q a b c d e f t g1 f1 g i j l m w)/\(Al T 213 w.drew λi1 w=>w.cell? (t.add 1)=some (ae y)/\w.cell? t=some (ae x)/\w.cell? (u.add 1)=some (.pointer v)/\vY v x y w λj1 l1 m1 n1 o1 p1 q1 w=>St (i1.add 0) (.slice j1 l1 m1) w λw=>St (i1.add 1) (.slice n1 o1 p1) w λw=>oP R10 Q a b c d e f t i1 q1 g i j l m w)) (∃k',sW Q k' f none 0 0 b c d (c:Int) 0 w)
def oS (Q:L3 (Value->WP)):Nat->OA->L3 (ON->ON->L3 (Int->Int->WP))
 |0,_,_,_,_,_,_,_,_,_,_,_,_=>False
 |k+1,a,b,c,d,e,f,g,i,j,l,m,w=>oR Q (oS Q k) a b c d e f g i j l m w
def pZ (Q:L3 (Value->WP))(R4:OA->L3 (Int->Int->ON->L3 (Int->Int->WP)))(a b:OA)(c d:Nat)(e f:Int)(g:ON)(i:OA)(j l:Nat)(m n:Int)(w:World):Prop:=cond (decide (n<m)) (aJ n j<|wA i λo=>af .i64 ((o.add (n.toNat*3)).add 0) w λp=>af .i64 ((o.add (n.toNat*3)).add 1) w λq=>af .i64 ((o.add (n.toNat*3)).add 2) w λr=>Al T 43 w λs w=>St (s.add 0) (ae p) w λw=>St (s.add 1) (ae q) w λw=>St (s.add 2) (ae r) w λw=>af .i64 s w.drew λt=>af .i64 (s.add 1) w.drew λu=>nJ e f u w.drew λv w=>w.cell? s=some (ae t)/\bG P (Instr.mapUpdate 207 (.map g) (ae t) (ae v)) w λw=>R4 a b c d e f g i j l m (IntKind.wrap .i64 (n+1)) w) (cB P 207 none w λx w=>Fg e f b c d w λy z a1 w=>∃k',oS Q k' a b c d g x y z a1 (z:Int) 0 w)
def uP (Q:L3 (Value->WP)):Nat->OA->L3 (Int->Int->ON->L3 (Int->Int->WP))
 |0,_,_,_,_,_,_,_,_,_,_,_,_,_=>False
 |k+1,a,b,c,d,e,f,g,i,j,l,m,n,w=>pZ Q (uP Q k) a b c d e f g i j l m n w
noncomputable def mA:cz:=[(6,sp 0 7 (.op 7 (.op 8 .done))),(12,sp 0 8 (.br (.op 8 (sp 9 3 (.op 12 (.op 13 (.op 14 .done))))) (.op 12 (.op 8 (sp 9 3 (.op 13 (.op 14 .done)))))))]
def QZ {vw}(Q)(H10:Bk 104 Tryz.f93 (jm Q) 10 [(0,.p),(1,.l),(8,.m),(11,.m),(49,.l),(50,.i .i64),(51,.i .i64)] vw):∀k,Bk 104 Tryz.f93 (jm Q) 16 [(0,.p),(1,.l),(8,.m),(11,.m),(14,.a),(49,.l),(50,.i .i64),(51,.i .i64),(72,.l),(73,.i .i64),(74,.i .i64)] (sV vw Q k):=bL λk h=>aU (ok 104) mA [aO H10,aO h]
def Q0 {vw}(Q)(H10:Bk 104 Tryz.f93 (jm Q) 10 [(0,.p),(1,.l),(8,.m),(11,.m),(49,.l),(50,.i .i64),(51,.i .i64)] vw):Bk 104 Tryz.f93 (jm Q) 13 [(0,.p),(1,.l),(8,.m),(11,.m),(13,.a),(14,.a),(15,.i .i64),(49,.l),(50,.i .i64),(51,.i .i64)] (oP vw Q):=aU (ok 104) mA [cq (QZ Q H10)]
def Q1 (Q):∀k,Bk 104 Tryz.f93 (jm Q) 23 [(11,.m),(18,.l),(89,.l),(90,.i .i64),(91,.i .i64)] (sW Q k):=bL λk h=>aU (ok 104) mA [aO h]
def Q2 (Q):∀k,Bk 104 Tryz.f93 (jm Q) 10 [(0,.p),(1,.l),(8,.m),(11,.m),(49,.l),(50,.i .i64),(51,.i .i64)] (oS Q k):=bL λk h=>aU (ok 104) mA [aO (Q0 Q h),cq (Q1 Q)]
def S1 (Q):∀k,Bk 104 Tryz.f93 (jm Q) 4 [(0,.p),(1,.l),(6,.i .i64),(7,.i .i64),(8,.m),(30,.l),(31,.i .i64),(32,.i .i64)] (uP Q k):=bL λk h=>aU (ok 104) mA [aO h,cq (Q2 Q)]
def O8:=λa b c d w Q=>bB (yj a b c d w Q) (wA a λe=>bg (e.add 1) w λf=>xw f w λg i w=>cB P 207 none w λj w=>∃k',uP Q k' a b c d g i j b c d (c:Int) 0 w) (ok 104) mA [cq (S1 Q)] Tryz.func93
def aam:=λa w Q=>bB (LH a w Q) (cond (decide (a<0)) (Q true w) (Q (decide (a>5)) w)) (ok 9) [] [] Tryz.func153
def jY (Q:Int->WP)(R2:L3 (Value->Int->Int->WP))(a:OA)(b c:Nat)(d:Value)(e f:Int)(w:World):Prop:=cond (decide (f<e)) (aJ f b<|wA a λg=>af .i64 (g.add (f.toNat*1)) w λi=>iw (cx 19) d [ae i] w λj w=>dB j λl=>cond l (Q f w) (R2 a b c d e (IntKind.wrap .i64 (f+1)) w)) (Q (-1) w)
def jZ (Q:Int->WP):Nat->L3 (Value->Int->Int->WP)
 |0,_,_,_,_,_,_,_=>False
 |k+1,a,b,c,d,e,f,w=>jY Q (jZ Q k) a b c d e f w
def It (Q):∀k,Bk 19 Tryz.f166 (zm Q) 2 [(0,.l),(1,.v),(7,.i .i64),(8,.i .i64)] (jZ Q k):=bL λk h=>aU (ok 19) [] [aO h]
def GP:=λa b c d w Q=>bB (xz a b c d w Q) (∃k',jZ Q k' a b c d (b:Int) 0 w) (ok 19) [] [cq (It Q)] Tryz.func166
def ED:=λa b c d w Q=>bB (nX a b c d w Q) (xz a b c d w λe w=>Q (decide (e≥0)) w) (ok 9) [] [] Tryz.func154
def kP (Q:Bool->WP)(a b:OA)(c:Int)(w:World):Prop:=wA a λd=>af .i64 d w.drew λe=>wA a λf=>af .i64 (f.add 1) w.drew λg=>wA b λi=>af .i64 (i.add 1) w.drew λj=>mF e g j c w.drew λl w=>cond (decide (l<0)) (Q true w) (wA a λm=>cy (m.add 2) w λn=>aN P (Instr.lookup 258 (.map n) (ae l) false) w λo w=>dB o λp=>cond p (Q true w) (wA a λq=>cy (q.add 2) w.drew λr=>wA b λs=>af .i64 (s.add 1) w.drew λt=>aN P (Builtin.delete_ #[258,3] 0 [.map r,ae t].toArray) w.drew λu w=>wA b λv=>St (v.add 1) (ae l) w λw=>wA a λx=>aA (x.add 3) w.drew λy z a1=>wA b λb1=>af .i64 b1 w.drew λc1=>Bx [ae c1,ae l] 51 w.drew λd1 w=>w.cell? (x.add 3)=some (.slice y z a1)/\App P #[28,28] 28 (.slice y z a1) (.slice (some d1) 1 1) w λe1 f1 g1 w=>wA a λi1=>St (i1.add 3) (.slice e1 f1 g1) w λw=>wA b λj1=>af .i64 (j1.add 2) w λl1=>cond (l==l1) (wA a λm1=>aA (m1.add 4) w.drew λn1 o1 p1=>wA b λq1=>af .i64 q1 w.drew λr1=>Bx [ae r1] 3 w.drew λs1 w=>w.cell? (m1.add 4)=some (.slice n1 o1 p1)/\App P #[29,29] 29 (.slice n1 o1 p1) (.slice (some s1) 1 1) w λt1 u1 v1 w=>wA a λx1=>St (x1.add 4) (.slice t1 u1 v1) w λw=>Q false w) (wA a λy1=>cy (y1.add 2) w λz1=>bG P (Instr.mapUpdate 258 (.map z1) (ae l) (.bool true)) w λw=>Q true w)))
noncomputable def F1:cz:=[(6,sp 0 13 (.op 13 (.op 14 .done))),(9,sp 0 8 (.op 8 .done)),(11,sp 0 11 (.op 11 (.op 12 (sp 13 2 (.op 15 .done))))),(13,sp 0 9 (.op 9 (.op 10 (sp 11 2 (.op 13 .done)))))]
def S2 (Q):Bk 92 Tryz.f155 (GF Q) 6 [(0,.p),(1,.p),(2,.i .i64)] (kP Q):=aU (ok 92) F1 []
def O9:=λa b c w Q=>bB (yo a b c w Q) (cond (c==0) (kP Q a b c w) (cond (c==1) (kP Q a b c w) (cond (c==2) (kP Q a b c w) (cond (c==3) (kP Q a b c w) (Q true w))))) (ok 92) F1 [aO (S2 Q)] Tryz.func155
def Bf (Q:L3 (L3 (L3 (Int->WP))))(R11:L3 (L3 (Addr->L3 (Int->Int->WP))))(a:OA)(b c:Nat)(d:OA)(e f:Nat)(g:Addr)(i:OA)(j l:Nat)(m n:Int)(w:World):Prop:=cond (decide (n<m)) (aJ n j<|wA i λo=>af .i64 ((o.add (n.toNat*3)).add 0) w λp=>af .i64 ((o.add (n.toNat*3)).add 1) w λq=>af .i64 ((o.add (n.toNat*3)).add 2) w λr=>Al T 43 w λs w=>St (s.add 0) (ae p) w λw=>St (s.add 1) (ae q) w λw=>St (s.add 2) (ae r) w λw=>aJ n b<|wA a λt=>af .i64 (t.add (n.toNat*1)) w λu=>yo (some g) (some s) u w λv w=>cond v (af .i64 (s.add 0) w λx=>af .i64 (s.add 1) w λy=>af .i64 (s.add 2) w λz=>Bx [ae x,ae y,ae z] 43 w λa1 w=>App P #[39,39] 39 (.slice d e f) (.slice (some a1) 1 1) w λb1 c1 d1 w=>R11 a b c b1 c1 d1 g i j l m (IntKind.wrap .i64 (n+1)) w) (R11 a b c d e f g i j l m (IntKind.wrap .i64 (n+1)) w)) (aA (g.add 3) w.drew λe1 f1 g1=>aA (g.add 4) w.drew λi1 j1 l1=>w.drew.cell? (g.add 4)=some (.slice i1 j1 l1)/\w.drew.cell? (g.add 3)=some (.slice e1 f1 g1)/\w.drew.cell? (g.add 4)=some (.slice i1 j1 l1)/\Q d e f e1 f1 g1 i1 j1 l1 0 w.drew)
def EY (Q:L3 (L3 (L3 (Int->WP)))):Nat->L3 (L3 (Addr->L3 (Int->Int->WP)))
 |0,_,_,_,_,_,_,_,_,_,_,_,_,_=>False
 |k+1,a,b,c,d,e,f,g,i,j,l,m,n,w=>Bf Q (EY Q k) a b c d e f g i j l m n w
def CK (Q:L3 (L3 (L3 (Int->WP))))(R6:L3 (L3 (L3 (Addr->L3 (Int->Int->WP)))))(a:OA)(b c:Nat)(d:OA)(e f:Nat)(g:OA)(i j:Nat)(l:Addr)(m:OA)(n o:Nat)(p q:Int)(w:World):Prop:=cond (decide (q<p)) (aJ q n<|wA m λr=>af .i64 ((r.add (q.toNat*3)).add 0) w λs=>af .i64 ((r.add (q.toNat*3)).add 1) w λt=>af .i64 ((r.add (q.toNat*3)).add 2) w λu=>Al T 43 w λv w=>St (v.add 0) (ae s) w λw=>St (v.add 1) (ae t) w λw=>St (v.add 2) (ae u) w λw=>cy (l.add 2) w.drew λx=>af .i64 (v.add 1) w.drew λy=>bG P (Instr.mapUpdate 258 (.map x) (ae y) (.bool true)) w.drew λw=>R6 a b c d e f g i j l m n o p (IntKind.wrap .i64 (q+1)) w) (∃k',EY Q k' d e f g i j l a b c (b:Int) 0 w)
def GQ (Q:L3 (L3 (L3 (Int->WP)))):Nat->L3 (L3 (L3 (Addr->L3 (Int->Int->WP))))
 |0,_,_,_,_,_,_,_,_,_,_,_,_,_,_,_,_=>False
 |k+1,a,b,c,d,e,f,g,i,j,l,m,n,o,p,q,w=>CK Q (GQ Q k) a b c d e f g i j l m n o p q w
noncomputable def Kb:cz:=[(8,sp 0 6 (.op 6 .done)),(16,sp 0 9 (.op 9 (.op 10 (.op 11 (.op 12 .done)))))]
def ag8 (Q):∀k,Bk 82 Tryz.f135 (LG Q) 11 [(3,.l),(8,.l),(13,.a),(55,.l),(56,.i .i64),(57,.i .i64)] (EY Q k):=bL λk h=>aU (ok 82) Kb [aO h]
def aiG (Q):∀k,Bk 82 Tryz.f135 (LG Q) 6 [(2,.l),(3,.l),(8,.l),(13,.a),(42,.l),(43,.i .i64),(44,.i .i64)] (GQ Q k):=bL λk h=>aU (ok 82) Kb [aO h,cq (ag8 Q)]
def aej:=λa b c d e f g i w Q=>bB (Ih a b c d e f g i w Q) (Db a b c d e w λj w=>cond (!j) (Q none 0 0 none 0 0 none 0 0 1 w) (cond ((g:Int) !=(d:Int)) (Q none 0 0 none 0 0 none 0 0 1 w) (nX f g i (.func (.func 153) #[] #[]) w λl w=>cond l (Q none 0 0 none 0 0 none 0 0 1 w) (cB P 258 (some (ae (d:Int))) w λm w=>Bx [ae a,ae b,.map m,.slice none 0 0,.slice none 0 0] 260 w λn w=>∃k',GQ Q k' c d e f g i none 0 0 n c d e (d:Int) 0 w)))) (ok 82) Kb [cq (aiG Q)] Tryz.func135
def Nl:=λa b c w Q=>bB (wS a b c w Q) (mu a b w λd w=>cond (d==(-1)) (Q false w) (rM a c w λe w=>cond (!e) (Q false w) (rL a b w λf w=>sI a c f w λg w=>Q g w))) (ok 23) [] [] Tryz.func136
def L0:=λa b w Q=>bB (Co a b w Q) (wA b λc=>af .i64 c w λd=>wA a λe=>St (e.add 1) (ae d) w λw=>Q w) (ok 7) [] [] Tryz.func156
def O_:=λa b c w Q=>bB (yn a b c w Q) (Bx [ae c] 3 w λd w=>sJ a b (.func (.func 156) #[] #[.pointer (some d)]) w λe w=>Q e w) (ok 11) [] [] Tryz.func137
def mB (P7:OA->L3 (L3 (L3 (Int->Int->WP))))(Q:L3 (L3 (Int->WP)))(a b:OA)(c d:Nat)(e:OA)(f g:Nat)(i j:Addr)(l:OA)(m n:Nat)(o p:Int)(w:World):Prop:=af .i64 (i.add 1) w λq=>af .i64 (j.add 2) w λr=>cond (q==r) (af .i64 (j.add 0) w λs=>af .i64 (j.add 1) w λt=>af .i64 (j.add 2) w λu=>nW a s t u w λw=>P7 a b c d e f g l m n o (IntKind.wrap .i64 (p+1)) w) (wA a λv=>bg (v.add 4) w.drew λx=>af .i64 (j.add 1) w.drew λy=>af .i64 (i.add 1) w.drew λz=>wS x y z w.drew λa1 w=>wA a λb1=>bg (b1.add 3) w.drew λc1=>af .i64 i w.drew λd1=>af .i64 (i.add 1) w.drew λe1=>yn c1 d1 e1 w.drew λf1 w=>P7 a b c d e f g l m n o (IntKind.wrap .i64 (p+1)) w)
def p8 (Q:L3 (L3 (Int->WP)))(R7:OA->L3 (L3 (L3 (Int->Int->WP))))(a b:OA)(c d:Nat)(e:OA)(f g:Nat)(i:OA)(j l:Nat)(m n:Int)(w:World):Prop:=cond (decide (n<m)) (aJ n j<|wA i λo=>af .i64 ((o.add (n.toNat*2)).add 0) w λp=>af .i64 ((o.add (n.toNat*2)).add 1) w λq=>Al T 51 w λr w=>St (r.add 0) (ae p) w λw=>St (r.add 1) (ae q) w λw=>wA a λs=>bg (s.add 3) w.drew λt=>af .i64 r w.drew λu=>(iU t u w.drew λv x y z w=>Al T 43 w λa1 w=>w.cell? r=some (ae u)/\w.cell? (s.add 3)=some (.pointer t)/\St (a1.add 0) (ae v) w λw=>St (a1.add 1) (ae x) w λw=>St (a1.add 2) (ae y) w λw=>mB R7 Q a b c d e f g r a1 i j l m n w)/\(Al T 43 w.drew λb1 w=>w.cell? r=some (ae u)/\w.cell? (s.add 3)=some (.pointer t)/\iU t u w λc1 d1 e1 f1 w=>St (b1.add 0) (ae c1) w λw=>St (b1.add 1) (ae d1) w λw=>St (b1.add 2) (ae e1) w λw=>mB R7 Q a b c d e f g r b1 i j l m n w)) (Q b c d e f g 0 w)
def p9 (Q:L3 (L3 (Int->WP))):Nat->OA->L3 (L3 (L3 (Int->Int->WP)))
 |0,_,_,_,_,_,_,_,_,_,_,_,_,_=>False
 |k+1,a,b,c,d,e,f,g,i,j,l,m,n,w=>p8 Q (p9 Q k) a b c d e f g i j l m n w
noncomputable def zM:cz:=[(3,sp 0 9 (.op 10 (.op 9 (.op 11 (sp 12 5 (.op 17 (.op 18 (.op 19 .done)))))))),(9,sp 0 6 (.br (.op 6 (sp 7 3 (.op 10 (.op 11 (.op 12 .done))))) (.op 10 (.op 6 (sp 7 3 (.op 11 (.op 12 .done))))))),(12,sp 0 8 (.op 8 .done)),(13,sp 0 8 (.op 8 .done))]
def Q3 {P7}(Q)(H7:Bk 78 Tryz.f94 (uy Q) 7 [(0,.p),(4,.l),(5,.l),(33,.l),(34,.i .i64),(35,.i .i64)] P7):Bk 78 Tryz.f94 (uy Q) 10 [(0,.p),(4,.l),(5,.l),(8,.a),(9,.a),(33,.l),(34,.i .i64),(35,.i .i64)] (mB P7 Q):=aU (ok 78) zM [aO H7]
def S3 (Q):∀k,Bk 78 Tryz.f94 (uy Q) 7 [(0,.p),(4,.l),(5,.l),(33,.l),(34,.i .i64),(35,.i .i64)] (p9 Q k):=bL λk h=>aU (ok 78) zM [aO (Q3 Q h)]
def Pa:=λa b c d w Q=>bB (yl a b c d w Q) (cond a.isNone (Q none 0 0 none 0 0 1 w) (wA a λe=>af .i64 e w.drew λf=>wA a λg=>af .i64 (g.add 1) w.drew λi=>nA a w.drew λj l m w=>w.cell? (g.add 1)=some (ae i)/\w.cell? e=some (ae f)/\Ih f i j l m b c d w λn o p q r s t u v x w=>cond (x !=0) (Q none 0 0 none 0 0 x w) (∃k',p9 Q k' a q r s t u v q r s (r:Int) 0 w))) (ok 78) zM [cq (S3 Q)] Tryz.func94
def Pb:=λa b w Q=>bB (yh a b w Q) (wA a λc=>bg (c.add 2) w λd=>nA d w λe f g w=>yj a e f g w λi j l m w=>Cb m λn=>cond (!n) (dV m λo=>Q o w) (wA a λp=>bg (p.add 2) w λq=>yl q i j l w λr s t u v x y w=>wA b λz=>St (z.add 4) (.slice r s t) w λw=>wA b λa1=>St (a1.add 5) (.slice u v x) w λw=>gw y w λb1 w=>dV b1 λc1=>Q c1 w)) (ok 43) [] [] Tryz.func58
def fF (Q:Value->WP)(a:Value)(w:World):Prop:=dV a λb=>Q b w
def oT (Q:Value->WP)(a b:OA)(c:Addr)(w:World):Prop:=af .i64 (c.add 0) w λd=>af .i64 (c.add 1) w λe=>af .i64 (c.add 2) w λf=>aA (c.add 3) w λg i j=>wM a d e f g i j w λl w=>Cb l λm=>cond (!m) (dV l λn=>Q n w) (af .i64 c w λo=>cond (o==1) (aA (c.add 3) w λp q r=>yf a p q r w λs w=>fF Q s w) (cond (o==8) (wA a λt=>bg (t.add 1) w λu=>vW u w λw=>fF Q l w) (cond (o==2) (af .i64 (c.add 1) w λv=>af .i64 (c.add 2) w λx=>yg a v x w λy w=>fF Q y w) (cond (o==3) (af .i64 (c.add 1) w λz=>af .i64 (c.add 2) w λa1=>wN a z a1 w λb1 c1 w=>wA b λd1=>St (d1.add 3) (ae b1) w λw=>fF Q c1 w) (cond (o==4) (wA a λe1=>bg (e1.add 2) w.drew λf1=>af .i64 (c.add 1) w.drew λg1=>af .i64 (c.add 2) w.drew λi1=>tA f1 g1 i1 w.drew λj1 w=>gw j1 w λl1 w=>fF Q l1 w) (cond (o==5) (wA a λm1=>bg (m1.add 2) w.drew λn1=>af .i64 (c.add 1) w.drew λo1=>uu n1 o1 w.drew λp1 w=>gw p1 w λq1 w=>fF Q q1 w) (cond (o==6) (af .i64 (c.add 1) w λr1=>af .i64 (c.add 2) w λs1=>wO a b r1 s1 w λt1 w=>fF Q t1 w) (cond (o==7) (yh a b w λu1 w=>fF Q u1 w) (fF Q l w)))))))))
noncomputable def BD:cz:=[(18,sp 0 8 (.op 8 (.op 9 (.op 10 .done)))),(20,sp 0 6 (.op 6 (.op 7 (.op 8 .done))))]
def Vd (Q):Bk 114 Tryz.f28 (Cj Q) 25 [(6,.v)] (fF Q):=aU (ok 114) BD []
def Ws (Q):Bk 114 Tryz.f28 (Cj Q) 5 [(0,.p),(2,.p),(4,.a)] (oT Q):=aU (ok 114) BD [aO (Vd Q)]
def S4:=λa b c d e f g i w Q=>bB (Ao a b c d e f g i w Q) (Bx [ae b,ae c,ae d,.slice e f g] 38 w λj w=>af .i64 j w λl=>cond (l==0) (b_ (aZ 0) w λm=>dV m λn=>Q n w) (af .i64 (j.add 0) w λo=>af .i64 (j.add 1) w λp=>af .i64 (j.add 2) w λq=>aA (j.add 3) w λr s t=>LC o p q r s t w λu w=>cond (!u) (b_ (aZ 0) w λv=>dV v λx=>Q x w) (wA a λy=>bg (y.add 2) w λz=>cond z.isNone (af .i64 j w λa1=>cond (a1 !=1) (af .i64 j w λb1=>cond (b1 !=8) (Q (.iface 108 (ae 4)) w) (oT Q a i j w)) (oT Q a i j w)) (oT Q a i j w)))) (ok 114) BD [aO (Ws Q)] Tryz.func28
def aek:=λa w Q=>bB (Da a w Q) (Al T 108 w λb w=>b_ (aZ 0) w λc=>pL a c w λd w=>cond d (Q 5 w) (nM a (.iface 120 (.pointer (some b))) w λe w=>cond e (af .i64 b w λf=>Q f w) (Q 0 w))) (ok 13) [] [] Tryz.func29
def oU (Q:Int->Int->Int->Int->L3 (L3 (Int->Int->Int->Int->Int->Int->WP)))(a:OA)(b c:Addr)(w:World):Prop:=wK a w λd e f g i j w=>St ((c.add 6).add 0) (.int .u64 d) w λw=>St ((c.add 6).add 1) (.int .u64 e) w λw=>St ((c.add 6).add 2) (.int .u64 f) w λw=>St ((c.add 6).add 3) (.int .u64 g) w λw=>St ((c.add 6).add 4) (.int .u64 i) w λw=>St ((c.add 6).add 5) (.int .u64 j) w λw=>af .i64 (c.add 0) w λl=>af .i64 (c.add 1) w λm=>af .i64 (c.add 2) w λn=>af .i64 (c.add 3) w λo=>aA (c.add 4) w λp q r=>aA (c.add 5) w λs t u=>af .u64 (c.add 6) w λv=>af .u64 (c.add 7) w λx=>af .u64 (c.add 8) w λy=>af .u64 (c.add 9) w λz=>af .u64 (c.add 10) w λa1=>af .u64 (c.add 11) w λb1=>St (b.add 0) (ae l) w λw=>St (b.add 1) (ae m) w λw=>St (b.add 2) (ae n) w λw=>St (b.add 3) (ae o) w λw=>St (b.add 4) (.slice p q r) w λw=>St (b.add 5) (.slice s t u) w λw=>St (b.add 6) (.int .u64 v) w λw=>St (b.add 7) (.int .u64 x) w λw=>St (b.add 8) (.int .u64 y) w λw=>St (b.add 9) (.int .u64 z) w λw=>St (b.add 10) (.int .u64 a1) w λw=>St (b.add 11) (.int .u64 b1) w λw=>af .i64 (b.add 0) w λc1=>af .i64 (b.add 1) w λd1=>af .i64 (b.add 2) w λe1=>af .i64 (b.add 3) w λf1=>aA (b.add 4) w λg1 i1 j1=>aA (b.add 5) w λl1 m1 n1=>af .u64 (b.add 6) w λo1=>af .u64 (b.add 7) w λp1=>af .u64 (b.add 8) w λq1=>af .u64 (b.add 9) w λr1=>af .u64 (b.add 10) w λs1=>af .u64 (b.add 11) w λt1=>Q c1 d1 e1 f1 g1 i1 j1 l1 m1 n1 o1 p1 q1 r1 s1 t1 w
def Wt (Q):Bk 29 Tryz.f12 (Ji Q) 8 [(0,.p),(4,.a),(5,.a)] (oU Q):=aU (ok 29) [] []
def S5:=λa b c d e f g w Q=>bB (gC a b c d e f g w Q) (Bx [ae b,ae c,ae d,.slice e f g] 38 w λi w=>Al T 34 w λj w=>Al T 34 w λl w=>St (l.add 0) (ae 5) w λw=>St (l.add 1) (ae 0) w λw=>St (l.add 2) (ae 5) w λw=>St (l.add 3) (ae (-1)) w λw=>St (l.add 4) (.slice none 0 0) w λw=>St (l.add 5) (.slice none 0 0) w λw=>St (l.add 6) (.int .u64 0) w λw=>St (l.add 7) (.int .u64 0) w λw=>St (l.add 8) (.int .u64 0) w λw=>St (l.add 9) (.int .u64 0) w λw=>St (l.add 10) (.int .u64 0) w λw=>St (l.add 11) (.int .u64 0) w λw=>cond a.isNone (af .i64 (l.add 0) w λm=>af .i64 (l.add 1) w λn=>af .i64 (l.add 2) w λo=>af .i64 (l.add 3) w λp=>aA (l.add 4) w λq r s=>aA (l.add 5) w λt u v=>af .u64 (l.add 6) w λx=>af .u64 (l.add 7) w λy=>af .u64 (l.add 8) w λz=>af .u64 (l.add 9) w λa1=>af .u64 (l.add 10) w λb1=>af .u64 (l.add 11) w λc1=>St (j.add 0) (ae m) w λw=>St (j.add 1) (ae n) w λw=>St (j.add 2) (ae o) w λw=>St (j.add 3) (ae p) w λw=>St (j.add 4) (.slice q r s) w λw=>St (j.add 5) (.slice t u v) w λw=>St (j.add 6) (.int .u64 x) w λw=>St (j.add 7) (.int .u64 y) w λw=>St (j.add 8) (.int .u64 z) w λw=>St (j.add 9) (.int .u64 a1) w λw=>St (j.add 10) (.int .u64 b1) w λw=>St (j.add 11) (.int .u64 c1) w λw=>af .i64 (j.add 0) w λd1=>af .i64 (j.add 1) w λe1=>af .i64 (j.add 2) w λf1=>af .i64 (j.add 3) w λg1=>aA (j.add 4) w λi1 j1 l1=>aA (j.add 5) w λm1 n1 o1=>af .u64 (j.add 6) w λp1=>af .u64 (j.add 7) w λq1=>af .u64 (j.add 8) w λr1=>af .u64 (j.add 9) w λs1=>af .u64 (j.add 10) w λt1=>af .u64 (j.add 11) w λu1=>Q d1 e1 f1 g1 i1 j1 l1 m1 n1 o1 p1 q1 r1 s1 t1 u1 w) (St l (ae 0) w λw=>af .i64 (i.add 0) w λv1=>af .i64 (i.add 1) w λx1=>af .i64 (i.add 2) w λy1=>aA (i.add 3) w λz1 a2 b2=>Ao a v1 x1 y1 z1 a2 b2 (some l) w λc2 w=>Cb c2 λd2=>cond (!d2) (af .i64 i w λe2=>dV c2 λf2=>Bx [ae e2,f2] 80 w λg2 w=>Da (.iface 78 (.pointer (some g2))) w λi2 w=>St l (ae i2) w λw=>oU Q a j l w) (oU Q a j l w))) (ok 29) [] [aO (Wt Q)] Tryz.func12
def Q4:=λa b c w Q=>bB (mq a b c w Q) (cond (decide (a≥b)) (Q (decide (a<=c)) w) (Q false w)) (ok 15) [] [] Tryz.func101
def EE:=λa b w Q=>bB (rK a b w Q) (mq a 1 1024 w λc w=>cond c (mq b 1 1024 w λd w=>Q d w) (Q false w)) (ok 11) [] [] Tryz.func65
def Kc:=λa b w Q=>bB (kV a b w Q) (rK a b w λc w=>cond (!c) (Q 0 0 w) (NZ 16<|NZ 16<|Q (IntKind.wrap .i64 (Int.tdiv (IntKind.wrap .i64 ((IntKind.wrap .i64 (a+16))-1)) 16)) (IntKind.wrap .i64 (Int.tdiv (IntKind.wrap .i64 ((IntKind.wrap .i64 (b+16))-1)) 16)) w)) (ok 18) [] [] Tryz.func44
def L4:=λa b w Q=>bB (pK a b w Q) (kV a b w λc d w=>Q (IntKind.wrap .i64 (c*d)) w) (ok 16) [] [] Tryz.func23
def sX (P3:L3 (L3 (Int->WP)))(Q:L3 WP)(a:OA)(b c:Nat)(d:OA)(e f:Nat)(g i:Int)(w:World):Prop:=aJ g b<|wA a λj=>af .u8 (j.add (g.toNat*1)) w λl=>Bx [.int .u8 (IntKind.wrap .u8 (IntKind.wrap .i64 (i-1))),.int .u8 l] 5 w λm w=>App P #[22,22] 22 (.slice d e f) (.slice (some m) 2 2) w λn o p w=>P3 a b c n o p (IntKind.wrap .i64 (g+i)) w
def oV (P3:L3 (L3 (Int->WP)))(Q:L3 WP)(R5:L3 (L3 (Int->Int->WP)))(a:OA)(b c:Nat)(d:OA)(e f:Nat)(g i:Int)(w:World):Prop:=cond (decide ((IntKind.wrap .i64 (g+i))<(b:Int))) (aJ (IntKind.wrap .i64 (g+i)) b<|wA a λj=>af .u8 (j.add (((IntKind.wrap .i64 (g+i))).toNat*1)) w.drew λl=>aJ g b<|wA a λm=>af .u8 (m.add (g.toNat*1)) w.drew λn=>cond (l==n) (R5 a b c d e f g (IntKind.wrap .i64 (i+1)) w.drew) (sX P3 Q a b c d e f g i w.drew)) (sX P3 Q a b c d e f g i w.drew)
def mC (P3:L3 (L3 (Int->WP)))(Q:L3 WP):Nat->L3 (L3 (Int->Int->WP))
 |0,_,_,_,_,_,_,_,_,_=>False
 |k+1,a,b,c,d,e,f,g,i,w=>oV P3 Q (mC P3 Q k) a b c d e f g i w
def oW (Q:L3 WP)(R3:L3 (L3 (Int->WP)))(a:OA)(b c:Nat)(d:OA)(e f:Nat)(g:Int)(w:World):Prop:=cond (decide (g<(b:Int))) (∃k',mC R3 Q k' a b c d e f g 1 w) (Q d e f w)
def oX (Q:L3 WP):Nat->L3 (L3 (Int->WP))
 |0,_,_,_,_,_,_,_,_=>False
 |k+1,a,b,c,d,e,f,g,w=>oW Q (oX Q k) a b c d e f g w
noncomputable def rP:cz:=[(5,sp 0 19 .done)]
def Q5 {P3}(Q)(H3:Bk 46 Tryz.f61 (mj Q) 3 [(0,.l),(3,.l),(4,.i .i64)] P3):Bk 46 Tryz.f61 (mj Q) 7 [(0,.l),(3,.l),(4,.i .i64),(5,.i .i64)] (sX P3 Q):=aU (ok 46) rP [aO H3]
def Q6 {P3}(Q)(H3:Bk 46 Tryz.f61 (mj Q) 3 [(0,.l),(3,.l),(4,.i .i64)] P3):∀k,Bk 46 Tryz.f61 (mj Q) 5 [(0,.l),(3,.l),(4,.i .i64),(5,.i .i64)] (mC P3 Q k):=bL λk h=>aU (ok 46) rP [aO h,aO (Q5 Q H3)]
def Q7 (Q):∀k,Bk 46 Tryz.f61 (mj Q) 3 [(0,.l),(3,.l),(4,.i .i64)] (oX Q k):=bL λk h=>aU (ok 46) rP [cq (Q6 Q h)]
def Nm:=λa b c w Q=>bB (wP a b c w Q) (Bx [.int .u8 2] 5 w λd w=>∃k',oX Q k' a b c (some d) 1 1 0 w) (ok 46) rP [cq (Q7 Q)] Tryz.func61
noncomputable def KV:cz:=[(3,sp 0 4 (.br (.op 4 (.op 5 (.op 6 .done))) (.op 5 (.op 4 (.op 6 .done)))))]
def Kf:=λa b c d e w Q=>bB (tu a b c d e w Q) (Bx [ae a,ae b,.slice c d e] 84 w λf w=>aA (f.add 2) w λg i j=>wP g i j w λl m n w=>cond ((m:Int)==3) (aA (f.add 2) w.drew λo p q=>aJ 0 p<|wA o λr=>af .u8 (r.add (((0:Int).toNat)*1)) w.drew λs=>(Bx [.int .u8 0,.int .u8 s] 5 w.drew λt w=>w.cell? (r.add (((0:Int).toNat)*1))=some (.int .u8 s)/\w.cell? (f.add 2)=some (.slice o p q)/\Q 0 (some t) 2 2 w)/\(w.drew.cell? (r.add (((0:Int).toNat)*1))=some (.int .u8 s)/\w.drew.cell? (f.add 2)=some (.slice o p q)/\Bx [.int .u8 0,.int .u8 s] 5 w.drew λu w=>Q 0 (some u) 2 2 w)) (aA (f.add 2) w λv x y=>cond (decide ((m:Int)<(IntKind.wrap .i64 (1+(x:Int))))) (Q 2 l m n w) (Bx [.int .u8 1] 5 w λz w=>aA (f.add 2) w λa1 b1 c1=>App P #[22,22] 22 (.slice (some z) 1 1) (.slice a1 b1 c1) w λd1 e1 f1 w=>Q 1 d1 e1 f1 w))) (ok 28) KV [] Tryz.func30
noncomputable def Pc:cz:=[(4,sp 0 14 (.op 14 (.op 15 .done)))]
def Nn:=λa b c w Q=>bB (qE a b c w Q) (pK a b w λd w=>mq c 0 (IntKind.wrap .i64 (d-1)) w λe w=>cond (!e) (Q 0 0 w) (kV a b w λf g w=>NZ f<|NZ f<|Q (DW 16 (IntKind.wrap .i64 (a-(IntKind.wrap .i64 (16*(Int.tmod c f)))))) (DW 16 (IntKind.wrap .i64 (b-(IntKind.wrap .i64 (16*(IntKind.wrap .i64 (Int.tdiv c f))))))) w.drew)) (ok 37) Pc [] Tryz.func62
noncomputable def L5:cz:=[(5,sp 0 19 (.op 19 .done))]
def KW:=λa b c d w Q=>bB (uw a b c d w Q) (qE a b c w λe f w=>mq d 0 (IntKind.wrap .i64 ((IntKind.wrap .i64 (e*f))-1)) w λg w=>cond (!g) (Q (-1) w) (kV a b w λi j w=>NZ i<|NZ e<|NZ i<|NZ e<|Q (IntKind.wrap .i64 ((IntKind.wrap .i64 ((IntKind.wrap .i64 ((IntKind.wrap .i64 ((IntKind.wrap .i64 (16*(IntKind.wrap .i64 (Int.tdiv c i))))+(IntKind.wrap .i64 (Int.tdiv d e))))*a))+(IntKind.wrap .i64 (16*(Int.tmod c i)))))+(Int.tmod d e))) w.drew)) (ok 52) L5 [] Tryz.func63
def nE (Q:Int->Int->L3 WP)(R4:Int->Addr->Addr->Int->Int->Addr->Int->WP)(a:Int)(b c:Addr)(d e:Int)(f:Addr)(g:Int)(w:World):Prop:=cond (decide (g<(IntKind.wrap .i64 (d*e)))) (aA (f.add 2) w.drew λi j l=>aA (b.add 2) w.drew λm n o=>af .i64 b w.drew λp=>af .i64 (b.add 1) w.drew λq=>uw p q a g w.drew λr w=>w.cell? (b.add 2)=some (.slice m n o)/\w.cell? (f.add 2)=some (.slice i j l)/\(aJ r n<|wA m λs=>af .u8 (s.add (r.toNat*1)) w λt=>Bx [.int .u8 t] 5 w λu w=>w.cell? (f.add 2)=some (.slice i j l)/\App P #[22,22] 22 (.slice i j l) (.slice (some u) 1 1) w λv x y w=>St (f.add 2) (.slice v x y) w λw=>R4 a b c d e f (IntKind.wrap .i64 (g+1)) w)) (af .i64 (f.add 0) w λz=>af .i64 (f.add 1) w λa1=>aA (f.add 2) w λb1 c1 d1=>St (c.add 0) (ae z) w λw=>St (c.add 1) (ae a1) w λw=>St (c.add 2) (.slice b1 c1 d1) w λw=>af .i64 (c.add 0) w λe1=>af .i64 (c.add 1) w λf1=>aA (c.add 2) w λg1 i1 j1=>Q e1 f1 g1 i1 j1 w)
def kH (Q:Int->Int->L3 WP):Nat->Int->Addr->Addr->Int->Int->Addr->Int->WP
 |0,_,_,_,_,_,_,_,_=>False
 |k+1,a,b,c,d,e,f,g,w=>nE Q (kH Q k) a b c d e f g w
noncomputable def CL:cz:=[(6,sp 0 10 (.op 10 (sp 11 2 (.op 13 (.op 14 (.op 15 (.op 16 .done)))))))]
def Np (Q):∀k,Bk 45 Tryz.f31 (DI Q) 4 [(1,.i .i64),(2,.a),(4,.a),(5,.i .i64),(6,.i .i64),(7,.a),(8,.i .i64)] (kH Q k):=bL λk h=>aU (ok 45) CL [aO h]
def KX:=λa b c d e f w Q=>bB (uk a b c d e f w Q) (Bx [ae a,ae b,.slice c d e] 25 w λg w=>Al T 84 w λi w=>af .i64 g w λj=>af .i64 (g.add 1) w λl=>qE j l f w λm n w=>Al T 84 w λo w=>St (o.add 0) (ae m) w λw=>St (o.add 1) (ae n) w λw=>St (o.add 2) (.slice none 0 0) w λw=>∃k',kH Q k' f g i m n o 0 w) (ok 45) CL [cq (Np Q)] Tryz.func31
def wY (Q:L3 WP)(R3:Addr->L3 (Int->WP))(a:Addr)(b:OA)(c d:Nat)(e:Int)(w:World):Prop:=af .i64 a w λf=>af .i64 (a.add 1) w λg=>pK f g w λi w=>cond (decide (e<i)) (af .i64 (a.add 0) w λj=>af .i64 (a.add 1) w λl=>aA (a.add 2) w λm n o=>uk j l m n o e w λp q r s t w=>tu p q r s t w λu v x y w=>App P #[22,22] 22 (.slice b c d) (.slice v x y) w λz a1 b1 w=>R3 a z a1 b1 (IntKind.wrap .i64 (e+1)) w) (Q b c d w)
def kI (Q:L3 WP):Nat->Addr->L3 (Int->WP)
 |0,_,_,_,_,_,_=>False
 |k+1,a,b,c,d,e,w=>wY Q (kI Q k) a b c d e w
def Nq (Q):∀k,Bk 42 Tryz.f13 (DH Q) 3 [(1,.a),(3,.l),(4,.i .i64)] (kI Q k):=bL λk h=>aU (ok 42) [] [aO h]
def KY:=λa b c d e w Q=>bB (lR a b c d e w Q) (Bx [ae a,ae b,.slice c d e] 25 w λf w=>af .i64 f w λg=>af .i64 f w λi=>En 8<|af .i64 (f.add 1) w λj=>af .i64 (f.add 1) w λl=>En 8<|Bx [.int .u8 (IntKind.wrap .u8 g),.int .u8 (IntKind.wrap .u8 (pE .i64 i 8)),.int .u8 (IntKind.wrap .u8 j),.int .u8 (IntKind.wrap .u8 (pE .i64 l 8))] 5 w λm w=>∃k',kI Q k' f (some m) 4 4 0 w) (ok 42) [] [cq (Nq Q)] Tryz.func13
def Q8:=λa w Q=>bB (FJ a w Q) (cond a.isNone (Q none w) (wA a λb=>bg (b.add 2) w λc=>Q c w)) (ok 9) [] [] Tryz.func32
def Nr:=λa w Q=>bB (je a w Q) (FJ a w λb w=>nA b w λc d e w=>Q c d e w) (ok 6) [] [] Tryz.func14
def nF (Q:Bool->WP)(R4:L3 (L3 (Int->WP)))(a:OA)(b c:Nat)(d:OA)(e f:Nat)(g:Int)(w:World):Prop:=cond (decide (g<(b:Int))) (aJ g b<|wA a λi=>af .i64 ((i.add (g.toNat*2)).add 0) w.drew λj=>af .i64 ((i.add (g.toNat*2)).add 1) w.drew λl=>aJ g e<|wA d λm=>af .i64 ((m.add (g.toNat*2)).add 0) w.drew λn=>af .i64 ((m.add (g.toNat*2)).add 1) w.drew λo=>bV P .neq 51 (.tmp 20) (.tmp 24) (.agg #[ae j,ae l]) (.agg #[ae n,ae o]) w.drew λp w=>cond p (Q false w) (R4 a b c d e f (IntKind.wrap .i64 (g+1)) w)) (Q true w)
def kJ (Q:Bool->WP):Nat->L3 (L3 (Int->WP))
 |0,_,_,_,_,_,_,_,_=>False
 |k+1,a,b,c,d,e,f,g,w=>nF Q (kJ Q k) a b c d e f g w
noncomputable def CM:cz:=[(6,sp 0 8 (.op 8 .done))]
def Ns (Q):∀k,Bk 26 Tryz.f34 (DJ Q) 4 [(0,.l),(1,.l),(5,.i .i64)] (kJ Q k):=bL λk h=>aU (ok 26) CM [aO h]
def KZ:=λa b c d e f w Q=>bB (um a b c d e f w Q) (cond ((b:Int) !=(e:Int)) (Q false w) (∃k',kJ Q k' a b c d e f 0 w)) (ok 26) CM [cq (Ns Q)] Tryz.func34
def Nt:=λw Q=>bB (wI w Q) (EU 1 2 w λa w=>cond a.isNone (Q false w) (Bx [.int .u8 5,.int .u8 2,.int .u8 9] 5 w λb w=>Al T 25 w λc w=>St (c.add 0) (ae 3) w λw=>St (c.add 1) (ae 1) w λw=>St (c.add 2) (.slice (some b) 3 3) w λw=>af .i64 (c.add 0) w λd=>af .i64 (c.add 1) w λe=>aA (c.add 2) w λf g i=>lR d e f g i w λj l m w=>gC a 1 0 0 j l m w λn o p q r s t u v x y z a1 b1 c1 d1 w=>Al T 34 w λe1 w=>St (e1.add 0) (ae n) w λw=>St (e1.add 1) (ae o) w λw=>St (e1.add 2) (ae p) w λw=>St (e1.add 3) (ae q) w λw=>St (e1.add 4) (.slice r s t) w λw=>St (e1.add 5) (.slice u v x) w λw=>St (e1.add 6) (.int .u64 y) w λw=>St (e1.add 7) (.int .u64 z) w λw=>St (e1.add 8) (.int .u64 a1) w λw=>St (e1.add 9) (.int .u64 b1) w λw=>St (e1.add 10) (.int .u64 c1) w λw=>St (e1.add 11) (.int .u64 d1) w λw=>gC a 3 0 2 none 0 0 w λf1 g1 i1 j1 l1 m1 n1 o1 p1 q1 r1 s1 t1 u1 v1 x1 w=>Al T 34 w λy1 w=>St (y1.add 0) (ae f1) w λw=>St (y1.add 1) (ae g1) w λw=>St (y1.add 2) (ae i1) w λw=>St (y1.add 3) (ae j1) w λw=>St (y1.add 4) (.slice l1 m1 n1) w λw=>St (y1.add 5) (.slice o1 p1 q1) w λw=>St (y1.add 6) (.int .u64 r1) w λw=>St (y1.add 7) (.int .u64 s1) w λw=>St (y1.add 8) (.int .u64 t1) w λw=>St (y1.add 9) (.int .u64 u1) w λw=>St (y1.add 10) (.int .u64 v1) w λw=>St (y1.add 11) (.int .u64 x1) w λw=>gC a 6 2 0 none 0 0 w λz1 a2 b2 c2 d2 e2 f2 g2 i2 j2 l2 m2 n2 o2 p2 q2 w=>Al T 34 w λr2 w=>St (r2.add 0) (ae z1) w λw=>St (r2.add 1) (ae a2) w λw=>St (r2.add 2) (ae b2) w λw=>St (r2.add 3) (ae c2) w λw=>St (r2.add 4) (.slice d2 e2 f2) w λw=>St (r2.add 5) (.slice g2 i2 j2) w λw=>St (r2.add 6) (.int .u64 l2) w λw=>St (r2.add 7) (.int .u64 m2) w λw=>St (r2.add 8) (.int .u64 n2) w λw=>St (r2.add 9) (.int .u64 o2) w λw=>St (r2.add 10) (.int .u64 p2) w λw=>St (r2.add 11) (.int .u64 q2) w λw=>gC a 7 0 0 none 0 0 w λs2 t2 u2 v2 x2 y2 z2 a3 b3 c3 d3 e3 f3 g3 i3 j3 w=>Al T 34 w λl3 w=>St (l3.add 0) (ae s2) w λw=>St (l3.add 1) (ae t2) w λw=>St (l3.add 2) (ae u2) w λw=>St (l3.add 3) (ae v2) w λw=>St (l3.add 4) (.slice x2 y2 z2) w λw=>St (l3.add 5) (.slice a3 b3 c3) w λw=>St (l3.add 6) (.int .u64 d3) w λw=>St (l3.add 7) (.int .u64 e3) w λw=>St (l3.add 8) (.int .u64 f3) w λw=>St (l3.add 9) (.int .u64 g3) w λw=>St (l3.add 10) (.int .u64 i3) w λw=>St (l3.add 11) (.int .u64 j3) w λw=>af .i64 e1 w λm3=>cond (m3==0) (af .i64 (y1.add 3) w λn3=>cond (n3==0) (af .i64 (r2.add 1) w λo3=>cond (o3==11) (af .i64 (r2.add 2) w λp3=>cond (p3==1) (aA (l3.add 4) w λq3 r3 s3=>Bx [ae 0,ae 1] 51 w λt3 w=>um q3 r3 s3 (some t3) 1 1 w λu3 w=>cond u3 (je a w λv3 x3 y3 w=>Q ((x3:Int)==1) w) (Q false w)) (Q false w)) (Q false w)) (Q false w)) (Q false w))) (ok 57) [] [] Tryz.func15
def Nu:=λa w Q=>bB (qD a w Q) (NZ 8<|cond ((Int.tmod a 8)==7) (Q 255 w) (cond (decide (a<160)) (NZ 4<|Q (IntKind.wrap .u8 (1+(Int.tmod a 4))) w) (Q a w))) (ok 12) [] [] Tryz.func36
def sY (P3:L3 (Addr->Addr->Int->WP))(Q:Int->Int->L3 WP)(a:OA)(b c:Nat)(d e:Addr)(f g:Int)(w:World):Prop:=aA (e.add 2) w.drew λi j l=>qD g w.drew λm w=>w.cell? (e.add 2)=some (.slice i j l)/\Bx [.int .u8 m] 5 w λn w=>w.cell? (e.add 2)=some (.slice i j l)/\App P #[22,22] 22 (.slice i j l) (.slice (some n) 1 1) w λo p q w=>St (e.add 2) (.slice o p q) w λw=>P3 a b c d e (IntKind.wrap .i64 (f+1)) w
def zN (Q:Int->Int->L3 WP)(R3:L3 (Addr->Addr->Int->WP))(a:OA)(b c:Nat)(d e:Addr)(f:Int)(w:World):Prop:=af .i64 e w λg=>af .i64 (e.add 1) w λi=>cond (decide (f<(IntKind.wrap .i64 (g*i)))) (cond (decide ((b:Int)>0)) (NZ (b:Int)<|NZ (b:Int)<|aJ (Int.tmod (IntKind.wrap .i64 (f+(IntKind.wrap .i64 ((IntKind.wrap .i64 (Int.tdiv f (b:Int)))*5)))) (b:Int)) b<|wA a λj=>af .u8 (j.add (((Int.tmod (IntKind.wrap .i64 (f+(IntKind.wrap .i64 ((IntKind.wrap .i64 (Int.tdiv f (b:Int)))*5)))) (b:Int))).toNat*1)) w λl=>sY R3 Q a b c d e f l w) (sY R3 Q a b c d e f 1 w)) (af .i64 (e.add 0) w λm=>af .i64 (e.add 1) w λn=>aA (e.add 2) w λo p q=>St (d.add 0) (ae m) w λw=>St (d.add 1) (ae n) w λw=>St (d.add 2) (.slice o p q) w λw=>af .i64 (d.add 0) w λr=>af .i64 (d.add 1) w λs=>aA (d.add 2) w λt u v=>Q r s t u v w)
def j6 (Q:Int->Int->L3 WP):Nat->L3 (Addr->Addr->Int->WP)
 |0,_,_,_,_,_,_,_=>False
 |k+1,a,b,c,d,e,f,w=>zN Q (j6 Q k) a b c d e f w
noncomputable def yB:cz:=[(9,sp 0 3 (.op 3 (.op 4 (.op 5 (.op 6 (.op 7 .done))))))]
def Q9 {P3}(Q)(H3:Bk 48 Tryz.f35 (sE Q) 3 [(2,.l),(6,.a),(7,.a),(8,.i .i64)] P3):Bk 48 Tryz.f35 (sE Q) 9 [(2,.l),(6,.a),(7,.a),(8,.i .i64),(9,.i .u8)] (sY P3 Q):=aU (ok 48) yB [aO H3]
def Q_ (Q):∀k,Bk 48 Tryz.f35 (sE Q) 3 [(2,.l),(6,.a),(7,.a),(8,.i .i64)] (j6 Q k):=bL λk h=>aU (ok 48) yB [aO (Q9 Q h)]
def Nv:=λa b c d e w Q=>bB (qC a b c d e w Q) (Al T 25 w λf w=>a_ a 1 40 w λg w=>a_ b 1 40 w λi w=>Al T 25 w λj w=>St (j.add 0) (ae g) w λw=>St (j.add 1) (ae i) w λw=>St (j.add 2) (.slice none 0 0) w λw=>∃k',j6 Q k' c d e f j 0 w) (ok 48) yB [cq (Q_ Q)] Tryz.func35
def iV (Q:Int->Int->Int->L3 WP)(a:Int)(b c d:Addr)(w:World):Prop:=af .i64 d w λe=>cond (e==1) (af .i64 (b.add 1) w.drew λf=>af .i64 (b.add 2) w.drew λg=>(Bx [.int .u8 2,.int .u8 0,.int .u8 1,.int .u8 0,.int .u8 1,.int .u8 (IntKind.wrap .u8 f),.int .u8 (IntKind.wrap .u8 g)] 5 w.drew λi w=>St (d.add 1) (ae 0) w λw=>w.cell? (b.add 2)=some (ae g)/\w.cell? (b.add 1)=some (ae f)/\St (d.add 2) (ae 0) w λw=>w.cell? (b.add 2)=some (ae g)/\w.cell? (b.add 1)=some (ae f)/\St (d.add 3) (.slice (some i) 7 7) w λw=>af .i64 (d.add 0) w λj=>af .i64 (d.add 1) w λl=>af .i64 (d.add 2) w λm=>aA (d.add 3) w λn o p=>St (c.add 0) (ae j) w λw=>St (c.add 1) (ae l) w λw=>St (c.add 2) (ae m) w λw=>St (c.add 3) (.slice n o p) w λw=>af .i64 (c.add 0) w λq=>af .i64 (c.add 1) w λr=>af .i64 (c.add 2) w λs=>aA (c.add 3) w λt u v=>Q q r s t u v w)/\(St (d.add 1) (ae 0) w.drew λw=>w.cell? (b.add 2)=some (ae g)/\w.cell? (b.add 1)=some (ae f)/\(Bx [.int .u8 2,.int .u8 0,.int .u8 1,.int .u8 0,.int .u8 1,.int .u8 (IntKind.wrap .u8 f),.int .u8 (IntKind.wrap .u8 g)] 5 w λx w=>St (d.add 2) (ae 0) w λw=>w.cell? (b.add 2)=some (ae g)/\w.cell? (b.add 1)=some (ae f)/\St (d.add 3) (.slice (some x) 7 7) w λw=>af .i64 (d.add 0) w λy=>af .i64 (d.add 1) w λz=>af .i64 (d.add 2) w λa1=>aA (d.add 3) w λb1 c1 d1=>St (c.add 0) (ae y) w λw=>St (c.add 1) (ae z) w λw=>St (c.add 2) (ae a1) w λw=>St (c.add 3) (.slice b1 c1 d1) w λw=>af .i64 (c.add 0) w λe1=>af .i64 (c.add 1) w λf1=>af .i64 (c.add 2) w λg1=>aA (c.add 3) w λi1 j1 l1=>Q e1 f1 g1 i1 j1 l1 w)/\(St (d.add 2) (ae 0) w λw=>w.cell? (b.add 2)=some (ae g)/\w.cell? (b.add 1)=some (ae f)/\Bx [.int .u8 2,.int .u8 0,.int .u8 1,.int .u8 0,.int .u8 1,.int .u8 (IntKind.wrap .u8 f),.int .u8 (IntKind.wrap .u8 g)] 5 w λm1 w=>St (d.add 3) (.slice (some m1) 7 7) w λw=>af .i64 (d.add 0) w λn1=>af .i64 (d.add 1) w λo1=>af .i64 (d.add 2) w λp1=>aA (d.add 3) w λq1 r1 s1=>St (c.add 0) (ae n1) w λw=>St (c.add 1) (ae o1) w λw=>St (c.add 2) (ae p1) w λw=>St (c.add 3) (.slice q1 r1 s1) w λw=>af .i64 (c.add 0) w λt1=>af .i64 (c.add 1) w λu1=>af .i64 (c.add 2) w λv1=>aA (c.add 3) w λx1 y1 z1=>Q t1 u1 v1 x1 y1 z1 w))) (cond (e==2) (af .i64 (b.add 1) w λa2=>a_ a2 0 (IntKind.wrap .i64 (a-1)) w λb2 w=>St (d.add 1) (ae b2) w λw=>af .i64 (b.add 1) w λc2=>a_ c2 0 1 w λd2 w=>St (d.add 2) (ae (IntKind.wrap .i64 (d2*255))) w λw=>af .i64 (d.add 0) w λe2=>af .i64 (d.add 1) w λf2=>af .i64 (d.add 2) w λg2=>aA (d.add 3) w λi2 j2 l2=>St (c.add 0) (ae e2) w λw=>St (c.add 1) (ae f2) w λw=>St (c.add 2) (ae g2) w λw=>St (c.add 3) (.slice i2 j2 l2) w λw=>af .i64 (c.add 0) w λm2=>af .i64 (c.add 1) w λn2=>af .i64 (c.add 2) w λo2=>aA (c.add 3) w λp2 q2 r2=>Q m2 n2 o2 p2 q2 r2 w) (cond (e==5) (St (d.add 2) (ae 0) w λw=>af .i64 (d.add 0) w λs2=>af .i64 (d.add 1) w λt2=>af .i64 (d.add 2) w λu2=>aA (d.add 3) w λv2 x2 y2=>St (c.add 0) (ae s2) w λw=>St (c.add 1) (ae t2) w λw=>St (c.add 2) (ae u2) w λw=>St (c.add 3) (.slice v2 x2 y2) w λw=>af .i64 (c.add 0) w λz2=>af .i64 (c.add 1) w λa3=>af .i64 (c.add 2) w λb3=>aA (c.add 3) w λc3 d3 e3=>Q z2 a3 b3 c3 d3 e3 w) (af .i64 (d.add 0) w λf3=>af .i64 (d.add 1) w λg3=>af .i64 (d.add 2) w λi3=>aA (d.add 3) w λj3 l3 m3=>St (c.add 0) (ae f3) w λw=>St (c.add 1) (ae g3) w λw=>St (c.add 2) (ae i3) w λw=>St (c.add 3) (.slice j3 l3 m3) w λw=>af .i64 (c.add 0) w λn3=>af .i64 (c.add 1) w λo3=>af .i64 (c.add 2) w λp3=>aA (c.add 3) w λq3 r3 s3=>Q n3 o3 p3 q3 r3 s3 w)))
noncomputable def EF:cz:=[(1,sp 0 2 (sp 3 3 (sp 8 2 (.br (.op 2 (.br (.op 6 (.op 7 (.br (.op 10 (.op 11 (.op 12 (.op 13 .done)))) (.op 12 (.op 10 (.op 11 (.op 13 .done))))))) (.op 12 (.op 6 (.op 7 (.op 10 (.op 11 (.op 13 .done)))))))) (.op 12 (.op 2 (.op 6 (.op 7 (.op 10 (.op 11 (.op 13 .done))))))))))),(4,sp 0 6 (.op 7 (.br (.op 6 (.op 8 (.op 9 (.op 10 (.op 11 (.op 12 .done)))))) (.op 8 (.op 9 (.br (.op 6 (.op 10 (.op 11 (.op 12 .done)))) (.op 10 (.op 6 (.op 11 (.op 12 .done))))))))))]
def Ra (Q):Bk 49 Tryz.f37 (FK Q) 2 [(1,.i .i64),(2,.a),(4,.a),(5,.a)] (iV Q):=aU (ok 49) EF []
def Nw:=λa b c d w Q=>bB (wL a b c d w Q) (Bx [ae a,ae b,ae c] 90 w λe w=>Al T 38 w λf w=>af .i64 (e.add 2) w.drew λg=>af .i64 (e.add 1) w.drew λi=>af .i64 (e.add 1) w.drew λj=>(a_ g 1 6 w.drew λl w=>w.cell? (e.add 1)=some (ae j)/\w.cell? (e.add 1)=some (ae i)/\(a_ i 0 5 w λm w=>w.cell? (e.add 1)=some (ae j)/\(a_ j 0 9 w λn w=>Al T 38 w λo w=>w.cell? (e.add 1)=some (ae j)/\w.cell? (e.add 1)=some (ae i)/\w.cell? (e.add 2)=some (ae g)/\St (o.add 0) (ae l) w λw=>St (o.add 1) (ae (IntKind.wrap .i64 (d+m))) w λw=>St (o.add 2) (ae n) w λw=>St (o.add 3) (.slice none 0 0) w λw=>iV Q d e f o w)/\(Al T 38 w λp w=>w.cell? (e.add 1)=some (ae j)/\w.cell? (e.add 1)=some (ae i)/\w.cell? (e.add 2)=some (ae g)/\a_ j 0 9 w λq w=>St (p.add 0) (ae l) w λw=>St (p.add 1) (ae (IntKind.wrap .i64 (d+m))) w λw=>St (p.add 2) (ae q) w λw=>St (p.add 3) (.slice none 0 0) w λw=>iV Q d e f p w))/\(Al T 38 w λr w=>w.cell? (e.add 1)=some (ae j)/\w.cell? (e.add 1)=some (ae i)/\w.cell? (e.add 2)=some (ae g)/\a_ i 0 5 w λs w=>w.cell? (e.add 1)=some (ae j)/\a_ j 0 9 w λt w=>St (r.add 0) (ae l) w λw=>St (r.add 1) (ae (IntKind.wrap .i64 (d+s))) w λw=>St (r.add 2) (ae t) w λw=>St (r.add 3) (.slice none 0 0) w λw=>iV Q d e f r w))/\(Al T 38 w.drew λu w=>w.cell? (e.add 1)=some (ae j)/\w.cell? (e.add 1)=some (ae i)/\w.cell? (e.add 2)=some (ae g)/\a_ g 1 6 w λv w=>w.cell? (e.add 1)=some (ae j)/\w.cell? (e.add 1)=some (ae i)/\a_ i 0 5 w λx w=>w.cell? (e.add 1)=some (ae j)/\a_ j 0 9 w λy w=>St (u.add 0) (ae v) w λw=>St (u.add 1) (ae (IntKind.wrap .i64 (d+x))) w λw=>St (u.add 2) (ae y) w λw=>St (u.add 3) (.slice none 0 0) w λw=>iV Q d e f u w)) (ok 49) EF [aO (Ra Q)] Tryz.func37
def cR (P5:Int->Int->L3 (L3 (Addr->L3 (Int->Int->WP))))(Q:L3 WP)(a b:Int)(c:OA)(d e:Nat)(f:OA)(g i:Nat)(j:Addr)(l:OA)(m n:Nat)(o p:Int)(q:Addr)(w:World):Prop:=af .i64 (q.add 0) w λr=>af .i64 (q.add 1) w λs=>af .i64 (q.add 2) w λt=>aA (q.add 3) w λu v x=>Bx [ae r,ae s,ae t,.slice u v x] 38 w λy w=>App P #[46,46] 46 (.slice l m n) (.slice (some y) 1 1) w λz a1 b1 w=>P5 a b c d e f g i j z a1 b1 o (IntKind.wrap .i64 (p+1)) w
def nG (P5:Int->Int->L3 (L3 (Addr->L3 (Int->Int->WP))))(Q:L3 WP)(a b:Int)(c:OA)(d e:Nat)(f:OA)(g i:Nat)(j:Addr)(l:OA)(m n:Nat)(o p:Int)(q:Addr)(w:World):Prop:=St q (ae 3) w λw=>cR P5 Q a b c d e f g i j l m n o p q w
def qK (P5:Int->Int->L3 (L3 (Addr->L3 (Int->Int->WP))))(Q:L3 WP)(a b:Int)(c:OA)(d e:Nat)(f:OA)(g i:Nat)(j:Addr)(l:OA)(m n:Nat)(o p:Int)(q r:Addr)(w:World):Prop:=af .i64 (q.add 2) w λs=>qD (IntKind.wrap .u8 s) w λt w=>St r (ae 2) w λw=>St (r.add 2) (ae (IntKind.wrap .i64 t)) w λw=>cR P5 Q a b c d e f g i j l m n o p r w
def jx (P5:Int->Int->L3 (L3 (Addr->L3 (Int->Int->WP))))(Q:L3 WP)(a b:Int)(c:OA)(d e:Nat)(f:OA)(g i:Nat)(j:Addr)(l:OA)(m n:Nat)(o p:Int)(q r:Addr)(w:World):Prop:=af .i64 q w λs=>a_ s 0 15 w λt w=>cond (t==0) (nG P5 Q a b c d e f g i j l m n o p r w) (cond (t==1) (nG P5 Q a b c d e f g i j l m n o p r w) (cond (t==2) (nG P5 Q a b c d e f g i j l m n o p r w) (cond (t==3) (af .i64 (q.add 1) w λu=>a_ u 0 9 w λv w=>St r (ae 4) w λw=>St (r.add 1) (ae v) w λw=>cR P5 Q a b c d e f g i j l m n o p r w) (cond (t==4) (af .i64 (q.add 1) w λx=>a_ x 0 9 w λy w=>St r (ae 5) w λw=>St (r.add 1) (ae y) w λw=>St (r.add 2) (ae 0) w λw=>cR P5 Q a b c d e f g i j l m n o p r w) (cond (t==5) (qK P5 Q a b c d e f g i j l m n o p q r w) (cond (t==6) (qK P5 Q a b c d e f g i j l m n o p q r w) (cond (t==7) (St r (ae 6) w λw=>cR P5 Q a b c d e f g i j l m n o p r w) (cond (t==8) (St r (ae 6) w λw=>cR P5 Q a b c d e f g i j l m n o p r w) (cond (t==9) (St (r.add 0) (ae 8) w λw=>St (r.add 1) (ae 0) w λw=>St (r.add 2) (ae 0) w λw=>St (r.add 3) (.slice none 0 0) w λw=>cR P5 Q a b c d e f g i j l m n o p r w) (cond (t==10) (af .i64 (q.add 1) w λz=>NZ 4<|cond ((Int.tmod z 4)==0) (af .i64 (q.add 1) w λa1=>NZ 4<|af .i64 (q.add 2) w λb1=>qC (IntKind.wrap .i64 (a+(IntKind.wrap .i64 (Int.tdiv a1 4)))) (IntKind.wrap .i64 (b+b1)) c d e w λc1 d1 e1 f1 g1 w=>St (j.add 0) (ae c1) w λw=>St (j.add 1) (ae d1) w λw=>St (j.add 2) (.slice e1 f1 g1) w λw=>aA (j.add 2) w λi1 j1 l1=>af .i64 (j.add 0) w λm1=>af .i64 (j.add 1) w λn1=>aA (j.add 2) w λo1 p1 q1=>lR m1 n1 o1 p1 q1 w λr1 s1 t1 w=>St (r.add 0) (ae 1) w λw=>St (r.add 1) (ae 0) w λw=>St (r.add 2) (ae 0) w λw=>St (r.add 3) (.slice r1 s1 t1) w λw=>cR P5 Q a b c d e f g i j l m n (j1:Int) p r w) (af .i64 (q.add 2) w λu1=>a_ u1 0 200 w λv1 w=>St (r.add 0) (ae 0) w λw=>St (r.add 1) (ae (IntKind.wrap .i64 (9+v1))) w λw=>St (r.add 2) (ae 0) w λw=>St (r.add 3) (.slice none 0 0) w λw=>cR P5 Q a b c d e f g i j l m n o p r w)) (cond (t==11) (af .i64 (q.add 0) w λx1=>af .i64 (q.add 1) w λy1=>af .i64 (q.add 2) w λz1=>wL x1 y1 z1 o w λa2 b2 c2 d2 e2 f2 w=>St (r.add 0) (ae a2) w λw=>St (r.add 1) (ae b2) w λw=>St (r.add 2) (ae c2) w λw=>St (r.add 3) (.slice d2 e2 f2) w λw=>cR P5 Q a b c d e f g i j l m n o p r w) (St (r.add 0) (ae 7) w λw=>St (r.add 1) (ae 0) w λw=>St (r.add 2) (ae 0) w λw=>St (r.add 3) (.slice none 0 0) w λw=>cR P5 Q a b c d e f g i j l m n o p r w))))))))))))
def n8 (Q:L3 WP)(R5:Int->Int->L3 (L3 (Addr->L3 (Int->Int->WP))))(a b:Int)(c:OA)(d e:Nat)(f:OA)(g i:Nat)(j:Addr)(l:OA)(m n:Nat)(o p:Int)(w:World):Prop:=cond (decide (p<(g:Int))) (cond (decide (p<60)) (aJ p g<|wA f λq=>af .i64 ((q.add (p.toNat*3)).add 0) w λr=>af .i64 ((q.add (p.toNat*3)).add 1) w λs=>af .i64 ((q.add (p.toNat*3)).add 2) w λt=>Al T 90 w λu w=>St (u.add 0) (ae r) w λw=>St (u.add 1) (ae s) w λw=>St (u.add 2) (ae t) w λw=>af .i64 (u.add 1) w.drew λv=>af .i64 (u.add 2) w.drew λx=>(a_ v 0 (IntKind.wrap .i64 (o-1)) w.drew λy w=>w.cell? (u.add 2)=some (ae x)/\(a_ x 0 (IntKind.wrap .i64 (o-1)) w λz w=>Al T 38 w λa1 w=>w.cell? (u.add 2)=some (ae x)/\w.cell? (u.add 1)=some (ae v)/\St (a1.add 0) (ae 0) w λw=>St (a1.add 1) (ae y) w λw=>St (a1.add 2) (ae z) w λw=>St (a1.add 3) (.slice none 0 0) w λw=>jx R5 Q a b c d e f g i j l m n o p u a1 w)/\(Al T 38 w λb1 w=>w.cell? (u.add 2)=some (ae x)/\w.cell? (u.add 1)=some (ae v)/\a_ x 0 (IntKind.wrap .i64 (o-1)) w λc1 w=>St (b1.add 0) (ae 0) w λw=>St (b1.add 1) (ae y) w λw=>St (b1.add 2) (ae c1) w λw=>St (b1.add 3) (.slice none 0 0) w λw=>jx R5 Q a b c d e f g i j l m n o p u b1 w))/\(Al T 38 w.drew λd1 w=>w.cell? (u.add 2)=some (ae x)/\w.cell? (u.add 1)=some (ae v)/\a_ v 0 (IntKind.wrap .i64 (o-1)) w λe1 w=>w.cell? (u.add 2)=some (ae x)/\a_ x 0 (IntKind.wrap .i64 (o-1)) w λf1 w=>St (d1.add 0) (ae 0) w λw=>St (d1.add 1) (ae e1) w λw=>St (d1.add 2) (ae f1) w λw=>St (d1.add 3) (.slice none 0 0) w λw=>jx R5 Q a b c d e f g i j l m n o p u d1 w)) (Q l m n w)) (Q l m n w)
def jy (Q:L3 WP):Nat->Int->Int->L3 (L3 (Addr->L3 (Int->Int->WP)))
 |0,_,_,_,_,_,_,_,_,_,_,_,_,_,_,_=>False
 |k+1,a,b,c,d,e,f,g,i,j,l,m,n,o,p,w=>n8 Q (jy Q k) a b c d e f g i j l m n o p w
noncomputable def kK:cz:=[(8,sp 0 4 (sp 5 4 (.br (.op 4 (.br (.op 9 (.op 10 (.op 11 (.op 12 .done)))) (.op 11 (.op 9 (.op 10 (.op 12 .done)))))) (.op 11 (.op 4 (.op 9 (.op 10 (.op 12 .done))))))))]
def wZ {P5}(Q)(H5:Bk 130 Tryz.f16 (fO Q) 5 [(0,.i .i64),(1,.i .i64),(2,.l),(3,.l),(9,.a),(10,.l),(11,.i .i64),(12,.i .i64)] P5):Bk 130 Tryz.f16 (fO Q) 35 [(0,.i .i64),(1,.i .i64),(2,.l),(3,.l),(9,.a),(10,.l),(11,.i .i64),(12,.i .i64),(14,.a)] (cR P5 Q):=aU (ok 130) kK [aO H5]
def Nx {P5}(Q)(H5:Bk 130 Tryz.f16 (fO Q) 5 [(0,.i .i64),(1,.i .i64),(2,.l),(3,.l),(9,.a),(10,.l),(11,.i .i64),(12,.i .i64)] P5):Bk 130 Tryz.f16 (fO Q) 14 [(0,.i .i64),(1,.i .i64),(2,.l),(3,.l),(9,.a),(10,.l),(11,.i .i64),(12,.i .i64),(14,.a)] (nG P5 Q):=aU (ok 130) kK [aO (wZ Q H5)]
def Ny {P5}(Q)(H5:Bk 130 Tryz.f16 (fO Q) 5 [(0,.i .i64),(1,.i .i64),(2,.l),(3,.l),(9,.a),(10,.l),(11,.i .i64),(12,.i .i64)] P5):Bk 130 Tryz.f16 (fO Q) 21 [(0,.i .i64),(1,.i .i64),(2,.l),(3,.l),(9,.a),(10,.l),(11,.i .i64),(12,.i .i64),(13,.a),(14,.a)] (qK P5 Q):=aU (ok 130) kK [aO (wZ Q H5)]
def Pd {P5}(Q)(H5:Bk 130 Tryz.f16 (fO Q) 5 [(0,.i .i64),(1,.i .i64),(2,.l),(3,.l),(9,.a),(10,.l),(11,.i .i64),(12,.i .i64)] P5):Bk 130 Tryz.f16 (fO Q) 9 [(0,.i .i64),(1,.i .i64),(2,.l),(3,.l),(9,.a),(10,.l),(11,.i .i64),(12,.i .i64),(13,.a),(14,.a)] (jx P5 Q):=aU (ok 130) kK [aO (Nx Q H5),aO (Ny Q H5),aO (wZ Q H5)]
def Pe (Q):∀k,Bk 130 Tryz.f16 (fO Q) 5 [(0,.i .i64),(1,.i .i64),(2,.l),(3,.l),(9,.a),(10,.l),(11,.i .i64),(12,.i .i64)] (jy Q k):=bL λk h=>aU (ok 130) kK [aO (Pd Q h)]
def L6:=λa b c d e f g i w Q=>bB (vq a b c d e f g i w Q) (qC a b c d e w λj l m n o w=>Al T 25 w λp w=>St (p.add 0) (ae j) w λw=>St (p.add 1) (ae l) w λw=>St (p.add 2) (.slice m n o) w λw=>af .i64 (p.add 0) w λq=>af .i64 (p.add 1) w λr=>aA (p.add 2) w λs t u=>lR q r s t u w λv x y w=>Bx [ae 1,ae 0,ae 0,.slice v x y] 38 w λz w=>aA (p.add 2) w λa1 b1 c1=>∃k',jy Q k' a b c d e f g i p (some z) 1 1 (b1:Int) 0 w) (ok 130) kK [cq (Pe Q)] Tryz.func16
def Rb:=λa b c d w Q=>bB (y8 a b c d w Q) (bT a b c 3 none (some (DW (b:Int) d)) λe f g=>Q e f g w) (ok 11) [] [] Tryz.func17
noncomputable def Wu:cz:=[(3,sp 0 15 (.op 15 (.op 16 (.op 17 .done))))]
def Ve:=λa w Q=>bB (Bt a w Q) (Al T 25 w λb w=>cond a.isNone (St (b.add 0) (ae 0) w λw=>St (b.add 1) (ae 0) w λw=>St (b.add 2) (.slice none 0 0) w λw=>af .i64 (b.add 0) w λc=>af .i64 (b.add 1) w λd=>aA (b.add 2) w λe f g=>Q c d e f g w) (wA a λi=>af .i64 i w.drew λj=>wA a λl=>af .i64 (l.add 1) w.drew λm=>wA a λn=>aA (n.add 2) w.drew λo p q=>jR o p q w.drew λr s t w=>w.cell? (l.add 1)=some (ae m)/\w.cell? i=some (ae j)/\St (b.add 0) (ae j) w λw=>St (b.add 1) (ae m) w λw=>St (b.add 2) (.slice r s t) w λw=>af .i64 (b.add 0) w λu=>af .i64 (b.add 1) w λv=>aA (b.add 2) w λx y z=>Q u v x y z w)) (ok 23) Wu [] Tryz.func67
def YH:=λa w Q=>bB (DZ a w Q) (Al T 25 w λb w=>cond a.isNone (St (b.add 0) (ae 0) w λw=>St (b.add 1) (ae 0) w λw=>St (b.add 2) (.slice none 0 0) w λw=>af .i64 (b.add 0) w λc=>af .i64 (b.add 1) w λd=>aA (b.add 2) w λe f g=>Q c d e f g w) (wA a λi=>bg i w λj=>Bt j w λl m n o p w=>St (b.add 0) (ae l) w λw=>St (b.add 1) (ae m) w λw=>St (b.add 2) (.slice n o p) w λw=>af .i64 (b.add 0) w λq=>af .i64 (b.add 1) w λr=>aA (b.add 2) w λs t u=>Q q r s t u w)) (ok 11) [] [] Tryz.func40
def Rc:=λa w Q=>bB (oz a w Q) (Al T 25 w λb w=>y9 a w λc w=>DZ c w λd e f g i w=>St (b.add 0) (ae d) w λw=>St (b.add 1) (ae e) w λw=>St (b.add 2) (.slice f g i) w λw=>af .i64 (b.add 0) w λj=>af .i64 (b.add 1) w λl=>aA (b.add 2) w λm n o=>Q j l m n o w) (ok 6) [] [] Tryz.func19
def oY (Q:Bool->WP)(R2:L3 (Int->WP))(a:OA)(b c:Nat)(d:Int)(w:World):Prop:=cond (decide (d<(b:Int))) (aJ d b<|wA a λe=>af .u8 (e.add (d.toNat*1)) w λf=>cond (f==0) (Q false w) (R2 a b c (IntKind.wrap .i64 (d+1)) w)) (Q true w)
def s8 (Q:Bool->WP):Nat->L3 (Int->WP)
 |0,_,_,_,_,_=>False
 |k+1,a,b,c,d,w=>oY Q (s8 Q k) a b c d w
def Re (Q):∀k,Bk 15 Tryz.f66 (FM Q) 2 [(0,.l),(3,.i .i64)] (s8 Q k):=bL λk h=>aU (ok 15) [] [aO h]
def Nz:=λa b c w Q=>bB (DK a b c w Q) (∃k',s8 Q k' a b c 0 w) (ok 15) [] [cq (Re Q)] Tryz.func66
def K0:=λa b c d e w Q=>bB (uo a b c d e w Q) (Bx [ae a,ae b,.slice c d e] 25 w λf w=>af .i64 f w λg=>af .i64 (f.add 1) w λi=>rK g i w λj w=>cond j (aA (f.add 2) w λl m n=>af .i64 f w λo=>af .i64 (f.add 1) w λp=>cond ((m:Int)==(IntKind.wrap .i64 (o*p))) (aA (f.add 2) w λq r s=>DK q r s w λt w=>Q t w) (Q false w)) (Q false w)) (ok 24) [] [] Tryz.func38
def n9 (Q:OA->WP)(R6:OA->L3 (Int->WP))(a b:OA)(c d:Nat)(e:Int)(w:World):Prop:=cond (decide (e<(c:Int))) (aJ e c<|wA b λf=>af .i64 ((f.add (e.toNat*4)).add 0) w λg=>af .i64 ((f.add (e.toNat*4)).add 1) w λi=>af .i64 ((f.add (e.toNat*4)).add 2) w λj=>aA ((f.add (e.toNat*4)).add 3) w λl m n=>gC a g i j l m n w λo p q r s t u v x y z a1 b1 c1 d1 e1 w=>R6 a b c d (IntKind.wrap .i64 (e+1)) w) (oz a w λf1 g1 i1 j1 l1 w=>uo f1 g1 i1 j1 l1 w λm1 w=>cond (!m1) (Q none w) (Q a w))
def rQ (Q:OA->WP):Nat->OA->L3 (Int->WP)
 |0,_,_,_,_,_,_=>False
 |k+1,a,b,c,d,e,w=>n9 Q (rQ Q k) a b c d e w
def Pf (Q):∀k,Bk 43 Tryz.f18 (Es Q) 6 [(13,.p),(14,.l),(15,.i .i64)] (rQ Q k):=bL λk h=>aU (ok 43) [] [aO h]
def L7:=λa b c d e f g i j l w Q=>bB (vr a b c d e f g i j l w Q) (EU a b w λm w=>cond m.isNone (Q none w) (vq c d e f g i j l w λn o p w=>∃k',rQ Q k' m n o p 0 w)) (ok 43) [] [cq (Pf Q)] Tryz.func18
noncomputable def Pg:cz:=[(2,sp 0 7 (.op 7 (.op 8 (.op 9 .done))))]
def NA:=λa b c w Q=>bB (wJ a b c w Q) (gC a 6 b c none 0 0 w λd e f g i j l m n o p q r s t u w=>Al T 34 w λv w=>St (v.add 0) (ae d) w λw=>St (v.add 1) (ae e) w λw=>St (v.add 2) (ae f) w λw=>St (v.add 3) (ae g) w λw=>St (v.add 4) (.slice i j l) w λw=>St (v.add 5) (.slice m n o) w λw=>St (v.add 6) (.int .u64 p) w λw=>St (v.add 7) (.int .u64 q) w λw=>St (v.add 8) (.int .u64 r) w λw=>St (v.add 9) (.int .u64 s) w λw=>St (v.add 10) (.int .u64 t) w λw=>St (v.add 11) (.int .u64 u) w λw=>af .i64 (v.add 1) w.drew λx=>af .i64 (v.add 2) w.drew λy=>af .i64 v w.drew λz=>w.drew.cell? v=some (ae z)/\w.drew.cell? (v.add 2)=some (ae y)/\w.drew.cell? v=some (ae z)/\Q x y (z==0) w.drew) (ok 22) Pg [] Tryz.func20
def lW (P6:Int->OA->Addr->Int->WP)(zO:Int->OA->Addr->Int->L3 (L3 (Addr->L3 (Int->Int->Int->WP))))(Q:Bool->WP)(a:Int)(b:OA)(c:Addr)(d:Int)(e:OA)(f g:Nat)(i:OA)(j l:Nat)(m:Addr)(n:OA)(o p:Nat)(q r s t:Int)(u:Bool)(w:World):Prop:=cond (!u) (zO a b c d e f g i j l m n o p q r (IntKind.wrap .i64 (s+1)) w) (aA (m.add 4) w λv x y=>aJ (IntKind.wrap .i64 ((IntKind.wrap .i64 (q+1))-1)) x<|wA v λz=>af .i64 ((z.add (((IntKind.wrap .i64 ((IntKind.wrap .i64 (q+1))-1))).toNat*2)).add 1) w λa1=>cond (a1 !=t) (Q false w) (aA (c.add 2) w λb1 c1 d1=>aJ t c1<|wA b1 λe1=>af .u8 (e1.add (t.toNat*1)) w λf1=>cond (f1==255) (Q false w) (aJ s f<|wA e λg1=>af .i64 ((g1.add (s.toNat*3)).add 1) w λi1=>aJ i1 o<|wA n λj1=>St (j1.add (i1.toNat*1)) (.bool false) w λw=>aJ s f<|wA e λl1=>af .i64 ((l1.add (s.toNat*3)).add 2) w λm1=>aJ t o<|wA n λn1=>St (n1.add (t.toNat*1)) (.bool (t !=m1)) w λw=>aJ s f<|wA e λo1=>af .i64 ((o1.add (s.toNat*3)).add 2) w λp1=>cond (t==p1) (aA (m.add 5) w.drew λq1 r1 s1=>cond (decide (r≥(r1:Int))) (Q false w.drew) (aA (m.add 5) w.drew λt1 u1 v1=>aJ r u1<|wA t1 λx1=>af .i64 (x1.add (r.toNat*1)) w.drew λy1=>aJ s f<|wA e λz1=>af .i64 (z1.add (s.toNat*3)) w.drew λa2=>cond (y1 !=a2) (Q false w.drew) (zO a b c d e f g i j l m n o p (IntKind.wrap .i64 (q+1)) (IntKind.wrap .i64 (r+1)) (IntKind.wrap .i64 (s+1)) w.drew))) (zO a b c d e f g i j l m n o p (IntKind.wrap .i64 (q+1)) r (IntKind.wrap .i64 (s+1)) w))))
def lX (P6:Int->OA->Addr->Int->WP)(zO:Int->OA->Addr->Int->L3 (L3 (Addr->L3 (Int->Int->Int->WP))))(Q:Bool->WP)(a:Int)(b:OA)(c:Addr)(d:Int)(e:OA)(f g:Nat)(i:OA)(j l:Nat)(m:Addr)(n:OA)(o p:Nat)(q r s t:Int)(u:Bool)(w:World):Prop:=aA (c.add 2) w λv x y=>cond (decide (t≥(x:Int))) (Q false w) (cond (decide (t≥0)) (aJ t o<|wA n λz=>cD (z.add (t.toNat*1)) w λa1=>cond (!(u==(!a1))) (Q false w) (lW P6 zO Q a b c d e f g i j l m n o p q r s t u w)) (cond (!(u==false)) (Q false w) (lW P6 zO Q a b c d e f g i j l m n o p q r s t u w)))
def jF (P6:Int->OA->Addr->Int->WP)(zO:Int->OA->Addr->Int->L3 (L3 (Addr->L3 (Int->Int->Int->WP))))(Q:Bool->WP)(a:Int)(b:OA)(c:Addr)(d:Int)(e:OA)(f g:Nat)(i:OA)(j l:Nat)(m:Addr)(n:OA)(o p:Nat)(q r s t:Int)(w:World):Prop:=aA (m.add 4) w.drew λu v x=>cond (decide (q<(v:Int))) (aA (m.add 4) w.drew λy z a1=>aJ q z<|wA y λb1=>af .i64 (b1.add (q.toNat*2)) w.drew λc1=>aJ s f<|wA e λd1=>af .i64 (d1.add (s.toNat*3)) w.drew λe1=>lX P6 zO Q a b c d e f g i j l m n o p q r s t (c1==e1) w.drew) (lX P6 zO Q a b c d e f g i j l m n o p q r s t false w.drew)
def lY (P6:Int->OA->Addr->Int->WP)(Q:Bool->WP)(R25:Int->OA->Addr->Int->L3 (L3 (Addr->L3 (Int->Int->Int->WP))))(a:Int)(b:OA)(c:Addr)(d:Int)(e:OA)(f g:Nat)(i:OA)(j l:Nat)(m:Addr)(n:OA)(o p:Nat)(q r s:Int)(w:World):Prop:=cond (decide (s<(f:Int))) (aJ s j<|wA i λt=>af .i64 (t.add (s.toNat*1)) w λu=>cond (decide (u<=3)) (af .i64 c w.drew λv=>af .i64 (c.add 1) w.drew λx=>aJ s f<|wA e λy=>af .i64 ((y.add (s.toNat*3)).add 1) w.drew λz=>aJ s j<|wA i λa1=>af .i64 (a1.add (s.toNat*1)) w.drew λb1=>mF v x z b1 w.drew λc1 w=>jF P6 R25 Q a b c d e f g i j l m n o p q r s c1 w) (jF P6 R25 Q a b c d e f g i j l m n o p q r s (-1) w)) (aA (m.add 4) w λd1 e1 f1=>cond (q !=(e1:Int)) (Q false w) (aA (m.add 5) w λg1 i1 j1=>cond (r !=(i1:Int)) (Q false w) (je b w λl1 m1 n1 w=>cond ((m1:Int) !=(IntKind.wrap .i64 ((f:Int)-r))) (Q false w) (P6 a b c (IntKind.wrap .i64 (d+1)) w))))
def lZ (P6:Int->OA->Addr->Int->WP)(Q:Bool->WP):Nat->Int->OA->Addr->Int->L3 (L3 (Addr->L3 (Int->Int->Int->WP)))
 |0,_,_,_,_,_,_,_,_,_,_,_,_,_,_,_,_,_,_=>False
 |k+1,a,b,c,d,e,f,g,i,j,l,m,n,o,p,q,r,s,w=>lY P6 Q (lZ P6 Q k) a b c d e f g i j l m n o p q r s w
def l6 (P6:Int->OA->Addr->Int->WP)(Q:Bool->WP)(R20:Int->OA->Addr->Int->L3 (L3 (Addr->L3 (Int->WP))))(a:Int)(b:OA)(c:Addr)(d:Int)(e:OA)(f g:Nat)(i:OA)(j l:Nat)(m:Addr)(n:OA)(o p:Nat)(q:Int)(w:World):Prop:=cond (decide (q<(f:Int))) (aJ q f<|wA e λr=>af .i64 ((r.add (q.toNat*3)).add 1) w λs=>aJ s o<|wA n λt=>St (t.add (s.toNat*1)) (.bool true) w λw=>R20 a b c d e f g i j l m n o p (IntKind.wrap .i64 (q+1)) w) (∃k',lZ P6 Q k' a b c d e f g i j l m n o p 0 0 0 w)
def o9 (P6:Int->OA->Addr->Int->WP)(Q:Bool->WP):Nat->Int->OA->Addr->Int->L3 (L3 (Addr->L3 (Int->WP)))
 |0,_,_,_,_,_,_,_,_,_,_,_,_,_,_,_,_=>False
 |k+1,a,b,c,d,e,f,g,i,j,l,m,n,o,p,q,w=>l6 P6 Q (o9 P6 Q k) a b c d e f g i j l m n o p q w
def l7 (P6:Int->OA->Addr->Int->WP)(Q:Bool->WP)(R11:Int->OA->Addr->Int->L3 (L3 (Int->WP)))(a:Int)(b:OA)(c:Addr)(d:Int)(e:OA)(f g:Nat)(i:OA)(j l:Nat)(m:Int)(w:World):Prop:=cond (decide (m<(f:Int))) (aJ m f<|wA e λn=>af .i64 ((n.add (m.toNat*3)).add 2) w.drew λo=>aJ m f<|wA e λp=>af .i64 ((p.add (m.toNat*3)).add 1) w.drew λq=>wJ b o q w.drew λr s t w=>cond (!t) (Q false w.drew) (aJ m f<|wA e λu=>af .i64 ((u.add (m.toNat*3)).add 1) w.drew λv=>cond (decide (v<0)) (Q false w.drew) (aJ m f<|wA e λx=>af .i64 ((x.add (m.toNat*3)).add 1) w.drew λy=>aA (c.add 2) w.drew λz a1 b1=>cond (decide (y≥(a1:Int))) (Q false w.drew) (aJ m j<|wA i λc1=>St (c1.add (m.toNat*1)) (ae s) w.drew λw=>R11 a b c d e f g i j l (IntKind.wrap .i64 (m+1)) w)))) (gC b 7 0 0 none 0 0 w λd1 e1 f1 g1 i1 j1 l1 m1 n1 o1 p1 q1 r1 s1 t1 u1 w=>Al T 34 w λv1 w=>St (v1.add 0) (ae d1) w λw=>St (v1.add 1) (ae e1) w λw=>St (v1.add 2) (ae f1) w λw=>St (v1.add 3) (ae g1) w λw=>St (v1.add 4) (.slice i1 j1 l1) w λw=>St (v1.add 5) (.slice m1 n1 o1) w λw=>St (v1.add 6) (.int .u64 p1) w λw=>St (v1.add 7) (.int .u64 q1) w λw=>St (v1.add 8) (.int .u64 r1) w λw=>St (v1.add 9) (.int .u64 s1) w λw=>St (v1.add 10) (.int .u64 t1) w λw=>St (v1.add 11) (.int .u64 u1) w λw=>aA (c.add 2) w λx1 y1 z1=>cE P 49 (ae (y1:Int)) (ae (y1:Int)) w λa2 b2 c2 w=>∃k',o9 P6 Q k' a b c d e f g i j l v1 a2 b2 c2 0 w)
def o_ (P6:Int->OA->Addr->Int->WP)(Q:Bool->WP):Nat->Int->OA->Addr->Int->L3 (L3 (Int->WP))
 |0,_,_,_,_,_,_,_,_,_,_,_,_=>False
 |k+1,a,b,c,d,e,f,g,i,j,l,m,w=>l7 P6 Q (o_ P6 Q k) a b c d e f g i j l m w
def mS (Q:Bool->WP)(R6:Int->OA->Addr->Int->WP)(a:Int)(b:OA)(c:Addr)(d:Int)(w:World):Prop:=a_ a 0 6 w λe w=>cond (decide (d<e)) (je b w λf g i w=>cE P 29 (ae (g:Int)) (ae (g:Int)) w λj l m w=>∃k',o_ R6 Q k' a b c d f g i j l m 0 w) (wI w λn w=>Q n w)
def p_ (Q:Bool->WP):Nat->Int->OA->Addr->Int->WP
 |0,_,_,_,_,_=>False
 |k+1,a,b,c,d,w=>mS Q (p_ Q k) a b c d w
noncomputable def gu:cz:=[(13,sp 0 11 (.op 11 (sp 12 4 (.op 16 (.op 17 (.op 18 .done)))))),(14,sp 0 21 .done),(29,sp 0 13 (.op 13 (.op 14 .done))),(30,sp 0 19 (.op 19 .done)),(40,sp 0 18 .done)]
def K1 {P6}{zO}(Q)(H6:Bk 266 Tryz.f8 (bZ Q) 6 [(4,.i .i64),(11,.p),(12,.a),(13,.i .i64)] P6)(H25:Bk 266 Tryz.f8 (bZ Q) 25 [(4,.i .i64),(11,.p),(12,.a),(13,.i .i64),(14,.l),(15,.l),(20,.a),(21,.l),(23,.i .i64),(24,.i .i64),(25,.i .i64)] zO):Bk 266 Tryz.f8 (bZ Q) 33 [(4,.i .i64),(11,.p),(12,.a),(13,.i .i64),(14,.l),(15,.l),(20,.a),(21,.l),(23,.i .i64),(24,.i .i64),(25,.i .i64),(26,.i .i64),(27,.b)] (lW P6 zO Q):=aU (ok 266) gu [aO H25]
def K2 {P6}{zO}(Q)(H6:Bk 266 Tryz.f8 (bZ Q) 6 [(4,.i .i64),(11,.p),(12,.a),(13,.i .i64)] P6)(H25:Bk 266 Tryz.f8 (bZ Q) 25 [(4,.i .i64),(11,.p),(12,.a),(13,.i .i64),(14,.l),(15,.l),(20,.a),(21,.l),(23,.i .i64),(24,.i .i64),(25,.i .i64)] zO):Bk 266 Tryz.f8 (bZ Q) 31 [(4,.i .i64),(11,.p),(12,.a),(13,.i .i64),(14,.l),(15,.l),(20,.a),(21,.l),(23,.i .i64),(24,.i .i64),(25,.i .i64),(26,.i .i64),(27,.b)] (lX P6 zO Q):=aU (ok 266) gu [aO (K1 Q H6 H25)]
def K3 {P6}{zO}(Q)(H6:Bk 266 Tryz.f8 (bZ Q) 6 [(4,.i .i64),(11,.p),(12,.a),(13,.i .i64)] P6)(H25:Bk 266 Tryz.f8 (bZ Q) 25 [(4,.i .i64),(11,.p),(12,.a),(13,.i .i64),(14,.l),(15,.l),(20,.a),(21,.l),(23,.i .i64),(24,.i .i64),(25,.i .i64)] zO):Bk 266 Tryz.f8 (bZ Q) 30 [(4,.i .i64),(11,.p),(12,.a),(13,.i .i64),(14,.l),(15,.l),(20,.a),(21,.l),(23,.i .i64),(24,.i .i64),(25,.i .i64),(26,.i .i64)] (jF P6 zO Q):=aU (ok 266) gu [aO (K2 Q H6 H25)]
def K4 {P6}(Q)(H6:Bk 266 Tryz.f8 (bZ Q) 6 [(4,.i .i64),(11,.p),(12,.a),(13,.i .i64)] P6):∀k,Bk 266 Tryz.f8 (bZ Q) 25 [(4,.i .i64),(11,.p),(12,.a),(13,.i .i64),(14,.l),(15,.l),(20,.a),(21,.l),(23,.i .i64),(24,.i .i64),(25,.i .i64)] (lZ P6 Q k):=bL λk h=>aU (ok 266) gu [aO H6,aO (K3 Q H6 h)]
def K5 {P6}(Q)(H6:Bk 266 Tryz.f8 (bZ Q) 6 [(4,.i .i64),(11,.p),(12,.a),(13,.i .i64)] P6):∀k,Bk 266 Tryz.f8 (bZ Q) 20 [(4,.i .i64),(11,.p),(12,.a),(13,.i .i64),(14,.l),(15,.l),(20,.a),(21,.l),(22,.i .i64)] (o9 P6 Q k):=bL λk h=>aU (ok 266) gu [aO h,cq (K4 Q H6)]
def K6 {P6}(Q)(H6:Bk 266 Tryz.f8 (bZ Q) 6 [(4,.i .i64),(11,.p),(12,.a),(13,.i .i64)] P6):∀k,Bk 266 Tryz.f8 (bZ Q) 11 [(4,.i .i64),(11,.p),(12,.a),(13,.i .i64),(14,.l),(15,.l),(16,.i .i64)] (o_ P6 Q k):=bL λk h=>aU (ok 266) gu [aO h,cq (K5 Q H6)]
def L8 (Q):∀k,Bk 266 Tryz.f8 (bZ Q) 6 [(4,.i .i64),(11,.p),(12,.a),(13,.i .i64)] (p_ Q k):=bL λk h=>aU (ok 266) gu [cq (K6 Q h)]
def Kg:=λa b c d e f g i j w Q=>bB (A6 a b c d e f g i j w Q) (y8 f g i 25 w λl m n w=>vr 3 6 a b c d e l m n w λo w=>cond o.isNone (Q false w) (oz o w λp q r s t w=>Al T 25 w λu w=>St (u.add 0) (ae p) w λw=>St (u.add 1) (ae q) w λw=>St (u.add 2) (.slice r s t) w λw=>∃k',p_ Q k' j o u 0 w)) (ok 266) gu [cq (L8 Q)] Tryz.func8
def S6:=λa w Q=>bB (GI a w Q) (wA a λb=>b_ (b.add 1) w λc=>dV c λd=>Q d w) (ok 7) [] [] Tryz.func302
def NB:=λa w Q=>bB (DN a w Q) (wA a λb=>b_ (b.add 1) w λc=>dV c λd=>Q d w) (ok 7) [] [] Tryz.func321
def Rf:=λa w Q=>bB (FU a w Q) (wA a λb=>b_ (b.add 1) w λc=>dV c λd=>Q d w) (ok 7) [] [] Tryz.func325
end Go.Proofs.YtmegplnmiepfbaaGreatDoor.S
namespace Go.Proofs.YtmegplnmiepfbaaGreatDoor.S
open Go.Sx
attribute [local irreducible] af cD bz bg aA cy b_ St Bx Al App cK cE cB bV aN bG aq bT av ak aW mapA
def dU:xk P T:=E9 P rows Ic
def ee {a b:Int}(h:a=b):(a==b)=true:=by grind
def cL {a b:Int}(h:¬a=b):(a==b)=false:=by grind
def EZ {a b:Int}(h:¬a=b):(a !=b)=true:=by grind
def xO {a b:Int}(h:a=b):(a !=b)=false:=by grind
section
variable {F:Nat->Prop}{W w0:World}{L:List As}{mw mh c:Int}
def qd {Q:Bool->World->Prop}(h:Q (decide (iS mw mh)) w0):lT mw mh w0 Q:=by
 apply abN;have e:decide (iS mw mh)=(decide (mw≥1)&&(decide (mw<=1024)&&(decide (mh≥1)&&decide (mh<=1024)))):=by rw[Bool.eq_iff_iff];simp[Bool.and_eq_true,decide_eq_true_eq];exact⟨λ⟨⟨a,b⟩,c,d⟩=>⟨a,b,c,d⟩,λ⟨a,b,c,d⟩=>⟨⟨a,b⟩,c,d⟩⟩
 grind
def Iu {Q:Bool->World->Prop}(h:Q (decide (bI mw mh c)) w0):za mw mh c w0 Q:=by
 apply ad6;apply qd;by_cases hm:iS mw mh
 ·have:=nv hm;rw[bM hm,aH];have e:decide (bI mw mh c)=(decide (c≥0)&&decide (c<mw*mh)):=by rw[Bool.eq_iff_iff];simp[bI,Bool.and_eq_true,decide_eq_true_eq,hm,true_and,ge_iff_le]
  grind
 ·rw[bj hm];rw[decide_eq_false (λe=>hm e.1)]at h;exact h
def rC {x y:Int}{Q:Int->World->Prop}(h:Q (g8 mw mh x y) w0):Ap mw mh x y w0 Q:=by
 apply Z0;apply qd;by_cases hm:iS mw mh
 ·rw[decide_eq_true hm,Bool.not_true,cond_false];by_cases h1:x<0
  ·rw[bM h1];rw[tj (by omega)]at h;exact h
  rw[bj h1];by_cases h2:x≥mw
  ·rw[bM h2];rw[tj (by omega)]at h;exact h
  rw[bj h2];by_cases h3:y<0
  ·rw[bM h3];rw[tj (by omega)]at h;exact h
  rw[bj h3];by_cases h4:y≥mh
  ·rw[bM h4];rw[tj (by omega)]at h;exact h
  rw[bj h4];rw[nI hm (by omega) (by omega)]at h;have hr:=Jh (aby (x:=x) (y:=y) hm (by omega) (by omega));have h0:0<=y*mw:=Int.mul_nonneg (by omega) (by omega);rw[aH (n:=y*mw),aH];exact h
 ·unfold g8 at h;grind
def Eb {Q:Int->Int->World->Prop}(s0:Sep F W w0 L)(h:∀w',Sep F W w' L->Fr No w0 w'->Q (if bI mw mh c then c%mw else-1) (if bI mw mh c then c/mw else-1) w'):tH mw mh c w0 Q:=by
 apply Yp;apply Iu;by_cases hc:bI mw mh c
 ·have VA:=hc.2;have hx:=IS hc;have EG:=hc.1.2;rw[decide_eq_true hc,Bool.not_true,cond_false];refine⟨by omega,⟨by omega,?_⟩⟩;rw[Int.tmod_eq_emod_of_nonneg VA.1,Int.tdiv_eq_ediv_of_nonneg VA.1,aH];have:=h _ (ay s0) Fr.refl;grind
 ·have:=h _ s0 Fr.refl;grind
def jz {sd:Int}{Q:Int->World->Prop}(s0:Sep F W w0 L)(h:∀w',Sep F W w' L->Fr No w0 w'->Q (aY mw mh c sd) w'):mF mw mh c sd w0 Q:=by
 apply Z3;refine Eb s0 λw s f=>?_;have h:=h w s f;unfold aY at h;by_cases hc:bI mw mh c
 ·rw[if_pos hc,if_pos hc];rw[if_pos hc]at h;have hx:=IS hc;have hm:=hc.1.1;have EG:=hc.1.2;rw[bj];by_cases k0:sd=0
  ·rw[ee k0,cond_true];rw[if_pos k0]at h;unfold xG nN;rw[aH];exact rC h
  rw[cL k0,cond_false];rw[if_neg k0]at h;by_cases k2:sd=2
  ·rw[ee k2,cond_true];rw[if_pos k2]at h;unfold xG nN;rw[aH];exact rC h
  rw[cL k2,cond_false];rw[if_neg k2]at h;by_cases k3:sd=3
  ·rw[ee k3,cond_true];rw[if_pos k3]at h;unfold xH nN;rw[aH];exact rC h
  rw[cL k3,cond_false];rw[if_neg k3]at h;by_cases k1:sd=1
  ·rw[ee k1,cond_true];rw[if_pos k1]at h;unfold xH nN;rw[aH];exact rC h
  rw[cL k1,cond_false];rw[if_neg k1]at h;by_cases k4:sd=4
  ·rw[ee k4,cond_true];rw[if_pos k4]at h;exact rC h
  grind
 grind
def AL (w h a b:Int):Int:=
 if bI w h a/\bI w h b then if aY w h a 0=b then 0 else if aY w h a 1=b then 1 else if aY w h a 2=b then 2 else if aY w h a 3=b then 3 else if aY w h a 4=b then 4 else 5 else 5
def aan {b:Int}{Q:Int->World->Prop}(s0:Sep F W w0 L)(h:∀w',Sep F W w' L->Fr No w0 w'->Q (AL mw mh c b) w'):Fj mw mh c b w0 Q:=by
 apply Z8;apply Iu;by_cases hc:bI mw mh c
 ·rw[decide_eq_true hc,Bool.not_true,cond_false];apply Iu;by_cases hb:bI mw mh b
  ·rw[decide_eq_true hb,Bool.not_true,cond_false];have s:=bh (F:=No) (w:=w0);have fin:∀(w:World) (r:Int),AL mw mh c b=r->Sep No w0 w []->Q r w:=by intro w r e s;subst e;exact h _ (bW s0 (au s)) (au s)
   unfold AL at fin;refine⟨6,?_⟩;show iH Q (ni Q 5) _ _ _ _ _ _;unfold iH;refine jz s λw s _=>?_;by_cases k0:aY mw mh c 0=b
   ·grind
   rw[cL k0,cond_false,wrap_i64 (by decide) (by decide)];show iH Q (ni Q 4) _ _ _ _ _ _;unfold iH;refine jz s λw s _=>?_;by_cases k0:aY mw mh c 1=b
   ·grind
   rw[show(aY mw mh c (0+1)==b)=false from cL k0,cond_false,wrap_i64 (by decide) (by decide)];show iH Q (ni Q 3) _ _ _ _ _ _;unfold iH;refine jz s λw s _=>?_;by_cases k0:aY mw mh c 2=b
   ·grind
   rw[show(aY mw mh c (0+1+1)==b)=false from cL k0,cond_false,wrap_i64 (by decide) (by decide)];show iH Q (ni Q 2) _ _ _ _ _ _;unfold iH;refine jz s λw s _=>?_;by_cases k0:aY mw mh c 3=b
   ·grind
   rw[show(aY mw mh c (0+1+1+1)==b)=false from cL k0,cond_false,wrap_i64 (by decide) (by decide)];show iH Q (ni Q 1) _ _ _ _ _ _;unfold iH;refine jz s λw s _=>?_;by_cases k0:aY mw mh c 4=b
   ·grind
   rw[show(aY mw mh c (0+1+1+1+1)==b)=false from cL k0,cond_false,wrap_i64 (by decide) (by decide)];show iH Q (ni Q 0) _ _ _ _ _ _;unfold iH;grind
  ·have:=h _ s0 Fr.refl;unfold AL at this;grind
 ·have:=h _ s0 Fr.refl;unfold AL at this;grind
def aao (w h:Int):Int:=if iS w h then cS w else 0
def ael (w h:Int):Int:=if iS w h then cS h else 0
def q8 {Q:Int->Int->World->Prop}(h:Q (aao mw mh) (ael mw mh) w0):lF mw mh w0 Q:=by
 apply UN;apply qd;unfold aao ael at h;by_cases hm:iS mw mh
 ·have h1:=hm.1;have h2:=hm.2;rw[decide_eq_true hm,Bool.not_true,cond_false];refine⟨by decide,by decide,?_⟩;rw[aH (n:=mw+16),aH (n:=mw+16-1),aH (n:=mh+16),aH (n:=mh+16-1),
   Int.tdiv_eq_ediv_of_nonneg (by omega),Int.tdiv_eq_ediv_of_nonneg (by omega),aH,aH]
  unfold cS at h;grind
 grind
def e_ {Q:Int->World->Prop}(s0:Sep F W w0 L)(h:∀w',Sep F W w' L->Fr No w0 w'->Q (aC mw mh c) w'):d_ mw mh c w0 Q:=by
 apply V2;refine Eb s0 λw s f=>?_;have h:=h w s f;unfold aC at h;by_cases hc:bI mw mh c
 ·rw[if_pos hc,if_pos hc];have hs:=(bU hc).2;unfold aC at hs;rw[if_pos hc]at h hs;have hx:=IS hc;have hm:=hc.1;have ha:=FH hm.1;have hcs:=gS hm.1 hm.2;rw[bj];apply q8;rw[aao,if_pos hm];refine⟨by decide,by decide,?_⟩;have h2:=hm.2;have a:0<=c/mw/16*cS mw:=Int.mul_nonneg (by omega) (by omega);rw[Int.tdiv_eq_ediv_of_nonneg (by omega),Int.tdiv_eq_ediv_of_nonneg (by omega),aH (n:=c/mw/16),aH (n:=c%mw/16),aH (n:=c/mw/16*cS mw),aH];exact h
 grind
def Jt {sc:Int}{Q:Int->Int->Bool->World->Prop}(s0:Sep F W w0 L)(h:∀w',Sep F W w' L->Fr No w0 w'->Q (if dY mw mh sc then sc%cS mw*16 else 0) (if dY mw mh sc then sc/cS mw*16 else 0) (decide (dY mw mh sc)) w'):xy mw mh sc w0 Q:=by
 apply VZ;apply q8;have no:¬dY mw mh sc->Q 0 0 false w0:=λhn=>by have:=h _ s0 Fr.refl;grind
 by_cases h0:sc<0
 ·rw[bM h0];exact no λe=>by have:=e.2;omega
 rw[bj h0];unfold aao ael;by_cases hm:iS mw mh
 ·rw[if_pos hm,if_pos hm];have hcs:=gS hm.1 hm.2;have e:cS mw*cS mh=eM mw mh:=rfl;rw[e,aH];by_cases h1:sc≥eM mw mh
  ·rw[bM h1];exact no λe=>by have:=e.2;omega
  rw[bj h1];have hs:dY mw mh sc:=⟨hm,by omega,by omega⟩;have hx:=Jf hm.1 hm.2 hs.2;have ha:=FH hm.1;have q1:=hm.1;have q2:=hm.2;refine⟨by omega,by omega,?_⟩;rw[Int.tmod_eq_emod_of_nonneg (by omega),Int.tdiv_eq_ediv_of_nonneg (by omega),aH (n:=sc/cS mw),aH,aH];have:=h _ (ay s0) Fr.refl;grind
 ·rw[if_neg hm,if_neg hm,show IntKind.wrap .i64 (0*0)=0 from rfl,bM];exact no λe=>hm e.1
def vK {sc:Int}{Q:Int->Int->World->Prop}(s0:Sep F W w0 L)(h:∀w',Sep F W w' L->Fr No w0 w'->Q (ZF mw mh sc) (adF mw mh sc) w'):ot mw mh sc w0 Q:=by
 apply ZV;refine Jt s0 λw s f=>?_;have h:=h w s f;unfold ZF adF at h;by_cases hs:dY mw mh sc
 ·have hx:=Jf hs.1.1 hs.1.2 hs.2;have q1:=hs.1.1;have q2:=hs.1.2;rw[aH,aH];have e1:DW 16 (mw-sc%cS mw*16)=aE mw mh sc:=by unfold DW aE;omega
  have e2:DW 16 (mh-sc/cS mw*16)=bA mw mh sc:=by unfold DW bA;omega
  grind
 grind
def tR {Q:Int->World->Prop}(s0:Sep F W w0 L)(h:∀w',Sep F W w' L->Fr No w0 w'->Q (dZ mw mh c) w'):nJ mw mh c w0 Q:=by
 apply Yr;refine Eb s0 λw s f=>?_;by_cases hc:bI mw mh c
 ·rw[if_pos hc,if_pos hc];have hx:=IS hc;have hl:=ko hc;have hs:=bU hc;have hz:=q_ hc.1.1 hc.1.2 hs.2;have el:dZ mw mh c=c/mw%16*aE mw mh (aC mw mh c)+c%mw%16:=if_pos hc;rw[bj];refine e_ s λw s f2=>?_;refine vK s λw s f3=>?_;refine⟨by decide,by decide,?_⟩;rw[ZF,if_pos hs,Int.tmod_eq_emod_of_nonneg (by omega),Int.tmod_eq_emod_of_nonneg (by omega)];have a:=Int.mul_le_mul hz.1.2 hz.2.2 (by omega) (by decide);rw[aH (n:=c/mw%16*aE mw mh (aC mw mh c)),aH,<-el];exact h _ s ((f.trans f2 (λ_ _=>id)).trans f3 (λ_ _=>id))
 ·have h:=h _ s f;unfold dZ at h;grind
def xP {sc l:Int}{Q:Int->World->Prop}(s0:Sep F W w0 L)(h:∀w',Sep F W w' L->Fr No w0 w'->Q (C9 mw mh sc l) w'):oA mw mh sc l w0 Q:=by
 apply V0;refine Jt s0 λw s f=>?_;refine vK s λw s f2=>?_;have f:=f.trans f2 (λ_ _=>id);have no:¬(dY mw mh sc/\0<=l/\l<aE mw mh sc*bA mw mh sc)->Q (-1) w:=λhn=>by have:=h _ s f;unfold C9 at this;grind
 by_cases hs:dY mw mh sc
 ·unfold ZF adF;rw[if_pos hs,if_pos hs,if_pos hs,if_pos hs,decide_eq_true hs,Bool.not_true,cond_false];have hx:=Jf hs.1.1 hs.1.2 hs.2;have hz:=q_ hs.1.1 hs.1.2 hs.2;have q1:=hs.1.1;have q2:=hs.1.2;have a:=Int.mul_le_mul hz.1.2 hz.2.2 (by omega) (by decide);have b:0<=aE mw mh sc*bA mw mh sc:=Int.mul_nonneg (by omega) (by omega);rw[aH];by_cases h0:l<0
  ·grind
  rw[bj h0];by_cases h1:l≥aE mw mh sc*bA mw mh sc
  ·grind
  rw[bj h1];have hl:0<=l/\l<aE mw mh sc*bA mw mh sc:=by omega
  have hxy:=PL hs hl;refine⟨by omega,by omega,?_⟩;rw[Int.tmod_eq_emod_of_nonneg (by omega),Int.tdiv_eq_ediv_of_nonneg (by omega),aH (n:=l/aE mw mh sc),aH,aH];apply rC;have h:=h _ (ay s) f;unfold C9 bY at h;rw[if_pos ⟨hs,hl⟩]at h;have e1:sc%cS mw*16+l%aE mw mh sc<mw:=by
   have:aE mw mh sc<=mw-16*(sc%cS mw):=by unfold aE;omega
   omega
  have e2:sc/cS mw*16+l/aE mw mh sc<mh:=by
   have:bA mw mh sc<=mh-16*(sc/cS mw):=by unfold bA;omega
   omega
  rw[nI hs.1 (by omega) (by omega),Int.mul_comm (sc/cS mw) 16,Int.mul_comm (sc%cS mw) 16,<-Int.add_assoc];exact h
 grind
end
end Go.Proofs.YtmegplnmiepfbaaGreatDoor.S
namespace Go.Proofs.YtmegplnmiepfbaaGreatDoor.S.Tl
open Go.Sx
def dU:xk P T:=E9 P rows Ic
attribute [local irreducible] af cD bz bg aA cy b_ St Bx Al App cK cE cB bV aN bG aq bT av ak aW
def Ec (W H:Int)(cs:List Int):Bool:=decide (1<=W/\W<=16)&&(decide (1<=H/\H<=16)&&(decide ((cs.length:Int)=W*H)&&!decide ((0:Int)∈cs)))
def aap {W H:Int}{cs:List Int}:Ec W H cs=true↔(1<=W/\W<=16)/\(1<=H/\H<=16)/\(cs.length:Int)=W*H/\(0:Int)∉cs:=by simp[Ec]
section
variable {F:Nat->Prop}{W w:World}{L:List As}{a:Option Addr}{n c:Nat}{cs:List Int}
def asy (h:mE w a n 1 bp cs){i:Nat}(hi:i<n):∃ad,a=some ad/\w.cell? (ad.add (i*1))=some (.int .u8 (gi cs i)):=by obtain⟨ad,e,hc⟩:=h.2 i _ (h_ (by rw[h.1];exact hi));exact⟨ad,e,hc 0 _ rfl⟩
def aL {k:IntKind}{m:Int}{ad:Addr}{K:Int->Prop}(h:w.cell? ad=some (.int k m))(hk:K m):af k ad w K:=by unfold af;grind
def L9 {m:Int}{Q:Bool->World->Prop}(h:Q (decide (1<=m/\m<=16)) w):AA m w Q:=by apply ZX;grind
def al9 {v:Int}{Q:Int->World->Prop}(hA:mE w a n 1 bp cs)(hn:n<1000000000)(hy:v∈cs->∀i:Nat,Q i w)(hno:v∉cs->Q (-1) w):
  ∀(m i:Nat),i+m=n->(∀j,j<i->gi cs j≠v)->jl Q (m+1) a n c v n i w:=by
 intro m;induction m with
 |zero=>
  intro i hi S8;show kY Q (jl Q 0) _ _ _ _ _ _ _;rw[kY,bj];refine hno λhv=>?_;obtain⟨j,hj,e⟩:=List.getElem_of_mem hv;have:=S8 j (by rw[hA.1]at hj;omega);have h2:=h_ hj;grind
 |succ m ih=>
  intro i hi S8;show kY Q (jl Q (m+1)) _ _ _ _ _ _ _;unfold kY;obtain⟨ad,rfl,hc⟩:=asy hA (i:=i) (by omega);rw[bM];refine⟨by omega,by omega,ah ?_⟩;apply aL hc;by_cases hv:v=gi cs i
  ·rw[hv,beq_self_eq_true,cond_true];exact hy (by rw[hv];exact fm (by rw[hA.1];omega)) i
  ·rw[show(v==gi cs i)=false by grind,cond_false,aH];refine ih (i+1) (by omega) λj hj=>?_;grind
def Iv {v:Int}{Q:Bool->World->Prop}(hA:mE w a n 1 bp cs)(hn:n<1000000000)(h:Q (decide (v∈cs)) w):iZ a n c v w Q:=by
 apply Gf;apply Is;refine⟨n+1,al9 hA hn (λhv i=>?_) (λhv=>?_) n 0 (by omega) (λj hj=>by omega)⟩
 all_goals simp_all
def Dw {tw th:Int}{Q:Bool->World->Prop}(s:Sep F W w L)(hA:mE w a n 1 bp cs)(h:∀w',Sep F W w' L->Fr No w w'->Q (Ec tw th cs) w'):u9 tw th a n c w Q:=by
 apply adW;refine aQ (F:=No) bh λb1 w1 s1=>?_;have hh:=h w1 (bW s (au s1)) (au s1);have hA1:=hA.fr (au s1);unfold Ec at hh;apply lI s1 0 rfl;apply L9;cases h1:decide (1<=tw/\tw<=16)with
 |false=>
  grind
 |true=>
  rw[h1,Bool.true_and]at hh;apply lI s1 0 rfl;apply L9;cases h2:decide (1<=th/\th<=16)with
  |false=>
   grind
  |true=>
   rw[h2,Bool.true_and]at hh;have h1':=of_decide_eq_true h1;have h2':=of_decide_eq_true h2;apply lS s1 0 rfl;apply lI s1 0 rfl;apply lI s1 0 rfl;have hp:1<=tw*th/\tw*th<=256:=by have q1:=Int.mul_le_mul h1'.1 h2'.1 (by decide) (by omega);have q2:=Int.mul_le_mul h1'.2 h2'.2 (by omega) (by decide);omega
   rw[aH];have hl:=hA.1;by_cases h3:(cs.length:Int)=tw*th
   ·rw[decide_eq_true h3,Bool.true_and]at hh;rw[show((n:Int)==tw*th)=true by grind,cond_true];apply lS s1 0 rfl;exact Iv hA1 (by omega) hh
   grind
def isB (tw th:Int)(cs:List Int)(l:Int):Bool:=decide (0<=l/\l<(cs.length:Int))&&Ec tw th cs
def ag9 {tw th l:Int}{Q:Bool->World->Prop}(s:Sep F W w L)(hA:mE w a n 1 bp cs)(h:∀w',Sep F W w' L->Fr No w w'->Q (isB tw th cs l) w'):JX tw th a n c l w Q:=by
 apply ag5;refine aQ (F:=No) bh λb1 w1 s1=>?_;have hh:=h w1 (bW s (au s1)) (au s1);have hA1:=hA.fr (au s1);have hl:=hA.1;unfold isB at hh;by_cases h1:l≥0
 ·rw[bM h1];apply lS s1 0 rfl;by_cases h2:l<(n:Int)
  ·rw[bM h2];apply lI s1 0 rfl;apply lI s1 0 rfl;apply lS s1 0 rfl;refine Dw s1 hA1 λw2 s2 k2=>?_;have hh:=h w2 (bW s (au s2)) (au s2);unfold isB at hh;grind
  grind
 grind
def atI (tw th:Int)(cs:List Int)(l:Int):Int:=cond (isB tw th cs l) (gi cs l.toNat) 0
def ag_ {tw th l:Int}{Q:Int->World->Prop}(s:Sep F W w L)(hA:mE w a n 1 bp cs)(hcs:∀x∈cs,0<=x/\x<256)(h:∀w',Sep F W w' L->Fr No w w'->Q (atI tw th cs l) w'):JW tw th a n c l w Q:=by
 apply ag6;refine aQ (F:=No) bh λb1 w1 s1=>?_;apply lI s1 0 rfl;apply lI s1 0 rfl;apply lS s1 0 rfl;refine ag9 s1 (hA.fr (au s1)) λw2 s2 k2=>?_;have hh:=h w2 (bW s (au s2)) (au s2);have hA2:=hA.fr (au s2);have hl:=hA.1;unfold atI at hh;cases hb:isB tw th cs l with
 |false=>
  grind
 |true=>
  rw[hb,cond_true]at hh;have hr:0<=l/\l<(cs.length:Int):=by unfold isB at hb;grind
  obtain⟨i,rfl⟩:∃i:Nat,l=i:=⟨l.toNat,by omega⟩;obtain⟨ad,rfl,hc⟩:=asy hA2 (i:=i) (by omega);apply lS s2 0 rfl;refine⟨by omega,by omega,ah ?_⟩;apply aL hc;have:=hcs _ (fm (i:=i) (by omega));rw[aH];exact hh
end
end Go.Proofs.YtmegplnmiepfbaaGreatDoor.S.Tl
namespace Go.Proofs.YtmegplnmiepfbaaGreatDoor.S.O
open Go.Sx
def dU:xk P T:=E9 P rows Ic
def xQ:zc T 38=[ae 0,ae 0,ae 0,.slice none 0 0]:=rfl
def rR:zc T 137=[ae 0,ae 0,.bool false]:=rfl
attribute [local irreducible] af cD bz bg aA cy b_ St Bx Al App cK cE cB bV aN bG aq bT av ak aW
def GR {F:Nat->Prop}{W w:World}{L:List As}{k:Int}{Q:Int->Int->Bool->Bool->World->Prop}(s0:Sep F W w L)(h:∀w',Sep F W w' L->Fr No w w'->Q (xm k) (Ch k) (shL k) (DX k) w'):xq k w Q:=by
 apply abL;have s:=bh (F:=No) (w:=w);by_cases hk:1<=k/\k<=8
 ·have hk':k=1\/k=2\/k=3\/k=4\/k=5\/k=6\/k=7\/k=8:=by omega
  rcases hk' with rfl|rfl|rfl|rfl|rfl|rfl|rfl|rfl
  all_goals
   repeat' first
    |apply lI s 0 rfl
    |apply lS s 0 rfl
    |apply lB s 0 rfl
    |apply lP s 0 rfl
    |apply And.intro (cm s 0 rfl)
    |apply lI s 1 rfl
    |apply lS s 1 rfl
    |apply lB s 1 rfl
    |apply lP s 1 rfl
    |apply And.intro (cm s 1 rfl)
    |(refine sT s 0 rfl λw s=>?_)
    |(refine sT s 1 rfl λw s=>?_)
    |refine aQ s λb w s=>?_
    |(refine aV s λb w s=>?_;simp[xQ,rR]at s)
    |unfold u_
    |unfold ng
    |(replace s:=ay s;first
     |apply lI s 0 rfl
     |apply lS s 0 rfl
     |apply lB s 0 rfl
     |apply lP s 0 rfl
     |apply And.intro (cm s 0 rfl)
     |apply lI s 1 rfl
     |apply lS s 1 rfl
     |apply lB s 1 rfl
     |apply lP s 1 rfl
     |apply And.intro (cm s 1 rfl)
     |(refine ax s (i:=0) rfl rfl rfl λw s=>?_)
     |(refine ax s (i:=1) rfl rfl rfl λw s=>?_;simp[List.set_cons_zero,List.set_cons_succ]at s)
     |refine aQ s λb w s=>?_
     |(refine aV s λb w s=>?_;simp[xQ,rR]at s)
     |unfold u_
     |unfold ng)
  all_goals exact h _ (bW s0 (au s)) (au s)
 ·have e:∀j:Int,1<=j/\j<=8->(k==j)=false:=λj hj=>by grind
  rw[e 1 (by decide),e 2 (by decide),e 3 (by decide),e 4 (by decide),e 5 (by decide),e 6 (by decide),e 7 (by decide),e 8 (by decide)]
  (refine aV s λb w s=>?_;simp[xQ,rR]at s)
  (refine aV s λb w s=>?_;simp[xQ,rR]at s)
  (refine ax s (i:=1) rfl rfl rfl λw s=>?_)
  (refine ax s (i:=1) rfl rfl rfl λw s=>?_)
  (refine ax s (i:=1) rfl rfl rfl λw s=>?_)
  apply lI s 1 rfl;apply lI s 1 rfl;apply lB s 1 rfl;have:=h _ (bW s0 (au s)) (au s);rw[show xm k=0 by unfold xm;grind,show Ch k=0 by unfold Ch;grind,show shL k=false from decide_eq_false (by omega),show DX k=false from decide_eq_false (by omega)]at this;exact this
def Kh {w:World}{n:Int}{sz:Nat}{Q:Bool->World->Prop}(hs:sz<=4)(h:Q (ES n sz) w):A7 n sz w Q:=by
 apply agU;unfold ES at h;by_cases h0:n≥0
 ·rw[bM h0];have e:Ca .i64 1 (IntKind.wrap .i64 (8*(sz:Int)))=256^sz/\0<=IntKind.wrap .i64 (8*(sz:Int)):=by
   have hs':sz=0\/sz=1\/sz=2\/sz=3\/sz=4:=by omega
   rcases hs' with rfl|rfl|rfl|rfl|rfl<;>decide
  refine⟨e.2,?_⟩;grind
 grind
def aem {a b:Int}{k:Nat}(hk:k<=24)(ha:0<=a/\a<2^k)(hb:0<=b/\b<256):ior .i64 a (Ca .i64 b (k:Int))=a+b*2^k:=by
 obtain⟨m,rfl⟩:∃m:Nat,a=m:=⟨a.toNat,by omega⟩;obtain⟨p,rfl⟩:∃p:Nat,b=p:=⟨b.toNat,by omega⟩;have hm:m<2^k:=by grind
 have Je:(2:Nat)^k<=2^24:=Nat.pow_le_pow_right (by decide) hk;have hp:p*2^k<=255*2^24:=Nat.mul_le_mul (by omega) Je;have e1:Ca .i64 (p:Int) (k:Int)=((p*2^k:Nat):Int):=by
  unfold Ca;have e:min ((k:Nat):Int).toNat (IntKind.i64).bits=k:=by simp[IntKind.bits];omega
  rw[e,show(p:Int)*2^k=((p*2^k:Nat):Int) by grind,aH]
 rw[e1];rw[ior,BitVec.ofInt_natCast,BitVec.ofInt_natCast,BitVec.toNat_or,BitVec.toNat_ofNat,BitVec.toNat_ofNat];have b64:(IntKind.i64).bits=64:=rfl;rw[b64,Nat.mod_eq_of_lt (by omega),Nat.mod_eq_of_lt (by omega),Nat.or_comm,Nat.mul_comm p,<-Nat.two_pow_add_eq_or_of_lt hm];rw[Nat.mul_comm]at hp;rw[aH];grind
def aqO (l:List Int)(x:Int):pH (l++[x])=pH l+x*2^(8*l.length):=by
 induction l with
 |nil=>simp[pH]
 |cons y l ih=>
  simp[List.cons_append,pH,ih,List.length_cons];grind
def aod {l:List Int}{i:Nat}(h:i<l.length):l.take (i+1)=l.take i++[gi l i]:=by rw[List.take_add_one,h_ h];rfl
section
variable {F:Nat->Prop}{W w:World}{L:List As}{a:Option Addr}{n c:Nat}{bs:List Int}
def GS {Q:Int->World->Prop}(hA:Sl w a n c 1 bp bs)(hr:ef bs)(hn:n<=4)(h:Q (pH bs) w):xx a n c w Q:=by
 apply abM;have loop:∀(m i:Nat),i+m=n->xd Q (m+1) (pH (bs.take i)) a n c n i w:=by
  intro m;induction m with
  |zero=>
   intro i hi;show A9 Q (xd Q 0) _ _ _ _ _ _ _;rw[A9,bj,List.take_of_length_le (by rw[hA.len];omega)];exact h
  |succ m ih=>
   intro i hi;show A9 Q (xd Q (m+1)) _ _ _ _ _ _ _;rw[A9,bM];apply Sl.BJ hA rfl (by omega);have hv:=hr _ (fm (i:=i) (by rw[hA.len];omega));rw[aH,aH,aH];refine⟨by omega,?_⟩;have li:(bs.take i).length=i:=by rw[List.length_take,hA.len];omega
   have e:=abx (hr.take i);have e2:(256:Int)^i=2^(8*i):=by rw[Int.pow_mul];rfl
   rw[show 8*(i:Int)=((8*i:Nat):Int) by grind,aem (by omega) (by grind) hv];have:=ih (i+1) (by omega);rw[aod (by rw[hA.len];omega),aqO,li]at this;exact this
 have:=loop n 0 (by omega);exact⟨n+1,this⟩
end
end Go.Proofs.YtmegplnmiepfbaaGreatDoor.S.O
namespace Go.Proofs.YtmegplnmiepfbaaGreatDoor.S.O
open Go.Sx
attribute [local irreducible] af cD bz bg aA cy b_ St Bx Al App cK cE cB bV aN bG aq bT av ak aW
section
variable {F:Nat->Prop}{W w:World}{L:List As}{a:Option Addr}{n c:Nat}{bs:List Int}
def clone {K:Option Addr->Nat->Nat->World->Prop}(s:Sep F W w L)(h:Sl w a n c 1 bp bs)(hn:n<=1000000000000)(k:∀ra rc w',Sep F W w' (ak ra n rc 5 1 (flat bp bs)::L)->K ra n rc w'):
  App P #[22,22] 22 (.slice none 0 0) (.slice a n c) w K:=by
 have src:=h.src (e:=5) cZ Bo;refine iy dU (bH s 5 1) (i:=0) (bytes:=1) rfl rfl rfl rfl rfl rfl (by decide) rfl src (by simp[maxLen];omega) (by omega) h.nil λa1 c1 w1 s1=>?_;grind
def au3 {K:Option Addr->Nat->Nat->World->Prop}{b:Nat}(s:Sep F W w (av b 5 []::L))(h:Sl w a n c 1 bp bs)(hn:n<=1000000000000)(k:∀ra rc w',Sep F W w' (ak ra n rc 5 1 (flat bp bs)::L)->K ra n rc w'):
  App P #[22,22] 22 (.slice (sZ b) 0 0) (.slice a n c) w K:=by
 have src:=h.src (e:=5) cZ Bo;have s:=g9 (n:=0) (size:=1) s (i:=0) rfl rfl (by decide) (by simp);refine iy dU s (i:=0) (bytes:=1) rfl rfl rfl rfl rfl rfl (by decide) rfl src (by simp[maxLen];omega) (by omega) h.nil λa1 c1 w1 s1=>?_;grind
def aha {w0:World}{Q:Int->Int->Int->Option Addr->Nat->Nat->Int->World->Prop}(s0:Sep F W w0 L)(hA:Sl w0 a n c 1 bp bs)(hr:ef bs)(hn:0<n)(hn2:n<=1000000000000)
  (h:∀ra rn rc w',rn=(BK bs).1.m.length->Sep F W w' (ak ra rn rc 5 1 (flat bp (BK bs).1.m)::L)->Fr No w0 w'->Q (BK bs).1.k (BK bs).1.A (BK bs).1.B ra rn rc ((BK bs).2:Nat) w'):JV a n c w0 Q:=by
 apply agT;have hl:=hA.len;cases bs with
 |nil=>grind
 |cons x r=>
  obtain⟨hx,hr⟩:=hr.cons;rw[List.length_cons]at hl;have s:=bh (F:=No) (w:=w0);have rr:=hr
  (refine aV s λb w s=>?_;simp[xQ,rR]at s)
  apply Sl.BJ (hA.fr (au s)).drew rfl (by omega);have g0:gi (x::r) 0=x:=rfl;rw[g0,aH];refine hA.lo (m:=1) rfl (by omega) λta tn tc Rh hT=>?_;have hT:Sl w0 ta tn tc 1 bp r:=hT;refine GR (ay s) λw s k=>?_
  (refine aV s λb w s=>?_;simp[xQ,rR]at s)
  (refine ax s (i:=0) rfl rfl rfl λw s=>?_)
  (refine ax s (i:=0) rfl rfl rfl λw s=>?_)
  (refine ax s (i:=0) rfl rfl rfl λw s=>?_)
  have short:BK (x::r)=(⟨0,0,0,[]⟩,0)->∀w',Fr No w0 w'->Q 0 0 0 none 0 0 0 w':=λe w' f=>by rw[e]at h;exact h none 0 0 w' rfl (bH (bW s0 f) 5 1) f
  cases hk:DX x with
  |false=>
   have e:BK (x::r)=(⟨0,x,0,[]⟩,1):=by rw[C8,if_neg (by grind)]
   rw[e]at h
   (refine ax s (i:=1) rfl rfl rfl λw s=>?_)
   (refine ax s (i:=1) rfl rfl rfl λw s=>?_)
   (refine ax s (i:=1) rfl rfl rfl λw s=>?_)
   (refine ax s (i:=1) rfl rfl rfl λw s=>?_)
   apply lI s 1 rfl;apply lI s 1 rfl;apply lI s 1 rfl;apply lS s 1 rfl;exact h none 0 0 _ rfl (bH (bW s0 (au s)) 5 1) (au s)
  |true=>
   apply lB s 0 rfl;cases hL:shL x with
   |true=>
    by_cases h4:tn<4
    ·rw[bM]
     (refine ax s (i:=1) rfl rfl rfl λw s=>?_)
     (refine ax s (i:=1) rfl rfl rfl λw s=>?_)
     (refine ax s (i:=1) rfl rfl rfl λw s=>?_)
     (refine ax s (i:=1) rfl rfl rfl λw s=>?_)
     apply lI s 1 rfl;apply lI s 1 rfl;apply lI s 1 rfl;apply lS s 1 rfl;exact short (by rw[C8,if_pos hk,if_pos hL,A5]) _ (au s)
    ·rw[bj];refine hT.hi (m:=4) rfl (by omega) λua uc hU=>?_;apply GS (hU.fr (au s)) (rr.take 4) (by decide);have l4:(r.take 4).length=4:=by grind
     have rg:=abx (rr.take 4);rw[aH];by_cases h5:(tn:Int)-4<pH (r.take 4)
     ·rw[bM h5]
      (refine ax s (i:=1) rfl rfl rfl λw s=>?_)
      (refine ax s (i:=1) rfl rfl rfl λw s=>?_)
      (refine ax s (i:=1) rfl rfl rfl λw s=>?_)
      (refine ax s (i:=1) rfl rfl rfl λw s=>?_)
      apply lI s 1 rfl;apply lI s 1 rfl;apply lI s 1 rfl;apply lS s 1 rfl;exact short (by rw[C8,if_pos hk,if_pos hL,fU,A5]) _ (au s)
     ·rw[bj h5,aH,aH];have e:BK (x::r)=(⟨x,0,0,(r.drop 4).take (pH (r.take 4)).toNat⟩,5+(pH (r.take 4)).toNat):=by rw[C8,if_pos hk,if_pos hL,fU,fU]
      rw[e]at h;refine hT.mid (p:=4) (q:=4+(pH (r.take 4)).toNat) rfl (by omega) (by omega) (by omega) λva vn vc hvn hV=>?_;rw[show 4+(pH (r.take 4)).toNat-4=(pH (r.take 4)).toNat by omega]at hvn hV;refine clone s (hV.fr (au s)) (by omega) λra rc w s=>?_
      (refine ax s (i:=2) rfl rfl rfl λw s=>?_)
      (refine ax s (i:=2) rfl rfl rfl λw s=>?_)
      (refine ax s (i:=2) rfl rfl rfl λw s=>?_)
      (refine ax s (i:=2) rfl rfl rfl λw s=>?_)
      apply lI s 2 rfl;apply lI s 2 rfl;apply lI s 2 rfl;apply lS s 2 rfl;have hq:=h ra vn rc _ (by grind) (dG s0 s (i:=0) rfl) (au s);grind
   |false=>
    apply lI s 0 rfl;apply lI s 0 rfl;have hab:=aqK x;rw[aH];by_cases h5:tn<xm x+Ch x
    ·rw[bM]
     (refine ax s (i:=1) rfl rfl rfl λw s=>?_)
     (refine ax s (i:=1) rfl rfl rfl λw s=>?_)
     (refine ax s (i:=1) rfl rfl rfl λw s=>?_)
     (refine ax s (i:=1) rfl rfl rfl λw s=>?_)
     apply lI s 1 rfl;apply lI s 1 rfl;apply lI s 1 rfl;apply lS s 1 rfl;exact short (by rw[C8,if_pos hk,if_neg (by grind),A5]) _ (au s)
    ·rw[bj];have e:BK (x::r)=(⟨x,pH (r.take (xm x)),pH ((r.drop (xm x)).take (Ch x)),[]⟩,1+xm x+Ch x):=by rw[C8,if_pos hk,if_neg (by grind),fU]
     rw[e]at h;have s:=ay s;apply lI s 0 rfl;refine hT.hi (m:=xm x) rfl (by omega) λua uc hU=>?_;apply lI s 0 rfl;apply lI s 0 rfl;apply lI s 0 rfl;rw[aH];refine hT.mid (p:=xm x) (q:=xm x+Ch x) rfl (by omega) (by omega) (by omega) λva vn vc hvn hV=>?_;apply lI s 0 rfl;apply lI s 0 rfl;apply GS (hU.fr (au s)) (rr.take _) (by omega);apply And.intro (cm s 0 rfl);apply And.intro (cm s 0 rfl);apply And.intro (cm s 0 rfl);apply And.intro (cm s 0 rfl);apply And.intro (cm s 0 rfl);apply GS (hV.fr (au s)) ((rr.drop _).take _) (by omega);apply And.intro (cm s 0 rfl);apply And.intro (cm s 0 rfl)
     (refine ax s (i:=1) rfl rfl rfl λw s=>?_)
     (refine ax s (i:=1) rfl rfl rfl λw s=>?_)
     (refine ax s (i:=1) rfl rfl rfl λw s=>?_)
     (refine ax s (i:=1) rfl rfl rfl λw s=>?_)
     apply And.intro (cm s 0 rfl);apply And.intro (cm s 0 rfl);apply lI s 1 rfl;apply lI s 1 rfl;apply lI s 1 rfl;apply lS s 1 rfl;rw[aH (n:=(1:Int)+(xm x:Int)),aH];have hq:=h none 0 0 _ rfl (bH (bW s0 (au s)) 5 1) (au s);grind
def aiI {Q:Bool->World->Prop}(s0:Sep F W w L)(hA:Sl w a n c 1 bp bs)(hr:ef bs)(hn2:n<=1000000000000)(h:∀w',Sep F W w' L->Fr No w w'->Q (aqL bs) w'):LF a n c w Q:=by
 apply aiz;have hl:=hA.len;by_cases h0:n=0
 ·subst h0;have:bs=[]:=List.eq_nil_of_length_eq_zero hl;subst this;have:=h w s0 Fr.refl;exact this
 ·rw[show((n:Int)==0)=false by grind,cond_false];have s:=bh (F:=No) (w:=w);refine aha s hA hr (by omega) hn2 λra rn rc w _ s _=>?_
  (refine aV s λb w s=>?_;simp[xQ,rR]at s)
  (refine ax s (i:=0) rfl rfl rfl λw s=>?_)
  (refine ax s (i:=0) rfl rfl rfl λw s=>?_)
  (refine ax s (i:=0) rfl rfl rfl λw s=>?_)
  (refine ax s (i:=0) rfl rfl rfl λw s=>?_)
  have hq:=h _ (bW s0 (au s)) (au s);have hne:bs≠[]:=λe=>by grind
  unfold aqL at hq;rw[decide_eq_true hne,Bool.true_and]at hq;rw[show(((BK bs).2:Int)==0)=decide ((BK bs).2=0) by grind];exact hq
end
def aiJ {F:Nat->Prop}{W w0:World}{L:List As}{a:Option Addr}{n c:Nat}{o:lA}{Q:Bool->World->Prop}(s0:Sep F W w0 L)(hA:Sl w0 a n c 1 bp o.m)(hr:ef o.m)(hn2:n<=1000000000000)(h:∀w',Sep F W w' L->Fr No w0 w'->Q (DY o) w'):LC o.k o.A o.B a n c w0 Q:=by
 apply aiA;obtain⟨k,A,B,m⟩:=o;simp only at hA hr h⊢;have hl:=hA.len;have hm0:((n:Int)==0)=decide (m=[]):=by
  rw[Bool.eq_iff_iff,beq_iff_eq,decide_eq_true_eq];constructor
  ·intro e;simp_all
  grind
 have s:=bh (F:=No) (w:=w0);have hh:∀w' Ls,Sep No w0 w' Ls->Q (DY ⟨k,A,B,m⟩) w':=λw' Ls s=>h w' (bW s0 (au s)) (au s);unfold DY at hh;refine aQ s λb w s=>?_;apply lI s 0 rfl;by_cases hk:k=0
 ·rw[show(k==0)=true by grind,cond_true];apply lI s 0 rfl;by_cases hA1:A=-1
  ·rw[show(A==-1)=true by grind,cond_true];apply lI s 0 rfl;by_cases hB:B=0
   ·rw[show(B==0)=true by grind,cond_true];apply lS s 0 rfl;refine aiI s (hA.fr (au s)) hr hn2 λw s _=>?_;grind
   grind
  ·rw[show(A==-1)=false by grind,cond_false];apply lI s 0 rfl;refine GR s λw s _=>?_
   (refine aV s λb w s=>?_;simp[xQ,rR]at s)
   (refine ax s (i:=0) rfl rfl rfl λw s=>?_)
   (refine ax s (i:=0) rfl rfl rfl λw s=>?_)
   (refine ax s (i:=0) rfl rfl rfl λw s=>?_)
   apply lI s 1 rfl;apply Kh (by decide);cases hf:ES A 1 with
   |false=>
    grind
   |true=>
    cases hs:DX A with
    |true=>
     grind
    |false=>
     apply lI s 1 rfl;by_cases hB:B=0
     ·rw[show(B==0)=true by grind,cond_true];apply lS s 1 rfl;grind
     grind
 ·simp[if_neg hk]at hh;rw[show(k==0)=false by grind,cond_false];apply lI s 0 rfl;refine GR s λw s _=>?_
  (refine aV s λb w s=>?_;simp[xQ,rR]at s)
  (refine ax s (i:=0) rfl rfl rfl λw s=>?_)
  (refine ax s (i:=0) rfl rfl rfl λw s=>?_)
  (refine ax s (i:=0) rfl rfl rfl λw s=>?_)
  cases hs:DX k with
  |false=>
   grind
  |true=>
   have hab:=aqK k;apply lI s 1 rfl;apply lI s 0 rfl;apply Kh hab.1;cases hf:ES A (xm k)with
   |false=>
    grind
   |true=>
    apply lI s 1 rfl;apply lI s 0 rfl;apply Kh hab.2;cases hg:ES B (Ch k)with
    |false=>
     grind
    |true=>
     apply lS s 1 rfl;rw[hm0];by_cases hm:m=[]
     ·grind
     ·rw[bj hm];apply lB s 0 rfl;have:=hh _ _ s;cases hL:shL k with
      |false=>grind
      |true=>
       apply lS s 1 rfl;rw[hs,hf,hg,decide_eq_false hm,Bool.false_or,Bool.true_and,Bool.true_and,Bool.true_and,hL,Bool.true_and]at this;rwa[show decide ((n:Int)<=4294967295)=decide (m.length<=4294967295)from decide_eq_decide.2 (by omega)]
structure HQ where
 k:Int
 A:Int
 B:Int
 a:Option Addr
 n:Nat
 c:Nat
def GU (v:HQ):List Value:=[ae v.k,ae v.A,ae v.B,.slice v.a v.n v.c]
def atH (v:HQ):(GU v).length=4:=rfl
def ak_ (v:HQ)(u:Value)(h:u∈GU v):u.oneCell'=true:=by simp[GU,List.mem_cons,List.not_mem_nil,or_false]at h;rcases h with rfl|rfl|rfl|rfl<;>rfl
structure OpV (w:World) (v:HQ) (o:lA):Prop where
 k:v.k=o.k
 A:v.A=o.A
 B:v.B=o.B
 m:Sl w v.a v.n v.c 1 bp o.m
 jG:ef o.m
structure ahr (e:HQ×lA):Prop where
 k:e.1.k=e.2.k
 A:e.1.A=e.2.A
 B:e.1.B=e.2.B
 jG:ef e.2.m
def E0 (es:List (HQ×lA)):As:=aW (∀e∈es,ahr e) (es.map λe=>ak e.1.a e.1.n e.1.c 5 1 (flat bp e.2.m))
section
variable {F:Nat->Prop}{W w:World}{L:List As}{oa:Option Addr}{on oc:Nat}{es:List (HQ×lA)}
def aoe (s:Sep F W w L):Sep F W w (E0 []::L):=by exact dD s (by simp)
def afD {v:HQ}{o:lA}(s:Sep F W w (E0 es::ak v.a v.n v.c 5 1 (flat bp o.m)::L))(ha:ahr (v,o)):Sep F W w (E0 (es++[(v,o)])::L):=by
 unfold E0 at s⊢;obtain⟨h1,s⟩:=gR s;refine dD ?_ λe he=>?_
 all_goals grind
def awP {v:HQ}{o:lA}{K:Option Addr->Nat->Nat->World->Prop}(s:Sep F W w (ak oa on oc 38 4 (flat GU (es.map (·.1)))::E0 es::ak v.a v.n v.c 5 1 (flat bp o.m)::L))(ha:ahr (v,o))(CN:on<=1000000000)
  (k:∀a' c' w',Sep F W w' (ak a' (on+1) c' 38 4 (flat GU ((es++[(v,o)]).map (·.1)))::E0 (es++[(v,o)])::L)->K a' (on+1) c' w'):
  Bx [ae v.k,ae v.A,ae v.B,.slice v.a v.n v.c] 38 w λp w1=>App P #[46,46] 46 (.slice oa on oc) (.slice (some p) 1 1) w1 K:=by
 refine aQ s λb w1 s1=>?_;have src:Src w1 (sZ b) 1 4 (GU v):=⟨rfl,ak_ v,λj u hj=>by rw[cw,Nat.zero_add];exact cO s1 (i:=0) rfl rfl hj⟩;refine iy dU s1 (i:=1) (bytes:=48) rfl rfl rfl rfl rfl rfl (by decide) rfl src (by simp[maxLen];omega) (by omega) (λe=>by cases e) λa1 c1 w2 s2=>?_;have e:flat GU (es.map (·.1))++GU v=flat GU ((es++[(v,o)]).map (·.1)):=by rw[List.map_append,f_];simp[flat]
 rw[e]at s2;apply k a1 c1 w2;have s4:=cu (ai s2) (List.Perm.trans (List.Perm.swap ..) (List.Perm.cons _ (List.Perm.swap ..)));exact cu (afD s4 ha) (List.Perm.swap ..)
end
def cj {n lo hi:Int}{w:World}{Q:Int->World->Prop}(h1:lo<=hi)(h2:-1099511627776<=lo)(h3:hi<=1099511627776)(h:Q (lo+n%(hi-lo+1)) w):a_ n lo hi w Q:=by
 apply uI;rw[aH (n:=hi-lo),aH];generalize hs:hi-lo+1=s at h;have h4:=Int.lt_tmod_of_pos n (b:=s) (by omega);have h5:=Int.tmod_lt_of_pos n (b:=s) (by omega);have h6:=Int.tmod_add_mul_tdiv n s;refine⟨by omega,?_⟩;generalize ht:Int.tmod n s=t at*;have e:n%s=t%s:=by rw[<-h6,Int.add_mul_emod_self_left]
 by_cases hn:t<0
 ·rw[bM hn,aH (n:=t+hi),aH (n:=t+hi-lo),aH (n:=t+hi-lo+1),aH];have e2:t%s=t+s:=by rw[<-Int.add_emod_right,Int.emod_eq_of_lt (by omega) (by omega)]
  grind
 ·rw[bj hn,aH];rw[e,Int.emod_eq_of_lt (by omega) h5]at h;exact h
def zP {w:World}{m lo hi:Int}{Q:Bool->World->Prop}(h:Q (decide (lo<=m/\m<=hi)) w):mq m lo hi w Q:=by apply Q4;grind
section
variable {F:Nat->Prop}{W w w0:World}{L:List As}{a a' b:Option Addr}{n c n' c' m q:Nat}{bs cs:List Int}
def aiK {x:Int}{K:Option Addr->Nat->Nat->World->Prop}(s:Sep F W w (ak a n c 5 1 (flat bp bs)::L))(hn:n<=2000000000000)
  (k:∀a' c' w',Sep F W w' (ak a' (n+1) c' 5 1 (flat bp (bs++[x]))::L)->K a' (n+1) c' w'):Bx [.int .u8 x] 5 w λp w1=>App P #[22,22] 22 (.slice a n c) (.slice (some p) 1 1) w1 K:=by
 refine aQ s λb w s=>?_;have src:Src w (sZ b) 1 1 [.int .u8 x]:=⟨rfl,(λu hu=>by rw[List.mem_singleton.1 hu];rfl),λj u hj=>by rw[cw,Nat.zero_add];exact cO s (i:=0) rfl rfl hj⟩;refine iy dU s (i:=1) (bytes:=1) rfl rfl rfl rfl rfl rfl (by decide) rfl src (by simp[maxLen];omega) (by omega) (λe=>by cases e) λa1 c1 w1 s1=>?_;have e:flat bp bs++[.int .u8 x]=flat bp (bs++[x]):=by rw[f_];rfl
 rw[e]at s1;exact k _ _ _ (ai s1)
def al_ {K:Option Addr->Nat->Nat->World->Prop}(s:Sep F W w (ak a n c 5 1 (flat bp bs)::L))(h:Sl w b m q 1 bp cs)(hn:n+m<=2000000000000)
  (k:∀a' c' w',Sep F W w' (ak a' (n+m) c' 5 1 (flat bp (bs++cs))::L)->K a' (n+m) c' w'):App P #[22,22] 22 (.slice a n c) (.slice b m q) w K:=by
 have src:=h.src (e:=5) cZ Bo;refine iy dU s (i:=0) (bytes:=1) rfl rfl rfl rfl rfl rfl (by decide) rfl src (by simp[maxLen];omega) (by omega) h.nil λa1 c1 w1 s1=>?_;rw[<-f_]at s1;grind
end
section
variable {F:Nat->Prop}{W w w0:World}{L:List As}
def asB {b:Nat}{x:Int}(s:Sep F W w (av b 5 [.int .u8 x]::L)):Sep F W w (ak (sZ b) 1 1 5 1 (flat bp [x])::L):=
 g9 s (i:=0) rfl rfl (by decide) (λu hu=>by have hu:u∈[Value.int .u8 x]:=hu;rw[List.mem_singleton]at hu;rw[hu];rfl)
end
end Go.Proofs.YtmegplnmiepfbaaGreatDoor.S.O
namespace Go.Proofs.YtmegplnmiepfbaaGreatDoor.S
open Go.Sx
attribute [local irreducible] af cD bz bg aA cy b_ St Bx Al App cK cE cB bV aN bG aq bT av ak aW mapA
def lC {p:Addr}{A B:Prop}(h:B):cond (some p).isNone A B:=h
structure iD where
 m:bJ
 ep:Int
 vs:List Int
structure xR (g:iD):Prop where
 may:cF g.m
 len:(g.vs.length:Int)=eM g.m.w g.m.h
 ep:1<=g.ep/\g.ep<4611686018427387904
 vs:∀v∈g.vs,1<=v/\v<=g.ep
structure uQ where
 p:Nat
 ca:Option Addr
 cn:Nat
 cc:Nat
 va:Option Addr
 vn:Nat
 vc:Nat
def ama (r:uQ)(g:iD):List Value:=[ae g.m.w,ae g.m.h,.slice r.ca r.cn r.cc,ae g.ep,.slice r.va r.vn r.vc]
def ab7 (r:uQ)(g:iD):List As:=[av r.p 174 (ama r g),ak r.ca r.cn r.cc 5 1 (flat bp g.m.cs),ak r.va r.vn r.vc 2 1 (flat one g.vs)]
def oh (r:uQ)(g:iD):As:=aW (xR g) (ab7 r g)
structure nO (w:World) (r:uQ) (g:iD):Prop where
 ok:xR g
 cell:∀(j:Nat) v,(ama r g)[j]? =some v->w.cell? ((aZ r.p).add j)=some v
 C:Sl w r.ca r.cn r.cc 1 bp g.m.cs
 V:Sl w r.va r.vn r.vc 1 one g.vs
def xR.iS {g:iD}(h:xR g):iS g.m.w g.m.h:=⟨h.may.w,h.may.h⟩
section
variable {F:Nat->Prop}{W w w0:World}{L:List As}{r:uQ}{g:iD}
def nO.fr {w':World}(k:nO w r g)(f:Fr No w w'):nO w' r g:=⟨k.ok,λj v h=>Fr.cell f (k.cell j v h) id,k.C.fr f,k.V.fr f⟩
def afE (s:Sep F W w (oh r g::L)):xR g/\Sep F W w (ab7 r g++L):=gR s
def ab8 (s:Sep F W w (ab7 r g++L))(h:xR g):Sep F W w (oh r g::L):=dD s h
def oZ (s:Sep F W w (oh r g::L)):nO w r g:=by obtain⟨h,s⟩:=afE s;exact⟨h,λj v hj=>by rw[cw,Nat.zero_add];exact cO s (i:=0) rfl rfl hj,aG s (i:=1) rfl cZ (by decide),aG s (i:=2) rfl bX (by decide)⟩
def cV (m:bJ)(c:Int):Int:=if 0<=c/\c<m.cs.length then gi m.cs c.toNat else 0
def ju {c:Int}{Q:Int->World->Prop}(k:nO w r g)(h:Q (cV g.m c) w):fg (sZ r.p) c w Q:=by
 apply Sy;apply lC;have hl:=k.C.len;unfold cV at h;by_cases h0:c<0
 ·grind
 rw[bj h0];refine ah (dz (k.cell 2 _ rfl) ?_);by_cases h1:c≥(r.cn:Int)
 ·grind
 rw[bj h1];refine ah (dz (k.cell 2 _ rfl) ?_);rw[A5]at h;have hb:=k.ok.may.jG _ (fm (i:=c.toNat) (by omega));apply k.C.BJ (k:=c.toNat) (by omega) (by omega);rw[aH];exact h
def rD {Q:Int->World->Prop}(k:nO w r g)(h:Q g.ep w):gf (sZ r.p) w Q:=by apply FX;exact lC (ah (aL (k.cell 3 _ rfl) h))
def aas {Q:Int->World->Prop}(h:Q 0 w):gf none w Q:=FX _ _ _ h
def jv {Q:Int->Int->World->Prop}(s0:Sep F W w L)(k:nO w r g)(h:∀w',Sep F W w' L->Fr No w w'->Q g.m.w g.m.h w'):eU (sZ r.p) w Q:=by apply SC;have k:=k.fr (w':=w.drew) Fr.refl;exact lC (ah (aL (k.cell 0 _ rfl) (ah (aL (k.cell 1 _ rfl) ⟨k.cell 1 _ rfl,h _ (ay s0) Fr.refl⟩))))
def zQ (g:iD)(s:Int):Int:=if 0<=s/\s<g.vs.length then gi g.vs s.toNat else 0
def su {c:Int}{Q:Int->World->Prop}(k:nO w r g)(h:Q (zQ g c) w):jf (sZ r.p) c w Q:=by
 apply Na;apply lC;have hl:=k.V.len;unfold zQ at h;by_cases h0:c<0
 ·grind
 rw[bj h0];refine ah (dz (k.cell 4 _ rfl) ?_);by_cases h1:c≥(r.vn:Int)
 ·grind
 rw[bj h1];refine ah (dz (k.cell 4 _ rfl) ?_);rw[A5]at h;exact k.V.ql (by omega) (by omega) h
def Iw {w h s:Int}(hs:dY w h s){y x:Nat}(hx:(x:Int)<aE w h s):bY w h s (y*aE w h s+x)=bY w h s (y*aE w h s)+x:=by obtain⟨e1,e2⟩:=rY (w:=aE w h s) (x:=(x:Int)) (y:=(y:Int)) (by omega);obtain⟨e3,e4⟩:=rY (w:=aE w h s) (x:=0) (y:=(y:Int)) (by omega);unfold bY;grind
def aof {m:bJ}{s:Int}(hm:cF m)(hs:dY m.w m.h s){y tw:Nat}(hw:(tw:Int)=aE m.w m.h s)(hy:(y:Int)<bA m.w m.h s){f:Nat}(hf:(f:Int)=bY m.w m.h s (y*aE m.w m.h s)):
  f+tw<=m.cs.length/\((List.range (y*tw)).map λl:Nat=>gi m.cs (bY m.w m.h s l).toNat)++(m.cs.drop f).take tw=(List.range ((y+1)*tw)).map λl:Nat=>gi m.cs (bY m.w m.h s l).toNat:=by
 have hz:=q_ hs.1.1 hs.1.2 hs.2;have hl:=hm.len;have hin:∀x:Nat,x<tw->0<=bY m.w m.h s (y*aE m.w m.h s)+x/\bY m.w m.h s (y*aE m.w m.h s)+x<m.w*m.h:=λx hx=>by
  rw[<-Iw hs (by omega)];refine Gq hs.1.1 hs.1.2 hs.2 ⟨?_,?_⟩
  ·have:0<=(y:Int)*aE m.w m.h s:=Int.mul_nonneg (by omega) (by omega);omega
  ·have:((y:Int)+1)*aE m.w m.h s<=bA m.w m.h s*aE m.w m.h s:=Int.mul_le_mul_of_nonneg_right (by omega) (by omega);grind
 have awQ:=hin (tw-1) (by omega);refine⟨by omega,?_⟩;rw[Nat.add_mul,Nat.one_mul,List.range_add,List.map_append,List.map_map];congr 1;refine List.ext_getElem (by simp;omega) λi h1 h2=>?_;simp[List.length_map,List.length_range]at h2;simp only[List.getElem_take,List.getElem_drop,List.getElem_map,List.getElem_range,Function.comp];have e:((y*tw+i:Nat):Int)=y*aE m.w m.h s+i:=by grind
 rw[e,Iw hs (by omega)];have e2:(bY m.w m.h s (y*aE m.w m.h s)+(i:Int)).toNat=f+i:=by omega
 have:=h_ (l:=m.cs) (i:=f+i) (by omega);grind
def NU {sc:Int}{Q:Int->Int->Option Addr->Nat->Nat->Bool->World->Prop}(s0:Sep F W w0 L)(k:nO w0 r g)
  (hno:¬dY g.m.w g.m.h sc->∀w',Sep F W w' L->Fr No w0 w'->Q 0 0 none 0 0 false w')
  (hyes:dY g.m.w g.m.h sc->∀ta tn tc w',Sep F W w' (ak ta tn tc 5 1 (flat bp (qB g.m sc))::L)->Fr No w0 w'->Q (aE g.m.w g.m.h sc) (bA g.m.w g.m.h sc) ta tn tc true w'):uA (sZ r.p) sc w0 Q:=by
 apply SJ;have s:=bh (F:=No) (w:=w0);refine aV s λqb w s=>?_;refine jv s (k.fr (au s)) λw s _=>?_;refine vK s λw s _=>?_;unfold ZF adF;have hm:=k.ok.may;have hC:=k.C;have yF:=hC.len;have hmul:=nv k.ok.iS;by_cases hs:dY g.m.w g.m.h sc
 ·have hz:=q_ hs.1.1 hs.1.2 hs.2;rw[if_pos hs,if_pos hs,cL (by omega),cond_false];obtain⟨tw,Ri⟩:∃n:Nat,(n:Int)=aE g.m.w g.m.h sc:=⟨(aE g.m.w g.m.h sc).toNat,by omega⟩;obtain⟨th,hth⟩:∃n:Nat,(n:Int)=bA g.m.w g.m.h sc:=⟨(bA g.m.w g.m.h sc).toNat,by omega⟩;refine aV s λtb w s=>?_;refine ax s (i:=0) rfl rfl rfl λw s=>?_;refine ax s (i:=0) rfl rfl rfl λw s=>?_;refine ax s (i:=0) rfl rfl rfl λw s=>?_;have s:=cu (bH s 5 1) (List.Perm.refl _);have loop:∀(j y:Nat) (ta:Option Addr) (tn tc:Nat) (w:World),y+j=th->tn=y*tw->
    Sep No w0 w [ak ta tn tc 5 1 (flat bp ((List.range (y*tw)).map λl:Nat=>gi g.m.cs (bY g.m.w g.m.h sc l).toNat)),av tb 84 [ae (aE g.m.w g.m.h sc),ae (bA g.m.w g.m.h sc),.slice ta tn tc],av qb 84 [ae 0,ae 0,.slice none 0 0]]->
    oH Q (j+1) (sZ r.p) sc (aZ qb) g.m.w g.m.h (aE g.m.w g.m.h sc) (aZ tb) (bA g.m.w g.m.h sc) y w:=by
   intro j;induction j with
   |zero=>
    intro y ta tn tc w hy Rh s;show r8 Q (oH Q 0) _ _ _ _ _ _ _ _ _ _;rw[r8,bj];apply lI s 1 rfl;apply lI s 1 rfl;apply lS s 1 rfl
    (refine ax s (i:=2) rfl rfl rfl λw s=>?_)
    (refine ax s (i:=2) rfl rfl rfl λw s=>?_)
    (refine ax s (i:=2) rfl rfl rfl λw s=>?_)
    apply lI s 2 rfl;apply lI s 2 rfl;apply lS s 2 rfl;refine hyes hs _ _ _ _ (dG s0 s (i:=0) ?_) (au s);unfold qB;grind
   |succ j ih=>
    intro y ta tn tc w hy Rh s;show r8 Q (oH Q (j+1)) _ _ _ _ _ _ _ _ _ _;unfold r8;have hyl:(y:Int)*aE g.m.w g.m.h sc+aE g.m.w g.m.h sc<=aE g.m.w g.m.h sc*bA g.m.w g.m.h sc:=by have:((y:Int)+1)*aE g.m.w g.m.h sc<=bA g.m.w g.m.h sc*aE g.m.w g.m.h sc:=Int.mul_le_mul_of_nonneg_right (by omega) (by omega);grind
    have hy0:0<=(y:Int)*aE g.m.w g.m.h sc:=Int.mul_nonneg (by omega) (by omega);have ha:=Int.mul_le_mul hz.1.2 hz.2.2 (by omega) (by decide);rw[bM,aH];refine xP s λw s _=>?_;rw[C9,if_pos ⟨hs,by omega,by omega⟩];have hg:=Gq hs.1.1 hs.1.2 hs.2 (l:=(y:Int)*aE g.m.w g.m.h sc) (by omega);obtain⟨f,hf⟩:∃n:Nat,(n:Int)=bY g.m.w g.m.h sc (y*aE g.m.w g.m.h sc):=⟨(bY g.m.w g.m.h sc (y*aE g.m.w g.m.h sc)).toNat,by omega⟩;obtain⟨hin,hrow⟩:=aof hm hs Ri (by omega) hf;rw[<-hf,aH];have s:=ay s;apply lS s 1 rfl;have k':=k.fr (au s);refine ah (dz (k'.cell 2 _ rfl) ?_);refine k'.C.mid (q:=f+tw) rfl (by omega) (by omega) (by omega) λa' n' c' hn' hS=>?_;rw[show f+tw-f=tw by omega]at hS hn';have hyt:((y*tw:Nat):Int)=(y:Int)*aE g.m.w g.m.h sc:=by grind
    refine O.al_ s hS (by omega) λY6 Y7 w s=>?_;refine ax s (i:=1) rfl rfl rfl λw s=>?_;rw[aH];grind
  refine⟨th+1,loop th 0 none 0 0 w (by omega) (by omega) ?_⟩;rw[Nat.zero_mul];exact s
 ·rw[if_neg hs,if_neg hs,ee rfl,cond_true]
  (refine ax s (i:=0) rfl rfl rfl λw s=>?_)
  (refine ax s (i:=0) rfl rfl rfl λw s=>?_)
  (refine ax s (i:=0) rfl rfl rfl λw s=>?_)
  apply lI s 0 rfl;apply lI s 0 rfl;apply lS s 0 rfl;exact hno hs _ (bW s0 (au s)) (au s)
end
section
variable {F:Nat->Prop}{W w w0:World}{L:List As}{r:uQ}{g:iD}{a:Option Addr}{n c:Nat}{bs:List Int}
def Fu {f:Int->List Value}{es:List Int}{e:TypeId}{i k:Nat}{x' idx:Int}{v:Value}{K:World->Prop}(hf:∀x,(f x).length=1)(s:Sep F W w L)(hi:L[i]? =some (ak a n c e 1 (flat f es)))(hk:idx=k)(hkn:k<es.length)(hx':f x'=[v])(hv:v.oneCell'=true)
  (h:∀w',Sep F W w' (L.set i (ak a n c e 1 (flat f (es.set k x'))))->K w'):aJ idx n (wA a λp=>St (p.add (idx.toNat*1)) v w K):=by
 have hn:=rJ s hi;rw[iX hf,Nat.mul_one,Nat.mul_one]at hn;obtain⟨b,o,rfl⟩:=qk s hi (by omega);subst hk;refine⟨by omega,by omega,ah ?_⟩;obtain⟨x,hx⟩:∃x,es[k]? =some x:=⟨_,List.getElem?_eq_getElem hkn⟩;have h1:=hf x;refine dW hf s hi hx (j:=0) (by simp[Addr.add]) (by decide) ?_ hv h;rw[hx']
 match hfx:f x,h1 with
 |[y],_=>rfl
def GV {Q:Option Addr->Nat->Nat->World->Prop}(s:Sep F W w L)(hA:Sl w a n c 1 bp bs)(hn:n<=1000000000000)(h:∀ra rc w',Sep F W w' (ak ra n rc 5 1 (flat bp bs)::L)->Fr No w w'->Q ra n rc w'):jR a n c w Q:=by
 apply Ir;cases a with
 |none=>
  have hl:=hA.len;have:=hA.nil rfl;have h0:n=0:=by have:=hA.le;omega
  subst h0;have hb:=List.eq_nil_of_length_eq_zero hl;subst hb;exact h _ _ _ (bH s 5 1) Fr.refl
 |some p=>
  apply lC;refine aQ (bh (F:=No)) λb w' s'=>?_;refine O.au3 s' (hA.fr (au s')) hn λra rc w' s'=>?_;exact h _ _ _ (dG s s' (i:=0) rfl) (au s')
def XG (m:bJ):Bool:=decide (iS m.w m.h)&&(decide ((m.cs.length:Int)=m.w*m.h)&&!decide ((0:Int)∈m.cs))
def Wv {m:bJ}(hr:ef m.cs):XG m=true↔cF m:=by
 simp[XG,Bool.and_eq_true,decide_eq_true_eq,Bool.not_eq_true',decide_eq_false_iff_not];constructor
 ·rintro ⟨h1,h2,h3⟩;refine⟨h1.1,h1.2,h2,λx hx=>?_⟩;have:=hr x hx;grind
 ·intro h;exact⟨⟨h.w,h.h⟩,h.len,λh0=>by have:=h.jG _ h0;omega⟩
def NV {m:bJ}{Q:Bool->World->Prop}(s0:Sep F W w L)(hA:Sl w a n c 1 bp m.cs)(h:∀w',Sep F W w' L->Fr No w w'->Q (XG m) w'):BL m.w m.h a n c w Q:=by
 apply abQ;refine aQ (bh (F:=No)) λmb w s=>?_;apply lI s 0 rfl;apply lI s 0 rfl;apply qd;have hA:=hA.fr (au s);have hl:=hA.len;have h:=h w (bW s0 (au s)) (au s);unfold XG at h;by_cases hm:iS m.w m.h
 ·have hmul:=nv hm;rw[bM hm];rw[decide_eq_true hm,Bool.true_and]at h;apply lS s 0 rfl;apply lI s 0 rfl;apply lI s 0 rfl;rw[aH];by_cases hc:(m.cs.length:Int)=m.w*m.h
  ·rw[ee (by omega),cond_true];rw[decide_eq_true hc,Bool.true_and]at h;apply lS s 0 rfl;exact Tl.Iv hA.row (by omega) h
  grind
 grind
def Ph (m:bJ)(e:Int):iD:=⟨m,e+1,List.replicate (eM m.w m.h).toNat (e+1)⟩
def alb {m:bJ}{e:Int}(hm:cF m)(he:0<=e/\e<2305843009213693952):xR (Ph m e):=by
 have hc:=gS hm.w hm.h;refine⟨hm,?_,by show 1<=e+1/\e+1<_;omega,λv hv=>?_⟩
 ·show((List.replicate _ _).length:Int)=_;rw[List.length_replicate];show((eM m.w m.h).toNat:Int)=eM m.w m.h;omega
 ·rw[List.eq_of_mem_replicate hv];show 1<=e+1/\e+1<=e+1;omega
def aeo {m:bJ}{e:Int}{Q:Option Addr->World->Prop}(s0:Sep F W w0 L)(hA:Sl w0 a n c 1 bp m.cs)(hr:ef m.cs)(he:0<=e/\e<2305843009213693952)
  (hno:¬cF m->∀w',Sep F W w' L->Fr No w0 w'->Q none w')(hyes:cF m->∀r w',Sep F W w' (oh r (Ph m e)::L)->Fr No w0 w'->Q (sZ r.p) w'):Ie m.w m.h a n c e w0 Q:=by
 apply ad4;refine aQ (bh (F:=No)) λmb w s=>?_;apply lI s 0 rfl;apply lI s 0 rfl;apply lS s 0 rfl;refine NV s (hA.fr (au s)) λw s _=>?_;by_cases hm:cF m
 ·have hmul:=nv ⟨hm.w,hm.h⟩;have hl:=hA.len;have hlen:=hm.len;have Rj:=gS hm.w hm.h;rw[(Wv hr).2 hm,Bool.not_true,cond_false,bj,bj];apply lS s 0 rfl;refine GV s (hA.fr (au s)) (by omega) λca cc w s _=>?_;refine ax s (i:=1) rfl rfl rfl λw s=>?_;apply lI s 1 rfl;apply lI s 1 rfl;apply q8;unfold aao ael;rw[if_pos ⟨hm.w,hm.h⟩,if_pos ⟨hm.w,hm.h⟩];have s:=ay s;apply lI s 1 rfl;apply lI s 1 rfl;apply lS s 1 rfl;rw[show cS m.w*cS m.h=eM m.w m.h from rfl,aH,aH];obtain⟨N,hN⟩:∃N:Nat,eM m.w m.h=N:=⟨(eM m.w m.h).toNat,by omega⟩;rw[hN];refine tg (bytes:=8) dU s rfl rfl rfl rfl rfl rfl (by decide) bX rfl (λu hu=>by simp[one]at hu;subst hu;rfl) rfl rfl (Nat.le_refl _) (by omega) (by simp[maxLen];omega) λvb w s=>?_;refine⟨cm s 2 rfl,cm s 2 rfl,cm s 2 rfl,?_⟩;refine aQ s λgb w s=>?_;apply lS s 0 rfl;have loop:∀(j i:Nat) (w:World),i+j=N->Sep No w0 w (av gb 174 [ae m.w,ae m.h,.slice ca n cc,ae (e+1),.slice (sZ vb) N N]::ak (sZ vb) N N 2 1 (flat one (List.replicate i (e+1)++List.replicate j 0))::ak ca n cc 5 1 (flat bp m.cs)::av mb 25 [ae m.w,ae m.h,.slice ca n cc]::[])->
    zB Q (j+1) (aZ gb) N i w:=by
   intro j;induction j with
   |zero=>
    intro i w hi s;show Cz Q (zB Q 0) _ _ _ _;rw[Cz,bj];have hi:i=N:=by omega
    subst hi;have s:=ck (L':=[_,_,_]) [0,2,1] s rfl (by decide);have s:Sep No w0 w (ab7 ⟨gb,ca,n,cc,sZ vb,i,i⟩ (Ph m e)++[]):=by
     have e1:(Ph m e).vs=List.replicate i (e+1)++List.replicate 0 0:=by show List.replicate (eM m.w m.h).toNat (e+1)=_;grind
     show Sep No w0 w [av gb 174 (ama ⟨gb,ca,n,cc,sZ vb,i,i⟩ (Ph m e)),ak ca n cc 5 1 (flat bp m.cs),ak (sZ vb) i i 2 1 (flat one (Ph m e).vs)];rw[e1];exact s
    have s:=ab8 s (alb hm he);exact hyes hm ⟨gb,ca,n,cc,sZ vb,i,i⟩ _ (dG s0 s (i:=0) rfl) (au s)
   |succ j ih=>
    intro i w hi s;show Cz Q (zB Q (j+1)) _ _ _ _;rw[Cz,bM];have s:=ay s;apply lS s 0 rfl;apply lI s 0 rfl;refine Fu (x':=e+1) bX s (i:=1) rfl rfl (by simp) rfl rfl λw s=>?_;rw[aH];apply ih (i+1) w (by omega);have e1:(List.replicate i (e+1)++List.replicate (j+1) 0).set i (e+1)=List.replicate (i+1) (e+1)++List.replicate j 0:=by rw[List.set_append_right _ _ (by simp),List.length_replicate,Nat.sub_self,List.replicate_succ,List.set_cons_zero,List.replicate_succ',List.append_assoc];rfl
    grind
  exact⟨N+1,loop N 0 w (by omega) s⟩
 ·have hb:XG m=false:=by
   cases hb:XG m with
   |false=>rfl
   |true=>exact(hm ((Wv hr).1 hb)).elim
  rw[hb,Bool.not_false,cond_true];exact hno hm _ (bW s0 (au s)) (au s)
def xS (g:iD)(c x:Int):iD:=⟨⟨g.m.w,g.m.h,g.m.cs.set c.toNat x⟩,g.ep+1,g.vs.set (aC g.m.w g.m.h c).toNat (g.ep+1)⟩
def aiL {g:iD}(hg:xR g){c x:Int}(hx:1<=x/\x<=255)(he:g.ep<2305843009213693952):xR (xS g c x):=by
 refine⟨⟨hg.may.w,hg.may.h,?_,λy hy=>?_⟩,?_,?_,λv hv=>?_⟩
 ·show((g.m.cs.set c.toNat x).length:Int)=_;rw[List.length_set];exact hg.may.len
 ·rcases List.mem_or_eq_of_mem_set hy with hy|rfl
  ·exact hg.may.jG y hy
  ·omega
 ·show((g.vs.set _ _).length:Int)=_;rw[List.length_set];exact hg.len
 ·have:=hg.ep;show 1<=g.ep+1/\g.ep+1<_;omega
 ·have:=hg.ep;show 1<=v/\v<=g.ep+1;rcases List.mem_or_eq_of_mem_set hv with hv|rfl
  ·have:=hg.vs v hv;omega
  ·omega
def ab9 {ce x:Int}{Q:Int->World->Prop}(s:Sep F W w (oh r g::L))(he:g.ep<2305843009213693952)
  (h7:¬bI g.m.w g.m.h ce->Q 7 w)(h8:bI g.m.w g.m.h ce->¬(1<=x/\x<=255)->Q 8 w)
  (h0:bI g.m.w g.m.h ce->1<=x/\x<=255->∀w',Sep F W w' (oh r (xS g ce x)::L)->Q 0 w'):Aq (sZ r.p) ce x w Q:=by
 apply SE;apply lC;have k:=oZ s;obtain⟨hg,s⟩:=afE s;have s:=s;have hl:=k.C.len;have hlen:=hg.may.len;by_cases h1:ce<0
 ·rw[bM h1];exact h7 λe=>by have:=e.2;omega
 rw[bj h1];apply ah;apply lS s 0 rfl;by_cases h2:ce≥(r.cn:Int)
 ·rw[bM h2];exact h7 λe=>by have:=e.2;omega
 rw[bj h2];have hc:bI g.m.w g.m.h ce:=⟨hg.iS,by omega,by omega⟩;by_cases h3:x<1
 ·grind
 rw[bj h3];by_cases h4:x>255
 ·grind
 rw[bj h4];have Y8:=hg.ep;apply ah;apply lS s 0 rfl;rw[wrap_u8',Int.emod_eq_of_lt (by omega) (by omega)];refine Fu (k:=ce.toNat) (x':=x) cZ s (i:=1) rfl (by omega) (by omega) rfl rfl λw s=>?_;apply ah;apply lI s 0 rfl;apply ah;rw[aH];refine ax s (i:=0) rfl rfl rfl λw s=>?_;have s:=ay s;apply ah;apply lS s 0 rfl;apply ah;apply lI s 0 rfl;apply ah;apply lI s 0 rfl;apply ah;apply lI s 0 rfl;refine e_ s λw s _=>?_;refine⟨cm s 0 rfl,cm s 0 rfl,?_⟩;have hs:=bU hc;have hvl:=hg.len;refine Fu (k:=(aC g.m.w g.m.h ce).toNat) (x':=g.ep+1) bX s (i:=2) rfl (by have:=hs.2;omega) (by have:=hs.2;omega) rfl rfl λw s=>?_;exact h0 hc (by omega) _ (ab8 s (aiL hg (by omega) he))
def aep {Q:Int->Int->Option Addr->Nat->Nat->World->Prop}(s0:Sep F W w0 L)(k:nO w0 r g)
  (h:∀ra rc w',Sep F W w' (ak ra r.cn rc 5 1 (flat bp g.m.cs)::L)->Fr No w0 w'->Q g.m.w g.m.h ra r.cn rc w'):Bt (sZ r.p) w0 Q:=by
 apply Ve;refine aV (bh (F:=No)) λmb w s=>?_;apply lC;have hm:=k.ok.may;have hmul:=nv k.ok.iS;have hlen:=hm.len;have hl:=k.C.len;have s:=ay s;have k':=k.fr (au s);refine ah (aL (k'.cell 0 _ rfl) ?_);refine ah (aL (k'.cell 1 _ rfl) ?_);refine ah (dz (k'.cell 2 _ rfl) ?_);refine GV s k'.C (by omega) λra rc w s _=>?_;have k':=k.fr (au s);refine⟨k'.cell 1 _ rfl,k'.cell 0 _ rfl,?_⟩
 (refine ax s (i:=1) rfl rfl rfl λw s=>?_)
 (refine ax s (i:=1) rfl rfl rfl λw s=>?_)
 (refine ax s (i:=1) rfl rfl rfl λw s=>?_)
 apply lI s 1 rfl;apply lI s 1 rfl;apply lS s 1 rfl;exact h _ _ _ (dG s0 s (i:=0) rfl) (au s)
end
def gM (w h c s:Int):Int:=if aY w h c s<0 then-1 else if aC w h (aY w h c s)=aC w h c then-1 else aY w h c s
def eE (m:bJ)(c:Int):Bool:=decide (0<cV m c/\cV m c<255)
def mT (n:Int)(f:Int->Int):List Int:=(List.range n.toNat).map λi:Nat=>f i
def mU (tw th s:Int):List Int:=
 if s=2 then mT tw λx=>(th-1)*tw+x
 else if s=0 then mT tw λx=>0+x
 else if s=1 then mT th λy=>tw-1+y*tw
 else if s=3 then mT th λy=>0+y*tw
 else[]
def ab_ {k:IntKind}{n:Int}{K:Int->Prop}(h:K n):dI k (.int k n) K:=by cases k<;>exact h
def au5 {K:Value->Prop}{a b c d:Int}{j:Nat}{x:Int}(hj:j=0/\x=a\/j=1/\x=b\/j=2/\x=c\/j=3/\x=d)(h:K (ae x)):IxV [ae a,ae b,ae c,ae d] j K:=by rcases hj with⟨rfl,rfl⟩|⟨rfl,rfl⟩|⟨rfl,rfl⟩|⟨rfl,rfl⟩<;>exact⟨_,rfl,h⟩
section
variable {F:Nat->Prop}{W w w0:World}{L:List As}{r:uQ}{g:iD}{a:Option Addr}{n c:Nat}{bs:List Int}{mw mh ce:Int}
def L_ {x:Int}{K:Option Addr->Nat->Nat->World->Prop}(s:Sep F W w (ak a n c 3 1 (flat one bs)::L))(hn:n<=1000000000)
  (k:∀a' c' w',Sep F W w' (ak a' (n+1) c' 3 1 (flat one (bs++[x]))::L)->K a' (n+1) c' w'):Bx [ae x] 3 w λp w1=>App P #[29,29] 29 (.slice a n c) (.slice (some p) 1 1) w1 K:=by
 refine aQ s λb w s=>?_;have src:Src w (sZ b) 1 1 [ae x]:=⟨rfl,(λu hu=>by rw[List.mem_singleton.1 hu];rfl),λj u hj=>by rw[cw,Nat.zero_add];exact cO s (i:=0) rfl rfl hj⟩;refine iy dU s (i:=1) (bytes:=8) rfl rfl rfl rfl rfl rfl (by decide) rfl src (by simp[maxLen];omega) (by omega) (λe=>by cases e) λa1 c1 w1 s1=>?_;have e:flat one bs++[ae x]=flat one (bs++[x]):=by rw[f_];rfl
 rw[e]at s1;exact k _ _ _ (ai s1)
def Ju {Q:Int->Int->Int->Int->World->Prop}(s0:Sep F W w L)(h:∀w',Sep F W w' L->Fr No w w'->Q 0 1 2 3 w'):xA w Q:=by
 apply V6;refine aV (bh (F:=No)) λb w s=>?_
 (refine ax s (i:=0) rfl rfl rfl λw s=>?_)
 (refine ax s (i:=0) rfl rfl rfl λw s=>?_)
 (refine ax s (i:=0) rfl rfl rfl λw s=>?_)
 (refine ax s (i:=0) rfl rfl rfl λw s=>?_)
 apply lI s 0 rfl;apply lI s 0 rfl;apply lI s 0 rfl;apply lI s 0 rfl;exact h _ (bW s0 (au s)) (au s)
def Ku {sd:Int}{Q:Int->World->Prop}(s0:Sep F W w L)(h:∀w',Sep F W w' L->Fr No w w'->Q (gM mw mh ce sd) w'):yO mw mh ce sd w Q:=by
 apply Ys;refine jz (bh (F:=No)) λw s _=>?_;have fin:∀w',Sep No _ w' []->Q (gM mw mh ce sd) w':=λw' s=>h w' (bW s0 (au s)) (au s);unfold gM at fin;by_cases h1:aY mw mh ce sd<0
 ·grind
 rw[bj h1];refine e_ s λw s _=>?_;refine e_ s λw s _=>?_;grind
def Ed {Q:Bool->World->Prop}(k:nO w r g)(h:Q (eE g.m ce) w):tI (sZ r.p) ce w Q:=by apply Yw;apply ju k;unfold eE at h;grind
def acd (n:Nat)(f:Int->Int):mT ((n+1:Nat):Int) f=mT n f++[f n]:=by unfold mT;rw[Int.toNat_natCast,Int.toNat_natCast,List.range_succ,List.map_append];rfl
def afF {Q:Option Addr->Nat->Nat->World->Prop}{f0:Int}{N:Nat}(hf:0<=f0/\f0<=100000)(hN:N<=16)(h:∀ra rc w',Sep F W w' (ak ra N rc 3 1 (flat one (mT N λx=>f0+x))::L)->Q ra N rc w'):
  ∀(j i:Nat) (la:Option Addr) (lc:Nat) (w:World),i+j=N->Sep F W w (ak la i lc 3 1 (flat one (mT i λx=>f0+x))::L)->nK Q (j+1) la i lc f0 N i w:=by
 intro j;induction j with
 |zero=>
  intro i la lc w hi s;show tM Q (nK Q 0) _ _ _ _ _ _ _;unfold tM;grind
 |succ j ih=>
  intro i la lc w hi s;show tM Q (nK Q (j+1)) _ _ _ _ _ _ _;rw[tM,bM,aH];refine L_ s (by omega) λla lc w s=>?_;rw[aH];rw[<-acd i λx=>f0+x]at s;exact ih (i+1) la lc w (by omega) s
def afG {Q:Option Addr->Nat->Nat->World->Prop}{f0 tw:Int}{N:Nat}(hf:0<=f0/\f0<=100000)(ht:0<=tw/\tw<=16)(hN:N<=16)(h:∀ra rc w',Sep F W w' (ak ra N rc 3 1 (flat one (mT N λy=>f0+y*tw))::L)->Q ra N rc w'):
  ∀(j i:Nat) (la:Option Addr) (lc:Nat) (w:World),i+j=N->Sep F W w (ak la i lc 3 1 (flat one (mT i λy=>f0+y*tw))::L)->nL Q (j+1) tw la i lc f0 N i w:=by
 intro j;induction j with
 |zero=>
  intro i la lc w hi s;show tN Q (nL Q 0) _ _ _ _ _ _ _ _;unfold tN;grind
 |succ j ih=>
  intro i la lc w hi s;show tN Q (nL Q (j+1)) _ _ _ _ _ _ _ _;unfold tN;have h1:0<=(i:Int)*tw:=Int.mul_nonneg (by omega) ht.1;have h2:(i:Int)*tw<=16*16:=Int.mul_le_mul (by omega) ht.2 ht.1 (by decide);rw[bM,aH (n:=(i:Int)*tw),aH];refine L_ s (by omega) λla lc w s=>?_;rw[aH];rw[<-acd i λy=>f0+y*tw]at s;exact ih (i+1) la lc w (by omega) s
def Ww {tw th sd:Int}{Q:Option Addr->Nat->Nat->World->Prop}(s0:Sep F W w L)(ht:1<=tw/\tw<=16)(hh:1<=th/\th<=16)
  (h:∀ra rn rc w',Sep F W w' (ak ra rn rc 3 1 (flat one (mU tw th sd))::L)->Q ra rn rc w'):Ct tw th sd w Q:=by
 apply V7;have s:=bH s0 3 1;obtain⟨TW,rfl⟩:∃N:Nat,tw=N:=⟨tw.toNat,by omega⟩;obtain⟨TH,rfl⟩:∃N:Nat,th=N:=⟨th.toNat,by omega⟩;unfold mU at h;by_cases k2:sd=2
 ·rw[ee k2,cond_true];rw[if_pos k2]at h;have h1:0<=((TH:Int)-1)*TW:=Int.mul_nonneg (by omega) (by omega);have h2:((TH:Int)-1)*TW<=16*16:=Int.mul_le_mul (by omega) (by omega) (by omega) (by decide);rw[aH (n:=(TH:Int)-1),aH];exact⟨TW+1,afF (by omega) (by omega) (λra rc w' s=>h ra TW rc w' s) TW 0 none 0 w (by omega) s⟩
 rw[cL k2,cond_false];rw[if_neg k2]at h;by_cases k0:sd=0
 ·rw[ee k0,cond_true];rw[if_pos k0]at h;exact⟨TW+1,afF (by omega) (by omega) (λra rc w' s=>h ra TW rc w' s) TW 0 none 0 w (by omega) s⟩
 rw[cL k0,cond_false];rw[if_neg k0]at h;by_cases k1:sd=1
 ·rw[ee k1,cond_true];rw[if_pos k1]at h;rw[aH];exact⟨TH+1,afG (by omega) (by omega) (by omega) (λra rc w' s=>h ra TH rc w' s) TH 0 none 0 w (by omega) s⟩
 rw[cL k1,cond_false];rw[if_neg k1]at h;by_cases k3:sd=3
 ·rw[ee k3,cond_true];rw[if_pos k3]at h;exact⟨TH+1,afG (by omega) (by omega) (by omega) (λra rc w' s=>h ra TH rc w' s) TH 0 none 0 w (by omega) s⟩
 rw[cL k3,cond_false];rw[if_neg k3]at h;exact h _ _ _ _ s
end
def bl (b:Bool):List Value:=[.bool b]
def aiM (b:Bool):(bl b).length=1:=rfl
def Jv (w h sc s:Int):Bool:=decide (0<=gM w h (C9 w h sc (gi (mU (aE w h sc) (bA w h sc) s) 0)) s)
def yT (w h sc:Int)(j:Nat)(l:Nat):Bool:=(List.range j).any λs:Nat=>Jv w h sc s&&decide ((l:Int)∈mU (aE w h sc) (bA w h sc) s)
def vL (w h sc:Int):List Int:=((List.range (aE w h sc*bA w h sc).toNat).filter (yT w h sc 4)).map λl:Nat=>bY w h sc l
def amc (w h sc:Int)(j l:Nat):yT w h sc (j+1) l=(yT w h sc j l||(Jv w h sc j&&decide ((l:Int)∈mU (aE w h sc) (bA w h sc) j))):=by unfold yT;grind
def mem_range {n x:Int}{f:Int->Int}(h:x∈mT n f):∃i:Nat,(i:Int)<n/\x=f i:=by unfold mT at h;grind
def xU (n:Int)(f:Int->Int):(mT n f).length=n.toNat:=by unfold mT;simp
def aiN {tw th sd:Int}(ht:1<=tw/\tw<=16)(hh:1<=th/\th<=16):(mU tw th sd).length<=16/\(0<=sd/\sd<=3->0<(mU tw th sd).length)/\∀x∈mU tw th sd,0<=x/\x<tw*th:=by
 have m1:∀y:Int,0<=y->y<th->0<=y*tw/\y*tw+tw<=tw*th:=λy h1 h2=>by have a:0<=y*tw:=Int.mul_nonneg h1 (by omega);have b:(y+1)*tw<=th*tw:=Int.mul_le_mul_of_nonneg_right (by omega) (by omega);grind
 unfold mU;split
 ·refine⟨by rw[xU];omega,λ_=>by rw[xU];omega,λx hx=>?_⟩;obtain⟨i,hi,rfl⟩:=mem_range hx;have:=m1 (th-1) (by omega) (by omega);omega
 ·split
  ·refine⟨by rw[xU];omega,λ_=>by rw[xU];omega,λx hx=>?_⟩;obtain⟨i,hi,rfl⟩:=mem_range hx;have:=m1 0 (by omega) (by omega);omega
  ·split
   ·refine⟨by rw[xU];omega,λ_=>by rw[xU];omega,λx hx=>?_⟩;obtain⟨i,hi,rfl⟩:=mem_range hx;grind
   ·split
    ·refine⟨by rw[xU];omega,λ_=>by rw[xU];omega,λx hx=>?_⟩;obtain⟨i,hi,rfl⟩:=mem_range hx;grind
    grind
def aoh {N x:Nat}{E:Nat->Bool}:((List.range N).map E).set x true=(List.range N).map λl=>E l||decide (l=x):=by refine List.ext_getElem (by simp) λi h1 h2=>?_;grind
section
variable {F:Nat->Prop}{W w w0:World}{L:List As}{r:uQ}{g:iD}{a:Option Addr}{n c:Nat}{bs:List Int}{mw mh ce sc:Int}
def Ad {α:Type}{f:α->List Value}{es:List α}{e:TypeId}{i k:Nat}{x':α}{idx:Int}{v:Value}{K:World->Prop}(hf:∀x,(f x).length=1)(s:Sep F W w L)(hi:L[i]? =some (ak a n c e 1 (flat f es)))(hk:idx=k)(hkn:k<es.length)(hx':f x'=[v])(hv:v.oneCell'=true)
  (h:∀w',Sep F W w' (L.set i (ak a n c e 1 (flat f (es.set k x'))))->K w'):aJ idx n (wA a λp=>St (p.add (idx.toNat*1)) v w K):=by
 have hn:=rJ s hi;rw[iX hf,Nat.mul_one,Nat.mul_one]at hn;obtain⟨b,o,rfl⟩:=qk s hi (by omega);subst hk;refine⟨by omega,by omega,ah ?_⟩;obtain⟨x,hx⟩:∃x,es[k]? =some x:=⟨_,List.getElem?_eq_getElem hkn⟩;have h1:=hf x;refine dW hf s hi hx (j:=0) (by simp[Addr.add]) (by decide) ?_ hv h;rw[hx']
 match hfx:f x,h1 with
 |[y],_=>rfl
def aoi {P4:Int->Int->Int->Int->Int->Option Addr->Nat->Nat->Int->Int->Int->Int->Int->World->Prop}{Q:Option Addr->Nat->Nat->World->Prop}{tw th sd:Int}{ea la:Option Addr}{N ec ln lc:Nat}{xs:List Int}{E:Nat->Bool}(wD:0<=sd/\sd<=3)(hl:xs.length=ln)(qu:ln<=16)(hx:∀x∈xs,0<=x/\x<N)
  (next:∀w',Sep No w0 w' (ak ea N ec 4 1 (flat bl ((List.range N).map λl=>E l||decide ((l:Int)∈xs)))::ak la ln lc 3 1 (flat one xs)::L)->P4 mw mh sc tw th ea N ec 0 1 2 3 (sd+1) w'):
  ∀(j i:Nat) (w:World),i+j=ln->Sep No w0 w (ak ea N ec 4 1 (flat bl ((List.range N).map λl=>E l||decide ((l:Int)∈xs.take i)))::ak la ln lc 3 1 (flat one xs)::L)->
   ri P4 Q (j+1) mw mh sc tw th ea N ec 0 1 2 3 sd la ln lc ln i w:=by
 intro j;induction j with
 |zero=>
  intro i w hi s;show vz P4 Q (ri P4 Q 0) _ _ _ _ _ _ _ _ _ _ _ _ _ _ _ _ _ _ _;rw[vz,bj,aH];grind
 |succ j ih=>
  intro i w hi s;show vz P4 Q (ri P4 Q (j+1)) _ _ _ _ _ _ _ _ _ _ _ _ _ _ _ _ _ _ _;rw[vz,bM];have hX:=aG s (i:=1) rfl bX (by decide);apply hX.ql rfl (by omega);have hxi:=hx _ (fm (i:=i) (by omega));obtain⟨x,hxe⟩:∃x:Nat,gi xs i=x:=⟨(gi xs i).toNat,by omega⟩;rw[hxe]at hxi⊢;refine Ad (x':=true) aiM s (i:=0) rfl rfl (by simp;omega) rfl rfl λw s=>?_;rw[aH];apply ih (i+1) w (by omega);rw[aoh]at s;have e:(λl:Nat=>(E l||decide ((l:Int)∈xs.take i))||decide (l=x))=λl:Nat=>E l||decide ((l:Int)∈xs.take (i+1)):=by
   funext l;rw[Bool.or_assoc];congr 1;have ht:xs.take (i+1)=xs.take i++[(x:Int)]:=by rw[List.take_add_one,h_ (by omega),hxe];rfl
   grind
  grind
def aoj {Q:Option Addr->Nat->Nat->World->Prop}{ea:Option Addr}{N ec:Nat}{E:Nat->Bool}(hs:dY mw mh sc)(hN:(N:Int)=aE mw mh sc*bA mw mh sc)(hN2:N<=256)
  (h:∀ra rn rc w',Sep No w0 w' (ak ra rn rc 3 1 (flat one (((List.range N).filter E).map λl:Nat=>bY mw mh sc l))::ak ea N ec 4 1 (flat bl ((List.range N).map E))::L)->Q ra rn rc w'):
  ∀(j i:Nat) (oa:Option Addr) (on oc:Nat) (w:World),i+j=N->on<=i->Sep No w0 w (ak oa on oc 3 1 (flat one (((List.range i).filter E).map λl:Nat=>bY mw mh sc l))::ak ea N ec 4 1 (flat bl ((List.range N).map E))::L)->
   qh Q (j+1) mw mh sc oa on oc ea N ec N i w:=by
 intro j;induction j with
 |zero=>
  intro i oa on oc w hi ho s;show tO Q (qh Q 0) _ _ _ _ _ _ _ _ _ _ _ _;unfold tO;grind
 |succ j ih=>
  intro i oa on oc w hi ho s;show tO Q (qh Q (j+1)) _ _ _ _ _ _ _ _ _ _ _ _;rw[tO,bM];obtain⟨b,o,rfl⟩:=qk s (i:=1) rfl (by omega);refine⟨by omega,by omega,ah ?_⟩;apply akl aiM s (i:=1) (k:=i) (j:=0) rfl (x:=E i) (by grind) (by simp[Addr.add]) rfl;have hf:(List.range (i+1)).filter E=(List.range i).filter E++(if E i=true then[i]else[]):=by rw[List.range_succ,List.filter_append];grind
  cases hE:E i with
  |true=>
   refine xP s λw s _=>?_;unfold C9;refine L_ s (by omega) λoa oc w s=>?_;rw[aH];apply ih (i+1) oa (on+1) oc w (by omega) (by omega);grind
  |false=>
   rw[cond_false,aH];grind
def Wx {Q:Option Addr->Nat->Nat->World->Prop}(s0:Sep F W w L)(hs:dY mw mh sc)(h:∀ra rn rc w',Sep F W w' (ak ra rn rc 3 1 (flat one (vL mw mh sc))::L)->Fr No w w'->Q ra rn rc w'):Cr mw mh sc w Q:=by
 apply V8;have hz:=q_ hs.1.1 hs.1.2 hs.2;have hmx:=Int.mul_le_mul hz.1.2 hz.2.2 (by omega) (by decide);have hmn:=Int.mul_le_mul hz.1.1 hz.2.1 (by decide) (by omega);obtain⟨N,hN⟩:∃N:Nat,aE mw mh sc*bA mw mh sc=N:=⟨(aE mw mh sc*bA mw mh sc).toNat,by omega⟩;refine vK (bh (F:=No)) λw1 s _=>?_;unfold ZF adF;rw[if_pos hs,if_pos hs,aH,hN];refine tg (bytes:=1) dU s rfl rfl rfl rfl rfl rfl (by decide) aiM rfl (λu hu=>by simp[bl]at hu;subst hu;rfl) rfl rfl (Nat.le_refl _) (by omega) (by simp[maxLen];omega) λeb w1 s=>?_;refine Ju s λw1 s _=>?_;have aqs:List.replicate N false=(List.range N).map (yT mw mh sc 0):=by refine List.ext_getElem (by simp) λi h1 h2=>?_;simp[yT]
 rw[aqs]at s;have loop:∀(j i:Nat) (w1:World) (L':List As),i+j=4->Sep No w w1 (ak (sZ eb) N N 4 1 (flat bl ((List.range N).map (yT mw mh sc i)))::L')->
   rj Q (j+1) mw mh sc (aE mw mh sc) (bA mw mh sc) (sZ eb) N N 0 1 2 3 i w1:=by
  intro j;induction j with
  |zero=>
   intro i w1 L' hi s;show vA Q (rj Q 0) _ _ _ _ _ _ _ _ _ _ _ _ _ _;unfold vA;have hi:i=4:=by omega
   subst hi;have s:=bH s 3 1;refine⟨N+1,aoj hs hN.symm (by omega) (λra rn rc w' s=>?_) N 0 none 0 0 w1 (by omega) (by omega) s⟩;refine h _ _ _ _ (dG s0 s (i:=0) ?_) (au s);unfold vL;grind
  |succ j ih=>
   intro i w1 L' hi s;show vA Q (rj Q (j+1)) _ _ _ _ _ _ _ _ _ _ _ _ _ _;rw[vA,bM];refine⟨by omega,by omega,?_⟩;refine au5 (x:=(i:Int)) (by omega) (ab_ ?_);obtain⟨o1,o2,o3⟩:=aiN (sd:=(i:Int)) hz.1 hz.2;refine Ww s hz.1 hz.2 λra rn rc w1 s=>?_;have hX:=aG s (i:=0) rfl bX (by decide);have hXl:=hX.len;rw[cL (by omega),cond_false];apply hX.ql (k:=0) rfl (by omega);refine xP s λw1 s _=>?_;refine Ku s λw1 s _=>?_;have hnew:=amc mw mh sc i;by_cases hov:gM mw mh (C9 mw mh sc (gi (mU (aE mw mh sc) (bA mw mh sc) i) 0)) i<0
   ·rw[bM hov,aH];have aCi:Jv mw mh sc i=false:=by unfold Jv;grind
    have e:yT mw mh sc i=yT mw mh sc (i+1):=by funext l;simp_all
    rw[e]at s;exact ih (i+1) w1 _ (by omega) (ai s)
   ·rw[bj hov];have CN:Jv mw mh sc i=true:=by unfold Jv;grind
    have s:=cu s (List.Perm.swap ..);refine⟨rn+1,aoi (w0:=w) (L:=L') (E:=yT mw mh sc i) (by omega) hXl (by omega) (λx hx=>by grind) (λw' s=>?_) rn 0 w1 (by omega) ?_⟩
    ·have e:(λl:Nat=>yT mw mh sc i l||decide ((l:Int)∈mU (aE mw mh sc) (bA mw mh sc) i))=yT mw mh sc (i+1):=by grind
     grind
    simp_all
 exact⟨5,loop 4 0 w1 _ (by omega) s⟩
def aX (m:bJ)(sc:Int):List Int:=(vL m.w m.h sc).filter (eE m)
def ace (hs:dY mw mh sc):(vL mw mh sc).length<=256:=by have hz:=q_ hs.1.1 hs.1.2 hs.2;have hmx:=Int.mul_le_mul hz.1.2 hz.2.2 (by omega) (by decide);unfold vL;grind
def xV {Q:Option Addr->Nat->Nat->World->Prop}(s0:Sep F W w L)(k:nO w r g)(hs:dY g.m.w g.m.h sc)(h:∀ra rn rc w',Sep F W w' (ak ra rn rc 3 1 (flat one (aX g.m sc))::L)->Fr No w w'->Q ra rn rc w'):oC (sZ r.p) sc w Q:=by
 apply V9;refine jv (bh (F:=No)) k λw1 s _=>?_;refine Wx s hs λca cn cc w1 s _=>?_;have yF:=(aG s (i:=0) rfl bX (by decide)).len;have aiO:=ace hs;have loop:∀(j i:Nat) (oa:Option Addr) (on oc:Nat) (w1:World),i+j=cn->on<=i->Sep No w w1 [ak oa on oc 3 1 (flat one (((vL g.m.w g.m.h sc).take i).filter (eE g.m))),ak ca cn cc 3 1 (flat one (vL g.m.w g.m.h sc))]->
   rm Q (j+1) (sZ r.p) oa on oc ca cn cc cn i w1:=by
  intro j;induction j with
  |zero=>
   intro i oa on oc w1 hi ho s;show vB Q (rm Q 0) _ _ _ _ _ _ _ _ _ _;rw[vB,bj];rw[List.take_of_length_le (by omega)]at s;exact h _ _ _ _ (dG s0 s (i:=0) rfl) (au s)
  |succ j ih=>
   intro i oa on oc w1 hi ho s;show vB Q (rm Q (j+1)) _ _ _ _ _ _ _ _ _ _;rw[vB,bM];apply(aG s (i:=1) rfl bX (by decide)).ql rfl (by omega);apply Ed (k.fr (au s));have ht:(vL g.m.w g.m.h sc).take (i+1)=(vL g.m.w g.m.h sc).take i++[gi (vL g.m.w g.m.h sc) i]:=by rw[List.take_add_one,h_ (by omega)];rfl
   cases ho2:eE g.m (gi (vL g.m.w g.m.h sc) i)with
   |true=>
    refine L_ s (by omega) λoa oc w1 s=>?_;rw[aH];apply ih (i+1) oa (on+1) oc w1 (by omega) (by omega);grind
   |false=>
    rw[cond_false,aH];apply ih (i+1) oa on oc w1 (by omega) (by omega);grind
 exact⟨cn+1,loop cn 0 none 0 0 w1 (by omega) (by omega) (bH s 3 1)⟩
end
def DS (e:Int×Int):List Value:=[ae e.1,ae e.2]
def Rk (e:Int×Int):(DS e).length=2:=rfl
def ald (e:Int×Int)(u:Value)(h:u∈DS e):u.oneCell'=true:=by simp[DS,List.mem_cons,List.not_mem_nil,or_false]at h;rcases h with rfl|rfl<;>rfl
def F2 (m:bJ)(c s:Int):Option (Int×Int):=if 0<=gM m.w m.h c s/\eE m (gM m.w m.h c s)=true then some (gM m.w m.h c s,cV m (gM m.w m.h c s))else none
def GW (m:bJ)(c:Int)(j:Nat):List (Int×Int):=(List.range j).filterMap λs:Nat=>F2 m c s
def vM (m:bJ)(c:Int):List (Int×Int):=if eE m c=true then GW m c 4 else[]
def aku (m:bJ)(c:Int)(j:Nat):GW m c (j+1)=GW m c j++(F2 m c j).toList:=by rw[GW,List.range_succ,List.filterMap_append];congr 1
section
variable {F:Nat->Prop}{W w w0:World}{L:List As}{r:uQ}{g:iD}{a:Option Addr}{n c:Nat}{es:List (Int×Int)}{ce:Int}
def aqQ {x:Int×Int}{K:Option Addr->Nat->Nat->World->Prop}(s:Sep F W w (ak a n c 292 2 (flat DS es)::L))(hn:n<=1000000000)
  (k:∀a' c' w',Sep F W w' (ak a' (n+1) c' 292 2 (flat DS (es++[x]))::L)->K a' (n+1) c' w'):Bx [ae x.1,ae x.2] 292 w λp w1=>App P #[289,289] 289 (.slice a n c) (.slice (some p) 1 1) w1 K:=by
 refine aQ s λb w s=>?_;have src:Src w (sZ b) 1 2 (DS x):=⟨rfl,ald x,λj u hj=>by rw[cw,Nat.zero_add];exact cO s (i:=0) rfl rfl hj⟩;refine iy dU s (i:=1) (bytes:=16) rfl rfl rfl rfl rfl rfl (by decide) rfl src (by simp[maxLen];omega) (by omega) (λe=>by cases e) λa1 c1 w1 s1=>?_;have e:flat DS es++DS x=flat DS (es++[x]):=by rw[f_];simp[flat]
 rw[e]at s1;exact k _ _ _ (ai s1)
def Wz {Q:Option Addr->Nat->Nat->World->Prop}(s0:Sep F W w L)(k:nO w r g)(h:∀ra rn rc w',Sep F W w' (ak ra rn rc 292 2 (flat DS (vM g.m ce))::L)->Fr No w w'->Q ra rn rc w'):Cq (sZ r.p) ce w Q:=by
 apply V_;refine jv (bh (F:=No)) k λw1 s _=>?_;apply Ed (k.fr (au s));unfold vM at h;cases ho:eE g.m ce with
 |false=>
  rw[ho,if_neg (by decide)]at h;exact h _ _ _ _ (bH (bW s0 (au s)) 292 2) (au s)
 |true=>
  rw[ho,if_pos rfl]at h;refine Ju s λw1 s _=>?_;have loop:∀(j i:Nat) (oa:Option Addr) (on oc:Nat) (w1:World) (L':List As),i+j=4->on<=i->Sep No w w1 (ak oa on oc 292 2 (flat DS (GW g.m ce i))::L')->
    ou Q (j+1) (sZ r.p) ce g.m.w g.m.h oa on oc 0 1 2 3 i w1:=by
   intro j;induction j with
   |zero=>
    intro i oa on oc w1 L' hi CN s;show vC Q (ou Q 0) _ _ _ _ _ _ _ _ _ _ _ _ _;unfold vC;have hi:i=4:=by omega
    subst hi;exact h _ _ _ _ (dG s0 s (i:=0) rfl) (au s)
   |succ j ih=>
    intro i oa on oc w1 L' hi CN s;show vC Q (ou Q (j+1)) _ _ _ _ _ _ _ _ _ _ _ _ _;rw[vC,bM];refine⟨by omega,by omega,?_⟩;refine au5 (x:=(i:Int)) (by omega) (ab_ ?_);refine Ku s λw1 s _=>?_;have hsu:=aku g.m ce i;have skip:F2 g.m ce i=none->∀w1,Sep No w w1 (ak oa on oc 292 2 (flat DS (GW g.m ce i))::L')->ou Q (j+1) (sZ r.p) ce g.m.w g.m.h oa on oc 0 1 2 3 (IntKind.wrap .i64 ((i:Int)+1)) w1:=λhn w1 s=>by rw[aH];grind
    by_cases h1:gM g.m.w g.m.h ce i≥0
    ·rw[bM h1];apply Ed (k.fr (au s));cases h2:eE g.m (gM g.m.w g.m.h ce i)with
     |true=>
      apply ju (k.fr (au s));have Er:F2 g.m ce i=some (gM g.m.w g.m.h ce i,cV g.m (gM g.m.w g.m.h ce i)):=if_pos ⟨h1,h2⟩;refine aqQ (x:=(gM g.m.w g.m.h ce i,cV g.m (gM g.m.w g.m.h ce i))) s (by omega) λoa oc w1 s=>?_;rw[aH];grind
     |false=>
      exact skip (if_neg (by rw[h2];simp)) _ s
    ·rw[bj h1];exact skip (fU) _ s
  exact⟨5,loop 4 0 none 0 0 w1 _ (by omega) (by omega) (bH s 292 2)⟩
end
structure bq where
 c:Int
 s:Int
 k:Int
deriving DecidableEq,Inhabited
def fV (x:bq):List Value:=[ae x.c,ae x.s,ae x.k]
def nP (x:bq):(fV x).length=3:=rfl
def WA (x:bq)(u:Value)(h:u∈fV x):u.oneCell'=true:=by simp[fV,List.mem_cons,List.not_mem_nil,or_false]at h;rcases h with rfl|rfl|rfl<;>rfl
def WB (x y:Int):Int:=if x<y then-1 else if x>y then 1 else 0
def aiP (a b:bq):Int:=if WB a.k b.k≠0 then WB a.k b.k else if WB a.c b.c≠0 then WB a.c b.c else WB a.s b.s
section
variable {F:Nat->Prop}{W w w0:World}{L:List As}
def Ef {x y:Int}{Q:Int->World->Prop}(h:Q (WB x y) w):oD x y w Q:=by apply QH;apply Bz;rw[xO rfl];apply Bz;rw[xO rfl];show cond false _ (cond false _ _);unfold WB at h;grind
def ahb {a:Option Addr}{n c:Nat}{x y z:Int}{Q:Int->World->Prop}(hA:Sl w a n c 1 one [x,y,z])(h:Q (if x≠0 then x else if y≠0 then y else z) w):Fo a n c w Q:=by
 have hl:n=3:=hA.len.symm;subst hl;apply Z9;refine⟨4,?_⟩;show nj Q (rq Q 3) _ _ _ _ _ _ _;unfold nj;apply hA.ql (k:=0) rfl (by omega);show cond (x !=0) _ _;by_cases hx:x=0
 ·rw[xO hx,cond_false,wrap_i64 (by decide) (by decide)];rw[if_neg (λe=>e hx)]at h;show nj Q (rq Q 2) _ _ _ _ _ _ _;unfold nj;apply hA.ql (k:=1) rfl (by omega);show cond (y !=0) _ _;by_cases hy:y=0
  ·rw[xO hy,cond_false,wrap_i64 (by decide) (by decide)];rw[if_neg (λe=>e hy)]at h;show nj Q (rq Q 1) _ _ _ _ _ _ _;unfold nj;apply hA.ql (k:=2) rfl (by omega);show cond (z !=0) _ _;by_cases hz:z=0
   ·rw[xO hz,cond_false,wrap_i64 (by decide) (by decide)];show nj Q (rq Q 0) _ _ _ _ _ _ _;unfold nj;grind
   ·rw[EZ hz,cond_true];exact h
  ·rw[EZ hy,cond_true];rw[if_pos hy]at h;exact h
 ·rw[EZ hx,cond_true];rw[if_pos hx]at h;exact h
def YJ {x y:bq}{Q:Int->World->Prop}(s0:Sep F W w L)(h:∀w',Sep F W w' L->Fr No w w'->Q (aiP x y) w'):D4 x.c x.s x.k y.c y.s y.k w Q:=by apply Yx;refine aQ (bh (F:=No)) λab w s=>?_;refine aQ s λbb w s=>?_;have s:=ay s;apply lI s 1 rfl;apply lI s 0 rfl;apply lI s 1 rfl;apply lI s 0 rfl;apply lI s 1 rfl;apply lI s 0 rfl;apply Ef;refine⟨cm s 0 rfl,cm s 1 rfl,cm s 0 rfl,cm s 1 rfl,?_⟩;apply Ef;refine⟨cm s 0 rfl,cm s 1 rfl,?_⟩;apply Ef;refine aQ s λpb w s=>?_;have s:=g9 (n:=3) (size:=1) s (i:=0) rfl rfl (by decide) (λu hu=>by simp[List.mem_cons,List.not_mem_nil,or_false]at hu;rcases hu with rfl|rfl|rfl<;>rfl);have s:=s;apply ahb (aG s (i:=0) rfl bX (by decide));exact h _ (bW s0 (au s)) (au s)
def cxF (m f:Nat):(cx m).F f=pz f fns:=rfl
def azA:pz 197 fns=true:=by kernel_rfl
def akv {m:Nat}{x y:bq}{Q:Int->World->Prop}(h:D4 x.c x.s x.k y.c y.s y.k w Q):iw (cx m) (.func (.func 197) #[] #[]) [.agg #[ae x.c,ae x.s,ae x.k],.agg #[ae y.c,ae y.s,ae y.k]] w λv w'=>dI .i64 v λr=>Q r w':=by unfold iw;simp only;exact h
end
def aat (tw th c s:Int):Bool:=if s=0 then c/tw==0 else if s=1 then c%tw==tw-1 else if s=2 then c/tw==th-1 else if s=3 then c%tw==0 else s==4
def AM (tw th:Int)(cs:List Int)(x:bq):Bool:=decide (0<=x.c/\x.c<cs.length)&&(gi cs x.c.toNat !=255&&(decide (0<=x.k/\x.k<=1073741824)&&aat tw th x.c x.s))
def sw (tw th:Int)(cs:List Int)(xs:List bq):Bool:=Tl.Ec tw th cs&&xs.all (AM tw th cs)
section
variable {F:Nat->Prop}{W w w0:World}{L:List As}{a la:Option Addr}{n c ln lc tb:Nat}{cs:List Int}{tw th:Int}{xs:List bq}
def acf {ce sd:Int}{Q:Bool->World->Prop}(s0:Sep F W w L)(hw:1<=tw/\tw<=16)(hh:1<=th/\th<=16)(hc:0<=ce/\ce<1000000)(h:∀w',Sep F W w' L->Fr No w w'->Q (aat tw th ce sd) w'):GG tw th a n c ce sd w Q:=by
 apply abZ;refine aQ (bh (F:=No)) λtb w s=>?_;have s:=ay s;apply lI s 0 rfl;refine⟨by omega,?_⟩;apply lI s 0 rfl;refine⟨by omega,cm s 0 rfl,?_⟩;have h:=h _ (bW s0 (au s)) (au s);have d0:0<=ce/tw:=Int.ediv_nonneg hc.1 (by omega);have d1:ce/tw<=ce:=Int.ediv_le_self _ hc.1;rw[Int.tdiv_eq_ediv_of_nonneg hc.1,Int.tmod_eq_emod_of_nonneg hc.1,aH];unfold aat at h;by_cases k0:sd=0
 ·grind
 rw[cL k0,cond_false];rw[if_neg k0]at h;by_cases k1:sd=1
 ·rw[ee k1,cond_true];rw[if_pos k1]at h;apply lI s 0 rfl;rw[aH];exact h
 rw[cL k1,cond_false];rw[if_neg k1]at h;by_cases k2:sd=2
 ·rw[ee k2,cond_true];rw[if_pos k2]at h;apply lI s 0 rfl;rw[aH];exact h
 grind
def sy (w:World)(b:Nat)(vs:List Value):Prop:=∀(j:Nat) v,vs[j]? =some v->w.cell? ((aZ b).add j)=some v
def sy.fr {w':World}{b:Nat}{vs:List Value}(k:sy w b vs)(f:Fr No w w'):sy w' b vs:=λj v h=>Fr.cell f (k j v h) id
def lD {b i:Nat}{t:TypeId}{vs:List Value}(s:Sep F W w L)(hi:L[i]? =some (av b t vs)):sy w b vs:=λj v hj=>by rw[cw,Nat.zero_add];exact cO s rfl hi hj
def YK {x:bq}{Q:Bool->World->Prop}(s0:Sep F W w L)(hK:sy w tb [ae tw,ae th,.slice a n c])(hA:Sl w a n c 1 bp cs)(hm:Tl.Ec tw th cs=true)
  (h:∀w',Sep F W w' L->Fr No w w'->Q (!AM tw th cs x) w'):D6 x.c x.s x.k (sZ tb) w Q:=by
 apply Yy;obtain⟨h1,h2,h3,_⟩:=Tl.aap.1 hm;have hl:=hA.len;have hmx:=Int.mul_le_mul h1.2 h2.2 (by omega) (by decide);refine aQ (bh (F:=No)) λsb w1 s=>?_;have K:=hK.fr (au s);have A:=hA.fr (au s);have no:AM tw th cs x=false->Q true w1:=λe=>by have:=h _ (bW s0 (au s)) (au s);grind
 unfold AM at no h;apply lI s 0 rfl;by_cases k1:x.c<0
 ·grind
 rw[bj k1];apply lI s 0 rfl;refine ah (dz (K 2 _ rfl) ?_);by_cases k2:x.c≥(n:Int)
 ·grind
 rw[bj k2];rw[decide_eq_true (show 0<=x.c/\x.c<cs.length by omega),Bool.true_and]at no h;refine ah (dz (K 2 _ rfl) ?_);apply lI s 0 rfl;apply A.BJ (k:=x.c.toNat) (by omega) (by omega);by_cases k3:gi cs x.c.toNat=255
 ·grind
 rw[cL k3,cond_false];rw[EZ k3,Bool.true_and]at no h;apply lI s 0 rfl;by_cases k4:x.k<0
 ·grind
 rw[bj k4];apply lI s 0 rfl;by_cases k5:x.k>1073741824
 ·grind
 rw[bj k5];rw[decide_eq_true (show 0<=x.k/\x.k<=1073741824 by omega),Bool.true_and]at h;refine ah (aL (K 0 _ rfl) (aL (K 1 _ rfl) (dz (K 2 _ rfl) ?_)));apply lI s 0 rfl;apply lI s 0 rfl;refine acf s h1 h2 (by omega) λw1 s _=>?_;exact h _ (bW s0 (au s)) (au s)
def aBR:pz 210 fns=true:=by kernel_rfl
def aok {m p:Nat}{x:bq}{Q:Bool->World->Prop}(h:D6 x.c x.s x.k (sZ p) w Q):iw (cx m) (.func (.func 210) #[] #[.pointer (sZ p)]) [.agg #[ae x.c,ae x.s,ae x.k]] w λv w'=>dB v λr=>Q r w':=by unfold iw;simp only;exact h
def aqR {Q:Int->World->Prop}(hK:sy w0 tb [ae tw,ae th,.slice a n c])(hA:Sl w0 a n c 1 bp cs)(hm:Tl.Ec tw th cs=true)(hX:Sl w0 la ln lc 3 fV xs)(qu:ln<=1000000)
  (hy:xs.all (AM tw th cs)=true->∀w',Sep No w0 w' []->Q (-1) w')(hno:xs.all (AM tw th cs)=false->∀(i:Nat) w',Sep No w0 w' []->Q i w'):
  ∀(j i:Nat) (w:World),i+j=ln->(xs.take i).all (AM tw th cs)=true->Sep No w0 w []->fe Q (j+1) la ln lc (.func (.func 210) #[] #[.pointer (sZ tb)]) ln i w:=by
 have hl:=hX.len;intro j;induction j with
 |zero=>
  intro i w hi ha s;show gj Q (fe Q 0) _ _ _ _ _ _ _;unfold gj;grind
 |succ j ih=>
  intro i w hi ha s;show gj Q (fe Q (j+1)) _ _ _ _ _ _ _;rw[gj,bM];refine(hX.fr (au s)).El rfl (by omega) λp x hx hc=>?_;refine aL (hc 0 _ rfl) (aL (hc 1 _ rfl) (aL (hc 2 _ rfl) ?_));refine aok (YK s (hK.fr (au s)) (hA.fr (au s)) hm λw s _=>?_);cases hb:AM tw th cs x with
  |false=>
   grind
  |true=>
   rw[Bool.not_true,cond_false,aH];refine ih (i+1) w (by omega) ?_ s;rw[List.take_add_one,hx,List.all_append,ha];simp[hb]
def NW {Q:Bool->World->Prop}(s0:Sep F W w L)(hA:Sl w a n c 1 bp cs)(hX:Sl w la ln lc 3 fV xs)(qu:ln<=1000000)(h:∀w',Sep F W w' L->Fr No w w'->Q (sw tw th cs xs) w'):BM tw th a n c la ln lc w Q:=by
 apply ab0;refine aQ (bh (F:=No)) λtb w1 s=>?_;apply lI s 0 rfl;apply lI s 0 rfl;apply lS s 0 rfl;refine Tl.Dw s (hA.fr (au s)).row λw1 s _=>?_;have fin:∀(r:Bool) (w':World),sw tw th cs xs=r->Fr No w w'->Q r w':=λr w' e f=>by subst e;exact h _ (bW s0 f) f
 unfold sw at fin;cases hm:Tl.Ec tw th cs with
 |false=>
  rw[hm,Bool.false_and]at fin;exact fin _ _ rfl (au s)
 |true=>
  rw[hm,Bool.true_and]at fin;have f1:=au s;apply yK;apply AJ;refine⟨ln+1,aqR (lD s (i:=0) rfl) (hA.fr f1) hm (hX.fr f1) qu (λha w' s'=>?_) (λha i w' s'=>?_) ln 0 w1 (by omega) rfl bh⟩
  ·exact fin _ _ ha (f1.trans (au s') (λ_ _=>id))
  ·exact fin _ _ ha (f1.trans (au s') (λ_ _=>id))
end
end Go.Proofs.YtmegplnmiepfbaaGreatDoor.S
namespace Go.Proofs.YtmegplnmiepfbaaGreatDoor.S
open Go.Sx
def kF {n:Int}(h:0<=n/\n<18446744073709551616):IntKind.wrap .u64 n=n:=by
 have:IntKind.wrap .u64 n=n%18446744073709551616:=by simp[IntKind.wrap,IntKind.bits,IntKind.signed]
 grind
def NX {x:Int}(h:0<=x/\x<4294967296):pE .u64 x 32=0:=by show x.fdiv (2^32)=0;grind
def WC {x:Int}(h:0<=x/\x<4294967296):B_ .u64 x 4294967295=x:=by
 obtain⟨n,rfl⟩:∃n:Nat,x=n:=⟨x.toNat,by omega⟩;have e:(BitVec.ofInt 64 (n:Int)&&&BitVec.ofInt 64 4294967295).toNat=n:=by
  rw[BitVec.toNat_and];have e1:(BitVec.ofInt 64 (n:Int)).toNat=n:=by grind
  have e2:(BitVec.ofInt 64 4294967295).toNat=2^32-1:=by decide
  rw[e1,e2,Nat.and_two_pow_sub_one_eq_mod];omega
 show IntKind.wrap .u64 ((BitVec.ofInt 64 (n:Int)&&&BitVec.ofInt 64 4294967295).toNat:Nat)=_;rw[e];exact kF (by omega)
def au6 {x y:Int}(hx:0<=x/\x<1048577)(hy:0<=y/\y<1048577):0<=x*y/\x*y<2000000000000:=by have a:=Int.mul_nonneg hx.1 hy.1;have b:x*y<=1048576*1048576:=Int.mul_le_mul (by omega) (by omega) hy.1 (by decide);omega
def Dx {w:World}{x y:Int}{Q:Int->Int->World->Prop}(hx:0<=x/\x<1048577)(hy:0<=y/\y<1048577)(hxy:x*y<4294967296)(h:Q 0 (x*y) w):qO x y w Q:=by have hm:=au6 hx hy;apply UO;apply Qp;refine⟨by decide,by decide,by decide,by decide,by decide,?_⟩;rw[NX (by omega),NX (by omega),WC (by omega),WC (by omega)];simp[Int.zero_mul,Int.mul_zero,Int.zero_add,Int.add_zero,kF (n:=0) (by decide),kF (n:=x*y) (by omega),NX (x:=x*y) (by omega),NX (x:=0) (by decide),WC (x:=0) (by decide)];exact h
end Go.Proofs.YtmegplnmiepfbaaGreatDoor.S
namespace Go.Proofs.YtmegplnmiepfbaaGreatDoor.S
open Go.Sx
attribute [local irreducible] af cD bz bg aA cy b_ St Bx Al App cK cE cB bV aN bG aq bT av ak aW mapA
def Ma:∀l:List Int,flat one l=l.map λx=>Value.int .i64 x
 |[]=>rfl
 |x::l=>by have:=Ma l;simp[flat,List.flatMap_cons,List.map_cons]at this⊢;rw[this];rfl
def C6 (x:Int)(u:Value)(h:u∈one x):u.oneCell'=true:=by simp[one,List.mem_singleton]at h;rw[h];rfl
def aqS {v z:Int}{n k N:Nat}(hk:k<=n)(hN:n+k<=N):
  (flat one (List.replicate n v++List.replicate (N-n) z)).take (n*1)++(flat one ((List.replicate n v++List.replicate (N-n) z).take n)).take (k*1)++(flat one (List.replicate n v++List.replicate (N-n) z)).drop ((n+k)*1)=flat one (List.replicate (n+k) v++List.replicate (N-(n+k)) z):=by
 simp only[Ma,Nat.mul_one];rw[<-List.map_take,<-List.map_take,<-List.map_drop,<-List.map_append,<-List.map_append];congr 1;rw[List.take_left' (by simp),List.take_replicate,Nat.min_eq_left hk,List.replicate_append_replicate,<-List.drop_drop,List.drop_left' (by simp),List.drop_replicate,Nat.sub_sub]
section
variable {F:Nat->Prop}{W w w0:World}{L:List As}{xa:Option Addr}{xc:Nat}{v:Int}
def akw {Q:Option Addr->Nat->Nat->World->Prop}{b N:Nat}(hN:N<=1048576)(h:∀w',Sep No w0 w' (ak (sZ b) N N 3 1 (flat one (List.replicate N v))::L)->Q (sZ b) N N w'):
  ∀(m n:Nat) (w:World),N<=n+m->1<=n->n<=N->Sep No w0 w (ak (sZ b) N N 3 1 (flat one (List.replicate n v++List.replicate (N-n) 0))::L)->lV Q (m+1) (sZ b) N N n w:=by
 have done:∀(R:Option Addr->Nat->Nat->Int->World->Prop) (w:World),Sep No w0 w (ak (sZ b) N N 3 1 (flat one (List.replicate N v++List.replicate (N-N) 0))::L)->lU Q R (sZ b) N N N w:=λR w s=>by unfold lU;grind
 intro m;induction m with
 |zero=>
  intro n w hm h1 h2 s;have:n=N:=by omega
  subst this;exact done _ _ s
 |succ m ih=>
  intro n w hm h1 h2 s;show lU Q (lV Q (m+1)) _ _ _ _ _;by_cases hn:n=N
  ·grind
  ·rw[lU,bM];apply PI rfl h2;rw[fU];apply PG rfl h2;have s:=ay s;have hT:=(aG s (i:=0) rfl bX (by decide)).top h2;refine Fa (p:=n) dU s rfl rfl rfl rfl (by decide) (i:=0) rfl (hT.src (e:=3) bX C6) (by omega) (by simp[Addr.add];omega) λw s=>?_;rw[aqS (Nat.min_le_left _ _) (by omega)]at s;have e:IntKind.wrap .i64 ((n:Int)+((min n (N-n):Nat):Int))=((n+min n (N-n):Nat):Int):=by rw[aH];omega
   grind
def Mb {N:Nat}{Q:Option Addr->Nat->Nat->World->Prop}(s0:Sep F W w L)(hA:Sl w xa 1 xc 1 one [v])(hN:1<=N/\N<=1048576)
  (h:∀ra w',Sep F W w' (ak ra N N 3 1 (flat one (List.replicate N v))::L)->Fr No w w'->Q ra N N w'):kE xa 1 xc N w Q:=by
 apply Jq;rw[bj,kF (by decide),kF (by omega)];apply Dx (by decide) (by omega) (by omega);have e1:((1:Nat):Int)*N=N:=by omega
 rw[e1,bj (by decide),bj,aH];refine tg (bytes:=8) dU (bh (F:=No)) rfl rfl rfl rfl rfl rfl (by decide) bX rfl (λu hu=>C6 0 u hu) rfl rfl (Nat.le_refl _) (by omega) (by simp[maxLen];omega) λb w' s=>?_;refine Fa (p:=0) dU s rfl rfl rfl rfl (by decide) (i:=0) rfl ((hA.fr (au s)).src (e:=3) bX C6) (by omega) rfl λw' s=>?_;have hm:min 1 N=1:=by omega
 rw[hm]at s⊢;have e2:(flat one (List.replicate N 0)).take (0*1)++(flat one [v]).take (1*1)++(flat one (List.replicate N 0)).drop ((0+1)*1)=flat one (List.replicate 1 v++List.replicate (N-1) 0):=by simp only[Ma,Nat.zero_mul,List.take_zero,List.nil_append,Nat.mul_one,Nat.zero_add];simp_all
 rw[e2]at s;exact⟨N+1,akw hN.2 (λw' s=>h _ _ (dG s0 s (i:=0) rfl) (au s)) N 1 w' (by omega) (by omega) hN.1 s⟩
end
section
variable {F:Nat->Prop}{W w w0:World}{L:List As}{a:Option Addr}{n c:Nat}{xs:List bq}{bs:List Int}
def WD {Q:Option Addr->Nat->Nat->World->Prop}(s:Sep F W w L)(hA:Sl w a n c 3 fV xs)(hn:n<=1000000000)(h:∀ra rc w',Sep F W w' (ak ra n rc 294 3 (flat fV xs)::L)->Fr No w w'->Q ra n rc w'):jn a n c w Q:=by
 apply CA;cases a with
 |none=>
  have hl:=hA.len;have:=hA.nil rfl;have h0:n=0:=by have:=hA.le;omega
  subst h0;have hb:=List.eq_nil_of_length_eq_zero hl;subst hb;exact h _ _ _ (bH s 294 3) Fr.refl
 |some p=>
  apply lC;refine aQ (bh (F:=No)) λb w' s'=>?_;have src:=(hA.fr (au s')).src (e:=294) nP WA;have s':=g9 (n:=0) (size:=3) s' (i:=0) rfl rfl (by decide) (by simp);refine iy dU s' (i:=0) (bytes:=24) rfl rfl rfl rfl rfl rfl (by decide) rfl src (by simp[maxLen];omega) (by omega) (hA.fr (au s')).nil λa1 c1 w1 s1=>?_;simp[List.set_cons_zero,List.nil_append,Nat.zero_add]at s1⊢;exact h _ _ _ (dG s s1 (i:=0) rfl) (au s1)
def Mc {Q:Option Addr->Nat->Nat->World->Prop}(s:Sep F W w L)(hA:Sl w a n c 1 one bs)(hn:n<=1000000000)(h:∀ra rc w',Sep F W w' (ak ra n rc 3 1 (flat one bs)::L)->Fr No w w'->Q ra n rc w'):kX a n c w Q:=by
 apply Ka;cases a with
 |none=>
  have hl:=hA.len;have:=hA.nil rfl;have h0:n=0:=by have:=hA.le;omega
  subst h0;have hb:=List.eq_nil_of_length_eq_zero hl;subst hb;exact h _ _ _ (bH s 3 1) Fr.refl
 |some p=>
  apply lC;refine aQ (bh (F:=No)) λb w' s'=>?_;have src:=(hA.fr (au s')).src (e:=3) bX C6;have s':=g9 (n:=0) (size:=1) s' (i:=0) rfl rfl (by decide) (by simp);refine iy dU s' (i:=0) (bytes:=8) rfl rfl rfl rfl rfl rfl (by decide) rfl src (by simp[maxLen];omega) (by omega) (hA.fr (au s')).nil λa1 c1 w1 s1=>?_;simp[List.set_cons_zero,List.nil_append,Nat.zero_add]at s1⊢;exact h _ _ _ (dG s s1 (i:=0) rfl) (au s1)
end
def w32 (x:Int):List Value:=[.int .u32 x]
def XH (x:Int):(w32 x).length=1:=rfl
structure Rl where
 p:Nat
 a:Option Addr
 n:Nat
 c:Nat
 eL:Int
def XI (ws:List Int):Prop:=∀x∈ws,0<=x/\x<4294967296
def aeq (r:Rl)(ws:List Int):List As:=[av r.p 247 [.slice r.a r.n r.c,ae r.eL],ak r.a r.n r.c 248 1 (flat w32 ws)]
def vN (r:Rl)(ws:List Int):As:=aW (XI ws) (aeq r ws)
def wrap_u32' {n:Int}(h:0<=n/\n<4294967296):IntKind.wrap .u32 n=n:=by
 have:IntKind.wrap .u32 n=n%4294967296:=by simp[IntKind.wrap,IntKind.bits,IntKind.signed]
 grind
section
variable {F:Nat->Prop}{W w w0:World}{L:List As}{r:Rl}{ws:List Int}{ce id:Int}
def S9 (s:Sep F W w (vN r ws::L)):XI ws/\Sep F W w (aeq r ws++L):=gR s
def Pj (s:Sep F W w (aeq r ws++L))(h:XI ws):Sep F W w (vN r ws::L):=dD s h
structure acg (w:World) (r:Rl) (ws:List Int):Prop where
 ok:XI ws
 cell:sy w r.p [.slice r.a r.n r.c,ae r.eL]
 V:Sl w r.a r.n r.c 1 w32 ws
def GX (s:Sep F W w (vN r ws::L)):acg w r ws:=by obtain⟨h,s⟩:=S9 s;exact⟨h,lD s (i:=0) rfl,aG s (i:=1) rfl XH (by decide)⟩
def CO (ws:List Int)(c:Int):Int:=if 0<=c/\c<ws.length then gi ws c.toNat-1 else-1
def AN (ws:List Int)(c:Int):Bool:=decide (0<=c/\c<ws.length)&&gi ws c.toNat==0
def Rm {Q:Bool->World->Prop}(k:acg w r ws)(h:Q (decide (0<=ce/\ce<ws.length)) w):uz (sZ r.p) ce w Q:=by
 apply SD;have hl:=k.V.len;show cond true _ _;rw[cond_true];by_cases h0:ce≥0
 ·rw[bM h0];refine ah (dz (k.cell 0 _ rfl) ?_);grind
 grind
def Md {Q:Bool->World->Prop}(k:acg w r ws)(h:Q (AN ws ce) w):rM (sZ r.p) ce w Q:=by
 apply OV;apply Rm k;have hl:=k.V.len;unfold AN at h;by_cases h0:0<=ce/\ce<ws.length
 ·rw[bM h0];rw[decide_eq_true h0,Bool.true_and]at h;refine ah (dz (k.cell 0 _ rfl) ?_);exact Gn k.V (by omega) (by omega) h
 grind
def BS {Q:Int->World->Prop}(k:acg w r ws)(h:Q (CO ws ce) w):mu (sZ r.p) ce w Q:=by
 apply Qu;apply Rm k;have hl:=k.V.len;unfold CO at h;by_cases h0:0<=ce/\ce<ws.length
 ·rw[decide_eq_true h0,Bool.not_true,cond_false];rw[if_pos h0]at h;refine ah (dz (k.cell 0 _ rfl) ?_);apply Gn k.V (k:=ce.toNat) (by omega) (by omega);have hb:=k.ok _ (fm (i:=ce.toNat) (by omega));rw[aH (n:=gi ws ce.toNat),aH];exact h
 grind
def NY {Q:Bool->World->Prop}(s:Sep F W w (vN r ws::L))(xW:0<=id/\id<4294967295)(hno:AN ws ce=false->Q false w)
  (hyes:AN ws ce=true->∀eL w',Sep F W w' (vN {r with eL:=eL} (ws.set ce.toNat (id+1))::L)->Q true w'):sI (sZ r.p) ce id w Q:=by
 apply Qz;have k:=GX s;apply Md k;cases hf:AN ws ce with
 |false=>exact hno hf
 |true=>
  rw[Bool.not_true,cond_false,bj,bj];have h0:0<=ce/\ce<ws.length:=by unfold AN at hf;grind
  obtain⟨hok,s⟩:=S9 s;have s:=s;apply ah;apply lS s 0 rfl;rw[aH,wrap_u32' (by omega)];refine Ad (k:=ce.toNat) (x':=id+1) XH s (i:=1) rfl (by omega) (by omega) rfl rfl λw s=>?_;apply ah;apply lI s 0 rfl;apply ah;refine ax s (i:=0) rfl rfl rfl λw s=>?_;refine hyes hf (IntKind.wrap .i64 (r.eL+1)) _ (Pj s λx hx=>?_);rcases List.mem_or_eq_of_mem_set hx with hx|rfl
  ·exact hok x hx
  ·omega
end
section
variable {F:Nat->Prop}{W w w0:World}{L:List As}{r:Rl}{ws:List Int}{ce id:Int}
def Me {Q:Int->World->Prop}(s:Sep F W w (vN r ws::L))(hno:CO ws ce=-1->Q (-1) w)
  (hyes:CO ws ce≠-1->∀eL w',Sep F W w' (vN {r with eL:=eL} (ws.set ce.toNat 0)::L)->Q (CO ws ce) w'):rL (sZ r.p) ce w Q:=by
 apply OX;have k:=GX s;apply BS k;by_cases hf:CO ws ce=-1
 ·grind
 ·rw[EZ hf,cond_true];have h0:0<=ce/\ce<ws.length:=by unfold CO at hf;grind
  obtain⟨hok,s⟩:=S9 s;have s:=s;apply ah;apply lS s 0 rfl;refine Ad (k:=ce.toNat) (x':=0) XH s (i:=1) rfl (by omega) (by omega) rfl rfl λw s=>?_;apply ah;apply lI s 0 rfl;apply ah;refine ax s (i:=0) rfl rfl rfl λw s=>?_;refine hyes hf (IntKind.wrap .i64 (r.eL-1)) _ (Pj s λx hx=>?_);rcases List.mem_or_eq_of_mem_set hx with hx|rfl
  ·exact hok x hx
  ·omega
def ach {N:Nat}{Q:Option Addr->World->Prop}(s:Sep F W w L)(hN:1<=N/\N<=1048576)(h:∀r w',Sep F W w' (vN r (List.replicate N 0)::L)->Q (sZ r.p) w'):GC N w Q:=by apply abT;rw[bj,bj];refine tg (bytes:=4) dU s rfl rfl rfl rfl rfl rfl (by decide) XH rfl (λu hu=>by simp[w32]at hu;subst hu;rfl) rfl rfl (Nat.le_refl _) (by omega) (by simp[maxLen];omega) λb w' s=>?_;refine aQ s λp w' s=>?_;refine h ⟨p,sZ b,N,N,0⟩ _ (Pj s λx hx=>?_);grind
def YL {fr to:Int}{Q:Bool->World->Prop}(s:Sep F W w (vN r ws::L))(hno:CO ws fr=-1\/AN ws to=false->Q false w)
  (hyes:CO ws fr≠-1->AN ws to=true->∀eL w',Sep F W w' (vN {r with eL:=eL} ((ws.set fr.toNat 0).set to.toNat (CO ws fr+1))::L)->Q true w'):wS (sZ r.p) fr to w Q:=by
 apply Nl;have k:=GX s;apply BS k;by_cases hf:CO ws fr=-1
 ·grind
 rw[cL hf,cond_false];apply Md k;cases ht:AN ws to with
 |false=>
  grind
 |true=>
  refine Me s (λe=>(hf e).elim) λ_ eL w s=>?_;have hw:0<=CO ws fr/\CO ws fr<4294967295:=by
   unfold CO at hf⊢;split at hf
   ·rename_i h0;have:=k.ok _ (fm (i:=fr.toNat) (by omega));omega
   grind
  have hfree:AN (ws.set fr.toNat 0) to=true:=by unfold AN at ht⊢;simp[Bool.and_eq_true,decide_eq_true_eq,List.length_set,beq_iff_eq]at ht⊢;refine⟨ht.1,?_⟩;unfold gi at ht⊢;grind
  refine NY (r:={r with eL:=eL}) s (by omega) (λe=>by grind) λ_ aCj w s=>?_;grind
end
def pB (x:Int):List Value:=[.int .i32 x]
def vO (x:Int):(pB x).length=1:=rfl
def afI {n:Int}(h:-2147483648<=n/\n<2147483648):IntKind.wrap .i32 n=n:=by simp only[IntKind.wrap,IntKind.bits,IntKind.signed];simp;omega
structure GY where
 goal:Int
 ep:Int
 ds:List Int
structure xX where
 p:Nat
 a:Option Addr
 n:Nat
 c:Nat
def aol (r:xX)(t:GY):List Value:=[ae t.goal,ae t.ep,.slice r.a r.n r.c]
def aiQ (ds:List Int):Prop:=∀x∈ds,0<=x/\x<=2147483647
def aer (r:xX)(t:GY):List As:=[av r.p 298 (aol r t),ak r.a r.n r.c 21 1 (flat pB t.ds)]
def EH (r:xX)(t:GY):As:=aW (aiQ t.ds) (aer r t)
structure GZ (w:World) (r:xX) (t:GY):Prop where
 ok:aiQ t.ds
 cell:sy w r.p (aol r t)
 V:Sl w r.a r.n r.c 1 pB t.ds
section
variable {F:Nat->Prop}{W w w0:World}{L:List As}{r:xX}{t:GY}{ce key:Int}
def GZ.fr {w':World}(k:GZ w r t)(f:Fr No w w'):GZ w' r t:=⟨k.ok,k.cell.fr f,k.V.fr f⟩
def aci (s:Sep F W w (EH r t::L)):aiQ t.ds/\Sep F W w (aer r t++L):=gR s
def Y9 (s:Sep F W w (aer r t++L))(h:aiQ t.ds):Sep F W w (EH r t::L):=dD s h
def S_ (s:Sep F W w (EH r t::L)):GZ w r t:=by obtain⟨h,s⟩:=aci s;exact⟨h,lD s (i:=0) rfl,aG s (i:=1) rfl vO (by decide)⟩
def atF (ds:List Int)(c:Int):Int:=if 0<=c/\c<ds.length then(if gi ds c.toNat=2147483647 then cg else gi ds c.toNat)else cg
def aes {Q:Int->World->Prop}(k:GZ w r t)(h:Q (atF t.ds ce) w):Av (sZ r.p) ce w Q:=by
 apply SK;apply lC;have hl:=k.V.len;unfold atF at h;by_cases h0:ce<0
 ·rw[bM h0];rw[fU]at h;exact h
 rw[bj h0];refine ah (dz (k.cell 2 _ rfl) ?_);by_cases h1:ce≥(r.n:Int)
 ·rw[bM h1];rw[fU]at h;exact h
 rw[bj h1];rw[A5]at h;refine ah (dz (k.cell 2 _ rfl) ?_);apply Gn k.V (k:=ce.toNat) (by omega) (by omega);have hb:=k.ok _ (fm (i:=ce.toNat) (by omega));by_cases h2:gi t.ds ce.toNat=2147483647
 ·rw[ee h2,cond_true];rw[if_pos h2]at h;exact h
 rw[cL h2,cond_false];rw[if_neg h2]at h;refine ah (dz (k.cell 2 _ rfl) ?_);apply Gn k.V (k:=ce.toNat) (by omega) (by omega);rw[aH];exact h
def aau {Q:Int->World->Prop}(k:GZ w r t)(h:Q t.goal w):yu (sZ r.p) w Q:=by apply O0;exact lC (ah (aL (k.cell 0 _ rfl) h))
def YM {Q:Int->World->Prop}(k:GZ w r t)(h:Q t.ep w):wU (sZ r.p) w Q:=by apply M_;exact lC (ah (aL (k.cell 1 _ rfl) h))
def Mf {Q:Bool->World->Prop}(s:Sep F W w (EH r t::L))(hc:0<=ce/\ce<t.ds.length)(hk:0<=key/\key<4000000000)(hno:key≥gi t.ds ce.toNat->Q false w)
  (hyes:key<gi t.ds ce.toNat->∀w',Sep F W w' (EH r ⟨t.goal,t.ep,t.ds.set ce.toNat key⟩::L)->Q true w'):rN (sZ r.p) ce key w Q:=by
 apply O4;have k:=S_ s;have hl:=k.V.len;have hb:=k.ok _ (fm (i:=ce.toNat) (by omega));refine ah (dz (k.cell 2 _ rfl) ?_);apply Gn k.V (k:=ce.toNat) (by omega) (by omega);rw[aH];by_cases h1:key≥gi t.ds ce.toNat
 ·grind
 rw[bj h1];refine ah (dz (k.cell 2 _ rfl) ?_);obtain⟨hok,s⟩:=aci s;have s:=s;rw[afI (by omega)];refine Ad (k:=ce.toNat) (x':=key) vO s (i:=1) rfl (by omega) (by omega) rfl rfl λw s=>?_;refine hyes (by omega) _ (Y9 s λx hx=>?_);rcases List.mem_or_eq_of_mem_set hx with hx|rfl
 ·exact hok x hx
 ·omega
end
def Tb (c s:Int)(st:Int×Bool)(x:bq):Int×Bool:=if x.c=c/\x.s=s/\(st.2=false\/x.k<st.1)then(x.k,true)else st
def IT (xs:List bq)(c s:Int):Int:=(xs.foldl (Tb c s) (cg,false)).1
section
variable {F:Nat->Prop}{W w w0:World}{L:List As}{la:Option Addr}{ln lc:Nat}{xs:List bq}{ce sd:Int}
def aon {Q:Int->World->Prop}(hX:Sl w0 la ln lc 3 fV xs)(qu:ln<=1000000)(h:∀w',Sep No w0 w' []->Q (IT xs ce sd) w'):
  ∀(j i:Nat) (b:Int) (q:Bool) (w:World),i+j=ln->(xs.drop i).foldl (Tb ce sd) (b,q)=xs.foldl (Tb ce sd) (cg,false)->Sep No w0 w []->oN Q (j+1) ce sd b q la ln lc ln i w:=by
 have hl:=hX.len;intro j;induction j with
 |zero=>
  intro i b q w hi he s;show zI Q (oN Q 0) _ _ _ _ _ _ _ _ _ _;unfold zI;have:=h w s;unfold IT at this;grind
 |succ j ih=>
  intro i b q w hi he s;show zI Q (oN Q (j+1)) _ _ _ _ _ _ _ _ _ _;rw[zI,bM];refine(hX.fr (au s)).El rfl (by omega) λp x hx hc=>?_;refine aL (hc 0 _ rfl) (aL (hc 1 _ rfl) (aL (hc 2 _ rfl) ?_));obtain⟨Jc,hx'⟩:=List.getElem?_eq_some_iff.1 hx;rw[List.drop_eq_getElem_cons Jc,hx',List.foldl_cons]at he;refine aV s λsb w s=>?_;refine ax s (i:=0) rfl rfl rfl λw s=>?_;refine ax s (i:=0) rfl rfl rfl λw s=>?_;refine ax s (i:=0) rfl rfl rfl λw s=>?_;have skip:¬(x.c=ce/\x.s=sd/\(q=false\/x.k<b))->oN Q (j+1) ce sd b q la ln lc ln (IntKind.wrap .i64 ((i:Int)+1)) w:=λhn=>by rw[aH];refine ih (i+1) b q w (by omega) ?_ (ai s);have e:Tb ce sd (b,q) x=(b,q):=if_neg hn;grind
  have take:x.c=ce/\x.s=sd/\(q=false\/x.k<b)->Du (oN Q (j+1)) Q ce sd (aZ sb) la ln lc ln i w:=λhy=>by apply lI s 0 rfl;rw[aH];refine ih (i+1) x.k true w (by omega) ?_ (ai s);have e:Tb ce sd (b,q) x=(x.k,true):=if_pos hy;grind
  apply lI s 0 rfl;by_cases k1:x.c=ce
  ·rw[ee k1,cond_true];apply lI s 0 rfl;by_cases k2:x.s=sd
   ·rw[ee k2,cond_true];cases q with
    |false=>
     grind
    |true=>
     apply lI s 0 rfl;grind
   grind
  grind
def Mg {Q:Int->World->Prop}(s0:Sep F W w L)(hX:Sl w la ln lc 3 fV xs)(qu:ln<=1000000)(h:∀w',Sep F W w' L->Fr No w w'->Q (IT xs ce sd) w'):AD la ln lc ce sd w Q:=by apply aaj;exact⟨ln+1,aon hX qu (λw' s=>h _ (bW s0 (au s)) (au s)) ln 0 cg false w (by omega) (by grind) bh⟩
end
def bP (tw th l s:Int):Int:=
 if s=0 then(if l/tw>0 then l-tw else-1)
 else if s=1 then(if l%tw<tw-1 then l+1 else-1)
 else if s=2 then(if l/tw<th-1 then l+tw else-1)
 else if s=3 then(if l%tw>0 then l-1 else-1)
 else-1
section
variable {F:Nat->Prop}{W w w0:World}{L:List As}{p:Nat}{tw th l sd:Int}{vs:List Value}
def acj {Q:Int->World->Prop}(s0:Sep F W w L)(k:sy w p (ae tw::ae th::vs))(hw:1<=tw/\tw<=16)(hh:1<=th/\th<=16)(hl:0<=l/\l<1000000)
  (h:∀w',Sep F W w' L->Fr No w w'->Q (bP tw th l sd) w'):zu (sZ p) l sd w Q:=by
 apply QV;have k:=k.fr (w':=w.drew) Fr.refl;have h:=h _ (ay s0) Fr.refl;have d0:0<=l/tw:=Int.ediv_nonneg hl.1 (by omega);have d1:l/tw<=l:=Int.ediv_le_self _ hl.1;refine ah (aL (k 0 _ rfl) ⟨by omega,ah (aL (k 0 _ rfl) ⟨by omega,k 0 _ rfl,?_⟩)⟩);rw[Int.tdiv_eq_ediv_of_nonneg hl.1,Int.tmod_eq_emod_of_nonneg hl.1,aH];unfold bP at h;have b8:(if sd=3 then(if l%tw>0 then l-1 else-1)else-1:Int)=bP tw th l sd->qV Q l sd (l%tw) w.drew:=λe=>by
  unfold bP at e;unfold qV;by_cases k3:sd=3
  ·by_cases q:l%tw>0
   ·rw[bM q,aH];grind
   grind
  grind
 have b6:(sd≠0->sd≠1->True)->(sd=0\/sd=1->bP tw th l sd=-1)->qW Q (sZ p) l sd (l%tw) (l/tw) w.drew:=λ_ e=>by
  unfold qW;by_cases k2:sd=2
  ·rw[ee k2,cond_true];rw[fU,fU,if_pos k2]at h;refine ah (aL (k 1 _ rfl) ?_);rw[aH];by_cases q:l/tw<th-1
   ·rw[bM q];rw[if_pos q]at h;refine ah (aL (k 0 _ rfl) ?_);rw[aH];exact h
   ·rw[bj q];apply b8;unfold bP;omega
  ·rw[cL k2,cond_false];apply b8;by_cases k01:sd=0\/sd=1
   ·omega
   ·unfold bP;omega
 have b4:(sd=0->bP tw th l sd=-1)->qX Q (sZ p) l sd (l%tw) (l/tw) w.drew:=λe=>by
  unfold qX;by_cases k1:sd=1
  ·rw[ee k1,cond_true];refine ah (aL (k 0 _ rfl) ?_);rw[aH];by_cases q:l%tw<tw-1
   ·rw[bM q,aH];grind
   ·rw[bj q];refine b6 (λ_ _=>trivial) λ_=>?_;unfold bP;omega
  grind
 by_cases k0:sd=0
 ·rw[ee k0,cond_true];by_cases q:l/tw>0
  ·rw[bM q];rw[if_pos k0,if_pos q]at h;refine ah (aL (k 0 _ rfl) ?_);rw[aH];exact h
  ·rw[bj q];refine b4 λ_=>?_;unfold bP;grind
 grind
end
end Go.Proofs.YtmegplnmiepfbaaGreatDoor.S
namespace Go.Proofs.YtmegplnmiepfbaaGreatDoor.S
open Go.Sx
section
variable {w h sc l s c x y:Int}
def G0 (hm:iS w h)(hx:0<=x/\x<w)(hy:0<=y/\y<h):aC w h (y*w+x)/cS w=y/16/\aC w h (y*w+x)%cS w=x/16:=by obtain⟨e1,e2⟩:=rY (y:=y) hx;have:=VE (aby hm hx hy);grind
def zR (hs:dY w h sc):(1<=aE w h sc/\aE w h sc<=16)/\(1<=bA w h sc/\bA w h sc<=16)/\0<=sc%cS w/\0<=sc/cS w/\16*(sc%cS w)<w/\16*(sc/cS w)<h:=by
 obtain⟨hm,h0,h1⟩:=hs;have ha:1<=cS w:=by unfold cS;have:=hm.1;omega
 have m0:=Int.emod_nonneg sc (show cS w≠0 by omega);have m1:=Int.emod_lt_of_pos sc (show 0<cS w by omega);have d0:0<=sc/cS w:=Int.ediv_nonneg h0 (by omega);have d1:sc/cS w<cS h:=Int.ediv_lt_of_lt_mul (by omega) (by unfold eM at h1;grind);have a1:16*(sc%cS w)<w:=by unfold cS at*;omega
 have a2:16*(sc/cS w)<h:=by have:cS h=(h+15)/16:=rfl;omega
 unfold aE bA;omega
def Rn (hs:dY w h sc)(hl:0<=l/\l<aE w h sc*bA w h sc)(wD:0<=s/\s<=3)(hn:0<=bP (aE w h sc) (bA w h sc) l s):
  (0<=bP (aE w h sc) (bA w h sc) l s/\bP (aE w h sc) (bA w h sc) l s<aE w h sc*bA w h sc)/\aY w h (bY w h sc l) s=bY w h sc (bP (aE w h sc) (bA w h sc) l s):=by
 obtain⟨⟨w1,w2⟩,⟨h1,h2⟩,p1,p2,p3,p4⟩:=zR hs;have hw:aE w h sc<=w-16*(sc%cS w):=by unfold aE;omega
 have hh:bA w h sc<=h-16*(sc/cS w):=by unfold bA;omega
 obtain⟨i0,i1⟩:0<=l%aE w h sc/\l%aE w h sc<aE w h sc:=⟨Int.emod_nonneg _ (by omega),Int.emod_lt_of_pos _ (by omega)⟩;obtain⟨j0,j1⟩:0<=l/aE w h sc/\l/aE w h sc<bA w h sc:=⟨Int.ediv_nonneg hl.1 (by omega),Int.ediv_lt_of_lt_mul (by omega) (by rw[Int.mul_comm];exact hl.2)⟩;have hle:l=l/aE w h sc*aE w h sc+l%aE w h sc:=by have:=Int.mul_ediv_add_emod l (aE w h sc);rw[Int.mul_comm]at this;omega
 have hg:∀i j,0<=i/\i<aE w h sc->bY w h sc (j*aE w h sc+i)=(16*(sc/cS w)+j)*w+(16*(sc%cS w)+i):=λi j hi=>by obtain⟨e1,e2⟩:=rY hi;rw[bY,e1,e2];omega
 have key:∀i j i' j',l=j*aE w h sc+i->0<=i/\i<aE w h sc->0<=i'/\i'<aE w h sc->0<=j'/\j'<bA w h sc->bP (aE w h sc) (bA w h sc) l s=j'*aE w h sc+i'->
   (0<=j/\j<bA w h sc)->aY w h ((16*(sc/cS w)+j)*w+(16*(sc%cS w)+i)) s=g8 w h (16*(sc%cS w)+i') (16*(sc/cS w)+j')->
   (0<=bP (aE w h sc) (bA w h sc) l s/\bP (aE w h sc) (bA w h sc) l s<aE w h sc*bA w h sc)/\aY w h (bY w h sc l) s=bY w h sc (bP (aE w h sc) (bA w h sc) l s):=by
  intro i j i' j' el hi hi' hj' en hj es;rw[en,el,hg _ _ hi,hg _ _ hi',es,nI hs.1 (by omega) (by omega)];refine⟨⟨by have:=Int.mul_nonneg hj'.1 (show 0<=aE w h sc by omega);omega,?_⟩,rfl⟩;have:=Int.mul_le_mul_of_nonneg_right (show j'+1<=bA w h sc by omega) (show 0<=aE w h sc by omega);rw[Int.add_mul,Int.one_mul,Int.mul_comm (bA w h sc)]at this;omega
 have hst:=Fc (s:=s) hs.1 (x:=16*(sc%cS w)+l%aE w h sc) (y:=16*(sc/cS w)+l/aE w h sc) (by omega) (by omega);unfold bP at hn;obtain rfl|rfl|rfl|rfl:s=0\/s=1\/s=2\/s=3:=by omega
 ·by_cases q:l/aE w h sc>0
  ·refine key _ _ (l%aE w h sc) (l/aE w h sc-1) hle ⟨i0,i1⟩ ⟨i0,i1⟩ (by omega) ?_ ⟨j0,j1⟩ ?_
   ·rw[bP,if_pos rfl,if_pos q,Int.sub_mul,Int.one_mul];omega
   ·rw[hst,if_pos rfl];congr 1;omega
  ·omega
 ·by_cases q:l%aE w h sc<aE w h sc-1
  ·refine key _ _ (l%aE w h sc+1) (l/aE w h sc) hle ⟨i0,i1⟩ (by omega) (by omega) ?_ ⟨j0,j1⟩ ?_
   ·unfold bP;omega
   ·rw[hst,if_neg (by decide),if_neg (by decide),if_neg (by decide),if_pos rfl];congr 1;omega
  ·omega
 ·by_cases q:l/aE w h sc<bA w h sc-1
  ·refine key _ _ (l%aE w h sc) (l/aE w h sc+1) hle ⟨i0,i1⟩ ⟨i0,i1⟩ (by omega) ?_ ⟨j0,j1⟩ ?_
   ·rw[bP,if_neg (by decide),if_neg (by decide),if_pos rfl,if_pos q,Int.add_mul,Int.one_mul];omega
   ·rw[hst,if_neg (by decide),if_pos rfl];congr 1;omega
  ·omega
 ·by_cases q:l%aE w h sc>0
  ·refine key _ _ (l%aE w h sc-1) (l/aE w h sc) hle ⟨i0,i1⟩ (by omega) (by omega) ?_ ⟨j0,j1⟩ ?_
   ·unfold bP;omega
   ·rw[hst,if_neg (by decide),if_neg (by decide),if_pos rfl];congr 1;omega
  ·omega
def Tc (hs:dY w h sc)(hl:0<=l/\l<aE w h sc*bA w h sc)(wD:0<=s/\s<=3)(hn:¬0<=bP (aE w h sc) (bA w h sc) l s):
  (0<=aY w h (bY w h sc l) s->aC w h (aY w h (bY w h sc l) s)≠sc)/\l∈mU (aE w h sc) (bA w h sc) s/\
  (0<=aY w h (bY w h sc l) s->0<=aY w h (bY w h sc (gi (mU (aE w h sc) (bA w h sc) s) 0)) s):=by
 obtain⟨⟨w1,w2⟩,⟨h1,h2⟩,p1,p2,p3,p4⟩:=zR hs;have hw:aE w h sc=min 16 (w-16*(sc%cS w)):=rfl;have hh:bA w h sc=min 16 (h-16*(sc/cS w)):=rfl;obtain⟨i0,i1⟩:0<=l%aE w h sc/\l%aE w h sc<aE w h sc:=⟨Int.emod_nonneg _ (by omega),Int.emod_lt_of_pos _ (by omega)⟩;obtain⟨j0,j1⟩:0<=l/aE w h sc/\l/aE w h sc<bA w h sc:=⟨Int.ediv_nonneg hl.1 (by omega),Int.ediv_lt_of_lt_mul (by omega) (by rw[Int.mul_comm];exact hl.2)⟩;have hle:l=l/aE w h sc*aE w h sc+l%aE w h sc:=by have:=Int.mul_ediv_add_emod l (aE w h sc);rw[Int.mul_comm]at this;omega
 have hg:∀i j,0<=i/\i<aE w h sc->bY w h sc (j*aE w h sc+i)=(16*(sc/cS w)+j)*w+(16*(sc%cS w)+i):=λi j hi=>by obtain⟨e1,e2⟩:=rY hi;rw[bY,e1,e2];omega
 have hst:=Fc (s:=s) hs.1 (x:=16*(sc%cS w)+l%aE w h sc) (y:=16*(sc/cS w)+l/aE w h sc) (by omega) (by omega);have WE:bY w h sc l=(16*(sc/cS w)+l/aE w h sc)*w+(16*(sc%cS w)+l%aE w h sc):=by have:=hg (l%aE w h sc) (l/aE w h sc) ⟨i0,i1⟩;rw[<-hle]at this;exact this
 rw[<-WE]at hst;have first:∀i j,0<=i/\i<aE w h sc->0<=j/\j<bA w h sc->aY w h (bY w h sc (j*aE w h sc+i)) s=if s=0 then g8 w h (16*(sc%cS w)+i) (16*(sc/cS w)+j-1)else if s=2 then g8 w h (16*(sc%cS w)+i) (16*(sc/cS w)+j+1)else if s=3 then g8 w h (16*(sc%cS w)+i-1) (16*(sc/cS w)+j)else if s=1 then g8 w h (16*(sc%cS w)+i+1) (16*(sc/cS w)+j)else if s=4 then g8 w h (16*(sc%cS w)+i) (16*(sc/cS w)+j)else-1:=λi j hi hj=>by rw[hg i j hi];exact Fc hs.1 (by omega) (by omega)
 have ok:∀{x y:Int},0<=g8 w h x y->(0<=x/\x<w)/\(0<=y/\y<h)/\g8 w h x y=y*w+x:=λh0=>by obtain⟨a,b,_⟩:=Ci h0;exact⟨a,b,nI hs.1 a b⟩
 have pos:∀{x y:Int},0<=x/\x<w->0<=y/\y<h->0<=g8 w h x y:=λhx hy=>by rw[nI hs.1 hx hy];have:=Int.mul_nonneg hy.1 (show 0<=w by omega);omega
 have head:∀(n:Int) (f:Int->Int),0<n->gi (mT n f) 0=f 0:=λn f hn=>by unfold gi mT;rw[List.getD_eq_getElem?_getD,List.getElem?_map,List.getElem?_range (by omega)];rfl
 have mem:∀(n:Int) (f:Int->Int) (k:Int),0<=k/\k<n->f k∈mT n f:=λn f k hk=>by refine List.mem_map.2 ⟨k.toNat,List.mem_range.2 (by omega),?_⟩;rw[Int.toNat_of_nonneg hk.1]
 unfold bP at hn;obtain rfl|rfl|rfl|rfl:s=0\/s=1\/s=2\/s=3:=by omega
 ·rw[hst,if_pos rfl];have q:¬l/aE w h sc>0:=λq=>by have:=Int.mul_le_mul_of_nonneg_right (show 1<=l/aE w h sc by omega) (show 0<=aE w h sc by omega);omega
  have hj:l/aE w h sc=0:=by omega
  have ha:mU (aE w h sc) (bA w h sc) 0=mT (aE w h sc) λx=>0+x:=by unfold mU;rw[if_neg (by decide),if_pos rfl]
  rw[ha];refine⟨λh0 e=>?_,?_,λh0=>?_⟩
  ·obtain⟨a,b,e1⟩:=ok h0;rw[e1]at e;have:=(G0 hs.1 a b).1;rw[e]at this;omega
  ·have:=mem (aE w h sc) (λx=>0+x) l (by rw[hj,Int.zero_mul]at hle;omega);simpa using this
  ·rw[head _ _ (by omega)];have:=first 0 0 (by omega) (by omega)
   rw[Int.zero_mul]at this;rw[this,if_pos rfl];obtain⟨a,b,_⟩:=ok h0;exact pos (by omega) (by omega)
 ·rw[hst,if_neg (by decide),if_neg (by decide),if_neg (by decide),if_pos rfl];have q:¬l%aE w h sc<aE w h sc-1:=λq=>by omega
  have ha:mU (aE w h sc) (bA w h sc) 1=mT (bA w h sc) λy=>aE w h sc-1+y*aE w h sc:=by unfold mU;rw[if_neg (by decide),if_neg (by decide),if_pos rfl]
  rw[ha];refine⟨λh0 e=>?_,?_,λh0=>?_⟩
  ·obtain⟨a,b,e1⟩:=ok h0;rw[e1]at e;have:=(G0 hs.1 a b).2;rw[e]at this;omega
  ·have:=mem (bA w h sc) (λy=>aE w h sc-1+y*aE w h sc) (l/aE w h sc) ⟨j0,j1⟩;rwa[show aE w h sc-1+l/aE w h sc*aE w h sc=l by omega]at this
  ·rw[head _ _ (by omega)];have:=first (aE w h sc-1) 0 (by omega) (by omega)
   rw[Int.zero_mul,Int.zero_add]at this;rw[Int.zero_mul,Int.add_zero,this,if_neg (by decide),if_neg (by decide),if_neg (by decide),if_pos rfl];obtain⟨a,b,_⟩:=ok h0;exact pos (by omega) (by omega)
 ·rw[hst,if_neg (by decide),if_pos rfl];have q:¬l/aE w h sc<bA w h sc-1:=λq=>by omega
  have ha:mU (aE w h sc) (bA w h sc) 2=mT (aE w h sc) λx=>(bA w h sc-1)*aE w h sc+x:=by unfold mU;rw[if_pos rfl]
  rw[ha];have hj:l/aE w h sc=bA w h sc-1:=by omega
  refine⟨λh0 e=>?_,?_,λh0=>?_⟩
  ·obtain⟨a,b,e1⟩:=ok h0;rw[e1]at e;have:=(G0 hs.1 a b).1;rw[e]at this;omega
  ·have:=mem (aE w h sc) (λx=>(bA w h sc-1)*aE w h sc+x) (l%aE w h sc) ⟨i0,i1⟩;rwa[show(bA w h sc-1)*aE w h sc+l%aE w h sc=l by rw[<-hj];omega]at this
  ·rw[head _ _ (by omega)];have:=first 0 (bA w h sc-1) (by omega) (by omega)
   rw[this,if_neg (by decide),if_pos rfl];obtain⟨a,b,_⟩:=ok h0;exact pos (by omega) (by omega)
 ·rw[hst,if_neg (by decide),if_neg (by decide),if_pos rfl];have q:¬l%aE w h sc>0:=λq=>by have:=Int.mul_nonneg j0 (show 0<=aE w h sc by omega);omega
  have ha:mU (aE w h sc) (bA w h sc) 3=mT (bA w h sc) λy=>0+y*aE w h sc:=by unfold mU;rw[if_neg (by decide),if_neg (by decide),if_neg (by decide),if_pos rfl]
  rw[ha];refine⟨λh0 e=>?_,?_,λh0=>?_⟩
  ·obtain⟨a,b,e1⟩:=ok h0;rw[e1]at e;have:=(G0 hs.1 a b).2;rw[e]at this;omega
  ·have:=mem (bA w h sc) (λy=>0+y*aE w h sc) (l/aE w h sc) ⟨j0,j1⟩;rwa[show 0+l/aE w h sc*aE w h sc=l by omega]at this
  ·rw[head _ _ (by omega),Int.zero_mul,Int.add_zero];have:=first 0 0 (by omega) (by omega)
   rw[Int.zero_mul,Int.add_zero]at this;rw[this,if_neg (by decide),if_neg (by decide),if_pos rfl];obtain⟨a,b,_⟩:=ok h0;exact pos (by omega) (by omega)
end
def fW (m:bJ)(x n c:Int):Prop:=eE m x=true/\eE m n=true/\(∃s:Int,(0<=s/\s<=3)/\aY m.w m.h x s=n)/\c=cV m n
def gE (m:bJ)(t x k:Int):Prop:=x=t/\eE m t=true/\k=0
noncomputable def D (m:bJ)(t x:Int):Int:=gO (gE m t) (fW m) x
def cW (m:bJ)(x:Int):Int:=aC m.w m.h x
def oy (m:bJ)(x:Int):Prop:=x∈aX m (cW m x)
section
variable {m:bJ}{t x n c d s sc l:Int}
def CP (h:eE m x=true):0<cV m x/\cV m x<255:=by unfold eE at h;simpa using h
def j7 (hm:cF m)(h:eE m x=true):bI m.w m.h x:=by
 have:=(CP h).1;unfold cV at this;split at this
 ·rename_i hx;rw[hm.len]at hx;exact⟨⟨hm.w,hm.h⟩,hx⟩
 ·omega
def G1 (h:fW m x n c):1<=c/\c<=254:=by have:=CP h.2.1;rw[h.2.2.2];omega
def Td {k:Int}(h:gE m t x k):0<=k/\k<=0:=by rw[h.2.2];omega
def c_:∀x n c,fW m x n c->0<=c:=λx n c h=>by have:=G1 h;omega
def kZ:∀x k,gE m t x k->0<=k:=λx k h=>(Td h).1
def aeu (h:Wy (gE m t) (fW m) x d):eE m x=true/\eE m t=true:=by
 induction h with
 |src h=>exact⟨by rw[h.1];exact h.2.1,h.2.1⟩
 |go e _ ih=>exact⟨e.1,ih.2⟩
def j8 (m:bJ):List Int:=(List.range m.cs.length).map λi:Nat=>(i:Int)
def zS (hm:cF m)(hx:bI m.w m.h x):x∈j8 m:=by have h1:=hx.2;have h2:=hm.len;exact List.mem_map.2 ⟨x.toNat,List.mem_range.2 (by omega),by omega⟩
def aqT (hm:cF m)(hw:Wy (gE m t) (fW m) x d):0<=D m t x/\D m t x<=254*(m.w*m.h-1):=by
 have h1:=abz (S:=gE m t) (E:=fW m) (λx k h=>Td h) (λx n c h=>G1 h) (j8 m) (λx d h=>zS hm (j7 hm (aeu h).1)) hw;have h2:((j8 m).length:Int)=m.w*m.h:=by rw[<-hm.len];simp[j8]
 refine⟨m8 kZ c_ (rf kZ c_ hw).1,?_⟩;show gO (gE m t) (fW m) x<=_;omega
def aqU (hm:cF m)(hw:Wy (gE m t) (fW m) x d):D m t x<1000000000:=by have:=aqT hm hw;have:=nv ⟨hm.w,hm.h⟩;omega
def ack (h:¬∃d,Wy (gE m t) (fW m) x d):D m t x=cg:=ye λd hd=>h ⟨d,hd⟩
def G2 (hm:cF m):D m t x<cg↔∃d,Wy (gE m t) (fW m) x d:=by
 constructor
 ·intro h;refine Classical.byContradiction λk=>?_;rw[ack k]at h;grind
 ·rintro ⟨d,hd⟩;have:=aqU hm hd;unfold cg;omega
def asD (hw:Wy (gE m t) (fW m) x d):Wy (gE m t) (fW m) x (D m t x)/\∀e,Wy (gE m t) (fW m) x e->D m t x<=e:=rf kZ c_ hw
def aoo (h:eE m t=true):D m t t=0:=Ly (.src ⟨rfl,h,rfl⟩) λe he=>m8 kZ c_ he
def K7 (m:bJ)(t x s:Int):Prop:=0<=aY m.w m.h x s/\eE m (aY m.w m.h x s)=true/\cV m (aY m.w m.h x s)+D m t (aY m.w m.h x s)=D m t x
open Classical in
noncomputable def kQ (m:bJ)(t x:Int):Int:=
 if D m t x=cg then 5 else if x=t then 4 else if K7 m t x 0 then 0 else if K7 m t x 1 then 1 else if K7 m t x 2 then 2 else if K7 m t x 3 then 3 else 5
def aqV (hm:cF m)(hD:D m t x<cg)(hx:x≠t):∃s,(0<=s/\s<=3)/\K7 m t x s:=by
 obtain⟨d,hw⟩:=(G2 hm).1 hD;rcases Se kZ c_ hw with h1|⟨n,c,h1,h2,d',h3⟩
 ·exact(hx h1.1).elim
 ·obtain⟨ho,hn,⟨s,hs,rfl⟩,rfl⟩:=h1;refine⟨s,hs,(j7 hm hn).2.1,hn,?_⟩;show cV m _+gO (gE m t) (fW m) _=gO (gE m t) (fW m) x;omega
def XJ (hm:cF m)(hD:D m t x<cg)(hx:x≠t):(0<=kQ m t x/\kQ m t x<=3)/\K7 m t x (kQ m t x)/\∀s,0<=s->s<kQ m t x->¬K7 m t x s:=by obtain⟨s,hs,hd⟩:=aqV hm hD hx;rw[kQ,fU,if_neg hx];grind
def Jw {w h:Int}(hs:0<=s/\s<=3)(h0:0<=aY w h x s):∃s',(0<=s'/\s'<=3)/\aY w h (aY w h x s) s'=x:=by
 obtain⟨c1,c2⟩:=vp h0;obtain⟨q1,q2,q3⟩:=IS c1;have hst:aY w h x s=if s=0 then g8 w h (x%w) (x/w-1)else if s=2 then g8 w h (x%w) (x/w+1)else if s=3 then g8 w h (x%w-1) (x/w)else if s=1 then g8 w h (x%w+1) (x/w)else if s=4 then g8 w h (x%w) (x/w)else-1:=by unfold aY;grind
 have ok:∀{a b:Int},0<=g8 w h a b->(0<=a/\a<w)/\(0<=b/\b<h)/\g8 w h a b=b*w+a:=λh0=>by obtain⟨a,b,_⟩:=Ci h0;exact⟨a,b,nI c1.1 a b⟩
 rw[hst]at h0⊢;obtain rfl|rfl|rfl|rfl:s=0\/s=1\/s=2\/s=3:=by omega
 ·rw[if_pos rfl]at h0⊢;obtain⟨a,b,e⟩:=ok h0;rw[e];refine⟨2,by decide,?_⟩;rw[Fc c1.1 a b,if_neg (by decide),if_pos rfl,nI c1.1 (by omega) (by omega),Int.sub_add_cancel];exact q3.symm
 ·rw[if_neg (by decide),if_neg (by decide),if_neg (by decide),if_pos rfl]at h0⊢;obtain⟨a,b,e⟩:=ok h0;rw[e];refine⟨3,by decide,?_⟩;rw[Fc c1.1 a b,if_neg (by decide),if_neg (by decide),if_pos rfl,nI c1.1 (by omega) (by omega)];omega
 ·rw[if_neg (by decide),if_pos rfl]at h0⊢;obtain⟨a,b,e⟩:=ok h0;rw[e];refine⟨0,by decide,?_⟩;rw[Fc c1.1 a b,if_pos rfl,nI c1.1 (by omega) (by omega),Int.add_sub_cancel];exact q3.symm
 ·rw[if_neg (by decide),if_neg (by decide),if_pos rfl]at h0⊢;obtain⟨a,b,e⟩:=ok h0;rw[e];refine⟨1,by decide,?_⟩;rw[Fc c1.1 a b,if_neg (by decide),if_neg (by decide),if_neg (by decide),if_pos rfl,nI c1.1 (by omega) (by omega)];omega
def aop {tw th:Int}(ht:1<=tw)(hh:1<=th)(wD:0<=s/\s<=3)(h:l∈mU tw th s):¬0<=bP tw th l s:=by
 have mem:∀{n:Int} {f:Int->Int},l∈mT n f->∃k:Int,(0<=k/\k<n)/\l=f k:=λh=>by obtain⟨i,h1,h2⟩:=mem_range h;grind
 unfold mU at h;unfold bP;obtain rfl|rfl|rfl|rfl:s=0\/s=1\/s=2\/s=3:=by omega
 ·grind
 ·rw[if_neg (by decide),if_neg (by decide),if_pos rfl]at h;obtain⟨k,h1,rfl⟩:=mem h;have:=(rY (w:=tw) (x:=tw-1) (y:=k) (by omega)).2;grind
 ·obtain⟨k,h1,rfl⟩:=mem h;have:=(rY (y:=th-1) (by omega)).1;omega
 ·rw[if_neg (by decide),if_neg (by decide),if_neg (by decide),if_pos rfl]at h;obtain⟨k,h1,rfl⟩:=mem h;simp_all
def aoq {w h:Int}(hc:bI w h c)(wD:0<=s/\s<=3)(ho:0<=gM w h c s):c∈vL w h (aC w h c):=by
 have hs:=bU hc;have hl:=ko hc;have hg:=og hc;obtain⟨⟨w1,w2⟩,⟨h1,h2⟩,_⟩:=zR hs;have hst:0<=aY w h c s/\aC w h (aY w h c s)≠aC w h c:=by unfold gM at ho;omega
 have hout:¬0<=bP (aE w h (aC w h c)) (bA w h (aC w h c)) (dZ w h c) s:=λk=>by obtain⟨k1,k2⟩:=Rn hs hl wD k;rw[hg]at k2;apply hst.2;rw[k2];exact iY hs k1
 obtain⟨o1,o2,o3⟩:=Tc hs hl wD hout;rw[hg]at o1 o3;have o3:=o3 hst.1;have ok:=aiN (sd:=s) ⟨w1,w2⟩ ⟨h1,h2⟩;have h0:=fm (ok.2.1 wD);have hr0:=ok.2.2 _ h0;have CN:Jv w h (aC w h c) s=true:=by
  rw[Jv,decide_eq_true_iff];rw[C9,if_pos ⟨hs,hr0⟩];rw[gM,fU,if_neg]
  ·exact o3
  ·rw[iY hs hr0];exact(Tc hs hr0 wD (aop w1 h1 wD h0)).1 o3
 refine List.mem_map.2 ⟨(dZ w h c).toNat,List.mem_filter.2 ⟨List.mem_range.2 (by omega),?_⟩,?_⟩
 ·rw[yT,List.any_eq_true];refine⟨s.toNat,List.mem_range.2 (by omega),?_⟩;grind
 grind
def aor {w h:Int}(hs:dY w h sc)(h1:c∈vL w h sc):bI w h c/\aC w h c=sc:=by obtain⟨l,h2,rfl⟩:=List.mem_map.1 h1;have h3:=List.mem_range.1 (List.mem_filter.1 h2).1;exact⟨tq hs (by omega),iY hs (by omega)⟩
def mV (hs:dY m.w m.h sc)(h1:c∈aX m sc):eE m c=true/\bI m.w m.h c/\aC m.w m.h c=sc:=by obtain⟨h2,h3⟩:=List.mem_filter.1 h1;exact⟨h3,aor hs h2⟩
def WG (hm:cF m)(ho:eE m c=true)(wD:0<=s/\s<=3)(h:0<=gM m.w m.h c s):oy m c:=by exact List.mem_filter.2 ⟨aoq (j7 hm ho) wD h,ho⟩
def rS (hm:cF m):∀x n c,fW m x n c->cW m x≠cW m n->oy m x/\oy m n:=by
 rintro x n c ⟨h1,h2,⟨s,hs,rfl⟩,_⟩ hne;have PD:=(j7 hm h2).2.1;obtain⟨s',hs',hb⟩:=Jw hs PD;refine⟨WG hm h1 hs ?_,WG hm h2 hs' ?_⟩
 ·rw[gM,fU,if_neg λe=>hne e.symm];exact PD
 ·have hx0:=(j7 hm h1).2.1;rw[gM,hb,fU,if_neg (show¬aC m.w m.h x=aC m.w m.h (aY m.w m.h x s)from hne)];exact hx0
end
section
variable {m:bJ}{t x n c d s sc l:Int}
noncomputable def R (m:bJ)(t x:Int):Int:=gO (Lz (gE m t) (fW m) (cW m) (oy m) t) (JO (fW m) (cW m) (oy m)) x
def amd (m:bJ)(t s x k:Int):Prop:=cW m x=s/\(gE m t x k\/∃n c,fW m x n c/\cW m n≠s/\D m t n<cg/\k=D m t n+c)
def F3:∀x k,gE m t x k->x=t/\k=0:=λx k h=>⟨h.1,h.2.2⟩
def awR (hm:cF m)(hx:oy m x)(h:D m t x<cg):Wy (Lz (gE m t) (fW m) (cW m) (oy m) t) (JO (fW m) (cW m) (oy m)) x (D m t x):=by obtain⟨d,hw⟩:=(G2 hm).1 h;have h1:=asD hw;obtain⟨e,h2,h3⟩:=aij F3 c_ (rS hm) hx h1.1;have h4:=h1.2 _ (NO F3 c_ (rS hm) h3);grind
def au9 (hm:cF m)(hx:oy m x):R m t x=D m t x:=
 ZG (λd hd=>m8 kZ c_ hd) (λd hd=>aij F3 c_ (rS hm) hx hd) λd hd=>NO F3 c_ (rS hm) hd
def atJ (hm:cF m)(hx:cW m x=s):gO (amd m t s) (uj (fW m) (cW m) s) x=D m t x:=by
 subst hx;have Mh:=@NO Int (gE m t) (fW m) (cW m) (oy m) t F3 c_ (rS hm);have e1:gO (aih (gE m t) (fW m) (cW m) (cW m x) (Wy (Lz (gE m t) (fW m) (cW m) (oy m) t) (JO (fW m) (cW m) (oy m)))) (uj (fW m) (cW m) (cW m x)) x=D m t x:=
  ZG (λd hd=>m8 kZ c_ hd) (λd hd=>aii F3 c_ (rS hm) hd)
   λd hd=>an5 F3 c_ (rS hm) (λn d hn=>Mh hn) hd
 rw[<-e1];refine atB ?_ (λx n c h=>c_ _ _ _ h.1) ?_ ?_
 ·rintro x k ⟨_,h|⟨n,c,d,h1,_,h2,rfl⟩⟩
  ·exact kZ _ _ h
  ·have:=c_ _ _ _ h1;have:=m8 kZ c_ (Mh h2);omega
 ·rintro x k ⟨h0,h|⟨n,c,d,h1,h3,h2,rfl⟩⟩
  ·exact⟨k,Int.le_refl _,h0,.inl h⟩
  ·have h4:=Mh h2;have h5:=asD h4;have h6:=h5.2 _ h4;exact⟨D m t n+c,by omega,h0,.inr ⟨n,c,h1,h3,(G2 hm).2 ⟨d,h4⟩,rfl⟩⟩
 ·rintro x k ⟨h0,h|⟨n,c,h1,h3,h4,rfl⟩⟩
  ·exact⟨h0,.inl h⟩
  ·exact⟨h0,.inr ⟨n,c,_,h1,h3,awR hm (rS hm _ _ _ h1 (by grind)).2 h4,rfl⟩⟩
def IU (cs:List Int)(l:Int):Prop:=0<=l/\l<cs.length/\gi cs l.toNat≠255
def IV (tw th:Int)(cs:List Int)(x n c:Int):Prop:=IU cs x/\IU cs n/\(∃s:Int,(0<=s/\s<=3)/\bP tw th x s=n)/\c=gi cs n.toNat
def aqW {α β:Type}{S:α->Int->Prop}{E:α->α->Int->Prop}{S':β->Int->Prop}{E':β->β->Int->Prop}{φ:α->β}{G:α->Prop}
  (h1:∀x k,G x->(S x k↔S' (φ x) k))(h2:∀x n c,G x->E x n c->G n/\E' (φ x) (φ n) c)(h3:∀x y c,G x->E' (φ x) y c->∃n,G n/\y=φ n/\E x n c){x:α}(hx:G x):gO S E x=gO S' E' (φ x):=by
 have a:∀{x d},Wy S E x d->G x->Wy S' E' (φ x) d:=λh=>by
  induction h with
  |src h=>exact λg=>.src ((h1 _ _ g).1 h)
  |go e _ ih=>exact λg=>.go (h2 _ _ _ g e).2 (ih (h2 _ _ _ g e).1)
 have b:∀{y d},Wy S' E' y d->∀x,G x->y=φ x->Wy S E x d:=λh=>by
  induction h with
  |src h=>rintro x g rfl;exact .src ((h1 _ _ g).2 h)
  |go e _ ih=>
   rintro x g rfl;obtain⟨n,h4,h5,h6⟩:=h3 _ _ _ g e;exact .go h6 (ih n h4 h5)
 have e:∀d,Wy S E x d↔Wy S' E' (φ x) d:=λd=>⟨λh=>a h hx,λh=>b h x hx rfl⟩;by_cases h:∃d,Wy S E x d/\∀e,Wy S E x e->d<=e
 ·obtain⟨d,p,q⟩:=h;rw[Ly p q,Ly ((e d).1 p) λe' he'=>q _ ((e e').2 he')]
 ·unfold gO;grind
def dQ (m:bJ)(sc:Int):List Int:=(List.range (aE m.w m.h sc*bA m.w m.h sc).toNat).map λl:Nat=>cV m (bY m.w m.h sc l)
def CQ:((dQ m sc).length:Int)=(aE m.w m.h sc*bA m.w m.h sc).toNat:=by simp[dQ]
def Mi (hl:0<=l/\l<aE m.w m.h sc*bA m.w m.h sc):gi (dQ m sc) l.toNat=cV m (bY m.w m.h sc l):=by unfold gi dQ;grind
def Mj (hm:cF m)(hc:bI m.w m.h c):1<=cV m c/\cV m c<=255:=by have h1:=hc.2;have h2:=hm.len;unfold cV;have:=hm.jG _ (fm (i:=c.toNat) (by omega));omega
def CR (hm:cF m)(hc:bI m.w m.h c):eE m c=true↔cV m c≠255:=by have:=Mj hm hc;unfold eE;grind
def Jx (hm:cF m)(hs:dY m.w m.h sc)(hl:0<=l/\l<aE m.w m.h sc*bA m.w m.h sc):IU (dQ m sc) l↔eE m (bY m.w m.h sc l)=true:=by rw[CR hm (tq hs hl)];rw[IU,Mi hl,CQ];omega
def aiR (hm:cF m)(hs:dY m.w m.h sc){S S':Int->Int->Prop}(hS:∀l k,0<=l/\l<aE m.w m.h sc*bA m.w m.h sc->(S l k↔S' (bY m.w m.h sc l) k))(hl:0<=l/\l<aE m.w m.h sc*bA m.w m.h sc):
  gO S (IV (aE m.w m.h sc) (bA m.w m.h sc) (dQ m sc)) l=gO S' (uj (fW m) (cW m) sc) (bY m.w m.h sc l):=by
 refine aqW (λx k g=>hS x k g) ?_ ?_ hl
 ·rintro x n c g ⟨h1,h2,⟨s,wD,rfl⟩,rfl⟩;have h3:=Rn hs g wD h2.1;refine⟨h3.1,⟨(Jx hm hs g).1 h1,(Jx hm hs h3.1).1 h2,⟨s,wD,h3.2⟩,?_⟩,iY hs g,iY hs h3.1⟩;exact Mi h3.1
 ·rintro x y c g ⟨⟨h1,h2,⟨s,wD,rfl⟩,rfl⟩,h3,h4⟩;have h0:=(j7 hm h2).2.1;by_cases hn:0<=bP (aE m.w m.h sc) (bA m.w m.h sc) x s
  ·have h5:=Rn hs g wD hn;refine⟨_,h5.1,h5.2,(Jx hm hs g).2 h1,(Jx hm hs h5.1).2 (by grind),⟨s,wD,rfl⟩,?_⟩;rw[h5.2];exact(Mi h5.1).symm
  ·exact((Tc hs g wD hn).1 h0 h4).elim
def aos (hm:cF m)(hs:dY m.w m.h sc)(hl:0<=l/\l<aE m.w m.h sc*bA m.w m.h sc){S:Int->Int->Prop}(hS:∀l k,0<=l/\l<aE m.w m.h sc*bA m.w m.h sc->(S l k↔amd m t sc (bY m.w m.h sc l) k)):
  gO S (IV (aE m.w m.h sc) (bA m.w m.h sc) (dQ m sc)) l=D m t (bY m.w m.h sc l):=by
 rw[aiR hm hs hS hl];exact atJ hm (iY hs hl)
end
section
variable {m:bJ}{t x n c d s sc l k:Int}{xs ys:List bq}
def afJ (h:∀x∈xs,x.c=c->x.s=s->x.k=k):∀st:Int×Bool,(st.2=true->st.1=k)->(xs.foldl (Tb c s) st).1=if∃x∈xs,x.c=c/\x.s=s then k else st.1:=by
 induction xs with
 |nil=>grind
 |cons a xs ih=>
  intro st hst;rw[List.foldl_cons];have ih:=ih (λx hx=>h x (by simp[hx]));unfold Tb at ih⊢;by_cases ha:a.c=c/\a.s=s
  ·have hk:=h a (by simp) ha.1 ha.2;by_cases hb:st.2=false\/a.k<st.1
   ·rw[if_pos ⟨ha.1,ha.2,hb⟩,ih _ λ_=>hk,if_pos (c:=∃x∈a::xs,x.c=c/\x.s=s) ⟨a,by simp,ha⟩];split
    ·rfl
    ·exact hk
   ·rw[if_neg λe=>hb e.2.2,ih _ hst,if_pos (c:=∃x∈a::xs,x.c=c/\x.s=s) ⟨a,by simp,ha⟩];split
    ·rfl
    ·apply hst;rcases h2:st.2 with _|_
     ·exact(hb (.inl h2)).elim
     ·rfl
  ·rw[if_neg λe=>ha ⟨e.1,e.2.1⟩,ih _ hst];have:(∃x∈a::xs,x.c=c/\x.s=s)↔∃x∈xs,x.c=c/\x.s=s:=by
    constructor
    ·rintro ⟨x,hx,h1⟩;rcases List.mem_cons.1 hx with rfl|hx
     ·exact(ha h1).elim
     ·exact⟨x,hx,h1⟩
    ·rintro ⟨x,hx,h1⟩;exact⟨x,by simp[hx],h1⟩
   by_cases q:∃x∈xs,x.c=c/\x.s=s
   ·rw[if_pos q,if_pos (this.2 q)]
   ·rw[if_neg q,if_neg λe=>q (this.1 e)]
def afK (h:∀x∈xs,x.c=c->x.s=s->x.k=k)(he:∃x∈xs,x.c=c/\x.s=s):IT xs c s=k:=by rw[IT,afJ h (cg,false) (by simp),if_pos he]
def WH (h:∀x∈xs,¬(x.c=c/\x.s=s)):IT xs c s=cg:=by rw[IT,afJ (k:=0) (λx hx h1 h2=>(h x hx ⟨h1,h2⟩).elim) (cg,false) (by simp),if_neg λ⟨x,hx,h1⟩=>h x hx h1]
def N0 (xs:List bq)(l k:Int):Prop:=∃x∈xs,x.c=l/\x.k=k
def IW (m:bJ)(at_:Int->Int)(c:Int):List bq:=(vM m c).filterMap λe=>if at_ e.1=cg then none else some ⟨dZ m.w m.h c,AL m.w m.h c e.1,e.2+at_ e.1⟩
def Fv (m:bJ)(at_:Int->Int)(t sc:Int):List bq:=(aX m sc).flatMap (IW m at_)++if aC m.w m.h t=sc/\cV m t≠255 then[⟨dZ m.w m.h t,4,0⟩]else[]
def atK {w h s':Int}(hs:0<=s/\s<=3)(hs':0<=s'/\s'<=4)(h0:0<=aY w h x s)(e:aY w h x s'=aY w h x s):s'=s:=by
 obtain⟨c1,c2⟩:=vp h0;have hst:∀s,aY w h x s=if s=0 then g8 w h (x%w) (x/w-1)else if s=2 then g8 w h (x%w) (x/w+1)else if s=3 then g8 w h (x%w-1) (x/w)else if s=1 then g8 w h (x%w+1) (x/w)else if s=4 then g8 w h (x%w) (x/w)else-1:=λs=>by unfold aY;grind
 have ok:∀{a b:Int},0<=g8 w h a b->(0<=a/\a<w)/\(0<=b/\b<h)/\g8 w h a b=b*w+a:=λh0=>by obtain⟨a,b,_⟩:=Ci h0;exact⟨a,b,nI c1.1 a b⟩
 grind
def WI {w h:Int}(hs:0<=s/\s<=3)(h0:0<=aY w h x s):AL w h x (aY w h x s)=s:=by
 obtain⟨c1,c2⟩:=vp h0;unfold AL;have k:∀s',0<=s'/\s'<=4->s'≠s->¬aY w h x s'=aY w h x s:=λs' h1 h2 e=>h2 (atK hs h1 h0 e);obtain rfl|rfl|rfl|rfl:s=0\/s=1\/s=2\/s=3:=by omega
 all_goals grind
def CS {w h:Int}(h0:0<=gM w h c s):gM w h c s=aY w h c s/\aC w h (aY w h c s)≠aC w h c:=by unfold gM at h0⊢;omega
def WJ {e:Int×Int}:e∈vM m c↔eE m c=true/\∃s:Int,(0<=s/\s<=3)/\0<=gM m.w m.h c s/\eE m (gM m.w m.h c s)=true/\e=(gM m.w m.h c s,cV m (gM m.w m.h c s)):=by
 unfold vM;by_cases ho:eE m c=true
 ·rw[if_pos ho];rw[GW,List.mem_filterMap];constructor
  ·rintro ⟨s,h1,h2⟩;have h1:=List.mem_range.1 h1;unfold F2 at h2;grind
  ·rintro ⟨_,s,h1,h2,h3,rfl⟩;refine⟨s.toNat,List.mem_range.2 (by omega),?_⟩;unfold F2;grind
 grind
def Ro (hm:cF m)(hs:dY m.w m.h sc)(ht:bI m.w m.h t){x:bq}:x∈Fv m (D m t) t sc↔
  ((0<=x.c/\x.c<aE m.w m.h sc*bA m.w m.h sc)/\(0<=x.s/\x.s<=3)/\eE m (bY m.w m.h sc x.c)=true/\0<=gM m.w m.h (bY m.w m.h sc x.c) x.s/\eE m (gM m.w m.h (bY m.w m.h sc x.c) x.s)=true/\
   D m t (gM m.w m.h (bY m.w m.h sc x.c) x.s)<cg/\x.k=cV m (gM m.w m.h (bY m.w m.h sc x.c) x.s)+D m t (gM m.w m.h (bY m.w m.h sc x.c) x.s))\/
  ((0<=x.c/\x.c<aE m.w m.h sc*bA m.w m.h sc)/\bY m.w m.h sc x.c=t/\eE m t=true/\x.s=4/\x.k=0):=by
 have ayH:∀z,D m t z≠cg↔D m t z<cg:=λz=>by
  constructor
  ·intro h;by_cases q:∃d,Wy (gE m t) (fW m) z d
   ·exact(G2 hm).2 q
   ·exact(h (ack q)).elim
  omega
 rw[Fv,List.mem_append,List.mem_flatMap];refine or_congr ⟨?_,?_⟩ ⟨?_,?_⟩
 ·rintro ⟨c,h1,h2⟩;obtain⟨ho,hc,hsc⟩:=mV hs h1;obtain⟨e,h3,h4⟩:=List.mem_filterMap.1 h2;split at h4
  ·cases h4
  rename_i h5;cases h4;obtain⟨_,s,h6,h7,h8,rfl⟩:=WJ.1 h3;have hl:=ko hc;have hg:=og hc;obtain⟨h9,h10⟩:=CS h7;have wD:AL m.w m.h c (gM m.w m.h c s)=s:=by rw[h9];exact WI h6 (by grind)
  grind
 ·rintro ⟨h1,h2,h3,h4,h5,h6,h7⟩;have hsc:=iY hs h1;refine⟨bY m.w m.h sc x.c,?_,?_⟩
  ·have:=WG hm h3 h2 h4;unfold oy cW at this;grind
  ·refine List.mem_filterMap.2 ⟨_,WJ.2 ⟨h3,x.s,h2,h4,h5,rfl⟩,?_⟩;obtain⟨h9,h10⟩:=CS h4;rw[if_neg ((ayH _).2 h6),Gt hs h1];have wD:AL m.w m.h (bY m.w m.h sc x.c) (gM m.w m.h (bY m.w m.h sc x.c) x.s)=x.s:=by rw[h9];exact WI h2 (by grind)
   rw[wD,<-h7]
 ·intro h;split at h
  ·rename_i h1;rw[List.mem_singleton]at h;subst h;have hl:=ko ht;have hg:=og ht;rw[h1.1]at hl hg;exact⟨hl,hg,(CR hm ht).2 h1.2,rfl,rfl⟩
  ·simp at h
 ·rintro ⟨h1,h2,h3,h4,h5⟩;have hsc:=iY hs h1;rw[h2]at hsc;rw[if_pos ⟨hsc,(CR hm ht).1 h3⟩,List.mem_singleton];have h6:=Gt hs h1;rw[h2]at h6;rw[h6,<-h4,<-h5]
def aqX (hm:cF m)(hs:dY m.w m.h sc)(ht:bI m.w m.h t)(hxs:∀x,x∈xs↔x∈Fv m (D m t) t sc)(hl:0<=l/\l<aE m.w m.h sc*bA m.w m.h sc):N0 xs l k↔amd m t sc (bY m.w m.h sc l) k:=by
 have hsc:=iY hs hl;constructor
 ·rintro ⟨x,h1,rfl,rfl⟩;rcases(Ro hm hs ht).1 ((hxs x).1 h1)with⟨_,h2,h3,h4,h5,h6,h7⟩|⟨_,h2,h3,h4,h5⟩
  ·obtain⟨h9,h10⟩:=CS h4;refine⟨hsc,.inr ⟨_,_,⟨h3,h5,⟨x.s,h2,h9.symm⟩,rfl⟩,?_,h6,by omega⟩⟩;rw[h9];rw[hsc]at h10;exact h10
  ·exact⟨hsc,.inl ⟨h2,h3,h5⟩⟩
 ·rintro ⟨_,⟨h1,h2,h3⟩|⟨n,c,⟨h1,h2,⟨s,h3,rfl⟩,rfl⟩,h4,h5,rfl⟩⟩
  ·exact⟨⟨l,4,k⟩,(hxs _).2 ((Ro hm hs ht).2 (.inr ⟨hl,h1,h2,rfl,h3⟩)),rfl,rfl⟩
  ·have h0:=(j7 hm h2).2.1;have ho:gM m.w m.h (bY m.w m.h sc l) s=aY m.w m.h (bY m.w m.h sc l) s:=by rw[gM,fU,if_neg (by rw[hsc];exact h4)]
   refine⟨⟨l,s,_⟩,(hxs _).2 ((Ro hm hs ht).2 (.inl ⟨hl,h3,h1,by grind,by grind,by grind,by rw[ho]⟩)),rfl,?_⟩;grind
noncomputable def Mk (tw th:Int)(cs:List Int)(xs:List bq)(l:Int):Int:=gO (N0 xs) (IV tw th cs) l
def T4 (tw th:Int)(cs:List Int)(xs:List bq)(f:Int->Int)(l s:Int):Bool:=
 if bP tw th l s<0 then IT xs l s==f l else gi cs (bP tw th l s).toNat !=255&&(gi cs (bP tw th l s).toNat+f (bP tw th l s)==f l)
def aav (tw th:Int)(cs:List Int)(xs:List bq)(f:Int->Int)(l:Int):Int:=
 if f l=cg then 5 else if IT xs l 4=f l then 4 else if T4 tw th cs xs f l 0 then 0 else if T4 tw th cs xs f l 1 then 1 else if T4 tw th cs xs f l 2 then 2 else if T4 tw th cs xs f l 3 then 3 else 5
def au_ (hm:cF m)(hs:dY m.w m.h sc)(ht:bI m.w m.h t)(hxs:∀x,x∈xs↔x∈Fv m (D m t) t sc)(hl:0<=l/\l<aE m.w m.h sc*bA m.w m.h sc):
  Mk (aE m.w m.h sc) (bA m.w m.h sc) (dQ m sc) xs l=D m t (bY m.w m.h sc l):=
 aos hm hs hl λl k h=>aqX hm hs ht hxs h
def dir_eq (hm:cF m)(hs:dY m.w m.h sc)(ht:bI m.w m.h t)(hxs:∀x,x∈xs↔x∈Fv m (D m t) t sc){f:Int->Int}(hf:∀l,0<=l/\l<aE m.w m.h sc*bA m.w m.h sc->f l=D m t (bY m.w m.h sc l))(hl:0<=l/\l<aE m.w m.h sc*bA m.w m.h sc):
  aav (aE m.w m.h sc) (bA m.w m.h sc) (dQ m sc) xs f l=kQ m t (bY m.w m.h sc l):=by
 have hsc:=iY hs hl;have hmem:=λx=>(hxs x).trans (Ro hm hs ht);unfold aav kQ;rw[hf l hl];by_cases hI:D m t (bY m.w m.h sc l)=cg
 ·grind
 rw[if_neg hI,if_neg hI];have hDl:D m t (bY m.w m.h sc l)<cg:=by
  by_cases q:∃d,Wy (gE m t) (fW m) (bY m.w m.h sc l) d
  ·exact(G2 hm).2 q
  ·exact(hI (ack q)).elim
 have hop:eE m (bY m.w m.h sc l)=true/\eE m t=true:=by obtain⟨d,hd⟩:=(G2 hm).1 hDl;exact aeu hd
 by_cases hT:bY m.w m.h sc l=t
 ·rw[if_pos hT,if_pos];rw[hT,aoo hop.2];refine afK (λx hx h1 h2=>?_) ⟨⟨l,4,0⟩,(hmem _).2 (.inr ⟨hl,hT,hop.2,rfl,rfl⟩),rfl,rfl⟩;grind
 rw[if_neg hT,if_neg]
 ·have key:∀s,0<=s/\s<=3->(T4 (aE m.w m.h sc) (bA m.w m.h sc) (dQ m sc) xs f l s=true↔K7 m t (bY m.w m.h sc l) s):=λs wD=>by
   unfold T4 K7;rw[hf l hl];by_cases hn:0<=bP (aE m.w m.h sc) (bA m.w m.h sc) l s
   ·obtain⟨h1,h2⟩:=Rn hs hl wD hn;rw[fU,h2,Mi h1,hf _ h1,CR hm (tq hs h1),Bool.and_eq_true,bne_iff_ne,beq_iff_eq];exact⟨λh=>⟨(tq hs h1).2.1,h⟩,λh=>h.2⟩
   ·obtain⟨h1,_⟩:=Tc hs hl wD hn;rw[A5,beq_iff_eq];by_cases h0:0<=aY m.w m.h (bY m.w m.h sc l) s
    ·have ho:gM m.w m.h (bY m.w m.h sc l) s=aY m.w m.h (bY m.w m.h sc l) s:=by unfold gM;omega
     by_cases h2:eE m (aY m.w m.h (bY m.w m.h sc l) s)=true/\D m t (aY m.w m.h (bY m.w m.h sc l) s)<cg
     ·rw[afK (k:=cV m (aY m.w m.h (bY m.w m.h sc l) s)+D m t (aY m.w m.h (bY m.w m.h sc l) s)) (λx hx h3 h4=>?_) ⟨⟨l,s,_⟩,(hmem _).2 (.inl ⟨hl,wD,hop.1,by grind,by grind,by grind,by rw[ho]⟩),rfl,rfl⟩]
      all_goals grind
     ·rw[WH λx hx h3=>?_]
      ·constructor
       ·omega
       ·rintro ⟨_,h3,h4⟩;have h5:=CP h3;exact(h2 ⟨h3,by omega⟩).elim
      grind
    ·rw[WH λx hx h3=>?_]
     ·constructor
      ·intro h;omega
      ·exact λh=>(h0 h.1).elim
     ·rcases(hmem x).1 hx with⟨_,_,_,h4,_⟩|⟨_,_,_,h5,_⟩
      ·rw[h3.1,h3.2]at h4;have h5:=(CS h4).1;exact h0 (by rw[<-h5];exact h4)
      ·omega
  grind
 ·rw[WH λx hx h3=>?_]
  ·exact λh=>hI h.symm
  ·rcases(hmem x).1 hx with⟨_,h4,_⟩|⟨_,h4,_⟩
   ·omega
   ·rw[h3.1]at h4;exact hT h4
def avb (hm:cF m)(hs:dY m.w m.h sc)(ht:bI m.w m.h t){x:bq}(hx:x∈Fv m (D m t) t sc):AM (aE m.w m.h sc) (bA m.w m.h sc) (dQ m sc) x=true:=by
 have hlen:((dQ m sc).length:Int)=aE m.w m.h sc*bA m.w m.h sc\/aE m.w m.h sc*bA m.w m.h sc<0:=by rw[CQ];omega
 obtain⟨⟨w1,w2⟩,⟨h1,h2⟩,_⟩:=zR hs;have out:∀l s,0<=s/\s<=3->¬0<=bP (aE m.w m.h sc) (bA m.w m.h sc) l s->0<=l/\l<aE m.w m.h sc*bA m.w m.h sc->aat (aE m.w m.h sc) (bA m.w m.h sc) l s=true:=λl s wD hn hl=>by
  obtain⟨i0,i1⟩:0<=l%aE m.w m.h sc/\l%aE m.w m.h sc<aE m.w m.h sc:=⟨Int.emod_nonneg _ (by omega),Int.emod_lt_of_pos _ (by omega)⟩;obtain⟨j0,j1⟩:0<=l/aE m.w m.h sc/\l/aE m.w m.h sc<bA m.w m.h sc:=⟨Int.ediv_nonneg hl.1 (by omega),Int.ediv_lt_of_lt_mul (by omega) (by grind)⟩;have hle:l=l/aE m.w m.h sc*aE m.w m.h sc+l%aE m.w m.h sc:=by have:=Int.mul_ediv_add_emod l (aE m.w m.h sc);grind
  unfold bP at hn;unfold aat;obtain rfl|rfl|rfl|rfl:s=0\/s=1\/s=2\/s=3:=by omega
  ·by_cases q:l/aE m.w m.h sc>0
   ·have:=Int.mul_le_mul_of_nonneg_right (show 1<=l/aE m.w m.h sc by omega) (show 0<=aE m.w m.h sc by omega);omega
   grind
  ·grind
  ·grind
  ·by_cases q:l%aE m.w m.h sc>0
   ·have:=Int.mul_nonneg j0 (show 0<=aE m.w m.h sc by omega);omega
   grind
 have fin:(0<=x.c/\x.c<aE m.w m.h sc*bA m.w m.h sc)->eE m (bY m.w m.h sc x.c)=true->(0<=x.k/\x.k<=1073741824)->aat (aE m.w m.h sc) (bA m.w m.h sc) x.c x.s=true->AM (aE m.w m.h sc) (bA m.w m.h sc) (dQ m sc) x=true:=λhl ho hk hout=>by rw[AM,Mi hl,decide_eq_true (show 0<=x.c/\x.c<((dQ m sc).length:Int) by omega),decide_eq_true hk,hout,Bool.true_and,Bool.true_and,Bool.and_true,bne_iff_ne];exact(CR hm (tq hs hl)).1 ho
 rcases(Ro hm hs ht).1 hx with⟨a1,a2,a3,a4,a5,a6,a7⟩|⟨a1,a2,a3,a4,a5⟩
 ·obtain⟨d,hd⟩:=(G2 hm).1 a6;have b1:=aqU hm hd;have b2:=aqT hm hd;have b3:=CP a5;refine fin a1 a3 (by omega) (out _ _ a2 (λk=>?_) a1);obtain⟨o1,o2⟩:=Rn hs a1 a2 k;obtain⟨q1,q2⟩:=CS a4;rw[o2,iY hs o1,iY hs a1]at q2;exact q2 rfl
 ·apply fin a1 (by grind) (by omega);unfold aat;grind
end
def cT (a b:bq):Bool:=decide (aiP a b<0)
def aev {a b:bq}:cT a b=true↔a.k<b.k\/a.k=b.k/\(a.c<b.c\/a.c=b.c/\a.s<b.s):=by unfold cT aiP WB;grind
def Rp {a b:bq}:cT a b=false↔¬(a.k<b.k\/a.k=b.k/\(a.c<b.c\/a.c=b.c/\a.s<b.s)):=by rw[<-aev,Bool.not_eq_true]
def F4:Go.Sort.SWO cT where
 irrefl x:=by rw[Rp];omega
 trans x y z h k:=by rw[aev]at*;omega
 ntrans x y z h k:=by rw[Rp]at*;omega
def avc {x y:bq}(h:cT x y=false)(k:cT y x=false):x=y:=by rw[Rp]at h k;obtain⟨c,s,q⟩:=x;obtain⟨c',s',q'⟩:=y;grind
def aaw (xs:List bq):List bq:=xs.mergeSort λx y=>!cT y x
def N2 (xs:List bq):List bq:=aaw xs
def atL {xs:List bq}{x:bq}:x∈aaw xs↔x∈xs:=List.mem_mergeSort
def atM {xs:List bq}:(aaw xs).length=xs.length:=List.length_mergeSort _
def aqY {xs:List bq}{x:bq}:x∈N2 xs↔x∈xs:=atL
def aqZ {xs:List bq}:(N2 xs).length=xs.length:=atM
def ame {xs:List bq}:(aaw xs).Pairwise λa b=>a.k<=b.k:=by
 have h:=List.pairwise_mergeSort (le:=λx y=>!cT y x) (λa b c h k=>by
  simp[Bool.not_eq_true']at*;exact F4.ntrans _ _ _ k h) (λa b=>by
  simp[Bool.or_eq_true,Bool.not_eq_true'];by_cases q:cT b a=true
  ·right;rw[aev]at q;rw[Rp];omega
  grind) xs
 refine List.Pairwise.imp ?_ h;intro a b h;simp[Bool.not_eq_true']at h;rw[Rp]at h;omega
def akx {xs:List bq}:(N2 xs).Pairwise λa b=>a.k<=b.k:=ame
def EI (n:Nat)(out:List Int)(a c:Int):Bool:=c==0||(decide ((n:Int)-out.length<a+1)||(decide (0<out.length)&&gi out (out.length-1)==c))
def qe (n:Nat):List Int->List Int->Nat->Option (List Int×Nat)
 |a::c::r,out,used=>if n<=out.length then some (out,used)else if EI n out a c then none else qe n r (out++List.replicate (a+1).toNat c) (used+2)
 |_,out,used=>if n<=out.length then some (out,used)else none
def IX (n:Nat):List Int->Option (List Int×Nat)
 |[]=>none
 |f::r=>if f=0 then(if r=[]\/gi r 0=0 then none else some (List.replicate n (gi r 0),2))
  else if f=1 then(if r.length<n\/0∈r.take n then none else some (r.take n,1+n))
  else if f=2 then qe n r [] 1
  else none
def F5 (n:Nat)(f:Int)(r:List Int):IX n (f::r)=if f=0 then(if r=[]\/gi r 0=0 then none else some (List.replicate n (gi r 0),2))
 else if f=1 then(if r.length<n\/0∈r.take n then none else some (r.take n,1+n))
 else if f=2 then qe n r [] 1
 else none:=rfl
def Fw (bs:List Int)(n:Nat):Option (List Int×Nat):=match IX n bs with
 |some (cs,used)=>if(uh cs).2=bs.take used then some (cs,used)else none
 |none=>none
def N3 (x:Int):∀l:List Int,l.take (lead x l)=List.replicate (lead x l) x
 |[]=>rfl
 |y::ys=>by
  unfold lead;split
  ·rename_i h;subst h;rw[List.take_succ_cons,List.replicate_succ,N3]
  ·rfl
def afL (x:Int):∀l:List Int,∀y ys,l.drop (lead x l)=y::ys->y≠x
 |[],y,ys,h=>by grind
 |z::zs,y,ys,h=>by
  unfold lead at h;split at h
  ·exact afL x zs y ys h
  grind
def N4 {n:Nat}{out:List Int}{used:Nat}(h:n<=out.length):∀bs,qe n bs out used=some (out,used)
 |[]=>by simp[qe,h]
 |[a]=>by simp[qe,h]
 |a::c::r=>by rw[qe,if_pos h]
def afM (n:Nat):∀(f:Nat) (cs out rest:List Int) (used:Nat),cs.length<=f->cs.length<=256->(∀x∈cs,1<=x/\x<256)->n=out.length+cs.length->(0<out.length->∀y ys,cs=y::ys->gi out (out.length-1)≠y)->
  qe n (lQ f cs++rest) out used=some (out++cs,used+(lQ f cs).length)
 |0,cs,out,rest,used,hf,aq0,hr,hn,hl=>by have:cs=[]:=List.eq_nil_of_length_eq_zero (by omega);subst this;rw[N4 (by omega)];simp[lQ]
 |f+1,[],out,rest,used,hf,aq0,hr,hn,hl=>by rw[N4 (by grind)];simp[lQ]
 |f+1,x::ys,out,rest,used,hf,aq0,hr,hn,hl=>by
  have hk:=PK x ys;simp[List.length_cons]at hf aq0 hn;have hx:=hr x (by simp);have e:((lead x ys:Nat):Int)%256=lead x ys:=Int.emod_eq_of_lt (by omega) (by omega);have ey:List.replicate (lead x ys+1) x++ys.drop (lead x ys)=x::ys:=by rw[List.replicate_succ,<-N3,List.cons_append,List.take_append_drop]
  show qe n (((lead x ys:Nat):Int)%256::x::(lQ f (ys.drop (lead x ys))++rest)) out used=_;rw[e,qe,fU,if_neg]
  ·have:=afM n f (ys.drop (lead x ys)) (out++List.replicate (lead x ys+1) x) rest (used+2) (by grind) (by grind) (λz hz=>hr z (by grind)) (by grind) (λ_ y zs hy=>by have h1:=afL x ys y zs hy;intro h2;apply h1;rw[<-h2];unfold gi;grind)
   rw[show((lead x ys:Nat)+1:Int).toNat=lead x ys+1 by omega,this,List.append_assoc,ey];congr 2;show _=used+(((lead x ys:Nat):Int)%256::x::lQ f (ys.drop (lead x ys))).length;grind
  ·unfold EI;grind
def aq1 {cs rest:List Int}(hr:∀x∈cs,1<=x/\x<256)(h1:1<=cs.length/\cs.length<=256):IX cs.length ((uh cs).2++rest)=some (cs,(uh cs).2.length):=by
 have hb:=afM cs.length cs.length cs [] rest 1 (Nat.le_refl _) h1.2 hr (by simp) (by simp);rw[List.nil_append]at hb;unfold uh;split
 ·rename_i h3;obtain⟨x,ys,rfl⟩:∃x ys,cs=x::ys:=by
   cases cs with
   |nil=>simp at h1
   |cons x ys=>grind
  have h4:(lQ (x::ys).length (x::ys)).length=2:=by unfold ug at h3;grind
  have h5:lQ ys.length (ys.drop (lead x ys))=[]:=by apply List.eq_nil_of_length_eq_zero;have:(lQ (x::ys).length (x::ys)).length=(lQ ys.length (ys.drop (lead x ys))).length+2:=rfl;omega
  have h6:ys.drop (lead x ys)=[]:=by
   cases hd:ys.drop (lead x ys)with
   |nil=>rfl
   |cons z zs=>
    rw[hd]at h5;have h7:0<ys.length:=by grind
    obtain⟨k,hk⟩:∃k,ys.length=k+1:=⟨ys.length-1,by omega⟩;rw[hk]at h5;cases h5
  have h7:lead x ys=ys.length:=by
   have:=PK x ys;have h8:(ys.drop (lead x ys)).length=0:=by rw[h6];rfl
   grind
  have h8:ys=List.replicate ys.length x:=by have:=N3 x ys;grind
  have hx:=hr x (by simp);show IX _ (0::x::rest)=some (x::ys,2);rw[F5,if_pos rfl,if_neg]
  ·show some (List.replicate (ys.length+1) x,2)=some (x::ys,2);grind
  ·rintro (h|h)
   ·cases h
   ·have:x=0:=h;omega
 ·split
  ·show IX _ (2::(lQ cs.length cs++rest))=some (cs,(2::lQ cs.length cs).length);rw[F5,if_neg (by decide),if_neg (by decide),if_pos rfl,hb,List.length_cons,Nat.add_comm]
  ·show IX _ (1::(cs++rest))=some (cs,(1::cs).length);rw[F5,if_neg (by decide),if_pos rfl,if_neg,List.take_left,List.length_cons,Nat.add_comm];grind
def atN {cs rest:List Int}(hr:∀x∈cs,1<=x/\x<256)(h1:1<=cs.length/\cs.length<=256):Fw ((uh cs).2++rest) cs.length=some (cs,(uh cs).2.length):=by rw[Fw,aq1 hr h1];grind
def Te (n:Nat):∀(bs out:List Int) (used:Nat) (cs:List Int) (u:Nat),(∀x∈bs,0<=x/\x<256)->(∀x∈out,1<=x/\x<256)->out.length<=n->qe n bs out used=some (cs,u)->cs.length=n/\(∀x∈cs,1<=x/\x<256)/\u<=used+bs.length
 |[],out,used,cs,u,hb,ho,hn,h=>by unfold qe at h;grind
 |[a],out,used,cs,u,hb,ho,hn,h=>by unfold qe at h;grind
 |a::c::r,out,used,cs,u,hb,ho,hn,h=>by
  unfold qe at h;split at h
  ·grind
  ·split at h
   ·cases h
   ·rename_i h1 h2;unfold EI at h2;have:=Te n r _ (used+2) cs u (λx hx=>hb x (by simp[hx])) (λx hx=>by grind) (by grind) h
    grind
def aot {bs cs:List Int}{n used:Nat}(hn:1<=n)(hb:∀x∈bs,0<=x/\x<256)(h:Fw bs n=some (cs,used)):cs.length=n/\(∀x∈cs,1<=x/\x<256)/\used<=bs.length:=by
 unfold Fw at h;split at h
 ·rename_i cs' used' hB;split at h
  ·cases h;cases bs with
   |nil=>cases hB
   |cons f r=>
    rw[F5]at hB;split at hB
    ·split at hB
     ·cases hB
     ·rename_i h1;cases hB;obtain⟨x,r',rfl⟩:∃x r',r=x::r':=by
       cases r with
       |nil=>grind
       |cons x r'=>grind
      have hx:=hb x (by simp);refine⟨by simp,λy hy=>?_,by simp⟩;rw[List.mem_replicate]at hy;have h3:y=x:=hy.2;omega
    ·split at hB
     ·grind
     ·split at hB
      ·have:=Te n r [] 1 cs used (λx hx=>hb x (by simp[hx])) (by simp) (by simp) hB;grind
      ·cases hB
  ·cases h
 ·cases h
def Fx (w h sc:Int)(M ts:List Int)(y:Int):List Int:=(List.range M.length).map λc:Nat=>if aC w h c=sc/\dZ w h c/aE w h sc<y then gi ts (dZ w h c).toNat else gi M c
def aiS (w h sc:Int)(M ts:List Int):List Int:=Fx w h sc M ts (bA w h sc)
def rE (w h:Int):Nat->Int->List Int->List Int->Option (List Int×List Int)
 |0,_,bs,M=>some (bs,M)
 |k+1,i,bs,M=>match Fw bs (aE w h i*bA w h i).toNat with
  |none=>none
  |some (ts,used)=>rE w h k (i+1) (bs.drop used) (aiS w h i M ts)
def BT (bs:List Int):Int:=gi bs 0+256*gi bs 1
def BU (bs:List Int):Int:=gi bs 2+256*gi bs 3
def lz (bs:List Int):Option bJ:=
 if bs.length<4 then none else if iS (BT bs) (BU bs)then
  match rE (BT bs) (BU bs) (eM (BT bs) (BU bs)).toNat 0 (bs.drop 4) (List.replicate (BT bs*BU bs).toNat 0)with
  |some (bs',M)=>if bs'=[]then some ⟨BT bs,BU bs,M⟩else none
  |none=>none
 else none
section
variable {w h sc y:Int}{M ts:List Int}{c:Nat}
def Ml:(Fx w h sc M ts y).length=M.length:=by simp[Fx]
def Tf:(aiS w h sc M ts).length=M.length:=Ml
def XK (hc:c<M.length):gi (Fx w h sc M ts y) c=if aC w h c=sc/\dZ w h c/aE w h sc<y then gi ts (dZ w h c).toNat else gi M c:=by unfold gi Fx;rw[List.getD_eq_getElem?_getD,List.getElem?_map,List.getElem?_range hc];rfl
def ale (hc:c<M.length)(hC:bI w h c):gi (aiS w h sc M ts) c=if aC w h c=sc then gi ts (dZ w h c).toNat else gi M c:=by
 rw[aiS,XK hc];by_cases e:aC w h c=sc
 ·rw[if_pos e,if_pos];refine⟨e,?_⟩;have hl:=ko hC;have hs:=bU hC;rw[e]at hl hs;obtain⟨⟨w1,w2⟩,⟨h1,h2⟩,_⟩:=zR hs;exact Int.ediv_lt_of_lt_mul (by omega) (by grind)
 grind
def aiT {a:Int}(h:1<=a/\a<=1024):a%256+256*(a/256%256)=a:=by omega
def aq2 {m:bJ}(hm:cF m){s:Int}(hs:dY m.w m.h s):(qB m s).length=(aE m.w m.h s*bA m.w m.h s).toNat:=by unfold qB;grind
def aq3 {m:bJ}{l:Int}(hl:0<=l/\l<aE m.w m.h sc*bA m.w m.h sc):gi (qB m sc) l.toNat=gi m.cs (bY m.w m.h sc l).toNat:=by show(qB m sc).getD l.toNat 0=_;unfold qB;grind
def aiU {m:bJ}(hm:cF m)(hs:dY m.w m.h sc):qB m sc=dQ m sc:=by refine List.map_congr_left λl hl=>?_;have hl:=List.mem_range.1 hl;have hg:=tq hs (l:=l) (by omega);have:=hm.len;have:=hg.2;unfold cV;omega
def afN {m:bJ}(hm:cF m):∀(k:Nat) (i:Nat) (M:List Int),(i:Int)+k=eM m.w m.h->M.length=m.cs.length->(∀c:Nat,c<m.cs.length->aC m.w m.h c<i->gi M c=gi m.cs c)->
  rE m.w m.h k i ((List.range' i k).flatMap λs:Nat=>(uh (qB m s)).2) M=some ([],m.cs)
 |0,i,M,hk,hl,hM=>by show some ([],M)=some ([],m.cs);congr 2;refine PJ hl λc hc=>hM c (by omega) ?_;have hC:bI m.w m.h c:=⟨⟨hm.w,hm.h⟩,by omega,by rw[<-hm.len];omega⟩;have:=(bU hC).2.2;omega
 |k+1,i,M,hk,hl,hM=>by
  have hs:dY m.w m.h i:=⟨⟨hm.w,hm.h⟩,by omega,by omega⟩;have hlen:=VD hm hs.2;have e:=aq2 hm hs;rw[List.range'_succ,List.flatMap_cons,rE,<-e,atN (VC hm hs.2) hlen.2];simp only;rw[List.drop_left,show((i:Int)+1)=((i+1:Nat):Int) by omega];refine afN hm k (i+1) _ (by omega) (by rw[Tf,hl]) λc hc hsc=>?_;have hC:bI m.w m.h c:=⟨⟨hm.w,hm.h⟩,by omega,by rw[<-hm.len];omega⟩;rw[ale (by omega) hC];by_cases q:aC m.w m.h c=i
  ·rw[if_pos q];have hl2:=ko hC;have hg:=og hC;rw[q]at hl2 hg;rw[aq3 hl2,hg];rfl
  grind
def acn {m:bJ}(hm:cF m):lz (y7 m)=some m:=by
 have e1:BT (y7 m)=m.w:=aiT hm.w;have e2:BU (y7 m)=m.h:=aiT hm.h;rw[lz,e1,e2,if_neg (by unfold y7;simp),if_pos ⟨hm.w,hm.h⟩];have:=afN hm (eM m.w m.h).toNat 0 (List.replicate (m.w*m.h).toNat 0) (by have:=(gS hm.w hm.h).1;omega) (by have:=hm.len;simp;omega) (λc hc h=>by have hC:bI m.w m.h c:=⟨⟨hm.w,hm.h⟩,by omega,by rw[<-hm.len];omega⟩;have:=(bU hC).2.1;omega)
 rw[<-List.range_eq_range']at this;have e3:(y7 m).drop 4=(List.range (eM m.w m.h).toNat).flatMap λs:Nat=>(uh (qB m s)).2:=by rfl
 simp_all
def aiV (hm:iS w h):∀(k:Nat) (i:Nat) (bs M bs' M':List Int),(i:Int)+k=eM w h->(M.length:Int)=w*h->(∀x∈bs,0<=x/\x<256)->(∀c:Nat,c<M.length->aC w h c<i->1<=gi M c/\gi M c<256)->
  rE w h k i bs M=some (bs',M')->(M'.length:Int)=w*h/\∀x∈M',1<=x/\x<256
 |0,i,bs,M,bs',M',hk,hl,hb,hM,h=>by cases h;refine⟨hl,λx hx=>?_⟩;obtain⟨c,hc⟩:=List.mem_iff_getElem?.1 hx;have yF:=(List.getElem?_eq_some_iff.1 hc).1;have hC:bI w h c:=⟨hm,by omega,by omega⟩;have:=hM c yF (by have:=(bU hC).2.2;omega);rw[h_ yF]at hc;grind
 |k+1,i,bs,M,bs',M',hk,hl,hb,hM,hg=>by
  have hs:dY w h i:=⟨hm,by omega,by omega⟩;obtain⟨⟨w1,w2⟩,⟨h1,h2⟩,_⟩:=zR hs;have h11:1<=aE w h i*bA w h i:=by have:=Int.mul_le_mul w1 h1 (by decide) (by omega);omega
  rw[rE]at hg;split at hg
  ·cases hg
  ·rename_i ts used hT;obtain⟨t1,t2,t3⟩:=aot (by omega) hb hT;refine aiV hm k (i+1) _ _ bs' M' (by omega) (by rw[Tf];exact hl) (λx hx=>hb x (List.mem_of_mem_drop hx)) (λc hc hsc=>?_) hg;rw[Tf]at hc;have hC:bI w h c:=⟨hm,by omega,by omega⟩;rw[ale hc hC];by_cases q:aC w h c=i
   ·rw[if_pos q];have hl2:=ko hC;rw[q]at hl2;exact t2 _ (fm (by omega))
   grind
def afO {bs:List Int}{m:bJ}(hb:∀x∈bs,0<=x/\x<256)(h:lz bs=some m):cF m:=by
 unfold lz at h;split at h
 ·cases h
 ·split at h
  ·rename_i hm;split at h
   ·rename_i bs' M hT;split at h
    ·cases h;have hwh:=nv hm;obtain⟨a,b⟩:=aiV hm _ 0 _ _ _ _ (by have:=(gS hm.1 hm.2).1;omega) (by grind) (λx hx=>hb x (List.mem_of_mem_drop hx)) (λc hc hsc=>by rw[List.length_replicate]at hc;have hC:bI (BT bs) (BU bs) c:=⟨hm,by omega,by omega⟩;have:=(bU hC).2.1;omega) hT
     exact⟨hm.1,hm.2,a,b⟩
    ·cases h
   ·cases h
  ·cases h
end
end Go.Proofs.YtmegplnmiepfbaaGreatDoor.S
namespace Go.Proofs.YtmegplnmiepfbaaGreatDoor.S.Rg
abbrev E:=Int×Int
def Y_ (j:Nat)(e:E):Bool:=decide (e.1%256=(j:Int))
def tY (l:List E)(j:Nat):List Int:=(l.filter (Y_ j)).map (·.2)
def Fit (a:Int)(l:List E):Prop:=∀e∈l,a<=e.1/\e.1<a+256
def aou (l:List E)(e:E)(j:Nat):tY (l++[e]) j=if e.1%256=(j:Int)then tY l j++[e.2]else tY l j:=by
 unfold tY;by_cases h:e.1%256=(j:Int)
 ·simp[Y_,h]
 ·simp[Y_,h]
def aq4 {a:Int}{l:List E}{e:E}(h:Fit a l)(h1:a<=e.1)(h2:e.1<a+256):Fit a (l++[e]):=by
 intro x hx;rcases List.mem_append.1 hx with hx|hx
 ·exact h x hx
 grind
def afP {k:Int}:∀{l:List E},(∃e∈l,e.1=k)->∃l1 x l2,l=l1++(k,x)::l2/\∀e∈l1,e.1≠k
 |[],h=>by grind
 |y::l,h=>by
  by_cases hy:y.1=k
  ·exact⟨[],y.2,l,by subst hy;rfl,by simp⟩
  ·obtain⟨l1,x,l2,h1,h2⟩:=afP (k:=k) (l:=l) (by grind)
   grind
def XL {a k:Int}{l:List E}{j:Nat}(h:Fit a l)(hk:a<=k/\k<a+256)(hj:k%256=(j:Int)){e:E}(he:e∈l):Y_ j e=true↔e.1=k:=by have:=h e he;unfold Y_;grind
def aov {a k:Int}{l:List E}{j:Nat}(h:Fit a l)(hk:a<=k/\k<a+256)(hj:k%256=(j:Int))(S8:∀e∈l,k<=e.1)(hne:tY l j≠[]):
  ∃l1 x l2,l=l1++(k,x)::l2/\(∀e∈l1,k<e.1)/\(∀e∈l2,k<=e.1)/\tY l j=x::tY (l1++l2) j/\(∀j',j'≠j->tY (l1++l2) j'=tY l j')/\Fit k (l1++l2):=by
 have hex:∃e∈l,e.1=k:=by
  unfold tY at hne;cases hf:l.filter (Y_ j)with
  |nil=>grind
  |cons e r=>
   have:e∈l.filter (Y_ j):=by rw[hf];simp
   obtain⟨h1,h2⟩:=List.mem_filter.1 this;exact⟨e,h1,(XL h hk hj h1).1 h2⟩
 obtain⟨l1,x,l2,rfl,hl1⟩:=afP hex;refine⟨l1,x,l2,rfl,λe he=>?_,λe he=>S8 e (by simp[he]),?_,λj' hj'=>?_,λe he=>?_⟩
 ·grind
 ·unfold tY;have h1:l1.filter (Y_ j)=[]:=by rw[List.filter_eq_nil_iff];intro e he hb;exact hl1 e he ((XL h hk hj (by simp[he])).1 hb)
  rw[List.filter_append,List.filter_append,h1,List.filter_cons_of_pos (by unfold Y_;grind)];rfl
 ·unfold tY;rw[List.filter_append,List.filter_append,List.filter_cons_of_neg (by unfold Y_;grind)]
 ·have h1:e∈l1++(k,x)::l2:=by grind
  have:=h e h1;grind
def aky {a:Int}{l:List E}(h:Fit a l)(hne:l≠[]):∃d:Nat,d<256/\(∀e∈l,a+d<=e.1)/\∃e∈l,e.1=a+d:=by
 have key:∀n:Nat,(∃e∈l,e.1<a+n)->∃d:Nat,d<n/\(∀e∈l,a+d<=e.1)/\∃e∈l,e.1=a+d:=by
  intro n;induction n with
  |zero=>
   rintro ⟨e,he,hlt⟩;have:=h e he;omega
  |succ n ih=>
   rintro ⟨e,he,hlt⟩;by_cases hn:∃e∈l,e.1<a+n
   all_goals grind
 obtain⟨e,he⟩:=List.exists_mem_of_ne_nil l hne;exact key 256 ⟨e,he,(h e he).2⟩
def aco {a k:Int}{l:List E}{j:Nat}(h:Fit a l)(hk:a<=k/\k<a+256)(hj:k%256=(j:Int)):tY l j=[]↔∀e∈l,e.1≠k:=by
 rw[tY,List.map_eq_nil_iff,List.filter_eq_nil_iff];constructor
 ·intro h1 e he hk';exact h1 e he ((XL h hk hj he).2 hk')
 ·intro h1 e he hb;exact h1 e he ((XL h hk hj he).1 hb)
end Go.Proofs.YtmegplnmiepfbaaGreatDoor.S.Rg
namespace Go.Proofs.YtmegplnmiepfbaaGreatDoor.S.Rg
open Go.Sx
def dU:xk P T:=E9 P rows Ic
def cj {n lo hi:Int}{w:World}{Q:Int->World->Prop}(h1:lo<=hi)(h2:-1099511627776<=lo)(h3:hi<=1099511627776)(h:Q (lo+n%(hi-lo+1)) w):a_ n lo hi w Q:=by
 apply uI;rw[aH (n:=hi-lo),aH];generalize hs:hi-lo+1=s at h;have h4:=Int.lt_tmod_of_pos n (b:=s) (by omega);have h5:=Int.tmod_lt_of_pos n (b:=s) (by omega);have h6:=Int.tmod_add_mul_tdiv n s;refine⟨by omega,?_⟩;generalize ht:Int.tmod n s=t at*;have e:n%s=t%s:=by rw[<-h6,Int.add_mul_emod_self_left]
 by_cases hn:t<0
 ·rw[bM hn,aH (n:=t+hi),aH (n:=t+hi-lo),aH (n:=t+hi-lo+1),aH];have e2:t%s=t+s:=by rw[<-Int.add_emod_right,Int.emod_eq_of_lt (by omega) (by omega)]
  grind
 ·rw[bj hn,aH];rw[e,Int.emod_eq_of_lt (by omega) h5]at h;exact h
structure Bk where
 a:Option Addr
 c:Nat
 xs:List Int
 gone:Nat
def ints (l:List Int):List Value:=l.map (.int .i64)
def WK (b:Bk):List Value:=[.slice b.a b.xs.length b.c,ae b.gone]
def XM (b:Bk):(WK b).length=2:=rfl
def BE (b:Bk):As:=ak b.a b.xs.length b.c 3 1 (ints b.xs)
def tS (a len:Int)(bs:List Bk):List Value:=ae a::ae len::flat WK bs
def Tg (p:Nat)(a len:Int)(bs:List Bk):List As:=av p 388 (tS a len bs)::bs.map BE
structure Rel (a:Int) (l:List E) (bs:List Bk) (N:Nat):Prop where
 n:bs.length=256
 fit:Fit a l
 nn:0<=a
 big:a+256*(l.length:Int)<=1099511627776+256*(N:Int)
 n_:l.length<=N
 room:N<1000000
 bk:∀(j:Nat) b,bs[j]? =some b->b.xs.drop b.gone=tY l j/\b.gone<=b.xs.length/\b.xs.length<=N
def BV (p:Nat)(a:Int)(l:List E)(bs:List Bk)(N:Nat):As:=aW (Rel a l bs N) (Tg p a l.length bs)
attribute [local irreducible] af cD bz bg aA cy b_ St Bx Al App cK cE cB bV aN bG aq bT av ak
section
variable {F:Nat->Prop}{W w:World}{L:List As}{i j p o n c:Nat}{t:TypeId}{cs:List Value}{a:Option Addr}{xs:List Int}
def aax {x:Int}{Q:World->Prop}(s:Sep F W w L)(hi:L[i]? =some (av p t cs))(ho:cs[o]? =some (.slice a n c))(hj:L[j]? =some (ak a n c 3 1 (ints xs)))(hij:i≠j)(hn:n<1000000)
  (h:∀w' a' c',Sep F W w' ((L.set j (ak a' (n+1) c' 3 1 (ints (xs++[x])))).set i (av p t (cs.set o (.slice a' (n+1) c'))))->Q w'):zv (some ⟨p,o,none⟩) x w Q:=by
 apply QJ;apply ah;apply gZ s rfl hi ho;refine aQ s λbx w1 s=>?_;have src:Src w1 (sZ bx) 1 1 [ae x]:=⟨rfl,λu hu=>by rw[List.mem_singleton.1 hu];rfl,λj u hj=>by rw[cw,Nat.zero_add];exact cO s (i:=0) rfl rfl hj⟩;refine iy dU s (bytes:=8) rfl rfl rfl rfl rfl rfl (by decide) (by rw[List.getElem?_cons_succ];exact hj) src (by simp[maxLen];omega) (by omega) (λe=>by cases e) λa' c' w2 s=>?_;have s:=ai s;have e1:ints xs++[ae x]=ints (xs++[x]):=by simp[ints]
 apply ah;have ho':=(List.getElem?_eq_some_iff.1 ho).1;refine ax s rfl (by rw[List.getElem?_set_ne (Ne.symm hij)];exact hi) (by simp_all) λw3 s=>?_;grind
def CT {g:Int}{Q:Bool->World->Prop}(s:Sep F W w L)(hi:L[i]? =some (av p t cs))(ho:cs[o]? =some (.slice a n c))(ho':cs[o+1]? =some (ae g))(h:Q (g==(n:Int)) w.drew):qJ (some ⟨p,o,none⟩) w Q:=by apply Nb;have s':Sep F W w.drew L:=s;apply ah;refine dy s' (by rw[cw]) hi ho' (ah ?_);exact gZ s' rfl hi ho h
def aay {g:Nat}{x:Int}{Q:Int->World->Prop}(s:Sep F W w L)(hi:L[i]? =some (av p t cs))(ho:cs[o]? =some (.slice a n c))(ho':cs[o+1]? =some (ae g))(hj:L[j]? =some (ak a n c 3 1 (ints xs)))(hij:i≠j)(hn:n<1000000)(hx:xs[g]? =some x)
  (h1:g+1<n->∀w',Sep F W w' (L.set i (av p t (cs.set (o+1) (ae ((g+1:Nat):Int)))))->Q x w')
  (h2:g+1=n->∀w',Sep F W w' ((L.set i (av p t ((cs.set o (.slice a 0 c)).set (o+1) (ae ((0:Nat):Int))))).set j (ak a 0 c 3 1 []))->Q x w'):zq (some ⟨p,o,none⟩) w Q:=by
 apply QK;have hiL:=(List.getElem?_eq_some_iff.1 hi).1;have hol:=(List.getElem?_eq_some_iff.1 ho).1;have ayI:=(List.getElem?_eq_some_iff.1 ho').1;have hxl:=(List.getElem?_eq_some_iff.1 hx).1;have hl:xs.length=n:=by have:=rJ s hj;simpa[ints]using this
 obtain⟨b,ob,rfl⟩:=qk s hj (by omega);have s0:Sep F W w.drew L:=s;apply ah;refine gZ s0 rfl hi ho (ah ?_);apply dy s0 (by rw[cw]) hi ho';refine⟨by omega,by omega,ah ?_⟩;rw[show((g:Int)).toNat*1=g by omega];refine Vu s0 hj (by rw[cw]) (by rw[ints,List.getElem?_map,hx];rfl) (ah ?_);refine dy s0 (by rw[cw]) hi ho' (ah ?_);rw[aH,show((g:Int)+1)=((g+1:Nat):Int) by omega];refine ax s0 (by rw[cw]) hi (by simp_all) λw1 s1=>?_;apply CT (a:=some ⟨b,ob,none⟩) (n:=n) (c:=c) s1 (List.getElem?_set_self hiL) (by grind) (List.getElem?_set_self ayI);have s2:Sep F W w1.drew _:=s1;by_cases he:g+1=n
 ·rw[he,beq_self_eq_true,cond_true];apply ah;apply gZ s2 rfl (List.getElem?_set_self hiL) (by rw[List.getElem?_set_ne (by omega)];exact ho);refine PG (m:=0) rfl (by omega) (ah ?_);refine ax s2 rfl (List.getElem?_set_self hiL) (by simp_all) λw3 s3=>?_;rw[g_]at s3;apply ah;refine ax s3 (by rw[cw]) (List.getElem?_set_self hiL) (by simp_all) λw4 s4=>?_;rw[g_]at s4;have s5:=TV s4 (by rw[List.getElem?_set_ne hij];exact hj) (Nat.zero_le _);apply h2 he w4;have ec:((cs.set (o+1) (ae ((n:Nat):Int))).set o (.slice (some ⟨b,ob,none⟩) 0 c)).set (o+1) (ae 0)=(cs.set o (.slice (some ⟨b,ob,none⟩) 0 c)).set (o+1) (ae ((0:Nat):Int)):=by have e3:(cs.set (o+1) (ae ((n:Nat):Int))).set o (.slice (some ⟨b,ob,none⟩) 0 c)=(cs.set o (.slice (some ⟨b,ob,none⟩) 0 c)).set (o+1) (ae ((n:Nat):Int)):=List.set_comm _ _ (by omega);simp_all
  grind
 grind
end
end Go.Proofs.YtmegplnmiepfbaaGreatDoor.S.Rg
namespace Go.Proofs.YtmegplnmiepfbaaGreatDoor.S.Rg
open Go.Sx
def F6 {p:Addr}{A B:Prop}(h:B):cond (some p).isNone A B:=h
def Mn {bs:List Bk}{j:Nat}{b:Bk}(h:bs[j]? =some b):(bs.map BE)[j]? =some (BE b):=by grind
def N5 {a len:Int}{bs:List Bk}{j:Nat}{b:Bk}(h:bs[j]? =some b):(tS a len bs)[j*2+2]? =some (.slice b.a b.xs.length b.c):=by show(flat WK bs)[j*2+0]? =_;rw[tf XM h (by decide)];rfl
def Pm {a len:Int}{bs:List Bk}{j:Nat}{b:Bk}(h:bs[j]? =some b):(tS a len bs)[j*2+2+1]? =some (ae b.gone):=by show(flat WK bs)[j*2+1]? =_;rw[tf XM h (by decide)];rfl
def T5 {a len:Int}{bs:List Bk}{j:Nat}{b b':Bk}{v:Value}(h:bs[j]? =some b)(hv:WK b'=(WK b).set 0 v):(tS a len bs).set (j*2+2) v=tS a len (bs.set j b'):=by show _::_::(flat WK bs).set (j*2+0) v=_;rw[Sb XM h (by decide) hv];rfl
def N6 {a len:Int}{bs:List Bk}{j:Nat}{b b':Bk}{v:Value}(h:bs[j]? =some b)(hv:WK b'=(WK b).set 1 v):(tS a len bs).set (j*2+2+1) v=tS a len (bs.set j b'):=by show _::_::(flat WK bs).set (j*2+1) v=_;rw[Sb XM h (by decide) hv];rfl
attribute [local irreducible] af cD bz bg aA cy b_ St Bx Al App cK cE cB bV aN bG aq bT av ak aW
section
variable {F:Nat->Prop}{W w:World}{L:List As}{i p:Nat}{a:Int}{l:List E}{bs:List Bk}{N:Nat}
def Ix (s:Sep F W w L)(hi:L[i]? =some (BV p a l bs N)):Rel a l bs N:=afw s hi
def N7 (s:Sep F W w L)(hi:L[i]? =some (BV p a l bs N)):Sep (BV p a l bs N).fp w w (Tg p a l.length bs):=Jd s hi
def Dy {Q:Int->World->Prop}(s:Sep F W w L)(hi:L[i]? =some (BV p a l bs N))(h:Q (l.length:Int) w):qR (sZ p) w Q:=by apply UX;refine F6 (ah ?_);exact dy (N7 s hi) (i:=0) rfl rfl rfl h
def Rq {k x:Int}{Q:Bool->World->Prop}(s:Sep F W w L)(hi:L[i]? =some (BV p a l bs N))(hk:k<9223372036854775808)(pC:N+1<1000000)
  (hno:¬(a<=k/\k<a+256)->Q false w)(hyes:a<=k/\k<a+256->∀w' bs',Sep F W w' (L.set i (BV p a (l++[(k,x)]) bs' (N+1)))->Q true w'):v9 (sZ p) k x w Q:=by
 apply UY;have hr:=Ix s hi;have s0:=N7 s hi;have hnn:=hr.nn;refine F6 (ah ?_);apply dy s0 (i:=0) rfl rfl rfl;by_cases h1:k<a
 ·grind
 ·rw[bj h1];apply ah;apply dy s0 (i:=0) rfl rfl rfl;rw[aH];by_cases h2:k-a≥256
  ·grind
  ·rw[bj h2];have hkk:a<=k/\k<a+256:=by omega
   rw[Int.tmod_eq_emod_of_nonneg (by omega)];obtain⟨j,hj⟩:∃j:Nat,k%256=(j:Int):=⟨(k%256).toNat,by omega⟩;have acp:j<256:=by omega
   obtain⟨b,hb⟩:∃b,bs[j]? =some b:=⟨_,List.getElem?_eq_getElem (by rw[hr.n];exact acp)⟩;have hbk:=hr.bk j b hb;rw[hj];refine⟨by decide,ah ⟨by omega,by omega,?_⟩⟩;have ea:((aZ p).add 2).add (((j:Int)).toNat*2)=⟨p,j*2+2,none⟩:=by rw[cw,cw,show((j:Int)).toNat=j from rfl];grind
   rw[ea];refine aax s0 (i:=0) (j:=j+1) rfl (N5 hb) (by show(bs.map BE)[j]? =_;exact Mn hb) (by omega) (by omega) λw1 a' c' s1=>?_;have e1:ak a' (b.xs.length+1) c' 3 1 (ints (b.xs++[x]))=BE ⟨a',c',b.xs++[x],b.gone⟩:=by unfold BE;grind
   have e2:(tS a l.length bs).set (j*2+2) (.slice a' (b.xs.length+1) c')=tS a l.length (bs.set j ⟨a',c',b.xs++[x],b.gone⟩):=T5 hb (by unfold WK;grind);rw[e1,e2]at s1;have s1:Sep (BV p a l bs N).fp w w1 (av p 388 (tS a l.length (bs.set j ⟨a',c',b.xs++[x],b.gone⟩))::(bs.map BE).set j (BE ⟨a',c',b.xs++[x],b.gone⟩)):=s1;rw[<-List.map_set]at s1;apply ah;refine dy s1 (i:=0) rfl rfl rfl (ah ?_);have hfl:=hr.n_;rw[aH];refine ax s1 (i:=0) rfl rfl rfl λw2 s2=>?_;have hlen:((l.length:Int)+1)=((l++[(k,x)]).length:Int):=by simp
   rw[hlen]at s2;refine hyes hkk w2 (bs.set j ⟨a',c',b.xs++[x],b.gone⟩) (Sc s hi s2 ?_);refine⟨by simp[hr.n],aq4 hr.fit hkk.1 hkk.2,hr.nn,(by have:=hr.big;simp;omega),(by omega),pC,λj' b' hb'=>?_⟩;rw[aou];by_cases hjj:j=j'
   ·grind
   ·rw[List.getElem?_set_ne hjj]at hb';have:=hr.bk j' b' hb';grind
end
end Go.Proofs.YtmegplnmiepfbaaGreatDoor.S.Rg
namespace Go.Proofs.YtmegplnmiepfbaaGreatDoor.S.Rg
open Go.Sx
attribute [local irreducible] af cD bz bg aA cy b_ St Bx Al App cK cE cB bV aN bG aq bT av ak aW
section
variable {F:Nat->Prop}{W w:World}{L:List As}{i p:Nat}{a:Int}{l:List E}{bs:List Bk}{N:Nat}
def acq {k:Int}{Q:Bool->World->Prop}(s:Sep F W w L)(hi:L[i]? =some (BV p a l bs N))
  (hno:¬(l=[]/\a<=k/\k<=1099511627776)->Q false w)(hyes:l=[]/\a<=k/\k<=1099511627776->∀w' bs',Sep F W w' (L.set i (BV p k [] bs' N))->Q true w'):AE (sZ p) k w Q:=by
 apply SM;have hr:=Ix s hi;have s0:=N7 s hi;have hnn:=hr.nn;refine F6 (ah ?_);apply dy s0 (i:=0) rfl rfl rfl;by_cases h0:l=[]
 ·subst h0;rw[bj (by simp)];apply ah;apply dy s0 (i:=0) rfl rfl rfl;by_cases h1:k<a
  ·grind
  ·rw[bj h1];by_cases h2:k>1099511627776
   ·grind
   ·rw[bj h2];apply ah;refine ax s0 (i:=0) rfl rfl rfl λw1 s1=>?_;have s1:=s1;exact hyes ⟨rfl,by omega,by omega⟩ w1 bs (Sc s hi s1 ⟨hr.n,(λe he=>by cases he),by omega,(by simp;omega),hr.n_,hr.room,hr.bk⟩)
 simp_all
def ahc {Q:Int->Int->Bool->World->Prop}(hr:Rel a l bs N){d:Nat}(hd:d<256)(S8:∀e∈l,a+d<=e.1)(hex:∃e∈l,e.1=a+d){w0:World}{G:Nat->Prop}
  (h:∀w' l1 x l2 bs',l=l1++(a+d,x)::l2->(∀e∈l1,a+d<e.1)->(∀e∈l2,a+d<=e.1)->Rel (a+d) (l1++l2) bs' N->Sep G w0 w' (Tg p (a+d) (l1++l2).length bs')->Q (a+d) x true w'):
  ∀(m e:Nat) (w:World),e+m=d->Sep G w0 w (Tg p (a+e) l.length bs)->qi Q (m+1) (sZ p) w:=by
 have hnn:=hr.nn;have ahW:=hr.big;have aBS:=hr.n_;have aAb:=hr.room;intro m;induction m with
 |zero=>
  intro e w he s;obtain rfl:e=d:=by omega
  show D_ Q (qi Q 0) _ _;obtain⟨j,hj⟩:∃j:Nat,(a+e)%256=(j:Int):=⟨((a+e)%256).toNat,by omega⟩;have acp:j<256:=by omega
  obtain⟨b,hb⟩:∃b,bs[j]? =some b:=⟨_,List.getElem?_eq_getElem (by rw[hr.n];exact acp)⟩;have hbk:=hr.bk j b hb;have hroom:=hr.room;have hkk:a<=a+e/\a+e<a+256:=by omega
  have hpn:tY l j≠[]:=λh0=>by obtain⟨x,hx,hxe⟩:=hex;exact(aco hr.fit hkk hj).1 h0 x hx hxe
  obtain⟨l1,x,l2,hl,g1,g2,g3,g4,g5⟩:=aov hr.fit hkk hj S8 hpn;have hlt:b.gone<b.xs.length:=by grind
  have ea:((aZ p).add 2).add (((j:Int)).toNat*2)=⟨p,j*2+2,none⟩:=by rw[cw,cw,show((j:Int)).toNat=j from rfl];grind
  have em:Int.tmod (a+e) 256=(j:Int):=by grind
  have s0:Sep G w0 w.drew _:=s;apply ah;apply dy s0 (i:=0) rfl rfl rfl;rw[em];refine⟨by decide,ah ⟨by omega,by omega,?_⟩⟩;rw[ea];apply CT s0 (i:=0) rfl (N5 hb) (Pm hb);rw[show(((b.gone:Int))==(b.xs.length:Int))=false by grind,cond_false];have s1:=s;apply ah;refine dy s1 (i:=0) rfl rfl rfl (ah ?_);refine ax s1 (i:=0) rfl rfl rfl λw3 s3=>?_;have el:IntKind.wrap .i64 ((l.length:Int)-1)=((l1++l2).length:Int):=by rw[aH];grind
  rw[el]at s3;have s3:=s3;have s4:Sep G w0 w3.drew (Tg p (a+e) (l1++l2).length bs):=s3;apply ah;refine dy s4 (i:=0) rfl rfl rfl (ah ?_);apply dy s4 (i:=0) rfl rfl rfl;rw[em];refine⟨by decide,ah ⟨by omega,by omega,?_⟩⟩;rw[ea];have hx:b.xs[b.gone]? =some x:=by have:=congrArg (λq=>q[0]?) (hbk.1.trans g3);grind
  have acu:b.xs.drop (b.gone+1)=tY (l1++l2) j:=by have:=congrArg (List.drop 1) (hbk.1.trans g3);simpa[List.drop_drop]using this
  have rel:∀b':Bk,b'.xs.drop b'.gone=tY (l1++l2) j->b'.gone<=b'.xs.length->b'.xs.length<=N->Rel (a+e) (l1++l2) (bs.set j b') N:=by
   intro b' q1 q2 q3;refine⟨by simp[hr.n],g5,by omega,?_,?_,hroom,λj' b2 hb2=>?_⟩
   ·grind
   ·grind
   ·by_cases hjj:j=j'
    ·grind
    ·rw[List.getElem?_set_ne hjj]at hb2;rw[g4 j' (Ne.symm hjj)];exact hr.bk j' b2 hb2
  refine aay s4 (i:=0) (j:=j+1) rfl (N5 hb) (Pm hb) (by show(bs.map BE)[j]? =_;exact Mn hb) (by omega) (by omega) hx (λhg w5 s5=>?_) λhg w5 s5=>?_
  ·have e2:(tS (a+e) (l1++l2).length bs).set (j*2+2+1) (ae ((b.gone+1:Nat):Int))=tS (a+e) (l1++l2).length (bs.set j {b with gone:=b.gone+1}):=N6 hb rfl;rw[e2]at s5;have e3:bs.map BE=(bs.set j {b with gone:=b.gone+1}).map BE:=by rw[List.map_set,show BE {b with gone:=b.gone+1}=BE b from rfl,rX (Mn hb)]
   have s5:Sep G w0 w5 (av p 388 (tS (a+e) (l1++l2).length (bs.set j {b with gone:=b.gone+1}))::bs.map BE):=s5;rw[e3]at s5;refine⟨cO s5 (i:=0) rfl rfl rfl,?_⟩;exact h w5 l1 x l2 _ hl g1 g2 (rel {b with gone:=b.gone+1} acu (show b.gone+1<=b.xs.length by omega) hbk.2.2) s5
  ·have e2:((tS (a+e) (l1++l2).length bs).set (j*2+2) (.slice b.a 0 b.c)).set (j*2+2+1) (ae ((0:Nat):Int))=tS (a+e) (l1++l2).length (bs.set j ⟨b.a,b.c,[],0⟩):=by
    have hjl:j<bs.length:=by grind
    rw[T5 (b':=⟨b.a,b.c,[],b.gone⟩) (v:=.slice b.a 0 b.c) hb rfl,N6 (b:=⟨b.a,b.c,[],b.gone⟩) (b':=⟨b.a,b.c,[],0⟩) (List.getElem?_set_self hjl) rfl,g_]
   rw[e2]at s5;have e3:ak b.a 0 b.c 3 1 []=BE ⟨b.a,b.c,[],0⟩:=rfl;have s5:Sep G w0 w5 (av p 388 (tS (a+e) (l1++l2).length (bs.set j ⟨b.a,b.c,[],0⟩))::(bs.map BE).set j (BE ⟨b.a,b.c,[],0⟩)):=s5;rw[<-List.map_set]at s5;refine⟨cO s5 (i:=0) rfl rfl rfl,?_⟩;refine h w5 l1 x l2 _ hl g1 g2 (rel _ ?_ (by simp) (by simp)) s5;grind
 |succ m ih=>
  intro e w he s;show D_ Q (qi Q (m+1)) _ _;obtain⟨j,hj⟩:∃j:Nat,(a+e)%256=(j:Int):=⟨((a+e)%256).toNat,by omega⟩;have acp:j<256:=by omega
  obtain⟨b,hb⟩:∃b,bs[j]? =some b:=⟨_,List.getElem?_eq_getElem (by rw[hr.n];exact acp)⟩;have hbk:=hr.bk j b hb;have hkk:a<=a+e/\a+e<a+256:=by omega
  have hpn:=(aco hr.fit hkk hj).2 λx hx hxe=>by grind
  have awS:b.gone=b.xs.length:=by have:=congrArg List.length hbk.1;grind
  have ea:((aZ p).add 2).add (((j:Int)).toNat*2)=⟨p,j*2+2,none⟩:=by rw[cw,cw,show((j:Int)).toNat=j from rfl];grind
  have em:Int.tmod (a+e) 256=(j:Int):=by grind
  have s0:Sep G w0 w.drew _:=s;apply ah;apply dy s0 (i:=0) rfl rfl rfl;rw[em];refine⟨by decide,ah ⟨by omega,by omega,?_⟩⟩;rw[ea];apply CT s0 (i:=0) rfl (N5 hb) (Pm hb);rw[awS,beq_self_eq_true,cond_true];have s1:=s;apply ah;refine dy s1 (i:=0) (j:=0) rfl rfl rfl (ah ?_);refine ax s1 (i:=0) (j:=0) rfl rfl rfl λw3 s3=>?_;rw[aH,show a+(e:Int)+1=a+((e+1:Nat):Int) by omega]at s3;exact ih (e+1) w3 (by omega) s3
def aew {Q:Int->Int->Bool->World->Prop}(s:Sep F W w L)(hi:L[i]? =some (BV p a l bs N))(h0:l=[]->Q 0 0 false w)
  (h1:∀w' k l1 x l2 bs',l=l1++(k,x)::l2->(∀e∈l1,k<e.1)->(∀e∈l2,k<=e.1)->Sep F W w' (L.set i (BV p k (l1++l2) bs' N))->Q k x true w'):Bw (sZ p) w Q:=by
 apply UZ;apply Dy s hi;have hr:=Ix s hi;by_cases hl:l=[]
 ·grind
 ·have hpos:=List.length_pos_iff.2 hl;rw[show(((l.length:Int))==0)=false by grind,cond_false];obtain⟨d,hd,S8,hex⟩:=aky hr.fit hl;have s0:=N7 s hi;refine⟨d+1,ahc (G:=(BV p a l bs N).fp) (w0:=w) hr hd S8 hex (λw' l1 x l2 bs' q1 q2 q3 q4 s'=>?_) d 0 w (by omega) (by grind)⟩;exact h1 w' (a+d) l1 x l2 bs' q1 q2 q3 (Sc s hi s' q4)
def aiX:Bk:=⟨none,0,[],0⟩
def Rr {f:Int}{Q:Option Addr->World->Prop}(s:Sep F W w L)(hno:f<0\/f>1099511627776->Q none w)(hyes:0<=f/\f<=1099511627776->∀p w' bs,Sep F W w' (BV p f [] bs 0::L)->Q (sZ p) w'):Df f w Q:=by
 apply ad_;by_cases h1:f<0
 ·rw[bM h1];grind
 ·rw[bj h1];by_cases h2:f>1099511627776
  ·rw[bM h2];grind
  ·rw[bj h2];refine aQ s λp w1 s=>?_;have s2:=TX s 3 1 256;have s3:=cu s2 List.perm_middle;have rel:Rel f [] (List.replicate 256 aiX) 0:=by refine⟨List.length_replicate,(λe he=>by cases he),by omega,(by simp[List.length_nil];omega),Nat.le_refl _,by decide,λj b hb=>?_⟩;have:b=aiX:=List.eq_of_mem_replicate (List.mem_of_getElem? hb);subst this;exact⟨rfl,Nat.le_refl _,Nat.le_refl _⟩
   have e1:(List.replicate 256 aiX).map BE=List.replicate 256 (ak none 0 0 3 1 []):=by rw[List.map_replicate];rfl
   apply hyes (by omega) p w1 (List.replicate 256 aiX);have s4:Sep F W w1 (Tg p f ([]:List E).length (List.replicate 256 aiX)++L):=by unfold Tg;exact awI s3 (by kernel_rfl)
   exact dD s4 rel
end
end Go.Proofs.YtmegplnmiepfbaaGreatDoor.S.Rg
namespace Go.Proofs.YtmegplnmiepfbaaGreatDoor.S
open Go.Sx
def fD (ds:List Int)(l:Int):Int:=if 0<=l/\l<ds.length then gi ds l.toNat else cg
def G3 (ds:List Int):Nat:=ds.countP λd=>d==cg
def kc (x:bq):Int×Int:=(x.k,x.c)
def WL {k:Int}(hk:k≠cg):∀{ds:List Int} {i:Nat},i<ds.length->gi ds i=cg->G3 (ds.set i k)+1=G3 ds
 |[],i,h,_=>by simp at h
 |d::ds,0,h,hd=>by have hd:d=cg:=hd;unfold G3;grind
 |d::ds,i+1,h,hd=>by have ih:=WL hk (i:=i) (by simpa using h) hd;unfold G3 at ih⊢;grind
def ayJ (ds:List Int):G3 ds<=ds.length:=List.countP_le_length
def avd {ds:List Int}{x k:Int}(hx:0<=x/\x<ds.length)(y:Int):fD (ds.set x.toNat k) y=if y=x then k else fD ds y:=by
 unfold fD;rw[List.length_set];by_cases hy:0<=y/\y<ds.length
 ·rw[if_pos hy,if_pos hy,Vy (by omega)];omega
 grind
def Th {tw th l s:Int}(ht:1<=tw)(hh:1<=th)(hl:0<=l/\l<tw*th)(h0:0<=bP tw th l s):bP tw th l s<tw*th/\∃s',(0<=s'/\s'<=3)/\bP tw th (bP tw th l s) s'=l:=by
 obtain⟨i0,i1⟩:0<=l%tw/\l%tw<tw:=⟨Int.emod_nonneg _ (by omega),Int.emod_lt_of_pos _ (by omega)⟩;obtain⟨j0,j1⟩:0<=l/tw/\l/tw<th:=⟨Int.ediv_nonneg hl.1 (by omega),Int.ediv_lt_of_lt_mul (by omega) (by grind)⟩;have hle:l=l/tw*tw+l%tw:=by have:=Int.mul_ediv_add_emod l tw;grind
 have jG:∀i j,0<=i/\i<tw->0<=j/\j<th->j*tw+i<tw*th:=λi j hi hj=>by have:=Int.mul_le_mul_of_nonneg_right (show j+1<=th by omega) (show 0<=tw by omega);grind
 unfold bP at h0;by_cases s0:s=0
 ·subst s0;by_cases q:l/tw>0
  ·have e:bP tw th l 0=(l/tw-1)*tw+l%tw:=by unfold bP;grind
   rw[e];refine⟨jG _ _ ⟨i0,i1⟩ (by omega),2,by decide,?_⟩;obtain⟨d1,d2⟩:=rY (y:=l/tw-1) ⟨i0,i1⟩;unfold bP;grind
  omega
 by_cases s1:s=1
 ·subst s1;by_cases q:l%tw<tw-1
  ·have e:bP tw th l 1=l/tw*tw+(l%tw+1):=by unfold bP;omega
   rw[e];refine⟨jG _ _ (by omega) ⟨j0,j1⟩,3,by decide,?_⟩;obtain⟨d1,d2⟩:=rY (x:=l%tw+1) (w:=tw) (y:=l/tw) (by omega);unfold bP;omega
  omega
 by_cases s2:s=2
 ·subst s2;by_cases q:l/tw<th-1
  ·have e:bP tw th l 2=(l/tw+1)*tw+l%tw:=by unfold bP;grind
   rw[e];refine⟨jG _ _ ⟨i0,i1⟩ (by omega),0,by decide,?_⟩;obtain⟨d1,d2⟩:=rY (y:=l/tw+1) ⟨i0,i1⟩;unfold bP;grind
  omega
 by_cases s3:s=3
 ·subst s3;by_cases q:l%tw>0
  ·have e:bP tw th l 3=l/tw*tw+(l%tw-1):=by unfold bP;omega
   rw[e];refine⟨jG _ _ (by omega) ⟨j0,j1⟩,1,by decide,?_⟩;obtain⟨d1,d2⟩:=rY (x:=l%tw-1) (w:=tw) (y:=l/tw) (by omega);unfold bP;omega
  omega
 omega
def lj (tw th:Int)(cs ds:List Int)(key x:Int)(j:Nat):List (Int×Int):=(List.range j).filterMap λs:Nat=>
 if 0<=bP tw th x s/\gi cs (bP tw th x s).toNat≠255/\gi ds (bP tw th x s).toNat=cg then some (key,bP tw th x s)else none
def acv (tw th:Int)(cs ds:List Int)(key x s:Int):List (Int×Int):=if 0<=bP tw th x s/\gi cs (bP tw th x s).toNat≠255/\gi ds (bP tw th x s).toNat=cg then[(key,bP tw th x s)]else[]
def acw (tw th:Int)(cs ds:List Int)(key x:Int)(j:Nat):lj tw th cs ds key x (j+1)=lj tw th cs ds key x j++acv tw th cs ds key x j:=by unfold lj acv;rw[List.range_succ,List.filterMap_append];grind
def WM (tw th:Int)(cs ds:List Int)(key x:Int)(j:Nat):(lj tw th cs ds key x j).length<=j:=by have:=List.length_filterMap_le (λs:Nat=>if 0<=bP tw th x s/\gi cs (bP tw th x s).toNat≠255/\gi ds (bP tw th x s).toNat=cg then some (key,bP tw th x s)else none) (List.range j);rw[List.length_range]at this;exact this
def afR {tw th:Int}{cs ds:List Int}{key x:Int}{e:Int×Int}:e∈lj tw th cs ds key x 4↔∃s:Int,(0<=s/\s<=3)/\(0<=bP tw th x s/\gi cs (bP tw th x s).toNat≠255/\gi ds (bP tw th x s).toNat=cg)/\e=(key,bP tw th x s):=by
 rw[lj,List.mem_filterMap];constructor
 ·grind
 ·rintro ⟨s,h1,h2,rfl⟩;refine⟨s.toNat,List.mem_range.2 (by omega),?_⟩;grind
structure CU (tw th:Int) (cs:List Int) (xs:List bq) (a:Int) (l:List (Int×Int)) (N:Nat) (todo:List bq) (ds:List Int):Prop where
 len:ds.length=cs.length
 dj:PM (N0 xs) (IV tw th cs) (fD ds) (l++todo.map kc)
 EK:∀e∈l++todo.map kc,IU cs e.2
 top:∀e∈l++todo.map kc,e.1+254*(G3 ds:Int)<=1073741824+254*(cs.length:Int)
 N8:todo.Pairwise λa b=>a.k<=b.k
 low:∀x∈todo,a<=x.k
 eL:N+todo.length+4*G3 ds<=xs.length+4*cs.length
section
variable {tw th:Int}{cs ds:List Int}{xs todo:List bq}{a:Int}{l:List (Int×Int)}{N:Nat}
def aiZ (hcs:∀x∈cs,1<=x/\x<256):∀x n c,IV tw th cs x n c->0<=c:=λx n c h=>by rw[h.2.2.2];have:=hcs _ (fm (i:=n.toNat) (by have:=h.2.1;unfold IU at this;omega));omega
def CU.take {x:bq}(h:CU tw th cs xs a l N (x::todo) ds):CU tw th cs xs a (l++[kc x]) (N+1) todo ds:=by
 have e:l++(x::todo).map kc=(l++[kc x])++todo.map kc:=by simp
 have h1:=h.dj;have h2:=h.EK;have h3:=h.top;have h4:=h.eL;rw[e]at h1 h2 h3;simp[List.length_cons]at h4;exact⟨h.len,h1,h2,h3,(List.pairwise_cons.1 h.N8).2,λy hy=>h.low y (by simp[hy]),by omega⟩
def CU.jump {x:bq}(h:CU tw th cs xs a l N (x::todo) ds):CU tw th cs xs x.k l N (x::todo) ds:=
 ⟨h.len,h.dj,h.EK,h.top,h.N8,λy hy=>by
  rcases List.mem_cons.1 hy with rfl|hy
  ·grind
  ·exact(List.pairwise_cons.1 h.N8).1 y hy,h.eL⟩
def CU.skip {k x:Int}{l1 l2:List (Int×Int)}(h:CU tw th cs xs a (l1++(k,x)::l2) N todo ds)(hx:fD ds x<cg)(hk:∀y∈todo,k<=y.k):CU tw th cs xs k (l1++l2) N todo ds:=by
 have hm:∀e∈(l1++l2)++todo.map kc,e∈(l1++(k,x)::l2)++todo.map kc:=λe he=>by grind
 exact⟨h.len,h.dj.skip (k:=k) hx hm λe he=>by grind,λe he=>h.EK e (hm e he),λe he=>h.top e (hm e he),h.N8,hk,h.eL⟩
def CU.step {k x:Int}{l1 l2:List (Int×Int)}{M:Nat}(hcs:∀x∈cs,1<=x/\x<256)(hw:1<=tw)(hh:1<=th)(hlen:(cs.length:Int)=tw*th)(wE:cs.length<=256)(h:CU tw th cs xs a (l1++(k,x)::l2) N todo ds)(hx:gi ds x.toNat=cg)
  (hmin:∀e∈l1++l2,k<=e.1)(hk:∀y∈todo,k<=y.k)(hM:M=N+(lj tw th cs (ds.set x.toNat k) (k+gi cs x.toNat) x 4).length):
  CU tw th cs xs k ((l1++l2)++lj tw th cs (ds.set x.toNat k) (k+gi cs x.toNat) x 4) M todo (ds.set x.toNat k):=by
 have hin:(k,x)∈(l1++(k,x)::l2)++todo.map kc:=by simp
 have Jy:=h.EK _ hin;have hxr:0<=x/\x<ds.length:=by rw[h.len];exact⟨Jy.1,Jy.2.1⟩
 have aaz:=h.top _ hin;have hkI:k<cg:=by unfold cg;omega
 have aaA:∀y,fD (ds.set x.toNat k) y=if y=x then k else fD ds y:=avd hxr
 have BW:=WL (k:=k) (by omega) (by omega) hx;have hbound:∀e∈(l1++(k,x)::l2)++todo.map kc,k<=e.1:=λe he=>by
  simp only[List.mem_append,List.mem_cons,List.mem_map]at he;rcases he with(he|rfl|he)|⟨y,hy,rfl⟩
  ·grind
  ·grind
  ·grind
  ·exact hk y hy
 have hcx:=hcs _ (fm (i:=x.toNat) (by rw[<-h.len];omega));have hfx:¬fD ds x<cg:=by unfold fD;grind
 have avf:∀e∈((l1++l2)++lj tw th cs (ds.set x.toNat k) (k+gi cs x.toNat) x 4)++todo.map kc,e∈(l1++(k,x)::l2)++todo.map kc\/e∈lj tw th cs (ds.set x.toNat k) (k+gi cs x.toNat) x 4:=λe he=>by grind
 have ayK:∀e∈lj tw th cs (ds.set x.toNat k) (k+gi cs x.toNat) x 4,IU cs e.2/\e.1=k+gi cs x.toNat/\IV tw th cs e.2 x (gi cs x.toNat):=λe he=>by obtain⟨s,hs,⟨h1,h2,h3⟩,rfl⟩:=afR.1 he;have hr:=Th hw hh (by rw[<-hlen,<-h.len];exact hxr) h1;have ho:IU cs (bP tw th x s):=⟨h1,by grind,h2⟩;exact⟨ho,rfl,ho,Jy,hr.2,rfl⟩
 refine⟨by rw[List.length_set];exact h.len,?_,?_,?_,h.N8,hk,?_⟩
 ·refine h.dj.step (aiZ hcs) hfx hkI hin hbound (by grind) (λy hy=>by grind) ?_ ?_ ?_
  ·grind
  ·grind
  ·rintro y c ⟨h1,h2,⟨s,hs,h3⟩,rfl⟩;by_cases hy:fD (ds.set x.toNat k) y<cg
   ·exact .inl hy
   ·refine .inr ⟨k+gi cs x.toNat,Int.le_refl _,?_⟩;have hr:=Th (s:=s) hw hh (by rw[<-hlen];exact⟨h1.1,h1.2.1⟩) (by grind);rw[h3]at hr;obtain⟨s',hs',h4⟩:=hr.2;rw[List.mem_append,List.mem_append];refine .inl (.inr (afR.2 ⟨s',hs',?_,by rw[h4]⟩));rw[h4];refine⟨h1.1,h1.2.2,?_⟩;have T6:0<=y/\y<(ds.set x.toNat k).length:=by rw[List.length_set,h.len];exact⟨h1.1,h1.2.1⟩
    have hz:fD (ds.set x.toNat k) y=cg:=by
     rw[aaA]at hy⊢;by_cases e:y=x
     ·omega
     ·rw[if_neg e]at hy⊢;exact h.dj.none y hy
    unfold fD at hz;grind
 ·intro e he;rcases avf e he with h1|h1
  ·exact h.EK e h1
  grind
 ·intro e he;rcases avf e he with h1|h1
  ·have:=h.top e h1;omega
  ·have:=(ayK e h1).2.1;have:gi cs x.toNat≠255:=Jy.2.2;omega
 ·have h1:=WM tw th cs (ds.set x.toNat k) (k+gi cs x.toNat) x 4;have h2:=h.eL;omega
def aoz (hok:sw tw th cs xs=true){zs:List bq}(hz:∀x,x∈zs↔x∈xs)(hzl:zs.length=xs.length)(hzs:zs.Pairwise λa b=>a.k<=b.k):CU tw th cs xs 0 [] 0 zs (List.replicate cs.length cg):=by
 have hf:∀x,fD (List.replicate cs.length cg) x=cg:=λx=>by
  unfold fD;split
  ·rename_i h;unfold gi;grind
  ·rfl
 have hu:G3 (List.replicate cs.length cg)=cs.length:=by rw[G3,List.countP_replicate,if_pos (by decide)]
 unfold sw at hok;rw[Bool.and_eq_true,List.all_eq_true]at hok;have amf:∀x∈zs,IU cs x.c/\0<=x.k/\x.k<=1073741824:=λx hx=>by have:=hok.2 x ((hz x).1 hx);unfold AM at this;simp[Bool.and_eq_true,decide_eq_true_iff,bne_iff_ne]at this;exact⟨⟨this.1.1,this.1.2,this.2.1⟩,this.2.2.1⟩
 refine⟨by simp,⟨?_,?_,?_,?_,?_,?_⟩,?_,?_,hzs,λx hx=>(amf x hx).2.1,by omega⟩
 ·intro e he;obtain⟨y,hy,rfl⟩:=List.mem_map.1 he;exact .src ⟨y,(hz y).1 hy,rfl,rfl⟩
 ·grind
 ·grind
 ·rintro x k ⟨y,hy,rfl,rfl⟩;exact .inr ⟨y.k,Int.le_refl _,by rw[List.nil_append];exact List.mem_map.2 ⟨y,(hz y).2 hy,rfl⟩⟩
 ·grind
 ·grind
 ·intro e he;obtain⟨y,hy,rfl⟩:=List.mem_map.1 he;exact(amf y hy).1
 ·intro e he;obtain⟨y,hy,rfl⟩:=List.mem_map.1 he;have:=(amf y hy).2;show y.k+_<=_;omega
noncomputable def jA (tw th:Int)(cs:List Int)(xs:List bq):List Int:=(List.range cs.length).map λl:Nat=>Mk tw th cs xs l
def CU.done (h:CU tw th cs xs a [] N [] ds):ds=jA tw th cs xs:=by
 have h1:=h.dj;have h2:∀x,gO (N0 xs) (IV tw th cs) x=fD ds x:=λx=>PM.done (by grind) x;refine PJ (by unfold jA;rw[List.length_map,List.length_range,h.len]) λi hi=>?_;rw[jA,show gi ((List.range cs.length).map λl:Nat=>Mk tw th cs xs l) i=Mk tw th cs xs i from ?_]
 ·rw[Mk,h2];unfold fD;grind
 ·rw[gi,List.getD_eq_getElem?_getD,List.getElem?_map,List.getElem?_range (by rw[<-h.len];exact hi)];rfl
end
end Go.Proofs.YtmegplnmiepfbaaGreatDoor.S
namespace Go.Proofs.YtmegplnmiepfbaaGreatDoor.S
open Go.Sx
open Go.Sort (swp)
attribute [local irreducible] af cD bz bg aA cy b_ St Bx Al App cK cE cB bV aN bG aq bT av ak aW mapA
noncomputable abbrev iR:Value:=.func (.func 197) #[] #[]
abbrev dg (a:Option Addr)(n c:Nat)(d:Array bq):As:=ak a n c 294 3 (flat fV d.toList)
section
variable {F:Nat->Prop}{W w w0:World}{L:List As}{a:Option Addr}{n c:Nat}{d:Array bq}
def gx (s:Sep F W w (dg a n c d::L)):d.size=n:=by have:=(aG s (i:=0) rfl nP (by decide)).len;grind
def XN {k:Nat}(h:k<d.size):d.toList[k]? =some d[k]!:=by grind
def RdS {idx:Int}{k:Nat}{K:Int->Int->Int->Prop}(s:Sep F W w (dg a n c d::L))(hk:idx=k)(hn:k<d.size)(h:K d[k]!.c d[k]!.s d[k]!.k):
  aJ idx n (wA a λp=>af .i64 ((p.add (idx.toNat*3)).add 0) w λx=>af .i64 ((p.add (idx.toNat*3)).add 1) w λy=>af .i64 ((p.add (idx.toNat*3)).add 2) w λz=>K x y z):=
 (aG s (i:=0) rfl nP (by decide)).El hk (by rw[<-gx s];exact hn) λp x hx hc=>by rw[XN hn]at hx;cases hx;exact aL (hc 0 _ rfl) (aL (hc 1 _ rfl) (aL (hc 2 _ rfl) h))
def WrS {idx:Int}{k:Nat}{x:bq}{K:World->Prop}(s:Sep F W w (dg a n c d::L))(hk:idx=k)(hn:k<d.size)(h:∀w',Sep F W w' (dg a n c (d.setIfInBounds k x)::L)->K w'):
  aJ idx n (wA a λp=>St ((p.add (idx.toNat*3)).add 0) (ae x.c) w λw=>St ((p.add (idx.toNat*3)).add 1) (ae x.s) w λw=>St ((p.add (idx.toNat*3)).add 2) (ae x.k) w λw=>K w):=by
 have hsz:=gx s;subst hk;have hg:=XN hn;refine C7 s (i:=0) rfl rfl (by omega) λg o ha=>?_;subst ha;have ad:∀j,(((⟨g,o,none⟩:Addr).add ((k:Int).toNat*3)).add j)=⟨g,o+(k*3+j),none⟩:=λj=>by rw[add_add,cw,Int.toNat_natCast]
 refine dW (x':=⟨x.c,d[k]!.s,d[k]!.k⟩) nP s (i:=0) rfl hg (ad 0) (by decide) rfl rfl λw s=>?_;refine dW (x:=⟨x.c,d[k]!.s,d[k]!.k⟩) (x':=⟨x.c,x.s,d[k]!.k⟩) nP s (i:=0) rfl (by grind) (ad 1) (by decide) rfl rfl λw s=>?_;refine dW (x:=⟨x.c,x.s,d[k]!.k⟩) (x':=x) nP s (i:=0) rfl (by grind) (ad 2) (by decide) rfl rfl λw s=>?_;simp[List.set_cons_zero,List.set_set]at s;grind
def G4 {m:Nat}{i j:Int}{p q:Nat}{K:Int->World->Prop}(s:Sep F W w (dg a n c d::L))(hi:i=p)(hp:p<d.size)(hj:j=q)(hq:q<d.size)(h:∀w',Sep F W w' (dg a n c d::L)->K (aiP d[p]! d[q]!) w'):
  aJ i n (wA a λp=>af .i64 ((p.add (i.toNat*3)).add 0) w λx=>af .i64 ((p.add (i.toNat*3)).add 1) w λy=>af .i64 ((p.add (i.toNat*3)).add 2) w λz=>
  aJ j n (wA a λp=>af .i64 ((p.add (j.toNat*3)).add 0) w λx'=>af .i64 ((p.add (j.toNat*3)).add 1) w λy'=>af .i64 ((p.add (j.toNat*3)).add 2) w λz'=>
  iw (cx m) iR [.agg #[ae x,ae y,ae z],.agg #[ae x',ae y',ae z']] w λv w'=>dI .i64 v λr=>K r w')):=
 RdS (K:=λx y z=>aJ j n (wA a λp=>af .i64 ((p.add (j.toNat*3)).add 0) w λx'=>af .i64 ((p.add (j.toNat*3)).add 1) w λy'=>af .i64 ((p.add (j.toNat*3)).add 2) w λz'=>
  iw (cx m) iR [.agg #[ae x,ae y,ae z],.agg #[ae x',ae y',ae z']] w λv w'=>dI .i64 v λr=>K r w')) s hi hp
  (RdS s hj hq
   (akv (YJ s λw' s' _=>h w' s')))
def Eg {i j:Int}{p q:Nat}{K:World->Prop}(s:Sep F W w (dg a n c d::L))(hi:i=p)(hp:p<d.size)(hj:j=q)(hq:q<d.size)(h:∀w',Sep F W w' (dg a n c (swp d p q)::L)->K w'):
  aJ j n (wA a λp=>af .i64 ((p.add (j.toNat*3)).add 0) w λx=>af .i64 ((p.add (j.toNat*3)).add 1) w λy=>af .i64 ((p.add (j.toNat*3)).add 2) w λz=>
  aJ i n (wA a λp=>af .i64 ((p.add (i.toNat*3)).add 0) w λx'=>af .i64 ((p.add (i.toNat*3)).add 1) w λy'=>af .i64 ((p.add (i.toNat*3)).add 2) w λz'=>
  aJ i n (wA a λp=>St ((p.add (i.toNat*3)).add 0) (ae x) w λw=>St ((p.add (i.toNat*3)).add 1) (ae y) w λw=>St ((p.add (i.toNat*3)).add 2) (ae z) w λw=>
  aJ j n (wA a λp=>St ((p.add (j.toNat*3)).add 0) (ae x') w λw=>St ((p.add (j.toNat*3)).add 1) (ae y') w λw=>St ((p.add (j.toNat*3)).add 2) (ae z') w λw=>K w)))):=by
 refine RdS (K:=λx y z=>aJ i n (wA a λp=>af .i64 ((p.add (i.toNat*3)).add 0) w λx'=>af .i64 ((p.add (i.toNat*3)).add 1) w λy'=>af .i64 ((p.add (i.toNat*3)).add 2) w λz'=>
  aJ i n (wA a λp=>St ((p.add (i.toNat*3)).add 0) (ae x) w λw=>St ((p.add (i.toNat*3)).add 1) (ae y) w λw=>St ((p.add (i.toNat*3)).add 2) (ae z) w λw=>
  aJ j n (wA a λp=>St ((p.add (j.toNat*3)).add 0) (ae x') w λw=>St ((p.add (j.toNat*3)).add 1) (ae y') w λw=>St ((p.add (j.toNat*3)).add 2) (ae z') w λw=>K w)))) s hj hq ?_
 refine RdS (K:=λx' y' z'=>aJ i n (wA a λp=>St ((p.add (i.toNat*3)).add 0) (ae d[q]!.c) w λw=>St ((p.add (i.toNat*3)).add 1) (ae d[q]!.s) w λw=>St ((p.add (i.toNat*3)).add 2) (ae d[q]!.k) w λw=>
  aJ j n (wA a λp=>St ((p.add (j.toNat*3)).add 0) (ae x') w λw=>St ((p.add (j.toNat*3)).add 1) (ae y') w λw=>St ((p.add (j.toNat*3)).add 2) (ae z') w λw=>K w))) s hi hp ?_
 refine WrS (K:=λw=>aJ j n (wA a λp_1=>St ((p_1.add (j.toNat*3)).add 0) (ae d[p]!.c) w λw=>St ((p_1.add (j.toNat*3)).add 1) (ae d[p]!.s) w λw=>St ((p_1.add (j.toNat*3)).add 2) (ae d[p]!.k) w λw=>K w)) s hi hp λw s=>?_;exact WrS s hj (by grind) h
end
end Go.Proofs.YtmegplnmiepfbaaGreatDoor.S
namespace Go.Proofs.YtmegplnmiepfbaaGreatDoor.S
open Go.Sx
open Go.Sort (swp insInner insOuter insertionSort siftDown heapBuild heapPop heapSort)
attribute [local irreducible] af cD bz bg aA cy b_ St Bx Al App cK cE cB bV aN bG aq bT av ak aW mapA
section
variable {F:Nat->Prop}{W w w0:World}{L:List As}{a:Option Addr}{n c:Nat}{d:Array bq}
def aoA {P1:Option Addr->Nat->Nat->Int->Int->Value->Int->World->Prop}{Q:World->Prop}{lo:Nat}{b:Int}{i:Nat}(hn:n<1000000)(hi:i<1000000)
  (h:∀d' w',d'.size=n->Sep F W w' (dg a n c d'::L)->(d'=insInner cT lo i d)->P1 a n c lo b iR ((i+1:Nat):Int) w'):
  ∀(j:Nat) (d1:Array bq) (w:World),j<n->insInner cT lo j d1=insInner cT lo i d->Sep F W w (dg a n c d1::L)->eV P1 Q (j+1) a n c lo b iR i j w:=by
 intro j;induction j with
 |zero=>
  intro d1 w hj he s;show fP P1 Q (eV P1 Q 0) _ _ _ _ _ _ _ _ _;rw[fP,bj,aH];exact h d1 _ (gx s) (ay s) he
 |succ j ih=>
  intro d1 w hj he s;have hsz:=gx s;show fP P1 Q (eV P1 Q (j+1)) _ _ _ _ _ _ _ _ _;unfold fP;rw[insInner]at he;by_cases hl:j+1>lo
  ·rw[bM (show((j+1:Nat):Int)>lo by omega),aH];rw[decide_eq_true hl,Bool.true_and]at he;refine G4 (q:=j) (ay s) rfl (by omega) (by omega) (by omega) λw s=>?_;show cond (cT d1[j+1]! d1[j]!) _ _;by_cases hc:cT d1[j+1]! d1[j]! =true
   ·rw[hc,cond_true];refine Eg (q:=j) (ay s) rfl (by omega) (by omega) (by omega) λw s=>?_;grind
   ·rw[Bool.not_eq_true]at hc;rw[hc,cond_false,aH];grind
  ·rw[bj (show¬((j+1:Nat):Int)>lo by omega),aH];rw[decide_eq_false hl,Bool.false_and,if_neg (by decide)]at he;exact h d1 _ hsz (ay s) he
def aoB {Q:World->Prop}{lo b:Nat}(hn:n<1000000)(hb:b<=n)(h:∀w',Sep F W w' (dg a n c (insertionSort cT d lo b)::L)->Q w'):
  ∀(j i:Nat) (d1:Array bq) (w:World),i+j=b+1\/b<i/\j=0->insOuter cT lo b i d1=insertionSort cT d lo b->Sep F W w (dg a n c d1::L)->eX Q (j+1) a n c lo b iR i w:=by
 intro j;induction j with
 |zero=>
  intro i d1 w hi he s;show fQ Q (eX Q 0) _ _ _ _ _ _ _ _;unfold fQ;rw[insOuter,fU]at he;grind
 |succ j ih=>
  intro i d1 w hi he s;show fQ Q (eX Q (j+1)) _ _ _ _ _ _ _ _;unfold fQ;rw[insOuter]at he;by_cases hib:i<b
  ·rw[bM];rw[if_pos hib]at he;refine⟨i+1,aoA hn (by omega) (λd' w' hs' s' e=>?_) i d1 w (by omega) rfl s⟩;subst e;exact ih (i+1) _ w' (by omega) he s'
  grind
def HR {Q:World->Prop}{lo b:Nat}(s:Sep F W w (dg a n c d::L))(hn:n<1000000)(hlo:lo<=b)(hb:b<=n)(h:∀w',Sep F W w' (dg a n c (insertionSort cT d lo b)::L)->Q w'):
  jS a n c lo b iR w Q:=by
 apply zD;rw[aH];exact⟨b-lo+1,aoB hn hb h (b-lo) (lo+1) d w (by omega) rfl s⟩
def aoC {Q:World->Prop}{hi first:Nat}(hn:n<1000000)(hh:first+hi<=n){d0:Array bq}(h:∀w',Sep F W w' (dg a n c d0::L)->Q w'):
  ∀(j root:Nat) (d1:Array bq) (w:World),hi<=root+j->root<n->siftDown cT hi first root d1=d0->Sep F W w (dg a n c d1::L)->eY Q (j+1) a n c hi first iR root w:=by
 intro j;induction j with
 |zero=>
  intro root d1 w hj hr he s;show gU Q (eY Q 0) _ _ _ _ _ _ _ _;rw[gU,aH (n:=2*(root:Int)),aH,bM];rw[siftDown,dif_pos (by omega)]at he;grind
 |succ j ih=>
  intro root d1 w hj hr he s;have hsz:=gx s;show gU Q (eY Q (j+1)) _ _ _ _ _ _ _ _;rw[gU,aH (n:=2*(root:Int)),aH];rw[siftDown]at he;by_cases h1:2*root+1≥hi
  ·grind
  rw[bj,aH,aH,aH];rw[dif_neg h1]at he;have b5:∀(ch:Nat) (w:World),root<ch->ch<hi->Sep F W w (dg a n c d1::L)->(if(!cT d1[first+root]! d1[first+ch]!)=true then d1 else siftDown cT hi first ch (swp d1 (first+root) (first+ch)))=d0->
    fI (eY Q (j+1)) Q a n c hi first iR root ch w:=λch w aCk hch s he=>by
   rw[fI,aH,aH];refine G4 (p:=first+root) (q:=first+ch) (ay s) (by omega) (by omega) (by omega) (by omega) λw s=>?_;show cond (!cT d1[first+root]! d1[first+ch]!) _ _;by_cases hc:cT d1[first+root]! d1[first+ch]! =true
   ·rw[hc,Bool.not_true,cond_false];refine Eg (p:=first+root) (q:=first+ch) (ay s) (by omega) (by omega) (by omega) (by omega) λw s=>?_;grind
   grind
  have e1:(2*(root:Int)+1)=((2*root+1:Nat):Int):=by omega
  have e2:(2*(root:Int)+1+1)=((2*root+2:Nat):Int):=by omega
  rw[e2];by_cases h2:2*root+2<hi
  ·rw[bM (show((2*root+2:Nat):Int)<hi by omega)];refine G4 (p:=first+(2*root+1)) (q:=first+(2*root+1)+1) (ay s) (by omega) (by omega) (by omega) (by omega) λw s=>?_;show cond (cT d1[first+(2*root+1)]! d1[first+(2*root+1)+1]!) _ _;by_cases hc:cT d1[first+(2*root+1)]! d1[first+(2*root+1)+1]! =true
   ·rw[hc,cond_true];apply b5 (2*root+2) w (by omega) h2 s;grind
   ·rw[Bool.not_eq_true]at hc;rw[hc,cond_false,e1];rw[if_neg (by grind)]at he;exact b5 (2*root+1) w (by omega) (by omega) s he
  ·rw[bj (show¬((2*root+2:Nat):Int)<hi by omega),e1];rw[if_neg (by grind)]at he;exact b5 (2*root+1) _ (by omega) (by omega) (ay s) he
def Rs {Q:World->Prop}{lo hi first:Nat}(s:Sep F W w (dg a n c d::L))(hn:n<1000000)(hh:first+hi<=n)(hlo:lo<n)(h:∀w',Sep F W w' (dg a n c (siftDown cT hi first lo d)::L)->Q w'):
  jb a n c lo hi first iR w Q:=by
 apply B5;exact⟨hi+1,aoC hn hh h hi lo d w (by omega) hlo rfl s⟩
def aq5 {Q:World->Prop}{first:Nat}(hn:n<1000000){d0:Array bq}(h:∀w',Sep F W w' (dg a n c d0::L)->Q w'):
  ∀(k:Nat) (d1:Array bq) (w:World),first+k<=n->heapPop cT first k d1=d0->Sep F W w (dg a n c d1::L)->fJ Q (k+1) a n c iR first 0 ((k:Int)-1) w:=by
 intro k;induction k with
 |zero=>
  intro d1 w hk he s;show gV Q (fJ Q 0) _ _ _ _ _ _ _ _;unfold gV;rw[heapPop]at he;grind
 |succ k ih=>
  intro d1 w hk he s;have hsz:=gx s;show gV Q (fJ Q (k+1)) _ _ _ _ _ _ _ _;rw[gV,show((k+1:Nat):Int)-1=(k:Int) by omega,bM,aH,aH];rw[heapPop]at he;refine Eg (p:=first) (q:=first+k) (ay s) (by omega) (by omega) (by omega) (by omega) λw s=>?_;refine Rs (lo:=0) s hn (by omega) (by omega) λw s=>?_;grind
def amg {Q:World->Prop}{first hi:Nat}(hn:n<1000000)(hh:first+hi<=n){d0:Array bq}(h:∀w',Sep F W w' (dg a n c d0::L)->Q w'):
  ∀(k:Nat) (d1:Array bq) (w:World),k<=hi->heapPop cT first hi (heapBuild cT hi first k d1)=d0->Sep F W w (dg a n c d1::L)->fK Q (k+1) a n c iR first 0 hi ((k:Int)-1) w:=by
 intro k;induction k with
 |zero=>
  intro d1 w hk he s;show gW Q (fK Q 0) _ _ _ _ _ _ _ _ _;rw[gW,bj,aH];exact⟨hi+1,aq5 hn h hi d1 w hh he s⟩
 |succ k ih=>
  intro d1 w hk he s;show gW Q (fK Q (k+1)) _ _ _ _ _ _ _ _ _;rw[gW,show((k+1:Nat):Int)-1=(k:Int) by omega,bM,aH];rw[heapBuild]at he;refine Rs s hn hh (by omega) λw s=>?_;grind
def aex {Q:World->Prop}{lo b:Nat}(s:Sep F W w (dg a n c d::L))(hn:n<1000000)(hlo:lo<b)(hb:b<=n)(h:∀w',Sep F W w' (dg a n c (heapSort cT d lo b)::L)->Q w'):
  l_ a n c lo b iR w Q:=by
 apply B6;refine⟨by decide,?_⟩;rw[aH,aH (n:=(b:Int)-lo-1),Int.tdiv_eq_ediv_of_nonneg (by omega),aH,
  show(b:Int)-lo=((b-lo:Nat):Int) by omega]
 have:=amg hn (by omega) h ((b-lo-1)/2+1) d w (by omega) rfl s;grind
end
end Go.Proofs.YtmegplnmiepfbaaGreatDoor.S
namespace Go.Proofs.YtmegplnmiepfbaaGreatDoor.S
open Go.Sx
open Go.Sort (swp scanUp scanDown partLoop partition partEqLoop partitionEqual)
attribute [local irreducible] af cD bz bg aA cy b_ St Bx Al App cK cE cB bV aN bG aq bT av ak aW mapA
section
variable {F:Nat->Prop}{W w w0:World}{L:List As}{a:Option Addr}{n c:Nat}{d:Array bq}
def o6 {α:Type}(A B:α):(if false=true then A else B)=B:=rfl
def WN {α:Type}(A B:α):(if true=true then A else B)=A:=rfl
def up_eq (p:bq->Bool)(d:Array bq)(j i:Nat):scanUp p d j i=if(decide (i<=j)&&p d[i]!)=true then scanUp p d j (i+1)else i:=by rw[scanUp]
def down_eq (p:bq->Bool)(d:Array bq)(i j:Nat)(hi:1<=i):scanDown p d i j=if(decide (i<=j)&&p d[j]!)=true then scanDown p d i (j-1)else j:=by
 cases j with
 |zero=>rw[scanDown,decide_eq_false (by omega),Bool.false_and,o6]
 |succ j=>rw[scanDown];rfl
def aoD {Q:Int->Bool->World->Prop}{lo:Nat}(hn:n<1000000){R:Nat×Array bq}(h:∀w',R.1<n->Sep F W w' (dg a n c (swp R.2 R.1 lo)::L)->Q R.1 false w'):
  ∀(f i j:Nat) (d:Array bq) (w:World),j+1<=i+f->lo<i->lo<=j->j<n->i<=n->partLoop cT lo i j d=R->Sep F W w (dg a n c d::L)->dw Q (f+1) a n c lo iR i j w:=by
 intro f;induction f with
 |zero=>
  intro i j d w hf hlo hj0 hj hi hR s;have hsz:=gx s;rw[Go.Sort.partLoop_eq]at hR;rw[up_eq,decide_eq_false (by omega),Bool.false_and,o6,down_eq _ _ _ _ (by omega),decide_eq_false (by omega),Bool.false_and,o6,A5]at hR;subst hR;show gA Q (dw Q 0) _ _ _ _ _ _ _ _;rw[gA,bj];refine⟨1,?_⟩;show eB _ Q (dh _ Q 0) _ _ _ _ _ _ _ _;rw[eB,bj];rw[fk,bM];exact Eg (ay (ay (ay s))) rfl (by omega) rfl (by omega) λw s=>h w hj s
 |succ f ih=>
  intro i j d w hf hlo hj0 hj hi hR s;have hsz:=gx s;show gA Q (dw Q (f+1)) _ _ _ _ _ _ _ _;unfold gA;rw[Go.Sort.partLoop_eq]at hR;have down:∀(k j':Nat) (w:World),j'=lo+k->j'<=j->Sep F W w (dg a n c d::L)->
    (if i>scanDown (λx=>!cT x d[lo]!) d i j' then(scanDown (λx=>!cT x d[lo]!) d i j',d)else partLoop cT lo (i+1) (scanDown (λx=>!cT x d[lo]!) d i j'-1) (swp d i (scanDown (λx=>!cT x d[lo]!) d i j')))=R->
    dh (dw Q (f+1)) Q (k+1) a n c lo iR i j' w:=by
   have Za:∀(j':Nat) (w:World),lo<=j'->j'<=j->Sep F W w (dg a n c d::L)->(if i>j' then(j',d)else partLoop cT lo (i+1) (j'-1) (swp d i j'))=R->
     fk (dw Q (f+1)) Q a n c lo iR i j' w:=λj' w h1 h2 s hR=>by
    unfold fk;by_cases hij:i>j'
    ·rw[if_pos hij]at hR;subst hR;rw[bM];exact Eg (ay s) rfl (by omega) rfl (by omega) λw s=>h w (show j'<n by omega) s
    ·rw[if_neg hij]at hR;rw[bj,aH,aH];refine Eg (ay s) rfl (by omega) rfl (by omega) λw s=>?_;rw[show(i:Int)+1=((i+1:Nat):Int) by omega,show(j':Int)-1=((j'-1:Nat):Int) by omega];exact ih (i+1) (j'-1) _ w (by omega) (by omega) (by omega) (by omega) (by omega) hR s
   intro k;induction k with
   |zero=>
    intro j' w hk hj' s hR;rw[down_eq _ _ _ _ (by omega),decide_eq_false (by omega),Bool.false_and,o6]at hR;show eB _ Q (dh _ Q 0) _ _ _ _ _ _ _ _;rw[eB,bj];exact Za j' _ (by omega) hj' (ay s) hR
   |succ k ih2=>
    intro j' w hk hj' s hR;rw[down_eq _ _ _ _ (by omega)]at hR;show eB _ Q (dh _ Q (k+1)) _ _ _ _ _ _ _ _;unfold eB;by_cases hij:i<=j'
    ·rw[bM];refine G4 (ay s) rfl (by omega) rfl (by omega) λw s=>?_;show cond (!cT d[j']! d[lo]!) _ _;rw[decide_eq_true hij,Bool.true_and]at hR;cases hc:cT d[j']! d[lo]! with
     |false=>
      rw[Bool.not_false,cond_true,aH,show(j':Int)-1=((j'-1:Nat):Int) by omega];grind
     |true=>
      grind
    ·rw[bj];rw[decide_eq_false hij,Bool.false_and,o6]at hR;exact Za j' _ (by omega) hj' (ay s) hR
  by_cases hij:i<=j
  ·rw[bM];refine G4 (ay s) rfl (by omega) rfl (by omega) λw s=>?_;show cond (cT d[i]! d[lo]!) _ _;cases hc:cT d[i]! d[lo]! with
   |true=>
    rw[cond_true,aH];rw[up_eq,hc,decide_eq_true hij,Bool.true_and,WN,<-Go.Sort.partLoop_eq]at hR;exact ih (i+1) j d w (by omega) (by omega) hj0 hj (by omega) hR s
   |false=>
    rw[up_eq,hc,Bool.and_false,o6]at hR;exact⟨j-lo+1,down (j-lo) j w (by omega) (Nat.le_refl _) s hR⟩
  ·rw[bj];rw[up_eq,decide_eq_false hij,Bool.false_and,o6]at hR;exact⟨j-lo+1,down (j-lo) j _ (by omega) (Nat.le_refl _) (ay s) hR⟩
def acy {Q:Int->Bool->World->Prop}{lo b pv:Nat}(s:Sep F W w (dg a n c d::L))(hn:n<1000000)(hlo:lo<=pv/\pv<b)(hb:b<=n)
  (h:∀w',Sep F W w' (dg a n c (partition cT d lo b pv).2.2::L)->Q (partition cT d lo b pv).1 (partition cT d lo b pv).2.1 w'):
  lJ a n c lo b pv iR w Q:=by
 apply By;have hsz:=gx s;refine Eg (ay s) rfl (by omega) rfl (by omega) λw s=>?_;rw[aH,aH];unfold partition at h;simp only at h;generalize swp d lo pv=d1 at h s;have hsz:=gx s;have b7:∀(i j':Nat) (w:World),lo<i->i<=b->lo<=j'->j'<b->scanUp (λx=>cT x d1[lo]!) d1 (b-1) (lo+1)=i->scanDown (λx=>!cT x d1[lo]!) d1 i (b-1)=j'->Sep F W w (dg a n c d1::L)->
   gI Q a n c lo iR i j' w:=λi j' w h1 h1' h2 h3 hI hJ s=>by
  rw[hI,hJ]at h;unfold gI;by_cases hij:i>j'
  ·rw[bM];rw[if_pos hij]at h;exact Eg (ay s) rfl (by omega) rfl (by omega) λw s=>h w s
  ·rw[bj,aH,aH];rw[if_neg hij]at h;refine Eg (ay s) rfl (by omega) rfl (by omega) λw s=>?_;rw[show(i:Int)+1=((i+1:Nat):Int) by omega,show(j':Int)-1=((j'-1:Nat):Int) by omega];exact⟨j'+1,aoD hn (λw' _ s=>h w' s) j' (i+1) (j'-1) _ w (by omega) (by omega) (by omega) (by omega) (by omega) rfl s⟩
 have b5:∀(i:Nat),lo<i->i<=b->scanUp (λx=>cT x d1[lo]!) d1 (b-1) (lo+1)=i->∀(k j':Nat) (w:World),j'=lo+k->j'<b->scanDown (λx=>!cT x d1[lo]!) d1 i (b-1)=scanDown (λx=>!cT x d1[lo]!) d1 i j'->Sep F W w (dg a n c d1::L)->
   dH Q (k+1) a n c lo iR i j' w:=λi h1 h1' hI k=>by
  induction k with
  |zero=>
   intro j' w hk hj' hJ s;rw[down_eq _ _ _ j' (by omega),decide_eq_false (by omega),Bool.false_and,o6]at hJ;show gJ Q (dH Q 0) _ _ _ _ _ _ _ _;rw[gJ,bj];exact b7 i j' _ h1 h1' (by omega) hj' hI hJ (ay s)
  |succ k ih2=>
   intro j' w hk hj' hJ s;rw[down_eq _ _ _ j' (by omega)]at hJ;show gJ Q (dH Q (k+1)) _ _ _ _ _ _ _ _;unfold gJ;by_cases hij:i<=j'
   ·rw[bM];refine G4 (ay s) rfl (by omega) rfl (by omega) λw s=>?_;show cond (!cT d1[j']! d1[lo]!) _ _;rw[decide_eq_true hij,Bool.true_and]at hJ;cases hc:cT d1[j']! d1[lo]! with
    |false=>
     rw[Bool.not_false,cond_true,aH,show(j':Int)-1=((j'-1:Nat):Int) by omega];grind
    |true=>
     grind
   ·rw[bj];rw[decide_eq_false hij,Bool.false_and,o6]at hJ;exact b7 i j' _ h1 h1' (by omega) hj' hI hJ (ay s)
 have b3:∀(k i:Nat) (w:World),i+k=b->lo<i->scanUp (λx=>cT x d1[lo]!) d1 (b-1) (lo+1)=scanUp (λx=>cT x d1[lo]!) d1 (b-1) i->Sep F W w (dg a n c d1::L)->
   fu Q (k+1) a n c lo iR i ((b-1:Nat):Int) w:=λk=>by
  have go5:∀(i:Nat) (w:World),lo<i->i<=b->scanUp (λx=>cT x d1[lo]!) d1 (b-1) (lo+1)=i->Sep F W w (dg a n c d1::L)->∃k',dH Q k' a n c lo iR i ((b-1:Nat):Int) w:=
   λi w h1 h2 hI s=>⟨b-1-lo+1,b5 i h1 h2 hI (b-1-lo) (b-1) w (by omega) (by omega) rfl s⟩
  induction k with
  |zero=>
   intro i w hk hi hI s;rw[up_eq _ _ _ i,decide_eq_false (by omega),Bool.false_and,o6]at hI;show gK Q (fu Q 0) _ _ _ _ _ _ _ _;rw[gK,bj];exact go5 i _ hi (by omega) hI (ay s)
  |succ k ih2=>
   intro i w hk hi hI s;rw[up_eq _ _ _ i]at hI;show gK Q (fu Q (k+1)) _ _ _ _ _ _ _ _;rw[gK,bM];refine G4 (ay s) rfl (by omega) rfl (by omega) λw s=>?_;show cond (cT d1[i]! d1[lo]!) _ _;rw[decide_eq_true (show i<=b-1 by omega),Bool.true_and]at hI;cases hc:cT d1[i]! d1[lo]! with
   |true=>
    rw[hc,WN]at hI;rw[cond_true,aH];exact ih2 (i+1) w (by omega) (by omega) hI s
   |false=>
    grind
 have:=b3 (b-(lo+1)) (lo+1) w (by omega) (by omega) rfl s;grind
def akz {Q:Int->World->Prop}{lo:Nat}(hn:n<1000000){R:Nat×Array bq}(h:∀w',R.1<=n->Sep F W w' (dg a n c R.2::L)->Q R.1 w'):
  ∀(f i j:Nat) (d:Array bq) (w:World),j+1<=i+f->lo<i->lo<=j->j<n->i<=n->partEqLoop cT lo i j d=R->Sep F W w (dg a n c d::L)->cQ Q (f+1) a n c lo iR i j w:=by
 intro f;induction f with
 |zero=>
  intro i j d w hf hlo hj0 hj hi hR s;have hsz:=gx s;rw[Go.Sort.partEqLoop_eq]at hR;rw[up_eq,decide_eq_false (by omega),Bool.false_and,o6,down_eq _ _ _ _ (by omega),decide_eq_false (by omega),Bool.false_and,o6,A5]at hR;subst hR;show fH Q (cQ Q 0) _ _ _ _ _ _ _ _;rw[fH,bj];refine⟨1,?_⟩;show dA _ Q (cP _ Q 0) _ _ _ _ _ _ _ _;rw[dA,bj];rw[eJ,bM];exact h _ hi (ay (ay s))
 |succ f ih=>
  intro i j d w hf hlo hj0 hj hi hR s;have hsz:=gx s;show fH Q (cQ Q (f+1)) _ _ _ _ _ _ _ _;unfold fH;rw[Go.Sort.partEqLoop_eq]at hR;have down:∀(k j':Nat) (w:World),j'=lo+k->j'<=j->Sep F W w (dg a n c d::L)->
    (if i>scanDown (λx=>cT d[lo]! x) d i j' then(i,d)else partEqLoop cT lo (i+1) (scanDown (λx=>cT d[lo]! x) d i j'-1) (swp d i (scanDown (λx=>cT d[lo]! x) d i j')))=R->
    cP (cQ Q (f+1)) Q (k+1) a n c lo iR i j' w:=by
   have b7:∀(j':Nat) (w:World),lo<=j'->j'<=j->Sep F W w (dg a n c d::L)->(if i>j' then(i,d)else partEqLoop cT lo (i+1) (j'-1) (swp d i j'))=R->
     eJ (cQ Q (f+1)) Q a n c lo iR i j' w:=λj' w h1 h2 s hR=>by
    unfold eJ;by_cases hij:i>j'
    ·grind
    ·rw[if_neg hij]at hR;rw[bj,aH,aH];refine Eg (ay s) rfl (by omega) rfl (by omega) λw s=>?_;rw[show(i:Int)+1=((i+1:Nat):Int) by omega,show(j':Int)-1=((j'-1:Nat):Int) by omega];exact ih (i+1) (j'-1) _ w (by omega) (by omega) (by omega) (by omega) (by omega) hR s
   intro k;induction k with
   |zero=>
    intro j' w hk hj' s hR;rw[down_eq _ _ _ _ (by omega),decide_eq_false (by omega),Bool.false_and,o6]at hR;show dA _ Q (cP _ Q 0) _ _ _ _ _ _ _ _;rw[dA,bj];exact b7 j' _ (by omega) hj' (ay s) hR
   |succ k ih2=>
    intro j' w hk hj' s hR;rw[down_eq _ _ _ _ (by omega)]at hR;show dA _ Q (cP _ Q (k+1)) _ _ _ _ _ _ _ _;unfold dA;by_cases hij:i<=j'
    ·rw[bM];refine G4 (ay s) rfl (by omega) rfl (by omega) λw s=>?_;show cond (cT d[lo]! d[j']!) _ _;rw[decide_eq_true hij,Bool.true_and]at hR;cases hc:cT d[lo]! d[j']! with
     |true=>
      rw[cond_true,aH,show(j':Int)-1=((j'-1:Nat):Int) by omega];grind
     |false=>
      grind
    ·rw[bj];rw[decide_eq_false hij,Bool.false_and,o6]at hR;exact b7 j' _ (by omega) hj' (ay s) hR
  by_cases hij:i<=j
  ·rw[bM];refine G4 (ay s) rfl (by omega) rfl (by omega) λw s=>?_;show cond (!cT d[lo]! d[i]!) _ _;cases hc:cT d[lo]! d[i]! with
   |false=>
    rw[Bool.not_false,cond_true,aH];rw[up_eq,hc,decide_eq_true hij,Bool.true_and,Bool.not_false,WN,<-Go.Sort.partEqLoop_eq]at hR;exact ih (i+1) j d w (by omega) (by omega) hj0 hj (by omega) hR s
   |true=>
    rw[up_eq,hc,Bool.not_true,Bool.and_false,o6]at hR;exact⟨j-lo+1,down (j-lo) j w (by omega) (Nat.le_refl _) s hR⟩
  ·rw[bj];rw[up_eq,decide_eq_false hij,Bool.false_and,o6]at hR;exact⟨j-lo+1,down (j-lo) j _ (by omega) (Nat.le_refl _) (ay s) hR⟩
def Ti {Q:Int->World->Prop}{lo b pv:Nat}(s:Sep F W w (dg a n c d::L))(hn:n<1000000)(hlo:lo<=pv/\pv<b)(hb:b<=n)
  (h:∀w',Sep F W w' (dg a n c (partitionEqual cT d lo b pv).2::L)->Q (partitionEqual cT d lo b pv).1 w'):
  jK a n c lo b pv iR w Q:=by
 apply yJ;have hsz:=gx s;refine Eg (ay s) rfl (by omega) rfl (by omega) λw s=>?_;rw[aH,aH,show(b:Int)-1=((b-1:Nat):Int) by omega];exact⟨b+1,akz hn (λw' _ s=>h w' s) b (lo+1) (b-1) _ w (by omega) (by omega) (by omega) (by omega) (by omega) rfl s⟩
end
end Go.Proofs.YtmegplnmiepfbaaGreatDoor.S
namespace Go.Proofs.YtmegplnmiepfbaaGreatDoor.S
open Go.Sx
open Go.Sort (swp scanSorted shiftDown shiftUp partialIns partialInsertionSort PermIn)
attribute [local irreducible] af cD bz bg aA cy b_ St Bx Al App cK cE cB bV aN bG aq bT av ak aW mapA
section
variable {F:Nat->Prop}{W w w0:World}{L:List As}{a:Option Addr}{n c:Nat}{d:Array bq}
def aq6 {Q:Bool->World->Prop}{lo b:Nat}(hn:n<1000000)(hb:b<=n)(hlo:lo<b){R:Array bq×Bool}(h:∀w',Sep F W w' (dg a n c R.1::L)->Q R.2 w'):
  ∀(f i:Nat) (d:Array bq) (w:World),f<=5->lo<i->i<=b->partialIns cT lo b f i d=R->Sep F W w (dg a n c d::L)->bu Q (f+1) a n c lo b iR i (5-f:Int) w:=by
 intro f;induction f with
 |zero=>
  intro i d w hf hi hib hR s;rw[partialIns]at hR;subst hR;show eS Q (bu Q 0) _ _ _ _ _ _ _ _ _;unfold eS;grind
 |succ f ih=>
  intro i d w hf hi hib hR s;show eS Q (bu Q (f+1)) _ _ _ _ _ _ _ _ _;rw[eS,bM];have next:∀(i:Nat) (d:Array bq) (w:World),lo<i->i<=b->partialIns cT lo b f i d=R->Sep F W w (dg a n c d::L)->bu Q (f+1) a n c lo b iR i (IntKind.wrap .i64 ((5-(f+1:Nat):Int)+1)) w:=λi d w h1 h2 h3 s=>by rw[aH,show(5-(f+1:Nat):Int)+1=5-f by omega];grind
  have up:∀(i:Nat) (d':Array bq),lo<i->i<=b->partialIns cT lo b f i d'=R->∀(k j:Nat) (d:Array bq) (w:World),j+k=b->lo<j->shiftUp cT b j d=d'->Sep F W w (dg a n c d::L)->
    c7 (bu Q (f+1)) Q (k+1) a n c lo b iR i (5-(f+1:Nat):Int) j w:=by
   intro i d' h1 h2 h3 k;induction k with
   |zero=>
    intro j d w hj hj0 hS s;rw[shiftUp,fU]at hS;subst hS;show eF _ Q (c7 _ Q 0) _ _ _ _ _ _ _ _ _ _;unfold eF;grind
   |succ k ih2=>
    intro j d w hj hj0 hS s;have hsz:=gx s;rw[shiftUp,A5]at hS;show eF _ Q (c7 _ Q (k+1)) _ _ _ _ _ _ _ _ _ _;rw[eF,bM,aH];refine G4 (q:=j-1) (ay s) rfl (by omega) (by omega) (by omega) λw s=>?_;show cond (!cT d[j]! d[j-1]!) _ _;cases hc:cT d[j]! d[j-1]! with
    |false=>
     grind
    |true=>
     rw[hc,Bool.not_true,o6]at hS;rw[Bool.not_true,cond_false,aH];refine Eg (q:=j-1) (ay s) rfl (by omega) (by omega) (by omega) λw s=>?_;exact ih2 (j+1) _ w (by omega) (by omega) hS s
  have b18:∀(i:Nat) (d:Array bq) (w:World),lo<i->i<b->partialIns cT lo b f i (if b-i≥2 then shiftUp cT b (i+1) d else d)=R->Sep F W w (dg a n c d::L)->
    c8 (bu Q (f+1)) Q a n c lo b iR i (5-(f+1:Nat):Int) w:=λi d w h1 h2 h3 s=>by
   rw[c8,aH];by_cases h4:b-i≥2
   ·rw[if_pos h4]at h3;rw[bM,aH];exact⟨_,up i _ h1 (by omega) h3 (b-(i+1)) (i+1) d w (by omega) (by omega) rfl s⟩
   ·rw[if_neg h4]at h3;rw[bj];exact next i d _ h1 (by omega) h3 s
  have down:∀(i:Nat) (d':Array bq),lo<i->i<b->partialIns cT lo b f i (if b-i≥2 then shiftUp cT b (i+1) d' else d')=R->∀(j:Nat) (d:Array bq) (w:World),j<b->shiftDown cT j d=d'->Sep F W w (dg a n c d::L)->
    c9 (bu Q (f+1)) Q (j+1) a n c lo b iR i (5-(f+1:Nat):Int) j w:=by
   intro i d' h1 h2 h3 j;induction j with
   |zero=>
    intro d w hj hS s;subst hS;show eG _ Q (c9 _ Q 0) _ _ _ _ _ _ _ _ _ _;unfold eG;exact b18 i d _ h1 h2 h3 s
   |succ j ih2=>
    intro d w hj hS s;have hsz:=gx s;rw[shiftDown]at hS;show eG _ Q (c9 _ Q (j+1)) _ _ _ _ _ _ _ _ _ _;rw[eG,bM,aH];refine G4 (q:=j) (ay s) rfl (by omega) (by omega) (by omega) λw s=>?_;show cond (!cT d[j+1]! d[j]!) _ _;cases hc:cT d[j+1]! d[j]! with
    |false=>
     rw[hc,Bool.not_false,WN]at hS;subst hS;exact b18 i d w h1 h2 h3 s
    |true=>
     rw[hc,Bool.not_true,o6]at hS;rw[Bool.not_true,cond_false,show((j+1:Nat):Int)-1=(j:Int) by omega];refine Eg (q:=j) (ay s) rfl (by omega) (by omega) (by omega) λw s=>?_;exact ih2 _ w (by omega) hS s
  have scan:∀(k i:Nat) (w:World),i+k=b->lo<i->Sep F W w (dg a n c d::L)->(if scanSorted cT d b i=b then(d,true)else if b-lo<50 then(d,false)else
     partialIns cT lo b f (scanSorted cT d b i) (if b-scanSorted cT d b i≥2 then shiftUp cT b (scanSorted cT d b i+1) (if scanSorted cT d b i-lo≥2 then shiftDown cT (scanSorted cT d b i-1) (swp d (scanSorted cT d b i) (scanSorted cT d b i-1))else swp d (scanSorted cT d b i) (scanSorted cT d b i-1))
      else(if scanSorted cT d b i-lo≥2 then shiftDown cT (scanSorted cT d b i-1) (swp d (scanSorted cT d b i) (scanSorted cT d b i-1))else swp d (scanSorted cT d b i) (scanSorted cT d b i-1))))=R->
    dx (bu Q (f+1)) Q (k+1) a n c lo b iR i (5-(f+1:Nat):Int) w:=by
   have b7:∀(i:Nat) (w:World),lo<i->i<=b->Sep F W w (dg a n c d::L)->(if i=b then(d,true)else if b-lo<50 then(d,false)else
     partialIns cT lo b f i (if b-i≥2 then shiftUp cT b (i+1) (if i-lo≥2 then shiftDown cT (i-1) (swp d i (i-1))else swp d i (i-1))else(if i-lo≥2 then shiftDown cT (i-1) (swp d i (i-1))else swp d i (i-1))))=R->
     eN (bu Q (f+1)) Q a n c lo b iR i (5-(f+1:Nat):Int) w:=λi w h1 h2 s hR=>by
    have hsz:=gx s;unfold eN;by_cases h3:i=b
    ·rw[if_pos h3]at hR;subst hR;rw[ee (by omega),cond_true];exact h _ s
    ·rw[if_neg h3]at hR;rw[cL (by omega),cond_false,aH];by_cases h4:b-lo<50
     ·rw[if_pos h4]at hR;subst hR;rw[bM];exact h _ s
     ·rw[if_neg h4]at hR;rw[bj,aH,aH];refine Eg (q:=i-1) (ay s) rfl (by omega) (by omega) (by omega) λw s=>?_;by_cases h5:i-lo≥2
      ·rw[if_pos h5]at hR;rw[bM,show(i:Int)-1=((i-1:Nat):Int) by omega];exact⟨_,down i _ h1 (by omega) hR (i-1) _ w (by omega) rfl s⟩
      ·rw[if_neg h5]at hR;rw[bj];exact b18 i _ w h1 (by omega) hR s
   intro k;induction k with
   |zero=>
    intro i w hk hi s hR;rw[scanSorted,decide_eq_false (by omega),Bool.false_and,o6]at hR;show eO _ Q (dx _ Q 0) _ _ _ _ _ _ _ _ _;rw[eO,bj];exact b7 i _ hi (by omega) (ay s) hR
   |succ k ih2=>
    intro i w hk hi s hR;have hsz:=gx s;rw[scanSorted,decide_eq_true (by omega),Bool.true_and]at hR;show eO _ Q (dx _ Q (k+1)) _ _ _ _ _ _ _ _ _;rw[eO,bM,aH];refine G4 (q:=i-1) (ay s) rfl (by omega) (by omega) (by omega) λw s=>?_;show cond (!cT d[i]! d[i-1]!) _ _;cases hc:cT d[i]! d[i-1]! with
    |false=>
     rw[hc,Bool.not_false,WN]at hR;rw[Bool.not_false,cond_true,aH];exact ih2 (i+1) w (by omega) (by omega) s hR
    |true=>
     rw[hc,Bool.not_true,o6]at hR;exact b7 i w hi (by omega) s hR
  exact⟨_,scan (b-i) i w (by omega) hi s hR⟩
def aaB {Q:Bool->World->Prop}{lo b:Nat}(s:Sep F W w (dg a n c d::L))(hn:n<1000000)(hlo:lo<b)(hb:b<=n)(h:∀w',Sep F W w' (dg a n c (partialInsertionSort cT d lo b).1::L)->Q (partialInsertionSort cT d lo b).2 w'):
  iG a n c lo b iR w Q:=by
 apply vg;rw[aH];exact⟨_,aq6 hn hb hlo h 5 (lo+1) d w (by decide) (by omega) (by omega) rfl s⟩
def ali {lo b i j:Nat}{d d':Array bq}(h:PermIn lo b d d')(hb:b<=d'.size)(hi:lo<=i/\i<b)(hj:lo<=j/\j<b):PermIn lo b d (swp d' i j):=
 Go.Sort.permIn_trans _ _ _ _ _ h (Go.Sort.swp_permIn _ _ _ _ _ hi.1 hi.2 hj.1 hj.2 hb)
def ahd {Q:World->Prop}{lo b:Nat}(s:Sep F W w (dg a n c d::L))(hn:n<1000000)(hlo:lo<b)(hb:b<=n)(h:∀d' w',PermIn lo b d d'->Sep F W w' (dg a n c d'::L)->Q w'):
  ku a n c lo b iR w Q:=by
 apply z8;rw[aH];have loop:∀(k i j:Nat) (d':Array bq) (w:World),j<=i+k->lo<=i->j<b->i<=b->PermIn lo b d d'->Sep F W w (dg a n c d'::L)->e7 Q (k+1) a n c i j w:=by
  intro k;induction k with
  |zero=>
   intro i j d' w hk hi hj hib hp s;show fX Q (e7 Q 0) _ _ _ _ _ _;unfold fX;grind
  |succ k ih=>
   intro i j d' w hk hi hj hib hp s;have hsz:=gx s;show fX Q (e7 Q (k+1)) _ _ _ _ _ _;unfold fX;by_cases hij:i<j
   ·rw[bM,aH,aH];refine Eg (ay s) rfl (by omega) rfl (by omega) λw s=>?_;rw[show(j:Int)-1=((j-1:Nat):Int) by omega];exact ih (i+1) (j-1) _ w (by omega) (by omega) (by omega) (by omega) (ali hp (by omega) (by omega) (by omega)) s
   grind
 have:=loop b lo (b-1) d w (by omega) (Nat.le_refl _) (by omega) (by omega) (Go.Sort.permIn_refl _ _ _) s;grind
def Mo {Q:Int->Int->World->Prop}{i j sp:Nat}{k:Int}{t:TypeId}(s:Sep F W w (dg a n c d::av sp t [ae k]::L))(hi:i<n)(hj:j<n)
  (h:∀(x y:Nat) k' w',(x=i/\y=j\/x=j/\y=i)->Sep F W w' (dg a n c d::av sp t [ae k']::L)->Q x y w'):gT a n c i j (sZ sp) iR w Q:=by
 apply Dn;have hsz:=gx s;refine G4 (ay s) rfl (by omega) rfl (by omega) λw s=>?_;cases hc:decide (aiP d[j]! d[i]! <0)with
 |true=>
  rw[cond_true];refine ah (lI s 1 rfl (ah ?_));refine sT s 1 rfl λw s=>?_;grind
 |false=>
  grind
def WO {Q:Int->World->Prop}{i j l sp:Nat}{k:Int}{t:TypeId}(s:Sep F W w (dg a n c d::av sp t [ae k]::L))(hi:i<n)(hj:j<n)(hl:l<n)
  (h:∀(x:Nat) k' w',(x=i\/x=j\/x=l)->Sep F W w' (dg a n c d::av sp t [ae k']::L)->Q x w'):jC a n c i j l (sZ sp) iR w Q:=by
 apply Dp;refine Mo s hi hj λx y k w e s=>?_;refine Mo s (show y<n by omega) hl λx' y' k w e' s=>?_;refine Mo s (show x<n by omega) (show x'<n by omega) λx2 y2 k w e2 s=>?_;grind
def G5 {Q:Int->World->Prop}{i sp:Nat}{k:Int}{t:TypeId}(s:Sep F W w (dg a n c d::av sp t [ae k]::L))(hn:n<1000000)(hi:1<=i/\i+1<n)
  (h:∀(x:Nat) k' w',(i<=x+1/\x<=i+1)->Sep F W w' (dg a n c d::av sp t [ae k']::L)->Q x w'):fo a n c i (sZ sp) iR w Q:=by
 apply yI;rw[aH,aH,show(i:Int)-1=((i-1:Nat):Int) by omega,show(i:Int)+1=((i+1:Nat):Int) by omega];exact WO s (by omega) (by omega) (by omega) λx k w e s=>h x k w (by omega) s
def YN {Q:Int->Int->World->Prop}{lo b:Nat}(s:Sep F W w (dg a n c d::L))(hn:n<1000000)(hlo:lo<b)(hb:b<=n)
  (h:∀(x:Nat) (hint:Int) w',lo<=x/\x<b->Sep F W w' (dg a n c d::L)->Q x hint w'):kN a n c lo b iR w Q:=by
 apply AI;refine aV s λsp w s=>⟨by decide,by decide,by decide,?_⟩;have s:=jd s;have b12:∀(x:Nat) (k:Int) (w:World),lo<=x/\x<b->Sep F W w (dg a n c d::av sp 3 [ae k]::L)->iI Q (aZ sp) x w:=λx k w hx s=>by apply lI s 1 rfl;have s':Sep F W w (dg a n c d::L):=gH s (List.Sublist.cons_cons _ (List.sublist_cons_self _ _));grind
 have b11:∀(i j l:Nat) (k:Int) (w:World),lo<=i/\i<b->lo<=j/\j<b->lo<=l/\l<b->Sep F W w (dg a n c d::av sp 3 [ae k]::L)->iJ Q a n c iR (aZ sp) i j l w:=λi j l k w hi hj hl s=>by exact WO s (by omega) (by omega) (by omega) λx k w e s=>b12 x k w (by omega) s
 rw[aH,Int.tdiv_eq_ediv_of_nonneg (by omega),aH (n:=((b:Int)-lo)/4),
  aH (n:=((b:Int)-lo)/4*1),aH (n:=((b:Int)-lo)/4*2),aH (n:=((b:Int)-lo)/4*3),
  aH,aH,aH]
 have e1:(lo:Int)+((b:Int)-lo)/4*1=((lo+(b-lo)/4*1:Nat):Int):=by omega
 have e2:(lo:Int)+((b:Int)-lo)/4*2=((lo+(b-lo)/4*2:Nat):Int):=by omega
 have e3:(lo:Int)+((b:Int)-lo)/4*3=((lo+(b-lo)/4*3:Nat):Int):=by omega
 rw[e1,e2,e3];by_cases h8:b-lo≥8
 ·rw[bM (show(b:Int)-lo≥8 by omega)];by_cases h50:b-lo≥50
  ·rw[bM (show(b:Int)-lo≥50 by omega)];refine G5 s hn (by omega) λx k w e s=>?_;refine G5 s hn (by omega) λy k w e' s=>?_;refine G5 s hn (by omega) λz k w e2 s=>?_;grind
  ·rw[bj (show¬(b:Int)-lo≥50 by omega)];exact b11 _ _ _ _ w (by omega) (by omega) (by omega) s
 ·rw[bj (show¬(b:Int)-lo≥8 by omega)];exact b12 _ _ w (by omega) s
end
end Go.Proofs.YtmegplnmiepfbaaGreatDoor.S
namespace Go.Proofs.YtmegplnmiepfbaaGreatDoor.S
open Go.Sx
open Go.Sort (swp PermIn SortedIn Below)
attribute [local irreducible] af cD bz bg aA cy b_ St Bx Al App cK cE cB bV aN bG aq bT av ak aW mapA
section
variable {F:Nat->Prop}{W w w0:World}{L:List As}{a:Option Addr}{n c:Nat}{d:Array bq}
def ami (T:ByteArray):Bool:=(List.range 256).all λx=>decide (0<=sb T x/\sb T x<=8/\(x:Int)<2^(sb T x).toNat/\(1<=x->(2:Int)^(sb T x).toNat<=2*x))
def ayL:∃T:ByteArray,T.size=256/\ami T=true/\∀Q x k w,uL Q x k w=(aJ (IntKind.wrap .u8 x) T.size<|Q (IntKind.wrap .i64 (k+IntKind.wrap .i64 (sb T (IntKind.wrap .u8 x).toNat))) w):=by
 refine⟨_,?_,?_,λ_ _ _ _=>rfl⟩
 ·kernel_rfl
 ·kernel_rfl
def alj {T:ByteArray}(h2:ami T=true){x:Nat}(hx:x<256):0<=sb T x/\sb T x<=8/\(x:Int)<2^(sb T x).toNat/\(1<=x->(2:Int)^(sb T x).toNat<=2*x):=by unfold ami at h2;grind
def Rt {x:Nat}{Q:Int->World->Prop}(hx:x<65536)(h:∀v:Nat,v<=16->(x:Int)<2^v->(8<=x->(2:Int)^v<=2*x)->Q v w):v7 x w Q:=by
 apply UU;apply QG;unfold we wc;rw[bj,bj];obtain⟨T,h1,h2,h3⟩:=ayL;by_cases hs:x<256
 ·rw[bj,h3,h1,wrap_u8' x,Int.emod_eq_of_lt (by omega) (by omega)];refine⟨by omega,by omega,?_⟩;obtain⟨a1,a2,a3,a4⟩:=alj h2 hs;rw[Int.toNat_natCast,aH (n:=sb T x),aH,Int.zero_add];grind
 ·rw[bM];refine⟨by decide,?_⟩;have e:pE .u64 (x:Int) 8=((x/256:Nat):Int):=by rw[pE,show(2:Int)^(min (8:Int).toNat (IntKind.u64).bits)=256 from rfl,Int.fdiv_eq_ediv_of_nonneg _ (by decide)];omega
  rw[e,wrap_i64 (by decide) (by decide),h3,h1,wrap_u8' ((x/256:Nat):Int),Int.emod_eq_of_lt (by omega) (by omega)];refine⟨by omega,by omega,?_⟩;obtain⟨a1,a2,a3,a4⟩:=alj h2 (x:=x/256) (by omega);rw[Int.toNat_natCast,aH (n:=sb T (x/256)),aH];have e2:(2:Int)^(8+(sb T (x/256)).toNat)=256*2^(sb T (x/256)).toNat:=by grind
  grind
def avh {x m:Int}(hm:0<=m/\m<1000000):0<=B_ .u64 x m/\B_ .u64 x m<=m:=by
 unfold B_;have h1:(BitVec.ofInt 64 x&&&BitVec.ofInt 64 m).toNat<=m.toNat:=by apply Nat.le_trans Nat.and_le_right;grind
 have h1:(BitVec.ofInt (IntKind.u64).bits x&&&BitVec.ofInt (IntKind.u64).bits m).toNat<=m.toNat:=h1;rw[kF (by omega)];omega
def aey {Q:Int->World->Prop}{sp:Nat}{k:Int}{t:TypeId}(s:Sep F W w (dg a n c d::av sp t [.int .u64 k]::L))
  (h:∀r k' w',Sep F W w' (dg a n c d::av sp t [.int .u64 k']::L)->Q r w'):tC (sZ sp) w Q:=by
 apply J9;refine ah (lI s 1 rfl (ah (lI s 1 rfl ⟨by decide,ah ?_⟩)));refine sT s 1 rfl λw s=>?_;refine ah (lI s 1 rfl (ah (lI s 1 rfl ⟨by decide,ah ?_⟩)));refine sT s 1 rfl λw s=>?_;refine ah (lI s 1 rfl (ah (lI s 1 rfl ⟨by decide,ah ?_⟩)));refine sT s 1 rfl λw s=>?_;refine ah (lI s 1 rfl ?_);grind
def ai1 {Q:World->Prop}{lo b:Nat}(s:Sep F W w (dg a n c d::L))(hn:n<2000)(hlo:lo<b)(hb:b<=n)(h:∀d' w',PermIn lo b d d'->Sep F W w' (dg a n c d'::L)->Q w'):
  jT a n c lo b iR w Q:=by
 apply zE;rw[aH];by_cases h8:b-lo≥8
 ·rw[bM (show(b:Int)-lo≥8 by omega)];refine aV s λsp w s=>?_;refine ax s (i:=0) rfl rfl rfl λw s=>?_;have s:=jd s;apply Jp;rw[kF (by omega),show(b:Int)-lo=((b-lo:Nat):Int) by omega];refine Rt (by omega) λv hv h1 h2=>⟨by omega,by decide,?_⟩;have h2:=h2 h8;have hsh:Ca .u64 1 (v:Int)=(2:Int)^v:=by rw[Ca,Int.toNat_natCast,Int.one_mul,show min v (IntKind.u64).bits=v by simp[IntKind.bits];omega];exact kF (by omega)
  rw[hsh];generalize (2:Int)^v=M at h1 h2;rw[Int.tdiv_eq_ediv_of_nonneg (by omega),aH (n:=((b-lo:Nat):Int)/4),aH (n:=((b-lo:Nat):Int)/4*2),aH (n:=(lo:Int)+((b-lo:Nat):Int)/4*2),
   aH]
  have loop:∀(k idx:Nat) (d':Array bq) (r:Int) (t:TypeId) (w:World),idx+k=lo+(b-lo)/4*2+2->lo<=idx->PermIn lo b d d'->Sep F W w (dg a n c d'::av sp t [.int .u64 r]::L)->
    dK Q (k+1) a n c lo ((b-lo:Nat):Int) (aZ sp) M idx w:=by
   intro k;induction k with
   |zero=>
    intro idx d' r t w hk hi hp s;show kO Q (dK Q 0) _ _ _ _ _ _ _ _ _;refine⟨by decide,?_⟩;rw[Int.tdiv_eq_ediv_of_nonneg (by omega),aH (n:=((b-lo:Nat):Int)/4),aH (n:=((b-lo:Nat):Int)/4*2),aH (n:=(lo:Int)+((b-lo:Nat):Int)/4*2),
     aH,bj]
    exact h d' w hp (gH s (List.Sublist.cons_cons _ (List.sublist_cons_self _ _)))
   |succ k ih=>
    intro idx d' r t w hk hi hp s;show kO Q (dK Q (k+1)) _ _ _ _ _ _ _ _ _;refine⟨by decide,?_⟩;rw[Int.tdiv_eq_ediv_of_nonneg (by omega),aH (n:=((b-lo:Nat):Int)/4),aH (n:=((b-lo:Nat):Int)/4*2),aH (n:=(lo:Int)+((b-lo:Nat):Int)/4*2),
     aH,bM]
    refine aey s λrr r w s=>?_;have hsz:=gx s;have b10:∀(o:Nat) (w:World),o<b-lo->Sep F W w (dg a n c d'::av sp t [.int .u64 r]::L)->fG (dK Q (k+1)) Q a n c lo ((b-lo:Nat):Int) (aZ sp) M idx o w:=λo w ho s=>by rw[fG,aH,aH];refine Eg (q:=lo+o) (ay s) rfl (by omega) (by omega) (by omega) λw s=>?_;exact ih (idx+1) _ r t w (by omega) (by omega) (ali hp (by omega) (by omega) (by omega)) s
    rw[kF (by omega)];have ha:=avh (x:=rr) (m:=M-1) (by omega);generalize B_ .u64 rr (M-1)=q at ha;rw[aH];by_cases hq:q≥((b-lo:Nat):Int)
    ·rw[bM hq,aH];have:=b10 (q-((b-lo:Nat):Int)).toNat w (by omega) s;grind
    ·have:=b10 q.toNat w (by omega) s;grind
  have:=loop 3 (lo+(b-lo)/4*2-1) d _ _ w (by omega) (by omega) (Go.Sort.permIn_refl _ _ _) s;grind
 ·rw[bj (show¬(b:Int)-lo≥8 by omega)];exact h d w (Go.Sort.permIn_refl _ _ _) s
end
end Go.Proofs.YtmegplnmiepfbaaGreatDoor.S
