/- Part 3 of the proof. -/
import Derived.Test.YtmegplnmiepfbaaGreatDoorW1
import Derived.Sort.LotA
import Derived.Sort.LotB
import Derived.Sort.LotC
import Derived.Sort.LotD3
set_option linter.unusedVariables false
set_option linter.unusedSimpArgs false
set_option linter.defProp false
set_option maxRecDepth 100000
namespace Go.Proofs.YtmegplnmiepfbaaGreatDoor.S
open Go.Sx
noncomputable def Ym:cm:=[(6,sp 0 10 (.op 10 (.op 11 (.op 12 .done))))]
def Wa:=λa b c w Q=>bB (B2 a b c w Q) (wY a w λd e w=>dY d e c w λf w=>vG a b f w λg i j l m n o w=>Al T 213 w λp w=>St (p.add 0) (.slice g i j) w λw=>St (p.add 1) (.slice l m n) w λw=>BM o λq=>cond (!q) (dV o λr=>Q 0 0 r w) (nk d e c w λs w=>aA p w.drew λt u v=>aK s u<|wA t λx=>af .i64 (x.add (s.toNat*1)) w.drew λy=>aA (p.add 1) w.drew λz a1 b1=>aK s a1<|wA z λc1=>af .i64 (c1.add (s.toNat*1)) w.drew λd1=>w.drew.cell? (c1.add (s.toNat*1))=some (ae d1)/\w.drew.cell? (p.add 1)=some (.slice z a1 b1)/\Q y d1 (.nilIface) w.drew)) (ok 45) Ym [] Tryz.func129
def QK:=λa w Q=>bB (yV a w Q) (BM a λb=>cond b (Q 0 w) (cw (aZ 2) w λc=>pF a c w λd w=>cond d (Q 4 w) (cw (aZ 3) w λe=>pF a e w λf w=>cond f (Q 7 w) (Q 1 w)))) (ok 14) [] [] Tryz.func130
def Wb:=λa b c w Q=>bB (B0 a b c w Q) (B2 a b c w λd e f w=>yV f w λg w=>Q d e g w) (ok 22) [] [] Tryz.func92
def M3:=λa b c d w Q=>bB (wj a b c d w Q) (wA a λe=>bp (e.add 1) w λf=>B0 f c d w λg i j w=>cond (j==0) (wA b λl=>St (l.add 1) (ae g) w λw=>wA b λm=>St (m.add 2) (ae i) w λw=>gm j w λn w=>dV n λo=>Q o w) (gm j w λp w=>dV p λq=>Q q w)) (ok 35) [] [] Tryz.func57
def qP (Q:L3 WP)(R5:OA->L3 (L3 (Int->Int->WP)))(a b:OA)(c d:Nat)(e:OA)(f g:Nat)(i j:Int)(w:World):Prop:=cond (decide (j<i)) (aK j f<|wA e λl=>af .i64 (l.add (j.toNat*1)) w λm=>wA a λn=>cE (n.add 2) w λo=>aQ P (Instr.lookup 169 (.map o) (ae m) false) w λp w=>dL p λq=>dD q λr s=>dI .i64 r λt=>dD s λu v=>dI .i64 u λx=>dD v λy z=>dI .i64 y λa1=>kN z<|Bx [ae t,ae x,ae a1] 43 w λb1 w=>App P #[39,39] 39 (.slice b c d) (.slice (some b1) 1 1) w λc1 d1 e1 w=>R5 a c1 d1 e1 e f g i (IntKind.wrap .i64 (j+1)) w) (Q b c d w)
def vS (Q:L3 WP):Nat->OA->L3 (L3 (Int->Int->WP))
 |0,_,_,_,_,_,_,_,_,_,_=>False
 |k+1,a,b,c,d,e,f,g,i,j,w=>qP Q (vS Q k) a b c d e f g i j w
def UY (Q):∀k,Bk 26 Tryz.f64 (Ht Q) 5 [(0,.p),(3,.l),(9,.l),(10,.i .i64),(11,.i .i64)] (vS Q k):=bH λk h=>aS (ok 26) [] [aO h]
def QL:=λa w Q=>bB (yP a w Q) (cond a.isNone (Q none 0 0 w) (qy a w λb c d w=>∃k',vS Q k' a none 0 0 b c d (c:Int) 0 w)) (ok 26) [] [cg (UY Q)] Tryz.func64
def M4:=λa w Q=>bB (m7 a w Q) (cond a.isNone (Q none 0 0 w) (wA a λb=>bp (b.add 3) w λc=>yP c w λd e f w=>Q d e f w)) (ok 10) [] [] Tryz.func33
def Cm (Q:Bool->WP)(R6:Int->Int->Int->ON->L3 (Int->Int->WP))(a b c:Int)(d:ON)(e:OA)(f g:Nat)(i j:Int)(w:World):Prop:=cond (decide (j<i)) (aK j f<|wA e λl=>af .i64 ((l.add (j.toNat*3)).add 0) w λm=>af .i64 ((l.add (j.toNat*3)).add 1) w λn=>af .i64 ((l.add (j.toNat*3)).add 2) w λo=>Al T 43 w λp w=>St (p.add 0) (ae m) w λw=>St (p.add 1) (ae n) w λw=>St (p.add 2) (ae o) w λw=>af .i64 p w λq=>cond (decide (q<=c)) (Q false w) (af .i64 (p.add 1) w λr=>dY a b r w λs w=>cond (decide (s<0)) (Q false w) (af .i64 (p.add 2) w λt=>dY a b t w λu w=>cond (decide (u<0)) (Q false w) (af .i64 (p.add 1) w λv=>aQ P (Instr.lookup 258 (.map d) (ae v) false) w λx w=>dB x λy=>cond y (Q false w) (af .i64 (p.add 1) w.drew λz=>af .i64 p w.drew λa1=>w.drew.cell? (p.add 1)=some (ae z)/\bI P (Instr.mapUpdate 258 (.map d) (ae z) (.bool true)) w.drew λw=>R6 a b a1 d e f g i (IntKind.wrap .i64 (j+1)) w))))) (Q true w)
def Gt (Q:Bool->WP):Nat->Int->Int->Int->ON->L3 (Int->Int->WP)
 |0,_,_,_,_,_,_,_,_,_,_=>False
 |k+1,a,b,c,d,e,f,g,i,j,w=>Cm Q (Gt Q k) a b c d e f g i j w
noncomputable def TO:cm:=[(10,sp 0 5 (.op 5 (.op 6 .done)))]
def aij (Q):∀k,Bk 56 Tryz.f151 (VB Q) 6 [(0,.i .i64),(1,.i .i64),(7,.i .i64),(8,.m),(18,.l),(19,.i .i64),(20,.i .i64)] (Gt Q k):=bH λk h=>aS (ok 56) TO [aO h]
def adW:=λa b c d e w Q=>bB (CQ a b c d e w Q) (lH a b w λf w=>cond (!f) (Q false w) (cM P 258 (some (ae (d:Int))) w λg w=>∃k',Gt Q k' a b (-1) g c d e (d:Int) 0 w)) (ok 56) TO [cg (aij Q)] Tryz.func151
def zu (Q:L3 WP)(R4:L3 (ON->L3 (Int->Int->WP)))(a:OA)(b c:Nat)(d:ON)(e:OA)(f g:Nat)(i j:Int)(w:World):Prop:=cond (decide (j<i)) (aK j f<|wA e λl=>af .i64 ((l.add (j.toNat*3)).add 0) w λm=>af .i64 ((l.add (j.toNat*3)).add 1) w λn=>af .i64 ((l.add (j.toNat*3)).add 2) w λo=>Al T 43 w λp w=>St (p.add 0) (ae m) w λw=>St (p.add 1) (ae n) w λw=>St (p.add 2) (ae o) w λw=>af .i64 (p.add 2) w λq=>aQ P (Instr.lookup 258 (.map d) (ae q) false) w λr w=>dB r λs=>cond (!s) (af .i64 (p.add 2) w λt=>bI P (Instr.mapUpdate 258 (.map d) (ae t) (.bool true)) w λw=>af .i64 (p.add 2) w λu=>Bx [ae u] 3 w λv w=>App P #[29,29] 29 (.slice a b c) (.slice (some v) 1 1) w λx y z w=>R4 x y z d e f g i (IntKind.wrap .i64 (j+1)) w) (R4 a b c d e f g i (IntKind.wrap .i64 (j+1)) w)) (Q a b c w)
def C9 (Q:L3 WP):Nat->L3 (ON->L3 (Int->Int->WP))
 |0,_,_,_,_,_,_,_,_,_,_=>False
 |k+1,a,b,c,d,e,f,g,i,j,w=>zu Q (C9 Q k) a b c d e f g i j w
def adX (Q):∀k,Bk 29 Tryz.f152 (PU Q) 4 [(3,.l),(4,.m),(8,.l),(9,.i .i64),(10,.i .i64)] (C9 Q k):=bH λk h=>aS (ok 29) [] [aO h]
def Z2:=λa b c w Q=>bB (EV a b c w Q) (cM P 258 none w λd w=>∃k',C9 Q k' none 0 0 d a b c (b:Int) 0 w) (ok 29) [] [cg (adX Q)] Tryz.func152
def pS (P6:Int->Int->L3 (ON->ON->L3 (Int->Int->WP)))(Q:L3 WP)(a b:Int)(c:OA)(d e:Nat)(f g:ON)(i:Addr)(j:Int)(l:OA)(m n:Nat)(o p:Int)(w:World):Prop:=af .i64 (i.add 2) w λq=>aQ P (Instr.lookup 252 (.map f) (ae q) false) w λr w=>dS r λs t u=>aK j t<|wA s λv=>aA ((v.add (j.toNat*3)).add 2) w.drew λx y z=>af .i64 i w.drew λa1=>Bx [ae a1] 3 w.drew λb1 w=>w.cell? ((v.add (j.toNat*3)).add 2)=some (.slice x y z)/\App P #[29,29] 29 (.slice x y z) (.slice (some b1) 1 1) w λc1 d1 e1 w=>St ((v.add (j.toNat*3)).add 2) (.slice c1 d1 e1) w λw=>P6 a b c d e f g l m n o (IntKind.wrap .i64 (p+1)) w
def xw (Q:L3 WP)(R20:ON->L3 (L3 (Int->Int->WP)))(a:ON)(b:OA)(c d:Nat)(e:OA)(f g:Nat)(i j:Int)(w:World):Prop:=cond (decide (j<i)) (aK j f<|wA e λl=>af .i64 (l.add (j.toNat*1)) w λm=>aQ P (Instr.lookup 252 (.map a) (ae m) false) w λn w=>dS n λo p q=>App P #[208,208] 208 (.slice b c d) (.slice o p q) w λr s t w=>R20 a r s t e f g i (IntKind.wrap .i64 (j+1)) w) (Q b c d w)
def Br (Q:L3 WP):Nat->ON->L3 (L3 (Int->Int->WP))
 |0,_,_,_,_,_,_,_,_,_,_=>False
 |k+1,a,b,c,d,e,f,g,i,j,w=>xw Q (Br Q k) a b c d e f g i j w
def zv (Q:L3 WP)(R6:Int->Int->L3 (ON->ON->L3 (Int->Int->WP)))(a b:Int)(c:OA)(d e:Nat)(f g:ON)(i:OA)(j l:Nat)(m n:Int)(w:World):Prop:=cond (decide (n<m)) (aK n j<|wA i λo=>af .i64 ((o.add (n.toNat*3)).add 0) w λp=>af .i64 ((o.add (n.toNat*3)).add 1) w λq=>af .i64 ((o.add (n.toNat*3)).add 2) w λr=>Al T 43 w λs w=>St (s.add 0) (ae p) w λw=>St (s.add 1) (ae q) w λw=>St (s.add 2) (ae r) w λw=>af .i64 (s.add 1) w λt=>dY a b t w λu w=>af .i64 (s.add 2) w λv=>Al T 253 w λx w=>St (x.add 0) (ae v) w λw=>St (x.add 1) (ae u) w λw=>af .i64 (x.add 0) w λy=>af .i64 (x.add 1) w λz=>aQ P (Instr.lookup 180 (.map g) (.agg #[ae y,ae z]) true) w λa1 w=>dT a1 λb1=>dD b1 λc1 d1=>dI .i64 c1 λe1=>dD d1 λf1 g1=>dB f1 λi1=>kN g1<|cond (!i1) (af .i64 (s.add 2) w λj1=>aQ P (Instr.lookup 252 (.map f) (ae j1) false) w λl1 w=>dS l1 λm1 n1 o1=>af .i64 (x.add 0) w λp1=>af .i64 (x.add 1) w λq1=>bI P (Instr.mapUpdate 180 (.map g) (.agg #[ae p1,ae q1]) (ae (n1:Int))) w λw=>af .i64 (s.add 2) w.drew λr1=>af .i64 (s.add 2) w.drew λs1=>af .i64 (s.add 2) w.drew λt1=>(aQ P (Instr.lookup 252 (.map f) (ae s1) false) w.drew λu1 w=>dS u1 λv1 x1 y1=>w.cell? (s.add 2)=some (ae t1)/\w.cell? (s.add 2)=some (ae r1)/\Bx [ae t1,ae u,.slice none 0 0] 211 w λz1 w=>w.cell? (s.add 2)=some (ae s1)/\w.cell? (s.add 2)=some (ae r1)/\App P #[208,208] 208 (.slice v1 x1 y1) (.slice (some z1) 1 1) w λa2 b2 c2 w=>w.cell? (s.add 2)=some (ae r1)/\bI P (Instr.mapUpdate 252 (.map f) (ae r1) (.slice a2 b2 c2)) w λw=>pS R6 Q a b c d e f g s (n1:Int) i j l m n w)/\(Bx [ae t1,ae u,.slice none 0 0] 211 w.drew λd2 w=>w.cell? (s.add 2)=some (ae s1)/\w.cell? (s.add 2)=some (ae r1)/\aQ P (Instr.lookup 252 (.map f) (ae s1) false) w λe2 w=>dS e2 λf2 g2 i2=>w.cell? (s.add 2)=some (ae t1)/\w.cell? (s.add 2)=some (ae r1)/\App P #[208,208] 208 (.slice f2 g2 i2) (.slice (some d2) 1 1) w λj2 l2 m2 w=>w.cell? (s.add 2)=some (ae r1)/\bI P (Instr.mapUpdate 252 (.map f) (ae r1) (.slice j2 l2 m2)) w λw=>pS R6 Q a b c d e f g s (n1:Int) i j l m n w)) (pS R6 Q a b c d e f g s e1 i j l m n w)) (EV c d e w λn2 o2 p2 w=>∃k',Br Q k' f none 0 0 n2 o2 p2 (o2:Int) 0 w)
def zw (Q:L3 WP):Nat->Int->Int->L3 (ON->ON->L3 (Int->Int->WP))
 |0,_,_,_,_,_,_,_,_,_,_,_,_,_=>False
 |k+1,a,b,c,d,e,f,g,i,j,l,m,n,w=>zv Q (zw Q k) a b c d e f g i j l m n w
noncomputable def Bs:cm:=[(14,sp 0 6 (sp 7 4 (.br (.op 6 (.op 11 (.op 12 (.op 13 .done)))) (.op 11 (.op 6 (.op 12 (.op 13 .done))))))),(16,sp 0 7 (.op 7 (.op 8 (sp 9 2 (.op 11 .done)))))]
def abM {P6}(Q)(H6:Bk 102 Tryz.f133 (yW Q) 6 [(0,.i .i64),(1,.i .i64),(2,.l),(7,.m),(8,.m),(26,.l),(27,.i .i64),(28,.i .i64)] P6):Bk 102 Tryz.f133 (yW Q) 15 [(0,.i .i64),(1,.i .i64),(2,.l),(7,.m),(8,.m),(10,.a),(13,.i .i64),(26,.l),(27,.i .i64),(28,.i .i64)] (pS P6 Q):=aS (ok 102) Bs [aO H6]
def abN (Q):∀k,Bk 102 Tryz.f133 (yW Q) 20 [(7,.m),(16,.l),(89,.l),(90,.i .i64),(91,.i .i64)] (Br Q k):=bH λk h=>aS (ok 102) Bs [aO h]
def adY (Q):∀k,Bk 102 Tryz.f133 (yW Q) 6 [(0,.i .i64),(1,.i .i64),(2,.l),(7,.m),(8,.m),(26,.l),(27,.i .i64),(28,.i .i64)] (zw Q k):=bH λk h=>aS (ok 102) Bs [aO (abM Q h),cg (abN Q)]
def Z3:=λa b c d e w Q=>bB (ET a b c d e w Q) (CQ a b c d e w λf w=>cond (!f) (Q none 0 0 w) (cM P 252 none w λg w=>cM P 180 none w λi w=>∃k',zw Q k' a b c d e g i c d e (d:Int) 0 w)) (ok 102) Bs [cg (adY Q)] Tryz.func133
noncomputable def Wc:cm:=[(2,sp 0 2 (.op 2 (.op 3 (.op 4 .done))))]
def UZ:=λa b c w Q=>bB (vF a b c w Q) (Al T 213 w λd w=>vG a b c w λe f g i j l m w=>Al T 213 w λn w=>St (n.add 0) (.slice e f g) w λw=>St (n.add 1) (.slice i j l) w λw=>aA (n.add 0) w.drew λo p q=>aA (n.add 1) w.drew λr s t=>yV m w.drew λu w=>w.cell? (n.add 0)=some (.slice o p q)/\w.cell? (n.add 1)=some (.slice r s t)/\St (d.add 0) (.slice o p q) w λw=>St (d.add 1) (.slice r s t) w λw=>aA (d.add 0) w λv x y=>aA (d.add 1) w λz a1 b1=>Q v x y z a1 b1 u w) (ok 20) Wc [] Tryz.func134
def oF (u6:OA->L3 (ON->ON->L3 (Int->Int->WP)))(Q:L3 (Value->WP))(R16:OA->L3 (ON->ON->Addr->L3 (Int->Int->L3 (Int->Int->WP))))(a b:OA)(c d:Nat)(e f:ON)(g:Addr)(i:OA)(j l:Nat)(m n:Int)(o:OA)(p q:Nat)(r s:Int)(w:World):Prop:=cond (decide (s<r)) (aK s p<|wA o λt=>af .i64 (t.add (s.toNat*1)) w λu=>aA (g.add 1) w λv x y=>aQ P (Instr.lookup 207 (.map e) (ae u) false) w λz w=>dI .i64 z λa1=>aK a1 x<|wA v λb1=>af .i64 (b1.add (a1.toNat*1)) w λc1=>bI P (Instr.mapUpdate 207 (.map f) (ae u) (ae c1)) w λw=>R16 a b c d e f g i j l m n o p q r (IntKind.wrap .i64 (s+1)) w) (u6 a b c d e f i j l m (IntKind.wrap .i64 (n+1)) w)
def sE (u6:OA->L3 (ON->ON->L3 (Int->Int->WP)))(Q:L3 (Value->WP)):Nat->OA->L3 (ON->ON->Addr->L3 (Int->Int->L3 (Int->Int->WP)))
 |0,_,_,_,_,_,_,_,_,_,_,_,_,_,_,_,_,_,_=>False
 |k+1,a,b,c,d,e,f,g,i,j,l,m,n,o,p,q,r,s,w=>oF u6 Q (sE u6 Q k) a b c d e f g i j l m n o p q r s w
def oG (u6:OA->L3 (ON->ON->L3 (Int->Int->WP)))(Q:L3 (Value->WP))(a b:OA)(c d:Nat)(e f:ON)(g i:Addr)(j:Int)(l:OA)(m n:Nat)(o p:Int)(w:World):Prop:=cond (j !=0) (Q none 0 0 (.iface 108 (ae j)) w) (aA (g.add 2) w λq r s=>∃k',sE u6 Q k' a b c d e f i l m n o p q r s (r:Int) 0 w)
def oH (Q:L3 (Value->WP))(R23:ON->L3 (L3 (Int->Int->WP)))(a:ON)(b:OA)(c d:Nat)(e:OA)(f g:Nat)(i j:Int)(w:World):Prop:=cond (decide (j<i)) (aK j f<|wA e λl=>af .i64 ((l.add (j.toNat*3)).add 0) w λm=>af .i64 ((l.add (j.toNat*3)).add 1) w λn=>af .i64 ((l.add (j.toNat*3)).add 2) w λo=>Al T 43 w λp w=>St (p.add 0) (ae m) w λw=>St (p.add 1) (ae n) w λw=>St (p.add 2) (ae o) w λw=>af .i64 p w λq=>aQ P (Instr.lookup 207 (.map a) (ae q) false) w λr w=>dI .i64 r λs=>Bx [ae s] 3 w λt w=>App P #[29,29] 29 (.slice b c d) (.slice (some t) 1 1) w λu v x w=>R23 a u v x e f g i (IntKind.wrap .i64 (j+1)) w) (Q b c d (.nilIface) w)
def sF (Q:L3 (Value->WP)):Nat->ON->L3 (L3 (Int->Int->WP))
 |0,_,_,_,_,_,_,_,_,_,_=>False
 |k+1,a,b,c,d,e,f,g,i,j,w=>oH Q (sF Q k) a b c d e f g i j w
def oI (Q:L3 (Value->WP))(R10:OA->L3 (ON->ON->L3 (Int->Int->WP)))(a b:OA)(c d:Nat)(e f:ON)(g:OA)(i j:Nat)(l m:Int)(w:World):Prop:=cond (decide (m<l)) (aK m i<|wA g λn=>af .i64 ((n.add (m.toNat*3)).add 0) w λo=>af .i64 ((n.add (m.toNat*3)).add 1) w λp=>aA ((n.add (m.toNat*3)).add 2) w λq r s=>Al T 211 w λt w=>St (t.add 0) (ae o) w λw=>St (t.add 1) (ae p) w λw=>St (t.add 2) (.slice q r s) w λw=>wA a λu=>bp (u.add 1) w.drew λv=>af .i64 t w.drew λx=>af .i64 (t.add 1) w.drew λy=>(vF v x y w.drew λz a1 b1 c1 d1 e1 f1 w=>Al T 213 w λg1 w=>w.cell? (t.add 1)=some (ae y)/\w.cell? t=some (ae x)/\w.cell? (u.add 1)=some (.pointer v)/\St (g1.add 0) (.slice z a1 b1) w λw=>St (g1.add 1) (.slice c1 d1 e1) w λw=>oG R10 Q a b c d e f t g1 f1 g i j l m w)/\(Al T 213 w.drew λi1 w=>w.cell? (t.add 1)=some (ae y)/\w.cell? t=some (ae x)/\w.cell? (u.add 1)=some (.pointer v)/\vF v x y w λj1 l1 m1 n1 o1 p1 q1 w=>St (i1.add 0) (.slice j1 l1 m1) w λw=>St (i1.add 1) (.slice n1 o1 p1) w λw=>oG R10 Q a b c d e f t i1 q1 g i j l m w)) (∃k',sF Q k' f none 0 0 b c d (c:Int) 0 w)
def oJ (Q:L3 (Value->WP)):Nat->OA->L3 (ON->ON->L3 (Int->Int->WP))
 |0,_,_,_,_,_,_,_,_,_,_,_,_=>False
 |k+1,a,b,c,d,e,f,g,i,j,l,m,w=>oI Q (oJ Q k) a b c d e f g i j l m w
def pT (Q:L3 (Value->WP))(R4:OA->L3 (Int->Int->ON->L3 (Int->Int->WP)))(a b:OA)(c d:Nat)(e f:Int)(g:ON)(i:OA)(j l:Nat)(m n:Int)(w:World):Prop:=cond (decide (n<m)) (aK n j<|wA i λo=>af .i64 ((o.add (n.toNat*3)).add 0) w λp=>af .i64 ((o.add (n.toNat*3)).add 1) w λq=>af .i64 ((o.add (n.toNat*3)).add 2) w λr=>Al T 43 w λs w=>St (s.add 0) (ae p) w λw=>St (s.add 1) (ae q) w λw=>St (s.add 2) (ae r) w λw=>af .i64 s w.drew λt=>af .i64 (s.add 1) w.drew λu=>nk e f u w.drew λv w=>w.cell? s=some (ae t)/\bI P (Instr.mapUpdate 207 (.map g) (ae t) (ae v)) w λw=>R4 a b c d e f g i j l m (IntKind.wrap .i64 (n+1)) w) (cM P 207 none w λx w=>ET e f b c d w λy z a1 w=>∃k',oJ Q k' a b c d g x y z a1 (z:Int) 0 w)
def uy (Q:L3 (Value->WP)):Nat->OA->L3 (Int->Int->ON->L3 (Int->Int->WP))
 |0,_,_,_,_,_,_,_,_,_,_,_,_,_=>False
 |k+1,a,b,c,d,e,f,g,i,j,l,m,n,w=>pT Q (uy Q k) a b c d e f g i j l m n w
noncomputable def lZ:cm:=[(6,sp 0 7 (.op 7 (.op 8 .done))),(12,sp 0 8 (.br (.op 8 (sp 9 3 (.op 12 (.op 13 (.op 14 .done))))) (.op 12 (.op 8 (sp 9 3 (.op 13 (.op 14 .done)))))))]
def QM {u6}(Q)(H10:Bk 104 Tryz.f93 (jh Q) 10 [(0,.p),(1,.l),(8,.m),(11,.m),(49,.l),(50,.i .i64),(51,.i .i64)] u6):∀k,Bk 104 Tryz.f93 (jh Q) 16 [(0,.p),(1,.l),(8,.m),(11,.m),(14,.a),(49,.l),(50,.i .i64),(51,.i .i64),(72,.l),(73,.i .i64),(74,.i .i64)] (sE u6 Q k):=bH λk h=>aS (ok 104) lZ [aO H10,aO h]
def QN {u6}(Q)(H10:Bk 104 Tryz.f93 (jh Q) 10 [(0,.p),(1,.l),(8,.m),(11,.m),(49,.l),(50,.i .i64),(51,.i .i64)] u6):Bk 104 Tryz.f93 (jh Q) 13 [(0,.p),(1,.l),(8,.m),(11,.m),(13,.a),(14,.a),(15,.i .i64),(49,.l),(50,.i .i64),(51,.i .i64)] (oG u6 Q):=aS (ok 104) lZ [cg (QM Q H10)]
def QO (Q):∀k,Bk 104 Tryz.f93 (jh Q) 23 [(11,.m),(18,.l),(89,.l),(90,.i .i64),(91,.i .i64)] (sF Q k):=bH λk h=>aS (ok 104) lZ [aO h]
def QS (Q):∀k,Bk 104 Tryz.f93 (jh Q) 10 [(0,.p),(1,.l),(8,.m),(11,.m),(49,.l),(50,.i .i64),(51,.i .i64)] (oJ Q k):=bH λk h=>aS (ok 104) lZ [aO (QN Q h),cg (QO Q)]
def SQ (Q):∀k,Bk 104 Tryz.f93 (jh Q) 4 [(0,.p),(1,.l),(6,.i .i64),(7,.i .i64),(8,.m),(30,.l),(31,.i .i64),(32,.i .i64)] (uy Q k):=bH λk h=>aS (ok 104) lZ [aO h,cg (QS Q)]
def OZ:=λa b c d w Q=>bB (xQ a b c d w Q) (wA a λe=>bp (e.add 1) w λf=>wY f w λg i w=>cM P 207 none w λj w=>∃k',uy Q k' a b c d g i j b c d (c:Int) 0 w) (ok 104) lZ [cg (SQ Q)] Tryz.func93
def Z4:=λa w Q=>bB (Ln a w Q) (cond (decide (a<0)) (Q true w) (Q (decide (a>5)) w)) (ok 9) [] [] Tryz.func153
def jS (Q:Int->WP)(R2:L3 (Value->Int->Int->WP))(a:OA)(b c:Nat)(d:Value)(e f:Int)(w:World):Prop:=cond (decide (f<e)) (aK f b<|wA a λg=>af .i64 (g.add (f.toNat*1)) w λi=>ik (cx 19) d [ae i] w λj w=>dB j λl=>cond l (Q f w) (R2 a b c d e (IntKind.wrap .i64 (f+1)) w)) (Q (-1) w)
def jT (Q:Int->WP):Nat->L3 (Value->Int->Int->WP)
 |0,_,_,_,_,_,_,_=>False
 |k+1,a,b,c,d,e,f,w=>jS Q (jT Q k) a b c d e f w
def H_ (Q):∀k,Bk 19 Tryz.f166 (yZ Q) 2 [(0,.l),(1,.v),(7,.i .i64),(8,.i .i64)] (jT Q k):=bH λk h=>aS (ok 19) [] [aO h]
def Gu:=λa b c d w Q=>bB (w9 a b c d w Q) (∃k',jT Q k' a b c d (b:Int) 0 w) (ok 19) [] [cg (H_ Q)] Tryz.func166
def Ea:=λa b c d w Q=>bB (nL a b c d w Q) (w9 a b c d w λe w=>Q (decide (e≥0)) w) (ok 9) [] [] Tryz.func154
def kJ (Q:Bool->WP)(a b:OA)(c:Int)(w:World):Prop:=wA a λd=>af .i64 d w.drew λe=>wA a λf=>af .i64 (f.add 1) w.drew λg=>wA b λi=>af .i64 (i.add 1) w.drew λj=>n7 e g j c w.drew λl w=>cond (decide (l<0)) (Q true w) (wA a λm=>cE (m.add 2) w λn=>aQ P (Instr.lookup 258 (.map n) (ae l) false) w λo w=>dB o λp=>cond p (Q true w) (wA a λq=>cE (q.add 2) w.drew λr=>wA b λs=>af .i64 (s.add 1) w.drew λt=>aQ P (Builtin.delete_ #[258,3] 0 [.map r,ae t].toArray) w.drew λu w=>wA b λv=>St (v.add 1) (ae l) w λw=>wA a λx=>aA (x.add 3) w.drew λy z a1=>wA b λb1=>af .i64 b1 w.drew λc1=>Bx [ae c1,ae l] 51 w.drew λd1 w=>w.cell? (x.add 3)=some (.slice y z a1)/\App P #[28,28] 28 (.slice y z a1) (.slice (some d1) 1 1) w λe1 f1 g1 w=>wA a λi1=>St (i1.add 3) (.slice e1 f1 g1) w λw=>wA b λj1=>af .i64 (j1.add 2) w λl1=>cond (l==l1) (wA a λm1=>aA (m1.add 4) w.drew λn1 o1 p1=>wA b λq1=>af .i64 q1 w.drew λr1=>Bx [ae r1] 3 w.drew λs1 w=>w.cell? (m1.add 4)=some (.slice n1 o1 p1)/\App P #[29,29] 29 (.slice n1 o1 p1) (.slice (some s1) 1 1) w λt1 u1 v1 w=>wA a λx1=>St (x1.add 4) (.slice t1 u1 v1) w λw=>Q false w) (wA a λy1=>cE (y1.add 2) w λz1=>bI P (Instr.mapUpdate 258 (.map z1) (ae l) (.bool true)) w λw=>Q true w)))
noncomputable def FG:cm:=[(6,sp 0 13 (.op 13 (.op 14 .done))),(9,sp 0 8 (.op 8 .done)),(11,sp 0 11 (.op 11 (.op 12 (sp 13 2 (.op 15 .done))))),(13,sp 0 9 (.op 9 (.op 10 (sp 11 2 (.op 13 .done)))))]
def SR (Q):Bk 92 Tryz.f155 (Gk Q) 6 [(0,.p),(1,.p),(2,.i .i64)] (kJ Q):=aS (ok 92) FG []
def O0:=λa b c w Q=>bB (xV a b c w Q) (cond (c==0) (kJ Q a b c w) (cond (c==1) (kJ Q a b c w) (cond (c==2) (kJ Q a b c w) (cond (c==3) (kJ Q a b c w) (Q true w))))) (ok 92) FG [aO (SR Q)] Tryz.func155
def AS (Q:L3 (L3 (L3 (Int->WP))))(R11:L3 (L3 (Addr->L3 (Int->Int->WP))))(a:OA)(b c:Nat)(d:OA)(e f:Nat)(g:Addr)(i:OA)(j l:Nat)(m n:Int)(w:World):Prop:=cond (decide (n<m)) (aK n j<|wA i λo=>af .i64 ((o.add (n.toNat*3)).add 0) w λp=>af .i64 ((o.add (n.toNat*3)).add 1) w λq=>af .i64 ((o.add (n.toNat*3)).add 2) w λr=>Al T 43 w λs w=>St (s.add 0) (ae p) w λw=>St (s.add 1) (ae q) w λw=>St (s.add 2) (ae r) w λw=>aK n b<|wA a λt=>af .i64 (t.add (n.toNat*1)) w λu=>xV (some g) (some s) u w λv w=>cond v (af .i64 (s.add 0) w λx=>af .i64 (s.add 1) w λy=>af .i64 (s.add 2) w λz=>Bx [ae x,ae y,ae z] 43 w λa1 w=>App P #[39,39] 39 (.slice d e f) (.slice (some a1) 1 1) w λb1 c1 d1 w=>R11 a b c b1 c1 d1 g i j l m (IntKind.wrap .i64 (n+1)) w) (R11 a b c d e f g i j l m (IntKind.wrap .i64 (n+1)) w)) (aA (g.add 3) w.drew λe1 f1 g1=>aA (g.add 4) w.drew λi1 j1 l1=>w.drew.cell? (g.add 4)=some (.slice i1 j1 l1)/\w.drew.cell? (g.add 3)=some (.slice e1 f1 g1)/\w.drew.cell? (g.add 4)=some (.slice i1 j1 l1)/\Q d e f e1 f1 g1 i1 j1 l1 0 w.drew)
def Ey (Q:L3 (L3 (L3 (Int->WP)))):Nat->L3 (L3 (Addr->L3 (Int->Int->WP)))
 |0,_,_,_,_,_,_,_,_,_,_,_,_,_=>False
 |k+1,a,b,c,d,e,f,g,i,j,l,m,n,w=>AS Q (Ey Q k) a b c d e f g i j l m n w
def Cn (Q:L3 (L3 (L3 (Int->WP))))(R6:L3 (L3 (L3 (Addr->L3 (Int->Int->WP)))))(a:OA)(b c:Nat)(d:OA)(e f:Nat)(g:OA)(i j:Nat)(l:Addr)(m:OA)(n o:Nat)(p q:Int)(w:World):Prop:=cond (decide (q<p)) (aK q n<|wA m λr=>af .i64 ((r.add (q.toNat*3)).add 0) w λs=>af .i64 ((r.add (q.toNat*3)).add 1) w λt=>af .i64 ((r.add (q.toNat*3)).add 2) w λu=>Al T 43 w λv w=>St (v.add 0) (ae s) w λw=>St (v.add 1) (ae t) w λw=>St (v.add 2) (ae u) w λw=>cE (l.add 2) w.drew λx=>af .i64 (v.add 1) w.drew λy=>bI P (Instr.mapUpdate 258 (.map x) (ae y) (.bool true)) w.drew λw=>R6 a b c d e f g i j l m n o p (IntKind.wrap .i64 (q+1)) w) (∃k',Ey Q k' d e f g i j l a b c (b:Int) 0 w)
def Gv (Q:L3 (L3 (L3 (Int->WP)))):Nat->L3 (L3 (L3 (Addr->L3 (Int->Int->WP))))
 |0,_,_,_,_,_,_,_,_,_,_,_,_,_,_,_,_=>False
 |k+1,a,b,c,d,e,f,g,i,j,l,m,n,o,p,q,w=>Cn Q (Gv Q k) a b c d e f g i j l m n o p q w
noncomputable def JR:cm:=[(8,sp 0 6 (.op 6 .done)),(16,sp 0 9 (.op 9 (.op 10 (.op 11 (.op 12 .done)))))]
def agJ (Q):∀k,Bk 82 Tryz.f135 (Lm Q) 11 [(3,.l),(8,.l),(13,.a),(55,.l),(56,.i .i64),(57,.i .i64)] (Ey Q k):=bH λk h=>aS (ok 82) JR [aO h]
def aik (Q):∀k,Bk 82 Tryz.f135 (Lm Q) 6 [(2,.l),(3,.l),(8,.l),(13,.a),(42,.l),(43,.i .i64),(44,.i .i64)] (Gv Q k):=bH λk h=>aS (ok 82) JR [aO h,cg (agJ Q)]
def adZ:=λa b c d e f g i w Q=>bB (HQ a b c d e f g i w Q) (CQ a b c d e w λj w=>cond (!j) (Q none 0 0 none 0 0 none 0 0 1 w) (cond ((g:Int) !=(d:Int)) (Q none 0 0 none 0 0 none 0 0 1 w) (nL f g i (.func (.func 153) #[] #[]) w λl w=>cond l (Q none 0 0 none 0 0 none 0 0 1 w) (cM P 258 (some (ae (d:Int))) w λm w=>Bx [ae a,ae b,.map m,.slice none 0 0,.slice none 0 0] 260 w λn w=>∃k',Gv Q k' c d e f g i none 0 0 n c d e (d:Int) 0 w)))) (ok 82) JR [cg (aik Q)] Tryz.func135
def M5:=λa b c w Q=>bB (wu a b c w Q) (lW a b w λd w=>cond (d==(-1)) (Q false w) (rB a c w λe w=>cond (!e) (Q false w) (rA a b w λf w=>sj a c f w λg w=>Q g w))) (ok 23) [] [] Tryz.func136
def LI:=λa b w Q=>bB (B3 a b w Q) (wA b λc=>af .i64 c w λd=>wA a λe=>St (e.add 1) (ae d) w λw=>Q w) (ok 7) [] [] Tryz.func156
def O1:=λa b c w Q=>bB (xU a b c w Q) (Bx [ae c] 3 w λd w=>sq a b (.func (.func 156) #[] #[.pointer (some d)]) w λe w=>Q e w) (ok 11) [] [] Tryz.func137
def l6 (P7:OA->L3 (L3 (L3 (Int->Int->WP))))(Q:L3 (L3 (Int->WP)))(a b:OA)(c d:Nat)(e:OA)(f g:Nat)(i j:Addr)(l:OA)(m n:Nat)(o p:Int)(w:World):Prop:=af .i64 (i.add 1) w λq=>af .i64 (j.add 2) w λr=>cond (q==r) (af .i64 (j.add 0) w λs=>af .i64 (j.add 1) w λt=>af .i64 (j.add 2) w λu=>nK a s t u w λw=>P7 a b c d e f g l m n o (IntKind.wrap .i64 (p+1)) w) (wA a λv=>bp (v.add 4) w.drew λx=>af .i64 (j.add 1) w.drew λy=>af .i64 (i.add 1) w.drew λz=>wu x y z w.drew λa1 w=>wA a λb1=>bp (b1.add 3) w.drew λc1=>af .i64 i w.drew λd1=>af .i64 (i.add 1) w.drew λe1=>xU c1 d1 e1 w.drew λf1 w=>P7 a b c d e f g l m n o (IntKind.wrap .i64 (p+1)) w)
def pU (Q:L3 (L3 (Int->WP)))(R7:OA->L3 (L3 (L3 (Int->Int->WP))))(a b:OA)(c d:Nat)(e:OA)(f g:Nat)(i:OA)(j l:Nat)(m n:Int)(w:World):Prop:=cond (decide (n<m)) (aK n j<|wA i λo=>af .i64 ((o.add (n.toNat*2)).add 0) w λp=>af .i64 ((o.add (n.toNat*2)).add 1) w λq=>Al T 51 w λr w=>St (r.add 0) (ae p) w λw=>St (r.add 1) (ae q) w λw=>wA a λs=>bp (s.add 3) w.drew λt=>af .i64 r w.drew λu=>(iQ t u w.drew λv x y z w=>Al T 43 w λa1 w=>w.cell? r=some (ae u)/\w.cell? (s.add 3)=some (.pointer t)/\St (a1.add 0) (ae v) w λw=>St (a1.add 1) (ae x) w λw=>St (a1.add 2) (ae y) w λw=>l6 R7 Q a b c d e f g r a1 i j l m n w)/\(Al T 43 w.drew λb1 w=>w.cell? r=some (ae u)/\w.cell? (s.add 3)=some (.pointer t)/\iQ t u w λc1 d1 e1 f1 w=>St (b1.add 0) (ae c1) w λw=>St (b1.add 1) (ae d1) w λw=>St (b1.add 2) (ae e1) w λw=>l6 R7 Q a b c d e f g r b1 i j l m n w)) (Q b c d e f g 0 w)
def pV (Q:L3 (L3 (Int->WP))):Nat->OA->L3 (L3 (L3 (Int->Int->WP)))
 |0,_,_,_,_,_,_,_,_,_,_,_,_,_=>False
 |k+1,a,b,c,d,e,f,g,i,j,l,m,n,w=>pU Q (pV Q k) a b c d e f g i j l m n w
noncomputable def zx:cm:=[(3,sp 0 9 (.op 10 (.op 9 (.op 11 (sp 12 5 (.op 17 (.op 18 (.op 19 .done)))))))),(9,sp 0 6 (.br (.op 6 (sp 7 3 (.op 10 (.op 11 (.op 12 .done))))) (.op 10 (.op 6 (sp 7 3 (.op 11 (.op 12 .done))))))),(12,sp 0 8 (.op 8 .done)),(13,sp 0 8 (.op 8 .done))]
def QT {P7}(Q)(H7:Bk 78 Tryz.f94 (tT Q) 7 [(0,.p),(4,.l),(5,.l),(33,.l),(34,.i .i64),(35,.i .i64)] P7):Bk 78 Tryz.f94 (tT Q) 10 [(0,.p),(4,.l),(5,.l),(8,.a),(9,.a),(33,.l),(34,.i .i64),(35,.i .i64)] (l6 P7 Q):=aS (ok 78) zx [aO H7]
def SS (Q):∀k,Bk 78 Tryz.f94 (tT Q) 7 [(0,.p),(4,.l),(5,.l),(33,.l),(34,.i .i64),(35,.i .i64)] (pV Q k):=bH λk h=>aS (ok 78) zx [aO (QT Q h)]
def O2:=λa b c d w Q=>bB (xR a b c d w Q) (cond a.isNone (Q none 0 0 none 0 0 1 w) (wA a λe=>af .i64 e w.drew λf=>wA a λg=>af .i64 (g.add 1) w.drew λi=>m7 a w.drew λj l m w=>w.cell? (g.add 1)=some (ae i)/\w.cell? e=some (ae f)/\HQ f i j l m b c d w λn o p q r s t u v x w=>cond (x !=0) (Q none 0 0 none 0 0 x w) (∃k',pV Q k' a q r s t u v q r s (r:Int) 0 w))) (ok 78) zx [cg (SS Q)] Tryz.func94
def O3:=λa b w Q=>bB (xO a b w Q) (wA a λc=>bp (c.add 2) w λd=>m7 d w λe f g w=>xQ a e f g w λi j l m w=>BM m λn=>cond (!n) (dV m λo=>Q o w) (wA a λp=>bp (p.add 2) w λq=>xR q i j l w λr s t u v x y w=>wA b λz=>St (z.add 4) (.slice r s t) w λw=>wA b λa1=>St (a1.add 5) (.slice u v x) w λw=>gm y w λb1 w=>dV b1 λc1=>Q c1 w)) (ok 43) [] [] Tryz.func58
def fy (Q:Value->WP)(a:Value)(w:World):Prop:=dV a λb=>Q b w
def oK (Q:Value->WP)(a b:OA)(c:Addr)(w:World):Prop:=af .i64 (c.add 0) w λd=>af .i64 (c.add 1) w λe=>af .i64 (c.add 2) w λf=>aA (c.add 3) w λg i j=>we a d e f g i j w λl w=>BM l λm=>cond (!m) (dV l λn=>Q n w) (af .i64 c w λo=>cond (o==1) (aA (c.add 3) w λp q r=>xM a p q r w λs w=>fy Q s w) (cond (o==8) (wA a λt=>bp (t.add 1) w λu=>vC u w λw=>fy Q l w) (cond (o==2) (af .i64 (c.add 1) w λv=>af .i64 (c.add 2) w λx=>xN a v x w λy w=>fy Q y w) (cond (o==3) (af .i64 (c.add 1) w λz=>af .i64 (c.add 2) w λa1=>wg a z a1 w λb1 c1 w=>wA b λd1=>St (d1.add 3) (ae b1) w λw=>fy Q c1 w) (cond (o==4) (wA a λe1=>bp (e1.add 2) w.drew λf1=>af .i64 (c.add 1) w.drew λg1=>af .i64 (c.add 2) w.drew λi1=>sS f1 g1 i1 w.drew λj1 w=>gm j1 w λl1 w=>fy Q l1 w) (cond (o==5) (wA a λm1=>bp (m1.add 2) w.drew λn1=>af .i64 (c.add 1) w.drew λo1=>tQ n1 o1 w.drew λp1 w=>gm p1 w λq1 w=>fy Q q1 w) (cond (o==6) (af .i64 (c.add 1) w λr1=>af .i64 (c.add 2) w λs1=>wj a b r1 s1 w λt1 w=>fy Q t1 w) (cond (o==7) (xO a b w λu1 w=>fy Q u1 w) (fy Q l w)))))))))
noncomputable def Bd:cm:=[(18,sp 0 8 (.op 8 (.op 9 (.op 10 .done)))),(20,sp 0 6 (.op 6 (.op 7 (.op 8 .done))))]
def U0 (Q):Bk 114 Tryz.f28 (BX Q) 25 [(6,.v)] (fy Q):=aS (ok 114) Bd []
def Wd (Q):Bk 114 Tryz.f28 (BX Q) 5 [(0,.p),(2,.p),(4,.a)] (oK Q):=aS (ok 114) Bd [aO (U0 Q)]
def SU:=λa b c d e f g i w Q=>bB (z0 a b c d e f g i w Q) (Bx [ae b,ae c,ae d,.slice e f g] 38 w λj w=>af .i64 j w λl=>cond (l==0) (cw (aZ 0) w λm=>dV m λn=>Q n w) (af .i64 (j.add 0) w λo=>af .i64 (j.add 1) w λp=>af .i64 (j.add 2) w λq=>aA (j.add 3) w λr s t=>Lh o p q r s t w λu w=>cond (!u) (cw (aZ 0) w λv=>dV v λx=>Q x w) (wA a λy=>bp (y.add 2) w λz=>cond z.isNone (af .i64 j w λa1=>cond (a1 !=1) (af .i64 j w λb1=>cond (b1 !=8) (Q (.iface 108 (ae 4)) w) (oK Q a i j w)) (oK Q a i j w)) (oK Q a i j w)))) (ok 114) Bd [aO (Wd Q)] Tryz.func28
def ad0:=λa w Q=>bB (CP a w Q) (Al T 108 w λb w=>cw (aZ 0) w λc=>pF a c w λd w=>cond d (Q 5 w) (nA a (.iface 120 (.pointer (some b))) w λe w=>cond e (af .i64 b w λf=>Q f w) (Q 0 w))) (ok 13) [] [] Tryz.func29
def oL (Q:Int->Int->Int->Int->L3 (L3 (Int->Int->Int->Int->Int->Int->WP)))(a:OA)(b c:Addr)(w:World):Prop:=v9 a w λd e f g i j w=>St ((c.add 6).add 0) (.int .u64 d) w λw=>St ((c.add 6).add 1) (.int .u64 e) w λw=>St ((c.add 6).add 2) (.int .u64 f) w λw=>St ((c.add 6).add 3) (.int .u64 g) w λw=>St ((c.add 6).add 4) (.int .u64 i) w λw=>St ((c.add 6).add 5) (.int .u64 j) w λw=>af .i64 (c.add 0) w λl=>af .i64 (c.add 1) w λm=>af .i64 (c.add 2) w λn=>af .i64 (c.add 3) w λo=>aA (c.add 4) w λp q r=>aA (c.add 5) w λs t u=>af .u64 (c.add 6) w λv=>af .u64 (c.add 7) w λx=>af .u64 (c.add 8) w λy=>af .u64 (c.add 9) w λz=>af .u64 (c.add 10) w λa1=>af .u64 (c.add 11) w λb1=>St (b.add 0) (ae l) w λw=>St (b.add 1) (ae m) w λw=>St (b.add 2) (ae n) w λw=>St (b.add 3) (ae o) w λw=>St (b.add 4) (.slice p q r) w λw=>St (b.add 5) (.slice s t u) w λw=>St (b.add 6) (.int .u64 v) w λw=>St (b.add 7) (.int .u64 x) w λw=>St (b.add 8) (.int .u64 y) w λw=>St (b.add 9) (.int .u64 z) w λw=>St (b.add 10) (.int .u64 a1) w λw=>St (b.add 11) (.int .u64 b1) w λw=>af .i64 (b.add 0) w λc1=>af .i64 (b.add 1) w λd1=>af .i64 (b.add 2) w λe1=>af .i64 (b.add 3) w λf1=>aA (b.add 4) w λg1 i1 j1=>aA (b.add 5) w λl1 m1 n1=>af .u64 (b.add 6) w λo1=>af .u64 (b.add 7) w λp1=>af .u64 (b.add 8) w λq1=>af .u64 (b.add 9) w λr1=>af .u64 (b.add 10) w λs1=>af .u64 (b.add 11) w λt1=>Q c1 d1 e1 f1 g1 i1 j1 l1 m1 n1 o1 p1 q1 r1 s1 t1 w
def We (Q):Bk 29 Tryz.f12 (I3 Q) 8 [(0,.p),(4,.a),(5,.a)] (oL Q):=aS (ok 29) [] []
def SV:=λa b c d e f g w Q=>bB (gz a b c d e f g w Q) (Bx [ae b,ae c,ae d,.slice e f g] 38 w λi w=>Al T 34 w λj w=>Al T 34 w λl w=>St (l.add 0) (ae 5) w λw=>St (l.add 1) (ae 0) w λw=>St (l.add 2) (ae 5) w λw=>St (l.add 3) (ae (-1)) w λw=>St (l.add 4) (.slice none 0 0) w λw=>St (l.add 5) (.slice none 0 0) w λw=>St (l.add 6) (.int .u64 0) w λw=>St (l.add 7) (.int .u64 0) w λw=>St (l.add 8) (.int .u64 0) w λw=>St (l.add 9) (.int .u64 0) w λw=>St (l.add 10) (.int .u64 0) w λw=>St (l.add 11) (.int .u64 0) w λw=>cond a.isNone (af .i64 (l.add 0) w λm=>af .i64 (l.add 1) w λn=>af .i64 (l.add 2) w λo=>af .i64 (l.add 3) w λp=>aA (l.add 4) w λq r s=>aA (l.add 5) w λt u v=>af .u64 (l.add 6) w λx=>af .u64 (l.add 7) w λy=>af .u64 (l.add 8) w λz=>af .u64 (l.add 9) w λa1=>af .u64 (l.add 10) w λb1=>af .u64 (l.add 11) w λc1=>St (j.add 0) (ae m) w λw=>St (j.add 1) (ae n) w λw=>St (j.add 2) (ae o) w λw=>St (j.add 3) (ae p) w λw=>St (j.add 4) (.slice q r s) w λw=>St (j.add 5) (.slice t u v) w λw=>St (j.add 6) (.int .u64 x) w λw=>St (j.add 7) (.int .u64 y) w λw=>St (j.add 8) (.int .u64 z) w λw=>St (j.add 9) (.int .u64 a1) w λw=>St (j.add 10) (.int .u64 b1) w λw=>St (j.add 11) (.int .u64 c1) w λw=>af .i64 (j.add 0) w λd1=>af .i64 (j.add 1) w λe1=>af .i64 (j.add 2) w λf1=>af .i64 (j.add 3) w λg1=>aA (j.add 4) w λi1 j1 l1=>aA (j.add 5) w λm1 n1 o1=>af .u64 (j.add 6) w λp1=>af .u64 (j.add 7) w λq1=>af .u64 (j.add 8) w λr1=>af .u64 (j.add 9) w λs1=>af .u64 (j.add 10) w λt1=>af .u64 (j.add 11) w λu1=>Q d1 e1 f1 g1 i1 j1 l1 m1 n1 o1 p1 q1 r1 s1 t1 u1 w) (St l (ae 0) w λw=>af .i64 (i.add 0) w λv1=>af .i64 (i.add 1) w λx1=>af .i64 (i.add 2) w λy1=>aA (i.add 3) w λz1 a2 b2=>z0 a v1 x1 y1 z1 a2 b2 (some l) w λc2 w=>BM c2 λd2=>cond (!d2) (af .i64 i w λe2=>dV c2 λf2=>Bx [ae e2,f2] 80 w λg2 w=>CP (.iface 78 (.pointer (some g2))) w λi2 w=>St l (ae i2) w λw=>oL Q a j l w) (oL Q a j l w))) (ok 29) [] [aO (We Q)] Tryz.func12
def QU:=λa b c w Q=>bB (lV a b c w Q) (cond (decide (a≥b)) (Q (decide (a<=c)) w) (Q false w)) (ok 15) [] [] Tryz.func101
def O4:=λa b w Q=>bB (xP a b w Q) (lV a 1 1024 w λc w=>cond c (lV b 1 1024 w λd w=>Q d w) (Q false w)) (ok 11) [] [] Tryz.func65
def JS:=λa b w Q=>bB (kO a b w Q) (xP a b w λc w=>cond (!c) (Q 0 0 w) (NZ 16<|NZ 16<|Q (IntKind.wrap .i64 (Int.tdiv (IntKind.wrap .i64 ((IntKind.wrap .i64 (a+16))-1)) 16)) (IntKind.wrap .i64 (Int.tdiv (IntKind.wrap .i64 ((IntKind.wrap .i64 (b+16))-1)) 16)) w)) (ok 18) [] [] Tryz.func44
def LJ:=λa b w Q=>bB (pD a b w Q) (kO a b w λc d w=>Q (IntKind.wrap .i64 (c*d)) w) (ok 16) [] [] Tryz.func23
def sG (P3:L3 (L3 (Int->WP)))(Q:L3 WP)(a:OA)(b c:Nat)(d:OA)(e f:Nat)(g i:Int)(w:World):Prop:=aK g b<|wA a λj=>af .u8 (j.add (g.toNat*1)) w λl=>Bx [.int .u8 (IntKind.wrap .u8 (IntKind.wrap .i64 (i-1))),.int .u8 l] 5 w λm w=>App P #[22,22] 22 (.slice d e f) (.slice (some m) 2 2) w λn o p w=>P3 a b c n o p (IntKind.wrap .i64 (g+i)) w
def oM (P3:L3 (L3 (Int->WP)))(Q:L3 WP)(R5:L3 (L3 (Int->Int->WP)))(a:OA)(b c:Nat)(d:OA)(e f:Nat)(g i:Int)(w:World):Prop:=cond (decide ((IntKind.wrap .i64 (g+i))<(b:Int))) (aK (IntKind.wrap .i64 (g+i)) b<|wA a λj=>af .u8 (j.add (((IntKind.wrap .i64 (g+i))).toNat*1)) w.drew λl=>aK g b<|wA a λm=>af .u8 (m.add (g.toNat*1)) w.drew λn=>cond (l==n) (R5 a b c d e f g (IntKind.wrap .i64 (i+1)) w.drew) (sG P3 Q a b c d e f g i w.drew)) (sG P3 Q a b c d e f g i w.drew)
def l7 (P3:L3 (L3 (Int->WP)))(Q:L3 WP):Nat->L3 (L3 (Int->Int->WP))
 |0,_,_,_,_,_,_,_,_,_=>False
 |k+1,a,b,c,d,e,f,g,i,w=>oM P3 Q (l7 P3 Q k) a b c d e f g i w
def oN (Q:L3 WP)(R3:L3 (L3 (Int->WP)))(a:OA)(b c:Nat)(d:OA)(e f:Nat)(g:Int)(w:World):Prop:=cond (decide (g<(b:Int))) (∃k',l7 R3 Q k' a b c d e f g 1 w) (Q d e f w)
def oO (Q:L3 WP):Nat->L3 (L3 (Int->WP))
 |0,_,_,_,_,_,_,_,_=>False
 |k+1,a,b,c,d,e,f,g,w=>oN Q (oO Q k) a b c d e f g w
noncomputable def rE:cm:=[(5,sp 0 19 .done)]
def QV {P3}(Q)(H3:Bk 46 Tryz.f61 (lU Q) 3 [(0,.l),(3,.l),(4,.i .i64)] P3):Bk 46 Tryz.f61 (lU Q) 7 [(0,.l),(3,.l),(4,.i .i64),(5,.i .i64)] (sG P3 Q):=aS (ok 46) rE [aO H3]
def QW {P3}(Q)(H3:Bk 46 Tryz.f61 (lU Q) 3 [(0,.l),(3,.l),(4,.i .i64)] P3):∀k,Bk 46 Tryz.f61 (lU Q) 5 [(0,.l),(3,.l),(4,.i .i64),(5,.i .i64)] (l7 P3 Q k):=bH λk h=>aS (ok 46) rE [aO h,aO (QV Q H3)]
def QX (Q):∀k,Bk 46 Tryz.f61 (lU Q) 3 [(0,.l),(3,.l),(4,.i .i64)] (oO Q k):=bH λk h=>aS (ok 46) rE [cg (QW Q h)]
def M6:=λa b c w Q=>bB (wk a b c w Q) (Bx [.int .u8 2] 5 w λd w=>∃k',oO Q k' a b c (some d) 1 1 0 w) (ok 46) rE [cg (QX Q)] Tryz.func61
noncomputable def Kw:cm:=[(3,sp 0 4 (.br (.op 4 (.op 5 (.op 6 .done))) (.op 5 (.op 4 (.op 6 .done)))))]
def JT:=λa b c d e w Q=>bB (sR a b c d e w Q) (Bx [ae a,ae b,.slice c d e] 84 w λf w=>aA (f.add 2) w λg i j=>wk g i j w λl m n w=>cond ((m:Int)==3) (aA (f.add 2) w.drew λo p q=>aK 0 p<|wA o λr=>af .u8 (r.add (((0:Int).toNat)*1)) w.drew λs=>(Bx [.int .u8 0,.int .u8 s] 5 w.drew λt w=>w.cell? (r.add (((0:Int).toNat)*1))=some (.int .u8 s)/\w.cell? (f.add 2)=some (.slice o p q)/\Q 0 (some t) 2 2 w)/\(w.drew.cell? (r.add (((0:Int).toNat)*1))=some (.int .u8 s)/\w.drew.cell? (f.add 2)=some (.slice o p q)/\Bx [.int .u8 0,.int .u8 s] 5 w.drew λu w=>Q 0 (some u) 2 2 w)) (aA (f.add 2) w λv x y=>cond (decide ((m:Int)<(IntKind.wrap .i64 (1+(x:Int))))) (Q 2 l m n w) (Bx [.int .u8 1] 5 w λz w=>aA (f.add 2) w λa1 b1 c1=>App P #[22,22] 22 (.slice (some z) 1 1) (.slice a1 b1 c1) w λd1 e1 f1 w=>Q 1 d1 e1 f1 w))) (ok 28) Kw [] Tryz.func30
noncomputable def O5:cm:=[(4,sp 0 14 (.op 14 (.op 15 .done)))]
def M7:=λa b c w Q=>bB (qv a b c w Q) (pD a b w λd w=>lV c 0 (IntKind.wrap .i64 (d-1)) w λe w=>cond (!e) (Q 0 0 w) (kO a b w λf g w=>NZ f<|NZ f<|Q (Dy 16 (IntKind.wrap .i64 (a-(IntKind.wrap .i64 (16*(Int.tmod c f)))))) (Dy 16 (IntKind.wrap .i64 (b-(IntKind.wrap .i64 (16*(IntKind.wrap .i64 (Int.tdiv c f))))))) w.drew)) (ok 37) O5 [] Tryz.func62
noncomputable def LK:cm:=[(5,sp 0 19 (.op 19 .done))]
def Kx:=λa b c d w Q=>bB (tR a b c d w Q) (qv a b c w λe f w=>lV d 0 (IntKind.wrap .i64 ((IntKind.wrap .i64 (e*f))-1)) w λg w=>cond (!g) (Q (-1) w) (kO a b w λi j w=>NZ i<|NZ e<|NZ i<|NZ e<|Q (IntKind.wrap .i64 ((IntKind.wrap .i64 ((IntKind.wrap .i64 ((IntKind.wrap .i64 ((IntKind.wrap .i64 (16*(IntKind.wrap .i64 (Int.tdiv c i))))+(IntKind.wrap .i64 (Int.tdiv d e))))*a))+(IntKind.wrap .i64 (16*(Int.tmod c i)))))+(Int.tmod d e))) w.drew)) (ok 52) LK [] Tryz.func63
def nf (Q:Int->Int->L3 WP)(R4:Int->Addr->Addr->Int->Int->Addr->Int->WP)(a:Int)(b c:Addr)(d e:Int)(f:Addr)(g:Int)(w:World):Prop:=cond (decide (g<(IntKind.wrap .i64 (d*e)))) (aA (f.add 2) w.drew λi j l=>aA (b.add 2) w.drew λm n o=>af .i64 b w.drew λp=>af .i64 (b.add 1) w.drew λq=>tR p q a g w.drew λr w=>w.cell? (b.add 2)=some (.slice m n o)/\w.cell? (f.add 2)=some (.slice i j l)/\(aK r n<|wA m λs=>af .u8 (s.add (r.toNat*1)) w λt=>Bx [.int .u8 t] 5 w λu w=>w.cell? (f.add 2)=some (.slice i j l)/\App P #[22,22] 22 (.slice i j l) (.slice (some u) 1 1) w λv x y w=>St (f.add 2) (.slice v x y) w λw=>R4 a b c d e f (IntKind.wrap .i64 (g+1)) w)) (af .i64 (f.add 0) w λz=>af .i64 (f.add 1) w λa1=>aA (f.add 2) w λb1 c1 d1=>St (c.add 0) (ae z) w λw=>St (c.add 1) (ae a1) w λw=>St (c.add 2) (.slice b1 c1 d1) w λw=>af .i64 (c.add 0) w λe1=>af .i64 (c.add 1) w λf1=>aA (c.add 2) w λg1 i1 j1=>Q e1 f1 g1 i1 j1 w)
def kA (Q:Int->Int->L3 WP):Nat->Int->Addr->Addr->Int->Int->Addr->Int->WP
 |0,_,_,_,_,_,_,_,_=>False
 |k+1,a,b,c,d,e,f,g,w=>nf Q (kA Q k) a b c d e f g w
noncomputable def Co:cm:=[(6,sp 0 10 (.op 10 (sp 11 2 (.op 13 (.op 14 (.op 15 (.op 16 .done)))))))]
def M8 (Q):∀k,Bk 45 Tryz.f31 (Dk Q) 4 [(1,.i .i64),(2,.a),(4,.a),(5,.i .i64),(6,.i .i64),(7,.a),(8,.i .i64)] (kA Q k):=bH λk h=>aS (ok 45) Co [aO h]
def Ky:=λa b c d e f w Q=>bB (tP a b c d e f w Q) (Bx [ae a,ae b,.slice c d e] 25 w λg w=>Al T 84 w λi w=>af .i64 g w λj=>af .i64 (g.add 1) w λl=>qv j l f w λm n w=>Al T 84 w λo w=>St (o.add 0) (ae m) w λw=>St (o.add 1) (ae n) w λw=>St (o.add 2) (.slice none 0 0) w λw=>∃k',kA Q k' f g i m n o 0 w) (ok 45) Co [cg (M8 Q)] Tryz.func31
def wF (Q:L3 WP)(R3:Addr->L3 (Int->WP))(a:Addr)(b:OA)(c d:Nat)(e:Int)(w:World):Prop:=af .i64 a w λf=>af .i64 (a.add 1) w λg=>pD f g w λi w=>cond (decide (e<i)) (af .i64 (a.add 0) w λj=>af .i64 (a.add 1) w λl=>aA (a.add 2) w λm n o=>tP j l m n o e w λp q r s t w=>sR p q r s t w λu v x y w=>App P #[22,22] 22 (.slice b c d) (.slice v x y) w λz a1 b1 w=>R3 a z a1 b1 (IntKind.wrap .i64 (e+1)) w) (Q b c d w)
def kB (Q:L3 WP):Nat->Addr->L3 (Int->WP)
 |0,_,_,_,_,_,_=>False
 |k+1,a,b,c,d,e,w=>wF Q (kB Q k) a b c d e w
def M9 (Q):∀k,Bk 42 Tryz.f13 (Dj Q) 3 [(1,.a),(3,.l),(4,.i .i64)] (kB Q k):=bH λk h=>aS (ok 42) [] [aO h]
def Kz:=λa b c d e w Q=>bB (lG a b c d e w Q) (Bx [ae a,ae b,.slice c d e] 25 w λf w=>af .i64 f w λg=>af .i64 f w λi=>DW 8<|af .i64 (f.add 1) w λj=>af .i64 (f.add 1) w λl=>DW 8<|Bx [.int .u8 (IntKind.wrap .u8 g),.int .u8 (IntKind.wrap .u8 (o_ .i64 i 8)),.int .u8 (IntKind.wrap .u8 j),.int .u8 (IntKind.wrap .u8 (o_ .i64 l 8))] 5 w λm w=>∃k',kB Q k' f (some m) 4 4 0 w) (ok 42) [] [cg (M9 Q)] Tryz.func13
def QY:=λa w Q=>bB (Fo a w Q) (cond a.isNone (Q none w) (wA a λb=>bp (b.add 2) w λc=>Q c w)) (ok 9) [] [] Tryz.func32
def M_:=λa w Q=>bB (i_ a w Q) (Fo a w λb w=>m7 b w λc d e w=>Q c d e w) (ok 6) [] [] Tryz.func14
def ng (Q:Bool->WP)(R4:L3 (L3 (Int->WP)))(a:OA)(b c:Nat)(d:OA)(e f:Nat)(g:Int)(w:World):Prop:=cond (decide (g<(b:Int))) (aK g b<|wA a λi=>af .i64 ((i.add (g.toNat*2)).add 0) w.drew λj=>af .i64 ((i.add (g.toNat*2)).add 1) w.drew λl=>aK g e<|wA d λm=>af .i64 ((m.add (g.toNat*2)).add 0) w.drew λn=>af .i64 ((m.add (g.toNat*2)).add 1) w.drew λo=>bZ P .neq 51 (.tmp 20) (.tmp 24) (.agg #[ae j,ae l]) (.agg #[ae n,ae o]) w.drew λp w=>cond p (Q false w) (R4 a b c d e f (IntKind.wrap .i64 (g+1)) w)) (Q true w)
def kC (Q:Bool->WP):Nat->L3 (L3 (Int->WP))
 |0,_,_,_,_,_,_,_,_=>False
 |k+1,a,b,c,d,e,f,g,w=>ng Q (kC Q k) a b c d e f g w
noncomputable def Cp:cm:=[(6,sp 0 8 (.op 8 .done))]
def Na (Q):∀k,Bk 26 Tryz.f34 (Dl Q) 4 [(0,.l),(1,.l),(5,.i .i64)] (kC Q k):=bH λk h=>aS (ok 26) Cp [aO h]
def KB:=λa b c d e f w Q=>bB (oV a b c d e f w Q) (cond ((b:Int) !=(e:Int)) (Q false w) (∃k',kC Q k' a b c d e f 0 w)) (ok 26) Cp [cg (Na Q)] Tryz.func34
def Nb:=λw Q=>bB (qq w Q) (wL 1 2 w λa w=>cond a.isNone (Q false w) (Bx [.int .u8 5,.int .u8 2,.int .u8 9] 5 w λb w=>Al T 25 w λc w=>St (c.add 0) (ae 3) w λw=>St (c.add 1) (ae 1) w λw=>St (c.add 2) (.slice (some b) 3 3) w λw=>af .i64 (c.add 0) w λd=>af .i64 (c.add 1) w λe=>aA (c.add 2) w λf g i=>lG d e f g i w λj l m w=>gz a 1 0 0 j l m w λn o p q r s t u v x y z a1 b1 c1 d1 w=>Al T 34 w λe1 w=>St (e1.add 0) (ae n) w λw=>St (e1.add 1) (ae o) w λw=>St (e1.add 2) (ae p) w λw=>St (e1.add 3) (ae q) w λw=>St (e1.add 4) (.slice r s t) w λw=>St (e1.add 5) (.slice u v x) w λw=>St (e1.add 6) (.int .u64 y) w λw=>St (e1.add 7) (.int .u64 z) w λw=>St (e1.add 8) (.int .u64 a1) w λw=>St (e1.add 9) (.int .u64 b1) w λw=>St (e1.add 10) (.int .u64 c1) w λw=>St (e1.add 11) (.int .u64 d1) w λw=>gz a 3 0 2 none 0 0 w λf1 g1 i1 j1 l1 m1 n1 o1 p1 q1 r1 s1 t1 u1 v1 x1 w=>Al T 34 w λy1 w=>St (y1.add 0) (ae f1) w λw=>St (y1.add 1) (ae g1) w λw=>St (y1.add 2) (ae i1) w λw=>St (y1.add 3) (ae j1) w λw=>St (y1.add 4) (.slice l1 m1 n1) w λw=>St (y1.add 5) (.slice o1 p1 q1) w λw=>St (y1.add 6) (.int .u64 r1) w λw=>St (y1.add 7) (.int .u64 s1) w λw=>St (y1.add 8) (.int .u64 t1) w λw=>St (y1.add 9) (.int .u64 u1) w λw=>St (y1.add 10) (.int .u64 v1) w λw=>St (y1.add 11) (.int .u64 x1) w λw=>gz a 6 2 0 none 0 0 w λz1 a2 b2 c2 d2 e2 f2 g2 i2 j2 l2 m2 n2 o2 p2 q2 w=>Al T 34 w λr2 w=>St (r2.add 0) (ae z1) w λw=>St (r2.add 1) (ae a2) w λw=>St (r2.add 2) (ae b2) w λw=>St (r2.add 3) (ae c2) w λw=>St (r2.add 4) (.slice d2 e2 f2) w λw=>St (r2.add 5) (.slice g2 i2 j2) w λw=>St (r2.add 6) (.int .u64 l2) w λw=>St (r2.add 7) (.int .u64 m2) w λw=>St (r2.add 8) (.int .u64 n2) w λw=>St (r2.add 9) (.int .u64 o2) w λw=>St (r2.add 10) (.int .u64 p2) w λw=>St (r2.add 11) (.int .u64 q2) w λw=>gz a 7 0 0 none 0 0 w λs2 t2 u2 v2 x2 y2 z2 a3 b3 c3 d3 e3 f3 g3 i3 j3 w=>Al T 34 w λl3 w=>St (l3.add 0) (ae s2) w λw=>St (l3.add 1) (ae t2) w λw=>St (l3.add 2) (ae u2) w λw=>St (l3.add 3) (ae v2) w λw=>St (l3.add 4) (.slice x2 y2 z2) w λw=>St (l3.add 5) (.slice a3 b3 c3) w λw=>St (l3.add 6) (.int .u64 d3) w λw=>St (l3.add 7) (.int .u64 e3) w λw=>St (l3.add 8) (.int .u64 f3) w λw=>St (l3.add 9) (.int .u64 g3) w λw=>St (l3.add 10) (.int .u64 i3) w λw=>St (l3.add 11) (.int .u64 j3) w λw=>af .i64 e1 w λm3=>cond (m3==0) (af .i64 (y1.add 3) w λn3=>cond (n3==0) (af .i64 (r2.add 1) w λo3=>cond (o3==11) (af .i64 (r2.add 2) w λp3=>cond (p3==1) (aA (l3.add 4) w λq3 r3 s3=>Bx [ae 0,ae 1] 51 w λt3 w=>oV q3 r3 s3 (some t3) 1 1 w λu3 w=>cond u3 (i_ a w λv3 x3 y3 w=>Q ((x3:Int)==1) w) (Q false w)) (Q false w)) (Q false w)) (Q false w)) (Q false w))) (ok 57) [] [] Tryz.func15
def Nc:=λa w Q=>bB (qu a w Q) (NZ 8<|cond ((Int.tmod a 8)==7) (Q 255 w) (cond (decide (a<160)) (NZ 4<|Q (IntKind.wrap .u8 (1+(Int.tmod a 4))) w) (Q a w))) (ok 12) [] [] Tryz.func36
def sH (P3:L3 (Addr->Addr->Int->WP))(Q:Int->Int->L3 WP)(a:OA)(b c:Nat)(d e:Addr)(f g:Int)(w:World):Prop:=aA (e.add 2) w.drew λi j l=>qu g w.drew λm w=>w.cell? (e.add 2)=some (.slice i j l)/\Bx [.int .u8 m] 5 w λn w=>w.cell? (e.add 2)=some (.slice i j l)/\App P #[22,22] 22 (.slice i j l) (.slice (some n) 1 1) w λo p q w=>St (e.add 2) (.slice o p q) w λw=>P3 a b c d e (IntKind.wrap .i64 (f+1)) w
def zy (Q:Int->Int->L3 WP)(R3:L3 (Addr->Addr->Int->WP))(a:OA)(b c:Nat)(d e:Addr)(f:Int)(w:World):Prop:=af .i64 e w λg=>af .i64 (e.add 1) w λi=>cond (decide (f<(IntKind.wrap .i64 (g*i)))) (cond (decide ((b:Int)>0)) (NZ (b:Int)<|NZ (b:Int)<|aK (Int.tmod (IntKind.wrap .i64 (f+(IntKind.wrap .i64 ((IntKind.wrap .i64 (Int.tdiv f (b:Int)))*5)))) (b:Int)) b<|wA a λj=>af .u8 (j.add (((Int.tmod (IntKind.wrap .i64 (f+(IntKind.wrap .i64 ((IntKind.wrap .i64 (Int.tdiv f (b:Int)))*5)))) (b:Int))).toNat*1)) w λl=>sH R3 Q a b c d e f l w) (sH R3 Q a b c d e f 1 w)) (af .i64 (e.add 0) w λm=>af .i64 (e.add 1) w λn=>aA (e.add 2) w λo p q=>St (d.add 0) (ae m) w λw=>St (d.add 1) (ae n) w λw=>St (d.add 2) (.slice o p q) w λw=>af .i64 (d.add 0) w λr=>af .i64 (d.add 1) w λs=>aA (d.add 2) w λt u v=>Q r s t u v w)
def jU (Q:Int->Int->L3 WP):Nat->L3 (Addr->Addr->Int->WP)
 |0,_,_,_,_,_,_,_=>False
 |k+1,a,b,c,d,e,f,w=>zy Q (jU Q k) a b c d e f w
noncomputable def x9:cm:=[(9,sp 0 3 (.op 3 (.op 4 (.op 5 (.op 6 (.op 7 .done))))))]
def QZ {P3}(Q)(H3:Bk 48 Tryz.f35 (r7 Q) 3 [(2,.l),(6,.a),(7,.a),(8,.i .i64)] P3):Bk 48 Tryz.f35 (r7 Q) 9 [(2,.l),(6,.a),(7,.a),(8,.i .i64),(9,.i .u8)] (sH P3 Q):=aS (ok 48) x9 [aO H3]
def Q0 (Q):∀k,Bk 48 Tryz.f35 (r7 Q) 3 [(2,.l),(6,.a),(7,.a),(8,.i .i64)] (jU Q k):=bH λk h=>aS (ok 48) x9 [aO (QZ Q h)]
def Nd:=λa b c d e w Q=>bB (qt a b c d e w Q) (Al T 25 w λf w=>a_ a 1 40 w λg w=>a_ b 1 40 w λi w=>Al T 25 w λj w=>St (j.add 0) (ae g) w λw=>St (j.add 1) (ae i) w λw=>St (j.add 2) (.slice none 0 0) w λw=>∃k',jU Q k' c d e f j 0 w) (ok 48) x9 [cg (Q0 Q)] Tryz.func35
def iR (Q:Int->Int->Int->L3 WP)(a:Int)(b c d:Addr)(w:World):Prop:=af .i64 d w λe=>cond (e==1) (af .i64 (b.add 1) w.drew λf=>af .i64 (b.add 2) w.drew λg=>(Bx [.int .u8 2,.int .u8 0,.int .u8 1,.int .u8 0,.int .u8 1,.int .u8 (IntKind.wrap .u8 f),.int .u8 (IntKind.wrap .u8 g)] 5 w.drew λi w=>St (d.add 1) (ae 0) w λw=>w.cell? (b.add 2)=some (ae g)/\w.cell? (b.add 1)=some (ae f)/\St (d.add 2) (ae 0) w λw=>w.cell? (b.add 2)=some (ae g)/\w.cell? (b.add 1)=some (ae f)/\St (d.add 3) (.slice (some i) 7 7) w λw=>af .i64 (d.add 0) w λj=>af .i64 (d.add 1) w λl=>af .i64 (d.add 2) w λm=>aA (d.add 3) w λn o p=>St (c.add 0) (ae j) w λw=>St (c.add 1) (ae l) w λw=>St (c.add 2) (ae m) w λw=>St (c.add 3) (.slice n o p) w λw=>af .i64 (c.add 0) w λq=>af .i64 (c.add 1) w λr=>af .i64 (c.add 2) w λs=>aA (c.add 3) w λt u v=>Q q r s t u v w)/\(St (d.add 1) (ae 0) w.drew λw=>w.cell? (b.add 2)=some (ae g)/\w.cell? (b.add 1)=some (ae f)/\(Bx [.int .u8 2,.int .u8 0,.int .u8 1,.int .u8 0,.int .u8 1,.int .u8 (IntKind.wrap .u8 f),.int .u8 (IntKind.wrap .u8 g)] 5 w λx w=>St (d.add 2) (ae 0) w λw=>w.cell? (b.add 2)=some (ae g)/\w.cell? (b.add 1)=some (ae f)/\St (d.add 3) (.slice (some x) 7 7) w λw=>af .i64 (d.add 0) w λy=>af .i64 (d.add 1) w λz=>af .i64 (d.add 2) w λa1=>aA (d.add 3) w λb1 c1 d1=>St (c.add 0) (ae y) w λw=>St (c.add 1) (ae z) w λw=>St (c.add 2) (ae a1) w λw=>St (c.add 3) (.slice b1 c1 d1) w λw=>af .i64 (c.add 0) w λe1=>af .i64 (c.add 1) w λf1=>af .i64 (c.add 2) w λg1=>aA (c.add 3) w λi1 j1 l1=>Q e1 f1 g1 i1 j1 l1 w)/\(St (d.add 2) (ae 0) w λw=>w.cell? (b.add 2)=some (ae g)/\w.cell? (b.add 1)=some (ae f)/\Bx [.int .u8 2,.int .u8 0,.int .u8 1,.int .u8 0,.int .u8 1,.int .u8 (IntKind.wrap .u8 f),.int .u8 (IntKind.wrap .u8 g)] 5 w λm1 w=>St (d.add 3) (.slice (some m1) 7 7) w λw=>af .i64 (d.add 0) w λn1=>af .i64 (d.add 1) w λo1=>af .i64 (d.add 2) w λp1=>aA (d.add 3) w λq1 r1 s1=>St (c.add 0) (ae n1) w λw=>St (c.add 1) (ae o1) w λw=>St (c.add 2) (ae p1) w λw=>St (c.add 3) (.slice q1 r1 s1) w λw=>af .i64 (c.add 0) w λt1=>af .i64 (c.add 1) w λu1=>af .i64 (c.add 2) w λv1=>aA (c.add 3) w λx1 y1 z1=>Q t1 u1 v1 x1 y1 z1 w))) (cond (e==2) (af .i64 (b.add 1) w λa2=>a_ a2 0 (IntKind.wrap .i64 (a-1)) w λb2 w=>St (d.add 1) (ae b2) w λw=>af .i64 (b.add 1) w λc2=>a_ c2 0 1 w λd2 w=>St (d.add 2) (ae (IntKind.wrap .i64 (d2*255))) w λw=>af .i64 (d.add 0) w λe2=>af .i64 (d.add 1) w λf2=>af .i64 (d.add 2) w λg2=>aA (d.add 3) w λi2 j2 l2=>St (c.add 0) (ae e2) w λw=>St (c.add 1) (ae f2) w λw=>St (c.add 2) (ae g2) w λw=>St (c.add 3) (.slice i2 j2 l2) w λw=>af .i64 (c.add 0) w λm2=>af .i64 (c.add 1) w λn2=>af .i64 (c.add 2) w λo2=>aA (c.add 3) w λp2 q2 r2=>Q m2 n2 o2 p2 q2 r2 w) (cond (e==5) (St (d.add 2) (ae 0) w λw=>af .i64 (d.add 0) w λs2=>af .i64 (d.add 1) w λt2=>af .i64 (d.add 2) w λu2=>aA (d.add 3) w λv2 x2 y2=>St (c.add 0) (ae s2) w λw=>St (c.add 1) (ae t2) w λw=>St (c.add 2) (ae u2) w λw=>St (c.add 3) (.slice v2 x2 y2) w λw=>af .i64 (c.add 0) w λz2=>af .i64 (c.add 1) w λa3=>af .i64 (c.add 2) w λb3=>aA (c.add 3) w λc3 d3 e3=>Q z2 a3 b3 c3 d3 e3 w) (af .i64 (d.add 0) w λf3=>af .i64 (d.add 1) w λg3=>af .i64 (d.add 2) w λi3=>aA (d.add 3) w λj3 l3 m3=>St (c.add 0) (ae f3) w λw=>St (c.add 1) (ae g3) w λw=>St (c.add 2) (ae i3) w λw=>St (c.add 3) (.slice j3 l3 m3) w λw=>af .i64 (c.add 0) w λn3=>af .i64 (c.add 1) w λo3=>af .i64 (c.add 2) w λp3=>aA (c.add 3) w λq3 r3 s3=>Q n3 o3 p3 q3 r3 s3 w)))
noncomputable def Eb:cm:=[(1,sp 0 2 (sp 3 3 (sp 8 2 (.br (.op 2 (.br (.op 6 (.op 7 (.br (.op 10 (.op 11 (.op 12 (.op 13 .done)))) (.op 12 (.op 10 (.op 11 (.op 13 .done))))))) (.op 12 (.op 6 (.op 7 (.op 10 (.op 11 (.op 13 .done)))))))) (.op 12 (.op 2 (.op 6 (.op 7 (.op 10 (.op 11 (.op 13 .done))))))))))),(4,sp 0 6 (.op 7 (.br (.op 6 (.op 8 (.op 9 (.op 10 (.op 11 (.op 12 .done)))))) (.op 8 (.op 9 (.br (.op 6 (.op 10 (.op 11 (.op 12 .done)))) (.op 10 (.op 6 (.op 11 (.op 12 .done))))))))))]
def Q1 (Q):Bk 49 Tryz.f37 (Fp Q) 2 [(1,.i .i64),(2,.a),(4,.a),(5,.a)] (iR Q):=aS (ok 49) Eb []
def Nf:=λa b c d w Q=>bB (wc a b c d w Q) (Bx [ae a,ae b,ae c] 90 w λe w=>Al T 38 w λf w=>af .i64 (e.add 2) w.drew λg=>af .i64 (e.add 1) w.drew λi=>af .i64 (e.add 1) w.drew λj=>(a_ g 1 6 w.drew λl w=>w.cell? (e.add 1)=some (ae j)/\w.cell? (e.add 1)=some (ae i)/\(a_ i 0 5 w λm w=>w.cell? (e.add 1)=some (ae j)/\(a_ j 0 9 w λn w=>Al T 38 w λo w=>w.cell? (e.add 1)=some (ae j)/\w.cell? (e.add 1)=some (ae i)/\w.cell? (e.add 2)=some (ae g)/\St (o.add 0) (ae l) w λw=>St (o.add 1) (ae (IntKind.wrap .i64 (d+m))) w λw=>St (o.add 2) (ae n) w λw=>St (o.add 3) (.slice none 0 0) w λw=>iR Q d e f o w)/\(Al T 38 w λp w=>w.cell? (e.add 1)=some (ae j)/\w.cell? (e.add 1)=some (ae i)/\w.cell? (e.add 2)=some (ae g)/\a_ j 0 9 w λq w=>St (p.add 0) (ae l) w λw=>St (p.add 1) (ae (IntKind.wrap .i64 (d+m))) w λw=>St (p.add 2) (ae q) w λw=>St (p.add 3) (.slice none 0 0) w λw=>iR Q d e f p w))/\(Al T 38 w λr w=>w.cell? (e.add 1)=some (ae j)/\w.cell? (e.add 1)=some (ae i)/\w.cell? (e.add 2)=some (ae g)/\a_ i 0 5 w λs w=>w.cell? (e.add 1)=some (ae j)/\a_ j 0 9 w λt w=>St (r.add 0) (ae l) w λw=>St (r.add 1) (ae (IntKind.wrap .i64 (d+s))) w λw=>St (r.add 2) (ae t) w λw=>St (r.add 3) (.slice none 0 0) w λw=>iR Q d e f r w))/\(Al T 38 w.drew λu w=>w.cell? (e.add 1)=some (ae j)/\w.cell? (e.add 1)=some (ae i)/\w.cell? (e.add 2)=some (ae g)/\a_ g 1 6 w λv w=>w.cell? (e.add 1)=some (ae j)/\w.cell? (e.add 1)=some (ae i)/\a_ i 0 5 w λx w=>w.cell? (e.add 1)=some (ae j)/\a_ j 0 9 w λy w=>St (u.add 0) (ae v) w λw=>St (u.add 1) (ae (IntKind.wrap .i64 (d+x))) w λw=>St (u.add 2) (ae y) w λw=>St (u.add 3) (.slice none 0 0) w λw=>iR Q d e f u w)) (ok 49) Eb [aO (Q1 Q)] Tryz.func37
def cI (P5:Int->Int->L3 (L3 (Addr->L3 (Int->Int->WP))))(Q:L3 WP)(a b:Int)(c:OA)(d e:Nat)(f:OA)(g i:Nat)(j:Addr)(l:OA)(m n:Nat)(o p:Int)(q:Addr)(w:World):Prop:=af .i64 (q.add 0) w λr=>af .i64 (q.add 1) w λs=>af .i64 (q.add 2) w λt=>aA (q.add 3) w λu v x=>Bx [ae r,ae s,ae t,.slice u v x] 38 w λy w=>App P #[46,46] 46 (.slice l m n) (.slice (some y) 1 1) w λz a1 b1 w=>P5 a b c d e f g i j z a1 b1 o (IntKind.wrap .i64 (p+1)) w
def nh (P5:Int->Int->L3 (L3 (Addr->L3 (Int->Int->WP))))(Q:L3 WP)(a b:Int)(c:OA)(d e:Nat)(f:OA)(g i:Nat)(j:Addr)(l:OA)(m n:Nat)(o p:Int)(q:Addr)(w:World):Prop:=St q (ae 3) w λw=>cI P5 Q a b c d e f g i j l m n o p q w
def qB (P5:Int->Int->L3 (L3 (Addr->L3 (Int->Int->WP))))(Q:L3 WP)(a b:Int)(c:OA)(d e:Nat)(f:OA)(g i:Nat)(j:Addr)(l:OA)(m n:Nat)(o p:Int)(q r:Addr)(w:World):Prop:=af .i64 (q.add 2) w λs=>qu (IntKind.wrap .u8 s) w λt w=>St r (ae 2) w λw=>St (r.add 2) (ae (IntKind.wrap .i64 t)) w λw=>cI P5 Q a b c d e f g i j l m n o p r w
def jt (P5:Int->Int->L3 (L3 (Addr->L3 (Int->Int->WP))))(Q:L3 WP)(a b:Int)(c:OA)(d e:Nat)(f:OA)(g i:Nat)(j:Addr)(l:OA)(m n:Nat)(o p:Int)(q r:Addr)(w:World):Prop:=af .i64 q w λs=>a_ s 0 15 w λt w=>cond (t==0) (nh P5 Q a b c d e f g i j l m n o p r w) (cond (t==1) (nh P5 Q a b c d e f g i j l m n o p r w) (cond (t==2) (nh P5 Q a b c d e f g i j l m n o p r w) (cond (t==3) (af .i64 (q.add 1) w λu=>a_ u 0 9 w λv w=>St r (ae 4) w λw=>St (r.add 1) (ae v) w λw=>cI P5 Q a b c d e f g i j l m n o p r w) (cond (t==4) (af .i64 (q.add 1) w λx=>a_ x 0 9 w λy w=>St r (ae 5) w λw=>St (r.add 1) (ae y) w λw=>St (r.add 2) (ae 0) w λw=>cI P5 Q a b c d e f g i j l m n o p r w) (cond (t==5) (qB P5 Q a b c d e f g i j l m n o p q r w) (cond (t==6) (qB P5 Q a b c d e f g i j l m n o p q r w) (cond (t==7) (St r (ae 6) w λw=>cI P5 Q a b c d e f g i j l m n o p r w) (cond (t==8) (St r (ae 6) w λw=>cI P5 Q a b c d e f g i j l m n o p r w) (cond (t==9) (St (r.add 0) (ae 8) w λw=>St (r.add 1) (ae 0) w λw=>St (r.add 2) (ae 0) w λw=>St (r.add 3) (.slice none 0 0) w λw=>cI P5 Q a b c d e f g i j l m n o p r w) (cond (t==10) (af .i64 (q.add 1) w λz=>NZ 4<|cond ((Int.tmod z 4)==0) (af .i64 (q.add 1) w λa1=>NZ 4<|af .i64 (q.add 2) w λb1=>qt (IntKind.wrap .i64 (a+(IntKind.wrap .i64 (Int.tdiv a1 4)))) (IntKind.wrap .i64 (b+b1)) c d e w λc1 d1 e1 f1 g1 w=>St (j.add 0) (ae c1) w λw=>St (j.add 1) (ae d1) w λw=>St (j.add 2) (.slice e1 f1 g1) w λw=>aA (j.add 2) w λi1 j1 l1=>af .i64 (j.add 0) w λm1=>af .i64 (j.add 1) w λn1=>aA (j.add 2) w λo1 p1 q1=>lG m1 n1 o1 p1 q1 w λr1 s1 t1 w=>St (r.add 0) (ae 1) w λw=>St (r.add 1) (ae 0) w λw=>St (r.add 2) (ae 0) w λw=>St (r.add 3) (.slice r1 s1 t1) w λw=>cI P5 Q a b c d e f g i j l m n (j1:Int) p r w) (af .i64 (q.add 2) w λu1=>a_ u1 0 200 w λv1 w=>St (r.add 0) (ae 0) w λw=>St (r.add 1) (ae (IntKind.wrap .i64 (9+v1))) w λw=>St (r.add 2) (ae 0) w λw=>St (r.add 3) (.slice none 0 0) w λw=>cI P5 Q a b c d e f g i j l m n o p r w)) (cond (t==11) (af .i64 (q.add 0) w λx1=>af .i64 (q.add 1) w λy1=>af .i64 (q.add 2) w λz1=>wc x1 y1 z1 o w λa2 b2 c2 d2 e2 f2 w=>St (r.add 0) (ae a2) w λw=>St (r.add 1) (ae b2) w λw=>St (r.add 2) (ae c2) w λw=>St (r.add 3) (.slice d2 e2 f2) w λw=>cI P5 Q a b c d e f g i j l m n o p r w) (St (r.add 0) (ae 7) w λw=>St (r.add 1) (ae 0) w λw=>St (r.add 2) (ae 0) w λw=>St (r.add 3) (.slice none 0 0) w λw=>cI P5 Q a b c d e f g i j l m n o p r w))))))))))))
def nQ (Q:L3 WP)(R5:Int->Int->L3 (L3 (Addr->L3 (Int->Int->WP))))(a b:Int)(c:OA)(d e:Nat)(f:OA)(g i:Nat)(j:Addr)(l:OA)(m n:Nat)(o p:Int)(w:World):Prop:=cond (decide (p<(g:Int))) (cond (decide (p<60)) (aK p g<|wA f λq=>af .i64 ((q.add (p.toNat*3)).add 0) w λr=>af .i64 ((q.add (p.toNat*3)).add 1) w λs=>af .i64 ((q.add (p.toNat*3)).add 2) w λt=>Al T 90 w λu w=>St (u.add 0) (ae r) w λw=>St (u.add 1) (ae s) w λw=>St (u.add 2) (ae t) w λw=>af .i64 (u.add 1) w.drew λv=>af .i64 (u.add 2) w.drew λx=>(a_ v 0 (IntKind.wrap .i64 (o-1)) w.drew λy w=>w.cell? (u.add 2)=some (ae x)/\(a_ x 0 (IntKind.wrap .i64 (o-1)) w λz w=>Al T 38 w λa1 w=>w.cell? (u.add 2)=some (ae x)/\w.cell? (u.add 1)=some (ae v)/\St (a1.add 0) (ae 0) w λw=>St (a1.add 1) (ae y) w λw=>St (a1.add 2) (ae z) w λw=>St (a1.add 3) (.slice none 0 0) w λw=>jt R5 Q a b c d e f g i j l m n o p u a1 w)/\(Al T 38 w λb1 w=>w.cell? (u.add 2)=some (ae x)/\w.cell? (u.add 1)=some (ae v)/\a_ x 0 (IntKind.wrap .i64 (o-1)) w λc1 w=>St (b1.add 0) (ae 0) w λw=>St (b1.add 1) (ae y) w λw=>St (b1.add 2) (ae c1) w λw=>St (b1.add 3) (.slice none 0 0) w λw=>jt R5 Q a b c d e f g i j l m n o p u b1 w))/\(Al T 38 w.drew λd1 w=>w.cell? (u.add 2)=some (ae x)/\w.cell? (u.add 1)=some (ae v)/\a_ v 0 (IntKind.wrap .i64 (o-1)) w λe1 w=>w.cell? (u.add 2)=some (ae x)/\a_ x 0 (IntKind.wrap .i64 (o-1)) w λf1 w=>St (d1.add 0) (ae 0) w λw=>St (d1.add 1) (ae e1) w λw=>St (d1.add 2) (ae f1) w λw=>St (d1.add 3) (.slice none 0 0) w λw=>jt R5 Q a b c d e f g i j l m n o p u d1 w)) (Q l m n w)) (Q l m n w)
def ju (Q:L3 WP):Nat->Int->Int->L3 (L3 (Addr->L3 (Int->Int->WP)))
 |0,_,_,_,_,_,_,_,_,_,_,_,_,_,_,_=>False
 |k+1,a,b,c,d,e,f,g,i,j,l,m,n,o,p,w=>nQ Q (ju Q k) a b c d e f g i j l m n o p w
noncomputable def kE:cm:=[(8,sp 0 4 (sp 5 4 (.br (.op 4 (.br (.op 9 (.op 10 (.op 11 (.op 12 .done)))) (.op 11 (.op 9 (.op 10 (.op 12 .done)))))) (.op 11 (.op 4 (.op 9 (.op 10 (.op 12 .done))))))))]
def wG {P5}(Q)(H5:Bk 130 Tryz.f16 (fK Q) 5 [(0,.i .i64),(1,.i .i64),(2,.l),(3,.l),(9,.a),(10,.l),(11,.i .i64),(12,.i .i64)] P5):Bk 130 Tryz.f16 (fK Q) 35 [(0,.i .i64),(1,.i .i64),(2,.l),(3,.l),(9,.a),(10,.l),(11,.i .i64),(12,.i .i64),(14,.a)] (cI P5 Q):=aS (ok 130) kE [aO H5]
def Ng {P5}(Q)(H5:Bk 130 Tryz.f16 (fK Q) 5 [(0,.i .i64),(1,.i .i64),(2,.l),(3,.l),(9,.a),(10,.l),(11,.i .i64),(12,.i .i64)] P5):Bk 130 Tryz.f16 (fK Q) 14 [(0,.i .i64),(1,.i .i64),(2,.l),(3,.l),(9,.a),(10,.l),(11,.i .i64),(12,.i .i64),(14,.a)] (nh P5 Q):=aS (ok 130) kE [aO (wG Q H5)]
def Nh {P5}(Q)(H5:Bk 130 Tryz.f16 (fK Q) 5 [(0,.i .i64),(1,.i .i64),(2,.l),(3,.l),(9,.a),(10,.l),(11,.i .i64),(12,.i .i64)] P5):Bk 130 Tryz.f16 (fK Q) 21 [(0,.i .i64),(1,.i .i64),(2,.l),(3,.l),(9,.a),(10,.l),(11,.i .i64),(12,.i .i64),(13,.a),(14,.a)] (qB P5 Q):=aS (ok 130) kE [aO (wG Q H5)]
def O6 {P5}(Q)(H5:Bk 130 Tryz.f16 (fK Q) 5 [(0,.i .i64),(1,.i .i64),(2,.l),(3,.l),(9,.a),(10,.l),(11,.i .i64),(12,.i .i64)] P5):Bk 130 Tryz.f16 (fK Q) 9 [(0,.i .i64),(1,.i .i64),(2,.l),(3,.l),(9,.a),(10,.l),(11,.i .i64),(12,.i .i64),(13,.a),(14,.a)] (jt P5 Q):=aS (ok 130) kE [aO (Ng Q H5),aO (Nh Q H5),aO (wG Q H5)]
def O7 (Q):∀k,Bk 130 Tryz.f16 (fK Q) 5 [(0,.i .i64),(1,.i .i64),(2,.l),(3,.l),(9,.a),(10,.l),(11,.i .i64),(12,.i .i64)] (ju Q k):=bH λk h=>aS (ok 130) kE [aO (O6 Q h)]
def LL:=λa b c d e f g i w Q=>bB (l_ a b c d e f g i w Q) (qt a b c d e w λj l m n o w=>Al T 25 w λp w=>St (p.add 0) (ae j) w λw=>St (p.add 1) (ae l) w λw=>St (p.add 2) (.slice m n o) w λw=>af .i64 (p.add 0) w λq=>af .i64 (p.add 1) w λr=>aA (p.add 2) w λs t u=>lG q r s t u w λv x y w=>Bx [ae 1,ae 0,ae 0,.slice v x y] 38 w λz w=>aA (p.add 2) w λa1 b1 c1=>∃k',ju Q k' a b c d e f g i p (some z) 1 1 (b1:Int) 0 w) (ok 130) kE [cg (O7 Q)] Tryz.func16
def Q2:=λa b c d w Q=>bB (r6 a b c d w Q) (cj a b c 3 none (some (Dy (b:Int) d)) λe f g=>Q e f g w) (ok 11) [] [] Tryz.func17
noncomputable def Wf:cm:=[(3,sp 0 15 (.op 15 (.op 16 (.op 17 .done))))]
def U1:=λa w Q=>bB (A5 a w Q) (Al T 25 w λb w=>cond a.isNone (St (b.add 0) (ae 0) w λw=>St (b.add 1) (ae 0) w λw=>St (b.add 2) (.slice none 0 0) w λw=>af .i64 (b.add 0) w λc=>af .i64 (b.add 1) w λd=>aA (b.add 2) w λe f g=>Q c d e f g w) (wA a λi=>af .i64 i w.drew λj=>wA a λl=>af .i64 (l.add 1) w.drew λm=>wA a λn=>aA (n.add 2) w.drew λo p q=>jL o p q w.drew λr s t w=>w.cell? (l.add 1)=some (ae m)/\w.cell? i=some (ae j)/\St (b.add 0) (ae j) w λw=>St (b.add 1) (ae m) w λw=>St (b.add 2) (.slice r s t) w λw=>af .i64 (b.add 0) w λu=>af .i64 (b.add 1) w λv=>aA (b.add 2) w λx y z=>Q u v x y z w)) (ok 23) Wf [] Tryz.func67
def Yn:=λa w Q=>bB (DA a w Q) (Al T 25 w λb w=>cond a.isNone (St (b.add 0) (ae 0) w λw=>St (b.add 1) (ae 0) w λw=>St (b.add 2) (.slice none 0 0) w λw=>af .i64 (b.add 0) w λc=>af .i64 (b.add 1) w λd=>aA (b.add 2) w λe f g=>Q c d e f g w) (wA a λi=>bp i w λj=>A5 j w λl m n o p w=>St (b.add 0) (ae l) w λw=>St (b.add 1) (ae m) w λw=>St (b.add 2) (.slice n o p) w λw=>af .i64 (b.add 0) w λq=>af .i64 (b.add 1) w λr=>aA (b.add 2) w λs t u=>Q q r s t u w)) (ok 11) [] [] Tryz.func40
def Q3:=λa w Q=>bB (lT a w Q) (Al T 25 w λb w=>yO a w λc w=>DA c w λd e f g i w=>St (b.add 0) (ae d) w λw=>St (b.add 1) (ae e) w λw=>St (b.add 2) (.slice f g i) w λw=>af .i64 (b.add 0) w λj=>af .i64 (b.add 1) w λl=>aA (b.add 2) w λm n o=>Q j l m n o w) (ok 6) [] [] Tryz.func19
def oP (Q:Bool->WP)(R4:L3 (L3 (Int->WP)))(a:OA)(b c:Nat)(d:OA)(e f:Nat)(g:Int)(w:World):Prop:=cond (decide (g<(b:Int))) (aK g b<|wA a λi=>af .i64 (i.add (g.toNat*1)) w.drew λj=>aK g e<|wA d λl=>af .i64 (l.add (g.toNat*1)) w.drew λm=>cond (j !=m) (Q false w.drew) (R4 a b c d e f (IntKind.wrap .i64 (g+1)) w.drew)) (Q true w)
def l8 (Q:Bool->WP):Nat->L3 (L3 (Int->WP))
 |0,_,_,_,_,_,_,_,_=>False
 |k+1,a,b,c,d,e,f,g,w=>oP Q (l8 Q k) a b c d e f g w
noncomputable def Ec:cm:=[(6,sp 0 9 .done)]
def Q4 (Q):∀k,Bk 26 Tryz.f73 (Fs Q) 4 [(0,.l),(1,.l),(5,.i .i64)] (l8 Q k):=bH λk h=>aS (ok 26) Ec [aO h]
def Ni:=λa b c d e f w Q=>bB (wo a b c d e f w Q) (cond ((b:Int) !=(e:Int)) (Q false w) (∃k',l8 Q k' a b c d e f 0 w)) (ok 26) Ec [cg (Q4 Q)] Tryz.func73
def KC:=λa b c d e f g i j l m n o p q r s t u v x y z a1 b1 c1 d1 e1 f1 g1 i1 j1 w Q=>bB (Bl a b c d e f g i j l m n o p q r s t u v x y z a1 b1 c1 d1 e1 f1 g1 i1 j1 w Q) (Bx [ae a,ae b,ae c,ae d,.slice e f g,.slice i j l,.int .u64 m,.int .u64 n,.int .u64 o,.int .u64 p,.int .u64 q,.int .u64 r] 34 w λl1 w=>Bx [ae s,ae t,ae u,ae v,.slice x y z,.slice a1 b1 c1,.int .u64 d1,.int .u64 e1,.int .u64 f1,.int .u64 g1,.int .u64 i1,.int .u64 j1] 34 w λm1 w=>af .i64 l1 w λn1=>af .i64 m1 w λo1=>cond (n1==o1) (af .i64 (l1.add 1) w λp1=>af .i64 (m1.add 1) w λq1=>cond (p1==q1) (af .i64 (l1.add 2) w λr1=>af .i64 (m1.add 2) w λs1=>cond (r1==s1) (af .i64 (l1.add 3) w λt1=>af .i64 (m1.add 3) w λu1=>cond (t1==u1) (aA (l1.add 4) w λv1 x1 y1=>aA (m1.add 4) w λz1 a2 b2=>oV v1 x1 y1 z1 a2 b2 w λc2 w=>cond c2 (aA (l1.add 5) w λd2 e2 f2=>aA (m1.add 5) w λg2 i2 j2=>wo d2 e2 f2 g2 i2 j2 w λl2 w=>Q l2 w) (Q false w)) (Q false w)) (Q false w)) (Q false w)) (Q false w)) (ok 45) [] [] Tryz.func45
def oQ (Q:Bool->WP)(R4:L3 (L3 (Int->WP)))(a:OA)(b c:Nat)(d:OA)(e f:Nat)(g:Int)(w:World):Prop:=cond (decide (g<(b:Int))) (aK g b<|wA a λi=>af .i64 ((i.add (g.toNat*12)).add 0) w.drew λj=>af .i64 ((i.add (g.toNat*12)).add 1) w.drew λl=>af .i64 ((i.add (g.toNat*12)).add 2) w.drew λm=>af .i64 ((i.add (g.toNat*12)).add 3) w.drew λn=>aA ((i.add (g.toNat*12)).add 4) w.drew λo p q=>aA ((i.add (g.toNat*12)).add 5) w.drew λr s t=>af .u64 ((i.add (g.toNat*12)).add 6) w.drew λu=>af .u64 ((i.add (g.toNat*12)).add 7) w.drew λv=>af .u64 ((i.add (g.toNat*12)).add 8) w.drew λx=>af .u64 ((i.add (g.toNat*12)).add 9) w.drew λy=>af .u64 ((i.add (g.toNat*12)).add 10) w.drew λz=>af .u64 ((i.add (g.toNat*12)).add 11) w.drew λa1=>aK g e<|wA d λb1=>af .i64 ((b1.add (g.toNat*12)).add 0) w.drew λc1=>af .i64 ((b1.add (g.toNat*12)).add 1) w.drew λd1=>af .i64 ((b1.add (g.toNat*12)).add 2) w.drew λe1=>af .i64 ((b1.add (g.toNat*12)).add 3) w.drew λf1=>aA ((b1.add (g.toNat*12)).add 4) w.drew λg1 i1 j1=>aA ((b1.add (g.toNat*12)).add 5) w.drew λl1 m1 n1=>af .u64 ((b1.add (g.toNat*12)).add 6) w.drew λo1=>af .u64 ((b1.add (g.toNat*12)).add 7) w.drew λp1=>af .u64 ((b1.add (g.toNat*12)).add 8) w.drew λq1=>af .u64 ((b1.add (g.toNat*12)).add 9) w.drew λr1=>af .u64 ((b1.add (g.toNat*12)).add 10) w.drew λs1=>af .u64 ((b1.add (g.toNat*12)).add 11) w.drew λt1=>Bl j l m n o p q r s t u v x y z a1 c1 d1 e1 f1 g1 i1 j1 l1 m1 n1 o1 p1 q1 r1 s1 t1 w.drew λu1 w=>cond (!u1) (Q false w) (R4 a b c d e f (IntKind.wrap .i64 (g+1)) w)) (Q true w)
def oR (Q:Bool->WP):Nat->L3 (L3 (Int->WP))
 |0,_,_,_,_,_,_,_,_=>False
 |k+1,a,b,c,d,e,f,g,w=>oQ Q (oR Q k) a b c d e f g w
noncomputable def Ed:cm:=[(6,sp 0 8 (.op 8 (.op 9 .done)))]
def Q5 (Q):∀k,Bk 27 Tryz.f24 (Fm Q) 4 [(0,.l),(1,.l),(5,.i .i64)] (oR Q k):=bH λk h=>aS (ok 27) Ed [aO h]
def Nj:=λa b c d e f w Q=>bB (v_ a b c d e f w Q) (cond ((b:Int) !=(e:Int)) (Q false w) (∃k',oR Q k' a b c d e f 0 w)) (ok 27) Ed [cg (Q5 Q)] Tryz.func24
def nR (Q:Bool->WP)(R4:L3 (L3 (Int->WP)))(a:OA)(b c:Nat)(d:OA)(e f:Nat)(g:Int)(w:World):Prop:=cond (decide (g<(b:Int))) (aK g b<|wA a λi=>af .i64 ((i.add (g.toNat*3)).add 0) w.drew λj=>af .i64 ((i.add (g.toNat*3)).add 1) w.drew λl=>af .i64 ((i.add (g.toNat*3)).add 2) w.drew λm=>aK g e<|wA d λn=>af .i64 ((n.add (g.toNat*3)).add 0) w.drew λo=>af .i64 ((n.add (g.toNat*3)).add 1) w.drew λp=>af .i64 ((n.add (g.toNat*3)).add 2) w.drew λq=>bZ P .neq 43 (.tmp 20) (.tmp 24) (.agg #[ae j,ae l,ae m]) (.agg #[ae o,ae p,ae q]) w.drew λr w=>cond r (Q false w) (R4 a b c d e f (IntKind.wrap .i64 (g+1)) w)) (Q true w)
def kZ (Q:Bool->WP):Nat->L3 (L3 (Int->WP))
 |0,_,_,_,_,_,_,_,_=>False
 |k+1,a,b,c,d,e,f,g,w=>nR Q (kZ Q k) a b c d e f g w
noncomputable def Du:cm:=[(6,sp 0 8 (.op 8 .done))]
def O8 (Q):∀k,Bk 26 Tryz.f25 (DZ Q) 4 [(0,.l),(1,.l),(5,.i .i64)] (kZ Q k):=bH λk h=>aS (ok 26) Du [aO h]
def LM:=λa b c d e f w Q=>bB (pE a b c d e f w Q) (cond ((b:Int) !=(e:Int)) (Q false w) (∃k',kZ Q k' a b c d e f 0 w)) (ok 26) Du [cg (O8 Q)] Tryz.func25
def LN:=λa b c d e f w Q=>bB (uX a b c d e f w Q) (aQ P (convert 22 9 (.slice a b c)) w λg w=>RH g λi=>aQ P (convert 22 9 (.slice d e f)) w λj w=>RH j λl=>Q (i.toList==l.toList) w) (ok 10) [] [] Tryz.func46
def JU:=λa b c d e f g i j l w Q=>bB (nV a b c d e f g i j l w Q) (Bx [ae a,ae b,.slice c d e] 25 w λm w=>Bx [ae f,ae g,.slice i j l] 25 w λn w=>af .i64 m w λo=>af .i64 n w λp=>cond (o==p) (af .i64 (m.add 1) w λq=>af .i64 (n.add 1) w λr=>cond (q==r) (aA (m.add 2) w λs t u=>aA (n.add 2) w λv x y=>uX s t u v x y w λz w=>Q z w) (Q false w)) (Q false w)) (ok 24) [] [] Tryz.func26
def lN (P6:L3 (L3 (OA->OA->OA->Int->WP)))(Q:Bool->WP)(a:OA)(b c:Nat)(d:OA)(e f:Nat)(g i j:OA)(l:Int)(m:Addr)(w:World):Prop:=aK l b<|wA a λn=>af .i64 ((n.add (l.toNat*4)).add 0) w λo=>af .i64 ((n.add (l.toNat*4)).add 1) w λp=>af .i64 ((n.add (l.toNat*4)).add 2) w λq=>aA ((n.add (l.toNat*4)).add 3) w λr s t=>gz i o p q r s t w λu v x y z a1 b1 c1 d1 e1 f1 g1 i1 j1 l1 m1 w=>Al T 34 w λn1 w=>St (n1.add 0) (ae u) w λw=>St (n1.add 1) (ae v) w λw=>St (n1.add 2) (ae x) w λw=>St (n1.add 3) (ae y) w λw=>St (n1.add 4) (.slice z a1 b1) w λw=>St (n1.add 5) (.slice c1 d1 e1) w λw=>St (n1.add 6) (.int .u64 f1) w λw=>St (n1.add 7) (.int .u64 g1) w λw=>St (n1.add 8) (.int .u64 i1) w λw=>St (n1.add 9) (.int .u64 j1) w λw=>St (n1.add 10) (.int .u64 l1) w λw=>St (n1.add 11) (.int .u64 m1) w λw=>af .i64 (m.add 0) w λo1=>af .i64 (m.add 1) w λp1=>af .i64 (m.add 2) w λq1=>af .i64 (m.add 3) w λr1=>aA (m.add 4) w λs1 t1 u1=>aA (m.add 5) w λv1 x1 y1=>af .u64 (m.add 6) w λz1=>af .u64 (m.add 7) w λa2=>af .u64 (m.add 8) w λb2=>af .u64 (m.add 9) w λc2=>af .u64 (m.add 10) w λd2=>af .u64 (m.add 11) w λe2=>Bx [ae o1,ae p1,ae q1,ae r1,.slice s1 t1 u1,.slice v1 x1 y1,.int .u64 z1,.int .u64 a2,.int .u64 b2,.int .u64 c2,.int .u64 d2,.int .u64 e2] 34 w λf2 w=>af .i64 (n1.add 0) w λg2=>af .i64 (n1.add 1) w λi2=>af .i64 (n1.add 2) w λj2=>af .i64 (n1.add 3) w λl2=>aA (n1.add 4) w λm2 n2 o2=>aA (n1.add 5) w λp2 q2 r2=>af .u64 (n1.add 6) w λs2=>af .u64 (n1.add 7) w λt2=>af .u64 (n1.add 8) w λu2=>af .u64 (n1.add 9) w λv2=>af .u64 (n1.add 10) w λx2=>af .u64 (n1.add 11) w λy2=>Bx [ae g2,ae i2,ae j2,ae l2,.slice m2 n2 o2,.slice p2 q2 r2,.int .u64 s2,.int .u64 t2,.int .u64 u2,.int .u64 v2,.int .u64 x2,.int .u64 y2] 34 w λz2 w=>v_ (some f2) 1 1 (some z2) 1 1 w λa3 w=>cond (!a3) (Q false w) (af .u64 ((m.add 6).add 0) w λb3=>af .u64 ((m.add 6).add 1) w λc3=>af .u64 ((m.add 6).add 2) w λd3=>af .u64 ((m.add 6).add 3) w λe3=>af .u64 ((m.add 6).add 4) w λf3=>af .u64 ((m.add 6).add 5) w λg3=>af .u64 ((n1.add 6).add 0) w λi3=>af .u64 ((n1.add 6).add 1) w λj3=>af .u64 ((n1.add 6).add 2) w λl3=>af .u64 ((n1.add 6).add 3) w λm3=>af .u64 ((n1.add 6).add 4) w λn3=>af .u64 ((n1.add 6).add 5) w λo3=>bZ P .neq 32 (.tmp 80) (.tmp 82) (.agg #[.int .u64 b3,.int .u64 c3,.int .u64 d3,.int .u64 e3,.int .u64 f3,.int .u64 g3]) (.agg #[.int .u64 i3,.int .u64 j3,.int .u64 l3,.int .u64 m3,.int .u64 n3,.int .u64 o3]) w λp3 w=>cond p3 (Q false w) (P6 a b c d e f g i j (IntKind.wrap .i64 (l+1)) w))
def mG (Q:Bool->WP)(R6:L3 (L3 (OA->OA->OA->Int->WP)))(a:OA)(b c:Nat)(d:OA)(e f:Nat)(g i j:OA)(l:Int)(w:World):Prop:=cond (decide (l<(b:Int))) (aK l b<|wA a λm=>af .i64 ((m.add (l.toNat*4)).add 0) w λn=>af .i64 ((m.add (l.toNat*4)).add 1) w λo=>af .i64 ((m.add (l.toNat*4)).add 2) w λp=>aA ((m.add (l.toNat*4)).add 3) w λq r s=>gz g n o p q r s w λt u v x y z a1 b1 c1 d1 e1 f1 g1 i1 j1 l1 w=>Al T 34 w λm1 w=>St (m1.add 0) (ae t) w λw=>St (m1.add 1) (ae u) w λw=>St (m1.add 2) (ae v) w λw=>St (m1.add 3) (ae x) w λw=>St (m1.add 4) (.slice y z a1) w λw=>St (m1.add 5) (.slice b1 c1 d1) w λw=>St (m1.add 6) (.int .u64 e1) w λw=>St (m1.add 7) (.int .u64 f1) w λw=>St (m1.add 8) (.int .u64 g1) w λw=>St (m1.add 9) (.int .u64 i1) w λw=>St (m1.add 10) (.int .u64 j1) w λw=>St (m1.add 11) (.int .u64 l1) w λw=>cond (decide (l<(e:Int))) (aK l e<|wA d λn1=>af .i64 ((n1.add (l.toNat*4)).add 0) w λo1=>af .i64 ((n1.add (l.toNat*4)).add 1) w λp1=>af .i64 ((n1.add (l.toNat*4)).add 2) w λq1=>aA ((n1.add (l.toNat*4)).add 3) w λr1 s1 t1=>gz j o1 p1 q1 r1 s1 t1 w λu1 v1 x1 y1 z1 a2 b2 c2 d2 e2 f2 g2 i2 j2 l2 m2 w=>lN R6 Q a b c d e f g i j l m1 w) (lN R6 Q a b c d e f g i j l m1 w)) (qq w λn2 w=>cond n2 (i_ g w λo2 p2 q2 w=>i_ i w λr2 s2 t2 w=>pE o2 p2 q2 r2 s2 t2 w λu2 w=>cond u2 (lT g w λv2 x2 y2 z2 a3 w=>lT i w λb3 c3 d3 e3 f3 w=>nV v2 x2 y2 z2 a3 b3 c3 d3 e3 f3 w λg3 w=>Q g3 w) (Q false w)) (Q false w))
def mH (Q:Bool->WP):Nat->L3 (L3 (OA->OA->OA->Int->WP))
 |0,_,_,_,_,_,_,_,_,_,_,_=>False
 |k+1,a,b,c,d,e,f,g,i,j,l,w=>mG Q (mH Q k) a b c d e f g i j l w
def KD {P6}(Q)(H6:Bk 100 Tryz.f9 (pC Q) 6 [(11,.l),(12,.l),(13,.p),(14,.p),(15,.p),(16,.i .i64)] P6):Bk 100 Tryz.f9 (pC Q) 11 [(11,.l),(12,.l),(13,.p),(14,.p),(15,.p),(16,.i .i64),(17,.a)] (lN P6 Q):=aS (ok 100) [] [aO H6]
def LO (Q):∀k,Bk 100 Tryz.f9 (pC Q) 6 [(11,.l),(12,.l),(13,.p),(14,.p),(15,.p),(16,.i .i64)] (mH Q k):=bH λk h=>aS (ok 100) [] [aO (KD Q h)]
def JV:=λa b c d e f g i j l m w Q=>bB (AI a b c d e f g i j l m w Q) (r6 f g i 30 w λn o p w=>l_ a b c d e n o p w λq r s w=>r6 j l m 30 w λt u v w=>l_ b a c d e t u v w λx y z w=>wL 3 5 w λa1 w=>wL 3 5 w λb1 w=>wL 3 5 w λc1 w=>cond a1.isNone (Q false w) (cond b1.isNone (Q false w) (cond c1.isNone (Q false w) (∃k',mH Q k' q r s x y z a1 b1 c1 0 w)))) (ok 100) [] [cg (LO Q)] Tryz.func9
def SW:=λa w Q=>bB (Gn a w Q) (wA a λb=>cw (b.add 1) w λc=>dV c λd=>Q d w) (ok 7) [] [] Tryz.func302
def Nk:=λa w Q=>bB (Dp a w Q) (wA a λb=>cw (b.add 1) w λc=>dV c λd=>Q d w) (ok 7) [] [] Tryz.func321
def Q6:=λa w Q=>bB (Fz a w Q) (wA a λb=>cw (b.add 1) w λc=>dV c λd=>Q d w) (ok 7) [] [] Tryz.func325
end Go.Proofs.YtmegplnmiepfbaaGreatDoor.S
namespace Go.Proofs.YtmegplnmiepfbaaGreatDoor.S
open Go.Sx
attribute [local irreducible] af cQ bG bp aA cE cw St Bx Al App cV cO cM bZ aQ bI au cj ax ak bg mapA
def dQ:wS P T:=EJ P rows HN
def d_ {a b:Int}(h:a=b):(a==b)=true:=by grind
def cN {a b:Int}(h:¬a=b):(a==b)=false:=by grind
def Gw {a b:Int}(h:¬a=b):(a !=b)=true:=by grind
def Ez {a b:Int}(h:a=b):(a !=b)=false:=by grind
section
variable {F:Nat->Prop}{W w0:World}{L:List As}{mw mh c:Int}
def pW {Q:Bool->World->Prop}(h:Q (decide (iM mw mh)) w0):lH mw mh w0 Q:=by
 apply abu;have e:decide (iM mw mh)=(decide (mw≥1)&&(decide (mw<=1024)&&(decide (mh≥1)&&decide (mh<=1024)))):=by rw[Bool.eq_iff_iff];simp[Bool.and_eq_true,decide_eq_true_eq];exact⟨λ⟨⟨a,b⟩,c,d⟩=>⟨a,b,c,d⟩,λ⟨a,b,c,d⟩=>⟨⟨a,b⟩,c,d⟩⟩
 grind
def Ia {Q:Bool->World->Prop}(h:Q (decide (bJ mw mh c)) w0):yQ mw mh c w0 Q:=by
 apply adL;apply pW;by_cases hm:iM mw mh
 ·have:=pA hm;rw[bK hm,aH];have e:decide (bJ mw mh c)=(decide (c≥0)&&decide (c<mw*mh)):=by rw[Bool.eq_iff_iff];simp[bJ,Bool.and_eq_true,decide_eq_true_eq,hm,true_and,ge_iff_le]
  grind
 ·rw[bu hm];rw[decide_eq_false (λe=>hm e.1)]at h;exact h
def rf {x y:Int}{Q:Int->World->Prop}(h:Q (g6 mw mh x y) w0):z6 mw mh x y w0 Q:=by
 apply ZH;apply pW;by_cases hm:iM mw mh
 ·rw[decide_eq_true hm,Bool.not_true,cond_false];by_cases h1:x<0
  ·rw[bK h1];rw[sP (by omega)]at h;exact h
  rw[bu h1];by_cases h2:x≥mw
  ·rw[bK h2];rw[sP (by omega)]at h;exact h
  rw[bu h2];by_cases h3:y<0
  ·rw[bK h3];rw[sP (by omega)]at h;exact h
  rw[bu h3];by_cases h4:y≥mh
  ·rw[bK h4];rw[sP (by omega)]at h;exact h
  rw[bu h4];rw[nj hm (by omega) (by omega)]at h;have hr:=Vp (abb (x:=x) (y:=y) hm (by omega) (by omega));have h0:0<=y*mw:=Int.mul_nonneg (by omega) (by omega);rw[aH (n:=y*mw),aH];exact h
 ·unfold g6 at h;grind
def DN {Q:Int->Int->World->Prop}(s0:Sep F W w0 L)(h:∀w',Sep F W w' L->Fr No w0 w'->Q (if bJ mw mh c then c%mw else-1) (if bJ mw mh c then c/mw else-1) w'):td mw mh c w0 Q:=by
 apply X7;apply Ia;by_cases hc:bJ mw mh c
 ·have Vl:=hc.2;have hx:=IB hc;have Ee:=hc.1.2;rw[decide_eq_true hc,Bool.not_true,cond_false];refine⟨by omega,⟨by omega,?_⟩⟩;rw[Int.tmod_eq_emod_of_nonneg Vl.1,Int.tdiv_eq_ediv_of_nonneg Vl.1,aH];have:=h _ (ay s0) Fr.refl;grind
 ·have:=h _ s0 Fr.refl;grind
def kK {sd:Int}{Q:Int->World->Prop}(s0:Sep F W w0 L)(h:∀w',Sep F W w' L->Fr No w0 w'->Q (bf mw mh c sd) w'):n7 mw mh c sd w0 Q:=by
 apply ZK;refine DN s0 λw s f=>?_;have h:=h w s f;unfold bf at h;by_cases hc:bJ mw mh c
 ·rw[if_pos hc,if_pos hc];rw[if_pos hc]at h;have hx:=IB hc;have hm:=hc.1.1;have Ee:=hc.1.2;rw[bu];by_cases k0:sd=0
  ·rw[d_ k0,cond_true];rw[if_pos k0]at h;unfold xk nB;rw[aH];exact rf h
  rw[cN k0,cond_false];rw[if_neg k0]at h;by_cases k2:sd=2
  ·rw[d_ k2,cond_true];rw[if_pos k2]at h;unfold xk nB;rw[aH];exact rf h
  rw[cN k2,cond_false];rw[if_neg k2]at h;by_cases k3:sd=3
  ·rw[d_ k3,cond_true];rw[if_pos k3]at h;unfold xl nB;rw[aH];exact rf h
  rw[cN k3,cond_false];rw[if_neg k3]at h;by_cases k1:sd=1
  ·rw[d_ k1,cond_true];rw[if_pos k1]at h;unfold xl nB;rw[aH];exact rf h
  rw[cN k1,cond_false];rw[if_neg k1]at h;by_cases k4:sd=4
  ·rw[d_ k4,cond_true];rw[if_pos k4]at h;exact rf h
  grind
 grind
def Ap (w h a b:Int):Int:=
 if bJ w h a/\bJ w h b then if bf w h a 0=b then 0 else if bf w h a 1=b then 1 else if bf w h a 2=b then 2 else if bf w h a 3=b then 3 else if bf w h a 4=b then 4 else 5 else 5
def Z5 {b:Int}{Q:Int->World->Prop}(s0:Sep F W w0 L)(h:∀w',Sep F W w' L->Fr No w0 w'->Q (Ap mw mh c b) w'):EW mw mh c b w0 Q:=by
 apply ZP;apply Ia;by_cases hc:bJ mw mh c
 ·rw[decide_eq_true hc,Bool.not_true,cond_false];apply Ia;by_cases hb:bJ mw mh b
  ·rw[decide_eq_true hb,Bool.not_true,cond_false];have s:=aX (F:=No) (w:=w0);have fin:∀(w:World) (r:Int),Ap mw mh c b=r->Sep No w0 w []->Q r w:=by intro w r e s;subst e;exact h _ (bP s0 (aq s)) (aq s)
   unfold Ap at fin;refine⟨6,?_⟩;show iD Q (mX Q 5) _ _ _ _ _ _;unfold iD;refine kK s λw s _=>?_;by_cases k0:bf mw mh c 0=b
   ·grind
   rw[cN k0,cond_false,wrap_i64 (by decide) (by decide)];show iD Q (mX Q 4) _ _ _ _ _ _;unfold iD;refine kK s λw s _=>?_;by_cases k0:bf mw mh c 1=b
   ·grind
   rw[show(bf mw mh c (0+1)==b)=false from cN k0,cond_false,wrap_i64 (by decide) (by decide)];show iD Q (mX Q 3) _ _ _ _ _ _;unfold iD;refine kK s λw s _=>?_;by_cases k0:bf mw mh c 2=b
   ·grind
   rw[show(bf mw mh c (0+1+1)==b)=false from cN k0,cond_false,wrap_i64 (by decide) (by decide)];show iD Q (mX Q 2) _ _ _ _ _ _;unfold iD;refine kK s λw s _=>?_;by_cases k0:bf mw mh c 3=b
   ·grind
   rw[show(bf mw mh c (0+1+1+1)==b)=false from cN k0,cond_false,wrap_i64 (by decide) (by decide)];show iD Q (mX Q 1) _ _ _ _ _ _;unfold iD;refine kK s λw s _=>?_;by_cases k0:bf mw mh c 4=b
   ·grind
   rw[show(bf mw mh c (0+1+1+1+1)==b)=false from cN k0,cond_false,wrap_i64 (by decide) (by decide)];show iD Q (mX Q 0) _ _ _ _ _ _;unfold iD;grind
  ·have:=h _ s0 Fr.refl;unfold Ap at this;grind
 ·have:=h _ s0 Fr.refl;unfold Ap at this;grind
def Z6 (w h:Int):Int:=if iM w h then cJ w else 0
def ad1 (w h:Int):Int:=if iM w h then cJ h else 0
def qQ {Q:Int->Int->World->Prop}(h:Q (Z6 mw mh) (ad1 mw mh) w0):lq mw mh w0 Q:=by
 apply Uz;apply pW;unfold Z6 ad1 at h;by_cases hm:iM mw mh
 ·have h1:=hm.1;have h2:=hm.2;rw[decide_eq_true hm,Bool.not_true,cond_false];refine⟨by decide,by decide,?_⟩;rw[aH (n:=mw+16),aH (n:=mw+16-1),aH (n:=mh+16),aH (n:=mh+16-1),
   Int.tdiv_eq_ediv_of_nonneg (by omega),Int.tdiv_eq_ediv_of_nonneg (by omega),aH,aH]
  unfold cJ at h;grind
 grind
def eY {Q:Int->World->Prop}(s0:Sep F W w0 L)(h:∀w',Sep F W w' L->Fr No w0 w'->Q (aC mw mh c) w'):dY mw mh c w0 Q:=by
 apply VO;refine DN s0 λw s f=>?_;have h:=h w s f;unfold aC at h;by_cases hc:bJ mw mh c
 ·rw[if_pos hc,if_pos hc];have hs:=(bT hc).2;unfold aC at hs;rw[if_pos hc]at h hs;have hx:=IB hc;have hm:=hc.1;have ha:=Fl hm.1;have hcs:=gQ hm.1 hm.2;rw[bu];apply qQ;rw[Z6,if_pos hm];refine⟨by decide,by decide,?_⟩;have h2:=hm.2;have a:0<=c/mw/16*cJ mw:=Int.mul_nonneg (by omega) (by omega);rw[Int.tdiv_eq_ediv_of_nonneg (by omega),Int.tdiv_eq_ediv_of_nonneg (by omega),aH (n:=c/mw/16),aH (n:=c%mw/16),aH (n:=c/mw/16*cJ mw),aH];exact h
 grind
def Jc {sc:Int}{Q:Int->Int->Bool->World->Prop}(s0:Sep F W w0 L)(h:∀w',Sep F W w' L->Fr No w0 w'->Q (if dW mw mh sc then sc%cJ mw*16 else 0) (if dW mw mh sc then sc/cJ mw*16 else 0) (decide (dW mw mh sc)) w'):w8 mw mh sc w0 Q:=by
 apply VL;apply qQ;have no:¬dW mw mh sc->Q 0 0 false w0:=λhn=>by have:=h _ s0 Fr.refl;grind
 by_cases h0:sc<0
 ·rw[bK h0];exact no λe=>by have:=e.2;omega
 rw[bu h0];unfold Z6 ad1;by_cases hm:iM mw mh
 ·rw[if_pos hm,if_pos hm];have hcs:=gQ hm.1 hm.2;have e:cJ mw*cJ mh=eV mw mh:=rfl;rw[e,aH];by_cases h1:sc≥eV mw mh
  ·rw[bK h1];exact no λe=>by have:=e.2;omega
  rw[bu h1];have hs:dW mw mh sc:=⟨hm,by omega,by omega⟩;have hx:=I0 hm.1 hm.2 hs.2;have ha:=Fl hm.1;have q1:=hm.1;have q2:=hm.2;refine⟨by omega,by omega,?_⟩;rw[Int.tmod_eq_emod_of_nonneg (by omega),Int.tdiv_eq_ediv_of_nonneg (by omega),aH (n:=sc/cJ mw),aH,aH];have:=h _ (ay s0) Fr.refl;grind
 ·rw[if_neg hm,if_neg hm,show IntKind.wrap .i64 (0*0)=0 from rfl,bK];exact no λe=>hm e.1
def vo {sc:Int}{Q:Int->Int->World->Prop}(s0:Sep F W w0 L)(h:∀w',Sep F W w' L->Fr No w0 w'->Q (Zm mw mh sc) (adl mw mh sc) w'):n8 mw mh sc w0 Q:=by
 apply ZC;refine Jc s0 λw s f=>?_;have h:=h w s f;unfold Zm adl at h;by_cases hs:dW mw mh sc
 ·have hx:=I0 hs.1.1 hs.1.2 hs.2;have q1:=hs.1.1;have q2:=hs.1.2;rw[aH,aH];have e1:Dy 16 (mw-sc%cJ mw*16)=aE mw mh sc:=by unfold Dy aE;omega
  have e2:Dy 16 (mh-sc/cJ mw*16)=bw mw mh sc:=by unfold Dy bw;omega
  grind
 grind
def tE {Q:Int->World->Prop}(s0:Sep F W w0 L)(h:∀w',Sep F W w' L->Fr No w0 w'->Q (dX mw mh c) w'):nk mw mh c w0 Q:=by
 apply X8;refine DN s0 λw s f=>?_;by_cases hc:bJ mw mh c
 ·rw[if_pos hc,if_pos hc];have hx:=IB hc;have hl:=j7 hc;have hs:=bT hc;have hz:=qT hc.1.1 hc.1.2 hs.2;have el:dX mw mh c=c/mw%16*aE mw mh (aC mw mh c)+c%mw%16:=if_pos hc;rw[bu];refine eY s λw s f2=>?_;refine vo s λw s f3=>?_;refine⟨by decide,by decide,?_⟩;rw[Zm,if_pos hs,Int.tmod_eq_emod_of_nonneg (by omega),Int.tmod_eq_emod_of_nonneg (by omega)];have a:=Int.mul_le_mul hz.1.2 hz.2.2 (by omega) (by decide);rw[aH (n:=c/mw%16*aE mw mh (aC mw mh c)),aH,<-el];exact h _ s ((f.trans f2 (λ_ _=>id)).trans f3 (λ_ _=>id))
 ·have h:=h _ s f;unfold dX at h;grind
def xx {sc l:Int}{Q:Int->World->Prop}(s0:Sep F W w0 L)(h:∀w',Sep F W w' L->Fr No w0 w'->Q (CN mw mh sc l) w'):om mw mh sc l w0 Q:=by
 apply VM;refine Jc s0 λw s f=>?_;refine vo s λw s f2=>?_;have f:=f.trans f2 (λ_ _=>id);have no:¬(dW mw mh sc/\0<=l/\l<aE mw mh sc*bw mw mh sc)->Q (-1) w:=λhn=>by have:=h _ s f;unfold CN at this;grind
 by_cases hs:dW mw mh sc
 ·unfold Zm adl;rw[if_pos hs,if_pos hs,if_pos hs,if_pos hs,decide_eq_true hs,Bool.not_true,cond_false];have hx:=I0 hs.1.1 hs.1.2 hs.2;have hz:=qT hs.1.1 hs.1.2 hs.2;have q1:=hs.1.1;have q2:=hs.1.2;have a:=Int.mul_le_mul hz.1.2 hz.2.2 (by omega) (by decide);have b:0<=aE mw mh sc*bw mw mh sc:=Int.mul_nonneg (by omega) (by omega);rw[aH];by_cases h0:l<0
  ·grind
  rw[bu h0];by_cases h1:l≥aE mw mh sc*bw mw mh sc
  ·grind
  rw[bu h1];have hl:0<=l/\l<aE mw mh sc*bw mw mh sc:=by omega
  have hxy:=PA hs hl;refine⟨by omega,by omega,?_⟩;rw[Int.tmod_eq_emod_of_nonneg (by omega),Int.tdiv_eq_ediv_of_nonneg (by omega),aH (n:=l/aE mw mh sc),aH,aH];apply rf;have h:=h _ (ay s) f;unfold CN bU at h;rw[if_pos ⟨hs,hl⟩]at h;have e1:sc%cJ mw*16+l%aE mw mh sc<mw:=by
   have:aE mw mh sc<=mw-16*(sc%cJ mw):=by unfold aE;omega
   omega
  have e2:sc/cJ mw*16+l/aE mw mh sc<mh:=by
   have:bw mw mh sc<=mh-16*(sc/cJ mw):=by unfold bw;omega
   omega
  rw[nj hs.1 (by omega) (by omega),Int.mul_comm (sc/cJ mw) 16,Int.mul_comm (sc%cJ mw) 16,<-Int.add_assoc];exact h
 grind
end
end Go.Proofs.YtmegplnmiepfbaaGreatDoor.S
namespace Go.Proofs.YtmegplnmiepfbaaGreatDoor.S.Tl
open Go.Sx
def dQ:wS P T:=EJ P rows HN
attribute [local irreducible] af cQ bG bp aA cE cw St Bx Al App cV cO cM bZ aQ bI au cj ax ak bg
def DO (W H:Int)(cs:List Int):Bool:=decide (1<=W/\W<=16)&&(decide (1<=H/\H<=16)&&(decide ((cs.length:Int)=W*H)&&!decide ((0:Int)∈cs)))
def Z7 {W H:Int}{cs:List Int}:DO W H cs=true↔(1<=W/\W<=16)/\(1<=H/\H<=16)/\(cs.length:Int)=W*H/\(0:Int)∉cs:=by simp[DO]
section
variable {F:Nat->Prop}{W w:World}{L:List As}{a:Option Addr}{n c:Nat}{cs:List Int}
def ar5 (h:l9 w a n 1 bj cs){i:Nat}(hi:i<n):∃ad,a=some ad/\w.cell? (ad.add (i*1))=some (.int .u8 (gi cs i)):=by obtain⟨ad,e,hc⟩:=h.2 i _ (iA (by rw[h.1];exact hi));exact⟨ad,e,hc 0 _ rfl⟩
def aJ {k:IntKind}{m:Int}{ad:Addr}{K:Int->Prop}(h:w.cell? ad=some (.int k m))(hk:K m):af k ad w K:=by unfold af;grind
def LP {m:Int}{Q:Bool->World->Prop}(h:Q (decide (1<=m/\m<=16)) w):Ae m w Q:=by apply ZE;grind
def alP {v:Int}{Q:Int->World->Prop}(hA:l9 w a n 1 bj cs)(hn:n<1000000000)(hy:v∈cs->∀i:Nat,Q i w)(hno:v∉cs->Q (-1) w):
  ∀(m i:Nat),i+m=n->(∀j,j<i->gi cs j≠v)->jg Q (m+1) a n c v n i w:=by
 intro m;induction m with
 |zero=>
  intro i hi SY;show kS Q (jg Q 0) _ _ _ _ _ _ _;rw[kS,bu];refine hno λhv=>?_;obtain⟨j,hj,e⟩:=List.getElem_of_mem hv;have:=SY j (by rw[hA.1]at hj;omega);have h2:=iA hj;grind
 |succ m ih=>
  intro i hi SY;show kS Q (jg Q (m+1)) _ _ _ _ _ _ _;unfold kS;obtain⟨ad,rfl,hc⟩:=ar5 hA (i:=i) (by omega);rw[bK];refine⟨by omega,by omega,ah ?_⟩;apply aJ hc;by_cases hv:v=gi cs i
  ·rw[hv,beq_self_eq_true,cond_true];exact hy (by rw[hv];exact fA (by rw[hA.1];omega)) i
  ·rw[show(v==gi cs i)=false by grind,cond_false,aH];refine ih (i+1) (by omega) λj hj=>?_;grind
def Ib {v:Int}{Q:Bool->World->Prop}(hA:l9 w a n 1 bj cs)(hn:n<1000000000)(h:Q (decide (v∈cs)) w):iW a n c v w Q:=by
 apply FX;apply H9;refine⟨n+1,alP hA hn (λhv i=>?_) (λhv=>?_) n 0 (by omega) (λj hj=>by omega)⟩
 all_goals simp_all
def C_ {tw th:Int}{Q:Bool->World->Prop}(s:Sep F W w L)(hA:l9 w a n 1 bj cs)(h:∀w',Sep F W w' L->Fr No w w'->Q (DO tw th cs) w'):uP tw th a n c w Q:=by
 apply adB;refine aM (F:=No) aX λb1 w1 s1=>?_;have hh:=h w1 (bP s (aq s1)) (aq s1);have hA1:=hA.fr (aq s1);unfold DO at hh;apply lI s1 0 rfl;apply LP;cases h1:decide (1<=tw/\tw<=16)with
 |false=>
  grind
 |true=>
  rw[h1,Bool.true_and]at hh;apply lI s1 0 rfl;apply LP;cases h2:decide (1<=th/\th<=16)with
  |false=>
   grind
  |true=>
   rw[h2,Bool.true_and]at hh;have h1':=of_decide_eq_true h1;have h2':=of_decide_eq_true h2;apply lS s1 0 rfl;apply lI s1 0 rfl;apply lI s1 0 rfl;have hp:1<=tw*th/\tw*th<=256:=by have q1:=Int.mul_le_mul h1'.1 h2'.1 (by decide) (by omega);have q2:=Int.mul_le_mul h1'.2 h2'.2 (by omega) (by decide);omega
   rw[aH];have hl:=hA.1;by_cases h3:(cs.length:Int)=tw*th
   ·rw[decide_eq_true h3,Bool.true_and]at hh;rw[show((n:Int)==tw*th)=true by grind,cond_true];apply lS s1 0 rfl;exact Ib hA1 (by omega) hh
   grind
def isB (tw th:Int)(cs:List Int)(l:Int):Bool:=decide (0<=l/\l<(cs.length:Int))&&DO tw th cs
def agK {tw th l:Int}{Q:Bool->World->Prop}(s:Sep F W w L)(hA:l9 w a n 1 bj cs)(h:∀w',Sep F W w' L->Fr No w w'->Q (isB tw th cs l) w'):JF tw th a n c l w Q:=by
 apply agG;refine aM (F:=No) aX λb1 w1 s1=>?_;have hh:=h w1 (bP s (aq s1)) (aq s1);have hA1:=hA.fr (aq s1);have hl:=hA.1;unfold isB at hh;by_cases h1:l≥0
 ·rw[bK h1];apply lS s1 0 rfl;by_cases h2:l<(n:Int)
  ·rw[bK h2];apply lI s1 0 rfl;apply lI s1 0 rfl;apply lS s1 0 rfl;refine C_ s1 hA1 λw2 s2 k2=>?_;have hh:=h w2 (bP s (aq s2)) (aq s2);unfold isB at hh;grind
  grind
 grind
def atI (tw th:Int)(cs:List Int)(l:Int):Int:=cond (isB tw th cs l) (gi cs l.toNat) 0
def agL {tw th l:Int}{Q:Int->World->Prop}(s:Sep F W w L)(hA:l9 w a n 1 bj cs)(hcs:∀x∈cs,0<=x/\x<256)(h:∀w',Sep F W w' L->Fr No w w'->Q (atI tw th cs l) w'):JE tw th a n c l w Q:=by
 apply agH;refine aM (F:=No) aX λb1 w1 s1=>?_;apply lI s1 0 rfl;apply lI s1 0 rfl;apply lS s1 0 rfl;refine agK s1 (hA.fr (aq s1)) λw2 s2 k2=>?_;have hh:=h w2 (bP s (aq s2)) (aq s2);have hA2:=hA.fr (aq s2);have hl:=hA.1;unfold atI at hh;cases hb:isB tw th cs l with
 |false=>
  grind
 |true=>
  rw[hb,cond_true]at hh;have hr:0<=l/\l<(cs.length:Int):=by unfold isB at hb;grind
  obtain⟨i,rfl⟩:∃i:Nat,l=i:=⟨l.toNat,by omega⟩;obtain⟨ad,rfl,hc⟩:=ar5 hA2 (i:=i) (by omega);apply lS s2 0 rfl;refine⟨by omega,by omega,ah ?_⟩;apply aJ hc;have:=hcs _ (fA (i:=i) (by omega));rw[aH];exact hh
end
end Go.Proofs.YtmegplnmiepfbaaGreatDoor.S.Tl
namespace Go.Proofs.YtmegplnmiepfbaaGreatDoor.S.O
open Go.Sx
def dQ:wS P T:=EJ P rows HN
def xy:zc T 38=[ae 0,ae 0,ae 0,.slice none 0 0]:=rfl
def rF:zc T 137=[ae 0,ae 0,.bool false]:=rfl
attribute [local irreducible] af cQ bG bp aA cE cw St Bx Al App cV cO cM bZ aQ bI au cj ax ak bg
def Gx {F:Nat->Prop}{W w:World}{L:List As}{k:Int}{Q:Int->Int->Bool->Bool->World->Prop}(s0:Sep F W w L)(h:∀w',Sep F W w' L->Fr No w w'->Q (wT k) (BU k) (shL k) (Dz k) w'):wW k w Q:=by
 apply abr;have s:=aX (F:=No) (w:=w);by_cases hk:1<=k/\k<=8
 ·have hk':k=1\/k=2\/k=3\/k=4\/k=5\/k=6\/k=7\/k=8:=by omega
  rcases hk' with rfl|rfl|rfl|rfl|rfl|rfl|rfl|rfl
  all_goals
   repeat' first
    |apply lI s 0 rfl
    |apply lS s 0 rfl
    |apply lB s 0 rfl
    |apply lP s 0 rfl
    |apply And.intro (ck s 0 rfl)
    |apply lI s 1 rfl
    |apply lS s 1 rfl
    |apply lB s 1 rfl
    |apply lP s 1 rfl
    |apply And.intro (ck s 1 rfl)
    |(refine sT s 0 rfl λw s=>?_)
    |(refine sT s 1 rfl λw s=>?_)
    |refine aM s λb w s=>?_
    |(refine aT s λb w s=>?_;simp[xy,rF]at s)
    |unfold uQ
    |unfold mV
    |(replace s:=ay s;first
     |apply lI s 0 rfl
     |apply lS s 0 rfl
     |apply lB s 0 rfl
     |apply lP s 0 rfl
     |apply And.intro (ck s 0 rfl)
     |apply lI s 1 rfl
     |apply lS s 1 rfl
     |apply lB s 1 rfl
     |apply lP s 1 rfl
     |apply And.intro (ck s 1 rfl)
     |(refine av s (i:=0) rfl rfl rfl λw s=>?_)
     |(refine av s (i:=1) rfl rfl rfl λw s=>?_;simp[List.set_cons_zero,List.set_cons_succ]at s)
     |refine aM s λb w s=>?_
     |(refine aT s λb w s=>?_;simp[xy,rF]at s)
     |unfold uQ
     |unfold mV)
  all_goals exact h _ (bP s0 (aq s)) (aq s)
 ·have e:∀j:Int,1<=j/\j<=8->(k==j)=false:=λj hj=>by grind
  rw[e 1 (by decide),e 2 (by decide),e 3 (by decide),e 4 (by decide),e 5 (by decide),e 6 (by decide),e 7 (by decide),e 8 (by decide)]
  (refine aT s λb w s=>?_;simp[xy,rF]at s)
  (refine aT s λb w s=>?_;simp[xy,rF]at s)
  (refine av s (i:=1) rfl rfl rfl λw s=>?_)
  (refine av s (i:=1) rfl rfl rfl λw s=>?_)
  (refine av s (i:=1) rfl rfl rfl λw s=>?_)
  apply lI s 1 rfl;apply lI s 1 rfl;apply lB s 1 rfl;have:=h _ (bP s0 (aq s)) (aq s);rw[show wT k=0 by unfold wT;grind,show BU k=0 by unfold BU;grind,show shL k=false from decide_eq_false (by omega),show Dz k=false from decide_eq_false (by omega)]at this;exact this
def JW {w:World}{n:Int}{sz:Nat}{Q:Bool->World->Prop}(hs:sz<=4)(h:Q (Et n sz) w):AJ n sz w Q:=by
 apply agv;unfold Et at h;by_cases h0:n≥0
 ·rw[bK h0];have e:BL .i64 1 (IntKind.wrap .i64 (8*(sz:Int)))=256^sz/\0<=IntKind.wrap .i64 (8*(sz:Int)):=by
   have hs':sz=0\/sz=1\/sz=2\/sz=3\/sz=4:=by omega
   rcases hs' with rfl|rfl|rfl|rfl|rfl<;>decide
  refine⟨e.2,?_⟩;grind
 grind
def ad2 {a b:Int}{k:Nat}(hk:k<=24)(ha:0<=a/\a<2^k)(hb:0<=b/\b<256):ior .i64 a (BL .i64 b (k:Int))=a+b*2^k:=by
 obtain⟨m,rfl⟩:∃m:Nat,a=m:=⟨a.toNat,by omega⟩;obtain⟨p,rfl⟩:∃p:Nat,b=p:=⟨b.toNat,by omega⟩;have hm:m<2^k:=by grind
 have IZ:(2:Nat)^k<=2^24:=Nat.pow_le_pow_right (by decide) hk;have hp:p*2^k<=255*2^24:=Nat.mul_le_mul (by omega) IZ;have e1:BL .i64 (p:Int) (k:Int)=((p*2^k:Nat):Int):=by
  unfold BL;have e:min ((k:Nat):Int).toNat (IntKind.i64).bits=k:=by simp[IntKind.bits];omega
  rw[e,show(p:Int)*2^k=((p*2^k:Nat):Int) by grind,aH]
 rw[e1];rw[ior,BitVec.ofInt_natCast,BitVec.ofInt_natCast,BitVec.toNat_or,BitVec.toNat_ofNat,BitVec.toNat_ofNat];have b64:(IntKind.i64).bits=64:=rfl;rw[b64,Nat.mod_eq_of_lt (by omega),Nat.mod_eq_of_lt (by omega),Nat.or_comm,Nat.mul_comm p,<-Nat.two_pow_add_eq_or_of_lt hm];rw[Nat.mul_comm]at hp;rw[aH];grind
def aqr (l:List Int)(x:Int):pz (l++[x])=pz l+x*2^(8*l.length):=by
 induction l with
 |nil=>simp[pz]
 |cons y l ih=>
  simp[List.cons_append,pz,ih,List.length_cons];grind
def anV {l:List Int}{i:Nat}(h:i<l.length):l.take (i+1)=l.take i++[gi l i]:=by rw[List.take_add_one,iA h];rfl
section
variable {F:Nat->Prop}{W w:World}{L:List As}{a:Option Addr}{n c:Nat}{bs:List Int}
def Gy {Q:Int->World->Prop}(hA:Sl w a n c 1 bj bs)(hr:dJ bs)(hn:n<=4)(h:Q (pz bs) w):wZ a n c w Q:=by
 apply abt;have loop:∀(m i:Nat),i+m=n->wN Q (m+1) (pz (bs.take i)) a n c n i w:=by
  intro m;induction m with
  |zero=>
   intro i hi;show AL Q (wN Q 0) _ _ _ _ _ _ _;rw[AL,bu,List.take_of_length_le (by rw[hA.len];omega)];exact h
  |succ m ih=>
   intro i hi;show AL Q (wN Q (m+1)) _ _ _ _ _ _ _;rw[AL,bK];apply Sl.Di hA rfl (by omega);have hv:=hr _ (fA (i:=i) (by rw[hA.len];omega));rw[aH,aH,aH];refine⟨by omega,?_⟩;have li:(bs.take i).length=i:=by rw[List.length_take,hA.len];omega
   have e:=aa_ (hr.take i);have e2:(256:Int)^i=2^(8*i):=by rw[Int.pow_mul];rfl
   rw[show 8*(i:Int)=((8*i:Nat):Int) by grind,ad2 (by omega) (by grind) hv];have:=ih (i+1) (by omega);rw[anV (by rw[hA.len];omega),aqr,li]at this;exact this
 have:=loop n 0 (by omega);exact⟨n+1,this⟩
end
end Go.Proofs.YtmegplnmiepfbaaGreatDoor.S.O
namespace Go.Proofs.YtmegplnmiepfbaaGreatDoor.S.O
open Go.Sx
attribute [local irreducible] af cQ bG bp aA cE cw St Bx Al App cV cO cM bZ aQ bI au cj ax ak bg
section
variable {F:Nat->Prop}{W w:World}{L:List As}{a:Option Addr}{n c:Nat}{bs:List Int}
def clone {K:Option Addr->Nat->Nat->World->Prop}(s:Sep F W w L)(h:Sl w a n c 1 bj bs)(hn:n<=1000000000000)(k:∀ra rc w',Sep F W w' (ak ra n rc 5 1 (flat bj bs)::L)->K ra n rc w'):
  App P #[22,22] 22 (.slice none 0 0) (.slice a n c) w K:=by
 have src:=h.src (e:=5) dg A2;refine iq dQ (bC s 5 1) (i:=0) (bytes:=1) rfl rfl rfl rfl rfl rfl (by decide) rfl src (by simp[maxLen];omega) (by omega) h.nil λa1 c1 w1 s1=>?_;grind
def auF {K:Option Addr->Nat->Nat->World->Prop}{b:Nat}(s:Sep F W w (ax b 5 []::L))(h:Sl w a n c 1 bj bs)(hn:n<=1000000000000)(k:∀ra rc w',Sep F W w' (ak ra n rc 5 1 (flat bj bs)::L)->K ra n rc w'):
  App P #[22,22] 22 (.slice (sZ b) 0 0) (.slice a n c) w K:=by
 have src:=h.src (e:=5) dg A2;have s:=g7 (n:=0) (size:=1) s (i:=0) rfl rfl (by decide) (by simp);refine iq dQ s (i:=0) (bytes:=1) rfl rfl rfl rfl rfl rfl (by decide) rfl src (by simp[maxLen];omega) (by omega) h.nil λa1 c1 w1 s1=>?_;grind
def agM {w0:World}{Q:Int->Int->Int->Option Addr->Nat->Nat->Int->World->Prop}(s0:Sep F W w0 L)(hA:Sl w0 a n c 1 bj bs)(hr:dJ bs)(hn:0<n)(hn2:n<=1000000000000)
  (h:∀ra rn rc w',rn=(Bj bs).1.m.length->Sep F W w' (ak ra rn rc 5 1 (flat bj (Bj bs).1.m)::L)->Fr No w0 w'->Q (Bj bs).1.k (Bj bs).1.A (Bj bs).1.B ra rn rc ((Bj bs).2:Nat) w'):JD a n c w0 Q:=by
 apply agu;have hl:=hA.len;cases bs with
 |nil=>grind
 |cons x r=>
  obtain⟨hx,hr⟩:=hr.cons;rw[List.length_cons]at hl;have s:=aX (F:=No) (w:=w0);have rr:=hr
  (refine aT s λb w s=>?_;simp[xy,rF]at s)
  apply Sl.Di (hA.fr (aq s)).drew rfl (by omega);have g0:gi (x::r) 0=x:=rfl;rw[g0,aH];refine hA.lo (m:=1) rfl (by omega) λta tn tc Q7 hT=>?_;have hT:Sl w0 ta tn tc 1 bj r:=hT;refine Gx (ay s) λw s k=>?_
  (refine aT s λb w s=>?_;simp[xy,rF]at s)
  (refine av s (i:=0) rfl rfl rfl λw s=>?_)
  (refine av s (i:=0) rfl rfl rfl λw s=>?_)
  (refine av s (i:=0) rfl rfl rfl λw s=>?_)
  have short:Bj (x::r)=(⟨0,0,0,[]⟩,0)->∀w',Fr No w0 w'->Q 0 0 0 none 0 0 0 w':=λe w' f=>by rw[e]at h;exact h none 0 0 w' rfl (bC (bP s0 f) 5 1) f
  cases hk:Dz x with
  |false=>
   have e:Bj (x::r)=(⟨0,x,0,[]⟩,1):=by rw[CM,if_neg (by grind)]
   rw[e]at h
   (refine av s (i:=1) rfl rfl rfl λw s=>?_)
   (refine av s (i:=1) rfl rfl rfl λw s=>?_)
   (refine av s (i:=1) rfl rfl rfl λw s=>?_)
   (refine av s (i:=1) rfl rfl rfl λw s=>?_)
   apply lI s 1 rfl;apply lI s 1 rfl;apply lI s 1 rfl;apply lS s 1 rfl;exact h none 0 0 _ rfl (bC (bP s0 (aq s)) 5 1) (aq s)
  |true=>
   apply lB s 0 rfl;cases hL:shL x with
   |true=>
    by_cases h4:tn<4
    ·rw[bK]
     (refine av s (i:=1) rfl rfl rfl λw s=>?_)
     (refine av s (i:=1) rfl rfl rfl λw s=>?_)
     (refine av s (i:=1) rfl rfl rfl λw s=>?_)
     (refine av s (i:=1) rfl rfl rfl λw s=>?_)
     apply lI s 1 rfl;apply lI s 1 rfl;apply lI s 1 rfl;apply lS s 1 rfl;exact short (by rw[CM,if_pos hk,if_pos hL,AH]) _ (aq s)
    ·rw[bu];refine hT.hi (m:=4) rfl (by omega) λua uc hU=>?_;apply Gy (hU.fr (aq s)) (rr.take 4) (by decide);have l4:(r.take 4).length=4:=by grind
     have rg:=aa_ (rr.take 4);rw[aH];by_cases h5:(tn:Int)-4<pz (r.take 4)
     ·rw[bK h5]
      (refine av s (i:=1) rfl rfl rfl λw s=>?_)
      (refine av s (i:=1) rfl rfl rfl λw s=>?_)
      (refine av s (i:=1) rfl rfl rfl λw s=>?_)
      (refine av s (i:=1) rfl rfl rfl λw s=>?_)
      apply lI s 1 rfl;apply lI s 1 rfl;apply lI s 1 rfl;apply lS s 1 rfl;exact short (by rw[CM,if_pos hk,if_pos hL,fR,AH]) _ (aq s)
     ·rw[bu h5,aH,aH];have e:Bj (x::r)=(⟨x,0,0,(r.drop 4).take (pz (r.take 4)).toNat⟩,5+(pz (r.take 4)).toNat):=by rw[CM,if_pos hk,if_pos hL,fR,fR]
      rw[e]at h;refine hT.mid (p:=4) (q:=4+(pz (r.take 4)).toNat) rfl (by omega) (by omega) (by omega) λva vn vc hvn hV=>?_;rw[show 4+(pz (r.take 4)).toNat-4=(pz (r.take 4)).toNat by omega]at hvn hV;refine clone s (hV.fr (aq s)) (by omega) λra rc w s=>?_
      (refine av s (i:=2) rfl rfl rfl λw s=>?_)
      (refine av s (i:=2) rfl rfl rfl λw s=>?_)
      (refine av s (i:=2) rfl rfl rfl λw s=>?_)
      (refine av s (i:=2) rfl rfl rfl λw s=>?_)
      apply lI s 2 rfl;apply lI s 2 rfl;apply lI s 2 rfl;apply lS s 2 rfl;have hq:=h ra vn rc _ (by grind) (dz s0 s (i:=0) rfl) (aq s);grind
   |false=>
    apply lI s 0 rfl;apply lI s 0 rfl;have hab:=aqm x;rw[aH];by_cases h5:tn<wT x+BU x
    ·rw[bK]
     (refine av s (i:=1) rfl rfl rfl λw s=>?_)
     (refine av s (i:=1) rfl rfl rfl λw s=>?_)
     (refine av s (i:=1) rfl rfl rfl λw s=>?_)
     (refine av s (i:=1) rfl rfl rfl λw s=>?_)
     apply lI s 1 rfl;apply lI s 1 rfl;apply lI s 1 rfl;apply lS s 1 rfl;exact short (by rw[CM,if_pos hk,if_neg (by grind),AH]) _ (aq s)
    ·rw[bu];have e:Bj (x::r)=(⟨x,pz (r.take (wT x)),pz ((r.drop (wT x)).take (BU x)),[]⟩,1+wT x+BU x):=by rw[CM,if_pos hk,if_neg (by grind),fR]
     rw[e]at h;have s:=ay s;apply lI s 0 rfl;refine hT.hi (m:=wT x) rfl (by omega) λua uc hU=>?_;apply lI s 0 rfl;apply lI s 0 rfl;apply lI s 0 rfl;rw[aH];refine hT.mid (p:=wT x) (q:=wT x+BU x) rfl (by omega) (by omega) (by omega) λva vn vc hvn hV=>?_;apply lI s 0 rfl;apply lI s 0 rfl;apply Gy (hU.fr (aq s)) (rr.take _) (by omega);apply And.intro (ck s 0 rfl);apply And.intro (ck s 0 rfl);apply And.intro (ck s 0 rfl);apply And.intro (ck s 0 rfl);apply And.intro (ck s 0 rfl);apply Gy (hV.fr (aq s)) ((rr.drop _).take _) (by omega);apply And.intro (ck s 0 rfl);apply And.intro (ck s 0 rfl)
     (refine av s (i:=1) rfl rfl rfl λw s=>?_)
     (refine av s (i:=1) rfl rfl rfl λw s=>?_)
     (refine av s (i:=1) rfl rfl rfl λw s=>?_)
     (refine av s (i:=1) rfl rfl rfl λw s=>?_)
     apply And.intro (ck s 0 rfl);apply And.intro (ck s 0 rfl);apply lI s 1 rfl;apply lI s 1 rfl;apply lI s 1 rfl;apply lS s 1 rfl;rw[aH (n:=(1:Int)+(wT x:Int)),aH];have hq:=h none 0 0 _ rfl (bC (bP s0 (aq s)) 5 1) (aq s);grind
def aim {Q:Bool->World->Prop}(s0:Sep F W w L)(hA:Sl w a n c 1 bj bs)(hr:dJ bs)(hn2:n<=1000000000000)(h:∀w',Sep F W w' L->Fr No w w'->Q (aqn bs) w'):Ll a n c w Q:=by
 apply aic;have hl:=hA.len;by_cases h0:n=0
 ·subst h0;have:bs=[]:=List.eq_nil_of_length_eq_zero hl;subst this;have:=h w s0 Fr.refl;exact this
 ·rw[show((n:Int)==0)=false by grind,cond_false];have s:=aX (F:=No) (w:=w);refine agM s hA hr (by omega) hn2 λra rn rc w _ s _=>?_
  (refine aT s λb w s=>?_;simp[xy,rF]at s)
  (refine av s (i:=0) rfl rfl rfl λw s=>?_)
  (refine av s (i:=0) rfl rfl rfl λw s=>?_)
  (refine av s (i:=0) rfl rfl rfl λw s=>?_)
  (refine av s (i:=0) rfl rfl rfl λw s=>?_)
  have hq:=h _ (bP s0 (aq s)) (aq s);have hne:bs≠[]:=λe=>by grind
  unfold aqn at hq;rw[decide_eq_true hne,Bool.true_and]at hq;rw[show(((Bj bs).2:Int)==0)=decide ((Bj bs).2=0) by grind];exact hq
end
def ain {F:Nat->Prop}{W w0:World}{L:List As}{a:Option Addr}{n c:Nat}{o:j6}{Q:Bool->World->Prop}(s0:Sep F W w0 L)(hA:Sl w0 a n c 1 bj o.m)(hr:dJ o.m)(hn2:n<=1000000000000)(h:∀w',Sep F W w' L->Fr No w0 w'->Q (EM o) w'):Lh o.k o.A o.B a n c w0 Q:=by
 apply aid;obtain⟨k,A,B,m⟩:=o;simp only at hA hr h⊢;have hl:=hA.len;have hm0:((n:Int)==0)=decide (m=[]):=by
  rw[Bool.eq_iff_iff,beq_iff_eq,decide_eq_true_eq];constructor
  ·intro e;simp_all
  grind
 have s:=aX (F:=No) (w:=w0);have hh:∀w' Ls,Sep No w0 w' Ls->Q (EM ⟨k,A,B,m⟩) w':=λw' Ls s=>h w' (bP s0 (aq s)) (aq s);unfold EM at hh;refine aM s λb w s=>?_;apply lI s 0 rfl;by_cases hk:k=0
 ·rw[show(k==0)=true by grind,cond_true];apply lI s 0 rfl;by_cases hA1:A=-1
  ·rw[show(A==-1)=true by grind,cond_true];apply lI s 0 rfl;by_cases hB:B=0
   ·rw[show(B==0)=true by grind,cond_true];apply lS s 0 rfl;refine aim s (hA.fr (aq s)) hr hn2 λw s _=>?_;grind
   grind
  ·rw[show(A==-1)=false by grind,cond_false];apply lI s 0 rfl;refine Gx s λw s _=>?_
   (refine aT s λb w s=>?_;simp[xy,rF]at s)
   (refine av s (i:=0) rfl rfl rfl λw s=>?_)
   (refine av s (i:=0) rfl rfl rfl λw s=>?_)
   (refine av s (i:=0) rfl rfl rfl λw s=>?_)
   apply lI s 1 rfl;apply JW (by decide);cases hf:Et A 1 with
   |false=>
    grind
   |true=>
    cases hs:Dz A with
    |true=>
     grind
    |false=>
     apply lI s 1 rfl;by_cases hB:B=0
     ·rw[show(B==0)=true by grind,cond_true];apply lS s 1 rfl;grind
     grind
 ·simp[if_neg hk]at hh;rw[show(k==0)=false by grind,cond_false];apply lI s 0 rfl;refine Gx s λw s _=>?_
  (refine aT s λb w s=>?_;simp[xy,rF]at s)
  (refine av s (i:=0) rfl rfl rfl λw s=>?_)
  (refine av s (i:=0) rfl rfl rfl λw s=>?_)
  (refine av s (i:=0) rfl rfl rfl λw s=>?_)
  cases hs:Dz k with
  |false=>
   grind
  |true=>
   have hab:=aqm k;apply lI s 1 rfl;apply lI s 0 rfl;apply JW hab.1;cases hf:Et A (wT k)with
   |false=>
    grind
   |true=>
    apply lI s 1 rfl;apply lI s 0 rfl;apply JW hab.2;cases hg:Et B (BU k)with
    |false=>
     grind
    |true=>
     apply lS s 1 rfl;rw[hm0];by_cases hm:m=[]
     ·grind
     ·rw[bu hm];apply lB s 0 rfl;have:=hh _ _ s;cases hL:shL k with
      |false=>grind
      |true=>
       apply lS s 1 rfl;rw[hs,hf,hg,decide_eq_false hm,Bool.false_or,Bool.true_and,Bool.true_and,Bool.true_and,hL,Bool.true_and]at this;rwa[show decide ((n:Int)<=4294967295)=decide (m.length<=4294967295)from decide_eq_decide.2 (by omega)]
structure FH where
 k:Int
 A:Int
 B:Int
 a:Option Addr
 n:Nat
 c:Nat
def Ef (v:FH):List Value:=[ae v.k,ae v.A,ae v.B,.slice v.a v.n v.c]
def atb (v:FH):(Ef v).length=4:=rfl
def akO (v:FH)(u:Value)(h:u∈Ef v):u.oneCell'=true:=by simp[Ef,List.mem_cons,List.not_mem_nil,or_false]at h;rcases h with rfl|rfl|rfl|rfl<;>rfl
structure OpV (w:World) (v:FH) (o:j6):Prop where
 k:v.k=o.k
 A:v.A=o.A
 B:v.B=o.B
 m:Sl w v.a v.n v.c 1 bj o.m
 jE:dJ o.m
def OpV.fr {w w':World}{v:FH}{o:j6}(h:OpV w v o)(f:Fr No w w'):OpV w' v o:=⟨h.k,h.A,h.B,h.m.fr f,h.jE⟩
def Q8 (w:World)(a:Option Addr)(n c:Nat)(os:List j6):Prop:=∃vs:List FH,Sl w a n c 4 Ef vs/\os.length=n/\∀(i:Nat) (v:FH) (o:j6),vs[i]? =some v->os[i]? =some o->OpV w v o
def Q8.fr {w w':World}{a:Option Addr}{n c:Nat}{os:List j6}(h:Q8 w a n c os)(f:Fr No w w'):Q8 w' a n c os:=by obtain⟨vs,h1,h2,h3⟩:=h;exact⟨vs,h1.fr f,h2,λi v o hv ho=>(h3 i v o hv ho).fr f⟩
def Q8.len {w:World}{a:Option Addr}{n c:Nat}{os:List j6}(h:Q8 w a n c os):os.length=n:=h.elim λ_ h=>h.2.1
def Q8.El {w:World}{a:Option Addr}{n c:Nat}{os:List j6}{idx:Int}{k:Nat}{K:Addr->Prop}(h:Q8 w a n c os)(hk:idx=k)(hn:k<n)
  (hK:∀p v o,os[k]? =some o->OpV w v o->(∀j u,(Ef v)[j]? =some u->w.cell? ((p.add (idx.toNat*4)).add j)=some u)->K p):aK idx n (wA a K):=by
 obtain⟨vs,h1,h2,h3⟩:=h;refine h1.El hk hn λp v hv hc=>?_;have ho:os[k]? =some (os[k]'(by omega)):=List.getElem?_eq_getElem _;grind
def Q8.Elf {w0 w:World}{a:Option Addr}{n c:Nat}{os:List j6}{idx:Int}{k:Nat}{K:Addr->Prop}(h:Q8 w0 a n c os)(f:Fr No w0 w)(hk:idx=k)(hn:k<n)
  (hK:∀p (o:j6) va vn vc,os[k]? =some o->Sl w0 va vn vc 1 bj o.m->dJ o.m->(∀(j:Nat) u,(Ef ⟨o.k,o.A,o.B,va,vn,vc⟩)[j]? =some u->w.cell? ((p.add (idx.toNat*4)).add j)=some u)->K p):aK idx n (wA a K):=
 h.El hk hn λp v o ho hv hc=>by obtain⟨k1,A1,B1,va,vn,vc⟩:=v;obtain⟨h1,h2,h3,h4,h5⟩:=hv;subst h1 h2 h3;exact hK p o va vn vc ho h4 h5 λj u hj=>Fr.cell f (hc j u hj) id
structure ag5 (e:FH×j6):Prop where
 k:e.1.k=e.2.k
 A:e.1.A=e.2.A
 B:e.1.B=e.2.B
 jE:dJ e.2.m
def EA (es:List (FH×j6)):As:=bg (∀e∈es,ag5 e) (es.map λe=>ak e.1.a e.1.n e.1.c 5 1 (flat bj e.2.m))
section
variable {F:Nat->Prop}{W w:World}{L:List As}{oa:Option Addr}{on oc:Nat}{es:List (FH×j6)}
def anY (s:Sep F W w L):Sep F W w (EA []::L):=by exact dy s (by simp)
def afi {v:FH}{o:j6}(s:Sep F W w (EA es::ak v.a v.n v.c 5 1 (flat bj o.m)::L))(ha:ag5 (v,o)):Sep F W w (EA (es++[(v,o)])::L):=by
 unfold EA at s⊢;obtain⟨h1,s⟩:=gP s;refine dy ?_ λe he=>?_
 all_goals grind
def awy {v:FH}{o:j6}{K:Option Addr->Nat->Nat->World->Prop}(s:Sep F W w (ak oa on oc 38 4 (flat Ef (es.map (·.1)))::EA es::ak v.a v.n v.c 5 1 (flat bj o.m)::L))(ha:ag5 (v,o))(Cq:on<=1000000000)
  (k:∀a' c' w',Sep F W w' (ak a' (on+1) c' 38 4 (flat Ef ((es++[(v,o)]).map (·.1)))::EA (es++[(v,o)])::L)->K a' (on+1) c' w'):
  Bx [ae v.k,ae v.A,ae v.B,.slice v.a v.n v.c] 38 w λp w1=>App P #[46,46] 46 (.slice oa on oc) (.slice (some p) 1 1) w1 K:=by
 refine aM s λb w1 s1=>?_;have src:Src w1 (sZ b) 1 4 (Ef v):=⟨rfl,akO v,λj u hj=>by rw[cq,Nat.zero_add];exact cF s1 (i:=0) rfl rfl hj⟩;refine iq dQ s1 (i:=1) (bytes:=48) rfl rfl rfl rfl rfl rfl (by decide) rfl src (by simp[maxLen];omega) (by omega) (λe=>by cases e) λa1 c1 w2 s2=>?_;have e:flat Ef (es.map (·.1))++Ef v=flat Ef ((es++[(v,o)]).map (·.1)):=by rw[List.map_append,fZ];simp[flat]
 rw[e]at s2;apply k a1 c1 w2;have s4:=b_ (ai s2) (List.Perm.trans (List.Perm.swap ..) (List.Perm.cons _ (List.Perm.swap ..)));exact b_ (afi s4 ha) (List.Perm.swap ..)
end
def cz {n lo hi:Int}{w:World}{Q:Int->World->Prop}(h1:lo<=hi)(h2:-1099511627776<=lo)(h3:hi<=1099511627776)(h:Q (lo+n%(hi-lo+1)) w):a_ n lo hi w Q:=by
 apply uj;rw[aH (n:=hi-lo),aH];generalize hs:hi-lo+1=s at h;have h4:=Int.lt_tmod_of_pos n (b:=s) (by omega);have h5:=Int.tmod_lt_of_pos n (b:=s) (by omega);have h6:=Int.tmod_add_mul_tdiv n s;refine⟨by omega,?_⟩;generalize ht:Int.tmod n s=t at*;have e:n%s=t%s:=by rw[<-h6,Int.add_mul_emod_self_left]
 by_cases hn:t<0
 ·rw[bK hn,aH (n:=t+hi),aH (n:=t+hi-lo),aH (n:=t+hi-lo+1),aH];have e2:t%s=t+s:=by rw[<-Int.add_emod_right,Int.emod_eq_of_lt (by omega) (by omega)]
  grind
 ·rw[bu hn,aH];rw[e,Int.emod_eq_of_lt (by omega) h5]at h;exact h
def Gz {w:World}{m lo hi:Int}{Q:Bool->World->Prop}(h:Q (decide (lo<=m/\m<=hi)) w):lV m lo hi w Q:=by apply QU;grind
section
variable {F:Nat->Prop}{W w w0:World}{L:List As}{a a' b:Option Addr}{n c n' c' m q:Nat}{bs cs:List Int}
def aio {x:Int}{K:Option Addr->Nat->Nat->World->Prop}(s:Sep F W w (ak a n c 5 1 (flat bj bs)::L))(hn:n<=2000000000000)
  (k:∀a' c' w',Sep F W w' (ak a' (n+1) c' 5 1 (flat bj (bs++[x]))::L)->K a' (n+1) c' w'):Bx [.int .u8 x] 5 w λp w1=>App P #[22,22] 22 (.slice a n c) (.slice (some p) 1 1) w1 K:=by
 refine aM s λb w s=>?_;have src:Src w (sZ b) 1 1 [.int .u8 x]:=⟨rfl,(λu hu=>by rw[List.mem_singleton.1 hu];rfl),λj u hj=>by rw[cq,Nat.zero_add];exact cF s (i:=0) rfl rfl hj⟩;refine iq dQ s (i:=1) (bytes:=1) rfl rfl rfl rfl rfl rfl (by decide) rfl src (by simp[maxLen];omega) (by omega) (λe=>by cases e) λa1 c1 w1 s1=>?_;have e:flat bj bs++[.int .u8 x]=flat bj (bs++[x]):=by rw[fZ];rfl
 rw[e]at s1;exact k _ _ _ (ai s1)
def alQ {K:Option Addr->Nat->Nat->World->Prop}(s:Sep F W w (ak a n c 5 1 (flat bj bs)::L))(h:Sl w b m q 1 bj cs)(hn:n+m<=2000000000000)
  (k:∀a' c' w',Sep F W w' (ak a' (n+m) c' 5 1 (flat bj (bs++cs))::L)->K a' (n+m) c' w'):App P #[22,22] 22 (.slice a n c) (.slice b m q) w K:=by
 have src:=h.src (e:=5) dg A2;refine iq dQ s (i:=0) (bytes:=1) rfl rfl rfl rfl rfl rfl (by decide) rfl src (by simp[maxLen];omega) (by omega) h.nil λa1 c1 w1 s1=>?_;rw[<-fZ]at s1;grind
end
section
variable {F:Nat->Prop}{W w w0:World}{L:List As}
def ar8 {b:Nat}{x:Int}(s:Sep F W w (ax b 5 [.int .u8 x]::L)):Sep F W w (ak (sZ b) 1 1 5 1 (flat bj [x])::L):=
 g7 s (i:=0) rfl rfl (by decide) (λu hu=>by have hu:u∈[Value.int .u8 x]:=hu;rw[List.mem_singleton]at hu;rw[hu];rfl)
end
end Go.Proofs.YtmegplnmiepfbaaGreatDoor.S.O
namespace Go.Proofs.YtmegplnmiepfbaaGreatDoor.S
open Go.Sx
attribute [local irreducible] af cQ bG bp aA cE cw St Bx Al App cV cO cM bZ aQ bI au cj ax ak bg mapA
def kT {p:Addr}{A B:Prop}(h:B):cond (some p).isNone A B:=h
structure iz where
 m:bM
 ep:Int
 vs:List Int
structure xz (g:iz):Prop where
 may:cT g.m
 len:(g.vs.length:Int)=eV g.m.w g.m.h
 ep:1<=g.ep/\g.ep<4611686018427387904
 vs:∀v∈g.vs,1<=v/\v<=g.ep
structure uz where
 p:Nat
 ca:Option Addr
 cn:Nat
 cc:Nat
 va:Option Addr
 vn:Nat
 vc:Nat
def alR (r:uz)(g:iz):List Value:=[ae g.m.w,ae g.m.h,.slice r.ca r.cn r.cc,ae g.ep,.slice r.va r.vn r.vc]
def abO (r:uz)(g:iz):List As:=[ax r.p 174 (alR r g),ak r.ca r.cn r.cc 5 1 (flat bj g.m.cs),ak r.va r.vn r.vc 2 1 (flat one g.vs)]
def nW (r:uz)(g:iz):As:=bg (xz g) (abO r g)
structure nC (w:World) (r:uz) (g:iz):Prop where
 ok:xz g
 cell:∀(j:Nat) v,(alR r g)[j]? =some v->w.cell? ((aZ r.p).add j)=some v
 C:Sl w r.ca r.cn r.cc 1 bj g.m.cs
 V:Sl w r.va r.vn r.vc 1 one g.vs
def xz.iM {g:iz}(h:xz g):iM g.m.w g.m.h:=⟨h.may.w,h.may.h⟩
section
variable {F:Nat->Prop}{W w w0:World}{L:List As}{r:uz}{g:iz}
def nC.fr {w':World}(k:nC w r g)(f:Fr No w w'):nC w' r g:=⟨k.ok,λj v h=>Fr.cell f (k.cell j v h) id,k.C.fr f,k.V.fr f⟩
def afj (s:Sep F W w (nW r g::L)):xz g/\Sep F W w (abO r g++L):=gP s
def abP (s:Sep F W w (abO r g++L))(h:xz g):Sep F W w (nW r g::L):=dy s h
def oS (s:Sep F W w (nW r g::L)):nC w r g:=by obtain⟨h,s⟩:=afj s;exact⟨h,λj v hj=>by rw[cq,Nat.zero_add];exact cF s (i:=0) rfl rfl hj,aN s (i:=1) rfl dg (by decide),aN s (i:=2) rfl cv (by decide)⟩
def cR (m:bM)(c:Int):Int:=if 0<=c/\c<m.cs.length then gi m.cs c.toNat else 0
def jn {c:Int}{Q:Int->World->Prop}(k:nC w r g)(h:Q (cR g.m c) w):e9 (sZ r.p) c w Q:=by
 apply Sm;apply kT;have hl:=k.C.len;unfold cR at h;by_cases h0:c<0
 ·grind
 rw[bu h0];refine ah (cS (k.cell 2 _ rfl) ?_);by_cases h1:c≥(r.cn:Int)
 ·grind
 rw[bu h1];refine ah (cS (k.cell 2 _ rfl) ?_);rw[AH]at h;have hb:=k.ok.may.jE _ (fA (i:=c.toNat) (by omega));apply k.C.Di (k:=c.toNat) (by omega) (by omega);rw[aH];exact h
def ri {Q:Int->World->Prop}(k:nC w r g)(h:Q g.ep w):f_ (sZ r.p) w Q:=by apply FC;exact kT (ah (aJ (k.cell 3 _ rfl) h))
def Z8 {Q:Int->World->Prop}(h:Q 0 w):f_ none w Q:=FC _ _ _ h
def jo {Q:Int->Int->World->Prop}(s0:Sep F W w L)(k:nC w r g)(h:∀w',Sep F W w' L->Fr No w w'->Q g.m.w g.m.h w'):eL (sZ r.p) w Q:=by apply Sq;have k:=k.fr (w':=w.drew) Fr.refl;exact kT (ah (aJ (k.cell 0 _ rfl) (ah (aJ (k.cell 1 _ rfl) ⟨k.cell 1 _ rfl,h _ (ay s0) Fr.refl⟩))))
def zz (g:iz)(s:Int):Int:=if 0<=s/\s<g.vs.length then gi g.vs s.toNat else 0
def rU {c:Int}{Q:Int->World->Prop}(k:nC w r g)(h:Q (zz g c) w):ja (sZ r.p) c w Q:=by
 apply MU;apply kT;have hl:=k.V.len;unfold zz at h;by_cases h0:c<0
 ·grind
 rw[bu h0];refine ah (cS (k.cell 4 _ rfl) ?_);by_cases h1:c≥(r.vn:Int)
 ·grind
 rw[bu h1];refine ah (cS (k.cell 4 _ rfl) ?_);rw[AH]at h;exact k.V.qD (by omega) (by omega) h
def Ic {w h s:Int}(hs:dW w h s){y x:Nat}(hx:(x:Int)<aE w h s):bU w h s (y*aE w h s+x)=bU w h s (y*aE w h s)+x:=by obtain⟨e1,e2⟩:=rL (w:=aE w h s) (x:=(x:Int)) (y:=(y:Int)) (by omega);obtain⟨e3,e4⟩:=rL (w:=aE w h s) (x:=0) (y:=(y:Int)) (by omega);unfold bU;grind
def anZ {m:bM}{s:Int}(hm:cT m)(hs:dW m.w m.h s){y tw:Nat}(hw:(tw:Int)=aE m.w m.h s)(hy:(y:Int)<bw m.w m.h s){f:Nat}(hf:(f:Int)=bU m.w m.h s (y*aE m.w m.h s)):
  f+tw<=m.cs.length/\((List.range (y*tw)).map λl:Nat=>gi m.cs (bU m.w m.h s l).toNat)++(m.cs.drop f).take tw=(List.range ((y+1)*tw)).map λl:Nat=>gi m.cs (bU m.w m.h s l).toNat:=by
 have hz:=qT hs.1.1 hs.1.2 hs.2;have hl:=hm.len;have hin:∀x:Nat,x<tw->0<=bU m.w m.h s (y*aE m.w m.h s)+x/\bU m.w m.h s (y*aE m.w m.h s)+x<m.w*m.h:=λx hx=>by
  rw[<-Ic hs (by omega)];refine F7 hs.1.1 hs.1.2 hs.2 ⟨?_,?_⟩
  ·have:0<=(y:Int)*aE m.w m.h s:=Int.mul_nonneg (by omega) (by omega);omega
  ·have:((y:Int)+1)*aE m.w m.h s<=bw m.w m.h s*aE m.w m.h s:=Int.mul_le_mul_of_nonneg_right (by omega) (by omega);grind
 have awz:=hin (tw-1) (by omega);refine⟨by omega,?_⟩;rw[Nat.add_mul,Nat.one_mul,List.range_add,List.map_append,List.map_map];congr 1;refine List.ext_getElem (by simp;omega) λi h1 h2=>?_;simp[List.length_map,List.length_range]at h2;simp only[List.getElem_take,List.getElem_drop,List.getElem_map,List.getElem_range,Function.comp];have e:((y*tw+i:Nat):Int)=y*aE m.w m.h s+i:=by grind
 rw[e,Ic hs (by omega)];have e2:(bU m.w m.h s (y*aE m.w m.h s)+(i:Int)).toNat=f+i:=by omega
 have:=iA (l:=m.cs) (i:=f+i) (by omega);grind
def NH {sc:Int}{Q:Int->Int->Option Addr->Nat->Nat->Bool->World->Prop}(s0:Sep F W w0 L)(k:nC w0 r g)
  (hno:¬dW g.m.w g.m.h sc->∀w',Sep F W w' L->Fr No w0 w'->Q 0 0 none 0 0 false w')
  (hyes:dW g.m.w g.m.h sc->∀ta tn tc w',Sep F W w' (ak ta tn tc 5 1 (flat bj (qp g.m sc))::L)->Fr No w0 w'->Q (aE g.m.w g.m.h sc) (bw g.m.w g.m.h sc) ta tn tc true w'):tV (sZ r.p) sc w0 Q:=by
 apply Sz;have s:=aX (F:=No) (w:=w0);refine aT s λqb w s=>?_;refine jo s (k.fr (aq s)) λw s _=>?_;refine vo s λw s _=>?_;unfold Zm adl;have hm:=k.ok.may;have hC:=k.C;have yg:=hC.len;have hmul:=pA k.ok.iM;by_cases hs:dW g.m.w g.m.h sc
 ·have hz:=qT hs.1.1 hs.1.2 hs.2;rw[if_pos hs,if_pos hs,cN (by omega),cond_false];obtain⟨tw,Q9⟩:∃n:Nat,(n:Int)=aE g.m.w g.m.h sc:=⟨(aE g.m.w g.m.h sc).toNat,by omega⟩;obtain⟨th,hth⟩:∃n:Nat,(n:Int)=bw g.m.w g.m.h sc:=⟨(bw g.m.w g.m.h sc).toNat,by omega⟩;refine aT s λtb w s=>?_;refine av s (i:=0) rfl rfl rfl λw s=>?_;refine av s (i:=0) rfl rfl rfl λw s=>?_;refine av s (i:=0) rfl rfl rfl λw s=>?_;have s:=b_ (bC s 5 1) (List.Perm.refl _);have loop:∀(j y:Nat) (ta:Option Addr) (tn tc:Nat) (w:World),y+j=th->tn=y*tw->
    Sep No w0 w [ak ta tn tc 5 1 (flat bj ((List.range (y*tw)).map λl:Nat=>gi g.m.cs (bU g.m.w g.m.h sc l).toNat)),ax tb 84 [ae (aE g.m.w g.m.h sc),ae (bw g.m.w g.m.h sc),.slice ta tn tc],ax qb 84 [ae 0,ae 0,.slice none 0 0]]->
    oy Q (j+1) (sZ r.p) sc (aZ qb) g.m.w g.m.h (aE g.m.w g.m.h sc) (aZ tb) (bw g.m.w g.m.h sc) y w:=by
   intro j;induction j with
   |zero=>
    intro y ta tn tc w hy Q7 s;show rP Q (oy Q 0) _ _ _ _ _ _ _ _ _ _;rw[rP,bu];apply lI s 1 rfl;apply lI s 1 rfl;apply lS s 1 rfl
    (refine av s (i:=2) rfl rfl rfl λw s=>?_)
    (refine av s (i:=2) rfl rfl rfl λw s=>?_)
    (refine av s (i:=2) rfl rfl rfl λw s=>?_)
    apply lI s 2 rfl;apply lI s 2 rfl;apply lS s 2 rfl;refine hyes hs _ _ _ _ (dz s0 s (i:=0) ?_) (aq s);unfold qp;grind
   |succ j ih=>
    intro y ta tn tc w hy Q7 s;show rP Q (oy Q (j+1)) _ _ _ _ _ _ _ _ _ _;unfold rP;have hyl:(y:Int)*aE g.m.w g.m.h sc+aE g.m.w g.m.h sc<=aE g.m.w g.m.h sc*bw g.m.w g.m.h sc:=by have:((y:Int)+1)*aE g.m.w g.m.h sc<=bw g.m.w g.m.h sc*aE g.m.w g.m.h sc:=Int.mul_le_mul_of_nonneg_right (by omega) (by omega);grind
    have hy0:0<=(y:Int)*aE g.m.w g.m.h sc:=Int.mul_nonneg (by omega) (by omega);have ha:=Int.mul_le_mul hz.1.2 hz.2.2 (by omega) (by decide);rw[bK,aH];refine xx s λw s _=>?_;rw[CN,if_pos ⟨hs,by omega,by omega⟩];have hg:=F7 hs.1.1 hs.1.2 hs.2 (l:=(y:Int)*aE g.m.w g.m.h sc) (by omega);obtain⟨f,hf⟩:∃n:Nat,(n:Int)=bU g.m.w g.m.h sc (y*aE g.m.w g.m.h sc):=⟨(bU g.m.w g.m.h sc (y*aE g.m.w g.m.h sc)).toNat,by omega⟩;obtain⟨hin,hrow⟩:=anZ hm hs Q9 (by omega) hf;rw[<-hf,aH];have s:=ay s;apply lS s 1 rfl;have k':=k.fr (aq s);refine ah (cS (k'.cell 2 _ rfl) ?_);refine k'.C.mid (q:=f+tw) rfl (by omega) (by omega) (by omega) λa' n' c' hn' hS=>?_;rw[show f+tw-f=tw by omega]at hS hn';have hyt:((y*tw:Nat):Int)=(y:Int)*aE g.m.w g.m.h sc:=by grind
    refine O.alQ s hS (by omega) λYL YM w s=>?_;refine av s (i:=1) rfl rfl rfl λw s=>?_;rw[aH];grind
  refine⟨th+1,loop th 0 none 0 0 w (by omega) (by omega) ?_⟩;rw[Nat.zero_mul];exact s
 ·rw[if_neg hs,if_neg hs,d_ rfl,cond_true]
  (refine av s (i:=0) rfl rfl rfl λw s=>?_)
  (refine av s (i:=0) rfl rfl rfl λw s=>?_)
  (refine av s (i:=0) rfl rfl rfl λw s=>?_)
  apply lI s 0 rfl;apply lI s 0 rfl;apply lS s 0 rfl;exact hno hs _ (bP s0 (aq s)) (aq s)
end
section
variable {F:Nat->Prop}{W w w0:World}{L:List As}{r:uz}{g:iz}{a:Option Addr}{n c:Nat}{bs:List Int}
def E6 {f:Int->List Value}{es:List Int}{e:TypeId}{i k:Nat}{x' idx:Int}{v:Value}{K:World->Prop}(hf:∀x,(f x).length=1)(s:Sep F W w L)(hi:L[i]? =some (ak a n c e 1 (flat f es)))(hk:idx=k)(hkn:k<es.length)(hx':f x'=[v])(hv:v.oneCell'=true)
  (h:∀w',Sep F W w' (L.set i (ak a n c e 1 (flat f (es.set k x'))))->K w'):aK idx n (wA a λp=>St (p.add (idx.toNat*1)) v w K):=by
 have hn:=ry s hi;rw[iU hf,Nat.mul_one,Nat.mul_one]at hn;obtain⟨b,o,rfl⟩:=p_ s hi (by omega);subst hk;refine⟨by omega,by omega,ah ?_⟩;obtain⟨x,hx⟩:∃x,es[k]? =some x:=⟨_,List.getElem?_eq_getElem hkn⟩;have h1:=hf x;refine dU hf s hi hx (j:=0) (by simp[Addr.add]) (by decide) ?_ hv h;rw[hx']
 match hfx:f x,h1 with
 |[y],_=>rfl
def GA {Q:Option Addr->Nat->Nat->World->Prop}(s:Sep F W w L)(hA:Sl w a n c 1 bj bs)(hn:n<=1000000000000)(h:∀ra rc w',Sep F W w' (ak ra n rc 5 1 (flat bj bs)::L)->Fr No w w'->Q ra n rc w'):jL a n c w Q:=by
 apply HZ;cases a with
 |none=>
  have hl:=hA.len;have:=hA.nil rfl;have h0:n=0:=by have:=hA.le;omega
  subst h0;have hb:=List.eq_nil_of_length_eq_zero hl;subst hb;exact h _ _ _ (bC s 5 1) Fr.refl
 |some p=>
  apply kT;refine aM (aX (F:=No)) λb w' s'=>?_;refine O.auF s' (hA.fr (aq s')) hn λra rc w' s'=>?_;exact h _ _ _ (dz s s' (i:=0) rfl) (aq s')
def Xp (m:bM):Bool:=decide (iM m.w m.h)&&(decide ((m.cs.length:Int)=m.w*m.h)&&!decide ((0:Int)∈m.cs))
def Wg {m:bM}(hr:dJ m.cs):Xp m=true↔cT m:=by
 simp[Xp,Bool.and_eq_true,decide_eq_true_eq,Bool.not_eq_true',decide_eq_false_iff_not];constructor
 ·rintro ⟨h1,h2,h3⟩;refine⟨h1.1,h1.2,h2,λx hx=>?_⟩;have:=hr x hx;grind
 ·intro h;exact⟨⟨h.w,h.h⟩,h.len,λh0=>by have:=h.jE _ h0;omega⟩
def NI {m:bM}{Q:Bool->World->Prop}(s0:Sep F W w L)(hA:Sl w a n c 1 bj m.cs)(h:∀w',Sep F W w' L->Fr No w w'->Q (Xp m) w'):Bm m.w m.h a n c w Q:=by
 apply abx;refine aM (aX (F:=No)) λmb w s=>?_;apply lI s 0 rfl;apply lI s 0 rfl;apply pW;have hA:=hA.fr (aq s);have hl:=hA.len;have h:=h w (bP s0 (aq s)) (aq s);unfold Xp at h;by_cases hm:iM m.w m.h
 ·have hmul:=pA hm;rw[bK hm];rw[decide_eq_true hm,Bool.true_and]at h;apply lS s 0 rfl;apply lI s 0 rfl;apply lI s 0 rfl;rw[aH];by_cases hc:(m.cs.length:Int)=m.w*m.h
  ·rw[d_ (by omega),cond_true];rw[decide_eq_true hc,Bool.true_and]at h;apply lS s 0 rfl;exact Tl.Ib hA.row (by omega) h
  grind
 grind
def O9 (m:bM)(e:Int):iz:=⟨m,e+1,List.replicate (eV m.w m.h).toNat (e+1)⟩
def akR {m:bM}{e:Int}(hm:cT m)(he:0<=e/\e<2305843009213693952):xz (O9 m e):=by
 have hc:=gQ hm.w hm.h;refine⟨hm,?_,by show 1<=e+1/\e+1<_;omega,λv hv=>?_⟩
 ·show((List.replicate _ _).length:Int)=_;rw[List.length_replicate];show((eV m.w m.h).toNat:Int)=eV m.w m.h;omega
 ·rw[List.eq_of_mem_replicate hv];show 1<=e+1/\e+1<=e+1;omega
def ad3 {m:bM}{e:Int}{Q:Option Addr->World->Prop}(s0:Sep F W w0 L)(hA:Sl w0 a n c 1 bj m.cs)(hr:dJ m.cs)(he:0<=e/\e<2305843009213693952)
  (hno:¬cT m->∀w',Sep F W w' L->Fr No w0 w'->Q none w')(hyes:cT m->∀r w',Sep F W w' (nW r (O9 m e)::L)->Fr No w0 w'->Q (sZ r.p) w'):HO m.w m.h a n c e w0 Q:=by
 apply adJ;refine aM (aX (F:=No)) λmb w s=>?_;apply lI s 0 rfl;apply lI s 0 rfl;apply lS s 0 rfl;refine NI s (hA.fr (aq s)) λw s _=>?_;by_cases hm:cT m
 ·have hmul:=pA ⟨hm.w,hm.h⟩;have hl:=hA.len;have hlen:=hm.len;have NJ:=gQ hm.w hm.h;rw[(Wg hr).2 hm,Bool.not_true,cond_false,bu,bu];apply lS s 0 rfl;refine GA s (hA.fr (aq s)) (by omega) λca cc w s _=>?_;refine av s (i:=1) rfl rfl rfl λw s=>?_;apply lI s 1 rfl;apply lI s 1 rfl;apply qQ;unfold Z6 ad1;rw[if_pos ⟨hm.w,hm.h⟩,if_pos ⟨hm.w,hm.h⟩];have s:=ay s;apply lI s 1 rfl;apply lI s 1 rfl;apply lS s 1 rfl;rw[show cJ m.w*cJ m.h=eV m.w m.h from rfl,aH,aH];obtain⟨N,hN⟩:∃N:Nat,eV m.w m.h=N:=⟨(eV m.w m.h).toNat,by omega⟩;rw[hN];refine xK (bytes:=8) dQ s rfl rfl rfl rfl rfl rfl (by decide) cv rfl (λu hu=>by simp[one]at hu;subst hu;rfl) rfl rfl (Nat.le_refl _) (by omega) (by simp[maxLen];omega) λvb w s=>?_;refine⟨ck s 2 rfl,ck s 2 rfl,ck s 2 rfl,?_⟩;refine aM s λgb w s=>?_;apply lS s 0 rfl;have loop:∀(j i:Nat) (w:World),i+j=N->Sep No w0 w (ax gb 174 [ae m.w,ae m.h,.slice ca n cc,ae (e+1),.slice (sZ vb) N N]::ak (sZ vb) N N 2 1 (flat one (List.replicate i (e+1)++List.replicate j 0))::ak ca n cc 5 1 (flat bj m.cs)::ax mb 25 [ae m.w,ae m.h,.slice ca n cc]::[])->
    zj Q (j+1) (aZ gb) N i w:=by
   intro j;induction j with
   |zero=>
    intro i w hi s;show Cc Q (zj Q 0) _ _ _ _;rw[Cc,bu];have hi:i=N:=by omega
    subst hi;have s:=bY (L':=[_,_,_]) [0,2,1] s rfl (by decide);have s:Sep No w0 w (abO ⟨gb,ca,n,cc,sZ vb,i,i⟩ (O9 m e)++[]):=by
     have e1:(O9 m e).vs=List.replicate i (e+1)++List.replicate 0 0:=by show List.replicate (eV m.w m.h).toNat (e+1)=_;grind
     show Sep No w0 w [ax gb 174 (alR ⟨gb,ca,n,cc,sZ vb,i,i⟩ (O9 m e)),ak ca n cc 5 1 (flat bj m.cs),ak (sZ vb) i i 2 1 (flat one (O9 m e).vs)];rw[e1];exact s
    have s:=abP s (akR hm he);exact hyes hm ⟨gb,ca,n,cc,sZ vb,i,i⟩ _ (dz s0 s (i:=0) rfl) (aq s)
   |succ j ih=>
    intro i w hi s;show Cc Q (zj Q (j+1)) _ _ _ _;rw[Cc,bK];have s:=ay s;apply lS s 0 rfl;apply lI s 0 rfl;refine E6 (x':=e+1) cv s (i:=1) rfl rfl (by simp) rfl rfl λw s=>?_;rw[aH];apply ih (i+1) w (by omega);have e1:(List.replicate i (e+1)++List.replicate (j+1) 0).set i (e+1)=List.replicate (i+1) (e+1)++List.replicate j 0:=by rw[List.set_append_right _ _ (by simp),List.length_replicate,Nat.sub_self,List.replicate_succ,List.set_cons_zero,List.replicate_succ',List.append_assoc];rfl
    grind
  exact⟨N+1,loop N 0 w (by omega) s⟩
 ·have hb:Xp m=false:=by
   cases hb:Xp m with
   |false=>rfl
   |true=>exact(hm ((Wg hr).1 hb)).elim
  rw[hb,Bool.not_false,cond_true];exact hno hm _ (bP s0 (aq s)) (aq s)
def xA (g:iz)(c x:Int):iz:=⟨⟨g.m.w,g.m.h,g.m.cs.set c.toNat x⟩,g.ep+1,g.vs.set (aC g.m.w g.m.h c).toNat (g.ep+1)⟩
def aip {g:iz}(hg:xz g){c x:Int}(hx:1<=x/\x<=255)(he:g.ep<2305843009213693952):xz (xA g c x):=by
 refine⟨⟨hg.may.w,hg.may.h,?_,λy hy=>?_⟩,?_,?_,λv hv=>?_⟩
 ·show((g.m.cs.set c.toNat x).length:Int)=_;rw[List.length_set];exact hg.may.len
 ·rcases List.mem_or_eq_of_mem_set hy with hy|rfl
  ·exact hg.may.jE y hy
  ·omega
 ·show((g.vs.set _ _).length:Int)=_;rw[List.length_set];exact hg.len
 ·have:=hg.ep;show 1<=g.ep+1/\g.ep+1<_;omega
 ·have:=hg.ep;show 1<=v/\v<=g.ep+1;rcases List.mem_or_eq_of_mem_set hv with hv|rfl
  ·have:=hg.vs v hv;omega
  ·omega
def abQ {ce x:Int}{Q:Int->World->Prop}(s:Sep F W w (nW r g::L))(he:g.ep<2305843009213693952)
  (h7:¬bJ g.m.w g.m.h ce->Q 7 w)(h8:bJ g.m.w g.m.h ce->¬(1<=x/\x<=255)->Q 8 w)
  (h0:bJ g.m.w g.m.h ce->1<=x/\x<=255->∀w',Sep F W w' (nW r (xA g ce x)::L)->Q 0 w'):z7 (sZ r.p) ce x w Q:=by
 apply Ss;apply kT;have k:=oS s;obtain⟨hg,s⟩:=afj s;have s:=s;have hl:=k.C.len;have hlen:=hg.may.len;by_cases h1:ce<0
 ·rw[bK h1];exact h7 λe=>by have:=e.2;omega
 rw[bu h1];apply ah;apply lS s 0 rfl;by_cases h2:ce≥(r.cn:Int)
 ·rw[bK h2];exact h7 λe=>by have:=e.2;omega
 rw[bu h2];have hc:bJ g.m.w g.m.h ce:=⟨hg.iM,by omega,by omega⟩;by_cases h3:x<1
 ·grind
 rw[bu h3];by_cases h4:x>255
 ·grind
 rw[bu h4];have YN:=hg.ep;apply ah;apply lS s 0 rfl;rw[wrap_u8',Int.emod_eq_of_lt (by omega) (by omega)];refine E6 (k:=ce.toNat) (x':=x) dg s (i:=1) rfl (by omega) (by omega) rfl rfl λw s=>?_;apply ah;apply lI s 0 rfl;apply ah;rw[aH];refine av s (i:=0) rfl rfl rfl λw s=>?_;have s:=ay s;apply ah;apply lS s 0 rfl;apply ah;apply lI s 0 rfl;apply ah;apply lI s 0 rfl;apply ah;apply lI s 0 rfl;refine eY s λw s _=>?_;refine⟨ck s 0 rfl,ck s 0 rfl,?_⟩;have hs:=bT hc;have hvl:=hg.len;refine E6 (k:=(aC g.m.w g.m.h ce).toNat) (x':=g.ep+1) cv s (i:=2) rfl (by have:=hs.2;omega) (by have:=hs.2;omega) rfl rfl λw s=>?_;exact h0 hc (by omega) _ (abP s (aip hg (by omega) he))
def ad5 {Q:Int->Int->Option Addr->Nat->Nat->World->Prop}(s0:Sep F W w0 L)(k:nC w0 r g)
  (h:∀ra rc w',Sep F W w' (ak ra r.cn rc 5 1 (flat bj g.m.cs)::L)->Fr No w0 w'->Q g.m.w g.m.h ra r.cn rc w'):A5 (sZ r.p) w0 Q:=by
 apply U1;refine aT (aX (F:=No)) λmb w s=>?_;apply kT;have hm:=k.ok.may;have hmul:=pA k.ok.iM;have hlen:=hm.len;have hl:=k.C.len;have s:=ay s;have k':=k.fr (aq s);refine ah (aJ (k'.cell 0 _ rfl) ?_);refine ah (aJ (k'.cell 1 _ rfl) ?_);refine ah (cS (k'.cell 2 _ rfl) ?_);refine GA s k'.C (by omega) λra rc w s _=>?_;have k':=k.fr (aq s);refine⟨k'.cell 1 _ rfl,k'.cell 0 _ rfl,?_⟩
 (refine av s (i:=1) rfl rfl rfl λw s=>?_)
 (refine av s (i:=1) rfl rfl rfl λw s=>?_)
 (refine av s (i:=1) rfl rfl rfl λw s=>?_)
 apply lI s 1 rfl;apply lI s 1 rfl;apply lS s 1 rfl;exact h _ _ _ (dz s0 s (i:=0) rfl) (aq s)
end
def gL (w h c s:Int):Int:=if bf w h c s<0 then-1 else if aC w h (bf w h c s)=aC w h c then-1 else bf w h c s
def e_ (m:bM)(c:Int):Bool:=decide (0<cR m c/\cR m c<255)
def mI (n:Int)(f:Int->Int):List Int:=(List.range n.toNat).map λi:Nat=>f i
def mJ (tw th s:Int):List Int:=
 if s=2 then mI tw λx=>(th-1)*tw+x
 else if s=0 then mI tw λx=>0+x
 else if s=1 then mI th λy=>tw-1+y*tw
 else if s=3 then mI th λy=>0+y*tw
 else[]
def abR {k:IntKind}{n:Int}{K:Int->Prop}(h:K n):dI k (.int k n) K:=by cases k<;>exact h
def auH {K:Value->Prop}{a b c d:Int}{j:Nat}{x:Int}(hj:j=0/\x=a\/j=1/\x=b\/j=2/\x=c\/j=3/\x=d)(h:K (ae x)):IxV [ae a,ae b,ae c,ae d] j K:=by rcases hj with⟨rfl,rfl⟩|⟨rfl,rfl⟩|⟨rfl,rfl⟩|⟨rfl,rfl⟩<;>exact⟨_,rfl,h⟩
section
variable {F:Nat->Prop}{W w w0:World}{L:List As}{r:uz}{g:iz}{a:Option Addr}{n c:Nat}{bs:List Int}{mw mh ce:Int}
def LQ {x:Int}{K:Option Addr->Nat->Nat->World->Prop}(s:Sep F W w (ak a n c 3 1 (flat one bs)::L))(hn:n<=1000000000)
  (k:∀a' c' w',Sep F W w' (ak a' (n+1) c' 3 1 (flat one (bs++[x]))::L)->K a' (n+1) c' w'):Bx [ae x] 3 w λp w1=>App P #[29,29] 29 (.slice a n c) (.slice (some p) 1 1) w1 K:=by
 refine aM s λb w s=>?_;have src:Src w (sZ b) 1 1 [ae x]:=⟨rfl,(λu hu=>by rw[List.mem_singleton.1 hu];rfl),λj u hj=>by rw[cq,Nat.zero_add];exact cF s (i:=0) rfl rfl hj⟩;refine iq dQ s (i:=1) (bytes:=8) rfl rfl rfl rfl rfl rfl (by decide) rfl src (by simp[maxLen];omega) (by omega) (λe=>by cases e) λa1 c1 w1 s1=>?_;have e:flat one bs++[ae x]=flat one (bs++[x]):=by rw[fZ];rfl
 rw[e]at s1;exact k _ _ _ (ai s1)
def Jd {Q:Int->Int->Int->Int->World->Prop}(s0:Sep F W w L)(h:∀w',Sep F W w' L->Fr No w w'->Q 0 1 2 3 w'):w_ w Q:=by
 apply VS;refine aT (aX (F:=No)) λb w s=>?_
 (refine av s (i:=0) rfl rfl rfl λw s=>?_)
 (refine av s (i:=0) rfl rfl rfl λw s=>?_)
 (refine av s (i:=0) rfl rfl rfl λw s=>?_)
 (refine av s (i:=0) rfl rfl rfl λw s=>?_)
 apply lI s 0 rfl;apply lI s 0 rfl;apply lI s 0 rfl;apply lI s 0 rfl;exact h _ (bP s0 (aq s)) (aq s)
def Kb {sd:Int}{Q:Int->World->Prop}(s0:Sep F W w L)(h:∀w',Sep F W w' L->Fr No w w'->Q (gL mw mh ce sd) w'):yy mw mh ce sd w Q:=by
 apply X9;refine kK (aX (F:=No)) λw s _=>?_;have fin:∀w',Sep No _ w' []->Q (gL mw mh ce sd) w':=λw' s=>h w' (bP s0 (aq s)) (aq s);unfold gL at fin;by_cases h1:bf mw mh ce sd<0
 ·grind
 rw[bu h1];refine eY s λw s _=>?_;refine eY s λw s _=>?_;grind
def DP {Q:Bool->World->Prop}(k:nC w r g)(h:Q (e_ g.m ce) w):tf (sZ r.p) ce w Q:=by apply Yc;apply jn k;unfold e_ at h;grind
def abS (n:Nat)(f:Int->Int):mI ((n+1:Nat):Int) f=mI n f++[f n]:=by unfold mI;rw[Int.toNat_natCast,Int.toNat_natCast,List.range_succ,List.map_append];rfl
def afk {Q:Option Addr->Nat->Nat->World->Prop}{f0:Int}{N:Nat}(hf:0<=f0/\f0<=100000)(hN:N<=16)(h:∀ra rc w',Sep F W w' (ak ra N rc 3 1 (flat one (mI N λx=>f0+x))::L)->Q ra N rc w'):
  ∀(j i:Nat) (la:Option Addr) (lc:Nat) (w:World),i+j=N->Sep F W w (ak la i lc 3 1 (flat one (mI i λx=>f0+x))::L)->nq Q (j+1) la i lc f0 N i w:=by
 intro j;induction j with
 |zero=>
  intro i la lc w hi s;show tu Q (nq Q 0) _ _ _ _ _ _ _;unfold tu;grind
 |succ j ih=>
  intro i la lc w hi s;show tu Q (nq Q (j+1)) _ _ _ _ _ _ _;rw[tu,bK,aH];refine LQ s (by omega) λla lc w s=>?_;rw[aH];rw[<-abS i λx=>f0+x]at s;exact ih (i+1) la lc w (by omega) s
def afl {Q:Option Addr->Nat->Nat->World->Prop}{f0 tw:Int}{N:Nat}(hf:0<=f0/\f0<=100000)(ht:0<=tw/\tw<=16)(hN:N<=16)(h:∀ra rc w',Sep F W w' (ak ra N rc 3 1 (flat one (mI N λy=>f0+y*tw))::L)->Q ra N rc w'):
  ∀(j i:Nat) (la:Option Addr) (lc:Nat) (w:World),i+j=N->Sep F W w (ak la i lc 3 1 (flat one (mI i λy=>f0+y*tw))::L)->nu Q (j+1) tw la i lc f0 N i w:=by
 intro j;induction j with
 |zero=>
  intro i la lc w hi s;show tA Q (nu Q 0) _ _ _ _ _ _ _ _;unfold tA;grind
 |succ j ih=>
  intro i la lc w hi s;show tA Q (nu Q (j+1)) _ _ _ _ _ _ _ _;unfold tA;have h1:0<=(i:Int)*tw:=Int.mul_nonneg (by omega) ht.1;have h2:(i:Int)*tw<=16*16:=Int.mul_le_mul (by omega) ht.2 ht.1 (by decide);rw[bK,aH (n:=(i:Int)*tw),aH];refine LQ s (by omega) λla lc w s=>?_;rw[aH];rw[<-abS i λy=>f0+y*tw]at s;exact ih (i+1) la lc w (by omega) s
def Wh {tw th sd:Int}{Q:Option Addr->Nat->Nat->World->Prop}(s0:Sep F W w L)(ht:1<=tw/\tw<=16)(hh:1<=th/\th<=16)
  (h:∀ra rn rc w',Sep F W w' (ak ra rn rc 3 1 (flat one (mJ tw th sd))::L)->Q ra rn rc w'):B8 tw th sd w Q:=by
 apply VT;have s:=bC s0 3 1;obtain⟨TW,rfl⟩:∃N:Nat,tw=N:=⟨tw.toNat,by omega⟩;obtain⟨TH,rfl⟩:∃N:Nat,th=N:=⟨th.toNat,by omega⟩;unfold mJ at h;by_cases k2:sd=2
 ·rw[d_ k2,cond_true];rw[if_pos k2]at h;have h1:0<=((TH:Int)-1)*TW:=Int.mul_nonneg (by omega) (by omega);have h2:((TH:Int)-1)*TW<=16*16:=Int.mul_le_mul (by omega) (by omega) (by omega) (by decide);rw[aH (n:=(TH:Int)-1),aH];exact⟨TW+1,afk (by omega) (by omega) (λra rc w' s=>h ra TW rc w' s) TW 0 none 0 w (by omega) s⟩
 rw[cN k2,cond_false];rw[if_neg k2]at h;by_cases k0:sd=0
 ·rw[d_ k0,cond_true];rw[if_pos k0]at h;exact⟨TW+1,afk (by omega) (by omega) (λra rc w' s=>h ra TW rc w' s) TW 0 none 0 w (by omega) s⟩
 rw[cN k0,cond_false];rw[if_neg k0]at h;by_cases k1:sd=1
 ·rw[d_ k1,cond_true];rw[if_pos k1]at h;rw[aH];exact⟨TH+1,afl (by omega) (by omega) (by omega) (λra rc w' s=>h ra TH rc w' s) TH 0 none 0 w (by omega) s⟩
 rw[cN k1,cond_false];rw[if_neg k1]at h;by_cases k3:sd=3
 ·rw[d_ k3,cond_true];rw[if_pos k3]at h;exact⟨TH+1,afl (by omega) (by omega) (by omega) (λra rc w' s=>h ra TH rc w' s) TH 0 none 0 w (by omega) s⟩
 rw[cN k3,cond_false];rw[if_neg k3]at h;exact h _ _ _ _ s
end
def bl (b:Bool):List Value:=[.bool b]
def aiq (b:Bool):(bl b).length=1:=rfl
def Je (w h sc s:Int):Bool:=decide (0<=gL w h (CN w h sc (gi (mJ (aE w h sc) (bw w h sc) s) 0)) s)
def yE (w h sc:Int)(j:Nat)(l:Nat):Bool:=(List.range j).any λs:Nat=>Je w h sc s&&decide ((l:Int)∈mJ (aE w h sc) (bw w h sc) s)
def vp (w h sc:Int):List Int:=((List.range (aE w h sc*bw w h sc).toNat).filter (yE w h sc 4)).map λl:Nat=>bU w h sc l
def alT (w h sc:Int)(j l:Nat):yE w h sc (j+1) l=(yE w h sc j l||(Je w h sc j&&decide ((l:Int)∈mJ (aE w h sc) (bw w h sc) j))):=by unfold yE;grind
def mem_range {n x:Int}{f:Int->Int}(h:x∈mI n f):∃i:Nat,(i:Int)<n/\x=f i:=by unfold mI at h;grind
def xB (n:Int)(f:Int->Int):(mI n f).length=n.toNat:=by unfold mI;simp
def air {tw th sd:Int}(ht:1<=tw/\tw<=16)(hh:1<=th/\th<=16):(mJ tw th sd).length<=16/\(0<=sd/\sd<=3->0<(mJ tw th sd).length)/\∀x∈mJ tw th sd,0<=x/\x<tw*th:=by
 have m1:∀y:Int,0<=y->y<th->0<=y*tw/\y*tw+tw<=tw*th:=λy h1 h2=>by have a:0<=y*tw:=Int.mul_nonneg h1 (by omega);have b:(y+1)*tw<=th*tw:=Int.mul_le_mul_of_nonneg_right (by omega) (by omega);grind
 unfold mJ;split
 ·refine⟨by rw[xB];omega,λ_=>by rw[xB];omega,λx hx=>?_⟩;obtain⟨i,hi,rfl⟩:=mem_range hx;have:=m1 (th-1) (by omega) (by omega);omega
 ·split
  ·refine⟨by rw[xB];omega,λ_=>by rw[xB];omega,λx hx=>?_⟩;obtain⟨i,hi,rfl⟩:=mem_range hx;have:=m1 0 (by omega) (by omega);omega
  ·split
   ·refine⟨by rw[xB];omega,λ_=>by rw[xB];omega,λx hx=>?_⟩;obtain⟨i,hi,rfl⟩:=mem_range hx;grind
   ·split
    ·refine⟨by rw[xB];omega,λ_=>by rw[xB];omega,λx hx=>?_⟩;obtain⟨i,hi,rfl⟩:=mem_range hx;grind
    grind
def an2 {N x:Nat}{E:Nat->Bool}:((List.range N).map E).set x true=(List.range N).map λl=>E l||decide (l=x):=by refine List.ext_getElem (by simp) λi h1 h2=>?_;grind
section
variable {F:Nat->Prop}{W w w0:World}{L:List As}{r:uz}{g:iz}{a:Option Addr}{n c:Nat}{bs:List Int}{mw mh ce sc:Int}
def NK {α:Type}{f:α->List Value}{es:List α}{e:TypeId}{i k:Nat}{x':α}{idx:Int}{v:Value}{K:World->Prop}(hf:∀x,(f x).length=1)(s:Sep F W w L)(hi:L[i]? =some (ak a n c e 1 (flat f es)))(hk:idx=k)(hkn:k<es.length)(hx':f x'=[v])(hv:v.oneCell'=true)
  (h:∀w',Sep F W w' (L.set i (ak a n c e 1 (flat f (es.set k x'))))->K w'):aK idx n (wA a λp=>St (p.add (idx.toNat*1)) v w K):=by
 have hn:=ry s hi;rw[iU hf,Nat.mul_one,Nat.mul_one]at hn;obtain⟨b,o,rfl⟩:=p_ s hi (by omega);subst hk;refine⟨by omega,by omega,ah ?_⟩;obtain⟨x,hx⟩:∃x,es[k]? =some x:=⟨_,List.getElem?_eq_getElem hkn⟩;have h1:=hf x;refine dU hf s hi hx (j:=0) (by simp[Addr.add]) (by decide) ?_ hv h;rw[hx']
 match hfx:f x,h1 with
 |[y],_=>rfl
def an3 {P4:Int->Int->Int->Int->Int->Option Addr->Nat->Nat->Int->Int->Int->Int->Int->World->Prop}{Q:Option Addr->Nat->Nat->World->Prop}{tw th sd:Int}{ea la:Option Addr}{N ec ln lc:Nat}{xs:List Int}{E:Nat->Bool}(vZ:0<=sd/\sd<=3)(hl:xs.length=ln)(qi:ln<=16)(hx:∀x∈xs,0<=x/\x<N)
  (next:∀w',Sep No w0 w' (ak ea N ec 4 1 (flat bl ((List.range N).map λl=>E l||decide ((l:Int)∈xs)))::ak la ln lc 3 1 (flat one xs)::L)->P4 mw mh sc tw th ea N ec 0 1 2 3 (sd+1) w'):
  ∀(j i:Nat) (w:World),i+j=ln->Sep No w0 w (ak ea N ec 4 1 (flat bl ((List.range N).map λl=>E l||decide ((l:Int)∈xs.take i)))::ak la ln lc 3 1 (flat one xs)::L)->
   qV P4 Q (j+1) mw mh sc tw th ea N ec 0 1 2 3 sd la ln lc ln i w:=by
 intro j;induction j with
 |zero=>
  intro i w hi s;show u7 P4 Q (qV P4 Q 0) _ _ _ _ _ _ _ _ _ _ _ _ _ _ _ _ _ _ _;rw[u7,bu,aH];grind
 |succ j ih=>
  intro i w hi s;show u7 P4 Q (qV P4 Q (j+1)) _ _ _ _ _ _ _ _ _ _ _ _ _ _ _ _ _ _ _;rw[u7,bK];have hX:=aN s (i:=1) rfl cv (by decide);apply hX.qD rfl (by omega);have hxi:=hx _ (fA (i:=i) (by omega));obtain⟨x,hxe⟩:∃x:Nat,gi xs i=x:=⟨(gi xs i).toNat,by omega⟩;rw[hxe]at hxi⊢;refine NK (x':=true) aiq s (i:=0) rfl rfl (by simp;omega) rfl rfl λw s=>?_;rw[aH];apply ih (i+1) w (by omega);rw[an2]at s;have e:(λl:Nat=>(E l||decide ((l:Int)∈xs.take i))||decide (l=x))=λl:Nat=>E l||decide ((l:Int)∈xs.take (i+1)):=by
   funext l;rw[Bool.or_assoc];congr 1;have ht:xs.take (i+1)=xs.take i++[(x:Int)]:=by rw[List.take_add_one,iA (by omega),hxe];rfl
   grind
  grind
def an4 {Q:Option Addr->Nat->Nat->World->Prop}{ea:Option Addr}{N ec:Nat}{E:Nat->Bool}(hs:dW mw mh sc)(hN:(N:Int)=aE mw mh sc*bw mw mh sc)(hN2:N<=256)
  (h:∀ra rn rc w',Sep No w0 w' (ak ra rn rc 3 1 (flat one (((List.range N).filter E).map λl:Nat=>bU mw mh sc l))::ak ea N ec 4 1 (flat bl ((List.range N).map E))::L)->Q ra rn rc w'):
  ∀(j i:Nat) (oa:Option Addr) (on oc:Nat) (w:World),i+j=N->on<=i->Sep No w0 w (ak oa on oc 3 1 (flat one (((List.range i).filter E).map λl:Nat=>bU mw mh sc l))::ak ea N ec 4 1 (flat bl ((List.range N).map E))::L)->
   pY Q (j+1) mw mh sc oa on oc ea N ec N i w:=by
 intro j;induction j with
 |zero=>
  intro i oa on oc w hi ho s;show tB Q (pY Q 0) _ _ _ _ _ _ _ _ _ _ _ _;unfold tB;grind
 |succ j ih=>
  intro i oa on oc w hi ho s;show tB Q (pY Q (j+1)) _ _ _ _ _ _ _ _ _ _ _ _;rw[tB,bK];obtain⟨b,o,rfl⟩:=p_ s (i:=1) rfl (by omega);refine⟨by omega,by omega,ah ?_⟩;apply aj1 aiq s (i:=1) (k:=i) (j:=0) rfl (x:=E i) (by grind) (by simp[Addr.add]) rfl;have hf:(List.range (i+1)).filter E=(List.range i).filter E++(if E i=true then[i]else[]):=by rw[List.range_succ,List.filter_append];grind
  cases hE:E i with
  |true=>
   refine xx s λw s _=>?_;unfold CN;refine LQ s (by omega) λoa oc w s=>?_;rw[aH];apply ih (i+1) oa (on+1) oc w (by omega) (by omega);grind
  |false=>
   rw[cond_false,aH];grind
def Wi {Q:Option Addr->Nat->Nat->World->Prop}(s0:Sep F W w L)(hs:dW mw mh sc)(h:∀ra rn rc w',Sep F W w' (ak ra rn rc 3 1 (flat one (vp mw mh sc))::L)->Fr No w w'->Q ra rn rc w'):B6 mw mh sc w Q:=by
 apply VU;have hz:=qT hs.1.1 hs.1.2 hs.2;have hmx:=Int.mul_le_mul hz.1.2 hz.2.2 (by omega) (by decide);have hmn:=Int.mul_le_mul hz.1.1 hz.2.1 (by decide) (by omega);obtain⟨N,hN⟩:∃N:Nat,aE mw mh sc*bw mw mh sc=N:=⟨(aE mw mh sc*bw mw mh sc).toNat,by omega⟩;refine vo (aX (F:=No)) λw1 s _=>?_;unfold Zm adl;rw[if_pos hs,if_pos hs,aH,hN];refine xK (bytes:=1) dQ s rfl rfl rfl rfl rfl rfl (by decide) aiq rfl (λu hu=>by simp[bl]at hu;subst hu;rfl) rfl rfl (Nat.le_refl _) (by omega) (by simp[maxLen];omega) λeb w1 s=>?_;refine Jd s λw1 s _=>?_;have ap6:List.replicate N false=(List.range N).map (yE mw mh sc 0):=by refine List.ext_getElem (by simp) λi h1 h2=>?_;simp[yE]
 rw[ap6]at s;have loop:∀(j i:Nat) (w1:World) (L':List As),i+j=4->Sep No w w1 (ak (sZ eb) N N 4 1 (flat bl ((List.range N).map (yE mw mh sc i)))::L')->
   qW Q (j+1) mw mh sc (aE mw mh sc) (bw mw mh sc) (sZ eb) N N 0 1 2 3 i w1:=by
  intro j;induction j with
  |zero=>
   intro i w1 L' hi s;show u9 Q (qW Q 0) _ _ _ _ _ _ _ _ _ _ _ _ _ _;unfold u9;have hi:i=4:=by omega
   subst hi;have s:=bC s 3 1;refine⟨N+1,an4 hs hN.symm (by omega) (λra rn rc w' s=>?_) N 0 none 0 0 w1 (by omega) (by omega) s⟩;refine h _ _ _ _ (dz s0 s (i:=0) ?_) (aq s);unfold vp;grind
  |succ j ih=>
   intro i w1 L' hi s;show u9 Q (qW Q (j+1)) _ _ _ _ _ _ _ _ _ _ _ _ _ _;rw[u9,bK];refine⟨by omega,by omega,?_⟩;refine auH (x:=(i:Int)) (by omega) (abR ?_);obtain⟨o1,o2,o3⟩:=air (sd:=(i:Int)) hz.1 hz.2;refine Wh s hz.1 hz.2 λra rn rc w1 s=>?_;have hX:=aN s (i:=0) rfl cv (by decide);have hXl:=hX.len;rw[cN (by omega),cond_false];apply hX.qD (k:=0) rfl (by omega);refine xx s λw1 s _=>?_;refine Kb s λw1 s _=>?_;have hnew:=alT mw mh sc i;by_cases hov:gL mw mh (CN mw mh sc (gi (mJ (aE mw mh sc) (bw mw mh sc) i) 0)) i<0
   ·rw[bK hov,aH];have aCd:Je mw mh sc i=false:=by unfold Je;grind
    have e:yE mw mh sc i=yE mw mh sc (i+1):=by funext l;simp_all
    rw[e]at s;exact ih (i+1) w1 _ (by omega) (ai s)
   ·rw[bu hov];have Cq:Je mw mh sc i=true:=by unfold Je;grind
    have s:=b_ s (List.Perm.swap ..);refine⟨rn+1,an3 (w0:=w) (L:=L') (E:=yE mw mh sc i) (by omega) hXl (by omega) (λx hx=>by grind) (λw' s=>?_) rn 0 w1 (by omega) ?_⟩
    ·have e:(λl:Nat=>yE mw mh sc i l||decide ((l:Int)∈mJ (aE mw mh sc) (bw mw mh sc) i))=yE mw mh sc (i+1):=by grind
     grind
    simp_all
 exact⟨5,loop 4 0 w1 _ (by omega) s⟩
def aW (m:bM)(sc:Int):List Int:=(vp m.w m.h sc).filter (e_ m)
def abT (hs:dW mw mh sc):(vp mw mh sc).length<=256:=by have hz:=qT hs.1.1 hs.1.2 hs.2;have hmx:=Int.mul_le_mul hz.1.2 hz.2.2 (by omega) (by decide);unfold vp;grind
def xC {Q:Option Addr->Nat->Nat->World->Prop}(s0:Sep F W w L)(k:nC w r g)(hs:dW g.m.w g.m.h sc)(h:∀ra rn rc w',Sep F W w' (ak ra rn rc 3 1 (flat one (aW g.m sc))::L)->Fr No w w'->Q ra rn rc w'):oq (sZ r.p) sc w Q:=by
 apply VV;refine jo (aX (F:=No)) k λw1 s _=>?_;refine Wi s hs λca cn cc w1 s _=>?_;have yg:=(aN s (i:=0) rfl cv (by decide)).len;have ais:=abT hs;have loop:∀(j i:Nat) (oa:Option Addr) (on oc:Nat) (w1:World),i+j=cn->on<=i->Sep No w w1 [ak oa on oc 3 1 (flat one (((vp g.m.w g.m.h sc).take i).filter (e_ g.m))),ak ca cn cc 3 1 (flat one (vp g.m.w g.m.h sc))]->
   qX Q (j+1) (sZ r.p) oa on oc ca cn cc cn i w1:=by
  intro j;induction j with
  |zero=>
   intro i oa on oc w1 hi ho s;show u_ Q (qX Q 0) _ _ _ _ _ _ _ _ _ _;rw[u_,bu];rw[List.take_of_length_le (by omega)]at s;exact h _ _ _ _ (dz s0 s (i:=0) rfl) (aq s)
  |succ j ih=>
   intro i oa on oc w1 hi ho s;show u_ Q (qX Q (j+1)) _ _ _ _ _ _ _ _ _ _;rw[u_,bK];apply(aN s (i:=1) rfl cv (by decide)).qD rfl (by omega);apply DP (k.fr (aq s));have ht:(vp g.m.w g.m.h sc).take (i+1)=(vp g.m.w g.m.h sc).take i++[gi (vp g.m.w g.m.h sc) i]:=by rw[List.take_add_one,iA (by omega)];rfl
   cases YO:e_ g.m (gi (vp g.m.w g.m.h sc) i)with
   |true=>
    refine LQ s (by omega) λoa oc w1 s=>?_;rw[aH];apply ih (i+1) oa (on+1) oc w1 (by omega) (by omega);grind
   |false=>
    rw[cond_false,aH];apply ih (i+1) oa on oc w1 (by omega) (by omega);grind
 exact⟨cn+1,loop cn 0 none 0 0 w1 (by omega) (by omega) (bC s 3 1)⟩
end
def Dv (e:Int×Int):List Value:=[ae e.1,ae e.2]
def Q_ (e:Int×Int):(Dv e).length=2:=rfl
def akT (e:Int×Int)(u:Value)(h:u∈Dv e):u.oneCell'=true:=by simp[Dv,List.mem_cons,List.not_mem_nil,or_false]at h;rcases h with rfl|rfl<;>rfl
def FI (m:bM)(c s:Int):Option (Int×Int):=if 0<=gL m.w m.h c s/\e_ m (gL m.w m.h c s)=true then some (gL m.w m.h c s,cR m (gL m.w m.h c s))else none
def GB (m:bM)(c:Int)(j:Nat):List (Int×Int):=(List.range j).filterMap λs:Nat=>FI m c s
def vq (m:bM)(c:Int):List (Int×Int):=if e_ m c=true then GB m c 4 else[]
def aj_ (m:bM)(c:Int)(j:Nat):GB m c (j+1)=GB m c j++(FI m c j).toList:=by rw[GB,List.range_succ,List.filterMap_append];congr 1
section
variable {F:Nat->Prop}{W w w0:World}{L:List As}{r:uz}{g:iz}{a:Option Addr}{n c:Nat}{es:List (Int×Int)}{ce:Int}
def aqt {x:Int×Int}{K:Option Addr->Nat->Nat->World->Prop}(s:Sep F W w (ak a n c 292 2 (flat Dv es)::L))(hn:n<=1000000000)
  (k:∀a' c' w',Sep F W w' (ak a' (n+1) c' 292 2 (flat Dv (es++[x]))::L)->K a' (n+1) c' w'):Bx [ae x.1,ae x.2] 292 w λp w1=>App P #[289,289] 289 (.slice a n c) (.slice (some p) 1 1) w1 K:=by
 refine aM s λb w s=>?_;have src:Src w (sZ b) 1 2 (Dv x):=⟨rfl,akT x,λj u hj=>by rw[cq,Nat.zero_add];exact cF s (i:=0) rfl rfl hj⟩;refine iq dQ s (i:=1) (bytes:=16) rfl rfl rfl rfl rfl rfl (by decide) rfl src (by simp[maxLen];omega) (by omega) (λe=>by cases e) λa1 c1 w1 s1=>?_;have e:flat Dv es++Dv x=flat Dv (es++[x]):=by rw[fZ];simp[flat]
 rw[e]at s1;exact k _ _ _ (ai s1)
def Wj {Q:Option Addr->Nat->Nat->World->Prop}(s0:Sep F W w L)(k:nC w r g)(h:∀ra rn rc w',Sep F W w' (ak ra rn rc 292 2 (flat Dv (vq g.m ce))::L)->Fr No w w'->Q ra rn rc w'):B5 (sZ r.p) ce w Q:=by
 apply VW;refine jo (aX (F:=No)) k λw1 s _=>?_;apply DP (k.fr (aq s));unfold vq at h;cases ho:e_ g.m ce with
 |false=>
  rw[ho,if_neg (by decide)]at h;exact h _ _ _ _ (bC (bP s0 (aq s)) 292 2) (aq s)
 |true=>
  rw[ho,if_pos rfl]at h;refine Jd s λw1 s _=>?_;have loop:∀(j i:Nat) (oa:Option Addr) (on oc:Nat) (w1:World) (L':List As),i+j=4->on<=i->Sep No w w1 (ak oa on oc 292 2 (flat Dv (GB g.m ce i))::L')->
    n9 Q (j+1) (sZ r.p) ce g.m.w g.m.h oa on oc 0 1 2 3 i w1:=by
   intro j;induction j with
   |zero=>
    intro i oa on oc w1 L' hi Cq s;show vg Q (n9 Q 0) _ _ _ _ _ _ _ _ _ _ _ _ _;unfold vg;have hi:i=4:=by omega
    subst hi;exact h _ _ _ _ (dz s0 s (i:=0) rfl) (aq s)
   |succ j ih=>
    intro i oa on oc w1 L' hi Cq s;show vg Q (n9 Q (j+1)) _ _ _ _ _ _ _ _ _ _ _ _ _;rw[vg,bK];refine⟨by omega,by omega,?_⟩;refine auH (x:=(i:Int)) (by omega) (abR ?_);refine Kb s λw1 s _=>?_;have hsu:=aj_ g.m ce i;have skip:FI g.m ce i=none->∀w1,Sep No w w1 (ak oa on oc 292 2 (flat Dv (GB g.m ce i))::L')->n9 Q (j+1) (sZ r.p) ce g.m.w g.m.h oa on oc 0 1 2 3 (IntKind.wrap .i64 ((i:Int)+1)) w1:=λhn w1 s=>by rw[aH];grind
    by_cases h1:gL g.m.w g.m.h ce i≥0
    ·rw[bK h1];apply DP (k.fr (aq s));cases h2:e_ g.m (gL g.m.w g.m.h ce i)with
     |true=>
      apply jn (k.fr (aq s));have IV:FI g.m ce i=some (gL g.m.w g.m.h ce i,cR g.m (gL g.m.w g.m.h ce i)):=if_pos ⟨h1,h2⟩;refine aqt (x:=(gL g.m.w g.m.h ce i,cR g.m (gL g.m.w g.m.h ce i))) s (by omega) λoa oc w1 s=>?_;rw[aH];grind
     |false=>
      exact skip (if_neg (by rw[h2];simp)) _ s
    ·rw[bu h1];exact skip (fR) _ s
  exact⟨5,loop 4 0 none 0 0 w1 _ (by omega) (by omega) (bC s 292 2)⟩
end
structure bh where
 c:Int
 s:Int
 k:Int
deriving DecidableEq,Inhabited
def fS (x:bh):List Value:=[ae x.c,ae x.s,ae x.k]
def nD (x:bh):(fS x).length=3:=rfl
def Wk (x:bh)(u:Value)(h:u∈fS x):u.oneCell'=true:=by simp[fS,List.mem_cons,List.not_mem_nil,or_false]at h;rcases h with rfl|rfl|rfl<;>rfl
def Wl (x y:Int):Int:=if x<y then-1 else if x>y then 1 else 0
def ait (a b:bh):Int:=if Wl a.k b.k≠0 then Wl a.k b.k else if Wl a.c b.c≠0 then Wl a.c b.c else Wl a.s b.s
section
variable {F:Nat->Prop}{W w w0:World}{L:List As}
def DR {x y:Int}{Q:Int->World->Prop}(h:Q (Wl x y) w):ot x y w Q:=by apply Qx;apply A_;rw[Ez rfl];apply A_;rw[Ez rfl];show cond false _ (cond false _ _);unfold Wl at h;grind
def agN {a:Option Addr}{n c:Nat}{x y z:Int}{Q:Int->World->Prop}(hA:Sl w a n c 1 one [x,y,z])(h:Q (if x≠0 then x else if y≠0 then y else z) w):E0 a n c w Q:=by
 have hl:n=3:=hA.len.symm;subst hl;apply ZQ;refine⟨4,?_⟩;show mY Q (qY Q 3) _ _ _ _ _ _ _;unfold mY;apply hA.qD (k:=0) rfl (by omega);show cond (x !=0) _ _;by_cases hx:x=0
 ·rw[Ez hx,cond_false,wrap_i64 (by decide) (by decide)];rw[if_neg (λe=>e hx)]at h;show mY Q (qY Q 2) _ _ _ _ _ _ _;unfold mY;apply hA.qD (k:=1) rfl (by omega);show cond (y !=0) _ _;by_cases hy:y=0
  ·rw[Ez hy,cond_false,wrap_i64 (by decide) (by decide)];rw[if_neg (λe=>e hy)]at h;show mY Q (qY Q 1) _ _ _ _ _ _ _;unfold mY;apply hA.qD (k:=2) rfl (by omega);show cond (z !=0) _ _;by_cases hz:z=0
   ·rw[Ez hz,cond_false,wrap_i64 (by decide) (by decide)];show mY Q (qY Q 0) _ _ _ _ _ _ _;unfold mY;grind
   ·rw[Gw hz,cond_true];exact h
  ·rw[Gw hy,cond_true];rw[if_pos hy]at h;exact h
 ·rw[Gw hx,cond_true];rw[if_pos hx]at h;exact h
def Yo {x y:bh}{Q:Int->World->Prop}(s0:Sep F W w L)(h:∀w',Sep F W w' L->Fr No w w'->Q (ait x y) w'):DF x.c x.s x.k y.c y.s y.k w Q:=by apply Yd;refine aM (aX (F:=No)) λab w s=>?_;refine aM s λbb w s=>?_;have s:=ay s;apply lI s 1 rfl;apply lI s 0 rfl;apply lI s 1 rfl;apply lI s 0 rfl;apply lI s 1 rfl;apply lI s 0 rfl;apply DR;refine⟨ck s 0 rfl,ck s 1 rfl,ck s 0 rfl,ck s 1 rfl,?_⟩;apply DR;refine⟨ck s 0 rfl,ck s 1 rfl,?_⟩;apply DR;refine aM s λpb w s=>?_;have s:=g7 (n:=3) (size:=1) s (i:=0) rfl rfl (by decide) (λu hu=>by simp[List.mem_cons,List.not_mem_nil,or_false]at hu;rcases hu with rfl|rfl|rfl<;>rfl);have s:=s;apply agN (aN s (i:=0) rfl cv (by decide));exact h _ (bP s0 (aq s)) (aq s)
def cxF (m f:Nat):(cx m).F f=oY f fns:=rfl
def azq:oY 197 fns=true:=by kernel_rfl
def aka {m:Nat}{x y:bh}{Q:Int->World->Prop}(h:DF x.c x.s x.k y.c y.s y.k w Q):ik (cx m) (.func (.func 197) #[] #[]) [.agg #[ae x.c,ae x.s,ae x.k],.agg #[ae y.c,ae y.s,ae y.k]] w λv w'=>dI .i64 v λr=>Q r w':=by unfold ik;simp only;exact h
end
def Z9 (tw th c s:Int):Bool:=if s=0 then c/tw==0 else if s=1 then c%tw==tw-1 else if s=2 then c/tw==th-1 else if s=3 then c%tw==0 else s==4
def Aq (tw th:Int)(cs:List Int)(x:bh):Bool:=decide (0<=x.c/\x.c<cs.length)&&(gi cs x.c.toNat !=255&&(decide (0<=x.k/\x.k<=1073741824)&&Z9 tw th x.c x.s))
def rV (tw th:Int)(cs:List Int)(xs:List bh):Bool:=Tl.DO tw th cs&&xs.all (Aq tw th cs)
section
variable {F:Nat->Prop}{W w w0:World}{L:List As}{a la:Option Addr}{n c ln lc tb:Nat}{cs:List Int}{tw th:Int}{xs:List bh}
def abU {ce sd:Int}{Q:Bool->World->Prop}(s0:Sep F W w L)(hw:1<=tw/\tw<=16)(hh:1<=th/\th<=16)(hc:0<=ce/\ce<1000000)(h:∀w',Sep F W w' L->Fr No w w'->Q (Z9 tw th ce sd) w'):Gl tw th a n c ce sd w Q:=by
 apply abG;refine aM (aX (F:=No)) λtb w s=>?_;have s:=ay s;apply lI s 0 rfl;refine⟨by omega,?_⟩;apply lI s 0 rfl;refine⟨by omega,ck s 0 rfl,?_⟩;have h:=h _ (bP s0 (aq s)) (aq s);have d0:0<=ce/tw:=Int.ediv_nonneg hc.1 (by omega);have d1:ce/tw<=ce:=Int.ediv_le_self _ hc.1;rw[Int.tdiv_eq_ediv_of_nonneg hc.1,Int.tmod_eq_emod_of_nonneg hc.1,aH];unfold Z9 at h;by_cases k0:sd=0
 ·grind
 rw[cN k0,cond_false];rw[if_neg k0]at h;by_cases k1:sd=1
 ·rw[d_ k1,cond_true];rw[if_pos k1]at h;apply lI s 0 rfl;rw[aH];exact h
 rw[cN k1,cond_false];rw[if_neg k1]at h;by_cases k2:sd=2
 ·rw[d_ k2,cond_true];rw[if_pos k2]at h;apply lI s 0 rfl;rw[aH];exact h
 grind
def rW (w:World)(b:Nat)(vs:List Value):Prop:=∀(j:Nat) v,vs[j]? =some v->w.cell? ((aZ b).add j)=some v
def rW.fr {w':World}{b:Nat}{vs:List Value}(k:rW w b vs)(f:Fr No w w'):rW w' b vs:=λj v h=>Fr.cell f (k j v h) id
def ld {b i:Nat}{t:TypeId}{vs:List Value}(s:Sep F W w L)(hi:L[i]? =some (ax b t vs)):rW w b vs:=λj v hj=>by rw[cq,Nat.zero_add];exact cF s rfl hi hj
def Yp {x:bh}{Q:Bool->World->Prop}(s0:Sep F W w L)(hK:rW w tb [ae tw,ae th,.slice a n c])(hA:Sl w a n c 1 bj cs)(hm:Tl.DO tw th cs=true)
  (h:∀w',Sep F W w' L->Fr No w w'->Q (!Aq tw th cs x) w'):DH x.c x.s x.k (sZ tb) w Q:=by
 apply Ye;obtain⟨h1,h2,h3,_⟩:=Tl.Z7.1 hm;have hl:=hA.len;have hmx:=Int.mul_le_mul h1.2 h2.2 (by omega) (by decide);refine aM (aX (F:=No)) λsb w1 s=>?_;have K:=hK.fr (aq s);have A:=hA.fr (aq s);have no:Aq tw th cs x=false->Q true w1:=λe=>by have:=h _ (bP s0 (aq s)) (aq s);grind
 unfold Aq at no h;apply lI s 0 rfl;by_cases k1:x.c<0
 ·grind
 rw[bu k1];apply lI s 0 rfl;refine ah (cS (K 2 _ rfl) ?_);by_cases k2:x.c≥(n:Int)
 ·grind
 rw[bu k2];rw[decide_eq_true (show 0<=x.c/\x.c<cs.length by omega),Bool.true_and]at no h;refine ah (cS (K 2 _ rfl) ?_);apply lI s 0 rfl;apply A.Di (k:=x.c.toNat) (by omega) (by omega);by_cases k3:gi cs x.c.toNat=255
 ·grind
 rw[cN k3,cond_false];rw[Gw k3,Bool.true_and]at no h;apply lI s 0 rfl;by_cases k4:x.k<0
 ·grind
 rw[bu k4];apply lI s 0 rfl;by_cases k5:x.k>1073741824
 ·grind
 rw[bu k5];rw[decide_eq_true (show 0<=x.k/\x.k<=1073741824 by omega),Bool.true_and]at h;refine ah (aJ (K 0 _ rfl) (aJ (K 1 _ rfl) (cS (K 2 _ rfl) ?_)));apply lI s 0 rfl;apply lI s 0 rfl;refine abU s h1 h2 (by omega) λw1 s _=>?_;exact h _ (bP s0 (aq s)) (aq s)
def aBO:oY 210 fns=true:=by kernel_rfl
def an5 {m p:Nat}{x:bh}{Q:Bool->World->Prop}(h:DH x.c x.s x.k (sZ p) w Q):ik (cx m) (.func (.func 210) #[] #[.pointer (sZ p)]) [.agg #[ae x.c,ae x.s,ae x.k]] w λv w'=>dB v λr=>Q r w':=by unfold ik;simp only;exact h
def aqu {Q:Int->World->Prop}(hK:rW w0 tb [ae tw,ae th,.slice a n c])(hA:Sl w0 a n c 1 bj cs)(hm:Tl.DO tw th cs=true)(hX:Sl w0 la ln lc 3 fS xs)(qi:ln<=1000000)
  (hy:xs.all (Aq tw th cs)=true->∀w',Sep No w0 w' []->Q (-1) w')(hno:xs.all (Aq tw th cs)=false->∀(i:Nat) w',Sep No w0 w' []->Q i w'):
  ∀(j i:Nat) (w:World),i+j=ln->(xs.take i).all (Aq tw th cs)=true->Sep No w0 w []->eZ Q (j+1) la ln lc (.func (.func 210) #[] #[.pointer (sZ tb)]) ln i w:=by
 have hl:=hX.len;intro j;induction j with
 |zero=>
  intro i w hi ha s;show gh Q (eZ Q 0) _ _ _ _ _ _ _;unfold gh;grind
 |succ j ih=>
  intro i w hi ha s;show gh Q (eZ Q (j+1)) _ _ _ _ _ _ _;rw[gh,bK];refine(hX.fr (aq s)).El rfl (by omega) λp x hx hc=>?_;refine aJ (hc 0 _ rfl) (aJ (hc 1 _ rfl) (aJ (hc 2 _ rfl) ?_));refine an5 (Yp s (hK.fr (aq s)) (hA.fr (aq s)) hm λw s _=>?_);cases hb:Aq tw th cs x with
  |false=>
   grind
  |true=>
   rw[Bool.not_true,cond_false,aH];refine ih (i+1) w (by omega) ?_ s;rw[List.take_add_one,hx,List.all_append,ha];simp[hb]
def NL {Q:Bool->World->Prop}(s0:Sep F W w L)(hA:Sl w a n c 1 bj cs)(hX:Sl w la ln lc 3 fS xs)(qi:ln<=1000000)(h:∀w',Sep F W w' L->Fr No w w'->Q (rV tw th cs xs) w'):Bn tw th a n c la ln lc w Q:=by
 apply abH;refine aM (aX (F:=No)) λtb w1 s=>?_;apply lI s 0 rfl;apply lI s 0 rfl;apply lS s 0 rfl;refine Tl.C_ s (hA.fr (aq s)).row λw1 s _=>?_;have fin:∀(r:Bool) (w':World),rV tw th cs xs=r->Fr No w w'->Q r w':=λr w' e f=>by subst e;exact h _ (bP s0 f) f
 unfold rV at fin;cases hm:Tl.DO tw th cs with
 |false=>
  rw[hm,Bool.false_and]at fin;exact fin _ _ rfl (aq s)
 |true=>
  rw[hm,Bool.true_and]at fin;have f1:=aq s;apply yp;apply An;refine⟨ln+1,aqu (ld s (i:=0) rfl) (hA.fr f1) hm (hX.fr f1) qi (λha w' s'=>?_) (λha i w' s'=>?_) ln 0 w1 (by omega) rfl aX⟩
  ·exact fin _ _ ha (f1.trans (aq s') (λ_ _=>id))
  ·exact fin _ _ ha (f1.trans (aq s') (λ_ _=>id))
end
end Go.Proofs.YtmegplnmiepfbaaGreatDoor.S
namespace Go.Proofs.YtmegplnmiepfbaaGreatDoor.S
open Go.Sx
def ku {n:Int}(h:0<=n/\n<18446744073709551616):IntKind.wrap .u64 n=n:=by
 have:IntKind.wrap .u64 n=n%18446744073709551616:=by simp[IntKind.wrap,IntKind.bits,IntKind.signed]
 grind
def NM {x:Int}(h:0<=x/\x<4294967296):o_ .u64 x 32=0:=by show x.fdiv (2^32)=0;grind
def Wm {x:Int}(h:0<=x/\x<4294967296):BK .u64 x 4294967295=x:=by
 obtain⟨n,rfl⟩:∃n:Nat,x=n:=⟨x.toNat,by omega⟩;have e:(BitVec.ofInt 64 (n:Int)&&&BitVec.ofInt 64 4294967295).toNat=n:=by
  rw[BitVec.toNat_and];have e1:(BitVec.ofInt 64 (n:Int)).toNat=n:=by grind
  have e2:(BitVec.ofInt 64 4294967295).toNat=2^32-1:=by decide
  rw[e1,e2,Nat.and_two_pow_sub_one_eq_mod];omega
 show IntKind.wrap .u64 ((BitVec.ofInt 64 (n:Int)&&&BitVec.ofInt 64 4294967295).toNat:Nat)=_;rw[e];exact ku (by omega)
def auJ {x y:Int}(hx:0<=x/\x<1048577)(hy:0<=y/\y<1048577):0<=x*y/\x*y<2000000000000:=by have a:=Int.mul_nonneg hx.1 hy.1;have b:x*y<=1048576*1048576:=Int.mul_le_mul (by omega) (by omega) hy.1 (by decide);omega
def Da {w:World}{x y:Int}{Q:Int->Int->World->Prop}(hx:0<=x/\x<1048577)(hy:0<=y/\y<1048577)(hxy:x*y<4294967296)(h:Q 0 (x*y) w):qE x y w Q:=by have hm:=auJ hx hy;apply UA;apply Qf;refine⟨by decide,by decide,by decide,by decide,by decide,?_⟩;rw[NM (by omega),NM (by omega),Wm (by omega),Wm (by omega)];simp[Int.zero_mul,Int.mul_zero,Int.zero_add,Int.add_zero,ku (n:=0) (by decide),ku (n:=x*y) (by omega),NM (x:=x*y) (by omega),NM (x:=0) (by decide),Wm (x:=0) (by decide)];exact h
end Go.Proofs.YtmegplnmiepfbaaGreatDoor.S
namespace Go.Proofs.YtmegplnmiepfbaaGreatDoor.S
open Go.Sx
attribute [local irreducible] af cQ bG bp aA cE cw St Bx Al App cV cO cM bZ aQ bI au cj ax ak bg mapA
def LR:∀l:List Int,flat one l=l.map λx=>Value.int .i64 x
 |[]=>rfl
 |x::l=>by have:=LR l;simp[flat,List.flatMap_cons,List.map_cons]at this⊢;rw[this];rfl
def Fk (x:Int)(u:Value)(h:u∈one x):u.oneCell'=true:=by simp[one,List.mem_singleton]at h;rw[h];rfl
def aqv {v z:Int}{n k N:Nat}(hk:k<=n)(hN:n+k<=N):
  (flat one (List.replicate n v++List.replicate (N-n) z)).take (n*1)++(flat one ((List.replicate n v++List.replicate (N-n) z).take n)).take (k*1)++(flat one (List.replicate n v++List.replicate (N-n) z)).drop ((n+k)*1)=flat one (List.replicate (n+k) v++List.replicate (N-(n+k)) z):=by
 simp only[LR,Nat.mul_one];rw[<-List.map_take,<-List.map_take,<-List.map_drop,<-List.map_append,<-List.map_append];congr 1;rw[List.take_left' (by simp),List.take_replicate,Nat.min_eq_left hk,List.replicate_append_replicate,<-List.drop_drop,List.drop_left' (by simp),List.drop_replicate,Nat.sub_sub]
section
variable {F:Nat->Prop}{W w w0:World}{L:List As}{xa:Option Addr}{xc:Nat}{v:Int}
def akb {Q:Option Addr->Nat->Nat->World->Prop}{b N:Nat}(hN:N<=1048576)(h:∀w',Sep No w0 w' (ak (sZ b) N N 3 1 (flat one (List.replicate N v))::L)->Q (sZ b) N N w'):
  ∀(m n:Nat) (w:World),N<=n+m->1<=n->n<=N->Sep No w0 w (ak (sZ b) N N 3 1 (flat one (List.replicate n v++List.replicate (N-n) 0))::L)->lK Q (m+1) (sZ b) N N n w:=by
 have done:∀(R:Option Addr->Nat->Nat->Int->World->Prop) (w:World),Sep No w0 w (ak (sZ b) N N 3 1 (flat one (List.replicate N v++List.replicate (N-N) 0))::L)->lJ Q R (sZ b) N N N w:=λR w s=>by unfold lJ;grind
 intro m;induction m with
 |zero=>
  intro n w hm h1 h2 s;have:n=N:=by omega
  subst this;exact done _ _ s
 |succ m ih=>
  intro n w hm h1 h2 s;show lJ Q (lK Q (m+1)) _ _ _ _ _;by_cases hn:n=N
  ·grind
  ·rw[lJ,bK];apply Py rfl h2;rw[fR];apply Px rfl h2;have s:=ay s;have hT:=(aN s (i:=0) rfl cv (by decide)).top h2;refine EL (p:=n) dQ s rfl rfl rfl rfl (by decide) (i:=0) rfl (hT.src (e:=3) cv Fk) (by omega) (by simp[Addr.add];omega) λw s=>?_;rw[aqv (Nat.min_le_left _ _) (by omega)]at s;have e:IntKind.wrap .i64 ((n:Int)+((min n (N-n):Nat):Int))=((n+min n (N-n):Nat):Int):=by rw[aH];omega
   grind
def LS {N:Nat}{Q:Option Addr->Nat->Nat->World->Prop}(s0:Sep F W w L)(hA:Sl w xa 1 xc 1 one [v])(hN:1<=N/\N<=1048576)
  (h:∀ra w',Sep F W w' (ak ra N N 3 1 (flat one (List.replicate N v))::L)->Fr No w w'->Q ra N N w'):ko xa 1 xc N w Q:=by
 apply I_;rw[bu,ku (by decide),ku (by omega)];apply Da (by decide) (by omega) (by omega);have e1:((1:Nat):Int)*N=N:=by omega
 rw[e1,bu (by decide),bu,aH];refine xK (bytes:=8) dQ (aX (F:=No)) rfl rfl rfl rfl rfl rfl (by decide) cv rfl (λu hu=>Fk 0 u hu) rfl rfl (Nat.le_refl _) (by omega) (by simp[maxLen];omega) λb w' s=>?_;refine EL (p:=0) dQ s rfl rfl rfl rfl (by decide) (i:=0) rfl ((hA.fr (aq s)).src (e:=3) cv Fk) (by omega) rfl λw' s=>?_;have hm:min 1 N=1:=by omega
 rw[hm]at s⊢;have e2:(flat one (List.replicate N 0)).take (0*1)++(flat one [v]).take (1*1)++(flat one (List.replicate N 0)).drop ((0+1)*1)=flat one (List.replicate 1 v++List.replicate (N-1) 0):=by simp only[LR,Nat.zero_mul,List.take_zero,List.nil_append,Nat.mul_one,Nat.zero_add];simp_all
 rw[e2]at s;exact⟨N+1,akb hN.2 (λw' s=>h _ _ (dz s0 s (i:=0) rfl) (aq s)) N 1 w' (by omega) (by omega) hN.1 s⟩
end
section
variable {F:Nat->Prop}{W w w0:World}{L:List As}{a:Option Addr}{n c:Nat}{xs:List bh}{bs:List Int}
def Wn {Q:Option Addr->Nat->Nat->World->Prop}(s:Sep F W w L)(hA:Sl w a n c 3 fS xs)(hn:n<=1000000000)(h:∀ra rc w',Sep F W w' (ak ra n rc 294 3 (flat fS xs)::L)->Fr No w w'->Q ra n rc w'):ji a n c w Q:=by
 apply Cd;cases a with
 |none=>
  have hl:=hA.len;have:=hA.nil rfl;have h0:n=0:=by have:=hA.le;omega
  subst h0;have hb:=List.eq_nil_of_length_eq_zero hl;subst hb;exact h _ _ _ (bC s 294 3) Fr.refl
 |some p=>
  apply kT;refine aM (aX (F:=No)) λb w' s'=>?_;have src:=(hA.fr (aq s')).src (e:=294) nD Wk;have s':=g7 (n:=0) (size:=3) s' (i:=0) rfl rfl (by decide) (by simp);refine iq dQ s' (i:=0) (bytes:=24) rfl rfl rfl rfl rfl rfl (by decide) rfl src (by simp[maxLen];omega) (by omega) (hA.fr (aq s')).nil λa1 c1 w1 s1=>?_;simp[List.set_cons_zero,List.nil_append,Nat.zero_add]at s1⊢;exact h _ _ _ (dz s s1 (i:=0) rfl) (aq s1)
def LU {Q:Option Addr->Nat->Nat->World->Prop}(s:Sep F W w L)(hA:Sl w a n c 1 one bs)(hn:n<=1000000000)(h:∀ra rc w',Sep F W w' (ak ra n rc 3 1 (flat one bs)::L)->Fr No w w'->Q ra n rc w'):kQ a n c w Q:=by
 apply JQ;cases a with
 |none=>
  have hl:=hA.len;have:=hA.nil rfl;have h0:n=0:=by have:=hA.le;omega
  subst h0;have hb:=List.eq_nil_of_length_eq_zero hl;subst hb;exact h _ _ _ (bC s 3 1) Fr.refl
 |some p=>
  apply kT;refine aM (aX (F:=No)) λb w' s'=>?_;have src:=(hA.fr (aq s')).src (e:=3) cv Fk;have s':=g7 (n:=0) (size:=1) s' (i:=0) rfl rfl (by decide) (by simp);refine iq dQ s' (i:=0) (bytes:=8) rfl rfl rfl rfl rfl rfl (by decide) rfl src (by simp[maxLen];omega) (by omega) (hA.fr (aq s')).nil λa1 c1 w1 s1=>?_;simp[List.set_cons_zero,List.nil_append,Nat.zero_add]at s1⊢;exact h _ _ _ (dz s s1 (i:=0) rfl) (aq s1)
end
def w32 (x:Int):List Value:=[.int .u32 x]
def Xq (x:Int):(w32 x).length=1:=rfl
structure Ra where
 p:Nat
 a:Option Addr
 n:Nat
 c:Nat
 fV:Int
def Xr (ws:List Int):Prop:=∀x∈ws,0<=x/\x<4294967296
def ad6 (r:Ra)(ws:List Int):List As:=[ax r.p 247 [.slice r.a r.n r.c,ae r.fV],ak r.a r.n r.c 248 1 (flat w32 ws)]
def vr (r:Ra)(ws:List Int):As:=bg (Xr ws) (ad6 r ws)
def wrap_u32' {n:Int}(h:0<=n/\n<4294967296):IntKind.wrap .u32 n=n:=by
 have:IntKind.wrap .u32 n=n%4294967296:=by simp[IntKind.wrap,IntKind.bits,IntKind.signed]
 grind
section
variable {F:Nat->Prop}{W w w0:World}{L:List As}{r:Ra}{ws:List Int}{ce id:Int}
def SZ (s:Sep F W w (vr r ws::L)):Xr ws/\Sep F W w (ad6 r ws++L):=gP s
def O_ (s:Sep F W w (ad6 r ws++L))(h:Xr ws):Sep F W w (vr r ws::L):=dy s h
structure abV (w:World) (r:Ra) (ws:List Int):Prop where
 ok:Xr ws
 cell:rW w r.p [.slice r.a r.n r.c,ae r.fV]
 V:Sl w r.a r.n r.c 1 w32 ws
def GC (s:Sep F W w (vr r ws::L)):abV w r ws:=by obtain⟨h,s⟩:=SZ s;exact⟨h,ld s (i:=0) rfl,aN s (i:=1) rfl Xq (by decide)⟩
def Cr (ws:List Int)(c:Int):Int:=if 0<=c/\c<ws.length then gi ws c.toNat-1 else-1
def Ar (ws:List Int)(c:Int):Bool:=decide (0<=c/\c<ws.length)&&gi ws c.toNat==0
def Rb {Q:Bool->World->Prop}(k:abV w r ws)(h:Q (decide (0<=ce/\ce<ws.length)) w):tU (sZ r.p) ce w Q:=by
 apply Sr;have hl:=k.V.len;show cond true _ _;rw[cond_true];by_cases h0:ce≥0
 ·rw[bK h0];refine ah (cS (k.cell 0 _ rfl) ?_);grind
 grind
def LV {Q:Bool->World->Prop}(k:abV w r ws)(h:Q (Ar ws ce) w):rB (sZ r.p) ce w Q:=by
 apply OL;apply Rb k;have hl:=k.V.len;unfold Ar at h;by_cases h0:0<=ce/\ce<ws.length
 ·rw[bK h0];rw[decide_eq_true h0,Bool.true_and]at h;refine ah (cS (k.cell 0 _ rfl) ?_);exact F5 k.V (by omega) (by omega) h
 grind
def Bt {Q:Int->World->Prop}(k:abV w r ws)(h:Q (Cr ws ce) w):lW (sZ r.p) ce w Q:=by
 apply Qk;apply Rb k;have hl:=k.V.len;unfold Cr at h;by_cases h0:0<=ce/\ce<ws.length
 ·rw[decide_eq_true h0,Bool.not_true,cond_false];rw[if_pos h0]at h;refine ah (cS (k.cell 0 _ rfl) ?_);apply F5 k.V (k:=ce.toNat) (by omega) (by omega);have hb:=k.ok _ (fA (i:=ce.toNat) (by omega));rw[aH (n:=gi ws ce.toNat),aH];exact h
 grind
def NN {Q:Bool->World->Prop}(s:Sep F W w (vr r ws::L))(AU:0<=id/\id<4294967295)(hno:Ar ws ce=false->Q false w)
  (hyes:Ar ws ce=true->∀fV w',Sep F W w' (vr {r with fV:=fV} (ws.set ce.toNat (id+1))::L)->Q true w'):sj (sZ r.p) ce id w Q:=by
 apply Qp;have k:=GC s;apply LV k;cases hf:Ar ws ce with
 |false=>exact hno hf
 |true=>
  rw[Bool.not_true,cond_false,bu,bu];have h0:0<=ce/\ce<ws.length:=by unfold Ar at hf;grind
  obtain⟨hok,s⟩:=SZ s;have s:=s;apply ah;apply lS s 0 rfl;rw[aH,wrap_u32' (by omega)];refine NK (k:=ce.toNat) (x':=id+1) Xq s (i:=1) rfl (by omega) (by omega) rfl rfl λw s=>?_;apply ah;apply lI s 0 rfl;apply ah;refine av s (i:=0) rfl rfl rfl λw s=>?_;refine hyes hf (IntKind.wrap .i64 (r.fV+1)) _ (O_ s λx hx=>?_);rcases List.mem_or_eq_of_mem_set hx with hx|rfl
  ·exact hok x hx
  ·omega
end
section
variable {F:Nat->Prop}{W w w0:World}{L:List As}{r:Ra}{ws:List Int}{ce id:Int}
def LW {Q:Int->World->Prop}(s:Sep F W w (vr r ws::L))(hno:Cr ws ce=-1->Q (-1) w)
  (hyes:Cr ws ce≠-1->∀fV w',Sep F W w' (vr {r with fV:=fV} (ws.set ce.toNat 0)::L)->Q (Cr ws ce) w'):rA (sZ r.p) ce w Q:=by
 apply OO;have k:=GC s;apply Bt k;by_cases hf:Cr ws ce=-1
 ·grind
 ·rw[Gw hf,cond_true];have h0:0<=ce/\ce<ws.length:=by unfold Cr at hf;grind
  obtain⟨hok,s⟩:=SZ s;have s:=s;apply ah;apply lS s 0 rfl;refine NK (k:=ce.toNat) (x':=0) Xq s (i:=1) rfl (by omega) (by omega) rfl rfl λw s=>?_;apply ah;apply lI s 0 rfl;apply ah;refine av s (i:=0) rfl rfl rfl λw s=>?_;refine hyes hf (IntKind.wrap .i64 (r.fV-1)) _ (O_ s λx hx=>?_);rcases List.mem_or_eq_of_mem_set hx with hx|rfl
  ·exact hok x hx
  ·omega
def abW {N:Nat}{Q:Option Addr->World->Prop}(s:Sep F W w L)(hN:1<=N/\N<=1048576)(h:∀r w',Sep F W w' (vr r (List.replicate N 0)::L)->Q (sZ r.p) w'):Gi N w Q:=by apply abA;rw[bu,bu];refine xK (bytes:=4) dQ s rfl rfl rfl rfl rfl rfl (by decide) Xq rfl (λu hu=>by simp[w32]at hu;subst hu;rfl) rfl rfl (Nat.le_refl _) (by omega) (by simp[maxLen];omega) λb w' s=>?_;refine aM s λp w' s=>?_;refine h ⟨p,sZ b,N,N,0⟩ _ (O_ s λx hx=>?_);grind
def Yr {fr to:Int}{Q:Bool->World->Prop}(s:Sep F W w (vr r ws::L))(hno:Cr ws fr=-1\/Ar ws to=false->Q false w)
  (hyes:Cr ws fr≠-1->Ar ws to=true->∀fV w',Sep F W w' (vr {r with fV:=fV} ((ws.set fr.toNat 0).set to.toNat (Cr ws fr+1))::L)->Q true w'):wu (sZ r.p) fr to w Q:=by
 apply M5;have k:=GC s;apply Bt k;by_cases hf:Cr ws fr=-1
 ·grind
 rw[cN hf,cond_false];apply LV k;cases ht:Ar ws to with
 |false=>
  grind
 |true=>
  refine LW s (λe=>(hf e).elim) λ_ fV w s=>?_;have hw:0<=Cr ws fr/\Cr ws fr<4294967295:=by
   unfold Cr at hf⊢;split at hf
   ·rename_i h0;have:=k.ok _ (fA (i:=fr.toNat) (by omega));omega
   grind
  have hfree:Ar (ws.set fr.toNat 0) to=true:=by unfold Ar at ht⊢;simp[Bool.and_eq_true,decide_eq_true_eq,List.length_set,beq_iff_eq]at ht⊢;refine⟨ht.1,?_⟩;unfold gi at ht⊢;grind
  refine NN (r:={r with fV:=fV}) s (by omega) (λe=>by grind) λ_ aCe w s=>?_;grind
end
def o6 (x:Int):List Value:=[.int .i32 x]
def vu (x:Int):(o6 x).length=1:=rfl
def afm {n:Int}(h:-2147483648<=n/\n<2147483648):IntKind.wrap .i32 n=n:=by simp only[IntKind.wrap,IntKind.bits,IntKind.signed];simp;omega
structure GD where
 goal:Int
 ep:Int
 ds:List Int
structure xD where
 p:Nat
 a:Option Addr
 n:Nat
 c:Nat
def an6 (r:xD)(t:GD):List Value:=[ae t.goal,ae t.ep,.slice r.a r.n r.c]
def aiu (ds:List Int):Prop:=∀x∈ds,0<=x/\x<=2147483647
def ad7 (r:xD)(t:GD):List As:=[ax r.p 298 (an6 r t),ak r.a r.n r.c 21 1 (flat o6 t.ds)]
def Eg (r:xD)(t:GD):As:=bg (aiu t.ds) (ad7 r t)
structure GF (w:World) (r:xD) (t:GD):Prop where
 ok:aiu t.ds
 cell:rW w r.p (an6 r t)
 V:Sl w r.a r.n r.c 1 o6 t.ds
section
variable {F:Nat->Prop}{W w w0:World}{L:List As}{r:xD}{t:GD}{ce key:Int}
def GF.fr {w':World}(k:GF w r t)(f:Fr No w w'):GF w' r t:=⟨k.ok,k.cell.fr f,k.V.fr f⟩
def abX (s:Sep F W w (Eg r t::L)):aiu t.ds/\Sep F W w (ad7 r t++L):=gP s
def YP (s:Sep F W w (ad7 r t++L))(h:aiu t.ds):Sep F W w (Eg r t::L):=dy s h
def S0 (s:Sep F W w (Eg r t::L)):GF w r t:=by obtain⟨h,s⟩:=abX s;exact⟨h,ld s (i:=0) rfl,aN s (i:=1) rfl vu (by decide)⟩
def atF (ds:List Int)(c:Int):Int:=if 0<=c/\c<ds.length then(if gi ds c.toNat=2147483647 then cf else gi ds c.toNat)else cf
def ad8 {Q:Int->World->Prop}(k:GF w r t)(h:Q (atF t.ds ce) w):z_ (sZ r.p) ce w Q:=by
 apply SA;apply kT;have hl:=k.V.len;unfold atF at h;by_cases h0:ce<0
 ·rw[bK h0];rw[fR]at h;exact h
 rw[bu h0];refine ah (cS (k.cell 2 _ rfl) ?_);by_cases h1:ce≥(r.n:Int)
 ·rw[bK h1];rw[fR]at h;exact h
 rw[bu h1];rw[AH]at h;refine ah (cS (k.cell 2 _ rfl) ?_);apply F5 k.V (k:=ce.toNat) (by omega) (by omega);have hb:=k.ok _ (fA (i:=ce.toNat) (by omega));by_cases h2:gi t.ds ce.toNat=2147483647
 ·rw[d_ h2,cond_true];rw[if_pos h2]at h;exact h
 rw[cN h2,cond_false];rw[if_neg h2]at h;refine ah (cS (k.cell 2 _ rfl) ?_);apply F5 k.V (k:=ce.toNat) (by omega) (by omega);rw[aH];exact h
def Z_ {Q:Int->World->Prop}(k:GF w r t)(h:Q t.goal w):xY (sZ r.p) w Q:=by apply OR;exact kT (ah (aJ (k.cell 0 _ rfl) h))
def Ys {Q:Int->World->Prop}(k:GF w r t)(h:Q t.ep w):wB (sZ r.p) w Q:=by apply MT;exact kT (ah (aJ (k.cell 1 _ rfl) h))
def LX {Q:Bool->World->Prop}(s:Sep F W w (Eg r t::L))(hc:0<=ce/\ce<t.ds.length)(hk:0<=key/\key<4000000000)(hno:key≥gi t.ds ce.toNat->Q false w)
  (hyes:key<gi t.ds ce.toNat->∀w',Sep F W w' (Eg r ⟨t.goal,t.ep,t.ds.set ce.toNat key⟩::L)->Q true w'):rC (sZ r.p) ce key w Q:=by
 apply OV;have k:=S0 s;have hl:=k.V.len;have hb:=k.ok _ (fA (i:=ce.toNat) (by omega));refine ah (cS (k.cell 2 _ rfl) ?_);apply F5 k.V (k:=ce.toNat) (by omega) (by omega);rw[aH];by_cases h1:key≥gi t.ds ce.toNat
 ·grind
 rw[bu h1];refine ah (cS (k.cell 2 _ rfl) ?_);obtain⟨hok,s⟩:=abX s;have s:=s;rw[afm (by omega)];refine NK (k:=ce.toNat) (x':=key) vu s (i:=1) rfl (by omega) (by omega) rfl rfl λw s=>?_;refine hyes (by omega) _ (YP s λx hx=>?_);rcases List.mem_or_eq_of_mem_set hx with hx|rfl
 ·exact hok x hx
 ·omega
end
def S1 (c s:Int)(st:Int×Bool)(x:bh):Int×Bool:=if x.c=c/\x.s=s/\(st.2=false\/x.k<st.1)then(x.k,true)else st
def IC (xs:List bh)(c s:Int):Int:=(xs.foldl (S1 c s) (cf,false)).1
section
variable {F:Nat->Prop}{W w w0:World}{L:List As}{la:Option Addr}{ln lc:Nat}{xs:List bh}{ce sd:Int}
def an8 {Q:Int->World->Prop}(hX:Sl w0 la ln lc 3 fS xs)(qi:ln<=1000000)(h:∀w',Sep No w0 w' []->Q (IC xs ce sd) w'):
  ∀(j i:Nat) (b:Int) (q:Bool) (w:World),i+j=ln->(xs.drop i).foldl (S1 ce sd) (b,q)=xs.foldl (S1 ce sd) (cf,false)->Sep No w0 w []->oE Q (j+1) ce sd b q la ln lc ln i w:=by
 have hl:=hX.len;intro j;induction j with
 |zero=>
  intro i b q w hi he s;show zq Q (oE Q 0) _ _ _ _ _ _ _ _ _ _;unfold zq;have:=h w s;unfold IC at this;grind
 |succ j ih=>
  intro i b q w hi he s;show zq Q (oE Q (j+1)) _ _ _ _ _ _ _ _ _ _;rw[zq,bK];refine(hX.fr (aq s)).El rfl (by omega) λp x hx hc=>?_;refine aJ (hc 0 _ rfl) (aJ (hc 1 _ rfl) (aJ (hc 2 _ rfl) ?_));obtain⟨IX,hx'⟩:=List.getElem?_eq_some_iff.1 hx;rw[List.drop_eq_getElem_cons IX,hx',List.foldl_cons]at he;refine aT s λsb w s=>?_;refine av s (i:=0) rfl rfl rfl λw s=>?_;refine av s (i:=0) rfl rfl rfl λw s=>?_;refine av s (i:=0) rfl rfl rfl λw s=>?_;have skip:¬(x.c=ce/\x.s=sd/\(q=false\/x.k<b))->oE Q (j+1) ce sd b q la ln lc ln (IntKind.wrap .i64 ((i:Int)+1)) w:=λhn=>by rw[aH];refine ih (i+1) b q w (by omega) ?_ (ai s);have e:S1 ce sd (b,q) x=(b,q):=if_neg hn;grind
  have take:x.c=ce/\x.s=sd/\(q=false\/x.k<b)->C8 (oE Q (j+1)) Q ce sd (aZ sb) la ln lc ln i w:=λhy=>by apply lI s 0 rfl;rw[aH];refine ih (i+1) x.k true w (by omega) ?_ (ai s);have e:S1 ce sd (b,q) x=(x.k,true):=if_pos hy;grind
  apply lI s 0 rfl;by_cases k1:x.c=ce
  ·rw[d_ k1,cond_true];apply lI s 0 rfl;by_cases k2:x.s=sd
   ·rw[d_ k2,cond_true];cases q with
    |false=>
     grind
    |true=>
     apply lI s 0 rfl;grind
   grind
  grind
def LY {Q:Int->World->Prop}(s0:Sep F W w L)(hX:Sl w la ln lc 3 fS xs)(qi:ln<=1000000)(h:∀w',Sep F W w' L->Fr No w w'->Q (IC xs ce sd) w'):Ag la ln lc ce sd w Q:=by apply Z1;exact⟨ln+1,an8 hX qi (λw' s=>h _ (bP s0 (aq s)) (aq s)) ln 0 cf false w (by omega) (by grind) aX⟩
end
def bN (tw th l s:Int):Int:=
 if s=0 then(if l/tw>0 then l-tw else-1)
 else if s=1 then(if l%tw<tw-1 then l+1 else-1)
 else if s=2 then(if l/tw<th-1 then l+tw else-1)
 else if s=3 then(if l%tw>0 then l-1 else-1)
 else-1
section
variable {F:Nat->Prop}{W w w0:World}{L:List As}{p:Nat}{tw th l sd:Int}{vs:List Value}
def abY {Q:Int->World->Prop}(s0:Sep F W w L)(k:rW w p (ae tw::ae th::vs))(hw:1<=tw/\tw<=16)(hh:1<=th/\th<=16)(hl:0<=l/\l<1000000)
  (h:∀w',Sep F W w' L->Fr No w w'->Q (bN tw th l sd) w'):y_ (sZ p) l sd w Q:=by
 apply QI;have k:=k.fr (w':=w.drew) Fr.refl;have h:=h _ (ay s0) Fr.refl;have d0:0<=l/tw:=Int.ediv_nonneg hl.1 (by omega);have d1:l/tw<=l:=Int.ediv_le_self _ hl.1;refine ah (aJ (k 0 _ rfl) ⟨by omega,ah (aJ (k 0 _ rfl) ⟨by omega,k 0 _ rfl,?_⟩)⟩);rw[Int.tdiv_eq_ediv_of_nonneg hl.1,Int.tmod_eq_emod_of_nonneg hl.1,aH];unfold bN at h;have b8:(if sd=3 then(if l%tw>0 then l-1 else-1)else-1:Int)=bN tw th l sd->qL Q l sd (l%tw) w.drew:=λe=>by
  unfold bN at e;unfold qL;by_cases k3:sd=3
  ·by_cases q:l%tw>0
   ·rw[bK q,aH];grind
   grind
  grind
 have b6:(sd≠0->sd≠1->True)->(sd=0\/sd=1->bN tw th l sd=-1)->qM Q (sZ p) l sd (l%tw) (l/tw) w.drew:=λ_ e=>by
  unfold qM;by_cases k2:sd=2
  ·rw[d_ k2,cond_true];rw[fR,fR,if_pos k2]at h;refine ah (aJ (k 1 _ rfl) ?_);rw[aH];by_cases q:l/tw<th-1
   ·rw[bK q];rw[if_pos q]at h;refine ah (aJ (k 0 _ rfl) ?_);rw[aH];exact h
   ·rw[bu q];apply b8;unfold bN;omega
  ·rw[cN k2,cond_false];apply b8;by_cases k01:sd=0\/sd=1
   ·omega
   ·unfold bN;omega
 have b4:(sd=0->bN tw th l sd=-1)->qN Q (sZ p) l sd (l%tw) (l/tw) w.drew:=λe=>by
  unfold qN;by_cases k1:sd=1
  ·rw[d_ k1,cond_true];refine ah (aJ (k 0 _ rfl) ?_);rw[aH];by_cases q:l%tw<tw-1
   ·rw[bK q,aH];grind
   ·rw[bu q];refine b6 (λ_ _=>trivial) λ_=>?_;unfold bN;omega
  grind
 by_cases k0:sd=0
 ·rw[d_ k0,cond_true];by_cases q:l/tw>0
  ·rw[bK q];rw[if_pos k0,if_pos q]at h;refine ah (aJ (k 0 _ rfl) ?_);rw[aH];exact h
  ·rw[bu q];refine b4 λ_=>?_;unfold bN;grind
 grind
end
end Go.Proofs.YtmegplnmiepfbaaGreatDoor.S
namespace Go.Proofs.YtmegplnmiepfbaaGreatDoor.S
open Go.Sx
section
variable {w h sc l s c x y:Int}
def GG (hm:iM w h)(hx:0<=x/\x<w)(hy:0<=y/\y<h):aC w h (y*w+x)/cJ w=y/16/\aC w h (y*w+x)%cJ w=x/16:=by obtain⟨e1,e2⟩:=rL (y:=y) hx;have:=Vq (abb hm hx hy);grind
def zA (hs:dW w h sc):(1<=aE w h sc/\aE w h sc<=16)/\(1<=bw w h sc/\bw w h sc<=16)/\0<=sc%cJ w/\0<=sc/cJ w/\16*(sc%cJ w)<w/\16*(sc/cJ w)<h:=by
 obtain⟨hm,h0,h1⟩:=hs;have ha:1<=cJ w:=by unfold cJ;have:=hm.1;omega
 have m0:=Int.emod_nonneg sc (show cJ w≠0 by omega);have m1:=Int.emod_lt_of_pos sc (show 0<cJ w by omega);have d0:0<=sc/cJ w:=Int.ediv_nonneg h0 (by omega);have d1:sc/cJ w<cJ h:=Int.ediv_lt_of_lt_mul (by omega) (by unfold eV at h1;grind);have a1:16*(sc%cJ w)<w:=by unfold cJ at*;omega
 have a2:16*(sc/cJ w)<h:=by have:cJ h=(h+15)/16:=rfl;omega
 unfold aE bw;omega
def Rc (hs:dW w h sc)(hl:0<=l/\l<aE w h sc*bw w h sc)(vZ:0<=s/\s<=3)(hn:0<=bN (aE w h sc) (bw w h sc) l s):
  (0<=bN (aE w h sc) (bw w h sc) l s/\bN (aE w h sc) (bw w h sc) l s<aE w h sc*bw w h sc)/\bf w h (bU w h sc l) s=bU w h sc (bN (aE w h sc) (bw w h sc) l s):=by
 obtain⟨⟨w1,w2⟩,⟨h1,h2⟩,p1,p2,p3,p4⟩:=zA hs;have hw:aE w h sc<=w-16*(sc%cJ w):=by unfold aE;omega
 have hh:bw w h sc<=h-16*(sc/cJ w):=by unfold bw;omega
 obtain⟨i0,i1⟩:0<=l%aE w h sc/\l%aE w h sc<aE w h sc:=⟨Int.emod_nonneg _ (by omega),Int.emod_lt_of_pos _ (by omega)⟩;obtain⟨j0,j1⟩:0<=l/aE w h sc/\l/aE w h sc<bw w h sc:=⟨Int.ediv_nonneg hl.1 (by omega),Int.ediv_lt_of_lt_mul (by omega) (by rw[Int.mul_comm];exact hl.2)⟩;have hle:l=l/aE w h sc*aE w h sc+l%aE w h sc:=by have:=Int.mul_ediv_add_emod l (aE w h sc);rw[Int.mul_comm]at this;omega
 have hg:∀i j,0<=i/\i<aE w h sc->bU w h sc (j*aE w h sc+i)=(16*(sc/cJ w)+j)*w+(16*(sc%cJ w)+i):=λi j hi=>by obtain⟨e1,e2⟩:=rL hi;rw[bU,e1,e2];omega
 have key:∀i j i' j',l=j*aE w h sc+i->0<=i/\i<aE w h sc->0<=i'/\i'<aE w h sc->0<=j'/\j'<bw w h sc->bN (aE w h sc) (bw w h sc) l s=j'*aE w h sc+i'->
   (0<=j/\j<bw w h sc)->bf w h ((16*(sc/cJ w)+j)*w+(16*(sc%cJ w)+i)) s=g6 w h (16*(sc%cJ w)+i') (16*(sc/cJ w)+j')->
   (0<=bN (aE w h sc) (bw w h sc) l s/\bN (aE w h sc) (bw w h sc) l s<aE w h sc*bw w h sc)/\bf w h (bU w h sc l) s=bU w h sc (bN (aE w h sc) (bw w h sc) l s):=by
  intro i j i' j' el hi hi' hj' en hj es;rw[en,el,hg _ _ hi,hg _ _ hi',es,nj hs.1 (by omega) (by omega)];refine⟨⟨by have:=Int.mul_nonneg hj'.1 (show 0<=aE w h sc by omega);omega,?_⟩,rfl⟩;have:=Int.mul_le_mul_of_nonneg_right (show j'+1<=bw w h sc by omega) (show 0<=aE w h sc by omega);rw[Int.add_mul,Int.one_mul,Int.mul_comm (bw w h sc)]at this;omega
 have hst:=EP (s:=s) hs.1 (x:=16*(sc%cJ w)+l%aE w h sc) (y:=16*(sc/cJ w)+l/aE w h sc) (by omega) (by omega);unfold bN at hn;obtain rfl|rfl|rfl|rfl:s=0\/s=1\/s=2\/s=3:=by omega
 ·by_cases q:l/aE w h sc>0
  ·refine key _ _ (l%aE w h sc) (l/aE w h sc-1) hle ⟨i0,i1⟩ ⟨i0,i1⟩ (by omega) ?_ ⟨j0,j1⟩ ?_
   ·rw[bN,if_pos rfl,if_pos q,Int.sub_mul,Int.one_mul];omega
   ·rw[hst,if_pos rfl];congr 1;omega
  ·omega
 ·by_cases q:l%aE w h sc<aE w h sc-1
  ·refine key _ _ (l%aE w h sc+1) (l/aE w h sc) hle ⟨i0,i1⟩ (by omega) (by omega) ?_ ⟨j0,j1⟩ ?_
   ·unfold bN;omega
   ·rw[hst,if_neg (by decide),if_neg (by decide),if_neg (by decide),if_pos rfl];congr 1;omega
  ·omega
 ·by_cases q:l/aE w h sc<bw w h sc-1
  ·refine key _ _ (l%aE w h sc) (l/aE w h sc+1) hle ⟨i0,i1⟩ ⟨i0,i1⟩ (by omega) ?_ ⟨j0,j1⟩ ?_
   ·rw[bN,if_neg (by decide),if_neg (by decide),if_pos rfl,if_pos q,Int.add_mul,Int.one_mul];omega
   ·rw[hst,if_neg (by decide),if_pos rfl];congr 1;omega
  ·omega
 ·by_cases q:l%aE w h sc>0
  ·refine key _ _ (l%aE w h sc-1) (l/aE w h sc) hle ⟨i0,i1⟩ (by omega) (by omega) ?_ ⟨j0,j1⟩ ?_
   ·unfold bN;omega
   ·rw[hst,if_neg (by decide),if_neg (by decide),if_pos rfl];congr 1;omega
  ·omega
def S2 (hs:dW w h sc)(hl:0<=l/\l<aE w h sc*bw w h sc)(vZ:0<=s/\s<=3)(hn:¬0<=bN (aE w h sc) (bw w h sc) l s):
  (0<=bf w h (bU w h sc l) s->aC w h (bf w h (bU w h sc l) s)≠sc)/\l∈mJ (aE w h sc) (bw w h sc) s/\
  (0<=bf w h (bU w h sc l) s->0<=bf w h (bU w h sc (gi (mJ (aE w h sc) (bw w h sc) s) 0)) s):=by
 obtain⟨⟨w1,w2⟩,⟨h1,h2⟩,p1,p2,p3,p4⟩:=zA hs;have hw:aE w h sc=min 16 (w-16*(sc%cJ w)):=rfl;have hh:bw w h sc=min 16 (h-16*(sc/cJ w)):=rfl;obtain⟨i0,i1⟩:0<=l%aE w h sc/\l%aE w h sc<aE w h sc:=⟨Int.emod_nonneg _ (by omega),Int.emod_lt_of_pos _ (by omega)⟩;obtain⟨j0,j1⟩:0<=l/aE w h sc/\l/aE w h sc<bw w h sc:=⟨Int.ediv_nonneg hl.1 (by omega),Int.ediv_lt_of_lt_mul (by omega) (by rw[Int.mul_comm];exact hl.2)⟩;have hle:l=l/aE w h sc*aE w h sc+l%aE w h sc:=by have:=Int.mul_ediv_add_emod l (aE w h sc);rw[Int.mul_comm]at this;omega
 have hg:∀i j,0<=i/\i<aE w h sc->bU w h sc (j*aE w h sc+i)=(16*(sc/cJ w)+j)*w+(16*(sc%cJ w)+i):=λi j hi=>by obtain⟨e1,e2⟩:=rL hi;rw[bU,e1,e2];omega
 have hst:=EP (s:=s) hs.1 (x:=16*(sc%cJ w)+l%aE w h sc) (y:=16*(sc/cJ w)+l/aE w h sc) (by omega) (by omega);have hgl:bU w h sc l=(16*(sc/cJ w)+l/aE w h sc)*w+(16*(sc%cJ w)+l%aE w h sc):=by have:=hg (l%aE w h sc) (l/aE w h sc) ⟨i0,i1⟩;rw[<-hle]at this;exact this
 rw[<-hgl]at hst;have first:∀i j,0<=i/\i<aE w h sc->0<=j/\j<bw w h sc->bf w h (bU w h sc (j*aE w h sc+i)) s=if s=0 then g6 w h (16*(sc%cJ w)+i) (16*(sc/cJ w)+j-1)else if s=2 then g6 w h (16*(sc%cJ w)+i) (16*(sc/cJ w)+j+1)else if s=3 then g6 w h (16*(sc%cJ w)+i-1) (16*(sc/cJ w)+j)else if s=1 then g6 w h (16*(sc%cJ w)+i+1) (16*(sc/cJ w)+j)else if s=4 then g6 w h (16*(sc%cJ w)+i) (16*(sc/cJ w)+j)else-1:=λi j hi hj=>by rw[hg i j hi];exact EP hs.1 (by omega) (by omega)
 have ok:∀{x y:Int},0<=g6 w h x y->(0<=x/\x<w)/\(0<=y/\y<h)/\g6 w h x y=y*w+x:=λh0=>by obtain⟨a,b,_⟩:=BW h0;exact⟨a,b,nj hs.1 a b⟩
 have pos:∀{x y:Int},0<=x/\x<w->0<=y/\y<h->0<=g6 w h x y:=λhx hy=>by rw[nj hs.1 hx hy];have:=Int.mul_nonneg hy.1 (show 0<=w by omega);omega
 have head:∀(n:Int) (f:Int->Int),0<n->gi (mI n f) 0=f 0:=λn f hn=>by unfold gi mI;rw[List.getD_eq_getElem?_getD,List.getElem?_map,List.getElem?_range (by omega)];rfl
 have mem:∀(n:Int) (f:Int->Int) (k:Int),0<=k/\k<n->f k∈mI n f:=λn f k hk=>by refine List.mem_map.2 ⟨k.toNat,List.mem_range.2 (by omega),?_⟩;rw[Int.toNat_of_nonneg hk.1]
 unfold bN at hn;obtain rfl|rfl|rfl|rfl:s=0\/s=1\/s=2\/s=3:=by omega
 ·rw[hst,if_pos rfl];have q:¬l/aE w h sc>0:=λq=>by have:=Int.mul_le_mul_of_nonneg_right (show 1<=l/aE w h sc by omega) (show 0<=aE w h sc by omega);omega
  have hj:l/aE w h sc=0:=by omega
  have ha:mJ (aE w h sc) (bw w h sc) 0=mI (aE w h sc) λx=>0+x:=by unfold mJ;rw[if_neg (by decide),if_pos rfl]
  rw[ha];refine⟨λh0 e=>?_,?_,λh0=>?_⟩
  ·obtain⟨a,b,e1⟩:=ok h0;rw[e1]at e;have:=(GG hs.1 a b).1;rw[e]at this;omega
  ·have:=mem (aE w h sc) (λx=>0+x) l (by rw[hj,Int.zero_mul]at hle;omega);simpa using this
  ·rw[head _ _ (by omega)];have:=first 0 0 (by omega) (by omega)
   rw[Int.zero_mul]at this;rw[this,if_pos rfl];obtain⟨a,b,_⟩:=ok h0;exact pos (by omega) (by omega)
 ·rw[hst,if_neg (by decide),if_neg (by decide),if_neg (by decide),if_pos rfl];have q:¬l%aE w h sc<aE w h sc-1:=λq=>by omega
  have ha:mJ (aE w h sc) (bw w h sc) 1=mI (bw w h sc) λy=>aE w h sc-1+y*aE w h sc:=by unfold mJ;rw[if_neg (by decide),if_neg (by decide),if_pos rfl]
  rw[ha];refine⟨λh0 e=>?_,?_,λh0=>?_⟩
  ·obtain⟨a,b,e1⟩:=ok h0;rw[e1]at e;have:=(GG hs.1 a b).2;rw[e]at this;omega
  ·have:=mem (bw w h sc) (λy=>aE w h sc-1+y*aE w h sc) (l/aE w h sc) ⟨j0,j1⟩;rwa[show aE w h sc-1+l/aE w h sc*aE w h sc=l by omega]at this
  ·rw[head _ _ (by omega)];have:=first (aE w h sc-1) 0 (by omega) (by omega)
   rw[Int.zero_mul,Int.zero_add]at this;rw[Int.zero_mul,Int.add_zero,this,if_neg (by decide),if_neg (by decide),if_neg (by decide),if_pos rfl];obtain⟨a,b,_⟩:=ok h0;exact pos (by omega) (by omega)
 ·rw[hst,if_neg (by decide),if_pos rfl];have q:¬l/aE w h sc<bw w h sc-1:=λq=>by omega
  have ha:mJ (aE w h sc) (bw w h sc) 2=mI (aE w h sc) λx=>(bw w h sc-1)*aE w h sc+x:=by unfold mJ;rw[if_pos rfl]
  rw[ha];have hj:l/aE w h sc=bw w h sc-1:=by omega
  refine⟨λh0 e=>?_,?_,λh0=>?_⟩
  ·obtain⟨a,b,e1⟩:=ok h0;rw[e1]at e;have:=(GG hs.1 a b).1;rw[e]at this;omega
  ·have:=mem (aE w h sc) (λx=>(bw w h sc-1)*aE w h sc+x) (l%aE w h sc) ⟨i0,i1⟩;rwa[show(bw w h sc-1)*aE w h sc+l%aE w h sc=l by rw[<-hj];omega]at this
  ·rw[head _ _ (by omega)];have:=first 0 (bw w h sc-1) (by omega) (by omega)
   rw[this,if_neg (by decide),if_pos rfl];obtain⟨a,b,_⟩:=ok h0;exact pos (by omega) (by omega)
 ·rw[hst,if_neg (by decide),if_neg (by decide),if_pos rfl];have q:¬l%aE w h sc>0:=λq=>by have:=Int.mul_nonneg j0 (show 0<=aE w h sc by omega);omega
  have ha:mJ (aE w h sc) (bw w h sc) 3=mI (bw w h sc) λy=>0+y*aE w h sc:=by unfold mJ;rw[if_neg (by decide),if_neg (by decide),if_neg (by decide),if_pos rfl]
  rw[ha];refine⟨λh0 e=>?_,?_,λh0=>?_⟩
  ·obtain⟨a,b,e1⟩:=ok h0;rw[e1]at e;have:=(GG hs.1 a b).2;rw[e]at this;omega
  ·have:=mem (bw w h sc) (λy=>0+y*aE w h sc) (l/aE w h sc) ⟨j0,j1⟩;rwa[show 0+l/aE w h sc*aE w h sc=l by omega]at this
  ·rw[head _ _ (by omega),Int.zero_mul,Int.add_zero];have:=first 0 0 (by omega) (by omega)
   rw[Int.zero_mul,Int.add_zero]at this;rw[this,if_neg (by decide),if_neg (by decide),if_pos rfl];obtain⟨a,b,_⟩:=ok h0;exact pos (by omega) (by omega)
end
def fT (m:bM)(x n c:Int):Prop:=e_ m x=true/\e_ m n=true/\(∃s:Int,(0<=s/\s<=3)/\bf m.w m.h x s=n)/\c=cR m n
def gB (m:bM)(t x k:Int):Prop:=x=t/\e_ m t=true/\k=0
noncomputable def D (m:bM)(t x:Int):Int:=gM (gB m t) (fT m) x
def cP (m:bM)(x:Int):Int:=aC m.w m.h x
def og (m:bM)(x:Int):Prop:=x∈aW m (cP m x)
section
variable {m:bM}{t x n c d s sc l:Int}
def Cs (h:e_ m x=true):0<cR m x/\cR m x<255:=by unfold e_ at h;simpa using h
def jV (hm:cT m)(h:e_ m x=true):bJ m.w m.h x:=by
 have:=(Cs h).1;unfold cR at this;split at this
 ·rename_i hx;rw[hm.len]at hx;exact⟨⟨hm.w,hm.h⟩,hx⟩
 ·omega
def GH (h:fT m x n c):1<=c/\c<=254:=by have:=Cs h.2.1;rw[h.2.2.2];omega
def S3 {k:Int}(h:gB m t x k):0<=k/\k<=0:=by rw[h.2.2];omega
def c7:∀x n c,fT m x n c->0<=c:=λx n c h=>by have:=GH h;omega
def kU:∀x k,gB m t x k->0<=k:=λx k h=>(S3 h).1
def akU (h:Wy (gB m t) (fT m) x d):e_ m x=true/\e_ m t=true:=by
 induction h with
 |src h=>exact⟨by rw[h.1];exact h.2.1,h.2.1⟩
 |go e _ ih=>exact⟨e.1,ih.2⟩
def jW (m:bM):List Int:=(List.range m.cs.length).map λi:Nat=>(i:Int)
def zB (hm:cT m)(hx:bJ m.w m.h x):x∈jW m:=by have h1:=hx.2;have h2:=hm.len;exact List.mem_map.2 ⟨x.toNat,List.mem_range.2 (by omega),by omega⟩
def aqw (hm:cT m)(hw:Wy (gB m t) (fT m) x d):0<=D m t x/\D m t x<=254*(m.w*m.h-1):=by
 have h1:=abc (S:=gB m t) (E:=fT m) (λx k h=>S3 h) (λx n c h=>GH h) (jW m) (λx d h=>zB hm (jV hm (akU h).1)) hw;have h2:((jW m).length:Int)=m.w*m.h:=by rw[<-hm.len];simp[jW]
 refine⟨mR kU c7 (qU kU c7 hw).1,?_⟩;show gM (gB m t) (fT m) x<=_;omega
def aqx (hm:cT m)(hw:Wy (gB m t) (fT m) x d):D m t x<1000000000:=by have:=aqw hm hw;have:=pA ⟨hm.w,hm.h⟩;omega
def ag6 (h:¬∃d,Wy (gB m t) (fT m) x d):D m t x=cf:=xL λd hd=>h ⟨d,hd⟩
def KH (hm:cT m):D m t x<cf↔∃d,Wy (gB m t) (fT m) x d:=by
 constructor
 ·intro h;refine Classical.byContradiction λk=>?_;rw[ag6 k]at h;grind
 ·rintro ⟨d,hd⟩;have:=aqx hm hd;unfold cf;omega
def ar_ (hw:Wy (gB m t) (fT m) x d):Wy (gB m t) (fT m) x (D m t x)/\∀e,Wy (gB m t) (fT m) x e->D m t x<=e:=qU kU c7 hw
def auL (h:e_ m t=true):D m t t=0:=Lb (.src ⟨rfl,h,rfl⟩) λe he=>mR kU c7 he
def KI (m:bM)(t x s:Int):Prop:=0<=bf m.w m.h x s/\e_ m (bf m.w m.h x s)=true/\cR m (bf m.w m.h x s)+D m t (bf m.w m.h x s)=D m t x
open Classical in
noncomputable def sY (m:bM)(t x:Int):Int:=
 if D m t x=cf then 5 else if x=t then 4 else if KI m t x 0 then 0 else if KI m t x 1 then 1 else if KI m t x 2 then 2 else if KI m t x 3 then 3 else 5
def aqy (hm:cT m)(hD:D m t x<cf)(hx:x≠t):∃s,(0<=s/\s<=3)/\KI m t x s:=by
 obtain⟨d,hw⟩:=(KH hm).1 hD;rcases RW kU c7 hw with h1|⟨n,c,h1,h2,d',h3⟩
 ·exact(hx h1.1).elim
 ·obtain⟨ho,hn,⟨s,hs,rfl⟩,rfl⟩:=h1;refine⟨s,hs,(jV hm hn).2.1,hn,?_⟩;show cR m _+gM (gB m t) (fT m) _=gM (gB m t) (fT m) x;omega
def akV (hm:cT m)(hD:D m t x<cf)(hx:x≠t):(0<=sY m t x/\sY m t x<=3)/\KI m t x (sY m t x)/\∀s,0<=s->s<sY m t x->¬KI m t x s:=by obtain⟨s,hs,hd⟩:=aqy hm hD hx;rw[sY,fR,if_neg hx];grind
def Jf {w h:Int}(hs:0<=s/\s<=3)(h0:0<=bf w h x s):∃s',(0<=s'/\s'<=3)/\bf w h (bf w h x s) s'=x:=by
 obtain⟨c1,c2⟩:=zZ h0;obtain⟨q1,q2,q3⟩:=IB c1;have hst:bf w h x s=if s=0 then g6 w h (x%w) (x/w-1)else if s=2 then g6 w h (x%w) (x/w+1)else if s=3 then g6 w h (x%w-1) (x/w)else if s=1 then g6 w h (x%w+1) (x/w)else if s=4 then g6 w h (x%w) (x/w)else-1:=by unfold bf;grind
 have ok:∀{a b:Int},0<=g6 w h a b->(0<=a/\a<w)/\(0<=b/\b<h)/\g6 w h a b=b*w+a:=λh0=>by obtain⟨a,b,_⟩:=BW h0;exact⟨a,b,nj c1.1 a b⟩
 rw[hst]at h0⊢;obtain rfl|rfl|rfl|rfl:s=0\/s=1\/s=2\/s=3:=by omega
 ·rw[if_pos rfl]at h0⊢;obtain⟨a,b,e⟩:=ok h0;rw[e];refine⟨2,by decide,?_⟩;rw[EP c1.1 a b,if_neg (by decide),if_pos rfl,nj c1.1 (by omega) (by omega),Int.sub_add_cancel];exact q3.symm
 ·rw[if_neg (by decide),if_neg (by decide),if_neg (by decide),if_pos rfl]at h0⊢;obtain⟨a,b,e⟩:=ok h0;rw[e];refine⟨3,by decide,?_⟩;rw[EP c1.1 a b,if_neg (by decide),if_neg (by decide),if_pos rfl,nj c1.1 (by omega) (by omega)];omega
 ·rw[if_neg (by decide),if_pos rfl]at h0⊢;obtain⟨a,b,e⟩:=ok h0;rw[e];refine⟨0,by decide,?_⟩;rw[EP c1.1 a b,if_pos rfl,nj c1.1 (by omega) (by omega),Int.add_sub_cancel];exact q3.symm
 ·rw[if_neg (by decide),if_neg (by decide),if_pos rfl]at h0⊢;obtain⟨a,b,e⟩:=ok h0;rw[e];refine⟨1,by decide,?_⟩;rw[EP c1.1 a b,if_neg (by decide),if_neg (by decide),if_neg (by decide),if_pos rfl,nj c1.1 (by omega) (by omega)];omega
def an9 {tw th:Int}(ht:1<=tw)(hh:1<=th)(vZ:0<=s/\s<=3)(h:l∈mJ tw th s):¬0<=bN tw th l s:=by
 have mem:∀{n:Int} {f:Int->Int},l∈mI n f->∃k:Int,(0<=k/\k<n)/\l=f k:=λh=>by obtain⟨i,h1,h2⟩:=mem_range h;grind
 unfold mJ at h;unfold bN;obtain rfl|rfl|rfl|rfl:s=0\/s=1\/s=2\/s=3:=by omega
 ·grind
 ·rw[if_neg (by decide),if_neg (by decide),if_pos rfl]at h;obtain⟨k,h1,rfl⟩:=mem h;have:=(rL (w:=tw) (x:=tw-1) (y:=k) (by omega)).2;grind
 ·obtain⟨k,h1,rfl⟩:=mem h;have:=(rL (y:=th-1) (by omega)).1;omega
 ·rw[if_neg (by decide),if_neg (by decide),if_neg (by decide),if_pos rfl]at h;obtain⟨k,h1,rfl⟩:=mem h;simp_all
def an_ {w h:Int}(hc:bJ w h c)(vZ:0<=s/\s<=3)(ho:0<=gL w h c s):c∈vp w h (aC w h c):=by
 have hs:=bT hc;have hl:=j7 hc;have hg:=nU hc;obtain⟨⟨w1,w2⟩,⟨h1,h2⟩,_⟩:=zA hs;have hst:0<=bf w h c s/\aC w h (bf w h c s)≠aC w h c:=by unfold gL at ho;omega
 have hout:¬0<=bN (aE w h (aC w h c)) (bw w h (aC w h c)) (dX w h c) s:=λk=>by obtain⟨k1,k2⟩:=Rc hs hl vZ k;rw[hg]at k2;apply hst.2;rw[k2];exact iV hs k1
 obtain⟨o1,o2,o3⟩:=S2 hs hl vZ hout;rw[hg]at o1 o3;have o3:=o3 hst.1;have ok:=air (sd:=s) ⟨w1,w2⟩ ⟨h1,h2⟩;have h0:=fA (ok.2.1 vZ);have hr0:=ok.2.2 _ h0;have Cq:Je w h (aC w h c) s=true:=by
  rw[Je,decide_eq_true_iff];rw[CN,if_pos ⟨hs,hr0⟩];rw[gL,fR,if_neg]
  ·exact o3
  ·rw[iV hs hr0];exact(S2 hs hr0 vZ (an9 w1 h1 vZ h0)).1 o3
 refine List.mem_map.2 ⟨(dX w h c).toNat,List.mem_filter.2 ⟨List.mem_range.2 (by omega),?_⟩,?_⟩
 ·rw[yE,List.any_eq_true];refine⟨s.toNat,List.mem_range.2 (by omega),?_⟩;grind
 grind
def aoa {w h:Int}(hs:dW w h sc)(h1:c∈vp w h sc):bJ w h c/\aC w h c=sc:=by obtain⟨l,h2,rfl⟩:=List.mem_map.1 h1;have h3:=List.mem_range.1 (List.mem_filter.1 h2).1;exact⟨sQ hs (by omega),iV hs (by omega)⟩
def mK (hs:dW m.w m.h sc)(h1:c∈aW m sc):e_ m c=true/\bJ m.w m.h c/\aC m.w m.h c=sc:=by obtain⟨h2,h3⟩:=List.mem_filter.1 h1;exact⟨h3,aoa hs h2⟩
def Wo (hm:cT m)(ho:e_ m c=true)(vZ:0<=s/\s<=3)(h:0<=gL m.w m.h c s):og m c:=by exact List.mem_filter.2 ⟨an_ (jV hm ho) vZ h,ho⟩
def rG (hm:cT m):∀x n c,fT m x n c->cP m x≠cP m n->og m x/\og m n:=by
 rintro x n c ⟨h1,h2,⟨s,hs,rfl⟩,_⟩ hne;have Pu:=(jV hm h2).2.1;obtain⟨s',hs',hb⟩:=Jf hs Pu;refine⟨Wo hm h1 hs ?_,Wo hm h2 hs' ?_⟩
 ·rw[gL,fR,if_neg λe=>hne e.symm];exact Pu
 ·have hx0:=(jV hm h1).2.1;rw[gL,hb,fR,if_neg (show¬aC m.w m.h x=aC m.w m.h (bf m.w m.h x s)from hne)];exact hx0
end
section
variable {m:bM}{t x n c d s sc l:Int}
noncomputable def R (m:bM)(t x:Int):Int:=gM (Lc (gB m t) (fT m) (cP m) (og m) t) (Jw (fT m) (cP m) (og m)) x
def alU (m:bM)(t s x k:Int):Prop:=cP m x=s/\(gB m t x k\/∃n c,fT m x n c/\cP m n≠s/\D m t n<cf/\k=D m t n+c)
def FJ:∀x k,gB m t x k->x=t/\k=0:=λx k h=>⟨h.1,h.2.2⟩
def awA (hm:cT m)(hx:og m x)(h:D m t x<cf):Wy (Lc (gB m t) (fT m) (cP m) (og m) t) (Jw (fT m) (cP m) (og m)) x (D m t x):=by obtain⟨d,hw⟩:=(KH hm).1 h;have h1:=ar_ hw;obtain⟨e,h2,h3⟩:=ahY FJ c7 (rG hm) hx h1.1;have h4:=h1.2 _ (NA FJ c7 (rG hm) h3);grind
def auN (hm:cT m)(hx:og m x):R m t x=D m t x:=
 Zn (λd hd=>mR kU c7 hd) (λd hd=>ahY FJ c7 (rG hm) hx hd) λd hd=>NA FJ c7 (rG hm) hd
def atd (hm:cT m)(hx:cP m x=s):gM (alU m t s) (tO (fT m) (cP m) s) x=D m t x:=by
 subst hx;have LZ:=@NA Int (gB m t) (fT m) (cP m) (og m) t FJ c7 (rG hm);have e1:gM (ahW (gB m t) (fT m) (cP m) (cP m x) (Wy (Lc (gB m t) (fT m) (cP m) (og m) t) (Jw (fT m) (cP m) (og m)))) (tO (fT m) (cP m) (cP m x)) x=D m t x:=
  Zn (λd hd=>mR kU c7 hd) (λd hd=>ahX FJ c7 (rG hm) hd)
   λd hd=>anM FJ c7 (rG hm) (λn d hn=>LZ hn) hd
 rw[<-e1];refine as9 ?_ (λx n c h=>c7 _ _ _ h.1) ?_ ?_
 ·rintro x k ⟨_,h|⟨n,c,d,h1,_,h2,rfl⟩⟩
  ·exact kU _ _ h
  ·have:=c7 _ _ _ h1;have:=mR kU c7 (LZ h2);omega
 ·rintro x k ⟨h0,h|⟨n,c,d,h1,h3,h2,rfl⟩⟩
  ·exact⟨k,Int.le_refl _,h0,.inl h⟩
  ·have h4:=LZ h2;have h5:=ar_ h4;have h6:=h5.2 _ h4;exact⟨D m t n+c,by omega,h0,.inr ⟨n,c,h1,h3,(KH hm).2 ⟨d,h4⟩,rfl⟩⟩
 ·rintro x k ⟨h0,h|⟨n,c,h1,h3,h4,rfl⟩⟩
  ·exact⟨h0,.inl h⟩
  ·exact⟨h0,.inr ⟨n,c,_,h1,h3,awA hm (rG hm _ _ _ h1 (by grind)).2 h4,rfl⟩⟩
def ID (cs:List Int)(l:Int):Prop:=0<=l/\l<cs.length/\gi cs l.toNat≠255
def IE (tw th:Int)(cs:List Int)(x n c:Int):Prop:=ID cs x/\ID cs n/\(∃s:Int,(0<=s/\s<=3)/\bN tw th x s=n)/\c=gi cs n.toNat
def aqz {α β:Type}{S:α->Int->Prop}{E:α->α->Int->Prop}{S':β->Int->Prop}{E':β->β->Int->Prop}{φ:α->β}{G:α->Prop}
  (h1:∀x k,G x->(S x k↔S' (φ x) k))(h2:∀x n c,G x->E x n c->G n/\E' (φ x) (φ n) c)(h3:∀x y c,G x->E' (φ x) y c->∃n,G n/\y=φ n/\E x n c){x:α}(hx:G x):gM S E x=gM S' E' (φ x):=by
 have a:∀{x d},Wy S E x d->G x->Wy S' E' (φ x) d:=λh=>by
  induction h with
  |src h=>exact λg=>.src ((h1 _ _ g).1 h)
  |go e _ ih=>exact λg=>.go (h2 _ _ _ g e).2 (ih (h2 _ _ _ g e).1)
 have b:∀{y d},Wy S' E' y d->∀x,G x->y=φ x->Wy S E x d:=λh=>by
  induction h with
  |src h=>rintro x g rfl;exact .src ((h1 _ _ g).2 h)
  |go e _ ih=>
   rintro x g rfl;obtain⟨n,h4,h5,h6⟩:=h3 _ _ _ g e;exact .go h6 (ih n h4 h5)
 have e:∀d,Wy S E x d↔Wy S' E' (φ x) d:=λd=>⟨λh=>a h hx,λh=>b h x hx rfl⟩;by_cases h:∃d,Wy S E x d/\∀e,Wy S E x e->d<=e
 ·obtain⟨d,p,q⟩:=h;rw[Lb p q,Lb ((e d).1 p) λe' he'=>q _ ((e e').2 he')]
 ·unfold gM;grind
def dO (m:bM)(sc:Int):List Int:=(List.range (aE m.w m.h sc*bw m.w m.h sc).toNat).map λl:Nat=>cR m (bU m.w m.h sc l)
def Ct:((dO m sc).length:Int)=(aE m.w m.h sc*bw m.w m.h sc).toNat:=by simp[dO]
def L0 (hl:0<=l/\l<aE m.w m.h sc*bw m.w m.h sc):gi (dO m sc) l.toNat=cR m (bU m.w m.h sc l):=by unfold gi dO;grind
def L4 (hm:cT m)(hc:bJ m.w m.h c):1<=cR m c/\cR m c<=255:=by have h1:=hc.2;have h2:=hm.len;unfold cR;have:=hm.jE _ (fA (i:=c.toNat) (by omega));omega
def Cu (hm:cT m)(hc:bJ m.w m.h c):e_ m c=true↔cR m c≠255:=by have:=L4 hm hc;unfold e_;grind
def Jg (hm:cT m)(hs:dW m.w m.h sc)(hl:0<=l/\l<aE m.w m.h sc*bw m.w m.h sc):ID (dO m sc) l↔e_ m (bU m.w m.h sc l)=true:=by rw[Cu hm (sQ hs hl)];rw[ID,L0 hl,Ct];omega
def aiw (hm:cT m)(hs:dW m.w m.h sc){S S':Int->Int->Prop}(hS:∀l k,0<=l/\l<aE m.w m.h sc*bw m.w m.h sc->(S l k↔S' (bU m.w m.h sc l) k))(hl:0<=l/\l<aE m.w m.h sc*bw m.w m.h sc):
  gM S (IE (aE m.w m.h sc) (bw m.w m.h sc) (dO m sc)) l=gM S' (tO (fT m) (cP m) sc) (bU m.w m.h sc l):=by
 refine aqz (λx k g=>hS x k g) ?_ ?_ hl
 ·rintro x n c g ⟨h1,h2,⟨s,vZ,rfl⟩,rfl⟩;have h3:=Rc hs g vZ h2.1;refine⟨h3.1,⟨(Jg hm hs g).1 h1,(Jg hm hs h3.1).1 h2,⟨s,vZ,h3.2⟩,?_⟩,iV hs g,iV hs h3.1⟩;exact L0 h3.1
 ·rintro x y c g ⟨⟨h1,h2,⟨s,vZ,rfl⟩,rfl⟩,h3,h4⟩;have h0:=(jV hm h2).2.1;by_cases hn:0<=bN (aE m.w m.h sc) (bw m.w m.h sc) x s
  ·have h5:=Rc hs g vZ hn;refine⟨_,h5.1,h5.2,(Jg hm hs g).2 h1,(Jg hm hs h5.1).2 (by grind),⟨s,vZ,rfl⟩,?_⟩;rw[h5.2];exact(L0 h5.1).symm
  ·exact((S2 hs g vZ hn).1 h0 h4).elim
def aob (hm:cT m)(hs:dW m.w m.h sc)(hl:0<=l/\l<aE m.w m.h sc*bw m.w m.h sc){S:Int->Int->Prop}(hS:∀l k,0<=l/\l<aE m.w m.h sc*bw m.w m.h sc->(S l k↔alU m t sc (bU m.w m.h sc l) k)):
  gM S (IE (aE m.w m.h sc) (bw m.w m.h sc) (dO m sc)) l=D m t (bU m.w m.h sc l):=by
 rw[aiw hm hs hS hl];exact atd hm (iV hs hl)
end
section
variable {m:bM}{t x n c d s sc l k:Int}{xs ys:List bh}
def afn (h:∀x∈xs,x.c=c->x.s=s->x.k=k):∀st:Int×Bool,(st.2=true->st.1=k)->(xs.foldl (S1 c s) st).1=if∃x∈xs,x.c=c/\x.s=s then k else st.1:=by
 induction xs with
 |nil=>grind
 |cons a xs ih=>
  intro st hst;rw[List.foldl_cons];have ih:=ih (λx hx=>h x (by simp[hx]));unfold S1 at ih⊢;by_cases ha:a.c=c/\a.s=s
  ·have hk:=h a (by simp) ha.1 ha.2;by_cases hb:st.2=false\/a.k<st.1
   ·rw[if_pos ⟨ha.1,ha.2,hb⟩,ih _ λ_=>hk,if_pos (c:=∃x∈a::xs,x.c=c/\x.s=s) ⟨a,by simp,ha⟩];split
    ·rfl
    ·exact hk
   ·rw[if_neg λe=>hb e.2.2,ih _ hst,if_pos (c:=∃x∈a::xs,x.c=c/\x.s=s) ⟨a,by simp,ha⟩];split
    ·rfl
    ·apply hst;rcases h2:st.2 with _|_
     ·exact(hb (.inl h2)).elim
     ·rfl
  ·rw[if_neg λe=>ha ⟨e.1,e.2.1⟩,ih _ hst];have:(∃x∈a::xs,x.c=c/\x.s=s)↔∃x∈xs,x.c=c/\x.s=s:=by
    constructor
    ·rintro ⟨x,hx,h1⟩;rcases List.mem_cons.1 hx with rfl|hx
     ·exact(ha h1).elim
     ·exact⟨x,hx,h1⟩
    ·rintro ⟨x,hx,h1⟩;exact⟨x,by simp[hx],h1⟩
   by_cases q:∃x∈xs,x.c=c/\x.s=s
   ·rw[if_pos q,if_pos (this.2 q)]
   ·rw[if_neg q,if_neg λe=>q (this.1 e)]
def afo (h:∀x∈xs,x.c=c->x.s=s->x.k=k)(he:∃x∈xs,x.c=c/\x.s=s):IC xs c s=k:=by rw[IC,afn h (cf,false) (by simp),if_pos he]
def Wp (h:∀x∈xs,¬(x.c=c/\x.s=s)):IC xs c s=cf:=by rw[IC,afn (k:=0) (λx hx h1 h2=>(h x hx ⟨h1,h2⟩).elim) (cf,false) (by simp),if_neg λ⟨x,hx,h1⟩=>h x hx h1]
def NO (xs:List bh)(l k:Int):Prop:=∃x∈xs,x.c=l/\x.k=k
def IF (m:bM)(at_:Int->Int)(c:Int):List bh:=(vq m c).filterMap λe=>if at_ e.1=cf then none else some ⟨dX m.w m.h c,Ap m.w m.h c e.1,e.2+at_ e.1⟩
def E7 (m:bM)(at_:Int->Int)(t sc:Int):List bh:=(aW m sc).flatMap (IF m at_)++if aC m.w m.h t=sc/\cR m t≠255 then[⟨dX m.w m.h t,4,0⟩]else[]
def ate {w h s':Int}(hs:0<=s/\s<=3)(hs':0<=s'/\s'<=4)(h0:0<=bf w h x s)(e:bf w h x s'=bf w h x s):s'=s:=by
 obtain⟨c1,c2⟩:=zZ h0;have hst:∀s,bf w h x s=if s=0 then g6 w h (x%w) (x/w-1)else if s=2 then g6 w h (x%w) (x/w+1)else if s=3 then g6 w h (x%w-1) (x/w)else if s=1 then g6 w h (x%w+1) (x/w)else if s=4 then g6 w h (x%w) (x/w)else-1:=λs=>by unfold bf;grind
 have ok:∀{a b:Int},0<=g6 w h a b->(0<=a/\a<w)/\(0<=b/\b<h)/\g6 w h a b=b*w+a:=λh0=>by obtain⟨a,b,_⟩:=BW h0;exact⟨a,b,nj c1.1 a b⟩
 grind
def Wq {w h:Int}(hs:0<=s/\s<=3)(h0:0<=bf w h x s):Ap w h x (bf w h x s)=s:=by
 obtain⟨c1,c2⟩:=zZ h0;unfold Ap;have k:∀s',0<=s'/\s'<=4->s'≠s->¬bf w h x s'=bf w h x s:=λs' h1 h2 e=>h2 (ate hs h1 h0 e);obtain rfl|rfl|rfl|rfl:s=0\/s=1\/s=2\/s=3:=by omega
 all_goals grind
def Cv {w h:Int}(h0:0<=gL w h c s):gL w h c s=bf w h c s/\aC w h (bf w h c s)≠aC w h c:=by unfold gL at h0⊢;omega
def Wr {e:Int×Int}:e∈vq m c↔e_ m c=true/\∃s:Int,(0<=s/\s<=3)/\0<=gL m.w m.h c s/\e_ m (gL m.w m.h c s)=true/\e=(gL m.w m.h c s,cR m (gL m.w m.h c s)):=by
 unfold vq;by_cases ho:e_ m c=true
 ·rw[if_pos ho];rw[GB,List.mem_filterMap];constructor
  ·rintro ⟨s,h1,h2⟩;have h1:=List.mem_range.1 h1;unfold FI at h2;grind
  ·rintro ⟨_,s,h1,h2,h3,rfl⟩;refine⟨s.toNat,List.mem_range.2 (by omega),?_⟩;unfold FI;grind
 grind
def Re (hm:cT m)(hs:dW m.w m.h sc)(ht:bJ m.w m.h t){x:bh}:x∈E7 m (D m t) t sc↔
  ((0<=x.c/\x.c<aE m.w m.h sc*bw m.w m.h sc)/\(0<=x.s/\x.s<=3)/\e_ m (bU m.w m.h sc x.c)=true/\0<=gL m.w m.h (bU m.w m.h sc x.c) x.s/\e_ m (gL m.w m.h (bU m.w m.h sc x.c) x.s)=true/\
   D m t (gL m.w m.h (bU m.w m.h sc x.c) x.s)<cf/\x.k=cR m (gL m.w m.h (bU m.w m.h sc x.c) x.s)+D m t (gL m.w m.h (bU m.w m.h sc x.c) x.s))\/
  ((0<=x.c/\x.c<aE m.w m.h sc*bw m.w m.h sc)/\bU m.w m.h sc x.c=t/\e_ m t=true/\x.s=4/\x.k=0):=by
 have ayB:∀z,D m t z≠cf↔D m t z<cf:=λz=>by
  constructor
  ·intro h;by_cases q:∃d,Wy (gB m t) (fT m) z d
   ·exact(KH hm).2 q
   ·exact(h (ag6 q)).elim
  omega
 rw[E7,List.mem_append,List.mem_flatMap];refine or_congr ⟨?_,?_⟩ ⟨?_,?_⟩
 ·rintro ⟨c,h1,h2⟩;obtain⟨ho,hc,hsc⟩:=mK hs h1;obtain⟨e,h3,h4⟩:=List.mem_filterMap.1 h2;split at h4
  ·cases h4
  rename_i h5;cases h4;obtain⟨_,s,h6,h7,h8,rfl⟩:=Wr.1 h3;have hl:=j7 hc;have hg:=nU hc;obtain⟨h9,h10⟩:=Cv h7;have vZ:Ap m.w m.h c (gL m.w m.h c s)=s:=by rw[h9];exact Wq h6 (by grind)
  grind
 ·rintro ⟨h1,h2,h3,h4,h5,h6,h7⟩;have hsc:=iV hs h1;refine⟨bU m.w m.h sc x.c,?_,?_⟩
  ·have:=Wo hm h3 h2 h4;unfold og cP at this;grind
  ·refine List.mem_filterMap.2 ⟨_,Wr.2 ⟨h3,x.s,h2,h4,h5,rfl⟩,?_⟩;obtain⟨h9,h10⟩:=Cv h4;rw[if_neg ((ayB _).2 h6),F9 hs h1];have vZ:Ap m.w m.h (bU m.w m.h sc x.c) (gL m.w m.h (bU m.w m.h sc x.c) x.s)=x.s:=by rw[h9];exact Wq h2 (by grind)
   rw[vZ,<-h7]
 ·intro h;split at h
  ·rename_i h1;rw[List.mem_singleton]at h;subst h;have hl:=j7 ht;have hg:=nU ht;rw[h1.1]at hl hg;exact⟨hl,hg,(Cu hm ht).2 h1.2,rfl,rfl⟩
  ·simp at h
 ·rintro ⟨h1,h2,h3,h4,h5⟩;have hsc:=iV hs h1;rw[h2]at hsc;rw[if_pos ⟨hsc,(Cu hm ht).1 h3⟩,List.mem_singleton];have h6:=F9 hs h1;rw[h2]at h6;rw[h6,<-h4,<-h5]
def aqA (hm:cT m)(hs:dW m.w m.h sc)(ht:bJ m.w m.h t)(hxs:∀x,x∈xs↔x∈E7 m (D m t) t sc)(hl:0<=l/\l<aE m.w m.h sc*bw m.w m.h sc):NO xs l k↔alU m t sc (bU m.w m.h sc l) k:=by
 have hsc:=iV hs hl;constructor
 ·rintro ⟨x,h1,rfl,rfl⟩;rcases(Re hm hs ht).1 ((hxs x).1 h1)with⟨_,h2,h3,h4,h5,h6,h7⟩|⟨_,h2,h3,h4,h5⟩
  ·obtain⟨h9,h10⟩:=Cv h4;refine⟨hsc,.inr ⟨_,_,⟨h3,h5,⟨x.s,h2,h9.symm⟩,rfl⟩,?_,h6,by omega⟩⟩;rw[h9];rw[hsc]at h10;exact h10
  ·exact⟨hsc,.inl ⟨h2,h3,h5⟩⟩
 ·rintro ⟨_,⟨h1,h2,h3⟩|⟨n,c,⟨h1,h2,⟨s,h3,rfl⟩,rfl⟩,h4,h5,rfl⟩⟩
  ·exact⟨⟨l,4,k⟩,(hxs _).2 ((Re hm hs ht).2 (.inr ⟨hl,h1,h2,rfl,h3⟩)),rfl,rfl⟩
  ·have h0:=(jV hm h2).2.1;have ho:gL m.w m.h (bU m.w m.h sc l) s=bf m.w m.h (bU m.w m.h sc l) s:=by rw[gL,fR,if_neg (by rw[hsc];exact h4)]
   refine⟨⟨l,s,_⟩,(hxs _).2 ((Re hm hs ht).2 (.inl ⟨hl,h3,h1,by grind,by grind,by grind,by rw[ho]⟩)),rfl,?_⟩;grind
noncomputable def L5 (tw th:Int)(cs:List Int)(xs:List bh)(l:Int):Int:=gM (NO xs) (IE tw th cs) l
def TP (tw th:Int)(cs:List Int)(xs:List bh)(f:Int->Int)(l s:Int):Bool:=
 if bN tw th l s<0 then IC xs l s==f l else gi cs (bN tw th l s).toNat !=255&&(gi cs (bN tw th l s).toNat+f (bN tw th l s)==f l)
def aaa (tw th:Int)(cs:List Int)(xs:List bh)(f:Int->Int)(l:Int):Int:=
 if f l=cf then 5 else if IC xs l 4=f l then 4 else if TP tw th cs xs f l 0 then 0 else if TP tw th cs xs f l 1 then 1 else if TP tw th cs xs f l 2 then 2 else if TP tw th cs xs f l 3 then 3 else 5
def auO (hm:cT m)(hs:dW m.w m.h sc)(ht:bJ m.w m.h t)(hxs:∀x,x∈xs↔x∈E7 m (D m t) t sc)(hl:0<=l/\l<aE m.w m.h sc*bw m.w m.h sc):
  L5 (aE m.w m.h sc) (bw m.w m.h sc) (dO m sc) xs l=D m t (bU m.w m.h sc l):=
 aob hm hs hl λl k h=>aqA hm hs ht hxs h
def dir_eq (hm:cT m)(hs:dW m.w m.h sc)(ht:bJ m.w m.h t)(hxs:∀x,x∈xs↔x∈E7 m (D m t) t sc){f:Int->Int}(hf:∀l,0<=l/\l<aE m.w m.h sc*bw m.w m.h sc->f l=D m t (bU m.w m.h sc l))(hl:0<=l/\l<aE m.w m.h sc*bw m.w m.h sc):
  aaa (aE m.w m.h sc) (bw m.w m.h sc) (dO m sc) xs f l=sY m t (bU m.w m.h sc l):=by
 have hsc:=iV hs hl;have hmem:=λx=>(hxs x).trans (Re hm hs ht);unfold aaa sY;rw[hf l hl];by_cases hI:D m t (bU m.w m.h sc l)=cf
 ·grind
 rw[if_neg hI,if_neg hI];have hDl:D m t (bU m.w m.h sc l)<cf:=by
  by_cases q:∃d,Wy (gB m t) (fT m) (bU m.w m.h sc l) d
  ·exact(KH hm).2 q
  ·exact(hI (ag6 q)).elim
 have hop:e_ m (bU m.w m.h sc l)=true/\e_ m t=true:=by obtain⟨d,hd⟩:=(KH hm).1 hDl;exact akU hd
 by_cases hT:bU m.w m.h sc l=t
 ·rw[if_pos hT,if_pos];rw[hT,auL hop.2];refine afo (λx hx h1 h2=>?_) ⟨⟨l,4,0⟩,(hmem _).2 (.inr ⟨hl,hT,hop.2,rfl,rfl⟩),rfl,rfl⟩;grind
 rw[if_neg hT,if_neg]
 ·have key:∀s,0<=s/\s<=3->(TP (aE m.w m.h sc) (bw m.w m.h sc) (dO m sc) xs f l s=true↔KI m t (bU m.w m.h sc l) s):=λs vZ=>by
   unfold TP KI;rw[hf l hl];by_cases hn:0<=bN (aE m.w m.h sc) (bw m.w m.h sc) l s
   ·obtain⟨h1,h2⟩:=Rc hs hl vZ hn;rw[fR,h2,L0 h1,hf _ h1,Cu hm (sQ hs h1),Bool.and_eq_true,bne_iff_ne,beq_iff_eq];exact⟨λh=>⟨(sQ hs h1).2.1,h⟩,λh=>h.2⟩
   ·obtain⟨h1,_⟩:=S2 hs hl vZ hn;rw[AH,beq_iff_eq];by_cases h0:0<=bf m.w m.h (bU m.w m.h sc l) s
    ·have ho:gL m.w m.h (bU m.w m.h sc l) s=bf m.w m.h (bU m.w m.h sc l) s:=by unfold gL;omega
     by_cases h2:e_ m (bf m.w m.h (bU m.w m.h sc l) s)=true/\D m t (bf m.w m.h (bU m.w m.h sc l) s)<cf
     ·rw[afo (k:=cR m (bf m.w m.h (bU m.w m.h sc l) s)+D m t (bf m.w m.h (bU m.w m.h sc l) s)) (λx hx h3 h4=>?_) ⟨⟨l,s,_⟩,(hmem _).2 (.inl ⟨hl,vZ,hop.1,by grind,by grind,by grind,by rw[ho]⟩),rfl,rfl⟩]
      all_goals grind
     ·rw[Wp λx hx h3=>?_]
      ·constructor
       ·omega
       ·rintro ⟨_,h3,h4⟩;have h5:=Cs h3;exact(h2 ⟨h3,by omega⟩).elim
      grind
    ·rw[Wp λx hx h3=>?_]
     ·constructor
      ·intro h;omega
      ·exact λh=>(h0 h.1).elim
     ·rcases(hmem x).1 hx with⟨_,_,_,h4,_⟩|⟨_,_,_,h5,_⟩
      ·rw[h3.1,h3.2]at h4;have h5:=(Cv h4).1;exact h0 (by rw[<-h5];exact h4)
      ·omega
  grind
 ·rw[Wp λx hx h3=>?_]
  ·exact λh=>hI h.symm
  ·rcases(hmem x).1 hx with⟨_,h4,_⟩|⟨_,h4,_⟩
   ·omega
   ·rw[h3.1]at h4;exact hT h4
def auQ (hm:cT m)(hs:dW m.w m.h sc)(ht:bJ m.w m.h t){x:bh}(hx:x∈E7 m (D m t) t sc):Aq (aE m.w m.h sc) (bw m.w m.h sc) (dO m sc) x=true:=by
 have hlen:((dO m sc).length:Int)=aE m.w m.h sc*bw m.w m.h sc\/aE m.w m.h sc*bw m.w m.h sc<0:=by rw[Ct];omega
 obtain⟨⟨w1,w2⟩,⟨h1,h2⟩,_⟩:=zA hs;have out:∀l s,0<=s/\s<=3->¬0<=bN (aE m.w m.h sc) (bw m.w m.h sc) l s->0<=l/\l<aE m.w m.h sc*bw m.w m.h sc->Z9 (aE m.w m.h sc) (bw m.w m.h sc) l s=true:=λl s vZ hn hl=>by
  obtain⟨i0,i1⟩:0<=l%aE m.w m.h sc/\l%aE m.w m.h sc<aE m.w m.h sc:=⟨Int.emod_nonneg _ (by omega),Int.emod_lt_of_pos _ (by omega)⟩;obtain⟨j0,j1⟩:0<=l/aE m.w m.h sc/\l/aE m.w m.h sc<bw m.w m.h sc:=⟨Int.ediv_nonneg hl.1 (by omega),Int.ediv_lt_of_lt_mul (by omega) (by grind)⟩;have hle:l=l/aE m.w m.h sc*aE m.w m.h sc+l%aE m.w m.h sc:=by have:=Int.mul_ediv_add_emod l (aE m.w m.h sc);grind
  unfold bN at hn;unfold Z9;obtain rfl|rfl|rfl|rfl:s=0\/s=1\/s=2\/s=3:=by omega
  ·by_cases q:l/aE m.w m.h sc>0
   ·have:=Int.mul_le_mul_of_nonneg_right (show 1<=l/aE m.w m.h sc by omega) (show 0<=aE m.w m.h sc by omega);omega
   grind
  ·grind
  ·grind
  ·by_cases q:l%aE m.w m.h sc>0
   ·have:=Int.mul_nonneg j0 (show 0<=aE m.w m.h sc by omega);omega
   grind
 have fin:(0<=x.c/\x.c<aE m.w m.h sc*bw m.w m.h sc)->e_ m (bU m.w m.h sc x.c)=true->(0<=x.k/\x.k<=1073741824)->Z9 (aE m.w m.h sc) (bw m.w m.h sc) x.c x.s=true->Aq (aE m.w m.h sc) (bw m.w m.h sc) (dO m sc) x=true:=λhl ho hk hout=>by rw[Aq,L0 hl,decide_eq_true (show 0<=x.c/\x.c<((dO m sc).length:Int) by omega),decide_eq_true hk,hout,Bool.true_and,Bool.true_and,Bool.and_true,bne_iff_ne];exact(Cu hm (sQ hs hl)).1 ho
 rcases(Re hm hs ht).1 hx with⟨a1,a2,a3,a4,a5,a6,a7⟩|⟨a1,a2,a3,a4,a5⟩
 ·obtain⟨d,hd⟩:=(KH hm).1 a6;have b1:=aqx hm hd;have b2:=aqw hm hd;have b3:=Cs a5;refine fin a1 a3 (by omega) (out _ _ a2 (λk=>?_) a1);obtain⟨o1,o2⟩:=Rc hs a1 a2 k;obtain⟨q1,q2⟩:=Cv a4;rw[o2,iV hs o1,iV hs a1]at q2;exact q2 rfl
 ·apply fin a1 (by grind) (by omega);unfold Z9;grind
end
def cK (a b:bh):Bool:=decide (ait a b<0)
def ad_ {a b:bh}:cK a b=true↔a.k<b.k\/a.k=b.k/\(a.c<b.c\/a.c=b.c/\a.s<b.s):=by unfold cK ait Wl;grind
def Rf {a b:bh}:cK a b=false↔¬(a.k<b.k\/a.k=b.k/\(a.c<b.c\/a.c=b.c/\a.s<b.s)):=by rw[<-ad_,Bool.not_eq_true]
def FK:Go.Sort.SWO cK where
 irrefl x:=by rw[Rf];omega
 trans x y z h k:=by rw[ad_]at*;omega
 ntrans x y z h k:=by rw[Rf]at*;omega
def auR {x y:bh}(h:cK x y=false)(k:cK y x=false):x=y:=by rw[Rf]at h k;obtain⟨c,s,q⟩:=x;obtain⟨c',s',q'⟩:=y;grind
def aab (xs:List bh):List bh:=xs.mergeSort λx y=>!cK y x
def NP (xs:List bh):List bh:=aab xs
def atf {xs:List bh}{x:bh}:x∈aab xs↔x∈xs:=List.mem_mergeSort
def atg {xs:List bh}:(aab xs).length=xs.length:=List.length_mergeSort _
def aqB {xs:List bh}{x:bh}:x∈NP xs↔x∈xs:=atf
def aqC {xs:List bh}:(NP xs).length=xs.length:=atg
def alV {xs:List bh}:(aab xs).Pairwise λa b=>a.k<=b.k:=by
 have h:=List.pairwise_mergeSort (le:=λx y=>!cK y x) (λa b c h k=>by
  simp[Bool.not_eq_true']at*;exact FK.ntrans _ _ _ k h) (λa b=>by
  simp[Bool.or_eq_true,Bool.not_eq_true'];by_cases q:cK b a=true
  ·right;rw[ad_]at q;rw[Rf];omega
  grind) xs
 refine List.Pairwise.imp ?_ h;intro a b h;simp[Bool.not_eq_true']at h;rw[Rf]at h;omega
def akc {xs:List bh}:(NP xs).Pairwise λa b=>a.k<=b.k:=alV
def Eh (n:Nat)(out:List Int)(a c:Int):Bool:=c==0||(decide ((n:Int)-out.length<a+1)||(decide (0<out.length)&&gi out (out.length-1)==c))
def pX (n:Nat):List Int->List Int->Nat->Option (List Int×Nat)
 |a::c::r,out,used=>if n<=out.length then some (out,used)else if Eh n out a c then none else pX n r (out++List.replicate (a+1).toNat c) (used+2)
 |_,out,used=>if n<=out.length then some (out,used)else none
def IG (n:Nat):List Int->Option (List Int×Nat)
 |[]=>none
 |f::r=>if f=0 then(if r=[]\/gi r 0=0 then none else some (List.replicate n (gi r 0),2))
  else if f=1 then(if r.length<n\/0∈r.take n then none else some (r.take n,1+n))
  else if f=2 then pX n r [] 1
  else none
def FL (n:Nat)(f:Int)(r:List Int):IG n (f::r)=if f=0 then(if r=[]\/gi r 0=0 then none else some (List.replicate n (gi r 0),2))
 else if f=1 then(if r.length<n\/0∈r.take n then none else some (r.take n,1+n))
 else if f=2 then pX n r [] 1
 else none:=rfl
def E8 (bs:List Int)(n:Nat):Option (List Int×Nat):=match IG n bs with
 |some (cs,used)=>if(tN cs).2=bs.take used then some (cs,used)else none
 |none=>none
def NQ (x:Int):∀l:List Int,l.take (lead x l)=List.replicate (lead x l) x
 |[]=>rfl
 |y::ys=>by
  unfold lead;split
  ·rename_i h;subst h;rw[List.take_succ_cons,List.replicate_succ,NQ]
  ·rfl
def afp (x:Int):∀l:List Int,∀y ys,l.drop (lead x l)=y::ys->y≠x
 |[],y,ys,h=>by grind
 |z::zs,y,ys,h=>by
  unfold lead at h;split at h
  ·exact afp x zs y ys h
  grind
def NR {n:Nat}{out:List Int}{used:Nat}(h:n<=out.length):∀bs,pX n bs out used=some (out,used)
 |[]=>by simp[pX,h]
 |[a]=>by simp[pX,h]
 |a::c::r=>by rw[pX,if_pos h]
def afq (n:Nat):∀(f:Nat) (cs out rest:List Int) (used:Nat),cs.length<=f->cs.length<=256->(∀x∈cs,1<=x/\x<256)->n=out.length+cs.length->(0<out.length->∀y ys,cs=y::ys->gi out (out.length-1)≠y)->
  pX n (lF f cs++rest) out used=some (out++cs,used+(lF f cs).length)
 |0,cs,out,rest,used,hf,aqD,hr,hn,hl=>by have:cs=[]:=List.eq_nil_of_length_eq_zero (by omega);subst this;rw[NR (by omega)];simp[lF]
 |f+1,[],out,rest,used,hf,aqD,hr,hn,hl=>by rw[NR (by grind)];simp[lF]
 |f+1,x::ys,out,rest,used,hf,aqD,hr,hn,hl=>by
  have hk:=Pz x ys;simp[List.length_cons]at hf aqD hn;have hx:=hr x (by simp);have e:((lead x ys:Nat):Int)%256=lead x ys:=Int.emod_eq_of_lt (by omega) (by omega);have ey:List.replicate (lead x ys+1) x++ys.drop (lead x ys)=x::ys:=by rw[List.replicate_succ,<-NQ,List.cons_append,List.take_append_drop]
  show pX n (((lead x ys:Nat):Int)%256::x::(lF f (ys.drop (lead x ys))++rest)) out used=_;rw[e,pX,fR,if_neg]
  ·have:=afq n f (ys.drop (lead x ys)) (out++List.replicate (lead x ys+1) x) rest (used+2) (by grind) (by grind) (λz hz=>hr z (by grind)) (by grind) (λ_ y zs hy=>by have h1:=afp x ys y zs hy;intro h2;apply h1;rw[<-h2];unfold gi;grind)
   rw[show((lead x ys:Nat)+1:Int).toNat=lead x ys+1 by omega,this,List.append_assoc,ey];congr 2;show _=used+(((lead x ys:Nat):Int)%256::x::lF f (ys.drop (lead x ys))).length;grind
  ·unfold Eh;grind
def aqE {cs rest:List Int}(hr:∀x∈cs,1<=x/\x<256)(h1:1<=cs.length/\cs.length<=256):IG cs.length ((tN cs).2++rest)=some (cs,(tN cs).2.length):=by
 have hb:=afq cs.length cs.length cs [] rest 1 (Nat.le_refl _) h1.2 hr (by simp) (by simp);rw[List.nil_append]at hb;unfold tN;split
 ·rename_i h3;obtain⟨x,ys,rfl⟩:∃x ys,cs=x::ys:=by
   cases cs with
   |nil=>simp at h1
   |cons x ys=>grind
  have h4:(lF (x::ys).length (x::ys)).length=2:=by unfold tM at h3;grind
  have h5:lF ys.length (ys.drop (lead x ys))=[]:=by apply List.eq_nil_of_length_eq_zero;have:(lF (x::ys).length (x::ys)).length=(lF ys.length (ys.drop (lead x ys))).length+2:=rfl;omega
  have h6:ys.drop (lead x ys)=[]:=by
   cases hd:ys.drop (lead x ys)with
   |nil=>rfl
   |cons z zs=>
    rw[hd]at h5;have h7:0<ys.length:=by grind
    obtain⟨k,hk⟩:∃k,ys.length=k+1:=⟨ys.length-1,by omega⟩;rw[hk]at h5;cases h5
  have h7:lead x ys=ys.length:=by
   have:=Pz x ys;have h8:(ys.drop (lead x ys)).length=0:=by rw[h6];rfl
   grind
  have h8:ys=List.replicate ys.length x:=by have:=NQ x ys;grind
  have hx:=hr x (by simp);show IG _ (0::x::rest)=some (x::ys,2);rw[FL,if_pos rfl,if_neg]
  ·show some (List.replicate (ys.length+1) x,2)=some (x::ys,2);grind
  ·rintro (h|h)
   ·cases h
   ·have:x=0:=h;omega
 ·split
  ·show IG _ (2::(lF cs.length cs++rest))=some (cs,(2::lF cs.length cs).length);rw[FL,if_neg (by decide),if_neg (by decide),if_pos rfl,hb,List.length_cons,Nat.add_comm]
  ·show IG _ (1::(cs++rest))=some (cs,(1::cs).length);rw[FL,if_neg (by decide),if_pos rfl,if_neg,List.take_left,List.length_cons,Nat.add_comm];grind
def ath {cs rest:List Int}(hr:∀x∈cs,1<=x/\x<256)(h1:1<=cs.length/\cs.length<=256):E8 ((tN cs).2++rest) cs.length=some (cs,(tN cs).2.length):=by rw[E8,aqE hr h1];grind
def S4 (n:Nat):∀(bs out:List Int) (used:Nat) (cs:List Int) (u:Nat),(∀x∈bs,0<=x/\x<256)->(∀x∈out,1<=x/\x<256)->out.length<=n->pX n bs out used=some (cs,u)->cs.length=n/\(∀x∈cs,1<=x/\x<256)/\u<=used+bs.length
 |[],out,used,cs,u,hb,ho,hn,h=>by unfold pX at h;grind
 |[a],out,used,cs,u,hb,ho,hn,h=>by unfold pX at h;grind
 |a::c::r,out,used,cs,u,hb,ho,hn,h=>by
  unfold pX at h;split at h
  ·grind
  ·split at h
   ·cases h
   ·rename_i h1 h2;unfold Eh at h2;have:=S4 n r _ (used+2) cs u (λx hx=>hb x (by simp[hx])) (λx hx=>by grind) (by grind) h
    grind
def aoc {bs cs:List Int}{n used:Nat}(hn:1<=n)(hb:∀x∈bs,0<=x/\x<256)(h:E8 bs n=some (cs,used)):cs.length=n/\(∀x∈cs,1<=x/\x<256)/\used<=bs.length:=by
 unfold E8 at h;split at h
 ·rename_i cs' used' hB;split at h
  ·cases h;cases bs with
   |nil=>cases hB
   |cons f r=>
    rw[FL]at hB;split at hB
    ·split at hB
     ·cases hB
     ·rename_i h1;cases hB;obtain⟨x,r',rfl⟩:∃x r',r=x::r':=by
       cases r with
       |nil=>grind
       |cons x r'=>grind
      have hx:=hb x (by simp);refine⟨by simp,λy hy=>?_,by simp⟩;rw[List.mem_replicate]at hy;have h3:y=x:=hy.2;omega
    ·split at hB
     ·grind
     ·split at hB
      ·have:=S4 n r [] 1 cs used (λx hx=>hb x (by simp[hx])) (by simp) (by simp) hB;grind
      ·cases hB
  ·cases h
 ·cases h
def E9 (w h sc:Int)(M ts:List Int)(y:Int):List Int:=(List.range M.length).map λc:Nat=>if aC w h c=sc/\dX w h c/aE w h sc<y then gi ts (dX w h c).toNat else gi M c
def aix (w h sc:Int)(M ts:List Int):List Int:=E9 w h sc M ts (bw w h sc)
def rj (w h:Int):Nat->Int->List Int->List Int->Option (List Int×List Int)
 |0,_,bs,M=>some (bs,M)
 |k+1,i,bs,M=>match E8 bs (aE w h i*bw w h i).toNat with
  |none=>none
  |some (ts,used)=>rj w h k (i+1) (bs.drop used) (aix w h i M ts)
def Bu (bs:List Int):Int:=gi bs 0+256*gi bs 1
def Bv (bs:List Int):Int:=gi bs 2+256*gi bs 3
def k_ (bs:List Int):Option bM:=
 if bs.length<4 then none else if iM (Bu bs) (Bv bs)then
  match rj (Bu bs) (Bv bs) (eV (Bu bs) (Bv bs)).toNat 0 (bs.drop 4) (List.replicate (Bu bs*Bv bs).toNat 0)with
  |some (bs',M)=>if bs'=[]then some ⟨Bu bs,Bv bs,M⟩else none
  |none=>none
 else none
section
variable {w h sc y:Int}{M ts:List Int}{c:Nat}
def L6:(E9 w h sc M ts y).length=M.length:=by simp[E9]
def S5:(aix w h sc M ts).length=M.length:=L6
def Xs (hc:c<M.length):gi (E9 w h sc M ts y) c=if aC w h c=sc/\dX w h c/aE w h sc<y then gi ts (dX w h c).toNat else gi M c:=by unfold gi E9;rw[List.getD_eq_getElem?_getD,List.getElem?_map,List.getElem?_range hc];rfl
def akW (hc:c<M.length)(hC:bJ w h c):gi (aix w h sc M ts) c=if aC w h c=sc then gi ts (dX w h c).toNat else gi M c:=by
 rw[aix,Xs hc];by_cases e:aC w h c=sc
 ·rw[if_pos e,if_pos];refine⟨e,?_⟩;have hl:=j7 hC;have hs:=bT hC;rw[e]at hl hs;obtain⟨⟨w1,w2⟩,⟨h1,h2⟩,_⟩:=zA hs;exact Int.ediv_lt_of_lt_mul (by omega) (by grind)
 grind
def aiy {a:Int}(h:1<=a/\a<=1024):a%256+256*(a/256%256)=a:=by omega
def aqF {m:bM}(hm:cT m){s:Int}(hs:dW m.w m.h s):(qp m s).length=(aE m.w m.h s*bw m.w m.h s).toNat:=by unfold qp;grind
def aqG {m:bM}{l:Int}(hl:0<=l/\l<aE m.w m.h sc*bw m.w m.h sc):gi (qp m sc) l.toNat=gi m.cs (bU m.w m.h sc l).toNat:=by show(qp m sc).getD l.toNat 0=_;unfold qp;grind
def aiz {m:bM}(hm:cT m)(hs:dW m.w m.h sc):qp m sc=dO m sc:=by refine List.map_congr_left λl hl=>?_;have hl:=List.mem_range.1 hl;have hg:=sQ hs (l:=l) (by omega);have:=hm.len;have:=hg.2;unfold cR;omega
def afr {m:bM}(hm:cT m):∀(k:Nat) (i:Nat) (M:List Int),(i:Int)+k=eV m.w m.h->M.length=m.cs.length->(∀c:Nat,c<m.cs.length->aC m.w m.h c<i->gi M c=gi m.cs c)->
  rj m.w m.h k i ((List.range' i k).flatMap λs:Nat=>(tN (qp m s)).2) M=some ([],m.cs)
 |0,i,M,hk,hl,hM=>by show some ([],M)=some ([],m.cs);congr 2;refine Vj hl λc hc=>hM c (by omega) ?_;have hC:bJ m.w m.h c:=⟨⟨hm.w,hm.h⟩,by omega,by rw[<-hm.len];omega⟩;have:=(bT hC).2.2;omega
 |k+1,i,M,hk,hl,hM=>by
  have hs:dW m.w m.h i:=⟨⟨hm.w,hm.h⟩,by omega,by omega⟩;have hlen:=Vo hm hs.2;have e:=aqF hm hs;rw[List.range'_succ,List.flatMap_cons,rj,<-e,ath (Vn hm hs.2) hlen.2];simp only;rw[List.drop_left,show((i:Int)+1)=((i+1:Nat):Int) by omega];refine afr hm k (i+1) _ (by omega) (by rw[S5,hl]) λc hc hsc=>?_;have hC:bJ m.w m.h c:=⟨⟨hm.w,hm.h⟩,by omega,by rw[<-hm.len];omega⟩;rw[akW (by omega) hC];by_cases q:aC m.w m.h c=i
  ·rw[if_pos q];have YQ:=j7 hC;have hg:=nU hC;rw[q]at YQ hg;rw[aqG YQ,hg];rfl
  grind
def abZ {m:bM}(hm:cT m):k_ (yM m)=some m:=by
 have e1:Bu (yM m)=m.w:=aiy hm.w;have e2:Bv (yM m)=m.h:=aiy hm.h;rw[k_,e1,e2,if_neg (by unfold yM;simp),if_pos ⟨hm.w,hm.h⟩];have:=afr hm (eV m.w m.h).toNat 0 (List.replicate (m.w*m.h).toNat 0) (by have:=(gQ hm.w hm.h).1;omega) (by have:=hm.len;simp;omega) (λc hc h=>by have hC:bJ m.w m.h c:=⟨⟨hm.w,hm.h⟩,by omega,by rw[<-hm.len];omega⟩;have:=(bT hC).2.1;omega)
 rw[<-List.range_eq_range']at this;have e3:(yM m).drop 4=(List.range (eV m.w m.h).toNat).flatMap λs:Nat=>(tN (qp m s)).2:=by rfl
 simp_all
def aiA (hm:iM w h):∀(k:Nat) (i:Nat) (bs M bs' M':List Int),(i:Int)+k=eV w h->(M.length:Int)=w*h->(∀x∈bs,0<=x/\x<256)->(∀c:Nat,c<M.length->aC w h c<i->1<=gi M c/\gi M c<256)->
  rj w h k i bs M=some (bs',M')->(M'.length:Int)=w*h/\∀x∈M',1<=x/\x<256
 |0,i,bs,M,bs',M',hk,hl,hb,hM,h=>by cases h;refine⟨hl,λx hx=>?_⟩;obtain⟨c,hc⟩:=List.mem_iff_getElem?.1 hx;have yg:=(List.getElem?_eq_some_iff.1 hc).1;have hC:bJ w h c:=⟨hm,by omega,by omega⟩;have:=hM c yg (by have:=(bT hC).2.2;omega);rw[iA yg]at hc;grind
 |k+1,i,bs,M,bs',M',hk,hl,hb,hM,hg=>by
  have hs:dW w h i:=⟨hm,by omega,by omega⟩;obtain⟨⟨w1,w2⟩,⟨h1,h2⟩,_⟩:=zA hs;have h11:1<=aE w h i*bw w h i:=by have:=Int.mul_le_mul w1 h1 (by decide) (by omega);omega
  rw[rj]at hg;split at hg
  ·cases hg
  ·rename_i ts used hT;obtain⟨t1,t2,t3⟩:=aoc (by omega) hb hT;refine aiA hm k (i+1) _ _ bs' M' (by omega) (by rw[S5];exact hl) (λx hx=>hb x (List.mem_of_mem_drop hx)) (λc hc hsc=>?_) hg;rw[S5]at hc;have hC:bJ w h c:=⟨hm,by omega,by omega⟩;rw[akW hc hC];by_cases q:aC w h c=i
   ·rw[if_pos q];have YQ:=j7 hC;rw[q]at YQ;exact t2 _ (fA (by omega))
   grind
def afs {bs:List Int}{m:bM}(hb:∀x∈bs,0<=x/\x<256)(h:k_ bs=some m):cT m:=by
 unfold k_ at h;split at h
 ·cases h
 ·split at h
  ·rename_i hm;split at h
   ·rename_i bs' M hT;split at h
    ·cases h;have hwh:=pA hm;obtain⟨a,b⟩:=aiA hm _ 0 _ _ _ _ (by have:=(gQ hm.1 hm.2).1;omega) (by grind) (λx hx=>hb x (List.mem_of_mem_drop hx)) (λc hc hsc=>by rw[List.length_replicate]at hc;have hC:bJ (Bu bs) (Bv bs) c:=⟨hm,by omega,by omega⟩;have:=(bT hC).2.1;omega) hT
     exact⟨hm.1,hm.2,a,b⟩
    ·cases h
   ·cases h
  ·cases h
end
end Go.Proofs.YtmegplnmiepfbaaGreatDoor.S
namespace Go.Proofs.YtmegplnmiepfbaaGreatDoor.S.Rg
abbrev E:=Int×Int
def YR (j:Nat)(e:E):Bool:=decide (e.1%256=(j:Int))
def tK (l:List E)(j:Nat):List Int:=(l.filter (YR j)).map (·.2)
def Fit (a:Int)(l:List E):Prop:=∀e∈l,a<=e.1/\e.1<a+256
def aod (l:List E)(e:E)(j:Nat):tK (l++[e]) j=if e.1%256=(j:Int)then tK l j++[e.2]else tK l j:=by
 unfold tK;by_cases h:e.1%256=(j:Int)
 ·simp[YR,h]
 ·simp[YR,h]
def aqH {a:Int}{l:List E}{e:E}(h:Fit a l)(h1:a<=e.1)(h2:e.1<a+256):Fit a (l++[e]):=by
 intro x hx;rcases List.mem_append.1 hx with hx|hx
 ·exact h x hx
 grind
def aft {k:Int}:∀{l:List E},(∃e∈l,e.1=k)->∃l1 x l2,l=l1++(k,x)::l2/\∀e∈l1,e.1≠k
 |[],h=>by grind
 |y::l,h=>by
  by_cases hy:y.1=k
  ·exact⟨[],y.2,l,by subst hy;rfl,by simp⟩
  ·obtain⟨l1,x,l2,h1,h2⟩:=aft (k:=k) (l:=l) (by grind)
   grind
def Xt {a k:Int}{l:List E}{j:Nat}(h:Fit a l)(hk:a<=k/\k<a+256)(hj:k%256=(j:Int)){e:E}(he:e∈l):YR j e=true↔e.1=k:=by have:=h e he;unfold YR;grind
def aoe {a k:Int}{l:List E}{j:Nat}(h:Fit a l)(hk:a<=k/\k<a+256)(hj:k%256=(j:Int))(SY:∀e∈l,k<=e.1)(hne:tK l j≠[]):
  ∃l1 x l2,l=l1++(k,x)::l2/\(∀e∈l1,k<e.1)/\(∀e∈l2,k<=e.1)/\tK l j=x::tK (l1++l2) j/\(∀j',j'≠j->tK (l1++l2) j'=tK l j')/\Fit k (l1++l2):=by
 have hex:∃e∈l,e.1=k:=by
  unfold tK at hne;cases hf:l.filter (YR j)with
  |nil=>grind
  |cons e r=>
   have:e∈l.filter (YR j):=by rw[hf];simp
   obtain⟨h1,h2⟩:=List.mem_filter.1 this;exact⟨e,h1,(Xt h hk hj h1).1 h2⟩
 obtain⟨l1,x,l2,rfl,hl1⟩:=aft hex;refine⟨l1,x,l2,rfl,λe he=>?_,λe he=>SY e (by simp[he]),?_,λj' hj'=>?_,λe he=>?_⟩
 ·grind
 ·unfold tK;have h1:l1.filter (YR j)=[]:=by rw[List.filter_eq_nil_iff];intro e he hb;exact hl1 e he ((Xt h hk hj (by simp[he])).1 hb)
  rw[List.filter_append,List.filter_append,h1,List.filter_cons_of_pos (by unfold YR;grind)];rfl
 ·unfold tK;rw[List.filter_append,List.filter_append,List.filter_cons_of_neg (by unfold YR;grind)]
 ·have h1:e∈l1++(k,x)::l2:=by grind
  have:=h e h1;grind
def akd {a:Int}{l:List E}(h:Fit a l)(hne:l≠[]):∃d:Nat,d<256/\(∀e∈l,a+d<=e.1)/\∃e∈l,e.1=a+d:=by
 have key:∀n:Nat,(∃e∈l,e.1<a+n)->∃d:Nat,d<n/\(∀e∈l,a+d<=e.1)/\∃e∈l,e.1=a+d:=by
  intro n;induction n with
  |zero=>
   rintro ⟨e,he,hlt⟩;have:=h e he;omega
  |succ n ih=>
   rintro ⟨e,he,hlt⟩;by_cases hn:∃e∈l,e.1<a+n
   all_goals grind
 obtain⟨e,he⟩:=List.exists_mem_of_ne_nil l hne;exact key 256 ⟨e,he,(h e he).2⟩
def ab0 {a k:Int}{l:List E}{j:Nat}(h:Fit a l)(hk:a<=k/\k<a+256)(hj:k%256=(j:Int)):tK l j=[]↔∀e∈l,e.1≠k:=by
 rw[tK,List.map_eq_nil_iff,List.filter_eq_nil_iff];constructor
 ·intro h1 e he hk';exact h1 e he ((Xt h hk hj he).2 hk')
 ·intro h1 e he hb;exact h1 e he ((Xt h hk hj he).1 hb)
end Go.Proofs.YtmegplnmiepfbaaGreatDoor.S.Rg
namespace Go.Proofs.YtmegplnmiepfbaaGreatDoor.S.Rg
open Go.Sx
def dQ:wS P T:=EJ P rows HN
def cz {n lo hi:Int}{w:World}{Q:Int->World->Prop}(h1:lo<=hi)(h2:-1099511627776<=lo)(h3:hi<=1099511627776)(h:Q (lo+n%(hi-lo+1)) w):a_ n lo hi w Q:=by
 apply uj;rw[aH (n:=hi-lo),aH];generalize hs:hi-lo+1=s at h;have h4:=Int.lt_tmod_of_pos n (b:=s) (by omega);have h5:=Int.tmod_lt_of_pos n (b:=s) (by omega);have h6:=Int.tmod_add_mul_tdiv n s;refine⟨by omega,?_⟩;generalize ht:Int.tmod n s=t at*;have e:n%s=t%s:=by rw[<-h6,Int.add_mul_emod_self_left]
 by_cases hn:t<0
 ·rw[bK hn,aH (n:=t+hi),aH (n:=t+hi-lo),aH (n:=t+hi-lo+1),aH];have e2:t%s=t+s:=by rw[<-Int.add_emod_right,Int.emod_eq_of_lt (by omega) (by omega)]
  grind
 ·rw[bu hn,aH];rw[e,Int.emod_eq_of_lt (by omega) h5]at h;exact h
structure Bk where
 a:Option Addr
 c:Nat
 xs:List Int
 gone:Nat
def ints (l:List Int):List Value:=l.map (.int .i64)
def Ws (b:Bk):List Value:=[.slice b.a b.xs.length b.c,ae b.gone]
def Xu (b:Bk):(Ws b).length=2:=rfl
def Be (b:Bk):As:=ak b.a b.xs.length b.c 3 1 (ints b.xs)
def tF (a len:Int)(bs:List Bk):List Value:=ae a::ae len::flat Ws bs
def S6 (p:Nat)(a len:Int)(bs:List Bk):List As:=ax p 388 (tF a len bs)::bs.map Be
structure Rel (a:Int) (l:List E) (bs:List Bk) (N:Nat):Prop where
 n:bs.length=256
 fit:Fit a l
 nn:0<=a
 big:a+256*(l.length:Int)<=1099511627776+256*(N:Int)
 nS:l.length<=N
 room:N<1000000
 bk:∀(j:Nat) b,bs[j]? =some b->b.xs.drop b.gone=tK l j/\b.gone<=b.xs.length/\b.xs.length<=N
def Bw (p:Nat)(a:Int)(l:List E)(bs:List Bk)(N:Nat):As:=bg (Rel a l bs N) (S6 p a l.length bs)
attribute [local irreducible] af cQ bG bp aA cE cw St Bx Al App cV cO cM bZ aQ bI au cj ax ak
section
variable {F:Nat->Prop}{W w:World}{L:List As}{i j p o n c:Nat}{t:TypeId}{cs:List Value}{a:Option Addr}{xs:List Int}
def aac {x:Int}{Q:World->Prop}(s:Sep F W w L)(hi:L[i]? =some (ax p t cs))(ho:cs[o]? =some (.slice a n c))(hj:L[j]? =some (ak a n c 3 1 (ints xs)))(hij:i≠j)(hn:n<1000000)
  (h:∀w' a' c',Sep F W w' ((L.set j (ak a' (n+1) c' 3 1 (ints (xs++[x])))).set i (ax p t (cs.set o (.slice a' (n+1) c'))))->Q w'):za (some ⟨p,o,none⟩) x w Q:=by
 apply Qz;apply ah;apply gY s rfl hi ho;refine aM s λbx w1 s=>?_;have src:Src w1 (sZ bx) 1 1 [ae x]:=⟨rfl,λu hu=>by rw[List.mem_singleton.1 hu];rfl,λj u hj=>by rw[cq,Nat.zero_add];exact cF s (i:=0) rfl rfl hj⟩;refine iq dQ s (bytes:=8) rfl rfl rfl rfl rfl rfl (by decide) (by rw[List.getElem?_cons_succ];exact hj) src (by simp[maxLen];omega) (by omega) (λe=>by cases e) λa' c' w2 s=>?_;have s:=ai s;have e1:ints xs++[ae x]=ints (xs++[x]):=by simp[ints]
 apply ah;have ho':=(List.getElem?_eq_some_iff.1 ho).1;refine av s rfl (by rw[List.getElem?_set_ne (Ne.symm hij)];exact hi) (by simp_all) λw3 s=>?_;grind
def Cw {g:Int}{Q:Bool->World->Prop}(s:Sep F W w L)(hi:L[i]? =some (ax p t cs))(ho:cs[o]? =some (.slice a n c))(ho':cs[o+1]? =some (ae g))(h:Q (g==(n:Int)) w.drew):qA (some ⟨p,o,none⟩) w Q:=by apply MV;have s':Sep F W w.drew L:=s;apply ah;refine dw s' (by rw[cq]) hi ho' (ah ?_);exact gY s' rfl hi ho h
def aad {g:Nat}{x:Int}{Q:Int->World->Prop}(s:Sep F W w L)(hi:L[i]? =some (ax p t cs))(ho:cs[o]? =some (.slice a n c))(ho':cs[o+1]? =some (ae g))(hj:L[j]? =some (ak a n c 3 1 (ints xs)))(hij:i≠j)(hn:n<1000000)(hx:xs[g]? =some x)
  (h1:g+1<n->∀w',Sep F W w' (L.set i (ax p t (cs.set (o+1) (ae ((g+1:Nat):Int)))))->Q x w')
  (h2:g+1=n->∀w',Sep F W w' ((L.set i (ax p t ((cs.set o (.slice a 0 c)).set (o+1) (ae ((0:Nat):Int))))).set j (ak a 0 c 3 1 []))->Q x w'):y9 (some ⟨p,o,none⟩) w Q:=by
 apply QA;have hiL:=(List.getElem?_eq_some_iff.1 hi).1;have hol:=(List.getElem?_eq_some_iff.1 ho).1;have ayC:=(List.getElem?_eq_some_iff.1 ho').1;have hxl:=(List.getElem?_eq_some_iff.1 hx).1;have hl:xs.length=n:=by have:=ry s hj;simpa[ints]using this
 obtain⟨b,ob,rfl⟩:=p_ s hj (by omega);have s0:Sep F W w.drew L:=s;apply ah;refine gY s0 rfl hi ho (ah ?_);apply dw s0 (by rw[cq]) hi ho';refine⟨by omega,by omega,ah ?_⟩;rw[show((g:Int)).toNat*1=g by omega];refine Vf s0 hj (by rw[cq]) (by rw[ints,List.getElem?_map,hx];rfl) (ah ?_);refine dw s0 (by rw[cq]) hi ho' (ah ?_);rw[aH,show((g:Int)+1)=((g+1:Nat):Int) by omega];refine av s0 (by rw[cq]) hi (by simp_all) λw1 s1=>?_;apply Cw (a:=some ⟨b,ob,none⟩) (n:=n) (c:=c) s1 (List.getElem?_set_self hiL) (by grind) (List.getElem?_set_self ayC);have s2:Sep F W w1.drew _:=s1;by_cases he:g+1=n
 ·rw[he,beq_self_eq_true,cond_true];apply ah;apply gY s2 rfl (List.getElem?_set_self hiL) (by rw[List.getElem?_set_ne (by omega)];exact ho);refine Px (m:=0) rfl (by omega) (ah ?_);refine av s2 rfl (List.getElem?_set_self hiL) (by simp_all) λw3 s3=>?_;rw[g8]at s3;apply ah;refine av s3 (by rw[cq]) (List.getElem?_set_self hiL) (by simp_all) λw4 s4=>?_;rw[g8]at s4;have s5:=TF s4 (by rw[List.getElem?_set_ne hij];exact hj) (Nat.zero_le _);apply h2 he w4;have ec:((cs.set (o+1) (ae ((n:Nat):Int))).set o (.slice (some ⟨b,ob,none⟩) 0 c)).set (o+1) (ae 0)=(cs.set o (.slice (some ⟨b,ob,none⟩) 0 c)).set (o+1) (ae ((0:Nat):Int)):=by have e3:(cs.set (o+1) (ae ((n:Nat):Int))).set o (.slice (some ⟨b,ob,none⟩) 0 c)=(cs.set o (.slice (some ⟨b,ob,none⟩) 0 c)).set (o+1) (ae ((n:Nat):Int)):=List.set_comm _ _ (by omega);simp_all
  grind
 grind
end
end Go.Proofs.YtmegplnmiepfbaaGreatDoor.S.Rg
namespace Go.Proofs.YtmegplnmiepfbaaGreatDoor.S.Rg
open Go.Sx
def FM {p:Addr}{A B:Prop}(h:B):cond (some p).isNone A B:=h
def L7 {bs:List Bk}{j:Nat}{b:Bk}(h:bs[j]? =some b):(bs.map Be)[j]? =some (Be b):=by grind
def NS {a len:Int}{bs:List Bk}{j:Nat}{b:Bk}(h:bs[j]? =some b):(tF a len bs)[j*2+2]? =some (.slice b.a b.xs.length b.c):=by show(flat Ws bs)[j*2+0]? =_;rw[sO Xu h (by decide)];rfl
def Pa {a len:Int}{bs:List Bk}{j:Nat}{b:Bk}(h:bs[j]? =some b):(tF a len bs)[j*2+2+1]? =some (ae b.gone):=by show(flat Ws bs)[j*2+1]? =_;rw[sO Xu h (by decide)];rfl
def TQ {a len:Int}{bs:List Bk}{j:Nat}{b b':Bk}{v:Value}(h:bs[j]? =some b)(hv:Ws b'=(Ws b).set 0 v):(tF a len bs).set (j*2+2) v=tF a len (bs.set j b'):=by show _::_::(flat Ws bs).set (j*2+0) v=_;rw[RT Xu h (by decide) hv];rfl
def NT {a len:Int}{bs:List Bk}{j:Nat}{b b':Bk}{v:Value}(h:bs[j]? =some b)(hv:Ws b'=(Ws b).set 1 v):(tF a len bs).set (j*2+2+1) v=tF a len (bs.set j b'):=by show _::_::(flat Ws bs).set (j*2+1) v=_;rw[RT Xu h (by decide) hv];rfl
attribute [local irreducible] af cQ bG bp aA cE cw St Bx Al App cV cO cM bZ aQ bI au cj ax ak bg
section
variable {F:Nat->Prop}{W w:World}{L:List As}{i p:Nat}{a:Int}{l:List E}{bs:List Bk}{N:Nat}
def Ie (s:Sep F W w L)(hi:L[i]? =some (Bw p a l bs N)):Rel a l bs N:=ae_ s hi
def NU (s:Sep F W w L)(hi:L[i]? =some (Bw p a l bs N)):Sep (Bw p a l bs N).fp w w (S6 p a l.length bs):=IY s hi
def Db {Q:Int->World->Prop}(s:Sep F W w L)(hi:L[i]? =some (Bw p a l bs N))(h:Q (l.length:Int) w):qH (sZ p) w Q:=by apply UI;refine FM (ah ?_);exact dw (NU s hi) (i:=0) rfl rfl rfl h
def Rh {k x:Int}{Q:Bool->World->Prop}(s:Sep F W w L)(hi:L[i]? =some (Bw p a l bs N))(hk:k<9223372036854775808)(o7:N+1<1000000)
  (hno:¬(a<=k/\k<a+256)->Q false w)(hyes:a<=k/\k<a+256->∀w' bs',Sep F W w' (L.set i (Bw p a (l++[(k,x)]) bs' (N+1)))->Q true w'):vK (sZ p) k x w Q:=by
 apply UJ;have hr:=Ie s hi;have s0:=NU s hi;have hnn:=hr.nn;refine FM (ah ?_);apply dw s0 (i:=0) rfl rfl rfl;by_cases h1:k<a
 ·grind
 ·rw[bu h1];apply ah;apply dw s0 (i:=0) rfl rfl rfl;rw[aH];by_cases h2:k-a≥256
  ·grind
  ·rw[bu h2];have hkk:a<=k/\k<a+256:=by omega
   rw[Int.tmod_eq_emod_of_nonneg (by omega)];obtain⟨j,hj⟩:∃j:Nat,k%256=(j:Int):=⟨(k%256).toNat,by omega⟩;have ab1:j<256:=by omega
   obtain⟨b,hb⟩:∃b,bs[j]? =some b:=⟨_,List.getElem?_eq_getElem (by rw[hr.n];exact ab1)⟩;have hbk:=hr.bk j b hb;rw[hj];refine⟨by decide,ah ⟨by omega,by omega,?_⟩⟩;have ea:((aZ p).add 2).add (((j:Int)).toNat*2)=⟨p,j*2+2,none⟩:=by rw[cq,cq,show((j:Int)).toNat=j from rfl];grind
   rw[ea];refine aac s0 (i:=0) (j:=j+1) rfl (NS hb) (by show(bs.map Be)[j]? =_;exact L7 hb) (by omega) (by omega) λw1 a' c' s1=>?_;have e1:ak a' (b.xs.length+1) c' 3 1 (ints (b.xs++[x]))=Be ⟨a',c',b.xs++[x],b.gone⟩:=by unfold Be;grind
   have e2:(tF a l.length bs).set (j*2+2) (.slice a' (b.xs.length+1) c')=tF a l.length (bs.set j ⟨a',c',b.xs++[x],b.gone⟩):=TQ hb (by unfold Ws;grind);rw[e1,e2]at s1;have s1:Sep (Bw p a l bs N).fp w w1 (ax p 388 (tF a l.length (bs.set j ⟨a',c',b.xs++[x],b.gone⟩))::(bs.map Be).set j (Be ⟨a',c',b.xs++[x],b.gone⟩)):=s1;rw[<-List.map_set]at s1;apply ah;refine dw s1 (i:=0) rfl rfl rfl (ah ?_);have hfl:=hr.nS;rw[aH];refine av s1 (i:=0) rfl rfl rfl λw2 s2=>?_;have hlen:((l.length:Int)+1)=((l++[(k,x)]).length:Int):=by simp
   rw[hlen]at s2;refine hyes hkk w2 (bs.set j ⟨a',c',b.xs++[x],b.gone⟩) (RU s hi s2 ?_);refine⟨by simp[hr.n],aqH hr.fit hkk.1 hkk.2,hr.nn,(by have:=hr.big;simp;omega),(by omega),o7,λj' b' hb'=>?_⟩;rw[aod];by_cases hjj:j=j'
   ·grind
   ·rw[List.getElem?_set_ne hjj]at hb';have:=hr.bk j' b' hb';grind
end
end Go.Proofs.YtmegplnmiepfbaaGreatDoor.S.Rg
namespace Go.Proofs.YtmegplnmiepfbaaGreatDoor.S.Rg
open Go.Sx
attribute [local irreducible] af cQ bG bp aA cE cw St Bx Al App cV cO cM bZ aQ bI au cj ax ak bg
section
variable {F:Nat->Prop}{W w:World}{L:List As}{i p:Nat}{a:Int}{l:List E}{bs:List Bk}{N:Nat}
def ab2 {k:Int}{Q:Bool->World->Prop}(s:Sep F W w L)(hi:L[i]? =some (Bw p a l bs N))
  (hno:¬(l=[]/\a<=k/\k<=1099511627776)->Q false w)(hyes:l=[]/\a<=k/\k<=1099511627776->∀w' bs',Sep F W w' (L.set i (Bw p k [] bs' N))->Q true w'):Ah (sZ p) k w Q:=by
 apply SC;have hr:=Ie s hi;have s0:=NU s hi;have hnn:=hr.nn;refine FM (ah ?_);apply dw s0 (i:=0) rfl rfl rfl;by_cases h0:l=[]
 ·subst h0;rw[bu (by simp)];apply ah;apply dw s0 (i:=0) rfl rfl rfl;by_cases h1:k<a
  ·grind
  ·rw[bu h1];by_cases h2:k>1099511627776
   ·grind
   ·rw[bu h2];apply ah;refine av s0 (i:=0) rfl rfl rfl λw1 s1=>?_;have s1:=s1;exact hyes ⟨rfl,by omega,by omega⟩ w1 bs (RU s hi s1 ⟨hr.n,(λe he=>by cases he),by omega,(by simp;omega),hr.nS,hr.room,hr.bk⟩)
 simp_all
def agO {Q:Int->Int->Bool->World->Prop}(hr:Rel a l bs N){d:Nat}(hd:d<256)(SY:∀e∈l,a+d<=e.1)(hex:∃e∈l,e.1=a+d){w0:World}{G:Nat->Prop}
  (h:∀w' l1 x l2 bs',l=l1++(a+d,x)::l2->(∀e∈l1,a+d<e.1)->(∀e∈l2,a+d<=e.1)->Rel (a+d) (l1++l2) bs' N->Sep G w0 w' (S6 p (a+d) (l1++l2).length bs')->Q (a+d) x true w'):
  ∀(m e:Nat) (w:World),e+m=d->Sep G w0 w (S6 p (a+e) l.length bs)->pZ Q (m+1) (sZ p) w:=by
 have hnn:=hr.nn;have ahB:=hr.big;have aBP:=hr.nS;have az1:=hr.room;intro m;induction m with
 |zero=>
  intro e w he s;obtain rfl:e=d:=by omega
  show DL Q (pZ Q 0) _ _;obtain⟨j,hj⟩:∃j:Nat,(a+e)%256=(j:Int):=⟨((a+e)%256).toNat,by omega⟩;have ab1:j<256:=by omega
  obtain⟨b,hb⟩:∃b,bs[j]? =some b:=⟨_,List.getElem?_eq_getElem (by rw[hr.n];exact ab1)⟩;have hbk:=hr.bk j b hb;have hroom:=hr.room;have hkk:a<=a+e/\a+e<a+256:=by omega
  have hpn:tK l j≠[]:=λh0=>by obtain⟨x,hx,hxe⟩:=hex;exact(ab0 hr.fit hkk hj).1 h0 x hx hxe
  obtain⟨l1,x,l2,hl,g1,g2,g3,g4,g5⟩:=aoe hr.fit hkk hj SY hpn;have hlt:b.gone<b.xs.length:=by grind
  have ea:((aZ p).add 2).add (((j:Int)).toNat*2)=⟨p,j*2+2,none⟩:=by rw[cq,cq,show((j:Int)).toNat=j from rfl];grind
  have em:Int.tmod (a+e) 256=(j:Int):=by grind
  have s0:Sep G w0 w.drew _:=s;apply ah;apply dw s0 (i:=0) rfl rfl rfl;rw[em];refine⟨by decide,ah ⟨by omega,by omega,?_⟩⟩;rw[ea];apply Cw s0 (i:=0) rfl (NS hb) (Pa hb);rw[show(((b.gone:Int))==(b.xs.length:Int))=false by grind,cond_false];have s1:=s;apply ah;refine dw s1 (i:=0) rfl rfl rfl (ah ?_);refine av s1 (i:=0) rfl rfl rfl λw3 s3=>?_;have el:IntKind.wrap .i64 ((l.length:Int)-1)=((l1++l2).length:Int):=by rw[aH];grind
  rw[el]at s3;have s3:=s3;have s4:Sep G w0 w3.drew (S6 p (a+e) (l1++l2).length bs):=s3;apply ah;refine dw s4 (i:=0) rfl rfl rfl (ah ?_);apply dw s4 (i:=0) rfl rfl rfl;rw[em];refine⟨by decide,ah ⟨by omega,by omega,?_⟩⟩;rw[ea];have hx:b.xs[b.gone]? =some x:=by have:=congrArg (λq=>q[0]?) (hbk.1.trans g3);grind
  have ab4:b.xs.drop (b.gone+1)=tK (l1++l2) j:=by have:=congrArg (List.drop 1) (hbk.1.trans g3);simpa[List.drop_drop]using this
  have rel:∀b':Bk,b'.xs.drop b'.gone=tK (l1++l2) j->b'.gone<=b'.xs.length->b'.xs.length<=N->Rel (a+e) (l1++l2) (bs.set j b') N:=by
   intro b' q1 q2 q3;refine⟨by simp[hr.n],g5,by omega,?_,?_,hroom,λj' b2 hb2=>?_⟩
   ·grind
   ·grind
   ·by_cases hjj:j=j'
    ·grind
    ·rw[List.getElem?_set_ne hjj]at hb2;rw[g4 j' (Ne.symm hjj)];exact hr.bk j' b2 hb2
  refine aad s4 (i:=0) (j:=j+1) rfl (NS hb) (Pa hb) (by show(bs.map Be)[j]? =_;exact L7 hb) (by omega) (by omega) hx (λhg w5 s5=>?_) λhg w5 s5=>?_
  ·have e2:(tF (a+e) (l1++l2).length bs).set (j*2+2+1) (ae ((b.gone+1:Nat):Int))=tF (a+e) (l1++l2).length (bs.set j {b with gone:=b.gone+1}):=NT hb rfl;rw[e2]at s5;have e3:bs.map Be=(bs.set j {b with gone:=b.gone+1}).map Be:=by rw[List.map_set,show Be {b with gone:=b.gone+1}=Be b from rfl,rK (L7 hb)]
   have s5:Sep G w0 w5 (ax p 388 (tF (a+e) (l1++l2).length (bs.set j {b with gone:=b.gone+1}))::bs.map Be):=s5;rw[e3]at s5;refine⟨cF s5 (i:=0) rfl rfl rfl,?_⟩;exact h w5 l1 x l2 _ hl g1 g2 (rel {b with gone:=b.gone+1} ab4 (show b.gone+1<=b.xs.length by omega) hbk.2.2) s5
  ·have e2:((tF (a+e) (l1++l2).length bs).set (j*2+2) (.slice b.a 0 b.c)).set (j*2+2+1) (ae ((0:Nat):Int))=tF (a+e) (l1++l2).length (bs.set j ⟨b.a,b.c,[],0⟩):=by
    have hjl:j<bs.length:=by grind
    rw[TQ (b':=⟨b.a,b.c,[],b.gone⟩) (v:=.slice b.a 0 b.c) hb rfl,NT (b:=⟨b.a,b.c,[],b.gone⟩) (b':=⟨b.a,b.c,[],0⟩) (List.getElem?_set_self hjl) rfl,g8]
   rw[e2]at s5;have e3:ak b.a 0 b.c 3 1 []=Be ⟨b.a,b.c,[],0⟩:=rfl;have s5:Sep G w0 w5 (ax p 388 (tF (a+e) (l1++l2).length (bs.set j ⟨b.a,b.c,[],0⟩))::(bs.map Be).set j (Be ⟨b.a,b.c,[],0⟩)):=s5;rw[<-List.map_set]at s5;refine⟨cF s5 (i:=0) rfl rfl rfl,?_⟩;refine h w5 l1 x l2 _ hl g1 g2 (rel _ ?_ (by simp) (by simp)) s5;grind
 |succ m ih=>
  intro e w he s;show DL Q (pZ Q (m+1)) _ _;obtain⟨j,hj⟩:∃j:Nat,(a+e)%256=(j:Int):=⟨((a+e)%256).toNat,by omega⟩;have ab1:j<256:=by omega
  obtain⟨b,hb⟩:∃b,bs[j]? =some b:=⟨_,List.getElem?_eq_getElem (by rw[hr.n];exact ab1)⟩;have hbk:=hr.bk j b hb;have hkk:a<=a+e/\a+e<a+256:=by omega
  have hpn:=(ab0 hr.fit hkk hj).2 λx hx hxe=>by grind
  have awB:b.gone=b.xs.length:=by have:=congrArg List.length hbk.1;grind
  have ea:((aZ p).add 2).add (((j:Int)).toNat*2)=⟨p,j*2+2,none⟩:=by rw[cq,cq,show((j:Int)).toNat=j from rfl];grind
  have em:Int.tmod (a+e) 256=(j:Int):=by grind
  have s0:Sep G w0 w.drew _:=s;apply ah;apply dw s0 (i:=0) rfl rfl rfl;rw[em];refine⟨by decide,ah ⟨by omega,by omega,?_⟩⟩;rw[ea];apply Cw s0 (i:=0) rfl (NS hb) (Pa hb);rw[awB,beq_self_eq_true,cond_true];have s1:=s;apply ah;refine dw s1 (i:=0) (j:=0) rfl rfl rfl (ah ?_);refine av s1 (i:=0) (j:=0) rfl rfl rfl λw3 s3=>?_;rw[aH,show a+(e:Int)+1=a+((e+1:Nat):Int) by omega]at s3;exact ih (e+1) w3 (by omega) s3
def aea {Q:Int->Int->Bool->World->Prop}(s:Sep F W w L)(hi:L[i]? =some (Bw p a l bs N))(h0:l=[]->Q 0 0 false w)
  (h1:∀w' k l1 x l2 bs',l=l1++(k,x)::l2->(∀e∈l1,k<e.1)->(∀e∈l2,k<=e.1)->Sep F W w' (L.set i (Bw p k (l1++l2) bs' N))->Q k x true w'):A8 (sZ p) w Q:=by
 apply UK;apply Db s hi;have hr:=Ie s hi;by_cases hl:l=[]
 ·grind
 ·have hpos:=List.length_pos_iff.2 hl;rw[show(((l.length:Int))==0)=false by grind,cond_false];obtain⟨d,hd,SY,hex⟩:=akd hr.fit hl;have s0:=NU s hi;refine⟨d+1,agO (G:=(Bw p a l bs N).fp) (w0:=w) hr hd SY hex (λw' l1 x l2 bs' q1 q2 q3 q4 s'=>?_) d 0 w (by omega) (by grind)⟩;exact h1 w' (a+d) l1 x l2 bs' q1 q2 q3 (RU s hi s' q4)
def aiC:Bk:=⟨none,0,[],0⟩
def Ri {f:Int}{Q:Option Addr->World->Prop}(s:Sep F W w L)(hno:f<0\/f>1099511627776->Q none w)(hyes:0<=f/\f<=1099511627776->∀p w' bs,Sep F W w' (Bw p f [] bs 0::L)->Q (sZ p) w'):CU f w Q:=by
 apply adP;by_cases h1:f<0
 ·rw[bK h1];grind
 ·rw[bu h1];by_cases h2:f>1099511627776
  ·rw[bK h2];grind
  ·rw[bu h2];refine aM s λp w1 s=>?_;have s2:=TG s 3 1 256;have s3:=b_ s2 List.perm_middle;have rel:Rel f [] (List.replicate 256 aiC) 0:=by refine⟨List.length_replicate,(λe he=>by cases he),by omega,(by simp[List.length_nil];omega),Nat.le_refl _,by decide,λj b hb=>?_⟩;have:b=aiC:=List.eq_of_mem_replicate (List.mem_of_getElem? hb);subst this;exact⟨rfl,Nat.le_refl _,Nat.le_refl _⟩
   have e1:(List.replicate 256 aiC).map Be=List.replicate 256 (ak none 0 0 3 1 []):=by rw[List.map_replicate];rfl
   apply hyes (by omega) p w1 (List.replicate 256 aiC);have s4:Sep F W w1 (S6 p f ([]:List E).length (List.replicate 256 aiC)++L):=by unfold S6;exact awr s3 (by kernel_rfl)
   exact dy s4 rel
end
end Go.Proofs.YtmegplnmiepfbaaGreatDoor.S.Rg
namespace Go.Proofs.YtmegplnmiepfbaaGreatDoor.S
open Go.Sx
def fD (ds:List Int)(l:Int):Int:=if 0<=l/\l<ds.length then gi ds l.toNat else cf
def GI (ds:List Int):Nat:=ds.countP λd=>d==cf
def kc (x:bh):Int×Int:=(x.k,x.c)
def Wt {k:Int}(hk:k≠cf):∀{ds:List Int} {i:Nat},i<ds.length->gi ds i=cf->GI (ds.set i k)+1=GI ds
 |[],i,h,_=>by simp at h
 |d::ds,0,h,hd=>by have hd:d=cf:=hd;unfold GI;grind
 |d::ds,i+1,h,hd=>by have ih:=Wt hk (i:=i) (by simpa using h) hd;unfold GI at ih⊢;grind
def ayD (ds:List Int):GI ds<=ds.length:=List.countP_le_length
def auS {ds:List Int}{x k:Int}(hx:0<=x/\x<ds.length)(y:Int):fD (ds.set x.toNat k) y=if y=x then k else fD ds y:=by
 unfold fD;rw[List.length_set];by_cases hy:0<=y/\y<ds.length
 ·rw[if_pos hy,if_pos hy,aa7 (by omega)];omega
 grind
def S7 {tw th l s:Int}(ht:1<=tw)(hh:1<=th)(hl:0<=l/\l<tw*th)(h0:0<=bN tw th l s):bN tw th l s<tw*th/\∃s',(0<=s'/\s'<=3)/\bN tw th (bN tw th l s) s'=l:=by
 obtain⟨i0,i1⟩:0<=l%tw/\l%tw<tw:=⟨Int.emod_nonneg _ (by omega),Int.emod_lt_of_pos _ (by omega)⟩;obtain⟨j0,j1⟩:0<=l/tw/\l/tw<th:=⟨Int.ediv_nonneg hl.1 (by omega),Int.ediv_lt_of_lt_mul (by omega) (by grind)⟩;have hle:l=l/tw*tw+l%tw:=by have:=Int.mul_ediv_add_emod l tw;grind
 have jE:∀i j,0<=i/\i<tw->0<=j/\j<th->j*tw+i<tw*th:=λi j hi hj=>by have:=Int.mul_le_mul_of_nonneg_right (show j+1<=th by omega) (show 0<=tw by omega);grind
 unfold bN at h0;by_cases s0:s=0
 ·subst s0;by_cases q:l/tw>0
  ·have e:bN tw th l 0=(l/tw-1)*tw+l%tw:=by unfold bN;grind
   rw[e];refine⟨jE _ _ ⟨i0,i1⟩ (by omega),2,by decide,?_⟩;obtain⟨d1,d2⟩:=rL (y:=l/tw-1) ⟨i0,i1⟩;unfold bN;grind
  omega
 by_cases s1:s=1
 ·subst s1;by_cases q:l%tw<tw-1
  ·have e:bN tw th l 1=l/tw*tw+(l%tw+1):=by unfold bN;omega
   rw[e];refine⟨jE _ _ (by omega) ⟨j0,j1⟩,3,by decide,?_⟩;obtain⟨d1,d2⟩:=rL (x:=l%tw+1) (w:=tw) (y:=l/tw) (by omega);unfold bN;omega
  omega
 by_cases s2:s=2
 ·subst s2;by_cases q:l/tw<th-1
  ·have e:bN tw th l 2=(l/tw+1)*tw+l%tw:=by unfold bN;grind
   rw[e];refine⟨jE _ _ ⟨i0,i1⟩ (by omega),0,by decide,?_⟩;obtain⟨d1,d2⟩:=rL (y:=l/tw+1) ⟨i0,i1⟩;unfold bN;grind
  omega
 by_cases s3:s=3
 ·subst s3;by_cases q:l%tw>0
  ·have e:bN tw th l 3=l/tw*tw+(l%tw-1):=by unfold bN;omega
   rw[e];refine⟨jE _ _ (by omega) ⟨j0,j1⟩,1,by decide,?_⟩;obtain⟨d1,d2⟩:=rL (x:=l%tw-1) (w:=tw) (y:=l/tw) (by omega);unfold bN;omega
  omega
 omega
def kX (tw th:Int)(cs ds:List Int)(key x:Int)(j:Nat):List (Int×Int):=(List.range j).filterMap λs:Nat=>
 if 0<=bN tw th x s/\gi cs (bN tw th x s).toNat≠255/\gi ds (bN tw th x s).toNat=cf then some (key,bN tw th x s)else none
def ab5 (tw th:Int)(cs ds:List Int)(key x s:Int):List (Int×Int):=if 0<=bN tw th x s/\gi cs (bN tw th x s).toNat≠255/\gi ds (bN tw th x s).toNat=cf then[(key,bN tw th x s)]else[]
def ab6 (tw th:Int)(cs ds:List Int)(key x:Int)(j:Nat):kX tw th cs ds key x (j+1)=kX tw th cs ds key x j++ab5 tw th cs ds key x j:=by unfold kX ab5;rw[List.range_succ,List.filterMap_append];grind
def Wu (tw th:Int)(cs ds:List Int)(key x:Int)(j:Nat):(kX tw th cs ds key x j).length<=j:=by have:=List.length_filterMap_le (λs:Nat=>if 0<=bN tw th x s/\gi cs (bN tw th x s).toNat≠255/\gi ds (bN tw th x s).toNat=cf then some (key,bN tw th x s)else none) (List.range j);rw[List.length_range]at this;exact this
def afv {tw th:Int}{cs ds:List Int}{key x:Int}{e:Int×Int}:e∈kX tw th cs ds key x 4↔∃s:Int,(0<=s/\s<=3)/\(0<=bN tw th x s/\gi cs (bN tw th x s).toNat≠255/\gi ds (bN tw th x s).toNat=cf)/\e=(key,bN tw th x s):=by
 rw[kX,List.mem_filterMap];constructor
 ·grind
 ·rintro ⟨s,h1,h2,rfl⟩;refine⟨s.toNat,List.mem_range.2 (by omega),?_⟩;grind
structure Cy (tw th:Int) (cs:List Int) (xs:List bh) (a:Int) (l:List (Int×Int)) (N:Nat) (todo:List bh) (ds:List Int):Prop where
 len:ds.length=cs.length
 dj:PB (NO xs) (IE tw th cs) (fD ds) (l++todo.map kc)
 Ej:∀e∈l++todo.map kc,ID cs e.2
 top:∀e∈l++todo.map kc,e.1+254*(GI ds:Int)<=1073741824+254*(cs.length:Int)
 NV:todo.Pairwise λa b=>a.k<=b.k
 low:∀x∈todo,a<=x.k
 fV:N+todo.length+4*GI ds<=xs.length+4*cs.length
section
variable {tw th:Int}{cs ds:List Int}{xs todo:List bh}{a:Int}{l:List (Int×Int)}{N:Nat}
def aiE (hcs:∀x∈cs,1<=x/\x<256):∀x n c,IE tw th cs x n c->0<=c:=λx n c h=>by rw[h.2.2.2];have:=hcs _ (fA (i:=n.toNat) (by have:=h.2.1;unfold ID at this;omega));omega
def Cy.take {x:bh}(h:Cy tw th cs xs a l N (x::todo) ds):Cy tw th cs xs a (l++[kc x]) (N+1) todo ds:=by
 have e:l++(x::todo).map kc=(l++[kc x])++todo.map kc:=by simp
 have h1:=h.dj;have h2:=h.Ej;have h3:=h.top;have h4:=h.fV;rw[e]at h1 h2 h3;simp[List.length_cons]at h4;exact⟨h.len,h1,h2,h3,(List.pairwise_cons.1 h.NV).2,λy hy=>h.low y (by simp[hy]),by omega⟩
def Cy.jump {x:bh}(h:Cy tw th cs xs a l N (x::todo) ds):Cy tw th cs xs x.k l N (x::todo) ds:=
 ⟨h.len,h.dj,h.Ej,h.top,h.NV,λy hy=>by
  rcases List.mem_cons.1 hy with rfl|hy
  ·grind
  ·exact(List.pairwise_cons.1 h.NV).1 y hy,h.fV⟩
def Cy.skip {k x:Int}{l1 l2:List (Int×Int)}(h:Cy tw th cs xs a (l1++(k,x)::l2) N todo ds)(hx:fD ds x<cf)(hk:∀y∈todo,k<=y.k):Cy tw th cs xs k (l1++l2) N todo ds:=by
 have hm:∀e∈(l1++l2)++todo.map kc,e∈(l1++(k,x)::l2)++todo.map kc:=λe he=>by grind
 exact⟨h.len,h.dj.skip (k:=k) hx hm λe he=>by grind,λe he=>h.Ej e (hm e he),λe he=>h.top e (hm e he),h.NV,hk,h.fV⟩
def Cy.step {k x:Int}{l1 l2:List (Int×Int)}{M:Nat}(hcs:∀x∈cs,1<=x/\x<256)(hw:1<=tw)(hh:1<=th)(hlen:(cs.length:Int)=tw*th)(uJ:cs.length<=256)(h:Cy tw th cs xs a (l1++(k,x)::l2) N todo ds)(hx:gi ds x.toNat=cf)
  (hmin:∀e∈l1++l2,k<=e.1)(hk:∀y∈todo,k<=y.k)(hM:M=N+(kX tw th cs (ds.set x.toNat k) (k+gi cs x.toNat) x 4).length):
  Cy tw th cs xs k ((l1++l2)++kX tw th cs (ds.set x.toNat k) (k+gi cs x.toNat) x 4) M todo (ds.set x.toNat k):=by
 have hin:(k,x)∈(l1++(k,x)::l2)++todo.map kc:=by simp
 have Jh:=h.Ej _ hin;have hxr:0<=x/\x<ds.length:=by rw[h.len];exact⟨Jh.1,Jh.2.1⟩
 have aae:=h.top _ hin;have hkI:k<cf:=by unfold cf;omega
 have aaf:∀y,fD (ds.set x.toNat k) y=if y=x then k else fD ds y:=auS hxr
 have Hz:=Wt (k:=k) (by omega) (by omega) hx;have hbound:∀e∈(l1++(k,x)::l2)++todo.map kc,k<=e.1:=λe he=>by
  simp only[List.mem_append,List.mem_cons,List.mem_map]at he;rcases he with(he|rfl|he)|⟨y,hy,rfl⟩
  ·grind
  ·grind
  ·grind
  ·exact hk y hy
 have hcx:=hcs _ (fA (i:=x.toNat) (by rw[<-h.len];omega));have hfx:¬fD ds x<cf:=by unfold fD;grind
 have auU:∀e∈((l1++l2)++kX tw th cs (ds.set x.toNat k) (k+gi cs x.toNat) x 4)++todo.map kc,e∈(l1++(k,x)::l2)++todo.map kc\/e∈kX tw th cs (ds.set x.toNat k) (k+gi cs x.toNat) x 4:=λe he=>by grind
 have ayE:∀e∈kX tw th cs (ds.set x.toNat k) (k+gi cs x.toNat) x 4,ID cs e.2/\e.1=k+gi cs x.toNat/\IE tw th cs e.2 x (gi cs x.toNat):=λe he=>by obtain⟨s,hs,⟨h1,h2,h3⟩,rfl⟩:=afv.1 he;have hr:=S7 hw hh (by rw[<-hlen,<-h.len];exact hxr) h1;have ho:ID cs (bN tw th x s):=⟨h1,by grind,h2⟩;exact⟨ho,rfl,ho,Jh,hr.2,rfl⟩
 refine⟨by rw[List.length_set];exact h.len,?_,?_,?_,h.NV,hk,?_⟩
 ·refine h.dj.step (aiE hcs) hfx hkI hin hbound (by grind) (λy hy=>by grind) ?_ ?_ ?_
  ·grind
  ·grind
  ·rintro y c ⟨h1,h2,⟨s,hs,h3⟩,rfl⟩;by_cases hy:fD (ds.set x.toNat k) y<cf
   ·exact .inl hy
   ·refine .inr ⟨k+gi cs x.toNat,Int.le_refl _,?_⟩;have hr:=S7 (s:=s) hw hh (by rw[<-hlen];exact⟨h1.1,h1.2.1⟩) (by grind);rw[h3]at hr;obtain⟨s',hs',h4⟩:=hr.2;rw[List.mem_append,List.mem_append];refine .inl (.inr (afv.2 ⟨s',hs',?_,by rw[h4]⟩));rw[h4];refine⟨h1.1,h1.2.2,?_⟩;have TR:0<=y/\y<(ds.set x.toNat k).length:=by rw[List.length_set,h.len];exact⟨h1.1,h1.2.1⟩
    have hz:fD (ds.set x.toNat k) y=cf:=by
     rw[aaf]at hy⊢;by_cases e:y=x
     ·omega
     ·rw[if_neg e]at hy⊢;exact h.dj.none y hy
    unfold fD at hz;grind
 ·intro e he;rcases auU e he with h1|h1
  ·exact h.Ej e h1
  grind
 ·intro e he;rcases auU e he with h1|h1
  ·have:=h.top e h1;omega
  ·have:=(ayE e h1).2.1;have:gi cs x.toNat≠255:=Jh.2.2;omega
 ·have h1:=Wu tw th cs (ds.set x.toNat k) (k+gi cs x.toNat) x 4;have h2:=h.fV;omega
def aoi (hok:rV tw th cs xs=true){zs:List bh}(hz:∀x,x∈zs↔x∈xs)(hzl:zs.length=xs.length)(hzs:zs.Pairwise λa b=>a.k<=b.k):Cy tw th cs xs 0 [] 0 zs (List.replicate cs.length cf):=by
 have hf:∀x,fD (List.replicate cs.length cf) x=cf:=λx=>by
  unfold fD;split
  ·rename_i h;unfold gi;grind
  ·rfl
 have hu:GI (List.replicate cs.length cf)=cs.length:=by rw[GI,List.countP_replicate,if_pos (by decide)]
 unfold rV at hok;rw[Bool.and_eq_true,List.all_eq_true]at hok;have alW:∀x∈zs,ID cs x.c/\0<=x.k/\x.k<=1073741824:=λx hx=>by have:=hok.2 x ((hz x).1 hx);unfold Aq at this;simp[Bool.and_eq_true,decide_eq_true_iff,bne_iff_ne]at this;exact⟨⟨this.1.1,this.1.2,this.2.1⟩,this.2.2.1⟩
 refine⟨by simp,⟨?_,?_,?_,?_,?_,?_⟩,?_,?_,hzs,λx hx=>(alW x hx).2.1,by omega⟩
 ·intro e he;obtain⟨y,hy,rfl⟩:=List.mem_map.1 he;exact .src ⟨y,(hz y).1 hy,rfl,rfl⟩
 ·grind
 ·grind
 ·rintro x k ⟨y,hy,rfl,rfl⟩;exact .inr ⟨y.k,Int.le_refl _,by rw[List.nil_append];exact List.mem_map.2 ⟨y,(hz y).2 hy,rfl⟩⟩
 ·grind
 ·grind
 ·intro e he;obtain⟨y,hy,rfl⟩:=List.mem_map.1 he;exact(alW y hy).1
 ·intro e he;obtain⟨y,hy,rfl⟩:=List.mem_map.1 he;have:=(alW y hy).2;show y.k+_<=_;omega
noncomputable def jv (tw th:Int)(cs:List Int)(xs:List bh):List Int:=(List.range cs.length).map λl:Nat=>L5 tw th cs xs l
def Cy.done (h:Cy tw th cs xs a [] N [] ds):ds=jv tw th cs xs:=by
 have h1:=h.dj;have h2:∀x,gM (NO xs) (IE tw th cs) x=fD ds x:=λx=>PB.done (by grind) x;refine Vj (by unfold jv;rw[List.length_map,List.length_range,h.len]) λi hi=>?_;rw[jv,show gi ((List.range cs.length).map λl:Nat=>L5 tw th cs xs l) i=L5 tw th cs xs i from ?_]
 ·rw[L5,h2];unfold fD;grind
 ·rw[gi,List.getD_eq_getElem?_getD,List.getElem?_map,List.getElem?_range (by rw[<-h.len];exact hi)];rfl
end
end Go.Proofs.YtmegplnmiepfbaaGreatDoor.S
namespace Go.Proofs.YtmegplnmiepfbaaGreatDoor.S
open Go.Sx
open Go.Sort (swp)
attribute [local irreducible] af cQ bG bp aA cE cw St Bx Al App cV cO cM bZ aQ bI au cj ax ak bg mapA
noncomputable abbrev iL:Value:=.func (.func 197) #[] #[]
abbrev c8 (a:Option Addr)(n c:Nat)(d:Array bh):As:=ak a n c 294 3 (flat fS d.toList)
section
variable {F:Nat->Prop}{W w w0:World}{L:List As}{a:Option Addr}{n c:Nat}{d:Array bh}
def gu (s:Sep F W w (c8 a n c d::L)):d.size=n:=by have:=(aN s (i:=0) rfl nD (by decide)).len;grind
def Xv {k:Nat}(h:k<d.size):d.toList[k]? =some d[k]!:=by grind
def RdS {idx:Int}{k:Nat}{K:Int->Int->Int->Prop}(s:Sep F W w (c8 a n c d::L))(hk:idx=k)(hn:k<d.size)(h:K d[k]!.c d[k]!.s d[k]!.k):
  aK idx n (wA a λp=>af .i64 ((p.add (idx.toNat*3)).add 0) w λx=>af .i64 ((p.add (idx.toNat*3)).add 1) w λy=>af .i64 ((p.add (idx.toNat*3)).add 2) w λz=>K x y z):=
 (aN s (i:=0) rfl nD (by decide)).El hk (by rw[<-gu s];exact hn) λp x hx hc=>by rw[Xv hn]at hx;cases hx;exact aJ (hc 0 _ rfl) (aJ (hc 1 _ rfl) (aJ (hc 2 _ rfl) h))
def WrS {idx:Int}{k:Nat}{x:bh}{K:World->Prop}(s:Sep F W w (c8 a n c d::L))(hk:idx=k)(hn:k<d.size)(h:∀w',Sep F W w' (c8 a n c (d.setIfInBounds k x)::L)->K w'):
  aK idx n (wA a λp=>St ((p.add (idx.toNat*3)).add 0) (ae x.c) w λw=>St ((p.add (idx.toNat*3)).add 1) (ae x.s) w λw=>St ((p.add (idx.toNat*3)).add 2) (ae x.k) w λw=>K w):=by
 have hsz:=gu s;subst hk;have hg:=Xv hn;refine CL s (i:=0) rfl rfl (by omega) λg o ha=>?_;subst ha;have ad:∀j,(((⟨g,o,none⟩:Addr).add ((k:Int).toNat*3)).add j)=⟨g,o+(k*3+j),none⟩:=λj=>by rw[add_add,cq,Int.toNat_natCast]
 refine dU (x':=⟨x.c,d[k]!.s,d[k]!.k⟩) nD s (i:=0) rfl hg (ad 0) (by decide) rfl rfl λw s=>?_;refine dU (x:=⟨x.c,d[k]!.s,d[k]!.k⟩) (x':=⟨x.c,x.s,d[k]!.k⟩) nD s (i:=0) rfl (by grind) (ad 1) (by decide) rfl rfl λw s=>?_;refine dU (x:=⟨x.c,x.s,d[k]!.k⟩) (x':=x) nD s (i:=0) rfl (by grind) (ad 2) (by decide) rfl rfl λw s=>?_;simp[List.set_cons_zero,List.set_set]at s;grind
def GJ {m:Nat}{i j:Int}{p q:Nat}{K:Int->World->Prop}(s:Sep F W w (c8 a n c d::L))(hi:i=p)(hp:p<d.size)(hj:j=q)(hq:q<d.size)(h:∀w',Sep F W w' (c8 a n c d::L)->K (ait d[p]! d[q]!) w'):
  aK i n (wA a λp=>af .i64 ((p.add (i.toNat*3)).add 0) w λx=>af .i64 ((p.add (i.toNat*3)).add 1) w λy=>af .i64 ((p.add (i.toNat*3)).add 2) w λz=>
  aK j n (wA a λp=>af .i64 ((p.add (j.toNat*3)).add 0) w λx'=>af .i64 ((p.add (j.toNat*3)).add 1) w λy'=>af .i64 ((p.add (j.toNat*3)).add 2) w λz'=>
  ik (cx m) iL [.agg #[ae x,ae y,ae z],.agg #[ae x',ae y',ae z']] w λv w'=>dI .i64 v λr=>K r w')):=
 RdS (K:=λx y z=>aK j n (wA a λp=>af .i64 ((p.add (j.toNat*3)).add 0) w λx'=>af .i64 ((p.add (j.toNat*3)).add 1) w λy'=>af .i64 ((p.add (j.toNat*3)).add 2) w λz'=>
  ik (cx m) iL [.agg #[ae x,ae y,ae z],.agg #[ae x',ae y',ae z']] w λv w'=>dI .i64 v λr=>K r w')) s hi hp
  (RdS s hj hq
   (aka (Yo s λw' s' _=>h w' s')))
def DS {i j:Int}{p q:Nat}{K:World->Prop}(s:Sep F W w (c8 a n c d::L))(hi:i=p)(hp:p<d.size)(hj:j=q)(hq:q<d.size)(h:∀w',Sep F W w' (c8 a n c (swp d p q)::L)->K w'):
  aK j n (wA a λp=>af .i64 ((p.add (j.toNat*3)).add 0) w λx=>af .i64 ((p.add (j.toNat*3)).add 1) w λy=>af .i64 ((p.add (j.toNat*3)).add 2) w λz=>
  aK i n (wA a λp=>af .i64 ((p.add (i.toNat*3)).add 0) w λx'=>af .i64 ((p.add (i.toNat*3)).add 1) w λy'=>af .i64 ((p.add (i.toNat*3)).add 2) w λz'=>
  aK i n (wA a λp=>St ((p.add (i.toNat*3)).add 0) (ae x) w λw=>St ((p.add (i.toNat*3)).add 1) (ae y) w λw=>St ((p.add (i.toNat*3)).add 2) (ae z) w λw=>
  aK j n (wA a λp=>St ((p.add (j.toNat*3)).add 0) (ae x') w λw=>St ((p.add (j.toNat*3)).add 1) (ae y') w λw=>St ((p.add (j.toNat*3)).add 2) (ae z') w λw=>K w)))):=by
 refine RdS (K:=λx y z=>aK i n (wA a λp=>af .i64 ((p.add (i.toNat*3)).add 0) w λx'=>af .i64 ((p.add (i.toNat*3)).add 1) w λy'=>af .i64 ((p.add (i.toNat*3)).add 2) w λz'=>
  aK i n (wA a λp=>St ((p.add (i.toNat*3)).add 0) (ae x) w λw=>St ((p.add (i.toNat*3)).add 1) (ae y) w λw=>St ((p.add (i.toNat*3)).add 2) (ae z) w λw=>
  aK j n (wA a λp=>St ((p.add (j.toNat*3)).add 0) (ae x') w λw=>St ((p.add (j.toNat*3)).add 1) (ae y') w λw=>St ((p.add (j.toNat*3)).add 2) (ae z') w λw=>K w)))) s hj hq ?_
 refine RdS (K:=λx' y' z'=>aK i n (wA a λp=>St ((p.add (i.toNat*3)).add 0) (ae d[q]!.c) w λw=>St ((p.add (i.toNat*3)).add 1) (ae d[q]!.s) w λw=>St ((p.add (i.toNat*3)).add 2) (ae d[q]!.k) w λw=>
  aK j n (wA a λp=>St ((p.add (j.toNat*3)).add 0) (ae x') w λw=>St ((p.add (j.toNat*3)).add 1) (ae y') w λw=>St ((p.add (j.toNat*3)).add 2) (ae z') w λw=>K w))) s hi hp ?_
 refine WrS (K:=λw=>aK j n (wA a λp_1=>St ((p_1.add (j.toNat*3)).add 0) (ae d[p]!.c) w λw=>St ((p_1.add (j.toNat*3)).add 1) (ae d[p]!.s) w λw=>St ((p_1.add (j.toNat*3)).add 2) (ae d[p]!.k) w λw=>K w)) s hi hp λw s=>?_;exact WrS s hj (by grind) h
end
end Go.Proofs.YtmegplnmiepfbaaGreatDoor.S
namespace Go.Proofs.YtmegplnmiepfbaaGreatDoor.S
open Go.Sx
open Go.Sort (swp insInner insOuter insertionSort siftDown heapBuild heapPop heapSort)
attribute [local irreducible] af cQ bG bp aA cE cw St Bx Al App cV cO cM bZ aQ bI au cj ax ak bg mapA
section
variable {F:Nat->Prop}{W w w0:World}{L:List As}{a:Option Addr}{n c:Nat}{d:Array bh}
def aoj {P1:Option Addr->Nat->Nat->Int->Int->Value->Int->World->Prop}{Q:World->Prop}{lo:Nat}{b:Int}{i:Nat}(hn:n<1000000)(hi:i<1000000)
  (h:∀d' w',d'.size=n->Sep F W w' (c8 a n c d'::L)->(d'=insInner cK lo i d)->P1 a n c lo b iL ((i+1:Nat):Int) w'):
  ∀(j:Nat) (d1:Array bh) (w:World),j<n->insInner cK lo j d1=insInner cK lo i d->Sep F W w (c8 a n c d1::L)->eM P1 Q (j+1) a n c lo b iL i j w:=by
 intro j;induction j with
 |zero=>
  intro d1 w hj he s;show fL P1 Q (eM P1 Q 0) _ _ _ _ _ _ _ _ _;rw[fL,bu,aH];exact h d1 _ (gu s) (ay s) he
 |succ j ih=>
  intro d1 w hj he s;have hsz:=gu s;show fL P1 Q (eM P1 Q (j+1)) _ _ _ _ _ _ _ _ _;unfold fL;rw[insInner]at he;by_cases hl:j+1>lo
  ·rw[bK (show((j+1:Nat):Int)>lo by omega),aH];rw[decide_eq_true hl,Bool.true_and]at he;refine GJ (q:=j) (ay s) rfl (by omega) (by omega) (by omega) λw s=>?_;show cond (cK d1[j+1]! d1[j]!) _ _;by_cases hc:cK d1[j+1]! d1[j]! =true
   ·rw[hc,cond_true];refine DS (q:=j) (ay s) rfl (by omega) (by omega) (by omega) λw s=>?_;grind
   ·rw[Bool.not_eq_true]at hc;rw[hc,cond_false,aH];grind
  ·rw[bu (show¬((j+1:Nat):Int)>lo by omega),aH];rw[decide_eq_false hl,Bool.false_and,if_neg (by decide)]at he;exact h d1 _ hsz (ay s) he
def aok {Q:World->Prop}{lo b:Nat}(hn:n<1000000)(hb:b<=n)(h:∀w',Sep F W w' (c8 a n c (insertionSort cK d lo b)::L)->Q w'):
  ∀(j i:Nat) (d1:Array bh) (w:World),i+j=b+1\/b<i/\j=0->insOuter cK lo b i d1=insertionSort cK d lo b->Sep F W w (c8 a n c d1::L)->eN Q (j+1) a n c lo b iL i w:=by
 intro j;induction j with
 |zero=>
  intro i d1 w hi he s;show fN Q (eN Q 0) _ _ _ _ _ _ _ _;unfold fN;rw[insOuter,fR]at he;grind
 |succ j ih=>
  intro i d1 w hi he s;show fN Q (eN Q (j+1)) _ _ _ _ _ _ _ _;unfold fN;rw[insOuter]at he;by_cases hib:i<b
  ·rw[bK];rw[if_pos hib]at he;refine⟨i+1,aoj hn (by omega) (λd' w' hs' s' e=>?_) i d1 w (by omega) rfl s⟩;subst e;exact ih (i+1) _ w' (by omega) he s'
  grind
def HA {Q:World->Prop}{lo b:Nat}(s:Sep F W w (c8 a n c d::L))(hn:n<1000000)(hlo:lo<=b)(hb:b<=n)(h:∀w',Sep F W w' (c8 a n c (insertionSort cK d lo b)::L)->Q w'):
  jM a n c lo b iL w Q:=by
 apply zl;rw[aH];exact⟨b-lo+1,aok hn hb h (b-lo) (lo+1) d w (by omega) rfl s⟩
def aol {Q:World->Prop}{hi first:Nat}(hn:n<1000000)(hh:first+hi<=n){d0:Array bh}(h:∀w',Sep F W w' (c8 a n c d0::L)->Q w'):
  ∀(j root:Nat) (d1:Array bh) (w:World),hi<=root+j->root<n->siftDown cK hi first root d1=d0->Sep F W w (c8 a n c d1::L)->eO Q (j+1) a n c hi first iL root w:=by
 intro j;induction j with
 |zero=>
  intro root d1 w hj hr he s;show gS Q (eO Q 0) _ _ _ _ _ _ _ _;rw[gS,aH (n:=2*(root:Int)),aH,bK];rw[siftDown,dif_pos (by omega)]at he;grind
 |succ j ih=>
  intro root d1 w hj hr he s;have hsz:=gu s;show gS Q (eO Q (j+1)) _ _ _ _ _ _ _ _;rw[gS,aH (n:=2*(root:Int)),aH];rw[siftDown]at he;by_cases h1:2*root+1≥hi
  ·grind
  rw[bu,aH,aH,aH];rw[dif_neg h1]at he;have b5:∀(ch:Nat) (w:World),root<ch->ch<hi->Sep F W w (c8 a n c d1::L)->(if(!cK d1[first+root]! d1[first+ch]!)=true then d1 else siftDown cK hi first ch (swp d1 (first+root) (first+ch)))=d0->
    fF (eO Q (j+1)) Q a n c hi first iL root ch w:=λch w aCf hch s he=>by
   rw[fF,aH,aH];refine GJ (p:=first+root) (q:=first+ch) (ay s) (by omega) (by omega) (by omega) (by omega) λw s=>?_;show cond (!cK d1[first+root]! d1[first+ch]!) _ _;by_cases hc:cK d1[first+root]! d1[first+ch]! =true
   ·rw[hc,Bool.not_true,cond_false];refine DS (p:=first+root) (q:=first+ch) (ay s) (by omega) (by omega) (by omega) (by omega) λw s=>?_;grind
   grind
  have e1:(2*(root:Int)+1)=((2*root+1:Nat):Int):=by omega
  have e2:(2*(root:Int)+1+1)=((2*root+2:Nat):Int):=by omega
  rw[e2];by_cases h2:2*root+2<hi
  ·rw[bK (show((2*root+2:Nat):Int)<hi by omega)];refine GJ (p:=first+(2*root+1)) (q:=first+(2*root+1)+1) (ay s) (by omega) (by omega) (by omega) (by omega) λw s=>?_;show cond (cK d1[first+(2*root+1)]! d1[first+(2*root+1)+1]!) _ _;by_cases hc:cK d1[first+(2*root+1)]! d1[first+(2*root+1)+1]! =true
   ·rw[hc,cond_true];apply b5 (2*root+2) w (by omega) h2 s;grind
   ·rw[Bool.not_eq_true]at hc;rw[hc,cond_false,e1];rw[if_neg (by grind)]at he;exact b5 (2*root+1) w (by omega) (by omega) s he
  ·rw[bu (show¬((2*root+2:Nat):Int)<hi by omega),e1];rw[if_neg (by grind)]at he;exact b5 (2*root+1) _ (by omega) (by omega) (ay s) he
def Rj {Q:World->Prop}{lo hi first:Nat}(s:Sep F W w (c8 a n c d::L))(hn:n<1000000)(hh:first+hi<=n)(hlo:lo<n)(h:∀w',Sep F W w' (c8 a n c (siftDown cK hi first lo d)::L)->Q w'):
  iZ a n c lo hi first iL w Q:=by
 apply BF;exact⟨hi+1,aol hn hh h hi lo d w (by omega) hlo rfl s⟩
def aqI {Q:World->Prop}{first:Nat}(hn:n<1000000){d0:Array bh}(h:∀w',Sep F W w' (c8 a n c d0::L)->Q w'):
  ∀(k:Nat) (d1:Array bh) (w:World),first+k<=n->heapPop cK first k d1=d0->Sep F W w (c8 a n c d1::L)->fG Q (k+1) a n c iL first 0 ((k:Int)-1) w:=by
 intro k;induction k with
 |zero=>
  intro d1 w hk he s;show gT Q (fG Q 0) _ _ _ _ _ _ _ _;unfold gT;rw[heapPop]at he;grind
 |succ k ih=>
  intro d1 w hk he s;have hsz:=gu s;show gT Q (fG Q (k+1)) _ _ _ _ _ _ _ _;rw[gT,show((k+1:Nat):Int)-1=(k:Int) by omega,bK,aH,aH];rw[heapPop]at he;refine DS (p:=first) (q:=first+k) (ay s) (by omega) (by omega) (by omega) (by omega) λw s=>?_;refine Rj (lo:=0) s hn (by omega) (by omega) λw s=>?_;grind
def alX {Q:World->Prop}{first hi:Nat}(hn:n<1000000)(hh:first+hi<=n){d0:Array bh}(h:∀w',Sep F W w' (c8 a n c d0::L)->Q w'):
  ∀(k:Nat) (d1:Array bh) (w:World),k<=hi->heapPop cK first hi (heapBuild cK hi first k d1)=d0->Sep F W w (c8 a n c d1::L)->fH Q (k+1) a n c iL first 0 hi ((k:Int)-1) w:=by
 intro k;induction k with
 |zero=>
  intro d1 w hk he s;show gU Q (fH Q 0) _ _ _ _ _ _ _ _ _;rw[gU,bu,aH];exact⟨hi+1,aqI hn h hi d1 w hh he s⟩
 |succ k ih=>
  intro d1 w hk he s;show gU Q (fH Q (k+1)) _ _ _ _ _ _ _ _ _;rw[gU,show((k+1:Nat):Int)-1=(k:Int) by omega,bK,aH];rw[heapBuild]at he;refine Rj s hn hh (by omega) λw s=>?_;grind
def aeb {Q:World->Prop}{lo b:Nat}(s:Sep F W w (c8 a n c d::L))(hn:n<1000000)(hlo:lo<b)(hb:b<=n)(h:∀w',Sep F W w' (c8 a n c (heapSort cK d lo b)::L)->Q w'):
  lQ a n c lo b iL w Q:=by
 apply BG;refine⟨by decide,?_⟩;rw[aH,aH (n:=(b:Int)-lo-1),Int.tdiv_eq_ediv_of_nonneg (by omega),aH,
  show(b:Int)-lo=((b-lo:Nat):Int) by omega]
 have:=alX hn (by omega) h ((b-lo-1)/2+1) d w (by omega) rfl s;grind
end
end Go.Proofs.YtmegplnmiepfbaaGreatDoor.S
namespace Go.Proofs.YtmegplnmiepfbaaGreatDoor.S
open Go.Sx
open Go.Sort (swp scanUp scanDown partLoop partition partEqLoop partitionEqual)
attribute [local irreducible] af cQ bG bp aA cE cw St Bx Al App cV cO cM bZ aQ bI au cj ax ak bg mapA
section
variable {F:Nat->Prop}{W w w0:World}{L:List As}{a:Option Addr}{n c:Nat}{d:Array bh}
def oT {α:Type}(A B:α):(if false=true then A else B)=B:=rfl
def Wv {α:Type}(A B:α):(if true=true then A else B)=A:=rfl
def up_eq (p:bh->Bool)(d:Array bh)(j i:Nat):scanUp p d j i=if(decide (i<=j)&&p d[i]!)=true then scanUp p d j (i+1)else i:=by rw[scanUp]
def down_eq (p:bh->Bool)(d:Array bh)(i j:Nat)(hi:1<=i):scanDown p d i j=if(decide (i<=j)&&p d[j]!)=true then scanDown p d i (j-1)else j:=by
 cases j with
 |zero=>rw[scanDown,decide_eq_false (by omega),Bool.false_and,oT]
 |succ j=>rw[scanDown];rfl
def aom {Q:Int->Bool->World->Prop}{lo:Nat}(hn:n<1000000){R:Nat×Array bh}(h:∀w',R.1<n->Sep F W w' (c8 a n c (swp R.2 R.1 lo)::L)->Q R.1 false w'):
  ∀(f i j:Nat) (d:Array bh) (w:World),j+1<=i+f->lo<i->lo<=j->j<n->i<=n->partLoop cK lo i j d=R->Sep F W w (c8 a n c d::L)->c_ Q (f+1) a n c lo iL i j w:=by
 intro f;induction f with
 |zero=>
  intro i j d w hf hlo hj0 hj hi hR s;have hsz:=gu s;rw[Go.Sort.partLoop_eq]at hR;rw[up_eq,decide_eq_false (by omega),Bool.false_and,oT,down_eq _ _ _ _ (by omega),decide_eq_false (by omega),Bool.false_and,oT,AH]at hR;subst hR;show gx Q (c_ Q 0) _ _ _ _ _ _ _ _;rw[gx,bu];refine⟨1,?_⟩;show eo _ Q (c9 _ Q 0) _ _ _ _ _ _ _ _;rw[eo,bu];rw[fe,bK];exact DS (ay (ay (ay s))) rfl (by omega) rfl (by omega) λw s=>h w hj s
 |succ f ih=>
  intro i j d w hf hlo hj0 hj hi hR s;have hsz:=gu s;show gx Q (c_ Q (f+1)) _ _ _ _ _ _ _ _;unfold gx;rw[Go.Sort.partLoop_eq]at hR;have down:∀(k j':Nat) (w:World),j'=lo+k->j'<=j->Sep F W w (c8 a n c d::L)->
    (if i>scanDown (λx=>!cK x d[lo]!) d i j' then(scanDown (λx=>!cK x d[lo]!) d i j',d)else partLoop cK lo (i+1) (scanDown (λx=>!cK x d[lo]!) d i j'-1) (swp d i (scanDown (λx=>!cK x d[lo]!) d i j')))=R->
    c9 (c_ Q (f+1)) Q (k+1) a n c lo iL i j' w:=by
   have YS:∀(j':Nat) (w:World),lo<=j'->j'<=j->Sep F W w (c8 a n c d::L)->(if i>j' then(j',d)else partLoop cK lo (i+1) (j'-1) (swp d i j'))=R->
     fe (c_ Q (f+1)) Q a n c lo iL i j' w:=λj' w h1 h2 s hR=>by
    unfold fe;by_cases hij:i>j'
    ·rw[if_pos hij]at hR;subst hR;rw[bK];exact DS (ay s) rfl (by omega) rfl (by omega) λw s=>h w (show j'<n by omega) s
    ·rw[if_neg hij]at hR;rw[bu,aH,aH];refine DS (ay s) rfl (by omega) rfl (by omega) λw s=>?_;rw[show(i:Int)+1=((i+1:Nat):Int) by omega,show(j':Int)-1=((j'-1:Nat):Int) by omega];exact ih (i+1) (j'-1) _ w (by omega) (by omega) (by omega) (by omega) (by omega) hR s
   intro k;induction k with
   |zero=>
    intro j' w hk hj' s hR;rw[down_eq _ _ _ _ (by omega),decide_eq_false (by omega),Bool.false_and,oT]at hR;show eo _ Q (c9 _ Q 0) _ _ _ _ _ _ _ _;rw[eo,bu];exact YS j' _ (by omega) hj' (ay s) hR
   |succ k ih2=>
    intro j' w hk hj' s hR;rw[down_eq _ _ _ _ (by omega)]at hR;show eo _ Q (c9 _ Q (k+1)) _ _ _ _ _ _ _ _;unfold eo;by_cases hij:i<=j'
    ·rw[bK];refine GJ (ay s) rfl (by omega) rfl (by omega) λw s=>?_;show cond (!cK d[j']! d[lo]!) _ _;rw[decide_eq_true hij,Bool.true_and]at hR;cases hc:cK d[j']! d[lo]! with
     |false=>
      rw[Bool.not_false,cond_true,aH,show(j':Int)-1=((j'-1:Nat):Int) by omega];grind
     |true=>
      grind
    ·rw[bu];rw[decide_eq_false hij,Bool.false_and,oT]at hR;exact YS j' _ (by omega) hj' (ay s) hR
  by_cases hij:i<=j
  ·rw[bK];refine GJ (ay s) rfl (by omega) rfl (by omega) λw s=>?_;show cond (cK d[i]! d[lo]!) _ _;cases hc:cK d[i]! d[lo]! with
   |true=>
    rw[cond_true,aH];rw[up_eq,hc,decide_eq_true hij,Bool.true_and,Wv,<-Go.Sort.partLoop_eq]at hR;exact ih (i+1) j d w (by omega) (by omega) hj0 hj (by omega) hR s
   |false=>
    rw[up_eq,hc,Bool.and_false,oT]at hR;exact⟨j-lo+1,down (j-lo) j w (by omega) (Nat.le_refl _) s hR⟩
  ·rw[bu];rw[up_eq,decide_eq_false hij,Bool.false_and,oT]at hR;exact⟨j-lo+1,down (j-lo) j _ (by omega) (Nat.le_refl _) (ay s) hR⟩
def ab7 {Q:Int->Bool->World->Prop}{lo b pv:Nat}(s:Sep F W w (c8 a n c d::L))(hn:n<1000000)(hlo:lo<=pv/\pv<b)(hb:b<=n)
  (h:∀w',Sep F W w' (c8 a n c (partition cK d lo b pv).2.2::L)->Q (partition cK d lo b pv).1 (partition cK d lo b pv).2.1 w'):
  lA a n c lo b pv iL w Q:=by
 apply A9;have hsz:=gu s;refine DS (ay s) rfl (by omega) rfl (by omega) λw s=>?_;rw[aH,aH];unfold partition at h;simp only at h;generalize swp d lo pv=d1 at h s;have hsz:=gu s;have b7:∀(i j':Nat) (w:World),lo<i->i<=b->lo<=j'->j'<b->scanUp (λx=>cK x d1[lo]!) d1 (b-1) (lo+1)=i->scanDown (λx=>!cK x d1[lo]!) d1 i (b-1)=j'->Sep F W w (c8 a n c d1::L)->
   gF Q a n c lo iL i j' w:=λi j' w h1 h1' h2 h3 hI hJ s=>by
  rw[hI,hJ]at h;unfold gF;by_cases hij:i>j'
  ·rw[bK];rw[if_pos hij]at h;exact DS (ay s) rfl (by omega) rfl (by omega) λw s=>h w s
  ·rw[bu,aH,aH];rw[if_neg hij]at h;refine DS (ay s) rfl (by omega) rfl (by omega) λw s=>?_;rw[show(i:Int)+1=((i+1:Nat):Int) by omega,show(j':Int)-1=((j'-1:Nat):Int) by omega];exact⟨j'+1,aom hn (λw' _ s=>h w' s) j' (i+1) (j'-1) _ w (by omega) (by omega) (by omega) (by omega) (by omega) rfl s⟩
 have b5:∀(i:Nat),lo<i->i<=b->scanUp (λx=>cK x d1[lo]!) d1 (b-1) (lo+1)=i->∀(k j':Nat) (w:World),j'=lo+k->j'<b->scanDown (λx=>!cK x d1[lo]!) d1 i (b-1)=scanDown (λx=>!cK x d1[lo]!) d1 i j'->Sep F W w (c8 a n c d1::L)->
   dA Q (k+1) a n c lo iL i j' w:=λi h1 h1' hI k=>by
  induction k with
  |zero=>
   intro j' w hk hj' hJ s;rw[down_eq _ _ _ j' (by omega),decide_eq_false (by omega),Bool.false_and,oT]at hJ;show gG Q (dA Q 0) _ _ _ _ _ _ _ _;rw[gG,bu];exact b7 i j' _ h1 h1' (by omega) hj' hI hJ (ay s)
  |succ k ih2=>
   intro j' w hk hj' hJ s;rw[down_eq _ _ _ j' (by omega)]at hJ;show gG Q (dA Q (k+1)) _ _ _ _ _ _ _ _;unfold gG;by_cases hij:i<=j'
   ·rw[bK];refine GJ (ay s) rfl (by omega) rfl (by omega) λw s=>?_;show cond (!cK d1[j']! d1[lo]!) _ _;rw[decide_eq_true hij,Bool.true_and]at hJ;cases hc:cK d1[j']! d1[lo]! with
    |false=>
     rw[Bool.not_false,cond_true,aH,show(j':Int)-1=((j'-1:Nat):Int) by omega];grind
    |true=>
     grind
   ·rw[bu];rw[decide_eq_false hij,Bool.false_and,oT]at hJ;exact b7 i j' _ h1 h1' (by omega) hj' hI hJ (ay s)
 have b3:∀(k i:Nat) (w:World),i+k=b->lo<i->scanUp (λx=>cK x d1[lo]!) d1 (b-1) (lo+1)=scanUp (λx=>cK x d1[lo]!) d1 (b-1) i->Sep F W w (c8 a n c d1::L)->
   fk Q (k+1) a n c lo iL i ((b-1:Nat):Int) w:=λk=>by
  have go5:∀(i:Nat) (w:World),lo<i->i<=b->scanUp (λx=>cK x d1[lo]!) d1 (b-1) (lo+1)=i->Sep F W w (c8 a n c d1::L)->∃k',dA Q k' a n c lo iL i ((b-1:Nat):Int) w:=
   λi w h1 h2 hI s=>⟨b-1-lo+1,b5 i h1 h2 hI (b-1-lo) (b-1) w (by omega) (by omega) rfl s⟩
  induction k with
  |zero=>
   intro i w hk hi hI s;rw[up_eq _ _ _ i,decide_eq_false (by omega),Bool.false_and,oT]at hI;show gH Q (fk Q 0) _ _ _ _ _ _ _ _;rw[gH,bu];exact go5 i _ hi (by omega) hI (ay s)
  |succ k ih2=>
   intro i w hk hi hI s;rw[up_eq _ _ _ i]at hI;show gH Q (fk Q (k+1)) _ _ _ _ _ _ _ _;rw[gH,bK];refine GJ (ay s) rfl (by omega) rfl (by omega) λw s=>?_;show cond (cK d1[i]! d1[lo]!) _ _;rw[decide_eq_true (show i<=b-1 by omega),Bool.true_and]at hI;cases hc:cK d1[i]! d1[lo]! with
   |true=>
    rw[hc,Wv]at hI;rw[cond_true,aH];exact ih2 (i+1) w (by omega) (by omega) hI s
   |false=>
    grind
 have:=b3 (b-(lo+1)) (lo+1) w (by omega) (by omega) rfl s;grind
def ake {Q:Int->World->Prop}{lo:Nat}(hn:n<1000000){R:Nat×Array bh}(h:∀w',R.1<=n->Sep F W w' (c8 a n c R.2::L)->Q R.1 w'):
  ∀(f i j:Nat) (d:Array bh) (w:World),j+1<=i+f->lo<i->lo<=j->j<n->i<=n->partEqLoop cK lo i j d=R->Sep F W w (c8 a n c d::L)->cH Q (f+1) a n c lo iL i j w:=by
 intro f;induction f with
 |zero=>
  intro i j d w hf hlo hj0 hj hi hR s;have hsz:=gu s;rw[Go.Sort.partEqLoop_eq]at hR;rw[up_eq,decide_eq_false (by omega),Bool.false_and,oT,down_eq _ _ _ _ (by omega),decide_eq_false (by omega),Bool.false_and,oT,AH]at hR;subst hR;show fE Q (cH Q 0) _ _ _ _ _ _ _ _;rw[fE,bu];refine⟨1,?_⟩;show dx _ Q (cG _ Q 0) _ _ _ _ _ _ _ _;rw[dx,bu];rw[eF,bK];exact h _ hi (ay (ay s))
 |succ f ih=>
  intro i j d w hf hlo hj0 hj hi hR s;have hsz:=gu s;show fE Q (cH Q (f+1)) _ _ _ _ _ _ _ _;unfold fE;rw[Go.Sort.partEqLoop_eq]at hR;have down:∀(k j':Nat) (w:World),j'=lo+k->j'<=j->Sep F W w (c8 a n c d::L)->
    (if i>scanDown (λx=>cK d[lo]! x) d i j' then(i,d)else partEqLoop cK lo (i+1) (scanDown (λx=>cK d[lo]! x) d i j'-1) (swp d i (scanDown (λx=>cK d[lo]! x) d i j')))=R->
    cG (cH Q (f+1)) Q (k+1) a n c lo iL i j' w:=by
   have b7:∀(j':Nat) (w:World),lo<=j'->j'<=j->Sep F W w (c8 a n c d::L)->(if i>j' then(i,d)else partEqLoop cK lo (i+1) (j'-1) (swp d i j'))=R->
     eF (cH Q (f+1)) Q a n c lo iL i j' w:=λj' w h1 h2 s hR=>by
    unfold eF;by_cases hij:i>j'
    ·grind
    ·rw[if_neg hij]at hR;rw[bu,aH,aH];refine DS (ay s) rfl (by omega) rfl (by omega) λw s=>?_;rw[show(i:Int)+1=((i+1:Nat):Int) by omega,show(j':Int)-1=((j'-1:Nat):Int) by omega];exact ih (i+1) (j'-1) _ w (by omega) (by omega) (by omega) (by omega) (by omega) hR s
   intro k;induction k with
   |zero=>
    intro j' w hk hj' s hR;rw[down_eq _ _ _ _ (by omega),decide_eq_false (by omega),Bool.false_and,oT]at hR;show dx _ Q (cG _ Q 0) _ _ _ _ _ _ _ _;rw[dx,bu];exact b7 j' _ (by omega) hj' (ay s) hR
   |succ k ih2=>
    intro j' w hk hj' s hR;rw[down_eq _ _ _ _ (by omega)]at hR;show dx _ Q (cG _ Q (k+1)) _ _ _ _ _ _ _ _;unfold dx;by_cases hij:i<=j'
    ·rw[bK];refine GJ (ay s) rfl (by omega) rfl (by omega) λw s=>?_;show cond (cK d[lo]! d[j']!) _ _;rw[decide_eq_true hij,Bool.true_and]at hR;cases hc:cK d[lo]! d[j']! with
     |true=>
      rw[cond_true,aH,show(j':Int)-1=((j'-1:Nat):Int) by omega];grind
     |false=>
      grind
    ·rw[bu];rw[decide_eq_false hij,Bool.false_and,oT]at hR;exact b7 j' _ (by omega) hj' (ay s) hR
  by_cases hij:i<=j
  ·rw[bK];refine GJ (ay s) rfl (by omega) rfl (by omega) λw s=>?_;show cond (!cK d[lo]! d[i]!) _ _;cases hc:cK d[lo]! d[i]! with
   |false=>
    rw[Bool.not_false,cond_true,aH];rw[up_eq,hc,decide_eq_true hij,Bool.true_and,Bool.not_false,Wv,<-Go.Sort.partEqLoop_eq]at hR;exact ih (i+1) j d w (by omega) (by omega) hj0 hj (by omega) hR s
   |true=>
    rw[up_eq,hc,Bool.not_true,Bool.and_false,oT]at hR;exact⟨j-lo+1,down (j-lo) j w (by omega) (Nat.le_refl _) s hR⟩
  ·rw[bu];rw[up_eq,decide_eq_false hij,Bool.false_and,oT]at hR;exact⟨j-lo+1,down (j-lo) j _ (by omega) (Nat.le_refl _) (ay s) hR⟩
def S8 {Q:Int->World->Prop}{lo b pv:Nat}(s:Sep F W w (c8 a n c d::L))(hn:n<1000000)(hlo:lo<=pv/\pv<b)(hb:b<=n)
  (h:∀w',Sep F W w' (c8 a n c (partitionEqual cK d lo b pv).2::L)->Q (partitionEqual cK d lo b pv).1 w'):
  jD a n c lo b pv iL w Q:=by
 apply yo;have hsz:=gu s;refine DS (ay s) rfl (by omega) rfl (by omega) λw s=>?_;rw[aH,aH,show(b:Int)-1=((b-1:Nat):Int) by omega];exact⟨b+1,ake hn (λw' _ s=>h w' s) b (lo+1) (b-1) _ w (by omega) (by omega) (by omega) (by omega) (by omega) rfl s⟩
end
end Go.Proofs.YtmegplnmiepfbaaGreatDoor.S
namespace Go.Proofs.YtmegplnmiepfbaaGreatDoor.S
open Go.Sx
open Go.Sort (swp scanSorted shiftDown shiftUp partialIns partialInsertionSort PermIn)
attribute [local irreducible] af cQ bG bp aA cE cw St Bx Al App cV cO cM bZ aQ bI au cj ax ak bg mapA
section
variable {F:Nat->Prop}{W w w0:World}{L:List As}{a:Option Addr}{n c:Nat}{d:Array bh}
def aqJ {Q:Bool->World->Prop}{lo b:Nat}(hn:n<1000000)(hb:b<=n)(hlo:lo<b){R:Array bh×Bool}(h:∀w',Sep F W w' (c8 a n c R.1::L)->Q R.2 w'):
  ∀(f i:Nat) (d:Array bh) (w:World),f<=5->lo<i->i<=b->partialIns cK lo b f i d=R->Sep F W w (c8 a n c d::L)->bt Q (f+1) a n c lo b iL i (5-f:Int) w:=by
 intro f;induction f with
 |zero=>
  intro i d w hf hi hib hR s;rw[partialIns]at hR;subst hR;show eK Q (bt Q 0) _ _ _ _ _ _ _ _ _;unfold eK;grind
 |succ f ih=>
  intro i d w hf hi hib hR s;show eK Q (bt Q (f+1)) _ _ _ _ _ _ _ _ _;rw[eK,bK];have next:∀(i:Nat) (d:Array bh) (w:World),lo<i->i<=b->partialIns cK lo b f i d=R->Sep F W w (c8 a n c d::L)->bt Q (f+1) a n c lo b iL i (IntKind.wrap .i64 ((5-(f+1:Nat):Int)+1)) w:=λi d w h1 h2 h3 s=>by rw[aH,show(5-(f+1:Nat):Int)+1=5-f by omega];grind
  have up:∀(i:Nat) (d':Array bh),lo<i->i<=b->partialIns cK lo b f i d'=R->∀(k j:Nat) (d:Array bh) (w:World),j+k=b->lo<j->shiftUp cK b j d=d'->Sep F W w (c8 a n c d::L)->
    cW (bt Q (f+1)) Q (k+1) a n c lo b iL i (5-(f+1:Nat):Int) j w:=by
   intro i d' h1 h2 h3 k;induction k with
   |zero=>
    intro j d w hj hj0 hS s;rw[shiftUp,fR]at hS;subst hS;show eB _ Q (cW _ Q 0) _ _ _ _ _ _ _ _ _ _;unfold eB;grind
   |succ k ih2=>
    intro j d w hj hj0 hS s;have hsz:=gu s;rw[shiftUp,AH]at hS;show eB _ Q (cW _ Q (k+1)) _ _ _ _ _ _ _ _ _ _;rw[eB,bK,aH];refine GJ (q:=j-1) (ay s) rfl (by omega) (by omega) (by omega) λw s=>?_;show cond (!cK d[j]! d[j-1]!) _ _;cases hc:cK d[j]! d[j-1]! with
    |false=>
     grind
    |true=>
     rw[hc,Bool.not_true,oT]at hS;rw[Bool.not_true,cond_false,aH];refine DS (q:=j-1) (ay s) rfl (by omega) (by omega) (by omega) λw s=>?_;exact ih2 (j+1) _ w (by omega) (by omega) hS s
  have b18:∀(i:Nat) (d:Array bh) (w:World),lo<i->i<b->partialIns cK lo b f i (if b-i≥2 then shiftUp cK b (i+1) d else d)=R->Sep F W w (c8 a n c d::L)->
    cY (bt Q (f+1)) Q a n c lo b iL i (5-(f+1:Nat):Int) w:=λi d w h1 h2 h3 s=>by
   rw[cY,aH];by_cases h4:b-i≥2
   ·rw[if_pos h4]at h3;rw[bK,aH];exact⟨_,up i _ h1 (by omega) h3 (b-(i+1)) (i+1) d w (by omega) (by omega) rfl s⟩
   ·rw[if_neg h4]at h3;rw[bu];exact next i d _ h1 (by omega) h3 s
  have down:∀(i:Nat) (d':Array bh),lo<i->i<b->partialIns cK lo b f i (if b-i≥2 then shiftUp cK b (i+1) d' else d')=R->∀(j:Nat) (d:Array bh) (w:World),j<b->shiftDown cK j d=d'->Sep F W w (c8 a n c d::L)->
    cZ (bt Q (f+1)) Q (j+1) a n c lo b iL i (5-(f+1:Nat):Int) j w:=by
   intro i d' h1 h2 h3 j;induction j with
   |zero=>
    intro d w hj hS s;subst hS;show eC _ Q (cZ _ Q 0) _ _ _ _ _ _ _ _ _ _;unfold eC;exact b18 i d _ h1 h2 h3 s
   |succ j ih2=>
    intro d w hj hS s;have hsz:=gu s;rw[shiftDown]at hS;show eC _ Q (cZ _ Q (j+1)) _ _ _ _ _ _ _ _ _ _;rw[eC,bK,aH];refine GJ (q:=j) (ay s) rfl (by omega) (by omega) (by omega) λw s=>?_;show cond (!cK d[j+1]! d[j]!) _ _;cases hc:cK d[j+1]! d[j]! with
    |false=>
     rw[hc,Bool.not_false,Wv]at hS;subst hS;exact b18 i d w h1 h2 h3 s
    |true=>
     rw[hc,Bool.not_true,oT]at hS;rw[Bool.not_true,cond_false,show((j+1:Nat):Int)-1=(j:Int) by omega];refine DS (q:=j) (ay s) rfl (by omega) (by omega) (by omega) λw s=>?_;exact ih2 _ w (by omega) hS s
  have scan:∀(k i:Nat) (w:World),i+k=b->lo<i->Sep F W w (c8 a n c d::L)->(if scanSorted cK d b i=b then(d,true)else if b-lo<50 then(d,false)else
     partialIns cK lo b f (scanSorted cK d b i) (if b-scanSorted cK d b i≥2 then shiftUp cK b (scanSorted cK d b i+1) (if scanSorted cK d b i-lo≥2 then shiftDown cK (scanSorted cK d b i-1) (swp d (scanSorted cK d b i) (scanSorted cK d b i-1))else swp d (scanSorted cK d b i) (scanSorted cK d b i-1))
      else(if scanSorted cK d b i-lo≥2 then shiftDown cK (scanSorted cK d b i-1) (swp d (scanSorted cK d b i) (scanSorted cK d b i-1))else swp d (scanSorted cK d b i) (scanSorted cK d b i-1))))=R->
    dh (bt Q (f+1)) Q (k+1) a n c lo b iL i (5-(f+1:Nat):Int) w:=by
   have b7:∀(i:Nat) (w:World),lo<i->i<=b->Sep F W w (c8 a n c d::L)->(if i=b then(d,true)else if b-lo<50 then(d,false)else
     partialIns cK lo b f i (if b-i≥2 then shiftUp cK b (i+1) (if i-lo≥2 then shiftDown cK (i-1) (swp d i (i-1))else swp d i (i-1))else(if i-lo≥2 then shiftDown cK (i-1) (swp d i (i-1))else swp d i (i-1))))=R->
     eI (bt Q (f+1)) Q a n c lo b iL i (5-(f+1:Nat):Int) w:=λi w h1 h2 s hR=>by
    have hsz:=gu s;unfold eI;by_cases h3:i=b
    ·rw[if_pos h3]at hR;subst hR;rw[d_ (by omega),cond_true];exact h _ s
    ·rw[if_neg h3]at hR;rw[cN (by omega),cond_false,aH];by_cases h4:b-lo<50
     ·rw[if_pos h4]at hR;subst hR;rw[bK];exact h _ s
     ·rw[if_neg h4]at hR;rw[bu,aH,aH];refine DS (q:=i-1) (ay s) rfl (by omega) (by omega) (by omega) λw s=>?_;by_cases h5:i-lo≥2
      ·rw[if_pos h5]at hR;rw[bK,show(i:Int)-1=((i-1:Nat):Int) by omega];exact⟨_,down i _ h1 (by omega) hR (i-1) _ w (by omega) rfl s⟩
      ·rw[if_neg h5]at hR;rw[bu];exact b18 i _ w h1 (by omega) hR s
   intro k;induction k with
   |zero=>
    intro i w hk hi s hR;rw[scanSorted,decide_eq_false (by omega),Bool.false_and,oT]at hR;show eJ _ Q (dh _ Q 0) _ _ _ _ _ _ _ _ _;rw[eJ,bu];exact b7 i _ hi (by omega) (ay s) hR
   |succ k ih2=>
    intro i w hk hi s hR;have hsz:=gu s;rw[scanSorted,decide_eq_true (by omega),Bool.true_and]at hR;show eJ _ Q (dh _ Q (k+1)) _ _ _ _ _ _ _ _ _;rw[eJ,bK,aH];refine GJ (q:=i-1) (ay s) rfl (by omega) (by omega) (by omega) λw s=>?_;show cond (!cK d[i]! d[i-1]!) _ _;cases hc:cK d[i]! d[i-1]! with
    |false=>
     rw[hc,Bool.not_false,Wv]at hR;rw[Bool.not_false,cond_true,aH];exact ih2 (i+1) w (by omega) (by omega) s hR
    |true=>
     rw[hc,Bool.not_true,oT]at hR;exact b7 i w hi (by omega) s hR
  exact⟨_,scan (b-i) i w (by omega) hi s hR⟩
def aag {Q:Bool->World->Prop}{lo b:Nat}(s:Sep F W w (c8 a n c d::L))(hn:n<1000000)(hlo:lo<b)(hb:b<=n)(h:∀w',Sep F W w' (c8 a n c (partialInsertionSort cK d lo b).1::L)->Q (partialInsertionSort cK d lo b).2 w'):
  iC a n c lo b iL w Q:=by
 apply uR;rw[aH];exact⟨_,aqJ hn hb hlo h 5 (lo+1) d w (by decide) (by omega) (by omega) rfl s⟩
def ak0 {lo b i j:Nat}{d d':Array bh}(h:PermIn lo b d d')(hb:b<=d'.size)(hi:lo<=i/\i<b)(hj:lo<=j/\j<b):PermIn lo b d (swp d' i j):=
 Go.Sort.permIn_trans _ _ _ _ _ h (Go.Sort.swp_permIn _ _ _ _ _ hi.1 hi.2 hj.1 hj.2 hb)
def agP {Q:World->Prop}{lo b:Nat}(s:Sep F W w (c8 a n c d::L))(hn:n<1000000)(hlo:lo<b)(hb:b<=n)(h:∀d' w',PermIn lo b d d'->Sep F W w' (c8 a n c d'::L)->Q w'):
  j8 a n c lo b iL w Q:=by
 apply zM;rw[aH];have loop:∀(k i j:Nat) (d':Array bh) (w:World),j<=i+k->lo<=i->j<b->i<=b->PermIn lo b d d'->Sep F W w (c8 a n c d'::L)->eU Q (k+1) a n c i j w:=by
  intro k;induction k with
  |zero=>
   intro i j d' w hk hi hj hib hp s;show fU Q (eU Q 0) _ _ _ _ _ _;unfold fU;grind
  |succ k ih=>
   intro i j d' w hk hi hj hib hp s;have hsz:=gu s;show fU Q (eU Q (k+1)) _ _ _ _ _ _;unfold fU;by_cases hij:i<j
   ·rw[bK,aH,aH];refine DS (ay s) rfl (by omega) rfl (by omega) λw s=>?_;rw[show(j:Int)-1=((j-1:Nat):Int) by omega];exact ih (i+1) (j-1) _ w (by omega) (by omega) (by omega) (by omega) (ak0 hp (by omega) (by omega) (by omega)) s
   grind
 have:=loop b lo (b-1) d w (by omega) (Nat.le_refl _) (by omega) (by omega) (Go.Sort.permIn_refl _ _ _) s;grind
def L8 {Q:Int->Int->World->Prop}{i j sp:Nat}{k:Int}{t:TypeId}(s:Sep F W w (c8 a n c d::ax sp t [ae k]::L))(hi:i<n)(hj:j<n)
  (h:∀(x y:Nat) k' w',(x=i/\y=j\/x=j/\y=i)->Sep F W w' (c8 a n c d::ax sp t [ae k']::L)->Q x y w'):gR a n c i j (sZ sp) iL w Q:=by
 apply C2;have hsz:=gu s;refine GJ (ay s) rfl (by omega) rfl (by omega) λw s=>?_;cases hc:decide (ait d[j]! d[i]! <0)with
 |true=>
  rw[cond_true];refine ah (lI s 1 rfl (ah ?_));refine sT s 1 rfl λw s=>?_;grind
 |false=>
  grind
def Ww {Q:Int->World->Prop}{i j l sp:Nat}{k:Int}{t:TypeId}(s:Sep F W w (c8 a n c d::ax sp t [ae k]::L))(hi:i<n)(hj:j<n)(hl:l<n)
  (h:∀(x:Nat) k' w',(x=i\/x=j\/x=l)->Sep F W w' (c8 a n c d::ax sp t [ae k']::L)->Q x w'):jx a n c i j l (sZ sp) iL w Q:=by
 apply C3;refine L8 s hi hj λx y k w e s=>?_;refine L8 s (show y<n by omega) hl λx' y' k w e' s=>?_;refine L8 s (show x<n by omega) (show x'<n by omega) λx2 y2 k w e2 s=>?_;grind
def GK {Q:Int->World->Prop}{i sp:Nat}{k:Int}{t:TypeId}(s:Sep F W w (c8 a n c d::ax sp t [ae k]::L))(hn:n<1000000)(hi:1<=i/\i+1<n)
  (h:∀(x:Nat) k' w',(i<=x+1/\x<=i+1)->Sep F W w' (c8 a n c d::ax sp t [ae k']::L)->Q x w'):ff a n c i (sZ sp) iL w Q:=by
 apply ym;rw[aH,aH,show(i:Int)-1=((i-1:Nat):Int) by omega,show(i:Int)+1=((i+1:Nat):Int) by omega];exact Ww s (by omega) (by omega) (by omega) λx k w e s=>h x k w (by omega) s
def Yt {Q:Int->Int->World->Prop}{lo b:Nat}(s:Sep F W w (c8 a n c d::L))(hn:n<1000000)(hlo:lo<b)(hb:b<=n)
  (h:∀(x:Nat) (hint:Int) w',lo<=x/\x<b->Sep F W w' (c8 a n c d::L)->Q x hint w'):kH a n c lo b iL w Q:=by
 apply Am;refine aT s λsp w s=>⟨by decide,by decide,by decide,?_⟩;have s:=jr s;have b12:∀(x:Nat) (k:Int) (w:World),lo<=x/\x<b->Sep F W w (c8 a n c d::ax sp 3 [ae k]::L)->iE Q (aZ sp) x w:=λx k w hx s=>by apply lI s 1 rfl;have s':Sep F W w (c8 a n c d::L):=gj s (List.Sublist.cons_cons _ (List.sublist_cons_self _ _));grind
 have b11:∀(i j l:Nat) (k:Int) (w:World),lo<=i/\i<b->lo<=j/\j<b->lo<=l/\l<b->Sep F W w (c8 a n c d::ax sp 3 [ae k]::L)->iF Q a n c iL (aZ sp) i j l w:=λi j l k w hi hj hl s=>by exact Ww s (by omega) (by omega) (by omega) λx k w e s=>b12 x k w (by omega) s
 rw[aH,Int.tdiv_eq_ediv_of_nonneg (by omega),aH (n:=((b:Int)-lo)/4),
  aH (n:=((b:Int)-lo)/4*1),aH (n:=((b:Int)-lo)/4*2),aH (n:=((b:Int)-lo)/4*3),
  aH,aH,aH]
 have e1:(lo:Int)+((b:Int)-lo)/4*1=((lo+(b-lo)/4*1:Nat):Int):=by omega
 have e2:(lo:Int)+((b:Int)-lo)/4*2=((lo+(b-lo)/4*2:Nat):Int):=by omega
 have e3:(lo:Int)+((b:Int)-lo)/4*3=((lo+(b-lo)/4*3:Nat):Int):=by omega
 rw[e1,e2,e3];by_cases h8:b-lo≥8
 ·rw[bK (show(b:Int)-lo≥8 by omega)];by_cases h50:b-lo≥50
  ·rw[bK (show(b:Int)-lo≥50 by omega)];refine GK s hn (by omega) λx k w e s=>?_;refine GK s hn (by omega) λy k w e' s=>?_;refine GK s hn (by omega) λz k w e2 s=>?_;grind
  ·rw[bu (show¬(b:Int)-lo≥50 by omega)];exact b11 _ _ _ _ w (by omega) (by omega) (by omega) s
 ·rw[bu (show¬(b:Int)-lo≥8 by omega)];exact b12 _ _ w (by omega) s
end
end Go.Proofs.YtmegplnmiepfbaaGreatDoor.S
namespace Go.Proofs.YtmegplnmiepfbaaGreatDoor.S
open Go.Sx
open Go.Sort (swp PermIn SortedIn Below)
attribute [local irreducible] af cQ bG bp aA cE cw St Bx Al App cV cO cM bZ aQ bI au cj ax ak bg mapA
section
variable {F:Nat->Prop}{W w w0:World}{L:List As}{a:Option Addr}{n c:Nat}{d:Array bh}
def alZ (T:ByteArray):Bool:=(List.range 256).all λx=>decide (0<=sb T x/\sb T x<=8/\(x:Int)<2^(sb T x).toNat/\(1<=x->(2:Int)^(sb T x).toNat<=2*x))
def ayF:∃T:ByteArray,T.size=256/\alZ T=true/\∀Q x k w,uo Q x k w=(aK (IntKind.wrap .u8 x) T.size<|Q (IntKind.wrap .i64 (k+IntKind.wrap .i64 (sb T (IntKind.wrap .u8 x).toNat))) w):=by
 refine⟨_,?_,?_,λ_ _ _ _=>rfl⟩
 ·kernel_rfl
 ·kernel_rfl
def ak1 {T:ByteArray}(h2:alZ T=true){x:Nat}(hx:x<256):0<=sb T x/\sb T x<=8/\(x:Int)<2^(sb T x).toNat/\(1<=x->(2:Int)^(sb T x).toNat<=2*x):=by unfold alZ at h2;grind
def Rk {x:Nat}{Q:Int->World->Prop}(hx:x<65536)(h:∀v:Nat,v<=16->(x:Int)<2^v->(8<=x->(2:Int)^v<=2*x)->Q v w):vH x w Q:=by
 apply UG;apply Qw;unfold vN vM;rw[bu,bu];obtain⟨T,h1,h2,h3⟩:=ayF;by_cases hs:x<256
 ·rw[bu,h3,h1,wrap_u8' x,Int.emod_eq_of_lt (by omega) (by omega)];refine⟨by omega,by omega,?_⟩;obtain⟨a1,a2,a3,a4⟩:=ak1 h2 hs;rw[Int.toNat_natCast,aH (n:=sb T x),aH,Int.zero_add];grind
 ·rw[bK];refine⟨by decide,?_⟩;have e:o_ .u64 (x:Int) 8=((x/256:Nat):Int):=by rw[o_,show(2:Int)^(min (8:Int).toNat (IntKind.u64).bits)=256 from rfl,Int.fdiv_eq_ediv_of_nonneg _ (by decide)];omega
  rw[e,wrap_i64 (by decide) (by decide),h3,h1,wrap_u8' ((x/256:Nat):Int),Int.emod_eq_of_lt (by omega) (by omega)];refine⟨by omega,by omega,?_⟩;obtain⟨a1,a2,a3,a4⟩:=ak1 h2 (x:=x/256) (by omega);rw[Int.toNat_natCast,aH (n:=sb T (x/256)),aH];have e2:(2:Int)^(8+(sb T (x/256)).toNat)=256*2^(sb T (x/256)).toNat:=by grind
  grind
def auW {x m:Int}(hm:0<=m/\m<1000000):0<=BK .u64 x m/\BK .u64 x m<=m:=by
 unfold BK;have h1:(BitVec.ofInt 64 x&&&BitVec.ofInt 64 m).toNat<=m.toNat:=by apply Nat.le_trans Nat.and_le_right;grind
 have h1:(BitVec.ofInt (IntKind.u64).bits x&&&BitVec.ofInt (IntKind.u64).bits m).toNat<=m.toNat:=h1;rw[ku (by omega)];omega
def aec {Q:Int->World->Prop}{sp:Nat}{k:Int}{t:TypeId}(s:Sep F W w (c8 a n c d::ax sp t [.int .u64 k]::L))
  (h:∀r k' w',Sep F W w' (c8 a n c d::ax sp t [.int .u64 k']::L)->Q r w'):sV (sZ sp) w Q:=by
 apply JO;refine ah (lI s 1 rfl (ah (lI s 1 rfl ⟨by decide,ah ?_⟩)));refine sT s 1 rfl λw s=>?_;refine ah (lI s 1 rfl (ah (lI s 1 rfl ⟨by decide,ah ?_⟩)));refine sT s 1 rfl λw s=>?_;refine ah (lI s 1 rfl (ah (lI s 1 rfl ⟨by decide,ah ?_⟩)));refine sT s 1 rfl λw s=>?_;refine ah (lI s 1 rfl ?_);grind
def aiG {Q:World->Prop}{lo b:Nat}(s:Sep F W w (c8 a n c d::L))(hn:n<2000)(hlo:lo<b)(hb:b<=n)(h:∀d' w',PermIn lo b d d'->Sep F W w' (c8 a n c d'::L)->Q w'):
  jN a n c lo b iL w Q:=by
 apply zm;rw[aH];by_cases h8:b-lo≥8
 ·rw[bK (show(b:Int)-lo≥8 by omega)];refine aT s λsp w s=>?_;refine av s (i:=0) rfl rfl rfl λw s=>?_;have s:=jr s;apply I9;rw[ku (by omega),show(b:Int)-lo=((b-lo:Nat):Int) by omega];refine Rk (by omega) λv hv h1 h2=>⟨by omega,by decide,?_⟩;have h2:=h2 h8;have hsh:BL .u64 1 (v:Int)=(2:Int)^v:=by rw[BL,Int.toNat_natCast,Int.one_mul,show min v (IntKind.u64).bits=v by simp[IntKind.bits];omega];exact ku (by omega)
  rw[hsh];generalize (2:Int)^v=M at h1 h2;rw[Int.tdiv_eq_ediv_of_nonneg (by omega),aH (n:=((b-lo:Nat):Int)/4),aH (n:=((b-lo:Nat):Int)/4*2),aH (n:=(lo:Int)+((b-lo:Nat):Int)/4*2),
   aH]
  have loop:∀(k idx:Nat) (d':Array bh) (r:Int) (t:TypeId) (w:World),idx+k=lo+(b-lo)/4*2+2->lo<=idx->PermIn lo b d d'->Sep F W w (c8 a n c d'::ax sp t [.int .u64 r]::L)->
    dG Q (k+1) a n c lo ((b-lo:Nat):Int) (aZ sp) M idx w:=by
   intro k;induction k with
   |zero=>
    intro idx d' r t w hk hi hp s;show kI Q (dG Q 0) _ _ _ _ _ _ _ _ _;refine⟨by decide,?_⟩;rw[Int.tdiv_eq_ediv_of_nonneg (by omega),aH (n:=((b-lo:Nat):Int)/4),aH (n:=((b-lo:Nat):Int)/4*2),aH (n:=(lo:Int)+((b-lo:Nat):Int)/4*2),
     aH,bu]
    exact h d' w hp (gj s (List.Sublist.cons_cons _ (List.sublist_cons_self _ _)))
   |succ k ih=>
    intro idx d' r t w hk hi hp s;show kI Q (dG Q (k+1)) _ _ _ _ _ _ _ _ _;refine⟨by decide,?_⟩;rw[Int.tdiv_eq_ediv_of_nonneg (by omega),aH (n:=((b-lo:Nat):Int)/4),aH (n:=((b-lo:Nat):Int)/4*2),aH (n:=(lo:Int)+((b-lo:Nat):Int)/4*2),
     aH,bK]
    refine aec s λrr r w s=>?_;have hsz:=gu s;have b10:∀(o:Nat) (w:World),o<b-lo->Sep F W w (c8 a n c d'::ax sp t [.int .u64 r]::L)->fB (dG Q (k+1)) Q a n c lo ((b-lo:Nat):Int) (aZ sp) M idx o w:=λo w ho s=>by rw[fB,aH,aH];refine DS (q:=lo+o) (ay s) rfl (by omega) (by omega) (by omega) λw s=>?_;exact ih (idx+1) _ r t w (by omega) (by omega) (ak0 hp (by omega) (by omega) (by omega)) s
    rw[ku (by omega)];have ha:=auW (x:=rr) (m:=M-1) (by omega);generalize BK .u64 rr (M-1)=q at ha;rw[aH];by_cases hq:q≥((b-lo:Nat):Int)
    ·rw[bK hq,aH];have:=b10 (q-((b-lo:Nat):Int)).toNat w (by omega) s;grind
    ·have:=b10 q.toNat w (by omega) s;grind
  have:=loop 3 (lo+(b-lo)/4*2-1) d _ _ w (by omega) (by omega) (Go.Sort.permIn_refl _ _ _) s;grind
 ·rw[bu (show¬(b:Int)-lo≥8 by omega)];exact h d w (Go.Sort.permIn_refl _ _ _) s
end
end Go.Proofs.YtmegplnmiepfbaaGreatDoor.S
