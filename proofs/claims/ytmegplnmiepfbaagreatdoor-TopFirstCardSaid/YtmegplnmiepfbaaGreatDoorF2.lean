/- Part 3 of the proof. -/
import Derived.Test.YtmegplnmiepfbaaGreatDoorF1
import Derived.Sort.LotA
import Derived.Sort.LotB
import Derived.Sort.LotC
import Derived.Sort.LotD3
set_option linter.unusedVariables false
set_option linter.unusedSimpArgs false
set_option linter.defProp false
set_option maxRecDepth 100000
namespace Go.Proofs.YtmegplnmiepfbaaGreatDoor.S
open Go.Sx
noncomputable def X_:cv:=[(6,sp 0 10 (.op 10 (.op 11 (.op 12 .done))))]
def VV:=λa b c w Q=>bB (BY a b c w Q) (wX a w λd e w=>dY d e c w λf w=>vH a b f w λg i j l m n o w=>Al T 213 w λp w=>St (p.add 0) (.slice g i j) w λw=>St (p.add 1) (.slice l m n) w λw=>BM o λq=>cond (!q) (dV o λr=>Q 0 0 r w) (nj d e c w λs w=>aA p w.drew λt u v=>aJ s u<|wA t λx=>af .i64 (x.add (s.toNat*1)) w.drew λy=>aA (p.add 1) w.drew λz a1 b1=>aJ s a1<|wA z λc1=>af .i64 (c1.add (s.toNat*1)) w.drew λd1=>w.drew.cell? (c1.add (s.toNat*1))=some (ae d1)/\w.drew.cell? (p.add 1)=some (.slice z a1 b1)/\Q y d1 (.nilIface) w.drew)) (ok 45) X_ [] Tryz.func129
def Qu:=λa w Q=>bB (yU a w Q) (BM a λb=>cond b (Q 0 w) (bY (aZ 2) w λc=>pz a c w λd w=>cond d (Q 4 w) (bY (aZ 3) w λe=>pz a e w λf w=>cond f (Q 7 w) (Q 1 w)))) (ok 14) [] [] Tryz.func130
def VW:=λa b c w Q=>bB (BX a b c w Q) (BY a b c w λd e f w=>yU f w λg w=>Q d e g w) (ok 22) [] [] Tryz.func92
def MS:=λa b c d w Q=>bB (wo a b c d w Q) (wA a λe=>bg (e.add 1) w λf=>BX f c d w λg i j w=>cond (j==0) (wA b λl=>St (l.add 1) (ae g) w λw=>wA b λm=>St (m.add 2) (ae i) w λw=>gj j w λn w=>dV n λo=>Q o w) (gj j w λp w=>dV p λq=>Q q w)) (ok 35) [] [] Tryz.func57
def qM (Q:L3 WP)(R5:OA->L3 (L3 (Int->Int->WP)))(a b:OA)(c d:Nat)(e:OA)(f g:Nat)(i j:Int)(w:World):Prop:=cond (decide (j<i)) (aJ j f<|wA e λl=>af .i64 (l.add (j.toNat*1)) w λm=>wA a λn=>cu (n.add 2) w λo=>aL P (Instr.lookup 169 (.map o) (ae m) false) w λp w=>dL p λq=>dG q λr s=>dI .i64 r λt=>dG s λu v=>dI .i64 u λx=>dG v λy z=>dI .i64 y λa1=>kM z<|Bx [ae t,ae x,ae a1] 43 w λb1 w=>App P #[39,39] 39 (.slice b c d) (.slice (some b1) 1 1) w λc1 d1 e1 w=>R5 a c1 d1 e1 e f g i (IntKind.wrap .i64 (j+1)) w) (Q b c d w)
def vT (Q:L3 WP):Nat->OA->L3 (L3 (Int->Int->WP))
 |0,_,_,_,_,_,_,_,_,_,_=>False
 |k+1,a,b,c,d,e,f,g,i,j,w=>qM Q (vT Q k) a b c d e f g i j w
def UJ (Q):∀k,Bk 26 Tryz.f64 (G9 Q) 5 [(0,.p),(3,.l),(9,.l),(10,.i .i64),(11,.i .i64)] (vT Q k):=bK λk h=>aT (ok 26) [] [aM h]
def Qv:=λa w Q=>bB (yO a w Q) (cond a.isNone (Q none 0 0 w) (qv a w λb c d w=>∃k',vT Q k' a none 0 0 b c d (c:Int) 0 w)) (ok 26) [] [ct (UJ Q)] Tryz.func64
def MT:=λa w Q=>bB (mZ a w Q) (cond a.isNone (Q none 0 0 w) (wA a λb=>bg (b.add 3) w λc=>yO c w λd e f w=>Q d e f w)) (ok 10) [] [] Tryz.func33
def Ci (Q:Bool->WP)(R6:Int->Int->Int->ON->L3 (Int->Int->WP))(a b c:Int)(d:ON)(e:OA)(f g:Nat)(i j:Int)(w:World):Prop:=cond (decide (j<i)) (aJ j f<|wA e λl=>af .i64 ((l.add (j.toNat*3)).add 0) w λm=>af .i64 ((l.add (j.toNat*3)).add 1) w λn=>af .i64 ((l.add (j.toNat*3)).add 2) w λo=>Al T 43 w λp w=>St (p.add 0) (ae m) w λw=>St (p.add 1) (ae n) w λw=>St (p.add 2) (ae o) w λw=>af .i64 p w λq=>cond (decide (q<=c)) (Q false w) (af .i64 (p.add 1) w λr=>dY a b r w λs w=>cond (decide (s<0)) (Q false w) (af .i64 (p.add 2) w λt=>dY a b t w λu w=>cond (decide (u<0)) (Q false w) (af .i64 (p.add 1) w λv=>aL P (Instr.lookup 258 (.map d) (ae v) false) w λx w=>dB x λy=>cond y (Q false w) (af .i64 (p.add 1) w.drew λz=>af .i64 p w.drew λa1=>w.drew.cell? (p.add 1)=some (ae z)/\bD P (Instr.mapUpdate 258 (.map d) (ae z) (.bool true)) w.drew λw=>R6 a b a1 d e f g i (IntKind.wrap .i64 (j+1)) w))))) (Q true w)
def Gh (Q:Bool->WP):Nat->Int->Int->Int->ON->L3 (Int->Int->WP)
 |0,_,_,_,_,_,_,_,_,_,_=>False
 |k+1,a,b,c,d,e,f,g,i,j,w=>Ci Q (Gh Q k) a b c d e f g i j w
noncomputable def Tv:cv:=[(10,sp 0 5 (.op 5 (.op 6 .done)))]
def ah8 (Q):∀k,Bk 56 Tryz.f151 (Vl Q) 6 [(0,.i .i64),(1,.i .i64),(7,.i .i64),(8,.m),(18,.l),(19,.i .i64),(20,.i .i64)] (Gh Q k):=bK λk h=>aT (ok 56) Tv [aM h]
def adL:=λa b c d e w Q=>bB (CK a b c d e w Q) (lF a b w λf w=>cond (!f) (Q false w) (cz P 258 (some (ae (d:Int))) w λg w=>∃k',Gh Q k' a b (-1) g c d e (d:Int) 0 w)) (ok 56) Tv [ct (ah8 Q)] Tryz.func151
def zq (Q:L3 WP)(R4:L3 (ON->L3 (Int->Int->WP)))(a:OA)(b c:Nat)(d:ON)(e:OA)(f g:Nat)(i j:Int)(w:World):Prop:=cond (decide (j<i)) (aJ j f<|wA e λl=>af .i64 ((l.add (j.toNat*3)).add 0) w λm=>af .i64 ((l.add (j.toNat*3)).add 1) w λn=>af .i64 ((l.add (j.toNat*3)).add 2) w λo=>Al T 43 w λp w=>St (p.add 0) (ae m) w λw=>St (p.add 1) (ae n) w λw=>St (p.add 2) (ae o) w λw=>af .i64 (p.add 2) w λq=>aL P (Instr.lookup 258 (.map d) (ae q) false) w λr w=>dB r λs=>cond (!s) (af .i64 (p.add 2) w λt=>bD P (Instr.mapUpdate 258 (.map d) (ae t) (.bool true)) w λw=>af .i64 (p.add 2) w λu=>Bx [ae u] 3 w λv w=>App P #[29,29] 29 (.slice a b c) (.slice (some v) 1 1) w λx y z w=>R4 x y z d e f g i (IntKind.wrap .i64 (j+1)) w) (R4 a b c d e f g i (IntKind.wrap .i64 (j+1)) w)) (Q a b c w)
def C3 (Q:L3 WP):Nat->L3 (ON->L3 (Int->Int->WP))
 |0,_,_,_,_,_,_,_,_,_,_=>False
 |k+1,a,b,c,d,e,f,g,i,j,w=>zq Q (C3 Q k) a b c d e f g i j w
def adM (Q):∀k,Bk 29 Tryz.f152 (PC Q) 4 [(3,.l),(4,.m),(8,.l),(9,.i .i64),(10,.i .i64)] (C3 Q k):=bK λk h=>aT (ok 29) [] [aM h]
def ZO:=λa b c w Q=>bB (EK a b c w Q) (cz P 258 none w λd w=>∃k',C3 Q k' none 0 0 d a b c (b:Int) 0 w) (ok 29) [] [ct (adM Q)] Tryz.func152
def pM (P6:Int->Int->L3 (ON->ON->L3 (Int->Int->WP)))(Q:L3 WP)(a b:Int)(c:OA)(d e:Nat)(f g:ON)(i:Addr)(j:Int)(l:OA)(m n:Nat)(o p:Int)(w:World):Prop:=af .i64 (i.add 2) w λq=>aL P (Instr.lookup 252 (.map f) (ae q) false) w λr w=>dS r λs t u=>aJ j t<|wA s λv=>aA ((v.add (j.toNat*3)).add 2) w.drew λx y z=>af .i64 i w.drew λa1=>Bx [ae a1] 3 w.drew λb1 w=>w.cell? ((v.add (j.toNat*3)).add 2)=some (.slice x y z)/\App P #[29,29] 29 (.slice x y z) (.slice (some b1) 1 1) w λc1 d1 e1 w=>St ((v.add (j.toNat*3)).add 2) (.slice c1 d1 e1) w λw=>P6 a b c d e f g l m n o (IntKind.wrap .i64 (p+1)) w
def xu (Q:L3 WP)(R20:ON->L3 (L3 (Int->Int->WP)))(a:ON)(b:OA)(c d:Nat)(e:OA)(f g:Nat)(i j:Int)(w:World):Prop:=cond (decide (j<i)) (aJ j f<|wA e λl=>af .i64 (l.add (j.toNat*1)) w λm=>aL P (Instr.lookup 252 (.map a) (ae m) false) w λn w=>dS n λo p q=>App P #[208,208] 208 (.slice b c d) (.slice o p q) w λr s t w=>R20 a r s t e f g i (IntKind.wrap .i64 (j+1)) w) (Q b c d w)
def Br (Q:L3 WP):Nat->ON->L3 (L3 (Int->Int->WP))
 |0,_,_,_,_,_,_,_,_,_,_=>False
 |k+1,a,b,c,d,e,f,g,i,j,w=>xu Q (Br Q k) a b c d e f g i j w
def zu (Q:L3 WP)(R6:Int->Int->L3 (ON->ON->L3 (Int->Int->WP)))(a b:Int)(c:OA)(d e:Nat)(f g:ON)(i:OA)(j l:Nat)(m n:Int)(w:World):Prop:=cond (decide (n<m)) (aJ n j<|wA i λo=>af .i64 ((o.add (n.toNat*3)).add 0) w λp=>af .i64 ((o.add (n.toNat*3)).add 1) w λq=>af .i64 ((o.add (n.toNat*3)).add 2) w λr=>Al T 43 w λs w=>St (s.add 0) (ae p) w λw=>St (s.add 1) (ae q) w λw=>St (s.add 2) (ae r) w λw=>af .i64 (s.add 1) w λt=>dY a b t w λu w=>af .i64 (s.add 2) w λv=>Al T 253 w λx w=>St (x.add 0) (ae v) w λw=>St (x.add 1) (ae u) w λw=>af .i64 (x.add 0) w λy=>af .i64 (x.add 1) w λz=>aL P (Instr.lookup 180 (.map g) (.agg #[ae y,ae z]) true) w λa1 w=>dT a1 λb1=>dG b1 λc1 d1=>dI .i64 c1 λe1=>dG d1 λf1 g1=>dB f1 λi1=>kM g1<|cond (!i1) (af .i64 (s.add 2) w λj1=>aL P (Instr.lookup 252 (.map f) (ae j1) false) w λl1 w=>dS l1 λm1 n1 o1=>af .i64 (x.add 0) w λp1=>af .i64 (x.add 1) w λq1=>bD P (Instr.mapUpdate 180 (.map g) (.agg #[ae p1,ae q1]) (ae (n1:Int))) w λw=>af .i64 (s.add 2) w.drew λr1=>af .i64 (s.add 2) w.drew λs1=>af .i64 (s.add 2) w.drew λt1=>(aL P (Instr.lookup 252 (.map f) (ae s1) false) w.drew λu1 w=>dS u1 λv1 x1 y1=>w.cell? (s.add 2)=some (ae t1)/\w.cell? (s.add 2)=some (ae r1)/\Bx [ae t1,ae u,.slice none 0 0] 211 w λz1 w=>w.cell? (s.add 2)=some (ae s1)/\w.cell? (s.add 2)=some (ae r1)/\App P #[208,208] 208 (.slice v1 x1 y1) (.slice (some z1) 1 1) w λa2 b2 c2 w=>w.cell? (s.add 2)=some (ae r1)/\bD P (Instr.mapUpdate 252 (.map f) (ae r1) (.slice a2 b2 c2)) w λw=>pM R6 Q a b c d e f g s (n1:Int) i j l m n w)/\(Bx [ae t1,ae u,.slice none 0 0] 211 w.drew λd2 w=>w.cell? (s.add 2)=some (ae s1)/\w.cell? (s.add 2)=some (ae r1)/\aL P (Instr.lookup 252 (.map f) (ae s1) false) w λe2 w=>dS e2 λf2 g2 i2=>w.cell? (s.add 2)=some (ae t1)/\w.cell? (s.add 2)=some (ae r1)/\App P #[208,208] 208 (.slice f2 g2 i2) (.slice (some d2) 1 1) w λj2 l2 m2 w=>w.cell? (s.add 2)=some (ae r1)/\bD P (Instr.mapUpdate 252 (.map f) (ae r1) (.slice j2 l2 m2)) w λw=>pM R6 Q a b c d e f g s (n1:Int) i j l m n w)) (pM R6 Q a b c d e f g s e1 i j l m n w)) (EK c d e w λn2 o2 p2 w=>∃k',Br Q k' f none 0 0 n2 o2 p2 (o2:Int) 0 w)
def zv (Q:L3 WP):Nat->Int->Int->L3 (ON->ON->L3 (Int->Int->WP))
 |0,_,_,_,_,_,_,_,_,_,_,_,_,_=>False
 |k+1,a,b,c,d,e,f,g,i,j,l,m,n,w=>zu Q (zv Q k) a b c d e f g i j l m n w
noncomputable def Bs:cv:=[(14,sp 0 6 (sp 7 4 (.br (.op 6 (.op 11 (.op 12 (.op 13 .done)))) (.op 11 (.op 6 (.op 12 (.op 13 .done))))))),(16,sp 0 7 (.op 7 (.op 8 (sp 9 2 (.op 11 .done)))))]
def abx {P6}(Q)(H6:Bk 102 Tryz.f133 (yV Q) 6 [(0,.i .i64),(1,.i .i64),(2,.l),(7,.m),(8,.m),(26,.l),(27,.i .i64),(28,.i .i64)] P6):Bk 102 Tryz.f133 (yV Q) 15 [(0,.i .i64),(1,.i .i64),(2,.l),(7,.m),(8,.m),(10,.a),(13,.i .i64),(26,.l),(27,.i .i64),(28,.i .i64)] (pM P6 Q):=aT (ok 102) Bs [aM H6]
def aby (Q):∀k,Bk 102 Tryz.f133 (yV Q) 20 [(7,.m),(16,.l),(89,.l),(90,.i .i64),(91,.i .i64)] (Br Q k):=bK λk h=>aT (ok 102) Bs [aM h]
def adN (Q):∀k,Bk 102 Tryz.f133 (yV Q) 6 [(0,.i .i64),(1,.i .i64),(2,.l),(7,.m),(8,.m),(26,.l),(27,.i .i64),(28,.i .i64)] (zv Q k):=bK λk h=>aT (ok 102) Bs [aM (abx Q h),ct (aby Q)]
def ZP:=λa b c d e w Q=>bB (EI a b c d e w Q) (CK a b c d e w λf w=>cond (!f) (Q none 0 0 w) (cz P 252 none w λg w=>cz P 180 none w λi w=>∃k',zv Q k' a b c d e g i c d e (d:Int) 0 w)) (ok 102) Bs [ct (adN Q)] Tryz.func133
noncomputable def VX:cv:=[(2,sp 0 2 (.op 2 (.op 3 (.op 4 .done))))]
def UK:=λa b c w Q=>bB (vG a b c w Q) (Al T 213 w λd w=>vH a b c w λe f g i j l m w=>Al T 213 w λn w=>St (n.add 0) (.slice e f g) w λw=>St (n.add 1) (.slice i j l) w λw=>aA (n.add 0) w.drew λo p q=>aA (n.add 1) w.drew λr s t=>yU m w.drew λu w=>w.cell? (n.add 0)=some (.slice o p q)/\w.cell? (n.add 1)=some (.slice r s t)/\St (d.add 0) (.slice o p q) w λw=>St (d.add 1) (.slice r s t) w λw=>aA (d.add 0) w λv x y=>aA (d.add 1) w λz a1 b1=>Q v x y z a1 b1 u w) (ok 20) VX [] Tryz.func134
def oF (u7:OA->L3 (ON->ON->L3 (Int->Int->WP)))(Q:L3 (Value->WP))(R16:OA->L3 (ON->ON->Addr->L3 (Int->Int->L3 (Int->Int->WP))))(a b:OA)(c d:Nat)(e f:ON)(g:Addr)(i:OA)(j l:Nat)(m n:Int)(o:OA)(p q:Nat)(r s:Int)(w:World):Prop:=cond (decide (s<r)) (aJ s p<|wA o λt=>af .i64 (t.add (s.toNat*1)) w λu=>aA (g.add 1) w λv x y=>aL P (Instr.lookup 207 (.map e) (ae u) false) w λz w=>dI .i64 z λa1=>aJ a1 x<|wA v λb1=>af .i64 (b1.add (a1.toNat*1)) w λc1=>bD P (Instr.mapUpdate 207 (.map f) (ae u) (ae c1)) w λw=>R16 a b c d e f g i j l m n o p q r (IntKind.wrap .i64 (s+1)) w) (u7 a b c d e f i j l m (IntKind.wrap .i64 (n+1)) w)
def sC (u7:OA->L3 (ON->ON->L3 (Int->Int->WP)))(Q:L3 (Value->WP)):Nat->OA->L3 (ON->ON->Addr->L3 (Int->Int->L3 (Int->Int->WP)))
 |0,_,_,_,_,_,_,_,_,_,_,_,_,_,_,_,_,_,_=>False
 |k+1,a,b,c,d,e,f,g,i,j,l,m,n,o,p,q,r,s,w=>oF u7 Q (sC u7 Q k) a b c d e f g i j l m n o p q r s w
def oG (u7:OA->L3 (ON->ON->L3 (Int->Int->WP)))(Q:L3 (Value->WP))(a b:OA)(c d:Nat)(e f:ON)(g i:Addr)(j:Int)(l:OA)(m n:Nat)(o p:Int)(w:World):Prop:=cond (j !=0) (Q none 0 0 (.iface 108 (ae j)) w) (aA (g.add 2) w λq r s=>∃k',sC u7 Q k' a b c d e f i l m n o p q r s (r:Int) 0 w)
def oH (Q:L3 (Value->WP))(R23:ON->L3 (L3 (Int->Int->WP)))(a:ON)(b:OA)(c d:Nat)(e:OA)(f g:Nat)(i j:Int)(w:World):Prop:=cond (decide (j<i)) (aJ j f<|wA e λl=>af .i64 ((l.add (j.toNat*3)).add 0) w λm=>af .i64 ((l.add (j.toNat*3)).add 1) w λn=>af .i64 ((l.add (j.toNat*3)).add 2) w λo=>Al T 43 w λp w=>St (p.add 0) (ae m) w λw=>St (p.add 1) (ae n) w λw=>St (p.add 2) (ae o) w λw=>af .i64 p w λq=>aL P (Instr.lookup 207 (.map a) (ae q) false) w λr w=>dI .i64 r λs=>Bx [ae s] 3 w λt w=>App P #[29,29] 29 (.slice b c d) (.slice (some t) 1 1) w λu v x w=>R23 a u v x e f g i (IntKind.wrap .i64 (j+1)) w) (Q b c d (.nilIface) w)
def sD (Q:L3 (Value->WP)):Nat->ON->L3 (L3 (Int->Int->WP))
 |0,_,_,_,_,_,_,_,_,_,_=>False
 |k+1,a,b,c,d,e,f,g,i,j,w=>oH Q (sD Q k) a b c d e f g i j w
def oI (Q:L3 (Value->WP))(R10:OA->L3 (ON->ON->L3 (Int->Int->WP)))(a b:OA)(c d:Nat)(e f:ON)(g:OA)(i j:Nat)(l m:Int)(w:World):Prop:=cond (decide (m<l)) (aJ m i<|wA g λn=>af .i64 ((n.add (m.toNat*3)).add 0) w λo=>af .i64 ((n.add (m.toNat*3)).add 1) w λp=>aA ((n.add (m.toNat*3)).add 2) w λq r s=>Al T 211 w λt w=>St (t.add 0) (ae o) w λw=>St (t.add 1) (ae p) w λw=>St (t.add 2) (.slice q r s) w λw=>wA a λu=>bg (u.add 1) w.drew λv=>af .i64 t w.drew λx=>af .i64 (t.add 1) w.drew λy=>(vG v x y w.drew λz a1 b1 c1 d1 e1 f1 w=>Al T 213 w λg1 w=>w.cell? (t.add 1)=some (ae y)/\w.cell? t=some (ae x)/\w.cell? (u.add 1)=some (.pointer v)/\St (g1.add 0) (.slice z a1 b1) w λw=>St (g1.add 1) (.slice c1 d1 e1) w λw=>oG R10 Q a b c d e f t g1 f1 g i j l m w)/\(Al T 213 w.drew λi1 w=>w.cell? (t.add 1)=some (ae y)/\w.cell? t=some (ae x)/\w.cell? (u.add 1)=some (.pointer v)/\vG v x y w λj1 l1 m1 n1 o1 p1 q1 w=>St (i1.add 0) (.slice j1 l1 m1) w λw=>St (i1.add 1) (.slice n1 o1 p1) w λw=>oG R10 Q a b c d e f t i1 q1 g i j l m w)) (∃k',sD Q k' f none 0 0 b c d (c:Int) 0 w)
def oJ (Q:L3 (Value->WP)):Nat->OA->L3 (ON->ON->L3 (Int->Int->WP))
 |0,_,_,_,_,_,_,_,_,_,_,_,_=>False
 |k+1,a,b,c,d,e,f,g,i,j,l,m,w=>oI Q (oJ Q k) a b c d e f g i j l m w
def pN (Q:L3 (Value->WP))(R4:OA->L3 (Int->Int->ON->L3 (Int->Int->WP)))(a b:OA)(c d:Nat)(e f:Int)(g:ON)(i:OA)(j l:Nat)(m n:Int)(w:World):Prop:=cond (decide (n<m)) (aJ n j<|wA i λo=>af .i64 ((o.add (n.toNat*3)).add 0) w λp=>af .i64 ((o.add (n.toNat*3)).add 1) w λq=>af .i64 ((o.add (n.toNat*3)).add 2) w λr=>Al T 43 w λs w=>St (s.add 0) (ae p) w λw=>St (s.add 1) (ae q) w λw=>St (s.add 2) (ae r) w λw=>af .i64 s w.drew λt=>af .i64 (s.add 1) w.drew λu=>nj e f u w.drew λv w=>w.cell? s=some (ae t)/\bD P (Instr.mapUpdate 207 (.map g) (ae t) (ae v)) w λw=>R4 a b c d e f g i j l m (IntKind.wrap .i64 (n+1)) w) (cz P 207 none w λx w=>EI e f b c d w λy z a1 w=>∃k',oJ Q k' a b c d g x y z a1 (z:Int) 0 w)
def uA (Q:L3 (Value->WP)):Nat->OA->L3 (Int->Int->ON->L3 (Int->Int->WP))
 |0,_,_,_,_,_,_,_,_,_,_,_,_,_=>False
 |k+1,a,b,c,d,e,f,g,i,j,l,m,n,w=>pN Q (uA Q k) a b c d e f g i j l m n w
noncomputable def lZ:cv:=[(6,sp 0 7 (.op 7 (.op 8 .done))),(12,sp 0 8 (.br (.op 8 (sp 9 3 (.op 12 (.op 13 (.op 14 .done))))) (.op 12 (.op 8 (sp 9 3 (.op 13 (.op 14 .done)))))))]
def Qw {u7}(Q)(H10:Bk 104 Tryz.f93 (jg Q) 10 [(0,.p),(1,.l),(8,.m),(11,.m),(49,.l),(50,.i .i64),(51,.i .i64)] u7):∀k,Bk 104 Tryz.f93 (jg Q) 16 [(0,.p),(1,.l),(8,.m),(11,.m),(14,.a),(49,.l),(50,.i .i64),(51,.i .i64),(72,.l),(73,.i .i64),(74,.i .i64)] (sC u7 Q k):=bK λk h=>aT (ok 104) lZ [aM H10,aM h]
def Qx {u7}(Q)(H10:Bk 104 Tryz.f93 (jg Q) 10 [(0,.p),(1,.l),(8,.m),(11,.m),(49,.l),(50,.i .i64),(51,.i .i64)] u7):Bk 104 Tryz.f93 (jg Q) 13 [(0,.p),(1,.l),(8,.m),(11,.m),(13,.a),(14,.a),(15,.i .i64),(49,.l),(50,.i .i64),(51,.i .i64)] (oG u7 Q):=aT (ok 104) lZ [ct (Qw Q H10)]
def Qy (Q):∀k,Bk 104 Tryz.f93 (jg Q) 23 [(11,.m),(18,.l),(89,.l),(90,.i .i64),(91,.i .i64)] (sD Q k):=bK λk h=>aT (ok 104) lZ [aM h]
def Qz (Q):∀k,Bk 104 Tryz.f93 (jg Q) 10 [(0,.p),(1,.l),(8,.m),(11,.m),(49,.l),(50,.i .i64),(51,.i .i64)] (oJ Q k):=bK λk h=>aT (ok 104) lZ [aM (Qx Q h),ct (Qy Q)]
def Sw (Q):∀k,Bk 104 Tryz.f93 (jg Q) 4 [(0,.p),(1,.l),(6,.i .i64),(7,.i .i64),(8,.m),(30,.l),(31,.i .i64),(32,.i .i64)] (uA Q k):=bK λk h=>aT (ok 104) lZ [aM h,ct (Qz Q)]
def OI:=λa b c d w Q=>bB (xS a b c d w Q) (wA a λe=>bg (e.add 1) w λf=>wX f w λg i w=>cz P 207 none w λj w=>∃k',uA Q k' a b c d g i j b c d (c:Int) 0 w) (ok 104) lZ [ct (Sw Q)] Tryz.func93
def ZQ:=λa w Q=>bB (K_ a w Q) (cond (decide (a<0)) (Q true w) (Q (decide (a>5)) w)) (ok 9) [] [] Tryz.func153
def jQ (Q:Int->WP)(R2:L3 (Value->Int->Int->WP))(a:OA)(b c:Nat)(d:Value)(e f:Int)(w:World):Prop:=cond (decide (f<e)) (aJ f b<|wA a λg=>af .i64 (g.add (f.toNat*1)) w λi=>h_ (cx 19) d [ae i] w λj w=>dB j λl=>cond l (Q f w) (R2 a b c d e (IntKind.wrap .i64 (f+1)) w)) (Q (-1) w)
def jR (Q:Int->WP):Nat->L3 (Value->Int->Int->WP)
 |0,_,_,_,_,_,_,_=>False
 |k+1,a,b,c,d,e,f,w=>jQ Q (jR Q k) a b c d e f w
def HQ (Q):∀k,Bk 19 Tryz.f166 (yY Q) 2 [(0,.l),(1,.v),(7,.i .i64),(8,.i .i64)] (jR Q k):=bK λk h=>aT (ok 19) [] [aM h]
def Gi:=λa b c d w Q=>bB (w8 a b c d w Q) (∃k',jR Q k' a b c d (b:Int) 0 w) (ok 19) [] [ct (HQ Q)] Tryz.func166
def D6:=λa b c d w Q=>bB (nL a b c d w Q) (w8 a b c d w λe w=>Q (decide (e≥0)) w) (ok 9) [] [] Tryz.func154
def kJ (Q:Bool->WP)(a b:OA)(c:Int)(w:World):Prop:=wA a λd=>af .i64 d w.drew λe=>wA a λf=>af .i64 (f.add 1) w.drew λg=>wA b λi=>af .i64 (i.add 1) w.drew λj=>l_ e g j c w.drew λl w=>cond (decide (l<0)) (Q true w) (wA a λm=>cu (m.add 2) w λn=>aL P (Instr.lookup 258 (.map n) (ae l) false) w λo w=>dB o λp=>cond p (Q true w) (wA a λq=>cu (q.add 2) w.drew λr=>wA b λs=>af .i64 (s.add 1) w.drew λt=>aL P (Builtin.delete_ #[258,3] 0 [.map r,ae t].toArray) w.drew λu w=>wA b λv=>St (v.add 1) (ae l) w λw=>wA a λx=>aA (x.add 3) w.drew λy z a1=>wA b λb1=>af .i64 b1 w.drew λc1=>Bx [ae c1,ae l] 51 w.drew λd1 w=>w.cell? (x.add 3)=some (.slice y z a1)/\App P #[28,28] 28 (.slice y z a1) (.slice (some d1) 1 1) w λe1 f1 g1 w=>wA a λi1=>St (i1.add 3) (.slice e1 f1 g1) w λw=>wA b λj1=>af .i64 (j1.add 2) w λl1=>cond (l==l1) (wA a λm1=>aA (m1.add 4) w.drew λn1 o1 p1=>wA b λq1=>af .i64 q1 w.drew λr1=>Bx [ae r1] 3 w.drew λs1 w=>w.cell? (m1.add 4)=some (.slice n1 o1 p1)/\App P #[29,29] 29 (.slice n1 o1 p1) (.slice (some s1) 1 1) w λt1 u1 v1 w=>wA a λx1=>St (x1.add 4) (.slice t1 u1 v1) w λw=>Q false w) (wA a λy1=>cu (y1.add 2) w λz1=>bD P (Instr.mapUpdate 258 (.map z1) (ae l) (.bool true)) w λw=>Q true w)))
noncomputable def Fv:cv:=[(6,sp 0 13 (.op 13 (.op 14 .done))),(9,sp 0 8 (.op 8 .done)),(11,sp 0 11 (.op 11 (.op 12 (sp 13 2 (.op 15 .done))))),(13,sp 0 9 (.op 9 (.op 10 (sp 11 2 (.op 13 .done)))))]
def Sy (Q):Bk 92 Tryz.f155 (F_ Q) 6 [(0,.p),(1,.p),(2,.i .i64)] (kJ Q):=aT (ok 92) Fv []
def OJ:=λa b c w Q=>bB (xX a b c w Q) (cond (c==0) (kJ Q a b c w) (cond (c==1) (kJ Q a b c w) (cond (c==2) (kJ Q a b c w) (cond (c==3) (kJ Q a b c w) (Q true w))))) (ok 92) Fv [aM (Sy Q)] Tryz.func155
def AT (Q:L3 (L3 (L3 (Int->WP))))(R11:L3 (L3 (Addr->L3 (Int->Int->WP))))(a:OA)(b c:Nat)(d:OA)(e f:Nat)(g:Addr)(i:OA)(j l:Nat)(m n:Int)(w:World):Prop:=cond (decide (n<m)) (aJ n j<|wA i λo=>af .i64 ((o.add (n.toNat*3)).add 0) w λp=>af .i64 ((o.add (n.toNat*3)).add 1) w λq=>af .i64 ((o.add (n.toNat*3)).add 2) w λr=>Al T 43 w λs w=>St (s.add 0) (ae p) w λw=>St (s.add 1) (ae q) w λw=>St (s.add 2) (ae r) w λw=>aJ n b<|wA a λt=>af .i64 (t.add (n.toNat*1)) w λu=>xX (some g) (some s) u w λv w=>cond v (af .i64 (s.add 0) w λx=>af .i64 (s.add 1) w λy=>af .i64 (s.add 2) w λz=>Bx [ae x,ae y,ae z] 43 w λa1 w=>App P #[39,39] 39 (.slice d e f) (.slice (some a1) 1 1) w λb1 c1 d1 w=>R11 a b c b1 c1 d1 g i j l m (IntKind.wrap .i64 (n+1)) w) (R11 a b c d e f g i j l m (IntKind.wrap .i64 (n+1)) w)) (aA (g.add 3) w.drew λe1 f1 g1=>aA (g.add 4) w.drew λi1 j1 l1=>w.drew.cell? (g.add 4)=some (.slice i1 j1 l1)/\w.drew.cell? (g.add 3)=some (.slice e1 f1 g1)/\w.drew.cell? (g.add 4)=some (.slice i1 j1 l1)/\Q d e f e1 f1 g1 i1 j1 l1 0 w.drew)
def Er (Q:L3 (L3 (L3 (Int->WP)))):Nat->L3 (L3 (Addr->L3 (Int->Int->WP)))
 |0,_,_,_,_,_,_,_,_,_,_,_,_,_=>False
 |k+1,a,b,c,d,e,f,g,i,j,l,m,n,w=>AT Q (Er Q k) a b c d e f g i j l m n w
def Cj (Q:L3 (L3 (L3 (Int->WP))))(R6:L3 (L3 (L3 (Addr->L3 (Int->Int->WP)))))(a:OA)(b c:Nat)(d:OA)(e f:Nat)(g:OA)(i j:Nat)(l:Addr)(m:OA)(n o:Nat)(p q:Int)(w:World):Prop:=cond (decide (q<p)) (aJ q n<|wA m λr=>af .i64 ((r.add (q.toNat*3)).add 0) w λs=>af .i64 ((r.add (q.toNat*3)).add 1) w λt=>af .i64 ((r.add (q.toNat*3)).add 2) w λu=>Al T 43 w λv w=>St (v.add 0) (ae s) w λw=>St (v.add 1) (ae t) w λw=>St (v.add 2) (ae u) w λw=>cu (l.add 2) w.drew λx=>af .i64 (v.add 1) w.drew λy=>bD P (Instr.mapUpdate 258 (.map x) (ae y) (.bool true)) w.drew λw=>R6 a b c d e f g i j l m n o p (IntKind.wrap .i64 (q+1)) w) (∃k',Er Q k' d e f g i j l a b c (b:Int) 0 w)
def Gj (Q:L3 (L3 (L3 (Int->WP)))):Nat->L3 (L3 (L3 (Addr->L3 (Int->Int->WP))))
 |0,_,_,_,_,_,_,_,_,_,_,_,_,_,_,_,_=>False
 |k+1,a,b,c,d,e,f,g,i,j,l,m,n,o,p,q,w=>Cj Q (Gj Q k) a b c d e f g i j l m n o p q w
noncomputable def JI:cv:=[(8,sp 0 6 (.op 6 .done)),(16,sp 0 9 (.op 9 (.op 10 (.op 11 (.op 12 .done)))))]
def agA (Q):∀k,Bk 82 Tryz.f135 (K9 Q) 11 [(3,.l),(8,.l),(13,.a),(55,.l),(56,.i .i64),(57,.i .i64)] (Er Q k):=bK λk h=>aT (ok 82) JI [aM h]
def ah9 (Q):∀k,Bk 82 Tryz.f135 (K9 Q) 6 [(2,.l),(3,.l),(8,.l),(13,.a),(42,.l),(43,.i .i64),(44,.i .i64)] (Gj Q k):=bK λk h=>aT (ok 82) JI [aM h,ct (agA Q)]
def adO:=λa b c d e f g i w Q=>bB (HE a b c d e f g i w Q) (CK a b c d e w λj w=>cond (!j) (Q none 0 0 none 0 0 none 0 0 1 w) (cond ((g:Int) !=(d:Int)) (Q none 0 0 none 0 0 none 0 0 1 w) (nL f g i (.func (.func 153) #[] #[]) w λl w=>cond l (Q none 0 0 none 0 0 none 0 0 1 w) (cz P 258 (some (ae (d:Int))) w λm w=>Bx [ae a,ae b,.map m,.slice none 0 0,.slice none 0 0] 260 w λn w=>∃k',Gj Q k' c d e f g i none 0 0 n c d e (d:Int) 0 w)))) (ok 82) JI [ct (ah9 Q)] Tryz.func135
def MU:=λa b c w Q=>bB (wB a b c w Q) (lW a b w λd w=>cond (d==(-1)) (Q false w) (ru a c w λe w=>cond (!e) (Q false w) (rq a b w λf w=>r9 a c f w λg w=>Q g w))) (ok 23) [] [] Tryz.func136
def Lx:=λa b w Q=>bB (BZ a b w Q) (wA b λc=>af .i64 c w λd=>wA a λe=>St (e.add 1) (ae d) w λw=>Q w) (ok 7) [] [] Tryz.func156
def OK:=λa b c w Q=>bB (xW a b c w Q) (Bx [ae c] 3 w λd w=>r_ a b (.func (.func 156) #[] #[.pointer (some d)]) w λe w=>Q e w) (ok 11) [] [] Tryz.func137
def l6 (P7:OA->L3 (L3 (L3 (Int->Int->WP))))(Q:L3 (L3 (Int->WP)))(a b:OA)(c d:Nat)(e:OA)(f g:Nat)(i j:Addr)(l:OA)(m n:Nat)(o p:Int)(w:World):Prop:=af .i64 (i.add 1) w λq=>af .i64 (j.add 2) w λr=>cond (q==r) (af .i64 (j.add 0) w λs=>af .i64 (j.add 1) w λt=>af .i64 (j.add 2) w λu=>nK a s t u w λw=>P7 a b c d e f g l m n o (IntKind.wrap .i64 (p+1)) w) (wA a λv=>bg (v.add 4) w.drew λx=>af .i64 (j.add 1) w.drew λy=>af .i64 (i.add 1) w.drew λz=>wB x y z w.drew λa1 w=>wA a λb1=>bg (b1.add 3) w.drew λc1=>af .i64 i w.drew λd1=>af .i64 (i.add 1) w.drew λe1=>xW c1 d1 e1 w.drew λf1 w=>P7 a b c d e f g l m n o (IntKind.wrap .i64 (p+1)) w)
def pO (Q:L3 (L3 (Int->WP)))(R7:OA->L3 (L3 (L3 (Int->Int->WP))))(a b:OA)(c d:Nat)(e:OA)(f g:Nat)(i:OA)(j l:Nat)(m n:Int)(w:World):Prop:=cond (decide (n<m)) (aJ n j<|wA i λo=>af .i64 ((o.add (n.toNat*2)).add 0) w λp=>af .i64 ((o.add (n.toNat*2)).add 1) w λq=>Al T 51 w λr w=>St (r.add 0) (ae p) w λw=>St (r.add 1) (ae q) w λw=>wA a λs=>bg (s.add 3) w.drew λt=>af .i64 r w.drew λu=>(iQ t u w.drew λv x y z w=>Al T 43 w λa1 w=>w.cell? r=some (ae u)/\w.cell? (s.add 3)=some (.pointer t)/\St (a1.add 0) (ae v) w λw=>St (a1.add 1) (ae x) w λw=>St (a1.add 2) (ae y) w λw=>l6 R7 Q a b c d e f g r a1 i j l m n w)/\(Al T 43 w.drew λb1 w=>w.cell? r=some (ae u)/\w.cell? (s.add 3)=some (.pointer t)/\iQ t u w λc1 d1 e1 f1 w=>St (b1.add 0) (ae c1) w λw=>St (b1.add 1) (ae d1) w λw=>St (b1.add 2) (ae e1) w λw=>l6 R7 Q a b c d e f g r b1 i j l m n w)) (Q b c d e f g 0 w)
def pP (Q:L3 (L3 (Int->WP))):Nat->OA->L3 (L3 (L3 (Int->Int->WP)))
 |0,_,_,_,_,_,_,_,_,_,_,_,_,_=>False
 |k+1,a,b,c,d,e,f,g,i,j,l,m,n,w=>pO Q (pP Q k) a b c d e f g i j l m n w
noncomputable def zw:cv:=[(3,sp 0 9 (.op 10 (.op 9 (.op 11 (sp 12 5 (.op 17 (.op 18 (.op 19 .done)))))))),(9,sp 0 6 (.br (.op 6 (sp 7 3 (.op 10 (.op 11 (.op 12 .done))))) (.op 10 (.op 6 (sp 7 3 (.op 11 (.op 12 .done))))))),(12,sp 0 8 (.op 8 .done)),(13,sp 0 8 (.op 8 .done))]
def QA {P7}(Q)(H7:Bk 78 Tryz.f94 (tV Q) 7 [(0,.p),(4,.l),(5,.l),(33,.l),(34,.i .i64),(35,.i .i64)] P7):Bk 78 Tryz.f94 (tV Q) 10 [(0,.p),(4,.l),(5,.l),(8,.a),(9,.a),(33,.l),(34,.i .i64),(35,.i .i64)] (l6 P7 Q):=aT (ok 78) zw [aM H7]
def Sz (Q):∀k,Bk 78 Tryz.f94 (tV Q) 7 [(0,.p),(4,.l),(5,.l),(33,.l),(34,.i .i64),(35,.i .i64)] (pP Q k):=bK λk h=>aT (ok 78) zw [aM (QA Q h)]
def OL:=λa b c d w Q=>bB (xU a b c d w Q) (cond a.isNone (Q none 0 0 none 0 0 1 w) (wA a λe=>af .i64 e w.drew λf=>wA a λg=>af .i64 (g.add 1) w.drew λi=>mZ a w.drew λj l m w=>w.cell? (g.add 1)=some (ae i)/\w.cell? e=some (ae f)/\HE f i j l m b c d w λn o p q r s t u v x w=>cond (x !=0) (Q none 0 0 none 0 0 x w) (∃k',pP Q k' a q r s t u v q r s (r:Int) 0 w))) (ok 78) zw [ct (Sz Q)] Tryz.func94
def OM:=λa b w Q=>bB (xR a b w Q) (wA a λc=>bg (c.add 2) w λd=>mZ d w λe f g w=>xS a e f g w λi j l m w=>BM m λn=>cond (!n) (dV m λo=>Q o w) (wA a λp=>bg (p.add 2) w λq=>xU q i j l w λr s t u v x y w=>wA b λz=>St (z.add 4) (.slice r s t) w λw=>wA b λa1=>St (a1.add 5) (.slice u v x) w λw=>gj y w λb1 w=>dV b1 λc1=>Q c1 w)) (ok 43) [] [] Tryz.func58
def fA (Q:Value->WP)(a:Value)(w:World):Prop:=dV a λb=>Q b w
def oK (Q:Value->WP)(a b:OA)(c:Addr)(w:World):Prop:=af .i64 (c.add 0) w λd=>af .i64 (c.add 1) w λe=>af .i64 (c.add 2) w λf=>aA (c.add 3) w λg i j=>wk a d e f g i j w λl w=>BM l λm=>cond (!m) (dV l λn=>Q n w) (af .i64 c w λo=>cond (o==1) (aA (c.add 3) w λp q r=>xP a p q r w λs w=>fA Q s w) (cond (o==8) (wA a λt=>bg (t.add 1) w λu=>vD u w λw=>fA Q l w) (cond (o==2) (af .i64 (c.add 1) w λv=>af .i64 (c.add 2) w λx=>xQ a v x w λy w=>fA Q y w) (cond (o==3) (af .i64 (c.add 1) w λz=>af .i64 (c.add 2) w λa1=>wm a z a1 w λb1 c1 w=>wA b λd1=>St (d1.add 3) (ae b1) w λw=>fA Q c1 w) (cond (o==4) (wA a λe1=>bg (e1.add 2) w.drew λf1=>af .i64 (c.add 1) w.drew λg1=>af .i64 (c.add 2) w.drew λi1=>sS f1 g1 i1 w.drew λj1 w=>gj j1 w λl1 w=>fA Q l1 w) (cond (o==5) (wA a λm1=>bg (m1.add 2) w.drew λn1=>af .i64 (c.add 1) w.drew λo1=>tS n1 o1 w.drew λp1 w=>gj p1 w λq1 w=>fA Q q1 w) (cond (o==6) (af .i64 (c.add 1) w λr1=>af .i64 (c.add 2) w λs1=>wo a b r1 s1 w λt1 w=>fA Q t1 w) (cond (o==7) (xR a b w λu1 w=>fA Q u1 w) (fA Q l w)))))))))
noncomputable def Be:cv:=[(18,sp 0 8 (.op 8 (.op 9 (.op 10 .done)))),(20,sp 0 6 (.op 6 (.op 7 (.op 8 .done))))]
def UL (Q):Bk 114 Tryz.f28 (BU Q) 25 [(6,.v)] (fA Q):=aT (ok 114) Be []
def VY (Q):Bk 114 Tryz.f28 (BU Q) 5 [(0,.p),(2,.p),(4,.a)] (oK Q):=aT (ok 114) Be [aM (UL Q)]
def SA:=λa b c d e f g i w Q=>bB (z0 a b c d e f g i w Q) (Bx [ae b,ae c,ae d,.slice e f g] 38 w λj w=>af .i64 j w λl=>cond (l==0) (bY (aZ 0) w λm=>dV m λn=>Q n w) (af .i64 (j.add 0) w λo=>af .i64 (j.add 1) w λp=>af .i64 (j.add 2) w λq=>aA (j.add 3) w λr s t=>K6 o p q r s t w λu w=>cond (!u) (bY (aZ 0) w λv=>dV v λx=>Q x w) (wA a λy=>bg (y.add 2) w λz=>cond z.isNone (af .i64 j w λa1=>cond (a1 !=1) (af .i64 j w λb1=>cond (b1 !=8) (Q (.iface 108 (ae 4)) w) (oK Q a i j w)) (oK Q a i j w)) (oK Q a i j w)))) (ok 114) Be [aM (VY Q)] Tryz.func28
def adP:=λa w Q=>bB (CJ a w Q) (Al T 108 w λb w=>bY (aZ 0) w λc=>pz a c w λd w=>cond d (Q 5 w) (nv a (.iface 120 (.pointer (some b))) w λe w=>cond e (af .i64 b w λf=>Q f w) (Q 0 w))) (ok 13) [] [] Tryz.func29
def oL (Q:Int->Int->Int->Int->L3 (L3 (Int->Int->Int->Int->Int->Int->WP)))(a:OA)(b c:Addr)(w:World):Prop:=wg a w λd e f g i j w=>St ((c.add 6).add 0) (.int .u64 d) w λw=>St ((c.add 6).add 1) (.int .u64 e) w λw=>St ((c.add 6).add 2) (.int .u64 f) w λw=>St ((c.add 6).add 3) (.int .u64 g) w λw=>St ((c.add 6).add 4) (.int .u64 i) w λw=>St ((c.add 6).add 5) (.int .u64 j) w λw=>af .i64 (c.add 0) w λl=>af .i64 (c.add 1) w λm=>af .i64 (c.add 2) w λn=>af .i64 (c.add 3) w λo=>aA (c.add 4) w λp q r=>aA (c.add 5) w λs t u=>af .u64 (c.add 6) w λv=>af .u64 (c.add 7) w λx=>af .u64 (c.add 8) w λy=>af .u64 (c.add 9) w λz=>af .u64 (c.add 10) w λa1=>af .u64 (c.add 11) w λb1=>St (b.add 0) (ae l) w λw=>St (b.add 1) (ae m) w λw=>St (b.add 2) (ae n) w λw=>St (b.add 3) (ae o) w λw=>St (b.add 4) (.slice p q r) w λw=>St (b.add 5) (.slice s t u) w λw=>St (b.add 6) (.int .u64 v) w λw=>St (b.add 7) (.int .u64 x) w λw=>St (b.add 8) (.int .u64 y) w λw=>St (b.add 9) (.int .u64 z) w λw=>St (b.add 10) (.int .u64 a1) w λw=>St (b.add 11) (.int .u64 b1) w λw=>af .i64 (b.add 0) w λc1=>af .i64 (b.add 1) w λd1=>af .i64 (b.add 2) w λe1=>af .i64 (b.add 3) w λf1=>aA (b.add 4) w λg1 i1 j1=>aA (b.add 5) w λl1 m1 n1=>af .u64 (b.add 6) w λo1=>af .u64 (b.add 7) w λp1=>af .u64 (b.add 8) w λq1=>af .u64 (b.add 9) w λr1=>af .u64 (b.add 10) w λs1=>af .u64 (b.add 11) w λt1=>Q c1 d1 e1 f1 g1 i1 j1 l1 m1 n1 o1 p1 q1 r1 s1 t1 w
def VZ (Q):Bk 29 Tryz.f12 (IT Q) 8 [(0,.p),(4,.a),(5,.a)] (oL Q):=aT (ok 29) [] []
def SB:=λa b c d e f g w Q=>bB (ij a b c d e f g w Q) (Bx [ae b,ae c,ae d,.slice e f g] 38 w λi w=>Al T 34 w λj w=>Al T 34 w λl w=>St (l.add 0) (ae 5) w λw=>St (l.add 1) (ae 0) w λw=>St (l.add 2) (ae 5) w λw=>St (l.add 3) (ae (-1)) w λw=>St (l.add 4) (.slice none 0 0) w λw=>St (l.add 5) (.slice none 0 0) w λw=>St (l.add 6) (.int .u64 0) w λw=>St (l.add 7) (.int .u64 0) w λw=>St (l.add 8) (.int .u64 0) w λw=>St (l.add 9) (.int .u64 0) w λw=>St (l.add 10) (.int .u64 0) w λw=>St (l.add 11) (.int .u64 0) w λw=>cond a.isNone (af .i64 (l.add 0) w λm=>af .i64 (l.add 1) w λn=>af .i64 (l.add 2) w λo=>af .i64 (l.add 3) w λp=>aA (l.add 4) w λq r s=>aA (l.add 5) w λt u v=>af .u64 (l.add 6) w λx=>af .u64 (l.add 7) w λy=>af .u64 (l.add 8) w λz=>af .u64 (l.add 9) w λa1=>af .u64 (l.add 10) w λb1=>af .u64 (l.add 11) w λc1=>St (j.add 0) (ae m) w λw=>St (j.add 1) (ae n) w λw=>St (j.add 2) (ae o) w λw=>St (j.add 3) (ae p) w λw=>St (j.add 4) (.slice q r s) w λw=>St (j.add 5) (.slice t u v) w λw=>St (j.add 6) (.int .u64 x) w λw=>St (j.add 7) (.int .u64 y) w λw=>St (j.add 8) (.int .u64 z) w λw=>St (j.add 9) (.int .u64 a1) w λw=>St (j.add 10) (.int .u64 b1) w λw=>St (j.add 11) (.int .u64 c1) w λw=>af .i64 (j.add 0) w λd1=>af .i64 (j.add 1) w λe1=>af .i64 (j.add 2) w λf1=>af .i64 (j.add 3) w λg1=>aA (j.add 4) w λi1 j1 l1=>aA (j.add 5) w λm1 n1 o1=>af .u64 (j.add 6) w λp1=>af .u64 (j.add 7) w λq1=>af .u64 (j.add 8) w λr1=>af .u64 (j.add 9) w λs1=>af .u64 (j.add 10) w λt1=>af .u64 (j.add 11) w λu1=>Q d1 e1 f1 g1 i1 j1 l1 m1 n1 o1 p1 q1 r1 s1 t1 u1 w) (St l (ae 0) w λw=>af .i64 (i.add 0) w λv1=>af .i64 (i.add 1) w λx1=>af .i64 (i.add 2) w λy1=>aA (i.add 3) w λz1 a2 b2=>z0 a v1 x1 y1 z1 a2 b2 (some l) w λc2 w=>BM c2 λd2=>cond (!d2) (af .i64 i w λe2=>dV c2 λf2=>Bx [ae e2,f2] 80 w λg2 w=>CJ (.iface 78 (.pointer (some g2))) w λi2 w=>St l (ae i2) w λw=>oL Q a j l w) (oL Q a j l w))) (ok 29) [] [aM (VZ Q)] Tryz.func12
def QB:=λa b c w Q=>bB (lV a b c w Q) (cond (decide (a≥b)) (Q (decide (a<=c)) w) (Q false w)) (ok 15) [] [] Tryz.func101
def D7:=λa b w Q=>bB (rm a b w Q) (lV a 1 1024 w λc w=>cond c (lV b 1 1024 w λd w=>Q d w) (Q false w)) (ok 11) [] [] Tryz.func65
def JJ:=λa b w Q=>bB (kN a b w Q) (rm a b w λc w=>cond (!c) (Q 0 0 w) (NZ 16<|NZ 16<|Q (IntKind.wrap .i64 (Int.tdiv (IntKind.wrap .i64 ((IntKind.wrap .i64 (a+16))-1)) 16)) (IntKind.wrap .i64 (Int.tdiv (IntKind.wrap .i64 ((IntKind.wrap .i64 (b+16))-1)) 16)) w)) (ok 18) [] [] Tryz.func44
def Ly:=λa b w Q=>bB (pe a b w Q) (kN a b w λc d w=>Q (IntKind.wrap .i64 (c*d)) w) (ok 16) [] [] Tryz.func23
def sE (P3:L3 (L3 (Int->WP)))(Q:L3 WP)(a:OA)(b c:Nat)(d:OA)(e f:Nat)(g i:Int)(w:World):Prop:=aJ g b<|wA a λj=>af .u8 (j.add (g.toNat*1)) w λl=>Bx [.int .u8 (IntKind.wrap .u8 (IntKind.wrap .i64 (i-1))),.int .u8 l] 5 w λm w=>App P #[22,22] 22 (.slice d e f) (.slice (some m) 2 2) w λn o p w=>P3 a b c n o p (IntKind.wrap .i64 (g+i)) w
def oM (P3:L3 (L3 (Int->WP)))(Q:L3 WP)(R5:L3 (L3 (Int->Int->WP)))(a:OA)(b c:Nat)(d:OA)(e f:Nat)(g i:Int)(w:World):Prop:=cond (decide ((IntKind.wrap .i64 (g+i))<(b:Int))) (aJ (IntKind.wrap .i64 (g+i)) b<|wA a λj=>af .u8 (j.add (((IntKind.wrap .i64 (g+i))).toNat*1)) w.drew λl=>aJ g b<|wA a λm=>af .u8 (m.add (g.toNat*1)) w.drew λn=>cond (l==n) (R5 a b c d e f g (IntKind.wrap .i64 (i+1)) w.drew) (sE P3 Q a b c d e f g i w.drew)) (sE P3 Q a b c d e f g i w.drew)
def l7 (P3:L3 (L3 (Int->WP)))(Q:L3 WP):Nat->L3 (L3 (Int->Int->WP))
 |0,_,_,_,_,_,_,_,_,_=>False
 |k+1,a,b,c,d,e,f,g,i,w=>oM P3 Q (l7 P3 Q k) a b c d e f g i w
def oN (Q:L3 WP)(R3:L3 (L3 (Int->WP)))(a:OA)(b c:Nat)(d:OA)(e f:Nat)(g:Int)(w:World):Prop:=cond (decide (g<(b:Int))) (∃k',l7 R3 Q k' a b c d e f g 1 w) (Q d e f w)
def oO (Q:L3 WP):Nat->L3 (L3 (Int->WP))
 |0,_,_,_,_,_,_,_,_=>False
 |k+1,a,b,c,d,e,f,g,w=>oN Q (oO Q k) a b c d e f g w
noncomputable def rB:cv:=[(5,sp 0 19 .done)]
def QC {P3}(Q)(H3:Bk 46 Tryz.f61 (lU Q) 3 [(0,.l),(3,.l),(4,.i .i64)] P3):Bk 46 Tryz.f61 (lU Q) 7 [(0,.l),(3,.l),(4,.i .i64),(5,.i .i64)] (sE P3 Q):=aT (ok 46) rB [aM H3]
def QD {P3}(Q)(H3:Bk 46 Tryz.f61 (lU Q) 3 [(0,.l),(3,.l),(4,.i .i64)] P3):∀k,Bk 46 Tryz.f61 (lU Q) 5 [(0,.l),(3,.l),(4,.i .i64),(5,.i .i64)] (l7 P3 Q k):=bK λk h=>aT (ok 46) rB [aM h,aM (QC Q H3)]
def QE (Q):∀k,Bk 46 Tryz.f61 (lU Q) 3 [(0,.l),(3,.l),(4,.i .i64)] (oO Q k):=bK λk h=>aT (ok 46) rB [ct (QD Q h)]
def MV:=λa b c w Q=>bB (wq a b c w Q) (Bx [.int .u8 2] 5 w λd w=>∃k',oO Q k' a b c (some d) 1 1 0 w) (ok 46) rB [ct (QE Q)] Tryz.func61
noncomputable def Kl:cv:=[(3,sp 0 4 (.br (.op 4 (.op 5 (.op 6 .done))) (.op 5 (.op 4 (.op 6 .done)))))]
def JK:=λa b c d e w Q=>bB (sR a b c d e w Q) (Bx [ae a,ae b,.slice c d e] 84 w λf w=>aA (f.add 2) w λg i j=>wq g i j w λl m n w=>cond ((m:Int)==3) (aA (f.add 2) w.drew λo p q=>aJ 0 p<|wA o λr=>af .u8 (r.add (((0:Int).toNat)*1)) w.drew λs=>(Bx [.int .u8 0,.int .u8 s] 5 w.drew λt w=>w.cell? (r.add (((0:Int).toNat)*1))=some (.int .u8 s)/\w.cell? (f.add 2)=some (.slice o p q)/\Q 0 (some t) 2 2 w)/\(w.drew.cell? (r.add (((0:Int).toNat)*1))=some (.int .u8 s)/\w.drew.cell? (f.add 2)=some (.slice o p q)/\Bx [.int .u8 0,.int .u8 s] 5 w.drew λu w=>Q 0 (some u) 2 2 w)) (aA (f.add 2) w λv x y=>cond (decide ((m:Int)<(IntKind.wrap .i64 (1+(x:Int))))) (Q 2 l m n w) (Bx [.int .u8 1] 5 w λz w=>aA (f.add 2) w λa1 b1 c1=>App P #[22,22] 22 (.slice (some z) 1 1) (.slice a1 b1 c1) w λd1 e1 f1 w=>Q 1 d1 e1 f1 w))) (ok 28) Kl [] Tryz.func30
noncomputable def OO:cv:=[(4,sp 0 14 (.op 14 (.op 15 .done)))]
def MW:=λa b c w Q=>bB (qq a b c w Q) (pe a b w λd w=>lV c 0 (IntKind.wrap .i64 (d-1)) w λe w=>cond (!e) (Q 0 0 w) (kN a b w λf g w=>NZ f<|NZ f<|Q (Ds 16 (IntKind.wrap .i64 (a-(IntKind.wrap .i64 (16*(Int.tmod c f)))))) (Ds 16 (IntKind.wrap .i64 (b-(IntKind.wrap .i64 (16*(IntKind.wrap .i64 (Int.tdiv c f))))))) w.drew)) (ok 37) OO [] Tryz.func62
noncomputable def Lz:cv:=[(5,sp 0 19 (.op 19 .done))]
def Km:=λa b c d w Q=>bB (tT a b c d w Q) (qq a b c w λe f w=>lV d 0 (IntKind.wrap .i64 ((IntKind.wrap .i64 (e*f))-1)) w λg w=>cond (!g) (Q (-1) w) (kN a b w λi j w=>NZ i<|NZ e<|NZ i<|NZ e<|Q (IntKind.wrap .i64 ((IntKind.wrap .i64 ((IntKind.wrap .i64 ((IntKind.wrap .i64 ((IntKind.wrap .i64 (16*(IntKind.wrap .i64 (Int.tdiv c i))))+(IntKind.wrap .i64 (Int.tdiv d e))))*a))+(IntKind.wrap .i64 (16*(Int.tmod c i)))))+(Int.tmod d e))) w.drew)) (ok 52) Lz [] Tryz.func63
def m9 (Q:Int->Int->L3 WP)(R4:Int->Addr->Addr->Int->Int->Addr->Int->WP)(a:Int)(b c:Addr)(d e:Int)(f:Addr)(g:Int)(w:World):Prop:=cond (decide (g<(IntKind.wrap .i64 (d*e)))) (aA (f.add 2) w.drew λi j l=>aA (b.add 2) w.drew λm n o=>af .i64 b w.drew λp=>af .i64 (b.add 1) w.drew λq=>tT p q a g w.drew λr w=>w.cell? (b.add 2)=some (.slice m n o)/\w.cell? (f.add 2)=some (.slice i j l)/\(aJ r n<|wA m λs=>af .u8 (s.add (r.toNat*1)) w λt=>Bx [.int .u8 t] 5 w λu w=>w.cell? (f.add 2)=some (.slice i j l)/\App P #[22,22] 22 (.slice i j l) (.slice (some u) 1 1) w λv x y w=>St (f.add 2) (.slice v x y) w λw=>R4 a b c d e f (IntKind.wrap .i64 (g+1)) w)) (af .i64 (f.add 0) w λz=>af .i64 (f.add 1) w λa1=>aA (f.add 2) w λb1 c1 d1=>St (c.add 0) (ae z) w λw=>St (c.add 1) (ae a1) w λw=>St (c.add 2) (.slice b1 c1 d1) w λw=>af .i64 (c.add 0) w λe1=>af .i64 (c.add 1) w λf1=>aA (c.add 2) w λg1 i1 j1=>Q e1 f1 g1 i1 j1 w)
def kA (Q:Int->Int->L3 WP):Nat->Int->Addr->Addr->Int->Int->Addr->Int->WP
 |0,_,_,_,_,_,_,_,_=>False
 |k+1,a,b,c,d,e,f,g,w=>m9 Q (kA Q k) a b c d e f g w
noncomputable def Ck:cv:=[(6,sp 0 10 (.op 10 (sp 11 2 (.op 13 (.op 14 (.op 15 (.op 16 .done)))))))]
def MX (Q):∀k,Bk 45 Tryz.f31 (Dd Q) 4 [(1,.i .i64),(2,.a),(4,.a),(5,.i .i64),(6,.i .i64),(7,.a),(8,.i .i64)] (kA Q k):=bK λk h=>aT (ok 45) Ck [aM h]
def Kn:=λa b c d e f w Q=>bB (tP a b c d e f w Q) (Bx [ae a,ae b,.slice c d e] 25 w λg w=>Al T 84 w λi w=>af .i64 g w λj=>af .i64 (g.add 1) w λl=>qq j l f w λm n w=>Al T 84 w λo w=>St (o.add 0) (ae m) w λw=>St (o.add 1) (ae n) w λw=>St (o.add 2) (.slice none 0 0) w λw=>∃k',kA Q k' f g i m n o 0 w) (ok 45) Ck [ct (MX Q)] Tryz.func31
def wH (Q:L3 WP)(R3:Addr->L3 (Int->WP))(a:Addr)(b:OA)(c d:Nat)(e:Int)(w:World):Prop:=af .i64 a w λf=>af .i64 (a.add 1) w λg=>pe f g w λi w=>cond (decide (e<i)) (af .i64 (a.add 0) w λj=>af .i64 (a.add 1) w λl=>aA (a.add 2) w λm n o=>tP j l m n o e w λp q r s t w=>sR p q r s t w λu v x y w=>App P #[22,22] 22 (.slice b c d) (.slice v x y) w λz a1 b1 w=>R3 a z a1 b1 (IntKind.wrap .i64 (e+1)) w) (Q b c d w)
def kB (Q:L3 WP):Nat->Addr->L3 (Int->WP)
 |0,_,_,_,_,_,_=>False
 |k+1,a,b,c,d,e,w=>wH Q (kB Q k) a b c d e w
def MY (Q):∀k,Bk 42 Tryz.f13 (Dc Q) 3 [(1,.a),(3,.l),(4,.i .i64)] (kB Q k):=bK λk h=>aT (ok 42) [] [aM h]
def Ko:=λa b c d e w Q=>bB (lE a b c d e w Q) (Bx [ae a,ae b,.slice c d e] 25 w λf w=>af .i64 f w λg=>af .i64 f w λi=>DS 8<|af .i64 (f.add 1) w λj=>af .i64 (f.add 1) w λl=>DS 8<|Bx [.int .u8 (IntKind.wrap .u8 g),.int .u8 (IntKind.wrap .u8 (o7 .i64 i 8)),.int .u8 (IntKind.wrap .u8 j),.int .u8 (IntKind.wrap .u8 (o7 .i64 l 8))] 5 w λm w=>∃k',kB Q k' f (some m) 4 4 0 w) (ok 42) [] [ct (MY Q)] Tryz.func13
def QF:=λa w Q=>bB (Fb a w Q) (cond a.isNone (Q none w) (wA a λb=>bg (b.add 2) w λc=>Q c w)) (ok 9) [] [] Tryz.func32
def MZ:=λa w Q=>bB (we a w Q) (Fb a w λb w=>mZ b w λc d e w=>Q c d e w) (ok 6) [] [] Tryz.func14
def m_ (Q:Bool->WP)(R4:L3 (L3 (Int->WP)))(a:OA)(b c:Nat)(d:OA)(e f:Nat)(g:Int)(w:World):Prop:=cond (decide (g<(b:Int))) (aJ g b<|wA a λi=>af .i64 ((i.add (g.toNat*2)).add 0) w.drew λj=>af .i64 ((i.add (g.toNat*2)).add 1) w.drew λl=>aJ g e<|wA d λm=>af .i64 ((m.add (g.toNat*2)).add 0) w.drew λn=>af .i64 ((m.add (g.toNat*2)).add 1) w.drew λo=>bW P .neq 51 (.tmp 20) (.tmp 24) (.agg #[ae j,ae l]) (.agg #[ae n,ae o]) w.drew λp w=>cond p (Q false w) (R4 a b c d e f (IntKind.wrap .i64 (g+1)) w)) (Q true w)
def kC (Q:Bool->WP):Nat->L3 (L3 (Int->WP))
 |0,_,_,_,_,_,_,_,_=>False
 |k+1,a,b,c,d,e,f,g,w=>m_ Q (kC Q k) a b c d e f g w
noncomputable def Cl:cv:=[(6,sp 0 8 (.op 8 .done))]
def M0 (Q):∀k,Bk 26 Tryz.f34 (De Q) 4 [(0,.l),(1,.l),(5,.i .i64)] (kC Q k):=bK λk h=>aT (ok 26) Cl [aM h]
def Kq:=λa b c d e f w Q=>bB (tQ a b c d e f w Q) (cond ((b:Int) !=(e:Int)) (Q false w) (∃k',kC Q k' a b c d e f 0 w)) (ok 26) Cl [ct (M0 Q)] Tryz.func34
def M1:=λw Q=>bB (ql w Q) (Em 1 2 w λa w=>cond a.isNone (Q false w) (Bx [.int .u8 5,.int .u8 2,.int .u8 9] 5 w λb w=>Al T 25 w λc w=>St (c.add 0) (ae 3) w λw=>St (c.add 1) (ae 1) w λw=>St (c.add 2) (.slice (some b) 3 3) w λw=>af .i64 (c.add 0) w λd=>af .i64 (c.add 1) w λe=>aA (c.add 2) w λf g i=>lE d e f g i w λj l m w=>ij a 1 0 0 j l m w λn o p q r s t u v x y z a1 b1 c1 d1 w=>Al T 34 w λe1 w=>St (e1.add 0) (ae n) w λw=>St (e1.add 1) (ae o) w λw=>St (e1.add 2) (ae p) w λw=>St (e1.add 3) (ae q) w λw=>St (e1.add 4) (.slice r s t) w λw=>St (e1.add 5) (.slice u v x) w λw=>St (e1.add 6) (.int .u64 y) w λw=>St (e1.add 7) (.int .u64 z) w λw=>St (e1.add 8) (.int .u64 a1) w λw=>St (e1.add 9) (.int .u64 b1) w λw=>St (e1.add 10) (.int .u64 c1) w λw=>St (e1.add 11) (.int .u64 d1) w λw=>ij a 3 0 2 none 0 0 w λf1 g1 i1 j1 l1 m1 n1 o1 p1 q1 r1 s1 t1 u1 v1 x1 w=>Al T 34 w λy1 w=>St (y1.add 0) (ae f1) w λw=>St (y1.add 1) (ae g1) w λw=>St (y1.add 2) (ae i1) w λw=>St (y1.add 3) (ae j1) w λw=>St (y1.add 4) (.slice l1 m1 n1) w λw=>St (y1.add 5) (.slice o1 p1 q1) w λw=>St (y1.add 6) (.int .u64 r1) w λw=>St (y1.add 7) (.int .u64 s1) w λw=>St (y1.add 8) (.int .u64 t1) w λw=>St (y1.add 9) (.int .u64 u1) w λw=>St (y1.add 10) (.int .u64 v1) w λw=>St (y1.add 11) (.int .u64 x1) w λw=>ij a 6 2 0 none 0 0 w λz1 a2 b2 c2 d2 e2 f2 g2 i2 j2 l2 m2 n2 o2 p2 q2 w=>Al T 34 w λr2 w=>St (r2.add 0) (ae z1) w λw=>St (r2.add 1) (ae a2) w λw=>St (r2.add 2) (ae b2) w λw=>St (r2.add 3) (ae c2) w λw=>St (r2.add 4) (.slice d2 e2 f2) w λw=>St (r2.add 5) (.slice g2 i2 j2) w λw=>St (r2.add 6) (.int .u64 l2) w λw=>St (r2.add 7) (.int .u64 m2) w λw=>St (r2.add 8) (.int .u64 n2) w λw=>St (r2.add 9) (.int .u64 o2) w λw=>St (r2.add 10) (.int .u64 p2) w λw=>St (r2.add 11) (.int .u64 q2) w λw=>ij a 7 0 0 none 0 0 w λs2 t2 u2 v2 x2 y2 z2 a3 b3 c3 d3 e3 f3 g3 i3 j3 w=>Al T 34 w λl3 w=>St (l3.add 0) (ae s2) w λw=>St (l3.add 1) (ae t2) w λw=>St (l3.add 2) (ae u2) w λw=>St (l3.add 3) (ae v2) w λw=>St (l3.add 4) (.slice x2 y2 z2) w λw=>St (l3.add 5) (.slice a3 b3 c3) w λw=>St (l3.add 6) (.int .u64 d3) w λw=>St (l3.add 7) (.int .u64 e3) w λw=>St (l3.add 8) (.int .u64 f3) w λw=>St (l3.add 9) (.int .u64 g3) w λw=>St (l3.add 10) (.int .u64 i3) w λw=>St (l3.add 11) (.int .u64 j3) w λw=>af .i64 e1 w λm3=>cond (m3==0) (af .i64 (y1.add 3) w λn3=>cond (n3==0) (af .i64 (r2.add 1) w λo3=>cond (o3==11) (af .i64 (r2.add 2) w λp3=>cond (p3==1) (aA (l3.add 4) w λq3 r3 s3=>Bx [ae 0,ae 1] 51 w λt3 w=>tQ q3 r3 s3 (some t3) 1 1 w λu3 w=>cond u3 (we a w λv3 x3 y3 w=>Q ((x3:Int)==1) w) (Q false w)) (Q false w)) (Q false w)) (Q false w)) (Q false w))) (ok 57) [] [] Tryz.func15
def M3:=λa w Q=>bB (qp a w Q) (NZ 8<|cond ((Int.tmod a 8)==7) (Q 255 w) (cond (decide (a<160)) (NZ 4<|Q (IntKind.wrap .u8 (1+(Int.tmod a 4))) w) (Q a w))) (ok 12) [] [] Tryz.func36
def sF (P3:L3 (Addr->Addr->Int->WP))(Q:Int->Int->L3 WP)(a:OA)(b c:Nat)(d e:Addr)(f g:Int)(w:World):Prop:=aA (e.add 2) w.drew λi j l=>qp g w.drew λm w=>w.cell? (e.add 2)=some (.slice i j l)/\Bx [.int .u8 m] 5 w λn w=>w.cell? (e.add 2)=some (.slice i j l)/\App P #[22,22] 22 (.slice i j l) (.slice (some n) 1 1) w λo p q w=>St (e.add 2) (.slice o p q) w λw=>P3 a b c d e (IntKind.wrap .i64 (f+1)) w
def zx (Q:Int->Int->L3 WP)(R3:L3 (Addr->Addr->Int->WP))(a:OA)(b c:Nat)(d e:Addr)(f:Int)(w:World):Prop:=af .i64 e w λg=>af .i64 (e.add 1) w λi=>cond (decide (f<(IntKind.wrap .i64 (g*i)))) (cond (decide ((b:Int)>0)) (NZ (b:Int)<|NZ (b:Int)<|aJ (Int.tmod (IntKind.wrap .i64 (f+(IntKind.wrap .i64 ((IntKind.wrap .i64 (Int.tdiv f (b:Int)))*5)))) (b:Int)) b<|wA a λj=>af .u8 (j.add (((Int.tmod (IntKind.wrap .i64 (f+(IntKind.wrap .i64 ((IntKind.wrap .i64 (Int.tdiv f (b:Int)))*5)))) (b:Int))).toNat*1)) w λl=>sF R3 Q a b c d e f l w) (sF R3 Q a b c d e f 1 w)) (af .i64 (e.add 0) w λm=>af .i64 (e.add 1) w λn=>aA (e.add 2) w λo p q=>St (d.add 0) (ae m) w λw=>St (d.add 1) (ae n) w λw=>St (d.add 2) (.slice o p q) w λw=>af .i64 (d.add 0) w λr=>af .i64 (d.add 1) w λs=>aA (d.add 2) w λt u v=>Q r s t u v w)
def jS (Q:Int->Int->L3 WP):Nat->L3 (Addr->Addr->Int->WP)
 |0,_,_,_,_,_,_,_=>False
 |k+1,a,b,c,d,e,f,w=>zx Q (jS Q k) a b c d e f w
noncomputable def yc:cv:=[(9,sp 0 3 (.op 3 (.op 4 (.op 5 (.op 6 (.op 7 .done))))))]
def QG {P3}(Q)(H3:Bk 48 Tryz.f35 (rZ Q) 3 [(2,.l),(6,.a),(7,.a),(8,.i .i64)] P3):Bk 48 Tryz.f35 (rZ Q) 9 [(2,.l),(6,.a),(7,.a),(8,.i .i64),(9,.i .u8)] (sF P3 Q):=aT (ok 48) yc [aM H3]
def QH (Q):∀k,Bk 48 Tryz.f35 (rZ Q) 3 [(2,.l),(6,.a),(7,.a),(8,.i .i64)] (jS Q k):=bK λk h=>aT (ok 48) yc [aM (QG Q h)]
def M4:=λa b c d e w Q=>bB (qo a b c d e w Q) (Al T 25 w λf w=>aV a 1 40 w λg w=>aV b 1 40 w λi w=>Al T 25 w λj w=>St (j.add 0) (ae g) w λw=>St (j.add 1) (ae i) w λw=>St (j.add 2) (.slice none 0 0) w λw=>∃k',jS Q k' c d e f j 0 w) (ok 48) yc [ct (QH Q)] Tryz.func35
def iR (Q:Int->Int->Int->L3 WP)(a:Int)(b c d:Addr)(w:World):Prop:=af .i64 d w λe=>cond (e==1) (af .i64 (b.add 1) w.drew λf=>af .i64 (b.add 2) w.drew λg=>(Bx [.int .u8 2,.int .u8 0,.int .u8 1,.int .u8 0,.int .u8 1,.int .u8 (IntKind.wrap .u8 f),.int .u8 (IntKind.wrap .u8 g)] 5 w.drew λi w=>St (d.add 1) (ae 0) w λw=>w.cell? (b.add 2)=some (ae g)/\w.cell? (b.add 1)=some (ae f)/\St (d.add 2) (ae 0) w λw=>w.cell? (b.add 2)=some (ae g)/\w.cell? (b.add 1)=some (ae f)/\St (d.add 3) (.slice (some i) 7 7) w λw=>af .i64 (d.add 0) w λj=>af .i64 (d.add 1) w λl=>af .i64 (d.add 2) w λm=>aA (d.add 3) w λn o p=>St (c.add 0) (ae j) w λw=>St (c.add 1) (ae l) w λw=>St (c.add 2) (ae m) w λw=>St (c.add 3) (.slice n o p) w λw=>af .i64 (c.add 0) w λq=>af .i64 (c.add 1) w λr=>af .i64 (c.add 2) w λs=>aA (c.add 3) w λt u v=>Q q r s t u v w)/\(St (d.add 1) (ae 0) w.drew λw=>w.cell? (b.add 2)=some (ae g)/\w.cell? (b.add 1)=some (ae f)/\(Bx [.int .u8 2,.int .u8 0,.int .u8 1,.int .u8 0,.int .u8 1,.int .u8 (IntKind.wrap .u8 f),.int .u8 (IntKind.wrap .u8 g)] 5 w λx w=>St (d.add 2) (ae 0) w λw=>w.cell? (b.add 2)=some (ae g)/\w.cell? (b.add 1)=some (ae f)/\St (d.add 3) (.slice (some x) 7 7) w λw=>af .i64 (d.add 0) w λy=>af .i64 (d.add 1) w λz=>af .i64 (d.add 2) w λa1=>aA (d.add 3) w λb1 c1 d1=>St (c.add 0) (ae y) w λw=>St (c.add 1) (ae z) w λw=>St (c.add 2) (ae a1) w λw=>St (c.add 3) (.slice b1 c1 d1) w λw=>af .i64 (c.add 0) w λe1=>af .i64 (c.add 1) w λf1=>af .i64 (c.add 2) w λg1=>aA (c.add 3) w λi1 j1 l1=>Q e1 f1 g1 i1 j1 l1 w)/\(St (d.add 2) (ae 0) w λw=>w.cell? (b.add 2)=some (ae g)/\w.cell? (b.add 1)=some (ae f)/\Bx [.int .u8 2,.int .u8 0,.int .u8 1,.int .u8 0,.int .u8 1,.int .u8 (IntKind.wrap .u8 f),.int .u8 (IntKind.wrap .u8 g)] 5 w λm1 w=>St (d.add 3) (.slice (some m1) 7 7) w λw=>af .i64 (d.add 0) w λn1=>af .i64 (d.add 1) w λo1=>af .i64 (d.add 2) w λp1=>aA (d.add 3) w λq1 r1 s1=>St (c.add 0) (ae n1) w λw=>St (c.add 1) (ae o1) w λw=>St (c.add 2) (ae p1) w λw=>St (c.add 3) (.slice q1 r1 s1) w λw=>af .i64 (c.add 0) w λt1=>af .i64 (c.add 1) w λu1=>af .i64 (c.add 2) w λv1=>aA (c.add 3) w λx1 y1 z1=>Q t1 u1 v1 x1 y1 z1 w))) (cond (e==2) (af .i64 (b.add 1) w λa2=>aV a2 0 (IntKind.wrap .i64 (a-1)) w λb2 w=>St (d.add 1) (ae b2) w λw=>af .i64 (b.add 1) w λc2=>aV c2 0 1 w λd2 w=>St (d.add 2) (ae (IntKind.wrap .i64 (d2*255))) w λw=>af .i64 (d.add 0) w λe2=>af .i64 (d.add 1) w λf2=>af .i64 (d.add 2) w λg2=>aA (d.add 3) w λi2 j2 l2=>St (c.add 0) (ae e2) w λw=>St (c.add 1) (ae f2) w λw=>St (c.add 2) (ae g2) w λw=>St (c.add 3) (.slice i2 j2 l2) w λw=>af .i64 (c.add 0) w λm2=>af .i64 (c.add 1) w λn2=>af .i64 (c.add 2) w λo2=>aA (c.add 3) w λp2 q2 r2=>Q m2 n2 o2 p2 q2 r2 w) (cond (e==5) (St (d.add 2) (ae 0) w λw=>af .i64 (d.add 0) w λs2=>af .i64 (d.add 1) w λt2=>af .i64 (d.add 2) w λu2=>aA (d.add 3) w λv2 x2 y2=>St (c.add 0) (ae s2) w λw=>St (c.add 1) (ae t2) w λw=>St (c.add 2) (ae u2) w λw=>St (c.add 3) (.slice v2 x2 y2) w λw=>af .i64 (c.add 0) w λz2=>af .i64 (c.add 1) w λa3=>af .i64 (c.add 2) w λb3=>aA (c.add 3) w λc3 d3 e3=>Q z2 a3 b3 c3 d3 e3 w) (af .i64 (d.add 0) w λf3=>af .i64 (d.add 1) w λg3=>af .i64 (d.add 2) w λi3=>aA (d.add 3) w λj3 l3 m3=>St (c.add 0) (ae f3) w λw=>St (c.add 1) (ae g3) w λw=>St (c.add 2) (ae i3) w λw=>St (c.add 3) (.slice j3 l3 m3) w λw=>af .i64 (c.add 0) w λn3=>af .i64 (c.add 1) w λo3=>af .i64 (c.add 2) w λp3=>aA (c.add 3) w λq3 r3 s3=>Q n3 o3 p3 q3 r3 s3 w)))
noncomputable def D8:cv:=[(1,sp 0 2 (sp 3 3 (sp 8 2 (.br (.op 2 (.br (.op 6 (.op 7 (.br (.op 10 (.op 11 (.op 12 (.op 13 .done)))) (.op 12 (.op 10 (.op 11 (.op 13 .done))))))) (.op 12 (.op 6 (.op 7 (.op 10 (.op 11 (.op 13 .done)))))))) (.op 12 (.op 2 (.op 6 (.op 7 (.op 10 (.op 11 (.op 13 .done))))))))))),(4,sp 0 6 (.op 7 (.br (.op 6 (.op 8 (.op 9 (.op 10 (.op 11 (.op 12 .done)))))) (.op 8 (.op 9 (.br (.op 6 (.op 10 (.op 11 (.op 12 .done)))) (.op 10 (.op 6 (.op 11 (.op 12 .done))))))))))]
def QI (Q):Bk 49 Tryz.f37 (Fc Q) 2 [(1,.i .i64),(2,.a),(4,.a),(5,.a)] (iR Q):=aT (ok 49) D8 []
def M5:=λa b c d w Q=>bB (wj a b c d w Q) (Bx [ae a,ae b,ae c] 90 w λe w=>Al T 38 w λf w=>af .i64 (e.add 2) w.drew λg=>af .i64 (e.add 1) w.drew λi=>af .i64 (e.add 1) w.drew λj=>(aV g 1 6 w.drew λl w=>w.cell? (e.add 1)=some (ae j)/\w.cell? (e.add 1)=some (ae i)/\(aV i 0 5 w λm w=>w.cell? (e.add 1)=some (ae j)/\(aV j 0 9 w λn w=>Al T 38 w λo w=>w.cell? (e.add 1)=some (ae j)/\w.cell? (e.add 1)=some (ae i)/\w.cell? (e.add 2)=some (ae g)/\St (o.add 0) (ae l) w λw=>St (o.add 1) (ae (IntKind.wrap .i64 (d+m))) w λw=>St (o.add 2) (ae n) w λw=>St (o.add 3) (.slice none 0 0) w λw=>iR Q d e f o w)/\(Al T 38 w λp w=>w.cell? (e.add 1)=some (ae j)/\w.cell? (e.add 1)=some (ae i)/\w.cell? (e.add 2)=some (ae g)/\aV j 0 9 w λq w=>St (p.add 0) (ae l) w λw=>St (p.add 1) (ae (IntKind.wrap .i64 (d+m))) w λw=>St (p.add 2) (ae q) w λw=>St (p.add 3) (.slice none 0 0) w λw=>iR Q d e f p w))/\(Al T 38 w λr w=>w.cell? (e.add 1)=some (ae j)/\w.cell? (e.add 1)=some (ae i)/\w.cell? (e.add 2)=some (ae g)/\aV i 0 5 w λs w=>w.cell? (e.add 1)=some (ae j)/\aV j 0 9 w λt w=>St (r.add 0) (ae l) w λw=>St (r.add 1) (ae (IntKind.wrap .i64 (d+s))) w λw=>St (r.add 2) (ae t) w λw=>St (r.add 3) (.slice none 0 0) w λw=>iR Q d e f r w))/\(Al T 38 w.drew λu w=>w.cell? (e.add 1)=some (ae j)/\w.cell? (e.add 1)=some (ae i)/\w.cell? (e.add 2)=some (ae g)/\aV g 1 6 w λv w=>w.cell? (e.add 1)=some (ae j)/\w.cell? (e.add 1)=some (ae i)/\aV i 0 5 w λx w=>w.cell? (e.add 1)=some (ae j)/\aV j 0 9 w λy w=>St (u.add 0) (ae v) w λw=>St (u.add 1) (ae (IntKind.wrap .i64 (d+x))) w λw=>St (u.add 2) (ae y) w λw=>St (u.add 3) (.slice none 0 0) w λw=>iR Q d e f u w)) (ok 49) D8 [aM (QI Q)] Tryz.func37
def cP (P5:Int->Int->L3 (L3 (Addr->L3 (Int->Int->WP))))(Q:L3 WP)(a b:Int)(c:OA)(d e:Nat)(f:OA)(g i:Nat)(j:Addr)(l:OA)(m n:Nat)(o p:Int)(q:Addr)(w:World):Prop:=af .i64 (q.add 0) w λr=>af .i64 (q.add 1) w λs=>af .i64 (q.add 2) w λt=>aA (q.add 3) w λu v x=>Bx [ae r,ae s,ae t,.slice u v x] 38 w λy w=>App P #[46,46] 46 (.slice l m n) (.slice (some y) 1 1) w λz a1 b1 w=>P5 a b c d e f g i j z a1 b1 o (IntKind.wrap .i64 (p+1)) w
def nf (P5:Int->Int->L3 (L3 (Addr->L3 (Int->Int->WP))))(Q:L3 WP)(a b:Int)(c:OA)(d e:Nat)(f:OA)(g i:Nat)(j:Addr)(l:OA)(m n:Nat)(o p:Int)(q:Addr)(w:World):Prop:=St q (ae 3) w λw=>cP P5 Q a b c d e f g i j l m n o p q w
def qy (P5:Int->Int->L3 (L3 (Addr->L3 (Int->Int->WP))))(Q:L3 WP)(a b:Int)(c:OA)(d e:Nat)(f:OA)(g i:Nat)(j:Addr)(l:OA)(m n:Nat)(o p:Int)(q r:Addr)(w:World):Prop:=af .i64 (q.add 2) w λs=>qp (IntKind.wrap .u8 s) w λt w=>St r (ae 2) w λw=>St (r.add 2) (ae (IntKind.wrap .i64 t)) w λw=>cP P5 Q a b c d e f g i j l m n o p r w
def jq (P5:Int->Int->L3 (L3 (Addr->L3 (Int->Int->WP))))(Q:L3 WP)(a b:Int)(c:OA)(d e:Nat)(f:OA)(g i:Nat)(j:Addr)(l:OA)(m n:Nat)(o p:Int)(q r:Addr)(w:World):Prop:=af .i64 q w λs=>aV s 0 15 w λt w=>cond (t==0) (nf P5 Q a b c d e f g i j l m n o p r w) (cond (t==1) (nf P5 Q a b c d e f g i j l m n o p r w) (cond (t==2) (nf P5 Q a b c d e f g i j l m n o p r w) (cond (t==3) (af .i64 (q.add 1) w λu=>aV u 0 9 w λv w=>St r (ae 4) w λw=>St (r.add 1) (ae v) w λw=>cP P5 Q a b c d e f g i j l m n o p r w) (cond (t==4) (af .i64 (q.add 1) w λx=>aV x 0 9 w λy w=>St r (ae 5) w λw=>St (r.add 1) (ae y) w λw=>St (r.add 2) (ae 0) w λw=>cP P5 Q a b c d e f g i j l m n o p r w) (cond (t==5) (qy P5 Q a b c d e f g i j l m n o p q r w) (cond (t==6) (qy P5 Q a b c d e f g i j l m n o p q r w) (cond (t==7) (St r (ae 6) w λw=>cP P5 Q a b c d e f g i j l m n o p r w) (cond (t==8) (St r (ae 6) w λw=>cP P5 Q a b c d e f g i j l m n o p r w) (cond (t==9) (St (r.add 0) (ae 8) w λw=>St (r.add 1) (ae 0) w λw=>St (r.add 2) (ae 0) w λw=>St (r.add 3) (.slice none 0 0) w λw=>cP P5 Q a b c d e f g i j l m n o p r w) (cond (t==10) (af .i64 (q.add 1) w λz=>NZ 4<|cond ((Int.tmod z 4)==0) (af .i64 (q.add 1) w λa1=>NZ 4<|af .i64 (q.add 2) w λb1=>qo (IntKind.wrap .i64 (a+(IntKind.wrap .i64 (Int.tdiv a1 4)))) (IntKind.wrap .i64 (b+b1)) c d e w λc1 d1 e1 f1 g1 w=>St (j.add 0) (ae c1) w λw=>St (j.add 1) (ae d1) w λw=>St (j.add 2) (.slice e1 f1 g1) w λw=>aA (j.add 2) w λi1 j1 l1=>af .i64 (j.add 0) w λm1=>af .i64 (j.add 1) w λn1=>aA (j.add 2) w λo1 p1 q1=>lE m1 n1 o1 p1 q1 w λr1 s1 t1 w=>St (r.add 0) (ae 1) w λw=>St (r.add 1) (ae 0) w λw=>St (r.add 2) (ae 0) w λw=>St (r.add 3) (.slice r1 s1 t1) w λw=>cP P5 Q a b c d e f g i j l m n (j1:Int) p r w) (af .i64 (q.add 2) w λu1=>aV u1 0 200 w λv1 w=>St (r.add 0) (ae 0) w λw=>St (r.add 1) (ae (IntKind.wrap .i64 (9+v1))) w λw=>St (r.add 2) (ae 0) w λw=>St (r.add 3) (.slice none 0 0) w λw=>cP P5 Q a b c d e f g i j l m n o p r w)) (cond (t==11) (af .i64 (q.add 0) w λx1=>af .i64 (q.add 1) w λy1=>af .i64 (q.add 2) w λz1=>wj x1 y1 z1 o w λa2 b2 c2 d2 e2 f2 w=>St (r.add 0) (ae a2) w λw=>St (r.add 1) (ae b2) w λw=>St (r.add 2) (ae c2) w λw=>St (r.add 3) (.slice d2 e2 f2) w λw=>cP P5 Q a b c d e f g i j l m n o p r w) (St (r.add 0) (ae 7) w λw=>St (r.add 1) (ae 0) w λw=>St (r.add 2) (ae 0) w λw=>St (r.add 3) (.slice none 0 0) w λw=>cP P5 Q a b c d e f g i j l m n o p r w))))))))))))
def nQ (Q:L3 WP)(R5:Int->Int->L3 (L3 (Addr->L3 (Int->Int->WP))))(a b:Int)(c:OA)(d e:Nat)(f:OA)(g i:Nat)(j:Addr)(l:OA)(m n:Nat)(o p:Int)(w:World):Prop:=cond (decide (p<(g:Int))) (cond (decide (p<60)) (aJ p g<|wA f λq=>af .i64 ((q.add (p.toNat*3)).add 0) w λr=>af .i64 ((q.add (p.toNat*3)).add 1) w λs=>af .i64 ((q.add (p.toNat*3)).add 2) w λt=>Al T 90 w λu w=>St (u.add 0) (ae r) w λw=>St (u.add 1) (ae s) w λw=>St (u.add 2) (ae t) w λw=>af .i64 (u.add 1) w.drew λv=>af .i64 (u.add 2) w.drew λx=>(aV v 0 (IntKind.wrap .i64 (o-1)) w.drew λy w=>w.cell? (u.add 2)=some (ae x)/\(aV x 0 (IntKind.wrap .i64 (o-1)) w λz w=>Al T 38 w λa1 w=>w.cell? (u.add 2)=some (ae x)/\w.cell? (u.add 1)=some (ae v)/\St (a1.add 0) (ae 0) w λw=>St (a1.add 1) (ae y) w λw=>St (a1.add 2) (ae z) w λw=>St (a1.add 3) (.slice none 0 0) w λw=>jq R5 Q a b c d e f g i j l m n o p u a1 w)/\(Al T 38 w λb1 w=>w.cell? (u.add 2)=some (ae x)/\w.cell? (u.add 1)=some (ae v)/\aV x 0 (IntKind.wrap .i64 (o-1)) w λc1 w=>St (b1.add 0) (ae 0) w λw=>St (b1.add 1) (ae y) w λw=>St (b1.add 2) (ae c1) w λw=>St (b1.add 3) (.slice none 0 0) w λw=>jq R5 Q a b c d e f g i j l m n o p u b1 w))/\(Al T 38 w.drew λd1 w=>w.cell? (u.add 2)=some (ae x)/\w.cell? (u.add 1)=some (ae v)/\aV v 0 (IntKind.wrap .i64 (o-1)) w λe1 w=>w.cell? (u.add 2)=some (ae x)/\aV x 0 (IntKind.wrap .i64 (o-1)) w λf1 w=>St (d1.add 0) (ae 0) w λw=>St (d1.add 1) (ae e1) w λw=>St (d1.add 2) (ae f1) w λw=>St (d1.add 3) (.slice none 0 0) w λw=>jq R5 Q a b c d e f g i j l m n o p u d1 w)) (Q l m n w)) (Q l m n w)
def jr (Q:L3 WP):Nat->Int->Int->L3 (L3 (Addr->L3 (Int->Int->WP)))
 |0,_,_,_,_,_,_,_,_,_,_,_,_,_,_,_=>False
 |k+1,a,b,c,d,e,f,g,i,j,l,m,n,o,p,w=>nQ Q (jr Q k) a b c d e f g i j l m n o p w
noncomputable def kE:cv:=[(8,sp 0 4 (sp 5 4 (.br (.op 4 (.br (.op 9 (.op 10 (.op 11 (.op 12 .done)))) (.op 11 (.op 9 (.op 10 (.op 12 .done)))))) (.op 11 (.op 4 (.op 9 (.op 10 (.op 12 .done))))))))]
def wI {P5}(Q)(H5:Bk 130 Tryz.f16 (fK Q) 5 [(0,.i .i64),(1,.i .i64),(2,.l),(3,.l),(9,.a),(10,.l),(11,.i .i64),(12,.i .i64)] P5):Bk 130 Tryz.f16 (fK Q) 35 [(0,.i .i64),(1,.i .i64),(2,.l),(3,.l),(9,.a),(10,.l),(11,.i .i64),(12,.i .i64),(14,.a)] (cP P5 Q):=aT (ok 130) kE [aM H5]
def M6 {P5}(Q)(H5:Bk 130 Tryz.f16 (fK Q) 5 [(0,.i .i64),(1,.i .i64),(2,.l),(3,.l),(9,.a),(10,.l),(11,.i .i64),(12,.i .i64)] P5):Bk 130 Tryz.f16 (fK Q) 14 [(0,.i .i64),(1,.i .i64),(2,.l),(3,.l),(9,.a),(10,.l),(11,.i .i64),(12,.i .i64),(14,.a)] (nf P5 Q):=aT (ok 130) kE [aM (wI Q H5)]
def M7 {P5}(Q)(H5:Bk 130 Tryz.f16 (fK Q) 5 [(0,.i .i64),(1,.i .i64),(2,.l),(3,.l),(9,.a),(10,.l),(11,.i .i64),(12,.i .i64)] P5):Bk 130 Tryz.f16 (fK Q) 21 [(0,.i .i64),(1,.i .i64),(2,.l),(3,.l),(9,.a),(10,.l),(11,.i .i64),(12,.i .i64),(13,.a),(14,.a)] (qy P5 Q):=aT (ok 130) kE [aM (wI Q H5)]
def OP {P5}(Q)(H5:Bk 130 Tryz.f16 (fK Q) 5 [(0,.i .i64),(1,.i .i64),(2,.l),(3,.l),(9,.a),(10,.l),(11,.i .i64),(12,.i .i64)] P5):Bk 130 Tryz.f16 (fK Q) 9 [(0,.i .i64),(1,.i .i64),(2,.l),(3,.l),(9,.a),(10,.l),(11,.i .i64),(12,.i .i64),(13,.a),(14,.a)] (jq P5 Q):=aT (ok 130) kE [aM (M6 Q H5),aM (M7 Q H5),aM (wI Q H5)]
def OQ (Q):∀k,Bk 130 Tryz.f16 (fK Q) 5 [(0,.i .i64),(1,.i .i64),(2,.l),(3,.l),(9,.a),(10,.l),(11,.i .i64),(12,.i .i64)] (jr Q k):=bK λk h=>aT (ok 130) kE [aM (OP Q h)]
def LA:=λa b c d e f g i w Q=>bB (uX a b c d e f g i w Q) (qo a b c d e w λj l m n o w=>Al T 25 w λp w=>St (p.add 0) (ae j) w λw=>St (p.add 1) (ae l) w λw=>St (p.add 2) (.slice m n o) w λw=>af .i64 (p.add 0) w λq=>af .i64 (p.add 1) w λr=>aA (p.add 2) w λs t u=>lE q r s t u w λv x y w=>Bx [ae 1,ae 0,ae 0,.slice v x y] 38 w λz w=>aA (p.add 2) w λa1 b1 c1=>∃k',jr Q k' a b c d e f g i p (some z) 1 1 (b1:Int) 0 w) (ok 130) kE [ct (OQ Q)] Tryz.func16
def QJ:=λa b c d w Q=>bB (yM a b c d w Q) (bT a b c 3 none (some (Ds (b:Int) d)) λe f g=>Q e f g w) (ok 11) [] [] Tryz.func17
noncomputable def V0:cv:=[(3,sp 0 15 (.op 15 (.op 16 (.op 17 .done))))]
def UM:=λa w Q=>bB (A6 a w Q) (Al T 25 w λb w=>cond a.isNone (St (b.add 0) (ae 0) w λw=>St (b.add 1) (ae 0) w λw=>St (b.add 2) (.slice none 0 0) w λw=>af .i64 (b.add 0) w λc=>af .i64 (b.add 1) w λd=>aA (b.add 2) w λe f g=>Q c d e f g w) (wA a λi=>af .i64 i w.drew λj=>wA a λl=>af .i64 (l.add 1) w.drew λm=>wA a λn=>aA (n.add 2) w.drew λo p q=>jJ o p q w.drew λr s t w=>w.cell? (l.add 1)=some (ae m)/\w.cell? i=some (ae j)/\St (b.add 0) (ae j) w λw=>St (b.add 1) (ae m) w λw=>St (b.add 2) (.slice r s t) w λw=>af .i64 (b.add 0) w λu=>af .i64 (b.add 1) w λv=>aA (b.add 2) w λx y z=>Q u v x y z w)) (ok 23) V0 [] Tryz.func67
def Ya:=λa w Q=>bB (Dw a w Q) (Al T 25 w λb w=>cond a.isNone (St (b.add 0) (ae 0) w λw=>St (b.add 1) (ae 0) w λw=>St (b.add 2) (.slice none 0 0) w λw=>af .i64 (b.add 0) w λc=>af .i64 (b.add 1) w λd=>aA (b.add 2) w λe f g=>Q c d e f g w) (wA a λi=>bg i w λj=>A6 j w λl m n o p w=>St (b.add 0) (ae l) w λw=>St (b.add 1) (ae m) w λw=>St (b.add 2) (.slice n o p) w λw=>af .i64 (b.add 0) w λq=>af .i64 (b.add 1) w λr=>aA (b.add 2) w λs t u=>Q q r s t u w)) (ok 11) [] [] Tryz.func40
def QK:=λa w Q=>bB (oh a w Q) (Al T 25 w λb w=>yN a w λc w=>Dw c w λd e f g i w=>St (b.add 0) (ae d) w λw=>St (b.add 1) (ae e) w λw=>St (b.add 2) (.slice f g i) w λw=>af .i64 (b.add 0) w λj=>af .i64 (b.add 1) w λl=>aA (b.add 2) w λm n o=>Q j l m n o w) (ok 6) [] [] Tryz.func19
def oP (Q:Bool->WP)(R2:L3 (Int->WP))(a:OA)(b c:Nat)(d:Int)(w:World):Prop:=cond (decide (d<(b:Int))) (aJ d b<|wA a λe=>af .u8 (e.add (d.toNat*1)) w λf=>cond (f==0) (Q false w) (R2 a b c (IntKind.wrap .i64 (d+1)) w)) (Q true w)
def sG (Q:Bool->WP):Nat->L3 (Int->WP)
 |0,_,_,_,_,_=>False
 |k+1,a,b,c,d,w=>oP Q (sG Q k) a b c d w
def QL (Q):∀k,Bk 15 Tryz.f66 (Ff Q) 2 [(0,.l),(3,.i .i64)] (sG Q k):=bK λk h=>aT (ok 15) [] [aM h]
def M8:=λa b c w Q=>bB (Df a b c w Q) (∃k',sG Q k' a b c 0 w) (ok 15) [] [ct (QL Q)] Tryz.func66
def Kr:=λa b c d e w Q=>bB (tR a b c d e w Q) (Bx [ae a,ae b,.slice c d e] 25 w λf w=>af .i64 f w λg=>af .i64 (f.add 1) w λi=>rm g i w λj w=>cond j (aA (f.add 2) w λl m n=>af .i64 f w λo=>af .i64 (f.add 1) w λp=>cond ((m:Int)==(IntKind.wrap .i64 (o*p))) (aA (f.add 2) w λq r s=>Df q r s w λt w=>Q t w) (Q false w)) (Q false w)) (ok 24) [] [] Tryz.func38
def nR (Q:OA->WP)(R6:OA->L3 (Int->WP))(a b:OA)(c d:Nat)(e:Int)(w:World):Prop:=cond (decide (e<(c:Int))) (aJ e c<|wA b λf=>af .i64 ((f.add (e.toNat*4)).add 0) w λg=>af .i64 ((f.add (e.toNat*4)).add 1) w λi=>af .i64 ((f.add (e.toNat*4)).add 2) w λj=>aA ((f.add (e.toNat*4)).add 3) w λl m n=>ij a g i j l m n w λo p q r s t u v x y z a1 b1 c1 d1 e1 w=>R6 a b c d (IntKind.wrap .i64 (e+1)) w) (oh a w λf1 g1 i1 j1 l1 w=>tR f1 g1 i1 j1 l1 w λm1 w=>cond (!m1) (Q none w) (Q a w))
def rC (Q:OA->WP):Nat->OA->L3 (Int->WP)
 |0,_,_,_,_,_,_=>False
 |k+1,a,b,c,d,e,w=>nR Q (rC Q k) a b c d e w
def OR (Q):∀k,Bk 43 Tryz.f18 (DV Q) 6 [(13,.p),(14,.l),(15,.i .i64)] (rC Q k):=bK λk h=>aT (ok 43) [] [aM h]
def LB:=λa b c d e f g i j l w Q=>bB (uY a b c d e f g i j l w Q) (Em a b w λm w=>cond m.isNone (Q none w) (uX c d e f g i j l w λn o p w=>∃k',rC Q k' m n o p 0 w)) (ok 43) [] [ct (OR Q)] Tryz.func18
noncomputable def OS:cv:=[(2,sp 0 7 (.op 7 (.op 8 (.op 9 .done))))]
def M9:=λa b c w Q=>bB (qm a b c w Q) (ij a 6 b c none 0 0 w λd e f g i j l m n o p q r s t u w=>Al T 34 w λv w=>St (v.add 0) (ae d) w λw=>St (v.add 1) (ae e) w λw=>St (v.add 2) (ae f) w λw=>St (v.add 3) (ae g) w λw=>St (v.add 4) (.slice i j l) w λw=>St (v.add 5) (.slice m n o) w λw=>St (v.add 6) (.int .u64 p) w λw=>St (v.add 7) (.int .u64 q) w λw=>St (v.add 8) (.int .u64 r) w λw=>St (v.add 9) (.int .u64 s) w λw=>St (v.add 10) (.int .u64 t) w λw=>St (v.add 11) (.int .u64 u) w λw=>af .i64 (v.add 1) w.drew λx=>af .i64 (v.add 2) w.drew λy=>af .i64 v w.drew λz=>w.drew.cell? v=some (ae z)/\w.drew.cell? (v.add 2)=some (ae y)/\w.drew.cell? v=some (ae z)/\Q x y (z==0) w.drew) (ok 22) OS [] Tryz.func20
def lJ (Q:Bool->WP)(a b:Int)(w:World):Prop:=ql w λc w=>cond c (cond ((a==1099511627776)==(b==5)) (cond (a==1099511627776) (Q true w) (cond (b==4) (Q (a==0) w) (Q false w))) (Q false w)) (Q false w)
def lK (P12:OA->Addr->Int->Int->Int->Int->Int->WP)(Q:Bool->WP)(a:OA)(b:Addr)(c d e f g:Int)(w:World):Prop:=cond (g==f) (Q false w) (P12 a b c d e f (IntKind.wrap .i64 (g+1)) w)
def lN (Q:Bool->WP)(R12:OA->Addr->Int->Int->Int->Int->Int->WP)(a:OA)(b:Addr)(c d e f g:Int)(w:World):Prop:=cond (decide (g<=3)) (af .i64 b w λi=>af .i64 (b.add 1) w λj=>l_ i j d g w λl w=>aA (b.add 2) w λm n o=>cond (decide (l≥(n:Int))) (Q false w) (cond (decide (l<0)) (lK R12 Q a b c d e f g w) (aA (b.add 2) w λp q r=>aJ l q<|wA p λs=>af .u8 (s.add (l.toNat*1)) w λt=>cond (t==255) (lK R12 Q a b c d e f g w) (qm a c l w λu v x w=>cond (!x) (Q false w) (aA (b.add 2) w λy z a1=>aJ l z<|wA y λb1=>af .u8 (b1.add (l.toNat*1)) w λc1=>cond (decide ((IntKind.wrap .i64 (u+(IntKind.wrap .i64 c1)))<e)) (Q false w) (cond (decide (g<f)) (aA (b.add 2) w λd1 e1 f1=>aJ l e1<|wA d1 λg1=>af .u8 (g1.add (l.toNat*1)) w λi1=>cond ((IntKind.wrap .i64 (u+(IntKind.wrap .i64 i1)))==e) (Q false w) (cond (g==f) (aA (b.add 2) w λj1 l1 m1=>aJ l l1<|wA j1 λn1=>af .u8 (n1.add (l.toNat*1)) w λo1=>cond ((IntKind.wrap .i64 (u+(IntKind.wrap .i64 o1))) !=e) (Q false w) (R12 a b c d e f (IntKind.wrap .i64 (g+1)) w)) (R12 a b c d e f (IntKind.wrap .i64 (g+1)) w))) (cond (g==f) (aA (b.add 2) w λp1 q1 r1=>aJ l q1<|wA p1 λs1=>af .u8 (s1.add (l.toNat*1)) w λt1=>cond ((IntKind.wrap .i64 (u+(IntKind.wrap .i64 t1))) !=e) (Q false w) (R12 a b c d e f (IntKind.wrap .i64 (g+1)) w)) (R12 a b c d e f (IntKind.wrap .i64 (g+1)) w)))))))) (ql w λu1 w=>cond u1 (Q (decide (f<=3)) w) (Q false w))
def jz (Q:Bool->WP):Nat->OA->Addr->Int->Int->Int->Int->Int->WP
 |0,_,_,_,_,_,_,_,_=>False
 |k+1,a,b,c,d,e,f,g,w=>lN Q (jz Q k) a b c d e f g w
noncomputable def oU:cv:=[(5,sp 0 5 (sp 6 5 (.op 5 (.op 11 (.op 12 (.op 13 .done))))))]
def Ks (Q):Bk 174 Tryz.f6 (l9 Q) 10 [(17,.i .i64),(18,.i .i64)] (lJ Q):=aT (ok 174) oU []
def Kt {P12}(Q)(H12:Bk 174 Tryz.f6 (l9 Q) 12 [(13,.p),(14,.a),(15,.i .i64),(16,.i .i64),(17,.i .i64),(18,.i .i64),(20,.i .i64)] P12):Bk 174 Tryz.f6 (l9 Q) 18 [(13,.p),(14,.a),(15,.i .i64),(16,.i .i64),(17,.i .i64),(18,.i .i64),(20,.i .i64)] (lK P12 Q):=aT (ok 174) oU [aM H12]
def Ku (Q):∀k,Bk 174 Tryz.f6 (l9 Q) 12 [(13,.p),(14,.a),(15,.i .i64),(16,.i .i64),(17,.i .i64),(18,.i .i64),(20,.i .i64)] (jz Q k):=bK λk h=>aT (ok 174) oU [aM h,aM (Kt Q h)]
def JL:=λa b c d e f g i j l w Q=>bB (AJ a b c d e f g i j l w Q) (yM f g i 12 w λm n o w=>uY 4 5 a b c d e m n o w λp w=>cond p.isNone (Q false w) (oh p w λq r s t u w=>Al T 25 w λv w=>St (v.add 0) (ae q) w λw=>St (v.add 1) (ae r) w λw=>St (v.add 2) (.slice s t u) w λw=>aA (v.add 2) w.drew λx y z=>aA (v.add 2) w.drew λa1 b1 c1=>aV j 0 (IntKind.wrap .i64 ((y:Int)-1)) w.drew λd1 w=>w.cell? (v.add 2)=some (.slice a1 b1 c1)/\aV l 0 (IntKind.wrap .i64 ((b1:Int)-1)) w λe1 w=>qm p d1 e1 w λf1 g1 i1 w=>cond (!i1) (Q false w) (cond (f1==1099511627776) (lJ Q f1 g1 w) (cond (e1==d1) (lJ Q f1 g1 w) (∃k',jz Q k' p v d1 e1 f1 g1 0 w))))) (ok 174) oU [aM (Ks Q),ct (Ku Q)] Tryz.func6
def SC:=λa w Q=>bB (Gc a w Q) (wA a λb=>bY (b.add 1) w λc=>dV c λd=>Q d w) (ok 7) [] [] Tryz.func302
def M_:=λa w Q=>bB (Di a w Q) (wA a λb=>bY (b.add 1) w λc=>dV c λd=>Q d w) (ok 7) [] [] Tryz.func321
def QM:=λa w Q=>bB (Fm a w Q) (wA a λb=>bY (b.add 1) w λc=>dV c λd=>Q d w) (ok 7) [] [] Tryz.func325
end Go.Proofs.YtmegplnmiepfbaaGreatDoor.S
namespace Go.Proofs.YtmegplnmiepfbaaGreatDoor.S
open Go.Sx
attribute [local irreducible] af cE bw bg aA cu bY St Bx Al App cJ cB cz bW aL bD aq bT av ak aW mapA
def ee:wR P T:=EB P rows HB
def dN {a b:Int}(h:a=b):(a==b)=true:=by grind
def cy {a b:Int}(h:¬a=b):(a==b)=false:=by grind
def Gk {a b:Int}(h:¬a=b):(a !=b)=true:=by grind
def Es {a b:Int}(h:a=b):(a !=b)=false:=by grind
section
variable {F:Nat->Prop}{W w0:World}{L:List As}{mw mh c:Int}
def pQ {Q:Bool->World->Prop}(h:Q (decide (iO mw mh)) w0):lF mw mh w0 Q:=by
 apply abe;have e:decide (iO mw mh)=(decide (mw≥1)&&(decide (mw<=1024)&&(decide (mh≥1)&&decide (mh<=1024)))):=by rw[Bool.eq_iff_iff];simp[Bool.and_eq_true,decide_eq_true_eq];exact⟨λ⟨⟨a,b⟩,c,d⟩=>⟨a,b,c,d⟩,λ⟨a,b,c,d⟩=>⟨⟨a,b⟩,c,d⟩⟩
 grind
def HR {Q:Bool->World->Prop}(h:Q (decide (bF mw mh c)) w0):yP mw mh c w0 Q:=by
 apply adA;apply pQ;by_cases hm:iO mw mh
 ·have:=mY hm;rw[bM hm,aG];have e:decide (bF mw mh c)=(decide (c≥0)&&decide (c<mw*mh)):=by rw[Bool.eq_iff_iff];simp[bF,Bool.and_eq_true,decide_eq_true_eq,hm,true_and,ge_iff_le]
  grind
 ·rw[bq hm];rw[decide_eq_false (λe=>hm e.1)]at h;exact h
def qY {x y:Int}{Q:Int->World->Prop}(h:Q (gW mw mh x y) w0):z6 mw mh x y w0 Q:=by
 apply Zt;apply pQ;by_cases hm:iO mw mh
 ·rw[decide_eq_true hm,Bool.not_true,cond_false];by_cases h1:x<0
  ·rw[bM h1];rw[sP (by omega)]at h;exact h
  rw[bq h1];by_cases h2:x≥mw
  ·rw[bM h2];rw[sP (by omega)]at h;exact h
  rw[bq h2];by_cases h3:y<0
  ·rw[bM h3];rw[sP (by omega)]at h;exact h
  rw[bq h3];by_cases h4:y≥mh
  ·rw[bM h4];rw[sP (by omega)]at h;exact h
  rw[bq h4];rw[ni hm (by omega) (by omega)]at h;have hr:=IS (aa0 (x:=x) (y:=y) hm (by omega) (by omega));have h0:0<=y*mw:=Int.mul_nonneg (by omega) (by omega);rw[aG (n:=y*mw),aG];exact h
 ·unfold gW at h;grind
def DJ {Q:Int->Int->World->Prop}(s0:Sep F W w0 L)(h:∀w',Sep F W w' L->Fr No w0 w'->Q (if bF mw mh c then c%mw else-1) (if bF mw mh c then c/mw else-1) w'):s9 mw mh c w0 Q:=by
 apply XU;apply HR;by_cases hc:bF mw mh c
 ·have U7:=hc.2;have hx:=Iq hc;have D9:=hc.1.2;rw[decide_eq_true hc,Bool.not_true,cond_false];refine⟨by omega,⟨by omega,?_⟩⟩;rw[Int.tmod_eq_emod_of_nonneg U7.1,Int.tdiv_eq_ediv_of_nonneg U7.1,aG];have:=h _ (ay s0) Fr.refl;grind
 ·have:=h _ s0 Fr.refl;grind
def jt {sd:Int}{Q:Int->World->Prop}(s0:Sep F W w0 L)(h:∀w',Sep F W w' L->Fr No w0 w'->Q (aX mw mh c sd) w'):l_ mw mh c sd w0 Q:=by
 apply Zw;refine DJ s0 λw s f=>?_;have h:=h w s f;unfold aX at h;by_cases hc:bF mw mh c
 ·rw[if_pos hc,if_pos hc];rw[if_pos hc]at h;have hx:=Iq hc;have hm:=hc.1.1;have D9:=hc.1.2;rw[bq];by_cases k0:sd=0
  ·rw[dN k0,cond_true];rw[if_pos k0]at h;unfold xj nA;rw[aG];exact qY h
  rw[cy k0,cond_false];rw[if_neg k0]at h;by_cases k2:sd=2
  ·rw[dN k2,cond_true];rw[if_pos k2]at h;unfold xj nA;rw[aG];exact qY h
  rw[cy k2,cond_false];rw[if_neg k2]at h;by_cases k3:sd=3
  ·rw[dN k3,cond_true];rw[if_pos k3]at h;unfold xk nA;rw[aG];exact qY h
  rw[cy k3,cond_false];rw[if_neg k3]at h;by_cases k1:sd=1
  ·rw[dN k1,cond_true];rw[if_pos k1]at h;unfold xk nA;rw[aG];exact qY h
  rw[cy k1,cond_false];rw[if_neg k1]at h;by_cases k4:sd=4
  ·rw[dN k4,cond_true];rw[if_pos k4]at h;exact qY h
  grind
 grind
def Ap (w h a b:Int):Int:=
 if bF w h a/\bF w h b then if aX w h a 0=b then 0 else if aX w h a 1=b then 1 else if aX w h a 2=b then 2 else if aX w h a 3=b then 3 else if aX w h a 4=b then 4 else 5 else 5
def ZR {b:Int}{Q:Int->World->Prop}(s0:Sep F W w0 L)(h:∀w',Sep F W w' L->Fr No w0 w'->Q (Ap mw mh c b) w'):EL mw mh c b w0 Q:=by
 apply ZB;apply HR;by_cases hc:bF mw mh c
 ·rw[decide_eq_true hc,Bool.not_true,cond_false];apply HR;by_cases hb:bF mw mh b
  ·rw[decide_eq_true hb,Bool.not_true,cond_false];have s:=bh (F:=No) (w:=w0);have fin:∀(w:World) (r:Int),Ap mw mh c b=r->Sep No w0 w []->Q r w:=by intro w r e s;subst e;exact h _ (bS s0 (au s)) (au s)
   unfold Ap at fin;refine⟨6,?_⟩;show iC Q (mU Q 5) _ _ _ _ _ _;unfold iC;refine jt s λw s _=>?_;by_cases k0:aX mw mh c 0=b
   ·grind
   rw[cy k0,cond_false,wrap_i64 (by decide) (by decide)];show iC Q (mU Q 4) _ _ _ _ _ _;unfold iC;refine jt s λw s _=>?_;by_cases k0:aX mw mh c 1=b
   ·grind
   rw[show(aX mw mh c (0+1)==b)=false from cy k0,cond_false,wrap_i64 (by decide) (by decide)];show iC Q (mU Q 3) _ _ _ _ _ _;unfold iC;refine jt s λw s _=>?_;by_cases k0:aX mw mh c 2=b
   ·grind
   rw[show(aX mw mh c (0+1+1)==b)=false from cy k0,cond_false,wrap_i64 (by decide) (by decide)];show iC Q (mU Q 2) _ _ _ _ _ _;unfold iC;refine jt s λw s _=>?_;by_cases k0:aX mw mh c 3=b
   ·grind
   rw[show(aX mw mh c (0+1+1+1)==b)=false from cy k0,cond_false,wrap_i64 (by decide) (by decide)];show iC Q (mU Q 1) _ _ _ _ _ _;unfold iC;refine jt s λw s _=>?_;by_cases k0:aX mw mh c 4=b
   ·grind
   rw[show(aX mw mh c (0+1+1+1+1)==b)=false from cy k0,cond_false,wrap_i64 (by decide) (by decide)];show iC Q (mU Q 0) _ _ _ _ _ _;unfold iC;grind
  ·have:=h _ s0 Fr.refl;unfold Ap at this;grind
 ·have:=h _ s0 Fr.refl;unfold Ap at this;grind
def ZS (w h:Int):Int:=if iO w h then cQ w else 0
def adQ (w h:Int):Int:=if iO w h then cQ h else 0
def qN {Q:Int->Int->World->Prop}(h:Q (ZS mw mh) (adQ mw mh) w0):ld mw mh w0 Q:=by
 apply Ul;apply pQ;unfold ZS adQ at h;by_cases hm:iO mw mh
 ·have h1:=hm.1;have h2:=hm.2;rw[decide_eq_true hm,Bool.not_true,cond_false];refine⟨by decide,by decide,?_⟩;rw[aG (n:=mw+16),aG (n:=mw+16-1),aG (n:=mh+16),aG (n:=mh+16-1),
   Int.tdiv_eq_ediv_of_nonneg (by omega),Int.tdiv_eq_ediv_of_nonneg (by omega),aG,aG]
  unfold cQ at h;grind
 grind
def eZ {Q:Int->World->Prop}(s0:Sep F W w0 L)(h:∀w',Sep F W w' L->Fr No w0 w'->Q (aC mw mh c) w'):dY mw mh c w0 Q:=by
 apply Vy;refine DJ s0 λw s f=>?_;have h:=h w s f;unfold aC at h;by_cases hc:bF mw mh c
 ·rw[if_pos hc,if_pos hc];have hs:=(bV hc).2;unfold aC at hs;rw[if_pos hc]at h hs;have hx:=Iq hc;have hm:=hc.1;have ha:=Fa hm.1;have hcs:=gM hm.1 hm.2;rw[bq];apply qN;rw[ZS,if_pos hm];refine⟨by decide,by decide,?_⟩;have h2:=hm.2;have a:0<=c/mw/16*cQ mw:=Int.mul_nonneg (by omega) (by omega);rw[Int.tdiv_eq_ediv_of_nonneg (by omega),Int.tdiv_eq_ediv_of_nonneg (by omega),aG (n:=c/mw/16),aG (n:=c%mw/16),aG (n:=c/mw/16*cQ mw),aG];exact h
 grind
def I5 {sc:Int}{Q:Int->Int->Bool->World->Prop}(s0:Sep F W w0 L)(h:∀w',Sep F W w' L->Fr No w0 w'->Q (if dW mw mh sc then sc%cQ mw*16 else 0) (if dW mw mh sc then sc/cQ mw*16 else 0) (decide (dW mw mh sc)) w'):wZ mw mh sc w0 Q:=by
 apply Vv;apply qN;have no:¬dW mw mh sc->Q 0 0 false w0:=λhn=>by have:=h _ s0 Fr.refl;grind
 by_cases h0:sc<0
 ·rw[bM h0];exact no λe=>by have:=e.2;omega
 rw[bq h0];unfold ZS adQ;by_cases hm:iO mw mh
 ·rw[if_pos hm,if_pos hm];have hcs:=gM hm.1 hm.2;have e:cQ mw*cQ mh=eI mw mh:=rfl;rw[e,aG];by_cases h1:sc≥eI mw mh
  ·rw[bM h1];exact no λe=>by have:=e.2;omega
  rw[bq h1];have hs:dW mw mh sc:=⟨hm,by omega,by omega⟩;have hx:=IP hm.1 hm.2 hs.2;have ha:=Fa hm.1;have q1:=hm.1;have q2:=hm.2;refine⟨by omega,by omega,?_⟩;rw[Int.tmod_eq_emod_of_nonneg (by omega),Int.tdiv_eq_ediv_of_nonneg (by omega),aG (n:=sc/cQ mw),aG,aG];have:=h _ (ay s0) Fr.refl;grind
 ·rw[if_neg hm,if_neg hm,show IntKind.wrap .i64 (0*0)=0 from rfl,bM];exact no λe=>hm e.1
def vp {sc:Int}{Q:Int->Int->World->Prop}(s0:Sep F W w0 L)(h:∀w',Sep F W w' L->Fr No w0 w'->Q (Y9 mw mh sc) (ac8 mw mh sc) w'):n7 mw mh sc w0 Q:=by
 apply Zo;refine I5 s0 λw s f=>?_;have h:=h w s f;unfold Y9 ac8 at h;by_cases hs:dW mw mh sc
 ·have hx:=IP hs.1.1 hs.1.2 hs.2;have q1:=hs.1.1;have q2:=hs.1.2;rw[aG,aG];have e1:Ds 16 (mw-sc%cQ mw*16)=aD mw mh sc:=by unfold Ds aD;omega
  have e2:Ds 16 (mh-sc/cQ mw*16)=bz mw mh sc:=by unfold Ds bz;omega
  grind
 grind
def tD {Q:Int->World->Prop}(s0:Sep F W w0 L)(h:∀w',Sep F W w' L->Fr No w0 w'->Q (dX mw mh c) w'):nj mw mh c w0 Q:=by
 apply XV;refine DJ s0 λw s f=>?_;by_cases hc:bF mw mh c
 ·rw[if_pos hc,if_pos hc];have hx:=Iq hc;have hl:=j6 hc;have hs:=bV hc;have hz:=qP hc.1.1 hc.1.2 hs.2;have el:dX mw mh c=c/mw%16*aD mw mh (aC mw mh c)+c%mw%16:=if_pos hc;rw[bq];refine eZ s λw s f2=>?_;refine vp s λw s f3=>?_;refine⟨by decide,by decide,?_⟩;rw[Y9,if_pos hs,Int.tmod_eq_emod_of_nonneg (by omega),Int.tmod_eq_emod_of_nonneg (by omega)];have a:=Int.mul_le_mul hz.1.2 hz.2.2 (by omega) (by decide);rw[aG (n:=c/mw%16*aD mw mh (aC mw mh c)),aG,<-el];exact h _ s ((f.trans f2 (λ_ _=>id)).trans f3 (λ_ _=>id))
 ·have h:=h _ s f;unfold dX at h;grind
def xw {sc l:Int}{Q:Int->World->Prop}(s0:Sep F W w0 L)(h:∀w',Sep F W w' L->Fr No w0 w'->Q (CH mw mh sc l) w'):om mw mh sc l w0 Q:=by
 apply Vw;refine I5 s0 λw s f=>?_;refine vp s λw s f2=>?_;have f:=f.trans f2 (λ_ _=>id);have no:¬(dW mw mh sc/\0<=l/\l<aD mw mh sc*bz mw mh sc)->Q (-1) w:=λhn=>by have:=h _ s f;unfold CH at this;grind
 by_cases hs:dW mw mh sc
 ·unfold Y9 ac8;rw[if_pos hs,if_pos hs,if_pos hs,if_pos hs,decide_eq_true hs,Bool.not_true,cond_false];have hx:=IP hs.1.1 hs.1.2 hs.2;have hz:=qP hs.1.1 hs.1.2 hs.2;have q1:=hs.1.1;have q2:=hs.1.2;have a:=Int.mul_le_mul hz.1.2 hz.2.2 (by omega) (by decide);have b:0<=aD mw mh sc*bz mw mh sc:=Int.mul_nonneg (by omega) (by omega);rw[aG];by_cases h0:l<0
  ·grind
  rw[bq h0];by_cases h1:l≥aD mw mh sc*bz mw mh sc
  ·grind
  rw[bq h1];have hl:0<=l/\l<aD mw mh sc*bz mw mh sc:=by omega
  have hxy:=Pf hs hl;refine⟨by omega,by omega,?_⟩;rw[Int.tmod_eq_emod_of_nonneg (by omega),Int.tdiv_eq_ediv_of_nonneg (by omega),aG (n:=l/aD mw mh sc),aG,aG];apply qY;have h:=h _ (ay s) f;unfold CH bX at h;rw[if_pos ⟨hs,hl⟩]at h;have e1:sc%cQ mw*16+l%aD mw mh sc<mw:=by
   have:aD mw mh sc<=mw-16*(sc%cQ mw):=by unfold aD;omega
   omega
  have e2:sc/cQ mw*16+l/aD mw mh sc<mh:=by
   have:bz mw mh sc<=mh-16*(sc/cQ mw):=by unfold bz;omega
   omega
  rw[ni hs.1 (by omega) (by omega),Int.mul_comm (sc/cQ mw) 16,Int.mul_comm (sc%cQ mw) 16,<-Int.add_assoc];exact h
 grind
end
end Go.Proofs.YtmegplnmiepfbaaGreatDoor.S
namespace Go.Proofs.YtmegplnmiepfbaaGreatDoor.S.Tl
open Go.Sx
def ee:wR P T:=EB P rows HB
attribute [local irreducible] af cE bw bg aA cu bY St Bx Al App cJ cB cz bW aL bD aq bT av ak aW
def DK (W H:Int)(cs:List Int):Bool:=decide (1<=W/\W<=16)&&(decide (1<=H/\H<=16)&&(decide ((cs.length:Int)=W*H)&&!decide ((0:Int)∈cs)))
def ZT {W H:Int}{cs:List Int}:DK W H cs=true↔(1<=W/\W<=16)/\(1<=H/\H<=16)/\(cs.length:Int)=W*H/\(0:Int)∉cs:=by simp[DK]
section
variable {F:Nat->Prop}{W w:World}{L:List As}{a:Option Addr}{n c:Nat}{cs:List Int}
def arT (h:l8 w a n 1 bp cs){i:Nat}(hi:i<n):∃ad,a=some ad/\w.cell? (ad.add (i*1))=some (.int .u8 (gi cs i)):=by obtain⟨ad,e,hc⟩:=h.2 i _ (iz (by rw[h.1];exact hi));exact⟨ad,e,hc 0 _ rfl⟩
def aR {k:IntKind}{m:Int}{ad:Addr}{K:Int->Prop}(h:w.cell? ad=some (.int k m))(hk:K m):af k ad w K:=by unfold af;grind
def LC {m:Int}{Q:Bool->World->Prop}(h:Q (decide (1<=m/\m<=16)) w):Ae m w Q:=by apply Zq;grind
def alB {v:Int}{Q:Int->World->Prop}(hA:l8 w a n 1 bp cs)(hn:n<1000000000)(hy:v∈cs->∀i:Nat,Q i w)(hno:v∉cs->Q (-1) w):
  ∀(m i:Nat),i+m=n->(∀j,j<i->gi cs j≠v)->jf Q (m+1) a n c v n i w:=by
 intro m;induction m with
 |zero=>
  intro i hi SE;show kQ Q (jf Q 0) _ _ _ _ _ _ _;rw[kQ,bq];refine hno λhv=>?_;obtain⟨j,hj,e⟩:=List.getElem_of_mem hv;have:=SE j (by rw[hA.1]at hj;omega);have h2:=iz hj;grind
 |succ m ih=>
  intro i hi SE;show kQ Q (jf Q (m+1)) _ _ _ _ _ _ _;unfold kQ;obtain⟨ad,rfl,hc⟩:=arT hA (i:=i) (by omega);rw[bM];refine⟨by omega,by omega,ah ?_⟩;apply aR hc;by_cases hv:v=gi cs i
  ·rw[hv,beq_self_eq_true,cond_true];exact hy (by rw[hv];exact ff (by rw[hA.1];omega)) i
  ·rw[show(v==gi cs i)=false by grind,cond_false,aG];refine ih (i+1) (by omega) λj hj=>?_;grind
def HS {v:Int}{Q:Bool->World->Prop}(hA:l8 w a n 1 bp cs)(hn:n<1000000000)(h:Q (decide (v∈cs)) w):iV a n c v w Q:=by
 apply FL;apply HO;refine⟨n+1,alB hA hn (λhv i=>?_) (λhv=>?_) n 0 (by omega) (λj hj=>by omega)⟩
 all_goals simp_all
def C4 {tw th:Int}{Q:Bool->World->Prop}(s:Sep F W w L)(hA:l8 w a n 1 bp cs)(h:∀w',Sep F W w' L->Fr No w w'->Q (DK tw th cs) w'):uO tw th a n c w Q:=by
 apply adq;refine aO (F:=No) bh λb1 w1 s1=>?_;have hh:=h w1 (bS s (au s1)) (au s1);have hA1:=hA.fr (au s1);unfold DK at hh;apply lI s1 0 rfl;apply LC;cases h1:decide (1<=tw/\tw<=16)with
 |false=>
  grind
 |true=>
  rw[h1,Bool.true_and]at hh;apply lI s1 0 rfl;apply LC;cases h2:decide (1<=th/\th<=16)with
  |false=>
   grind
  |true=>
   rw[h2,Bool.true_and]at hh;have h1':=of_decide_eq_true h1;have h2':=of_decide_eq_true h2;apply lS s1 0 rfl;apply lI s1 0 rfl;apply lI s1 0 rfl;have hp:1<=tw*th/\tw*th<=256:=by have q1:=Int.mul_le_mul h1'.1 h2'.1 (by decide) (by omega);have q2:=Int.mul_le_mul h1'.2 h2'.2 (by omega) (by decide);omega
   rw[aG];have hl:=hA.1;by_cases h3:(cs.length:Int)=tw*th
   ·rw[decide_eq_true h3,Bool.true_and]at hh;rw[show((n:Int)==tw*th)=true by grind,cond_true];apply lS s1 0 rfl;exact HS hA1 (by omega) hh
   grind
def isB (tw th:Int)(cs:List Int)(l:Int):Bool:=decide (0<=l/\l<(cs.length:Int))&&DK tw th cs
def agB {tw th l:Int}{Q:Bool->World->Prop}(s:Sep F W w L)(hA:l8 w a n 1 bp cs)(h:∀w',Sep F W w' L->Fr No w w'->Q (isB tw th cs l) w'):Jw tw th a n c l w Q:=by
 apply agx;refine aO (F:=No) bh λb1 w1 s1=>?_;have hh:=h w1 (bS s (au s1)) (au s1);have hA1:=hA.fr (au s1);have hl:=hA.1;unfold isB at hh;by_cases h1:l≥0
 ·rw[bM h1];apply lS s1 0 rfl;by_cases h2:l<(n:Int)
  ·rw[bM h2];apply lI s1 0 rfl;apply lI s1 0 rfl;apply lS s1 0 rfl;refine C4 s1 hA1 λw2 s2 k2=>?_;have hh:=h w2 (bS s (au s2)) (au s2);unfold isB at hh;grind
  grind
 grind
def atI (tw th:Int)(cs:List Int)(l:Int):Int:=cond (isB tw th cs l) (gi cs l.toNat) 0
def agC {tw th l:Int}{Q:Int->World->Prop}(s:Sep F W w L)(hA:l8 w a n 1 bp cs)(hcs:∀x∈cs,0<=x/\x<256)(h:∀w',Sep F W w' L->Fr No w w'->Q (atI tw th cs l) w'):Jv tw th a n c l w Q:=by
 apply agy;refine aO (F:=No) bh λb1 w1 s1=>?_;apply lI s1 0 rfl;apply lI s1 0 rfl;apply lS s1 0 rfl;refine agB s1 (hA.fr (au s1)) λw2 s2 k2=>?_;have hh:=h w2 (bS s (au s2)) (au s2);have hA2:=hA.fr (au s2);have hl:=hA.1;unfold atI at hh;cases hb:isB tw th cs l with
 |false=>
  grind
 |true=>
  rw[hb,cond_true]at hh;have hr:0<=l/\l<(cs.length:Int):=by unfold isB at hb;grind
  obtain⟨i,rfl⟩:∃i:Nat,l=i:=⟨l.toNat,by omega⟩;obtain⟨ad,rfl,hc⟩:=arT hA2 (i:=i) (by omega);apply lS s2 0 rfl;refine⟨by omega,by omega,ah ?_⟩;apply aR hc;have:=hcs _ (ff (i:=i) (by omega));rw[aG];exact hh
end
end Go.Proofs.YtmegplnmiepfbaaGreatDoor.S.Tl
namespace Go.Proofs.YtmegplnmiepfbaaGreatDoor.S.O
open Go.Sx
def ee:wR P T:=EB P rows HB
def xx:zc T 38=[ae 0,ae 0,ae 0,.slice none 0 0]:=rfl
def rD:zc T 137=[ae 0,ae 0,.bool false]:=rfl
attribute [local irreducible] af cE bw bg aA cu bY St Bx Al App cJ cB cz bW aL bD aq bT av ak aW
def Gl {F:Nat->Prop}{W w:World}{L:List As}{k:Int}{Q:Int->Int->Bool->Bool->World->Prop}(s0:Sep F W w L)(h:∀w',Sep F W w' L->Fr No w w'->Q (wS k) (BS k) (shL k) (Du k) w'):wV k w Q:=by
 apply abc;have s:=bh (F:=No) (w:=w);by_cases hk:1<=k/\k<=8
 ·have hk':k=1\/k=2\/k=3\/k=4\/k=5\/k=6\/k=7\/k=8:=by omega
  rcases hk' with rfl|rfl|rfl|rfl|rfl|rfl|rfl|rfl
  all_goals
   repeat' first
    |apply lI s 0 rfl
    |apply lS s 0 rfl
    |apply lB s 0 rfl
    |apply lP s 0 rfl
    |apply And.intro (cg s 0 rfl)
    |apply lI s 1 rfl
    |apply lS s 1 rfl
    |apply lB s 1 rfl
    |apply lP s 1 rfl
    |apply And.intro (cg s 1 rfl)
    |(refine sT s 0 rfl λw s=>?_)
    |(refine sT s 1 rfl λw s=>?_)
    |refine aO s λb w s=>?_
    |(refine aS s λb w s=>?_;simp[xx,rD]at s)
    |unfold uP
    |unfold mS
    |(replace s:=ay s;first
     |apply lI s 0 rfl
     |apply lS s 0 rfl
     |apply lB s 0 rfl
     |apply lP s 0 rfl
     |apply And.intro (cg s 0 rfl)
     |apply lI s 1 rfl
     |apply lS s 1 rfl
     |apply lB s 1 rfl
     |apply lP s 1 rfl
     |apply And.intro (cg s 1 rfl)
     |(refine ax s (i:=0) rfl rfl rfl λw s=>?_)
     |(refine ax s (i:=1) rfl rfl rfl λw s=>?_;simp[List.set_cons_zero,List.set_cons_succ]at s)
     |refine aO s λb w s=>?_
     |(refine aS s λb w s=>?_;simp[xx,rD]at s)
     |unfold uP
     |unfold mS)
  all_goals exact h _ (bS s0 (au s)) (au s)
 ·have e:∀j:Int,1<=j/\j<=8->(k==j)=false:=λj hj=>by grind
  rw[e 1 (by decide),e 2 (by decide),e 3 (by decide),e 4 (by decide),e 5 (by decide),e 6 (by decide),e 7 (by decide),e 8 (by decide)]
  (refine aS s λb w s=>?_;simp[xx,rD]at s)
  (refine aS s λb w s=>?_;simp[xx,rD]at s)
  (refine ax s (i:=1) rfl rfl rfl λw s=>?_)
  (refine ax s (i:=1) rfl rfl rfl λw s=>?_)
  (refine ax s (i:=1) rfl rfl rfl λw s=>?_)
  apply lI s 1 rfl;apply lI s 1 rfl;apply lB s 1 rfl;have:=h _ (bS s0 (au s)) (au s);rw[show wS k=0 by unfold wS;grind,show BS k=0 by unfold BS;grind,show shL k=false from decide_eq_false (by omega),show Du k=false from decide_eq_false (by omega)]at this;exact this
def JM {w:World}{n:Int}{sz:Nat}{Q:Bool->World->Prop}(hs:sz<=4)(h:Q (Ej n sz) w):AK n sz w Q:=by
 apply agm;unfold Ej at h;by_cases h0:n≥0
 ·rw[bM h0];have e:BL .i64 1 (IntKind.wrap .i64 (8*(sz:Int)))=256^sz/\0<=IntKind.wrap .i64 (8*(sz:Int)):=by
   have hs':sz=0\/sz=1\/sz=2\/sz=3\/sz=4:=by omega
   rcases hs' with rfl|rfl|rfl|rfl|rfl<;>decide
  refine⟨e.2,?_⟩;grind
 grind
def adR {a b:Int}{k:Nat}(hk:k<=24)(ha:0<=a/\a<2^k)(hb:0<=b/\b<256):ior .i64 a (BL .i64 b (k:Int))=a+b*2^k:=by
 obtain⟨m,rfl⟩:∃m:Nat,a=m:=⟨a.toNat,by omega⟩;obtain⟨p,rfl⟩:∃p:Nat,b=p:=⟨b.toNat,by omega⟩;have hm:m<2^k:=by grind
 have IN:(2:Nat)^k<=2^24:=Nat.pow_le_pow_right (by decide) hk;have hp:p*2^k<=255*2^24:=Nat.mul_le_mul (by omega) IN;have e1:BL .i64 (p:Int) (k:Int)=((p*2^k:Nat):Int):=by
  unfold BL;have e:min ((k:Nat):Int).toNat (IntKind.i64).bits=k:=by simp[IntKind.bits];omega
  rw[e,show(p:Int)*2^k=((p*2^k:Nat):Int) by grind,aG]
 rw[e1];rw[ior,BitVec.ofInt_natCast,BitVec.ofInt_natCast,BitVec.toNat_or,BitVec.toNat_ofNat,BitVec.toNat_ofNat];have b64:(IntKind.i64).bits=64:=rfl;rw[b64,Nat.mod_eq_of_lt (by omega),Nat.mod_eq_of_lt (by omega),Nat.or_comm,Nat.mul_comm p,<-Nat.two_pow_add_eq_or_of_lt hm];rw[Nat.mul_comm]at hp;rw[aG];grind
def aqb (l:List Int)(x:Int):o9 (l++[x])=o9 l+x*2^(8*l.length):=by
 induction l with
 |nil=>simp[o9]
 |cons y l ih=>
  simp[List.cons_append,o9,ih,List.length_cons];grind
def anJ {l:List Int}{i:Nat}(h:i<l.length):l.take (i+1)=l.take i++[gi l i]:=by rw[List.take_add_one,iz h];rfl
section
variable {F:Nat->Prop}{W w:World}{L:List As}{a:Option Addr}{n c:Nat}{bs:List Int}
def Gm {Q:Int->World->Prop}(hA:Sl w a n c 1 bp bs)(hr:dZ bs)(hn:n<=4)(h:Q (o9 bs) w):wY a n c w Q:=by
 apply abd;have loop:∀(m i:Nat),i+m=n->wM Q (m+1) (o9 (bs.take i)) a n c n i w:=by
  intro m;induction m with
  |zero=>
   intro i hi;show AM Q (wM Q 0) _ _ _ _ _ _ _;rw[AM,bq,List.take_of_length_le (by rw[hA.len];omega)];exact h
  |succ m ih=>
   intro i hi;show AM Q (wM Q (m+1)) _ _ _ _ _ _ _;rw[AM,bM];apply Sl.yK hA rfl (by omega);have hv:=hr _ (ff (i:=i) (by rw[hA.len];omega));rw[aG,aG,aG];refine⟨by omega,?_⟩;have li:(bs.take i).length=i:=by rw[List.length_take,hA.len];omega
   have e:=aaZ (hr.take i);have e2:(256:Int)^i=2^(8*i):=by rw[Int.pow_mul];rfl
   rw[show 8*(i:Int)=((8*i:Nat):Int) by grind,adR (by omega) (by grind) hv];have:=ih (i+1) (by omega);rw[anJ (by rw[hA.len];omega),aqb,li]at this;exact this
 have:=loop n 0 (by omega);exact⟨n+1,this⟩
end
end Go.Proofs.YtmegplnmiepfbaaGreatDoor.S.O
namespace Go.Proofs.YtmegplnmiepfbaaGreatDoor.S.O
open Go.Sx
attribute [local irreducible] af cE bw bg aA cu bY St Bx Al App cJ cB cz bW aL bD aq bT av ak aW
section
variable {F:Nat->Prop}{W w:World}{L:List As}{a:Option Addr}{n c:Nat}{bs:List Int}
def clone {K:Option Addr->Nat->Nat->World->Prop}(s:Sep F W w L)(h:Sl w a n c 1 bp bs)(hn:n<=1000000000000)(k:∀ra rc w',Sep F W w' (ak ra n rc 5 1 (flat bp bs)::L)->K ra n rc w'):
  App P #[22,22] 22 (.slice none 0 0) (.slice a n c) w K:=by
 have src:=h.src (e:=5) cV A0;refine ig ee (bE s 5 1) (i:=0) (bytes:=1) rfl rfl rfl rfl rfl rfl (by decide) rfl src (by simp[maxLen];omega) (by omega) h.nil λa1 c1 w1 s1=>?_;grind
def auq {K:Option Addr->Nat->Nat->World->Prop}{b:Nat}(s:Sep F W w (av b 5 []::L))(h:Sl w a n c 1 bp bs)(hn:n<=1000000000000)(k:∀ra rc w',Sep F W w' (ak ra n rc 5 1 (flat bp bs)::L)->K ra n rc w'):
  App P #[22,22] 22 (.slice (sZ b) 0 0) (.slice a n c) w K:=by
 have src:=h.src (e:=5) cV A0;have s:=gX (n:=0) (size:=1) s (i:=0) rfl rfl (by decide) (by simp);refine ig ee s (i:=0) (bytes:=1) rfl rfl rfl rfl rfl rfl (by decide) rfl src (by simp[maxLen];omega) (by omega) h.nil λa1 c1 w1 s1=>?_;grind
def agD {w0:World}{Q:Int->Int->Int->Option Addr->Nat->Nat->Int->World->Prop}(s0:Sep F W w0 L)(hA:Sl w0 a n c 1 bp bs)(hr:dZ bs)(hn:0<n)(hn2:n<=1000000000000)
  (h:∀ra rn rc w',rn=(Bl bs).1.m.length->Sep F W w' (ak ra rn rc 5 1 (flat bp (Bl bs).1.m)::L)->Fr No w0 w'->Q (Bl bs).1.k (Bl bs).1.A (Bl bs).1.B ra rn rc ((Bl bs).2:Nat) w'):Ju a n c w0 Q:=by
 apply agl;have hl:=hA.len;cases bs with
 |nil=>grind
 |cons x r=>
  obtain⟨hx,hr⟩:=hr.cons;rw[List.length_cons]at hl;have s:=bh (F:=No) (w:=w0);have rr:=hr
  (refine aS s λb w s=>?_;simp[xx,rD]at s)
  apply Sl.yK (hA.fr (au s)).drew rfl (by omega);have g0:gi (x::r) 0=x:=rfl;rw[g0,aG];refine hA.lo (m:=1) rfl (by omega) λta tn tc QN hT=>?_;have hT:Sl w0 ta tn tc 1 bp r:=hT;refine Gl (ay s) λw s k=>?_
  (refine aS s λb w s=>?_;simp[xx,rD]at s)
  (refine ax s (i:=0) rfl rfl rfl λw s=>?_)
  (refine ax s (i:=0) rfl rfl rfl λw s=>?_)
  (refine ax s (i:=0) rfl rfl rfl λw s=>?_)
  have short:Bl (x::r)=(⟨0,0,0,[]⟩,0)->∀w',Fr No w0 w'->Q 0 0 0 none 0 0 0 w':=λe w' f=>by rw[e]at h;exact h none 0 0 w' rfl (bE (bS s0 f) 5 1) f
  cases hk:Du x with
  |false=>
   have e:Bl (x::r)=(⟨0,x,0,[]⟩,1):=by rw[CG,if_neg (by grind)]
   rw[e]at h
   (refine ax s (i:=1) rfl rfl rfl λw s=>?_)
   (refine ax s (i:=1) rfl rfl rfl λw s=>?_)
   (refine ax s (i:=1) rfl rfl rfl λw s=>?_)
   (refine ax s (i:=1) rfl rfl rfl λw s=>?_)
   apply lI s 1 rfl;apply lI s 1 rfl;apply lI s 1 rfl;apply lS s 1 rfl;exact h none 0 0 _ rfl (bE (bS s0 (au s)) 5 1) (au s)
  |true=>
   apply lB s 0 rfl;cases hL:shL x with
   |true=>
    by_cases h4:tn<4
    ·rw[bM]
     (refine ax s (i:=1) rfl rfl rfl λw s=>?_)
     (refine ax s (i:=1) rfl rfl rfl λw s=>?_)
     (refine ax s (i:=1) rfl rfl rfl λw s=>?_)
     (refine ax s (i:=1) rfl rfl rfl λw s=>?_)
     apply lI s 1 rfl;apply lI s 1 rfl;apply lI s 1 rfl;apply lS s 1 rfl;exact short (by rw[CG,if_pos hk,if_pos hL,AI]) _ (au s)
    ·rw[bq];refine hT.hi (m:=4) rfl (by omega) λua uc hU=>?_;apply Gm (hU.fr (au s)) (rr.take 4) (by decide);have l4:(r.take 4).length=4:=by grind
     have rg:=aaZ (rr.take 4);rw[aG];by_cases h5:(tn:Int)-4<o9 (r.take 4)
     ·rw[bM h5]
      (refine ax s (i:=1) rfl rfl rfl λw s=>?_)
      (refine ax s (i:=1) rfl rfl rfl λw s=>?_)
      (refine ax s (i:=1) rfl rfl rfl λw s=>?_)
      (refine ax s (i:=1) rfl rfl rfl λw s=>?_)
      apply lI s 1 rfl;apply lI s 1 rfl;apply lI s 1 rfl;apply lS s 1 rfl;exact short (by rw[CG,if_pos hk,if_pos hL,fR,AI]) _ (au s)
     ·rw[bq h5,aG,aG];have e:Bl (x::r)=(⟨x,0,0,(r.drop 4).take (o9 (r.take 4)).toNat⟩,5+(o9 (r.take 4)).toNat):=by rw[CG,if_pos hk,if_pos hL,fR,fR]
      rw[e]at h;refine hT.mid (p:=4) (q:=4+(o9 (r.take 4)).toNat) rfl (by omega) (by omega) (by omega) λva vn vc hvn hV=>?_;rw[show 4+(o9 (r.take 4)).toNat-4=(o9 (r.take 4)).toNat by omega]at hvn hV;refine clone s (hV.fr (au s)) (by omega) λra rc w s=>?_
      (refine ax s (i:=2) rfl rfl rfl λw s=>?_)
      (refine ax s (i:=2) rfl rfl rfl λw s=>?_)
      (refine ax s (i:=2) rfl rfl rfl λw s=>?_)
      (refine ax s (i:=2) rfl rfl rfl λw s=>?_)
      apply lI s 2 rfl;apply lI s 2 rfl;apply lI s 2 rfl;apply lS s 2 rfl;have hq:=h ra vn rc _ (by grind) (dA s0 s (i:=0) rfl) (au s);grind
   |false=>
    apply lI s 0 rfl;apply lI s 0 rfl;have hab:=ap7 x;rw[aG];by_cases h5:tn<wS x+BS x
    ·rw[bM]
     (refine ax s (i:=1) rfl rfl rfl λw s=>?_)
     (refine ax s (i:=1) rfl rfl rfl λw s=>?_)
     (refine ax s (i:=1) rfl rfl rfl λw s=>?_)
     (refine ax s (i:=1) rfl rfl rfl λw s=>?_)
     apply lI s 1 rfl;apply lI s 1 rfl;apply lI s 1 rfl;apply lS s 1 rfl;exact short (by rw[CG,if_pos hk,if_neg (by grind),AI]) _ (au s)
    ·rw[bq];have e:Bl (x::r)=(⟨x,o9 (r.take (wS x)),o9 ((r.drop (wS x)).take (BS x)),[]⟩,1+wS x+BS x):=by rw[CG,if_pos hk,if_neg (by grind),fR]
     rw[e]at h;have s:=ay s;apply lI s 0 rfl;refine hT.hi (m:=wS x) rfl (by omega) λua uc hU=>?_;apply lI s 0 rfl;apply lI s 0 rfl;apply lI s 0 rfl;rw[aG];refine hT.mid (p:=wS x) (q:=wS x+BS x) rfl (by omega) (by omega) (by omega) λva vn vc hvn hV=>?_;apply lI s 0 rfl;apply lI s 0 rfl;apply Gm (hU.fr (au s)) (rr.take _) (by omega);apply And.intro (cg s 0 rfl);apply And.intro (cg s 0 rfl);apply And.intro (cg s 0 rfl);apply And.intro (cg s 0 rfl);apply And.intro (cg s 0 rfl);apply Gm (hV.fr (au s)) ((rr.drop _).take _) (by omega);apply And.intro (cg s 0 rfl);apply And.intro (cg s 0 rfl)
     (refine ax s (i:=1) rfl rfl rfl λw s=>?_)
     (refine ax s (i:=1) rfl rfl rfl λw s=>?_)
     (refine ax s (i:=1) rfl rfl rfl λw s=>?_)
     (refine ax s (i:=1) rfl rfl rfl λw s=>?_)
     apply And.intro (cg s 0 rfl);apply And.intro (cg s 0 rfl);apply lI s 1 rfl;apply lI s 1 rfl;apply lI s 1 rfl;apply lS s 1 rfl;rw[aG (n:=(1:Int)+(wS x:Int)),aG];have hq:=h none 0 0 _ rfl (bE (bS s0 (au s)) 5 1) (au s);grind
def aia {Q:Bool->World->Prop}(s0:Sep F W w L)(hA:Sl w a n c 1 bp bs)(hr:dZ bs)(hn2:n<=1000000000000)(h:∀w',Sep F W w' L->Fr No w w'->Q (ap8 bs) w'):K8 a n c w Q:=by
 apply ah2;have hl:=hA.len;by_cases h0:n=0
 ·subst h0;have:bs=[]:=List.eq_nil_of_length_eq_zero hl;subst this;have:=h w s0 Fr.refl;exact this
 ·rw[show((n:Int)==0)=false by grind,cond_false];have s:=bh (F:=No) (w:=w);refine agD s hA hr (by omega) hn2 λra rn rc w _ s _=>?_
  (refine aS s λb w s=>?_;simp[xx,rD]at s)
  (refine ax s (i:=0) rfl rfl rfl λw s=>?_)
  (refine ax s (i:=0) rfl rfl rfl λw s=>?_)
  (refine ax s (i:=0) rfl rfl rfl λw s=>?_)
  (refine ax s (i:=0) rfl rfl rfl λw s=>?_)
  have hq:=h _ (bS s0 (au s)) (au s);have hne:bs≠[]:=λe=>by grind
  unfold ap8 at hq;rw[decide_eq_true hne,Bool.true_and]at hq;rw[show(((Bl bs).2:Int)==0)=decide ((Bl bs).2=0) by grind];exact hq
end
def aib {F:Nat->Prop}{W w0:World}{L:List As}{a:Option Addr}{n c:Nat}{o:kX}{Q:Bool->World->Prop}(s0:Sep F W w0 L)(hA:Sl w0 a n c 1 bp o.m)(hr:dZ o.m)(hn2:n<=1000000000000)(h:∀w',Sep F W w' L->Fr No w0 w'->Q (Dv o) w'):K6 o.k o.A o.B a n c w0 Q:=by
 apply ah3;obtain⟨k,A,B,m⟩:=o;simp only at hA hr h⊢;have hl:=hA.len;have hm0:((n:Int)==0)=decide (m=[]):=by
  rw[Bool.eq_iff_iff,beq_iff_eq,decide_eq_true_eq];constructor
  ·intro e;simp_all
  grind
 have s:=bh (F:=No) (w:=w0);have hh:∀w' Ls,Sep No w0 w' Ls->Q (Dv ⟨k,A,B,m⟩) w':=λw' Ls s=>h w' (bS s0 (au s)) (au s);unfold Dv at hh;refine aO s λb w s=>?_;apply lI s 0 rfl;by_cases hk:k=0
 ·rw[show(k==0)=true by grind,cond_true];apply lI s 0 rfl;by_cases hA1:A=-1
  ·rw[show(A==-1)=true by grind,cond_true];apply lI s 0 rfl;by_cases hB:B=0
   ·rw[show(B==0)=true by grind,cond_true];apply lS s 0 rfl;refine aia s (hA.fr (au s)) hr hn2 λw s _=>?_;grind
   grind
  ·rw[show(A==-1)=false by grind,cond_false];apply lI s 0 rfl;refine Gl s λw s _=>?_
   (refine aS s λb w s=>?_;simp[xx,rD]at s)
   (refine ax s (i:=0) rfl rfl rfl λw s=>?_)
   (refine ax s (i:=0) rfl rfl rfl λw s=>?_)
   (refine ax s (i:=0) rfl rfl rfl λw s=>?_)
   apply lI s 1 rfl;apply JM (by decide);cases hf:Ej A 1 with
   |false=>
    grind
   |true=>
    cases hs:Du A with
    |true=>
     grind
    |false=>
     apply lI s 1 rfl;by_cases hB:B=0
     ·rw[show(B==0)=true by grind,cond_true];apply lS s 1 rfl;grind
     grind
 ·simp[if_neg hk]at hh;rw[show(k==0)=false by grind,cond_false];apply lI s 0 rfl;refine Gl s λw s _=>?_
  (refine aS s λb w s=>?_;simp[xx,rD]at s)
  (refine ax s (i:=0) rfl rfl rfl λw s=>?_)
  (refine ax s (i:=0) rfl rfl rfl λw s=>?_)
  (refine ax s (i:=0) rfl rfl rfl λw s=>?_)
  cases hs:Du k with
  |false=>
   grind
  |true=>
   have hab:=ap7 k;apply lI s 1 rfl;apply lI s 0 rfl;apply JM hab.1;cases hf:Ej A (wS k)with
   |false=>
    grind
   |true=>
    apply lI s 1 rfl;apply lI s 0 rfl;apply JM hab.2;cases hg:Ej B (BS k)with
    |false=>
     grind
    |true=>
     apply lS s 1 rfl;rw[hm0];by_cases hm:m=[]
     ·grind
     ·rw[bq hm];apply lB s 0 rfl;have:=hh _ _ s;cases hL:shL k with
      |false=>grind
      |true=>
       apply lS s 1 rfl;rw[hs,hf,hg,decide_eq_false hm,Bool.false_or,Bool.true_and,Bool.true_and,Bool.true_and,hL,Bool.true_and]at this;rwa[show decide ((n:Int)<=4294967295)=decide (m.length<=4294967295)from decide_eq_decide.2 (by omega)]
structure Hi where
 k:Int
 A:Int
 B:Int
 a:Option Addr
 n:Nat
 c:Nat
def Gn (v:Hi):List Value:=[ae v.k,ae v.A,ae v.B,.slice v.a v.n v.c]
def as2 (v:Hi):(Gn v).length=4:=rfl
def akB (v:Hi)(u:Value)(h:u∈Gn v):u.oneCell'=true:=by simp[Gn,List.mem_cons,List.not_mem_nil,or_false]at h;rcases h with rfl|rfl|rfl|rfl<;>rfl
structure OpV (w:World) (v:Hi) (o:kX):Prop where
 k:v.k=o.k
 A:v.A=o.A
 B:v.B=o.B
 m:Sl w v.a v.n v.c 1 bp o.m
 jA:dZ o.m
structure agU (e:Hi×kX):Prop where
 k:e.1.k=e.2.k
 A:e.1.A=e.2.A
 B:e.1.B=e.2.B
 jA:dZ e.2.m
def Et (es:List (Hi×kX)):As:=aW (∀e∈es,agU e) (es.map λe=>ak e.1.a e.1.n e.1.c 5 1 (flat bp e.2.m))
section
variable {F:Nat->Prop}{W w:World}{L:List As}{oa:Option Addr}{on oc:Nat}{es:List (Hi×kX)}
def anK (s:Sep F W w L):Sep F W w (Et []::L):=by exact dz s (by simp)
def ae7 {v:Hi}{o:kX}(s:Sep F W w (Et es::ak v.a v.n v.c 5 1 (flat bp o.m)::L))(ha:agU (v,o)):Sep F W w (Et (es++[(v,o)])::L):=by
 unfold Et at s⊢;obtain⟨h1,s⟩:=gL s;refine dz ?_ λe he=>?_
 all_goals grind
def awa {v:Hi}{o:kX}{K:Option Addr->Nat->Nat->World->Prop}(s:Sep F W w (ak oa on oc 38 4 (flat Gn (es.map (·.1)))::Et es::ak v.a v.n v.c 5 1 (flat bp o.m)::L))(ha:agU (v,o))(Cm:on<=1000000000)
  (k:∀a' c' w',Sep F W w' (ak a' (on+1) c' 38 4 (flat Gn ((es++[(v,o)]).map (·.1)))::Et (es++[(v,o)])::L)->K a' (on+1) c' w'):
  Bx [ae v.k,ae v.A,ae v.B,.slice v.a v.n v.c] 38 w λp w1=>App P #[46,46] 46 (.slice oa on oc) (.slice (some p) 1 1) w1 K:=by
 refine aO s λb w1 s1=>?_;have src:Src w1 (sZ b) 1 4 (Gn v):=⟨rfl,akB v,λj u hj=>by rw[cq,Nat.zero_add];exact cM s1 (i:=0) rfl rfl hj⟩;refine ig ee s1 (i:=1) (bytes:=48) rfl rfl rfl rfl rfl rfl (by decide) rfl src (by simp[maxLen];omega) (by omega) (λe=>by cases e) λa1 c1 w2 s2=>?_;have e:flat Gn (es.map (·.1))++Gn v=flat Gn ((es++[(v,o)]).map (·.1)):=by rw[List.map_append,fX];simp[flat]
 rw[e]at s2;apply k a1 c1 w2;have s4:=ck (ai s2) (List.Perm.trans (List.Perm.swap ..) (List.Perm.cons _ (List.Perm.swap ..)));exact ck (ae7 s4 ha) (List.Perm.swap ..)
end
def b_ {n lo hi:Int}{w:World}{Q:Int->World->Prop}(h1:lo<=hi)(h2:-1099511627776<=lo)(h3:hi<=1099511627776)(h:Q (lo+n%(hi-lo+1)) w):aV n lo hi w Q:=by
 apply um;rw[aG (n:=hi-lo),aG];generalize hs:hi-lo+1=s at h;have h4:=Int.lt_tmod_of_pos n (b:=s) (by omega);have h5:=Int.tmod_lt_of_pos n (b:=s) (by omega);have h6:=Int.tmod_add_mul_tdiv n s;refine⟨by omega,?_⟩;generalize ht:Int.tmod n s=t at*;have e:n%s=t%s:=by rw[<-h6,Int.add_mul_emod_self_left]
 by_cases hn:t<0
 ·rw[bM hn,aG (n:=t+hi),aG (n:=t+hi-lo),aG (n:=t+hi-lo+1),aG];have e2:t%s=t+s:=by rw[<-Int.add_emod_right,Int.emod_eq_of_lt (by omega) (by omega)]
  grind
 ·rw[bq hn,aG];rw[e,Int.emod_eq_of_lt (by omega) h5]at h;exact h
def zy {w:World}{m lo hi:Int}{Q:Bool->World->Prop}(h:Q (decide (lo<=m/\m<=hi)) w):lV m lo hi w Q:=by apply QB;grind
section
variable {F:Nat->Prop}{W w w0:World}{L:List As}{a a' b:Option Addr}{n c n' c' m q:Nat}{bs cs:List Int}
def aic {x:Int}{K:Option Addr->Nat->Nat->World->Prop}(s:Sep F W w (ak a n c 5 1 (flat bp bs)::L))(hn:n<=2000000000000)
  (k:∀a' c' w',Sep F W w' (ak a' (n+1) c' 5 1 (flat bp (bs++[x]))::L)->K a' (n+1) c' w'):Bx [.int .u8 x] 5 w λp w1=>App P #[22,22] 22 (.slice a n c) (.slice (some p) 1 1) w1 K:=by
 refine aO s λb w s=>?_;have src:Src w (sZ b) 1 1 [.int .u8 x]:=⟨rfl,(λu hu=>by rw[List.mem_singleton.1 hu];rfl),λj u hj=>by rw[cq,Nat.zero_add];exact cM s (i:=0) rfl rfl hj⟩;refine ig ee s (i:=1) (bytes:=1) rfl rfl rfl rfl rfl rfl (by decide) rfl src (by simp[maxLen];omega) (by omega) (λe=>by cases e) λa1 c1 w1 s1=>?_;have e:flat bp bs++[.int .u8 x]=flat bp (bs++[x]):=by rw[fX];rfl
 rw[e]at s1;exact k _ _ _ (ai s1)
def alE {K:Option Addr->Nat->Nat->World->Prop}(s:Sep F W w (ak a n c 5 1 (flat bp bs)::L))(h:Sl w b m q 1 bp cs)(hn:n+m<=2000000000000)
  (k:∀a' c' w',Sep F W w' (ak a' (n+m) c' 5 1 (flat bp (bs++cs))::L)->K a' (n+m) c' w'):App P #[22,22] 22 (.slice a n c) (.slice b m q) w K:=by
 have src:=h.src (e:=5) cV A0;refine ig ee s (i:=0) (bytes:=1) rfl rfl rfl rfl rfl rfl (by decide) rfl src (by simp[maxLen];omega) (by omega) h.nil λa1 c1 w1 s1=>?_;rw[<-fX]at s1;grind
end
section
variable {F:Nat->Prop}{W w w0:World}{L:List As}
def arW {b:Nat}{x:Int}(s:Sep F W w (av b 5 [.int .u8 x]::L)):Sep F W w (ak (sZ b) 1 1 5 1 (flat bp [x])::L):=
 gX s (i:=0) rfl rfl (by decide) (λu hu=>by have hu:u∈[Value.int .u8 x]:=hu;rw[List.mem_singleton]at hu;rw[hu];rfl)
end
end Go.Proofs.YtmegplnmiepfbaaGreatDoor.S.O
namespace Go.Proofs.YtmegplnmiepfbaaGreatDoor.S
open Go.Sx
attribute [local irreducible] af cE bw bg aA cu bY St Bx Al App cJ cB cz bW aL bD aq bT av ak aW mapA
def kY {p:Addr}{A B:Prop}(h:B):cond (some p).isNone A B:=h
structure iw where
 m:bJ
 ep:Int
 vs:List Int
structure xy (g:iw):Prop where
 may:cI g.m
 len:(g.vs.length:Int)=eI g.m.w g.m.h
 ep:1<=g.ep/\g.ep<4611686018427387904
 vs:∀v∈g.vs,1<=v/\v<=g.ep
structure uB where
 p:Nat
 ca:Option Addr
 cn:Nat
 cc:Nat
 va:Option Addr
 vn:Nat
 vc:Nat
def alF (r:uB)(g:iw):List Value:=[ae g.m.w,ae g.m.h,.slice r.ca r.cn r.cc,ae g.ep,.slice r.va r.vn r.vc]
def abz (r:uB)(g:iw):List As:=[av r.p 174 (alF r g),ak r.ca r.cn r.cc 5 1 (flat bp g.m.cs),ak r.va r.vn r.vc 2 1 (flat one g.vs)]
def nW (r:uB)(g:iw):As:=aW (xy g) (abz r g)
structure nB (w:World) (r:uB) (g:iw):Prop where
 ok:xy g
 cell:∀(j:Nat) v,(alF r g)[j]? =some v->w.cell? ((aZ r.p).add j)=some v
 C:Sl w r.ca r.cn r.cc 1 bp g.m.cs
 V:Sl w r.va r.vn r.vc 1 one g.vs
def xy.iO {g:iw}(h:xy g):iO g.m.w g.m.h:=⟨h.may.w,h.may.h⟩
section
variable {F:Nat->Prop}{W w w0:World}{L:List As}{r:uB}{g:iw}
def nB.fr {w':World}(k:nB w r g)(f:Fr No w w'):nB w' r g:=⟨k.ok,λj v h=>Fr.cell f (k.cell j v h) id,k.C.fr f,k.V.fr f⟩
def ae8 (s:Sep F W w (nW r g::L)):xy g/\Sep F W w (abz r g++L):=gL s
def abA (s:Sep F W w (abz r g++L))(h:xy g):Sep F W w (nW r g::L):=dz s h
def oQ (s:Sep F W w (nW r g::L)):nB w r g:=by obtain⟨h,s⟩:=ae8 s;exact⟨h,λj v hj=>by rw[cq,Nat.zero_add];exact cM s (i:=0) rfl rfl hj,aN s (i:=1) rfl cV (by decide),aN s (i:=2) rfl cF (by decide)⟩
def cA (m:bJ)(c:Int):Int:=if 0<=c/\c<m.cs.length then gi m.cs c.toNat else 0
def jm {c:Int}{Q:Int->World->Prop}(k:nB w r g)(h:Q (cA g.m c) w):e_ (sZ r.p) c w Q:=by
 apply RU;apply kY;have hl:=k.C.len;unfold cA at h;by_cases h0:c<0
 ·grind
 rw[bq h0];refine ah (dx (k.cell 2 _ rfl) ?_);by_cases h1:c≥(r.cn:Int)
 ·grind
 rw[bq h1];refine ah (dx (k.cell 2 _ rfl) ?_);rw[AI]at h;have hb:=k.ok.may.jA _ (ff (i:=c.toNat) (by omega));apply k.C.yK (k:=c.toNat) (by omega) (by omega);rw[aG];exact h
def qZ {Q:Int->World->Prop}(k:nB w r g)(h:Q g.ep w):fZ (sZ r.p) w Q:=by apply Fq;exact kY (ah (aR (k.cell 3 _ rfl) h))
def ZW {Q:Int->World->Prop}(h:Q 0 w):fZ none w Q:=Fq _ _ _ h
def jn {Q:Int->Int->World->Prop}(s0:Sep F W w L)(k:nB w r g)(h:∀w',Sep F W w' L->Fr No w w'->Q g.m.w g.m.h w'):eM (sZ r.p) w Q:=by apply RY;have k:=k.fr (w':=w.drew) Fr.refl;exact kY (ah (aR (k.cell 0 _ rfl) (ah (aR (k.cell 1 _ rfl) ⟨k.cell 1 _ rfl,h _ (ay s0) Fr.refl⟩))))
def zz (g:iw)(s:Int):Int:=if 0<=s/\s<g.vs.length then gi g.vs s.toNat else 0
def rT {c:Int}{Q:Int->World->Prop}(k:nB w r g)(h:Q (zz g c) w):i_ (sZ r.p) c w Q:=by
 apply MK;apply kY;have hl:=k.V.len;unfold zz at h;by_cases h0:c<0
 ·grind
 rw[bq h0];refine ah (dx (k.cell 4 _ rfl) ?_);by_cases h1:c≥(r.vn:Int)
 ·grind
 rw[bq h1];refine ah (dx (k.cell 4 _ rfl) ?_);rw[AI]at h;exact k.V.rJ (by omega) (by omega) h
def HT {w h s:Int}(hs:dW w h s){y x:Nat}(hx:(x:Int)<aD w h s):bX w h s (y*aD w h s+x)=bX w h s (y*aD w h s)+x:=by obtain⟨e1,e2⟩:=rK (w:=aD w h s) (x:=(x:Int)) (y:=(y:Int)) (by omega);obtain⟨e3,e4⟩:=rK (w:=aD w h s) (x:=0) (y:=(y:Int)) (by omega);unfold bX;grind
def anL {m:bJ}{s:Int}(hm:cI m)(hs:dW m.w m.h s){y tw:Nat}(hw:(tw:Int)=aD m.w m.h s)(hy:(y:Int)<bz m.w m.h s){f:Nat}(hf:(f:Int)=bX m.w m.h s (y*aD m.w m.h s)):
  f+tw<=m.cs.length/\((List.range (y*tw)).map λl:Nat=>gi m.cs (bX m.w m.h s l).toNat)++(m.cs.drop f).take tw=(List.range ((y+1)*tw)).map λl:Nat=>gi m.cs (bX m.w m.h s l).toNat:=by
 have hz:=qP hs.1.1 hs.1.2 hs.2;have hl:=hm.len;have hin:∀x:Nat,x<tw->0<=bX m.w m.h s (y*aD m.w m.h s)+x/\bX m.w m.h s (y*aD m.w m.h s)+x<m.w*m.h:=λx hx=>by
  rw[<-HT hs (by omega)];refine FW hs.1.1 hs.1.2 hs.2 ⟨?_,?_⟩
  ·have:0<=(y:Int)*aD m.w m.h s:=Int.mul_nonneg (by omega) (by omega);omega
  ·have:((y:Int)+1)*aD m.w m.h s<=bz m.w m.h s*aD m.w m.h s:=Int.mul_le_mul_of_nonneg_right (by omega) (by omega);grind
 have awb:=hin (tw-1) (by omega);refine⟨by omega,?_⟩;rw[Nat.add_mul,Nat.one_mul,List.range_add,List.map_append,List.map_map];congr 1;refine List.ext_getElem (by simp;omega) λi h1 h2=>?_;simp[List.length_map,List.length_range]at h2;simp only[List.getElem_take,List.getElem_drop,List.getElem_map,List.getElem_range,Function.comp];have e:((y*tw+i:Nat):Int)=y*aD m.w m.h s+i:=by grind
 rw[e,HT hs (by omega)];have e2:(bX m.w m.h s (y*aD m.w m.h s)+(i:Int)).toNat=f+i:=by omega
 have:=iz (l:=m.cs) (i:=f+i) (by omega);grind
def Nu {sc:Int}{Q:Int->Int->Option Addr->Nat->Nat->Bool->World->Prop}(s0:Sep F W w0 L)(k:nB w0 r g)
  (hno:¬dW g.m.w g.m.h sc->∀w',Sep F W w' L->Fr No w0 w'->Q 0 0 none 0 0 false w')
  (hyes:dW g.m.w g.m.h sc->∀ta tn tc w',Sep F W w' (ak ta tn tc 5 1 (flat bp (qk g.m sc))::L)->Fr No w0 w'->Q (aD g.m.w g.m.h sc) (bz g.m.w g.m.h sc) ta tn tc true w'):tX (sZ r.p) sc w0 Q:=by
 apply Sd;have s:=bh (F:=No) (w:=w0);refine aS s λqb w s=>?_;refine jn s (k.fr (au s)) λw s _=>?_;refine vp s λw s _=>?_;unfold Y9 ac8;have hm:=k.ok.may;have hC:=k.C;have yg:=hC.len;have hmul:=mY k.ok.iO;by_cases hs:dW g.m.w g.m.h sc
 ·have hz:=qP hs.1.1 hs.1.2 hs.2;rw[if_pos hs,if_pos hs,cy (by omega),cond_false];obtain⟨tw,QO⟩:∃n:Nat,(n:Int)=aD g.m.w g.m.h sc:=⟨(aD g.m.w g.m.h sc).toNat,by omega⟩;obtain⟨th,hth⟩:∃n:Nat,(n:Int)=bz g.m.w g.m.h sc:=⟨(bz g.m.w g.m.h sc).toNat,by omega⟩;refine aS s λtb w s=>?_;refine ax s (i:=0) rfl rfl rfl λw s=>?_;refine ax s (i:=0) rfl rfl rfl λw s=>?_;refine ax s (i:=0) rfl rfl rfl λw s=>?_;have s:=ck (bE s 5 1) (List.Perm.refl _);have loop:∀(j y:Nat) (ta:Option Addr) (tn tc:Nat) (w:World),y+j=th->tn=y*tw->
    Sep No w0 w [ak ta tn tc 5 1 (flat bp ((List.range (y*tw)).map λl:Nat=>gi g.m.cs (bX g.m.w g.m.h sc l).toNat)),av tb 84 [ae (aD g.m.w g.m.h sc),ae (bz g.m.w g.m.h sc),.slice ta tn tc],av qb 84 [ae 0,ae 0,.slice none 0 0]]->
    oy Q (j+1) (sZ r.p) sc (aZ qb) g.m.w g.m.h (aD g.m.w g.m.h sc) (aZ tb) (bz g.m.w g.m.h sc) y w:=by
   intro j;induction j with
   |zero=>
    intro y ta tn tc w hy QN s;show rO Q (oy Q 0) _ _ _ _ _ _ _ _ _ _;rw[rO,bq];apply lI s 1 rfl;apply lI s 1 rfl;apply lS s 1 rfl
    (refine ax s (i:=2) rfl rfl rfl λw s=>?_)
    (refine ax s (i:=2) rfl rfl rfl λw s=>?_)
    (refine ax s (i:=2) rfl rfl rfl λw s=>?_)
    apply lI s 2 rfl;apply lI s 2 rfl;apply lS s 2 rfl;refine hyes hs _ _ _ _ (dA s0 s (i:=0) ?_) (au s);unfold qk;grind
   |succ j ih=>
    intro y ta tn tc w hy QN s;show rO Q (oy Q (j+1)) _ _ _ _ _ _ _ _ _ _;unfold rO;have hyl:(y:Int)*aD g.m.w g.m.h sc+aD g.m.w g.m.h sc<=aD g.m.w g.m.h sc*bz g.m.w g.m.h sc:=by have:((y:Int)+1)*aD g.m.w g.m.h sc<=bz g.m.w g.m.h sc*aD g.m.w g.m.h sc:=Int.mul_le_mul_of_nonneg_right (by omega) (by omega);grind
    have hy0:0<=(y:Int)*aD g.m.w g.m.h sc:=Int.mul_nonneg (by omega) (by omega);have ha:=Int.mul_le_mul hz.1.2 hz.2.2 (by omega) (by decide);rw[bM,aG];refine xw s λw s _=>?_;rw[CH,if_pos ⟨hs,by omega,by omega⟩];have hg:=FW hs.1.1 hs.1.2 hs.2 (l:=(y:Int)*aD g.m.w g.m.h sc) (by omega);obtain⟨f,hf⟩:∃n:Nat,(n:Int)=bX g.m.w g.m.h sc (y*aD g.m.w g.m.h sc):=⟨(bX g.m.w g.m.h sc (y*aD g.m.w g.m.h sc)).toNat,by omega⟩;obtain⟨hin,hrow⟩:=anL hm hs QO (by omega) hf;rw[<-hf,aG];have s:=ay s;apply lS s 1 rfl;have k':=k.fr (au s);refine ah (dx (k'.cell 2 _ rfl) ?_);refine k'.C.mid (q:=f+tw) rfl (by omega) (by omega) (by omega) λa' n' c' hn' hS=>?_;rw[show f+tw-f=tw by omega]at hS hn';have hyt:((y*tw:Nat):Int)=(y:Int)*aD g.m.w g.m.h sc:=by grind
    refine O.alE s hS (by omega) λYy Yz w s=>?_;refine ax s (i:=1) rfl rfl rfl λw s=>?_;rw[aG];grind
  refine⟨th+1,loop th 0 none 0 0 w (by omega) (by omega) ?_⟩;rw[Nat.zero_mul];exact s
 ·rw[if_neg hs,if_neg hs,dN rfl,cond_true]
  (refine ax s (i:=0) rfl rfl rfl λw s=>?_)
  (refine ax s (i:=0) rfl rfl rfl λw s=>?_)
  (refine ax s (i:=0) rfl rfl rfl λw s=>?_)
  apply lI s 0 rfl;apply lI s 0 rfl;apply lS s 0 rfl;exact hno hs _ (bS s0 (au s)) (au s)
end
section
variable {F:Nat->Prop}{W w w0:World}{L:List As}{r:uB}{g:iw}{a:Option Addr}{n c:Nat}{bs:List Int}
def EW {f:Int->List Value}{es:List Int}{e:TypeId}{i k:Nat}{x' idx:Int}{v:Value}{K:World->Prop}(hf:∀x,(f x).length=1)(s:Sep F W w L)(hi:L[i]? =some (ak a n c e 1 (flat f es)))(hk:idx=k)(hkn:k<es.length)(hx':f x'=[v])(hv:v.oneCell'=true)
  (h:∀w',Sep F W w' (L.set i (ak a n c e 1 (flat f (es.set k x'))))->K w'):aJ idx n (wA a λp=>St (p.add (idx.toNat*1)) v w K):=by
 have hn:=ri s hi;rw[iT hf,Nat.mul_one,Nat.mul_one]at hn;obtain⟨b,o,rfl⟩:=pY s hi (by omega);subst hk;refine⟨by omega,by omega,ah ?_⟩;obtain⟨x,hx⟩:∃x,es[k]? =some x:=⟨_,List.getElem?_eq_getElem hkn⟩;have h1:=hf x;refine dQ hf s hi hx (j:=0) (by simp[Addr.add]) (by decide) ?_ hv h;rw[hx']
 match hfx:f x,h1 with
 |[y],_=>rfl
def Gp {Q:Option Addr->Nat->Nat->World->Prop}(s:Sep F W w L)(hA:Sl w a n c 1 bp bs)(hn:n<=1000000000000)(h:∀ra rc w',Sep F W w' (ak ra n rc 5 1 (flat bp bs)::L)->Fr No w w'->Q ra n rc w'):jJ a n c w Q:=by
 apply HN;cases a with
 |none=>
  have hl:=hA.len;have:=hA.nil rfl;have h0:n=0:=by have:=hA.le;omega
  subst h0;have hb:=List.eq_nil_of_length_eq_zero hl;subst hb;exact h _ _ _ (bE s 5 1) Fr.refl
 |some p=>
  apply kY;refine aO (bh (F:=No)) λb w' s'=>?_;refine O.auq s' (hA.fr (au s')) hn λra rc w' s'=>?_;exact h _ _ _ (dA s s' (i:=0) rfl) (au s')
def Xa (m:bJ):Bool:=decide (iO m.w m.h)&&(decide ((m.cs.length:Int)=m.w*m.h)&&!decide ((0:Int)∈m.cs))
def V1 {m:bJ}(hr:dZ m.cs):Xa m=true↔cI m:=by
 simp[Xa,Bool.and_eq_true,decide_eq_true_eq,Bool.not_eq_true',decide_eq_false_iff_not];constructor
 ·rintro ⟨h1,h2,h3⟩;refine⟨h1.1,h1.2,h2,λx hx=>?_⟩;have:=hr x hx;grind
 ·intro h;exact⟨⟨h.w,h.h⟩,h.len,λh0=>by have:=h.jA _ h0;omega⟩
def Nv {m:bJ}{Q:Bool->World->Prop}(s0:Sep F W w L)(hA:Sl w a n c 1 bp m.cs)(h:∀w',Sep F W w' L->Fr No w w'->Q (Xa m) w'):Bm m.w m.h a n c w Q:=by
 apply abh;refine aO (bh (F:=No)) λmb w s=>?_;apply lI s 0 rfl;apply lI s 0 rfl;apply pQ;have hA:=hA.fr (au s);have hl:=hA.len;have h:=h w (bS s0 (au s)) (au s);unfold Xa at h;by_cases hm:iO m.w m.h
 ·have hmul:=mY hm;rw[bM hm];rw[decide_eq_true hm,Bool.true_and]at h;apply lS s 0 rfl;apply lI s 0 rfl;apply lI s 0 rfl;rw[aG];by_cases hc:(m.cs.length:Int)=m.w*m.h
  ·rw[dN (by omega),cond_true];rw[decide_eq_true hc,Bool.true_and]at h;apply lS s 0 rfl;exact Tl.HS hA.row (by omega) h
  grind
 grind
def OT (m:bJ)(e:Int):iw:=⟨m,e+1,List.replicate (eI m.w m.h).toNat (e+1)⟩
def akD {m:bJ}{e:Int}(hm:cI m)(he:0<=e/\e<2305843009213693952):xy (OT m e):=by
 have hc:=gM hm.w hm.h;refine⟨hm,?_,by show 1<=e+1/\e+1<_;omega,λv hv=>?_⟩
 ·show((List.replicate _ _).length:Int)=_;rw[List.length_replicate];show((eI m.w m.h).toNat:Int)=eI m.w m.h;omega
 ·rw[List.eq_of_mem_replicate hv];show 1<=e+1/\e+1<=e+1;omega
def adT {m:bJ}{e:Int}{Q:Option Addr->World->Prop}(s0:Sep F W w0 L)(hA:Sl w0 a n c 1 bp m.cs)(hr:dZ m.cs)(he:0<=e/\e<2305843009213693952)
  (hno:¬cI m->∀w',Sep F W w' L->Fr No w0 w'->Q none w')(hyes:cI m->∀r w',Sep F W w' (nW r (OT m e)::L)->Fr No w0 w'->Q (sZ r.p) w'):HC m.w m.h a n c e w0 Q:=by
 apply ady;refine aO (bh (F:=No)) λmb w s=>?_;apply lI s 0 rfl;apply lI s 0 rfl;apply lS s 0 rfl;refine Nv s (hA.fr (au s)) λw s _=>?_;by_cases hm:cI m
 ·have hmul:=mY ⟨hm.w,hm.h⟩;have hl:=hA.len;have hlen:=hm.len;have QS:=gM hm.w hm.h;rw[(V1 hr).2 hm,Bool.not_true,cond_false,bq,bq];apply lS s 0 rfl;refine Gp s (hA.fr (au s)) (by omega) λca cc w s _=>?_;refine ax s (i:=1) rfl rfl rfl λw s=>?_;apply lI s 1 rfl;apply lI s 1 rfl;apply qN;unfold ZS adQ;rw[if_pos ⟨hm.w,hm.h⟩,if_pos ⟨hm.w,hm.h⟩];have s:=ay s;apply lI s 1 rfl;apply lI s 1 rfl;apply lS s 1 rfl;rw[show cQ m.w*cQ m.h=eI m.w m.h from rfl,aG,aG];obtain⟨N,hN⟩:∃N:Nat,eI m.w m.h=N:=⟨(eI m.w m.h).toNat,by omega⟩;rw[hN];refine xL (bytes:=8) ee s rfl rfl rfl rfl rfl rfl (by decide) cF rfl (λu hu=>by simp[one]at hu;subst hu;rfl) rfl rfl (Nat.le_refl _) (by omega) (by simp[maxLen];omega) λvb w s=>?_;refine⟨cg s 2 rfl,cg s 2 rfl,cg s 2 rfl,?_⟩;refine aO s λgb w s=>?_;apply lS s 0 rfl;have loop:∀(j i:Nat) (w:World),i+j=N->Sep No w0 w (av gb 174 [ae m.w,ae m.h,.slice ca n cc,ae (e+1),.slice (sZ vb) N N]::ak (sZ vb) N N 2 1 (flat one (List.replicate i (e+1)++List.replicate j 0))::ak ca n cc 5 1 (flat bp m.cs)::av mb 25 [ae m.w,ae m.h,.slice ca n cc]::[])->
    zi Q (j+1) (aZ gb) N i w:=by
   intro j;induction j with
   |zero=>
    intro i w hi s;show B9 Q (zi Q 0) _ _ _ _;rw[B9,bq];have hi:i=N:=by omega
    subst hi;have s:=cf (L':=[_,_,_]) [0,2,1] s rfl (by decide);have s:Sep No w0 w (abz ⟨gb,ca,n,cc,sZ vb,i,i⟩ (OT m e)++[]):=by
     have e1:(OT m e).vs=List.replicate i (e+1)++List.replicate 0 0:=by show List.replicate (eI m.w m.h).toNat (e+1)=_;grind
     show Sep No w0 w [av gb 174 (alF ⟨gb,ca,n,cc,sZ vb,i,i⟩ (OT m e)),ak ca n cc 5 1 (flat bp m.cs),ak (sZ vb) i i 2 1 (flat one (OT m e).vs)];rw[e1];exact s
    have s:=abA s (akD hm he);exact hyes hm ⟨gb,ca,n,cc,sZ vb,i,i⟩ _ (dA s0 s (i:=0) rfl) (au s)
   |succ j ih=>
    intro i w hi s;show B9 Q (zi Q (j+1)) _ _ _ _;rw[B9,bM];have s:=ay s;apply lS s 0 rfl;apply lI s 0 rfl;refine EW (x':=e+1) cF s (i:=1) rfl rfl (by simp) rfl rfl λw s=>?_;rw[aG];apply ih (i+1) w (by omega);have e1:(List.replicate i (e+1)++List.replicate (j+1) 0).set i (e+1)=List.replicate (i+1) (e+1)++List.replicate j 0:=by rw[List.set_append_right _ _ (by simp),List.length_replicate,Nat.sub_self,List.replicate_succ,List.set_cons_zero,List.replicate_succ',List.append_assoc];rfl
    grind
  exact⟨N+1,loop N 0 w (by omega) s⟩
 ·have hb:Xa m=false:=by
   cases hb:Xa m with
   |false=>rfl
   |true=>exact(hm ((V1 hr).1 hb)).elim
  rw[hb,Bool.not_false,cond_true];exact hno hm _ (bS s0 (au s)) (au s)
def xz (g:iw)(c x:Int):iw:=⟨⟨g.m.w,g.m.h,g.m.cs.set c.toNat x⟩,g.ep+1,g.vs.set (aC g.m.w g.m.h c).toNat (g.ep+1)⟩
def aid {g:iw}(hg:xy g){c x:Int}(hx:1<=x/\x<=255)(he:g.ep<2305843009213693952):xy (xz g c x):=by
 refine⟨⟨hg.may.w,hg.may.h,?_,λy hy=>?_⟩,?_,?_,λv hv=>?_⟩
 ·show((g.m.cs.set c.toNat x).length:Int)=_;rw[List.length_set];exact hg.may.len
 ·rcases List.mem_or_eq_of_mem_set hy with hy|rfl
  ·exact hg.may.jA y hy
  ·omega
 ·show((g.vs.set _ _).length:Int)=_;rw[List.length_set];exact hg.len
 ·have:=hg.ep;show 1<=g.ep+1/\g.ep+1<_;omega
 ·have:=hg.ep;show 1<=v/\v<=g.ep+1;rcases List.mem_or_eq_of_mem_set hv with hv|rfl
  ·have:=hg.vs v hv;omega
  ·omega
def abB {ce x:Int}{Q:Int->World->Prop}(s:Sep F W w (nW r g::L))(he:g.ep<2305843009213693952)
  (h7:¬bF g.m.w g.m.h ce->Q 7 w)(h8:bF g.m.w g.m.h ce->¬(1<=x/\x<=255)->Q 8 w)
  (h0:bF g.m.w g.m.h ce->1<=x/\x<=255->∀w',Sep F W w' (nW r (xz g ce x)::L)->Q 0 w'):z7 (sZ r.p) ce x w Q:=by
 apply R0;apply kY;have k:=oQ s;obtain⟨hg,s⟩:=ae8 s;have s:=s;have hl:=k.C.len;have hlen:=hg.may.len;by_cases h1:ce<0
 ·rw[bM h1];exact h7 λe=>by have:=e.2;omega
 rw[bq h1];apply ah;apply lS s 0 rfl;by_cases h2:ce≥(r.cn:Int)
 ·rw[bM h2];exact h7 λe=>by have:=e.2;omega
 rw[bq h2];have hc:bF g.m.w g.m.h ce:=⟨hg.iO,by omega,by omega⟩;by_cases h3:x<1
 ·grind
 rw[bq h3];by_cases h4:x>255
 ·grind
 rw[bq h4];have YA:=hg.ep;apply ah;apply lS s 0 rfl;rw[wrap_u8',Int.emod_eq_of_lt (by omega) (by omega)];refine EW (k:=ce.toNat) (x':=x) cV s (i:=1) rfl (by omega) (by omega) rfl rfl λw s=>?_;apply ah;apply lI s 0 rfl;apply ah;rw[aG];refine ax s (i:=0) rfl rfl rfl λw s=>?_;have s:=ay s;apply ah;apply lS s 0 rfl;apply ah;apply lI s 0 rfl;apply ah;apply lI s 0 rfl;apply ah;apply lI s 0 rfl;refine eZ s λw s _=>?_;refine⟨cg s 0 rfl,cg s 0 rfl,?_⟩;have hs:=bV hc;have hvl:=hg.len;refine EW (k:=(aC g.m.w g.m.h ce).toNat) (x':=g.ep+1) cF s (i:=2) rfl (by have:=hs.2;omega) (by have:=hs.2;omega) rfl rfl λw s=>?_;exact h0 hc (by omega) _ (abA s (aid hg (by omega) he))
def adU {Q:Int->Int->Option Addr->Nat->Nat->World->Prop}(s0:Sep F W w0 L)(k:nB w0 r g)
  (h:∀ra rc w',Sep F W w' (ak ra r.cn rc 5 1 (flat bp g.m.cs)::L)->Fr No w0 w'->Q g.m.w g.m.h ra r.cn rc w'):A6 (sZ r.p) w0 Q:=by
 apply UM;refine aS (bh (F:=No)) λmb w s=>?_;apply kY;have hm:=k.ok.may;have hmul:=mY k.ok.iO;have hlen:=hm.len;have hl:=k.C.len;have s:=ay s;have k':=k.fr (au s);refine ah (aR (k'.cell 0 _ rfl) ?_);refine ah (aR (k'.cell 1 _ rfl) ?_);refine ah (dx (k'.cell 2 _ rfl) ?_);refine Gp s k'.C (by omega) λra rc w s _=>?_;have k':=k.fr (au s);refine⟨k'.cell 1 _ rfl,k'.cell 0 _ rfl,?_⟩
 (refine ax s (i:=1) rfl rfl rfl λw s=>?_)
 (refine ax s (i:=1) rfl rfl rfl λw s=>?_)
 (refine ax s (i:=1) rfl rfl rfl λw s=>?_)
 apply lI s 1 rfl;apply lI s 1 rfl;apply lS s 1 rfl;exact h _ _ _ (dA s0 s (i:=0) rfl) (au s)
end
def gJ (w h c s:Int):Int:=if aX w h c s<0 then-1 else if aC w h (aX w h c s)=aC w h c then-1 else aX w h c s
def eV (m:bJ)(c:Int):Bool:=decide (0<cA m c/\cA m c<255)
def mG (n:Int)(f:Int->Int):List Int:=(List.range n.toNat).map λi:Nat=>f i
def mH (tw th s:Int):List Int:=
 if s=2 then mG tw λx=>(th-1)*tw+x
 else if s=0 then mG tw λx=>0+x
 else if s=1 then mG th λy=>tw-1+y*tw
 else if s=3 then mG th λy=>0+y*tw
 else[]
def abC {k:IntKind}{n:Int}{K:Int->Prop}(h:K n):dI k (.int k n) K:=by cases k<;>exact h
def aus {K:Value->Prop}{a b c d:Int}{j:Nat}{x:Int}(hj:j=0/\x=a\/j=1/\x=b\/j=2/\x=c\/j=3/\x=d)(h:K (ae x)):IxV [ae a,ae b,ae c,ae d] j K:=by rcases hj with⟨rfl,rfl⟩|⟨rfl,rfl⟩|⟨rfl,rfl⟩|⟨rfl,rfl⟩<;>exact⟨_,rfl,h⟩
section
variable {F:Nat->Prop}{W w w0:World}{L:List As}{r:uB}{g:iw}{a:Option Addr}{n c:Nat}{bs:List Int}{mw mh ce:Int}
def LD {x:Int}{K:Option Addr->Nat->Nat->World->Prop}(s:Sep F W w (ak a n c 3 1 (flat one bs)::L))(hn:n<=1000000000)
  (k:∀a' c' w',Sep F W w' (ak a' (n+1) c' 3 1 (flat one (bs++[x]))::L)->K a' (n+1) c' w'):Bx [ae x] 3 w λp w1=>App P #[29,29] 29 (.slice a n c) (.slice (some p) 1 1) w1 K:=by
 refine aO s λb w s=>?_;have src:Src w (sZ b) 1 1 [ae x]:=⟨rfl,(λu hu=>by rw[List.mem_singleton.1 hu];rfl),λj u hj=>by rw[cq,Nat.zero_add];exact cM s (i:=0) rfl rfl hj⟩;refine ig ee s (i:=1) (bytes:=8) rfl rfl rfl rfl rfl rfl (by decide) rfl src (by simp[maxLen];omega) (by omega) (λe=>by cases e) λa1 c1 w1 s1=>?_;have e:flat one bs++[ae x]=flat one (bs++[x]):=by rw[fX];rfl
 rw[e]at s1;exact k _ _ _ (ai s1)
def I6 {Q:Int->Int->Int->Int->World->Prop}(s0:Sep F W w L)(h:∀w',Sep F W w' L->Fr No w w'->Q 0 1 2 3 w'):w9 w Q:=by
 apply VC;refine aS (bh (F:=No)) λb w s=>?_
 (refine ax s (i:=0) rfl rfl rfl λw s=>?_)
 (refine ax s (i:=0) rfl rfl rfl λw s=>?_)
 (refine ax s (i:=0) rfl rfl rfl λw s=>?_)
 (refine ax s (i:=0) rfl rfl rfl λw s=>?_)
 apply lI s 0 rfl;apply lI s 0 rfl;apply lI s 0 rfl;apply lI s 0 rfl;exact h _ (bS s0 (au s)) (au s)
def JZ {sd:Int}{Q:Int->World->Prop}(s0:Sep F W w L)(h:∀w',Sep F W w' L->Fr No w w'->Q (gJ mw mh ce sd) w'):yw mw mh ce sd w Q:=by
 apply XW;refine jt (bh (F:=No)) λw s _=>?_;have fin:∀w',Sep No _ w' []->Q (gJ mw mh ce sd) w':=λw' s=>h w' (bS s0 (au s)) (au s);unfold gJ at fin;by_cases h1:aX mw mh ce sd<0
 ·grind
 rw[bq h1];refine eZ s λw s _=>?_;refine eZ s λw s _=>?_;grind
def DL {Q:Bool->World->Prop}(k:nB w r g)(h:Q (eV g.m ce) w):s_ (sZ r.p) ce w Q:=by apply X0;apply jm k;unfold eV at h;grind
def abD (n:Nat)(f:Int->Int):mG ((n+1:Nat):Int) f=mG n f++[f n]:=by unfold mG;rw[Int.toNat_natCast,Int.toNat_natCast,List.range_succ,List.map_append];rfl
def ae9 {Q:Option Addr->Nat->Nat->World->Prop}{f0:Int}{N:Nat}(hf:0<=f0/\f0<=100000)(hN:N<=16)(h:∀ra rc w',Sep F W w' (ak ra N rc 3 1 (flat one (mG N λx=>f0+x))::L)->Q ra N rc w'):
  ∀(j i:Nat) (la:Option Addr) (lc:Nat) (w:World),i+j=N->Sep F W w (ak la i lc 3 1 (flat one (mG i λx=>f0+x))::L)->nk Q (j+1) la i lc f0 N i w:=by
 intro j;induction j with
 |zero=>
  intro i la lc w hi s;show tq Q (nk Q 0) _ _ _ _ _ _ _;unfold tq;grind
 |succ j ih=>
  intro i la lc w hi s;show tq Q (nk Q (j+1)) _ _ _ _ _ _ _;rw[tq,bM,aG];refine LD s (by omega) λla lc w s=>?_;rw[aG];rw[<-abD i λx=>f0+x]at s;exact ih (i+1) la lc w (by omega) s
def ae_ {Q:Option Addr->Nat->Nat->World->Prop}{f0 tw:Int}{N:Nat}(hf:0<=f0/\f0<=100000)(ht:0<=tw/\tw<=16)(hN:N<=16)(h:∀ra rc w',Sep F W w' (ak ra N rc 3 1 (flat one (mG N λy=>f0+y*tw))::L)->Q ra N rc w'):
  ∀(j i:Nat) (la:Option Addr) (lc:Nat) (w:World),i+j=N->Sep F W w (ak la i lc 3 1 (flat one (mG i λy=>f0+y*tw))::L)->nq Q (j+1) tw la i lc f0 N i w:=by
 intro j;induction j with
 |zero=>
  intro i la lc w hi s;show tu Q (nq Q 0) _ _ _ _ _ _ _ _;unfold tu;grind
 |succ j ih=>
  intro i la lc w hi s;show tu Q (nq Q (j+1)) _ _ _ _ _ _ _ _;unfold tu;have h1:0<=(i:Int)*tw:=Int.mul_nonneg (by omega) ht.1;have h2:(i:Int)*tw<=16*16:=Int.mul_le_mul (by omega) ht.2 ht.1 (by decide);rw[bM,aG (n:=(i:Int)*tw),aG];refine LD s (by omega) λla lc w s=>?_;rw[aG];rw[<-abD i λy=>f0+y*tw]at s;exact ih (i+1) la lc w (by omega) s
def V2 {tw th sd:Int}{Q:Option Addr->Nat->Nat->World->Prop}(s0:Sep F W w L)(ht:1<=tw/\tw<=16)(hh:1<=th/\th<=16)
  (h:∀ra rn rc w',Sep F W w' (ak ra rn rc 3 1 (flat one (mH tw th sd))::L)->Q ra rn rc w'):B5 tw th sd w Q:=by
 apply VD;have s:=bE s0 3 1;obtain⟨TW,rfl⟩:∃N:Nat,tw=N:=⟨tw.toNat,by omega⟩;obtain⟨TH,rfl⟩:∃N:Nat,th=N:=⟨th.toNat,by omega⟩;unfold mH at h;by_cases k2:sd=2
 ·rw[dN k2,cond_true];rw[if_pos k2]at h;have h1:0<=((TH:Int)-1)*TW:=Int.mul_nonneg (by omega) (by omega);have h2:((TH:Int)-1)*TW<=16*16:=Int.mul_le_mul (by omega) (by omega) (by omega) (by decide);rw[aG (n:=(TH:Int)-1),aG];exact⟨TW+1,ae9 (by omega) (by omega) (λra rc w' s=>h ra TW rc w' s) TW 0 none 0 w (by omega) s⟩
 rw[cy k2,cond_false];rw[if_neg k2]at h;by_cases k0:sd=0
 ·rw[dN k0,cond_true];rw[if_pos k0]at h;exact⟨TW+1,ae9 (by omega) (by omega) (λra rc w' s=>h ra TW rc w' s) TW 0 none 0 w (by omega) s⟩
 rw[cy k0,cond_false];rw[if_neg k0]at h;by_cases k1:sd=1
 ·rw[dN k1,cond_true];rw[if_pos k1]at h;rw[aG];exact⟨TH+1,ae_ (by omega) (by omega) (by omega) (λra rc w' s=>h ra TH rc w' s) TH 0 none 0 w (by omega) s⟩
 rw[cy k1,cond_false];rw[if_neg k1]at h;by_cases k3:sd=3
 ·rw[dN k3,cond_true];rw[if_pos k3]at h;exact⟨TH+1,ae_ (by omega) (by omega) (by omega) (λra rc w' s=>h ra TH rc w' s) TH 0 none 0 w (by omega) s⟩
 rw[cy k3,cond_false];rw[if_neg k3]at h;exact h _ _ _ _ s
end
def bl (b:Bool):List Value:=[.bool b]
def aie (b:Bool):(bl b).length=1:=rfl
def I7 (w h sc s:Int):Bool:=decide (0<=gJ w h (CH w h sc (gi (mH (aD w h sc) (bz w h sc) s) 0)) s)
def yC (w h sc:Int)(j:Nat)(l:Nat):Bool:=(List.range j).any λs:Nat=>I7 w h sc s&&decide ((l:Int)∈mH (aD w h sc) (bz w h sc) s)
def vq (w h sc:Int):List Int:=((List.range (aD w h sc*bz w h sc).toNat).filter (yC w h sc 4)).map λl:Nat=>bX w h sc l
def alI (w h sc:Int)(j l:Nat):yC w h sc (j+1) l=(yC w h sc j l||(I7 w h sc j&&decide ((l:Int)∈mH (aD w h sc) (bz w h sc) j))):=by unfold yC;grind
def mem_range {n x:Int}{f:Int->Int}(h:x∈mG n f):∃i:Nat,(i:Int)<n/\x=f i:=by unfold mG at h;grind
def xA (n:Int)(f:Int->Int):(mG n f).length=n.toNat:=by unfold mG;simp
def aif {tw th sd:Int}(ht:1<=tw/\tw<=16)(hh:1<=th/\th<=16):(mH tw th sd).length<=16/\(0<=sd/\sd<=3->0<(mH tw th sd).length)/\∀x∈mH tw th sd,0<=x/\x<tw*th:=by
 have m1:∀y:Int,0<=y->y<th->0<=y*tw/\y*tw+tw<=tw*th:=λy h1 h2=>by have a:0<=y*tw:=Int.mul_nonneg h1 (by omega);have b:(y+1)*tw<=th*tw:=Int.mul_le_mul_of_nonneg_right (by omega) (by omega);grind
 unfold mH;split
 ·refine⟨by rw[xA];omega,λ_=>by rw[xA];omega,λx hx=>?_⟩;obtain⟨i,hi,rfl⟩:=mem_range hx;have:=m1 (th-1) (by omega) (by omega);omega
 ·split
  ·refine⟨by rw[xA];omega,λ_=>by rw[xA];omega,λx hx=>?_⟩;obtain⟨i,hi,rfl⟩:=mem_range hx;have:=m1 0 (by omega) (by omega);omega
  ·split
   ·refine⟨by rw[xA];omega,λ_=>by rw[xA];omega,λx hx=>?_⟩;obtain⟨i,hi,rfl⟩:=mem_range hx;grind
   ·split
    ·refine⟨by rw[xA];omega,λ_=>by rw[xA];omega,λx hx=>?_⟩;obtain⟨i,hi,rfl⟩:=mem_range hx;grind
    grind
def anN {N x:Nat}{E:Nat->Bool}:((List.range N).map E).set x true=(List.range N).map λl=>E l||decide (l=x):=by refine List.ext_getElem (by simp) λi h1 h2=>?_;grind
section
variable {F:Nat->Prop}{W w w0:World}{L:List As}{r:uB}{g:iw}{a:Option Addr}{n c:Nat}{bs:List Int}{mw mh ce sc:Int}
def Nw {α:Type}{f:α->List Value}{es:List α}{e:TypeId}{i k:Nat}{x':α}{idx:Int}{v:Value}{K:World->Prop}(hf:∀x,(f x).length=1)(s:Sep F W w L)(hi:L[i]? =some (ak a n c e 1 (flat f es)))(hk:idx=k)(hkn:k<es.length)(hx':f x'=[v])(hv:v.oneCell'=true)
  (h:∀w',Sep F W w' (L.set i (ak a n c e 1 (flat f (es.set k x'))))->K w'):aJ idx n (wA a λp=>St (p.add (idx.toNat*1)) v w K):=by
 have hn:=ri s hi;rw[iT hf,Nat.mul_one,Nat.mul_one]at hn;obtain⟨b,o,rfl⟩:=pY s hi (by omega);subst hk;refine⟨by omega,by omega,ah ?_⟩;obtain⟨x,hx⟩:∃x,es[k]? =some x:=⟨_,List.getElem?_eq_getElem hkn⟩;have h1:=hf x;refine dQ hf s hi hx (j:=0) (by simp[Addr.add]) (by decide) ?_ hv h;rw[hx']
 match hfx:f x,h1 with
 |[y],_=>rfl
def anO {P4:Int->Int->Int->Int->Int->Option Addr->Nat->Nat->Int->Int->Int->Int->Int->World->Prop}{Q:Option Addr->Nat->Nat->World->Prop}{tw th sd:Int}{ea la:Option Addr}{N ec ln lc:Nat}{xs:List Int}{E:Nat->Bool}(v8:0<=sd/\sd<=3)(hl:xs.length=ln)(qe:ln<=16)(hx:∀x∈xs,0<=x/\x<N)
  (next:∀w',Sep No w0 w' (ak ea N ec 4 1 (flat bl ((List.range N).map λl=>E l||decide ((l:Int)∈xs)))::ak la ln lc 3 1 (flat one xs)::L)->P4 mw mh sc tw th ea N ec 0 1 2 3 (sd+1) w'):
  ∀(j i:Nat) (w:World),i+j=ln->Sep No w0 w (ak ea N ec 4 1 (flat bl ((List.range N).map λl=>E l||decide ((l:Int)∈xs.take i)))::ak la ln lc 3 1 (flat one xs)::L)->
   qQ P4 Q (j+1) mw mh sc tw th ea N ec 0 1 2 3 sd la ln lc ln i w:=by
 intro j;induction j with
 |zero=>
  intro i w hi s;show u9 P4 Q (qQ P4 Q 0) _ _ _ _ _ _ _ _ _ _ _ _ _ _ _ _ _ _ _;rw[u9,bq,aG];grind
 |succ j ih=>
  intro i w hi s;show u9 P4 Q (qQ P4 Q (j+1)) _ _ _ _ _ _ _ _ _ _ _ _ _ _ _ _ _ _ _;rw[u9,bM];have hX:=aN s (i:=1) rfl cF (by decide);apply hX.rJ rfl (by omega);have hxi:=hx _ (ff (i:=i) (by omega));obtain⟨x,hxe⟩:∃x:Nat,gi xs i=x:=⟨(gi xs i).toNat,by omega⟩;rw[hxe]at hxi⊢;refine Nw (x':=true) aie s (i:=0) rfl rfl (by simp;omega) rfl rfl λw s=>?_;rw[aG];apply ih (i+1) w (by omega);rw[anN]at s;have e:(λl:Nat=>(E l||decide ((l:Int)∈xs.take i))||decide (l=x))=λl:Nat=>E l||decide ((l:Int)∈xs.take (i+1)):=by
   funext l;rw[Bool.or_assoc];congr 1;have ht:xs.take (i+1)=xs.take i++[(x:Int)]:=by rw[List.take_add_one,iz (by omega),hxe];rfl
   grind
  grind
def anP {Q:Option Addr->Nat->Nat->World->Prop}{ea:Option Addr}{N ec:Nat}{E:Nat->Bool}(hs:dW mw mh sc)(hN:(N:Int)=aD mw mh sc*bz mw mh sc)(hN2:N<=256)
  (h:∀ra rn rc w',Sep No w0 w' (ak ra rn rc 3 1 (flat one (((List.range N).filter E).map λl:Nat=>bX mw mh sc l))::ak ea N ec 4 1 (flat bl ((List.range N).map E))::L)->Q ra rn rc w'):
  ∀(j i:Nat) (oa:Option Addr) (on oc:Nat) (w:World),i+j=N->on<=i->Sep No w0 w (ak oa on oc 3 1 (flat one (((List.range i).filter E).map λl:Nat=>bX mw mh sc l))::ak ea N ec 4 1 (flat bl ((List.range N).map E))::L)->
   pU Q (j+1) mw mh sc oa on oc ea N ec N i w:=by
 intro j;induction j with
 |zero=>
  intro i oa on oc w hi ho s;show tA Q (pU Q 0) _ _ _ _ _ _ _ _ _ _ _ _;unfold tA;grind
 |succ j ih=>
  intro i oa on oc w hi ho s;show tA Q (pU Q (j+1)) _ _ _ _ _ _ _ _ _ _ _ _;rw[tA,bM];obtain⟨b,o,rfl⟩:=pY s (i:=1) rfl (by omega);refine⟨by omega,by omega,ah ?_⟩;apply ajP aie s (i:=1) (k:=i) (j:=0) rfl (x:=E i) (by grind) (by simp[Addr.add]) rfl;have hf:(List.range (i+1)).filter E=(List.range i).filter E++(if E i=true then[i]else[]):=by rw[List.range_succ,List.filter_append];grind
  cases hE:E i with
  |true=>
   refine xw s λw s _=>?_;unfold CH;refine LD s (by omega) λoa oc w s=>?_;rw[aG];apply ih (i+1) oa (on+1) oc w (by omega) (by omega);grind
  |false=>
   rw[cond_false,aG];grind
def V3 {Q:Option Addr->Nat->Nat->World->Prop}(s0:Sep F W w L)(hs:dW mw mh sc)(h:∀ra rn rc w',Sep F W w' (ak ra rn rc 3 1 (flat one (vq mw mh sc))::L)->Fr No w w'->Q ra rn rc w'):B3 mw mh sc w Q:=by
 apply VE;have hz:=qP hs.1.1 hs.1.2 hs.2;have hmx:=Int.mul_le_mul hz.1.2 hz.2.2 (by omega) (by decide);have hmn:=Int.mul_le_mul hz.1.1 hz.2.1 (by decide) (by omega);obtain⟨N,hN⟩:∃N:Nat,aD mw mh sc*bz mw mh sc=N:=⟨(aD mw mh sc*bz mw mh sc).toNat,by omega⟩;refine vp (bh (F:=No)) λw1 s _=>?_;unfold Y9 ac8;rw[if_pos hs,if_pos hs,aG,hN];refine xL (bytes:=1) ee s rfl rfl rfl rfl rfl rfl (by decide) aie rfl (λu hu=>by simp[bl]at hu;subst hu;rfl) rfl rfl (Nat.le_refl _) (by omega) (by simp[maxLen];omega) λeb w1 s=>?_;refine I6 s λw1 s _=>?_;have apQ:List.replicate N false=(List.range N).map (yC mw mh sc 0):=by refine List.ext_getElem (by simp) λi h1 h2=>?_;simp[yC]
 rw[apQ]at s;have loop:∀(j i:Nat) (w1:World) (L':List As),i+j=4->Sep No w w1 (ak (sZ eb) N N 4 1 (flat bl ((List.range N).map (yC mw mh sc i)))::L')->
   qR Q (j+1) mw mh sc (aD mw mh sc) (bz mw mh sc) (sZ eb) N N 0 1 2 3 i w1:=by
  intro j;induction j with
  |zero=>
   intro i w1 L' hi s;show u_ Q (qR Q 0) _ _ _ _ _ _ _ _ _ _ _ _ _ _;unfold u_;have hi:i=4:=by omega
   subst hi;have s:=bE s 3 1;refine⟨N+1,anP hs hN.symm (by omega) (λra rn rc w' s=>?_) N 0 none 0 0 w1 (by omega) (by omega) s⟩;refine h _ _ _ _ (dA s0 s (i:=0) ?_) (au s);unfold vq;grind
  |succ j ih=>
   intro i w1 L' hi s;show u_ Q (qR Q (j+1)) _ _ _ _ _ _ _ _ _ _ _ _ _ _;rw[u_,bM];refine⟨by omega,by omega,?_⟩;refine aus (x:=(i:Int)) (by omega) (abC ?_);obtain⟨o1,o2,o3⟩:=aif (sd:=(i:Int)) hz.1 hz.2;refine V2 s hz.1 hz.2 λra rn rc w1 s=>?_;have hX:=aN s (i:=0) rfl cF (by decide);have hXl:=hX.len;rw[cy (by omega),cond_false];apply hX.rJ (k:=0) rfl (by omega);refine xw s λw1 s _=>?_;refine JZ s λw1 s _=>?_;have hnew:=alI mw mh sc i;by_cases hov:gJ mw mh (CH mw mh sc (gi (mH (aD mw mh sc) (bz mw mh sc) i) 0)) i<0
   ·rw[bM hov,aG];have aBE:I7 mw mh sc i=false:=by unfold I7;grind
    have e:yC mw mh sc i=yC mw mh sc (i+1):=by funext l;simp_all
    rw[e]at s;exact ih (i+1) w1 _ (by omega) (ai s)
   ·rw[bq hov];have Cm:I7 mw mh sc i=true:=by unfold I7;grind
    have s:=ck s (List.Perm.swap ..);refine⟨rn+1,anO (w0:=w) (L:=L') (E:=yC mw mh sc i) (by omega) hXl (by omega) (λx hx=>by grind) (λw' s=>?_) rn 0 w1 (by omega) ?_⟩
    ·have e:(λl:Nat=>yC mw mh sc i l||decide ((l:Int)∈mH (aD mw mh sc) (bz mw mh sc) i))=yC mw mh sc (i+1):=by grind
     grind
    simp_all
 exact⟨5,loop 4 0 w1 _ (by omega) s⟩
def aY (m:bJ)(sc:Int):List Int:=(vq m.w m.h sc).filter (eV m)
def abE (hs:dW mw mh sc):(vq mw mh sc).length<=256:=by have hz:=qP hs.1.1 hs.1.2 hs.2;have hmx:=Int.mul_le_mul hz.1.2 hz.2.2 (by omega) (by decide);unfold vq;grind
def xB {Q:Option Addr->Nat->Nat->World->Prop}(s0:Sep F W w L)(k:nB w r g)(hs:dW g.m.w g.m.h sc)(h:∀ra rn rc w',Sep F W w' (ak ra rn rc 3 1 (flat one (aY g.m sc))::L)->Fr No w w'->Q ra rn rc w'):oq (sZ r.p) sc w Q:=by
 apply VF;refine jn (bh (F:=No)) k λw1 s _=>?_;refine V3 s hs λca cn cc w1 s _=>?_;have yg:=(aN s (i:=0) rfl cF (by decide)).len;have aih:=abE hs;have loop:∀(j i:Nat) (oa:Option Addr) (on oc:Nat) (w1:World),i+j=cn->on<=i->Sep No w w1 [ak oa on oc 3 1 (flat one (((vq g.m.w g.m.h sc).take i).filter (eV g.m))),ak ca cn cc 3 1 (flat one (vq g.m.w g.m.h sc))]->
   qS Q (j+1) (sZ r.p) oa on oc ca cn cc cn i w1:=by
  intro j;induction j with
  |zero=>
   intro i oa on oc w1 hi ho s;show vg Q (qS Q 0) _ _ _ _ _ _ _ _ _ _;rw[vg,bq];rw[List.take_of_length_le (by omega)]at s;exact h _ _ _ _ (dA s0 s (i:=0) rfl) (au s)
  |succ j ih=>
   intro i oa on oc w1 hi ho s;show vg Q (qS Q (j+1)) _ _ _ _ _ _ _ _ _ _;rw[vg,bM];apply(aN s (i:=1) rfl cF (by decide)).rJ rfl (by omega);apply DL (k.fr (au s));have ht:(vq g.m.w g.m.h sc).take (i+1)=(vq g.m.w g.m.h sc).take i++[gi (vq g.m.w g.m.h sc) i]:=by rw[List.take_add_one,iz (by omega)];rfl
   cases ho2:eV g.m (gi (vq g.m.w g.m.h sc) i)with
   |true=>
    refine LD s (by omega) λoa oc w1 s=>?_;rw[aG];apply ih (i+1) oa (on+1) oc w1 (by omega) (by omega);grind
   |false=>
    rw[cond_false,aG];apply ih (i+1) oa on oc w1 (by omega) (by omega);grind
 exact⟨cn+1,loop cn 0 none 0 0 w1 (by omega) (by omega) (bE s 3 1)⟩
end
def Dn (e:Int×Int):List Value:=[ae e.1,ae e.2]
def QT (e:Int×Int):(Dn e).length=2:=rfl
def akF (e:Int×Int)(u:Value)(h:u∈Dn e):u.oneCell'=true:=by simp[Dn,List.mem_cons,List.not_mem_nil,or_false]at h;rcases h with rfl|rfl<;>rfl
def Fw (m:bJ)(c s:Int):Option (Int×Int):=if 0<=gJ m.w m.h c s/\eV m (gJ m.w m.h c s)=true then some (gJ m.w m.h c s,cA m (gJ m.w m.h c s))else none
def Gq (m:bJ)(c:Int)(j:Nat):List (Int×Int):=(List.range j).filterMap λs:Nat=>Fw m c s
def vr (m:bJ)(c:Int):List (Int×Int):=if eV m c=true then Gq m c 4 else[]
def ajY (m:bJ)(c:Int)(j:Nat):Gq m c (j+1)=Gq m c j++(Fw m c j).toList:=by rw[Gq,List.range_succ,List.filterMap_append];congr 1
section
variable {F:Nat->Prop}{W w w0:World}{L:List As}{r:uB}{g:iw}{a:Option Addr}{n c:Nat}{es:List (Int×Int)}{ce:Int}
def aqd {x:Int×Int}{K:Option Addr->Nat->Nat->World->Prop}(s:Sep F W w (ak a n c 292 2 (flat Dn es)::L))(hn:n<=1000000000)
  (k:∀a' c' w',Sep F W w' (ak a' (n+1) c' 292 2 (flat Dn (es++[x]))::L)->K a' (n+1) c' w'):Bx [ae x.1,ae x.2] 292 w λp w1=>App P #[289,289] 289 (.slice a n c) (.slice (some p) 1 1) w1 K:=by
 refine aO s λb w s=>?_;have src:Src w (sZ b) 1 2 (Dn x):=⟨rfl,akF x,λj u hj=>by rw[cq,Nat.zero_add];exact cM s (i:=0) rfl rfl hj⟩;refine ig ee s (i:=1) (bytes:=16) rfl rfl rfl rfl rfl rfl (by decide) rfl src (by simp[maxLen];omega) (by omega) (λe=>by cases e) λa1 c1 w1 s1=>?_;have e:flat Dn es++Dn x=flat Dn (es++[x]):=by rw[fX];simp[flat]
 rw[e]at s1;exact k _ _ _ (ai s1)
def V4 {Q:Option Addr->Nat->Nat->World->Prop}(s0:Sep F W w L)(k:nB w r g)(h:∀ra rn rc w',Sep F W w' (ak ra rn rc 292 2 (flat Dn (vr g.m ce))::L)->Fr No w w'->Q ra rn rc w'):B2 (sZ r.p) ce w Q:=by
 apply VG;refine jn (bh (F:=No)) k λw1 s _=>?_;apply DL (k.fr (au s));unfold vr at h;cases ho:eV g.m ce with
 |false=>
  rw[ho,if_neg (by decide)]at h;exact h _ _ _ _ (bE (bS s0 (au s)) 292 2) (au s)
 |true=>
  rw[ho,if_pos rfl]at h;refine I6 s λw1 s _=>?_;have loop:∀(j i:Nat) (oa:Option Addr) (on oc:Nat) (w1:World) (L':List As),i+j=4->on<=i->Sep No w w1 (ak oa on oc 292 2 (flat Dn (Gq g.m ce i))::L')->
    n8 Q (j+1) (sZ r.p) ce g.m.w g.m.h oa on oc 0 1 2 3 i w1:=by
   intro j;induction j with
   |zero=>
    intro i oa on oc w1 L' hi Cm s;show vh Q (n8 Q 0) _ _ _ _ _ _ _ _ _ _ _ _ _;unfold vh;have hi:i=4:=by omega
    subst hi;exact h _ _ _ _ (dA s0 s (i:=0) rfl) (au s)
   |succ j ih=>
    intro i oa on oc w1 L' hi Cm s;show vh Q (n8 Q (j+1)) _ _ _ _ _ _ _ _ _ _ _ _ _;rw[vh,bM];refine⟨by omega,by omega,?_⟩;refine aus (x:=(i:Int)) (by omega) (abC ?_);refine JZ s λw1 s _=>?_;have hsu:=ajY g.m ce i;have skip:Fw g.m ce i=none->∀w1,Sep No w w1 (ak oa on oc 292 2 (flat Dn (Gq g.m ce i))::L')->n8 Q (j+1) (sZ r.p) ce g.m.w g.m.h oa on oc 0 1 2 3 (IntKind.wrap .i64 ((i:Int)+1)) w1:=λhn w1 s=>by rw[aG];grind
    by_cases h1:gJ g.m.w g.m.h ce i≥0
    ·rw[bM h1];apply DL (k.fr (au s));cases h2:eV g.m (gJ g.m.w g.m.h ce i)with
     |true=>
      apply jm (k.fr (au s));have IJ:Fw g.m ce i=some (gJ g.m.w g.m.h ce i,cA g.m (gJ g.m.w g.m.h ce i)):=if_pos ⟨h1,h2⟩;refine aqd (x:=(gJ g.m.w g.m.h ce i,cA g.m (gJ g.m.w g.m.h ce i))) s (by omega) λoa oc w1 s=>?_;rw[aG];grind
     |false=>
      exact skip (if_neg (by rw[h2];simp)) _ s
    ·rw[bq h1];exact skip (fR) _ s
  exact⟨5,loop 4 0 none 0 0 w1 _ (by omega) (by omega) (bE s 292 2)⟩
end
structure bj where
 c:Int
 s:Int
 k:Int
deriving DecidableEq,Inhabited
def fT (x:bj):List Value:=[ae x.c,ae x.s,ae x.k]
def nC (x:bj):(fT x).length=3:=rfl
def V5 (x:bj)(u:Value)(h:u∈fT x):u.oneCell'=true:=by simp[fT,List.mem_cons,List.not_mem_nil,or_false]at h;rcases h with rfl|rfl|rfl<;>rfl
def V6 (x y:Int):Int:=if x<y then-1 else if x>y then 1 else 0
def aii (a b:bj):Int:=if V6 a.k b.k≠0 then V6 a.k b.k else if V6 a.c b.c≠0 then V6 a.c b.c else V6 a.s b.s
section
variable {F:Nat->Prop}{W w w0:World}{L:List As}
def DN {x y:Int}{Q:Int->World->Prop}(h:Q (V6 x y) w):ot x y w Q:=by apply Qh;apply Ba;rw[Es rfl];apply Ba;rw[Es rfl];show cond false _ (cond false _ _);unfold V6 at h;grind
def agE {a:Option Addr}{n c:Nat}{x y z:Int}{Q:Int->World->Prop}(hA:Sl w a n c 1 one [x,y,z])(h:Q (if x≠0 then x else if y≠0 then y else z) w):ER a n c w Q:=by
 have hl:n=3:=hA.len.symm;subst hl;apply ZC;refine⟨4,?_⟩;show mV Q (qT Q 3) _ _ _ _ _ _ _;unfold mV;apply hA.rJ (k:=0) rfl (by omega);show cond (x !=0) _ _;by_cases hx:x=0
 ·rw[Es hx,cond_false,wrap_i64 (by decide) (by decide)];rw[if_neg (λe=>e hx)]at h;show mV Q (qT Q 2) _ _ _ _ _ _ _;unfold mV;apply hA.rJ (k:=1) rfl (by omega);show cond (y !=0) _ _;by_cases hy:y=0
  ·rw[Es hy,cond_false,wrap_i64 (by decide) (by decide)];rw[if_neg (λe=>e hy)]at h;show mV Q (qT Q 1) _ _ _ _ _ _ _;unfold mV;apply hA.rJ (k:=2) rfl (by omega);show cond (z !=0) _ _;by_cases hz:z=0
   ·rw[Es hz,cond_false,wrap_i64 (by decide) (by decide)];show mV Q (qT Q 0) _ _ _ _ _ _ _;unfold mV;grind
   ·rw[Gk hz,cond_true];exact h
  ·rw[Gk hy,cond_true];rw[if_pos hy]at h;exact h
 ·rw[Gk hx,cond_true];rw[if_pos hx]at h;exact h
def Yb {x y:bj}{Q:Int->World->Prop}(s0:Sep F W w L)(h:∀w',Sep F W w' L->Fr No w w'->Q (aii x y) w'):DB x.c x.s x.k y.c y.s y.k w Q:=by apply X1;refine aO (bh (F:=No)) λab w s=>?_;refine aO s λbb w s=>?_;have s:=ay s;apply lI s 1 rfl;apply lI s 0 rfl;apply lI s 1 rfl;apply lI s 0 rfl;apply lI s 1 rfl;apply lI s 0 rfl;apply DN;refine⟨cg s 0 rfl,cg s 1 rfl,cg s 0 rfl,cg s 1 rfl,?_⟩;apply DN;refine⟨cg s 0 rfl,cg s 1 rfl,?_⟩;apply DN;refine aO s λpb w s=>?_;have s:=gX (n:=3) (size:=1) s (i:=0) rfl rfl (by decide) (λu hu=>by simp[List.mem_cons,List.not_mem_nil,or_false]at hu;rcases hu with rfl|rfl|rfl<;>rfl);have s:=s;apply agE (aN s (i:=0) rfl cF (by decide));exact h _ (bS s0 (au s)) (au s)
def cxF (m f:Nat):(cx m).F f=oW f fns:=rfl
def ayW:oW 197 fns=true:=by kernel_rfl
def ajZ {m:Nat}{x y:bj}{Q:Int->World->Prop}(h:DB x.c x.s x.k y.c y.s y.k w Q):h_ (cx m) (.func (.func 197) #[] #[]) [.agg #[ae x.c,ae x.s,ae x.k],.agg #[ae y.c,ae y.s,ae y.k]] w λv w'=>dI .i64 v λr=>Q r w':=by unfold h_;simp only;exact h
end
def ZX (tw th c s:Int):Bool:=if s=0 then c/tw==0 else if s=1 then c%tw==tw-1 else if s=2 then c/tw==th-1 else if s=3 then c%tw==0 else s==4
def Aq (tw th:Int)(cs:List Int)(x:bj):Bool:=decide (0<=x.c/\x.c<cs.length)&&(gi cs x.c.toNat !=255&&(decide (0<=x.k/\x.k<=1073741824)&&ZX tw th x.c x.s))
def rU (tw th:Int)(cs:List Int)(xs:List bj):Bool:=Tl.DK tw th cs&&xs.all (Aq tw th cs)
section
variable {F:Nat->Prop}{W w w0:World}{L:List As}{a la:Option Addr}{n c ln lc tb:Nat}{cs:List Int}{tw th:Int}{xs:List bj}
def abF {ce sd:Int}{Q:Bool->World->Prop}(s0:Sep F W w L)(hw:1<=tw/\tw<=16)(hh:1<=th/\th<=16)(hc:0<=ce/\ce<1000000)(h:∀w',Sep F W w' L->Fr No w w'->Q (ZX tw th ce sd) w'):Ga tw th a n c ce sd w Q:=by
 apply abq;refine aO (bh (F:=No)) λtb w s=>?_;have s:=ay s;apply lI s 0 rfl;refine⟨by omega,?_⟩;apply lI s 0 rfl;refine⟨by omega,cg s 0 rfl,?_⟩;have h:=h _ (bS s0 (au s)) (au s);have d0:0<=ce/tw:=Int.ediv_nonneg hc.1 (by omega);have d1:ce/tw<=ce:=Int.ediv_le_self _ hc.1;rw[Int.tdiv_eq_ediv_of_nonneg hc.1,Int.tmod_eq_emod_of_nonneg hc.1,aG];unfold ZX at h;by_cases k0:sd=0
 ·grind
 rw[cy k0,cond_false];rw[if_neg k0]at h;by_cases k1:sd=1
 ·rw[dN k1,cond_true];rw[if_pos k1]at h;apply lI s 0 rfl;rw[aG];exact h
 rw[cy k1,cond_false];rw[if_neg k1]at h;by_cases k2:sd=2
 ·rw[dN k2,cond_true];rw[if_pos k2]at h;apply lI s 0 rfl;rw[aG];exact h
 grind
def rV (w:World)(b:Nat)(vs:List Value):Prop:=∀(j:Nat) v,vs[j]? =some v->w.cell? ((aZ b).add j)=some v
def rV.fr {w':World}{b:Nat}{vs:List Value}(k:rV w b vs)(f:Fr No w w'):rV w' b vs:=λj v h=>Fr.cell f (k j v h) id
def kZ {b i:Nat}{t:TypeId}{vs:List Value}(s:Sep F W w L)(hi:L[i]? =some (av b t vs)):rV w b vs:=λj v hj=>by rw[cq,Nat.zero_add];exact cM s rfl hi hj
def Yc {x:bj}{Q:Bool->World->Prop}(s0:Sep F W w L)(hK:rV w tb [ae tw,ae th,.slice a n c])(hA:Sl w a n c 1 bp cs)(hm:Tl.DK tw th cs=true)
  (h:∀w',Sep F W w' L->Fr No w w'->Q (!Aq tw th cs x) w'):DD x.c x.s x.k (sZ tb) w Q:=by
 apply X2;obtain⟨h1,h2,h3,_⟩:=Tl.ZT.1 hm;have hl:=hA.len;have hmx:=Int.mul_le_mul h1.2 h2.2 (by omega) (by decide);refine aO (bh (F:=No)) λsb w1 s=>?_;have K:=hK.fr (au s);have A:=hA.fr (au s);have no:Aq tw th cs x=false->Q true w1:=λe=>by have:=h _ (bS s0 (au s)) (au s);grind
 unfold Aq at no h;apply lI s 0 rfl;by_cases k1:x.c<0
 ·grind
 rw[bq k1];apply lI s 0 rfl;refine ah (dx (K 2 _ rfl) ?_);by_cases k2:x.c≥(n:Int)
 ·grind
 rw[bq k2];rw[decide_eq_true (show 0<=x.c/\x.c<cs.length by omega),Bool.true_and]at no h;refine ah (dx (K 2 _ rfl) ?_);apply lI s 0 rfl;apply A.yK (k:=x.c.toNat) (by omega) (by omega);by_cases k3:gi cs x.c.toNat=255
 ·grind
 rw[cy k3,cond_false];rw[Gk k3,Bool.true_and]at no h;apply lI s 0 rfl;by_cases k4:x.k<0
 ·grind
 rw[bq k4];apply lI s 0 rfl;by_cases k5:x.k>1073741824
 ·grind
 rw[bq k5];rw[decide_eq_true (show 0<=x.k/\x.k<=1073741824 by omega),Bool.true_and]at h;refine ah (aR (K 0 _ rfl) (aR (K 1 _ rfl) (dx (K 2 _ rfl) ?_)));apply lI s 0 rfl;apply lI s 0 rfl;refine abF s h1 h2 (by omega) λw1 s _=>?_;exact h _ (bS s0 (au s)) (au s)
def aBd:oW 210 fns=true:=by kernel_rfl
def anQ {m p:Nat}{x:bj}{Q:Bool->World->Prop}(h:DD x.c x.s x.k (sZ p) w Q):h_ (cx m) (.func (.func 210) #[] #[.pointer (sZ p)]) [.agg #[ae x.c,ae x.s,ae x.k]] w λv w'=>dB v λr=>Q r w':=by unfold h_;simp only;exact h
def aqe {Q:Int->World->Prop}(hK:rV w0 tb [ae tw,ae th,.slice a n c])(hA:Sl w0 a n c 1 bp cs)(hm:Tl.DK tw th cs=true)(hX:Sl w0 la ln lc 3 fT xs)(qe:ln<=1000000)
  (hy:xs.all (Aq tw th cs)=true->∀w',Sep No w0 w' []->Q (-1) w')(hno:xs.all (Aq tw th cs)=false->∀(i:Nat) w',Sep No w0 w' []->Q i w'):
  ∀(j i:Nat) (w:World),i+j=ln->(xs.take i).all (Aq tw th cs)=true->Sep No w0 w []->e7 Q (j+1) la ln lc (.func (.func 210) #[] #[.pointer (sZ tb)]) ln i w:=by
 have hl:=hX.len;intro j;induction j with
 |zero=>
  intro i w hi ha s;show gf Q (e7 Q 0) _ _ _ _ _ _ _;unfold gf;grind
 |succ j ih=>
  intro i w hi ha s;show gf Q (e7 Q (j+1)) _ _ _ _ _ _ _;rw[gf,bM];refine(hX.fr (au s)).El rfl (by omega) λp x hx hc=>?_;refine aR (hc 0 _ rfl) (aR (hc 1 _ rfl) (aR (hc 2 _ rfl) ?_));refine anQ (Yc s (hK.fr (au s)) (hA.fr (au s)) hm λw s _=>?_);cases hb:Aq tw th cs x with
  |false=>
   grind
  |true=>
   rw[Bool.not_true,cond_false,aG];refine ih (i+1) w (by omega) ?_ s;rw[List.take_add_one,hx,List.all_append,ha];simp[hb]
def Nx {Q:Bool->World->Prop}(s0:Sep F W w L)(hA:Sl w a n c 1 bp cs)(hX:Sl w la ln lc 3 fT xs)(qe:ln<=1000000)(h:∀w',Sep F W w' L->Fr No w w'->Q (rU tw th cs xs) w'):Bn tw th a n c la ln lc w Q:=by
 apply abr;refine aO (bh (F:=No)) λtb w1 s=>?_;apply lI s 0 rfl;apply lI s 0 rfl;apply lS s 0 rfl;refine Tl.C4 s (hA.fr (au s)).row λw1 s _=>?_;have fin:∀(r:Bool) (w':World),rU tw th cs xs=r->Fr No w w'->Q r w':=λr w' e f=>by subst e;exact h _ (bS s0 f) f
 unfold rU at fin;cases hm:Tl.DK tw th cs with
 |false=>
  rw[hm,Bool.false_and]at fin;exact fin _ _ rfl (au s)
 |true=>
  rw[hm,Bool.true_and]at fin;have f1:=au s;apply yn;apply An;refine⟨ln+1,aqe (kZ s (i:=0) rfl) (hA.fr f1) hm (hX.fr f1) qe (λha w' s'=>?_) (λha i w' s'=>?_) ln 0 w1 (by omega) rfl bh⟩
  ·exact fin _ _ ha (f1.trans (au s') (λ_ _=>id))
  ·exact fin _ _ ha (f1.trans (au s') (λ_ _=>id))
end
end Go.Proofs.YtmegplnmiepfbaaGreatDoor.S
namespace Go.Proofs.YtmegplnmiepfbaaGreatDoor.S
open Go.Sx
def ko {n:Int}(h:0<=n/\n<18446744073709551616):IntKind.wrap .u64 n=n:=by
 have:IntKind.wrap .u64 n=n%18446744073709551616:=by simp[IntKind.wrap,IntKind.bits,IntKind.signed]
 grind
def Ny {x:Int}(h:0<=x/\x<4294967296):o7 .u64 x 32=0:=by show x.fdiv (2^32)=0;grind
def V7 {x:Int}(h:0<=x/\x<4294967296):BK .u64 x 4294967295=x:=by
 obtain⟨n,rfl⟩:∃n:Nat,x=n:=⟨x.toNat,by omega⟩;have e:(BitVec.ofInt 64 (n:Int)&&&BitVec.ofInt 64 4294967295).toNat=n:=by
  rw[BitVec.toNat_and];have e1:(BitVec.ofInt 64 (n:Int)).toNat=n:=by grind
  have e2:(BitVec.ofInt 64 4294967295).toNat=2^32-1:=by decide
  rw[e1,e2,Nat.and_two_pow_sub_one_eq_mod];omega
 show IntKind.wrap .u64 ((BitVec.ofInt 64 (n:Int)&&&BitVec.ofInt 64 4294967295).toNat:Nat)=_;rw[e];exact ko (by omega)
def aut {x y:Int}(hx:0<=x/\x<1048577)(hy:0<=y/\y<1048577):0<=x*y/\x*y<2000000000000:=by have a:=Int.mul_nonneg hx.1 hy.1;have b:x*y<=1048576*1048576:=Int.mul_le_mul (by omega) (by omega) hy.1 (by decide);omega
def C5 {w:World}{x y:Int}{Q:Int->Int->World->Prop}(hx:0<=x/\x<1048577)(hy:0<=y/\y<1048577)(hxy:x*y<4294967296)(h:Q 0 (x*y) w):qB x y w Q:=by have hm:=aut hx hy;apply Um;apply PS;refine⟨by decide,by decide,by decide,by decide,by decide,?_⟩;rw[Ny (by omega),Ny (by omega),V7 (by omega),V7 (by omega)];simp[Int.zero_mul,Int.mul_zero,Int.zero_add,Int.add_zero,ko (n:=0) (by decide),ko (n:=x*y) (by omega),Ny (x:=x*y) (by omega),Ny (x:=0) (by decide),V7 (x:=0) (by decide)];exact h
end Go.Proofs.YtmegplnmiepfbaaGreatDoor.S
namespace Go.Proofs.YtmegplnmiepfbaaGreatDoor.S
open Go.Sx
attribute [local irreducible] af cE bw bg aA cu bY St Bx Al App cJ cB cz bW aL bD aq bT av ak aW mapA
def LF:∀l:List Int,flat one l=l.map λx=>Value.int .i64 x
 |[]=>rfl
 |x::l=>by have:=LF l;simp[flat,List.flatMap_cons,List.map_cons]at this⊢;rw[this];rfl
def E_ (x:Int)(u:Value)(h:u∈one x):u.oneCell'=true:=by simp[one,List.mem_singleton]at h;rw[h];rfl
def aqf {v z:Int}{n k N:Nat}(hk:k<=n)(hN:n+k<=N):
  (flat one (List.replicate n v++List.replicate (N-n) z)).take (n*1)++(flat one ((List.replicate n v++List.replicate (N-n) z).take n)).take (k*1)++(flat one (List.replicate n v++List.replicate (N-n) z)).drop ((n+k)*1)=flat one (List.replicate (n+k) v++List.replicate (N-(n+k)) z):=by
 simp only[LF,Nat.mul_one];rw[<-List.map_take,<-List.map_take,<-List.map_drop,<-List.map_append,<-List.map_append];congr 1;rw[List.take_left' (by simp),List.take_replicate,Nat.min_eq_left hk,List.replicate_append_replicate,<-List.drop_drop,List.drop_left' (by simp),List.drop_replicate,Nat.sub_sub]
section
variable {F:Nat->Prop}{W w w0:World}{L:List As}{xa:Option Addr}{xc:Nat}{v:Int}
def aj0 {Q:Option Addr->Nat->Nat->World->Prop}{b N:Nat}(hN:N<=1048576)(h:∀w',Sep No w0 w' (ak (sZ b) N N 3 1 (flat one (List.replicate N v))::L)->Q (sZ b) N N w'):
  ∀(m n:Nat) (w:World),N<=n+m->1<=n->n<=N->Sep No w0 w (ak (sZ b) N N 3 1 (flat one (List.replicate n v++List.replicate (N-n) 0))::L)->lH Q (m+1) (sZ b) N N n w:=by
 have done:∀(R:Option Addr->Nat->Nat->Int->World->Prop) (w:World),Sep No w0 w (ak (sZ b) N N 3 1 (flat one (List.replicate N v++List.replicate (N-N) 0))::L)->lG Q R (sZ b) N N N w:=λR w s=>by unfold lG;grind
 intro m;induction m with
 |zero=>
  intro n w hm h1 h2 s;have:n=N:=by omega
  subst this;exact done _ _ s
 |succ m ih=>
  intro n w hm h1 h2 s;show lG Q (lH Q (m+1)) _ _ _ _ _;by_cases hn:n=N
  ·grind
  ·rw[lG,bM];apply Pd rfl h2;rw[fR];apply Pc rfl h2;have s:=ay s;have hT:=(aN s (i:=0) rfl cF (by decide)).top h2;refine ED (p:=n) ee s rfl rfl rfl rfl (by decide) (i:=0) rfl (hT.src (e:=3) cF E_) (by omega) (by simp[Addr.add];omega) λw s=>?_;rw[aqf (Nat.min_le_left _ _) (by omega)]at s;have e:IntKind.wrap .i64 ((n:Int)+((min n (N-n):Nat):Int))=((n+min n (N-n):Nat):Int):=by rw[aG];omega
   grind
def LG {N:Nat}{Q:Option Addr->Nat->Nat->World->Prop}(s0:Sep F W w L)(hA:Sl w xa 1 xc 1 one [v])(hN:1<=N/\N<=1048576)
  (h:∀ra w',Sep F W w' (ak ra N N 3 1 (flat one (List.replicate N v))::L)->Fr No w w'->Q ra N N w'):kj xa 1 xc N w Q:=by
 apply I1;rw[bq,ko (by decide),ko (by omega)];apply C5 (by decide) (by omega) (by omega);have e1:((1:Nat):Int)*N=N:=by omega
 rw[e1,bq (by decide),bq,aG];refine xL (bytes:=8) ee (bh (F:=No)) rfl rfl rfl rfl rfl rfl (by decide) cF rfl (λu hu=>E_ 0 u hu) rfl rfl (Nat.le_refl _) (by omega) (by simp[maxLen];omega) λb w' s=>?_;refine ED (p:=0) ee s rfl rfl rfl rfl (by decide) (i:=0) rfl ((hA.fr (au s)).src (e:=3) cF E_) (by omega) rfl λw' s=>?_;have hm:min 1 N=1:=by omega
 rw[hm]at s⊢;have e2:(flat one (List.replicate N 0)).take (0*1)++(flat one [v]).take (1*1)++(flat one (List.replicate N 0)).drop ((0+1)*1)=flat one (List.replicate 1 v++List.replicate (N-1) 0):=by simp only[LF,Nat.zero_mul,List.take_zero,List.nil_append,Nat.mul_one,Nat.zero_add];simp_all
 rw[e2]at s;exact⟨N+1,aj0 hN.2 (λw' s=>h _ _ (dA s0 s (i:=0) rfl) (au s)) N 1 w' (by omega) (by omega) hN.1 s⟩
end
section
variable {F:Nat->Prop}{W w w0:World}{L:List As}{a:Option Addr}{n c:Nat}{xs:List bj}{bs:List Int}
def V8 {Q:Option Addr->Nat->Nat->World->Prop}(s:Sep F W w L)(hA:Sl w a n c 3 fT xs)(hn:n<=1000000000)(h:∀ra rc w',Sep F W w' (ak ra n rc 294 3 (flat fT xs)::L)->Fr No w w'->Q ra n rc w'):jh a n c w Q:=by
 apply B_;cases a with
 |none=>
  have hl:=hA.len;have:=hA.nil rfl;have h0:n=0:=by have:=hA.le;omega
  subst h0;have hb:=List.eq_nil_of_length_eq_zero hl;subst hb;exact h _ _ _ (bE s 294 3) Fr.refl
 |some p=>
  apply kY;refine aO (bh (F:=No)) λb w' s'=>?_;have src:=(hA.fr (au s')).src (e:=294) nC V5;have s':=gX (n:=0) (size:=3) s' (i:=0) rfl rfl (by decide) (by simp);refine ig ee s' (i:=0) (bytes:=24) rfl rfl rfl rfl rfl rfl (by decide) rfl src (by simp[maxLen];omega) (by omega) (hA.fr (au s')).nil λa1 c1 w1 s1=>?_;simp[List.set_cons_zero,List.nil_append,Nat.zero_add]at s1⊢;exact h _ _ _ (dA s s1 (i:=0) rfl) (au s1)
def LH {Q:Option Addr->Nat->Nat->World->Prop}(s:Sep F W w L)(hA:Sl w a n c 1 one bs)(hn:n<=1000000000)(h:∀ra rc w',Sep F W w' (ak ra n rc 3 1 (flat one bs)::L)->Fr No w w'->Q ra n rc w'):kP a n c w Q:=by
 apply JH;cases a with
 |none=>
  have hl:=hA.len;have:=hA.nil rfl;have h0:n=0:=by have:=hA.le;omega
  subst h0;have hb:=List.eq_nil_of_length_eq_zero hl;subst hb;exact h _ _ _ (bE s 3 1) Fr.refl
 |some p=>
  apply kY;refine aO (bh (F:=No)) λb w' s'=>?_;have src:=(hA.fr (au s')).src (e:=3) cF E_;have s':=gX (n:=0) (size:=1) s' (i:=0) rfl rfl (by decide) (by simp);refine ig ee s' (i:=0) (bytes:=8) rfl rfl rfl rfl rfl rfl (by decide) rfl src (by simp[maxLen];omega) (by omega) (hA.fr (au s')).nil λa1 c1 w1 s1=>?_;simp[List.set_cons_zero,List.nil_append,Nat.zero_add]at s1⊢;exact h _ _ _ (dA s s1 (i:=0) rfl) (au s1)
end
def w32 (x:Int):List Value:=[.int .u32 x]
def Xb (x:Int):(w32 x).length=1:=rfl
structure QU where
 p:Nat
 a:Option Addr
 n:Nat
 c:Nat
 fS:Int
def Xc (ws:List Int):Prop:=∀x∈ws,0<=x/\x<4294967296
def adV (r:QU)(ws:List Int):List As:=[av r.p 247 [.slice r.a r.n r.c,ae r.fS],ak r.a r.n r.c 248 1 (flat w32 ws)]
def vu (r:QU)(ws:List Int):As:=aW (Xc ws) (adV r ws)
def wrap_u32' {n:Int}(h:0<=n/\n<4294967296):IntKind.wrap .u32 n=n:=by
 have:IntKind.wrap .u32 n=n%4294967296:=by simp[IntKind.wrap,IntKind.bits,IntKind.signed]
 grind
section
variable {F:Nat->Prop}{W w w0:World}{L:List As}{r:QU}{ws:List Int}{ce id:Int}
def SF (s:Sep F W w (vu r ws::L)):Xc ws/\Sep F W w (adV r ws++L):=gL s
def OU (s:Sep F W w (adV r ws++L))(h:Xc ws):Sep F W w (vu r ws::L):=dz s h
structure abG (w:World) (r:QU) (ws:List Int):Prop where
 ok:Xc ws
 cell:rV w r.p [.slice r.a r.n r.c,ae r.fS]
 V:Sl w r.a r.n r.c 1 w32 ws
def Gs (s:Sep F W w (vu r ws::L)):abG w r ws:=by obtain⟨h,s⟩:=SF s;exact⟨h,kZ s (i:=0) rfl,aN s (i:=1) rfl Xb (by decide)⟩
def Cn (ws:List Int)(c:Int):Int:=if 0<=c/\c<ws.length then gi ws c.toNat-1 else-1
def Ar (ws:List Int)(c:Int):Bool:=decide (0<=c/\c<ws.length)&&gi ws c.toNat==0
def QV {Q:Bool->World->Prop}(k:abG w r ws)(h:Q (decide (0<=ce/\ce<ws.length)) w):tW (sZ r.p) ce w Q:=by
 apply RZ;have hl:=k.V.len;show cond true _ _;rw[cond_true];by_cases h0:ce≥0
 ·rw[bM h0];refine ah (dx (k.cell 0 _ rfl) ?_);grind
 grind
def LI {Q:Bool->World->Prop}(k:abG w r ws)(h:Q (Ar ws ce) w):ru (sZ r.p) ce w Q:=by
 apply Ou;apply QV k;have hl:=k.V.len;unfold Ar at h;by_cases h0:0<=ce/\ce<ws.length
 ·rw[bM h0];rw[decide_eq_true h0,Bool.true_and]at h;refine ah (dx (k.cell 0 _ rfl) ?_);exact FU k.V (by omega) (by omega) h
 grind
def Bt {Q:Int->World->Prop}(k:abG w r ws)(h:Q (Cn ws ce) w):lW (sZ r.p) ce w Q:=by
 apply PX;apply QV k;have hl:=k.V.len;unfold Cn at h;by_cases h0:0<=ce/\ce<ws.length
 ·rw[decide_eq_true h0,Bool.not_true,cond_false];rw[if_pos h0]at h;refine ah (dx (k.cell 0 _ rfl) ?_);apply FU k.V (k:=ce.toNat) (by omega) (by omega);have hb:=k.ok _ (ff (i:=ce.toNat) (by omega));rw[aG (n:=gi ws ce.toNat),aG];exact h
 grind
def Nz {Q:Bool->World->Prop}(s:Sep F W w (vu r ws::L))(zT:0<=id/\id<4294967295)(hno:Ar ws ce=false->Q false w)
  (hyes:Ar ws ce=true->∀fS w',Sep F W w' (vu {r with fS:=fS} (ws.set ce.toNat (id+1))::L)->Q true w'):r9 (sZ r.p) ce id w Q:=by
 apply P_;have k:=Gs s;apply LI k;cases hf:Ar ws ce with
 |false=>exact hno hf
 |true=>
  rw[Bool.not_true,cond_false,bq,bq];have h0:0<=ce/\ce<ws.length:=by unfold Ar at hf;grind
  obtain⟨hok,s⟩:=SF s;have s:=s;apply ah;apply lS s 0 rfl;rw[aG,wrap_u32' (by omega)];refine Nw (k:=ce.toNat) (x':=id+1) Xb s (i:=1) rfl (by omega) (by omega) rfl rfl λw s=>?_;apply ah;apply lI s 0 rfl;apply ah;refine ax s (i:=0) rfl rfl rfl λw s=>?_;refine hyes hf (IntKind.wrap .i64 (r.fS+1)) _ (OU s λx hx=>?_);rcases List.mem_or_eq_of_mem_set hx with hx|rfl
  ·exact hok x hx
  ·omega
end
section
variable {F:Nat->Prop}{W w w0:World}{L:List As}{r:QU}{ws:List Int}{ce id:Int}
def LJ {Q:Int->World->Prop}(s:Sep F W w (vu r ws::L))(hno:Cn ws ce=-1->Q (-1) w)
  (hyes:Cn ws ce≠-1->∀fS w',Sep F W w' (vu {r with fS:=fS} (ws.set ce.toNat 0)::L)->Q (Cn ws ce) w'):rq (sZ r.p) ce w Q:=by
 apply Ow;have k:=Gs s;apply Bt k;by_cases hf:Cn ws ce=-1
 ·grind
 ·rw[Gk hf,cond_true];have h0:0<=ce/\ce<ws.length:=by unfold Cn at hf;grind
  obtain⟨hok,s⟩:=SF s;have s:=s;apply ah;apply lS s 0 rfl;refine Nw (k:=ce.toNat) (x':=0) Xb s (i:=1) rfl (by omega) (by omega) rfl rfl λw s=>?_;apply ah;apply lI s 0 rfl;apply ah;refine ax s (i:=0) rfl rfl rfl λw s=>?_;refine hyes hf (IntKind.wrap .i64 (r.fS-1)) _ (OU s λx hx=>?_);rcases List.mem_or_eq_of_mem_set hx with hx|rfl
  ·exact hok x hx
  ·omega
def abH {N:Nat}{Q:Option Addr->World->Prop}(s:Sep F W w L)(hN:1<=N/\N<=1048576)(h:∀r w',Sep F W w' (vu r (List.replicate N 0)::L)->Q (sZ r.p) w'):F8 N w Q:=by apply abk;rw[bq,bq];refine xL (bytes:=4) ee s rfl rfl rfl rfl rfl rfl (by decide) Xb rfl (λu hu=>by simp[w32]at hu;subst hu;rfl) rfl rfl (Nat.le_refl _) (by omega) (by simp[maxLen];omega) λb w' s=>?_;refine aO s λp w' s=>?_;refine h ⟨p,sZ b,N,N,0⟩ _ (OU s λx hx=>?_);grind
def Yd {fr to:Int}{Q:Bool->World->Prop}(s:Sep F W w (vu r ws::L))(hno:Cn ws fr=-1\/Ar ws to=false->Q false w)
  (hyes:Cn ws fr≠-1->Ar ws to=true->∀fS w',Sep F W w' (vu {r with fS:=fS} ((ws.set fr.toNat 0).set to.toNat (Cn ws fr+1))::L)->Q true w'):wB (sZ r.p) fr to w Q:=by
 apply MU;have k:=Gs s;apply Bt k;by_cases hf:Cn ws fr=-1
 ·grind
 rw[cy hf,cond_false];apply LI k;cases ht:Ar ws to with
 |false=>
  grind
 |true=>
  refine LJ s (λe=>(hf e).elim) λ_ fS w s=>?_;have hw:0<=Cn ws fr/\Cn ws fr<4294967295:=by
   unfold Cn at hf⊢;split at hf
   ·rename_i h0;have:=k.ok _ (ff (i:=fr.toNat) (by omega));omega
   grind
  have hfree:Ar (ws.set fr.toNat 0) to=true:=by unfold Ar at ht⊢;simp[Bool.and_eq_true,decide_eq_true_eq,List.length_set,beq_iff_eq]at ht⊢;refine⟨ht.1,?_⟩;unfold gi at ht⊢;grind
  refine Nz (r:={r with fS:=fS}) s (by omega) (λe=>by grind) λ_ aBF w s=>?_;grind
end
def oY (x:Int):List Value:=[.int .i32 x]
def vv (x:Int):(oY x).length=1:=rfl
def afb {n:Int}(h:-2147483648<=n/\n<2147483648):IntKind.wrap .i32 n=n:=by simp only[IntKind.wrap,IntKind.bits,IntKind.signed];simp;omega
structure Gt where
 goal:Int
 ep:Int
 ds:List Int
structure xC where
 p:Nat
 a:Option Addr
 n:Nat
 c:Nat
def anR (r:xC)(t:Gt):List Value:=[ae t.goal,ae t.ep,.slice r.a r.n r.c]
def aij (ds:List Int):Prop:=∀x∈ds,0<=x/\x<=2147483647
def adW (r:xC)(t:Gt):List As:=[av r.p 298 (anR r t),ak r.a r.n r.c 21 1 (flat oY t.ds)]
def D_ (r:xC)(t:Gt):As:=aW (aij t.ds) (adW r t)
structure Gu (w:World) (r:xC) (t:Gt):Prop where
 ok:aij t.ds
 cell:rV w r.p (anR r t)
 V:Sl w r.a r.n r.c 1 oY t.ds
section
variable {F:Nat->Prop}{W w w0:World}{L:List As}{r:xC}{t:Gt}{ce key:Int}
def Gu.fr {w':World}(k:Gu w r t)(f:Fr No w w'):Gu w' r t:=⟨k.ok,k.cell.fr f,k.V.fr f⟩
def abI (s:Sep F W w (D_ r t::L)):aij t.ds/\Sep F W w (adW r t++L):=gL s
def YB (s:Sep F W w (adW r t++L))(h:aij t.ds):Sep F W w (D_ r t::L):=dz s h
def SG (s:Sep F W w (D_ r t::L)):Gu w r t:=by obtain⟨h,s⟩:=abI s;exact⟨h,kZ s (i:=0) rfl,aN s (i:=1) rfl vv (by decide)⟩
def atF (ds:List Int)(c:Int):Int:=if 0<=c/\c<ds.length then(if gi ds c.toNat=2147483647 then bR else gi ds c.toNat)else bR
def adX {Q:Int->World->Prop}(k:Gu w r t)(h:Q (atF t.ds ce) w):z_ (sZ r.p) ce w Q:=by
 apply Se;apply kY;have hl:=k.V.len;unfold atF at h;by_cases h0:ce<0
 ·rw[bM h0];rw[fR]at h;exact h
 rw[bq h0];refine ah (dx (k.cell 2 _ rfl) ?_);by_cases h1:ce≥(r.n:Int)
 ·rw[bM h1];rw[fR]at h;exact h
 rw[bq h1];rw[AI]at h;refine ah (dx (k.cell 2 _ rfl) ?_);apply FU k.V (k:=ce.toNat) (by omega) (by omega);have hb:=k.ok _ (ff (i:=ce.toNat) (by omega));by_cases h2:gi t.ds ce.toNat=2147483647
 ·rw[dN h2,cond_true];rw[if_pos h2]at h;exact h
 rw[cy h2,cond_false];rw[if_neg h2]at h;refine ah (dx (k.cell 2 _ rfl) ?_);apply FU k.V (k:=ce.toNat) (by omega) (by omega);rw[aG];exact h
def ZY {Q:Int->World->Prop}(k:Gu w r t)(h:Q t.goal w):x6 (sZ r.p) w Q:=by apply Oz;exact kY (ah (aR (k.cell 0 _ rfl) h))
def Ye {Q:Int->World->Prop}(k:Gu w r t)(h:Q t.ep w):wD (sZ r.p) w Q:=by apply MJ;exact kY (ah (aR (k.cell 1 _ rfl) h))
def LK {Q:Bool->World->Prop}(s:Sep F W w (D_ r t::L))(hc:0<=ce/\ce<t.ds.length)(hk:0<=key/\key<4000000000)(hno:key≥gi t.ds ce.toNat->Q false w)
  (hyes:key<gi t.ds ce.toNat->∀w',Sep F W w' (D_ r ⟨t.goal,t.ep,t.ds.set ce.toNat key⟩::L)->Q true w'):ry (sZ r.p) ce key w Q:=by
 apply OE;have k:=SG s;have hl:=k.V.len;have hb:=k.ok _ (ff (i:=ce.toNat) (by omega));refine ah (dx (k.cell 2 _ rfl) ?_);apply FU k.V (k:=ce.toNat) (by omega) (by omega);rw[aG];by_cases h1:key≥gi t.ds ce.toNat
 ·grind
 rw[bq h1];refine ah (dx (k.cell 2 _ rfl) ?_);obtain⟨hok,s⟩:=abI s;have s:=s;rw[afb (by omega)];refine Nw (k:=ce.toNat) (x':=key) vv s (i:=1) rfl (by omega) (by omega) rfl rfl λw s=>?_;refine hyes (by omega) _ (YB s λx hx=>?_);rcases List.mem_or_eq_of_mem_set hx with hx|rfl
 ·exact hok x hx
 ·omega
end
def SH (c s:Int)(st:Int×Bool)(x:bj):Int×Bool:=if x.c=c/\x.s=s/\(st.2=false\/x.k<st.1)then(x.k,true)else st
def Ir (xs:List bj)(c s:Int):Int:=(xs.foldl (SH c s) (bR,false)).1
section
variable {F:Nat->Prop}{W w w0:World}{L:List As}{la:Option Addr}{ln lc:Nat}{xs:List bj}{ce sd:Int}
def anT {Q:Int->World->Prop}(hX:Sl w0 la ln lc 3 fT xs)(qe:ln<=1000000)(h:∀w',Sep No w0 w' []->Q (Ir xs ce sd) w'):
  ∀(j i:Nat) (b:Int) (q:Bool) (w:World),i+j=ln->(xs.drop i).foldl (SH ce sd) (b,q)=xs.foldl (SH ce sd) (bR,false)->Sep No w0 w []->oE Q (j+1) ce sd b q la ln lc ln i w:=by
 have hl:=hX.len;intro j;induction j with
 |zero=>
  intro i b q w hi he s;show zp Q (oE Q 0) _ _ _ _ _ _ _ _ _ _;unfold zp;have:=h w s;unfold Ir at this;grind
 |succ j ih=>
  intro i b q w hi he s;show zp Q (oE Q (j+1)) _ _ _ _ _ _ _ _ _ _;rw[zp,bM];refine(hX.fr (au s)).El rfl (by omega) λp x hx hc=>?_;refine aR (hc 0 _ rfl) (aR (hc 1 _ rfl) (aR (hc 2 _ rfl) ?_));obtain⟨IL,hx'⟩:=List.getElem?_eq_some_iff.1 hx;rw[List.drop_eq_getElem_cons IL,hx',List.foldl_cons]at he;refine aS s λsb w s=>?_;refine ax s (i:=0) rfl rfl rfl λw s=>?_;refine ax s (i:=0) rfl rfl rfl λw s=>?_;refine ax s (i:=0) rfl rfl rfl λw s=>?_;have skip:¬(x.c=ce/\x.s=sd/\(q=false\/x.k<b))->oE Q (j+1) ce sd b q la ln lc ln (IntKind.wrap .i64 ((i:Int)+1)) w:=λhn=>by rw[aG];refine ih (i+1) b q w (by omega) ?_ (ai s);have e:SH ce sd (b,q) x=(b,q):=if_neg hn;grind
  have take:x.c=ce/\x.s=sd/\(q=false\/x.k<b)->C2 (oE Q (j+1)) Q ce sd (aZ sb) la ln lc ln i w:=λhy=>by apply lI s 0 rfl;rw[aG];refine ih (i+1) x.k true w (by omega) ?_ (ai s);have e:SH ce sd (b,q) x=(x.k,true):=if_pos hy;grind
  apply lI s 0 rfl;by_cases k1:x.c=ce
  ·rw[dN k1,cond_true];apply lI s 0 rfl;by_cases k2:x.s=sd
   ·rw[dN k2,cond_true];cases q with
    |false=>
     grind
    |true=>
     apply lI s 0 rfl;grind
   grind
  grind
def LL {Q:Int->World->Prop}(s0:Sep F W w L)(hX:Sl w la ln lc 3 fT xs)(qe:ln<=1000000)(h:∀w',Sep F W w' L->Fr No w w'->Q (Ir xs ce sd) w'):Ag la ln lc ce sd w Q:=by apply ZN;exact⟨ln+1,anT hX qe (λw' s=>h _ (bS s0 (au s)) (au s)) ln 0 bR false w (by omega) (by grind) bh⟩
end
def bN (tw th l s:Int):Int:=
 if s=0 then(if l/tw>0 then l-tw else-1)
 else if s=1 then(if l%tw<tw-1 then l+1 else-1)
 else if s=2 then(if l/tw<th-1 then l+tw else-1)
 else if s=3 then(if l%tw>0 then l-1 else-1)
 else-1
section
variable {F:Nat->Prop}{W w w0:World}{L:List As}{p:Nat}{tw th l sd:Int}{vs:List Value}
def abJ {Q:Int->World->Prop}(s0:Sep F W w L)(k:rV w p (ae tw::ae th::vs))(hw:1<=tw/\tw<=16)(hh:1<=th/\th<=16)(hl:0<=l/\l<1000000)
  (h:∀w',Sep F W w' L->Fr No w w'->Q (bN tw th l sd) w'):y9 (sZ p) l sd w Q:=by
 apply Qs;have k:=k.fr (w':=w.drew) Fr.refl;have h:=h _ (ay s0) Fr.refl;have d0:0<=l/tw:=Int.ediv_nonneg hl.1 (by omega);have d1:l/tw<=l:=Int.ediv_le_self _ hl.1;refine ah (aR (k 0 _ rfl) ⟨by omega,ah (aR (k 0 _ rfl) ⟨by omega,k 0 _ rfl,?_⟩)⟩);rw[Int.tdiv_eq_ediv_of_nonneg hl.1,Int.tmod_eq_emod_of_nonneg hl.1,aG];unfold bN at h;have b8:(if sd=3 then(if l%tw>0 then l-1 else-1)else-1:Int)=bN tw th l sd->qI Q l sd (l%tw) w.drew:=λe=>by
  unfold bN at e;unfold qI;by_cases k3:sd=3
  ·by_cases q:l%tw>0
   ·rw[bM q,aG];grind
   grind
  grind
 have b6:(sd≠0->sd≠1->True)->(sd=0\/sd=1->bN tw th l sd=-1)->qJ Q (sZ p) l sd (l%tw) (l/tw) w.drew:=λ_ e=>by
  unfold qJ;by_cases k2:sd=2
  ·rw[dN k2,cond_true];rw[fR,fR,if_pos k2]at h;refine ah (aR (k 1 _ rfl) ?_);rw[aG];by_cases q:l/tw<th-1
   ·rw[bM q];rw[if_pos q]at h;refine ah (aR (k 0 _ rfl) ?_);rw[aG];exact h
   ·rw[bq q];apply b8;unfold bN;omega
  ·rw[cy k2,cond_false];apply b8;by_cases k01:sd=0\/sd=1
   ·omega
   ·unfold bN;omega
 have b4:(sd=0->bN tw th l sd=-1)->qK Q (sZ p) l sd (l%tw) (l/tw) w.drew:=λe=>by
  unfold qK;by_cases k1:sd=1
  ·rw[dN k1,cond_true];refine ah (aR (k 0 _ rfl) ?_);rw[aG];by_cases q:l%tw<tw-1
   ·rw[bM q,aG];grind
   ·rw[bq q];refine b6 (λ_ _=>trivial) λ_=>?_;unfold bN;omega
  grind
 by_cases k0:sd=0
 ·rw[dN k0,cond_true];by_cases q:l/tw>0
  ·rw[bM q];rw[if_pos k0,if_pos q]at h;refine ah (aR (k 0 _ rfl) ?_);rw[aG];exact h
  ·rw[bq q];refine b4 λ_=>?_;unfold bN;grind
 grind
end
end Go.Proofs.YtmegplnmiepfbaaGreatDoor.S
namespace Go.Proofs.YtmegplnmiepfbaaGreatDoor.S
open Go.Sx
section
variable {w h sc l s c x y:Int}
def Gv (hm:iO w h)(hx:0<=x/\x<w)(hy:0<=y/\y<h):aC w h (y*w+x)/cQ w=y/16/\aC w h (y*w+x)%cQ w=x/16:=by obtain⟨e1,e2⟩:=rK (y:=y) hx;have:=Va (aa0 hm hx hy);grind
def zA (hs:dW w h sc):(1<=aD w h sc/\aD w h sc<=16)/\(1<=bz w h sc/\bz w h sc<=16)/\0<=sc%cQ w/\0<=sc/cQ w/\16*(sc%cQ w)<w/\16*(sc/cQ w)<h:=by
 obtain⟨hm,h0,h1⟩:=hs;have ha:1<=cQ w:=by unfold cQ;have:=hm.1;omega
 have m0:=Int.emod_nonneg sc (show cQ w≠0 by omega);have m1:=Int.emod_lt_of_pos sc (show 0<cQ w by omega);have d0:0<=sc/cQ w:=Int.ediv_nonneg h0 (by omega);have d1:sc/cQ w<cQ h:=Int.ediv_lt_of_lt_mul (by omega) (by unfold eI at h1;grind);have a1:16*(sc%cQ w)<w:=by unfold cQ at*;omega
 have a2:16*(sc/cQ w)<h:=by have:cQ h=(h+15)/16:=rfl;omega
 unfold aD bz;omega
def QW (hs:dW w h sc)(hl:0<=l/\l<aD w h sc*bz w h sc)(v8:0<=s/\s<=3)(hn:0<=bN (aD w h sc) (bz w h sc) l s):
  (0<=bN (aD w h sc) (bz w h sc) l s/\bN (aD w h sc) (bz w h sc) l s<aD w h sc*bz w h sc)/\aX w h (bX w h sc l) s=bX w h sc (bN (aD w h sc) (bz w h sc) l s):=by
 obtain⟨⟨w1,w2⟩,⟨h1,h2⟩,p1,p2,p3,p4⟩:=zA hs;have hw:aD w h sc<=w-16*(sc%cQ w):=by unfold aD;omega
 have hh:bz w h sc<=h-16*(sc/cQ w):=by unfold bz;omega
 obtain⟨i0,i1⟩:0<=l%aD w h sc/\l%aD w h sc<aD w h sc:=⟨Int.emod_nonneg _ (by omega),Int.emod_lt_of_pos _ (by omega)⟩;obtain⟨j0,j1⟩:0<=l/aD w h sc/\l/aD w h sc<bz w h sc:=⟨Int.ediv_nonneg hl.1 (by omega),Int.ediv_lt_of_lt_mul (by omega) (by rw[Int.mul_comm];exact hl.2)⟩;have hle:l=l/aD w h sc*aD w h sc+l%aD w h sc:=by have:=Int.mul_ediv_add_emod l (aD w h sc);rw[Int.mul_comm]at this;omega
 have hg:∀i j,0<=i/\i<aD w h sc->bX w h sc (j*aD w h sc+i)=(16*(sc/cQ w)+j)*w+(16*(sc%cQ w)+i):=λi j hi=>by obtain⟨e1,e2⟩:=rK hi;rw[bX,e1,e2];omega
 have key:∀i j i' j',l=j*aD w h sc+i->0<=i/\i<aD w h sc->0<=i'/\i'<aD w h sc->0<=j'/\j'<bz w h sc->bN (aD w h sc) (bz w h sc) l s=j'*aD w h sc+i'->
   (0<=j/\j<bz w h sc)->aX w h ((16*(sc/cQ w)+j)*w+(16*(sc%cQ w)+i)) s=gW w h (16*(sc%cQ w)+i') (16*(sc/cQ w)+j')->
   (0<=bN (aD w h sc) (bz w h sc) l s/\bN (aD w h sc) (bz w h sc) l s<aD w h sc*bz w h sc)/\aX w h (bX w h sc l) s=bX w h sc (bN (aD w h sc) (bz w h sc) l s):=by
  intro i j i' j' el hi hi' hj' en hj es;rw[en,el,hg _ _ hi,hg _ _ hi',es,ni hs.1 (by omega) (by omega)];refine⟨⟨by have:=Int.mul_nonneg hj'.1 (show 0<=aD w h sc by omega);omega,?_⟩,rfl⟩;have:=Int.mul_le_mul_of_nonneg_right (show j'+1<=bz w h sc by omega) (show 0<=aD w h sc by omega);rw[Int.add_mul,Int.one_mul,Int.mul_comm (bz w h sc)]at this;omega
 have hst:=EF (s:=s) hs.1 (x:=16*(sc%cQ w)+l%aD w h sc) (y:=16*(sc/cQ w)+l/aD w h sc) (by omega) (by omega);unfold bN at hn;obtain rfl|rfl|rfl|rfl:s=0\/s=1\/s=2\/s=3:=by omega
 ·by_cases q:l/aD w h sc>0
  ·refine key _ _ (l%aD w h sc) (l/aD w h sc-1) hle ⟨i0,i1⟩ ⟨i0,i1⟩ (by omega) ?_ ⟨j0,j1⟩ ?_
   ·rw[bN,if_pos rfl,if_pos q,Int.sub_mul,Int.one_mul];omega
   ·rw[hst,if_pos rfl];congr 1;omega
  ·omega
 ·by_cases q:l%aD w h sc<aD w h sc-1
  ·refine key _ _ (l%aD w h sc+1) (l/aD w h sc) hle ⟨i0,i1⟩ (by omega) (by omega) ?_ ⟨j0,j1⟩ ?_
   ·unfold bN;omega
   ·rw[hst,if_neg (by decide),if_neg (by decide),if_neg (by decide),if_pos rfl];congr 1;omega
  ·omega
 ·by_cases q:l/aD w h sc<bz w h sc-1
  ·refine key _ _ (l%aD w h sc) (l/aD w h sc+1) hle ⟨i0,i1⟩ ⟨i0,i1⟩ (by omega) ?_ ⟨j0,j1⟩ ?_
   ·rw[bN,if_neg (by decide),if_neg (by decide),if_pos rfl,if_pos q,Int.add_mul,Int.one_mul];omega
   ·rw[hst,if_neg (by decide),if_pos rfl];congr 1;omega
  ·omega
 ·by_cases q:l%aD w h sc>0
  ·refine key _ _ (l%aD w h sc-1) (l/aD w h sc) hle ⟨i0,i1⟩ (by omega) (by omega) ?_ ⟨j0,j1⟩ ?_
   ·unfold bN;omega
   ·rw[hst,if_neg (by decide),if_neg (by decide),if_pos rfl];congr 1;omega
  ·omega
def SI (hs:dW w h sc)(hl:0<=l/\l<aD w h sc*bz w h sc)(v8:0<=s/\s<=3)(hn:¬0<=bN (aD w h sc) (bz w h sc) l s):
  (0<=aX w h (bX w h sc l) s->aC w h (aX w h (bX w h sc l) s)≠sc)/\l∈mH (aD w h sc) (bz w h sc) s/\
  (0<=aX w h (bX w h sc l) s->0<=aX w h (bX w h sc (gi (mH (aD w h sc) (bz w h sc) s) 0)) s):=by
 obtain⟨⟨w1,w2⟩,⟨h1,h2⟩,p1,p2,p3,p4⟩:=zA hs;have hw:aD w h sc=min 16 (w-16*(sc%cQ w)):=rfl;have hh:bz w h sc=min 16 (h-16*(sc/cQ w)):=rfl;obtain⟨i0,i1⟩:0<=l%aD w h sc/\l%aD w h sc<aD w h sc:=⟨Int.emod_nonneg _ (by omega),Int.emod_lt_of_pos _ (by omega)⟩;obtain⟨j0,j1⟩:0<=l/aD w h sc/\l/aD w h sc<bz w h sc:=⟨Int.ediv_nonneg hl.1 (by omega),Int.ediv_lt_of_lt_mul (by omega) (by rw[Int.mul_comm];exact hl.2)⟩;have hle:l=l/aD w h sc*aD w h sc+l%aD w h sc:=by have:=Int.mul_ediv_add_emod l (aD w h sc);rw[Int.mul_comm]at this;omega
 have hg:∀i j,0<=i/\i<aD w h sc->bX w h sc (j*aD w h sc+i)=(16*(sc/cQ w)+j)*w+(16*(sc%cQ w)+i):=λi j hi=>by obtain⟨e1,e2⟩:=rK hi;rw[bX,e1,e2];omega
 have hst:=EF (s:=s) hs.1 (x:=16*(sc%cQ w)+l%aD w h sc) (y:=16*(sc/cQ w)+l/aD w h sc) (by omega) (by omega);have hgl:bX w h sc l=(16*(sc/cQ w)+l/aD w h sc)*w+(16*(sc%cQ w)+l%aD w h sc):=by have:=hg (l%aD w h sc) (l/aD w h sc) ⟨i0,i1⟩;rw[<-hle]at this;exact this
 rw[<-hgl]at hst;have first:∀i j,0<=i/\i<aD w h sc->0<=j/\j<bz w h sc->aX w h (bX w h sc (j*aD w h sc+i)) s=if s=0 then gW w h (16*(sc%cQ w)+i) (16*(sc/cQ w)+j-1)else if s=2 then gW w h (16*(sc%cQ w)+i) (16*(sc/cQ w)+j+1)else if s=3 then gW w h (16*(sc%cQ w)+i-1) (16*(sc/cQ w)+j)else if s=1 then gW w h (16*(sc%cQ w)+i+1) (16*(sc/cQ w)+j)else if s=4 then gW w h (16*(sc%cQ w)+i) (16*(sc/cQ w)+j)else-1:=λi j hi hj=>by rw[hg i j hi];exact EF hs.1 (by omega) (by omega)
 have ok:∀{x y:Int},0<=gW w h x y->(0<=x/\x<w)/\(0<=y/\y<h)/\gW w h x y=y*w+x:=λh0=>by obtain⟨a,b,_⟩:=BT h0;exact⟨a,b,ni hs.1 a b⟩
 have pos:∀{x y:Int},0<=x/\x<w->0<=y/\y<h->0<=gW w h x y:=λhx hy=>by rw[ni hs.1 hx hy];have:=Int.mul_nonneg hy.1 (show 0<=w by omega);omega
 have head:∀(n:Int) (f:Int->Int),0<n->gi (mG n f) 0=f 0:=λn f hn=>by unfold gi mG;rw[List.getD_eq_getElem?_getD,List.getElem?_map,List.getElem?_range (by omega)];rfl
 have mem:∀(n:Int) (f:Int->Int) (k:Int),0<=k/\k<n->f k∈mG n f:=λn f k hk=>by refine List.mem_map.2 ⟨k.toNat,List.mem_range.2 (by omega),?_⟩;rw[Int.toNat_of_nonneg hk.1]
 unfold bN at hn;obtain rfl|rfl|rfl|rfl:s=0\/s=1\/s=2\/s=3:=by omega
 ·rw[hst,if_pos rfl];have q:¬l/aD w h sc>0:=λq=>by have:=Int.mul_le_mul_of_nonneg_right (show 1<=l/aD w h sc by omega) (show 0<=aD w h sc by omega);omega
  have hj:l/aD w h sc=0:=by omega
  have ha:mH (aD w h sc) (bz w h sc) 0=mG (aD w h sc) λx=>0+x:=by unfold mH;rw[if_neg (by decide),if_pos rfl]
  rw[ha];refine⟨λh0 e=>?_,?_,λh0=>?_⟩
  ·obtain⟨a,b,e1⟩:=ok h0;rw[e1]at e;have:=(Gv hs.1 a b).1;rw[e]at this;omega
  ·have:=mem (aD w h sc) (λx=>0+x) l (by rw[hj,Int.zero_mul]at hle;omega);simpa using this
  ·rw[head _ _ (by omega)];have:=first 0 0 (by omega) (by omega)
   rw[Int.zero_mul]at this;rw[this,if_pos rfl];obtain⟨a,b,_⟩:=ok h0;exact pos (by omega) (by omega)
 ·rw[hst,if_neg (by decide),if_neg (by decide),if_neg (by decide),if_pos rfl];have q:¬l%aD w h sc<aD w h sc-1:=λq=>by omega
  have ha:mH (aD w h sc) (bz w h sc) 1=mG (bz w h sc) λy=>aD w h sc-1+y*aD w h sc:=by unfold mH;rw[if_neg (by decide),if_neg (by decide),if_pos rfl]
  rw[ha];refine⟨λh0 e=>?_,?_,λh0=>?_⟩
  ·obtain⟨a,b,e1⟩:=ok h0;rw[e1]at e;have:=(Gv hs.1 a b).2;rw[e]at this;omega
  ·have:=mem (bz w h sc) (λy=>aD w h sc-1+y*aD w h sc) (l/aD w h sc) ⟨j0,j1⟩;rwa[show aD w h sc-1+l/aD w h sc*aD w h sc=l by omega]at this
  ·rw[head _ _ (by omega)];have:=first (aD w h sc-1) 0 (by omega) (by omega)
   rw[Int.zero_mul,Int.zero_add]at this;rw[Int.zero_mul,Int.add_zero,this,if_neg (by decide),if_neg (by decide),if_neg (by decide),if_pos rfl];obtain⟨a,b,_⟩:=ok h0;exact pos (by omega) (by omega)
 ·rw[hst,if_neg (by decide),if_pos rfl];have q:¬l/aD w h sc<bz w h sc-1:=λq=>by omega
  have ha:mH (aD w h sc) (bz w h sc) 2=mG (aD w h sc) λx=>(bz w h sc-1)*aD w h sc+x:=by unfold mH;rw[if_pos rfl]
  rw[ha];have hj:l/aD w h sc=bz w h sc-1:=by omega
  refine⟨λh0 e=>?_,?_,λh0=>?_⟩
  ·obtain⟨a,b,e1⟩:=ok h0;rw[e1]at e;have:=(Gv hs.1 a b).1;rw[e]at this;omega
  ·have:=mem (aD w h sc) (λx=>(bz w h sc-1)*aD w h sc+x) (l%aD w h sc) ⟨i0,i1⟩;rwa[show(bz w h sc-1)*aD w h sc+l%aD w h sc=l by rw[<-hj];omega]at this
  ·rw[head _ _ (by omega)];have:=first 0 (bz w h sc-1) (by omega) (by omega)
   rw[this,if_neg (by decide),if_pos rfl];obtain⟨a,b,_⟩:=ok h0;exact pos (by omega) (by omega)
 ·rw[hst,if_neg (by decide),if_neg (by decide),if_pos rfl];have q:¬l%aD w h sc>0:=λq=>by have:=Int.mul_nonneg j0 (show 0<=aD w h sc by omega);omega
  have ha:mH (aD w h sc) (bz w h sc) 3=mG (bz w h sc) λy=>0+y*aD w h sc:=by unfold mH;rw[if_neg (by decide),if_neg (by decide),if_neg (by decide),if_pos rfl]
  rw[ha];refine⟨λh0 e=>?_,?_,λh0=>?_⟩
  ·obtain⟨a,b,e1⟩:=ok h0;rw[e1]at e;have:=(Gv hs.1 a b).2;rw[e]at this;omega
  ·have:=mem (bz w h sc) (λy=>0+y*aD w h sc) (l/aD w h sc) ⟨j0,j1⟩;rwa[show 0+l/aD w h sc*aD w h sc=l by omega]at this
  ·rw[head _ _ (by omega),Int.zero_mul,Int.add_zero];have:=first 0 0 (by omega) (by omega)
   rw[Int.zero_mul,Int.add_zero]at this;rw[this,if_neg (by decide),if_neg (by decide),if_pos rfl];obtain⟨a,b,_⟩:=ok h0;exact pos (by omega) (by omega)
end
def fJ (m:bJ)(x n c:Int):Prop:=eV m x=true/\eV m n=true/\(∃s:Int,(0<=s/\s<=3)/\aX m.w m.h x s=n)/\c=cA m n
def gh (m:bJ)(t x k:Int):Prop:=x=t/\eV m t=true/\k=0
noncomputable def D (m:bJ)(t x:Int):Int:=gz (gh m t) (fJ m) x
def cT (m:bJ)(x:Int):Int:=aC m.w m.h x
def oe (m:bJ)(x:Int):Prop:=x∈aY m (cT m x)
section
variable {m:bJ}{t x n c d s sc l:Int}
def xD (h:eV m x=true):0<cA m x/\cA m x<255:=by unfold eV at h;simpa using h
def jT (hm:cI m)(h:eV m x=true):bF m.w m.h x:=by
 have:=(xD h).1;unfold cA at this;split at this
 ·rename_i hx;rw[hm.len]at hx;exact⟨⟨hm.w,hm.h⟩,hx⟩
 ·omega
def Gw (h:fJ m x n c):1<=c/\c<=254:=by have:=xD h.2.1;rw[h.2.2.2];omega
def SJ {k:Int}(h:gh m t x k):0<=k/\k<=0:=by rw[h.2.2];omega
def cU:∀x n c,fJ m x n c->0<=c:=λx n c h=>by have:=Gw h;omega
def jU:∀x k,gh m t x k->0<=k:=λx k h=>(SJ h).1
def Xd (h:Wy (gh m t) (fJ m) x d):eV m x=true/\eV m t=true:=by
 induction h with
 |src h=>exact⟨by rw[h.1];exact h.2.1,h.2.1⟩
 |go e _ ih=>exact⟨e.1,ih.2⟩
def jV (m:bJ):List Int:=(List.range m.cs.length).map λi:Nat=>(i:Int)
def zB (hm:cI m)(hx:bF m.w m.h x):x∈jV m:=by have h1:=hx.2;have h2:=hm.len;exact List.mem_map.2 ⟨x.toNat,List.mem_range.2 (by omega),by omega⟩
def ail (hm:cI m)(hw:Wy (gh m t) (fJ m) x d):0<=D m t x/\D m t x<=254*(m.w*m.h-1):=by
 have h1:=aa1 (S:=gh m t) (E:=fJ m) (λx k h=>SJ h) (λx n c h=>Gw h) (jV m) (λx d h=>zB hm (jT hm (Xd h).1)) hw;have h2:((jV m).length:Int)=m.w*m.h:=by rw[<-hm.len];simp[jV]
 refine⟨mO jU cU (og jU cU hw).1,?_⟩;show gz (gh m t) (fJ m) x<=_;omega
def aqg (hm:cI m)(hw:Wy (gh m t) (fJ m) x d):D m t x<1000000000:=by have:=ail hm hw;have:=mY ⟨hm.w,hm.h⟩;omega
def Xe (h:¬∃d,Wy (gh m t) (fJ m) x d):D m t x=bR:=xO λd hd=>h ⟨d,hd⟩
def Au (hm:cI m):D m t x<bR↔∃d,Wy (gh m t) (fJ m) x d:=by
 constructor
 ·intro h;refine Classical.byContradiction λk=>?_;rw[Xe k]at h;grind
 ·rintro ⟨d,hd⟩;have:=aqg hm hd;unfold bR;omega
def arY (hw:Wy (gh m t) (fJ m) x d):Wy (gh m t) (fJ m) x (D m t x)/\∀e,Wy (gh m t) (fJ m) x e->D m t x<=e:=og jU cU hw
def anU (h:eV m t=true):D m t t=0:=K2 (.src ⟨rfl,h,rfl⟩) λe he=>mO jU cU he
def auv (e:fJ m x n c)(hn:Wy (gh m t) (fJ m) n d):D m t x<=D m t n+c:=ap9 jU cU e hn
def Is (m:bJ)(t x s:Int):Prop:=0<=aX m.w m.h x s/\eV m (aX m.w m.h x s)=true/\cA m (aX m.w m.h x s)+D m t (aX m.w m.h x s)=D m t x
open Classical in
noncomputable def jW (m:bJ)(t x:Int):Int:=
 if D m t x=bR then 5 else if x=t then 4 else if Is m t x 0 then 0 else if Is m t x 1 then 1 else if Is m t x 2 then 2 else if Is m t x 3 then 3 else 5
def aqh (hm:cI m)(hD:D m t x<bR)(hx:x≠t):∃s,(0<=s/\s<=3)/\Is m t x s:=by
 obtain⟨d,hw⟩:=(Au hm).1 hD;rcases RE jU cU hw with h1|⟨n,c,h1,h2,d',h3⟩
 ·exact(hx h1.1).elim
 ·obtain⟨ho,hn,⟨s,hs,rfl⟩,rfl⟩:=h1;refine⟨s,hs,(jT hm hn).2.1,hn,?_⟩;show cA m _+gz (gh m t) (fJ m) _=gz (gh m t) (fJ m) x;omega
def Xf (hm:cI m)(hD:D m t x<bR)(hx:x≠t):(0<=jW m t x/\jW m t x<=3)/\Is m t x (jW m t x)/\∀s,0<=s->s<jW m t x->¬Is m t x s:=by obtain⟨s,hs,hd⟩:=aqh hm hD hx;rw[jW,fR,if_neg hx];grind
def I8 {w h:Int}(hs:0<=s/\s<=3)(h0:0<=aX w h x s):∃s',(0<=s'/\s'<=3)/\aX w h (aX w h x s) s'=x:=by
 obtain⟨c1,c2⟩:=xN h0;obtain⟨q1,q2,q3⟩:=Iq c1;have hst:aX w h x s=if s=0 then gW w h (x%w) (x/w-1)else if s=2 then gW w h (x%w) (x/w+1)else if s=3 then gW w h (x%w-1) (x/w)else if s=1 then gW w h (x%w+1) (x/w)else if s=4 then gW w h (x%w) (x/w)else-1:=by unfold aX;grind
 have ok:∀{a b:Int},0<=gW w h a b->(0<=a/\a<w)/\(0<=b/\b<h)/\gW w h a b=b*w+a:=λh0=>by obtain⟨a,b,_⟩:=BT h0;exact⟨a,b,ni c1.1 a b⟩
 rw[hst]at h0⊢;obtain rfl|rfl|rfl|rfl:s=0\/s=1\/s=2\/s=3:=by omega
 ·rw[if_pos rfl]at h0⊢;obtain⟨a,b,e⟩:=ok h0;rw[e];refine⟨2,by decide,?_⟩;rw[EF c1.1 a b,if_neg (by decide),if_pos rfl,ni c1.1 (by omega) (by omega),Int.sub_add_cancel];exact q3.symm
 ·rw[if_neg (by decide),if_neg (by decide),if_neg (by decide),if_pos rfl]at h0⊢;obtain⟨a,b,e⟩:=ok h0;rw[e];refine⟨3,by decide,?_⟩;rw[EF c1.1 a b,if_neg (by decide),if_neg (by decide),if_pos rfl,ni c1.1 (by omega) (by omega)];omega
 ·rw[if_neg (by decide),if_pos rfl]at h0⊢;obtain⟨a,b,e⟩:=ok h0;rw[e];refine⟨0,by decide,?_⟩;rw[EF c1.1 a b,if_pos rfl,ni c1.1 (by omega) (by omega),Int.add_sub_cancel];exact q3.symm
 ·rw[if_neg (by decide),if_neg (by decide),if_pos rfl]at h0⊢;obtain⟨a,b,e⟩:=ok h0;rw[e];refine⟨1,by decide,?_⟩;rw[EF c1.1 a b,if_neg (by decide),if_neg (by decide),if_neg (by decide),if_pos rfl,ni c1.1 (by omega) (by omega)];omega
def anV {tw th:Int}(ht:1<=tw)(hh:1<=th)(v8:0<=s/\s<=3)(h:l∈mH tw th s):¬0<=bN tw th l s:=by
 have mem:∀{n:Int} {f:Int->Int},l∈mG n f->∃k:Int,(0<=k/\k<n)/\l=f k:=λh=>by obtain⟨i,h1,h2⟩:=mem_range h;grind
 unfold mH at h;unfold bN;obtain rfl|rfl|rfl|rfl:s=0\/s=1\/s=2\/s=3:=by omega
 ·grind
 ·rw[if_neg (by decide),if_neg (by decide),if_pos rfl]at h;obtain⟨k,h1,rfl⟩:=mem h;have:=(rK (w:=tw) (x:=tw-1) (y:=k) (by omega)).2;grind
 ·obtain⟨k,h1,rfl⟩:=mem h;have:=(rK (y:=th-1) (by omega)).1;omega
 ·rw[if_neg (by decide),if_neg (by decide),if_neg (by decide),if_pos rfl]at h;obtain⟨k,h1,rfl⟩:=mem h;simp_all
def anW {w h:Int}(hc:bF w h c)(v8:0<=s/\s<=3)(ho:0<=gJ w h c s):c∈vq w h (aC w h c):=by
 have hs:=bV hc;have hl:=j6 hc;have hg:=nV hc;obtain⟨⟨w1,w2⟩,⟨h1,h2⟩,_⟩:=zA hs;have hst:0<=aX w h c s/\aC w h (aX w h c s)≠aC w h c:=by unfold gJ at ho;omega
 have hout:¬0<=bN (aD w h (aC w h c)) (bz w h (aC w h c)) (dX w h c) s:=λk=>by obtain⟨k1,k2⟩:=QW hs hl v8 k;rw[hg]at k2;apply hst.2;rw[k2];exact iU hs k1
 obtain⟨o1,o2,o3⟩:=SI hs hl v8 hout;rw[hg]at o1 o3;have o3:=o3 hst.1;have ok:=aif (sd:=s) ⟨w1,w2⟩ ⟨h1,h2⟩;have h0:=ff (ok.2.1 v8);have hr0:=ok.2.2 _ h0;have Cm:I7 w h (aC w h c) s=true:=by
  rw[I7,decide_eq_true_iff];rw[CH,if_pos ⟨hs,hr0⟩];rw[gJ,fR,if_neg]
  ·exact o3
  ·rw[iU hs hr0];exact(SI hs hr0 v8 (anV w1 h1 v8 h0)).1 o3
 refine List.mem_map.2 ⟨(dX w h c).toNat,List.mem_filter.2 ⟨List.mem_range.2 (by omega),?_⟩,?_⟩
 ·rw[yC,List.any_eq_true];refine⟨s.toNat,List.mem_range.2 (by omega),?_⟩;grind
 grind
def anX {w h:Int}(hs:dW w h sc)(h1:c∈vq w h sc):bF w h c/\aC w h c=sc:=by obtain⟨l,h2,rfl⟩:=List.mem_map.1 h1;have h3:=List.mem_range.1 (List.mem_filter.1 h2).1;exact⟨sQ hs (by omega),iU hs (by omega)⟩
def mI (hs:dW m.w m.h sc)(h1:c∈aY m sc):eV m c=true/\bF m.w m.h c/\aC m.w m.h c=sc:=by obtain⟨h2,h3⟩:=List.mem_filter.1 h1;exact⟨h3,anX hs h2⟩
def V9 (hm:cI m)(ho:eV m c=true)(v8:0<=s/\s<=3)(h:0<=gJ m.w m.h c s):oe m c:=by exact List.mem_filter.2 ⟨anW (jT hm ho) v8 h,ho⟩
def rE (hm:cI m):∀x n c,fJ m x n c->cT m x≠cT m n->oe m x/\oe m n:=by
 rintro x n c ⟨h1,h2,⟨s,hs,rfl⟩,_⟩ hne;have O_:=(jT hm h2).2.1;obtain⟨s',hs',hb⟩:=I8 hs O_;refine⟨V9 hm h1 hs ?_,V9 hm h2 hs' ?_⟩
 ·rw[gJ,fR,if_neg λe=>hne e.symm];exact O_
 ·have hx0:=(jT hm h1).2.1;rw[gJ,hb,fR,if_neg (show¬aC m.w m.h x=aC m.w m.h (aX m.w m.h x s)from hne)];exact hx0
end
section
variable {m:bJ}{t x n c d s sc l:Int}
noncomputable def R (m:bJ)(t x:Int):Int:=gz (K3 (gh m t) (fJ m) (cT m) (oe m) t) (Jn (fJ m) (cT m) (oe m)) x
def alJ (m:bJ)(t s x k:Int):Prop:=cT m x=s/\(gh m t x k\/∃n c,fJ m x n c/\cT m n≠s/\D m t n<bR/\k=D m t n+c)
def Fx:∀x k,gh m t x k->x=t/\k=0:=λx k h=>⟨h.1,h.2.2⟩
def awc (hm:cI m)(hx:oe m x)(h:D m t x<bR):Wy (K3 (gh m t) (fJ m) (cT m) (oe m) t) (Jn (fJ m) (cT m) (oe m)) x (D m t x):=by obtain⟨d,hw⟩:=(Au hm).1 h;have h1:=arY hw;obtain⟨e,h2,h3⟩:=ahN Fx cU (rE hm) hx h1.1;have h4:=h1.2 _ (Nn Fx cU (rE hm) h3);grind
def auy (hm:cI m)(hx:oe m x):R m t x=D m t x:=
 Y_ (λd hd=>mO jU cU hd) (λd hd=>ahN Fx cU (rE hm) hx hd) λd hd=>Nn Fx cU (rE hm) hd
def as3 (hm:cI m)(hx:cT m x=s):gz (alJ m t s) (tO (fJ m) (cT m) s) x=D m t x:=by
 subst hx;have LM:=@Nn Int (gh m t) (fJ m) (cT m) (oe m) t Fx cU (rE hm);have e1:gz (ahL (gh m t) (fJ m) (cT m) (cT m x) (Wy (K3 (gh m t) (fJ m) (cT m) (oe m) t) (Jn (fJ m) (cT m) (oe m)))) (tO (fJ m) (cT m) (cT m x)) x=D m t x:=
  Y_ (λd hd=>mO jU cU hd) (λd hd=>ahM Fx cU (rE hm) hd)
   λd hd=>anC Fx cU (rE hm) (λn d hn=>LM hn) hd
 rw[<-e1];refine asX ?_ (λx n c h=>cU _ _ _ h.1) ?_ ?_
 ·rintro x k ⟨_,h|⟨n,c,d,h1,_,h2,rfl⟩⟩
  ·exact jU _ _ h
  ·have:=cU _ _ _ h1;have:=mO jU cU (LM h2);omega
 ·rintro x k ⟨h0,h|⟨n,c,d,h1,h3,h2,rfl⟩⟩
  ·exact⟨k,Int.le_refl _,h0,.inl h⟩
  ·have h4:=LM h2;have h5:=arY h4;have h6:=h5.2 _ h4;exact⟨D m t n+c,by omega,h0,.inr ⟨n,c,h1,h3,(Au hm).2 ⟨d,h4⟩,rfl⟩⟩
 ·rintro x k ⟨h0,h|⟨n,c,h1,h3,h4,rfl⟩⟩
  ·exact⟨h0,.inl h⟩
  ·exact⟨h0,.inr ⟨n,c,_,h1,h3,awc hm (rE hm _ _ _ h1 (by grind)).2 h4,rfl⟩⟩
def It (cs:List Int)(l:Int):Prop:=0<=l/\l<cs.length/\gi cs l.toNat≠255
def Iu (tw th:Int)(cs:List Int)(x n c:Int):Prop:=It cs x/\It cs n/\(∃s:Int,(0<=s/\s<=3)/\bN tw th x s=n)/\c=gi cs n.toNat
def aqi {α β:Type}{S:α->Int->Prop}{E:α->α->Int->Prop}{S':β->Int->Prop}{E':β->β->Int->Prop}{φ:α->β}{G:α->Prop}
  (h1:∀x k,G x->(S x k↔S' (φ x) k))(h2:∀x n c,G x->E x n c->G n/\E' (φ x) (φ n) c)(h3:∀x y c,G x->E' (φ x) y c->∃n,G n/\y=φ n/\E x n c){x:α}(hx:G x):gz S E x=gz S' E' (φ x):=by
 have a:∀{x d},Wy S E x d->G x->Wy S' E' (φ x) d:=λh=>by
  induction h with
  |src h=>exact λg=>.src ((h1 _ _ g).1 h)
  |go e _ ih=>exact λg=>.go (h2 _ _ _ g e).2 (ih (h2 _ _ _ g e).1)
 have b:∀{y d},Wy S' E' y d->∀x,G x->y=φ x->Wy S E x d:=λh=>by
  induction h with
  |src h=>rintro x g rfl;exact .src ((h1 _ _ g).2 h)
  |go e _ ih=>
   rintro x g rfl;obtain⟨n,h4,h5,h6⟩:=h3 _ _ _ g e;exact .go h6 (ih n h4 h5)
 have e:∀d,Wy S E x d↔Wy S' E' (φ x) d:=λd=>⟨λh=>a h hx,λh=>b h x hx rfl⟩;by_cases h:∃d,Wy S E x d/\∀e,Wy S E x e->d<=e
 ·obtain⟨d,p,q⟩:=h;rw[K2 p q,K2 ((e d).1 p) λe' he'=>q _ ((e e').2 he')]
 ·unfold gz;grind
def dO (m:bJ)(sc:Int):List Int:=(List.range (aD m.w m.h sc*bz m.w m.h sc).toNat).map λl:Nat=>cA m (bX m.w m.h sc l)
def Co:((dO m sc).length:Int)=(aD m.w m.h sc*bz m.w m.h sc).toNat:=by simp[dO]
def LN (hl:0<=l/\l<aD m.w m.h sc*bz m.w m.h sc):gi (dO m sc) l.toNat=cA m (bX m.w m.h sc l):=by unfold gi dO;grind
def LO (hm:cI m)(hc:bF m.w m.h c):1<=cA m c/\cA m c<=255:=by have h1:=hc.2;have h2:=hm.len;unfold cA;have:=hm.jA _ (ff (i:=c.toNat) (by omega));omega
def Cp (hm:cI m)(hc:bF m.w m.h c):eV m c=true↔cA m c≠255:=by have:=LO hm hc;unfold eV;grind
def I9 (hm:cI m)(hs:dW m.w m.h sc)(hl:0<=l/\l<aD m.w m.h sc*bz m.w m.h sc):It (dO m sc) l↔eV m (bX m.w m.h sc l)=true:=by rw[Cp hm (sQ hs hl)];rw[It,LN hl,Co];omega
def aim (hm:cI m)(hs:dW m.w m.h sc){S S':Int->Int->Prop}(hS:∀l k,0<=l/\l<aD m.w m.h sc*bz m.w m.h sc->(S l k↔S' (bX m.w m.h sc l) k))(hl:0<=l/\l<aD m.w m.h sc*bz m.w m.h sc):
  gz S (Iu (aD m.w m.h sc) (bz m.w m.h sc) (dO m sc)) l=gz S' (tO (fJ m) (cT m) sc) (bX m.w m.h sc l):=by
 refine aqi (λx k g=>hS x k g) ?_ ?_ hl
 ·rintro x n c g ⟨h1,h2,⟨s,v8,rfl⟩,rfl⟩;have h3:=QW hs g v8 h2.1;refine⟨h3.1,⟨(I9 hm hs g).1 h1,(I9 hm hs h3.1).1 h2,⟨s,v8,h3.2⟩,?_⟩,iU hs g,iU hs h3.1⟩;exact LN h3.1
 ·rintro x y c g ⟨⟨h1,h2,⟨s,v8,rfl⟩,rfl⟩,h3,h4⟩;have h0:=(jT hm h2).2.1;by_cases hn:0<=bN (aD m.w m.h sc) (bz m.w m.h sc) x s
  ·have h5:=QW hs g v8 hn;refine⟨_,h5.1,h5.2,(I9 hm hs g).2 h1,(I9 hm hs h5.1).2 (by grind),⟨s,v8,rfl⟩,?_⟩;rw[h5.2];exact(LN h5.1).symm
  ·exact((SI hs g v8 hn).1 h0 h4).elim
def anY (hm:cI m)(hs:dW m.w m.h sc)(hl:0<=l/\l<aD m.w m.h sc*bz m.w m.h sc){S:Int->Int->Prop}(hS:∀l k,0<=l/\l<aD m.w m.h sc*bz m.w m.h sc->(S l k↔alJ m t sc (bX m.w m.h sc l) k)):
  gz S (Iu (aD m.w m.h sc) (bz m.w m.h sc) (dO m sc)) l=D m t (bX m.w m.h sc l):=by
 rw[aim hm hs hS hl];exact as3 hm (iU hs hl)
end
section
variable {m:bJ}{t x n c d s sc l k:Int}{xs ys:List bj}
def afc (h:∀x∈xs,x.c=c->x.s=s->x.k=k):∀st:Int×Bool,(st.2=true->st.1=k)->(xs.foldl (SH c s) st).1=if∃x∈xs,x.c=c/\x.s=s then k else st.1:=by
 induction xs with
 |nil=>grind
 |cons a xs ih=>
  intro st hst;rw[List.foldl_cons];have ih:=ih (λx hx=>h x (by simp[hx]));unfold SH at ih⊢;by_cases ha:a.c=c/\a.s=s
  ·have hk:=h a (by simp) ha.1 ha.2;by_cases hb:st.2=false\/a.k<st.1
   ·rw[if_pos ⟨ha.1,ha.2,hb⟩,ih _ λ_=>hk,if_pos (c:=∃x∈a::xs,x.c=c/\x.s=s) ⟨a,by simp,ha⟩];split
    ·rfl
    ·exact hk
   ·rw[if_neg λe=>hb e.2.2,ih _ hst,if_pos (c:=∃x∈a::xs,x.c=c/\x.s=s) ⟨a,by simp,ha⟩];split
    ·rfl
    ·apply hst;rcases h2:st.2 with _|_
     ·exact(hb (.inl h2)).elim
     ·rfl
  ·rw[if_neg λe=>ha ⟨e.1,e.2.1⟩,ih _ hst];have:(∃x∈a::xs,x.c=c/\x.s=s)↔∃x∈xs,x.c=c/\x.s=s:=by
    constructor
    ·rintro ⟨x,hx,h1⟩;rcases List.mem_cons.1 hx with rfl|hx
     ·exact(ha h1).elim
     ·exact⟨x,hx,h1⟩
    ·rintro ⟨x,hx,h1⟩;exact⟨x,by simp[hx],h1⟩
   by_cases q:∃x∈xs,x.c=c/\x.s=s
   ·rw[if_pos q,if_pos (this.2 q)]
   ·rw[if_neg q,if_neg λe=>q (this.1 e)]
def afd (h:∀x∈xs,x.c=c->x.s=s->x.k=k)(he:∃x∈xs,x.c=c/\x.s=s):Ir xs c s=k:=by rw[Ir,afc h (bR,false) (by simp),if_pos he]
def V_ (h:∀x∈xs,¬(x.c=c/\x.s=s)):Ir xs c s=bR:=by rw[Ir,afc (k:=0) (λx hx h1 h2=>(h x hx ⟨h1,h2⟩).elim) (bR,false) (by simp),if_neg λ⟨x,hx,h1⟩=>h x hx h1]
def NA (xs:List bj)(l k:Int):Prop:=∃x∈xs,x.c=l/\x.k=k
def Iv (m:bJ)(at_:Int->Int)(c:Int):List bj:=(vr m c).filterMap λe=>if at_ e.1=bR then none else some ⟨dX m.w m.h c,Ap m.w m.h c e.1,e.2+at_ e.1⟩
def EX (m:bJ)(at_:Int->Int)(t sc:Int):List bj:=(aY m sc).flatMap (Iv m at_)++if aC m.w m.h t=sc/\cA m t≠255 then[⟨dX m.w m.h t,4,0⟩]else[]
def as4 {w h s':Int}(hs:0<=s/\s<=3)(hs':0<=s'/\s'<=4)(h0:0<=aX w h x s)(e:aX w h x s'=aX w h x s):s'=s:=by
 obtain⟨c1,c2⟩:=xN h0;have hst:∀s,aX w h x s=if s=0 then gW w h (x%w) (x/w-1)else if s=2 then gW w h (x%w) (x/w+1)else if s=3 then gW w h (x%w-1) (x/w)else if s=1 then gW w h (x%w+1) (x/w)else if s=4 then gW w h (x%w) (x/w)else-1:=λs=>by unfold aX;grind
 have ok:∀{a b:Int},0<=gW w h a b->(0<=a/\a<w)/\(0<=b/\b<h)/\gW w h a b=b*w+a:=λh0=>by obtain⟨a,b,_⟩:=BT h0;exact⟨a,b,ni c1.1 a b⟩
 grind
def Wa {w h:Int}(hs:0<=s/\s<=3)(h0:0<=aX w h x s):Ap w h x (aX w h x s)=s:=by
 obtain⟨c1,c2⟩:=xN h0;unfold Ap;have k:∀s',0<=s'/\s'<=4->s'≠s->¬aX w h x s'=aX w h x s:=λs' h1 h2 e=>h2 (as4 hs h1 h0 e);obtain rfl|rfl|rfl|rfl:s=0\/s=1\/s=2\/s=3:=by omega
 all_goals grind
def Cq {w h:Int}(h0:0<=gJ w h c s):gJ w h c s=aX w h c s/\aC w h (aX w h c s)≠aC w h c:=by unfold gJ at h0⊢;omega
def Wb {e:Int×Int}:e∈vr m c↔eV m c=true/\∃s:Int,(0<=s/\s<=3)/\0<=gJ m.w m.h c s/\eV m (gJ m.w m.h c s)=true/\e=(gJ m.w m.h c s,cA m (gJ m.w m.h c s)):=by
 unfold vr;by_cases ho:eV m c=true
 ·rw[if_pos ho];rw[Gq,List.mem_filterMap];constructor
  ·rintro ⟨s,h1,h2⟩;have h1:=List.mem_range.1 h1;unfold Fw at h2;grind
  ·rintro ⟨_,s,h1,h2,h3,rfl⟩;refine⟨s.toNat,List.mem_range.2 (by omega),?_⟩;unfold Fw;grind
 grind
def QX (hm:cI m)(hs:dW m.w m.h sc)(ht:bF m.w m.h t){x:bj}:x∈EX m (D m t) t sc↔
  ((0<=x.c/\x.c<aD m.w m.h sc*bz m.w m.h sc)/\(0<=x.s/\x.s<=3)/\eV m (bX m.w m.h sc x.c)=true/\0<=gJ m.w m.h (bX m.w m.h sc x.c) x.s/\eV m (gJ m.w m.h (bX m.w m.h sc x.c) x.s)=true/\
   D m t (gJ m.w m.h (bX m.w m.h sc x.c) x.s)<bR/\x.k=cA m (gJ m.w m.h (bX m.w m.h sc x.c) x.s)+D m t (gJ m.w m.h (bX m.w m.h sc x.c) x.s))\/
  ((0<=x.c/\x.c<aD m.w m.h sc*bz m.w m.h sc)/\bX m.w m.h sc x.c=t/\eV m t=true/\x.s=4/\x.k=0):=by
 have ax2:∀z,D m t z≠bR↔D m t z<bR:=λz=>by
  constructor
  ·intro h;by_cases q:∃d,Wy (gh m t) (fJ m) z d
   ·exact(Au hm).2 q
   ·exact(h (Xe q)).elim
  omega
 rw[EX,List.mem_append,List.mem_flatMap];refine or_congr ⟨?_,?_⟩ ⟨?_,?_⟩
 ·rintro ⟨c,h1,h2⟩;obtain⟨ho,hc,hsc⟩:=mI hs h1;obtain⟨e,h3,h4⟩:=List.mem_filterMap.1 h2;split at h4
  ·cases h4
  rename_i h5;cases h4;obtain⟨_,s,h6,h7,h8,rfl⟩:=Wb.1 h3;have hl:=j6 hc;have hg:=nV hc;obtain⟨h9,h10⟩:=Cq h7;have v8:Ap m.w m.h c (gJ m.w m.h c s)=s:=by rw[h9];exact Wa h6 (by grind)
  grind
 ·rintro ⟨h1,h2,h3,h4,h5,h6,h7⟩;have hsc:=iU hs h1;refine⟨bX m.w m.h sc x.c,?_,?_⟩
  ·have:=V9 hm h3 h2 h4;unfold oe cT at this;grind
  ·refine List.mem_filterMap.2 ⟨_,Wb.2 ⟨h3,x.s,h2,h4,h5,rfl⟩,?_⟩;obtain⟨h9,h10⟩:=Cq h4;rw[if_neg ((ax2 _).2 h6),FY hs h1];have v8:Ap m.w m.h (bX m.w m.h sc x.c) (gJ m.w m.h (bX m.w m.h sc x.c) x.s)=x.s:=by rw[h9];exact Wa h2 (by grind)
   rw[v8,<-h7]
 ·intro h;split at h
  ·rename_i h1;rw[List.mem_singleton]at h;subst h;have hl:=j6 ht;have hg:=nV ht;rw[h1.1]at hl hg;exact⟨hl,hg,(Cp hm ht).2 h1.2,rfl,rfl⟩
  ·simp at h
 ·rintro ⟨h1,h2,h3,h4,h5⟩;have hsc:=iU hs h1;rw[h2]at hsc;rw[if_pos ⟨hsc,(Cp hm ht).1 h3⟩,List.mem_singleton];have h6:=FY hs h1;rw[h2]at h6;rw[h6,<-h4,<-h5]
def aqj (hm:cI m)(hs:dW m.w m.h sc)(ht:bF m.w m.h t)(hxs:∀x,x∈xs↔x∈EX m (D m t) t sc)(hl:0<=l/\l<aD m.w m.h sc*bz m.w m.h sc):NA xs l k↔alJ m t sc (bX m.w m.h sc l) k:=by
 have hsc:=iU hs hl;constructor
 ·rintro ⟨x,h1,rfl,rfl⟩;rcases(QX hm hs ht).1 ((hxs x).1 h1)with⟨_,h2,h3,h4,h5,h6,h7⟩|⟨_,h2,h3,h4,h5⟩
  ·obtain⟨h9,h10⟩:=Cq h4;refine⟨hsc,.inr ⟨_,_,⟨h3,h5,⟨x.s,h2,h9.symm⟩,rfl⟩,?_,h6,by omega⟩⟩;rw[h9];rw[hsc]at h10;exact h10
  ·exact⟨hsc,.inl ⟨h2,h3,h5⟩⟩
 ·rintro ⟨_,⟨h1,h2,h3⟩|⟨n,c,⟨h1,h2,⟨s,h3,rfl⟩,rfl⟩,h4,h5,rfl⟩⟩
  ·exact⟨⟨l,4,k⟩,(hxs _).2 ((QX hm hs ht).2 (.inr ⟨hl,h1,h2,rfl,h3⟩)),rfl,rfl⟩
  ·have h0:=(jT hm h2).2.1;have ho:gJ m.w m.h (bX m.w m.h sc l) s=aX m.w m.h (bX m.w m.h sc l) s:=by rw[gJ,fR,if_neg (by rw[hsc];exact h4)]
   refine⟨⟨l,s,_⟩,(hxs _).2 ((QX hm hs ht).2 (.inl ⟨hl,h3,h1,by grind,by grind,by grind,by rw[ho]⟩)),rfl,?_⟩;grind
noncomputable def LP (tw th:Int)(cs:List Int)(xs:List bj)(l:Int):Int:=gz (NA xs) (Iu tw th cs) l
def Tw (tw th:Int)(cs:List Int)(xs:List bj)(f:Int->Int)(l s:Int):Bool:=
 if bN tw th l s<0 then Ir xs l s==f l else gi cs (bN tw th l s).toNat !=255&&(gi cs (bN tw th l s).toNat+f (bN tw th l s)==f l)
def ZZ (tw th:Int)(cs:List Int)(xs:List bj)(f:Int->Int)(l:Int):Int:=
 if f l=bR then 5 else if Ir xs l 4=f l then 4 else if Tw tw th cs xs f l 0 then 0 else if Tw tw th cs xs f l 1 then 1 else if Tw tw th cs xs f l 2 then 2 else if Tw tw th cs xs f l 3 then 3 else 5
def auz (hm:cI m)(hs:dW m.w m.h sc)(ht:bF m.w m.h t)(hxs:∀x,x∈xs↔x∈EX m (D m t) t sc)(hl:0<=l/\l<aD m.w m.h sc*bz m.w m.h sc):
  LP (aD m.w m.h sc) (bz m.w m.h sc) (dO m sc) xs l=D m t (bX m.w m.h sc l):=
 anY hm hs hl λl k h=>aqj hm hs ht hxs h
def dir_eq (hm:cI m)(hs:dW m.w m.h sc)(ht:bF m.w m.h t)(hxs:∀x,x∈xs↔x∈EX m (D m t) t sc){f:Int->Int}(hf:∀l,0<=l/\l<aD m.w m.h sc*bz m.w m.h sc->f l=D m t (bX m.w m.h sc l))(hl:0<=l/\l<aD m.w m.h sc*bz m.w m.h sc):
  ZZ (aD m.w m.h sc) (bz m.w m.h sc) (dO m sc) xs f l=jW m t (bX m.w m.h sc l):=by
 have hsc:=iU hs hl;have hmem:=λx=>(hxs x).trans (QX hm hs ht);unfold ZZ jW;rw[hf l hl];by_cases hI:D m t (bX m.w m.h sc l)=bR
 ·grind
 rw[if_neg hI,if_neg hI];have hDl:D m t (bX m.w m.h sc l)<bR:=by
  by_cases q:∃d,Wy (gh m t) (fJ m) (bX m.w m.h sc l) d
  ·exact(Au hm).2 q
  ·exact(hI (Xe q)).elim
 have hop:eV m (bX m.w m.h sc l)=true/\eV m t=true:=by obtain⟨d,hd⟩:=(Au hm).1 hDl;exact Xd hd
 by_cases hT:bX m.w m.h sc l=t
 ·rw[if_pos hT,if_pos];rw[hT,anU hop.2];refine afd (λx hx h1 h2=>?_) ⟨⟨l,4,0⟩,(hmem _).2 (.inr ⟨hl,hT,hop.2,rfl,rfl⟩),rfl,rfl⟩;grind
 rw[if_neg hT,if_neg]
 ·have key:∀s,0<=s/\s<=3->(Tw (aD m.w m.h sc) (bz m.w m.h sc) (dO m sc) xs f l s=true↔Is m t (bX m.w m.h sc l) s):=λs v8=>by
   unfold Tw Is;rw[hf l hl];by_cases hn:0<=bN (aD m.w m.h sc) (bz m.w m.h sc) l s
   ·obtain⟨h1,h2⟩:=QW hs hl v8 hn;rw[fR,h2,LN h1,hf _ h1,Cp hm (sQ hs h1),Bool.and_eq_true,bne_iff_ne,beq_iff_eq];exact⟨λh=>⟨(sQ hs h1).2.1,h⟩,λh=>h.2⟩
   ·obtain⟨h1,_⟩:=SI hs hl v8 hn;rw[AI,beq_iff_eq];by_cases h0:0<=aX m.w m.h (bX m.w m.h sc l) s
    ·have ho:gJ m.w m.h (bX m.w m.h sc l) s=aX m.w m.h (bX m.w m.h sc l) s:=by unfold gJ;omega
     by_cases h2:eV m (aX m.w m.h (bX m.w m.h sc l) s)=true/\D m t (aX m.w m.h (bX m.w m.h sc l) s)<bR
     ·rw[afd (k:=cA m (aX m.w m.h (bX m.w m.h sc l) s)+D m t (aX m.w m.h (bX m.w m.h sc l) s)) (λx hx h3 h4=>?_) ⟨⟨l,s,_⟩,(hmem _).2 (.inl ⟨hl,v8,hop.1,by grind,by grind,by grind,by rw[ho]⟩),rfl,rfl⟩]
      all_goals grind
     ·rw[V_ λx hx h3=>?_]
      ·constructor
       ·omega
       ·rintro ⟨_,h3,h4⟩;have h5:=xD h3;exact(h2 ⟨h3,by omega⟩).elim
      grind
    ·rw[V_ λx hx h3=>?_]
     ·constructor
      ·intro h;omega
      ·exact λh=>(h0 h.1).elim
     ·rcases(hmem x).1 hx with⟨_,_,_,h4,_⟩|⟨_,_,_,h5,_⟩
      ·rw[h3.1,h3.2]at h4;have h5:=(Cq h4).1;exact h0 (by rw[<-h5];exact h4)
      ·omega
  grind
 ·rw[V_ λx hx h3=>?_]
  ·exact λh=>hI h.symm
  ·rcases(hmem x).1 hx with⟨_,h4,_⟩|⟨_,h4,_⟩
   ·omega
   ·rw[h3.1]at h4;exact hT h4
def auB (hm:cI m)(hs:dW m.w m.h sc)(ht:bF m.w m.h t){x:bj}(hx:x∈EX m (D m t) t sc):Aq (aD m.w m.h sc) (bz m.w m.h sc) (dO m sc) x=true:=by
 have hlen:((dO m sc).length:Int)=aD m.w m.h sc*bz m.w m.h sc\/aD m.w m.h sc*bz m.w m.h sc<0:=by rw[Co];omega
 obtain⟨⟨w1,w2⟩,⟨h1,h2⟩,_⟩:=zA hs;have out:∀l s,0<=s/\s<=3->¬0<=bN (aD m.w m.h sc) (bz m.w m.h sc) l s->0<=l/\l<aD m.w m.h sc*bz m.w m.h sc->ZX (aD m.w m.h sc) (bz m.w m.h sc) l s=true:=λl s v8 hn hl=>by
  obtain⟨i0,i1⟩:0<=l%aD m.w m.h sc/\l%aD m.w m.h sc<aD m.w m.h sc:=⟨Int.emod_nonneg _ (by omega),Int.emod_lt_of_pos _ (by omega)⟩;obtain⟨j0,j1⟩:0<=l/aD m.w m.h sc/\l/aD m.w m.h sc<bz m.w m.h sc:=⟨Int.ediv_nonneg hl.1 (by omega),Int.ediv_lt_of_lt_mul (by omega) (by grind)⟩;have hle:l=l/aD m.w m.h sc*aD m.w m.h sc+l%aD m.w m.h sc:=by have:=Int.mul_ediv_add_emod l (aD m.w m.h sc);grind
  unfold bN at hn;unfold ZX;obtain rfl|rfl|rfl|rfl:s=0\/s=1\/s=2\/s=3:=by omega
  ·by_cases q:l/aD m.w m.h sc>0
   ·have:=Int.mul_le_mul_of_nonneg_right (show 1<=l/aD m.w m.h sc by omega) (show 0<=aD m.w m.h sc by omega);omega
   grind
  ·grind
  ·grind
  ·by_cases q:l%aD m.w m.h sc>0
   ·have:=Int.mul_nonneg j0 (show 0<=aD m.w m.h sc by omega);omega
   grind
 have fin:(0<=x.c/\x.c<aD m.w m.h sc*bz m.w m.h sc)->eV m (bX m.w m.h sc x.c)=true->(0<=x.k/\x.k<=1073741824)->ZX (aD m.w m.h sc) (bz m.w m.h sc) x.c x.s=true->Aq (aD m.w m.h sc) (bz m.w m.h sc) (dO m sc) x=true:=λhl ho hk hout=>by rw[Aq,LN hl,decide_eq_true (show 0<=x.c/\x.c<((dO m sc).length:Int) by omega),decide_eq_true hk,hout,Bool.true_and,Bool.true_and,Bool.and_true,bne_iff_ne];exact(Cp hm (sQ hs hl)).1 ho
 rcases(QX hm hs ht).1 hx with⟨a1,a2,a3,a4,a5,a6,a7⟩|⟨a1,a2,a3,a4,a5⟩
 ·obtain⟨d,hd⟩:=(Au hm).1 a6;have b1:=aqg hm hd;have b2:=ail hm hd;have b3:=xD a5;refine fin a1 a3 (by omega) (out _ _ a2 (λk=>?_) a1);obtain⟨o1,o2⟩:=QW hs a1 a2 k;obtain⟨q1,q2⟩:=Cq a4;rw[o2,iU hs o1,iU hs a1]at q2;exact q2 rfl
 ·apply fin a1 (by grind) (by omega);unfold ZX;grind
end
def cR (a b:bj):Bool:=decide (aii a b<0)
def adZ {a b:bj}:cR a b=true↔a.k<b.k\/a.k=b.k/\(a.c<b.c\/a.c=b.c/\a.s<b.s):=by unfold cR aii V6;grind
def QY {a b:bj}:cR a b=false↔¬(a.k<b.k\/a.k=b.k/\(a.c<b.c\/a.c=b.c/\a.s<b.s)):=by rw[<-adZ,Bool.not_eq_true]
def Fy:Go.Sort.SWO cR where
 irrefl x:=by rw[QY];omega
 trans x y z h k:=by rw[adZ]at*;omega
 ntrans x y z h k:=by rw[QY]at*;omega
def auC {x y:bj}(h:cR x y=false)(k:cR y x=false):x=y:=by rw[QY]at h k;obtain⟨c,s,q⟩:=x;obtain⟨c',s',q'⟩:=y;grind
def Z0 (xs:List bj):List bj:=xs.mergeSort λx y=>!cR y x
def NB (xs:List bj):List bj:=Z0 xs
def as5 {xs:List bj}{x:bj}:x∈Z0 xs↔x∈xs:=List.mem_mergeSort
def as6 {xs:List bj}:(Z0 xs).length=xs.length:=List.length_mergeSort _
def aqk {xs:List bj}{x:bj}:x∈NB xs↔x∈xs:=as5
def aql {xs:List bj}:(NB xs).length=xs.length:=as6
def alK {xs:List bj}:(Z0 xs).Pairwise λa b=>a.k<=b.k:=by
 have h:=List.pairwise_mergeSort (le:=λx y=>!cR y x) (λa b c h k=>by
  simp[Bool.not_eq_true']at*;exact Fy.ntrans _ _ _ k h) (λa b=>by
  simp[Bool.or_eq_true,Bool.not_eq_true'];by_cases q:cR b a=true
  ·right;rw[adZ]at q;rw[QY];omega
  grind) xs
 refine List.Pairwise.imp ?_ h;intro a b h;simp[Bool.not_eq_true']at h;rw[QY]at h;omega
def aj1 {xs:List bj}:(NB xs).Pairwise λa b=>a.k<=b.k:=alK
def Ea (n:Nat)(out:List Int)(a c:Int):Bool:=c==0||(decide ((n:Int)-out.length<a+1)||(decide (0<out.length)&&gi out (out.length-1)==c))
def pR (n:Nat):List Int->List Int->Nat->Option (List Int×Nat)
 |a::c::r,out,used=>if n<=out.length then some (out,used)else if Ea n out a c then none else pR n r (out++List.replicate (a+1).toNat c) (used+2)
 |_,out,used=>if n<=out.length then some (out,used)else none
def Iw (n:Nat):List Int->Option (List Int×Nat)
 |[]=>none
 |f::r=>if f=0 then(if r=[]\/gi r 0=0 then none else some (List.replicate n (gi r 0),2))
  else if f=1 then(if r.length<n\/0∈r.take n then none else some (r.take n,1+n))
  else if f=2 then pR n r [] 1
  else none
def Fz (n:Nat)(f:Int)(r:List Int):Iw n (f::r)=if f=0 then(if r=[]\/gi r 0=0 then none else some (List.replicate n (gi r 0),2))
 else if f=1 then(if r.length<n\/0∈r.take n then none else some (r.take n,1+n))
 else if f=2 then pR n r [] 1
 else none:=rfl
def EY (bs:List Int)(n:Nat):Option (List Int×Nat):=match Iw n bs with
 |some (cs,used)=>if(tN cs).2=bs.take used then some (cs,used)else none
 |none=>none
def NC (x:Int):∀l:List Int,l.take (lead x l)=List.replicate (lead x l) x
 |[]=>rfl
 |y::ys=>by
  unfold lead;split
  ·rename_i h;subst h;rw[List.take_succ_cons,List.replicate_succ,NC]
  ·rfl
def afe (x:Int):∀l:List Int,∀y ys,l.drop (lead x l)=y::ys->y≠x
 |[],y,ys,h=>by grind
 |z::zs,y,ys,h=>by
  unfold lead at h;split at h
  ·exact afe x zs y ys h
  grind
def ND {n:Nat}{out:List Int}{used:Nat}(h:n<=out.length):∀bs,pR n bs out used=some (out,used)
 |[]=>by simp[pR,h]
 |[a]=>by simp[pR,h]
 |a::c::r=>by rw[pR,if_pos h]
def aff (n:Nat):∀(f:Nat) (cs out rest:List Int) (used:Nat),cs.length<=f->cs.length<=256->(∀x∈cs,1<=x/\x<256)->n=out.length+cs.length->(0<out.length->∀y ys,cs=y::ys->gi out (out.length-1)≠y)->
  pR n (lD f cs++rest) out used=some (out++cs,used+(lD f cs).length)
 |0,cs,out,rest,used,hf,aqm,hr,hn,hl=>by have:cs=[]:=List.eq_nil_of_length_eq_zero (by omega);subst this;rw[ND (by omega)];simp[lD]
 |f+1,[],out,rest,used,hf,aqm,hr,hn,hl=>by rw[ND (by grind)];simp[lD]
 |f+1,x::ys,out,rest,used,hf,aqm,hr,hn,hl=>by
  have hk:=Pe x ys;simp[List.length_cons]at hf aqm hn;have hx:=hr x (by simp);have e:((lead x ys:Nat):Int)%256=lead x ys:=Int.emod_eq_of_lt (by omega) (by omega);have ey:List.replicate (lead x ys+1) x++ys.drop (lead x ys)=x::ys:=by rw[List.replicate_succ,<-NC,List.cons_append,List.take_append_drop]
  show pR n (((lead x ys:Nat):Int)%256::x::(lD f (ys.drop (lead x ys))++rest)) out used=_;rw[e,pR,fR,if_neg]
  ·have:=aff n f (ys.drop (lead x ys)) (out++List.replicate (lead x ys+1) x) rest (used+2) (by grind) (by grind) (λz hz=>hr z (by grind)) (by grind) (λ_ y zs hy=>by have h1:=afe x ys y zs hy;intro h2;apply h1;rw[<-h2];unfold gi;grind)
   rw[show((lead x ys:Nat)+1:Int).toNat=lead x ys+1 by omega,this,List.append_assoc,ey];congr 2;show _=used+(((lead x ys:Nat):Int)%256::x::lD f (ys.drop (lead x ys))).length;grind
  ·unfold Ea;grind
def aqn {cs rest:List Int}(hr:∀x∈cs,1<=x/\x<256)(h1:1<=cs.length/\cs.length<=256):Iw cs.length ((tN cs).2++rest)=some (cs,(tN cs).2.length):=by
 have hb:=aff cs.length cs.length cs [] rest 1 (Nat.le_refl _) h1.2 hr (by simp) (by simp);rw[List.nil_append]at hb;unfold tN;split
 ·rename_i h3;obtain⟨x,ys,rfl⟩:∃x ys,cs=x::ys:=by
   cases cs with
   |nil=>simp at h1
   |cons x ys=>grind
  have h4:(lD (x::ys).length (x::ys)).length=2:=by unfold tM at h3;grind
  have h5:lD ys.length (ys.drop (lead x ys))=[]:=by apply List.eq_nil_of_length_eq_zero;have:(lD (x::ys).length (x::ys)).length=(lD ys.length (ys.drop (lead x ys))).length+2:=rfl;omega
  have h6:ys.drop (lead x ys)=[]:=by
   cases hd:ys.drop (lead x ys)with
   |nil=>rfl
   |cons z zs=>
    rw[hd]at h5;have h7:0<ys.length:=by grind
    obtain⟨k,hk⟩:∃k,ys.length=k+1:=⟨ys.length-1,by omega⟩;rw[hk]at h5;cases h5
  have h7:lead x ys=ys.length:=by
   have:=Pe x ys;have h8:(ys.drop (lead x ys)).length=0:=by rw[h6];rfl
   grind
  have h8:ys=List.replicate ys.length x:=by have:=NC x ys;grind
  have hx:=hr x (by simp);show Iw _ (0::x::rest)=some (x::ys,2);rw[Fz,if_pos rfl,if_neg]
  ·show some (List.replicate (ys.length+1) x,2)=some (x::ys,2);grind
  ·rintro (h|h)
   ·cases h
   ·have:x=0:=h;omega
 ·split
  ·show Iw _ (2::(lD cs.length cs++rest))=some (cs,(2::lD cs.length cs).length);rw[Fz,if_neg (by decide),if_neg (by decide),if_pos rfl,hb,List.length_cons,Nat.add_comm]
  ·show Iw _ (1::(cs++rest))=some (cs,(1::cs).length);rw[Fz,if_neg (by decide),if_pos rfl,if_neg,List.take_left,List.length_cons,Nat.add_comm];grind
def as7 {cs rest:List Int}(hr:∀x∈cs,1<=x/\x<256)(h1:1<=cs.length/\cs.length<=256):EY ((tN cs).2++rest) cs.length=some (cs,(tN cs).2.length):=by rw[EY,aqn hr h1];grind
def SK (n:Nat):∀(bs out:List Int) (used:Nat) (cs:List Int) (u:Nat),(∀x∈bs,0<=x/\x<256)->(∀x∈out,1<=x/\x<256)->out.length<=n->pR n bs out used=some (cs,u)->cs.length=n/\(∀x∈cs,1<=x/\x<256)/\u<=used+bs.length
 |[],out,used,cs,u,hb,ho,hn,h=>by unfold pR at h;grind
 |[a],out,used,cs,u,hb,ho,hn,h=>by unfold pR at h;grind
 |a::c::r,out,used,cs,u,hb,ho,hn,h=>by
  unfold pR at h;split at h
  ·grind
  ·split at h
   ·cases h
   ·rename_i h1 h2;unfold Ea at h2;have:=SK n r _ (used+2) cs u (λx hx=>hb x (by simp[hx])) (λx hx=>by grind) (by grind) h
    grind
def anZ {bs cs:List Int}{n used:Nat}(hn:1<=n)(hb:∀x∈bs,0<=x/\x<256)(h:EY bs n=some (cs,used)):cs.length=n/\(∀x∈cs,1<=x/\x<256)/\used<=bs.length:=by
 unfold EY at h;split at h
 ·rename_i cs' used' hB;split at h
  ·cases h;cases bs with
   |nil=>cases hB
   |cons f r=>
    rw[Fz]at hB;split at hB
    ·split at hB
     ·cases hB
     ·rename_i h1;cases hB;obtain⟨x,r',rfl⟩:∃x r',r=x::r':=by
       cases r with
       |nil=>grind
       |cons x r'=>grind
      have hx:=hb x (by simp);refine⟨by simp,λy hy=>?_,by simp⟩;rw[List.mem_replicate]at hy;have h3:y=x:=hy.2;omega
    ·split at hB
     ·grind
     ·split at hB
      ·have:=SK n r [] 1 cs used (λx hx=>hb x (by simp[hx])) (by simp) (by simp) hB;grind
      ·cases hB
  ·cases h
 ·cases h
def EZ (w h sc:Int)(M ts:List Int)(y:Int):List Int:=(List.range M.length).map λc:Nat=>if aC w h c=sc/\dX w h c/aD w h sc<y then gi ts (dX w h c).toNat else gi M c
def ain (w h sc:Int)(M ts:List Int):List Int:=EZ w h sc M ts (bz w h sc)
def q8 (w h:Int):Nat->Int->List Int->List Int->Option (List Int×List Int)
 |0,_,bs,M=>some (bs,M)
 |k+1,i,bs,M=>match EY bs (aD w h i*bz w h i).toNat with
  |none=>none
  |some (ts,used)=>q8 w h k (i+1) (bs.drop used) (ain w h i M ts)
def Bu (bs:List Int):Int:=gi bs 0+256*gi bs 1
def Bv (bs:List Int):Int:=gi bs 2+256*gi bs 3
def kW (bs:List Int):Option bJ:=
 if bs.length<4 then none else if iO (Bu bs) (Bv bs)then
  match q8 (Bu bs) (Bv bs) (eI (Bu bs) (Bv bs)).toNat 0 (bs.drop 4) (List.replicate (Bu bs*Bv bs).toNat 0)with
  |some (bs',M)=>if bs'=[]then some ⟨Bu bs,Bv bs,M⟩else none
  |none=>none
 else none
section
variable {w h sc y:Int}{M ts:List Int}{c:Nat}
def LQ:(EZ w h sc M ts y).length=M.length:=by simp[EZ]
def SL:(ain w h sc M ts).length=M.length:=LQ
def Xg (hc:c<M.length):gi (EZ w h sc M ts y) c=if aC w h c=sc/\dX w h c/aD w h sc<y then gi ts (dX w h c).toNat else gi M c:=by unfold gi EZ;rw[List.getD_eq_getElem?_getD,List.getElem?_map,List.getElem?_range hc];rfl
def akG (hc:c<M.length)(hC:bF w h c):gi (ain w h sc M ts) c=if aC w h c=sc then gi ts (dX w h c).toNat else gi M c:=by
 rw[ain,Xg hc];by_cases e:aC w h c=sc
 ·rw[if_pos e,if_pos];refine⟨e,?_⟩;have hl:=j6 hC;have hs:=bV hC;rw[e]at hl hs;obtain⟨⟨w1,w2⟩,⟨h1,h2⟩,_⟩:=zA hs;exact Int.ediv_lt_of_lt_mul (by omega) (by grind)
 grind
def aio {a:Int}(h:1<=a/\a<=1024):a%256+256*(a/256%256)=a:=by omega
def aqo {m:bJ}(hm:cI m){s:Int}(hs:dW m.w m.h s):(qk m s).length=(aD m.w m.h s*bz m.w m.h s).toNat:=by unfold qk;grind
def aqp {m:bJ}{l:Int}(hl:0<=l/\l<aD m.w m.h sc*bz m.w m.h sc):gi (qk m sc) l.toNat=gi m.cs (bX m.w m.h sc l).toNat:=by show(qk m sc).getD l.toNat 0=_;unfold qk;grind
def aip {m:bJ}(hm:cI m)(hs:dW m.w m.h sc):qk m sc=dO m sc:=by refine List.map_congr_left λl hl=>?_;have hl:=List.mem_range.1 hl;have hg:=sQ hs (l:=l) (by omega);have:=hm.len;have:=hg.2;unfold cA;omega
def afg {m:bJ}(hm:cI m):∀(k:Nat) (i:Nat) (M:List Int),(i:Int)+k=eI m.w m.h->M.length=m.cs.length->(∀c:Nat,c<m.cs.length->aC m.w m.h c<i->gi M c=gi m.cs c)->
  q8 m.w m.h k i ((List.range' i k).flatMap λs:Nat=>(tN (qk m s)).2) M=some ([],m.cs)
 |0,i,M,hk,hl,hM=>by show some ([],M)=some ([],m.cs);congr 2;refine U5 hl λc hc=>hM c (by omega) ?_;have hC:bF m.w m.h c:=⟨⟨hm.w,hm.h⟩,by omega,by rw[<-hm.len];omega⟩;have:=(bV hC).2.2;omega
 |k+1,i,M,hk,hl,hM=>by
  have hs:dW m.w m.h i:=⟨⟨hm.w,hm.h⟩,by omega,by omega⟩;have hlen:=U_ hm hs.2;have e:=aqo hm hs;rw[List.range'_succ,List.flatMap_cons,q8,<-e,as7 (U9 hm hs.2) hlen.2];simp only;rw[List.drop_left,show((i:Int)+1)=((i+1:Nat):Int) by omega];refine afg hm k (i+1) _ (by omega) (by rw[SL,hl]) λc hc hsc=>?_;have hC:bF m.w m.h c:=⟨⟨hm.w,hm.h⟩,by omega,by rw[<-hm.len];omega⟩;rw[akG (by omega) hC];by_cases q:aC m.w m.h c=i
  ·rw[if_pos q];have hl2:=j6 hC;have hg:=nV hC;rw[q]at hl2 hg;rw[aqp hl2,hg];rfl
  grind
def abL {m:bJ}(hm:cI m):kW (yL m)=some m:=by
 have e1:Bu (yL m)=m.w:=aio hm.w;have e2:Bv (yL m)=m.h:=aio hm.h;rw[kW,e1,e2,if_neg (by unfold yL;simp),if_pos ⟨hm.w,hm.h⟩];have:=afg hm (eI m.w m.h).toNat 0 (List.replicate (m.w*m.h).toNat 0) (by have:=(gM hm.w hm.h).1;omega) (by have:=hm.len;simp;omega) (λc hc h=>by have hC:bF m.w m.h c:=⟨⟨hm.w,hm.h⟩,by omega,by rw[<-hm.len];omega⟩;have:=(bV hC).2.1;omega)
 rw[<-List.range_eq_range']at this;have e3:(yL m).drop 4=(List.range (eI m.w m.h).toNat).flatMap λs:Nat=>(tN (qk m s)).2:=by rfl
 simp_all
def aiq (hm:iO w h):∀(k:Nat) (i:Nat) (bs M bs' M':List Int),(i:Int)+k=eI w h->(M.length:Int)=w*h->(∀x∈bs,0<=x/\x<256)->(∀c:Nat,c<M.length->aC w h c<i->1<=gi M c/\gi M c<256)->
  q8 w h k i bs M=some (bs',M')->(M'.length:Int)=w*h/\∀x∈M',1<=x/\x<256
 |0,i,bs,M,bs',M',hk,hl,hb,hM,h=>by cases h;refine⟨hl,λx hx=>?_⟩;obtain⟨c,hc⟩:=List.mem_iff_getElem?.1 hx;have yg:=(List.getElem?_eq_some_iff.1 hc).1;have hC:bF w h c:=⟨hm,by omega,by omega⟩;have:=hM c yg (by have:=(bV hC).2.2;omega);rw[iz yg]at hc;grind
 |k+1,i,bs,M,bs',M',hk,hl,hb,hM,hg=>by
  have hs:dW w h i:=⟨hm,by omega,by omega⟩;obtain⟨⟨w1,w2⟩,⟨h1,h2⟩,_⟩:=zA hs;have h11:1<=aD w h i*bz w h i:=by have:=Int.mul_le_mul w1 h1 (by decide) (by omega);omega
  rw[q8]at hg;split at hg
  ·cases hg
  ·rename_i ts used hT;obtain⟨t1,t2,t3⟩:=anZ (by omega) hb hT;refine aiq hm k (i+1) _ _ bs' M' (by omega) (by rw[SL];exact hl) (λx hx=>hb x (List.mem_of_mem_drop hx)) (λc hc hsc=>?_) hg;rw[SL]at hc;have hC:bF w h c:=⟨hm,by omega,by omega⟩;rw[akG hc hC];by_cases q:aC w h c=i
   ·rw[if_pos q];have hl2:=j6 hC;rw[q]at hl2;exact t2 _ (ff (by omega))
   grind
def afh {bs:List Int}{m:bJ}(hb:∀x∈bs,0<=x/\x<256)(h:kW bs=some m):cI m:=by
 unfold kW at h;split at h
 ·cases h
 ·split at h
  ·rename_i hm;split at h
   ·rename_i bs' M hT;split at h
    ·cases h;have hwh:=mY hm;obtain⟨a,b⟩:=aiq hm _ 0 _ _ _ _ (by have:=(gM hm.1 hm.2).1;omega) (by grind) (λx hx=>hb x (List.mem_of_mem_drop hx)) (λc hc hsc=>by rw[List.length_replicate]at hc;have hC:bF (Bu bs) (Bv bs) c:=⟨hm,by omega,by omega⟩;have:=(bV hC).2.1;omega) hT
     exact⟨hm.1,hm.2,a,b⟩
    ·cases h
   ·cases h
  ·cases h
end
end Go.Proofs.YtmegplnmiepfbaaGreatDoor.S
namespace Go.Proofs.YtmegplnmiepfbaaGreatDoor.S.Rg
abbrev E:=Int×Int
def YC (j:Nat)(e:E):Bool:=decide (e.1%256=(j:Int))
def tK (l:List E)(j:Nat):List Int:=(l.filter (YC j)).map (·.2)
def Fit (a:Int)(l:List E):Prop:=∀e∈l,a<=e.1/\e.1<a+256
def an0 (l:List E)(e:E)(j:Nat):tK (l++[e]) j=if e.1%256=(j:Int)then tK l j++[e.2]else tK l j:=by
 unfold tK;by_cases h:e.1%256=(j:Int)
 ·simp[YC,h]
 ·simp[YC,h]
def aqq {a:Int}{l:List E}{e:E}(h:Fit a l)(h1:a<=e.1)(h2:e.1<a+256):Fit a (l++[e]):=by
 intro x hx;rcases List.mem_append.1 hx with hx|hx
 ·exact h x hx
 grind
def afi {k:Int}:∀{l:List E},(∃e∈l,e.1=k)->∃l1 x l2,l=l1++(k,x)::l2/\∀e∈l1,e.1≠k
 |[],h=>by grind
 |y::l,h=>by
  by_cases hy:y.1=k
  ·exact⟨[],y.2,l,by subst hy;rfl,by simp⟩
  ·obtain⟨l1,x,l2,h1,h2⟩:=afi (k:=k) (l:=l) (by grind)
   grind
def Xh {a k:Int}{l:List E}{j:Nat}(h:Fit a l)(hk:a<=k/\k<a+256)(hj:k%256=(j:Int)){e:E}(he:e∈l):YC j e=true↔e.1=k:=by have:=h e he;unfold YC;grind
def an1 {a k:Int}{l:List E}{j:Nat}(h:Fit a l)(hk:a<=k/\k<a+256)(hj:k%256=(j:Int))(SE:∀e∈l,k<=e.1)(hne:tK l j≠[]):
  ∃l1 x l2,l=l1++(k,x)::l2/\(∀e∈l1,k<e.1)/\(∀e∈l2,k<=e.1)/\tK l j=x::tK (l1++l2) j/\(∀j',j'≠j->tK (l1++l2) j'=tK l j')/\Fit k (l1++l2):=by
 have hex:∃e∈l,e.1=k:=by
  unfold tK at hne;cases hf:l.filter (YC j)with
  |nil=>grind
  |cons e r=>
   have:e∈l.filter (YC j):=by rw[hf];simp
   obtain⟨h1,h2⟩:=List.mem_filter.1 this;exact⟨e,h1,(Xh h hk hj h1).1 h2⟩
 obtain⟨l1,x,l2,rfl,hl1⟩:=afi hex;refine⟨l1,x,l2,rfl,λe he=>?_,λe he=>SE e (by simp[he]),?_,λj' hj'=>?_,λe he=>?_⟩
 ·grind
 ·unfold tK;have h1:l1.filter (YC j)=[]:=by rw[List.filter_eq_nil_iff];intro e he hb;exact hl1 e he ((Xh h hk hj (by simp[he])).1 hb)
  rw[List.filter_append,List.filter_append,h1,List.filter_cons_of_pos (by unfold YC;grind)];rfl
 ·unfold tK;rw[List.filter_append,List.filter_append,List.filter_cons_of_neg (by unfold YC;grind)]
 ·have h1:e∈l1++(k,x)::l2:=by grind
  have:=h e h1;grind
def aj2 {a:Int}{l:List E}(h:Fit a l)(hne:l≠[]):∃d:Nat,d<256/\(∀e∈l,a+d<=e.1)/\∃e∈l,e.1=a+d:=by
 have key:∀n:Nat,(∃e∈l,e.1<a+n)->∃d:Nat,d<n/\(∀e∈l,a+d<=e.1)/\∃e∈l,e.1=a+d:=by
  intro n;induction n with
  |zero=>
   rintro ⟨e,he,hlt⟩;have:=h e he;omega
  |succ n ih=>
   rintro ⟨e,he,hlt⟩;by_cases hn:∃e∈l,e.1<a+n
   all_goals grind
 obtain⟨e,he⟩:=List.exists_mem_of_ne_nil l hne;exact key 256 ⟨e,he,(h e he).2⟩
def abM {a k:Int}{l:List E}{j:Nat}(h:Fit a l)(hk:a<=k/\k<a+256)(hj:k%256=(j:Int)):tK l j=[]↔∀e∈l,e.1≠k:=by
 rw[tK,List.map_eq_nil_iff,List.filter_eq_nil_iff];constructor
 ·intro h1 e he hk';exact h1 e he ((Xh h hk hj he).2 hk')
 ·intro h1 e he hb;exact h1 e he ((Xh h hk hj he).1 hb)
end Go.Proofs.YtmegplnmiepfbaaGreatDoor.S.Rg
namespace Go.Proofs.YtmegplnmiepfbaaGreatDoor.S.Rg
open Go.Sx
def ee:wR P T:=EB P rows HB
def b_ {n lo hi:Int}{w:World}{Q:Int->World->Prop}(h1:lo<=hi)(h2:-1099511627776<=lo)(h3:hi<=1099511627776)(h:Q (lo+n%(hi-lo+1)) w):aV n lo hi w Q:=by
 apply um;rw[aG (n:=hi-lo),aG];generalize hs:hi-lo+1=s at h;have h4:=Int.lt_tmod_of_pos n (b:=s) (by omega);have h5:=Int.tmod_lt_of_pos n (b:=s) (by omega);have h6:=Int.tmod_add_mul_tdiv n s;refine⟨by omega,?_⟩;generalize ht:Int.tmod n s=t at*;have e:n%s=t%s:=by rw[<-h6,Int.add_mul_emod_self_left]
 by_cases hn:t<0
 ·rw[bM hn,aG (n:=t+hi),aG (n:=t+hi-lo),aG (n:=t+hi-lo+1),aG];have e2:t%s=t+s:=by rw[<-Int.add_emod_right,Int.emod_eq_of_lt (by omega) (by omega)]
  grind
 ·rw[bq hn,aG];rw[e,Int.emod_eq_of_lt (by omega) h5]at h;exact h
structure Bk where
 a:Option Addr
 c:Nat
 xs:List Int
 gone:Nat
def ints (l:List Int):List Value:=l.map (.int .i64)
def Wc (b:Bk):List Value:=[.slice b.a b.xs.length b.c,ae b.gone]
def Xi (b:Bk):(Wc b).length=2:=rfl
def Bf (b:Bk):As:=ak b.a b.xs.length b.c 3 1 (ints b.xs)
def tE (a len:Int)(bs:List Bk):List Value:=ae a::ae len::flat Wc bs
def SM (p:Nat)(a len:Int)(bs:List Bk):List As:=av p 388 (tE a len bs)::bs.map Bf
structure Rel (a:Int) (l:List E) (bs:List Bk) (N:Nat):Prop where
 n:bs.length=256
 fit:Fit a l
 nn:0<=a
 big:a+256*(l.length:Int)<=1099511627776+256*(N:Int)
 nS:l.length<=N
 room:N<1000000
 bk:∀(j:Nat) b,bs[j]? =some b->b.xs.drop b.gone=tK l j/\b.gone<=b.xs.length/\b.xs.length<=N
def Bw (p:Nat)(a:Int)(l:List E)(bs:List Bk)(N:Nat):As:=aW (Rel a l bs N) (SM p a l.length bs)
attribute [local irreducible] af cE bw bg aA cu bY St Bx Al App cJ cB cz bW aL bD aq bT av ak
section
variable {F:Nat->Prop}{W w:World}{L:List As}{i j p o n c:Nat}{t:TypeId}{cs:List Value}{a:Option Addr}{xs:List Int}
def Z1 {x:Int}{Q:World->Prop}(s:Sep F W w L)(hi:L[i]? =some (av p t cs))(ho:cs[o]? =some (.slice a n c))(hj:L[j]? =some (ak a n c 3 1 (ints xs)))(hij:i≠j)(hn:n<1000000)
  (h:∀w' a' c',Sep F W w' ((L.set j (ak a' (n+1) c' 3 1 (ints (xs++[x])))).set i (av p t (cs.set o (.slice a' (n+1) c'))))->Q w'):y_ (some ⟨p,o,none⟩) x w Q:=by
 apply Qj;apply ah;apply gT s rfl hi ho;refine aO s λbx w1 s=>?_;have src:Src w1 (sZ bx) 1 1 [ae x]:=⟨rfl,λu hu=>by rw[List.mem_singleton.1 hu];rfl,λj u hj=>by rw[cq,Nat.zero_add];exact cM s (i:=0) rfl rfl hj⟩;refine ig ee s (bytes:=8) rfl rfl rfl rfl rfl rfl (by decide) (by rw[List.getElem?_cons_succ];exact hj) src (by simp[maxLen];omega) (by omega) (λe=>by cases e) λa' c' w2 s=>?_;have s:=ai s;have e1:ints xs++[ae x]=ints (xs++[x]):=by simp[ints]
 apply ah;have ho':=(List.getElem?_eq_some_iff.1 ho).1;refine ax s rfl (by rw[List.getElem?_set_ne (Ne.symm hij)];exact hi) (by simp_all) λw3 s=>?_;grind
def Cr {g:Int}{Q:Bool->World->Prop}(s:Sep F W w L)(hi:L[i]? =some (av p t cs))(ho:cs[o]? =some (.slice a n c))(ho':cs[o+1]? =some (ae g))(h:Q (g==(n:Int)) w.drew):qx (some ⟨p,o,none⟩) w Q:=by apply ML;have s':Sep F W w.drew L:=s;apply ah;refine dw s' (by rw[cq]) hi ho' (ah ?_);exact gT s' rfl hi ho h
def Z2 {g:Nat}{x:Int}{Q:Int->World->Prop}(s:Sep F W w L)(hi:L[i]? =some (av p t cs))(ho:cs[o]? =some (.slice a n c))(ho':cs[o+1]? =some (ae g))(hj:L[j]? =some (ak a n c 3 1 (ints xs)))(hij:i≠j)(hn:n<1000000)(hx:xs[g]? =some x)
  (h1:g+1<n->∀w',Sep F W w' (L.set i (av p t (cs.set (o+1) (ae ((g+1:Nat):Int)))))->Q x w')
  (h2:g+1=n->∀w',Sep F W w' ((L.set i (av p t ((cs.set o (.slice a 0 c)).set (o+1) (ae ((0:Nat):Int))))).set j (ak a 0 c 3 1 []))->Q x w'):y8 (some ⟨p,o,none⟩) w Q:=by
 apply Qk;have hiL:=(List.getElem?_eq_some_iff.1 hi).1;have hol:=(List.getElem?_eq_some_iff.1 ho).1;have ax3:=(List.getElem?_eq_some_iff.1 ho').1;have hxl:=(List.getElem?_eq_some_iff.1 hx).1;have hl:xs.length=n:=by have:=ri s hj;simpa[ints]using this
 obtain⟨b,ob,rfl⟩:=pY s hj (by omega);have s0:Sep F W w.drew L:=s;apply ah;refine gT s0 rfl hi ho (ah ?_);apply dw s0 (by rw[cq]) hi ho';refine⟨by omega,by omega,ah ?_⟩;rw[show((g:Int)).toNat*1=g by omega];refine U2 s0 hj (by rw[cq]) (by rw[ints,List.getElem?_map,hx];rfl) (ah ?_);refine dw s0 (by rw[cq]) hi ho' (ah ?_);rw[aG,show((g:Int)+1)=((g+1:Nat):Int) by omega];refine ax s0 (by rw[cq]) hi (by simp_all) λw1 s1=>?_;apply Cr (a:=some ⟨b,ob,none⟩) (n:=n) (c:=c) s1 (List.getElem?_set_self hiL) (by grind) (List.getElem?_set_self ax3);have s2:Sep F W w1.drew _:=s1;by_cases he:g+1=n
 ·rw[he,beq_self_eq_true,cond_true];apply ah;apply gT s2 rfl (List.getElem?_set_self hiL) (by rw[List.getElem?_set_ne (by omega)];exact ho);refine Pc (m:=0) rfl (by omega) (ah ?_);refine ax s2 rfl (List.getElem?_set_self hiL) (by simp_all) λw3 s3=>?_;rw[gY]at s3;apply ah;refine ax s3 (by rw[cq]) (List.getElem?_set_self hiL) (by simp_all) λw4 s4=>?_;rw[gY]at s4;have s5:=To s4 (by rw[List.getElem?_set_ne hij];exact hj) (Nat.zero_le _);apply h2 he w4;have ec:((cs.set (o+1) (ae ((n:Nat):Int))).set o (.slice (some ⟨b,ob,none⟩) 0 c)).set (o+1) (ae 0)=(cs.set o (.slice (some ⟨b,ob,none⟩) 0 c)).set (o+1) (ae ((0:Nat):Int)):=by have e3:(cs.set (o+1) (ae ((n:Nat):Int))).set o (.slice (some ⟨b,ob,none⟩) 0 c)=(cs.set o (.slice (some ⟨b,ob,none⟩) 0 c)).set (o+1) (ae ((n:Nat):Int)):=List.set_comm _ _ (by omega);simp_all
  grind
 grind
end
end Go.Proofs.YtmegplnmiepfbaaGreatDoor.S.Rg
namespace Go.Proofs.YtmegplnmiepfbaaGreatDoor.S.Rg
open Go.Sx
def FA {p:Addr}{A B:Prop}(h:B):cond (some p).isNone A B:=h
def LR {bs:List Bk}{j:Nat}{b:Bk}(h:bs[j]? =some b):(bs.map Bf)[j]? =some (Bf b):=by grind
def NF {a len:Int}{bs:List Bk}{j:Nat}{b:Bk}(h:bs[j]? =some b):(tE a len bs)[j*2+2]? =some (.slice b.a b.xs.length b.c):=by show(flat Wc bs)[j*2+0]? =_;rw[sO Xi h (by decide)];rfl
def OV {a len:Int}{bs:List Bk}{j:Nat}{b:Bk}(h:bs[j]? =some b):(tE a len bs)[j*2+2+1]? =some (ae b.gone):=by show(flat Wc bs)[j*2+1]? =_;rw[sO Xi h (by decide)];rfl
def Tx {a len:Int}{bs:List Bk}{j:Nat}{b b':Bk}{v:Value}(h:bs[j]? =some b)(hv:Wc b'=(Wc b).set 0 v):(tE a len bs).set (j*2+2) v=tE a len (bs.set j b'):=by show _::_::(flat Wc bs).set (j*2+0) v=_;rw[RB Xi h (by decide) hv];rfl
def NG {a len:Int}{bs:List Bk}{j:Nat}{b b':Bk}{v:Value}(h:bs[j]? =some b)(hv:Wc b'=(Wc b).set 1 v):(tE a len bs).set (j*2+2+1) v=tE a len (bs.set j b'):=by show _::_::(flat Wc bs).set (j*2+1) v=_;rw[RB Xi h (by decide) hv];rfl
attribute [local irreducible] af cE bw bg aA cu bY St Bx Al App cJ cB cz bW aL bD aq bT av ak aW
section
variable {F:Nat->Prop}{W w:World}{L:List As}{i p:Nat}{a:Int}{l:List E}{bs:List Bk}{N:Nat}
def HV (s:Sep F W w L)(hi:L[i]? =some (Bw p a l bs N)):Rel a l bs N:=aeZ s hi
def NH (s:Sep F W w L)(hi:L[i]? =some (Bw p a l bs N)):Sep (Bw p a l bs N).fp w w (SM p a l.length bs):=IM s hi
def C6 {Q:Int->World->Prop}(s:Sep F W w L)(hi:L[i]? =some (Bw p a l bs N))(h:Q (l.length:Int) w):qE (sZ p) w Q:=by apply Uu;refine FA (ah ?_);exact dw (NH s hi) (i:=0) rfl rfl rfl h
def QZ {k x:Int}{Q:Bool->World->Prop}(s:Sep F W w L)(hi:L[i]? =some (Bw p a l bs N))(hk:k<9223372036854775808)(oZ:N+1<1000000)
  (hno:¬(a<=k/\k<a+256)->Q false w)(hyes:a<=k/\k<a+256->∀w' bs',Sep F W w' (L.set i (Bw p a (l++[(k,x)]) bs' (N+1)))->Q true w'):vL (sZ p) k x w Q:=by
 apply Uv;have hr:=HV s hi;have s0:=NH s hi;have hnn:=hr.nn;refine FA (ah ?_);apply dw s0 (i:=0) rfl rfl rfl;by_cases h1:k<a
 ·grind
 ·rw[bq h1];apply ah;apply dw s0 (i:=0) rfl rfl rfl;rw[aG];by_cases h2:k-a≥256
  ·grind
  ·rw[bq h2];have hkk:a<=k/\k<a+256:=by omega
   rw[Int.tmod_eq_emod_of_nonneg (by omega)];obtain⟨j,hj⟩:∃j:Nat,k%256=(j:Int):=⟨(k%256).toNat,by omega⟩;have abN:j<256:=by omega
   obtain⟨b,hb⟩:∃b,bs[j]? =some b:=⟨_,List.getElem?_eq_getElem (by rw[hr.n];exact abN)⟩;have hbk:=hr.bk j b hb;rw[hj];refine⟨by decide,ah ⟨by omega,by omega,?_⟩⟩;have ea:((aZ p).add 2).add (((j:Int)).toNat*2)=⟨p,j*2+2,none⟩:=by rw[cq,cq,show((j:Int)).toNat=j from rfl];grind
   rw[ea];refine Z1 s0 (i:=0) (j:=j+1) rfl (NF hb) (by show(bs.map Bf)[j]? =_;exact LR hb) (by omega) (by omega) λw1 a' c' s1=>?_;have e1:ak a' (b.xs.length+1) c' 3 1 (ints (b.xs++[x]))=Bf ⟨a',c',b.xs++[x],b.gone⟩:=by unfold Bf;grind
   have e2:(tE a l.length bs).set (j*2+2) (.slice a' (b.xs.length+1) c')=tE a l.length (bs.set j ⟨a',c',b.xs++[x],b.gone⟩):=Tx hb (by unfold Wc;grind);rw[e1,e2]at s1;have s1:Sep (Bw p a l bs N).fp w w1 (av p 388 (tE a l.length (bs.set j ⟨a',c',b.xs++[x],b.gone⟩))::(bs.map Bf).set j (Bf ⟨a',c',b.xs++[x],b.gone⟩)):=s1;rw[<-List.map_set]at s1;apply ah;refine dw s1 (i:=0) rfl rfl rfl (ah ?_);have hfl:=hr.nS;rw[aG];refine ax s1 (i:=0) rfl rfl rfl λw2 s2=>?_;have hlen:((l.length:Int)+1)=((l++[(k,x)]).length:Int):=by simp
   rw[hlen]at s2;refine hyes hkk w2 (bs.set j ⟨a',c',b.xs++[x],b.gone⟩) (RC s hi s2 ?_);refine⟨by simp[hr.n],aqq hr.fit hkk.1 hkk.2,hr.nn,(by have:=hr.big;simp;omega),(by omega),oZ,λj' b' hb'=>?_⟩;rw[an0];by_cases hjj:j=j'
   ·grind
   ·rw[List.getElem?_set_ne hjj]at hb';have:=hr.bk j' b' hb';grind
end
end Go.Proofs.YtmegplnmiepfbaaGreatDoor.S.Rg
namespace Go.Proofs.YtmegplnmiepfbaaGreatDoor.S.Rg
open Go.Sx
attribute [local irreducible] af cE bw bg aA cu bY St Bx Al App cJ cB cz bW aL bD aq bT av ak aW
section
variable {F:Nat->Prop}{W w:World}{L:List As}{i p:Nat}{a:Int}{l:List E}{bs:List Bk}{N:Nat}
def abO {k:Int}{Q:Bool->World->Prop}(s:Sep F W w L)(hi:L[i]? =some (Bw p a l bs N))
  (hno:¬(l=[]/\a<=k/\k<=1099511627776)->Q false w)(hyes:l=[]/\a<=k/\k<=1099511627776->∀w' bs',Sep F W w' (L.set i (Bw p k [] bs' N))->Q true w'):Ah (sZ p) k w Q:=by
 apply Sg;have hr:=HV s hi;have s0:=NH s hi;have hnn:=hr.nn;refine FA (ah ?_);apply dw s0 (i:=0) rfl rfl rfl;by_cases h0:l=[]
 ·subst h0;rw[bq (by simp)];apply ah;apply dw s0 (i:=0) rfl rfl rfl;by_cases h1:k<a
  ·grind
  ·rw[bq h1];by_cases h2:k>1099511627776
   ·grind
   ·rw[bq h2];apply ah;refine ax s0 (i:=0) rfl rfl rfl λw1 s1=>?_;have s1:=s1;exact hyes ⟨rfl,by omega,by omega⟩ w1 bs (RC s hi s1 ⟨hr.n,(λe he=>by cases he),by omega,(by simp;omega),hr.nS,hr.room,hr.bk⟩)
 simp_all
def agF {Q:Int->Int->Bool->World->Prop}(hr:Rel a l bs N){d:Nat}(hd:d<256)(SE:∀e∈l,a+d<=e.1)(hex:∃e∈l,e.1=a+d){w0:World}{G:Nat->Prop}
  (h:∀w' l1 x l2 bs',l=l1++(a+d,x)::l2->(∀e∈l1,a+d<e.1)->(∀e∈l2,a+d<=e.1)->Rel (a+d) (l1++l2) bs' N->Sep G w0 w' (SM p (a+d) (l1++l2).length bs')->Q (a+d) x true w'):
  ∀(m e:Nat) (w:World),e+m=d->Sep G w0 w (SM p (a+e) l.length bs)->pV Q (m+1) (sZ p) w:=by
 have hnn:=hr.nn;have ahp:=hr.big;have aBe:=hr.nS;have azy:=hr.room;intro m;induction m with
 |zero=>
  intro e w he s;obtain rfl:e=d:=by omega
  show DH Q (pV Q 0) _ _;obtain⟨j,hj⟩:∃j:Nat,(a+e)%256=(j:Int):=⟨((a+e)%256).toNat,by omega⟩;have abN:j<256:=by omega
  obtain⟨b,hb⟩:∃b,bs[j]? =some b:=⟨_,List.getElem?_eq_getElem (by rw[hr.n];exact abN)⟩;have hbk:=hr.bk j b hb;have hroom:=hr.room;have hkk:a<=a+e/\a+e<a+256:=by omega
  have hpn:tK l j≠[]:=λh0=>by obtain⟨x,hx,hxe⟩:=hex;exact(abM hr.fit hkk hj).1 h0 x hx hxe
  obtain⟨l1,x,l2,hl,g1,g2,g3,g4,g5⟩:=an1 hr.fit hkk hj SE hpn;have hlt:b.gone<b.xs.length:=by grind
  have ea:((aZ p).add 2).add (((j:Int)).toNat*2)=⟨p,j*2+2,none⟩:=by rw[cq,cq,show((j:Int)).toNat=j from rfl];grind
  have em:Int.tmod (a+e) 256=(j:Int):=by grind
  have s0:Sep G w0 w.drew _:=s;apply ah;apply dw s0 (i:=0) rfl rfl rfl;rw[em];refine⟨by decide,ah ⟨by omega,by omega,?_⟩⟩;rw[ea];apply Cr s0 (i:=0) rfl (NF hb) (OV hb);rw[show(((b.gone:Int))==(b.xs.length:Int))=false by grind,cond_false];have s1:=s;apply ah;refine dw s1 (i:=0) rfl rfl rfl (ah ?_);refine ax s1 (i:=0) rfl rfl rfl λw3 s3=>?_;have el:IntKind.wrap .i64 ((l.length:Int)-1)=((l1++l2).length:Int):=by rw[aG];grind
  rw[el]at s3;have s3:=s3;have s4:Sep G w0 w3.drew (SM p (a+e) (l1++l2).length bs):=s3;apply ah;refine dw s4 (i:=0) rfl rfl rfl (ah ?_);apply dw s4 (i:=0) rfl rfl rfl;rw[em];refine⟨by decide,ah ⟨by omega,by omega,?_⟩⟩;rw[ea];have hx:b.xs[b.gone]? =some x:=by have:=congrArg (λq=>q[0]?) (hbk.1.trans g3);grind
  have abQ:b.xs.drop (b.gone+1)=tK (l1++l2) j:=by have:=congrArg (List.drop 1) (hbk.1.trans g3);simpa[List.drop_drop]using this
  have rel:∀b':Bk,b'.xs.drop b'.gone=tK (l1++l2) j->b'.gone<=b'.xs.length->b'.xs.length<=N->Rel (a+e) (l1++l2) (bs.set j b') N:=by
   intro b' q1 q2 q3;refine⟨by simp[hr.n],g5,by omega,?_,?_,hroom,λj' b2 hb2=>?_⟩
   ·grind
   ·grind
   ·by_cases hjj:j=j'
    ·grind
    ·rw[List.getElem?_set_ne hjj]at hb2;rw[g4 j' (Ne.symm hjj)];exact hr.bk j' b2 hb2
  refine Z2 s4 (i:=0) (j:=j+1) rfl (NF hb) (OV hb) (by show(bs.map Bf)[j]? =_;exact LR hb) (by omega) (by omega) hx (λhg w5 s5=>?_) λhg w5 s5=>?_
  ·have e2:(tE (a+e) (l1++l2).length bs).set (j*2+2+1) (ae ((b.gone+1:Nat):Int))=tE (a+e) (l1++l2).length (bs.set j {b with gone:=b.gone+1}):=NG hb rfl;rw[e2]at s5;have e3:bs.map Bf=(bs.set j {b with gone:=b.gone+1}).map Bf:=by rw[List.map_set,show Bf {b with gone:=b.gone+1}=Bf b from rfl,rI (LR hb)]
   have s5:Sep G w0 w5 (av p 388 (tE (a+e) (l1++l2).length (bs.set j {b with gone:=b.gone+1}))::bs.map Bf):=s5;rw[e3]at s5;refine⟨cM s5 (i:=0) rfl rfl rfl,?_⟩;exact h w5 l1 x l2 _ hl g1 g2 (rel {b with gone:=b.gone+1} abQ (show b.gone+1<=b.xs.length by omega) hbk.2.2) s5
  ·have e2:((tE (a+e) (l1++l2).length bs).set (j*2+2) (.slice b.a 0 b.c)).set (j*2+2+1) (ae ((0:Nat):Int))=tE (a+e) (l1++l2).length (bs.set j ⟨b.a,b.c,[],0⟩):=by
    have hjl:j<bs.length:=by grind
    rw[Tx (b':=⟨b.a,b.c,[],b.gone⟩) (v:=.slice b.a 0 b.c) hb rfl,NG (b:=⟨b.a,b.c,[],b.gone⟩) (b':=⟨b.a,b.c,[],0⟩) (List.getElem?_set_self hjl) rfl,gY]
   rw[e2]at s5;have e3:ak b.a 0 b.c 3 1 []=Bf ⟨b.a,b.c,[],0⟩:=rfl;have s5:Sep G w0 w5 (av p 388 (tE (a+e) (l1++l2).length (bs.set j ⟨b.a,b.c,[],0⟩))::(bs.map Bf).set j (Bf ⟨b.a,b.c,[],0⟩)):=s5;rw[<-List.map_set]at s5;refine⟨cM s5 (i:=0) rfl rfl rfl,?_⟩;refine h w5 l1 x l2 _ hl g1 g2 (rel _ ?_ (by simp) (by simp)) s5;grind
 |succ m ih=>
  intro e w he s;show DH Q (pV Q (m+1)) _ _;obtain⟨j,hj⟩:∃j:Nat,(a+e)%256=(j:Int):=⟨((a+e)%256).toNat,by omega⟩;have abN:j<256:=by omega
  obtain⟨b,hb⟩:∃b,bs[j]? =some b:=⟨_,List.getElem?_eq_getElem (by rw[hr.n];exact abN)⟩;have hbk:=hr.bk j b hb;have hkk:a<=a+e/\a+e<a+256:=by omega
  have hpn:=(abM hr.fit hkk hj).2 λx hx hxe=>by grind
  have awd:b.gone=b.xs.length:=by have:=congrArg List.length hbk.1;grind
  have ea:((aZ p).add 2).add (((j:Int)).toNat*2)=⟨p,j*2+2,none⟩:=by rw[cq,cq,show((j:Int)).toNat=j from rfl];grind
  have em:Int.tmod (a+e) 256=(j:Int):=by grind
  have s0:Sep G w0 w.drew _:=s;apply ah;apply dw s0 (i:=0) rfl rfl rfl;rw[em];refine⟨by decide,ah ⟨by omega,by omega,?_⟩⟩;rw[ea];apply Cr s0 (i:=0) rfl (NF hb) (OV hb);rw[awd,beq_self_eq_true,cond_true];have s1:=s;apply ah;refine dw s1 (i:=0) (j:=0) rfl rfl rfl (ah ?_);refine ax s1 (i:=0) (j:=0) rfl rfl rfl λw3 s3=>?_;rw[aG,show a+(e:Int)+1=a+((e+1:Nat):Int) by omega]at s3;exact ih (e+1) w3 (by omega) s3
def ad0 {Q:Int->Int->Bool->World->Prop}(s:Sep F W w L)(hi:L[i]? =some (Bw p a l bs N))(h0:l=[]->Q 0 0 false w)
  (h1:∀w' k l1 x l2 bs',l=l1++(k,x)::l2->(∀e∈l1,k<e.1)->(∀e∈l2,k<=e.1)->Sep F W w' (L.set i (Bw p k (l1++l2) bs' N))->Q k x true w'):A9 (sZ p) w Q:=by
 apply Uw;apply C6 s hi;have hr:=HV s hi;by_cases hl:l=[]
 ·grind
 ·have hpos:=List.length_pos_iff.2 hl;rw[show(((l.length:Int))==0)=false by grind,cond_false];obtain⟨d,hd,SE,hex⟩:=aj2 hr.fit hl;have s0:=NH s hi;refine⟨d+1,agF (G:=(Bw p a l bs N).fp) (w0:=w) hr hd SE hex (λw' l1 x l2 bs' q1 q2 q3 q4 s'=>?_) d 0 w (by omega) (by grind)⟩;exact h1 w' (a+d) l1 x l2 bs' q1 q2 q3 (RC s hi s' q4)
def ais:Bk:=⟨none,0,[],0⟩
def Q0 {f:Int}{Q:Option Addr->World->Prop}(s:Sep F W w L)(hno:f<0\/f>1099511627776->Q none w)(hyes:0<=f/\f<=1099511627776->∀p w' bs,Sep F W w' (Bw p f [] bs 0::L)->Q (sZ p) w'):CO f w Q:=by
 apply adE;by_cases h1:f<0
 ·rw[bM h1];grind
 ·rw[bq h1];by_cases h2:f>1099511627776
  ·rw[bM h2];grind
  ·rw[bq h2];refine aO s λp w1 s=>?_;have s2:=Tp s 3 1 256;have s3:=ck s2 List.perm_middle;have rel:Rel f [] (List.replicate 256 ais) 0:=by refine⟨List.length_replicate,(λe he=>by cases he),by omega,(by simp[List.length_nil];omega),Nat.le_refl _,by decide,λj b hb=>?_⟩;have:b=ais:=List.eq_of_mem_replicate (List.mem_of_getElem? hb);subst this;exact⟨rfl,Nat.le_refl _,Nat.le_refl _⟩
   have e1:(List.replicate 256 ais).map Bf=List.replicate 256 (ak none 0 0 3 1 []):=by rw[List.map_replicate];rfl
   apply hyes (by omega) p w1 (List.replicate 256 ais);have s4:Sep F W w1 (SM p f ([]:List E).length (List.replicate 256 ais)++L):=by unfold SM;exact av5 s3 (by kernel_rfl)
   exact dz s4 rel
end
end Go.Proofs.YtmegplnmiepfbaaGreatDoor.S.Rg
namespace Go.Proofs.YtmegplnmiepfbaaGreatDoor.S
open Go.Sx
def fD (ds:List Int)(l:Int):Int:=if 0<=l/\l<ds.length then gi ds l.toNat else bR
def Gx (ds:List Int):Nat:=ds.countP λd=>d==bR
def kc (x:bj):Int×Int:=(x.k,x.c)
def Wd {k:Int}(hk:k≠bR):∀{ds:List Int} {i:Nat},i<ds.length->gi ds i=bR->Gx (ds.set i k)+1=Gx ds
 |[],i,h,_=>by simp at h
 |d::ds,0,h,hd=>by have hd:d=bR:=hd;unfold Gx;grind
 |d::ds,i+1,h,hd=>by have ih:=Wd hk (i:=i) (by simpa using h) hd;unfold Gx at ih⊢;grind
def ax4 (ds:List Int):Gx ds<=ds.length:=List.countP_le_length
def auD {ds:List Int}{x k:Int}(hx:0<=x/\x<ds.length)(y:Int):fD (ds.set x.toNat k) y=if y=x then k else fD ds y:=by
 unfold fD;rw[List.length_set];by_cases hy:0<=y/\y<ds.length
 ·rw[if_pos hy,if_pos hy,aaW (by omega)];omega
 grind
def SO {tw th l s:Int}(ht:1<=tw)(hh:1<=th)(hl:0<=l/\l<tw*th)(h0:0<=bN tw th l s):bN tw th l s<tw*th/\∃s',(0<=s'/\s'<=3)/\bN tw th (bN tw th l s) s'=l:=by
 obtain⟨i0,i1⟩:0<=l%tw/\l%tw<tw:=⟨Int.emod_nonneg _ (by omega),Int.emod_lt_of_pos _ (by omega)⟩;obtain⟨j0,j1⟩:0<=l/tw/\l/tw<th:=⟨Int.ediv_nonneg hl.1 (by omega),Int.ediv_lt_of_lt_mul (by omega) (by grind)⟩;have hle:l=l/tw*tw+l%tw:=by have:=Int.mul_ediv_add_emod l tw;grind
 have jA:∀i j,0<=i/\i<tw->0<=j/\j<th->j*tw+i<tw*th:=λi j hi hj=>by have:=Int.mul_le_mul_of_nonneg_right (show j+1<=th by omega) (show 0<=tw by omega);grind
 unfold bN at h0;by_cases s0:s=0
 ·subst s0;by_cases q:l/tw>0
  ·have e:bN tw th l 0=(l/tw-1)*tw+l%tw:=by unfold bN;grind
   rw[e];refine⟨jA _ _ ⟨i0,i1⟩ (by omega),2,by decide,?_⟩;obtain⟨d1,d2⟩:=rK (y:=l/tw-1) ⟨i0,i1⟩;unfold bN;grind
  omega
 by_cases s1:s=1
 ·subst s1;by_cases q:l%tw<tw-1
  ·have e:bN tw th l 1=l/tw*tw+(l%tw+1):=by unfold bN;omega
   rw[e];refine⟨jA _ _ (by omega) ⟨j0,j1⟩,3,by decide,?_⟩;obtain⟨d1,d2⟩:=rK (x:=l%tw+1) (w:=tw) (y:=l/tw) (by omega);unfold bN;omega
  omega
 by_cases s2:s=2
 ·subst s2;by_cases q:l/tw<th-1
  ·have e:bN tw th l 2=(l/tw+1)*tw+l%tw:=by unfold bN;grind
   rw[e];refine⟨jA _ _ ⟨i0,i1⟩ (by omega),0,by decide,?_⟩;obtain⟨d1,d2⟩:=rK (y:=l/tw+1) ⟨i0,i1⟩;unfold bN;grind
  omega
 by_cases s3:s=3
 ·subst s3;by_cases q:l%tw>0
  ·have e:bN tw th l 3=l/tw*tw+(l%tw-1):=by unfold bN;omega
   rw[e];refine⟨jA _ _ (by omega) ⟨j0,j1⟩,1,by decide,?_⟩;obtain⟨d1,d2⟩:=rK (x:=l%tw-1) (w:=tw) (y:=l/tw) (by omega);unfold bN;omega
  omega
 omega
def kU (tw th:Int)(cs ds:List Int)(key x:Int)(j:Nat):List (Int×Int):=(List.range j).filterMap λs:Nat=>
 if 0<=bN tw th x s/\gi cs (bN tw th x s).toNat≠255/\gi ds (bN tw th x s).toNat=bR then some (key,bN tw th x s)else none
def abR (tw th:Int)(cs ds:List Int)(key x s:Int):List (Int×Int):=if 0<=bN tw th x s/\gi cs (bN tw th x s).toNat≠255/\gi ds (bN tw th x s).toNat=bR then[(key,bN tw th x s)]else[]
def abS (tw th:Int)(cs ds:List Int)(key x:Int)(j:Nat):kU tw th cs ds key x (j+1)=kU tw th cs ds key x j++abR tw th cs ds key x j:=by unfold kU abR;rw[List.range_succ,List.filterMap_append];grind
def We (tw th:Int)(cs ds:List Int)(key x:Int)(j:Nat):(kU tw th cs ds key x j).length<=j:=by have:=List.length_filterMap_le (λs:Nat=>if 0<=bN tw th x s/\gi cs (bN tw th x s).toNat≠255/\gi ds (bN tw th x s).toNat=bR then some (key,bN tw th x s)else none) (List.range j);rw[List.length_range]at this;exact this
def afk {tw th:Int}{cs ds:List Int}{key x:Int}{e:Int×Int}:e∈kU tw th cs ds key x 4↔∃s:Int,(0<=s/\s<=3)/\(0<=bN tw th x s/\gi cs (bN tw th x s).toNat≠255/\gi ds (bN tw th x s).toNat=bR)/\e=(key,bN tw th x s):=by
 rw[kU,List.mem_filterMap];constructor
 ·grind
 ·rintro ⟨s,h1,h2,rfl⟩;refine⟨s.toNat,List.mem_range.2 (by omega),?_⟩;grind
structure Cs (tw th:Int) (cs:List Int) (xs:List bj) (a:Int) (l:List (Int×Int)) (N:Nat) (todo:List bj) (ds:List Int):Prop where
 len:ds.length=cs.length
 dj:Pg (NA xs) (Iu tw th cs) (fD ds) (l++todo.map kc)
 Ec:∀e∈l++todo.map kc,It cs e.2
 top:∀e∈l++todo.map kc,e.1+254*(Gx ds:Int)<=1073741824+254*(cs.length:Int)
 NI:todo.Pairwise λa b=>a.k<=b.k
 low:∀x∈todo,a<=x.k
 fS:N+todo.length+4*Gx ds<=xs.length+4*cs.length
section
variable {tw th:Int}{cs ds:List Int}{xs todo:List bj}{a:Int}{l:List (Int×Int)}{N:Nat}
def aiu (hcs:∀x∈cs,1<=x/\x<256):∀x n c,Iu tw th cs x n c->0<=c:=λx n c h=>by rw[h.2.2.2];have:=hcs _ (ff (i:=n.toNat) (by have:=h.2.1;unfold It at this;omega));omega
def Cs.take {x:bj}(h:Cs tw th cs xs a l N (x::todo) ds):Cs tw th cs xs a (l++[kc x]) (N+1) todo ds:=by
 have e:l++(x::todo).map kc=(l++[kc x])++todo.map kc:=by simp
 have h1:=h.dj;have h2:=h.Ec;have h3:=h.top;have h4:=h.fS;rw[e]at h1 h2 h3;simp[List.length_cons]at h4;exact⟨h.len,h1,h2,h3,(List.pairwise_cons.1 h.NI).2,λy hy=>h.low y (by simp[hy]),by omega⟩
def Cs.jump {x:bj}(h:Cs tw th cs xs a l N (x::todo) ds):Cs tw th cs xs x.k l N (x::todo) ds:=
 ⟨h.len,h.dj,h.Ec,h.top,h.NI,λy hy=>by
  rcases List.mem_cons.1 hy with rfl|hy
  ·grind
  ·exact(List.pairwise_cons.1 h.NI).1 y hy,h.fS⟩
def Cs.skip {k x:Int}{l1 l2:List (Int×Int)}(h:Cs tw th cs xs a (l1++(k,x)::l2) N todo ds)(hx:fD ds x<bR)(hk:∀y∈todo,k<=y.k):Cs tw th cs xs k (l1++l2) N todo ds:=by
 have hm:∀e∈(l1++l2)++todo.map kc,e∈(l1++(k,x)::l2)++todo.map kc:=λe he=>by grind
 exact⟨h.len,h.dj.skip (k:=k) hx hm λe he=>by grind,λe he=>h.Ec e (hm e he),λe he=>h.top e (hm e he),h.NI,hk,h.fS⟩
def Cs.step {k x:Int}{l1 l2:List (Int×Int)}{M:Nat}(hcs:∀x∈cs,1<=x/\x<256)(hw:1<=tw)(hh:1<=th)(hlen:(cs.length:Int)=tw*th)(v9:cs.length<=256)(h:Cs tw th cs xs a (l1++(k,x)::l2) N todo ds)(hx:gi ds x.toNat=bR)
  (hmin:∀e∈l1++l2,k<=e.1)(hk:∀y∈todo,k<=y.k)(hM:M=N+(kU tw th cs (ds.set x.toNat k) (k+gi cs x.toNat) x 4).length):
  Cs tw th cs xs k ((l1++l2)++kU tw th cs (ds.set x.toNat k) (k+gi cs x.toNat) x 4) M todo (ds.set x.toNat k):=by
 have hin:(k,x)∈(l1++(k,x)::l2)++todo.map kc:=by simp
 have I_:=h.Ec _ hin;have hxr:0<=x/\x<ds.length:=by rw[h.len];exact⟨I_.1,I_.2.1⟩
 have Z3:=h.top _ hin;have hkI:k<bR:=by unfold bR;omega
 have Z4:∀y,fD (ds.set x.toNat k) y=if y=x then k else fD ds y:=auD hxr
 have Hj:=Wd (k:=k) (by omega) (by omega) hx;have hbound:∀e∈(l1++(k,x)::l2)++todo.map kc,k<=e.1:=λe he=>by
  simp only[List.mem_append,List.mem_cons,List.mem_map]at he;rcases he with(he|rfl|he)|⟨y,hy,rfl⟩
  ·grind
  ·grind
  ·grind
  ·exact hk y hy
 have hcx:=hcs _ (ff (i:=x.toNat) (by rw[<-h.len];omega));have hfx:¬fD ds x<bR:=by unfold fD;grind
 have auF:∀e∈((l1++l2)++kU tw th cs (ds.set x.toNat k) (k+gi cs x.toNat) x 4)++todo.map kc,e∈(l1++(k,x)::l2)++todo.map kc\/e∈kU tw th cs (ds.set x.toNat k) (k+gi cs x.toNat) x 4:=λe he=>by grind
 have ax5:∀e∈kU tw th cs (ds.set x.toNat k) (k+gi cs x.toNat) x 4,It cs e.2/\e.1=k+gi cs x.toNat/\Iu tw th cs e.2 x (gi cs x.toNat):=λe he=>by obtain⟨s,hs,⟨h1,h2,h3⟩,rfl⟩:=afk.1 he;have hr:=SO hw hh (by rw[<-hlen,<-h.len];exact hxr) h1;have ho:It cs (bN tw th x s):=⟨h1,by grind,h2⟩;exact⟨ho,rfl,ho,I_,hr.2,rfl⟩
 refine⟨by rw[List.length_set];exact h.len,?_,?_,?_,h.NI,hk,?_⟩
 ·refine h.dj.step (aiu hcs) hfx hkI hin hbound (by grind) (λy hy=>by grind) ?_ ?_ ?_
  ·grind
  ·grind
  ·rintro y c ⟨h1,h2,⟨s,hs,h3⟩,rfl⟩;by_cases hy:fD (ds.set x.toNat k) y<bR
   ·exact .inl hy
   ·refine .inr ⟨k+gi cs x.toNat,Int.le_refl _,?_⟩;have hr:=SO (s:=s) hw hh (by rw[<-hlen];exact⟨h1.1,h1.2.1⟩) (by grind);rw[h3]at hr;obtain⟨s',hs',h4⟩:=hr.2;rw[List.mem_append,List.mem_append];refine .inl (.inr (afk.2 ⟨s',hs',?_,by rw[h4]⟩));rw[h4];refine⟨h1.1,h1.2.2,?_⟩;have Ty:0<=y/\y<(ds.set x.toNat k).length:=by rw[List.length_set,h.len];exact⟨h1.1,h1.2.1⟩
    have hz:fD (ds.set x.toNat k) y=bR:=by
     rw[Z4]at hy⊢;by_cases e:y=x
     ·omega
     ·rw[if_neg e]at hy⊢;exact h.dj.none y hy
    unfold fD at hz;grind
 ·intro e he;rcases auF e he with h1|h1
  ·exact h.Ec e h1
  grind
 ·intro e he;rcases auF e he with h1|h1
  ·have:=h.top e h1;omega
  ·have:=(ax5 e h1).2.1;have:gi cs x.toNat≠255:=I_.2.2;omega
 ·have h1:=We tw th cs (ds.set x.toNat k) (k+gi cs x.toNat) x 4;have h2:=h.fS;omega
def an5 (hok:rU tw th cs xs=true){zs:List bj}(hz:∀x,x∈zs↔x∈xs)(hzl:zs.length=xs.length)(hzs:zs.Pairwise λa b=>a.k<=b.k):Cs tw th cs xs 0 [] 0 zs (List.replicate cs.length bR):=by
 have hf:∀x,fD (List.replicate cs.length bR) x=bR:=λx=>by
  unfold fD;split
  ·rename_i h;unfold gi;grind
  ·rfl
 have hu:Gx (List.replicate cs.length bR)=cs.length:=by rw[Gx,List.countP_replicate,if_pos (by decide)]
 unfold rU at hok;rw[Bool.and_eq_true,List.all_eq_true]at hok;have alL:∀x∈zs,It cs x.c/\0<=x.k/\x.k<=1073741824:=λx hx=>by have:=hok.2 x ((hz x).1 hx);unfold Aq at this;simp[Bool.and_eq_true,decide_eq_true_iff,bne_iff_ne]at this;exact⟨⟨this.1.1,this.1.2,this.2.1⟩,this.2.2.1⟩
 refine⟨by simp,⟨?_,?_,?_,?_,?_,?_⟩,?_,?_,hzs,λx hx=>(alL x hx).2.1,by omega⟩
 ·intro e he;obtain⟨y,hy,rfl⟩:=List.mem_map.1 he;exact .src ⟨y,(hz y).1 hy,rfl,rfl⟩
 ·grind
 ·grind
 ·rintro x k ⟨y,hy,rfl,rfl⟩;exact .inr ⟨y.k,Int.le_refl _,by rw[List.nil_append];exact List.mem_map.2 ⟨y,(hz y).2 hy,rfl⟩⟩
 ·grind
 ·grind
 ·intro e he;obtain⟨y,hy,rfl⟩:=List.mem_map.1 he;exact(alL y hy).1
 ·intro e he;obtain⟨y,hy,rfl⟩:=List.mem_map.1 he;have:=(alL y hy).2;show y.k+_<=_;omega
noncomputable def ju (tw th:Int)(cs:List Int)(xs:List bj):List Int:=(List.range cs.length).map λl:Nat=>LP tw th cs xs l
def Cs.done (h:Cs tw th cs xs a [] N [] ds):ds=ju tw th cs xs:=by
 have h1:=h.dj;have h2:∀x,gz (NA xs) (Iu tw th cs) x=fD ds x:=λx=>Pg.done (by grind) x;refine U5 (by unfold ju;rw[List.length_map,List.length_range,h.len]) λi hi=>?_;rw[ju,show gi ((List.range cs.length).map λl:Nat=>LP tw th cs xs l) i=LP tw th cs xs i from ?_]
 ·rw[LP,h2];unfold fD;grind
 ·rw[gi,List.getD_eq_getElem?_getD,List.getElem?_map,List.getElem?_range (by rw[<-h.len];exact hi)];rfl
end
end Go.Proofs.YtmegplnmiepfbaaGreatDoor.S
namespace Go.Proofs.YtmegplnmiepfbaaGreatDoor.S
open Go.Sx
open Go.Sort (swp)
attribute [local irreducible] af cE bw bg aA cu bY St Bx Al App cJ cB cz bW aL bD aq bT av ak aW mapA
noncomputable abbrev iM:Value:=.func (.func 197) #[] #[]
abbrev c8 (a:Option Addr)(n c:Nat)(d:Array bj):As:=ak a n c 294 3 (flat fT d.toList)
section
variable {F:Nat->Prop}{W w w0:World}{L:List As}{a:Option Addr}{n c:Nat}{d:Array bj}
def gm (s:Sep F W w (c8 a n c d::L)):d.size=n:=by have:=(aN s (i:=0) rfl nC (by decide)).len;grind
def Xj {k:Nat}(h:k<d.size):d.toList[k]? =some d[k]!:=by grind
def RdS {idx:Int}{k:Nat}{K:Int->Int->Int->Prop}(s:Sep F W w (c8 a n c d::L))(hk:idx=k)(hn:k<d.size)(h:K d[k]!.c d[k]!.s d[k]!.k):
  aJ idx n (wA a λp=>af .i64 ((p.add (idx.toNat*3)).add 0) w λx=>af .i64 ((p.add (idx.toNat*3)).add 1) w λy=>af .i64 ((p.add (idx.toNat*3)).add 2) w λz=>K x y z):=
 (aN s (i:=0) rfl nC (by decide)).El hk (by rw[<-gm s];exact hn) λp x hx hc=>by rw[Xj hn]at hx;cases hx;exact aR (hc 0 _ rfl) (aR (hc 1 _ rfl) (aR (hc 2 _ rfl) h))
def WrS {idx:Int}{k:Nat}{x:bj}{K:World->Prop}(s:Sep F W w (c8 a n c d::L))(hk:idx=k)(hn:k<d.size)(h:∀w',Sep F W w' (c8 a n c (d.setIfInBounds k x)::L)->K w'):
  aJ idx n (wA a λp=>St ((p.add (idx.toNat*3)).add 0) (ae x.c) w λw=>St ((p.add (idx.toNat*3)).add 1) (ae x.s) w λw=>St ((p.add (idx.toNat*3)).add 2) (ae x.k) w λw=>K w):=by
 have hsz:=gm s;subst hk;have hg:=Xj hn;refine CF s (i:=0) rfl rfl (by omega) λg o ha=>?_;subst ha;have ad:∀j,(((⟨g,o,none⟩:Addr).add ((k:Int).toNat*3)).add j)=⟨g,o+(k*3+j),none⟩:=λj=>by rw[add_add,cq,Int.toNat_natCast]
 refine dQ (x':=⟨x.c,d[k]!.s,d[k]!.k⟩) nC s (i:=0) rfl hg (ad 0) (by decide) rfl rfl λw s=>?_;refine dQ (x:=⟨x.c,d[k]!.s,d[k]!.k⟩) (x':=⟨x.c,x.s,d[k]!.k⟩) nC s (i:=0) rfl (by grind) (ad 1) (by decide) rfl rfl λw s=>?_;refine dQ (x:=⟨x.c,x.s,d[k]!.k⟩) (x':=x) nC s (i:=0) rfl (by grind) (ad 2) (by decide) rfl rfl λw s=>?_;simp[List.set_cons_zero,List.set_set]at s;grind
def Gy {m:Nat}{i j:Int}{p q:Nat}{K:Int->World->Prop}(s:Sep F W w (c8 a n c d::L))(hi:i=p)(hp:p<d.size)(hj:j=q)(hq:q<d.size)(h:∀w',Sep F W w' (c8 a n c d::L)->K (aii d[p]! d[q]!) w'):
  aJ i n (wA a λp=>af .i64 ((p.add (i.toNat*3)).add 0) w λx=>af .i64 ((p.add (i.toNat*3)).add 1) w λy=>af .i64 ((p.add (i.toNat*3)).add 2) w λz=>
  aJ j n (wA a λp=>af .i64 ((p.add (j.toNat*3)).add 0) w λx'=>af .i64 ((p.add (j.toNat*3)).add 1) w λy'=>af .i64 ((p.add (j.toNat*3)).add 2) w λz'=>
  h_ (cx m) iM [.agg #[ae x,ae y,ae z],.agg #[ae x',ae y',ae z']] w λv w'=>dI .i64 v λr=>K r w')):=
 RdS (K:=λx y z=>aJ j n (wA a λp=>af .i64 ((p.add (j.toNat*3)).add 0) w λx'=>af .i64 ((p.add (j.toNat*3)).add 1) w λy'=>af .i64 ((p.add (j.toNat*3)).add 2) w λz'=>
  h_ (cx m) iM [.agg #[ae x,ae y,ae z],.agg #[ae x',ae y',ae z']] w λv w'=>dI .i64 v λr=>K r w')) s hi hp
  (RdS s hj hq
   (ajZ (Yb s λw' s' _=>h w' s')))
def DO {i j:Int}{p q:Nat}{K:World->Prop}(s:Sep F W w (c8 a n c d::L))(hi:i=p)(hp:p<d.size)(hj:j=q)(hq:q<d.size)(h:∀w',Sep F W w' (c8 a n c (swp d p q)::L)->K w'):
  aJ j n (wA a λp=>af .i64 ((p.add (j.toNat*3)).add 0) w λx=>af .i64 ((p.add (j.toNat*3)).add 1) w λy=>af .i64 ((p.add (j.toNat*3)).add 2) w λz=>
  aJ i n (wA a λp=>af .i64 ((p.add (i.toNat*3)).add 0) w λx'=>af .i64 ((p.add (i.toNat*3)).add 1) w λy'=>af .i64 ((p.add (i.toNat*3)).add 2) w λz'=>
  aJ i n (wA a λp=>St ((p.add (i.toNat*3)).add 0) (ae x) w λw=>St ((p.add (i.toNat*3)).add 1) (ae y) w λw=>St ((p.add (i.toNat*3)).add 2) (ae z) w λw=>
  aJ j n (wA a λp=>St ((p.add (j.toNat*3)).add 0) (ae x') w λw=>St ((p.add (j.toNat*3)).add 1) (ae y') w λw=>St ((p.add (j.toNat*3)).add 2) (ae z') w λw=>K w)))):=by
 refine RdS (K:=λx y z=>aJ i n (wA a λp=>af .i64 ((p.add (i.toNat*3)).add 0) w λx'=>af .i64 ((p.add (i.toNat*3)).add 1) w λy'=>af .i64 ((p.add (i.toNat*3)).add 2) w λz'=>
  aJ i n (wA a λp=>St ((p.add (i.toNat*3)).add 0) (ae x) w λw=>St ((p.add (i.toNat*3)).add 1) (ae y) w λw=>St ((p.add (i.toNat*3)).add 2) (ae z) w λw=>
  aJ j n (wA a λp=>St ((p.add (j.toNat*3)).add 0) (ae x') w λw=>St ((p.add (j.toNat*3)).add 1) (ae y') w λw=>St ((p.add (j.toNat*3)).add 2) (ae z') w λw=>K w)))) s hj hq ?_
 refine RdS (K:=λx' y' z'=>aJ i n (wA a λp=>St ((p.add (i.toNat*3)).add 0) (ae d[q]!.c) w λw=>St ((p.add (i.toNat*3)).add 1) (ae d[q]!.s) w λw=>St ((p.add (i.toNat*3)).add 2) (ae d[q]!.k) w λw=>
  aJ j n (wA a λp=>St ((p.add (j.toNat*3)).add 0) (ae x') w λw=>St ((p.add (j.toNat*3)).add 1) (ae y') w λw=>St ((p.add (j.toNat*3)).add 2) (ae z') w λw=>K w))) s hi hp ?_
 refine WrS (K:=λw=>aJ j n (wA a λp_1=>St ((p_1.add (j.toNat*3)).add 0) (ae d[p]!.c) w λw=>St ((p_1.add (j.toNat*3)).add 1) (ae d[p]!.s) w λw=>St ((p_1.add (j.toNat*3)).add 2) (ae d[p]!.k) w λw=>K w)) s hi hp λw s=>?_;exact WrS s hj (by grind) h
end
end Go.Proofs.YtmegplnmiepfbaaGreatDoor.S
namespace Go.Proofs.YtmegplnmiepfbaaGreatDoor.S
open Go.Sx
open Go.Sort (swp insInner insOuter insertionSort siftDown heapBuild heapPop heapSort)
attribute [local irreducible] af cE bw bg aA cu bY St Bx Al App cJ cB cz bW aL bD aq bT av ak aW mapA
section
variable {F:Nat->Prop}{W w w0:World}{L:List As}{a:Option Addr}{n c:Nat}{d:Array bj}
def an6 {P1:Option Addr->Nat->Nat->Int->Int->Value->Int->World->Prop}{Q:World->Prop}{lo:Nat}{b:Int}{i:Nat}(hn:n<1000000)(hi:i<1000000)
  (h:∀d' w',d'.size=n->Sep F W w' (c8 a n c d'::L)->(d'=insInner cR lo i d)->P1 a n c lo b iM ((i+1:Nat):Int) w'):
  ∀(j:Nat) (d1:Array bj) (w:World),j<n->insInner cR lo j d1=insInner cR lo i d->Sep F W w (c8 a n c d1::L)->eN P1 Q (j+1) a n c lo b iM i j w:=by
 intro j;induction j with
 |zero=>
  intro d1 w hj he s;show fL P1 Q (eN P1 Q 0) _ _ _ _ _ _ _ _ _;rw[fL,bq,aG];exact h d1 _ (gm s) (ay s) he
 |succ j ih=>
  intro d1 w hj he s;have hsz:=gm s;show fL P1 Q (eN P1 Q (j+1)) _ _ _ _ _ _ _ _ _;unfold fL;rw[insInner]at he;by_cases hl:j+1>lo
  ·rw[bM (show((j+1:Nat):Int)>lo by omega),aG];rw[decide_eq_true hl,Bool.true_and]at he;refine Gy (q:=j) (ay s) rfl (by omega) (by omega) (by omega) λw s=>?_;show cond (cR d1[j+1]! d1[j]!) _ _;by_cases hc:cR d1[j+1]! d1[j]! =true
   ·rw[hc,cond_true];refine DO (q:=j) (ay s) rfl (by omega) (by omega) (by omega) λw s=>?_;grind
   ·rw[Bool.not_eq_true]at hc;rw[hc,cond_false,aG];grind
  ·rw[bq (show¬((j+1:Nat):Int)>lo by omega),aG];rw[decide_eq_false hl,Bool.false_and,if_neg (by decide)]at he;exact h d1 _ hsz (ay s) he
def an7 {Q:World->Prop}{lo b:Nat}(hn:n<1000000)(hb:b<=n)(h:∀w',Sep F W w' (c8 a n c (insertionSort cR d lo b)::L)->Q w'):
  ∀(j i:Nat) (d1:Array bj) (w:World),i+j=b+1\/b<i/\j=0->insOuter cR lo b i d1=insertionSort cR d lo b->Sep F W w (c8 a n c d1::L)->eO Q (j+1) a n c lo b iM i w:=by
 intro j;induction j with
 |zero=>
  intro i d1 w hi he s;show fN Q (eO Q 0) _ _ _ _ _ _ _ _;unfold fN;rw[insOuter,fR]at he;grind
 |succ j ih=>
  intro i d1 w hi he s;show fN Q (eO Q (j+1)) _ _ _ _ _ _ _ _;unfold fN;rw[insOuter]at he;by_cases hib:i<b
  ·rw[bM];rw[if_pos hib]at he;refine⟨i+1,an6 hn (by omega) (λd' w' hs' s' e=>?_) i d1 w (by omega) rfl s⟩;subst e;exact ih (i+1) _ w' (by omega) he s'
  grind
def Hl {Q:World->Prop}{lo b:Nat}(s:Sep F W w (c8 a n c d::L))(hn:n<1000000)(hlo:lo<=b)(hb:b<=n)(h:∀w',Sep F W w' (c8 a n c (insertionSort cR d lo b)::L)->Q w'):
  jK a n c lo b iM w Q:=by
 apply zk;rw[aG];exact⟨b-lo+1,an7 hn hb h (b-lo) (lo+1) d w (by omega) rfl s⟩
def an8 {Q:World->Prop}{hi first:Nat}(hn:n<1000000)(hh:first+hi<=n){d0:Array bj}(h:∀w',Sep F W w' (c8 a n c d0::L)->Q w'):
  ∀(j root:Nat) (d1:Array bj) (w:World),hi<=root+j->root<n->siftDown cR hi first root d1=d0->Sep F W w (c8 a n c d1::L)->eS Q (j+1) a n c hi first iM root w:=by
 intro j;induction j with
 |zero=>
  intro root d1 w hj hr he s;show gO Q (eS Q 0) _ _ _ _ _ _ _ _;rw[gO,aG (n:=2*(root:Int)),aG,bM];rw[siftDown,dif_pos (by omega)]at he;grind
 |succ j ih=>
  intro root d1 w hj hr he s;have hsz:=gm s;show gO Q (eS Q (j+1)) _ _ _ _ _ _ _ _;rw[gO,aG (n:=2*(root:Int)),aG];rw[siftDown]at he;by_cases h1:2*root+1≥hi
  ·grind
  rw[bq,aG,aG,aG];rw[dif_neg h1]at he;have b5:∀(ch:Nat) (w:World),root<ch->ch<hi->Sep F W w (c8 a n c d1::L)->(if(!cR d1[first+root]! d1[first+ch]!)=true then d1 else siftDown cR hi first ch (swp d1 (first+root) (first+ch)))=d0->
    fF (eS Q (j+1)) Q a n c hi first iM root ch w:=λch w aBG hch s he=>by
   rw[fF,aG,aG];refine Gy (p:=first+root) (q:=first+ch) (ay s) (by omega) (by omega) (by omega) (by omega) λw s=>?_;show cond (!cR d1[first+root]! d1[first+ch]!) _ _;by_cases hc:cR d1[first+root]! d1[first+ch]! =true
   ·rw[hc,Bool.not_true,cond_false];refine DO (p:=first+root) (q:=first+ch) (ay s) (by omega) (by omega) (by omega) (by omega) λw s=>?_;grind
   grind
  have e1:(2*(root:Int)+1)=((2*root+1:Nat):Int):=by omega
  have e2:(2*(root:Int)+1+1)=((2*root+2:Nat):Int):=by omega
  rw[e2];by_cases h2:2*root+2<hi
  ·rw[bM (show((2*root+2:Nat):Int)<hi by omega)];refine Gy (p:=first+(2*root+1)) (q:=first+(2*root+1)+1) (ay s) (by omega) (by omega) (by omega) (by omega) λw s=>?_;show cond (cR d1[first+(2*root+1)]! d1[first+(2*root+1)+1]!) _ _;by_cases hc:cR d1[first+(2*root+1)]! d1[first+(2*root+1)+1]! =true
   ·rw[hc,cond_true];apply b5 (2*root+2) w (by omega) h2 s;grind
   ·rw[Bool.not_eq_true]at hc;rw[hc,cond_false,e1];rw[if_neg (by grind)]at he;exact b5 (2*root+1) w (by omega) (by omega) s he
  ·rw[bq (show¬((2*root+2:Nat):Int)<hi by omega),e1];rw[if_neg (by grind)]at he;exact b5 (2*root+1) _ (by omega) (by omega) (ay s) he
def Q1 {Q:World->Prop}{lo hi first:Nat}(s:Sep F W w (c8 a n c d::L))(hn:n<1000000)(hh:first+hi<=n)(hlo:lo<n)(h:∀w',Sep F W w' (c8 a n c (siftDown cR hi first lo d)::L)->Q w'):
  iY a n c lo hi first iM w Q:=by
 apply BF;exact⟨hi+1,an8 hn hh h hi lo d w (by omega) hlo rfl s⟩
def aqr {Q:World->Prop}{first:Nat}(hn:n<1000000){d0:Array bj}(h:∀w',Sep F W w' (c8 a n c d0::L)->Q w'):
  ∀(k:Nat) (d1:Array bj) (w:World),first+k<=n->heapPop cR first k d1=d0->Sep F W w (c8 a n c d1::L)->fG Q (k+1) a n c iM first 0 ((k:Int)-1) w:=by
 intro k;induction k with
 |zero=>
  intro d1 w hk he s;show gP Q (fG Q 0) _ _ _ _ _ _ _ _;unfold gP;rw[heapPop]at he;grind
 |succ k ih=>
  intro d1 w hk he s;have hsz:=gm s;show gP Q (fG Q (k+1)) _ _ _ _ _ _ _ _;rw[gP,show((k+1:Nat):Int)-1=(k:Int) by omega,bM,aG,aG];rw[heapPop]at he;refine DO (p:=first) (q:=first+k) (ay s) (by omega) (by omega) (by omega) (by omega) λw s=>?_;refine Q1 (lo:=0) s hn (by omega) (by omega) λw s=>?_;grind
def alM {Q:World->Prop}{first hi:Nat}(hn:n<1000000)(hh:first+hi<=n){d0:Array bj}(h:∀w',Sep F W w' (c8 a n c d0::L)->Q w'):
  ∀(k:Nat) (d1:Array bj) (w:World),k<=hi->heapPop cR first hi (heapBuild cR hi first k d1)=d0->Sep F W w (c8 a n c d1::L)->fH Q (k+1) a n c iM first 0 hi ((k:Int)-1) w:=by
 intro k;induction k with
 |zero=>
  intro d1 w hk he s;show gQ Q (fH Q 0) _ _ _ _ _ _ _ _ _;rw[gQ,bq,aG];exact⟨hi+1,aqr hn h hi d1 w hh he s⟩
 |succ k ih=>
  intro d1 w hk he s;show gQ Q (fH Q (k+1)) _ _ _ _ _ _ _ _ _;rw[gQ,show((k+1:Nat):Int)-1=(k:Int) by omega,bM,aG];rw[heapBuild]at he;refine Q1 s hn hh (by omega) λw s=>?_;grind
def ad1 {Q:World->Prop}{lo b:Nat}(s:Sep F W w (c8 a n c d::L))(hn:n<1000000)(hlo:lo<b)(hb:b<=n)(h:∀w',Sep F W w' (c8 a n c (heapSort cR d lo b)::L)->Q w'):
  lR a n c lo b iM w Q:=by
 apply BG;refine⟨by decide,?_⟩;rw[aG,aG (n:=(b:Int)-lo-1),Int.tdiv_eq_ediv_of_nonneg (by omega),aG,
  show(b:Int)-lo=((b-lo:Nat):Int) by omega]
 have:=alM hn (by omega) h ((b-lo-1)/2+1) d w (by omega) rfl s;grind
end
end Go.Proofs.YtmegplnmiepfbaaGreatDoor.S
namespace Go.Proofs.YtmegplnmiepfbaaGreatDoor.S
open Go.Sx
open Go.Sort (swp scanUp scanDown partLoop partition partEqLoop partitionEqual)
attribute [local irreducible] af cE bw bg aA cu bY St Bx Al App cJ cB cz bW aL bD aq bT av ak aW mapA
section
variable {F:Nat->Prop}{W w w0:World}{L:List As}{a:Option Addr}{n c:Nat}{d:Array bj}
def oR {α:Type}(A B:α):(if false=true then A else B)=B:=rfl
def Wf {α:Type}(A B:α):(if true=true then A else B)=A:=rfl
def up_eq (p:bj->Bool)(d:Array bj)(j i:Nat):scanUp p d j i=if(decide (i<=j)&&p d[i]!)=true then scanUp p d j (i+1)else i:=by rw[scanUp]
def down_eq (p:bj->Bool)(d:Array bj)(i j:Nat)(hi:1<=i):scanDown p d i j=if(decide (i<=j)&&p d[j]!)=true then scanDown p d i (j-1)else j:=by
 cases j with
 |zero=>rw[scanDown,decide_eq_false (by omega),Bool.false_and,oR]
 |succ j=>rw[scanDown];rfl
def an9 {Q:Int->Bool->World->Prop}{lo:Nat}(hn:n<1000000){R:Nat×Array bj}(h:∀w',R.1<n->Sep F W w' (c8 a n c (swp R.2 R.1 lo)::L)->Q R.1 false w'):
  ∀(f i j:Nat) (d:Array bj) (w:World),j+1<=i+f->lo<i->lo<=j->j<n->i<=n->partLoop cR lo i j d=R->Sep F W w (c8 a n c d::L)->c_ Q (f+1) a n c lo iM i j w:=by
 intro f;induction f with
 |zero=>
  intro i j d w hf hlo hj0 hj hi hR s;have hsz:=gm s;rw[Go.Sort.partLoop_eq]at hR;rw[up_eq,decide_eq_false (by omega),Bool.false_and,oR,down_eq _ _ _ _ (by omega),decide_eq_false (by omega),Bool.false_and,oR,AI]at hR;subst hR;show gw Q (c_ Q 0) _ _ _ _ _ _ _ _;rw[gw,bq];refine⟨1,?_⟩;show eo _ Q (c9 _ Q 0) _ _ _ _ _ _ _ _;rw[eo,bq];rw[fe,bM];exact DO (ay (ay (ay s))) rfl (by omega) rfl (by omega) λw s=>h w hj s
 |succ f ih=>
  intro i j d w hf hlo hj0 hj hi hR s;have hsz:=gm s;show gw Q (c_ Q (f+1)) _ _ _ _ _ _ _ _;unfold gw;rw[Go.Sort.partLoop_eq]at hR;have down:∀(k j':Nat) (w:World),j'=lo+k->j'<=j->Sep F W w (c8 a n c d::L)->
    (if i>scanDown (λx=>!cR x d[lo]!) d i j' then(scanDown (λx=>!cR x d[lo]!) d i j',d)else partLoop cR lo (i+1) (scanDown (λx=>!cR x d[lo]!) d i j'-1) (swp d i (scanDown (λx=>!cR x d[lo]!) d i j')))=R->
    c9 (c_ Q (f+1)) Q (k+1) a n c lo iM i j' w:=by
   have YD:∀(j':Nat) (w:World),lo<=j'->j'<=j->Sep F W w (c8 a n c d::L)->(if i>j' then(j',d)else partLoop cR lo (i+1) (j'-1) (swp d i j'))=R->
     fe (c_ Q (f+1)) Q a n c lo iM i j' w:=λj' w h1 h2 s hR=>by
    unfold fe;by_cases hij:i>j'
    ·rw[if_pos hij]at hR;subst hR;rw[bM];exact DO (ay s) rfl (by omega) rfl (by omega) λw s=>h w (show j'<n by omega) s
    ·rw[if_neg hij]at hR;rw[bq,aG,aG];refine DO (ay s) rfl (by omega) rfl (by omega) λw s=>?_;rw[show(i:Int)+1=((i+1:Nat):Int) by omega,show(j':Int)-1=((j'-1:Nat):Int) by omega];exact ih (i+1) (j'-1) _ w (by omega) (by omega) (by omega) (by omega) (by omega) hR s
   intro k;induction k with
   |zero=>
    intro j' w hk hj' s hR;rw[down_eq _ _ _ _ (by omega),decide_eq_false (by omega),Bool.false_and,oR]at hR;show eo _ Q (c9 _ Q 0) _ _ _ _ _ _ _ _;rw[eo,bq];exact YD j' _ (by omega) hj' (ay s) hR
   |succ k ih2=>
    intro j' w hk hj' s hR;rw[down_eq _ _ _ _ (by omega)]at hR;show eo _ Q (c9 _ Q (k+1)) _ _ _ _ _ _ _ _;unfold eo;by_cases hij:i<=j'
    ·rw[bM];refine Gy (ay s) rfl (by omega) rfl (by omega) λw s=>?_;show cond (!cR d[j']! d[lo]!) _ _;rw[decide_eq_true hij,Bool.true_and]at hR;cases hc:cR d[j']! d[lo]! with
     |false=>
      rw[Bool.not_false,cond_true,aG,show(j':Int)-1=((j'-1:Nat):Int) by omega];grind
     |true=>
      grind
    ·rw[bq];rw[decide_eq_false hij,Bool.false_and,oR]at hR;exact YD j' _ (by omega) hj' (ay s) hR
  by_cases hij:i<=j
  ·rw[bM];refine Gy (ay s) rfl (by omega) rfl (by omega) λw s=>?_;show cond (cR d[i]! d[lo]!) _ _;cases hc:cR d[i]! d[lo]! with
   |true=>
    rw[cond_true,aG];rw[up_eq,hc,decide_eq_true hij,Bool.true_and,Wf,<-Go.Sort.partLoop_eq]at hR;exact ih (i+1) j d w (by omega) (by omega) hj0 hj (by omega) hR s
   |false=>
    rw[up_eq,hc,Bool.and_false,oR]at hR;exact⟨j-lo+1,down (j-lo) j w (by omega) (Nat.le_refl _) s hR⟩
  ·rw[bq];rw[up_eq,decide_eq_false hij,Bool.false_and,oR]at hR;exact⟨j-lo+1,down (j-lo) j _ (by omega) (Nat.le_refl _) (ay s) hR⟩
def abT {Q:Int->Bool->World->Prop}{lo b pv:Nat}(s:Sep F W w (c8 a n c d::L))(hn:n<1000000)(hlo:lo<=pv/\pv<b)(hb:b<=n)
  (h:∀w',Sep F W w' (c8 a n c (partition cR d lo b pv).2.2::L)->Q (partition cR d lo b pv).1 (partition cR d lo b pv).2.1 w'):
  lu a n c lo b pv iM w Q:=by
 apply A_;have hsz:=gm s;refine DO (ay s) rfl (by omega) rfl (by omega) λw s=>?_;rw[aG,aG];unfold partition at h;simp only at h;generalize swp d lo pv=d1 at h s;have hsz:=gm s;have b7:∀(i j':Nat) (w:World),lo<i->i<=b->lo<=j'->j'<b->scanUp (λx=>cR x d1[lo]!) d1 (b-1) (lo+1)=i->scanDown (λx=>!cR x d1[lo]!) d1 i (b-1)=j'->Sep F W w (c8 a n c d1::L)->
   gE Q a n c lo iM i j' w:=λi j' w h1 h1' h2 h3 hI hJ s=>by
  rw[hI,hJ]at h;unfold gE;by_cases hij:i>j'
  ·rw[bM];rw[if_pos hij]at h;exact DO (ay s) rfl (by omega) rfl (by omega) λw s=>h w s
  ·rw[bq,aG,aG];rw[if_neg hij]at h;refine DO (ay s) rfl (by omega) rfl (by omega) λw s=>?_;rw[show(i:Int)+1=((i+1:Nat):Int) by omega,show(j':Int)-1=((j'-1:Nat):Int) by omega];exact⟨j'+1,an9 hn (λw' _ s=>h w' s) j' (i+1) (j'-1) _ w (by omega) (by omega) (by omega) (by omega) (by omega) rfl s⟩
 have b5:∀(i:Nat),lo<i->i<=b->scanUp (λx=>cR x d1[lo]!) d1 (b-1) (lo+1)=i->∀(k j':Nat) (w:World),j'=lo+k->j'<b->scanDown (λx=>!cR x d1[lo]!) d1 i (b-1)=scanDown (λx=>!cR x d1[lo]!) d1 i j'->Sep F W w (c8 a n c d1::L)->
   dD Q (k+1) a n c lo iM i j' w:=λi h1 h1' hI k=>by
  induction k with
  |zero=>
   intro j' w hk hj' hJ s;rw[down_eq _ _ _ j' (by omega),decide_eq_false (by omega),Bool.false_and,oR]at hJ;show gF Q (dD Q 0) _ _ _ _ _ _ _ _;rw[gF,bq];exact b7 i j' _ h1 h1' (by omega) hj' hI hJ (ay s)
  |succ k ih2=>
   intro j' w hk hj' hJ s;rw[down_eq _ _ _ j' (by omega)]at hJ;show gF Q (dD Q (k+1)) _ _ _ _ _ _ _ _;unfold gF;by_cases hij:i<=j'
   ·rw[bM];refine Gy (ay s) rfl (by omega) rfl (by omega) λw s=>?_;show cond (!cR d1[j']! d1[lo]!) _ _;rw[decide_eq_true hij,Bool.true_and]at hJ;cases hc:cR d1[j']! d1[lo]! with
    |false=>
     rw[Bool.not_false,cond_true,aG,show(j':Int)-1=((j'-1:Nat):Int) by omega];grind
    |true=>
     grind
   ·rw[bq];rw[decide_eq_false hij,Bool.false_and,oR]at hJ;exact b7 i j' _ h1 h1' (by omega) hj' hI hJ (ay s)
 have b3:∀(k i:Nat) (w:World),i+k=b->lo<i->scanUp (λx=>cR x d1[lo]!) d1 (b-1) (lo+1)=scanUp (λx=>cR x d1[lo]!) d1 (b-1) i->Sep F W w (c8 a n c d1::L)->
   fm Q (k+1) a n c lo iM i ((b-1:Nat):Int) w:=λk=>by
  have go5:∀(i:Nat) (w:World),lo<i->i<=b->scanUp (λx=>cR x d1[lo]!) d1 (b-1) (lo+1)=i->Sep F W w (c8 a n c d1::L)->∃k',dD Q k' a n c lo iM i ((b-1:Nat):Int) w:=
   λi w h1 h2 hI s=>⟨b-1-lo+1,b5 i h1 h2 hI (b-1-lo) (b-1) w (by omega) (by omega) rfl s⟩
  induction k with
  |zero=>
   intro i w hk hi hI s;rw[up_eq _ _ _ i,decide_eq_false (by omega),Bool.false_and,oR]at hI;show gG Q (fm Q 0) _ _ _ _ _ _ _ _;rw[gG,bq];exact go5 i _ hi (by omega) hI (ay s)
  |succ k ih2=>
   intro i w hk hi hI s;rw[up_eq _ _ _ i]at hI;show gG Q (fm Q (k+1)) _ _ _ _ _ _ _ _;rw[gG,bM];refine Gy (ay s) rfl (by omega) rfl (by omega) λw s=>?_;show cond (cR d1[i]! d1[lo]!) _ _;rw[decide_eq_true (show i<=b-1 by omega),Bool.true_and]at hI;cases hc:cR d1[i]! d1[lo]! with
   |true=>
    rw[hc,Wf]at hI;rw[cond_true,aG];exact ih2 (i+1) w (by omega) (by omega) hI s
   |false=>
    grind
 have:=b3 (b-(lo+1)) (lo+1) w (by omega) (by omega) rfl s;grind
def aj3 {Q:Int->World->Prop}{lo:Nat}(hn:n<1000000){R:Nat×Array bj}(h:∀w',R.1<=n->Sep F W w' (c8 a n c R.2::L)->Q R.1 w'):
  ∀(f i j:Nat) (d:Array bj) (w:World),j+1<=i+f->lo<i->lo<=j->j<n->i<=n->partEqLoop cR lo i j d=R->Sep F W w (c8 a n c d::L)->cO Q (f+1) a n c lo iM i j w:=by
 intro f;induction f with
 |zero=>
  intro i j d w hf hlo hj0 hj hi hR s;have hsz:=gm s;rw[Go.Sort.partEqLoop_eq]at hR;rw[up_eq,decide_eq_false (by omega),Bool.false_and,oR,down_eq _ _ _ _ (by omega),decide_eq_false (by omega),Bool.false_and,oR,AI]at hR;subst hR;show fE Q (cO Q 0) _ _ _ _ _ _ _ _;rw[fE,bq];refine⟨1,?_⟩;show dy _ Q (cN _ Q 0) _ _ _ _ _ _ _ _;rw[dy,bq];rw[eF,bM];exact h _ hi (ay (ay s))
 |succ f ih=>
  intro i j d w hf hlo hj0 hj hi hR s;have hsz:=gm s;show fE Q (cO Q (f+1)) _ _ _ _ _ _ _ _;unfold fE;rw[Go.Sort.partEqLoop_eq]at hR;have down:∀(k j':Nat) (w:World),j'=lo+k->j'<=j->Sep F W w (c8 a n c d::L)->
    (if i>scanDown (λx=>cR d[lo]! x) d i j' then(i,d)else partEqLoop cR lo (i+1) (scanDown (λx=>cR d[lo]! x) d i j'-1) (swp d i (scanDown (λx=>cR d[lo]! x) d i j')))=R->
    cN (cO Q (f+1)) Q (k+1) a n c lo iM i j' w:=by
   have b7:∀(j':Nat) (w:World),lo<=j'->j'<=j->Sep F W w (c8 a n c d::L)->(if i>j' then(i,d)else partEqLoop cR lo (i+1) (j'-1) (swp d i j'))=R->
     eF (cO Q (f+1)) Q a n c lo iM i j' w:=λj' w h1 h2 s hR=>by
    unfold eF;by_cases hij:i>j'
    ·grind
    ·rw[if_neg hij]at hR;rw[bq,aG,aG];refine DO (ay s) rfl (by omega) rfl (by omega) λw s=>?_;rw[show(i:Int)+1=((i+1:Nat):Int) by omega,show(j':Int)-1=((j'-1:Nat):Int) by omega];exact ih (i+1) (j'-1) _ w (by omega) (by omega) (by omega) (by omega) (by omega) hR s
   intro k;induction k with
   |zero=>
    intro j' w hk hj' s hR;rw[down_eq _ _ _ _ (by omega),decide_eq_false (by omega),Bool.false_and,oR]at hR;show dy _ Q (cN _ Q 0) _ _ _ _ _ _ _ _;rw[dy,bq];exact b7 j' _ (by omega) hj' (ay s) hR
   |succ k ih2=>
    intro j' w hk hj' s hR;rw[down_eq _ _ _ _ (by omega)]at hR;show dy _ Q (cN _ Q (k+1)) _ _ _ _ _ _ _ _;unfold dy;by_cases hij:i<=j'
    ·rw[bM];refine Gy (ay s) rfl (by omega) rfl (by omega) λw s=>?_;show cond (cR d[lo]! d[j']!) _ _;rw[decide_eq_true hij,Bool.true_and]at hR;cases hc:cR d[lo]! d[j']! with
     |true=>
      rw[cond_true,aG,show(j':Int)-1=((j'-1:Nat):Int) by omega];grind
     |false=>
      grind
    ·rw[bq];rw[decide_eq_false hij,Bool.false_and,oR]at hR;exact b7 j' _ (by omega) hj' (ay s) hR
  by_cases hij:i<=j
  ·rw[bM];refine Gy (ay s) rfl (by omega) rfl (by omega) λw s=>?_;show cond (!cR d[lo]! d[i]!) _ _;cases hc:cR d[lo]! d[i]! with
   |false=>
    rw[Bool.not_false,cond_true,aG];rw[up_eq,hc,decide_eq_true hij,Bool.true_and,Bool.not_false,Wf,<-Go.Sort.partEqLoop_eq]at hR;exact ih (i+1) j d w (by omega) (by omega) hj0 hj (by omega) hR s
   |true=>
    rw[up_eq,hc,Bool.not_true,Bool.and_false,oR]at hR;exact⟨j-lo+1,down (j-lo) j w (by omega) (Nat.le_refl _) s hR⟩
  ·rw[bq];rw[up_eq,decide_eq_false hij,Bool.false_and,oR]at hR;exact⟨j-lo+1,down (j-lo) j _ (by omega) (Nat.le_refl _) (ay s) hR⟩
def SP {Q:Int->World->Prop}{lo b pv:Nat}(s:Sep F W w (c8 a n c d::L))(hn:n<1000000)(hlo:lo<=pv/\pv<b)(hb:b<=n)
  (h:∀w',Sep F W w' (c8 a n c (partitionEqual cR d lo b pv).2::L)->Q (partitionEqual cR d lo b pv).1 w'):
  jD a n c lo b pv iM w Q:=by
 apply ym;have hsz:=gm s;refine DO (ay s) rfl (by omega) rfl (by omega) λw s=>?_;rw[aG,aG,show(b:Int)-1=((b-1:Nat):Int) by omega];exact⟨b+1,aj3 hn (λw' _ s=>h w' s) b (lo+1) (b-1) _ w (by omega) (by omega) (by omega) (by omega) (by omega) rfl s⟩
end
end Go.Proofs.YtmegplnmiepfbaaGreatDoor.S
namespace Go.Proofs.YtmegplnmiepfbaaGreatDoor.S
open Go.Sx
open Go.Sort (swp scanSorted shiftDown shiftUp partialIns partialInsertionSort PermIn)
attribute [local irreducible] af cE bw bg aA cu bY St Bx Al App cJ cB cz bW aL bD aq bT av ak aW mapA
section
variable {F:Nat->Prop}{W w w0:World}{L:List As}{a:Option Addr}{n c:Nat}{d:Array bj}
def aqs {Q:Bool->World->Prop}{lo b:Nat}(hn:n<1000000)(hb:b<=n)(hlo:lo<b){R:Array bj×Bool}(h:∀w',Sep F W w' (c8 a n c R.1::L)->Q R.2 w'):
  ∀(f i:Nat) (d:Array bj) (w:World),f<=5->lo<i->i<=b->partialIns cR lo b f i d=R->Sep F W w (c8 a n c d::L)->bu Q (f+1) a n c lo b iM i (5-f:Int) w:=by
 intro f;induction f with
 |zero=>
  intro i d w hf hi hib hR s;rw[partialIns]at hR;subst hR;show eL Q (bu Q 0) _ _ _ _ _ _ _ _ _;unfold eL;grind
 |succ f ih=>
  intro i d w hf hi hib hR s;show eL Q (bu Q (f+1)) _ _ _ _ _ _ _ _ _;rw[eL,bM];have next:∀(i:Nat) (d:Array bj) (w:World),lo<i->i<=b->partialIns cR lo b f i d=R->Sep F W w (c8 a n c d::L)->bu Q (f+1) a n c lo b iM i (IntKind.wrap .i64 ((5-(f+1:Nat):Int)+1)) w:=λi d w h1 h2 h3 s=>by rw[aG,show(5-(f+1:Nat):Int)+1=5-f by omega];grind
  have up:∀(i:Nat) (d':Array bj),lo<i->i<=b->partialIns cR lo b f i d'=R->∀(k j:Nat) (d:Array bj) (w:World),j+k=b->lo<j->shiftUp cR b j d=d'->Sep F W w (c8 a n c d::L)->
    cY (bu Q (f+1)) Q (k+1) a n c lo b iM i (5-(f+1:Nat):Int) j w:=by
   intro i d' h1 h2 h3 k;induction k with
   |zero=>
    intro j d w hj hj0 hS s;rw[shiftUp,fR]at hS;subst hS;show eB _ Q (cY _ Q 0) _ _ _ _ _ _ _ _ _ _;unfold eB;grind
   |succ k ih2=>
    intro j d w hj hj0 hS s;have hsz:=gm s;rw[shiftUp,AI]at hS;show eB _ Q (cY _ Q (k+1)) _ _ _ _ _ _ _ _ _ _;rw[eB,bM,aG];refine Gy (q:=j-1) (ay s) rfl (by omega) (by omega) (by omega) λw s=>?_;show cond (!cR d[j]! d[j-1]!) _ _;cases hc:cR d[j]! d[j-1]! with
    |false=>
     grind
    |true=>
     rw[hc,Bool.not_true,oR]at hS;rw[Bool.not_true,cond_false,aG];refine DO (q:=j-1) (ay s) rfl (by omega) (by omega) (by omega) λw s=>?_;exact ih2 (j+1) _ w (by omega) (by omega) hS s
  have b18:∀(i:Nat) (d:Array bj) (w:World),lo<i->i<b->partialIns cR lo b f i (if b-i≥2 then shiftUp cR b (i+1) d else d)=R->Sep F W w (c8 a n c d::L)->
    cZ (bu Q (f+1)) Q a n c lo b iM i (5-(f+1:Nat):Int) w:=λi d w h1 h2 h3 s=>by
   rw[cZ,aG];by_cases h4:b-i≥2
   ·rw[if_pos h4]at h3;rw[bM,aG];exact⟨_,up i _ h1 (by omega) h3 (b-(i+1)) (i+1) d w (by omega) (by omega) rfl s⟩
   ·rw[if_neg h4]at h3;rw[bq];exact next i d _ h1 (by omega) h3 s
  have down:∀(i:Nat) (d':Array bj),lo<i->i<b->partialIns cR lo b f i (if b-i≥2 then shiftUp cR b (i+1) d' else d')=R->∀(j:Nat) (d:Array bj) (w:World),j<b->shiftDown cR j d=d'->Sep F W w (c8 a n c d::L)->
    c7 (bu Q (f+1)) Q (j+1) a n c lo b iM i (5-(f+1:Nat):Int) j w:=by
   intro i d' h1 h2 h3 j;induction j with
   |zero=>
    intro d w hj hS s;subst hS;show eC _ Q (c7 _ Q 0) _ _ _ _ _ _ _ _ _ _;unfold eC;exact b18 i d _ h1 h2 h3 s
   |succ j ih2=>
    intro d w hj hS s;have hsz:=gm s;rw[shiftDown]at hS;show eC _ Q (c7 _ Q (j+1)) _ _ _ _ _ _ _ _ _ _;rw[eC,bM,aG];refine Gy (q:=j) (ay s) rfl (by omega) (by omega) (by omega) λw s=>?_;show cond (!cR d[j+1]! d[j]!) _ _;cases hc:cR d[j+1]! d[j]! with
    |false=>
     rw[hc,Bool.not_false,Wf]at hS;subst hS;exact b18 i d w h1 h2 h3 s
    |true=>
     rw[hc,Bool.not_true,oR]at hS;rw[Bool.not_true,cond_false,show((j+1:Nat):Int)-1=(j:Int) by omega];refine DO (q:=j) (ay s) rfl (by omega) (by omega) (by omega) λw s=>?_;exact ih2 _ w (by omega) hS s
  have scan:∀(k i:Nat) (w:World),i+k=b->lo<i->Sep F W w (c8 a n c d::L)->(if scanSorted cR d b i=b then(d,true)else if b-lo<50 then(d,false)else
     partialIns cR lo b f (scanSorted cR d b i) (if b-scanSorted cR d b i≥2 then shiftUp cR b (scanSorted cR d b i+1) (if scanSorted cR d b i-lo≥2 then shiftDown cR (scanSorted cR d b i-1) (swp d (scanSorted cR d b i) (scanSorted cR d b i-1))else swp d (scanSorted cR d b i) (scanSorted cR d b i-1))
      else(if scanSorted cR d b i-lo≥2 then shiftDown cR (scanSorted cR d b i-1) (swp d (scanSorted cR d b i) (scanSorted cR d b i-1))else swp d (scanSorted cR d b i) (scanSorted cR d b i-1))))=R->
    dh (bu Q (f+1)) Q (k+1) a n c lo b iM i (5-(f+1:Nat):Int) w:=by
   have b7:∀(i:Nat) (w:World),lo<i->i<=b->Sep F W w (c8 a n c d::L)->(if i=b then(d,true)else if b-lo<50 then(d,false)else
     partialIns cR lo b f i (if b-i≥2 then shiftUp cR b (i+1) (if i-lo≥2 then shiftDown cR (i-1) (swp d i (i-1))else swp d i (i-1))else(if i-lo≥2 then shiftDown cR (i-1) (swp d i (i-1))else swp d i (i-1))))=R->
     eJ (bu Q (f+1)) Q a n c lo b iM i (5-(f+1:Nat):Int) w:=λi w h1 h2 s hR=>by
    have hsz:=gm s;unfold eJ;by_cases h3:i=b
    ·rw[if_pos h3]at hR;subst hR;rw[dN (by omega),cond_true];exact h _ s
    ·rw[if_neg h3]at hR;rw[cy (by omega),cond_false,aG];by_cases h4:b-lo<50
     ·rw[if_pos h4]at hR;subst hR;rw[bM];exact h _ s
     ·rw[if_neg h4]at hR;rw[bq,aG,aG];refine DO (q:=i-1) (ay s) rfl (by omega) (by omega) (by omega) λw s=>?_;by_cases h5:i-lo≥2
      ·rw[if_pos h5]at hR;rw[bM,show(i:Int)-1=((i-1:Nat):Int) by omega];exact⟨_,down i _ h1 (by omega) hR (i-1) _ w (by omega) rfl s⟩
      ·rw[if_neg h5]at hR;rw[bq];exact b18 i _ w h1 (by omega) hR s
   intro k;induction k with
   |zero=>
    intro i w hk hi s hR;rw[scanSorted,decide_eq_false (by omega),Bool.false_and,oR]at hR;show eK _ Q (dh _ Q 0) _ _ _ _ _ _ _ _ _;rw[eK,bq];exact b7 i _ hi (by omega) (ay s) hR
   |succ k ih2=>
    intro i w hk hi s hR;have hsz:=gm s;rw[scanSorted,decide_eq_true (by omega),Bool.true_and]at hR;show eK _ Q (dh _ Q (k+1)) _ _ _ _ _ _ _ _ _;rw[eK,bM,aG];refine Gy (q:=i-1) (ay s) rfl (by omega) (by omega) (by omega) λw s=>?_;show cond (!cR d[i]! d[i-1]!) _ _;cases hc:cR d[i]! d[i-1]! with
    |false=>
     rw[hc,Bool.not_false,Wf]at hR;rw[Bool.not_false,cond_true,aG];exact ih2 (i+1) w (by omega) (by omega) s hR
    |true=>
     rw[hc,Bool.not_true,oR]at hR;exact b7 i w hi (by omega) s hR
  exact⟨_,scan (b-i) i w (by omega) hi s hR⟩
def Z5 {Q:Bool->World->Prop}{lo b:Nat}(s:Sep F W w (c8 a n c d::L))(hn:n<1000000)(hlo:lo<b)(hb:b<=n)(h:∀w',Sep F W w' (c8 a n c (partialInsertionSort cR d lo b).1::L)->Q (partialInsertionSort cR d lo b).2 w'):
  iB a n c lo b iM w Q:=by
 apply uQ;rw[aG];exact⟨_,aqs hn hb hlo h 5 (lo+1) d w (by decide) (by omega) (by omega) rfl s⟩
def akK {lo b i j:Nat}{d d':Array bj}(h:PermIn lo b d d')(hb:b<=d'.size)(hi:lo<=i/\i<b)(hj:lo<=j/\j<b):PermIn lo b d (swp d' i j):=
 Go.Sort.permIn_trans _ _ _ _ _ h (Go.Sort.swp_permIn _ _ _ _ _ hi.1 hi.2 hj.1 hj.2 hb)
def agG {Q:World->Prop}{lo b:Nat}(s:Sep F W w (c8 a n c d::L))(hn:n<1000000)(hlo:lo<b)(hb:b<=n)(h:∀d' w',PermIn lo b d d'->Sep F W w' (c8 a n c d'::L)->Q w'):
  j7 a n c lo b iM w Q:=by
 apply zN;rw[aG];have loop:∀(k i j:Nat) (d':Array bj) (w:World),j<=i+k->lo<=i->j<b->i<=b->PermIn lo b d d'->Sep F W w (c8 a n c d'::L)->eX Q (k+1) a n c i j w:=by
  intro k;induction k with
  |zero=>
   intro i j d' w hk hi hj hib hp s;show fU Q (eX Q 0) _ _ _ _ _ _;unfold fU;grind
  |succ k ih=>
   intro i j d' w hk hi hj hib hp s;have hsz:=gm s;show fU Q (eX Q (k+1)) _ _ _ _ _ _;unfold fU;by_cases hij:i<j
   ·rw[bM,aG,aG];refine DO (ay s) rfl (by omega) rfl (by omega) λw s=>?_;rw[show(j:Int)-1=((j-1:Nat):Int) by omega];exact ih (i+1) (j-1) _ w (by omega) (by omega) (by omega) (by omega) (akK hp (by omega) (by omega) (by omega)) s
   grind
 have:=loop b lo (b-1) d w (by omega) (Nat.le_refl _) (by omega) (by omega) (Go.Sort.permIn_refl _ _ _) s;grind
def LS {Q:Int->Int->World->Prop}{i j sp:Nat}{k:Int}{t:TypeId}(s:Sep F W w (c8 a n c d::av sp t [ae k]::L))(hi:i<n)(hj:j<n)
  (h:∀(x y:Nat) k' w',(x=i/\y=j\/x=j/\y=i)->Sep F W w' (c8 a n c d::av sp t [ae k']::L)->Q x y w'):gN a n c i j (sZ sp) iM w Q:=by
 apply CW;have hsz:=gm s;refine Gy (ay s) rfl (by omega) rfl (by omega) λw s=>?_;cases hc:decide (aii d[j]! d[i]! <0)with
 |true=>
  rw[cond_true];refine ah (lI s 1 rfl (ah ?_));refine sT s 1 rfl λw s=>?_;grind
 |false=>
  grind
def Wg {Q:Int->World->Prop}{i j l sp:Nat}{k:Int}{t:TypeId}(s:Sep F W w (c8 a n c d::av sp t [ae k]::L))(hi:i<n)(hj:j<n)(hl:l<n)
  (h:∀(x:Nat) k' w',(x=i\/x=j\/x=l)->Sep F W w' (c8 a n c d::av sp t [ae k']::L)->Q x w'):jw a n c i j l (sZ sp) iM w Q:=by
 apply CX;refine LS s hi hj λx y k w e s=>?_;refine LS s (show y<n by omega) hl λx' y' k w e' s=>?_;refine LS s (show x<n by omega) (show x'<n by omega) λx2 y2 k w e2 s=>?_;grind
def Gz {Q:Int->World->Prop}{i sp:Nat}{k:Int}{t:TypeId}(s:Sep F W w (c8 a n c d::av sp t [ae k]::L))(hn:n<1000000)(hi:1<=i/\i+1<n)
  (h:∀(x:Nat) k' w',(i<=x+1/\x<=i+1)->Sep F W w' (c8 a n c d::av sp t [ae k']::L)->Q x w'):fg a n c i (sZ sp) iM w Q:=by
 apply yl;rw[aG,aG,show(i:Int)-1=((i-1:Nat):Int) by omega,show(i:Int)+1=((i+1:Nat):Int) by omega];exact Wg s (by omega) (by omega) (by omega) λx k w e s=>h x k w (by omega) s
def Yf {Q:Int->Int->World->Prop}{lo b:Nat}(s:Sep F W w (c8 a n c d::L))(hn:n<1000000)(hlo:lo<b)(hb:b<=n)
  (h:∀(x:Nat) (hint:Int) w',lo<=x/\x<b->Sep F W w' (c8 a n c d::L)->Q x hint w'):kH a n c lo b iM w Q:=by
 apply Am;refine aS s λsp w s=>⟨by decide,by decide,by decide,?_⟩;have s:=iZ s;have b12:∀(x:Nat) (k:Int) (w:World),lo<=x/\x<b->Sep F W w (c8 a n c d::av sp 3 [ae k]::L)->iD Q (aZ sp) x w:=λx k w hx s=>by apply lI s 1 rfl;have s':Sep F W w (c8 a n c d::L):=gC s (List.Sublist.cons_cons _ (List.sublist_cons_self _ _));grind
 have b11:∀(i j l:Nat) (k:Int) (w:World),lo<=i/\i<b->lo<=j/\j<b->lo<=l/\l<b->Sep F W w (c8 a n c d::av sp 3 [ae k]::L)->iE Q a n c iM (aZ sp) i j l w:=λi j l k w hi hj hl s=>by exact Wg s (by omega) (by omega) (by omega) λx k w e s=>b12 x k w (by omega) s
 rw[aG,Int.tdiv_eq_ediv_of_nonneg (by omega),aG (n:=((b:Int)-lo)/4),
  aG (n:=((b:Int)-lo)/4*1),aG (n:=((b:Int)-lo)/4*2),aG (n:=((b:Int)-lo)/4*3),
  aG,aG,aG]
 have e1:(lo:Int)+((b:Int)-lo)/4*1=((lo+(b-lo)/4*1:Nat):Int):=by omega
 have e2:(lo:Int)+((b:Int)-lo)/4*2=((lo+(b-lo)/4*2:Nat):Int):=by omega
 have e3:(lo:Int)+((b:Int)-lo)/4*3=((lo+(b-lo)/4*3:Nat):Int):=by omega
 rw[e1,e2,e3];by_cases h8:b-lo≥8
 ·rw[bM (show(b:Int)-lo≥8 by omega)];by_cases h50:b-lo≥50
  ·rw[bM (show(b:Int)-lo≥50 by omega)];refine Gz s hn (by omega) λx k w e s=>?_;refine Gz s hn (by omega) λy k w e' s=>?_;refine Gz s hn (by omega) λz k w e2 s=>?_;grind
  ·rw[bq (show¬(b:Int)-lo≥50 by omega)];exact b11 _ _ _ _ w (by omega) (by omega) (by omega) s
 ·rw[bq (show¬(b:Int)-lo≥8 by omega)];exact b12 _ _ w (by omega) s
end
end Go.Proofs.YtmegplnmiepfbaaGreatDoor.S
namespace Go.Proofs.YtmegplnmiepfbaaGreatDoor.S
open Go.Sx
open Go.Sort (swp PermIn SortedIn Below)
attribute [local irreducible] af cE bw bg aA cu bY St Bx Al App cJ cB cz bW aL bD aq bT av ak aW mapA
section
variable {F:Nat->Prop}{W w w0:World}{L:List As}{a:Option Addr}{n c:Nat}{d:Array bj}
def alO (T:ByteArray):Bool:=(List.range 256).all λx=>decide (0<=sb T x/\sb T x<=8/\(x:Int)<2^(sb T x).toNat/\(1<=x->(2:Int)^(sb T x).toNat<=2*x))
def ax6:∃T:ByteArray,T.size=256/\alO T=true/\∀Q x k w,uw Q x k w=(aJ (IntKind.wrap .u8 x) T.size<|Q (IntKind.wrap .i64 (k+IntKind.wrap .i64 (sb T (IntKind.wrap .u8 x).toNat))) w):=by
 refine⟨_,?_,?_,λ_ _ _ _=>rfl⟩
 ·kernel_rfl
 ·kernel_rfl
def akL {T:ByteArray}(h2:alO T=true){x:Nat}(hx:x<256):0<=sb T x/\sb T x<=8/\(x:Int)<2^(sb T x).toNat/\(1<=x->(2:Int)^(sb T x).toNat<=2*x):=by unfold alO at h2;grind
def Q2 {x:Nat}{Q:Int->World->Prop}(hx:x<65536)(h:∀v:Nat,v<=16->(x:Int)<2^v->(8<=x->(2:Int)^v<=2*x)->Q v w):vJ x w Q:=by
 apply Us;apply Qg;unfold vO vN;rw[bq,bq];obtain⟨T,h1,h2,h3⟩:=ax6;by_cases hs:x<256
 ·rw[bq,h3,h1,wrap_u8' x,Int.emod_eq_of_lt (by omega) (by omega)];refine⟨by omega,by omega,?_⟩;obtain⟨a1,a2,a3,a4⟩:=akL h2 hs;rw[Int.toNat_natCast,aG (n:=sb T x),aG,Int.zero_add];grind
 ·rw[bM];refine⟨by decide,?_⟩;have e:o7 .u64 (x:Int) 8=((x/256:Nat):Int):=by rw[o7,show(2:Int)^(min (8:Int).toNat (IntKind.u64).bits)=256 from rfl,Int.fdiv_eq_ediv_of_nonneg _ (by decide)];omega
  rw[e,wrap_i64 (by decide) (by decide),h3,h1,wrap_u8' ((x/256:Nat):Int),Int.emod_eq_of_lt (by omega) (by omega)];refine⟨by omega,by omega,?_⟩;obtain⟨a1,a2,a3,a4⟩:=akL h2 (x:=x/256) (by omega);rw[Int.toNat_natCast,aG (n:=sb T (x/256)),aG];have e2:(2:Int)^(8+(sb T (x/256)).toNat)=256*2^(sb T (x/256)).toNat:=by grind
  grind
def auH {x m:Int}(hm:0<=m/\m<1000000):0<=BK .u64 x m/\BK .u64 x m<=m:=by
 unfold BK;have h1:(BitVec.ofInt 64 x&&&BitVec.ofInt 64 m).toNat<=m.toNat:=by apply Nat.le_trans Nat.and_le_right;grind
 have h1:(BitVec.ofInt (IntKind.u64).bits x&&&BitVec.ofInt (IntKind.u64).bits m).toNat<=m.toNat:=h1;rw[ko (by omega)];omega
def ad2 {Q:Int->World->Prop}{sp:Nat}{k:Int}{t:TypeId}(s:Sep F W w (c8 a n c d::av sp t [.int .u64 k]::L))
  (h:∀r k' w',Sep F W w' (c8 a n c d::av sp t [.int .u64 k']::L)->Q r w'):sV (sZ sp) w Q:=by
 apply JF;refine ah (lI s 1 rfl (ah (lI s 1 rfl ⟨by decide,ah ?_⟩)));refine sT s 1 rfl λw s=>?_;refine ah (lI s 1 rfl (ah (lI s 1 rfl ⟨by decide,ah ?_⟩)));refine sT s 1 rfl λw s=>?_;refine ah (lI s 1 rfl (ah (lI s 1 rfl ⟨by decide,ah ?_⟩)));refine sT s 1 rfl λw s=>?_;refine ah (lI s 1 rfl ?_);grind
def aiw {Q:World->Prop}{lo b:Nat}(s:Sep F W w (c8 a n c d::L))(hn:n<2000)(hlo:lo<b)(hb:b<=n)(h:∀d' w',PermIn lo b d d'->Sep F W w' (c8 a n c d'::L)->Q w'):
  jL a n c lo b iM w Q:=by
 apply zl;rw[aG];by_cases h8:b-lo≥8
 ·rw[bM (show(b:Int)-lo≥8 by omega)];refine aS s λsp w s=>?_;refine ax s (i:=0) rfl rfl rfl λw s=>?_;have s:=iZ s;apply I0;rw[ko (by omega),show(b:Int)-lo=((b-lo:Nat):Int) by omega];refine Q2 (by omega) λv hv h1 h2=>⟨by omega,by decide,?_⟩;have h2:=h2 h8;have hsh:BL .u64 1 (v:Int)=(2:Int)^v:=by rw[BL,Int.toNat_natCast,Int.one_mul,show min v (IntKind.u64).bits=v by simp[IntKind.bits];omega];exact ko (by omega)
  rw[hsh];generalize (2:Int)^v=M at h1 h2;rw[Int.tdiv_eq_ediv_of_nonneg (by omega),aG (n:=((b-lo:Nat):Int)/4),aG (n:=((b-lo:Nat):Int)/4*2),aG (n:=(lo:Int)+((b-lo:Nat):Int)/4*2),
   aG]
  have loop:∀(k idx:Nat) (d':Array bj) (r:Int) (t:TypeId) (w:World),idx+k=lo+(b-lo)/4*2+2->lo<=idx->PermIn lo b d d'->Sep F W w (c8 a n c d'::av sp t [.int .u64 r]::L)->
    dH Q (k+1) a n c lo ((b-lo:Nat):Int) (aZ sp) M idx w:=by
   intro k;induction k with
   |zero=>
    intro idx d' r t w hk hi hp s;show kI Q (dH Q 0) _ _ _ _ _ _ _ _ _;refine⟨by decide,?_⟩;rw[Int.tdiv_eq_ediv_of_nonneg (by omega),aG (n:=((b-lo:Nat):Int)/4),aG (n:=((b-lo:Nat):Int)/4*2),aG (n:=(lo:Int)+((b-lo:Nat):Int)/4*2),
     aG,bq]
    exact h d' w hp (gC s (List.Sublist.cons_cons _ (List.sublist_cons_self _ _)))
   |succ k ih=>
    intro idx d' r t w hk hi hp s;show kI Q (dH Q (k+1)) _ _ _ _ _ _ _ _ _;refine⟨by decide,?_⟩;rw[Int.tdiv_eq_ediv_of_nonneg (by omega),aG (n:=((b-lo:Nat):Int)/4),aG (n:=((b-lo:Nat):Int)/4*2),aG (n:=(lo:Int)+((b-lo:Nat):Int)/4*2),
     aG,bM]
    refine ad2 s λrr r w s=>?_;have hsz:=gm s;have b10:∀(o:Nat) (w:World),o<b-lo->Sep F W w (c8 a n c d'::av sp t [.int .u64 r]::L)->fB (dH Q (k+1)) Q a n c lo ((b-lo:Nat):Int) (aZ sp) M idx o w:=λo w ho s=>by rw[fB,aG,aG];refine DO (q:=lo+o) (ay s) rfl (by omega) (by omega) (by omega) λw s=>?_;exact ih (idx+1) _ r t w (by omega) (by omega) (akK hp (by omega) (by omega) (by omega)) s
    rw[ko (by omega)];have ha:=auH (x:=rr) (m:=M-1) (by omega);generalize BK .u64 rr (M-1)=q at ha;rw[aG];by_cases hq:q≥((b-lo:Nat):Int)
    ·rw[bM hq,aG];have:=b10 (q-((b-lo:Nat):Int)).toNat w (by omega) s;grind
    ·have:=b10 q.toNat w (by omega) s;grind
  have:=loop 3 (lo+(b-lo)/4*2-1) d _ _ w (by omega) (by omega) (Go.Sort.permIn_refl _ _ _) s;grind
 ·rw[bq (show¬(b:Int)-lo≥8 by omega)];exact h d w (Go.Sort.permIn_refl _ _ _) s
end
end Go.Proofs.YtmegplnmiepfbaaGreatDoor.S
namespace Go.Proofs.YtmegplnmiepfbaaGreatDoor.S
open Go.Sx
def auI (P:Program)(t:TypeId)(xs ys:Array Value):Option Bool:=match P.underlying t with
 |some (.struct fs)=>ahu P xs ys fs.toList
 |_=>none
def aoc {P:Program}{t:TypeId}{xs ys:Array Value}{x y:Operand}{r:Bool}{w:World}{K:Bool->World->Prop}(hp:P.stoodInHeld t=false)(hg:P.eqGuardType P.depth t=false)(hr:auI P t xs ys=some r)(h:K r w):bW P .eql t x y (.agg xs) (.agg ys) w K:=by
 unfold auI at hr;split at hr
 ·rename_i fs hu;exact aug hu hp hg hr h
 ·cases hr
def eq3 {a b c a' b' c':Int}:(a==a'&&(b==b'&&(c==c'&&true)))=decide (a=a'/\b=b'/\c=c'):=by grind
def as9 {a b:bj}:(a.c=b.c/\a.s=b.s/\a.k=b.k)↔a=b:=by obtain⟨a1,a2,a3⟩:=a;obtain⟨b1,b2,b3⟩:=b;simp
attribute [local irreducible] bW
def aod {w:World}{x y:Operand}{a b:bj}{K:Bool->World->Prop}(h:K (decide (a=b)) w):bW P .eql 294 x y (.agg #[ae a.c,ae a.s,ae a.k]) (.agg #[ae b.c,ae b.s,ae b.k]) w K:=by apply aoc (r:=a.c==b.c&&(a.s==b.s&&(a.k==b.k&&true))) (by kernel_rfl) (by kernel_rfl) (by kernel_rfl);rw[eq3];simp[as9];exact h
def auJ {w:World}{x y:Operand}{a b:bj}{K:Bool->World->Prop}(h:K (!decide (a=b)) w):bW P .neq 294 x y (.agg #[ae a.c,ae a.s,ae a.k]) (.agg #[ae b.c,ae b.s,ae b.k]) w K:=
 aku (by kernel_rfl) (aod h)
end Go.Proofs.YtmegplnmiepfbaaGreatDoor.S
