/- Part 3 of the proof. -/
import Derived.Test.YtmegplnmiepfbaaGreatDoorI1
import Derived.Sort.LotA
import Derived.Sort.LotB
import Derived.Sort.LotC
import Derived.Sort.LotD3
set_option linter.unusedVariables false
set_option linter.unusedSimpArgs false
set_option linter.defProp false
set_option maxRecDepth 100000
namespace Go.Proofs.YtmegplnmiepfbaaGreatDoor.S
open Go.Sx
noncomputable def X7:cA:=[(6,sp 0 10 (.op 10 (.op 11 (.op 12 .done))))]
def VT:=λa b c w Q=>bB (B5 a b c w Q) (xj a w λd e w=>ee d e c w λf w=>vT a b f w λg i j l m n o w=>Al T 213 w λp w=>St (p.add 0) (.slice g i j) w λw=>St (p.add 1) (.slice l m n) w λw=>BP o λq=>cond (!q) (dV o λr=>Q 0 0 r w) (nC d e c w λs w=>aA p w.drew λt u v=>aH s u<|wA t λx=>af .i64 (x.add (s.toNat*1)) w.drew λy=>aA (p.add 1) w.drew λz a1 b1=>aH s a1<|wA z λc1=>af .i64 (c1.add (s.toNat*1)) w.drew λd1=>w.drew.cell? (c1.add (s.toNat*1))=some (ae d1)/\w.drew.cell? (p.add 1)=some (.slice z a1 b1)/\Q y d1 (.nilIface) w.drew)) (ok 45) X7 [] Tryz.func129
def Qu:=λa w Q=>bB (y8 a w Q) (BP a λb=>cond b (Q 0 w) (bZ (aZ 2) w λc=>pF a c w λd w=>cond d (Q 4 w) (bZ (aZ 3) w λe=>pF a e w λf w=>cond f (Q 7 w) (Q 1 w)))) (ok 14) [] [] Tryz.func130
def VU:=λa b c w Q=>bB (B4 a b c w Q) (B5 a b c w λd e f w=>y8 f w λg w=>Q d e g w) (ok 22) [] [] Tryz.func92
def MP:=λa b c d w Q=>bB (wF a b c d w Q) (wA a λe=>bg (e.add 1) w λf=>B4 f c d w λg i j w=>cond (j==0) (wA b λl=>St (l.add 1) (ae g) w λw=>wA b λm=>St (m.add 2) (ae i) w λw=>gx j w λn w=>dV n λo=>Q o w) (gx j w λp w=>dV p λq=>Q q w)) (ok 35) [] [] Tryz.func57
def qW (Q:L3 WP)(R5:OA->L3 (L3 (Int->Int->WP)))(a b:OA)(c d:Nat)(e:OA)(f g:Nat)(i j:Int)(w:World):Prop:=cond (decide (j<i)) (aH j f<|wA e λl=>af .i64 (l.add (j.toNat*1)) w λm=>wA a λn=>cw (n.add 2) w λo=>aM P (Instr.lookup 169 (.map o) (ae m) false) w λp w=>dL p λq=>dH q λr s=>dI .i64 r λt=>dH s λu v=>dI .i64 u λx=>dH v λy z=>dI .i64 y λa1=>kT z<|Bx [ae t,ae x,ae a1] 43 w λb1 w=>App P #[39,39] 39 (.slice b c d) (.slice (some b1) 1 1) w λc1 d1 e1 w=>R5 a c1 d1 e1 e f g i (IntKind.wrap .i64 (j+1)) w) (Q b c d w)
def v9 (Q:L3 WP):Nat->OA->L3 (L3 (Int->Int->WP))
 |0,_,_,_,_,_,_,_,_,_,_=>False
 |k+1,a,b,c,d,e,f,g,i,j,w=>qW Q (v9 Q k) a b c d e f g i j w
def UH (Q):∀k,Bk 26 Tryz.f64 (Hl Q) 5 [(0,.p),(3,.l),(9,.l),(10,.i .i64),(11,.i .i64)] (v9 Q k):=bI λk h=>aU (ok 26) [] [aL h]
def Qv:=λa w Q=>bB (yW a w Q) (cond a.isNone (Q none 0 0 w) (qB a w λb c d w=>∃k',v9 Q k' a none 0 0 b c d (c:Int) 0 w)) (ok 26) [] [bY (UH Q)] Tryz.func64
def MQ:=λa w Q=>bB (m6 a w Q) (cond a.isNone (Q none 0 0 w) (wA a λb=>bg (b.add 3) w λc=>yW c w λd e f w=>Q d e f w)) (ok 10) [] [] Tryz.func33
def Co (Q:Bool->WP)(R6:Int->Int->Int->ON->L3 (Int->Int->WP))(a b c:Int)(d:ON)(e:OA)(f g:Nat)(i j:Int)(w:World):Prop:=cond (decide (j<i)) (aH j f<|wA e λl=>af .i64 ((l.add (j.toNat*3)).add 0) w λm=>af .i64 ((l.add (j.toNat*3)).add 1) w λn=>af .i64 ((l.add (j.toNat*3)).add 2) w λo=>Al T 43 w λp w=>St (p.add 0) (ae m) w λw=>St (p.add 1) (ae n) w λw=>St (p.add 2) (ae o) w λw=>af .i64 p w λq=>cond (decide (q<=c)) (Q false w) (af .i64 (p.add 1) w λr=>ee a b r w λs w=>cond (decide (s<0)) (Q false w) (af .i64 (p.add 2) w λt=>ee a b t w λu w=>cond (decide (u<0)) (Q false w) (af .i64 (p.add 1) w λv=>aM P (Instr.lookup 258 (.map d) (ae v) false) w λx w=>dB x λy=>cond y (Q false w) (af .i64 (p.add 1) w.drew λz=>af .i64 p w.drew λa1=>w.drew.cell? (p.add 1)=some (ae z)/\bF P (Instr.mapUpdate 258 (.map d) (ae z) (.bool true)) w.drew λw=>R6 a b a1 d e f g i (IntKind.wrap .i64 (j+1)) w))))) (Q true w)
def Gu (Q:Bool->WP):Nat->Int->Int->Int->ON->L3 (Int->Int->WP)
 |0,_,_,_,_,_,_,_,_,_,_=>False
 |k+1,a,b,c,d,e,f,g,i,j,w=>Co Q (Gu Q k) a b c d e f g i j w
noncomputable def Tv:cA:=[(10,sp 0 5 (.op 5 (.op 6 .done)))]
def ahZ (Q):∀k,Bk 56 Tryz.f151 (Vj Q) 6 [(0,.i .i64),(1,.i .i64),(7,.i .i64),(8,.m),(18,.l),(19,.i .i64),(20,.i .i64)] (Gu Q k):=bI λk h=>aU (ok 56) Tv [aL h]
def adG:=λa b c d e w Q=>bB (CW a b c d e w Q) (lN a b w λf w=>cond (!f) (Q false w) (cD P 258 (some (ae (d:Int))) w λg w=>∃k',Gu Q k' a b (-1) g c d e (d:Int) 0 w)) (ok 56) Tv [bY (ahZ Q)] Tryz.func151
def zB (Q:L3 WP)(R4:L3 (ON->L3 (Int->Int->WP)))(a:OA)(b c:Nat)(d:ON)(e:OA)(f g:Nat)(i j:Int)(w:World):Prop:=cond (decide (j<i)) (aH j f<|wA e λl=>af .i64 ((l.add (j.toNat*3)).add 0) w λm=>af .i64 ((l.add (j.toNat*3)).add 1) w λn=>af .i64 ((l.add (j.toNat*3)).add 2) w λo=>Al T 43 w λp w=>St (p.add 0) (ae m) w λw=>St (p.add 1) (ae n) w λw=>St (p.add 2) (ae o) w λw=>af .i64 (p.add 2) w λq=>aM P (Instr.lookup 258 (.map d) (ae q) false) w λr w=>dB r λs=>cond (!s) (af .i64 (p.add 2) w λt=>bF P (Instr.mapUpdate 258 (.map d) (ae t) (.bool true)) w λw=>af .i64 (p.add 2) w λu=>Bx [ae u] 3 w λv w=>App P #[29,29] 29 (.slice a b c) (.slice (some v) 1 1) w λx y z w=>R4 x y z d e f g i (IntKind.wrap .i64 (j+1)) w) (R4 a b c d e f g i (IntKind.wrap .i64 (j+1)) w)) (Q a b c w)
def De (Q:L3 WP):Nat->L3 (ON->L3 (Int->Int->WP))
 |0,_,_,_,_,_,_,_,_,_,_=>False
 |k+1,a,b,c,d,e,f,g,i,j,w=>zB Q (De Q k) a b c d e f g i j w
def adH (Q):∀k,Bk 29 Tryz.f152 (PB Q) 4 [(3,.l),(4,.m),(8,.l),(9,.i .i64),(10,.i .i64)] (De Q k):=bI λk h=>aU (ok 29) [] [aL h]
def ZM:=λa b c w Q=>bB (EW a b c w Q) (cD P 258 none w λd w=>∃k',De Q k' none 0 0 d a b c (b:Int) 0 w) (ok 29) [] [bY (adH Q)] Tryz.func152
def pS (P6:Int->Int->L3 (ON->ON->L3 (Int->Int->WP)))(Q:L3 WP)(a b:Int)(c:OA)(d e:Nat)(f g:ON)(i:Addr)(j:Int)(l:OA)(m n:Nat)(o p:Int)(w:World):Prop:=af .i64 (i.add 2) w λq=>aM P (Instr.lookup 252 (.map f) (ae q) false) w λr w=>dS r λs t u=>aH j t<|wA s λv=>aA ((v.add (j.toNat*3)).add 2) w.drew λx y z=>af .i64 i w.drew λa1=>Bx [ae a1] 3 w.drew λb1 w=>w.cell? ((v.add (j.toNat*3)).add 2)=some (.slice x y z)/\App P #[29,29] 29 (.slice x y z) (.slice (some b1) 1 1) w λc1 d1 e1 w=>St ((v.add (j.toNat*3)).add 2) (.slice c1 d1 e1) w λw=>P6 a b c d e f g l m n o (IntKind.wrap .i64 (p+1)) w
def xF (Q:L3 WP)(R20:ON->L3 (L3 (Int->Int->WP)))(a:ON)(b:OA)(c d:Nat)(e:OA)(f g:Nat)(i j:Int)(w:World):Prop:=cond (decide (j<i)) (aH j f<|wA e λl=>af .i64 (l.add (j.toNat*1)) w λm=>aM P (Instr.lookup 252 (.map a) (ae m) false) w λn w=>dS n λo p q=>App P #[208,208] 208 (.slice b c d) (.slice o p q) w λr s t w=>R20 a r s t e f g i (IntKind.wrap .i64 (j+1)) w) (Q b c d w)
def Bu (Q:L3 WP):Nat->ON->L3 (L3 (Int->Int->WP))
 |0,_,_,_,_,_,_,_,_,_,_=>False
 |k+1,a,b,c,d,e,f,g,i,j,w=>xF Q (Bu Q k) a b c d e f g i j w
def zC (Q:L3 WP)(R6:Int->Int->L3 (ON->ON->L3 (Int->Int->WP)))(a b:Int)(c:OA)(d e:Nat)(f g:ON)(i:OA)(j l:Nat)(m n:Int)(w:World):Prop:=cond (decide (n<m)) (aH n j<|wA i λo=>af .i64 ((o.add (n.toNat*3)).add 0) w λp=>af .i64 ((o.add (n.toNat*3)).add 1) w λq=>af .i64 ((o.add (n.toNat*3)).add 2) w λr=>Al T 43 w λs w=>St (s.add 0) (ae p) w λw=>St (s.add 1) (ae q) w λw=>St (s.add 2) (ae r) w λw=>af .i64 (s.add 1) w λt=>ee a b t w λu w=>af .i64 (s.add 2) w λv=>Al T 253 w λx w=>St (x.add 0) (ae v) w λw=>St (x.add 1) (ae u) w λw=>af .i64 (x.add 0) w λy=>af .i64 (x.add 1) w λz=>aM P (Instr.lookup 180 (.map g) (.agg #[ae y,ae z]) true) w λa1 w=>dT a1 λb1=>dH b1 λc1 d1=>dI .i64 c1 λe1=>dH d1 λf1 g1=>dB f1 λi1=>kT g1<|cond (!i1) (af .i64 (s.add 2) w λj1=>aM P (Instr.lookup 252 (.map f) (ae j1) false) w λl1 w=>dS l1 λm1 n1 o1=>af .i64 (x.add 0) w λp1=>af .i64 (x.add 1) w λq1=>bF P (Instr.mapUpdate 180 (.map g) (.agg #[ae p1,ae q1]) (ae (n1:Int))) w λw=>af .i64 (s.add 2) w.drew λr1=>af .i64 (s.add 2) w.drew λs1=>af .i64 (s.add 2) w.drew λt1=>(aM P (Instr.lookup 252 (.map f) (ae s1) false) w.drew λu1 w=>dS u1 λv1 x1 y1=>w.cell? (s.add 2)=some (ae t1)/\w.cell? (s.add 2)=some (ae r1)/\Bx [ae t1,ae u,.slice none 0 0] 211 w λz1 w=>w.cell? (s.add 2)=some (ae s1)/\w.cell? (s.add 2)=some (ae r1)/\App P #[208,208] 208 (.slice v1 x1 y1) (.slice (some z1) 1 1) w λa2 b2 c2 w=>w.cell? (s.add 2)=some (ae r1)/\bF P (Instr.mapUpdate 252 (.map f) (ae r1) (.slice a2 b2 c2)) w λw=>pS R6 Q a b c d e f g s (n1:Int) i j l m n w)/\(Bx [ae t1,ae u,.slice none 0 0] 211 w.drew λd2 w=>w.cell? (s.add 2)=some (ae s1)/\w.cell? (s.add 2)=some (ae r1)/\aM P (Instr.lookup 252 (.map f) (ae s1) false) w λe2 w=>dS e2 λf2 g2 i2=>w.cell? (s.add 2)=some (ae t1)/\w.cell? (s.add 2)=some (ae r1)/\App P #[208,208] 208 (.slice f2 g2 i2) (.slice (some d2) 1 1) w λj2 l2 m2 w=>w.cell? (s.add 2)=some (ae r1)/\bF P (Instr.mapUpdate 252 (.map f) (ae r1) (.slice j2 l2 m2)) w λw=>pS R6 Q a b c d e f g s (n1:Int) i j l m n w)) (pS R6 Q a b c d e f g s e1 i j l m n w)) (EW c d e w λn2 o2 p2 w=>∃k',Bu Q k' f none 0 0 n2 o2 p2 (o2:Int) 0 w)
def zD (Q:L3 WP):Nat->Int->Int->L3 (ON->ON->L3 (Int->Int->WP))
 |0,_,_,_,_,_,_,_,_,_,_,_,_,_=>False
 |k+1,a,b,c,d,e,f,g,i,j,l,m,n,w=>zC Q (zD Q k) a b c d e f g i j l m n w
noncomputable def Bv:cA:=[(14,sp 0 6 (sp 7 4 (.br (.op 6 (.op 11 (.op 12 (.op 13 .done)))) (.op 11 (.op 6 (.op 12 (.op 13 .done))))))),(16,sp 0 7 (.op 7 (.op 8 (sp 9 2 (.op 11 .done)))))]
def abq {P6}(Q)(H6:Bk 102 Tryz.f133 (y9 Q) 6 [(0,.i .i64),(1,.i .i64),(2,.l),(7,.m),(8,.m),(26,.l),(27,.i .i64),(28,.i .i64)] P6):Bk 102 Tryz.f133 (y9 Q) 15 [(0,.i .i64),(1,.i .i64),(2,.l),(7,.m),(8,.m),(10,.a),(13,.i .i64),(26,.l),(27,.i .i64),(28,.i .i64)] (pS P6 Q):=aU (ok 102) Bv [aL H6]
def abr (Q):∀k,Bk 102 Tryz.f133 (y9 Q) 20 [(7,.m),(16,.l),(89,.l),(90,.i .i64),(91,.i .i64)] (Bu Q k):=bI λk h=>aU (ok 102) Bv [aL h]
def adI (Q):∀k,Bk 102 Tryz.f133 (y9 Q) 6 [(0,.i .i64),(1,.i .i64),(2,.l),(7,.m),(8,.m),(26,.l),(27,.i .i64),(28,.i .i64)] (zD Q k):=bI λk h=>aU (ok 102) Bv [aL (abq Q h),bY (abr Q)]
def ZN:=λa b c d e w Q=>bB (EU a b c d e w Q) (CW a b c d e w λf w=>cond (!f) (Q none 0 0 w) (cD P 252 none w λg w=>cD P 180 none w λi w=>∃k',zD Q k' a b c d e g i c d e (d:Int) 0 w)) (ok 102) Bv [bY (adI Q)] Tryz.func133
noncomputable def VV:cA:=[(2,sp 0 2 (.op 2 (.op 3 (.op 4 .done))))]
def UI:=λa b c w Q=>bB (vS a b c w Q) (Al T 213 w λd w=>vT a b c w λe f g i j l m w=>Al T 213 w λn w=>St (n.add 0) (.slice e f g) w λw=>St (n.add 1) (.slice i j l) w λw=>aA (n.add 0) w.drew λo p q=>aA (n.add 1) w.drew λr s t=>y8 m w.drew λu w=>w.cell? (n.add 0)=some (.slice o p q)/\w.cell? (n.add 1)=some (.slice r s t)/\St (d.add 0) (.slice o p q) w λw=>St (d.add 1) (.slice r s t) w λw=>aA (d.add 0) w λv x y=>aA (d.add 1) w λz a1 b1=>Q v x y z a1 b1 u w) (ok 20) VV [] Tryz.func134
def oK (vl:OA->L3 (ON->ON->L3 (Int->Int->WP)))(Q:L3 (Value->WP))(R16:OA->L3 (ON->ON->Addr->L3 (Int->Int->L3 (Int->Int->WP))))(a b:OA)(c d:Nat)(e f:ON)(g:Addr)(i:OA)(j l:Nat)(m n:Int)(o:OA)(p q:Nat)(r s:Int)(w:World):Prop:=cond (decide (s<r)) (aH s p<|wA o λt=>af .i64 (t.add (s.toNat*1)) w λu=>aA (g.add 1) w λv x y=>aM P (Instr.lookup 207 (.map e) (ae u) false) w λz w=>dI .i64 z λa1=>aH a1 x<|wA v λb1=>af .i64 (b1.add (a1.toNat*1)) w λc1=>bF P (Instr.mapUpdate 207 (.map f) (ae u) (ae c1)) w λw=>R16 a b c d e f g i j l m n o p q r (IntKind.wrap .i64 (s+1)) w) (vl a b c d e f i j l m (IntKind.wrap .i64 (n+1)) w)
def sO (vl:OA->L3 (ON->ON->L3 (Int->Int->WP)))(Q:L3 (Value->WP)):Nat->OA->L3 (ON->ON->Addr->L3 (Int->Int->L3 (Int->Int->WP)))
 |0,_,_,_,_,_,_,_,_,_,_,_,_,_,_,_,_,_,_=>False
 |k+1,a,b,c,d,e,f,g,i,j,l,m,n,o,p,q,r,s,w=>oK vl Q (sO vl Q k) a b c d e f g i j l m n o p q r s w
def oL (vl:OA->L3 (ON->ON->L3 (Int->Int->WP)))(Q:L3 (Value->WP))(a b:OA)(c d:Nat)(e f:ON)(g i:Addr)(j:Int)(l:OA)(m n:Nat)(o p:Int)(w:World):Prop:=cond (j !=0) (Q none 0 0 (.iface 108 (ae j)) w) (aA (g.add 2) w λq r s=>∃k',sO vl Q k' a b c d e f i l m n o p q r s (r:Int) 0 w)
def oM (Q:L3 (Value->WP))(R23:ON->L3 (L3 (Int->Int->WP)))(a:ON)(b:OA)(c d:Nat)(e:OA)(f g:Nat)(i j:Int)(w:World):Prop:=cond (decide (j<i)) (aH j f<|wA e λl=>af .i64 ((l.add (j.toNat*3)).add 0) w λm=>af .i64 ((l.add (j.toNat*3)).add 1) w λn=>af .i64 ((l.add (j.toNat*3)).add 2) w λo=>Al T 43 w λp w=>St (p.add 0) (ae m) w λw=>St (p.add 1) (ae n) w λw=>St (p.add 2) (ae o) w λw=>af .i64 p w λq=>aM P (Instr.lookup 207 (.map a) (ae q) false) w λr w=>dI .i64 r λs=>Bx [ae s] 3 w λt w=>App P #[29,29] 29 (.slice b c d) (.slice (some t) 1 1) w λu v x w=>R23 a u v x e f g i (IntKind.wrap .i64 (j+1)) w) (Q b c d (.nilIface) w)
def sP (Q:L3 (Value->WP)):Nat->ON->L3 (L3 (Int->Int->WP))
 |0,_,_,_,_,_,_,_,_,_,_=>False
 |k+1,a,b,c,d,e,f,g,i,j,w=>oM Q (sP Q k) a b c d e f g i j w
def oN (Q:L3 (Value->WP))(R10:OA->L3 (ON->ON->L3 (Int->Int->WP)))(a b:OA)(c d:Nat)(e f:ON)(g:OA)(i j:Nat)(l m:Int)(w:World):Prop:=cond (decide (m<l)) (aH m i<|wA g λn=>af .i64 ((n.add (m.toNat*3)).add 0) w λo=>af .i64 ((n.add (m.toNat*3)).add 1) w λp=>aA ((n.add (m.toNat*3)).add 2) w λq r s=>Al T 211 w λt w=>St (t.add 0) (ae o) w λw=>St (t.add 1) (ae p) w λw=>St (t.add 2) (.slice q r s) w λw=>wA a λu=>bg (u.add 1) w.drew λv=>af .i64 t w.drew λx=>af .i64 (t.add 1) w.drew λy=>(vS v x y w.drew λz a1 b1 c1 d1 e1 f1 w=>Al T 213 w λg1 w=>w.cell? (t.add 1)=some (ae y)/\w.cell? t=some (ae x)/\w.cell? (u.add 1)=some (.pointer v)/\St (g1.add 0) (.slice z a1 b1) w λw=>St (g1.add 1) (.slice c1 d1 e1) w λw=>oL R10 Q a b c d e f t g1 f1 g i j l m w)/\(Al T 213 w.drew λi1 w=>w.cell? (t.add 1)=some (ae y)/\w.cell? t=some (ae x)/\w.cell? (u.add 1)=some (.pointer v)/\vS v x y w λj1 l1 m1 n1 o1 p1 q1 w=>St (i1.add 0) (.slice j1 l1 m1) w λw=>St (i1.add 1) (.slice n1 o1 p1) w λw=>oL R10 Q a b c d e f t i1 q1 g i j l m w)) (∃k',sP Q k' f none 0 0 b c d (c:Int) 0 w)
def oO (Q:L3 (Value->WP)):Nat->OA->L3 (ON->ON->L3 (Int->Int->WP))
 |0,_,_,_,_,_,_,_,_,_,_,_,_=>False
 |k+1,a,b,c,d,e,f,g,i,j,l,m,w=>oN Q (oO Q k) a b c d e f g i j l m w
def pT (Q:L3 (Value->WP))(R4:OA->L3 (Int->Int->ON->L3 (Int->Int->WP)))(a b:OA)(c d:Nat)(e f:Int)(g:ON)(i:OA)(j l:Nat)(m n:Int)(w:World):Prop:=cond (decide (n<m)) (aH n j<|wA i λo=>af .i64 ((o.add (n.toNat*3)).add 0) w λp=>af .i64 ((o.add (n.toNat*3)).add 1) w λq=>af .i64 ((o.add (n.toNat*3)).add 2) w λr=>Al T 43 w λs w=>St (s.add 0) (ae p) w λw=>St (s.add 1) (ae q) w λw=>St (s.add 2) (ae r) w λw=>af .i64 s w.drew λt=>af .i64 (s.add 1) w.drew λu=>nC e f u w.drew λv w=>w.cell? s=some (ae t)/\bF P (Instr.mapUpdate 207 (.map g) (ae t) (ae v)) w λw=>R4 a b c d e f g i j l m (IntKind.wrap .i64 (n+1)) w) (cD P 207 none w λx w=>EU e f b c d w λy z a1 w=>∃k',oO Q k' a b c d g x y z a1 (z:Int) 0 w)
def uK (Q:L3 (Value->WP)):Nat->OA->L3 (Int->Int->ON->L3 (Int->Int->WP))
 |0,_,_,_,_,_,_,_,_,_,_,_,_,_=>False
 |k+1,a,b,c,d,e,f,g,i,j,l,m,n,w=>pT Q (uK Q k) a b c d e f g i j l m n w
noncomputable def l7:cA:=[(6,sp 0 7 (.op 7 (.op 8 .done))),(12,sp 0 8 (.br (.op 8 (sp 9 3 (.op 12 (.op 13 (.op 14 .done))))) (.op 12 (.op 8 (sp 9 3 (.op 13 (.op 14 .done)))))))]
def Qw {vl}(Q)(H10:Bk 104 Tryz.f93 (jm Q) 10 [(0,.p),(1,.l),(8,.m),(11,.m),(49,.l),(50,.i .i64),(51,.i .i64)] vl):∀k,Bk 104 Tryz.f93 (jm Q) 16 [(0,.p),(1,.l),(8,.m),(11,.m),(14,.a),(49,.l),(50,.i .i64),(51,.i .i64),(72,.l),(73,.i .i64),(74,.i .i64)] (sO vl Q k):=bI λk h=>aU (ok 104) l7 [aL H10,aL h]
def Qx {vl}(Q)(H10:Bk 104 Tryz.f93 (jm Q) 10 [(0,.p),(1,.l),(8,.m),(11,.m),(49,.l),(50,.i .i64),(51,.i .i64)] vl):Bk 104 Tryz.f93 (jm Q) 13 [(0,.p),(1,.l),(8,.m),(11,.m),(13,.a),(14,.a),(15,.i .i64),(49,.l),(50,.i .i64),(51,.i .i64)] (oL vl Q):=aU (ok 104) l7 [bY (Qw Q H10)]
def Qy (Q):∀k,Bk 104 Tryz.f93 (jm Q) 23 [(11,.m),(18,.l),(89,.l),(90,.i .i64),(91,.i .i64)] (sP Q k):=bI λk h=>aU (ok 104) l7 [aL h]
def Qz (Q):∀k,Bk 104 Tryz.f93 (jm Q) 10 [(0,.p),(1,.l),(8,.m),(11,.m),(49,.l),(50,.i .i64),(51,.i .i64)] (oO Q k):=bI λk h=>aU (ok 104) l7 [aL (Qx Q h),bY (Qy Q)]
def Ss (Q):∀k,Bk 104 Tryz.f93 (jm Q) 4 [(0,.p),(1,.l),(6,.i .i64),(7,.i .i64),(8,.m),(30,.l),(31,.i .i64),(32,.i .i64)] (uK Q k):=bI λk h=>aU (ok 104) l7 [aL h,bY (Qz Q)]
def OH:=λa b c d w Q=>bB (xZ a b c d w Q) (wA a λe=>bg (e.add 1) w λf=>xj f w λg i w=>cD P 207 none w λj w=>∃k',uK Q k' a b c d g i j b c d (c:Int) 0 w) (ok 104) l7 [bY (Ss Q)] Tryz.func93
def ZO:=λa w Q=>bB (K9 a w Q) (cond (decide (a<0)) (Q true w) (Q (decide (a>5)) w)) (ok 9) [] [] Tryz.func153
def jV (Q:Int->WP)(R2:L3 (Value->Int->Int->WP))(a:OA)(b c:Nat)(d:Value)(e f:Int)(w:World):Prop:=cond (decide (f<e)) (aH f b<|wA a λg=>af .i64 (g.add (f.toNat*1)) w λi=>iv (cx 19) d [ae i] w λj w=>dB j λl=>cond l (Q f w) (R2 a b c d e (IntKind.wrap .i64 (f+1)) w)) (Q (-1) w)
def jW (Q:Int->WP):Nat->L3 (Value->Int->Int->WP)
 |0,_,_,_,_,_,_,_=>False
 |k+1,a,b,c,d,e,f,w=>jV Q (jW Q k) a b c d e f w
def HW (Q):∀k,Bk 19 Tryz.f166 (ze Q) 2 [(0,.l),(1,.v),(7,.i .i64),(8,.i .i64)] (jW Q k):=bI λk h=>aU (ok 19) [] [aL h]
def Gv:=λa b c d w Q=>bB (xm a b c d w Q) (∃k',jW Q k' a b c d (b:Int) 0 w) (ok 19) [] [bY (HW Q)] Tryz.func166
def Ef:=λa b c d w Q=>bB (nQ a b c d w Q) (xm a b c d w λe w=>Q (decide (e≥0)) w) (ok 9) [] [] Tryz.func154
def kL (Q:Bool->WP)(a b:OA)(c:Int)(w:World):Prop:=wA a λd=>af .i64 d w.drew λe=>wA a λf=>af .i64 (f.add 1) w.drew λg=>wA b λi=>af .i64 (i.add 1) w.drew λj=>oh e g j c w.drew λl w=>cond (decide (l<0)) (Q true w) (wA a λm=>cw (m.add 2) w λn=>aM P (Instr.lookup 258 (.map n) (ae l) false) w λo w=>dB o λp=>cond p (Q true w) (wA a λq=>cw (q.add 2) w.drew λr=>wA b λs=>af .i64 (s.add 1) w.drew λt=>aM P (Builtin.delete_ #[258,3] 0 [.map r,ae t].toArray) w.drew λu w=>wA b λv=>St (v.add 1) (ae l) w λw=>wA a λx=>aA (x.add 3) w.drew λy z a1=>wA b λb1=>af .i64 b1 w.drew λc1=>Bx [ae c1,ae l] 51 w.drew λd1 w=>w.cell? (x.add 3)=some (.slice y z a1)/\App P #[28,28] 28 (.slice y z a1) (.slice (some d1) 1 1) w λe1 f1 g1 w=>wA a λi1=>St (i1.add 3) (.slice e1 f1 g1) w λw=>wA b λj1=>af .i64 (j1.add 2) w λl1=>cond (l==l1) (wA a λm1=>aA (m1.add 4) w.drew λn1 o1 p1=>wA b λq1=>af .i64 q1 w.drew λr1=>Bx [ae r1] 3 w.drew λs1 w=>w.cell? (m1.add 4)=some (.slice n1 o1 p1)/\App P #[29,29] 29 (.slice n1 o1 p1) (.slice (some s1) 1 1) w λt1 u1 v1 w=>wA a λx1=>St (x1.add 4) (.slice t1 u1 v1) w λw=>Q false w) (wA a λy1=>cw (y1.add 2) w λz1=>bF P (Instr.mapUpdate 258 (.map z1) (ae l) (.bool true)) w λw=>Q true w)))
noncomputable def FF:cA:=[(6,sp 0 13 (.op 13 (.op 14 .done))),(9,sp 0 8 (.op 8 .done)),(11,sp 0 11 (.op 11 (.op 12 (sp 13 2 (.op 15 .done))))),(13,sp 0 9 (.op 9 (.op 10 (sp 11 2 (.op 13 .done)))))]
def Su (Q):Bk 92 Tryz.f155 (Gk Q) 6 [(0,.p),(1,.p),(2,.i .i64)] (kL Q):=aU (ok 92) FF []
def OI:=λa b c w Q=>bB (x9 a b c w Q) (cond (c==0) (kL Q a b c w) (cond (c==1) (kL Q a b c w) (cond (c==2) (kL Q a b c w) (cond (c==3) (kL Q a b c w) (Q true w))))) (ok 92) FF [aL (Su Q)] Tryz.func155
def AZ (Q:L3 (L3 (L3 (Int->WP))))(R11:L3 (L3 (Addr->L3 (Int->Int->WP))))(a:OA)(b c:Nat)(d:OA)(e f:Nat)(g:Addr)(i:OA)(j l:Nat)(m n:Int)(w:World):Prop:=cond (decide (n<m)) (aH n j<|wA i λo=>af .i64 ((o.add (n.toNat*3)).add 0) w λp=>af .i64 ((o.add (n.toNat*3)).add 1) w λq=>af .i64 ((o.add (n.toNat*3)).add 2) w λr=>Al T 43 w λs w=>St (s.add 0) (ae p) w λw=>St (s.add 1) (ae q) w λw=>St (s.add 2) (ae r) w λw=>aH n b<|wA a λt=>af .i64 (t.add (n.toNat*1)) w λu=>x9 (some g) (some s) u w λv w=>cond v (af .i64 (s.add 0) w λx=>af .i64 (s.add 1) w λy=>af .i64 (s.add 2) w λz=>Bx [ae x,ae y,ae z] 43 w λa1 w=>App P #[39,39] 39 (.slice d e f) (.slice (some a1) 1 1) w λb1 c1 d1 w=>R11 a b c b1 c1 d1 g i j l m (IntKind.wrap .i64 (n+1)) w) (R11 a b c d e f g i j l m (IntKind.wrap .i64 (n+1)) w)) (aA (g.add 3) w.drew λe1 f1 g1=>aA (g.add 4) w.drew λi1 j1 l1=>w.drew.cell? (g.add 4)=some (.slice i1 j1 l1)/\w.drew.cell? (g.add 3)=some (.slice e1 f1 g1)/\w.drew.cell? (g.add 4)=some (.slice i1 j1 l1)/\Q d e f e1 f1 g1 i1 j1 l1 0 w.drew)
def EB (Q:L3 (L3 (L3 (Int->WP)))):Nat->L3 (L3 (Addr->L3 (Int->Int->WP)))
 |0,_,_,_,_,_,_,_,_,_,_,_,_,_=>False
 |k+1,a,b,c,d,e,f,g,i,j,l,m,n,w=>AZ Q (EB Q k) a b c d e f g i j l m n w
def Cp (Q:L3 (L3 (L3 (Int->WP))))(R6:L3 (L3 (L3 (Addr->L3 (Int->Int->WP)))))(a:OA)(b c:Nat)(d:OA)(e f:Nat)(g:OA)(i j:Nat)(l:Addr)(m:OA)(n o:Nat)(p q:Int)(w:World):Prop:=cond (decide (q<p)) (aH q n<|wA m λr=>af .i64 ((r.add (q.toNat*3)).add 0) w λs=>af .i64 ((r.add (q.toNat*3)).add 1) w λt=>af .i64 ((r.add (q.toNat*3)).add 2) w λu=>Al T 43 w λv w=>St (v.add 0) (ae s) w λw=>St (v.add 1) (ae t) w λw=>St (v.add 2) (ae u) w λw=>cw (l.add 2) w.drew λx=>af .i64 (v.add 1) w.drew λy=>bF P (Instr.mapUpdate 258 (.map x) (ae y) (.bool true)) w.drew λw=>R6 a b c d e f g i j l m n o p (IntKind.wrap .i64 (q+1)) w) (∃k',EB Q k' d e f g i j l a b c (b:Int) 0 w)
def Gw (Q:L3 (L3 (L3 (Int->WP)))):Nat->L3 (L3 (L3 (Addr->L3 (Int->Int->WP))))
 |0,_,_,_,_,_,_,_,_,_,_,_,_,_,_,_,_=>False
 |k+1,a,b,c,d,e,f,g,i,j,l,m,n,o,p,q,w=>Cp Q (Gw Q k) a b c d e f g i j l m n o p q w
noncomputable def JL:cA:=[(8,sp 0 6 (.op 6 .done)),(16,sp 0 9 (.op 9 (.op 10 (.op 11 (.op 12 .done)))))]
def ags (Q):∀k,Bk 82 Tryz.f135 (K8 Q) 11 [(3,.l),(8,.l),(13,.a),(55,.l),(56,.i .i64),(57,.i .i64)] (EB Q k):=bI λk h=>aU (ok 82) JL [aL h]
def ah0 (Q):∀k,Bk 82 Tryz.f135 (K8 Q) 6 [(2,.l),(3,.l),(8,.l),(13,.a),(42,.l),(43,.i .i64),(44,.i .i64)] (Gw Q k):=bI λk h=>aU (ok 82) JL [aL h,bY (ags Q)]
def adJ:=λa b c d e f g i w Q=>bB (HL a b c d e f g i w Q) (CW a b c d e w λj w=>cond (!j) (Q none 0 0 none 0 0 none 0 0 1 w) (cond ((g:Int) !=(d:Int)) (Q none 0 0 none 0 0 none 0 0 1 w) (nQ f g i (.func (.func 153) #[] #[]) w λl w=>cond l (Q none 0 0 none 0 0 none 0 0 1 w) (cD P 258 (some (ae (d:Int))) w λm w=>Bx [ae a,ae b,.map m,.slice none 0 0,.slice none 0 0] 260 w λn w=>∃k',Gw Q k' c d e f g i none 0 0 n c d e (d:Int) 0 w)))) (ok 82) JL [bY (ah0 Q)] Tryz.func135
def MR:=λa b c w Q=>bB (wJ a b c w Q) (lY a b w λd w=>cond (d==(-1)) (Q false w) (rI a c w λe w=>cond (!e) (Q false w) (rH a b w λf w=>sC a c f w λg w=>Q g w))) (ok 23) [] [] Tryz.func136
def Lx:=λa b w Q=>bB (B6 a b w Q) (wA b λc=>af .i64 c w λd=>wA a λe=>St (e.add 1) (ae d) w λw=>Q w) (ok 7) [] [] Tryz.func156
def OJ:=λa b c w Q=>bB (x8 a b c w Q) (Bx [ae c] 3 w λd w=>sD a b (.func (.func 156) #[] #[.pointer (some d)]) w λe w=>Q e w) (ok 11) [] [] Tryz.func137
def l8 (P7:OA->L3 (L3 (L3 (Int->Int->WP))))(Q:L3 (L3 (Int->WP)))(a b:OA)(c d:Nat)(e:OA)(f g:Nat)(i j:Addr)(l:OA)(m n:Nat)(o p:Int)(w:World):Prop:=af .i64 (i.add 1) w λq=>af .i64 (j.add 2) w λr=>cond (q==r) (af .i64 (j.add 0) w λs=>af .i64 (j.add 1) w λt=>af .i64 (j.add 2) w λu=>nP a s t u w λw=>P7 a b c d e f g l m n o (IntKind.wrap .i64 (p+1)) w) (wA a λv=>bg (v.add 4) w.drew λx=>af .i64 (j.add 1) w.drew λy=>af .i64 (i.add 1) w.drew λz=>wJ x y z w.drew λa1 w=>wA a λb1=>bg (b1.add 3) w.drew λc1=>af .i64 i w.drew λd1=>af .i64 (i.add 1) w.drew λe1=>x8 c1 d1 e1 w.drew λf1 w=>P7 a b c d e f g l m n o (IntKind.wrap .i64 (p+1)) w)
def pU (Q:L3 (L3 (Int->WP)))(R7:OA->L3 (L3 (L3 (Int->Int->WP))))(a b:OA)(c d:Nat)(e:OA)(f g:Nat)(i:OA)(j l:Nat)(m n:Int)(w:World):Prop:=cond (decide (n<m)) (aH n j<|wA i λo=>af .i64 ((o.add (n.toNat*2)).add 0) w λp=>af .i64 ((o.add (n.toNat*2)).add 1) w λq=>Al T 51 w λr w=>St (r.add 0) (ae p) w λw=>St (r.add 1) (ae q) w λw=>wA a λs=>bg (s.add 3) w.drew λt=>af .i64 r w.drew λu=>(iS t u w.drew λv x y z w=>Al T 43 w λa1 w=>w.cell? r=some (ae u)/\w.cell? (s.add 3)=some (.pointer t)/\St (a1.add 0) (ae v) w λw=>St (a1.add 1) (ae x) w λw=>St (a1.add 2) (ae y) w λw=>l8 R7 Q a b c d e f g r a1 i j l m n w)/\(Al T 43 w.drew λb1 w=>w.cell? r=some (ae u)/\w.cell? (s.add 3)=some (.pointer t)/\iS t u w λc1 d1 e1 f1 w=>St (b1.add 0) (ae c1) w λw=>St (b1.add 1) (ae d1) w λw=>St (b1.add 2) (ae e1) w λw=>l8 R7 Q a b c d e f g r b1 i j l m n w)) (Q b c d e f g 0 w)
def pV (Q:L3 (L3 (Int->WP))):Nat->OA->L3 (L3 (L3 (Int->Int->WP)))
 |0,_,_,_,_,_,_,_,_,_,_,_,_,_=>False
 |k+1,a,b,c,d,e,f,g,i,j,l,m,n,w=>pU Q (pV Q k) a b c d e f g i j l m n w
noncomputable def zE:cA:=[(3,sp 0 9 (.op 10 (.op 9 (.op 11 (sp 12 5 (.op 17 (.op 18 (.op 19 .done)))))))),(9,sp 0 6 (.br (.op 6 (sp 7 3 (.op 10 (.op 11 (.op 12 .done))))) (.op 10 (.op 6 (sp 7 3 (.op 11 (.op 12 .done))))))),(12,sp 0 8 (.op 8 .done)),(13,sp 0 8 (.op 8 .done))]
def QA {P7}(Q)(H7:Bk 78 Tryz.f94 (um Q) 7 [(0,.p),(4,.l),(5,.l),(33,.l),(34,.i .i64),(35,.i .i64)] P7):Bk 78 Tryz.f94 (um Q) 10 [(0,.p),(4,.l),(5,.l),(8,.a),(9,.a),(33,.l),(34,.i .i64),(35,.i .i64)] (l8 P7 Q):=aU (ok 78) zE [aL H7]
def Sv (Q):∀k,Bk 78 Tryz.f94 (um Q) 7 [(0,.p),(4,.l),(5,.l),(33,.l),(34,.i .i64),(35,.i .i64)] (pV Q k):=bI λk h=>aU (ok 78) zE [aL (QA Q h)]
def OK:=λa b c d w Q=>bB (x6 a b c d w Q) (cond a.isNone (Q none 0 0 none 0 0 1 w) (wA a λe=>af .i64 e w.drew λf=>wA a λg=>af .i64 (g.add 1) w.drew λi=>m6 a w.drew λj l m w=>w.cell? (g.add 1)=some (ae i)/\w.cell? e=some (ae f)/\HL f i j l m b c d w λn o p q r s t u v x w=>cond (x !=0) (Q none 0 0 none 0 0 x w) (∃k',pV Q k' a q r s t u v q r s (r:Int) 0 w))) (ok 78) zE [bY (Sv Q)] Tryz.func94
def OL:=λa b w Q=>bB (xX a b w Q) (wA a λc=>bg (c.add 2) w λd=>m6 d w λe f g w=>xZ a e f g w λi j l m w=>BP m λn=>cond (!n) (dV m λo=>Q o w) (wA a λp=>bg (p.add 2) w λq=>x6 q i j l w λr s t u v x y w=>wA b λz=>St (z.add 4) (.slice r s t) w λw=>wA b λa1=>St (a1.add 5) (.slice u v x) w λw=>gx y w λb1 w=>dV b1 λc1=>Q c1 w)) (ok 43) [] [] Tryz.func58
def fF (Q:Value->WP)(a:Value)(w:World):Prop:=dV a λb=>Q b w
def oP (Q:Value->WP)(a b:OA)(c:Addr)(w:World):Prop:=af .i64 (c.add 0) w λd=>af .i64 (c.add 1) w λe=>af .i64 (c.add 2) w λf=>aA (c.add 3) w λg i j=>wD a d e f g i j w λl w=>BP l λm=>cond (!m) (dV l λn=>Q n w) (af .i64 c w λo=>cond (o==1) (aA (c.add 3) w λp q r=>xV a p q r w λs w=>fF Q s w) (cond (o==8) (wA a λt=>bg (t.add 1) w λu=>vO u w λw=>fF Q l w) (cond (o==2) (af .i64 (c.add 1) w λv=>af .i64 (c.add 2) w λx=>xW a v x w λy w=>fF Q y w) (cond (o==3) (af .i64 (c.add 1) w λz=>af .i64 (c.add 2) w λa1=>wE a z a1 w λb1 c1 w=>wA b λd1=>St (d1.add 3) (ae b1) w λw=>fF Q c1 w) (cond (o==4) (wA a λe1=>bg (e1.add 2) w.drew λf1=>af .i64 (c.add 1) w.drew λg1=>af .i64 (c.add 2) w.drew λi1=>tf f1 g1 i1 w.drew λj1 w=>gx j1 w λl1 w=>fF Q l1 w) (cond (o==5) (wA a λm1=>bg (m1.add 2) w.drew λn1=>af .i64 (c.add 1) w.drew λo1=>uh n1 o1 w.drew λp1 w=>gx p1 w λq1 w=>fF Q q1 w) (cond (o==6) (af .i64 (c.add 1) w λr1=>af .i64 (c.add 2) w λs1=>wF a b r1 s1 w λt1 w=>fF Q t1 w) (cond (o==7) (xX a b w λu1 w=>fF Q u1 w) (fF Q l w)))))))))
noncomputable def Bg:cA:=[(18,sp 0 8 (.op 8 (.op 9 (.op 10 .done)))),(20,sp 0 6 (.op 6 (.op 7 (.op 8 .done))))]
def UJ (Q):Bk 114 Tryz.f28 (B0 Q) 25 [(6,.v)] (fF Q):=aU (ok 114) Bg []
def VW (Q):Bk 114 Tryz.f28 (B0 Q) 5 [(0,.p),(2,.p),(4,.a)] (oP Q):=aU (ok 114) Bg [aL (UJ Q)]
def Sw:=λa b c d e f g i w Q=>bB (Ab a b c d e f g i w Q) (Bx [ae b,ae c,ae d,.slice e f g] 38 w λj w=>af .i64 j w λl=>cond (l==0) (bZ (aZ 0) w λm=>dV m λn=>Q n w) (af .i64 (j.add 0) w λo=>af .i64 (j.add 1) w λp=>af .i64 (j.add 2) w λq=>aA (j.add 3) w λr s t=>K5 o p q r s t w λu w=>cond (!u) (bZ (aZ 0) w λv=>dV v λx=>Q x w) (wA a λy=>bg (y.add 2) w λz=>cond z.isNone (af .i64 j w λa1=>cond (a1 !=1) (af .i64 j w λb1=>cond (b1 !=8) (Q (.iface 108 (ae 4)) w) (oP Q a i j w)) (oP Q a i j w)) (oP Q a i j w)))) (ok 114) Bg [aL (VW Q)] Tryz.func28
def adK:=λa w Q=>bB (CV a w Q) (Al T 108 w λb w=>bZ (aZ 0) w λc=>pF a c w λd w=>cond d (Q 5 w) (nG a (.iface 120 (.pointer (some b))) w λe w=>cond e (af .i64 b w λf=>Q f w) (Q 0 w))) (ok 13) [] [] Tryz.func29
def oQ (Q:Int->Int->Int->Int->L3 (L3 (Int->Int->Int->Int->Int->Int->WP)))(a:OA)(b c:Addr)(w:World):Prop:=wB a w λd e f g i j w=>St ((c.add 6).add 0) (.int .u64 d) w λw=>St ((c.add 6).add 1) (.int .u64 e) w λw=>St ((c.add 6).add 2) (.int .u64 f) w λw=>St ((c.add 6).add 3) (.int .u64 g) w λw=>St ((c.add 6).add 4) (.int .u64 i) w λw=>St ((c.add 6).add 5) (.int .u64 j) w λw=>af .i64 (c.add 0) w λl=>af .i64 (c.add 1) w λm=>af .i64 (c.add 2) w λn=>af .i64 (c.add 3) w λo=>aA (c.add 4) w λp q r=>aA (c.add 5) w λs t u=>af .u64 (c.add 6) w λv=>af .u64 (c.add 7) w λx=>af .u64 (c.add 8) w λy=>af .u64 (c.add 9) w λz=>af .u64 (c.add 10) w λa1=>af .u64 (c.add 11) w λb1=>St (b.add 0) (ae l) w λw=>St (b.add 1) (ae m) w λw=>St (b.add 2) (ae n) w λw=>St (b.add 3) (ae o) w λw=>St (b.add 4) (.slice p q r) w λw=>St (b.add 5) (.slice s t u) w λw=>St (b.add 6) (.int .u64 v) w λw=>St (b.add 7) (.int .u64 x) w λw=>St (b.add 8) (.int .u64 y) w λw=>St (b.add 9) (.int .u64 z) w λw=>St (b.add 10) (.int .u64 a1) w λw=>St (b.add 11) (.int .u64 b1) w λw=>af .i64 (b.add 0) w λc1=>af .i64 (b.add 1) w λd1=>af .i64 (b.add 2) w λe1=>af .i64 (b.add 3) w λf1=>aA (b.add 4) w λg1 i1 j1=>aA (b.add 5) w λl1 m1 n1=>af .u64 (b.add 6) w λo1=>af .u64 (b.add 7) w λp1=>af .u64 (b.add 8) w λq1=>af .u64 (b.add 9) w λr1=>af .u64 (b.add 10) w λs1=>af .u64 (b.add 11) w λt1=>Q c1 d1 e1 f1 g1 i1 j1 l1 m1 n1 o1 p1 q1 r1 s1 t1 w
def VX (Q):Bk 29 Tryz.f12 (IT Q) 8 [(0,.p),(4,.a),(5,.a)] (oQ Q):=aU (ok 29) [] []
def Sy:=λa b c d e f g w Q=>bB (jl a b c d e f g w Q) (Bx [ae b,ae c,ae d,.slice e f g] 38 w λi w=>Al T 34 w λj w=>Al T 34 w λl w=>St (l.add 0) (ae 5) w λw=>St (l.add 1) (ae 0) w λw=>St (l.add 2) (ae 5) w λw=>St (l.add 3) (ae (-1)) w λw=>St (l.add 4) (.slice none 0 0) w λw=>St (l.add 5) (.slice none 0 0) w λw=>St (l.add 6) (.int .u64 0) w λw=>St (l.add 7) (.int .u64 0) w λw=>St (l.add 8) (.int .u64 0) w λw=>St (l.add 9) (.int .u64 0) w λw=>St (l.add 10) (.int .u64 0) w λw=>St (l.add 11) (.int .u64 0) w λw=>cond a.isNone (af .i64 (l.add 0) w λm=>af .i64 (l.add 1) w λn=>af .i64 (l.add 2) w λo=>af .i64 (l.add 3) w λp=>aA (l.add 4) w λq r s=>aA (l.add 5) w λt u v=>af .u64 (l.add 6) w λx=>af .u64 (l.add 7) w λy=>af .u64 (l.add 8) w λz=>af .u64 (l.add 9) w λa1=>af .u64 (l.add 10) w λb1=>af .u64 (l.add 11) w λc1=>St (j.add 0) (ae m) w λw=>St (j.add 1) (ae n) w λw=>St (j.add 2) (ae o) w λw=>St (j.add 3) (ae p) w λw=>St (j.add 4) (.slice q r s) w λw=>St (j.add 5) (.slice t u v) w λw=>St (j.add 6) (.int .u64 x) w λw=>St (j.add 7) (.int .u64 y) w λw=>St (j.add 8) (.int .u64 z) w λw=>St (j.add 9) (.int .u64 a1) w λw=>St (j.add 10) (.int .u64 b1) w λw=>St (j.add 11) (.int .u64 c1) w λw=>af .i64 (j.add 0) w λd1=>af .i64 (j.add 1) w λe1=>af .i64 (j.add 2) w λf1=>af .i64 (j.add 3) w λg1=>aA (j.add 4) w λi1 j1 l1=>aA (j.add 5) w λm1 n1 o1=>af .u64 (j.add 6) w λp1=>af .u64 (j.add 7) w λq1=>af .u64 (j.add 8) w λr1=>af .u64 (j.add 9) w λs1=>af .u64 (j.add 10) w λt1=>af .u64 (j.add 11) w λu1=>Q d1 e1 f1 g1 i1 j1 l1 m1 n1 o1 p1 q1 r1 s1 t1 u1 w) (St l (ae 0) w λw=>af .i64 (i.add 0) w λv1=>af .i64 (i.add 1) w λx1=>af .i64 (i.add 2) w λy1=>aA (i.add 3) w λz1 a2 b2=>Ab a v1 x1 y1 z1 a2 b2 (some l) w λc2 w=>BP c2 λd2=>cond (!d2) (af .i64 i w λe2=>dV c2 λf2=>Bx [ae e2,f2] 80 w λg2 w=>CV (.iface 78 (.pointer (some g2))) w λi2 w=>St l (ae i2) w λw=>oQ Q a j l w) (oQ Q a j l w))) (ok 29) [] [aL (VX Q)] Tryz.func12
def QB:=λa b c w Q=>bB (lX a b c w Q) (cond (decide (a≥b)) (Q (decide (a<=c)) w) (Q false w)) (ok 15) [] [] Tryz.func101
def OM:=λa b w Q=>bB (xY a b w Q) (lX a 1 1024 w λc w=>cond c (lX b 1 1024 w λd w=>Q d w) (Q false w)) (ok 11) [] [] Tryz.func65
def JM:=λa b w Q=>bB (kU a b w Q) (xY a b w λc w=>cond (!c) (Q 0 0 w) (NZ 16<|NZ 16<|Q (IntKind.wrap .i64 (Int.tdiv (IntKind.wrap .i64 ((IntKind.wrap .i64 (a+16))-1)) 16)) (IntKind.wrap .i64 (Int.tdiv (IntKind.wrap .i64 ((IntKind.wrap .i64 (b+16))-1)) 16)) w)) (ok 18) [] [] Tryz.func44
def Ly:=λa b w Q=>bB (pE a b w Q) (kU a b w λc d w=>Q (IntKind.wrap .i64 (c*d)) w) (ok 16) [] [] Tryz.func23
def sQ (P3:L3 (L3 (Int->WP)))(Q:L3 WP)(a:OA)(b c:Nat)(d:OA)(e f:Nat)(g i:Int)(w:World):Prop:=aH g b<|wA a λj=>af .u8 (j.add (g.toNat*1)) w λl=>Bx [.int .u8 (IntKind.wrap .u8 (IntKind.wrap .i64 (i-1))),.int .u8 l] 5 w λm w=>App P #[22,22] 22 (.slice d e f) (.slice (some m) 2 2) w λn o p w=>P3 a b c n o p (IntKind.wrap .i64 (g+i)) w
def oR (P3:L3 (L3 (Int->WP)))(Q:L3 WP)(R5:L3 (L3 (Int->Int->WP)))(a:OA)(b c:Nat)(d:OA)(e f:Nat)(g i:Int)(w:World):Prop:=cond (decide ((IntKind.wrap .i64 (g+i))<(b:Int))) (aH (IntKind.wrap .i64 (g+i)) b<|wA a λj=>af .u8 (j.add (((IntKind.wrap .i64 (g+i))).toNat*1)) w.drew λl=>aH g b<|wA a λm=>af .u8 (m.add (g.toNat*1)) w.drew λn=>cond (l==n) (R5 a b c d e f g (IntKind.wrap .i64 (i+1)) w.drew) (sQ P3 Q a b c d e f g i w.drew)) (sQ P3 Q a b c d e f g i w.drew)
def l9 (P3:L3 (L3 (Int->WP)))(Q:L3 WP):Nat->L3 (L3 (Int->Int->WP))
 |0,_,_,_,_,_,_,_,_,_=>False
 |k+1,a,b,c,d,e,f,g,i,w=>oR P3 Q (l9 P3 Q k) a b c d e f g i w
def oS (Q:L3 WP)(R3:L3 (L3 (Int->WP)))(a:OA)(b c:Nat)(d:OA)(e f:Nat)(g:Int)(w:World):Prop:=cond (decide (g<(b:Int))) (∃k',l9 R3 Q k' a b c d e f g 1 w) (Q d e f w)
def oT (Q:L3 WP):Nat->L3 (L3 (Int->WP))
 |0,_,_,_,_,_,_,_,_=>False
 |k+1,a,b,c,d,e,f,g,w=>oS Q (oT Q k) a b c d e f g w
noncomputable def rL:cA:=[(5,sp 0 19 .done)]
def QC {P3}(Q)(H3:Bk 46 Tryz.f61 (lW Q) 3 [(0,.l),(3,.l),(4,.i .i64)] P3):Bk 46 Tryz.f61 (lW Q) 7 [(0,.l),(3,.l),(4,.i .i64),(5,.i .i64)] (sQ P3 Q):=aU (ok 46) rL [aL H3]
def QD {P3}(Q)(H3:Bk 46 Tryz.f61 (lW Q) 3 [(0,.l),(3,.l),(4,.i .i64)] P3):∀k,Bk 46 Tryz.f61 (lW Q) 5 [(0,.l),(3,.l),(4,.i .i64),(5,.i .i64)] (l9 P3 Q k):=bI λk h=>aU (ok 46) rL [aL h,aL (QC Q H3)]
def QE (Q):∀k,Bk 46 Tryz.f61 (lW Q) 3 [(0,.l),(3,.l),(4,.i .i64)] (oT Q k):=bI λk h=>aU (ok 46) rL [bY (QD Q h)]
def MS:=λa b c w Q=>bB (wG a b c w Q) (Bx [.int .u8 2] 5 w λd w=>∃k',oT Q k' a b c (some d) 1 1 0 w) (ok 46) rL [bY (QE Q)] Tryz.func61
noncomputable def Km:cA:=[(3,sp 0 4 (.br (.op 4 (.op 5 (.op 6 .done))) (.op 5 (.op 4 (.op 6 .done)))))]
def JN:=λa b c d e w Q=>bB (s_ a b c d e w Q) (Bx [ae a,ae b,.slice c d e] 84 w λf w=>aA (f.add 2) w λg i j=>wG g i j w λl m n w=>cond ((m:Int)==3) (aA (f.add 2) w.drew λo p q=>aH 0 p<|wA o λr=>af .u8 (r.add (((0:Int).toNat)*1)) w.drew λs=>(Bx [.int .u8 0,.int .u8 s] 5 w.drew λt w=>w.cell? (r.add (((0:Int).toNat)*1))=some (.int .u8 s)/\w.cell? (f.add 2)=some (.slice o p q)/\Q 0 (some t) 2 2 w)/\(w.drew.cell? (r.add (((0:Int).toNat)*1))=some (.int .u8 s)/\w.drew.cell? (f.add 2)=some (.slice o p q)/\Bx [.int .u8 0,.int .u8 s] 5 w.drew λu w=>Q 0 (some u) 2 2 w)) (aA (f.add 2) w λv x y=>cond (decide ((m:Int)<(IntKind.wrap .i64 (1+(x:Int))))) (Q 2 l m n w) (Bx [.int .u8 1] 5 w λz w=>aA (f.add 2) w λa1 b1 c1=>App P #[22,22] 22 (.slice (some z) 1 1) (.slice a1 b1 c1) w λd1 e1 f1 w=>Q 1 d1 e1 f1 w))) (ok 28) Km [] Tryz.func30
noncomputable def OO:cA:=[(4,sp 0 14 (.op 14 (.op 15 .done)))]
def MT:=λa b c w Q=>bB (qy a b c w Q) (pE a b w λd w=>lX c 0 (IntKind.wrap .i64 (d-1)) w λe w=>cond (!e) (Q 0 0 w) (kU a b w λf g w=>NZ f<|NZ f<|Q (DG 16 (IntKind.wrap .i64 (a-(IntKind.wrap .i64 (16*(Int.tmod c f)))))) (DG 16 (IntKind.wrap .i64 (b-(IntKind.wrap .i64 (16*(IntKind.wrap .i64 (Int.tdiv c f))))))) w.drew)) (ok 37) OO [] Tryz.func62
noncomputable def Lz:cA:=[(5,sp 0 19 (.op 19 .done))]
def Kn:=λa b c d w Q=>bB (uj a b c d w Q) (qy a b c w λe f w=>lX d 0 (IntKind.wrap .i64 ((IntKind.wrap .i64 (e*f))-1)) w λg w=>cond (!g) (Q (-1) w) (kU a b w λi j w=>NZ i<|NZ e<|NZ i<|NZ e<|Q (IntKind.wrap .i64 ((IntKind.wrap .i64 ((IntKind.wrap .i64 ((IntKind.wrap .i64 ((IntKind.wrap .i64 (16*(IntKind.wrap .i64 (Int.tdiv c i))))+(IntKind.wrap .i64 (Int.tdiv d e))))*a))+(IntKind.wrap .i64 (16*(Int.tmod c i)))))+(Int.tmod d e))) w.drew)) (ok 52) Lz [] Tryz.func63
def m_ (Q:Int->Int->L3 WP)(R4:Int->Addr->Addr->Int->Int->Addr->Int->WP)(a:Int)(b c:Addr)(d e:Int)(f:Addr)(g:Int)(w:World):Prop:=cond (decide (g<(IntKind.wrap .i64 (d*e)))) (aA (f.add 2) w.drew λi j l=>aA (b.add 2) w.drew λm n o=>af .i64 b w.drew λp=>af .i64 (b.add 1) w.drew λq=>uj p q a g w.drew λr w=>w.cell? (b.add 2)=some (.slice m n o)/\w.cell? (f.add 2)=some (.slice i j l)/\(aH r n<|wA m λs=>af .u8 (s.add (r.toNat*1)) w λt=>Bx [.int .u8 t] 5 w λu w=>w.cell? (f.add 2)=some (.slice i j l)/\App P #[22,22] 22 (.slice i j l) (.slice (some u) 1 1) w λv x y w=>St (f.add 2) (.slice v x y) w λw=>R4 a b c d e f (IntKind.wrap .i64 (g+1)) w)) (af .i64 (f.add 0) w λz=>af .i64 (f.add 1) w λa1=>aA (f.add 2) w λb1 c1 d1=>St (c.add 0) (ae z) w λw=>St (c.add 1) (ae a1) w λw=>St (c.add 2) (.slice b1 c1 d1) w λw=>af .i64 (c.add 0) w λe1=>af .i64 (c.add 1) w λf1=>aA (c.add 2) w λg1 i1 j1=>Q e1 f1 g1 i1 j1 w)
def kB (Q:Int->Int->L3 WP):Nat->Int->Addr->Addr->Int->Int->Addr->Int->WP
 |0,_,_,_,_,_,_,_,_=>False
 |k+1,a,b,c,d,e,f,g,w=>m_ Q (kB Q k) a b c d e f g w
noncomputable def Cq:cA:=[(6,sp 0 10 (.op 10 (sp 11 2 (.op 13 (.op 14 (.op 15 (.op 16 .done)))))))]
def MU (Q):∀k,Bk 45 Tryz.f31 (Ds Q) 4 [(1,.i .i64),(2,.a),(4,.a),(5,.i .i64),(6,.i .i64),(7,.a),(8,.i .i64)] (kB Q k):=bI λk h=>aU (ok 45) Cq [aL h]
def Ko:=λa b c d e f w Q=>bB (t_ a b c d e f w Q) (Bx [ae a,ae b,.slice c d e] 25 w λg w=>Al T 84 w λi w=>af .i64 g w λj=>af .i64 (g.add 1) w λl=>qy j l f w λm n w=>Al T 84 w λo w=>St (o.add 0) (ae m) w λw=>St (o.add 1) (ae n) w λw=>St (o.add 2) (.slice none 0 0) w λw=>∃k',kB Q k' f g i m n o 0 w) (ok 45) Cq [bY (MU Q)] Tryz.func31
def wP (Q:L3 WP)(R3:Addr->L3 (Int->WP))(a:Addr)(b:OA)(c d:Nat)(e:Int)(w:World):Prop:=af .i64 a w λf=>af .i64 (a.add 1) w λg=>pE f g w λi w=>cond (decide (e<i)) (af .i64 (a.add 0) w λj=>af .i64 (a.add 1) w λl=>aA (a.add 2) w λm n o=>t_ j l m n o e w λp q r s t w=>s_ p q r s t w λu v x y w=>App P #[22,22] 22 (.slice b c d) (.slice v x y) w λz a1 b1 w=>R3 a z a1 b1 (IntKind.wrap .i64 (e+1)) w) (Q b c d w)
def kC (Q:L3 WP):Nat->Addr->L3 (Int->WP)
 |0,_,_,_,_,_,_=>False
 |k+1,a,b,c,d,e,w=>wP Q (kC Q k) a b c d e w
def MV (Q):∀k,Bk 42 Tryz.f13 (Dr Q) 3 [(1,.a),(3,.l),(4,.i .i64)] (kC Q k):=bI λk h=>aU (ok 42) [] [aL h]
def Kq:=λa b c d e w Q=>bB (lK a b c d e w Q) (Bx [ae a,ae b,.slice c d e] 25 w λf w=>af .i64 f w λg=>af .i64 f w λi=>D3 8<|af .i64 (f.add 1) w λj=>af .i64 (f.add 1) w λl=>D3 8<|Bx [.int .u8 (IntKind.wrap .u8 g),.int .u8 (IntKind.wrap .u8 (pA .i64 i 8)),.int .u8 (IntKind.wrap .u8 j),.int .u8 (IntKind.wrap .u8 (pA .i64 l 8))] 5 w λm w=>∃k',kC Q k' f (some m) 4 4 0 w) (ok 42) [] [bY (MV Q)] Tryz.func13
def QF:=λa w Q=>bB (Fo a w Q) (cond a.isNone (Q none w) (wA a λb=>bg (b.add 2) w λc=>Q c w)) (ok 9) [] [] Tryz.func32
def MW:=λa w Q=>bB (qv a w Q) (Fo a w λb w=>m6 b w λc d e w=>Q c d e w) (ok 6) [] [] Tryz.func14
def nf (Q:Bool->WP)(R4:L3 (L3 (Int->WP)))(a:OA)(b c:Nat)(d:OA)(e f:Nat)(g:Int)(w:World):Prop:=cond (decide (g<(b:Int))) (aH g b<|wA a λi=>af .i64 ((i.add (g.toNat*2)).add 0) w.drew λj=>af .i64 ((i.add (g.toNat*2)).add 1) w.drew λl=>aH g e<|wA d λm=>af .i64 ((m.add (g.toNat*2)).add 0) w.drew λn=>af .i64 ((m.add (g.toNat*2)).add 1) w.drew λo=>bU P .neq 51 (.tmp 20) (.tmp 24) (.agg #[ae j,ae l]) (.agg #[ae n,ae o]) w.drew λp w=>cond p (Q false w) (R4 a b c d e f (IntKind.wrap .i64 (g+1)) w)) (Q true w)
def kE (Q:Bool->WP):Nat->L3 (L3 (Int->WP))
 |0,_,_,_,_,_,_,_,_=>False
 |k+1,a,b,c,d,e,f,g,w=>nf Q (kE Q k) a b c d e f g w
noncomputable def Cr:cA:=[(6,sp 0 8 (.op 8 .done))]
def MX (Q):∀k,Bk 26 Tryz.f34 (Dt Q) 4 [(0,.l),(1,.l),(5,.i .i64)] (kE Q k):=bI λk h=>aU (ok 26) Cr [aL h]
def Kr:=λa b c d e f w Q=>bB (ug a b c d e f w Q) (cond ((b:Int) !=(e:Int)) (Q false w) (∃k',kE Q k' a b c d e f 0 w)) (ok 26) Cr [bY (MX Q)] Tryz.func34
def MY:=λw Q=>bB (wv w Q) (Ex 1 2 w λa w=>cond a.isNone (Q false w) (Bx [.int .u8 5,.int .u8 2,.int .u8 9] 5 w λb w=>Al T 25 w λc w=>St (c.add 0) (ae 3) w λw=>St (c.add 1) (ae 1) w λw=>St (c.add 2) (.slice (some b) 3 3) w λw=>af .i64 (c.add 0) w λd=>af .i64 (c.add 1) w λe=>aA (c.add 2) w λf g i=>lK d e f g i w λj l m w=>jl a 1 0 0 j l m w λn o p q r s t u v x y z a1 b1 c1 d1 w=>Al T 34 w λe1 w=>St (e1.add 0) (ae n) w λw=>St (e1.add 1) (ae o) w λw=>St (e1.add 2) (ae p) w λw=>St (e1.add 3) (ae q) w λw=>St (e1.add 4) (.slice r s t) w λw=>St (e1.add 5) (.slice u v x) w λw=>St (e1.add 6) (.int .u64 y) w λw=>St (e1.add 7) (.int .u64 z) w λw=>St (e1.add 8) (.int .u64 a1) w λw=>St (e1.add 9) (.int .u64 b1) w λw=>St (e1.add 10) (.int .u64 c1) w λw=>St (e1.add 11) (.int .u64 d1) w λw=>jl a 3 0 2 none 0 0 w λf1 g1 i1 j1 l1 m1 n1 o1 p1 q1 r1 s1 t1 u1 v1 x1 w=>Al T 34 w λy1 w=>St (y1.add 0) (ae f1) w λw=>St (y1.add 1) (ae g1) w λw=>St (y1.add 2) (ae i1) w λw=>St (y1.add 3) (ae j1) w λw=>St (y1.add 4) (.slice l1 m1 n1) w λw=>St (y1.add 5) (.slice o1 p1 q1) w λw=>St (y1.add 6) (.int .u64 r1) w λw=>St (y1.add 7) (.int .u64 s1) w λw=>St (y1.add 8) (.int .u64 t1) w λw=>St (y1.add 9) (.int .u64 u1) w λw=>St (y1.add 10) (.int .u64 v1) w λw=>St (y1.add 11) (.int .u64 x1) w λw=>jl a 6 2 0 none 0 0 w λz1 a2 b2 c2 d2 e2 f2 g2 i2 j2 l2 m2 n2 o2 p2 q2 w=>Al T 34 w λr2 w=>St (r2.add 0) (ae z1) w λw=>St (r2.add 1) (ae a2) w λw=>St (r2.add 2) (ae b2) w λw=>St (r2.add 3) (ae c2) w λw=>St (r2.add 4) (.slice d2 e2 f2) w λw=>St (r2.add 5) (.slice g2 i2 j2) w λw=>St (r2.add 6) (.int .u64 l2) w λw=>St (r2.add 7) (.int .u64 m2) w λw=>St (r2.add 8) (.int .u64 n2) w λw=>St (r2.add 9) (.int .u64 o2) w λw=>St (r2.add 10) (.int .u64 p2) w λw=>St (r2.add 11) (.int .u64 q2) w λw=>jl a 7 0 0 none 0 0 w λs2 t2 u2 v2 x2 y2 z2 a3 b3 c3 d3 e3 f3 g3 i3 j3 w=>Al T 34 w λl3 w=>St (l3.add 0) (ae s2) w λw=>St (l3.add 1) (ae t2) w λw=>St (l3.add 2) (ae u2) w λw=>St (l3.add 3) (ae v2) w λw=>St (l3.add 4) (.slice x2 y2 z2) w λw=>St (l3.add 5) (.slice a3 b3 c3) w λw=>St (l3.add 6) (.int .u64 d3) w λw=>St (l3.add 7) (.int .u64 e3) w λw=>St (l3.add 8) (.int .u64 f3) w λw=>St (l3.add 9) (.int .u64 g3) w λw=>St (l3.add 10) (.int .u64 i3) w λw=>St (l3.add 11) (.int .u64 j3) w λw=>af .i64 e1 w λm3=>cond (m3==0) (af .i64 (y1.add 3) w λn3=>cond (n3==0) (af .i64 (r2.add 1) w λo3=>cond (o3==11) (af .i64 (r2.add 2) w λp3=>cond (p3==1) (aA (l3.add 4) w λq3 r3 s3=>Bx [ae 0,ae 1] 51 w λt3 w=>ug q3 r3 s3 (some t3) 1 1 w λu3 w=>cond u3 (qv a w λv3 x3 y3 w=>Q ((x3:Int)==1) w) (Q false w)) (Q false w)) (Q false w)) (Q false w)) (Q false w))) (ok 57) [] [] Tryz.func15
def MZ:=λa w Q=>bB (qx a w Q) (NZ 8<|cond ((Int.tmod a 8)==7) (Q 255 w) (cond (decide (a<160)) (NZ 4<|Q (IntKind.wrap .u8 (1+(Int.tmod a 4))) w) (Q a w))) (ok 12) [] [] Tryz.func36
def sR (P3:L3 (Addr->Addr->Int->WP))(Q:Int->Int->L3 WP)(a:OA)(b c:Nat)(d e:Addr)(f g:Int)(w:World):Prop:=aA (e.add 2) w.drew λi j l=>qx g w.drew λm w=>w.cell? (e.add 2)=some (.slice i j l)/\Bx [.int .u8 m] 5 w λn w=>w.cell? (e.add 2)=some (.slice i j l)/\App P #[22,22] 22 (.slice i j l) (.slice (some n) 1 1) w λo p q w=>St (e.add 2) (.slice o p q) w λw=>P3 a b c d e (IntKind.wrap .i64 (f+1)) w
def zF (Q:Int->Int->L3 WP)(R3:L3 (Addr->Addr->Int->WP))(a:OA)(b c:Nat)(d e:Addr)(f:Int)(w:World):Prop:=af .i64 e w λg=>af .i64 (e.add 1) w λi=>cond (decide (f<(IntKind.wrap .i64 (g*i)))) (cond (decide ((b:Int)>0)) (NZ (b:Int)<|NZ (b:Int)<|aH (Int.tmod (IntKind.wrap .i64 (f+(IntKind.wrap .i64 ((IntKind.wrap .i64 (Int.tdiv f (b:Int)))*5)))) (b:Int)) b<|wA a λj=>af .u8 (j.add (((Int.tmod (IntKind.wrap .i64 (f+(IntKind.wrap .i64 ((IntKind.wrap .i64 (Int.tdiv f (b:Int)))*5)))) (b:Int))).toNat*1)) w λl=>sR R3 Q a b c d e f l w) (sR R3 Q a b c d e f 1 w)) (af .i64 (e.add 0) w λm=>af .i64 (e.add 1) w λn=>aA (e.add 2) w λo p q=>St (d.add 0) (ae m) w λw=>St (d.add 1) (ae n) w λw=>St (d.add 2) (.slice o p q) w λw=>af .i64 (d.add 0) w λr=>af .i64 (d.add 1) w λs=>aA (d.add 2) w λt u v=>Q r s t u v w)
def jX (Q:Int->Int->L3 WP):Nat->L3 (Addr->Addr->Int->WP)
 |0,_,_,_,_,_,_,_=>False
 |k+1,a,b,c,d,e,f,w=>zF Q (jX Q k) a b c d e f w
noncomputable def yj:cA:=[(9,sp 0 3 (.op 3 (.op 4 (.op 5 (.op 6 (.op 7 .done))))))]
def QG {P3}(Q)(H3:Bk 48 Tryz.f35 (sw Q) 3 [(2,.l),(6,.a),(7,.a),(8,.i .i64)] P3):Bk 48 Tryz.f35 (sw Q) 9 [(2,.l),(6,.a),(7,.a),(8,.i .i64),(9,.i .u8)] (sR P3 Q):=aU (ok 48) yj [aL H3]
def QH (Q):∀k,Bk 48 Tryz.f35 (sw Q) 3 [(2,.l),(6,.a),(7,.a),(8,.i .i64)] (jX Q k):=bI λk h=>aU (ok 48) yj [aL (QG Q h)]
def M0:=λa b c d e w Q=>bB (qw a b c d e w Q) (Al T 25 w λf w=>a_ a 1 40 w λg w=>a_ b 1 40 w λi w=>Al T 25 w λj w=>St (j.add 0) (ae g) w λw=>St (j.add 1) (ae i) w λw=>St (j.add 2) (.slice none 0 0) w λw=>∃k',jX Q k' c d e f j 0 w) (ok 48) yj [bY (QH Q)] Tryz.func35
def iT (Q:Int->Int->Int->L3 WP)(a:Int)(b c d:Addr)(w:World):Prop:=af .i64 d w λe=>cond (e==1) (af .i64 (b.add 1) w.drew λf=>af .i64 (b.add 2) w.drew λg=>(Bx [.int .u8 2,.int .u8 0,.int .u8 1,.int .u8 0,.int .u8 1,.int .u8 (IntKind.wrap .u8 f),.int .u8 (IntKind.wrap .u8 g)] 5 w.drew λi w=>St (d.add 1) (ae 0) w λw=>w.cell? (b.add 2)=some (ae g)/\w.cell? (b.add 1)=some (ae f)/\St (d.add 2) (ae 0) w λw=>w.cell? (b.add 2)=some (ae g)/\w.cell? (b.add 1)=some (ae f)/\St (d.add 3) (.slice (some i) 7 7) w λw=>af .i64 (d.add 0) w λj=>af .i64 (d.add 1) w λl=>af .i64 (d.add 2) w λm=>aA (d.add 3) w λn o p=>St (c.add 0) (ae j) w λw=>St (c.add 1) (ae l) w λw=>St (c.add 2) (ae m) w λw=>St (c.add 3) (.slice n o p) w λw=>af .i64 (c.add 0) w λq=>af .i64 (c.add 1) w λr=>af .i64 (c.add 2) w λs=>aA (c.add 3) w λt u v=>Q q r s t u v w)/\(St (d.add 1) (ae 0) w.drew λw=>w.cell? (b.add 2)=some (ae g)/\w.cell? (b.add 1)=some (ae f)/\(Bx [.int .u8 2,.int .u8 0,.int .u8 1,.int .u8 0,.int .u8 1,.int .u8 (IntKind.wrap .u8 f),.int .u8 (IntKind.wrap .u8 g)] 5 w λx w=>St (d.add 2) (ae 0) w λw=>w.cell? (b.add 2)=some (ae g)/\w.cell? (b.add 1)=some (ae f)/\St (d.add 3) (.slice (some x) 7 7) w λw=>af .i64 (d.add 0) w λy=>af .i64 (d.add 1) w λz=>af .i64 (d.add 2) w λa1=>aA (d.add 3) w λb1 c1 d1=>St (c.add 0) (ae y) w λw=>St (c.add 1) (ae z) w λw=>St (c.add 2) (ae a1) w λw=>St (c.add 3) (.slice b1 c1 d1) w λw=>af .i64 (c.add 0) w λe1=>af .i64 (c.add 1) w λf1=>af .i64 (c.add 2) w λg1=>aA (c.add 3) w λi1 j1 l1=>Q e1 f1 g1 i1 j1 l1 w)/\(St (d.add 2) (ae 0) w λw=>w.cell? (b.add 2)=some (ae g)/\w.cell? (b.add 1)=some (ae f)/\Bx [.int .u8 2,.int .u8 0,.int .u8 1,.int .u8 0,.int .u8 1,.int .u8 (IntKind.wrap .u8 f),.int .u8 (IntKind.wrap .u8 g)] 5 w λm1 w=>St (d.add 3) (.slice (some m1) 7 7) w λw=>af .i64 (d.add 0) w λn1=>af .i64 (d.add 1) w λo1=>af .i64 (d.add 2) w λp1=>aA (d.add 3) w λq1 r1 s1=>St (c.add 0) (ae n1) w λw=>St (c.add 1) (ae o1) w λw=>St (c.add 2) (ae p1) w λw=>St (c.add 3) (.slice q1 r1 s1) w λw=>af .i64 (c.add 0) w λt1=>af .i64 (c.add 1) w λu1=>af .i64 (c.add 2) w λv1=>aA (c.add 3) w λx1 y1 z1=>Q t1 u1 v1 x1 y1 z1 w))) (cond (e==2) (af .i64 (b.add 1) w λa2=>a_ a2 0 (IntKind.wrap .i64 (a-1)) w λb2 w=>St (d.add 1) (ae b2) w λw=>af .i64 (b.add 1) w λc2=>a_ c2 0 1 w λd2 w=>St (d.add 2) (ae (IntKind.wrap .i64 (d2*255))) w λw=>af .i64 (d.add 0) w λe2=>af .i64 (d.add 1) w λf2=>af .i64 (d.add 2) w λg2=>aA (d.add 3) w λi2 j2 l2=>St (c.add 0) (ae e2) w λw=>St (c.add 1) (ae f2) w λw=>St (c.add 2) (ae g2) w λw=>St (c.add 3) (.slice i2 j2 l2) w λw=>af .i64 (c.add 0) w λm2=>af .i64 (c.add 1) w λn2=>af .i64 (c.add 2) w λo2=>aA (c.add 3) w λp2 q2 r2=>Q m2 n2 o2 p2 q2 r2 w) (cond (e==5) (St (d.add 2) (ae 0) w λw=>af .i64 (d.add 0) w λs2=>af .i64 (d.add 1) w λt2=>af .i64 (d.add 2) w λu2=>aA (d.add 3) w λv2 x2 y2=>St (c.add 0) (ae s2) w λw=>St (c.add 1) (ae t2) w λw=>St (c.add 2) (ae u2) w λw=>St (c.add 3) (.slice v2 x2 y2) w λw=>af .i64 (c.add 0) w λz2=>af .i64 (c.add 1) w λa3=>af .i64 (c.add 2) w λb3=>aA (c.add 3) w λc3 d3 e3=>Q z2 a3 b3 c3 d3 e3 w) (af .i64 (d.add 0) w λf3=>af .i64 (d.add 1) w λg3=>af .i64 (d.add 2) w λi3=>aA (d.add 3) w λj3 l3 m3=>St (c.add 0) (ae f3) w λw=>St (c.add 1) (ae g3) w λw=>St (c.add 2) (ae i3) w λw=>St (c.add 3) (.slice j3 l3 m3) w λw=>af .i64 (c.add 0) w λn3=>af .i64 (c.add 1) w λo3=>af .i64 (c.add 2) w λp3=>aA (c.add 3) w λq3 r3 s3=>Q n3 o3 p3 q3 r3 s3 w)))
noncomputable def Eg:cA:=[(1,sp 0 2 (sp 3 3 (sp 8 2 (.br (.op 2 (.br (.op 6 (.op 7 (.br (.op 10 (.op 11 (.op 12 (.op 13 .done)))) (.op 12 (.op 10 (.op 11 (.op 13 .done))))))) (.op 12 (.op 6 (.op 7 (.op 10 (.op 11 (.op 13 .done)))))))) (.op 12 (.op 2 (.op 6 (.op 7 (.op 10 (.op 11 (.op 13 .done))))))))))),(4,sp 0 6 (.op 7 (.br (.op 6 (.op 8 (.op 9 (.op 10 (.op 11 (.op 12 .done)))))) (.op 8 (.op 9 (.br (.op 6 (.op 10 (.op 11 (.op 12 .done)))) (.op 10 (.op 6 (.op 11 (.op 12 .done))))))))))]
def QI (Q):Bk 49 Tryz.f37 (Fp Q) 2 [(1,.i .i64),(2,.a),(4,.a),(5,.a)] (iT Q):=aU (ok 49) Eg []
def M1:=λa b c d w Q=>bB (wC a b c d w Q) (Bx [ae a,ae b,ae c] 90 w λe w=>Al T 38 w λf w=>af .i64 (e.add 2) w.drew λg=>af .i64 (e.add 1) w.drew λi=>af .i64 (e.add 1) w.drew λj=>(a_ g 1 6 w.drew λl w=>w.cell? (e.add 1)=some (ae j)/\w.cell? (e.add 1)=some (ae i)/\(a_ i 0 5 w λm w=>w.cell? (e.add 1)=some (ae j)/\(a_ j 0 9 w λn w=>Al T 38 w λo w=>w.cell? (e.add 1)=some (ae j)/\w.cell? (e.add 1)=some (ae i)/\w.cell? (e.add 2)=some (ae g)/\St (o.add 0) (ae l) w λw=>St (o.add 1) (ae (IntKind.wrap .i64 (d+m))) w λw=>St (o.add 2) (ae n) w λw=>St (o.add 3) (.slice none 0 0) w λw=>iT Q d e f o w)/\(Al T 38 w λp w=>w.cell? (e.add 1)=some (ae j)/\w.cell? (e.add 1)=some (ae i)/\w.cell? (e.add 2)=some (ae g)/\a_ j 0 9 w λq w=>St (p.add 0) (ae l) w λw=>St (p.add 1) (ae (IntKind.wrap .i64 (d+m))) w λw=>St (p.add 2) (ae q) w λw=>St (p.add 3) (.slice none 0 0) w λw=>iT Q d e f p w))/\(Al T 38 w λr w=>w.cell? (e.add 1)=some (ae j)/\w.cell? (e.add 1)=some (ae i)/\w.cell? (e.add 2)=some (ae g)/\a_ i 0 5 w λs w=>w.cell? (e.add 1)=some (ae j)/\a_ j 0 9 w λt w=>St (r.add 0) (ae l) w λw=>St (r.add 1) (ae (IntKind.wrap .i64 (d+s))) w λw=>St (r.add 2) (ae t) w λw=>St (r.add 3) (.slice none 0 0) w λw=>iT Q d e f r w))/\(Al T 38 w.drew λu w=>w.cell? (e.add 1)=some (ae j)/\w.cell? (e.add 1)=some (ae i)/\w.cell? (e.add 2)=some (ae g)/\a_ g 1 6 w λv w=>w.cell? (e.add 1)=some (ae j)/\w.cell? (e.add 1)=some (ae i)/\a_ i 0 5 w λx w=>w.cell? (e.add 1)=some (ae j)/\a_ j 0 9 w λy w=>St (u.add 0) (ae v) w λw=>St (u.add 1) (ae (IntKind.wrap .i64 (d+x))) w λw=>St (u.add 2) (ae y) w λw=>St (u.add 3) (.slice none 0 0) w λw=>iT Q d e f u w)) (ok 49) Eg [aL (QI Q)] Tryz.func37
def cO (P5:Int->Int->L3 (L3 (Addr->L3 (Int->Int->WP))))(Q:L3 WP)(a b:Int)(c:OA)(d e:Nat)(f:OA)(g i:Nat)(j:Addr)(l:OA)(m n:Nat)(o p:Int)(q:Addr)(w:World):Prop:=af .i64 (q.add 0) w λr=>af .i64 (q.add 1) w λs=>af .i64 (q.add 2) w λt=>aA (q.add 3) w λu v x=>Bx [ae r,ae s,ae t,.slice u v x] 38 w λy w=>App P #[46,46] 46 (.slice l m n) (.slice (some y) 1 1) w λz a1 b1 w=>P5 a b c d e f g i j z a1 b1 o (IntKind.wrap .i64 (p+1)) w
def ng (P5:Int->Int->L3 (L3 (Addr->L3 (Int->Int->WP))))(Q:L3 WP)(a b:Int)(c:OA)(d e:Nat)(f:OA)(g i:Nat)(j:Addr)(l:OA)(m n:Nat)(o p:Int)(q:Addr)(w:World):Prop:=St q (ae 3) w λw=>cO P5 Q a b c d e f g i j l m n o p q w
def qE (P5:Int->Int->L3 (L3 (Addr->L3 (Int->Int->WP))))(Q:L3 WP)(a b:Int)(c:OA)(d e:Nat)(f:OA)(g i:Nat)(j:Addr)(l:OA)(m n:Nat)(o p:Int)(q r:Addr)(w:World):Prop:=af .i64 (q.add 2) w λs=>qx (IntKind.wrap .u8 s) w λt w=>St r (ae 2) w λw=>St (r.add 2) (ae (IntKind.wrap .i64 t)) w λw=>cO P5 Q a b c d e f g i j l m n o p r w
def jz (P5:Int->Int->L3 (L3 (Addr->L3 (Int->Int->WP))))(Q:L3 WP)(a b:Int)(c:OA)(d e:Nat)(f:OA)(g i:Nat)(j:Addr)(l:OA)(m n:Nat)(o p:Int)(q r:Addr)(w:World):Prop:=af .i64 q w λs=>a_ s 0 15 w λt w=>cond (t==0) (ng P5 Q a b c d e f g i j l m n o p r w) (cond (t==1) (ng P5 Q a b c d e f g i j l m n o p r w) (cond (t==2) (ng P5 Q a b c d e f g i j l m n o p r w) (cond (t==3) (af .i64 (q.add 1) w λu=>a_ u 0 9 w λv w=>St r (ae 4) w λw=>St (r.add 1) (ae v) w λw=>cO P5 Q a b c d e f g i j l m n o p r w) (cond (t==4) (af .i64 (q.add 1) w λx=>a_ x 0 9 w λy w=>St r (ae 5) w λw=>St (r.add 1) (ae y) w λw=>St (r.add 2) (ae 0) w λw=>cO P5 Q a b c d e f g i j l m n o p r w) (cond (t==5) (qE P5 Q a b c d e f g i j l m n o p q r w) (cond (t==6) (qE P5 Q a b c d e f g i j l m n o p q r w) (cond (t==7) (St r (ae 6) w λw=>cO P5 Q a b c d e f g i j l m n o p r w) (cond (t==8) (St r (ae 6) w λw=>cO P5 Q a b c d e f g i j l m n o p r w) (cond (t==9) (St (r.add 0) (ae 8) w λw=>St (r.add 1) (ae 0) w λw=>St (r.add 2) (ae 0) w λw=>St (r.add 3) (.slice none 0 0) w λw=>cO P5 Q a b c d e f g i j l m n o p r w) (cond (t==10) (af .i64 (q.add 1) w λz=>NZ 4<|cond ((Int.tmod z 4)==0) (af .i64 (q.add 1) w λa1=>NZ 4<|af .i64 (q.add 2) w λb1=>qw (IntKind.wrap .i64 (a+(IntKind.wrap .i64 (Int.tdiv a1 4)))) (IntKind.wrap .i64 (b+b1)) c d e w λc1 d1 e1 f1 g1 w=>St (j.add 0) (ae c1) w λw=>St (j.add 1) (ae d1) w λw=>St (j.add 2) (.slice e1 f1 g1) w λw=>aA (j.add 2) w λi1 j1 l1=>af .i64 (j.add 0) w λm1=>af .i64 (j.add 1) w λn1=>aA (j.add 2) w λo1 p1 q1=>lK m1 n1 o1 p1 q1 w λr1 s1 t1 w=>St (r.add 0) (ae 1) w λw=>St (r.add 1) (ae 0) w λw=>St (r.add 2) (ae 0) w λw=>St (r.add 3) (.slice r1 s1 t1) w λw=>cO P5 Q a b c d e f g i j l m n (j1:Int) p r w) (af .i64 (q.add 2) w λu1=>a_ u1 0 200 w λv1 w=>St (r.add 0) (ae 0) w λw=>St (r.add 1) (ae (IntKind.wrap .i64 (9+v1))) w λw=>St (r.add 2) (ae 0) w λw=>St (r.add 3) (.slice none 0 0) w λw=>cO P5 Q a b c d e f g i j l m n o p r w)) (cond (t==11) (af .i64 (q.add 0) w λx1=>af .i64 (q.add 1) w λy1=>af .i64 (q.add 2) w λz1=>wC x1 y1 z1 o w λa2 b2 c2 d2 e2 f2 w=>St (r.add 0) (ae a2) w λw=>St (r.add 1) (ae b2) w λw=>St (r.add 2) (ae c2) w λw=>St (r.add 3) (.slice d2 e2 f2) w λw=>cO P5 Q a b c d e f g i j l m n o p r w) (St (r.add 0) (ae 7) w λw=>St (r.add 1) (ae 0) w λw=>St (r.add 2) (ae 0) w λw=>St (r.add 3) (.slice none 0 0) w λw=>cO P5 Q a b c d e f g i j l m n o p r w))))))))))))
def nV (Q:L3 WP)(R5:Int->Int->L3 (L3 (Addr->L3 (Int->Int->WP))))(a b:Int)(c:OA)(d e:Nat)(f:OA)(g i:Nat)(j:Addr)(l:OA)(m n:Nat)(o p:Int)(w:World):Prop:=cond (decide (p<(g:Int))) (cond (decide (p<60)) (aH p g<|wA f λq=>af .i64 ((q.add (p.toNat*3)).add 0) w λr=>af .i64 ((q.add (p.toNat*3)).add 1) w λs=>af .i64 ((q.add (p.toNat*3)).add 2) w λt=>Al T 90 w λu w=>St (u.add 0) (ae r) w λw=>St (u.add 1) (ae s) w λw=>St (u.add 2) (ae t) w λw=>af .i64 (u.add 1) w.drew λv=>af .i64 (u.add 2) w.drew λx=>(a_ v 0 (IntKind.wrap .i64 (o-1)) w.drew λy w=>w.cell? (u.add 2)=some (ae x)/\(a_ x 0 (IntKind.wrap .i64 (o-1)) w λz w=>Al T 38 w λa1 w=>w.cell? (u.add 2)=some (ae x)/\w.cell? (u.add 1)=some (ae v)/\St (a1.add 0) (ae 0) w λw=>St (a1.add 1) (ae y) w λw=>St (a1.add 2) (ae z) w λw=>St (a1.add 3) (.slice none 0 0) w λw=>jz R5 Q a b c d e f g i j l m n o p u a1 w)/\(Al T 38 w λb1 w=>w.cell? (u.add 2)=some (ae x)/\w.cell? (u.add 1)=some (ae v)/\a_ x 0 (IntKind.wrap .i64 (o-1)) w λc1 w=>St (b1.add 0) (ae 0) w λw=>St (b1.add 1) (ae y) w λw=>St (b1.add 2) (ae c1) w λw=>St (b1.add 3) (.slice none 0 0) w λw=>jz R5 Q a b c d e f g i j l m n o p u b1 w))/\(Al T 38 w.drew λd1 w=>w.cell? (u.add 2)=some (ae x)/\w.cell? (u.add 1)=some (ae v)/\a_ v 0 (IntKind.wrap .i64 (o-1)) w λe1 w=>w.cell? (u.add 2)=some (ae x)/\a_ x 0 (IntKind.wrap .i64 (o-1)) w λf1 w=>St (d1.add 0) (ae 0) w λw=>St (d1.add 1) (ae e1) w λw=>St (d1.add 2) (ae f1) w λw=>St (d1.add 3) (.slice none 0 0) w λw=>jz R5 Q a b c d e f g i j l m n o p u d1 w)) (Q l m n w)) (Q l m n w)
def jA (Q:L3 WP):Nat->Int->Int->L3 (L3 (Addr->L3 (Int->Int->WP)))
 |0,_,_,_,_,_,_,_,_,_,_,_,_,_,_,_=>False
 |k+1,a,b,c,d,e,f,g,i,j,l,m,n,o,p,w=>nV Q (jA Q k) a b c d e f g i j l m n o p w
noncomputable def kF:cA:=[(8,sp 0 4 (sp 5 4 (.br (.op 4 (.br (.op 9 (.op 10 (.op 11 (.op 12 .done)))) (.op 11 (.op 9 (.op 10 (.op 12 .done)))))) (.op 11 (.op 4 (.op 9 (.op 10 (.op 12 .done))))))))]
def wQ {P5}(Q)(H5:Bk 130 Tryz.f16 (fP Q) 5 [(0,.i .i64),(1,.i .i64),(2,.l),(3,.l),(9,.a),(10,.l),(11,.i .i64),(12,.i .i64)] P5):Bk 130 Tryz.f16 (fP Q) 35 [(0,.i .i64),(1,.i .i64),(2,.l),(3,.l),(9,.a),(10,.l),(11,.i .i64),(12,.i .i64),(14,.a)] (cO P5 Q):=aU (ok 130) kF [aL H5]
def M3 {P5}(Q)(H5:Bk 130 Tryz.f16 (fP Q) 5 [(0,.i .i64),(1,.i .i64),(2,.l),(3,.l),(9,.a),(10,.l),(11,.i .i64),(12,.i .i64)] P5):Bk 130 Tryz.f16 (fP Q) 14 [(0,.i .i64),(1,.i .i64),(2,.l),(3,.l),(9,.a),(10,.l),(11,.i .i64),(12,.i .i64),(14,.a)] (ng P5 Q):=aU (ok 130) kF [aL (wQ Q H5)]
def M4 {P5}(Q)(H5:Bk 130 Tryz.f16 (fP Q) 5 [(0,.i .i64),(1,.i .i64),(2,.l),(3,.l),(9,.a),(10,.l),(11,.i .i64),(12,.i .i64)] P5):Bk 130 Tryz.f16 (fP Q) 21 [(0,.i .i64),(1,.i .i64),(2,.l),(3,.l),(9,.a),(10,.l),(11,.i .i64),(12,.i .i64),(13,.a),(14,.a)] (qE P5 Q):=aU (ok 130) kF [aL (wQ Q H5)]
def OP {P5}(Q)(H5:Bk 130 Tryz.f16 (fP Q) 5 [(0,.i .i64),(1,.i .i64),(2,.l),(3,.l),(9,.a),(10,.l),(11,.i .i64),(12,.i .i64)] P5):Bk 130 Tryz.f16 (fP Q) 9 [(0,.i .i64),(1,.i .i64),(2,.l),(3,.l),(9,.a),(10,.l),(11,.i .i64),(12,.i .i64),(13,.a),(14,.a)] (jz P5 Q):=aU (ok 130) kF [aL (M3 Q H5),aL (M4 Q H5),aL (wQ Q H5)]
def OQ (Q):∀k,Bk 130 Tryz.f16 (fP Q) 5 [(0,.i .i64),(1,.i .i64),(2,.l),(3,.l),(9,.a),(10,.l),(11,.i .i64),(12,.i .i64)] (jA Q k):=bI λk h=>aU (ok 130) kF [aL (OP Q h)]
def LA:=λa b c d e f g i w Q=>bB (vh a b c d e f g i w Q) (qw a b c d e w λj l m n o w=>Al T 25 w λp w=>St (p.add 0) (ae j) w λw=>St (p.add 1) (ae l) w λw=>St (p.add 2) (.slice m n o) w λw=>af .i64 (p.add 0) w λq=>af .i64 (p.add 1) w λr=>aA (p.add 2) w λs t u=>lK q r s t u w λv x y w=>Bx [ae 1,ae 0,ae 0,.slice v x y] 38 w λz w=>aA (p.add 2) w λa1 b1 c1=>∃k',jA Q k' a b c d e f g i p (some z) 1 1 (b1:Int) 0 w) (ok 130) kF [bY (OQ Q)] Tryz.func16
def QJ:=λa b c d w Q=>bB (yV a b c d w Q) (bS a b c 3 none (some (DG (b:Int) d)) λe f g=>Q e f g w) (ok 11) [] [] Tryz.func17
def nh (P8:L3 (OA->Int->L3 (Int->WP)))(Q:Bool->WP)(R44:L3 (OA->Int->L3 (Int->L3 (Int->Int->WP))))(a:OA)(b c:Nat)(d:OA)(e:Int)(f:OA)(g i:Nat)(j:Int)(l:OA)(m n:Nat)(o p:Int)(w:World):Prop:=cond (decide (p<(m:Int))) (aH p m<|wA l λq=>af .i64 (q.add (p.toNat*3)) w λr=>cond (decide (r<0)) (Q false w) (aH p m<|wA l λs=>af .i64 (s.add (p.toNat*3)) w λt=>cond (decide (t≥e)) (Q false w) (aH p m<|wA l λu=>af .i64 (u.add (p.toNat*3)) w λv=>aH v g<|wA f λx=>cv (x.add (v.toNat*1)) w λy=>cond (!y) (Q false w) (R44 a b c d e f g i j l m n o (IntKind.wrap .i64 (p+1)) w)))) (cond (o !=(m:Int)) (Q false w) (P8 a b c d e f g i (IntKind.wrap .i64 (j+1)) w))
def qF (P8:L3 (OA->Int->L3 (Int->WP)))(Q:Bool->WP):Nat->L3 (OA->Int->L3 (Int->L3 (Int->Int->WP)))
 |0,_,_,_,_,_,_,_,_,_,_,_,_,_,_,_=>False
 |k+1,a,b,c,d,e,f,g,i,j,l,m,n,o,p,w=>nh P8 Q (qF P8 Q k) a b c d e f g i j l m n o p w
def ni (P8:L3 (OA->Int->L3 (Int->WP)))(Q:Bool->WP)(R39:L3 (OA->Int->L3 (Int->L3 (Int->Int->WP))))(a:OA)(b c:Nat)(d:OA)(e:Int)(f:OA)(g i:Nat)(j:Int)(l:OA)(m n:Nat)(o p:Int)(w:World):Prop:=cond (decide (p<(g:Int))) (aH p g<|wA f λq=>cv (q.add (p.toNat*1)) w λr=>cond r (R39 a b c d e f g i j l m n (IntKind.wrap .i64 (o+1)) (IntKind.wrap .i64 (p+1)) w) (R39 a b c d e f g i j l m n o (IntKind.wrap .i64 (p+1)) w)) (∃k',qF P8 Q k' a b c d e f g i j l m n o 0 w)
def qG (P8:L3 (OA->Int->L3 (Int->WP)))(Q:Bool->WP):Nat->L3 (OA->Int->L3 (Int->L3 (Int->Int->WP)))
 |0,_,_,_,_,_,_,_,_,_,_,_,_,_,_,_=>False
 |k+1,a,b,c,d,e,f,g,i,j,l,m,n,o,p,w=>ni P8 Q (qG P8 Q k) a b c d e f g i j l m n o p w
def nj (P8:L3 (OA->Int->L3 (Int->WP)))(Q:Bool->WP)(R30:L3 (OA->Int->L3 (Int->Addr->Int->WP)))(a:OA)(b c:Nat)(d:OA)(e:Int)(f:OA)(g i:Nat)(j:Int)(l:Addr)(m:Int)(w:World):Prop:=aA (l.add 5) w λn o p=>cond (decide (m<(o:Int))) (aA (l.add 5) w λq r s=>aH m r<|wA q λt=>af .i64 (t.add (m.toNat*1)) w λu=>cond (decide (u<0)) (Q false w) (cond (decide (u≥e)) (Q false w) (aH u g<|wA f λv=>cv (v.add (u.toNat*1)) w λx=>cond (!x) (Q false w) (aH u g<|wA f λy=>St (y.add (u.toNat*1)) (.bool false) w λw=>R30 a b c d e f g i j l (IntKind.wrap .i64 (m+1)) w)))) (qv d w λz a1 b1 w=>∃k',qG P8 Q k' a b c d e f g i j z a1 b1 0 0 w)
def qH (P8:L3 (OA->Int->L3 (Int->WP)))(Q:Bool->WP):Nat->L3 (OA->Int->L3 (Int->Addr->Int->WP))
 |0,_,_,_,_,_,_,_,_,_,_,_,_=>False
 |k+1,a,b,c,d,e,f,g,i,j,l,m,w=>nj P8 Q (qH P8 Q k) a b c d e f g i j l m w
def nk (P8:L3 (OA->Int->L3 (Int->WP)))(Q:Bool->WP)(R24:L3 (OA->Int->L3 (Int->Addr->Int->WP)))(a:OA)(b c:Nat)(d:OA)(e:Int)(f:OA)(g i:Nat)(j:Int)(l:Addr)(m:Int)(w:World):Prop:=aA (l.add 4) w λn o p=>cond (decide (m<(o:Int))) (aA (l.add 4) w λq r s=>aH m r<|wA q λt=>af .i64 (t.add (m.toNat*2)) w λu=>cond (decide (u<0)) (Q false w) (cond (decide (u≥e)) (Q false w) (aH u g<|wA f λv=>cv (v.add (u.toNat*1)) w λx=>cond (!x) (Q false w) (R24 a b c d e f g i j l (IntKind.wrap .i64 (m+1)) w)))) (∃k',qH P8 Q k' a b c d e f g i j l 0 w)
def dG (P8:L3 (OA->Int->L3 (Int->WP)))(Q:Bool->WP):Nat->L3 (OA->Int->L3 (Int->Addr->Int->WP))
 |0,_,_,_,_,_,_,_,_,_,_,_,_=>False
 |k+1,a,b,c,d,e,f,g,i,j,l,m,w=>nk P8 Q (dG P8 Q k) a b c d e f g i j l m w
def kG (P8:L3 (OA->Int->L3 (Int->WP)))(Q:Bool->WP)(a:OA)(b c:Nat)(d:OA)(e:Int)(f:OA)(g i:Nat)(j:Int)(l:Addr)(w:World):Prop:=aH j b<|wA a λm=>af .i64 ((m.add (j.toNat*4)).add 1) w λn=>cond (decide (n≥e)) (Q false w) (aH j b<|wA a λo=>af .i64 ((o.add (j.toNat*4)).add 1) w λp=>aH p g<|wA f λq=>cv (q.add (p.toNat*1)) w λr=>cond (!r) (Q false w) (aH j b<|wA a λs=>af .i64 ((s.add (j.toNat*4)).add 1) w λt=>aH t g<|wA f λu=>St (u.add (t.toNat*1)) (.bool false) w λw=>∃k',dG P8 Q k' a b c d e f g i j l 0 w))
def nq (P8:L3 (OA->Int->L3 (Int->WP)))(Q:Bool->WP)(a:OA)(b c:Nat)(d:OA)(e:Int)(f:OA)(g i:Nat)(j:Int)(l:Addr)(w:World):Prop:=aH j b<|wA a λm=>af .i64 (m.add (j.toNat*4)) w λn=>cond (n==4) (af .i64 l w λo=>cond (o==13) (kG P8 Q a b c d e f g i j l w) (∃k',dG P8 Q k' a b c d e f g i j l 0 w)) (∃k',dG P8 Q k' a b c d e f g i j l 0 w)
def nu (P8:L3 (OA->Int->L3 (Int->WP)))(Q:Bool->WP)(a:OA)(b c:Nat)(d:OA)(e:Int)(f:OA)(g i:Nat)(j:Int)(l:Addr)(w:World):Prop:=aH j b<|wA a λm=>af .i64 (m.add (j.toNat*4)) w λn=>cond (n==5) (af .i64 l w λo=>cond (o==0) (kG P8 Q a b c d e f g i j l w) (nq P8 Q a b c d e f g i j l w)) (nq P8 Q a b c d e f g i j l w)
def jh (P8:L3 (OA->Int->L3 (Int->WP)))(Q:Bool->WP)(a:OA)(b c:Nat)(d:OA)(e:Int)(f:OA)(g i:Nat)(j:Int)(l:Addr)(w:World):Prop:=aH j b<|wA a λm=>af .i64 (m.add (j.toNat*4)) w λn=>cond (n==3) (af .i64 l w λo=>cond (o==0) (af .i64 (l.add 3) w λp=>cond (p !=e) (Q false w) (cond (decide (e≥(g:Int))) (Q false w) (aH e g<|wA f λq=>St (q.add (e.toNat*1)) (.bool true) w λw=>∃k',dG P8 Q k' a b c d (IntKind.wrap .i64 (e+1)) f g i j l 0 w))) (nu P8 Q a b c d e f g i j l w)) (nu P8 Q a b c d e f g i j l w)
def nW (Q:Bool->WP)(R8:L3 (OA->Int->L3 (Int->WP)))(a:OA)(b c:Nat)(d:OA)(e:Int)(f:OA)(g i:Nat)(j:Int)(w:World):Prop:=cond (decide (j<(b:Int))) (aH j b<|wA a λl=>af .i64 ((l.add (j.toNat*4)).add 0) w λm=>af .i64 ((l.add (j.toNat*4)).add 1) w λn=>af .i64 ((l.add (j.toNat*4)).add 2) w λo=>aA ((l.add (j.toNat*4)).add 3) w λp q r=>jl d m n o p q r w λs t u v x y z a1 b1 c1 d1 e1 f1 g1 i1 j1 w=>Al T 34 w λl1 w=>St (l1.add 0) (ae s) w λw=>St (l1.add 1) (ae t) w λw=>St (l1.add 2) (ae u) w λw=>St (l1.add 3) (ae v) w λw=>St (l1.add 4) (.slice x y z) w λw=>St (l1.add 5) (.slice a1 b1 c1) w λw=>St (l1.add 6) (.int .u64 d1) w λw=>St (l1.add 7) (.int .u64 e1) w λw=>St (l1.add 8) (.int .u64 f1) w λw=>St (l1.add 9) (.int .u64 g1) w λw=>St (l1.add 10) (.int .u64 i1) w λw=>St (l1.add 11) (.int .u64 j1) w λw=>aH j b<|wA a λm1=>af .i64 (m1.add (j.toNat*4)) w λn1=>cond (n1==1) (af .i64 l1 w λo1=>cond (o1==0) ((cy P 49 (ae 60) (ae 60) w.drew λp1 q1 r1 w=>∃k',dG R8 Q k' a b c d 0 p1 q1 r1 j l1 0 w)/\(cy P 49 (ae 60) (ae 60) w.drew λs1 t1 u1 w=>∃k',dG R8 Q k' a b c d 0 s1 t1 u1 j l1 0 w)) (jh R8 Q a b c d e f g i j l1 w)) (jh R8 Q a b c d e f g i j l1 w)) (wv w λv1 w=>Q v1 w)
def rM (Q:Bool->WP):Nat->L3 (OA->Int->L3 (Int->WP))
 |0,_,_,_,_,_,_,_,_,_,_=>False
 |k+1,a,b,c,d,e,f,g,i,j,w=>nW Q (rM Q k) a b c d e f g i j w
noncomputable def fq:cA:=[(12,.br (.op 0 (.op 1 (.op 2 .done))) (.op 1 (.op 0 (.op 2 .done))))]
def M5 {P8}(Q)(H8:Bk 240 Tryz.f4 (cf Q) 8 [(9,.l),(10,.p),(11,.i .i64),(12,.l),(13,.i .i64)] P8):∀k,Bk 240 Tryz.f4 (cf Q) 44 [(9,.l),(10,.p),(11,.i .i64),(12,.l),(13,.i .i64),(19,.l),(20,.i .i64),(22,.i .i64)] (qF P8 Q k):=bI λk h=>aU (ok 240) fq [aL H8,aL h]
def M6 {P8}(Q)(H8:Bk 240 Tryz.f4 (cf Q) 8 [(9,.l),(10,.p),(11,.i .i64),(12,.l),(13,.i .i64)] P8):∀k,Bk 240 Tryz.f4 (cf Q) 39 [(9,.l),(10,.p),(11,.i .i64),(12,.l),(13,.i .i64),(19,.l),(20,.i .i64),(21,.i .i64)] (qG P8 Q k):=bI λk h=>aU (ok 240) fq [aL h,bY (M5 Q H8)]
def M7 {P8}(Q)(H8:Bk 240 Tryz.f4 (cf Q) 8 [(9,.l),(10,.p),(11,.i .i64),(12,.l),(13,.i .i64)] P8):∀k,Bk 240 Tryz.f4 (cf Q) 30 [(9,.l),(10,.p),(11,.i .i64),(12,.l),(13,.i .i64),(14,.a),(17,.i .i64)] (qH P8 Q k):=bI λk h=>aU (ok 240) fq [aL h,bY (M6 Q H8)]
def nv {P8}(Q)(H8:Bk 240 Tryz.f4 (cf Q) 8 [(9,.l),(10,.p),(11,.i .i64),(12,.l),(13,.i .i64)] P8):∀k,Bk 240 Tryz.f4 (cf Q) 24 [(9,.l),(10,.p),(11,.i .i64),(12,.l),(13,.i .i64),(14,.a),(15,.i .i64)] (dG P8 Q k):=bI λk h=>aU (ok 240) fq [aL h,bY (M7 Q H8)]
def DB {P8}(Q)(H8:Bk 240 Tryz.f4 (cf Q) 8 [(9,.l),(10,.p),(11,.i .i64),(12,.l),(13,.i .i64)] P8):Bk 240 Tryz.f4 (cf Q) 20 [(9,.l),(10,.p),(11,.i .i64),(12,.l),(13,.i .i64),(14,.a)] (kG P8 Q):=aU (ok 240) fq [bY (nv Q H8)]
def M8 {P8}(Q)(H8:Bk 240 Tryz.f4 (cf Q) 8 [(9,.l),(10,.p),(11,.i .i64),(12,.l),(13,.i .i64)] P8):Bk 240 Tryz.f4 (cf Q) 19 [(9,.l),(10,.p),(11,.i .i64),(12,.l),(13,.i .i64),(14,.a)] (nq P8 Q):=aU (ok 240) fq [aL (DB Q H8),bY (nv Q H8)]
def M9 {P8}(Q)(H8:Bk 240 Tryz.f4 (cf Q) 8 [(9,.l),(10,.p),(11,.i .i64),(12,.l),(13,.i .i64)] P8):Bk 240 Tryz.f4 (cf Q) 18 [(9,.l),(10,.p),(11,.i .i64),(12,.l),(13,.i .i64),(14,.a)] (nu P8 Q):=aU (ok 240) fq [aL (M8 Q H8),aL (DB Q H8),bY (nv Q H8)]
def M_ {P8}(Q)(H8:Bk 240 Tryz.f4 (cf Q) 8 [(9,.l),(10,.p),(11,.i .i64),(12,.l),(13,.i .i64)] P8):Bk 240 Tryz.f4 (cf Q) 13 [(9,.l),(10,.p),(11,.i .i64),(12,.l),(13,.i .i64),(14,.a)] (jh P8 Q):=aU (ok 240) fq [aL (M9 Q H8),bY (nv Q H8)]
def OR (Q):∀k,Bk 240 Tryz.f4 (cf Q) 8 [(9,.l),(10,.p),(11,.i .i64),(12,.l),(13,.i .i64)] (rM Q k):=bI λk h=>aU (ok 240) fq [aL (M_ Q h),bY (nv Q h)]
def LB:=λa b c d e f g i w Q=>bB (BZ a b c d e f g i w Q) (yV f g i 50 w λj l m w=>vh a b c d e j l m w λn o p w=>Ex 2 5 w λq w=>cond q.isNone (Q false w) (cy P 49 (ae 60) (ae 60) w λr s t w=>∃k',rM Q k' n o p q 0 r s t 0 w)) (ok 240) fq [bY (OR Q)] Tryz.func4
def Sz:=λa w Q=>bB (Gn a w Q) (wA a λb=>bZ (b.add 1) w λc=>dV c λd=>Q d w) (ok 7) [] [] Tryz.func302
def Na:=λa w Q=>bB (Dw a w Q) (wA a λb=>bZ (b.add 1) w λc=>dV c λd=>Q d w) (ok 7) [] [] Tryz.func321
def QK:=λa w Q=>bB (Fz a w Q) (wA a λb=>bZ (b.add 1) w λc=>dV c λd=>Q d w) (ok 7) [] [] Tryz.func325
end Go.Proofs.YtmegplnmiepfbaaGreatDoor.S
namespace Go.Proofs.YtmegplnmiepfbaaGreatDoor.S
open Go.Sx
attribute [local irreducible] af cv bz bg aA cw bZ St Bx Al App cH cy cD bU aM bF aq bS av ak aW mapA
def dW:wZ P T:=EK P rows HI
def dw {a b:Int}(h:a=b):(a==b)=true:=by grind
def cB {a b:Int}(h:¬a=b):(a==b)=false:=by grind
def Gx {a b:Int}(h:¬a=b):(a !=b)=true:=by grind
def Df {a b:Int}(h:a=b):(a !=b)=false:=by grind
section
variable {F:Nat->Prop}{W w0:World}{L:List As}{mw mh c:Int}
def pW {Q:Bool->World->Prop}(h:Q (decide (ja mw mh)) w0):lN mw mh w0 Q:=by
 apply aa9;have e:decide (ja mw mh)=(decide (mw≥1)&&(decide (mw<=1024)&&(decide (mh≥1)&&decide (mh<=1024)))):=by rw[Bool.eq_iff_iff];simp[Bool.and_eq_true,decide_eq_true_eq];exact⟨λ⟨⟨a,b⟩,c,d⟩=>⟨a,b,c,d⟩,λ⟨a,b,c,d⟩=>⟨⟨a,b⟩,c,d⟩⟩
 grind
def HX {Q:Bool->World->Prop}(h:Q (decide (bK mw mh c)) w0):yX mw mh c w0 Q:=by
 apply adu;apply pW;by_cases hm:ja mw mh
 ·have:=qK hm;rw[bN hm,aG];have e:decide (bK mw mh c)=(decide (c≥0)&&decide (c<mw*mh)):=by rw[Bool.eq_iff_iff];simp[bK,Bool.and_eq_true,decide_eq_true_eq,hm,true_and,ge_iff_le]
  grind
 ·rw[bh hm];rw[decide_eq_false (λe=>hm e.1)]at h;exact h
def ry {x y:Int}{Q:Int->World->Prop}(h:Q (g9 mw mh x y) w0):Ac mw mh x y w0 Q:=by
 apply Zr;apply pW;by_cases hm:ja mw mh
 ·rw[decide_eq_true hm,Bool.not_true,cond_false];by_cases h1:x<0
  ·rw[bN h1];rw[s8 (by omega)]at h;exact h
  rw[bh h1];by_cases h2:x≥mw
  ·rw[bN h2];rw[s8 (by omega)]at h;exact h
  rw[bh h2];by_cases h3:y<0
  ·rw[bN h3];rw[s8 (by omega)]at h;exact h
  rw[bh h3];by_cases h4:y≥mh
  ·rw[bN h4];rw[s8 (by omega)]at h;exact h
  rw[bh h4];rw[nB hm (by omega) (by omega)]at h;have hr:=U8 (aaU (x:=x) (y:=y) hm (by omega) (by omega));have h0:0<=y*mw:=Int.mul_nonneg (by omega) (by omega);rw[aG (n:=y*mw),aG];exact h
 ·unfold g9 at h;grind
def DU {Q:Int->Int->World->Prop}(s0:Sep F W w0 L)(h:∀w',Sep F W w' L->Fr No w0 w'->Q (if bK mw mh c then c%mw else-1) (if bK mw mh c then c/mw else-1) w'):tE mw mh c w0 Q:=by
 apply XR;apply HX;by_cases hc:bK mw mh c
 ·have U4:=hc.2;have hx:=It hc;have Eh:=hc.1.2;rw[decide_eq_true hc,Bool.not_true,cond_false];refine⟨by omega,⟨by omega,?_⟩⟩;rw[Int.tmod_eq_emod_of_nonneg U4.1,Int.tdiv_eq_ediv_of_nonneg U4.1,aG];have:=h _ (ay s0) Fr.refl;grind
 ·have:=h _ s0 Fr.refl;grind
def kM {sd:Int}{Q:Int->World->Prop}(s0:Sep F W w0 L)(h:∀w',Sep F W w' L->Fr No w0 w'->Q (aY mw mh c sd) w'):oh mw mh c sd w0 Q:=by
 apply Zu;refine DU s0 λw s f=>?_;have h:=h w s f;unfold aY at h;by_cases hc:bK mw mh c
 ·rw[if_pos hc,if_pos hc];rw[if_pos hc]at h;have hx:=It hc;have hm:=hc.1.1;have Eh:=hc.1.2;rw[bh];by_cases k0:sd=0
  ·rw[dw k0,cond_true];rw[if_pos k0]at h;unfold xy nH;rw[aG];exact ry h
  rw[cB k0,cond_false];rw[if_neg k0]at h;by_cases k2:sd=2
  ·rw[dw k2,cond_true];rw[if_pos k2]at h;unfold xy nH;rw[aG];exact ry h
  rw[cB k2,cond_false];rw[if_neg k2]at h;by_cases k3:sd=3
  ·rw[dw k3,cond_true];rw[if_pos k3]at h;unfold xz nH;rw[aG];exact ry h
  rw[cB k3,cond_false];rw[if_neg k3]at h;by_cases k1:sd=1
  ·rw[dw k1,cond_true];rw[if_pos k1]at h;unfold xz nH;rw[aG];exact ry h
  rw[cB k1,cond_false];rw[if_neg k1]at h;by_cases k4:sd=4
  ·rw[dw k4,cond_true];rw[if_pos k4]at h;exact ry h
  grind
 grind
def Ay (w h a b:Int):Int:=
 if bK w h a/\bK w h b then if aY w h a 0=b then 0 else if aY w h a 1=b then 1 else if aY w h a 2=b then 2 else if aY w h a 3=b then 3 else if aY w h a 4=b then 4 else 5 else 5
def ZP {b:Int}{Q:Int->World->Prop}(s0:Sep F W w0 L)(h:∀w',Sep F W w' L->Fr No w0 w'->Q (Ay mw mh c b) w'):EX mw mh c b w0 Q:=by
 apply Zz;apply HX;by_cases hc:bK mw mh c
 ·rw[decide_eq_true hc,Bool.not_true,cond_false];apply HX;by_cases hb:bK mw mh b
  ·rw[decide_eq_true hb,Bool.not_true,cond_false];have s:=bt (F:=No) (w:=w0);have fin:∀(w:World) (r:Int),Ay mw mh c b=r->Sep No w0 w []->Q r w:=by intro w r e s;subst e;exact h _ (bX s0 (au s)) (au s)
   unfold Ay at fin;refine⟨6,?_⟩;show iH Q (mW Q 5) _ _ _ _ _ _;unfold iH;refine kM s λw s _=>?_;by_cases k0:aY mw mh c 0=b
   ·grind
   rw[cB k0,cond_false,wrap_i64 (by decide) (by decide)];show iH Q (mW Q 4) _ _ _ _ _ _;unfold iH;refine kM s λw s _=>?_;by_cases k0:aY mw mh c 1=b
   ·grind
   rw[show(aY mw mh c (0+1)==b)=false from cB k0,cond_false,wrap_i64 (by decide) (by decide)];show iH Q (mW Q 3) _ _ _ _ _ _;unfold iH;refine kM s λw s _=>?_;by_cases k0:aY mw mh c 2=b
   ·grind
   rw[show(aY mw mh c (0+1+1)==b)=false from cB k0,cond_false,wrap_i64 (by decide) (by decide)];show iH Q (mW Q 2) _ _ _ _ _ _;unfold iH;refine kM s λw s _=>?_;by_cases k0:aY mw mh c 3=b
   ·grind
   rw[show(aY mw mh c (0+1+1+1)==b)=false from cB k0,cond_false,wrap_i64 (by decide) (by decide)];show iH Q (mW Q 1) _ _ _ _ _ _;unfold iH;refine kM s λw s _=>?_;by_cases k0:aY mw mh c 4=b
   ·grind
   rw[show(aY mw mh c (0+1+1+1+1)==b)=false from cB k0,cond_false,wrap_i64 (by decide) (by decide)];show iH Q (mW Q 0) _ _ _ _ _ _;unfold iH;grind
  ·have:=h _ s0 Fr.refl;unfold Ay at this;grind
 ·have:=h _ s0 Fr.refl;unfold Ay at this;grind
def ZQ (w h:Int):Int:=if ja w h then cP w else 0
def adL (w h:Int):Int:=if ja w h then cP h else 0
def qX {Q:Int->Int->World->Prop}(h:Q (ZQ mw mh) (adL mw mh) w0):lC mw mh w0 Q:=by
 apply Uj;apply pW;unfold ZQ adL at h;by_cases hm:ja mw mh
 ·have h1:=hm.1;have h2:=hm.2;rw[decide_eq_true hm,Bool.not_true,cond_false];refine⟨by decide,by decide,?_⟩;rw[aG (n:=mw+16),aG (n:=mw+16-1),aG (n:=mh+16),aG (n:=mh+16-1),
   Int.tdiv_eq_ediv_of_nonneg (by omega),Int.tdiv_eq_ediv_of_nonneg (by omega),aG,aG]
  unfold cP at h;grind
 grind
def e9 {Q:Int->World->Prop}(s0:Sep F W w0 L)(h:∀w',Sep F W w' L->Fr No w0 w'->Q (aC mw mh c) w'):ee mw mh c w0 Q:=by
 apply Vw;refine DU s0 λw s f=>?_;have h:=h w s f;unfold aC at h;by_cases hc:bK mw mh c
 ·rw[if_pos hc,if_pos hc];have hs:=(bT hc).2;unfold aC at hs;rw[if_pos hc]at h hs;have hx:=It hc;have hm:=hc.1;have ha:=Fl hm.1;have hcs:=gS hm.1 hm.2;rw[bh];apply qX;rw[ZQ,if_pos hm];refine⟨by decide,by decide,?_⟩;have h2:=hm.2;have a:0<=c/mw/16*cP mw:=Int.mul_nonneg (by omega) (by omega);rw[Int.tdiv_eq_ediv_of_nonneg (by omega),Int.tdiv_eq_ediv_of_nonneg (by omega),aG (n:=c/mw/16),aG (n:=c%mw/16),aG (n:=c/mw/16*cP mw),aG];exact h
 grind
def I5 {sc:Int}{Q:Int->Int->Bool->World->Prop}(s0:Sep F W w0 L)(h:∀w',Sep F W w' L->Fr No w0 w'->Q (if dY mw mh sc then sc%cP mw*16 else 0) (if dY mw mh sc then sc/cP mw*16 else 0) (decide (dY mw mh sc)) w'):xl mw mh sc w0 Q:=by
 apply Vt;apply qX;have no:¬dY mw mh sc->Q 0 0 false w0:=λhn=>by have:=h _ s0 Fr.refl;grind
 by_cases h0:sc<0
 ·rw[bN h0];exact no λe=>by have:=e.2;omega
 rw[bh h0];unfold ZQ adL;by_cases hm:ja mw mh
 ·rw[if_pos hm,if_pos hm];have hcs:=gS hm.1 hm.2;have e:cP mw*cP mh=eL mw mh:=rfl;rw[e,aG];by_cases h1:sc≥eL mw mh
  ·rw[bN h1];exact no λe=>by have:=e.2;omega
  rw[bh h1];have hs:dY mw mh sc:=⟨hm,by omega,by omega⟩;have hx:=IQ hm.1 hm.2 hs.2;have ha:=Fl hm.1;have q1:=hm.1;have q2:=hm.2;refine⟨by omega,by omega,?_⟩;rw[Int.tmod_eq_emod_of_nonneg (by omega),Int.tdiv_eq_ediv_of_nonneg (by omega),aG (n:=sc/cP mw),aG,aG];have:=h _ (ay s0) Fr.refl;grind
 ·rw[if_neg hm,if_neg hm,show IntKind.wrap .i64 (0*0)=0 from rfl,bN];exact no λe=>hm e.1
def vA {sc:Int}{Q:Int->Int->World->Prop}(s0:Sep F W w0 L)(h:∀w',Sep F W w' L->Fr No w0 w'->Q (Y7 mw mh sc) (ac2 mw mh sc) w'):om mw mh sc w0 Q:=by
 apply Zm;refine I5 s0 λw s f=>?_;have h:=h w s f;unfold Y7 ac2 at h;by_cases hs:dY mw mh sc
 ·have hx:=IQ hs.1.1 hs.1.2 hs.2;have q1:=hs.1.1;have q2:=hs.1.2;rw[aG,aG];have e1:DG 16 (mw-sc%cP mw*16)=aE mw mh sc:=by unfold DG aE;omega
  have e2:DG 16 (mh-sc/cP mw*16)=bC mw mh sc:=by unfold DG bC;omega
  grind
 grind
def tO {Q:Int->World->Prop}(s0:Sep F W w0 L)(h:∀w',Sep F W w' L->Fr No w0 w'->Q (d_ mw mh c) w'):nC mw mh c w0 Q:=by
 apply XS;refine DU s0 λw s f=>?_;by_cases hc:bK mw mh c
 ·rw[if_pos hc,if_pos hc];have hx:=It hc;have hl:=j9 hc;have hs:=bT hc;have hz:=qZ hc.1.1 hc.1.2 hs.2;have el:d_ mw mh c=c/mw%16*aE mw mh (aC mw mh c)+c%mw%16:=if_pos hc;rw[bh];refine e9 s λw s f2=>?_;refine vA s λw s f3=>?_;refine⟨by decide,by decide,?_⟩;rw[Y7,if_pos hs,Int.tmod_eq_emod_of_nonneg (by omega),Int.tmod_eq_emod_of_nonneg (by omega)];have a:=Int.mul_le_mul hz.1.2 hz.2.2 (by omega) (by decide);rw[aG (n:=c/mw%16*aE mw mh (aC mw mh c)),aG,<-el];exact h _ s ((f.trans f2 (λ_ _=>id)).trans f3 (λ_ _=>id))
 ·have h:=h _ s f;unfold d_ at h;grind
def xG {sc l:Int}{Q:Int->World->Prop}(s0:Sep F W w0 L)(h:∀w',Sep F W w' L->Fr No w0 w'->Q (CT mw mh sc l) w'):ow mw mh sc l w0 Q:=by
 apply Vu;refine I5 s0 λw s f=>?_;refine vA s λw s f2=>?_;have f:=f.trans f2 (λ_ _=>id);have no:¬(dY mw mh sc/\0<=l/\l<aE mw mh sc*bC mw mh sc)->Q (-1) w:=λhn=>by have:=h _ s f;unfold CT at this;grind
 by_cases hs:dY mw mh sc
 ·unfold Y7 ac2;rw[if_pos hs,if_pos hs,if_pos hs,if_pos hs,decide_eq_true hs,Bool.not_true,cond_false];have hx:=IQ hs.1.1 hs.1.2 hs.2;have hz:=qZ hs.1.1 hs.1.2 hs.2;have q1:=hs.1.1;have q2:=hs.1.2;have a:=Int.mul_le_mul hz.1.2 hz.2.2 (by omega) (by decide);have b:0<=aE mw mh sc*bC mw mh sc:=Int.mul_nonneg (by omega) (by omega);rw[aG];by_cases h0:l<0
  ·grind
  rw[bh h0];by_cases h1:l≥aE mw mh sc*bC mw mh sc
  ·grind
  rw[bh h1];have hl:0<=l/\l<aE mw mh sc*bC mw mh sc:=by omega
  have hxy:=Pf hs hl;refine⟨by omega,by omega,?_⟩;rw[Int.tmod_eq_emod_of_nonneg (by omega),Int.tdiv_eq_ediv_of_nonneg (by omega),aG (n:=l/aE mw mh sc),aG,aG];apply ry;have h:=h _ (ay s) f;unfold CT bV at h;rw[if_pos ⟨hs,hl⟩]at h;have e1:sc%cP mw*16+l%aE mw mh sc<mw:=by
   have:aE mw mh sc<=mw-16*(sc%cP mw):=by unfold aE;omega
   omega
  have e2:sc/cP mw*16+l/aE mw mh sc<mh:=by
   have:bC mw mh sc<=mh-16*(sc/cP mw):=by unfold bC;omega
   omega
  rw[nB hs.1 (by omega) (by omega),Int.mul_comm (sc/cP mw) 16,Int.mul_comm (sc%cP mw) 16,<-Int.add_assoc];exact h
 grind
end
end Go.Proofs.YtmegplnmiepfbaaGreatDoor.S
namespace Go.Proofs.YtmegplnmiepfbaaGreatDoor.S.Tl
open Go.Sx
def dW:wZ P T:=EK P rows HI
attribute [local irreducible] af cv bz bg aA cw bZ St Bx Al App cH cy cD bU aM bF aq bS av ak aW
def DV (W H:Int)(cs:List Int):Bool:=decide (1<=W/\W<=16)&&(decide (1<=H/\H<=16)&&(decide ((cs.length:Int)=W*H)&&!decide ((0:Int)∈cs)))
def ZR {W H:Int}{cs:List Int}:DV W H cs=true↔(1<=W/\W<=16)/\(1<=H/\H<=16)/\(cs.length:Int)=W*H/\(0:Int)∉cs:=by simp[DV]
section
variable {F:Nat->Prop}{W w:World}{L:List As}{a:Option Addr}{n c:Nat}{cs:List Int}
def arJ (h:l_ w a n 1 bu cs){i:Nat}(hi:i<n):∃ad,a=some ad/\w.cell? (ad.add (i*1))=some (.int .u8 (gi cs i)):=by obtain⟨ad,e,hc⟩:=h.2 i _ (ig (by rw[h.1];exact hi));exact⟨ad,e,hc 0 _ rfl⟩
def aO {k:IntKind}{m:Int}{ad:Addr}{K:Int->Prop}(h:w.cell? ad=some (.int k m))(hk:K m):af k ad w K:=by unfold af;grind
def LC {m:Int}{Q:Bool->World->Prop}(h:Q (decide (1<=m/\m<=16)) w):Am m w Q:=by apply Zo;grind
def alv {v:Int}{Q:Int->World->Prop}(hA:l_ w a n 1 bu cs)(hn:n<1000000000)(hy:v∈cs->∀i:Nat,Q i w)(hno:v∉cs->Q (-1) w):
  ∀(m i:Nat),i+m=n->(∀j,j<i->gi cs j≠v)->jj Q (m+1) a n c v n i w:=by
 intro m;induction m with
 |zero=>
  intro i hi SB;show kX Q (jj Q 0) _ _ _ _ _ _ _;rw[kX,bh];refine hno λhv=>?_;obtain⟨j,hj,e⟩:=List.getElem_of_mem hv;have:=SB j (by rw[hA.1]at hj;omega);have h2:=ig hj;grind
 |succ m ih=>
  intro i hi SB;show kX Q (jj Q (m+1)) _ _ _ _ _ _ _;unfold kX;obtain⟨ad,rfl,hc⟩:=arJ hA (i:=i) (by omega);rw[bN];refine⟨by omega,by omega,ah ?_⟩;apply aO hc;by_cases hv:v=gi cs i
  ·rw[hv,beq_self_eq_true,cond_true];exact hy (by rw[hv];exact fG (by rw[hA.1];omega)) i
  ·rw[show(v==gi cs i)=false by grind,cond_false,aG];refine ih (i+1) (by omega) λj hj=>?_;grind
def HY {v:Int}{Q:Bool->World->Prop}(hA:l_ w a n 1 bu cs)(hn:n<1000000000)(h:Q (decide (v∈cs)) w):iY a n c v w Q:=by
 apply FX;apply HV;refine⟨n+1,alv hA hn (λhv i=>?_) (λhv=>?_) n 0 (by omega) (λj hj=>by omega)⟩
 all_goals simp_all
def Dg {tw th:Int}{Q:Bool->World->Prop}(s:Sep F W w L)(hA:l_ w a n 1 bu cs)(h:∀w',Sep F W w' L->Fr No w w'->Q (DV tw th cs) w'):uX tw th a n c w Q:=by
 apply adk;refine aQ (F:=No) bt λb1 w1 s1=>?_;have hh:=h w1 (bX s (au s1)) (au s1);have hA1:=hA.fr (au s1);unfold DV at hh;apply lI s1 0 rfl;apply LC;cases h1:decide (1<=tw/\tw<=16)with
 |false=>
  grind
 |true=>
  rw[h1,Bool.true_and]at hh;apply lI s1 0 rfl;apply LC;cases h2:decide (1<=th/\th<=16)with
  |false=>
   grind
  |true=>
   rw[h2,Bool.true_and]at hh;have h1':=of_decide_eq_true h1;have h2':=of_decide_eq_true h2;apply lS s1 0 rfl;apply lI s1 0 rfl;apply lI s1 0 rfl;have hp:1<=tw*th/\tw*th<=256:=by have q1:=Int.mul_le_mul h1'.1 h2'.1 (by decide) (by omega);have q2:=Int.mul_le_mul h1'.2 h2'.2 (by omega) (by decide);omega
   rw[aG];have hl:=hA.1;by_cases h3:(cs.length:Int)=tw*th
   ·rw[decide_eq_true h3,Bool.true_and]at hh;rw[show((n:Int)==tw*th)=true by grind,cond_true];apply lS s1 0 rfl;exact HY hA1 (by omega) hh
   grind
def isB (tw th:Int)(cs:List Int)(l:Int):Bool:=decide (0<=l/\l<(cs.length:Int))&&DV tw th cs
def agt {tw th l:Int}{Q:Bool->World->Prop}(s:Sep F W w L)(hA:l_ w a n 1 bu cs)(h:∀w',Sep F W w' L->Fr No w w'->Q (isB tw th cs l) w'):Jy tw th a n c l w Q:=by
 apply agp;refine aQ (F:=No) bt λb1 w1 s1=>?_;have hh:=h w1 (bX s (au s1)) (au s1);have hA1:=hA.fr (au s1);have hl:=hA.1;unfold isB at hh;by_cases h1:l≥0
 ·rw[bN h1];apply lS s1 0 rfl;by_cases h2:l<(n:Int)
  ·rw[bN h2];apply lI s1 0 rfl;apply lI s1 0 rfl;apply lS s1 0 rfl;refine Dg s1 hA1 λw2 s2 k2=>?_;have hh:=h w2 (bX s (au s2)) (au s2);unfold isB at hh;grind
  grind
 grind
def atI (tw th:Int)(cs:List Int)(l:Int):Int:=cond (isB tw th cs l) (gi cs l.toNat) 0
def agu {tw th l:Int}{Q:Int->World->Prop}(s:Sep F W w L)(hA:l_ w a n 1 bu cs)(hcs:∀x∈cs,0<=x/\x<256)(h:∀w',Sep F W w' L->Fr No w w'->Q (atI tw th cs l) w'):Jx tw th a n c l w Q:=by
 apply agq;refine aQ (F:=No) bt λb1 w1 s1=>?_;apply lI s1 0 rfl;apply lI s1 0 rfl;apply lS s1 0 rfl;refine agt s1 (hA.fr (au s1)) λw2 s2 k2=>?_;have hh:=h w2 (bX s (au s2)) (au s2);have hA2:=hA.fr (au s2);have hl:=hA.1;unfold atI at hh;cases hb:isB tw th cs l with
 |false=>
  grind
 |true=>
  rw[hb,cond_true]at hh;have hr:0<=l/\l<(cs.length:Int):=by unfold isB at hb;grind
  obtain⟨i,rfl⟩:∃i:Nat,l=i:=⟨l.toNat,by omega⟩;obtain⟨ad,rfl,hc⟩:=arJ hA2 (i:=i) (by omega);apply lS s2 0 rfl;refine⟨by omega,by omega,ah ?_⟩;apply aO hc;have:=hcs _ (fG (i:=i) (by omega));rw[aG];exact hh
end
end Go.Proofs.YtmegplnmiepfbaaGreatDoor.S.Tl
namespace Go.Proofs.YtmegplnmiepfbaaGreatDoor.S.O
open Go.Sx
def dW:wZ P T:=EK P rows HI
def xH:zc T 38=[ae 0,ae 0,ae 0,.slice none 0 0]:=rfl
def rN:zc T 137=[ae 0,ae 0,.bool false]:=rfl
attribute [local irreducible] af cv bz bg aA cw bZ St Bx Al App cH cy cD bU aM bF aq bS av ak aW
def Gy {F:Nat->Prop}{W w:World}{L:List As}{k:Int}{Q:Int->Int->Bool->Bool->World->Prop}(s0:Sep F W w L)(h:∀w',Sep F W w' L->Fr No w w'->Q (w_ k) (BW k) (shL k) (DH k) w'):xg k w Q:=by
 apply aa7;have s:=bt (F:=No) (w:=w);by_cases hk:1<=k/\k<=8
 ·have hk':k=1\/k=2\/k=3\/k=4\/k=5\/k=6\/k=7\/k=8:=by omega
  rcases hk' with rfl|rfl|rfl|rfl|rfl|rfl|rfl|rfl
  all_goals
   repeat' first
    |apply lI s 0 rfl
    |apply lS s 0 rfl
    |apply lB s 0 rfl
    |apply lP s 0 rfl
    |apply And.intro (cq s 0 rfl)
    |apply lI s 1 rfl
    |apply lS s 1 rfl
    |apply lB s 1 rfl
    |apply lP s 1 rfl
    |apply And.intro (cq s 1 rfl)
    |(refine sT s 0 rfl λw s=>?_)
    |(refine sT s 1 rfl λw s=>?_)
    |refine aQ s λb w s=>?_
    |(refine aV s λb w s=>?_;simp[xH,rN]at s)
    |unfold uY
    |unfold mU
    |(replace s:=ay s;first
     |apply lI s 0 rfl
     |apply lS s 0 rfl
     |apply lB s 0 rfl
     |apply lP s 0 rfl
     |apply And.intro (cq s 0 rfl)
     |apply lI s 1 rfl
     |apply lS s 1 rfl
     |apply lB s 1 rfl
     |apply lP s 1 rfl
     |apply And.intro (cq s 1 rfl)
     |(refine ax s (i:=0) rfl rfl rfl λw s=>?_)
     |(refine ax s (i:=1) rfl rfl rfl λw s=>?_;simp[List.set_cons_zero,List.set_cons_succ]at s)
     |refine aQ s λb w s=>?_
     |(refine aV s λb w s=>?_;simp[xH,rN]at s)
     |unfold uY
     |unfold mU)
  all_goals exact h _ (bX s0 (au s)) (au s)
 ·have e:∀j:Int,1<=j/\j<=8->(k==j)=false:=λj hj=>by grind
  rw[e 1 (by decide),e 2 (by decide),e 3 (by decide),e 4 (by decide),e 5 (by decide),e 6 (by decide),e 7 (by decide),e 8 (by decide)]
  (refine aV s λb w s=>?_;simp[xH,rN]at s)
  (refine aV s λb w s=>?_;simp[xH,rN]at s)
  (refine ax s (i:=1) rfl rfl rfl λw s=>?_)
  (refine ax s (i:=1) rfl rfl rfl λw s=>?_)
  (refine ax s (i:=1) rfl rfl rfl λw s=>?_)
  apply lI s 1 rfl;apply lI s 1 rfl;apply lB s 1 rfl;have:=h _ (bX s0 (au s)) (au s);rw[show w_ k=0 by unfold w_;grind,show BW k=0 by unfold BW;grind,show shL k=false from decide_eq_false (by omega),show DH k=false from decide_eq_false (by omega)]at this;exact this
def JO {w:World}{n:Int}{sz:Nat}{Q:Bool->World->Prop}(hs:sz<=4)(h:Q (Ev n sz) w):AQ n sz w Q:=by
 apply agd;unfold Ev at h;by_cases h0:n≥0
 ·rw[bN h0];have e:BO .i64 1 (IntKind.wrap .i64 (8*(sz:Int)))=256^sz/\0<=IntKind.wrap .i64 (8*(sz:Int)):=by
   have hs':sz=0\/sz=1\/sz=2\/sz=3\/sz=4:=by omega
   rcases hs' with rfl|rfl|rfl|rfl|rfl<;>decide
  refine⟨e.2,?_⟩;grind
 grind
def adM {a b:Int}{k:Nat}(hk:k<=24)(ha:0<=a/\a<2^k)(hb:0<=b/\b<256):ior .i64 a (BO .i64 b (k:Int))=a+b*2^k:=by
 obtain⟨m,rfl⟩:∃m:Nat,a=m:=⟨a.toNat,by omega⟩;obtain⟨p,rfl⟩:∃p:Nat,b=p:=⟨b.toNat,by omega⟩;have hm:m<2^k:=by grind
 have IP:(2:Nat)^k<=2^24:=Nat.pow_le_pow_right (by decide) hk;have hp:p*2^k<=255*2^24:=Nat.mul_le_mul (by omega) IP;have e1:BO .i64 (p:Int) (k:Int)=((p*2^k:Nat):Int):=by
  unfold BO;have e:min ((k:Nat):Int).toNat (IntKind.i64).bits=k:=by simp[IntKind.bits];omega
  rw[e,show(p:Int)*2^k=((p*2^k:Nat):Int) by grind,aG]
 rw[e1];rw[ior,BitVec.ofInt_natCast,BitVec.ofInt_natCast,BitVec.toNat_or,BitVec.toNat_ofNat,BitVec.toNat_ofNat];have b64:(IntKind.i64).bits=64:=rfl;rw[b64,Nat.mod_eq_of_lt (by omega),Nat.mod_eq_of_lt (by omega),Nat.or_comm,Nat.mul_comm p,<-Nat.two_pow_add_eq_or_of_lt hm];rw[Nat.mul_comm]at hp;rw[aG];grind
def ap5 (l:List Int)(x:Int):pC (l++[x])=pC l+x*2^(8*l.length):=by
 induction l with
 |nil=>simp[pC]
 |cons y l ih=>
  simp[List.cons_append,pC,ih,List.length_cons];grind
def anv {l:List Int}{i:Nat}(h:i<l.length):l.take (i+1)=l.take i++[gi l i]:=by rw[List.take_add_one,ig h];rfl
section
variable {F:Nat->Prop}{W w:World}{L:List As}{a:Option Addr}{n c:Nat}{bs:List Int}
def Gz {Q:Int->World->Prop}(hA:Sl w a n c 1 bu bs)(hr:eA bs)(hn:n<=4)(h:Q (pC bs) w):xk a n c w Q:=by
 apply aa8;have loop:∀(m i:Nat),i+m=n->wU Q (m+1) (pC (bs.take i)) a n c n i w:=by
  intro m;induction m with
  |zero=>
   intro i hi;show AS Q (wU Q 0) _ _ _ _ _ _ _;rw[AS,bh,List.take_of_length_le (by rw[hA.len];omega)];exact h
  |succ m ih=>
   intro i hi;show AS Q (wU Q (m+1)) _ _ _ _ _ _ _;rw[AS,bN];apply Sl.Dq hA rfl (by omega);have hv:=hr _ (fG (i:=i) (by rw[hA.len];omega));rw[aG,aG,aG];refine⟨by omega,?_⟩;have li:(bs.take i).length=i:=by rw[List.length_take,hA.len];omega
   have e:=aaT (hr.take i);have e2:(256:Int)^i=2^(8*i):=by rw[Int.pow_mul];rfl
   rw[show 8*(i:Int)=((8*i:Nat):Int) by grind,adM (by omega) (by grind) hv];have:=ih (i+1) (by omega);rw[anv (by rw[hA.len];omega),ap5,li]at this;exact this
 have:=loop n 0 (by omega);exact⟨n+1,this⟩
end
end Go.Proofs.YtmegplnmiepfbaaGreatDoor.S.O
namespace Go.Proofs.YtmegplnmiepfbaaGreatDoor.S.O
open Go.Sx
attribute [local irreducible] af cv bz bg aA cw bZ St Bx Al App cH cy cD bU aM bF aq bS av ak aW
section
variable {F:Nat->Prop}{W w:World}{L:List As}{a:Option Addr}{n c:Nat}{bs:List Int}
def clone {K:Option Addr->Nat->Nat->World->Prop}(s:Sep F W w L)(h:Sl w a n c 1 bu bs)(hn:n<=1000000000000)(k:∀ra rc w',Sep F W w' (ak ra n rc 5 1 (flat bu bs)::L)->K ra n rc w'):
  App P #[22,22] 22 (.slice none 0 0) (.slice a n c) w K:=by
 have src:=h.src (e:=5) dO A6;refine iw dW (bG s 5 1) (i:=0) (bytes:=1) rfl rfl rfl rfl rfl rfl (by decide) rfl src (by simp[maxLen];omega) (by omega) h.nil λa1 c1 w1 s1=>?_;grind
def aum {K:Option Addr->Nat->Nat->World->Prop}{b:Nat}(s:Sep F W w (av b 5 []::L))(h:Sl w a n c 1 bu bs)(hn:n<=1000000000000)(k:∀ra rc w',Sep F W w' (ak ra n rc 5 1 (flat bu bs)::L)->K ra n rc w'):
  App P #[22,22] 22 (.slice (sZ b) 0 0) (.slice a n c) w K:=by
 have src:=h.src (e:=5) dO A6;have s:=g_ (n:=0) (size:=1) s (i:=0) rfl rfl (by decide) (by simp);refine iw dW s (i:=0) (bytes:=1) rfl rfl rfl rfl rfl rfl (by decide) rfl src (by simp[maxLen];omega) (by omega) h.nil λa1 c1 w1 s1=>?_;grind
def agv {w0:World}{Q:Int->Int->Int->Option Addr->Nat->Nat->Int->World->Prop}(s0:Sep F W w0 L)(hA:Sl w0 a n c 1 bu bs)(hr:eA bs)(hn:0<n)(Hu:n<=1000000000000)
  (h:∀ra rn rc w',rn=(Bo bs).1.m.length->Sep F W w' (ak ra rn rc 5 1 (flat bu (Bo bs).1.m)::L)->Fr No w0 w'->Q (Bo bs).1.k (Bo bs).1.A (Bo bs).1.B ra rn rc ((Bo bs).2:Nat) w'):Jw a n c w0 Q:=by
 apply agc;have hl:=hA.len;cases bs with
 |nil=>grind
 |cons x r=>
  obtain⟨hx,hr⟩:=hr.cons;rw[List.length_cons]at hl;have s:=bt (F:=No) (w:=w0);have rr:=hr
  (refine aV s λb w s=>?_;simp[xH,rN]at s)
  apply Sl.Dq (hA.fr (au s)).drew rfl (by omega);have g0:gi (x::r) 0=x:=rfl;rw[g0,aG];refine hA.lo (m:=1) rfl (by omega) λta tn tc QL hT=>?_;have hT:Sl w0 ta tn tc 1 bu r:=hT;refine Gy (ay s) λw s k=>?_
  (refine aV s λb w s=>?_;simp[xH,rN]at s)
  (refine ax s (i:=0) rfl rfl rfl λw s=>?_)
  (refine ax s (i:=0) rfl rfl rfl λw s=>?_)
  (refine ax s (i:=0) rfl rfl rfl λw s=>?_)
  have short:Bo (x::r)=(⟨0,0,0,[]⟩,0)->∀w',Fr No w0 w'->Q 0 0 0 none 0 0 0 w':=λe w' f=>by rw[e]at h;exact h none 0 0 w' rfl (bG (bX s0 f) 5 1) f
  cases hk:DH x with
  |false=>
   have e:Bo (x::r)=(⟨0,x,0,[]⟩,1):=by rw[CS,if_neg (by grind)]
   rw[e]at h
   (refine ax s (i:=1) rfl rfl rfl λw s=>?_)
   (refine ax s (i:=1) rfl rfl rfl λw s=>?_)
   (refine ax s (i:=1) rfl rfl rfl λw s=>?_)
   (refine ax s (i:=1) rfl rfl rfl λw s=>?_)
   apply lI s 1 rfl;apply lI s 1 rfl;apply lI s 1 rfl;apply lS s 1 rfl;exact h none 0 0 _ rfl (bG (bX s0 (au s)) 5 1) (au s)
  |true=>
   apply lB s 0 rfl;cases hL:shL x with
   |true=>
    by_cases h4:tn<4
    ·rw[bN]
     (refine ax s (i:=1) rfl rfl rfl λw s=>?_)
     (refine ax s (i:=1) rfl rfl rfl λw s=>?_)
     (refine ax s (i:=1) rfl rfl rfl λw s=>?_)
     (refine ax s (i:=1) rfl rfl rfl λw s=>?_)
     apply lI s 1 rfl;apply lI s 1 rfl;apply lI s 1 rfl;apply lS s 1 rfl;exact short (by rw[CS,if_pos hk,if_pos hL,AP]) _ (au s)
    ·rw[bh];refine hT.hi (m:=4) rfl (by omega) λua uc hU=>?_;apply Gz (hU.fr (au s)) (rr.take 4) (by decide);have l4:(r.take 4).length=4:=by grind
     have rg:=aaT (rr.take 4);rw[aG];by_cases h5:(tn:Int)-4<pC (r.take 4)
     ·rw[bN h5]
      (refine ax s (i:=1) rfl rfl rfl λw s=>?_)
      (refine ax s (i:=1) rfl rfl rfl λw s=>?_)
      (refine ax s (i:=1) rfl rfl rfl λw s=>?_)
      (refine ax s (i:=1) rfl rfl rfl λw s=>?_)
      apply lI s 1 rfl;apply lI s 1 rfl;apply lI s 1 rfl;apply lS s 1 rfl;exact short (by rw[CS,if_pos hk,if_pos hL,fU,AP]) _ (au s)
     ·rw[bh h5,aG,aG];have e:Bo (x::r)=(⟨x,0,0,(r.drop 4).take (pC (r.take 4)).toNat⟩,5+(pC (r.take 4)).toNat):=by rw[CS,if_pos hk,if_pos hL,fU,fU]
      rw[e]at h;refine hT.mid (p:=4) (q:=4+(pC (r.take 4)).toNat) rfl (by omega) (by omega) (by omega) λva vn vc hvn hV=>?_;rw[show 4+(pC (r.take 4)).toNat-4=(pC (r.take 4)).toNat by omega]at hvn hV;refine clone s (hV.fr (au s)) (by omega) λra rc w s=>?_
      (refine ax s (i:=2) rfl rfl rfl λw s=>?_)
      (refine ax s (i:=2) rfl rfl rfl λw s=>?_)
      (refine ax s (i:=2) rfl rfl rfl λw s=>?_)
      (refine ax s (i:=2) rfl rfl rfl λw s=>?_)
      apply lI s 2 rfl;apply lI s 2 rfl;apply lI s 2 rfl;apply lS s 2 rfl;have hq:=h ra vn rc _ (by grind) (dQ s0 s (i:=0) rfl) (au s);grind
   |false=>
    apply lI s 0 rfl;apply lI s 0 rfl;have hab:=ap1 x;rw[aG];by_cases h5:tn<w_ x+BW x
    ·rw[bN]
     (refine ax s (i:=1) rfl rfl rfl λw s=>?_)
     (refine ax s (i:=1) rfl rfl rfl λw s=>?_)
     (refine ax s (i:=1) rfl rfl rfl λw s=>?_)
     (refine ax s (i:=1) rfl rfl rfl λw s=>?_)
     apply lI s 1 rfl;apply lI s 1 rfl;apply lI s 1 rfl;apply lS s 1 rfl;exact short (by rw[CS,if_pos hk,if_neg (by grind),AP]) _ (au s)
    ·rw[bh];have e:Bo (x::r)=(⟨x,pC (r.take (w_ x)),pC ((r.drop (w_ x)).take (BW x)),[]⟩,1+w_ x+BW x):=by rw[CS,if_pos hk,if_neg (by grind),fU]
     rw[e]at h;have s:=ay s;apply lI s 0 rfl;refine hT.hi (m:=w_ x) rfl (by omega) λua uc hU=>?_;apply lI s 0 rfl;apply lI s 0 rfl;apply lI s 0 rfl;rw[aG];refine hT.mid (p:=w_ x) (q:=w_ x+BW x) rfl (by omega) (by omega) (by omega) λva vn vc hvn hV=>?_;apply lI s 0 rfl;apply lI s 0 rfl;apply Gz (hU.fr (au s)) (rr.take _) (by omega);apply And.intro (cq s 0 rfl);apply And.intro (cq s 0 rfl);apply And.intro (cq s 0 rfl);apply And.intro (cq s 0 rfl);apply And.intro (cq s 0 rfl);apply Gz (hV.fr (au s)) ((rr.drop _).take _) (by omega);apply And.intro (cq s 0 rfl);apply And.intro (cq s 0 rfl)
     (refine ax s (i:=1) rfl rfl rfl λw s=>?_)
     (refine ax s (i:=1) rfl rfl rfl λw s=>?_)
     (refine ax s (i:=1) rfl rfl rfl λw s=>?_)
     (refine ax s (i:=1) rfl rfl rfl λw s=>?_)
     apply And.intro (cq s 0 rfl);apply And.intro (cq s 0 rfl);apply lI s 1 rfl;apply lI s 1 rfl;apply lI s 1 rfl;apply lS s 1 rfl;rw[aG (n:=(1:Int)+(w_ x:Int)),aG];have hq:=h none 0 0 _ rfl (bG (bX s0 (au s)) 5 1) (au s);grind
def ah2 {Q:Bool->World->Prop}(s0:Sep F W w L)(hA:Sl w a n c 1 bu bs)(hr:eA bs)(Hu:n<=1000000000000)(h:∀w',Sep F W w' L->Fr No w w'->Q (ap2 bs) w'):K7 a n c w Q:=by
 apply ahT;have hl:=hA.len;by_cases h0:n=0
 ·subst h0;have:bs=[]:=List.eq_nil_of_length_eq_zero hl;subst this;have:=h w s0 Fr.refl;exact this
 ·rw[show((n:Int)==0)=false by grind,cond_false];have s:=bt (F:=No) (w:=w);refine agv s hA hr (by omega) Hu λra rn rc w _ s _=>?_
  (refine aV s λb w s=>?_;simp[xH,rN]at s)
  (refine ax s (i:=0) rfl rfl rfl λw s=>?_)
  (refine ax s (i:=0) rfl rfl rfl λw s=>?_)
  (refine ax s (i:=0) rfl rfl rfl λw s=>?_)
  (refine ax s (i:=0) rfl rfl rfl λw s=>?_)
  have hq:=h _ (bX s0 (au s)) (au s);have hne:bs≠[]:=λe=>by grind
  unfold ap2 at hq;rw[decide_eq_true hne,Bool.true_and]at hq;rw[show(((Bo bs).2:Int)==0)=decide ((Bo bs).2=0) by grind];exact hq
end
def ah3 {F:Nat->Prop}{W w0:World}{L:List As}{a:Option Addr}{n c:Nat}{o:kS}{Q:Bool->World->Prop}(s0:Sep F W w0 L)(hA:Sl w0 a n c 1 bu o.m)(hr:eA o.m)(Hu:n<=1000000000000)(h:∀w',Sep F W w' L->Fr No w0 w'->Q (EO o) w'):K5 o.k o.A o.B a n c w0 Q:=by
 apply ahU;obtain⟨k,A,B,m⟩:=o;simp only at hA hr h⊢;have hl:=hA.len;have hm0:((n:Int)==0)=decide (m=[]):=by
  rw[Bool.eq_iff_iff,beq_iff_eq,decide_eq_true_eq];constructor
  ·intro e;simp_all
  grind
 have s:=bt (F:=No) (w:=w0);have hh:∀w' Ls,Sep No w0 w' Ls->Q (EO ⟨k,A,B,m⟩) w':=λw' Ls s=>h w' (bX s0 (au s)) (au s);unfold EO at hh;refine aQ s λb w s=>?_;apply lI s 0 rfl;by_cases hk:k=0
 ·rw[show(k==0)=true by grind,cond_true];apply lI s 0 rfl;by_cases hA1:A=-1
  ·rw[show(A==-1)=true by grind,cond_true];apply lI s 0 rfl;by_cases hB:B=0
   ·rw[show(B==0)=true by grind,cond_true];apply lS s 0 rfl;refine ah2 s (hA.fr (au s)) hr Hu λw s _=>?_;grind
   grind
  ·rw[show(A==-1)=false by grind,cond_false];apply lI s 0 rfl;refine Gy s λw s _=>?_
   (refine aV s λb w s=>?_;simp[xH,rN]at s)
   (refine ax s (i:=0) rfl rfl rfl λw s=>?_)
   (refine ax s (i:=0) rfl rfl rfl λw s=>?_)
   (refine ax s (i:=0) rfl rfl rfl λw s=>?_)
   apply lI s 1 rfl;apply JO (by decide);cases hf:Ev A 1 with
   |false=>
    grind
   |true=>
    cases hs:DH A with
    |true=>
     grind
    |false=>
     apply lI s 1 rfl;by_cases hB:B=0
     ·rw[show(B==0)=true by grind,cond_true];apply lS s 1 rfl;grind
     grind
 ·simp[if_neg hk]at hh;rw[show(k==0)=false by grind,cond_false];apply lI s 0 rfl;refine Gy s λw s _=>?_
  (refine aV s λb w s=>?_;simp[xH,rN]at s)
  (refine ax s (i:=0) rfl rfl rfl λw s=>?_)
  (refine ax s (i:=0) rfl rfl rfl λw s=>?_)
  (refine ax s (i:=0) rfl rfl rfl λw s=>?_)
  cases hs:DH k with
  |false=>
   grind
  |true=>
   have hab:=ap1 k;apply lI s 1 rfl;apply lI s 0 rfl;apply JO hab.1;cases hf:Ev A (w_ k)with
   |false=>
    grind
   |true=>
    apply lI s 1 rfl;apply lI s 0 rfl;apply JO hab.2;cases hg:Ev B (BW k)with
    |false=>
     grind
    |true=>
     apply lS s 1 rfl;rw[hm0];by_cases hm:m=[]
     ·grind
     ·rw[bh hm];apply lB s 0 rfl;have:=hh _ _ s;cases hL:shL k with
      |false=>grind
      |true=>
       apply lS s 1 rfl;rw[hs,hf,hg,decide_eq_false hm,Bool.false_or,Bool.true_and,Bool.true_and,Bool.true_and,hL,Bool.true_and]at this;rwa[show decide ((n:Int)<=4294967295)=decide (m.length<=4294967295)from decide_eq_decide.2 (by omega)]
structure FG where
 k:Int
 A:Int
 B:Int
 a:Option Addr
 n:Nat
 c:Nat
def GA (v:FG):List Value:=[ae v.k,ae v.A,ae v.B,.slice v.a v.n v.c]
def asV (v:FG):(GA v).length=4:=rfl
def aku (v:FG)(u:Value)(h:u∈GA v):u.oneCell'=true:=by simp[GA,List.mem_cons,List.not_mem_nil,or_false]at h;rcases h with rfl|rfl|rfl|rfl<;>rfl
structure OpV (w:World) (v:FG) (o:kS):Prop where
 k:v.k=o.k
 A:v.A=o.A
 B:v.B=o.B
 m:Sl w v.a v.n v.c 1 bu o.m
 jO:eA o.m
structure agK (e:FG×kS):Prop where
 k:e.1.k=e.2.k
 A:e.1.A=e.2.A
 B:e.1.B=e.2.B
 jO:eA e.2.m
def EC (es:List (FG×kS)):As:=aW (∀e∈es,agK e) (es.map λe=>ak e.1.a e.1.n e.1.c 5 1 (flat bu e.2.m))
section
variable {F:Nat->Prop}{W w:World}{L:List As}{oa:Option Addr}{on oc:Nat}{es:List (FG×kS)}
def anw (s:Sep F W w L):Sep F W w (EC []::L):=by exact dA s (by simp)
def ae1 {v:FG}{o:kS}(s:Sep F W w (EC es::ak v.a v.n v.c 5 1 (flat bu o.m)::L))(ha:agK (v,o)):Sep F W w (EC (es++[(v,o)])::L):=by
 unfold EC at s⊢;obtain⟨h1,s⟩:=gR s;refine dA ?_ λe he=>?_
 all_goals grind
def awc {v:FG}{o:kS}{K:Option Addr->Nat->Nat->World->Prop}(s:Sep F W w (ak oa on oc 38 4 (flat GA (es.map (·.1)))::EC es::ak v.a v.n v.c 5 1 (flat bu o.m)::L))(ha:agK (v,o))(Cs:on<=1000000000)
  (k:∀a' c' w',Sep F W w' (ak a' (on+1) c' 38 4 (flat GA ((es++[(v,o)]).map (·.1)))::EC (es++[(v,o)])::L)->K a' (on+1) c' w'):
  Bx [ae v.k,ae v.A,ae v.B,.slice v.a v.n v.c] 38 w λp w1=>App P #[46,46] 46 (.slice oa on oc) (.slice (some p) 1 1) w1 K:=by
 refine aQ s λb w1 s1=>?_;have src:Src w1 (sZ b) 1 4 (GA v):=⟨rfl,aku v,λj u hj=>by rw[cu,Nat.zero_add];exact cR s1 (i:=0) rfl rfl hj⟩;refine iw dW s1 (i:=1) (bytes:=48) rfl rfl rfl rfl rfl rfl (by decide) rfl src (by simp[maxLen];omega) (by omega) (λe=>by cases e) λa1 c1 w2 s2=>?_;have e:flat GA (es.map (·.1))++GA v=flat GA ((es++[(v,o)]).map (·.1)):=by rw[List.map_append,gd];simp[flat]
 rw[e]at s2;apply k a1 c1 w2;have s4:=ck (ai s2) (List.Perm.trans (List.Perm.swap ..) (List.Perm.cons _ (List.Perm.swap ..)));exact ck (ae1 s4 ha) (List.Perm.swap ..)
end
def cI {n lo hi:Int}{w:World}{Q:Int->World->Prop}(h1:lo<=hi)(h2:-1099511627776<=lo)(h3:hi<=1099511627776)(h:Q (lo+n%(hi-lo+1)) w):a_ n lo hi w Q:=by
 apply uD;rw[aG (n:=hi-lo),aG];generalize hs:hi-lo+1=s at h;have h4:=Int.lt_tmod_of_pos n (b:=s) (by omega);have h5:=Int.tmod_lt_of_pos n (b:=s) (by omega);have h6:=Int.tmod_add_mul_tdiv n s;refine⟨by omega,?_⟩;generalize ht:Int.tmod n s=t at*;have e:n%s=t%s:=by rw[<-h6,Int.add_mul_emod_self_left]
 by_cases hn:t<0
 ·rw[bN hn,aG (n:=t+hi),aG (n:=t+hi-lo),aG (n:=t+hi-lo+1),aG];have e2:t%s=t+s:=by rw[<-Int.add_emod_right,Int.emod_eq_of_lt (by omega) (by omega)]
  grind
 ·rw[bh hn,aG];rw[e,Int.emod_eq_of_lt (by omega) h5]at h;exact h
def GB {w:World}{m lo hi:Int}{Q:Bool->World->Prop}(h:Q (decide (lo<=m/\m<=hi)) w):lX m lo hi w Q:=by apply QB;grind
section
variable {F:Nat->Prop}{W w w0:World}{L:List As}{a a' b:Option Addr}{n c n' c' m q:Nat}{bs cs:List Int}
def ah4 {x:Int}{K:Option Addr->Nat->Nat->World->Prop}(s:Sep F W w (ak a n c 5 1 (flat bu bs)::L))(hn:n<=2000000000000)
  (k:∀a' c' w',Sep F W w' (ak a' (n+1) c' 5 1 (flat bu (bs++[x]))::L)->K a' (n+1) c' w'):Bx [.int .u8 x] 5 w λp w1=>App P #[22,22] 22 (.slice a n c) (.slice (some p) 1 1) w1 K:=by
 refine aQ s λb w s=>?_;have src:Src w (sZ b) 1 1 [.int .u8 x]:=⟨rfl,(λu hu=>by rw[List.mem_singleton.1 hu];rfl),λj u hj=>by rw[cu,Nat.zero_add];exact cR s (i:=0) rfl rfl hj⟩;refine iw dW s (i:=1) (bytes:=1) rfl rfl rfl rfl rfl rfl (by decide) rfl src (by simp[maxLen];omega) (by omega) (λe=>by cases e) λa1 c1 w1 s1=>?_;have e:flat bu bs++[.int .u8 x]=flat bu (bs++[x]):=by rw[gd];rfl
 rw[e]at s1;exact k _ _ _ (ai s1)
def alw {K:Option Addr->Nat->Nat->World->Prop}(s:Sep F W w (ak a n c 5 1 (flat bu bs)::L))(h:Sl w b m q 1 bu cs)(hn:n+m<=2000000000000)
  (k:∀a' c' w',Sep F W w' (ak a' (n+m) c' 5 1 (flat bu (bs++cs))::L)->K a' (n+m) c' w'):App P #[22,22] 22 (.slice a n c) (.slice b m q) w K:=by
 have src:=h.src (e:=5) dO A6;refine iw dW s (i:=0) (bytes:=1) rfl rfl rfl rfl rfl rfl (by decide) rfl src (by simp[maxLen];omega) (by omega) h.nil λa1 c1 w1 s1=>?_;rw[<-gd]at s1;grind
end
section
variable {F:Nat->Prop}{W w w0:World}{L:List As}
def arM {b:Nat}{x:Int}(s:Sep F W w (av b 5 [.int .u8 x]::L)):Sep F W w (ak (sZ b) 1 1 5 1 (flat bu [x])::L):=
 g_ s (i:=0) rfl rfl (by decide) (λu hu=>by have hu:u∈[Value.int .u8 x]:=hu;rw[List.mem_singleton]at hu;rw[hu];rfl)
end
end Go.Proofs.YtmegplnmiepfbaaGreatDoor.S.O
namespace Go.Proofs.YtmegplnmiepfbaaGreatDoor.S
open Go.Sx
attribute [local irreducible] af cv bz bg aA cw bZ St Bx Al App cH cy cD bU aM bF aq bS av ak aW mapA
def mN {p:Addr}{A B:Prop}(h:B):cond (some p).isNone A B:=h
structure iC where
 m:bM
 ep:Int
 vs:List Int
structure xI (g:iC):Prop where
 may:cW g.m
 len:(g.vs.length:Int)=eL g.m.w g.m.h
 ep:1<=g.ep/\g.ep<4611686018427387904
 vs:∀v∈g.vs,1<=v/\v<=g.ep
structure uL where
 p:Nat
 ca:Option Addr
 cn:Nat
 cc:Nat
 va:Option Addr
 vn:Nat
 vc:Nat
def alx (r:uL)(g:iC):List Value:=[ae g.m.w,ae g.m.h,.slice r.ca r.cn r.cc,ae g.ep,.slice r.va r.vn r.vc]
def abt (r:uL)(g:iC):List As:=[av r.p 174 (alx r g),ak r.ca r.cn r.cc 5 1 (flat bu g.m.cs),ak r.va r.vn r.vc 2 1 (flat one g.vs)]
def n7 (r:uL)(g:iC):As:=aW (xI g) (abt r g)
structure n8 (w:World) (r:uL) (g:iC):Prop where
 ok:xI g
 cell:∀(j:Nat) v,(alx r g)[j]? =some v->w.cell? ((aZ r.p).add j)=some v
 C:Sl w r.ca r.cn r.cc 1 bu g.m.cs
 V:Sl w r.va r.vn r.vc 1 one g.vs
def xI.ja {g:iC}(h:xI g):ja g.m.w g.m.h:=⟨h.may.w,h.may.h⟩
section
variable {F:Nat->Prop}{W w w0:World}{L:List As}{r:uL}{g:iC}
def n8.fr {w':World}(k:n8 w r g)(f:Fr No w w'):n8 w' r g:=⟨k.ok,λj v h=>Fr.cell f (k.cell j v h) id,k.C.fr f,k.V.fr f⟩
def ae2 (s:Sep F W w (n7 r g::L)):xI g/\Sep F W w (abt r g++L):=gR s
def abu (s:Sep F W w (abt r g++L))(h:xI g):Sep F W w (n7 r g::L):=dA s h
def oU (s:Sep F W w (n7 r g::L)):n8 w r g:=by obtain⟨h,s⟩:=ae2 s;exact⟨h,λj v hj=>by rw[cu,Nat.zero_add];exact cR s (i:=0) rfl rfl hj,aK s (i:=1) rfl dO (by decide),aK s (i:=2) rfl cE (by decide)⟩
def cV (m:bM)(c:Int):Int:=if 0<=c/\c<m.cs.length then gi m.cs c.toNat else 0
def ju {c:Int}{Q:Int->World->Prop}(k:n8 w r g)(h:Q (cV g.m c) w):fg (sZ r.p) c w Q:=by
 apply RR;apply mN;have hl:=k.C.len;unfold cV at h;by_cases h0:c<0
 ·grind
 rw[bh h0];refine ah (dJ (k.cell 2 _ rfl) ?_);by_cases h1:c≥(r.cn:Int)
 ·grind
 rw[bh h1];refine ah (dJ (k.cell 2 _ rfl) ?_);rw[AP]at h;have hb:=k.ok.may.jO _ (fG (i:=c.toNat) (by omega));apply k.C.Dq (k:=c.toNat) (by omega) (by omega);rw[aG];exact h
def rA {Q:Int->World->Prop}(k:n8 w r g)(h:Q g.ep w):gf (sZ r.p) w Q:=by apply FB;exact mN (ah (aO (k.cell 3 _ rfl) h))
def ZT {Q:Int->World->Prop}(h:Q 0 w):gf none w Q:=FB _ _ _ h
def jv {Q:Int->Int->World->Prop}(s0:Sep F W w L)(k:n8 w r g)(h:∀w',Sep F W w' L->Fr No w w'->Q g.m.w g.m.h w'):eS (sZ r.p) w Q:=by apply RV;have k:=k.fr (w':=w.drew) Fr.refl;exact mN (ah (aO (k.cell 0 _ rfl) (ah (aO (k.cell 1 _ rfl) ⟨k.cell 1 _ rfl,h _ (ay s0) Fr.refl⟩))))
def zH (g:iC)(s:Int):Int:=if 0<=s/\s<g.vs.length then gi g.vs s.toNat else 0
def r8 {c:Int}{Q:Int->World->Prop}(k:n8 w r g)(h:Q (zH g c) w):jc (sZ r.p) c w Q:=by
 apply MH;apply mN;have hl:=k.V.len;unfold zH at h;by_cases h0:c<0
 ·grind
 rw[bh h0];refine ah (dJ (k.cell 4 _ rfl) ?_);by_cases h1:c≥(r.vn:Int)
 ·grind
 rw[bh h1];refine ah (dJ (k.cell 4 _ rfl) ?_);rw[AP]at h;exact k.V.rE (by omega) (by omega) h
def HZ {w h s:Int}(hs:dY w h s){y x:Nat}(hx:(x:Int)<aE w h s):bV w h s (y*aE w h s+x)=bV w h s (y*aE w h s)+x:=by obtain⟨e1,e2⟩:=rT (w:=aE w h s) (x:=(x:Int)) (y:=(y:Int)) (by omega);obtain⟨e3,e4⟩:=rT (w:=aE w h s) (x:=0) (y:=(y:Int)) (by omega);unfold bV;grind
def anx {m:bM}{s:Int}(hm:cW m)(hs:dY m.w m.h s){y tw:Nat}(hw:(tw:Int)=aE m.w m.h s)(hy:(y:Int)<bC m.w m.h s){f:Nat}(hf:(f:Int)=bV m.w m.h s (y*aE m.w m.h s)):
  f+tw<=m.cs.length/\((List.range (y*tw)).map λl:Nat=>gi m.cs (bV m.w m.h s l).toNat)++(m.cs.drop f).take tw=(List.range ((y+1)*tw)).map λl:Nat=>gi m.cs (bV m.w m.h s l).toNat:=by
 have hz:=qZ hs.1.1 hs.1.2 hs.2;have hl:=hm.len;have hin:∀x:Nat,x<tw->0<=bV m.w m.h s (y*aE m.w m.h s)+x/\bV m.w m.h s (y*aE m.w m.h s)+x<m.w*m.h:=λx hx=>by
  rw[<-HZ hs (by omega)];refine F7 hs.1.1 hs.1.2 hs.2 ⟨?_,?_⟩
  ·have:0<=(y:Int)*aE m.w m.h s:=Int.mul_nonneg (by omega) (by omega);omega
  ·have:((y:Int)+1)*aE m.w m.h s<=bC m.w m.h s*aE m.w m.h s:=Int.mul_le_mul_of_nonneg_right (by omega) (by omega);grind
 have awd:=hin (tw-1) (by omega);refine⟨by omega,?_⟩;rw[Nat.add_mul,Nat.one_mul,List.range_add,List.map_append,List.map_map];congr 1;refine List.ext_getElem (by simp;omega) λi h1 h2=>?_;simp[List.length_map,List.length_range]at h2;simp only[List.getElem_take,List.getElem_drop,List.getElem_map,List.getElem_range,Function.comp];have e:((y*tw+i:Nat):Int)=y*aE m.w m.h s+i:=by grind
 rw[e,HZ hs (by omega)];have e2:(bV m.w m.h s (y*aE m.w m.h s)+(i:Int)).toNat=f+i:=by omega
 have:=ig (l:=m.cs) (i:=f+i) (by omega);grind
def Nu {sc:Int}{Q:Int->Int->Option Addr->Nat->Nat->Bool->World->Prop}(s0:Sep F W w0 L)(k:n8 w0 r g)
  (hno:¬dY g.m.w g.m.h sc->∀w',Sep F W w' L->Fr No w0 w'->Q 0 0 none 0 0 false w')
  (hyes:dY g.m.w g.m.h sc->∀ta tn tc w',Sep F W w' (ak ta tn tc 5 1 (flat bu (qu g.m sc))::L)->Fr No w0 w'->Q (aE g.m.w g.m.h sc) (bC g.m.w g.m.h sc) ta tn tc true w'):uu (sZ r.p) sc w0 Q:=by
 apply Sa;have s:=bt (F:=No) (w:=w0);refine aV s λqb w s=>?_;refine jv s (k.fr (au s)) λw s _=>?_;refine vA s λw s _=>?_;unfold Y7 ac2;have hm:=k.ok.may;have hC:=k.C;have yp:=hC.len;have hmul:=qK k.ok.ja;by_cases hs:dY g.m.w g.m.h sc
 ·have hz:=qZ hs.1.1 hs.1.2 hs.2;rw[if_pos hs,if_pos hs,cB (by omega),cond_false];obtain⟨tw,QM⟩:∃n:Nat,(n:Int)=aE g.m.w g.m.h sc:=⟨(aE g.m.w g.m.h sc).toNat,by omega⟩;obtain⟨th,hth⟩:∃n:Nat,(n:Int)=bC g.m.w g.m.h sc:=⟨(bC g.m.w g.m.h sc).toNat,by omega⟩;refine aV s λtb w s=>?_;refine ax s (i:=0) rfl rfl rfl λw s=>?_;refine ax s (i:=0) rfl rfl rfl λw s=>?_;refine ax s (i:=0) rfl rfl rfl λw s=>?_;have s:=ck (bG s 5 1) (List.Perm.refl _);have loop:∀(j y:Nat) (ta:Option Addr) (tn tc:Nat) (w:World),y+j=th->tn=y*tw->
    Sep No w0 w [ak ta tn tc 5 1 (flat bu ((List.range (y*tw)).map λl:Nat=>gi g.m.cs (bV g.m.w g.m.h sc l).toNat)),av tb 84 [ae (aE g.m.w g.m.h sc),ae (bC g.m.w g.m.h sc),.slice ta tn tc],av qb 84 [ae 0,ae 0,.slice none 0 0]]->
    oD Q (j+1) (sZ r.p) sc (aZ qb) g.m.w g.m.h (aE g.m.w g.m.h sc) (aZ tb) (bC g.m.w g.m.h sc) y w:=by
   intro j;induction j with
   |zero=>
    intro y ta tn tc w hy QL s;show rX Q (oD Q 0) _ _ _ _ _ _ _ _ _ _;rw[rX,bh];apply lI s 1 rfl;apply lI s 1 rfl;apply lS s 1 rfl
    (refine ax s (i:=2) rfl rfl rfl λw s=>?_)
    (refine ax s (i:=2) rfl rfl rfl λw s=>?_)
    (refine ax s (i:=2) rfl rfl rfl λw s=>?_)
    apply lI s 2 rfl;apply lI s 2 rfl;apply lS s 2 rfl;refine hyes hs _ _ _ _ (dQ s0 s (i:=0) ?_) (au s);unfold qu;grind
   |succ j ih=>
    intro y ta tn tc w hy QL s;show rX Q (oD Q (j+1)) _ _ _ _ _ _ _ _ _ _;unfold rX;have hyl:(y:Int)*aE g.m.w g.m.h sc+aE g.m.w g.m.h sc<=aE g.m.w g.m.h sc*bC g.m.w g.m.h sc:=by have:((y:Int)+1)*aE g.m.w g.m.h sc<=bC g.m.w g.m.h sc*aE g.m.w g.m.h sc:=Int.mul_le_mul_of_nonneg_right (by omega) (by omega);grind
    have hy0:0<=(y:Int)*aE g.m.w g.m.h sc:=Int.mul_nonneg (by omega) (by omega);have ha:=Int.mul_le_mul hz.1.2 hz.2.2 (by omega) (by decide);rw[bN,aG];refine xG s λw s _=>?_;rw[CT,if_pos ⟨hs,by omega,by omega⟩];have hg:=F7 hs.1.1 hs.1.2 hs.2 (l:=(y:Int)*aE g.m.w g.m.h sc) (by omega);obtain⟨f,hf⟩:∃n:Nat,(n:Int)=bV g.m.w g.m.h sc (y*aE g.m.w g.m.h sc):=⟨(bV g.m.w g.m.h sc (y*aE g.m.w g.m.h sc)).toNat,by omega⟩;obtain⟨hin,hrow⟩:=anx hm hs QM (by omega) hf;rw[<-hf,aG];have s:=ay s;apply lS s 1 rfl;have k':=k.fr (au s);refine ah (dJ (k'.cell 2 _ rfl) ?_);refine k'.C.mid (q:=f+tw) rfl (by omega) (by omega) (by omega) λa' n' c' hn' hS=>?_;rw[show f+tw-f=tw by omega]at hS hn';have hyt:((y*tw:Nat):Int)=(y:Int)*aE g.m.w g.m.h sc:=by grind
    refine O.alw s hS (by omega) λYw Yx w s=>?_;refine ax s (i:=1) rfl rfl rfl λw s=>?_;rw[aG];grind
  refine⟨th+1,loop th 0 none 0 0 w (by omega) (by omega) ?_⟩;rw[Nat.zero_mul];exact s
 ·rw[if_neg hs,if_neg hs,dw rfl,cond_true]
  (refine ax s (i:=0) rfl rfl rfl λw s=>?_)
  (refine ax s (i:=0) rfl rfl rfl λw s=>?_)
  (refine ax s (i:=0) rfl rfl rfl λw s=>?_)
  apply lI s 0 rfl;apply lI s 0 rfl;apply lS s 0 rfl;exact hno hs _ (bX s0 (au s)) (au s)
end
section
variable {F:Nat->Prop}{W w w0:World}{L:List As}{r:uL}{g:iC}{a:Option Addr}{n c:Nat}{bs:List Int}
def E6 {f:Int->List Value}{es:List Int}{e:TypeId}{i k:Nat}{x' idx:Int}{v:Value}{K:World->Prop}(hf:∀x,(f x).length=1)(s:Sep F W w L)(hi:L[i]? =some (ak a n c e 1 (flat f es)))(hk:idx=k)(hkn:k<es.length)(hx':f x'=[v])(hv:v.oneCell'=true)
  (h:∀w',Sep F W w' (L.set i (ak a n c e 1 (flat f (es.set k x'))))->K w'):aH idx n (wA a λp=>St (p.add (idx.toNat*1)) v w K):=by
 have hn:=rG s hi;rw[iV hf,Nat.mul_one,Nat.mul_one]at hn;obtain⟨b,o,rfl⟩:=qe s hi (by omega);subst hk;refine⟨by omega,by omega,ah ?_⟩;obtain⟨x,hx⟩:∃x,es[k]? =some x:=⟨_,List.getElem?_eq_getElem hkn⟩;have h1:=hf x;refine dX hf s hi hx (j:=0) (by simp[Addr.add]) (by decide) ?_ hv h;rw[hx']
 match hfx:f x,h1 with
 |[y],_=>rfl
def LD {Q:Option Addr->Nat->Nat->World->Prop}(s:Sep F W w L)(hA:Sl w a n c 1 bu bs)(hn:n<=1000000000000)(h:∀ra rc w',Sep F W w' (ak ra n rc 5 1 (flat bu bs)::L)->Fr No w w'->Q ra n rc w'):mQ a n c w Q:=by
 apply HU;cases a with
 |none=>
  have hl:=hA.len;have:=hA.nil rfl;have h0:n=0:=by have:=hA.le;omega
  subst h0;have hb:=List.eq_nil_of_length_eq_zero hl;subst hb;exact h _ _ _ (bG s 5 1) Fr.refl
 |some p=>
  apply mN;refine aQ (bt (F:=No)) λb w' s'=>?_;refine O.aum s' (hA.fr (au s')) hn λra rc w' s'=>?_;exact h _ _ _ (dQ s s' (i:=0) rfl) (au s')
def W_ (m:bM):Bool:=decide (ja m.w m.h)&&(decide ((m.cs.length:Int)=m.w*m.h)&&!decide ((0:Int)∈m.cs))
def V1 {m:bM}(hr:eA m.cs):W_ m=true↔cW m:=by
 simp[W_,Bool.and_eq_true,decide_eq_true_eq,Bool.not_eq_true',decide_eq_false_iff_not];constructor
 ·rintro ⟨h1,h2,h3⟩;refine⟨h1.1,h1.2,h2,λx hx=>?_⟩;have:=hr x hx;grind
 ·intro h;exact⟨⟨h.w,h.h⟩,h.len,λh0=>by have:=h.jO _ h0;omega⟩
def Nv {m:bM}{Q:Bool->World->Prop}(s0:Sep F W w L)(hA:Sl w a n c 1 bu m.cs)(h:∀w',Sep F W w' L->Fr No w w'->Q (W_ m) w'):Bp m.w m.h a n c w Q:=by
 apply abb;refine aQ (bt (F:=No)) λmb w s=>?_;apply lI s 0 rfl;apply lI s 0 rfl;apply pW;have hA:=hA.fr (au s);have hl:=hA.len;have h:=h w (bX s0 (au s)) (au s);unfold W_ at h;by_cases hm:ja m.w m.h
 ·have hmul:=qK hm;rw[bN hm];rw[decide_eq_true hm,Bool.true_and]at h;apply lS s 0 rfl;apply lI s 0 rfl;apply lI s 0 rfl;rw[aG];by_cases hc:(m.cs.length:Int)=m.w*m.h
  ·rw[dw (by omega),cond_true];rw[decide_eq_true hc,Bool.true_and]at h;apply lS s 0 rfl;exact Tl.HY hA.row (by omega) h
  grind
 grind
def OS (m:bM)(e:Int):iC:=⟨m,e+1,List.replicate (eL m.w m.h).toNat (e+1)⟩
def akw {m:bM}{e:Int}(hm:cW m)(he:0<=e/\e<2305843009213693952):xI (OS m e):=by
 have hc:=gS hm.w hm.h;refine⟨hm,?_,by show 1<=e+1/\e+1<_;omega,λv hv=>?_⟩
 ·show((List.replicate _ _).length:Int)=_;rw[List.length_replicate];show((eL m.w m.h).toNat:Int)=eL m.w m.h;omega
 ·rw[List.eq_of_mem_replicate hv];show 1<=e+1/\e+1<=e+1;omega
def adN {m:bM}{e:Int}{Q:Option Addr->World->Prop}(s0:Sep F W w0 L)(hA:Sl w0 a n c 1 bu m.cs)(hr:eA m.cs)(he:0<=e/\e<2305843009213693952)
  (hno:¬cW m->∀w',Sep F W w' L->Fr No w0 w'->Q none w')(hyes:cW m->∀r w',Sep F W w' (n7 r (OS m e)::L)->Fr No w0 w'->Q (sZ r.p) w'):HJ m.w m.h a n c e w0 Q:=by
 apply ads;refine aQ (bt (F:=No)) λmb w s=>?_;apply lI s 0 rfl;apply lI s 0 rfl;apply lS s 0 rfl;refine Nv s (hA.fr (au s)) λw s _=>?_;by_cases hm:cW m
 ·have hmul:=qK ⟨hm.w,hm.h⟩;have hl:=hA.len;have hlen:=hm.len;have V2:=gS hm.w hm.h;rw[(V1 hr).2 hm,Bool.not_true,cond_false,bh,bh];apply lS s 0 rfl;refine LD s (hA.fr (au s)) (by omega) λca cc w s _=>?_;refine ax s (i:=1) rfl rfl rfl λw s=>?_;apply lI s 1 rfl;apply lI s 1 rfl;apply qX;unfold ZQ adL;rw[if_pos ⟨hm.w,hm.h⟩,if_pos ⟨hm.w,hm.h⟩];have s:=ay s;apply lI s 1 rfl;apply lI s 1 rfl;apply lS s 1 rfl;rw[show cP m.w*cP m.h=eL m.w m.h from rfl,aG,aG];obtain⟨N,hN⟩:∃N:Nat,eL m.w m.h=N:=⟨(eL m.w m.h).toNat,by omega⟩;rw[hN];refine sY (bytes:=8) dW s rfl rfl rfl rfl rfl rfl (by decide) cE rfl (λu hu=>by simp[one]at hu;subst hu;rfl) rfl rfl (Nat.le_refl _) (by omega) (by simp[maxLen];omega) λvb w s=>?_;refine⟨cq s 2 rfl,cq s 2 rfl,cq s 2 rfl,?_⟩;refine aQ s λgb w s=>?_;apply lS s 0 rfl;have loop:∀(j i:Nat) (w:World),i+j=N->Sep No w0 w (av gb 174 [ae m.w,ae m.h,.slice ca n cc,ae (e+1),.slice (sZ vb) N N]::ak (sZ vb) N N 2 1 (flat one (List.replicate i (e+1)++List.replicate j 0))::ak ca n cc 5 1 (flat bu m.cs)::av mb 25 [ae m.w,ae m.h,.slice ca n cc]::[])->
    zq Q (j+1) (aZ gb) N i w:=by
   intro j;induction j with
   |zero=>
    intro i w hi s;show Ce Q (zq Q 0) _ _ _ _;rw[Ce,bh];have hi:i=N:=by omega
    subst hi;have s:=cm (L':=[_,_,_]) [0,2,1] s rfl (by decide);have s:Sep No w0 w (abt ⟨gb,ca,n,cc,sZ vb,i,i⟩ (OS m e)++[]):=by
     have e1:(OS m e).vs=List.replicate i (e+1)++List.replicate 0 0:=by show List.replicate (eL m.w m.h).toNat (e+1)=_;grind
     show Sep No w0 w [av gb 174 (alx ⟨gb,ca,n,cc,sZ vb,i,i⟩ (OS m e)),ak ca n cc 5 1 (flat bu m.cs),ak (sZ vb) i i 2 1 (flat one (OS m e).vs)];rw[e1];exact s
    have s:=abu s (akw hm he);exact hyes hm ⟨gb,ca,n,cc,sZ vb,i,i⟩ _ (dQ s0 s (i:=0) rfl) (au s)
   |succ j ih=>
    intro i w hi s;show Ce Q (zq Q (j+1)) _ _ _ _;rw[Ce,bN];have s:=ay s;apply lS s 0 rfl;apply lI s 0 rfl;refine E6 (x':=e+1) cE s (i:=1) rfl rfl (by simp) rfl rfl λw s=>?_;rw[aG];apply ih (i+1) w (by omega);have e1:(List.replicate i (e+1)++List.replicate (j+1) 0).set i (e+1)=List.replicate (i+1) (e+1)++List.replicate j 0:=by rw[List.set_append_right _ _ (by simp),List.length_replicate,Nat.sub_self,List.replicate_succ,List.set_cons_zero,List.replicate_succ',List.append_assoc];rfl
    grind
  exact⟨N+1,loop N 0 w (by omega) s⟩
 ·have hb:W_ m=false:=by
   cases hb:W_ m with
   |false=>rfl
   |true=>exact(hm ((V1 hr).1 hb)).elim
  rw[hb,Bool.not_false,cond_true];exact hno hm _ (bX s0 (au s)) (au s)
def xJ (g:iC)(c x:Int):iC:=⟨⟨g.m.w,g.m.h,g.m.cs.set c.toNat x⟩,g.ep+1,g.vs.set (aC g.m.w g.m.h c).toNat (g.ep+1)⟩
def ah5 {g:iC}(hg:xI g){c x:Int}(hx:1<=x/\x<=255)(he:g.ep<2305843009213693952):xI (xJ g c x):=by
 refine⟨⟨hg.may.w,hg.may.h,?_,λy hy=>?_⟩,?_,?_,λv hv=>?_⟩
 ·show((g.m.cs.set c.toNat x).length:Int)=_;rw[List.length_set];exact hg.may.len
 ·rcases List.mem_or_eq_of_mem_set hy with hy|rfl
  ·exact hg.may.jO y hy
  ·omega
 ·show((g.vs.set _ _).length:Int)=_;rw[List.length_set];exact hg.len
 ·have:=hg.ep;show 1<=g.ep+1/\g.ep+1<_;omega
 ·have:=hg.ep;show 1<=v/\v<=g.ep+1;rcases List.mem_or_eq_of_mem_set hv with hv|rfl
  ·have:=hg.vs v hv;omega
  ·omega
def abw {ce x:Int}{Q:Int->World->Prop}(s:Sep F W w (n7 r g::L))(he:g.ep<2305843009213693952)
  (h7:¬bK g.m.w g.m.h ce->Q 7 w)(h8:bK g.m.w g.m.h ce->¬(1<=x/\x<=255)->Q 8 w)
  (h0:bK g.m.w g.m.h ce->1<=x/\x<=255->∀w',Sep F W w' (n7 r (xJ g ce x)::L)->Q 0 w'):Ad (sZ r.p) ce x w Q:=by
 apply RX;apply mN;have k:=oU s;obtain⟨hg,s⟩:=ae2 s;have s:=s;have hl:=k.C.len;have hlen:=hg.may.len;by_cases h1:ce<0
 ·rw[bN h1];exact h7 λe=>by have:=e.2;omega
 rw[bh h1];apply ah;apply lS s 0 rfl;by_cases h2:ce≥(r.cn:Int)
 ·rw[bN h2];exact h7 λe=>by have:=e.2;omega
 rw[bh h2];have hc:bK g.m.w g.m.h ce:=⟨hg.ja,by omega,by omega⟩;by_cases h3:x<1
 ·grind
 rw[bh h3];by_cases h4:x>255
 ·grind
 rw[bh h4];have Yy:=hg.ep;apply ah;apply lS s 0 rfl;rw[wrap_u8',Int.emod_eq_of_lt (by omega) (by omega)];refine E6 (k:=ce.toNat) (x':=x) dO s (i:=1) rfl (by omega) (by omega) rfl rfl λw s=>?_;apply ah;apply lI s 0 rfl;apply ah;rw[aG];refine ax s (i:=0) rfl rfl rfl λw s=>?_;have s:=ay s;apply ah;apply lS s 0 rfl;apply ah;apply lI s 0 rfl;apply ah;apply lI s 0 rfl;apply ah;apply lI s 0 rfl;refine e9 s λw s _=>?_;refine⟨cq s 0 rfl,cq s 0 rfl,?_⟩;have hs:=bT hc;have hvl:=hg.len;refine E6 (k:=(aC g.m.w g.m.h ce).toNat) (x':=g.ep+1) cE s (i:=2) rfl (by have:=hs.2;omega) (by have:=hs.2;omega) rfl rfl λw s=>?_;exact h0 hc (by omega) _ (abu s (ah5 hg (by omega) he))
end
def gN (w h c s:Int):Int:=if aY w h c s<0 then-1 else if aC w h (aY w h c s)=aC w h c then-1 else aY w h c s
def fk (m:bM)(c:Int):Bool:=decide (0<cV m c/\cV m c<255)
def mG (n:Int)(f:Int->Int):List Int:=(List.range n.toNat).map λi:Nat=>f i
def mH (tw th s:Int):List Int:=
 if s=2 then mG tw λx=>(th-1)*tw+x
 else if s=0 then mG tw λx=>0+x
 else if s=1 then mG th λy=>tw-1+y*tw
 else if s=3 then mG th λy=>0+y*tw
 else[]
def abx {k:IntKind}{n:Int}{K:Int->Prop}(h:K n):dI k (.int k n) K:=by cases k<;>exact h
def auo {K:Value->Prop}{a b c d:Int}{j:Nat}{x:Int}(hj:j=0/\x=a\/j=1/\x=b\/j=2/\x=c\/j=3/\x=d)(h:K (ae x)):IxV [ae a,ae b,ae c,ae d] j K:=by rcases hj with⟨rfl,rfl⟩|⟨rfl,rfl⟩|⟨rfl,rfl⟩|⟨rfl,rfl⟩<;>exact⟨_,rfl,h⟩
section
variable {F:Nat->Prop}{W w w0:World}{L:List As}{r:uL}{g:iC}{a:Option Addr}{n c:Nat}{bs:List Int}{mw mh ce:Int}
def LF {x:Int}{K:Option Addr->Nat->Nat->World->Prop}(s:Sep F W w (ak a n c 3 1 (flat one bs)::L))(hn:n<=1000000000)
  (k:∀a' c' w',Sep F W w' (ak a' (n+1) c' 3 1 (flat one (bs++[x]))::L)->K a' (n+1) c' w'):Bx [ae x] 3 w λp w1=>App P #[29,29] 29 (.slice a n c) (.slice (some p) 1 1) w1 K:=by
 refine aQ s λb w s=>?_;have src:Src w (sZ b) 1 1 [ae x]:=⟨rfl,(λu hu=>by rw[List.mem_singleton.1 hu];rfl),λj u hj=>by rw[cu,Nat.zero_add];exact cR s (i:=0) rfl rfl hj⟩;refine iw dW s (i:=1) (bytes:=8) rfl rfl rfl rfl rfl rfl (by decide) rfl src (by simp[maxLen];omega) (by omega) (λe=>by cases e) λa1 c1 w1 s1=>?_;have e:flat one bs++[ae x]=flat one (bs++[x]):=by rw[gd];rfl
 rw[e]at s1;exact k _ _ _ (ai s1)
def I6 {Q:Int->Int->Int->Int->World->Prop}(s0:Sep F W w L)(h:∀w',Sep F W w' L->Fr No w w'->Q 0 1 2 3 w'):xo w Q:=by
 apply VA;refine aV (bt (F:=No)) λb w s=>?_
 (refine ax s (i:=0) rfl rfl rfl λw s=>?_)
 (refine ax s (i:=0) rfl rfl rfl λw s=>?_)
 (refine ax s (i:=0) rfl rfl rfl λw s=>?_)
 (refine ax s (i:=0) rfl rfl rfl λw s=>?_)
 apply lI s 0 rfl;apply lI s 0 rfl;apply lI s 0 rfl;apply lI s 0 rfl;exact h _ (bX s0 (au s)) (au s)
def J0 {sd:Int}{Q:Int->World->Prop}(s0:Sep F W w L)(h:∀w',Sep F W w' L->Fr No w w'->Q (gN mw mh ce sd) w'):yF mw mh ce sd w Q:=by
 apply XT;refine kM (bt (F:=No)) λw s _=>?_;have fin:∀w',Sep No _ w' []->Q (gN mw mh ce sd) w':=λw' s=>h w' (bX s0 (au s)) (au s);unfold gN at fin;by_cases h1:aY mw mh ce sd<0
 ·grind
 rw[bh h1];refine e9 s λw s _=>?_;refine e9 s λw s _=>?_;grind
def DW {Q:Bool->World->Prop}(k:n8 w r g)(h:Q (fk g.m ce) w):tF (sZ r.p) ce w Q:=by apply XX;apply ju k;unfold fk at h;grind
def aby (n:Nat)(f:Int->Int):mG ((n+1:Nat):Int) f=mG n f++[f n]:=by unfold mG;rw[Int.toNat_natCast,Int.toNat_natCast,List.range_succ,List.map_append];rfl
def ae3 {Q:Option Addr->Nat->Nat->World->Prop}{f0:Int}{N:Nat}(hf:0<=f0/\f0<=100000)(hN:N<=16)(h:∀ra rc w',Sep F W w' (ak ra N rc 3 1 (flat one (mG N λx=>f0+x))::L)->Q ra N rc w'):
  ∀(j i:Nat) (la:Option Addr) (lc:Nat) (w:World),i+j=N->Sep F W w (ak la i lc 3 1 (flat one (mG i λx=>f0+x))::L)->nD Q (j+1) la i lc f0 N i w:=by
 intro j;induction j with
 |zero=>
  intro i la lc w hi s;show tJ Q (nD Q 0) _ _ _ _ _ _ _;unfold tJ;grind
 |succ j ih=>
  intro i la lc w hi s;show tJ Q (nD Q (j+1)) _ _ _ _ _ _ _;rw[tJ,bN,aG];refine LF s (by omega) λla lc w s=>?_;rw[aG];rw[<-aby i λx=>f0+x]at s;exact ih (i+1) la lc w (by omega) s
def ae4 {Q:Option Addr->Nat->Nat->World->Prop}{f0 tw:Int}{N:Nat}(hf:0<=f0/\f0<=100000)(ht:0<=tw/\tw<=16)(hN:N<=16)(h:∀ra rc w',Sep F W w' (ak ra N rc 3 1 (flat one (mG N λy=>f0+y*tw))::L)->Q ra N rc w'):
  ∀(j i:Nat) (la:Option Addr) (lc:Nat) (w:World),i+j=N->Sep F W w (ak la i lc 3 1 (flat one (mG i λy=>f0+y*tw))::L)->nE Q (j+1) tw la i lc f0 N i w:=by
 intro j;induction j with
 |zero=>
  intro i la lc w hi s;show tK Q (nE Q 0) _ _ _ _ _ _ _ _;unfold tK;grind
 |succ j ih=>
  intro i la lc w hi s;show tK Q (nE Q (j+1)) _ _ _ _ _ _ _ _;unfold tK;have h1:0<=(i:Int)*tw:=Int.mul_nonneg (by omega) ht.1;have h2:(i:Int)*tw<=16*16:=Int.mul_le_mul (by omega) ht.2 ht.1 (by decide);rw[bN,aG (n:=(i:Int)*tw),aG];refine LF s (by omega) λla lc w s=>?_;rw[aG];rw[<-aby i λy=>f0+y*tw]at s;exact ih (i+1) la lc w (by omega) s
def V3 {tw th sd:Int}{Q:Option Addr->Nat->Nat->World->Prop}(s0:Sep F W w L)(ht:1<=tw/\tw<=16)(hh:1<=th/\th<=16)
  (h:∀ra rn rc w',Sep F W w' (ak ra rn rc 3 1 (flat one (mH tw th sd))::L)->Q ra rn rc w'):Ca tw th sd w Q:=by
 apply VB;have s:=bG s0 3 1;obtain⟨TW,rfl⟩:∃N:Nat,tw=N:=⟨tw.toNat,by omega⟩;obtain⟨TH,rfl⟩:∃N:Nat,th=N:=⟨th.toNat,by omega⟩;unfold mH at h;by_cases k2:sd=2
 ·rw[dw k2,cond_true];rw[if_pos k2]at h;have h1:0<=((TH:Int)-1)*TW:=Int.mul_nonneg (by omega) (by omega);have h2:((TH:Int)-1)*TW<=16*16:=Int.mul_le_mul (by omega) (by omega) (by omega) (by decide);rw[aG (n:=(TH:Int)-1),aG];exact⟨TW+1,ae3 (by omega) (by omega) (λra rc w' s=>h ra TW rc w' s) TW 0 none 0 w (by omega) s⟩
 rw[cB k2,cond_false];rw[if_neg k2]at h;by_cases k0:sd=0
 ·rw[dw k0,cond_true];rw[if_pos k0]at h;exact⟨TW+1,ae3 (by omega) (by omega) (λra rc w' s=>h ra TW rc w' s) TW 0 none 0 w (by omega) s⟩
 rw[cB k0,cond_false];rw[if_neg k0]at h;by_cases k1:sd=1
 ·rw[dw k1,cond_true];rw[if_pos k1]at h;rw[aG];exact⟨TH+1,ae4 (by omega) (by omega) (by omega) (λra rc w' s=>h ra TH rc w' s) TH 0 none 0 w (by omega) s⟩
 rw[cB k1,cond_false];rw[if_neg k1]at h;by_cases k3:sd=3
 ·rw[dw k3,cond_true];rw[if_pos k3]at h;exact⟨TH+1,ae4 (by omega) (by omega) (by omega) (λra rc w' s=>h ra TH rc w' s) TH 0 none 0 w (by omega) s⟩
 rw[cB k3,cond_false];rw[if_neg k3]at h;exact h _ _ _ _ s
end
def bl (b:Bool):List Value:=[.bool b]
def ah6 (b:Bool):(bl b).length=1:=rfl
def I7 (w h sc s:Int):Bool:=decide (0<=gN w h (CT w h sc (gi (mH (aE w h sc) (bC w h sc) s) 0)) s)
def yK (w h sc:Int)(j:Nat)(l:Nat):Bool:=(List.range j).any λs:Nat=>I7 w h sc s&&decide ((l:Int)∈mH (aE w h sc) (bC w h sc) s)
def vB (w h sc:Int):List Int:=((List.range (aE w h sc*bC w h sc).toNat).filter (yK w h sc 4)).map λl:Nat=>bV w h sc l
def alz (w h sc:Int)(j l:Nat):yK w h sc (j+1) l=(yK w h sc j l||(I7 w h sc j&&decide ((l:Int)∈mH (aE w h sc) (bC w h sc) j))):=by unfold yK;grind
def mem_range {n x:Int}{f:Int->Int}(h:x∈mG n f):∃i:Nat,(i:Int)<n/\x=f i:=by unfold mG at h;grind
def xK (n:Int)(f:Int->Int):(mG n f).length=n.toNat:=by unfold mG;simp
def ah7 {tw th sd:Int}(ht:1<=tw/\tw<=16)(hh:1<=th/\th<=16):(mH tw th sd).length<=16/\(0<=sd/\sd<=3->0<(mH tw th sd).length)/\∀x∈mH tw th sd,0<=x/\x<tw*th:=by
 have m1:∀y:Int,0<=y->y<th->0<=y*tw/\y*tw+tw<=tw*th:=λy h1 h2=>by have a:0<=y*tw:=Int.mul_nonneg h1 (by omega);have b:(y+1)*tw<=th*tw:=Int.mul_le_mul_of_nonneg_right (by omega) (by omega);grind
 unfold mH;split
 ·refine⟨by rw[xK];omega,λ_=>by rw[xK];omega,λx hx=>?_⟩;obtain⟨i,hi,rfl⟩:=mem_range hx;have:=m1 (th-1) (by omega) (by omega);omega
 ·split
  ·refine⟨by rw[xK];omega,λ_=>by rw[xK];omega,λx hx=>?_⟩;obtain⟨i,hi,rfl⟩:=mem_range hx;have:=m1 0 (by omega) (by omega);omega
  ·split
   ·refine⟨by rw[xK];omega,λ_=>by rw[xK];omega,λx hx=>?_⟩;obtain⟨i,hi,rfl⟩:=mem_range hx;grind
   ·split
    ·refine⟨by rw[xK];omega,λ_=>by rw[xK];omega,λx hx=>?_⟩;obtain⟨i,hi,rfl⟩:=mem_range hx;grind
    grind
def anA {N x:Nat}{E:Nat->Bool}:((List.range N).map E).set x true=(List.range N).map λl=>E l||decide (l=x):=by refine List.ext_getElem (by simp) λi h1 h2=>?_;grind
section
variable {F:Nat->Prop}{W w w0:World}{L:List As}{r:uL}{g:iC}{a:Option Addr}{n c:Nat}{bs:List Int}{mw mh ce sc:Int}
def Ct {α:Type}{f:α->List Value}{es:List α}{e:TypeId}{i k:Nat}{x':α}{idx:Int}{v:Value}{K:World->Prop}(hf:∀x,(f x).length=1)(s:Sep F W w L)(hi:L[i]? =some (ak a n c e 1 (flat f es)))(hk:idx=k)(hkn:k<es.length)(hx':f x'=[v])(hv:v.oneCell'=true)
  (h:∀w',Sep F W w' (L.set i (ak a n c e 1 (flat f (es.set k x'))))->K w'):aH idx n (wA a λp=>St (p.add (idx.toNat*1)) v w K):=by
 have hn:=rG s hi;rw[iV hf,Nat.mul_one,Nat.mul_one]at hn;obtain⟨b,o,rfl⟩:=qe s hi (by omega);subst hk;refine⟨by omega,by omega,ah ?_⟩;obtain⟨x,hx⟩:∃x,es[k]? =some x:=⟨_,List.getElem?_eq_getElem hkn⟩;have h1:=hf x;refine dX hf s hi hx (j:=0) (by simp[Addr.add]) (by decide) ?_ hv h;rw[hx']
 match hfx:f x,h1 with
 |[y],_=>rfl
def anB {P4:Int->Int->Int->Int->Int->Option Addr->Nat->Nat->Int->Int->Int->Int->Int->World->Prop}{Q:Option Addr->Nat->Nat->World->Prop}{tw th sd:Int}{ea la:Option Addr}{N ec ln lc:Nat}{xs:List Int}{E:Nat->Bool}(wk:0<=sd/\sd<=3)(hl:xs.length=ln)(qk:ln<=16)(hx:∀x∈xs,0<=x/\x<N)
  (next:∀w',Sep No w0 w' (ak ea N ec 4 1 (flat bl ((List.range N).map λl=>E l||decide ((l:Int)∈xs)))::ak la ln lc 3 1 (flat one xs)::L)->P4 mw mh sc tw th ea N ec 0 1 2 3 (sd+1) w'):
  ∀(j i:Nat) (w:World),i+j=ln->Sep No w0 w (ak ea N ec 4 1 (flat bl ((List.range N).map λl=>E l||decide ((l:Int)∈xs.take i)))::ak la ln lc 3 1 (flat one xs)::L)->
   q9 P4 Q (j+1) mw mh sc tw th ea N ec 0 1 2 3 sd la ln lc ln i w:=by
 intro j;induction j with
 |zero=>
  intro i w hi s;show vm P4 Q (q9 P4 Q 0) _ _ _ _ _ _ _ _ _ _ _ _ _ _ _ _ _ _ _;rw[vm,bh,aG];grind
 |succ j ih=>
  intro i w hi s;show vm P4 Q (q9 P4 Q (j+1)) _ _ _ _ _ _ _ _ _ _ _ _ _ _ _ _ _ _ _;rw[vm,bN];have hX:=aK s (i:=1) rfl cE (by decide);apply hX.rE rfl (by omega);have hxi:=hx _ (fG (i:=i) (by omega));obtain⟨x,hxe⟩:∃x:Nat,gi xs i=x:=⟨(gi xs i).toNat,by omega⟩;rw[hxe]at hxi⊢;refine Ct (x':=true) ah6 s (i:=0) rfl rfl (by simp;omega) rfl rfl λw s=>?_;rw[aG];apply ih (i+1) w (by omega);rw[anA]at s;have e:(λl:Nat=>(E l||decide ((l:Int)∈xs.take i))||decide (l=x))=λl:Nat=>E l||decide ((l:Int)∈xs.take (i+1)):=by
   funext l;rw[Bool.or_assoc];congr 1;have ht:xs.take (i+1)=xs.take i++[(x:Int)]:=by rw[List.take_add_one,ig (by omega),hxe];rfl
   grind
  grind
def anC {Q:Option Addr->Nat->Nat->World->Prop}{ea:Option Addr}{N ec:Nat}{E:Nat->Bool}(hs:dY mw mh sc)(hN:(N:Int)=aE mw mh sc*bC mw mh sc)(hN2:N<=256)
  (h:∀ra rn rc w',Sep No w0 w' (ak ra rn rc 3 1 (flat one (((List.range N).filter E).map λl:Nat=>bV mw mh sc l))::ak ea N ec 4 1 (flat bl ((List.range N).map E))::L)->Q ra rn rc w'):
  ∀(j i:Nat) (oa:Option Addr) (on oc:Nat) (w:World),i+j=N->on<=i->Sep No w0 w (ak oa on oc 3 1 (flat one (((List.range i).filter E).map λl:Nat=>bV mw mh sc l))::ak ea N ec 4 1 (flat bl ((List.range N).map E))::L)->
   pZ Q (j+1) mw mh sc oa on oc ea N ec N i w:=by
 intro j;induction j with
 |zero=>
  intro i oa on oc w hi ho s;show tL Q (pZ Q 0) _ _ _ _ _ _ _ _ _ _ _ _;unfold tL;grind
 |succ j ih=>
  intro i oa on oc w hi ho s;show tL Q (pZ Q (j+1)) _ _ _ _ _ _ _ _ _ _ _ _;rw[tL,bN];obtain⟨b,o,rfl⟩:=qe s (i:=1) rfl (by omega);refine⟨by omega,by omega,ah ?_⟩;apply ajG ah6 s (i:=1) (k:=i) (j:=0) rfl (x:=E i) (by grind) (by simp[Addr.add]) rfl;have hf:(List.range (i+1)).filter E=(List.range i).filter E++(if E i=true then[i]else[]):=by rw[List.range_succ,List.filter_append];grind
  cases hE:E i with
  |true=>
   refine xG s λw s _=>?_;unfold CT;refine LF s (by omega) λoa oc w s=>?_;rw[aG];apply ih (i+1) oa (on+1) oc w (by omega) (by omega);grind
  |false=>
   rw[cond_false,aG];grind
def V4 {Q:Option Addr->Nat->Nat->World->Prop}(s0:Sep F W w L)(hs:dY mw mh sc)(h:∀ra rn rc w',Sep F W w' (ak ra rn rc 3 1 (flat one (vB mw mh sc))::L)->Fr No w w'->Q ra rn rc w'):B9 mw mh sc w Q:=by
 apply VC;have hz:=qZ hs.1.1 hs.1.2 hs.2;have hmx:=Int.mul_le_mul hz.1.2 hz.2.2 (by omega) (by decide);have hmn:=Int.mul_le_mul hz.1.1 hz.2.1 (by decide) (by omega);obtain⟨N,hN⟩:∃N:Nat,aE mw mh sc*bC mw mh sc=N:=⟨(aE mw mh sc*bC mw mh sc).toNat,by omega⟩;refine vA (bt (F:=No)) λw1 s _=>?_;unfold Y7 ac2;rw[if_pos hs,if_pos hs,aG,hN];refine sY (bytes:=1) dW s rfl rfl rfl rfl rfl rfl (by decide) ah6 rfl (λu hu=>by simp[bl]at hu;subst hu;rfl) rfl rfl (Nat.le_refl _) (by omega) (by simp[maxLen];omega) λeb w1 s=>?_;refine I6 s λw1 s _=>?_;have apJ:List.replicate N false=(List.range N).map (yK mw mh sc 0):=by refine List.ext_getElem (by simp) λi h1 h2=>?_;simp[yK]
 rw[apJ]at s;have loop:∀(j i:Nat) (w1:World) (L':List As),i+j=4->Sep No w w1 (ak (sZ eb) N N 4 1 (flat bl ((List.range N).map (yK mw mh sc i)))::L')->
   q_ Q (j+1) mw mh sc (aE mw mh sc) (bC mw mh sc) (sZ eb) N N 0 1 2 3 i w1:=by
  intro j;induction j with
  |zero=>
   intro i w1 L' hi s;show vo Q (q_ Q 0) _ _ _ _ _ _ _ _ _ _ _ _ _ _;unfold vo;have hi:i=4:=by omega
   subst hi;have s:=bG s 3 1;refine⟨N+1,anC hs hN.symm (by omega) (λra rn rc w' s=>?_) N 0 none 0 0 w1 (by omega) (by omega) s⟩;refine h _ _ _ _ (dQ s0 s (i:=0) ?_) (au s);unfold vB;grind
  |succ j ih=>
   intro i w1 L' hi s;show vo Q (q_ Q (j+1)) _ _ _ _ _ _ _ _ _ _ _ _ _ _;rw[vo,bN];refine⟨by omega,by omega,?_⟩;refine auo (x:=(i:Int)) (by omega) (abx ?_);obtain⟨o1,o2,o3⟩:=ah7 (sd:=(i:Int)) hz.1 hz.2;refine V3 s hz.1 hz.2 λra rn rc w1 s=>?_;have hX:=aK s (i:=0) rfl cE (by decide);have hXl:=hX.len;rw[cB (by omega),cond_false];apply hX.rE (k:=0) rfl (by omega);refine xG s λw1 s _=>?_;refine J0 s λw1 s _=>?_;have hnew:=alz mw mh sc i;by_cases hov:gN mw mh (CT mw mh sc (gi (mH (aE mw mh sc) (bC mw mh sc) i) 0)) i<0
   ·rw[bN hov,aG];have aBA:I7 mw mh sc i=false:=by unfold I7;grind
    have e:yK mw mh sc i=yK mw mh sc (i+1):=by funext l;simp_all
    rw[e]at s;exact ih (i+1) w1 _ (by omega) (ai s)
   ·rw[bh hov];have Cs:I7 mw mh sc i=true:=by unfold I7;grind
    have s:=ck s (List.Perm.swap ..);refine⟨rn+1,anB (w0:=w) (L:=L') (E:=yK mw mh sc i) (by omega) hXl (by omega) (λx hx=>by grind) (λw' s=>?_) rn 0 w1 (by omega) ?_⟩
    ·have e:(λl:Nat=>yK mw mh sc i l||decide ((l:Int)∈mH (aE mw mh sc) (bC mw mh sc) i))=yK mw mh sc (i+1):=by grind
     grind
    simp_all
 exact⟨5,loop 4 0 w1 _ (by omega) s⟩
def aX (m:bM)(sc:Int):List Int:=(vB m.w m.h sc).filter (fk m)
def abz (hs:dY mw mh sc):(vB mw mh sc).length<=256:=by have hz:=qZ hs.1.1 hs.1.2 hs.2;have hmx:=Int.mul_le_mul hz.1.2 hz.2.2 (by omega) (by decide);unfold vB;grind
def xL {Q:Option Addr->Nat->Nat->World->Prop}(s0:Sep F W w L)(k:n8 w r g)(hs:dY g.m.w g.m.h sc)(h:∀ra rn rc w',Sep F W w' (ak ra rn rc 3 1 (flat one (aX g.m sc))::L)->Fr No w w'->Q ra rn rc w'):oy (sZ r.p) sc w Q:=by
 apply VD;refine jv (bt (F:=No)) k λw1 s _=>?_;refine V4 s hs λca cn cc w1 s _=>?_;have yp:=(aK s (i:=0) rfl cE (by decide)).len;have ah8:=abz hs;have loop:∀(j i:Nat) (oa:Option Addr) (on oc:Nat) (w1:World),i+j=cn->on<=i->Sep No w w1 [ak oa on oc 3 1 (flat one (((vB g.m.w g.m.h sc).take i).filter (fk g.m))),ak ca cn cc 3 1 (flat one (vB g.m.w g.m.h sc))]->
   rf Q (j+1) (sZ r.p) oa on oc ca cn cc cn i w1:=by
  intro j;induction j with
  |zero=>
   intro i oa on oc w1 hi ho s;show vp Q (rf Q 0) _ _ _ _ _ _ _ _ _ _;rw[vp,bh];rw[List.take_of_length_le (by omega)]at s;exact h _ _ _ _ (dQ s0 s (i:=0) rfl) (au s)
  |succ j ih=>
   intro i oa on oc w1 hi ho s;show vp Q (rf Q (j+1)) _ _ _ _ _ _ _ _ _ _;rw[vp,bN];apply(aK s (i:=1) rfl cE (by decide)).rE rfl (by omega);apply DW (k.fr (au s));have ht:(vB g.m.w g.m.h sc).take (i+1)=(vB g.m.w g.m.h sc).take i++[gi (vB g.m.w g.m.h sc) i]:=by rw[List.take_add_one,ig (by omega)];rfl
   cases ho2:fk g.m (gi (vB g.m.w g.m.h sc) i)with
   |true=>
    refine LF s (by omega) λoa oc w1 s=>?_;rw[aG];apply ih (i+1) oa (on+1) oc w1 (by omega) (by omega);grind
   |false=>
    rw[cond_false,aG];apply ih (i+1) oa on oc w1 (by omega) (by omega);grind
 exact⟨cn+1,loop cn 0 none 0 0 w1 (by omega) (by omega) (bG s 3 1)⟩
end
def DC (e:Int×Int):List Value:=[ae e.1,ae e.2]
def QN (e:Int×Int):(DC e).length=2:=rfl
def aky (e:Int×Int)(u:Value)(h:u∈DC e):u.oneCell'=true:=by simp[DC,List.mem_cons,List.not_mem_nil,or_false]at h;rcases h with rfl|rfl<;>rfl
def FH (m:bM)(c s:Int):Option (Int×Int):=if 0<=gN m.w m.h c s/\fk m (gN m.w m.h c s)=true then some (gN m.w m.h c s,cV m (gN m.w m.h c s))else none
def GC (m:bM)(c:Int)(j:Nat):List (Int×Int):=(List.range j).filterMap λs:Nat=>FH m c s
def vC (m:bM)(c:Int):List (Int×Int):=if fk m c=true then GC m c 4 else[]
def ajP (m:bM)(c:Int)(j:Nat):GC m c (j+1)=GC m c j++(FH m c j).toList:=by rw[GC,List.range_succ,List.filterMap_append];congr 1
section
variable {F:Nat->Prop}{W w w0:World}{L:List As}{r:uL}{g:iC}{a:Option Addr}{n c:Nat}{es:List (Int×Int)}{ce:Int}
def ap7 {x:Int×Int}{K:Option Addr->Nat->Nat->World->Prop}(s:Sep F W w (ak a n c 292 2 (flat DC es)::L))(hn:n<=1000000000)
  (k:∀a' c' w',Sep F W w' (ak a' (n+1) c' 292 2 (flat DC (es++[x]))::L)->K a' (n+1) c' w'):Bx [ae x.1,ae x.2] 292 w λp w1=>App P #[289,289] 289 (.slice a n c) (.slice (some p) 1 1) w1 K:=by
 refine aQ s λb w s=>?_;have src:Src w (sZ b) 1 2 (DC x):=⟨rfl,aky x,λj u hj=>by rw[cu,Nat.zero_add];exact cR s (i:=0) rfl rfl hj⟩;refine iw dW s (i:=1) (bytes:=16) rfl rfl rfl rfl rfl rfl (by decide) rfl src (by simp[maxLen];omega) (by omega) (λe=>by cases e) λa1 c1 w1 s1=>?_;have e:flat DC es++DC x=flat DC (es++[x]):=by rw[gd];simp[flat]
 rw[e]at s1;exact k _ _ _ (ai s1)
def V5 {Q:Option Addr->Nat->Nat->World->Prop}(s0:Sep F W w L)(k:n8 w r g)(h:∀ra rn rc w',Sep F W w' (ak ra rn rc 292 2 (flat DC (vC g.m ce))::L)->Fr No w w'->Q ra rn rc w'):B8 (sZ r.p) ce w Q:=by
 apply VE;refine jv (bt (F:=No)) k λw1 s _=>?_;apply DW (k.fr (au s));unfold vC at h;cases ho:fk g.m ce with
 |false=>
  rw[ho,if_neg (by decide)]at h;exact h _ _ _ _ (bG (bX s0 (au s)) 292 2) (au s)
 |true=>
  rw[ho,if_pos rfl]at h;refine I6 s λw1 s _=>?_;have loop:∀(j i:Nat) (oa:Option Addr) (on oc:Nat) (w1:World) (L':List As),i+j=4->on<=i->Sep No w w1 (ak oa on oc 292 2 (flat DC (GC g.m ce i))::L')->
    oo Q (j+1) (sZ r.p) ce g.m.w g.m.h oa on oc 0 1 2 3 i w1:=by
   intro j;induction j with
   |zero=>
    intro i oa on oc w1 L' hi Cs s;show vq Q (oo Q 0) _ _ _ _ _ _ _ _ _ _ _ _ _;unfold vq;have hi:i=4:=by omega
    subst hi;exact h _ _ _ _ (dQ s0 s (i:=0) rfl) (au s)
   |succ j ih=>
    intro i oa on oc w1 L' hi Cs s;show vq Q (oo Q (j+1)) _ _ _ _ _ _ _ _ _ _ _ _ _;rw[vq,bN];refine⟨by omega,by omega,?_⟩;refine auo (x:=(i:Int)) (by omega) (abx ?_);refine J0 s λw1 s _=>?_;have hsu:=ajP g.m ce i;have skip:FH g.m ce i=none->∀w1,Sep No w w1 (ak oa on oc 292 2 (flat DC (GC g.m ce i))::L')->oo Q (j+1) (sZ r.p) ce g.m.w g.m.h oa on oc 0 1 2 3 (IntKind.wrap .i64 ((i:Int)+1)) w1:=λhn w1 s=>by rw[aG];grind
    by_cases h1:gN g.m.w g.m.h ce i≥0
    ·rw[bN h1];apply DW (k.fr (au s));cases h2:fk g.m (gN g.m.w g.m.h ce i)with
     |true=>
      apply ju (k.fr (au s));have IK:FH g.m ce i=some (gN g.m.w g.m.h ce i,cV g.m (gN g.m.w g.m.h ce i)):=if_pos ⟨h1,h2⟩;refine ap7 (x:=(gN g.m.w g.m.h ce i,cV g.m (gN g.m.w g.m.h ce i))) s (by omega) λoa oc w1 s=>?_;rw[aG];grind
     |false=>
      exact skip (if_neg (by rw[h2];simp)) _ s
    ·rw[bh h1];exact skip (fU) _ s
  exact⟨5,loop 4 0 none 0 0 w1 _ (by omega) (by omega) (bG s 292 2)⟩
end
structure bj where
 c:Int
 s:Int
 k:Int
deriving DecidableEq,Inhabited
def fW (x:bj):List Value:=[ae x.c,ae x.s,ae x.k]
def nI (x:bj):(fW x).length=3:=rfl
def V6 (x:bj)(u:Value)(h:u∈fW x):u.oneCell'=true:=by simp[fW,List.mem_cons,List.not_mem_nil,or_false]at h;rcases h with rfl|rfl|rfl<;>rfl
def V7 (x y:Int):Int:=if x<y then-1 else if x>y then 1 else 0
def ah9 (a b:bj):Int:=if V7 a.k b.k≠0 then V7 a.k b.k else if V7 a.c b.c≠0 then V7 a.c b.c else V7 a.s b.s
section
variable {F:Nat->Prop}{W w w0:World}{L:List As}
def DY {x y:Int}{Q:Int->World->Prop}(h:Q (V7 x y) w):oz x y w Q:=by apply Qi;apply Bc;rw[Df rfl];apply Bc;rw[Df rfl];show cond false _ (cond false _ _);unfold V7 at h;grind
def agw {a:Option Addr}{n c:Nat}{x y z:Int}{Q:Int->World->Prop}(hA:Sl w a n c 1 one [x,y,z])(h:Q (if x≠0 then x else if y≠0 then y else z) w):E1 a n c w Q:=by
 have hl:n=3:=hA.len.symm;subst hl;apply ZA;refine⟨4,?_⟩;show mX Q (ri Q 3) _ _ _ _ _ _ _;unfold mX;apply hA.rE (k:=0) rfl (by omega);show cond (x !=0) _ _;by_cases hx:x=0
 ·rw[Df hx,cond_false,wrap_i64 (by decide) (by decide)];rw[if_neg (λe=>e hx)]at h;show mX Q (ri Q 2) _ _ _ _ _ _ _;unfold mX;apply hA.rE (k:=1) rfl (by omega);show cond (y !=0) _ _;by_cases hy:y=0
  ·rw[Df hy,cond_false,wrap_i64 (by decide) (by decide)];rw[if_neg (λe=>e hy)]at h;show mX Q (ri Q 1) _ _ _ _ _ _ _;unfold mX;apply hA.rE (k:=2) rfl (by omega);show cond (z !=0) _ _;by_cases hz:z=0
   ·rw[Df hz,cond_false,wrap_i64 (by decide) (by decide)];show mX Q (ri Q 0) _ _ _ _ _ _ _;unfold mX;grind
   ·rw[Gx hz,cond_true];exact h
  ·rw[Gx hy,cond_true];rw[if_pos hy]at h;exact h
 ·rw[Gx hx,cond_true];rw[if_pos hx]at h;exact h
def X_ {x y:bj}{Q:Int->World->Prop}(s0:Sep F W w L)(h:∀w',Sep F W w' L->Fr No w w'->Q (ah9 x y) w'):DM x.c x.s x.k y.c y.s y.k w Q:=by apply XY;refine aQ (bt (F:=No)) λab w s=>?_;refine aQ s λbb w s=>?_;have s:=ay s;apply lI s 1 rfl;apply lI s 0 rfl;apply lI s 1 rfl;apply lI s 0 rfl;apply lI s 1 rfl;apply lI s 0 rfl;apply DY;refine⟨cq s 0 rfl,cq s 1 rfl,cq s 0 rfl,cq s 1 rfl,?_⟩;apply DY;refine⟨cq s 0 rfl,cq s 1 rfl,?_⟩;apply DY;refine aQ s λpb w s=>?_;have s:=g_ (n:=3) (size:=1) s (i:=0) rfl rfl (by decide) (λu hu=>by simp[List.mem_cons,List.not_mem_nil,or_false]at hu;rcases hu with rfl|rfl|rfl<;>rfl);have s:=s;apply agw (aK s (i:=0) rfl cE (by decide));exact h _ (bX s0 (au s)) (au s)
def cxF (m f:Nat):(cx m).F f=o6 f fns:=rfl
def ayW:o6 197 fns=true:=by kernel_rfl
def ajQ {m:Nat}{x y:bj}{Q:Int->World->Prop}(h:DM x.c x.s x.k y.c y.s y.k w Q):iv (cx m) (.func (.func 197) #[] #[]) [.agg #[ae x.c,ae x.s,ae x.k],.agg #[ae y.c,ae y.s,ae y.k]] w λv w'=>dI .i64 v λr=>Q r w':=by unfold iv;simp only;exact h
end
def ZU (tw th c s:Int):Bool:=if s=0 then c/tw==0 else if s=1 then c%tw==tw-1 else if s=2 then c/tw==th-1 else if s=3 then c%tw==0 else s==4
def Az (tw th:Int)(cs:List Int)(x:bj):Bool:=decide (0<=x.c/\x.c<cs.length)&&(gi cs x.c.toNat !=255&&(decide (0<=x.k/\x.k<=1073741824)&&ZU tw th x.c x.s))
def r9 (tw th:Int)(cs:List Int)(xs:List bj):Bool:=Tl.DV tw th cs&&xs.all (Az tw th cs)
section
variable {F:Nat->Prop}{W w w0:World}{L:List As}{a la:Option Addr}{n c ln lc tb:Nat}{cs:List Int}{tw th:Int}{xs:List bj}
def abA {ce sd:Int}{Q:Bool->World->Prop}(s0:Sep F W w L)(hw:1<=tw/\tw<=16)(hh:1<=th/\th<=16)(hc:0<=ce/\ce<1000000)(h:∀w',Sep F W w' L->Fr No w w'->Q (ZU tw th ce sd) w'):Gl tw th a n c ce sd w Q:=by
 apply abk;refine aQ (bt (F:=No)) λtb w s=>?_;have s:=ay s;apply lI s 0 rfl;refine⟨by omega,?_⟩;apply lI s 0 rfl;refine⟨by omega,cq s 0 rfl,?_⟩;have h:=h _ (bX s0 (au s)) (au s);have d0:0<=ce/tw:=Int.ediv_nonneg hc.1 (by omega);have d1:ce/tw<=ce:=Int.ediv_le_self _ hc.1;rw[Int.tdiv_eq_ediv_of_nonneg hc.1,Int.tmod_eq_emod_of_nonneg hc.1,aG];unfold ZU at h;by_cases k0:sd=0
 ·grind
 rw[cB k0,cond_false];rw[if_neg k0]at h;by_cases k1:sd=1
 ·rw[dw k1,cond_true];rw[if_pos k1]at h;apply lI s 0 rfl;rw[aG];exact h
 rw[cB k1,cond_false];rw[if_neg k1]at h;by_cases k2:sd=2
 ·rw[dw k2,cond_true];rw[if_pos k2]at h;apply lI s 0 rfl;rw[aG];exact h
 grind
def r_ (w:World)(b:Nat)(vs:List Value):Prop:=∀(j:Nat) v,vs[j]? =some v->w.cell? ((aZ b).add j)=some v
def r_.fr {w':World}{b:Nat}{vs:List Value}(k:r_ w b vs)(f:Fr No w w'):r_ w' b vs:=λj v h=>Fr.cell f (k j v h) id
def lz {b i:Nat}{t:TypeId}{vs:List Value}(s:Sep F W w L)(hi:L[i]? =some (av b t vs)):r_ w b vs:=λj v hj=>by rw[cu,Nat.zero_add];exact cR s rfl hi hj
def Ya {x:bj}{Q:Bool->World->Prop}(s0:Sep F W w L)(hK:r_ w tb [ae tw,ae th,.slice a n c])(hA:Sl w a n c 1 bu cs)(hm:Tl.DV tw th cs=true)
  (h:∀w',Sep F W w' L->Fr No w w'->Q (!Az tw th cs x) w'):DO x.c x.s x.k (sZ tb) w Q:=by
 apply XZ;obtain⟨h1,h2,h3,_⟩:=Tl.ZR.1 hm;have hl:=hA.len;have hmx:=Int.mul_le_mul h1.2 h2.2 (by omega) (by decide);refine aQ (bt (F:=No)) λsb w1 s=>?_;have K:=hK.fr (au s);have A:=hA.fr (au s);have no:Az tw th cs x=false->Q true w1:=λe=>by have:=h _ (bX s0 (au s)) (au s);grind
 unfold Az at no h;apply lI s 0 rfl;by_cases k1:x.c<0
 ·grind
 rw[bh k1];apply lI s 0 rfl;refine ah (dJ (K 2 _ rfl) ?_);by_cases k2:x.c≥(n:Int)
 ·grind
 rw[bh k2];rw[decide_eq_true (show 0<=x.c/\x.c<cs.length by omega),Bool.true_and]at no h;refine ah (dJ (K 2 _ rfl) ?_);apply lI s 0 rfl;apply A.Dq (k:=x.c.toNat) (by omega) (by omega);by_cases k3:gi cs x.c.toNat=255
 ·grind
 rw[cB k3,cond_false];rw[Gx k3,Bool.true_and]at no h;apply lI s 0 rfl;by_cases k4:x.k<0
 ·grind
 rw[bh k4];apply lI s 0 rfl;by_cases k5:x.k>1073741824
 ·grind
 rw[bh k5];rw[decide_eq_true (show 0<=x.k/\x.k<=1073741824 by omega),Bool.true_and]at h;refine ah (aO (K 0 _ rfl) (aO (K 1 _ rfl) (dJ (K 2 _ rfl) ?_)));apply lI s 0 rfl;apply lI s 0 rfl;refine abA s h1 h2 (by omega) λw1 s _=>?_;exact h _ (bX s0 (au s)) (au s)
def aA_:o6 210 fns=true:=by kernel_rfl
def anD {m p:Nat}{x:bj}{Q:Bool->World->Prop}(h:DO x.c x.s x.k (sZ p) w Q):iv (cx m) (.func (.func 210) #[] #[.pointer (sZ p)]) [.agg #[ae x.c,ae x.s,ae x.k]] w λv w'=>dB v λr=>Q r w':=by unfold iv;simp only;exact h
def ap8 {Q:Int->World->Prop}(hK:r_ w0 tb [ae tw,ae th,.slice a n c])(hA:Sl w0 a n c 1 bu cs)(hm:Tl.DV tw th cs=true)(hX:Sl w0 la ln lc 3 fW xs)(qk:ln<=1000000)
  (hy:xs.all (Az tw th cs)=true->∀w',Sep No w0 w' []->Q (-1) w')(hno:xs.all (Az tw th cs)=false->∀(i:Nat) w',Sep No w0 w' []->Q i w'):
  ∀(j i:Nat) (w:World),i+j=ln->(xs.take i).all (Az tw th cs)=true->Sep No w0 w []->e_ Q (j+1) la ln lc (.func (.func 210) #[] #[.pointer (sZ tb)]) ln i w:=by
 have hl:=hX.len;intro j;induction j with
 |zero=>
  intro i w hi ha s;show gu Q (e_ Q 0) _ _ _ _ _ _ _;unfold gu;grind
 |succ j ih=>
  intro i w hi ha s;show gu Q (e_ Q (j+1)) _ _ _ _ _ _ _;rw[gu,bN];refine(hX.fr (au s)).El rfl (by omega) λp x hx hc=>?_;refine aO (hc 0 _ rfl) (aO (hc 1 _ rfl) (aO (hc 2 _ rfl) ?_));refine anD (Ya s (hK.fr (au s)) (hA.fr (au s)) hm λw s _=>?_);cases hb:Az tw th cs x with
  |false=>
   grind
  |true=>
   rw[Bool.not_true,cond_false,aG];refine ih (i+1) w (by omega) ?_ s;rw[List.take_add_one,hx,List.all_append,ha];simp[hb]
def Nw {Q:Bool->World->Prop}(s0:Sep F W w L)(hA:Sl w a n c 1 bu cs)(hX:Sl w la ln lc 3 fW xs)(qk:ln<=1000000)(h:∀w',Sep F W w' L->Fr No w w'->Q (r9 tw th cs xs) w'):Bq tw th a n c la ln lc w Q:=by
 apply abl;refine aQ (bt (F:=No)) λtb w1 s=>?_;apply lI s 0 rfl;apply lI s 0 rfl;apply lS s 0 rfl;refine Tl.Dg s (hA.fr (au s)).row λw1 s _=>?_;have fin:∀(r:Bool) (w':World),r9 tw th cs xs=r->Fr No w w'->Q r w':=λr w' e f=>by subst e;exact h _ (bX s0 f) f
 unfold r9 at fin;cases hm:Tl.DV tw th cs with
 |false=>
  rw[hm,Bool.false_and]at fin;exact fin _ _ rfl (au s)
 |true=>
  rw[hm,Bool.true_and]at fin;have f1:=au s;apply yB;apply Aw;refine⟨ln+1,ap8 (lz s (i:=0) rfl) (hA.fr f1) hm (hX.fr f1) qk (λha w' s'=>?_) (λha i w' s'=>?_) ln 0 w1 (by omega) rfl bt⟩
  ·exact fin _ _ ha (f1.trans (au s') (λ_ _=>id))
  ·exact fin _ _ ha (f1.trans (au s') (λ_ _=>id))
end
end Go.Proofs.YtmegplnmiepfbaaGreatDoor.S
namespace Go.Proofs.YtmegplnmiepfbaaGreatDoor.S
open Go.Sx
def kz {n:Int}(h:0<=n/\n<18446744073709551616):IntKind.wrap .u64 n=n:=by
 have:IntKind.wrap .u64 n=n%18446744073709551616:=by simp[IntKind.wrap,IntKind.bits,IntKind.signed]
 grind
def Nx {x:Int}(h:0<=x/\x<4294967296):pA .u64 x 32=0:=by show x.fdiv (2^32)=0;grind
def V8 {x:Int}(h:0<=x/\x<4294967296):BN .u64 x 4294967295=x:=by
 obtain⟨n,rfl⟩:∃n:Nat,x=n:=⟨x.toNat,by omega⟩;have e:(BitVec.ofInt 64 (n:Int)&&&BitVec.ofInt 64 4294967295).toNat=n:=by
  rw[BitVec.toNat_and];have e1:(BitVec.ofInt 64 (n:Int)).toNat=n:=by grind
  have e2:(BitVec.ofInt 64 4294967295).toNat=2^32-1:=by decide
  rw[e1,e2,Nat.and_two_pow_sub_one_eq_mod];omega
 show IntKind.wrap .u64 ((BitVec.ofInt 64 (n:Int)&&&BitVec.ofInt 64 4294967295).toNat:Nat)=_;rw[e];exact kz (by omega)
def auq {x y:Int}(hx:0<=x/\x<1048577)(hy:0<=y/\y<1048577):0<=x*y/\x*y<2000000000000:=by have a:=Int.mul_nonneg hx.1 hy.1;have b:x*y<=1048576*1048576:=Int.mul_le_mul (by omega) (by omega) hy.1 (by decide);omega
def Dh {w:World}{x y:Int}{Q:Int->Int->World->Prop}(hx:0<=x/\x<1048577)(hy:0<=y/\y<1048577)(hxy:x*y<4294967296)(h:Q 0 (x*y) w):qL x y w Q:=by have hm:=auq hx hy;apply Uk;apply PT;refine⟨by decide,by decide,by decide,by decide,by decide,?_⟩;rw[Nx (by omega),Nx (by omega),V8 (by omega),V8 (by omega)];simp[Int.zero_mul,Int.mul_zero,Int.zero_add,Int.add_zero,kz (n:=0) (by decide),kz (n:=x*y) (by omega),Nx (x:=x*y) (by omega),Nx (x:=0) (by decide),V8 (x:=0) (by decide)];exact h
end Go.Proofs.YtmegplnmiepfbaaGreatDoor.S
namespace Go.Proofs.YtmegplnmiepfbaaGreatDoor.S
open Go.Sx
attribute [local irreducible] af cv bz bg aA cw bZ St Bx Al App cH cy cD bU aM bF aq bS av ak aW mapA
def LG:∀l:List Int,flat one l=l.map λx=>Value.int .i64 x
 |[]=>rfl
 |x::l=>by have:=LG l;simp[flat,List.flatMap_cons,List.map_cons]at this⊢;rw[this];rfl
def Fk (x:Int)(u:Value)(h:u∈one x):u.oneCell'=true:=by simp[one,List.mem_singleton]at h;rw[h];rfl
def ap9 {v z:Int}{n k N:Nat}(hk:k<=n)(hN:n+k<=N):
  (flat one (List.replicate n v++List.replicate (N-n) z)).take (n*1)++(flat one ((List.replicate n v++List.replicate (N-n) z).take n)).take (k*1)++(flat one (List.replicate n v++List.replicate (N-n) z)).drop ((n+k)*1)=flat one (List.replicate (n+k) v++List.replicate (N-(n+k)) z):=by
 simp only[LG,Nat.mul_one];rw[<-List.map_take,<-List.map_take,<-List.map_drop,<-List.map_append,<-List.map_append];congr 1;rw[List.take_left' (by simp),List.take_replicate,Nat.min_eq_left hk,List.replicate_append_replicate,<-List.drop_drop,List.drop_left' (by simp),List.drop_replicate,Nat.sub_sub]
section
variable {F:Nat->Prop}{W w w0:World}{L:List As}{xa:Option Addr}{xc:Nat}{v:Int}
def ajR {Q:Option Addr->Nat->Nat->World->Prop}{b N:Nat}(hN:N<=1048576)(h:∀w',Sep No w0 w' (ak (sZ b) N N 3 1 (flat one (List.replicate N v))::L)->Q (sZ b) N N w'):
  ∀(m n:Nat) (w:World),N<=n+m->1<=n->n<=N->Sep No w0 w (ak (sZ b) N N 3 1 (flat one (List.replicate n v++List.replicate (N-n) 0))::L)->lQ Q (m+1) (sZ b) N N n w:=by
 have done:∀(R:Option Addr->Nat->Nat->Int->World->Prop) (w:World),Sep No w0 w (ak (sZ b) N N 3 1 (flat one (List.replicate N v++List.replicate (N-N) 0))::L)->lO Q R (sZ b) N N N w:=λR w s=>by unfold lO;grind
 intro m;induction m with
 |zero=>
  intro n w hm h1 h2 s;have:n=N:=by omega
  subst this;exact done _ _ s
 |succ m ih=>
  intro n w hm h1 h2 s;show lO Q (lQ Q (m+1)) _ _ _ _ _;by_cases hn:n=N
  ·grind
  ·rw[lO,bN];apply Pd rfl h2;rw[fU];apply Pc rfl h2;have s:=ay s;have hT:=(aK s (i:=0) rfl cE (by decide)).top h2;refine EM (p:=n) dW s rfl rfl rfl rfl (by decide) (i:=0) rfl (hT.src (e:=3) cE Fk) (by omega) (by simp[Addr.add];omega) λw s=>?_;rw[ap9 (Nat.min_le_left _ _) (by omega)]at s;have e:IntKind.wrap .i64 ((n:Int)+((min n (N-n):Nat):Int))=((n+min n (N-n):Nat):Int):=by rw[aG];omega
   grind
def LH {N:Nat}{Q:Option Addr->Nat->Nat->World->Prop}(s0:Sep F W w L)(hA:Sl w xa 1 xc 1 one [v])(hN:1<=N/\N<=1048576)
  (h:∀ra w',Sep F W w' (ak ra N N 3 1 (flat one (List.replicate N v))::L)->Fr No w w'->Q ra N N w'):ku xa 1 xc N w Q:=by
 apply I1;rw[bh,kz (by decide),kz (by omega)];apply Dh (by decide) (by omega) (by omega);have e1:((1:Nat):Int)*N=N:=by omega
 rw[e1,bh (by decide),bh,aG];refine sY (bytes:=8) dW (bt (F:=No)) rfl rfl rfl rfl rfl rfl (by decide) cE rfl (λu hu=>Fk 0 u hu) rfl rfl (Nat.le_refl _) (by omega) (by simp[maxLen];omega) λb w' s=>?_;refine EM (p:=0) dW s rfl rfl rfl rfl (by decide) (i:=0) rfl ((hA.fr (au s)).src (e:=3) cE Fk) (by omega) rfl λw' s=>?_;have hm:min 1 N=1:=by omega
 rw[hm]at s⊢;have e2:(flat one (List.replicate N 0)).take (0*1)++(flat one [v]).take (1*1)++(flat one (List.replicate N 0)).drop ((0+1)*1)=flat one (List.replicate 1 v++List.replicate (N-1) 0):=by simp only[LG,Nat.zero_mul,List.take_zero,List.nil_append,Nat.mul_one,Nat.zero_add];simp_all
 rw[e2]at s;exact⟨N+1,ajR hN.2 (λw' s=>h _ _ (dQ s0 s (i:=0) rfl) (au s)) N 1 w' (by omega) (by omega) hN.1 s⟩
end
section
variable {F:Nat->Prop}{W w w0:World}{L:List As}{a:Option Addr}{n c:Nat}{xs:List bj}{bs:List Int}
def V9 {Q:Option Addr->Nat->Nat->World->Prop}(s:Sep F W w L)(hA:Sl w a n c 3 fW xs)(hn:n<=1000000000)(h:∀ra rc w',Sep F W w' (ak ra n rc 294 3 (flat fW xs)::L)->Fr No w w'->Q ra n rc w'):jn a n c w Q:=by
 apply Cf;cases a with
 |none=>
  have hl:=hA.len;have:=hA.nil rfl;have h0:n=0:=by have:=hA.le;omega
  subst h0;have hb:=List.eq_nil_of_length_eq_zero hl;subst hb;exact h _ _ _ (bG s 294 3) Fr.refl
 |some p=>
  apply mN;refine aQ (bt (F:=No)) λb w' s'=>?_;have src:=(hA.fr (au s')).src (e:=294) nI V6;have s':=g_ (n:=0) (size:=3) s' (i:=0) rfl rfl (by decide) (by simp);refine iw dW s' (i:=0) (bytes:=24) rfl rfl rfl rfl rfl rfl (by decide) rfl src (by simp[maxLen];omega) (by omega) (hA.fr (au s')).nil λa1 c1 w1 s1=>?_;simp[List.set_cons_zero,List.nil_append,Nat.zero_add]at s1⊢;exact h _ _ _ (dQ s s1 (i:=0) rfl) (au s1)
def LI {Q:Option Addr->Nat->Nat->World->Prop}(s:Sep F W w L)(hA:Sl w a n c 1 one bs)(hn:n<=1000000000)(h:∀ra rc w',Sep F W w' (ak ra n rc 3 1 (flat one bs)::L)->Fr No w w'->Q ra n rc w'):kW a n c w Q:=by
 apply JK;cases a with
 |none=>
  have hl:=hA.len;have:=hA.nil rfl;have h0:n=0:=by have:=hA.le;omega
  subst h0;have hb:=List.eq_nil_of_length_eq_zero hl;subst hb;exact h _ _ _ (bG s 3 1) Fr.refl
 |some p=>
  apply mN;refine aQ (bt (F:=No)) λb w' s'=>?_;have src:=(hA.fr (au s')).src (e:=3) cE Fk;have s':=g_ (n:=0) (size:=1) s' (i:=0) rfl rfl (by decide) (by simp);refine iw dW s' (i:=0) (bytes:=8) rfl rfl rfl rfl rfl rfl (by decide) rfl src (by simp[maxLen];omega) (by omega) (hA.fr (au s')).nil λa1 c1 w1 s1=>?_;simp[List.set_cons_zero,List.nil_append,Nat.zero_add]at s1⊢;exact h _ _ _ (dQ s s1 (i:=0) rfl) (au s1)
end
def w32 (x:Int):List Value:=[.int .u32 x]
def Xa (x:Int):(w32 x).length=1:=rfl
structure QO where
 p:Nat
 a:Option Addr
 n:Nat
 c:Nat
 fe:Int
def Xb (ws:List Int):Prop:=∀x∈ws,0<=x/\x<4294967296
def adO (r:QO)(ws:List Int):List As:=[av r.p 247 [.slice r.a r.n r.c,ae r.fe],ak r.a r.n r.c 248 1 (flat w32 ws)]
def vD (r:QO)(ws:List Int):As:=aW (Xb ws) (adO r ws)
def wrap_u32' {n:Int}(h:0<=n/\n<4294967296):IntKind.wrap .u32 n=n:=by
 have:IntKind.wrap .u32 n=n%4294967296:=by simp[IntKind.wrap,IntKind.bits,IntKind.signed]
 grind
section
variable {F:Nat->Prop}{W w w0:World}{L:List As}{r:QO}{ws:List Int}{ce id:Int}
def SC (s:Sep F W w (vD r ws::L)):Xb ws/\Sep F W w (adO r ws++L):=gR s
def OT (s:Sep F W w (adO r ws++L))(h:Xb ws):Sep F W w (vD r ws::L):=dA s h
structure abB (w:World) (r:QO) (ws:List Int):Prop where
 ok:Xb ws
 cell:r_ w r.p [.slice r.a r.n r.c,ae r.fe]
 V:Sl w r.a r.n r.c 1 w32 ws
def GD (s:Sep F W w (vD r ws::L)):abB w r ws:=by obtain⟨h,s⟩:=SC s;exact⟨h,lz s (i:=0) rfl,aK s (i:=1) rfl Xa (by decide)⟩
def Cu (ws:List Int)(c:Int):Int:=if 0<=c/\c<ws.length then gi ws c.toNat-1 else-1
def AA (ws:List Int)(c:Int):Bool:=decide (0<=c/\c<ws.length)&&gi ws c.toNat==0
def QS {Q:Bool->World->Prop}(k:abB w r ws)(h:Q (decide (0<=ce/\ce<ws.length)) w):uo (sZ r.p) ce w Q:=by
 apply RW;have hl:=k.V.len;show cond true _ _;rw[cond_true];by_cases h0:ce≥0
 ·rw[bN h0];refine ah (dJ (k.cell 0 _ rfl) ?_);grind
 grind
def LJ {Q:Bool->World->Prop}(k:abB w r ws)(h:Q (AA ws ce) w):rI (sZ r.p) ce w Q:=by
 apply Ot;apply QS k;have hl:=k.V.len;unfold AA at h;by_cases h0:0<=ce/\ce<ws.length
 ·rw[bN h0];rw[decide_eq_true h0,Bool.true_and]at h;refine ah (dJ (k.cell 0 _ rfl) ?_);exact F5 k.V (by omega) (by omega) h
 grind
def Bw {Q:Int->World->Prop}(k:abB w r ws)(h:Q (Cu ws ce) w):lY (sZ r.p) ce w Q:=by
 apply PY;apply QS k;have hl:=k.V.len;unfold Cu at h;by_cases h0:0<=ce/\ce<ws.length
 ·rw[decide_eq_true h0,Bool.not_true,cond_false];rw[if_pos h0]at h;refine ah (dJ (k.cell 0 _ rfl) ?_);apply F5 k.V (k:=ce.toNat) (by omega) (by omega);have hb:=k.ok _ (fG (i:=ce.toNat) (by omega));rw[aG (n:=gi ws ce.toNat),aG];exact h
 grind
def Ny {Q:Bool->World->Prop}(s:Sep F W w (vD r ws::L))(yq:0<=id/\id<4294967295)(hno:AA ws ce=false->Q false w)
  (hyes:AA ws ce=true->∀fe w',Sep F W w' (vD {r with fe:=fe} (ws.set ce.toNat (id+1))::L)->Q true w'):sC (sZ r.p) ce id w Q:=by
 apply Qa;have k:=GD s;apply LJ k;cases hf:AA ws ce with
 |false=>exact hno hf
 |true=>
  rw[Bool.not_true,cond_false,bh,bh];have h0:0<=ce/\ce<ws.length:=by unfold AA at hf;grind
  obtain⟨hok,s⟩:=SC s;have s:=s;apply ah;apply lS s 0 rfl;rw[aG,wrap_u32' (by omega)];refine Ct (k:=ce.toNat) (x':=id+1) Xa s (i:=1) rfl (by omega) (by omega) rfl rfl λw s=>?_;apply ah;apply lI s 0 rfl;apply ah;refine ax s (i:=0) rfl rfl rfl λw s=>?_;refine hyes hf (IntKind.wrap .i64 (r.fe+1)) _ (OT s λx hx=>?_);rcases List.mem_or_eq_of_mem_set hx with hx|rfl
  ·exact hok x hx
  ·omega
end
section
variable {F:Nat->Prop}{W w w0:World}{L:List As}{r:QO}{ws:List Int}{ce id:Int}
def LK {Q:Int->World->Prop}(s:Sep F W w (vD r ws::L))(hno:Cu ws ce=-1->Q (-1) w)
  (hyes:Cu ws ce≠-1->∀fe w',Sep F W w' (vD {r with fe:=fe} (ws.set ce.toNat 0)::L)->Q (Cu ws ce) w'):rH (sZ r.p) ce w Q:=by
 apply Ov;have k:=GD s;apply Bw k;by_cases hf:Cu ws ce=-1
 ·grind
 ·rw[Gx hf,cond_true];have h0:0<=ce/\ce<ws.length:=by unfold Cu at hf;grind
  obtain⟨hok,s⟩:=SC s;have s:=s;apply ah;apply lS s 0 rfl;refine Ct (k:=ce.toNat) (x':=0) Xa s (i:=1) rfl (by omega) (by omega) rfl rfl λw s=>?_;apply ah;apply lI s 0 rfl;apply ah;refine ax s (i:=0) rfl rfl rfl λw s=>?_;refine hyes hf (IntKind.wrap .i64 (r.fe-1)) _ (OT s λx hx=>?_);rcases List.mem_or_eq_of_mem_set hx with hx|rfl
  ·exact hok x hx
  ·omega
def abC {N:Nat}{Q:Option Addr->World->Prop}(s:Sep F W w L)(hN:1<=N/\N<=1048576)(h:∀r w',Sep F W w' (vD r (List.replicate N 0)::L)->Q (sZ r.p) w'):Gi N w Q:=by apply abe;rw[bh,bh];refine sY (bytes:=4) dW s rfl rfl rfl rfl rfl rfl (by decide) Xa rfl (λu hu=>by simp[w32]at hu;subst hu;rfl) rfl rfl (Nat.le_refl _) (by omega) (by simp[maxLen];omega) λb w' s=>?_;refine aQ s λp w' s=>?_;refine h ⟨p,sZ b,N,N,0⟩ _ (OT s λx hx=>?_);grind
def Yb {fr to:Int}{Q:Bool->World->Prop}(s:Sep F W w (vD r ws::L))(hno:Cu ws fr=-1\/AA ws to=false->Q false w)
  (hyes:Cu ws fr≠-1->AA ws to=true->∀fe w',Sep F W w' (vD {r with fe:=fe} ((ws.set fr.toNat 0).set to.toNat (Cu ws fr+1))::L)->Q true w'):wJ (sZ r.p) fr to w Q:=by
 apply MR;have k:=GD s;apply Bw k;by_cases hf:Cu ws fr=-1
 ·grind
 rw[cB hf,cond_false];apply LJ k;cases ht:AA ws to with
 |false=>
  grind
 |true=>
  refine LK s (λe=>(hf e).elim) λ_ fe w s=>?_;have hw:0<=Cu ws fr/\Cu ws fr<4294967295:=by
   unfold Cu at hf⊢;split at hf
   ·rename_i h0;have:=k.ok _ (fG (i:=fr.toNat) (by omega));omega
   grind
  have hfree:AA (ws.set fr.toNat 0) to=true:=by unfold AA at ht⊢;simp[Bool.and_eq_true,decide_eq_true_eq,List.length_set,beq_iff_eq]at ht⊢;refine⟨ht.1,?_⟩;unfold gi at ht⊢;grind
  refine Ny (r:={r with fe:=fe}) s (by omega) (λe=>by grind) λ_ aBB w s=>?_;grind
end
def o8 (x:Int):List Value:=[.int .i32 x]
def vF (x:Int):(o8 x).length=1:=rfl
def ae6 {n:Int}(h:-2147483648<=n/\n<2147483648):IntKind.wrap .i32 n=n:=by simp only[IntKind.wrap,IntKind.bits,IntKind.signed];simp;omega
structure GF where
 goal:Int
 ep:Int
 ds:List Int
structure xM where
 p:Nat
 a:Option Addr
 n:Nat
 c:Nat
def anE (r:xM)(t:GF):List Value:=[ae t.goal,ae t.ep,.slice r.a r.n r.c]
def ah_ (ds:List Int):Prop:=∀x∈ds,0<=x/\x<=2147483647
def adP (r:xM)(t:GF):List As:=[av r.p 298 (anE r t),ak r.a r.n r.c 21 1 (flat o8 t.ds)]
def Ei (r:xM)(t:GF):As:=aW (ah_ t.ds) (adP r t)
structure GG (w:World) (r:xM) (t:GF):Prop where
 ok:ah_ t.ds
 cell:r_ w r.p (anE r t)
 V:Sl w r.a r.n r.c 1 o8 t.ds
section
variable {F:Nat->Prop}{W w w0:World}{L:List As}{r:xM}{t:GF}{ce key:Int}
def GG.fr {w':World}(k:GG w r t)(f:Fr No w w'):GG w' r t:=⟨k.ok,k.cell.fr f,k.V.fr f⟩
def abD (s:Sep F W w (Ei r t::L)):ah_ t.ds/\Sep F W w (adP r t++L):=gR s
def Yz (s:Sep F W w (adP r t++L))(h:ah_ t.ds):Sep F W w (Ei r t::L):=dA s h
def SD (s:Sep F W w (Ei r t::L)):GG w r t:=by obtain⟨h,s⟩:=abD s;exact⟨h,lz s (i:=0) rfl,aK s (i:=1) rfl vF (by decide)⟩
def atF (ds:List Int)(c:Int):Int:=if 0<=c/\c<ds.length then(if gi ds c.toNat=2147483647 then cj else gi ds c.toNat)else cj
def adQ {Q:Int->World->Prop}(k:GG w r t)(h:Q (atF t.ds ce) w):Ag (sZ r.p) ce w Q:=by
 apply Sb;apply mN;have hl:=k.V.len;unfold atF at h;by_cases h0:ce<0
 ·rw[bN h0];rw[fU]at h;exact h
 rw[bh h0];refine ah (dJ (k.cell 2 _ rfl) ?_);by_cases h1:ce≥(r.n:Int)
 ·rw[bN h1];rw[fU]at h;exact h
 rw[bh h1];rw[AP]at h;refine ah (dJ (k.cell 2 _ rfl) ?_);apply F5 k.V (k:=ce.toNat) (by omega) (by omega);have hb:=k.ok _ (fG (i:=ce.toNat) (by omega));by_cases h2:gi t.ds ce.toNat=2147483647
 ·rw[dw h2,cond_true];rw[if_pos h2]at h;exact h
 rw[cB h2,cond_false];rw[if_neg h2]at h;refine ah (dJ (k.cell 2 _ rfl) ?_);apply F5 k.V (k:=ce.toNat) (by omega) (by omega);rw[aG];exact h
def ZV {Q:Int->World->Prop}(k:GG w r t)(h:Q t.goal w):yd (sZ r.p) w Q:=by apply Oy;exact mN (ah (aO (k.cell 0 _ rfl) h))
def Yc {Q:Int->World->Prop}(k:GG w r t)(h:Q t.ep w):wL (sZ r.p) w Q:=by apply MG;exact mN (ah (aO (k.cell 1 _ rfl) h))
def LL {Q:Bool->World->Prop}(s:Sep F W w (Ei r t::L))(hc:0<=ce/\ce<t.ds.length)(hk:0<=key/\key<4000000000)(hno:key≥gi t.ds ce.toNat->Q false w)
  (hyes:key<gi t.ds ce.toNat->∀w',Sep F W w' (Ei r ⟨t.goal,t.ep,t.ds.set ce.toNat key⟩::L)->Q true w'):rJ (sZ r.p) ce key w Q:=by
 apply OD;have k:=SD s;have hl:=k.V.len;have hb:=k.ok _ (fG (i:=ce.toNat) (by omega));refine ah (dJ (k.cell 2 _ rfl) ?_);apply F5 k.V (k:=ce.toNat) (by omega) (by omega);rw[aG];by_cases h1:key≥gi t.ds ce.toNat
 ·grind
 rw[bh h1];refine ah (dJ (k.cell 2 _ rfl) ?_);obtain⟨hok,s⟩:=abD s;have s:=s;rw[ae6 (by omega)];refine Ct (k:=ce.toNat) (x':=key) vF s (i:=1) rfl (by omega) (by omega) rfl rfl λw s=>?_;refine hyes (by omega) _ (Yz s λx hx=>?_);rcases List.mem_or_eq_of_mem_set hx with hx|rfl
 ·exact hok x hx
 ·omega
end
def SE (c s:Int)(st:Int×Bool)(x:bj):Int×Bool:=if x.c=c/\x.s=s/\(st.2=false\/x.k<st.1)then(x.k,true)else st
def Iu (xs:List bj)(c s:Int):Int:=(xs.foldl (SE c s) (cj,false)).1
section
variable {F:Nat->Prop}{W w w0:World}{L:List As}{la:Option Addr}{ln lc:Nat}{xs:List bj}{ce sd:Int}
def anG {Q:Int->World->Prop}(hX:Sl w0 la ln lc 3 fW xs)(qk:ln<=1000000)(h:∀w',Sep No w0 w' []->Q (Iu xs ce sd) w'):
  ∀(j i:Nat) (b:Int) (q:Bool) (w:World),i+j=ln->(xs.drop i).foldl (SE ce sd) (b,q)=xs.foldl (SE ce sd) (cj,false)->Sep No w0 w []->oJ Q (j+1) ce sd b q la ln lc ln i w:=by
 have hl:=hX.len;intro j;induction j with
 |zero=>
  intro i b q w hi he s;show zA Q (oJ Q 0) _ _ _ _ _ _ _ _ _ _;unfold zA;have:=h w s;unfold Iu at this;grind
 |succ j ih=>
  intro i b q w hi he s;show zA Q (oJ Q (j+1)) _ _ _ _ _ _ _ _ _ _;rw[zA,bN];refine(hX.fr (au s)).El rfl (by omega) λp x hx hc=>?_;refine aO (hc 0 _ rfl) (aO (hc 1 _ rfl) (aO (hc 2 _ rfl) ?_));obtain⟨IM,hx'⟩:=List.getElem?_eq_some_iff.1 hx;rw[List.drop_eq_getElem_cons IM,hx',List.foldl_cons]at he;refine aV s λsb w s=>?_;refine ax s (i:=0) rfl rfl rfl λw s=>?_;refine ax s (i:=0) rfl rfl rfl λw s=>?_;refine ax s (i:=0) rfl rfl rfl λw s=>?_;have skip:¬(x.c=ce/\x.s=sd/\(q=false\/x.k<b))->oJ Q (j+1) ce sd b q la ln lc ln (IntKind.wrap .i64 ((i:Int)+1)) w:=λhn=>by rw[aG];refine ih (i+1) b q w (by omega) ?_ (ai s);have e:SE ce sd (b,q) x=(b,q):=if_neg hn;grind
  have take:x.c=ce/\x.s=sd/\(q=false\/x.k<b)->Dd (oJ Q (j+1)) Q ce sd (aZ sb) la ln lc ln i w:=λhy=>by apply lI s 0 rfl;rw[aG];refine ih (i+1) x.k true w (by omega) ?_ (ai s);have e:SE ce sd (b,q) x=(x.k,true):=if_pos hy;grind
  apply lI s 0 rfl;by_cases k1:x.c=ce
  ·rw[dw k1,cond_true];apply lI s 0 rfl;by_cases k2:x.s=sd
   ·rw[dw k2,cond_true];cases q with
    |false=>
     grind
    |true=>
     apply lI s 0 rfl;grind
   grind
  grind
def LM {Q:Int->World->Prop}(s0:Sep F W w L)(hX:Sl w la ln lc 3 fW xs)(qk:ln<=1000000)(h:∀w',Sep F W w' L->Fr No w w'->Q (Iu xs ce sd) w'):Ao la ln lc ce sd w Q:=by apply ZL;exact⟨ln+1,anG hX qk (λw' s=>h _ (bX s0 (au s)) (au s)) ln 0 cj false w (by omega) (by grind) bt⟩
end
def bO (tw th l s:Int):Int:=
 if s=0 then(if l/tw>0 then l-tw else-1)
 else if s=1 then(if l%tw<tw-1 then l+1 else-1)
 else if s=2 then(if l/tw<th-1 then l+tw else-1)
 else if s=3 then(if l%tw>0 then l-1 else-1)
 else-1
section
variable {F:Nat->Prop}{W w w0:World}{L:List As}{p:Nat}{tw th l sd:Int}{vs:List Value}
def abE {Q:Int->World->Prop}(s0:Sep F W w L)(k:r_ w p (ae tw::ae th::vs))(hw:1<=tw/\tw<=16)(hh:1<=th/\th<=16)(hl:0<=l/\l<1000000)
  (h:∀w',Sep F W w' L->Fr No w w'->Q (bO tw th l sd) w'):zj (sZ p) l sd w Q:=by
 apply Qs;have k:=k.fr (w':=w.drew) Fr.refl;have h:=h _ (ay s0) Fr.refl;have d0:0<=l/tw:=Int.ediv_nonneg hl.1 (by omega);have d1:l/tw<=l:=Int.ediv_le_self _ hl.1;refine ah (aO (k 0 _ rfl) ⟨by omega,ah (aO (k 0 _ rfl) ⟨by omega,k 0 _ rfl,?_⟩)⟩);rw[Int.tdiv_eq_ediv_of_nonneg hl.1,Int.tmod_eq_emod_of_nonneg hl.1,aG];unfold bO at h;have b8:(if sd=3 then(if l%tw>0 then l-1 else-1)else-1:Int)=bO tw th l sd->qS Q l sd (l%tw) w.drew:=λe=>by
  unfold bO at e;unfold qS;by_cases k3:sd=3
  ·by_cases q:l%tw>0
   ·rw[bN q,aG];grind
   grind
  grind
 have b6:(sd≠0->sd≠1->True)->(sd=0\/sd=1->bO tw th l sd=-1)->qT Q (sZ p) l sd (l%tw) (l/tw) w.drew:=λ_ e=>by
  unfold qT;by_cases k2:sd=2
  ·rw[dw k2,cond_true];rw[fU,fU,if_pos k2]at h;refine ah (aO (k 1 _ rfl) ?_);rw[aG];by_cases q:l/tw<th-1
   ·rw[bN q];rw[if_pos q]at h;refine ah (aO (k 0 _ rfl) ?_);rw[aG];exact h
   ·rw[bh q];apply b8;unfold bO;omega
  ·rw[cB k2,cond_false];apply b8;by_cases k01:sd=0\/sd=1
   ·omega
   ·unfold bO;omega
 have b4:(sd=0->bO tw th l sd=-1)->qU Q (sZ p) l sd (l%tw) (l/tw) w.drew:=λe=>by
  unfold qU;by_cases k1:sd=1
  ·rw[dw k1,cond_true];refine ah (aO (k 0 _ rfl) ?_);rw[aG];by_cases q:l%tw<tw-1
   ·rw[bN q,aG];grind
   ·rw[bh q];refine b6 (λ_ _=>trivial) λ_=>?_;unfold bO;omega
  grind
 by_cases k0:sd=0
 ·rw[dw k0,cond_true];by_cases q:l/tw>0
  ·rw[bN q];rw[if_pos k0,if_pos q]at h;refine ah (aO (k 0 _ rfl) ?_);rw[aG];exact h
  ·rw[bh q];refine b4 λ_=>?_;unfold bO;grind
 grind
end
end Go.Proofs.YtmegplnmiepfbaaGreatDoor.S
namespace Go.Proofs.YtmegplnmiepfbaaGreatDoor.S
open Go.Sx
section
variable {w h sc l s c x y:Int}
def GH (hm:ja w h)(hx:0<=x/\x<w)(hy:0<=y/\y<h):aC w h (y*w+x)/cP w=y/16/\aC w h (y*w+x)%cP w=x/16:=by obtain⟨e1,e2⟩:=rT (y:=y) hx;have:=U9 (aaU hm hx hy);grind
def zI (hs:dY w h sc):(1<=aE w h sc/\aE w h sc<=16)/\(1<=bC w h sc/\bC w h sc<=16)/\0<=sc%cP w/\0<=sc/cP w/\16*(sc%cP w)<w/\16*(sc/cP w)<h:=by
 obtain⟨hm,h0,h1⟩:=hs;have ha:1<=cP w:=by unfold cP;have:=hm.1;omega
 have m0:=Int.emod_nonneg sc (show cP w≠0 by omega);have m1:=Int.emod_lt_of_pos sc (show 0<cP w by omega);have d0:0<=sc/cP w:=Int.ediv_nonneg h0 (by omega);have d1:sc/cP w<cP h:=Int.ediv_lt_of_lt_mul (by omega) (by unfold eL at h1;grind);have a1:16*(sc%cP w)<w:=by unfold cP at*;omega
 have a2:16*(sc/cP w)<h:=by have:cP h=(h+15)/16:=rfl;omega
 unfold aE bC;omega
def QT (hs:dY w h sc)(hl:0<=l/\l<aE w h sc*bC w h sc)(wk:0<=s/\s<=3)(hn:0<=bO (aE w h sc) (bC w h sc) l s):
  (0<=bO (aE w h sc) (bC w h sc) l s/\bO (aE w h sc) (bC w h sc) l s<aE w h sc*bC w h sc)/\aY w h (bV w h sc l) s=bV w h sc (bO (aE w h sc) (bC w h sc) l s):=by
 obtain⟨⟨w1,w2⟩,⟨h1,h2⟩,p1,p2,p3,p4⟩:=zI hs;have hw:aE w h sc<=w-16*(sc%cP w):=by unfold aE;omega
 have hh:bC w h sc<=h-16*(sc/cP w):=by unfold bC;omega
 obtain⟨i0,i1⟩:0<=l%aE w h sc/\l%aE w h sc<aE w h sc:=⟨Int.emod_nonneg _ (by omega),Int.emod_lt_of_pos _ (by omega)⟩;obtain⟨j0,j1⟩:0<=l/aE w h sc/\l/aE w h sc<bC w h sc:=⟨Int.ediv_nonneg hl.1 (by omega),Int.ediv_lt_of_lt_mul (by omega) (by rw[Int.mul_comm];exact hl.2)⟩;have hle:l=l/aE w h sc*aE w h sc+l%aE w h sc:=by have:=Int.mul_ediv_add_emod l (aE w h sc);rw[Int.mul_comm]at this;omega
 have hg:∀i j,0<=i/\i<aE w h sc->bV w h sc (j*aE w h sc+i)=(16*(sc/cP w)+j)*w+(16*(sc%cP w)+i):=λi j hi=>by obtain⟨e1,e2⟩:=rT hi;rw[bV,e1,e2];omega
 have key:∀i j i' j',l=j*aE w h sc+i->0<=i/\i<aE w h sc->0<=i'/\i'<aE w h sc->0<=j'/\j'<bC w h sc->bO (aE w h sc) (bC w h sc) l s=j'*aE w h sc+i'->
   (0<=j/\j<bC w h sc)->aY w h ((16*(sc/cP w)+j)*w+(16*(sc%cP w)+i)) s=g9 w h (16*(sc%cP w)+i') (16*(sc/cP w)+j')->
   (0<=bO (aE w h sc) (bC w h sc) l s/\bO (aE w h sc) (bC w h sc) l s<aE w h sc*bC w h sc)/\aY w h (bV w h sc l) s=bV w h sc (bO (aE w h sc) (bC w h sc) l s):=by
  intro i j i' j' el hi hi' hj' en hj es;rw[en,el,hg _ _ hi,hg _ _ hi',es,nB hs.1 (by omega) (by omega)];refine⟨⟨by have:=Int.mul_nonneg hj'.1 (show 0<=aE w h sc by omega);omega,?_⟩,rfl⟩;have:=Int.mul_le_mul_of_nonneg_right (show j'+1<=bC w h sc by omega) (show 0<=aE w h sc by omega);rw[Int.add_mul,Int.one_mul,Int.mul_comm (bC w h sc)]at this;omega
 have hst:=ER (s:=s) hs.1 (x:=16*(sc%cP w)+l%aE w h sc) (y:=16*(sc/cP w)+l/aE w h sc) (by omega) (by omega);unfold bO at hn;obtain rfl|rfl|rfl|rfl:s=0\/s=1\/s=2\/s=3:=by omega
 ·by_cases q:l/aE w h sc>0
  ·refine key _ _ (l%aE w h sc) (l/aE w h sc-1) hle ⟨i0,i1⟩ ⟨i0,i1⟩ (by omega) ?_ ⟨j0,j1⟩ ?_
   ·rw[bO,if_pos rfl,if_pos q,Int.sub_mul,Int.one_mul];omega
   ·rw[hst,if_pos rfl];congr 1;omega
  ·omega
 ·by_cases q:l%aE w h sc<aE w h sc-1
  ·refine key _ _ (l%aE w h sc+1) (l/aE w h sc) hle ⟨i0,i1⟩ (by omega) (by omega) ?_ ⟨j0,j1⟩ ?_
   ·unfold bO;omega
   ·rw[hst,if_neg (by decide),if_neg (by decide),if_neg (by decide),if_pos rfl];congr 1;omega
  ·omega
 ·by_cases q:l/aE w h sc<bC w h sc-1
  ·refine key _ _ (l%aE w h sc) (l/aE w h sc+1) hle ⟨i0,i1⟩ ⟨i0,i1⟩ (by omega) ?_ ⟨j0,j1⟩ ?_
   ·rw[bO,if_neg (by decide),if_neg (by decide),if_pos rfl,if_pos q,Int.add_mul,Int.one_mul];omega
   ·rw[hst,if_neg (by decide),if_pos rfl];congr 1;omega
  ·omega
 ·by_cases q:l%aE w h sc>0
  ·refine key _ _ (l%aE w h sc-1) (l/aE w h sc) hle ⟨i0,i1⟩ (by omega) (by omega) ?_ ⟨j0,j1⟩ ?_
   ·unfold bO;omega
   ·rw[hst,if_neg (by decide),if_neg (by decide),if_pos rfl];congr 1;omega
  ·omega
def SF (hs:dY w h sc)(hl:0<=l/\l<aE w h sc*bC w h sc)(wk:0<=s/\s<=3)(hn:¬0<=bO (aE w h sc) (bC w h sc) l s):
  (0<=aY w h (bV w h sc l) s->aC w h (aY w h (bV w h sc l) s)≠sc)/\l∈mH (aE w h sc) (bC w h sc) s/\
  (0<=aY w h (bV w h sc l) s->0<=aY w h (bV w h sc (gi (mH (aE w h sc) (bC w h sc) s) 0)) s):=by
 obtain⟨⟨w1,w2⟩,⟨h1,h2⟩,p1,p2,p3,p4⟩:=zI hs;have hw:aE w h sc=min 16 (w-16*(sc%cP w)):=rfl;have hh:bC w h sc=min 16 (h-16*(sc/cP w)):=rfl;obtain⟨i0,i1⟩:0<=l%aE w h sc/\l%aE w h sc<aE w h sc:=⟨Int.emod_nonneg _ (by omega),Int.emod_lt_of_pos _ (by omega)⟩;obtain⟨j0,j1⟩:0<=l/aE w h sc/\l/aE w h sc<bC w h sc:=⟨Int.ediv_nonneg hl.1 (by omega),Int.ediv_lt_of_lt_mul (by omega) (by rw[Int.mul_comm];exact hl.2)⟩;have hle:l=l/aE w h sc*aE w h sc+l%aE w h sc:=by have:=Int.mul_ediv_add_emod l (aE w h sc);rw[Int.mul_comm]at this;omega
 have hg:∀i j,0<=i/\i<aE w h sc->bV w h sc (j*aE w h sc+i)=(16*(sc/cP w)+j)*w+(16*(sc%cP w)+i):=λi j hi=>by obtain⟨e1,e2⟩:=rT hi;rw[bV,e1,e2];omega
 have hst:=ER (s:=s) hs.1 (x:=16*(sc%cP w)+l%aE w h sc) (y:=16*(sc/cP w)+l/aE w h sc) (by omega) (by omega);have hgl:bV w h sc l=(16*(sc/cP w)+l/aE w h sc)*w+(16*(sc%cP w)+l%aE w h sc):=by have:=hg (l%aE w h sc) (l/aE w h sc) ⟨i0,i1⟩;rw[<-hle]at this;exact this
 rw[<-hgl]at hst;have first:∀i j,0<=i/\i<aE w h sc->0<=j/\j<bC w h sc->aY w h (bV w h sc (j*aE w h sc+i)) s=if s=0 then g9 w h (16*(sc%cP w)+i) (16*(sc/cP w)+j-1)else if s=2 then g9 w h (16*(sc%cP w)+i) (16*(sc/cP w)+j+1)else if s=3 then g9 w h (16*(sc%cP w)+i-1) (16*(sc/cP w)+j)else if s=1 then g9 w h (16*(sc%cP w)+i+1) (16*(sc/cP w)+j)else if s=4 then g9 w h (16*(sc%cP w)+i) (16*(sc/cP w)+j)else-1:=λi j hi hj=>by rw[hg i j hi];exact ER hs.1 (by omega) (by omega)
 have ok:∀{x y:Int},0<=g9 w h x y->(0<=x/\x<w)/\(0<=y/\y<h)/\g9 w h x y=y*w+x:=λh0=>by obtain⟨a,b,_⟩:=BY h0;exact⟨a,b,nB hs.1 a b⟩
 have pos:∀{x y:Int},0<=x/\x<w->0<=y/\y<h->0<=g9 w h x y:=λhx hy=>by rw[nB hs.1 hx hy];have:=Int.mul_nonneg hy.1 (show 0<=w by omega);omega
 have head:∀(n:Int) (f:Int->Int),0<n->gi (mG n f) 0=f 0:=λn f hn=>by unfold gi mG;rw[List.getD_eq_getElem?_getD,List.getElem?_map,List.getElem?_range (by omega)];rfl
 have mem:∀(n:Int) (f:Int->Int) (k:Int),0<=k/\k<n->f k∈mG n f:=λn f k hk=>by refine List.mem_map.2 ⟨k.toNat,List.mem_range.2 (by omega),?_⟩;rw[Int.toNat_of_nonneg hk.1]
 unfold bO at hn;obtain rfl|rfl|rfl|rfl:s=0\/s=1\/s=2\/s=3:=by omega
 ·rw[hst,if_pos rfl];have q:¬l/aE w h sc>0:=λq=>by have:=Int.mul_le_mul_of_nonneg_right (show 1<=l/aE w h sc by omega) (show 0<=aE w h sc by omega);omega
  have hj:l/aE w h sc=0:=by omega
  have ha:mH (aE w h sc) (bC w h sc) 0=mG (aE w h sc) λx=>0+x:=by unfold mH;rw[if_neg (by decide),if_pos rfl]
  rw[ha];refine⟨λh0 e=>?_,?_,λh0=>?_⟩
  ·obtain⟨a,b,e1⟩:=ok h0;rw[e1]at e;have:=(GH hs.1 a b).1;rw[e]at this;omega
  ·have:=mem (aE w h sc) (λx=>0+x) l (by rw[hj,Int.zero_mul]at hle;omega);simpa using this
  ·rw[head _ _ (by omega)];have:=first 0 0 (by omega) (by omega)
   rw[Int.zero_mul]at this;rw[this,if_pos rfl];obtain⟨a,b,_⟩:=ok h0;exact pos (by omega) (by omega)
 ·rw[hst,if_neg (by decide),if_neg (by decide),if_neg (by decide),if_pos rfl];have q:¬l%aE w h sc<aE w h sc-1:=λq=>by omega
  have ha:mH (aE w h sc) (bC w h sc) 1=mG (bC w h sc) λy=>aE w h sc-1+y*aE w h sc:=by unfold mH;rw[if_neg (by decide),if_neg (by decide),if_pos rfl]
  rw[ha];refine⟨λh0 e=>?_,?_,λh0=>?_⟩
  ·obtain⟨a,b,e1⟩:=ok h0;rw[e1]at e;have:=(GH hs.1 a b).2;rw[e]at this;omega
  ·have:=mem (bC w h sc) (λy=>aE w h sc-1+y*aE w h sc) (l/aE w h sc) ⟨j0,j1⟩;rwa[show aE w h sc-1+l/aE w h sc*aE w h sc=l by omega]at this
  ·rw[head _ _ (by omega)];have:=first (aE w h sc-1) 0 (by omega) (by omega)
   rw[Int.zero_mul,Int.zero_add]at this;rw[Int.zero_mul,Int.add_zero,this,if_neg (by decide),if_neg (by decide),if_neg (by decide),if_pos rfl];obtain⟨a,b,_⟩:=ok h0;exact pos (by omega) (by omega)
 ·rw[hst,if_neg (by decide),if_pos rfl];have q:¬l/aE w h sc<bC w h sc-1:=λq=>by omega
  have ha:mH (aE w h sc) (bC w h sc) 2=mG (aE w h sc) λx=>(bC w h sc-1)*aE w h sc+x:=by unfold mH;rw[if_pos rfl]
  rw[ha];have hj:l/aE w h sc=bC w h sc-1:=by omega
  refine⟨λh0 e=>?_,?_,λh0=>?_⟩
  ·obtain⟨a,b,e1⟩:=ok h0;rw[e1]at e;have:=(GH hs.1 a b).1;rw[e]at this;omega
  ·have:=mem (aE w h sc) (λx=>(bC w h sc-1)*aE w h sc+x) (l%aE w h sc) ⟨i0,i1⟩;rwa[show(bC w h sc-1)*aE w h sc+l%aE w h sc=l by rw[<-hj];omega]at this
  ·rw[head _ _ (by omega)];have:=first 0 (bC w h sc-1) (by omega) (by omega)
   rw[this,if_neg (by decide),if_pos rfl];obtain⟨a,b,_⟩:=ok h0;exact pos (by omega) (by omega)
 ·rw[hst,if_neg (by decide),if_neg (by decide),if_pos rfl];have q:¬l%aE w h sc>0:=λq=>by have:=Int.mul_nonneg j0 (show 0<=aE w h sc by omega);omega
  have ha:mH (aE w h sc) (bC w h sc) 3=mG (bC w h sc) λy=>0+y*aE w h sc:=by unfold mH;rw[if_neg (by decide),if_neg (by decide),if_neg (by decide),if_pos rfl]
  rw[ha];refine⟨λh0 e=>?_,?_,λh0=>?_⟩
  ·obtain⟨a,b,e1⟩:=ok h0;rw[e1]at e;have:=(GH hs.1 a b).2;rw[e]at this;omega
  ·have:=mem (bC w h sc) (λy=>0+y*aE w h sc) (l/aE w h sc) ⟨j0,j1⟩;rwa[show 0+l/aE w h sc*aE w h sc=l by omega]at this
  ·rw[head _ _ (by omega),Int.zero_mul,Int.add_zero];have:=first 0 0 (by omega) (by omega)
   rw[Int.zero_mul,Int.add_zero]at this;rw[this,if_neg (by decide),if_neg (by decide),if_pos rfl];obtain⟨a,b,_⟩:=ok h0;exact pos (by omega) (by omega)
end
def fX (m:bM)(x n c:Int):Prop:=fk m x=true/\fk m n=true/\(∃s:Int,(0<=s/\s<=3)/\aY m.w m.h x s=n)/\c=cV m n
def gD (m:bM)(t x k:Int):Prop:=x=t/\fk m t=true/\k=0
noncomputable def D (m:bM)(t x:Int):Int:=gO (gD m t) (fX m) x
def cU (m:bM)(x:Int):Int:=aC m.w m.h x
def ou (m:bM)(x:Int):Prop:=x∈aX m (cU m x)
section
variable {m:bM}{t x n c d s sc l:Int}
def Cv (h:fk m x=true):0<cV m x/\cV m x<255:=by unfold fk at h;simpa using h
def jY (hm:cW m)(h:fk m x=true):bK m.w m.h x:=by
 have:=(Cv h).1;unfold cV at this;split at this
 ·rename_i hx;rw[hm.len]at hx;exact⟨⟨hm.w,hm.h⟩,hx⟩
 ·omega
def GI (h:fX m x n c):1<=c/\c<=254:=by have:=Cv h.2.1;rw[h.2.2.2];omega
def SG {k:Int}(h:gD m t x k):0<=k/\k<=0:=by rw[h.2.2];omega
def c9:∀x n c,fX m x n c->0<=c:=λx n c h=>by have:=GI h;omega
def kY:∀x k,gD m t x k->0<=k:=λx k h=>(SG h).1
def akz (h:Wy (gD m t) (fX m) x d):fk m x=true/\fk m t=true:=by
 induction h with
 |src h=>exact⟨by rw[h.1];exact h.2.1,h.2.1⟩
 |go e _ ih=>exact⟨e.1,ih.2⟩
def jZ (m:bM):List Int:=(List.range m.cs.length).map λi:Nat=>(i:Int)
def zJ (hm:cW m)(hx:bK m.w m.h x):x∈jZ m:=by have h1:=hx.2;have h2:=hm.len;exact List.mem_map.2 ⟨x.toNat,List.mem_range.2 (by omega),by omega⟩
def ap_ (hm:cW m)(hw:Wy (gD m t) (fX m) x d):0<=D m t x/\D m t x<=254*(m.w*m.h-1):=by
 have h1:=aaV (S:=gD m t) (E:=fX m) (λx k h=>SG h) (λx n c h=>GI h) (jZ m) (λx d h=>zJ hm (jY hm (akz h).1)) hw;have h2:((jZ m).length:Int)=m.w*m.h:=by rw[<-hm.len];simp[jZ]
 refine⟨mP kY c9 (q8 kY c9 hw).1,?_⟩;show gO (gD m t) (fX m) x<=_;omega
def aqa (hm:cW m)(hw:Wy (gD m t) (fX m) x d):D m t x<1000000000:=by have:=ap_ hm hw;have:=qK ⟨hm.w,hm.h⟩;omega
def agL (h:¬∃d,Wy (gD m t) (fX m) x d):D m t x=cj:=xU λd hd=>h ⟨d,hd⟩
def Ks (hm:cW m):D m t x<cj↔∃d,Wy (gD m t) (fX m) x d:=by
 constructor
 ·intro h;refine Classical.byContradiction λk=>?_;rw[agL k]at h;grind
 ·rintro ⟨d,hd⟩;have:=aqa hm hd;unfold cj;omega
def arO (hw:Wy (gD m t) (fX m) x d):Wy (gD m t) (fX m) x (D m t x)/\∀e,Wy (gD m t) (fX m) x e->D m t x<=e:=q8 kY c9 hw
def aus (h:fk m t=true):D m t t=0:=K1 (.src ⟨rfl,h,rfl⟩) λe he=>mP kY c9 he
def Kt (m:bM)(t x s:Int):Prop:=0<=aY m.w m.h x s/\fk m (aY m.w m.h x s)=true/\cV m (aY m.w m.h x s)+D m t (aY m.w m.h x s)=D m t x
open Classical in
noncomputable def tA (m:bM)(t x:Int):Int:=
 if D m t x=cj then 5 else if x=t then 4 else if Kt m t x 0 then 0 else if Kt m t x 1 then 1 else if Kt m t x 2 then 2 else if Kt m t x 3 then 3 else 5
def aqb (hm:cW m)(hD:D m t x<cj)(hx:x≠t):∃s,(0<=s/\s<=3)/\Kt m t x s:=by
 obtain⟨d,hw⟩:=(Ks hm).1 hD;rcases RB kY c9 hw with h1|⟨n,c,h1,h2,d',h3⟩
 ·exact(hx h1.1).elim
 ·obtain⟨ho,hn,⟨s,hs,rfl⟩,rfl⟩:=h1;refine⟨s,hs,(jY hm hn).2.1,hn,?_⟩;show cV m _+gO (gD m t) (fX m) _=gO (gD m t) (fX m) x;omega
def akA (hm:cW m)(hD:D m t x<cj)(hx:x≠t):(0<=tA m t x/\tA m t x<=3)/\Kt m t x (tA m t x)/\∀s,0<=s->s<tA m t x->¬Kt m t x s:=by obtain⟨s,hs,hd⟩:=aqb hm hD hx;rw[tA,fU,if_neg hx];grind
def I8 {w h:Int}(hs:0<=s/\s<=3)(h0:0<=aY w h x s):∃s',(0<=s'/\s'<=3)/\aY w h (aY w h x s) s'=x:=by
 obtain⟨c1,c2⟩:=Aa h0;obtain⟨q1,q2,q3⟩:=It c1;have hst:aY w h x s=if s=0 then g9 w h (x%w) (x/w-1)else if s=2 then g9 w h (x%w) (x/w+1)else if s=3 then g9 w h (x%w-1) (x/w)else if s=1 then g9 w h (x%w+1) (x/w)else if s=4 then g9 w h (x%w) (x/w)else-1:=by unfold aY;grind
 have ok:∀{a b:Int},0<=g9 w h a b->(0<=a/\a<w)/\(0<=b/\b<h)/\g9 w h a b=b*w+a:=λh0=>by obtain⟨a,b,_⟩:=BY h0;exact⟨a,b,nB c1.1 a b⟩
 rw[hst]at h0⊢;obtain rfl|rfl|rfl|rfl:s=0\/s=1\/s=2\/s=3:=by omega
 ·rw[if_pos rfl]at h0⊢;obtain⟨a,b,e⟩:=ok h0;rw[e];refine⟨2,by decide,?_⟩;rw[ER c1.1 a b,if_neg (by decide),if_pos rfl,nB c1.1 (by omega) (by omega),Int.sub_add_cancel];exact q3.symm
 ·rw[if_neg (by decide),if_neg (by decide),if_neg (by decide),if_pos rfl]at h0⊢;obtain⟨a,b,e⟩:=ok h0;rw[e];refine⟨3,by decide,?_⟩;rw[ER c1.1 a b,if_neg (by decide),if_neg (by decide),if_pos rfl,nB c1.1 (by omega) (by omega)];omega
 ·rw[if_neg (by decide),if_pos rfl]at h0⊢;obtain⟨a,b,e⟩:=ok h0;rw[e];refine⟨0,by decide,?_⟩;rw[ER c1.1 a b,if_pos rfl,nB c1.1 (by omega) (by omega),Int.add_sub_cancel];exact q3.symm
 ·rw[if_neg (by decide),if_neg (by decide),if_pos rfl]at h0⊢;obtain⟨a,b,e⟩:=ok h0;rw[e];refine⟨1,by decide,?_⟩;rw[ER c1.1 a b,if_neg (by decide),if_neg (by decide),if_neg (by decide),if_pos rfl,nB c1.1 (by omega) (by omega)];omega
def anH {tw th:Int}(ht:1<=tw)(hh:1<=th)(wk:0<=s/\s<=3)(h:l∈mH tw th s):¬0<=bO tw th l s:=by
 have mem:∀{n:Int} {f:Int->Int},l∈mG n f->∃k:Int,(0<=k/\k<n)/\l=f k:=λh=>by obtain⟨i,h1,h2⟩:=mem_range h;grind
 unfold mH at h;unfold bO;obtain rfl|rfl|rfl|rfl:s=0\/s=1\/s=2\/s=3:=by omega
 ·grind
 ·rw[if_neg (by decide),if_neg (by decide),if_pos rfl]at h;obtain⟨k,h1,rfl⟩:=mem h;have:=(rT (w:=tw) (x:=tw-1) (y:=k) (by omega)).2;grind
 ·obtain⟨k,h1,rfl⟩:=mem h;have:=(rT (y:=th-1) (by omega)).1;omega
 ·rw[if_neg (by decide),if_neg (by decide),if_neg (by decide),if_pos rfl]at h;obtain⟨k,h1,rfl⟩:=mem h;simp_all
def anI {w h:Int}(hc:bK w h c)(wk:0<=s/\s<=3)(ho:0<=gN w h c s):c∈vB w h (aC w h c):=by
 have hs:=bT hc;have hl:=j9 hc;have hg:=n6 hc;obtain⟨⟨w1,w2⟩,⟨h1,h2⟩,_⟩:=zI hs;have hst:0<=aY w h c s/\aC w h (aY w h c s)≠aC w h c:=by unfold gN at ho;omega
 have hout:¬0<=bO (aE w h (aC w h c)) (bC w h (aC w h c)) (d_ w h c) s:=λk=>by obtain⟨k1,k2⟩:=QT hs hl wk k;rw[hg]at k2;apply hst.2;rw[k2];exact iW hs k1
 obtain⟨o1,o2,o3⟩:=SF hs hl wk hout;rw[hg]at o1 o3;have o3:=o3 hst.1;have ok:=ah7 (sd:=s) ⟨w1,w2⟩ ⟨h1,h2⟩;have h0:=fG (ok.2.1 wk);have hr0:=ok.2.2 _ h0;have Cs:I7 w h (aC w h c) s=true:=by
  rw[I7,decide_eq_true_iff];rw[CT,if_pos ⟨hs,hr0⟩];rw[gN,fU,if_neg]
  ·exact o3
  ·rw[iW hs hr0];exact(SF hs hr0 wk (anH w1 h1 wk h0)).1 o3
 refine List.mem_map.2 ⟨(d_ w h c).toNat,List.mem_filter.2 ⟨List.mem_range.2 (by omega),?_⟩,?_⟩
 ·rw[yK,List.any_eq_true];refine⟨s.toNat,List.mem_range.2 (by omega),?_⟩;grind
 grind
def anJ {w h:Int}(hs:dY w h sc)(h1:c∈vB w h sc):bK w h c/\aC w h c=sc:=by obtain⟨l,h2,rfl⟩:=List.mem_map.1 h1;have h3:=List.mem_range.1 (List.mem_filter.1 h2).1;exact⟨s9 hs (by omega),iW hs (by omega)⟩
def mI (hs:dY m.w m.h sc)(h1:c∈aX m sc):fk m c=true/\bK m.w m.h c/\aC m.w m.h c=sc:=by obtain⟨h2,h3⟩:=List.mem_filter.1 h1;exact⟨h3,anJ hs h2⟩
def V_ (hm:cW m)(ho:fk m c=true)(wk:0<=s/\s<=3)(h:0<=gN m.w m.h c s):ou m c:=by exact List.mem_filter.2 ⟨anI (jY hm ho) wk h,ho⟩
def rO (hm:cW m):∀x n c,fX m x n c->cU m x≠cU m n->ou m x/\ou m n:=by
 rintro x n c ⟨h1,h2,⟨s,hs,rfl⟩,_⟩ hne;have O_:=(jY hm h2).2.1;obtain⟨s',hs',hb⟩:=I8 hs O_;refine⟨V_ hm h1 hs ?_,V_ hm h2 hs' ?_⟩
 ·rw[gN,fU,if_neg λe=>hne e.symm];exact O_
 ·have hx0:=(jY hm h1).2.1;rw[gN,hb,fU,if_neg (show¬aC m.w m.h x=aC m.w m.h (aY m.w m.h x s)from hne)];exact hx0
end
section
variable {m:bM}{t x n c d s sc l:Int}
noncomputable def R (m:bM)(t x:Int):Int:=gO (K2 (gD m t) (fX m) (cU m) (ou m) t) (Jp (fX m) (cU m) (ou m)) x
def alA (m:bM)(t s x k:Int):Prop:=cU m x=s/\(gD m t x k\/∃n c,fX m x n c/\cU m n≠s/\D m t n<cj/\k=D m t n+c)
def FI:∀x k,gD m t x k->x=t/\k=0:=λx k h=>⟨h.1,h.2.2⟩
def awe (hm:cW m)(hx:ou m x)(h:D m t x<cj):Wy (K2 (gD m t) (fX m) (cU m) (ou m) t) (Jp (fX m) (cU m) (ou m)) x (D m t x):=by obtain⟨d,hw⟩:=(Ks hm).1 h;have h1:=arO hw;obtain⟨e,h2,h3⟩:=ahE FI c9 (rO hm) hx h1.1;have h4:=h1.2 _ (Nn FI c9 (rO hm) h3);grind
def auu (hm:cW m)(hx:ou m x):R m t x=D m t x:=
 Y8 (λd hd=>mP kY c9 hd) (λd hd=>ahE FI c9 (rO hm) hx hd) λd hd=>Nn FI c9 (rO hm) hd
def asW (hm:cW m)(hx:cU m x=s):gO (alA m t s) (tZ (fX m) (cU m) s) x=D m t x:=by
 subst hx;have LN:=@Nn Int (gD m t) (fX m) (cU m) (ou m) t FI c9 (rO hm);have e1:gO (ahC (gD m t) (fX m) (cU m) (cU m x) (Wy (K2 (gD m t) (fX m) (cU m) (ou m) t) (Jp (fX m) (cU m) (ou m)))) (tZ (fX m) (cU m) (cU m x)) x=D m t x:=
  Y8 (λd hd=>mP kY c9 hd) (λd hd=>ahD FI c9 (rO hm) hd)
   λd hd=>ano FI c9 (rO hm) (λn d hn=>LN hn) hd
 rw[<-e1];refine asP ?_ (λx n c h=>c9 _ _ _ h.1) ?_ ?_
 ·rintro x k ⟨_,h|⟨n,c,d,h1,_,h2,rfl⟩⟩
  ·exact kY _ _ h
  ·have:=c9 _ _ _ h1;have:=mP kY c9 (LN h2);omega
 ·rintro x k ⟨h0,h|⟨n,c,d,h1,h3,h2,rfl⟩⟩
  ·exact⟨k,Int.le_refl _,h0,.inl h⟩
  ·have h4:=LN h2;have h5:=arO h4;have h6:=h5.2 _ h4;exact⟨D m t n+c,by omega,h0,.inr ⟨n,c,h1,h3,(Ks hm).2 ⟨d,h4⟩,rfl⟩⟩
 ·rintro x k ⟨h0,h|⟨n,c,h1,h3,h4,rfl⟩⟩
  ·exact⟨h0,.inl h⟩
  ·exact⟨h0,.inr ⟨n,c,_,h1,h3,awe hm (rO hm _ _ _ h1 (by grind)).2 h4,rfl⟩⟩
def Iv (cs:List Int)(l:Int):Prop:=0<=l/\l<cs.length/\gi cs l.toNat≠255
def Iw (tw th:Int)(cs:List Int)(x n c:Int):Prop:=Iv cs x/\Iv cs n/\(∃s:Int,(0<=s/\s<=3)/\bO tw th x s=n)/\c=gi cs n.toNat
def aqc {α β:Type}{S:α->Int->Prop}{E:α->α->Int->Prop}{S':β->Int->Prop}{E':β->β->Int->Prop}{φ:α->β}{G:α->Prop}
  (h1:∀x k,G x->(S x k↔S' (φ x) k))(h2:∀x n c,G x->E x n c->G n/\E' (φ x) (φ n) c)(h3:∀x y c,G x->E' (φ x) y c->∃n,G n/\y=φ n/\E x n c){x:α}(hx:G x):gO S E x=gO S' E' (φ x):=by
 have a:∀{x d},Wy S E x d->G x->Wy S' E' (φ x) d:=λh=>by
  induction h with
  |src h=>exact λg=>.src ((h1 _ _ g).1 h)
  |go e _ ih=>exact λg=>.go (h2 _ _ _ g e).2 (ih (h2 _ _ _ g e).1)
 have b:∀{y d},Wy S' E' y d->∀x,G x->y=φ x->Wy S E x d:=λh=>by
  induction h with
  |src h=>rintro x g rfl;exact .src ((h1 _ _ g).2 h)
  |go e _ ih=>
   rintro x g rfl;obtain⟨n,h4,h5,h6⟩:=h3 _ _ _ g e;exact .go h6 (ih n h4 h5)
 have e:∀d,Wy S E x d↔Wy S' E' (φ x) d:=λd=>⟨λh=>a h hx,λh=>b h x hx rfl⟩;by_cases h:∃d,Wy S E x d/\∀e,Wy S E x e->d<=e
 ·obtain⟨d,p,q⟩:=h;rw[K1 p q,K1 ((e d).1 p) λe' he'=>q _ ((e e').2 he')]
 ·unfold gO;grind
def dU (m:bM)(sc:Int):List Int:=(List.range (aE m.w m.h sc*bC m.w m.h sc).toNat).map λl:Nat=>cV m (bV m.w m.h sc l)
def Cw:((dU m sc).length:Int)=(aE m.w m.h sc*bC m.w m.h sc).toNat:=by simp[dU]
def LO (hl:0<=l/\l<aE m.w m.h sc*bC m.w m.h sc):gi (dU m sc) l.toNat=cV m (bV m.w m.h sc l):=by unfold gi dU;grind
def LP (hm:cW m)(hc:bK m.w m.h c):1<=cV m c/\cV m c<=255:=by have h1:=hc.2;have h2:=hm.len;unfold cV;have:=hm.jO _ (fG (i:=c.toNat) (by omega));omega
def Cy (hm:cW m)(hc:bK m.w m.h c):fk m c=true↔cV m c≠255:=by have:=LP hm hc;unfold fk;grind
def I9 (hm:cW m)(hs:dY m.w m.h sc)(hl:0<=l/\l<aE m.w m.h sc*bC m.w m.h sc):Iv (dU m sc) l↔fk m (bV m.w m.h sc l)=true:=by rw[Cy hm (s9 hs hl)];rw[Iv,LO hl,Cw];omega
def aia (hm:cW m)(hs:dY m.w m.h sc){S S':Int->Int->Prop}(hS:∀l k,0<=l/\l<aE m.w m.h sc*bC m.w m.h sc->(S l k↔S' (bV m.w m.h sc l) k))(hl:0<=l/\l<aE m.w m.h sc*bC m.w m.h sc):
  gO S (Iw (aE m.w m.h sc) (bC m.w m.h sc) (dU m sc)) l=gO S' (tZ (fX m) (cU m) sc) (bV m.w m.h sc l):=by
 refine aqc (λx k g=>hS x k g) ?_ ?_ hl
 ·rintro x n c g ⟨h1,h2,⟨s,wk,rfl⟩,rfl⟩;have h3:=QT hs g wk h2.1;refine⟨h3.1,⟨(I9 hm hs g).1 h1,(I9 hm hs h3.1).1 h2,⟨s,wk,h3.2⟩,?_⟩,iW hs g,iW hs h3.1⟩;exact LO h3.1
 ·rintro x y c g ⟨⟨h1,h2,⟨s,wk,rfl⟩,rfl⟩,h3,h4⟩;have h0:=(jY hm h2).2.1;by_cases hn:0<=bO (aE m.w m.h sc) (bC m.w m.h sc) x s
  ·have h5:=QT hs g wk hn;refine⟨_,h5.1,h5.2,(I9 hm hs g).2 h1,(I9 hm hs h5.1).2 (by grind),⟨s,wk,rfl⟩,?_⟩;rw[h5.2];exact(LO h5.1).symm
  ·exact((SF hs g wk hn).1 h0 h4).elim
def anK (hm:cW m)(hs:dY m.w m.h sc)(hl:0<=l/\l<aE m.w m.h sc*bC m.w m.h sc){S:Int->Int->Prop}(hS:∀l k,0<=l/\l<aE m.w m.h sc*bC m.w m.h sc->(S l k↔alA m t sc (bV m.w m.h sc l) k)):
  gO S (Iw (aE m.w m.h sc) (bC m.w m.h sc) (dU m sc)) l=D m t (bV m.w m.h sc l):=by
 rw[aia hm hs hS hl];exact asW hm (iW hs hl)
end
section
variable {m:bM}{t x n c d s sc l k:Int}{xs ys:List bj}
def ae7 (h:∀x∈xs,x.c=c->x.s=s->x.k=k):∀st:Int×Bool,(st.2=true->st.1=k)->(xs.foldl (SE c s) st).1=if∃x∈xs,x.c=c/\x.s=s then k else st.1:=by
 induction xs with
 |nil=>grind
 |cons a xs ih=>
  intro st hst;rw[List.foldl_cons];have ih:=ih (λx hx=>h x (by simp[hx]));unfold SE at ih⊢;by_cases ha:a.c=c/\a.s=s
  ·have hk:=h a (by simp) ha.1 ha.2;by_cases hb:st.2=false\/a.k<st.1
   ·rw[if_pos ⟨ha.1,ha.2,hb⟩,ih _ λ_=>hk,if_pos (c:=∃x∈a::xs,x.c=c/\x.s=s) ⟨a,by simp,ha⟩];split
    ·rfl
    ·exact hk
   ·rw[if_neg λe=>hb e.2.2,ih _ hst,if_pos (c:=∃x∈a::xs,x.c=c/\x.s=s) ⟨a,by simp,ha⟩];split
    ·rfl
    ·apply hst;rcases h2:st.2 with _|_
     ·exact(hb (.inl h2)).elim
     ·rfl
  ·rw[if_neg λe=>ha ⟨e.1,e.2.1⟩,ih _ hst];have:(∃x∈a::xs,x.c=c/\x.s=s)↔∃x∈xs,x.c=c/\x.s=s:=by
    constructor
    ·rintro ⟨x,hx,h1⟩;rcases List.mem_cons.1 hx with rfl|hx
     ·exact(ha h1).elim
     ·exact⟨x,hx,h1⟩
    ·rintro ⟨x,hx,h1⟩;exact⟨x,by simp[hx],h1⟩
   by_cases q:∃x∈xs,x.c=c/\x.s=s
   ·rw[if_pos q,if_pos (this.2 q)]
   ·rw[if_neg q,if_neg λe=>q (this.1 e)]
def ae8 (h:∀x∈xs,x.c=c->x.s=s->x.k=k)(he:∃x∈xs,x.c=c/\x.s=s):Iu xs c s=k:=by rw[Iu,ae7 h (cj,false) (by simp),if_pos he]
def Wa (h:∀x∈xs,¬(x.c=c/\x.s=s)):Iu xs c s=cj:=by rw[Iu,ae7 (k:=0) (λx hx h1 h2=>(h x hx ⟨h1,h2⟩).elim) (cj,false) (by simp),if_neg λ⟨x,hx,h1⟩=>h x hx h1]
def Nz (xs:List bj)(l k:Int):Prop:=∃x∈xs,x.c=l/\x.k=k
def Ix (m:bM)(at_:Int->Int)(c:Int):List bj:=(vC m c).filterMap λe=>if at_ e.1=cj then none else some ⟨d_ m.w m.h c,Ay m.w m.h c e.1,e.2+at_ e.1⟩
def E7 (m:bM)(at_:Int->Int)(t sc:Int):List bj:=(aX m sc).flatMap (Ix m at_)++if aC m.w m.h t=sc/\cV m t≠255 then[⟨d_ m.w m.h t,4,0⟩]else[]
def asX {w h s':Int}(hs:0<=s/\s<=3)(hs':0<=s'/\s'<=4)(h0:0<=aY w h x s)(e:aY w h x s'=aY w h x s):s'=s:=by
 obtain⟨c1,c2⟩:=Aa h0;have hst:∀s,aY w h x s=if s=0 then g9 w h (x%w) (x/w-1)else if s=2 then g9 w h (x%w) (x/w+1)else if s=3 then g9 w h (x%w-1) (x/w)else if s=1 then g9 w h (x%w+1) (x/w)else if s=4 then g9 w h (x%w) (x/w)else-1:=λs=>by unfold aY;grind
 have ok:∀{a b:Int},0<=g9 w h a b->(0<=a/\a<w)/\(0<=b/\b<h)/\g9 w h a b=b*w+a:=λh0=>by obtain⟨a,b,_⟩:=BY h0;exact⟨a,b,nB c1.1 a b⟩
 grind
def Wb {w h:Int}(hs:0<=s/\s<=3)(h0:0<=aY w h x s):Ay w h x (aY w h x s)=s:=by
 obtain⟨c1,c2⟩:=Aa h0;unfold Ay;have k:∀s',0<=s'/\s'<=4->s'≠s->¬aY w h x s'=aY w h x s:=λs' h1 h2 e=>h2 (asX hs h1 h0 e);obtain rfl|rfl|rfl|rfl:s=0\/s=1\/s=2\/s=3:=by omega
 all_goals grind
def Cz {w h:Int}(h0:0<=gN w h c s):gN w h c s=aY w h c s/\aC w h (aY w h c s)≠aC w h c:=by unfold gN at h0⊢;omega
def Wc {e:Int×Int}:e∈vC m c↔fk m c=true/\∃s:Int,(0<=s/\s<=3)/\0<=gN m.w m.h c s/\fk m (gN m.w m.h c s)=true/\e=(gN m.w m.h c s,cV m (gN m.w m.h c s)):=by
 unfold vC;by_cases ho:fk m c=true
 ·rw[if_pos ho];rw[GC,List.mem_filterMap];constructor
  ·rintro ⟨s,h1,h2⟩;have h1:=List.mem_range.1 h1;unfold FH at h2;grind
  ·rintro ⟨_,s,h1,h2,h3,rfl⟩;refine⟨s.toNat,List.mem_range.2 (by omega),?_⟩;unfold FH;grind
 grind
def QU (hm:cW m)(hs:dY m.w m.h sc)(ht:bK m.w m.h t){x:bj}:x∈E7 m (D m t) t sc↔
  ((0<=x.c/\x.c<aE m.w m.h sc*bC m.w m.h sc)/\(0<=x.s/\x.s<=3)/\fk m (bV m.w m.h sc x.c)=true/\0<=gN m.w m.h (bV m.w m.h sc x.c) x.s/\fk m (gN m.w m.h (bV m.w m.h sc x.c) x.s)=true/\
   D m t (gN m.w m.h (bV m.w m.h sc x.c) x.s)<cj/\x.k=cV m (gN m.w m.h (bV m.w m.h sc x.c) x.s)+D m t (gN m.w m.h (bV m.w m.h sc x.c) x.s))\/
  ((0<=x.c/\x.c<aE m.w m.h sc*bC m.w m.h sc)/\bV m.w m.h sc x.c=t/\fk m t=true/\x.s=4/\x.k=0):=by
 have ax5:∀z,D m t z≠cj↔D m t z<cj:=λz=>by
  constructor
  ·intro h;by_cases q:∃d,Wy (gD m t) (fX m) z d
   ·exact(Ks hm).2 q
   ·exact(h (agL q)).elim
  omega
 rw[E7,List.mem_append,List.mem_flatMap];refine or_congr ⟨?_,?_⟩ ⟨?_,?_⟩
 ·rintro ⟨c,h1,h2⟩;obtain⟨ho,hc,hsc⟩:=mI hs h1;obtain⟨e,h3,h4⟩:=List.mem_filterMap.1 h2;split at h4
  ·cases h4
  rename_i h5;cases h4;obtain⟨_,s,h6,h7,h8,rfl⟩:=Wc.1 h3;have hl:=j9 hc;have hg:=n6 hc;obtain⟨h9,h10⟩:=Cz h7;have wk:Ay m.w m.h c (gN m.w m.h c s)=s:=by rw[h9];exact Wb h6 (by grind)
  grind
 ·rintro ⟨h1,h2,h3,h4,h5,h6,h7⟩;have hsc:=iW hs h1;refine⟨bV m.w m.h sc x.c,?_,?_⟩
  ·have:=V_ hm h3 h2 h4;unfold ou cU at this;grind
  ·refine List.mem_filterMap.2 ⟨_,Wc.2 ⟨h3,x.s,h2,h4,h5,rfl⟩,?_⟩;obtain⟨h9,h10⟩:=Cz h4;rw[if_neg ((ax5 _).2 h6),F9 hs h1];have wk:Ay m.w m.h (bV m.w m.h sc x.c) (gN m.w m.h (bV m.w m.h sc x.c) x.s)=x.s:=by rw[h9];exact Wb h2 (by grind)
   rw[wk,<-h7]
 ·intro h;split at h
  ·rename_i h1;rw[List.mem_singleton]at h;subst h;have hl:=j9 ht;have hg:=n6 ht;rw[h1.1]at hl hg;exact⟨hl,hg,(Cy hm ht).2 h1.2,rfl,rfl⟩
  ·simp at h
 ·rintro ⟨h1,h2,h3,h4,h5⟩;have hsc:=iW hs h1;rw[h2]at hsc;rw[if_pos ⟨hsc,(Cy hm ht).1 h3⟩,List.mem_singleton];have h6:=F9 hs h1;rw[h2]at h6;rw[h6,<-h4,<-h5]
def aqd (hm:cW m)(hs:dY m.w m.h sc)(ht:bK m.w m.h t)(hxs:∀x,x∈xs↔x∈E7 m (D m t) t sc)(hl:0<=l/\l<aE m.w m.h sc*bC m.w m.h sc):Nz xs l k↔alA m t sc (bV m.w m.h sc l) k:=by
 have hsc:=iW hs hl;constructor
 ·rintro ⟨x,h1,rfl,rfl⟩;rcases(QU hm hs ht).1 ((hxs x).1 h1)with⟨_,h2,h3,h4,h5,h6,h7⟩|⟨_,h2,h3,h4,h5⟩
  ·obtain⟨h9,h10⟩:=Cz h4;refine⟨hsc,.inr ⟨_,_,⟨h3,h5,⟨x.s,h2,h9.symm⟩,rfl⟩,?_,h6,by omega⟩⟩;rw[h9];rw[hsc]at h10;exact h10
  ·exact⟨hsc,.inl ⟨h2,h3,h5⟩⟩
 ·rintro ⟨_,⟨h1,h2,h3⟩|⟨n,c,⟨h1,h2,⟨s,h3,rfl⟩,rfl⟩,h4,h5,rfl⟩⟩
  ·exact⟨⟨l,4,k⟩,(hxs _).2 ((QU hm hs ht).2 (.inr ⟨hl,h1,h2,rfl,h3⟩)),rfl,rfl⟩
  ·have h0:=(jY hm h2).2.1;have ho:gN m.w m.h (bV m.w m.h sc l) s=aY m.w m.h (bV m.w m.h sc l) s:=by rw[gN,fU,if_neg (by rw[hsc];exact h4)]
   refine⟨⟨l,s,_⟩,(hxs _).2 ((QU hm hs ht).2 (.inl ⟨hl,h3,h1,by grind,by grind,by grind,by rw[ho]⟩)),rfl,?_⟩;grind
noncomputable def LQ (tw th:Int)(cs:List Int)(xs:List bj)(l:Int):Int:=gO (Nz xs) (Iw tw th cs) l
def Tw (tw th:Int)(cs:List Int)(xs:List bj)(f:Int->Int)(l s:Int):Bool:=
 if bO tw th l s<0 then Iu xs l s==f l else gi cs (bO tw th l s).toNat !=255&&(gi cs (bO tw th l s).toNat+f (bO tw th l s)==f l)
def ZW (tw th:Int)(cs:List Int)(xs:List bj)(f:Int->Int)(l:Int):Int:=
 if f l=cj then 5 else if Iu xs l 4=f l then 4 else if Tw tw th cs xs f l 0 then 0 else if Tw tw th cs xs f l 1 then 1 else if Tw tw th cs xs f l 2 then 2 else if Tw tw th cs xs f l 3 then 3 else 5
def auv (hm:cW m)(hs:dY m.w m.h sc)(ht:bK m.w m.h t)(hxs:∀x,x∈xs↔x∈E7 m (D m t) t sc)(hl:0<=l/\l<aE m.w m.h sc*bC m.w m.h sc):
  LQ (aE m.w m.h sc) (bC m.w m.h sc) (dU m sc) xs l=D m t (bV m.w m.h sc l):=
 anK hm hs hl λl k h=>aqd hm hs ht hxs h
def dir_eq (hm:cW m)(hs:dY m.w m.h sc)(ht:bK m.w m.h t)(hxs:∀x,x∈xs↔x∈E7 m (D m t) t sc){f:Int->Int}(hf:∀l,0<=l/\l<aE m.w m.h sc*bC m.w m.h sc->f l=D m t (bV m.w m.h sc l))(hl:0<=l/\l<aE m.w m.h sc*bC m.w m.h sc):
  ZW (aE m.w m.h sc) (bC m.w m.h sc) (dU m sc) xs f l=tA m t (bV m.w m.h sc l):=by
 have hsc:=iW hs hl;have hmem:=λx=>(hxs x).trans (QU hm hs ht);unfold ZW tA;rw[hf l hl];by_cases hI:D m t (bV m.w m.h sc l)=cj
 ·grind
 rw[if_neg hI,if_neg hI];have hDl:D m t (bV m.w m.h sc l)<cj:=by
  by_cases q:∃d,Wy (gD m t) (fX m) (bV m.w m.h sc l) d
  ·exact(Ks hm).2 q
  ·exact(hI (agL q)).elim
 have hop:fk m (bV m.w m.h sc l)=true/\fk m t=true:=by obtain⟨d,hd⟩:=(Ks hm).1 hDl;exact akz hd
 by_cases hT:bV m.w m.h sc l=t
 ·rw[if_pos hT,if_pos];rw[hT,aus hop.2];refine ae8 (λx hx h1 h2=>?_) ⟨⟨l,4,0⟩,(hmem _).2 (.inr ⟨hl,hT,hop.2,rfl,rfl⟩),rfl,rfl⟩;grind
 rw[if_neg hT,if_neg]
 ·have key:∀s,0<=s/\s<=3->(Tw (aE m.w m.h sc) (bC m.w m.h sc) (dU m sc) xs f l s=true↔Kt m t (bV m.w m.h sc l) s):=λs wk=>by
   unfold Tw Kt;rw[hf l hl];by_cases hn:0<=bO (aE m.w m.h sc) (bC m.w m.h sc) l s
   ·obtain⟨h1,h2⟩:=QT hs hl wk hn;rw[fU,h2,LO h1,hf _ h1,Cy hm (s9 hs h1),Bool.and_eq_true,bne_iff_ne,beq_iff_eq];exact⟨λh=>⟨(s9 hs h1).2.1,h⟩,λh=>h.2⟩
   ·obtain⟨h1,_⟩:=SF hs hl wk hn;rw[AP,beq_iff_eq];by_cases h0:0<=aY m.w m.h (bV m.w m.h sc l) s
    ·have ho:gN m.w m.h (bV m.w m.h sc l) s=aY m.w m.h (bV m.w m.h sc l) s:=by unfold gN;omega
     by_cases h2:fk m (aY m.w m.h (bV m.w m.h sc l) s)=true/\D m t (aY m.w m.h (bV m.w m.h sc l) s)<cj
     ·rw[ae8 (k:=cV m (aY m.w m.h (bV m.w m.h sc l) s)+D m t (aY m.w m.h (bV m.w m.h sc l) s)) (λx hx h3 h4=>?_) ⟨⟨l,s,_⟩,(hmem _).2 (.inl ⟨hl,wk,hop.1,by grind,by grind,by grind,by rw[ho]⟩),rfl,rfl⟩]
      all_goals grind
     ·rw[Wa λx hx h3=>?_]
      ·constructor
       ·omega
       ·rintro ⟨_,h3,h4⟩;have h5:=Cv h3;exact(h2 ⟨h3,by omega⟩).elim
      grind
    ·rw[Wa λx hx h3=>?_]
     ·constructor
      ·intro h;omega
      ·exact λh=>(h0 h.1).elim
     ·rcases(hmem x).1 hx with⟨_,_,_,h4,_⟩|⟨_,_,_,h5,_⟩
      ·rw[h3.1,h3.2]at h4;have h5:=(Cz h4).1;exact h0 (by rw[<-h5];exact h4)
      ·omega
  grind
 ·rw[Wa λx hx h3=>?_]
  ·exact λh=>hI h.symm
  ·rcases(hmem x).1 hx with⟨_,h4,_⟩|⟨_,h4,_⟩
   ·omega
   ·rw[h3.1]at h4;exact hT h4
def auy (hm:cW m)(hs:dY m.w m.h sc)(ht:bK m.w m.h t){x:bj}(hx:x∈E7 m (D m t) t sc):Az (aE m.w m.h sc) (bC m.w m.h sc) (dU m sc) x=true:=by
 have hlen:((dU m sc).length:Int)=aE m.w m.h sc*bC m.w m.h sc\/aE m.w m.h sc*bC m.w m.h sc<0:=by rw[Cw];omega
 obtain⟨⟨w1,w2⟩,⟨h1,h2⟩,_⟩:=zI hs;have out:∀l s,0<=s/\s<=3->¬0<=bO (aE m.w m.h sc) (bC m.w m.h sc) l s->0<=l/\l<aE m.w m.h sc*bC m.w m.h sc->ZU (aE m.w m.h sc) (bC m.w m.h sc) l s=true:=λl s wk hn hl=>by
  obtain⟨i0,i1⟩:0<=l%aE m.w m.h sc/\l%aE m.w m.h sc<aE m.w m.h sc:=⟨Int.emod_nonneg _ (by omega),Int.emod_lt_of_pos _ (by omega)⟩;obtain⟨j0,j1⟩:0<=l/aE m.w m.h sc/\l/aE m.w m.h sc<bC m.w m.h sc:=⟨Int.ediv_nonneg hl.1 (by omega),Int.ediv_lt_of_lt_mul (by omega) (by grind)⟩;have hle:l=l/aE m.w m.h sc*aE m.w m.h sc+l%aE m.w m.h sc:=by have:=Int.mul_ediv_add_emod l (aE m.w m.h sc);grind
  unfold bO at hn;unfold ZU;obtain rfl|rfl|rfl|rfl:s=0\/s=1\/s=2\/s=3:=by omega
  ·by_cases q:l/aE m.w m.h sc>0
   ·have:=Int.mul_le_mul_of_nonneg_right (show 1<=l/aE m.w m.h sc by omega) (show 0<=aE m.w m.h sc by omega);omega
   grind
  ·grind
  ·grind
  ·by_cases q:l%aE m.w m.h sc>0
   ·have:=Int.mul_nonneg j0 (show 0<=aE m.w m.h sc by omega);omega
   grind
 have fin:(0<=x.c/\x.c<aE m.w m.h sc*bC m.w m.h sc)->fk m (bV m.w m.h sc x.c)=true->(0<=x.k/\x.k<=1073741824)->ZU (aE m.w m.h sc) (bC m.w m.h sc) x.c x.s=true->Az (aE m.w m.h sc) (bC m.w m.h sc) (dU m sc) x=true:=λhl ho hk hout=>by rw[Az,LO hl,decide_eq_true (show 0<=x.c/\x.c<((dU m sc).length:Int) by omega),decide_eq_true hk,hout,Bool.true_and,Bool.true_and,Bool.and_true,bne_iff_ne];exact(Cy hm (s9 hs hl)).1 ho
 rcases(QU hm hs ht).1 hx with⟨a1,a2,a3,a4,a5,a6,a7⟩|⟨a1,a2,a3,a4,a5⟩
 ·obtain⟨d,hd⟩:=(Ks hm).1 a6;have b1:=aqa hm hd;have b2:=ap_ hm hd;have b3:=Cv a5;refine fin a1 a3 (by omega) (out _ _ a2 (λk=>?_) a1);obtain⟨o1,o2⟩:=QT hs a1 a2 k;obtain⟨q1,q2⟩:=Cz a4;rw[o2,iW hs o1,iW hs a1]at q2;exact q2 rfl
 ·apply fin a1 (by grind) (by omega);unfold ZU;grind
end
def cQ (a b:bj):Bool:=decide (ah9 a b<0)
def adS {a b:bj}:cQ a b=true↔a.k<b.k\/a.k=b.k/\(a.c<b.c\/a.c=b.c/\a.s<b.s):=by unfold cQ ah9 V7;grind
def QV {a b:bj}:cQ a b=false↔¬(a.k<b.k\/a.k=b.k/\(a.c<b.c\/a.c=b.c/\a.s<b.s)):=by rw[<-adS,Bool.not_eq_true]
def FJ:Go.Sort.SWO cQ where
 irrefl x:=by rw[QV];omega
 trans x y z h k:=by rw[adS]at*;omega
 ntrans x y z h k:=by rw[QV]at*;omega
def auz {x y:bj}(h:cQ x y=false)(k:cQ y x=false):x=y:=by rw[QV]at h k;obtain⟨c,s,q⟩:=x;obtain⟨c',s',q'⟩:=y;grind
def ZX (xs:List bj):List bj:=xs.mergeSort λx y=>!cQ y x
def NA (xs:List bj):List bj:=ZX xs
def asY {xs:List bj}{x:bj}:x∈ZX xs↔x∈xs:=List.mem_mergeSort
def asZ {xs:List bj}:(ZX xs).length=xs.length:=List.length_mergeSort _
def aqe {xs:List bj}{x:bj}:x∈NA xs↔x∈xs:=asY
def aqf {xs:List bj}:(NA xs).length=xs.length:=asZ
def alB {xs:List bj}:(ZX xs).Pairwise λa b=>a.k<=b.k:=by
 have h:=List.pairwise_mergeSort (le:=λx y=>!cQ y x) (λa b c h k=>by
  simp[Bool.not_eq_true']at*;exact FJ.ntrans _ _ _ k h) (λa b=>by
  simp[Bool.or_eq_true,Bool.not_eq_true'];by_cases q:cQ b a=true
  ·right;rw[adS]at q;rw[QV];omega
  grind) xs
 refine List.Pairwise.imp ?_ h;intro a b h;simp[Bool.not_eq_true']at h;rw[QV]at h;omega
def ajS {xs:List bj}:(NA xs).Pairwise λa b=>a.k<=b.k:=alB
def Ej (n:Nat)(out:List Int)(a c:Int):Bool:=c==0||(decide ((n:Int)-out.length<a+1)||(decide (0<out.length)&&gi out (out.length-1)==c))
def pX (n:Nat):List Int->List Int->Nat->Option (List Int×Nat)
 |a::c::r,out,used=>if n<=out.length then some (out,used)else if Ej n out a c then none else pX n r (out++List.replicate (a+1).toNat c) (used+2)
 |_,out,used=>if n<=out.length then some (out,used)else none
def Iy (n:Nat):List Int->Option (List Int×Nat)
 |[]=>none
 |f::r=>if f=0 then(if r=[]\/gi r 0=0 then none else some (List.replicate n (gi r 0),2))
  else if f=1 then(if r.length<n\/0∈r.take n then none else some (r.take n,1+n))
  else if f=2 then pX n r [] 1
  else none
def FK (n:Nat)(f:Int)(r:List Int):Iy n (f::r)=if f=0 then(if r=[]\/gi r 0=0 then none else some (List.replicate n (gi r 0),2))
 else if f=1 then(if r.length<n\/0∈r.take n then none else some (r.take n,1+n))
 else if f=2 then pX n r [] 1
 else none:=rfl
def E8 (bs:List Int)(n:Nat):Option (List Int×Nat):=match Iy n bs with
 |some (cs,used)=>if(tY cs).2=bs.take used then some (cs,used)else none
 |none=>none
def NB (x:Int):∀l:List Int,l.take (lead x l)=List.replicate (lead x l) x
 |[]=>rfl
 |y::ys=>by
  unfold lead;split
  ·rename_i h;subst h;rw[List.take_succ_cons,List.replicate_succ,NB]
  ·rfl
def ae9 (x:Int):∀l:List Int,∀y ys,l.drop (lead x l)=y::ys->y≠x
 |[],y,ys,h=>by grind
 |z::zs,y,ys,h=>by
  unfold lead at h;split at h
  ·exact ae9 x zs y ys h
  grind
def NC {n:Nat}{out:List Int}{used:Nat}(h:n<=out.length):∀bs,pX n bs out used=some (out,used)
 |[]=>by simp[pX,h]
 |[a]=>by simp[pX,h]
 |a::c::r=>by rw[pX,if_pos h]
def ae_ (n:Nat):∀(f:Nat) (cs out rest:List Int) (used:Nat),cs.length<=f->cs.length<=256->(∀x∈cs,1<=x/\x<256)->n=out.length+cs.length->(0<out.length->∀y ys,cs=y::ys->gi out (out.length-1)≠y)->
  pX n (lJ f cs++rest) out used=some (out++cs,used+(lJ f cs).length)
 |0,cs,out,rest,used,hf,aqg,hr,hn,hl=>by have:cs=[]:=List.eq_nil_of_length_eq_zero (by omega);subst this;rw[NC (by omega)];simp[lJ]
 |f+1,[],out,rest,used,hf,aqg,hr,hn,hl=>by rw[NC (by grind)];simp[lJ]
 |f+1,x::ys,out,rest,used,hf,aqg,hr,hn,hl=>by
  have hk:=Pe x ys;simp[List.length_cons]at hf aqg hn;have hx:=hr x (by simp);have e:((lead x ys:Nat):Int)%256=lead x ys:=Int.emod_eq_of_lt (by omega) (by omega);have ey:List.replicate (lead x ys+1) x++ys.drop (lead x ys)=x::ys:=by rw[List.replicate_succ,<-NB,List.cons_append,List.take_append_drop]
  show pX n (((lead x ys:Nat):Int)%256::x::(lJ f (ys.drop (lead x ys))++rest)) out used=_;rw[e,pX,fU,if_neg]
  ·have:=ae_ n f (ys.drop (lead x ys)) (out++List.replicate (lead x ys+1) x) rest (used+2) (by grind) (by grind) (λz hz=>hr z (by grind)) (by grind) (λ_ y zs hy=>by have h1:=ae9 x ys y zs hy;intro h2;apply h1;rw[<-h2];unfold gi;grind)
   rw[show((lead x ys:Nat)+1:Int).toNat=lead x ys+1 by omega,this,List.append_assoc,ey];congr 2;show _=used+(((lead x ys:Nat):Int)%256::x::lJ f (ys.drop (lead x ys))).length;grind
  ·unfold Ej;grind
def aqh {cs rest:List Int}(hr:∀x∈cs,1<=x/\x<256)(h1:1<=cs.length/\cs.length<=256):Iy cs.length ((tY cs).2++rest)=some (cs,(tY cs).2.length):=by
 have hb:=ae_ cs.length cs.length cs [] rest 1 (Nat.le_refl _) h1.2 hr (by simp) (by simp);rw[List.nil_append]at hb;unfold tY;split
 ·rename_i h3;obtain⟨x,ys,rfl⟩:∃x ys,cs=x::ys:=by
   cases cs with
   |nil=>simp at h1
   |cons x ys=>grind
  have h4:(lJ (x::ys).length (x::ys)).length=2:=by unfold tX at h3;grind
  have h5:lJ ys.length (ys.drop (lead x ys))=[]:=by apply List.eq_nil_of_length_eq_zero;have:(lJ (x::ys).length (x::ys)).length=(lJ ys.length (ys.drop (lead x ys))).length+2:=rfl;omega
  have h6:ys.drop (lead x ys)=[]:=by
   cases hd:ys.drop (lead x ys)with
   |nil=>rfl
   |cons z zs=>
    rw[hd]at h5;have h7:0<ys.length:=by grind
    obtain⟨k,hk⟩:∃k,ys.length=k+1:=⟨ys.length-1,by omega⟩;rw[hk]at h5;cases h5
  have h7:lead x ys=ys.length:=by
   have:=Pe x ys;have h8:(ys.drop (lead x ys)).length=0:=by rw[h6];rfl
   grind
  have h8:ys=List.replicate ys.length x:=by have:=NB x ys;grind
  have hx:=hr x (by simp);show Iy _ (0::x::rest)=some (x::ys,2);rw[FK,if_pos rfl,if_neg]
  ·show some (List.replicate (ys.length+1) x,2)=some (x::ys,2);grind
  ·rintro (h|h)
   ·cases h
   ·have:x=0:=h;omega
 ·split
  ·show Iy _ (2::(lJ cs.length cs++rest))=some (cs,(2::lJ cs.length cs).length);rw[FK,if_neg (by decide),if_neg (by decide),if_pos rfl,hb,List.length_cons,Nat.add_comm]
  ·show Iy _ (1::(cs++rest))=some (cs,(1::cs).length);rw[FK,if_neg (by decide),if_pos rfl,if_neg,List.take_left,List.length_cons,Nat.add_comm];grind
def as0 {cs rest:List Int}(hr:∀x∈cs,1<=x/\x<256)(h1:1<=cs.length/\cs.length<=256):E8 ((tY cs).2++rest) cs.length=some (cs,(tY cs).2.length):=by rw[E8,aqh hr h1];grind
def SH (n:Nat):∀(bs out:List Int) (used:Nat) (cs:List Int) (u:Nat),(∀x∈bs,0<=x/\x<256)->(∀x∈out,1<=x/\x<256)->out.length<=n->pX n bs out used=some (cs,u)->cs.length=n/\(∀x∈cs,1<=x/\x<256)/\u<=used+bs.length
 |[],out,used,cs,u,hb,ho,hn,h=>by unfold pX at h;grind
 |[a],out,used,cs,u,hb,ho,hn,h=>by unfold pX at h;grind
 |a::c::r,out,used,cs,u,hb,ho,hn,h=>by
  unfold pX at h;split at h
  ·grind
  ·split at h
   ·cases h
   ·rename_i h1 h2;unfold Ej at h2;have:=SH n r _ (used+2) cs u (λx hx=>hb x (by simp[hx])) (λx hx=>by grind) (by grind) h
    grind
def anL {bs cs:List Int}{n used:Nat}(hn:1<=n)(hb:∀x∈bs,0<=x/\x<256)(h:E8 bs n=some (cs,used)):cs.length=n/\(∀x∈cs,1<=x/\x<256)/\used<=bs.length:=by
 unfold E8 at h;split at h
 ·rename_i cs' used' hB;split at h
  ·cases h;cases bs with
   |nil=>cases hB
   |cons f r=>
    rw[FK]at hB;split at hB
    ·split at hB
     ·cases hB
     ·rename_i h1;cases hB;obtain⟨x,r',rfl⟩:∃x r',r=x::r':=by
       cases r with
       |nil=>grind
       |cons x r'=>grind
      have hx:=hb x (by simp);refine⟨by simp,λy hy=>?_,by simp⟩;rw[List.mem_replicate]at hy;have h3:y=x:=hy.2;omega
    ·split at hB
     ·grind
     ·split at hB
      ·have:=SH n r [] 1 cs used (λx hx=>hb x (by simp[hx])) (by simp) (by simp) hB;grind
      ·cases hB
  ·cases h
 ·cases h
def E9 (w h sc:Int)(M ts:List Int)(y:Int):List Int:=(List.range M.length).map λc:Nat=>if aC w h c=sc/\d_ w h c/aE w h sc<y then gi ts (d_ w h c).toNat else gi M c
def aib (w h sc:Int)(M ts:List Int):List Int:=E9 w h sc M ts (bC w h sc)
def rB (w h:Int):Nat->Int->List Int->List Int->Option (List Int×List Int)
 |0,_,bs,M=>some (bs,M)
 |k+1,i,bs,M=>match E8 bs (aE w h i*bC w h i).toNat with
  |none=>none
  |some (ts,used)=>rB w h k (i+1) (bs.drop used) (aib w h i M ts)
def By (bs:List Int):Int:=gi bs 0+256*gi bs 1
def Bz (bs:List Int):Int:=gi bs 2+256*gi bs 3
def lu (bs:List Int):Option bM:=
 if bs.length<4 then none else if ja (By bs) (Bz bs)then
  match rB (By bs) (Bz bs) (eL (By bs) (Bz bs)).toNat 0 (bs.drop 4) (List.replicate (By bs*Bz bs).toNat 0)with
  |some (bs',M)=>if bs'=[]then some ⟨By bs,Bz bs,M⟩else none
  |none=>none
 else none
section
variable {w h sc y:Int}{M ts:List Int}{c:Nat}
def LR:(E9 w h sc M ts y).length=M.length:=by simp[E9]
def SI:(aib w h sc M ts).length=M.length:=LR
def Xc (hc:c<M.length):gi (E9 w h sc M ts y) c=if aC w h c=sc/\d_ w h c/aE w h sc<y then gi ts (d_ w h c).toNat else gi M c:=by unfold gi E9;rw[List.getD_eq_getElem?_getD,List.getElem?_map,List.getElem?_range hc];rfl
def akB (hc:c<M.length)(hC:bK w h c):gi (aib w h sc M ts) c=if aC w h c=sc then gi ts (d_ w h c).toNat else gi M c:=by
 rw[aib,Xc hc];by_cases e:aC w h c=sc
 ·rw[if_pos e,if_pos];refine⟨e,?_⟩;have hl:=j9 hC;have hs:=bT hC;rw[e]at hl hs;obtain⟨⟨w1,w2⟩,⟨h1,h2⟩,_⟩:=zI hs;exact Int.ediv_lt_of_lt_mul (by omega) (by grind)
 grind
def aic {a:Int}(h:1<=a/\a<=1024):a%256+256*(a/256%256)=a:=by omega
def aqi {m:bM}(hm:cW m){s:Int}(hs:dY m.w m.h s):(qu m s).length=(aE m.w m.h s*bC m.w m.h s).toNat:=by unfold qu;grind
def aqj {m:bM}{l:Int}(hl:0<=l/\l<aE m.w m.h sc*bC m.w m.h sc):gi (qu m sc) l.toNat=gi m.cs (bV m.w m.h sc l).toNat:=by show(qu m sc).getD l.toNat 0=_;unfold qu;grind
def aid {m:bM}(hm:cW m)(hs:dY m.w m.h sc):qu m sc=dU m sc:=by refine List.map_congr_left λl hl=>?_;have hl:=List.mem_range.1 hl;have hg:=s9 hs (l:=l) (by omega);have:=hm.len;have:=hg.2;unfold cV;omega
def afa {m:bM}(hm:cW m):∀(k:Nat) (i:Nat) (M:List Int),(i:Int)+k=eL m.w m.h->M.length=m.cs.length->(∀c:Nat,c<m.cs.length->aC m.w m.h c<i->gi M c=gi m.cs c)->
  rB m.w m.h k i ((List.range' i k).flatMap λs:Nat=>(tY (qu m s)).2) M=some ([],m.cs)
 |0,i,M,hk,hl,hM=>by show some ([],M)=some ([],m.cs);congr 2;refine U2 hl λc hc=>hM c (by omega) ?_;have hC:bK m.w m.h c:=⟨⟨hm.w,hm.h⟩,by omega,by rw[<-hm.len];omega⟩;have:=(bT hC).2.2;omega
 |k+1,i,M,hk,hl,hM=>by
  have hs:dY m.w m.h i:=⟨⟨hm.w,hm.h⟩,by omega,by omega⟩;have hlen:=U7 hm hs.2;have e:=aqi hm hs;rw[List.range'_succ,List.flatMap_cons,rB,<-e,as0 (U6 hm hs.2) hlen.2];simp only;rw[List.drop_left,show((i:Int)+1)=((i+1:Nat):Int) by omega];refine afa hm k (i+1) _ (by omega) (by rw[SI,hl]) λc hc hsc=>?_;have hC:bK m.w m.h c:=⟨⟨hm.w,hm.h⟩,by omega,by rw[<-hm.len];omega⟩;rw[akB (by omega) hC];by_cases q:aC m.w m.h c=i
  ·rw[if_pos q];have hl2:=j9 hC;have hg:=n6 hC;rw[q]at hl2 hg;rw[aqj hl2,hg];rfl
  grind
def abH {m:bM}(hm:cW m):lu (yT m)=some m:=by
 have e1:By (yT m)=m.w:=aic hm.w;have e2:Bz (yT m)=m.h:=aic hm.h;rw[lu,e1,e2,if_neg (by unfold yT;simp),if_pos ⟨hm.w,hm.h⟩];have:=afa hm (eL m.w m.h).toNat 0 (List.replicate (m.w*m.h).toNat 0) (by have:=(gS hm.w hm.h).1;omega) (by have:=hm.len;simp;omega) (λc hc h=>by have hC:bK m.w m.h c:=⟨⟨hm.w,hm.h⟩,by omega,by rw[<-hm.len];omega⟩;have:=(bT hC).2.1;omega)
 rw[<-List.range_eq_range']at this;have e3:(yT m).drop 4=(List.range (eL m.w m.h).toNat).flatMap λs:Nat=>(tY (qu m s)).2:=by rfl
 simp_all
def aie (hm:ja w h):∀(k:Nat) (i:Nat) (bs M bs' M':List Int),(i:Int)+k=eL w h->(M.length:Int)=w*h->(∀x∈bs,0<=x/\x<256)->(∀c:Nat,c<M.length->aC w h c<i->1<=gi M c/\gi M c<256)->
  rB w h k i bs M=some (bs',M')->(M'.length:Int)=w*h/\∀x∈M',1<=x/\x<256
 |0,i,bs,M,bs',M',hk,hl,hb,hM,h=>by cases h;refine⟨hl,λx hx=>?_⟩;obtain⟨c,hc⟩:=List.mem_iff_getElem?.1 hx;have yp:=(List.getElem?_eq_some_iff.1 hc).1;have hC:bK w h c:=⟨hm,by omega,by omega⟩;have:=hM c yp (by have:=(bT hC).2.2;omega);rw[ig yp]at hc;grind
 |k+1,i,bs,M,bs',M',hk,hl,hb,hM,hg=>by
  have hs:dY w h i:=⟨hm,by omega,by omega⟩;obtain⟨⟨w1,w2⟩,⟨h1,h2⟩,_⟩:=zI hs;have h11:1<=aE w h i*bC w h i:=by have:=Int.mul_le_mul w1 h1 (by decide) (by omega);omega
  rw[rB]at hg;split at hg
  ·cases hg
  ·rename_i ts used hT;obtain⟨t1,t2,t3⟩:=anL (by omega) hb hT;refine aie hm k (i+1) _ _ bs' M' (by omega) (by rw[SI];exact hl) (λx hx=>hb x (List.mem_of_mem_drop hx)) (λc hc hsc=>?_) hg;rw[SI]at hc;have hC:bK w h c:=⟨hm,by omega,by omega⟩;rw[akB hc hC];by_cases q:aC w h c=i
   ·rw[if_pos q];have hl2:=j9 hC;rw[q]at hl2;exact t2 _ (fG (by omega))
   grind
def afb {bs:List Int}{m:bM}(hb:∀x∈bs,0<=x/\x<256)(h:lu bs=some m):cW m:=by
 unfold lu at h;split at h
 ·cases h
 ·split at h
  ·rename_i hm;split at h
   ·rename_i bs' M hT;split at h
    ·cases h;have hwh:=qK hm;obtain⟨a,b⟩:=aie hm _ 0 _ _ _ _ (by have:=(gS hm.1 hm.2).1;omega) (by grind) (λx hx=>hb x (List.mem_of_mem_drop hx)) (λc hc hsc=>by rw[List.length_replicate]at hc;have hC:bK (By bs) (Bz bs) c:=⟨hm,by omega,by omega⟩;have:=(bT hC).2.1;omega) hT
     exact⟨hm.1,hm.2,a,b⟩
    ·cases h
   ·cases h
  ·cases h
end
end Go.Proofs.YtmegplnmiepfbaaGreatDoor.S
namespace Go.Proofs.YtmegplnmiepfbaaGreatDoor.S.Rg
abbrev E:=Int×Int
def YA (j:Nat)(e:E):Bool:=decide (e.1%256=(j:Int))
def tU (l:List E)(j:Nat):List Int:=(l.filter (YA j)).map (·.2)
def Fit (a:Int)(l:List E):Prop:=∀e∈l,a<=e.1/\e.1<a+256
def anM (l:List E)(e:E)(j:Nat):tU (l++[e]) j=if e.1%256=(j:Int)then tU l j++[e.2]else tU l j:=by
 unfold tU;by_cases h:e.1%256=(j:Int)
 ·simp[YA,h]
 ·simp[YA,h]
def aqk {a:Int}{l:List E}{e:E}(h:Fit a l)(h1:a<=e.1)(h2:e.1<a+256):Fit a (l++[e]):=by
 intro x hx;rcases List.mem_append.1 hx with hx|hx
 ·exact h x hx
 grind
def afc {k:Int}:∀{l:List E},(∃e∈l,e.1=k)->∃l1 x l2,l=l1++(k,x)::l2/\∀e∈l1,e.1≠k
 |[],h=>by grind
 |y::l,h=>by
  by_cases hy:y.1=k
  ·exact⟨[],y.2,l,by subst hy;rfl,by simp⟩
  ·obtain⟨l1,x,l2,h1,h2⟩:=afc (k:=k) (l:=l) (by grind)
   grind
def Xd {a k:Int}{l:List E}{j:Nat}(h:Fit a l)(hk:a<=k/\k<a+256)(hj:k%256=(j:Int)){e:E}(he:e∈l):YA j e=true↔e.1=k:=by have:=h e he;unfold YA;grind
def anN {a k:Int}{l:List E}{j:Nat}(h:Fit a l)(hk:a<=k/\k<a+256)(hj:k%256=(j:Int))(SB:∀e∈l,k<=e.1)(hne:tU l j≠[]):
  ∃l1 x l2,l=l1++(k,x)::l2/\(∀e∈l1,k<e.1)/\(∀e∈l2,k<=e.1)/\tU l j=x::tU (l1++l2) j/\(∀j',j'≠j->tU (l1++l2) j'=tU l j')/\Fit k (l1++l2):=by
 have hex:∃e∈l,e.1=k:=by
  unfold tU at hne;cases hf:l.filter (YA j)with
  |nil=>grind
  |cons e r=>
   have:e∈l.filter (YA j):=by rw[hf];simp
   obtain⟨h1,h2⟩:=List.mem_filter.1 this;exact⟨e,h1,(Xd h hk hj h1).1 h2⟩
 obtain⟨l1,x,l2,rfl,hl1⟩:=afc hex;refine⟨l1,x,l2,rfl,λe he=>?_,λe he=>SB e (by simp[he]),?_,λj' hj'=>?_,λe he=>?_⟩
 ·grind
 ·unfold tU;have h1:l1.filter (YA j)=[]:=by rw[List.filter_eq_nil_iff];intro e he hb;exact hl1 e he ((Xd h hk hj (by simp[he])).1 hb)
  rw[List.filter_append,List.filter_append,h1,List.filter_cons_of_pos (by unfold YA;grind)];rfl
 ·unfold tU;rw[List.filter_append,List.filter_append,List.filter_cons_of_neg (by unfold YA;grind)]
 ·have h1:e∈l1++(k,x)::l2:=by grind
  have:=h e h1;grind
def ajT {a:Int}{l:List E}(h:Fit a l)(hne:l≠[]):∃d:Nat,d<256/\(∀e∈l,a+d<=e.1)/\∃e∈l,e.1=a+d:=by
 have key:∀n:Nat,(∃e∈l,e.1<a+n)->∃d:Nat,d<n/\(∀e∈l,a+d<=e.1)/\∃e∈l,e.1=a+d:=by
  intro n;induction n with
  |zero=>
   rintro ⟨e,he,hlt⟩;have:=h e he;omega
  |succ n ih=>
   rintro ⟨e,he,hlt⟩;by_cases hn:∃e∈l,e.1<a+n
   all_goals grind
 obtain⟨e,he⟩:=List.exists_mem_of_ne_nil l hne;exact key 256 ⟨e,he,(h e he).2⟩
def abI {a k:Int}{l:List E}{j:Nat}(h:Fit a l)(hk:a<=k/\k<a+256)(hj:k%256=(j:Int)):tU l j=[]↔∀e∈l,e.1≠k:=by
 rw[tU,List.map_eq_nil_iff,List.filter_eq_nil_iff];constructor
 ·intro h1 e he hk';exact h1 e he ((Xd h hk hj he).2 hk')
 ·intro h1 e he hb;exact h1 e he ((Xd h hk hj he).1 hb)
end Go.Proofs.YtmegplnmiepfbaaGreatDoor.S.Rg
namespace Go.Proofs.YtmegplnmiepfbaaGreatDoor.S.Rg
open Go.Sx
def dW:wZ P T:=EK P rows HI
def cI {n lo hi:Int}{w:World}{Q:Int->World->Prop}(h1:lo<=hi)(h2:-1099511627776<=lo)(h3:hi<=1099511627776)(h:Q (lo+n%(hi-lo+1)) w):a_ n lo hi w Q:=by
 apply uD;rw[aG (n:=hi-lo),aG];generalize hs:hi-lo+1=s at h;have h4:=Int.lt_tmod_of_pos n (b:=s) (by omega);have h5:=Int.tmod_lt_of_pos n (b:=s) (by omega);have h6:=Int.tmod_add_mul_tdiv n s;refine⟨by omega,?_⟩;generalize ht:Int.tmod n s=t at*;have e:n%s=t%s:=by rw[<-h6,Int.add_mul_emod_self_left]
 by_cases hn:t<0
 ·rw[bN hn,aG (n:=t+hi),aG (n:=t+hi-lo),aG (n:=t+hi-lo+1),aG];have e2:t%s=t+s:=by rw[<-Int.add_emod_right,Int.emod_eq_of_lt (by omega) (by omega)]
  grind
 ·rw[bh hn,aG];rw[e,Int.emod_eq_of_lt (by omega) h5]at h;exact h
structure Bk where
 a:Option Addr
 c:Nat
 xs:List Int
 gone:Nat
def ints (l:List Int):List Value:=l.map (.int .i64)
def Wd (b:Bk):List Value:=[.slice b.a b.xs.length b.c,ae b.gone]
def Xe (b:Bk):(Wd b).length=2:=rfl
def Bh (b:Bk):As:=ak b.a b.xs.length b.c 3 1 (ints b.xs)
def tP (a len:Int)(bs:List Bk):List Value:=ae a::ae len::flat Wd bs
def SJ (p:Nat)(a len:Int)(bs:List Bk):List As:=av p 388 (tP a len bs)::bs.map Bh
structure Rel (a:Int) (l:List E) (bs:List Bk) (N:Nat):Prop where
 n:bs.length=256
 fit:Fit a l
 nn:0<=a
 big:a+256*(l.length:Int)<=1099511627776+256*(N:Int)
 nX:l.length<=N
 room:N<1000000
 bk:∀(j:Nat) b,bs[j]? =some b->b.xs.drop b.gone=tU l j/\b.gone<=b.xs.length/\b.xs.length<=N
def BA (p:Nat)(a:Int)(l:List E)(bs:List Bk)(N:Nat):As:=aW (Rel a l bs N) (SJ p a l.length bs)
attribute [local irreducible] af cv bz bg aA cw bZ St Bx Al App cH cy cD bU aM bF aq bS av ak
section
variable {F:Nat->Prop}{W w:World}{L:List As}{i j p o n c:Nat}{t:TypeId}{cs:List Value}{a:Option Addr}{xs:List Int}
def ZY {x:Int}{Q:World->Prop}(s:Sep F W w L)(hi:L[i]? =some (av p t cs))(ho:cs[o]? =some (.slice a n c))(hj:L[j]? =some (ak a n c 3 1 (ints xs)))(hij:i≠j)(hn:n<1000000)
  (h:∀w' a' c',Sep F W w' ((L.set j (ak a' (n+1) c' 3 1 (ints (xs++[x])))).set i (av p t (cs.set o (.slice a' (n+1) c'))))->Q w'):zk (some ⟨p,o,none⟩) x w Q:=by
 apply Qk;apply ah;apply g6 s rfl hi ho;refine aQ s λbx w1 s=>?_;have src:Src w1 (sZ bx) 1 1 [ae x]:=⟨rfl,λu hu=>by rw[List.mem_singleton.1 hu];rfl,λj u hj=>by rw[cu,Nat.zero_add];exact cR s (i:=0) rfl rfl hj⟩;refine iw dW s (bytes:=8) rfl rfl rfl rfl rfl rfl (by decide) (by rw[List.getElem?_cons_succ];exact hj) src (by simp[maxLen];omega) (by omega) (λe=>by cases e) λa' c' w2 s=>?_;have s:=ai s;have e1:ints xs++[ae x]=ints (xs++[x]):=by simp[ints]
 apply ah;have ho':=(List.getElem?_eq_some_iff.1 ho).1;refine ax s rfl (by rw[List.getElem?_set_ne (Ne.symm hij)];exact hi) (by simp_all) λw3 s=>?_;grind
def CA {g:Int}{Q:Bool->World->Prop}(s:Sep F W w L)(hi:L[i]? =some (av p t cs))(ho:cs[o]? =some (.slice a n c))(ho':cs[o+1]? =some (ae g))(h:Q (g==(n:Int)) w.drew):qD (some ⟨p,o,none⟩) w Q:=by apply MI;have s':Sep F W w.drew L:=s;apply ah;refine dy s' (by rw[cu]) hi ho' (ah ?_);exact g6 s' rfl hi ho h
def ZZ {g:Nat}{x:Int}{Q:Int->World->Prop}(s:Sep F W w L)(hi:L[i]? =some (av p t cs))(ho:cs[o]? =some (.slice a n c))(ho':cs[o+1]? =some (ae g))(hj:L[j]? =some (ak a n c 3 1 (ints xs)))(hij:i≠j)(hn:n<1000000)(hx:xs[g]? =some x)
  (h1:g+1<n->∀w',Sep F W w' (L.set i (av p t (cs.set (o+1) (ae ((g+1:Nat):Int)))))->Q x w')
  (h2:g+1=n->∀w',Sep F W w' ((L.set i (av p t ((cs.set o (.slice a 0 c)).set (o+1) (ae ((0:Nat):Int))))).set j (ak a 0 c 3 1 []))->Q x w'):zi (some ⟨p,o,none⟩) w Q:=by
 apply Ql;have hiL:=(List.getElem?_eq_some_iff.1 hi).1;have hol:=(List.getElem?_eq_some_iff.1 ho).1;have ax6:=(List.getElem?_eq_some_iff.1 ho').1;have hxl:=(List.getElem?_eq_some_iff.1 hx).1;have hl:xs.length=n:=by have:=rG s hj;simpa[ints]using this
 obtain⟨b,ob,rfl⟩:=qe s hj (by omega);have s0:Sep F W w.drew L:=s;apply ah;refine g6 s0 rfl hi ho (ah ?_);apply dy s0 (by rw[cu]) hi ho';refine⟨by omega,by omega,ah ?_⟩;rw[show((g:Int)).toNat*1=g by omega];refine UZ s0 hj (by rw[cu]) (by rw[ints,List.getElem?_map,hx];rfl) (ah ?_);refine dy s0 (by rw[cu]) hi ho' (ah ?_);rw[aG,show((g:Int)+1)=((g+1:Nat):Int) by omega];refine ax s0 (by rw[cu]) hi (by simp_all) λw1 s1=>?_;apply CA (a:=some ⟨b,ob,none⟩) (n:=n) (c:=c) s1 (List.getElem?_set_self hiL) (by grind) (List.getElem?_set_self ax6);have s2:Sep F W w1.drew _:=s1;by_cases he:g+1=n
 ·rw[he,beq_self_eq_true,cond_true];apply ah;apply g6 s2 rfl (List.getElem?_set_self hiL) (by rw[List.getElem?_set_ne (by omega)];exact ho);refine Pc (m:=0) rfl (by omega) (ah ?_);refine ax s2 rfl (List.getElem?_set_self hiL) (by simp_all) λw3 s3=>?_;rw[h_]at s3;apply ah;refine ax s3 (by rw[cu]) (List.getElem?_set_self hiL) (by simp_all) λw4 s4=>?_;rw[h_]at s4;have s5:=To s4 (by rw[List.getElem?_set_ne hij];exact hj) (Nat.zero_le _);apply h2 he w4;have ec:((cs.set (o+1) (ae ((n:Nat):Int))).set o (.slice (some ⟨b,ob,none⟩) 0 c)).set (o+1) (ae 0)=(cs.set o (.slice (some ⟨b,ob,none⟩) 0 c)).set (o+1) (ae ((0:Nat):Int)):=by have e3:(cs.set (o+1) (ae ((n:Nat):Int))).set o (.slice (some ⟨b,ob,none⟩) 0 c)=(cs.set o (.slice (some ⟨b,ob,none⟩) 0 c)).set (o+1) (ae ((n:Nat):Int)):=List.set_comm _ _ (by omega);simp_all
  grind
 grind
end
end Go.Proofs.YtmegplnmiepfbaaGreatDoor.S.Rg
namespace Go.Proofs.YtmegplnmiepfbaaGreatDoor.S.Rg
open Go.Sx
def FL {p:Addr}{A B:Prop}(h:B):cond (some p).isNone A B:=h
def LS {bs:List Bk}{j:Nat}{b:Bk}(h:bs[j]? =some b):(bs.map Bh)[j]? =some (Bh b):=by grind
def ND {a len:Int}{bs:List Bk}{j:Nat}{b:Bk}(h:bs[j]? =some b):(tP a len bs)[j*2+2]? =some (.slice b.a b.xs.length b.c):=by show(flat Wd bs)[j*2+0]? =_;rw[sX Xe h (by decide)];rfl
def OU {a len:Int}{bs:List Bk}{j:Nat}{b:Bk}(h:bs[j]? =some b):(tP a len bs)[j*2+2+1]? =some (ae b.gone):=by show(flat Wd bs)[j*2+1]? =_;rw[sX Xe h (by decide)];rfl
def Tx {a len:Int}{bs:List Bk}{j:Nat}{b b':Bk}{v:Value}(h:bs[j]? =some b)(hv:Wd b'=(Wd b).set 0 v):(tP a len bs).set (j*2+2) v=tP a len (bs.set j b'):=by show _::_::(flat Wd bs).set (j*2+0) v=_;rw[Ry Xe h (by decide) hv];rfl
def NF {a len:Int}{bs:List Bk}{j:Nat}{b b':Bk}{v:Value}(h:bs[j]? =some b)(hv:Wd b'=(Wd b).set 1 v):(tP a len bs).set (j*2+2+1) v=tP a len (bs.set j b'):=by show _::_::(flat Wd bs).set (j*2+1) v=_;rw[Ry Xe h (by decide) hv];rfl
attribute [local irreducible] af cv bz bg aA cw bZ St Bx Al App cH cy cD bU aM bF aq bS av ak aW
section
variable {F:Nat->Prop}{W w:World}{L:List As}{i p:Nat}{a:Int}{l:List E}{bs:List Bk}{N:Nat}
def H9 (s:Sep F W w L)(hi:L[i]? =some (BA p a l bs N)):Rel a l bs N:=aeV s hi
def NG (s:Sep F W w L)(hi:L[i]? =some (BA p a l bs N)):Sep (BA p a l bs N).fp w w (SJ p a l.length bs):=IN s hi
def Di {Q:Int->World->Prop}(s:Sep F W w L)(hi:L[i]? =some (BA p a l bs N))(h:Q (l.length:Int) w):qO (sZ p) w Q:=by apply Us;refine FL (ah ?_);exact dy (NG s hi) (i:=0) rfl rfl rfl h
def QW {k x:Int}{Q:Bool->World->Prop}(s:Sep F W w L)(hi:L[i]? =some (BA p a l bs N))(hk:k<9223372036854775808)(o9:N+1<1000000)
  (hno:¬(a<=k/\k<a+256)->Q false w)(hyes:a<=k/\k<a+256->∀w' bs',Sep F W w' (L.set i (BA p a (l++[(k,x)]) bs' (N+1)))->Q true w'):vW (sZ p) k x w Q:=by
 apply Ut;have hr:=H9 s hi;have s0:=NG s hi;have hnn:=hr.nn;refine FL (ah ?_);apply dy s0 (i:=0) rfl rfl rfl;by_cases h1:k<a
 ·grind
 ·rw[bh h1];apply ah;apply dy s0 (i:=0) rfl rfl rfl;rw[aG];by_cases h2:k-a≥256
  ·grind
  ·rw[bh h2];have hkk:a<=k/\k<a+256:=by omega
   rw[Int.tmod_eq_emod_of_nonneg (by omega)];obtain⟨j,hj⟩:∃j:Nat,k%256=(j:Int):=⟨(k%256).toNat,by omega⟩;have abJ:j<256:=by omega
   obtain⟨b,hb⟩:∃b,bs[j]? =some b:=⟨_,List.getElem?_eq_getElem (by rw[hr.n];exact abJ)⟩;have hbk:=hr.bk j b hb;rw[hj];refine⟨by decide,ah ⟨by omega,by omega,?_⟩⟩;have ea:((aZ p).add 2).add (((j:Int)).toNat*2)=⟨p,j*2+2,none⟩:=by rw[cu,cu,show((j:Int)).toNat=j from rfl];grind
   rw[ea];refine ZY s0 (i:=0) (j:=j+1) rfl (ND hb) (by show(bs.map Bh)[j]? =_;exact LS hb) (by omega) (by omega) λw1 a' c' s1=>?_;have e1:ak a' (b.xs.length+1) c' 3 1 (ints (b.xs++[x]))=Bh ⟨a',c',b.xs++[x],b.gone⟩:=by unfold Bh;grind
   have e2:(tP a l.length bs).set (j*2+2) (.slice a' (b.xs.length+1) c')=tP a l.length (bs.set j ⟨a',c',b.xs++[x],b.gone⟩):=Tx hb (by unfold Wd;grind);rw[e1,e2]at s1;have s1:Sep (BA p a l bs N).fp w w1 (av p 388 (tP a l.length (bs.set j ⟨a',c',b.xs++[x],b.gone⟩))::(bs.map Bh).set j (Bh ⟨a',c',b.xs++[x],b.gone⟩)):=s1;rw[<-List.map_set]at s1;apply ah;refine dy s1 (i:=0) rfl rfl rfl (ah ?_);have hfl:=hr.nX;rw[aG];refine ax s1 (i:=0) rfl rfl rfl λw2 s2=>?_;have hlen:((l.length:Int)+1)=((l++[(k,x)]).length:Int):=by simp
   rw[hlen]at s2;refine hyes hkk w2 (bs.set j ⟨a',c',b.xs++[x],b.gone⟩) (Rz s hi s2 ?_);refine⟨by simp[hr.n],aqk hr.fit hkk.1 hkk.2,hr.nn,(by have:=hr.big;simp;omega),(by omega),o9,λj' b' hb'=>?_⟩;rw[anM];by_cases hjj:j=j'
   ·grind
   ·rw[List.getElem?_set_ne hjj]at hb';have:=hr.bk j' b' hb';grind
end
end Go.Proofs.YtmegplnmiepfbaaGreatDoor.S.Rg
namespace Go.Proofs.YtmegplnmiepfbaaGreatDoor.S.Rg
open Go.Sx
attribute [local irreducible] af cv bz bg aA cw bZ St Bx Al App cH cy cD bU aM bF aq bS av ak aW
section
variable {F:Nat->Prop}{W w:World}{L:List As}{i p:Nat}{a:Int}{l:List E}{bs:List Bk}{N:Nat}
def abK {k:Int}{Q:Bool->World->Prop}(s:Sep F W w L)(hi:L[i]? =some (BA p a l bs N))
  (hno:¬(l=[]/\a<=k/\k<=1099511627776)->Q false w)(hyes:l=[]/\a<=k/\k<=1099511627776->∀w' bs',Sep F W w' (L.set i (BA p k [] bs' N))->Q true w'):Ap (sZ p) k w Q:=by
 apply Sd;have hr:=H9 s hi;have s0:=NG s hi;have hnn:=hr.nn;refine FL (ah ?_);apply dy s0 (i:=0) rfl rfl rfl;by_cases h0:l=[]
 ·subst h0;rw[bh (by simp)];apply ah;apply dy s0 (i:=0) rfl rfl rfl;by_cases h1:k<a
  ·grind
  ·rw[bh h1];by_cases h2:k>1099511627776
   ·grind
   ·rw[bh h2];apply ah;refine ax s0 (i:=0) rfl rfl rfl λw1 s1=>?_;have s1:=s1;exact hyes ⟨rfl,by omega,by omega⟩ w1 bs (Rz s hi s1 ⟨hr.n,(λe he=>by cases he),by omega,(by simp;omega),hr.nX,hr.room,hr.bk⟩)
 simp_all
def agx {Q:Int->Int->Bool->World->Prop}(hr:Rel a l bs N){d:Nat}(hd:d<256)(SB:∀e∈l,a+d<=e.1)(hex:∃e∈l,e.1=a+d){w0:World}{G:Nat->Prop}
  (h:∀w' l1 x l2 bs',l=l1++(a+d,x)::l2->(∀e∈l1,a+d<e.1)->(∀e∈l2,a+d<=e.1)->Rel (a+d) (l1++l2) bs' N->Sep G w0 w' (SJ p (a+d) (l1++l2).length bs')->Q (a+d) x true w'):
  ∀(m e:Nat) (w:World),e+m=d->Sep G w0 w (SJ p (a+e) l.length bs)->p8 Q (m+1) (sZ p) w:=by
 have hnn:=hr.nn;have ahg:=hr.big;have aBa:=hr.nX;have azB:=hr.room;intro m;induction m with
 |zero=>
  intro e w he s;obtain rfl:e=d:=by omega
  show DS Q (p8 Q 0) _ _;obtain⟨j,hj⟩:∃j:Nat,(a+e)%256=(j:Int):=⟨((a+e)%256).toNat,by omega⟩;have abJ:j<256:=by omega
  obtain⟨b,hb⟩:∃b,bs[j]? =some b:=⟨_,List.getElem?_eq_getElem (by rw[hr.n];exact abJ)⟩;have hbk:=hr.bk j b hb;have hroom:=hr.room;have hkk:a<=a+e/\a+e<a+256:=by omega
  have hpn:tU l j≠[]:=λh0=>by obtain⟨x,hx,hxe⟩:=hex;exact(abI hr.fit hkk hj).1 h0 x hx hxe
  obtain⟨l1,x,l2,hl,g1,g2,g3,g4,g5⟩:=anN hr.fit hkk hj SB hpn;have hlt:b.gone<b.xs.length:=by grind
  have ea:((aZ p).add 2).add (((j:Int)).toNat*2)=⟨p,j*2+2,none⟩:=by rw[cu,cu,show((j:Int)).toNat=j from rfl];grind
  have em:Int.tmod (a+e) 256=(j:Int):=by grind
  have s0:Sep G w0 w.drew _:=s;apply ah;apply dy s0 (i:=0) rfl rfl rfl;rw[em];refine⟨by decide,ah ⟨by omega,by omega,?_⟩⟩;rw[ea];apply CA s0 (i:=0) rfl (ND hb) (OU hb);rw[show(((b.gone:Int))==(b.xs.length:Int))=false by grind,cond_false];have s1:=s;apply ah;refine dy s1 (i:=0) rfl rfl rfl (ah ?_);refine ax s1 (i:=0) rfl rfl rfl λw3 s3=>?_;have el:IntKind.wrap .i64 ((l.length:Int)-1)=((l1++l2).length:Int):=by rw[aG];grind
  rw[el]at s3;have s3:=s3;have s4:Sep G w0 w3.drew (SJ p (a+e) (l1++l2).length bs):=s3;apply ah;refine dy s4 (i:=0) rfl rfl rfl (ah ?_);apply dy s4 (i:=0) rfl rfl rfl;rw[em];refine⟨by decide,ah ⟨by omega,by omega,?_⟩⟩;rw[ea];have hx:b.xs[b.gone]? =some x:=by have:=congrArg (λq=>q[0]?) (hbk.1.trans g3);grind
  have abM:b.xs.drop (b.gone+1)=tU (l1++l2) j:=by have:=congrArg (List.drop 1) (hbk.1.trans g3);simpa[List.drop_drop]using this
  have rel:∀b':Bk,b'.xs.drop b'.gone=tU (l1++l2) j->b'.gone<=b'.xs.length->b'.xs.length<=N->Rel (a+e) (l1++l2) (bs.set j b') N:=by
   intro b' q1 q2 q3;refine⟨by simp[hr.n],g5,by omega,?_,?_,hroom,λj' b2 hb2=>?_⟩
   ·grind
   ·grind
   ·by_cases hjj:j=j'
    ·grind
    ·rw[List.getElem?_set_ne hjj]at hb2;rw[g4 j' (Ne.symm hjj)];exact hr.bk j' b2 hb2
  refine ZZ s4 (i:=0) (j:=j+1) rfl (ND hb) (OU hb) (by show(bs.map Bh)[j]? =_;exact LS hb) (by omega) (by omega) hx (λhg w5 s5=>?_) λhg w5 s5=>?_
  ·have e2:(tP (a+e) (l1++l2).length bs).set (j*2+2+1) (ae ((b.gone+1:Nat):Int))=tP (a+e) (l1++l2).length (bs.set j {b with gone:=b.gone+1}):=NF hb rfl;rw[e2]at s5;have e3:bs.map Bh=(bs.set j {b with gone:=b.gone+1}).map Bh:=by rw[List.map_set,show Bh {b with gone:=b.gone+1}=Bh b from rfl,rS (LS hb)]
   have s5:Sep G w0 w5 (av p 388 (tP (a+e) (l1++l2).length (bs.set j {b with gone:=b.gone+1}))::bs.map Bh):=s5;rw[e3]at s5;refine⟨cR s5 (i:=0) rfl rfl rfl,?_⟩;exact h w5 l1 x l2 _ hl g1 g2 (rel {b with gone:=b.gone+1} abM (show b.gone+1<=b.xs.length by omega) hbk.2.2) s5
  ·have e2:((tP (a+e) (l1++l2).length bs).set (j*2+2) (.slice b.a 0 b.c)).set (j*2+2+1) (ae ((0:Nat):Int))=tP (a+e) (l1++l2).length (bs.set j ⟨b.a,b.c,[],0⟩):=by
    have hjl:j<bs.length:=by grind
    rw[Tx (b':=⟨b.a,b.c,[],b.gone⟩) (v:=.slice b.a 0 b.c) hb rfl,NF (b:=⟨b.a,b.c,[],b.gone⟩) (b':=⟨b.a,b.c,[],0⟩) (List.getElem?_set_self hjl) rfl,h_]
   rw[e2]at s5;have e3:ak b.a 0 b.c 3 1 []=Bh ⟨b.a,b.c,[],0⟩:=rfl;have s5:Sep G w0 w5 (av p 388 (tP (a+e) (l1++l2).length (bs.set j ⟨b.a,b.c,[],0⟩))::(bs.map Bh).set j (Bh ⟨b.a,b.c,[],0⟩)):=s5;rw[<-List.map_set]at s5;refine⟨cR s5 (i:=0) rfl rfl rfl,?_⟩;refine h w5 l1 x l2 _ hl g1 g2 (rel _ ?_ (by simp) (by simp)) s5;grind
 |succ m ih=>
  intro e w he s;show DS Q (p8 Q (m+1)) _ _;obtain⟨j,hj⟩:∃j:Nat,(a+e)%256=(j:Int):=⟨((a+e)%256).toNat,by omega⟩;have abJ:j<256:=by omega
  obtain⟨b,hb⟩:∃b,bs[j]? =some b:=⟨_,List.getElem?_eq_getElem (by rw[hr.n];exact abJ)⟩;have hbk:=hr.bk j b hb;have hkk:a<=a+e/\a+e<a+256:=by omega
  have hpn:=(abI hr.fit hkk hj).2 λx hx hxe=>by grind
  have awf:b.gone=b.xs.length:=by have:=congrArg List.length hbk.1;grind
  have ea:((aZ p).add 2).add (((j:Int)).toNat*2)=⟨p,j*2+2,none⟩:=by rw[cu,cu,show((j:Int)).toNat=j from rfl];grind
  have em:Int.tmod (a+e) 256=(j:Int):=by grind
  have s0:Sep G w0 w.drew _:=s;apply ah;apply dy s0 (i:=0) rfl rfl rfl;rw[em];refine⟨by decide,ah ⟨by omega,by omega,?_⟩⟩;rw[ea];apply CA s0 (i:=0) rfl (ND hb) (OU hb);rw[awf,beq_self_eq_true,cond_true];have s1:=s;apply ah;refine dy s1 (i:=0) (j:=0) rfl rfl rfl (ah ?_);refine ax s1 (i:=0) (j:=0) rfl rfl rfl λw3 s3=>?_;rw[aG,show a+(e:Int)+1=a+((e+1:Nat):Int) by omega]at s3;exact ih (e+1) w3 (by omega) s3
def adT {Q:Int->Int->Bool->World->Prop}(s:Sep F W w L)(hi:L[i]? =some (BA p a l bs N))(h0:l=[]->Q 0 0 false w)
  (h1:∀w' k l1 x l2 bs',l=l1++(k,x)::l2->(∀e∈l1,k<e.1)->(∀e∈l2,k<=e.1)->Sep F W w' (L.set i (BA p k (l1++l2) bs' N))->Q k x true w'):Ba (sZ p) w Q:=by
 apply Uu;apply Di s hi;have hr:=H9 s hi;by_cases hl:l=[]
 ·grind
 ·have hpos:=List.length_pos_iff.2 hl;rw[show(((l.length:Int))==0)=false by grind,cond_false];obtain⟨d,hd,SB,hex⟩:=ajT hr.fit hl;have s0:=NG s hi;refine⟨d+1,agx (G:=(BA p a l bs N).fp) (w0:=w) hr hd SB hex (λw' l1 x l2 bs' q1 q2 q3 q4 s'=>?_) d 0 w (by omega) (by grind)⟩;exact h1 w' (a+d) l1 x l2 bs' q1 q2 q3 (Rz s hi s' q4)
def aih:Bk:=⟨none,0,[],0⟩
def QX {f:Int}{Q:Option Addr->World->Prop}(s:Sep F W w L)(hno:f<0\/f>1099511627776->Q none w)(hyes:0<=f/\f<=1099511627776->∀p w' bs,Sep F W w' (BA p f [] bs 0::L)->Q (sZ p) w'):C0 f w Q:=by
 apply adz;by_cases h1:f<0
 ·rw[bN h1];grind
 ·rw[bh h1];by_cases h2:f>1099511627776
  ·rw[bN h2];grind
  ·rw[bh h2];refine aQ s λp w1 s=>?_;have s2:=Tp s 3 1 256;have s3:=ck s2 List.perm_middle;have rel:Rel f [] (List.replicate 256 aih) 0:=by refine⟨List.length_replicate,(λe he=>by cases he),by omega,(by simp[List.length_nil];omega),Nat.le_refl _,by decide,λj b hb=>?_⟩;have:b=aih:=List.eq_of_mem_replicate (List.mem_of_getElem? hb);subst this;exact⟨rfl,Nat.le_refl _,Nat.le_refl _⟩
   have e1:(List.replicate 256 aih).map Bh=List.replicate 256 (ak none 0 0 3 1 []):=by rw[List.map_replicate];rfl
   apply hyes (by omega) p w1 (List.replicate 256 aih);have s4:Sep F W w1 (SJ p f ([]:List E).length (List.replicate 256 aih)++L):=by unfold SJ;exact av7 s3 (by kernel_rfl)
   exact dA s4 rel
end
end Go.Proofs.YtmegplnmiepfbaaGreatDoor.S.Rg
namespace Go.Proofs.YtmegplnmiepfbaaGreatDoor.S
open Go.Sx
def fD (ds:List Int)(l:Int):Int:=if 0<=l/\l<ds.length then gi ds l.toNat else cj
def GJ (ds:List Int):Nat:=ds.countP λd=>d==cj
def kc (x:bj):Int×Int:=(x.k,x.c)
def We {k:Int}(hk:k≠cj):∀{ds:List Int} {i:Nat},i<ds.length->gi ds i=cj->GJ (ds.set i k)+1=GJ ds
 |[],i,h,_=>by simp at h
 |d::ds,0,h,hd=>by have hd:d=cj:=hd;unfold GJ;grind
 |d::ds,i+1,h,hd=>by have ih:=We hk (i:=i) (by simpa using h) hd;unfold GJ at ih⊢;grind
def ax7 (ds:List Int):GJ ds<=ds.length:=List.countP_le_length
def auA {ds:List Int}{x k:Int}(hx:0<=x/\x<ds.length)(y:Int):fD (ds.set x.toNat k) y=if y=x then k else fD ds y:=by
 unfold fD;rw[List.length_set];by_cases hy:0<=y/\y<ds.length
 ·rw[if_pos hy,if_pos hy,aaQ (by omega)];omega
 grind
def SK {tw th l s:Int}(ht:1<=tw)(hh:1<=th)(hl:0<=l/\l<tw*th)(h0:0<=bO tw th l s):bO tw th l s<tw*th/\∃s',(0<=s'/\s'<=3)/\bO tw th (bO tw th l s) s'=l:=by
 obtain⟨i0,i1⟩:0<=l%tw/\l%tw<tw:=⟨Int.emod_nonneg _ (by omega),Int.emod_lt_of_pos _ (by omega)⟩;obtain⟨j0,j1⟩:0<=l/tw/\l/tw<th:=⟨Int.ediv_nonneg hl.1 (by omega),Int.ediv_lt_of_lt_mul (by omega) (by grind)⟩;have hle:l=l/tw*tw+l%tw:=by have:=Int.mul_ediv_add_emod l tw;grind
 have jO:∀i j,0<=i/\i<tw->0<=j/\j<th->j*tw+i<tw*th:=λi j hi hj=>by have:=Int.mul_le_mul_of_nonneg_right (show j+1<=th by omega) (show 0<=tw by omega);grind
 unfold bO at h0;by_cases s0:s=0
 ·subst s0;by_cases q:l/tw>0
  ·have e:bO tw th l 0=(l/tw-1)*tw+l%tw:=by unfold bO;grind
   rw[e];refine⟨jO _ _ ⟨i0,i1⟩ (by omega),2,by decide,?_⟩;obtain⟨d1,d2⟩:=rT (y:=l/tw-1) ⟨i0,i1⟩;unfold bO;grind
  omega
 by_cases s1:s=1
 ·subst s1;by_cases q:l%tw<tw-1
  ·have e:bO tw th l 1=l/tw*tw+(l%tw+1):=by unfold bO;omega
   rw[e];refine⟨jO _ _ (by omega) ⟨j0,j1⟩,3,by decide,?_⟩;obtain⟨d1,d2⟩:=rT (x:=l%tw+1) (w:=tw) (y:=l/tw) (by omega);unfold bO;omega
  omega
 by_cases s2:s=2
 ·subst s2;by_cases q:l/tw<th-1
  ·have e:bO tw th l 2=(l/tw+1)*tw+l%tw:=by unfold bO;grind
   rw[e];refine⟨jO _ _ ⟨i0,i1⟩ (by omega),0,by decide,?_⟩;obtain⟨d1,d2⟩:=rT (y:=l/tw+1) ⟨i0,i1⟩;unfold bO;grind
  omega
 by_cases s3:s=3
 ·subst s3;by_cases q:l%tw>0
  ·have e:bO tw th l 3=l/tw*tw+(l%tw-1):=by unfold bO;omega
   rw[e];refine⟨jO _ _ (by omega) ⟨j0,j1⟩,1,by decide,?_⟩;obtain⟨d1,d2⟩:=rT (x:=l%tw-1) (w:=tw) (y:=l/tw) (by omega);unfold bO;omega
  omega
 omega
def lj (tw th:Int)(cs ds:List Int)(key x:Int)(j:Nat):List (Int×Int):=(List.range j).filterMap λs:Nat=>
 if 0<=bO tw th x s/\gi cs (bO tw th x s).toNat≠255/\gi ds (bO tw th x s).toNat=cj then some (key,bO tw th x s)else none
def abN (tw th:Int)(cs ds:List Int)(key x s:Int):List (Int×Int):=if 0<=bO tw th x s/\gi cs (bO tw th x s).toNat≠255/\gi ds (bO tw th x s).toNat=cj then[(key,bO tw th x s)]else[]
def abO (tw th:Int)(cs ds:List Int)(key x:Int)(j:Nat):lj tw th cs ds key x (j+1)=lj tw th cs ds key x j++abN tw th cs ds key x j:=by unfold lj abN;rw[List.range_succ,List.filterMap_append];grind
def Wf (tw th:Int)(cs ds:List Int)(key x:Int)(j:Nat):(lj tw th cs ds key x j).length<=j:=by have:=List.length_filterMap_le (λs:Nat=>if 0<=bO tw th x s/\gi cs (bO tw th x s).toNat≠255/\gi ds (bO tw th x s).toNat=cj then some (key,bO tw th x s)else none) (List.range j);rw[List.length_range]at this;exact this
def afe {tw th:Int}{cs ds:List Int}{key x:Int}{e:Int×Int}:e∈lj tw th cs ds key x 4↔∃s:Int,(0<=s/\s<=3)/\(0<=bO tw th x s/\gi cs (bO tw th x s).toNat≠255/\gi ds (bO tw th x s).toNat=cj)/\e=(key,bO tw th x s):=by
 rw[lj,List.mem_filterMap];constructor
 ·grind
 ·rintro ⟨s,h1,h2,rfl⟩;refine⟨s.toNat,List.mem_range.2 (by omega),?_⟩;grind
structure CB (tw th:Int) (cs:List Int) (xs:List bj) (a:Int) (l:List (Int×Int)) (N:Nat) (todo:List bj) (ds:List Int):Prop where
 len:ds.length=cs.length
 dj:Pg (Nz xs) (Iw tw th cs) (fD ds) (l++todo.map kc)
 Em:∀e∈l++todo.map kc,Iv cs e.2
 top:∀e∈l++todo.map kc,e.1+254*(GJ ds:Int)<=1073741824+254*(cs.length:Int)
 NH:todo.Pairwise λa b=>a.k<=b.k
 low:∀x∈todo,a<=x.k
 fe:N+todo.length+4*GJ ds<=xs.length+4*cs.length
section
variable {tw th:Int}{cs ds:List Int}{xs todo:List bj}{a:Int}{l:List (Int×Int)}{N:Nat}
def aij (hcs:∀x∈cs,1<=x/\x<256):∀x n c,Iw tw th cs x n c->0<=c:=λx n c h=>by rw[h.2.2.2];have:=hcs _ (fG (i:=n.toNat) (by have:=h.2.1;unfold Iv at this;omega));omega
def CB.take {x:bj}(h:CB tw th cs xs a l N (x::todo) ds):CB tw th cs xs a (l++[kc x]) (N+1) todo ds:=by
 have e:l++(x::todo).map kc=(l++[kc x])++todo.map kc:=by simp
 have h1:=h.dj;have h2:=h.Em;have h3:=h.top;have h4:=h.fe;rw[e]at h1 h2 h3;simp[List.length_cons]at h4;exact⟨h.len,h1,h2,h3,(List.pairwise_cons.1 h.NH).2,λy hy=>h.low y (by simp[hy]),by omega⟩
def CB.jump {x:bj}(h:CB tw th cs xs a l N (x::todo) ds):CB tw th cs xs x.k l N (x::todo) ds:=
 ⟨h.len,h.dj,h.Em,h.top,h.NH,λy hy=>by
  rcases List.mem_cons.1 hy with rfl|hy
  ·grind
  ·exact(List.pairwise_cons.1 h.NH).1 y hy,h.fe⟩
def CB.skip {k x:Int}{l1 l2:List (Int×Int)}(h:CB tw th cs xs a (l1++(k,x)::l2) N todo ds)(hx:fD ds x<cj)(hk:∀y∈todo,k<=y.k):CB tw th cs xs k (l1++l2) N todo ds:=by
 have hm:∀e∈(l1++l2)++todo.map kc,e∈(l1++(k,x)::l2)++todo.map kc:=λe he=>by grind
 exact⟨h.len,h.dj.skip (k:=k) hx hm λe he=>by grind,λe he=>h.Em e (hm e he),λe he=>h.top e (hm e he),h.NH,hk,h.fe⟩
def CB.step {k x:Int}{l1 l2:List (Int×Int)}{M:Nat}(hcs:∀x∈cs,1<=x/\x<256)(hw:1<=tw)(hh:1<=th)(hlen:(cs.length:Int)=tw*th)(wm:cs.length<=256)(h:CB tw th cs xs a (l1++(k,x)::l2) N todo ds)(hx:gi ds x.toNat=cj)
  (hmin:∀e∈l1++l2,k<=e.1)(hk:∀y∈todo,k<=y.k)(hM:M=N+(lj tw th cs (ds.set x.toNat k) (k+gi cs x.toNat) x 4).length):
  CB tw th cs xs k ((l1++l2)++lj tw th cs (ds.set x.toNat k) (k+gi cs x.toNat) x 4) M todo (ds.set x.toNat k):=by
 have hin:(k,x)∈(l1++(k,x)::l2)++todo.map kc:=by simp
 have I_:=h.Em _ hin;have hxr:0<=x/\x<ds.length:=by rw[h.len];exact⟨I_.1,I_.2.1⟩
 have Z0:=h.top _ hin;have hkI:k<cj:=by unfold cj;omega
 have Z1:∀y,fD (ds.set x.toNat k) y=if y=x then k else fD ds y:=auA hxr
 have vH:=We (k:=k) (by omega) (by omega) hx;have hbound:∀e∈(l1++(k,x)::l2)++todo.map kc,k<=e.1:=λe he=>by
  simp only[List.mem_append,List.mem_cons,List.mem_map]at he;rcases he with(he|rfl|he)|⟨y,hy,rfl⟩
  ·grind
  ·grind
  ·grind
  ·exact hk y hy
 have hcx:=hcs _ (fG (i:=x.toNat) (by rw[<-h.len];omega));have hfx:¬fD ds x<cj:=by unfold fD;grind
 have auC:∀e∈((l1++l2)++lj tw th cs (ds.set x.toNat k) (k+gi cs x.toNat) x 4)++todo.map kc,e∈(l1++(k,x)::l2)++todo.map kc\/e∈lj tw th cs (ds.set x.toNat k) (k+gi cs x.toNat) x 4:=λe he=>by grind
 have ax8:∀e∈lj tw th cs (ds.set x.toNat k) (k+gi cs x.toNat) x 4,Iv cs e.2/\e.1=k+gi cs x.toNat/\Iw tw th cs e.2 x (gi cs x.toNat):=λe he=>by obtain⟨s,hs,⟨h1,h2,h3⟩,rfl⟩:=afe.1 he;have hr:=SK hw hh (by rw[<-hlen,<-h.len];exact hxr) h1;have ho:Iv cs (bO tw th x s):=⟨h1,by grind,h2⟩;exact⟨ho,rfl,ho,I_,hr.2,rfl⟩
 refine⟨by rw[List.length_set];exact h.len,?_,?_,?_,h.NH,hk,?_⟩
 ·refine h.dj.step (aij hcs) hfx hkI hin hbound (by grind) (λy hy=>by grind) ?_ ?_ ?_
  ·grind
  ·grind
  ·rintro y c ⟨h1,h2,⟨s,hs,h3⟩,rfl⟩;by_cases hy:fD (ds.set x.toNat k) y<cj
   ·exact .inl hy
   ·refine .inr ⟨k+gi cs x.toNat,Int.le_refl _,?_⟩;have hr:=SK (s:=s) hw hh (by rw[<-hlen];exact⟨h1.1,h1.2.1⟩) (by grind);rw[h3]at hr;obtain⟨s',hs',h4⟩:=hr.2;rw[List.mem_append,List.mem_append];refine .inl (.inr (afe.2 ⟨s',hs',?_,by rw[h4]⟩));rw[h4];refine⟨h1.1,h1.2.2,?_⟩;have Ty:0<=y/\y<(ds.set x.toNat k).length:=by rw[List.length_set,h.len];exact⟨h1.1,h1.2.1⟩
    have hz:fD (ds.set x.toNat k) y=cj:=by
     rw[Z1]at hy⊢;by_cases e:y=x
     ·omega
     ·rw[if_neg e]at hy⊢;exact h.dj.none y hy
    unfold fD at hz;grind
 ·intro e he;rcases auC e he with h1|h1
  ·exact h.Em e h1
  grind
 ·intro e he;rcases auC e he with h1|h1
  ·have:=h.top e h1;omega
  ·have:=(ax8 e h1).2.1;have:gi cs x.toNat≠255:=I_.2.2;omega
 ·have h1:=Wf tw th cs (ds.set x.toNat k) (k+gi cs x.toNat) x 4;have h2:=h.fe;omega
def anR (hok:r9 tw th cs xs=true){zs:List bj}(hz:∀x,x∈zs↔x∈xs)(hzl:zs.length=xs.length)(hzs:zs.Pairwise λa b=>a.k<=b.k):CB tw th cs xs 0 [] 0 zs (List.replicate cs.length cj):=by
 have hf:∀x,fD (List.replicate cs.length cj) x=cj:=λx=>by
  unfold fD;split
  ·rename_i h;unfold gi;grind
  ·rfl
 have hu:GJ (List.replicate cs.length cj)=cs.length:=by rw[GJ,List.countP_replicate,if_pos (by decide)]
 unfold r9 at hok;rw[Bool.and_eq_true,List.all_eq_true]at hok;have alC:∀x∈zs,Iv cs x.c/\0<=x.k/\x.k<=1073741824:=λx hx=>by have:=hok.2 x ((hz x).1 hx);unfold Az at this;simp[Bool.and_eq_true,decide_eq_true_iff,bne_iff_ne]at this;exact⟨⟨this.1.1,this.1.2,this.2.1⟩,this.2.2.1⟩
 refine⟨by simp,⟨?_,?_,?_,?_,?_,?_⟩,?_,?_,hzs,λx hx=>(alC x hx).2.1,by omega⟩
 ·intro e he;obtain⟨y,hy,rfl⟩:=List.mem_map.1 he;exact .src ⟨y,(hz y).1 hy,rfl,rfl⟩
 ·grind
 ·grind
 ·rintro x k ⟨y,hy,rfl,rfl⟩;exact .inr ⟨y.k,Int.le_refl _,by rw[List.nil_append];exact List.mem_map.2 ⟨y,(hz y).2 hy,rfl⟩⟩
 ·grind
 ·grind
 ·intro e he;obtain⟨y,hy,rfl⟩:=List.mem_map.1 he;exact(alC y hy).1
 ·intro e he;obtain⟨y,hy,rfl⟩:=List.mem_map.1 he;have:=(alC y hy).2;show y.k+_<=_;omega
noncomputable def jB (tw th:Int)(cs:List Int)(xs:List bj):List Int:=(List.range cs.length).map λl:Nat=>LQ tw th cs xs l
def CB.done (h:CB tw th cs xs a [] N [] ds):ds=jB tw th cs xs:=by
 have h1:=h.dj;have h2:∀x,gO (Nz xs) (Iw tw th cs) x=fD ds x:=λx=>Pg.done (by grind) x;refine U2 (by unfold jB;rw[List.length_map,List.length_range,h.len]) λi hi=>?_;rw[jB,show gi ((List.range cs.length).map λl:Nat=>LQ tw th cs xs l) i=LQ tw th cs xs i from ?_]
 ·rw[LQ,h2];unfold fD;grind
 ·rw[gi,List.getD_eq_getElem?_getD,List.getElem?_map,List.getElem?_range (by rw[<-h.len];exact hi)];rfl
end
end Go.Proofs.YtmegplnmiepfbaaGreatDoor.S
namespace Go.Proofs.YtmegplnmiepfbaaGreatDoor.S
open Go.Sx
open Go.Sort (swp)
attribute [local irreducible] af cv bz bg aA cw bZ St Bx Al App cH cy cD bU aM bF aq bS av ak aW mapA
noncomputable abbrev iQ:Value:=.func (.func 197) #[] #[]
abbrev c_ (a:Option Addr)(n c:Nat)(d:Array bj):As:=ak a n c 294 3 (flat fW d.toList)
section
variable {F:Nat->Prop}{W w w0:World}{L:List As}{a:Option Addr}{n c:Nat}{d:Array bj}
def gy (s:Sep F W w (c_ a n c d::L)):d.size=n:=by have:=(aK s (i:=0) rfl nI (by decide)).len;grind
def Xf {k:Nat}(h:k<d.size):d.toList[k]? =some d[k]!:=by grind
def RdS {idx:Int}{k:Nat}{K:Int->Int->Int->Prop}(s:Sep F W w (c_ a n c d::L))(hk:idx=k)(hn:k<d.size)(h:K d[k]!.c d[k]!.s d[k]!.k):
  aH idx n (wA a λp=>af .i64 ((p.add (idx.toNat*3)).add 0) w λx=>af .i64 ((p.add (idx.toNat*3)).add 1) w λy=>af .i64 ((p.add (idx.toNat*3)).add 2) w λz=>K x y z):=
 (aK s (i:=0) rfl nI (by decide)).El hk (by rw[<-gy s];exact hn) λp x hx hc=>by rw[Xf hn]at hx;cases hx;exact aO (hc 0 _ rfl) (aO (hc 1 _ rfl) (aO (hc 2 _ rfl) h))
def WrS {idx:Int}{k:Nat}{x:bj}{K:World->Prop}(s:Sep F W w (c_ a n c d::L))(hk:idx=k)(hn:k<d.size)(h:∀w',Sep F W w' (c_ a n c (d.setIfInBounds k x)::L)->K w'):
  aH idx n (wA a λp=>St ((p.add (idx.toNat*3)).add 0) (ae x.c) w λw=>St ((p.add (idx.toNat*3)).add 1) (ae x.s) w λw=>St ((p.add (idx.toNat*3)).add 2) (ae x.k) w λw=>K w):=by
 have hsz:=gy s;subst hk;have hg:=Xf hn;refine CR s (i:=0) rfl rfl (by omega) λg o ha=>?_;subst ha;have ad:∀j,(((⟨g,o,none⟩:Addr).add ((k:Int).toNat*3)).add j)=⟨g,o+(k*3+j),none⟩:=λj=>by rw[add_add,cu,Int.toNat_natCast]
 refine dX (x':=⟨x.c,d[k]!.s,d[k]!.k⟩) nI s (i:=0) rfl hg (ad 0) (by decide) rfl rfl λw s=>?_;refine dX (x:=⟨x.c,d[k]!.s,d[k]!.k⟩) (x':=⟨x.c,x.s,d[k]!.k⟩) nI s (i:=0) rfl (by grind) (ad 1) (by decide) rfl rfl λw s=>?_;refine dX (x:=⟨x.c,x.s,d[k]!.k⟩) (x':=x) nI s (i:=0) rfl (by grind) (ad 2) (by decide) rfl rfl λw s=>?_;simp[List.set_cons_zero,List.set_set]at s;grind
def GK {m:Nat}{i j:Int}{p q:Nat}{K:Int->World->Prop}(s:Sep F W w (c_ a n c d::L))(hi:i=p)(hp:p<d.size)(hj:j=q)(hq:q<d.size)(h:∀w',Sep F W w' (c_ a n c d::L)->K (ah9 d[p]! d[q]!) w'):
  aH i n (wA a λp=>af .i64 ((p.add (i.toNat*3)).add 0) w λx=>af .i64 ((p.add (i.toNat*3)).add 1) w λy=>af .i64 ((p.add (i.toNat*3)).add 2) w λz=>
  aH j n (wA a λp=>af .i64 ((p.add (j.toNat*3)).add 0) w λx'=>af .i64 ((p.add (j.toNat*3)).add 1) w λy'=>af .i64 ((p.add (j.toNat*3)).add 2) w λz'=>
  iv (cx m) iQ [.agg #[ae x,ae y,ae z],.agg #[ae x',ae y',ae z']] w λv w'=>dI .i64 v λr=>K r w')):=
 RdS (K:=λx y z=>aH j n (wA a λp=>af .i64 ((p.add (j.toNat*3)).add 0) w λx'=>af .i64 ((p.add (j.toNat*3)).add 1) w λy'=>af .i64 ((p.add (j.toNat*3)).add 2) w λz'=>
  iv (cx m) iQ [.agg #[ae x,ae y,ae z],.agg #[ae x',ae y',ae z']] w λv w'=>dI .i64 v λr=>K r w')) s hi hp
  (RdS s hj hq
   (ajQ (X_ s λw' s' _=>h w' s')))
def DZ {i j:Int}{p q:Nat}{K:World->Prop}(s:Sep F W w (c_ a n c d::L))(hi:i=p)(hp:p<d.size)(hj:j=q)(hq:q<d.size)(h:∀w',Sep F W w' (c_ a n c (swp d p q)::L)->K w'):
  aH j n (wA a λp=>af .i64 ((p.add (j.toNat*3)).add 0) w λx=>af .i64 ((p.add (j.toNat*3)).add 1) w λy=>af .i64 ((p.add (j.toNat*3)).add 2) w λz=>
  aH i n (wA a λp=>af .i64 ((p.add (i.toNat*3)).add 0) w λx'=>af .i64 ((p.add (i.toNat*3)).add 1) w λy'=>af .i64 ((p.add (i.toNat*3)).add 2) w λz'=>
  aH i n (wA a λp=>St ((p.add (i.toNat*3)).add 0) (ae x) w λw=>St ((p.add (i.toNat*3)).add 1) (ae y) w λw=>St ((p.add (i.toNat*3)).add 2) (ae z) w λw=>
  aH j n (wA a λp=>St ((p.add (j.toNat*3)).add 0) (ae x') w λw=>St ((p.add (j.toNat*3)).add 1) (ae y') w λw=>St ((p.add (j.toNat*3)).add 2) (ae z') w λw=>K w)))):=by
 refine RdS (K:=λx y z=>aH i n (wA a λp=>af .i64 ((p.add (i.toNat*3)).add 0) w λx'=>af .i64 ((p.add (i.toNat*3)).add 1) w λy'=>af .i64 ((p.add (i.toNat*3)).add 2) w λz'=>
  aH i n (wA a λp=>St ((p.add (i.toNat*3)).add 0) (ae x) w λw=>St ((p.add (i.toNat*3)).add 1) (ae y) w λw=>St ((p.add (i.toNat*3)).add 2) (ae z) w λw=>
  aH j n (wA a λp=>St ((p.add (j.toNat*3)).add 0) (ae x') w λw=>St ((p.add (j.toNat*3)).add 1) (ae y') w λw=>St ((p.add (j.toNat*3)).add 2) (ae z') w λw=>K w)))) s hj hq ?_
 refine RdS (K:=λx' y' z'=>aH i n (wA a λp=>St ((p.add (i.toNat*3)).add 0) (ae d[q]!.c) w λw=>St ((p.add (i.toNat*3)).add 1) (ae d[q]!.s) w λw=>St ((p.add (i.toNat*3)).add 2) (ae d[q]!.k) w λw=>
  aH j n (wA a λp=>St ((p.add (j.toNat*3)).add 0) (ae x') w λw=>St ((p.add (j.toNat*3)).add 1) (ae y') w λw=>St ((p.add (j.toNat*3)).add 2) (ae z') w λw=>K w))) s hi hp ?_
 refine WrS (K:=λw=>aH j n (wA a λp_1=>St ((p_1.add (j.toNat*3)).add 0) (ae d[p]!.c) w λw=>St ((p_1.add (j.toNat*3)).add 1) (ae d[p]!.s) w λw=>St ((p_1.add (j.toNat*3)).add 2) (ae d[p]!.k) w λw=>K w)) s hi hp λw s=>?_;exact WrS s hj (by grind) h
end
end Go.Proofs.YtmegplnmiepfbaaGreatDoor.S
namespace Go.Proofs.YtmegplnmiepfbaaGreatDoor.S
open Go.Sx
open Go.Sort (swp insInner insOuter insertionSort siftDown heapBuild heapPop heapSort)
attribute [local irreducible] af cv bz bg aA cw bZ St Bx Al App cH cy cD bU aM bF aq bS av ak aW mapA
section
variable {F:Nat->Prop}{W w w0:World}{L:List As}{a:Option Addr}{n c:Nat}{d:Array bj}
def anS {P1:Option Addr->Nat->Nat->Int->Int->Value->Int->World->Prop}{Q:World->Prop}{lo:Nat}{b:Int}{i:Nat}(hn:n<1000000)(hi:i<1000000)
  (h:∀d' w',d'.size=n->Sep F W w' (c_ a n c d'::L)->(d'=insInner cQ lo i d)->P1 a n c lo b iQ ((i+1:Nat):Int) w'):
  ∀(j:Nat) (d1:Array bj) (w:World),j<n->insInner cQ lo j d1=insInner cQ lo i d->Sep F W w (c_ a n c d1::L)->eU P1 Q (j+1) a n c lo b iQ i j w:=by
 intro j;induction j with
 |zero=>
  intro d1 w hj he s;show fQ P1 Q (eU P1 Q 0) _ _ _ _ _ _ _ _ _;rw[fQ,bh,aG];exact h d1 _ (gy s) (ay s) he
 |succ j ih=>
  intro d1 w hj he s;have hsz:=gy s;show fQ P1 Q (eU P1 Q (j+1)) _ _ _ _ _ _ _ _ _;unfold fQ;rw[insInner]at he;by_cases hl:j+1>lo
  ·rw[bN (show((j+1:Nat):Int)>lo by omega),aG];rw[decide_eq_true hl,Bool.true_and]at he;refine GK (q:=j) (ay s) rfl (by omega) (by omega) (by omega) λw s=>?_;show cond (cQ d1[j+1]! d1[j]!) _ _;by_cases hc:cQ d1[j+1]! d1[j]! =true
   ·rw[hc,cond_true];refine DZ (q:=j) (ay s) rfl (by omega) (by omega) (by omega) λw s=>?_;grind
   ·rw[Bool.not_eq_true]at hc;rw[hc,cond_false,aG];grind
  ·rw[bh (show¬((j+1:Nat):Int)>lo by omega),aG];rw[decide_eq_false hl,Bool.false_and,if_neg (by decide)]at he;exact h d1 _ hsz (ay s) he
def anT {Q:World->Prop}{lo b:Nat}(hn:n<1000000)(hb:b<=n)(h:∀w',Sep F W w' (c_ a n c (insertionSort cQ d lo b)::L)->Q w'):
  ∀(j i:Nat) (d1:Array bj) (w:World),i+j=b+1\/b<i/\j=0->insOuter cQ lo b i d1=insertionSort cQ d lo b->Sep F W w (c_ a n c d1::L)->eV Q (j+1) a n c lo b iQ i w:=by
 intro j;induction j with
 |zero=>
  intro i d1 w hi he s;show fR Q (eV Q 0) _ _ _ _ _ _ _ _;unfold fR;rw[insOuter,fU]at he;grind
 |succ j ih=>
  intro i d1 w hi he s;show fR Q (eV Q (j+1)) _ _ _ _ _ _ _ _;unfold fR;rw[insOuter]at he;by_cases hib:i<b
  ·rw[bN];rw[if_pos hib]at he;refine⟨i+1,anS hn (by omega) (λd' w' hs' s' e=>?_) i d1 w (by omega) rfl s⟩;subst e;exact ih (i+1) _ w' (by omega) he s'
  grind
def Hv {Q:World->Prop}{lo b:Nat}(s:Sep F W w (c_ a n c d::L))(hn:n<1000000)(hlo:lo<=b)(hb:b<=n)(h:∀w',Sep F W w' (c_ a n c (insertionSort cQ d lo b)::L)->Q w'):
  jP a n c lo b iQ w Q:=by
 apply zv;rw[aG];exact⟨b-lo+1,anT hn hb h (b-lo) (lo+1) d w (by omega) rfl s⟩
def anU {Q:World->Prop}{hi first:Nat}(hn:n<1000000)(hh:first+hi<=n){d0:Array bj}(h:∀w',Sep F W w' (c_ a n c d0::L)->Q w'):
  ∀(j root:Nat) (d1:Array bj) (w:World),hi<=root+j->root<n->siftDown cQ hi first root d1=d0->Sep F W w (c_ a n c d1::L)->eX Q (j+1) a n c hi first iQ root w:=by
 intro j;induction j with
 |zero=>
  intro root d1 w hj hr he s;show gU Q (eX Q 0) _ _ _ _ _ _ _ _;rw[gU,aG (n:=2*(root:Int)),aG,bN];rw[siftDown,dif_pos (by omega)]at he;grind
 |succ j ih=>
  intro root d1 w hj hr he s;have hsz:=gy s;show gU Q (eX Q (j+1)) _ _ _ _ _ _ _ _;rw[gU,aG (n:=2*(root:Int)),aG];rw[siftDown]at he;by_cases h1:2*root+1≥hi
  ·grind
  rw[bh,aG,aG,aG];rw[dif_neg h1]at he;have b5:∀(ch:Nat) (w:World),root<ch->ch<hi->Sep F W w (c_ a n c d1::L)->(if(!cQ d1[first+root]! d1[first+ch]!)=true then d1 else siftDown cQ hi first ch (swp d1 (first+root) (first+ch)))=d0->
    fJ (eX Q (j+1)) Q a n c hi first iQ root ch w:=λch w aBC hch s he=>by
   rw[fJ,aG,aG];refine GK (p:=first+root) (q:=first+ch) (ay s) (by omega) (by omega) (by omega) (by omega) λw s=>?_;show cond (!cQ d1[first+root]! d1[first+ch]!) _ _;by_cases hc:cQ d1[first+root]! d1[first+ch]! =true
   ·rw[hc,Bool.not_true,cond_false];refine DZ (p:=first+root) (q:=first+ch) (ay s) (by omega) (by omega) (by omega) (by omega) λw s=>?_;grind
   grind
  have e1:(2*(root:Int)+1)=((2*root+1:Nat):Int):=by omega
  have e2:(2*(root:Int)+1+1)=((2*root+2:Nat):Int):=by omega
  rw[e2];by_cases h2:2*root+2<hi
  ·rw[bN (show((2*root+2:Nat):Int)<hi by omega)];refine GK (p:=first+(2*root+1)) (q:=first+(2*root+1)+1) (ay s) (by omega) (by omega) (by omega) (by omega) λw s=>?_;show cond (cQ d1[first+(2*root+1)]! d1[first+(2*root+1)+1]!) _ _;by_cases hc:cQ d1[first+(2*root+1)]! d1[first+(2*root+1)+1]! =true
   ·rw[hc,cond_true];apply b5 (2*root+2) w (by omega) h2 s;grind
   ·rw[Bool.not_eq_true]at hc;rw[hc,cond_false,e1];rw[if_neg (by grind)]at he;exact b5 (2*root+1) w (by omega) (by omega) s he
  ·rw[bh (show¬((2*root+2:Nat):Int)<hi by omega),e1];rw[if_neg (by grind)]at he;exact b5 (2*root+1) _ (by omega) (by omega) (ay s) he
def QY {Q:World->Prop}{lo hi first:Nat}(s:Sep F W w (c_ a n c d::L))(hn:n<1000000)(hh:first+hi<=n)(hlo:lo<n)(h:∀w',Sep F W w' (c_ a n c (siftDown cQ hi first lo d)::L)->Q w'):
  jb a n c lo hi first iQ w Q:=by
 apply BI;exact⟨hi+1,anU hn hh h hi lo d w (by omega) hlo rfl s⟩
def aql {Q:World->Prop}{first:Nat}(hn:n<1000000){d0:Array bj}(h:∀w',Sep F W w' (c_ a n c d0::L)->Q w'):
  ∀(k:Nat) (d1:Array bj) (w:World),first+k<=n->heapPop cQ first k d1=d0->Sep F W w (c_ a n c d1::L)->fK Q (k+1) a n c iQ first 0 ((k:Int)-1) w:=by
 intro k;induction k with
 |zero=>
  intro d1 w hk he s;show gV Q (fK Q 0) _ _ _ _ _ _ _ _;unfold gV;rw[heapPop]at he;grind
 |succ k ih=>
  intro d1 w hk he s;have hsz:=gy s;show gV Q (fK Q (k+1)) _ _ _ _ _ _ _ _;rw[gV,show((k+1:Nat):Int)-1=(k:Int) by omega,bN,aG,aG];rw[heapPop]at he;refine DZ (p:=first) (q:=first+k) (ay s) (by omega) (by omega) (by omega) (by omega) λw s=>?_;refine QY (lo:=0) s hn (by omega) (by omega) λw s=>?_;grind
def alD {Q:World->Prop}{first hi:Nat}(hn:n<1000000)(hh:first+hi<=n){d0:Array bj}(h:∀w',Sep F W w' (c_ a n c d0::L)->Q w'):
  ∀(k:Nat) (d1:Array bj) (w:World),k<=hi->heapPop cQ first hi (heapBuild cQ hi first k d1)=d0->Sep F W w (c_ a n c d1::L)->fL Q (k+1) a n c iQ first 0 hi ((k:Int)-1) w:=by
 intro k;induction k with
 |zero=>
  intro d1 w hk he s;show gW Q (fL Q 0) _ _ _ _ _ _ _ _ _;rw[gW,bh,aG];exact⟨hi+1,aql hn h hi d1 w hh he s⟩
 |succ k ih=>
  intro d1 w hk he s;show gW Q (fL Q (k+1)) _ _ _ _ _ _ _ _ _;rw[gW,show((k+1:Nat):Int)-1=(k:Int) by omega,bN,aG];rw[heapBuild]at he;refine QY s hn hh (by omega) λw s=>?_;grind
def adU {Q:World->Prop}{lo b:Nat}(s:Sep F W w (c_ a n c d::L))(hn:n<1000000)(hlo:lo<b)(hb:b<=n)(h:∀w',Sep F W w' (c_ a n c (heapSort cQ d lo b)::L)->Q w'):
  lU a n c lo b iQ w Q:=by
 apply BJ;refine⟨by decide,?_⟩;rw[aG,aG (n:=(b:Int)-lo-1),Int.tdiv_eq_ediv_of_nonneg (by omega),aG,
  show(b:Int)-lo=((b-lo:Nat):Int) by omega]
 have:=alD hn (by omega) h ((b-lo-1)/2+1) d w (by omega) rfl s;grind
end
end Go.Proofs.YtmegplnmiepfbaaGreatDoor.S
namespace Go.Proofs.YtmegplnmiepfbaaGreatDoor.S
open Go.Sx
open Go.Sort (swp scanUp scanDown partLoop partition partEqLoop partitionEqual)
attribute [local irreducible] af cv bz bg aA cw bZ St Bx Al App cH cy cD bU aM bF aq bS av ak aW mapA
section
variable {F:Nat->Prop}{W w w0:World}{L:List As}{a:Option Addr}{n c:Nat}{d:Array bj}
def oV {α:Type}(A B:α):(if false=true then A else B)=B:=rfl
def Wg {α:Type}(A B:α):(if true=true then A else B)=A:=rfl
def up_eq (p:bj->Bool)(d:Array bj)(j i:Nat):scanUp p d j i=if(decide (i<=j)&&p d[i]!)=true then scanUp p d j (i+1)else i:=by rw[scanUp]
def down_eq (p:bj->Bool)(d:Array bj)(i j:Nat)(hi:1<=i):scanDown p d i j=if(decide (i<=j)&&p d[j]!)=true then scanDown p d i (j-1)else j:=by
 cases j with
 |zero=>rw[scanDown,decide_eq_false (by omega),Bool.false_and,oV]
 |succ j=>rw[scanDown];rfl
def anV {Q:Int->Bool->World->Prop}{lo:Nat}(hn:n<1000000){R:Nat×Array bj}(h:∀w',R.1<n->Sep F W w' (c_ a n c (swp R.2 R.1 lo)::L)->Q R.1 false w'):
  ∀(f i j:Nat) (d:Array bj) (w:World),j+1<=i+f->lo<i->lo<=j->j<n->i<=n->partLoop cQ lo i j d=R->Sep F W w (c_ a n c d::L)->dh Q (f+1) a n c lo iQ i j w:=by
 intro f;induction f with
 |zero=>
  intro i j d w hf hlo hj0 hj hi hR s;have hsz:=gy s;rw[Go.Sort.partLoop_eq]at hR;rw[up_eq,decide_eq_false (by omega),Bool.false_and,oV,down_eq _ _ _ _ (by omega),decide_eq_false (by omega),Bool.false_and,oV,AP]at hR;subst hR;show gA Q (dh Q 0) _ _ _ _ _ _ _ _;rw[gA,bh];refine⟨1,?_⟩;show eC _ Q (dg _ Q 0) _ _ _ _ _ _ _ _;rw[eC,bh];rw[fm,bN];exact DZ (ay (ay (ay s))) rfl (by omega) rfl (by omega) λw s=>h w hj s
 |succ f ih=>
  intro i j d w hf hlo hj0 hj hi hR s;have hsz:=gy s;show gA Q (dh Q (f+1)) _ _ _ _ _ _ _ _;unfold gA;rw[Go.Sort.partLoop_eq]at hR;have down:∀(k j':Nat) (w:World),j'=lo+k->j'<=j->Sep F W w (c_ a n c d::L)->
    (if i>scanDown (λx=>!cQ x d[lo]!) d i j' then(scanDown (λx=>!cQ x d[lo]!) d i j',d)else partLoop cQ lo (i+1) (scanDown (λx=>!cQ x d[lo]!) d i j'-1) (swp d i (scanDown (λx=>!cQ x d[lo]!) d i j')))=R->
    dg (dh Q (f+1)) Q (k+1) a n c lo iQ i j' w:=by
   have YB:∀(j':Nat) (w:World),lo<=j'->j'<=j->Sep F W w (c_ a n c d::L)->(if i>j' then(j',d)else partLoop cQ lo (i+1) (j'-1) (swp d i j'))=R->
     fm (dh Q (f+1)) Q a n c lo iQ i j' w:=λj' w h1 h2 s hR=>by
    unfold fm;by_cases hij:i>j'
    ·rw[if_pos hij]at hR;subst hR;rw[bN];exact DZ (ay s) rfl (by omega) rfl (by omega) λw s=>h w (show j'<n by omega) s
    ·rw[if_neg hij]at hR;rw[bh,aG,aG];refine DZ (ay s) rfl (by omega) rfl (by omega) λw s=>?_;rw[show(i:Int)+1=((i+1:Nat):Int) by omega,show(j':Int)-1=((j'-1:Nat):Int) by omega];exact ih (i+1) (j'-1) _ w (by omega) (by omega) (by omega) (by omega) (by omega) hR s
   intro k;induction k with
   |zero=>
    intro j' w hk hj' s hR;rw[down_eq _ _ _ _ (by omega),decide_eq_false (by omega),Bool.false_and,oV]at hR;show eC _ Q (dg _ Q 0) _ _ _ _ _ _ _ _;rw[eC,bh];exact YB j' _ (by omega) hj' (ay s) hR
   |succ k ih2=>
    intro j' w hk hj' s hR;rw[down_eq _ _ _ _ (by omega)]at hR;show eC _ Q (dg _ Q (k+1)) _ _ _ _ _ _ _ _;unfold eC;by_cases hij:i<=j'
    ·rw[bN];refine GK (ay s) rfl (by omega) rfl (by omega) λw s=>?_;show cond (!cQ d[j']! d[lo]!) _ _;rw[decide_eq_true hij,Bool.true_and]at hR;cases hc:cQ d[j']! d[lo]! with
     |false=>
      rw[Bool.not_false,cond_true,aG,show(j':Int)-1=((j'-1:Nat):Int) by omega];grind
     |true=>
      grind
    ·rw[bh];rw[decide_eq_false hij,Bool.false_and,oV]at hR;exact YB j' _ (by omega) hj' (ay s) hR
  by_cases hij:i<=j
  ·rw[bN];refine GK (ay s) rfl (by omega) rfl (by omega) λw s=>?_;show cond (cQ d[i]! d[lo]!) _ _;cases hc:cQ d[i]! d[lo]! with
   |true=>
    rw[cond_true,aG];rw[up_eq,hc,decide_eq_true hij,Bool.true_and,Wg,<-Go.Sort.partLoop_eq]at hR;exact ih (i+1) j d w (by omega) (by omega) hj0 hj (by omega) hR s
   |false=>
    rw[up_eq,hc,Bool.and_false,oV]at hR;exact⟨j-lo+1,down (j-lo) j w (by omega) (Nat.le_refl _) s hR⟩
  ·rw[bh];rw[up_eq,decide_eq_false hij,Bool.false_and,oV]at hR;exact⟨j-lo+1,down (j-lo) j _ (by omega) (Nat.le_refl _) (ay s) hR⟩
def abP {Q:Int->Bool->World->Prop}{lo b pv:Nat}(s:Sep F W w (c_ a n c d::L))(hn:n<1000000)(hlo:lo<=pv/\pv<b)(hb:b<=n)
  (h:∀w',Sep F W w' (c_ a n c (partition cQ d lo b pv).2.2::L)->Q (partition cQ d lo b pv).1 (partition cQ d lo b pv).2.1 w'):
  lF a n c lo b pv iQ w Q:=by
 apply Bb;have hsz:=gy s;refine DZ (ay s) rfl (by omega) rfl (by omega) λw s=>?_;rw[aG,aG];unfold partition at h;simp only at h;generalize swp d lo pv=d1 at h s;have hsz:=gy s;have b7:∀(i j':Nat) (w:World),lo<i->i<=b->lo<=j'->j'<b->scanUp (λx=>cQ x d1[lo]!) d1 (b-1) (lo+1)=i->scanDown (λx=>!cQ x d1[lo]!) d1 i (b-1)=j'->Sep F W w (c_ a n c d1::L)->
   gI Q a n c lo iQ i j' w:=λi j' w h1 h1' h2 h3 hI hJ s=>by
  rw[hI,hJ]at h;unfold gI;by_cases hij:i>j'
  ·rw[bN];rw[if_pos hij]at h;exact DZ (ay s) rfl (by omega) rfl (by omega) λw s=>h w s
  ·rw[bh,aG,aG];rw[if_neg hij]at h;refine DZ (ay s) rfl (by omega) rfl (by omega) λw s=>?_;rw[show(i:Int)+1=((i+1:Nat):Int) by omega,show(j':Int)-1=((j'-1:Nat):Int) by omega];exact⟨j'+1,anV hn (λw' _ s=>h w' s) j' (i+1) (j'-1) _ w (by omega) (by omega) (by omega) (by omega) (by omega) rfl s⟩
 have b5:∀(i:Nat),lo<i->i<=b->scanUp (λx=>cQ x d1[lo]!) d1 (b-1) (lo+1)=i->∀(k j':Nat) (w:World),j'=lo+k->j'<b->scanDown (λx=>!cQ x d1[lo]!) d1 i (b-1)=scanDown (λx=>!cQ x d1[lo]!) d1 i j'->Sep F W w (c_ a n c d1::L)->
   dD Q (k+1) a n c lo iQ i j' w:=λi h1 h1' hI k=>by
  induction k with
  |zero=>
   intro j' w hk hj' hJ s;rw[down_eq _ _ _ j' (by omega),decide_eq_false (by omega),Bool.false_and,oV]at hJ;show gJ Q (dD Q 0) _ _ _ _ _ _ _ _;rw[gJ,bh];exact b7 i j' _ h1 h1' (by omega) hj' hI hJ (ay s)
  |succ k ih2=>
   intro j' w hk hj' hJ s;rw[down_eq _ _ _ j' (by omega)]at hJ;show gJ Q (dD Q (k+1)) _ _ _ _ _ _ _ _;unfold gJ;by_cases hij:i<=j'
   ·rw[bN];refine GK (ay s) rfl (by omega) rfl (by omega) λw s=>?_;show cond (!cQ d1[j']! d1[lo]!) _ _;rw[decide_eq_true hij,Bool.true_and]at hJ;cases hc:cQ d1[j']! d1[lo]! with
    |false=>
     rw[Bool.not_false,cond_true,aG,show(j':Int)-1=((j'-1:Nat):Int) by omega];grind
    |true=>
     grind
   ·rw[bh];rw[decide_eq_false hij,Bool.false_and,oV]at hJ;exact b7 i j' _ h1 h1' (by omega) hj' hI hJ (ay s)
 have b3:∀(k i:Nat) (w:World),i+k=b->lo<i->scanUp (λx=>cQ x d1[lo]!) d1 (b-1) (lo+1)=scanUp (λx=>cQ x d1[lo]!) d1 (b-1) i->Sep F W w (c_ a n c d1::L)->
   fy Q (k+1) a n c lo iQ i ((b-1:Nat):Int) w:=λk=>by
  have go5:∀(i:Nat) (w:World),lo<i->i<=b->scanUp (λx=>cQ x d1[lo]!) d1 (b-1) (lo+1)=i->Sep F W w (c_ a n c d1::L)->∃k',dD Q k' a n c lo iQ i ((b-1:Nat):Int) w:=
   λi w h1 h2 hI s=>⟨b-1-lo+1,b5 i h1 h2 hI (b-1-lo) (b-1) w (by omega) (by omega) rfl s⟩
  induction k with
  |zero=>
   intro i w hk hi hI s;rw[up_eq _ _ _ i,decide_eq_false (by omega),Bool.false_and,oV]at hI;show gK Q (fy Q 0) _ _ _ _ _ _ _ _;rw[gK,bh];exact go5 i _ hi (by omega) hI (ay s)
  |succ k ih2=>
   intro i w hk hi hI s;rw[up_eq _ _ _ i]at hI;show gK Q (fy Q (k+1)) _ _ _ _ _ _ _ _;rw[gK,bN];refine GK (ay s) rfl (by omega) rfl (by omega) λw s=>?_;show cond (cQ d1[i]! d1[lo]!) _ _;rw[decide_eq_true (show i<=b-1 by omega),Bool.true_and]at hI;cases hc:cQ d1[i]! d1[lo]! with
   |true=>
    rw[hc,Wg]at hI;rw[cond_true,aG];exact ih2 (i+1) w (by omega) (by omega) hI s
   |false=>
    grind
 have:=b3 (b-(lo+1)) (lo+1) w (by omega) (by omega) rfl s;grind
def ajU {Q:Int->World->Prop}{lo:Nat}(hn:n<1000000){R:Nat×Array bj}(h:∀w',R.1<=n->Sep F W w' (c_ a n c R.2::L)->Q R.1 w'):
  ∀(f i j:Nat) (d:Array bj) (w:World),j+1<=i+f->lo<i->lo<=j->j<n->i<=n->partEqLoop cQ lo i j d=R->Sep F W w (c_ a n c d::L)->cM Q (f+1) a n c lo iQ i j w:=by
 intro f;induction f with
 |zero=>
  intro i j d w hf hlo hj0 hj hi hR s;have hsz:=gy s;rw[Go.Sort.partEqLoop_eq]at hR;rw[up_eq,decide_eq_false (by omega),Bool.false_and,oV,down_eq _ _ _ _ (by omega),decide_eq_false (by omega),Bool.false_and,oV,AP]at hR;subst hR;show fI Q (cM Q 0) _ _ _ _ _ _ _ _;rw[fI,bh];refine⟨1,?_⟩;show dz _ Q (cL _ Q 0) _ _ _ _ _ _ _ _;rw[dz,bh];rw[eJ,bN];exact h _ hi (ay (ay s))
 |succ f ih=>
  intro i j d w hf hlo hj0 hj hi hR s;have hsz:=gy s;show fI Q (cM Q (f+1)) _ _ _ _ _ _ _ _;unfold fI;rw[Go.Sort.partEqLoop_eq]at hR;have down:∀(k j':Nat) (w:World),j'=lo+k->j'<=j->Sep F W w (c_ a n c d::L)->
    (if i>scanDown (λx=>cQ d[lo]! x) d i j' then(i,d)else partEqLoop cQ lo (i+1) (scanDown (λx=>cQ d[lo]! x) d i j'-1) (swp d i (scanDown (λx=>cQ d[lo]! x) d i j')))=R->
    cL (cM Q (f+1)) Q (k+1) a n c lo iQ i j' w:=by
   have b7:∀(j':Nat) (w:World),lo<=j'->j'<=j->Sep F W w (c_ a n c d::L)->(if i>j' then(i,d)else partEqLoop cQ lo (i+1) (j'-1) (swp d i j'))=R->
     eJ (cM Q (f+1)) Q a n c lo iQ i j' w:=λj' w h1 h2 s hR=>by
    unfold eJ;by_cases hij:i>j'
    ·grind
    ·rw[if_neg hij]at hR;rw[bh,aG,aG];refine DZ (ay s) rfl (by omega) rfl (by omega) λw s=>?_;rw[show(i:Int)+1=((i+1:Nat):Int) by omega,show(j':Int)-1=((j'-1:Nat):Int) by omega];exact ih (i+1) (j'-1) _ w (by omega) (by omega) (by omega) (by omega) (by omega) hR s
   intro k;induction k with
   |zero=>
    intro j' w hk hj' s hR;rw[down_eq _ _ _ _ (by omega),decide_eq_false (by omega),Bool.false_and,oV]at hR;show dz _ Q (cL _ Q 0) _ _ _ _ _ _ _ _;rw[dz,bh];exact b7 j' _ (by omega) hj' (ay s) hR
   |succ k ih2=>
    intro j' w hk hj' s hR;rw[down_eq _ _ _ _ (by omega)]at hR;show dz _ Q (cL _ Q (k+1)) _ _ _ _ _ _ _ _;unfold dz;by_cases hij:i<=j'
    ·rw[bN];refine GK (ay s) rfl (by omega) rfl (by omega) λw s=>?_;show cond (cQ d[lo]! d[j']!) _ _;rw[decide_eq_true hij,Bool.true_and]at hR;cases hc:cQ d[lo]! d[j']! with
     |true=>
      rw[cond_true,aG,show(j':Int)-1=((j'-1:Nat):Int) by omega];grind
     |false=>
      grind
    ·rw[bh];rw[decide_eq_false hij,Bool.false_and,oV]at hR;exact b7 j' _ (by omega) hj' (ay s) hR
  by_cases hij:i<=j
  ·rw[bN];refine GK (ay s) rfl (by omega) rfl (by omega) λw s=>?_;show cond (!cQ d[lo]! d[i]!) _ _;cases hc:cQ d[lo]! d[i]! with
   |false=>
    rw[Bool.not_false,cond_true,aG];rw[up_eq,hc,decide_eq_true hij,Bool.true_and,Bool.not_false,Wg,<-Go.Sort.partEqLoop_eq]at hR;exact ih (i+1) j d w (by omega) (by omega) hj0 hj (by omega) hR s
   |true=>
    rw[up_eq,hc,Bool.not_true,Bool.and_false,oV]at hR;exact⟨j-lo+1,down (j-lo) j w (by omega) (Nat.le_refl _) s hR⟩
  ·rw[bh];rw[up_eq,decide_eq_false hij,Bool.false_and,oV]at hR;exact⟨j-lo+1,down (j-lo) j _ (by omega) (Nat.le_refl _) (ay s) hR⟩
def SL {Q:Int->World->Prop}{lo b pv:Nat}(s:Sep F W w (c_ a n c d::L))(hn:n<1000000)(hlo:lo<=pv/\pv<b)(hb:b<=n)
  (h:∀w',Sep F W w' (c_ a n c (partitionEqual cQ d lo b pv).2::L)->Q (partitionEqual cQ d lo b pv).1 w'):
  jI a n c lo b pv iQ w Q:=by
 apply yA;have hsz:=gy s;refine DZ (ay s) rfl (by omega) rfl (by omega) λw s=>?_;rw[aG,aG,show(b:Int)-1=((b-1:Nat):Int) by omega];exact⟨b+1,ajU hn (λw' _ s=>h w' s) b (lo+1) (b-1) _ w (by omega) (by omega) (by omega) (by omega) (by omega) rfl s⟩
end
end Go.Proofs.YtmegplnmiepfbaaGreatDoor.S
namespace Go.Proofs.YtmegplnmiepfbaaGreatDoor.S
open Go.Sx
open Go.Sort (swp scanSorted shiftDown shiftUp partialIns partialInsertionSort PermIn)
attribute [local irreducible] af cv bz bg aA cw bZ St Bx Al App cH cy cD bU aM bF aq bS av ak aW mapA
section
variable {F:Nat->Prop}{W w w0:World}{L:List As}{a:Option Addr}{n c:Nat}{d:Array bj}
def aqm {Q:Bool->World->Prop}{lo b:Nat}(hn:n<1000000)(hb:b<=n)(hlo:lo<b){R:Array bj×Bool}(h:∀w',Sep F W w' (c_ a n c R.1::L)->Q R.2 w'):
  ∀(f i:Nat) (d:Array bj) (w:World),f<=5->lo<i->i<=b->partialIns cQ lo b f i d=R->Sep F W w (c_ a n c d::L)->bq Q (f+1) a n c lo b iQ i (5-f:Int) w:=by
 intro f;induction f with
 |zero=>
  intro i d w hf hi hib hR s;rw[partialIns]at hR;subst hR;show eO Q (bq Q 0) _ _ _ _ _ _ _ _ _;unfold eO;grind
 |succ f ih=>
  intro i d w hf hi hib hR s;show eO Q (bq Q (f+1)) _ _ _ _ _ _ _ _ _;rw[eO,bN];have next:∀(i:Nat) (d:Array bj) (w:World),lo<i->i<=b->partialIns cQ lo b f i d=R->Sep F W w (c_ a n c d::L)->bq Q (f+1) a n c lo b iQ i (IntKind.wrap .i64 ((5-(f+1:Nat):Int)+1)) w:=λi d w h1 h2 h3 s=>by rw[aG,show(5-(f+1:Nat):Int)+1=5-f by omega];grind
  have up:∀(i:Nat) (d':Array bj),lo<i->i<=b->partialIns cQ lo b f i d'=R->∀(k j:Nat) (d:Array bj) (w:World),j+k=b->lo<j->shiftUp cQ b j d=d'->Sep F W w (c_ a n c d::L)->
    cZ (bq Q (f+1)) Q (k+1) a n c lo b iQ i (5-(f+1:Nat):Int) j w:=by
   intro i d' h1 h2 h3 k;induction k with
   |zero=>
    intro j d w hj hj0 hS s;rw[shiftUp,fU]at hS;subst hS;show eF _ Q (cZ _ Q 0) _ _ _ _ _ _ _ _ _ _;unfold eF;grind
   |succ k ih2=>
    intro j d w hj hj0 hS s;have hsz:=gy s;rw[shiftUp,AP]at hS;show eF _ Q (cZ _ Q (k+1)) _ _ _ _ _ _ _ _ _ _;rw[eF,bN,aG];refine GK (q:=j-1) (ay s) rfl (by omega) (by omega) (by omega) λw s=>?_;show cond (!cQ d[j]! d[j-1]!) _ _;cases hc:cQ d[j]! d[j-1]! with
    |false=>
     grind
    |true=>
     rw[hc,Bool.not_true,oV]at hS;rw[Bool.not_true,cond_false,aG];refine DZ (q:=j-1) (ay s) rfl (by omega) (by omega) (by omega) λw s=>?_;exact ih2 (j+1) _ w (by omega) (by omega) hS s
  have b18:∀(i:Nat) (d:Array bj) (w:World),lo<i->i<b->partialIns cQ lo b f i (if b-i≥2 then shiftUp cQ b (i+1) d else d)=R->Sep F W w (c_ a n c d::L)->
    c7 (bq Q (f+1)) Q a n c lo b iQ i (5-(f+1:Nat):Int) w:=λi d w h1 h2 h3 s=>by
   rw[c7,aG];by_cases h4:b-i≥2
   ·rw[if_pos h4]at h3;rw[bN,aG];exact⟨_,up i _ h1 (by omega) h3 (b-(i+1)) (i+1) d w (by omega) (by omega) rfl s⟩
   ·rw[if_neg h4]at h3;rw[bh];exact next i d _ h1 (by omega) h3 s
  have down:∀(i:Nat) (d':Array bj),lo<i->i<b->partialIns cQ lo b f i (if b-i≥2 then shiftUp cQ b (i+1) d' else d')=R->∀(j:Nat) (d:Array bj) (w:World),j<b->shiftDown cQ j d=d'->Sep F W w (c_ a n c d::L)->
    c8 (bq Q (f+1)) Q (j+1) a n c lo b iQ i (5-(f+1:Nat):Int) j w:=by
   intro i d' h1 h2 h3 j;induction j with
   |zero=>
    intro d w hj hS s;subst hS;show eG _ Q (c8 _ Q 0) _ _ _ _ _ _ _ _ _ _;unfold eG;exact b18 i d _ h1 h2 h3 s
   |succ j ih2=>
    intro d w hj hS s;have hsz:=gy s;rw[shiftDown]at hS;show eG _ Q (c8 _ Q (j+1)) _ _ _ _ _ _ _ _ _ _;rw[eG,bN,aG];refine GK (q:=j) (ay s) rfl (by omega) (by omega) (by omega) λw s=>?_;show cond (!cQ d[j+1]! d[j]!) _ _;cases hc:cQ d[j+1]! d[j]! with
    |false=>
     rw[hc,Bool.not_false,Wg]at hS;subst hS;exact b18 i d w h1 h2 h3 s
    |true=>
     rw[hc,Bool.not_true,oV]at hS;rw[Bool.not_true,cond_false,show((j+1:Nat):Int)-1=(j:Int) by omega];refine DZ (q:=j) (ay s) rfl (by omega) (by omega) (by omega) λw s=>?_;exact ih2 _ w (by omega) hS s
  have scan:∀(k i:Nat) (w:World),i+k=b->lo<i->Sep F W w (c_ a n c d::L)->(if scanSorted cQ d b i=b then(d,true)else if b-lo<50 then(d,false)else
     partialIns cQ lo b f (scanSorted cQ d b i) (if b-scanSorted cQ d b i≥2 then shiftUp cQ b (scanSorted cQ d b i+1) (if scanSorted cQ d b i-lo≥2 then shiftDown cQ (scanSorted cQ d b i-1) (swp d (scanSorted cQ d b i) (scanSorted cQ d b i-1))else swp d (scanSorted cQ d b i) (scanSorted cQ d b i-1))
      else(if scanSorted cQ d b i-lo≥2 then shiftDown cQ (scanSorted cQ d b i-1) (swp d (scanSorted cQ d b i) (scanSorted cQ d b i-1))else swp d (scanSorted cQ d b i) (scanSorted cQ d b i-1))))=R->
    dx (bq Q (f+1)) Q (k+1) a n c lo b iQ i (5-(f+1:Nat):Int) w:=by
   have b7:∀(i:Nat) (w:World),lo<i->i<=b->Sep F W w (c_ a n c d::L)->(if i=b then(d,true)else if b-lo<50 then(d,false)else
     partialIns cQ lo b f i (if b-i≥2 then shiftUp cQ b (i+1) (if i-lo≥2 then shiftDown cQ (i-1) (swp d i (i-1))else swp d i (i-1))else(if i-lo≥2 then shiftDown cQ (i-1) (swp d i (i-1))else swp d i (i-1))))=R->
     eM (bq Q (f+1)) Q a n c lo b iQ i (5-(f+1:Nat):Int) w:=λi w h1 h2 s hR=>by
    have hsz:=gy s;unfold eM;by_cases h3:i=b
    ·rw[if_pos h3]at hR;subst hR;rw[dw (by omega),cond_true];exact h _ s
    ·rw[if_neg h3]at hR;rw[cB (by omega),cond_false,aG];by_cases h4:b-lo<50
     ·rw[if_pos h4]at hR;subst hR;rw[bN];exact h _ s
     ·rw[if_neg h4]at hR;rw[bh,aG,aG];refine DZ (q:=i-1) (ay s) rfl (by omega) (by omega) (by omega) λw s=>?_;by_cases h5:i-lo≥2
      ·rw[if_pos h5]at hR;rw[bN,show(i:Int)-1=((i-1:Nat):Int) by omega];exact⟨_,down i _ h1 (by omega) hR (i-1) _ w (by omega) rfl s⟩
      ·rw[if_neg h5]at hR;rw[bh];exact b18 i _ w h1 (by omega) hR s
   intro k;induction k with
   |zero=>
    intro i w hk hi s hR;rw[scanSorted,decide_eq_false (by omega),Bool.false_and,oV]at hR;show eN _ Q (dx _ Q 0) _ _ _ _ _ _ _ _ _;rw[eN,bh];exact b7 i _ hi (by omega) (ay s) hR
   |succ k ih2=>
    intro i w hk hi s hR;have hsz:=gy s;rw[scanSorted,decide_eq_true (by omega),Bool.true_and]at hR;show eN _ Q (dx _ Q (k+1)) _ _ _ _ _ _ _ _ _;rw[eN,bN,aG];refine GK (q:=i-1) (ay s) rfl (by omega) (by omega) (by omega) λw s=>?_;show cond (!cQ d[i]! d[i-1]!) _ _;cases hc:cQ d[i]! d[i-1]! with
    |false=>
     rw[hc,Bool.not_false,Wg]at hR;rw[Bool.not_false,cond_true,aG];exact ih2 (i+1) w (by omega) (by omega) s hR
    |true=>
     rw[hc,Bool.not_true,oV]at hR;exact b7 i w hi (by omega) s hR
  exact⟨_,scan (b-i) i w (by omega) hi s hR⟩
def Z2 {Q:Bool->World->Prop}{lo b:Nat}(s:Sep F W w (c_ a n c d::L))(hn:n<1000000)(hlo:lo<b)(hb:b<=n)(h:∀w',Sep F W w' (c_ a n c (partialInsertionSort cQ d lo b).1::L)->Q (partialInsertionSort cQ d lo b).2 w'):
  iG a n c lo b iQ w Q:=by
 apply uZ;rw[aG];exact⟨_,aqm hn hb hlo h 5 (lo+1) d w (by decide) (by omega) (by omega) rfl s⟩
def akH {lo b i j:Nat}{d d':Array bj}(h:PermIn lo b d d')(hb:b<=d'.size)(hi:lo<=i/\i<b)(hj:lo<=j/\j<b):PermIn lo b d (swp d' i j):=
 Go.Sort.permIn_trans _ _ _ _ _ h (Go.Sort.swp_permIn _ _ _ _ _ hi.1 hi.2 hj.1 hj.2 hb)
def agy {Q:World->Prop}{lo b:Nat}(s:Sep F W w (c_ a n c d::L))(hn:n<1000000)(hlo:lo<b)(hb:b<=n)(h:∀d' w',PermIn lo b d d'->Sep F W w' (c_ a n c d'::L)->Q w'):
  j_ a n c lo b iQ w Q:=by
 apply zU;rw[aG];have loop:∀(k i j:Nat) (d':Array bj) (w:World),j<=i+k->lo<=i->j<b->i<=b->PermIn lo b d d'->Sep F W w (c_ a n c d'::L)->e7 Q (k+1) a n c i j w:=by
  intro k;induction k with
  |zero=>
   intro i j d' w hk hi hj hib hp s;show fY Q (e7 Q 0) _ _ _ _ _ _;unfold fY;grind
  |succ k ih=>
   intro i j d' w hk hi hj hib hp s;have hsz:=gy s;show fY Q (e7 Q (k+1)) _ _ _ _ _ _;unfold fY;by_cases hij:i<j
   ·rw[bN,aG,aG];refine DZ (ay s) rfl (by omega) rfl (by omega) λw s=>?_;rw[show(j:Int)-1=((j-1:Nat):Int) by omega];exact ih (i+1) (j-1) _ w (by omega) (by omega) (by omega) (by omega) (akH hp (by omega) (by omega) (by omega)) s
   grind
 have:=loop b lo (b-1) d w (by omega) (Nat.le_refl _) (by omega) (by omega) (Go.Sort.permIn_refl _ _ _) s;grind
def LU {Q:Int->Int->World->Prop}{i j sp:Nat}{k:Int}{t:TypeId}(s:Sep F W w (c_ a n c d::av sp t [ae k]::L))(hi:i<n)(hj:j<n)
  (h:∀(x y:Nat) k' w',(x=i/\y=j\/x=j/\y=i)->Sep F W w' (c_ a n c d::av sp t [ae k']::L)->Q x y w'):gT a n c i j (sZ sp) iQ w Q:=by
 apply C8;have hsz:=gy s;refine GK (ay s) rfl (by omega) rfl (by omega) λw s=>?_;cases hc:decide (ah9 d[j]! d[i]! <0)with
 |true=>
  rw[cond_true];refine ah (lI s 1 rfl (ah ?_));refine sT s 1 rfl λw s=>?_;grind
 |false=>
  grind
def Wh {Q:Int->World->Prop}{i j l sp:Nat}{k:Int}{t:TypeId}(s:Sep F W w (c_ a n c d::av sp t [ae k]::L))(hi:i<n)(hj:j<n)(hl:l<n)
  (h:∀(x:Nat) k' w',(x=i\/x=j\/x=l)->Sep F W w' (c_ a n c d::av sp t [ae k']::L)->Q x w'):jD a n c i j l (sZ sp) iQ w Q:=by
 apply C9;refine LU s hi hj λx y k w e s=>?_;refine LU s (show y<n by omega) hl λx' y' k w e' s=>?_;refine LU s (show x<n by omega) (show x'<n by omega) λx2 y2 k w e2 s=>?_;grind
def GL {Q:Int->World->Prop}{i sp:Nat}{k:Int}{t:TypeId}(s:Sep F W w (c_ a n c d::av sp t [ae k]::L))(hn:n<1000000)(hi:1<=i/\i+1<n)
  (h:∀(x:Nat) k' w',(i<=x+1/\x<=i+1)->Sep F W w' (c_ a n c d::av sp t [ae k']::L)->Q x w'):fo a n c i (sZ sp) iQ w Q:=by
 apply yy;rw[aG,aG,show(i:Int)-1=((i-1:Nat):Int) by omega,show(i:Int)+1=((i+1:Nat):Int) by omega];exact Wh s (by omega) (by omega) (by omega) λx k w e s=>h x k w (by omega) s
def Yd {Q:Int->Int->World->Prop}{lo b:Nat}(s:Sep F W w (c_ a n c d::L))(hn:n<1000000)(hlo:lo<b)(hb:b<=n)
  (h:∀(x:Nat) (hint:Int) w',lo<=x/\x<b->Sep F W w' (c_ a n c d::L)->Q x hint w'):kJ a n c lo b iQ w Q:=by
 apply Av;refine aV s λsp w s=>⟨by decide,by decide,by decide,?_⟩;have s:=jk s;have b12:∀(x:Nat) (k:Int) (w:World),lo<=x/\x<b->Sep F W w (c_ a n c d::av sp 3 [ae k]::L)->iI Q (aZ sp) x w:=λx k w hx s=>by apply lI s 1 rfl;have s':Sep F W w (c_ a n c d::L):=gw s (List.Sublist.cons_cons _ (List.sublist_cons_self _ _));grind
 have b11:∀(i j l:Nat) (k:Int) (w:World),lo<=i/\i<b->lo<=j/\j<b->lo<=l/\l<b->Sep F W w (c_ a n c d::av sp 3 [ae k]::L)->iJ Q a n c iQ (aZ sp) i j l w:=λi j l k w hi hj hl s=>by exact Wh s (by omega) (by omega) (by omega) λx k w e s=>b12 x k w (by omega) s
 rw[aG,Int.tdiv_eq_ediv_of_nonneg (by omega),aG (n:=((b:Int)-lo)/4),
  aG (n:=((b:Int)-lo)/4*1),aG (n:=((b:Int)-lo)/4*2),aG (n:=((b:Int)-lo)/4*3),
  aG,aG,aG]
 have e1:(lo:Int)+((b:Int)-lo)/4*1=((lo+(b-lo)/4*1:Nat):Int):=by omega
 have e2:(lo:Int)+((b:Int)-lo)/4*2=((lo+(b-lo)/4*2:Nat):Int):=by omega
 have e3:(lo:Int)+((b:Int)-lo)/4*3=((lo+(b-lo)/4*3:Nat):Int):=by omega
 rw[e1,e2,e3];by_cases h8:b-lo≥8
 ·rw[bN (show(b:Int)-lo≥8 by omega)];by_cases h50:b-lo≥50
  ·rw[bN (show(b:Int)-lo≥50 by omega)];refine GL s hn (by omega) λx k w e s=>?_;refine GL s hn (by omega) λy k w e' s=>?_;refine GL s hn (by omega) λz k w e2 s=>?_;grind
  ·rw[bh (show¬(b:Int)-lo≥50 by omega)];exact b11 _ _ _ _ w (by omega) (by omega) (by omega) s
 ·rw[bh (show¬(b:Int)-lo≥8 by omega)];exact b12 _ _ w (by omega) s
end
end Go.Proofs.YtmegplnmiepfbaaGreatDoor.S
namespace Go.Proofs.YtmegplnmiepfbaaGreatDoor.S
open Go.Sx
open Go.Sort (swp PermIn SortedIn Below)
attribute [local irreducible] af cv bz bg aA cw bZ St Bx Al App cH cy cD bU aM bF aq bS av ak aW mapA
section
variable {F:Nat->Prop}{W w w0:World}{L:List As}{a:Option Addr}{n c:Nat}{d:Array bj}
def alF (T:ByteArray):Bool:=(List.range 256).all λx=>decide (0<=sb T x/\sb T x<=8/\(x:Int)<2^(sb T x).toNat/\(1<=x->(2:Int)^(sb T x).toNat<=2*x))
def ax9:∃T:ByteArray,T.size=256/\alF T=true/\∀Q x k w,uG Q x k w=(aH (IntKind.wrap .u8 x) T.size<|Q (IntKind.wrap .i64 (k+IntKind.wrap .i64 (sb T (IntKind.wrap .u8 x).toNat))) w):=by
 refine⟨_,?_,?_,λ_ _ _ _=>rfl⟩
 ·kernel_rfl
 ·kernel_rfl
def akI {T:ByteArray}(h2:alF T=true){x:Nat}(hx:x<256):0<=sb T x/\sb T x<=8/\(x:Int)<2^(sb T x).toNat/\(1<=x->(2:Int)^(sb T x).toNat<=2*x):=by unfold alF at h2;grind
def QZ {x:Nat}{Q:Int->World->Prop}(hx:x<65536)(h:∀v:Nat,v<=16->(x:Int)<2^v->(8<=x->(2:Int)^v<=2*x)->Q v w):vU x w Q:=by
 apply Uq;apply Qh;unfold vZ vY;rw[bh,bh];obtain⟨T,h1,h2,h3⟩:=ax9;by_cases hs:x<256
 ·rw[bh,h3,h1,wrap_u8' x,Int.emod_eq_of_lt (by omega) (by omega)];refine⟨by omega,by omega,?_⟩;obtain⟨a1,a2,a3,a4⟩:=akI h2 hs;rw[Int.toNat_natCast,aG (n:=sb T x),aG,Int.zero_add];grind
 ·rw[bN];refine⟨by decide,?_⟩;have e:pA .u64 (x:Int) 8=((x/256:Nat):Int):=by rw[pA,show(2:Int)^(min (8:Int).toNat (IntKind.u64).bits)=256 from rfl,Int.fdiv_eq_ediv_of_nonneg _ (by decide)];omega
  rw[e,wrap_i64 (by decide) (by decide),h3,h1,wrap_u8' ((x/256:Nat):Int),Int.emod_eq_of_lt (by omega) (by omega)];refine⟨by omega,by omega,?_⟩;obtain⟨a1,a2,a3,a4⟩:=akI h2 (x:=x/256) (by omega);rw[Int.toNat_natCast,aG (n:=sb T (x/256)),aG];have e2:(2:Int)^(8+(sb T (x/256)).toNat)=256*2^(sb T (x/256)).toNat:=by grind
  grind
def auD {x m:Int}(hm:0<=m/\m<1000000):0<=BN .u64 x m/\BN .u64 x m<=m:=by
 unfold BN;have h1:(BitVec.ofInt 64 x&&&BitVec.ofInt 64 m).toNat<=m.toNat:=by apply Nat.le_trans Nat.and_le_right;grind
 have h1:(BitVec.ofInt (IntKind.u64).bits x&&&BitVec.ofInt (IntKind.u64).bits m).toNat<=m.toNat:=h1;rw[kz (by omega)];omega
def adV {Q:Int->World->Prop}{sp:Nat}{k:Int}{t:TypeId}(s:Sep F W w (c_ a n c d::av sp t [.int .u64 k]::L))
  (h:∀r k' w',Sep F W w' (c_ a n c d::av sp t [.int .u64 k']::L)->Q r w'):tj (sZ sp) w Q:=by
 apply JI;refine ah (lI s 1 rfl (ah (lI s 1 rfl ⟨by decide,ah ?_⟩)));refine sT s 1 rfl λw s=>?_;refine ah (lI s 1 rfl (ah (lI s 1 rfl ⟨by decide,ah ?_⟩)));refine sT s 1 rfl λw s=>?_;refine ah (lI s 1 rfl (ah (lI s 1 rfl ⟨by decide,ah ?_⟩)));refine sT s 1 rfl λw s=>?_;refine ah (lI s 1 rfl ?_);grind
def ail {Q:World->Prop}{lo b:Nat}(s:Sep F W w (c_ a n c d::L))(hn:n<2000)(hlo:lo<b)(hb:b<=n)(h:∀d' w',PermIn lo b d d'->Sep F W w' (c_ a n c d'::L)->Q w'):
  jQ a n c lo b iQ w Q:=by
 apply zw;rw[aG];by_cases h8:b-lo≥8
 ·rw[bN (show(b:Int)-lo≥8 by omega)];refine aV s λsp w s=>?_;refine ax s (i:=0) rfl rfl rfl λw s=>?_;have s:=jk s;apply I0;rw[kz (by omega),show(b:Int)-lo=((b-lo:Nat):Int) by omega];refine QZ (by omega) λv hv h1 h2=>⟨by omega,by decide,?_⟩;have h2:=h2 h8;have hsh:BO .u64 1 (v:Int)=(2:Int)^v:=by rw[BO,Int.toNat_natCast,Int.one_mul,show min v (IntKind.u64).bits=v by simp[IntKind.bits];omega];exact kz (by omega)
  rw[hsh];generalize (2:Int)^v=M at h1 h2;rw[Int.tdiv_eq_ediv_of_nonneg (by omega),aG (n:=((b-lo:Nat):Int)/4),aG (n:=((b-lo:Nat):Int)/4*2),aG (n:=(lo:Int)+((b-lo:Nat):Int)/4*2),
   aG]
  have loop:∀(k idx:Nat) (d':Array bj) (r:Int) (t:TypeId) (w:World),idx+k=lo+(b-lo)/4*2+2->lo<=idx->PermIn lo b d d'->Sep F W w (c_ a n c d'::av sp t [.int .u64 r]::L)->
    dK Q (k+1) a n c lo ((b-lo:Nat):Int) (aZ sp) M idx w:=by
   intro k;induction k with
   |zero=>
    intro idx d' r t w hk hi hp s;show kK Q (dK Q 0) _ _ _ _ _ _ _ _ _;refine⟨by decide,?_⟩;rw[Int.tdiv_eq_ediv_of_nonneg (by omega),aG (n:=((b-lo:Nat):Int)/4),aG (n:=((b-lo:Nat):Int)/4*2),aG (n:=(lo:Int)+((b-lo:Nat):Int)/4*2),
     aG,bh]
    exact h d' w hp (gw s (List.Sublist.cons_cons _ (List.sublist_cons_self _ _)))
   |succ k ih=>
    intro idx d' r t w hk hi hp s;show kK Q (dK Q (k+1)) _ _ _ _ _ _ _ _ _;refine⟨by decide,?_⟩;rw[Int.tdiv_eq_ediv_of_nonneg (by omega),aG (n:=((b-lo:Nat):Int)/4),aG (n:=((b-lo:Nat):Int)/4*2),aG (n:=(lo:Int)+((b-lo:Nat):Int)/4*2),
     aG,bN]
    refine adV s λrr r w s=>?_;have hsz:=gy s;have b10:∀(o:Nat) (w:World),o<b-lo->Sep F W w (c_ a n c d'::av sp t [.int .u64 r]::L)->fH (dK Q (k+1)) Q a n c lo ((b-lo:Nat):Int) (aZ sp) M idx o w:=λo w ho s=>by rw[fH,aG,aG];refine DZ (q:=lo+o) (ay s) rfl (by omega) (by omega) (by omega) λw s=>?_;exact ih (idx+1) _ r t w (by omega) (by omega) (akH hp (by omega) (by omega) (by omega)) s
    rw[kz (by omega)];have ha:=auD (x:=rr) (m:=M-1) (by omega);generalize BN .u64 rr (M-1)=q at ha;rw[aG];by_cases hq:q≥((b-lo:Nat):Int)
    ·rw[bN hq,aG];have:=b10 (q-((b-lo:Nat):Int)).toNat w (by omega) s;grind
    ·have:=b10 q.toNat w (by omega) s;grind
  have:=loop 3 (lo+(b-lo)/4*2-1) d _ _ w (by omega) (by omega) (Go.Sort.permIn_refl _ _ _) s;grind
 ·rw[bh (show¬(b:Int)-lo≥8 by omega)];exact h d w (Go.Sort.permIn_refl _ _ _) s
end
end Go.Proofs.YtmegplnmiepfbaaGreatDoor.S
namespace Go.Proofs.YtmegplnmiepfbaaGreatDoor.S
open Go.Sx
def auE (P:Program)(t:TypeId)(xs ys:Array Value):Option Bool:=match P.underlying t with
 |some (.struct fs)=>ahl P xs ys fs.toList
 |_=>none
def anZ {P:Program}{t:TypeId}{xs ys:Array Value}{x y:Operand}{r:Bool}{w:World}{K:Bool->World->Prop}(hp:P.stoodInHeld t=false)(hg:P.eqGuardType P.depth t=false)(hr:auE P t xs ys=some r)(h:K r w):bU P .eql t x y (.agg xs) (.agg ys) w K:=by
 unfold auE at hr;split at hr
 ·rename_i fs hu;exact auc hu hp hg hr h
 ·cases hr
def eq3 {a b c a' b' c':Int}:(a==a'&&(b==b'&&(c==c'&&true)))=decide (a=a'/\b=b'/\c=c'):=by grind
def as2 {a b:bj}:(a.c=b.c/\a.s=b.s/\a.k=b.k)↔a=b:=by obtain⟨a1,a2,a3⟩:=a;obtain⟨b1,b2,b3⟩:=b;simp
attribute [local irreducible] bU
def an0 {w:World}{x y:Operand}{a b:bj}{K:Bool->World->Prop}(h:K (decide (a=b)) w):bU P .eql 294 x y (.agg #[ae a.c,ae a.s,ae a.k]) (.agg #[ae b.c,ae b.s,ae b.k]) w K:=by apply anZ (r:=a.c==b.c&&(a.s==b.s&&(a.k==b.k&&true))) (by kernel_rfl) (by kernel_rfl) (by kernel_rfl);rw[eq3];simp[as2];exact h
def auF {w:World}{x y:Operand}{a b:bj}{K:Bool->World->Prop}(h:K (!decide (a=b)) w):bU P .neq 294 x y (.agg #[ae a.c,ae a.s,ae a.k]) (.agg #[ae b.c,ae b.s,ae b.k]) w K:=
 akn (by kernel_rfl) (an0 h)
end Go.Proofs.YtmegplnmiepfbaaGreatDoor.S
