/- Part 5 of the proof. -/
import Derived.Test.YtmegplnmiepfbaaGreatDoorK3
import Derived.Lib.MakeNoZero
set_option linter.unusedVariables false
set_option linter.unusedSimpArgs false
set_option linter.defProp false
namespace Go.Proofs.YtmegplnmiepfbaaGreatDoor.S
open Go.Sx
attribute [local irreducible] af cD bz bg aA cy b_ St Bx Al App cK cE cB bV aN bG aq bT av ak aW mapA
structure wG where
 a0:Addr
 a2:Addr
 a3:Addr
 a4:Addr
 a5:Addr
 a6:Addr
structure iL (w:World) (g:wG):Prop where
 v0:w.cell? (aZ 0)=some (.iface 401 (.pointer (some g.a0)))
 v1:w.cell? (aZ 1)=some (.iface 219 (rt 74))
 v2:w.cell? (aZ 2)=some (.iface 401 (.pointer (some g.a2)))
 v3:w.cell? (aZ 3)=some (.iface 401 (.pointer (some g.a3)))
 v4:w.cell? (aZ 4)=some (.iface 401 (.pointer (some g.a4)))
 v5:w.cell? (aZ 5)=some (.iface 401 (.pointer (some g.a5)))
 v6:w.cell? (aZ 6)=some (.iface 401 (.pointer (some g.a6)))
 n23:g.a2≠g.a3
 n56:g.a5≠g.a6
 b2:∃c t,w.heap[g.a2.block]? =some (.cells c t (0,0))
 b3:∃c t,w.heap[g.a3.block]? =some (.cells c t (0,0))
 b5:∃c t,w.heap[g.a5.block]? =some (.cells c t (0,0))
 b6:∃c t,w.heap[g.a6.block]? =some (.cells c t (0,0))
def XX {w w':World}{k:Nat}{o:Obj}(f:Fr No w w')(h:w.heap[k]? =some o):w'.heap[k]? =some o:=by rw[Fr.block f k (Array.getElem?_eq_some_iff.1 h).1 id];exact h
def iL.fr {w w':World}{g:wG}(k:iL w g)(f:Fr No w w'):iL w' g where
 v0:=Fr.cell f k.v0 id
 v1:=Fr.cell f k.v1 id
 v2:=Fr.cell f k.v2 id
 v3:=Fr.cell f k.v3 id
 v4:=Fr.cell f k.v4 id
 v5:=Fr.cell f k.v5 id
 v6:=Fr.cell f k.v6 id
 n23:=k.n23
 n56:=k.n56
 b2:=let⟨c,t,h⟩:=k.b2;⟨c,t,XX f h⟩
 b3:=let⟨c,t,h⟩:=k.b3;⟨c,t,XX f h⟩
 b5:=let⟨c,t,h⟩:=k.b5;⟨c,t,XX f h⟩
 b6:=let⟨c,t,h⟩:=k.b6;⟨c,t,XX f h⟩
structure CY where
 a:Int
 b:Int
 c:Int
 d:Int
 e:Int
 f:Int
structure Xh (x:CY):Prop where
 a:Ta.U x.a
 b:Ta.U x.b
 c:Ta.U x.c
 d:Ta.U x.d
 e:Ta.U x.e
 f:Ta.U x.f
def CY.add (x y:CY):CY:=⟨Ta.sat x.a y.a,Ta.sat x.b y.b,Ta.sat x.c y.c,Ta.sat x.d y.d,Ta.sat x.e y.e,Ta.sat x.f y.f⟩
def Xh.add {x y:CY}(hx:Xh x)(hy:Xh y):Xh (x.add y):=⟨Ta.G6 hx.a hy.a,Ta.G6 hx.b hy.b,Ta.G6 hx.c hy.c,Ta.G6 hx.d hy.d,Ta.G6 hx.e hy.e,Ta.G6 hx.f hy.f⟩
def aeZ (x:CY):List Value:=[.int .u64 x.a,.int .u64 x.b,.int .u64 x.c,.int .u64 x.d,.int .u64 x.e,.int .u64 x.f]
structure AS where
 p:Nat
 sh:W8
 gr:uQ
 mr:BY
 fp:Nat
structure kB where
 g:iD
 ms:nQ
 f:He
structure gy where
 k:Int
 x:Bi
 o:Option kB
 past:CY
def Hj (r:AS)(y:gy):List Value:=match y.o with
 |some _=>[.pointer (sZ r.gr.p),.pointer (sZ r.mr.p),.pointer (sZ r.fp),.pointer (sZ r.sh.p)]++aeZ y.past
 |none=>[.pointer none,.pointer none,.pointer none,.pointer (sZ r.sh.p)]++aeZ y.past
noncomputable def I4 (r:AS)(o:Option kB):List As:=match o with
 |some m=>[oh r.gr m.g,uR r.mr r.gr.p m.ms,uV r.fp r.mr.p r.gr.p m.f]
 |none=>[]
noncomputable def amN (r:AS)(y:gy):List As:=av r.p 106 (Hj r y)::j9 r.sh y.k y.x::I4 r y.o
structure av2 (y:gy) (m:kB):Prop where
 g:xR m.g
 I:yU m.g m.ms
 J:acU m.g m.f
 n_:m.g.m.w*m.g.m.h<=1600
 right:Tv (ajs m.g) y.x.p
structure Hl (y:gy):Prop where
 sh:aeT y.k y.x.p
 past:Xh y.past
 m:∀m,y.o=some m->av2 y m
noncomputable def iq (r:AS)(y:gy):As:=aW (Hl y) (amN r y)
section
variable {F:Nat->Prop}{W w w0:World}{L:List As}{r:AS}{y:gy}
def CZ (s:Sep F W w (iq r y::L)):Hl y/\Sep F W w (amN r y++L):=gR s
def Xi (s:Sep F W w (amN r y++L))(h:Hl y):Sep F W w (iq r y::L):=dD s h
noncomputable abbrev aaY (r:AS)(past:CY):As:=av r.p 106 [.pointer (sZ r.gr.p),.pointer (sZ r.mr.p),.pointer (sZ r.fp),.pointer (sZ r.sh.p),.int .u64 past.a,.int .u64 past.b,.int .u64 past.c,.int .u64 past.d,.int .u64 past.e,.int .u64 past.f]
def Oq {m:kB}(ho:y.o=some m)(s:Sep F W w (iq r y::L)):Hl y/\Sep F W w (aaY r y.past::j9 r.sh y.k y.x::oh r.gr m.g::uR r.mr r.gr.p m.ms::uV r.fp r.mr.p r.gr.p m.f::L):=by obtain⟨h,s⟩:=CZ s;have s:Sep F W w (av r.p 106 (Hj r y)::j9 r.sh y.k y.x::(I4 r y.o++L)):=s;unfold Hj at s;rw[ho]at s;exact⟨h,s⟩
def Ld {m:kB}{k:Int}{x:Bi}{past:CY}(s:Sep F W w (aaY r past::j9 r.sh k x::oh r.gr m.g::uR r.mr r.gr.p m.ms::uV r.fp r.mr.p r.gr.p m.f::L))(h:Hl ⟨k,x,some m,past⟩):Sep F W w (iq r ⟨k,x,some m,past⟩::L):=
 Xi s h
def ahi {Q:Option Addr->World->Prop}{k:Int}(hk:1<=k/\k<=100000)(s:Sep F W w L)
  (h:∀r x w',x.p=⟨[],[],0,0,0,0⟩->Sep F W w' (iq r ⟨k,x,none,⟨0,0,0,0,0,0⟩⟩::L)->Q (sZ r.p) w'):JP k w Q:=by
 apply agN;rw[bj];refine acX s (λe=>by omega) λ_ sr w s=>?_;refine aQ s λp w s=>?_;have u0:Ta.U 0:=by unfold Ta.U;omega
 refine h ⟨p,sr,⟨0,none,0,0,none,0,0⟩,⟨0,none,0,0⟩,0⟩ _ w rfl (Xi s ⟨⟨hk.1,hk.2,Lr.Mt (k:=k) (by omega),rfl,u0,u0,u0,u0,(λq hq=>by cases hq)⟩,⟨u0,u0,u0,u0,u0,u0⟩,λm e=>by cases e⟩)
structure aaZ (w:World) (r:AS) (y:gy) (m:kB):Prop where
 ok:Hl y
 o:y.o=some m
 cell:sy w r.p (Hj r y)
 g:nO w r.gr m.g
def rF {m:kB}(s:Sep F W w (iq r y::L))(ho:y.o=some m):aaZ w r y m:=by obtain⟨h,s⟩:=CZ s;refine⟨h,ho,lD s (i:=0) rfl,?_⟩;have s:Sep F W w (av r.p 106 (Hj r y)::j9 r.sh y.k y.x::(I4 r y.o++L)):=s;rw[ho]at s;exact oZ (ai (ai s))
def aaZ.c0 {m:kB}(k:aaZ w r y m){j:Nat}{v:Value}(h:([.pointer (sZ r.gr.p),.pointer (sZ r.mr.p),.pointer (sZ r.fp),.pointer (sZ r.sh.p)]++aeZ y.past)[j]? =some v):w.cell? ((aZ r.p).add j)=some v:=by apply k.cell j v;rw[Hj,k.o];exact h
def ID {Q:Int->World->Prop}{m:kB}{c:Int}(k:aaZ w r y m)(h:Q (cV m.g.m c) w):rZ (sZ r.p) c w Q:=by apply VY;have h0:=k.c0 (j:=0) rfl;exact lC (ah (dN h0 (ju k.g h)))
def RL {Q:Int->Int->World->Prop}{m:kB}(s0:Sep F W w L)(k:aaZ w r y m)(h:∀w',Sep F W w' L->Fr No w w'->Q m.g.m.w m.g.m.h w'):xw (sZ r.p) w Q:=by apply V4;have h0:=k.c0 (j:=0) rfl;exact lC (ah (dN h0 (jv s0 k.g h)))
def ahj {Q:Int->Int->Option Addr->Nat->Nat->World->Prop}{m:kB}(s0:Sep F W w L)(k:aaZ w r y m)(h:∀ra rn rc w',Sep F W w' (ak ra rn rc 5 1 (flat bp m.g.m.cs)::L)->Fr No w w'->Q m.g.m.w m.g.m.h ra rn rc w'):DZ (sZ r.p) w Q:=by apply YH;refine aV (bh (F:=No)) λmb w1 s=>?_;have h0:=k.c0 (j:=0) rfl;refine lC (ah (dN (Fr.cell (au s) h0 id) ?_));refine aep s (k.g.fr (au s)) λra rc w1 s _=>?_;refine sT s 1 rfl λw1 s=>?_;refine sT s 1 rfl λw1 s=>?_;refine ax s (i:=1) rfl rfl rfl λw1 s=>?_;refine lI s 1 rfl (lI s 1 rfl (lS s 1 rfl ?_));have s':=ck (L':=[ak ra r.gr.cn rc 5 1 (flat bp m.g.m.cs)]) [0] s rfl (by decide);exact h ra r.gr.cn rc w1 (fB s0 s') (au s')
def ae0 {Q:Int->World->Prop}{m:kB}{ce x:Int}(ho:y.o=some m)(he:m.g.ep<1000000000)(s:Sep F W w (iq r y::L))
  (h7:¬bI m.g.m.w m.g.m.h ce->Q 7 w)(h8:bI m.g.m.w m.g.m.h ce->¬(1<=x/\x<=255)->Q 8 w)
  (h0:bI m.g.m.w m.g.m.h ce->1<=x/\x<=255->∀w',Sep F W w' (iq r ⟨y.k,y.x,some ⟨xS m.g ce x,m.ms,m.f⟩,y.past⟩::L)->Q 0 w'):Cl (sZ r.p) ce x w Q:=by
 apply V3;have k:=rF s ho;obtain⟨hok,s⟩:=Oq ho s;have hm:=hok.m m ho;have c0:=k.c0 (j:=0) rfl;refine lC (ah (dN c0 ?_));have s:=pk 5 [2,0,1,3,4] s;refine ab9 s (by omega) h7 h8 λhc hx w s=>?_;refine h0 hc hx w (Ld (pk 5 [1,2,0,3,4] s) ⟨hok.sh,hok.past,λm' e=>?_⟩);cases e;exact⟨aiL hm.g hx (by omega),aps hm.g hc hm.I,apt hm.J,hm.n_,amG hm.right λkey q=>amI hm.g hc⟩
def ac2 {Q:World->Prop}{m:kB}(ho:y.o=some m)(s:Sep F W w (iq r y::L))
  (h:∀r' x' w',r'.p=r.p->x'.p=⟨[],[],y.x.b,y.x.h,y.x.st,y.x.ev⟩->Sep F W w' (iq r' ⟨y.k,x',some ⟨m.g,m.ms,⟨none,m.f.eL⟩⟩,y.past⟩::L)->Q w'):vW (sZ r.p) w Q:=by
 apply HN;have k:=rF s ho;obtain⟨hok,s⟩:=Oq ho s;have hm:=hok.m m ho;refine isS (ah (dN (k.c0 rfl) ?_));have s:=jd s;refine Po hok.sh.one s λsr w e s=>?_;refine ah (lP s 1 rfl ?_);have s:=pk 5 [4,0,1,2,3] s;refine YQ s λw s=>?_;have s:=gg (A:=[_,_,_,_,_]) (B:=[aaY ⟨r.p,sr,r.gr,r.mr,r.fp⟩ y.past,j9 sr y.k ⟨[],[],y.x.b,y.x.h,y.x.st,y.x.ev⟩,oh r.gr m.g,uR r.mr r.gr.p m.ms,uV r.fp r.mr.p r.gr.p ⟨none,m.f.eL⟩]) [2,1,3,4,0] s (by unfold aaY;rw[e];rfl) (by decide);refine h ⟨r.p,sr,r.gr,r.mr,r.fp⟩ ⟨[],[],y.x.b,y.x.h,y.x.st,y.x.ev⟩ w rfl rfl (Ld s ⟨?_,hok.past,λm' e=>?_⟩)
 ·exact⟨hok.sh.one,hok.sh.room,Lr.Mt (k:=y.k) (by have:=hok.sh.one;omega),rfl,hok.sh.b,hok.sh.h,hok.sh.st,hok.sh.ev,λq hq=>by cases hq⟩
 ·cases e;exact⟨hm.g,hm.I,⟨(λq e=>by cases e),hm.J.u⟩,hm.n_,af5⟩
def YS {Q:World->Prop}(h:Q w):qG Option.none w Q:=DO _ _ _ h
def ac3 {Q:World->Prop}(ho:y.o=Option.none)(s:Sep F W w (iq r y::L))
  (h:∀r' x' w',r'.p=r.p->x'.p=⟨[],[],y.x.b,y.x.h,y.x.st,y.x.ev⟩->Sep F W w' (iq r' ⟨y.k,x',Option.none,y.past⟩::L)->Q w'):vW (some ⟨r.p,0,Option.none⟩) w Q:=by
 apply HN;obtain⟨hok,s⟩:=CZ s;have s:Sep F W w (av r.p 106 (Hj r y)::j9 r.sh y.k y.x::(I4 r y.o++L)):=s;unfold Hj at s;rw[ho]at s;have s:=s;refine isS (ah (lP s 0 rfl ?_));have s:=jd s;refine Po hok.sh.one s λsr w e s=>?_;refine ah (lP s 1 rfl ?_);apply YS;have s:=jd s;rw[<-e]at s;refine h ⟨r.p,sr,r.gr,r.mr,r.fp⟩ ⟨[],[],y.x.b,y.x.h,y.x.st,y.x.ev⟩ w rfl rfl (Xi s ⟨?_,hok.past,λm' e=>by cases e⟩);exact⟨hok.sh.one,hok.sh.room,Lr.Mt (k:=y.k) (by have:=hok.sh.one;omega),rfl,hok.sh.b,hok.sh.h,hok.sh.st,hok.sh.ev,λq hq=>by cases hq⟩
def uW (y:gy):CY:=match y.o with
 |some m=>⟨m.ms.eL,m.f.eL,0,0,0,0⟩
 |none=>⟨0,0,0,0,0,0⟩
def apx (h:Hl y):Xh (uW y):=by
 have u0:Ta.U 0:=by unfold Ta.U;omega
 unfold uW;cases hy:y.o with
 |none=>exact⟨u0,u0,u0,u0,u0,u0⟩
 |some m=>exact⟨(h.m m hy).I.u,(h.m m hy).J.u,u0,u0,u0,u0⟩
def MH {Q:Int->Int->Int->Int->Int->Int->World->Prop}(s:Sep F W w (iq r y::L))(h:∀w',Sep F W w' (iq r y::L)->Fr No w w'->Q (uW y).a (uW y).b (uW y).c (uW y).d (uW y).e (uW y).f w'):ux (some ⟨r.p,0,Option.none⟩) w Q:=by
 apply Sw;refine aV (bh (F:=No)) λp w1 s1=>?_;have fin:∀w',Sep No w w' []->Q (uW y).a (uW y).b (uW y).c (uW y).d (uW y).e (uW y).f w':=λw' s'=>h w' (fB s s') (au s');apply ah;cases hy:y.o with
 |some m=>
  obtain⟨hok,so⟩:=Oq hy s;have k:=rF s hy;have km:=(WU (ai (ai (ai so)))).cell.fr (au s1);have kf:=(On (ai (ai (ai (ai so))))).fr (au s1);have e:uW y=⟨m.ms.eL,m.f.eL,0,0,0,0⟩:=by unfold uW;rw[hy]
  rw[e]at fin;have c1:=Fr.cell (au s1) (k.c0 (j:=1) rfl) id;have c2:=Fr.cell (au s1) (k.c0 (j:=2) rfl) id;refine dN c1 (ah (dN c2 ?_));refine aaH km ⟨c2,?_⟩;apply W4 (w:=w1.drew) kf;exact ajp (ay s1) λw' s'=>fin w' (ai s')
 |none=>
  obtain⟨hok,so⟩:=CZ s;have so:Sep F W w (av r.p 106 (Hj r y)::j9 r.sh y.k y.x::(I4 r y.o++L)):=so;unfold Hj at so;rw[hy]at so;have kb:=lD so (i:=0) rfl;have e:uW y=⟨0,0,0,0,0,0⟩:=by unfold uW;rw[hy]
  rw[e]at fin;have c1:=Fr.cell (au s1) (kb 1 _ rfl) id;have c2:=Fr.cell (au s1) (kb 2 _ rfl) id;refine dN c1 (ah (dN c2 ?_));refine aaI ⟨c2,?_⟩;apply W5;exact ajp (ay s1) λw' s'=>fin w' (ai s')
def RM (s:Sep F W w (iq r y::L)):sy w r.sh.p (Hg r.sh y.x)/\w.cell? ((⟨r.p,0,Option.none⟩:Addr).add 3)=some (.pointer (some ⟨r.sh.p,0,Option.none⟩))/\(∀j v,(aeZ y.past)[j]? =some v->w.cell? ((⟨r.p,0,Option.none⟩:Addr).add (4+j))=some v):=by
 obtain⟨hok,so⟩:=CZ s;have so:=so;have kb:=lD so (i:=0) rfl;refine⟨amH so (i:=1) rfl,?_,λj v hj=>?_⟩
 ·apply kb 3;unfold Hj;grind
 ·apply kb (4+j) v;unfold Hj;grind
def Xj (y:gy):CY:=(y.past.add (uW y)).add ⟨0,0,y.x.b,y.x.h,y.x.st,y.x.ev⟩
def ac4 {Q:Int->Int->Int->Int->Int->Int->World->Prop}(s:Sep F W w (iq r y::L))(h:∀w',Sep F W w' (iq r y::L)->Q (Xj y).a (Xj y).b (Xj y).c (Xj y).d (Xj y).e (Xj y).f w'):Bs (some ⟨r.p,0,Option.none⟩) w Q:=by
 apply UL;refine aV s λp w1 s1=>?_;have s1:=ay (jd s1);obtain⟨k1,k2,k3⟩:=RM s1;have hok:=(CZ s1).1;have hu:=hok.past;have hn:=apx hok;have u0:Ta.U 0:=by unfold Ta.U;omega
 refine lC (ah ?_);refine aL (k3 0 _ rfl) (aL (k3 1 _ rfl) (aL (k3 2 _ rfl) (aL (k3 3 _ rfl) (aL (k3 4 _ rfl) (aL (k3 5 _ rfl) ?_)))));refine ah (dN k2 ?_);refine MH s1 λw2 s2 f2=>?_;obtain⟨q1,q2,q3⟩:=RM s2;refine⟨q2,q3 0 _ rfl,q3 1 _ rfl,q3 2 _ rfl,q3 3 _ rfl,q3 4 _ rfl,q3 5 _ rfl,?_⟩;refine Ta.G7 s2 ⟨⟨hu.a,hu.b,hu.c,hu.d,hu.e,hu.f⟩,hn.a,hn.b,hn.c,hn.d,hn.e,hn.f⟩ λw3 s3=>?_;obtain⟨q1,q2,q3⟩:=RM s3;refine⟨q2,?_⟩;refine akH s3 q1 λw4 s4 _=>?_;have ha:=Xh.add hu hn;refine Ta.G7 s4 ⟨⟨ha.a,ha.b,ha.c,ha.d,ha.e,ha.f⟩,u0,u0,hok.sh.b,hok.sh.h,hok.sh.st,hok.sh.ev⟩ λw5 s5=>?_;exact ajp (jd s5) λw6 s6=>h w6 (ai s6)
end
def epO (o:Option kB):Int:=match o with
 |some m=>m.g.ep
 |none=>0
def ahw (m:bJ):nQ:=⟨List.replicate (eM m.w m.h).toNat Ms,0,0⟩
def amO (o:Option kB)(mp:bJ):kB:=⟨Ph mp (epO o),ahw mp,⟨none,0⟩⟩
def arF {mp:bJ}{e:Int}(hm:cF mp)(he:0<=e):yU (Ph mp e) (ahw mp):=by
 have hc:=gS hm.w hm.h;have hv:∀q∈(ahw mp).ps,q=Ms:=λq hq=>(List.mem_replicate.1 hq).2;have u0:Ta.U 0:=by unfold Ta.U;omega
 refine⟨?_,⟨by show(0:Int)<=e+1;omega,λq hq=>?_⟩,λe'=>?_,λi q hq hv'=>?_,u0⟩
 ·show((List.replicate _ _).length:Int)=eM mp.w mp.h;grind
 ·rw[hv q hq];show(0:Int)<=e+1;omega
 ·have e':(0:Int)=e+1:=e';omega
 ·rw[hv q (List.mem_of_getElem? hq)]at hv';have hi:=(List.getElem?_eq_some_iff.1 hq).1;have hi:i<(List.replicate (eM mp.w mp.h).toNat Ms).length:=hi;have e1:gi (Ph mp e).vs i=e+1:=by show(List.replicate (eM mp.w mp.h).toNat (e+1)).getD i 0=e+1;grind
  rw[e1]at hv';have hv':(0:Int)=e+1:=hv';omega
section
variable {F:Nat->Prop}{W w w0:World}{L:List As}{r:AS}{y:gy}{mp:bJ}{a:Option Addr}{n c:Nat}
def amP (h:Hl y):0<=epO y.o:=by
 unfold epO;cases hy:y.o with
 |none=>grind
 |some m=>have:=(h.m m hy).g.ep;grind
noncomputable abbrev asT (p sp:Nat)(v0 v1 v2:Value)(q:CY):As:=av p 106 [v0,v1,v2,.pointer (sZ sp),.int .u64 q.a,.int .u64 q.b,.int .u64 q.c,.int .u64 q.d,.int .u64 q.e,.int .u64 q.f]
def gpO (r:AS)(o:Option kB):Option Addr:=match o with
 |some _=>sZ r.gr.p
 |none=>none
def aue (s:Sep F W w (iq r y::L)):∃v1 v2,Sep F W w (asT r.p r.sh.p (.pointer (gpO r y.o)) v1 v2 y.past::j9 r.sh y.k y.x::(I4 r y.o++L)):=by
 obtain⟨hok,so⟩:=CZ s;have so:Sep F W w (av r.p 106 (Hj r y)::j9 r.sh y.k y.x::(I4 r y.o++L)):=so;unfold Hj at so;cases hy:y.o with
 |none=>
  rw[hy]at so;exact⟨_,_,so⟩
 |some m=>
  rw[hy]at so;exact⟨_,_,so⟩
def apy {Q:Int->World->Prop}{A B:As}(hok:Hl y)(s:Sep F W w (A::B::(I4 r y.o++L)))(h:Q (epO y.o) w):gf (gpO r y.o) w Q:=by
 cases hy:y.o with
 |none=>
  rw[hy]at h;exact aas h
 |some m=>
  rw[hy]at h s;have s:=s;exact rD (oZ (ai (ai s))) h
def ae1 {Q:Int->World->Prop}(hm:cF mp)(hr:ef mp.cs)(pC:mp.w*mp.h<=1600)(hC:∀w',Sep F W w' L->Sl w' a n c 1 bp mp.cs)(he:epO y.o<1000000000)(s:Sep F W w (iq r y::L))
  (h:∀r' x' w',r'.p=r.p->x'.p=⟨[],[],y.x.b,y.x.h,y.x.st,y.x.ev⟩->Sep F W w' (iq r' ⟨y.k,x',some (amO y.o mp),y.past.add (uW y)⟩::L)->Q 0 w'):Ck (sZ r.p) mp.w mp.h a n c w Q:=by
 apply V1;have hok:=(CZ s).1;have Y8:=amP hok;have hu:=hok.past;have hn:=apx hok;refine aQ s λmb w s=>lC ?_;refine lI s 0 rfl (lI s 0 rfl (lS s 0 rfl ?_));refine NV s (hC _ (ai (ai s))) λw s _=>?_;rw[(Wv hr).2 hm,Bool.not_true,cond_false];apply ah;have s:=ay (jd s);obtain⟨k1,k2,k3⟩:=RM s;refine aL (k3 0 _ rfl) (aL (k3 1 _ rfl) (aL (k3 2 _ rfl) (aL (k3 3 _ rfl) (aL (k3 4 _ rfl) (aL (k3 5 _ rfl) ?_)))));refine MH s λw s _=>?_;obtain⟨q1,q2,q3⟩:=RM s;refine⟨q3 0 _ rfl,q3 1 _ rfl,q3 2 _ rfl,q3 3 _ rfl,q3 4 _ rfl,q3 5 _ rfl,?_⟩;refine Ta.G7 s ⟨⟨hu.a,hu.b,hu.c,hu.d,hu.e,hu.f⟩,hn.a,hn.b,hn.c,hn.d,hn.e,hn.f⟩ λw s=>?_;obtain⟨v1,v2,s⟩:=aue s;apply ah;refine sT s 0 rfl λw s=>?_;refine sT s 0 rfl λw s=>?_;refine sT s 0 rfl λw s=>?_;refine sT s 0 rfl λw s=>?_;refine sT s 0 rfl λw s=>?_;refine ax s (i:=0) rfl rfl rfl λw s=>?_;have s:=cu s (L':=av mb 25 [ae mp.w,ae mp.h,.slice a n c]::asT r.p r.sh.p (.pointer (gpO r y.o)) v1 v2 (y.past.add (uW y))::j9 r.sh y.k y.x::(I4 r y.o++L)) (List.perm_middle (l₁:=_::_::I4 r y.o));have s:=ay s;refine lI s 0 rfl (lI s 0 rfl (lS s 0 rfl ?_));refine ah (lP s 1 rfl ?_);apply apy hok (ai s);refine⟨cm s 0 rfl,cm s 0 rfl,cm s 0 rfl,?_⟩;have s:=gH (ai s) (.cons_cons _ (.cons_cons _ (List.sublist_append_right _ _)));refine aeo s (hC _ (ai (ai s))) hr (by omega) (λe=>(e hm).elim) λ_ gr w s _=>?_;refine ah (ax s (i:=1) rfl rfl rfl λw s=>?_);refine ah (lP s 1 rfl ?_);refine aeG s (oZ s) λmr w s _=>?_;refine ah (ax s (i:=2) rfl rfl rfl λw s=>?_);have s:=ay s;refine ah (lP s 2 rfl (ah (lP s 2 rfl ?_)));refine acV s λfp w s _=>?_;refine ah (ax s (i:=3) rfl rfl rfl λw s=>?_);refine ah (lP s 3 rfl ?_);have s:=pk 5 [4,3,2,1,0] s;refine Po hok.sh.one s λsr w e s=>?_;rw[<-e]at s;have s:=pk 5 [1,0,2,3,4] s;refine h ⟨r.p,sr,gr,mr,fp⟩ ⟨[],[],y.x.b,y.x.h,y.x.st,y.x.ev⟩ w rfl rfl (Ld s ⟨?_,Xh.add hu hn,λm' e=>?_⟩)
 ·exact⟨hok.sh.one,hok.sh.room,Lr.Mt (k:=y.k) (by have:=hok.sh.one;omega),rfl,hok.sh.b,hok.sh.h,hok.sh.st,hok.sh.ev,λq hq=>by cases hq⟩
 ·cases e;have u0:Ta.U 0:=by unfold Ta.U;omega
  exact⟨alb hm (by omega),arF hm Y8,⟨(λq e=>by cases e),u0⟩,pC,af5⟩
end
section
variable {m:bJ}{t sc l:Int}
noncomputable def tU (m:bJ)(t sc:Int):List bq:=N2 (Fv m (D m t) t sc)
noncomputable def Ho (m:bJ)(t sc:Int):List Int:=jA (aE m.w m.h sc) (bA m.w m.h sc) (dQ m sc) (tU m t sc)
noncomputable def C0 (m:bJ)(t sc:Int):List Int:=oe (aE m.w m.h sc) (bA m.w m.h sc) (dQ m sc) (tU m t sc)
def TA (xs:List bq):(N2 xs).Perm xs:=List.mergeSort_perm _ _
def Xk (x:bq):x∈tU m t sc↔x∈Fv m (D m t) t sc:=(TA _).mem_iff
def Pq (hs:dY m.w m.h sc):(tU m t sc).Nodup:=(TA _).nodup_iff.2 (W6 hs).1
def apz (hs:dY m.w m.h sc):(tU m t sc).length<=1025:=by rw[tU,(TA _).length_eq];exact(W6 hs).2
def aa0 (hm:cF m)(hs:dY m.w m.h sc)(ht:bI m.w m.h t):sw (aE m.w m.h sc) (bA m.w m.h sc) (dQ m sc) (tU m t sc)=true:=by rw[sw,Bool.and_eq_true];exact⟨(Ru hm hs).Ec,List.all_eq_true.2 λx hx=>avb hm hs ht ((Xk x).1 hx)⟩
def asU (hm:cF m)(hs:dY m.w m.h sc)(ht:bI m.w m.h t)(hl:0<=l/\l<aE m.w m.h sc*bA m.w m.h sc):gi (Ho m t sc) l.toNat=D m t (bY m.w m.h sc l):=by have hlen:=CQ (m:=m) (sc:=sc);rw[Ho,alk ⟨hl.1,by omega⟩];exact au_ hm hs ht Xk hl
def asV (hm:cF m)(hs:dY m.w m.h sc)(ht:bI m.w m.h t)(hl:0<=l/\l<aE m.w m.h sc*bA m.w m.h sc):gi (C0 m t sc) l.toNat=kQ m t (bY m.w m.h sc l):=by have hlen:=CQ (m:=m) (sc:=sc);unfold C0 oe gi;rw[List.getD_eq_getElem?_getD,List.getElem?_map,List.getElem?_range (by omega)];show aav _ _ _ _ _ ((l.toNat:Nat):Int)=_;rw[Int.toNat_of_nonneg hl.1];refine dir_eq hm hs ht Xk (λl' hl'=>?_) hl;rw[fD,if_pos ⟨hl'.1,by show l'<((jA _ _ _ _).length:Int);rw[aaD];omega⟩];exact asU hm hs ht hl'
end
structure wm where
 g:iD
 TB:List Int
 clean:Int
 eL:Int
 kept:Option (Int×Int)
 fc:Int
def kB.p (m:kB):wm:=⟨m.g,m.ms.ps.map (·.ff),m.ms.clean,m.ms.eL,Ol m.f,m.f.eL⟩
structure qf where
 k:Int
 sh:Ue
 o:Option wm
 past:CY
def gy.p (y:gy):qf:=⟨y.k,y.x.p,y.o.map kB.p,y.past⟩
def ajC (g:iD)(TB:List Int):Nat:=((List.range TB.length).filter λi=>gi TB i !=gi g.vs i).length
noncomputable def Hq (q:qf)(m:wm)(t sc:Int):qf:=⟨q.k,CX q.k q.sh (t,sc) ⟨zQ m.g sc,tU m.g.m t sc,Ho m.g.m t sc,C0 m.g.m t sc⟩,some ⟨m.g,m.g.vs,m.g.ep,aeF (ajC m.g m.TB) m.eL,some (t,m.g.ep),if m.kept=some (t,m.g.ep)then m.fc else Ta.sat m.fc 1⟩,q.past⟩
def arG {g:iD}{x:nQ}:ajC g (x.ps.map (·.ff))=(kL g x x.ps.length).length:=by unfold ajC kL;rw[List.length_map];refine congrArg List.length (List.filter_congr λi hi=>?_);unfold Tn gi;grind
def amQ {g:iD}{x:nQ}(hg:xR g)(I:yU g x)(hf:Oa g x):x.ps.map (·.ff)=g.vs:=by
 have h1:=I.len;have h2:=hg.len;refine List.ext_getElem? λi=>?_;rw[List.getElem?_map];by_cases hi:i<x.ps.length
 ·have e1:=List.getElem?_eq_getElem hi;have e2:g.vs[i]? =some g.vs[i]:=List.getElem?_eq_getElem (by omega);have:=hf i _ e1;rw[e1,e2];show some x.ps[i].ff=_;rw[this];unfold gi;grind
 grind
section
variable {W w w0:World}{L:List As}{r:AS}{y:gy}{lg:wG}{t sc:Int}
def ajD {Q:Option Addr->Nat->Nat->Option Addr->Nat->Nat->Value->World->Prop}{fb:Nat}(hL:iL W lg)(s:Sep No W w (av fb 213 [.slice none 0 0,.slice none 0 0]::L))
  (h:∀eb w',Sep No W w' (av eb 275 [ae t,.iface 401 (.pointer (some lg.a3))]::L)->Q none 0 0 none 0 0 (.iface 273 (.pointer (sZ eb))) w'):tQ Q t (aZ fb) w:=by
 have s:=ay s;have v3:∀{w L},Sep No W w L->w.cell? (aZ 3)=some (.iface 401 (.pointer (some lg.a3))):=λs=>Fr.cell (au s) hL.v3 id;apply mW (v3 s) rfl;constructor
 ·refine aQ s λeb w s=>?_;refine sT s 1 rfl λw s=>?_;refine ax s (i:=1) rfl rfl rfl λw s=>?_;refine⟨v3 s,?_⟩;refine lS s 1 rfl (lS s 1 rfl ?_);exact h eb w (gH s (.cons_cons _ (.cons _ (List.Sublist.refl _))))
 ·refine sT s 0 rfl λw s=>?_;refine ax s (i:=0) rfl rfl rfl λw s=>?_;refine⟨v3 s,?_⟩;refine aQ s λeb w s=>?_;refine lS s 1 rfl (lS s 1 rfl ?_);exact h eb w (gH s (.cons_cons _ (.cons _ (List.Sublist.refl _))))
def arH {Q:Option Addr->Nat->Nat->Option Addr->Nat->Nat->Value->World->Prop}{b6 f:Nat}{da ra:Option Addr}{dn dc rn rc:Nat}{A:List As}{v1 v2:Value}(s:Sep No W w (av f 213 [.slice da dn dc,.slice ra rn rc]::av b6 213 [v1,v2]::L))
  (h:∀w',Sep No W w' L->Q da dn dc ra rn rc .nilIface w'):jO Q t (aZ b6) (aZ f) 0 w:=by
 unfold jO;refine lS s 0 rfl (lS s 0 rfl ?_);refine sT s 1 rfl λw s=>?_;refine ax s (i:=1) rfl rfl rfl λw s=>?_;refine lS s 1 rfl (lS s 1 rfl ?_);exact h w (ai (ai s))
end
section
variable {W w w0:World}{L:List As}{r:AS}{y:gy}{lg:wG}{t sc:Int}
def aCr:zc T 84=[ae 0,ae 0,.slice none 0 0]:=rfl
noncomputable abbrev amR (r:AS)(m:kB)(past:CY)(ms:nQ)(f:He)(tb p6:Nat)(ta:Option Addr)(tn tc:Nat)(sa:Option Addr)(sn sk:Nat)(t sc:Int)(L:List As):List As:=
 ak sa sn sk 294 3 (flat fV (tU m.g.m t sc))::ak ta tn tc 5 1 (flat bp (dQ m.g.m sc))::av tb 84 [ae (aE m.g.m.w m.g.m.h sc),ae (bA m.g.m.w m.g.m.h sc),.slice ta tn tc]::av p6 213 [.slice none 0 0,.slice none 0 0]::aaY r past::oh r.gr m.g::uR r.mr r.gr.p ms::uV r.fp r.mr.p r.gr.p f::L
def auf {Q:Option Addr->Nat->Nat->Option Addr->Nat->Nat->Value->World->Prop}{m:kB}{ms:nQ}{f:He}{tb p6 fb:Nat}{ta sa da ra:Option Addr}{tn tc sn sk n dc rc:Nat}{x':Bi}{sr:W8}{v1 v2:Value}(e:sr.p=r.sh.p)(hok:Hl ⟨y.k,x',some ⟨m.g,ms,f⟩,y.past⟩)
  (s:Sep No W w (av fb 213 [v1,v2]::ak ra n rc 3 1 (flat one (C0 m.g.m t sc))::ak da n dc 3 1 (flat one (Ho m.g.m t sc))::j9 sr y.k x'::amR r m y.past ms f tb p6 ta tn tc sa sn sk t sc L))
  (uU:∀r' w',r'.p=r.p->Sep No W w' (ak ra n rc 3 1 (flat one (C0 m.g.m t sc))::ak da n dc 3 1 (flat one (Ho m.g.m t sc))::iq r' ⟨y.k,x',some ⟨m.g,ms,f⟩,y.past⟩::L)->Q da n dc ra n rc .nilIface w'):
  St ((aZ fb).add 0) (.slice da n dc) w λw=>St ((aZ fb).add 1) (.slice ra n rc) w λw=>jO Q t (aZ p6) (aZ fb) 0 w:=by
 refine sT s 0 rfl λw s=>?_;refine ax s (i:=0) rfl rfl rfl λw s=>?_;have s:=gg (A:=[_,_,_,_,_,_,_,_,_,_,_,_]) (B:=[_,_,_,_,_,_,_,_,_]) [0,7,8,3,9,10,11,1,2] s rfl (by decide);refine arH (A:=[]) s λw s=>?_;have s:Sep No W w (aaY ⟨r.p,sr,r.gr,r.mr,r.fp⟩ y.past::j9 sr y.k x'::oh r.gr m.g::uR r.mr r.gr.p ms::uV r.fp r.mr.p r.gr.p f::ak ra n rc 3 1 (flat one (C0 m.g.m t sc))::ak da n dc 3 1 (flat one (Ho m.g.m t sc))::L):=by unfold aaY;simp_all
 have s:=Ld s hok;have s:=gg (A:=[_,_,_]) (B:=[_,_,_]) [1,2,0] s rfl (by decide);grind
attribute [local irreducible] tQ jO yS in
theorem Ot {Q:Option Addr->Nat->Nat->Option Addr->Nat->Nat->Value->World->Prop}{m:kB}(ho:y.o=some m)(hL:iL W lg)(s:Sep No W w (iq r y::L))(Ou:Lr.Zg (t,sc))
  (Hr:¬(bI m.g.m.w m.g.m.h t/\dY m.g.m.w m.g.m.h sc)->∀eb w',Sep No W w' (av eb 275 [ae t,.iface 401 (.pointer (some lg.a3))]::iq r y::L)->Q none 0 0 none 0 0 (.iface 273 (.pointer (sZ eb))) w')
  (uU:bI m.g.m.w m.g.m.h t->dY m.g.m.w m.g.m.h sc->∀r' y' da dc ra rc w',r'.p=r.p->y'.p=Hq y.p m.p t sc->Sep No W w' (ak ra (dQ m.g.m sc).length rc 3 1 (flat one (C0 m.g.m t sc))::ak da (dQ m.g.m sc).length dc 3 1 (flat one (Ho m.g.m t sc))::iq r' y'::L)->Q da (dQ m.g.m sc).length dc ra (dQ m.g.m sc).length rc .nilIface w'):
  vZ (sZ r.p) t sc w Q:=by
 apply Va;refine aV s λp6 w s=>?_;have s:=jd s;have k:=rF s ho;have c0:=k.c0 (j:=0) rfl;refine lC (ah (dN c0 (lC (ah (dN c0 ?_)))));have hm:=(k.ok.m m ho);have hmay:=hm.g.may;refine NU s k.g (λhs w s _=>?_) λhs ta tn tc w s _=>?_
 ·
  refine aV s λtb w s=>?_;refine sT s 0 rfl λw s=>?_;refine sT s 0 rfl λw s=>?_;refine sT s 0 rfl λw s=>?_;have s:=ai s;have k:=rF s ho;have c0:=k.c0 (j:=0) rfl;refine ah (dN c0 (ju k.g ?_));have fin:=ajD hL (jd s) λeb w s=>Hr (λe=>hs e.2) eb w s;grind
 ·rw[aiU hmay hs]at s;refine aV s λtb w s=>?_;refine sT s 0 rfl λw s=>?_;refine sT s 0 rfl λw s=>?_;refine ax s (i:=0) rfl rfl rfl λw s=>?_;have k:=rF (ai (ai s)) ho;have c0:=k.c0 (j:=0) rfl;refine ah (dN c0 (ju k.g ?_));by_cases ht:bI m.g.m.w m.g.m.h t
  ·have tV:=Mj hmay ht;rw[cL (by omega),cond_false,Bool.not_true,cond_false];have s:=gg (A:=[_,_,_,_]) (B:=[_,_,_,_]) [2,0,1,3] s rfl (by decide);obtain⟨hok,s⟩:=Oq ho s;have s:=ay s;refine ah (lP s 0 rfl (ah (lP s 0 rfl ?_)));have s:=gg (A:=[_,_,_,_,_,_,_,_]) (B:=[_,_,_,_,_,_,_,_]) [2,3,4,0,1,5,6,7] s rfl (by decide);refine YR s hm.I hm.J ht hm.n_ λms' rr ds w I' hf' yF WQ hro s=>?_;refine⟨cm s 3 rfl,?_⟩;have kr:=af2 (ai (ai s)) rfl;refine W7 s (oZ s) kr hro ht hs λsa sn sk w s _=>?_;have s:=ay s;refine ah (lP s 4 rfl (ah (lP s 4 rfl ?_)));refine lI s 6 rfl (lI s 6 rfl (lS s 6 rfl ?_));have s:=gg (A:=[_,_,_,_,_,_,_,_,_]) (B:=[_,_,_,_,_,_,_,_,_]) [5,0,7,6,8,4,1,2,3] s rfl (by decide);generalize hf:(⟨some (rr,⟨t,m.g.ep,ds⟩),if Ol m.f=some (t,m.g.ep)then m.f.eL else Ta.sat m.f.eL 1⟩:He)=f' at s;have s:=s;have Mh:(tU m.g.m t sc).length=sn:=(aG s (i:=1) rfl nP (by decide)).len;have Cd:=apz (t:=t) hs;have hu1:Ta.U f'.eL:=by
    rw[<-hf];split
    ·exact hm.J.u
    ·exact Ta.G6 hm.J.u (by unfold Ta.U;omega)
   have J':acU m.g f':=by refine⟨λq e=>?_,hu1⟩;rw[<-hf]at e;cases e;exact⟨Int.le_refl _,λ_=>⟨ht,hro⟩⟩
   have aza:zQ m.g sc<=m.g.ep:=by
    unfold zQ;split
    ·have hm1:gi m.g.vs sc.toNat∈m.g.vs:=by rw[gi,List.getD_eq_getElem?_getD,List.getElem?_eq_getElem (by omega)];exact List.getElem_mem _
     exact(hm.g.vs _ hm1).2
    ·have:=hm.g.ep;omega
   have hh:(Lr.kT y.k y.x.l (t,sc)).1.2.1=true->∀q,y.x.p.es[(Lr.kT y.k y.x.l (t,sc)).1.1.toNat]? =some q->q.ff=zQ m.g sc->q.iT=tU m.g.m t sc->q.ds=Ho m.g.m t sc/\q.rs=C0 m.g.m t sc:=λhd q hq hv he=>by obtain⟨_,_,h3⟩:=ajo hok.sh hm.right hd hq;have h4:=h3 hv;rw[he]at h4;exact h4
   have azb:∀x':Bi,x'.p=CX y.k y.x.p (t,sc) ⟨zQ m.g sc,tU m.g.m t sc,Ho m.g.m t sc,C0 m.g.m t sc⟩->Hl ⟨y.k,x',some ⟨m.g,ms',f'⟩,y.past⟩:=λx' ex=>by
    refine⟨?_,hok.past,λm' e=>?_⟩
    ·rw[ex];exact ary hok.sh (by show(tU m.g.m t sc).length<2000;omega)
    ·cases e;refine⟨hm.g,I',J',hm.n_,?_⟩;rw[ex];exact apo hok.sh hm.right ⟨aza,hs,λ_=>⟨rfl,rfl⟩⟩
   have hp':∀x':Bi,x'.p=CX y.k y.x.p (t,sc) ⟨zQ m.g sc,tU m.g.m t sc,Ho m.g.m t sc,C0 m.g.m t sc⟩->(gy.mk y.k x' (some ⟨m.g,ms',f'⟩) y.past).p=Hq y.p m.p t sc:=λx' ex=>by unfold gy.p Hq;simp only[Option.map_some];rw[ex];unfold kB.p;rw[amQ hm.g I' hf',yF,WQ,arG,<-hf];rfl
   have cC:∀w',Sep No W w' (amR r m y.past ms' f' tb p6 ta tn tc sa sn sk t sc L)->Sl w' ta tn tc 1 bp (dQ m.g.m sc):=λw' s=>aG s (i:=1) rfl cZ (by decide);have cX:∀w',Sep No W w' (amR r m y.past ms' f' tb p6 ta tn tc sa sn sk t sc L)->Sl w' sa sn sk 3 fV (tU m.g.m t sc):=λw' s=>aG s (i:=0) rfl nP (by decide);have done:∀{fb:Nat} {v1 v2:Value} {w:World} {sr:W8} {x':Bi} {da ra:Option Addr} {dc rc:Nat},sr.p=r.sh.p->x'.p=CX y.k y.x.p (t,sc) ⟨zQ m.g sc,tU m.g.m t sc,Ho m.g.m t sc,C0 m.g.m t sc⟩->
     Sep No W w (av fb 213 [v1,v2]::ak ra (dQ m.g.m sc).length rc 3 1 (flat one (C0 m.g.m t sc))::ak da (dQ m.g.m sc).length dc 3 1 (flat one (Ho m.g.m t sc))::j9 sr y.k x'::amR r m y.past ms' f' tb p6 ta tn tc sa sn sk t sc L)->
     St ((aZ fb).add 0) (.slice da (dQ m.g.m sc).length dc) w λw=>St ((aZ fb).add 1) (.slice ra (dQ m.g.m sc).length rc) w λw=>jO Q t (aZ p6) (aZ fb) 0 w:=λ{fb v1 v2 w sr x' da ra dc rc} e ex s=>by
    refine auf e (azb x' ex) s λr' w' er s=>?_;exact uU ht hs r' _ da dc ra rc w' er (hp' x' ex) s
   have d6:∀{w:World} {A B C D E G:As} {X:List As},Sep No W w (A::B::C::D::E::G::X)->Sep No W w X:=λs=>ai (ai (ai (ai (ai (ai s)))));refine⟨su (oZ (d6 s)) ?_,?_⟩
   ·refine⟨cm s 3 rfl,cm s 3 rfl,cm s 3 rfl,cm s 5 rfl,?_,?_⟩
    ·refine Xa hok.sh (Ru hmay hs) (aa0 hmay hs ht) (Pq hs) (by omega) cC cX Ou hh s λsr x' da dc ra rc w e ex s=>?_;refine aV s λfb w s=>?_;refine⟨cm s 6 rfl,cm s 6 rfl,cm s 6 rfl,cm s 8 rfl,cm s 8 rfl,?_⟩;exact done e ex s
    ·refine aV s λfb w s=>?_;refine⟨cm s 4 rfl,cm s 4 rfl,cm s 4 rfl,cm s 6 rfl,cm s 6 rfl,?_⟩;refine Xa hok.sh (Ru hmay hs) (aa0 hmay hs ht) (Pq hs) (by omega) (λw' s=>cC w' (ai s)) (λw' s=>cX w' (ai s)) Ou hh (jd s) λsr x' da dc ra rc w e ex s=>?_;exact done e ex (pk 4 [3,0,1,2] s)
   ·refine aV s λfb w s=>?_;refine⟨cm s 4 rfl,cm s 4 rfl,cm s 4 rfl,cm s 6 rfl,cm s 6 rfl,?_⟩;apply su (oZ (d6 (ai s)));refine⟨cm s 4 rfl,cm s 4 rfl,cm s 4 rfl,cm s 6 rfl,?_⟩;refine Xa hok.sh (Ru hmay hs) (aa0 hmay hs ht) (Pq hs) (by omega) (λw' s=>cC w' (ai s)) (λw' s=>cX w' (ai s)) Ou hh (jd s) λsr x' da dc ra rc w e ex s=>?_;exact done e ex (pk 4 [3,0,1,2] s)
  ·rw[show cV m.g.m t=0 from by unfold cV;rw[if_neg λe=>ht ⟨hm.g.iS,e.1,by rw[<-hmay.len];exact e.2⟩]];exact ajD hL (gg (A:=[_,_,_,_]) (B:=[_,_]) [3,2] s rfl (by decide)) λeb w s=>Hr (λe=>ht e.1) eb w s
end
end Go.Proofs.YtmegplnmiepfbaaGreatDoor.S
set_option maxRecDepth 20000
namespace Go.Proofs.YtmegplnmiepfbaaGreatDoor.S
open Go.Sx
attribute [local irreducible] af cD bz bg aA cy b_ St Bx Al App cK cE cB bV aN bG aq bT av ak aW mapA
section
variable {W w w0:World}{L:List As}{r:AS}{y:gy}{lg:wG}{t sc ce w1 h1:Int}
def Uf {Q:Int->World->Prop}(h:Q 0 w):zi .nilIface w Q:=QX _ _ _ h
def ae2 {Q:Int->World->Prop}{eb:Nat}(hL:iL W lg)(s:Sep No W w (av eb 275 [ae t,.iface 401 (.pointer (some lg.a3))]::L))(h:Q 7 w):zi (.iface 273 (.pointer (sZ eb))) w Q:=by apply QX;have k:=hL.fr (au s);have hc:=lD s (i:=0) rfl 1 _ rfl;refine tT (mW k.v2 rfl ?_);obtain⟨c2,t2,h2⟩:=k.b2;obtain⟨c3,t3,h3⟩:=k.b3;apply Ty (.inr rfl) (.inl rfl) hc (λx y K hk=>acZ (λe=>k.n23 e.symm) h3 h2 hk);apply mW k.v3 rfl;apply Ty (.inr rfl) (.inl rfl) hc (λx y K hk=>Xc hk);exact h
def Ov {Q:Option Addr->Nat->Nat->Option Addr->Nat->Nat->Int->World->Prop}{m:kB}(ho:y.o=some m)(hL:iL W lg)(s:Sep No W w (iq r y::L))(ht:bI m.g.m.w m.g.m.h t)(hs:dY m.g.m.w m.g.m.h sc)(Ou:Lr.Zg (t,sc))
  (uU:∀r' y' da dc ra rc w',r'.p=r.p->y'.p=Hq y.p m.p t sc->Sep No W w' (ak ra (dQ m.g.m sc).length rc 3 1 (flat one (C0 m.g.m t sc))::ak da (dQ m.g.m sc).length dc 3 1 (flat one (Ho m.g.m t sc))::iq r' y'::L)->Q da (dQ m.g.m sc).length dc ra (dQ m.g.m sc).length rc 0 w'):
  vY (sZ r.p) t sc w Q:=by
 apply Vc;refine aV s λp6 w s=>?_;refine Ot ho hL (jd s) Ou (λe=>(e ⟨ht,hs⟩).elim) λ_ _ r' y' da dc ra rc w er ey s=>?_;refine aV s λfb w s=>?_;refine sT s 0 rfl λw s=>?_;refine ax s (i:=0) rfl rfl rfl λw s=>?_;have s:=ay s;refine lS s 0 rfl (lS s 0 rfl ?_);apply Uf;refine⟨cm s 0 rfl,cm s 0 rfl,?_⟩;refine sT s 4 rfl λw s=>?_;refine ax s (i:=4) rfl rfl rfl λw s=>?_;refine lS s 4 rfl (lS s 4 rfl ?_);exact uU r' y' da dc ra rc w er ey (pk 5 [1,2,3] s)
def apB (hm:iS w1 h1):iK (aC w1 h1 ce):=by
 have hc:=gS hm.1 hm.2;unfold iK;by_cases h:bI w1 h1 ce
 ·have:=(bU h).2;omega
 ·unfold aC;grind
def ac5 {ys:List Int}{k:Nat}{x:Int}(h:ys[k]? =some x):x=gi ys k:=by unfold gi;grind
def ae3 {Q:Int->Int->Value->World->Prop}{m:kB}(ho:y.o=some m)(hL:iL W lg)(s:Sep No W w (iq r y::L))(Ou:(Lit.int .i64 t).wf=true)
  (Hr:¬(bI m.g.m.w m.g.m.h t/\bI m.g.m.w m.g.m.h ce)->∀eb w',Sep No W w' (av eb 275 [ae t,.iface 401 (.pointer (some lg.a3))]::iq r y::L)->Q 0 0 (.iface 273 (.pointer (sZ eb))) w')
  (uU:bI m.g.m.w m.g.m.h t->bI m.g.m.w m.g.m.h ce->∀r' y' w',r'.p=r.p->y'.p=Hq y.p m.p t (cW m.g.m ce)->Sep No W w' (iq r' y'::L)->Q (D m.g.m t ce) (kQ m.g.m t ce) .nilIface w'):
  Cn (sZ r.p) t ce w Q:=by
 apply Wp;have k:=rF s ho;have hm:=k.ok.m m ho;have hmay:=hm.g.may;refine RL s k λw s _=>?_;refine e_ s λw s _=>?_;refine Ot ho hL s ⟨Ou,iK.wf (apB hm.g.iS)⟩ (λe eb w s=>?_) λht hs r' y' da dc ra rc w er ey s=>?_
 ·refine aV s λfb w s=>?_;refine sT s 0 rfl λw s=>?_;refine sT s 0 rfl λw s=>?_;exact Hr (λh=>e ⟨h.1,bU h.2⟩) eb w (ai s)
 ·have hc:bI m.g.m.w m.g.m.h ce:=by
   by_cases h:bI m.g.m.w m.g.m.h ce
   ·exact h
   ·unfold aC at hs;rw[if_neg h]at hs;have:=hs.2.1;omega
  have hlr:=ko hc;have WE:=og hc;have hlen:=CQ (m:=m.g.m) (sc:=aC m.g.m.w m.g.m.h ce);refine aV s λfb w s=>?_;refine sT s 0 rfl λw s=>?_;refine ax s (i:=0) rfl rfl rfl λw s=>?_;refine tR s λw s _=>?_;have s:=ay s;apply lS s 0 rfl;have kD:=aG s (i:=2) rfl bX (by decide);have kR:=aG s (i:=1) rfl bX (by decide);have hk:dZ m.g.m.w m.g.m.h ce=((dZ m.g.m.w m.g.m.h ce).toNat:Int):=by omega
  apply kD.ql hk (by omega);apply lS s 0 rfl;refine kR.El hk (by omega) λp x hx hcell=>?_;have h0:=hcell 0 _ rfl;refine aL h0 ⟨h0,cm s 0 rfl,?_⟩;have eD:=asU hmay hs ht hlr;have eR:=asV hmay hs ht hlr;rw[WE]at eD eR;rw[ac5 hx,eD,eR];exact uU ht hc r' y' _ er ey (ai (ai (ai s)))
def ae4 {Q:Int->Int->Int->World->Prop}{m:kB}(ho:y.o=some m)(hL:iL W lg)(s:Sep No W w (iq r y::L))(Ou:(Lit.int .i64 t).wf=true)
  (Hr:¬(bI m.g.m.w m.g.m.h t/\bI m.g.m.w m.g.m.h ce)->∀w',Sep No W w' (iq r y::L)->Q 0 0 7 w')
  (uU:bI m.g.m.w m.g.m.h t->bI m.g.m.w m.g.m.h ce->∀r' y' w',r'.p=r.p->y'.p=Hq y.p m.p t (cW m.g.m ce)->Sep No W w' (iq r' y'::L)->Q (D m.g.m t ce) (kQ m.g.m t ce) 0 w'):
  Cm (sZ r.p) t ce w Q:=by
 apply Wq;refine ae3 ho hL s Ou (λe eb w s=>?_) λht hc r' y' w er ey s=>?_
 ·exact ae2 hL s (Hr e w (ai s))
 ·exact Uf (uU ht hc r' y' w er ey s)
end
def Pt (y:rI)(cell goal:Int):rI:=⟨y.most,y.next+1,y.us++[⟨y.next,cell,goal⟩]⟩
section
variable {F:Nat->Prop}{W w w0:World}{L:List As}{r:WZ}{y:rI}{cell goal:Int}
def apC {us:List aP}{u:aP}{i:Int}(h:∀v∈us,v.id<u.id):gQ (us++[u]) i=if i=u.id then some u else gQ us i:=by unfold gQ;grind
def apD {us:List aP}{i:Int}(h:∀v∈us,v.id≠i):gQ us i=none:=by unfold gQ;grind
def av5 {r:WZ}{mb':Nat}{a:Option Addr}{n c:Nat}{ms':List (Int×aP)}(h:Tr r y)(hroom:(y.us.length:Int)<y.most)(hn:y.next<1000000000)(hk:o7 ms')(ha:∀i,fE ms' i=if i=y.next then some ⟨y.next,cell,goal⟩else fE r.ms i)(hl:ms'.length=if(fE r.ms y.next).isNone then r.ms.length+1 else r.ms.length):
  Tr ⟨r.p,mb',a,n,c,ms',r.os++[y.next]⟩ (Pt y cell goal):=by
 have hlt:∀v∈y.us,v.id<y.next:=λv hv=>(h.jG v hv).2
 have hg:∀i,gQ (Pt y cell goal).us i=if i=y.next then some ⟨y.next,cell,goal⟩else gQ y.us i:=λi=>apC hlt
 have hno:gQ y.us y.next=none:=apD λv hv=>by grind
 refine⟨h.most,hk,λi=>?_,?_,?_,?_,?_,?_,?_,?_,?_⟩
 ·rw[hg,ha,h.fE]
 ·show ms'.length=(y.us++[_]).length;rw[hl,h.fE,hno,List.length_append,h.len];rfl
 ·show(r.os++[y.next]).filter _=(y.us++[_]).map _;rw[List.filter_append,List.map_append,<-h.ord];congr 1
  ·refine List.filter_congr λi hi=>?_;have:=(h.onx i hi).2;grind
  grind
 ·show(r.os++[_]).length<=2*(y.us++[_]).length;have:=h.aja;grind
 ·show((y.us++[_]).map _).Pairwise _;rw[List.map_append,List.pairwise_append];refine⟨h.N8,by simp,λa ha b hb=>?_⟩;grind
 ·intro u hu;show 0<=u.id/\u.id<y.next+1
  rcases List.mem_append.1 hu with hu|hu
  ·have:=h.jG u hu;omega
  ·rw[List.mem_singleton]at hu;subst hu;have:=h.RA;grind
 ·show((y.us++[_]).length:Int)<=y.most;grind
 ·intro i hi;show 0<=i/\i<y.next+1
  rcases List.mem_append.1 hi with hi|hi
  ·have:=h.onx i hi;omega
  ·rw[List.mem_singleton]at hi;have:=h.RA;omega
 ·have:=h.RA;show 0<=y.next+1/\y.next+1<=1000000000
  omega
def ac6 {Q:Int->Bool->World->Prop}(s:Sep F W w (wF r y::L))(hn:y.next<1000000000)(hroom:(y.us.length:Int)<y.most)
  (h:∀r' w',r'.p=r.p->Sep F W w' (wF r' (Pt y cell goal)::L)->Q y.next true w'):zg (sZ r.p) cell goal w Q:=by
 apply Qy;obtain⟨hok,s⟩:=vi (ay s);refine lC (ah (lM s 0 rfl (ah (lI s 0 rfl ?_))));apply arn La s (i:=1) rfl;refine⟨cm s 0 rfl,?_⟩;rw[hok.len,bj];have RN:=hok.RA;refine ah (lI s 0 rfl (ah (lI s 0 rfl ?_)));rw[Ia (iK.wf (by unfold iK;omega))];refine ah (sT s 0 rfl λw s=>?_);refine ah (lM s 0 rfl ?_);refine Mx (ms:=r.ms) (a:=⟨y.next,cell,goal⟩) La s (i:=1) rfl hok.F7 (by show iK y.next;unfold iK;omega) λms' w hk ha hl s=>?_;refine ah (lS s 0 rfl ?_);have s:=pk 3 [2,0,1] s;have hol:=hok.aja;have XY:=hok.most;have CN:=(aG s (i:=0) rfl bX (by decide)).len;refine L_ s (by omega) λa' c' w s=>?_;refine ah (ax s (i:=1) rfl rfl rfl λw s=>?_);refine h ⟨r.p,r.mb,a',r.on+1,c',ms',r.os++[y.next]⟩ w rfl (Fz ?_ (av5 hok hroom hn hk ha hl));exact pk 3 [1,2,0] s
end
def wo (y:rI)(id:Int)(f:aP->aP):rI:=⟨y.most,y.next,y.us.map λv=>if v.id=id then f v else v⟩
section
variable {F:Nat->Prop}{W w w0:World}{L:List As}{r:WZ}{y:rI}{cell goal id:Int}{f:aP->aP}
def af8 (hf:∀u,(f u).id=u.id){i:Int}:∀{us:List aP},gQ (us.map λv=>if v.id=id then f v else v) i=if i=id then(gQ us id).map f else gQ us i
 |[]=>by simp[gQ]
 |u::us=>by have ih:=af8 (i:=i) hf (us:=us);unfold gQ at ih⊢;grind
def arI (hf:∀u,(f u).id=u.id){us:List aP}:(us.map λv=>if v.id=id then f v else v).map (·.id)=us.map (·.id):=by rw[List.map_map];refine List.map_congr_left λv _=>?_;grind
def aug {u:aP}{ms':List (Int×aP)}(h:Tr r y)(hf:∀u,(f u).id=u.id)(hu:gQ y.us id=some u)(hk:o7 ms')(ha:∀i,fE ms' i=if i=id then some (f u)else fE r.ms i)(hl:ms'.length=if(fE r.ms id).isNone then r.ms.length+1 else r.ms.length):
  Tr ⟨r.p,r.mb,r.oa,r.on,r.oc,ms',r.os⟩ (wo y id f):=by
 have hg:∀i,gQ (wo y id f).us i=if i=id then(gQ y.us id).map f else gQ y.us i:=λi=>af8 hf
 have Kl:(wo y id f).us.map (·.id)=y.us.map (·.id):=arI hf;have hlen:(wo y id f).us.length=y.us.length:=by have:=congrArg List.length Kl;grind
 refine⟨h.most,hk,λi=>?_,?_,?_,?_,?_,?_,?_,h.onx,h.RA⟩
 ·rw[hg,ha,h.fE,hu];rfl
 ·rw[hlen,hl,h.fE,hu,<-h.len];rfl
 ·rw[Kl,<-h.ord];grind
 ·rw[hlen];exact h.aja
 ·rw[Kl];exact h.N8
 ·intro v hv;have hm:v.id∈(wo y id f).us.map (·.id):=List.mem_map.2 ⟨v,hv,rfl⟩;rw[Kl]at hm;obtain⟨v',hv',e⟩:=List.mem_map.1 hm;rw[<-e];exact h.jG v' hv'
 ·rw[hlen];exact h.n_
def Ow {Q:Bool->World->Prop}{Xl:Value}(xW:iK id)(hf:∀u,(f u).id=u.id)
  (axb:∀(x:Nat) (w:World) (u:aP) (K:World->Prop),Sep F W w (av x 43 (gN u)::wF r y::L)->(∀w',Sep F W w' (av x 43 (gN (f u))::wF r y::L)->K w')->iw (cx 25) Xl [.pointer (sZ x)] w λv w'=>dT v λl=>kU l (K w'))
  (s:Sep F W w (wF r y::L))(hno:gQ y.us id=none->∀w',Sep F W w' (wF r y::L)->Q false w')
  (hyes:(gQ y.us id).isSome=true->∀r' w',r'.p=r.p->Sep F W w' (wF r' (wo y id f)::L)->Q true w'):sJ (sZ r.p) id Xl w Q:=by
 apply QE;refine s9 s xW (λhn w s=>?_) λu hu w s=>?_
 ·refine aV s λx w s=>?_;refine sT s 0 rfl λw s=>?_;refine sT s 0 rfl λw s=>?_;refine sT s 0 rfl λw s=>?_;exact hno hn w (ai s)
 ·refine aV s λx w s=>?_;refine sT s 0 rfl λw s=>?_;refine sT s 0 rfl λw s=>?_;refine ax s (i:=0) rfl rfl rfl λw s=>?_;refine axb x w u _ s λw s=>?_;have s:=ay s;obtain⟨hok,s⟩:=vi (jd s);refine ah (lM s 0 rfl ?_);refine lI s 3 rfl (lI s 3 rfl (lI s 3 rfl ?_));refine Mx La s (i:=1) rfl hok.F7 xW λms' w hk ha hl s=>?_;refine hyes (by rw[hu];rfl) ⟨r.p,r.mb,r.oa,r.on,r.oc,ms',r.os⟩ w rfl (Fz ?_ (aug hok hf hu hk ha hl));exact pk 4 [0,1,2] s
def aAU:pz 156 fns=true:=by kernel_rfl
def aAV:pz 128 fns=true:=by kernel_rfl
def amS {m x b:Nat}{Q:World->Prop}(h:Co (sZ x) (sZ b) w Q):iw (cx m) (.func (.func 156) #[] #[.pointer (sZ b)]) [.pointer (sZ x)] w λv w'=>dT v λl=>kU l (Q w'):=by unfold iw;simp only;exact h
def apE {m x b:Nat}{Q:World->Prop}(h:DL (sZ x) (sZ b) w Q):iw (cx m) (.func (.func 128) #[] #[.pointer (sZ b)]) [.pointer (sZ x)] w λv w'=>dT v λl=>kU l (Q w'):=by unfold iw;simp only;exact h
def aa1 {Q:Bool->World->Prop}(xW:iK id)(s:Sep F W w (wF r y::L))(hno:gQ y.us id=none->∀w',Sep F W w' (wF r y::L)->Q false w')
  (hyes:(gQ y.us id).isSome=true->∀r' w',r'.p=r.p->Sep F W w' (wF r' (wo y id λu=>⟨u.id,cell,u.goal⟩)::L)->Q true w'):yn (sZ r.p) id cell w Q:=by
 apply O_;refine aQ s λcb w s=>?_;refine Ow (f:=λu=>⟨u.id,cell,u.goal⟩) xW (λu=>rfl) (λx w u K s hK=>?_) (jd s) (λhn w s=>hno hn w (gH s (.cons_cons _ (List.sublist_cons_self _ _)))) (λhs r' w e s=>hyes hs r' w e (gH s (.cons_cons _ (List.sublist_cons_self _ _))));apply amS;apply L0;refine ah (lI s 2 rfl (ah (sT s 0 rfl λw s=>?_)));exact hK w s
def ac7 {Q:Bool->World->Prop}(xW:iK id)(s:Sep F W w (wF r y::L))(hno:gQ y.us id=none->∀w',Sep F W w' (wF r y::L)->Q false w')
  (hyes:(gQ y.us id).isSome=true->∀r' w',r'.p=r.p->Sep F W w' (wF r' (wo y id λu=>⟨u.id,u.cell,goal⟩)::L)->Q true w'):zf (sZ r.p) id goal w Q:=by
 apply QF;refine aQ s λcb w s=>?_;refine Ow (f:=λu=>⟨u.id,u.cell,goal⟩) xW (λu=>rfl) (λx w u K s hK=>?_) (jd s) (λhn w s=>hno hn w (gH s (.cons_cons _ (List.sublist_cons_self _ _)))) (λhs r' w e s=>hyes hs r' w e (gH s (.cons_cons _ (List.sublist_cons_self _ _))));apply apE;apply M9;refine ah (lI s 2 rfl (ah (sT s 0 rfl λw s=>?_)));exact hK w s
end
section
variable {F:Nat->Prop}{W w w0:World}{L:List As}{r:WZ}{y:rI}{cell goal id:Int}{a:Option Addr}{n c:Nat}{us:List aP}
def arJ {x:aP}{K:Option Addr->Nat->Nat->World->Prop}(s:Sep F W w (ak a n c 43 3 (flat gN us)::L))(hn:n<=1000000000)
  (k:∀a' c' w',Sep F W w' (ak a' (n+1) c' 43 3 (flat gN (us++[x]))::L)->K a' (n+1) c' w'):Bx [ae x.id,ae x.cell,ae x.goal] 43 w λp w1=>App P #[39,39] 39 (.slice a n c) (.slice (some p) 1 1) w1 K:=by
 refine aQ s λb w s=>?_;have src:Src w (sZ b) 1 3 (gN x):=⟨rfl,ao6 x,λj u hj=>by rw[cw,Nat.zero_add];exact cO s (i:=0) rfl rfl hj⟩;refine iy dU s (i:=1) (bytes:=24) rfl rfl rfl rfl rfl rfl (by decide) rfl src (by simp[maxLen];omega) (by omega) (λe=>by cases e) λa1 c1 w1 s1=>?_;have e:flat gN us++gN x=flat gN (us++[x]):=by rw[f_];simp[flat]
 rw[e]at s1;exact k _ _ _ (ai s1)
def XZ (h:(us.map (·.id)).Pairwise (·<·)){i:Nat}{u:aP}(hu:us[i]? =some u):gQ us u.id=some u:=by
 unfold gQ;induction us generalizing i with
 |nil=>simp at hu
 |cons v us ih=>
  rw[List.map_cons,List.pairwise_cons]at h;cases i with
  |zero=>
   grind
  |succ i=>
   have:=h.1 u.id (List.mem_map.2 ⟨u,List.mem_of_getElem? hu,rfl⟩);grind
def ac8 {Q:Option Addr->Nat->Nat->World->Prop}(s:Sep F W w (wF r y::L))(h:∀a n c w',Sep F W w' (ak a n c 43 3 (flat gN y.us)::wF r y::L)->Q a n c w'):y_ (sZ r.p) w Q:=by
 apply QY;obtain⟨hok,s⟩:=vi s;have pC:=hok.n_;have XY:=hok.most;have hol:=hok.aja;have RN:=hok.RA;apply lC;refine Zi hok.F7 (λi hi=>by have:=hok.onx i hi;unfold iK;omega) (by omega) s λia N ic w s=>?_;have aze:(r.os.filter λi=>(fE r.ms i).isSome)=y.us.map (·.id):=by rw[<-hok.ord];refine List.filter_congr λi _=>?_;rw[hok.fE]
 rw[aze]at s;have hN:y.us.length=N:=by have:=(aG s (i:=0) rfl bX (by decide)).len;grind
 have loop:∀(j i:Nat) (a:Option Addr) (n c:Nat) (w:World),i+j=N->Sep F W w (ak a n c 43 3 (flat gN (y.us.take i))::ak ia N ic 3 1 (flat one (y.us.map (·.id)))::av r.p 171 (W0 r y)::fR fA I0 r.mb r.ms::ak r.oa r.on r.oc 3 1 (flat one r.os)::L)->
   wk Q (j+1) (sZ r.p) a n c ia N ic (N:Int) i w:=by
  intro j;induction j with
  |zero=>
   intro i a n c w hij s;show qZ _ _ _ _ _ _ _ _ _ _ _ _;rw[qZ,bj];rw[List.take_of_length_le (by omega)]at s;apply h a n c w;have s:=pk 5 [2,3,4,0] s;exact cu (Fz s hok) (List.Perm.swap _ _ _)
  |succ j ih=>
   intro i a n c w hij s;show qZ _ _ _ _ _ _ _ _ _ _ _ _;rw[qZ,bM];have hi:i<y.us.length:=by omega
   have hn:=(aG s (i:=0) rfl jM (by decide)).len;rw[List.length_take]at hn;obtain⟨u,hu⟩:∃u,y.us[i]? =some u:=⟨_,List.getElem?_eq_getElem hi⟩;have hgi:gi (y.us.map (·.id)) i=u.id:=by unfold gi;grind
   have yH:y.us.take (i+1)=y.us.take i++[u]:=by rw[List.take_add_one,hu];rfl
   have hr:=hok.jG u (List.mem_of_getElem? hu);have hgu:=XZ hok.N8 hu;have wr:IntKind.wrap .i64 ((i:Int)+1)=((i+1:Nat):Int):=by rw[Ia (iK.wf (by unfold iK;omega))];omega
   apply(aG s (i:=1) rfl bX (by decide)).ql rfl (by omega);rw[hgi];refine ah (lM s 2 rfl ?_);refine E3 (K:=fA) La (aaR w) s (i:=3) rfl hok.F7 (by show iK u.id;unfold iK;omega) (λh=>?_) λv hv=>?_
   ·rw[hok.fE,hgu]at h;cases h
   ·rw[hok.fE,hgu]at hv;cases hv;refine arJ s (by omega) λa' c' w s=>?_;grind
 exact⟨N+1,loop N 0 none 0 0 w (by omega) (bH s 43 3)⟩
end
def lq (y:rI)(id:Int):rI:=⟨y.most,y.next,y.us.filter λv=>!decide (v.id=id)⟩
section
variable {F:Nat->Prop}{W w w0:World}{L:List As}{r:WZ}{y:rI}{id:Int}
def apF {us:List aP}{i:Int}:gQ (us.filter λv=>!decide (v.id=id)) i=if i=id then none else gQ us i:=by unfold gQ;grind
def arK {us:List aP}:(us.filter λv=>!decide (v.id=id)).map (·.id)=(us.map (·.id)).filter λi=>!decide (i=id):=by rw[List.filter_map];rfl
def aa2 {us:List aP}(h:(us.map (·.id)).Pairwise (·<·))(hu:(gQ us id).isSome=true):(us.filter λv=>!decide (v.id=id)).length=us.length-1:=by
 unfold gQ at hu;induction us with
 |nil=>simp at hu
 |cons u us ih=>
  rw[List.map_cons,List.pairwise_cons]at h;by_cases e:u.id=id
  ·rw[List.filter_cons_of_neg (by simp[e]),List.length_cons,Nat.add_sub_cancel];refine congrArg List.length (List.filter_eq_self.2 λv hv=>?_);have:=h.1 v.id (List.mem_map.2 ⟨v,hv,rfl⟩);grind
  grind
def alC {ms':List (Int×aP)}{oa:Option Addr}{on oc:Nat}{os':List Int}(h:Tr r y)(hu:(gQ y.us id).isSome=true)(hk:o7 ms')(ha:∀i,fE ms' i=if i=id then none else fE r.ms i)(hl:ms'.length=if(fE r.ms id).isNone then r.ms.length else r.ms.length-1)
  (hos:(os'=r.os/\os'.length<=2*(lq y id).us.length)\/os'=r.os.filter λi=>(fE ms' i).isSome):Tr ⟨r.p,r.mb,oa,on,oc,ms',os'⟩ (lq y id):=by
 have hg:∀i,gQ (lq y id).us i=if i=id then none else gQ y.us i:=λi=>apF
 have Kl:(lq y id).us.map (·.id)=(y.us.map (·.id)).filter λi=>!decide (i=id):=arK;have hlen:(lq y id).us.length=y.us.length-1:=aa2 h.N8 hu;have hsub:∀v∈(lq y id).us,v∈y.us:=λv hv=>(List.mem_filter.1 hv).1;have WV:∀i,fE ms' i=gQ (lq y id).us i:=λi=>by rw[hg,ha,h.fE]
 have azf:((lq y id).us.map (·.id)).Pairwise (·<·):=by rw[Kl];exact h.N8.filter _
 have aCv:r.os.filter (λi=>(gQ (lq y id).us i).isSome)=(lq y id).us.map (·.id):=by rw[Kl,<-h.ord,List.filter_filter];grind
 have Ox:os'=r.os/\os'.length<=2*(lq y id).us.length\/os'=(lq y id).us.map (·.id):=by grind
 refine⟨h.most,hk,WV,?_,?_,?_,azf,λv hv=>h.jG v (hsub v hv),?_,λi hi=>?_,h.RA⟩
 ·rw[hlen,hl,h.fE,<-h.len];cases hu':gQ y.us id with
  |none=>grind
  |some _=>rfl
 ·rcases Ox with⟨e,_⟩|e
  ·grind
  ·rw[e];refine List.filter_eq_self.2 λi hi=>?_;grind
 ·grind
 ·have:=h.n_;show((lq y id).us.length:Int)<=y.most;omega
 ·rcases Ox with⟨e,_⟩|e
  ·rw[e]at hi;exact h.onx i hi
  ·rw[e]at hi;obtain⟨v,hv,rfl⟩:=List.mem_map.1 hi;exact h.jG v (hsub v hv)
def aa3 {Q:Bool->World->Prop}(xW:iK id)(s:Sep F W w (wF r y::L))(hu:(gQ y.us id).isSome=true)
  (hyes:∀r' w',r'.p=r.p->Sep F W w' (wF r' (lq y id)::L)->Q true w'):ym (sZ r.p) id w Q:=by
 apply OW;refine s9 s xW (λhn w s=>by grind) λu hu' w s=>?_;refine aV s λx w s=>?_;refine sT s 0 rfl λw s=>?_;refine sT s 0 rfl λw s=>?_;refine sT s 0 rfl λw s=>?_;rw[Bool.not_true,cond_false];obtain⟨hok,s⟩:=vi (ai s);have pC:=hok.n_;have XY:=hok.most;have hol:=hok.aja;have RN:=hok.RA;have CN:=(aG s (i:=2) rfl bX (by decide)).len;refine ah (lM s 0 rfl ?_);refine avK (K:=fA) La s (i:=1) rfl hok.F7 xW λms' w hk ha hl s=>?_;have s:=ay s;have hml:ms'.length=(lq y id).us.length:=by rw[hl,hok.fE,hu',hok.len];exact(aa2 hok.N8 hu).symm
 have Zb:(lq y id).us.length=y.us.length-1:=aa2 hok.N8 hu;refine ah (lS s 0 rfl (ah (lM s 0 rfl ?_)));apply arn La s (i:=1) rfl;refine⟨cm s 0 rfl,?_⟩;rw[Ia (iK.wf (by unfold iK;omega))];by_cases ahW:(r.on:Int)>2*((ms'.length:Nat):Int)
 ·rw[bM ahW];refine Zi hk (λi hi=>by have:=hok.onx i hi;unfold iK;omega) (by omega) s λa n c w s=>?_;refine ah (ax s (i:=1) rfl rfl rfl λw s=>?_);refine hyes ⟨r.p,r.mb,a,n,c,ms',_⟩ w rfl (Fz ?_ (alC hok hu hk ha hl (.inr rfl)));exact pk 4 [1,2,0] s
 ·rw[bj ahW];exact hyes ⟨r.p,r.mb,r.oa,r.on,r.oc,ms',r.os⟩ _ rfl (Fz s (alC hok hu hk ha hl (.inl ⟨rfl,by omega⟩)))
end
def E6 (out:List Int)(u:aP):List Int:=if u.goal∈out then out else out++[u.goal]
def tW (us:List aP):List Int:=us.foldl E6 []
def apG {us:List aP}:(tW us).length<=us.length:=by
 have:∀(us:List aP) (out:List Int),(us.foldl E6 out).length<=out.length+us.length:=by
  intro us;induction us with
  |nil=>grind
  |cons u us ih=>
   intro out;have h2:(E6 out u).length<=out.length+1:=by unfold E6;grind
   grind
 have:=this us [];simpa[tW]using this
def DB (b:Bool):Value:=.bool b
def Pu:P.underlying 258=some (.map 3 4):=by kernel_rfl
def aa4 (w:World):(zeroValue 4).run P w=.ok (DB false) w:=by kernel_rfl
section
variable {F:Nat->Prop}{W w w0:World}{L:List As}{la:Option Addr}{ln lc:Nat}{us:List aP}
def aa5 {Q:Option Addr->Nat->Nat->World->Prop}(s0:Sep F W w0 L)(hU:Sl w0 la ln lc 3 gN us)(qu:ln<=1000000)(xW:∀u∈us,iK u.goal)
  (h:∀a n c w',Sep F W w' (ak a n c 3 1 (flat one (tW us))::L)->Fr No w0 w'->Q a n c w'):Fi la ln lc w0 Q:=by
 apply aak;have hlen:=hU.len;refine aaQ (bh (F:=No)) 258 fA DB λmb w s=>?_;have loop:∀(j i:Nat) (a:Option Addr) (n c:Nat) (ms:List (Int×Bool)) (w:World),i+j=ln->n<=i->o7 ms->(∀g,fE ms g=if g∈tW (us.take i)then some true else none)->Sep No w0 w (ak a n c 3 1 (flat one (tW (us.take i)))::fR fA DB mb ms::[])->
   Dv Q (j+1) a n c (some mb) la ln lc (ln:Int) i w:=by
  intro j;induction j with
  |zero=>
   intro i a n c ms w hij hni hk ha s;show zJ _ _ _ _ _ _ _ _ _ _ _ _;rw[zJ,bj];rw[List.take_of_length_le (by omega)]at s;have s:=ck (L':=[ak a n c 3 1 (flat one (tW us))]) [0] s rfl (by decide);exact h a n c w (fB s0 s) (au s)
  |succ j ih=>
   intro i a n c ms w hij hni hk ha s;show zJ _ _ _ _ _ _ _ _ _ _ _ _;rw[zJ,bM];refine(hU.fr (au s)).El rfl (by omega) λp u hu hc=>?_;have hug:=xW u (List.mem_of_getElem? hu);have yH:tW (us.take (i+1))=E6 (tW (us.take i)) u:=by unfold tW;rw[List.take_add_one,hu];grind
   have wr:IntKind.wrap .i64 ((i:Int)+1)=((i+1:Nat):Int):=by rw[Ia (iK.wf (by unfold iK;omega))];omega
   refine aL (hc 0 _ rfl) (aL (hc 1 _ rfl) (aL (hc 2 _ rfl) ?_));refine aV s λx w s=>?_;refine sT s 0 rfl λw s=>?_;refine sT s 0 rfl λw s=>?_;refine ax s (i:=0) rfl rfl rfl λw s=>?_;apply lI s 0 rfl;rw[wr];refine E3 (K:=fA) Pu (aa4 w) s (i:=2) rfl hk hug (λhn=>?_) λb hb=>?_
   ·have hno:u.goal∉tW (us.take i):=λhm=>by rw[ha,if_pos hm]at hn;cases hn
    apply lI s 0 rfl;refine Mx Pu s (i:=2) rfl hk hug λms' w hk' EL hl' s=>?_;apply lI s 0 rfl;have s:=ck (L':=[_,_,_]) [1,0,2] s rfl (by decide);refine L_ s (by omega) λa' c' w s=>?_;refine ih (i+1) a' (n+1) c' ms' w (by omega) (by omega) hk' (λg=>?_) ?_
    ·rw[EL,ha,yH];rw[E6,if_neg hno];by_cases e:g=u.goal
     ·rw[if_pos e,if_pos (by rw[e];simp)]
     ·have:(g∈tW (us.take i)++[u.goal])↔g∈tW (us.take i):=by simp[e]
      rw[if_neg e];simp[this]
    ·rw[yH];rw[E6,if_neg hno];exact ck (L':=[_,_]) [0,2] s rfl (by decide)
   ·have hm:u.goal∈tW (us.take i):=by
     rw[ha]at hb;split at hb
     ·assumption
     ·cases hb
    rw[ha,if_pos hm]at hb;cases hb;refine ih (i+1) a n c ms w (by omega) (by omega) hk (λg=>?_) ?_
    ·rw[ha,yH];rw[E6,if_pos hm]
    ·rw[yH];rw[E6,if_pos hm];exact ai s
 exact⟨ln+1,loop ln 0 none 0 0 [] w (by omega) (by omega) List.Pairwise.nil (λg=>rfl) (bH s 3 1)⟩
end
end Go.Proofs.YtmegplnmiepfbaaGreatDoor.S
namespace Go.Proofs.YtmegplnmiepfbaaGreatDoor.S
open Go.Sx
def af9 {F:Nat->Prop}{W w:World}{L:List As}{K:Option Nat->World->Prop}{n:Int}{k' e:TypeId}{P:Program}{t:TypeId}(ht:P.underlying t=some (.map k' e))(s:Sep F W w L)(k:TypeId)(h:∀b w',Sep F W w' (mapA P k b []::L)->K (some b) w'):cB P t (some (ae n)) w K:=by
 unfold Sx.cB aN;have e:(Instr.makeMap t (some (ae n))).run P w=.ok (.map (some w.heap.size)) (w.alloc (.map #[] 0)):=by simp[Instr.makeMap,newObj,run_underlying ht,asInt,Result.andThen];rfl
 rw[e];refine h _ _ (H_ s (Fr.alloc Fr.refl _) ?_ λx hx=>?_)
 ·exact⟨#[],0,heap_alloc_new w _,rfl,by simp⟩
 ·have hx:x=w.heap.size:=hx;omega
attribute [local irreducible] af cD bz bg aA cy b_ St Bx Al App cK cE cB bV aN bG aq bT av ak aW mapA
structure mY (w h:Int) (us:List aP):Prop where
 wh:iS w h
 ids:(us.map (·.id)).Pairwise (·<·)
 pos:∀u∈us,0<=u.id
 at_:∀u∈us,bI w h u.cell/\bI w h u.goal
 nd:(us.map (·.cell)).Nodup
section
variable {F:Nat->Prop}{W w w0:World}{L:List As}{la:Option Addr}{ln lc:Nat}{us:List aP}{mw mh:Int}
def AT {c:Int}(h:bI mw mh c):iK c:=by have:=nv h.1;have:=h.2;unfold iK;omega
def RO {Q:Bool->World->Prop}(s0:Sep F W w0 L)(hU:Sl w0 la ln lc 3 gN us)(qu:ln<=1000000)(hm:mY mw mh us)
  (h:∀w',Sep F W w' L->Fr No w0 w'->Q true w'):Db mw mh la ln lc w0 Q:=by
 apply aeg;apply qd;rw[decide_eq_true hm.wh,Bool.not_true,cond_false];refine af9 Pu (bh (F:=No)) 3 λmb w s=>?_;have s:=s;have loop:∀(j i:Nat) (last:Int) (ms:List (Int×Bool)) (w:World),i+j=ln->(∀u∈us.drop i,last<u.id)->o7 ms->(∀g,fE ms g=if g∈(us.take i).map (·.cell)then some true else none)->Sep No w0 w (fR fA DB mb ms::[])->
   GO Q (j+1) mw mh last (some mb) la ln lc (ln:Int) i w:=by
  intro j;induction j with
  |zero=>
   intro i last ms w hij hl hk ha s;show CJ _ _ _ _ _ _ _ _ _ _ _ _;rw[CJ,bj];exact h w (fB s0 (ai s)) (au s)
  |succ j ih=>
   intro i last ms w hij hl hk ha s;show CJ _ _ _ _ _ _ _ _ _ _ _ _;rw[CJ,bM];refine(hU.fr (au s)).El rfl (by omega) λp u hu hc=>?_;have hmem:=List.mem_of_getElem? hu;obtain⟨Zc,VA⟩:=hm.at_ u hmem;have hd:us.drop i=u::us.drop (i+1):=by have hi:=(List.getElem?_eq_some_iff.1 hu).1;rw[List.drop_eq_getElem_cons hi];have:=(List.getElem?_eq_some_iff.1 hu).2;rw[this]
   have yH:us.take (i+1)=us.take i++[u]:=by rw[List.take_add_one,hu];rfl
   have hno:u.cell∉(us.take i).map (·.cell):=λhin=>by have hnd:=hm.nd;rw[<-List.take_append_drop i us,hd,List.map_append,List.map_cons,List.nodup_append]at hnd;exact hnd.2.2 _ hin _ (List.mem_cons_self ..) rfl
   have awQ:=hl u (by rw[hd];exact List.mem_cons_self ..);have axc:∀v∈us.drop (i+1),u.id<v.id:=λv hv=>by have hp:=hm.ids;rw[<-List.take_append_drop i us,hd,List.map_append,List.map_cons,List.pairwise_append]at hp;exact(List.pairwise_cons.1 hp.2.1).1 v.id (List.mem_map.2 ⟨v,hv,rfl⟩)
   have wr:IntKind.wrap .i64 ((i:Int)+1)=((i+1:Nat):Int):=by rw[Ia (iK.wf (by unfold iK;omega))];omega
   refine aL (hc 0 _ rfl) (aL (hc 1 _ rfl) (aL (hc 2 _ rfl) ?_));refine aV s λx w s=>?_;refine sT s 0 rfl λw s=>?_;refine sT s 0 rfl λw s=>?_;refine ax s (i:=0) rfl rfl rfl λw s=>?_;apply lI s 0 rfl;rw[bj];apply lI s 0 rfl;refine e_ s λw s _=>?_;have h1:=(bU Zc).2.1;have h2:=(bU VA).2.1;rw[bj];apply lI s 0 rfl;refine e_ s λw s _=>?_;rw[bj];apply lI s 0 rfl;rw[wr];refine E3 (K:=fA) Pu (aa4 w) s (i:=1) rfl hk (AT Zc) (λhn=>?_) λb hb=>?_
   ·have s:=ay s;refine lI s 0 rfl (lI s 0 rfl ⟨cm s 0 rfl,?_⟩);refine Mx Pu s (i:=1) rfl hk (AT Zc) λms' w hk' EL hl' s=>?_;refine ih (i+1) u.id ms' w (by omega) axc hk' (λg=>?_) (ai s);rw[EL,ha,yH,List.map_append];by_cases e:g=u.cell
    ·rw[if_pos e,if_pos (by rw[e];simp)]
    ·have:(g∈(us.take i).map (·.cell)++[u].map (·.cell))↔g∈(us.take i).map (·.cell):=by simp[e]
     rw[if_neg e];simp only[this]
   ·rw[ha,if_neg hno]at hb;cases hb
 exact⟨ln+1,loop ln 0 (-1) [] w (by omega) (λu hu=>by have:=hm.pos u (List.mem_of_mem_drop hu);omega) List.Pairwise.nil (λg=>rfl) s⟩
end
end Go.Proofs.YtmegplnmiepfbaaGreatDoor.S
namespace Go.Proofs.YtmegplnmiepfbaaGreatDoor.S
open Go.Sx
def stand (us:List aP)(c:Int):Bool:=us.any λv=>decide (v.cell=c)
def lO (w h:Int)(st:List aP)(u:aP)(d:Int):Bool:=decide (0<=aY w h u.cell d)&&!stand st (aY w h u.cell d)
def mD (w h:Int)(u:aP)(d:Int):List aP:=if aY w h u.cell d=u.goal then[]else[⟨u.id,aY w h u.cell d,u.goal⟩]
def cJ (w h:Int):List aP->List (aP×Int)->List aP×List (Int×Int)×List Int
 |done,[]=>(done,[],[])
 |done,(u,d)::rest=>
  if lO w h (done++u::rest.map (·.1)) u d=true then
   ((cJ w h (done++mD w h u d) rest).1,(u.id,aY w h u.cell d)::(cJ w h (done++mD w h u d) rest).2.1,(if aY w h u.cell d=u.goal then[u.id]else[])++(cJ w h (done++mD w h u d) rest).2.2)
  else cJ w h (done++[u]) rest
section
variable {w h d:Int}{done us:List aP}{u:aP}{rest todo:List (aP×Int)}
def AU (hb:lO w h (done++u::rest.map (·.1)) u d=true):cJ w h done ((u,d)::rest)=((cJ w h (done++mD w h u d) rest).1,(u.id,aY w h u.cell d)::(cJ w h (done++mD w h u d) rest).2.1,(if aY w h u.cell d=u.goal then[u.id]else[])++(cJ w h (done++mD w h u d) rest).2.2):=by rw[cJ,if_pos hb]
def AV (hb:lO w h (done++u::rest.map (·.1)) u d=false):cJ w h done ((u,d)::rest)=cJ w h (done++[u]) rest:=by rw[cJ,if_neg (by grind)]
def Xn {c:Int}:stand us c=true↔c∈us.map (·.cell):=by unfold stand;grind
def ae5:lO w h us u d=true↔0<=aY w h u.cell d/\aY w h u.cell d∉us.map (·.cell):=by rw[lO,Bool.and_eq_true,decide_eq_true_eq,<-Xn];grind
def mY.sub {us':List aP}(hm:mY w h us)(hs:us'.Sublist us):mY w h us':=
 ⟨hm.wh,hm.ids.sublist (hs.map _),λv hv=>hm.pos v (hs.subset hv),λv hv=>hm.at_ v (hs.subset hv),hm.nd.sublist (hs.map _)⟩
def mY.Xl {v:aP}{us':List aP}(hm:mY w h (done++u::us'))(xW:v.id=u.id)(hc:bI w h v.cell)(hg:bI w h v.goal)(hn:v.cell∉(done++us').map (·.cell)):mY w h (done++v::us'):=by
 have hmem:∀x∈done++v::us',x=v\/x∈done++u::us':=λx hx=>by grind
 have hu:u∈done++u::us':=by simp
 refine⟨hm.wh,?_,λx hx=>?_,λx hx=>?_,?_⟩
 ·have:=hm.ids;grind
 ·rcases hmem x hx with rfl|hx
  ·rw[xW];exact hm.pos u hu
  ·exact hm.pos x hx
 ·rcases hmem x hx with rfl|hx
  ·grind
  ·exact hm.at_ x hx
 ·have h0:=hm.nd;grind
def ajE (hb:lO w h us u d=true):bI w h (aY w h u.cell d):=(vp (ae5.1 hb).1).2
def aa6 {us':List aP}(hm:mY w h (done++u::us'))(hb:lO w h (done++u::us') u d=true):mY w h ((done++mD w h u d)++us'):=by
 obtain⟨h0,h1⟩:=ae5.1 hb;rw[List.append_assoc];unfold mD;split
 ·exact hm.sub (List.Sublist.append_left (List.sublist_cons_self _ _) _)
 ·refine hm.Xl rfl (ajE hb) (hm.at_ u (by simp)).2 λhin=>h1 ?_;grind
def Xo:∀(todo:List (aP×Int)) (done:List aP),mY w h (done++todo.map (·.1))->mY w h (cJ w h done todo).1
 |[],done,hm=>by simpa[cJ]using hm
 |(u,d)::rest,done,hm=>by
  cases hb:lO w h (done++u::rest.map (·.1)) u d with
  |true=>
   rw[AU hb];exact Xo rest _ (aa6 hm hb)
  |false=>
   rw[AV hb];exact Xo rest _ (by grind)
def ac_:∀(todo:List (aP×Int)) (done:List aP),(cJ w h done todo).2.1=[]->(cJ w h done todo).1=done++todo.map (·.1)
 |[],done,_=>by simp[cJ]
 |(u,d)::rest,done,hm=>by
  cases hb:lO w h (done++u::rest.map (·.1)) u d with
  |true=>rw[AU hb]at hm;cases hm
  |false=>
   rw[AV hb]at hm⊢;rw[ac_ rest _ hm];simp
def ada:∀(todo:List (aP×Int)) (done:List aP) {m:Int×Int} {ms:List (Int×Int)},(cJ w h done todo).2.1=m::ms->
  ∃done' u d rest,lO w h (done'++u::rest.map (·.1)) u d=true/\done'++u::rest.map (·.1)=done++todo.map (·.1)/\m=(u.id,aY w h u.cell d)/\(cJ w h (done'++mD w h u d) rest).2.1=ms/\(cJ w h (done'++mD w h u d) rest).1=(cJ w h done todo).1
 |[],done,_,_,hm=>by cases hm
 |(u,d)::rest,done,m,ms,hm=>by
  cases hb:lO w h (done++u::rest.map (·.1)) u d with
  |true=>
   rw[AU hb]at hm⊢;grind
  |false=>
   rw[AV hb]at hm⊢;obtain⟨done',u',d',rest',h1,h2,h3⟩:=ada rest _ hm;grind
def JI:∀(todo:List (aP×Int)) (done:List aP),(cJ w h done todo).1.length+(cJ w h done todo).2.2.length=done.length+todo.length/\(cJ w h done todo).2.1.length<=todo.length
 |[],done=>by simp[cJ]
 |(u,d)::rest,done=>by
  cases hb:lO w h (done++u::rest.map (·.1)) u d with
  |true=>
   rw[AU hb];have:=JI rest (done++mD w h u d);have hw:(mD w h u d).length+(if aY w h u.cell d=u.goal then[u.id]else[]).length=1:=by unfold mD;split<;>rfl
   grind
  |false=>
   rw[AV hb];have:=JI rest (done++[u]);grind
end
end Go.Proofs.YtmegplnmiepfbaaGreatDoor.S
namespace Go.Proofs.YtmegplnmiepfbaaGreatDoor.S
open Go.Sx
attribute [local irreducible] af cD bz bg aA cy b_ St Bx Al App cK cE cB bV aN bG aq bT av ak aW mapA
def F_ {i:Nat}(h:i<=1000000000):IntKind.wrap .i64 ((i:Int)+1)=((i+1:Nat):Int):=by rw[Ia (iK.wf (by unfold iK;omega))];omega
def lu (x:Int×Int):List Value:=[ae x.1,ae x.2]
def Ag (x:Int×Int):(lu x).length=2:=rfl
def apH (x:Int×Int)(u:Value)(h:u∈lu x):u.oneCell'=true:=by unfold lu at h;simp[List.mem_cons,List.not_mem_nil,or_false]at h;rcases h with rfl|rfl<;>rfl
section
variable {F:Nat->Prop}{W w w0:World}{L:List As}{a:Option Addr}{n c:Nat}{mv:List (Int×Int)}
def Xp {K:Addr->World->Prop}{p:Addr}{u:aP}(hc:∀j v,(gN u)[j]? =some v->w.cell? (p.add j)=some v)(s:Sep F W w L)(h:∀x w',Sep F W w' (av x 43 (gN u)::L)->K (aZ x) w'):
  af .i64 (p.add 0) w λa=>af .i64 (p.add 1) w λb=>af .i64 (p.add 2) w λc=>Al T 43 w λx w=>St (x.add 0) (ae a) w λw=>St (x.add 1) (ae b) w λw=>St (x.add 2) (ae c) w λw=>K x w:=by
 refine aL (hc 0 _ rfl) (aL (hc 1 _ rfl) (aL (hc 2 _ rfl) ?_));refine aV s λx w s=>?_;refine sT s 0 rfl λw s=>?_;refine sT s 0 rfl λw s=>?_;refine ax s (i:=0) rfl rfl rfl λw s=>?_;exact h x w s
end
def MI (ms:List (Int×Bool))(us:List aP):Prop:=o7 ms/\∀c,fE ms c=if stand us c=true then some true else none
def sB {us vs:List aP}{c:Int}:stand (us++vs) c=(stand us c||stand vs c):=by unfold stand;grind
def AW {u:aP}{us:List aP}{c:Int}:stand (u::us) c=(decide (u.cell=c)||stand us c):=by unfold stand;grind
def TC {us:List aP}{c:Int}:stand us c=false↔c∉us.map (·.cell):=by rw[<-Xn];grind
def af_ {w h c:Int}(hc:bI w h c):aY w h c 4=c:=by obtain⟨h1,h2,e⟩:=IS hc;rw[aY,if_pos hc,if_neg (by decide),if_neg (by decide),if_neg (by decide),if_neg (by decide),if_pos rfl,nI hc.1 h1 h2];exact e.symm
def aga {w h c:Int}:aY w h c 5=-1:=by unfold aY;split<;>rfl
abbrev Xq (mw mh:Int)(mb:Nat)(ma:Option Addr)(mn mc:Nat)(ga:Option Addr)(gn gc:Nat):List Value:=[ae mw,ae mh,.map (some mb),.slice ma mn mc,.slice ga gn gc]
section
variable {F:Nat->Prop}{W w w0:World}{L:List As}{ma ga:Option Addr}{mn mc gn gc mb fb ub:Nat}{mv:List (Int×Int)}{gs:List Int}{ms:List (Int×Bool)}{mw mh d:Int}{done us:List aP}{u:aP}
def auh {Q:Bool->World->Prop}(hm:mY mw mh (done++u::us))(hS:MI ms (done++u::us))(hmn:mn<=100000000)(HJ:gn<=100000000)(s:Sep F W w (av ub 43 (gN u)::av fb 260 (Xq mw mh mb ma mn mc ga gn gc)::fR fA DB mb ms::ak ma mn mc 51 2 (flat lu mv)::ak ga gn gc 3 1 (flat one gs)::L))
  (hno:lO mw mh (done++u::us) u d=false->∀w',Sep F W w' (av fb 260 (Xq mw mh mb ma mn mc ga gn gc)::fR fA DB mb ms::ak ma mn mc 51 2 (flat lu mv)::ak ga gn gc 3 1 (flat one gs)::av ub 43 (gN u)::L)->Q true w')
  (hyes:lO mw mh (done++u::us) u d=true->∀ms' ma' Xr Zl Zm gc' w',Zm<=gn+1->MI ms' ((done++mD mw mh u d)++us)->Sep F W w' (av fb 260 (Xq mw mh mb ma' (mn+1) Xr Zl Zm gc')::fR fA DB mb ms'::ak ma' (mn+1) Xr 51 2 (flat lu (mv++[(u.id,aY mw mh u.cell d)]))::ak Zl Zm gc' 3 1 (flat one (gs++if aY mw mh u.cell d=u.goal then[u.id]else[]))::av ub 43 (gN ⟨u.id,aY mw mh u.cell d,u.goal⟩)::L)->Q (!decide (aY mw mh u.cell d=u.goal)) w'):
  kP Q (sZ fb) (sZ ub) d w:=by
 have hu:=hm.at_ u (by simp);have s:=ay s;refine ah (lI s 1 rfl (ah (lI s 1 rfl (ah (lI s 0 rfl ?_)))));refine jz s λw s _=>?_;have fin:lO mw mh (done++u::us) u d=false->Q true w:=λhb=>hno hb w (pk 5 [1,2,3,4,0] s);by_cases h0:aY mw mh u.cell d<0
 ·rw[bM h0];apply fin;unfold lO;grind
 rw[bj h0];have h0:0<=aY mw mh u.cell d:=by omega
 have hto:=(vp h0).2;refine ah (lM s 1 rfl ?_);refine E3 (K:=fA) Pu (aa4 w) s (i:=2) rfl hS.1 (AT hto) (λhn=>?_) λb hb=>?_
 ·have hst:stand (done++u::us) (aY mw mh u.cell d)=false:=by
   rw[hS.2]at hn;split at hn
   ·cases hn
   ·exact Bool.eq_false_iff.2 ‹_›
  have hb:lO mw mh (done++u::us) u d=true:=by rw[lO,decide_eq_true h0,hst];rfl
  have hyes:=hyes hb;unfold mD at hyes;generalize aY mw mh u.cell d=to at*;apply aeY;have s:=ay s;refine ah (lM s 1 rfl (ah (lI s 0 rfl ?_)));refine avK (K:=fA) Pu s (i:=2) rfl hS.1 (AT hu.1) λms1 w hk1 ha1 _ s=>?_;have hcells:∀c,stand (done++us) c=if c=u.cell then false else stand (done++u::us) c:=λc=>by
   rw[sB,sB,AW];by_cases e:c=u.cell
   ·rw[if_pos e,e];have:=hm.nd;rw[List.map_append,List.map_cons,List.nodup_append,List.nodup_cons]at this;rw[TC.2 λh=>this.2.2 _ h _ (List.mem_cons_self ..) rfl,TC.2 this.2.1.1];rfl
   ·rw[if_neg e,decide_eq_false λh=>e h.symm,Bool.false_or]
  have hS1:MI ms1 (done++us):=⟨hk1,λc=>by
   rw[ha1,hS.2,hcells];by_cases e:c=u.cell
   ·rw[if_pos e,if_pos e];rfl
   ·rw[if_neg e,if_neg e]⟩
  refine ah (sT s 0 rfl λw s=>?_);have s:=ay s;refine ah (lS s 1 rfl (ah (lI s 0 rfl ?_)));have s:=pk 5 [3,0,1,2,4] s;refine aQ s λxb w s=>⟨cm s 3 rfl,?_⟩;have src:Src w (sZ xb) 1 2 (lu (u.id,to)):=⟨rfl,apH _,λj v hj=>by rw[cw,Nat.zero_add];exact cO s (i:=0) rfl rfl hj⟩;refine iy dU s (i:=1) (bytes:=16) rfl rfl rfl rfl rfl rfl (by decide) rfl src (by simp[maxLen];omega) (by omega) (λe=>by cases e) λma' Xr w s=>?_;have e:flat lu mv++lu (u.id,to)=flat lu (mv++[(u.id,to)]):=by rw[f_];simp[flat]
  rw[e]at s;refine ah (ax s (i:=3) rfl rfl rfl λw s=>?_);refine ah (lI s 2 rfl ?_);have s:=ai s;by_cases hg:to=u.goal
  ·rw[ee hg,cond_true];have s:=ay s;refine ah (lS s 2 rfl (ah (lI s 1 rfl ?_)));refine aQ s λxb w s=>⟨cm s 3 rfl,?_⟩;have src:Src w (sZ xb) 1 1 (one u.id):=⟨rfl,C6 _,λj v hj=>by rw[cw,Nat.zero_add];exact cO s (i:=0) rfl rfl hj⟩;refine iy dU s (i:=5) (size:=1) (bytes:=8) rfl rfl rfl rfl rfl rfl (by decide) rfl src (by simp[maxLen];omega) (by omega) (λe=>by cases e) λZl gc' w s=>?_;have e:flat one gs++one u.id=flat one (gs++[u.id]):=by rw[f_];simp[flat]
   rw[e]at s;refine ah (ax s (i:=3) rfl rfl rfl λw s=>?_);have s:=pk 6 [3,4,1,5,2] s;have:=hyes ms1 ma' Xr Zl (gn+1) gc' w (Nat.le_refl _) ?_ ?_
   ·rw[decide_eq_true hg]at this;exact this
   ·rw[if_pos hg,List.append_nil];exact hS1
   ·rw[if_pos hg];exact s
  ·rw[cL hg,cond_false];refine ah (lM s 2 rfl ?_);refine Mx (k:=3) (e:=4) (K:=fA) (v:=DB) (ms:=ms1) (a:=true) (x:=to) Pu s (i:=3) rfl hk1 (AT hto) λms2 w Je Uc _ s=>?_;have s:=pk 5 [2,3,0,4,1] s;have:=hyes ms2 ma' Xr ga gn gc w (Nat.le_succ _) ?_ ?_
   ·rw[decide_eq_false hg]at this;exact this
   ·rw[if_neg hg];refine⟨Je,λc=>?_⟩;rw[Uc,hS1.2,sB,sB,sB,AW];by_cases e:c=to
    ·rw[if_pos e,e,decide_eq_true rfl];simp
    ·rw[if_neg e,decide_eq_false λh=>e h.symm];simp[stand]
   ·rw[if_neg hg,List.append_nil];exact s
 ·have hst:stand (done++u::us) (aY mw mh u.cell d)=true:=by
   rw[hS.2]at hb;split at hb
   ·assumption
   ·cases hb
  rw[hS.2,if_pos hst]at hb;cases hb;apply amJ;apply fin;rw[lO,hst];simp
def aa7 {Q:Bool->World->Prop}(hd:0<=d/\d<=5)(hm:mY mw mh (done++u::us))(hS:MI ms (done++u::us))(hmn:mn<=100000000)(HJ:gn<=100000000)(s:Sep F W w (av ub 43 (gN u)::av fb 260 (Xq mw mh mb ma mn mc ga gn gc)::fR fA DB mb ms::ak ma mn mc 51 2 (flat lu mv)::ak ga gn gc 3 1 (flat one gs)::L))
  (hno:lO mw mh (done++u::us) u d=false->∀w',Sep F W w' (av fb 260 (Xq mw mh mb ma mn mc ga gn gc)::fR fA DB mb ms::ak ma mn mc 51 2 (flat lu mv)::ak ga gn gc 3 1 (flat one gs)::av ub 43 (gN u)::L)->Q true w')
  (hyes:lO mw mh (done++u::us) u d=true->∀ms' ma' Xr Zl Zm gc' w',Zm<=gn+1->MI ms' ((done++mD mw mh u d)++us)->Sep F W w' (av fb 260 (Xq mw mh mb ma' (mn+1) Xr Zl Zm gc')::fR fA DB mb ms'::ak ma' (mn+1) Xr 51 2 (flat lu (mv++[(u.id,aY mw mh u.cell d)]))::ak Zl Zm gc' 3 1 (flat one (gs++if aY mw mh u.cell d=u.goal then[u.id]else[]))::av ub 43 (gN ⟨u.id,aY mw mh u.cell d,u.goal⟩)::L)->Q (!decide (aY mw mh u.cell d=u.goal)) w'):
  yo (sZ fb) (sZ ub) d w Q:=by
 apply O9;have hb:¬(4<=d)->kP Q (sZ fb) (sZ ub) d w:=λ_=>auh hm hS hmn HJ s hno hyes;by_cases e0:d=0
 ·grind
 rw[cL e0,cond_false];by_cases e1:d=1
 ·grind
 rw[cL e1,cond_false];by_cases e2:d=2
 ·grind
 rw[cL e2,cond_false];by_cases e3:d=3
 ·grind
 rw[cL e3,cond_false];refine hno ?_ w (pk 5 [1,2,3,4,0] s);have hu:=(hm.at_ u (by simp)).1;unfold lO;obtain rfl|rfl:d=4\/d=5:=by omega
 ·rw[af_ hu,sB,AW,decide_eq_true rfl];simp
 ·rw[aga];rfl
end
def aAW:pz 153 fns=true:=by kernel_rfl
section
variable {F:Nat->Prop}{W w w0:World}{L:List As}{la da:Option Addr}{ln lc dn dc:Nat}{us:List aP}{ds:List Int}{mw mh:Int}
def arL {Q:Bool->World->Prop}(hD:Sl w da dn dc 1 one ds)(hr:∀d∈ds,0<=d/\d<=5)(hn:dn<=1000000)(h:Q false w):nX da dn dc (.func (.func 153) #[] #[]) w Q:=by
 apply ED;apply GP;have hl:=hD.len;have loop:∀(j i:Nat),i+j=dn->jZ (λr w=>Q (decide (r≥0)) w) (j+1) da dn dc (.func (.func 153) #[] #[]) (dn:Int) i w:=by
  intro j;induction j with
  |zero=>
   intro i hi;show jY _ _ _ _ _ _ _ _ _;unfold jY;grind
  |succ j ih=>
   intro i hi;show jY _ _ _ _ _ _ _ _ _;rw[jY,bM];apply hD.ql rfl (by omega);have hd:=hr _ (fm (i:=i) (by omega));unfold iw;simp only;have hc:LH (gi ds i) w λr w'=>cond r (Q (decide ((i:Int)≥0)) w') (jZ (λr w=>Q (decide (r≥0)) w) (j+1) da dn dc (.func (.func 153) #[] #[]) (dn:Int) (IntKind.wrap .i64 ((i:Int)+1)) w'):=by apply aam;rw[bj];show cond (decide (gi ds i>5)) _ _;rw[bj,F_ (by omega)];exact ih (i+1) (by omega)
   exact hc
 exact⟨dn+1,loop dn 0 (by omega)⟩
def ae6 {Q:Option Addr->Nat->Nat->Option Addr->Nat->Nat->Option Addr->Nat->Nat->Int->World->Prop}(s0:Sep F W w0 L)(hU:Sl w0 la ln lc 3 gN us)(hD:Sl w0 da dn dc 1 one ds)(hlen:ds.length=us.length)(qu:ln<=1000000)(hr:∀d∈ds,0<=d/\d<=5)(hm:mY mw mh us)
  (h:∀aa an ac ma mn mc ga gn gc w',Sep F W w' (ak ma mn mc 51 2 (flat lu (cJ mw mh [] (us.zip ds)).2.1)::ak ga gn gc 3 1 (flat one (cJ mw mh [] (us.zip ds)).2.2)::L)->Fr No w0 w'->Q aa an ac ma mn mc ga gn gc 0 w'):
  Ih mw mh la ln lc da dn dc w0 Q:=by
 apply aej;have hul:=hU.len;have Zb:=hD.len;refine RO (bh (F:=No)) hU qu hm λw s _=>?_;rw[Bool.not_true,cond_false,xO (by omega),cond_false];apply arL (hD.fr (au s)) hr (by omega);refine af9 Pu s 3 λmb w s=>?_;have s:=s;refine aQ s λfb w s=>?_;have av6:(us.zip ds).map (·.1)=us:=by rw[List.map_fst_zip];omega
 have walk:∀(j i:Nat) (done:List aP) (ms:List (Int×Bool)) (mv:List (Int×Int)) (gs:List Int) (aa ma ga:Option Addr) (an ac mn mc gn gc:Nat) (w:World),i+j=ln->mn<=i->gn<=i->an<=i->mY mw mh (done++((us.zip ds).drop i).map (·.1))->MI ms (done++((us.zip ds).drop i).map (·.1))->
   mv++(cJ mw mh done ((us.zip ds).drop i)).2.1=(cJ mw mh [] (us.zip ds)).2.1->gs++(cJ mw mh done ((us.zip ds).drop i)).2.2=(cJ mw mh [] (us.zip ds)).2.2->
   Sep No w0 w (av fb 260 (Xq mw mh mb ma mn mc ga gn gc)::fR fA DB mb ms::ak ma mn mc 51 2 (flat lu mv)::ak ga gn gc 3 1 (flat one gs)::ak aa an ac 43 3 (flat gN done)::[])->
   EY Q (j+1) da dn dc aa an ac (aZ fb) la ln lc (ln:Int) i w:=by
  intro j;induction j with
  |zero=>
   intro i done ms mv gs aa ma ga an ac mn mc gn gc w hij hmn HJ han hM hS Oy DF s;show Bf _ _ _ _ _ _ _ _ _ _ _ _ _ _ _;rw[Bf,bj];have s:=ay s;have hz:(us.zip ds).drop i=[]:=List.drop_eq_nil_of_le (by grind);rw[hz]at Oy DF;simp[cJ,List.append_nil]at Oy DF;have c3:=cO s (i:=0) (j:=3) rfl rfl rfl;have c4:=cO s (i:=0) (j:=4) rfl rfl rfl;refine lS s 0 rfl (lS s 0 rfl ⟨c4,c3,c4,?_⟩);rw[Oy,DF]at s;have s:=ck (L':=[_,_]) [2,3] s rfl (by decide);exact h aa an ac ma mn mc ga gn gc _ (fB s0 s) (au s)
  |succ j ih=>
   intro i done ms mv gs aa ma ga an ac mn mc gn gc w hij hmn HJ han hM hS Oy DF s;show Bf _ _ _ _ _ _ _ _ _ _ _ _ _ _ _;rw[Bf,bM];refine(hU.fr (au s)).El rfl (by omega) λp u hu hc=>?_;have Ob:ds[i]? =some (gi ds i):=h_ (by omega);have hd:=hr _ (List.mem_of_getElem? Ob);have hz:(us.zip ds).drop i=(u,gi ds i)::(us.zip ds).drop (i+1):=by
    have hzi:(us.zip ds)[i]? =some (u,gi ds i):=by rw[List.getElem?_zip_eq_some];exact⟨hu,Ob⟩
    obtain⟨hlt,e⟩:=List.getElem?_eq_some_iff.1 hzi;rw[List.drop_eq_getElem_cons hlt,e]
   rw[hz]at hM hS Oy DF;have hM:=hM;have hS:=hS;refine Xp hc s λub w s=>?_;apply(hD.fr (au s)).ql rfl (by omega);generalize gi ds i=d at*;rw[F_ (by omega)];refine aa7 hd hM hS (by omega) (by omega) s (λhb w s=>?_) λhb ms' ma' Xr Zl Zm gc' w aCw hS' s=>?_
   ·rw[AV hb]at Oy DF;refine lI s 4 rfl (lI s 4 rfl (lI s 4 rfl ?_));have s:=ck (L':=[_,_,_,_,_]) [5,0,1,2,3] s rfl (by decide);refine arJ s (by omega) λaa' ac' w s=>?_;exact ih (i+1) (done++[u]) ms mv gs aa' ma ga (an+1) ac' mn mc gn gc w (by omega) (by omega) (by omega) (by omega) (by rw[List.append_assoc];exact hM) (by rw[List.append_assoc];exact hS) Oy DF (ck (L':=[_,_,_,_,_]) [1,2,3,4,0] s rfl (by decide))
   ·rw[AU hb]at Oy DF;have hM':=aa6 hM hb;by_cases hg:aY mw mh u.cell d=u.goal
    ·rw[decide_eq_true hg,Bool.not_true,cond_false];have ew:mD mw mh u d=[]:=by unfold mD;rw[if_pos hg]
     rw[ew,List.append_nil]at hM' hS' Oy DF;exact ih (i+1) done ms' _ _ aa ma' Zl an ac (mn+1) Xr Zm gc' w (by omega) (by omega) (by omega) (by omega) hM' hS' (by rw[List.append_assoc];exact Oy) (by rw[List.append_assoc];exact DF) (ck (L':=[_,_,_,_,_]) [0,1,2,3,5] s rfl (by decide))
    ·rw[decide_eq_false hg,Bool.not_false,cond_true];have ew:mD mw mh u d=[⟨u.id,aY mw mh u.cell d,u.goal⟩]:=by unfold mD;rw[if_neg hg]
     rw[ew]at hM' hS' Oy DF;rw[if_neg hg,List.append_nil]at s;rw[if_neg hg,List.nil_append]at DF;refine lI s 4 rfl (lI s 4 rfl (lI s 4 rfl ?_));have s:=ck (L':=[_,_,_,_,_]) [5,0,1,2,3] s rfl (by decide);refine arJ s (by omega) λaa' ac' w s=>?_;exact ih (i+1) _ ms' _ gs aa' ma' Zl (an+1) ac' (mn+1) Xr Zm gc' w (by omega) (by omega) (by omega) (by omega) hM' hS' (by rw[List.append_assoc];exact Oy) DF (ck (L':=[_,_,_,_,_]) [1,2,3,4,0] s rfl (by decide))
 have fill:∀(j i:Nat) (ms:List (Int×Bool)) (w:World),i+j=ln->MI ms (us.take i)->Sep No w0 w (av fb 260 (Xq mw mh mb none 0 0 none 0 0)::fR fA DB mb ms::[])->
   GQ Q (j+1) la ln lc da dn dc none 0 0 (aZ fb) la ln lc (ln:Int) i w:=by
  intro j;induction j with
  |zero=>
   intro i ms w hij hS s;show CK _ _ _ _ _ _ _ _ _ _ _ _ _ _ _ _ _ _;rw[CK,bj];rw[List.take_of_length_le (by omega)]at hS;have s:=bH (bH (bH s 3 1) 51 2) 43 3;have s:=ck (L':=[_,_,_,_,_]) [3,4,1,2,0] s rfl (by decide);refine⟨ln+1,walk ln 0 [] ms [] [] none none none 0 0 0 0 0 0 w (by omega) (by omega) (by omega) (by omega) ?_ ?_ rfl rfl s⟩
   ·rw[List.drop_zero,av6];exact hm
   ·rw[List.drop_zero,av6];exact hS
  |succ j ih=>
   intro i ms w hij hS s;show CK _ _ _ _ _ _ _ _ _ _ _ _ _ _ _ _ _ _;rw[CK,bM];refine(hU.fr (au s)).El rfl (by omega) λp u hu hc=>?_;refine Xp hc s λub w s=>?_;have s:=ay s;refine lM s 1 rfl (lI s 0 rfl ?_);have hcell:=(hm.at_ u (List.mem_of_getElem? hu)).1;refine Mx Pu s (i:=2) rfl hS.1 (AT hcell) λms2 w Je Uc _ s=>?_;rw[F_ (by omega)];refine ih (i+1) ms2 w (by omega) ⟨Je,λc=>?_⟩ (ai s);have yH:us.take (i+1)=us.take i++[u]:=by rw[List.take_add_one,hu];rfl
   rw[Uc,hS.2,yH,sB,AW];by_cases e:c=u.cell
   ·rw[if_pos e,e,decide_eq_true rfl];simp
   ·rw[if_neg e,decide_eq_false λh=>e h.symm];simp[stand]
 refine⟨ln+1,fill ln 0 [] w (by omega) ⟨List.Pairwise.nil,λc=>rfl⟩ s⟩
end
def atU (us:List aP)(c:Int):Option aP:=us.find? λv=>decide (v.cell=c)
def vQ (us:List aP)(c:Int):Int:=match atU us c with
 |some u=>u.id
 |none=>-1
section
variable {us us':List aP}{u:aP}{c:Int}
def IE (h:c∉us.map (·.cell)):vQ us c=-1:=by
 have:atU us c=none:=by unfold atU;grind
 rw[vQ,this]
def AY (hn:(us.map (·.cell)).Nodup)(h:u∈us):vQ us u.cell=u.id:=by
 have:atU us u.cell=some u:=by
  unfold atU;induction us with
  |nil=>cases h
  |cons v us ih=>
   grind
 rw[vQ,this]
def aa8 (hn:(us.map (·.cell)).Nodup)(hn':(us'.map (·.cell)).Nodup)(h:∀v:aP,v.cell=c->(v∈us↔v∈us')):vQ us c=vQ us' c:=by
 by_cases hc:c∈us.map (·.cell)
 ·obtain⟨v,hv,rfl⟩:=List.mem_map.1 hc;rw[AY hn hv,AY hn' ((h v rfl).1 hv)]
 ·rw[IE hc,IE λe=>?_];grind
def aui {w h:Int}(hm:mY w h us):vQ us c=-1\/0<=vQ us c/\∃u∈us,u.cell=c/\vQ us c=u.id:=by
 by_cases hc:c∈us.map (·.cell)
 ·obtain⟨v,hv,rfl⟩:=List.mem_map.1 hc;rw[AY hm.nd hv];exact .inr ⟨hm.pos v hv,v,hv,rfl,rfl⟩
 ·exact .inl (IE hc)
end
structure Hs (w h:Int) (us:List aP) (ws:List Int):Prop where
 len:(ws.length:Int)=w*h
 at_:∀c,bI w h c->gi ws c.toNat=vQ us c+1
section
variable {us us':List aP}{u:aP}{c v mw mh:Int}{ws:List Int}
def Hs.lt (h:Hs mw mh us ws)(hc:bI mw mh c):0<=c/\c<ws.length:=by have:=h.len;have:=hc.2;omega
def Hs.who (h:Hs mw mh us ws)(hc:bI mw mh c):CO ws c=vQ us c:=by rw[CO,if_pos (h.lt hc),h.at_ c hc];omega
def Hs.free (h:Hs mw mh us ws)(hc:bI mw mh c):AN ws c=decide (vQ us c=-1):=by rw[AN,decide_eq_true (h.lt hc),h.at_ c hc,Bool.true_and,Bool.eq_iff_iff,beq_iff_eq,decide_eq_true_eq];omega
def Hs.set (h:Hs mw mh us ws)(hc:bI mw mh c)(e:∀c',bI mw mh c'->vQ us' c'+1=if c'=c then v else vQ us c'+1):Hs mw mh us' (ws.set c.toNat v):=by have hl:=h.lt hc;refine⟨by rw[List.length_set];exact h.len,λc' BI=>?_⟩;rw[Vy (by omega),e c' BI,h.at_ c' BI];have:=BI.2;omega
def alD {done:List aP}(hm:mY mw mh (done++u::us))(hf:Hs mw mh (done++u::us) ws):Hs mw mh (done++us) (ws.set u.cell.toNat 0):=by
 have EG:=hm.sub (us':=done++us) (List.Sublist.append_left (List.sublist_cons_self _ _) _);refine hf.set (hm.at_ u (by simp)).1 λc' _=>?_;have hnd:=hm.nd;by_cases e:c'=u.cell
 ·rw[if_pos e,e,IE]
  all_goals grind
 ·rw[if_neg e,aa8 EG.nd hm.nd λv hv=>?_];grind
def apJ {done:List aP}(hm:mY mw mh (done++u::us))(hf:Hs mw mh (done++us) ws):Hs mw mh (done++u::us) (ws.set u.cell.toNat (u.id+1)):=by
 have EG:=hm.sub (us':=done++us) (List.Sublist.append_left (List.sublist_cons_self _ _) _);refine hf.set (hm.at_ u (by simp)).1 λc' _=>?_;by_cases e:c'=u.cell
 ·rw[if_pos e,e,AY hm.nd (by simp)]
 ·rw[if_neg e,aa8 hm.nd EG.nd λv hv=>?_];grind
end
structure CrR where
 p:Nat
 un:WZ
 fl:Rl
structure HT where
 w:Int
 h:Int
 y:rI
 ws:List Int
structure arM (x:HT):Prop where
 may:mY x.w x.h x.y.us
 fl:Hs x.w x.h x.y.us x.ws
def zX (r:CrR)(x:HT):List Value:=[ae x.w,ae x.h,ae x.y.most,.pointer (sZ r.un.p),.pointer (sZ r.fl.p)]
noncomputable def auj (r:CrR)(x:HT):List As:=[av r.p 125 (zX r x),wF r.un x.y,vN r.fl x.ws]
noncomputable def fY (r:CrR)(x:HT):As:=aW (arM x) (auj r x)
def vS (w h:Int)(y:rI)(cell goal:Int):Int:=if¬(bI w h cell/\bI w h goal)then 7 else if vQ y.us cell≠-1 then 10 else if(y.us.length:Int)≥y.most then 11 else if cell=goal then 13 else 0
section
variable {F:Nat->Prop}{W w w0:World}{L:List As}{r:CrR}{x:HT}{cell goal id:Int}
def rG (s:Sep F W w (fY r x::L)):arM x/\Sep F W w (av r.p 125 (zX r x)::wF r.un x.y::vN r.fl x.ws::L):=gR s
def yD (s:Sep F W w (av r.p 125 (zX r x)::wF r.un x.y::vN r.fl x.ws::L))(h:arM x):Sep F W w (fY r x::L):=dD s h
def alE {u:aP}{us:List aP}{mw mh:Int}(hm:mY mw mh us)(xW:∀v∈us,v.id<u.id)(hp:0<=u.id)(hc:bI mw mh u.cell)(hg:bI mw mh u.goal)(hn:u.cell∉us.map (·.cell)):mY mw mh (us++[u]):=by
 have hm1:∀v∈us++[u],v∈us\/v=u:=λv hv=>by grind
 refine⟨hm.wh,?_,λv hv=>?_,λv hv=>?_,?_⟩
 ·rw[List.map_append,List.pairwise_append];refine⟨hm.ids,by simp,λa ha b hb=>?_⟩;grind
 ·rcases hm1 v hv with hv|rfl
  ·exact hm.pos v hv
  ·exact hp
 ·rcases hm1 v hv with hv|rfl
  ·exact hm.at_ v hv
  grind
 ·rw[List.map_append,List.nodup_append];refine⟨hm.nd,by simp,λa ha b hb=>?_⟩;grind
def adb {Q:Option Addr->World->Prop}{mw mh most:Int}(hm:iS mw mh)(XY:1<=most/\most<=65536)(s:Sep F W w L)(h:∀r ws w',Sep F W w' (fY r ⟨mw,mh,⟨most,0,[]⟩,ws⟩::L)->Q (sZ r.p) w'):Gy mw mh most w Q:=by apply abU;have hwh:=nv hm;apply qd;rw[decide_eq_true hm,Bool.not_true,cond_false,bj,bj];refine acL XY s λur w s=>?_;rw[aH,show mw*mh=(((mw*mh).toNat:Nat):Int) by omega];refine ach s (by omega) λfr w s=>?_;refine aQ s λp w s=>?_;have s:=pk 3 [0,2,1] s;refine h ⟨p,ur,fr⟩ _ w (yD s ⟨⟨hm,List.Pairwise.nil,(λu hu=>by cases hu),(λu hu=>by cases hu),List.Pairwise.nil⟩,⟨by grind,λc hc=>?_⟩⟩);have:0<=c/\c<mw*mh:=hc.2;show(List.replicate _ _).getD _ _=_;rw[List.getD_eq_getElem?_getD,List.getElem?_replicate,A5];rfl
def amU {Q:Bool->World->Prop}{c:Int}(s:Sep F W w (fY r x::L))(h:∀w',Sep F W w' (fY r x::L)->Q (decide (bI x.w x.h c)) w'):pM (sZ r.p) c w Q:=by
 apply SG;have s:=ay s;obtain⟨hok,so⟩:=rG s;refine ah (lI so 0 rfl (ah (lI so 0 rfl ?_)));refine e_ s λw s _=>?_;have e:decide (aC x.w x.h c≥0)=decide (bI x.w x.h c):=decide_eq_decide.2 ⟨λh=>by
  by_cases hc:bI x.w x.h c
  ·exact hc
  ·unfold aC at h;grind,λh=>(bU h).2.1⟩
 grind
def agc {Q:Int->World->Prop}{c g:Int}(h:Q (if c=g then 13 else 0) w):n7 Q c g w:=by unfold n7;grind
def apK {Q:Int->World->Prop}{p:Option Addr}{c g:Int}(h:Q (if c=g then 13 else 0) w):nB p 3 c g w Q:=by apply DP;exact agc h
def apL {Q:Int->World->Prop}(s:Sep F W w (fY r x::L))(h:∀w',Sep F W w' (fY r x::L)->Q (vS x.w x.h x.y cell goal) w'):nB (sZ r.p) 0 cell goal w Q:=by
 apply DP;unfold vS at h;refine amU s λw s=>?_;by_cases hc:bI x.w x.h cell
 ·rw[decide_eq_true hc,Bool.not_true,cond_false];refine amU s λw s=>?_;by_cases hg:bI x.w x.h goal
  ·rw[decide_eq_true hg,Bool.not_true,cond_false];rw[if_neg λe=>e ⟨hc,hg⟩]at h;obtain⟨hok,so⟩:=rG s;refine ah (lP so 0 rfl ?_);apply BS (GX (ai (ai so)));rw[hok.fl.who hc];by_cases hw:vQ x.y.us cell=-1
   ·rw[xO hw,cond_false];rw[if_neg λe=>e hw]at h;have s:=ay s;have so:=ay so;refine ah (lP so 0 rfl (ah (lI so 0 rfl ?_)));refine acM (ai so) ⟨cm so 0 rfl,?_⟩;by_cases hl:(x.y.us.length:Int)≥x.y.most
    ·grind
    ·rw[bj hl];rw[if_neg hl]at h;exact agc (h _ s)
   grind
  grind
 grind
def akI {y:rI}{mw mh:Int}(h:vS mw mh y cell goal=0):bI mw mh cell/\bI mw mh goal/\vQ y.us cell=-1/\(y.us.length:Int)<y.most/\cell≠goal:=by unfold vS at h;grind
def alF {us:List aP}{mw mh c:Int}(hm:mY mw mh us):vQ us c=-1↔c∉us.map (·.cell):=by refine⟨λh e=>?_,IE⟩;obtain⟨v,hv,rfl⟩:=List.mem_map.1 e;rw[AY hm.nd hv]at h;have:=hm.pos v hv;omega
def YT {Q:Int->Int->World->Prop}(hn:x.y.next<1000000000)(s:Sep F W w (fY r x::L))
  (Hr:vS x.w x.h x.y cell goal≠0->∀w',Sep F W w' (fY r x::L)->Q (-1) (vS x.w x.h x.y cell goal) w')
  (hok:vS x.w x.h x.y cell goal=0->∀r' Ht w',r'.p=r.p->Sep F W w' (fY r' ⟨x.w,x.h,Pt x.y cell goal,Ht⟩::L)->Q x.y.next 0 w'):wR (sZ r.p) cell goal w Q:=by
 apply M6;refine lC (apL s λw s=>?_);by_cases h0:vS x.w x.h x.y cell goal=0
 ·rw[xO h0,cond_false];obtain⟨hc,hg,hw,hl,hne⟩:=akI h0;obtain⟨ok,s⟩:=rG s;refine ah (lP s 0 rfl ?_);have Ek:=(vi (ai s)).1;have RN:=Ek.RA;have s:=pk 3 [1,0,2] s;refine ac6 s hn hl λur w eu s=>?_;refine ah (lP s 1 rfl ?_);have s:=pk 3 [2,1,0] s;have hfree:AN x.ws cell=true:=by rw[ok.fl.free hc,hw];rfl
  refine NY s (by omega) (λe=>by grind) λ_ eL w s=>?_;have hno:=(alF ok.may).1 hw;have hmay:=alE (u:=⟨x.y.next,cell,goal⟩) ok.may (λv hv=>(Ek.jG v hv).2) RN.1 hc hg hno;have s:=gg (A:=[_,_,_]) (B:=[av r.p 125 (zX ⟨r.p,ur,{r.fl with eL:=eL}⟩ ⟨x.w,x.h,Pt x.y cell goal,x.ws.set cell.toNat (x.y.next+1)⟩),_,_]) [1,2,0] s (by unfold zX;rw[eu];rfl) (by decide);refine hok h0 ⟨r.p,ur,{r.fl with eL:=eL}⟩ _ w rfl (yD s ⟨hmay,apJ hmay (by rw[List.append_nil];exact ok.fl)⟩)
 grind
def apM {done us:List aP}{u:aP}(h:((done++u::us).map (·.id)).Pairwise (·<·)):(∀v∈done,¬v.id=u.id)/\∀v∈us,¬v.id=u.id:=by
 rw[List.map_append,List.map_cons,List.pairwise_append,List.pairwise_cons]at h;refine⟨λv hv e=>?_,λv hv e=>?_⟩
 ·have:=h.2.2 v.id (List.mem_map.2 ⟨v,hv,rfl⟩) u.id (List.mem_cons_self ..);omega
 ·have:=h.2.1.1 v.id (List.mem_map.2 ⟨v,hv,rfl⟩);omega
def aa9 {done us:List aP}{u:aP}(h:((done++u::us).map (·.id)).Pairwise (·<·)):((done++u::us).filter λv=>!decide (v.id=u.id))=done++us:=by
 obtain⟨h1,h2⟩:=apM h;rw[List.filter_append,List.filter_cons,decide_eq_true rfl,List.filter_eq_self.2 λv hv=>?_,List.filter_eq_self.2 λv hv=>?_]
 all_goals grind
theorem ajG {done us:List aP}{u:aP}{f:aP->aP}(h:((done++u::us).map (·.id)).Pairwise (·<·)):((done++u::us).map λv=>if v.id=u.id then f v else v)=done++f u::us:=by
 obtain⟨h1,h2⟩:=apM h;have e:∀l:List aP,(∀v∈l,¬v.id=u.id)->(l.map λv=>if v.id=u.id then f v else v)=l:=λl hl=>by have:=List.map_congr_left (f:=λv=>if v.id=u.id then f v else v) (g:=id) λv hv=>if_neg (hl v hv);rw[this,List.map_id]
 simp_all
def ade {us:List aP}{u:aP}(h:gQ us id=some u):u.id=id/\∃done rest,us=done++u::rest:=by have h1:=List.find?_some h;have h2:=List.mem_of_find?_eq_some h;exact⟨of_decide_eq_true h1,List.append_of_mem h2⟩
def aa_ {done us:List aP}{u:aP}(h:((done++u::us).map (·.id)).Pairwise (·<·)):gQ (done++u::us) u.id=some u:=
 XZ h (by rw[List.getElem?_append_right (Nat.le_refl _),Nat.sub_self];rfl)
def FC {Q:World->Prop}{done us:List aP}{u:aP}(hu:x.y.us=done++u::us)(s:Sep F W w (fY r x::L))
  (h:∀r' Ht w',r'.p=r.p->Sep F W w' (fY r' ⟨x.w,x.h,⟨x.y.most,x.y.next,done++us⟩,Ht⟩::L)->Q w'):nW (sZ r.p) u.id u.cell u.goal w Q:=by
 apply OY;obtain⟨ok,s⟩:=rG s;have hmay:=ok.may;have hfl:=ok.fl;rw[hu]at hmay hfl;have amV:=hmay.at_ u (by simp);have Ek:=(vi (ai s)).1;have hru:=Ek.jG u (by rw[hu];simp);have RN:=Ek.RA;refine aQ s λub w s=>?_;have s:=ay s;refine ah (lP s 1 rfl (lI s 0 rfl ?_));have s:=pk 4 [2,0,1,3] s;refine aa3 (by unfold iK;omega) s (by rw[hu,aa_ hmay.ids];rfl) λur w eu s=>?_;have s:=ay s;refine ah (lP s 2 rfl (lI s 1 rfl ?_));have ed:lq x.y u.id=⟨x.y.most,x.y.next,done++us⟩:=by rw[lq,hu,aa9 hmay.ids]
 rw[ed]at s;have s:=pk 4 [3,0,2] s;have arO:=AY hmay.nd (u:=u) (by simp);have EG:=hmay.sub (us':=done++us) (List.Sublist.append_left (List.sublist_cons_self _ _) _);refine Me s (λe=>?_) λ_ eL w s=>?_
 ·rw[hfl.who amV.1,arO]at e;omega
 ·have s:=gg (A:=[_,_,_]) (B:=[av r.p 125 (zX ⟨r.p,ur,{r.fl with eL:=eL}⟩ ⟨x.w,x.h,⟨x.y.most,x.y.next,done++us⟩,x.ws.set u.cell.toNat 0⟩),_,_]) [2,1,0] s (by unfold zX;rw[eu];rfl) (by decide);refine h ⟨r.p,ur,{r.fl with eL:=eL}⟩ _ w rfl (yD s ⟨EG,alD hmay hfl⟩)
def adf {Q:Int->World->Prop}(hc:bI x.w x.h cell)(s:Sep F W w (fY r x::L))(h:Q (vQ x.y.us cell) w):ze (sZ r.p) cell w Q:=by apply Qv;obtain⟨ok,so⟩:=rG s;refine lC (ah (lP so 0 rfl ?_));apply BS (GX (ai (ai so)));rw[ok.fl.who hc];exact h
def Em {Q:Option Addr->Nat->Nat->World->Prop}(s:Sep F W w (fY r x::L))(h:∀a n c w',Sep F W w' (ak a n c 43 3 (flat gN x.y.us)::fY r x::L)->Q a n c w'):nA (sZ r.p) w Q:=by apply Nk;obtain⟨ok,s⟩:=rG s;refine lC (ah (lP s 0 rfl ?_));refine ac8 (jd s) λa n c w s=>?_;have s:=pk 4 [2,1,3,0] s;exact h a n c w (cu (yD s ok) (List.Perm.swap _ _ _))
def TE {Q:Int->World->Prop}(xW:iK id)(s:Sep F W w (fY r x::L))(h12:gQ x.y.us id=none->∀w',Sep F W w' (fY r x::L)->Q 12 w')
  (h7:∀u,gQ x.y.us id=some u->¬bI x.w x.h goal->∀w',Sep F W w' (fY r x::L)->Q 7 w')
  (h13:∀u,gQ x.y.us id=some u->bI x.w x.h goal->u.cell=goal->∀r' Ht w',r'.p=r.p->Sep F W w' (fY r' ⟨x.w,x.h,lq x.y id,Ht⟩::L)->Q 13 w')
  (h0:∀u,gQ x.y.us id=some u->bI x.w x.h goal->u.cell≠goal->∀r' Ht w',r'.p=r.p->Sep F W w' (fY r' ⟨x.w,x.h,wo x.y id λu=>⟨u.id,u.cell,goal⟩,Ht⟩::L)->Q 0 w'):tA (sZ r.p) id goal w Q:=by
 apply J8;obtain⟨ok,s⟩:=rG s;refine lC (ah (lP s 0 rfl ?_));have cl:∀{w:World} {A:As},Sep F W w (A::wF r.un x.y::av r.p 125 (zX r x)::vN r.fl x.ws::L)->Sep F W w (fY r x::A::L):=λs=>yD (pk 4 [2,1,3,0] s) ok;refine s9 (jd s) xW (λhn w s=>?_) λu hu w s=>?_
 ·refine aV s λp w s=>?_;refine sT s 0 rfl λw s=>?_;refine sT s 0 rfl λw s=>?_;refine sT s 0 rfl λw s=>?_;exact h12 hn w (ai (cu (cl s) (List.Perm.swap _ _ _)))
 ·obtain⟨eid,done,rest,BW⟩:=ade hu;have hmay:=ok.may;rw[BW]at hmay;refine aV s λp w s=>?_;refine sT s 0 rfl λw s=>?_;refine sT s 0 rfl λw s=>?_;refine ax s (i:=0) rfl rfl rfl λw s=>?_;refine amU (cl s) λw s=>?_;by_cases hg:bI x.w x.h goal
  ·rw[decide_eq_true hg,Bool.not_true,cond_false];apply lI s 1 rfl;apply apK;by_cases hcg:u.cell=goal
   ·rw[if_pos hcg];refine lI s 1 rfl (lI s 1 rfl (lI s 1 rfl ?_));refine FC BW s λr' Ht w e s=>?_;apply h13 u hu hg hcg r' Ht w e;have ed:lq x.y id=⟨x.y.most,x.y.next,done++rest⟩:=by rw[lq,<-eid,BW,aa9 hmay.ids]
    rw[ed];exact ai (jd s)
   ·rw[if_neg hcg];obtain⟨ok,s⟩:=rG s;rw[xO rfl,cond_false];refine ah (lP s 0 rfl ?_);have s:=pk 4 [1,0,2] s;refine ac7 xW s (λhn=>by rw[hn]at hu;cases hu) λ_ ur w eu s=>?_;have s:=gg (A:=[_,_,_]) (B:=[av r.p 125 (zX ⟨r.p,ur,r.fl⟩ ⟨x.w,x.h,wo x.y id λu=>⟨u.id,u.cell,goal⟩,x.ws⟩),_,_]) [1,0,2] s (by unfold zX;rw[eu];rfl) (by decide);have eT:(wo x.y id λu=>⟨u.id,u.cell,goal⟩).us=done++⟨u.id,u.cell,goal⟩::rest:=by rw[wo,BW,<-eid];exact ajG hmay.ids
    have hu1:=hmay.at_ u (by simp);have hnd:=hmay.nd;rw[List.map_append,List.map_cons,List.nodup_append,List.nodup_cons]at hnd;have EG:mY x.w x.h (done++⟨u.id,u.cell,goal⟩::rest):=hmay.Xl rfl hu1.1 hg (by rw[List.map_append,List.mem_append];exact λq=>q.elim (λq=>hnd.2.2 _ q _ (List.mem_cons_self ..) rfl) hnd.2.1.1)
    refine h0 u hu hg hcg ⟨r.p,ur,r.fl⟩ x.ws w rfl (yD s ⟨?_,ok.fl.len,λc hc=>?_⟩)
    ·rw[eT];exact EG
    ·rw[eT,ok.fl.at_ c hc,BW];congr 1;by_cases e:c=u.cell
     ·rw[e,AY hmay.nd (by simp),AY (u:=⟨u.id,u.cell,goal⟩) EG.nd (by simp)]
     ·refine aa8 hmay.nd EG.nd λv hv=>?_;have:∀z:aP,z.cell=u.cell->v≠z:=λz hz q=>e (by rw[<-hv,q,hz]);simp[this u rfl,this ⟨u.id,u.cell,goal⟩ rfl]
  ·rw[decide_eq_false hg,Bool.not_false,cond_true];exact h7 u hu hg w (ai (jd s))
def Vf {Q:Int->World->Prop}(xW:iK id)(s:Sep F W w (fY r x::L))(h12:gQ x.y.us id=none->∀w',Sep F W w' (fY r x::L)->Q 12 w')
  (h0:∀u,gQ x.y.us id=some u->∀r' Ht w',r'.p=r.p->Sep F W w' (fY r' ⟨x.w,x.h,lq x.y id,Ht⟩::L)->Q 0 w'):uu (sZ r.p) id w Q:=by
 apply KN;obtain⟨ok,s⟩:=rG s;refine lC (ah (lP s 0 rfl ?_));have cl:∀{w:World} {A:As},Sep F W w (A::wF r.un x.y::av r.p 125 (zX r x)::vN r.fl x.ws::L)->Sep F W w (fY r x::A::L):=λs=>yD (pk 4 [2,1,3,0] s) ok;refine s9 (jd s) xW (λhn w s=>?_) λu hu w s=>?_
 ·refine aV s λp w s=>?_;refine sT s 0 rfl λw s=>?_;refine sT s 0 rfl λw s=>?_;refine sT s 0 rfl λw s=>?_;exact h12 hn w (ai (cu (cl s) (List.Perm.swap _ _ _)))
 ·obtain⟨eid,done,rest,BW⟩:=ade hu;have hmay:=ok.may;rw[BW]at hmay;refine aV s λp w s=>?_;refine sT s 0 rfl λw s=>?_;refine sT s 0 rfl λw s=>?_;refine ax s (i:=0) rfl rfl rfl λw s=>?_;refine lI s 0 rfl (lI s 0 rfl (lI s 0 rfl ?_));refine FC BW (cl s) λr' Ht w e s=>?_;apply h0 u hu r' Ht w e;have ed:lq x.y id=⟨x.y.most,x.y.next,done++rest⟩:=by rw[lq,<-eid,BW,aa9 hmay.ids]
  rw[ed];exact ai (jd s)
end
def aCx:zc T 51=[ae 0,ae 0]:=rfl
def I5 (w h:Int)(y:rI)(ds:List Int):rI:=⟨y.most,y.next,(cJ w h [] (y.us.zip ds)).1⟩
section
variable {F:Nat->Prop}{W w w0:World}{L:List As}{r:CrR}{x:HT}{da ma ga ta:Option Addr}{dn dc mn mc gn gc tn tc i mb ub:Nat}{ds:List Int}{tm:Int}
def arP {P7:Option Addr->Option Addr->Nat->Nat->Option Addr->Nat->Nat->Option Addr->Nat->Nat->Int->Int->World->Prop}{Q:Option Addr->Nat->Nat->Option Addr->Nat->Nat->Int->World->Prop}{done us:List aP}{u:aP}{d:Int}(hi:i<=1000000000)
  (hu:x.y.us=done++u::us)(hb:lO x.w x.h (done++u::us) u d=true)(s:Sep F W w (av ub 43 (gN u)::av mb 51 (lu (u.id,aY x.w x.h u.cell d))::fY r x::L))
  (next:∀r' Ht w',r'.p=r.p->Sep F W w' (fY r' ⟨x.w,x.h,⟨x.y.most,x.y.next,(done++mD x.w x.h u d)++us⟩,Ht⟩::L)->P7 (sZ r.p) ma mn mc ga gn gc ta tn tc tm ((i+1:Nat):Int) w'):
  mB P7 Q (sZ r.p) ma mn mc ga gn gc (aZ mb) (aZ ub) ta tn tc tm i w:=by
 rw[mB,F_ hi];refine lI s 1 rfl (lI s 0 rfl ?_);unfold mD at next
 have hto:=ajE hb;obtain⟨_,hnot⟩:=ae5.1 hb;generalize aY x.w x.h u.cell d=to at*;by_cases hg:to=u.goal
 ·rw[ee hg,cond_true];refine lI s 0 rfl (lI s 0 rfl (lI s 0 rfl ?_));refine FC hu (pk 3 [2] s) λr' Ht w e s=>?_;apply next r' Ht w e
  simp_all
 ·rw[cL hg,cond_false];rw[if_neg hg]at next
  have s:=ay s;obtain⟨ok,s⟩:=rG (pk 3 [2,0,1] s);have hmay:=ok.may;have hfl:=ok.fl;rw[hu]at hmay hfl;have amV:=hmay.at_ u (by simp);have Ek:=(vi (ai s)).1;have hru:=Ek.jG u (by rw[hu];simp);have RN:=Ek.RA;have arO:=AY hmay.nd (u:=u) (by simp);refine ah (lP s 0 rfl (lI s 3 rfl (lI s 4 rfl ?_)));have s:=pk 5 [2,0,1,3,4] s;have hw1:CO x.ws u.cell=u.id:=by rw[hfl.who amV.1,arO]
  have hfree:AN x.ws to=true:=by rw[hfl.free hto,IE hnot];rfl
  refine YL s (λe=>?_) λ_ _ eL w s=>?_
  ·rw[hw1,hfree]at e;rcases e with e|e
   ·omega
   ·cases e
  ·have s:=ay s;refine ah (lP s 1 rfl (lI s 4 rfl (lI s 4 rfl ?_)));have s:=pk 5 [2,0,1] s;refine aa1 (by unfold iK;omega) s (λhn=>?_) λ_ ur w eu s=>?_
   ·rw[hu,aa_ hmay.ids]at hn;cases hn
   ·have eT:(wo x.y u.id λu=>⟨u.id,to,u.goal⟩)=⟨x.y.most,x.y.next,(done++[⟨u.id,to,u.goal⟩])++us⟩:=by rw[wo,hu,ajG hmay.ids,List.append_assoc];rfl
    rw[eT,hw1]at s;have EG:mY x.w x.h (done++⟨u.id,to,u.goal⟩::us):=hmay.Xl rfl hto amV.2 λq=>hnot (by rw[List.map_append,List.mem_append]at q⊢;exact q.imp id λq=>by rw[List.map_cons];exact List.mem_cons_of_mem _ q)
    have s:=gg (A:=[_,_,_]) (B:=[av r.p 125 (zX ⟨r.p,ur,{r.fl with eL:=eL}⟩ ⟨x.w,x.h,⟨x.y.most,x.y.next,(done++[⟨u.id,to,u.goal⟩])++us⟩,(x.ws.set u.cell.toNat 0).set to.toNat (u.id+1)⟩),_,_]) [2,0,1] s (by unfold zX;rw[eu];rfl) (by decide);refine next ⟨r.p,ur,{r.fl with eL:=eL}⟩ _ w rfl (yD s ⟨?_,?_⟩)
    ·rw[List.append_assoc];exact EG
    ·rw[List.append_assoc];exact apJ EG (alD hmay hfl)
def aba {Q:Option Addr->Nat->Nat->Option Addr->Nat->Nat->Int->World->Prop}(hD:∀w',Sep F W w' L->Sl w' da dn dc 1 one ds)(hlen:ds.length=x.y.us.length)(hr:∀d∈ds,0<=d/\d<=5)(s:Sep F W w (fY r x::L))
  (h:∀r' Ht ma mn mc ga gn gc w',r'.p=r.p->Sep F W w' (ak ma mn mc 51 2 (flat lu (cJ x.w x.h [] (x.y.us.zip ds)).2.1)::ak ga gn gc 3 1 (flat one (cJ x.w x.h [] (x.y.us.zip ds)).2.2)::fY r' ⟨x.w,x.h,I5 x.w x.h x.y ds,Ht⟩::L)->Q ma mn mc ga gn gc 0 w'):
  yl (sZ r.p) da dn dc w Q:=by
 apply Pa;have s:=ay s;obtain⟨ok,so⟩:=rG s;have Ek:=(vi (ai so)).1;have pC:=Ek.n_;have XY:=Ek.most;refine lC (ah (lI so 0 rfl (ah (lI so 0 rfl ?_))));refine Em s λua un uc w s=>?_;obtain⟨_,so⟩:=rG (ai s);refine⟨cm so 0 rfl,cm so 0 rfl,?_⟩;have hU:=aG s (i:=0) rfl jM (by decide);have hun:=hU.len;have azg:(x.y.us.zip ds).map (·.1)=x.y.us:=by rw[List.map_fst_zip];omega
 have hml:=(JI (w:=x.w) (h:=x.h) (x.y.us.zip ds) []).2;rw[List.length_zip]at hml;refine ae6 s hU (hD _ (ai (ai s))) hlen (by omega) hr ok.may λaa an ac ma mn mc ga gn gc w s _=>?_;have s:=pk 4 [3,0,1] s;have hmn:=(aG s (i:=1) rfl Ag (by decide)).len;have loop:∀(j i:Nat) (r':CrR) (x':HT) (done:List aP) (todo:List (aP×Int)) (w:World),i+j=mn->r'.p=r.p->x'.w=x.w->x'.h=x.h->x'.y=⟨x.y.most,x.y.next,done++todo.map (·.1)⟩->(cJ x.w x.h done todo).2.1=(cJ x.w x.h [] (x.y.us.zip ds)).2.1.drop i->(cJ x.w x.h done todo).1=(cJ x.w x.h [] (x.y.us.zip ds)).1->
   Sep F W w (fY r' x'::ak ma mn mc 51 2 (flat lu (cJ x.w x.h [] (x.y.us.zip ds)).2.1)::ak ga gn gc 3 1 (flat one (cJ x.w x.h [] (x.y.us.zip ds)).2.2)::L)->
   p9 Q (j+1) (sZ r.p) ma mn mc ga gn gc ma mn mc (mn:Int) i w:=by
  intro j;induction j with
  |zero=>
   intro i r' x' done todo w hij er ew eh ey e1 e2 s;show p8 _ _ _ _ _ _ _ _ _ _ _ _ _ _ _;rw[p8,bj];rw[List.drop_eq_nil_of_le (by omega)]at e1;have e3:=ac_ _ _ e1;obtain⟨w1,h1,y1,ws1⟩:=x';subst ew eh ey;apply h r' ws1 ma mn mc ga gn gc w er;rw[I5,<-e2,e3];exact pk 3 [1,2,0] s
  |succ j ih=>
   intro i r' x' done todo w hij er ew eh ey e1 e2 s;show p8 _ _ _ _ _ _ _ _ _ _ _ _ _ _ _;rw[p8,bM];refine(aG s (i:=1) rfl Ag (by decide)).El rfl (by omega) λp m hm hc=>?_;have hdr:(cJ x.w x.h [] (x.y.us.zip ds)).2.1.drop i=m::(cJ x.w x.h [] (x.y.us.zip ds)).2.1.drop (i+1):=by obtain⟨hlt,e⟩:=List.getElem?_eq_some_iff.1 hm;rw[List.drop_eq_getElem_cons hlt,e]
   rw[hdr]at e1;obtain⟨done',u,d,rest,hb,hsp,em,e3,e4⟩:=ada _ _ e1;have BW:x'.y.us=done'++u::rest.map (·.1):=by rw[ey,hsp]
   rw[<-ew,<-eh]at hb em;refine aL (hc 0 _ rfl) (aL (hc 1 _ rfl) ?_);refine aV s λmb w s=>?_;refine sT s 0 rfl λw s=>?_;refine ax s (i:=0) rfl rfl rfl λw s=>?_;have s:=s;rw[<-er];obtain⟨ok',s⟩:=rG (pk 4 [1,0,2,3] s);have s:=ay s;have aCy:=(vi (ai s)).1.jG u (by rw[BW];simp);have aCz:=(vi (ai s)).1.RA;have hgu:gQ x'.y.us m.1=some u:=by have:=ok'.may.ids;rw[BW]at this;rw[BW,em];exact aa_ this
   have xW:iK m.1:=by rw[em];unfold iK;show _<=u.id/\u.id<_;omega
   have go:∀{ub:Nat} {w:World},Sep F W w (av ub 43 (gN u)::av mb 51 (lu m)::fY r' x'::ak ma mn mc 51 2 (flat lu (cJ x.w x.h [] (x.y.us.zip ds)).2.1)::ak ga gn gc 3 1 (flat one (cJ x.w x.h [] (x.y.us.zip ds)).2.2)::L)->
     mB (p9 Q (j+1)) Q (sZ r'.p) ma mn mc ga gn gc (aZ mb) (aZ ub) ma mn mc (mn:Int) i w:=λ{ub w} s=>by
    rw[em]at s;refine arP (by omega) BW hb s λr2 ws2 w e5 s=>?_;rw[er];refine ih (i+1) r2 ⟨x'.w,x'.h,⟨x'.y.most,x'.y.next,(done'++mD x'.w x'.h u d)++rest.map (·.1)⟩,ws2⟩ (done'++mD x.w x.h u d) rest w (by omega) (e5.trans er) ew eh ?_ e3 (e4.trans e2) s;rw[ew,eh,ey]
   refine ah (lP s 0 rfl (lI s 3 rfl ⟨?_,?_⟩))
   ·have s:=jd s;refine s9 s xW (λhn=>by rw[hn]at hgu;cases hgu) λv hv w s=>?_;rw[hgu]at hv;cases hv;refine aV s λub w s=>?_;refine⟨cm s 4 rfl,cm s 2 rfl,?_⟩;refine sT s 0 rfl λw s=>?_;refine sT s 0 rfl λw s=>?_;refine ax s (i:=0) rfl rfl rfl λw s=>?_;have s:=yD (pk 7 [2,1,3,0,4,5,6] s) ok';exact go (pk 5 [1,2,0,3,4] s)
   ·refine aV s λub w s=>?_;refine⟨cm s 4 rfl,cm s 1 rfl,?_⟩;have s:=pk 7 [2,0,1,3,4,5,6] s;refine s9 s xW (λhn=>by rw[hn]at hgu;cases hgu) λv hv w s=>?_;rw[hgu]at hv;cases hv;refine sT s 1 rfl λw s=>?_;refine sT s 1 rfl λw s=>?_;refine ax s (i:=1) rfl rfl rfl λw s=>?_;have s:=yD (pk 7 [2,0,3,1,4,5,6] s) ok';exact go (pk 5 [1,2,0,3,4] s)
 exact⟨mn+1,loop mn 0 r x [] (x.y.us.zip ds) w (by omega) rfl rfl rfl (by rw[azg];rfl) rfl rfl s⟩
end
end Go.Proofs.YtmegplnmiepfbaaGreatDoor.S
namespace Go.Proofs.YtmegplnmiepfbaaGreatDoor.S
open Go.Sx
abbrev AZ:=List (Int×List (Int×List Int))
def zY (s id:Int):List (Int×List Int)->List (Int×List Int)
 |[]=>[(s,[id])]
 |q::r=>if q.1=s then(s,q.2++[id])::r else q::zY s id r
def qA (g s id:Int):AZ->AZ
 |[]=>[(g,[(s,[id])])]
 |q::r=>if q.1=g then(g,zY s id q.2)::r else q::qA g s id r
def TF (w h:Int)(st:AZ)(u:aP):AZ:=qA u.goal (aC w h u.cell) u.id st
def adg (w h:Int)(us:List aP):AZ:=us.foldl (TF w h) []
structure Hu where
 g:Int
 s:Int
 ids:List Int
def DC (st:AZ):List Hu:=st.flatMap λq=>q.2.map λp=>⟨q.1,p.1,p.2⟩
def l8 (w h:Int)(us:List aP):List Hu:=DC (adg w h us)
section
variable {g s d w h:Int}{st:AZ}{us:List aP}
def arQ {p1 p2:List (Int×List Int)}{ids:List Int}(hn:s∉p1.map (·.1)):zY s d (p1++(s,ids)::p2)=p1++(s,ids++[d])::p2:=by
 induction p1 with
 |nil=>simp[zY]
 |cons q p1 ih=>
  rw[List.map_cons,List.mem_cons,not_or]at hn;rw[List.cons_append,zY,if_neg (λe=>hn.1 e.symm),ih hn.2];rfl
def arR {l:List (Int×List Int)}(hn:s∉l.map (·.1)):zY s d l=l++[(s,[d])]:=by
 induction l with
 |nil=>rfl
 |cons q p1 ih=>
  rw[List.map_cons,List.mem_cons,not_or]at hn;rw[List.cons_append,zY,if_neg (λe=>hn.1 e.symm),ih hn.2]
def ajH {g1 g2:AZ}{l:List (Int×List Int)}(hn:g∉g1.map (·.1)):qA g s d (g1++(g,l)::g2)=g1++(g,zY s d l)::g2:=by
 induction g1 with
 |nil=>simp[qA]
 |cons q p1 ih=>
  rw[List.map_cons,List.mem_cons,not_or]at hn;rw[List.cons_append,qA,if_neg (λe=>hn.1 e.symm),ih hn.2];rfl
def arS (hn:g∉st.map (·.1)):qA g s d (st++[(g,[])])=qA g s d st:=by
 induction st with
 |nil=>simp[qA,zY]
 |cons q p1 ih=>
  rw[List.map_cons,List.mem_cons,not_or]at hn;rw[List.cons_append,qA,if_neg (λe=>hn.1 e.symm),ih hn.2,qA,if_neg (λe=>hn.1 e.symm)]
def amW:(qA g s d st).map (·.1)=if g∈st.map (·.1)then st.map (·.1)else st.map (·.1)++[g]:=by
 induction st with
 |nil=>rfl
 |cons q p1 ih=>
  rw[qA];grind
def TG (us:List aP):(adg w h us).map (·.1)=tW us:=by
 have:∀(us:List aP) (st:AZ),(us.foldl (TF w h) st).map (·.1)=us.foldl E6 (st.map (·.1)):=by
  intro us;induction us with
  |nil=>intro st;rfl
  |cons u us ih=>
   intro st;rw[List.foldl_cons,List.foldl_cons,ih];congr 1;exact amW
 exact this us []
def abb {l:List (Int×List Int)}{x i:Int}:(∃p∈zY s d l,p.1=x/\i∈p.2)↔(x=s/\i=d)\/∃p∈l,p.1=x/\i∈p.2:=by
 induction l with
 |nil=>
  simp[zY,List.mem_singleton,exists_eq_left,List.not_mem_nil,false_and,exists_false,or_false];grind
 |cons q l ih=>
  rw[zY];split
  ·rename_i e;subst e;constructor
   ·grind
   ·rintro (⟨rfl,rfl⟩|⟨p,hp,e1,e2⟩)
    ·simp_all
    ·rcases List.mem_cons.1 hp with rfl|hp
     ·simp_all
     grind
  grind
def inG (st:AZ)(g s i:Int):Prop:=∃q∈st,q.1=g/\∃p∈q.2,p.1=s/\i∈p.2
def arT {x y i:Int}:inG (qA g s d st) x y i↔(x=g/\y=s/\i=d)\/inG st x y i:=by
 unfold inG;induction st with
 |nil=>
  simp[qA,List.mem_singleton,exists_eq_left,List.not_mem_nil,false_and,exists_false,or_false];grind
 |cons q st ih=>
  rw[qA];split
  ·rename_i e;subst e;constructor
   ·rintro ⟨p,hp,e1,e2⟩;rcases List.mem_cons.1 hp with rfl|hp
    ·rcases abb.1 e2 with⟨e3,e4⟩|e2
     all_goals grind
    grind
   ·rintro (⟨rfl,e3,e4⟩|⟨p,hp,e1,e2⟩)
    ·exact⟨_,List.mem_cons_self ..,rfl,abb.2 (.inl ⟨e3,e4⟩)⟩
    ·rcases List.mem_cons.1 hp with rfl|hp
     ·exact⟨_,List.mem_cons_self ..,e1,abb.2 (.inr e2)⟩
     grind
  ·constructor
   ·rintro ⟨p,hp,e1,e2⟩;rcases List.mem_cons.1 hp with rfl|hp
    ·grind
    ·exact(ih.1 ⟨p,hp,e1,e2⟩).imp id λ⟨p,hp,e⟩=>⟨p,List.mem_cons_of_mem _ hp,e⟩
   ·rintro (h|⟨p,hp,e1,e2⟩)
    ·simp_all
    ·rcases List.mem_cons.1 hp with rfl|hp
     ·grind
     ·obtain⟨p,hp,e⟩:=ih.2 (.inr ⟨p,hp,e1,e2⟩);grind
def arU {x y i:Int}:inG (adg w h us) x y i↔∃u∈us,u.goal=x/\aC w h u.cell=y/\u.id=i:=by
 have:∀(us:List aP) (st:AZ),inG (us.foldl (TF w h) st) x y i↔inG st x y i\/∃u∈us,u.goal=x/\aC w h u.cell=y/\u.id=i:=by
  intro us;induction us with
  |nil=>grind
  |cons u us ih=>
   intro st;rw[List.foldl_cons,ih];rw[TF,arT];grind
 have h0:¬inG [] x y i:=λ⟨q,hq,_⟩=>by cases hq
 unfold adg;grind
def Xs {x y i:Int}:(∃p∈l8 w h us,p.g=x/\p.s=y/\i∈p.ids)↔∃u∈us,u.goal=x/\aC w h u.cell=y/\u.id=i:=by
 rw[<-arU];unfold l8 DC inG;constructor
 ·rintro ⟨p,hp,e1,e2,e3⟩;obtain⟨q,hq,hp⟩:=List.mem_flatMap.1 hp;grind
 ·rintro ⟨q,hq,e1,z,hz,e2,e3⟩;exact⟨⟨q.1,z.1,z.2⟩,List.mem_flatMap.2 ⟨q,hq,List.mem_map.2 ⟨z,hz,rfl⟩⟩,e1,e2,e3⟩
def ahx (st:AZ):Prop:=∀q∈st,∀p∈q.2,p.2≠[]
def apN {l:List (Int×List Int)}(h:∀p∈l,p.2≠[]):∀p∈zY s d l,p.2≠[]:=by
 induction l with
 |nil=>intro p hp;simp[zY,List.mem_singleton]at hp;grind
 |cons q l ih=>
  intro p hp;rw[zY]at hp;split at hp
  ·rcases List.mem_cons.1 hp with rfl|hp
   ·simp
   ·exact h p (List.mem_cons_of_mem _ hp)
  grind
def apO (h:ahx st):ahx (qA g s d st):=by
 induction st with
 |nil=>
  intro q hq p hp;simp[qA,List.mem_singleton]at hq;grind
 |cons q st ih=>
  intro z hz;rw[qA]at hz;split at hz
  ·rcases List.mem_cons.1 hz with rfl|hz
   ·exact apN (h q (List.mem_cons_self ..))
   ·exact h z (List.mem_cons_of_mem _ hz)
  ·rcases List.mem_cons.1 hz with rfl|hz
   ·exact h z (List.mem_cons_self ..)
   ·exact ih (λq hq=>h q (List.mem_cons_of_mem _ hq)) z hz
def arV (l:List (Int×List Int)):(zY s d l).length<=l.length+1:=by
 induction l with
 |nil=>exact Nat.le_refl _
 |cons q l ih=>
  rw[zY];grind
def Le (q:Int×List (Int×List Int)):DC (q::st)=(q.2.map λp=>⟨q.1,p.1,p.2⟩)++DC st:=rfl
def arW (st:AZ):(DC (qA g s d st)).length<=(DC st).length+1:=by
 induction st with
 |nil=>exact Nat.le_refl _
 |cons q st ih=>
  rw[qA];split
  ·rw[Le,Le,List.length_append,List.length_append,List.length_map,List.length_map];have:=arV (s:=s) (d:=d) q.2;grind
  ·rw[Le,Le,List.length_append,List.length_append];omega
def agf (w h:Int)(us:List aP):(l8 w h us).length<=us.length:=by
 have:∀(us:List aP) (st:AZ),(DC (us.foldl (TF w h) st)).length<=(DC st).length+us.length:=by
  intro us;induction us with
  |nil=>grind
  |cons u us ih=>
   intro st;rw[List.foldl_cons,List.length_cons];have h1:=ih (TF w h st u);have h2:=arW (g:=u.goal) (s:=aC w h u.cell) (d:=u.id) st;have h2:(DC (TF w h st u)).length<=(DC st).length+1:=h2;omega
 have:=this us [];have e:(DC ([]:AZ)).length=0:=rfl;rw[e,Nat.zero_add]at this;exact this
def amX {p:Hu}(hp:p∈l8 w h us):p.ids≠[]:=by
 have:∀(us:List aP) (st:AZ),ahx st->ahx (us.foldl (TF w h) st):=by
  intro us;induction us with
  |nil=>grind
  |cons u us ih=>intro st h;exact ih _ (apO h)
 obtain⟨q,hq,hp⟩:=List.mem_flatMap.1 hp;obtain⟨z,hz,rfl⟩:=List.mem_map.1 hp;exact this us [] (λq hq=>by cases hq) q hq z hz
def amY {p:Hu}(hp:p∈l8 w h us):∃u∈us,u.goal=p.g/\aC w h u.cell=p.s:=by have hf:=amX hp;obtain⟨i,hi⟩:=List.exists_mem_of_ne_nil _ hf;obtain⟨u,hu,e1,e2,_⟩:=Xs.1 ⟨p,hp,rfl,rfl,hi⟩;grind
end
end Go.Proofs.YtmegplnmiepfbaaGreatDoor.S
namespace Go.Proofs.YtmegplnmiepfbaaGreatDoor.S
open Go.Sx
attribute [local irreducible] af cD bz bg aA cy b_ St Bx Al App cK cE cB bV aN bG aq bT av ak aW mapA
structure B3 where
 a:Option Addr
 n:Nat
 c:Nat
def Ug (q:B3):Value:=.slice q.a q.n q.c
structure Bj where
 g:Int
 s:Int
 q:B3
 ids:List Int
def yW (p:Bj):List Value:=[ae p.g,ae p.s,.slice p.q.a p.q.n p.q.c]
def uZ (p:Bj):(yW p).length=3:=rfl
def apP (x:Bj)(u:Value)(h:u∈yW x):u.oneCell'=true:=by unfold yW at h;simp[List.mem_cons,List.not_mem_nil,or_false]at h;rcases h with rfl|rfl|rfl<;>rfl
def arX (p:Bj):As:=ak p.q.a p.q.n p.q.c 3 1 (flat one p.ids)
structure C1 where
 g:Int
 q:B3
 ps:List Bj
def gpR (G:C1):As:=ak G.q.a G.q.n G.q.c 211 3 (flat yW G.ps)
def BG (gs:List C1):As:=aW True (gs.map gpR)
def A0 (ps:List Bj):As:=aW True (ps.map arX)
def ke (gs:List C1):List Bj:=gs.flatMap (·.ps)
def Ga (gs:List C1):AZ:=gs.map λG=>(G.g,G.ps.map λp=>(p.s,p.ids))
def atT:P.underlying 180=some (.map 253 3):=by kernel_rfl
def ofT:P.underlying 252=some (.map 3 208):=by kernel_rfl
def av9 (w:World):(zeroValue 208).run P w=.ok (Ug ⟨none,0,0⟩) w:=by kernel_rfl
section
variable {F:Nat->Prop}{W w w0:World}{L:List As}
def TJ {A B:List As}{X:As}(s:Sep F W w (aW True (A++X::B)::L)):Sep F W w (X::aW True (A++B)::L):=by
 have s:=(gR s).2;have s:=cu (L':=(A++B)++X::L) s (by rw[List.append_assoc,List.append_assoc,List.cons_append];exact List.Perm.append_left _ List.perm_middle.symm)
 have s:=dD s trivial;exact jd s
def MJ {A B:List As}{X:As}(s:Sep F W w (X::aW True (A++B)::L)):Sep F W w (aW True (A++X::B)::L):=by have s:=(gR (jd s)).2;refine dD ?_ trivial;apply cu s;rw[List.append_assoc,List.append_assoc,List.cons_append];exact List.Perm.append_left _ List.perm_middle
end
def gOf (ms:List (Int×B3))(g:Int):B3:=(fE ms g).getD ⟨none,0,0⟩
structure Oz (ms:List (Int×B3)) (m2:List ((Int×Int)×Int)) (gs:List C1):Prop where
 hk:o7 ms
 Je:o7 m2
 nd:(gs.map (·.g)).Nodup
 nds:∀G∈gs,(G.ps.map (·.s)).Nodup
 of_:∀G∈gs,gOf ms G.g=G.q
 no:∀g,g∉gs.map (·.g)->fE ms g=none
 at1:∀g s k,fE m2 (g,s)=some k->∃G∈gs,G.g=g/\0<=k/\(G.ps[k.toNat]?).map (·.s)=some s
 at2:∀G∈gs,∀p∈G.ps,(fE m2 (G.g,p.s)).isSome=true
 pg:∀G∈gs,∀p∈G.ps,p.g=G.g
section
variable {F:Nat->Prop}{W w w0:World}{L:List As}{mw mh:Int}{mb HU:Nat}{ms:List (Int×B3)}{m2:List ((Int×Int)×Int)}{gs g1 g2:List C1}{G:C1}
def adh {i:Nat}{g:Int}{K:Option Addr->Nat->Nat->World->Prop}(s:Sep F W w L)(hi:L[i]? =some (fR fA Ug mb ms))(hk:o7 ms)(hg:iK g)(h:K (gOf ms g).a (gOf ms g).n (gOf ms g).c w):
  aN P (Instr.lookup 252 (.map (some mb)) (ae g) false) w λv w=>dS v λa n c=>K a n c w:=by
 unfold gOf at h;refine E3 (K:=fA) ofT (av9 w) s hi hk hg (λhn=>?_) λq hq=>?_
 ·rw[hn]at h;exact h
 ·rw[hq]at h;exact h
def Oz.pairs {G':C1}(I:Oz ms m2 (g1++G::g2))(eg:G'.g=G.g)(eq:G'.q=G.q)(es:G'.ps.map (·.s)=G.ps.map (·.s))(ep:∀p∈G'.ps,p.g=G.g):Oz ms m2 (g1++G'::g2):=by
 have hm:∀X,X∈g1++G'::g2->X=G'\/X∈g1++G::g2:=λX hX=>by grind
 have hG:G∈g1++G::g2:=by simp
 have hs:∀k:Nat,(G'.ps[k]?).map (·.s)=(G.ps[k]?).map (·.s):=λk=>by rw[<-List.getElem?_map,<-List.getElem?_map,es]
 have DF:(g1++G'::g2).map (·.g)=(g1++G::g2).map (·.g):=by simp[eg]
 refine⟨I.hk,I.Je,by rw[DF];exact I.nd,λX hX=>?_,λX hX=>?_,λg hg=>I.no g (by grind),λg s k hk=>?_,λX hX p hp=>?_,λX hX p hp=>?_⟩
 ·rcases hm X hX with rfl|hX
  ·rw[es];exact I.nds G hG
  ·exact I.nds X hX
 ·rcases hm X hX with rfl|hX
  ·rw[eg,eq];exact I.of_ G hG
  ·exact I.of_ X hX
 ·obtain⟨X,hX,e1,e2,e3⟩:=I.at1 g s k hk;grind
 ·rcases hm X hX with rfl|hX
  ·have:p.s∈X.ps.map (·.s):=List.mem_map.2 ⟨p,hp,rfl⟩;rw[es]at this;obtain⟨p',hp',e⟩:=List.mem_map.1 this;rw[eg,<-e];exact I.at2 G hG p' hp'
  ·exact I.at2 X hX p hp
 ·rcases hm X hX with rfl|hX
  ·grind
  ·exact I.pg X hX p hp
def Oz.add {ms':List (Int×B3)}{Zn:List ((Int×Int)×Int)}{p:Bj}{q:B3}(I:Oz ms m2 (g1++G::g2))(hk:o7 ms')(Je:o7 Zn)(hm:∀g,fE ms' g=if g=G.g then some q else fE ms g)(EG:∀x,fE Zn x=if x=(G.g,p.s)then some (G.ps.length:Int)else fE m2 x)
  (ep:p.g=G.g)(hn:p.s∉G.ps.map (·.s)):Oz ms' Zn (g1++⟨G.g,q,G.ps++[p]⟩::g2):=by
 have hG:G∈g1++G::g2:=by simp
 have DF:(g1++⟨G.g,q,G.ps++[p]⟩::g2).map (·.g)=(g1++G::g2).map (·.g):=by simp
 have hnd:=I.nd;have hmem:∀X,X∈g1++(⟨G.g,q,G.ps++[p]⟩:C1)::g2->X=⟨G.g,q,G.ps++[p]⟩\/(X∈g1++G::g2/\X.g≠G.g):=λX hX=>by grind
 refine⟨hk,Je,by grind,λX hX=>?_,λX hX=>?_,λg hg=>?_,λg s k hs=>?_,λX hX x hx=>?_,λX hX x hx=>?_⟩
 ·rcases hmem X hX with rfl|⟨hX,_⟩
  ·rw[List.map_append,List.nodup_append];refine⟨I.nds G hG,by simp,λa ha b hb=>?_⟩;grind
  ·exact I.nds X hX
 ·unfold gOf;rcases hmem X hX with rfl|⟨hX,hne⟩
  ·grind
  ·rw[hm,if_neg hne];exact I.of_ X hX
 ·rw[DF]at hg;rw[hm,if_neg λe=>hg (by rw[e];exact List.mem_map.2 ⟨G,hG,rfl⟩)];exact I.no g hg
 ·rw[EG]at hs;by_cases e:(g,s)=(G.g,p.s)
  ·rw[if_pos e]at hs;cases hs;cases e;refine⟨⟨G.g,q,G.ps++[p]⟩,by simp,rfl,Int.natCast_nonneg _,?_⟩;simp
  ·rw[if_neg e]at hs;obtain⟨X,hX,e1,e2,e3⟩:=I.at1 g s k hs;rw[List.mem_append,List.mem_cons]at hX;rcases hX with h|rfl|h
   ·exact⟨X,by simp[h],e1,e2,e3⟩
   ·refine⟨⟨X.g,q,X.ps++[p]⟩,by simp,e1,e2,?_⟩;obtain⟨z,hz,_⟩:=Option.map_eq_some_iff.1 e3;rw[List.getElem?_append_left (List.getElem?_eq_some_iff.1 hz).1];exact e3
   ·exact⟨X,by simp[h],e1,e2,e3⟩
 ·rw[EG];split
  ·rfl
  ·rename_i hne;rcases hmem X hX with rfl|⟨hX,_⟩
   ·rcases List.mem_append.1 hx with hx|hx
    ·exact I.at2 G hG x hx
    ·rw[List.mem_singleton]at hx;subst hx;exact(hne rfl).elim
   ·exact I.at2 X hX x hx
 ·rcases hmem X hX with rfl|⟨hX,_⟩
  ·rcases List.mem_append.1 hx with hx|hx
   ·exact I.pg G hG x hx
   ·rw[List.mem_singleton.1 hx];exact ep
  ·exact I.pg X hX x hx
def Oz.group (I:Oz ms m2 gs)(g:Int):∃g1 G g2,G.g=g/\Oz ms m2 (g1++G::g2)/\((gs=g1++G::g2)\/(gs=g1/\g2=[]/\G=⟨g,⟨none,0,0⟩,[]⟩/\g∉gs.map (·.g))):=by
 by_cases h:g∈gs.map (·.g)
 ·obtain⟨G,hG,rfl⟩:=List.mem_map.1 h;obtain⟨g1,g2,rfl⟩:=List.append_of_mem hG;grind
 ·refine⟨gs,⟨g,⟨none,0,0⟩,[]⟩,[],rfl,?_,.inr ⟨rfl,rfl,rfl,h⟩⟩;have hm:∀X,X∈gs++[(⟨g,⟨none,0,0⟩,[]⟩:C1)]->X∈gs\/X=⟨g,⟨none,0,0⟩,[]⟩:=λX hX=>by grind
  refine⟨I.hk,I.Je,?_,λX hX=>?_,λX hX=>?_,λg' hg=>I.no g' λe=>hg (by grind),λg s k hs=>?_,λX hX x hx=>?_,λX hX x hx=>?_⟩
  ·rw[List.map_append,List.nodup_append];refine⟨I.nd,by simp,λa ha b hb=>?_⟩;grind
  ·rcases hm X hX with hX|rfl
   ·exact I.nds X hX
   grind
  ·rcases hm X hX with hX|rfl
   ·exact I.of_ X hX
   ·rw[gOf,I.no g h];rfl
  ·obtain⟨X,hX,e⟩:=I.at1 g s k hs;grind
  ·rcases hm X hX with hX|rfl
   ·exact I.at2 X hX x hx
   ·cases hx
  ·rcases hm X hX with hX|rfl
   ·exact I.pg X hX x hx
   ·cases hx
end
def abc {g1 g2:List C1}{g:Int}{q:B3}{p1 p2:List Bj}{p:Bj}:ke (g1++⟨g,q,p1++p::p2⟩::g2)=(ke g1++p1)++p::(p2++ke g2):=by unfold ke;grind
def auk {α:Type}{p1 p2:List α}{p p':α}:(p1++p::p2).set p1.length p'=p1++p'::p2:=by grind
def aul {α:Type}{p1 p2:List α}{p:α}:(p1++p::p2)[p1.length]? =some p:=by grind
section
variable {F:Nat->Prop}{W w w0:World}{L T:List As}{mw mh:Int}{mb HU ub:Nat}{ms:List (Int×B3)}{m2:List ((Int×Int)×Int)}{g1 g2:List C1}{g:Int}{q:B3}{p1 p2:List Bj}{p:Bj}{la ta:Option Addr}{ln lc tn tc i:Nat}{tm:Int}{u:aP}
def agj {P6:Int->Int->Option Addr->Nat->Nat->Option Nat->Option Nat->Option Addr->Nat->Nat->Int->Int->World->Prop}{Q:Option Addr->Nat->Nat->World->Prop}(hi:i<=1000000000)(hk:o7 ms)(hq:gOf ms g=q)(hg:u.goal=g)(azh:iK g)(Kl:p.ids.length<=1000000000)
  (s:Sep F W w (BG (g1++⟨g,q,p1++p::p2⟩::g2)::A0 (ke (g1++⟨g,q,p1++p::p2⟩::g2))::fR fA Ug mb ms::fR K_ vI HU m2::av ub 43 (gN u)::T))
  (next:∀q' w',Sep F W w' (BG (g1++⟨g,q,p1++⟨p.g,p.s,q',p.ids++[u.id]⟩::p2⟩::g2)::A0 (ke (g1++⟨g,q,p1++⟨p.g,p.s,q',p.ids++[u.id]⟩::p2⟩::g2))::fR fA Ug mb ms::fR K_ vI HU m2::T)->P6 mw mh la ln lc (some mb) (some HU) ta tn tc tm ((i+1:Nat):Int) w'):
  pY P6 Q mw mh la ln lc (some mb) (some HU) (aZ ub) (p1.length:Int) ta tn tc tm i w:=by
 rw[pY,F_ hi];apply lI s 4 rfl;rw[hg];apply adh s (i:=2) rfl hk azh;rw[hq];rw[abc]at s;unfold BG A0 at s;rw[List.map_append,List.map_cons,List.map_append,List.map_cons]at s;have s:=TJ s;have s:=pk 6 [2,0,1,3,4,5] s;have s:=TJ s;have s:=s;have hpn:=(aG s (i:=0) rfl bX (by decide)).len;have hqn:=(aG s (i:=2) rfl uZ (by decide)).len;simp[List.length_append,List.length_cons]at hqn;refine C7 s (i:=2) rfl rfl (by omega) λb o ea=>?_;obtain⟨qa,qn,qc⟩:=q;subst ea;have hx:=aul (p1:=p1) (p2:=p2) (p:=p);have had:((⟨b,o,none⟩:Addr).add ((p1.length:Int).toNat*3)).add 2=⟨b,o+(p1.length*3+2),none⟩:=by rw[Int.toNat_natCast,eo]
 rw[had];have s:=ay s;apply IP uZ s (i:=2) rfl hx rfl rfl;apply lI s 6 rfl;refine aQ s λxb w s=>⟨?_,?_⟩
 ·exact w9 s (i:=3) rfl rfl (by rw[tf uZ hx (by decide)];rfl)
 ·have src:Src w (sZ xb) 1 1 (one u.id):=⟨rfl,C6 _,λj v hj=>by rw[cw,Nat.zero_add];exact cO s (i:=0) rfl rfl hj⟩;refine iy dU s (i:=1) (bytes:=8) rfl rfl rfl rfl rfl rfl (by decide) rfl src (by simp[maxLen];omega) (by omega) (λe=>by cases e) λra rc w s=>?_;have e:flat one p.ids++one u.id=flat one (p.ids++[u.id]):=by rw[f_];simp[flat]
  rw[e]at s;refine dW uZ s (i:=3) rfl hx rfl (x':=⟨p.g,p.s,⟨ra,p.q.n+1,rc⟩,p.ids++[u.id]⟩) (by decide) rfl rfl λw s=>?_;rw[auk]at s;have s:=pk 8 [1,2,3,4,5,6] s;have s:=MJ s;have s:=pk 5 [1,2,0,3,4] s;have s:=MJ s;apply next ⟨ra,p.q.n+1,rc⟩ w
  unfold BG A0;rw[abc,List.map_append,List.map_cons,List.map_append,List.map_cons];exact s
end
def MK (p:Bj):Hu:=⟨p.g,p.s,p.ids⟩
def X0 {g1 g2:List C1}{G:C1}:Ga (g1++G::g2)=Ga g1++(G.g,G.ps.map λp=>(p.s,p.ids))::Ga g2:=by unfold Ga;grind
def OB {gs:List C1}:(Ga gs).map (·.1)=gs.map (·.g):=by unfold Ga;simp_all
def aum {g1 g2:List C1}{g s d:Int}{q q':B3}{p1 p2:List Bj}{p p':Bj}(h1:g∉g1.map (·.g))(h2:s∉p1.map (·.s))(e1:p.s=s)(e2:p'.s=s)(e3:p'.ids=p.ids++[d]):
  Ga (g1++⟨g,q',p1++p'::p2⟩::g2)=qA g s d (Ga (g1++⟨g,q,p1++p::p2⟩::g2)):=by
 rw[X0,X0,ajH (by rw[OB];exact h1)];simp[List.map_append,List.map_cons];rw[e1,arQ (by grind),e2,e3]
def aun {g1 g2:List C1}{g s d:Int}{q q':B3}{p1:List Bj}{p':Bj}(h1:g∉g1.map (·.g))(h2:s∉p1.map (·.s))(e2:p'.s=s)(e3:p'.ids=[d]):
  Ga (g1++⟨g,q',p1++[p']⟩::g2)=qA g s d (Ga (g1++⟨g,q,p1⟩::g2)):=by
 rw[X0,X0,ajH (by rw[OB];exact h1)];simp[List.map_append,List.map_cons,List.map_nil];rw[arR (by grind),e2,e3]
section
variable {F:Nat->Prop}{W w w0:World}{L T:List As}{mw mh:Int}{mb HU ub:Nat}{ms:List (Int×B3)}{m2:List ((Int×Int)×Int)}{g1 g2 gs:List C1}{g sc:Int}{q:B3}{ps p1 p2:List Bj}{la ta:Option Addr}{ln lc tn tc i:Nat}{tm:Int}{u:aP}
def Oz.as1 {G:C1}(I:Oz ms m2 (g1++G::g2)):G.g∉g1.map (·.g):=λh=>by have:=I.nd;grind
def ajJ {K:Option Addr->Nat->Nat->World->Prop}(hl:ps.length<=1000000000)(s:Sep F W w (av ub 211 [ae g,ae sc,.slice none 0 0]::BG (g1++⟨g,q,ps⟩::g2)::T))
  (k:∀q' w',Sep F W w' (BG (g1++⟨g,q',ps++[⟨g,sc,⟨none,0,0⟩,[]⟩]⟩::g2)::T)->K q'.a q'.n q'.c w'):App P #[208,208] 208 (.slice q.a q.n q.c) (.slice (sZ ub) 1 1) w K:=by
 have s:=jd s;unfold BG at s;rw[List.map_append,List.map_cons]at s;have s:=TJ s;have s:Sep F W w (ak q.a q.n q.c 211 3 (flat yW ps)::_::av ub 211 _::T):=s;have hqn:=(aG s (i:=0) rfl uZ (by decide)).len;have src:Src w (sZ ub) 1 3 (yW ⟨g,sc,⟨none,0,0⟩,[]⟩):=⟨rfl,apP _,λj v hj=>by rw[cw,Nat.zero_add];exact cO s (i:=2) rfl rfl hj⟩;refine iy dU s (i:=0) (bytes:=40) rfl rfl rfl rfl rfl rfl (by decide) rfl src (by simp[maxLen];omega) (by omega) (λe=>by cases e) λra rc w s=>?_;have e:flat yW ps++yW ⟨g,sc,⟨none,0,0⟩,[]⟩=flat yW (ps++[⟨g,sc,⟨none,0,0⟩,[]⟩]):=by rw[f_];simp[flat]
 rw[e]at s;apply k ⟨ra,q.n+1,rc⟩ w;have s:=gg (A:=[_,_,_]) (B:=[gpR ⟨g,⟨ra,q.n+1,rc⟩,ps++[⟨g,sc,⟨none,0,0⟩,[]⟩]⟩,_]) [0,1] s rfl (by decide);have s:=MJ s;unfold BG;simp_all
def auo {q':B3}{p:Bj}(s:Sep F W w (BG gs::A0 (ke (g1++⟨g,q,ps⟩::g2))::T))(hp:p.q=⟨none,0,0⟩)(hi:p.ids=[]):Sep F W w (BG gs::A0 (ke (g1++⟨g,q',ps++[p]⟩::g2))::T):=by
 have e1:ke (g1++⟨g,q,ps⟩::g2)=(ke g1++ps)++ke g2:=by unfold ke;grind
 have e2:arX p=ak none 0 0 3 1 []:=by unfold arX;rw[hp,hi];rfl
 rw[e1]at s;rw[abc];unfold A0 at s⊢;rw[List.map_append]at s;rw[List.map_append,List.map_cons,e2];have s:=bH s 3 1;have s:=pk 3 [0,2,1] s;exact cu (MJ s) (List.Perm.swap _ _ _)
structure am0 (mw mh:Int) (us:List aP) (i:Nat) (ms:List (Int×B3)) (m2:List ((Int×Int)×Int)) (gs:List C1):Prop where
 I:Oz ms m2 gs
 pl:Ga gs=adg mw mh (us.take i)
 sz:∀G∈gs,G.ps.length<=i/\∀p∈G.ps,p.ids.length<=i
def am0.next {us:List aP}{ms':List (Int×B3)}{Zn:List ((Int×Int)×Int)}{q':B3}{p':Bj}(S:am0 mw mh us i ms m2 gs)(hu:us[i]? =some u)(I':Oz ms' Zn (g1++⟨g,q',p1++p'::p2⟩::g2))(e:Ga (g1++⟨g,q',p1++p'::p2⟩::g2)=qA u.goal (aC mw mh u.cell) u.id (Ga gs))
  (h1:∀G∈g1,G∈gs)(h2:∀G∈g2,G∈gs)(hl:(p1++p'::p2).length<=i+1)(hp:p'.ids.length<=i+1)(hps:∀p,p∈p1\/p∈p2->p.ids.length<=i):am0 mw mh us (i+1) ms' Zn (g1++⟨g,q',p1++p'::p2⟩::g2):=by
 refine⟨I',?_,λG hG=>?_⟩
 ·rw[e,S.pl,List.take_add_one,hu];show _=List.foldl _ _ (us.take i++[u]);rw[List.foldl_append];rfl
 ·have up:∀G∈gs,G.ps.length<=i+1/\∀p∈G.ps,p.ids.length<=i+1:=λG hG=>⟨Nat.le_succ_of_le (S.sz G hG).1,λp hp=>Nat.le_succ_of_le ((S.sz G hG).2 p hp)⟩;grind
def aup {gs:List C1}(h:∀G∈gs,∀p∈G.ps,p.g=G.g):(ke gs).map MK=DC (Ga gs):=by unfold ke DC Ga;rw[List.map_flatMap,List.flatMap_map];refine congrArg List.flatten ?_|>λe=>(List.flatMap_def ..).trans (e.trans (List.flatMap_def ..).symm);refine List.map_congr_left λG hG=>?_;rw[List.map_map];refine List.map_congr_left λp hp=>?_;show Hu.mk _ _ _=Hu.mk _ _ _;grind
end
def as2 {a:Int}{b:Bool}{K:Int->Bool->Prop}(k:K a b):dT (.tuple #[ae a,.bool b]) λl=>dJ l λv0 l0=>dI .i64 v0 λx=>dJ l0 λv1 l1=>dB v1 λy=>kU l1 (K x y):=k
section
variable {F:Nat->Prop}{W w w0:World}{L T:List As}{mw mh:Int}{la:Option Addr}{ln lc:Nat}{us:List aP}
def apQ {Q:Option Addr->Nat->Nat->World->Prop}{mb HU:Nat}{ms:List (Int×B3)}{m2:List ((Int×Int)×Int)}{gs:List C1}{ga:Option Addr}{gn gc:Nat}(I:Oz ms m2 gs)(h64:∀G∈gs,iK G.g)(wE:(ke gs).length<=1000000)(DF:gs.length<=1000000)
  (h:∀oa on oc w',Sep No w0 w' (ak oa on oc 211 3 (flat yW (ke gs))::A0 (ke gs)::[])->Q oa on oc w'):
  ∀(j i:Nat) (oa:Option Addr) (on oc:Nat) (w:World),i+j=gn->gs.length=gn->Sep No w0 w (ak oa on oc 211 3 (flat yW (ke (gs.take i)))::ak ga gn gc 3 1 (flat one (gs.map (·.g)))::BG gs::A0 (ke gs)::fR fA Ug mb ms::[])->
   BQ Q (j+1) (some mb) oa on oc ga gn gc (gn:Int) i w:=by
 intro j;induction j with
 |zero=>
  intro i oa on oc w hij HJ s;show xN _ _ _ _ _ _ _ _ _ _ _ _;rw[xN,bj];rw[List.take_of_length_le (by omega)]at s;exact h oa on oc w (ck (L':=[_,_]) [0,3] s rfl (by decide))
 |succ j ih=>
  intro i oa on oc w hij HJ s;show xN _ _ _ _ _ _ _ _ _ _ _ _;rw[xN,bM];have hi:i<gs.length:=by omega
  obtain⟨G,hG⟩:∃G,gs[i]? =some G:=⟨_,List.getElem?_eq_getElem hi⟩;have hmem:=List.mem_of_getElem? hG;have hgi:gi (gs.map (·.g)) i=G.g:=by unfold gi;grind
  have yH:gs.take (i+1)=gs.take i++[G]:=by rw[List.take_add_one,hG];rfl
  have hall:ke (gs.take (i+1))=ke (gs.take i)++G.ps:=by unfold ke;grind
  have hle:(ke (gs.take (i+1))).length<=(ke gs).length:=by
   have e:ke gs=ke (gs.take (i+1))++ke (gs.drop (i+1)):=by unfold ke;rw[<-List.flatMap_append,List.take_append_drop]
   grind
  have CN:=(aG s (i:=0) rfl uZ (by decide)).len;rw[hall,List.length_append]at hle;apply(aG s (i:=1) rfl bX (by decide)).ql rfl (by omega);rw[hgi,F_ (by omega)];apply adh s (i:=4) rfl I.hk (h64 G hmem);rw[I.of_ G hmem];have src:Src w G.q.a G.q.n 3 (flat yW G.ps):=by have s2:=ck (L':=[_]) [2] s rfl (by decide);have s3:=(gR s2).2;exact aqE s3 (by rw[List.getElem?_append_left (by rw[List.length_map];exact hi),List.getElem?_map,hG];rfl)
  have hcc:G.q.a=none->G.q.c=0:=by have s2:=ck (L':=[_]) [2] s rfl (by decide);have s3:=(gR s2).2;exact afv s3 (by rw[List.getElem?_append_left (by rw[List.length_map];exact hi),List.getElem?_map,hG];rfl)
  have hqn:G.ps.length=G.q.n:=by have:=src.1;rw[iX uZ]at this;omega
  refine iy dU s (i:=0) (bytes:=40) rfl rfl rfl rfl rfl rfl (by decide) rfl src (by simp[maxLen];omega) (by omega) hcc λra rc w s=>?_;rw[<-f_,<-hall]at s;grind
def am1 {Q:Option Addr->Nat->Nat->World->Prop}{mb HU:Nat}(hU:Sl w0 la ln lc 3 gN us)(qu:ln<=100000)(hm:mY mw mh us)
  (h:∀oa on oc ps w',ps.map MK=l8 mw mh us->Sep No w0 w' (ak oa on oc 211 3 (flat yW ps)::A0 ps::[])->Q oa on oc w'):
  ∀(j i:Nat) (ms:List (Int×B3)) (m2:List ((Int×Int)×Int)) (gs:List C1) (w:World),i+j=ln->am0 mw mh us i ms m2 gs->Sep No w0 w (BG gs::A0 (ke gs)::fR fA Ug mb ms::fR K_ vI HU m2::[])->
   zL Q (j+1) mw mh la ln lc (some mb) (some HU) la ln lc (ln:Int) i w:=by
 have hlen:=hU.len;intro j;induction j with
 |zero=>
  intro i ms m2 gs w hij S s;show zK _ _ _ _ _ _ _ _ _ _ _ _ _ _ _;rw[zK,bj];have S:=S;have I9:=S.pl;rw[List.take_of_length_le (by omega)]at I9;have av_:gs.map (·.g)=tW us:=by rw[<-TG,<-I9,OB]
  have htr:(ke gs).map MK=l8 mw mh us:=by rw[aup S.I.pg,I9];rfl
  have hal:(ke gs).length<=us.length:=by have e:((ke gs).map MK).length=(ke gs).length:=List.length_map ..;have:=agf mw mh us;grind
  have h64:∀u∈us,iK u.goal:=λu hu=>AT (hm.at_ u hu).2;refine aa5 s (hU.fr (au s)) (by omega) h64 λga gn gc w s _=>?_;rw[<-av_]at s;have HJ:=(aG s (i:=0) rfl bX (by decide)).len;rw[List.length_map]at HJ;have s:=bH s 211 3;refine⟨gn+1,apQ (HU:=HU) S.I (λG hG=>?_) (by omega) (by have:=apG (us:=us);grind) (λoa on oc w' s'=>h oa on oc (ke gs) w' htr s') gn 0 none 0 0 w (by omega) HJ (ck (L':=[_,_,_,_,_]) [0,1,2,3,4] s rfl (by decide))⟩;have:G.g∈tW us:=by grind
  rw[<-TG (w:=mw) (h:=mh)]at this;obtain⟨q,hq,e⟩:=List.mem_map.1 this;have hf:∃u∈us,u.goal=G.g:=by
   have hg:∀(us:List aP) (out:List Int),G.g∈us.foldl E6 out->G.g∈out\/∃u∈us,u.goal=G.g:=by
    intro us;induction us with
    |nil=>grind
    |cons u us ih=>
     intro out h;rcases ih _ h with h|⟨v,hv,e⟩
     ·unfold E6 at h;grind
     grind
   rw[TG]at this;exact(hg us [] this).elim (λh=>by cases h) id
  grind
 |succ j ih=>
  intro i ms m2 gs w hij S s;show zK _ _ _ _ _ _ _ _ _ _ _ _ _ _ _;rw[zK,bM];refine(hU.fr (au s)).El rfl (by omega) λp u hu hc=>?_;have Er:=hm.at_ u (List.mem_of_getElem? hu);have hsc:=(bU Er.1).2;have Rj:=gS hm.wh.1 hm.wh.2;have Xt:iK u.goal/\iK (aC mw mh u.cell):=⟨AT Er.2,by unfold iK;omega⟩;refine Xp hc s λub w s=>?_;apply lI s 0 rfl;refine e_ s λw s _=>?_;apply lI s 0 rfl;refine aV s λkb w s=>?_;refine sT s 0 rfl λw s=>?_;refine ax s (i:=0) rfl rfl rfl λw s=>?_;refine lI s 0 rfl (lI s 0 rfl ?_);refine E3 (K:=K_) (x:=(u.goal,aC mw mh u.cell)) atT (acR w) s (i:=5) rfl S.I.Je Xt (λhn=>?_) λk hk=>?_
  ·apply as2;obtain⟨g1,⟨g,q,ps⟩,g2,eg,I,Ox⟩:=S.I.group u.goal;subst eg;have hnew:aC mw mh u.cell∉ps.map (·.s):=λhin=>by obtain⟨p',hp',e⟩:=List.mem_map.1 hin;have:=I.at2 ⟨u.goal,q,ps⟩ (by simp) p' hp';rw[e,hn]at this;cases this
   have I9:qA u.goal (aC mw mh u.cell) u.id (Ga (g1++⟨u.goal,q,ps⟩::g2))=qA u.goal (aC mw mh u.cell) u.id (Ga gs):=by
    rcases Ox with e|⟨e1,e2,e3,e4⟩
    ·rw[e]
    ·cases e3;subst e2 e1;have:Ga (gs++[⟨u.goal,⟨none,0,0⟩,[]⟩])=Ga gs++[(u.goal,[])]:=by unfold Ga;simp
     rw[this];exact arS (by rw[OB];exact e4)
   have hsz:ps.length<=i/\∀p∈ps,p.ids.length<=i:=by
    rcases Ox with e|⟨e1,e2,e3,e4⟩
    ·exact S.sz ⟨u.goal,q,ps⟩ (by rw[e];simp)
    ·cases e3;exact⟨Nat.zero_le _,λp hp=>by cases hp⟩
   have azi:∀G∈g1,G∈gs:=λG hG=>by
    rcases Ox with e|⟨e1,e2,e3,e4⟩
    ·rw[e];exact List.mem_append_left _ hG
    ·rw[e1];exact hG
   have azj:∀G∈g2,G∈gs:=λG hG=>by
    rcases Ox with e|⟨e1,e2,e3,e4⟩
    ·rw[e];exact List.mem_append_right _ (List.mem_cons_of_mem _ hG)
    ·rw[e2]at hG;cases hG
   have s:Sep No w0 w (BG (g1++⟨u.goal,q,ps⟩::g2)::A0 (ke (g1++⟨u.goal,q,ps⟩::g2))::fR fA Ug mb ms::fR K_ vI HU m2::av ub 43 (gN u)::av kb 253 [ae u.goal,ae (aC mw mh u.cell)]::[]):=by
    have s:=ck (L':=[_,_,_,_,_,_]) [2,3,4,5,1,0] s rfl (by decide);rcases Ox with e|⟨e1,e2,e3,e4⟩
    ·rw[<-e];exact s
    ·cases e3;subst e2 e1;have e:ke (gs++[⟨u.goal,⟨none,0,0⟩,[]⟩])=ke gs:=by unfold ke;simp
     rw[e];unfold BG at s⊢;have s:=bH s 211 3;rw[List.map_append];apply MJ (B:=[]);rw[List.append_nil];exact s
   have hqn:q.n=ps.length:=by have s2:=s;unfold BG at s2;rw[List.map_append,List.map_cons]at s2;have s2:=TJ s2;exact((aG s2 (i:=0) rfl uZ (by decide)).len).symm
   have hq:=I.of_ ⟨u.goal,q,ps⟩ (by simp);apply lI s 4 rfl;apply adh s (i:=2) rfl I.hk Xt.1;rw[hq];refine lI s 5 rfl (lI s 5 rfl ?_);refine Mx (v:=vI) (ms:=m2) (a:=(q.n:Int)) (x:=(u.goal,aC mw mh u.cell)) atT s (i:=3) rfl I.Je Xt λZn w azk Uc _ s=>?_;have s:=ay (ck (L':=[BG (g1++⟨u.goal,q,ps⟩::g2),A0 (ke (g1++⟨u.goal,q,ps⟩::g2)),fR fA Ug mb ms,fR K_ vI HU Zn,av ub 43 (gN u)]) [0,1,2,3,4] s rfl (by decide));rw[hqn]at Uc⊢;have fin:∀(q':B3) (w:World),Sep No w0 w (BG (g1++⟨u.goal,q',ps++[⟨u.goal,aC mw mh u.cell,⟨none,0,0⟩,[]⟩]⟩::g2)::A0 (ke (g1++⟨u.goal,q,ps⟩::g2))::fR fA Ug mb ms::fR K_ vI HU Zn::av ub 43 (gN u)::[])->
     bG P (Instr.mapUpdate 252 (.map (some mb)) (ae u.goal) (.slice q'.a q'.n q'.c)) w λw=>pY (zL Q (j+1)) Q mw mh la ln lc (some mb) (some HU) (aZ ub) (ps.length:Int) la ln lc (ln:Int) i w:=λq' w s=>by
    refine Mx (k:=3) (e:=208) (K:=fA) (v:=Ug) (ms:=ms) (a:=q') (x:=u.goal) ofT s (i:=2) rfl I.hk Xt.1 λms' w hk' EL _ s=>?_;have I2:=I.add (G:=⟨u.goal,q,ps⟩) (p:=⟨u.goal,aC mw mh u.cell,⟨none,0,0⟩,[]⟩) hk' azk EL Uc rfl hnew;have s:=auo (q':=q') (p:=⟨u.goal,aC mw mh u.cell,⟨none,0,0⟩,[]⟩) s rfl rfl;refine agj (p2:=[]) (by omega) hk' (I2.of_ ⟨u.goal,q',ps++[⟨u.goal,aC mw mh u.cell,⟨none,0,0⟩,[]⟩]⟩ (by simp)) rfl Xt.1 (Nat.zero_le _) s λq2 w s=>?_;refine ih (i+1) ms' Zn _ w (by omega) ?_ s;refine S.next hu (I2.pairs (G':=⟨u.goal,q',ps++[⟨u.goal,aC mw mh u.cell,q2,[]++[u.id]⟩]⟩) rfl rfl (by simp) λp hp=>?_) ?_ azi azj (by simp;omega) (by simp) λp hp=>?_
    ·rcases List.mem_append.1 hp with hp|hp
     ·exact I.pg ⟨u.goal,q,ps⟩ (by simp) p hp
     ·rw[List.mem_singleton.1 hp]
    ·rw[<-I9];exact aun I.as1 hnew rfl rfl
    ·exact hp.elim (λhp=>hsz.2 p hp) λhp=>by cases hp
   refine lI s 4 rfl (lI s 4 rfl (lI s 4 rfl ⟨?_,?_⟩))
   ·apply adh s (i:=2) rfl I.hk Xt.1;rw[hq];refine⟨cm s 4 rfl,cm s 4 rfl,?_⟩;refine aQ s λxb w s=>⟨cm s 5 rfl,cm s 5 rfl,?_⟩;refine ajJ (by omega) s λq' w s=>⟨cm s 4 rfl,?_⟩;exact fin q' w s
   ·refine aQ s λxb w s=>⟨cm s 5 rfl,cm s 5 rfl,?_⟩;apply adh s (i:=3) rfl I.hk Xt.1;rw[hq];refine⟨cm s 5 rfl,cm s 5 rfl,?_⟩;refine ajJ (by omega) s λq' w s=>⟨cm s 4 rfl,?_⟩;exact fin q' w s
  ·apply as2;rw[Bool.not_true,cond_false];obtain⟨⟨g,q,ps⟩,hG,e1,FI,e3⟩:=S.I.at1 _ _ _ hk;simp only at e1 e3;subst e1;obtain⟨p,hp,e4⟩:=Option.map_eq_some_iff.1 e3;have hkl:=(List.getElem?_eq_some_iff.1 hp).1;have awa:ps=ps.take k.toNat++p::ps.drop (k.toNat+1):=by have:=(List.getElem?_eq_some_iff.1 hp).2;rw[<-this,<-List.drop_eq_getElem_cons hkl,List.take_append_drop]
   have hkp:k=((ps.take k.toNat).length:Nat):=by rw[List.length_take];omega
   generalize ps.take k.toNat=p1 at*;generalize ps.drop (k.toNat+1)=p2 at*;subst awa;obtain⟨g1,g2,e5⟩:=List.append_of_mem hG;subst e5;subst hkp;have hsz:=S.sz _ hG;have hn1:aC mw mh u.cell∉p1.map (·.s):=λh=>by have:=S.I.nds _ hG;simp[List.map_append,List.map_cons]at this;rw[List.nodup_append]at this;exact this.2.2 _ h _ (by rw[<-e4];exact List.mem_cons_self ..) rfl
   have s:=ck (L':=[_,_,_,_,av ub 43 (gN u)]) [2,3,4,5,1] s rfl (by decide);refine agj (by omega) S.I.hk (S.I.of_ _ hG) rfl Xt.1 (by have:=hsz.2 p (by simp);omega) s λq2 w s=>?_;refine ih (i+1) ms m2 _ w (by omega) ?_ s;refine S.next hu (S.I.pairs (G':=⟨u.goal,q,p1++⟨p.g,p.s,q2,p.ids++[u.id]⟩::p2⟩) rfl rfl (by simp) λx hx=>?_) ?_ (λG h=>by simp[h]) (λG h=>by simp[h]) ?_ ?_ λx hx=>?_
   ·rw[List.mem_append,List.mem_cons]at hx;rcases hx with h|rfl|h
    ·exact S.I.pg _ hG x (by simp[h])
    ·exact S.I.pg _ hG p (by simp)
    ·exact S.I.pg _ hG x (by simp[h])
   ·exact aum S.I.as1 hn1 e4 e4 rfl
   ·have:=hsz.1;simp[List.length_append,List.length_cons]at this⊢;omega
   ·have:=hsz.2 p (by simp);simp[List.length_append,List.length_cons,List.length_nil];omega
   ·exact hsz.2 x (by rcases hx with h|h<;>simp[h])
def abd {Q:Option Addr->Nat->Nat->World->Prop}(s0:Sep F W w0 L)(hU:Sl w0 la ln lc 3 gN us)(qu:ln<=100000)(hm:mY mw mh us)
  (h:∀oa on oc ps w',ps.map MK=l8 mw mh us->Sep F W w' (ak oa on oc 211 3 (flat yW ps)::A0 ps::L)->Fr No w0 w'->Q oa on oc w'):Fg mw mh la ln lc w0 Q:=by
 apply aal;refine RO (bh (F:=No)) hU (by omega) hm λw s _=>?_;refine aaQ s 252 fA Ug λmb w s=>?_;refine aaQ s 180 K_ vI λHU w s=>?_;have s:=dD (Ps:=[]) s trivial;have s:=dD (Ps:=[]) s trivial;have s:=ck (L':=[BG [],A0 (ke []),fR fA Ug mb ([]:List (Int×B3)),fR K_ vI HU ([]:List ((Int×Int)×Int))]) [0,1,3,2] s rfl (by decide);refine⟨ln+1,am1 hU qu hm (λoa on oc ps w' e s'=>h oa on oc ps w' e (fB s0 s') (au s')) ln 0 [] [] [] w (by omega) ⟨⟨List.nodup_nil,List.nodup_nil,List.nodup_nil,(λG h=>by cases h),(λG h=>by cases h),(λg _=>rfl),(λg s k h=>by cases h),(λG h=>by cases h),(λG h=>by cases h)⟩,rfl,λG h=>by cases h⟩ s⟩
end
end Go.Proofs.YtmegplnmiepfbaaGreatDoor.S
set_option maxRecDepth 20000
namespace Go.Proofs.YtmegplnmiepfbaaGreatDoor.S
open Go.Sx
open Go.Extern
def azl (args:Array Value)(w:World):(callFunc 219 args).run P w=((BytealgMakeNoZero.makeNoZero #[3] #[22] args).run P w).andThen λv w'=>.ok (.value v) w':=run_callFunc_extern Go.Proofs.Tryz.func219 (by kernel_rfl) (by kernel_rfl) (by kernel_rfl) (by kernel_rfl) args w
def ajK:P.underlying 22=some (.slice 5):=by kernel_rfl
def adj:∀(n t:Nat) (acc:Array Value) (xs:List Int),acc.toList=flat bp xs->∃ys:List Int,(BytealgMakeNoZero.digits n t acc).toList=flat bp ys
 |0,_,acc,xs,h=>⟨xs,h⟩
 |n+1,t,acc,xs,h=>by apply adj n (t/256) _ (xs++[((t%256:Nat):Int)]);rw[Array.toList_push,h,f_];rfl
def auq (n:Nat)(hn:n<=100000)(w:World):∃t,(BytealgMakeNoZero.makeNoZero #[3] #[22] #[ae n]).run P w=.ok (.slice (sZ w.heap.size) n (grownCap w n 0 5)) (w.drew.drew.alloc (.cells (BytealgMakeNoZero.digits (grownCap w n 0 5) t #[]) 5)):=by
 have azm:BytealgMakeNoZero.makeNoZero #[3] #[22] #[ae n]=
  (do
   let .slice elem<-underlying 22|stuck "bytealg.MakeNoZero: slice type expected"
   if(n:Int)<0||(n:Int)>2^48 then runtimePanic (.error "makeslice: len out of range")
   let cap<-choose (.appendCap (n:Int).toNat 0 elem)
   askRoom cap
   let bytes<-choose (.extern "internal/bytealg.MakeNoZero.bytes" 0);let a<-newRow elem (BytealgMakeNoZero.digits cap bytes #[])
   pure (.slice (some a) (n:Int).toNat cap)):=rfl
 have h1:¬(n:Int)<0:=by omega
 have h2:¬(281474976710656:Int)<(n:Int):=by omega
 refine⟨(Question.extern "internal/bytealg.MakeNoZero.bytes" 0).cut (w.tape (w.drawn+1) (.extern "internal/bytealg.MakeNoZero.bytes" 0)),?_⟩;rw[azm];simp[run_underlying ajK,h1,h2,Question.forced,newRow,grownCap]
attribute [local irreducible] tX callFunc Sem.run BytealgMakeNoZero.makeNoZero in
theorem awb {n:Nat}{w w':World}{v:Value}{K:Value->World->Prop}(h:(BytealgMakeNoZero.makeNoZero #[3] #[22] #[ae n]).run P w=.ok v w')(k:K v w'):tX P 219 #[ae n] w K:=
 j_ azl h k
def awc {F:Nat->Prop}{W w:World}{L:List As}{n:Nat}{K:Value->World->Prop}(hn:1<=n/\n<=100000)(s:Sep F W w L)(h:∀b ys w',ys.length=n->Sep F W w' (ak (sZ b) n n 5 1 (flat bp ys)::L)->K (.slice (sZ b) n n) w'):
  tX P 219 #[ae n] w λv w1=>dS v λa m c=>aN P (Instr.sliceAt 22 (.slice a m c) none (some (ae n)) (some (ae n))) w1 K:=by
 obtain⟨t,ht⟩:=auq n (by omega) w;apply awb ht;have hge:=grownCap_ge w n 0 5;have hle:=grownCap_le_maxLen w n 0 5 (by simp[maxLen];omega);obtain⟨ys,hys⟩:=adj (grownCap w n 0 5) t #[] [] rfl;have hlen:ys.length=grownCap w n 0 5:=by have e:=congrArg List.length hys;rw[iX cZ,Array.length_toList,Lib.size_digits]at e;grind
 generalize hc:grownCap w n 0 5=c at*;have hcs:(BytealgMakeNoZero.digits c t #[])=(flat bp ys).toArray:=by rw[<-hys]
 rw[hcs];have s:=t_ (ay (ay s)) (flat bp ys) 5;have s:Sep F W (w.drew.drew.alloc (.cells (flat bp ys).toArray 5)) (av w.heap.size 5 (flat bp ys)::L):=s;have hone:∀u∈flat bp ys,u.oneCell'=true:=λu hu=>by obtain⟨x,_,hx⟩:=List.mem_flatMap.1 hu;exact Bo x u hx
 have s:=g9 s (i:=0) rfl (by rw[iX cZ,hlen]) hle hone;simp[List.set_cons_zero]at s;generalize w.drew.drew.alloc (.cells (flat bp ys).toArray 5)=w1 at*;generalize w.heap.size=b at*;have hs:(sizeOf 5).run P w1=.ok 1 w1:=by kernel_rfl
 have hr:(Instr.sliceAt 22 (.slice (sZ b) n c) none (some (ae n)) (some (ae n))).run P w1=.ok (.slice (sZ b) n n) w1:=by rw[run_sliceAt_slice w1 22 _ _ _ _ ajK,run_slice_hm w1 22 (sZ b) n c ajK .i64 .i64 n n (by omega) (Int.le_refl _) (by omega)];show((sizeOf 5).run P w1).andThen _=_;rw[hs];simp[Result.andThen,sliced,Int.toNat_natCast,Nat.sub_zero];simp[Addr.add]
 apply Bq hr;apply h b (ys.take n) w1 (by grind);refine⟨eA.fr s,λA hA=>?_,?_⟩
 ·rcases List.mem_cons.1 hA with rfl|hA
  ·obtain⟨⟨⟨k1,k2,k3,k4⟩,k5⟩,k6⟩:=eA.ok s _ (List.mem_cons_self ..);refine⟨⟨⟨by rw[iX cZ,List.length_take];omega,Nat.le_refl _,by omega,λu hu=>?_⟩,?_⟩,λx hx=>k6 x hx⟩
   ·obtain⟨x,_,hx⟩:=List.mem_flatMap.1 hu;exact Bo x u hx
   ·rcases k5 with⟨h,_⟩|⟨g,o,cur,e1,e2,e3,e4⟩
    ·cases h
    ·refine .inr ⟨g,o,cur,e1,e2,by omega,?_⟩;have:flat bp (ys.take n)=(flat bp ys).take (n*1):=(Vx cZ ys n).symm;grind
  ·exact eA.ok s A (List.mem_cons_of_mem _ hA)
 ·have:=eA.apart s;rw[List.pairwise_cons]at this⊢;exact⟨λA hA b hb=>this.1 A hA b hb,this.2⟩
attribute [local irreducible] tX callFunc Sem.run af cD bz bg aA cy b_ St Bx Al App cK cE cB bV aN bG aq bT av ak aW mapA
def apR {v:Int}{n k:Nat}{Z:List Int}(hk:k<=n)(hZ:k<=Z.length):
  (flat bp (List.replicate n v++Z)).take (n*1)++(flat bp ((List.replicate n v++Z).take n)).take (k*1)++(flat bp (List.replicate n v++Z)).drop ((n+k)*1)=flat bp (List.replicate (n+k) v++Z.drop k):=by
 simp only[ZE,Nat.mul_one];rw[<-List.map_take,<-List.map_take,<-List.map_drop,<-List.map_append,<-List.map_append];congr 1;rw[List.take_left' (by simp),List.take_replicate,Nat.min_eq_left hk,List.replicate_append_replicate,<-List.drop_drop,List.drop_left' (by simp)]
section
variable {F:Nat->Prop}{W w w0:World}{L:List As}{xa:Option Addr}{xc:Nat}{v:Int}
def apS {Q:Option Addr->Nat->Nat->World->Prop}{b N:Nat}(hN:N<=8192)(h:∀w',Sep No w0 w' (ak (sZ b) N N 5 1 (flat bp (List.replicate N v))::L)->Q (sZ b) N N w'):
  ∀(m n:Nat) (Z:List Int) (w:World),N<=n+m->1<=n->n+Z.length=N->Sep No w0 w (ak (sZ b) N N 5 1 (flat bp (List.replicate n v++Z))::L)->tL Q (m+1) N N (sZ b) N N n w:=by
 have done:∀(R:Int->Int->Option Addr->Nat->Nat->Int->World->Prop) (Z:List Int) (w:World),Z.length=0->Sep No w0 w (ak (sZ b) N N 5 1 (flat bp (List.replicate N v++Z))::L)->tK Q R N N (sZ b) N N N w:=λR Z w hZ s=>by unfold tK;grind
 intro m;induction m with
 |zero=>
  intro n Z w hm h1 h2 s;have:n=N:=by omega
  subst this;exact done _ Z _ (by omega) s
 |succ m ih=>
  intro n Z w hm h1 h2 s;show tK Q (tL Q (m+1)) _ _ _ _ _ _ _;by_cases hn:n=N
  ·grind
  ·rw[tK,bM];apply PI rfl (by omega);rw[fU];have em:DW (n:Int) (N:Int)=n:=by unfold DW;omega
   rw[em];apply PG rfl (by omega);have s:=ay s;have hT:=(aG s (i:=0) rfl cZ (by decide)).top (m:=n) (by omega);refine Fa (p:=n) dU s rfl rfl rfl rfl (by decide) (i:=0) rfl (hT.src (e:=5) cZ Bo) (by omega) (by simp[Addr.add];omega) λw s=>?_;rw[apR (Nat.min_le_left _ _) (by omega)]at s;have e:IntKind.wrap .i64 ((n:Int)+((min n (N-n):Nat):Int))=((n+min n (N-n):Nat):Int):=by rw[aH];omega
   grind
def TK {N:Nat}{Q:Option Addr->Nat->Nat->World->Prop}(s0:Sep F W w L)(hA:Sl w xa 1 xc 1 bp [v])(hN:1<=N/\N<=8192)
  (h:∀ra w',Sep F W w' (ak ra N N 5 1 (flat bp (List.replicate N v))::L)->Fr No w w'->Q ra N N w'):r6 xa 1 xc N w Q:=by
 apply Jn;rw[cL (by omega),cond_false,bj,kF (by decide),kF (by omega)];apply Dx (by decide) (by omega) (by omega);have e1:((1:Nat):Int)*N=N:=by omega
 rw[e1,bj (by decide),bj,cL (by decide),cond_false,aH,bj];refine awc (by omega) (bh (F:=No)) λb ys w' hys s=>?_;refine Fa (p:=0) dU s rfl rfl rfl rfl (by decide) (i:=0) rfl ((hA.fr (au s)).src (e:=5) cZ Bo) (by omega) rfl λw' s=>?_;have hm:min 1 N=1:=by omega
 rw[hm]at s⊢;have e2:(flat bp ys).take (0*1)++(flat bp [v]).take (1*1)++(flat bp ys).drop ((0+1)*1)=flat bp (List.replicate 1 v++ys.drop 1):=by simp only[ZE,Nat.zero_mul,List.take_zero,List.nil_append,Nat.mul_one,Nat.zero_add];rw[<-List.map_take,<-List.map_drop,<-List.map_append];rfl
 rw[e2]at s;exact⟨N+1,apS hN.2 (λw' s=>h _ _ (dG s0 s (i:=0) rfl) (au s)) N 1 (ys.drop 1) w' (by omega) (by omega) (by rw[List.length_drop];omega) s⟩
def am2 {N:Nat}{Q:Option Addr->Nat->Nat->World->Prop}(s0:Sep F W w L)(hN:1<=N/\N<=8192)
  (h:∀ra w',Sep F W w' (ak ra 0 0 5 1 (flat bp [])::L)->Fr No w w'->Q ra 0 0 w'):r6 Option.none 0 0 N w Q:=by
 apply Jn;rw[cL (by omega),cond_false,bj,kF (by decide),kF (by omega)];apply Dx (by decide) (by omega) (by omega);have e1:((0:Nat):Int)*N=0:=by omega
 rw[e1,bj (by decide),bj,show((((0:Nat):Int))==0)=true from rfl,cond_true];refine aQ (bh (F:=No)) λb w' s=>?_;have s:=g9 (n:=0) (size:=1) s (i:=0) rfl rfl (by decide) (λu hu=>by cases hu);exact h _ _ (dG s0 s (i:=0) rfl) (au s)
end
end Go.Proofs.YtmegplnmiepfbaaGreatDoor.S
namespace Go.Proofs.YtmegplnmiepfbaaGreatDoor.S
open Go.Sx
attribute [local irreducible] af cD bz bg aA cy b_ St Bx Al App cK cE cB bV aN bG aq bT av ak aW mapA
def aA4:pz 242 fns=true:=by kernel_rfl
def I6 (cs:List Int):Bool:=!cs.any λc=>c !=gi cs 0
def Hv (f:Nat)(cs:List Int):Option (List Int):=if f=0 then(if I6 cs=true then some [0,gi cs 0]else none)else if f=1 then some (1::cs)else some (ug cs)
abbrev E7 (tw th:Int)(a:Option Addr)(n c:Nat):List Value:=[ae tw,ae th,.slice a n c]
section
variable {F:Nat->Prop}{W w w0:World}{L:List As}{ca:Option Addr}{cn cc tb:Nat}{cs:List Int}{tw th:Int}
def apT {Q:Bool->World->Prop}(hC:Sl w ca cn cc 1 bp cs)(hn:1<=cn/\cn<=1000)(s:Sep F W w (av tb 84 (E7 tw th ca cn cc)::L))(h:Q (!I6 cs) w):m_ ca cn cc (.func (.func 242) #[] #[.pointer (sZ tb)]) w Q:=by
 apply Dh;apply Ft;have hl:=hC.len;have loop:∀(j i:Nat),i+j=cn->(∀k,k<i->gi cs k=gi cs 0)->jr (λr w=>Q (decide (r≥0)) w) (j+1) ca cn cc (.func (.func 242) #[] #[.pointer (sZ tb)]) (cn:Int) i w:=by
  intro j;induction j with
  |zero=>
   intro i hi hall;show jq _ _ _ _ _ _ _ _ _;unfold jq;have e:I6 cs=true:=by rw[I6,Bool.not_eq_true',List.any_eq_false];intro c hc;obtain⟨k,hk⟩:=List.mem_iff_getElem?.1 hc;have hkl:=(List.getElem?_eq_some_iff.1 hk).1;rw[h_ hkl]at hk;grind
   grind
  |succ j ih=>
   intro i hi hall;show jq _ _ _ _ _ _ _ _ _;rw[jq,bM];apply hC.BJ rfl (by omega);unfold iw;simp only;have hc:LO (gi cs i) (sZ tb) w λr w'=>cond r (Q (decide ((i:Int)≥0)) w') (jr (λr w=>Q (decide (r≥0)) w) (j+1) ca cn cc (.func (.func 242) #[] #[.pointer (sZ tb)]) (cn:Int) (IntKind.wrap .i64 ((i:Int)+1)) w'):=by
    apply ZY;refine ah (lS s 0 rfl ?_);apply hC.BJ (k:=0) rfl (by omega);by_cases e:gi cs i=gi cs 0
    ·rw[xO e];show cond false _ _;rw[cond_false,F_ (by omega)];exact ih (i+1) (by omega) λk hk=>by grind
    ·rw[EZ e];show cond true _ _;rw[cond_true,decide_eq_true (by omega)];have e2:I6 cs=false:=by rw[I6,Bool.not_eq_false',List.any_eq_true];exact⟨gi cs i,fm (by omega),EZ e⟩
     grind
   exact hc
 exact⟨cn+1,loop cn 0 (by omega) λk hk=>by omega⟩
def aiK {oa:Option Addr}{on oc b k:Nat}{out ns:List Int}{K:Option Addr->Nat->Nat->World->Prop}(s:Sep F W w (ak oa on oc 5 1 (flat bp out)::L))(CN:on<=100000000)(hk:ns.length=k)(Je:k<=100000){ba:Option Addr}{bc:Nat}(hB:Sl w ba k bc 1 bp ns)
  (h:∀a' c' w',Sep F W w' (ak a' (on+k) c' 5 1 (flat bp (out++ns))::L)->K a' (on+k) c' w'):App P #[22,22] 22 (.slice oa on oc) (.slice ba k bc) w K:=by
 refine iy dU s (i:=0) (bytes:=1) rfl rfl rfl rfl rfl rfl (by decide) rfl (hB.src (e:=5) cZ Bo) (by simp[maxLen];omega) (by omega) (λe=>hB.nil e) λa1 c1 w1 s1=>?_;rw[<-f_]at s1;grind
def adk {ns:List Int}{b:Nat}{i:Nat}(s:Sep F W w L)(hi:L[i]? =some (av b 5 (flat bp ns))):Sl w (sZ b) ns.length ns.length 1 bp ns:=
 ⟨⟨rfl,λj x hx=>⟨_,rfl,λk v hk=>by
  rw[cw,Nat.zero_add,Nat.mul_one];apply cO s rfl hi;have FI:k=0:=by have:=(List.getElem?_eq_some_iff.1 hk).1;rw[cZ]at this;omega
  subst FI;have:=tf cZ hx (j:=0) (by decide);grind⟩⟩,Nat.le_refl _,λe=>by cases e⟩
def arY {Q:Option Addr->Nat->Nat->World->Prop}{b:Nat}(hA:Sl w0 ca cn cc 1 bp cs)(hn:cn<=1000)(s:Sep No w0 w (ak (sZ b) 1 1 5 1 (flat bp [2])::av tb 84 (E7 tw th ca cn cc)::L))
  (h:∀g o rn rc w',Sep No w0 w' (ak (some ⟨g,o,none⟩) rn rc 5 1 (flat bp (ug cs))::av tb 84 (E7 tw th ca cn cc)::L)->Q (some ⟨g,o,none⟩) rn rc w'):∃k,xh Q k (aZ tb) (sZ b) 1 1 0 w:=by
 have hlen:=hA.len;have inner:∀(P3:Addr->Option Addr->Nat->Nat->Int->World->Prop) (x:Int) (i:Nat) (oa:Option Addr) (on oc:Nat) (out:List Int),cs[i]? =some x->on<=1000000->
   (∀a' c' w',Sep No w0 w' (ak a' (on+2) c' 5 1 (flat bp (out++[((lead x (cs.drop (i+1)):Nat):Int)%256,x]))::av tb 84 (E7 tw th ca cn cc)::L)->P3 (aZ tb) a' (on+2) c' ((i+1+lead x (cs.drop (i+1)):Nat):Int) w')->
   ∀(k r:Nat) (w:World),i+1+r+k=cn->lead x (cs.drop (i+1))=r+lead x (cs.drop (i+1+r))->Sep No w0 w (ak oa on oc 5 1 (flat bp out)::av tb 84 (E7 tw th ca cn cc)::L)->xg P3 Q (k+1) (aZ tb) oa on oc i ((r+1:Nat):Int) w:=by
  intro P3 x i oa on oc out hx CN next
  have hix:i<cn:=by grind
  have hgx:gi cs i=x:=by rw[h_ (by omega)]at hx;grind
  have over:∀(r:Nat) (w:World),i+1+r<=cn->lead x (cs.drop (i+1))=r->Sep No w0 w (ak oa on oc 5 1 (flat bp out)::av tb 84 (E7 tw th ca cn cc)::L)->EV P3 Q (aZ tb) oa on oc i ((r+1:Nat):Int) w:=by
   intro r w hr hl s;apply lS s 1 rfl;apply Sl.BJ (hA.fr (au s)) rfl hix;rw[hgx,aH,aH,wrap_u8'];have e0:((r+1:Nat):Int)-1=(r:Int):=by omega
   rw[e0];refine aQ s λb w s=>?_;have hB:=adk (ns:=[(r:Int)%256,x]) s (i:=0) rfl;refine aiK (k:=2) (b:=0) (jd s) (by omega) rfl (by decide) hB λa1 c1 w1 s1=>?_;rw[hl]at next
   have:=next a1 c1 w1 (gH s1 (.cons_cons _ (List.sublist_cons_self _ _)))
   grind
  intro k;induction k with
  |zero=>
   intro r w hr hl s;show J6 P3 Q (xg P3 Q 0) _ _ _ _ _ _ _;have s:=ay s;apply lS s 1 rfl;rw[aH,bj];have e:cs.drop (i+1+r)=[]:=List.drop_eq_nil_of_le (by omega);rw[e]at hl;exact over r _ (by omega) hl s
  |succ k ih=>
   intro r w hr hl s;show J6 P3 Q (xg P3 Q (k+1)) _ _ _ _ _ _ _;have ei:(i:Int)+((r+1:Nat):Int)=((i+1+r:Nat):Int):=by push_cast;omega
   have s:=ay s;apply lS s 1 rfl;rw[aH,bM,ei];have hB:=hA.fr (au s);refine lS s 1 rfl (Sl.BJ hB rfl (by omega) ?_);refine lS s 1 rfl (Sl.BJ hB rfl hix ?_);have hd:cs.drop (i+1+r)=gi cs (i+1+r)::cs.drop (i+1+r+1):=by rw[List.drop_eq_getElem_cons (by omega)];congr 1;have:=h_ (l:=cs) (i:=i+1+r) (by omega);rw[List.getElem?_eq_getElem (by omega)]at this;exact Option.some.inj this
   rw[hd,lead]at hl;rw[hgx];by_cases he:gi cs (i+1+r)=x
   ·rw[ee he,cond_true,aH];rw[if_pos he]at hl;exact ih (r+1) _ (by omega) (by rw[show i+1+(r+1)=i+1+r+1 by omega];omega) s
   ·rw[cL he,cond_false];rw[if_neg he]at hl;exact over r _ (by omega) hl s
 have outer:∀(k i:Nat) (oa:Option Addr) (on oc:Nat) (out:List Int) (w:World),cn-i<=k->i<=cn->1<=on->on<=1+2*i->out++lQ (cn-i) (cs.drop i)=ug cs->Sep No w0 w (ak oa on oc 5 1 (flat bp out)::av tb 84 (E7 tw th ca cn cc)::L)->xh Q (k+1) (aZ tb) oa on oc i w:=by
  have stop:∀R (oa:Option Addr) (on oc:Nat) (out:List Int) (w:World),1<=on->out++lQ (cn-cn) (cs.drop cn)=ug cs->Sep No w0 w (ak oa on oc 5 1 (flat bp out)::av tb 84 (E7 tw th ca cn cc)::L)->J7 Q R (aZ tb) oa on oc cn w:=by intro R oa on oc out w h1 he s;apply lS s 1 rfl;rw[bj];rw[List.drop_eq_nil_of_le (by omega),Nat.sub_self,lQ,List.append_nil]at he;rw[he]at s;obtain⟨g,o,rfl⟩:=qk s (i:=0) rfl (by omega);exact h _ _ _ _ _ s
  intro k;induction k with
  |zero=>
   intro i oa on oc out w hk hi h1 CN he s;obtain rfl:i=cn:=by omega
   exact stop _ _ _ _ _ _ h1 he s
  |succ k ih=>
   intro i oa on oc out w hk hi h1 CN he s;by_cases hin:i=cn
   ·subst hin;exact stop _ _ _ _ _ _ h1 he s
   ·show J7 Q (xh Q (k+1)) _ _ _ _ _ _;apply lS s 1 rfl;rw[bM];have hx:cs[i]? =some (gi cs i):=h_ (by omega);have hd:cs.drop i=gi cs i::cs.drop (i+1):=by obtain⟨h1,h2⟩:=List.getElem?_eq_some_iff.1 hx;rw[List.drop_eq_getElem_cons h1,h2]
    have Oc:=PK (gi cs i) (cs.drop (i+1));rw[List.length_drop]at Oc;refine⟨cn-(i+1)+1,inner _ (gi cs i) i oa on oc out hx (by omega) (λa' c' w' s'=>?_) (cn-(i+1)) 0 w (by omega) (by rw[Nat.zero_add]) s⟩;refine ih (i+1+lead (gi cs i) (cs.drop (i+1))) a' (on+2) c' _ w' (by omega) (by omega) (by omega) (by omega) ?_ s';rw[<-he,hd,show cn-i=(cn-(i+1))+1 by omega,lQ,List.append_assoc,List.drop_drop];congr 1;show _::_::_=_::_::_;congr 2;exact aid _ _ _ (by rw[List.length_drop];omega) (by rw[List.length_drop];omega)
 exact⟨cn+1,outer cn 0 _ 1 1 [2] w (by omega) (by omega) (by omega) (by omega) (by rw[List.drop_zero,Nat.sub_zero,<-hlen];rfl) s⟩
def DD {Q:Option Addr->Nat->Nat->World->Prop}{f:Nat}(hA:Sl w0 ca cn cc 1 bp cs)(hn:1<=cn/\cn<=1000)(hf:f<=2)
  (hno:Hv f cs=none->∀w',Sep No w0 w' []->Q none 0 0 w')(hyes:∀out,Hv f cs=some out->∀g o rn rc w',Sep No w0 w' [ak (some ⟨g,o,none⟩) rn rc 5 1 (flat bp out)]->Q (some ⟨g,o,none⟩) rn rc w'):Ik tw th ca cn cc f w0 Q:=by
 apply adX;have hlen:=hA.len;refine aQ (bh (F:=No)) λtb w s=>?_;have ew:IntKind.wrap .u8 (f:Int)=f:=by rw[wrap_u8'];omega
 rw[ew];refine aQ s λb w s=>?_;have s:Sep No w0 w (av b 5 (flat bp [(f:Int)])::av tb 84 (E7 tw th ca cn cc)::[]):=s;have hC:=hA.fr (au s);have row:Sep No w0 w (ak (sZ b) 1 1 5 1 (flat bp [(f:Int)])::av tb 84 (E7 tw th ca cn cc)::[]):=by have:=g9 (size:=1) s (i:=0) rfl rfl (by decide) (λu hu=>by simp[flat,bp]at hu;subst hu;rfl);grind
 by_cases f0:f=0
 ·subst f0;apply lS s 1 rfl;apply apT hC hn (ai s);cases hs:I6 cs with
  |false=>
   exact hno (by unfold Hv;grind) w (ai (ai s))
  |true=>
   apply lS s 1 rfl;apply hC.BJ (k:=0) rfl (by omega);refine aQ row λxb w s=>?_;have hB:=adk (ns:=[gi cs 0]) s (i:=0) rfl;refine aiK (k:=1) (b:=0) (jd s) (by omega) rfl (by decide) hB λa1 c1 w1 s1=>?_;obtain⟨g,o,rfl⟩:=qk s1 (i:=0) rfl (by omega);exact hyes [0,gi cs 0] (by unfold Hv;grind) g o _ _ w1 (ck (L':=[_]) [0] s1 rfl (by decide))
 ·rw[cL (by omega),cond_false];by_cases f1:f=1
  ·subst f1;apply lS s 1 rfl;refine aiK (b:=0) row (by omega) hlen (by omega) hC λa1 c1 w1 s1=>?_;obtain⟨g,o,rfl⟩:=qk s1 (i:=0) rfl (by omega);exact hyes (1::cs) (by unfold Hv;grind) g o _ _ w1 (ck (L':=[_]) [0] s1 rfl (by decide))
  ·obtain rfl:f=2:=by omega
   exact arY hA (by omega) row λg o rn rc w' s=>hyes (ug cs) (by unfold Hv;grind) g o _ _ w' (ck (L':=[_]) [0] s rfl (by decide))
end
def am3 (x:Int)(ys:List Int):(ug (x::ys)).length=3+(lQ ys.length (ys.drop (lead x ys))).length:=by show(2::_::x::lQ ys.length (ys.drop (lead x ys))).length=_;grind
def ajL {x:Int}:∀{ys:List Int},(∀y∈ys,y=x)->lead x ys=ys.length
 |[],_=>rfl
 |y::ys,h=>by rw[lead,if_pos (h y (List.mem_cons_self ..)),ajL λz hz=>h z (List.mem_cons_of_mem _ hz)];rfl
def apV {cs:List Int}(h:1<=cs.length):3<=(ug cs).length/\(I6 cs=true↔(ug cs).length=3):=by
 match cs,h with
 |x::ys,_=>
  rw[am3];refine⟨by omega,?_⟩;have e0:gi (x::ys) 0=x:=rfl;rw[I6,e0,Bool.not_eq_true',List.any_eq_false];constructor
  ·intro hs;have:lead x ys=ys.length:=ajL λy hy=>by grind
   rw[this,List.drop_length];cases ys.length<;>rfl
  ·intro hl c hc;have h0:ys.drop (lead x ys)=[]:=by
    cases hd:ys.drop (lead x ys)with
    |nil=>rfl
    |cons z zs=>
     rw[hd]at hl;obtain⟨k,hk⟩:∃k,ys.length=k+1:=by
      cases ys with
      |nil=>simp at hd
      |cons y ys=>simp_all
     rw[hk]at hl;simp only[lQ,List.length_cons]at hl;omega
   have h1:lead x ys=ys.length:=by have:=PK x ys;grind
   have h2:=N3 x ys;grind
section
variable {F:Nat->Prop}{W w w0:World}{L:List As}{ca:Option Addr}{cn cc tb:Nat}{cs:List Int}{tw th:Int}
def agk {Q:Int->Option Addr->Nat->Nat->World->Prop}{R:Addr->Int->Option Addr->Nat->Nat->Int->World->Prop}{b:Int}{oa:Option Addr}{on oc:Nat}{t:Addr}(h:Q b oa on oc w):jV Q R t b oa on oc 3 w:=by unfold jV;grind
def akJ {Q:Int->Option Addr->Nat->Nat->World->Prop}(hA:Sl w0 ca cn cc 1 bp cs)(hn:1<=cn/\cn<=1000)(h:∀b g o rn rc w',Sep No w0 w' [ak (some ⟨g,o,none⟩) rn rc 5 1 (flat bp (uh cs).2)]->Q b (some ⟨g,o,none⟩) rn rc w'):
  Fl tw th ca cn cc w0 Q:=by
 apply ZZ;have hlen:=hA.len;obtain⟨h3,wE⟩:=apV (cs:=cs) (by omega);refine aQ (bh (F:=No)) λtb w s=>?_;have rd:∀{w:World} {L':List As} {i:Nat} {K:Int->Int->Option Addr->Nat->Nat->Prop},Sep No w0 w L'->L'[i]? =some (av tb 84 (E7 tw th ca cn cc))->K tw th ca cn cc->af .i64 ((aZ tb).add 0) w λa=>af .i64 ((aZ tb).add 1) w λb=>aA ((aZ tb).add 2) w λc d e=>K a b c d e:=λs hi k=>
  dy s rfl hi rfl (dy s rfl hi rfl (gZ s rfl hi rfl k))
 have last:∀{best:Int} {g o on oc:Nat} {out:List Int} {w:World},out.length=on->(if(ug cs).length<on then ug cs else out)=(uh cs).2->Sep No w0 w (ak (some ⟨g,o,none⟩) on oc 5 1 (flat bp out)::av tb 84 (E7 tw th ca cn cc)::[])->oF Q 2 (aZ tb) best (some ⟨g,o,none⟩) on oc 2 w:=λ{best g o on oc out w} hl he s=>by
  show jV Q (oF Q 1) _ _ _ _ _ _ _;unfold jV;apply rd s (i:=1) rfl;refine DD (hA.fr (au s)) hn (by decide) (λe=>by unfold Hv at e;cases e) λro e g2 o2 rn rc w' s'=>?_;unfold Hv at e;rw[if_neg (by decide),if_neg (by decide),Option.some.injEq]at e;subst e;have hrn:=(aG s' (i:=0) rfl cZ (by decide)).len;have s:=fB s s';show cond true _ _;rw[cond_true];show cond false _ _;rw[cond_false];by_cases hlt:(rn:Int)<(on:Int)
  ·rw[bM hlt];unfold zx;rw[A5]at he;refine agk (h _ _ _ _ _ _ ?_);rw[<-he];exact ck (L':=[_]) [0] s rfl (by decide)
  ·rw[bj hlt];rw[fU]at he;refine agk (h _ _ _ _ _ _ ?_);rw[<-he];exact ck (L':=[_]) [1] s rfl (by decide)
 refine⟨4,?_⟩;show jV Q (oF Q 3) _ _ _ _ _ _ _;unfold jV;apply rd s (i:=0) rfl;refine DD (hA.fr (au s)) hn (by decide) (λe w' s'=>?_) λro e g o rn rc w' s'=>?_
 ·
  have hs:I6 cs=false:=by unfold Hv at e;grind
  have s:=fB s s';show cond false _ _;rw[cond_false];show jV Q (oF Q 2) _ _ _ _ _ _ _;unfold jV;apply rd s (i:=0) rfl;refine DD (f:=1) (hA.fr (au s)) hn (by decide) (λe=>by unfold Hv at e;cases e) λro e g2 o2 rn rc w' s'=>?_;unfold Hv at e;rw[if_neg (by decide),if_pos rfl,Option.some.injEq]at e;subst e;have hrn:=(aG s' (i:=0) rfl cZ (by decide)).len;have s:=fB s s';show cond true _ _;refine last hrn ?_ s;unfold uh;grind
 ·unfold Hv at e;rw[if_pos rfl]at e;split at e
  ·rename_i hs;rw[Option.some.injEq]at e;subst e;have hrn:2=rn:=(aG s' (i:=0) rfl cZ (by decide)).len;subst hrn;have s:=fB s s';show cond true _ _;rw[cond_true];show cond true _ _;rw[cond_true];unfold zx;show jV Q (oF Q 2) _ _ _ _ _ _ _;unfold jV;apply rd s (i:=1) rfl;refine DD (f:=1) (hA.fr (au s)) hn (by decide) (λe=>by unfold Hv at e;cases e) λro e g2 o2 rn rc w' s'=>?_;unfold Hv at e;rw[if_neg (by decide),if_pos rfl,Option.some.injEq]at e;subst e;have hrn:=(aG s' (i:=0) rfl cZ (by decide)).len;rw[List.length_cons]at hrn;have s:=fB s s';show cond true _ _;rw[cond_true];show cond false _ _;rw[cond_false,bj];refine last rfl ?_ (ck (L':=[_,_]) [1,2] s rfl (by decide));rw[uh,fU,if_pos (wE.1 hs)]
  ·cases e
def apW {Q:Option Addr->Nat->Nat->Int->World->Prop}(s0:Sep F W w0 L)(hA:Sl w0 ca cn cc 1 bp cs)(hm:Tl.Ec tw th cs=true)(hn:1<=cn/\cn<=1000)(h:∀g o rn rc w',Sep F W w' (ak (some ⟨g,o,none⟩) rn rc 5 1 (flat bp (uh cs).2)::L)->Fr No w0 w'->Q (some ⟨g,o,none⟩) rn rc 0 w'):
  Ij tw th ca cn cc w0 Q:=by
 apply ad0;refine aQ (bh (F:=No)) λtb w s=>?_;refine lI s 0 rfl (lI s 0 rfl (lS s 0 rfl ?_));refine Tl.Dw s (hA.fr (au s)).row λw s _=>?_;rw[hm,Bool.not_true,cond_false];refine lI s 0 rfl (lI s 0 rfl (lS s 0 rfl ?_));refine akJ (hA.fr (au s)) hn λb g o rn rc w' s'=>?_;have s2:=fB s s';have s3:=ck (L':=[ak (some ⟨g,o,none⟩) rn rc 5 1 (flat bp (uh cs).2)]) [0] s2 rfl (by decide);exact h g o rn rc w' (fB s0 s3) (au s3)
end
end Go.Proofs.YtmegplnmiepfbaaGreatDoor.S
set_option maxRecDepth 20000
namespace Go.Proofs.YtmegplnmiepfbaaGreatDoor.S.At
open Go.Sx
open Go.Extern
def Tw (v:Value)(w:World):(ReflectliteType.typeOf #[.iface 240 v]).run P w=.ok (.iface 219 (rt 240)) w:=by kernel_rfl
def Hh (v:Value)(w:World):(ReflectliteType.typeOf #[.iface 187 v]).run P w=.ok (.iface 219 (rt 187)) w:=by kernel_rfl
def Hi (t:Addr)(w:World):(ReflectliteValue.unpack (.iface 188 (.pointer (some t)))).run P w
 =.ok (.agg #[.pointer (some ⟨8,188,none⟩),.pointer (sZ w.heap.size),.int .u64 150]) (w.alloc (.cells #[.pointer (some t)] 188)):=by kernel_rfl
def EM (n:Int)(w:World):(ReflectliteValue.unpack (.iface 187 (ae n))).run P w
 =.ok (.agg #[.pointer (some ⟨8,187,none⟩),.pointer (sZ w.heap.size),.int .u64 130]) (w.alloc (.cells #[ae n] 187)):=by kernel_rfl
def RF (a:Addr)(w:World):(ReflectliteValue.methodAny (ReflectliteValue.valueError "reflectlite.Value.Type" 0) (λt _ _ _=>ReflectliteType.toType t) #[.agg #[.pointer (some ⟨8,188,none⟩),.pointer (some a),.int .u64 150]]).run P w
 =.ok (.iface 219 (rt 188)) w:=by kernel_rfl
def MC (w:World):((ReflectliteType.abiMethod λt=>(λa:Nat=>Value.int IntKind.u8 (a:Int))<$>Rtype.kind t) #[.pointer (some ⟨8,188,none⟩)]).run P w=.ok (.int .u8 22) w:=by kernel_rfl
def MD (w:World):((ReflectliteType.abiMethod λt=>(λa:Nat=>Value.int IntKind.u8 (a:Int))<$>Rtype.kind t) #[.pointer (some ⟨8,187,none⟩)]).run P w=.ok (.int .u8 2) w:=by kernel_rfl
def RH (w:World):(ReflectliteType.method ReflectliteType.elem #[rt 188]).run P w=.ok (.iface 219 (rt 187)) w:=by kernel_rfl
def Xb (w:World):(ReflectliteType.relation "Implements" ReflectliteType.implements_ #[rt 187,.iface 219 (rt 74)]).run P w=.ok (.bool true) w:=by kernel_rfl
def aeV (w:World):(ReflectliteType.relation "AssignableTo" ReflectliteType.assignableTo #[rt 240,.iface 219 (rt 187)]).run P w=.ok (.bool false) w:=by kernel_rfl
def RI (w:World):(ReflectliteType.relation "AssignableTo" ReflectliteType.assignableTo #[rt 187,.iface 219 (rt 187)]).run P w=.ok (.bool true) w:=by kernel_rfl
def aeW (v:Value)(w:World):(Go.method (P.types.size+Made.depth) 240 v "Unwrap").run P w=.ok (321,v) w:=by kernel_rfl
abbrev vP (a:Addr):Value:=.agg #[.pointer (some ⟨8,188,none⟩),.pointer (some a),.int .u64 150]
abbrev vR (a:Addr):Value:=.agg #[.pointer (some ⟨8,187,none⟩),.pointer (some a),.int .u64 130]
abbrev vE (a:Addr):Value:=.agg #[.pointer (some ⟨8,187,none⟩),.pointer (some a),.int .u64 386]
def Af (a:Addr)(w:World):(ReflectliteValue.parts (vP a)).run P w=.ok (some (188,a,150)) w:=by kernel_rfl
def JE (a:Addr)(w:World):(ReflectliteValue.parts (vR a)).run P w=.ok (some (187,a,130)) w:=by kernel_rfl
def JF (a:Addr)(w:World):(ReflectliteValue.parts (vE a)).run P w=.ok (some (187,a,386)) w:=by kernel_rfl
def ME (a p:Addr)(w:World)(ha:w.cell? a=some (.pointer (some p))):(ReflectliteValue.method (ReflectliteValue.valueError "reflectlite.Value.IsNil" 0) ReflectliteValue.isNil #[vP a]).run P w=.ok (.bool false) w:=by rw[rlm];simp[Sem.run_bind,Af,Result.andThen];simp[ReflectliteValue.isNil,loadVar,isAgg,underlying,Go.Proofs.Tryz.underlying188,ha,Result.andThen]
def JG (w:World):(Rtype.elem? 188).run P w=.ok (some 187) w:=by kernel_rfl
def ac1 (p:Addr)(w:World):(ReflectliteValue.mk 187 p ReflectliteValue.flagAddr).run P w=.ok (vE p) w:=by kernel_rfl
def MF (a p:Addr)(w:World)(ha:w.cell? a=some (.pointer (some p))):(ReflectliteValue.method (ReflectliteValue.valueError "reflectlite.Value.Elem" 0) ReflectliteValue.elem #[vP a]).run P w=.ok (vE p) w:=by rw[rlm];simp[Sem.run_bind,Af,Result.andThen];simp[ReflectliteValue.elem,loadVar,isAgg,underlying,Go.Proofs.Tryz.underlying188,ha,Result.andThen,JG,ac1]
def JH (w:World):(Rtype.directlyAssignable 187 187).run P w=.ok true w:=by kernel_rfl
def Xf (t b:Addr)(n:Int)(old:Value)(w:World)(hb:w.cell? b=some (ae n))(ht:w.cell? t=some old)(hf:w.frozen? t=false):
  (ReflectliteValue.set #[vE t,vR b]).run P w=.ok (.tuple #[]) (w.setCell t (ae n)):=by
 rw[rls];simp[Sem.run_bind,JF,JE,Result.andThen];simp[ReflectliteValue.flagAddr,loadVar,isAgg,underlying,Go.Proofs.Tryz.underlying187,hb,Result.andThen,JH,storeVar,Value.cells,storeCells,Addr.add];rw[run_store P w t _ _ (by rfl)];simp[ht,hf]
def axe {t:Nat}(ht:t=240)(v:Value)(xT:TypeId)(w:World):(Instr.typeAssert (.iface t v) xT 231 true).run P w=.ok (.tuple #[.nilIface,.bool false]) w:=by subst ht;exact run_typeAssert_lacksB Go.Proofs.Tryz.underlying231 (by kernel_rfl) (by kernel_rfl) v xT w
def awd {t:Nat}(ht:t=240)(v:Value)(xT:TypeId)(w:World):(Instr.typeAssert (.iface t v) xT 224 true).run P w=.ok (.tuple #[.iface t v,.bool true]) w:=by subst ht;exact run_typeAssert_hasB Go.Proofs.Tryz.underlying224 (by kernel_rfl) v xT w
def aA6:pz 321 fns=true:=by kernel_rfl
section
variable {w:World}{p n:Nat}{v:Value}
def ac0 {Q:Value->World->Prop}(hv:w.cell? ((aZ p).add 1)=some v)(hp:Value.plain v=true)(k:Q v w):yY (cx n) (.iface 240 (.pointer (sZ p))) "Unwrap" [] w λv w=>dV v λr=>Q r w:=by
 refine⟨321,_,aeW _ w,?_⟩;unfold iw;have h:DN (sZ p) w Q:=by apply NB;refine ah (mW hv hp ?_);unfold dV;grind
 exact h
end
attribute [local irreducible] tX callFunc Sem.run ReflectliteValue.method ReflectliteValue.set ReflectliteValue.unpack ReflectliteType.relation ReflectliteType.typeOf af cD bz bg aA cy b_ St App cK cE cB bV bG aq bT av ak aW mapA
section
variable {F:Nat->Prop}{W w:World}{L:List As}{p r:Nat}{c v0:Int}
def RK {b:Addr}{K:Value->World->Prop}(hb:w.cell? b=some (ae c))(h:St (aZ r) (ae c) w λw=>K (.tuple #[]) w):tX P 139 #[vE (aZ r),vR b] w K:=by obtain⟨⟨u,hu⟩,hf,k⟩:=amM h;have he:=Xf (aZ r) b c u w hb hu hf;apply j_ (w':=w.setCell (aZ r) (ae c)) arC he;exact k
def Xg {Q:Bool->World->Prop}{k tb:Nat}{a:Nat}(s:Sep F W w (av tb 161 [.pointer (some ⟨8,188,none⟩),.pointer (sZ a),.int .u64 150]::av a 188 [.pointer (sZ r)]::av r 187 [ae v0]::L))
  (hQ:∀w',Sep F W w' (av r 187 [ae c]::L)->Q true w'){target:Value}:jk Q (k+1) (.iface 187 (ae c)) target (.iface 219 (rt 187)) (aZ tb) w:=by
 show xe Q (jk Q k) _ _ _ _ _;apply j_ x95 (Hh _ w);refine nq (RG _) Xd ajv (RI w) ?_;apply amJ;refine lP s 0 rfl (lP s 0 rfl (lI s 0 rfl ?_));apply j_ arB (MF (aZ a) (aZ r) w (by have:=cO s (i:=1) (j:=0) rfl rfl rfl;exact this));apply Tz;refine j_ x97 (EM c w) ?_;apply Tz;have s2:=t_ (ai (ai s)) [ae c] 187;have s2:=s2;apply RK (c:=c) (by simp_all);refine ax s2 (i:=1) rfl rfl rfl λw s=>?_;exact hQ w (ai s)
def ajA {Q:Bool->World->Prop}{k tb:Nat}{a:Nat}(s:Sep F W w (av tb 161 [.pointer (some ⟨8,188,none⟩),.pointer (sZ a),.int .u64 150]::av a 188 [.pointer (sZ r)]::av r 187 [ae v0]::L))
  (hv:w.cell? ((aZ p).add 1)=some (.iface 187 (ae c)))
  (hQ:∀w',Sep F W w' (av r 187 [ae c]::L)->Q true w'){target:Value}:jk Q (k+2) (.iface 240 (.pointer (sZ p))) target (.iface 219 (rt 187)) (aZ tb) w:=by
 show xe Q (jk Q (k+1)) _ _ _ _ _;apply j_ x95 (Tw _ w);refine nq (RG _) Xd ajv (aeV w) ?_;apply aeY;refine Bq (axe rfl _ _ _) (Tx rfl ?_);refine Bq (awd rfl _ _ _) (Tx rfl ?_);exact ac0 hv rfl (tT (Xg s hQ))
def MG {Q:Bool->World->Prop}(s:Sep F W w (av r 187 [ae v0]::L))(hv:∀w',Sep F W w' L->w'.cell? ((aZ p).add 1)=some (.iface 187 (ae c)))
  (h1:∀w',Sep F W w' L->w'.cell? (aZ 1)=some (.iface 219 (rt 74)))
  (hQ:∀w',Sep F W w' (av r 187 [ae c]::L)->Q true w'):
  nM (.iface 240 (.pointer (sZ p))) (.iface 188 (.pointer (sZ r))) w Q:=by
 apply BO;refine tT (tT ?_);refine j_ x97 (Hi (aZ r) w) ?_;apply Tz;have s:=t_ s [.pointer (sZ r)] 188;have s:=s;generalize w.heap.size=a at s⊢;generalize w.alloc (.cells #[.pointer (sZ r)] 188)=w1 at s⊢;refine aV s λvb w s=>?_;refine sT s 0 rfl λw s=>?_;refine sT s 0 rfl λw s=>?_;refine ax s (i:=0) rfl rfl rfl λw s=>?_;refine lP s 0 rfl (lP s 0 rfl (lI s 0 rfl ?_));apply j_ x98 (RF (aZ a) w);refine nq (IC _) RJ aeX (MC w) ?_;apply amL;refine lP s 0 rfl (lP s 0 rfl (lI s 0 rfl ?_));apply j_ x99 (ME (aZ a) (aZ r) w (by have:=cO s (i:=1) (j:=0) rfl rfl rfl;exact this));apply aeY;refine nq (aaX _) ajw arD (RH w) ?_;refine nq (IC _) RJ aeX (MD w) ?_;apply asS;apply mW (h1 w (ai (ai (ai s)))) rfl;refine nq (aeU _) ajx arE (Xb w) ?_;apply amK;refine lP s 0 rfl (lP s 0 rfl (lI s 0 rfl ?_));apply GJ;have s:=ai s;refine aQ s λtb w s=>?_;exact⟨2,ajA s (hv w (ai (ai (ai s)))) hQ⟩
end
end Go.Proofs.YtmegplnmiepfbaaGreatDoor.S.At
set_option maxRecDepth 20000
namespace Go.Proofs.YtmegplnmiepfbaaGreatDoor.S.Pk
open Go.Sx
open Go.Extern
def Hh (v:Value)(w:World):(ReflectliteType.typeOf #[.iface 268 v]).run P w=.ok (.iface 219 (rt 268)) w:=by kernel_rfl
def Hi (t:Addr)(w:World):(ReflectliteValue.unpack (.iface 269 (.pointer (some t)))).run P w
 =.ok (.agg #[.pointer (some ⟨8,269,none⟩),.pointer (sZ w.heap.size),.int .u64 150]) (w.alloc (.cells #[.pointer (some t)] 269)):=by kernel_rfl
def EM (n:Option Addr)(w:World):(ReflectliteValue.unpack (.iface 268 (.pointer n))).run P w
 =.ok (.agg #[.pointer (some ⟨8,268,none⟩),.pointer (sZ w.heap.size),.int .u64 150]) (w.alloc (.cells #[.pointer n] 268)):=by kernel_rfl
def RF (a:Addr)(w:World):(ReflectliteValue.methodAny (ReflectliteValue.valueError "reflectlite.Value.Type" 0) (λt _ _ _=>ReflectliteType.toType t) #[.agg #[.pointer (some ⟨8,269,none⟩),.pointer (some a),.int .u64 150]]).run P w
 =.ok (.iface 219 (rt 269)) w:=by kernel_rfl
def MC (w:World):((ReflectliteType.abiMethod λt=>(λa:Nat=>Value.int IntKind.u8 (a:Int))<$>Rtype.kind t) #[.pointer (some ⟨8,269,none⟩)]).run P w=.ok (.int .u8 22) w:=by kernel_rfl
def MD (w:World):((ReflectliteType.abiMethod λt=>(λa:Nat=>Value.int IntKind.u8 (a:Int))<$>Rtype.kind t) #[.pointer (some ⟨8,268,none⟩)]).run P w=.ok (.int .u8 22) w:=by kernel_rfl
def RH (w:World):(ReflectliteType.method ReflectliteType.elem #[rt 269]).run P w=.ok (.iface 219 (rt 268)) w:=by kernel_rfl
def Xb (w:World):(ReflectliteType.relation "Implements" ReflectliteType.implements_ #[rt 268,.iface 219 (rt 74)]).run P w=.ok (.bool true) w:=by kernel_rfl
def RI (w:World):(ReflectliteType.relation "AssignableTo" ReflectliteType.assignableTo #[rt 268,.iface 219 (rt 268)]).run P w=.ok (.bool true) w:=by kernel_rfl
abbrev vP (a:Addr):Value:=.agg #[.pointer (some ⟨8,269,none⟩),.pointer (some a),.int .u64 150]
abbrev vR (a:Addr):Value:=.agg #[.pointer (some ⟨8,268,none⟩),.pointer (some a),.int .u64 150]
abbrev vE (a:Addr):Value:=.agg #[.pointer (some ⟨8,268,none⟩),.pointer (some a),.int .u64 406]
def Af (a:Addr)(w:World):(ReflectliteValue.parts (vP a)).run P w=.ok (some (269,a,150)) w:=by kernel_rfl
def JE (a:Addr)(w:World):(ReflectliteValue.parts (vR a)).run P w=.ok (some (268,a,150)) w:=by kernel_rfl
def JF (a:Addr)(w:World):(ReflectliteValue.parts (vE a)).run P w=.ok (some (268,a,406)) w:=by kernel_rfl
def ME (a p:Addr)(w:World)(ha:w.cell? a=some (.pointer (some p))):(ReflectliteValue.method (ReflectliteValue.valueError "reflectlite.Value.IsNil" 0) ReflectliteValue.isNil #[vP a]).run P w=.ok (.bool false) w:=by rw[rlm];simp[Sem.run_bind,Af,Result.andThen];simp[ReflectliteValue.isNil,loadVar,isAgg,underlying,Go.Proofs.Tryz.underlying269,ha,Result.andThen]
def JG (w:World):(Rtype.elem? 269).run P w=.ok (some 268) w:=by kernel_rfl
def ac1 (p:Addr)(w:World):(ReflectliteValue.mk 268 p ReflectliteValue.flagAddr).run P w=.ok (vE p) w:=by kernel_rfl
def MF (a p:Addr)(w:World)(ha:w.cell? a=some (.pointer (some p))):(ReflectliteValue.method (ReflectliteValue.valueError "reflectlite.Value.Elem" 0) ReflectliteValue.elem #[vP a]).run P w=.ok (vE p) w:=by rw[rlm];simp[Sem.run_bind,Af,Result.andThen];simp[ReflectliteValue.elem,loadVar,isAgg,underlying,Go.Proofs.Tryz.underlying269,ha,Result.andThen,JG,ac1]
def JH (w:World):(Rtype.directlyAssignable 268 268).run P w=.ok true w:=by kernel_rfl
def Xf (t b:Addr)(n:Option Addr)(old:Value)(w:World)(hb:w.cell? b=some (.pointer n))(ht:w.cell? t=some old)(hf:w.frozen? t=false):
  (ReflectliteValue.set #[vE t,vR b]).run P w=.ok (.tuple #[]) (w.setCell t (.pointer n)):=by
 rw[rls];simp[Sem.run_bind,JF,JE,Result.andThen];simp[ReflectliteValue.flagAddr,loadVar,isAgg,underlying,Go.Proofs.Tryz.underlying268,hb,Result.andThen,JH,storeVar,Value.cells,storeCells,Addr.add];rw[run_store P w t _ _ (by rfl)];simp[ht,hf]
attribute [local irreducible] tX callFunc Sem.run ReflectliteValue.method ReflectliteValue.set ReflectliteValue.unpack ReflectliteType.relation ReflectliteType.typeOf af cD bz bg aA cy b_ St App cK cE cB bV bG aq bT av ak aW mapA
section
variable {F:Nat->Prop}{W w:World}{L:List As}{p r:Nat}{c v0:Option Addr}
def axf {A B:Prop}(h:A):dI .u8 (.int .u8 22) λr=>cond (r !=20) A B:=h
def RK {b:Addr}{K:Value->World->Prop}(hb:w.cell? b=some (.pointer c))(h:St (aZ r) (.pointer c) w λw=>K (.tuple #[]) w):tX P 139 #[vE (aZ r),vR b] w K:=by obtain⟨⟨u,hu⟩,hf,k⟩:=amM h;have he:=Xf (aZ r) b c u w hb hu hf;apply j_ (w':=w.setCell (aZ r) (.pointer c)) arC he;exact k
def Xg {Q:Bool->World->Prop}{k tb:Nat}{a:Nat}(s:Sep F W w (av tb 161 [.pointer (some ⟨8,269,none⟩),.pointer (sZ a),.int .u64 150]::av a 269 [.pointer (sZ r)]::av r 268 [.pointer v0]::L))
  (hQ:∀w',Sep F W w' (av r 268 [.pointer c]::L)->Q true w'){target:Value}:jk Q (k+1) (.iface 268 (.pointer c)) target (.iface 219 (rt 268)) (aZ tb) w:=by
 show xe Q (jk Q k) _ _ _ _ _;apply j_ x95 (Hh _ w);refine nq (RG _) Xd ajv (RI w) ?_;apply amJ;refine lP s 0 rfl (lP s 0 rfl (lI s 0 rfl ?_));apply j_ arB (MF (aZ a) (aZ r) w (by have:=cO s (i:=1) (j:=0) rfl rfl rfl;exact this));apply Tz;refine j_ x97 (EM c w) ?_;apply Tz;have s2:=t_ (ai (ai s)) [.pointer c] 268;have s2:=s2;apply RK (c:=c) (by simp_all);refine ax s2 (i:=1) rfl rfl rfl λw s=>?_;exact hQ w (ai s)
def MG {Q:Bool->World->Prop}(s:Sep F W w (av r 268 [.pointer v0]::L))
  (h1:∀w',Sep F W w' L->w'.cell? (aZ 1)=some (.iface 219 (rt 74)))
  (hQ:∀w',Sep F W w' (av r 268 [.pointer c]::L)->Q true w'):
  nM (.iface 268 (.pointer c)) (.iface 269 (.pointer (sZ r))) w Q:=by
 apply BO;refine tT (tT ?_);refine j_ x97 (Hi (aZ r) w) ?_;apply Tz;have s:=t_ s [.pointer (sZ r)] 269;have s:=s;generalize w.heap.size=a at s⊢;generalize w.alloc (.cells #[.pointer (sZ r)] 269)=w1 at s⊢;refine aV s λvb w s=>?_;refine sT s 0 rfl λw s=>?_;refine sT s 0 rfl λw s=>?_;refine ax s (i:=0) rfl rfl rfl λw s=>?_;refine lP s 0 rfl (lP s 0 rfl (lI s 0 rfl ?_));apply j_ x98 (RF (aZ a) w);refine nq (IC _) RJ aeX (MC w) ?_;apply amL;refine lP s 0 rfl (lP s 0 rfl (lI s 0 rfl ?_));apply j_ x99 (ME (aZ a) (aZ r) w (by have:=cO s (i:=1) (j:=0) rfl rfl rfl;exact this));apply aeY;refine nq (aaX _) ajw arD (RH w) ?_;refine nq (IC _) RJ aeX (MD w) ?_;apply axf;apply mW (h1 w (ai (ai (ai s)))) rfl;refine nq (aeU _) ajx arE (Xb w) ?_;apply amK;refine lP s 0 rfl (lP s 0 rfl (lI s 0 rfl ?_));apply GJ;have s:=ai s;refine aQ s λtb w s=>?_;exact⟨1,Xg s hQ⟩
end
end Go.Proofs.YtmegplnmiepfbaaGreatDoor.S.Pk
set_option maxRecDepth 20000
namespace Go.Proofs.YtmegplnmiepfbaaGreatDoor.S
open Go.Sx
attribute [local irreducible] af cD bz bg aA cy b_ St Bx Al App cK cE cB bV aN bG aq bT av ak aW mapA
abbrev tF (a:Addr):Value:=.iface 401 (.pointer (some a))
attribute [local irreducible] tX yY in
theorem arZ {w:World}{Q:Bool->World->Prop}{a b:Addr}{c:Bool}(he:∀(x y:Operand) (K:Bool->World->Prop),K c w->bV P .eql 74 x y (tF a) (tF b) w K)(hQ:Q c w):pL (tF a) (tF b) w Q:=by
 apply NS;refine tT (tT ?_);apply j_ x95 (af7 _ w);refine nq (ajt _) apu avW (aly w) ?_;have h:xu (tF a) (tF b) true w Q:=by apply NR;exact⟨1,alz (.inl rfl) he hQ⟩
 exact h
def As.nil {w:World}{Q:Bool->World->Prop}{v:Value}(hQ:Q false w):nM .nilIface v w Q:=BO _ _ _ _ hQ
def awe {w:World}{Q:Bool->World->Prop}{a b:Option Addr}{n c m d:Nat}{xs ys:List Int}(hA:Sl w a n c 1 bp xs)(hB:Sl w b m d 1 bp ys)(hx:ef xs)(hy:ef ys)(h:Q (decide (xs=ys)) w):D0 a n c b m d w Q:=by apply Ym;refine Y1 dU hA.row rfl rfl rfl rfl rfl rfl (ak2 ?_);refine Y1 dU hB.row rfl rfl rfl rfl rfl rfl (ak2 ?_);rw[anZ hx hy];exact h
abbrev C2 (rb:Nat)(ba:Option Addr)(bn bc:Nat)(at_:Int):As:=av rb 265 [.slice ba bn bc,ae at_]
section
variable {W w w0:World}{L:List As}{lg:wG}{ba:Option Addr}{bn bc rb:Nat}{bs:List Int}{p n:Nat}
def ae8 {A B:Prop}(h:A):Cb .nilIface λb=>cond b A B:=h
def ML {A B:Prop}(h:B):Cb .nilIface λb=>cond (!b) A B:=h
def RP {t:Nat}{v:Value}{A B:Prop}(h:A):Cb (.iface t v) λb=>cond (!b) A B:=h
def Bl {a:Addr}{K:Value->Prop}(k:K (tF a)):dV (tF a) K:=k
def TL {Q:Option Addr->Nat->Nat->Value->World->Prop}(hL:iL w0 lg)(hB:Sl w0 ba bn bc 1 bp bs)(Gb:bn<=1000000000)(hp:p<=bn)(hn:n<=100000)(s:Sep No w0 w (C2 rb ba bn bc p::L))
  (hno:bn-p<n->∀w',Sep No w0 w' (C2 rb ba bn bc p::L)->Q none 0 0 (tF lg.a6) w')
  (hyes:p+n<=bn->∀a c w',Sl w' a n c 1 bp ((bs.drop p).take n)->Sep No w0 w' (C2 rb ba bn bc ((p+n:Nat):Int)::L)->Q a n c .nilIface w'):nY (sZ rb) n w Q:=by
 apply OP;have s:=ay s;refine ah (lS s 0 rfl (ah (lI s 0 rfl ?_)));rw[aH];by_cases h:bn-p<n
 ·rw[bM];have s:=ay s;have c6:=Fr.cell (au s) hL.v6 id;exact mW c6 rfl ⟨c6,Bl (hno h _ s)⟩
 ·rw[bj];refine ah (lI s 0 rfl (ah (ax s (i:=0) rfl rfl rfl λw s=>?_)));have e:IntKind.wrap .i64 ((p:Int)+n)=((p+n:Nat):Int):=by rw[aH];omega
  rw[e]at s;have s:=ay s;refine ah (lS s 0 rfl (ah (lI s 0 rfl (ah (lI s 0 rfl ?_)))));rw[aH];refine(hB.fr (au s)).mid (p:=p) (by omega) rfl (by omega) (by omega) λa n' c en hs=>?_;grind
def Zo {Q:Option Addr->Nat->Nat->Value->World->Prop}(hL:iL w0 lg)(hB:Sl w0 ba bn bc 1 bp bs)(Gb:bn<=1000000000)(hp:p<=bn)(hn:n<=100000)(s:Sep No w0 w (C2 rb ba bn bc p::L))
  (hno:bn-p<n->∀w',Sep No w0 w' (C2 rb ba bn bc p::L)->Q none 0 0 (tF lg.a6) w')
  (Hr:p+n<=bn->0∈(bs.drop p).take n->∀a c w',Sl w' a n c 1 bp ((bs.drop p).take n)->Sep No w0 w' (C2 rb ba bn bc ((p+n:Nat):Int)::L)->Q a n c (tF lg.a5) w')
  (hyes:p+n<=bn->0∉(bs.drop p).take n->∀a c w',Sl w' a n c 1 bp ((bs.drop p).take n)->Sep No w0 w' (C2 rb ba bn bc ((p+n:Nat):Int)::L)->Q a n c .nilIface w'):qI (sZ rb) n w Q:=by
 apply M4;refine TL hL hB Gb hp hn s (λh w s=>?_) λh a c w hs s=>?_
 ·exact tT (Bl (hno h w s))
 ·apply ae8;apply Tl.Iv hs.row (by omega);by_cases h0:(0:Int)∈(bs.drop p).take n
  ·rw[bM h0];have c5:=Fr.cell (au s) hL.v5 id;exact mW c5 rfl (Bl (Hr h h0 a c w hs s))
  ·rw[bj h0];exact hyes h h0 a c w hs s
def X1 {Q:Option Addr->Nat->Nat->Value->World->Prop}(hL:iL w0 lg)(s:Sep No w0 w L)(h:∀w',Sep No w0 w' L->Q none 0 0 (tF lg.a5) w'):b_ (aZ 5) w.drew λx=>w.drew.cell? (aZ 5)=some x/\dV x λr=>Q none 0 0 r w.drew:=by have s:=ay s;have c5:=Fr.cell (au s) hL.v5 id;exact mW c5 rfl ⟨c5,Bl (h _ s)⟩
def apX {Q:Option Addr->Nat->Nat->Value->World->Prop}(hL:iL w0 lg)(hB:Sl w0 ba bn bc 1 bp bs)(Gb:bn<=1000000000)(hr:ef bs)(hn:n<=256)
  (hno:qe n (bs.drop 1) [] 1=none->∀e p' w',(e=lg.a5\/e=lg.a6)->Sep No w0 w' (C2 rb ba bn bc p'::L)->Q none 0 0 (tF e) w')
  (hyes:∀cs used,qe n (bs.drop 1) [] 1=some (cs,used)->∀a m c w',used<=bn->Sep No w0 w' (ak a m c 5 1 (flat bp cs)::C2 rb ba bn bc (used:Nat)::L)->Q a m c .nilIface w'):
  ∀(j p:Nat) (oa:Option Addr) (on oc:Nat) (out:List Int) (w:World),n<=on+j->on<=n->p<=bn->qe n (bs.drop p) out p=qe n (bs.drop 1) [] 1->Sep No w0 w (ak oa on oc 5 1 (flat bp out)::C2 rb ba bn bc p::L)->
   pR Q (j+1) (sZ rb) n oa on oc w:=by
 have hbl:=hB.len;intro j;induction j with
 |zero=>
  intro p oa on oc out w hj CN hp he s;show pQ _ _ _ _ _ _ _ _;unfold pQ;have hol:=(aG s (i:=0) rfl cZ (by decide)).len;rw[N4 (by omega)]at he;grind
 |succ j ih=>
  intro p oa on oc out w hj CN hp he s;have hol:=(aG s (i:=0) rfl cZ (by decide)).len;show pQ _ _ _ _ _ _ _ _;unfold pQ;by_cases hlt:on<n
  ·rw[bM];refine TL (n:=2) hL hB Gb hp (by decide) (jd s) (λh w s=>?_) λh a c w hs s=>?_
   ·refine RP (Bl ?_);refine hno ?_ lg.a6 p w (.inr rfl) (gH s (.cons_cons _ (List.sublist_cons_self _ _)));rw[<-he];have h2:(bs.drop p).length<2:=by grind
    match hd:bs.drop p,h2 with
    |[],_=>unfold qe;grind
    |[x],_=>unfold qe;grind
   ·apply ML;have s:=ay s;have hs:=hs.drew;obtain⟨x,y,rest,hd⟩:∃x y rest,bs.drop p=x::y::rest:=by
     have h2:2<=(bs.drop p).length:=by rw[List.length_drop];omega
     match hd:bs.drop p,h2 with
     |x::y::rest,_=>exact⟨x,y,rest,rfl⟩
    have E8:rest=bs.drop (p+2):=by rw[<-List.drop_drop,hd];rfl
    have hx:=hr x (List.mem_of_mem_drop (by rw[hd];simp));rw[hd]at hs he;apply hs.BJ rfl (by decide);refine hs.El rfl (by decide) λad z hz hc=>?_;have hz':z=y:=by have:([x,y]:List Int)[1]? =some z:=hz;simpa using this.symm
    subst hz';have hc0:=hc 0 _ rfl;refine aL hc0 ⟨hc0,?_⟩;have e1:gi (List.take 2 (x::z::rest)) 0=x:=rfl;rw[e1];rw[qe,fU]at he;have bad:EI n out x z=true->∀w',Sep No w0 w' (C2 rb ba bn bc ((p+2:Nat):Int)::ak oa on oc 5 1 (flat bp out)::L)->Q none 0 0 (tF lg.a5) w':=λhb w' s'=>by rw[if_pos hb]at he;exact hno he.symm lg.a5 _ w' (.inl rfl) (gH s' (.cons_cons _ (List.sublist_cons_self _ _)))
    by_cases hz0:z=0
    ·rw[ee hz0,cond_true];exact X1 hL s (bad (by unfold EI;rw[ee hz0];rfl))
    rw[cL hz0,cond_false,aH (n:=x),aH,aH];by_cases as3:x+1>(n:Int)-on
    ·rw[bM as3];exact X1 hL s (bad (by unfold EI;rw[decide_eq_true (by omega)];simp))
    rw[bj as3];have go:¬EI n out x z=true->uJ (pR Q (j+1)) Q (sZ rb) n oa on oc (x+1) z w.drew:=λhb=>by
     rw[if_neg hb]at he;refine aQ s λxb w s=>?_;have hX:=adk (ns:=[z]) s (i:=0) rfl;have e2:x+1=(((x+1).toNat:Nat):Int):=by omega
     rw[e2];refine TK s hX (by omega) λra w s _=>?_;have hR:=aG s (i:=0) rfl cZ (by decide);have s:=pk 4 [3,2,0] s;refine aiK (b:=0) s (by omega) (by simp) (by omega) hR λa' c' w s=>?_;refine ih (p+2) a' (on+(x+1).toNat) c' _ w (by omega) (by omega) (by omega) ?_ (gH s (.cons_cons _ (.cons_cons _ (List.sublist_cons_self _ _))));rw[<-E8];exact he
    by_cases hpos:0<on
    ·rw[bM,aH];have hO:=aG s (i:=1) rfl cZ (by decide);apply hO.BJ (k:=on-1) (by omega) (by omega);by_cases hl:gi out (on-1)=z
     ·rw[ee hl,cond_true];exact X1 hL s (bad (by unfold EI;rw[hol,decide_eq_true hpos,ee hl];simp))
     ·rw[cL hl,cond_false];apply go;rw[EI,hol,cL hl,cL hz0,decide_eq_false (by omega)];simp
    ·rw[bj];apply go;rw[EI,hol,cL hz0,decide_eq_false (by omega),decide_eq_false hpos];simp
  ·rw[bj];rw[N4 (by omega)]at he;exact hyes out p he.symm oa on oc w hp s
def am4 {Q:Option Addr->Nat->Nat->Value->World->Prop}(hL:iL w0 lg)(hB:Sl w0 ba bn bc 1 bp bs)(Gb:1<=bn/\bn<=1000000000)(hr:ef bs)(hn:n<=256)(s:Sep No w0 w (C2 rb ba bn bc 1::L))
  (hno:qe n (bs.drop 1) [] 1=none->∀e p' w',(e=lg.a5\/e=lg.a6)->Sep No w0 w' (C2 rb ba bn bc p'::L)->Q none 0 0 (tF e) w')
  (hyes:∀cs used,qe n (bs.drop 1) [] 1=some (cs,used)->∀a m c w',used<=bn->Sep No w0 w' (ak a m c 5 1 (flat bp cs)::C2 rb ba bn bc (used:Nat)::L)->Q a m c .nilIface w'):yw (sZ rb) n w Q:=by
 apply OQ;exact⟨n+1,apX hL hB Gb.2 hr hn hno hyes n 1 none 0 0 [] w (by omega) (Nat.zero_le _) Gb.1 rfl (bH s 5 1)⟩
end
end Go.Proofs.YtmegplnmiepfbaaGreatDoor.S
set_option maxRecDepth 20000
namespace Go.Proofs.YtmegplnmiepfbaaGreatDoor.S
open Go.Sx
attribute [local irreducible] af cD bz bg aA cy b_ St Bx Al App cK cE cB bV aN bG aq bT av ak aW mapA
def aur {bs cs:List Int}{n used:Nat}(hn:1<=n)(hb:∀x∈bs,0<=x/\x<256)(hB:IX n bs=some (cs,used)):cs.length=n/\(∀x∈cs,1<=x/\x<256)/\used<=bs.length:=by
 cases bs with
 |nil=>cases hB
 |cons f r=>
  rw[F5]at hB;split at hB
  ·split at hB
   ·cases hB
   ·rename_i h1;cases hB;obtain⟨x,r',rfl⟩:∃x r',r=x::r':=by
     cases r with
     |nil=>grind
     |cons x r'=>grind
    have hx:=hb x (by simp);refine⟨by simp,λy hy=>?_,by simp⟩;rw[List.mem_replicate]at hy;have h3:y=x:=hy.2;omega
  ·split at hB
   ·grind
   ·split at hB
    ·have:=Te n r [] 1 cs used (λx hx=>hb x (by simp[hx])) (by simp) (by simp) hB;grind
    ·cases hB
section
variable {W w w0:World}{L:List As}{lg:wG}{ba:Option Addr}{bn bc rb:Nat}{bs:List Int}{n:Nat}
def am5 {Q:Option Addr->Nat->Nat->Value->World->Prop}(hL:iL w0 lg)(hB:Sl w0 ba bn bc 1 bp bs)(Gb:bn<=1000000000)(hr:ef bs)(hn:1<=n/\n<=256)(s:Sep No w0 w (C2 rb ba bn bc 0::L))
  (hno:IX n bs=none->∀a m c ns e p' w',(e=lg.a5\/e=lg.a6)->m<=256->Sl w' a m c 1 bp ns->Sep No w0 w' (C2 rb ba bn bc p'::L)->Q a m c (tF e) w')
  (hyes:∀cs used,IX n bs=some (cs,used)->∀a c w',used<=bn->Sl w' a n c 1 bp cs->Sep No w0 w' (C2 rb ba bn bc (used:Nat)::L)->Q a n c .nilIface w'):yq (sZ rb) n w Q:=by
 apply OR;have hbl:=hB.len;have s:=s;refine TL (n:=1) hL hB Gb (Nat.zero_le _) (by decide) s (λh w s=>?_) λh a c w hs s=>?_
 ·have e0:bs=[]:=List.eq_nil_of_length_eq_zero (by omega);exact RP (Bl (hno (by rw[e0];rfl) none 0 0 [] lg.a6 _ w (.inr rfl) (Nat.zero_le _) xl s))
 ·apply ML;obtain⟨f,r,rfl⟩:∃f r,bs=f::r:=by
   cases bs with
   |nil=>grind
   |cons f r=>grind
  apply hs.BJ rfl (by decide);have e1:gi (List.take 1 (List.drop 0 (f::r))) 0=f:=rfl;rw[e1];have s:=s;rw[List.length_cons]at hbl;have hr1:=hr.cons;rw[F5]at hno hyes;by_cases f0:f=0
  ·rw[ee f0,cond_true];rw[if_pos f0]at hno hyes;refine Zo (n:=1) hL hB Gb (by omega) (by decide) s (λh w s=>?_) (λh h0 a c w hs s=>?_) λh h0 a c w hs s=>?_
   ·have er:r=[]:=List.eq_nil_of_length_eq_zero (by omega);refine am2 s (by omega) λra w s _=>Bl ?_;have hA:=aG s (i:=0) rfl cZ (by decide);exact hno (if_pos (.inl er)) ra 0 0 [] lg.a6 _ w (.inr rfl) (Nat.zero_le _) hA (ai s)
   ·obtain⟨x,r',rfl⟩:∃x r',r=x::r':=by
     cases r with
     |nil=>simp at hbl;omega
     |cons x r'=>exact⟨x,r',rfl⟩
    have hx:x=0:=by have:(0:Int)∈[x]:=h0;exact(List.mem_singleton.1 this).symm
    have hs:=hs;refine TK s hs (by omega) λra w s _=>Bl ?_;have hA:=aG s (i:=0) rfl cZ (by decide);exact hno (if_pos (.inr hx)) ra n n _ lg.a5 _ w (.inl rfl) hn.2 hA (ai s)
   ·obtain⟨x,r',rfl⟩:∃x r',r=x::r':=by
     cases r with
     |nil=>simp at hbl;omega
     |cons x r'=>exact⟨x,r',rfl⟩
    have hx:¬x=0:=λe=>h0 (by rw[e];exact List.mem_cons_self ..);have hs:=hs;refine TK s hs (by omega) λra w s _=>?_;have hA:=aG s (i:=0) rfl cZ (by decide);refine hyes _ 2 (if_neg λe=>e.elim (λe=>by cases e) hx) ra n w h hA (ai s)
  rw[cL f0,cond_false];rw[if_neg f0]at hno hyes;by_cases f1:f=1
  ·rw[ee f1,cond_true];rw[if_pos f1]at hno hyes;refine Zo hL hB Gb (by omega) (by omega) s (λh w s=>?_) (λh h0 a c w hs s=>?_) λh h0 a c w hs s=>?_
   ·exact Bl (hno (if_pos (.inl (by omega))) none 0 0 [] lg.a6 _ w (.inr rfl) (Nat.zero_le _) xl s)
   ·exact Bl (hno (if_pos (.inr h0)) a n c _ lg.a5 _ w (.inl rfl) hn.2 hs s)
   ·exact hyes _ (1+n) (if_neg λe=>e.elim (λe=>by omega) h0) a c w h hs s
  rw[cL f1,cond_false];rw[if_neg f1]at hno hyes;by_cases f2:f=2
  ·rw[ee f2,cond_true];rw[if_pos f2]at hno hyes;refine am4 hL hB (by omega) hr hn.2 s (λh e p' w he s=>Bl (hno h none 0 0 [] e p' w he (Nat.zero_le _) xl s)) λcs used h a m c w hu s=>?_;have hA:=aG s (i:=0) rfl cZ (by decide);have hm:=(Te n r [] 1 cs used (λx hx=>hr1.2 x hx) (by simp) (by simp) h).1;have:m=n:=by rw[<-hA.len,hm]
   subst this;exact hyes cs used h a c w hu hA (ai s)
  ·rw[cL f2,cond_false];rw[if_neg f2]at hno;exact X1 hL s λw' s=>hno rfl none 0 0 [] lg.a5 _ w' (.inl rfl) (Nat.zero_le _) xl s
end
section
variable {W w w0:World}{L:List As}{lg:wG}{ba:Option Addr}{bn bc rb:Nat}{bs:List Int}{n:Nat}{tw th:Int}
def abe {p:Nat}{v0 v1 v2:Value}{a b:Int}{c:Option Addr}{d e:Nat}{F:Nat->Prop}{t:TypeId}{K:Int->Int->Option Addr->Nat->Nat->World->Prop}(s:Sep F W w (av p t [v0,v1,v2]::L))(h:∀w',Sep F W w' L->K a b c d e w'):
  St ((aZ p).add 0) (ae a) w λw=>St ((aZ p).add 1) (ae b) w λw=>St ((aZ p).add 2) (.slice c d e) w λw=>af .i64 ((aZ p).add 0) w λa=>af .i64 ((aZ p).add 1) w λb=>aA ((aZ p).add 2) w λc d e=>K a b c d e w:=by
 refine sT s 0 rfl λw s=>?_;refine sT s 0 rfl λw s=>?_;refine ax s (i:=0) rfl rfl rfl λw s=>?_;exact lI s 0 rfl (lI s 0 rfl (lS s 0 rfl (h w (ai s))))
def axg {a b:Addr}(hb:∃c t,w.heap[b.block]? =some (.cells c t (0,0)))(ha:∃c t,w.heap[a.block]? =some (.cells c t (0,0))):∃c:Bool,(c=true↔a=b)/\∀(x y:Operand) (K:Bool->World->Prop),K c w->bV P .eql 74 x y (tF a) (tF b) w K:=by
 by_cases h:a=b
 ·subst h;exact⟨true,by simp,λx y K hk=>Xc hk⟩
 ·obtain⟨c1,t1,h1⟩:=ha;obtain⟨c2,t2,h2⟩:=hb;exact⟨false,by simp[h],λx y K hk=>acZ h h1 h2 hk⟩
def am6 {Q:Int->Int->Option Addr->Nat->Nat->Value->World->Prop}{p':Int}{t6:Nat}{e:Addr}{t:Addr}{v0 v1 v2:Value}(hL:iL w0 lg)(he:e=lg.a5\/e=lg.a6)(s:Sep No w0 w (C2 rb ba bn bc p'::av t6 84 [v0,v1,v2]::L))
  (h:∀fb co w',Sep No w0 w' (av fb 271 [ae p',ae co,tF e]::C2 rb ba bn bc p'::L)->(co=2\/co=3)->Q 0 0 none 0 0 (.iface 268 (.pointer (sZ fb))) w'):
  nh Q (sZ rb) (aZ t6) (tF e) t w:=by
 refine tT (ah (lI s 0 rfl (Bl ?_)));refine aQ s λfb w s=>?_;have k:=hL.fr (au s);apply mW k.v6 rfl;obtain⟨c,hc,hq⟩:=axg (a:=e) k.b6 (by rcases he with rfl|rfl;exact k.b5;exact k.b6);apply arZ hq;cases c with
 |true=>
  refine ax s (i:=0) rfl rfl rfl λw s=>?_;exact abe (pk 3 [2,0,1] s) λw s=>h fb 2 w s (.inl rfl)
 |false=>
  exact abe (pk 3 [2,0,1] s) λw s=>h fb 3 w s (.inr rfl)
def am7 {Q:Int->Int->Option Addr->Nat->Nat->Value->World->Prop}(hL:iL w0 lg)(hB:Sl w0 ba bn bc 1 bp bs)(Gb:bn<=1000000000)(hr:ef bs)(hw:1<=tw/\tw<=16)(hh:1<=th/\th<=16)(hn:(n:Int)=tw*th)(s:Sep No w0 w (C2 rb ba bn bc 0::L))
  (hno:Fw bs n=none->∀fb p' co e w',(co=2\/co=3)->Sep No w0 w' (av fb 271 [ae p',ae co,tF e]::C2 rb ba bn bc p'::L)->Q 0 0 none 0 0 (.iface 268 (.pointer (sZ fb))) w')
  (hyes:∀cs used,Fw bs n=some (cs,used)->∀ta tn tc w',used<=bn->Sep No w0 w' (ak ta tn tc 5 1 (flat bp cs)::C2 rb ba bn bc (used:Nat)::L)->Q tw th ta tn tc .nilIface w'):yp (sZ rb) tw th w Q:=by
 apply OS;have q1:=Int.mul_le_mul hw.1 hh.1 (by decide) (by omega);have q2:=Int.mul_le_mul hw.2 hh.2 (by omega) (by decide);rw[aH,<-hn];refine aV s λt6 w s=>?_;have fail:∀{e:Addr} {t:Addr} {p':Int} {w:World},(e=lg.a5\/e=lg.a6)->Fw bs n=none->Sep No w0 w (C2 rb ba bn bc p'::av t6 84 [ae 0,ae 0,.slice none 0 0]::L)->nh Q (sZ rb) (aZ t6) (tF e) t w:=λhe hg s=>
  am6 hL he s λfb co w' s' Vv=>hno hg fb _ co _ w' Vv s'
 refine am5 hL hB Gb hr (by omega) (jd s) (λhb a m c ns e p' w he hm hA s=>?_) λcs used hb a c w hu hA s=>?_
 ·refine GV s hA (by omega) λra rc w s _=>?_;refine aV s λtb w s=>?_;refine sT s 0 rfl λw s=>?_;refine sT s 0 rfl λw s=>?_;refine sT s 0 rfl λw s=>?_;apply tT;refine fail he ?_ (ai (ai s));rw[Fw,hb]
 ·obtain⟨k1,k2,k3⟩:=aur (by omega) (λx hx=>hr x hx) hb;refine GV s hA (by omega) λra rc w s _=>?_;refine aV s λtb w s=>?_;refine sT s 0 rfl λw s=>?_;refine sT s 0 rfl λw s=>?_;refine ax s (i:=0) rfl rfl rfl λw s=>?_;apply ae8;refine lI s 0 rfl (lI s 0 rfl (lS s 0 rfl ?_));have hC:=aG s (i:=1) rfl cZ (by decide);refine apW s hC (Tl.aap.2 ⟨hw,hh,by omega,λh0=>by grind⟩) (by omega) λg o pn pc w s _=>?_;have s:=ay s;refine ah (lS s 3 rfl (ah (lI s 3 rfl ?_)));refine(hB.fr (au s)).hi rfl hu λb' c' hS=>?_;have hP:=aG s (i:=0) rfl cZ (by decide);apply awe hP hS (aie (λx hx=>by grind) (by omega)) (hr.take used);by_cases e:(uh cs).2=bs.take used
  ·rw[decide_eq_true e,Bool.not_true,cond_false];apply ae8;refine lI s 1 rfl (lI s 1 rfl (lS s 1 rfl ?_));refine abe (pk 5 [4,2,3] s) λw s=>?_;refine hyes cs used ?_ ra n rc w hu s;unfold Fw;grind
  ·rw[decide_eq_false e];have c5:=Fr.cell (au s) hL.v5 id;refine mW c5 rfl (fail (.inl rfl) ?_ (pk 5 [3,4] s));unfold Fw;grind
def ae9 {F:Nat->Prop}{Q:Int->Int->Option Addr->Nat->Nat->Int->Int->World->Prop}(hL:iL w lg)(hB:Sl w ba bn bc 1 bp bs)(Gb:bn<=1000000000)(hr:ef bs)(hw:1<=tw/\tw<=16)(hh:1<=th/\th<=16)(hn:(n:Int)=tw*th)(s0:Sep F W w L)
  (hno:Fw bs n=none->∀co w',(co=2\/co=3)->Sep F W w' L->Fr No w w'->Q 0 0 none 0 0 0 co w')
  (hyes:∀cs used,Fw bs n=some (cs,used)->∀ta tn tc w',used<=bn->Sep F W w' (ak ta tn tc 5 1 (flat bp cs)::L)->Fr No w w'->Q tw th ta tn tc (used:Nat) 0 w'):Ii ba bn bc tw th w Q:=by
 apply ad1;refine aV (bh (F:=No)) λtb w1 s=>?_;rw[bj,bj,bj,bj];refine aQ s λrb w1 s=>?_;have c1:∀{w':World} {L':List As},Sep No w w' L'->w'.cell? (aZ 1)=some (.iface 219 (rt 74)):=λs=>(hL.fr (au s)).v1;refine am7 hL hB Gb hr hw hh hn s (λhg fb p' co e w1 Vv s=>?_) λcs used hg ta tn tc w1 hu s=>?_
 ·refine sT s 2 rfl λw1 s=>?_;refine sT s 2 rfl λw1 s=>?_;refine ax s (i:=2) rfl rfl rfl λw1 s=>?_;refine aV s λf w1 s=>?_;have s:=s;refine ax s (i:=0) rfl rfl rfl λw1 s=>?_;refine Pk.MG s (λw' s'=>c1 s') λw1 s=>?_;have s:=ay s;refine lP s 0 rfl (ah (lI s 1 rfl ?_));refine sT s 3 rfl λw1 s=>?_;refine sT s 3 rfl λw1 s=>?_;refine ax s (i:=3) rfl rfl rfl λw1 s=>?_;refine⟨cm s 1 rfl,cm s 0 rfl,cm s 1 rfl,cm s 0 rfl,?_⟩;refine lI s 3 rfl (lI s 3 rfl (lS s 3 rfl ?_));have s':=ck (L':=[]) [] s rfl (by decide);exact hno hg co w1 Vv (fB s0 s') (au s')
 ·refine sT s 2 rfl λw1 s=>?_;refine sT s 2 rfl λw1 s=>?_;refine ax s (i:=2) rfl rfl rfl λw1 s=>?_;refine aV s λf w1 s=>?_;have s:=s;refine ax s (i:=0) rfl rfl rfl λw1 s=>?_;apply As.nil;have s:=ay s;refine lI s 3 rfl (lI s 3 rfl (lS s 3 rfl ?_));apply lI s 2 rfl;refine sT s 3 rfl λw1 s=>?_;refine sT s 3 rfl λw1 s=>?_;refine ax s (i:=3) rfl rfl rfl λw1 s=>?_;refine⟨cm s 2 rfl,?_⟩;refine lI s 3 rfl (lI s 3 rfl (lS s 3 rfl ?_));have s':=ck (L':=[ak ta tn tc 5 1 (flat bp cs)]) [1] s rfl (by decide);exact hyes cs used hg ta tn tc w1 hu (fB s0 s') (au s')
end
section
variable {w h sc:Int}{M ts:List Int}{y tw p:Nat}
def ajM (hs:dY w h sc)(hM:(M.length:Int)=w*h){c:Nat}(hc:c<M.length):bI w h c:=⟨hs.1,by omega,by omega⟩
def apZ (hs:dY w h sc)(hM:(M.length:Int)=w*h):Fx w h sc M ts 0=M:=by refine PJ Ml λc hc=>?_;rw[Ml]at hc;rw[XK hc,if_neg];rintro ⟨e,h0⟩;have hC:=ajM hs hM hc;have hl:=(ko hC).1;have:=Int.ediv_nonneg hl (b:=aE w h sc) (by have:=(zR hs).1;omega);omega
def ajN (hs:dY w h sc)(Ri:(tw:Int)=aE w h sc)(hy:(y:Int)<bA w h sc)(hp:(p:Int)=bY w h sc (y*aE w h sc)){c:Nat}(hC:bI w h c):
  (aC w h c=sc/\dZ w h c/aE w h sc=y)↔(p<=c/\c<p+tw):=by
 have hz:=zR hs;constructor
 ·rintro ⟨e,e2⟩;have hg:=og hC;have hl:=ko hC;have NJ:=Int.emod_nonneg (dZ w h c) (b:=aE w h sc) (by omega);have Lv:=Int.emod_lt_of_pos (dZ w h c) (b:=aE w h sc) (by omega);have hd:=Int.mul_ediv_add_emod (dZ w h c) (aE w h sc);obtain⟨x,hx⟩:∃x:Nat,dZ w h c%aE w h sc=x:=⟨(dZ w h c%aE w h sc).toNat,by omega⟩;rw[hx]at hd NJ Lv;have:=Iw hs (y:=y) Lv;grind
 ·rintro ⟨h1,h2⟩;have hx:((c-p:Nat):Int)<aE w h sc:=by omega
  have:=Iw hs (y:=y) hx;have ec:bY w h sc (y*aE w h sc+(c-p:Nat))=c:=by omega
  have hl:0<=(y:Int)*aE w h sc+(c-p:Nat)/\(y:Int)*aE w h sc+(c-p:Nat)<aE w h sc*bA w h sc:=by have a:0<=(y:Int)*aE w h sc:=Int.mul_nonneg (by omega) (by omega);have b:((y:Int)+1)*aE w h sc<=bA w h sc*aE w h sc:=Int.mul_le_mul_of_nonneg_right (by omega) (by omega);grind
  have e1:=iY hs hl;have e2:=Gt hs hl;rw[ec]at e1 e2;refine⟨e1,?_⟩;rw[e2];exact(rY ⟨by omega,hx⟩).1
def ar0 (hs:dY w h sc)(hM:(M.length:Int)=w*h)(hts:(ts.length:Int)=aE w h sc*bA w h sc)(Ri:(tw:Int)=aE w h sc)(hy:(y:Int)<bA w h sc)(hp:(p:Int)=bY w h sc (y*aE w h sc))(hpn:p+tw<=M.length):
  (Fx w h sc M ts y).take p++(ts.drop (y*tw)).take tw++(Fx w h sc M ts y).drop (p+tw)=Fx w h sc M ts ((y+1:Nat):Int):=by
 have hyt:y*tw+tw<=ts.length:=by have b:((y:Int)+1)*aE w h sc<=bA w h sc*aE w h sc:=Int.mul_le_mul_of_nonneg_right (by omega) (by omega);grind
 have hl:((Fx w h sc M ts y).take p++(ts.drop (y*tw)).take tw++(Fx w h sc M ts y).drop (p+tw)).length=M.length:=by simp[List.length_append,List.length_take,List.length_drop,Ml];omega
 refine PJ (by rw[hl,Ml]) λc hc=>?_;rw[hl]at hc;have hC:=ajM hs hM hc;have azn:=ajN hs Ri hy hp hC;rw[XK hc];by_cases hin:p<=c/\c<p+tw
 ·obtain⟨e1,e2⟩:=azn.2 hin;have hlr:=ko hC;have hd:=Int.mul_ediv_add_emod (dZ w h c) (aE w h sc);rw[e2]at hd;have hg:=og hC;rw[e1]at hg;have NJ:=Int.emod_nonneg (dZ w h c) (b:=aE w h sc) (by omega);have Lv:=Int.emod_lt_of_pos (dZ w h c) (b:=aE w h sc) (by omega);obtain⟨x,hx⟩:∃x:Nat,dZ w h c%aE w h sc=x:=⟨(dZ w h c%aE w h sc).toNat,by omega⟩;rw[hx]at hd Lv;have hgr:=Iw hs (y:=y) Lv;rw[Int.mul_comm,hd,hg,Int.mul_comm (aE w h sc)]at hgr;unfold gi;grind
 ·have e:(aC w h c=sc/\dZ w h c/aE w h sc<((y+1:Nat):Int))↔(aC w h c=sc/\dZ w h c/aE w h sc<(y:Int)):=by omega
  simp only[e];rw[<-XK hc];unfold gi;grind
end
section
variable {F:Nat->Prop}{W w w0:World}{L:List As}{mw mh sc:Int}{M ts:List Int}{ta:Option Addr}{tn tc g o mn mc:Nat}
def ap0 {Q:World->Prop}(hs:dY mw mh sc)(hM:(M.length:Int)=mw*mh)(hts:(ts.length:Int)=aE mw mh sc*bA mw mh sc)(hT:∀w',Sep F W w' L->Sl w' ta tn tc 1 bp ts)(s:Sep F W w (ak (some ⟨g,o,none⟩) mn mc 5 1 (flat bp M)::L))
  (h:∀w',Sep F W w' (ak (some ⟨g,o,none⟩) mn mc 5 1 (flat bp (aiS mw mh sc M ts))::L)->Q w'):GD mw mh (some ⟨g,o,none⟩) mn mc sc (aE mw mh sc) (bA mw mh sc) ta tn tc w Q:=by
 apply abO;have hz:=zR hs;have hmn:=(aG s (i:=0) rfl cZ (by decide)).len;refine aQ s λmb w s=>?_;refine aQ s λtb w s=>?_;refine lI s 1 rfl (lI s 1 rfl ?_);refine xP s λw s _=>?_;apply lI s 0 rfl;have hz1:0<aE mw mh sc*bA mw mh sc:=Int.mul_pos (by omega) (by omega);have eg:C9 mw mh sc 0=bY mw mh sc 0:=if_pos ⟨hs,by omega,hz1⟩;rw[eg];obtain⟨tw,Ri⟩:∃tw:Nat,(tw:Int)=aE mw mh sc:=⟨(aE mw mh sc).toNat,by omega⟩;obtain⟨th,hth⟩:∃th:Nat,(th:Int)=bA mw mh sc:=⟨(bA mw mh sc).toNat,by omega⟩;have loop:∀(j y:Nat) (w:World),y+j=th->Sep F W w (av tb 84 [ae (aE mw mh sc),ae (bA mw mh sc),.slice ta tn tc]::av mb 25 [ae mw,ae mh,.slice (some ⟨g,o,none⟩) mn mc]::ak (some ⟨g,o,none⟩) mn mc 5 1 (flat bp (Fx mw mh sc M ts y))::L)->
   EX Q (j+1) (aZ mb) (aZ tb) (bY mw mh sc 0) (bA mw mh sc) y w:=by
  intro j;induction j with
  |zero=>
   intro y w hj s;show Ba _ _ _ _ _ _ _ _;rw[Ba,bj];have:(y:Int)=bA mw mh sc:=by omega
   rw[this]at s;exact h w (ai (ai s))
  |succ j ih=>
   intro y w hj s;show Ba _ _ _ _ _ _ _ _;rw[Ba,bM];have s:=ay s;have b1:((y:Int)+1)*aE mw mh sc<=bA mw mh sc*aE mw mh sc:=Int.mul_le_mul_of_nonneg_right (by omega) (by omega);rw[Int.add_mul,Int.one_mul,Int.mul_comm (bA mw mh sc)]at b1;have b2:0<=(y:Int)*aE mw mh sc:=Int.mul_nonneg (by omega) (by omega);have b3:=Int.mul_le_mul hz.1.2 hz.2.1.2 (by omega) (by decide);have hC:=tq hs ⟨b2,by omega⟩;have hC2:=tq hs (l:=y*aE mw mh sc+((tw-1:Nat):Int)) ⟨by omega,by omega⟩;have hrow:=Iw hs (y:=y) (x:=tw-1) (by omega);obtain⟨p,hp⟩:∃p:Nat,(p:Int)=bY mw mh sc (y*aE mw mh sc):=⟨(bY mw mh sc (y*aE mw mh sc)).toNat,by have:=hC.2;omega⟩;have hpn:p+tw<=M.length:=by have:=hC2.2;omega
   have e0:bY mw mh sc 0+(y:Int)*mw=p:=by rw[hp];unfold bY;obtain⟨e3,e4⟩:=rY (w:=aE mw mh sc) (x:=0) (by omega);rw[Int.add_zero]at e3 e4;rw[e3,e4];simp[Int.zero_ediv,Int.zero_emod,Int.add_zero,Int.add_mul];omega
   have hyw:0<=(y:Int)*mw/\(y:Int)*mw<=16*1024:=⟨Int.mul_nonneg (by omega) (by have:=hs.1.1;omega),Int.mul_le_mul (by omega) hs.1.1.2 (by have:=hs.1.1;omega) (by decide)⟩;have hg0:=Jh (tq hs ⟨by omega,hz1⟩);refine lS s 1 rfl (lI s 1 rfl ?_);rw[aH (n:=(y:Int)*mw),aH,e0];have hcap:=Sa s (i:=2) rfl;apply PI rfl (by omega);rw[fU];refine lS s 0 rfl (lI s 0 rfl (lI s 0 rfl ?_));rw[F_ (by omega),aH,wrap_i64 (by push_cast;rw[Int.add_mul];omega) (by push_cast;rw[Int.add_mul];omega)];have hTs:=hT _ (ai (ai (ai s)));have Rh:=hTs.len;have ey:((y*tw:Nat):Int)=(y:Int)*aE mw mh sc:=by push_cast;rw[Ri]
   refine hTs.mid (q:=y*tw+tw) ey.symm (by push_cast;rw[Int.add_mul,Ri];omega) (by omega) (by omega) λa n' c' en hS=>?_;have en:n'=tw:=by omega
   subst en;rw[show y*n'+n'-y*n'=n' by omega]at hS;refine Fa (p:=p) dU s rfl rfl rfl rfl (by decide) (i:=2) rfl (hS.src (e:=5) cZ Bo) (by omega) (by simp[Addr.add]<;>omega) λw s=>?_;rw[show min n' (mn-p)=n' by omega]at s;have est:(flat bp (Fx mw mh sc M ts y)).take (p*1)++(flat bp ((ts.drop (y*n')).take n')).take (n'*1)++(flat bp (Fx mw mh sc M ts y)).drop ((p+n')*1)=flat bp (Fx mw mh sc M ts ((y+1:Nat):Int)):=by rw[<-ar0 hs hM hts Ri (by omega) hp hpn];simp[ZE,Nat.mul_one,List.map_append,List.map_take,List.map_drop];rw[List.take_take,Nat.min_self]
   rw[est]at s;exact ih (y+1) w (by omega) s
 have s:=s;rw[<-apZ hs hM]at s;exact⟨th+1,loop th 0 _ (by omega) s⟩
end
structure EP (bs:List Int):Prop where
 len:4<=bs.length
 wh:iS (BT bs) (BU bs)
 tail:∀bs' M,rE (BT bs) (BU bs) (eM (BT bs) (BU bs)).toNat 0 (bs.drop 4) (List.replicate (BT bs*BU bs).toNat 0)=some (bs',M)->bs'=[]
def EP.get {bs:List Int}(h:EP bs):lz bs=(rE (BT bs) (BU bs) (eM (BT bs) (BU bs)).toNat 0 (bs.drop 4) (List.replicate (BT bs*BU bs).toNat 0)).map λq=>⟨BT bs,BU bs,q.2⟩:=by
 rw[lz,if_neg (by have:=h.len;omega),if_pos h.wh];split
 ·rename_i bs' M hT;rw[hT,h.tail _ _ hT,if_pos rfl];rfl
 grind
def azo:zc T 25=[ae 0,ae 0,.slice none 0 0]:=rfl
def abf {w:World}{mw mh:Int}{Q:Int->World->Prop}(hm:iS mw mh)(h:Q (eM mw mh) w):Fh mw mh w Q:=by apply ZU;apply q8;have:=gS hm.1 hm.2;unfold aao ael;rw[if_pos hm,if_pos hm];unfold eM at h this;rw[aH];exact h
def _root_.Go.Sx.Sl.Elf {α:Type}{w0:World}{a:Option Addr}{n c size k:Nat}{f:α->List Value}{xs:List α}{idx:Int}{K:Addr->Prop}(h:Sl w0 a n c size f xs)(hk:idx=k)(hn:k<n)
  (hK:∀p x,xs[k]? =some x->(∀w,Fr No w0 w->∀j v,(f x)[j]? =some v->w.cell? ((p.add (idx.toNat*size)).add j)=some v)->K p):aJ idx n (wA a K):=
 h.El hk hn λp x hx hc=>hK p x hx λw fr j v hv=>Fr.cell fr (hc j v hv) id
section
variable {W w w0:World}{L:List As}{lg:wG}{ba:Option Addr}{bn bc:Nat}{bs:List Int}
def ap1 {Q:Int->Int->Option Addr->Nat->Nat->Value->World->Prop}{mw mh:Int}{mb p2 g o mn mc N:Nat}(hL:iL w0 lg)(hm:iS mw mh)(hN:(N:Int)=eM mw mh){R:Option (List Int×List Int)}(axh:∀bs' M,R=some (bs',M)->bs'=[])
  (hno:R=none->∀tb i co w',Sep No w0 w' (av tb 242 [ae i,.iface 187 (ae co)]::[])->(co=2\/co=3)->Q 0 0 none 0 0 (.iface 240 (.pointer (sZ tb))) w')
  (hyes:∀M,R=some ([],M)->∀w',Sep No w0 w' (ak (some ⟨g,o,none⟩) mn mc 5 1 (flat bp M)::[])->Q mw mh (some ⟨g,o,none⟩) mn mc .nilIface w'):
  ∀(j i:Nat) (a:Option Addr) (n c:Nat) (bs M:List Int) (w:World),i+j=N->Sl w0 a n c 1 bp bs->n<=1000000000->ef bs->(M.length:Int)=mw*mh->rE mw mh j i bs M=R->Sep No w0 w (av mb 25 [ae mw,ae mh,.slice (some ⟨g,o,none⟩) mn mc]::av p2 25 [ae 0,ae 0,.slice none 0 0]::ak (some ⟨g,o,none⟩) mn mc 5 1 (flat bp M)::[])->
   Di Q (j+1) a n c (aZ p2) (aZ mb) (eM mw mh) i w:=by
 have tV:=gS hm.1 hm.2;intro j;induction j with
 |zero=>
  intro i a n c bs M w hj hB hn hr hM hR s;show zA _ _ _ _ _ _ _ _ _ _;rw[zA,bj];have hR:some (bs,M)=R:=hR;have hb:=axh bs M hR.symm;have hbl:=hB.len;rw[bj (by grind)];refine lI s 0 rfl (lI s 0 rfl (lS s 0 rfl ?_));refine abe (ck (L':=[_,_]) [1,2] s rfl (by decide)) λw s=>?_;grind
 |succ j ih=>
  intro i a n c bs M w hj hB hn hr hM hR s;show zA _ _ _ _ _ _ _ _ _ _;rw[zA,bM];have hs:dY mw mh i:=⟨hm,by omega,by omega⟩;have hz:=zR hs;refine lI s 0 rfl (lI s 0 rfl ?_);refine vK s λw s _=>?_;have e1:ZF mw mh i=aE mw mh i:=if_pos hs;have e2:adF mw mh i=bA mw mh i:=if_pos hs;rw[e1,e2];have q1:=Int.mul_le_mul hz.1.1 hz.2.1.1 (by decide) (by omega);rw[rE]at hR;have fr:=au s;refine ae9 (n:=(aE mw mh i*bA mw mh i).toNat) (hL.fr fr) (hB.fr fr) hn hr hz.1 hz.2.1 (by omega) s (λhg co w Vv s _=>?_) λts used hg ta tn tc w hu s _=>?_
  ·rw[hg]at hR;refine aV s λtb w s=>?_;refine sT s 0 rfl λw s=>?_;refine sT s 0 rfl λw s=>?_;refine sT s 0 rfl λw s=>?_;rw[EZ (by omega),cond_true];refine aQ s λeb w s=>?_;refine abe (ck (L':=[_,_]) [3,0] s rfl (by decide)) λw s=>?_;exact hno hR.symm eb i co w s Vv
  ·rw[hg]at hR;obtain⟨t1,t2,t3⟩:=aot (by omega) (λx hx=>hr x hx) hg;refine aV s λtb w s=>?_;refine sT s 0 rfl λw s=>?_;refine sT s 0 rfl λw s=>?_;refine ax s (i:=0) rfl rfl rfl λw s=>?_;refine lI s 2 rfl (lI s 2 rfl (lS s 2 rfl ?_));refine lI s 0 rfl (lI s 0 rfl (lS s 0 rfl ?_));refine ap0 hs hM (by omega) (λw' s'=>aG s' (i:=0) rfl cZ (by decide)) (ck (L':=[ak (some ⟨g,o,none⟩) mn mc 5 1 (flat bp M),ak ta tn tc 5 1 (flat bp ts),_,_]) [4,1,2,3] s rfl (by decide)) λw s=>?_;refine hB.lo rfl hu λa' n' c' en hB'=>?_;rw[F_ (by omega)];refine ih (i+1) a' n' c' _ _ w (by omega) hB' (by omega) (hr.drop used) (by rw[Tf];exact hM) ?_ (ck (L':=[_,_,_]) [2,3,0] s rfl (by decide));exact hR
def am8 {Q:Int->Int->Option Addr->Nat->Nat->Value->World->Prop}(hL:iL w0 lg)(hB:Sl w0 ba bn bc 1 bp bs)(Gb:bn<=1000000000)(hr:ef bs)(hh:EP bs)
  (hno:lz bs=none->∀tb i co w',Sep No w0 w' (av tb 242 [ae i,.iface 187 (ae co)]::[])->(co=2\/co=3)->Q 0 0 none 0 0 (.iface 240 (.pointer (sZ tb))) w')
  (hyes:∀m,lz bs=some m->∀ma mn mc w',Sep No w0 w' (ak ma mn mc 5 1 (flat bp m.cs)::[])->Q m.w m.h ma mn mc .nilIface w'):Ff ba bn bc w0 Q:=by
 apply Z1;have hbl:=hB.len;have h4:=hh.len;refine aV (bh (F:=No)) λp2 w s=>?_;rw[bj];have s:=ay s;refine hB.Elf (k:=0) rfl (by omega) λd0 x0 hx0 c0=>aL (c0 _ (au s) 0 _ rfl) ?_;refine hB.Elf (k:=1) rfl (by omega) λd1 x1 NJ c1=>aL (c1 _ (au s) 0 _ rfl) ?_;refine⟨by decide,?_⟩;refine hB.Elf (k:=2) rfl (by omega) λd2 x2 Lv c2=>aL (c2 _ (au s) 0 _ rfl) ?_;refine hB.Elf (k:=3) rfl (by omega) λd3 x3 hx3 c3=>aL (c3 _ (au s) 0 _ rfl) ?_;refine⟨by decide,?_⟩;have r0:=hr x0 (List.mem_of_getElem? hx0);have r1:=hr x1 (List.mem_of_getElem? NJ);have r2:=hr x2 (List.mem_of_getElem? Lv);have r3:=hr x3 (List.mem_of_getElem? hx3);have eW:BT bs=x0+x1*256:=by rw[BT,<-ac5 hx0,<-ac5 NJ];omega
 have eH:BU bs=x2+x3*256:=by rw[BU,<-ac5 Lv,<-ac5 hx3];omega
 have i1:ior .i64 (IntKind.wrap .i64 x0) (Ca .i64 (IntKind.wrap .i64 x1) 8)=BT bs:=by rw[aH,aH,eW];exact O.aem (k:=8) (by decide) (by omega) r1
 have i2:ior .i64 (IntKind.wrap .i64 x2) (Ca .i64 (IntKind.wrap .i64 x3) 8)=BU bs:=by rw[aH,aH,eH];exact O.aem (k:=8) (by decide) (by omega) r3
 rw[i1,i2];refine aV s λmb w s=>?_;have fr:=au s;refine⟨c3 _ fr 0 _ rfl,c2 _ fr 0 _ rfl,c1 _ fr 0 _ rfl,c0 _ fr 0 _ rfl,?_⟩;have hwh:=nv hh.wh;have tV:=gS hh.wh.1 hh.wh.2;refine sT s 0 rfl λw s=>?_;refine sT s 0 rfl λw s=>?_;refine ax s (i:=0) rfl rfl rfl λw s=>?_;refine lI s 0 rfl (lI s 0 rfl ?_);apply qd;rw[decide_eq_true hh.wh,Bool.not_true,cond_false];refine hB.lo (m:=4) rfl (by omega) λa4 n4 c4 e4 hB4=>?_;refine lI s 0 rfl (lI s 0 rfl ?_);rw[aH];obtain⟨N,hN⟩:∃N:Nat,BT bs*BU bs=N:=⟨(BT bs*BU bs).toNat,by omega⟩;rw[hN];refine tg (bytes:=1) dU s rfl rfl rfl rfl rfl rfl (by decide) cZ rfl (λu hu=>Bo 0 u hu) rfl rfl (Nat.le_refl _) (by omega) (by simp[maxLen];omega) λg w s=>?_;refine ax s (i:=1) rfl rfl rfl λw s=>?_;refine lI s 1 rfl (lI s 1 rfl ?_);apply abf hh.wh;have hg:=hh.get;have e0:(BT bs*BU bs).toNat=N:=by omega
 rw[e0]at hg;have ht:=hh.tail;rw[e0]at ht;refine⟨(eM (BT bs) (BU bs)).toNat+1,ap1 (N:=(eM (BT bs) (BU bs)).toNat) hL hh.wh (by omega) ht (λhR=>hno (by rw[hg,hR];rfl)) (λM hR w' s'=>hyes ⟨BT bs,BU bs,M⟩ (by rw[hg,hR];rfl) _ _ _ w' s') _ 0 a4 n4 c4 (bs.drop 4) (List.replicate N 0) w (by omega) hB4 (by omega) (hr.drop 4) (by rw[List.length_replicate,hN]) rfl (ck (L':=[_,_,_]) [1,2,0] s rfl (by decide))⟩
def adl {F:Nat->Prop}{Q:Int->Int->Option Addr->Nat->Nat->Int->World->Prop}(hL:iL w lg)(hB:Sl w ba bn bc 1 bp bs)(Gb:bn<=1000000000)(hr:ef bs)(hh:EP bs)(s0:Sep F W w L)
  (hno:lz bs=none->∀co w',(co=2\/co=3)->Sep F W w' L->Fr No w w'->Q 0 0 none 0 0 co w')
  (hyes:∀m,lz bs=some m->∀ma mn mc w',Sep F W w' (ak ma mn mc 5 1 (flat bp m.cs)::L)->Fr No w w'->Q m.w m.h ma mn mc 0 w'):Gx ba bn bc w Q:=by
 apply abP;refine aV (bh (F:=No)) λp2 w1 s=>?_;have fr0:=au s;refine am8 (hL.fr fr0) (hB.fr fr0) Gb hr hh (λhg tb i co w1 s' Vv=>?_) λm hg ma mn mc w1 s'=>?_
 ·have s:=fB s s';refine aV s λmb w1 s=>?_;refine sT s 0 rfl λw1 s=>?_;refine sT s 0 rfl λw1 s=>?_;refine sT s 0 rfl λw1 s=>?_;refine aV s λr w1 s=>?_;have s:=s;refine ax s (i:=0) rfl rfl rfl λw1 s=>?_;have s:=ck (L':=[av r 187 [ae 0],av tb 242 [ae i,.iface 187 (ae co)],av p2 25 [ae 0,ae 0,.slice none 0 0]]) [0,2,3] s rfl (by decide);refine At.MG s (λw' s'=>lD s' (i:=0) rfl 1 _ rfl) (λw' s'=>(hL.fr (au s')).v1) λw1 s=>?_;have s:=ay s;apply lI s 0 rfl;refine sT s 2 rfl λw1 s=>?_;refine sT s 2 rfl λw1 s=>?_;refine ax s (i:=2) rfl rfl rfl λw1 s=>?_;refine⟨cm s 0 rfl,?_⟩;refine lI s 2 rfl (lI s 2 rfl (lS s 2 rfl ?_));have s':=ck (L':=[]) [] s rfl (by decide);exact hno hg co w1 Vv (fB s0 s') (au s')
 ·have s:=fB s s';refine aV s λmb w1 s=>?_;refine sT s 0 rfl λw1 s=>?_;refine sT s 0 rfl λw1 s=>?_;refine ax s (i:=0) rfl rfl rfl λw1 s=>?_;refine aV s λr w1 s=>?_;have s:=s;refine ax s (i:=0) rfl rfl rfl λw1 s=>?_;apply As.nil;refine lI s 1 rfl (lI s 1 rfl (lS s 1 rfl ?_));refine abe (ck (L':=[av p2 25 [ae 0,ae 0,.slice none 0 0],ak ma mn mc 5 1 (flat bp m.cs)]) [3,2] s rfl (by decide)) λw1 s=>?_;exact hyes m hg ma mn mc w1 (fB s0 s) (au s)
end
end Go.Proofs.YtmegplnmiepfbaaGreatDoor.S
namespace Go.Proofs.YtmegplnmiepfbaaGreatDoor.S
open Go.Sx
def Xu (q:qf):CY:=match q.o with
 |some m=>⟨m.eL,m.fc,0,0,0,0⟩
 |none=>⟨0,0,0,0,0,0⟩
def qM (q:qf):CY:=(q.past.add (Xu q)).add ⟨0,0,q.sh.b,q.sh.h,q.sh.st,q.sh.ev⟩
def Ah (q:qf):Int:=match q.o with
 |some m=>m.g.ep
 |none=>0
def awf (q:qf):Ue:=⟨[],[],q.sh.b,q.sh.h,q.sh.st,q.sh.ev⟩
def ldP (q:qf)(mp:bJ):qf:=⟨q.k,awf q,some ⟨Ph mp (Ah q),List.replicate (eM mp.w mp.h).toNat 0,0,0,none,0⟩,q.past.add (Xu q)⟩
def OC (q:qf):qf:=⟨q.k,awf q,q.o.map λm=>⟨m.g,m.TB,m.clean,m.eL,none,m.fc⟩,q.past⟩
def edP (q:qf)(c x:Int):qf:=⟨q.k,q.sh,q.o.map λm=>⟨xS m.g c x,m.TB,m.clean,m.eL,m.kept,m.fc⟩,q.past⟩
noncomputable def zZ (q:qf)(t sc:Int):qf:=match q.o with
 |some m=>Hq q m t sc
 |none=>q
noncomputable def Hw (q:qf)(ps:List Hu):qf:=ps.foldl (λq p=>zZ q p.g p.s) q
def gy.ap2 (y:gy):uW y=Xu y.p:=by unfold uW Xu gy.p;cases y.o<;>rfl
def gy.all_eq (y:gy):Xj y=qM y.p:=by unfold Xj qM;rw[y.ap2];rfl
def gy.am9 (y:gy):epO y.o=Ah y.p:=by unfold epO Ah gy.p;cases y.o<;>rfl
def gy.axi (y:gy){x':Bi}{mp:bJ}(h:x'.p=⟨[],[],y.x.b,y.x.h,y.x.st,y.x.ev⟩):(gy.mk y.k x' (some (amO y.o mp)) (y.past.add (uW y))).p=ldP y.p mp:=by
 unfold ldP gy.p;simp only[Option.map_some];congr 1
 ·congr 1;unfold kB.p amO ahw Ol;rw[y.am9];simp only[List.map_replicate];rfl
 ·rw[y.ap2];rfl
def gy.axj (y:gy){x':Bi}{m:kB}(ho:y.o=some m)(h:x'.p=⟨[],[],y.x.b,y.x.h,y.x.st,y.x.ev⟩):(gy.mk y.k x' (some ⟨m.g,m.ms,⟨none,m.f.eL⟩⟩) y.past).p=OC y.p:=by unfold OC gy.p;rw[ho,h];rfl
def gy.aus (y:gy){x':Bi}(ho:y.o=none)(h:x'.p=⟨[],[],y.x.b,y.x.h,y.x.st,y.x.ev⟩):(gy.mk y.k x' none y.past).p=OC y.p:=by unfold OC gy.p;rw[ho,h];rfl
def gy.axk (y:gy){m:kB}(ho:y.o=some m){c x:Int}:(gy.mk y.k y.x (some ⟨xS m.g c x,m.ms,m.f⟩) y.past).p=edP y.p c x:=by unfold edP gy.p;rw[ho];rfl
def MM {y:gy}{m:kB}(ho:y.o=some m):y.p.o=some m.p:=by rw[gy.p,ho];rfl
def Hx {y:gy}{mp:wm}(h:y.p.o=some mp):∃m,y.o=some m/\m.p=mp:=by unfold gy.p at h;simp_all
def field_eq {y:gy}{m:kB}(ho:y.o=some m){t sc:Int}:Hq y.p m.p t sc=zZ y.p t sc:=by rw[zZ,MM ho]
def Br {q:qf}{mp:wm}(h:q.o=some mp)(t sc:Int):∃OD,(zZ q t sc).o=some OD/\OD.g=mp.g:=by rw[zZ,h];exact⟨_,rfl,rfl⟩
def DE:∀(ps:List Hu) {q:qf} {mp:wm},q.o=some mp->∃OD,(Hw q ps).o=some OD/\OD.g=mp.g
 |[],q,mp,h=>⟨mp,h,rfl⟩
 |p::ps,q,mp,h=>by obtain⟨m1,h1,e1⟩:=Br h p.g p.s;obtain⟨m2,h2,e2⟩:=DE ps h1;exact⟨m2,h2,e2.trans e1⟩
structure gz where
 most:Int
 bR:qf
 us:Option rI
structure abg where
 code:Int
 d:Int
 dir:Int
 id:Int
 Hy:List (Int×Int)
 gone:List Int
def qg (c:Int):abg:=⟨c,0,5,-1,[],[]⟩
noncomputable def jc (m:bJ)(us:List aP):List Int:=us.map λu=>kQ m u.goal u.cell
noncomputable def Kx (q:gz)(m:bJ)(y:rI)(o:lA):gz×abg:=
 if o.k=2 then
  if¬bI m.w m.h o.A then(q,qg 7)
  else if o.B<1\/255<o.B then(q,qg 8)
  else if o.B=255/\vQ y.us o.A≠-1 then(q,qg 10)
  else(⟨q.most,edP q.bR o.A o.B,some y⟩,qg 0)
 else if o.k=3 then
  if¬(bI m.w m.h o.A/\bI m.w m.h o.B)then(q,qg 7)
  else if cV m o.A=255 then(q,qg 9)
  else if vS m.w m.h y o.A o.B≠0 then(q,qg (vS m.w m.h y o.A o.B))
  else(⟨q.most,q.bR,some (Pt y o.A o.B)⟩,⟨0,0,5,y.next,[],[]⟩)
 else if o.k=4 then
  match gQ y.us o.A with
  |none=>(q,qg 12)
  |some u=>if¬bI m.w m.h o.B then(q,qg 7)else if u.cell=o.B then(⟨q.most,q.bR,some (lq y o.A)⟩,qg 13)else(⟨q.most,q.bR,some (wo y o.A λu=>⟨u.id,u.cell,o.B⟩)⟩,qg 0)
 else if o.k=5 then
  match gQ y.us o.A with
  |none=>(q,qg 12)
  |some _=>(⟨q.most,q.bR,some (lq y o.A)⟩,qg 0)
 else if o.k=6 then
  if bI m.w m.h o.A/\bI m.w m.h o.B then(⟨q.most,zZ q.bR o.A (cW m o.B),some y⟩,⟨0,D m o.A o.B,kQ m o.A o.B,-1,[],[]⟩)else(q,qg 7)
 else
  (⟨q.most,Hw q.bR (l8 m.w m.h y.us),some (I5 m.w m.h y (jc m y.us))⟩,⟨0,0,5,-1,(cJ m.w m.h [] (y.us.zip (jc m y.us))).2.1,(cJ m.w m.h [] (y.us.zip (jc m y.us))).2.2⟩)
noncomputable def iv (q:gz)(o:lA):gz×abg:=
 if o.k=0\/DY o=false then(q,qg 5)
 else if o.k=1 then
  match lz o.m with
  |none=>(q,qg 6)
  |some mp=>(⟨q.most,ldP q.bR mp,some ⟨q.most,0,[]⟩⟩,qg 0)
 else if o.k=8 then(⟨q.most,OC q.bR,q.us⟩,qg 0)
 else match q.bR.o,q.us with
  |some m,some y=>Kx q m.g.m y o
  |_,_=>(q,qg 4)
end Go.Proofs.YtmegplnmiepfbaaGreatDoor.S
set_option maxRecDepth 20000
namespace Go.Proofs.YtmegplnmiepfbaaGreatDoor.S
open Go.Sx
attribute [local irreducible] af cD bz bg aA cy b_ St Bx Al App cK cE cB bV aN bG aq bT av ak aW mapA
def iiT:P.underlying 207=some (.map 3 3):=by kernel_rfl
def aCD:zc T 211=[ae 0,ae 0,.slice none 0 0]:=rfl
def ar1 (w h:Int)(ms:List (Int×Int))(us:List aP):Prop:=o7 ms/\∀u∈us,fE ms u.id=some (dZ w h u.cell)
structure ajP (m:bJ) (us:List aP) (ms:List (Int×Int)):Prop where
 k:o7 ms
 v:∀u∈us,∀d,fE ms u.id=some d->d=kQ m u.goal u.cell
section
variable {W w w0:World}{L:List As}{r:AS}{y:gy}{lg:wG}{la:Option Addr}{ln lc sp lb db:Nat}{us:List aP}{v0 v2:Value}{g:iD}{loc:List (Int×Int)}
def ids_eq {us:List aP}(h:(us.map (·.id)).Pairwise (·<·)){u v:aP}(hu:u∈us)(hv:v∈us)(e:u.id=v.id):u=v:=by obtain⟨i,hi⟩:=List.mem_iff_getElem?.1 hu;obtain⟨j,hj⟩:=List.mem_iff_getElem?.1 hv;have h1:=XZ h hi;have h2:=XZ h hj;grind
noncomputable abbrev Gc (sp:Nat)(v0:Value)(np:Nat)(v2:Value):As:=av sp 72 [v0,.pointer (sZ np),v2]
def ar2 {vw:Option Addr->Option Addr->Nat->Nat->Option Nat->Option Nat->Option Addr->Nat->Nat->Int->Int->World->Prop}{Q:Option Addr->Nat->Nat->Value->World->Prop}{s0:Option Addr}{fb:Nat}{ia pa ra:Option Addr}{iN ic pn pc rn rc i:Nat}{ids:List Int}{d0:Value}{t sc:Int}
  (hmay:cF g.m)(hm:mY g.m.w g.m.h us)(hL:ar1 g.m.w g.m.h loc us)(hs:dY g.m.w g.m.h sc)(ht:bI g.m.w g.m.h t)(Kl:∀x∈ids,∃u∈us,u.id=x/\u.goal=t/\aC g.m.w g.m.h u.cell=sc)(Hz:∀u∈us,iK u.id)(hi:i<=1000000)(hiN:iN<=1000000)
  (hI:∀w',Sep No W w' L->Sl w' ia iN ic 1 one ids)(hR:∀w',Sep No W w' L->Sl w' ra rn rc 1 one (C0 g.m t sc))(hF:∀w',Sep No W w' L->sy w' fb [d0,.slice ra rn rc])
  {dm0:List (Int×Int)}(next:∀Kv w',ajP g.m us Kv->(∀x,(fE dm0 x).isSome=true->(fE Kv x).isSome=true)->(∀x∈ids,(fE Kv x).isSome=true)->Sep No W w' (fR fA vI lb loc::fR fA vI db Kv::L)->vw s0 la ln lc (some lb) (some db) pa pn pc (pn:Int) ((i+1:Nat):Int) w')
  :∀(j k:Nat) (dm:List (Int×Int)) (w:World),k+j=iN->ajP g.m us dm->(∀x,(fE dm0 x).isSome=true->(fE dm x).isSome=true)->(∀x∈ids.take k,(fE dm x).isSome=true)->Sep No W w (fR fA vI lb loc::fR fA vI db dm::L)->
   sV vw Q (j+1) s0 la ln lc (some lb) (some db) (aZ fb) pa pn pc (pn:Int) i ia iN ic (iN:Int) k w:=by
 intro j;induction j with
 |zero=>
  intro k dm w hj hD FI hk s;show oO vw Q _ _ _ _ _ _ _ _ _ _ _ _ _ _ _ _ _ _ _;rw[oO,bj,F_ (by omega)];have hl:=(hI w (ai (ai s))).len;grind
 |succ j ih=>
  intro k dm w hj hD FI hk s;show oO vw Q _ _ _ _ _ _ _ _ _ _ _ _ _ _ _ _ _ _ _;rw[oO,bM];have sL:=ai (ai s);have hIw:=hI w sL;have hl:=hIw.len;apply hIw.ql rfl (by omega);have hx:=h_ (l:=ids) (i:=k) (by omega);obtain⟨u,hu,e1,e2,e3⟩:=Kl _ (List.mem_of_getElem? hx);have yH:ids.take (k+1)=ids.take k++[gi ids k]:=by rw[List.take_add_one,hx];rfl
  generalize gi ids k=x at*;subst e1;have Er:=hm.at_ u hu;have h64:=Hz u hu;have hlr:=ko Er.1;have WE:=og Er.1;rw[e3]at hlr WE;apply dz (hF w sL 1 _ rfl);refine E3 (K:=fA) iiT (acR w) s (i:=0) rfl hL.1 h64 (λhn=>by rw[hL.2 u hu]at hn;cases hn) λz hz=>?_;rw[hL.2 u hu]at hz;cases hz;apply ab_;have hRw:=hR w sL;have hrl:=hRw.len;have hfl:(C0 g.m t sc).length=(aE g.m.w g.m.h sc*bA g.m.w g.m.h sc).toNat:=by unfold C0 oe;have:=CQ (m:=g.m) (sc:=sc);rw[List.length_map,List.length_range];omega
  apply hRw.ql (k:=(dZ g.m.w g.m.h u.cell).toNat) (by omega) (by omega);rw[asV hmay hs ht hlr,WE,F_ (by omega)];refine Mx (x:=u.id) iiT s (i:=1) rfl hD.k h64 λKv w hk' EL _ s=>?_;refine ih (k+1) Kv w (by omega) ⟨hk',λv hv d hd=>?_⟩ (λx hx=>?_) (λx hx=>?_) s
  ·rw[EL]at hd;split at hd
   ·rename_i e;have:=ids_eq hm.ids hv hu e;subst this;cases hd;rw[<-e2]
   ·exact hD.v v hv d hd
  ·rw[EL];split
   ·rfl
   ·exact FI x hx
  ·rw[yH]at hx;rw[EL];split
   ·rfl
   ·rename_i hne;rcases List.mem_append.1 hx with hx|hx
    ·exact hk x hx
    ·exact(hne (List.mem_singleton.1 hx)).elim
end
def ajQ {s d:Int}{N:Nat}:∀{l:List (Int×List Int)},(∀p∈l,p.2.length<=N)->∀p∈zY s d l,p.2.length<=N+1
 |[],_,p,hp=>by simp[zY,List.mem_singleton]at hp;grind
 |q::l,h,p,hp=>by
  have h0:=h q (List.mem_cons_self ..);rw[zY]at hp;split at hp
  ·grind
  ·rcases List.mem_cons.1 hp with rfl|hp
   ·omega
   ·exact ajQ (λp hp=>h p (List.mem_cons_of_mem _ hp)) p hp
def ajR {g s d:Int}{N:Nat}:∀{st:AZ},(∀q∈st,∀p∈q.2,p.2.length<=N)->∀q∈qA g s d st,∀p∈q.2,p.2.length<=N+1
 |[],_,q,hq,p,hp=>by simp[qA,List.mem_singleton]at hq;grind
 |z::st,h,q,hq,p,hp=>by
  rw[qA]at hq;split at hq
  ·rcases List.mem_cons.1 hq with rfl|hq
   ·exact ajQ (h z (List.mem_cons_self ..)) p hp
   grind
  ·rcases List.mem_cons.1 hq with rfl|hq
   ·grind
   ·exact ajR (λq hq=>h q (List.mem_cons_of_mem _ hq)) q hq p hp
def aut {w h:Int}{us:List aP}{ps:List Bj}{p:Bj}(hps:ps.map MK=l8 w h us)(hp:p∈ps):p.ids.length<=us.length:=by
 have key:∀(us:List aP) (st:AZ) (N:Nat),(∀q∈st,∀p∈q.2,p.2.length<=N)->∀q∈us.foldl (TF w h) st,∀p∈q.2,p.2.length<=N+us.length:=by
  intro us;induction us with
  |nil=>simp_all
  |cons u us ih=>
   intro st N h;have:=ih _ _ (ajR (g:=u.goal) (s:=aC w ‹Int› u.cell) (d:=u.id) h);rw[List.length_cons];intro q hq p hp;have:=this q hq p hp;omega
 have h1:MK p∈l8 w h us:=by grind
 obtain⟨q,hq,h2⟩:=List.mem_flatMap.1 h1;obtain⟨z,hz,e⟩:=List.mem_map.1 h2;have h3:=key us [] 0 (λq hq=>by cases hq) q hq z hz;have e2:z.2=p.ids:=congrArg Hu.ids e;grind
section
variable {W w w0:World}{L:List As}{r:AS}{y:gy}{lg:wG}{la:Option Addr}{ln lc sp lb db:Nat}{us:List aP}{v0 v2:Value}{g:iD}{loc:List (Int×Int)}
def ajS {F:Nat->Prop}{ps:List Bj}{p:Bj}{i:Nat}(s:Sep F W w (A0 ps::L))(hp:ps[i]? =some p):Sl w p.q.a p.q.n p.q.c 1 one p.ids:=by have s:=(gR s).2;exact aG s (i:=i) (by rw[List.getElem?_append_left (by grind),List.getElem?_map,hp];rfl) bX (by decide)
def ar3 {Q:Option Addr->Nat->Nat->Value->World->Prop}{dm:List (Int×Int)}{L':List As}(hm:mY g.m.w g.m.h us)(Hz:∀u∈us,iK u.id)(qu:ln<=1000000)(hD:ajP g.m us dm)(hall:∀u∈us,(fE dm u.id).isSome=true)(hU:∀w',Sep No W w' L'->Sl w' la ln lc 3 gN us)
  (h:∀da dn dc w',Sep No W w' (ak da dn dc 3 1 (flat one (jc g.m us))::L')->Q da dn dc .nilIface w'):
  ∀(j i:Nat) (oa:Option Addr) (on oc:Nat) (w:World),i+j=ln->on<=i->Sep No W w (ak oa on oc 3 1 (flat one (jc g.m (us.take i)))::fR fA vI db dm::L')->
   sW Q (j+1) (some db) oa on oc la ln lc (ln:Int) i w:=by
 intro j;induction j with
 |zero=>
  intro i oa on oc w hj CN s;show oQ _ _ _ _ _ _ _ _ _ _ _ _;rw[oQ,bj];have hl:=(hU w (ai (ai s))).len;rw[List.take_of_length_le (by omega)]at s;exact h oa on oc w (gH s (.cons_cons _ (List.sublist_cons_self _ _)))
 |succ j ih=>
  intro i oa on oc w hj CN s;show oQ _ _ _ _ _ _ _ _ _ _ _ _;rw[oQ,bM];refine(hU w (ai (ai s))).El rfl (by omega) λp u hu hc=>?_;have hmem:=List.mem_of_getElem? hu;refine Xp hc s λub w s=>?_;apply lI s 0 rfl;refine E3 (K:=fA) iiT (acR w) s (i:=2) rfl hD.k (Hz u hmem) (λhn=>by grind) λd hd=>?_;apply ab_;rw[hD.v u hmem d hd,F_ (by omega)];have s:=ai s;refine L_ s (by omega) λa' c' w s=>?_;apply ih (i+1) a' (on+1) c' w (by omega) (by omega);have yH:us.take (i+1)=us.take i++[u]:=by rw[List.take_add_one,hu];rfl
  unfold jc at s⊢;grind
def ar4 {Q:Option Addr->Nat->Nat->Value->World->Prop}{ps:List Bj}{pa:Option Addr}{pn pc:Nat}(hLd:iL W lg)(hmay:cF g.m)(hm:mY g.m.w g.m.h us)(Hz:∀u∈us,iK u.id)(qu:ln<=100000)(azq:ar1 g.m.w g.m.h loc us)(hps:ps.map MK=l8 g.m.w g.m.h us)(hU:∀w',Sep No W w' L->Sl w' la ln lc 3 gN us)
  (h:∀r' y' da dn dc w',r'.p=r.p->y'.p=Hw y.p (l8 g.m.w g.m.h us)->Sep No W w' (ak da dn dc 3 1 (flat one (jc g.m us))::iq r' y'::Gc sp v0 r.p v2::L)->Q da dn dc .nilIface w'):
  ∀(j i:Nat) (r':AS) (y':gy) (m':kB) (dm:List (Int×Int)) (w:World),i+j=pn->r'.p=r.p->y'.p=Hw y.p ((l8 g.m.w g.m.h us).take i)->y'.o=some m'->m'.g=g->ajP g.m us dm->(∀p∈ps.take i,∀x∈p.ids,(fE dm x).isSome=true)->
   Sep No W w (iq r' y'::Gc sp v0 r.p v2::fR fA vI lb loc::fR fA vI db dm::ak pa pn pc 211 3 (flat yW ps)::A0 ps::L)->
   oS Q (j+1) (sZ sp) la ln lc (some lb) (some db) pa pn pc (pn:Int) i w:=by
 have I9:=agf g.m.w g.m.h us;have aCE:ps.length=(l8 g.m.w g.m.h us).length:=by grind
 intro j;induction j with
 |zero=>
  intro i r' y' m' dm w hj er ey ho eg hD hd s;show oR _ _ _ _ _ _ _ _ _ _ _ _ _ _;rw[oR,bj];have hpn:=(aG s (i:=4) rfl uZ (by decide)).len;rw[List.take_of_length_le (by omega)]at ey hd;have hUw:=hU w (ai (ai (ai (ai (ai (ai s))))));have s:=pk 6 [3,0,1] s;have s:=bH s 3 1;refine⟨ln+1,ar3 (L':=iq r' y'::Gc sp v0 r.p v2::L) hm Hz (by omega) hD (λu hu=>?_) (λw' s'=>hU w' (ai (ai s'))) (λda dn dc w' s'=>h r' y' da dn dc w' er ey s') ln 0 none 0 0 w (by omega) (Nat.zero_le _) s⟩;obtain⟨p,hp,_,_,hx⟩:=Xs.2 ⟨u,hu,rfl,rfl,rfl⟩;rw[<-hps]at hp;obtain⟨q,hq,rfl⟩:=List.mem_map.1 hp;exact hd q hq u.id hx
 |succ j ih=>
  intro i r' y' m' dm w hj er ey ho eg hD hd s;show oR _ _ _ _ _ _ _ _ _ _ _ _ _ _;rw[oR,bM];have hP:=aG s (i:=4) rfl uZ (by decide);have hpn:=hP.len;have hul:=(hU w (ai (ai (ai (ai (ai (ai s))))))).len;refine hP.El rfl (by omega) λad p hp hc=>?_;have hmem:=List.mem_of_getElem? hp;have htr:(l8 g.m.w g.m.h us)[i]? =some (MK p):=by rw[<-hps,List.getElem?_map,hp];rfl
  have yH:(l8 g.m.w g.m.h us).take (i+1)=(l8 g.m.w g.m.h us).take i++[MK p]:=by rw[List.take_add_one,htr];rfl
  have azr:ps.take (i+1)=ps.take i++[p]:=by rw[List.take_add_one,hp];rfl
  obtain⟨u0,hu0,e1,e2⟩:=amY (List.mem_of_getElem? htr);have Er:=hm.at_ u0 hu0;have ht:bI g.m.w g.m.h p.g:=by rw[<-show u0.goal=p.g from e1];exact Er.2
  have hs:dY g.m.w g.m.h p.s:=by rw[<-show aC g.m.w g.m.h u0.cell=p.s from e2];exact bU Er.1
  have tV:=gS hm.wh.1 hm.wh.2;have Ou:Lr.Zg (p.g,p.s):=⟨iK.wf (AT ht),iK.wf (by have:=hs.2;unfold iK;omega)⟩;have Kl:∀x∈p.ids,∃u∈us,u.id=x/\u.goal=p.g/\aC g.m.w g.m.h u.cell=p.s:=λx hx=>by obtain⟨u,hu,k1,k2,k3⟩:=Xs.1 ⟨MK p,List.mem_of_getElem? htr,rfl,rfl,hx⟩;exact⟨u,hu,k3,k1,k2⟩
  refine aL (hc 0 _ rfl) (aL (hc 1 _ rfl) (dz (hc 2 _ rfl) ?_));refine aV s λpb w s=>?_;refine sT s 0 rfl λw s=>?_;refine sT s 0 rfl λw s=>?_;refine ax s (i:=0) rfl rfl rfl λw s=>?_;have s:=ay s;subst eg;refine ah (lP s 2 rfl (lI s 0 rfl (lI s 0 rfl ?_)));rw[<-er]at s⊢;have fin:∀{r2:AS} {y2:gy} {da ra:Option Addr} {dc rc fb:Nat} {w:World},r2.p=r'.p->y2.p=Hq y'.p m'.p p.g p.s->
    Sep No W w (av fb 213 [.slice da (dQ m'.g.m p.s).length dc,.slice ra (dQ m'.g.m p.s).length rc]::ak ra (dQ m'.g.m p.s).length rc 3 1 (flat one (C0 m'.g.m p.g p.s))::ak da (dQ m'.g.m p.s).length dc 3 1 (flat one (Ho m'.g.m p.g p.s))::iq r2 y2::av pb 211 [ae p.g,ae p.s,.slice p.q.a p.q.n p.q.c]::Gc sp v0 r'.p v2::fR fA vI lb loc::fR fA vI db dm::ak pa pn pc 211 3 (flat yW ps)::A0 ps::L)->
    oP (oS Q (j+1)) Q (sZ sp) la ln lc (some lb) (some db) (aZ pb) (aZ fb) 0 pa pn pc (pn:Int) i w:=λ{r2 y2 da ra dc rc fb w} er2 Xv s=>by
   unfold oP;apply lS s 4 rfl;have hI0:=ajS (pk 10 [9] s) hp;have Jc:=hI0.len;have wE:p.q.n<=1000000:=by rw[<-Jc];exact Nat.le_trans (aut hps hmem) (by omega)
   have s:=pk 10 [6,7,0,1,9,8,3,5] s;obtain⟨m2,ho2,em2⟩:=Hx (by rw[Xv];rfl);have eg2:m2.g=m'.g:=by have:=congrArg wm.g em2;exact this
   refine⟨p.q.n+1,ar2
    hmay hm azq hs ht Kl Hz (by omega) wE (λw' s'=>ajS (ai (ai s')) hp) (λw' s'=>aG s' (i:=1) rfl bX (by decide)) (λw' s'=>lD s' (i:=0) rfl) (λKv w' hD' h0 h1 s'=>?_) p.q.n 0 dm w (by omega) hD (λx hx=>hx) (λx hx=>by cases hx) s⟩
   refine ih (i+1) r2 y2 m2 Kv w' (by omega) (er2.trans er) ?_ ho2 eg2 hD' (λq hq x hx=>?_) ?_
   ·rw[Xv,yH,field_eq ho,ey];unfold Hw;rw[List.foldl_append];rfl
   ·rw[azr]at hq;rcases List.mem_append.1 hq with hq|hq
    ·exact h0 x (hd q hq x hx)
    ·rw[List.mem_singleton.1 hq]at hx;exact h1 x hx
   ·rw[<-er];exact gg (A:=[_,_,_,_,_,_,_,_]) (B:=[_,_,_,_,_,_]) [6,7,0,1,5,4] s' rfl (by decide)
  constructor
  ·have s:=pk 7 [1,0,2,3,4,5,6] s;refine Ov ho hLd s ht hs Ou λr2 y2 da dc ra rc w er2 Xv s=>?_;refine aV s λfb w s=>?_;refine⟨cm s 4 rfl,cm s 4 rfl,cm s 5 rfl,?_⟩;refine sT s 0 rfl λw s=>?_;refine ax s (i:=0) rfl rfl rfl λw s=>?_;exact fin er2 Xv s
  ·refine aV s λfb w s=>?_;refine⟨cm s 1 rfl,cm s 1 rfl,cm s 3 rfl,?_⟩;have s:=pk 8 [2,0,1,3,4,5,6,7] s;refine Ov ho hLd s ht hs Ou λr2 y2 da dc ra rc w er2 Xv s=>?_;have s:=pk 10 [3,0,1,2,4,5,6,7,8,9] s;refine sT s 0 rfl λw s=>?_;refine ax s (i:=0) rfl rfl rfl λw s=>?_;exact fin er2 Xv s
end
section
variable {W w w0:World}{L:List As}{r:AS}{y:gy}{lg:wG}{la:Option Addr}{ln lc sp:Nat}{us:List aP}{v0 v2:Value}{m:kB}
def ae_ {Q:Option Addr->Nat->Nat->Value->World->Prop}(hLd:iL W lg)(ho:y.o=some m)(hm:mY m.g.m.w m.g.m.h us)(Hz:∀u∈us,iK u.id)(qu:ln<=100000)(hU:∀w',Sep No W w' L->Sl w' la ln lc 3 gN us)(s:Sep No W w (iq r y::Gc sp v0 r.p v2::L))
  (h:∀r' y' da dn dc w',r'.p=r.p->y'.p=Hw y.p (l8 m.g.m.w m.g.m.h us)->Sep No W w' (ak da dn dc 3 1 (flat one (jc m.g.m us))::iq r' y'::Gc sp v0 r.p v2::L)->Q da dn dc .nilIface w'):
  yj (sZ sp) la ln lc w Q:=by
 apply O8;refine ah (lP s 1 rfl ?_);have k:=rF s ho;have hg:=(k.ok.m m ho).g;refine RL s k λw s _=>?_;refine aaQ s 207 fA vI λlb w s=>?_;have azs:∀{us:List aP},ajP m.g.m us []:=⟨List.nodup_nil,λu _ d h=>by cases h⟩;have loop:∀(j i:Nat) (loc:List (Int×Int)) (w:World),i+j=ln->ar1 m.g.m.w m.g.m.h loc (us.take i)->Sep No W w (fR fA vI lb loc::iq r y::Gc sp v0 r.p v2::L)->
   uP Q (j+1) (sZ sp) la ln lc m.g.m.w m.g.m.h (some lb) la ln lc (ln:Int) i w:=by
  intro j;induction j with
  |zero=>
   intro i loc w hj hL s;show pZ _ _ _ _ _ _ _ _ _ _ _ _ _ _ _;rw[pZ,bj];refine aaQ s 207 fA vI λdb w s=>?_;have hUw:=hU w (ai (ai (ai (ai s))));have hl:=hUw.len;rw[List.take_of_length_le (by omega)]at hL;refine abd s hUw (by omega) hm λoa on oc ps w htr s _=>?_;have s:=pk 6 [4,5,3,2,0,1] s;exact⟨on+1,ar4 hLd hg.may hm Hz qu hL htr hU h on 0 r y m [] w (by omega) rfl (by rw[List.take_zero];rfl) ho rfl azs (λp hp=>by cases hp) s⟩
  |succ j ih=>
   intro i loc w hj hL s;show pZ _ _ _ _ _ _ _ _ _ _ _ _ _ _ _;rw[pZ,bM];refine(hU w (ai (ai (ai s)))).El rfl (by omega) λp u hu hc=>?_;have hmem:=List.mem_of_getElem? hu;refine Xp hc s λub w s=>?_;have s:=ay s;refine lI s 0 rfl (lI s 0 rfl ?_);refine tR s λw s _=>⟨cm s 0 rfl,?_⟩;refine Mx iiT s (i:=1) rfl hL.1 (Hz u hmem) λloc' w hk' EL _ s=>?_;rw[F_ (by omega)];refine ih (i+1) loc' w (by omega) ⟨hk',λv hv=>?_⟩ (ai s);have yH:us.take (i+1)=us.take i++[u]:=by rw[List.take_add_one,hu];rfl
   rw[yH]at hv;rw[EL];by_cases e:v.id=u.id
   ·have hvu:v∈us:=by
     rcases List.mem_append.1 hv with hv|hv
     ·exact List.mem_of_mem_take hv
     ·rw[List.mem_singleton.1 hv];exact hmem
    rw[if_pos e,ids_eq hm.ids hvu hmem e]
   ·rw[if_neg e];rcases List.mem_append.1 hv with hv|hv
    ·exact hL.2 v hv
    ·exact(e (by rw[List.mem_singleton.1 hv])).elim
 exact⟨ln+1,loop ln 0 [] w (by omega) ⟨List.nodup_nil,λu hu=>by cases hu⟩ s⟩
end
structure Bm where
 p:Nat
 bR:AS
 cr:CrR
structure vT where
 most:Int
 bR:gy
 cr:Option HT
def vT.p (y:vT):gz:=⟨y.most,y.bR.p,y.cr.map (·.y)⟩
def crV (r:Bm)(o:Option HT):Option Addr:=match o with
 |some _=>sZ r.cr.p
 |none=>none
noncomputable def am_ (r:Bm)(o:Option HT):List As:=match o with
 |some x=>[fY r.cr x]
 |none=>[]
noncomputable abbrev ajT (r:Bm)(y:vT):As:=Gc r.p (ae y.most) r.bR.p (.pointer (crV r y.cr))
noncomputable def axl (r:Bm)(y:vT):List As:=ajT r y::iq r.bR y.bR::am_ r y.cr
structure ajU (y:vT):Prop where
 most:1<=y.most/\y.most<=65536
 no:y.cr=none↔y.bR.o=none
 cr:∀x m,y.cr=some x->y.bR.o=some m->x.w=m.g.m.w/\x.h=m.g.m.h/\x.y.most=y.most
noncomputable def fN (r:Bm)(y:vT):As:=aW (ajU y) (axl r y)
section
variable {F:Nat->Prop}{W w:World}{L:List As}{r:Bm}{y:vT}
def IF (s:Sep F W w (fN r y::L)):ajU y/\Sep F W w (ajT r y::iq r.bR y.bR::(am_ r y.cr++L)):=gR s
def ajV (s:Sep F W w (fN r y::L))(h:y.cr=none):ajU y/\y.bR.o=none/\Sep F W w (Gc r.p (ae y.most) r.bR.p (.pointer none)::iq r.bR y.bR::L):=by obtain⟨ok,s⟩:=IF s;refine⟨ok,ok.no.1 h,?_⟩;unfold ajT am_ crV at s;grind
def vU {x:HT}(s:Sep F W w (fN r y::L))(h:y.cr=some x):ajU y/\(∃m,y.bR.o=some m/\x.w=m.g.m.w/\x.h=m.g.m.h/\x.y.most=y.most)/\Sep F W w (Gc r.p (ae y.most) r.bR.p (.pointer (sZ r.cr.p))::iq r.bR y.bR::fY r.cr x::L):=by
 obtain⟨ok,s⟩:=IF s;refine⟨ok,?_,?_⟩
 ·cases hn:y.bR.o with
  |none=>rw[ok.no.2 hn]at h;cases h
  |some m=>exact⟨m,rfl,ok.cr x m h hn⟩
 ·unfold ajT am_ crV at s;grind
def Ai {most:Int}{n:gy}{x:HT}{m:kB}(s:Sep F W w (Gc r.p (ae most) r.bR.p (.pointer (sZ r.cr.p))::iq r.bR n::fY r.cr x::L))(hm:1<=most/\most<=65536)(ho:n.o=some m)(hx:x.w=m.g.m.w/\x.h=m.g.m.h/\x.y.most=most):Sep F W w (fN r ⟨most,n,some x⟩::L):=by
 refine dD s ⟨hm,⟨(λe=>by cases e),λe=>?_⟩,λx' m' ex em=>?_⟩
 all_goals grind
def agn {most:Int}{n:gy}(s:Sep F W w (Gc r.p (ae most) r.bR.p (.pointer none)::iq r.bR n::L))(hm:1<=most/\most<=65536)(ho:n.o=none):Sep F W w (fN r ⟨most,n,none⟩::L):=
 dD s ⟨hm,⟨λ_=>ho,λ_=>rfl⟩,λx' m' ex em=>by cases ex⟩
def Uh {Q:Option Addr->World->Prop}{k most:Int}(hk:1<=k/\k<=100000)(hm:1<=most/\most<=65536)(s:Sep F W w L)
  (h:∀r y w',y.p=⟨most,⟨k,⟨[],[],0,0,0,0⟩,none,⟨0,0,0,0,0,0⟩⟩,none⟩->Sep F W w' (fN r y::L)->Q (sZ r.p) w'):EU k most w Q:=by
 apply agO;rw[bj,bj,bj];refine ahi hk s λnr x w ex s=>?_;refine aQ s λp w s=>?_;refine h ⟨p,nr,⟨0,⟨0,0,none,0,0,[],[]⟩,⟨0,none,0,0,0⟩⟩⟩ ⟨most,⟨k,x,none,⟨0,0,0,0,0,0⟩⟩,none⟩ w ?_ (agn s hm rfl);unfold vT.p gy.p;grind
end
abbrev MN (c:Int):Value:=.iface 108 (ae c)
def HA (lg:wG)(e:Value)(c:Int):Prop:=(c=0/\e=.nilIface)\/(c≠0/\e=MN c)\/(c=5/\e=tF lg.a0)
def adm {lg:wG}{e:Value}{c:Int}{K:Value->Prop}(h:HA lg e c)(k:K e):dV e K:=by rcases h with⟨_,rfl⟩|⟨_,rfl⟩|⟨_,rfl⟩<;>exact k
def ajW {lg:wG}{w:World}{c:Int}{Q:Value->World->Prop}(h:∀e,HA lg e c->Q e w):gw c w Q:=by
 apply Fq;by_cases e:c=0
 ·rw[ee e,cond_true];exact h _ (.inl ⟨e,rfl⟩)
 ·rw[cL e,cond_false];exact h _ (.inr (.inl ⟨e,rfl⟩))
def rH {lg:wG}{c:Int}(h:c≠0):HA lg (MN c) c:=.inr (.inl ⟨h,rfl⟩)
section
variable {W w w0:World}{L:List As}{lg:wG}{r:Bm}{y:vT}{x:HT}{m:kB}{ob:Nat}{kind c:Int}{e:Value}
def aCF:zc T 108=[ae 0]:=rfl
def ana {Q:Int->World->Prop}(hL:iL W lg)(he:HA lg e c)(hc:c≠0)(s:Sep No W w (av ob 80 [ae kind,e]::L))(h:∀w',Sep No W w' (av ob 80 [ae kind,e]::L)->Q c w'):
  Da (.iface 78 (.pointer (sZ ob))) w Q:=by
 apply aek;refine aV s λrb w s=>?_;have k:=hL.fr (au s);apply mW k.v0 rfl;have hv:=lD s (i:=1) rfl 1 _ rfl;rcases he with⟨h0,_⟩|⟨_,rfl⟩|⟨h5,rfl⟩
 ·grind
 ·apply Ty (.inl rfl) (.inr rfl) hv (λx y K hk=>avX (by decide) hk);refine MG s (λw' s'=>lD s' (i:=0) rfl 1 _ rfl) (λw' s'=>(hL.fr (au s')).v1) λw s=>?_;exact lI s 0 rfl (h w (ai s))
 ·apply Ty (.inl rfl) (.inl rfl) hv (λx y K hk=>Xc hk);rw[cond_true,<-h5];exact h w (ai s)
def anb {Q:Value->World->Prop}{a:Option Addr}{n c:Nat}{bs:List Int}(hL:iL W lg)(hB:∀w',Sep No W w' L->Sl w' a n c 1 bp bs)(hn:n<=1000000000)(hr:ef bs)(hh:EP bs)(pC:∀mp,lz bs=some mp->mp.w*mp.h<=1600)(Y8:Ah y.p.bR<1000000000)
  (s:Sep No W w (fN r y::L))(hno:lz bs=none->∀w',Sep No W w' (fN r y::L)->Q (MN 6) w')
  (hyes:∀mp,lz bs=some mp->∀r' y' w',r'.p=r.p->y'.p=⟨y.most,ldP y.p.bR mp,some ⟨y.most,0,[]⟩⟩->Sep No W w' (fN r' y'::L)->Q .nilIface w'):
  yf (sZ r.p) a n c w Q:=by
 apply OT;have ok:=(IF s).1;have hBw:=hB w (ai s);refine adl (hL.fr (au s)) hBw hn hr hh s (λhg co w Vv s _=>?_) λmp hg ma mn mc w s _=>?_
 ·refine aV s λmb w s=>?_;refine sT s 0 rfl λw s=>?_;refine sT s 0 rfl λw s=>?_;refine sT s 0 rfl λw s=>?_;rw[EZ (by omega),cond_true];exact hno hg w (ai s)
 ·have hmay:=afO (λx hx=>hr x hx) hg;refine aV s λmb w s=>?_;refine sT s 0 rfl λw s=>?_;refine sT s 0 rfl λw s=>?_;refine ax s (i:=0) rfl rfl rfl λw s=>?_;rw[xO rfl,cond_false];have s:=ay s;obtain⟨_,so⟩:=IF (pk 3 [2,0,1] s);have so:=so;have s:Sep No W _ (iq r.bR y.bR::ajT r y::av mb 25 [ae mp.w,ae mp.h,.slice ma mn mc]::ak ma mn mc 5 1 (flat bp mp.cs)::L):=
   cu (gH so (.cons_cons _ (.cons_cons _ (List.sublist_append_right _ _)))) (List.Perm.swap _ _ _)
  refine ah (lP s 1 rfl ?_);refine lI s 2 rfl (lI s 2 rfl (lS s 2 rfl ?_));refine ae1 hmay hmay.bytes (pC mp hg) (λw' s'=>aG s' (i:=2) rfl cZ (by decide)) (by rw[y.bR.am9];exact Y8) s λnr x' w er ex s=>?_;have s:=ay s;refine lI s 2 rfl (lI s 2 rfl (ah (lI s 1 rfl ?_)));refine adb ⟨hmay.w,hmay.h⟩ ok.most s λcr ws w s=>?_;refine ah (ax s (i:=2) rfl rfl rfl λw s=>?_);refine ajW (lg:=lg) λe he=>?_;have he:e=.nilIface:=by
   rcases he with⟨_,h⟩|⟨h,_⟩|⟨h,_⟩
   all_goals grind
  subst he;have s:=gg (A:=[_,_,_,_,_]) (B:=[Gc r.p (ae y.most) nr.p (.pointer (sZ cr.p)),_,_]) [2,1,0] s (by rw[er];rfl) (by decide);refine hyes mp hg ⟨r.p,nr,cr⟩ ⟨y.most,_,some ⟨mp.w,mp.h,⟨y.most,0,[]⟩,ws⟩⟩ w rfl ?_ (Ai s ok.most rfl ⟨rfl,rfl,rfl⟩);show gz.mk _ _ _=gz.mk _ _ _;rw[y.bR.axi ex];rfl
def IG {x':HT}{cr:CrR}(ok:ajU y)(hx:x.w=m.g.m.w/\x.h=m.g.m.h/\x.y.most=y.most)(tV:y.cr=some x)(ho:y.bR.o=some m)(hx':x'.w=x.w/\x'.h=x.h/\x'.y.most=x.y.most)(ec:cr.p=r.cr.p)(s:Sep No W w (fY cr x'::Gc r.p (ae y.most) r.bR.p (.pointer (sZ r.cr.p))::iq r.bR y.bR::L)):
  Sep No W w (fN ⟨r.p,r.bR,cr⟩ ⟨y.most,y.bR,some x'⟩::L):=by
 have s:=gg (A:=[_,_,_]) (B:=[Gc r.p (ae y.most) r.bR.p (.pointer (sZ cr.p)),_,_]) [1,2,0] s (by rw[ec];rfl) (by decide);exact Ai s ok.most ho ⟨hx'.1.trans hx.1,hx'.2.1.trans hx.2.1,hx'.2.2.trans hx.2.2⟩
end
def Ll {w:World}{Q:Value->World->Prop}(h:Q .nilIface w):gw 0 w Q:=Fq _ _ _ h
def Lm {w:World}{c:Int}{Q:Value->World->Prop}(hc:c≠0)(h:Q (MN c) w):gw c w Q:=by apply Fq;grind
def ahy {m:bJ}(hm:cF m){c:Int}:cV m c=0↔¬bI m.w m.h c:=by
 constructor
 ·intro h hc;have:=Mj hm hc;omega
 ·intro h;rw[cV,if_neg λe=>h ⟨⟨hm.w,hm.h⟩,e.1,by rw[<-hm.len];exact e.2⟩]
abbrev MO (d dir id:Int)(ma:Option Addr)(mn mc:Nat)(ga:Option Addr)(gn gc:Nat):List Value:=[ae 0,ae d,ae dir,ae id,.slice ma mn mc,.slice ga gn gc,.int .u64 0,.int .u64 0,.int .u64 0,.int .u64 0,.int .u64 0,.int .u64 0]
abbrev DoK (lg:wG)(W:World)(rp:Nat)(ab:Nat)(L:List As)(Q:Value->World->Prop)(q:gz×abg):Prop:=
 ∀r' y' e ma mn mc ga gn gc w',r'.p=rp->y'.p=q.1->HA lg e q.2.code->Sep No W w' (ak ma mn mc 51 2 (flat lu q.2.Hy)::ak ga gn gc 3 1 (flat one q.2.gone)::fN r' y'::av ab 34 (MO q.2.d q.2.dir q.2.id ma mn mc ga gn gc)::L)->Q e w'
section
variable {W w w0:World}{L:List As}{lg:wG}{r:Bm}{y:vT}{x:HT}{m:kB}{ab:Nat}{A B k:Int}{e:Value}{a:Option Addr}{n c:Nat}
def Xw {Q:Value->World->Prop}{q:gz×abg}{r':Bm}{y':vT}(h:DoK lg W r.p ab L Q q)(er:r'.p=r.p)(ey:y'.p=q.1)(he:HA lg e q.2.code)(hm:q.2.Hy=[])(hg:q.2.gone=[])(s:Sep No W w (fN r' y'::av ab 34 (MO q.2.d q.2.dir q.2.id none 0 0 none 0 0)::L)):Q e w:=by have s:=bH (bH s 3 1) 51 2;apply h r' y' e none 0 0 none 0 0 w er ey he;rw[hm,hg];exact s
def ajX {Q:Value->World->Prop}{ob:Nat}{v0 v2 v3:Value}(ho:y.bR.o=some m)(tV:y.cr=some x)(s:Sep No W w (av ob 38 [v0,ae A,v2,v3]::fN r y::L))(h7:¬bI m.g.m.w m.g.m.h A->∀w',Sep No W w' (fN r y::L)->Q (MN 7) w')(h0:bI m.g.m.w m.g.m.h A->∀w',Sep No W w' (fN r y::L)->Q .nilIface w'):
  sO Q (sZ r.p) (aZ ob) w:=by
 have s:=ay s;obtain⟨ok,_,so⟩:=vU (ai s) tV;refine ah (lP so 0 rfl (lI s 0 rfl ?_));have kn:=rF (ai so) ho;have hmay:=(kn.ok.m m ho).g.may;apply ID kn;by_cases hc:bI m.g.m.w m.g.m.h A
 ·rw[cL (λe=>(ahy hmay).1 e hc),cond_false];exact h0 hc _ (ai s)
 ·rw[ee ((ahy hmay).2 hc),cond_true];exact h7 hc _ (ai s)
def akL {Q:Value->World->Prop}(hx:k=2\/k=3->∃x m,y.cr=some x/\y.bR.o=some m)(s:Sep No W w (fN r y::L))
  (h7:∀m,y.bR.o=some m->(k=2/\¬bI m.g.m.w m.g.m.h A)\/(k=3/\¬(bI m.g.m.w m.g.m.h A/\bI m.g.m.w m.g.m.h B))->∀w',Sep No W w' (fN r y::L)->Q (MN 7) w')
  (h0:(∀m,y.bR.o=some m->(k=2->bI m.g.m.w m.g.m.h A)/\(k=3->bI m.g.m.w m.g.m.h A/\bI m.g.m.w m.g.m.h B))->∀w',Sep No W w' (fN r y::L)->Q .nilIface w'):
  wM (sZ r.p) k A B a n c w Q:=by
 apply M1;refine aQ s λob w s=>?_;apply lI s 0 rfl;by_cases k3:k=3
 ·rw[ee k3,cond_true];obtain⟨x,m,tV,ho⟩:=hx (.inr k3);have s:=ay s;obtain⟨ok,_,so⟩:=vU (ai s) tV;refine ah (lP so 0 rfl (lI s 0 rfl ?_));have kn:=rF (ai so) ho;have hmay:=(kn.ok.m m ho).g.may;apply ID kn;by_cases hc:bI m.g.m.w m.g.m.h B
  ·rw[cL (λe=>(ahy hmay).1 e hc),cond_false];refine ajX ho tV s (λhA w s=>h7 m ho (.inr ⟨k3,λe=>hA e.1⟩) w s) λhA w s=>h0 (λm' hm'=>?_) w s;grind
  ·rw[ee ((ahy hmay).2 hc),cond_true];exact h7 m ho (.inr ⟨k3,λe=>hc e.2⟩) _ (ai s)
 rw[cL k3,cond_false];by_cases k2:k=2
 ·rw[ee k2,cond_true];obtain⟨x,m,tV,ho⟩:=hx (.inl k2);refine ajX ho tV s (λhA w s=>h7 m ho (.inl ⟨k2,hA⟩) w s) λhA w s=>h0 (λm' hm'=>?_) w s;grind
 ·rw[cL k2,cond_false];exact h0 (λm' _=>⟨λe=>(k2 e).elim,λe=>(k3 e).elim⟩) _ (ai s)
def ane {Q:Value->World->Prop}(tV:y.cr=some x)(ho:y.bR.o=some m)(hA:bI m.g.m.w m.g.m.h A)(Y8:Ah y.p.bR<1000000000)(s:Sep No W w (fN r y::L))
  (h8:B<1\/255<B->∀w',Sep No W w' (fN r y::L)->Q (MN 8) w')(h10:1<=B/\B<=255->B=255/\vQ x.y.us A≠-1->∀w',Sep No W w' (fN r y::L)->Q (MN 10) w')
  (h0:1<=B/\B<=255->¬(B=255/\vQ x.y.us A≠-1)->∀r' y' w',r'.p=r.p->y'.p=⟨y.most,edP y.p.bR A B,some x.y⟩->Sep No W w' (fN r' y'::L)->Q .nilIface w'):yg (sZ r.p) A B w Q:=by
 apply OU;by_cases b1:B<1
 ·grind
 rw[bj b1];by_cases b2:B>255
 ·grind
 rw[bj b2];have hB:1<=B/\B<=255:=by omega
 obtain⟨ok,⟨m',ho',hx⟩,so⟩:=vU s tV;rw[ho]at ho';cases ho';have ai4:m.g.ep<1000000000:=by have e:=y.bR.am9;rw[ho]at e;have e:m.g.ep=Ah y.p.bR:=e;omega
 have b5:¬(B=255/\vQ x.y.us A≠-1)->uK Q (sZ r.p) A B w:=λhn=>by refine ah (lP so 0 rfl ?_);refine ae0 ho ai4 (jd so) (λe=>(e hA).elim) (λ_ e=>(e hB).elim) λ_ _ w s=>?_;apply Ll;refine h0 hB hn r ⟨y.most,⟨y.bR.k,y.bR.x,some ⟨xS m.g A B,m.ms,m.f⟩,y.bR.past⟩,some x⟩ w rfl ?_ (Ai (pk 3 [1,0,2] s) ok.most rfl hx);show gz.mk _ _ _=gz.mk _ _ _;rw[y.bR.axk ho];rfl
 by_cases azt:B=255
 ·rw[ee azt,cond_true];refine ah (lP so 0 rfl ?_);have hAx:bI x.w x.h A:=by grind
  have hc:=(rG (ai (ai so))).1;apply adf hAx (ai (ai so));rcases aui hc.may (c:=A)with h1|h1
  all_goals grind
 grind
def akM {Q:Int->Value->World->Prop}(tV:y.cr=some x)(ho:y.bR.o=some m)(RN:x.y.next<1000000000)(s:Sep No W w (fN r y::L))
  (h9:cV m.g.m A=255->∀w',Sep No W w' (fN r y::L)->Q (-1) (MN 9) w')
  (Hr:cV m.g.m A≠255->vS m.g.m.w m.g.m.h x.y A B≠0->∀w',Sep No W w' (fN r y::L)->Q (-1) (MN (vS m.g.m.w m.g.m.h x.y A B)) w')
  (h0:cV m.g.m A≠255->vS m.g.m.w m.g.m.h x.y A B=0->∀r' y' w',r'.p=r.p->y'.p=⟨y.most,y.p.bR,some (Pt x.y A B)⟩->Sep No W w' (fN r' y'::L)->Q x.y.next .nilIface w'):wN (sZ r.p) A B w Q:=by
 apply M7;obtain⟨ok,⟨m',ho',hx⟩,so⟩:=vU s tV;rw[ho]at ho';cases ho';refine ah (lP so 0 rfl ?_);apply ID (rF (ai so) ho);by_cases ar5:cV m.g.m A=255
 ·grind
 rw[cL ar5,cond_false];refine ah (lP so 0 rfl ?_);rw[<-hx.1,<-hx.2.1]at Hr h0;refine YT RN (pk 3 [2,0,1] so) (λhne w s=>?_) λhz cr ws w ec s=>?_
 ·apply Lm hne;apply Hr ar5 hne w;have s:=IG ok hx tV ho ⟨rfl,rfl,rfl⟩ rfl s;have e:(⟨y.most,y.bR,some x⟩:vT)=y:=by rw[<-tV]
  simp_all
 ·apply Ll;exact h0 ar5 hz ⟨r.p,r.bR,cr⟩ ⟨y.most,y.bR,some ⟨x.w,x.h,Pt x.y A B,ws⟩⟩ w rfl rfl (IG (x':=⟨x.w,x.h,Pt x.y A B,ws⟩) ok hx tV ho ⟨rfl,rfl,rfl⟩ ec s)
def akN {Q:Value->World->Prop}(hL:iL W lg)(tV:y.cr=some x)(ho:y.bR.o=some m)(Ou:(Lit.int .i64 A).wf=true)(s:Sep No W w (fN r y::av ab 34 (MO 0 5 (-1) none 0 0 none 0 0)::L))
  (Hr:¬(bI m.g.m.w m.g.m.h A/\bI m.g.m.w m.g.m.h B)->∀w',Sep No W w' (fN r y::av ab 34 (MO 0 5 (-1) none 0 0 none 0 0)::L)->Q (MN 7) w')
  (h0:bI m.g.m.w m.g.m.h A->bI m.g.m.w m.g.m.h B->∀r' y' w',r'.p=r.p->y'.p=⟨y.most,zZ y.p.bR A (cW m.g.m B),some x.y⟩->Sep No W w' (fN r' y'::av ab 34 (MO (D m.g.m A B) (kQ m.g.m A B) (-1) none 0 0 none 0 0)::L)->Q .nilIface w'):wO (sZ r.p) (sZ ab) A B w Q:=by
 apply Nj;obtain⟨ok,⟨m',ho',hx⟩,so⟩:=vU s tV;rw[ho]at ho';cases ho';refine ah (lP so 0 rfl ?_);refine ae4 ho hL (jd so) Ou (λhn w s=>?_) λht hc nr ny w er ey s=>?_
 ·apply Lm (by decide);have s:=Ai (pk 3 [1,0,2] s) ok.most ho hx;have e:(⟨y.most,y.bR,some x⟩:vT)=y:=by rw[<-tV]
  rw[e]at s;exact Hr hn w s
 ·rw[ee rfl,cond_true];refine ah (sT s 3 rfl λw s=>ah (ax s (i:=3) rfl rfl rfl λw s=>?_));apply Ll;obtain⟨m2,ho2,em2⟩:=Hx (by rw[ey];rfl);have eg2:m2.g=m.g:=congrArg wm.g em2;have s:=gg (A:=[_,_,_,_]) (B:=[Gc r.p (ae y.most) nr.p (.pointer (sZ r.cr.p)),iq nr ny,fY r.cr x,_]) [1,0,2,3] s (by rw[er];rfl) (by decide);refine h0 ht hc ⟨r.p,nr,r.cr⟩ ⟨y.most,ny,some x⟩ w rfl ?_ (Ai s ok.most ho2 (by grind));show gz.mk _ _ _=gz.mk _ _ _;rw[ey,field_eq ho];rfl
end
def ajY {m:bJ}(hm:cF m){t x:Int}:0<=kQ m t x/\kQ m t x<=5:=by
 by_cases hD:D m t x<cg
 ·by_cases hx:x=t
  ·unfold kQ;omega
  ·have:=(XJ hm hD hx).1;omega
 ·unfold kQ;omega
section
variable {W w w0:World}{L:List As}{lg:wG}{r:Bm}{y:vT}{x:HT}{m:kB}{ab:Nat}{A B k:Int}{e:Value}{a:Option Addr}{n c:Nat}
def anf {Q:Value->World->Prop}(hL:iL W lg)(tV:y.cr=some x)(ho:y.bR.o=some m)(s:Sep No W w (fN r y::av ab 34 (MO 0 5 (-1) none 0 0 none 0 0)::L))
  (h:∀r' y' ma mn mc ga gn gc w',r'.p=r.p->y'.p=⟨y.most,Hw y.p.bR (l8 m.g.m.w m.g.m.h x.y.us),some (I5 m.g.m.w m.g.m.h x.y (jc m.g.m x.y.us))⟩->
   Sep No W w' (ak ma mn mc 51 2 (flat lu (cJ m.g.m.w m.g.m.h [] (x.y.us.zip (jc m.g.m x.y.us))).2.1)::ak ga gn gc 3 1 (flat one (cJ m.g.m.w m.g.m.h [] (x.y.us.zip (jc m.g.m x.y.us))).2.2)::fN r' y'::av ab 34 (MO 0 5 (-1) ma mn mc ga gn gc)::L)->Q .nilIface w'):
  yh (sZ r.p) (sZ ab) w Q:=by
 apply Pb;obtain⟨ok,⟨m',ho',hx⟩,s⟩:=vU s tV;rw[ho]at ho';cases ho';obtain⟨cok,cs⟩:=rG (ai (ai s));have Ek:=(vi (ai cs)).1;have pC:=Ek.n_;have XY:=Ek.most;have RN:=Ek.RA;have as7:=cok.may;rw[hx.1,hx.2.1]at as7;have hmay:=((rF (ai s) ho).ok.m m ho).g.may;have Hz:∀u∈x.y.us,iK u.id:=λu hu=>by have:=Ek.jG u hu;unfold iK;omega
 refine ah (lP s 0 rfl ?_);refine Em (pk 4 [2,0,1,3] s) λua un uc w s=>?_;have hun:=(aG s (i:=0) rfl jM (by decide)).len;have s:=pk 5 [3,2,0,1,4] s;refine ae_ hL ho as7 Hz (by omega) (λw' s'=>aG s' (i:=0) rfl jM (by decide)) s λnr ny da dn dc w er ey s=>?_;apply ML;refine ah (lP s 2 rfl ?_);have s:=pk 6 [4,0,1,2,5] s;refine aba (λw' s'=>aG s' (i:=0) rfl bX (by decide)) (by unfold jc;grind) (λd hd=>?_) s λcr ws ma mn mc ga gn gc w ec s=>?_
 ·obtain⟨u,_,rfl⟩:=List.mem_map.1 hd;exact ajY hmay
 ·refine ah (sT s 6 rfl λw s=>ah (ax s (i:=6) rfl rfl rfl λw s=>?_));apply Ll;obtain⟨m2,ho2,em2⟩:∃m2,ny.o=some m2/\m2.g=m.g:=by obtain⟨OD,h1,h2⟩:=DE (l8 m.g.m.w m.g.m.h x.y.us) (MM ho);rw[<-ey]at h1;obtain⟨m2,ho2,e2⟩:=Hx h1;refine⟨m2,ho2,?_⟩;have:=congrArg wm.g e2;exact this.trans h2
  rw[hx.1,hx.2.1]at s;have s:=gg (A:=[_,_,_,_,_,_,_]) (B:=[Gc r.p (ae y.most) nr.p (.pointer (sZ cr.p)),iq nr ny,fY cr ⟨m.g.m.w,m.g.m.h,I5 m.g.m.w m.g.m.h x.y (jc m.g.m x.y.us),ws⟩,_,_,_]) [5,4,2,0,1,6] s (by rw[er,ec];rfl) (by decide);have s:=Ai (r:=⟨r.p,nr,cr⟩) s ok.most ho2 (by rw[em2];exact⟨rfl,rfl,hx.2.2⟩);refine h ⟨r.p,nr,cr⟩ ⟨y.most,ny,some ⟨m.g.m.w,m.g.m.h,I5 m.g.m.w m.g.m.h x.y (jc m.g.m x.y.us),ws⟩⟩ ma mn mc ga gn gc w rfl ?_ (pk 4 [1,2,0,3] s);show gz.mk _ _ _=gz.mk _ _ _;rw[ey];rfl
def auv {o:lA}(h:DY o=true)(hk:o.k≠0):(1<=o.k/\o.k<=8)/\(0<=o.A/\o.A<4294967296)/\(0<=o.B/\o.B<4294967296):=by
 unfold DY at h;rw[if_neg hk]at h;simp[Bool.and_eq_true]at h;obtain⟨h1,h2,h3,_⟩:=h;have h1:=of_decide_eq_true h1;have hA:=Ib.1 h2;have hB:=Ib.1 h3;have:=aqK o.k;have pw:∀s:Nat,s<=4->(256:Int)^s<=4294967296:=λs hs=>by
  match s,hs with
  |0,_=>decide
  |1,_=>decide
  |2,_=>decide
  |3,_=>decide
  |4,_=>decide
 grind
def ajZ {o:lA}(tV:y.cr=some x)(ho:y.bR.o=some m)(FI:o.k≠0)(hm:DY o=true)(h1:o.k≠1)(h8:o.k≠8):iv y.p o=Kx y.p m.g.m x.y o:=by
 have e1:y.p.bR.o=some m.p:=MM ho;have e2:y.p.us=some x.y:=by show y.cr.map _=_;grind
 rw[iv,if_neg (by grind),if_neg h1,if_neg h8,e1,e2];rfl
def axm {Q:Value->World->Prop}{o:lA}{ob:Nat}(hL:iL W lg)(FI:o.k≠0)(hmay:DY o=true)(hr:ef o.m)(hn:n<=1000000000)(hM:∀w',Sep No W w' L->Sl w' a n c 1 bp o.m)
  (axn:o.k=1->EP o.m/\∀mp,lz o.m=some mp->mp.w*mp.h<=1600)(Y8:Ah y.p.bR<1000000000)(RN:∀u,y.p.us=some u->u.next<1000000000)(tV:o.k≠1->o.k≠8->y.cr≠none)
  (s:Sep No W w (av ob 38 [ae o.k,ae o.A,ae o.B,.slice a n c]::fN r y::av ab 34 (MO 0 5 (-1) none 0 0 none 0 0)::L))(h:DoK lg W r.p ab L Q (iv y.p o)):
  oT Q (sZ r.p) (sZ ab) (aZ ob) w:=by
 obtain⟨hk,hA,hB⟩:=auv hmay FI;have ar6:iK o.A:=by unfold iK;omega
 have ang:o.k≠1->o.k≠8->∃x m,y.cr=some x/\y.bR.o=some m:=λh1 h8=>by
  have hne:=tV h1 h8;cases hc:y.cr with
  |none=>exact(hne hc).elim
  |some x=>
   obtain⟨_,⟨m,hm,_⟩,_⟩:=vU (ai s) hc;exact⟨x,m,rfl,hm⟩
 refine lI s 0 rfl (lI s 0 rfl (lI s 0 rfl (lS s 0 rfl ?_)));have s:=jd s;have b25:∀{e:Value} {cd:Int} {w:World},HA lg e cd->Q e w->fF Q e w:=λhe hq=>by exact adm he hq
 have e0:HA lg .nilIface 0:=.inl ⟨rfl,rfl⟩;have fin:∀{q:gz×abg} {r':Bm} {y':vT} {e:Value} {w:World},iv y.p o=q->r'.p=r.p->y'.p=q.1->HA lg e q.2.code->q.2.Hy=[]->q.2.gone=[]->Sep No W w (fN r' y'::av ob 38 [ae o.k,ae o.A,ae o.B,.slice a n c]::av ab 34 (MO q.2.d q.2.dir q.2.id none 0 0 none 0 0)::L)->fF Q e w:=λ{q r' y' e w} eq er ey he hm hg s=>by subst eq;exact b25 he (Xw h er ey he hm hg (gH s (.cons_cons _ (List.sublist_cons_self _ _))))
 refine akL (λhk=>ang (by omega) (by omega)) s (λm ho hb w s=>?_) λhc w s=>?_
 ·refine RP (adm (lg:=lg) (rH (by decide)) ?_);obtain⟨x,m',hx,hm'⟩:=ang (by omega) (by omega);rw[ho]at hm';cases hm';have e:iv y.p o=(y.p,qg 7):=by
   rw[ajZ hx ho FI hmay (by omega) (by omega)];unfold Kx;rcases hb with⟨k2,hA⟩|⟨k3,hAB⟩
   ·rw[if_pos k2,if_pos hA]
   ·rw[fU,if_pos k3,if_pos hAB]
  rw[e]at h;exact Xw h rfl rfl (rH (by decide)) rfl rfl (gH s (.cons_cons _ (List.sublist_cons_self _ _)))
 apply ML;apply lI s 1 rfl;by_cases k1:o.k=1
 ·rw[ee k1,cond_true];obtain⟨hh,pC⟩:=axn k1;apply lS s 1 rfl;have eq:∀q,(match lz o.m with|none=>(y.p,qg 6)|some mp=>(⟨y.p.most,ldP y.p.bR mp,some ⟨y.p.most,0,[]⟩⟩,qg 0))=q->iv y.p o=q:=λq e=>by rw[iv,if_neg (by rw[hmay];simp[FI]),if_pos k1];exact e
  refine anb hL (λw' s'=>hM w' (ai (ai s'))) hn hr hh pC Y8 s (λhg w s=>?_) λmp hg r' y' w er ey s=>?_
  ·exact fin (q:=(y.p,qg 6)) (eq _ (by rw[hg])) rfl rfl (rH (by decide)) rfl rfl s
  ·exact fin (eq _ (by rw[hg])) er ey e0 rfl rfl s
 rw[cL k1,cond_false];by_cases k8:o.k=8
 ·rw[ee k8,cond_true];have eq:iv y.p o=(⟨y.p.most,OC y.p.bR,y.p.us⟩,qg 0):=by rw[iv,if_neg (by rw[hmay];simp[FI]),if_neg k1,if_pos k8]
  cases DU:y.cr with
  |none=>
   obtain⟨ok,hno,so⟩:=ajV s DU;refine ah (lP so 0 rfl ?_);refine ac3 hno (jd so) λnr x' w er ex s=>?_;have s:=gg (A:=[_,_]) (B:=[Gc r.p (ae y.most) nr.p (.pointer none),_]) [1,0] s (by rw[er];rfl) (by decide);refine fin (r':=⟨r.p,nr,r.cr⟩) (y':=⟨y.most,⟨y.bR.k,x',none,y.bR.past⟩,none⟩) eq rfl ?_ e0 rfl rfl (agn s ok.most rfl);show gz.mk _ _ _=gz.mk _ _ _;rw[y.bR.aus hno ex];show gz.mk _ _ _=gz.mk _ _ (y.cr.map _);rw[DU];rfl
  |some x=>
   obtain⟨ok,⟨m,ho,hx⟩,so⟩:=vU s DU;refine ah (lP so 0 rfl ?_);refine ac2 ho (jd so) λnr x' w er ex s=>?_;have s:=gg (A:=[_,_,_]) (B:=[Gc r.p (ae y.most) nr.p (.pointer (sZ r.cr.p)),_,_]) [1,0,2] s (by rw[er];rfl) (by decide);refine fin (r':=⟨r.p,nr,r.cr⟩) (y':=⟨y.most,⟨y.bR.k,x',some ⟨m.g,m.ms,⟨none,m.f.eL⟩⟩,y.bR.past⟩,some x⟩) eq rfl ?_ e0 rfl rfl (Ai s ok.most rfl hx);show gz.mk _ _ _=gz.mk _ _ _;rw[y.bR.axj ho ex];show gz.mk _ _ _=gz.mk _ _ (y.cr.map _);rw[DU];rfl
 rw[cL k8,cond_false];obtain⟨x,m,DU,ho⟩:=ang k1 k8;have l9:=ajZ DU ho FI hmay k1 k8;have BW:y.p.us=some x.y:=by show y.cr.map _=_;rw[DU];rfl
 have RN:=RN x.y BW;unfold Kx at l9;by_cases k2:o.k=2
 ·rw[ee k2,cond_true];rw[if_pos k2]at l9;have hAc:=(hc m ho).1 k2;rw[if_neg (λe=>e hAc)]at l9;refine lI s 1 rfl (lI s 1 rfl ?_);refine ane DU ho hAc Y8 s (λhb w s=>?_) (λhb hw w s=>?_) λhb hw r' y' w er ey s=>?_
  ·rw[if_pos hb]at l9;exact fin l9 rfl rfl (rH (by decide)) rfl rfl s
  ·rw[fU,if_pos hw]at l9;exact fin l9 rfl rfl (rH (by decide)) rfl rfl s
  ·rw[fU,if_neg hw]at l9;exact fin l9 er ey e0 rfl rfl s
 rw[cL k2,cond_false];rw[if_neg k2]at l9;by_cases k3:o.k=3
 ·rw[ee k3,cond_true];rw[if_pos k3]at l9;have hAc:=(hc m ho).2 k3;rw[if_neg (λe=>e hAc)]at l9;refine lI s 1 rfl (lI s 1 rfl ?_);refine akM DU ho RN s (λh9 w s=>?_) (λh9 hb w s=>?_) λh9 hz r' y' w er ey s=>?_
  ·rw[if_pos h9]at l9;refine ah (sT s 2 rfl λw s=>?_);exact fin l9 rfl rfl (rH (by decide)) rfl rfl s
  ·rw[if_neg h9,if_pos hb]at l9;refine ah (sT s 2 rfl λw s=>?_);exact fin l9 rfl rfl (rH hb) rfl rfl s
  ·rw[if_neg h9,if_neg (λe=>e hz)]at l9;refine ah (sT s 2 rfl λw s=>?_);exact fin l9 er ey e0 rfl rfl s
 rw[cL k3,cond_false];rw[if_neg k3]at l9;obtain⟨ok,⟨m',ho',hx⟩,so⟩:=vU s DU;rw[ho]at ho';cases ho';have same:∀{w:World} {L:List As},Sep No W w (fY r.cr x::Gc r.p (ae y.most) r.bR.p (.pointer (sZ r.cr.p))::iq r.bR y.bR::L)->Sep No W w (fN r y::L):=λs=>by
  have s:=IG ok hx DU ho ⟨rfl,rfl,rfl⟩ rfl s;have e:(⟨y.most,y.bR,some x⟩:vT)=y:=by rw[<-DU]
  rw[e]at s;exact s
 by_cases k4:o.k=4
 ·rw[ee k4,cond_true];rw[if_pos k4]at l9;have so:=ay so;refine ah (lP so 0 rfl (lI so 3 rfl (lI so 3 rfl ?_)));rw[<-hx.1,<-hx.2.1]at l9;refine TE ar6 (pk 3 [2,0,1] so) (λhg w s=>?_) (λu hu hg w s=>?_) (λu hu hg hcg cr ws w ec s=>?_) λu hu hg hcg cr ws w ec s=>?_
  ·rw[hg]at l9;exact Lm (by decide) (fin l9 rfl rfl (rH (by decide)) rfl rfl (same s))
  ·rw[hu]at l9;simp only at l9;rw[if_pos hg]at l9;exact Lm (by decide) (fin l9 rfl rfl (rH (by decide)) rfl rfl (same s))
  ·rw[hu]at l9;simp only at l9;rw[if_neg (λe=>e hg),if_pos hcg]at l9;exact Lm (by decide) (fin (r':=⟨r.p,r.bR,cr⟩) l9 rfl rfl (rH (by decide)) rfl rfl (IG (x':=⟨x.w,x.h,lq x.y o.A,ws⟩) ok hx DU ho ⟨rfl,rfl,rfl⟩ ec s))
  ·rw[hu]at l9;simp only at l9;rw[if_neg (λe=>e hg),if_neg hcg]at l9;exact Ll (fin (r':=⟨r.p,r.bR,cr⟩) l9 rfl rfl e0 rfl rfl (IG (x':=⟨x.w,x.h,wo x.y o.A λu=>⟨u.id,u.cell,o.B⟩,ws⟩) ok hx DU ho ⟨rfl,rfl,rfl⟩ ec s))
 rw[cL k4,cond_false];rw[if_neg k4]at l9;by_cases k5:o.k=5
 ·rw[ee k5,cond_true];rw[if_pos k5]at l9;have so:=ay so;refine ah (lP so 0 rfl (lI so 3 rfl ?_));refine Vf ar6 (pk 3 [2,0,1] so) (λhg w s=>?_) λu hu cr ws w ec s=>?_
  ·rw[hg]at l9;exact Lm (by decide) (fin l9 rfl rfl (rH (by decide)) rfl rfl (same s))
  ·rw[hu]at l9;exact Ll (fin (r':=⟨r.p,r.bR,cr⟩) l9 rfl rfl e0 rfl rfl (IG (x':=⟨x.w,x.h,lq x.y o.A,ws⟩) ok hx DU ho ⟨rfl,rfl,rfl⟩ ec s))
 rw[cL k5,cond_false];rw[if_neg k5]at l9;by_cases k6:o.k=6
 ·rw[ee k6,cond_true];rw[if_pos k6]at l9;refine lI s 1 rfl (lI s 1 rfl ?_);have s:=pk 3 [0,2,1] s;refine akN hL DU ho ar6.wf s (λhn w s=>?_) λht hcB r' y' w er ey s=>?_
  ·rw[if_neg hn]at l9;exact fin l9 rfl rfl (rH (by decide)) rfl rfl (pk 3 [0,2,1] s)
  ·rw[if_pos ⟨ht,hcB⟩]at l9;exact fin l9 er ey e0 rfl rfl (pk 3 [0,2,1] s)
 rw[cL k6,cond_false];rw[if_neg k6]at l9;have k7:o.k=7:=by omega
 rw[ee k7,cond_true];have s:=pk 3 [0,2,1] s;refine anf hL DU ho s λr' y' ma mn mc ga gn gc w er ey s=>?_;rw[l9]at h;exact b25 e0 (h r' y' _ ma mn mc ga gn gc w er ey e0 (pk 5 [0,1,2,3] s))
end
def aCG:zc T 34=[ae 0,ae 0,ae 0,ae 0,.slice none 0 0,.slice none 0 0,.int .u64 0,.int .u64 0,.int .u64 0,.int .u64 0,.int .u64 0,.int .u64 0]:=rfl
structure MP (o:lA):Prop where
 jG:ef o.m
 len:o.m.length<=1100000
 load:o.k=1->EP o.m/\∀mp,lz o.m=some mp->mp.w*mp.h<=1600
structure anh (q:gz):Prop where
 ep:Ah q.bR<1000000000
 nx:∀u,q.us=some u->u.next<1000000000
section
variable {W w w0:World}{L:List As}{lg:wG}{r:Bm}{y:vT}{x:HT}{m:kB}{ab:Nat}{o:lA}{a:Option Addr}{n c:Nat}
def aj1 {Q:Value->World->Prop}(hL:iL W lg)(ho:MP o)(hM:∀w',Sep No W w' L->Sl w' a n c 1 bp o.m)(wE:anh y.p)(s:Sep No W w (fN r y::av ab 34 (MO 0 5 (-1) none 0 0 none 0 0)::L))(h:DoK lg W r.p ab L Q (iv y.p o)):
  Ao (sZ r.p) o.k o.A o.B a n c (sZ ab) w Q:=by
 apply S4;have hMw:=hM w (ai (ai s));have hn:n<=1100000:=by have:=hMw.len;have:=ho.len;omega
 refine aQ s λob w s=>?_;apply lI s 0 rfl;have e5:HA lg (tF lg.a0) 5:=.inr (.inr ⟨rfl,rfl⟩);have v0:∀{w:World} {L:List As},Sep No W w L->w.cell? (aZ 0)=some (tF lg.a0):=λs=>Fr.cell (au s) hL.v0 id;have ani:∀{w:World} {A B C:As} {L:List As},Sep No W w (A::B::C::L)->Sep No W w (B::C::L):=λs=>ai s;by_cases k0:o.k=0
 ·rw[ee k0,cond_true];have e:iv y.p o=(y.p,qg 5):=by unfold iv;grind
  rw[e]at h;exact mW (v0 s) rfl (adm e5 (Xw h rfl rfl e5 rfl rfl (ani s)))
 rw[cL k0,cond_false];refine lI s 0 rfl (lI s 0 rfl (lI s 0 rfl (lS s 0 rfl ?_)));refine O.aiJ s (hM w (ai (ai (ai s)))) ho.jG (by omega) λw s _=>?_;cases hm:DY o with
 |false=>
  have e:iv y.p o=(y.p,qg 5):=by unfold iv;grind
  rw[e]at h;exact mW (v0 s) rfl (adm e5 (Xw h rfl rfl e5 rfl rfl (ani s)))
 |true=>
  rw[Bool.not_true,cond_false];have b5:(o.k≠1->o.k≠8->y.cr≠none)->oT Q (sZ r.p) (sZ ab) (aZ ob) w:=λtV=>
   axm hL k0 hm ho.jG (by omega) hM ho.load wE.ep wE.nx tV s h
  cases DU:y.cr with
  |none=>
   obtain⟨ok,hno,so⟩:=ajV (ai s) DU;refine ah (lP so 0 rfl ?_);show cond true _ _;apply lI s 0 rfl;by_cases k1:o.k=1
   ·grind
   ·rw[EZ k1,cond_true];apply lI s 0 rfl;by_cases k8:o.k=8
    ·grind
    ·rw[EZ k8,cond_true];have e:iv y.p o=(y.p,qg 4):=by
      have e1:y.p.us=none:=by show y.cr.map _=none;rw[DU];rfl
      unfold iv;grind
     rw[e]at h;exact Xw h rfl rfl (rH (by decide)) rfl rfl (ani s)
  |some x=>
   obtain⟨ok,_,so⟩:=vU (ai s) DU;refine ah (lP so 0 rfl ?_);show cond false _ _;exact b5 λ_ _ e=>by rw[DU]at e;cases e
def adn {Q:Int->Int->Int->Int->Int->Int->World->Prop}(s:Sep No W w (fN r y::L))(h:∀w',Sep No W w' (fN r y::L)->Q (qM y.p.bR).a (qM y.p.bR).b (qM y.p.bR).c (qM y.p.bR).d (qM y.p.bR).e (qM y.p.bR).f w'):wK (sZ r.p) w Q:=by apply M0;refine aV s λp w s=>?_;obtain⟨ok,so⟩:=IF (ai s);apply FV;refine lC (ah (lP so 0 rfl ?_));obtain⟨_,so⟩:=IF (jd s);have so:=jd so;refine ac4 so λw s=>?_;have s:=jd s;have s:Sep No W w (fN r y::av p 32 _::L):=dD s ok;rw[y.bR.all_eq];exact ajp (jd s) λw s=>h w (ai s)
def Ui {Q:Int->Int->Option Addr->Nat->Nat->World->Prop}(ho:y.bR.o=some m)(s:Sep No W w (fN r y::L))(h:∀ra rn rc w',Sep No W w' (ak ra rn rc 5 1 (flat bp m.g.m.cs)::fN r y::L)->Fr No w w'->Q m.g.m.w m.g.m.h ra rn rc w'):oz (sZ r.p) w Q:=by apply Rc;refine aV (bh (F:=No)) λp w1 s1=>?_;obtain⟨ok,so⟩:=IF s;have kn:=(rF (ai so) ho);have c1:=Fr.cell (au s1) (cO so (a:=(aZ r.p).add 1) (i:=0) rfl rfl rfl) id;apply FV;refine lC (ah (dN c1 ?_));have kn1:aaZ w1 r.bR y.bR m:=⟨kn.ok,kn.o,kn.cell.fr (au s1),kn.g.fr (au s1)⟩;refine ahj s1 kn1 λra rn rc w1 s1 _=>?_;refine abe (jd s1) λw1 s1=>?_;exact h ra rn rc w1 (fB s s1) (au s1)
def HB {Q:Option Addr->Nat->Nat->World->Prop}(tV:y.cr=some x)(s:Sep No W w (fN r y::L))(h:∀a n c w',Sep No W w' (ak a n c 43 3 (flat gN x.y.us)::fN r y::L)->Q a n c w'):je (sZ r.p) w Q:=by
 apply Nr;obtain⟨ok,⟨m,ho,hx⟩,so⟩:=vU s tV;apply Q8;refine lC (ah (lP so 0 rfl ?_));refine Em (pk 3 [2,0,1] so) λa n c w s=>?_;have s:=Ai (pk 4 [2,3,1,0] s) ok.most ho hx;have e:(⟨y.most,y.bR,some x⟩:vT)=y:=by rw[<-tV]
 rw[e]at s;exact h a n c w (jd s)
end
abbrev TN (code d dir id:Int)(ma:Option Addr)(mn mc:Nat)(ga:Option Addr)(gn gc:Nat)(q:CY):List Value:=[ae code,ae d,ae dir,ae id,.slice ma mn mc,.slice ga gn gc]++aeZ q
section
variable {W w w0:World}{L:List As}{lg:wG}{r:Bm}{y:vT}{x:HT}{m:kB}{ab pb:Nat}{o:lA}{a:Option Addr}{n c:Nat}
def axo {Q:Int->Int->Int->Int->Option Addr->Nat->Nat->Option Addr->Nat->Nat->Int->Int->Int->Int->Int->Int->World->Prop}{code d dir id:Int}{ma ga:Option Addr}{mn mc gn gc:Nat}
  (s:Sep No W w (fN r y::av ab 34 (TN code d dir id ma mn mc ga gn gc ⟨0,0,0,0,0,0⟩)::av pb 34 (TN 0 0 0 0 none 0 0 none 0 0 ⟨0,0,0,0,0,0⟩)::L))
  (h:∀w',Sep No W w' (fN r y::L)->Q code d dir id ma mn mc ga gn gc (qM y.p.bR).a (qM y.p.bR).b (qM y.p.bR).c (qM y.p.bR).d (qM y.p.bR).e (qM y.p.bR).f w'):
  oU Q (sZ r.p) (aZ pb) (aZ ab) w:=by
 refine adn s λw s=>?_;generalize qM y.p.bR=q at h⊢
 iterate 6 refine sT s 1 rfl λw s=>?_
 simp[List.set_cons_zero,List.set_cons_succ,TN,aeZ,List.cons_append,List.nil_append]at s;refine lI s 1 rfl (lI s 1 rfl (lI s 1 rfl (lI s 1 rfl (lS s 1 rfl (lS s 1 rfl ?_)))));refine lI s 1 rfl (lI s 1 rfl (lI s 1 rfl (lI s 1 rfl (lI s 1 rfl (lI s 1 rfl ?_)))))
 iterate 12 refine ax s (i:=2) rfl rfl rfl λw s=>?_
 simp[List.set_cons_zero,List.set_cons_succ]at s;refine lI s 2 rfl (lI s 2 rfl (lI s 2 rfl (lI s 2 rfl (lS s 2 rfl (lS s 2 rfl ?_)))));refine lI s 2 rfl (lI s 2 rfl (lI s 2 rfl (lI s 2 rfl (lI s 2 rfl (lI s 2 rfl ?_)))));exact h w (gH s (.cons_cons _ (.cons _ (.cons _ (List.Sublist.refl _)))))
def Xx {Q:Int->Int->Int->Int->Option Addr->Nat->Nat->Option Addr->Nat->Nat->Int->Int->Int->Int->Int->Int->World->Prop}(hL:iL W lg)(ho:MP o)(hM:∀w',Sep No W w' L->Sl w' a n c 1 bp o.m)(wE:anh y.p)(s:Sep No W w (fN r y::L))
  (h:∀r' y' ma mn mc ga gn gc w',r'.p=r.p->y'.p=(iv y.p o).1->Sep No W w' (ak ma mn mc 51 2 (flat lu (iv y.p o).2.Hy)::ak ga gn gc 3 1 (flat one (iv y.p o).2.gone)::fN r' y'::L)->
   Q (iv y.p o).2.code (iv y.p o).2.d (iv y.p o).2.dir (iv y.p o).2.id ma mn mc ga gn gc (qM y'.p.bR).a (qM y'.p.bR).b (qM y'.p.bR).c (qM y'.p.bR).d (qM y'.p.bR).e (qM y'.p.bR).f w'):
  gC (sZ r.p) o.k o.A o.B a n c w Q:=by
 apply S5;refine aQ s λob w s=>?_;refine aV s λpb w s=>?_;refine aV s λab w s=>?_
 iterate 12 refine ax s (i:=0) rfl rfl rfl λw s=>?_
 apply lC;refine ax s (i:=0) rfl rfl rfl λw s=>?_;simp[List.set_cons_zero,List.set_cons_succ]at s;refine lI s 2 rfl (lI s 2 rfl (lI s 2 rfl (lS s 2 rfl ?_)));have s:=pk 4 [3,0,1,2] s;refine aj1 hL ho (λw' s'=>hM w' (ai (ai s'))) wE s λr' y' e ma mn mc ga gn gc w er ey he s=>?_;rw[<-er];have as9:∀{w:World} {cd:Int},cd=(iv y.p o).2.code->Sep No W w (ak ma mn mc 51 2 (flat lu (iv y.p o).2.Hy)::ak ga gn gc 3 1 (flat one (iv y.p o).2.gone)::fN r' y'::av ab 34 (TN cd (iv y.p o).2.d (iv y.p o).2.dir (iv y.p o).2.id ma mn mc ga gn gc ⟨0,0,0,0,0,0⟩)::av pb 34 (TN 0 0 0 0 none 0 0 none 0 0 ⟨0,0,0,0,0,0⟩)::L)->
   oU Q (sZ r'.p) (aZ pb) (aZ ab) w:=λ{w cd} ec s=>by
  subst ec;have s:=pk 5 [2,3,4,0,1] s;refine axo s λw s=>?_;exact h r' y' ma mn mc ga gn gc w er ey (pk 3 [1,2,0] s)
 have tell:∀{e:Value},HA lg e (iv y.p o).2.code->(iv y.p o).2.code≠0->∀{w:World},Sep No W w (ak ma mn mc 51 2 (flat lu (iv y.p o).2.Hy)::ak ga gn gc 3 1 (flat one (iv y.p o).2.gone)::fN r' y'::av ab 34 (MO (iv y.p o).2.d (iv y.p o).2.dir (iv y.p o).2.id ma mn mc ga gn gc)::av pb 34 (TN 0 0 0 0 none 0 0 none 0 0 ⟨0,0,0,0,0,0⟩)::av ob 38 [ae o.k,ae o.A,ae o.B,.slice a n c]::L)->
   af .i64 (aZ ob) w λk=>dV e λp=>Bx [ae k,p] 80 w λb w=>Da (.iface 78 (.pointer (some b))) w λr w=>St (aZ ab) (ae r) w λw=>oU Q (sZ r'.p) (aZ pb) (aZ ab) w:=λ{e} he hne {w} s=>by
  refine lI s 5 rfl (adm he ?_);refine aQ s λb w s=>?_;refine ana hL he hne s λw s=>?_;refine ax s (i:=4) rfl rfl rfl λw s=>?_;exact as9 rfl (pk 7 [1,2,3,4,5] s)
 rcases he with⟨h0,rfl⟩|⟨hne,rfl⟩|⟨h5,rfl⟩
 ·apply ML;exact as9 h0.symm (pk 6 [0,1,2,3,4] s)
 ·exact RP (tell (.inr (.inl ⟨hne,rfl⟩)) hne s)
 ·exact RP (tell (.inr (.inr ⟨h5,rfl⟩)) (by rw[h5];decide) s)
end
end Go.Proofs.YtmegplnmiepfbaaGreatDoor.S
namespace Go.Proofs.YtmegplnmiepfbaaGreatDoor.S.O
open Go.Sx
def RQ {w:World}{x:Int}{Q:Int->World->Prop}(hx:0<=x/\x<256)(h:Q (KK x) w):qD x w Q:=by
 apply Nu;unfold KK at h;refine⟨by decide,?_⟩;rw[Int.tmod_eq_emod_of_nonneg hx.1];by_cases h7:x%8=7
 ·grind
 ·rw[show(x%8==7)=false by grind,cond_false];rw[if_neg h7]at h;by_cases h1:x<160
  ·rw[bM h1];rw[if_pos h1]at h;refine⟨by decide,?_⟩;rw[Int.tmod_eq_emod_of_nonneg hx.1,wrap_u8 (by omega) (by omega)];exact h
  grind
def ahz:zc T 25=[ae 0,ae 0,.slice none 0 0]:=rfl
def ado:zc T 84=[ae 0,ae 0,.slice none 0 0]:=rfl
def anj:zc T 38=[ae 0,ae 0,ae 0,.slice none 0 0]:=rfl
def ahA:zc T 90=[ae 0,ae 0,ae 0]:=rfl
attribute [local irreducible] af cD bz bg aA cy b_ St Bx Al App cK cE cB bV aN bG aq bT av ak aW mapA
def alK (a b:Int):DW a b=min a b:=by unfold DW;omega
section
variable {F:Nat->Prop}{W w w0:World}{L:List As}{a:Option Addr}{n c:Nat}{cs:List Int}
def ank {mw mh:Int}{Q:Bool->World->Prop}(hw:1<=mw/\mw<=1024)(hh:1<=mh/\mh<=1024)(h:Q true w):rK mw mh w Q:=by apply EE;apply zP;rw[bM hw];apply zP;grind
def II {mw mh:Int}{Q:Int->Int->World->Prop}(hw:1<=mw/\mw<=1024)(hh:1<=mh/\mh<=1024)(h:Q (cS mw) (cS mh) w):kV mw mh w Q:=by apply Kc;apply ank hw hh;refine⟨by decide,by decide,?_⟩;simp(disch:=omega) only[wrap_i64,Int.tdiv_eq_ediv_of_nonneg];rw[show mw+16-1=mw+15 by omega,show mh+16-1=mh+15 by omega];exact h
def MQ {mw mh:Int}{Q:Int->World->Prop}(hw:1<=mw/\mw<=1024)(hh:1<=mh/\mh<=1024)(h:Q (eM mw mh) w):pK mw mh w Q:=by apply L4;apply II hw hh;have:=gS hw hh;unfold eM at this h;rw[aH];exact h
def Zp {mw mh s:Int}{Q:Int->Int->World->Prop}(hw:1<=mw/\mw<=1024)(hh:1<=mh/\mh<=1024)(hs:0<=s/\s<eM mw mh)(h:∀w',Fr No w w'->Q (aE mw mh s) (bA mw mh s) w'):qE mw mh s w Q:=by apply Nn;have hc:=gS hw hh;have hx:=Jf hw hh hs;have ha:=FH hw;apply MQ hw hh;rw[aH];apply zP;rw[decide_eq_true (by omega),Bool.not_true,cond_false];apply II hw hh;refine⟨by omega,by omega,?_⟩;have:=h w.drew (Fr.refl);rw[Int.tmod_eq_emod_of_nonneg hs.1,Int.tdiv_eq_ediv_of_nonneg hs.1];simp(disch:=omega) only[wrap_i64];rw[alK,alK];exact this
def ahk {mw mh s l:Int}{Q:Int->World->Prop}(hw:1<=mw/\mw<=1024)(hh:1<=mh/\mh<=1024)(hs:0<=s/\s<eM mw mh)(hl:0<=l/\l<aE mw mh s*bA mw mh s)(h:∀w',Fr No w w'->Q (bY mw mh s l) w'):
  uw mw mh s l w Q:=by
 apply KW;have hx:=Jf hw hh hs;have ha:=FH hw;have hz:=q_ hw hh hs;have b:=Int.mul_le_mul hz.1.2 hz.2.2 (by omega) (by decide);refine Zp hw hh hs λw f=>?_;rw[aH (n:=aE mw mh s*bA mw mh s),aH];apply zP;rw[decide_eq_true (by omega),Bool.not_true,cond_false];apply II hw hh;refine⟨by omega,by omega,by omega,by omega,?_⟩;have:=h w.drew f;have e1:0<=l/aE mw mh s/\l/aE mw mh s<bA mw mh s:=⟨Int.ediv_nonneg hl.1 (by omega),Int.ediv_lt_of_lt_mul (by omega) (by grind)⟩;have e2:=Int.emod_nonneg l (b:=aE mw mh s) (by omega);have e3:=Int.emod_lt_of_pos l (b:=aE mw mh s) (by omega);rw[Int.tmod_eq_emod_of_nonneg hs.1,Int.tdiv_eq_ediv_of_nonneg hs.1,Int.tmod_eq_emod_of_nonneg hl.1,Int.tdiv_eq_ediv_of_nonneg hl.1];have y0:0<=16*(s/cS mw)+l/aE mw mh s/\16*(s/cS mw)+l/aE mw mh s<=1040:=by omega
 have m1:0<=(16*(s/cS mw)+l/aE mw mh s)*mw:=Int.mul_nonneg y0.1 (by omega);have m2:=Int.mul_le_mul y0.2 hw.2 (by omega) (by decide);simp(disch:=omega) only[wrap_i64];exact this
def anl {mw mh:Int}{t6 t:Nat}{Q:Int->Int->Option Addr->Nat->Nat->World->Prop}(hA:Sl w0 a n c 1 bp cs)(hcs:ef cs)(hn:n<9223372036854775808)(hw:1<=mw/\mw<=40)(hh:1<=mh/\mh<=40)
  (h:∀ra rn rc w',Sep No w0 w' [ak ra rn rc 5 1 (flat bp (NL (mw*mh).toNat cs))]->Q mw mh ra rn rc w'):
  ∀(m i rc:Nat) (ra:Option Addr) (w:World),((i+m:Nat):Int)=mw*mh->
   Sep No w0 w [av t 25 [ae mw,ae mh,.slice ra i rc],ak ra i rc 5 1 (flat bp (NL i cs)),av t6 25 [ae 0,ae 0,.slice none 0 0]]->j6 Q (m+1) a n c (aZ t6) (aZ t) i w:=by
 have q2:=Int.mul_le_mul hw.2 hh.2 (by omega) (by decide);have hlen:=hA.len;intro m;induction m with
 |zero=>
  intro i rc ra w hi s;show zN Q (j6 Q 0) _ _ _ _ _ _ _;apply dy s (i:=0) rfl rfl rfl;apply dy s (i:=0) rfl rfl rfl;rw[aH,bj];apply dy s (i:=0) rfl rfl rfl;apply dy s (i:=0) rfl rfl rfl;apply gZ s (i:=0) rfl rfl rfl;refine sT s 2 rfl λw1 s=>?_;refine sT s 2 rfl λw2 s=>?_;refine ax s (i:=2) rfl rfl rfl λw3 s=>?_;apply dy s (i:=2) rfl rfl rfl;apply dy s (i:=2) rfl rfl rfl;apply gZ s (i:=2) rfl rfl rfl;have e:i=(mw*mh).toNat:=by omega
  rw[e]at s⊢;exact h _ _ _ w3 (gH s (.cons _ (.cons_cons _ (.cons _ .slnil))))
 |succ m ih=>
  intro i rc ra w hi s;show zN Q (j6 Q (m+1)) _ _ _ _ _ _ _;apply dy s (i:=0) rfl rfl rfl;apply dy s (i:=0) rfl rfl rfl;rw[aH,bM];have b9:∀x:Int,0<=x/\x<256->KK x=Gp cs i->sY (j6 Q (m+1)) Q a n c (aZ t6) (aZ t) i x w:=by
   intro x hx hm;have s0:Sep No w0 w.drew _:=s;apply gZ s0 (i:=0) rfl rfl rfl;apply RQ hx;rw[hm];refine⟨cO s0 (i:=0) rfl rfl rfl,?_⟩;refine aQ s0 λb w1 s1=>?_;refine⟨cO s1 (i:=1) rfl rfl rfl,?_⟩;have src:Src w1 (sZ b) 1 1 [.int .u8 (Gp cs i)]:=⟨rfl,(λu hu=>by rw[List.mem_singleton.1 hu];rfl),λj u hj=>by rw[cw,Nat.zero_add];exact cO s1 (i:=0) rfl rfl hj⟩;refine iy dU s1 (i:=2) (bytes:=1) rfl rfl rfl rfl rfl rfl (by decide) rfl src (by simp[maxLen];omega) (by omega) (λe=>by cases e) λa1 c1 w2 s2=>?_;have e:flat bp (NL i cs)++[.int .u8 (Gp cs i)]=flat bp (NL (i+1) cs):=by unfold NL;rw[List.range_succ,List.map_append,f_];rfl
   have s2:=ai s2;refine ax s2 (i:=0) rfl rfl rfl λw3 s3=>?_;rw[aH];grind
  by_cases PD:0<n
  ·rw[bM];refine⟨by omega,by omega,?_⟩;have d1:0<=(i:Int)/(n:Int):=Int.ediv_nonneg (by omega) (by omega);have d2:(i:Int)/(n:Int)<=i:=Int.ediv_le_self _ (by omega);rw[Int.tdiv_eq_ediv_of_nonneg (by omega),aH (n:=(i:Int)/(n:Int)),aH (n:=(i:Int)/(n:Int)*5),aH,Int.tmod_eq_emod_of_nonneg (by omega)];have ej:((i:Int)+(i:Int)/(n:Int)*5)%(n:Int)=(((i+i/n*5)%n:Nat):Int):=by grind
   rw[ej];have hj:(i+i/n*5)%n<n:=Nat.mod_lt _ PD;apply Sl.BJ (hA.fr (au s)) rfl hj;apply b9 _ (hcs _ (fm (by omega)));unfold Gp;grind
  ·rw[bj];apply b9 1 (by decide);unfold Gp;grind
def Zq {w1 h1:Int}{Q:Int->Int->Option Addr->Nat->Nat->World->Prop}(s:Sep F W w0 L)(hA:Sl w0 a n c 1 bp cs)(hcs:ef cs)(hn:n<9223372036854775808)
  (h:∀ra rn rc w',Sep F W w' (ak ra rn rc 5 1 (flat bp (vV w1 h1 cs).cs)::L)->Fr No w0 w'->Q (vV w1 h1 cs).w (vV w1 h1 cs).h ra rn rc w'):qC w1 h1 a n c w0 Q:=by
 apply Nv;refine aV (F:=No) bh λt6 w1' s1=>?_;apply cj (by decide) (by decide) (by decide);have r1:=kC (n:=w1) (lo:=1) (hi:=40) (by decide);apply cj (by decide) (by decide) (by decide);have r2:=kC (n:=h1) (lo:=1) (hi:=40) (by decide);refine aV s1 λt w2 s2=>?_;refine sT s2 0 rfl λw3 s=>?_;refine sT s 0 rfl λw4 s=>?_;refine ax s (i:=0) rfl rfl rfl λw5 s5=>?_;have s6:=cu (bH s5 5 1) (List.Perm.swap ..);have q1:=Int.mul_le_mul r1.1 r2.1 (by decide) (by omega);refine⟨(gh w1 1 40*gh h1 1 40).toNat+1,anl hA hcs hn r1 r2 (λra rn rc w' s'=>?_) _ 0 0 none w5 (by omega) s6⟩;exact h ra rn rc w' (dG ‹Sep F W w0 L› s' (i:=0) rfl) (au s')
def ahl {m:bJ}{si:Nat}{Q:Int->Int->Option Addr->Nat->Nat->World->Prop}(s0:Sep F W w0 L)(hA:Sl w0 a n c 1 bp m.cs)(hm:cF m)(hs:(si:Int)<eM m.w m.h)
  (h:∀ra rn rc w',Sep F W w' (ak ra rn rc 5 1 (flat bp (qB m si))::L)->Fr No w0 w'->Q (aE m.w m.h si) (bA m.w m.h si) ra rn rc w'):uk m.w m.h a n c si w0 Q:=by
 apply KX;have T8:0<=(si:Int)/\(si:Int)<eM m.w m.h:=⟨by omega,hs⟩;have hz:=q_ hm.w hm.h T8;have b1:=Int.mul_le_mul hz.1.1 hz.2.1 (by decide) (by omega);have b2:=Int.mul_le_mul hz.1.2 hz.2.2 (by omega) (by decide);have hlen:=hA.len;have hml:=hm.len;have s:=bh (F:=No) (w:=w0);refine aQ s λmb w s=>?_;refine aV s λp4 w s=>?_;apply lI s 1 rfl;apply lI s 1 rfl;refine Zp hm.w hm.h T8 λw f=>?_;have s:=bW s f;refine aV s λt w s=>?_;refine sT s 0 rfl λw s=>?_;refine sT s 0 rfl λw s=>?_;refine ax s (i:=0) rfl rfl rfl λw s=>?_;have loop:∀(k i rc:Nat) (ra:Option Addr) (w:World),((i+k:Nat):Int)=aE m.w m.h si*bA m.w m.h si->
   Sep No w0 w [ak ra i rc 5 1 (flat bp ((List.range i).map λl:Nat=>gi m.cs (bY m.w m.h si l).toNat)),av t 84 [ae (aE m.w m.h si),ae (bA m.w m.h si),.slice ra i rc],av p4 84 [ae 0,ae 0,.slice none 0 0],av mb 25 [ae m.w,ae m.h,.slice a n c]]->
   kH Q (k+1) si (aZ mb) (aZ p4) (aE m.w m.h si) (bA m.w m.h si) (aZ t) i w:=by
  intro k;induction k with
  |zero=>
   intro i rc ra w hi s;show nE Q (kH Q 0) _ _ _ _ _ _ _ _;rw[nE,aH,bj];apply lI s 1 rfl;apply lI s 1 rfl;apply lS s 1 rfl
   (refine ax s (i:=2) rfl rfl rfl λw s=>?_)
   (refine ax s (i:=2) rfl rfl rfl λw s=>?_)
   (refine ax s (i:=2) rfl rfl rfl λw s=>?_)
   apply lI s 2 rfl;apply lI s 2 rfl;apply lS s 2 rfl;have e:i=(aE m.w m.h si*bA m.w m.h si).toNat:=by omega
   have e2:((List.range i).map λl:Nat=>gi m.cs (bY m.w m.h si l).toNat)=qB m si:=by unfold qB;rw[e]
   rw[e2]at s;exact h _ _ _ _ (dG s0 s (i:=0) rfl) (au s)
  |succ k ih=>
   intro i rc ra w hi s;show nE Q (kH Q (k+1)) _ _ _ _ _ _ _ _;rw[nE,aH,bM];have s:=ay s;have hl:0<=(i:Int)/\(i:Int)<aE m.w m.h si*bA m.w m.h si:=by omega
   have hg:=Gq hm.w hm.h T8 hl;apply lS s 1 rfl;apply lS s 3 rfl;apply lI s 3 rfl;apply lI s 3 rfl;refine ahk hm.w hm.h T8 hl λw f=>?_;have s:=bW s f;apply And.intro (cm s 3 rfl);apply And.intro (cm s 1 rfl);obtain⟨g,hgk⟩:∃g:Nat,bY m.w m.h si i=g:=⟨(bY m.w m.h si i).toNat,by omega⟩;have heq:gi m.cs g=gi m.cs (bY m.w m.h si i).toNat:=by rw[hgk,Int.toNat_natCast]
   rw[hgk];apply Sl.BJ (hA.fr (au s)) rfl (by omega);refine aQ s λb w1 s1=>?_;refine⟨cm s1 2 rfl,?_⟩;have src:Src w1 (sZ b) 1 1 [.int .u8 (gi m.cs g)]:=⟨rfl,(λu hu=>by rw[List.mem_singleton.1 hu];rfl),λj u hj=>by rw[cw,Nat.zero_add];exact cO s1 (i:=0) rfl rfl hj⟩;refine iy dU s1 (i:=1) (bytes:=1) rfl rfl rfl rfl rfl rfl (by decide) rfl src (by simp[maxLen];omega) (by omega) (λe=>by cases e) λa1 c1 w2 s2=>?_;have e:flat bp ((List.range i).map λl:Nat=>gi m.cs (bY m.w m.h si l).toNat)++[.int .u8 (gi m.cs g)]=flat bp ((List.range (i+1)).map λl:Nat=>gi m.cs (bY m.w m.h si l).toNat):=by rw[heq,List.range_succ,List.map_append,f_];rfl
   rw[e]at s2;refine ax (ai s2) (i:=1) rfl rfl rfl λw3 s3=>?_;rw[aH];exact ih (i+1) c1 a1 w3 (by omega) s3
 exact⟨(aE m.w m.h si*bA m.w m.h si).toNat+1,loop _ 0 0 none w (by omega) (bH s 5 1)⟩
def akO {Q:Option Addr->Nat->Nat->World->Prop}(s0:Sep F W w0 L)(hA:Sl w0 a n c 1 bp cs)(hcs:ef cs)(hn:n<=100000)
  (h:∀ra rn rc w',Sep F W w' (ak ra rn rc 5 1 (flat bp (ug cs))::L)->Fr No w0 w'->Q ra rn rc w'):wP a n c w0 Q:=by
 apply Nm;have hlen:=hA.len;refine aQ (bh (F:=No)) λb w s=>?_;have s:=asB s;have inner:∀(P3:Option Addr->Nat->Nat->Option Addr->Nat->Nat->Int->World->Prop) (x:Int) (i:Nat) (oa:Option Addr) (on oc:Nat) (out:List Int),cs[i]? =some x->on<=1000000->
   (∀a' c' w',Sep No w0 w' [ak a' (on+2) c' 5 1 (flat bp (out++[((lead x (cs.drop (i+1)):Nat):Int)%256,x]))]->P3 a n c a' (on+2) c' ((i+1+lead x (cs.drop (i+1)):Nat):Int) w')->
   ∀(k r:Nat) (w:World),i+1+r+k=n->lead x (cs.drop (i+1))=r+lead x (cs.drop (i+1+r))->Sep No w0 w [ak oa on oc 5 1 (flat bp out)]->mC P3 Q (k+1) a n c oa on oc i ((r+1:Nat):Int) w:=by
  intro P3 x i oa on oc out hx CN next
  have hix:i<n:=by grind
  have hgx:gi cs i=x:=by rw[h_ (by omega)]at hx;grind
  have over:∀(r:Nat) (w:World),i+1+r<=n->lead x (cs.drop (i+1))=r->Sep No w0 w [ak oa on oc 5 1 (flat bp out)]->sX P3 Q a n c oa on oc i ((r+1:Nat):Int) w:=by
   intro r w hr hl s;apply Sl.BJ (hA.fr (au s)) rfl hix;rw[hgx,aH,aH,wrap_u8'];refine aQ s λb w s=>?_;have e0:((r+1:Nat):Int)-1=(r:Int):=by omega
   rw[e0]at s;have src:Src w (sZ b) 2 1 [.int .u8 ((r:Int)%256),.int .u8 x]:=⟨rfl,(λu hu=>by simp[List.mem_cons,List.not_mem_nil,or_false]at hu;rcases hu with rfl|rfl<;>rfl),λj u hj=>by rw[cw,Nat.zero_add];exact cO s (i:=0) rfl rfl hj⟩;refine iy dU s (i:=1) (bytes:=1) rfl rfl rfl rfl rfl rfl (by decide) rfl src (by simp[maxLen];omega) (by omega) (λe=>by cases e) λa1 c1 w1 s1=>?_;have e:flat bp out++[.int .u8 ((r:Int)%256),.int .u8 x]=flat bp (out++[(r:Int)%256,x]):=by rw[f_];rfl
   rw[e]at s1;rw[hl]at next
   have:=next a1 c1 w1 (ai s1)
   grind
  intro k;induction k with
  |zero=>
   intro r w hr hl s;show oV P3 Q (mC P3 Q 0) _ _ _ _ _ _ _ _ _;rw[oV,aH,bj];have e:cs.drop (i+1+r)=[]:=List.drop_eq_nil_of_le (by omega);rw[e]at hl
   first|exact over r w (by omega) hl s|exact over r _ (by omega) hl (ay s)
  |succ k ih=>
   intro r w hr hl s;show oV P3 Q (mC P3 Q (k+1)) _ _ _ _ _ _ _ _ _;unfold oV;have ei:(i:Int)+((r+1:Nat):Int)=((i+1+r:Nat):Int):=by push_cast;omega
   rw[aH,bM,ei];have s:=ay s;have hB:=hA.fr (au s);apply Sl.BJ hB rfl (by omega);apply Sl.BJ hB rfl hix;have hd:cs.drop (i+1+r)=gi cs (i+1+r)::cs.drop (i+1+r+1):=by rw[List.drop_eq_getElem_cons (by omega)];congr 1;have:=h_ (l:=cs) (i:=i+1+r) (by omega);rw[List.getElem?_eq_getElem (by omega)]at this;exact Option.some.inj this
   rw[hd,lead]at hl;rw[hgx];by_cases he:gi cs (i+1+r)=x
   ·rw[show(gi cs (i+1+r)==x)=true by rw[beq_iff_eq];exact he,cond_true,aH];rw[if_pos he]at hl;have:=ih (r+1) w.drew (by omega) (by rw[show i+1+(r+1)=i+1+r+1 by omega];omega) s;exact this
   ·rw[show(gi cs (i+1+r)==x)=false by rw[beq_eq_false_iff_ne];exact he,cond_false];rw[if_neg he]at hl;exact over r _ (by omega) hl s
 have outer:∀(k i:Nat) (oa:Option Addr) (on oc:Nat) (out:List Int) (w:World),n-i<=k->i<=n->on<=1+2*i->out++lQ (n-i) (cs.drop i)=ug cs->Sep No w0 w [ak oa on oc 5 1 (flat bp out)]->oX Q (k+1) a n c oa on oc i w:=by
  have stop:∀R (oa:Option Addr) (on oc:Nat) (out:List Int) (w:World),out++lQ (n-n) (cs.drop n)=ug cs->Sep No w0 w [ak oa on oc 5 1 (flat bp out)]->oW Q R a n c oa on oc n w:=by intro R oa on oc out w he s;rw[oW,bj];rw[List.drop_eq_nil_of_le (by omega),Nat.sub_self,lQ,List.append_nil]at he;rw[he]at s;exact h _ _ _ _ (dG s0 s (i:=0) rfl) (au s)
  intro k;induction k with
  |zero=>
   intro i oa on oc out w hk hi CN he s;obtain rfl:i=n:=by omega
   exact stop _ _ _ _ _ _ he s
  |succ k ih=>
   intro i oa on oc out w hk hi CN he s;by_cases hin:i=n
   ·subst hin;exact stop _ _ _ _ _ _ he s
   ·show oW Q (oX Q (k+1)) _ _ _ _ _ _ _ _;rw[oW,bM];have hx:cs[i]? =some (gi cs i):=h_ (by omega);have hd:cs.drop i=gi cs i::cs.drop (i+1):=by obtain⟨h1,h2⟩:=List.getElem?_eq_some_iff.1 hx;rw[List.drop_eq_getElem_cons h1,h2]
    have Oc:=PK (gi cs i) (cs.drop (i+1));rw[List.length_drop]at Oc;refine⟨n-(i+1)+1,inner _ (gi cs i) i oa on oc out hx (by omega) (λa' c' w' s'=>?_) (n-(i+1)) 0 w (by omega) (by rw[Nat.zero_add]) s⟩;refine ih (i+1+lead (gi cs i) (cs.drop (i+1))) a' (on+2) c' _ w' (by omega) (by omega) (by omega) ?_ s';rw[<-he,hd,show n-i=(n-(i+1))+1 by omega,lQ,List.append_assoc,List.drop_drop];congr 1;show _::_::_=_::_::_;congr 2;exact aid _ _ _ (by rw[List.length_drop];omega) (by rw[List.length_drop];omega)
 exact⟨n+1,outer n 0 _ 1 1 [2] w (by omega) (by omega) (by omega) (by rw[List.drop_zero,Nat.sub_zero,<-hlen];rfl) s⟩
end
end Go.Proofs.YtmegplnmiepfbaaGreatDoor.S.O
namespace Go.Proofs.YtmegplnmiepfbaaGreatDoor.S.O
open Go.Sx
attribute [local irreducible] af cD bz bg aA cy b_ St Bx Al App cK cE cB bV aN bG aq bT av ak aW mapA
section
variable {F:Nat->Prop}{W w w0:World}{L:List As}{a:Option Addr}{n c:Nat}{cs:List Int}
def afa {tw th:Int}{Q:Int->Option Addr->Nat->Nat->World->Prop}(s0:Sep F W w0 L)(hA:Sl w0 a n c 1 bp cs)(hcs:ef cs)(hn:1<=n/\n<=100000)
  (h:∀ra rn rc w',Sep F W w' (ak ra rn rc 5 1 (flat bp (uh cs).2)::L)->Fr No w0 w'->Q (uh cs).1 ra rn rc w'):tu tw th a n c w0 Q:=by
 apply Kf;have hlen:=hA.len;refine aQ (bh (F:=No)) λtb w s=>?_;apply lS s 0 rfl;refine akO s (hA.fr (au s)) hcs hn.2 λra rn rc w s _=>?_;have hr:=aG s (i:=0) rfl cZ (by decide);have hrl:=hr.len;unfold uh at h;by_cases h3:(ug cs).length=3
 ·rw[show((rn:Int)==3)=true by grind,cond_true];rw[if_pos h3]at h;have s:=ay s;apply lS s 1 rfl;obtain⟨ad,rfl,hv⟩:=hA.row.2 0 _ (h_ (by omega));have hv:=hv 0 _ rfl;refine⟨by decide,by omega,ah ?_⟩;apply aL (Fr.cell (au s) hv id);have fin:∀(b:Nat) (w':World) (L':List As),Sep No w0 w' (av b 5 [.int .u8 0,.int .u8 (gi cs 0)]::L')->Q 0 (sZ b) 2 2 w':=λb w' L' s=>by have s:=g9 (n:=2) (size:=1) s (i:=0) rfl rfl (by decide) (by simp;exact⟨rfl,rfl⟩);have s:=s;exact h _ _ _ _ (dG s0 s (i:=0) rfl) (au s)
  constructor
  ·refine aQ s λb w s=>?_;exact⟨Fr.cell (au s) hv id,cm s 2 rfl,fin _ _ _ s⟩
  ·refine⟨Fr.cell (au s) hv id,cm s 1 rfl,?_⟩;refine aQ s λb w s=>?_;grind
 ·rw[show((rn:Int)==3)=false by grind,cond_false];rw[if_neg h3]at h;apply lS s 1 rfl;rw[aH];by_cases h4:(ug cs).length<1+cs.length
  ·rw[bM];rw[if_pos h4]at h;exact h _ _ _ _ (dG s0 s (i:=0) rfl) (au s)
  ·rw[bj];rw[if_neg h4]at h;refine aQ s λb w s=>?_;have s:=asB s;apply lS s 2 rfl;refine al_ s (hA.fr (au s)) (by omega) λra rc w s=>?_;exact h _ _ _ _ (dG s0 s (i:=0) rfl) (au s)
def Km {m:bJ}{Q:Option Addr->Nat->Nat->World->Prop}(s0:Sep F W w0 L)(hA:Sl w0 a n c 1 bp m.cs)(hm:cF m)
  (h:∀ra rn rc w',Sep F W w' (ak ra rn rc 5 1 (flat bp (y7 m))::L)->Fr No w0 w'->Q ra rn rc w'):lR m.w m.h a n c w0 Q:=by
 apply KY;have hc:=gS hm.w hm.h;refine aQ (bh (F:=No)) λmb w s=>?_;apply lI s 0 rfl;apply lI s 0 rfl;refine⟨by decide,?_⟩;apply lI s 0 rfl;apply lI s 0 rfl;refine⟨by decide,?_⟩;have e8:∀v:Int,pE .i64 v 8=v/256:=λv=>by rw[pE,show min (8:Int).toNat (IntKind.i64).bits=8 by decide,Int.fdiv_eq_ediv_of_nonneg _ (by decide)];rfl
 rw[e8,e8,wrap_u8',wrap_u8',wrap_u8',wrap_u8'];refine aQ s λhb w s=>?_;have s:=g9 (n:=4) (size:=1) s (i:=0) rfl rfl (by decide) (by simp;exact⟨rfl,rfl,rfl,rfl⟩);have s:=s;have loop:∀(k i:Nat) (ba:Option Addr) (bn bc:Nat) (w:World),((i+k:Nat):Int)=eM m.w m.h->bn<=4+258*i->
   Sep No w0 w [ak ba bn bc 5 1 (flat bp ([m.w%256,m.w/256%256,m.h%256,m.h/256%256]++Jg m i)),av mb 25 [ae m.w,ae m.h,.slice a n c]]->kI Q (k+1) (aZ mb) ba bn bc i w:=by
  intro k;induction k with
  |zero=>
   intro i ba bn bc w hi Gb s;show wY Q (kI Q 0) _ _ _ _ _ _;apply lI s 1 rfl;apply lI s 1 rfl;apply MQ hm.w hm.h;rw[bj];have e:i=(eM m.w m.h).toNat:=by omega
   rw[e]at s;exact h _ _ _ _ (dG s0 s (i:=0) rfl) (au s)
  |succ k ih=>
   intro i ba bn bc w hi Gb s;show wY Q (kI Q (k+1)) _ _ _ _ _ _;have T8:0<=(i:Int)/\(i:Int)<eM m.w m.h:=by omega
   have htl:=VD hm T8;have htr:=VC hm T8;apply lI s 1 rfl;apply lI s 1 rfl;apply MQ hm.w hm.h;rw[bM];apply lI s 1 rfl;apply lI s 1 rfl;apply lS s 1 rfl;refine ahl s (hA.fr (au s)) hm (by omega) λra rn rc w s _=>?_;have ht:=aG s (i:=0) rfl cZ (by decide);have Rh:=ht.len;refine afa s ht (λx hx=>by grind) (by omega) λpa pn pc w s _=>?_;have hp:=aG s (i:=0) rfl cZ (by decide);have hpn:=hp.len;have I9:=aif (cs:=qB m i);have s:=ck (L':=[_,_,_,_]) [2,3,0,1] s rfl (by decide);refine al_ s (aG s (i:=2) rfl cZ (by decide)) (by omega) λra rc w s=>?_;rw[aH];have s:=ck (L':=[_,_]) [0,1] s rfl (by decide);rw[List.append_assoc,<-Y4]at s;grind
 exact⟨(eM m.w m.h).toNat+1,loop _ 0 _ 4 4 w (by omega) (by omega) s⟩
attribute [local irreducible] iV in
theorem anm {x:yd}{nn:Int}{Q:Int->Int->Int->Option Addr->Nat->Nat->World->Prop}(s0:Sep F W w0 L)(hn:1<=nn/\nn<=2000000)
  (h:∀ra rn rc w',Sep F W w' (ak ra rn rc 5 1 (flat bp (Lw x nn).m)::L)->Fr No w0 w'->Q (Lw x nn).k (Lw x nn).A (Lw x nn).B ra rn rc w'):wL x.k x.a x.b nn w0 Q:=by
 apply Nw;have h3:=kC (n:=x.a) (lo:=0) (hi:=1) (by decide);have h4:=kC (n:=x.a) (lo:=0) (hi:=5) (by decide);have hb2:∀(w:World) (ob xb pb:Nat) (L':List As) (is:List Nat) (L3:List As),is.Nodup->is.map (λi=>L'[i]?)=[some (av ob 38 [ae (gh x.b 1 6),ae (nn+gh x.a 0 5),ae (gh x.a 0 9),.slice none 0 0]),some (av pb 38 [ae 0,ae 0,ae 0,.slice none 0 0]),some (av xb 90 [ae x.k,ae x.a,ae x.b])]->
   Sep No w0 w L'->iV Q nn (aZ xb) (aZ pb) (aZ ob) w:=by
  intro w ob xb pb L' is L3 hnd hpk s;have s:=ck (L':=[_,_,_]) is s hpk hnd;unfold iV;unfold Lw at h;apply lI s 0 rfl;by_cases k1:gh x.b 1 6=1
  ·rw[show(gh x.b 1 6==1)=true by rw[beq_iff_eq];exact k1,cond_true];rw[if_pos k1]at h;rw[k1]at s;have s:=ay s;have fin:∀(w:World) (b2:Nat) (L2:List As) (is:List Nat),is.Nodup->is.map (λi=>L2[i]?)=[some (av b2 5 [.int .u8 2,.int .u8 0,.int .u8 1,.int .u8 0,.int .u8 1,.int .u8 (x.a%256),.int .u8 (x.b%256)])]->Sep No w0 w L2->Q 1 0 0 (sZ b2) 7 7 w:=by intro w b2 L2 is hnd hpk s;have s:=ck (L':=[_]) is s hpk hnd;have s:=g9 (n:=7) (size:=1) s (i:=0) rfl rfl (by decide) (λu hu=>by simp[List.mem_cons,List.not_mem_nil,or_false]at hu;rcases hu with rfl|rfl|rfl|rfl|rfl|rfl|rfl<;>rfl);have s:=s;exact h _ _ _ _ (dG s0 s (i:=0) rfl) (au s)
   apply lI s 2 rfl;apply lI s 2 rfl;refine And.intro ?_ ?_;refine aQ s λb w s=>?_
   (refine ax s (i:=1) rfl rfl rfl λw s=>?_)
   apply And.intro (cm s 3 rfl);apply And.intro (cm s 3 rfl)
   (refine ax s (i:=1) rfl rfl rfl λw s=>?_)
   apply And.intro (cm s 3 rfl);apply And.intro (cm s 3 rfl)
   (refine ax s (i:=1) rfl rfl rfl λw s=>?_)
   apply lI s 1 rfl;apply lI s 1 rfl;apply lI s 1 rfl;apply lS s 1 rfl
   (refine ax s (i:=2) rfl rfl rfl λw s=>?_)
   (refine ax s (i:=2) rfl rfl rfl λw s=>?_)
   (refine ax s (i:=2) rfl rfl rfl λw s=>?_)
   (refine ax s (i:=2) rfl rfl rfl λw s=>?_)
   apply lI s 2 rfl;apply lI s 2 rfl;apply lI s 2 rfl;apply lS s 2 rfl;exact fin _ _ _ [0] (by decide) rfl s
   (refine ax s (i:=0) rfl rfl rfl λw s=>?_)
   apply And.intro (cm s 2 rfl);apply And.intro (cm s 2 rfl);refine And.intro ?_ ?_;refine aQ s λb w s=>?_
   (refine ax s (i:=1) rfl rfl rfl λw s=>?_)
   apply And.intro (cm s 3 rfl);apply And.intro (cm s 3 rfl)
   (refine ax s (i:=1) rfl rfl rfl λw s=>?_)
   apply lI s 1 rfl;apply lI s 1 rfl;apply lI s 1 rfl;apply lS s 1 rfl
   (refine ax s (i:=2) rfl rfl rfl λw s=>?_)
   (refine ax s (i:=2) rfl rfl rfl λw s=>?_)
   (refine ax s (i:=2) rfl rfl rfl λw s=>?_)
   (refine ax s (i:=2) rfl rfl rfl λw s=>?_)
   apply lI s 2 rfl;apply lI s 2 rfl;apply lI s 2 rfl;apply lS s 2 rfl;exact fin _ _ _ [0] (by decide) rfl s
   (refine ax s (i:=0) rfl rfl rfl λw s=>?_)
   apply And.intro (cm s 2 rfl);apply And.intro (cm s 2 rfl);refine aQ s λb w s=>?_
   (refine ax s (i:=1) rfl rfl rfl λw s=>?_)
   apply lI s 1 rfl;apply lI s 1 rfl;apply lI s 1 rfl;apply lS s 1 rfl
   (refine ax s (i:=2) rfl rfl rfl λw s=>?_)
   (refine ax s (i:=2) rfl rfl rfl λw s=>?_)
   (refine ax s (i:=2) rfl rfl rfl λw s=>?_)
   (refine ax s (i:=2) rfl rfl rfl λw s=>?_)
   apply lI s 2 rfl;apply lI s 2 rfl;apply lI s 2 rfl;apply lS s 2 rfl;exact fin _ _ _ [0] (by decide) rfl s
  ·rw[show(gh x.b 1 6==1)=false by rw[beq_eq_false_iff_ne];exact k1,cond_false];rw[if_neg k1]at h;have fin:∀(w:World) (L2:List As) (A B:Int),(∀ra rn rc w',Sep F W w' (ak ra rn rc 5 1 (flat bp [])::L)->Fr No w0 w'->Q (gh x.b 1 6) A B ra rn rc w')->Sep No w0 w L2->Q (gh x.b 1 6) A B none 0 0 w:=by intro w L2 A B h s;exact h _ _ _ _ (bH (bW s0 (au s)) 5 1) (au s)
   by_cases k2:gh x.b 1 6=2
   ·rw[show(gh x.b 1 6==2)=true by rw[beq_iff_eq];exact k2,cond_true];rw[if_pos k2]at h;apply lI s 2 rfl;rw[aH];apply cj (by omega) (by decide) (by omega);refine ax s (i:=0) rfl rfl rfl λw s=>?_;apply lI s 2 rfl;apply cj (by decide) (by decide) (by decide);have e:IntKind.wrap .i64 ((0+x.a%(1-0+1))*255)=gh x.a 0 1*255:=wrap_i64 (by show _<=gh x.a 0 1*255;omega) (by show gh x.a 0 1*255<_;omega);rw[e]
    (refine ax s (i:=0) rfl rfl rfl λw s=>?_)
    apply lI s 0 rfl;apply lI s 0 rfl;apply lI s 0 rfl;apply lS s 0 rfl
    (refine ax s (i:=1) rfl rfl rfl λw s=>?_)
    (refine ax s (i:=1) rfl rfl rfl λw s=>?_)
    (refine ax s (i:=1) rfl rfl rfl λw s=>?_)
    (refine ax s (i:=1) rfl rfl rfl λw s=>?_)
    apply lI s 1 rfl;apply lI s 1 rfl;apply lI s 1 rfl;apply lS s 1 rfl;refine fin _ _ _ _ ?_ s;rw[k2];exact h
   ·rw[show(gh x.b 1 6==2)=false by rw[beq_eq_false_iff_ne];exact k2,cond_false];rw[if_neg k2]at h;by_cases k5:gh x.b 1 6=5
    ·rw[show(gh x.b 1 6==5)=true by rw[beq_iff_eq];exact k5,cond_true];rw[if_pos k5]at h
     (refine ax s (i:=0) rfl rfl rfl λw s=>?_)
     apply lI s 0 rfl;apply lI s 0 rfl;apply lI s 0 rfl;apply lS s 0 rfl
     (refine ax s (i:=1) rfl rfl rfl λw s=>?_)
     (refine ax s (i:=1) rfl rfl rfl λw s=>?_)
     (refine ax s (i:=1) rfl rfl rfl λw s=>?_)
     (refine ax s (i:=1) rfl rfl rfl λw s=>?_)
     apply lI s 1 rfl;apply lI s 1 rfl;apply lI s 1 rfl;apply lS s 1 rfl;refine fin _ _ _ _ ?_ s;rw[k5];exact h
    ·rw[show(gh x.b 1 6==5)=false by rw[beq_eq_false_iff_ne];exact k5,cond_false];rw[if_neg k5]at h;apply lI s 0 rfl;apply lI s 0 rfl;apply lI s 0 rfl;apply lS s 0 rfl
     (refine ax s (i:=1) rfl rfl rfl λw s=>?_)
     (refine ax s (i:=1) rfl rfl rfl λw s=>?_)
     (refine ax s (i:=1) rfl rfl rfl λw s=>?_)
     (refine ax s (i:=1) rfl rfl rfl λw s=>?_)
     apply lI s 1 rfl;apply lI s 1 rfl;apply lI s 1 rfl;apply lS s 1 rfl;exact fin _ _ _ _ h s
 have e1:IntKind.wrap .i64 (nn+(0+x.a%(5-0+1)))=nn+gh x.a 0 5:=wrap_i64 (by show _<=nn+gh x.a 0 5;omega) (by show nn+gh x.a 0 5<_;omega);have s:=bh (F:=No) (w:=w0);refine aQ s λxb w s=>?_;refine aV s λpb w s=>?_;have s:=ay s
 repeat' first
  |apply lI s 0 rfl
  |apply lS s 0 rfl
  |apply lB s 0 rfl
  |apply lP s 0 rfl
  |apply And.intro (cm s 0 rfl)
  |apply lI s 1 rfl
  |apply lS s 1 rfl
  |apply lB s 1 rfl
  |apply lP s 1 rfl
  |apply And.intro (cm s 1 rfl)
  |apply lI s 2 rfl
  |apply lS s 2 rfl
  |apply lB s 2 rfl
  |apply lP s 2 rfl
  |apply And.intro (cm s 2 rfl)
  |(refine ax s (i:=0) rfl rfl rfl λw s=>?_)
  |(refine ax s (i:=1) rfl rfl rfl λw s=>?_)
  |(refine ax s (i:=2) rfl rfl rfl λw s=>?_)
  |refine aQ s λb w s=>?_
  |(refine aV s λb w s=>?_;simp[ahz,ado,anj,ahA]at s)
  |apply cj (by decide) (by decide) (by decide)
  |apply And.intro ?_
  |(replace s:=ay s;first
   |apply lI s 0 rfl
   |apply lS s 0 rfl
   |apply lB s 0 rfl
   |apply lP s 0 rfl
   |apply And.intro (cm s 0 rfl)
   |apply lI s 1 rfl
   |apply lS s 1 rfl
   |apply lB s 1 rfl
   |apply lP s 1 rfl
   |apply And.intro (cm s 1 rfl)
   |apply lI s 2 rfl
   |apply lS s 2 rfl
   |apply lB s 2 rfl
   |apply lP s 2 rfl
   |apply And.intro (cm s 2 rfl)
   |(refine ax s (i:=0) rfl rfl rfl λw s=>?_)
   |(refine ax s (i:=1) rfl rfl rfl λw s=>?_)
   |(refine ax s (i:=2) rfl rfl rfl λw s=>?_)
   |refine aQ s λb w s=>?_
   |(refine aV s λb w s=>?_;simp[ahz,ado,anj,ahA]at s)
   |apply cj (by decide) (by decide) (by decide)
   |refine And.intro ?_ ?_)
 all_goals
  rw[e1]at s;exact hb2 _ _ _ _ _ [0,1,2] [] (by decide) rfl s
end
end Go.Proofs.YtmegplnmiepfbaaGreatDoor.S.O
