/- Part 5 of the proof. -/
import Derived.Test.YtmegplnmiepfbaaGreatDoorI3
import Derived.Lib.MakeNoZero
set_option linter.unusedVariables false
set_option linter.unusedSimpArgs false
set_option linter.defProp false
namespace Go.Proofs.YtmegplnmiepfbaaGreatDoor.S
open Go.Sx
attribute [local irreducible] af cv bz bg aA cw bZ St Bx Al App cH cy cD bU aM bF aq bS av ak aW mapA
structure wq where
 a0:Addr
 a2:Addr
 a3:Addr
 a4:Addr
 a5:Addr
 a6:Addr
structure jw (w:World) (g:wq):Prop where
 v0:w.cell? (aZ 0)=some (.iface 401 (.pointer (some g.a0)))
 v1:w.cell? (aZ 1)=some (.iface 219 (rt 74))
 v2:w.cell? (aZ 2)=some (.iface 401 (.pointer (some g.a2)))
 v3:w.cell? (aZ 3)=some (.iface 401 (.pointer (some g.a3)))
 v4:w.cell? (aZ 4)=some (.iface 401 (.pointer (some g.a4)))
 v5:w.cell? (aZ 5)=some (.iface 401 (.pointer (some g.a5)))
 v6:w.cell? (aZ 6)=some (.iface 401 (.pointer (some g.a6)))
 n23:g.a2≠g.a3
 n56:g.a5≠g.a6
 b2:∃c t,w.heap[g.a2.block]? =some (.cells c t (0,0))
 b3:∃c t,w.heap[g.a3.block]? =some (.cells c t (0,0))
 b5:∃c t,w.heap[g.a5.block]? =some (.cells c t (0,0))
 b6:∃c t,w.heap[g.a6.block]? =some (.cells c t (0,0))
def Xp {w w':World}{k:Nat}{o:Obj}(f:Fr No w w')(h:w.heap[k]? =some o):w'.heap[k]? =some o:=by rw[Fr.block f k (Array.getElem?_eq_some_iff.1 h).1 id];exact h
def jw.fr {w w':World}{g:wq}(k:jw w g)(f:Fr No w w'):jw w' g where
 v0:=Fr.cell f k.v0 id
 v1:=Fr.cell f k.v1 id
 v2:=Fr.cell f k.v2 id
 v3:=Fr.cell f k.v3 id
 v4:=Fr.cell f k.v4 id
 v5:=Fr.cell f k.v5 id
 v6:=Fr.cell f k.v6 id
 n23:=k.n23
 n56:=k.n56
 b2:=let⟨c,t,h⟩:=k.b2;⟨c,t,Xp f h⟩
 b3:=let⟨c,t,h⟩:=k.b3;⟨c,t,Xp f h⟩
 b5:=let⟨c,t,h⟩:=k.b5;⟨c,t,Xp f h⟩
 b6:=let⟨c,t,h⟩:=k.b6;⟨c,t,Xp f h⟩
structure CF where
 a:Int
 b:Int
 c:Int
 d:Int
 e:Int
 f:Int
structure WM (x:CF):Prop where
 a:Ta.U x.a
 b:Ta.U x.b
 c:Ta.U x.c
 d:Ta.U x.d
 e:Ta.U x.e
 f:Ta.U x.f
def CF.add (x y:CF):CF:=⟨Ta.sat x.a y.a,Ta.sat x.b y.b,Ta.sat x.c y.c,Ta.sat x.d y.d,Ta.sat x.e y.e,Ta.sat x.f y.f⟩
def WM.add {x y:CF}(hx:WM x)(hy:WM y):WM (x.add y):=⟨Ta.GM hx.a hy.a,Ta.GM hx.b hy.b,Ta.GM hx.c hy.c,Ta.GM hx.d hy.d,Ta.GM hx.e hy.e,Ta.GM hx.f hy.f⟩
def ael (x:CF):List Value:=[.int .u64 x.a,.int .u64 x.b,.int .u64 x.c,.int .u64 x.d,.int .u64 x.e,.int .u64 x.f]
structure AG where
 p:Nat
 sh:WB
 gr:uL
 mr:BC
 fp:Nat
structure kP where
 g:iC
 ms:nJ
 f:GQ
structure gz where
 k:Int
 x:A2
 o:Option kP
 past:CF
def GW (r:AG)(y:gz):List Value:=match y.o with
 |some _=>[.pointer (sZ r.gr.p),.pointer (sZ r.mr.p),.pointer (sZ r.fp),.pointer (sZ r.sh.p)]++ael y.past
 |none=>[.pointer none,.pointer none,.pointer none,.pointer (sZ r.sh.p)]++ael y.past
noncomputable def IE (r:AG)(o:Option kP):List As:=match o with
 |some m=>[n7 r.gr m.g,uM r.mr r.gr.p m.ms,uQ r.fp r.mr.p r.gr.p m.f]
 |none=>[]
noncomputable def al9 (r:AG)(y:gz):List As:=av r.p 106 (GW r y)::j6 r.sh y.k y.x::IE r y.o
structure avl (y:gz) (m:kP):Prop where
 g:xI m.g
 I:yL m.g m.ms
 J:ace m.g m.f
 nX:m.g.m.w*m.g.m.h<=1600
 right:SZ (aiO m.g) y.x.p
structure GX (y:gz):Prop where
 sh:aef y.k y.x.p
 past:WM y.past
 m:∀m,y.o=some m->avl y m
noncomputable def iq (r:AG)(y:gz):As:=aW (GX y) (al9 r y)
section
variable {F:Nat->Prop}{W w w0:World}{L:List As}{r:AG}{y:gz}
def CG (s:Sep F W w (iq r y::L)):GX y/\Sep F W w (al9 r y++L):=gR s
def WN (s:Sep F W w (al9 r y++L))(h:GX y):Sep F W w (iq r y::L):=dA s h
noncomputable abbrev aao (r:AG)(past:CF):As:=av r.p 106 [.pointer (sZ r.gr.p),.pointer (sZ r.mr.p),.pointer (sZ r.fp),.pointer (sZ r.sh.p),.int .u64 past.a,.int .u64 past.b,.int .u64 past.c,.int .u64 past.d,.int .u64 past.e,.int .u64 past.f]
def NX {m:kP}(ho:y.o=some m)(s:Sep F W w (iq r y::L)):GX y/\Sep F W w (aao r y.past::j6 r.sh y.k y.x::n7 r.gr m.g::uM r.mr r.gr.p m.ms::uQ r.fp r.mr.p r.gr.p m.f::L):=by obtain⟨h,s⟩:=CG s;have s:Sep F W w (av r.p 106 (GW r y)::j6 r.sh y.k y.x::(IE r y.o++L)):=s;unfold GW at s;rw[ho]at s;exact⟨h,s⟩
def KB {m:kP}{k:Int}{x:A2}{past:CF}(s:Sep F W w (aao r past::j6 r.sh k x::n7 r.gr m.g::uM r.mr r.gr.p m.ms::uQ r.fp r.mr.p r.gr.p m.f::L))(h:GX ⟨k,x,some m,past⟩):Sep F W w (iq r ⟨k,x,some m,past⟩::L):=
 WN s h
def agD {Q:Option Addr->World->Prop}{k:Int}(hk:1<=k/\k<=100000)(s:Sep F W w L)
  (h:∀r x w',x.p=⟨[],[],0,0,0,0⟩->Sep F W w' (iq r ⟨k,x,none,⟨0,0,0,0,0,0⟩⟩::L)->Q (sZ r.p) w'):Jq k w Q:=by
 apply af7;rw[bh];refine ach s (λe=>by omega) λ_ sr w s=>?_;refine aQ s λp w s=>?_;have u0:Ta.U 0:=by unfold Ta.U;omega
 refine h ⟨p,sr,⟨0,none,0,0,none,0,0⟩,⟨0,none,0,0⟩,0⟩ _ w rfl (WN s ⟨⟨hk.1,hk.2,Lr.LZ (k:=k) (by omega),rfl,u0,u0,u0,u0,(λq hq=>by cases hq)⟩,⟨u0,u0,u0,u0,u0,u0⟩,λm e=>by cases e⟩)
structure aiX (w:World) (r:AG) (y:gz) (m:kP):Prop where
 ok:GX y
 o:y.o=some m
 cell:r_ w r.p (GW r y)
 g:n8 w r.gr m.g
def tB {m:kP}(s:Sep F W w (iq r y::L))(ho:y.o=some m):aiX w r y m:=by obtain⟨h,s⟩:=CG s;refine⟨h,ho,lz s (i:=0) rfl,?_⟩;have s:Sep F W w (av r.p 106 (GW r y)::j6 r.sh y.k y.x::(IE r y.o++L)):=s;rw[ho]at s;exact oU (ai (ai s))
def aiX.c0 {m:kP}(k:aiX w r y m){j:Nat}{v:Value}(h:([.pointer (sZ r.gr.p),.pointer (sZ r.mr.p),.pointer (sZ r.fp),.pointer (sZ r.sh.p)]++ael y.past)[j]? =some v):w.cell? ((aZ r.p).add j)=some v:=by apply k.cell j v;rw[GW,k.o];exact h
def Ih {Q:Int->World->Prop}{m:kP}{c:Int}(k:aiX w r y m)(h:Q (cV m.g.m c) w):rU (sZ r.p) c w Q:=by apply Vs;have h0:=k.c0 (j:=0) rfl;exact mN (ah (ef h0 (ju k.g h)))
def Rf {Q:Int->Int->World->Prop}{m:kP}(s0:Sep F W w L)(k:aiX w r y m)(h:∀w',Sep F W w' L->Fr No w w'->Q m.g.m.w m.g.m.h w'):xj (sZ r.p) w Q:=by apply Vy;have h0:=k.c0 (j:=0) rfl;exact mN (ah (ef h0 (jv s0 k.g h)))
def aem {Q:Int->World->Prop}{m:kP}{ce x:Int}(ho:y.o=some m)(he:m.g.ep<1000000000)(s:Sep F W w (iq r y::L))
  (h7:¬bK m.g.m.w m.g.m.h ce->Q 7 w)(h8:bK m.g.m.w m.g.m.h ce->¬(1<=x/\x<=255)->Q 8 w)
  (h0:bK m.g.m.w m.g.m.h ce->1<=x/\x<=255->∀w',Sep F W w' (iq r ⟨y.k,y.x,some ⟨xJ m.g ce x,m.ms,m.f⟩,y.past⟩::L)->Q 0 w'):B3 (sZ r.p) ce x w Q:=by
 apply Vx;have k:=tB s ho;obtain⟨hok,s⟩:=NX ho s;have hm:=hok.m m ho;have c0:=k.c0 (j:=0) rfl;refine mN (ah (ef c0 ?_));have s:=pk 5 [2,0,1,3,4] s;refine abw s (by omega) h7 h8 λhc hx w s=>?_;refine h0 hc hx w (KB (pk 5 [1,2,0,3,4] s) ⟨hok.sh,hok.past,λm' e=>?_⟩);cases e;exact⟨ah5 hm.g hx (by omega),aoK hm.g hc hm.I,aoL hm.J,hm.nX,al2 hm.right λkey q=>al4 hm.g hc⟩
def acn {Q:World->Prop}{m:kP}(ho:y.o=some m)(s:Sep F W w (iq r y::L))
  (h:∀r' x' w',r'.p=r.p->x'.p=⟨[],[],y.x.b,y.x.h,y.x.st,y.x.ev⟩->Sep F W w' (iq r' ⟨y.k,x',some ⟨m.g,m.ms,⟨none,m.f.fe⟩⟩,y.past⟩::L)->Q w'):vO (sZ r.p) w Q:=by
 apply Hr;have k:=tB s ho;obtain⟨hok,s⟩:=NX ho s;have hm:=hok.m m ho;refine isS (ah (ef (k.c0 rfl) ?_));have s:=jk s;refine OW hok.sh.one s λsr w e s=>?_;refine ah (lP s 1 rfl ?_);have s:=pk 5 [4,0,1,2,3] s;refine Yg s λw s=>?_;have s:=gh (A:=[_,_,_,_,_]) (B:=[aao ⟨r.p,sr,r.gr,r.mr,r.fp⟩ y.past,j6 sr y.k ⟨[],[],y.x.b,y.x.h,y.x.st,y.x.ev⟩,n7 r.gr m.g,uM r.mr r.gr.p m.ms,uQ r.fp r.mr.p r.gr.p ⟨none,m.f.fe⟩]) [2,1,3,4,0] s (by unfold aao;rw[e];rfl) (by decide);refine h ⟨r.p,sr,r.gr,r.mr,r.fp⟩ ⟨[],[],y.x.b,y.x.h,y.x.st,y.x.ev⟩ w rfl rfl (KB s ⟨?_,hok.past,λm' e=>?_⟩)
 ·exact⟨hok.sh.one,hok.sh.room,Lr.LZ (k:=y.k) (by have:=hok.sh.one;omega),rfl,hok.sh.b,hok.sh.h,hok.sh.st,hok.sh.ev,λq hq=>by cases hq⟩
 ·cases e;exact⟨hm.g,hm.I,⟨(λq e=>by cases e),hm.J.u⟩,hm.nX,aft⟩
def Yi {Q:World->Prop}(h:Q w):qA Option.none w Q:=Dx _ _ _ h
def aco {Q:World->Prop}(ho:y.o=Option.none)(s:Sep F W w (iq r y::L))
  (h:∀r' x' w',r'.p=r.p->x'.p=⟨[],[],y.x.b,y.x.h,y.x.st,y.x.ev⟩->Sep F W w' (iq r' ⟨y.k,x',Option.none,y.past⟩::L)->Q w'):vO (some ⟨r.p,0,Option.none⟩) w Q:=by
 apply Hr;obtain⟨hok,s⟩:=CG s;have s:Sep F W w (av r.p 106 (GW r y)::j6 r.sh y.k y.x::(IE r y.o++L)):=s;unfold GW at s;rw[ho]at s;have s:=s;refine isS (ah (lP s 0 rfl ?_));have s:=jk s;refine OW hok.sh.one s λsr w e s=>?_;refine ah (lP s 1 rfl ?_);apply Yi;have s:=jk s;rw[<-e]at s;refine h ⟨r.p,sr,r.gr,r.mr,r.fp⟩ ⟨[],[],y.x.b,y.x.h,y.x.st,y.x.ev⟩ w rfl rfl (WN s ⟨?_,hok.past,λm' e=>by cases e⟩);exact⟨hok.sh.one,hok.sh.room,Lr.LZ (k:=y.k) (by have:=hok.sh.one;omega),rfl,hok.sh.b,hok.sh.h,hok.sh.st,hok.sh.ev,λq hq=>by cases hq⟩
def uR (y:gz):CF:=match y.o with
 |some m=>⟨m.ms.fe,m.f.fe,0,0,0,0⟩
 |none=>⟨0,0,0,0,0,0⟩
def aoP (h:GX y):WM (uR y):=by
 have u0:Ta.U 0:=by unfold Ta.U;omega
 unfold uR;cases hy:y.o with
 |none=>exact⟨u0,u0,u0,u0,u0,u0⟩
 |some m=>exact⟨(h.m m hy).I.u,(h.m m hy).J.u,u0,u0,u0,u0⟩
def Mf {Q:Int->Int->Int->Int->Int->Int->World->Prop}(s:Sep F W w (iq r y::L))(h:∀w',Sep F W w' (iq r y::L)->Fr No w w'->Q (uR y).a (uR y).b (uR y).c (uR y).d (uR y).e (uR y).f w'):uk (some ⟨r.p,0,Option.none⟩) w Q:=by
 apply RQ;refine aV (bt (F:=No)) λp w1 s1=>?_;have fin:∀w',Sep No w w' []->Q (uR y).a (uR y).b (uR y).c (uR y).d (uR y).e (uR y).f w':=λw' s'=>h w' (gg s s') (au s');apply ah;cases hy:y.o with
 |some m=>
  obtain⟨hok,so⟩:=NX hy s;have k:=tB s hy;have km:=(Wm (ai (ai (ai so)))).cell.fr (au s1);have kf:=(NV (ai (ai (ai (ai so))))).fr (au s1);have e:uR y=⟨m.ms.fe,m.f.fe,0,0,0,0⟩:=by unfold uR;rw[hy]
  rw[e]at fin;have c1:=Fr.cell (au s1) (k.c0 (j:=1) rfl) id;have c2:=Fr.cell (au s1) (k.c0 (j:=2) rfl) id;refine ef c1 (ah (ef c2 ?_));refine Z8 km ⟨c2,?_⟩;apply Ww (w:=w1.drew) kf;exact aiL (ay s1) λw' s'=>fin w' (ai s')
 |none=>
  obtain⟨hok,so⟩:=CG s;have so:Sep F W w (av r.p 106 (GW r y)::j6 r.sh y.k y.x::(IE r y.o++L)):=so;unfold GW at so;rw[hy]at so;have kb:=lz so (i:=0) rfl;have e:uR y=⟨0,0,0,0,0,0⟩:=by unfold uR;rw[hy]
  rw[e]at fin;have c1:=Fr.cell (au s1) (kb 1 _ rfl) id;have c2:=Fr.cell (au s1) (kb 2 _ rfl) id;refine ef c1 (ah (ef c2 ?_));refine Z9 ⟨c2,?_⟩;apply Wx;exact aiL (ay s1) λw' s'=>fin w' (ai s')
def Rh (s:Sep F W w (iq r y::L)):r_ w r.sh.p (GS r.sh y.x)/\w.cell? ((⟨r.p,0,Option.none⟩:Addr).add 3)=some (.pointer (some ⟨r.sh.p,0,Option.none⟩))/\(∀j v,(ael y.past)[j]? =some v->w.cell? ((⟨r.p,0,Option.none⟩:Addr).add (4+j))=some v):=by
 obtain⟨hok,so⟩:=CG s;have so:=so;have kb:=lz so (i:=0) rfl;refine⟨al3 so (i:=1) rfl,?_,λj v hj=>?_⟩
 ·apply kb 3;unfold GW;grind
 ·apply kb (4+j) v;unfold GW;grind
def WO (y:gz):CF:=(y.past.add (uR y)).add ⟨0,0,y.x.b,y.x.h,y.x.st,y.x.ev⟩
def acp {Q:Int->Int->Int->Int->Int->Int->World->Prop}(s:Sep F W w (iq r y::L))(h:∀w',Sep F W w' (iq r y::L)->Q (WO y).a (WO y).b (WO y).c (WO y).d (WO y).e (WO y).f w'):A8 (some ⟨r.p,0,Option.none⟩) w Q:=by
 apply Uh;refine aV s λp w1 s1=>?_;have s1:=ay (jk s1);obtain⟨k1,k2,k3⟩:=Rh s1;have hok:=(CG s1).1;have hu:=hok.past;have hn:=aoP hok;have u0:Ta.U 0:=by unfold Ta.U;omega
 refine mN (ah ?_);refine aO (k3 0 _ rfl) (aO (k3 1 _ rfl) (aO (k3 2 _ rfl) (aO (k3 3 _ rfl) (aO (k3 4 _ rfl) (aO (k3 5 _ rfl) ?_)))));refine ah (ef k2 ?_);refine Mf s1 λw2 s2 f2=>?_;obtain⟨q1,q2,q3⟩:=Rh s2;refine⟨q2,q3 0 _ rfl,q3 1 _ rfl,q3 2 _ rfl,q3 3 _ rfl,q3 4 _ rfl,q3 5 _ rfl,?_⟩;refine Ta.GN s2 ⟨⟨hu.a,hu.b,hu.c,hu.d,hu.e,hu.f⟩,hn.a,hn.b,hn.c,hn.d,hn.e,hn.f⟩ λw3 s3=>?_;obtain⟨q1,q2,q3⟩:=Rh s3;refine⟨q2,?_⟩;refine aj2 s3 q1 λw4 s4 _=>?_;have ha:=WM.add hu hn;refine Ta.GN s4 ⟨⟨ha.a,ha.b,ha.c,ha.d,ha.e,ha.f⟩,u0,u0,hok.sh.b,hok.sh.h,hok.sh.st,hok.sh.ev⟩ λw5 s5=>?_;exact aiL (jk s5) λw6 s6=>h w6 (ai s6)
end
def epO (o:Option kP):Int:=match o with
 |some m=>m.g.ep
 |none=>0
def agQ (m:bM):nJ:=⟨List.replicate (eL m.w m.h).toNat LY,0,0⟩
def al_ (o:Option kP)(mp:bM):kP:=⟨OS mp (epO o),agQ mp,⟨none,0⟩⟩
def aqT {mp:bM}{e:Int}(hm:cW mp)(he:0<=e):yL (OS mp e) (agQ mp):=by
 have hc:=gS hm.w hm.h;have hv:∀q∈(agQ mp).ps,q=LY:=λq hq=>(List.mem_replicate.1 hq).2;have u0:Ta.U 0:=by unfold Ta.U;omega
 refine⟨?_,⟨by show(0:Int)<=e+1;omega,λq hq=>?_⟩,λe'=>?_,λi q hq hv'=>?_,u0⟩
 ·show((List.replicate _ _).length:Int)=eL mp.w mp.h;grind
 ·rw[hv q hq];show(0:Int)<=e+1;omega
 ·have e':(0:Int)=e+1:=e';omega
 ·rw[hv q (List.mem_of_getElem? hq)]at hv';have hi:=(List.getElem?_eq_some_iff.1 hq).1;have hi:i<(List.replicate (eL mp.w mp.h).toNat LY).length:=hi;have e1:gi (OS mp e).vs i=e+1:=by show(List.replicate (eL mp.w mp.h).toNat (e+1)).getD i 0=e+1;grind
  rw[e1]at hv';have hv':(0:Int)=e+1:=hv';omega
section
variable {F:Nat->Prop}{W w w0:World}{L:List As}{r:AG}{y:gz}{mp:bM}{a:Option Addr}{n c:Nat}
def ama (h:GX y):0<=epO y.o:=by
 unfold epO;cases hy:y.o with
 |none=>grind
 |some m=>have:=(h.m m hy).g.ep;grind
noncomputable abbrev ar3 (p sp:Nat)(v0 v1 v2:Value)(q:CF):As:=av p 106 [v0,v1,v2,.pointer (sZ sp),.int .u64 q.a,.int .u64 q.b,.int .u64 q.c,.int .u64 q.d,.int .u64 q.e,.int .u64 q.f]
def gpO (r:AG)(o:Option kP):Option Addr:=match o with
 |some _=>sZ r.gr.p
 |none=>none
def atj (s:Sep F W w (iq r y::L)):∃v1 v2,Sep F W w (ar3 r.p r.sh.p (.pointer (gpO r y.o)) v1 v2 y.past::j6 r.sh y.k y.x::(IE r y.o++L)):=by
 obtain⟨hok,so⟩:=CG s;have so:Sep F W w (av r.p 106 (GW r y)::j6 r.sh y.k y.x::(IE r y.o++L)):=so;unfold GW at so;cases hy:y.o with
 |none=>
  rw[hy]at so;exact⟨_,_,so⟩
 |some m=>
  rw[hy]at so;exact⟨_,_,so⟩
def aoQ {Q:Int->World->Prop}{A B:As}(hok:GX y)(s:Sep F W w (A::B::(IE r y.o++L)))(h:Q (epO y.o) w):gf (gpO r y.o) w Q:=by
 cases hy:y.o with
 |none=>
  rw[hy]at h;exact ZT h
 |some m=>
  rw[hy]at h s;have s:=s;exact rA (oU (ai (ai s))) h
def aen {Q:Int->World->Prop}(hm:cW mp)(hr:eA mp.cs)(o9:mp.w*mp.h<=1600)(hC:∀w',Sep F W w' L->Sl w' a n c 1 bu mp.cs)(he:epO y.o<1000000000)(s:Sep F W w (iq r y::L))
  (h:∀r' x' w',r'.p=r.p->x'.p=⟨[],[],y.x.b,y.x.h,y.x.st,y.x.ev⟩->Sep F W w' (iq r' ⟨y.k,x',some (al_ y.o mp),y.past.add (uR y)⟩::L)->Q 0 w'):B2 (sZ r.p) mp.w mp.h a n c w Q:=by
 apply Vv;have hok:=(CG s).1;have Yy:=ama hok;have hu:=hok.past;have hn:=aoP hok;refine aQ s λmb w s=>mN ?_;refine lI s 0 rfl (lI s 0 rfl (lS s 0 rfl ?_));refine Nv s (hC _ (ai (ai s))) λw s _=>?_;rw[(V1 hr).2 hm,Bool.not_true,cond_false];apply ah;have s:=ay (jk s);obtain⟨k1,k2,k3⟩:=Rh s;refine aO (k3 0 _ rfl) (aO (k3 1 _ rfl) (aO (k3 2 _ rfl) (aO (k3 3 _ rfl) (aO (k3 4 _ rfl) (aO (k3 5 _ rfl) ?_)))));refine Mf s λw s _=>?_;obtain⟨q1,q2,q3⟩:=Rh s;refine⟨q3 0 _ rfl,q3 1 _ rfl,q3 2 _ rfl,q3 3 _ rfl,q3 4 _ rfl,q3 5 _ rfl,?_⟩;refine Ta.GN s ⟨⟨hu.a,hu.b,hu.c,hu.d,hu.e,hu.f⟩,hn.a,hn.b,hn.c,hn.d,hn.e,hn.f⟩ λw s=>?_;obtain⟨v1,v2,s⟩:=atj s;apply ah;refine sT s 0 rfl λw s=>?_;refine sT s 0 rfl λw s=>?_;refine sT s 0 rfl λw s=>?_;refine sT s 0 rfl λw s=>?_;refine sT s 0 rfl λw s=>?_;refine ax s (i:=0) rfl rfl rfl λw s=>?_;have s:=ck s (L':=av mb 25 [ae mp.w,ae mp.h,.slice a n c]::ar3 r.p r.sh.p (.pointer (gpO r y.o)) v1 v2 (y.past.add (uR y))::j6 r.sh y.k y.x::(IE r y.o++L)) (List.perm_middle (l₁:=_::_::IE r y.o));have s:=ay s;refine lI s 0 rfl (lI s 0 rfl (lS s 0 rfl ?_));refine ah (lP s 1 rfl ?_);apply aoQ hok (ai s);refine⟨cq s 0 rfl,cq s 0 rfl,cq s 0 rfl,?_⟩;have s:=gw (ai s) (.cons_cons _ (.cons_cons _ (List.sublist_append_right _ _)));refine adN s (hC _ (ai (ai s))) hr (by omega) (λe=>(e hm).elim) λ_ gr w s _=>?_;refine ah (ax s (i:=1) rfl rfl rfl λw s=>?_);refine ah (lP s 1 rfl ?_);refine ad3 s (oU s) λmr w s _=>?_;refine ah (ax s (i:=2) rfl rfl rfl λw s=>?_);have s:=ay s;refine ah (lP s 2 rfl (ah (lP s 2 rfl ?_)));refine acf s λfp w s _=>?_;refine ah (ax s (i:=3) rfl rfl rfl λw s=>?_);refine ah (lP s 3 rfl ?_);have s:=pk 5 [4,3,2,1,0] s;refine OW hok.sh.one s λsr w e s=>?_;rw[<-e]at s;have s:=pk 5 [1,0,2,3,4] s;refine h ⟨r.p,sr,gr,mr,fp⟩ ⟨[],[],y.x.b,y.x.h,y.x.st,y.x.ev⟩ w rfl rfl (KB s ⟨?_,WM.add hu hn,λm' e=>?_⟩)
 ·exact⟨hok.sh.one,hok.sh.room,Lr.LZ (k:=y.k) (by have:=hok.sh.one;omega),rfl,hok.sh.b,hok.sh.h,hok.sh.st,hok.sh.ev,λq hq=>by cases hq⟩
 ·cases e;have u0:Ta.U 0:=by unfold Ta.U;omega
  exact⟨akw hm (by omega),aqT hm Yy,⟨(λq e=>by cases e),u0⟩,o9,aft⟩
end
section
variable {m:bM}{t sc l:Int}
noncomputable def tR (m:bM)(t sc:Int):List bj:=NA (E7 m (D m t) t sc)
noncomputable def GY (m:bM)(t sc:Int):List Int:=jB (aE m.w m.h sc) (bC m.w m.h sc) (dU m sc) (tR m t sc)
noncomputable def CH (m:bM)(t sc:Int):List Int:=nY (aE m.w m.h sc) (bC m.w m.h sc) (dU m sc) (tR m t sc)
def S4 (xs:List bj):(NA xs).Perm xs:=List.mergeSort_perm _ _
def WQ (x:bj):x∈tR m t sc↔x∈E7 m (D m t) t sc:=(S4 _).mem_iff
def OY (hs:dY m.w m.h sc):(tR m t sc).Nodup:=(S4 _).nodup_iff.2 (Wz hs).1
def aoR (hs:dY m.w m.h sc):(tR m t sc).length<=1025:=by rw[tR,(S4 _).length_eq];exact(Wz hs).2
def aap (hm:cW m)(hs:dY m.w m.h sc)(ht:bK m.w m.h t):r9 (aE m.w m.h sc) (bC m.w m.h sc) (dU m sc) (tR m t sc)=true:=by rw[r9,Bool.and_eq_true];exact⟨(Q0 hm hs).DV,List.all_eq_true.2 λx hx=>auy hm hs ht ((WQ x).1 hx)⟩
def ar4 (hm:cW m)(hs:dY m.w m.h sc)(ht:bK m.w m.h t)(hl:0<=l/\l<aE m.w m.h sc*bC m.w m.h sc):gi (GY m t sc) l.toNat=D m t (bV m.w m.h sc l):=by have hlen:=Cw (m:=m) (sc:=sc);rw[GY,akJ ⟨hl.1,by omega⟩];exact auv hm hs ht WQ hl
def ar5 (hm:cW m)(hs:dY m.w m.h sc)(ht:bK m.w m.h t)(hl:0<=l/\l<aE m.w m.h sc*bC m.w m.h sc):gi (CH m t sc) l.toNat=tA m t (bV m.w m.h sc l):=by have hlen:=Cw (m:=m) (sc:=sc);unfold CH nY gi;rw[List.getD_eq_getElem?_getD,List.getElem?_map,List.getElem?_range (by omega)];show ZW _ _ _ _ _ ((l.toNat:Nat):Int)=_;rw[Int.toNat_of_nonneg hl.1];refine dir_eq hm hs ht WQ (λl' hl'=>?_) hl;rw[fD,if_pos ⟨hl'.1,by show l'<((jB _ _ _ _).length:Int);rw[Z4];omega⟩];exact ar4 hm hs ht hl'
end
structure xQ where
 g:iC
 S5:List Int
 clean:Int
 fe:Int
 kept:Option (Int×Int)
 fc:Int
def kP.p (m:kP):xQ:=⟨m.g,m.ms.ps.map (·.ff),m.ms.clean,m.ms.fe,NT m.f,m.f.fe⟩
structure pY where
 k:Int
 sh:TL
 o:Option xQ
 past:CF
def gz.p (y:gz):pY:=⟨y.k,y.x.p,y.o.map kP.p,y.past⟩
def aiZ (g:iC)(S5:List Int):Nat:=((List.range S5.length).filter λi=>gi S5 i !=gi g.vs i).length
noncomputable def GZ (q:pY)(m:xQ)(t sc:Int):pY:=⟨q.k,CE q.k q.sh (t,sc) ⟨zH m.g sc,tR m.g.m t sc,GY m.g.m t sc,CH m.g.m t sc⟩,some ⟨m.g,m.g.vs,m.g.ep,ad2 (aiZ m.g m.S5) m.fe,some (t,m.g.ep),if m.kept=some (t,m.g.ep)then m.fc else Ta.sat m.fc 1⟩,q.past⟩
def aqU {g:iC}{x:nJ}:aiZ g (x.ps.map (·.ff))=(kH g x x.ps.length).length:=by unfold aiZ kH;rw[List.length_map];refine congrArg List.length (List.filter_congr λi hi=>?_);unfold SQ gi;grind
def amb {g:iC}{x:nJ}(hg:xI g)(I:yL g x)(hf:NK g x):x.ps.map (·.ff)=g.vs:=by
 have h1:=I.len;have h2:=hg.len;refine List.ext_getElem? λi=>?_;rw[List.getElem?_map];by_cases hi:i<x.ps.length
 ·have e1:=List.getElem?_eq_getElem hi;have e2:g.vs[i]? =some g.vs[i]:=List.getElem?_eq_getElem (by omega);have:=hf i _ e1;rw[e1,e2];show some x.ps[i].ff=_;rw[this];unfold gi;grind
 grind
section
variable {W w w0:World}{L:List As}{r:AG}{y:gz}{lg:wq}{t sc:Int}
def ai0 {Q:Option Addr->Nat->Nat->Option Addr->Nat->Nat->Value->World->Prop}{fb:Nat}(hL:jw W lg)(s:Sep No W w (av fb 213 [.slice none 0 0,.slice none 0 0]::L))
  (h:∀eb w',Sep No W w' (av eb 275 [ae t,.iface 401 (.pointer (some lg.a3))]::L)->Q none 0 0 none 0 0 (.iface 273 (.pointer (sZ eb))) w'):tN Q t (aZ fb) w:=by
 have s:=ay s;have v3:∀{w L},Sep No W w L->w.cell? (aZ 3)=some (.iface 401 (.pointer (some lg.a3))):=λs=>Fr.cell (au s) hL.v3 id;apply mJ (v3 s) rfl;constructor
 ·refine aQ s λeb w s=>?_;refine sT s 1 rfl λw s=>?_;refine ax s (i:=1) rfl rfl rfl λw s=>?_;refine⟨v3 s,?_⟩;refine lS s 1 rfl (lS s 1 rfl ?_);exact h eb w (gw s (.cons_cons _ (.cons _ (List.Sublist.refl _))))
 ·refine sT s 0 rfl λw s=>?_;refine ax s (i:=0) rfl rfl rfl λw s=>?_;refine⟨v3 s,?_⟩;refine aQ s λeb w s=>?_;refine lS s 1 rfl (lS s 1 rfl ?_);exact h eb w (gw s (.cons_cons _ (.cons _ (List.Sublist.refl _))))
def aqV {Q:Option Addr->Nat->Nat->Option Addr->Nat->Nat->Value->World->Prop}{b6 f:Nat}{da ra:Option Addr}{dn dc rn rc:Nat}{A:List As}{v1 v2:Value}(s:Sep No W w (av f 213 [.slice da dn dc,.slice ra rn rc]::av b6 213 [v1,v2]::L))
  (h:∀w',Sep No W w' L->Q da dn dc ra rn rc .nilIface w'):jL Q t (aZ b6) (aZ f) 0 w:=by
 unfold jL;refine lS s 0 rfl (lS s 0 rfl ?_);refine sT s 1 rfl λw s=>?_;refine ax s (i:=1) rfl rfl rfl λw s=>?_;refine lS s 1 rfl (lS s 1 rfl ?_);exact h w (ai (ai s))
end
section
variable {W w w0:World}{L:List As}{r:AG}{y:gz}{lg:wq}{t sc:Int}
def aBJ:zc T 84=[ae 0,ae 0,.slice none 0 0]:=rfl
noncomputable abbrev amc (r:AG)(m:kP)(past:CF)(ms:nJ)(f:GQ)(tb p6:Nat)(ta:Option Addr)(tn tc:Nat)(sa:Option Addr)(sn sk:Nat)(t sc:Int)(L:List As):List As:=
 ak sa sn sk 294 3 (flat fW (tR m.g.m t sc))::ak ta tn tc 5 1 (flat bu (dU m.g.m sc))::av tb 84 [ae (aE m.g.m.w m.g.m.h sc),ae (bC m.g.m.w m.g.m.h sc),.slice ta tn tc]::av p6 213 [.slice none 0 0,.slice none 0 0]::aao r past::n7 r.gr m.g::uM r.mr r.gr.p ms::uQ r.fp r.mr.p r.gr.p f::L
def atk {Q:Option Addr->Nat->Nat->Option Addr->Nat->Nat->Value->World->Prop}{m:kP}{ms:nJ}{f:GQ}{tb p6 fb:Nat}{ta sa da ra:Option Addr}{tn tc sn sk n dc rc:Nat}{x':A2}{sr:WB}{v1 v2:Value}(e:sr.p=r.sh.p)(hok:GX ⟨y.k,x',some ⟨m.g,ms,f⟩,y.past⟩)
  (s:Sep No W w (av fb 213 [v1,v2]::ak ra n rc 3 1 (flat one (CH m.g.m t sc))::ak da n dc 3 1 (flat one (GY m.g.m t sc))::j6 sr y.k x'::amc r m y.past ms f tb p6 ta tn tc sa sn sk t sc L))
  (uP:∀r' w',r'.p=r.p->Sep No W w' (ak ra n rc 3 1 (flat one (CH m.g.m t sc))::ak da n dc 3 1 (flat one (GY m.g.m t sc))::iq r' ⟨y.k,x',some ⟨m.g,ms,f⟩,y.past⟩::L)->Q da n dc ra n rc .nilIface w'):
  St ((aZ fb).add 0) (.slice da n dc) w λw=>St ((aZ fb).add 1) (.slice ra n rc) w λw=>jL Q t (aZ p6) (aZ fb) 0 w:=by
 refine sT s 0 rfl λw s=>?_;refine ax s (i:=0) rfl rfl rfl λw s=>?_;have s:=gh (A:=[_,_,_,_,_,_,_,_,_,_,_,_]) (B:=[_,_,_,_,_,_,_,_,_]) [0,7,8,3,9,10,11,1,2] s rfl (by decide);refine aqV (A:=[]) s λw s=>?_;have s:Sep No W w (aao ⟨r.p,sr,r.gr,r.mr,r.fp⟩ y.past::j6 sr y.k x'::n7 r.gr m.g::uM r.mr r.gr.p ms::uQ r.fp r.mr.p r.gr.p f::ak ra n rc 3 1 (flat one (CH m.g.m t sc))::ak da n dc 3 1 (flat one (GY m.g.m t sc))::L):=by unfold aao;simp_all
 have s:=KB s hok;have s:=gh (A:=[_,_,_]) (B:=[_,_,_]) [1,2,0] s rfl (by decide);grind
attribute [local irreducible] tN jL yJ in
theorem NY {Q:Option Addr->Nat->Nat->Option Addr->Nat->Nat->Value->World->Prop}{m:kP}(ho:y.o=some m)(hL:jw W lg)(s:Sep No W w (iq r y::L))(N0:Lr.YG (t,sc))
  (G0:¬(bK m.g.m.w m.g.m.h t/\dY m.g.m.w m.g.m.h sc)->∀eb w',Sep No W w' (av eb 275 [ae t,.iface 401 (.pointer (some lg.a3))]::iq r y::L)->Q none 0 0 none 0 0 (.iface 273 (.pointer (sZ eb))) w')
  (uP:bK m.g.m.w m.g.m.h t->dY m.g.m.w m.g.m.h sc->∀r' y' da dc ra rc w',r'.p=r.p->y'.p=GZ y.p m.p t sc->Sep No W w' (ak ra (dU m.g.m sc).length rc 3 1 (flat one (CH m.g.m t sc))::ak da (dU m.g.m sc).length dc 3 1 (flat one (GY m.g.m t sc))::iq r' y'::L)->Q da (dU m.g.m sc).length dc ra (dU m.g.m sc).length rc .nilIface w'):
  vT (sZ r.p) t sc w Q:=by
 apply UG;refine aV s λp6 w s=>?_;have s:=jk s;have k:=tB s ho;have c0:=k.c0 (j:=0) rfl;refine mN (ah (ef c0 (mN (ah (ef c0 ?_)))));have hm:=(k.ok.m m ho);have hmay:=hm.g.may;refine Nu s k.g (λhs w s _=>?_) λhs ta tn tc w s _=>?_
 ·
  refine aV s λtb w s=>?_;refine sT s 0 rfl λw s=>?_;refine sT s 0 rfl λw s=>?_;refine sT s 0 rfl λw s=>?_;have s:=ai s;have k:=tB s ho;have c0:=k.c0 (j:=0) rfl;refine ah (ef c0 (ju k.g ?_));have fin:=ai0 hL (jk s) λeb w s=>G0 (λe=>hs e.2) eb w s;grind
 ·rw[aid hmay hs]at s;refine aV s λtb w s=>?_;refine sT s 0 rfl λw s=>?_;refine sT s 0 rfl λw s=>?_;refine ax s (i:=0) rfl rfl rfl λw s=>?_;have k:=tB (ai (ai s)) ho;have c0:=k.c0 (j:=0) rfl;refine ah (ef c0 (ju k.g ?_));by_cases ht:bK m.g.m.w m.g.m.h t
  ·have vJ:=LP hmay ht;rw[cB (by omega),cond_false,Bool.not_true,cond_false];have s:=gh (A:=[_,_,_,_]) (B:=[_,_,_,_]) [2,0,1,3] s rfl (by decide);obtain⟨hok,s⟩:=NX ho s;have s:=ay s;refine ah (lP s 0 rfl (ah (lP s 0 rfl ?_)));have s:=gh (A:=[_,_,_,_,_,_,_,_]) (B:=[_,_,_,_,_,_,_,_]) [2,3,4,0,1,5,6,7] s rfl (by decide);refine Yh s hm.I hm.J ht hm.nX λms' rr ds w I' hf' yp Wi hro s=>?_;refine⟨cq s 3 rfl,?_⟩;have kr:=afq (ai (ai s)) rfl;refine WA s (oU s) kr hro ht hs λsa sn sk w s _=>?_;have s:=ay s;refine ah (lP s 4 rfl (ah (lP s 4 rfl ?_)));refine lI s 6 rfl (lI s 6 rfl (lS s 6 rfl ?_));have s:=gh (A:=[_,_,_,_,_,_,_,_,_]) (B:=[_,_,_,_,_,_,_,_,_]) [5,0,7,6,8,4,1,2,3] s rfl (by decide);generalize hf:(⟨some (rr,⟨t,m.g.ep,ds⟩),if NT m.f=some (t,m.g.ep)then m.f.fe else Ta.sat m.f.fe 1⟩:GQ)=f' at s;have s:=s;have LN:(tR m.g.m t sc).length=sn:=(aK s (i:=1) rfl nI (by decide)).len;have BR:=aoR (t:=t) hs;have hu1:Ta.U f'.fe:=by
    rw[<-hf];split
    ·exact hm.J.u
    ·exact Ta.GM hm.J.u (by unfold Ta.U;omega)
   have J':ace m.g f':=by refine⟨λq e=>?_,hu1⟩;rw[<-hf]at e;cases e;exact⟨Int.le_refl _,λ_=>⟨ht,hro⟩⟩
   have ayx:zH m.g sc<=m.g.ep:=by
    unfold zH;split
    ·have hm1:gi m.g.vs sc.toNat∈m.g.vs:=by rw[gi,List.getD_eq_getElem?_getD,List.getElem?_eq_getElem (by omega)];exact List.getElem_mem _
     exact(hm.g.vs _ hm1).2
    ·have:=hm.g.ep;omega
   have hh:(Lr.kO y.k y.x.l (t,sc)).1.2.1=true->∀q,y.x.p.es[(Lr.kO y.k y.x.l (t,sc)).1.1.toNat]? =some q->q.ff=zH m.g sc->q.iR=tR m.g.m t sc->q.ds=GY m.g.m t sc/\q.rs=CH m.g.m t sc:=λhd q hq hv he=>by obtain⟨_,_,h3⟩:=aiK hok.sh hm.right hd hq;have h4:=h3 hv;rw[he]at h4;exact h4
   have ayy:∀x':A2,x'.p=CE y.k y.x.p (t,sc) ⟨zH m.g sc,tR m.g.m t sc,GY m.g.m t sc,CH m.g.m t sc⟩->GX ⟨y.k,x',some ⟨m.g,ms',f'⟩,y.past⟩:=λx' ex=>by
    refine⟨?_,hok.past,λm' e=>?_⟩
    ·rw[ex];exact aqM hok.sh (by show(tR m.g.m t sc).length<2000;omega)
    ·cases e;refine⟨hm.g,I',J',hm.nX,?_⟩;rw[ex];exact aoH hok.sh hm.right ⟨ayx,hs,λ_=>⟨rfl,rfl⟩⟩
   have hp':∀x':A2,x'.p=CE y.k y.x.p (t,sc) ⟨zH m.g sc,tR m.g.m t sc,GY m.g.m t sc,CH m.g.m t sc⟩->(gz.mk y.k x' (some ⟨m.g,ms',f'⟩) y.past).p=GZ y.p m.p t sc:=λx' ex=>by unfold gz.p GZ;simp only[Option.map_some];rw[ex];unfold kP.p;rw[amb hm.g I' hf',yp,Wi,aqU,<-hf];rfl
   have cC:∀w',Sep No W w' (amc r m y.past ms' f' tb p6 ta tn tc sa sn sk t sc L)->Sl w' ta tn tc 1 bu (dU m.g.m sc):=λw' s=>aK s (i:=1) rfl dO (by decide);have cX:∀w',Sep No W w' (amc r m y.past ms' f' tb p6 ta tn tc sa sn sk t sc L)->Sl w' sa sn sk 3 fW (tR m.g.m t sc):=λw' s=>aK s (i:=0) rfl nI (by decide);have done:∀{fb:Nat} {v1 v2:Value} {w:World} {sr:WB} {x':A2} {da ra:Option Addr} {dc rc:Nat},sr.p=r.sh.p->x'.p=CE y.k y.x.p (t,sc) ⟨zH m.g sc,tR m.g.m t sc,GY m.g.m t sc,CH m.g.m t sc⟩->
     Sep No W w (av fb 213 [v1,v2]::ak ra (dU m.g.m sc).length rc 3 1 (flat one (CH m.g.m t sc))::ak da (dU m.g.m sc).length dc 3 1 (flat one (GY m.g.m t sc))::j6 sr y.k x'::amc r m y.past ms' f' tb p6 ta tn tc sa sn sk t sc L)->
     St ((aZ fb).add 0) (.slice da (dU m.g.m sc).length dc) w λw=>St ((aZ fb).add 1) (.slice ra (dU m.g.m sc).length rc) w λw=>jL Q t (aZ p6) (aZ fb) 0 w:=λ{fb v1 v2 w sr x' da ra dc rc} e ex s=>by
    refine atk e (ayy x' ex) s λr' w' er s=>?_;exact uP ht hs r' _ da dc ra rc w' er (hp' x' ex) s
   have d6:∀{w:World} {A B C D E G:As} {X:List As},Sep No W w (A::B::C::D::E::G::X)->Sep No W w X:=λs=>ai (ai (ai (ai (ai (ai s)))));refine⟨r8 (oU (d6 s)) ?_,?_⟩
   ·refine⟨cq s 3 rfl,cq s 3 rfl,cq s 3 rfl,cq s 5 rfl,?_,?_⟩
    ·refine WE hok.sh (Q0 hmay hs) (aap hmay hs ht) (OY hs) (by omega) cC cX N0 hh s λsr x' da dc ra rc w e ex s=>?_;refine aV s λfb w s=>?_;refine⟨cq s 6 rfl,cq s 6 rfl,cq s 6 rfl,cq s 8 rfl,cq s 8 rfl,?_⟩;exact done e ex s
    ·refine aV s λfb w s=>?_;refine⟨cq s 4 rfl,cq s 4 rfl,cq s 4 rfl,cq s 6 rfl,cq s 6 rfl,?_⟩;refine WE hok.sh (Q0 hmay hs) (aap hmay hs ht) (OY hs) (by omega) (λw' s=>cC w' (ai s)) (λw' s=>cX w' (ai s)) N0 hh (jk s) λsr x' da dc ra rc w e ex s=>?_;exact done e ex (pk 4 [3,0,1,2] s)
   ·refine aV s λfb w s=>?_;refine⟨cq s 4 rfl,cq s 4 rfl,cq s 4 rfl,cq s 6 rfl,cq s 6 rfl,?_⟩;apply r8 (oU (d6 (ai s)));refine⟨cq s 4 rfl,cq s 4 rfl,cq s 4 rfl,cq s 6 rfl,?_⟩;refine WE hok.sh (Q0 hmay hs) (aap hmay hs ht) (OY hs) (by omega) (λw' s=>cC w' (ai s)) (λw' s=>cX w' (ai s)) N0 hh (jk s) λsr x' da dc ra rc w e ex s=>?_;exact done e ex (pk 4 [3,0,1,2] s)
  ·rw[show cV m.g.m t=0 from by unfold cV;rw[if_neg λe=>ht ⟨hm.g.ja,e.1,by rw[<-hmay.len];exact e.2⟩]];exact ai0 hL (gh (A:=[_,_,_,_]) (B:=[_,_]) [3,2] s rfl (by decide)) λeb w s=>G0 (λe=>ht e.1) eb w s
end
end Go.Proofs.YtmegplnmiepfbaaGreatDoor.S
set_option maxRecDepth 20000
namespace Go.Proofs.YtmegplnmiepfbaaGreatDoor.S
open Go.Sx
attribute [local irreducible] af cv bz bg aA cw bZ St Bx Al App cH cy cD bU aM bF aq bS av ak aW mapA
section
variable {W w w0:World}{L:List As}{r:AG}{y:gz}{lg:wq}{t sc ce w1 h1:Int}
def TM {Q:Int->World->Prop}(h:Q 0 w):y8 .nilIface w Q:=Qu _ _ _ h
def aeo {Q:Int->World->Prop}{eb:Nat}(hL:jw W lg)(s:Sep No W w (av eb 275 [ae t,.iface 401 (.pointer (some lg.a3))]::L))(h:Q 7 w):y8 (.iface 273 (.pointer (sZ eb))) w Q:=by apply Qu;have k:=hL.fr (au s);have hc:=lz s (i:=0) rfl 1 _ rfl;refine tQ (mJ k.v2 rfl ?_);obtain⟨c2,t2,h2⟩:=k.b2;obtain⟨c3,t3,h3⟩:=k.b3;apply S2 (.inr rfl) (.inl rfl) hc (λx y K hk=>acj (λe=>k.n23 e.symm) h3 h2 hk);apply mJ k.v3 rfl;apply S2 (.inr rfl) (.inl rfl) hc (λx y K hk=>WH hk);exact h
def N2 {Q:Option Addr->Nat->Nat->Option Addr->Nat->Nat->Int->World->Prop}{m:kP}(ho:y.o=some m)(hL:jw W lg)(s:Sep No W w (iq r y::L))(ht:bK m.g.m.w m.g.m.h t)(hs:dY m.g.m.w m.g.m.h sc)(N0:Lr.YG (t,sc))
  (uP:∀r' y' da dc ra rc w',r'.p=r.p->y'.p=GZ y.p m.p t sc->Sep No W w' (ak ra (dU m.g.m sc).length rc 3 1 (flat one (CH m.g.m t sc))::ak da (dU m.g.m sc).length dc 3 1 (flat one (GY m.g.m t sc))::iq r' y'::L)->Q da (dU m.g.m sc).length dc ra (dU m.g.m sc).length rc 0 w'):
  vS (sZ r.p) t sc w Q:=by
 apply UI;refine aV s λp6 w s=>?_;refine NY ho hL (jk s) N0 (λe=>(e ⟨ht,hs⟩).elim) λ_ _ r' y' da dc ra rc w er ey s=>?_;refine aV s λfb w s=>?_;refine sT s 0 rfl λw s=>?_;refine ax s (i:=0) rfl rfl rfl λw s=>?_;have s:=ay s;refine lS s 0 rfl (lS s 0 rfl ?_);apply TM;refine⟨cq s 0 rfl,cq s 0 rfl,?_⟩;refine sT s 4 rfl λw s=>?_;refine ax s (i:=4) rfl rfl rfl λw s=>?_;refine lS s 4 rfl (lS s 4 rfl ?_);exact uP r' y' da dc ra rc w er ey (pk 5 [1,2,3] s)
def aoT (hm:ja w1 h1):iK (aC w1 h1 ce):=by
 have hc:=gS hm.1 hm.2;unfold iK;by_cases h:bK w1 h1 ce
 ·have:=(bT h).2;omega
 ·unfold aC;grind
def acq {ys:List Int}{k:Nat}{x:Int}(h:ys[k]? =some x):x=gi ys k:=by unfold gi;grind
def aep {Q:Int->Int->Value->World->Prop}{m:kP}(ho:y.o=some m)(hL:jw W lg)(s:Sep No W w (iq r y::L))(N0:(Lit.int .i64 t).wf=true)
  (G0:¬(bK m.g.m.w m.g.m.h t/\bK m.g.m.w m.g.m.h ce)->∀eb w',Sep No W w' (av eb 275 [ae t,.iface 401 (.pointer (some lg.a3))]::iq r y::L)->Q 0 0 (.iface 273 (.pointer (sZ eb))) w')
  (uP:bK m.g.m.w m.g.m.h t->bK m.g.m.w m.g.m.h ce->∀r' y' w',r'.p=r.p->y'.p=GZ y.p m.p t (cU m.g.m ce)->Sep No W w' (iq r' y'::L)->Q (D m.g.m t ce) (tA m.g.m t ce) .nilIface w'):
  B5 (sZ r.p) t ce w Q:=by
 apply VT;have k:=tB s ho;have hm:=k.ok.m m ho;have hmay:=hm.g.may;refine Rf s k λw s _=>?_;refine e9 s λw s _=>?_;refine NY ho hL s ⟨N0,iK.wf (aoT hm.g.ja)⟩ (λe eb w s=>?_) λht hs r' y' da dc ra rc w er ey s=>?_
 ·refine aV s λfb w s=>?_;refine sT s 0 rfl λw s=>?_;refine sT s 0 rfl λw s=>?_;exact G0 (λh=>e ⟨h.1,bT h.2⟩) eb w (ai s)
 ·have hc:bK m.g.m.w m.g.m.h ce:=by
   by_cases h:bK m.g.m.w m.g.m.h ce
   ·exact h
   ·unfold aC at hs;rw[if_neg h]at hs;have:=hs.2.1;omega
  have hlr:=j9 hc;have hgl:=n6 hc;have hlen:=Cw (m:=m.g.m) (sc:=aC m.g.m.w m.g.m.h ce);refine aV s λfb w s=>?_;refine sT s 0 rfl λw s=>?_;refine ax s (i:=0) rfl rfl rfl λw s=>?_;refine tO s λw s _=>?_;have s:=ay s;apply lS s 0 rfl;have kD:=aK s (i:=2) rfl cE (by decide);have kR:=aK s (i:=1) rfl cE (by decide);have hk:d_ m.g.m.w m.g.m.h ce=((d_ m.g.m.w m.g.m.h ce).toNat:Int):=by omega
  apply kD.rE hk (by omega);apply lS s 0 rfl;refine kR.El hk (by omega) λp x hx hcell=>?_;have h0:=hcell 0 _ rfl;refine aO h0 ⟨h0,cq s 0 rfl,?_⟩;have eD:=ar4 hmay hs ht hlr;have eR:=ar5 hmay hs ht hlr;rw[hgl]at eD eR;rw[acq hx,eD,eR];exact uP ht hc r' y' _ er ey (ai (ai (ai s)))
def aeq {Q:Int->Int->Int->World->Prop}{m:kP}(ho:y.o=some m)(hL:jw W lg)(s:Sep No W w (iq r y::L))(N0:(Lit.int .i64 t).wf=true)
  (G0:¬(bK m.g.m.w m.g.m.h t/\bK m.g.m.w m.g.m.h ce)->∀w',Sep No W w' (iq r y::L)->Q 0 0 7 w')
  (uP:bK m.g.m.w m.g.m.h t->bK m.g.m.w m.g.m.h ce->∀r' y' w',r'.p=r.p->y'.p=GZ y.p m.p t (cU m.g.m ce)->Sep No W w' (iq r' y'::L)->Q (D m.g.m t ce) (tA m.g.m t ce) 0 w'):
  B4 (sZ r.p) t ce w Q:=by
 apply VU;refine aep ho hL s N0 (λe eb w s=>?_) λht hc r' y' w er ey s=>?_
 ·exact aeo hL s (G0 e w (ai s))
 ·exact TM (uP ht hc r' y' w er ey s)
end
def OZ (y:rF)(cell goal:Int):rF:=⟨y.most,y.next+1,y.us++[⟨y.next,cell,goal⟩]⟩
section
variable {F:Nat->Prop}{W w w0:World}{L:List As}{r:Wr}{y:rF}{cell goal:Int}
def aoU {us:List aS}{u:aS}{i:Int}(h:∀v∈us,v.id<u.id):gE (us++[u]) i=if i=u.id then some u else gE us i:=by unfold gE;grind
def aoV {us:List aS}{i:Int}(h:∀v∈us,v.id≠i):gE us i=none:=by unfold gE;grind
def avo {r:Wr}{mb':Nat}{a:Option Addr}{n c:Nat}{ms':List (Int×aS)}(h:SV r y)(hroom:(y.us.length:Int)<y.most)(hn:y.next<1000000000)(hk:oW ms')(ha:∀i,fE ms' i=if i=y.next then some ⟨y.next,cell,goal⟩else fE r.ms i)(hl:ms'.length=if(fE r.ms y.next).isNone then r.ms.length+1 else r.ms.length):
  SV ⟨r.p,mb',a,n,c,ms',r.os++[y.next]⟩ (OZ y cell goal):=by
 have hlt:∀v∈y.us,v.id<y.next:=λv hv=>(h.jO v hv).2
 have hg:∀i,gE (OZ y cell goal).us i=if i=y.next then some ⟨y.next,cell,goal⟩else gE y.us i:=λi=>aoU hlt
 have hno:gE y.us y.next=none:=aoV λv hv=>by grind
 refine⟨h.most,hk,λi=>?_,?_,?_,?_,?_,?_,?_,?_,?_⟩
 ·rw[hg,ha,h.fE]
 ·show ms'.length=(y.us++[_]).length;rw[hl,h.fE,hno,List.length_append,h.len];rfl
 ·show(r.os++[y.next]).filter _=(y.us++[_]).map _;rw[List.filter_append,List.map_append,<-h.ord];congr 1
  ·refine List.filter_congr λi hi=>?_;have:=(h.onx i hi).2;grind
  grind
 ·show(r.os++[_]).length<=2*(y.us++[_]).length;have:=h.aiw;grind
 ·show((y.us++[_]).map _).Pairwise _;rw[List.map_append,List.pairwise_append];refine⟨h.NH,by simp,λa ha b hb=>?_⟩;grind
 ·intro u hu;show 0<=u.id/\u.id<y.next+1
  rcases List.mem_append.1 hu with hu|hu
  ·have:=h.jO u hu;omega
  ·rw[List.mem_singleton]at hu;subst hu;have:=h.Jc;grind
 ·show((y.us++[_]).length:Int)<=y.most;grind
 ·intro i hi;show 0<=i/\i<y.next+1
  rcases List.mem_append.1 hi with hi|hi
  ·have:=h.onx i hi;omega
  ·rw[List.mem_singleton]at hi;have:=h.Jc;omega
 ·have:=h.Jc;show 0<=y.next+1/\y.next+1<=1000000000
  omega
def acs {Q:Int->Bool->World->Prop}(s:Sep F W w (wo r y::L))(hn:y.next<1000000000)(hroom:(y.us.length:Int)<y.most)
  (h:∀r' w',r'.p=r.p->Sep F W w' (wo r' (OZ y cell goal)::L)->Q y.next true w'):y6 (sZ r.p) cell goal w Q:=by
 apply P_;obtain⟨hok,s⟩:=u6 (ay s);refine mN (ah (lM s 0 rfl (ah (lI s 0 rfl ?_))));apply aqC Kx s (i:=1) rfl;refine⟨cq s 0 rfl,?_⟩;rw[hok.len,bh];have Ri:=hok.Jc;refine ah (lI s 0 rfl (ah (lI s 0 rfl ?_)));rw[HG (iK.wf (by unfold iK;omega))];refine ah (sT s 0 rfl λw s=>?_);refine ah (lM s 0 rfl ?_);refine L6 (ms:=r.ms) (a:=⟨y.next,cell,goal⟩) Kx s (i:=1) rfl hok.FM (by show iK y.next;unfold iK;omega) λms' w hk ha hl s=>?_;refine ah (lS s 0 rfl ?_);have s:=pk 3 [2,0,1] s;have hol:=hok.aiw;have Xq:=hok.most;have Cs:=(aK s (i:=0) rfl cE (by decide)).len;refine LF s (by omega) λa' c' w s=>?_;refine ah (ax s (i:=1) rfl rfl rfl λw s=>?_);refine h ⟨r.p,r.mb,a',r.on+1,c',ms',r.os++[y.next]⟩ w rfl (Fa ?_ (avo hok hroom hn hk ha hl));exact pk 3 [1,2,0] s
end
def sU (y:rF)(id:Int)(f:aS->aS):rF:=⟨y.most,y.next,y.us.map λv=>if v.id=id then f v else v⟩
section
variable {F:Nat->Prop}{W w w0:World}{L:List As}{r:Wr}{y:rF}{cell goal id:Int}{f:aS->aS}
def afw (hf:∀u,(f u).id=u.id){i:Int}:∀{us:List aS},gE (us.map λv=>if v.id=id then f v else v) i=if i=id then(gE us id).map f else gE us i
 |[]=>by simp[gE]
 |u::us=>by have ih:=afw (i:=i) hf (us:=us);unfold gE at ih⊢;grind
def aqW (hf:∀u,(f u).id=u.id){us:List aS}:(us.map λv=>if v.id=id then f v else v).map (·.id)=us.map (·.id):=by rw[List.map_map];refine List.map_congr_left λv _=>?_;grind
def atl {u:aS}{ms':List (Int×aS)}(h:SV r y)(hf:∀u,(f u).id=u.id)(hu:gE y.us id=some u)(hk:oW ms')(ha:∀i,fE ms' i=if i=id then some (f u)else fE r.ms i)(hl:ms'.length=if(fE r.ms id).isNone then r.ms.length+1 else r.ms.length):
  SV ⟨r.p,r.mb,r.oa,r.on,r.oc,ms',r.os⟩ (sU y id f):=by
 have hg:∀i,gE (sU y id f).us i=if i=id then(gE y.us id).map f else gE y.us i:=λi=>afw hf
 have JS:(sU y id f).us.map (·.id)=y.us.map (·.id):=aqW hf;have hlen:(sU y id f).us.length=y.us.length:=by have:=congrArg List.length JS;grind
 refine⟨h.most,hk,λi=>?_,?_,?_,?_,?_,?_,?_,h.onx,h.Jc⟩
 ·rw[hg,ha,h.fE,hu];rfl
 ·rw[hlen,hl,h.fE,hu,<-h.len];rfl
 ·rw[JS,<-h.ord];grind
 ·rw[hlen];exact h.aiw
 ·rw[JS];exact h.NH
 ·intro v hv;have hm:v.id∈(sU y id f).us.map (·.id):=List.mem_map.2 ⟨v,hv,rfl⟩;rw[JS]at hm;obtain⟨v',hv',e⟩:=List.mem_map.1 hm;rw[<-e];exact h.jO v' hv'
 ·rw[hlen];exact h.nX
def N3 {Q:Bool->World->Prop}{WR:Value}(yq:iK id)(hf:∀u,(f u).id=u.id)
  (awv:∀(x:Nat) (w:World) (u:aS) (K:World->Prop),Sep F W w (av x 43 (gZ u)::wo r y::L)->(∀w',Sep F W w' (av x 43 (gZ (f u))::wo r y::L)->K w')->iv (cx 25) WR [.pointer (sZ x)] w λv w'=>dT v λl=>kT l (K w'))
  (s:Sep F W w (wo r y::L))(hno:gE y.us id=none->∀w',Sep F W w' (wo r y::L)->Q false w')
  (hyes:(gE y.us id).isSome=true->∀r' w',r'.p=r.p->Sep F W w' (wo r' (sU y id f)::L)->Q true w'):sD (sZ r.p) id WR w Q:=by
 apply Qf;refine sS s yq (λhn w s=>?_) λu hu w s=>?_
 ·refine aV s λx w s=>?_;refine sT s 0 rfl λw s=>?_;refine sT s 0 rfl λw s=>?_;refine sT s 0 rfl λw s=>?_;exact hno hn w (ai s)
 ·refine aV s λx w s=>?_;refine sT s 0 rfl λw s=>?_;refine sT s 0 rfl λw s=>?_;refine ax s (i:=0) rfl rfl rfl λw s=>?_;refine awv x w u _ s λw s=>?_;have s:=ay s;obtain⟨hok,s⟩:=u6 (jk s);refine ah (lM s 0 rfl ?_);refine lI s 3 rfl (lI s 3 rfl (lI s 3 rfl ?_));refine L6 Kx s (i:=1) rfl hok.FM yq λms' w hk ha hl s=>?_;refine hyes (by rw[hu];rfl) ⟨r.p,r.mb,r.oa,r.on,r.oc,ms',r.os⟩ w rfl (Fa ?_ (atl hok hf hu hk ha hl));exact pk 4 [0,1,2] s
def aAi:o6 156 fns=true:=by kernel_rfl
def aAj:o6 128 fns=true:=by kernel_rfl
def amd {m x b:Nat}{Q:World->Prop}(h:B6 (sZ x) (sZ b) w Q):iv (cx m) (.func (.func 156) #[] #[.pointer (sZ b)]) [.pointer (sZ x)] w λv w'=>dT v λl=>kT l (Q w'):=by unfold iv;simp only;exact h
def aoW {m x b:Nat}{Q:World->Prop}(h:Du (sZ x) (sZ b) w Q):iv (cx m) (.func (.func 128) #[] #[.pointer (sZ b)]) [.pointer (sZ x)] w λv w'=>dT v λl=>kT l (Q w'):=by unfold iv;simp only;exact h
def aaq {Q:Bool->World->Prop}(yq:iK id)(s:Sep F W w (wo r y::L))(hno:gE y.us id=none->∀w',Sep F W w' (wo r y::L)->Q false w')
  (hyes:(gE y.us id).isSome=true->∀r' w',r'.p=r.p->Sep F W w' (wo r' (sU y id λu=>⟨u.id,cell,u.goal⟩)::L)->Q true w'):x8 (sZ r.p) id cell w Q:=by
 apply OJ;refine aQ s λcb w s=>?_;refine N3 (f:=λu=>⟨u.id,cell,u.goal⟩) yq (λu=>rfl) (λx w u K s hK=>?_) (jk s) (λhn w s=>hno hn w (gw s (.cons_cons _ (List.sublist_cons_self _ _)))) (λhs r' w e s=>hyes hs r' w e (gw s (.cons_cons _ (List.sublist_cons_self _ _))));apply amd;apply Lx;refine ah (lI s 2 rfl (ah (sT s 0 rfl λw s=>?_)));exact hK w s
def acu {Q:Bool->World->Prop}(yq:iK id)(s:Sep F W w (wo r y::L))(hno:gE y.us id=none->∀w',Sep F W w' (wo r y::L)->Q false w')
  (hyes:(gE y.us id).isSome=true->∀r' w',r'.p=r.p->Sep F W w' (wo r' (sU y id λu=>⟨u.id,u.cell,goal⟩)::L)->Q true w'):yZ (sZ r.p) id goal w Q:=by
 apply Qg;refine aQ s λcb w s=>?_;refine N3 (f:=λu=>⟨u.id,u.cell,goal⟩) yq (λu=>rfl) (λx w u K s hK=>?_) (jk s) (λhn w s=>hno hn w (gw s (.cons_cons _ (List.sublist_cons_self _ _)))) (λhs r' w e s=>hyes hs r' w e (gw s (.cons_cons _ (List.sublist_cons_self _ _))));apply aoW;apply MF;refine ah (lI s 2 rfl (ah (sT s 0 rfl λw s=>?_)));exact hK w s
end
section
variable {F:Nat->Prop}{W w w0:World}{L:List As}{r:Wr}{y:rF}{cell goal id:Int}{a:Option Addr}{n c:Nat}{us:List aS}
def aqX {x:aS}{K:Option Addr->Nat->Nat->World->Prop}(s:Sep F W w (ak a n c 43 3 (flat gZ us)::L))(hn:n<=1000000000)
  (k:∀a' c' w',Sep F W w' (ak a' (n+1) c' 43 3 (flat gZ (us++[x]))::L)->K a' (n+1) c' w'):Bx [ae x.id,ae x.cell,ae x.goal] 43 w λp w1=>App P #[39,39] 39 (.slice a n c) (.slice (some p) 1 1) w1 K:=by
 refine aQ s λb w s=>?_;have src:Src w (sZ b) 1 3 (gZ x):=⟨rfl,aon x,λj u hj=>by rw[cu,Nat.zero_add];exact cR s (i:=0) rfl rfl hj⟩;refine iw dW s (i:=1) (bytes:=24) rfl rfl rfl rfl rfl rfl (by decide) rfl src (by simp[maxLen];omega) (by omega) (λe=>by cases e) λa1 c1 w1 s1=>?_;have e:flat gZ us++gZ x=flat gZ (us++[x]):=by rw[gd];simp[flat]
 rw[e]at s1;exact k _ _ _ (ai s1)
def Xr (h:(us.map (·.id)).Pairwise (·<·)){i:Nat}{u:aS}(hu:us[i]? =some u):gE us u.id=some u:=by
 unfold gE;induction us generalizing i with
 |nil=>simp at hu
 |cons v us ih=>
  rw[List.map_cons,List.pairwise_cons]at h;cases i with
  |zero=>
   grind
  |succ i=>
   have:=h.1 u.id (List.mem_map.2 ⟨u,List.mem_of_getElem? hu,rfl⟩);grind
def acv {Q:Option Addr->Nat->Nat->World->Prop}(s:Sep F W w (wo r y::L))(h:∀a n c w',Sep F W w' (ak a n c 43 3 (flat gZ y.us)::wo r y::L)->Q a n c w'):yW (sZ r.p) w Q:=by
 apply Qv;obtain⟨hok,s⟩:=u6 s;have o9:=hok.nX;have Xq:=hok.most;have hol:=hok.aiw;have Ri:=hok.Jc;apply mN;refine YI hok.FM (λi hi=>by have:=hok.onx i hi;unfold iK;omega) (by omega) s λia N ic w s=>?_;have ayB:(r.os.filter λi=>(fE r.ms i).isSome)=y.us.map (·.id):=by rw[<-hok.ord];refine List.filter_congr λi _=>?_;rw[hok.fE]
 rw[ayB]at s;have hN:y.us.length=N:=by have:=(aK s (i:=0) rfl cE (by decide)).len;grind
 have loop:∀(j i:Nat) (a:Option Addr) (n c:Nat) (w:World),i+j=N->Sep F W w (ak a n c 43 3 (flat gZ (y.us.take i))::ak ia N ic 3 1 (flat one (y.us.map (·.id)))::av r.p 171 (Ws r y)::fS fB IB r.mb r.ms::ak r.oa r.on r.oc 3 1 (flat one r.os)::L)->
   v9 Q (j+1) (sZ r.p) a n c ia N ic (N:Int) i w:=by
  intro j;induction j with
  |zero=>
   intro i a n c w hij s;show qW _ _ _ _ _ _ _ _ _ _ _ _;rw[qW,bh];rw[List.take_of_length_le (by omega)]at s;apply h a n c w;have s:=pk 5 [2,3,4,0] s;exact ck (Fa s hok) (List.Perm.swap _ _ _)
  |succ j ih=>
   intro i a n c w hij s;show qW _ _ _ _ _ _ _ _ _ _ _ _;rw[qW,bN];have hi:i<y.us.length:=by omega
   have hn:=(aK s (i:=0) rfl z0 (by decide)).len;rw[List.length_take]at hn;obtain⟨u,hu⟩:∃u,y.us[i]? =some u:=⟨_,List.getElem?_eq_getElem hi⟩;have hgi:gi (y.us.map (·.id)) i=u.id:=by unfold gi;grind
   have yw:y.us.take (i+1)=y.us.take i++[u]:=by rw[List.take_add_one,hu];rfl
   have hr:=hok.jO u (List.mem_of_getElem? hu);have hgu:=Xr hok.NH hu;have wr:IntKind.wrap .i64 ((i:Int)+1)=((i+1:Nat):Int):=by rw[HG (iK.wf (by unfold iK;omega))];omega
   apply(aK s (i:=1) rfl cE (by decide)).rE rfl (by omega);rw[hgi];refine ah (lM s 2 rfl ?_);refine EF (K:=fB) Kx (aah w) s (i:=3) rfl hok.FM (by show iK u.id;unfold iK;omega) (λh=>?_) λv hv=>?_
   ·rw[hok.fE,hgu]at h;cases h
   ·rw[hok.fE,hgu]at hv;cases hv;refine aqX s (by omega) λa' c' w s=>?_;grind
 exact⟨N+1,loop N 0 none 0 0 w (by omega) (bG s 43 3)⟩
end
def jN (y:rF)(id:Int):rF:=⟨y.most,y.next,y.us.filter λv=>!decide (v.id=id)⟩
section
variable {F:Nat->Prop}{W w w0:World}{L:List As}{r:Wr}{y:rF}{id:Int}
def aoX {us:List aS}{i:Int}:gE (us.filter λv=>!decide (v.id=id)) i=if i=id then none else gE us i:=by unfold gE;grind
def aqY {us:List aS}:(us.filter λv=>!decide (v.id=id)).map (·.id)=(us.map (·.id)).filter λi=>!decide (i=id):=by rw[List.filter_map];rfl
def aar {us:List aS}(h:(us.map (·.id)).Pairwise (·<·))(hu:(gE us id).isSome=true):(us.filter λv=>!decide (v.id=id)).length=us.length-1:=by
 unfold gE at hu;induction us with
 |nil=>simp at hu
 |cons u us ih=>
  rw[List.map_cons,List.pairwise_cons]at h;by_cases e:u.id=id
  ·rw[List.filter_cons_of_neg (by simp[e]),List.length_cons,Nat.add_sub_cancel];refine congrArg List.length (List.filter_eq_self.2 λv hv=>?_);have:=h.1 v.id (List.mem_map.2 ⟨v,hv,rfl⟩);grind
  grind
def akZ {ms':List (Int×aS)}{oa:Option Addr}{on oc:Nat}{os':List Int}(h:SV r y)(hu:(gE y.us id).isSome=true)(hk:oW ms')(ha:∀i,fE ms' i=if i=id then none else fE r.ms i)(hl:ms'.length=if(fE r.ms id).isNone then r.ms.length else r.ms.length-1)
  (hos:(os'=r.os/\os'.length<=2*(jN y id).us.length)\/os'=r.os.filter λi=>(fE ms' i).isSome):SV ⟨r.p,r.mb,oa,on,oc,ms',os'⟩ (jN y id):=by
 have hg:∀i,gE (jN y id).us i=if i=id then none else gE y.us i:=λi=>aoX
 have JS:(jN y id).us.map (·.id)=(y.us.map (·.id)).filter λi=>!decide (i=id):=aqY;have hlen:(jN y id).us.length=y.us.length-1:=aar h.NH hu;have hsub:∀v∈(jN y id).us,v∈y.us:=λv hv=>(List.mem_filter.1 hv).1;have Wn:∀i,fE ms' i=gE (jN y id).us i:=λi=>by rw[hg,ha,h.fE]
 have ayC:((jN y id).us.map (·.id)).Pairwise (·<·):=by rw[JS];exact h.NH.filter _
 have aBN:r.os.filter (λi=>(gE (jN y id).us i).isSome)=(jN y id).us.map (·.id):=by rw[JS,<-h.ord,List.filter_filter];grind
 have N4:os'=r.os/\os'.length<=2*(jN y id).us.length\/os'=(jN y id).us.map (·.id):=by grind
 refine⟨h.most,hk,Wn,?_,?_,?_,ayC,λv hv=>h.jO v (hsub v hv),?_,λi hi=>?_,h.Jc⟩
 ·rw[hlen,hl,h.fE,<-h.len];cases hu':gE y.us id with
  |none=>grind
  |some _=>rfl
 ·rcases N4 with⟨e,_⟩|e
  ·grind
  ·rw[e];refine List.filter_eq_self.2 λi hi=>?_;grind
 ·grind
 ·have:=h.nX;show((jN y id).us.length:Int)<=y.most;omega
 ·rcases N4 with⟨e,_⟩|e
  ·rw[e]at hi;exact h.onx i hi
  ·rw[e]at hi;obtain⟨v,hv,rfl⟩:=List.mem_map.1 hi;exact h.jO v (hsub v hv)
def aas {Q:Bool->World->Prop}(yq:iK id)(s:Sep F W w (wo r y::L))(hu:(gE y.us id).isSome=true)
  (hyes:∀r' w',r'.p=r.p->Sep F W w' (wo r' (jN y id)::L)->Q true w'):x7 (sZ r.p) id w Q:=by
 apply Ou;refine sS s yq (λhn w s=>by grind) λu hu' w s=>?_;refine aV s λx w s=>?_;refine sT s 0 rfl λw s=>?_;refine sT s 0 rfl λw s=>?_;refine sT s 0 rfl λw s=>?_;rw[Bool.not_true,cond_false];obtain⟨hok,s⟩:=u6 (ai s);have o9:=hok.nX;have Xq:=hok.most;have hol:=hok.aiw;have Ri:=hok.Jc;have Cs:=(aK s (i:=2) rfl cE (by decide)).len;refine ah (lM s 0 rfl ?_);refine au4 (K:=fB) Kx s (i:=1) rfl hok.FM yq λms' w hk ha hl s=>?_;have s:=ay s;have hml:ms'.length=(jN y id).us.length:=by rw[hl,hok.fE,hu',hok.len];exact(aar hok.NH hu).symm
 have hdl:(jN y id).us.length=y.us.length-1:=aar hok.NH hu;refine ah (lS s 0 rfl (ah (lM s 0 rfl ?_)));apply aqC Kx s (i:=1) rfl;refine⟨cq s 0 rfl,?_⟩;rw[HG (iK.wf (by unfold iK;omega))];by_cases ahg:(r.on:Int)>2*((ms'.length:Nat):Int)
 ·rw[bN ahg];refine YI hk (λi hi=>by have:=hok.onx i hi;unfold iK;omega) (by omega) s λa n c w s=>?_;refine ah (ax s (i:=1) rfl rfl rfl λw s=>?_);refine hyes ⟨r.p,r.mb,a,n,c,ms',_⟩ w rfl (Fa ?_ (akZ hok hu hk ha hl (.inr rfl)));exact pk 4 [1,2,0] s
 ·rw[bh ahg];exact hyes ⟨r.p,r.mb,r.oa,r.on,r.oc,ms',r.os⟩ _ rfl (Fa s (akZ hok hu hk ha hl (.inl ⟨rfl,by omega⟩)))
end
def EI (out:List Int)(u:aS):List Int:=if u.goal∈out then out else out++[u.goal]
def tS (us:List aS):List Int:=us.foldl EI []
def aoY {us:List aS}:(tS us).length<=us.length:=by
 have:∀(us:List aS) (out:List Int),(us.foldl EI out).length<=out.length+us.length:=by
  intro us;induction us with
  |nil=>grind
  |cons u us ih=>
   intro out;have h2:(EI out u).length<=out.length+1:=by unfold EI;grind
   grind
 have:=this us [];simpa[tS]using this
def Dl (b:Bool):Value:=.bool b
def O0:P.underlying 258=some (.map 3 4):=by kernel_rfl
def aat (w:World):(zeroValue 4).run P w=.ok (Dl false) w:=by kernel_rfl
section
variable {F:Nat->Prop}{W w w0:World}{L:List As}{la:Option Addr}{ln lc:Nat}{us:List aS}
def aau {Q:Option Addr->Nat->Nat->World->Prop}(s0:Sep F W w0 L)(hU:Sl w0 la ln lc 3 gZ us)(qk:ln<=1000000)(yq:∀u∈us,iK u.goal)
  (h:∀a n c w',Sep F W w' (ak a n c 3 1 (flat one (tS us))::L)->Fr No w0 w'->Q a n c w'):EW la ln lc w0 Q:=by
 apply ZM;have hlen:=hU.len;refine aag (bt (F:=No)) 258 fB Dl λmb w s=>?_;have loop:∀(j i:Nat) (a:Option Addr) (n c:Nat) (ms:List (Int×Bool)) (w:World),i+j=ln->n<=i->oW ms->(∀g,fE ms g=if g∈tS (us.take i)then some true else none)->Sep No w0 w (ak a n c 3 1 (flat one (tS (us.take i)))::fS fB Dl mb ms::[])->
   De Q (j+1) a n c (some mb) la ln lc (ln:Int) i w:=by
  intro j;induction j with
  |zero=>
   intro i a n c ms w hij hni hk ha s;show zB _ _ _ _ _ _ _ _ _ _ _ _;rw[zB,bh];rw[List.take_of_length_le (by omega)]at s;have s:=cm (L':=[ak a n c 3 1 (flat one (tS us))]) [0] s rfl (by decide);exact h a n c w (gg s0 s) (au s)
  |succ j ih=>
   intro i a n c ms w hij hni hk ha s;show zB _ _ _ _ _ _ _ _ _ _ _ _;rw[zB,bN];refine(hU.fr (au s)).El rfl (by omega) λp u hu hc=>?_;have hug:=yq u (List.mem_of_getElem? hu);have yw:tS (us.take (i+1))=EI (tS (us.take i)) u:=by unfold tS;rw[List.take_add_one,hu];grind
   have wr:IntKind.wrap .i64 ((i:Int)+1)=((i+1:Nat):Int):=by rw[HG (iK.wf (by unfold iK;omega))];omega
   refine aO (hc 0 _ rfl) (aO (hc 1 _ rfl) (aO (hc 2 _ rfl) ?_));refine aV s λx w s=>?_;refine sT s 0 rfl λw s=>?_;refine sT s 0 rfl λw s=>?_;refine ax s (i:=0) rfl rfl rfl λw s=>?_;apply lI s 0 rfl;rw[wr];refine EF (K:=fB) O0 (aat w) s (i:=2) rfl hk hug (λhn=>?_) λb hb=>?_
   ·have hno:u.goal∉tS (us.take i):=λhm=>by rw[ha,if_pos hm]at hn;cases hn
    apply lI s 0 rfl;refine L6 O0 s (i:=2) rfl hk hug λms' w hk' En hl' s=>?_;apply lI s 0 rfl;have s:=cm (L':=[_,_,_]) [1,0,2] s rfl (by decide);refine LF s (by omega) λa' c' w s=>?_;refine ih (i+1) a' (n+1) c' ms' w (by omega) (by omega) hk' (λg=>?_) ?_
    ·rw[En,ha,yw];rw[EI,if_neg hno];by_cases e:g=u.goal
     ·rw[if_pos e,if_pos (by rw[e];simp)]
     ·have:(g∈tS (us.take i)++[u.goal])↔g∈tS (us.take i):=by simp[e]
      rw[if_neg e];simp[this]
    ·rw[yw];rw[EI,if_neg hno];exact cm (L':=[_,_]) [0,2] s rfl (by decide)
   ·have hm:u.goal∈tS (us.take i):=by
     rw[ha]at hb;split at hb
     ·assumption
     ·cases hb
    rw[ha,if_pos hm]at hb;cases hb;refine ih (i+1) a n c ms w (by omega) (by omega) hk (λg=>?_) ?_
    ·rw[ha,yw];rw[EI,if_pos hm]
    ·rw[yw];rw[EI,if_pos hm];exact ai s
 exact⟨ln+1,loop ln 0 none 0 0 [] w (by omega) (by omega) List.Pairwise.nil (λg=>rfl) (bG s 3 1)⟩
end
end Go.Proofs.YtmegplnmiepfbaaGreatDoor.S
namespace Go.Proofs.YtmegplnmiepfbaaGreatDoor.S
open Go.Sx
def afx {F:Nat->Prop}{W w:World}{L:List As}{K:Option Nat->World->Prop}{n:Int}{k' e:TypeId}{P:Program}{t:TypeId}(ht:P.underlying t=some (.map k' e))(s:Sep F W w L)(k:TypeId)(h:∀b w',Sep F W w' (mapA P k b []::L)->K (some b) w'):cD P t (some (ae n)) w K:=by
 unfold Sx.cD aM;have e:(Instr.makeMap t (some (ae n))).run P w=.ok (.map (some w.heap.size)) (w.alloc (.map #[] 0)):=by simp[Instr.makeMap,newObj,run_underlying ht,asInt,Result.andThen];rfl
 rw[e];refine h _ _ (HF s (Fr.alloc Fr.refl _) ?_ λx hx=>?_)
 ·exact⟨#[],0,heap_alloc_new w _,rfl,by simp⟩
 ·have hx:x=w.heap.size:=hx;omega
attribute [local irreducible] af cv bz bg aA cw bZ St Bx Al App cH cy cD bU aM bF aq bS av ak aW mapA
structure nZ (w h:Int) (us:List aS):Prop where
 wh:ja w h
 ids:(us.map (·.id)).Pairwise (·<·)
 pos:∀u∈us,0<=u.id
 at_:∀u∈us,bK w h u.cell/\bK w h u.goal
 nd:(us.map (·.cell)).Nodup
section
variable {F:Nat->Prop}{W w w0:World}{L:List As}{la:Option Addr}{ln lc:Nat}{us:List aS}{mw mh:Int}
def AH {c:Int}(h:bK mw mh c):iK c:=by have:=qK h.1;have:=h.2;unfold iK;omega
def Rj {Q:Bool->World->Prop}(s0:Sep F W w0 L)(hU:Sl w0 la ln lc 3 gZ us)(qk:ln<=1000000)(hm:nZ mw mh us)
  (h:∀w',Sep F W w' L->Fr No w0 w'->Q true w'):CW mw mh la ln lc w0 Q:=by
 apply adG;apply pW;rw[decide_eq_true hm.wh,Bool.not_true,cond_false];refine afx O0 (bt (F:=No)) 3 λmb w s=>?_;have s:=s;have loop:∀(j i:Nat) (last:Int) (ms:List (Int×Bool)) (w:World),i+j=ln->(∀u∈us.drop i,last<u.id)->oW ms->(∀g,fE ms g=if g∈(us.take i).map (·.cell)then some true else none)->Sep No w0 w (fS fB Dl mb ms::[])->
   Gu Q (j+1) mw mh last (some mb) la ln lc (ln:Int) i w:=by
  intro j;induction j with
  |zero=>
   intro i last ms w hij hl hk ha s;show Co _ _ _ _ _ _ _ _ _ _ _ _;rw[Co,bh];exact h w (gg s0 (ai s)) (au s)
  |succ j ih=>
   intro i last ms w hij hl hk ha s;show Co _ _ _ _ _ _ _ _ _ _ _ _;rw[Co,bN];refine(hU.fr (au s)).El rfl (by omega) λp u hu hc=>?_;have hmem:=List.mem_of_getElem? hu;obtain⟨YC,U4⟩:=hm.at_ u hmem;have hd:us.drop i=u::us.drop (i+1):=by have hi:=(List.getElem?_eq_some_iff.1 hu).1;rw[List.drop_eq_getElem_cons hi];have:=(List.getElem?_eq_some_iff.1 hu).2;rw[this]
   have yw:us.take (i+1)=us.take i++[u]:=by rw[List.take_add_one,hu];rfl
   have hno:u.cell∉(us.take i).map (·.cell):=λhin=>by have hnd:=hm.nd;rw[<-List.take_append_drop i us,hd,List.map_append,List.map_cons,List.nodup_append]at hnd;exact hnd.2.2 _ hin _ (List.mem_cons_self ..) rfl
   have awd:=hl u (by rw[hd];exact List.mem_cons_self ..);have aww:∀v∈us.drop (i+1),u.id<v.id:=λv hv=>by have hp:=hm.ids;rw[<-List.take_append_drop i us,hd,List.map_append,List.map_cons,List.pairwise_append]at hp;exact(List.pairwise_cons.1 hp.2.1).1 v.id (List.mem_map.2 ⟨v,hv,rfl⟩)
   have wr:IntKind.wrap .i64 ((i:Int)+1)=((i+1:Nat):Int):=by rw[HG (iK.wf (by unfold iK;omega))];omega
   refine aO (hc 0 _ rfl) (aO (hc 1 _ rfl) (aO (hc 2 _ rfl) ?_));refine aV s λx w s=>?_;refine sT s 0 rfl λw s=>?_;refine sT s 0 rfl λw s=>?_;refine ax s (i:=0) rfl rfl rfl λw s=>?_;apply lI s 0 rfl;rw[bh];apply lI s 0 rfl;refine e9 s λw s _=>?_;have h1:=(bT YC).2.1;have h2:=(bT U4).2.1;rw[bh];apply lI s 0 rfl;refine e9 s λw s _=>?_;rw[bh];apply lI s 0 rfl;rw[wr];refine EF (K:=fB) O0 (aat w) s (i:=1) rfl hk (AH YC) (λhn=>?_) λb hb=>?_
   ·have s:=ay s;refine lI s 0 rfl (lI s 0 rfl ⟨cq s 0 rfl,?_⟩);refine L6 O0 s (i:=1) rfl hk (AH YC) λms' w hk' En hl' s=>?_;refine ih (i+1) u.id ms' w (by omega) aww hk' (λg=>?_) (ai s);rw[En,ha,yw,List.map_append];by_cases e:g=u.cell
    ·rw[if_pos e,if_pos (by rw[e];simp)]
    ·have:(g∈(us.take i).map (·.cell)++[u].map (·.cell))↔g∈(us.take i).map (·.cell):=by simp[e]
     rw[if_neg e];simp only[this]
   ·rw[ha,if_neg hno]at hb;cases hb
 exact⟨ln+1,loop ln 0 (-1) [] w (by omega) (λu hu=>by have:=hm.pos u (List.mem_of_mem_drop hu);omega) List.Pairwise.nil (λg=>rfl) s⟩
end
end Go.Proofs.YtmegplnmiepfbaaGreatDoor.S
namespace Go.Proofs.YtmegplnmiepfbaaGreatDoor.S
open Go.Sx
def stand (us:List aS)(c:Int):Bool:=us.any λv=>decide (v.cell=c)
def sq (w h:Int)(st:List aS)(u:aS)(d:Int):Bool:=decide (0<=aY w h u.cell d)&&!stand st (aY w h u.cell d)
def lR (w h:Int)(u:aS)(d:Int):List aS:=if aY w h u.cell d=u.goal then[]else[⟨u.id,aY w h u.cell d,u.goal⟩]
def cT (w h:Int):List aS->List (aS×Int)->List aS×List (Int×Int)×List Int
 |done,[]=>(done,[],[])
 |done,(u,d)::rest=>
  if sq w h (done++u::rest.map (·.1)) u d=true then
   ((cT w h (done++lR w h u d) rest).1,(u.id,aY w h u.cell d)::(cT w h (done++lR w h u d) rest).2.1,(if aY w h u.cell d=u.goal then[u.id]else[])++(cT w h (done++lR w h u d) rest).2.2)
  else cT w h (done++[u]) rest
section
variable {w h d:Int}{done us:List aS}{u:aS}{rest todo:List (aS×Int)}
def CI (hb:sq w h (done++u::rest.map (·.1)) u d=true):cT w h done ((u,d)::rest)=((cT w h (done++lR w h u d) rest).1,(u.id,aY w h u.cell d)::(cT w h (done++lR w h u d) rest).2.1,(if aY w h u.cell d=u.goal then[u.id]else[])++(cT w h (done++lR w h u d) rest).2.2):=by rw[cT,if_pos hb]
def CJ (hb:sq w h (done++u::rest.map (·.1)) u d=false):cT w h done ((u,d)::rest)=cT w h (done++[u]) rest:=by rw[cT,if_neg (by grind)]
def afy {c:Int}:stand us c=true↔c∈us.map (·.cell):=by unfold stand;grind
def aer:sq w h us u d=true↔0<=aY w h u.cell d/\aY w h u.cell d∉us.map (·.cell):=by rw[sq,Bool.and_eq_true,decide_eq_true_eq,<-afy];grind
def nZ.sub {us':List aS}(hm:nZ w h us)(hs:us'.Sublist us):nZ w h us':=
 ⟨hm.wh,hm.ids.sublist (hs.map _),λv hv=>hm.pos v (hs.subset hv),λv hv=>hm.at_ v (hs.subset hv),hm.nd.sublist (hs.map _)⟩
def nZ.WR {v:aS}{us':List aS}(hm:nZ w h (done++u::us'))(yq:v.id=u.id)(hc:bK w h v.cell)(hg:bK w h v.goal)(hn:v.cell∉(done++us').map (·.cell)):nZ w h (done++v::us'):=by
 have hmem:∀x∈done++v::us',x=v\/x∈done++u::us':=λx hx=>by grind
 have hu:u∈done++u::us':=by simp
 refine⟨hm.wh,?_,λx hx=>?_,λx hx=>?_,?_⟩
 ·have:=hm.ids;grind
 ·rcases hmem x hx with rfl|hx
  ·rw[yq];exact hm.pos u hu
  ·exact hm.pos x hx
 ·rcases hmem x hx with rfl|hx
  ·grind
  ·exact hm.at_ x hx
 ·have h0:=hm.nd;grind
def ai1 (hb:sq w h us u d=true):bK w h (aY w h u.cell d):=(Aa (aer.1 hb).1).2
def ai2 {us':List aS}(hm:nZ w h (done++u::us'))(hb:sq w h (done++u::us') u d=true):nZ w h ((done++lR w h u d)++us'):=by
 obtain⟨h0,h1⟩:=aer.1 hb;rw[List.append_assoc];unfold lR;split
 ·exact hm.sub (List.Sublist.append_left (List.sublist_cons_self _ _) _)
 ·refine hm.WR rfl (ai1 hb) (hm.at_ u (by simp)).2 λhin=>h1 ?_;grind
def WT:∀(todo:List (aS×Int)) (done:List aS),nZ w h (done++todo.map (·.1))->nZ w h (cT w h done todo).1
 |[],done,hm=>by simpa[cT]using hm
 |(u,d)::rest,done,hm=>by
  cases hb:sq w h (done++u::rest.map (·.1)) u d with
  |true=>
   rw[CI hb];exact WT rest _ (ai2 hm hb)
  |false=>
   rw[CJ hb];exact WT rest _ (by grind)
def acy:∀(todo:List (aS×Int)) (done:List aS),(cT w h done todo).2.1=[]->(cT w h done todo).1=done++todo.map (·.1)
 |[],done,_=>by simp[cT]
 |(u,d)::rest,done,hm=>by
  cases hb:sq w h (done++u::rest.map (·.1)) u d with
  |true=>rw[CI hb]at hm;cases hm
  |false=>
   rw[CJ hb]at hm⊢;rw[acy rest _ hm];simp
def acz:∀(todo:List (aS×Int)) (done:List aS) {m:Int×Int} {ms:List (Int×Int)},(cT w h done todo).2.1=m::ms->
  ∃done' u d rest,sq w h (done'++u::rest.map (·.1)) u d=true/\done'++u::rest.map (·.1)=done++todo.map (·.1)/\m=(u.id,aY w h u.cell d)/\(cT w h (done'++lR w h u d) rest).2.1=ms/\(cT w h (done'++lR w h u d) rest).1=(cT w h done todo).1
 |[],done,_,_,hm=>by cases hm
 |(u,d)::rest,done,m,ms,hm=>by
  cases hb:sq w h (done++u::rest.map (·.1)) u d with
  |true=>
   rw[CI hb]at hm⊢;grind
  |false=>
   rw[CJ hb]at hm⊢;obtain⟨done',u',d',rest',h1,h2,h3⟩:=acz rest _ hm;grind
def Jk:∀(todo:List (aS×Int)) (done:List aS),(cT w h done todo).1.length+(cT w h done todo).2.2.length=done.length+todo.length/\(cT w h done todo).2.1.length<=todo.length
 |[],done=>by simp[cT]
 |(u,d)::rest,done=>by
  cases hb:sq w h (done++u::rest.map (·.1)) u d with
  |true=>
   rw[CI hb];have:=Jk rest (done++lR w h u d);have hw:(lR w h u d).length+(if aY w h u.cell d=u.goal then[u.id]else[]).length=1:=by unfold lR;split<;>rfl
   grind
  |false=>
   rw[CJ hb];have:=Jk rest (done++[u]);grind
end
end Go.Proofs.YtmegplnmiepfbaaGreatDoor.S
namespace Go.Proofs.YtmegplnmiepfbaaGreatDoor.S
open Go.Sx
attribute [local irreducible] af cv bz bg aA cw bZ St Bx Al App cH cy cD bU aM bF aq bS av ak aW mapA
def FP {i:Nat}(h:i<=1000000000):IntKind.wrap .i64 ((i:Int)+1)=((i+1:Nat):Int):=by rw[HG (iK.wf (by unfold iK;omega))];omega
def lq (x:Int×Int):List Value:=[ae x.1,ae x.2]
def Jl (x:Int×Int):(lq x).length=2:=rfl
def aoZ (x:Int×Int)(u:Value)(h:u∈lq x):u.oneCell'=true:=by unfold lq at h;simp[List.mem_cons,List.not_mem_nil,or_false]at h;rcases h with rfl|rfl<;>rfl
section
variable {F:Nat->Prop}{W w w0:World}{L:List As}{a:Option Addr}{n c:Nat}{mv:List (Int×Int)}
def WU {K:Addr->World->Prop}{p:Addr}{u:aS}(hc:∀j v,(gZ u)[j]? =some v->w.cell? (p.add j)=some v)(s:Sep F W w L)(h:∀x w',Sep F W w' (av x 43 (gZ u)::L)->K (aZ x) w'):
  af .i64 (p.add 0) w λa=>af .i64 (p.add 1) w λb=>af .i64 (p.add 2) w λc=>Al T 43 w λx w=>St (x.add 0) (ae a) w λw=>St (x.add 1) (ae b) w λw=>St (x.add 2) (ae c) w λw=>K x w:=by
 refine aO (hc 0 _ rfl) (aO (hc 1 _ rfl) (aO (hc 2 _ rfl) ?_));refine aV s λx w s=>?_;refine sT s 0 rfl λw s=>?_;refine sT s 0 rfl λw s=>?_;refine ax s (i:=0) rfl rfl rfl λw s=>?_;exact h x w s
end
def Mg (ms:List (Int×Bool))(us:List aS):Prop:=oW ms/\∀c,fE ms c=if stand us c=true then some true else none
def CK {us vs:List aS}{c:Int}:stand (us++vs) c=(stand us c||stand vs c):=by unfold stand;grind
def KC {u:aS}{us:List aS}{c:Int}:stand (u::us) c=(decide (u.cell=c)||stand us c):=by unfold stand;grind
def ai3 {us:List aS}{c:Int}:stand us c=false↔c∉us.map (·.cell):=by rw[<-afy];grind
def ao0 {w h c:Int}(hc:bK w h c):aY w h c 4=c:=by obtain⟨h1,h2,e⟩:=It hc;rw[aY,if_pos hc,if_neg (by decide),if_neg (by decide),if_neg (by decide),if_neg (by decide),if_pos rfl,nB hc.1 h1 h2];exact e.symm
def ao1 {w h c:Int}:aY w h c 5=-1:=by unfold aY;split<;>rfl
abbrev WV (mw mh:Int)(mb:Nat)(ma:Option Addr)(mn mc:Nat)(ga:Option Addr)(gn gc:Nat):List Value:=[ae mw,ae mh,.map (some mb),.slice ma mn mc,.slice ga gn gc]
section
variable {F:Nat->Prop}{W w w0:World}{L:List As}{ma ga:Option Addr}{mn mc gn gc mb fb ub:Nat}{mv:List (Int×Int)}{gs:List Int}{ms:List (Int×Bool)}{mw mh d:Int}{done us:List aS}{u:aS}
def ato {Q:Bool->World->Prop}(hm:nZ mw mh (done++u::us))(hS:Mg ms (done++u::us))(hmn:mn<=100000000)(Hj:gn<=100000000)(s:Sep F W w (av ub 43 (gZ u)::av fb 260 (WV mw mh mb ma mn mc ga gn gc)::fS fB Dl mb ms::ak ma mn mc 51 2 (flat lq mv)::ak ga gn gc 3 1 (flat one gs)::L))
  (hno:sq mw mh (done++u::us) u d=false->∀w',Sep F W w' (av fb 260 (WV mw mh mb ma mn mc ga gn gc)::fS fB Dl mb ms::ak ma mn mc 51 2 (flat lq mv)::ak ga gn gc 3 1 (flat one gs)::av ub 43 (gZ u)::L)->Q true w')
  (hyes:sq mw mh (done++u::us) u d=true->∀ms' ma' WW YM YN gc' w',YN<=gn+1->Mg ms' ((done++lR mw mh u d)++us)->Sep F W w' (av fb 260 (WV mw mh mb ma' (mn+1) WW YM YN gc')::fS fB Dl mb ms'::ak ma' (mn+1) WW 51 2 (flat lq (mv++[(u.id,aY mw mh u.cell d)]))::ak YM YN gc' 3 1 (flat one (gs++if aY mw mh u.cell d=u.goal then[u.id]else[]))::av ub 43 (gZ ⟨u.id,aY mw mh u.cell d,u.goal⟩)::L)->Q (!decide (aY mw mh u.cell d=u.goal)) w'):
  kL Q (sZ fb) (sZ ub) d w:=by
 have hu:=hm.at_ u (by simp);have s:=ay s;refine ah (lI s 1 rfl (ah (lI s 1 rfl (ah (lI s 0 rfl ?_)))));refine kM s λw s _=>?_;have fin:sq mw mh (done++u::us) u d=false->Q true w:=λhb=>hno hb w (pk 5 [1,2,3,4,0] s);by_cases h0:aY mw mh u.cell d<0
 ·rw[bN h0];apply fin;unfold sq;grind
 rw[bh h0];have h0:0<=aY mw mh u.cell d:=by omega
 have hto:=(Aa h0).2;refine ah (lM s 1 rfl ?_);refine EF (K:=fB) O0 (aat w) s (i:=2) rfl hS.1 (AH hto) (λhn=>?_) λb hb=>?_
 ·have hst:stand (done++u::us) (aY mw mh u.cell d)=false:=by
   rw[hS.2]at hn;split at hn
   ·cases hn
   ·exact Bool.eq_false_iff.2 ‹_›
  have hb:sq mw mh (done++u::us) u d=true:=by rw[sq,decide_eq_true h0,hst];rfl
  have hyes:=hyes hb;unfold lR at hyes;generalize aY mw mh u.cell d=to at*;apply aek;have s:=ay s;refine ah (lM s 1 rfl (ah (lI s 0 rfl ?_)));refine au4 (K:=fB) O0 s (i:=2) rfl hS.1 (AH hu.1) λms1 w hk1 ha1 _ s=>?_;have hcells:∀c,stand (done++us) c=if c=u.cell then false else stand (done++u::us) c:=λc=>by
   rw[CK,CK,KC];by_cases e:c=u.cell
   ·rw[if_pos e,e];have:=hm.nd;rw[List.map_append,List.map_cons,List.nodup_append,List.nodup_cons]at this;rw[ai3.2 λh=>this.2.2 _ h _ (List.mem_cons_self ..) rfl,ai3.2 this.2.1.1];rfl
   ·rw[if_neg e,decide_eq_false λh=>e h.symm,Bool.false_or]
  have hS1:Mg ms1 (done++us):=⟨hk1,λc=>by
   rw[ha1,hS.2,hcells];by_cases e:c=u.cell
   ·rw[if_pos e,if_pos e];rfl
   ·rw[if_neg e,if_neg e]⟩
  refine ah (sT s 0 rfl λw s=>?_);have s:=ay s;refine ah (lS s 1 rfl (ah (lI s 0 rfl ?_)));have s:=pk 5 [3,0,1,2,4] s;refine aQ s λxb w s=>⟨cq s 3 rfl,?_⟩;have src:Src w (sZ xb) 1 2 (lq (u.id,to)):=⟨rfl,aoZ _,λj v hj=>by rw[cu,Nat.zero_add];exact cR s (i:=0) rfl rfl hj⟩;refine iw dW s (i:=1) (bytes:=16) rfl rfl rfl rfl rfl rfl (by decide) rfl src (by simp[maxLen];omega) (by omega) (λe=>by cases e) λma' WW w s=>?_;have e:flat lq mv++lq (u.id,to)=flat lq (mv++[(u.id,to)]):=by rw[gd];simp[flat]
  rw[e]at s;refine ah (ax s (i:=3) rfl rfl rfl λw s=>?_);refine ah (lI s 2 rfl ?_);have s:=ai s;by_cases hg:to=u.goal
  ·rw[dw hg,cond_true];have s:=ay s;refine ah (lS s 2 rfl (ah (lI s 1 rfl ?_)));refine aQ s λxb w s=>⟨cq s 3 rfl,?_⟩;have src:Src w (sZ xb) 1 1 (one u.id):=⟨rfl,Fk _,λj v hj=>by rw[cu,Nat.zero_add];exact cR s (i:=0) rfl rfl hj⟩;refine iw dW s (i:=5) (size:=1) (bytes:=8) rfl rfl rfl rfl rfl rfl (by decide) rfl src (by simp[maxLen];omega) (by omega) (λe=>by cases e) λYM gc' w s=>?_;have e:flat one gs++one u.id=flat one (gs++[u.id]):=by rw[gd];simp[flat]
   rw[e]at s;refine ah (ax s (i:=3) rfl rfl rfl λw s=>?_);have s:=pk 6 [3,4,1,5,2] s;have:=hyes ms1 ma' WW YM (gn+1) gc' w (Nat.le_refl _) ?_ ?_
   ·rw[decide_eq_true hg]at this;exact this
   ·rw[if_pos hg,List.append_nil];exact hS1
   ·rw[if_pos hg];exact s
  ·rw[cB hg,cond_false];refine ah (lM s 2 rfl ?_);refine L6 (k:=3) (e:=4) (K:=fB) (v:=Dl) (ms:=ms1) (a:=true) (x:=to) O0 s (i:=3) rfl hk1 (AH hto) λms2 w IP TJ _ s=>?_;have s:=pk 5 [2,3,0,4,1] s;have:=hyes ms2 ma' WW ga gn gc w (Nat.le_succ _) ?_ ?_
   ·rw[decide_eq_false hg]at this;exact this
   ·rw[if_neg hg];refine⟨IP,λc=>?_⟩;rw[TJ,hS1.2,CK,CK,CK,KC];by_cases e:c=to
    ·rw[if_pos e,e,decide_eq_true rfl];simp
    ·rw[if_neg e,decide_eq_false λh=>e h.symm];simp[stand]
   ·rw[if_neg hg,List.append_nil];exact s
 ·have hst:stand (done++u::us) (aY mw mh u.cell d)=true:=by
   rw[hS.2]at hb;split at hb
   ·assumption
   ·cases hb
  rw[hS.2,if_pos hst]at hb;cases hb;apply al5;apply fin;rw[sq,hst];simp
def aav {Q:Bool->World->Prop}(hd:0<=d/\d<=5)(hm:nZ mw mh (done++u::us))(hS:Mg ms (done++u::us))(hmn:mn<=100000000)(Hj:gn<=100000000)(s:Sep F W w (av ub 43 (gZ u)::av fb 260 (WV mw mh mb ma mn mc ga gn gc)::fS fB Dl mb ms::ak ma mn mc 51 2 (flat lq mv)::ak ga gn gc 3 1 (flat one gs)::L))
  (hno:sq mw mh (done++u::us) u d=false->∀w',Sep F W w' (av fb 260 (WV mw mh mb ma mn mc ga gn gc)::fS fB Dl mb ms::ak ma mn mc 51 2 (flat lq mv)::ak ga gn gc 3 1 (flat one gs)::av ub 43 (gZ u)::L)->Q true w')
  (hyes:sq mw mh (done++u::us) u d=true->∀ms' ma' WW YM YN gc' w',YN<=gn+1->Mg ms' ((done++lR mw mh u d)++us)->Sep F W w' (av fb 260 (WV mw mh mb ma' (mn+1) WW YM YN gc')::fS fB Dl mb ms'::ak ma' (mn+1) WW 51 2 (flat lq (mv++[(u.id,aY mw mh u.cell d)]))::ak YM YN gc' 3 1 (flat one (gs++if aY mw mh u.cell d=u.goal then[u.id]else[]))::av ub 43 (gZ ⟨u.id,aY mw mh u.cell d,u.goal⟩)::L)->Q (!decide (aY mw mh u.cell d=u.goal)) w'):
  x9 (sZ fb) (sZ ub) d w Q:=by
 apply OI;have hb:¬(4<=d)->kL Q (sZ fb) (sZ ub) d w:=λ_=>ato hm hS hmn Hj s hno hyes;by_cases e0:d=0
 ·grind
 rw[cB e0,cond_false];by_cases e1:d=1
 ·grind
 rw[cB e1,cond_false];by_cases e2:d=2
 ·grind
 rw[cB e2,cond_false];by_cases e3:d=3
 ·grind
 rw[cB e3,cond_false];refine hno ?_ w (pk 5 [1,2,3,4,0] s);have hu:=(hm.at_ u (by simp)).1;unfold sq;obtain rfl|rfl:d=4\/d=5:=by omega
 ·rw[ao0 hu,CK,KC,decide_eq_true rfl];simp
 ·rw[ao1];rfl
end
def aAk:o6 153 fns=true:=by kernel_rfl
section
variable {F:Nat->Prop}{W w w0:World}{L:List As}{la da:Option Addr}{ln lc dn dc:Nat}{us:List aS}{ds:List Int}{mw mh:Int}
def aqZ {Q:Bool->World->Prop}(hD:Sl w da dn dc 1 one ds)(hr:∀d∈ds,0<=d/\d<=5)(hn:dn<=1000000)(h:Q false w):nQ da dn dc (.func (.func 153) #[] #[]) w Q:=by
 apply Ef;apply Gv;have hl:=hD.len;have loop:∀(j i:Nat),i+j=dn->jW (λr w=>Q (decide (r≥0)) w) (j+1) da dn dc (.func (.func 153) #[] #[]) (dn:Int) i w:=by
  intro j;induction j with
  |zero=>
   intro i hi;show jV _ _ _ _ _ _ _ _ _;unfold jV;grind
  |succ j ih=>
   intro i hi;show jV _ _ _ _ _ _ _ _ _;rw[jV,bN];apply hD.rE rfl (by omega);have hd:=hr _ (fG (i:=i) (by omega));unfold iv;simp only;have hc:K9 (gi ds i) w λr w'=>cond r (Q (decide ((i:Int)≥0)) w') (jW (λr w=>Q (decide (r≥0)) w) (j+1) da dn dc (.func (.func 153) #[] #[]) (dn:Int) (IntKind.wrap .i64 ((i:Int)+1)) w'):=by apply ZO;rw[bh];show cond (decide (gi ds i>5)) _ _;rw[bh,FP (by omega)];exact ih (i+1) (by omega)
   exact hc
 exact⟨dn+1,loop dn 0 (by omega)⟩
def aes {Q:Option Addr->Nat->Nat->Option Addr->Nat->Nat->Option Addr->Nat->Nat->Int->World->Prop}(s0:Sep F W w0 L)(hU:Sl w0 la ln lc 3 gZ us)(hD:Sl w0 da dn dc 1 one ds)(hlen:ds.length=us.length)(qk:ln<=1000000)(hr:∀d∈ds,0<=d/\d<=5)(hm:nZ mw mh us)
  (h:∀aa an ac ma mn mc ga gn gc w',Sep F W w' (ak ma mn mc 51 2 (flat lq (cT mw mh [] (us.zip ds)).2.1)::ak ga gn gc 3 1 (flat one (cT mw mh [] (us.zip ds)).2.2)::L)->Fr No w0 w'->Q aa an ac ma mn mc ga gn gc 0 w'):
  HL mw mh la ln lc da dn dc w0 Q:=by
 apply adJ;have hul:=hU.len;have hdl:=hD.len;refine Rj (bt (F:=No)) hU qk hm λw s _=>?_;rw[Bool.not_true,cond_false,Df (by omega),cond_false];apply aqZ (hD.fr (au s)) hr (by omega);refine afx O0 s 3 λmb w s=>?_;have s:=s;refine aQ s λfb w s=>?_;have avp:(us.zip ds).map (·.1)=us:=by rw[List.map_fst_zip];omega
 have walk:∀(j i:Nat) (done:List aS) (ms:List (Int×Bool)) (mv:List (Int×Int)) (gs:List Int) (aa ma ga:Option Addr) (an ac mn mc gn gc:Nat) (w:World),i+j=ln->mn<=i->gn<=i->an<=i->nZ mw mh (done++((us.zip ds).drop i).map (·.1))->Mg ms (done++((us.zip ds).drop i).map (·.1))->
   mv++(cT mw mh done ((us.zip ds).drop i)).2.1=(cT mw mh [] (us.zip ds)).2.1->gs++(cT mw mh done ((us.zip ds).drop i)).2.2=(cT mw mh [] (us.zip ds)).2.2->
   Sep No w0 w (av fb 260 (WV mw mh mb ma mn mc ga gn gc)::fS fB Dl mb ms::ak ma mn mc 51 2 (flat lq mv)::ak ga gn gc 3 1 (flat one gs)::ak aa an ac 43 3 (flat gZ done)::[])->
   EB Q (j+1) da dn dc aa an ac (aZ fb) la ln lc (ln:Int) i w:=by
  intro j;induction j with
  |zero=>
   intro i done ms mv gs aa ma ga an ac mn mc gn gc w hij hmn Hj han hM hS TN Fg s;show AZ _ _ _ _ _ _ _ _ _ _ _ _ _ _ _;rw[AZ,bh];have s:=ay s;have hz:(us.zip ds).drop i=[]:=List.drop_eq_nil_of_le (by grind);rw[hz]at TN Fg;simp[cT,List.append_nil]at TN Fg;have c3:=cR s (i:=0) (j:=3) rfl rfl rfl;have c4:=cR s (i:=0) (j:=4) rfl rfl rfl;refine lS s 0 rfl (lS s 0 rfl ⟨c4,c3,c4,?_⟩);rw[TN,Fg]at s;have s:=cm (L':=[_,_]) [2,3] s rfl (by decide);exact h aa an ac ma mn mc ga gn gc _ (gg s0 s) (au s)
  |succ j ih=>
   intro i done ms mv gs aa ma ga an ac mn mc gn gc w hij hmn Hj han hM hS TN Fg s;show AZ _ _ _ _ _ _ _ _ _ _ _ _ _ _ _;rw[AZ,bN];refine(hU.fr (au s)).El rfl (by omega) λp u hu hc=>?_;have hdi:ds[i]? =some (gi ds i):=ig (by omega);have hd:=hr _ (List.mem_of_getElem? hdi);have hz:(us.zip ds).drop i=(u,gi ds i)::(us.zip ds).drop (i+1):=by
    have hzi:(us.zip ds)[i]? =some (u,gi ds i):=by rw[List.getElem?_zip_eq_some];exact⟨hu,hdi⟩
    obtain⟨hlt,e⟩:=List.getElem?_eq_some_iff.1 hzi;rw[List.drop_eq_getElem_cons hlt,e]
   rw[hz]at hM hS TN Fg;have hM:=hM;have hS:=hS;refine WU hc s λub w s=>?_;apply(hD.fr (au s)).rE rfl (by omega);generalize gi ds i=d at*;rw[FP (by omega)];refine aav hd hM hS (by omega) (by omega) s (λhb w s=>?_) λhb ms' ma' WW YM YN gc' w aBO hS' s=>?_
   ·rw[CJ hb]at TN Fg;refine lI s 4 rfl (lI s 4 rfl (lI s 4 rfl ?_));have s:=cm (L':=[_,_,_,_,_]) [5,0,1,2,3] s rfl (by decide);refine aqX s (by omega) λaa' ac' w s=>?_;exact ih (i+1) (done++[u]) ms mv gs aa' ma ga (an+1) ac' mn mc gn gc w (by omega) (by omega) (by omega) (by omega) (by rw[List.append_assoc];exact hM) (by rw[List.append_assoc];exact hS) TN Fg (cm (L':=[_,_,_,_,_]) [1,2,3,4,0] s rfl (by decide))
   ·rw[CI hb]at TN Fg;have hM':=ai2 hM hb;by_cases hg:aY mw mh u.cell d=u.goal
    ·rw[decide_eq_true hg,Bool.not_true,cond_false];have ew:lR mw mh u d=[]:=by unfold lR;rw[if_pos hg]
     rw[ew,List.append_nil]at hM' hS' TN Fg;exact ih (i+1) done ms' _ _ aa ma' YM an ac (mn+1) WW YN gc' w (by omega) (by omega) (by omega) (by omega) hM' hS' (by rw[List.append_assoc];exact TN) (by rw[List.append_assoc];exact Fg) (cm (L':=[_,_,_,_,_]) [0,1,2,3,5] s rfl (by decide))
    ·rw[decide_eq_false hg,Bool.not_false,cond_true];have ew:lR mw mh u d=[⟨u.id,aY mw mh u.cell d,u.goal⟩]:=by unfold lR;rw[if_neg hg]
     rw[ew]at hM' hS' TN Fg;rw[if_neg hg,List.append_nil]at s;rw[if_neg hg,List.nil_append]at Fg;refine lI s 4 rfl (lI s 4 rfl (lI s 4 rfl ?_));have s:=cm (L':=[_,_,_,_,_]) [5,0,1,2,3] s rfl (by decide);refine aqX s (by omega) λaa' ac' w s=>?_;exact ih (i+1) _ ms' _ gs aa' ma' YM (an+1) ac' (mn+1) WW YN gc' w (by omega) (by omega) (by omega) (by omega) hM' hS' (by rw[List.append_assoc];exact TN) Fg (cm (L':=[_,_,_,_,_]) [1,2,3,4,0] s rfl (by decide))
 have fill:∀(j i:Nat) (ms:List (Int×Bool)) (w:World),i+j=ln->Mg ms (us.take i)->Sep No w0 w (av fb 260 (WV mw mh mb none 0 0 none 0 0)::fS fB Dl mb ms::[])->
   Gw Q (j+1) la ln lc da dn dc none 0 0 (aZ fb) la ln lc (ln:Int) i w:=by
  intro j;induction j with
  |zero=>
   intro i ms w hij hS s;show Cp _ _ _ _ _ _ _ _ _ _ _ _ _ _ _ _ _ _;rw[Cp,bh];rw[List.take_of_length_le (by omega)]at hS;have s:=bG (bG (bG s 3 1) 51 2) 43 3;have s:=cm (L':=[_,_,_,_,_]) [3,4,1,2,0] s rfl (by decide);refine⟨ln+1,walk ln 0 [] ms [] [] none none none 0 0 0 0 0 0 w (by omega) (by omega) (by omega) (by omega) ?_ ?_ rfl rfl s⟩
   ·rw[List.drop_zero,avp];exact hm
   ·rw[List.drop_zero,avp];exact hS
  |succ j ih=>
   intro i ms w hij hS s;show Cp _ _ _ _ _ _ _ _ _ _ _ _ _ _ _ _ _ _;rw[Cp,bN];refine(hU.fr (au s)).El rfl (by omega) λp u hu hc=>?_;refine WU hc s λub w s=>?_;have s:=ay s;refine lM s 1 rfl (lI s 0 rfl ?_);have hcell:=(hm.at_ u (List.mem_of_getElem? hu)).1;refine L6 O0 s (i:=2) rfl hS.1 (AH hcell) λms2 w IP TJ _ s=>?_;rw[FP (by omega)];refine ih (i+1) ms2 w (by omega) ⟨IP,λc=>?_⟩ (ai s);have yw:us.take (i+1)=us.take i++[u]:=by rw[List.take_add_one,hu];rfl
   rw[TJ,hS.2,yw,CK,KC];by_cases e:c=u.cell
   ·rw[if_pos e,e,decide_eq_true rfl];simp
   ·rw[if_neg e,decide_eq_false λh=>e h.symm];simp[stand]
 refine⟨ln+1,fill ln 0 [] w (by omega) ⟨List.Pairwise.nil,λc=>rfl⟩ s⟩
end
def atU (us:List aS)(c:Int):Option aS:=us.find? λv=>decide (v.cell=c)
def vK (us:List aS)(c:Int):Int:=match atU us c with
 |some u=>u.id
 |none=>-1
section
variable {us us':List aS}{u:aS}{c:Int}
def Ij (h:c∉us.map (·.cell)):vK us c=-1:=by
 have:atU us c=none:=by unfold atU;grind
 rw[vK,this]
def AI (hn:(us.map (·.cell)).Nodup)(h:u∈us):vK us u.cell=u.id:=by
 have:atU us u.cell=some u:=by
  unfold atU;induction us with
  |nil=>cases h
  |cons v us ih=>
   grind
 rw[vK,this]
def aaw (hn:(us.map (·.cell)).Nodup)(hn':(us'.map (·.cell)).Nodup)(h:∀v:aS,v.cell=c->(v∈us↔v∈us')):vK us c=vK us' c:=by
 by_cases hc:c∈us.map (·.cell)
 ·obtain⟨v,hv,rfl⟩:=List.mem_map.1 hc;rw[AI hn hv,AI hn' ((h v rfl).1 hv)]
 ·rw[Ij hc,Ij λe=>?_];grind
def atp {w h:Int}(hm:nZ w h us):vK us c=-1\/0<=vK us c/\∃u∈us,u.cell=c/\vK us c=u.id:=by
 by_cases hc:c∈us.map (·.cell)
 ·obtain⟨v,hv,rfl⟩:=List.mem_map.1 hc;rw[AI hm.nd hv];exact .inr ⟨hm.pos v hv,v,hv,rfl,rfl⟩
 ·exact .inl (Ij hc)
end
structure G1 (w h:Int) (us:List aS) (ws:List Int):Prop where
 len:(ws.length:Int)=w*h
 at_:∀c,bK w h c->gi ws c.toNat=vK us c+1
section
variable {us us':List aS}{u:aS}{c v mw mh:Int}{ws:List Int}
def G1.lt (h:G1 mw mh us ws)(hc:bK mw mh c):0<=c/\c<ws.length:=by have:=h.len;have:=hc.2;omega
def G1.who (h:G1 mw mh us ws)(hc:bK mw mh c):Cu ws c=vK us c:=by rw[Cu,if_pos (h.lt hc),h.at_ c hc];omega
def G1.free (h:G1 mw mh us ws)(hc:bK mw mh c):AA ws c=decide (vK us c=-1):=by rw[AA,decide_eq_true (h.lt hc),h.at_ c hc,Bool.true_and,Bool.eq_iff_iff,beq_iff_eq,decide_eq_true_eq];omega
def G1.set (h:G1 mw mh us ws)(hc:bK mw mh c)(e:∀c',bK mw mh c'->vK us' c'+1=if c'=c then v else vK us c'+1):G1 mw mh us' (ws.set c.toNat v):=by have hl:=h.lt hc;refine⟨by rw[List.length_set];exact h.len,λc' Bm=>?_⟩;rw[aaQ (by omega),e c' Bm,h.at_ c' Bm];have:=Bm.2;omega
def ak0 {done:List aS}(hm:nZ mw mh (done++u::us))(hf:G1 mw mh (done++u::us) ws):G1 mw mh (done++us) (ws.set u.cell.toNat 0):=by
 have Eh:=hm.sub (us':=done++us) (List.Sublist.append_left (List.sublist_cons_self _ _) _);refine hf.set (hm.at_ u (by simp)).1 λc' _=>?_;have hnd:=hm.nd;by_cases e:c'=u.cell
 ·rw[if_pos e,e,Ij]
  all_goals grind
 ·rw[if_neg e,aaw Eh.nd hm.nd λv hv=>?_];grind
def ao4 {done:List aS}(hm:nZ mw mh (done++u::us))(hf:G1 mw mh (done++us) ws):G1 mw mh (done++u::us) (ws.set u.cell.toNat (u.id+1)):=by
 have Eh:=hm.sub (us':=done++us) (List.Sublist.append_left (List.sublist_cons_self _ _) _);refine hf.set (hm.at_ u (by simp)).1 λc' _=>?_;by_cases e:c'=u.cell
 ·rw[if_pos e,e,AI hm.nd (by simp)]
 ·rw[if_neg e,aaw hm.nd Eh.nd λv hv=>?_];grind
end
structure CrR where
 p:Nat
 un:Wr
 fl:QO
structure Hx where
 w:Int
 h:Int
 y:rF
 ws:List Int
structure aq0 (x:Hx):Prop where
 may:nZ x.w x.h x.y.us
 fl:G1 x.w x.h x.y.us x.ws
def zO (r:CrR)(x:Hx):List Value:=[ae x.w,ae x.h,ae x.y.most,.pointer (sZ r.un.p),.pointer (sZ r.fl.p)]
noncomputable def atq (r:CrR)(x:Hx):List As:=[av r.p 125 (zO r x),wo r.un x.y,vD r.fl x.ws]
noncomputable def fZ (r:CrR)(x:Hx):As:=aW (aq0 x) (atq r x)
def vL (w h:Int)(y:rF)(cell goal:Int):Int:=if¬(bK w h cell/\bK w h goal)then 7 else if vK y.us cell≠-1 then 10 else if(y.us.length:Int)≥y.most then 11 else if cell=goal then 13 else 0
section
variable {F:Nat->Prop}{W w w0:World}{L:List As}{r:CrR}{x:Hx}{cell goal id:Int}
def rC (s:Sep F W w (fZ r x::L)):aq0 x/\Sep F W w (av r.p 125 (zO r x)::wo r.un x.y::vD r.fl x.ws::L):=gR s
def ym (s:Sep F W w (av r.p 125 (zO r x)::wo r.un x.y::vD r.fl x.ws::L))(h:aq0 x):Sep F W w (fZ r x::L):=dA s h
def ak1 {u:aS}{us:List aS}{mw mh:Int}(hm:nZ mw mh us)(yq:∀v∈us,v.id<u.id)(hp:0<=u.id)(hc:bK mw mh u.cell)(hg:bK mw mh u.goal)(hn:u.cell∉us.map (·.cell)):nZ mw mh (us++[u]):=by
 have hm1:∀v∈us++[u],v∈us\/v=u:=λv hv=>by grind
 refine⟨hm.wh,?_,λv hv=>?_,λv hv=>?_,?_⟩
 ·rw[List.map_append,List.pairwise_append];refine⟨hm.ids,by simp,λa ha b hb=>?_⟩;grind
 ·rcases hm1 v hv with hv|rfl
  ·exact hm.pos v hv
  ·exact hp
 ·rcases hm1 v hv with hv|rfl
  ·exact hm.at_ v hv
  grind
 ·rw[List.map_append,List.nodup_append];refine⟨hm.nd,by simp,λa ha b hb=>?_⟩;grind
def acA {Q:Option Addr->World->Prop}{mw mh most:Int}(hm:ja mw mh)(Xq:1<=most/\most<=65536)(s:Sep F W w L)(h:∀r ws w',Sep F W w' (fZ r ⟨mw,mh,⟨most,0,[]⟩,ws⟩::L)->Q (sZ r.p) w'):Ge mw mh most w Q:=by apply abf;have hwh:=qK hm;apply pW;rw[decide_eq_true hm,Bool.not_true,cond_false,bh,bh];refine ab3 Xq s λur w s=>?_;rw[aG,show mw*mh=(((mw*mh).toNat:Nat):Int) by omega];refine abC s (by omega) λfr w s=>?_;refine aQ s λp w s=>?_;have s:=pk 3 [0,2,1] s;refine h ⟨p,ur,fr⟩ _ w (ym s ⟨⟨hm,List.Pairwise.nil,(λu hu=>by cases hu),(λu hu=>by cases hu),List.Pairwise.nil⟩,⟨by grind,λc hc=>?_⟩⟩);have:0<=c/\c<mw*mh:=hc.2;show(List.replicate _ _).getD _ _=_;rw[List.getD_eq_getElem?_getD,List.getElem?_replicate,AP];rfl
def amf {Q:Bool->World->Prop}{c:Int}(s:Sep F W w (fZ r x::L))(h:∀w',Sep F W w' (fZ r x::L)->Q (decide (bK x.w x.h c)) w'):pG (sZ r.p) c w Q:=by
 apply RZ;have s:=ay s;obtain⟨hok,so⟩:=rC s;refine ah (lI so 0 rfl (ah (lI so 0 rfl ?_)));refine e9 s λw s _=>?_;have e:decide (aC x.w x.h c≥0)=decide (bK x.w x.h c):=decide_eq_decide.2 ⟨λh=>by
  by_cases hc:bK x.w x.h c
  ·exact hc
  ·unfold aC at h;grind,λh=>(bT h).2.1⟩
 grind
def afA {Q:Int->World->Prop}{c g:Int}(h:Q (if c=g then 13 else 0) w):nU Q c g w:=by unfold nU;grind
def ao5 {Q:Int->World->Prop}{p:Option Addr}{c g:Int}(h:Q (if c=g then 13 else 0) w):m7 p 3 c g w Q:=by apply Dy;exact afA h
def ao6 {Q:Int->World->Prop}(s:Sep F W w (fZ r x::L))(h:∀w',Sep F W w' (fZ r x::L)->Q (vL x.w x.h x.y cell goal) w'):m7 (sZ r.p) 0 cell goal w Q:=by
 apply Dy;unfold vL at h;refine amf s λw s=>?_;by_cases hc:bK x.w x.h cell
 ·rw[decide_eq_true hc,Bool.not_true,cond_false];refine amf s λw s=>?_;by_cases hg:bK x.w x.h goal
  ·rw[decide_eq_true hg,Bool.not_true,cond_false];rw[if_neg λe=>e ⟨hc,hg⟩]at h;obtain⟨hok,so⟩:=rC s;refine ah (lP so 0 rfl ?_);apply Bw (GD (ai (ai so)));rw[hok.fl.who hc];by_cases hw:vK x.y.us cell=-1
   ·rw[Df hw,cond_false];rw[if_neg λe=>e hw]at h;have s:=ay s;have so:=ay so;refine ah (lP so 0 rfl (ah (lI so 0 rfl ?_)));refine ab4 (ai so) ⟨cq so 0 rfl,?_⟩;by_cases hl:(x.y.us.length:Int)≥x.y.most
    ·grind
    ·rw[bh hl];rw[if_neg hl]at h;exact afA (h _ s)
   grind
  grind
 grind
def aj3 {y:rF}{mw mh:Int}(h:vL mw mh y cell goal=0):bK mw mh cell/\bK mw mh goal/\vK y.us cell=-1/\(y.us.length:Int)<y.most/\cell≠goal:=by unfold vL at h;grind
def ak2 {us:List aS}{mw mh c:Int}(hm:nZ mw mh us):vK us c=-1↔c∉us.map (·.cell):=by refine⟨λh e=>?_,Ij⟩;obtain⟨v,hv,rfl⟩:=List.mem_map.1 e;rw[AI hm.nd hv]at h;have:=hm.pos v hv;omega
def Yj {Q:Int->Int->World->Prop}(hn:x.y.next<1000000000)(s:Sep F W w (fZ r x::L))
  (G0:vL x.w x.h x.y cell goal≠0->∀w',Sep F W w' (fZ r x::L)->Q (-1) (vL x.w x.h x.y cell goal) w')
  (hok:vL x.w x.h x.y cell goal=0->∀r' G2 w',r'.p=r.p->Sep F W w' (fZ r' ⟨x.w,x.h,OZ x.y cell goal,G2⟩::L)->Q x.y.next 0 w'):wI (sZ r.p) cell goal w Q:=by
 apply MC;refine mN (ao6 s λw s=>?_);by_cases h0:vL x.w x.h x.y cell goal=0
 ·rw[Df h0,cond_false];obtain⟨hc,hg,hw,hl,hne⟩:=aj3 h0;obtain⟨ok,s⟩:=rC s;refine ah (lP s 0 rfl ?_);have D1:=(u6 (ai s)).1;have Ri:=D1.Jc;have s:=pk 3 [1,0,2] s;refine acs s hn hl λur w eu s=>?_;refine ah (lP s 1 rfl ?_);have s:=pk 3 [2,1,0] s;have hfree:AA x.ws cell=true:=by rw[ok.fl.free hc,hw];rfl
  refine Ny s (by omega) (λe=>by grind) λ_ fe w s=>?_;have hno:=(ak2 ok.may).1 hw;have hmay:=ak1 (u:=⟨x.y.next,cell,goal⟩) ok.may (λv hv=>(D1.jO v hv).2) Ri.1 hc hg hno;have s:=gh (A:=[_,_,_]) (B:=[av r.p 125 (zO ⟨r.p,ur,{r.fl with fe:=fe}⟩ ⟨x.w,x.h,OZ x.y cell goal,x.ws.set cell.toNat (x.y.next+1)⟩),_,_]) [1,2,0] s (by unfold zO;rw[eu];rfl) (by decide);refine hok h0 ⟨r.p,ur,{r.fl with fe:=fe}⟩ _ w rfl (ym s ⟨hmay,ao4 hmay (by rw[List.append_nil];exact ok.fl)⟩)
 grind
def ao7 {done us:List aS}{u:aS}(h:((done++u::us).map (·.id)).Pairwise (·<·)):(∀v∈done,¬v.id=u.id)/\∀v∈us,¬v.id=u.id:=by
 rw[List.map_append,List.map_cons,List.pairwise_append,List.pairwise_cons]at h;refine⟨λv hv e=>?_,λv hv e=>?_⟩
 ·have:=h.2.2 v.id (List.mem_map.2 ⟨v,hv,rfl⟩) u.id (List.mem_cons_self ..);omega
 ·have:=h.2.1.1 v.id (List.mem_map.2 ⟨v,hv,rfl⟩);omega
def aax {done us:List aS}{u:aS}(h:((done++u::us).map (·.id)).Pairwise (·<·)):((done++u::us).filter λv=>!decide (v.id=u.id))=done++us:=by
 obtain⟨h1,h2⟩:=ao7 h;rw[List.filter_append,List.filter_cons,decide_eq_true rfl,List.filter_eq_self.2 λv hv=>?_,List.filter_eq_self.2 λv hv=>?_]
 all_goals grind
theorem ai5 {done us:List aS}{u:aS}{f:aS->aS}(h:((done++u::us).map (·.id)).Pairwise (·<·)):((done++u::us).map λv=>if v.id=u.id then f v else v)=done++f u::us:=by
 obtain⟨h1,h2⟩:=ao7 h;have e:∀l:List aS,(∀v∈l,¬v.id=u.id)->(l.map λv=>if v.id=u.id then f v else v)=l:=λl hl=>by have:=List.map_congr_left (f:=λv=>if v.id=u.id then f v else v) (g:=id) λv hv=>if_neg (hl v hv);rw[this,List.map_id]
 simp_all
def acB {us:List aS}{u:aS}(h:gE us id=some u):u.id=id/\∃done rest,us=done++u::rest:=by have h1:=List.find?_some h;have h2:=List.mem_of_find?_eq_some h;exact⟨of_decide_eq_true h1,List.append_of_mem h2⟩
def aay {done us:List aS}{u:aS}(h:((done++u::us).map (·.id)).Pairwise (·<·)):gE (done++u::us) u.id=some u:=
 Xr h (by rw[List.getElem?_append_right (Nat.le_refl _),Nat.sub_self];rfl)
def Fe {Q:World->Prop}{done us:List aS}{u:aS}(hu:x.y.us=done++u::us)(s:Sep F W w (fZ r x::L))
  (h:∀r' G2 w',r'.p=r.p->Sep F W w' (fZ r' ⟨x.w,x.h,⟨x.y.most,x.y.next,done++us⟩,G2⟩::L)->Q w'):nP (sZ r.p) u.id u.cell u.goal w Q:=by
 apply Ow;obtain⟨ok,s⟩:=rC s;have hmay:=ok.may;have hfl:=ok.fl;rw[hu]at hmay hfl;have amg:=hmay.at_ u (by simp);have D1:=(u6 (ai s)).1;have hru:=D1.jO u (by rw[hu];simp);have Ri:=D1.Jc;refine aQ s λub w s=>?_;have s:=ay s;refine ah (lP s 1 rfl (lI s 0 rfl ?_));have s:=pk 4 [2,0,1,3] s;refine aas (by unfold iK;omega) s (by rw[hu,aay hmay.ids];rfl) λur w eu s=>?_;have s:=ay s;refine ah (lP s 2 rfl (lI s 1 rfl ?_));have ed:jN x.y u.id=⟨x.y.most,x.y.next,done++us⟩:=by rw[jN,hu,aax hmay.ids]
 rw[ed]at s;have s:=pk 4 [3,0,2] s;have aq2:=AI hmay.nd (u:=u) (by simp);have Eh:=hmay.sub (us':=done++us) (List.Sublist.append_left (List.sublist_cons_self _ _) _);refine LK s (λe=>?_) λ_ fe w s=>?_
 ·rw[hfl.who amg.1,aq2]at e;omega
 ·have s:=gh (A:=[_,_,_]) (B:=[av r.p 125 (zO ⟨r.p,ur,{r.fl with fe:=fe}⟩ ⟨x.w,x.h,⟨x.y.most,x.y.next,done++us⟩,x.ws.set u.cell.toNat 0⟩),_,_]) [2,1,0] s (by unfold zO;rw[eu];rfl) (by decide);refine h ⟨r.p,ur,{r.fl with fe:=fe}⟩ _ w rfl (ym s ⟨Eh,ak0 hmay hfl⟩)
def acC {Q:Int->World->Prop}(hc:bK x.w x.h cell)(s:Sep F W w (fZ r x::L))(h:Q (vK x.y.us cell) w):yY (sZ r.p) cell w Q:=by apply PZ;obtain⟨ok,so⟩:=rC s;refine mN (ah (lP so 0 rfl ?_));apply Bw (GD (ai (ai so)));rw[ok.fl.who hc];exact h
def D2 {Q:Option Addr->Nat->Nat->World->Prop}(s:Sep F W w (fZ r x::L))(h:∀a n c w',Sep F W w' (ak a n c 43 3 (flat gZ x.y.us)::fZ r x::L)->Q a n c w'):m6 (sZ r.p) w Q:=by apply MQ;obtain⟨ok,s⟩:=rC s;refine mN (ah (lP s 0 rfl ?_));refine acv (jk s) λa n c w s=>?_;have s:=pk 4 [2,1,3,0] s;exact h a n c w (ck (ym s ok) (List.Perm.swap _ _ _))
def S6 {Q:Int->World->Prop}(yq:iK id)(s:Sep F W w (fZ r x::L))(h12:gE x.y.us id=none->∀w',Sep F W w' (fZ r x::L)->Q 12 w')
  (h7:∀u,gE x.y.us id=some u->¬bK x.w x.h goal->∀w',Sep F W w' (fZ r x::L)->Q 7 w')
  (h13:∀u,gE x.y.us id=some u->bK x.w x.h goal->u.cell=goal->∀r' G2 w',r'.p=r.p->Sep F W w' (fZ r' ⟨x.w,x.h,jN x.y id,G2⟩::L)->Q 13 w')
  (h0:∀u,gE x.y.us id=some u->bK x.w x.h goal->u.cell≠goal->∀r' G2 w',r'.p=r.p->Sep F W w' (fZ r' ⟨x.w,x.h,sU x.y id λu=>⟨u.id,u.cell,goal⟩,G2⟩::L)->Q 0 w'):tf (sZ r.p) id goal w Q:=by
 apply JG;obtain⟨ok,s⟩:=rC s;refine mN (ah (lP s 0 rfl ?_));have cl:∀{w:World} {A:As},Sep F W w (A::wo r.un x.y::av r.p 125 (zO r x)::vD r.fl x.ws::L)->Sep F W w (fZ r x::A::L):=λs=>ym (pk 4 [2,1,3,0] s) ok;refine sS (jk s) yq (λhn w s=>?_) λu hu w s=>?_
 ·refine aV s λp w s=>?_;refine sT s 0 rfl λw s=>?_;refine sT s 0 rfl λw s=>?_;refine sT s 0 rfl λw s=>?_;exact h12 hn w (ai (ck (cl s) (List.Perm.swap _ _ _)))
 ·obtain⟨eid,done,rest,vH⟩:=acB hu;have hmay:=ok.may;rw[vH]at hmay;refine aV s λp w s=>?_;refine sT s 0 rfl λw s=>?_;refine sT s 0 rfl λw s=>?_;refine ax s (i:=0) rfl rfl rfl λw s=>?_;refine amf (cl s) λw s=>?_;by_cases hg:bK x.w x.h goal
  ·rw[decide_eq_true hg,Bool.not_true,cond_false];apply lI s 1 rfl;apply ao5;by_cases hcg:u.cell=goal
   ·rw[if_pos hcg];refine lI s 1 rfl (lI s 1 rfl (lI s 1 rfl ?_));refine Fe vH s λr' G2 w e s=>?_;apply h13 u hu hg hcg r' G2 w e;have ed:jN x.y id=⟨x.y.most,x.y.next,done++rest⟩:=by rw[jN,<-eid,vH,aax hmay.ids]
    rw[ed];exact ai (jk s)
   ·rw[if_neg hcg];obtain⟨ok,s⟩:=rC s;rw[Df rfl,cond_false];refine ah (lP s 0 rfl ?_);have s:=pk 4 [1,0,2] s;refine acu yq s (λhn=>by rw[hn]at hu;cases hu) λ_ ur w eu s=>?_;have s:=gh (A:=[_,_,_]) (B:=[av r.p 125 (zO ⟨r.p,ur,r.fl⟩ ⟨x.w,x.h,sU x.y id λu=>⟨u.id,u.cell,goal⟩,x.ws⟩),_,_]) [1,0,2] s (by unfold zO;rw[eu];rfl) (by decide);have eT:(sU x.y id λu=>⟨u.id,u.cell,goal⟩).us=done++⟨u.id,u.cell,goal⟩::rest:=by rw[sU,vH,<-eid];exact ai5 hmay.ids
    have hu1:=hmay.at_ u (by simp);have hnd:=hmay.nd;rw[List.map_append,List.map_cons,List.nodup_append,List.nodup_cons]at hnd;have Eh:nZ x.w x.h (done++⟨u.id,u.cell,goal⟩::rest):=hmay.WR rfl hu1.1 hg (by rw[List.map_append,List.mem_append];exact λq=>q.elim (λq=>hnd.2.2 _ q _ (List.mem_cons_self ..) rfl) hnd.2.1.1)
    refine h0 u hu hg hcg ⟨r.p,ur,r.fl⟩ x.ws w rfl (ym s ⟨?_,ok.fl.len,λc hc=>?_⟩)
    ·rw[eT];exact Eh
    ·rw[eT,ok.fl.at_ c hc,vH];congr 1;by_cases e:c=u.cell
     ·rw[e,AI hmay.nd (by simp),AI (u:=⟨u.id,u.cell,goal⟩) Eh.nd (by simp)]
     ·refine aaw hmay.nd Eh.nd λv hv=>?_;have:∀z:aS,z.cell=u.cell->v≠z:=λz hz q=>e (by rw[<-hv,q,hz]);simp[this u rfl,this ⟨u.id,u.cell,goal⟩ rfl]
  ·rw[decide_eq_false hg,Bool.not_false,cond_true];exact h7 u hu hg w (ai (jk s))
def UK {Q:Int->World->Prop}(yq:iK id)(s:Sep F W w (fZ r x::L))(h12:gE x.y.us id=none->∀w',Sep F W w' (fZ r x::L)->Q 12 w')
  (h0:∀u,gE x.y.us id=some u->∀r' G2 w',r'.p=r.p->Sep F W w' (fZ r' ⟨x.w,x.h,jN x.y id,G2⟩::L)->Q 0 w'):uh (sZ r.p) id w Q:=by
 apply Kg;obtain⟨ok,s⟩:=rC s;refine mN (ah (lP s 0 rfl ?_));have cl:∀{w:World} {A:As},Sep F W w (A::wo r.un x.y::av r.p 125 (zO r x)::vD r.fl x.ws::L)->Sep F W w (fZ r x::A::L):=λs=>ym (pk 4 [2,1,3,0] s) ok;refine sS (jk s) yq (λhn w s=>?_) λu hu w s=>?_
 ·refine aV s λp w s=>?_;refine sT s 0 rfl λw s=>?_;refine sT s 0 rfl λw s=>?_;refine sT s 0 rfl λw s=>?_;exact h12 hn w (ai (ck (cl s) (List.Perm.swap _ _ _)))
 ·obtain⟨eid,done,rest,vH⟩:=acB hu;have hmay:=ok.may;rw[vH]at hmay;refine aV s λp w s=>?_;refine sT s 0 rfl λw s=>?_;refine sT s 0 rfl λw s=>?_;refine ax s (i:=0) rfl rfl rfl λw s=>?_;refine lI s 0 rfl (lI s 0 rfl (lI s 0 rfl ?_));refine Fe vH (cl s) λr' G2 w e s=>?_;apply h0 u hu r' G2 w e;have ed:jN x.y id=⟨x.y.most,x.y.next,done++rest⟩:=by rw[jN,<-eid,vH,aax hmay.ids]
  rw[ed];exact ai (jk s)
end
def aBP:zc T 51=[ae 0,ae 0]:=rfl
def N5 (w h:Int)(y:rF)(ds:List Int):rF:=⟨y.most,y.next,(cT w h [] (y.us.zip ds)).1⟩
section
variable {F:Nat->Prop}{W w w0:World}{L:List As}{r:CrR}{x:Hx}{da ma ga ta:Option Addr}{dn dc mn mc gn gc tn tc i mb ub:Nat}{ds:List Int}{tm:Int}
def aq3 {P7:Option Addr->Option Addr->Nat->Nat->Option Addr->Nat->Nat->Option Addr->Nat->Nat->Int->Int->World->Prop}{Q:Option Addr->Nat->Nat->Option Addr->Nat->Nat->Int->World->Prop}{done us:List aS}{u:aS}{d:Int}(hi:i<=1000000000)
  (hu:x.y.us=done++u::us)(hb:sq x.w x.h (done++u::us) u d=true)(s:Sep F W w (av ub 43 (gZ u)::av mb 51 (lq (u.id,aY x.w x.h u.cell d))::fZ r x::L))
  (next:∀r' G2 w',r'.p=r.p->Sep F W w' (fZ r' ⟨x.w,x.h,⟨x.y.most,x.y.next,(done++lR x.w x.h u d)++us⟩,G2⟩::L)->P7 (sZ r.p) ma mn mc ga gn gc ta tn tc tm ((i+1:Nat):Int) w'):
  l8 P7 Q (sZ r.p) ma mn mc ga gn gc (aZ mb) (aZ ub) ta tn tc tm i w:=by
 rw[l8,FP hi];refine lI s 1 rfl (lI s 0 rfl ?_);unfold lR at next
 have hto:=ai1 hb;obtain⟨_,hnot⟩:=aer.1 hb;generalize aY x.w x.h u.cell d=to at*;by_cases hg:to=u.goal
 ·rw[dw hg,cond_true];refine lI s 0 rfl (lI s 0 rfl (lI s 0 rfl ?_));refine Fe hu (pk 3 [2] s) λr' G2 w e s=>?_;apply next r' G2 w e
  simp_all
 ·rw[cB hg,cond_false];rw[if_neg hg]at next
  have s:=ay s;obtain⟨ok,s⟩:=rC (pk 3 [2,0,1] s);have hmay:=ok.may;have hfl:=ok.fl;rw[hu]at hmay hfl;have amg:=hmay.at_ u (by simp);have D1:=(u6 (ai s)).1;have hru:=D1.jO u (by rw[hu];simp);have Ri:=D1.Jc;have aq2:=AI hmay.nd (u:=u) (by simp);refine ah (lP s 0 rfl (lI s 3 rfl (lI s 4 rfl ?_)));have s:=pk 5 [2,0,1,3,4] s;have hw1:Cu x.ws u.cell=u.id:=by rw[hfl.who amg.1,aq2]
  have hfree:AA x.ws to=true:=by rw[hfl.free hto,Ij hnot];rfl
  refine Yb s (λe=>?_) λ_ _ fe w s=>?_
  ·rw[hw1,hfree]at e;rcases e with e|e
   ·omega
   ·cases e
  ·have s:=ay s;refine ah (lP s 1 rfl (lI s 4 rfl (lI s 4 rfl ?_)));have s:=pk 5 [2,0,1] s;refine aaq (by unfold iK;omega) s (λhn=>?_) λ_ ur w eu s=>?_
   ·rw[hu,aay hmay.ids]at hn;cases hn
   ·have eT:(sU x.y u.id λu=>⟨u.id,to,u.goal⟩)=⟨x.y.most,x.y.next,(done++[⟨u.id,to,u.goal⟩])++us⟩:=by rw[sU,hu,ai5 hmay.ids,List.append_assoc];rfl
    rw[eT,hw1]at s;have Eh:nZ x.w x.h (done++⟨u.id,to,u.goal⟩::us):=hmay.WR rfl hto amg.2 λq=>hnot (by rw[List.map_append,List.mem_append]at q⊢;exact q.imp id λq=>by rw[List.map_cons];exact List.mem_cons_of_mem _ q)
    have s:=gh (A:=[_,_,_]) (B:=[av r.p 125 (zO ⟨r.p,ur,{r.fl with fe:=fe}⟩ ⟨x.w,x.h,⟨x.y.most,x.y.next,(done++[⟨u.id,to,u.goal⟩])++us⟩,(x.ws.set u.cell.toNat 0).set to.toNat (u.id+1)⟩),_,_]) [2,0,1] s (by unfold zO;rw[eu];rfl) (by decide);refine next ⟨r.p,ur,{r.fl with fe:=fe}⟩ _ w rfl (ym s ⟨?_,?_⟩)
    ·rw[List.append_assoc];exact Eh
    ·rw[List.append_assoc];exact ao4 Eh (ak0 hmay hfl)
def aaz {Q:Option Addr->Nat->Nat->Option Addr->Nat->Nat->Int->World->Prop}(hD:∀w',Sep F W w' L->Sl w' da dn dc 1 one ds)(hlen:ds.length=x.y.us.length)(hr:∀d∈ds,0<=d/\d<=5)(s:Sep F W w (fZ r x::L))
  (h:∀r' G2 ma mn mc ga gn gc w',r'.p=r.p->Sep F W w' (ak ma mn mc 51 2 (flat lq (cT x.w x.h [] (x.y.us.zip ds)).2.1)::ak ga gn gc 3 1 (flat one (cT x.w x.h [] (x.y.us.zip ds)).2.2)::fZ r' ⟨x.w,x.h,N5 x.w x.h x.y ds,G2⟩::L)->Q ma mn mc ga gn gc 0 w'):
  x6 (sZ r.p) da dn dc w Q:=by
 apply OK;have s:=ay s;obtain⟨ok,so⟩:=rC s;have D1:=(u6 (ai so)).1;have o9:=D1.nX;have Xq:=D1.most;refine mN (ah (lI so 0 rfl (ah (lI so 0 rfl ?_))));refine D2 s λua un uc w s=>?_;obtain⟨_,so⟩:=rC (ai s);refine⟨cq so 0 rfl,cq so 0 rfl,?_⟩;have hU:=aK s (i:=0) rfl z0 (by decide);have hun:=hU.len;have ayD:(x.y.us.zip ds).map (·.1)=x.y.us:=by rw[List.map_fst_zip];omega
 have hml:=(Jk (w:=x.w) (h:=x.h) (x.y.us.zip ds) []).2;rw[List.length_zip]at hml;refine aes s hU (hD _ (ai (ai s))) hlen (by omega) hr ok.may λaa an ac ma mn mc ga gn gc w s _=>?_;have s:=pk 4 [3,0,1] s;have hmn:=(aK s (i:=1) rfl Jl (by decide)).len;have loop:∀(j i:Nat) (r':CrR) (x':Hx) (done:List aS) (todo:List (aS×Int)) (w:World),i+j=mn->r'.p=r.p->x'.w=x.w->x'.h=x.h->x'.y=⟨x.y.most,x.y.next,done++todo.map (·.1)⟩->(cT x.w x.h done todo).2.1=(cT x.w x.h [] (x.y.us.zip ds)).2.1.drop i->(cT x.w x.h done todo).1=(cT x.w x.h [] (x.y.us.zip ds)).1->
   Sep F W w (fZ r' x'::ak ma mn mc 51 2 (flat lq (cT x.w x.h [] (x.y.us.zip ds)).2.1)::ak ga gn gc 3 1 (flat one (cT x.w x.h [] (x.y.us.zip ds)).2.2)::L)->
   pV Q (j+1) (sZ r.p) ma mn mc ga gn gc ma mn mc (mn:Int) i w:=by
  intro j;induction j with
  |zero=>
   intro i r' x' done todo w hij er ew eh ey e1 e2 s;show pU _ _ _ _ _ _ _ _ _ _ _ _ _ _ _;rw[pU,bh];rw[List.drop_eq_nil_of_le (by omega)]at e1;have e3:=acy _ _ e1;obtain⟨w1,h1,y1,ws1⟩:=x';subst ew eh ey;apply h r' ws1 ma mn mc ga gn gc w er;rw[N5,<-e2,e3];exact pk 3 [1,2,0] s
  |succ j ih=>
   intro i r' x' done todo w hij er ew eh ey e1 e2 s;show pU _ _ _ _ _ _ _ _ _ _ _ _ _ _ _;rw[pU,bN];refine(aK s (i:=1) rfl Jl (by decide)).El rfl (by omega) λp m hm hc=>?_;have hdr:(cT x.w x.h [] (x.y.us.zip ds)).2.1.drop i=m::(cT x.w x.h [] (x.y.us.zip ds)).2.1.drop (i+1):=by obtain⟨hlt,e⟩:=List.getElem?_eq_some_iff.1 hm;rw[List.drop_eq_getElem_cons hlt,e]
   rw[hdr]at e1;obtain⟨done',u,d,rest,hb,hsp,em,e3,e4⟩:=acz _ _ e1;have vH:x'.y.us=done'++u::rest.map (·.1):=by rw[ey,hsp]
   rw[<-ew,<-eh]at hb em;refine aO (hc 0 _ rfl) (aO (hc 1 _ rfl) ?_);refine aV s λmb w s=>?_;refine sT s 0 rfl λw s=>?_;refine ax s (i:=0) rfl rfl rfl λw s=>?_;have s:=s;rw[<-er];obtain⟨ok',s⟩:=rC (pk 4 [1,0,2,3] s);have s:=ay s;have aBQ:=(u6 (ai s)).1.jO u (by rw[vH];simp);have aBR:=(u6 (ai s)).1.Jc;have hgu:gE x'.y.us m.1=some u:=by have:=ok'.may.ids;rw[vH]at this;rw[vH,em];exact aay this
   have yq:iK m.1:=by rw[em];unfold iK;show _<=u.id/\u.id<_;omega
   have go:∀{ub:Nat} {w:World},Sep F W w (av ub 43 (gZ u)::av mb 51 (lq m)::fZ r' x'::ak ma mn mc 51 2 (flat lq (cT x.w x.h [] (x.y.us.zip ds)).2.1)::ak ga gn gc 3 1 (flat one (cT x.w x.h [] (x.y.us.zip ds)).2.2)::L)->
     l8 (pV Q (j+1)) Q (sZ r'.p) ma mn mc ga gn gc (aZ mb) (aZ ub) ma mn mc (mn:Int) i w:=λ{ub w} s=>by
    rw[em]at s;refine aq3 (by omega) vH hb s λr2 ws2 w e5 s=>?_;rw[er];refine ih (i+1) r2 ⟨x'.w,x'.h,⟨x'.y.most,x'.y.next,(done'++lR x'.w x'.h u d)++rest.map (·.1)⟩,ws2⟩ (done'++lR x.w x.h u d) rest w (by omega) (e5.trans er) ew eh ?_ e3 (e4.trans e2) s;rw[ew,eh,ey]
   refine ah (lP s 0 rfl (lI s 3 rfl ⟨?_,?_⟩))
   ·have s:=jk s;refine sS s yq (λhn=>by rw[hn]at hgu;cases hgu) λv hv w s=>?_;rw[hgu]at hv;cases hv;refine aV s λub w s=>?_;refine⟨cq s 4 rfl,cq s 2 rfl,?_⟩;refine sT s 0 rfl λw s=>?_;refine sT s 0 rfl λw s=>?_;refine ax s (i:=0) rfl rfl rfl λw s=>?_;have s:=ym (pk 7 [2,1,3,0,4,5,6] s) ok';exact go (pk 5 [1,2,0,3,4] s)
   ·refine aV s λub w s=>?_;refine⟨cq s 4 rfl,cq s 1 rfl,?_⟩;have s:=pk 7 [2,0,1,3,4,5,6] s;refine sS s yq (λhn=>by rw[hn]at hgu;cases hgu) λv hv w s=>?_;rw[hgu]at hv;cases hv;refine sT s 1 rfl λw s=>?_;refine sT s 1 rfl λw s=>?_;refine ax s (i:=1) rfl rfl rfl λw s=>?_;have s:=ym (pk 7 [2,0,3,1,4,5,6] s) ok';exact go (pk 5 [1,2,0,3,4] s)
 exact⟨mn+1,loop mn 0 r x [] (x.y.us.zip ds) w (by omega) rfl rfl rfl (by rw[ayD];rfl) rfl rfl s⟩
end
end Go.Proofs.YtmegplnmiepfbaaGreatDoor.S
namespace Go.Proofs.YtmegplnmiepfbaaGreatDoor.S
open Go.Sx
abbrev AJ:=List (Int×List (Int×List Int))
def zP (s id:Int):List (Int×List Int)->List (Int×List Int)
 |[]=>[(s,[id])]
 |q::r=>if q.1=s then(s,q.2++[id])::r else q::zP s id r
def qt (g s id:Int):AJ->AJ
 |[]=>[(g,[(s,[id])])]
 |q::r=>if q.1=g then(g,zP s id q.2)::r else q::qt g s id r
def S7 (w h:Int)(st:AJ)(u:aS):AJ:=qt u.goal (aC w h u.cell) u.id st
def acD (w h:Int)(us:List aS):AJ:=us.foldl (S7 w h) []
structure G3 where
 g:Int
 s:Int
 ids:List Int
def Dm (st:AJ):List G3:=st.flatMap λq=>q.2.map λp=>⟨q.1,p.1,p.2⟩
def mK (w h:Int)(us:List aS):List G3:=Dm (acD w h us)
section
variable {g s d w h:Int}{st:AJ}{us:List aS}
def aq4 {p1 p2:List (Int×List Int)}{ids:List Int}(hn:s∉p1.map (·.1)):zP s d (p1++(s,ids)::p2)=p1++(s,ids++[d])::p2:=by
 induction p1 with
 |nil=>simp[zP]
 |cons q p1 ih=>
  rw[List.map_cons,List.mem_cons,not_or]at hn;rw[List.cons_append,zP,if_neg (λe=>hn.1 e.symm),ih hn.2];rfl
def aq5 {l:List (Int×List Int)}(hn:s∉l.map (·.1)):zP s d l=l++[(s,[d])]:=by
 induction l with
 |nil=>rfl
 |cons q p1 ih=>
  rw[List.map_cons,List.mem_cons,not_or]at hn;rw[List.cons_append,zP,if_neg (λe=>hn.1 e.symm),ih hn.2]
def ai6 {g1 g2:AJ}{l:List (Int×List Int)}(hn:g∉g1.map (·.1)):qt g s d (g1++(g,l)::g2)=g1++(g,zP s d l)::g2:=by
 induction g1 with
 |nil=>simp[qt]
 |cons q p1 ih=>
  rw[List.map_cons,List.mem_cons,not_or]at hn;rw[List.cons_append,qt,if_neg (λe=>hn.1 e.symm),ih hn.2];rfl
def aq6 (hn:g∉st.map (·.1)):qt g s d (st++[(g,[])])=qt g s d st:=by
 induction st with
 |nil=>simp[qt,zP]
 |cons q p1 ih=>
  rw[List.map_cons,List.mem_cons,not_or]at hn;rw[List.cons_append,qt,if_neg (λe=>hn.1 e.symm),ih hn.2,qt,if_neg (λe=>hn.1 e.symm)]
def amh:(qt g s d st).map (·.1)=if g∈st.map (·.1)then st.map (·.1)else st.map (·.1)++[g]:=by
 induction st with
 |nil=>rfl
 |cons q p1 ih=>
  rw[qt];grind
def S8 (us:List aS):(acD w h us).map (·.1)=tS us:=by
 have:∀(us:List aS) (st:AJ),(us.foldl (S7 w h) st).map (·.1)=us.foldl EI (st.map (·.1)):=by
  intro us;induction us with
  |nil=>intro st;rfl
  |cons u us ih=>
   intro st;rw[List.foldl_cons,List.foldl_cons,ih];congr 1;exact amh
 exact this us []
def aaA {l:List (Int×List Int)}{x i:Int}:(∃p∈zP s d l,p.1=x/\i∈p.2)↔(x=s/\i=d)\/∃p∈l,p.1=x/\i∈p.2:=by
 induction l with
 |nil=>
  simp[zP,List.mem_singleton,exists_eq_left,List.not_mem_nil,false_and,exists_false,or_false];grind
 |cons q l ih=>
  rw[zP];split
  ·rename_i e;subst e;constructor
   ·grind
   ·rintro (⟨rfl,rfl⟩|⟨p,hp,e1,e2⟩)
    ·simp_all
    ·rcases List.mem_cons.1 hp with rfl|hp
     ·simp_all
     grind
  grind
def inG (st:AJ)(g s i:Int):Prop:=∃q∈st,q.1=g/\∃p∈q.2,p.1=s/\i∈p.2
def aq7 {x y i:Int}:inG (qt g s d st) x y i↔(x=g/\y=s/\i=d)\/inG st x y i:=by
 unfold inG;induction st with
 |nil=>
  simp[qt,List.mem_singleton,exists_eq_left,List.not_mem_nil,false_and,exists_false,or_false];grind
 |cons q st ih=>
  rw[qt];split
  ·rename_i e;subst e;constructor
   ·rintro ⟨p,hp,e1,e2⟩;rcases List.mem_cons.1 hp with rfl|hp
    ·rcases aaA.1 e2 with⟨e3,e4⟩|e2
     all_goals grind
    grind
   ·rintro (⟨rfl,e3,e4⟩|⟨p,hp,e1,e2⟩)
    ·exact⟨_,List.mem_cons_self ..,rfl,aaA.2 (.inl ⟨e3,e4⟩)⟩
    ·rcases List.mem_cons.1 hp with rfl|hp
     ·exact⟨_,List.mem_cons_self ..,e1,aaA.2 (.inr e2)⟩
     grind
  ·constructor
   ·rintro ⟨p,hp,e1,e2⟩;rcases List.mem_cons.1 hp with rfl|hp
    ·grind
    ·exact(ih.1 ⟨p,hp,e1,e2⟩).imp id λ⟨p,hp,e⟩=>⟨p,List.mem_cons_of_mem _ hp,e⟩
   ·rintro (h|⟨p,hp,e1,e2⟩)
    ·simp_all
    ·rcases List.mem_cons.1 hp with rfl|hp
     ·grind
     ·obtain⟨p,hp,e⟩:=ih.2 (.inr ⟨p,hp,e1,e2⟩);grind
def aq8 {x y i:Int}:inG (acD w h us) x y i↔∃u∈us,u.goal=x/\aC w h u.cell=y/\u.id=i:=by
 have:∀(us:List aS) (st:AJ),inG (us.foldl (S7 w h) st) x y i↔inG st x y i\/∃u∈us,u.goal=x/\aC w h u.cell=y/\u.id=i:=by
  intro us;induction us with
  |nil=>grind
  |cons u us ih=>
   intro st;rw[List.foldl_cons,ih];rw[S7,aq7];grind
 have h0:¬inG [] x y i:=λ⟨q,hq,_⟩=>by cases hq
 unfold acD;grind
def WX {x y i:Int}:(∃p∈mK w h us,p.g=x/\p.s=y/\i∈p.ids)↔∃u∈us,u.goal=x/\aC w h u.cell=y/\u.id=i:=by
 rw[<-aq8];unfold mK Dm inG;constructor
 ·rintro ⟨p,hp,e1,e2,e3⟩;obtain⟨q,hq,hp⟩:=List.mem_flatMap.1 hp;grind
 ·rintro ⟨q,hq,e1,z,hz,e2,e3⟩;exact⟨⟨q.1,z.1,z.2⟩,List.mem_flatMap.2 ⟨q,hq,List.mem_map.2 ⟨z,hz,rfl⟩⟩,e1,e2,e3⟩
def agR (st:AJ):Prop:=∀q∈st,∀p∈q.2,p.2≠[]
def ao9 {l:List (Int×List Int)}(h:∀p∈l,p.2≠[]):∀p∈zP s d l,p.2≠[]:=by
 induction l with
 |nil=>intro p hp;simp[zP,List.mem_singleton]at hp;grind
 |cons q l ih=>
  intro p hp;rw[zP]at hp;split at hp
  ·rcases List.mem_cons.1 hp with rfl|hp
   ·simp
   ·exact h p (List.mem_cons_of_mem _ hp)
  grind
def ao_ (h:agR st):agR (qt g s d st):=by
 induction st with
 |nil=>
  intro q hq p hp;simp[qt,List.mem_singleton]at hq;grind
 |cons q st ih=>
  intro z hz;rw[qt]at hz;split at hz
  ·rcases List.mem_cons.1 hz with rfl|hz
   ·exact ao9 (h q (List.mem_cons_self ..))
   ·exact h z (List.mem_cons_of_mem _ hz)
  ·rcases List.mem_cons.1 hz with rfl|hz
   ·exact h z (List.mem_cons_self ..)
   ·exact ih (λq hq=>h q (List.mem_cons_of_mem _ hq)) z hz
def aq9 (l:List (Int×List Int)):(zP s d l).length<=l.length+1:=by
 induction l with
 |nil=>exact Nat.le_refl _
 |cons q l ih=>
  rw[zP];grind
def KD (q:Int×List (Int×List Int)):Dm (q::st)=(q.2.map λp=>⟨q.1,p.1,p.2⟩)++Dm st:=rfl
def aq_ (st:AJ):(Dm (qt g s d st)).length<=(Dm st).length+1:=by
 induction st with
 |nil=>exact Nat.le_refl _
 |cons q st ih=>
  rw[qt];split
  ·rw[KD,KD,List.length_append,List.length_append,List.length_map,List.length_map];have:=aq9 (s:=s) (d:=d) q.2;grind
  ·rw[KD,KD,List.length_append,List.length_append];omega
def afD (w h:Int)(us:List aS):(mK w h us).length<=us.length:=by
 have:∀(us:List aS) (st:AJ),(Dm (us.foldl (S7 w h) st)).length<=(Dm st).length+us.length:=by
  intro us;induction us with
  |nil=>grind
  |cons u us ih=>
   intro st;rw[List.foldl_cons,List.length_cons];have h1:=ih (S7 w h st u);have h2:=aq_ (g:=u.goal) (s:=aC w h u.cell) (d:=u.id) st;have h2:(Dm (S7 w h st u)).length<=(Dm st).length+1:=h2;omega
 have:=this us [];have e:(Dm ([]:AJ)).length=0:=rfl;rw[e,Nat.zero_add]at this;exact this
def ami {p:G3}(hp:p∈mK w h us):p.ids≠[]:=by
 have:∀(us:List aS) (st:AJ),agR st->agR (us.foldl (S7 w h) st):=by
  intro us;induction us with
  |nil=>grind
  |cons u us ih=>intro st h;exact ih _ (ao_ h)
 obtain⟨q,hq,hp⟩:=List.mem_flatMap.1 hp;obtain⟨z,hz,rfl⟩:=List.mem_map.1 hp;exact this us [] (λq hq=>by cases hq) q hq z hz
def amj {p:G3}(hp:p∈mK w h us):∃u∈us,u.goal=p.g/\aC w h u.cell=p.s:=by have hf:=ami hp;obtain⟨i,hi⟩:=List.exists_mem_of_ne_nil _ hf;obtain⟨u,hu,e1,e2,_⟩:=WX.1 ⟨p,hp,rfl,rfl,hi⟩;grind
end
end Go.Proofs.YtmegplnmiepfbaaGreatDoor.S
namespace Go.Proofs.YtmegplnmiepfbaaGreatDoor.S
open Go.Sx
attribute [local irreducible] af cv bz bg aA cw bZ St Bx Al App cH cy cD bU aM bF aq bS av ak aW mapA
structure BG where
 a:Option Addr
 n:Nat
 c:Nat
def TO (q:BG):Value:=.slice q.a q.n q.c
structure A3 where
 g:Int
 s:Int
 q:BG
 ids:List Int
def yN (p:A3):List Value:=[ae p.g,ae p.s,.slice p.q.a p.q.n p.q.c]
def uU (p:A3):(yN p).length=3:=rfl
def apa (x:A3)(u:Value)(h:u∈yN x):u.oneCell'=true:=by unfold yN at h;simp[List.mem_cons,List.not_mem_nil,or_false]at h;rcases h with rfl|rfl|rfl<;>rfl
def ara (p:A3):As:=ak p.q.a p.q.n p.q.c 3 1 (flat one p.ids)
structure CL where
 g:Int
 q:BG
 ps:List A3
def gpR (G:CL):As:=ak G.q.a G.q.n G.q.c 211 3 (flat yN G.ps)
def Bj (gs:List CL):As:=aW True (gs.map gpR)
def AK (ps:List A3):As:=aW True (ps.map ara)
def j8 (gs:List CL):List A3:=gs.flatMap (·.ps)
def FQ (gs:List CL):AJ:=gs.map λG=>(G.g,G.ps.map λp=>(p.s,p.ids))
def atT:P.underlying 180=some (.map 253 3):=by kernel_rfl
def ofT:P.underlying 252=some (.map 3 208):=by kernel_rfl
def avs (w:World):(zeroValue 208).run P w=.ok (TO ⟨none,0,0⟩) w:=by kernel_rfl
section
variable {F:Nat->Prop}{W w w0:World}{L:List As}
def S9 {A B:List As}{X:As}(s:Sep F W w (aW True (A++X::B)::L)):Sep F W w (X::aW True (A++B)::L):=by
 have s:=(gR s).2;have s:=ck (L':=(A++B)++X::L) s (by rw[List.append_assoc,List.append_assoc,List.cons_append];exact List.Perm.append_left _ List.perm_middle.symm)
 have s:=dA s trivial;exact jk s
def Mh {A B:List As}{X:As}(s:Sep F W w (X::aW True (A++B)::L)):Sep F W w (aW True (A++X::B)::L):=by have s:=(gR (jk s)).2;refine dA ?_ trivial;apply ck s;rw[List.append_assoc,List.append_assoc,List.cons_append];exact List.Perm.append_left _ List.perm_middle
end
def gOf (ms:List (Int×BG))(g:Int):BG:=(fE ms g).getD ⟨none,0,0⟩
structure N6 (ms:List (Int×BG)) (m2:List ((Int×Int)×Int)) (gs:List CL):Prop where
 hk:oW ms
 IP:oW m2
 nd:(gs.map (·.g)).Nodup
 nds:∀G∈gs,(G.ps.map (·.s)).Nodup
 of_:∀G∈gs,gOf ms G.g=G.q
 no:∀g,g∉gs.map (·.g)->fE ms g=none
 at1:∀g s k,fE m2 (g,s)=some k->∃G∈gs,G.g=g/\0<=k/\(G.ps[k.toNat]?).map (·.s)=some s
 at2:∀G∈gs,∀p∈G.ps,(fE m2 (G.g,p.s)).isSome=true
 pg:∀G∈gs,∀p∈G.ps,p.g=G.g
section
variable {F:Nat->Prop}{W w w0:World}{L:List As}{mw mh:Int}{mb Hy:Nat}{ms:List (Int×BG)}{m2:List ((Int×Int)×Int)}{gs g1 g2:List CL}{G:CL}
def acE {i:Nat}{g:Int}{K:Option Addr->Nat->Nat->World->Prop}(s:Sep F W w L)(hi:L[i]? =some (fS fB TO mb ms))(hk:oW ms)(hg:iK g)(h:K (gOf ms g).a (gOf ms g).n (gOf ms g).c w):
  aM P (Instr.lookup 252 (.map (some mb)) (ae g) false) w λv w=>dS v λa n c=>K a n c w:=by
 unfold gOf at h;refine EF (K:=fB) ofT (avs w) s hi hk hg (λhn=>?_) λq hq=>?_
 ·rw[hn]at h;exact h
 ·rw[hq]at h;exact h
def N6.pairs {G':CL}(I:N6 ms m2 (g1++G::g2))(eg:G'.g=G.g)(eq:G'.q=G.q)(es:G'.ps.map (·.s)=G.ps.map (·.s))(ep:∀p∈G'.ps,p.g=G.g):N6 ms m2 (g1++G'::g2):=by
 have hm:∀X,X∈g1++G'::g2->X=G'\/X∈g1++G::g2:=λX hX=>by grind
 have hG:G∈g1++G::g2:=by simp
 have hs:∀k:Nat,(G'.ps[k]?).map (·.s)=(G.ps[k]?).map (·.s):=λk=>by rw[<-List.getElem?_map,<-List.getElem?_map,es]
 have Fg:(g1++G'::g2).map (·.g)=(g1++G::g2).map (·.g):=by simp[eg]
 refine⟨I.hk,I.IP,by rw[Fg];exact I.nd,λX hX=>?_,λX hX=>?_,λg hg=>I.no g (by grind),λg s k hk=>?_,λX hX p hp=>?_,λX hX p hp=>?_⟩
 ·rcases hm X hX with rfl|hX
  ·rw[es];exact I.nds G hG
  ·exact I.nds X hX
 ·rcases hm X hX with rfl|hX
  ·rw[eg,eq];exact I.of_ G hG
  ·exact I.of_ X hX
 ·obtain⟨X,hX,e1,e2,e3⟩:=I.at1 g s k hk;grind
 ·rcases hm X hX with rfl|hX
  ·have:p.s∈X.ps.map (·.s):=List.mem_map.2 ⟨p,hp,rfl⟩;rw[es]at this;obtain⟨p',hp',e⟩:=List.mem_map.1 this;rw[eg,<-e];exact I.at2 G hG p' hp'
  ·exact I.at2 X hX p hp
 ·rcases hm X hX with rfl|hX
  ·grind
  ·exact I.pg X hX p hp
def N6.add {ms':List (Int×BG)}{YO:List ((Int×Int)×Int)}{p:A3}{q:BG}(I:N6 ms m2 (g1++G::g2))(hk:oW ms')(IP:oW YO)(hm:∀g,fE ms' g=if g=G.g then some q else fE ms g)(Eh:∀x,fE YO x=if x=(G.g,p.s)then some (G.ps.length:Int)else fE m2 x)
  (ep:p.g=G.g)(hn:p.s∉G.ps.map (·.s)):N6 ms' YO (g1++⟨G.g,q,G.ps++[p]⟩::g2):=by
 have hG:G∈g1++G::g2:=by simp
 have Fg:(g1++⟨G.g,q,G.ps++[p]⟩::g2).map (·.g)=(g1++G::g2).map (·.g):=by simp
 have hnd:=I.nd;have hmem:∀X,X∈g1++(⟨G.g,q,G.ps++[p]⟩:CL)::g2->X=⟨G.g,q,G.ps++[p]⟩\/(X∈g1++G::g2/\X.g≠G.g):=λX hX=>by grind
 refine⟨hk,IP,by grind,λX hX=>?_,λX hX=>?_,λg hg=>?_,λg s k hs=>?_,λX hX x hx=>?_,λX hX x hx=>?_⟩
 ·rcases hmem X hX with rfl|⟨hX,_⟩
  ·rw[List.map_append,List.nodup_append];refine⟨I.nds G hG,by simp,λa ha b hb=>?_⟩;grind
  ·exact I.nds X hX
 ·unfold gOf;rcases hmem X hX with rfl|⟨hX,hne⟩
  ·grind
  ·rw[hm,if_neg hne];exact I.of_ X hX
 ·rw[Fg]at hg;rw[hm,if_neg λe=>hg (by rw[e];exact List.mem_map.2 ⟨G,hG,rfl⟩)];exact I.no g hg
 ·rw[Eh]at hs;by_cases e:(g,s)=(G.g,p.s)
  ·rw[if_pos e]at hs;cases hs;cases e;refine⟨⟨G.g,q,G.ps++[p]⟩,by simp,rfl,Int.natCast_nonneg _,?_⟩;simp
  ·rw[if_neg e]at hs;obtain⟨X,hX,e1,e2,e3⟩:=I.at1 g s k hs;rw[List.mem_append,List.mem_cons]at hX;rcases hX with h|rfl|h
   ·exact⟨X,by simp[h],e1,e2,e3⟩
   ·refine⟨⟨X.g,q,X.ps++[p]⟩,by simp,e1,e2,?_⟩;obtain⟨z,hz,_⟩:=Option.map_eq_some_iff.1 e3;rw[List.getElem?_append_left (List.getElem?_eq_some_iff.1 hz).1];exact e3
   ·exact⟨X,by simp[h],e1,e2,e3⟩
 ·rw[Eh];split
  ·rfl
  ·rename_i hne;rcases hmem X hX with rfl|⟨hX,_⟩
   ·rcases List.mem_append.1 hx with hx|hx
    ·exact I.at2 G hG x hx
    ·rw[List.mem_singleton]at hx;subst hx;exact(hne rfl).elim
   ·exact I.at2 X hX x hx
 ·rcases hmem X hX with rfl|⟨hX,_⟩
  ·rcases List.mem_append.1 hx with hx|hx
   ·exact I.pg G hG x hx
   ·rw[List.mem_singleton.1 hx];exact ep
  ·exact I.pg X hX x hx
def N6.group (I:N6 ms m2 gs)(g:Int):∃g1 G g2,G.g=g/\N6 ms m2 (g1++G::g2)/\((gs=g1++G::g2)\/(gs=g1/\g2=[]/\G=⟨g,⟨none,0,0⟩,[]⟩/\g∉gs.map (·.g))):=by
 by_cases h:g∈gs.map (·.g)
 ·obtain⟨G,hG,rfl⟩:=List.mem_map.1 h;obtain⟨g1,g2,rfl⟩:=List.append_of_mem hG;grind
 ·refine⟨gs,⟨g,⟨none,0,0⟩,[]⟩,[],rfl,?_,.inr ⟨rfl,rfl,rfl,h⟩⟩;have hm:∀X,X∈gs++[(⟨g,⟨none,0,0⟩,[]⟩:CL)]->X∈gs\/X=⟨g,⟨none,0,0⟩,[]⟩:=λX hX=>by grind
  refine⟨I.hk,I.IP,?_,λX hX=>?_,λX hX=>?_,λg' hg=>I.no g' λe=>hg (by grind),λg s k hs=>?_,λX hX x hx=>?_,λX hX x hx=>?_⟩
  ·rw[List.map_append,List.nodup_append];refine⟨I.nd,by simp,λa ha b hb=>?_⟩;grind
  ·rcases hm X hX with hX|rfl
   ·exact I.nds X hX
   grind
  ·rcases hm X hX with hX|rfl
   ·exact I.of_ X hX
   ·rw[gOf,I.no g h];rfl
  ·obtain⟨X,hX,e⟩:=I.at1 g s k hs;grind
  ·rcases hm X hX with hX|rfl
   ·exact I.at2 X hX x hx
   ·cases hx
  ·rcases hm X hX with hX|rfl
   ·exact I.pg X hX x hx
   ·cases hx
end
def aaB {g1 g2:List CL}{g:Int}{q:BG}{p1 p2:List A3}{p:A3}:j8 (g1++⟨g,q,p1++p::p2⟩::g2)=(j8 g1++p1)++p::(p2++j8 g2):=by unfold j8;grind
def atr {α:Type}{p1 p2:List α}{p p':α}:(p1++p::p2).set p1.length p'=p1++p'::p2:=by grind
def att {α:Type}{p1 p2:List α}{p:α}:(p1++p::p2)[p1.length]? =some p:=by grind
section
variable {F:Nat->Prop}{W w w0:World}{L T:List As}{mw mh:Int}{mb Hy ub:Nat}{ms:List (Int×BG)}{m2:List ((Int×Int)×Int)}{g1 g2:List CL}{g:Int}{q:BG}{p1 p2:List A3}{p:A3}{la ta:Option Addr}{ln lc tn tc i:Nat}{tm:Int}{u:aS}
def afG {P6:Int->Int->Option Addr->Nat->Nat->Option Nat->Option Nat->Option Addr->Nat->Nat->Int->Int->World->Prop}{Q:Option Addr->Nat->Nat->World->Prop}(hi:i<=1000000000)(hk:oW ms)(hq:gOf ms g=q)(hg:u.goal=g)(ayE:iK g)(JS:p.ids.length<=1000000000)
  (s:Sep F W w (Bj (g1++⟨g,q,p1++p::p2⟩::g2)::AK (j8 (g1++⟨g,q,p1++p::p2⟩::g2))::fS fB TO mb ms::fS Kw vI Hy m2::av ub 43 (gZ u)::T))
  (next:∀q' w',Sep F W w' (Bj (g1++⟨g,q,p1++⟨p.g,p.s,q',p.ids++[u.id]⟩::p2⟩::g2)::AK (j8 (g1++⟨g,q,p1++⟨p.g,p.s,q',p.ids++[u.id]⟩::p2⟩::g2))::fS fB TO mb ms::fS Kw vI Hy m2::T)->P6 mw mh la ln lc (some mb) (some Hy) ta tn tc tm ((i+1:Nat):Int) w'):
  pS P6 Q mw mh la ln lc (some mb) (some Hy) (aZ ub) (p1.length:Int) ta tn tc tm i w:=by
 rw[pS,FP hi];apply lI s 4 rfl;rw[hg];apply acE s (i:=2) rfl hk ayE;rw[hq];rw[aaB]at s;unfold Bj AK at s;rw[List.map_append,List.map_cons,List.map_append,List.map_cons]at s;have s:=S9 s;have s:=pk 6 [2,0,1,3,4,5] s;have s:=S9 s;have s:=s;have hpn:=(aK s (i:=0) rfl cE (by decide)).len;have hqn:=(aK s (i:=2) rfl uU (by decide)).len;simp[List.length_append,List.length_cons]at hqn;refine CR s (i:=2) rfl rfl (by omega) λb o ea=>?_;obtain⟨qa,qn,qc⟩:=q;subst ea;have hx:=att (p1:=p1) (p2:=p2) (p:=p);have had:((⟨b,o,none⟩:Addr).add ((p1.length:Int).toNat*3)).add 2=⟨b,o+(p1.length*3+2),none⟩:=by rw[Int.toNat_natCast,eo]
 rw[had];have s:=ay s;apply Ir uU s (i:=2) rfl hx rfl rfl;apply lI s 6 rfl;refine aQ s λxb w s=>⟨?_,?_⟩
 ·exact wS s (i:=3) rfl rfl (by rw[sX uU hx (by decide)];rfl)
 ·have src:Src w (sZ xb) 1 1 (one u.id):=⟨rfl,Fk _,λj v hj=>by rw[cu,Nat.zero_add];exact cR s (i:=0) rfl rfl hj⟩;refine iw dW s (i:=1) (bytes:=8) rfl rfl rfl rfl rfl rfl (by decide) rfl src (by simp[maxLen];omega) (by omega) (λe=>by cases e) λra rc w s=>?_;have e:flat one p.ids++one u.id=flat one (p.ids++[u.id]):=by rw[gd];simp[flat]
  rw[e]at s;refine dX uU s (i:=3) rfl hx rfl (x':=⟨p.g,p.s,⟨ra,p.q.n+1,rc⟩,p.ids++[u.id]⟩) (by decide) rfl rfl λw s=>?_;rw[atr]at s;have s:=pk 8 [1,2,3,4,5,6] s;have s:=Mh s;have s:=pk 5 [1,2,0,3,4] s;have s:=Mh s;apply next ⟨ra,p.q.n+1,rc⟩ w
  unfold Bj AK;rw[aaB,List.map_append,List.map_cons,List.map_append,List.map_cons];exact s
end
def Mi (p:A3):G3:=⟨p.g,p.s,p.ids⟩
def Xs {g1 g2:List CL}{G:CL}:FQ (g1++G::g2)=FQ g1++(G.g,G.ps.map λp=>(p.s,p.ids))::FQ g2:=by unfold FQ;grind
def N7 {gs:List CL}:(FQ gs).map (·.1)=gs.map (·.g):=by unfold FQ;simp_all
def atu {g1 g2:List CL}{g s d:Int}{q q':BG}{p1 p2:List A3}{p p':A3}(h1:g∉g1.map (·.g))(h2:s∉p1.map (·.s))(e1:p.s=s)(e2:p'.s=s)(e3:p'.ids=p.ids++[d]):
  FQ (g1++⟨g,q',p1++p'::p2⟩::g2)=qt g s d (FQ (g1++⟨g,q,p1++p::p2⟩::g2)):=by
 rw[Xs,Xs,ai6 (by rw[N7];exact h1)];simp[List.map_append,List.map_cons];rw[e1,aq4 (by grind),e2,e3]
def atv {g1 g2:List CL}{g s d:Int}{q q':BG}{p1:List A3}{p':A3}(h1:g∉g1.map (·.g))(h2:s∉p1.map (·.s))(e2:p'.s=s)(e3:p'.ids=[d]):
  FQ (g1++⟨g,q',p1++[p']⟩::g2)=qt g s d (FQ (g1++⟨g,q,p1⟩::g2)):=by
 rw[Xs,Xs,ai6 (by rw[N7];exact h1)];simp[List.map_append,List.map_cons,List.map_nil];rw[aq5 (by grind),e2,e3]
section
variable {F:Nat->Prop}{W w w0:World}{L T:List As}{mw mh:Int}{mb Hy ub:Nat}{ms:List (Int×BG)}{m2:List ((Int×Int)×Int)}{g1 g2 gs:List CL}{g sc:Int}{q:BG}{ps p1 p2:List A3}{la ta:Option Addr}{ln lc tn tc i:Nat}{tm:Int}{u:aS}
def N6.asa {G:CL}(I:N6 ms m2 (g1++G::g2)):G.g∉g1.map (·.g):=λh=>by have:=I.nd;grind
def ai8 {K:Option Addr->Nat->Nat->World->Prop}(hl:ps.length<=1000000000)(s:Sep F W w (av ub 211 [ae g,ae sc,.slice none 0 0]::Bj (g1++⟨g,q,ps⟩::g2)::T))
  (k:∀q' w',Sep F W w' (Bj (g1++⟨g,q',ps++[⟨g,sc,⟨none,0,0⟩,[]⟩]⟩::g2)::T)->K q'.a q'.n q'.c w'):App P #[208,208] 208 (.slice q.a q.n q.c) (.slice (sZ ub) 1 1) w K:=by
 have s:=jk s;unfold Bj at s;rw[List.map_append,List.map_cons]at s;have s:=S9 s;have s:Sep F W w (ak q.a q.n q.c 211 3 (flat yN ps)::_::av ub 211 _::T):=s;have hqn:=(aK s (i:=0) rfl uU (by decide)).len;have src:Src w (sZ ub) 1 3 (yN ⟨g,sc,⟨none,0,0⟩,[]⟩):=⟨rfl,apa _,λj v hj=>by rw[cu,Nat.zero_add];exact cR s (i:=2) rfl rfl hj⟩;refine iw dW s (i:=0) (bytes:=40) rfl rfl rfl rfl rfl rfl (by decide) rfl src (by simp[maxLen];omega) (by omega) (λe=>by cases e) λra rc w s=>?_;have e:flat yN ps++yN ⟨g,sc,⟨none,0,0⟩,[]⟩=flat yN (ps++[⟨g,sc,⟨none,0,0⟩,[]⟩]):=by rw[gd];simp[flat]
 rw[e]at s;apply k ⟨ra,q.n+1,rc⟩ w;have s:=gh (A:=[_,_,_]) (B:=[gpR ⟨g,⟨ra,q.n+1,rc⟩,ps++[⟨g,sc,⟨none,0,0⟩,[]⟩]⟩,_]) [0,1] s rfl (by decide);have s:=Mh s;unfold Bj;simp_all
def atw {q':BG}{p:A3}(s:Sep F W w (Bj gs::AK (j8 (g1++⟨g,q,ps⟩::g2))::T))(hp:p.q=⟨none,0,0⟩)(hi:p.ids=[]):Sep F W w (Bj gs::AK (j8 (g1++⟨g,q',ps++[p]⟩::g2))::T):=by
 have e1:j8 (g1++⟨g,q,ps⟩::g2)=(j8 g1++ps)++j8 g2:=by unfold j8;grind
 have e2:ara p=ak none 0 0 3 1 []:=by unfold ara;rw[hp,hi];rfl
 rw[e1]at s;rw[aaB];unfold AK at s⊢;rw[List.map_append]at s;rw[List.map_append,List.map_cons,e2];have s:=bG s 3 1;have s:=pk 3 [0,2,1] s;exact ck (Mh s) (List.Perm.swap _ _ _)
structure aml (mw mh:Int) (us:List aS) (i:Nat) (ms:List (Int×BG)) (m2:List ((Int×Int)×Int)) (gs:List CL):Prop where
 I:N6 ms m2 gs
 pl:FQ gs=acD mw mh (us.take i)
 sz:∀G∈gs,G.ps.length<=i/\∀p∈G.ps,p.ids.length<=i
def aml.next {us:List aS}{ms':List (Int×BG)}{YO:List ((Int×Int)×Int)}{q':BG}{p':A3}(S:aml mw mh us i ms m2 gs)(hu:us[i]? =some u)(I':N6 ms' YO (g1++⟨g,q',p1++p'::p2⟩::g2))(e:FQ (g1++⟨g,q',p1++p'::p2⟩::g2)=qt u.goal (aC mw mh u.cell) u.id (FQ gs))
  (h1:∀G∈g1,G∈gs)(h2:∀G∈g2,G∈gs)(hl:(p1++p'::p2).length<=i+1)(hp:p'.ids.length<=i+1)(hps:∀p,p∈p1\/p∈p2->p.ids.length<=i):aml mw mh us (i+1) ms' YO (g1++⟨g,q',p1++p'::p2⟩::g2):=by
 refine⟨I',?_,λG hG=>?_⟩
 ·rw[e,S.pl,List.take_add_one,hu];show _=List.foldl _ _ (us.take i++[u]);rw[List.foldl_append];rfl
 ·have up:∀G∈gs,G.ps.length<=i+1/\∀p∈G.ps,p.ids.length<=i+1:=λG hG=>⟨Nat.le_succ_of_le (S.sz G hG).1,λp hp=>Nat.le_succ_of_le ((S.sz G hG).2 p hp)⟩;grind
def atx {gs:List CL}(h:∀G∈gs,∀p∈G.ps,p.g=G.g):(j8 gs).map Mi=Dm (FQ gs):=by unfold j8 Dm FQ;rw[List.map_flatMap,List.flatMap_map];refine congrArg List.flatten ?_|>λe=>(List.flatMap_def ..).trans (e.trans (List.flatMap_def ..).symm);refine List.map_congr_left λG hG=>?_;rw[List.map_map];refine List.map_congr_left λp hp=>?_;show G3.mk _ _ _=G3.mk _ _ _;grind
end
def asb {a:Int}{b:Bool}{K:Int->Bool->Prop}(k:K a b):dT (.tuple #[ae a,.bool b]) λl=>dH l λv0 l0=>dI .i64 v0 λx=>dH l0 λv1 l1=>dB v1 λy=>kT l1 (K x y):=k
section
variable {F:Nat->Prop}{W w w0:World}{L T:List As}{mw mh:Int}{la:Option Addr}{ln lc:Nat}{us:List aS}
def apb {Q:Option Addr->Nat->Nat->World->Prop}{mb Hy:Nat}{ms:List (Int×BG)}{m2:List ((Int×Int)×Int)}{gs:List CL}{ga:Option Addr}{gn gc:Nat}(I:N6 ms m2 gs)(h64:∀G∈gs,iK G.g)(wm:(j8 gs).length<=1000000)(Fg:gs.length<=1000000)
  (h:∀oa on oc w',Sep No w0 w' (ak oa on oc 211 3 (flat yN (j8 gs))::AK (j8 gs)::[])->Q oa on oc w'):
  ∀(j i:Nat) (oa:Option Addr) (on oc:Nat) (w:World),i+j=gn->gs.length=gn->Sep No w0 w (ak oa on oc 211 3 (flat yN (j8 (gs.take i)))::ak ga gn gc 3 1 (flat one (gs.map (·.g)))::Bj gs::AK (j8 gs)::fS fB TO mb ms::[])->
   Bu Q (j+1) (some mb) oa on oc ga gn gc (gn:Int) i w:=by
 intro j;induction j with
 |zero=>
  intro i oa on oc w hij Hj s;show xF _ _ _ _ _ _ _ _ _ _ _ _;rw[xF,bh];rw[List.take_of_length_le (by omega)]at s;exact h oa on oc w (cm (L':=[_,_]) [0,3] s rfl (by decide))
 |succ j ih=>
  intro i oa on oc w hij Hj s;show xF _ _ _ _ _ _ _ _ _ _ _ _;rw[xF,bN];have hi:i<gs.length:=by omega
  obtain⟨G,hG⟩:∃G,gs[i]? =some G:=⟨_,List.getElem?_eq_getElem hi⟩;have hmem:=List.mem_of_getElem? hG;have hgi:gi (gs.map (·.g)) i=G.g:=by unfold gi;grind
  have yw:gs.take (i+1)=gs.take i++[G]:=by rw[List.take_add_one,hG];rfl
  have hall:j8 (gs.take (i+1))=j8 (gs.take i)++G.ps:=by unfold j8;grind
  have hle:(j8 (gs.take (i+1))).length<=(j8 gs).length:=by
   have e:j8 gs=j8 (gs.take (i+1))++j8 (gs.drop (i+1)):=by unfold j8;rw[<-List.flatMap_append,List.take_append_drop]
   grind
  have Cs:=(aK s (i:=0) rfl uU (by decide)).len;rw[hall,List.length_append]at hle;apply(aK s (i:=1) rfl cE (by decide)).rE rfl (by omega);rw[hgi,FP (by omega)];apply acE s (i:=4) rfl I.hk (h64 G hmem);rw[I.of_ G hmem];have src:Src w G.q.a G.q.n 3 (flat yN G.ps):=by have s2:=cm (L':=[_]) [2] s rfl (by decide);have s3:=(gR s2).2;exact apV s3 (by rw[List.getElem?_append_left (by rw[List.length_map];exact hi),List.getElem?_map,hG];rfl)
  have hcc:G.q.a=none->G.q.c=0:=by have s2:=cm (L':=[_]) [2] s rfl (by decide);have s3:=(gR s2).2;exact aeU s3 (by rw[List.getElem?_append_left (by rw[List.length_map];exact hi),List.getElem?_map,hG];rfl)
  have hqn:G.ps.length=G.q.n:=by have:=src.1;rw[iV uU]at this;omega
  refine iw dW s (i:=0) (bytes:=40) rfl rfl rfl rfl rfl rfl (by decide) rfl src (by simp[maxLen];omega) (by omega) hcc λra rc w s=>?_;rw[<-gd,<-hall]at s;grind
def amm {Q:Option Addr->Nat->Nat->World->Prop}{mb Hy:Nat}(hU:Sl w0 la ln lc 3 gZ us)(qk:ln<=100000)(hm:nZ mw mh us)
  (h:∀oa on oc ps w',ps.map Mi=mK mw mh us->Sep No w0 w' (ak oa on oc 211 3 (flat yN ps)::AK ps::[])->Q oa on oc w'):
  ∀(j i:Nat) (ms:List (Int×BG)) (m2:List ((Int×Int)×Int)) (gs:List CL) (w:World),i+j=ln->aml mw mh us i ms m2 gs->Sep No w0 w (Bj gs::AK (j8 gs)::fS fB TO mb ms::fS Kw vI Hy m2::[])->
   zD Q (j+1) mw mh la ln lc (some mb) (some Hy) la ln lc (ln:Int) i w:=by
 have hlen:=hU.len;intro j;induction j with
 |zero=>
  intro i ms m2 gs w hij S s;show zC _ _ _ _ _ _ _ _ _ _ _ _ _ _ _;rw[zC,bh];have S:=S;have IJ:=S.pl;rw[List.take_of_length_le (by omega)]at IJ;have avt:gs.map (·.g)=tS us:=by rw[<-S8,<-IJ,N7]
  have htr:(j8 gs).map Mi=mK mw mh us:=by rw[atx S.I.pg,IJ];rfl
  have hal:(j8 gs).length<=us.length:=by have e:((j8 gs).map Mi).length=(j8 gs).length:=List.length_map ..;have:=afD mw mh us;grind
  have h64:∀u∈us,iK u.goal:=λu hu=>AH (hm.at_ u hu).2;refine aau s (hU.fr (au s)) (by omega) h64 λga gn gc w s _=>?_;rw[<-avt]at s;have Hj:=(aK s (i:=0) rfl cE (by decide)).len;rw[List.length_map]at Hj;have s:=bG s 211 3;refine⟨gn+1,apb (Hy:=Hy) S.I (λG hG=>?_) (by omega) (by have:=aoY (us:=us);grind) (λoa on oc w' s'=>h oa on oc (j8 gs) w' htr s') gn 0 none 0 0 w (by omega) Hj (cm (L':=[_,_,_,_,_]) [0,1,2,3,4] s rfl (by decide))⟩;have:G.g∈tS us:=by grind
  rw[<-S8 (w:=mw) (h:=mh)]at this;obtain⟨q,hq,e⟩:=List.mem_map.1 this;have hf:∃u∈us,u.goal=G.g:=by
   have hg:∀(us:List aS) (out:List Int),G.g∈us.foldl EI out->G.g∈out\/∃u∈us,u.goal=G.g:=by
    intro us;induction us with
    |nil=>grind
    |cons u us ih=>
     intro out h;rcases ih _ h with h|⟨v,hv,e⟩
     ·unfold EI at h;grind
     grind
   rw[S8]at this;exact(hg us [] this).elim (λh=>by cases h) id
  grind
 |succ j ih=>
  intro i ms m2 gs w hij S s;show zC _ _ _ _ _ _ _ _ _ _ _ _ _ _ _;rw[zC,bN];refine(hU.fr (au s)).El rfl (by omega) λp u hu hc=>?_;have IK:=hm.at_ u (List.mem_of_getElem? hu);have hsc:=(bT IK.1).2;have V2:=gS hm.wh.1 hm.wh.2;have WY:iK u.goal/\iK (aC mw mh u.cell):=⟨AH IK.2,by unfold iK;omega⟩;refine WU hc s λub w s=>?_;apply lI s 0 rfl;refine e9 s λw s _=>?_;apply lI s 0 rfl;refine aV s λkb w s=>?_;refine sT s 0 rfl λw s=>?_;refine ax s (i:=0) rfl rfl rfl λw s=>?_;refine lI s 0 rfl (lI s 0 rfl ?_);refine EF (K:=Kw) (x:=(u.goal,aC mw mh u.cell)) atT (ab9 w) s (i:=5) rfl S.I.IP WY (λhn=>?_) λk hk=>?_
  ·apply asb;obtain⟨g1,⟨g,q,ps⟩,g2,eg,I,N4⟩:=S.I.group u.goal;subst eg;have hnew:aC mw mh u.cell∉ps.map (·.s):=λhin=>by obtain⟨p',hp',e⟩:=List.mem_map.1 hin;have:=I.at2 ⟨u.goal,q,ps⟩ (by simp) p' hp';rw[e,hn]at this;cases this
   have IJ:qt u.goal (aC mw mh u.cell) u.id (FQ (g1++⟨u.goal,q,ps⟩::g2))=qt u.goal (aC mw mh u.cell) u.id (FQ gs):=by
    rcases N4 with e|⟨e1,e2,e3,e4⟩
    ·rw[e]
    ·cases e3;subst e2 e1;have:FQ (gs++[⟨u.goal,⟨none,0,0⟩,[]⟩])=FQ gs++[(u.goal,[])]:=by unfold FQ;simp
     rw[this];exact aq6 (by rw[N7];exact e4)
   have hsz:ps.length<=i/\∀p∈ps,p.ids.length<=i:=by
    rcases N4 with e|⟨e1,e2,e3,e4⟩
    ·exact S.sz ⟨u.goal,q,ps⟩ (by rw[e];simp)
    ·cases e3;exact⟨Nat.zero_le _,λp hp=>by cases hp⟩
   have ayF:∀G∈g1,G∈gs:=λG hG=>by
    rcases N4 with e|⟨e1,e2,e3,e4⟩
    ·rw[e];exact List.mem_append_left _ hG
    ·rw[e1];exact hG
   have ayG:∀G∈g2,G∈gs:=λG hG=>by
    rcases N4 with e|⟨e1,e2,e3,e4⟩
    ·rw[e];exact List.mem_append_right _ (List.mem_cons_of_mem _ hG)
    ·rw[e2]at hG;cases hG
   have s:Sep No w0 w (Bj (g1++⟨u.goal,q,ps⟩::g2)::AK (j8 (g1++⟨u.goal,q,ps⟩::g2))::fS fB TO mb ms::fS Kw vI Hy m2::av ub 43 (gZ u)::av kb 253 [ae u.goal,ae (aC mw mh u.cell)]::[]):=by
    have s:=cm (L':=[_,_,_,_,_,_]) [2,3,4,5,1,0] s rfl (by decide);rcases N4 with e|⟨e1,e2,e3,e4⟩
    ·rw[<-e];exact s
    ·cases e3;subst e2 e1;have e:j8 (gs++[⟨u.goal,⟨none,0,0⟩,[]⟩])=j8 gs:=by unfold j8;simp
     rw[e];unfold Bj at s⊢;have s:=bG s 211 3;rw[List.map_append];apply Mh (B:=[]);rw[List.append_nil];exact s
   have hqn:q.n=ps.length:=by have s2:=s;unfold Bj at s2;rw[List.map_append,List.map_cons]at s2;have s2:=S9 s2;exact((aK s2 (i:=0) rfl uU (by decide)).len).symm
   have hq:=I.of_ ⟨u.goal,q,ps⟩ (by simp);apply lI s 4 rfl;apply acE s (i:=2) rfl I.hk WY.1;rw[hq];refine lI s 5 rfl (lI s 5 rfl ?_);refine L6 (v:=vI) (ms:=m2) (a:=(q.n:Int)) (x:=(u.goal,aC mw mh u.cell)) atT s (i:=3) rfl I.IP WY λYO w ayH TJ _ s=>?_;have s:=ay (cm (L':=[Bj (g1++⟨u.goal,q,ps⟩::g2),AK (j8 (g1++⟨u.goal,q,ps⟩::g2)),fS fB TO mb ms,fS Kw vI Hy YO,av ub 43 (gZ u)]) [0,1,2,3,4] s rfl (by decide));rw[hqn]at TJ⊢;have fin:∀(q':BG) (w:World),Sep No w0 w (Bj (g1++⟨u.goal,q',ps++[⟨u.goal,aC mw mh u.cell,⟨none,0,0⟩,[]⟩]⟩::g2)::AK (j8 (g1++⟨u.goal,q,ps⟩::g2))::fS fB TO mb ms::fS Kw vI Hy YO::av ub 43 (gZ u)::[])->
     bF P (Instr.mapUpdate 252 (.map (some mb)) (ae u.goal) (.slice q'.a q'.n q'.c)) w λw=>pS (zD Q (j+1)) Q mw mh la ln lc (some mb) (some Hy) (aZ ub) (ps.length:Int) la ln lc (ln:Int) i w:=λq' w s=>by
    refine L6 (k:=3) (e:=208) (K:=fB) (v:=TO) (ms:=ms) (a:=q') (x:=u.goal) ofT s (i:=2) rfl I.hk WY.1 λms' w hk' En _ s=>?_;have I2:=I.add (G:=⟨u.goal,q,ps⟩) (p:=⟨u.goal,aC mw mh u.cell,⟨none,0,0⟩,[]⟩) hk' ayH En TJ rfl hnew;have s:=atw (q':=q') (p:=⟨u.goal,aC mw mh u.cell,⟨none,0,0⟩,[]⟩) s rfl rfl;refine afG (p2:=[]) (by omega) hk' (I2.of_ ⟨u.goal,q',ps++[⟨u.goal,aC mw mh u.cell,⟨none,0,0⟩,[]⟩]⟩ (by simp)) rfl WY.1 (Nat.zero_le _) s λq2 w s=>?_;refine ih (i+1) ms' YO _ w (by omega) ?_ s;refine S.next hu (I2.pairs (G':=⟨u.goal,q',ps++[⟨u.goal,aC mw mh u.cell,q2,[]++[u.id]⟩]⟩) rfl rfl (by simp) λp hp=>?_) ?_ ayF ayG (by simp;omega) (by simp) λp hp=>?_
    ·rcases List.mem_append.1 hp with hp|hp
     ·exact I.pg ⟨u.goal,q,ps⟩ (by simp) p hp
     ·rw[List.mem_singleton.1 hp]
    ·rw[<-IJ];exact atv I.asa hnew rfl rfl
    ·exact hp.elim (λhp=>hsz.2 p hp) λhp=>by cases hp
   refine lI s 4 rfl (lI s 4 rfl (lI s 4 rfl ⟨?_,?_⟩))
   ·apply acE s (i:=2) rfl I.hk WY.1;rw[hq];refine⟨cq s 4 rfl,cq s 4 rfl,?_⟩;refine aQ s λxb w s=>⟨cq s 5 rfl,cq s 5 rfl,?_⟩;refine ai8 (by omega) s λq' w s=>⟨cq s 4 rfl,?_⟩;exact fin q' w s
   ·refine aQ s λxb w s=>⟨cq s 5 rfl,cq s 5 rfl,?_⟩;apply acE s (i:=3) rfl I.hk WY.1;rw[hq];refine⟨cq s 5 rfl,cq s 5 rfl,?_⟩;refine ai8 (by omega) s λq' w s=>⟨cq s 4 rfl,?_⟩;exact fin q' w s
  ·apply asb;rw[Bool.not_true,cond_false];obtain⟨⟨g,q,ps⟩,hG,e1,Ga,e3⟩:=S.I.at1 _ _ _ hk;simp only at e1 e3;subst e1;obtain⟨p,hp,e4⟩:=Option.map_eq_some_iff.1 e3;have hkl:=(List.getElem?_eq_some_iff.1 hp).1;have avu:ps=ps.take k.toNat++p::ps.drop (k.toNat+1):=by have:=(List.getElem?_eq_some_iff.1 hp).2;rw[<-this,<-List.drop_eq_getElem_cons hkl,List.take_append_drop]
   have hkp:k=((ps.take k.toNat).length:Nat):=by rw[List.length_take];omega
   generalize ps.take k.toNat=p1 at*;generalize ps.drop (k.toNat+1)=p2 at*;subst avu;obtain⟨g1,g2,e5⟩:=List.append_of_mem hG;subst e5;subst hkp;have hsz:=S.sz _ hG;have hn1:aC mw mh u.cell∉p1.map (·.s):=λh=>by have:=S.I.nds _ hG;simp[List.map_append,List.map_cons]at this;rw[List.nodup_append]at this;exact this.2.2 _ h _ (by rw[<-e4];exact List.mem_cons_self ..) rfl
   have s:=cm (L':=[_,_,_,_,av ub 43 (gZ u)]) [2,3,4,5,1] s rfl (by decide);refine afG (by omega) S.I.hk (S.I.of_ _ hG) rfl WY.1 (by have:=hsz.2 p (by simp);omega) s λq2 w s=>?_;refine ih (i+1) ms m2 _ w (by omega) ?_ s;refine S.next hu (S.I.pairs (G':=⟨u.goal,q,p1++⟨p.g,p.s,q2,p.ids++[u.id]⟩::p2⟩) rfl rfl (by simp) λx hx=>?_) ?_ (λG h=>by simp[h]) (λG h=>by simp[h]) ?_ ?_ λx hx=>?_
   ·rw[List.mem_append,List.mem_cons]at hx;rcases hx with h|rfl|h
    ·exact S.I.pg _ hG x (by simp[h])
    ·exact S.I.pg _ hG p (by simp)
    ·exact S.I.pg _ hG x (by simp[h])
   ·exact atu S.I.asa hn1 e4 e4 rfl
   ·have:=hsz.1;simp[List.length_append,List.length_cons]at this⊢;omega
   ·have:=hsz.2 p (by simp);simp[List.length_append,List.length_cons,List.length_nil];omega
   ·exact hsz.2 x (by rcases hx with h|h<;>simp[h])
def aaC {Q:Option Addr->Nat->Nat->World->Prop}(s0:Sep F W w0 L)(hU:Sl w0 la ln lc 3 gZ us)(qk:ln<=100000)(hm:nZ mw mh us)
  (h:∀oa on oc ps w',ps.map Mi=mK mw mh us->Sep F W w' (ak oa on oc 211 3 (flat yN ps)::AK ps::L)->Fr No w0 w'->Q oa on oc w'):EU mw mh la ln lc w0 Q:=by
 apply ZN;refine Rj (bt (F:=No)) hU (by omega) hm λw s _=>?_;refine aag s 252 fB TO λmb w s=>?_;refine aag s 180 Kw vI λHy w s=>?_;have s:=dA (Ps:=[]) s trivial;have s:=dA (Ps:=[]) s trivial;have s:=cm (L':=[Bj [],AK (j8 []),fS fB TO mb ([]:List (Int×BG)),fS Kw vI Hy ([]:List ((Int×Int)×Int))]) [0,1,3,2] s rfl (by decide);refine⟨ln+1,amm hU qk hm (λoa on oc ps w' e s'=>h oa on oc ps w' e (gg s0 s') (au s')) ln 0 [] [] [] w (by omega) ⟨⟨List.nodup_nil,List.nodup_nil,List.nodup_nil,(λG h=>by cases h),(λG h=>by cases h),(λg _=>rfl),(λg s k h=>by cases h),(λG h=>by cases h),(λG h=>by cases h)⟩,rfl,λG h=>by cases h⟩ s⟩
end
end Go.Proofs.YtmegplnmiepfbaaGreatDoor.S
set_option maxRecDepth 20000
namespace Go.Proofs.YtmegplnmiepfbaaGreatDoor.S
open Go.Sx
open Go.Extern
def ayI (args:Array Value)(w:World):(callFunc 219 args).run P w=((BytealgMakeNoZero.makeNoZero #[3] #[22] args).run P w).andThen λv w'=>.ok (.value v) w':=run_callFunc_extern Go.Proofs.Tryz.func219 (by kernel_rfl) (by kernel_rfl) (by kernel_rfl) (by kernel_rfl) args w
def ai9:P.underlying 22=some (.slice 5):=by kernel_rfl
def acF:∀(n t:Nat) (acc:Array Value) (xs:List Int),acc.toList=flat bu xs->∃ys:List Int,(BytealgMakeNoZero.digits n t acc).toList=flat bu ys
 |0,_,acc,xs,h=>⟨xs,h⟩
 |n+1,t,acc,xs,h=>by apply acF n (t/256) _ (xs++[((t%256:Nat):Int)]);rw[Array.toList_push,h,gd];rfl
def aty (n:Nat)(hn:n<=100000)(w:World):∃t,(BytealgMakeNoZero.makeNoZero #[3] #[22] #[ae n]).run P w=.ok (.slice (sZ w.heap.size) n (grownCap w n 0 5)) (w.drew.drew.alloc (.cells (BytealgMakeNoZero.digits (grownCap w n 0 5) t #[]) 5)):=by
 have ayJ:BytealgMakeNoZero.makeNoZero #[3] #[22] #[ae n]=
  (do
   let .slice elem<-underlying 22|stuck "bytealg.MakeNoZero: slice type expected"
   if(n:Int)<0||(n:Int)>2^48 then runtimePanic (.error "makeslice: len out of range")
   let cap<-choose (.appendCap (n:Int).toNat 0 elem)
   askRoom cap
   let bytes<-choose (.extern "internal/bytealg.MakeNoZero.bytes" 0);let a<-newRow elem (BytealgMakeNoZero.digits cap bytes #[])
   pure (.slice (some a) (n:Int).toNat cap)):=rfl
 have h1:¬(n:Int)<0:=by omega
 have h2:¬(281474976710656:Int)<(n:Int):=by omega
 refine⟨(Question.extern "internal/bytealg.MakeNoZero.bytes" 0).cut (w.tape (w.drawn+1) (.extern "internal/bytealg.MakeNoZero.bytes" 0)),?_⟩;rw[ayJ];simp[run_underlying ai9,h1,h2,Question.forced,newRow,grownCap]
attribute [local irreducible] tT callFunc Sem.run BytealgMakeNoZero.makeNoZero in
theorem avv {n:Nat}{w w':World}{v:Value}{K:Value->World->Prop}(h:(BytealgMakeNoZero.makeNoZero #[3] #[22] #[ae n]).run P w=.ok v w')(k:K v w'):tT P 219 #[ae n] w K:=
 j7 ayI h k
def avw {F:Nat->Prop}{W w:World}{L:List As}{n:Nat}{K:Value->World->Prop}(hn:1<=n/\n<=100000)(s:Sep F W w L)(h:∀b ys w',ys.length=n->Sep F W w' (ak (sZ b) n n 5 1 (flat bu ys)::L)->K (.slice (sZ b) n n) w'):
  tT P 219 #[ae n] w λv w1=>dS v λa m c=>aM P (Instr.sliceAt 22 (.slice a m c) none (some (ae n)) (some (ae n))) w1 K:=by
 obtain⟨t,ht⟩:=aty n (by omega) w;apply avv ht;have hge:=grownCap_ge w n 0 5;have hle:=grownCap_le_maxLen w n 0 5 (by simp[maxLen];omega);obtain⟨ys,hys⟩:=acF (grownCap w n 0 5) t #[] [] rfl;have hlen:ys.length=grownCap w n 0 5:=by have e:=congrArg List.length hys;rw[iV dO,Array.length_toList,Lib.size_digits]at e;grind
 generalize hc:grownCap w n 0 5=c at*;have hcs:(BytealgMakeNoZero.digits c t #[])=(flat bu ys).toArray:=by rw[<-hys]
 rw[hcs];have s:=tW (ay (ay s)) (flat bu ys) 5;have s:Sep F W (w.drew.drew.alloc (.cells (flat bu ys).toArray 5)) (av w.heap.size 5 (flat bu ys)::L):=s;have hone:∀u∈flat bu ys,u.oneCell'=true:=λu hu=>by obtain⟨x,_,hx⟩:=List.mem_flatMap.1 hu;exact A6 x u hx
 have s:=g_ s (i:=0) rfl (by rw[iV dO,hlen]) hle hone;simp[List.set_cons_zero]at s;generalize w.drew.drew.alloc (.cells (flat bu ys).toArray 5)=w1 at*;generalize w.heap.size=b at*;have hs:(sizeOf 5).run P w1=.ok 1 w1:=by kernel_rfl
 have hr:(Instr.sliceAt 22 (.slice (sZ b) n c) none (some (ae n)) (some (ae n))).run P w1=.ok (.slice (sZ b) n n) w1:=by rw[run_sliceAt_slice w1 22 _ _ _ _ ai9,run_slice_hm w1 22 (sZ b) n c ai9 .i64 .i64 n n (by omega) (Int.le_refl _) (by omega)];show((sizeOf 5).run P w1).andThen _=_;rw[hs];simp[Result.andThen,sliced,Int.toNat_natCast,Nat.sub_zero];simp[Addr.add]
 apply A7 hr;apply h b (ys.take n) w1 (by grind);refine⟨eB.fr s,λA hA=>?_,?_⟩
 ·rcases List.mem_cons.1 hA with rfl|hA
  ·obtain⟨⟨⟨k1,k2,k3,k4⟩,k5⟩,k6⟩:=eB.ok s _ (List.mem_cons_self ..);refine⟨⟨⟨by rw[iV dO,List.length_take];omega,Nat.le_refl _,by omega,λu hu=>?_⟩,?_⟩,λx hx=>k6 x hx⟩
   ·obtain⟨x,_,hx⟩:=List.mem_flatMap.1 hu;exact A6 x u hx
   ·rcases k5 with⟨h,_⟩|⟨g,o,cur,e1,e2,e3,e4⟩
    ·cases h
    ·refine .inr ⟨g,o,cur,e1,e2,by omega,?_⟩;have:flat bu (ys.take n)=(flat bu ys).take (n*1):=(U1 dO ys n).symm;grind
  ·exact eB.ok s A (List.mem_cons_of_mem _ hA)
 ·have:=eB.apart s;rw[List.pairwise_cons]at this⊢;exact⟨λA hA b hb=>this.1 A hA b hb,this.2⟩
attribute [local irreducible] tT callFunc Sem.run af cv bz bg aA cw bZ St Bx Al App cH cy cD bU aM bF aq bS av ak aW mapA
def apc {v:Int}{n k:Nat}{Z:List Int}(hk:k<=n)(hZ:k<=Z.length):
  (flat bu (List.replicate n v++Z)).take (n*1)++(flat bu ((List.replicate n v++Z).take n)).take (k*1)++(flat bu (List.replicate n v++Z)).drop ((n+k)*1)=flat bu (List.replicate (n+k) v++Z.drop k):=by
 simp only[Y6,Nat.mul_one];rw[<-List.map_take,<-List.map_take,<-List.map_drop,<-List.map_append,<-List.map_append];congr 1;rw[List.take_left' (by simp),List.take_replicate,Nat.min_eq_left hk,List.replicate_append_replicate,<-List.drop_drop,List.drop_left' (by simp)]
section
variable {F:Nat->Prop}{W w w0:World}{L:List As}{xa:Option Addr}{xc:Nat}{v:Int}
def apd {Q:Option Addr->Nat->Nat->World->Prop}{b N:Nat}(hN:N<=8192)(h:∀w',Sep No w0 w' (ak (sZ b) N N 5 1 (flat bu (List.replicate N v))::L)->Q (sZ b) N N w'):
  ∀(m n:Nat) (Z:List Int) (w:World),N<=n+m->1<=n->n+Z.length=N->Sep No w0 w (ak (sZ b) N N 5 1 (flat bu (List.replicate n v++Z))::L)->tI Q (m+1) N N (sZ b) N N n w:=by
 have done:∀(R:Int->Int->Option Addr->Nat->Nat->Int->World->Prop) (Z:List Int) (w:World),Z.length=0->Sep No w0 w (ak (sZ b) N N 5 1 (flat bu (List.replicate N v++Z))::L)->tH Q R N N (sZ b) N N N w:=λR Z w hZ s=>by unfold tH;grind
 intro m;induction m with
 |zero=>
  intro n Z w hm h1 h2 s;have:n=N:=by omega
  subst this;exact done _ Z _ (by omega) s
 |succ m ih=>
  intro n Z w hm h1 h2 s;show tH Q (tI Q (m+1)) _ _ _ _ _ _ _;by_cases hn:n=N
  ·grind
  ·rw[tH,bN];apply Pd rfl (by omega);rw[fU];have em:DG (n:Int) (N:Int)=n:=by unfold DG;omega
   rw[em];apply Pc rfl (by omega);have s:=ay s;have hT:=(aK s (i:=0) rfl dO (by decide)).top (m:=n) (by omega);refine EM (p:=n) dW s rfl rfl rfl rfl (by decide) (i:=0) rfl (hT.src (e:=5) dO A6) (by omega) (by simp[Addr.add];omega) λw s=>?_;rw[apc (Nat.min_le_left _ _) (by omega)]at s;have e:IntKind.wrap .i64 ((n:Int)+((min n (N-n):Nat):Int))=((n+min n (N-n):Nat):Int):=by rw[aG];omega
   grind
def S_ {N:Nat}{Q:Option Addr->Nat->Nat->World->Prop}(s0:Sep F W w L)(hA:Sl w xa 1 xc 1 bu [v])(hN:1<=N/\N<=8192)
  (h:∀ra w',Sep F W w' (ak ra N N 5 1 (flat bu (List.replicate N v))::L)->Fr No w w'->Q ra N N w'):rV xa 1 xc N w Q:=by
 apply IY;rw[cB (by omega),cond_false,bh,kz (by decide),kz (by omega)];apply Dh (by decide) (by omega) (by omega);have e1:((1:Nat):Int)*N=N:=by omega
 rw[e1,bh (by decide),bh,cB (by decide),cond_false,aG,bh];refine avw (by omega) (bt (F:=No)) λb ys w' hys s=>?_;refine EM (p:=0) dW s rfl rfl rfl rfl (by decide) (i:=0) rfl ((hA.fr (au s)).src (e:=5) dO A6) (by omega) rfl λw' s=>?_;have hm:min 1 N=1:=by omega
 rw[hm]at s⊢;have e2:(flat bu ys).take (0*1)++(flat bu [v]).take (1*1)++(flat bu ys).drop ((0+1)*1)=flat bu (List.replicate 1 v++ys.drop 1):=by simp only[Y6,Nat.zero_mul,List.take_zero,List.nil_append,Nat.mul_one,Nat.zero_add];rw[<-List.map_take,<-List.map_drop,<-List.map_append];rfl
 rw[e2]at s;exact⟨N+1,apd hN.2 (λw' s=>h _ _ (dQ s0 s (i:=0) rfl) (au s)) N 1 (ys.drop 1) w' (by omega) (by omega) (by rw[List.length_drop];omega) s⟩
def amn {N:Nat}{Q:Option Addr->Nat->Nat->World->Prop}(s0:Sep F W w L)(hN:1<=N/\N<=8192)
  (h:∀ra w',Sep F W w' (ak ra 0 0 5 1 (flat bu [])::L)->Fr No w w'->Q ra 0 0 w'):rV Option.none 0 0 N w Q:=by
 apply IY;rw[cB (by omega),cond_false,bh,kz (by decide),kz (by omega)];apply Dh (by decide) (by omega) (by omega);have e1:((0:Nat):Int)*N=0:=by omega
 rw[e1,bh (by decide),bh,show((((0:Nat):Int))==0)=true from rfl,cond_true];refine aQ (bt (F:=No)) λb w' s=>?_;have s:=g_ (n:=0) (size:=1) s (i:=0) rfl rfl (by decide) (λu hu=>by cases hu);exact h _ _ (dQ s0 s (i:=0) rfl) (au s)
end
end Go.Proofs.YtmegplnmiepfbaaGreatDoor.S
namespace Go.Proofs.YtmegplnmiepfbaaGreatDoor.S
open Go.Sx
attribute [local irreducible] af cv bz bg aA cw bZ St Bx Al App cH cy cD bU aM bF aq bS av ak aW mapA
def aAq:o6 242 fns=true:=by kernel_rfl
def IF (cs:List Int):Bool:=!cs.any λc=>c !=gi cs 0
def G4 (f:Nat)(cs:List Int):Option (List Int):=if f=0 then(if IF cs=true then some [0,gi cs 0]else none)else if f=1 then some (1::cs)else some (tX cs)
abbrev EJ (tw th:Int)(a:Option Addr)(n c:Nat):List Value:=[ae tw,ae th,.slice a n c]
section
variable {F:Nat->Prop}{W w w0:World}{L:List As}{ca:Option Addr}{cn cc tb:Nat}{cs:List Int}{tw th:Int}
def ape {Q:Bool->World->Prop}(hC:Sl w ca cn cc 1 bu cs)(hn:1<=cn/\cn<=1000)(s:Sep F W w (av tb 84 (EJ tw th ca cn cc)::L))(h:Q (!IF cs) w):mS ca cn cc (.func (.func 242) #[] #[.pointer (sZ tb)]) w Q:=by
 apply C2;apply E5;have hl:=hC.len;have loop:∀(j i:Nat),i+j=cn->(∀k,k<i->gi cs k=gi cs 0)->jr (λr w=>Q (decide (r≥0)) w) (j+1) ca cn cc (.func (.func 242) #[] #[.pointer (sZ tb)]) (cn:Int) i w:=by
  intro j;induction j with
  |zero=>
   intro i hi hall;show jq _ _ _ _ _ _ _ _ _;unfold jq;have e:IF cs=true:=by rw[IF,Bool.not_eq_true',List.any_eq_false];intro c hc;obtain⟨k,hk⟩:=List.mem_iff_getElem?.1 hc;have hkl:=(List.getElem?_eq_some_iff.1 hk).1;rw[ig hkl]at hk;grind
   grind
  |succ j ih=>
   intro i hi hall;show jq _ _ _ _ _ _ _ _ _;rw[jq,bN];apply hC.Dq rfl (by omega);unfold iv;simp only;have hc:Lg (gi cs i) (sZ tb) w λr w'=>cond r (Q (decide ((i:Int)≥0)) w') (jr (λr w=>Q (decide (r≥0)) w) (j+1) ca cn cc (.func (.func 242) #[] #[.pointer (sZ tb)]) (cn:Int) (IntKind.wrap .i64 ((i:Int)+1)) w'):=by
    apply Zp;refine ah (lS s 0 rfl ?_);apply hC.Dq (k:=0) rfl (by omega);by_cases e:gi cs i=gi cs 0
    ·rw[Df e];show cond false _ _;rw[cond_false,FP (by omega)];exact ih (i+1) (by omega) λk hk=>by grind
    ·rw[Gx e];show cond true _ _;rw[cond_true,decide_eq_true (by omega)];have e2:IF cs=false:=by rw[IF,Bool.not_eq_false',List.any_eq_true];exact⟨gi cs i,fG (by omega),Gx e⟩
     grind
   exact hc
 exact⟨cn+1,loop cn 0 (by omega) λk hk=>by omega⟩
def ah4 {oa:Option Addr}{on oc b k:Nat}{out ns:List Int}{K:Option Addr->Nat->Nat->World->Prop}(s:Sep F W w (ak oa on oc 5 1 (flat bu out)::L))(Cs:on<=100000000)(hk:ns.length=k)(IP:k<=100000){ba:Option Addr}{bc:Nat}(hB:Sl w ba k bc 1 bu ns)
  (h:∀a' c' w',Sep F W w' (ak a' (on+k) c' 5 1 (flat bu (out++ns))::L)->K a' (on+k) c' w'):App P #[22,22] 22 (.slice oa on oc) (.slice ba k bc) w K:=by
 refine iw dW s (i:=0) (bytes:=1) rfl rfl rfl rfl rfl rfl (by decide) rfl (hB.src (e:=5) dO A6) (by simp[maxLen];omega) (by omega) (λe=>hB.nil e) λa1 c1 w1 s1=>?_;rw[<-gd]at s1;grind
def acG {ns:List Int}{b:Nat}{i:Nat}(s:Sep F W w L)(hi:L[i]? =some (av b 5 (flat bu ns))):Sl w (sZ b) ns.length ns.length 1 bu ns:=
 ⟨⟨rfl,λj x hx=>⟨_,rfl,λk v hk=>by
  rw[cu,Nat.zero_add,Nat.mul_one];apply cR s rfl hi;have Ga:k=0:=by have:=(List.getElem?_eq_some_iff.1 hk).1;rw[dO]at this;omega
  subst Ga;have:=sX dO hx (j:=0) (by decide);grind⟩⟩,Nat.le_refl _,λe=>by cases e⟩
def arb {Q:Option Addr->Nat->Nat->World->Prop}{b:Nat}(hA:Sl w0 ca cn cc 1 bu cs)(hn:cn<=1000)(s:Sep No w0 w (ak (sZ b) 1 1 5 1 (flat bu [2])::av tb 84 (EJ tw th ca cn cc)::L))
  (h:∀g o rn rc w',Sep No w0 w' (ak (some ⟨g,o,none⟩) rn rc 5 1 (flat bu (tX cs))::av tb 84 (EJ tw th ca cn cc)::L)->Q (some ⟨g,o,none⟩) rn rc w'):∃k,wX Q k (aZ tb) (sZ b) 1 1 0 w:=by
 have hlen:=hA.len;have inner:∀(P3:Addr->Option Addr->Nat->Nat->Int->World->Prop) (x:Int) (i:Nat) (oa:Option Addr) (on oc:Nat) (out:List Int),cs[i]? =some x->on<=1000000->
   (∀a' c' w',Sep No w0 w' (ak a' (on+2) c' 5 1 (flat bu (out++[((lead x (cs.drop (i+1)):Nat):Int)%256,x]))::av tb 84 (EJ tw th ca cn cc)::L)->P3 (aZ tb) a' (on+2) c' ((i+1+lead x (cs.drop (i+1)):Nat):Int) w')->
   ∀(k r:Nat) (w:World),i+1+r+k=cn->lead x (cs.drop (i+1))=r+lead x (cs.drop (i+1+r))->Sep No w0 w (ak oa on oc 5 1 (flat bu out)::av tb 84 (EJ tw th ca cn cc)::L)->wW P3 Q (k+1) (aZ tb) oa on oc i ((r+1:Nat):Int) w:=by
  intro P3 x i oa on oc out hx Cs next
  have hix:i<cn:=by grind
  have hgx:gi cs i=x:=by rw[ig (by omega)]at hx;grind
  have over:∀(r:Nat) (w:World),i+1+r<=cn->lead x (cs.drop (i+1))=r->Sep No w0 w (ak oa on oc 5 1 (flat bu out)::av tb 84 (EJ tw th ca cn cc)::L)->Ey P3 Q (aZ tb) oa on oc i ((r+1:Nat):Int) w:=by
   intro r w hr hl s;apply lS s 1 rfl;apply Sl.Dq (hA.fr (au s)) rfl hix;rw[hgx,aG,aG,wrap_u8'];have e0:((r+1:Nat):Int)-1=(r:Int):=by omega
   rw[e0];refine aQ s λb w s=>?_;have hB:=acG (ns:=[(r:Int)%256,x]) s (i:=0) rfl;refine ah4 (k:=2) (b:=0) (jk s) (by omega) rfl (by decide) hB λa1 c1 w1 s1=>?_;rw[hl]at next
   have:=next a1 c1 w1 (gw s1 (.cons_cons _ (List.sublist_cons_self _ _)))
   grind
  intro k;induction k with
  |zero=>
   intro r w hr hl s;show JE P3 Q (wW P3 Q 0) _ _ _ _ _ _ _;have s:=ay s;apply lS s 1 rfl;rw[aG,bh];have e:cs.drop (i+1+r)=[]:=List.drop_eq_nil_of_le (by omega);rw[e]at hl;exact over r _ (by omega) hl s
  |succ k ih=>
   intro r w hr hl s;show JE P3 Q (wW P3 Q (k+1)) _ _ _ _ _ _ _;have ei:(i:Int)+((r+1:Nat):Int)=((i+1+r:Nat):Int):=by push_cast;omega
   have s:=ay s;apply lS s 1 rfl;rw[aG,bN,ei];have hB:=hA.fr (au s);refine lS s 1 rfl (Sl.Dq hB rfl (by omega) ?_);refine lS s 1 rfl (Sl.Dq hB rfl hix ?_);have hd:cs.drop (i+1+r)=gi cs (i+1+r)::cs.drop (i+1+r+1):=by rw[List.drop_eq_getElem_cons (by omega)];congr 1;have:=ig (l:=cs) (i:=i+1+r) (by omega);rw[List.getElem?_eq_getElem (by omega)]at this;exact Option.some.inj this
   rw[hd,lead]at hl;rw[hgx];by_cases he:gi cs (i+1+r)=x
   ·rw[dw he,cond_true,aG];rw[if_pos he]at hl;exact ih (r+1) _ (by omega) (by rw[show i+1+(r+1)=i+1+r+1 by omega];omega) s
   ·rw[cB he,cond_false];rw[if_neg he]at hl;exact over r _ (by omega) hl s
 have outer:∀(k i:Nat) (oa:Option Addr) (on oc:Nat) (out:List Int) (w:World),cn-i<=k->i<=cn->1<=on->on<=1+2*i->out++lJ (cn-i) (cs.drop i)=tX cs->Sep No w0 w (ak oa on oc 5 1 (flat bu out)::av tb 84 (EJ tw th ca cn cc)::L)->wX Q (k+1) (aZ tb) oa on oc i w:=by
  have stop:∀R (oa:Option Addr) (on oc:Nat) (out:List Int) (w:World),1<=on->out++lJ (cn-cn) (cs.drop cn)=tX cs->Sep No w0 w (ak oa on oc 5 1 (flat bu out)::av tb 84 (EJ tw th ca cn cc)::L)->JF Q R (aZ tb) oa on oc cn w:=by intro R oa on oc out w h1 he s;apply lS s 1 rfl;rw[bh];rw[List.drop_eq_nil_of_le (by omega),Nat.sub_self,lJ,List.append_nil]at he;rw[he]at s;obtain⟨g,o,rfl⟩:=qe s (i:=0) rfl (by omega);exact h _ _ _ _ _ s
  intro k;induction k with
  |zero=>
   intro i oa on oc out w hk hi h1 Cs he s;obtain rfl:i=cn:=by omega
   exact stop _ _ _ _ _ _ h1 he s
  |succ k ih=>
   intro i oa on oc out w hk hi h1 Cs he s;by_cases hin:i=cn
   ·subst hin;exact stop _ _ _ _ _ _ h1 he s
   ·show JF Q (wX Q (k+1)) _ _ _ _ _ _;apply lS s 1 rfl;rw[bN];have hx:cs[i]? =some (gi cs i):=ig (by omega);have hd:cs.drop i=gi cs i::cs.drop (i+1):=by obtain⟨h1,h2⟩:=List.getElem?_eq_some_iff.1 hx;rw[List.drop_eq_getElem_cons h1,h2]
    have NL:=Pe (gi cs i) (cs.drop (i+1));rw[List.length_drop]at NL;refine⟨cn-(i+1)+1,inner _ (gi cs i) i oa on oc out hx (by omega) (λa' c' w' s'=>?_) (cn-(i+1)) 0 w (by omega) (by rw[Nat.zero_add]) s⟩;refine ih (i+1+lead (gi cs i) (cs.drop (i+1))) a' (on+2) c' _ w' (by omega) (by omega) (by omega) (by omega) ?_ s';rw[<-he,hd,show cn-i=(cn-(i+1))+1 by omega,lJ,List.append_assoc,List.drop_drop];congr 1;show _::_::_=_::_::_;congr 2;exact ahz _ _ _ (by rw[List.length_drop];omega) (by rw[List.length_drop];omega)
 exact⟨cn+1,outer cn 0 _ 1 1 [2] w (by omega) (by omega) (by omega) (by omega) (by rw[List.drop_zero,Nat.sub_zero,<-hlen];rfl) s⟩
def Dn {Q:Option Addr->Nat->Nat->World->Prop}{f:Nat}(hA:Sl w0 ca cn cc 1 bu cs)(hn:1<=cn/\cn<=1000)(hf:f<=2)
  (hno:G4 f cs=none->∀w',Sep No w0 w' []->Q none 0 0 w')(hyes:∀out,G4 f cs=some out->∀g o rn rc w',Sep No w0 w' [ak (some ⟨g,o,none⟩) rn rc 5 1 (flat bu out)]->Q (some ⟨g,o,none⟩) rn rc w'):HO tw th ca cn cc f w0 Q:=by
 apply adl;have hlen:=hA.len;refine aQ (bt (F:=No)) λtb w s=>?_;have ew:IntKind.wrap .u8 (f:Int)=f:=by rw[wrap_u8'];omega
 rw[ew];refine aQ s λb w s=>?_;have s:Sep No w0 w (av b 5 (flat bu [(f:Int)])::av tb 84 (EJ tw th ca cn cc)::[]):=s;have hC:=hA.fr (au s);have row:Sep No w0 w (ak (sZ b) 1 1 5 1 (flat bu [(f:Int)])::av tb 84 (EJ tw th ca cn cc)::[]):=by have:=g_ (size:=1) s (i:=0) rfl rfl (by decide) (λu hu=>by simp[flat,bu]at hu;subst hu;rfl);grind
 by_cases f0:f=0
 ·subst f0;apply lS s 1 rfl;apply ape hC hn (ai s);cases hs:IF cs with
  |false=>
   exact hno (by unfold G4;grind) w (ai (ai s))
  |true=>
   apply lS s 1 rfl;apply hC.Dq (k:=0) rfl (by omega);refine aQ row λxb w s=>?_;have hB:=acG (ns:=[gi cs 0]) s (i:=0) rfl;refine ah4 (k:=1) (b:=0) (jk s) (by omega) rfl (by decide) hB λa1 c1 w1 s1=>?_;obtain⟨g,o,rfl⟩:=qe s1 (i:=0) rfl (by omega);exact hyes [0,gi cs 0] (by unfold G4;grind) g o _ _ w1 (cm (L':=[_]) [0] s1 rfl (by decide))
 ·rw[cB (by omega),cond_false];by_cases f1:f=1
  ·subst f1;apply lS s 1 rfl;refine ah4 (b:=0) row (by omega) hlen (by omega) hC λa1 c1 w1 s1=>?_;obtain⟨g,o,rfl⟩:=qe s1 (i:=0) rfl (by omega);exact hyes (1::cs) (by unfold G4;grind) g o _ _ w1 (cm (L':=[_]) [0] s1 rfl (by decide))
  ·obtain rfl:f=2:=by omega
   exact arb hA (by omega) row λg o rn rc w' s=>hyes (tX cs) (by unfold G4;grind) g o _ _ w' (cm (L':=[_]) [0] s rfl (by decide))
end
def amo (x:Int)(ys:List Int):(tX (x::ys)).length=3+(lJ ys.length (ys.drop (lead x ys))).length:=by show(2::_::x::lJ ys.length (ys.drop (lead x ys))).length=_;grind
def ai_ {x:Int}:∀{ys:List Int},(∀y∈ys,y=x)->lead x ys=ys.length
 |[],_=>rfl
 |y::ys,h=>by rw[lead,if_pos (h y (List.mem_cons_self ..)),ai_ λz hz=>h z (List.mem_cons_of_mem _ hz)];rfl
def apg {cs:List Int}(h:1<=cs.length):3<=(tX cs).length/\(IF cs=true↔(tX cs).length=3):=by
 match cs,h with
 |x::ys,_=>
  rw[amo];refine⟨by omega,?_⟩;have e0:gi (x::ys) 0=x:=rfl;rw[IF,e0,Bool.not_eq_true',List.any_eq_false];constructor
  ·intro hs;have:lead x ys=ys.length:=ai_ λy hy=>by grind
   rw[this,List.drop_length];cases ys.length<;>rfl
  ·intro hl c hc;have h0:ys.drop (lead x ys)=[]:=by
    cases hd:ys.drop (lead x ys)with
    |nil=>rfl
    |cons z zs=>
     rw[hd]at hl;obtain⟨k,hk⟩:∃k,ys.length=k+1:=by
      cases ys with
      |nil=>simp at hd
      |cons y ys=>simp_all
     rw[hk]at hl;simp only[lJ,List.length_cons]at hl;omega
   have h1:lead x ys=ys.length:=by have:=Pe x ys;grind
   have h2:=NB x ys;grind
section
variable {F:Nat->Prop}{W w w0:World}{L:List As}{ca:Option Addr}{cn cc tb:Nat}{cs:List Int}{tw th:Int}
def afH {Q:Int->Option Addr->Nat->Nat->World->Prop}{R:Addr->Int->Option Addr->Nat->Nat->Int->World->Prop}{b:Int}{oa:Option Addr}{on oc:Nat}{t:Addr}(h:Q b oa on oc w):jS Q R t b oa on oc 3 w:=by unfold jS;grind
def aj5 {Q:Int->Option Addr->Nat->Nat->World->Prop}(hA:Sl w0 ca cn cc 1 bu cs)(hn:1<=cn/\cn<=1000)(h:∀b g o rn rc w',Sep No w0 w' [ak (some ⟨g,o,none⟩) rn rc 5 1 (flat bu (tY cs).2)]->Q b (some ⟨g,o,none⟩) rn rc w'):
  EZ tw th ca cn cc w0 Q:=by
 apply Zq;have hlen:=hA.len;obtain⟨h3,wm⟩:=apg (cs:=cs) (by omega);refine aQ (bt (F:=No)) λtb w s=>?_;have rd:∀{w:World} {L':List As} {i:Nat} {K:Int->Int->Option Addr->Nat->Nat->Prop},Sep No w0 w L'->L'[i]? =some (av tb 84 (EJ tw th ca cn cc))->K tw th ca cn cc->af .i64 ((aZ tb).add 0) w λa=>af .i64 ((aZ tb).add 1) w λb=>aA ((aZ tb).add 2) w λc d e=>K a b c d e:=λs hi k=>
  dy s rfl hi rfl (dy s rfl hi rfl (g6 s rfl hi rfl k))
 have last:∀{best:Int} {g o on oc:Nat} {out:List Int} {w:World},out.length=on->(if(tX cs).length<on then tX cs else out)=(tY cs).2->Sep No w0 w (ak (some ⟨g,o,none⟩) on oc 5 1 (flat bu out)::av tb 84 (EJ tw th ca cn cc)::[])->oB Q 2 (aZ tb) best (some ⟨g,o,none⟩) on oc 2 w:=λ{best g o on oc out w} hl he s=>by
  show jS Q (oB Q 1) _ _ _ _ _ _ _;unfold jS;apply rd s (i:=1) rfl;refine Dn (hA.fr (au s)) hn (by decide) (λe=>by unfold G4 at e;cases e) λro e g2 o2 rn rc w' s'=>?_;unfold G4 at e;rw[if_neg (by decide),if_neg (by decide),Option.some.injEq]at e;subst e;have hrn:=(aK s' (i:=0) rfl dO (by decide)).len;have s:=gg s s';show cond true _ _;rw[cond_true];show cond false _ _;rw[cond_false];by_cases hlt:(rn:Int)<(on:Int)
  ·rw[bN hlt];unfold zm;rw[AP]at he;refine afH (h _ _ _ _ _ _ ?_);rw[<-he];exact cm (L':=[_]) [0] s rfl (by decide)
  ·rw[bh hlt];rw[fU]at he;refine afH (h _ _ _ _ _ _ ?_);rw[<-he];exact cm (L':=[_]) [1] s rfl (by decide)
 refine⟨4,?_⟩;show jS Q (oB Q 3) _ _ _ _ _ _ _;unfold jS;apply rd s (i:=0) rfl;refine Dn (hA.fr (au s)) hn (by decide) (λe w' s'=>?_) λro e g o rn rc w' s'=>?_
 ·
  have hs:IF cs=false:=by unfold G4 at e;grind
  have s:=gg s s';show cond false _ _;rw[cond_false];show jS Q (oB Q 2) _ _ _ _ _ _ _;unfold jS;apply rd s (i:=0) rfl;refine Dn (f:=1) (hA.fr (au s)) hn (by decide) (λe=>by unfold G4 at e;cases e) λro e g2 o2 rn rc w' s'=>?_;unfold G4 at e;rw[if_neg (by decide),if_pos rfl,Option.some.injEq]at e;subst e;have hrn:=(aK s' (i:=0) rfl dO (by decide)).len;have s:=gg s s';show cond true _ _;refine last hrn ?_ s;unfold tY;grind
 ·unfold G4 at e;rw[if_pos rfl]at e;split at e
  ·rename_i hs;rw[Option.some.injEq]at e;subst e;have hrn:2=rn:=(aK s' (i:=0) rfl dO (by decide)).len;subst hrn;have s:=gg s s';show cond true _ _;rw[cond_true];show cond true _ _;rw[cond_true];unfold zm;show jS Q (oB Q 2) _ _ _ _ _ _ _;unfold jS;apply rd s (i:=1) rfl;refine Dn (f:=1) (hA.fr (au s)) hn (by decide) (λe=>by unfold G4 at e;cases e) λro e g2 o2 rn rc w' s'=>?_;unfold G4 at e;rw[if_neg (by decide),if_pos rfl,Option.some.injEq]at e;subst e;have hrn:=(aK s' (i:=0) rfl dO (by decide)).len;rw[List.length_cons]at hrn;have s:=gg s s';show cond true _ _;rw[cond_true];show cond false _ _;rw[cond_false,bh];refine last rfl ?_ (cm (L':=[_,_]) [1,2] s rfl (by decide));rw[tY,fU,if_pos (wm.1 hs)]
  ·cases e
def aph {Q:Option Addr->Nat->Nat->Int->World->Prop}(s0:Sep F W w0 L)(hA:Sl w0 ca cn cc 1 bu cs)(hm:Tl.DV tw th cs=true)(hn:1<=cn/\cn<=1000)(h:∀g o rn rc w',Sep F W w' (ak (some ⟨g,o,none⟩) rn rc 5 1 (flat bu (tY cs).2)::L)->Fr No w0 w'->Q (some ⟨g,o,none⟩) rn rc 0 w'):
  HN tw th ca cn cc w0 Q:=by
 apply ado;refine aQ (bt (F:=No)) λtb w s=>?_;refine lI s 0 rfl (lI s 0 rfl (lS s 0 rfl ?_));refine Tl.Dg s (hA.fr (au s)).row λw s _=>?_;rw[hm,Bool.not_true,cond_false];refine lI s 0 rfl (lI s 0 rfl (lS s 0 rfl ?_));refine aj5 (hA.fr (au s)) hn λb g o rn rc w' s'=>?_;have s2:=gg s s';have s3:=cm (L':=[ak (some ⟨g,o,none⟩) rn rc 5 1 (flat bu (tY cs).2)]) [0] s2 rfl (by decide);exact h g o rn rc w' (gg s0 s3) (au s3)
end
end Go.Proofs.YtmegplnmiepfbaaGreatDoor.S
set_option maxRecDepth 20000
namespace Go.Proofs.YtmegplnmiepfbaaGreatDoor.S.At
open Go.Sx
open Go.Extern
def S0 (v:Value)(w:World):(ReflectliteType.typeOf #[.iface 240 v]).run P w=.ok (.iface 219 (rt 240)) w:=by kernel_rfl
def GU (v:Value)(w:World):(ReflectliteType.typeOf #[.iface 187 v]).run P w=.ok (.iface 219 (rt 187)) w:=by kernel_rfl
def GV (t:Addr)(w:World):(ReflectliteValue.unpack (.iface 188 (.pointer (some t)))).run P w
 =.ok (.agg #[.pointer (some ⟨8,188,none⟩),.pointer (sZ w.heap.size),.int .u64 150]) (w.alloc (.cells #[.pointer (some t)] 188)):=by kernel_rfl
def Eo (n:Int)(w:World):(ReflectliteValue.unpack (.iface 187 (ae n))).run P w
 =.ok (.agg #[.pointer (some ⟨8,187,none⟩),.pointer (sZ w.heap.size),.int .u64 130]) (w.alloc (.cells #[ae n] 187)):=by kernel_rfl
def Q9 (a:Addr)(w:World):(ReflectliteValue.methodAny (ReflectliteValue.valueError "reflectlite.Value.Type" 0) (λt _ _ _=>ReflectliteType.toType t) #[.agg #[.pointer (some ⟨8,188,none⟩),.pointer (some a),.int .u64 150]]).run P w
 =.ok (.iface 219 (rt 188)) w:=by kernel_rfl
def Ma (w:World):((ReflectliteType.abiMethod λt=>(λa:Nat=>Value.int IntKind.u8 (a:Int))<$>Rtype.kind t) #[.pointer (some ⟨8,188,none⟩)]).run P w=.ok (.int .u8 22) w:=by kernel_rfl
def Mb (w:World):((ReflectliteType.abiMethod λt=>(λa:Nat=>Value.int IntKind.u8 (a:Int))<$>Rtype.kind t) #[.pointer (some ⟨8,187,none⟩)]).run P w=.ok (.int .u8 2) w:=by kernel_rfl
def Ra (w:World):(ReflectliteType.method ReflectliteType.elem #[rt 188]).run P w=.ok (.iface 219 (rt 187)) w:=by kernel_rfl
def WG (w:World):(ReflectliteType.relation "Implements" ReflectliteType.implements_ #[rt 187,.iface 219 (rt 74)]).run P w=.ok (.bool true) w:=by kernel_rfl
def aeh (w:World):(ReflectliteType.relation "AssignableTo" ReflectliteType.assignableTo #[rt 240,.iface 219 (rt 187)]).run P w=.ok (.bool false) w:=by kernel_rfl
def Rb (w:World):(ReflectliteType.relation "AssignableTo" ReflectliteType.assignableTo #[rt 187,.iface 219 (rt 187)]).run P w=.ok (.bool true) w:=by kernel_rfl
def aei (v:Value)(w:World):(Go.method (P.types.size+Made.depth) 240 v "Unwrap").run P w=.ok (321,v) w:=by kernel_rfl
abbrev vP (a:Addr):Value:=.agg #[.pointer (some ⟨8,188,none⟩),.pointer (some a),.int .u64 150]
abbrev vR (a:Addr):Value:=.agg #[.pointer (some ⟨8,187,none⟩),.pointer (some a),.int .u64 130]
abbrev vE (a:Addr):Value:=.agg #[.pointer (some ⟨8,187,none⟩),.pointer (some a),.int .u64 386]
def z6 (a:Addr)(w:World):(ReflectliteValue.parts (vP a)).run P w=.ok (some (188,a,150)) w:=by kernel_rfl
def Jg (a:Addr)(w:World):(ReflectliteValue.parts (vR a)).run P w=.ok (some (187,a,130)) w:=by kernel_rfl
def Jh (a:Addr)(w:World):(ReflectliteValue.parts (vE a)).run P w=.ok (some (187,a,386)) w:=by kernel_rfl
def Mc (a p:Addr)(w:World)(ha:w.cell? a=some (.pointer (some p))):(ReflectliteValue.method (ReflectliteValue.valueError "reflectlite.Value.IsNil" 0) ReflectliteValue.isNil #[vP a]).run P w=.ok (.bool false) w:=by rw[rlm];simp[Sem.run_bind,z6,Result.andThen];simp[ReflectliteValue.isNil,loadVar,isAgg,underlying,Go.Proofs.Tryz.underlying188,ha,Result.andThen]
def Ji (w:World):(Rtype.elem? 188).run P w=.ok (some 187) w:=by kernel_rfl
def acm (p:Addr)(w:World):(ReflectliteValue.mk 187 p ReflectliteValue.flagAddr).run P w=.ok (vE p) w:=by kernel_rfl
def Md (a p:Addr)(w:World)(ha:w.cell? a=some (.pointer (some p))):(ReflectliteValue.method (ReflectliteValue.valueError "reflectlite.Value.Elem" 0) ReflectliteValue.elem #[vP a]).run P w=.ok (vE p) w:=by rw[rlm];simp[Sem.run_bind,z6,Result.andThen];simp[ReflectliteValue.elem,loadVar,isAgg,underlying,Go.Proofs.Tryz.underlying188,ha,Result.andThen,Ji,acm]
def Jj (w:World):(Rtype.directlyAssignable 187 187).run P w=.ok true w:=by kernel_rfl
def WK (t b:Addr)(n:Int)(old:Value)(w:World)(hb:w.cell? b=some (ae n))(ht:w.cell? t=some old)(hf:w.frozen? t=false):
  (ReflectliteValue.set #[vE t,vR b]).run P w=.ok (.tuple #[]) (w.setCell t (ae n)):=by
 rw[rls];simp[Sem.run_bind,Jh,Jg,Result.andThen];simp[ReflectliteValue.flagAddr,loadVar,isAgg,underlying,Go.Proofs.Tryz.underlying187,hb,Result.andThen,Jj,storeVar,Value.cells,storeCells,Addr.add];rw[run_store P w t _ _ (by rfl)];simp[ht,hf]
def awy {t:Nat}(ht:t=240)(v:Value)(xT:TypeId)(w:World):(Instr.typeAssert (.iface t v) xT 231 true).run P w=.ok (.tuple #[.nilIface,.bool false]) w:=by subst ht;exact run_typeAssert_lacksB Go.Proofs.Tryz.underlying231 (by kernel_rfl) (by kernel_rfl) v xT w
def avx {t:Nat}(ht:t=240)(v:Value)(xT:TypeId)(w:World):(Instr.typeAssert (.iface t v) xT 224 true).run P w=.ok (.tuple #[.iface t v,.bool true]) w:=by subst ht;exact run_typeAssert_hasB Go.Proofs.Tryz.underlying224 (by kernel_rfl) v xT w
def aAs:o6 321 fns=true:=by kernel_rfl
section
variable {w:World}{p n:Nat}{v:Value}
def ack {Q:Value->World->Prop}(hv:w.cell? ((aZ p).add 1)=some v)(hp:Value.plain v=true)(k:Q v w):yQ (cx n) (.iface 240 (.pointer (sZ p))) "Unwrap" [] w λv w=>dV v λr=>Q r w:=by
 refine⟨321,_,aei _ w,?_⟩;unfold iv;have h:Dw (sZ p) w Q:=by apply Na;refine ah (mJ hv hp ?_);unfold dV;grind
 exact h
end
attribute [local irreducible] tT callFunc Sem.run ReflectliteValue.method ReflectliteValue.set ReflectliteValue.unpack ReflectliteType.relation ReflectliteType.typeOf af cv bz bg aA cw bZ St App cH cy cD bU bF aq bS av ak aW mapA
section
variable {F:Nat->Prop}{W w:World}{L:List As}{p r:Nat}{c v0:Int}
def Re {b:Addr}{K:Value->World->Prop}(hb:w.cell? b=some (ae c))(h:St (aZ r) (ae c) w λw=>K (.tuple #[]) w):tT P 139 #[vE (aZ r),vR b] w K:=by obtain⟨⟨u,hu⟩,hf,k⟩:=al8 h;have he:=WK (aZ r) b c u w hb hu hf;apply j7 (w':=w.setCell (aZ r) (ae c)) aqQ he;exact k
def WL {Q:Bool->World->Prop}{k tb:Nat}{a:Nat}(s:Sep F W w (av tb 161 [.pointer (some ⟨8,188,none⟩),.pointer (sZ a),.int .u64 150]::av a 188 [.pointer (sZ r)]::av r 187 [ae v0]::L))
  (hQ:∀w',Sep F W w' (av r 187 [ae c]::L)->Q true w'){target:Value}:ji Q (k+1) (.iface 187 (ae c)) target (.iface 219 (rt 187)) (aZ tb) w:=by
 show wV Q (ji Q k) _ _ _ _ _;apply j7 x95 (GU _ w);refine mZ (Q_ _) WI aiR (Rb w) ?_;apply al5;refine lP s 0 rfl (lP s 0 rfl (lI s 0 rfl ?_));apply j7 aqP (Md (aZ a) (aZ r) w (by have:=cR s (i:=1) (j:=0) rfl rfl rfl;exact this));apply S3;refine j7 x97 (Eo c w) ?_;apply S3;have s2:=tW (ai (ai s)) [ae c] 187;have s2:=s2;apply Re (c:=c) (by simp_all);refine ax s2 (i:=1) rfl rfl rfl λw s=>?_;exact hQ w (ai s)
def aiW {Q:Bool->World->Prop}{k tb:Nat}{a:Nat}(s:Sep F W w (av tb 161 [.pointer (some ⟨8,188,none⟩),.pointer (sZ a),.int .u64 150]::av a 188 [.pointer (sZ r)]::av r 187 [ae v0]::L))
  (hv:w.cell? ((aZ p).add 1)=some (.iface 187 (ae c)))
  (hQ:∀w',Sep F W w' (av r 187 [ae c]::L)->Q true w'){target:Value}:ji Q (k+2) (.iface 240 (.pointer (sZ p))) target (.iface 219 (rt 187)) (aZ tb) w:=by
 show wV Q (ji Q (k+1)) _ _ _ _ _;apply j7 x95 (S0 _ w);refine mZ (Q_ _) WI aiR (aeh w) ?_;apply aek;refine A7 (awy rfl _ _ _) (S1 rfl ?_);refine A7 (avx rfl _ _ _) (S1 rfl ?_);exact ack hv rfl (tQ (WL s hQ))
def Me {Q:Bool->World->Prop}(s:Sep F W w (av r 187 [ae v0]::L))(hv:∀w',Sep F W w' L->w'.cell? ((aZ p).add 1)=some (.iface 187 (ae c)))
  (h1:∀w',Sep F W w' L->w'.cell? (aZ 1)=some (.iface 219 (rt 74)))
  (hQ:∀w',Sep F W w' (av r 187 [ae c]::L)->Q true w'):
  nG (.iface 240 (.pointer (sZ p))) (.iface 188 (.pointer (sZ r))) w Q:=by
 apply Bs;refine tQ (tQ ?_);refine j7 x97 (GV (aZ r) w) ?_;apply S3;have s:=tW s [.pointer (sZ r)] 188;have s:=s;generalize w.heap.size=a at s⊢;generalize w.alloc (.cells #[.pointer (sZ r)] 188)=w1 at s⊢;refine aV s λvb w s=>?_;refine sT s 0 rfl λw s=>?_;refine sT s 0 rfl λw s=>?_;refine ax s (i:=0) rfl rfl rfl λw s=>?_;refine lP s 0 rfl (lP s 0 rfl (lI s 0 rfl ?_));apply j7 x98 (Q9 (aZ a) w);refine mZ (Ig _) Rc aej (Ma w) ?_;apply al7;refine lP s 0 rfl (lP s 0 rfl (lI s 0 rfl ?_));apply j7 x99 (Mc (aZ a) (aZ r) w (by have:=cR s (i:=1) (j:=0) rfl rfl rfl;exact this));apply aek;refine mZ (aan _) aiS aqR (Ra w) ?_;refine mZ (Ig _) Rc aej (Mb w) ?_;apply ar2;apply mJ (h1 w (ai (ai (ai s)))) rfl;refine mZ (aeg _) aiT aqS (WG w) ?_;apply al6;refine lP s 0 rfl (lP s 0 rfl (lI s 0 rfl ?_));apply Gp;have s:=ai s;refine aQ s λtb w s=>?_;exact⟨2,aiW s (hv w (ai (ai (ai s)))) hQ⟩
end
end Go.Proofs.YtmegplnmiepfbaaGreatDoor.S.At
set_option maxRecDepth 20000
namespace Go.Proofs.YtmegplnmiepfbaaGreatDoor.S.Pk
open Go.Sx
open Go.Extern
def GU (v:Value)(w:World):(ReflectliteType.typeOf #[.iface 268 v]).run P w=.ok (.iface 219 (rt 268)) w:=by kernel_rfl
def GV (t:Addr)(w:World):(ReflectliteValue.unpack (.iface 269 (.pointer (some t)))).run P w
 =.ok (.agg #[.pointer (some ⟨8,269,none⟩),.pointer (sZ w.heap.size),.int .u64 150]) (w.alloc (.cells #[.pointer (some t)] 269)):=by kernel_rfl
def Eo (n:Option Addr)(w:World):(ReflectliteValue.unpack (.iface 268 (.pointer n))).run P w
 =.ok (.agg #[.pointer (some ⟨8,268,none⟩),.pointer (sZ w.heap.size),.int .u64 150]) (w.alloc (.cells #[.pointer n] 268)):=by kernel_rfl
def Q9 (a:Addr)(w:World):(ReflectliteValue.methodAny (ReflectliteValue.valueError "reflectlite.Value.Type" 0) (λt _ _ _=>ReflectliteType.toType t) #[.agg #[.pointer (some ⟨8,269,none⟩),.pointer (some a),.int .u64 150]]).run P w
 =.ok (.iface 219 (rt 269)) w:=by kernel_rfl
def Ma (w:World):((ReflectliteType.abiMethod λt=>(λa:Nat=>Value.int IntKind.u8 (a:Int))<$>Rtype.kind t) #[.pointer (some ⟨8,269,none⟩)]).run P w=.ok (.int .u8 22) w:=by kernel_rfl
def Mb (w:World):((ReflectliteType.abiMethod λt=>(λa:Nat=>Value.int IntKind.u8 (a:Int))<$>Rtype.kind t) #[.pointer (some ⟨8,268,none⟩)]).run P w=.ok (.int .u8 22) w:=by kernel_rfl
def Ra (w:World):(ReflectliteType.method ReflectliteType.elem #[rt 269]).run P w=.ok (.iface 219 (rt 268)) w:=by kernel_rfl
def WG (w:World):(ReflectliteType.relation "Implements" ReflectliteType.implements_ #[rt 268,.iface 219 (rt 74)]).run P w=.ok (.bool true) w:=by kernel_rfl
def Rb (w:World):(ReflectliteType.relation "AssignableTo" ReflectliteType.assignableTo #[rt 268,.iface 219 (rt 268)]).run P w=.ok (.bool true) w:=by kernel_rfl
abbrev vP (a:Addr):Value:=.agg #[.pointer (some ⟨8,269,none⟩),.pointer (some a),.int .u64 150]
abbrev vR (a:Addr):Value:=.agg #[.pointer (some ⟨8,268,none⟩),.pointer (some a),.int .u64 150]
abbrev vE (a:Addr):Value:=.agg #[.pointer (some ⟨8,268,none⟩),.pointer (some a),.int .u64 406]
def z6 (a:Addr)(w:World):(ReflectliteValue.parts (vP a)).run P w=.ok (some (269,a,150)) w:=by kernel_rfl
def Jg (a:Addr)(w:World):(ReflectliteValue.parts (vR a)).run P w=.ok (some (268,a,150)) w:=by kernel_rfl
def Jh (a:Addr)(w:World):(ReflectliteValue.parts (vE a)).run P w=.ok (some (268,a,406)) w:=by kernel_rfl
def Mc (a p:Addr)(w:World)(ha:w.cell? a=some (.pointer (some p))):(ReflectliteValue.method (ReflectliteValue.valueError "reflectlite.Value.IsNil" 0) ReflectliteValue.isNil #[vP a]).run P w=.ok (.bool false) w:=by rw[rlm];simp[Sem.run_bind,z6,Result.andThen];simp[ReflectliteValue.isNil,loadVar,isAgg,underlying,Go.Proofs.Tryz.underlying269,ha,Result.andThen]
def Ji (w:World):(Rtype.elem? 269).run P w=.ok (some 268) w:=by kernel_rfl
def acm (p:Addr)(w:World):(ReflectliteValue.mk 268 p ReflectliteValue.flagAddr).run P w=.ok (vE p) w:=by kernel_rfl
def Md (a p:Addr)(w:World)(ha:w.cell? a=some (.pointer (some p))):(ReflectliteValue.method (ReflectliteValue.valueError "reflectlite.Value.Elem" 0) ReflectliteValue.elem #[vP a]).run P w=.ok (vE p) w:=by rw[rlm];simp[Sem.run_bind,z6,Result.andThen];simp[ReflectliteValue.elem,loadVar,isAgg,underlying,Go.Proofs.Tryz.underlying269,ha,Result.andThen,Ji,acm]
def Jj (w:World):(Rtype.directlyAssignable 268 268).run P w=.ok true w:=by kernel_rfl
def WK (t b:Addr)(n:Option Addr)(old:Value)(w:World)(hb:w.cell? b=some (.pointer n))(ht:w.cell? t=some old)(hf:w.frozen? t=false):
  (ReflectliteValue.set #[vE t,vR b]).run P w=.ok (.tuple #[]) (w.setCell t (.pointer n)):=by
 rw[rls];simp[Sem.run_bind,Jh,Jg,Result.andThen];simp[ReflectliteValue.flagAddr,loadVar,isAgg,underlying,Go.Proofs.Tryz.underlying268,hb,Result.andThen,Jj,storeVar,Value.cells,storeCells,Addr.add];rw[run_store P w t _ _ (by rfl)];simp[ht,hf]
attribute [local irreducible] tT callFunc Sem.run ReflectliteValue.method ReflectliteValue.set ReflectliteValue.unpack ReflectliteType.relation ReflectliteType.typeOf af cv bz bg aA cw bZ St App cH cy cD bU bF aq bS av ak aW mapA
section
variable {F:Nat->Prop}{W w:World}{L:List As}{p r:Nat}{c v0:Option Addr}
def awz {A B:Prop}(h:A):dI .u8 (.int .u8 22) λr=>cond (r !=20) A B:=h
def Re {b:Addr}{K:Value->World->Prop}(hb:w.cell? b=some (.pointer c))(h:St (aZ r) (.pointer c) w λw=>K (.tuple #[]) w):tT P 139 #[vE (aZ r),vR b] w K:=by obtain⟨⟨u,hu⟩,hf,k⟩:=al8 h;have he:=WK (aZ r) b c u w hb hu hf;apply j7 (w':=w.setCell (aZ r) (.pointer c)) aqQ he;exact k
def WL {Q:Bool->World->Prop}{k tb:Nat}{a:Nat}(s:Sep F W w (av tb 161 [.pointer (some ⟨8,269,none⟩),.pointer (sZ a),.int .u64 150]::av a 269 [.pointer (sZ r)]::av r 268 [.pointer v0]::L))
  (hQ:∀w',Sep F W w' (av r 268 [.pointer c]::L)->Q true w'){target:Value}:ji Q (k+1) (.iface 268 (.pointer c)) target (.iface 219 (rt 268)) (aZ tb) w:=by
 show wV Q (ji Q k) _ _ _ _ _;apply j7 x95 (GU _ w);refine mZ (Q_ _) WI aiR (Rb w) ?_;apply al5;refine lP s 0 rfl (lP s 0 rfl (lI s 0 rfl ?_));apply j7 aqP (Md (aZ a) (aZ r) w (by have:=cR s (i:=1) (j:=0) rfl rfl rfl;exact this));apply S3;refine j7 x97 (Eo c w) ?_;apply S3;have s2:=tW (ai (ai s)) [.pointer c] 268;have s2:=s2;apply Re (c:=c) (by simp_all);refine ax s2 (i:=1) rfl rfl rfl λw s=>?_;exact hQ w (ai s)
def Me {Q:Bool->World->Prop}(s:Sep F W w (av r 268 [.pointer v0]::L))
  (h1:∀w',Sep F W w' L->w'.cell? (aZ 1)=some (.iface 219 (rt 74)))
  (hQ:∀w',Sep F W w' (av r 268 [.pointer c]::L)->Q true w'):
  nG (.iface 268 (.pointer c)) (.iface 269 (.pointer (sZ r))) w Q:=by
 apply Bs;refine tQ (tQ ?_);refine j7 x97 (GV (aZ r) w) ?_;apply S3;have s:=tW s [.pointer (sZ r)] 269;have s:=s;generalize w.heap.size=a at s⊢;generalize w.alloc (.cells #[.pointer (sZ r)] 269)=w1 at s⊢;refine aV s λvb w s=>?_;refine sT s 0 rfl λw s=>?_;refine sT s 0 rfl λw s=>?_;refine ax s (i:=0) rfl rfl rfl λw s=>?_;refine lP s 0 rfl (lP s 0 rfl (lI s 0 rfl ?_));apply j7 x98 (Q9 (aZ a) w);refine mZ (Ig _) Rc aej (Ma w) ?_;apply al7;refine lP s 0 rfl (lP s 0 rfl (lI s 0 rfl ?_));apply j7 x99 (Mc (aZ a) (aZ r) w (by have:=cR s (i:=1) (j:=0) rfl rfl rfl;exact this));apply aek;refine mZ (aan _) aiS aqR (Ra w) ?_;refine mZ (Ig _) Rc aej (Mb w) ?_;apply awz;apply mJ (h1 w (ai (ai (ai s)))) rfl;refine mZ (aeg _) aiT aqS (WG w) ?_;apply al6;refine lP s 0 rfl (lP s 0 rfl (lI s 0 rfl ?_));apply Gp;have s:=ai s;refine aQ s λtb w s=>?_;exact⟨1,WL s hQ⟩
end
end Go.Proofs.YtmegplnmiepfbaaGreatDoor.S.Pk
set_option maxRecDepth 20000
namespace Go.Proofs.YtmegplnmiepfbaaGreatDoor.S
open Go.Sx
attribute [local irreducible] af cv bz bg aA cw bZ St Bx Al App cH cy cD bU aM bF aq bS av ak aW mapA
abbrev tC (a:Addr):Value:=.iface 401 (.pointer (some a))
attribute [local irreducible] tT yQ in
theorem arc {w:World}{Q:Bool->World->Prop}{a b:Addr}{c:Bool}(he:∀(x y:Operand) (K:Bool->World->Prop),K c w->bU P .eql 74 x y (tC a) (tC b) w K)(hQ:Q c w):pF (tC a) (tC b) w Q:=by
 apply Ns;refine tQ (tQ ?_);apply j7 x95 (afv _ w);refine mZ (aiP _) aoM avf (akV w) ?_;have h:xh (tC a) (tC b) true w Q:=by apply Nr;exact⟨1,akW (.inl rfl) he hQ⟩
 exact h
def As.nil {w:World}{Q:Bool->World->Prop}{v:Value}(hQ:Q false w):nG .nilIface v w Q:=Bs _ _ _ _ hQ
def avy {w:World}{Q:Bool->World->Prop}{a b:Option Addr}{n c m d:Nat}{xs ys:List Int}(hA:Sl w a n c 1 bu xs)(hB:Sl w b m d 1 bu ys)(hx:eA xs)(hy:eA ys)(h:Q (decide (xs=ys)) w):DI a n c b m d w Q:=by apply XO;refine Yr dW hA.row rfl rfl rfl rfl rfl rfl (akm ?_);refine Yr dW hB.row rfl rfl rfl rfl rfl rfl (akm ?_);rw[ani hx hy];exact h
abbrev CM (rb:Nat)(ba:Option Addr)(bn bc:Nat)(at_:Int):As:=av rb 265 [.slice ba bn bc,ae at_]
section
variable {W w w0:World}{L:List As}{lg:wq}{ba:Option Addr}{bn bc rb:Nat}{bs:List Int}{p n:Nat}
def aev {A B:Prop}(h:A):BP .nilIface λb=>cond b A B:=h
def Mj {A B:Prop}(h:B):BP .nilIface λb=>cond (!b) A B:=h
def Rk {t:Nat}{v:Value}{A B:Prop}(h:A):BP (.iface t v) λb=>cond (!b) A B:=h
def A4 {a:Addr}{K:Value->Prop}(k:K (tC a)):dV (tC a) K:=k
def Tb {Q:Option Addr->Nat->Nat->Value->World->Prop}(hL:jw w0 lg)(hB:Sl w0 ba bn bc 1 bu bs)(FR:bn<=1000000000)(hp:p<=bn)(hn:n<=100000)(s:Sep No w0 w (CM rb ba bn bc p::L))
  (hno:bn-p<n->∀w',Sep No w0 w' (CM rb ba bn bc p::L)->Q none 0 0 (tC lg.a6) w')
  (hyes:p+n<=bn->∀a c w',Sl w' a n c 1 bu ((bs.drop p).take n)->Sep No w0 w' (CM rb ba bn bc ((p+n:Nat):Int)::L)->Q a n c .nilIface w'):nR (sZ rb) n w Q:=by
 apply Oj;have s:=ay s;refine ah (lS s 0 rfl (ah (lI s 0 rfl ?_)));rw[aG];by_cases h:bn-p<n
 ·rw[bN];have s:=ay s;have c6:=Fr.cell (au s) hL.v6 id;exact mJ c6 rfl ⟨c6,A4 (hno h _ s)⟩
 ·rw[bh];refine ah (lI s 0 rfl (ah (ax s (i:=0) rfl rfl rfl λw s=>?_)));have e:IntKind.wrap .i64 ((p:Int)+n)=((p+n:Nat):Int):=by rw[aG];omega
  rw[e]at s;have s:=ay s;refine ah (lS s 0 rfl (ah (lI s 0 rfl (ah (lI s 0 rfl ?_)))));rw[aG];refine(hB.fr (au s)).mid (p:=p) (by omega) rfl (by omega) (by omega) λa n' c en hs=>?_;grind
def YP {Q:Option Addr->Nat->Nat->Value->World->Prop}(hL:jw w0 lg)(hB:Sl w0 ba bn bc 1 bu bs)(FR:bn<=1000000000)(hp:p<=bn)(hn:n<=100000)(s:Sep No w0 w (CM rb ba bn bc p::L))
  (hno:bn-p<n->∀w',Sep No w0 w' (CM rb ba bn bc p::L)->Q none 0 0 (tC lg.a6) w')
  (G0:p+n<=bn->0∈(bs.drop p).take n->∀a c w',Sl w' a n c 1 bu ((bs.drop p).take n)->Sep No w0 w' (CM rb ba bn bc ((p+n:Nat):Int)::L)->Q a n c (tC lg.a5) w')
  (hyes:p+n<=bn->0∉(bs.drop p).take n->∀a c w',Sl w' a n c 1 bu ((bs.drop p).take n)->Sep No w0 w' (CM rb ba bn bc ((p+n:Nat):Int)::L)->Q a n c .nilIface w'):qC (sZ rb) n w Q:=by
 apply MA;refine Tb hL hB FR hp hn s (λh w s=>?_) λh a c w hs s=>?_
 ·exact tQ (A4 (hno h w s))
 ·apply aev;apply Tl.HY hs.row (by omega);by_cases h0:(0:Int)∈(bs.drop p).take n
  ·rw[bN h0];have c5:=Fr.cell (au s) hL.v5 id;exact mJ c5 rfl (A4 (G0 h h0 a c w hs s))
  ·rw[bh h0];exact hyes h h0 a c w hs s
def Xt {Q:Option Addr->Nat->Nat->Value->World->Prop}(hL:jw w0 lg)(s:Sep No w0 w L)(h:∀w',Sep No w0 w' L->Q none 0 0 (tC lg.a5) w'):bZ (aZ 5) w.drew λx=>w.drew.cell? (aZ 5)=some x/\dV x λr=>Q none 0 0 r w.drew:=by have s:=ay s;have c5:=Fr.cell (au s) hL.v5 id;exact mJ c5 rfl ⟨c5,A4 (h _ s)⟩
def api {Q:Option Addr->Nat->Nat->Value->World->Prop}(hL:jw w0 lg)(hB:Sl w0 ba bn bc 1 bu bs)(FR:bn<=1000000000)(hr:eA bs)(hn:n<=256)
  (hno:pX n (bs.drop 1) [] 1=none->∀e p' w',(e=lg.a5\/e=lg.a6)->Sep No w0 w' (CM rb ba bn bc p'::L)->Q none 0 0 (tC e) w')
  (hyes:∀cs used,pX n (bs.drop 1) [] 1=some (cs,used)->∀a m c w',used<=bn->Sep No w0 w' (ak a m c 5 1 (flat bu cs)::CM rb ba bn bc (used:Nat)::L)->Q a m c .nilIface w'):
  ∀(j p:Nat) (oa:Option Addr) (on oc:Nat) (out:List Int) (w:World),n<=on+j->on<=n->p<=bn->pX n (bs.drop p) out p=pX n (bs.drop 1) [] 1->Sep No w0 w (ak oa on oc 5 1 (flat bu out)::CM rb ba bn bc p::L)->
   pL Q (j+1) (sZ rb) n oa on oc w:=by
 have hbl:=hB.len;intro j;induction j with
 |zero=>
  intro p oa on oc out w hj Cs hp he s;show pK _ _ _ _ _ _ _ _;unfold pK;have hol:=(aK s (i:=0) rfl dO (by decide)).len;rw[NC (by omega)]at he;grind
 |succ j ih=>
  intro p oa on oc out w hj Cs hp he s;have hol:=(aK s (i:=0) rfl dO (by decide)).len;show pK _ _ _ _ _ _ _ _;unfold pK;by_cases hlt:on<n
  ·rw[bN];refine Tb (n:=2) hL hB FR hp (by decide) (jk s) (λh w s=>?_) λh a c w hs s=>?_
   ·refine Rk (A4 ?_);refine hno ?_ lg.a6 p w (.inr rfl) (gw s (.cons_cons _ (List.sublist_cons_self _ _)));rw[<-he];have h2:(bs.drop p).length<2:=by grind
    match hd:bs.drop p,h2 with
    |[],_=>unfold pX;grind
    |[x],_=>unfold pX;grind
   ·apply Mj;have s:=ay s;have hs:=hs.drew;obtain⟨x,y,rest,hd⟩:∃x y rest,bs.drop p=x::y::rest:=by
     have h2:2<=(bs.drop p).length:=by rw[List.length_drop];omega
     match hd:bs.drop p,h2 with
     |x::y::rest,_=>exact⟨x,y,rest,rfl⟩
    have awA:rest=bs.drop (p+2):=by rw[<-List.drop_drop,hd];rfl
    have hx:=hr x (List.mem_of_mem_drop (by rw[hd];simp));rw[hd]at hs he;apply hs.Dq rfl (by decide);refine hs.El rfl (by decide) λad z hz hc=>?_;have hz':z=y:=by have:([x,y]:List Int)[1]? =some z:=hz;simpa using this.symm
    subst hz';have hc0:=hc 0 _ rfl;refine aO hc0 ⟨hc0,?_⟩;have e1:gi (List.take 2 (x::z::rest)) 0=x:=rfl;rw[e1];rw[pX,fU]at he;have bad:Ej n out x z=true->∀w',Sep No w0 w' (CM rb ba bn bc ((p+2:Nat):Int)::ak oa on oc 5 1 (flat bu out)::L)->Q none 0 0 (tC lg.a5) w':=λhb w' s'=>by rw[if_pos hb]at he;exact hno he.symm lg.a5 _ w' (.inl rfl) (gw s' (.cons_cons _ (List.sublist_cons_self _ _)))
    by_cases hz0:z=0
    ·rw[dw hz0,cond_true];exact Xt hL s (bad (by unfold Ej;rw[dw hz0];rfl))
    rw[cB hz0,cond_false,aG (n:=x),aG,aG];by_cases asd:x+1>(n:Int)-on
    ·rw[bN asd];exact Xt hL s (bad (by unfold Ej;rw[decide_eq_true (by omega)];simp))
    rw[bh asd];have go:¬Ej n out x z=true->uE (pL Q (j+1)) Q (sZ rb) n oa on oc (x+1) z w.drew:=λhb=>by
     rw[if_neg hb]at he;refine aQ s λxb w s=>?_;have hX:=acG (ns:=[z]) s (i:=0) rfl;have e2:x+1=(((x+1).toNat:Nat):Int):=by omega
     rw[e2];refine S_ s hX (by omega) λra w s _=>?_;have hR:=aK s (i:=0) rfl dO (by decide);have s:=pk 4 [3,2,0] s;refine ah4 (b:=0) s (by omega) (by simp) (by omega) hR λa' c' w s=>?_;refine ih (p+2) a' (on+(x+1).toNat) c' _ w (by omega) (by omega) (by omega) ?_ (gw s (.cons_cons _ (.cons_cons _ (List.sublist_cons_self _ _))));rw[<-awA];exact he
    by_cases hpos:0<on
    ·rw[bN,aG];have hO:=aK s (i:=1) rfl dO (by decide);apply hO.Dq (k:=on-1) (by omega) (by omega);by_cases hl:gi out (on-1)=z
     ·rw[dw hl,cond_true];exact Xt hL s (bad (by unfold Ej;rw[hol,decide_eq_true hpos,dw hl];simp))
     ·rw[cB hl,cond_false];apply go;rw[Ej,hol,cB hl,cB hz0,decide_eq_false (by omega)];simp
    ·rw[bh];apply go;rw[Ej,hol,cB hz0,decide_eq_false (by omega),decide_eq_false hpos];simp
  ·rw[bh];rw[NC (by omega)]at he;exact hyes out p he.symm oa on oc w hp s
def amq {Q:Option Addr->Nat->Nat->Value->World->Prop}(hL:jw w0 lg)(hB:Sl w0 ba bn bc 1 bu bs)(FR:1<=bn/\bn<=1000000000)(hr:eA bs)(hn:n<=256)(s:Sep No w0 w (CM rb ba bn bc 1::L))
  (hno:pX n (bs.drop 1) [] 1=none->∀e p' w',(e=lg.a5\/e=lg.a6)->Sep No w0 w' (CM rb ba bn bc p'::L)->Q none 0 0 (tC e) w')
  (hyes:∀cs used,pX n (bs.drop 1) [] 1=some (cs,used)->∀a m c w',used<=bn->Sep No w0 w' (ak a m c 5 1 (flat bu cs)::CM rb ba bn bc (used:Nat)::L)->Q a m c .nilIface w'):ye (sZ rb) n w Q:=by
 apply Ol;exact⟨n+1,api hL hB FR.2 hr hn hno hyes n 1 none 0 0 [] w (by omega) (Nat.zero_le _) FR.1 rfl (bG s 5 1)⟩
end
end Go.Proofs.YtmegplnmiepfbaaGreatDoor.S
set_option maxRecDepth 20000
namespace Go.Proofs.YtmegplnmiepfbaaGreatDoor.S
open Go.Sx
attribute [local irreducible] af cv bz bg aA cw bZ St Bx Al App cH cy cD bU aM bF aq bS av ak aW mapA
def atz {bs cs:List Int}{n used:Nat}(hn:1<=n)(hb:∀x∈bs,0<=x/\x<256)(hB:Iy n bs=some (cs,used)):cs.length=n/\(∀x∈cs,1<=x/\x<256)/\used<=bs.length:=by
 cases bs with
 |nil=>cases hB
 |cons f r=>
  rw[FK]at hB;split at hB
  ·split at hB
   ·cases hB
   ·rename_i h1;cases hB;obtain⟨x,r',rfl⟩:∃x r',r=x::r':=by
     cases r with
     |nil=>grind
     |cons x r'=>grind
    have hx:=hb x (by simp);refine⟨by simp,λy hy=>?_,by simp⟩;rw[List.mem_replicate]at hy;have h3:y=x:=hy.2;omega
  ·split at hB
   ·grind
   ·split at hB
    ·have:=SH n r [] 1 cs used (λx hx=>hb x (by simp[hx])) (by simp) (by simp) hB;grind
    ·cases hB
section
variable {W w w0:World}{L:List As}{lg:wq}{ba:Option Addr}{bn bc rb:Nat}{bs:List Int}{n:Nat}
def amr {Q:Option Addr->Nat->Nat->Value->World->Prop}(hL:jw w0 lg)(hB:Sl w0 ba bn bc 1 bu bs)(FR:bn<=1000000000)(hr:eA bs)(hn:1<=n/\n<=256)(s:Sep No w0 w (CM rb ba bn bc 0::L))
  (hno:Iy n bs=none->∀a m c ns e p' w',(e=lg.a5\/e=lg.a6)->m<=256->Sl w' a m c 1 bu ns->Sep No w0 w' (CM rb ba bn bc p'::L)->Q a m c (tC e) w')
  (hyes:∀cs used,Iy n bs=some (cs,used)->∀a c w',used<=bn->Sl w' a n c 1 bu cs->Sep No w0 w' (CM rb ba bn bc (used:Nat)::L)->Q a n c .nilIface w'):yc (sZ rb) n w Q:=by
 apply Om;have hbl:=hB.len;have s:=s;refine Tb (n:=1) hL hB FR (Nat.zero_le _) (by decide) s (λh w s=>?_) λh a c w hs s=>?_
 ·have e0:bs=[]:=List.eq_nil_of_length_eq_zero (by omega);exact Rk (A4 (hno (by rw[e0];rfl) none 0 0 [] lg.a6 _ w (.inr rfl) (Nat.zero_le _) BV s))
 ·apply Mj;obtain⟨f,r,rfl⟩:∃f r,bs=f::r:=by
   cases bs with
   |nil=>grind
   |cons f r=>grind
  apply hs.Dq rfl (by decide);have e1:gi (List.take 1 (List.drop 0 (f::r))) 0=f:=rfl;rw[e1];have s:=s;rw[List.length_cons]at hbl;have hr1:=hr.cons;rw[FK]at hno hyes;by_cases f0:f=0
  ·rw[dw f0,cond_true];rw[if_pos f0]at hno hyes;refine YP (n:=1) hL hB FR (by omega) (by decide) s (λh w s=>?_) (λh h0 a c w hs s=>?_) λh h0 a c w hs s=>?_
   ·have er:r=[]:=List.eq_nil_of_length_eq_zero (by omega);refine amn s (by omega) λra w s _=>A4 ?_;have hA:=aK s (i:=0) rfl dO (by decide);exact hno (if_pos (.inl er)) ra 0 0 [] lg.a6 _ w (.inr rfl) (Nat.zero_le _) hA (ai s)
   ·obtain⟨x,r',rfl⟩:∃x r',r=x::r':=by
     cases r with
     |nil=>simp at hbl;omega
     |cons x r'=>exact⟨x,r',rfl⟩
    have hx:x=0:=by have:(0:Int)∈[x]:=h0;exact(List.mem_singleton.1 this).symm
    have hs:=hs;refine S_ s hs (by omega) λra w s _=>A4 ?_;have hA:=aK s (i:=0) rfl dO (by decide);exact hno (if_pos (.inr hx)) ra n n _ lg.a5 _ w (.inl rfl) hn.2 hA (ai s)
   ·obtain⟨x,r',rfl⟩:∃x r',r=x::r':=by
     cases r with
     |nil=>simp at hbl;omega
     |cons x r'=>exact⟨x,r',rfl⟩
    have hx:¬x=0:=λe=>h0 (by rw[e];exact List.mem_cons_self ..);have hs:=hs;refine S_ s hs (by omega) λra w s _=>?_;have hA:=aK s (i:=0) rfl dO (by decide);refine hyes _ 2 (if_neg λe=>e.elim (λe=>by cases e) hx) ra n w h hA (ai s)
  rw[cB f0,cond_false];rw[if_neg f0]at hno hyes;by_cases f1:f=1
  ·rw[dw f1,cond_true];rw[if_pos f1]at hno hyes;refine YP hL hB FR (by omega) (by omega) s (λh w s=>?_) (λh h0 a c w hs s=>?_) λh h0 a c w hs s=>?_
   ·exact A4 (hno (if_pos (.inl (by omega))) none 0 0 [] lg.a6 _ w (.inr rfl) (Nat.zero_le _) BV s)
   ·exact A4 (hno (if_pos (.inr h0)) a n c _ lg.a5 _ w (.inl rfl) hn.2 hs s)
   ·exact hyes _ (1+n) (if_neg λe=>e.elim (λe=>by omega) h0) a c w h hs s
  rw[cB f1,cond_false];rw[if_neg f1]at hno hyes;by_cases f2:f=2
  ·rw[dw f2,cond_true];rw[if_pos f2]at hno hyes;refine amq hL hB (by omega) hr hn.2 s (λh e p' w he s=>A4 (hno h none 0 0 [] e p' w he (Nat.zero_le _) BV s)) λcs used h a m c w hu s=>?_;have hA:=aK s (i:=0) rfl dO (by decide);have hm:=(SH n r [] 1 cs used (λx hx=>hr1.2 x hx) (by simp) (by simp) h).1;have:m=n:=by rw[<-hA.len,hm]
   subst this;exact hyes cs used h a c w hu hA (ai s)
  ·rw[cB f2,cond_false];rw[if_neg f2]at hno;exact Xt hL s λw' s=>hno rfl none 0 0 [] lg.a5 _ w' (.inl rfl) (Nat.zero_le _) BV s
end
section
variable {W w w0:World}{L:List As}{lg:wq}{ba:Option Addr}{bn bc rb:Nat}{bs:List Int}{n:Nat}{tw th:Int}
def aew {p:Nat}{v0 v1 v2:Value}{a b:Int}{c:Option Addr}{d e:Nat}{F:Nat->Prop}{t:TypeId}{K:Int->Int->Option Addr->Nat->Nat->World->Prop}(s:Sep F W w (av p t [v0,v1,v2]::L))(h:∀w',Sep F W w' L->K a b c d e w'):
  St ((aZ p).add 0) (ae a) w λw=>St ((aZ p).add 1) (ae b) w λw=>St ((aZ p).add 2) (.slice c d e) w λw=>af .i64 ((aZ p).add 0) w λa=>af .i64 ((aZ p).add 1) w λb=>aA ((aZ p).add 2) w λc d e=>K a b c d e w:=by
 refine sT s 0 rfl λw s=>?_;refine sT s 0 rfl λw s=>?_;refine ax s (i:=0) rfl rfl rfl λw s=>?_;exact lI s 0 rfl (lI s 0 rfl (lS s 0 rfl (h w (ai s))))
def awB {a b:Addr}(hb:∃c t,w.heap[b.block]? =some (.cells c t (0,0)))(ha:∃c t,w.heap[a.block]? =some (.cells c t (0,0))):∃c:Bool,(c=true↔a=b)/\∀(x y:Operand) (K:Bool->World->Prop),K c w->bU P .eql 74 x y (tC a) (tC b) w K:=by
 by_cases h:a=b
 ·subst h;exact⟨true,by simp,λx y K hk=>WH hk⟩
 ·obtain⟨c1,t1,h1⟩:=ha;obtain⟨c2,t2,h2⟩:=hb;exact⟨false,by simp[h],λx y K hk=>acj h h1 h2 hk⟩
def ams {Q:Int->Int->Option Addr->Nat->Nat->Value->World->Prop}{p':Int}{t6:Nat}{e:Addr}{t:Addr}{v0 v1 v2:Value}(hL:jw w0 lg)(he:e=lg.a5\/e=lg.a6)(s:Sep No w0 w (CM rb ba bn bc p'::av t6 84 [v0,v1,v2]::L))
  (h:∀fb co w',Sep No w0 w' (av fb 271 [ae p',ae co,tC e]::CM rb ba bn bc p'::L)->(co=2\/co=3)->Q 0 0 none 0 0 (.iface 268 (.pointer (sZ fb))) w'):
  mV Q (sZ rb) (aZ t6) (tC e) t w:=by
 refine tQ (ah (lI s 0 rfl (A4 ?_)));refine aQ s λfb w s=>?_;have k:=hL.fr (au s);apply mJ k.v6 rfl;obtain⟨c,hc,hq⟩:=awB (a:=e) k.b6 (by rcases he with rfl|rfl;exact k.b5;exact k.b6);apply arc hq;cases c with
 |true=>
  refine ax s (i:=0) rfl rfl rfl λw s=>?_;exact aew (pk 3 [2,0,1] s) λw s=>h fb 2 w s (.inl rfl)
 |false=>
  exact aew (pk 3 [2,0,1] s) λw s=>h fb 3 w s (.inr rfl)
def amt {Q:Int->Int->Option Addr->Nat->Nat->Value->World->Prop}(hL:jw w0 lg)(hB:Sl w0 ba bn bc 1 bu bs)(FR:bn<=1000000000)(hr:eA bs)(hw:1<=tw/\tw<=16)(hh:1<=th/\th<=16)(hn:(n:Int)=tw*th)(s:Sep No w0 w (CM rb ba bn bc 0::L))
  (hno:E8 bs n=none->∀fb p' co e w',(co=2\/co=3)->Sep No w0 w' (av fb 271 [ae p',ae co,tC e]::CM rb ba bn bc p'::L)->Q 0 0 none 0 0 (.iface 268 (.pointer (sZ fb))) w')
  (hyes:∀cs used,E8 bs n=some (cs,used)->∀ta tn tc w',used<=bn->Sep No w0 w' (ak ta tn tc 5 1 (flat bu cs)::CM rb ba bn bc (used:Nat)::L)->Q tw th ta tn tc .nilIface w'):x_ (sZ rb) tw th w Q:=by
 apply On;have q1:=Int.mul_le_mul hw.1 hh.1 (by decide) (by omega);have q2:=Int.mul_le_mul hw.2 hh.2 (by omega) (by decide);rw[aG,<-hn];refine aV s λt6 w s=>?_;have fail:∀{e:Addr} {t:Addr} {p':Int} {w:World},(e=lg.a5\/e=lg.a6)->E8 bs n=none->Sep No w0 w (CM rb ba bn bc p'::av t6 84 [ae 0,ae 0,.slice none 0 0]::L)->mV Q (sZ rb) (aZ t6) (tC e) t w:=λhe hg s=>
  ams hL he s λfb co w' s' U0=>hno hg fb _ co _ w' U0 s'
 refine amr hL hB FR hr (by omega) (jk s) (λhb a m c ns e p' w he hm hA s=>?_) λcs used hb a c w hu hA s=>?_
 ·refine LD s hA (by omega) λra rc w s _=>?_;refine aV s λtb w s=>?_;refine sT s 0 rfl λw s=>?_;refine sT s 0 rfl λw s=>?_;refine sT s 0 rfl λw s=>?_;apply tQ;refine fail he ?_ (ai (ai s));rw[E8,hb]
 ·obtain⟨k1,k2,k3⟩:=atz (by omega) (λx hx=>hr x hx) hb;refine LD s hA (by omega) λra rc w s _=>?_;refine aV s λtb w s=>?_;refine sT s 0 rfl λw s=>?_;refine sT s 0 rfl λw s=>?_;refine ax s (i:=0) rfl rfl rfl λw s=>?_;apply aev;refine lI s 0 rfl (lI s 0 rfl (lS s 0 rfl ?_));have hC:=aK s (i:=1) rfl dO (by decide);refine aph s hC (Tl.ZR.2 ⟨hw,hh,by omega,λh0=>by grind⟩) (by omega) λg o pn pc w s _=>?_;have s:=ay s;refine ah (lS s 3 rfl (ah (lI s 3 rfl ?_)));refine(hB.fr (au s)).hi rfl hu λb' c' hS=>?_;have hP:=aK s (i:=0) rfl dO (by decide);apply avy hP hS (ahA (λx hx=>by grind) (by omega)) (hr.take used);by_cases e:(tY cs).2=bs.take used
  ·rw[decide_eq_true e,Bool.not_true,cond_false];apply aev;refine lI s 1 rfl (lI s 1 rfl (lS s 1 rfl ?_));refine aew (pk 5 [4,2,3] s) λw s=>?_;refine hyes cs used ?_ ra n rc w hu s;unfold E8;grind
  ·rw[decide_eq_false e];have c5:=Fr.cell (au s) hL.v5 id;refine mJ c5 rfl (fail (.inl rfl) ?_ (pk 5 [3,4] s));unfold E8;grind
def aex {F:Nat->Prop}{Q:Int->Int->Option Addr->Nat->Nat->Int->Int->World->Prop}(hL:jw w lg)(hB:Sl w ba bn bc 1 bu bs)(FR:bn<=1000000000)(hr:eA bs)(hw:1<=tw/\tw<=16)(hh:1<=th/\th<=16)(hn:(n:Int)=tw*th)(s0:Sep F W w L)
  (hno:E8 bs n=none->∀co w',(co=2\/co=3)->Sep F W w' L->Fr No w w'->Q 0 0 none 0 0 0 co w')
  (hyes:∀cs used,E8 bs n=some (cs,used)->∀ta tn tc w',used<=bn->Sep F W w' (ak ta tn tc 5 1 (flat bu cs)::L)->Fr No w w'->Q tw th ta tn tc (used:Nat) 0 w'):HM ba bn bc tw th w Q:=by
 apply adp;refine aV (bt (F:=No)) λtb w1 s=>?_;rw[bh,bh,bh,bh];refine aQ s λrb w1 s=>?_;have c1:∀{w':World} {L':List As},Sep No w w' L'->w'.cell? (aZ 1)=some (.iface 219 (rt 74)):=λs=>(hL.fr (au s)).v1;refine amt hL hB FR hr hw hh hn s (λhg fb p' co e w1 U0 s=>?_) λcs used hg ta tn tc w1 hu s=>?_
 ·refine sT s 2 rfl λw1 s=>?_;refine sT s 2 rfl λw1 s=>?_;refine ax s (i:=2) rfl rfl rfl λw1 s=>?_;refine aV s λf w1 s=>?_;have s:=s;refine ax s (i:=0) rfl rfl rfl λw1 s=>?_;refine Pk.Me s (λw' s'=>c1 s') λw1 s=>?_;have s:=ay s;refine lP s 0 rfl (ah (lI s 1 rfl ?_));refine sT s 3 rfl λw1 s=>?_;refine sT s 3 rfl λw1 s=>?_;refine ax s (i:=3) rfl rfl rfl λw1 s=>?_;refine⟨cq s 1 rfl,cq s 0 rfl,cq s 1 rfl,cq s 0 rfl,?_⟩;refine lI s 3 rfl (lI s 3 rfl (lS s 3 rfl ?_));have s':=cm (L':=[]) [] s rfl (by decide);exact hno hg co w1 U0 (gg s0 s') (au s')
 ·refine sT s 2 rfl λw1 s=>?_;refine sT s 2 rfl λw1 s=>?_;refine ax s (i:=2) rfl rfl rfl λw1 s=>?_;refine aV s λf w1 s=>?_;have s:=s;refine ax s (i:=0) rfl rfl rfl λw1 s=>?_;apply As.nil;have s:=ay s;refine lI s 3 rfl (lI s 3 rfl (lS s 3 rfl ?_));apply lI s 2 rfl;refine sT s 3 rfl λw1 s=>?_;refine sT s 3 rfl λw1 s=>?_;refine ax s (i:=3) rfl rfl rfl λw1 s=>?_;refine⟨cq s 2 rfl,?_⟩;refine lI s 3 rfl (lI s 3 rfl (lS s 3 rfl ?_));have s':=cm (L':=[ak ta tn tc 5 1 (flat bu cs)]) [1] s rfl (by decide);exact hyes cs used hg ta tn tc w1 hu (gg s0 s') (au s')
end
section
variable {w h sc:Int}{M ts:List Int}{y tw p:Nat}
def aja (hs:dY w h sc)(hM:(M.length:Int)=w*h){c:Nat}(hc:c<M.length):bK w h c:=⟨hs.1,by omega,by omega⟩
def apk (hs:dY w h sc)(hM:(M.length:Int)=w*h):E9 w h sc M ts 0=M:=by refine U2 LR λc hc=>?_;rw[LR]at hc;rw[Xc hc,if_neg];rintro ⟨e,h0⟩;have hC:=aja hs hM hc;have hl:=(j9 hC).1;have:=Int.ediv_nonneg hl (b:=aE w h sc) (by have:=(zI hs).1;omega);omega
def ajb (hs:dY w h sc)(QM:(tw:Int)=aE w h sc)(hy:(y:Int)<bC w h sc)(hp:(p:Int)=bV w h sc (y*aE w h sc)){c:Nat}(hC:bK w h c):
  (aC w h c=sc/\d_ w h c/aE w h sc=y)↔(p<=c/\c<p+tw):=by
 have hz:=zI hs;constructor
 ·rintro ⟨e,e2⟩;have hg:=n6 hC;have hl:=j9 hC;have Ni:=Int.emod_nonneg (d_ w h c) (b:=aE w h sc) (by omega);have KY:=Int.emod_lt_of_pos (d_ w h c) (b:=aE w h sc) (by omega);have hd:=Int.mul_ediv_add_emod (d_ w h c) (aE w h sc);obtain⟨x,hx⟩:∃x:Nat,d_ w h c%aE w h sc=x:=⟨(d_ w h c%aE w h sc).toNat,by omega⟩;rw[hx]at hd Ni KY;have:=HZ hs (y:=y) KY;grind
 ·rintro ⟨h1,h2⟩;have hx:((c-p:Nat):Int)<aE w h sc:=by omega
  have:=HZ hs (y:=y) hx;have ec:bV w h sc (y*aE w h sc+(c-p:Nat))=c:=by omega
  have hl:0<=(y:Int)*aE w h sc+(c-p:Nat)/\(y:Int)*aE w h sc+(c-p:Nat)<aE w h sc*bC w h sc:=by have a:0<=(y:Int)*aE w h sc:=Int.mul_nonneg (by omega) (by omega);have b:((y:Int)+1)*aE w h sc<=bC w h sc*aE w h sc:=Int.mul_le_mul_of_nonneg_right (by omega) (by omega);grind
  have e1:=iW hs hl;have e2:=F9 hs hl;rw[ec]at e1 e2;refine⟨e1,?_⟩;rw[e2];exact(rT ⟨by omega,hx⟩).1
def ard (hs:dY w h sc)(hM:(M.length:Int)=w*h)(hts:(ts.length:Int)=aE w h sc*bC w h sc)(QM:(tw:Int)=aE w h sc)(hy:(y:Int)<bC w h sc)(hp:(p:Int)=bV w h sc (y*aE w h sc))(hpn:p+tw<=M.length):
  (E9 w h sc M ts y).take p++(ts.drop (y*tw)).take tw++(E9 w h sc M ts y).drop (p+tw)=E9 w h sc M ts ((y+1:Nat):Int):=by
 have hyt:y*tw+tw<=ts.length:=by have b:((y:Int)+1)*aE w h sc<=bC w h sc*aE w h sc:=Int.mul_le_mul_of_nonneg_right (by omega) (by omega);grind
 have hl:((E9 w h sc M ts y).take p++(ts.drop (y*tw)).take tw++(E9 w h sc M ts y).drop (p+tw)).length=M.length:=by simp[List.length_append,List.length_take,List.length_drop,LR];omega
 refine U2 (by rw[hl,LR]) λc hc=>?_;rw[hl]at hc;have hC:=aja hs hM hc;have ayK:=ajb hs QM hy hp hC;rw[Xc hc];by_cases hin:p<=c/\c<p+tw
 ·obtain⟨e1,e2⟩:=ayK.2 hin;have hlr:=j9 hC;have hd:=Int.mul_ediv_add_emod (d_ w h c) (aE w h sc);rw[e2]at hd;have hg:=n6 hC;rw[e1]at hg;have Ni:=Int.emod_nonneg (d_ w h c) (b:=aE w h sc) (by omega);have KY:=Int.emod_lt_of_pos (d_ w h c) (b:=aE w h sc) (by omega);obtain⟨x,hx⟩:∃x:Nat,d_ w h c%aE w h sc=x:=⟨(d_ w h c%aE w h sc).toNat,by omega⟩;rw[hx]at hd KY;have hgr:=HZ hs (y:=y) KY;rw[Int.mul_comm,hd,hg,Int.mul_comm (aE w h sc)]at hgr;unfold gi;grind
 ·have e:(aC w h c=sc/\d_ w h c/aE w h sc<((y+1:Nat):Int))↔(aC w h c=sc/\d_ w h c/aE w h sc<(y:Int)):=by omega
  simp only[e];rw[<-Xc hc];unfold gi;grind
end
section
variable {F:Nat->Prop}{W w w0:World}{L:List As}{mw mh sc:Int}{M ts:List Int}{ta:Option Addr}{tn tc g o mn mc:Nat}
def apl {Q:World->Prop}(hs:dY mw mh sc)(hM:(M.length:Int)=mw*mh)(hts:(ts.length:Int)=aE mw mh sc*bC mw mh sc)(hT:∀w',Sep F W w' L->Sl w' ta tn tc 1 bu ts)(s:Sep F W w (ak (some ⟨g,o,none⟩) mn mc 5 1 (flat bu M)::L))
  (h:∀w',Sep F W w' (ak (some ⟨g,o,none⟩) mn mc 5 1 (flat bu (aib mw mh sc M ts))::L)->Q w'):Gj mw mh (some ⟨g,o,none⟩) mn mc sc (aE mw mh sc) (bC mw mh sc) ta tn tc w Q:=by
 apply aa_;have hz:=zI hs;have hmn:=(aK s (i:=0) rfl dO (by decide)).len;refine aQ s λmb w s=>?_;refine aQ s λtb w s=>?_;refine lI s 1 rfl (lI s 1 rfl ?_);refine xG s λw s _=>?_;apply lI s 0 rfl;have hz1:0<aE mw mh sc*bC mw mh sc:=Int.mul_pos (by omega) (by omega);have eg:CT mw mh sc 0=bV mw mh sc 0:=if_pos ⟨hs,by omega,hz1⟩;rw[eg];obtain⟨tw,QM⟩:∃tw:Nat,(tw:Int)=aE mw mh sc:=⟨(aE mw mh sc).toNat,by omega⟩;obtain⟨th,hth⟩:∃th:Nat,(th:Int)=bC mw mh sc:=⟨(bC mw mh sc).toNat,by omega⟩;have loop:∀(j y:Nat) (w:World),y+j=th->Sep F W w (av tb 84 [ae (aE mw mh sc),ae (bC mw mh sc),.slice ta tn tc]::av mb 25 [ae mw,ae mh,.slice (some ⟨g,o,none⟩) mn mc]::ak (some ⟨g,o,none⟩) mn mc 5 1 (flat bu (E9 mw mh sc M ts y))::L)->
   EA Q (j+1) (aZ mb) (aZ tb) (bV mw mh sc 0) (bC mw mh sc) y w:=by
  intro j;induction j with
  |zero=>
   intro y w hj s;show AU _ _ _ _ _ _ _ _;rw[AU,bh];have:(y:Int)=bC mw mh sc:=by omega
   rw[this]at s;exact h w (ai (ai s))
  |succ j ih=>
   intro y w hj s;show AU _ _ _ _ _ _ _ _;rw[AU,bN];have s:=ay s;have b1:((y:Int)+1)*aE mw mh sc<=bC mw mh sc*aE mw mh sc:=Int.mul_le_mul_of_nonneg_right (by omega) (by omega);rw[Int.add_mul,Int.one_mul,Int.mul_comm (bC mw mh sc)]at b1;have b2:0<=(y:Int)*aE mw mh sc:=Int.mul_nonneg (by omega) (by omega);have b3:=Int.mul_le_mul hz.1.2 hz.2.1.2 (by omega) (by decide);have hC:=s9 hs ⟨b2,by omega⟩;have hC2:=s9 hs (l:=y*aE mw mh sc+((tw-1:Nat):Int)) ⟨by omega,by omega⟩;have hrow:=HZ hs (y:=y) (x:=tw-1) (by omega);obtain⟨p,hp⟩:∃p:Nat,(p:Int)=bV mw mh sc (y*aE mw mh sc):=⟨(bV mw mh sc (y*aE mw mh sc)).toNat,by have:=hC.2;omega⟩;have hpn:p+tw<=M.length:=by have:=hC2.2;omega
   have e0:bV mw mh sc 0+(y:Int)*mw=p:=by rw[hp];unfold bV;obtain⟨e3,e4⟩:=rT (w:=aE mw mh sc) (x:=0) (by omega);rw[Int.add_zero]at e3 e4;rw[e3,e4];simp[Int.zero_ediv,Int.zero_emod,Int.add_zero,Int.add_mul];omega
   have hyw:0<=(y:Int)*mw/\(y:Int)*mw<=16*1024:=⟨Int.mul_nonneg (by omega) (by have:=hs.1.1;omega),Int.mul_le_mul (by omega) hs.1.1.2 (by have:=hs.1.1;omega) (by decide)⟩;have hg0:=U8 (s9 hs ⟨by omega,hz1⟩);refine lS s 1 rfl (lI s 1 rfl ?_);rw[aG (n:=(y:Int)*mw),aG,e0];have hcap:=Rx s (i:=2) rfl;apply Pd rfl (by omega);rw[fU];refine lS s 0 rfl (lI s 0 rfl (lI s 0 rfl ?_));rw[FP (by omega),aG,wrap_i64 (by push_cast;rw[Int.add_mul];omega) (by push_cast;rw[Int.add_mul];omega)];have hTs:=hT _ (ai (ai (ai s)));have QL:=hTs.len;have ey:((y*tw:Nat):Int)=(y:Int)*aE mw mh sc:=by push_cast;rw[QM]
   refine hTs.mid (q:=y*tw+tw) ey.symm (by push_cast;rw[Int.add_mul,QM];omega) (by omega) (by omega) λa n' c' en hS=>?_;have en:n'=tw:=by omega
   subst en;rw[show y*n'+n'-y*n'=n' by omega]at hS;refine EM (p:=p) dW s rfl rfl rfl rfl (by decide) (i:=2) rfl (hS.src (e:=5) dO A6) (by omega) (by simp[Addr.add]<;>omega) λw s=>?_;rw[show min n' (mn-p)=n' by omega]at s;have est:(flat bu (E9 mw mh sc M ts y)).take (p*1)++(flat bu ((ts.drop (y*n')).take n')).take (n'*1)++(flat bu (E9 mw mh sc M ts y)).drop ((p+n')*1)=flat bu (E9 mw mh sc M ts ((y+1:Nat):Int)):=by rw[<-ard hs hM hts QM (by omega) hp hpn];simp[Y6,Nat.mul_one,List.map_append,List.map_take,List.map_drop];rw[List.take_take,Nat.min_self]
   rw[est]at s;exact ih (y+1) w (by omega) s
 have s:=s;rw[<-apk hs hM]at s;exact⟨th+1,loop th 0 _ (by omega) s⟩
end
structure Er (bs:List Int):Prop where
 len:4<=bs.length
 wh:ja (By bs) (Bz bs)
 tail:∀bs' M,rB (By bs) (Bz bs) (eL (By bs) (Bz bs)).toNat 0 (bs.drop 4) (List.replicate (By bs*Bz bs).toNat 0)=some (bs',M)->bs'=[]
def Er.get {bs:List Int}(h:Er bs):lu bs=(rB (By bs) (Bz bs) (eL (By bs) (Bz bs)).toNat 0 (bs.drop 4) (List.replicate (By bs*Bz bs).toNat 0)).map λq=>⟨By bs,Bz bs,q.2⟩:=by
 rw[lu,if_neg (by have:=h.len;omega),if_pos h.wh];split
 ·rename_i bs' M hT;rw[hT,h.tail _ _ hT,if_pos rfl];rfl
 grind
def aBT:zc T 25=[ae 0,ae 0,.slice none 0 0]:=rfl
def aaD {w:World}{mw mh:Int}{Q:Int->World->Prop}(hm:ja mw mh)(h:Q (eL mw mh) w):EV mw mh w Q:=by apply Zl;apply qX;have:=gS hm.1 hm.2;unfold ZQ adL;rw[if_pos hm,if_pos hm];unfold eL at h this;rw[aG];exact h
def _root_.Go.Sx.Sl.Elf {α:Type}{w0:World}{a:Option Addr}{n c size k:Nat}{f:α->List Value}{xs:List α}{idx:Int}{K:Addr->Prop}(h:Sl w0 a n c size f xs)(hk:idx=k)(hn:k<n)
  (hK:∀p x,xs[k]? =some x->(∀w,Fr No w0 w->∀j v,(f x)[j]? =some v->w.cell? ((p.add (idx.toNat*size)).add j)=some v)->K p):aH idx n (wA a K):=
 h.El hk hn λp x hx hc=>hK p x hx λw fr j v hv=>Fr.cell fr (hc j v hv) id
section
variable {W w w0:World}{L:List As}{lg:wq}{ba:Option Addr}{bn bc:Nat}{bs:List Int}
def apm {Q:Int->Int->Option Addr->Nat->Nat->Value->World->Prop}{mw mh:Int}{mb p2 g o mn mc N:Nat}(hL:jw w0 lg)(hm:ja mw mh)(hN:(N:Int)=eL mw mh){R:Option (List Int×List Int)}(awC:∀bs' M,R=some (bs',M)->bs'=[])
  (hno:R=none->∀tb i co w',Sep No w0 w' (av tb 242 [ae i,.iface 187 (ae co)]::[])->(co=2\/co=3)->Q 0 0 none 0 0 (.iface 240 (.pointer (sZ tb))) w')
  (hyes:∀M,R=some ([],M)->∀w',Sep No w0 w' (ak (some ⟨g,o,none⟩) mn mc 5 1 (flat bu M)::[])->Q mw mh (some ⟨g,o,none⟩) mn mc .nilIface w'):
  ∀(j i:Nat) (a:Option Addr) (n c:Nat) (bs M:List Int) (w:World),i+j=N->Sl w0 a n c 1 bu bs->n<=1000000000->eA bs->(M.length:Int)=mw*mh->rB mw mh j i bs M=R->Sep No w0 w (av mb 25 [ae mw,ae mh,.slice (some ⟨g,o,none⟩) mn mc]::av p2 25 [ae 0,ae 0,.slice none 0 0]::ak (some ⟨g,o,none⟩) mn mc 5 1 (flat bu M)::[])->
   C3 Q (j+1) a n c (aZ p2) (aZ mb) (eL mw mh) i w:=by
 have vJ:=gS hm.1 hm.2;intro j;induction j with
 |zero=>
  intro i a n c bs M w hj hB hn hr hM hR s;show zp _ _ _ _ _ _ _ _ _ _;rw[zp,bh];have hR:some (bs,M)=R:=hR;have hb:=awC bs M hR.symm;have hbl:=hB.len;rw[bh (by grind)];refine lI s 0 rfl (lI s 0 rfl (lS s 0 rfl ?_));refine aew (cm (L':=[_,_]) [1,2] s rfl (by decide)) λw s=>?_;grind
 |succ j ih=>
  intro i a n c bs M w hj hB hn hr hM hR s;show zp _ _ _ _ _ _ _ _ _ _;rw[zp,bN];have hs:dY mw mh i:=⟨hm,by omega,by omega⟩;have hz:=zI hs;refine lI s 0 rfl (lI s 0 rfl ?_);refine vA s λw s _=>?_;have e1:Y7 mw mh i=aE mw mh i:=if_pos hs;have e2:ac2 mw mh i=bC mw mh i:=if_pos hs;rw[e1,e2];have q1:=Int.mul_le_mul hz.1.1 hz.2.1.1 (by decide) (by omega);rw[rB]at hR;have fr:=au s;refine aex (n:=(aE mw mh i*bC mw mh i).toNat) (hL.fr fr) (hB.fr fr) hn hr hz.1 hz.2.1 (by omega) s (λhg co w U0 s _=>?_) λts used hg ta tn tc w hu s _=>?_
  ·rw[hg]at hR;refine aV s λtb w s=>?_;refine sT s 0 rfl λw s=>?_;refine sT s 0 rfl λw s=>?_;refine sT s 0 rfl λw s=>?_;rw[Gx (by omega),cond_true];refine aQ s λeb w s=>?_;refine aew (cm (L':=[_,_]) [3,0] s rfl (by decide)) λw s=>?_;exact hno hR.symm eb i co w s U0
  ·rw[hg]at hR;obtain⟨t1,t2,t3⟩:=anL (by omega) (λx hx=>hr x hx) hg;refine aV s λtb w s=>?_;refine sT s 0 rfl λw s=>?_;refine sT s 0 rfl λw s=>?_;refine ax s (i:=0) rfl rfl rfl λw s=>?_;refine lI s 2 rfl (lI s 2 rfl (lS s 2 rfl ?_));refine lI s 0 rfl (lI s 0 rfl (lS s 0 rfl ?_));refine apl hs hM (by omega) (λw' s'=>aK s' (i:=0) rfl dO (by decide)) (cm (L':=[ak (some ⟨g,o,none⟩) mn mc 5 1 (flat bu M),ak ta tn tc 5 1 (flat bu ts),_,_]) [4,1,2,3] s rfl (by decide)) λw s=>?_;refine hB.lo rfl hu λa' n' c' en hB'=>?_;rw[FP (by omega)];refine ih (i+1) a' n' c' _ _ w (by omega) hB' (by omega) (hr.drop used) (by rw[SI];exact hM) ?_ (cm (L':=[_,_,_]) [2,3,0] s rfl (by decide));exact hR
def amu {Q:Int->Int->Option Addr->Nat->Nat->Value->World->Prop}(hL:jw w0 lg)(hB:Sl w0 ba bn bc 1 bu bs)(FR:bn<=1000000000)(hr:eA bs)(hh:Er bs)
  (hno:lu bs=none->∀tb i co w',Sep No w0 w' (av tb 242 [ae i,.iface 187 (ae co)]::[])->(co=2\/co=3)->Q 0 0 none 0 0 (.iface 240 (.pointer (sZ tb))) w')
  (hyes:∀m,lu bs=some m->∀ma mn mc w',Sep No w0 w' (ak ma mn mc 5 1 (flat bu m.cs)::[])->Q m.w m.h ma mn mc .nilIface w'):ET ba bn bc w0 Q:=by
 apply Zs;have hbl:=hB.len;have h4:=hh.len;refine aV (bt (F:=No)) λp2 w s=>?_;rw[bh];have s:=ay s;refine hB.Elf (k:=0) rfl (by omega) λd0 x0 hx0 c0=>aO (c0 _ (au s) 0 _ rfl) ?_;refine hB.Elf (k:=1) rfl (by omega) λd1 x1 Ni c1=>aO (c1 _ (au s) 0 _ rfl) ?_;refine⟨by decide,?_⟩;refine hB.Elf (k:=2) rfl (by omega) λd2 x2 KY c2=>aO (c2 _ (au s) 0 _ rfl) ?_;refine hB.Elf (k:=3) rfl (by omega) λd3 x3 hx3 c3=>aO (c3 _ (au s) 0 _ rfl) ?_;refine⟨by decide,?_⟩;have r0:=hr x0 (List.mem_of_getElem? hx0);have r1:=hr x1 (List.mem_of_getElem? Ni);have r2:=hr x2 (List.mem_of_getElem? KY);have r3:=hr x3 (List.mem_of_getElem? hx3);have eW:By bs=x0+x1*256:=by rw[By,<-acq hx0,<-acq Ni];omega
 have eH:Bz bs=x2+x3*256:=by rw[Bz,<-acq KY,<-acq hx3];omega
 have i1:ior .i64 (IntKind.wrap .i64 x0) (BO .i64 (IntKind.wrap .i64 x1) 8)=By bs:=by rw[aG,aG,eW];exact O.adM (k:=8) (by decide) (by omega) r1
 have i2:ior .i64 (IntKind.wrap .i64 x2) (BO .i64 (IntKind.wrap .i64 x3) 8)=Bz bs:=by rw[aG,aG,eH];exact O.adM (k:=8) (by decide) (by omega) r3
 rw[i1,i2];refine aV s λmb w s=>?_;have fr:=au s;refine⟨c3 _ fr 0 _ rfl,c2 _ fr 0 _ rfl,c1 _ fr 0 _ rfl,c0 _ fr 0 _ rfl,?_⟩;have hwh:=qK hh.wh;have vJ:=gS hh.wh.1 hh.wh.2;refine sT s 0 rfl λw s=>?_;refine sT s 0 rfl λw s=>?_;refine ax s (i:=0) rfl rfl rfl λw s=>?_;refine lI s 0 rfl (lI s 0 rfl ?_);apply pW;rw[decide_eq_true hh.wh,Bool.not_true,cond_false];refine hB.lo (m:=4) rfl (by omega) λa4 n4 c4 e4 hB4=>?_;refine lI s 0 rfl (lI s 0 rfl ?_);rw[aG];obtain⟨N,hN⟩:∃N:Nat,By bs*Bz bs=N:=⟨(By bs*Bz bs).toNat,by omega⟩;rw[hN];refine sY (bytes:=1) dW s rfl rfl rfl rfl rfl rfl (by decide) dO rfl (λu hu=>A6 0 u hu) rfl rfl (Nat.le_refl _) (by omega) (by simp[maxLen];omega) λg w s=>?_;refine ax s (i:=1) rfl rfl rfl λw s=>?_;refine lI s 1 rfl (lI s 1 rfl ?_);apply aaD hh.wh;have hg:=hh.get;have e0:(By bs*Bz bs).toNat=N:=by omega
 rw[e0]at hg;have ht:=hh.tail;rw[e0]at ht;refine⟨(eL (By bs) (Bz bs)).toNat+1,apm (N:=(eL (By bs) (Bz bs)).toNat) hL hh.wh (by omega) ht (λhR=>hno (by rw[hg,hR];rfl)) (λM hR w' s'=>hyes ⟨By bs,Bz bs,M⟩ (by rw[hg,hR];rfl) _ _ _ w' s') _ 0 a4 n4 c4 (bs.drop 4) (List.replicate N 0) w (by omega) hB4 (by omega) (hr.drop 4) (by rw[List.length_replicate,hN]) rfl (cm (L':=[_,_,_]) [1,2,0] s rfl (by decide))⟩
def acI {F:Nat->Prop}{Q:Int->Int->Option Addr->Nat->Nat->Int->World->Prop}(hL:jw w lg)(hB:Sl w ba bn bc 1 bu bs)(FR:bn<=1000000000)(hr:eA bs)(hh:Er bs)(s0:Sep F W w L)
  (hno:lu bs=none->∀co w',(co=2\/co=3)->Sep F W w' L->Fr No w w'->Q 0 0 none 0 0 co w')
  (hyes:∀m,lu bs=some m->∀ma mn mc w',Sep F W w' (ak ma mn mc 5 1 (flat bu m.cs)::L)->Fr No w w'->Q m.w m.h ma mn mc 0 w'):Gd ba bn bc w Q:=by
 apply aba;refine aV (bt (F:=No)) λp2 w1 s=>?_;have fr0:=au s;refine amu (hL.fr fr0) (hB.fr fr0) FR hr hh (λhg tb i co w1 s' U0=>?_) λm hg ma mn mc w1 s'=>?_
 ·have s:=gg s s';refine aV s λmb w1 s=>?_;refine sT s 0 rfl λw1 s=>?_;refine sT s 0 rfl λw1 s=>?_;refine sT s 0 rfl λw1 s=>?_;refine aV s λr w1 s=>?_;have s:=s;refine ax s (i:=0) rfl rfl rfl λw1 s=>?_;have s:=cm (L':=[av r 187 [ae 0],av tb 242 [ae i,.iface 187 (ae co)],av p2 25 [ae 0,ae 0,.slice none 0 0]]) [0,2,3] s rfl (by decide);refine At.Me s (λw' s'=>lz s' (i:=0) rfl 1 _ rfl) (λw' s'=>(hL.fr (au s')).v1) λw1 s=>?_;have s:=ay s;apply lI s 0 rfl;refine sT s 2 rfl λw1 s=>?_;refine sT s 2 rfl λw1 s=>?_;refine ax s (i:=2) rfl rfl rfl λw1 s=>?_;refine⟨cq s 0 rfl,?_⟩;refine lI s 2 rfl (lI s 2 rfl (lS s 2 rfl ?_));have s':=cm (L':=[]) [] s rfl (by decide);exact hno hg co w1 U0 (gg s0 s') (au s')
 ·have s:=gg s s';refine aV s λmb w1 s=>?_;refine sT s 0 rfl λw1 s=>?_;refine sT s 0 rfl λw1 s=>?_;refine ax s (i:=0) rfl rfl rfl λw1 s=>?_;refine aV s λr w1 s=>?_;have s:=s;refine ax s (i:=0) rfl rfl rfl λw1 s=>?_;apply As.nil;refine lI s 1 rfl (lI s 1 rfl (lS s 1 rfl ?_));refine aew (cm (L':=[av p2 25 [ae 0,ae 0,.slice none 0 0],ak ma mn mc 5 1 (flat bu m.cs)]) [3,2] s rfl (by decide)) λw1 s=>?_;exact hyes m hg ma mn mc w1 (gg s0 s) (au s)
end
end Go.Proofs.YtmegplnmiepfbaaGreatDoor.S
namespace Go.Proofs.YtmegplnmiepfbaaGreatDoor.S
open Go.Sx
def WZ (q:pY):CF:=match q.o with
 |some m=>⟨m.fe,m.fc,0,0,0,0⟩
 |none=>⟨0,0,0,0,0,0⟩
def qJ (q:pY):CF:=(q.past.add (WZ q)).add ⟨0,0,q.sh.b,q.sh.h,q.sh.st,q.sh.ev⟩
def z7 (q:pY):Int:=match q.o with
 |some m=>m.g.ep
 |none=>0
def avz (q:pY):TL:=⟨[],[],q.sh.b,q.sh.h,q.sh.st,q.sh.ev⟩
def ldP (q:pY)(mp:bM):pY:=⟨q.k,avz q,some ⟨OS mp (z7 q),List.replicate (eL mp.w mp.h).toNat 0,0,0,none,0⟩,q.past.add (WZ q)⟩
def N8 (q:pY):pY:=⟨q.k,avz q,q.o.map λm=>⟨m.g,m.S5,m.clean,m.fe,none,m.fc⟩,q.past⟩
def edP (q:pY)(c x:Int):pY:=⟨q.k,q.sh,q.o.map λm=>⟨xJ m.g c x,m.S5,m.clean,m.fe,m.kept,m.fc⟩,q.past⟩
noncomputable def zQ (q:pY)(t sc:Int):pY:=match q.o with
 |some m=>GZ q m t sc
 |none=>q
noncomputable def G5 (q:pY)(ps:List G3):pY:=ps.foldl (λq p=>zQ q p.g p.s) q
def gz.apn (y:gz):uR y=WZ y.p:=by unfold uR WZ gz.p;cases y.o<;>rfl
def gz.all_eq (y:gz):WO y=qJ y.p:=by unfold WO qJ;rw[y.apn];rfl
def gz.amv (y:gz):epO y.o=z7 y.p:=by unfold epO z7 gz.p;cases y.o<;>rfl
def gz.awD (y:gz){x':A2}{mp:bM}(h:x'.p=⟨[],[],y.x.b,y.x.h,y.x.st,y.x.ev⟩):(gz.mk y.k x' (some (al_ y.o mp)) (y.past.add (uR y))).p=ldP y.p mp:=by
 unfold ldP gz.p;simp only[Option.map_some];congr 1
 ·congr 1;unfold kP.p al_ agQ NT;rw[y.amv];simp only[List.map_replicate];rfl
 ·rw[y.apn];rfl
def gz.awE (y:gz){x':A2}{m:kP}(ho:y.o=some m)(h:x'.p=⟨[],[],y.x.b,y.x.h,y.x.st,y.x.ev⟩):(gz.mk y.k x' (some ⟨m.g,m.ms,⟨none,m.f.fe⟩⟩) y.past).p=N8 y.p:=by unfold N8 gz.p;rw[ho,h];rfl
def gz.atA (y:gz){x':A2}(ho:y.o=none)(h:x'.p=⟨[],[],y.x.b,y.x.h,y.x.st,y.x.ev⟩):(gz.mk y.k x' none y.past).p=N8 y.p:=by unfold N8 gz.p;rw[ho,h];rfl
def gz.awF (y:gz){m:kP}(ho:y.o=some m){c x:Int}:(gz.mk y.k y.x (some ⟨xJ m.g c x,m.ms,m.f⟩) y.past).p=edP y.p c x:=by unfold edP gz.p;rw[ho];rfl
def Mk {y:gz}{m:kP}(ho:y.o=some m):y.p.o=some m.p:=by rw[gz.p,ho];rfl
def Tc {y:gz}{mp:xQ}(h:y.p.o=some mp):∃m,y.o=some m/\m.p=mp:=by unfold gz.p at h;simp_all
def field_eq {y:gz}{m:kP}(ho:y.o=some m){t sc:Int}:GZ y.p m.p t sc=zQ y.p t sc:=by rw[zQ,Mk ho]
def Es {q:pY}{mp:xQ}(h:q.o=some mp)(t sc:Int):∃YQ,(zQ q t sc).o=some YQ/\YQ.g=mp.g:=by rw[zQ,h];exact⟨_,rfl,rfl⟩
def G6:∀(ps:List G3) {q:pY} {mp:xQ},q.o=some mp->∃YQ,(G5 q ps).o=some YQ/\YQ.g=mp.g
 |[],q,mp,h=>⟨mp,h,rfl⟩
 |p::ps,q,mp,h=>by obtain⟨m1,h1,e1⟩:=Es h p.g p.s;obtain⟨m2,h2,e2⟩:=G6 ps h1;exact⟨m2,h2,e2.trans e1⟩
structure gQ where
 most:Int
 bR:pY
 us:Option rF
structure W0 where
 code:Int
 d:Int
 dir:Int
 id:Int
 yO:List (Int×Int)
 gone:List Int
def kQ (c:Int):W0:=⟨c,0,5,-1,[],[]⟩
noncomputable def oY (m:bM)(us:List aS):List Int:=us.map λu=>tA m u.goal u.cell
noncomputable def J6 (q:gQ)(m:bM)(y:rF)(o:kS):gQ×W0:=
 if o.k=2 then
  if¬bK m.w m.h o.A then(q,kQ 7)
  else if o.B<1\/255<o.B then(q,kQ 8)
  else if o.B=255/\vK y.us o.A≠-1 then(q,kQ 10)
  else(⟨q.most,edP q.bR o.A o.B,some y⟩,kQ 0)
 else if o.k=3 then
  if¬(bK m.w m.h o.A/\bK m.w m.h o.B)then(q,kQ 7)
  else if cV m o.A=255 then(q,kQ 9)
  else if vL m.w m.h y o.A o.B≠0 then(q,kQ (vL m.w m.h y o.A o.B))
  else(⟨q.most,q.bR,some (OZ y o.A o.B)⟩,⟨0,0,5,y.next,[],[]⟩)
 else if o.k=4 then
  match gE y.us o.A with
  |none=>(q,kQ 12)
  |some u=>if¬bK m.w m.h o.B then(q,kQ 7)else if u.cell=o.B then(⟨q.most,q.bR,some (jN y o.A)⟩,kQ 13)else(⟨q.most,q.bR,some (sU y o.A λu=>⟨u.id,u.cell,o.B⟩)⟩,kQ 0)
 else if o.k=5 then
  match gE y.us o.A with
  |none=>(q,kQ 12)
  |some _=>(⟨q.most,q.bR,some (jN y o.A)⟩,kQ 0)
 else if o.k=6 then
  if bK m.w m.h o.A/\bK m.w m.h o.B then(⟨q.most,zQ q.bR o.A (cU m o.B),some y⟩,⟨0,D m o.A o.B,tA m o.A o.B,-1,[],[]⟩)else(q,kQ 7)
 else
  (⟨q.most,G5 q.bR (mK m.w m.h y.us),some (N5 m.w m.h y (oY m y.us))⟩,⟨0,0,5,-1,(cT m.w m.h [] (y.us.zip (oY m y.us))).2.1,(cT m.w m.h [] (y.us.zip (oY m y.us))).2.2⟩)
noncomputable def ir (q:gQ)(o:kS):gQ×W0:=
 if o.k=0\/EO o=false then(q,kQ 5)
 else if o.k=1 then
  match lu o.m with
  |none=>(q,kQ 6)
  |some mp=>(⟨q.most,ldP q.bR mp,some ⟨q.most,0,[]⟩⟩,kQ 0)
 else if o.k=8 then(⟨q.most,N8 q.bR,q.us⟩,kQ 0)
 else match q.bR.o,q.us with
  |some m,some y=>J6 q m.g.m y o
  |_,_=>(q,kQ 4)
end Go.Proofs.YtmegplnmiepfbaaGreatDoor.S
set_option maxRecDepth 20000
namespace Go.Proofs.YtmegplnmiepfbaaGreatDoor.S
open Go.Sx
attribute [local irreducible] af cv bz bg aA cw bZ St Bx Al App cH cy cD bU aM bF aq bS av ak aW mapA
def iiT:P.underlying 207=some (.map 3 3):=by kernel_rfl
def aBW:zc T 211=[ae 0,ae 0,.slice none 0 0]:=rfl
def are (w h:Int)(ms:List (Int×Int))(us:List aS):Prop:=oW ms/\∀u∈us,fE ms u.id=some (d_ w h u.cell)
structure ajd (m:bM) (us:List aS) (ms:List (Int×Int)):Prop where
 k:oW ms
 v:∀u∈us,∀d,fE ms u.id=some d->d=tA m u.goal u.cell
section
variable {W w w0:World}{L:List As}{r:AG}{y:gz}{lg:wq}{la:Option Addr}{ln lc sp lb db:Nat}{us:List aS}{v0 v2:Value}{g:iC}{loc:List (Int×Int)}
def ids_eq {us:List aS}(h:(us.map (·.id)).Pairwise (·<·)){u v:aS}(hu:u∈us)(hv:v∈us)(e:u.id=v.id):u=v:=by obtain⟨i,hi⟩:=List.mem_iff_getElem?.1 hu;obtain⟨j,hj⟩:=List.mem_iff_getElem?.1 hv;have h1:=Xr h hi;have h2:=Xr h hj;grind
noncomputable abbrev FT (sp:Nat)(v0:Value)(np:Nat)(v2:Value):As:=av sp 72 [v0,.pointer (sZ np),v2]
def arf {vl:Option Addr->Option Addr->Nat->Nat->Option Nat->Option Nat->Option Addr->Nat->Nat->Int->Int->World->Prop}{Q:Option Addr->Nat->Nat->Value->World->Prop}{s0:Option Addr}{fb:Nat}{ia pa ra:Option Addr}{iN ic pn pc rn rc i:Nat}{ids:List Int}{d0:Value}{t sc:Int}
  (hmay:cW g.m)(hm:nZ g.m.w g.m.h us)(hL:are g.m.w g.m.h loc us)(hs:dY g.m.w g.m.h sc)(ht:bK g.m.w g.m.h t)(JS:∀x∈ids,∃u∈us,u.id=x/\u.goal=t/\aC g.m.w g.m.h u.cell=sc)(G7:∀u∈us,iK u.id)(hi:i<=1000000)(hiN:iN<=1000000)
  (hI:∀w',Sep No W w' L->Sl w' ia iN ic 1 one ids)(hR:∀w',Sep No W w' L->Sl w' ra rn rc 1 one (CH g.m t sc))(hF:∀w',Sep No W w' L->r_ w' fb [d0,.slice ra rn rc])
  {dm0:List (Int×Int)}(next:∀J4 w',ajd g.m us J4->(∀x,(fE dm0 x).isSome=true->(fE J4 x).isSome=true)->(∀x∈ids,(fE J4 x).isSome=true)->Sep No W w' (fS fB vI lb loc::fS fB vI db J4::L)->vl s0 la ln lc (some lb) (some db) pa pn pc (pn:Int) ((i+1:Nat):Int) w')
  :∀(j k:Nat) (dm:List (Int×Int)) (w:World),k+j=iN->ajd g.m us dm->(∀x,(fE dm0 x).isSome=true->(fE dm x).isSome=true)->(∀x∈ids.take k,(fE dm x).isSome=true)->Sep No W w (fS fB vI lb loc::fS fB vI db dm::L)->
   sO vl Q (j+1) s0 la ln lc (some lb) (some db) (aZ fb) pa pn pc (pn:Int) i ia iN ic (iN:Int) k w:=by
 intro j;induction j with
 |zero=>
  intro k dm w hj hD Ga hk s;show oK vl Q _ _ _ _ _ _ _ _ _ _ _ _ _ _ _ _ _ _ _;rw[oK,bh,FP (by omega)];have hl:=(hI w (ai (ai s))).len;grind
 |succ j ih=>
  intro k dm w hj hD Ga hk s;show oK vl Q _ _ _ _ _ _ _ _ _ _ _ _ _ _ _ _ _ _ _;rw[oK,bN];have sL:=ai (ai s);have hIw:=hI w sL;have hl:=hIw.len;apply hIw.rE rfl (by omega);have hx:=ig (l:=ids) (i:=k) (by omega);obtain⟨u,hu,e1,e2,e3⟩:=JS _ (List.mem_of_getElem? hx);have yw:ids.take (k+1)=ids.take k++[gi ids k]:=by rw[List.take_add_one,hx];rfl
  generalize gi ids k=x at*;subst e1;have IK:=hm.at_ u hu;have h64:=G7 u hu;have hlr:=j9 IK.1;have hgl:=n6 IK.1;rw[e3]at hlr hgl;apply dJ (hF w sL 1 _ rfl);refine EF (K:=fB) iiT (ab9 w) s (i:=0) rfl hL.1 h64 (λhn=>by rw[hL.2 u hu]at hn;cases hn) λz hz=>?_;rw[hL.2 u hu]at hz;cases hz;apply abx;have hRw:=hR w sL;have hrl:=hRw.len;have hfl:(CH g.m t sc).length=(aE g.m.w g.m.h sc*bC g.m.w g.m.h sc).toNat:=by unfold CH nY;have:=Cw (m:=g.m) (sc:=sc);rw[List.length_map,List.length_range];omega
  apply hRw.rE (k:=(d_ g.m.w g.m.h u.cell).toNat) (by omega) (by omega);rw[ar5 hmay hs ht hlr,hgl,FP (by omega)];refine L6 (x:=u.id) iiT s (i:=1) rfl hD.k h64 λJ4 w hk' En _ s=>?_;refine ih (k+1) J4 w (by omega) ⟨hk',λv hv d hd=>?_⟩ (λx hx=>?_) (λx hx=>?_) s
  ·rw[En]at hd;split at hd
   ·rename_i e;have:=ids_eq hm.ids hv hu e;subst this;cases hd;rw[<-e2]
   ·exact hD.v v hv d hd
  ·rw[En];split
   ·rfl
   ·exact Ga x hx
  ·rw[yw]at hx;rw[En];split
   ·rfl
   ·rename_i hne;rcases List.mem_append.1 hx with hx|hx
    ·exact hk x hx
    ·exact(hne (List.mem_singleton.1 hx)).elim
end
def aje {s d:Int}{N:Nat}:∀{l:List (Int×List Int)},(∀p∈l,p.2.length<=N)->∀p∈zP s d l,p.2.length<=N+1
 |[],_,p,hp=>by simp[zP,List.mem_singleton]at hp;grind
 |q::l,h,p,hp=>by
  have h0:=h q (List.mem_cons_self ..);rw[zP]at hp;split at hp
  ·grind
  ·rcases List.mem_cons.1 hp with rfl|hp
   ·omega
   ·exact aje (λp hp=>h p (List.mem_cons_of_mem _ hp)) p hp
def ajf {g s d:Int}{N:Nat}:∀{st:AJ},(∀q∈st,∀p∈q.2,p.2.length<=N)->∀q∈qt g s d st,∀p∈q.2,p.2.length<=N+1
 |[],_,q,hq,p,hp=>by simp[qt,List.mem_singleton]at hq;grind
 |z::st,h,q,hq,p,hp=>by
  rw[qt]at hq;split at hq
  ·rcases List.mem_cons.1 hq with rfl|hq
   ·exact aje (h z (List.mem_cons_self ..)) p hp
   grind
  ·rcases List.mem_cons.1 hq with rfl|hq
   ·grind
   ·exact ajf (λq hq=>h q (List.mem_cons_of_mem _ hq)) q hq p hp
def atB {w h:Int}{us:List aS}{ps:List A3}{p:A3}(hps:ps.map Mi=mK w h us)(hp:p∈ps):p.ids.length<=us.length:=by
 have key:∀(us:List aS) (st:AJ) (N:Nat),(∀q∈st,∀p∈q.2,p.2.length<=N)->∀q∈us.foldl (S7 w h) st,∀p∈q.2,p.2.length<=N+us.length:=by
  intro us;induction us with
  |nil=>simp_all
  |cons u us ih=>
   intro st N h;have:=ih _ _ (ajf (g:=u.goal) (s:=aC w ‹Int› u.cell) (d:=u.id) h);rw[List.length_cons];intro q hq p hp;have:=this q hq p hp;omega
 have h1:Mi p∈mK w h us:=by grind
 obtain⟨q,hq,h2⟩:=List.mem_flatMap.1 h1;obtain⟨z,hz,e⟩:=List.mem_map.1 h2;have h3:=key us [] 0 (λq hq=>by cases hq) q hq z hz;have e2:z.2=p.ids:=congrArg G3.ids e;grind
section
variable {W w w0:World}{L:List As}{r:AG}{y:gz}{lg:wq}{la:Option Addr}{ln lc sp lb db:Nat}{us:List aS}{v0 v2:Value}{g:iC}{loc:List (Int×Int)}
def ajg {F:Nat->Prop}{ps:List A3}{p:A3}{i:Nat}(s:Sep F W w (AK ps::L))(hp:ps[i]? =some p):Sl w p.q.a p.q.n p.q.c 1 one p.ids:=by have s:=(gR s).2;exact aK s (i:=i) (by rw[List.getElem?_append_left (by grind),List.getElem?_map,hp];rfl) cE (by decide)
def arh {Q:Option Addr->Nat->Nat->Value->World->Prop}{dm:List (Int×Int)}{L':List As}(hm:nZ g.m.w g.m.h us)(G7:∀u∈us,iK u.id)(qk:ln<=1000000)(hD:ajd g.m us dm)(hall:∀u∈us,(fE dm u.id).isSome=true)(hU:∀w',Sep No W w' L'->Sl w' la ln lc 3 gZ us)
  (h:∀da dn dc w',Sep No W w' (ak da dn dc 3 1 (flat one (oY g.m us))::L')->Q da dn dc .nilIface w'):
  ∀(j i:Nat) (oa:Option Addr) (on oc:Nat) (w:World),i+j=ln->on<=i->Sep No W w (ak oa on oc 3 1 (flat one (oY g.m (us.take i)))::fS fB vI db dm::L')->
   sP Q (j+1) (some db) oa on oc la ln lc (ln:Int) i w:=by
 intro j;induction j with
 |zero=>
  intro i oa on oc w hj Cs s;show oM _ _ _ _ _ _ _ _ _ _ _ _;rw[oM,bh];have hl:=(hU w (ai (ai s))).len;rw[List.take_of_length_le (by omega)]at s;exact h oa on oc w (gw s (.cons_cons _ (List.sublist_cons_self _ _)))
 |succ j ih=>
  intro i oa on oc w hj Cs s;show oM _ _ _ _ _ _ _ _ _ _ _ _;rw[oM,bN];refine(hU w (ai (ai s))).El rfl (by omega) λp u hu hc=>?_;have hmem:=List.mem_of_getElem? hu;refine WU hc s λub w s=>?_;apply lI s 0 rfl;refine EF (K:=fB) iiT (ab9 w) s (i:=2) rfl hD.k (G7 u hmem) (λhn=>by grind) λd hd=>?_;apply abx;rw[hD.v u hmem d hd,FP (by omega)];have s:=ai s;refine LF s (by omega) λa' c' w s=>?_;apply ih (i+1) a' (on+1) c' w (by omega) (by omega);have yw:us.take (i+1)=us.take i++[u]:=by rw[List.take_add_one,hu];rfl
  unfold oY at s⊢;grind
def ari {Q:Option Addr->Nat->Nat->Value->World->Prop}{ps:List A3}{pa:Option Addr}{pn pc:Nat}(hLd:jw W lg)(hmay:cW g.m)(hm:nZ g.m.w g.m.h us)(G7:∀u∈us,iK u.id)(qk:ln<=100000)(ayM:are g.m.w g.m.h loc us)(hps:ps.map Mi=mK g.m.w g.m.h us)(hU:∀w',Sep No W w' L->Sl w' la ln lc 3 gZ us)
  (h:∀r' y' da dn dc w',r'.p=r.p->y'.p=G5 y.p (mK g.m.w g.m.h us)->Sep No W w' (ak da dn dc 3 1 (flat one (oY g.m us))::iq r' y'::FT sp v0 r.p v2::L)->Q da dn dc .nilIface w'):
  ∀(j i:Nat) (r':AG) (y':gz) (m':kP) (dm:List (Int×Int)) (w:World),i+j=pn->r'.p=r.p->y'.p=G5 y.p ((mK g.m.w g.m.h us).take i)->y'.o=some m'->m'.g=g->ajd g.m us dm->(∀p∈ps.take i,∀x∈p.ids,(fE dm x).isSome=true)->
   Sep No W w (iq r' y'::FT sp v0 r.p v2::fS fB vI lb loc::fS fB vI db dm::ak pa pn pc 211 3 (flat yN ps)::AK ps::L)->
   oO Q (j+1) (sZ sp) la ln lc (some lb) (some db) pa pn pc (pn:Int) i w:=by
 have IJ:=afD g.m.w g.m.h us;have aBX:ps.length=(mK g.m.w g.m.h us).length:=by grind
 intro j;induction j with
 |zero=>
  intro i r' y' m' dm w hj er ey ho eg hD hd s;show oN _ _ _ _ _ _ _ _ _ _ _ _ _ _;rw[oN,bh];have hpn:=(aK s (i:=4) rfl uU (by decide)).len;rw[List.take_of_length_le (by omega)]at ey hd;have hUw:=hU w (ai (ai (ai (ai (ai (ai s))))));have s:=pk 6 [3,0,1] s;have s:=bG s 3 1;refine⟨ln+1,arh (L':=iq r' y'::FT sp v0 r.p v2::L) hm G7 (by omega) hD (λu hu=>?_) (λw' s'=>hU w' (ai (ai s'))) (λda dn dc w' s'=>h r' y' da dn dc w' er ey s') ln 0 none 0 0 w (by omega) (Nat.zero_le _) s⟩;obtain⟨p,hp,_,_,hx⟩:=WX.2 ⟨u,hu,rfl,rfl,rfl⟩;rw[<-hps]at hp;obtain⟨q,hq,rfl⟩:=List.mem_map.1 hp;exact hd q hq u.id hx
 |succ j ih=>
  intro i r' y' m' dm w hj er ey ho eg hD hd s;show oN _ _ _ _ _ _ _ _ _ _ _ _ _ _;rw[oN,bN];have hP:=aK s (i:=4) rfl uU (by decide);have hpn:=hP.len;have hul:=(hU w (ai (ai (ai (ai (ai (ai s))))))).len;refine hP.El rfl (by omega) λad p hp hc=>?_;have hmem:=List.mem_of_getElem? hp;have htr:(mK g.m.w g.m.h us)[i]? =some (Mi p):=by rw[<-hps,List.getElem?_map,hp];rfl
  have yw:(mK g.m.w g.m.h us).take (i+1)=(mK g.m.w g.m.h us).take i++[Mi p]:=by rw[List.take_add_one,htr];rfl
  have ayN:ps.take (i+1)=ps.take i++[p]:=by rw[List.take_add_one,hp];rfl
  obtain⟨u0,hu0,e1,e2⟩:=amj (List.mem_of_getElem? htr);have IK:=hm.at_ u0 hu0;have ht:bK g.m.w g.m.h p.g:=by rw[<-show u0.goal=p.g from e1];exact IK.2
  have hs:dY g.m.w g.m.h p.s:=by rw[<-show aC g.m.w g.m.h u0.cell=p.s from e2];exact bT IK.1
  have vJ:=gS hm.wh.1 hm.wh.2;have N0:Lr.YG (p.g,p.s):=⟨iK.wf (AH ht),iK.wf (by have:=hs.2;unfold iK;omega)⟩;have JS:∀x∈p.ids,∃u∈us,u.id=x/\u.goal=p.g/\aC g.m.w g.m.h u.cell=p.s:=λx hx=>by obtain⟨u,hu,k1,k2,k3⟩:=WX.1 ⟨Mi p,List.mem_of_getElem? htr,rfl,rfl,hx⟩;exact⟨u,hu,k3,k1,k2⟩
  refine aO (hc 0 _ rfl) (aO (hc 1 _ rfl) (dJ (hc 2 _ rfl) ?_));refine aV s λpb w s=>?_;refine sT s 0 rfl λw s=>?_;refine sT s 0 rfl λw s=>?_;refine ax s (i:=0) rfl rfl rfl λw s=>?_;have s:=ay s;subst eg;refine ah (lP s 2 rfl (lI s 0 rfl (lI s 0 rfl ?_)));rw[<-er]at s⊢;have fin:∀{r2:AG} {y2:gz} {da ra:Option Addr} {dc rc fb:Nat} {w:World},r2.p=r'.p->y2.p=GZ y'.p m'.p p.g p.s->
    Sep No W w (av fb 213 [.slice da (dU m'.g.m p.s).length dc,.slice ra (dU m'.g.m p.s).length rc]::ak ra (dU m'.g.m p.s).length rc 3 1 (flat one (CH m'.g.m p.g p.s))::ak da (dU m'.g.m p.s).length dc 3 1 (flat one (GY m'.g.m p.g p.s))::iq r2 y2::av pb 211 [ae p.g,ae p.s,.slice p.q.a p.q.n p.q.c]::FT sp v0 r'.p v2::fS fB vI lb loc::fS fB vI db dm::ak pa pn pc 211 3 (flat yN ps)::AK ps::L)->
    oL (oO Q (j+1)) Q (sZ sp) la ln lc (some lb) (some db) (aZ pb) (aZ fb) 0 pa pn pc (pn:Int) i w:=λ{r2 y2 da ra dc rc fb w} er2 W1 s=>by
   unfold oL;apply lS s 4 rfl;have hI0:=ajg (pk 10 [9] s) hp;have IM:=hI0.len;have wm:p.q.n<=1000000:=by rw[<-IM];exact Nat.le_trans (atB hps hmem) (by omega)
   have s:=pk 10 [6,7,0,1,9,8,3,5] s;obtain⟨m2,ho2,em2⟩:=Tc (by rw[W1];rfl);have eg2:m2.g=m'.g:=by have:=congrArg xQ.g em2;exact this
   refine⟨p.q.n+1,arf
    hmay hm ayM hs ht JS G7 (by omega) wm (λw' s'=>ajg (ai (ai s')) hp) (λw' s'=>aK s' (i:=1) rfl cE (by decide)) (λw' s'=>lz s' (i:=0) rfl) (λJ4 w' hD' h0 h1 s'=>?_) p.q.n 0 dm w (by omega) hD (λx hx=>hx) (λx hx=>by cases hx) s⟩
   refine ih (i+1) r2 y2 m2 J4 w' (by omega) (er2.trans er) ?_ ho2 eg2 hD' (λq hq x hx=>?_) ?_
   ·rw[W1,yw,field_eq ho,ey];unfold G5;rw[List.foldl_append];rfl
   ·rw[ayN]at hq;rcases List.mem_append.1 hq with hq|hq
    ·exact h0 x (hd q hq x hx)
    ·rw[List.mem_singleton.1 hq]at hx;exact h1 x hx
   ·rw[<-er];exact gh (A:=[_,_,_,_,_,_,_,_]) (B:=[_,_,_,_,_,_]) [6,7,0,1,5,4] s' rfl (by decide)
  constructor
  ·have s:=pk 7 [1,0,2,3,4,5,6] s;refine N2 ho hLd s ht hs N0 λr2 y2 da dc ra rc w er2 W1 s=>?_;refine aV s λfb w s=>?_;refine⟨cq s 4 rfl,cq s 4 rfl,cq s 5 rfl,?_⟩;refine sT s 0 rfl λw s=>?_;refine ax s (i:=0) rfl rfl rfl λw s=>?_;exact fin er2 W1 s
  ·refine aV s λfb w s=>?_;refine⟨cq s 1 rfl,cq s 1 rfl,cq s 3 rfl,?_⟩;have s:=pk 8 [2,0,1,3,4,5,6,7] s;refine N2 ho hLd s ht hs N0 λr2 y2 da dc ra rc w er2 W1 s=>?_;have s:=pk 10 [3,0,1,2,4,5,6,7,8,9] s;refine sT s 0 rfl λw s=>?_;refine ax s (i:=0) rfl rfl rfl λw s=>?_;exact fin er2 W1 s
end
section
variable {W w w0:World}{L:List As}{r:AG}{y:gz}{lg:wq}{la:Option Addr}{ln lc sp:Nat}{us:List aS}{v0 v2:Value}{m:kP}
def aey {Q:Option Addr->Nat->Nat->Value->World->Prop}(hLd:jw W lg)(ho:y.o=some m)(hm:nZ m.g.m.w m.g.m.h us)(G7:∀u∈us,iK u.id)(qk:ln<=100000)(hU:∀w',Sep No W w' L->Sl w' la ln lc 3 gZ us)(s:Sep No W w (iq r y::FT sp v0 r.p v2::L))
  (h:∀r' y' da dn dc w',r'.p=r.p->y'.p=G5 y.p (mK m.g.m.w m.g.m.h us)->Sep No W w' (ak da dn dc 3 1 (flat one (oY m.g.m us))::iq r' y'::FT sp v0 r.p v2::L)->Q da dn dc .nilIface w'):
  xZ (sZ sp) la ln lc w Q:=by
 apply OH;refine ah (lP s 1 rfl ?_);have k:=tB s ho;have hg:=(k.ok.m m ho).g;refine Rf s k λw s _=>?_;refine aag s 207 fB vI λlb w s=>?_;have ayO:∀{us:List aS},ajd m.g.m us []:=⟨List.nodup_nil,λu _ d h=>by cases h⟩;have loop:∀(j i:Nat) (loc:List (Int×Int)) (w:World),i+j=ln->are m.g.m.w m.g.m.h loc (us.take i)->Sep No W w (fS fB vI lb loc::iq r y::FT sp v0 r.p v2::L)->
   uK Q (j+1) (sZ sp) la ln lc m.g.m.w m.g.m.h (some lb) la ln lc (ln:Int) i w:=by
  intro j;induction j with
  |zero=>
   intro i loc w hj hL s;show pT _ _ _ _ _ _ _ _ _ _ _ _ _ _ _;rw[pT,bh];refine aag s 207 fB vI λdb w s=>?_;have hUw:=hU w (ai (ai (ai (ai s))));have hl:=hUw.len;rw[List.take_of_length_le (by omega)]at hL;refine aaC s hUw (by omega) hm λoa on oc ps w htr s _=>?_;have s:=pk 6 [4,5,3,2,0,1] s;exact⟨on+1,ari hLd hg.may hm G7 qk hL htr hU h on 0 r y m [] w (by omega) rfl (by rw[List.take_zero];rfl) ho rfl ayO (λp hp=>by cases hp) s⟩
  |succ j ih=>
   intro i loc w hj hL s;show pT _ _ _ _ _ _ _ _ _ _ _ _ _ _ _;rw[pT,bN];refine(hU w (ai (ai (ai s)))).El rfl (by omega) λp u hu hc=>?_;have hmem:=List.mem_of_getElem? hu;refine WU hc s λub w s=>?_;have s:=ay s;refine lI s 0 rfl (lI s 0 rfl ?_);refine tO s λw s _=>⟨cq s 0 rfl,?_⟩;refine L6 iiT s (i:=1) rfl hL.1 (G7 u hmem) λloc' w hk' En _ s=>?_;rw[FP (by omega)];refine ih (i+1) loc' w (by omega) ⟨hk',λv hv=>?_⟩ (ai s);have yw:us.take (i+1)=us.take i++[u]:=by rw[List.take_add_one,hu];rfl
   rw[yw]at hv;rw[En];by_cases e:v.id=u.id
   ·have hvu:v∈us:=by
     rcases List.mem_append.1 hv with hv|hv
     ·exact List.mem_of_mem_take hv
     ·rw[List.mem_singleton.1 hv];exact hmem
    rw[if_pos e,ids_eq hm.ids hvu hmem e]
   ·rw[if_neg e];rcases List.mem_append.1 hv with hv|hv
    ·exact hL.2 v hv
    ·exact(e (by rw[List.mem_singleton.1 hv])).elim
 exact⟨ln+1,loop ln 0 [] w (by omega) ⟨List.nodup_nil,λu hu=>by cases hu⟩ s⟩
end
structure DE where
 p:Nat
 bR:AG
 cr:CrR
structure yx where
 most:Int
 bR:gz
 cr:Option Hx
def yx.p (y:yx):gQ:=⟨y.most,y.bR.p,y.cr.map (·.y)⟩
def crV (r:DE)(o:Option Hx):Option Addr:=match o with
 |some _=>sZ r.cr.p
 |none=>none
noncomputable def amw (r:DE)(o:Option Hx):List As:=match o with
 |some x=>[fZ r.cr x]
 |none=>[]
noncomputable abbrev ajh (r:DE)(y:yx):As:=FT r.p (ae y.most) r.bR.p (.pointer (crV r y.cr))
noncomputable def awG (r:DE)(y:yx):List As:=ajh r y::iq r.bR y.bR::amw r y.cr
structure aji (y:yx):Prop where
 most:1<=y.most/\y.most<=65536
 no:y.cr=none↔y.bR.o=none
 cr:∀x m,y.cr=some x->y.bR.o=some m->x.w=m.g.m.w/\x.h=m.g.m.h/\x.y.most=y.most
noncomputable def fV (r:DE)(y:yx):As:=aW (aji y) (awG r y)
section
variable {F:Nat->Prop}{W w:World}{L:List As}{r:DE}{y:yx}
def KK (s:Sep F W w (fV r y::L)):aji y/\Sep F W w (ajh r y::iq r.bR y.bR::(amw r y.cr++L)):=gR s
def ajj (s:Sep F W w (fV r y::L))(h:y.cr=none):aji y/\y.bR.o=none/\Sep F W w (FT r.p (ae y.most) r.bR.p (.pointer none)::iq r.bR y.bR::L):=by obtain⟨ok,s⟩:=KK s;refine⟨ok,ok.no.1 h,?_⟩;unfold ajh amw crV at s;grind
def vM {x:Hx}(s:Sep F W w (fV r y::L))(h:y.cr=some x):aji y/\(∃m,y.bR.o=some m/\x.w=m.g.m.w/\x.h=m.g.m.h/\x.y.most=y.most)/\Sep F W w (FT r.p (ae y.most) r.bR.p (.pointer (sZ r.cr.p))::iq r.bR y.bR::fZ r.cr x::L):=by
 obtain⟨ok,s⟩:=KK s;refine⟨ok,?_,?_⟩
 ·cases hn:y.bR.o with
  |none=>rw[ok.no.2 hn]at h;cases h
  |some m=>exact⟨m,rfl,ok.cr x m h hn⟩
 ·unfold ajh amw crV at s;grind
def z8 {most:Int}{n:gz}{x:Hx}{m:kP}(s:Sep F W w (FT r.p (ae most) r.bR.p (.pointer (sZ r.cr.p))::iq r.bR n::fZ r.cr x::L))(hm:1<=most/\most<=65536)(ho:n.o=some m)(hx:x.w=m.g.m.w/\x.h=m.g.m.h/\x.y.most=most):Sep F W w (fV r ⟨most,n,some x⟩::L):=by
 refine dA s ⟨hm,⟨(λe=>by cases e),λe=>?_⟩,λx' m' ex em=>?_⟩
 all_goals grind
def afJ {most:Int}{n:gz}(s:Sep F W w (FT r.p (ae most) r.bR.p (.pointer none)::iq r.bR n::L))(hm:1<=most/\most<=65536)(ho:n.o=none):Sep F W w (fV r ⟨most,n,none⟩::L):=
 dA s ⟨hm,⟨λ_=>ho,λ_=>rfl⟩,λx' m' ex em=>by cases ex⟩
def TP {Q:Option Addr->World->Prop}{k most:Int}(hk:1<=k/\k<=100000)(hm:1<=most/\most<=65536)(s:Sep F W w L)
  (h:∀r y w',y.p=⟨most,⟨k,⟨[],[],0,0,0,0⟩,none,⟨0,0,0,0,0,0⟩⟩,none⟩->Sep F W w' (fV r y::L)->Q (sZ r.p) w'):Ex k most w Q:=by
 apply af8;rw[bh,bh,bh];refine agD hk s λnr x w ex s=>?_;refine aQ s λp w s=>?_;refine h ⟨p,nr,⟨0,⟨0,0,none,0,0,[],[]⟩,⟨0,none,0,0,0⟩⟩⟩ ⟨most,⟨k,x,none,⟨0,0,0,0,0,0⟩⟩,none⟩ w ?_ (afJ s hm rfl);unfold yx.p gz.p;grind
end
abbrev Ml (c:Int):Value:=.iface 108 (ae c)
def G8 (lg:wq)(e:Value)(c:Int):Prop:=(c=0/\e=.nilIface)\/(c≠0/\e=Ml c)\/(c=5/\e=tC lg.a0)
def acJ {lg:wq}{e:Value}{c:Int}{K:Value->Prop}(h:G8 lg e c)(k:K e):dV e K:=by rcases h with⟨_,rfl⟩|⟨_,rfl⟩|⟨_,rfl⟩<;>exact k
def ajk {lg:wq}{w:World}{c:Int}{Q:Value->World->Prop}(h:∀e,G8 lg e c->Q e w):gx c w Q:=by
 apply E3;by_cases e:c=0
 ·rw[dw e,cond_true];exact h _ (.inl ⟨e,rfl⟩)
 ·rw[cB e,cond_false];exact h _ (.inr (.inl ⟨e,rfl⟩))
def rD {lg:wq}{c:Int}(h:c≠0):G8 lg (Ml c) c:=.inr (.inl ⟨h,rfl⟩)
section
variable {W w w0:World}{L:List As}{lg:wq}{r:DE}{y:yx}{x:Hx}{m:kP}{ob:Nat}{kind c:Int}{e:Value}
def aBY:zc T 108=[ae 0]:=rfl
def amx {Q:Int->World->Prop}(hL:jw W lg)(he:G8 lg e c)(hc:c≠0)(s:Sep No W w (av ob 80 [ae kind,e]::L))(h:∀w',Sep No W w' (av ob 80 [ae kind,e]::L)->Q c w'):
  CV (.iface 78 (.pointer (sZ ob))) w Q:=by
 apply adK;refine aV s λrb w s=>?_;have k:=hL.fr (au s);apply mJ k.v0 rfl;have hv:=lz s (i:=1) rfl 1 _ rfl;rcases he with⟨h0,_⟩|⟨_,rfl⟩|⟨h5,rfl⟩
 ·grind
 ·apply S2 (.inl rfl) (.inr rfl) hv (λx y K hk=>avg (by decide) hk);refine Me s (λw' s'=>lz s' (i:=0) rfl 1 _ rfl) (λw' s'=>(hL.fr (au s')).v1) λw s=>?_;exact lI s 0 rfl (h w (ai s))
 ·apply S2 (.inl rfl) (.inl rfl) hv (λx y K hk=>WH hk);rw[cond_true,<-h5];exact h w (ai s)
def amy {Q:Value->World->Prop}{a:Option Addr}{n c:Nat}{bs:List Int}(hL:jw W lg)(hB:∀w',Sep No W w' L->Sl w' a n c 1 bu bs)(hn:n<=1000000000)(hr:eA bs)(hh:Er bs)(o9:∀mp,lu bs=some mp->mp.w*mp.h<=1600)(Yy:z7 y.p.bR<1000000000)
  (s:Sep No W w (fV r y::L))(hno:lu bs=none->∀w',Sep No W w' (fV r y::L)->Q (Ml 6) w')
  (hyes:∀mp,lu bs=some mp->∀r' y' w',r'.p=r.p->y'.p=⟨y.most,ldP y.p.bR mp,some ⟨y.most,0,[]⟩⟩->Sep No W w' (fV r' y'::L)->Q .nilIface w'):
  xV (sZ r.p) a n c w Q:=by
 apply Oo;have ok:=(KK s).1;have hBw:=hB w (ai s);refine acI (hL.fr (au s)) hBw hn hr hh s (λhg co w U0 s _=>?_) λmp hg ma mn mc w s _=>?_
 ·refine aV s λmb w s=>?_;refine sT s 0 rfl λw s=>?_;refine sT s 0 rfl λw s=>?_;refine sT s 0 rfl λw s=>?_;rw[Gx (by omega),cond_true];exact hno hg w (ai s)
 ·have hmay:=afb (λx hx=>hr x hx) hg;refine aV s λmb w s=>?_;refine sT s 0 rfl λw s=>?_;refine sT s 0 rfl λw s=>?_;refine ax s (i:=0) rfl rfl rfl λw s=>?_;rw[Df rfl,cond_false];have s:=ay s;obtain⟨_,so⟩:=KK (pk 3 [2,0,1] s);have so:=so;have s:Sep No W _ (iq r.bR y.bR::ajh r y::av mb 25 [ae mp.w,ae mp.h,.slice ma mn mc]::ak ma mn mc 5 1 (flat bu mp.cs)::L):=
   ck (gw so (.cons_cons _ (.cons_cons _ (List.sublist_append_right _ _)))) (List.Perm.swap _ _ _)
  refine ah (lP s 1 rfl ?_);refine lI s 2 rfl (lI s 2 rfl (lS s 2 rfl ?_));refine aen hmay hmay.bytes (o9 mp hg) (λw' s'=>aK s' (i:=2) rfl dO (by decide)) (by rw[y.bR.amv];exact Yy) s λnr x' w er ex s=>?_;have s:=ay s;refine lI s 2 rfl (lI s 2 rfl (ah (lI s 1 rfl ?_)));refine acA ⟨hmay.w,hmay.h⟩ ok.most s λcr ws w s=>?_;refine ah (ax s (i:=2) rfl rfl rfl λw s=>?_);refine ajk (lg:=lg) λe he=>?_;have he:e=.nilIface:=by
   rcases he with⟨_,h⟩|⟨h,_⟩|⟨h,_⟩
   all_goals grind
  subst he;have s:=gh (A:=[_,_,_,_,_]) (B:=[FT r.p (ae y.most) nr.p (.pointer (sZ cr.p)),_,_]) [2,1,0] s (by rw[er];rfl) (by decide);refine hyes mp hg ⟨r.p,nr,cr⟩ ⟨y.most,_,some ⟨mp.w,mp.h,⟨y.most,0,[]⟩,ws⟩⟩ w rfl ?_ (z8 s ok.most rfl ⟨rfl,rfl,rfl⟩);show gQ.mk _ _ _=gQ.mk _ _ _;rw[y.bR.awD ex];rfl
def Ik {x':Hx}{cr:CrR}(ok:aji y)(hx:x.w=m.g.m.w/\x.h=m.g.m.h/\x.y.most=y.most)(vJ:y.cr=some x)(ho:y.bR.o=some m)(hx':x'.w=x.w/\x'.h=x.h/\x'.y.most=x.y.most)(ec:cr.p=r.cr.p)(s:Sep No W w (fZ cr x'::FT r.p (ae y.most) r.bR.p (.pointer (sZ r.cr.p))::iq r.bR y.bR::L)):
  Sep No W w (fV ⟨r.p,r.bR,cr⟩ ⟨y.most,y.bR,some x'⟩::L):=by
 have s:=gh (A:=[_,_,_]) (B:=[FT r.p (ae y.most) r.bR.p (.pointer (sZ cr.p)),_,_]) [1,2,0] s (by rw[ec];rfl) (by decide);exact z8 s ok.most ho ⟨hx'.1.trans hx.1,hx'.2.1.trans hx.2.1,hx'.2.2.trans hx.2.2⟩
end
def KM {w:World}{Q:Value->World->Prop}(h:Q .nilIface w):gx 0 w Q:=E3 _ _ _ h
def KN {w:World}{c:Int}{Q:Value->World->Prop}(hc:c≠0)(h:Q (Ml c) w):gx c w Q:=by apply E3;grind
def agS {m:bM}(hm:cW m){c:Int}:cV m c=0↔¬bK m.w m.h c:=by
 constructor
 ·intro h hc;have:=LP hm hc;omega
 ·intro h;rw[cV,if_neg λe=>h ⟨⟨hm.w,hm.h⟩,e.1,by rw[<-hm.len];exact e.2⟩]
abbrev Mn (d dir id:Int)(ma:Option Addr)(mn mc:Nat)(ga:Option Addr)(gn gc:Nat):List Value:=[ae 0,ae d,ae dir,ae id,.slice ma mn mc,.slice ga gn gc,.int .u64 0,.int .u64 0,.int .u64 0,.int .u64 0,.int .u64 0,.int .u64 0]
abbrev DoK (lg:wq)(W:World)(rp:Nat)(ab:Nat)(L:List As)(Q:Value->World->Prop)(q:gQ×W0):Prop:=
 ∀r' y' e ma mn mc ga gn gc w',r'.p=rp->y'.p=q.1->G8 lg e q.2.code->Sep No W w' (ak ma mn mc 51 2 (flat lq q.2.yO)::ak ga gn gc 3 1 (flat one q.2.gone)::fV r' y'::av ab 34 (Mn q.2.d q.2.dir q.2.id ma mn mc ga gn gc)::L)->Q e w'
section
variable {W w w0:World}{L:List As}{lg:wq}{r:DE}{y:yx}{x:Hx}{m:kP}{ab:Nat}{A B k:Int}{e:Value}{a:Option Addr}{n c:Nat}
def W2 {Q:Value->World->Prop}{q:gQ×W0}{r':DE}{y':yx}(h:DoK lg W r.p ab L Q q)(er:r'.p=r.p)(ey:y'.p=q.1)(he:G8 lg e q.2.code)(hm:q.2.yO=[])(hg:q.2.gone=[])(s:Sep No W w (fV r' y'::av ab 34 (Mn q.2.d q.2.dir q.2.id none 0 0 none 0 0)::L)):Q e w:=by have s:=bG (bG s 3 1) 51 2;apply h r' y' e none 0 0 none 0 0 w er ey he;rw[hm,hg];exact s
def ajl {Q:Value->World->Prop}{ob:Nat}{v0 v2 v3:Value}(ho:y.bR.o=some m)(vJ:y.cr=some x)(s:Sep No W w (av ob 38 [v0,ae A,v2,v3]::fV r y::L))(h7:¬bK m.g.m.w m.g.m.h A->∀w',Sep No W w' (fV r y::L)->Q (Ml 7) w')(h0:bK m.g.m.w m.g.m.h A->∀w',Sep No W w' (fV r y::L)->Q .nilIface w'):
  sG Q (sZ r.p) (aZ ob) w:=by
 have s:=ay s;obtain⟨ok,_,so⟩:=vM (ai s) vJ;refine ah (lP so 0 rfl (lI s 0 rfl ?_));have kn:=tB (ai so) ho;have hmay:=(kn.ok.m m ho).g.may;apply Ih kn;by_cases hc:bK m.g.m.w m.g.m.h A
 ·rw[cB (λe=>(agS hmay).1 e hc),cond_false];exact h0 hc _ (ai s)
 ·rw[dw ((agS hmay).2 hc),cond_true];exact h7 hc _ (ai s)
def aj6 {Q:Value->World->Prop}(hx:k=2\/k=3->∃x m,y.cr=some x/\y.bR.o=some m)(s:Sep No W w (fV r y::L))
  (h7:∀m,y.bR.o=some m->(k=2/\¬bK m.g.m.w m.g.m.h A)\/(k=3/\¬(bK m.g.m.w m.g.m.h A/\bK m.g.m.w m.g.m.h B))->∀w',Sep No W w' (fV r y::L)->Q (Ml 7) w')
  (h0:(∀m,y.bR.o=some m->(k=2->bK m.g.m.w m.g.m.h A)/\(k=3->bK m.g.m.w m.g.m.h A/\bK m.g.m.w m.g.m.h B))->∀w',Sep No W w' (fV r y::L)->Q .nilIface w'):
  wD (sZ r.p) k A B a n c w Q:=by
 apply Mz;refine aQ s λob w s=>?_;apply lI s 0 rfl;by_cases k3:k=3
 ·rw[dw k3,cond_true];obtain⟨x,m,vJ,ho⟩:=hx (.inr k3);have s:=ay s;obtain⟨ok,_,so⟩:=vM (ai s) vJ;refine ah (lP so 0 rfl (lI s 0 rfl ?_));have kn:=tB (ai so) ho;have hmay:=(kn.ok.m m ho).g.may;apply Ih kn;by_cases hc:bK m.g.m.w m.g.m.h B
  ·rw[cB (λe=>(agS hmay).1 e hc),cond_false];refine ajl ho vJ s (λhA w s=>h7 m ho (.inr ⟨k3,λe=>hA e.1⟩) w s) λhA w s=>h0 (λm' hm'=>?_) w s;grind
  ·rw[dw ((agS hmay).2 hc),cond_true];exact h7 m ho (.inr ⟨k3,λe=>hc e.2⟩) _ (ai s)
 rw[cB k3,cond_false];by_cases k2:k=2
 ·rw[dw k2,cond_true];obtain⟨x,m,vJ,ho⟩:=hx (.inl k2);refine ajl ho vJ s (λhA w s=>h7 m ho (.inl ⟨k2,hA⟩) w s) λhA w s=>h0 (λm' hm'=>?_) w s;grind
 ·rw[cB k2,cond_false];exact h0 (λm' _=>⟨λe=>(k2 e).elim,λe=>(k3 e).elim⟩) _ (ai s)
def amz {Q:Value->World->Prop}(vJ:y.cr=some x)(ho:y.bR.o=some m)(hA:bK m.g.m.w m.g.m.h A)(Yy:z7 y.p.bR<1000000000)(s:Sep No W w (fV r y::L))
  (h8:B<1\/255<B->∀w',Sep No W w' (fV r y::L)->Q (Ml 8) w')(h10:1<=B/\B<=255->B=255/\vK x.y.us A≠-1->∀w',Sep No W w' (fV r y::L)->Q (Ml 10) w')
  (h0:1<=B/\B<=255->¬(B=255/\vK x.y.us A≠-1)->∀r' y' w',r'.p=r.p->y'.p=⟨y.most,edP y.p.bR A B,some x.y⟩->Sep No W w' (fV r' y'::L)->Q .nilIface w'):xW (sZ r.p) A B w Q:=by
 apply Oq;by_cases b1:B<1
 ·grind
 rw[bh b1];by_cases b2:B>255
 ·grind
 rw[bh b2];have hB:1<=B/\B<=255:=by omega
 obtain⟨ok,⟨m',ho',hx⟩,so⟩:=vM s vJ;rw[ho]at ho';cases ho';have aio:m.g.ep<1000000000:=by have e:=y.bR.amv;rw[ho]at e;have e:m.g.ep=z7 y.p.bR:=e;omega
 have b5:¬(B=255/\vK x.y.us A≠-1)->uF Q (sZ r.p) A B w:=λhn=>by refine ah (lP so 0 rfl ?_);refine aem ho aio (jk so) (λe=>(e hA).elim) (λ_ e=>(e hB).elim) λ_ _ w s=>?_;apply KM;refine h0 hB hn r ⟨y.most,⟨y.bR.k,y.bR.x,some ⟨xJ m.g A B,m.ms,m.f⟩,y.bR.past⟩,some x⟩ w rfl ?_ (z8 (pk 3 [1,0,2] s) ok.most rfl hx);show gQ.mk _ _ _=gQ.mk _ _ _;rw[y.bR.awF ho];rfl
 by_cases ayP:B=255
 ·rw[dw ayP,cond_true];refine ah (lP so 0 rfl ?_);have hAx:bK x.w x.h A:=by grind
  have hc:=(rC (ai (ai so))).1;apply acC hAx (ai (ai so));rcases atp hc.may (c:=A)with h1|h1
  all_goals grind
 grind
def aj7 {Q:Int->Value->World->Prop}(vJ:y.cr=some x)(ho:y.bR.o=some m)(Ri:x.y.next<1000000000)(s:Sep No W w (fV r y::L))
  (h9:cV m.g.m A=255->∀w',Sep No W w' (fV r y::L)->Q (-1) (Ml 9) w')
  (G0:cV m.g.m A≠255->vL m.g.m.w m.g.m.h x.y A B≠0->∀w',Sep No W w' (fV r y::L)->Q (-1) (Ml (vL m.g.m.w m.g.m.h x.y A B)) w')
  (h0:cV m.g.m A≠255->vL m.g.m.w m.g.m.h x.y A B=0->∀r' y' w',r'.p=r.p->y'.p=⟨y.most,y.p.bR,some (OZ x.y A B)⟩->Sep No W w' (fV r' y'::L)->Q x.y.next .nilIface w'):wE (sZ r.p) A B w Q:=by
 apply MD;obtain⟨ok,⟨m',ho',hx⟩,so⟩:=vM s vJ;rw[ho]at ho';cases ho';refine ah (lP so 0 rfl ?_);apply Ih (tB (ai so) ho);by_cases arj:cV m.g.m A=255
 ·grind
 rw[cB arj,cond_false];refine ah (lP so 0 rfl ?_);rw[<-hx.1,<-hx.2.1]at G0 h0;refine Yj Ri (pk 3 [2,0,1] so) (λhne w s=>?_) λhz cr ws w ec s=>?_
 ·apply KN hne;apply G0 arj hne w;have s:=Ik ok hx vJ ho ⟨rfl,rfl,rfl⟩ rfl s;have e:(⟨y.most,y.bR,some x⟩:yx)=y:=by rw[<-vJ]
  simp_all
 ·apply KM;exact h0 arj hz ⟨r.p,r.bR,cr⟩ ⟨y.most,y.bR,some ⟨x.w,x.h,OZ x.y A B,ws⟩⟩ w rfl rfl (Ik (x':=⟨x.w,x.h,OZ x.y A B,ws⟩) ok hx vJ ho ⟨rfl,rfl,rfl⟩ ec s)
def aj8 {Q:Value->World->Prop}(hL:jw W lg)(vJ:y.cr=some x)(ho:y.bR.o=some m)(N0:(Lit.int .i64 A).wf=true)(s:Sep No W w (fV r y::av ab 34 (Mn 0 5 (-1) none 0 0 none 0 0)::L))
  (G0:¬(bK m.g.m.w m.g.m.h A/\bK m.g.m.w m.g.m.h B)->∀w',Sep No W w' (fV r y::av ab 34 (Mn 0 5 (-1) none 0 0 none 0 0)::L)->Q (Ml 7) w')
  (h0:bK m.g.m.w m.g.m.h A->bK m.g.m.w m.g.m.h B->∀r' y' w',r'.p=r.p->y'.p=⟨y.most,zQ y.p.bR A (cU m.g.m B),some x.y⟩->Sep No W w' (fV r' y'::av ab 34 (Mn (D m.g.m A B) (tA m.g.m A B) (-1) none 0 0 none 0 0)::L)->Q .nilIface w'):wF (sZ r.p) (sZ ab) A B w Q:=by
 apply MP;obtain⟨ok,⟨m',ho',hx⟩,so⟩:=vM s vJ;rw[ho]at ho';cases ho';refine ah (lP so 0 rfl ?_);refine aeq ho hL (jk so) N0 (λhn w s=>?_) λht hc nr ny w er ey s=>?_
 ·apply KN (by decide);have s:=z8 (pk 3 [1,0,2] s) ok.most ho hx;have e:(⟨y.most,y.bR,some x⟩:yx)=y:=by rw[<-vJ]
  rw[e]at s;exact G0 hn w s
 ·rw[dw rfl,cond_true];refine ah (sT s 3 rfl λw s=>ah (ax s (i:=3) rfl rfl rfl λw s=>?_));apply KM;obtain⟨m2,ho2,em2⟩:=Tc (by rw[ey];rfl);have eg2:m2.g=m.g:=congrArg xQ.g em2;have s:=gh (A:=[_,_,_,_]) (B:=[FT r.p (ae y.most) nr.p (.pointer (sZ r.cr.p)),iq nr ny,fZ r.cr x,_]) [1,0,2,3] s (by rw[er];rfl) (by decide);refine h0 ht hc ⟨r.p,nr,r.cr⟩ ⟨y.most,ny,some x⟩ w rfl ?_ (z8 s ok.most ho2 (by grind));show gQ.mk _ _ _=gQ.mk _ _ _;rw[ey,field_eq ho];rfl
end
def ark {m:bM}(hm:cW m){t x:Int}:0<=tA m t x/\tA m t x<=5:=by
 by_cases hD:D m t x<cj
 ·by_cases hx:x=t
  ·unfold tA;omega
  ·have:=(akA hm hD hx).1;omega
 ·unfold tA;omega
section
variable {W w w0:World}{L:List As}{lg:wq}{r:DE}{y:yx}{x:Hx}{m:kP}{ab:Nat}{A B k:Int}{e:Value}{a:Option Addr}{n c:Nat}
def amA {Q:Value->World->Prop}(hL:jw W lg)(vJ:y.cr=some x)(ho:y.bR.o=some m)(s:Sep No W w (fV r y::av ab 34 (Mn 0 5 (-1) none 0 0 none 0 0)::L))
  (h:∀r' y' ma mn mc ga gn gc w',r'.p=r.p->y'.p=⟨y.most,G5 y.p.bR (mK m.g.m.w m.g.m.h x.y.us),some (N5 m.g.m.w m.g.m.h x.y (oY m.g.m x.y.us))⟩->
   Sep No W w' (ak ma mn mc 51 2 (flat lq (cT m.g.m.w m.g.m.h [] (x.y.us.zip (oY m.g.m x.y.us))).2.1)::ak ga gn gc 3 1 (flat one (cT m.g.m.w m.g.m.h [] (x.y.us.zip (oY m.g.m x.y.us))).2.2)::fV r' y'::av ab 34 (Mn 0 5 (-1) ma mn mc ga gn gc)::L)->Q .nilIface w'):
  xX (sZ r.p) (sZ ab) w Q:=by
 apply OL;obtain⟨ok,⟨m',ho',hx⟩,s⟩:=vM s vJ;rw[ho]at ho';cases ho';obtain⟨cok,cs⟩:=rC (ai (ai s));have D1:=(u6 (ai cs)).1;have o9:=D1.nX;have Xq:=D1.most;have Ri:=D1.Jc;have ash:=cok.may;rw[hx.1,hx.2.1]at ash;have hmay:=((tB (ai s) ho).ok.m m ho).g.may;have G7:∀u∈x.y.us,iK u.id:=λu hu=>by have:=D1.jO u hu;unfold iK;omega
 refine ah (lP s 0 rfl ?_);refine D2 (pk 4 [2,0,1,3] s) λua un uc w s=>?_;have hun:=(aK s (i:=0) rfl z0 (by decide)).len;have s:=pk 5 [3,2,0,1,4] s;refine aey hL ho ash G7 (by omega) (λw' s'=>aK s' (i:=0) rfl z0 (by decide)) s λnr ny da dn dc w er ey s=>?_;apply Mj;refine ah (lP s 2 rfl ?_);have s:=pk 6 [4,0,1,2,5] s;refine aaz (λw' s'=>aK s' (i:=0) rfl cE (by decide)) (by unfold oY;grind) (λd hd=>?_) s λcr ws ma mn mc ga gn gc w ec s=>?_
 ·obtain⟨u,_,rfl⟩:=List.mem_map.1 hd;exact ark hmay
 ·refine ah (sT s 6 rfl λw s=>ah (ax s (i:=6) rfl rfl rfl λw s=>?_));apply KM;obtain⟨m2,ho2,em2⟩:∃m2,ny.o=some m2/\m2.g=m.g:=by obtain⟨YQ,h1,h2⟩:=G6 (mK m.g.m.w m.g.m.h x.y.us) (Mk ho);rw[<-ey]at h1;obtain⟨m2,ho2,e2⟩:=Tc h1;refine⟨m2,ho2,?_⟩;have:=congrArg xQ.g e2;exact this.trans h2
  rw[hx.1,hx.2.1]at s;have s:=gh (A:=[_,_,_,_,_,_,_]) (B:=[FT r.p (ae y.most) nr.p (.pointer (sZ cr.p)),iq nr ny,fZ cr ⟨m.g.m.w,m.g.m.h,N5 m.g.m.w m.g.m.h x.y (oY m.g.m x.y.us),ws⟩,_,_,_]) [5,4,2,0,1,6] s (by rw[er,ec];rfl) (by decide);have s:=z8 (r:=⟨r.p,nr,cr⟩) s ok.most ho2 (by rw[em2];exact⟨rfl,rfl,hx.2.2⟩);refine h ⟨r.p,nr,cr⟩ ⟨y.most,ny,some ⟨m.g.m.w,m.g.m.h,N5 m.g.m.w m.g.m.h x.y (oY m.g.m x.y.us),ws⟩⟩ ma mn mc ga gn gc w rfl ?_ (pk 4 [1,2,0,3] s);show gQ.mk _ _ _=gQ.mk _ _ _;rw[ey];rfl
def atD {o:kS}(h:EO o=true)(hk:o.k≠0):(1<=o.k/\o.k<=8)/\(0<=o.A/\o.A<4294967296)/\(0<=o.B/\o.B<4294967296):=by
 unfold EO at h;rw[if_neg hk]at h;simp[Bool.and_eq_true]at h;obtain⟨h1,h2,h3,_⟩:=h;have h1:=of_decide_eq_true h1;have hA:=HH.1 h2;have hB:=HH.1 h3;have:=ap1 o.k;have pw:∀s:Nat,s<=4->(256:Int)^s<=4294967296:=λs hs=>by
  match s,hs with
  |0,_=>decide
  |1,_=>decide
  |2,_=>decide
  |3,_=>decide
  |4,_=>decide
 grind
def ajm {o:kS}(vJ:y.cr=some x)(ho:y.bR.o=some m)(Ga:o.k≠0)(hm:EO o=true)(h1:o.k≠1)(h8:o.k≠8):ir y.p o=J6 y.p m.g.m x.y o:=by
 have e1:y.p.bR.o=some m.p:=Mk ho;have e2:y.p.us=some x.y:=by show y.cr.map _=_;grind
 rw[ir,if_neg (by grind),if_neg h1,if_neg h8,e1,e2];rfl
def awH {Q:Value->World->Prop}{o:kS}{ob:Nat}(hL:jw W lg)(Ga:o.k≠0)(hmay:EO o=true)(hr:eA o.m)(hn:n<=1000000000)(hM:∀w',Sep No W w' L->Sl w' a n c 1 bu o.m)
  (awI:o.k=1->Er o.m/\∀mp,lu o.m=some mp->mp.w*mp.h<=1600)(Yy:z7 y.p.bR<1000000000)(Ri:∀u,y.p.us=some u->u.next<1000000000)(vJ:o.k≠1->o.k≠8->y.cr≠none)
  (s:Sep No W w (av ob 38 [ae o.k,ae o.A,ae o.B,.slice a n c]::fV r y::av ab 34 (Mn 0 5 (-1) none 0 0 none 0 0)::L))(h:DoK lg W r.p ab L Q (ir y.p o)):
  oP Q (sZ r.p) (sZ ab) (aZ ob) w:=by
 obtain⟨hk,hA,hB⟩:=atD hmay Ga;have arl:iK o.A:=by unfold iK;omega
 have amB:o.k≠1->o.k≠8->∃x m,y.cr=some x/\y.bR.o=some m:=λh1 h8=>by
  have hne:=vJ h1 h8;cases hc:y.cr with
  |none=>exact(hne hc).elim
  |some x=>
   obtain⟨_,⟨m,hm,_⟩,_⟩:=vM (ai s) hc;exact⟨x,m,rfl,hm⟩
 refine lI s 0 rfl (lI s 0 rfl (lI s 0 rfl (lS s 0 rfl ?_)));have s:=jk s;have b25:∀{e:Value} {cd:Int} {w:World},G8 lg e cd->Q e w->fF Q e w:=λhe hq=>by exact acJ he hq
 have e0:G8 lg .nilIface 0:=.inl ⟨rfl,rfl⟩;have fin:∀{q:gQ×W0} {r':DE} {y':yx} {e:Value} {w:World},ir y.p o=q->r'.p=r.p->y'.p=q.1->G8 lg e q.2.code->q.2.yO=[]->q.2.gone=[]->Sep No W w (fV r' y'::av ob 38 [ae o.k,ae o.A,ae o.B,.slice a n c]::av ab 34 (Mn q.2.d q.2.dir q.2.id none 0 0 none 0 0)::L)->fF Q e w:=λ{q r' y' e w} eq er ey he hm hg s=>by subst eq;exact b25 he (W2 h er ey he hm hg (gw s (.cons_cons _ (List.sublist_cons_self _ _))))
 refine aj6 (λhk=>amB (by omega) (by omega)) s (λm ho hb w s=>?_) λhc w s=>?_
 ·refine Rk (acJ (lg:=lg) (rD (by decide)) ?_);obtain⟨x,m',hx,hm'⟩:=amB (by omega) (by omega);rw[ho]at hm';cases hm';have e:ir y.p o=(y.p,kQ 7):=by
   rw[ajm hx ho Ga hmay (by omega) (by omega)];unfold J6;rcases hb with⟨k2,hA⟩|⟨k3,hAB⟩
   ·rw[if_pos k2,if_pos hA]
   ·rw[fU,if_pos k3,if_pos hAB]
  rw[e]at h;exact W2 h rfl rfl (rD (by decide)) rfl rfl (gw s (.cons_cons _ (List.sublist_cons_self _ _)))
 apply Mj;apply lI s 1 rfl;by_cases k1:o.k=1
 ·rw[dw k1,cond_true];obtain⟨hh,o9⟩:=awI k1;apply lS s 1 rfl;have eq:∀q,(match lu o.m with|none=>(y.p,kQ 6)|some mp=>(⟨y.p.most,ldP y.p.bR mp,some ⟨y.p.most,0,[]⟩⟩,kQ 0))=q->ir y.p o=q:=λq e=>by rw[ir,if_neg (by rw[hmay];simp[Ga]),if_pos k1];exact e
  refine amy hL (λw' s'=>hM w' (ai (ai s'))) hn hr hh o9 Yy s (λhg w s=>?_) λmp hg r' y' w er ey s=>?_
  ·exact fin (q:=(y.p,kQ 6)) (eq _ (by rw[hg])) rfl rfl (rD (by decide)) rfl rfl s
  ·exact fin (eq _ (by rw[hg])) er ey e0 rfl rfl s
 rw[cB k1,cond_false];by_cases k8:o.k=8
 ·rw[dw k8,cond_true];have eq:ir y.p o=(⟨y.p.most,N8 y.p.bR,y.p.us⟩,kQ 0):=by rw[ir,if_neg (by rw[hmay];simp[Ga]),if_neg k1,if_pos k8]
  cases DF:y.cr with
  |none=>
   obtain⟨ok,hno,so⟩:=ajj s DF;refine ah (lP so 0 rfl ?_);refine aco hno (jk so) λnr x' w er ex s=>?_;have s:=gh (A:=[_,_]) (B:=[FT r.p (ae y.most) nr.p (.pointer none),_]) [1,0] s (by rw[er];rfl) (by decide);refine fin (r':=⟨r.p,nr,r.cr⟩) (y':=⟨y.most,⟨y.bR.k,x',none,y.bR.past⟩,none⟩) eq rfl ?_ e0 rfl rfl (afJ s ok.most rfl);show gQ.mk _ _ _=gQ.mk _ _ _;rw[y.bR.atA hno ex];show gQ.mk _ _ _=gQ.mk _ _ (y.cr.map _);rw[DF];rfl
  |some x=>
   obtain⟨ok,⟨m,ho,hx⟩,so⟩:=vM s DF;refine ah (lP so 0 rfl ?_);refine acn ho (jk so) λnr x' w er ex s=>?_;have s:=gh (A:=[_,_,_]) (B:=[FT r.p (ae y.most) nr.p (.pointer (sZ r.cr.p)),_,_]) [1,0,2] s (by rw[er];rfl) (by decide);refine fin (r':=⟨r.p,nr,r.cr⟩) (y':=⟨y.most,⟨y.bR.k,x',some ⟨m.g,m.ms,⟨none,m.f.fe⟩⟩,y.bR.past⟩,some x⟩) eq rfl ?_ e0 rfl rfl (z8 s ok.most rfl hx);show gQ.mk _ _ _=gQ.mk _ _ _;rw[y.bR.awE ho ex];show gQ.mk _ _ _=gQ.mk _ _ (y.cr.map _);rw[DF];rfl
 rw[cB k8,cond_false];obtain⟨x,m,DF,ho⟩:=amB k1 k8;have lT:=ajm DF ho Ga hmay k1 k8;have vH:y.p.us=some x.y:=by show y.cr.map _=_;rw[DF];rfl
 have Ri:=Ri x.y vH;unfold J6 at lT;by_cases k2:o.k=2
 ·rw[dw k2,cond_true];rw[if_pos k2]at lT;have hAc:=(hc m ho).1 k2;rw[if_neg (λe=>e hAc)]at lT;refine lI s 1 rfl (lI s 1 rfl ?_);refine amz DF ho hAc Yy s (λhb w s=>?_) (λhb hw w s=>?_) λhb hw r' y' w er ey s=>?_
  ·rw[if_pos hb]at lT;exact fin lT rfl rfl (rD (by decide)) rfl rfl s
  ·rw[fU,if_pos hw]at lT;exact fin lT rfl rfl (rD (by decide)) rfl rfl s
  ·rw[fU,if_neg hw]at lT;exact fin lT er ey e0 rfl rfl s
 rw[cB k2,cond_false];rw[if_neg k2]at lT;by_cases k3:o.k=3
 ·rw[dw k3,cond_true];rw[if_pos k3]at lT;have hAc:=(hc m ho).2 k3;rw[if_neg (λe=>e hAc)]at lT;refine lI s 1 rfl (lI s 1 rfl ?_);refine aj7 DF ho Ri s (λh9 w s=>?_) (λh9 hb w s=>?_) λh9 hz r' y' w er ey s=>?_
  ·rw[if_pos h9]at lT;refine ah (sT s 2 rfl λw s=>?_);exact fin lT rfl rfl (rD (by decide)) rfl rfl s
  ·rw[if_neg h9,if_pos hb]at lT;refine ah (sT s 2 rfl λw s=>?_);exact fin lT rfl rfl (rD hb) rfl rfl s
  ·rw[if_neg h9,if_neg (λe=>e hz)]at lT;refine ah (sT s 2 rfl λw s=>?_);exact fin lT er ey e0 rfl rfl s
 rw[cB k3,cond_false];rw[if_neg k3]at lT;obtain⟨ok,⟨m',ho',hx⟩,so⟩:=vM s DF;rw[ho]at ho';cases ho';have same:∀{w:World} {L:List As},Sep No W w (fZ r.cr x::FT r.p (ae y.most) r.bR.p (.pointer (sZ r.cr.p))::iq r.bR y.bR::L)->Sep No W w (fV r y::L):=λs=>by
  have s:=Ik ok hx DF ho ⟨rfl,rfl,rfl⟩ rfl s;have e:(⟨y.most,y.bR,some x⟩:yx)=y:=by rw[<-DF]
  rw[e]at s;exact s
 by_cases k4:o.k=4
 ·rw[dw k4,cond_true];rw[if_pos k4]at lT;have so:=ay so;refine ah (lP so 0 rfl (lI so 3 rfl (lI so 3 rfl ?_)));rw[<-hx.1,<-hx.2.1]at lT;refine S6 arl (pk 3 [2,0,1] so) (λhg w s=>?_) (λu hu hg w s=>?_) (λu hu hg hcg cr ws w ec s=>?_) λu hu hg hcg cr ws w ec s=>?_
  ·rw[hg]at lT;exact KN (by decide) (fin lT rfl rfl (rD (by decide)) rfl rfl (same s))
  ·rw[hu]at lT;simp only at lT;rw[if_pos hg]at lT;exact KN (by decide) (fin lT rfl rfl (rD (by decide)) rfl rfl (same s))
  ·rw[hu]at lT;simp only at lT;rw[if_neg (λe=>e hg),if_pos hcg]at lT;exact KN (by decide) (fin (r':=⟨r.p,r.bR,cr⟩) lT rfl rfl (rD (by decide)) rfl rfl (Ik (x':=⟨x.w,x.h,jN x.y o.A,ws⟩) ok hx DF ho ⟨rfl,rfl,rfl⟩ ec s))
  ·rw[hu]at lT;simp only at lT;rw[if_neg (λe=>e hg),if_neg hcg]at lT;exact KM (fin (r':=⟨r.p,r.bR,cr⟩) lT rfl rfl e0 rfl rfl (Ik (x':=⟨x.w,x.h,sU x.y o.A λu=>⟨u.id,u.cell,o.B⟩,ws⟩) ok hx DF ho ⟨rfl,rfl,rfl⟩ ec s))
 rw[cB k4,cond_false];rw[if_neg k4]at lT;by_cases k5:o.k=5
 ·rw[dw k5,cond_true];rw[if_pos k5]at lT;have so:=ay so;refine ah (lP so 0 rfl (lI so 3 rfl ?_));refine UK arl (pk 3 [2,0,1] so) (λhg w s=>?_) λu hu cr ws w ec s=>?_
  ·rw[hg]at lT;exact KN (by decide) (fin lT rfl rfl (rD (by decide)) rfl rfl (same s))
  ·rw[hu]at lT;exact KM (fin (r':=⟨r.p,r.bR,cr⟩) lT rfl rfl e0 rfl rfl (Ik (x':=⟨x.w,x.h,jN x.y o.A,ws⟩) ok hx DF ho ⟨rfl,rfl,rfl⟩ ec s))
 rw[cB k5,cond_false];rw[if_neg k5]at lT;by_cases k6:o.k=6
 ·rw[dw k6,cond_true];rw[if_pos k6]at lT;refine lI s 1 rfl (lI s 1 rfl ?_);have s:=pk 3 [0,2,1] s;refine aj8 hL DF ho arl.wf s (λhn w s=>?_) λht hcB r' y' w er ey s=>?_
  ·rw[if_neg hn]at lT;exact fin lT rfl rfl (rD (by decide)) rfl rfl (pk 3 [0,2,1] s)
  ·rw[if_pos ⟨ht,hcB⟩]at lT;exact fin lT er ey e0 rfl rfl (pk 3 [0,2,1] s)
 rw[cB k6,cond_false];rw[if_neg k6]at lT;have k7:o.k=7:=by omega
 rw[dw k7,cond_true];have s:=pk 3 [0,2,1] s;refine amA hL DF ho s λr' y' ma mn mc ga gn gc w er ey s=>?_;rw[lT]at h;exact b25 e0 (h r' y' _ ma mn mc ga gn gc w er ey e0 (pk 5 [0,1,2,3] s))
end
def aBZ:zc T 34=[ae 0,ae 0,ae 0,ae 0,.slice none 0 0,.slice none 0 0,.int .u64 0,.int .u64 0,.int .u64 0,.int .u64 0,.int .u64 0,.int .u64 0]:=rfl
structure Mo (o:kS):Prop where
 jO:eA o.m
 len:o.m.length<=1100000
 load:o.k=1->Er o.m/\∀mp,lu o.m=some mp->mp.w*mp.h<=1600
structure amC (q:gQ):Prop where
 ep:z7 q.bR<1000000000
 nx:∀u,q.us=some u->u.next<1000000000
section
variable {W w w0:World}{L:List As}{lg:wq}{r:DE}{y:yx}{x:Hx}{m:kP}{ab:Nat}{o:kS}{a:Option Addr}{n c:Nat}
def ajo {Q:Value->World->Prop}(hL:jw W lg)(ho:Mo o)(hM:∀w',Sep No W w' L->Sl w' a n c 1 bu o.m)(wm:amC y.p)(s:Sep No W w (fV r y::av ab 34 (Mn 0 5 (-1) none 0 0 none 0 0)::L))(h:DoK lg W r.p ab L Q (ir y.p o)):
  Ab (sZ r.p) o.k o.A o.B a n c (sZ ab) w Q:=by
 apply Sw;have hMw:=hM w (ai (ai s));have hn:n<=1100000:=by have:=hMw.len;have:=ho.len;omega
 refine aQ s λob w s=>?_;apply lI s 0 rfl;have e5:G8 lg (tC lg.a0) 5:=.inr (.inr ⟨rfl,rfl⟩);have v0:∀{w:World} {L:List As},Sep No W w L->w.cell? (aZ 0)=some (tC lg.a0):=λs=>Fr.cell (au s) hL.v0 id;have amD:∀{w:World} {A B C:As} {L:List As},Sep No W w (A::B::C::L)->Sep No W w (B::C::L):=λs=>ai s;by_cases k0:o.k=0
 ·rw[dw k0,cond_true];have e:ir y.p o=(y.p,kQ 5):=by unfold ir;grind
  rw[e]at h;exact mJ (v0 s) rfl (acJ e5 (W2 h rfl rfl e5 rfl rfl (amD s)))
 rw[cB k0,cond_false];refine lI s 0 rfl (lI s 0 rfl (lI s 0 rfl (lS s 0 rfl ?_)));refine O.ah3 s (hM w (ai (ai (ai s)))) ho.jO (by omega) λw s _=>?_;cases hm:EO o with
 |false=>
  have e:ir y.p o=(y.p,kQ 5):=by unfold ir;grind
  rw[e]at h;exact mJ (v0 s) rfl (acJ e5 (W2 h rfl rfl e5 rfl rfl (amD s)))
 |true=>
  rw[Bool.not_true,cond_false];have b5:(o.k≠1->o.k≠8->y.cr≠none)->oP Q (sZ r.p) (sZ ab) (aZ ob) w:=λvJ=>
   awH hL k0 hm ho.jO (by omega) hM ho.load wm.ep wm.nx vJ s h
  cases DF:y.cr with
  |none=>
   obtain⟨ok,hno,so⟩:=ajj (ai s) DF;refine ah (lP so 0 rfl ?_);show cond true _ _;apply lI s 0 rfl;by_cases k1:o.k=1
   ·grind
   ·rw[Gx k1,cond_true];apply lI s 0 rfl;by_cases k8:o.k=8
    ·grind
    ·rw[Gx k8,cond_true];have e:ir y.p o=(y.p,kQ 4):=by
      have e1:y.p.us=none:=by show y.cr.map _=none;rw[DF];rfl
      unfold ir;grind
     rw[e]at h;exact W2 h rfl rfl (rD (by decide)) rfl rfl (amD s)
  |some x=>
   obtain⟨ok,_,so⟩:=vM (ai s) DF;refine ah (lP so 0 rfl ?_);show cond false _ _;exact b5 λ_ _ e=>by rw[DF]at e;cases e
def acK {Q:Int->Int->Int->Int->Int->Int->World->Prop}(s:Sep No W w (fV r y::L))(h:∀w',Sep No W w' (fV r y::L)->Q (qJ y.p.bR).a (qJ y.p.bR).b (qJ y.p.bR).c (qJ y.p.bR).d (qJ y.p.bR).e (qJ y.p.bR).f w'):wB (sZ r.p) w Q:=by apply My;refine aV s λp w s=>?_;obtain⟨ok,so⟩:=KK (ai s);apply PL;refine mN (ah (lP so 0 rfl ?_));obtain⟨_,so⟩:=KK (jk s);have so:=jk so;refine acp so λw s=>?_;have s:=jk s;have s:Sep No W w (fV r y::av p 32 _::L):=dA s ok;rw[y.bR.all_eq];exact aiL (jk s) λw s=>h w (ai s)
def N9 {Q:Option Addr->Nat->Nat->World->Prop}(vJ:y.cr=some x)(s:Sep No W w (fV r y::L))(h:∀a n c w',Sep No W w' (ak a n c 43 3 (flat gZ x.y.us)::fV r y::L)->Q a n c w'):qv (sZ r.p) w Q:=by
 apply MW;obtain⟨ok,⟨m,ho,hx⟩,so⟩:=vM s vJ;apply QF;refine mN (ah (lP so 0 rfl ?_));refine D2 (pk 3 [2,0,1] so) λa n c w s=>?_;have s:=z8 (pk 4 [2,3,1,0] s) ok.most ho hx;have e:(⟨y.most,y.bR,some x⟩:yx)=y:=by rw[<-vJ]
 rw[e]at s;exact h a n c w (jk s)
end
abbrev Te (code d dir id:Int)(ma:Option Addr)(mn mc:Nat)(ga:Option Addr)(gn gc:Nat)(q:CF):List Value:=[ae code,ae d,ae dir,ae id,.slice ma mn mc,.slice ga gn gc]++ael q
section
variable {W w w0:World}{L:List As}{lg:wq}{r:DE}{y:yx}{x:Hx}{m:kP}{ab pb:Nat}{o:kS}{a:Option Addr}{n c:Nat}
def awJ {Q:Int->Int->Int->Int->Option Addr->Nat->Nat->Option Addr->Nat->Nat->Int->Int->Int->Int->Int->Int->World->Prop}{code d dir id:Int}{ma ga:Option Addr}{mn mc gn gc:Nat}
  (s:Sep No W w (fV r y::av ab 34 (Te code d dir id ma mn mc ga gn gc ⟨0,0,0,0,0,0⟩)::av pb 34 (Te 0 0 0 0 none 0 0 none 0 0 ⟨0,0,0,0,0,0⟩)::L))
  (h:∀w',Sep No W w' (fV r y::L)->Q code d dir id ma mn mc ga gn gc (qJ y.p.bR).a (qJ y.p.bR).b (qJ y.p.bR).c (qJ y.p.bR).d (qJ y.p.bR).e (qJ y.p.bR).f w'):
  oQ Q (sZ r.p) (aZ pb) (aZ ab) w:=by
 refine acK s λw s=>?_;generalize qJ y.p.bR=q at h⊢
 iterate 6 refine sT s 1 rfl λw s=>?_
 simp[List.set_cons_zero,List.set_cons_succ,Te,ael,List.cons_append,List.nil_append]at s;refine lI s 1 rfl (lI s 1 rfl (lI s 1 rfl (lI s 1 rfl (lS s 1 rfl (lS s 1 rfl ?_)))));refine lI s 1 rfl (lI s 1 rfl (lI s 1 rfl (lI s 1 rfl (lI s 1 rfl (lI s 1 rfl ?_)))))
 iterate 12 refine ax s (i:=2) rfl rfl rfl λw s=>?_
 simp[List.set_cons_zero,List.set_cons_succ]at s;refine lI s 2 rfl (lI s 2 rfl (lI s 2 rfl (lI s 2 rfl (lS s 2 rfl (lS s 2 rfl ?_)))));refine lI s 2 rfl (lI s 2 rfl (lI s 2 rfl (lI s 2 rfl (lI s 2 rfl (lI s 2 rfl ?_)))));exact h w (gw s (.cons_cons _ (.cons _ (.cons _ (List.Sublist.refl _)))))
def ajp {Q:Int->Int->Int->Int->Option Addr->Nat->Nat->Option Addr->Nat->Nat->Int->Int->Int->Int->Int->Int->World->Prop}(hL:jw W lg)(ho:Mo o)(hM:∀w',Sep No W w' L->Sl w' a n c 1 bu o.m)(wm:amC y.p)(s:Sep No W w (fV r y::L))
  (h:∀r' y' ma mn mc ga gn gc w',r'.p=r.p->y'.p=(ir y.p o).1->Sep No W w' (ak ma mn mc 51 2 (flat lq (ir y.p o).2.yO)::ak ga gn gc 3 1 (flat one (ir y.p o).2.gone)::fV r' y'::L)->
   Q (ir y.p o).2.code (ir y.p o).2.d (ir y.p o).2.dir (ir y.p o).2.id ma mn mc ga gn gc (qJ y'.p.bR).a (qJ y'.p.bR).b (qJ y'.p.bR).c (qJ y'.p.bR).d (qJ y'.p.bR).e (qJ y'.p.bR).f w'):
  jl (sZ r.p) o.k o.A o.B a n c w Q:=by
 apply Sy;refine aQ s λob w s=>?_;refine aV s λpb w s=>?_;refine aV s λab w s=>?_
 iterate 12 refine ax s (i:=0) rfl rfl rfl λw s=>?_
 apply mN;refine ax s (i:=0) rfl rfl rfl λw s=>?_;simp[List.set_cons_zero,List.set_cons_succ]at s;refine lI s 2 rfl (lI s 2 rfl (lI s 2 rfl (lS s 2 rfl ?_)));have s:=pk 4 [3,0,1,2] s;refine ajo hL ho (λw' s'=>hM w' (ai (ai s'))) wm s λr' y' e ma mn mc ga gn gc w er ey he s=>?_;rw[<-er];have asj:∀{w:World} {cd:Int},cd=(ir y.p o).2.code->Sep No W w (ak ma mn mc 51 2 (flat lq (ir y.p o).2.yO)::ak ga gn gc 3 1 (flat one (ir y.p o).2.gone)::fV r' y'::av ab 34 (Te cd (ir y.p o).2.d (ir y.p o).2.dir (ir y.p o).2.id ma mn mc ga gn gc ⟨0,0,0,0,0,0⟩)::av pb 34 (Te 0 0 0 0 none 0 0 none 0 0 ⟨0,0,0,0,0,0⟩)::L)->
   oQ Q (sZ r'.p) (aZ pb) (aZ ab) w:=λ{w cd} ec s=>by
  subst ec;have s:=pk 5 [2,3,4,0,1] s;refine awJ s λw s=>?_;exact h r' y' ma mn mc ga gn gc w er ey (pk 3 [1,2,0] s)
 have tell:∀{e:Value},G8 lg e (ir y.p o).2.code->(ir y.p o).2.code≠0->∀{w:World},Sep No W w (ak ma mn mc 51 2 (flat lq (ir y.p o).2.yO)::ak ga gn gc 3 1 (flat one (ir y.p o).2.gone)::fV r' y'::av ab 34 (Mn (ir y.p o).2.d (ir y.p o).2.dir (ir y.p o).2.id ma mn mc ga gn gc)::av pb 34 (Te 0 0 0 0 none 0 0 none 0 0 ⟨0,0,0,0,0,0⟩)::av ob 38 [ae o.k,ae o.A,ae o.B,.slice a n c]::L)->
   af .i64 (aZ ob) w λk=>dV e λp=>Bx [ae k,p] 80 w λb w=>CV (.iface 78 (.pointer (some b))) w λr w=>St (aZ ab) (ae r) w λw=>oQ Q (sZ r'.p) (aZ pb) (aZ ab) w:=λ{e} he hne {w} s=>by
  refine lI s 5 rfl (acJ he ?_);refine aQ s λb w s=>?_;refine amx hL he hne s λw s=>?_;refine ax s (i:=4) rfl rfl rfl λw s=>?_;exact asj rfl (pk 7 [1,2,3,4,5] s)
 rcases he with⟨h0,rfl⟩|⟨hne,rfl⟩|⟨h5,rfl⟩
 ·apply Mj;exact asj h0.symm (pk 6 [0,1,2,3,4] s)
 ·exact Rk (tell (.inr (.inl ⟨hne,rfl⟩)) hne s)
 ·exact Rk (tell (.inr (.inr ⟨h5,rfl⟩)) (by rw[h5];decide) s)
end
end Go.Proofs.YtmegplnmiepfbaaGreatDoor.S
namespace Go.Proofs.YtmegplnmiepfbaaGreatDoor.S.O
open Go.Sx
def Rl {w:World}{x:Int}{Q:Int->World->Prop}(hx:0<=x/\x<256)(h:Q (Kc x) w):qx x w Q:=by
 apply MZ;unfold Kc at h;refine⟨by decide,?_⟩;rw[Int.tmod_eq_emod_of_nonneg hx.1];by_cases h7:x%8=7
 ·grind
 ·rw[show(x%8==7)=false by grind,cond_false];rw[if_neg h7]at h;by_cases h1:x<160
  ·rw[bN h1];rw[if_pos h1]at h;refine⟨by decide,?_⟩;rw[Int.tmod_eq_emod_of_nonneg hx.1,wrap_u8 (by omega) (by omega)];exact h
  grind
def agT:zc T 25=[ae 0,ae 0,.slice none 0 0]:=rfl
def acL:zc T 84=[ae 0,ae 0,.slice none 0 0]:=rfl
def amE:zc T 38=[ae 0,ae 0,ae 0,.slice none 0 0]:=rfl
def agU:zc T 90=[ae 0,ae 0,ae 0]:=rfl
attribute [local irreducible] af cv bz bg aA cw bZ St Bx Al App cH cy cD bU aM bF aq bS av ak aW mapA
def ak7 (a b:Int):DG a b=min a b:=by unfold DG;omega
section
variable {F:Nat->Prop}{W w w0:World}{L:List As}{a:Option Addr}{n c:Nat}{cs:List Int}
def amF {mw mh:Int}{Q:Bool->World->Prop}(hw:1<=mw/\mw<=1024)(hh:1<=mh/\mh<=1024)(h:Q true w):xY mw mh w Q:=by apply OM;apply GB;rw[bN hw];apply GB;grind
def Il {mw mh:Int}{Q:Int->Int->World->Prop}(hw:1<=mw/\mw<=1024)(hh:1<=mh/\mh<=1024)(h:Q (cP mw) (cP mh) w):kU mw mh w Q:=by apply JM;apply amF hw hh;refine⟨by decide,by decide,?_⟩;simp(disch:=omega) only[wrap_i64,Int.tdiv_eq_ediv_of_nonneg];rw[show mw+16-1=mw+15 by omega,show mh+16-1=mh+15 by omega];exact h
def Mp {mw mh:Int}{Q:Int->World->Prop}(hw:1<=mw/\mw<=1024)(hh:1<=mh/\mh<=1024)(h:Q (eL mw mh) w):pE mw mh w Q:=by apply Ly;apply Il hw hh;have:=gS hw hh;unfold eL at this h;rw[aG];exact h
def YR {mw mh s:Int}{Q:Int->Int->World->Prop}(hw:1<=mw/\mw<=1024)(hh:1<=mh/\mh<=1024)(hs:0<=s/\s<eL mw mh)(h:∀w',Fr No w w'->Q (aE mw mh s) (bC mw mh s) w'):qy mw mh s w Q:=by apply MT;have hc:=gS hw hh;have hx:=IQ hw hh hs;have ha:=Fl hw;apply Mp hw hh;rw[aG];apply GB;rw[decide_eq_true (by omega),Bool.not_true,cond_false];apply Il hw hh;refine⟨by omega,by omega,?_⟩;have:=h w.drew (Fr.refl);rw[Int.tmod_eq_emod_of_nonneg hs.1,Int.tdiv_eq_ediv_of_nonneg hs.1];simp(disch:=omega) only[wrap_i64];rw[ak7,ak7];exact this
def agE {mw mh s l:Int}{Q:Int->World->Prop}(hw:1<=mw/\mw<=1024)(hh:1<=mh/\mh<=1024)(hs:0<=s/\s<eL mw mh)(hl:0<=l/\l<aE mw mh s*bC mw mh s)(h:∀w',Fr No w w'->Q (bV mw mh s l) w'):
  uj mw mh s l w Q:=by
 apply Kn;have hx:=IQ hw hh hs;have ha:=Fl hw;have hz:=qZ hw hh hs;have b:=Int.mul_le_mul hz.1.2 hz.2.2 (by omega) (by decide);refine YR hw hh hs λw f=>?_;rw[aG (n:=aE mw mh s*bC mw mh s),aG];apply GB;rw[decide_eq_true (by omega),Bool.not_true,cond_false];apply Il hw hh;refine⟨by omega,by omega,by omega,by omega,?_⟩;have:=h w.drew f;have e1:0<=l/aE mw mh s/\l/aE mw mh s<bC mw mh s:=⟨Int.ediv_nonneg hl.1 (by omega),Int.ediv_lt_of_lt_mul (by omega) (by grind)⟩;have e2:=Int.emod_nonneg l (b:=aE mw mh s) (by omega);have e3:=Int.emod_lt_of_pos l (b:=aE mw mh s) (by omega);rw[Int.tmod_eq_emod_of_nonneg hs.1,Int.tdiv_eq_ediv_of_nonneg hs.1,Int.tmod_eq_emod_of_nonneg hl.1,Int.tdiv_eq_ediv_of_nonneg hl.1];have y0:0<=16*(s/cP mw)+l/aE mw mh s/\16*(s/cP mw)+l/aE mw mh s<=1040:=by omega
 have m1:0<=(16*(s/cP mw)+l/aE mw mh s)*mw:=Int.mul_nonneg y0.1 (by omega);have m2:=Int.mul_le_mul y0.2 hw.2 (by omega) (by decide);simp(disch:=omega) only[wrap_i64];exact this
def amG {mw mh:Int}{t6 t:Nat}{Q:Int->Int->Option Addr->Nat->Nat->World->Prop}(hA:Sl w0 a n c 1 bu cs)(hcs:eA cs)(hn:n<9223372036854775808)(hw:1<=mw/\mw<=40)(hh:1<=mh/\mh<=40)
  (h:∀ra rn rc w',Sep No w0 w' [ak ra rn rc 5 1 (flat bu (Nk (mw*mh).toNat cs))]->Q mw mh ra rn rc w'):
  ∀(m i rc:Nat) (ra:Option Addr) (w:World),((i+m:Nat):Int)=mw*mh->
   Sep No w0 w [av t 25 [ae mw,ae mh,.slice ra i rc],ak ra i rc 5 1 (flat bu (Nk i cs)),av t6 25 [ae 0,ae 0,.slice none 0 0]]->jX Q (m+1) a n c (aZ t6) (aZ t) i w:=by
 have q2:=Int.mul_le_mul hw.2 hh.2 (by omega) (by decide);have hlen:=hA.len;intro m;induction m with
 |zero=>
  intro i rc ra w hi s;show zF Q (jX Q 0) _ _ _ _ _ _ _;apply dy s (i:=0) rfl rfl rfl;apply dy s (i:=0) rfl rfl rfl;rw[aG,bh];apply dy s (i:=0) rfl rfl rfl;apply dy s (i:=0) rfl rfl rfl;apply g6 s (i:=0) rfl rfl rfl;refine sT s 2 rfl λw1 s=>?_;refine sT s 2 rfl λw2 s=>?_;refine ax s (i:=2) rfl rfl rfl λw3 s=>?_;apply dy s (i:=2) rfl rfl rfl;apply dy s (i:=2) rfl rfl rfl;apply g6 s (i:=2) rfl rfl rfl;have e:i=(mw*mh).toNat:=by omega
  rw[e]at s⊢;exact h _ _ _ w3 (gw s (.cons _ (.cons_cons _ (.cons _ .slnil))))
 |succ m ih=>
  intro i rc ra w hi s;show zF Q (jX Q (m+1)) _ _ _ _ _ _ _;apply dy s (i:=0) rfl rfl rfl;apply dy s (i:=0) rfl rfl rfl;rw[aG,bN];have b9:∀x:Int,0<=x/\x<256->Kc x=F6 cs i->sR (jX Q (m+1)) Q a n c (aZ t6) (aZ t) i x w:=by
   intro x hx hm;have s0:Sep No w0 w.drew _:=s;apply g6 s0 (i:=0) rfl rfl rfl;apply Rl hx;rw[hm];refine⟨cR s0 (i:=0) rfl rfl rfl,?_⟩;refine aQ s0 λb w1 s1=>?_;refine⟨cR s1 (i:=1) rfl rfl rfl,?_⟩;have src:Src w1 (sZ b) 1 1 [.int .u8 (F6 cs i)]:=⟨rfl,(λu hu=>by rw[List.mem_singleton.1 hu];rfl),λj u hj=>by rw[cu,Nat.zero_add];exact cR s1 (i:=0) rfl rfl hj⟩;refine iw dW s1 (i:=2) (bytes:=1) rfl rfl rfl rfl rfl rfl (by decide) rfl src (by simp[maxLen];omega) (by omega) (λe=>by cases e) λa1 c1 w2 s2=>?_;have e:flat bu (Nk i cs)++[.int .u8 (F6 cs i)]=flat bu (Nk (i+1) cs):=by unfold Nk;rw[List.range_succ,List.map_append,gd];rfl
   have s2:=ai s2;refine ax s2 (i:=0) rfl rfl rfl λw3 s3=>?_;rw[aG];grind
  by_cases O_:0<n
  ·rw[bN];refine⟨by omega,by omega,?_⟩;have d1:0<=(i:Int)/(n:Int):=Int.ediv_nonneg (by omega) (by omega);have d2:(i:Int)/(n:Int)<=i:=Int.ediv_le_self _ (by omega);rw[Int.tdiv_eq_ediv_of_nonneg (by omega),aG (n:=(i:Int)/(n:Int)),aG (n:=(i:Int)/(n:Int)*5),aG,Int.tmod_eq_emod_of_nonneg (by omega)];have ej:((i:Int)+(i:Int)/(n:Int)*5)%(n:Int)=(((i+i/n*5)%n:Nat):Int):=by grind
   rw[ej];have hj:(i+i/n*5)%n<n:=Nat.mod_lt _ O_;apply Sl.Dq (hA.fr (au s)) rfl hj;apply b9 _ (hcs _ (fG (by omega)));unfold F6;grind
  ·rw[bh];apply b9 1 (by decide);unfold F6;grind
def YS {w1 h1:Int}{Q:Int->Int->Option Addr->Nat->Nat->World->Prop}(s:Sep F W w0 L)(hA:Sl w0 a n c 1 bu cs)(hcs:eA cs)(hn:n<9223372036854775808)
  (h:∀ra rn rc w',Sep F W w' (ak ra rn rc 5 1 (flat bu (vN w1 h1 cs).cs)::L)->Fr No w0 w'->Q (vN w1 h1 cs).w (vN w1 h1 cs).h ra rn rc w'):qw w1 h1 a n c w0 Q:=by
 apply M0;refine aV (F:=No) bt λt6 w1' s1=>?_;apply cI (by decide) (by decide) (by decide);have r1:=ko (n:=w1) (lo:=1) (hi:=40) (by decide);apply cI (by decide) (by decide) (by decide);have r2:=ko (n:=h1) (lo:=1) (hi:=40) (by decide);refine aV s1 λt w2 s2=>?_;refine sT s2 0 rfl λw3 s=>?_;refine sT s 0 rfl λw4 s=>?_;refine ax s (i:=0) rfl rfl rfl λw5 s5=>?_;have s6:=ck (bG s5 5 1) (List.Perm.swap ..);have q1:=Int.mul_le_mul r1.1 r2.1 (by decide) (by omega);refine⟨(gj w1 1 40*gj h1 1 40).toNat+1,amG hA hcs hn r1 r2 (λra rn rc w' s'=>?_) _ 0 0 none w5 (by omega) s6⟩;exact h ra rn rc w' (dQ ‹Sep F W w0 L› s' (i:=0) rfl) (au s')
def agF {m:bM}{si:Nat}{Q:Int->Int->Option Addr->Nat->Nat->World->Prop}(s0:Sep F W w0 L)(hA:Sl w0 a n c 1 bu m.cs)(hm:cW m)(hs:(si:Int)<eL m.w m.h)
  (h:∀ra rn rc w',Sep F W w' (ak ra rn rc 5 1 (flat bu (qu m si))::L)->Fr No w0 w'->Q (aE m.w m.h si) (bC m.w m.h si) ra rn rc w'):t_ m.w m.h a n c si w0 Q:=by
 apply Ko;have TA:0<=(si:Int)/\(si:Int)<eL m.w m.h:=⟨by omega,hs⟩;have hz:=qZ hm.w hm.h TA;have b1:=Int.mul_le_mul hz.1.1 hz.2.1 (by decide) (by omega);have b2:=Int.mul_le_mul hz.1.2 hz.2.2 (by omega) (by decide);have hlen:=hA.len;have hml:=hm.len;have s:=bt (F:=No) (w:=w0);refine aQ s λmb w s=>?_;refine aV s λp4 w s=>?_;apply lI s 1 rfl;apply lI s 1 rfl;refine YR hm.w hm.h TA λw f=>?_;have s:=bX s f;refine aV s λt w s=>?_;refine sT s 0 rfl λw s=>?_;refine sT s 0 rfl λw s=>?_;refine ax s (i:=0) rfl rfl rfl λw s=>?_;have loop:∀(k i rc:Nat) (ra:Option Addr) (w:World),((i+k:Nat):Int)=aE m.w m.h si*bC m.w m.h si->
   Sep No w0 w [ak ra i rc 5 1 (flat bu ((List.range i).map λl:Nat=>gi m.cs (bV m.w m.h si l).toNat)),av t 84 [ae (aE m.w m.h si),ae (bC m.w m.h si),.slice ra i rc],av p4 84 [ae 0,ae 0,.slice none 0 0],av mb 25 [ae m.w,ae m.h,.slice a n c]]->
   kB Q (k+1) si (aZ mb) (aZ p4) (aE m.w m.h si) (bC m.w m.h si) (aZ t) i w:=by
  intro k;induction k with
  |zero=>
   intro i rc ra w hi s;show m_ Q (kB Q 0) _ _ _ _ _ _ _ _;rw[m_,aG,bh];apply lI s 1 rfl;apply lI s 1 rfl;apply lS s 1 rfl
   (refine ax s (i:=2) rfl rfl rfl λw s=>?_)
   (refine ax s (i:=2) rfl rfl rfl λw s=>?_)
   (refine ax s (i:=2) rfl rfl rfl λw s=>?_)
   apply lI s 2 rfl;apply lI s 2 rfl;apply lS s 2 rfl;have e:i=(aE m.w m.h si*bC m.w m.h si).toNat:=by omega
   have e2:((List.range i).map λl:Nat=>gi m.cs (bV m.w m.h si l).toNat)=qu m si:=by unfold qu;rw[e]
   rw[e2]at s;exact h _ _ _ _ (dQ s0 s (i:=0) rfl) (au s)
  |succ k ih=>
   intro i rc ra w hi s;show m_ Q (kB Q (k+1)) _ _ _ _ _ _ _ _;rw[m_,aG,bN];have s:=ay s;have hl:0<=(i:Int)/\(i:Int)<aE m.w m.h si*bC m.w m.h si:=by omega
   have hg:=F7 hm.w hm.h TA hl;apply lS s 1 rfl;apply lS s 3 rfl;apply lI s 3 rfl;apply lI s 3 rfl;refine agE hm.w hm.h TA hl λw f=>?_;have s:=bX s f;apply And.intro (cq s 3 rfl);apply And.intro (cq s 1 rfl);obtain⟨g,hgk⟩:∃g:Nat,bV m.w m.h si i=g:=⟨(bV m.w m.h si i).toNat,by omega⟩;have heq:gi m.cs g=gi m.cs (bV m.w m.h si i).toNat:=by rw[hgk,Int.toNat_natCast]
   rw[hgk];apply Sl.Dq (hA.fr (au s)) rfl (by omega);refine aQ s λb w1 s1=>?_;refine⟨cq s1 2 rfl,?_⟩;have src:Src w1 (sZ b) 1 1 [.int .u8 (gi m.cs g)]:=⟨rfl,(λu hu=>by rw[List.mem_singleton.1 hu];rfl),λj u hj=>by rw[cu,Nat.zero_add];exact cR s1 (i:=0) rfl rfl hj⟩;refine iw dW s1 (i:=1) (bytes:=1) rfl rfl rfl rfl rfl rfl (by decide) rfl src (by simp[maxLen];omega) (by omega) (λe=>by cases e) λa1 c1 w2 s2=>?_;have e:flat bu ((List.range i).map λl:Nat=>gi m.cs (bV m.w m.h si l).toNat)++[.int .u8 (gi m.cs g)]=flat bu ((List.range (i+1)).map λl:Nat=>gi m.cs (bV m.w m.h si l).toNat):=by rw[heq,List.range_succ,List.map_append,gd];rfl
   rw[e]at s2;refine ax (ai s2) (i:=1) rfl rfl rfl λw3 s3=>?_;rw[aG];exact ih (i+1) c1 a1 w3 (by omega) s3
 exact⟨(aE m.w m.h si*bC m.w m.h si).toNat+1,loop _ 0 0 none w (by omega) (bG s 5 1)⟩
def aj9 {Q:Option Addr->Nat->Nat->World->Prop}(s0:Sep F W w0 L)(hA:Sl w0 a n c 1 bu cs)(hcs:eA cs)(hn:n<=100000)
  (h:∀ra rn rc w',Sep F W w' (ak ra rn rc 5 1 (flat bu (tX cs))::L)->Fr No w0 w'->Q ra rn rc w'):wG a n c w0 Q:=by
 apply MS;have hlen:=hA.len;refine aQ (bt (F:=No)) λb w s=>?_;have s:=arM s;have inner:∀(P3:Option Addr->Nat->Nat->Option Addr->Nat->Nat->Int->World->Prop) (x:Int) (i:Nat) (oa:Option Addr) (on oc:Nat) (out:List Int),cs[i]? =some x->on<=1000000->
   (∀a' c' w',Sep No w0 w' [ak a' (on+2) c' 5 1 (flat bu (out++[((lead x (cs.drop (i+1)):Nat):Int)%256,x]))]->P3 a n c a' (on+2) c' ((i+1+lead x (cs.drop (i+1)):Nat):Int) w')->
   ∀(k r:Nat) (w:World),i+1+r+k=n->lead x (cs.drop (i+1))=r+lead x (cs.drop (i+1+r))->Sep No w0 w [ak oa on oc 5 1 (flat bu out)]->l9 P3 Q (k+1) a n c oa on oc i ((r+1:Nat):Int) w:=by
  intro P3 x i oa on oc out hx Cs next
  have hix:i<n:=by grind
  have hgx:gi cs i=x:=by rw[ig (by omega)]at hx;grind
  have over:∀(r:Nat) (w:World),i+1+r<=n->lead x (cs.drop (i+1))=r->Sep No w0 w [ak oa on oc 5 1 (flat bu out)]->sQ P3 Q a n c oa on oc i ((r+1:Nat):Int) w:=by
   intro r w hr hl s;apply Sl.Dq (hA.fr (au s)) rfl hix;rw[hgx,aG,aG,wrap_u8'];refine aQ s λb w s=>?_;have e0:((r+1:Nat):Int)-1=(r:Int):=by omega
   rw[e0]at s;have src:Src w (sZ b) 2 1 [.int .u8 ((r:Int)%256),.int .u8 x]:=⟨rfl,(λu hu=>by simp[List.mem_cons,List.not_mem_nil,or_false]at hu;rcases hu with rfl|rfl<;>rfl),λj u hj=>by rw[cu,Nat.zero_add];exact cR s (i:=0) rfl rfl hj⟩;refine iw dW s (i:=1) (bytes:=1) rfl rfl rfl rfl rfl rfl (by decide) rfl src (by simp[maxLen];omega) (by omega) (λe=>by cases e) λa1 c1 w1 s1=>?_;have e:flat bu out++[.int .u8 ((r:Int)%256),.int .u8 x]=flat bu (out++[(r:Int)%256,x]):=by rw[gd];rfl
   rw[e]at s1;rw[hl]at next
   have:=next a1 c1 w1 (ai s1)
   grind
  intro k;induction k with
  |zero=>
   intro r w hr hl s;show oR P3 Q (l9 P3 Q 0) _ _ _ _ _ _ _ _ _;rw[oR,aG,bh];have e:cs.drop (i+1+r)=[]:=List.drop_eq_nil_of_le (by omega);rw[e]at hl
   first|exact over r w (by omega) hl s|exact over r _ (by omega) hl (ay s)
  |succ k ih=>
   intro r w hr hl s;show oR P3 Q (l9 P3 Q (k+1)) _ _ _ _ _ _ _ _ _;unfold oR;have ei:(i:Int)+((r+1:Nat):Int)=((i+1+r:Nat):Int):=by push_cast;omega
   rw[aG,bN,ei];have s:=ay s;have hB:=hA.fr (au s);apply Sl.Dq hB rfl (by omega);apply Sl.Dq hB rfl hix;have hd:cs.drop (i+1+r)=gi cs (i+1+r)::cs.drop (i+1+r+1):=by rw[List.drop_eq_getElem_cons (by omega)];congr 1;have:=ig (l:=cs) (i:=i+1+r) (by omega);rw[List.getElem?_eq_getElem (by omega)]at this;exact Option.some.inj this
   rw[hd,lead]at hl;rw[hgx];by_cases he:gi cs (i+1+r)=x
   ·rw[show(gi cs (i+1+r)==x)=true by rw[beq_iff_eq];exact he,cond_true,aG];rw[if_pos he]at hl;have:=ih (r+1) w.drew (by omega) (by rw[show i+1+(r+1)=i+1+r+1 by omega];omega) s;exact this
   ·rw[show(gi cs (i+1+r)==x)=false by rw[beq_eq_false_iff_ne];exact he,cond_false];rw[if_neg he]at hl;exact over r _ (by omega) hl s
 have outer:∀(k i:Nat) (oa:Option Addr) (on oc:Nat) (out:List Int) (w:World),n-i<=k->i<=n->on<=1+2*i->out++lJ (n-i) (cs.drop i)=tX cs->Sep No w0 w [ak oa on oc 5 1 (flat bu out)]->oT Q (k+1) a n c oa on oc i w:=by
  have stop:∀R (oa:Option Addr) (on oc:Nat) (out:List Int) (w:World),out++lJ (n-n) (cs.drop n)=tX cs->Sep No w0 w [ak oa on oc 5 1 (flat bu out)]->oS Q R a n c oa on oc n w:=by intro R oa on oc out w he s;rw[oS,bh];rw[List.drop_eq_nil_of_le (by omega),Nat.sub_self,lJ,List.append_nil]at he;rw[he]at s;exact h _ _ _ _ (dQ s0 s (i:=0) rfl) (au s)
  intro k;induction k with
  |zero=>
   intro i oa on oc out w hk hi Cs he s;obtain rfl:i=n:=by omega
   exact stop _ _ _ _ _ _ he s
  |succ k ih=>
   intro i oa on oc out w hk hi Cs he s;by_cases hin:i=n
   ·subst hin;exact stop _ _ _ _ _ _ he s
   ·show oS Q (oT Q (k+1)) _ _ _ _ _ _ _ _;rw[oS,bN];have hx:cs[i]? =some (gi cs i):=ig (by omega);have hd:cs.drop i=gi cs i::cs.drop (i+1):=by obtain⟨h1,h2⟩:=List.getElem?_eq_some_iff.1 hx;rw[List.drop_eq_getElem_cons h1,h2]
    have NL:=Pe (gi cs i) (cs.drop (i+1));rw[List.length_drop]at NL;refine⟨n-(i+1)+1,inner _ (gi cs i) i oa on oc out hx (by omega) (λa' c' w' s'=>?_) (n-(i+1)) 0 w (by omega) (by rw[Nat.zero_add]) s⟩;refine ih (i+1+lead (gi cs i) (cs.drop (i+1))) a' (on+2) c' _ w' (by omega) (by omega) (by omega) ?_ s';rw[<-he,hd,show n-i=(n-(i+1))+1 by omega,lJ,List.append_assoc,List.drop_drop];congr 1;show _::_::_=_::_::_;congr 2;exact ahz _ _ _ (by rw[List.length_drop];omega) (by rw[List.length_drop];omega)
 exact⟨n+1,outer n 0 _ 1 1 [2] w (by omega) (by omega) (by omega) (by rw[List.drop_zero,Nat.sub_zero,<-hlen];rfl) s⟩
end
end Go.Proofs.YtmegplnmiepfbaaGreatDoor.S.O
namespace Go.Proofs.YtmegplnmiepfbaaGreatDoor.S.O
open Go.Sx
attribute [local irreducible] af cv bz bg aA cw bZ St Bx Al App cH cy cD bU aM bF aq bS av ak aW mapA
section
variable {F:Nat->Prop}{W w w0:World}{L:List As}{a:Option Addr}{n c:Nat}{cs:List Int}
def aez {tw th:Int}{Q:Int->Option Addr->Nat->Nat->World->Prop}(s0:Sep F W w0 L)(hA:Sl w0 a n c 1 bu cs)(hcs:eA cs)(hn:1<=n/\n<=100000)
  (h:∀ra rn rc w',Sep F W w' (ak ra rn rc 5 1 (flat bu (tY cs).2)::L)->Fr No w0 w'->Q (tY cs).1 ra rn rc w'):s_ tw th a n c w0 Q:=by
 apply JN;have hlen:=hA.len;refine aQ (bt (F:=No)) λtb w s=>?_;apply lS s 0 rfl;refine aj9 s (hA.fr (au s)) hcs hn.2 λra rn rc w s _=>?_;have hr:=aK s (i:=0) rfl dO (by decide);have hrl:=hr.len;unfold tY at h;by_cases h3:(tX cs).length=3
 ·rw[show((rn:Int)==3)=true by grind,cond_true];rw[if_pos h3]at h;have s:=ay s;apply lS s 1 rfl;obtain⟨ad,rfl,hv⟩:=hA.row.2 0 _ (ig (by omega));have hv:=hv 0 _ rfl;refine⟨by decide,by omega,ah ?_⟩;apply aO (Fr.cell (au s) hv id);have fin:∀(b:Nat) (w':World) (L':List As),Sep No w0 w' (av b 5 [.int .u8 0,.int .u8 (gi cs 0)]::L')->Q 0 (sZ b) 2 2 w':=λb w' L' s=>by have s:=g_ (n:=2) (size:=1) s (i:=0) rfl rfl (by decide) (by simp;exact⟨rfl,rfl⟩);have s:=s;exact h _ _ _ _ (dQ s0 s (i:=0) rfl) (au s)
  constructor
  ·refine aQ s λb w s=>?_;exact⟨Fr.cell (au s) hv id,cq s 2 rfl,fin _ _ _ s⟩
  ·refine⟨Fr.cell (au s) hv id,cq s 1 rfl,?_⟩;refine aQ s λb w s=>?_;grind
 ·rw[show((rn:Int)==3)=false by grind,cond_false];rw[if_neg h3]at h;apply lS s 1 rfl;rw[aG];by_cases h4:(tX cs).length<1+cs.length
  ·rw[bN];rw[if_pos h4]at h;exact h _ _ _ _ (dQ s0 s (i:=0) rfl) (au s)
  ·rw[bh];rw[if_neg h4]at h;refine aQ s λb w s=>?_;have s:=arM s;apply lS s 2 rfl;refine alw s (hA.fr (au s)) (by omega) λra rc w s=>?_;exact h _ _ _ _ (dQ s0 s (i:=0) rfl) (au s)
def JT {m:bM}{Q:Option Addr->Nat->Nat->World->Prop}(s0:Sep F W w0 L)(hA:Sl w0 a n c 1 bu m.cs)(hm:cW m)
  (h:∀ra rn rc w',Sep F W w' (ak ra rn rc 5 1 (flat bu (yT m))::L)->Fr No w0 w'->Q ra rn rc w'):lK m.w m.h a n c w0 Q:=by
 apply Kq;have hc:=gS hm.w hm.h;refine aQ (bt (F:=No)) λmb w s=>?_;apply lI s 0 rfl;apply lI s 0 rfl;refine⟨by decide,?_⟩;apply lI s 0 rfl;apply lI s 0 rfl;refine⟨by decide,?_⟩;have e8:∀v:Int,pA .i64 v 8=v/256:=λv=>by rw[pA,show min (8:Int).toNat (IntKind.i64).bits=8 by decide,Int.fdiv_eq_ediv_of_nonneg _ (by decide)];rfl
 rw[e8,e8,wrap_u8',wrap_u8',wrap_u8',wrap_u8'];refine aQ s λhb w s=>?_;have s:=g_ (n:=4) (size:=1) s (i:=0) rfl rfl (by decide) (by simp;exact⟨rfl,rfl,rfl,rfl⟩);have s:=s;have loop:∀(k i:Nat) (ba:Option Addr) (bn bc:Nat) (w:World),((i+k:Nat):Int)=eL m.w m.h->bn<=4+258*i->
   Sep No w0 w [ak ba bn bc 5 1 (flat bu ([m.w%256,m.w/256%256,m.h%256,m.h/256%256]++IS m i)),av mb 25 [ae m.w,ae m.h,.slice a n c]]->kC Q (k+1) (aZ mb) ba bn bc i w:=by
  intro k;induction k with
  |zero=>
   intro i ba bn bc w hi FR s;show wP Q (kC Q 0) _ _ _ _ _ _;apply lI s 1 rfl;apply lI s 1 rfl;apply Mp hm.w hm.h;rw[bh];have e:i=(eL m.w m.h).toNat:=by omega
   rw[e]at s;exact h _ _ _ _ (dQ s0 s (i:=0) rfl) (au s)
  |succ k ih=>
   intro i ba bn bc w hi FR s;show wP Q (kC Q (k+1)) _ _ _ _ _ _;have TA:0<=(i:Int)/\(i:Int)<eL m.w m.h:=by omega
   have htl:=U7 hm TA;have htr:=U6 hm TA;apply lI s 1 rfl;apply lI s 1 rfl;apply Mp hm.w hm.h;rw[bN];apply lI s 1 rfl;apply lI s 1 rfl;apply lS s 1 rfl;refine agF s (hA.fr (au s)) hm (by omega) λra rn rc w s _=>?_;have ht:=aK s (i:=0) rfl dO (by decide);have QL:=ht.len;refine aez s ht (λx hx=>by grind) (by omega) λpa pn pc w s _=>?_;have hp:=aK s (i:=0) rfl dO (by decide);have hpn:=hp.len;have IJ:=ahB (cs:=qu m i);have s:=cm (L':=[_,_,_,_]) [2,3,0,1] s rfl (by decide);refine alw s (aK s (i:=2) rfl dO (by decide)) (by omega) λra rc w s=>?_;rw[aG];have s:=cm (L':=[_,_]) [0,1] s rfl (by decide);rw[List.append_assoc,<-Yu]at s;grind
 exact⟨(eL m.w m.h).toNat+1,loop _ 0 _ 4 4 w (by omega) (by omega) s⟩
attribute [local irreducible] iT in
theorem amH {x:yU}{nn:Int}{Q:Int->Int->Int->Option Addr->Nat->Nat->World->Prop}(s0:Sep F W w0 L)(hn:1<=nn/\nn<=2000000)
  (h:∀ra rn rc w',Sep F W w' (ak ra rn rc 5 1 (flat bu (KZ x nn).m)::L)->Fr No w0 w'->Q (KZ x nn).k (KZ x nn).A (KZ x nn).B ra rn rc w'):wC x.k x.a x.b nn w0 Q:=by
 apply M1;have h3:=ko (n:=x.a) (lo:=0) (hi:=1) (by decide);have h4:=ko (n:=x.a) (lo:=0) (hi:=5) (by decide);have hb2:∀(w:World) (ob xb pb:Nat) (L':List As) (is:List Nat) (L3:List As),is.Nodup->is.map (λi=>L'[i]?)=[some (av ob 38 [ae (gj x.b 1 6),ae (nn+gj x.a 0 5),ae (gj x.a 0 9),.slice none 0 0]),some (av pb 38 [ae 0,ae 0,ae 0,.slice none 0 0]),some (av xb 90 [ae x.k,ae x.a,ae x.b])]->
   Sep No w0 w L'->iT Q nn (aZ xb) (aZ pb) (aZ ob) w:=by
  intro w ob xb pb L' is L3 hnd hpk s;have s:=cm (L':=[_,_,_]) is s hpk hnd;unfold iT;unfold KZ at h;apply lI s 0 rfl;by_cases k1:gj x.b 1 6=1
  ·rw[show(gj x.b 1 6==1)=true by rw[beq_iff_eq];exact k1,cond_true];rw[if_pos k1]at h;rw[k1]at s;have s:=ay s;have fin:∀(w:World) (b2:Nat) (L2:List As) (is:List Nat),is.Nodup->is.map (λi=>L2[i]?)=[some (av b2 5 [.int .u8 2,.int .u8 0,.int .u8 1,.int .u8 0,.int .u8 1,.int .u8 (x.a%256),.int .u8 (x.b%256)])]->Sep No w0 w L2->Q 1 0 0 (sZ b2) 7 7 w:=by intro w b2 L2 is hnd hpk s;have s:=cm (L':=[_]) is s hpk hnd;have s:=g_ (n:=7) (size:=1) s (i:=0) rfl rfl (by decide) (λu hu=>by simp[List.mem_cons,List.not_mem_nil,or_false]at hu;rcases hu with rfl|rfl|rfl|rfl|rfl|rfl|rfl<;>rfl);have s:=s;exact h _ _ _ _ (dQ s0 s (i:=0) rfl) (au s)
   apply lI s 2 rfl;apply lI s 2 rfl;refine And.intro ?_ ?_;refine aQ s λb w s=>?_
   (refine ax s (i:=1) rfl rfl rfl λw s=>?_)
   apply And.intro (cq s 3 rfl);apply And.intro (cq s 3 rfl)
   (refine ax s (i:=1) rfl rfl rfl λw s=>?_)
   apply And.intro (cq s 3 rfl);apply And.intro (cq s 3 rfl)
   (refine ax s (i:=1) rfl rfl rfl λw s=>?_)
   apply lI s 1 rfl;apply lI s 1 rfl;apply lI s 1 rfl;apply lS s 1 rfl
   (refine ax s (i:=2) rfl rfl rfl λw s=>?_)
   (refine ax s (i:=2) rfl rfl rfl λw s=>?_)
   (refine ax s (i:=2) rfl rfl rfl λw s=>?_)
   (refine ax s (i:=2) rfl rfl rfl λw s=>?_)
   apply lI s 2 rfl;apply lI s 2 rfl;apply lI s 2 rfl;apply lS s 2 rfl;exact fin _ _ _ [0] (by decide) rfl s
   (refine ax s (i:=0) rfl rfl rfl λw s=>?_)
   apply And.intro (cq s 2 rfl);apply And.intro (cq s 2 rfl);refine And.intro ?_ ?_;refine aQ s λb w s=>?_
   (refine ax s (i:=1) rfl rfl rfl λw s=>?_)
   apply And.intro (cq s 3 rfl);apply And.intro (cq s 3 rfl)
   (refine ax s (i:=1) rfl rfl rfl λw s=>?_)
   apply lI s 1 rfl;apply lI s 1 rfl;apply lI s 1 rfl;apply lS s 1 rfl
   (refine ax s (i:=2) rfl rfl rfl λw s=>?_)
   (refine ax s (i:=2) rfl rfl rfl λw s=>?_)
   (refine ax s (i:=2) rfl rfl rfl λw s=>?_)
   (refine ax s (i:=2) rfl rfl rfl λw s=>?_)
   apply lI s 2 rfl;apply lI s 2 rfl;apply lI s 2 rfl;apply lS s 2 rfl;exact fin _ _ _ [0] (by decide) rfl s
   (refine ax s (i:=0) rfl rfl rfl λw s=>?_)
   apply And.intro (cq s 2 rfl);apply And.intro (cq s 2 rfl);refine aQ s λb w s=>?_
   (refine ax s (i:=1) rfl rfl rfl λw s=>?_)
   apply lI s 1 rfl;apply lI s 1 rfl;apply lI s 1 rfl;apply lS s 1 rfl
   (refine ax s (i:=2) rfl rfl rfl λw s=>?_)
   (refine ax s (i:=2) rfl rfl rfl λw s=>?_)
   (refine ax s (i:=2) rfl rfl rfl λw s=>?_)
   (refine ax s (i:=2) rfl rfl rfl λw s=>?_)
   apply lI s 2 rfl;apply lI s 2 rfl;apply lI s 2 rfl;apply lS s 2 rfl;exact fin _ _ _ [0] (by decide) rfl s
  ·rw[show(gj x.b 1 6==1)=false by rw[beq_eq_false_iff_ne];exact k1,cond_false];rw[if_neg k1]at h;have fin:∀(w:World) (L2:List As) (A B:Int),(∀ra rn rc w',Sep F W w' (ak ra rn rc 5 1 (flat bu [])::L)->Fr No w0 w'->Q (gj x.b 1 6) A B ra rn rc w')->Sep No w0 w L2->Q (gj x.b 1 6) A B none 0 0 w:=by intro w L2 A B h s;exact h _ _ _ _ (bG (bX s0 (au s)) 5 1) (au s)
   by_cases k2:gj x.b 1 6=2
   ·rw[show(gj x.b 1 6==2)=true by rw[beq_iff_eq];exact k2,cond_true];rw[if_pos k2]at h;apply lI s 2 rfl;rw[aG];apply cI (by omega) (by decide) (by omega);refine ax s (i:=0) rfl rfl rfl λw s=>?_;apply lI s 2 rfl;apply cI (by decide) (by decide) (by decide);have e:IntKind.wrap .i64 ((0+x.a%(1-0+1))*255)=gj x.a 0 1*255:=wrap_i64 (by show _<=gj x.a 0 1*255;omega) (by show gj x.a 0 1*255<_;omega);rw[e]
    (refine ax s (i:=0) rfl rfl rfl λw s=>?_)
    apply lI s 0 rfl;apply lI s 0 rfl;apply lI s 0 rfl;apply lS s 0 rfl
    (refine ax s (i:=1) rfl rfl rfl λw s=>?_)
    (refine ax s (i:=1) rfl rfl rfl λw s=>?_)
    (refine ax s (i:=1) rfl rfl rfl λw s=>?_)
    (refine ax s (i:=1) rfl rfl rfl λw s=>?_)
    apply lI s 1 rfl;apply lI s 1 rfl;apply lI s 1 rfl;apply lS s 1 rfl;refine fin _ _ _ _ ?_ s;rw[k2];exact h
   ·rw[show(gj x.b 1 6==2)=false by rw[beq_eq_false_iff_ne];exact k2,cond_false];rw[if_neg k2]at h;by_cases k5:gj x.b 1 6=5
    ·rw[show(gj x.b 1 6==5)=true by rw[beq_iff_eq];exact k5,cond_true];rw[if_pos k5]at h
     (refine ax s (i:=0) rfl rfl rfl λw s=>?_)
     apply lI s 0 rfl;apply lI s 0 rfl;apply lI s 0 rfl;apply lS s 0 rfl
     (refine ax s (i:=1) rfl rfl rfl λw s=>?_)
     (refine ax s (i:=1) rfl rfl rfl λw s=>?_)
     (refine ax s (i:=1) rfl rfl rfl λw s=>?_)
     (refine ax s (i:=1) rfl rfl rfl λw s=>?_)
     apply lI s 1 rfl;apply lI s 1 rfl;apply lI s 1 rfl;apply lS s 1 rfl;refine fin _ _ _ _ ?_ s;rw[k5];exact h
    ·rw[show(gj x.b 1 6==5)=false by rw[beq_eq_false_iff_ne];exact k5,cond_false];rw[if_neg k5]at h;apply lI s 0 rfl;apply lI s 0 rfl;apply lI s 0 rfl;apply lS s 0 rfl
     (refine ax s (i:=1) rfl rfl rfl λw s=>?_)
     (refine ax s (i:=1) rfl rfl rfl λw s=>?_)
     (refine ax s (i:=1) rfl rfl rfl λw s=>?_)
     (refine ax s (i:=1) rfl rfl rfl λw s=>?_)
     apply lI s 1 rfl;apply lI s 1 rfl;apply lI s 1 rfl;apply lS s 1 rfl;exact fin _ _ _ _ h s
 have e1:IntKind.wrap .i64 (nn+(0+x.a%(5-0+1)))=nn+gj x.a 0 5:=wrap_i64 (by show _<=nn+gj x.a 0 5;omega) (by show nn+gj x.a 0 5<_;omega);have s:=bt (F:=No) (w:=w0);refine aQ s λxb w s=>?_;refine aV s λpb w s=>?_;have s:=ay s
 repeat' first
  |apply lI s 0 rfl
  |apply lS s 0 rfl
  |apply lB s 0 rfl
  |apply lP s 0 rfl
  |apply And.intro (cq s 0 rfl)
  |apply lI s 1 rfl
  |apply lS s 1 rfl
  |apply lB s 1 rfl
  |apply lP s 1 rfl
  |apply And.intro (cq s 1 rfl)
  |apply lI s 2 rfl
  |apply lS s 2 rfl
  |apply lB s 2 rfl
  |apply lP s 2 rfl
  |apply And.intro (cq s 2 rfl)
  |(refine ax s (i:=0) rfl rfl rfl λw s=>?_)
  |(refine ax s (i:=1) rfl rfl rfl λw s=>?_)
  |(refine ax s (i:=2) rfl rfl rfl λw s=>?_)
  |refine aQ s λb w s=>?_
  |(refine aV s λb w s=>?_;simp[agT,acL,amE,agU]at s)
  |apply cI (by decide) (by decide) (by decide)
  |apply And.intro ?_
  |(replace s:=ay s;first
   |apply lI s 0 rfl
   |apply lS s 0 rfl
   |apply lB s 0 rfl
   |apply lP s 0 rfl
   |apply And.intro (cq s 0 rfl)
   |apply lI s 1 rfl
   |apply lS s 1 rfl
   |apply lB s 1 rfl
   |apply lP s 1 rfl
   |apply And.intro (cq s 1 rfl)
   |apply lI s 2 rfl
   |apply lS s 2 rfl
   |apply lB s 2 rfl
   |apply lP s 2 rfl
   |apply And.intro (cq s 2 rfl)
   |(refine ax s (i:=0) rfl rfl rfl λw s=>?_)
   |(refine ax s (i:=1) rfl rfl rfl λw s=>?_)
   |(refine ax s (i:=2) rfl rfl rfl λw s=>?_)
   |refine aQ s λb w s=>?_
   |(refine aV s λb w s=>?_;simp[agT,acL,amE,agU]at s)
   |apply cI (by decide) (by decide) (by decide)
   |refine And.intro ?_ ?_)
 all_goals
  rw[e1]at s;exact hb2 _ _ _ _ _ [0,1,2] [] (by decide) rfl s
end
end Go.Proofs.YtmegplnmiepfbaaGreatDoor.S.O
