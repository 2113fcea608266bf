/- Part 5 of the proof. -/
import Derived.Test.YtmegplnmiepfbaaGreatDoorW3
import Derived.Lib.MakeNoZero
set_option linter.unusedVariables false
set_option linter.unusedSimpArgs false
set_option linter.defProp false
namespace Go.Proofs.YtmegplnmiepfbaaGreatDoor.S
open Go.Sx
attribute [local irreducible] af cQ bG bp aA cE cw St Bx Al App cV cO cM bZ aQ bI au cj ax ak bg mapA
structure zT where
 a0:Addr
 a2:Addr
 a3:Addr
 a4:Addr
 a5:Addr
 a6:Addr
structure iP (w:World) (g:zT):Prop where
 v0:w.cell? (aZ 0)=some (.iface 401 (.pointer (some g.a0)))
 v1:w.cell? (aZ 1)=some (.iface 219 (rt 74))
 v2:w.cell? (aZ 2)=some (.iface 401 (.pointer (some g.a2)))
 v3:w.cell? (aZ 3)=some (.iface 401 (.pointer (some g.a3)))
 v4:w.cell? (aZ 4)=some (.iface 401 (.pointer (some g.a4)))
 v5:w.cell? (aZ 5)=some (.iface 401 (.pointer (some g.a5)))
 v6:w.cell? (aZ 6)=some (.iface 401 (.pointer (some g.a6)))
 n23:g.a2≠g.a3
 n56:g.a5≠g.a6
 b2:∃c t,w.heap[g.a2.block]? =some (.cells c t (0,0))
 b3:∃c t,w.heap[g.a3.block]? =some (.cells c t (0,0))
 b5:∃c t,w.heap[g.a5.block]? =some (.cells c t (0,0))
 b6:∃c t,w.heap[g.a6.block]? =some (.cells c t (0,0))
def XF {w w':World}{k:Nat}{o:Obj}(f:Fr No w w')(h:w.heap[k]? =some o):w'.heap[k]? =some o:=by rw[Fr.block f k (Array.getElem?_eq_some_iff.1 h).1 id];exact h
def iP.fr {w w':World}{g:zT}(k:iP w g)(f:Fr No w w'):iP w' g where
 v0:=Fr.cell f k.v0 id
 v1:=Fr.cell f k.v1 id
 v2:=Fr.cell f k.v2 id
 v3:=Fr.cell f k.v3 id
 v4:=Fr.cell f k.v4 id
 v5:=Fr.cell f k.v5 id
 v6:=Fr.cell f k.v6 id
 n23:=k.n23
 n56:=k.n56
 b2:=let⟨c,t,h⟩:=k.b2;⟨c,t,XF f h⟩
 b3:=let⟨c,t,h⟩:=k.b3;⟨c,t,XF f h⟩
 b5:=let⟨c,t,h⟩:=k.b5;⟨c,t,XF f h⟩
 b6:=let⟨c,t,h⟩:=k.b6;⟨c,t,XF f h⟩
structure En where
 a:Int
 b:Int
 c:Int
 d:Int
 e:Int
 f:Int
structure W2 (x:En):Prop where
 a:Ta.U x.a
 b:Ta.U x.b
 c:Ta.U x.c
 d:Ta.U x.d
 e:Ta.U x.e
 f:Ta.U x.f
def En.add (x y:En):En:=⟨Ta.sat x.a y.a,Ta.sat x.b y.b,Ta.sat x.c y.c,Ta.sat x.d y.d,Ta.sat x.e y.e,Ta.sat x.f y.f⟩
def W2.add {x y:En}(hx:W2 x)(hy:W2 y):W2 (x.add y):=⟨Ta.GL hx.a hy.a,Ta.GL hx.b hy.b,Ta.GL hx.c hy.c,Ta.GL hx.d hy.d,Ta.GL hx.e hy.e,Ta.GL hx.f hy.f⟩
def aeD (x:En):List Value:=[.int .u64 x.a,.int .u64 x.b,.int .u64 x.c,.int .u64 x.d,.int .u64 x.e,.int .u64 x.f]
structure Ay where
 p:Nat
 sh:WS
 gr:uz
 mr:Bz
 fp:Nat
structure ke where
 g:iz
 ms:nE
 f:GP
structure gw where
 k:Int
 x:AW
 o:Option ke
 past:En
def GV (r:Ay)(y:gw):List Value:=match y.o with
 |some _=>[.pointer (sZ r.gr.p),.pointer (sZ r.mr.p),.pointer (sZ r.fp),.pointer (sZ r.sh.p)]++aeD y.past
 |none=>[.pointer none,.pointer none,.pointer none,.pointer (sZ r.sh.p)]++aeD y.past
noncomputable def IN (r:Ay)(o:Option ke):List As:=match o with
 |some m=>[nW r.gr m.g,uA r.mr r.gr.p m.ms,uE r.fp r.mr.p r.gr.p m.f]
 |none=>[]
noncomputable def amt (r:Ay)(y:gw):List As:=ax r.p 106 (GV r y)::jX r.sh y.k y.x::IN r y.o
structure avG (y:gw) (m:ke):Prop where
 g:xz m.g
 I:yF m.g m.ms
 J:acB m.g m.f
 nS:m.g.m.w*m.g.m.h<=1600
 right:Tk (ai8 m.g) y.x.p
structure GW (y:gw):Prop where
 sh:aex y.k y.x.p
 past:W2 y.past
 m:∀m,y.o=some m->avG y m
noncomputable def ig (r:Ay)(y:gw):As:=bg (GW y) (amt r y)
section
variable {F:Nat->Prop}{W w w0:World}{L:List As}{r:Ay}{y:gw}
def CD (s:Sep F W w (ig r y::L)):GW y/\Sep F W w (amt r y++L):=gP s
def W3 (s:Sep F W w (amt r y++L))(h:GW y):Sep F W w (ig r y::L):=dy s h
noncomputable abbrev aaD (r:Ay)(past:En):As:=ax r.p 106 [.pointer (sZ r.gr.p),.pointer (sZ r.mr.p),.pointer (sZ r.fp),.pointer (sZ r.sh.p),.int .u64 past.a,.int .u64 past.b,.int .u64 past.c,.int .u64 past.d,.int .u64 past.e,.int .u64 past.f]
def Oc {m:ke}(ho:y.o=some m)(s:Sep F W w (ig r y::L)):GW y/\Sep F W w (aaD r y.past::jX r.sh y.k y.x::nW r.gr m.g::uA r.mr r.gr.p m.ms::uE r.fp r.mr.p r.gr.p m.f::L):=by obtain⟨h,s⟩:=CD s;have s:Sep F W w (ax r.p 106 (GV r y)::jX r.sh y.k y.x::(IN r y.o++L)):=s;unfold GV at s;rw[ho]at s;exact⟨h,s⟩
def KT {m:ke}{k:Int}{x:AW}{past:En}(s:Sep F W w (aaD r past::jX r.sh k x::nW r.gr m.g::uA r.mr r.gr.p m.ms::uE r.fp r.mr.p r.gr.p m.f::L))(h:GW ⟨k,x,some m,past⟩):Sep F W w (ig r ⟨k,x,some m,past⟩::L):=
 W3 s h
def agU {Q:Option Addr->World->Prop}{k:Int}(hk:1<=k/\k<=100000)(s:Sep F W w L)
  (h:∀r x w',x.p=⟨[],[],0,0,0,0⟩->Sep F W w' (ig r ⟨k,x,none,⟨0,0,0,0,0,0⟩⟩::L)->Q (sZ r.p) w'):Jx k w Q:=by
 apply agp;rw[bu];refine acE s (λe=>by omega) λ_ sr w s=>?_;refine aM s λp w s=>?_;have u0:Ta.U 0:=by unfold Ta.U;omega
 refine h ⟨p,sr,⟨0,none,0,0,none,0,0⟩,⟨0,none,0,0⟩,0⟩ _ w rfl (W3 s ⟨⟨hk.1,hk.2,Lr.Mc (k:=k) (by omega),rfl,u0,u0,u0,u0,(λq hq=>by cases hq)⟩,⟨u0,u0,u0,u0,u0,u0⟩,λm e=>by cases e⟩)
structure aaE (w:World) (r:Ay) (y:gw) (m:ke):Prop where
 ok:GW y
 o:y.o=some m
 cell:rW w r.p (GV r y)
 g:nC w r.gr m.g
def rm {m:ke}(s:Sep F W w (ig r y::L))(ho:y.o=some m):aaE w r y m:=by obtain⟨h,s⟩:=CD s;refine⟨h,ho,ld s (i:=0) rfl,?_⟩;have s:Sep F W w (ax r.p 106 (GV r y)::jX r.sh y.k y.x::(IN r y.o++L)):=s;rw[ho]at s;exact oS (ai (ai s))
def aaE.c0 {m:ke}(k:aaE w r y m){j:Nat}{v:Value}(h:([.pointer (sZ r.gr.p),.pointer (sZ r.mr.p),.pointer (sZ r.fp),.pointer (sZ r.sh.p)]++aeD y.past)[j]? =some v):w.cell? ((aZ r.p).add j)=some v:=by apply k.cell j v;rw[GV,k.o];exact h
def Im {Q:Int->World->Prop}{m:ke}{c:Int}(k:aaE w r y m)(h:Q (cR m.g.m c) w):rM (sZ r.p) c w Q:=by apply VK;have h0:=k.c0 (j:=0) rfl;exact kT (ah (dH h0 (jn k.g h)))
def RA {Q:Int->Int->World->Prop}{m:ke}(s0:Sep F W w L)(k:aaE w r y m)(h:∀w',Sep F W w' L->Fr No w w'->Q m.g.m.w m.g.m.h w'):wY (sZ r.p) w Q:=by apply VQ;have h0:=k.c0 (j:=0) rfl;exact kT (ah (dH h0 (jo s0 k.g h)))
def agV {Q:Int->Int->Option Addr->Nat->Nat->World->Prop}{m:ke}(s0:Sep F W w L)(k:aaE w r y m)(h:∀ra rn rc w',Sep F W w' (ak ra rn rc 5 1 (flat bj m.g.m.cs)::L)->Fr No w w'->Q m.g.m.w m.g.m.h ra rn rc w'):DA (sZ r.p) w Q:=by apply Yn;refine aT (aX (F:=No)) λmb w1 s=>?_;have h0:=k.c0 (j:=0) rfl;refine kT (ah (dH (Fr.cell (aq s) h0 id) ?_));refine ad5 s (k.g.fr (aq s)) λra rc w1 s _=>?_;refine sT s 1 rfl λw1 s=>?_;refine sT s 1 rfl λw1 s=>?_;refine av s (i:=1) rfl rfl rfl λw1 s=>?_;refine lI s 1 rfl (lI s 1 rfl (lS s 1 rfl ?_));have s':=bY (L':=[ak ra r.gr.cn rc 5 1 (flat bj m.g.m.cs)]) [0] s rfl (by decide);exact h ra r.gr.cn rc w1 (fq s0 s') (aq s')
def aeE {Q:Int->World->Prop}{m:ke}{ce x:Int}(ho:y.o=some m)(he:m.g.ep<1000000000)(s:Sep F W w (ig r y::L))
  (h7:¬bJ m.g.m.w m.g.m.h ce->Q 7 w)(h8:bJ m.g.m.w m.g.m.h ce->¬(1<=x/\x<=255)->Q 8 w)
  (h0:bJ m.g.m.w m.g.m.h ce->1<=x/\x<=255->∀w',Sep F W w' (ig r ⟨y.k,y.x,some ⟨xA m.g ce x,m.ms,m.f⟩,y.past⟩::L)->Q 0 w'):BZ (sZ r.p) ce x w Q:=by
 apply VP;have k:=rm s ho;obtain⟨hok,s⟩:=Oc ho s;have hm:=hok.m m ho;have c0:=k.c0 (j:=0) rfl;refine kT (ah (dH c0 ?_));have s:=pk 5 [2,0,1,3,4] s;refine abQ s (by omega) h7 h8 λhc hx w s=>?_;refine h0 hc hx w (KT (pk 5 [1,2,0,3,4] s) ⟨hok.sh,hok.past,λm' e=>?_⟩);cases e;exact⟨aip hm.g hx (by omega),ao9 hm.g hc hm.I,ao_ hm.J,hm.nS,aml hm.right λkey q=>amn hm.g hc⟩
def acJ {Q:World->Prop}{m:ke}(ho:y.o=some m)(s:Sep F W w (ig r y::L))
  (h:∀r' x' w',r'.p=r.p->x'.p=⟨[],[],y.x.b,y.x.h,y.x.st,y.x.ev⟩->Sep F W w' (ig r' ⟨y.k,x',some ⟨m.g,m.ms,⟨none,m.f.fV⟩⟩,y.past⟩::L)->Q w'):vC (sZ r.p) w Q:=by
 apply Hw;have k:=rm s ho;obtain⟨hok,s⟩:=Oc ho s;have hm:=hok.m m ho;refine isS (ah (dH (k.c0 rfl) ?_));have s:=jr s;refine Pc hok.sh.one s λsr w e s=>?_;refine ah (lP s 1 rfl ?_);have s:=pk 5 [4,0,1,2,3] s;refine Yw s λw s=>?_;have s:=gd (A:=[_,_,_,_,_]) (B:=[aaD ⟨r.p,sr,r.gr,r.mr,r.fp⟩ y.past,jX sr y.k ⟨[],[],y.x.b,y.x.h,y.x.st,y.x.ev⟩,nW r.gr m.g,uA r.mr r.gr.p m.ms,uE r.fp r.mr.p r.gr.p ⟨none,m.f.fV⟩]) [2,1,3,4,0] s (by unfold aaD;rw[e];rfl) (by decide);refine h ⟨r.p,sr,r.gr,r.mr,r.fp⟩ ⟨[],[],y.x.b,y.x.h,y.x.st,y.x.ev⟩ w rfl rfl (KT s ⟨?_,hok.past,λm' e=>?_⟩)
 ·exact⟨hok.sh.one,hok.sh.room,Lr.Mc (k:=y.k) (by have:=hok.sh.one;omega),rfl,hok.sh.b,hok.sh.h,hok.sh.st,hok.sh.ev,λq hq=>by cases hq⟩
 ·cases e;exact⟨hm.g,hm.I,⟨(λq e=>by cases e),hm.J.u⟩,hm.nS,afK⟩
def Yy {Q:World->Prop}(h:Q w):qx Option.none w Q:=Dq _ _ _ h
def acK {Q:World->Prop}(ho:y.o=Option.none)(s:Sep F W w (ig r y::L))
  (h:∀r' x' w',r'.p=r.p->x'.p=⟨[],[],y.x.b,y.x.h,y.x.st,y.x.ev⟩->Sep F W w' (ig r' ⟨y.k,x',Option.none,y.past⟩::L)->Q w'):vC (some ⟨r.p,0,Option.none⟩) w Q:=by
 apply Hw;obtain⟨hok,s⟩:=CD s;have s:Sep F W w (ax r.p 106 (GV r y)::jX r.sh y.k y.x::(IN r y.o++L)):=s;unfold GV at s;rw[ho]at s;have s:=s;refine isS (ah (lP s 0 rfl ?_));have s:=jr s;refine Pc hok.sh.one s λsr w e s=>?_;refine ah (lP s 1 rfl ?_);apply Yy;have s:=jr s;rw[<-e]at s;refine h ⟨r.p,sr,r.gr,r.mr,r.fp⟩ ⟨[],[],y.x.b,y.x.h,y.x.st,y.x.ev⟩ w rfl rfl (W3 s ⟨?_,hok.past,λm' e=>by cases e⟩);exact⟨hok.sh.one,hok.sh.room,Lr.Mc (k:=y.k) (by have:=hok.sh.one;omega),rfl,hok.sh.b,hok.sh.h,hok.sh.st,hok.sh.ev,λq hq=>by cases hq⟩
def uF (y:gw):En:=match y.o with
 |some m=>⟨m.ms.fV,m.f.fV,0,0,0,0⟩
 |none=>⟨0,0,0,0,0,0⟩
def apd (h:GW y):W2 (uF y):=by
 have u0:Ta.U 0:=by unfold Ta.U;omega
 unfold uF;cases hy:y.o with
 |none=>exact⟨u0,u0,u0,u0,u0,u0⟩
 |some m=>exact⟨(h.m m hy).I.u,(h.m m hy).J.u,u0,u0,u0,u0⟩
def Mr {Q:Int->Int->Int->Int->Int->Int->World->Prop}(s:Sep F W w (ig r y::L))(h:∀w',Sep F W w' (ig r y::L)->Fr No w w'->Q (uF y).a (uF y).b (uF y).c (uF y).d (uF y).e (uF y).f w'):tS (some ⟨r.p,0,Option.none⟩) w Q:=by
 apply Sk;refine aT (aX (F:=No)) λp w1 s1=>?_;have fin:∀w',Sep No w w' []->Q (uF y).a (uF y).b (uF y).c (uF y).d (uF y).e (uF y).f w':=λw' s'=>h w' (fq s s') (aq s');apply ah;cases hy:y.o with
 |some m=>
  obtain⟨hok,so⟩:=Oc hy s;have k:=rm s hy;have km:=(WC (ai (ai (ai so)))).cell.fr (aq s1);have kf:=(Oa (ai (ai (ai (ai so))))).fr (aq s1);have e:uF y=⟨m.ms.fV,m.f.fV,0,0,0,0⟩:=by unfold uF;rw[hy]
  rw[e]at fin;have c1:=Fr.cell (aq s1) (k.c0 (j:=1) rfl) id;have c2:=Fr.cell (aq s1) (k.c0 (j:=2) rfl) id;refine dH c1 (ah (dH c2 ?_));refine aam km ⟨c2,?_⟩;apply WN (w:=w1.drew) kf;exact ai5 (ay s1) λw' s'=>fin w' (ai s')
 |none=>
  obtain⟨hok,so⟩:=CD s;have so:Sep F W w (ax r.p 106 (GV r y)::jX r.sh y.k y.x::(IN r y.o++L)):=so;unfold GV at so;rw[hy]at so;have kb:=ld so (i:=0) rfl;have e:uF y=⟨0,0,0,0,0,0⟩:=by unfold uF;rw[hy]
  rw[e]at fin;have c1:=Fr.cell (aq s1) (kb 1 _ rfl) id;have c2:=Fr.cell (aq s1) (kb 2 _ rfl) id;refine dH c1 (ah (dH c2 ?_));refine aan ⟨c2,?_⟩;apply WO;exact ai5 (ay s1) λw' s'=>fin w' (ai s')
def RB (s:Sep F W w (ig r y::L)):rW w r.sh.p (GR r.sh y.x)/\w.cell? ((⟨r.p,0,Option.none⟩:Addr).add 3)=some (.pointer (some ⟨r.sh.p,0,Option.none⟩))/\(∀j v,(aeD y.past)[j]? =some v->w.cell? ((⟨r.p,0,Option.none⟩:Addr).add (4+j))=some v):=by
 obtain⟨hok,so⟩:=CD s;have so:=so;have kb:=ld so (i:=0) rfl;refine⟨amm so (i:=1) rfl,?_,λj v hj=>?_⟩
 ·apply kb 3;unfold GV;grind
 ·apply kb (4+j) v;unfold GV;grind
def W4 (y:gw):En:=(y.past.add (uF y)).add ⟨0,0,y.x.b,y.x.h,y.x.st,y.x.ev⟩
def acL {Q:Int->Int->Int->Int->Int->Int->World->Prop}(s:Sep F W w (ig r y::L))(h:∀w',Sep F W w' (ig r y::L)->Q (W4 y).a (W4 y).b (W4 y).c (W4 y).d (W4 y).e (W4 y).f w'):A4 (some ⟨r.p,0,Option.none⟩) w Q:=by
 apply Ux;refine aT s λp w1 s1=>?_;have s1:=ay (jr s1);obtain⟨k1,k2,k3⟩:=RB s1;have hok:=(CD s1).1;have hu:=hok.past;have hn:=apd hok;have u0:Ta.U 0:=by unfold Ta.U;omega
 refine kT (ah ?_);refine aJ (k3 0 _ rfl) (aJ (k3 1 _ rfl) (aJ (k3 2 _ rfl) (aJ (k3 3 _ rfl) (aJ (k3 4 _ rfl) (aJ (k3 5 _ rfl) ?_)))));refine ah (dH k2 ?_);refine Mr s1 λw2 s2 f2=>?_;obtain⟨q1,q2,q3⟩:=RB s2;refine⟨q2,q3 0 _ rfl,q3 1 _ rfl,q3 2 _ rfl,q3 3 _ rfl,q3 4 _ rfl,q3 5 _ rfl,?_⟩;refine Ta.GM s2 ⟨⟨hu.a,hu.b,hu.c,hu.d,hu.e,hu.f⟩,hn.a,hn.b,hn.c,hn.d,hn.e,hn.f⟩ λw3 s3=>?_;obtain⟨q1,q2,q3⟩:=RB s3;refine⟨q2,?_⟩;refine akm s3 q1 λw4 s4 _=>?_;have ha:=W2.add hu hn;refine Ta.GM s4 ⟨⟨ha.a,ha.b,ha.c,ha.d,ha.e,ha.f⟩,u0,u0,hok.sh.b,hok.sh.h,hok.sh.st,hok.sh.ev⟩ λw5 s5=>?_;exact ai5 (jr s5) λw6 s6=>h w6 (ai s6)
end
def epO (o:Option ke):Int:=match o with
 |some m=>m.g.ep
 |none=>0
def aha (m:bM):nE:=⟨List.replicate (eV m.w m.h).toNat Mb,0,0⟩
def amu (o:Option ke)(mp:bM):ke:=⟨O9 mp (epO o),aha mp,⟨none,0⟩⟩
def are {mp:bM}{e:Int}(hm:cT mp)(he:0<=e):yF (O9 mp e) (aha mp):=by
 have hc:=gQ hm.w hm.h;have hv:∀q∈(aha mp).ps,q=Mb:=λq hq=>(List.mem_replicate.1 hq).2;have u0:Ta.U 0:=by unfold Ta.U;omega
 refine⟨?_,⟨by show(0:Int)<=e+1;omega,λq hq=>?_⟩,λe'=>?_,λi q hq hv'=>?_,u0⟩
 ·show((List.replicate _ _).length:Int)=eV mp.w mp.h;grind
 ·rw[hv q hq];show(0:Int)<=e+1;omega
 ·have e':(0:Int)=e+1:=e';omega
 ·rw[hv q (List.mem_of_getElem? hq)]at hv';have hi:=(List.getElem?_eq_some_iff.1 hq).1;have hi:i<(List.replicate (eV mp.w mp.h).toNat Mb).length:=hi;have e1:gi (O9 mp e).vs i=e+1:=by show(List.replicate (eV mp.w mp.h).toNat (e+1)).getD i 0=e+1;grind
  rw[e1]at hv';have hv':(0:Int)=e+1:=hv';omega
section
variable {F:Nat->Prop}{W w w0:World}{L:List As}{r:Ay}{y:gw}{mp:bM}{a:Option Addr}{n c:Nat}
def amv (h:GW y):0<=epO y.o:=by
 unfold epO;cases hy:y.o with
 |none=>grind
 |some m=>have:=(h.m m hy).g.ep;grind
noncomputable abbrev ass (p sp:Nat)(v0 v1 v2:Value)(q:En):As:=ax p 106 [v0,v1,v2,.pointer (sZ sp),.int .u64 q.a,.int .u64 q.b,.int .u64 q.c,.int .u64 q.d,.int .u64 q.e,.int .u64 q.f]
def gpO (r:Ay)(o:Option ke):Option Addr:=match o with
 |some _=>sZ r.gr.p
 |none=>none
def atC (s:Sep F W w (ig r y::L)):∃v1 v2,Sep F W w (ass r.p r.sh.p (.pointer (gpO r y.o)) v1 v2 y.past::jX r.sh y.k y.x::(IN r y.o++L)):=by
 obtain⟨hok,so⟩:=CD s;have so:Sep F W w (ax r.p 106 (GV r y)::jX r.sh y.k y.x::(IN r y.o++L)):=so;unfold GV at so;cases hy:y.o with
 |none=>
  rw[hy]at so;exact⟨_,_,so⟩
 |some m=>
  rw[hy]at so;exact⟨_,_,so⟩
def ape {Q:Int->World->Prop}{A B:As}(hok:GW y)(s:Sep F W w (A::B::(IN r y.o++L)))(h:Q (epO y.o) w):f_ (gpO r y.o) w Q:=by
 cases hy:y.o with
 |none=>
  rw[hy]at h;exact Z8 h
 |some m=>
  rw[hy]at h s;have s:=s;exact ri (oS (ai (ai s))) h
def aeF {Q:Int->World->Prop}(hm:cT mp)(hr:dJ mp.cs)(o7:mp.w*mp.h<=1600)(hC:∀w',Sep F W w' L->Sl w' a n c 1 bj mp.cs)(he:epO y.o<1000000000)(s:Sep F W w (ig r y::L))
  (h:∀r' x' w',r'.p=r.p->x'.p=⟨[],[],y.x.b,y.x.h,y.x.st,y.x.ev⟩->Sep F W w' (ig r' ⟨y.k,x',some (amu y.o mp),y.past.add (uF y)⟩::L)->Q 0 w'):BY (sZ r.p) mp.w mp.h a n c w Q:=by
 apply VN;have hok:=(CD s).1;have YN:=amv hok;have hu:=hok.past;have hn:=apd hok;refine aM s λmb w s=>kT ?_;refine lI s 0 rfl (lI s 0 rfl (lS s 0 rfl ?_));refine NI s (hC _ (ai (ai s))) λw s _=>?_;rw[(Wg hr).2 hm,Bool.not_true,cond_false];apply ah;have s:=ay (jr s);obtain⟨k1,k2,k3⟩:=RB s;refine aJ (k3 0 _ rfl) (aJ (k3 1 _ rfl) (aJ (k3 2 _ rfl) (aJ (k3 3 _ rfl) (aJ (k3 4 _ rfl) (aJ (k3 5 _ rfl) ?_)))));refine Mr s λw s _=>?_;obtain⟨q1,q2,q3⟩:=RB s;refine⟨q3 0 _ rfl,q3 1 _ rfl,q3 2 _ rfl,q3 3 _ rfl,q3 4 _ rfl,q3 5 _ rfl,?_⟩;refine Ta.GM s ⟨⟨hu.a,hu.b,hu.c,hu.d,hu.e,hu.f⟩,hn.a,hn.b,hn.c,hn.d,hn.e,hn.f⟩ λw s=>?_;obtain⟨v1,v2,s⟩:=atC s;apply ah;refine sT s 0 rfl λw s=>?_;refine sT s 0 rfl λw s=>?_;refine sT s 0 rfl λw s=>?_;refine sT s 0 rfl λw s=>?_;refine sT s 0 rfl λw s=>?_;refine av s (i:=0) rfl rfl rfl λw s=>?_;have s:=b_ s (L':=ax mb 25 [ae mp.w,ae mp.h,.slice a n c]::ass r.p r.sh.p (.pointer (gpO r y.o)) v1 v2 (y.past.add (uF y))::jX r.sh y.k y.x::(IN r y.o++L)) (List.perm_middle (l₁:=_::_::IN r y.o));have s:=ay s;refine lI s 0 rfl (lI s 0 rfl (lS s 0 rfl ?_));refine ah (lP s 1 rfl ?_);apply ape hok (ai s);refine⟨ck s 0 rfl,ck s 0 rfl,ck s 0 rfl,?_⟩;have s:=gj (ai s) (.cons_cons _ (.cons_cons _ (List.sublist_append_right _ _)));refine ad3 s (hC _ (ai (ai s))) hr (by omega) (λe=>(e hm).elim) λ_ gr w s _=>?_;refine ah (av s (i:=1) rfl rfl rfl λw s=>?_);refine ah (lP s 1 rfl ?_);refine aek s (oS s) λmr w s _=>?_;refine ah (av s (i:=2) rfl rfl rfl λw s=>?_);have s:=ay s;refine ah (lP s 2 rfl (ah (lP s 2 rfl ?_)));refine acC s λfp w s _=>?_;refine ah (av s (i:=3) rfl rfl rfl λw s=>?_);refine ah (lP s 3 rfl ?_);have s:=pk 5 [4,3,2,1,0] s;refine Pc hok.sh.one s λsr w e s=>?_;rw[<-e]at s;have s:=pk 5 [1,0,2,3,4] s;refine h ⟨r.p,sr,gr,mr,fp⟩ ⟨[],[],y.x.b,y.x.h,y.x.st,y.x.ev⟩ w rfl rfl (KT s ⟨?_,W2.add hu hn,λm' e=>?_⟩)
 ·exact⟨hok.sh.one,hok.sh.room,Lr.Mc (k:=y.k) (by have:=hok.sh.one;omega),rfl,hok.sh.b,hok.sh.h,hok.sh.st,hok.sh.ev,λq hq=>by cases hq⟩
 ·cases e;have u0:Ta.U 0:=by unfold Ta.U;omega
  exact⟨akR hm (by omega),are hm YN,⟨(λq e=>by cases e),u0⟩,o7,afK⟩
end
section
variable {m:bM}{t sc l:Int}
noncomputable def tH (m:bM)(t sc:Int):List bh:=NP (E7 m (D m t) t sc)
noncomputable def GX (m:bM)(t sc:Int):List Int:=jv (aE m.w m.h sc) (bw m.w m.h sc) (dO m sc) (tH m t sc)
noncomputable def CE (m:bM)(t sc:Int):List Int:=nT (aE m.w m.h sc) (bw m.w m.h sc) (dO m sc) (tH m t sc)
def Tq (xs:List bh):(NP xs).Perm xs:=List.mergeSort_perm _ _
def W5 (x:bh):x∈tH m t sc↔x∈E7 m (D m t) t sc:=(Tq _).mem_iff
def Pe (hs:dW m.w m.h sc):(tH m t sc).Nodup:=(Tq _).nodup_iff.2 (WQ hs).1
def apf (hs:dW m.w m.h sc):(tH m t sc).length<=1025:=by rw[tH,(Tq _).length_eq];exact(WQ hs).2
def aaF (hm:cT m)(hs:dW m.w m.h sc)(ht:bJ m.w m.h t):rV (aE m.w m.h sc) (bw m.w m.h sc) (dO m sc) (tH m t sc)=true:=by rw[rV,Bool.and_eq_true];exact⟨(Rl hm hs).DO,List.all_eq_true.2 λx hx=>auQ hm hs ht ((W5 x).1 hx)⟩
def ast (hm:cT m)(hs:dW m.w m.h sc)(ht:bJ m.w m.h t)(hl:0<=l/\l<aE m.w m.h sc*bw m.w m.h sc):gi (GX m t sc) l.toNat=D m t (bU m.w m.h sc l):=by have hlen:=Ct (m:=m) (sc:=sc);rw[GX,ak2 ⟨hl.1,by omega⟩];exact auO hm hs ht W5 hl
def asu (hm:cT m)(hs:dW m.w m.h sc)(ht:bJ m.w m.h t)(hl:0<=l/\l<aE m.w m.h sc*bw m.w m.h sc):gi (CE m t sc) l.toNat=sY m t (bU m.w m.h sc l):=by have hlen:=Ct (m:=m) (sc:=sc);unfold CE nT gi;rw[List.getD_eq_getElem?_getD,List.getElem?_map,List.getElem?_range (by omega)];show aaa _ _ _ _ _ ((l.toNat:Nat):Int)=_;rw[Int.toNat_of_nonneg hl.1];refine dir_eq hm hs ht W5 (λl' hl'=>?_) hl;rw[fD,if_pos ⟨hl'.1,by show l'<((jv _ _ _ _).length:Int);rw[aai];omega⟩];exact ast hm hs ht hl'
end
structure xH where
 g:iz
 W6:List Int
 clean:Int
 fV:Int
 kept:Option (Int×Int)
 fc:Int
def ke.p (m:ke):xH:=⟨m.g,m.ms.ps.map (·.e7),m.ms.clean,m.ms.fV,N9 m.f,m.f.fV⟩
structure wH where
 k:Int
 sh:T1
 o:Option xH
 past:En
def gw.p (y:gw):wH:=⟨y.k,y.x.p,y.o.map ke.p,y.past⟩
def ajh (g:iz)(W6:List Int):Nat:=((List.range W6.length).filter λi=>gi W6 i !=gi g.vs i).length
noncomputable def GY (q:wH)(m:xH)(t sc:Int):wH:=⟨q.k,CC q.k q.sh (t,sc) ⟨zz m.g sc,tH m.g.m t sc,GX m.g.m t sc,CE m.g.m t sc⟩,some ⟨m.g,m.g.vs,m.g.ep,aej (ajh m.g m.W6) m.fV,some (t,m.g.ep),if m.kept=some (t,m.g.ep)then m.fc else Ta.sat m.fc 1⟩,q.past⟩
def arf {g:iz}{x:nE}:ajh g (x.ps.map (·.e7))=(kF g x x.ps.length).length:=by unfold ajh kF;rw[List.length_map];refine congrArg List.length (List.filter_congr λi hi=>?_);unfold Tc gi;grind
def amw {g:iz}{x:nE}(hg:xz g)(I:yF g x)(hf:NY g x):x.ps.map (·.e7)=g.vs:=by
 have h1:=I.len;have h2:=hg.len;refine List.ext_getElem? λi=>?_;rw[List.getElem?_map];by_cases hi:i<x.ps.length
 ·have e1:=List.getElem?_eq_getElem hi;have e2:g.vs[i]? =some g.vs[i]:=List.getElem?_eq_getElem (by omega);have:=hf i _ e1;rw[e1,e2];show some x.ps[i].e7=_;rw[this];unfold gi;grind
 grind
section
variable {W w w0:World}{L:List As}{r:Ay}{y:gw}{lg:zT}{t sc:Int}
def aji {Q:Option Addr->Nat->Nat->Option Addr->Nat->Nat->Value->World->Prop}{fb:Nat}(hL:iP W lg)(s:Sep No W w (ax fb 213 [.slice none 0 0,.slice none 0 0]::L))
  (h:∀eb w',Sep No W w' (ax eb 275 [ae t,.iface 401 (.pointer (some lg.a3))]::L)->Q none 0 0 none 0 0 (.iface 273 (.pointer (sZ eb))) w'):tD Q t (aZ fb) w:=by
 have s:=ay s;have v3:∀{w L},Sep No W w L->w.cell? (aZ 3)=some (.iface 401 (.pointer (some lg.a3))):=λs=>Fr.cell (aq s) hL.v3 id;apply mL (v3 s) rfl;constructor
 ·refine aM s λeb w s=>?_;refine sT s 1 rfl λw s=>?_;refine av s (i:=1) rfl rfl rfl λw s=>?_;refine⟨v3 s,?_⟩;refine lS s 1 rfl (lS s 1 rfl ?_);exact h eb w (gj s (.cons_cons _ (.cons _ (List.Sublist.refl _))))
 ·refine sT s 0 rfl λw s=>?_;refine av s (i:=0) rfl rfl rfl λw s=>?_;refine⟨v3 s,?_⟩;refine aM s λeb w s=>?_;refine lS s 1 rfl (lS s 1 rfl ?_);exact h eb w (gj s (.cons_cons _ (.cons _ (List.Sublist.refl _))))
def arh {Q:Option Addr->Nat->Nat->Option Addr->Nat->Nat->Value->World->Prop}{b6 f:Nat}{da ra:Option Addr}{dn dc rn rc:Nat}{A:List As}{v1 v2:Value}(s:Sep No W w (ax f 213 [.slice da dn dc,.slice ra rn rc]::ax b6 213 [v1,v2]::L))
  (h:∀w',Sep No W w' L->Q da dn dc ra rn rc .nilIface w'):jH Q t (aZ b6) (aZ f) 0 w:=by
 unfold jH;refine lS s 0 rfl (lS s 0 rfl ?_);refine sT s 1 rfl λw s=>?_;refine av s (i:=1) rfl rfl rfl λw s=>?_;refine lS s 1 rfl (lS s 1 rfl ?_);exact h w (ai (ai s))
end
section
variable {W w w0:World}{L:List As}{r:Ay}{y:gw}{lg:zT}{t sc:Int}
def aCm:zc T 84=[ae 0,ae 0,.slice none 0 0]:=rfl
noncomputable abbrev amx (r:Ay)(m:ke)(past:En)(ms:nE)(f:GP)(tb p6:Nat)(ta:Option Addr)(tn tc:Nat)(sa:Option Addr)(sn sk:Nat)(t sc:Int)(L:List As):List As:=
 ak sa sn sk 294 3 (flat fS (tH m.g.m t sc))::ak ta tn tc 5 1 (flat bj (dO m.g.m sc))::ax tb 84 [ae (aE m.g.m.w m.g.m.h sc),ae (bw m.g.m.w m.g.m.h sc),.slice ta tn tc]::ax p6 213 [.slice none 0 0,.slice none 0 0]::aaD r past::nW r.gr m.g::uA r.mr r.gr.p ms::uE r.fp r.mr.p r.gr.p f::L
def atD {Q:Option Addr->Nat->Nat->Option Addr->Nat->Nat->Value->World->Prop}{m:ke}{ms:nE}{f:GP}{tb p6 fb:Nat}{ta sa da ra:Option Addr}{tn tc sn sk n dc rc:Nat}{x':AW}{sr:WS}{v1 v2:Value}(e:sr.p=r.sh.p)(hok:GW ⟨y.k,x',some ⟨m.g,ms,f⟩,y.past⟩)
  (s:Sep No W w (ax fb 213 [v1,v2]::ak ra n rc 3 1 (flat one (CE m.g.m t sc))::ak da n dc 3 1 (flat one (GX m.g.m t sc))::jX sr y.k x'::amx r m y.past ms f tb p6 ta tn tc sa sn sk t sc L))
  (uD:∀r' w',r'.p=r.p->Sep No W w' (ak ra n rc 3 1 (flat one (CE m.g.m t sc))::ak da n dc 3 1 (flat one (GX m.g.m t sc))::ig r' ⟨y.k,x',some ⟨m.g,ms,f⟩,y.past⟩::L)->Q da n dc ra n rc .nilIface w'):
  St ((aZ fb).add 0) (.slice da n dc) w λw=>St ((aZ fb).add 1) (.slice ra n rc) w λw=>jH Q t (aZ p6) (aZ fb) 0 w:=by
 refine sT s 0 rfl λw s=>?_;refine av s (i:=0) rfl rfl rfl λw s=>?_;have s:=gd (A:=[_,_,_,_,_,_,_,_,_,_,_,_]) (B:=[_,_,_,_,_,_,_,_,_]) [0,7,8,3,9,10,11,1,2] s rfl (by decide);refine arh (A:=[]) s λw s=>?_;have s:Sep No W w (aaD ⟨r.p,sr,r.gr,r.mr,r.fp⟩ y.past::jX sr y.k x'::nW r.gr m.g::uA r.mr r.gr.p ms::uE r.fp r.mr.p r.gr.p f::ak ra n rc 3 1 (flat one (CE m.g.m t sc))::ak da n dc 3 1 (flat one (GX m.g.m t sc))::L):=by unfold aaD;simp_all
 have s:=KT s hok;have s:=gd (A:=[_,_,_]) (B:=[_,_,_]) [1,2,0] s rfl (by decide);grind
attribute [local irreducible] tD jH yD in
theorem Od {Q:Option Addr->Nat->Nat->Option Addr->Nat->Nat->Value->World->Prop}{m:ke}(ho:y.o=some m)(hL:iP W lg)(s:Sep No W w (ig r y::L))(Oe:Lr.YX (t,sc))
  (GZ:¬(bJ m.g.m.w m.g.m.h t/\dW m.g.m.w m.g.m.h sc)->∀eb w',Sep No W w' (ax eb 275 [ae t,.iface 401 (.pointer (some lg.a3))]::ig r y::L)->Q none 0 0 none 0 0 (.iface 273 (.pointer (sZ eb))) w')
  (uD:bJ m.g.m.w m.g.m.h t->dW m.g.m.w m.g.m.h sc->∀r' y' da dc ra rc w',r'.p=r.p->y'.p=GY y.p m.p t sc->Sep No W w' (ak ra (dO m.g.m sc).length rc 3 1 (flat one (CE m.g.m t sc))::ak da (dO m.g.m sc).length dc 3 1 (flat one (GX m.g.m t sc))::ig r' y'::L)->Q da (dO m.g.m sc).length dc ra (dO m.g.m sc).length rc .nilIface w'):
  vG (sZ r.p) t sc w Q:=by
 apply UX;refine aT s λp6 w s=>?_;have s:=jr s;have k:=rm s ho;have c0:=k.c0 (j:=0) rfl;refine kT (ah (dH c0 (kT (ah (dH c0 ?_)))));have hm:=(k.ok.m m ho);have hmay:=hm.g.may;refine NH s k.g (λhs w s _=>?_) λhs ta tn tc w s _=>?_
 ·
  refine aT s λtb w s=>?_;refine sT s 0 rfl λw s=>?_;refine sT s 0 rfl λw s=>?_;refine sT s 0 rfl λw s=>?_;have s:=ai s;have k:=rm s ho;have c0:=k.c0 (j:=0) rfl;refine ah (dH c0 (jn k.g ?_));have fin:=aji hL (jr s) λeb w s=>GZ (λe=>hs e.2) eb w s;grind
 ·rw[aiz hmay hs]at s;refine aT s λtb w s=>?_;refine sT s 0 rfl λw s=>?_;refine sT s 0 rfl λw s=>?_;refine av s (i:=0) rfl rfl rfl λw s=>?_;have k:=rm (ai (ai s)) ho;have c0:=k.c0 (j:=0) rfl;refine ah (dH c0 (jn k.g ?_));by_cases ht:bJ m.g.m.w m.g.m.h t
  ·have vv:=L4 hmay ht;rw[cN (by omega),cond_false,Bool.not_true,cond_false];have s:=gd (A:=[_,_,_,_]) (B:=[_,_,_,_]) [2,0,1,3] s rfl (by decide);obtain⟨hok,s⟩:=Oc ho s;have s:=ay s;refine ah (lP s 0 rfl (ah (lP s 0 rfl ?_)));have s:=gd (A:=[_,_,_,_,_,_,_,_]) (B:=[_,_,_,_,_,_,_,_]) [2,3,4,0,1,5,6,7] s rfl (by decide);refine Yx s hm.I hm.J ht hm.nS λms' rr ds w I' hf' yg Wx hro s=>?_;refine⟨ck s 3 rfl,?_⟩;have kr:=afH (ai (ai s)) rfl;refine WR s (oS s) kr hro ht hs λsa sn sk w s _=>?_;have s:=ay s;refine ah (lP s 4 rfl (ah (lP s 4 rfl ?_)));refine lI s 6 rfl (lI s 6 rfl (lS s 6 rfl ?_));have s:=gd (A:=[_,_,_,_,_,_,_,_,_]) (B:=[_,_,_,_,_,_,_,_,_]) [5,0,7,6,8,4,1,2,3] s rfl (by decide);generalize hf:(⟨some (rr,⟨t,m.g.ep,ds⟩),if N9 m.f=some (t,m.g.ep)then m.f.fV else Ta.sat m.f.fV 1⟩:GP)=f' at s;have s:=s;have LZ:(tH m.g.m t sc).length=sn:=(aN s (i:=1) rfl nD (by decide)).len;have BO:=apf (t:=t) hs;have hu1:Ta.U f'.fV:=by
    rw[<-hf];split
    ·exact hm.J.u
    ·exact Ta.GL hm.J.u (by unfold Ta.U;omega)
   have J':acB m.g f':=by refine⟨λq e=>?_,hu1⟩;rw[<-hf]at e;cases e;exact⟨Int.le_refl _,λ_=>⟨ht,hro⟩⟩
   have ay4:zz m.g sc<=m.g.ep:=by
    unfold zz;split
    ·have hm1:gi m.g.vs sc.toNat∈m.g.vs:=by rw[gi,List.getD_eq_getElem?_getD,List.getElem?_eq_getElem (by omega)];exact List.getElem_mem _
     exact(hm.g.vs _ hm1).2
    ·have:=hm.g.ep;omega
   have hh:(Lr.kM y.k y.x.l (t,sc)).1.2.1=true->∀q,y.x.p.es[(Lr.kM y.k y.x.l (t,sc)).1.1.toNat]? =some q->q.e7=zz m.g sc->q.iO=tH m.g.m t sc->q.ds=GX m.g.m t sc/\q.rs=CE m.g.m t sc:=λhd q hq hv he=>by obtain⟨_,_,h3⟩:=ai4 hok.sh hm.right hd hq;have h4:=h3 hv;rw[he]at h4;exact h4
   have ay5:∀x':AW,x'.p=CC y.k y.x.p (t,sc) ⟨zz m.g sc,tH m.g.m t sc,GX m.g.m t sc,CE m.g.m t sc⟩->GW ⟨y.k,x',some ⟨m.g,ms',f'⟩,y.past⟩:=λx' ex=>by
    refine⟨?_,hok.past,λm' e=>?_⟩
    ·rw[ex];exact aq8 hok.sh (by show(tH m.g.m t sc).length<2000;omega)
    ·cases e;refine⟨hm.g,I',J',hm.nS,?_⟩;rw[ex];exact ao6 hok.sh hm.right ⟨ay4,hs,λ_=>⟨rfl,rfl⟩⟩
   have hp':∀x':AW,x'.p=CC y.k y.x.p (t,sc) ⟨zz m.g sc,tH m.g.m t sc,GX m.g.m t sc,CE m.g.m t sc⟩->(gw.mk y.k x' (some ⟨m.g,ms',f'⟩) y.past).p=GY y.p m.p t sc:=λx' ex=>by unfold gw.p GY;simp only[Option.map_some];rw[ex];unfold ke.p;rw[amw hm.g I' hf',yg,Wx,arf,<-hf];rfl
   have cC:∀w',Sep No W w' (amx r m y.past ms' f' tb p6 ta tn tc sa sn sk t sc L)->Sl w' ta tn tc 1 bj (dO m.g.m sc):=λw' s=>aN s (i:=1) rfl dg (by decide);have cX:∀w',Sep No W w' (amx r m y.past ms' f' tb p6 ta tn tc sa sn sk t sc L)->Sl w' sa sn sk 3 fS (tH m.g.m t sc):=λw' s=>aN s (i:=0) rfl nD (by decide);have done:∀{fb:Nat} {v1 v2:Value} {w:World} {sr:WS} {x':AW} {da ra:Option Addr} {dc rc:Nat},sr.p=r.sh.p->x'.p=CC y.k y.x.p (t,sc) ⟨zz m.g sc,tH m.g.m t sc,GX m.g.m t sc,CE m.g.m t sc⟩->
     Sep No W w (ax fb 213 [v1,v2]::ak ra (dO m.g.m sc).length rc 3 1 (flat one (CE m.g.m t sc))::ak da (dO m.g.m sc).length dc 3 1 (flat one (GX m.g.m t sc))::jX sr y.k x'::amx r m y.past ms' f' tb p6 ta tn tc sa sn sk t sc L)->
     St ((aZ fb).add 0) (.slice da (dO m.g.m sc).length dc) w λw=>St ((aZ fb).add 1) (.slice ra (dO m.g.m sc).length rc) w λw=>jH Q t (aZ p6) (aZ fb) 0 w:=λ{fb v1 v2 w sr x' da ra dc rc} e ex s=>by
    refine atD e (ay5 x' ex) s λr' w' er s=>?_;exact uD ht hs r' _ da dc ra rc w' er (hp' x' ex) s
   have d6:∀{w:World} {A B C D E G:As} {X:List As},Sep No W w (A::B::C::D::E::G::X)->Sep No W w X:=λs=>ai (ai (ai (ai (ai (ai s)))));refine⟨rU (oS (d6 s)) ?_,?_⟩
   ·refine⟨ck s 3 rfl,ck s 3 rfl,ck s 3 rfl,ck s 5 rfl,?_,?_⟩
    ·refine WV hok.sh (Rl hmay hs) (aaF hmay hs ht) (Pe hs) (by omega) cC cX Oe hh s λsr x' da dc ra rc w e ex s=>?_;refine aT s λfb w s=>?_;refine⟨ck s 6 rfl,ck s 6 rfl,ck s 6 rfl,ck s 8 rfl,ck s 8 rfl,?_⟩;exact done e ex s
    ·refine aT s λfb w s=>?_;refine⟨ck s 4 rfl,ck s 4 rfl,ck s 4 rfl,ck s 6 rfl,ck s 6 rfl,?_⟩;refine WV hok.sh (Rl hmay hs) (aaF hmay hs ht) (Pe hs) (by omega) (λw' s=>cC w' (ai s)) (λw' s=>cX w' (ai s)) Oe hh (jr s) λsr x' da dc ra rc w e ex s=>?_;exact done e ex (pk 4 [3,0,1,2] s)
   ·refine aT s λfb w s=>?_;refine⟨ck s 4 rfl,ck s 4 rfl,ck s 4 rfl,ck s 6 rfl,ck s 6 rfl,?_⟩;apply rU (oS (d6 (ai s)));refine⟨ck s 4 rfl,ck s 4 rfl,ck s 4 rfl,ck s 6 rfl,?_⟩;refine WV hok.sh (Rl hmay hs) (aaF hmay hs ht) (Pe hs) (by omega) (λw' s=>cC w' (ai s)) (λw' s=>cX w' (ai s)) Oe hh (jr s) λsr x' da dc ra rc w e ex s=>?_;exact done e ex (pk 4 [3,0,1,2] s)
  ·rw[show cR m.g.m t=0 from by unfold cR;rw[if_neg λe=>ht ⟨hm.g.iM,e.1,by rw[<-hmay.len];exact e.2⟩]];exact aji hL (gd (A:=[_,_,_,_]) (B:=[_,_]) [3,2] s rfl (by decide)) λeb w s=>GZ (λe=>ht e.1) eb w s
end
end Go.Proofs.YtmegplnmiepfbaaGreatDoor.S
set_option maxRecDepth 20000
namespace Go.Proofs.YtmegplnmiepfbaaGreatDoor.S
open Go.Sx
attribute [local irreducible] af cQ bG bp aA cE cw St Bx Al App cV cO cM bZ aQ bI au cj ax ak bg mapA
section
variable {W w w0:World}{L:List As}{r:Ay}{y:gw}{lg:zT}{t sc ce w1 h1:Int}
def T2 {Q:Int->World->Prop}(h:Q 0 w):yV .nilIface w Q:=QK _ _ _ h
def aeG {Q:Int->World->Prop}{eb:Nat}(hL:iP W lg)(s:Sep No W w (ax eb 275 [ae t,.iface 401 (.pointer (some lg.a3))]::L))(h:Q 7 w):yV (.iface 273 (.pointer (sZ eb))) w Q:=by apply QK;have k:=hL.fr (aq s);have hc:=ld s (i:=0) rfl 1 _ rfl;refine tG (mL k.v2 rfl ?_);obtain⟨c2,t2,h2⟩:=k.b2;obtain⟨c3,t3,h3⟩:=k.b3;apply To (.inr rfl) (.inl rfl) hc (λx y K hk=>acG (λe=>k.n23 e.symm) h3 h2 hk);apply mL k.v3 rfl;apply To (.inr rfl) (.inl rfl) hc (λx y K hk=>WX hk);exact h
def Of {Q:Option Addr->Nat->Nat->Option Addr->Nat->Nat->Int->World->Prop}{m:ke}(ho:y.o=some m)(hL:iP W lg)(s:Sep No W w (ig r y::L))(ht:bJ m.g.m.w m.g.m.h t)(hs:dW m.g.m.w m.g.m.h sc)(Oe:Lr.YX (t,sc))
  (uD:∀r' y' da dc ra rc w',r'.p=r.p->y'.p=GY y.p m.p t sc->Sep No W w' (ak ra (dO m.g.m sc).length rc 3 1 (flat one (CE m.g.m t sc))::ak da (dO m.g.m sc).length dc 3 1 (flat one (GX m.g.m t sc))::ig r' y'::L)->Q da (dO m.g.m sc).length dc ra (dO m.g.m sc).length rc 0 w'):
  vF (sZ r.p) t sc w Q:=by
 apply UZ;refine aT s λp6 w s=>?_;refine Od ho hL (jr s) Oe (λe=>(e ⟨ht,hs⟩).elim) λ_ _ r' y' da dc ra rc w er ey s=>?_;refine aT s λfb w s=>?_;refine sT s 0 rfl λw s=>?_;refine av s (i:=0) rfl rfl rfl λw s=>?_;have s:=ay s;refine lS s 0 rfl (lS s 0 rfl ?_);apply T2;refine⟨ck s 0 rfl,ck s 0 rfl,?_⟩;refine sT s 4 rfl λw s=>?_;refine av s (i:=4) rfl rfl rfl λw s=>?_;refine lS s 4 rfl (lS s 4 rfl ?_);exact uD r' y' da dc ra rc w er ey (pk 5 [1,2,3] s)
def aph (hm:iM w1 h1):iG (aC w1 h1 ce):=by
 have hc:=gQ hm.1 hm.2;unfold iG;by_cases h:bJ w1 h1 ce
 ·have:=(bT h).2;omega
 ·unfold aC;grind
def acM {ys:List Int}{k:Nat}{x:Int}(h:ys[k]? =some x):x=gi ys k:=by unfold gi;grind
def aeH {Q:Int->Int->Value->World->Prop}{m:ke}(ho:y.o=some m)(hL:iP W lg)(s:Sep No W w (ig r y::L))(Oe:(Lit.int .i64 t).wf=true)
  (GZ:¬(bJ m.g.m.w m.g.m.h t/\bJ m.g.m.w m.g.m.h ce)->∀eb w',Sep No W w' (ax eb 275 [ae t,.iface 401 (.pointer (some lg.a3))]::ig r y::L)->Q 0 0 (.iface 273 (.pointer (sZ eb))) w')
  (uD:bJ m.g.m.w m.g.m.h t->bJ m.g.m.w m.g.m.h ce->∀r' y' w',r'.p=r.p->y'.p=GY y.p m.p t (cP m.g.m ce)->Sep No W w' (ig r' y'::L)->Q (D m.g.m t ce) (sY m.g.m t ce) .nilIface w'):
  B2 (sZ r.p) t ce w Q:=by
 apply Wa;have k:=rm s ho;have hm:=k.ok.m m ho;have hmay:=hm.g.may;refine RA s k λw s _=>?_;refine eY s λw s _=>?_;refine Od ho hL s ⟨Oe,iG.wf (aph hm.g.iM)⟩ (λe eb w s=>?_) λht hs r' y' da dc ra rc w er ey s=>?_
 ·refine aT s λfb w s=>?_;refine sT s 0 rfl λw s=>?_;refine sT s 0 rfl λw s=>?_;exact GZ (λh=>e ⟨h.1,bT h.2⟩) eb w (ai s)
 ·have hc:bJ m.g.m.w m.g.m.h ce:=by
   by_cases h:bJ m.g.m.w m.g.m.h ce
   ·exact h
   ·unfold aC at hs;rw[if_neg h]at hs;have:=hs.2.1;omega
  have hlr:=j7 hc;have hgl:=nU hc;have hlen:=Ct (m:=m.g.m) (sc:=aC m.g.m.w m.g.m.h ce);refine aT s λfb w s=>?_;refine sT s 0 rfl λw s=>?_;refine av s (i:=0) rfl rfl rfl λw s=>?_;refine tE s λw s _=>?_;have s:=ay s;apply lS s 0 rfl;have kD:=aN s (i:=2) rfl cv (by decide);have kR:=aN s (i:=1) rfl cv (by decide);have hk:dX m.g.m.w m.g.m.h ce=((dX m.g.m.w m.g.m.h ce).toNat:Int):=by omega
  apply kD.qD hk (by omega);apply lS s 0 rfl;refine kR.El hk (by omega) λp x hx hcell=>?_;have h0:=hcell 0 _ rfl;refine aJ h0 ⟨h0,ck s 0 rfl,?_⟩;have eD:=ast hmay hs ht hlr;have eR:=asu hmay hs ht hlr;rw[hgl]at eD eR;rw[acM hx,eD,eR];exact uD ht hc r' y' _ er ey (ai (ai (ai s)))
def aeI {Q:Int->Int->Int->World->Prop}{m:ke}(ho:y.o=some m)(hL:iP W lg)(s:Sep No W w (ig r y::L))(Oe:(Lit.int .i64 t).wf=true)
  (GZ:¬(bJ m.g.m.w m.g.m.h t/\bJ m.g.m.w m.g.m.h ce)->∀w',Sep No W w' (ig r y::L)->Q 0 0 7 w')
  (uD:bJ m.g.m.w m.g.m.h t->bJ m.g.m.w m.g.m.h ce->∀r' y' w',r'.p=r.p->y'.p=GY y.p m.p t (cP m.g.m ce)->Sep No W w' (ig r' y'::L)->Q (D m.g.m t ce) (sY m.g.m t ce) 0 w'):
  B0 (sZ r.p) t ce w Q:=by
 apply Wb;refine aeH ho hL s Oe (λe eb w s=>?_) λht hc r' y' w er ey s=>?_
 ·exact aeG hL s (GZ e w (ai s))
 ·exact T2 (uD ht hc r' y' w er ey s)
end
def Pf (y:yj)(cell goal:Int):yj:=⟨y.most,y.next+1,y.us++[⟨y.next,cell,goal⟩]⟩
section
variable {F:Nat->Prop}{W w w0:World}{L:List As}{r:WI}{y:yj}{cell goal:Int}
def api {us:List aV}{u:aV}{i:Int}(h:∀v∈us,v.id<u.id):gO (us++[u]) i=if i=u.id then some u else gO us i:=by unfold gO;grind
def apj {us:List aV}{i:Int}(h:∀v∈us,v.id≠i):gO us i=none:=by unfold gO;grind
def avJ {r:WI}{mb':Nat}{a:Option Addr}{n c:Nat}{ms':List (Int×aV)}(h:Tg r y)(hroom:(y.us.length:Int)<y.most)(hn:y.next<1000000000)(hk:oU ms')(ha:∀i,fu ms' i=if i=y.next then some ⟨y.next,cell,goal⟩else fu r.ms i)(hl:ms'.length=if(fu r.ms y.next).isNone then r.ms.length+1 else r.ms.length):
  Tg ⟨r.p,mb',a,n,c,ms',r.os++[y.next]⟩ (Pf y cell goal):=by
 have hlt:∀v∈y.us,v.id<y.next:=λv hv=>(h.jE v hv).2
 have hg:∀i,gO (Pf y cell goal).us i=if i=y.next then some ⟨y.next,cell,goal⟩else gO y.us i:=λi=>api hlt
 have hno:gO y.us y.next=none:=apj λv hv=>by grind
 refine⟨h.most,hk,λi=>?_,?_,?_,?_,?_,?_,?_,?_,?_⟩
 ·rw[hg,ha,h.fu]
 ·show ms'.length=(y.us++[_]).length;rw[hl,h.fu,hno,List.length_append,h.len];rfl
 ·show(r.os++[y.next]).filter _=(y.us++[_]).map _;rw[List.filter_append,List.map_append,<-h.ord];congr 1
  ·refine List.filter_congr λi hi=>?_;have:=(h.onx i hi).2;grind
  grind
 ·show(r.os++[_]).length<=2*(y.us++[_]).length;have:=h.aiQ;grind
 ·show((y.us++[_]).map _).Pairwise _;rw[List.map_append,List.pairwise_append];refine⟨h.NV,by simp,λa ha b hb=>?_⟩;grind
 ·intro u hu;show 0<=u.id/\u.id<y.next+1
  rcases List.mem_append.1 hu with hu|hu
  ·have:=h.jE u hu;omega
  ·rw[List.mem_singleton]at hu;subst hu;have:=h.Kc;grind
 ·show((y.us++[_]).length:Int)<=y.most;grind
 ·intro i hi;show 0<=i/\i<y.next+1
  rcases List.mem_append.1 hi with hi|hi
  ·have:=h.onx i hi;omega
  ·rw[List.mem_singleton]at hi;have:=h.Kc;omega
 ·have:=h.Kc;show 0<=y.next+1/\y.next+1<=1000000000
  omega
def acN {Q:Int->Bool->World->Prop}(s:Sep F W w (v7 r y::L))(hn:y.next<1000000000)(hroom:(y.us.length:Int)<y.most)
  (h:∀r' w',r'.p=r.p->Sep F W w' (v7 r' (Pf y cell goal)::L)->Q y.next true w'):yT (sZ r.p) cell goal w Q:=by
 apply Qo;obtain⟨hok,s⟩:=uS (ay s);refine kT (ah (lM s 0 rfl (ah (lI s 0 rfl ?_))));apply aqY KO s (i:=1) rfl;refine⟨ck s 0 rfl,?_⟩;rw[hok.len,bu];have RC:=hok.Kc;refine ah (lI s 0 rfl (ah (lI s 0 rfl ?_)));rw[HL (iG.wf (by unfold iG;omega))];refine ah (sT s 0 rfl λw s=>?_);refine ah (lM s 0 rfl ?_);refine Mg (ms:=r.ms) (a:=⟨y.next,cell,goal⟩) KO s (i:=1) rfl hok.FN (by show iG y.next;unfold iG;omega) λms' w hk ha hl s=>?_;refine ah (lS s 0 rfl ?_);have s:=pk 3 [2,0,1] s;have hol:=hok.aiQ;have XG:=hok.most;have Cq:=(aN s (i:=0) rfl cv (by decide)).len;refine LQ s (by omega) λa' c' w s=>?_;refine ah (av s (i:=1) rfl rfl rfl λw s=>?_);refine h ⟨r.p,r.mb,a',r.on+1,c',ms',r.os++[y.next]⟩ w rfl (Fa ?_ (avJ hok hroom hn hk ha hl));exact pk 3 [1,2,0] s
end
def vT (y:yj)(id:Int)(f:aV->aV):yj:=⟨y.most,y.next,y.us.map λv=>if v.id=id then f v else v⟩
section
variable {F:Nat->Prop}{W w w0:World}{L:List As}{r:WI}{y:yj}{cell goal id:Int}{f:aV->aV}
def afN (hf:∀u,(f u).id=u.id){i:Int}:∀{us:List aV},gO (us.map λv=>if v.id=id then f v else v) i=if i=id then(gO us id).map f else gO us i
 |[]=>by simp[gO]
 |u::us=>by have ih:=afN (i:=i) hf (us:=us);unfold gO at ih⊢;grind
def ari (hf:∀u,(f u).id=u.id){us:List aV}:(us.map λv=>if v.id=id then f v else v).map (·.id)=us.map (·.id):=by rw[List.map_map];refine List.map_congr_left λv _=>?_;grind
def atE {u:aV}{ms':List (Int×aV)}(h:Tg r y)(hf:∀u,(f u).id=u.id)(hu:gO y.us id=some u)(hk:oU ms')(ha:∀i,fu ms' i=if i=id then some (f u)else fu r.ms i)(hl:ms'.length=if(fu r.ms id).isNone then r.ms.length+1 else r.ms.length):
  Tg ⟨r.p,r.mb,r.oa,r.on,r.oc,ms',r.os⟩ (vT y id f):=by
 have hg:∀i,gO (vT y id f).us i=if i=id then(gO y.us id).map f else gO y.us i:=λi=>afN hf
 have J0:(vT y id f).us.map (·.id)=y.us.map (·.id):=ari hf;have hlen:(vT y id f).us.length=y.us.length:=by have:=congrArg List.length J0;grind
 refine⟨h.most,hk,λi=>?_,?_,?_,?_,?_,?_,?_,h.onx,h.Kc⟩
 ·rw[hg,ha,h.fu,hu];rfl
 ·rw[hlen,hl,h.fu,hu,<-h.len];rfl
 ·rw[J0,<-h.ord];grind
 ·rw[hlen];exact h.aiQ
 ·rw[J0];exact h.NV
 ·intro v hv;have hm:v.id∈(vT y id f).us.map (·.id):=List.mem_map.2 ⟨v,hv,rfl⟩;rw[J0]at hm;obtain⟨v',hv',e⟩:=List.mem_map.1 hm;rw[<-e];exact h.jE v' hv'
 ·rw[hlen];exact h.nS
def Og {Q:Bool->World->Prop}{W7:Value}(AU:iG id)(hf:∀u,(f u).id=u.id)
  (awS:∀(x:Nat) (w:World) (u:aV) (K:World->Prop),Sep F W w (ax x 43 (gX u)::v7 r y::L)->(∀w',Sep F W w' (ax x 43 (gX (f u))::v7 r y::L)->K w')->ik (cx 25) W7 [.pointer (sZ x)] w λv w'=>dT v λl=>kN l (K w'))
  (s:Sep F W w (v7 r y::L))(hno:gO y.us id=none->∀w',Sep F W w' (v7 r y::L)->Q false w')
  (hyes:(gO y.us id).isSome=true->∀r' w',r'.p=r.p->Sep F W w' (v7 r' (vT y id f)::L)->Q true w'):sq (sZ r.p) id W7 w Q:=by
 apply Qu;refine sI s AU (λhn w s=>?_) λu hu w s=>?_
 ·refine aT s λx w s=>?_;refine sT s 0 rfl λw s=>?_;refine sT s 0 rfl λw s=>?_;refine sT s 0 rfl λw s=>?_;exact hno hn w (ai s)
 ·refine aT s λx w s=>?_;refine sT s 0 rfl λw s=>?_;refine sT s 0 rfl λw s=>?_;refine av s (i:=0) rfl rfl rfl λw s=>?_;refine awS x w u _ s λw s=>?_;have s:=ay s;obtain⟨hok,s⟩:=uS (jr s);refine ah (lM s 0 rfl ?_);refine lI s 3 rfl (lI s 3 rfl (lI s 3 rfl ?_));refine Mg KO s (i:=1) rfl hok.FN AU λms' w hk ha hl s=>?_;refine hyes (by rw[hu];rfl) ⟨r.p,r.mb,r.oa,r.on,r.oc,ms',r.os⟩ w rfl (Fa ?_ (atE hok hf hu hk ha hl));exact pk 4 [0,1,2] s
def aAH:oY 156 fns=true:=by kernel_rfl
def aAI:oY 128 fns=true:=by kernel_rfl
def amy {m x b:Nat}{Q:World->Prop}(h:B3 (sZ x) (sZ b) w Q):ik (cx m) (.func (.func 156) #[] #[.pointer (sZ b)]) [.pointer (sZ x)] w λv w'=>dT v λl=>kN l (Q w'):=by unfold ik;simp only;exact h
def apk {m x b:Nat}{Q:World->Prop}(h:Dm (sZ x) (sZ b) w Q):ik (cx m) (.func (.func 128) #[] #[.pointer (sZ b)]) [.pointer (sZ x)] w λv w'=>dT v λl=>kN l (Q w'):=by unfold ik;simp only;exact h
def aaG {Q:Bool->World->Prop}(AU:iG id)(s:Sep F W w (v7 r y::L))(hno:gO y.us id=none->∀w',Sep F W w' (v7 r y::L)->Q false w')
  (hyes:(gO y.us id).isSome=true->∀r' w',r'.p=r.p->Sep F W w' (v7 r' (vT y id λu=>⟨u.id,cell,u.goal⟩)::L)->Q true w'):xU (sZ r.p) id cell w Q:=by
 apply O1;refine aM s λcb w s=>?_;refine Og (f:=λu=>⟨u.id,cell,u.goal⟩) AU (λu=>rfl) (λx w u K s hK=>?_) (jr s) (λhn w s=>hno hn w (gj s (.cons_cons _ (List.sublist_cons_self _ _)))) (λhs r' w e s=>hyes hs r' w e (gj s (.cons_cons _ (List.sublist_cons_self _ _))));apply amy;apply LI;refine ah (lI s 2 rfl (ah (sT s 0 rfl λw s=>?_)));exact hK w s
def acO {Q:Bool->World->Prop}(AU:iG id)(s:Sep F W w (v7 r y::L))(hno:gO y.us id=none->∀w',Sep F W w' (v7 r y::L)->Q false w')
  (hyes:(gO y.us id).isSome=true->∀r' w',r'.p=r.p->Sep F W w' (v7 r' (vT y id λu=>⟨u.id,u.cell,goal⟩)::L)->Q true w'):yS (sZ r.p) id goal w Q:=by
 apply Qv;refine aM s λcb w s=>?_;refine Og (f:=λu=>⟨u.id,u.cell,goal⟩) AU (λu=>rfl) (λx w u K s hK=>?_) (jr s) (λhn w s=>hno hn w (gj s (.cons_cons _ (List.sublist_cons_self _ _)))) (λhs r' w e s=>hyes hs r' w e (gj s (.cons_cons _ (List.sublist_cons_self _ _))));apply apk;apply MS;refine ah (lI s 2 rfl (ah (sT s 0 rfl λw s=>?_)));exact hK w s
end
section
variable {F:Nat->Prop}{W w w0:World}{L:List As}{r:WI}{y:yj}{cell goal id:Int}{a:Option Addr}{n c:Nat}{us:List aV}
def arj {x:aV}{K:Option Addr->Nat->Nat->World->Prop}(s:Sep F W w (ak a n c 43 3 (flat gX us)::L))(hn:n<=1000000000)
  (k:∀a' c' w',Sep F W w' (ak a' (n+1) c' 43 3 (flat gX (us++[x]))::L)->K a' (n+1) c' w'):Bx [ae x.id,ae x.cell,ae x.goal] 43 w λp w1=>App P #[39,39] 39 (.slice a n c) (.slice (some p) 1 1) w1 K:=by
 refine aM s λb w s=>?_;have src:Src w (sZ b) 1 3 (gX x):=⟨rfl,aoN x,λj u hj=>by rw[cq,Nat.zero_add];exact cF s (i:=0) rfl rfl hj⟩;refine iq dQ s (i:=1) (bytes:=24) rfl rfl rfl rfl rfl rfl (by decide) rfl src (by simp[maxLen];omega) (by omega) (λe=>by cases e) λa1 c1 w1 s1=>?_;have e:flat gX us++gX x=flat gX (us++[x]):=by rw[fZ];simp[flat]
 rw[e]at s1;exact k _ _ _ (ai s1)
def XH (h:(us.map (·.id)).Pairwise (·<·)){i:Nat}{u:aV}(hu:us[i]? =some u):gO us u.id=some u:=by
 unfold gO;induction us generalizing i with
 |nil=>simp at hu
 |cons v us ih=>
  rw[List.map_cons,List.pairwise_cons]at h;cases i with
  |zero=>
   grind
  |succ i=>
   have:=h.1 u.id (List.mem_map.2 ⟨u,List.mem_of_getElem? hu,rfl⟩);grind
def acP {Q:Option Addr->Nat->Nat->World->Prop}(s:Sep F W w (v7 r y::L))(h:∀a n c w',Sep F W w' (ak a n c 43 3 (flat gX y.us)::v7 r y::L)->Q a n c w'):yP (sZ r.p) w Q:=by
 apply QL;obtain⟨hok,s⟩:=uS s;have o7:=hok.nS;have XG:=hok.most;have hol:=hok.aiQ;have RC:=hok.Kc;apply kT;refine YZ hok.FN (λi hi=>by have:=hok.onx i hi;unfold iG;omega) (by omega) s λia N ic w s=>?_;have ay8:(r.os.filter λi=>(fu r.ms i).isSome)=y.us.map (·.id):=by rw[<-hok.ord];refine List.filter_congr λi _=>?_;rw[hok.fu]
 rw[ay8]at s;have hN:y.us.length=N:=by have:=(aN s (i:=0) rfl cv (by decide)).len;grind
 have loop:∀(j i:Nat) (a:Option Addr) (n c:Nat) (w:World),i+j=N->Sep F W w (ak a n c 43 3 (flat gX (y.us.take i))::ak ia N ic 3 1 (flat one (y.us.map (·.id)))::ax r.p 171 (WJ r y)::fO fo IK r.mb r.ms::ak r.oa r.on r.oc 3 1 (flat one r.os)::L)->
   vS Q (j+1) (sZ r.p) a n c ia N ic (N:Int) i w:=by
  intro j;induction j with
  |zero=>
   intro i a n c w hij s;show qP _ _ _ _ _ _ _ _ _ _ _ _;rw[qP,bu];rw[List.take_of_length_le (by omega)]at s;apply h a n c w;have s:=pk 5 [2,3,4,0] s;exact b_ (Fa s hok) (List.Perm.swap _ _ _)
  |succ j ih=>
   intro i a n c w hij s;show qP _ _ _ _ _ _ _ _ _ _ _ _;rw[qP,bK];have hi:i<y.us.length:=by omega
   have hn:=(aN s (i:=0) rfl CB (by decide)).len;rw[List.length_take]at hn;obtain⟨u,hu⟩:∃u,y.us[i]? =some u:=⟨_,List.getElem?_eq_getElem hi⟩;have hgi:gi (y.us.map (·.id)) i=u.id:=by unfold gi;grind
   have yl:y.us.take (i+1)=y.us.take i++[u]:=by rw[List.take_add_one,hu];rfl
   have hr:=hok.jE u (List.mem_of_getElem? hu);have hgu:=XH hok.NV hu;have wr:IntKind.wrap .i64 ((i:Int)+1)=((i+1:Nat):Int):=by rw[HL (iG.wf (by unfold iG;omega))];omega
   apply(aN s (i:=1) rfl cv (by decide)).qD rfl (by omega);rw[hgi];refine ah (lM s 2 rfl ?_);refine ED (K:=fo) KO (aaw w) s (i:=3) rfl hok.FN (by show iG u.id;unfold iG;omega) (λh=>?_) λv hv=>?_
   ·rw[hok.fu,hgu]at h;cases h
   ·rw[hok.fu,hgu]at hv;cases hv;refine arj s (by omega) λa' c' w s=>?_;grind
 exact⟨N+1,loop N 0 none 0 0 w (by omega) (bC s 43 3)⟩
end
def kY (y:yj)(id:Int):yj:=⟨y.most,y.next,y.us.filter λv=>!decide (v.id=id)⟩
section
variable {F:Nat->Prop}{W w w0:World}{L:List As}{r:WI}{y:yj}{id:Int}
def apl {us:List aV}{i:Int}:gO (us.filter λv=>!decide (v.id=id)) i=if i=id then none else gO us i:=by unfold gO;grind
def ark {us:List aV}:(us.filter λv=>!decide (v.id=id)).map (·.id)=(us.map (·.id)).filter λi=>!decide (i=id):=by rw[List.filter_map];rfl
def aaH {us:List aV}(h:(us.map (·.id)).Pairwise (·<·))(hu:(gO us id).isSome=true):(us.filter λv=>!decide (v.id=id)).length=us.length-1:=by
 unfold gO at hu;induction us with
 |nil=>simp at hu
 |cons u us ih=>
  rw[List.map_cons,List.pairwise_cons]at h;by_cases e:u.id=id
  ·rw[List.filter_cons_of_neg (by simp[e]),List.length_cons,Nat.add_sub_cancel];refine congrArg List.length (List.filter_eq_self.2 λv hv=>?_);have:=h.1 v.id (List.mem_map.2 ⟨v,hv,rfl⟩);grind
  grind
def alh {ms':List (Int×aV)}{oa:Option Addr}{on oc:Nat}{os':List Int}(h:Tg r y)(hu:(gO y.us id).isSome=true)(hk:oU ms')(ha:∀i,fu ms' i=if i=id then none else fu r.ms i)(hl:ms'.length=if(fu r.ms id).isNone then r.ms.length else r.ms.length-1)
  (hos:(os'=r.os/\os'.length<=2*(kY y id).us.length)\/os'=r.os.filter λi=>(fu ms' i).isSome):Tg ⟨r.p,r.mb,oa,on,oc,ms',os'⟩ (kY y id):=by
 have hg:∀i,gO (kY y id).us i=if i=id then none else gO y.us i:=λi=>apl
 have J0:(kY y id).us.map (·.id)=(y.us.map (·.id)).filter λi=>!decide (i=id):=ark;have hlen:(kY y id).us.length=y.us.length-1:=aaH h.NV hu;have hsub:∀v∈(kY y id).us,v∈y.us:=λv hv=>(List.mem_filter.1 hv).1;have WD:∀i,fu ms' i=gO (kY y id).us i:=λi=>by rw[hg,ha,h.fu]
 have ay9:((kY y id).us.map (·.id)).Pairwise (·<·):=by rw[J0];exact h.NV.filter _
 have aCq:r.os.filter (λi=>(gO (kY y id).us i).isSome)=(kY y id).us.map (·.id):=by rw[J0,<-h.ord,List.filter_filter];grind
 have Oh:os'=r.os/\os'.length<=2*(kY y id).us.length\/os'=(kY y id).us.map (·.id):=by grind
 refine⟨h.most,hk,WD,?_,?_,?_,ay9,λv hv=>h.jE v (hsub v hv),?_,λi hi=>?_,h.Kc⟩
 ·rw[hlen,hl,h.fu,<-h.len];cases hu':gO y.us id with
  |none=>grind
  |some _=>rfl
 ·rcases Oh with⟨e,_⟩|e
  ·grind
  ·rw[e];refine List.filter_eq_self.2 λi hi=>?_;grind
 ·grind
 ·have:=h.nS;show((kY y id).us.length:Int)<=y.most;omega
 ·rcases Oh with⟨e,_⟩|e
  ·rw[e]at hi;exact h.onx i hi
  ·rw[e]at hi;obtain⟨v,hv,rfl⟩:=List.mem_map.1 hi;exact h.jE v (hsub v hv)
def aaI {Q:Bool->World->Prop}(AU:iG id)(s:Sep F W w (v7 r y::L))(hu:(gO y.us id).isSome=true)
  (hyes:∀r' w',r'.p=r.p->Sep F W w' (v7 r' (kY y id)::L)->Q true w'):xS (sZ r.p) id w Q:=by
 apply OM;refine sI s AU (λhn w s=>by grind) λu hu' w s=>?_;refine aT s λx w s=>?_;refine sT s 0 rfl λw s=>?_;refine sT s 0 rfl λw s=>?_;refine sT s 0 rfl λw s=>?_;rw[Bool.not_true,cond_false];obtain⟨hok,s⟩:=uS (ai s);have o7:=hok.nS;have XG:=hok.most;have hol:=hok.aiQ;have RC:=hok.Kc;have Cq:=(aN s (i:=2) rfl cv (by decide)).len;refine ah (lM s 0 rfl ?_);refine avn (K:=fo) KO s (i:=1) rfl hok.FN AU λms' w hk ha hl s=>?_;have s:=ay s;have hml:ms'.length=(kY y id).us.length:=by rw[hl,hok.fu,hu',hok.len];exact(aaH hok.NV hu).symm
 have hdl:(kY y id).us.length=y.us.length-1:=aaH hok.NV hu;refine ah (lS s 0 rfl (ah (lM s 0 rfl ?_)));apply aqY KO s (i:=1) rfl;refine⟨ck s 0 rfl,?_⟩;rw[HL (iG.wf (by unfold iG;omega))];by_cases ahB:(r.on:Int)>2*((ms'.length:Nat):Int)
 ·rw[bK ahB];refine YZ hk (λi hi=>by have:=hok.onx i hi;unfold iG;omega) (by omega) s λa n c w s=>?_;refine ah (av s (i:=1) rfl rfl rfl λw s=>?_);refine hyes ⟨r.p,r.mb,a,n,c,ms',_⟩ w rfl (Fa ?_ (alh hok hu hk ha hl (.inr rfl)));exact pk 4 [1,2,0] s
 ·rw[bu ahB];exact hyes ⟨r.p,r.mb,r.oa,r.on,r.oc,ms',r.os⟩ _ rfl (Fa s (alh hok hu hk ha hl (.inl ⟨rfl,by omega⟩)))
end
def EG (out:List Int)(u:aV):List Int:=if u.goal∈out then out else out++[u.goal]
def tI (us:List aV):List Int:=us.foldl EG []
def apm {us:List aV}:(tI us).length<=us.length:=by
 have:∀(us:List aV) (out:List Int),(us.foldl EG out).length<=out.length+us.length:=by
  intro us;induction us with
  |nil=>grind
  |cons u us ih=>
   intro out;have h2:(EG out u).length<=out.length+1:=by unfold EG;grind
   grind
 have:=this us [];simpa[tI]using this
def De (b:Bool):Value:=.bool b
def Pg:P.underlying 258=some (.map 3 4):=by kernel_rfl
def aaJ (w:World):(zeroValue 4).run P w=.ok (De false) w:=by kernel_rfl
section
variable {F:Nat->Prop}{W w w0:World}{L:List As}{la:Option Addr}{ln lc:Nat}{us:List aV}
def aaK {Q:Option Addr->Nat->Nat->World->Prop}(s0:Sep F W w0 L)(hU:Sl w0 la ln lc 3 gX us)(qi:ln<=1000000)(AU:∀u∈us,iG u.goal)
  (h:∀a n c w',Sep F W w' (ak a n c 3 1 (flat one (tI us))::L)->Fr No w0 w'->Q a n c w'):EV la ln lc w0 Q:=by
 apply Z2;have hlen:=hU.len;refine aav (aX (F:=No)) 258 fo De λmb w s=>?_;have loop:∀(j i:Nat) (a:Option Addr) (n c:Nat) (ms:List (Int×Bool)) (w:World),i+j=ln->n<=i->oU ms->(∀g,fu ms g=if g∈tI (us.take i)then some true else none)->Sep No w0 w (ak a n c 3 1 (flat one (tI (us.take i)))::fO fo De mb ms::[])->
   C9 Q (j+1) a n c (some mb) la ln lc (ln:Int) i w:=by
  intro j;induction j with
  |zero=>
   intro i a n c ms w hij hni hk ha s;show zu _ _ _ _ _ _ _ _ _ _ _ _;rw[zu,bu];rw[List.take_of_length_le (by omega)]at s;have s:=bY (L':=[ak a n c 3 1 (flat one (tI us))]) [0] s rfl (by decide);exact h a n c w (fq s0 s) (aq s)
  |succ j ih=>
   intro i a n c ms w hij hni hk ha s;show zu _ _ _ _ _ _ _ _ _ _ _ _;rw[zu,bK];refine(hU.fr (aq s)).El rfl (by omega) λp u hu hc=>?_;have hug:=AU u (List.mem_of_getElem? hu);have yl:tI (us.take (i+1))=EG (tI (us.take i)) u:=by unfold tI;rw[List.take_add_one,hu];grind
   have wr:IntKind.wrap .i64 ((i:Int)+1)=((i+1:Nat):Int):=by rw[HL (iG.wf (by unfold iG;omega))];omega
   refine aJ (hc 0 _ rfl) (aJ (hc 1 _ rfl) (aJ (hc 2 _ rfl) ?_));refine aT s λx w s=>?_;refine sT s 0 rfl λw s=>?_;refine sT s 0 rfl λw s=>?_;refine av s (i:=0) rfl rfl rfl λw s=>?_;apply lI s 0 rfl;rw[wr];refine ED (K:=fo) Pg (aaJ w) s (i:=2) rfl hk hug (λhn=>?_) λb hb=>?_
   ·have hno:u.goal∉tI (us.take i):=λhm=>by rw[ha,if_pos hm]at hn;cases hn
    apply lI s 0 rfl;refine Mg Pg s (i:=2) rfl hk hug λms' w hk' Ek hl' s=>?_;apply lI s 0 rfl;have s:=bY (L':=[_,_,_]) [1,0,2] s rfl (by decide);refine LQ s (by omega) λa' c' w s=>?_;refine ih (i+1) a' (n+1) c' ms' w (by omega) (by omega) hk' (λg=>?_) ?_
    ·rw[Ek,ha,yl];rw[EG,if_neg hno];by_cases e:g=u.goal
     ·rw[if_pos e,if_pos (by rw[e];simp)]
     ·have:(g∈tI (us.take i)++[u.goal])↔g∈tI (us.take i):=by simp[e]
      rw[if_neg e];simp[this]
    ·rw[yl];rw[EG,if_neg hno];exact bY (L':=[_,_]) [0,2] s rfl (by decide)
   ·have hm:u.goal∈tI (us.take i):=by
     rw[ha]at hb;split at hb
     ·assumption
     ·cases hb
    rw[ha,if_pos hm]at hb;cases hb;refine ih (i+1) a n c ms w (by omega) (by omega) hk (λg=>?_) ?_
    ·rw[ha,yl];rw[EG,if_pos hm]
    ·rw[yl];rw[EG,if_pos hm];exact ai s
 exact⟨ln+1,loop ln 0 none 0 0 [] w (by omega) (by omega) List.Pairwise.nil (λg=>rfl) (bC s 3 1)⟩
end
end Go.Proofs.YtmegplnmiepfbaaGreatDoor.S
namespace Go.Proofs.YtmegplnmiepfbaaGreatDoor.S
open Go.Sx
def afO {F:Nat->Prop}{W w:World}{L:List As}{K:Option Nat->World->Prop}{n:Int}{k' e:TypeId}{P:Program}{t:TypeId}(ht:P.underlying t=some (.map k' e))(s:Sep F W w L)(k:TypeId)(h:∀b w',Sep F W w' (mapA P k b []::L)->K (some b) w'):cM P t (some (ae n)) w K:=by
 unfold Sx.cM aQ;have e:(Instr.makeMap t (some (ae n))).run P w=.ok (.map (some w.heap.size)) (w.alloc (.map #[] 0)):=by simp[Instr.makeMap,newObj,run_underlying ht,asInt,Result.andThen];rfl
 rw[e];refine h _ _ (HK s (Fr.alloc Fr.refl _) ?_ λx hx=>?_)
 ·exact⟨#[],0,heap_alloc_new w _,rfl,by simp⟩
 ·have hx:x=w.heap.size:=hx;omega
attribute [local irreducible] af cQ bG bp aA cE cw St Bx Al App cV cO cM bZ aQ bI au cj ax ak bg mapA
structure oh (w h:Int) (us:List aV):Prop where
 wh:iM w h
 ids:(us.map (·.id)).Pairwise (·<·)
 pos:∀u∈us,0<=u.id
 at_:∀u∈us,bJ w h u.cell/\bJ w h u.goal
 nd:(us.map (·.cell)).Nodup
section
variable {F:Nat->Prop}{W w w0:World}{L:List As}{la:Option Addr}{ln lc:Nat}{us:List aV}{mw mh:Int}
def Az {c:Int}(h:bJ mw mh c):iG c:=by have:=pA h.1;have:=h.2;unfold iG;omega
def RD {Q:Bool->World->Prop}(s0:Sep F W w0 L)(hU:Sl w0 la ln lc 3 gX us)(qi:ln<=1000000)(hm:oh mw mh us)
  (h:∀w',Sep F W w' L->Fr No w0 w'->Q true w'):CQ mw mh la ln lc w0 Q:=by
 apply adW;apply pW;rw[decide_eq_true hm.wh,Bool.not_true,cond_false];refine afO Pg (aX (F:=No)) 3 λmb w s=>?_;have s:=s;have loop:∀(j i:Nat) (last:Int) (ms:List (Int×Bool)) (w:World),i+j=ln->(∀u∈us.drop i,last<u.id)->oU ms->(∀g,fu ms g=if g∈(us.take i).map (·.cell)then some true else none)->Sep No w0 w (fO fo De mb ms::[])->
   Gt Q (j+1) mw mh last (some mb) la ln lc (ln:Int) i w:=by
  intro j;induction j with
  |zero=>
   intro i last ms w hij hl hk ha s;show Cm _ _ _ _ _ _ _ _ _ _ _ _;rw[Cm,bu];exact h w (fq s0 (ai s)) (aq s)
  |succ j ih=>
   intro i last ms w hij hl hk ha s;show Cm _ _ _ _ _ _ _ _ _ _ _ _;rw[Cm,bK];refine(hU.fr (aq s)).El rfl (by omega) λp u hu hc=>?_;have hmem:=List.mem_of_getElem? hu;obtain⟨YT,Vl⟩:=hm.at_ u hmem;have hd:us.drop i=u::us.drop (i+1):=by have hi:=(List.getElem?_eq_some_iff.1 hu).1;rw[List.drop_eq_getElem_cons hi];have:=(List.getElem?_eq_some_iff.1 hu).2;rw[this]
   have yl:us.take (i+1)=us.take i++[u]:=by rw[List.take_add_one,hu];rfl
   have hno:u.cell∉(us.take i).map (·.cell):=λhin=>by have hnd:=hm.nd;rw[<-List.take_append_drop i us,hd,List.map_append,List.map_cons,List.nodup_append]at hnd;exact hnd.2.2 _ hin _ (List.mem_cons_self ..) rfl
   have awz:=hl u (by rw[hd];exact List.mem_cons_self ..);have awT:∀v∈us.drop (i+1),u.id<v.id:=λv hv=>by have hp:=hm.ids;rw[<-List.take_append_drop i us,hd,List.map_append,List.map_cons,List.pairwise_append]at hp;exact(List.pairwise_cons.1 hp.2.1).1 v.id (List.mem_map.2 ⟨v,hv,rfl⟩)
   have wr:IntKind.wrap .i64 ((i:Int)+1)=((i+1:Nat):Int):=by rw[HL (iG.wf (by unfold iG;omega))];omega
   refine aJ (hc 0 _ rfl) (aJ (hc 1 _ rfl) (aJ (hc 2 _ rfl) ?_));refine aT s λx w s=>?_;refine sT s 0 rfl λw s=>?_;refine sT s 0 rfl λw s=>?_;refine av s (i:=0) rfl rfl rfl λw s=>?_;apply lI s 0 rfl;rw[bu];apply lI s 0 rfl;refine eY s λw s _=>?_;have h1:=(bT YT).2.1;have h2:=(bT Vl).2.1;rw[bu];apply lI s 0 rfl;refine eY s λw s _=>?_;rw[bu];apply lI s 0 rfl;rw[wr];refine ED (K:=fo) Pg (aaJ w) s (i:=1) rfl hk (Az YT) (λhn=>?_) λb hb=>?_
   ·have s:=ay s;refine lI s 0 rfl (lI s 0 rfl ⟨ck s 0 rfl,?_⟩);refine Mg Pg s (i:=1) rfl hk (Az YT) λms' w hk' Ek hl' s=>?_;refine ih (i+1) u.id ms' w (by omega) awT hk' (λg=>?_) (ai s);rw[Ek,ha,yl,List.map_append];by_cases e:g=u.cell
    ·rw[if_pos e,if_pos (by rw[e];simp)]
    ·have:(g∈(us.take i).map (·.cell)++[u].map (·.cell))↔g∈(us.take i).map (·.cell):=by simp[e]
     rw[if_neg e];simp only[this]
   ·rw[ha,if_neg hno]at hb;cases hb
 exact⟨ln+1,loop ln 0 (-1) [] w (by omega) (λu hu=>by have:=hm.pos u (List.mem_of_mem_drop hu);omega) List.Pairwise.nil (λg=>rfl) s⟩
end
end Go.Proofs.YtmegplnmiepfbaaGreatDoor.S
namespace Go.Proofs.YtmegplnmiepfbaaGreatDoor.S
open Go.Sx
def stand (us:List aV)(c:Int):Bool:=us.any λv=>decide (v.cell=c)
def uG (w h:Int)(st:List aV)(u:aV)(d:Int):Bool:=decide (0<=bf w h u.cell d)&&!stand st (bf w h u.cell d)
def nX (w h:Int)(u:aV)(d:Int):List aV:=if bf w h u.cell d=u.goal then[]else[⟨u.id,bf w h u.cell d,u.goal⟩]
def dK (w h:Int):List aV->List (aV×Int)->List aV×List (Int×Int)×List Int
 |done,[]=>(done,[],[])
 |done,(u,d)::rest=>
  if uG w h (done++u::rest.map (·.1)) u d=true then
   ((dK w h (done++nX w h u d) rest).1,(u.id,bf w h u.cell d)::(dK w h (done++nX w h u d) rest).2.1,(if bf w h u.cell d=u.goal then[u.id]else[])++(dK w h (done++nX w h u d) rest).2.2)
  else dK w h (done++[u]) rest
section
variable {w h d:Int}{done us:List aV}{u:aV}{rest todo:List (aV×Int)}
def Io (hb:uG w h (done++u::rest.map (·.1)) u d=true):dK w h done ((u,d)::rest)=((dK w h (done++nX w h u d) rest).1,(u.id,bf w h u.cell d)::(dK w h (done++nX w h u d) rest).2.1,(if bf w h u.cell d=u.goal then[u.id]else[])++(dK w h (done++nX w h u d) rest).2.2):=by rw[dK,if_pos hb]
def Ip (hb:uG w h (done++u::rest.map (·.1)) u d=false):dK w h done ((u,d)::rest)=dK w h (done++[u]) rest:=by rw[dK,if_neg (by grind)]
def afP {c:Int}:stand us c=true↔c∈us.map (·.cell):=by unfold stand;grind
def aeJ:uG w h us u d=true↔0<=bf w h u.cell d/\bf w h u.cell d∉us.map (·.cell):=by rw[uG,Bool.and_eq_true,decide_eq_true_eq,<-afP];grind
def oh.sub {us':List aV}(hm:oh w h us)(hs:us'.Sublist us):oh w h us':=
 ⟨hm.wh,hm.ids.sublist (hs.map _),λv hv=>hm.pos v (hs.subset hv),λv hv=>hm.at_ v (hs.subset hv),hm.nd.sublist (hs.map _)⟩
def oh.W7 {v:aV}{us':List aV}(hm:oh w h (done++u::us'))(AU:v.id=u.id)(hc:bJ w h v.cell)(hg:bJ w h v.goal)(hn:v.cell∉(done++us').map (·.cell)):oh w h (done++v::us'):=by
 have hmem:∀x∈done++v::us',x=v\/x∈done++u::us':=λx hx=>by grind
 have hu:u∈done++u::us':=by simp
 refine⟨hm.wh,?_,λx hx=>?_,λx hx=>?_,?_⟩
 ·have:=hm.ids;grind
 ·rcases hmem x hx with rfl|hx
  ·rw[AU];exact hm.pos u hu
  ·exact hm.pos x hx
 ·rcases hmem x hx with rfl|hx
  ·grind
  ·exact hm.at_ x hx
 ·have h0:=hm.nd;grind
def ajj (hb:uG w h us u d=true):bJ w h (bf w h u.cell d):=(zZ (aeJ.1 hb).1).2
def ajk {us':List aV}(hm:oh w h (done++u::us'))(hb:uG w h (done++u::us') u d=true):oh w h ((done++nX w h u d)++us'):=by
 obtain⟨h0,h1⟩:=aeJ.1 hb;rw[List.append_assoc];unfold nX;split
 ·exact hm.sub (List.Sublist.append_left (List.sublist_cons_self _ _) _)
 ·refine hm.W7 rfl (ajj hb) (hm.at_ u (by simp)).2 λhin=>h1 ?_;grind
def W9:∀(todo:List (aV×Int)) (done:List aV),oh w h (done++todo.map (·.1))->oh w h (dK w h done todo).1
 |[],done,hm=>by simpa[dK]using hm
 |(u,d)::rest,done,hm=>by
  cases hb:uG w h (done++u::rest.map (·.1)) u d with
  |true=>
   rw[Io hb];exact W9 rest _ (ajk hm hb)
  |false=>
   rw[Ip hb];exact W9 rest _ (by grind)
def acR:∀(todo:List (aV×Int)) (done:List aV),(dK w h done todo).2.1=[]->(dK w h done todo).1=done++todo.map (·.1)
 |[],done,_=>by simp[dK]
 |(u,d)::rest,done,hm=>by
  cases hb:uG w h (done++u::rest.map (·.1)) u d with
  |true=>rw[Io hb]at hm;cases hm
  |false=>
   rw[Ip hb]at hm⊢;rw[acR rest _ hm];simp
def acS:∀(todo:List (aV×Int)) (done:List aV) {m:Int×Int} {ms:List (Int×Int)},(dK w h done todo).2.1=m::ms->
  ∃done' u d rest,uG w h (done'++u::rest.map (·.1)) u d=true/\done'++u::rest.map (·.1)=done++todo.map (·.1)/\m=(u.id,bf w h u.cell d)/\(dK w h (done'++nX w h u d) rest).2.1=ms/\(dK w h (done'++nX w h u d) rest).1=(dK w h done todo).1
 |[],done,_,_,hm=>by cases hm
 |(u,d)::rest,done,m,ms,hm=>by
  cases hb:uG w h (done++u::rest.map (·.1)) u d with
  |true=>
   rw[Io hb]at hm⊢;grind
  |false=>
   rw[Ip hb]at hm⊢;obtain⟨done',u',d',rest',h1,h2,h3⟩:=acS rest _ hm;grind
def Jr:∀(todo:List (aV×Int)) (done:List aV),(dK w h done todo).1.length+(dK w h done todo).2.2.length=done.length+todo.length/\(dK w h done todo).2.1.length<=todo.length
 |[],done=>by simp[dK]
 |(u,d)::rest,done=>by
  cases hb:uG w h (done++u::rest.map (·.1)) u d with
  |true=>
   rw[Io hb];have:=Jr rest (done++nX w h u d);have hw:(nX w h u d).length+(if bf w h u.cell d=u.goal then[u.id]else[]).length=1:=by unfold nX;split<;>rfl
   grind
  |false=>
   rw[Ip hb];have:=Jr rest (done++[u]);grind
end
end Go.Proofs.YtmegplnmiepfbaaGreatDoor.S
namespace Go.Proofs.YtmegplnmiepfbaaGreatDoor.S
open Go.Sx
attribute [local irreducible] af cQ bG bp aA cE cw St Bx Al App cV cO cM bZ aQ bI au cj ax ak bg mapA
def Oi {i:Nat}(h:i<=1000000000):IntKind.wrap .i64 ((i:Int)+1)=((i+1:Nat):Int):=by rw[HL (iG.wf (by unfold iG;omega))];omega
def jJ (x:Int×Int):List Value:=[ae x.1,ae x.2]
def FQ (x:Int×Int):(jJ x).length=2:=rfl
def apn (x:Int×Int)(u:Value)(h:u∈jJ x):u.oneCell'=true:=by unfold jJ at h;simp[List.mem_cons,List.not_mem_nil,or_false]at h;rcases h with rfl|rfl<;>rfl
section
variable {F:Nat->Prop}{W w w0:World}{L:List As}{a:Option Addr}{n c:Nat}{mv:List (Int×Int)}
def W_ {K:Addr->World->Prop}{p:Addr}{u:aV}(hc:∀j v,(gX u)[j]? =some v->w.cell? (p.add j)=some v)(s:Sep F W w L)(h:∀x w',Sep F W w' (ax x 43 (gX u)::L)->K (aZ x) w'):
  af .i64 (p.add 0) w λa=>af .i64 (p.add 1) w λb=>af .i64 (p.add 2) w λc=>Al T 43 w λx w=>St (x.add 0) (ae a) w λw=>St (x.add 1) (ae b) w λw=>St (x.add 2) (ae c) w λw=>K x w:=by
 refine aJ (hc 0 _ rfl) (aJ (hc 1 _ rfl) (aJ (hc 2 _ rfl) ?_));refine aT s λx w s=>?_;refine sT s 0 rfl λw s=>?_;refine sT s 0 rfl λw s=>?_;refine av s (i:=0) rfl rfl rfl λw s=>?_;exact h x w s
end
def Ms (ms:List (Int×Bool))(us:List aV):Prop:=oU ms/\∀c,fu ms c=if stand us c=true then some true else none
def CF {us vs:List aV}{c:Int}:stand (us++vs) c=(stand us c||stand vs c):=by unfold stand;grind
def KU {u:aV}{us:List aV}{c:Int}:stand (u::us) c=(decide (u.cell=c)||stand us c):=by unfold stand;grind
def ajl {us:List aV}{c:Int}:stand us c=false↔c∉us.map (·.cell):=by rw[<-afP];grind
def apo {w h c:Int}(hc:bJ w h c):bf w h c 4=c:=by obtain⟨h1,h2,e⟩:=IB hc;rw[bf,if_pos hc,if_neg (by decide),if_neg (by decide),if_neg (by decide),if_neg (by decide),if_pos rfl,nj hc.1 h1 h2];exact e.symm
def apq {w h c:Int}:bf w h c 5=-1:=by unfold bf;split<;>rfl
abbrev Xa (mw mh:Int)(mb:Nat)(ma:Option Addr)(mn mc:Nat)(ga:Option Addr)(gn gc:Nat):List Value:=[ae mw,ae mh,.map (some mb),.slice ma mn mc,.slice ga gn gc]
section
variable {F:Nat->Prop}{W w w0:World}{L:List As}{ma ga:Option Addr}{mn mc gn gc mb fb ub:Nat}{mv:List (Int×Int)}{gs:List Int}{ms:List (Int×Bool)}{mw mh d:Int}{done us:List aV}{u:aV}
def atG {Q:Bool->World->Prop}(hm:oh mw mh (done++u::us))(hS:Ms ms (done++u::us))(hmn:mn<=100000000)(Hs:gn<=100000000)(s:Sep F W w (ax ub 43 (gX u)::ax fb 260 (Xa mw mh mb ma mn mc ga gn gc)::fO fo De mb ms::ak ma mn mc 51 2 (flat jJ mv)::ak ga gn gc 3 1 (flat one gs)::L))
  (hno:uG mw mh (done++u::us) u d=false->∀w',Sep F W w' (ax fb 260 (Xa mw mh mb ma mn mc ga gn gc)::fO fo De mb ms::ak ma mn mc 51 2 (flat jJ mv)::ak ga gn gc 3 1 (flat one gs)::ax ub 43 (gX u)::L)->Q true w')
  (hyes:uG mw mh (done++u::us) u d=true->∀ms' ma' Mt Oj Ol gc' w',Ol<=gn+1->Ms ms' ((done++nX mw mh u d)++us)->Sep F W w' (ax fb 260 (Xa mw mh mb ma' (mn+1) Mt Oj Ol gc')::fO fo De mb ms'::ak ma' (mn+1) Mt 51 2 (flat jJ (mv++[(u.id,bf mw mh u.cell d)]))::ak Oj Ol gc' 3 1 (flat one (gs++if bf mw mh u.cell d=u.goal then[u.id]else[]))::ax ub 43 (gX ⟨u.id,bf mw mh u.cell d,u.goal⟩)::L)->Q (!decide (bf mw mh u.cell d=u.goal)) w'):
  kJ Q (sZ fb) (sZ ub) d w:=by
 have hu:=hm.at_ u (by simp);have s:=ay s;refine ah (lI s 1 rfl (ah (lI s 1 rfl (ah (lI s 0 rfl ?_)))));refine kK s λw s _=>?_;have fin:uG mw mh (done++u::us) u d=false->Q true w:=λhb=>hno hb w (pk 5 [1,2,3,4,0] s);by_cases h0:bf mw mh u.cell d<0
 ·rw[bK h0];apply fin;unfold uG;grind
 rw[bu h0];have h0:0<=bf mw mh u.cell d:=by omega
 have hto:=(zZ h0).2;refine ah (lM s 1 rfl ?_);refine ED (K:=fo) Pg (aaJ w) s (i:=2) rfl hS.1 (Az hto) (λhn=>?_) λb hb=>?_
 ·have hst:stand (done++u::us) (bf mw mh u.cell d)=false:=by
   rw[hS.2]at hn;split at hn
   ·cases hn
   ·exact Bool.eq_false_iff.2 ‹_›
  have hb:uG mw mh (done++u::us) u d=true:=by rw[uG,decide_eq_true h0,hst];rfl
  have hyes:=hyes hb;unfold nX at hyes;generalize bf mw mh u.cell d=to at*;apply aeC;have s:=ay s;refine ah (lM s 1 rfl (ah (lI s 0 rfl ?_)));refine avn (K:=fo) Pg s (i:=2) rfl hS.1 (Az hu.1) λms1 w hk1 ha1 _ s=>?_;have hcells:∀c,stand (done++us) c=if c=u.cell then false else stand (done++u::us) c:=λc=>by
   rw[CF,CF,KU];by_cases e:c=u.cell
   ·rw[if_pos e,e];have:=hm.nd;rw[List.map_append,List.map_cons,List.nodup_append,List.nodup_cons]at this;rw[ajl.2 λh=>this.2.2 _ h _ (List.mem_cons_self ..) rfl,ajl.2 this.2.1.1];rfl
   ·rw[if_neg e,decide_eq_false λh=>e h.symm,Bool.false_or]
  have hS1:Ms ms1 (done++us):=⟨hk1,λc=>by
   rw[ha1,hS.2,hcells];by_cases e:c=u.cell
   ·rw[if_pos e,if_pos e];rfl
   ·rw[if_neg e,if_neg e]⟩
  refine ah (sT s 0 rfl λw s=>?_);have s:=ay s;refine ah (lS s 1 rfl (ah (lI s 0 rfl ?_)));have s:=pk 5 [3,0,1,2,4] s;refine aM s λxb w s=>⟨ck s 3 rfl,?_⟩;have src:Src w (sZ xb) 1 2 (jJ (u.id,to)):=⟨rfl,apn _,λj v hj=>by rw[cq,Nat.zero_add];exact cF s (i:=0) rfl rfl hj⟩;refine iq dQ s (i:=1) (bytes:=16) rfl rfl rfl rfl rfl rfl (by decide) rfl src (by simp[maxLen];omega) (by omega) (λe=>by cases e) λma' Mt w s=>?_;have e:flat jJ mv++jJ (u.id,to)=flat jJ (mv++[(u.id,to)]):=by rw[fZ];simp[flat]
  rw[e]at s;refine ah (av s (i:=3) rfl rfl rfl λw s=>?_);refine ah (lI s 2 rfl ?_);have s:=ai s;by_cases hg:to=u.goal
  ·rw[d_ hg,cond_true];have s:=ay s;refine ah (lS s 2 rfl (ah (lI s 1 rfl ?_)));refine aM s λxb w s=>⟨ck s 3 rfl,?_⟩;have src:Src w (sZ xb) 1 1 (one u.id):=⟨rfl,Fk _,λj v hj=>by rw[cq,Nat.zero_add];exact cF s (i:=0) rfl rfl hj⟩;refine iq dQ s (i:=5) (size:=1) (bytes:=8) rfl rfl rfl rfl rfl rfl (by decide) rfl src (by simp[maxLen];omega) (by omega) (λe=>by cases e) λOj gc' w s=>?_;have e:flat one gs++one u.id=flat one (gs++[u.id]):=by rw[fZ];simp[flat]
   rw[e]at s;refine ah (av s (i:=3) rfl rfl rfl λw s=>?_);have s:=pk 6 [3,4,1,5,2] s;have:=hyes ms1 ma' Mt Oj (gn+1) gc' w (Nat.le_refl _) ?_ ?_
   ·rw[decide_eq_true hg]at this;exact this
   ·rw[if_pos hg,List.append_nil];exact hS1
   ·rw[if_pos hg];exact s
  ·rw[cN hg,cond_false];refine ah (lM s 2 rfl ?_);refine Mg (k:=3) (e:=4) (K:=fo) (v:=De) (ms:=ms1) (a:=true) (x:=to) Pg s (i:=3) rfl hk1 (Az hto) λms2 w IZ TZ _ s=>?_;have s:=pk 5 [2,3,0,4,1] s;have:=hyes ms2 ma' Mt ga gn gc w (Nat.le_succ _) ?_ ?_
   ·rw[decide_eq_false hg]at this;exact this
   ·rw[if_neg hg];refine⟨IZ,λc=>?_⟩;rw[TZ,hS1.2,CF,CF,CF,KU];by_cases e:c=to
    ·rw[if_pos e,e,decide_eq_true rfl];simp
    ·rw[if_neg e,decide_eq_false λh=>e h.symm];simp[stand]
   ·rw[if_neg hg,List.append_nil];exact s
 ·have hst:stand (done++u::us) (bf mw mh u.cell d)=true:=by
   rw[hS.2]at hb;split at hb
   ·assumption
   ·cases hb
  rw[hS.2,if_pos hst]at hb;cases hb;apply amo;apply fin;rw[uG,hst];simp
def aaL {Q:Bool->World->Prop}(hd:0<=d/\d<=5)(hm:oh mw mh (done++u::us))(hS:Ms ms (done++u::us))(hmn:mn<=100000000)(Hs:gn<=100000000)(s:Sep F W w (ax ub 43 (gX u)::ax fb 260 (Xa mw mh mb ma mn mc ga gn gc)::fO fo De mb ms::ak ma mn mc 51 2 (flat jJ mv)::ak ga gn gc 3 1 (flat one gs)::L))
  (hno:uG mw mh (done++u::us) u d=false->∀w',Sep F W w' (ax fb 260 (Xa mw mh mb ma mn mc ga gn gc)::fO fo De mb ms::ak ma mn mc 51 2 (flat jJ mv)::ak ga gn gc 3 1 (flat one gs)::ax ub 43 (gX u)::L)->Q true w')
  (hyes:uG mw mh (done++u::us) u d=true->∀ms' ma' Mt Oj Ol gc' w',Ol<=gn+1->Ms ms' ((done++nX mw mh u d)++us)->Sep F W w' (ax fb 260 (Xa mw mh mb ma' (mn+1) Mt Oj Ol gc')::fO fo De mb ms'::ak ma' (mn+1) Mt 51 2 (flat jJ (mv++[(u.id,bf mw mh u.cell d)]))::ak Oj Ol gc' 3 1 (flat one (gs++if bf mw mh u.cell d=u.goal then[u.id]else[]))::ax ub 43 (gX ⟨u.id,bf mw mh u.cell d,u.goal⟩)::L)->Q (!decide (bf mw mh u.cell d=u.goal)) w'):
  xV (sZ fb) (sZ ub) d w Q:=by
 apply O0;have hb:¬(4<=d)->kJ Q (sZ fb) (sZ ub) d w:=λ_=>atG hm hS hmn Hs s hno hyes;by_cases e0:d=0
 ·grind
 rw[cN e0,cond_false];by_cases e1:d=1
 ·grind
 rw[cN e1,cond_false];by_cases e2:d=2
 ·grind
 rw[cN e2,cond_false];by_cases e3:d=3
 ·grind
 rw[cN e3,cond_false];refine hno ?_ w (pk 5 [1,2,3,4,0] s);have hu:=(hm.at_ u (by simp)).1;unfold uG;obtain rfl|rfl:d=4\/d=5:=by omega
 ·rw[apo hu,CF,KU,decide_eq_true rfl];simp
 ·rw[apq];rfl
end
def aAJ:oY 153 fns=true:=by kernel_rfl
section
variable {F:Nat->Prop}{W w w0:World}{L:List As}{la da:Option Addr}{ln lc dn dc:Nat}{us:List aV}{ds:List Int}{mw mh:Int}
def arl {Q:Bool->World->Prop}(hD:Sl w da dn dc 1 one ds)(hr:∀d∈ds,0<=d/\d<=5)(hn:dn<=1000000)(h:Q false w):nL da dn dc (.func (.func 153) #[] #[]) w Q:=by
 apply Ea;apply Gu;have hl:=hD.len;have loop:∀(j i:Nat),i+j=dn->jT (λr w=>Q (decide (r≥0)) w) (j+1) da dn dc (.func (.func 153) #[] #[]) (dn:Int) i w:=by
  intro j;induction j with
  |zero=>
   intro i hi;show jS _ _ _ _ _ _ _ _ _;unfold jS;grind
  |succ j ih=>
   intro i hi;show jS _ _ _ _ _ _ _ _ _;rw[jS,bK];apply hD.qD rfl (by omega);have hd:=hr _ (fA (i:=i) (by omega));unfold ik;simp only;have hc:Ln (gi ds i) w λr w'=>cond r (Q (decide ((i:Int)≥0)) w') (jT (λr w=>Q (decide (r≥0)) w) (j+1) da dn dc (.func (.func 153) #[] #[]) (dn:Int) (IntKind.wrap .i64 ((i:Int)+1)) w'):=by apply Z4;rw[bu];show cond (decide (gi ds i>5)) _ _;rw[bu,Oi (by omega)];exact ih (i+1) (by omega)
   exact hc
 exact⟨dn+1,loop dn 0 (by omega)⟩
def aeK {Q:Option Addr->Nat->Nat->Option Addr->Nat->Nat->Option Addr->Nat->Nat->Int->World->Prop}(s0:Sep F W w0 L)(hU:Sl w0 la ln lc 3 gX us)(hD:Sl w0 da dn dc 1 one ds)(hlen:ds.length=us.length)(qi:ln<=1000000)(hr:∀d∈ds,0<=d/\d<=5)(hm:oh mw mh us)
  (h:∀aa an ac ma mn mc ga gn gc w',Sep F W w' (ak ma mn mc 51 2 (flat jJ (dK mw mh [] (us.zip ds)).2.1)::ak ga gn gc 3 1 (flat one (dK mw mh [] (us.zip ds)).2.2)::L)->Fr No w0 w'->Q aa an ac ma mn mc ga gn gc 0 w'):
  HQ mw mh la ln lc da dn dc w0 Q:=by
 apply adZ;have hul:=hU.len;have hdl:=hD.len;refine RD (aX (F:=No)) hU qi hm λw s _=>?_;rw[Bool.not_true,cond_false,Ez (by omega),cond_false];apply arl (hD.fr (aq s)) hr (by omega);refine afO Pg s 3 λmb w s=>?_;have s:=s;refine aM s λfb w s=>?_;have avM:(us.zip ds).map (·.1)=us:=by rw[List.map_fst_zip];omega
 have walk:∀(j i:Nat) (done:List aV) (ms:List (Int×Bool)) (mv:List (Int×Int)) (gs:List Int) (aa ma ga:Option Addr) (an ac mn mc gn gc:Nat) (w:World),i+j=ln->mn<=i->gn<=i->an<=i->oh mw mh (done++((us.zip ds).drop i).map (·.1))->Ms ms (done++((us.zip ds).drop i).map (·.1))->
   mv++(dK mw mh done ((us.zip ds).drop i)).2.1=(dK mw mh [] (us.zip ds)).2.1->gs++(dK mw mh done ((us.zip ds).drop i)).2.2=(dK mw mh [] (us.zip ds)).2.2->
   Sep No w0 w (ax fb 260 (Xa mw mh mb ma mn mc ga gn gc)::fO fo De mb ms::ak ma mn mc 51 2 (flat jJ mv)::ak ga gn gc 3 1 (flat one gs)::ak aa an ac 43 3 (flat gX done)::[])->
   Ey Q (j+1) da dn dc aa an ac (aZ fb) la ln lc (ln:Int) i w:=by
  intro j;induction j with
  |zero=>
   intro i done ms mv gs aa ma ga an ac mn mc gn gc w hij hmn Hs han hM hS T3 Fg s;show AS _ _ _ _ _ _ _ _ _ _ _ _ _ _ _;rw[AS,bu];have s:=ay s;have hz:(us.zip ds).drop i=[]:=List.drop_eq_nil_of_le (by grind);rw[hz]at T3 Fg;simp[dK,List.append_nil]at T3 Fg;have c3:=cF s (i:=0) (j:=3) rfl rfl rfl;have c4:=cF s (i:=0) (j:=4) rfl rfl rfl;refine lS s 0 rfl (lS s 0 rfl ⟨c4,c3,c4,?_⟩);rw[T3,Fg]at s;have s:=bY (L':=[_,_]) [2,3] s rfl (by decide);exact h aa an ac ma mn mc ga gn gc _ (fq s0 s) (aq s)
  |succ j ih=>
   intro i done ms mv gs aa ma ga an ac mn mc gn gc w hij hmn Hs han hM hS T3 Fg s;show AS _ _ _ _ _ _ _ _ _ _ _ _ _ _ _;rw[AS,bK];refine(hU.fr (aq s)).El rfl (by omega) λp u hu hc=>?_;have hdi:ds[i]? =some (gi ds i):=iA (by omega);have hd:=hr _ (List.mem_of_getElem? hdi);have hz:(us.zip ds).drop i=(u,gi ds i)::(us.zip ds).drop (i+1):=by
    have hzi:(us.zip ds)[i]? =some (u,gi ds i):=by rw[List.getElem?_zip_eq_some];exact⟨hu,hdi⟩
    obtain⟨hlt,e⟩:=List.getElem?_eq_some_iff.1 hzi;rw[List.drop_eq_getElem_cons hlt,e]
   rw[hz]at hM hS T3 Fg;have hM:=hM;have hS:=hS;refine W_ hc s λub w s=>?_;apply(hD.fr (aq s)).qD rfl (by omega);generalize gi ds i=d at*;rw[Oi (by omega)];refine aaL hd hM hS (by omega) (by omega) s (λhb w s=>?_) λhb ms' ma' Mt Oj Ol gc' w aCr hS' s=>?_
   ·rw[Ip hb]at T3 Fg;refine lI s 4 rfl (lI s 4 rfl (lI s 4 rfl ?_));have s:=bY (L':=[_,_,_,_,_]) [5,0,1,2,3] s rfl (by decide);refine arj s (by omega) λaa' ac' w s=>?_;exact ih (i+1) (done++[u]) ms mv gs aa' ma ga (an+1) ac' mn mc gn gc w (by omega) (by omega) (by omega) (by omega) (by rw[List.append_assoc];exact hM) (by rw[List.append_assoc];exact hS) T3 Fg (bY (L':=[_,_,_,_,_]) [1,2,3,4,0] s rfl (by decide))
   ·rw[Io hb]at T3 Fg;have hM':=ajk hM hb;by_cases hg:bf mw mh u.cell d=u.goal
    ·rw[decide_eq_true hg,Bool.not_true,cond_false];have ew:nX mw mh u d=[]:=by unfold nX;rw[if_pos hg]
     rw[ew,List.append_nil]at hM' hS' T3 Fg;exact ih (i+1) done ms' _ _ aa ma' Oj an ac (mn+1) Mt Ol gc' w (by omega) (by omega) (by omega) (by omega) hM' hS' (by rw[List.append_assoc];exact T3) (by rw[List.append_assoc];exact Fg) (bY (L':=[_,_,_,_,_]) [0,1,2,3,5] s rfl (by decide))
    ·rw[decide_eq_false hg,Bool.not_false,cond_true];have ew:nX mw mh u d=[⟨u.id,bf mw mh u.cell d,u.goal⟩]:=by unfold nX;rw[if_neg hg]
     rw[ew]at hM' hS' T3 Fg;rw[if_neg hg,List.append_nil]at s;rw[if_neg hg,List.nil_append]at Fg;refine lI s 4 rfl (lI s 4 rfl (lI s 4 rfl ?_));have s:=bY (L':=[_,_,_,_,_]) [5,0,1,2,3] s rfl (by decide);refine arj s (by omega) λaa' ac' w s=>?_;exact ih (i+1) _ ms' _ gs aa' ma' Oj (an+1) ac' (mn+1) Mt Ol gc' w (by omega) (by omega) (by omega) (by omega) hM' hS' (by rw[List.append_assoc];exact T3) Fg (bY (L':=[_,_,_,_,_]) [1,2,3,4,0] s rfl (by decide))
 have fill:∀(j i:Nat) (ms:List (Int×Bool)) (w:World),i+j=ln->Ms ms (us.take i)->Sep No w0 w (ax fb 260 (Xa mw mh mb none 0 0 none 0 0)::fO fo De mb ms::[])->
   Gv Q (j+1) la ln lc da dn dc none 0 0 (aZ fb) la ln lc (ln:Int) i w:=by
  intro j;induction j with
  |zero=>
   intro i ms w hij hS s;show Cn _ _ _ _ _ _ _ _ _ _ _ _ _ _ _ _ _ _;rw[Cn,bu];rw[List.take_of_length_le (by omega)]at hS;have s:=bC (bC (bC s 3 1) 51 2) 43 3;have s:=bY (L':=[_,_,_,_,_]) [3,4,1,2,0] s rfl (by decide);refine⟨ln+1,walk ln 0 [] ms [] [] none none none 0 0 0 0 0 0 w (by omega) (by omega) (by omega) (by omega) ?_ ?_ rfl rfl s⟩
   ·rw[List.drop_zero,avM];exact hm
   ·rw[List.drop_zero,avM];exact hS
  |succ j ih=>
   intro i ms w hij hS s;show Cn _ _ _ _ _ _ _ _ _ _ _ _ _ _ _ _ _ _;rw[Cn,bK];refine(hU.fr (aq s)).El rfl (by omega) λp u hu hc=>?_;refine W_ hc s λub w s=>?_;have s:=ay s;refine lM s 1 rfl (lI s 0 rfl ?_);have hcell:=(hm.at_ u (List.mem_of_getElem? hu)).1;refine Mg Pg s (i:=2) rfl hS.1 (Az hcell) λms2 w IZ TZ _ s=>?_;rw[Oi (by omega)];refine ih (i+1) ms2 w (by omega) ⟨IZ,λc=>?_⟩ (ai s);have yl:us.take (i+1)=us.take i++[u]:=by rw[List.take_add_one,hu];rfl
   rw[TZ,hS.2,yl,CF,KU];by_cases e:c=u.cell
   ·rw[if_pos e,e,decide_eq_true rfl];simp
   ·rw[if_neg e,decide_eq_false λh=>e h.symm];simp[stand]
 refine⟨ln+1,fill ln 0 [] w (by omega) ⟨List.Pairwise.nil,λc=>rfl⟩ s⟩
end
def atU (us:List aV)(c:Int):Option aV:=us.find? λv=>decide (v.cell=c)
def vw (us:List aV)(c:Int):Int:=match atU us c with
 |some u=>u.id
 |none=>-1
section
variable {us us':List aV}{u:aV}{c:Int}
def Iq (h:c∉us.map (·.cell)):vw us c=-1:=by
 have:atU us c=none:=by unfold atU;grind
 rw[vw,this]
def AA (hn:(us.map (·.cell)).Nodup)(h:u∈us):vw us u.cell=u.id:=by
 have:atU us u.cell=some u:=by
  unfold atU;induction us with
  |nil=>cases h
  |cons v us ih=>
   grind
 rw[vw,this]
def aaM (hn:(us.map (·.cell)).Nodup)(hn':(us'.map (·.cell)).Nodup)(h:∀v:aV,v.cell=c->(v∈us↔v∈us')):vw us c=vw us' c:=by
 by_cases hc:c∈us.map (·.cell)
 ·obtain⟨v,hv,rfl⟩:=List.mem_map.1 hc;rw[AA hn hv,AA hn' ((h v rfl).1 hv)]
 ·rw[Iq hc,Iq λe=>?_];grind
def atH {w h:Int}(hm:oh w h us):vw us c=-1\/0<=vw us c/\∃u∈us,u.cell=c/\vw us c=u.id:=by
 by_cases hc:c∈us.map (·.cell)
 ·obtain⟨v,hv,rfl⟩:=List.mem_map.1 hc;rw[AA hm.nd hv];exact .inr ⟨hm.pos v hv,v,hv,rfl,rfl⟩
 ·exact .inl (Iq hc)
end
structure G0 (w h:Int) (us:List aV) (ws:List Int):Prop where
 len:(ws.length:Int)=w*h
 at_:∀c,bJ w h c->gi ws c.toNat=vw us c+1
section
variable {us us':List aV}{u:aV}{c v mw mh:Int}{ws:List Int}
def G0.lt (h:G0 mw mh us ws)(hc:bJ mw mh c):0<=c/\c<ws.length:=by have:=h.len;have:=hc.2;omega
def G0.who (h:G0 mw mh us ws)(hc:bJ mw mh c):Cr ws c=vw us c:=by rw[Cr,if_pos (h.lt hc),h.at_ c hc];omega
def G0.free (h:G0 mw mh us ws)(hc:bJ mw mh c):Ar ws c=decide (vw us c=-1):=by rw[Ar,decide_eq_true (h.lt hc),h.at_ c hc,Bool.true_and,Bool.eq_iff_iff,beq_iff_eq,decide_eq_true_eq];omega
def G0.set (h:G0 mw mh us ws)(hc:bJ mw mh c)(e:∀c',bJ mw mh c'->vw us' c'+1=if c'=c then v else vw us c'+1):G0 mw mh us' (ws.set c.toNat v):=by have hl:=h.lt hc;refine⟨by rw[List.length_set];exact h.len,λc' Bi=>?_⟩;rw[aa7 (by omega),e c' Bi,h.at_ c' Bi];have:=Bi.2;omega
def ali {done:List aV}(hm:oh mw mh (done++u::us))(hf:G0 mw mh (done++u::us) ws):G0 mw mh (done++us) (ws.set u.cell.toNat 0):=by
 have Ee:=hm.sub (us':=done++us) (List.Sublist.append_left (List.sublist_cons_self _ _) _);refine hf.set (hm.at_ u (by simp)).1 λc' _=>?_;have hnd:=hm.nd;by_cases e:c'=u.cell
 ·rw[if_pos e,e,Iq]
  all_goals grind
 ·rw[if_neg e,aaM Ee.nd hm.nd λv hv=>?_];grind
def aps {done:List aV}(hm:oh mw mh (done++u::us))(hf:G0 mw mh (done++us) ws):G0 mw mh (done++u::us) (ws.set u.cell.toNat (u.id+1)):=by
 have Ee:=hm.sub (us':=done++us) (List.Sublist.append_left (List.sublist_cons_self _ _) _);refine hf.set (hm.at_ u (by simp)).1 λc' _=>?_;by_cases e:c'=u.cell
 ·rw[if_pos e,e,AA hm.nd (by simp)]
 ·rw[if_neg e,aaM hm.nd Ee.nd λv hv=>?_];grind
end
structure CrR where
 p:Nat
 un:WI
 fl:Ra
structure HC where
 w:Int
 h:Int
 y:yj
 ws:List Int
structure arn (x:HC):Prop where
 may:oh x.w x.h x.y.us
 fl:G0 x.w x.h x.y.us x.ws
def zG (r:CrR)(x:HC):List Value:=[ae x.w,ae x.h,ae x.y.most,.pointer (sZ r.un.p),.pointer (sZ r.fl.p)]
noncomputable def atJ (r:CrR)(x:HC):List As:=[ax r.p 125 (zG r x),v7 r.un x.y,vr r.fl x.ws]
noncomputable def fX (r:CrR)(x:HC):As:=bg (arn x) (atJ r x)
def vz (w h:Int)(y:yj)(cell goal:Int):Int:=if¬(bJ w h cell/\bJ w h goal)then 7 else if vw y.us cell≠-1 then 10 else if(y.us.length:Int)≥y.most then 11 else if cell=goal then 13 else 0
section
variable {F:Nat->Prop}{W w w0:World}{L:List As}{r:CrR}{x:HC}{cell goal id:Int}
def rq (s:Sep F W w (fX r x::L)):arn x/\Sep F W w (ax r.p 125 (zG r x)::v7 r.un x.y::vr r.fl x.ws::L):=gP s
def yd (s:Sep F W w (ax r.p 125 (zG r x)::v7 r.un x.y::vr r.fl x.ws::L))(h:arn x):Sep F W w (fX r x::L):=dy s h
def alj {u:aV}{us:List aV}{mw mh:Int}(hm:oh mw mh us)(AU:∀v∈us,v.id<u.id)(hp:0<=u.id)(hc:bJ mw mh u.cell)(hg:bJ mw mh u.goal)(hn:u.cell∉us.map (·.cell)):oh mw mh (us++[u]):=by
 have hm1:∀v∈us++[u],v∈us\/v=u:=λv hv=>by grind
 refine⟨hm.wh,?_,λv hv=>?_,λv hv=>?_,?_⟩
 ·rw[List.map_append,List.pairwise_append];refine⟨hm.ids,by simp,λa ha b hb=>?_⟩;grind
 ·rcases hm1 v hv with hv|rfl
  ·exact hm.pos v hv
  ·exact hp
 ·rcases hm1 v hv with hv|rfl
  ·exact hm.at_ v hv
  grind
 ·rw[List.map_append,List.nodup_append];refine⟨hm.nd,by simp,λa ha b hb=>?_⟩;grind
def acT {Q:Option Addr->World->Prop}{mw mh most:Int}(hm:iM mw mh)(XG:1<=most/\most<=65536)(s:Sep F W w L)(h:∀r ws w',Sep F W w' (fX r ⟨mw,mh,⟨most,0,[]⟩,ws⟩::L)->Q (sZ r.p) w'):Ge mw mh most w Q:=by apply abB;have hwh:=pA hm;apply pW;rw[decide_eq_true hm,Bool.not_true,cond_false,bu,bu];refine acp XG s λur w s=>?_;rw[aH,show mw*mh=(((mw*mh).toNat:Nat):Int) by omega];refine abW s (by omega) λfr w s=>?_;refine aM s λp w s=>?_;have s:=pk 3 [0,2,1] s;refine h ⟨p,ur,fr⟩ _ w (yd s ⟨⟨hm,List.Pairwise.nil,(λu hu=>by cases hu),(λu hu=>by cases hu),List.Pairwise.nil⟩,⟨by grind,λc hc=>?_⟩⟩);have:0<=c/\c<mw*mh:=hc.2;show(List.replicate _ _).getD _ _=_;rw[List.getD_eq_getElem?_getD,List.getElem?_replicate,AH];rfl
def amA {Q:Bool->World->Prop}{c:Int}(s:Sep F W w (fX r x::L))(h:∀w',Sep F W w' (fX r x::L)->Q (decide (bJ x.w x.h c)) w'):pG (sZ r.p) c w Q:=by
 apply Sv;have s:=ay s;obtain⟨hok,so⟩:=rq s;refine ah (lI so 0 rfl (ah (lI so 0 rfl ?_)));refine eY s λw s _=>?_;have e:decide (aC x.w x.h c≥0)=decide (bJ x.w x.h c):=decide_eq_decide.2 ⟨λh=>by
  by_cases hc:bJ x.w x.h c
  ·exact hc
  ·unfold aC at h;grind,λh=>(bT h).2.1⟩
 grind
def afR {Q:Int->World->Prop}{c g:Int}(h:Q (if c=g then 13 else 0) w):nP Q c g w:=by unfold nP;grind
def apt {Q:Int->World->Prop}{p:Option Addr}{c g:Int}(h:Q (if c=g then 13 else 0) w):m8 p 3 c g w Q:=by apply Dr;exact afR h
def apu {Q:Int->World->Prop}(s:Sep F W w (fX r x::L))(h:∀w',Sep F W w' (fX r x::L)->Q (vz x.w x.h x.y cell goal) w'):m8 (sZ r.p) 0 cell goal w Q:=by
 apply Dr;unfold vz at h;refine amA s λw s=>?_;by_cases hc:bJ x.w x.h cell
 ·rw[decide_eq_true hc,Bool.not_true,cond_false];refine amA s λw s=>?_;by_cases hg:bJ x.w x.h goal
  ·rw[decide_eq_true hg,Bool.not_true,cond_false];rw[if_neg λe=>e ⟨hc,hg⟩]at h;obtain⟨hok,so⟩:=rq s;refine ah (lP so 0 rfl ?_);apply Bt (GC (ai (ai so)));rw[hok.fl.who hc];by_cases hw:vw x.y.us cell=-1
   ·rw[Ez hw,cond_false];rw[if_neg λe=>e hw]at h;have s:=ay s;have so:=ay so;refine ah (lP so 0 rfl (ah (lI so 0 rfl ?_)));refine acq (ai so) ⟨ck so 0 rfl,?_⟩;by_cases hl:(x.y.us.length:Int)≥x.y.most
    ·grind
    ·rw[bu hl];rw[if_neg hl]at h;exact afR (h _ s)
   grind
  grind
 grind
def akn {y:yj}{mw mh:Int}(h:vz mw mh y cell goal=0):bJ mw mh cell/\bJ mw mh goal/\vw y.us cell=-1/\(y.us.length:Int)<y.most/\cell≠goal:=by unfold vz at h;grind
def alk {us:List aV}{mw mh c:Int}(hm:oh mw mh us):vw us c=-1↔c∉us.map (·.cell):=by refine⟨λh e=>?_,Iq⟩;obtain⟨v,hv,rfl⟩:=List.mem_map.1 e;rw[AA hm.nd hv]at h;have:=hm.pos v hv;omega
def Yz {Q:Int->Int->World->Prop}(hn:x.y.next<1000000000)(s:Sep F W w (fX r x::L))
  (GZ:vz x.w x.h x.y cell goal≠0->∀w',Sep F W w' (fX r x::L)->Q (-1) (vz x.w x.h x.y cell goal) w')
  (hok:vz x.w x.h x.y cell goal=0->∀r' G1 w',r'.p=r.p->Sep F W w' (fX r' ⟨x.w,x.h,Pf x.y cell goal,G1⟩::L)->Q x.y.next 0 w'):wq (sZ r.p) cell goal w Q:=by
 apply MP;refine kT (apu s λw s=>?_);by_cases h0:vz x.w x.h x.y cell goal=0
 ·rw[Ez h0,cond_false];obtain⟨hc,hg,hw,hl,hne⟩:=akn h0;obtain⟨ok,s⟩:=rq s;refine ah (lP s 0 rfl ?_);have DU:=(uS (ai s)).1;have RC:=DU.Kc;have s:=pk 3 [1,0,2] s;refine acN s hn hl λur w eu s=>?_;refine ah (lP s 1 rfl ?_);have s:=pk 3 [2,1,0] s;have hfree:Ar x.ws cell=true:=by rw[ok.fl.free hc,hw];rfl
  refine NN s (by omega) (λe=>by grind) λ_ fV w s=>?_;have hno:=(alk ok.may).1 hw;have hmay:=alj (u:=⟨x.y.next,cell,goal⟩) ok.may (λv hv=>(DU.jE v hv).2) RC.1 hc hg hno;have s:=gd (A:=[_,_,_]) (B:=[ax r.p 125 (zG ⟨r.p,ur,{r.fl with fV:=fV}⟩ ⟨x.w,x.h,Pf x.y cell goal,x.ws.set cell.toNat (x.y.next+1)⟩),_,_]) [1,2,0] s (by unfold zG;rw[eu];rfl) (by decide);refine hok h0 ⟨r.p,ur,{r.fl with fV:=fV}⟩ _ w rfl (yd s ⟨hmay,aps hmay (by rw[List.append_nil];exact ok.fl)⟩)
 grind
def apv {done us:List aV}{u:aV}(h:((done++u::us).map (·.id)).Pairwise (·<·)):(∀v∈done,¬v.id=u.id)/\∀v∈us,¬v.id=u.id:=by
 rw[List.map_append,List.map_cons,List.pairwise_append,List.pairwise_cons]at h;refine⟨λv hv e=>?_,λv hv e=>?_⟩
 ·have:=h.2.2 v.id (List.mem_map.2 ⟨v,hv,rfl⟩) u.id (List.mem_cons_self ..);omega
 ·have:=h.2.1.1 v.id (List.mem_map.2 ⟨v,hv,rfl⟩);omega
def aaN {done us:List aV}{u:aV}(h:((done++u::us).map (·.id)).Pairwise (·<·)):((done++u::us).filter λv=>!decide (v.id=u.id))=done++us:=by
 obtain⟨h1,h2⟩:=apv h;rw[List.filter_append,List.filter_cons,decide_eq_true rfl,List.filter_eq_self.2 λv hv=>?_,List.filter_eq_self.2 λv hv=>?_]
 all_goals grind
theorem ajn {done us:List aV}{u:aV}{f:aV->aV}(h:((done++u::us).map (·.id)).Pairwise (·<·)):((done++u::us).map λv=>if v.id=u.id then f v else v)=done++f u::us:=by
 obtain⟨h1,h2⟩:=apv h;have e:∀l:List aV,(∀v∈l,¬v.id=u.id)->(l.map λv=>if v.id=u.id then f v else v)=l:=λl hl=>by have:=List.map_congr_left (f:=λv=>if v.id=u.id then f v else v) (g:=id) λv hv=>if_neg (hl v hv);rw[this,List.map_id]
 simp_all
def acU {us:List aV}{u:aV}(h:gO us id=some u):u.id=id/\∃done rest,us=done++u::rest:=by have h1:=List.find?_some h;have h2:=List.mem_of_find?_eq_some h;exact⟨of_decide_eq_true h1,List.append_of_mem h2⟩
def aaO {done us:List aV}{u:aV}(h:((done++u::us).map (·.id)).Pairwise (·<·)):gO (done++u::us) u.id=some u:=
 XH h (by rw[List.getElem?_append_right (Nat.le_refl _),Nat.sub_self];rfl)
def Fe {Q:World->Prop}{done us:List aV}{u:aV}(hu:x.y.us=done++u::us)(s:Sep F W w (fX r x::L))
  (h:∀r' G1 w',r'.p=r.p->Sep F W w' (fX r' ⟨x.w,x.h,⟨x.y.most,x.y.next,done++us⟩,G1⟩::L)->Q w'):nK (sZ r.p) u.id u.cell u.goal w Q:=by
 apply OP;obtain⟨ok,s⟩:=rq s;have hmay:=ok.may;have hfl:=ok.fl;rw[hu]at hmay hfl;have amB:=hmay.at_ u (by simp);have DU:=(uS (ai s)).1;have hru:=DU.jE u (by rw[hu];simp);have RC:=DU.Kc;refine aM s λub w s=>?_;have s:=ay s;refine ah (lP s 1 rfl (lI s 0 rfl ?_));have s:=pk 4 [2,0,1,3] s;refine aaI (by unfold iG;omega) s (by rw[hu,aaO hmay.ids];rfl) λur w eu s=>?_;have s:=ay s;refine ah (lP s 2 rfl (lI s 1 rfl ?_));have ed:kY x.y u.id=⟨x.y.most,x.y.next,done++us⟩:=by rw[kY,hu,aaN hmay.ids]
 rw[ed]at s;have s:=pk 4 [3,0,2] s;have arp:=AA hmay.nd (u:=u) (by simp);have Ee:=hmay.sub (us':=done++us) (List.Sublist.append_left (List.sublist_cons_self _ _) _);refine LW s (λe=>?_) λ_ fV w s=>?_
 ·rw[hfl.who amB.1,arp]at e;omega
 ·have s:=gd (A:=[_,_,_]) (B:=[ax r.p 125 (zG ⟨r.p,ur,{r.fl with fV:=fV}⟩ ⟨x.w,x.h,⟨x.y.most,x.y.next,done++us⟩,x.ws.set u.cell.toNat 0⟩),_,_]) [2,1,0] s (by unfold zG;rw[eu];rfl) (by decide);refine h ⟨r.p,ur,{r.fl with fV:=fV}⟩ _ w rfl (yd s ⟨Ee,ali hmay hfl⟩)
def acV {Q:Int->World->Prop}(hc:bJ x.w x.h cell)(s:Sep F W w (fX r x::L))(h:Q (vw x.y.us cell) w):yR (sZ r.p) cell w Q:=by apply Ql;obtain⟨ok,so⟩:=rq s;refine kT (ah (lP so 0 rfl ?_));apply Bt (GC (ai (ai so)));rw[ok.fl.who hc];exact h
def DV {Q:Option Addr->Nat->Nat->World->Prop}(s:Sep F W w (fX r x::L))(h:∀a n c w',Sep F W w' (ak a n c 43 3 (flat gX x.y.us)::fX r x::L)->Q a n c w'):m7 (sZ r.p) w Q:=by apply M4;obtain⟨ok,s⟩:=rq s;refine kT (ah (lP s 0 rfl ?_));refine acP (jr s) λa n c w s=>?_;have s:=pk 4 [2,1,3,0] s;exact h a n c w (b_ (yd s ok) (List.Perm.swap _ _ _))
def Tr {Q:Int->World->Prop}(AU:iG id)(s:Sep F W w (fX r x::L))(h12:gO x.y.us id=none->∀w',Sep F W w' (fX r x::L)->Q 12 w')
  (h7:∀u,gO x.y.us id=some u->¬bJ x.w x.h goal->∀w',Sep F W w' (fX r x::L)->Q 7 w')
  (h13:∀u,gO x.y.us id=some u->bJ x.w x.h goal->u.cell=goal->∀r' G1 w',r'.p=r.p->Sep F W w' (fX r' ⟨x.w,x.h,kY x.y id,G1⟩::L)->Q 13 w')
  (h0:∀u,gO x.y.us id=some u->bJ x.w x.h goal->u.cell≠goal->∀r' G1 w',r'.p=r.p->Sep F W w' (fX r' ⟨x.w,x.h,vT x.y id λu=>⟨u.id,u.cell,goal⟩,G1⟩::L)->Q 0 w'):sS (sZ r.p) id goal w Q:=by
 apply JN;obtain⟨ok,s⟩:=rq s;refine kT (ah (lP s 0 rfl ?_));have cl:∀{w:World} {A:As},Sep F W w (A::v7 r.un x.y::ax r.p 125 (zG r x)::vr r.fl x.ws::L)->Sep F W w (fX r x::A::L):=λs=>yd (pk 4 [2,1,3,0] s) ok;refine sI (jr s) AU (λhn w s=>?_) λu hu w s=>?_
 ·refine aT s λp w s=>?_;refine sT s 0 rfl λw s=>?_;refine sT s 0 rfl λw s=>?_;refine sT s 0 rfl λw s=>?_;exact h12 hn w (ai (b_ (cl s) (List.Perm.swap _ _ _)))
 ·obtain⟨eid,done,rest,Hz⟩:=acU hu;have hmay:=ok.may;rw[Hz]at hmay;refine aT s λp w s=>?_;refine sT s 0 rfl λw s=>?_;refine sT s 0 rfl λw s=>?_;refine av s (i:=0) rfl rfl rfl λw s=>?_;refine amA (cl s) λw s=>?_;by_cases hg:bJ x.w x.h goal
  ·rw[decide_eq_true hg,Bool.not_true,cond_false];apply lI s 1 rfl;apply apt;by_cases hcg:u.cell=goal
   ·rw[if_pos hcg];refine lI s 1 rfl (lI s 1 rfl (lI s 1 rfl ?_));refine Fe Hz s λr' G1 w e s=>?_;apply h13 u hu hg hcg r' G1 w e;have ed:kY x.y id=⟨x.y.most,x.y.next,done++rest⟩:=by rw[kY,<-eid,Hz,aaN hmay.ids]
    rw[ed];exact ai (jr s)
   ·rw[if_neg hcg];obtain⟨ok,s⟩:=rq s;rw[Ez rfl,cond_false];refine ah (lP s 0 rfl ?_);have s:=pk 4 [1,0,2] s;refine acO AU s (λhn=>by rw[hn]at hu;cases hu) λ_ ur w eu s=>?_;have s:=gd (A:=[_,_,_]) (B:=[ax r.p 125 (zG ⟨r.p,ur,r.fl⟩ ⟨x.w,x.h,vT x.y id λu=>⟨u.id,u.cell,goal⟩,x.ws⟩),_,_]) [1,0,2] s (by unfold zG;rw[eu];rfl) (by decide);have eT:(vT x.y id λu=>⟨u.id,u.cell,goal⟩).us=done++⟨u.id,u.cell,goal⟩::rest:=by rw[vT,Hz,<-eid];exact ajn hmay.ids
    have hu1:=hmay.at_ u (by simp);have hnd:=hmay.nd;rw[List.map_append,List.map_cons,List.nodup_append,List.nodup_cons]at hnd;have Ee:oh x.w x.h (done++⟨u.id,u.cell,goal⟩::rest):=hmay.W7 rfl hu1.1 hg (by rw[List.map_append,List.mem_append];exact λq=>q.elim (λq=>hnd.2.2 _ q _ (List.mem_cons_self ..) rfl) hnd.2.1.1)
    refine h0 u hu hg hcg ⟨r.p,ur,r.fl⟩ x.ws w rfl (yd s ⟨?_,ok.fl.len,λc hc=>?_⟩)
    ·rw[eT];exact Ee
    ·rw[eT,ok.fl.at_ c hc,Hz];congr 1;by_cases e:c=u.cell
     ·rw[e,AA hmay.nd (by simp),AA (u:=⟨u.id,u.cell,goal⟩) Ee.nd (by simp)]
     ·refine aaM hmay.nd Ee.nd λv hv=>?_;have:∀z:aV,z.cell=u.cell->v≠z:=λz hz q=>e (by rw[<-hv,q,hz]);simp[this u rfl,this ⟨u.id,u.cell,goal⟩ rfl]
  ·rw[decide_eq_false hg,Bool.not_false,cond_true];exact h7 u hu hg w (ai (jr s))
def U2 {Q:Int->World->Prop}(AU:iG id)(s:Sep F W w (fX r x::L))(h12:gO x.y.us id=none->∀w',Sep F W w' (fX r x::L)->Q 12 w')
  (h0:∀u,gO x.y.us id=some u->∀r' G1 w',r'.p=r.p->Sep F W w' (fX r' ⟨x.w,x.h,kY x.y id,G1⟩::L)->Q 0 w'):tQ (sZ r.p) id w Q:=by
 apply Kq;obtain⟨ok,s⟩:=rq s;refine kT (ah (lP s 0 rfl ?_));have cl:∀{w:World} {A:As},Sep F W w (A::v7 r.un x.y::ax r.p 125 (zG r x)::vr r.fl x.ws::L)->Sep F W w (fX r x::A::L):=λs=>yd (pk 4 [2,1,3,0] s) ok;refine sI (jr s) AU (λhn w s=>?_) λu hu w s=>?_
 ·refine aT s λp w s=>?_;refine sT s 0 rfl λw s=>?_;refine sT s 0 rfl λw s=>?_;refine sT s 0 rfl λw s=>?_;exact h12 hn w (ai (b_ (cl s) (List.Perm.swap _ _ _)))
 ·obtain⟨eid,done,rest,Hz⟩:=acU hu;have hmay:=ok.may;rw[Hz]at hmay;refine aT s λp w s=>?_;refine sT s 0 rfl λw s=>?_;refine sT s 0 rfl λw s=>?_;refine av s (i:=0) rfl rfl rfl λw s=>?_;refine lI s 0 rfl (lI s 0 rfl (lI s 0 rfl ?_));refine Fe Hz (cl s) λr' G1 w e s=>?_;apply h0 u hu r' G1 w e;have ed:kY x.y id=⟨x.y.most,x.y.next,done++rest⟩:=by rw[kY,<-eid,Hz,aaN hmay.ids]
  rw[ed];exact ai (jr s)
end
def aCs:zc T 51=[ae 0,ae 0]:=rfl
def Om (w h:Int)(y:yj)(ds:List Int):yj:=⟨y.most,y.next,(dK w h [] (y.us.zip ds)).1⟩
section
variable {F:Nat->Prop}{W w w0:World}{L:List As}{r:CrR}{x:HC}{da ma ga ta:Option Addr}{dn dc mn mc gn gc tn tc i mb ub:Nat}{ds:List Int}{tm:Int}
def arq {P7:Option Addr->Option Addr->Nat->Nat->Option Addr->Nat->Nat->Option Addr->Nat->Nat->Int->Int->World->Prop}{Q:Option Addr->Nat->Nat->Option Addr->Nat->Nat->Int->World->Prop}{done us:List aV}{u:aV}{d:Int}(hi:i<=1000000000)
  (hu:x.y.us=done++u::us)(hb:uG x.w x.h (done++u::us) u d=true)(s:Sep F W w (ax ub 43 (gX u)::ax mb 51 (jJ (u.id,bf x.w x.h u.cell d))::fX r x::L))
  (next:∀r' G1 w',r'.p=r.p->Sep F W w' (fX r' ⟨x.w,x.h,⟨x.y.most,x.y.next,(done++nX x.w x.h u d)++us⟩,G1⟩::L)->P7 (sZ r.p) ma mn mc ga gn gc ta tn tc tm ((i+1:Nat):Int) w'):
  l6 P7 Q (sZ r.p) ma mn mc ga gn gc (aZ mb) (aZ ub) ta tn tc tm i w:=by
 rw[l6,Oi hi];refine lI s 1 rfl (lI s 0 rfl ?_);unfold nX at next
 have hto:=ajj hb;obtain⟨_,hnot⟩:=aeJ.1 hb;generalize bf x.w x.h u.cell d=to at*;by_cases hg:to=u.goal
 ·rw[d_ hg,cond_true];refine lI s 0 rfl (lI s 0 rfl (lI s 0 rfl ?_));refine Fe hu (pk 3 [2] s) λr' G1 w e s=>?_;apply next r' G1 w e
  simp_all
 ·rw[cN hg,cond_false];rw[if_neg hg]at next
  have s:=ay s;obtain⟨ok,s⟩:=rq (pk 3 [2,0,1] s);have hmay:=ok.may;have hfl:=ok.fl;rw[hu]at hmay hfl;have amB:=hmay.at_ u (by simp);have DU:=(uS (ai s)).1;have hru:=DU.jE u (by rw[hu];simp);have RC:=DU.Kc;have arp:=AA hmay.nd (u:=u) (by simp);refine ah (lP s 0 rfl (lI s 3 rfl (lI s 4 rfl ?_)));have s:=pk 5 [2,0,1,3,4] s;have hw1:Cr x.ws u.cell=u.id:=by rw[hfl.who amB.1,arp]
  have hfree:Ar x.ws to=true:=by rw[hfl.free hto,Iq hnot];rfl
  refine Yr s (λe=>?_) λ_ _ fV w s=>?_
  ·rw[hw1,hfree]at e;rcases e with e|e
   ·omega
   ·cases e
  ·have s:=ay s;refine ah (lP s 1 rfl (lI s 4 rfl (lI s 4 rfl ?_)));have s:=pk 5 [2,0,1] s;refine aaG (by unfold iG;omega) s (λhn=>?_) λ_ ur w eu s=>?_
   ·rw[hu,aaO hmay.ids]at hn;cases hn
   ·have eT:(vT x.y u.id λu=>⟨u.id,to,u.goal⟩)=⟨x.y.most,x.y.next,(done++[⟨u.id,to,u.goal⟩])++us⟩:=by rw[vT,hu,ajn hmay.ids,List.append_assoc];rfl
    rw[eT,hw1]at s;have Ee:oh x.w x.h (done++⟨u.id,to,u.goal⟩::us):=hmay.W7 rfl hto amB.2 λq=>hnot (by rw[List.map_append,List.mem_append]at q⊢;exact q.imp id λq=>by rw[List.map_cons];exact List.mem_cons_of_mem _ q)
    have s:=gd (A:=[_,_,_]) (B:=[ax r.p 125 (zG ⟨r.p,ur,{r.fl with fV:=fV}⟩ ⟨x.w,x.h,⟨x.y.most,x.y.next,(done++[⟨u.id,to,u.goal⟩])++us⟩,(x.ws.set u.cell.toNat 0).set to.toNat (u.id+1)⟩),_,_]) [2,0,1] s (by unfold zG;rw[eu];rfl) (by decide);refine next ⟨r.p,ur,{r.fl with fV:=fV}⟩ _ w rfl (yd s ⟨?_,?_⟩)
    ·rw[List.append_assoc];exact Ee
    ·rw[List.append_assoc];exact aps Ee (ali hmay hfl)
def aaP {Q:Option Addr->Nat->Nat->Option Addr->Nat->Nat->Int->World->Prop}(hD:∀w',Sep F W w' L->Sl w' da dn dc 1 one ds)(hlen:ds.length=x.y.us.length)(hr:∀d∈ds,0<=d/\d<=5)(s:Sep F W w (fX r x::L))
  (h:∀r' G1 ma mn mc ga gn gc w',r'.p=r.p->Sep F W w' (ak ma mn mc 51 2 (flat jJ (dK x.w x.h [] (x.y.us.zip ds)).2.1)::ak ga gn gc 3 1 (flat one (dK x.w x.h [] (x.y.us.zip ds)).2.2)::fX r' ⟨x.w,x.h,Om x.w x.h x.y ds,G1⟩::L)->Q ma mn mc ga gn gc 0 w'):
  xR (sZ r.p) da dn dc w Q:=by
 apply O2;have s:=ay s;obtain⟨ok,so⟩:=rq s;have DU:=(uS (ai so)).1;have o7:=DU.nS;have XG:=DU.most;refine kT (ah (lI so 0 rfl (ah (lI so 0 rfl ?_))));refine DV s λua un uc w s=>?_;obtain⟨_,so⟩:=rq (ai s);refine⟨ck so 0 rfl,ck so 0 rfl,?_⟩;have hU:=aN s (i:=0) rfl CB (by decide);have hun:=hU.len;have ay_:(x.y.us.zip ds).map (·.1)=x.y.us:=by rw[List.map_fst_zip];omega
 have hml:=(Jr (w:=x.w) (h:=x.h) (x.y.us.zip ds) []).2;rw[List.length_zip]at hml;refine aeK s hU (hD _ (ai (ai s))) hlen (by omega) hr ok.may λaa an ac ma mn mc ga gn gc w s _=>?_;have s:=pk 4 [3,0,1] s;have hmn:=(aN s (i:=1) rfl FQ (by decide)).len;have loop:∀(j i:Nat) (r':CrR) (x':HC) (done:List aV) (todo:List (aV×Int)) (w:World),i+j=mn->r'.p=r.p->x'.w=x.w->x'.h=x.h->x'.y=⟨x.y.most,x.y.next,done++todo.map (·.1)⟩->(dK x.w x.h done todo).2.1=(dK x.w x.h [] (x.y.us.zip ds)).2.1.drop i->(dK x.w x.h done todo).1=(dK x.w x.h [] (x.y.us.zip ds)).1->
   Sep F W w (fX r' x'::ak ma mn mc 51 2 (flat jJ (dK x.w x.h [] (x.y.us.zip ds)).2.1)::ak ga gn gc 3 1 (flat one (dK x.w x.h [] (x.y.us.zip ds)).2.2)::L)->
   pV Q (j+1) (sZ r.p) ma mn mc ga gn gc ma mn mc (mn:Int) i w:=by
  intro j;induction j with
  |zero=>
   intro i r' x' done todo w hij er ew eh ey e1 e2 s;show pU _ _ _ _ _ _ _ _ _ _ _ _ _ _ _;rw[pU,bu];rw[List.drop_eq_nil_of_le (by omega)]at e1;have e3:=acR _ _ e1;obtain⟨w1,h1,y1,ws1⟩:=x';subst ew eh ey;apply h r' ws1 ma mn mc ga gn gc w er;rw[Om,<-e2,e3];exact pk 3 [1,2,0] s
  |succ j ih=>
   intro i r' x' done todo w hij er ew eh ey e1 e2 s;show pU _ _ _ _ _ _ _ _ _ _ _ _ _ _ _;rw[pU,bK];refine(aN s (i:=1) rfl FQ (by decide)).El rfl (by omega) λp m hm hc=>?_;have hdr:(dK x.w x.h [] (x.y.us.zip ds)).2.1.drop i=m::(dK x.w x.h [] (x.y.us.zip ds)).2.1.drop (i+1):=by obtain⟨hlt,e⟩:=List.getElem?_eq_some_iff.1 hm;rw[List.drop_eq_getElem_cons hlt,e]
   rw[hdr]at e1;obtain⟨done',u,d,rest,hb,hsp,em,e3,e4⟩:=acS _ _ e1;have Hz:x'.y.us=done'++u::rest.map (·.1):=by rw[ey,hsp]
   rw[<-ew,<-eh]at hb em;refine aJ (hc 0 _ rfl) (aJ (hc 1 _ rfl) ?_);refine aT s λmb w s=>?_;refine sT s 0 rfl λw s=>?_;refine av s (i:=0) rfl rfl rfl λw s=>?_;have s:=s;rw[<-er];obtain⟨ok',s⟩:=rq (pk 4 [1,0,2,3] s);have s:=ay s;have aCt:=(uS (ai s)).1.jE u (by rw[Hz];simp);have aCu:=(uS (ai s)).1.Kc;have hgu:gO x'.y.us m.1=some u:=by have:=ok'.may.ids;rw[Hz]at this;rw[Hz,em];exact aaO this
   have AU:iG m.1:=by rw[em];unfold iG;show _<=u.id/\u.id<_;omega
   have go:∀{ub:Nat} {w:World},Sep F W w (ax ub 43 (gX u)::ax mb 51 (jJ m)::fX r' x'::ak ma mn mc 51 2 (flat jJ (dK x.w x.h [] (x.y.us.zip ds)).2.1)::ak ga gn gc 3 1 (flat one (dK x.w x.h [] (x.y.us.zip ds)).2.2)::L)->
     l6 (pV Q (j+1)) Q (sZ r'.p) ma mn mc ga gn gc (aZ mb) (aZ ub) ma mn mc (mn:Int) i w:=λ{ub w} s=>by
    rw[em]at s;refine arq (by omega) Hz hb s λr2 ws2 w e5 s=>?_;rw[er];refine ih (i+1) r2 ⟨x'.w,x'.h,⟨x'.y.most,x'.y.next,(done'++nX x'.w x'.h u d)++rest.map (·.1)⟩,ws2⟩ (done'++nX x.w x.h u d) rest w (by omega) (e5.trans er) ew eh ?_ e3 (e4.trans e2) s;rw[ew,eh,ey]
   refine ah (lP s 0 rfl (lI s 3 rfl ⟨?_,?_⟩))
   ·have s:=jr s;refine sI s AU (λhn=>by rw[hn]at hgu;cases hgu) λv hv w s=>?_;rw[hgu]at hv;cases hv;refine aT s λub w s=>?_;refine⟨ck s 4 rfl,ck s 2 rfl,?_⟩;refine sT s 0 rfl λw s=>?_;refine sT s 0 rfl λw s=>?_;refine av s (i:=0) rfl rfl rfl λw s=>?_;have s:=yd (pk 7 [2,1,3,0,4,5,6] s) ok';exact go (pk 5 [1,2,0,3,4] s)
   ·refine aT s λub w s=>?_;refine⟨ck s 4 rfl,ck s 1 rfl,?_⟩;have s:=pk 7 [2,0,1,3,4,5,6] s;refine sI s AU (λhn=>by rw[hn]at hgu;cases hgu) λv hv w s=>?_;rw[hgu]at hv;cases hv;refine sT s 1 rfl λw s=>?_;refine sT s 1 rfl λw s=>?_;refine av s (i:=1) rfl rfl rfl λw s=>?_;have s:=yd (pk 7 [2,0,3,1,4,5,6] s) ok';exact go (pk 5 [1,2,0,3,4] s)
 exact⟨mn+1,loop mn 0 r x [] (x.y.us.zip ds) w (by omega) rfl rfl rfl (by rw[ay_];rfl) rfl rfl s⟩
end
end Go.Proofs.YtmegplnmiepfbaaGreatDoor.S
namespace Go.Proofs.YtmegplnmiepfbaaGreatDoor.S
open Go.Sx
abbrev AB:=List (Int×List (Int×List Int))
def zH (s id:Int):List (Int×List Int)->List (Int×List Int)
 |[]=>[(s,[id])]
 |q::r=>if q.1=s then(s,q.2++[id])::r else q::zH s id r
def qo (g s id:Int):AB->AB
 |[]=>[(g,[(s,[id])])]
 |q::r=>if q.1=g then(g,zH s id q.2)::r else q::qo g s id r
def Ts (w h:Int)(st:AB)(u:aV):AB:=qo u.goal (aC w h u.cell) u.id st
def acW (w h:Int)(us:List aV):AB:=us.foldl (Ts w h) []
structure G2 where
 g:Int
 s:Int
 ids:List Int
def Df (st:AB):List G2:=st.flatMap λq=>q.2.map λp=>⟨q.1,p.1,p.2⟩
def mM (w h:Int)(us:List aV):List G2:=Df (acW w h us)
section
variable {g s d w h:Int}{st:AB}{us:List aV}
def ars {p1 p2:List (Int×List Int)}{ids:List Int}(hn:s∉p1.map (·.1)):zH s d (p1++(s,ids)::p2)=p1++(s,ids++[d])::p2:=by
 induction p1 with
 |nil=>simp[zH]
 |cons q p1 ih=>
  rw[List.map_cons,List.mem_cons,not_or]at hn;rw[List.cons_append,zH,if_neg (λe=>hn.1 e.symm),ih hn.2];rfl
def art {l:List (Int×List Int)}(hn:s∉l.map (·.1)):zH s d l=l++[(s,[d])]:=by
 induction l with
 |nil=>rfl
 |cons q p1 ih=>
  rw[List.map_cons,List.mem_cons,not_or]at hn;rw[List.cons_append,zH,if_neg (λe=>hn.1 e.symm),ih hn.2]
def ajo {g1 g2:AB}{l:List (Int×List Int)}(hn:g∉g1.map (·.1)):qo g s d (g1++(g,l)::g2)=g1++(g,zH s d l)::g2:=by
 induction g1 with
 |nil=>simp[qo]
 |cons q p1 ih=>
  rw[List.map_cons,List.mem_cons,not_or]at hn;rw[List.cons_append,qo,if_neg (λe=>hn.1 e.symm),ih hn.2];rfl
def aru (hn:g∉st.map (·.1)):qo g s d (st++[(g,[])])=qo g s d st:=by
 induction st with
 |nil=>simp[qo,zH]
 |cons q p1 ih=>
  rw[List.map_cons,List.mem_cons,not_or]at hn;rw[List.cons_append,qo,if_neg (λe=>hn.1 e.symm),ih hn.2,qo,if_neg (λe=>hn.1 e.symm)]
def amC:(qo g s d st).map (·.1)=if g∈st.map (·.1)then st.map (·.1)else st.map (·.1)++[g]:=by
 induction st with
 |nil=>rfl
 |cons q p1 ih=>
  rw[qo];grind
def Tt (us:List aV):(acW w h us).map (·.1)=tI us:=by
 have:∀(us:List aV) (st:AB),(us.foldl (Ts w h) st).map (·.1)=us.foldl EG (st.map (·.1)):=by
  intro us;induction us with
  |nil=>intro st;rfl
  |cons u us ih=>
   intro st;rw[List.foldl_cons,List.foldl_cons,ih];congr 1;exact amC
 exact this us []
def aaQ {l:List (Int×List Int)}{x i:Int}:(∃p∈zH s d l,p.1=x/\i∈p.2)↔(x=s/\i=d)\/∃p∈l,p.1=x/\i∈p.2:=by
 induction l with
 |nil=>
  simp[zH,List.mem_singleton,exists_eq_left,List.not_mem_nil,false_and,exists_false,or_false];grind
 |cons q l ih=>
  rw[zH];split
  ·rename_i e;subst e;constructor
   ·grind
   ·rintro (⟨rfl,rfl⟩|⟨p,hp,e1,e2⟩)
    ·simp_all
    ·rcases List.mem_cons.1 hp with rfl|hp
     ·simp_all
     grind
  grind
def inG (st:AB)(g s i:Int):Prop:=∃q∈st,q.1=g/\∃p∈q.2,p.1=s/\i∈p.2
def arv {x y i:Int}:inG (qo g s d st) x y i↔(x=g/\y=s/\i=d)\/inG st x y i:=by
 unfold inG;induction st with
 |nil=>
  simp[qo,List.mem_singleton,exists_eq_left,List.not_mem_nil,false_and,exists_false,or_false];grind
 |cons q st ih=>
  rw[qo];split
  ·rename_i e;subst e;constructor
   ·rintro ⟨p,hp,e1,e2⟩;rcases List.mem_cons.1 hp with rfl|hp
    ·rcases aaQ.1 e2 with⟨e3,e4⟩|e2
     all_goals grind
    grind
   ·rintro (⟨rfl,e3,e4⟩|⟨p,hp,e1,e2⟩)
    ·exact⟨_,List.mem_cons_self ..,rfl,aaQ.2 (.inl ⟨e3,e4⟩)⟩
    ·rcases List.mem_cons.1 hp with rfl|hp
     ·exact⟨_,List.mem_cons_self ..,e1,aaQ.2 (.inr e2)⟩
     grind
  ·constructor
   ·rintro ⟨p,hp,e1,e2⟩;rcases List.mem_cons.1 hp with rfl|hp
    ·grind
    ·exact(ih.1 ⟨p,hp,e1,e2⟩).imp id λ⟨p,hp,e⟩=>⟨p,List.mem_cons_of_mem _ hp,e⟩
   ·rintro (h|⟨p,hp,e1,e2⟩)
    ·simp_all
    ·rcases List.mem_cons.1 hp with rfl|hp
     ·grind
     ·obtain⟨p,hp,e⟩:=ih.2 (.inr ⟨p,hp,e1,e2⟩);grind
def arw {x y i:Int}:inG (acW w h us) x y i↔∃u∈us,u.goal=x/\aC w h u.cell=y/\u.id=i:=by
 have:∀(us:List aV) (st:AB),inG (us.foldl (Ts w h) st) x y i↔inG st x y i\/∃u∈us,u.goal=x/\aC w h u.cell=y/\u.id=i:=by
  intro us;induction us with
  |nil=>grind
  |cons u us ih=>
   intro st;rw[List.foldl_cons,ih];rw[Ts,arv];grind
 have h0:¬inG [] x y i:=λ⟨q,hq,_⟩=>by cases hq
 unfold acW;grind
def Xb {x y i:Int}:(∃p∈mM w h us,p.g=x/\p.s=y/\i∈p.ids)↔∃u∈us,u.goal=x/\aC w h u.cell=y/\u.id=i:=by
 rw[<-arw];unfold mM Df inG;constructor
 ·rintro ⟨p,hp,e1,e2,e3⟩;obtain⟨q,hq,hp⟩:=List.mem_flatMap.1 hp;grind
 ·rintro ⟨q,hq,e1,z,hz,e2,e3⟩;exact⟨⟨q.1,z.1,z.2⟩,List.mem_flatMap.2 ⟨q,hq,List.mem_map.2 ⟨z,hz,rfl⟩⟩,e1,e2,e3⟩
def ahb (st:AB):Prop:=∀q∈st,∀p∈q.2,p.2≠[]
def apw {l:List (Int×List Int)}(h:∀p∈l,p.2≠[]):∀p∈zH s d l,p.2≠[]:=by
 induction l with
 |nil=>intro p hp;simp[zH,List.mem_singleton]at hp;grind
 |cons q l ih=>
  intro p hp;rw[zH]at hp;split at hp
  ·rcases List.mem_cons.1 hp with rfl|hp
   ·simp
   ·exact h p (List.mem_cons_of_mem _ hp)
  grind
def apx (h:ahb st):ahb (qo g s d st):=by
 induction st with
 |nil=>
  intro q hq p hp;simp[qo,List.mem_singleton]at hq;grind
 |cons q st ih=>
  intro z hz;rw[qo]at hz;split at hz
  ·rcases List.mem_cons.1 hz with rfl|hz
   ·exact apw (h q (List.mem_cons_self ..))
   ·exact h z (List.mem_cons_of_mem _ hz)
  ·rcases List.mem_cons.1 hz with rfl|hz
   ·exact h z (List.mem_cons_self ..)
   ·exact ih (λq hq=>h q (List.mem_cons_of_mem _ hq)) z hz
def arx (l:List (Int×List Int)):(zH s d l).length<=l.length+1:=by
 induction l with
 |nil=>exact Nat.le_refl _
 |cons q l ih=>
  rw[zH];grind
def KV (q:Int×List (Int×List Int)):Df (q::st)=(q.2.map λp=>⟨q.1,p.1,p.2⟩)++Df st:=rfl
def ary (st:AB):(Df (qo g s d st)).length<=(Df st).length+1:=by
 induction st with
 |nil=>exact Nat.le_refl _
 |cons q st ih=>
  rw[qo];split
  ·rw[KV,KV,List.length_append,List.length_append,List.length_map,List.length_map];have:=arx (s:=s) (d:=d) q.2;grind
  ·rw[KV,KV,List.length_append,List.length_append];omega
def afU (w h:Int)(us:List aV):(mM w h us).length<=us.length:=by
 have:∀(us:List aV) (st:AB),(Df (us.foldl (Ts w h) st)).length<=(Df st).length+us.length:=by
  intro us;induction us with
  |nil=>grind
  |cons u us ih=>
   intro st;rw[List.foldl_cons,List.length_cons];have h1:=ih (Ts w h st u);have h2:=ary (g:=u.goal) (s:=aC w h u.cell) (d:=u.id) st;have h2:(Df (Ts w h st u)).length<=(Df st).length+1:=h2;omega
 have:=this us [];have e:(Df ([]:AB)).length=0:=rfl;rw[e,Nat.zero_add]at this;exact this
def amD {p:G2}(hp:p∈mM w h us):p.ids≠[]:=by
 have:∀(us:List aV) (st:AB),ahb st->ahb (us.foldl (Ts w h) st):=by
  intro us;induction us with
  |nil=>grind
  |cons u us ih=>intro st h;exact ih _ (apx h)
 obtain⟨q,hq,hp⟩:=List.mem_flatMap.1 hp;obtain⟨z,hz,rfl⟩:=List.mem_map.1 hp;exact this us [] (λq hq=>by cases hq) q hq z hz
def amE {p:G2}(hp:p∈mM w h us):∃u∈us,u.goal=p.g/\aC w h u.cell=p.s:=by have hf:=amD hp;obtain⟨i,hi⟩:=List.exists_mem_of_ne_nil _ hf;obtain⟨u,hu,e1,e2,_⟩:=Xb.1 ⟨p,hp,rfl,rfl,hi⟩;grind
end
end Go.Proofs.YtmegplnmiepfbaaGreatDoor.S
namespace Go.Proofs.YtmegplnmiepfbaaGreatDoor.S
open Go.Sx
attribute [local irreducible] af cQ bG bp aA cE cw St Bx Al App cV cO cM bZ aQ bI au cj ax ak bg mapA
structure BD where
 a:Option Addr
 n:Nat
 c:Nat
def T4 (q:BD):Value:=.slice q.a q.n q.c
structure AX where
 g:Int
 s:Int
 q:BD
 ids:List Int
def yH (p:AX):List Value:=[ae p.g,ae p.s,.slice p.q.a p.q.n p.q.c]
def uK (p:AX):(yH p).length=3:=rfl
def apy (x:AX)(u:Value)(h:u∈yH x):u.oneCell'=true:=by unfold yH at h;simp[List.mem_cons,List.not_mem_nil,or_false]at h;rcases h with rfl|rfl|rfl<;>rfl
def arz (p:AX):As:=ak p.q.a p.q.n p.q.c 3 1 (flat one p.ids)
structure CG where
 g:Int
 q:BD
 ps:List AX
def gpR (G:CG):As:=ak G.q.a G.q.n G.q.c 211 3 (flat yH G.ps)
def Bg (gs:List CG):As:=bg True (gs.map gpR)
def AD (ps:List AX):As:=bg True (ps.map arz)
def jZ (gs:List CG):List AX:=gs.flatMap (·.ps)
def FR (gs:List CG):AB:=gs.map λG=>(G.g,G.ps.map λp=>(p.s,p.ids))
def atT:P.underlying 180=some (.map 253 3):=by kernel_rfl
def ofT:P.underlying 252=some (.map 3 208):=by kernel_rfl
def avP (w:World):(zeroValue 208).run P w=.ok (T4 ⟨none,0,0⟩) w:=by kernel_rfl
section
variable {F:Nat->Prop}{W w w0:World}{L:List As}
def Tu {A B:List As}{X:As}(s:Sep F W w (bg True (A++X::B)::L)):Sep F W w (X::bg True (A++B)::L):=by
 have s:=(gP s).2;have s:=b_ (L':=(A++B)++X::L) s (by rw[List.append_assoc,List.append_assoc,List.cons_append];exact List.Perm.append_left _ List.perm_middle.symm)
 have s:=dy s trivial;exact jr s
def Mu {A B:List As}{X:As}(s:Sep F W w (X::bg True (A++B)::L)):Sep F W w (bg True (A++X::B)::L):=by have s:=(gP (jr s)).2;refine dy ?_ trivial;apply b_ s;rw[List.append_assoc,List.append_assoc,List.cons_append];exact List.Perm.append_left _ List.perm_middle
end
def gOf (ms:List (Int×BD))(g:Int):BD:=(fu ms g).getD ⟨none,0,0⟩
structure On (ms:List (Int×BD)) (m2:List ((Int×Int)×Int)) (gs:List CG):Prop where
 hk:oU ms
 IZ:oU m2
 nd:(gs.map (·.g)).Nodup
 nds:∀G∈gs,(G.ps.map (·.s)).Nodup
 of_:∀G∈gs,gOf ms G.g=G.q
 no:∀g,g∉gs.map (·.g)->fu ms g=none
 at1:∀g s k,fu m2 (g,s)=some k->∃G∈gs,G.g=g/\0<=k/\(G.ps[k.toNat]?).map (·.s)=some s
 at2:∀G∈gs,∀p∈G.ps,(fu m2 (G.g,p.s)).isSome=true
 pg:∀G∈gs,∀p∈G.ps,p.g=G.g
section
variable {F:Nat->Prop}{W w w0:World}{L:List As}{mw mh:Int}{mb HD:Nat}{ms:List (Int×BD)}{m2:List ((Int×Int)×Int)}{gs g1 g2:List CG}{G:CG}
def acX {i:Nat}{g:Int}{K:Option Addr->Nat->Nat->World->Prop}(s:Sep F W w L)(hi:L[i]? =some (fO fo T4 mb ms))(hk:oU ms)(hg:iG g)(h:K (gOf ms g).a (gOf ms g).n (gOf ms g).c w):
  aQ P (Instr.lookup 252 (.map (some mb)) (ae g) false) w λv w=>dS v λa n c=>K a n c w:=by
 unfold gOf at h;refine ED (K:=fo) ofT (avP w) s hi hk hg (λhn=>?_) λq hq=>?_
 ·rw[hn]at h;exact h
 ·rw[hq]at h;exact h
def On.pairs {G':CG}(I:On ms m2 (g1++G::g2))(eg:G'.g=G.g)(eq:G'.q=G.q)(es:G'.ps.map (·.s)=G.ps.map (·.s))(ep:∀p∈G'.ps,p.g=G.g):On ms m2 (g1++G'::g2):=by
 have hm:∀X,X∈g1++G'::g2->X=G'\/X∈g1++G::g2:=λX hX=>by grind
 have hG:G∈g1++G::g2:=by simp
 have hs:∀k:Nat,(G'.ps[k]?).map (·.s)=(G.ps[k]?).map (·.s):=λk=>by rw[<-List.getElem?_map,<-List.getElem?_map,es]
 have Fg:(g1++G'::g2).map (·.g)=(g1++G::g2).map (·.g):=by simp[eg]
 refine⟨I.hk,I.IZ,by rw[Fg];exact I.nd,λX hX=>?_,λX hX=>?_,λg hg=>I.no g (by grind),λg s k hk=>?_,λX hX p hp=>?_,λX hX p hp=>?_⟩
 ·rcases hm X hX with rfl|hX
  ·rw[es];exact I.nds G hG
  ·exact I.nds X hX
 ·rcases hm X hX with rfl|hX
  ·rw[eg,eq];exact I.of_ G hG
  ·exact I.of_ X hX
 ·obtain⟨X,hX,e1,e2,e3⟩:=I.at1 g s k hk;grind
 ·rcases hm X hX with rfl|hX
  ·have:p.s∈X.ps.map (·.s):=List.mem_map.2 ⟨p,hp,rfl⟩;rw[es]at this;obtain⟨p',hp',e⟩:=List.mem_map.1 this;rw[eg,<-e];exact I.at2 G hG p' hp'
  ·exact I.at2 X hX p hp
 ·rcases hm X hX with rfl|hX
  ·grind
  ·exact I.pg X hX p hp
def On.add {ms':List (Int×BD)}{Y3:List ((Int×Int)×Int)}{p:AX}{q:BD}(I:On ms m2 (g1++G::g2))(hk:oU ms')(IZ:oU Y3)(hm:∀g,fu ms' g=if g=G.g then some q else fu ms g)(Ee:∀x,fu Y3 x=if x=(G.g,p.s)then some (G.ps.length:Int)else fu m2 x)
  (ep:p.g=G.g)(hn:p.s∉G.ps.map (·.s)):On ms' Y3 (g1++⟨G.g,q,G.ps++[p]⟩::g2):=by
 have hG:G∈g1++G::g2:=by simp
 have Fg:(g1++⟨G.g,q,G.ps++[p]⟩::g2).map (·.g)=(g1++G::g2).map (·.g):=by simp
 have hnd:=I.nd;have hmem:∀X,X∈g1++(⟨G.g,q,G.ps++[p]⟩:CG)::g2->X=⟨G.g,q,G.ps++[p]⟩\/(X∈g1++G::g2/\X.g≠G.g):=λX hX=>by grind
 refine⟨hk,IZ,by grind,λX hX=>?_,λX hX=>?_,λg hg=>?_,λg s k hs=>?_,λX hX x hx=>?_,λX hX x hx=>?_⟩
 ·rcases hmem X hX with rfl|⟨hX,_⟩
  ·rw[List.map_append,List.nodup_append];refine⟨I.nds G hG,by simp,λa ha b hb=>?_⟩;grind
  ·exact I.nds X hX
 ·unfold gOf;rcases hmem X hX with rfl|⟨hX,hne⟩
  ·grind
  ·rw[hm,if_neg hne];exact I.of_ X hX
 ·rw[Fg]at hg;rw[hm,if_neg λe=>hg (by rw[e];exact List.mem_map.2 ⟨G,hG,rfl⟩)];exact I.no g hg
 ·rw[Ee]at hs;by_cases e:(g,s)=(G.g,p.s)
  ·rw[if_pos e]at hs;cases hs;cases e;refine⟨⟨G.g,q,G.ps++[p]⟩,by simp,rfl,Int.natCast_nonneg _,?_⟩;simp
  ·rw[if_neg e]at hs;obtain⟨X,hX,e1,e2,e3⟩:=I.at1 g s k hs;rw[List.mem_append,List.mem_cons]at hX;rcases hX with h|rfl|h
   ·exact⟨X,by simp[h],e1,e2,e3⟩
   ·refine⟨⟨X.g,q,X.ps++[p]⟩,by simp,e1,e2,?_⟩;obtain⟨z,hz,_⟩:=Option.map_eq_some_iff.1 e3;rw[List.getElem?_append_left (List.getElem?_eq_some_iff.1 hz).1];exact e3
   ·exact⟨X,by simp[h],e1,e2,e3⟩
 ·rw[Ee];split
  ·rfl
  ·rename_i hne;rcases hmem X hX with rfl|⟨hX,_⟩
   ·rcases List.mem_append.1 hx with hx|hx
    ·exact I.at2 G hG x hx
    ·rw[List.mem_singleton]at hx;subst hx;exact(hne rfl).elim
   ·exact I.at2 X hX x hx
 ·rcases hmem X hX with rfl|⟨hX,_⟩
  ·rcases List.mem_append.1 hx with hx|hx
   ·exact I.pg G hG x hx
   ·rw[List.mem_singleton.1 hx];exact ep
  ·exact I.pg X hX x hx
def On.group (I:On ms m2 gs)(g:Int):∃g1 G g2,G.g=g/\On ms m2 (g1++G::g2)/\((gs=g1++G::g2)\/(gs=g1/\g2=[]/\G=⟨g,⟨none,0,0⟩,[]⟩/\g∉gs.map (·.g))):=by
 by_cases h:g∈gs.map (·.g)
 ·obtain⟨G,hG,rfl⟩:=List.mem_map.1 h;obtain⟨g1,g2,rfl⟩:=List.append_of_mem hG;grind
 ·refine⟨gs,⟨g,⟨none,0,0⟩,[]⟩,[],rfl,?_,.inr ⟨rfl,rfl,rfl,h⟩⟩;have hm:∀X,X∈gs++[(⟨g,⟨none,0,0⟩,[]⟩:CG)]->X∈gs\/X=⟨g,⟨none,0,0⟩,[]⟩:=λX hX=>by grind
  refine⟨I.hk,I.IZ,?_,λX hX=>?_,λX hX=>?_,λg' hg=>I.no g' λe=>hg (by grind),λg s k hs=>?_,λX hX x hx=>?_,λX hX x hx=>?_⟩
  ·rw[List.map_append,List.nodup_append];refine⟨I.nd,by simp,λa ha b hb=>?_⟩;grind
  ·rcases hm X hX with hX|rfl
   ·exact I.nds X hX
   grind
  ·rcases hm X hX with hX|rfl
   ·exact I.of_ X hX
   ·rw[gOf,I.no g h];rfl
  ·obtain⟨X,hX,e⟩:=I.at1 g s k hs;grind
  ·rcases hm X hX with hX|rfl
   ·exact I.at2 X hX x hx
   ·cases hx
  ·rcases hm X hX with hX|rfl
   ·exact I.pg X hX x hx
   ·cases hx
end
def aaR {g1 g2:List CG}{g:Int}{q:BD}{p1 p2:List AX}{p:AX}:jZ (g1++⟨g,q,p1++p::p2⟩::g2)=(jZ g1++p1)++p::(p2++jZ g2):=by unfold jZ;grind
def atK {α:Type}{p1 p2:List α}{p p':α}:(p1++p::p2).set p1.length p'=p1++p'::p2:=by grind
def atL {α:Type}{p1 p2:List α}{p:α}:(p1++p::p2)[p1.length]? =some p:=by grind
section
variable {F:Nat->Prop}{W w w0:World}{L T:List As}{mw mh:Int}{mb HD ub:Nat}{ms:List (Int×BD)}{m2:List ((Int×Int)×Int)}{g1 g2:List CG}{g:Int}{q:BD}{p1 p2:List AX}{p:AX}{la ta:Option Addr}{ln lc tn tc i:Nat}{tm:Int}{u:aV}
def afX {P6:Int->Int->Option Addr->Nat->Nat->Option Nat->Option Nat->Option Addr->Nat->Nat->Int->Int->World->Prop}{Q:Option Addr->Nat->Nat->World->Prop}(hi:i<=1000000000)(hk:oU ms)(hq:gOf ms g=q)(hg:u.goal=g)(aza:iG g)(J0:p.ids.length<=1000000000)
  (s:Sep F W w (Bg (g1++⟨g,q,p1++p::p2⟩::g2)::AD (jZ (g1++⟨g,q,p1++p::p2⟩::g2))::fO fo T4 mb ms::fO KN vI HD m2::ax ub 43 (gX u)::T))
  (next:∀q' w',Sep F W w' (Bg (g1++⟨g,q,p1++⟨p.g,p.s,q',p.ids++[u.id]⟩::p2⟩::g2)::AD (jZ (g1++⟨g,q,p1++⟨p.g,p.s,q',p.ids++[u.id]⟩::p2⟩::g2))::fO fo T4 mb ms::fO KN vI HD m2::T)->P6 mw mh la ln lc (some mb) (some HD) ta tn tc tm ((i+1:Nat):Int) w'):
  pS P6 Q mw mh la ln lc (some mb) (some HD) (aZ ub) (p1.length:Int) ta tn tc tm i w:=by
 rw[pS,Oi hi];apply lI s 4 rfl;rw[hg];apply acX s (i:=2) rfl hk aza;rw[hq];rw[aaR]at s;unfold Bg AD at s;rw[List.map_append,List.map_cons,List.map_append,List.map_cons]at s;have s:=Tu s;have s:=pk 6 [2,0,1,3,4,5] s;have s:=Tu s;have s:=s;have hpn:=(aN s (i:=0) rfl cv (by decide)).len;have hqn:=(aN s (i:=2) rfl uK (by decide)).len;simp[List.length_append,List.length_cons]at hqn;refine CL s (i:=2) rfl rfl (by omega) λb o ea=>?_;obtain⟨qa,qn,qc⟩:=q;subst ea;have hx:=atL (p1:=p1) (p2:=p2) (p:=p);have had:((⟨b,o,none⟩:Addr).add ((p1.length:Int).toNat*3)).add 2=⟨b,o+(p1.length*3+2),none⟩:=by rw[Int.toNat_natCast,dZ]
 rw[had];have s:=ay s;apply Iy uK s (i:=2) rfl hx rfl rfl;apply lI s 6 rfl;refine aM s λxb w s=>⟨?_,?_⟩
 ·exact wJ s (i:=3) rfl rfl (by rw[sO uK hx (by decide)];rfl)
 ·have src:Src w (sZ xb) 1 1 (one u.id):=⟨rfl,Fk _,λj v hj=>by rw[cq,Nat.zero_add];exact cF s (i:=0) rfl rfl hj⟩;refine iq dQ s (i:=1) (bytes:=8) rfl rfl rfl rfl rfl rfl (by decide) rfl src (by simp[maxLen];omega) (by omega) (λe=>by cases e) λra rc w s=>?_;have e:flat one p.ids++one u.id=flat one (p.ids++[u.id]):=by rw[fZ];simp[flat]
  rw[e]at s;refine dU uK s (i:=3) rfl hx rfl (x':=⟨p.g,p.s,⟨ra,p.q.n+1,rc⟩,p.ids++[u.id]⟩) (by decide) rfl rfl λw s=>?_;rw[atK]at s;have s:=pk 8 [1,2,3,4,5,6] s;have s:=Mu s;have s:=pk 5 [1,2,0,3,4] s;have s:=Mu s;apply next ⟨ra,p.q.n+1,rc⟩ w
  unfold Bg AD;rw[aaR,List.map_append,List.map_cons,List.map_append,List.map_cons];exact s
end
def Mv (p:AX):G2:=⟨p.g,p.s,p.ids⟩
def XI {g1 g2:List CG}{G:CG}:FR (g1++G::g2)=FR g1++(G.g,G.ps.map λp=>(p.s,p.ids))::FR g2:=by unfold FR;grind
def Oo {gs:List CG}:(FR gs).map (·.1)=gs.map (·.g):=by unfold FR;simp_all
def atM {g1 g2:List CG}{g s d:Int}{q q':BD}{p1 p2:List AX}{p p':AX}(h1:g∉g1.map (·.g))(h2:s∉p1.map (·.s))(e1:p.s=s)(e2:p'.s=s)(e3:p'.ids=p.ids++[d]):
  FR (g1++⟨g,q',p1++p'::p2⟩::g2)=qo g s d (FR (g1++⟨g,q,p1++p::p2⟩::g2)):=by
 rw[XI,XI,ajo (by rw[Oo];exact h1)];simp[List.map_append,List.map_cons];rw[e1,ars (by grind),e2,e3]
def atN {g1 g2:List CG}{g s d:Int}{q q':BD}{p1:List AX}{p':AX}(h1:g∉g1.map (·.g))(h2:s∉p1.map (·.s))(e2:p'.s=s)(e3:p'.ids=[d]):
  FR (g1++⟨g,q',p1++[p']⟩::g2)=qo g s d (FR (g1++⟨g,q,p1⟩::g2)):=by
 rw[XI,XI,ajo (by rw[Oo];exact h1)];simp[List.map_append,List.map_cons,List.map_nil];rw[art (by grind),e2,e3]
section
variable {F:Nat->Prop}{W w w0:World}{L T:List As}{mw mh:Int}{mb HD ub:Nat}{ms:List (Int×BD)}{m2:List ((Int×Int)×Int)}{g1 g2 gs:List CG}{g sc:Int}{q:BD}{ps p1 p2:List AX}{la ta:Option Addr}{ln lc tn tc i:Nat}{tm:Int}{u:aV}
def On.asA {G:CG}(I:On ms m2 (g1++G::g2)):G.g∉g1.map (·.g):=λh=>by have:=I.nd;grind
def ajq {K:Option Addr->Nat->Nat->World->Prop}(hl:ps.length<=1000000000)(s:Sep F W w (ax ub 211 [ae g,ae sc,.slice none 0 0]::Bg (g1++⟨g,q,ps⟩::g2)::T))
  (k:∀q' w',Sep F W w' (Bg (g1++⟨g,q',ps++[⟨g,sc,⟨none,0,0⟩,[]⟩]⟩::g2)::T)->K q'.a q'.n q'.c w'):App P #[208,208] 208 (.slice q.a q.n q.c) (.slice (sZ ub) 1 1) w K:=by
 have s:=jr s;unfold Bg at s;rw[List.map_append,List.map_cons]at s;have s:=Tu s;have s:Sep F W w (ak q.a q.n q.c 211 3 (flat yH ps)::_::ax ub 211 _::T):=s;have hqn:=(aN s (i:=0) rfl uK (by decide)).len;have src:Src w (sZ ub) 1 3 (yH ⟨g,sc,⟨none,0,0⟩,[]⟩):=⟨rfl,apy _,λj v hj=>by rw[cq,Nat.zero_add];exact cF s (i:=2) rfl rfl hj⟩;refine iq dQ s (i:=0) (bytes:=40) rfl rfl rfl rfl rfl rfl (by decide) rfl src (by simp[maxLen];omega) (by omega) (λe=>by cases e) λra rc w s=>?_;have e:flat yH ps++yH ⟨g,sc,⟨none,0,0⟩,[]⟩=flat yH (ps++[⟨g,sc,⟨none,0,0⟩,[]⟩]):=by rw[fZ];simp[flat]
 rw[e]at s;apply k ⟨ra,q.n+1,rc⟩ w;have s:=gd (A:=[_,_,_]) (B:=[gpR ⟨g,⟨ra,q.n+1,rc⟩,ps++[⟨g,sc,⟨none,0,0⟩,[]⟩]⟩,_]) [0,1] s rfl (by decide);have s:=Mu s;unfold Bg;simp_all
def atO {q':BD}{p:AX}(s:Sep F W w (Bg gs::AD (jZ (g1++⟨g,q,ps⟩::g2))::T))(hp:p.q=⟨none,0,0⟩)(hi:p.ids=[]):Sep F W w (Bg gs::AD (jZ (g1++⟨g,q',ps++[p]⟩::g2))::T):=by
 have e1:jZ (g1++⟨g,q,ps⟩::g2)=(jZ g1++ps)++jZ g2:=by unfold jZ;grind
 have e2:arz p=ak none 0 0 3 1 []:=by unfold arz;rw[hp,hi];rfl
 rw[e1]at s;rw[aaR];unfold AD at s⊢;rw[List.map_append]at s;rw[List.map_append,List.map_cons,e2];have s:=bC s 3 1;have s:=pk 3 [0,2,1] s;exact b_ (Mu s) (List.Perm.swap _ _ _)
structure amG (mw mh:Int) (us:List aV) (i:Nat) (ms:List (Int×BD)) (m2:List ((Int×Int)×Int)) (gs:List CG):Prop where
 I:On ms m2 gs
 pl:FR gs=acW mw mh (us.take i)
 sz:∀G∈gs,G.ps.length<=i/\∀p∈G.ps,p.ids.length<=i
def amG.next {us:List aV}{ms':List (Int×BD)}{Y3:List ((Int×Int)×Int)}{q':BD}{p':AX}(S:amG mw mh us i ms m2 gs)(hu:us[i]? =some u)(I':On ms' Y3 (g1++⟨g,q',p1++p'::p2⟩::g2))(e:FR (g1++⟨g,q',p1++p'::p2⟩::g2)=qo u.goal (aC mw mh u.cell) u.id (FR gs))
  (h1:∀G∈g1,G∈gs)(h2:∀G∈g2,G∈gs)(hl:(p1++p'::p2).length<=i+1)(hp:p'.ids.length<=i+1)(hps:∀p,p∈p1\/p∈p2->p.ids.length<=i):amG mw mh us (i+1) ms' Y3 (g1++⟨g,q',p1++p'::p2⟩::g2):=by
 refine⟨I',?_,λG hG=>?_⟩
 ·rw[e,S.pl,List.take_add_one,hu];show _=List.foldl _ _ (us.take i++[u]);rw[List.foldl_append];rfl
 ·have up:∀G∈gs,G.ps.length<=i+1/\∀p∈G.ps,p.ids.length<=i+1:=λG hG=>⟨Nat.le_succ_of_le (S.sz G hG).1,λp hp=>Nat.le_succ_of_le ((S.sz G hG).2 p hp)⟩;grind
def atP {gs:List CG}(h:∀G∈gs,∀p∈G.ps,p.g=G.g):(jZ gs).map Mv=Df (FR gs):=by unfold jZ Df FR;rw[List.map_flatMap,List.flatMap_map];refine congrArg List.flatten ?_|>λe=>(List.flatMap_def ..).trans (e.trans (List.flatMap_def ..).symm);refine List.map_congr_left λG hG=>?_;rw[List.map_map];refine List.map_congr_left λp hp=>?_;show G2.mk _ _ _=G2.mk _ _ _;grind
end
def asB {a:Int}{b:Bool}{K:Int->Bool->Prop}(k:K a b):dT (.tuple #[ae a,.bool b]) λl=>dD l λv0 l0=>dI .i64 v0 λx=>dD l0 λv1 l1=>dB v1 λy=>kN l1 (K x y):=k
section
variable {F:Nat->Prop}{W w w0:World}{L T:List As}{mw mh:Int}{la:Option Addr}{ln lc:Nat}{us:List aV}
def apz {Q:Option Addr->Nat->Nat->World->Prop}{mb HD:Nat}{ms:List (Int×BD)}{m2:List ((Int×Int)×Int)}{gs:List CG}{ga:Option Addr}{gn gc:Nat}(I:On ms m2 gs)(h64:∀G∈gs,iG G.g)(uJ:(jZ gs).length<=1000000)(Fg:gs.length<=1000000)
  (h:∀oa on oc w',Sep No w0 w' (ak oa on oc 211 3 (flat yH (jZ gs))::AD (jZ gs)::[])->Q oa on oc w'):
  ∀(j i:Nat) (oa:Option Addr) (on oc:Nat) (w:World),i+j=gn->gs.length=gn->Sep No w0 w (ak oa on oc 211 3 (flat yH (jZ (gs.take i)))::ak ga gn gc 3 1 (flat one (gs.map (·.g)))::Bg gs::AD (jZ gs)::fO fo T4 mb ms::[])->
   Br Q (j+1) (some mb) oa on oc ga gn gc (gn:Int) i w:=by
 intro j;induction j with
 |zero=>
  intro i oa on oc w hij Hs s;show xw _ _ _ _ _ _ _ _ _ _ _ _;rw[xw,bu];rw[List.take_of_length_le (by omega)]at s;exact h oa on oc w (bY (L':=[_,_]) [0,3] s rfl (by decide))
 |succ j ih=>
  intro i oa on oc w hij Hs s;show xw _ _ _ _ _ _ _ _ _ _ _ _;rw[xw,bK];have hi:i<gs.length:=by omega
  obtain⟨G,hG⟩:∃G,gs[i]? =some G:=⟨_,List.getElem?_eq_getElem hi⟩;have hmem:=List.mem_of_getElem? hG;have hgi:gi (gs.map (·.g)) i=G.g:=by unfold gi;grind
  have yl:gs.take (i+1)=gs.take i++[G]:=by rw[List.take_add_one,hG];rfl
  have hall:jZ (gs.take (i+1))=jZ (gs.take i)++G.ps:=by unfold jZ;grind
  have hle:(jZ (gs.take (i+1))).length<=(jZ gs).length:=by
   have e:jZ gs=jZ (gs.take (i+1))++jZ (gs.drop (i+1)):=by unfold jZ;rw[<-List.flatMap_append,List.take_append_drop]
   grind
  have Cq:=(aN s (i:=0) rfl uK (by decide)).len;rw[hall,List.length_append]at hle;apply(aN s (i:=1) rfl cv (by decide)).qD rfl (by omega);rw[hgi,Oi (by omega)];apply acX s (i:=4) rfl I.hk (h64 G hmem);rw[I.of_ G hmem];have src:Src w G.q.a G.q.n 3 (flat yH G.ps):=by have s2:=bY (L':=[_]) [2] s rfl (by decide);have s3:=(gP s2).2;exact aqh s3 (by rw[List.getElem?_append_left (by rw[List.length_map];exact hi),List.getElem?_map,hG];rfl)
  have hcc:G.q.a=none->G.q.c=0:=by have s2:=bY (L':=[_]) [2] s rfl (by decide);have s3:=(gP s2).2;exact ae9 s3 (by rw[List.getElem?_append_left (by rw[List.length_map];exact hi),List.getElem?_map,hG];rfl)
  have hqn:G.ps.length=G.q.n:=by have:=src.1;rw[iU uK]at this;omega
  refine iq dQ s (i:=0) (bytes:=40) rfl rfl rfl rfl rfl rfl (by decide) rfl src (by simp[maxLen];omega) (by omega) hcc λra rc w s=>?_;rw[<-fZ,<-hall]at s;grind
def amH {Q:Option Addr->Nat->Nat->World->Prop}{mb HD:Nat}(hU:Sl w0 la ln lc 3 gX us)(qi:ln<=100000)(hm:oh mw mh us)
  (h:∀oa on oc ps w',ps.map Mv=mM mw mh us->Sep No w0 w' (ak oa on oc 211 3 (flat yH ps)::AD ps::[])->Q oa on oc w'):
  ∀(j i:Nat) (ms:List (Int×BD)) (m2:List ((Int×Int)×Int)) (gs:List CG) (w:World),i+j=ln->amG mw mh us i ms m2 gs->Sep No w0 w (Bg gs::AD (jZ gs)::fO fo T4 mb ms::fO KN vI HD m2::[])->
   zw Q (j+1) mw mh la ln lc (some mb) (some HD) la ln lc (ln:Int) i w:=by
 have hlen:=hU.len;intro j;induction j with
 |zero=>
  intro i ms m2 gs w hij S s;show zv _ _ _ _ _ _ _ _ _ _ _ _ _ _ _;rw[zv,bu];have S:=S;have IU:=S.pl;rw[List.take_of_length_le (by omega)]at IU;have avQ:gs.map (·.g)=tI us:=by rw[<-Tt,<-IU,Oo]
  have htr:(jZ gs).map Mv=mM mw mh us:=by rw[atP S.I.pg,IU];rfl
  have hal:(jZ gs).length<=us.length:=by have e:((jZ gs).map Mv).length=(jZ gs).length:=List.length_map ..;have:=afU mw mh us;grind
  have h64:∀u∈us,iG u.goal:=λu hu=>Az (hm.at_ u hu).2;refine aaK s (hU.fr (aq s)) (by omega) h64 λga gn gc w s _=>?_;rw[<-avQ]at s;have Hs:=(aN s (i:=0) rfl cv (by decide)).len;rw[List.length_map]at Hs;have s:=bC s 211 3;refine⟨gn+1,apz (HD:=HD) S.I (λG hG=>?_) (by omega) (by have:=apm (us:=us);grind) (λoa on oc w' s'=>h oa on oc (jZ gs) w' htr s') gn 0 none 0 0 w (by omega) Hs (bY (L':=[_,_,_,_,_]) [0,1,2,3,4] s rfl (by decide))⟩;have:G.g∈tI us:=by grind
  rw[<-Tt (w:=mw) (h:=mh)]at this;obtain⟨q,hq,e⟩:=List.mem_map.1 this;have hf:∃u∈us,u.goal=G.g:=by
   have hg:∀(us:List aV) (out:List Int),G.g∈us.foldl EG out->G.g∈out\/∃u∈us,u.goal=G.g:=by
    intro us;induction us with
    |nil=>grind
    |cons u us ih=>
     intro out h;rcases ih _ h with h|⟨v,hv,e⟩
     ·unfold EG at h;grind
     grind
   rw[Tt]at this;exact(hg us [] this).elim (λh=>by cases h) id
  grind
 |succ j ih=>
  intro i ms m2 gs w hij S s;show zv _ _ _ _ _ _ _ _ _ _ _ _ _ _ _;rw[zv,bK];refine(hU.fr (aq s)).El rfl (by omega) λp u hu hc=>?_;have IV:=hm.at_ u (List.mem_of_getElem? hu);have hsc:=(bT IV.1).2;have NJ:=gQ hm.wh.1 hm.wh.2;have Xc:iG u.goal/\iG (aC mw mh u.cell):=⟨Az IV.2,by unfold iG;omega⟩;refine W_ hc s λub w s=>?_;apply lI s 0 rfl;refine eY s λw s _=>?_;apply lI s 0 rfl;refine aT s λkb w s=>?_;refine sT s 0 rfl λw s=>?_;refine av s (i:=0) rfl rfl rfl λw s=>?_;refine lI s 0 rfl (lI s 0 rfl ?_);refine ED (K:=KN) (x:=(u.goal,aC mw mh u.cell)) atT (acy w) s (i:=5) rfl S.I.IZ Xc (λhn=>?_) λk hk=>?_
  ·apply asB;obtain⟨g1,⟨g,q,ps⟩,g2,eg,I,Oh⟩:=S.I.group u.goal;subst eg;have hnew:aC mw mh u.cell∉ps.map (·.s):=λhin=>by obtain⟨p',hp',e⟩:=List.mem_map.1 hin;have:=I.at2 ⟨u.goal,q,ps⟩ (by simp) p' hp';rw[e,hn]at this;cases this
   have IU:qo u.goal (aC mw mh u.cell) u.id (FR (g1++⟨u.goal,q,ps⟩::g2))=qo u.goal (aC mw mh u.cell) u.id (FR gs):=by
    rcases Oh with e|⟨e1,e2,e3,e4⟩
    ·rw[e]
    ·cases e3;subst e2 e1;have:FR (gs++[⟨u.goal,⟨none,0,0⟩,[]⟩])=FR gs++[(u.goal,[])]:=by unfold FR;simp
     rw[this];exact aru (by rw[Oo];exact e4)
   have hsz:ps.length<=i/\∀p∈ps,p.ids.length<=i:=by
    rcases Oh with e|⟨e1,e2,e3,e4⟩
    ·exact S.sz ⟨u.goal,q,ps⟩ (by rw[e];simp)
    ·cases e3;exact⟨Nat.zero_le _,λp hp=>by cases hp⟩
   have azb:∀G∈g1,G∈gs:=λG hG=>by
    rcases Oh with e|⟨e1,e2,e3,e4⟩
    ·rw[e];exact List.mem_append_left _ hG
    ·rw[e1];exact hG
   have amI:∀G∈g2,G∈gs:=λG hG=>by
    rcases Oh with e|⟨e1,e2,e3,e4⟩
    ·rw[e];exact List.mem_append_right _ (List.mem_cons_of_mem _ hG)
    ·rw[e2]at hG;cases hG
   have s:Sep No w0 w (Bg (g1++⟨u.goal,q,ps⟩::g2)::AD (jZ (g1++⟨u.goal,q,ps⟩::g2))::fO fo T4 mb ms::fO KN vI HD m2::ax ub 43 (gX u)::ax kb 253 [ae u.goal,ae (aC mw mh u.cell)]::[]):=by
    have s:=bY (L':=[_,_,_,_,_,_]) [2,3,4,5,1,0] s rfl (by decide);rcases Oh with e|⟨e1,e2,e3,e4⟩
    ·rw[<-e];exact s
    ·cases e3;subst e2 e1;have e:jZ (gs++[⟨u.goal,⟨none,0,0⟩,[]⟩])=jZ gs:=by unfold jZ;simp
     rw[e];unfold Bg at s⊢;have s:=bC s 211 3;rw[List.map_append];apply Mu (B:=[]);rw[List.append_nil];exact s
   have hqn:q.n=ps.length:=by have s2:=s;unfold Bg at s2;rw[List.map_append,List.map_cons]at s2;have s2:=Tu s2;exact((aN s2 (i:=0) rfl uK (by decide)).len).symm
   have hq:=I.of_ ⟨u.goal,q,ps⟩ (by simp);apply lI s 4 rfl;apply acX s (i:=2) rfl I.hk Xc.1;rw[hq];refine lI s 5 rfl (lI s 5 rfl ?_);refine Mg (v:=vI) (ms:=m2) (a:=(q.n:Int)) (x:=(u.goal,aC mw mh u.cell)) atT s (i:=3) rfl I.IZ Xc λY3 w azc TZ _ s=>?_;have s:=ay (bY (L':=[Bg (g1++⟨u.goal,q,ps⟩::g2),AD (jZ (g1++⟨u.goal,q,ps⟩::g2)),fO fo T4 mb ms,fO KN vI HD Y3,ax ub 43 (gX u)]) [0,1,2,3,4] s rfl (by decide));rw[hqn]at TZ⊢;have fin:∀(q':BD) (w:World),Sep No w0 w (Bg (g1++⟨u.goal,q',ps++[⟨u.goal,aC mw mh u.cell,⟨none,0,0⟩,[]⟩]⟩::g2)::AD (jZ (g1++⟨u.goal,q,ps⟩::g2))::fO fo T4 mb ms::fO KN vI HD Y3::ax ub 43 (gX u)::[])->
     bI P (Instr.mapUpdate 252 (.map (some mb)) (ae u.goal) (.slice q'.a q'.n q'.c)) w λw=>pS (zw Q (j+1)) Q mw mh la ln lc (some mb) (some HD) (aZ ub) (ps.length:Int) la ln lc (ln:Int) i w:=λq' w s=>by
    refine Mg (k:=3) (e:=208) (K:=fo) (v:=T4) (ms:=ms) (a:=q') (x:=u.goal) ofT s (i:=2) rfl I.hk Xc.1 λms' w hk' Ek _ s=>?_;have I2:=I.add (G:=⟨u.goal,q,ps⟩) (p:=⟨u.goal,aC mw mh u.cell,⟨none,0,0⟩,[]⟩) hk' azc Ek TZ rfl hnew;have s:=atO (q':=q') (p:=⟨u.goal,aC mw mh u.cell,⟨none,0,0⟩,[]⟩) s rfl rfl;refine afX (p2:=[]) (by omega) hk' (I2.of_ ⟨u.goal,q',ps++[⟨u.goal,aC mw mh u.cell,⟨none,0,0⟩,[]⟩]⟩ (by simp)) rfl Xc.1 (Nat.zero_le _) s λq2 w s=>?_;refine ih (i+1) ms' Y3 _ w (by omega) ?_ s;refine S.next hu (I2.pairs (G':=⟨u.goal,q',ps++[⟨u.goal,aC mw mh u.cell,q2,[]++[u.id]⟩]⟩) rfl rfl (by simp) λp hp=>?_) ?_ azb amI (by simp;omega) (by simp) λp hp=>?_
    ·rcases List.mem_append.1 hp with hp|hp
     ·exact I.pg ⟨u.goal,q,ps⟩ (by simp) p hp
     ·rw[List.mem_singleton.1 hp]
    ·rw[<-IU];exact atN I.asA hnew rfl rfl
    ·exact hp.elim (λhp=>hsz.2 p hp) λhp=>by cases hp
   refine lI s 4 rfl (lI s 4 rfl (lI s 4 rfl ⟨?_,?_⟩))
   ·apply acX s (i:=2) rfl I.hk Xc.1;rw[hq];refine⟨ck s 4 rfl,ck s 4 rfl,?_⟩;refine aM s λxb w s=>⟨ck s 5 rfl,ck s 5 rfl,?_⟩;refine ajq (by omega) s λq' w s=>⟨ck s 4 rfl,?_⟩;exact fin q' w s
   ·refine aM s λxb w s=>⟨ck s 5 rfl,ck s 5 rfl,?_⟩;apply acX s (i:=3) rfl I.hk Xc.1;rw[hq];refine⟨ck s 5 rfl,ck s 5 rfl,?_⟩;refine ajq (by omega) s λq' w s=>⟨ck s 4 rfl,?_⟩;exact fin q' w s
  ·apply asB;rw[Bool.not_true,cond_false];obtain⟨⟨g,q,ps⟩,hG,e1,Ga,e3⟩:=S.I.at1 _ _ _ hk;simp only at e1 e3;subst e1;obtain⟨p,hp,e4⟩:=Option.map_eq_some_iff.1 e3;have hkl:=(List.getElem?_eq_some_iff.1 hp).1;have avR:ps=ps.take k.toNat++p::ps.drop (k.toNat+1):=by have:=(List.getElem?_eq_some_iff.1 hp).2;rw[<-this,<-List.drop_eq_getElem_cons hkl,List.take_append_drop]
   have hkp:k=((ps.take k.toNat).length:Nat):=by rw[List.length_take];omega
   generalize ps.take k.toNat=p1 at*;generalize ps.drop (k.toNat+1)=p2 at*;subst avR;obtain⟨g1,g2,e5⟩:=List.append_of_mem hG;subst e5;subst hkp;have hsz:=S.sz _ hG;have hn1:aC mw mh u.cell∉p1.map (·.s):=λh=>by have:=S.I.nds _ hG;simp[List.map_append,List.map_cons]at this;rw[List.nodup_append]at this;exact this.2.2 _ h _ (by rw[<-e4];exact List.mem_cons_self ..) rfl
   have s:=bY (L':=[_,_,_,_,ax ub 43 (gX u)]) [2,3,4,5,1] s rfl (by decide);refine afX (by omega) S.I.hk (S.I.of_ _ hG) rfl Xc.1 (by have:=hsz.2 p (by simp);omega) s λq2 w s=>?_;refine ih (i+1) ms m2 _ w (by omega) ?_ s;refine S.next hu (S.I.pairs (G':=⟨u.goal,q,p1++⟨p.g,p.s,q2,p.ids++[u.id]⟩::p2⟩) rfl rfl (by simp) λx hx=>?_) ?_ (λG h=>by simp[h]) (λG h=>by simp[h]) ?_ ?_ λx hx=>?_
   ·rw[List.mem_append,List.mem_cons]at hx;rcases hx with h|rfl|h
    ·exact S.I.pg _ hG x (by simp[h])
    ·exact S.I.pg _ hG p (by simp)
    ·exact S.I.pg _ hG x (by simp[h])
   ·exact atM S.I.asA hn1 e4 e4 rfl
   ·have:=hsz.1;simp[List.length_append,List.length_cons]at this⊢;omega
   ·have:=hsz.2 p (by simp);simp[List.length_append,List.length_cons,List.length_nil];omega
   ·exact hsz.2 x (by rcases hx with h|h<;>simp[h])
def aaS {Q:Option Addr->Nat->Nat->World->Prop}(s0:Sep F W w0 L)(hU:Sl w0 la ln lc 3 gX us)(qi:ln<=100000)(hm:oh mw mh us)
  (h:∀oa on oc ps w',ps.map Mv=mM mw mh us->Sep F W w' (ak oa on oc 211 3 (flat yH ps)::AD ps::L)->Fr No w0 w'->Q oa on oc w'):ET mw mh la ln lc w0 Q:=by
 apply Z3;refine RD (aX (F:=No)) hU (by omega) hm λw s _=>?_;refine aav s 252 fo T4 λmb w s=>?_;refine aav s 180 KN vI λHD w s=>?_;have s:=dy (Ps:=[]) s trivial;have s:=dy (Ps:=[]) s trivial;have s:=bY (L':=[Bg [],AD (jZ []),fO fo T4 mb ([]:List (Int×BD)),fO KN vI HD ([]:List ((Int×Int)×Int))]) [0,1,3,2] s rfl (by decide);refine⟨ln+1,amH hU qi hm (λoa on oc ps w' e s'=>h oa on oc ps w' e (fq s0 s') (aq s')) ln 0 [] [] [] w (by omega) ⟨⟨List.nodup_nil,List.nodup_nil,List.nodup_nil,(λG h=>by cases h),(λG h=>by cases h),(λg _=>rfl),(λg s k h=>by cases h),(λG h=>by cases h),(λG h=>by cases h)⟩,rfl,λG h=>by cases h⟩ s⟩
end
end Go.Proofs.YtmegplnmiepfbaaGreatDoor.S
set_option maxRecDepth 20000
namespace Go.Proofs.YtmegplnmiepfbaaGreatDoor.S
open Go.Sx
open Go.Extern
def azd (args:Array Value)(w:World):(callFunc 219 args).run P w=((BytealgMakeNoZero.makeNoZero #[3] #[22] args).run P w).andThen λv w'=>.ok (.value v) w':=run_callFunc_extern Go.Proofs.Tryz.func219 (by kernel_rfl) (by kernel_rfl) (by kernel_rfl) (by kernel_rfl) args w
def ajr:P.underlying 22=some (.slice 5):=by kernel_rfl
def acY:∀(n t:Nat) (acc:Array Value) (xs:List Int),acc.toList=flat bj xs->∃ys:List Int,(BytealgMakeNoZero.digits n t acc).toList=flat bj ys
 |0,_,acc,xs,h=>⟨xs,h⟩
 |n+1,t,acc,xs,h=>by apply acY n (t/256) _ (xs++[((t%256:Nat):Int)]);rw[Array.toList_push,h,fZ];rfl
def atQ (n:Nat)(hn:n<=100000)(w:World):∃t,(BytealgMakeNoZero.makeNoZero #[3] #[22] #[ae n]).run P w=.ok (.slice (sZ w.heap.size) n (grownCap w n 0 5)) (w.drew.drew.alloc (.cells (BytealgMakeNoZero.digits (grownCap w n 0 5) t #[]) 5)):=by
 have aze:BytealgMakeNoZero.makeNoZero #[3] #[22] #[ae n]=
  (do
   let .slice elem<-underlying 22|stuck "bytealg.MakeNoZero: slice type expected"
   if(n:Int)<0||(n:Int)>2^48 then runtimePanic (.error "makeslice: len out of range")
   let cap<-choose (.appendCap (n:Int).toNat 0 elem)
   askRoom cap
   let bytes<-choose (.extern "internal/bytealg.MakeNoZero.bytes" 0);let a<-newRow elem (BytealgMakeNoZero.digits cap bytes #[])
   pure (.slice (some a) (n:Int).toNat cap)):=rfl
 have h1:¬(n:Int)<0:=by omega
 have h2:¬(281474976710656:Int)<(n:Int):=by omega
 refine⟨(Question.extern "internal/bytealg.MakeNoZero.bytes" 0).cut (w.tape (w.drawn+1) (.extern "internal/bytealg.MakeNoZero.bytes" 0)),?_⟩;rw[aze];simp[run_underlying ajr,h1,h2,Question.forced,newRow,grownCap]
attribute [local irreducible] tJ callFunc Sem.run BytealgMakeNoZero.makeNoZero in
theorem avS {n:Nat}{w w':World}{v:Value}{K:Value->World->Prop}(h:(BytealgMakeNoZero.makeNoZero #[3] #[22] #[ae n]).run P w=.ok v w')(k:K v w'):tJ P 219 #[ae n] w K:=
 jY azd h k
def avT {F:Nat->Prop}{W w:World}{L:List As}{n:Nat}{K:Value->World->Prop}(hn:1<=n/\n<=100000)(s:Sep F W w L)(h:∀b ys w',ys.length=n->Sep F W w' (ak (sZ b) n n 5 1 (flat bj ys)::L)->K (.slice (sZ b) n n) w'):
  tJ P 219 #[ae n] w λv w1=>dS v λa m c=>aQ P (Instr.sliceAt 22 (.slice a m c) none (some (ae n)) (some (ae n))) w1 K:=by
 obtain⟨t,ht⟩:=atQ n (by omega) w;apply avS ht;have hge:=grownCap_ge w n 0 5;have hle:=grownCap_le_maxLen w n 0 5 (by simp[maxLen];omega);obtain⟨ys,hys⟩:=acY (grownCap w n 0 5) t #[] [] rfl;have hlen:ys.length=grownCap w n 0 5:=by have e:=congrArg List.length hys;rw[iU dg,Array.length_toList,Lib.size_digits]at e;grind
 generalize hc:grownCap w n 0 5=c at*;have hcs:(BytealgMakeNoZero.digits c t #[])=(flat bj ys).toArray:=by rw[<-hys]
 rw[hcs];have s:=tL (ay (ay s)) (flat bj ys) 5;have s:Sep F W (w.drew.drew.alloc (.cells (flat bj ys).toArray 5)) (ax w.heap.size 5 (flat bj ys)::L):=s;have hone:∀u∈flat bj ys,u.oneCell'=true:=λu hu=>by obtain⟨x,_,hx⟩:=List.mem_flatMap.1 hu;exact A2 x u hx
 have s:=g7 s (i:=0) rfl (by rw[iU dg,hlen]) hle hone;simp[List.set_cons_zero]at s;generalize w.drew.drew.alloc (.cells (flat bj ys).toArray 5)=w1 at*;generalize w.heap.size=b at*;have hs:(sizeOf 5).run P w1=.ok 1 w1:=by kernel_rfl
 have hr:(Instr.sliceAt 22 (.slice (sZ b) n c) none (some (ae n)) (some (ae n))).run P w1=.ok (.slice (sZ b) n n) w1:=by rw[run_sliceAt_slice w1 22 _ _ _ _ ajr,run_slice_hm w1 22 (sZ b) n c ajr .i64 .i64 n n (by omega) (Int.le_refl _) (by omega)];show((sizeOf 5).run P w1).andThen _=_;rw[hs];simp[Result.andThen,sliced,Int.toNat_natCast,Nat.sub_zero];simp[Addr.add]
 apply A3 hr;apply h b (ys.take n) w1 (by grind);refine⟨ee.fr s,λA hA=>?_,?_⟩
 ·rcases List.mem_cons.1 hA with rfl|hA
  ·obtain⟨⟨⟨k1,k2,k3,k4⟩,k5⟩,k6⟩:=ee.ok s _ (List.mem_cons_self ..);refine⟨⟨⟨by rw[iU dg,List.length_take];omega,Nat.le_refl _,by omega,λu hu=>?_⟩,?_⟩,λx hx=>k6 x hx⟩
   ·obtain⟨x,_,hx⟩:=List.mem_flatMap.1 hu;exact A2 x u hx
   ·rcases k5 with⟨h,_⟩|⟨g,o,cur,e1,e2,e3,e4⟩
    ·cases h
    ·refine .inr ⟨g,o,cur,e1,e2,by omega,?_⟩;have:flat bj (ys.take n)=(flat bj ys).take (n*1):=(Vi dg ys n).symm;grind
  ·exact ee.ok s A (List.mem_cons_of_mem _ hA)
 ·have:=ee.apart s;rw[List.pairwise_cons]at this⊢;exact⟨λA hA b hb=>this.1 A hA b hb,this.2⟩
attribute [local irreducible] tJ callFunc Sem.run af cQ bG bp aA cE cw St Bx Al App cV cO cM bZ aQ bI au cj ax ak bg mapA
def apA {v:Int}{n k:Nat}{Z:List Int}(hk:k<=n)(hZ:k<=Z.length):
  (flat bj (List.replicate n v++Z)).take (n*1)++(flat bj ((List.replicate n v++Z).take n)).take (k*1)++(flat bj (List.replicate n v++Z)).drop ((n+k)*1)=flat bj (List.replicate (n+k) v++Z.drop k):=by
 simp only[Zk,Nat.mul_one];rw[<-List.map_take,<-List.map_take,<-List.map_drop,<-List.map_append,<-List.map_append];congr 1;rw[List.take_left' (by simp),List.take_replicate,Nat.min_eq_left hk,List.replicate_append_replicate,<-List.drop_drop,List.drop_left' (by simp)]
section
variable {F:Nat->Prop}{W w w0:World}{L:List As}{xa:Option Addr}{xc:Nat}{v:Int}
def apB {Q:Option Addr->Nat->Nat->World->Prop}{b N:Nat}(hN:N<=8192)(h:∀w',Sep No w0 w' (ak (sZ b) N N 5 1 (flat bj (List.replicate N v))::L)->Q (sZ b) N N w'):
  ∀(m n:Nat) (Z:List Int) (w:World),N<=n+m->1<=n->n+Z.length=N->Sep No w0 w (ak (sZ b) N N 5 1 (flat bj (List.replicate n v++Z))::L)->tq Q (m+1) N N (sZ b) N N n w:=by
 have done:∀(R:Int->Int->Option Addr->Nat->Nat->Int->World->Prop) (Z:List Int) (w:World),Z.length=0->Sep No w0 w (ak (sZ b) N N 5 1 (flat bj (List.replicate N v++Z))::L)->tj Q R N N (sZ b) N N N w:=λR Z w hZ s=>by unfold tj;grind
 intro m;induction m with
 |zero=>
  intro n Z w hm h1 h2 s;have:n=N:=by omega
  subst this;exact done _ Z _ (by omega) s
 |succ m ih=>
  intro n Z w hm h1 h2 s;show tj Q (tq Q (m+1)) _ _ _ _ _ _ _;by_cases hn:n=N
  ·grind
  ·rw[tj,bK];apply Py rfl (by omega);rw[fR];have em:Dy (n:Int) (N:Int)=n:=by unfold Dy;omega
   rw[em];apply Px rfl (by omega);have s:=ay s;have hT:=(aN s (i:=0) rfl dg (by decide)).top (m:=n) (by omega);refine EL (p:=n) dQ s rfl rfl rfl rfl (by decide) (i:=0) rfl (hT.src (e:=5) dg A2) (by omega) (by simp[Addr.add];omega) λw s=>?_;rw[apA (Nat.min_le_left _ _) (by omega)]at s;have e:IntKind.wrap .i64 ((n:Int)+((min n (N-n):Nat):Int))=((n+min n (N-n):Nat):Int):=by rw[aH];omega
   grind
def Tv {N:Nat}{Q:Option Addr->Nat->Nat->World->Prop}(s0:Sep F W w L)(hA:Sl w xa 1 xc 1 bj [v])(hN:1<=N/\N<=8192)
  (h:∀ra w',Sep F W w' (ak ra N N 5 1 (flat bj (List.replicate N v))::L)->Fr No w w'->Q ra N N w'):rN xa 1 xc N w Q:=by
 apply I8;rw[cN (by omega),cond_false,bu,ku (by decide),ku (by omega)];apply Da (by decide) (by omega) (by omega);have e1:((1:Nat):Int)*N=N:=by omega
 rw[e1,bu (by decide),bu,cN (by decide),cond_false,aH,bu];refine avT (by omega) (aX (F:=No)) λb ys w' hys s=>?_;refine EL (p:=0) dQ s rfl rfl rfl rfl (by decide) (i:=0) rfl ((hA.fr (aq s)).src (e:=5) dg A2) (by omega) rfl λw' s=>?_;have hm:min 1 N=1:=by omega
 rw[hm]at s⊢;have e2:(flat bj ys).take (0*1)++(flat bj [v]).take (1*1)++(flat bj ys).drop ((0+1)*1)=flat bj (List.replicate 1 v++ys.drop 1):=by simp only[Zk,Nat.zero_mul,List.take_zero,List.nil_append,Nat.mul_one,Nat.zero_add];rw[<-List.map_take,<-List.map_drop,<-List.map_append];rfl
 rw[e2]at s;exact⟨N+1,apB hN.2 (λw' s=>h _ _ (dz s0 s (i:=0) rfl) (aq s)) N 1 (ys.drop 1) w' (by omega) (by omega) (by rw[List.length_drop];omega) s⟩
def amJ {N:Nat}{Q:Option Addr->Nat->Nat->World->Prop}(s0:Sep F W w L)(hN:1<=N/\N<=8192)
  (h:∀ra w',Sep F W w' (ak ra 0 0 5 1 (flat bj [])::L)->Fr No w w'->Q ra 0 0 w'):rN Option.none 0 0 N w Q:=by
 apply I8;rw[cN (by omega),cond_false,bu,ku (by decide),ku (by omega)];apply Da (by decide) (by omega) (by omega);have e1:((0:Nat):Int)*N=0:=by omega
 rw[e1,bu (by decide),bu,show((((0:Nat):Int))==0)=true from rfl,cond_true];refine aM (aX (F:=No)) λb w' s=>?_;have s:=g7 (n:=0) (size:=1) s (i:=0) rfl rfl (by decide) (λu hu=>by cases hu);exact h _ _ (dz s0 s (i:=0) rfl) (aq s)
end
end Go.Proofs.YtmegplnmiepfbaaGreatDoor.S
namespace Go.Proofs.YtmegplnmiepfbaaGreatDoor.S
open Go.Sx
attribute [local irreducible] af cQ bG bp aA cE cw St Bx Al App cV cO cM bZ aQ bI au cj ax ak bg mapA
def aAR:oY 242 fns=true:=by kernel_rfl
def IP (cs:List Int):Bool:=!cs.any λc=>c !=gi cs 0
def G3 (f:Nat)(cs:List Int):Option (List Int):=if f=0 then(if IP cs=true then some [0,gi cs 0]else none)else if f=1 then some (1::cs)else some (tM cs)
abbrev EH (tw th:Int)(a:Option Addr)(n c:Nat):List Value:=[ae tw,ae th,.slice a n c]
section
variable {F:Nat->Prop}{W w w0:World}{L:List As}{ca:Option Addr}{cn cc tb:Nat}{cs:List Int}{tw th:Int}
def apC {Q:Bool->World->Prop}(hC:Sl w ca cn cc 1 bj cs)(hn:1<=cn/\cn<=1000)(s:Sep F W w (ax tb 84 (EH tw th ca cn cc)::L))(h:Q (!IP cs) w):mT ca cn cc (.func (.func 242) #[] #[.pointer (sZ tb)]) w Q:=by
 apply CW;apply E4;have hl:=hC.len;have loop:∀(j i:Nat),i+j=cn->(∀k,k<i->gi cs k=gi cs 0)->jl (λr w=>Q (decide (r≥0)) w) (j+1) ca cn cc (.func (.func 242) #[] #[.pointer (sZ tb)]) (cn:Int) i w:=by
  intro j;induction j with
  |zero=>
   intro i hi hall;show jk _ _ _ _ _ _ _ _ _;unfold jk;have e:IP cs=true:=by rw[IP,Bool.not_eq_true',List.any_eq_false];intro c hc;obtain⟨k,hk⟩:=List.mem_iff_getElem?.1 hc;have hkl:=(List.getElem?_eq_some_iff.1 hk).1;rw[iA hkl]at hk;grind
   grind
  |succ j ih=>
   intro i hi hall;show jk _ _ _ _ _ _ _ _ _;rw[jk,bK];apply hC.Di rfl (by omega);unfold ik;simp only;have hc:Lw (gi cs i) (sZ tb) w λr w'=>cond r (Q (decide ((i:Int)≥0)) w') (jl (λr w=>Q (decide (r≥0)) w) (j+1) ca cn cc (.func (.func 242) #[] #[.pointer (sZ tb)]) (cn:Int) (IntKind.wrap .i64 ((i:Int)+1)) w'):=by
    apply ZF;refine ah (lS s 0 rfl ?_);apply hC.Di (k:=0) rfl (by omega);by_cases e:gi cs i=gi cs 0
    ·rw[Ez e];show cond false _ _;rw[cond_false,Oi (by omega)];exact ih (i+1) (by omega) λk hk=>by grind
    ·rw[Gw e];show cond true _ _;rw[cond_true,decide_eq_true (by omega)];have e2:IP cs=false:=by rw[IP,Bool.not_eq_false',List.any_eq_true];exact⟨gi cs i,fA (by omega),Gw e⟩
     grind
   exact hc
 exact⟨cn+1,loop cn 0 (by omega) λk hk=>by omega⟩
def aio {oa:Option Addr}{on oc b k:Nat}{out ns:List Int}{K:Option Addr->Nat->Nat->World->Prop}(s:Sep F W w (ak oa on oc 5 1 (flat bj out)::L))(Cq:on<=100000000)(hk:ns.length=k)(IZ:k<=100000){ba:Option Addr}{bc:Nat}(hB:Sl w ba k bc 1 bj ns)
  (h:∀a' c' w',Sep F W w' (ak a' (on+k) c' 5 1 (flat bj (out++ns))::L)->K a' (on+k) c' w'):App P #[22,22] 22 (.slice oa on oc) (.slice ba k bc) w K:=by
 refine iq dQ s (i:=0) (bytes:=1) rfl rfl rfl rfl rfl rfl (by decide) rfl (hB.src (e:=5) dg A2) (by simp[maxLen];omega) (by omega) (λe=>hB.nil e) λa1 c1 w1 s1=>?_;rw[<-fZ]at s1;grind
def acZ {ns:List Int}{b:Nat}{i:Nat}(s:Sep F W w L)(hi:L[i]? =some (ax b 5 (flat bj ns))):Sl w (sZ b) ns.length ns.length 1 bj ns:=
 ⟨⟨rfl,λj x hx=>⟨_,rfl,λk v hk=>by
  rw[cq,Nat.zero_add,Nat.mul_one];apply cF s rfl hi;have Ga:k=0:=by have:=(List.getElem?_eq_some_iff.1 hk).1;rw[dg]at this;omega
  subst Ga;have:=sO dg hx (j:=0) (by decide);grind⟩⟩,Nat.le_refl _,λe=>by cases e⟩
def arA {Q:Option Addr->Nat->Nat->World->Prop}{b:Nat}(hA:Sl w0 ca cn cc 1 bj cs)(hn:cn<=1000)(s:Sep No w0 w (ak (sZ b) 1 1 5 1 (flat bj [2])::ax tb 84 (EH tw th ca cn cc)::L))
  (h:∀g o rn rc w',Sep No w0 w' (ak (some ⟨g,o,none⟩) rn rc 5 1 (flat bj (tM cs))::ax tb 84 (EH tw th ca cn cc)::L)->Q (some ⟨g,o,none⟩) rn rc w'):∃k,wQ Q k (aZ tb) (sZ b) 1 1 0 w:=by
 have hlen:=hA.len;have inner:∀(P3:Addr->Option Addr->Nat->Nat->Int->World->Prop) (x:Int) (i:Nat) (oa:Option Addr) (on oc:Nat) (out:List Int),cs[i]? =some x->on<=1000000->
   (∀a' c' w',Sep No w0 w' (ak a' (on+2) c' 5 1 (flat bj (out++[((lead x (cs.drop (i+1)):Nat):Int)%256,x]))::ax tb 84 (EH tw th ca cn cc)::L)->P3 (aZ tb) a' (on+2) c' ((i+1+lead x (cs.drop (i+1)):Nat):Int) w')->
   ∀(k r:Nat) (w:World),i+1+r+k=cn->lead x (cs.drop (i+1))=r+lead x (cs.drop (i+1+r))->Sep No w0 w (ak oa on oc 5 1 (flat bj out)::ax tb 84 (EH tw th ca cn cc)::L)->wP P3 Q (k+1) (aZ tb) oa on oc i ((r+1:Nat):Int) w:=by
  intro P3 x i oa on oc out hx Cq next
  have hix:i<cn:=by grind
  have hgx:gi cs i=x:=by rw[iA (by omega)]at hx;grind
  have over:∀(r:Nat) (w:World),i+1+r<=cn->lead x (cs.drop (i+1))=r->Sep No w0 w (ak oa on oc 5 1 (flat bj out)::ax tb 84 (EH tw th ca cn cc)::L)->Ev P3 Q (aZ tb) oa on oc i ((r+1:Nat):Int) w:=by
   intro r w hr hl s;apply lS s 1 rfl;apply Sl.Di (hA.fr (aq s)) rfl hix;rw[hgx,aH,aH,wrap_u8'];have e0:((r+1:Nat):Int)-1=(r:Int):=by omega
   rw[e0];refine aM s λb w s=>?_;have hB:=acZ (ns:=[(r:Int)%256,x]) s (i:=0) rfl;refine aio (k:=2) (b:=0) (jr s) (by omega) rfl (by decide) hB λa1 c1 w1 s1=>?_;rw[hl]at next
   have:=next a1 c1 w1 (gj s1 (.cons_cons _ (List.sublist_cons_self _ _)))
   grind
  intro k;induction k with
  |zero=>
   intro r w hr hl s;show JL P3 Q (wP P3 Q 0) _ _ _ _ _ _ _;have s:=ay s;apply lS s 1 rfl;rw[aH,bu];have e:cs.drop (i+1+r)=[]:=List.drop_eq_nil_of_le (by omega);rw[e]at hl;exact over r _ (by omega) hl s
  |succ k ih=>
   intro r w hr hl s;show JL P3 Q (wP P3 Q (k+1)) _ _ _ _ _ _ _;have ei:(i:Int)+((r+1:Nat):Int)=((i+1+r:Nat):Int):=by push_cast;omega
   have s:=ay s;apply lS s 1 rfl;rw[aH,bK,ei];have hB:=hA.fr (aq s);refine lS s 1 rfl (Sl.Di hB rfl (by omega) ?_);refine lS s 1 rfl (Sl.Di hB rfl hix ?_);have hd:cs.drop (i+1+r)=gi cs (i+1+r)::cs.drop (i+1+r+1):=by rw[List.drop_eq_getElem_cons (by omega)];congr 1;have:=iA (l:=cs) (i:=i+1+r) (by omega);rw[List.getElem?_eq_getElem (by omega)]at this;exact Option.some.inj this
   rw[hd,lead]at hl;rw[hgx];by_cases he:gi cs (i+1+r)=x
   ·rw[d_ he,cond_true,aH];rw[if_pos he]at hl;exact ih (r+1) _ (by omega) (by rw[show i+1+(r+1)=i+1+r+1 by omega];omega) s
   ·rw[cN he,cond_false];rw[if_neg he]at hl;exact over r _ (by omega) hl s
 have outer:∀(k i:Nat) (oa:Option Addr) (on oc:Nat) (out:List Int) (w:World),cn-i<=k->i<=cn->1<=on->on<=1+2*i->out++lF (cn-i) (cs.drop i)=tM cs->Sep No w0 w (ak oa on oc 5 1 (flat bj out)::ax tb 84 (EH tw th ca cn cc)::L)->wQ Q (k+1) (aZ tb) oa on oc i w:=by
  have stop:∀R (oa:Option Addr) (on oc:Nat) (out:List Int) (w:World),1<=on->out++lF (cn-cn) (cs.drop cn)=tM cs->Sep No w0 w (ak oa on oc 5 1 (flat bj out)::ax tb 84 (EH tw th ca cn cc)::L)->JM Q R (aZ tb) oa on oc cn w:=by intro R oa on oc out w h1 he s;apply lS s 1 rfl;rw[bu];rw[List.drop_eq_nil_of_le (by omega),Nat.sub_self,lF,List.append_nil]at he;rw[he]at s;obtain⟨g,o,rfl⟩:=p_ s (i:=0) rfl (by omega);exact h _ _ _ _ _ s
  intro k;induction k with
  |zero=>
   intro i oa on oc out w hk hi h1 Cq he s;obtain rfl:i=cn:=by omega
   exact stop _ _ _ _ _ _ h1 he s
  |succ k ih=>
   intro i oa on oc out w hk hi h1 Cq he s;by_cases hin:i=cn
   ·subst hin;exact stop _ _ _ _ _ _ h1 he s
   ·show JM Q (wQ Q (k+1)) _ _ _ _ _ _;apply lS s 1 rfl;rw[bK];have hx:cs[i]? =some (gi cs i):=iA (by omega);have hd:cs.drop i=gi cs i::cs.drop (i+1):=by obtain⟨h1,h2⟩:=List.getElem?_eq_some_iff.1 hx;rw[List.drop_eq_getElem_cons h1,h2]
    have N0:=Pz (gi cs i) (cs.drop (i+1));rw[List.length_drop]at N0;refine⟨cn-(i+1)+1,inner _ (gi cs i) i oa on oc out hx (by omega) (λa' c' w' s'=>?_) (cn-(i+1)) 0 w (by omega) (by rw[Nat.zero_add]) s⟩;refine ih (i+1+lead (gi cs i) (cs.drop (i+1))) a' (on+2) c' _ w' (by omega) (by omega) (by omega) (by omega) ?_ s';rw[<-he,hd,show cn-i=(cn-(i+1))+1 by omega,lF,List.append_assoc,List.drop_drop];congr 1;show _::_::_=_::_::_;congr 2;exact ahT _ _ _ (by rw[List.length_drop];omega) (by rw[List.length_drop];omega)
 exact⟨cn+1,outer cn 0 _ 1 1 [2] w (by omega) (by omega) (by omega) (by omega) (by rw[List.drop_zero,Nat.sub_zero,<-hlen];rfl) s⟩
def Dg {Q:Option Addr->Nat->Nat->World->Prop}{f:Nat}(hA:Sl w0 ca cn cc 1 bj cs)(hn:1<=cn/\cn<=1000)(hf:f<=2)
  (hno:G3 f cs=none->∀w',Sep No w0 w' []->Q none 0 0 w')(hyes:∀out,G3 f cs=some out->∀g o rn rc w',Sep No w0 w' [ak (some ⟨g,o,none⟩) rn rc 5 1 (flat bj out)]->Q (some ⟨g,o,none⟩) rn rc w'):HT tw th ca cn cc f w0 Q:=by
 apply adC;have hlen:=hA.len;refine aM (aX (F:=No)) λtb w s=>?_;have ew:IntKind.wrap .u8 (f:Int)=f:=by rw[wrap_u8'];omega
 rw[ew];refine aM s λb w s=>?_;have s:Sep No w0 w (ax b 5 (flat bj [(f:Int)])::ax tb 84 (EH tw th ca cn cc)::[]):=s;have hC:=hA.fr (aq s);have row:Sep No w0 w (ak (sZ b) 1 1 5 1 (flat bj [(f:Int)])::ax tb 84 (EH tw th ca cn cc)::[]):=by have:=g7 (size:=1) s (i:=0) rfl rfl (by decide) (λu hu=>by simp[flat,bj]at hu;subst hu;rfl);grind
 by_cases f0:f=0
 ·subst f0;apply lS s 1 rfl;apply apC hC hn (ai s);cases hs:IP cs with
  |false=>
   exact hno (by unfold G3;grind) w (ai (ai s))
  |true=>
   apply lS s 1 rfl;apply hC.Di (k:=0) rfl (by omega);refine aM row λxb w s=>?_;have hB:=acZ (ns:=[gi cs 0]) s (i:=0) rfl;refine aio (k:=1) (b:=0) (jr s) (by omega) rfl (by decide) hB λa1 c1 w1 s1=>?_;obtain⟨g,o,rfl⟩:=p_ s1 (i:=0) rfl (by omega);exact hyes [0,gi cs 0] (by unfold G3;grind) g o _ _ w1 (bY (L':=[_]) [0] s1 rfl (by decide))
 ·rw[cN (by omega),cond_false];by_cases f1:f=1
  ·subst f1;apply lS s 1 rfl;refine aio (b:=0) row (by omega) hlen (by omega) hC λa1 c1 w1 s1=>?_;obtain⟨g,o,rfl⟩:=p_ s1 (i:=0) rfl (by omega);exact hyes (1::cs) (by unfold G3;grind) g o _ _ w1 (bY (L':=[_]) [0] s1 rfl (by decide))
  ·obtain rfl:f=2:=by omega
   exact arA hA (by omega) row λg o rn rc w' s=>hyes (tM cs) (by unfold G3;grind) g o _ _ w' (bY (L':=[_]) [0] s rfl (by decide))
end
def amK (x:Int)(ys:List Int):(tM (x::ys)).length=3+(lF ys.length (ys.drop (lead x ys))).length:=by show(2::_::x::lF ys.length (ys.drop (lead x ys))).length=_;grind
def ajs {x:Int}:∀{ys:List Int},(∀y∈ys,y=x)->lead x ys=ys.length
 |[],_=>rfl
 |y::ys,h=>by rw[lead,if_pos (h y (List.mem_cons_self ..)),ajs λz hz=>h z (List.mem_cons_of_mem _ hz)];rfl
def apE {cs:List Int}(h:1<=cs.length):3<=(tM cs).length/\(IP cs=true↔(tM cs).length=3):=by
 match cs,h with
 |x::ys,_=>
  rw[amK];refine⟨by omega,?_⟩;have e0:gi (x::ys) 0=x:=rfl;rw[IP,e0,Bool.not_eq_true',List.any_eq_false];constructor
  ·intro hs;have:lead x ys=ys.length:=ajs λy hy=>by grind
   rw[this,List.drop_length];cases ys.length<;>rfl
  ·intro hl c hc;have h0:ys.drop (lead x ys)=[]:=by
    cases hd:ys.drop (lead x ys)with
    |nil=>rfl
    |cons z zs=>
     rw[hd]at hl;obtain⟨k,hk⟩:∃k,ys.length=k+1:=by
      cases ys with
      |nil=>simp at hd
      |cons y ys=>simp_all
     rw[hk]at hl;simp only[lF,List.length_cons]at hl;omega
   have h1:lead x ys=ys.length:=by have:=Pz x ys;grind
   have h2:=NQ x ys;grind
section
variable {F:Nat->Prop}{W w w0:World}{L:List As}{ca:Option Addr}{cn cc tb:Nat}{cs:List Int}{tw th:Int}
def afY {Q:Int->Option Addr->Nat->Nat->World->Prop}{R:Addr->Int->Option Addr->Nat->Nat->Int->World->Prop}{b:Int}{oa:Option Addr}{on oc:Nat}{t:Addr}(h:Q b oa on oc w):jP Q R t b oa on oc 3 w:=by unfold jP;grind
def akp {Q:Int->Option Addr->Nat->Nat->World->Prop}(hA:Sl w0 ca cn cc 1 bj cs)(hn:1<=cn/\cn<=1000)(h:∀b g o rn rc w',Sep No w0 w' [ak (some ⟨g,o,none⟩) rn rc 5 1 (flat bj (tN cs).2)]->Q b (some ⟨g,o,none⟩) rn rc w'):
  EY tw th ca cn cc w0 Q:=by
 apply ZG;have hlen:=hA.len;obtain⟨h3,uJ⟩:=apE (cs:=cs) (by omega);refine aM (aX (F:=No)) λtb w s=>?_;have rd:∀{w:World} {L':List As} {i:Nat} {K:Int->Int->Option Addr->Nat->Nat->Prop},Sep No w0 w L'->L'[i]? =some (ax tb 84 (EH tw th ca cn cc))->K tw th ca cn cc->af .i64 ((aZ tb).add 0) w λa=>af .i64 ((aZ tb).add 1) w λb=>aA ((aZ tb).add 2) w λc d e=>K a b c d e:=λs hi k=>
  dw s rfl hi rfl (dw s rfl hi rfl (gY s rfl hi rfl k))
 have last:∀{best:Int} {g o on oc:Nat} {out:List Int} {w:World},out.length=on->(if(tM cs).length<on then tM cs else out)=(tN cs).2->Sep No w0 w (ak (some ⟨g,o,none⟩) on oc 5 1 (flat bj out)::ax tb 84 (EH tw th ca cn cc)::[])->ow Q 2 (aZ tb) best (some ⟨g,o,none⟩) on oc 2 w:=λ{best g o on oc out w} hl he s=>by
  show jP Q (ow Q 1) _ _ _ _ _ _ _;unfold jP;apply rd s (i:=1) rfl;refine Dg (hA.fr (aq s)) hn (by decide) (λe=>by unfold G3 at e;cases e) λro e g2 o2 rn rc w' s'=>?_;unfold G3 at e;rw[if_neg (by decide),if_neg (by decide),Option.some.injEq]at e;subst e;have hrn:=(aN s' (i:=0) rfl dg (by decide)).len;have s:=fq s s';show cond true _ _;rw[cond_true];show cond false _ _;rw[cond_false];by_cases hlt:(rn:Int)<(on:Int)
  ·rw[bK hlt];unfold zf;rw[AH]at he;refine afY (h _ _ _ _ _ _ ?_);rw[<-he];exact bY (L':=[_]) [0] s rfl (by decide)
  ·rw[bu hlt];rw[fR]at he;refine afY (h _ _ _ _ _ _ ?_);rw[<-he];exact bY (L':=[_]) [1] s rfl (by decide)
 refine⟨4,?_⟩;show jP Q (ow Q 3) _ _ _ _ _ _ _;unfold jP;apply rd s (i:=0) rfl;refine Dg (hA.fr (aq s)) hn (by decide) (λe w' s'=>?_) λro e g o rn rc w' s'=>?_
 ·
  have hs:IP cs=false:=by unfold G3 at e;grind
  have s:=fq s s';show cond false _ _;rw[cond_false];show jP Q (ow Q 2) _ _ _ _ _ _ _;unfold jP;apply rd s (i:=0) rfl;refine Dg (f:=1) (hA.fr (aq s)) hn (by decide) (λe=>by unfold G3 at e;cases e) λro e g2 o2 rn rc w' s'=>?_;unfold G3 at e;rw[if_neg (by decide),if_pos rfl,Option.some.injEq]at e;subst e;have hrn:=(aN s' (i:=0) rfl dg (by decide)).len;have s:=fq s s';show cond true _ _;refine last hrn ?_ s;unfold tN;grind
 ·unfold G3 at e;rw[if_pos rfl]at e;split at e
  ·rename_i hs;rw[Option.some.injEq]at e;subst e;have hrn:2=rn:=(aN s' (i:=0) rfl dg (by decide)).len;subst hrn;have s:=fq s s';show cond true _ _;rw[cond_true];show cond true _ _;rw[cond_true];unfold zf;show jP Q (ow Q 2) _ _ _ _ _ _ _;unfold jP;apply rd s (i:=1) rfl;refine Dg (f:=1) (hA.fr (aq s)) hn (by decide) (λe=>by unfold G3 at e;cases e) λro e g2 o2 rn rc w' s'=>?_;unfold G3 at e;rw[if_neg (by decide),if_pos rfl,Option.some.injEq]at e;subst e;have hrn:=(aN s' (i:=0) rfl dg (by decide)).len;rw[List.length_cons]at hrn;have s:=fq s s';show cond true _ _;rw[cond_true];show cond false _ _;rw[cond_false,bu];refine last rfl ?_ (bY (L':=[_,_]) [1,2] s rfl (by decide));rw[tN,fR,if_pos (uJ.1 hs)]
  ·cases e
def apF {Q:Option Addr->Nat->Nat->Int->World->Prop}(s0:Sep F W w0 L)(hA:Sl w0 ca cn cc 1 bj cs)(hm:Tl.DO tw th cs=true)(hn:1<=cn/\cn<=1000)(h:∀g o rn rc w',Sep F W w' (ak (some ⟨g,o,none⟩) rn rc 5 1 (flat bj (tN cs).2)::L)->Fr No w0 w'->Q (some ⟨g,o,none⟩) rn rc 0 w'):
  HS tw th ca cn cc w0 Q:=by
 apply adF;refine aM (aX (F:=No)) λtb w s=>?_;refine lI s 0 rfl (lI s 0 rfl (lS s 0 rfl ?_));refine Tl.C_ s (hA.fr (aq s)).row λw s _=>?_;rw[hm,Bool.not_true,cond_false];refine lI s 0 rfl (lI s 0 rfl (lS s 0 rfl ?_));refine akp (hA.fr (aq s)) hn λb g o rn rc w' s'=>?_;have s2:=fq s s';have s3:=bY (L':=[ak (some ⟨g,o,none⟩) rn rc 5 1 (flat bj (tN cs).2)]) [0] s2 rfl (by decide);exact h g o rn rc w' (fq s0 s3) (aq s3)
end
end Go.Proofs.YtmegplnmiepfbaaGreatDoor.S
set_option maxRecDepth 20000
namespace Go.Proofs.YtmegplnmiepfbaaGreatDoor.S.At
open Go.Sx
open Go.Extern
def Tm (v:Value)(w:World):(ReflectliteType.typeOf #[.iface 240 v]).run P w=.ok (.iface 219 (rt 240)) w:=by kernel_rfl
def GS (v:Value)(w:World):(ReflectliteType.typeOf #[.iface 187 v]).run P w=.ok (.iface 219 (rt 187)) w:=by kernel_rfl
def GU (t:Addr)(w:World):(ReflectliteValue.unpack (.iface 188 (.pointer (some t)))).run P w
 =.ok (.agg #[.pointer (some ⟨8,188,none⟩),.pointer (sZ w.heap.size),.int .u64 150]) (w.alloc (.cells #[.pointer (some t)] 188)):=by kernel_rfl
def Em (n:Int)(w:World):(ReflectliteValue.unpack (.iface 187 (ae n))).run P w
 =.ok (.agg #[.pointer (some ⟨8,187,none⟩),.pointer (sZ w.heap.size),.int .u64 130]) (w.alloc (.cells #[ae n] 187)):=by kernel_rfl
def Ru (a:Addr)(w:World):(ReflectliteValue.methodAny (ReflectliteValue.valueError "reflectlite.Value.Type" 0) (λt _ _ _=>ReflectliteType.toType t) #[.agg #[.pointer (some ⟨8,188,none⟩),.pointer (some a),.int .u64 150]]).run P w
 =.ok (.iface 219 (rt 188)) w:=by kernel_rfl
def Ml (w:World):((ReflectliteType.abiMethod λt=>(λa:Nat=>Value.int IntKind.u8 (a:Int))<$>Rtype.kind t) #[.pointer (some ⟨8,188,none⟩)]).run P w=.ok (.int .u8 22) w:=by kernel_rfl
def Mn (w:World):((ReflectliteType.abiMethod λt=>(λa:Nat=>Value.int IntKind.u8 (a:Int))<$>Rtype.kind t) #[.pointer (some ⟨8,187,none⟩)]).run P w=.ok (.int .u8 2) w:=by kernel_rfl
def Rw (w:World):(ReflectliteType.method ReflectliteType.elem #[rt 188]).run P w=.ok (.iface 219 (rt 187)) w:=by kernel_rfl
def WW (w:World):(ReflectliteType.relation "Implements" ReflectliteType.implements_ #[rt 187,.iface 219 (rt 74)]).run P w=.ok (.bool true) w:=by kernel_rfl
def aez (w:World):(ReflectliteType.relation "AssignableTo" ReflectliteType.assignableTo #[rt 240,.iface 219 (rt 187)]).run P w=.ok (.bool false) w:=by kernel_rfl
def Rx (w:World):(ReflectliteType.relation "AssignableTo" ReflectliteType.assignableTo #[rt 187,.iface 219 (rt 187)]).run P w=.ok (.bool true) w:=by kernel_rfl
def aeA (v:Value)(w:World):(Go.method (P.types.size+Made.depth) 240 v "Unwrap").run P w=.ok (321,v) w:=by kernel_rfl
abbrev vP (a:Addr):Value:=.agg #[.pointer (some ⟨8,188,none⟩),.pointer (some a),.int .u64 150]
abbrev vR (a:Addr):Value:=.agg #[.pointer (some ⟨8,187,none⟩),.pointer (some a),.int .u64 130]
abbrev vE (a:Addr):Value:=.agg #[.pointer (some ⟨8,187,none⟩),.pointer (some a),.int .u64 386]
def zS (a:Addr)(w:World):(ReflectliteValue.parts (vP a)).run P w=.ok (some (188,a,150)) w:=by kernel_rfl
def Jn (a:Addr)(w:World):(ReflectliteValue.parts (vR a)).run P w=.ok (some (187,a,130)) w:=by kernel_rfl
def Jo (a:Addr)(w:World):(ReflectliteValue.parts (vE a)).run P w=.ok (some (187,a,386)) w:=by kernel_rfl
def Mo (a p:Addr)(w:World)(ha:w.cell? a=some (.pointer (some p))):(ReflectliteValue.method (ReflectliteValue.valueError "reflectlite.Value.IsNil" 0) ReflectliteValue.isNil #[vP a]).run P w=.ok (.bool false) w:=by rw[rlm];simp[Sem.run_bind,zS,Result.andThen];simp[ReflectliteValue.isNil,loadVar,isAgg,underlying,Go.Proofs.Tryz.underlying188,ha,Result.andThen]
def Jp (w:World):(Rtype.elem? 188).run P w=.ok (some 187) w:=by kernel_rfl
def acI (p:Addr)(w:World):(ReflectliteValue.mk 187 p ReflectliteValue.flagAddr).run P w=.ok (vE p) w:=by kernel_rfl
def Mp (a p:Addr)(w:World)(ha:w.cell? a=some (.pointer (some p))):(ReflectliteValue.method (ReflectliteValue.valueError "reflectlite.Value.Elem" 0) ReflectliteValue.elem #[vP a]).run P w=.ok (vE p) w:=by rw[rlm];simp[Sem.run_bind,zS,Result.andThen];simp[ReflectliteValue.elem,loadVar,isAgg,underlying,Go.Proofs.Tryz.underlying188,ha,Result.andThen,Jp,acI]
def Jq (w:World):(Rtype.directlyAssignable 187 187).run P w=.ok true w:=by kernel_rfl
def W0 (t b:Addr)(n:Int)(old:Value)(w:World)(hb:w.cell? b=some (ae n))(ht:w.cell? t=some old)(hf:w.frozen? t=false):
  (ReflectliteValue.set #[vE t,vR b]).run P w=.ok (.tuple #[]) (w.setCell t (ae n)):=by
 rw[rls];simp[Sem.run_bind,Jo,Jn,Result.andThen];simp[ReflectliteValue.flagAddr,loadVar,isAgg,underlying,Go.Proofs.Tryz.underlying187,hb,Result.andThen,Jq,storeVar,Value.cells,storeCells,Addr.add];rw[run_store P w t _ _ (by rfl)];simp[ht,hf]
def awV {t:Nat}(ht:t=240)(v:Value)(xT:TypeId)(w:World):(Instr.typeAssert (.iface t v) xT 231 true).run P w=.ok (.tuple #[.nilIface,.bool false]) w:=by subst ht;exact run_typeAssert_lacksB Go.Proofs.Tryz.underlying231 (by kernel_rfl) (by kernel_rfl) v xT w
def avU {t:Nat}(ht:t=240)(v:Value)(xT:TypeId)(w:World):(Instr.typeAssert (.iface t v) xT 224 true).run P w=.ok (.tuple #[.iface t v,.bool true]) w:=by subst ht;exact run_typeAssert_hasB Go.Proofs.Tryz.underlying224 (by kernel_rfl) v xT w
def aAT:oY 321 fns=true:=by kernel_rfl
section
variable {w:World}{p n:Nat}{v:Value}
def acH {Q:Value->World->Prop}(hv:w.cell? ((aZ p).add 1)=some v)(hp:Value.plain v=true)(k:Q v w):yJ (cx n) (.iface 240 (.pointer (sZ p))) "Unwrap" [] w λv w=>dV v λr=>Q r w:=by
 refine⟨321,_,aeA _ w,?_⟩;unfold ik;have h:Dp (sZ p) w Q:=by apply Nk;refine ah (mL hv hp ?_);unfold dV;grind
 exact h
end
attribute [local irreducible] tJ callFunc Sem.run ReflectliteValue.method ReflectliteValue.set ReflectliteValue.unpack ReflectliteType.relation ReflectliteType.typeOf af cQ bG bp aA cE cw St App cV cO cM bZ bI au cj ax ak bg mapA
section
variable {F:Nat->Prop}{W w:World}{L:List As}{p r:Nat}{c v0:Int}
def Rz {b:Addr}{K:Value->World->Prop}(hb:w.cell? b=some (ae c))(h:St (aZ r) (ae c) w λw=>K (.tuple #[]) w):tJ P 139 #[vE (aZ r),vR b] w K:=by obtain⟨⟨u,hu⟩,hf,k⟩:=ams h;have he:=W0 (aZ r) b c u w hb hu hf;apply jY (w':=w.setCell (aZ r) (ae c)) arb he;exact k
def W1 {Q:Bool->World->Prop}{k tb:Nat}{a:Nat}(s:Sep F W w (ax tb 161 [.pointer (some ⟨8,188,none⟩),.pointer (sZ a),.int .u64 150]::ax a 188 [.pointer (sZ r)]::ax r 187 [ae v0]::L))
  (hQ:∀w',Sep F W w' (ax r 187 [ae c]::L)->Q true w'){target:Value}:jf Q (k+1) (.iface 187 (ae c)) target (.iface 219 (rt 187)) (aZ tb) w:=by
 show wO Q (jf Q k) _ _ _ _ _;apply jY x95 (GS _ w);refine m6 (Rv _) WY aja (Rx w) ?_;apply amo;refine lP s 0 rfl (lP s 0 rfl (lI s 0 rfl ?_));apply jY ara (Mp (aZ a) (aZ r) w (by have:=cF s (i:=1) (j:=0) rfl rfl rfl;exact this));apply Tp;refine jY x97 (Em c w) ?_;apply Tp;have s2:=tL (ai (ai s)) [ae c] 187;have s2:=s2;apply Rz (c:=c) (by simp_all);refine av s2 (i:=1) rfl rfl rfl λw s=>?_;exact hQ w (ai s)
def ajf {Q:Bool->World->Prop}{k tb:Nat}{a:Nat}(s:Sep F W w (ax tb 161 [.pointer (some ⟨8,188,none⟩),.pointer (sZ a),.int .u64 150]::ax a 188 [.pointer (sZ r)]::ax r 187 [ae v0]::L))
  (hv:w.cell? ((aZ p).add 1)=some (.iface 187 (ae c)))
  (hQ:∀w',Sep F W w' (ax r 187 [ae c]::L)->Q true w'){target:Value}:jf Q (k+2) (.iface 240 (.pointer (sZ p))) target (.iface 219 (rt 187)) (aZ tb) w:=by
 show wO Q (jf Q (k+1)) _ _ _ _ _;apply jY x95 (Tm _ w);refine m6 (Rv _) WY aja (aez w) ?_;apply aeC;refine A3 (awV rfl _ _ _) (Tn rfl ?_);refine A3 (avU rfl _ _ _) (Tn rfl ?_);exact acH hv rfl (tG (W1 s hQ))
def Mq {Q:Bool->World->Prop}(s:Sep F W w (ax r 187 [ae v0]::L))(hv:∀w',Sep F W w' L->w'.cell? ((aZ p).add 1)=some (.iface 187 (ae c)))
  (h1:∀w',Sep F W w' L->w'.cell? (aZ 1)=some (.iface 219 (rt 74)))
  (hQ:∀w',Sep F W w' (ax r 187 [ae c]::L)->Q true w'):
  nA (.iface 240 (.pointer (sZ p))) (.iface 188 (.pointer (sZ r))) w Q:=by
 apply Bp;refine tG (tG ?_);refine jY x97 (GU (aZ r) w) ?_;apply Tp;have s:=tL s [.pointer (sZ r)] 188;have s:=s;generalize w.heap.size=a at s⊢;generalize w.alloc (.cells #[.pointer (sZ r)] 188)=w1 at s⊢;refine aT s λvb w s=>?_;refine sT s 0 rfl λw s=>?_;refine sT s 0 rfl λw s=>?_;refine av s (i:=0) rfl rfl rfl λw s=>?_;refine lP s 0 rfl (lP s 0 rfl (lI s 0 rfl ?_));apply jY x98 (Ru (aZ a) w);refine m6 (Il _) Ry aeB (Ml w) ?_;apply amr;refine lP s 0 rfl (lP s 0 rfl (lI s 0 rfl ?_));apply jY x99 (Mo (aZ a) (aZ r) w (by have:=cF s (i:=1) (j:=0) rfl rfl rfl;exact this));apply aeC;refine m6 (aaC _) ajb arc (Rw w) ?_;refine m6 (Il _) Ry aeB (Mn w) ?_;apply asr;apply mL (h1 w (ai (ai (ai s)))) rfl;refine m6 (aey _) ajc ard (WW w) ?_;apply amq;refine lP s 0 rfl (lP s 0 rfl (lI s 0 rfl ?_));apply Gp;have s:=ai s;refine aM s λtb w s=>?_;exact⟨2,ajf s (hv w (ai (ai (ai s)))) hQ⟩
end
end Go.Proofs.YtmegplnmiepfbaaGreatDoor.S.At
set_option maxRecDepth 20000
namespace Go.Proofs.YtmegplnmiepfbaaGreatDoor.S.Pk
open Go.Sx
open Go.Extern
def GS (v:Value)(w:World):(ReflectliteType.typeOf #[.iface 268 v]).run P w=.ok (.iface 219 (rt 268)) w:=by kernel_rfl
def GU (t:Addr)(w:World):(ReflectliteValue.unpack (.iface 269 (.pointer (some t)))).run P w
 =.ok (.agg #[.pointer (some ⟨8,269,none⟩),.pointer (sZ w.heap.size),.int .u64 150]) (w.alloc (.cells #[.pointer (some t)] 269)):=by kernel_rfl
def Em (n:Option Addr)(w:World):(ReflectliteValue.unpack (.iface 268 (.pointer n))).run P w
 =.ok (.agg #[.pointer (some ⟨8,268,none⟩),.pointer (sZ w.heap.size),.int .u64 150]) (w.alloc (.cells #[.pointer n] 268)):=by kernel_rfl
def Ru (a:Addr)(w:World):(ReflectliteValue.methodAny (ReflectliteValue.valueError "reflectlite.Value.Type" 0) (λt _ _ _=>ReflectliteType.toType t) #[.agg #[.pointer (some ⟨8,269,none⟩),.pointer (some a),.int .u64 150]]).run P w
 =.ok (.iface 219 (rt 269)) w:=by kernel_rfl
def Ml (w:World):((ReflectliteType.abiMethod λt=>(λa:Nat=>Value.int IntKind.u8 (a:Int))<$>Rtype.kind t) #[.pointer (some ⟨8,269,none⟩)]).run P w=.ok (.int .u8 22) w:=by kernel_rfl
def Mn (w:World):((ReflectliteType.abiMethod λt=>(λa:Nat=>Value.int IntKind.u8 (a:Int))<$>Rtype.kind t) #[.pointer (some ⟨8,268,none⟩)]).run P w=.ok (.int .u8 22) w:=by kernel_rfl
def Rw (w:World):(ReflectliteType.method ReflectliteType.elem #[rt 269]).run P w=.ok (.iface 219 (rt 268)) w:=by kernel_rfl
def WW (w:World):(ReflectliteType.relation "Implements" ReflectliteType.implements_ #[rt 268,.iface 219 (rt 74)]).run P w=.ok (.bool true) w:=by kernel_rfl
def Rx (w:World):(ReflectliteType.relation "AssignableTo" ReflectliteType.assignableTo #[rt 268,.iface 219 (rt 268)]).run P w=.ok (.bool true) w:=by kernel_rfl
abbrev vP (a:Addr):Value:=.agg #[.pointer (some ⟨8,269,none⟩),.pointer (some a),.int .u64 150]
abbrev vR (a:Addr):Value:=.agg #[.pointer (some ⟨8,268,none⟩),.pointer (some a),.int .u64 150]
abbrev vE (a:Addr):Value:=.agg #[.pointer (some ⟨8,268,none⟩),.pointer (some a),.int .u64 406]
def zS (a:Addr)(w:World):(ReflectliteValue.parts (vP a)).run P w=.ok (some (269,a,150)) w:=by kernel_rfl
def Jn (a:Addr)(w:World):(ReflectliteValue.parts (vR a)).run P w=.ok (some (268,a,150)) w:=by kernel_rfl
def Jo (a:Addr)(w:World):(ReflectliteValue.parts (vE a)).run P w=.ok (some (268,a,406)) w:=by kernel_rfl
def Mo (a p:Addr)(w:World)(ha:w.cell? a=some (.pointer (some p))):(ReflectliteValue.method (ReflectliteValue.valueError "reflectlite.Value.IsNil" 0) ReflectliteValue.isNil #[vP a]).run P w=.ok (.bool false) w:=by rw[rlm];simp[Sem.run_bind,zS,Result.andThen];simp[ReflectliteValue.isNil,loadVar,isAgg,underlying,Go.Proofs.Tryz.underlying269,ha,Result.andThen]
def Jp (w:World):(Rtype.elem? 269).run P w=.ok (some 268) w:=by kernel_rfl
def acI (p:Addr)(w:World):(ReflectliteValue.mk 268 p ReflectliteValue.flagAddr).run P w=.ok (vE p) w:=by kernel_rfl
def Mp (a p:Addr)(w:World)(ha:w.cell? a=some (.pointer (some p))):(ReflectliteValue.method (ReflectliteValue.valueError "reflectlite.Value.Elem" 0) ReflectliteValue.elem #[vP a]).run P w=.ok (vE p) w:=by rw[rlm];simp[Sem.run_bind,zS,Result.andThen];simp[ReflectliteValue.elem,loadVar,isAgg,underlying,Go.Proofs.Tryz.underlying269,ha,Result.andThen,Jp,acI]
def Jq (w:World):(Rtype.directlyAssignable 268 268).run P w=.ok true w:=by kernel_rfl
def W0 (t b:Addr)(n:Option Addr)(old:Value)(w:World)(hb:w.cell? b=some (.pointer n))(ht:w.cell? t=some old)(hf:w.frozen? t=false):
  (ReflectliteValue.set #[vE t,vR b]).run P w=.ok (.tuple #[]) (w.setCell t (.pointer n)):=by
 rw[rls];simp[Sem.run_bind,Jo,Jn,Result.andThen];simp[ReflectliteValue.flagAddr,loadVar,isAgg,underlying,Go.Proofs.Tryz.underlying268,hb,Result.andThen,Jq,storeVar,Value.cells,storeCells,Addr.add];rw[run_store P w t _ _ (by rfl)];simp[ht,hf]
attribute [local irreducible] tJ callFunc Sem.run ReflectliteValue.method ReflectliteValue.set ReflectliteValue.unpack ReflectliteType.relation ReflectliteType.typeOf af cQ bG bp aA cE cw St App cV cO cM bZ bI au cj ax ak bg mapA
section
variable {F:Nat->Prop}{W w:World}{L:List As}{p r:Nat}{c v0:Option Addr}
def awW {A B:Prop}(h:A):dI .u8 (.int .u8 22) λr=>cond (r !=20) A B:=h
def Rz {b:Addr}{K:Value->World->Prop}(hb:w.cell? b=some (.pointer c))(h:St (aZ r) (.pointer c) w λw=>K (.tuple #[]) w):tJ P 139 #[vE (aZ r),vR b] w K:=by obtain⟨⟨u,hu⟩,hf,k⟩:=ams h;have he:=W0 (aZ r) b c u w hb hu hf;apply jY (w':=w.setCell (aZ r) (.pointer c)) arb he;exact k
def W1 {Q:Bool->World->Prop}{k tb:Nat}{a:Nat}(s:Sep F W w (ax tb 161 [.pointer (some ⟨8,269,none⟩),.pointer (sZ a),.int .u64 150]::ax a 269 [.pointer (sZ r)]::ax r 268 [.pointer v0]::L))
  (hQ:∀w',Sep F W w' (ax r 268 [.pointer c]::L)->Q true w'){target:Value}:jf Q (k+1) (.iface 268 (.pointer c)) target (.iface 219 (rt 268)) (aZ tb) w:=by
 show wO Q (jf Q k) _ _ _ _ _;apply jY x95 (GS _ w);refine m6 (Rv _) WY aja (Rx w) ?_;apply amo;refine lP s 0 rfl (lP s 0 rfl (lI s 0 rfl ?_));apply jY ara (Mp (aZ a) (aZ r) w (by have:=cF s (i:=1) (j:=0) rfl rfl rfl;exact this));apply Tp;refine jY x97 (Em c w) ?_;apply Tp;have s2:=tL (ai (ai s)) [.pointer c] 268;have s2:=s2;apply Rz (c:=c) (by simp_all);refine av s2 (i:=1) rfl rfl rfl λw s=>?_;exact hQ w (ai s)
def Mq {Q:Bool->World->Prop}(s:Sep F W w (ax r 268 [.pointer v0]::L))
  (h1:∀w',Sep F W w' L->w'.cell? (aZ 1)=some (.iface 219 (rt 74)))
  (hQ:∀w',Sep F W w' (ax r 268 [.pointer c]::L)->Q true w'):
  nA (.iface 268 (.pointer c)) (.iface 269 (.pointer (sZ r))) w Q:=by
 apply Bp;refine tG (tG ?_);refine jY x97 (GU (aZ r) w) ?_;apply Tp;have s:=tL s [.pointer (sZ r)] 269;have s:=s;generalize w.heap.size=a at s⊢;generalize w.alloc (.cells #[.pointer (sZ r)] 269)=w1 at s⊢;refine aT s λvb w s=>?_;refine sT s 0 rfl λw s=>?_;refine sT s 0 rfl λw s=>?_;refine av s (i:=0) rfl rfl rfl λw s=>?_;refine lP s 0 rfl (lP s 0 rfl (lI s 0 rfl ?_));apply jY x98 (Ru (aZ a) w);refine m6 (Il _) Ry aeB (Ml w) ?_;apply amr;refine lP s 0 rfl (lP s 0 rfl (lI s 0 rfl ?_));apply jY x99 (Mo (aZ a) (aZ r) w (by have:=cF s (i:=1) (j:=0) rfl rfl rfl;exact this));apply aeC;refine m6 (aaC _) ajb arc (Rw w) ?_;refine m6 (Il _) Ry aeB (Mn w) ?_;apply awW;apply mL (h1 w (ai (ai (ai s)))) rfl;refine m6 (aey _) ajc ard (WW w) ?_;apply amq;refine lP s 0 rfl (lP s 0 rfl (lI s 0 rfl ?_));apply Gp;have s:=ai s;refine aM s λtb w s=>?_;exact⟨1,W1 s hQ⟩
end
end Go.Proofs.YtmegplnmiepfbaaGreatDoor.S.Pk
set_option maxRecDepth 20000
namespace Go.Proofs.YtmegplnmiepfbaaGreatDoor.S
open Go.Sx
attribute [local irreducible] af cQ bG bp aA cE cw St Bx Al App cV cO cM bZ aQ bI au cj ax ak bg mapA
abbrev s8 (a:Addr):Value:=.iface 401 (.pointer (some a))
attribute [local irreducible] tJ yJ in
theorem arB {w:World}{Q:Bool->World->Prop}{a b:Addr}{c:Bool}(he:∀(x y:Operand) (K:Bool->World->Prop),K c w->bZ P .eql 74 x y (s8 a) (s8 b) w K)(hQ:Q c w):pF (s8 a) (s8 b) w Q:=by
 apply NF;refine tG (tG ?_);apply jY x95 (afM _ w);refine m6 (ai9 _) apa avA (ald w) ?_;have h:wX (s8 a) (s8 b) true w Q:=by apply ND;exact⟨1,ale (.inl rfl) he hQ⟩
 exact h
def As.nil {w:World}{Q:Bool->World->Prop}{v:Value}(hQ:Q false w):nA .nilIface v w Q:=Bp _ _ _ _ hQ
def avV {w:World}{Q:Bool->World->Prop}{a b:Option Addr}{n c m d:Nat}{xs ys:List Int}(hA:Sl w a n c 1 bj xs)(hB:Sl w b m d 1 bj ys)(hx:dJ xs)(hy:dJ ys)(h:Q (decide (xs=ys)) w):DB a n c b m d w Q:=by apply X4;refine Iz dQ hA.row rfl rfl rfl rfl rfl rfl (Xn ?_);refine Iz dQ hB.row rfl rfl rfl rfl rfl rfl (Xn ?_);rw[afa hx hy];exact h
abbrev CH (rb:Nat)(ba:Option Addr)(bn bc:Nat)(at_:Int):As:=ax rb 265 [.slice ba bn bc,ae at_]
section
variable {W w w0:World}{L:List As}{lg:zT}{ba:Option Addr}{bn bc rb:Nat}{bs:List Int}{p n:Nat}
def aeM {A B:Prop}(h:A):BM .nilIface λb=>cond b A B:=h
def Mw {A B:Prop}(h:B):BM .nilIface λb=>cond (!b) A B:=h
def RE {t:Nat}{v:Value}{A B:Prop}(h:A):BM (.iface t v) λb=>cond (!b) A B:=h
def AY {a:Addr}{K:Value->Prop}(k:K (s8 a)):dV (s8 a) K:=k
def Tw {Q:Option Addr->Nat->Nat->Value->World->Prop}(hL:iP w0 lg)(hB:Sl w0 ba bn bc 1 bj bs)(FT:bn<=1000000000)(hp:p<=bn)(hn:n<=100000)(s:Sep No w0 w (CH rb ba bn bc p::L))
  (hno:bn-p<n->∀w',Sep No w0 w' (CH rb ba bn bc p::L)->Q none 0 0 (s8 lg.a6) w')
  (hyes:p+n<=bn->∀a c w',Sl w' a n c 1 bj ((bs.drop p).take n)->Sep No w0 w' (CH rb ba bn bc ((p+n:Nat):Int)::L)->Q a n c .nilIface w'):nM (sZ rb) n w Q:=by
 apply OF;have s:=ay s;refine ah (lS s 0 rfl (ah (lI s 0 rfl ?_)));rw[aH];by_cases h:bn-p<n
 ·rw[bK];have s:=ay s;have c6:=Fr.cell (aq s) hL.v6 id;exact mL c6 rfl ⟨c6,AY (hno h _ s)⟩
 ·rw[bu];refine ah (lI s 0 rfl (ah (av s (i:=0) rfl rfl rfl λw s=>?_)));have e:IntKind.wrap .i64 ((p:Int)+n)=((p+n:Nat):Int):=by rw[aH];omega
  rw[e]at s;have s:=ay s;refine ah (lS s 0 rfl (ah (lI s 0 rfl (ah (lI s 0 rfl ?_)))));rw[aH];refine(hB.fr (aq s)).mid (p:=p) (by omega) rfl (by omega) (by omega) λa n' c en hs=>?_;grind
def Y4 {Q:Option Addr->Nat->Nat->Value->World->Prop}(hL:iP w0 lg)(hB:Sl w0 ba bn bc 1 bj bs)(FT:bn<=1000000000)(hp:p<=bn)(hn:n<=100000)(s:Sep No w0 w (CH rb ba bn bc p::L))
  (hno:bn-p<n->∀w',Sep No w0 w' (CH rb ba bn bc p::L)->Q none 0 0 (s8 lg.a6) w')
  (GZ:p+n<=bn->0∈(bs.drop p).take n->∀a c w',Sl w' a n c 1 bj ((bs.drop p).take n)->Sep No w0 w' (CH rb ba bn bc ((p+n:Nat):Int)::L)->Q a n c (s8 lg.a5) w')
  (hyes:p+n<=bn->0∉(bs.drop p).take n->∀a c w',Sl w' a n c 1 bj ((bs.drop p).take n)->Sep No w0 w' (CH rb ba bn bc ((p+n:Nat):Int)::L)->Q a n c .nilIface w'):qz (sZ rb) n w Q:=by
 apply MN;refine Tw hL hB FT hp hn s (λh w s=>?_) λh a c w hs s=>?_
 ·exact tG (AY (hno h w s))
 ·apply aeM;apply Tl.Ib hs.row (by omega);by_cases h0:(0:Int)∈(bs.drop p).take n
  ·rw[bK h0];have c5:=Fr.cell (aq s) hL.v5 id;exact mL c5 rfl (AY (GZ h h0 a c w hs s))
  ·rw[bu h0];exact hyes h h0 a c w hs s
def XJ {Q:Option Addr->Nat->Nat->Value->World->Prop}(hL:iP w0 lg)(s:Sep No w0 w L)(h:∀w',Sep No w0 w' L->Q none 0 0 (s8 lg.a5) w'):cw (aZ 5) w.drew λx=>w.drew.cell? (aZ 5)=some x/\dV x λr=>Q none 0 0 r w.drew:=by have s:=ay s;have c5:=Fr.cell (aq s) hL.v5 id;exact mL c5 rfl ⟨c5,AY (h _ s)⟩
def apG {Q:Option Addr->Nat->Nat->Value->World->Prop}(hL:iP w0 lg)(hB:Sl w0 ba bn bc 1 bj bs)(FT:bn<=1000000000)(hr:dJ bs)(hn:n<=256)
  (hno:pX n (bs.drop 1) [] 1=none->∀e p' w',(e=lg.a5\/e=lg.a6)->Sep No w0 w' (CH rb ba bn bc p'::L)->Q none 0 0 (s8 e) w')
  (hyes:∀cs used,pX n (bs.drop 1) [] 1=some (cs,used)->∀a m c w',used<=bn->Sep No w0 w' (ak a m c 5 1 (flat bj cs)::CH rb ba bn bc (used:Nat)::L)->Q a m c .nilIface w'):
  ∀(j p:Nat) (oa:Option Addr) (on oc:Nat) (out:List Int) (w:World),n<=on+j->on<=n->p<=bn->pX n (bs.drop p) out p=pX n (bs.drop 1) [] 1->Sep No w0 w (ak oa on oc 5 1 (flat bj out)::CH rb ba bn bc p::L)->
   pL Q (j+1) (sZ rb) n oa on oc w:=by
 have hbl:=hB.len;intro j;induction j with
 |zero=>
  intro p oa on oc out w hj Cq hp he s;show pK _ _ _ _ _ _ _ _;unfold pK;have hol:=(aN s (i:=0) rfl dg (by decide)).len;rw[NR (by omega)]at he;grind
 |succ j ih=>
  intro p oa on oc out w hj Cq hp he s;have hol:=(aN s (i:=0) rfl dg (by decide)).len;show pK _ _ _ _ _ _ _ _;unfold pK;by_cases hlt:on<n
  ·rw[bK];refine Tw (n:=2) hL hB FT hp (by decide) (jr s) (λh w s=>?_) λh a c w hs s=>?_
   ·refine RE (AY ?_);refine hno ?_ lg.a6 p w (.inr rfl) (gj s (.cons_cons _ (List.sublist_cons_self _ _)));rw[<-he];have h2:(bs.drop p).length<2:=by grind
    match hd:bs.drop p,h2 with
    |[],_=>unfold pX;grind
    |[x],_=>unfold pX;grind
   ·apply Mw;have s:=ay s;have hs:=hs.drew;obtain⟨x,y,rest,hd⟩:∃x y rest,bs.drop p=x::y::rest:=by
     have h2:2<=(bs.drop p).length:=by rw[List.length_drop];omega
     match hd:bs.drop p,h2 with
     |x::y::rest,_=>exact⟨x,y,rest,rfl⟩
    have awX:rest=bs.drop (p+2):=by rw[<-List.drop_drop,hd];rfl
    have hx:=hr x (List.mem_of_mem_drop (by rw[hd];simp));rw[hd]at hs he;apply hs.Di rfl (by decide);refine hs.El rfl (by decide) λad z hz hc=>?_;have hz':z=y:=by have:([x,y]:List Int)[1]? =some z:=hz;simpa using this.symm
    subst hz';have hc0:=hc 0 _ rfl;refine aJ hc0 ⟨hc0,?_⟩;have e1:gi (List.take 2 (x::z::rest)) 0=x:=rfl;rw[e1];rw[pX,fR]at he;have bad:Eh n out x z=true->∀w',Sep No w0 w' (CH rb ba bn bc ((p+2:Nat):Int)::ak oa on oc 5 1 (flat bj out)::L)->Q none 0 0 (s8 lg.a5) w':=λhb w' s'=>by rw[if_pos hb]at he;exact hno he.symm lg.a5 _ w' (.inl rfl) (gj s' (.cons_cons _ (List.sublist_cons_self _ _)))
    by_cases hz0:z=0
    ·rw[d_ hz0,cond_true];exact XJ hL s (bad (by unfold Eh;rw[d_ hz0];rfl))
    rw[cN hz0,cond_false,aH (n:=x),aH,aH];by_cases asC:x+1>(n:Int)-on
    ·rw[bK asC];exact XJ hL s (bad (by unfold Eh;rw[decide_eq_true (by omega)];simp))
    rw[bu asC];have go:¬Eh n out x z=true->uk (pL Q (j+1)) Q (sZ rb) n oa on oc (x+1) z w.drew:=λhb=>by
     rw[if_neg hb]at he;refine aM s λxb w s=>?_;have hX:=acZ (ns:=[z]) s (i:=0) rfl;have e2:x+1=(((x+1).toNat:Nat):Int):=by omega
     rw[e2];refine Tv s hX (by omega) λra w s _=>?_;have hR:=aN s (i:=0) rfl dg (by decide);have s:=pk 4 [3,2,0] s;refine aio (b:=0) s (by omega) (by simp) (by omega) hR λa' c' w s=>?_;refine ih (p+2) a' (on+(x+1).toNat) c' _ w (by omega) (by omega) (by omega) ?_ (gj s (.cons_cons _ (.cons_cons _ (List.sublist_cons_self _ _))));rw[<-awX];exact he
    by_cases hpos:0<on
    ·rw[bK,aH];have hO:=aN s (i:=1) rfl dg (by decide);apply hO.Di (k:=on-1) (by omega) (by omega);by_cases hl:gi out (on-1)=z
     ·rw[d_ hl,cond_true];exact XJ hL s (bad (by unfold Eh;rw[hol,decide_eq_true hpos,d_ hl];simp))
     ·rw[cN hl,cond_false];apply go;rw[Eh,hol,cN hl,cN hz0,decide_eq_false (by omega)];simp
    ·rw[bu];apply go;rw[Eh,hol,cN hz0,decide_eq_false (by omega),decide_eq_false hpos];simp
  ·rw[bu];rw[NR (by omega)]at he;exact hyes out p he.symm oa on oc w hp s
def amL {Q:Option Addr->Nat->Nat->Value->World->Prop}(hL:iP w0 lg)(hB:Sl w0 ba bn bc 1 bj bs)(FT:1<=bn/\bn<=1000000000)(hr:dJ bs)(hn:n<=256)(s:Sep No w0 w (CH rb ba bn bc 1::L))
  (hno:pX n (bs.drop 1) [] 1=none->∀e p' w',(e=lg.a5\/e=lg.a6)->Sep No w0 w' (CH rb ba bn bc p'::L)->Q none 0 0 (s8 e) w')
  (hyes:∀cs used,pX n (bs.drop 1) [] 1=some (cs,used)->∀a m c w',used<=bn->Sep No w0 w' (ak a m c 5 1 (flat bj cs)::CH rb ba bn bc (used:Nat)::L)->Q a m c .nilIface w'):xZ (sZ rb) n w Q:=by
 apply OG;exact⟨n+1,apG hL hB FT.2 hr hn hno hyes n 1 none 0 0 [] w (by omega) (Nat.zero_le _) FT.1 rfl (bC s 5 1)⟩
end
end Go.Proofs.YtmegplnmiepfbaaGreatDoor.S
set_option maxRecDepth 20000
namespace Go.Proofs.YtmegplnmiepfbaaGreatDoor.S
open Go.Sx
attribute [local irreducible] af cQ bG bp aA cE cw St Bx Al App cV cO cM bZ aQ bI au cj ax ak bg mapA
def atS {bs cs:List Int}{n used:Nat}(hn:1<=n)(hb:∀x∈bs,0<=x/\x<256)(hB:IG n bs=some (cs,used)):cs.length=n/\(∀x∈cs,1<=x/\x<256)/\used<=bs.length:=by
 cases bs with
 |nil=>cases hB
 |cons f r=>
  rw[FL]at hB;split at hB
  ·split at hB
   ·cases hB
   ·rename_i h1;cases hB;obtain⟨x,r',rfl⟩:∃x r',r=x::r':=by
     cases r with
     |nil=>grind
     |cons x r'=>grind
    have hx:=hb x (by simp);refine⟨by simp,λy hy=>?_,by simp⟩;rw[List.mem_replicate]at hy;have h3:y=x:=hy.2;omega
  ·split at hB
   ·grind
   ·split at hB
    ·have:=S4 n r [] 1 cs used (λx hx=>hb x (by simp[hx])) (by simp) (by simp) hB;grind
    ·cases hB
section
variable {W w w0:World}{L:List As}{lg:zT}{ba:Option Addr}{bn bc rb:Nat}{bs:List Int}{n:Nat}
def amM {Q:Option Addr->Nat->Nat->Value->World->Prop}(hL:iP w0 lg)(hB:Sl w0 ba bn bc 1 bj bs)(FT:bn<=1000000000)(hr:dJ bs)(hn:1<=n/\n<=256)(s:Sep No w0 w (CH rb ba bn bc 0::L))
  (hno:IG n bs=none->∀a m c ns e p' w',(e=lg.a5\/e=lg.a6)->m<=256->Sl w' a m c 1 bj ns->Sep No w0 w' (CH rb ba bn bc p'::L)->Q a m c (s8 e) w')
  (hyes:∀cs used,IG n bs=some (cs,used)->∀a c w',used<=bn->Sl w' a n c 1 bj cs->Sep No w0 w' (CH rb ba bn bc (used:Nat)::L)->Q a n c .nilIface w'):xX (sZ rb) n w Q:=by
 apply OH;have hbl:=hB.len;have s:=s;refine Tw (n:=1) hL hB FT (Nat.zero_le _) (by decide) s (λh w s=>?_) λh a c w hs s=>?_
 ·have e0:bs=[]:=List.eq_nil_of_length_eq_zero (by omega);exact RE (AY (hno (by rw[e0];rfl) none 0 0 [] lg.a6 _ w (.inr rfl) (Nat.zero_le _) BS s))
 ·apply Mw;obtain⟨f,r,rfl⟩:∃f r,bs=f::r:=by
   cases bs with
   |nil=>grind
   |cons f r=>grind
  apply hs.Di rfl (by decide);have e1:gi (List.take 1 (List.drop 0 (f::r))) 0=f:=rfl;rw[e1];have s:=s;rw[List.length_cons]at hbl;have hr1:=hr.cons;rw[FL]at hno hyes;by_cases f0:f=0
  ·rw[d_ f0,cond_true];rw[if_pos f0]at hno hyes;refine Y4 (n:=1) hL hB FT (by omega) (by decide) s (λh w s=>?_) (λh h0 a c w hs s=>?_) λh h0 a c w hs s=>?_
   ·have er:r=[]:=List.eq_nil_of_length_eq_zero (by omega);refine amJ s (by omega) λra w s _=>AY ?_;have hA:=aN s (i:=0) rfl dg (by decide);exact hno (if_pos (.inl er)) ra 0 0 [] lg.a6 _ w (.inr rfl) (Nat.zero_le _) hA (ai s)
   ·obtain⟨x,r',rfl⟩:∃x r',r=x::r':=by
     cases r with
     |nil=>simp at hbl;omega
     |cons x r'=>exact⟨x,r',rfl⟩
    have hx:x=0:=by have:(0:Int)∈[x]:=h0;exact(List.mem_singleton.1 this).symm
    have hs:=hs;refine Tv s hs (by omega) λra w s _=>AY ?_;have hA:=aN s (i:=0) rfl dg (by decide);exact hno (if_pos (.inr hx)) ra n n _ lg.a5 _ w (.inl rfl) hn.2 hA (ai s)
   ·obtain⟨x,r',rfl⟩:∃x r',r=x::r':=by
     cases r with
     |nil=>simp at hbl;omega
     |cons x r'=>exact⟨x,r',rfl⟩
    have hx:¬x=0:=λe=>h0 (by rw[e];exact List.mem_cons_self ..);have hs:=hs;refine Tv s hs (by omega) λra w s _=>?_;have hA:=aN s (i:=0) rfl dg (by decide);refine hyes _ 2 (if_neg λe=>e.elim (λe=>by cases e) hx) ra n w h hA (ai s)
  rw[cN f0,cond_false];rw[if_neg f0]at hno hyes;by_cases f1:f=1
  ·rw[d_ f1,cond_true];rw[if_pos f1]at hno hyes;refine Y4 hL hB FT (by omega) (by omega) s (λh w s=>?_) (λh h0 a c w hs s=>?_) λh h0 a c w hs s=>?_
   ·exact AY (hno (if_pos (.inl (by omega))) none 0 0 [] lg.a6 _ w (.inr rfl) (Nat.zero_le _) BS s)
   ·exact AY (hno (if_pos (.inr h0)) a n c _ lg.a5 _ w (.inl rfl) hn.2 hs s)
   ·exact hyes _ (1+n) (if_neg λe=>e.elim (λe=>by omega) h0) a c w h hs s
  rw[cN f1,cond_false];rw[if_neg f1]at hno hyes;by_cases f2:f=2
  ·rw[d_ f2,cond_true];rw[if_pos f2]at hno hyes;refine amL hL hB (by omega) hr hn.2 s (λh e p' w he s=>AY (hno h none 0 0 [] e p' w he (Nat.zero_le _) BS s)) λcs used h a m c w hu s=>?_;have hA:=aN s (i:=0) rfl dg (by decide);have hm:=(S4 n r [] 1 cs used (λx hx=>hr1.2 x hx) (by simp) (by simp) h).1;have:m=n:=by rw[<-hA.len,hm]
   subst this;exact hyes cs used h a c w hu hA (ai s)
  ·rw[cN f2,cond_false];rw[if_neg f2]at hno;exact XJ hL s λw' s=>hno rfl none 0 0 [] lg.a5 _ w' (.inl rfl) (Nat.zero_le _) BS s
end
section
variable {W w w0:World}{L:List As}{lg:zT}{ba:Option Addr}{bn bc rb:Nat}{bs:List Int}{n:Nat}{tw th:Int}
def aaT {p:Nat}{v0 v1 v2:Value}{a b:Int}{c:Option Addr}{d e:Nat}{F:Nat->Prop}{t:TypeId}{K:Int->Int->Option Addr->Nat->Nat->World->Prop}(s:Sep F W w (ax p t [v0,v1,v2]::L))(h:∀w',Sep F W w' L->K a b c d e w'):
  St ((aZ p).add 0) (ae a) w λw=>St ((aZ p).add 1) (ae b) w λw=>St ((aZ p).add 2) (.slice c d e) w λw=>af .i64 ((aZ p).add 0) w λa=>af .i64 ((aZ p).add 1) w λb=>aA ((aZ p).add 2) w λc d e=>K a b c d e w:=by
 refine sT s 0 rfl λw s=>?_;refine sT s 0 rfl λw s=>?_;refine av s (i:=0) rfl rfl rfl λw s=>?_;exact lI s 0 rfl (lI s 0 rfl (lS s 0 rfl (h w (ai s))))
def awY {a b:Addr}(hb:∃c t,w.heap[b.block]? =some (.cells c t (0,0)))(ha:∃c t,w.heap[a.block]? =some (.cells c t (0,0))):∃c:Bool,(c=true↔a=b)/\∀(x y:Operand) (K:Bool->World->Prop),K c w->bZ P .eql 74 x y (s8 a) (s8 b) w K:=by
 by_cases h:a=b
 ·subst h;exact⟨true,by simp,λx y K hk=>WX hk⟩
 ·obtain⟨c1,t1,h1⟩:=ha;obtain⟨c2,t2,h2⟩:=hb;exact⟨false,by simp[h],λx y K hk=>acG h h1 h2 hk⟩
def amN {Q:Int->Int->Option Addr->Nat->Nat->Value->World->Prop}{p':Int}{t6:Nat}{e:Addr}{t:Addr}{v0 v1 v2:Value}(hL:iP w0 lg)(he:e=lg.a5\/e=lg.a6)(s:Sep No w0 w (CH rb ba bn bc p'::ax t6 84 [v0,v1,v2]::L))
  (h:∀fb co w',Sep No w0 w' (ax fb 271 [ae p',ae co,s8 e]::CH rb ba bn bc p'::L)->(co=2\/co=3)->Q 0 0 none 0 0 (.iface 268 (.pointer (sZ fb))) w'):
  mW Q (sZ rb) (aZ t6) (s8 e) t w:=by
 refine tG (ah (lI s 0 rfl (AY ?_)));refine aM s λfb w s=>?_;have k:=hL.fr (aq s);apply mL k.v6 rfl;obtain⟨c,hc,hq⟩:=awY (a:=e) k.b6 (by rcases he with rfl|rfl;exact k.b5;exact k.b6);apply arB hq;cases c with
 |true=>
  refine av s (i:=0) rfl rfl rfl λw s=>?_;exact aaT (pk 3 [2,0,1] s) λw s=>h fb 2 w s (.inl rfl)
 |false=>
  exact aaT (pk 3 [2,0,1] s) λw s=>h fb 3 w s (.inr rfl)
def amO {Q:Int->Int->Option Addr->Nat->Nat->Value->World->Prop}(hL:iP w0 lg)(hB:Sl w0 ba bn bc 1 bj bs)(FT:bn<=1000000000)(hr:dJ bs)(hw:1<=tw/\tw<=16)(hh:1<=th/\th<=16)(hn:(n:Int)=tw*th)(s:Sep No w0 w (CH rb ba bn bc 0::L))
  (hno:E8 bs n=none->∀fb p' co e w',(co=2\/co=3)->Sep No w0 w' (ax fb 271 [ae p',ae co,s8 e]::CH rb ba bn bc p'::L)->Q 0 0 none 0 0 (.iface 268 (.pointer (sZ fb))) w')
  (hyes:∀cs used,E8 bs n=some (cs,used)->∀ta tn tc w',used<=bn->Sep No w0 w' (ak ta tn tc 5 1 (flat bj cs)::CH rb ba bn bc (used:Nat)::L)->Q tw th ta tn tc .nilIface w'):xW (sZ rb) tw th w Q:=by
 apply OI;have q1:=Int.mul_le_mul hw.1 hh.1 (by decide) (by omega);have q2:=Int.mul_le_mul hw.2 hh.2 (by omega) (by decide);rw[aH,<-hn];refine aT s λt6 w s=>?_;have fail:∀{e:Addr} {t:Addr} {p':Int} {w:World},(e=lg.a5\/e=lg.a6)->E8 bs n=none->Sep No w0 w (CH rb ba bn bc p'::ax t6 84 [ae 0,ae 0,.slice none 0 0]::L)->mW Q (sZ rb) (aZ t6) (s8 e) t w:=λhe hg s=>
  amN hL he s λfb co w' s' Vg=>hno hg fb _ co _ w' Vg s'
 refine amM hL hB FT hr (by omega) (jr s) (λhb a m c ns e p' w he hm hA s=>?_) λcs used hb a c w hu hA s=>?_
 ·refine GA s hA (by omega) λra rc w s _=>?_;refine aT s λtb w s=>?_;refine sT s 0 rfl λw s=>?_;refine sT s 0 rfl λw s=>?_;refine sT s 0 rfl λw s=>?_;apply tG;refine fail he ?_ (ai (ai s));rw[E8,hb]
 ·obtain⟨k1,k2,k3⟩:=atS (by omega) (λx hx=>hr x hx) hb;refine GA s hA (by omega) λra rc w s _=>?_;refine aT s λtb w s=>?_;refine sT s 0 rfl λw s=>?_;refine sT s 0 rfl λw s=>?_;refine av s (i:=0) rfl rfl rfl λw s=>?_;apply aeM;refine lI s 0 rfl (lI s 0 rfl (lS s 0 rfl ?_));have hC:=aN s (i:=1) rfl dg (by decide);refine apF s hC (Tl.Z7.2 ⟨hw,hh,by omega,λh0=>by grind⟩) (by omega) λg o pn pc w s _=>?_;have s:=ay s;refine ah (lS s 3 rfl (ah (lI s 3 rfl ?_)));refine(hB.fr (aq s)).hi rfl hu λb' c' hS=>?_;have hP:=aN s (i:=0) rfl dg (by decide);apply avV hP hS (ahU (λx hx=>by grind) (by omega)) (hr.take used);by_cases e:(tN cs).2=bs.take used
  ·rw[decide_eq_true e,Bool.not_true,cond_false];apply aeM;refine lI s 1 rfl (lI s 1 rfl (lS s 1 rfl ?_));refine aaT (pk 5 [4,2,3] s) λw s=>?_;refine hyes cs used ?_ ra n rc w hu s;unfold E8;grind
  ·rw[decide_eq_false e];have c5:=Fr.cell (aq s) hL.v5 id;refine mL c5 rfl (fail (.inl rfl) ?_ (pk 5 [3,4] s));unfold E8;grind
def aeN {F:Nat->Prop}{Q:Int->Int->Option Addr->Nat->Nat->Int->Int->World->Prop}(hL:iP w lg)(hB:Sl w ba bn bc 1 bj bs)(FT:bn<=1000000000)(hr:dJ bs)(hw:1<=tw/\tw<=16)(hh:1<=th/\th<=16)(hn:(n:Int)=tw*th)(s0:Sep F W w L)
  (hno:E8 bs n=none->∀co w',(co=2\/co=3)->Sep F W w' L->Fr No w w'->Q 0 0 none 0 0 0 co w')
  (hyes:∀cs used,E8 bs n=some (cs,used)->∀ta tn tc w',used<=bn->Sep F W w' (ak ta tn tc 5 1 (flat bj cs)::L)->Fr No w w'->Q tw th ta tn tc (used:Nat) 0 w'):HR ba bn bc tw th w Q:=by
 apply adG;refine aT (aX (F:=No)) λtb w1 s=>?_;rw[bu,bu,bu,bu];refine aM s λrb w1 s=>?_;have c1:∀{w':World} {L':List As},Sep No w w' L'->w'.cell? (aZ 1)=some (.iface 219 (rt 74)):=λs=>(hL.fr (aq s)).v1;refine amO hL hB FT hr hw hh hn s (λhg fb p' co e w1 Vg s=>?_) λcs used hg ta tn tc w1 hu s=>?_
 ·refine sT s 2 rfl λw1 s=>?_;refine sT s 2 rfl λw1 s=>?_;refine av s (i:=2) rfl rfl rfl λw1 s=>?_;refine aT s λf w1 s=>?_;have s:=s;refine av s (i:=0) rfl rfl rfl λw1 s=>?_;refine Pk.Mq s (λw' s'=>c1 s') λw1 s=>?_;have s:=ay s;refine lP s 0 rfl (ah (lI s 1 rfl ?_));refine sT s 3 rfl λw1 s=>?_;refine sT s 3 rfl λw1 s=>?_;refine av s (i:=3) rfl rfl rfl λw1 s=>?_;refine⟨ck s 1 rfl,ck s 0 rfl,ck s 1 rfl,ck s 0 rfl,?_⟩;refine lI s 3 rfl (lI s 3 rfl (lS s 3 rfl ?_));have s':=bY (L':=[]) [] s rfl (by decide);exact hno hg co w1 Vg (fq s0 s') (aq s')
 ·refine sT s 2 rfl λw1 s=>?_;refine sT s 2 rfl λw1 s=>?_;refine av s (i:=2) rfl rfl rfl λw1 s=>?_;refine aT s λf w1 s=>?_;have s:=s;refine av s (i:=0) rfl rfl rfl λw1 s=>?_;apply As.nil;have s:=ay s;refine lI s 3 rfl (lI s 3 rfl (lS s 3 rfl ?_));apply lI s 2 rfl;refine sT s 3 rfl λw1 s=>?_;refine sT s 3 rfl λw1 s=>?_;refine av s (i:=3) rfl rfl rfl λw1 s=>?_;refine⟨ck s 2 rfl,?_⟩;refine lI s 3 rfl (lI s 3 rfl (lS s 3 rfl ?_));have s':=bY (L':=[ak ta tn tc 5 1 (flat bj cs)]) [1] s rfl (by decide);exact hyes cs used hg ta tn tc w1 hu (fq s0 s') (aq s')
end
section
variable {w h sc:Int}{M ts:List Int}{y tw p:Nat}
def ajt (hs:dW w h sc)(hM:(M.length:Int)=w*h){c:Nat}(hc:c<M.length):bJ w h c:=⟨hs.1,by omega,by omega⟩
def apI (hs:dW w h sc)(hM:(M.length:Int)=w*h):E9 w h sc M ts 0=M:=by refine Vj L6 λc hc=>?_;rw[L6]at hc;rw[Xs hc,if_neg];rintro ⟨e,h0⟩;have hC:=ajt hs hM hc;have hl:=(j7 hC).1;have:=Int.ediv_nonneg hl (b:=aE w h sc) (by have:=(zA hs).1;omega);omega
def aju (hs:dW w h sc)(Q9:(tw:Int)=aE w h sc)(hy:(y:Int)<bw w h sc)(hp:(p:Int)=bU w h sc (y*aE w h sc)){c:Nat}(hC:bJ w h c):
  (aC w h c=sc/\dX w h c/aE w h sc=y)↔(p<=c/\c<p+tw):=by
 have hz:=zA hs;constructor
 ·rintro ⟨e,e2⟩;have hg:=nU hC;have hl:=j7 hC;have Nv:=Int.emod_nonneg (dX w h c) (b:=aE w h sc) (by omega);have K9:=Int.emod_lt_of_pos (dX w h c) (b:=aE w h sc) (by omega);have hd:=Int.mul_ediv_add_emod (dX w h c) (aE w h sc);obtain⟨x,hx⟩:∃x:Nat,dX w h c%aE w h sc=x:=⟨(dX w h c%aE w h sc).toNat,by omega⟩;rw[hx]at hd Nv K9;have:=Ic hs (y:=y) K9;grind
 ·rintro ⟨h1,h2⟩;have hx:((c-p:Nat):Int)<aE w h sc:=by omega
  have:=Ic hs (y:=y) hx;have ec:bU w h sc (y*aE w h sc+(c-p:Nat))=c:=by omega
  have hl:0<=(y:Int)*aE w h sc+(c-p:Nat)/\(y:Int)*aE w h sc+(c-p:Nat)<aE w h sc*bw w h sc:=by have a:0<=(y:Int)*aE w h sc:=Int.mul_nonneg (by omega) (by omega);have b:((y:Int)+1)*aE w h sc<=bw w h sc*aE w h sc:=Int.mul_le_mul_of_nonneg_right (by omega) (by omega);grind
  have e1:=iV hs hl;have e2:=F9 hs hl;rw[ec]at e1 e2;refine⟨e1,?_⟩;rw[e2];exact(rL ⟨by omega,hx⟩).1
def arC (hs:dW w h sc)(hM:(M.length:Int)=w*h)(hts:(ts.length:Int)=aE w h sc*bw w h sc)(Q9:(tw:Int)=aE w h sc)(hy:(y:Int)<bw w h sc)(hp:(p:Int)=bU w h sc (y*aE w h sc))(hpn:p+tw<=M.length):
  (E9 w h sc M ts y).take p++(ts.drop (y*tw)).take tw++(E9 w h sc M ts y).drop (p+tw)=E9 w h sc M ts ((y+1:Nat):Int):=by
 have hyt:y*tw+tw<=ts.length:=by have b:((y:Int)+1)*aE w h sc<=bw w h sc*aE w h sc:=Int.mul_le_mul_of_nonneg_right (by omega) (by omega);grind
 have hl:((E9 w h sc M ts y).take p++(ts.drop (y*tw)).take tw++(E9 w h sc M ts y).drop (p+tw)).length=M.length:=by simp[List.length_append,List.length_take,List.length_drop,L6];omega
 refine Vj (by rw[hl,L6]) λc hc=>?_;rw[hl]at hc;have hC:=ajt hs hM hc;have azf:=aju hs Q9 hy hp hC;rw[Xs hc];by_cases hin:p<=c/\c<p+tw
 ·obtain⟨e1,e2⟩:=azf.2 hin;have hlr:=j7 hC;have hd:=Int.mul_ediv_add_emod (dX w h c) (aE w h sc);rw[e2]at hd;have hg:=nU hC;rw[e1]at hg;have Nv:=Int.emod_nonneg (dX w h c) (b:=aE w h sc) (by omega);have K9:=Int.emod_lt_of_pos (dX w h c) (b:=aE w h sc) (by omega);obtain⟨x,hx⟩:∃x:Nat,dX w h c%aE w h sc=x:=⟨(dX w h c%aE w h sc).toNat,by omega⟩;rw[hx]at hd K9;have hgr:=Ic hs (y:=y) K9;rw[Int.mul_comm,hd,hg,Int.mul_comm (aE w h sc)]at hgr;unfold gi;grind
 ·have e:(aC w h c=sc/\dX w h c/aE w h sc<((y+1:Nat):Int))↔(aC w h c=sc/\dX w h c/aE w h sc<(y:Int)):=by omega
  simp only[e];rw[<-Xs hc];unfold gi;grind
end
section
variable {F:Nat->Prop}{W w w0:World}{L:List As}{mw mh sc:Int}{M ts:List Int}{ta:Option Addr}{tn tc g o mn mc:Nat}
def apJ {Q:World->Prop}(hs:dW mw mh sc)(hM:(M.length:Int)=mw*mh)(hts:(ts.length:Int)=aE mw mh sc*bw mw mh sc)(hT:∀w',Sep F W w' L->Sl w' ta tn tc 1 bj ts)(s:Sep F W w (ak (some ⟨g,o,none⟩) mn mc 5 1 (flat bj M)::L))
  (h:∀w',Sep F W w' (ak (some ⟨g,o,none⟩) mn mc 5 1 (flat bj (aix mw mh sc M ts))::L)->Q w'):Gj mw mh (some ⟨g,o,none⟩) mn mc sc (aE mw mh sc) (bw mw mh sc) ta tn tc w Q:=by
 apply abv;have hz:=zA hs;have hmn:=(aN s (i:=0) rfl dg (by decide)).len;refine aM s λmb w s=>?_;refine aM s λtb w s=>?_;refine lI s 1 rfl (lI s 1 rfl ?_);refine xx s λw s _=>?_;apply lI s 0 rfl;have hz1:0<aE mw mh sc*bw mw mh sc:=Int.mul_pos (by omega) (by omega);have eg:CN mw mh sc 0=bU mw mh sc 0:=if_pos ⟨hs,by omega,hz1⟩;rw[eg];obtain⟨tw,Q9⟩:∃tw:Nat,(tw:Int)=aE mw mh sc:=⟨(aE mw mh sc).toNat,by omega⟩;obtain⟨th,hth⟩:∃th:Nat,(th:Int)=bw mw mh sc:=⟨(bw mw mh sc).toNat,by omega⟩;have loop:∀(j y:Nat) (w:World),y+j=th->Sep F W w (ax tb 84 [ae (aE mw mh sc),ae (bw mw mh sc),.slice ta tn tc]::ax mb 25 [ae mw,ae mh,.slice (some ⟨g,o,none⟩) mn mc]::ak (some ⟨g,o,none⟩) mn mc 5 1 (flat bj (E9 mw mh sc M ts y))::L)->
   Ex Q (j+1) (aZ mb) (aZ tb) (bU mw mh sc 0) (bw mw mh sc) y w:=by
  intro j;induction j with
  |zero=>
   intro y w hj s;show AN _ _ _ _ _ _ _ _;rw[AN,bu];have:(y:Int)=bw mw mh sc:=by omega
   rw[this]at s;exact h w (ai (ai s))
  |succ j ih=>
   intro y w hj s;show AN _ _ _ _ _ _ _ _;rw[AN,bK];have s:=ay s;have b1:((y:Int)+1)*aE mw mh sc<=bw mw mh sc*aE mw mh sc:=Int.mul_le_mul_of_nonneg_right (by omega) (by omega);rw[Int.add_mul,Int.one_mul,Int.mul_comm (bw mw mh sc)]at b1;have b2:0<=(y:Int)*aE mw mh sc:=Int.mul_nonneg (by omega) (by omega);have b3:=Int.mul_le_mul hz.1.2 hz.2.1.2 (by omega) (by decide);have hC:=sQ hs ⟨b2,by omega⟩;have hC2:=sQ hs (l:=y*aE mw mh sc+((tw-1:Nat):Int)) ⟨by omega,by omega⟩;have hrow:=Ic hs (y:=y) (x:=tw-1) (by omega);obtain⟨p,hp⟩:∃p:Nat,(p:Int)=bU mw mh sc (y*aE mw mh sc):=⟨(bU mw mh sc (y*aE mw mh sc)).toNat,by have:=hC.2;omega⟩;have hpn:p+tw<=M.length:=by have:=hC2.2;omega
   have e0:bU mw mh sc 0+(y:Int)*mw=p:=by rw[hp];unfold bU;obtain⟨e3,e4⟩:=rL (w:=aE mw mh sc) (x:=0) (by omega);rw[Int.add_zero]at e3 e4;rw[e3,e4];simp[Int.zero_ediv,Int.zero_emod,Int.add_zero,Int.add_mul];omega
   have hyw:0<=(y:Int)*mw/\(y:Int)*mw<=16*1024:=⟨Int.mul_nonneg (by omega) (by have:=hs.1.1;omega),Int.mul_le_mul (by omega) hs.1.1.2 (by have:=hs.1.1;omega) (by decide)⟩;have hg0:=Vp (sQ hs ⟨by omega,hz1⟩);refine lS s 1 rfl (lI s 1 rfl ?_);rw[aH (n:=(y:Int)*mw),aH,e0];have hcap:=RS s (i:=2) rfl;apply Py rfl (by omega);rw[fR];refine lS s 0 rfl (lI s 0 rfl (lI s 0 rfl ?_));rw[Oi (by omega),aH,wrap_i64 (by push_cast;rw[Int.add_mul];omega) (by push_cast;rw[Int.add_mul];omega)];have hTs:=hT _ (ai (ai (ai s)));have Q7:=hTs.len;have ey:((y*tw:Nat):Int)=(y:Int)*aE mw mh sc:=by push_cast;rw[Q9]
   refine hTs.mid (q:=y*tw+tw) ey.symm (by push_cast;rw[Int.add_mul,Q9];omega) (by omega) (by omega) λa n' c' en hS=>?_;have en:n'=tw:=by omega
   subst en;rw[show y*n'+n'-y*n'=n' by omega]at hS;refine EL (p:=p) dQ s rfl rfl rfl rfl (by decide) (i:=2) rfl (hS.src (e:=5) dg A2) (by omega) (by simp[Addr.add]<;>omega) λw s=>?_;rw[show min n' (mn-p)=n' by omega]at s;have est:(flat bj (E9 mw mh sc M ts y)).take (p*1)++(flat bj ((ts.drop (y*n')).take n')).take (n'*1)++(flat bj (E9 mw mh sc M ts y)).drop ((p+n')*1)=flat bj (E9 mw mh sc M ts ((y+1:Nat):Int)):=by rw[<-arC hs hM hts Q9 (by omega) hp hpn];simp[Zk,Nat.mul_one,List.map_append,List.map_take,List.map_drop];rw[List.take_take,Nat.min_self]
   rw[est]at s;exact ih (y+1) w (by omega) s
 have s:=s;rw[<-apI hs hM]at s;exact⟨th+1,loop th 0 _ (by omega) s⟩
end
structure Ep (bs:List Int):Prop where
 len:4<=bs.length
 wh:iM (Bu bs) (Bv bs)
 tail:∀bs' M,rj (Bu bs) (Bv bs) (eV (Bu bs) (Bv bs)).toNat 0 (bs.drop 4) (List.replicate (Bu bs*Bv bs).toNat 0)=some (bs',M)->bs'=[]
def Ep.get {bs:List Int}(h:Ep bs):k_ bs=(rj (Bu bs) (Bv bs) (eV (Bu bs) (Bv bs)).toNat 0 (bs.drop 4) (List.replicate (Bu bs*Bv bs).toNat 0)).map λq=>⟨Bu bs,Bv bs,q.2⟩:=by
 rw[k_,if_neg (by have:=h.len;omega),if_pos h.wh];split
 ·rename_i bs' M hT;rw[hT,h.tail _ _ hT,if_pos rfl];rfl
 grind
def aCw:zc T 25=[ae 0,ae 0,.slice none 0 0]:=rfl
def aaU {w:World}{mw mh:Int}{Q:Int->World->Prop}(hm:iM mw mh)(h:Q (eV mw mh) w):EU mw mh w Q:=by apply ZB;apply qQ;have:=gQ hm.1 hm.2;unfold Z6 ad1;rw[if_pos hm,if_pos hm];unfold eV at h this;rw[aH];exact h
def _root_.Go.Sx.Sl.Elf {α:Type}{w0:World}{a:Option Addr}{n c size k:Nat}{f:α->List Value}{xs:List α}{idx:Int}{K:Addr->Prop}(h:Sl w0 a n c size f xs)(hk:idx=k)(hn:k<n)
  (hK:∀p x,xs[k]? =some x->(∀w,Fr No w0 w->∀j v,(f x)[j]? =some v->w.cell? ((p.add (idx.toNat*size)).add j)=some v)->K p):aK idx n (wA a K):=
 h.El hk hn λp x hx hc=>hK p x hx λw fr j v hv=>Fr.cell fr (hc j v hv) id
section
variable {W w w0:World}{L:List As}{lg:zT}{ba:Option Addr}{bn bc:Nat}{bs:List Int}
def apK {Q:Int->Int->Option Addr->Nat->Nat->Value->World->Prop}{mw mh:Int}{mb p2 g o mn mc N:Nat}(hL:iP w0 lg)(hm:iM mw mh)(hN:(N:Int)=eV mw mh){R:Option (List Int×List Int)}(awZ:∀bs' M,R=some (bs',M)->bs'=[])
  (hno:R=none->∀tb i co w',Sep No w0 w' (ax tb 242 [ae i,.iface 187 (ae co)]::[])->(co=2\/co=3)->Q 0 0 none 0 0 (.iface 240 (.pointer (sZ tb))) w')
  (hyes:∀M,R=some ([],M)->∀w',Sep No w0 w' (ak (some ⟨g,o,none⟩) mn mc 5 1 (flat bj M)::[])->Q mw mh (some ⟨g,o,none⟩) mn mc .nilIface w'):
  ∀(j i:Nat) (a:Option Addr) (n c:Nat) (bs M:List Int) (w:World),i+j=N->Sl w0 a n c 1 bj bs->n<=1000000000->dJ bs->(M.length:Int)=mw*mh->rj mw mh j i bs M=R->Sep No w0 w (ax mb 25 [ae mw,ae mh,.slice (some ⟨g,o,none⟩) mn mc]::ax p2 25 [ae 0,ae 0,.slice none 0 0]::ak (some ⟨g,o,none⟩) mn mc 5 1 (flat bj M)::[])->
   CX Q (j+1) a n c (aZ p2) (aZ mb) (eV mw mh) i w:=by
 have vv:=gQ hm.1 hm.2;intro j;induction j with
 |zero=>
  intro i a n c bs M w hj hB hn hr hM hR s;show zi _ _ _ _ _ _ _ _ _ _;rw[zi,bu];have hR:some (bs,M)=R:=hR;have hb:=awZ bs M hR.symm;have hbl:=hB.len;rw[bu (by grind)];refine lI s 0 rfl (lI s 0 rfl (lS s 0 rfl ?_));refine aaT (bY (L':=[_,_]) [1,2] s rfl (by decide)) λw s=>?_;grind
 |succ j ih=>
  intro i a n c bs M w hj hB hn hr hM hR s;show zi _ _ _ _ _ _ _ _ _ _;rw[zi,bK];have hs:dW mw mh i:=⟨hm,by omega,by omega⟩;have hz:=zA hs;refine lI s 0 rfl (lI s 0 rfl ?_);refine vo s λw s _=>?_;have e1:Zm mw mh i=aE mw mh i:=if_pos hs;have e2:adl mw mh i=bw mw mh i:=if_pos hs;rw[e1,e2];have q1:=Int.mul_le_mul hz.1.1 hz.2.1.1 (by decide) (by omega);rw[rj]at hR;have fr:=aq s;refine aeN (n:=(aE mw mh i*bw mw mh i).toNat) (hL.fr fr) (hB.fr fr) hn hr hz.1 hz.2.1 (by omega) s (λhg co w Vg s _=>?_) λts used hg ta tn tc w hu s _=>?_
  ·rw[hg]at hR;refine aT s λtb w s=>?_;refine sT s 0 rfl λw s=>?_;refine sT s 0 rfl λw s=>?_;refine sT s 0 rfl λw s=>?_;rw[Gw (by omega),cond_true];refine aM s λeb w s=>?_;refine aaT (bY (L':=[_,_]) [3,0] s rfl (by decide)) λw s=>?_;exact hno hR.symm eb i co w s Vg
  ·rw[hg]at hR;obtain⟨t1,t2,t3⟩:=aoc (by omega) (λx hx=>hr x hx) hg;refine aT s λtb w s=>?_;refine sT s 0 rfl λw s=>?_;refine sT s 0 rfl λw s=>?_;refine av s (i:=0) rfl rfl rfl λw s=>?_;refine lI s 2 rfl (lI s 2 rfl (lS s 2 rfl ?_));refine lI s 0 rfl (lI s 0 rfl (lS s 0 rfl ?_));refine apJ hs hM (by omega) (λw' s'=>aN s' (i:=0) rfl dg (by decide)) (bY (L':=[ak (some ⟨g,o,none⟩) mn mc 5 1 (flat bj M),ak ta tn tc 5 1 (flat bj ts),_,_]) [4,1,2,3] s rfl (by decide)) λw s=>?_;refine hB.lo rfl hu λa' n' c' en hB'=>?_;rw[Oi (by omega)];refine ih (i+1) a' n' c' _ _ w (by omega) hB' (by omega) (hr.drop used) (by rw[S5];exact hM) ?_ (bY (L':=[_,_,_]) [2,3,0] s rfl (by decide));exact hR
def amP {Q:Int->Int->Option Addr->Nat->Nat->Value->World->Prop}(hL:iP w0 lg)(hB:Sl w0 ba bn bc 1 bj bs)(FT:bn<=1000000000)(hr:dJ bs)(hh:Ep bs)
  (hno:k_ bs=none->∀tb i co w',Sep No w0 w' (ax tb 242 [ae i,.iface 187 (ae co)]::[])->(co=2\/co=3)->Q 0 0 none 0 0 (.iface 240 (.pointer (sZ tb))) w')
  (hyes:∀m,k_ bs=some m->∀ma mn mc w',Sep No w0 w' (ak ma mn mc 5 1 (flat bj m.cs)::[])->Q m.w m.h ma mn mc .nilIface w'):ES ba bn bc w0 Q:=by
 apply ZI;have hbl:=hB.len;have h4:=hh.len;refine aT (aX (F:=No)) λp2 w s=>?_;rw[bu];have s:=ay s;refine hB.Elf (k:=0) rfl (by omega) λd0 x0 hx0 c0=>aJ (c0 _ (aq s) 0 _ rfl) ?_;refine hB.Elf (k:=1) rfl (by omega) λd1 x1 Nv c1=>aJ (c1 _ (aq s) 0 _ rfl) ?_;refine⟨by decide,?_⟩;refine hB.Elf (k:=2) rfl (by omega) λd2 x2 K9 c2=>aJ (c2 _ (aq s) 0 _ rfl) ?_;refine hB.Elf (k:=3) rfl (by omega) λd3 x3 hx3 c3=>aJ (c3 _ (aq s) 0 _ rfl) ?_;refine⟨by decide,?_⟩;have r0:=hr x0 (List.mem_of_getElem? hx0);have r1:=hr x1 (List.mem_of_getElem? Nv);have r2:=hr x2 (List.mem_of_getElem? K9);have r3:=hr x3 (List.mem_of_getElem? hx3);have eW:Bu bs=x0+x1*256:=by rw[Bu,<-acM hx0,<-acM Nv];omega
 have eH:Bv bs=x2+x3*256:=by rw[Bv,<-acM K9,<-acM hx3];omega
 have i1:ior .i64 (IntKind.wrap .i64 x0) (BL .i64 (IntKind.wrap .i64 x1) 8)=Bu bs:=by rw[aH,aH,eW];exact O.ad2 (k:=8) (by decide) (by omega) r1
 have i2:ior .i64 (IntKind.wrap .i64 x2) (BL .i64 (IntKind.wrap .i64 x3) 8)=Bv bs:=by rw[aH,aH,eH];exact O.ad2 (k:=8) (by decide) (by omega) r3
 rw[i1,i2];refine aT s λmb w s=>?_;have fr:=aq s;refine⟨c3 _ fr 0 _ rfl,c2 _ fr 0 _ rfl,c1 _ fr 0 _ rfl,c0 _ fr 0 _ rfl,?_⟩;have hwh:=pA hh.wh;have vv:=gQ hh.wh.1 hh.wh.2;refine sT s 0 rfl λw s=>?_;refine sT s 0 rfl λw s=>?_;refine av s (i:=0) rfl rfl rfl λw s=>?_;refine lI s 0 rfl (lI s 0 rfl ?_);apply pW;rw[decide_eq_true hh.wh,Bool.not_true,cond_false];refine hB.lo (m:=4) rfl (by omega) λa4 n4 c4 e4 hB4=>?_;refine lI s 0 rfl (lI s 0 rfl ?_);rw[aH];obtain⟨N,hN⟩:∃N:Nat,Bu bs*Bv bs=N:=⟨(Bu bs*Bv bs).toNat,by omega⟩;rw[hN];refine xK (bytes:=1) dQ s rfl rfl rfl rfl rfl rfl (by decide) dg rfl (λu hu=>A2 0 u hu) rfl rfl (Nat.le_refl _) (by omega) (by simp[maxLen];omega) λg w s=>?_;refine av s (i:=1) rfl rfl rfl λw s=>?_;refine lI s 1 rfl (lI s 1 rfl ?_);apply aaU hh.wh;have hg:=hh.get;have e0:(Bu bs*Bv bs).toNat=N:=by omega
 rw[e0]at hg;have ht:=hh.tail;rw[e0]at ht;refine⟨(eV (Bu bs) (Bv bs)).toNat+1,apK (N:=(eV (Bu bs) (Bv bs)).toNat) hL hh.wh (by omega) ht (λhR=>hno (by rw[hg,hR];rfl)) (λM hR w' s'=>hyes ⟨Bu bs,Bv bs,M⟩ (by rw[hg,hR];rfl) _ _ _ w' s') _ 0 a4 n4 c4 (bs.drop 4) (List.replicate N 0) w (by omega) hB4 (by omega) (hr.drop 4) (by rw[List.length_replicate,hN]) rfl (bY (L':=[_,_,_]) [1,2,0] s rfl (by decide))⟩
def ac0 {F:Nat->Prop}{Q:Int->Int->Option Addr->Nat->Nat->Int->World->Prop}(hL:iP w lg)(hB:Sl w ba bn bc 1 bj bs)(FT:bn<=1000000000)(hr:dJ bs)(hh:Ep bs)(s0:Sep F W w L)
  (hno:k_ bs=none->∀co w',(co=2\/co=3)->Sep F W w' L->Fr No w w'->Q 0 0 none 0 0 co w')
  (hyes:∀m,k_ bs=some m->∀ma mn mc w',Sep F W w' (ak ma mn mc 5 1 (flat bj m.cs)::L)->Fr No w w'->Q m.w m.h ma mn mc 0 w'):Gd ba bn bc w Q:=by
 apply abw;refine aT (aX (F:=No)) λp2 w1 s=>?_;have fr0:=aq s;refine amP (hL.fr fr0) (hB.fr fr0) FT hr hh (λhg tb i co w1 s' Vg=>?_) λm hg ma mn mc w1 s'=>?_
 ·have s:=fq s s';refine aT s λmb w1 s=>?_;refine sT s 0 rfl λw1 s=>?_;refine sT s 0 rfl λw1 s=>?_;refine sT s 0 rfl λw1 s=>?_;refine aT s λr w1 s=>?_;have s:=s;refine av s (i:=0) rfl rfl rfl λw1 s=>?_;have s:=bY (L':=[ax r 187 [ae 0],ax tb 242 [ae i,.iface 187 (ae co)],ax p2 25 [ae 0,ae 0,.slice none 0 0]]) [0,2,3] s rfl (by decide);refine At.Mq s (λw' s'=>ld s' (i:=0) rfl 1 _ rfl) (λw' s'=>(hL.fr (aq s')).v1) λw1 s=>?_;have s:=ay s;apply lI s 0 rfl;refine sT s 2 rfl λw1 s=>?_;refine sT s 2 rfl λw1 s=>?_;refine av s (i:=2) rfl rfl rfl λw1 s=>?_;refine⟨ck s 0 rfl,?_⟩;refine lI s 2 rfl (lI s 2 rfl (lS s 2 rfl ?_));have s':=bY (L':=[]) [] s rfl (by decide);exact hno hg co w1 Vg (fq s0 s') (aq s')
 ·have s:=fq s s';refine aT s λmb w1 s=>?_;refine sT s 0 rfl λw1 s=>?_;refine sT s 0 rfl λw1 s=>?_;refine av s (i:=0) rfl rfl rfl λw1 s=>?_;refine aT s λr w1 s=>?_;have s:=s;refine av s (i:=0) rfl rfl rfl λw1 s=>?_;apply As.nil;refine lI s 1 rfl (lI s 1 rfl (lS s 1 rfl ?_));refine aaT (bY (L':=[ax p2 25 [ae 0,ae 0,.slice none 0 0],ak ma mn mc 5 1 (flat bj m.cs)]) [3,2] s rfl (by decide)) λw1 s=>?_;exact hyes m hg ma mn mc w1 (fq s0 s) (aq s)
end
end Go.Proofs.YtmegplnmiepfbaaGreatDoor.S
namespace Go.Proofs.YtmegplnmiepfbaaGreatDoor.S
open Go.Sx
def amQ (q:wH):En:=match q.o with
 |some m=>⟨m.fV,m.fc,0,0,0,0⟩
 |none=>⟨0,0,0,0,0,0⟩
def nF (q:wH):En:=(q.past.add (amQ q)).add ⟨0,0,q.sh.b,q.sh.h,q.sh.st,q.sh.ev⟩
def zU (q:wH):Int:=match q.o with
 |some m=>m.g.ep
 |none=>0
def avW (q:wH):T1:=⟨[],[],q.sh.b,q.sh.h,q.sh.st,q.sh.ev⟩
def ldP (q:wH)(mp:bM):wH:=⟨q.k,avW q,some ⟨O9 mp (zU q),List.replicate (eV mp.w mp.h).toNat 0,0,0,none,0⟩,q.past.add (amQ q)⟩
def Oq (q:wH):wH:=⟨q.k,avW q,q.o.map λm=>⟨m.g,m.W6,m.clean,m.fV,none,m.fc⟩,q.past⟩
def edP (q:wH)(c x:Int):wH:=⟨q.k,q.sh,q.o.map λm=>⟨xA m.g c x,m.W6,m.clean,m.fV,m.kept,m.fc⟩,q.past⟩
noncomputable def zI (q:wH)(t sc:Int):wH:=match q.o with
 |some m=>GY q m t sc
 |none=>q
noncomputable def G4 (q:wH)(ps:List G2):wH:=ps.foldl (λq p=>zI q p.g p.s) q
def gw.apL (y:gw):uF y=amQ y.p:=by unfold uF amQ gw.p;cases y.o<;>rfl
def gw.all_eq (y:gw):W4 y=nF y.p:=by unfold W4 nF;rw[y.apL];rfl
def gw.amR (y:gw):epO y.o=zU y.p:=by unfold epO zU gw.p;cases y.o<;>rfl
def gw.aw0 (y:gw){x':AW}{mp:bM}(h:x'.p=⟨[],[],y.x.b,y.x.h,y.x.st,y.x.ev⟩):(gw.mk y.k x' (some (amu y.o mp)) (y.past.add (uF y))).p=ldP y.p mp:=by
 unfold ldP gw.p;simp only[Option.map_some];congr 1
 ·congr 1;unfold ke.p amu aha N9;rw[y.amR];simp only[List.map_replicate];rfl
 ·rw[y.apL];rfl
def gw.aw5 (y:gw){x':AW}{m:ke}(ho:y.o=some m)(h:x'.p=⟨[],[],y.x.b,y.x.h,y.x.st,y.x.ev⟩):(gw.mk y.k x' (some ⟨m.g,m.ms,⟨none,m.f.fV⟩⟩) y.past).p=Oq y.p:=by unfold Oq gw.p;rw[ho,h];rfl
def gw.atV (y:gw){x':AW}(ho:y.o=none)(h:x'.p=⟨[],[],y.x.b,y.x.h,y.x.st,y.x.ev⟩):(gw.mk y.k x' none y.past).p=Oq y.p:=by unfold Oq gw.p;rw[ho,h];rfl
def gw.aw6 (y:gw){m:ke}(ho:y.o=some m){c x:Int}:(gw.mk y.k y.x (some ⟨xA m.g c x,m.ms,m.f⟩) y.past).p=edP y.p c x:=by unfold edP gw.p;rw[ho];rfl
def Mx {y:gw}{m:ke}(ho:y.o=some m):y.p.o=some m.p:=by rw[gw.p,ho];rfl
def G5 {y:gw}{mp:xH}(h:y.p.o=some mp):∃m,y.o=some m/\m.p=mp:=by unfold gw.p at h;simp_all
def field_eq {y:gw}{m:ke}(ho:y.o=some m){t sc:Int}:GY y.p m.p t sc=zI y.p t sc:=by rw[zI,Mx ho]
def Er {q:wH}{mp:xH}(h:q.o=some mp)(t sc:Int):∃Y5,(zI q t sc).o=some Y5/\Y5.g=mp.g:=by rw[zI,h];exact⟨_,rfl,rfl⟩
def G6:∀(ps:List G2) {q:wH} {mp:xH},q.o=some mp->∃Y5,(G4 q ps).o=some Y5/\Y5.g=mp.g
 |[],q,mp,h=>⟨mp,h,rfl⟩
 |p::ps,q,mp,h=>by obtain⟨m1,h1,e1⟩:=Er h p.g p.s;obtain⟨m2,h2,e2⟩:=G6 ps h1;exact⟨m2,h2,e2.trans e1⟩
structure iT where
 most:Int
 bO:wH
 us:Option yj
structure aeO where
 code:Int
 d:Int
 dir:Int
 id:Int
 IQ:List (Int×Int)
 gone:List Int
def lE (c:Int):aeO:=⟨c,0,5,-1,[],[]⟩
noncomputable def rI (m:bM)(us:List aV):List Int:=us.map λu=>sY m u.goal u.cell
noncomputable def RF (q:iT)(m:bM)(y:yj)(o:j6):iT×aeO:=
 if o.k=2 then
  if¬bJ m.w m.h o.A then(q,lE 7)
  else if o.B<1\/255<o.B then(q,lE 8)
  else if o.B=255/\vw y.us o.A≠-1 then(q,lE 10)
  else(⟨q.most,edP q.bO o.A o.B,some y⟩,lE 0)
 else if o.k=3 then
  if¬(bJ m.w m.h o.A/\bJ m.w m.h o.B)then(q,lE 7)
  else if cR m o.A=255 then(q,lE 9)
  else if vz m.w m.h y o.A o.B≠0 then(q,lE (vz m.w m.h y o.A o.B))
  else(⟨q.most,q.bO,some (Pf y o.A o.B)⟩,⟨0,0,5,y.next,[],[]⟩)
 else if o.k=4 then
  match gO y.us o.A with
  |none=>(q,lE 12)
  |some u=>if¬bJ m.w m.h o.B then(q,lE 7)else if u.cell=o.B then(⟨q.most,q.bO,some (kY y o.A)⟩,lE 13)else(⟨q.most,q.bO,some (vT y o.A λu=>⟨u.id,u.cell,o.B⟩)⟩,lE 0)
 else if o.k=5 then
  match gO y.us o.A with
  |none=>(q,lE 12)
  |some _=>(⟨q.most,q.bO,some (kY y o.A)⟩,lE 0)
 else if o.k=6 then
  if bJ m.w m.h o.A/\bJ m.w m.h o.B then(⟨q.most,zI q.bO o.A (cP m o.B),some y⟩,⟨0,D m o.A o.B,sY m o.A o.B,-1,[],[]⟩)else(q,lE 7)
 else
  (⟨q.most,G4 q.bO (mM m.w m.h y.us),some (Om m.w m.h y (rI m y.us))⟩,⟨0,0,5,-1,(dK m.w m.h [] (y.us.zip (rI m y.us))).2.1,(dK m.w m.h [] (y.us.zip (rI m y.us))).2.2⟩)
noncomputable def fP (q:iT)(o:j6):iT×aeO:=
 if o.k=0\/EM o=false then(q,lE 5)
 else if o.k=1 then
  match k_ o.m with
  |none=>(q,lE 6)
  |some mp=>(⟨q.most,ldP q.bO mp,some ⟨q.most,0,[]⟩⟩,lE 0)
 else if o.k=8 then(⟨q.most,Oq q.bO,q.us⟩,lE 0)
 else match q.bO.o,q.us with
  |some m,some y=>RF q m.g.m y o
  |_,_=>(q,lE 4)
end Go.Proofs.YtmegplnmiepfbaaGreatDoor.S
set_option maxRecDepth 20000
namespace Go.Proofs.YtmegplnmiepfbaaGreatDoor.S
open Go.Sx
attribute [local irreducible] af cQ bG bp aA cE cw St Bx Al App cV cO cM bZ aQ bI au cj ax ak bg mapA
def iiT:P.underlying 207=some (.map 3 3):=by kernel_rfl
def aCz:zc T 211=[ae 0,ae 0,.slice none 0 0]:=rfl
def arD (w h:Int)(ms:List (Int×Int))(us:List aV):Prop:=oU ms/\∀u∈us,fu ms u.id=some (dX w h u.cell)
structure ajw (m:bM) (us:List aV) (ms:List (Int×Int)):Prop where
 k:oU ms
 v:∀u∈us,∀d,fu ms u.id=some d->d=sY m u.goal u.cell
section
variable {W w w0:World}{L:List As}{r:Ay}{y:gw}{lg:zT}{la:Option Addr}{ln lc sp lb db:Nat}{us:List aV}{v0 v2:Value}{g:iz}{loc:List (Int×Int)}
def ids_eq {us:List aV}(h:(us.map (·.id)).Pairwise (·<·)){u v:aV}(hu:u∈us)(hv:v∈us)(e:u.id=v.id):u=v:=by obtain⟨i,hi⟩:=List.mem_iff_getElem?.1 hu;obtain⟨j,hj⟩:=List.mem_iff_getElem?.1 hv;have h1:=XH h hi;have h2:=XH h hj;grind
noncomputable abbrev FU (sp:Nat)(v0:Value)(np:Nat)(v2:Value):As:=ax sp 72 [v0,.pointer (sZ np),v2]
def arE {u6:Option Addr->Option Addr->Nat->Nat->Option Nat->Option Nat->Option Addr->Nat->Nat->Int->Int->World->Prop}{Q:Option Addr->Nat->Nat->Value->World->Prop}{s0:Option Addr}{fb:Nat}{ia pa ra:Option Addr}{iN ic pn pc rn rc i:Nat}{ids:List Int}{d0:Value}{t sc:Int}
  (hmay:cT g.m)(hm:oh g.m.w g.m.h us)(hL:arD g.m.w g.m.h loc us)(hs:dW g.m.w g.m.h sc)(ht:bJ g.m.w g.m.h t)(J0:∀x∈ids,∃u∈us,u.id=x/\u.goal=t/\aC g.m.w g.m.h u.cell=sc)(G7:∀u∈us,iG u.id)(hi:i<=1000000)(hiN:iN<=1000000)
  (hI:∀w',Sep No W w' L->Sl w' ia iN ic 1 one ids)(hR:∀w',Sep No W w' L->Sl w' ra rn rc 1 one (CE g.m t sc))(hF:∀w',Sep No W w' L->rW w' fb [d0,.slice ra rn rc])
  {dm0:List (Int×Int)}(next:∀Kf w',ajw g.m us Kf->(∀x,(fu dm0 x).isSome=true->(fu Kf x).isSome=true)->(∀x∈ids,(fu Kf x).isSome=true)->Sep No W w' (fO fo vI lb loc::fO fo vI db Kf::L)->u6 s0 la ln lc (some lb) (some db) pa pn pc (pn:Int) ((i+1:Nat):Int) w')
  :∀(j k:Nat) (dm:List (Int×Int)) (w:World),k+j=iN->ajw g.m us dm->(∀x,(fu dm0 x).isSome=true->(fu dm x).isSome=true)->(∀x∈ids.take k,(fu dm x).isSome=true)->Sep No W w (fO fo vI lb loc::fO fo vI db dm::L)->
   sE u6 Q (j+1) s0 la ln lc (some lb) (some db) (aZ fb) pa pn pc (pn:Int) i ia iN ic (iN:Int) k w:=by
 intro j;induction j with
 |zero=>
  intro k dm w hj hD Ga hk s;show oF u6 Q _ _ _ _ _ _ _ _ _ _ _ _ _ _ _ _ _ _ _;rw[oF,bu,Oi (by omega)];have hl:=(hI w (ai (ai s))).len;grind
 |succ j ih=>
  intro k dm w hj hD Ga hk s;show oF u6 Q _ _ _ _ _ _ _ _ _ _ _ _ _ _ _ _ _ _ _;rw[oF,bK];have sL:=ai (ai s);have hIw:=hI w sL;have hl:=hIw.len;apply hIw.qD rfl (by omega);have hx:=iA (l:=ids) (i:=k) (by omega);obtain⟨u,hu,e1,e2,e3⟩:=J0 _ (List.mem_of_getElem? hx);have yl:ids.take (k+1)=ids.take k++[gi ids k]:=by rw[List.take_add_one,hx];rfl
  generalize gi ids k=x at*;subst e1;have IV:=hm.at_ u hu;have h64:=G7 u hu;have hlr:=j7 IV.1;have hgl:=nU IV.1;rw[e3]at hlr hgl;apply cS (hF w sL 1 _ rfl);refine ED (K:=fo) iiT (acy w) s (i:=0) rfl hL.1 h64 (λhn=>by rw[hL.2 u hu]at hn;cases hn) λz hz=>?_;rw[hL.2 u hu]at hz;cases hz;apply abR;have hRw:=hR w sL;have hrl:=hRw.len;have hfl:(CE g.m t sc).length=(aE g.m.w g.m.h sc*bw g.m.w g.m.h sc).toNat:=by unfold CE nT;have:=Ct (m:=g.m) (sc:=sc);rw[List.length_map,List.length_range];omega
  apply hRw.qD (k:=(dX g.m.w g.m.h u.cell).toNat) (by omega) (by omega);rw[asu hmay hs ht hlr,hgl,Oi (by omega)];refine Mg (x:=u.id) iiT s (i:=1) rfl hD.k h64 λKf w hk' Ek _ s=>?_;refine ih (k+1) Kf w (by omega) ⟨hk',λv hv d hd=>?_⟩ (λx hx=>?_) (λx hx=>?_) s
  ·rw[Ek]at hd;split at hd
   ·rename_i e;have:=ids_eq hm.ids hv hu e;subst this;cases hd;rw[<-e2]
   ·exact hD.v v hv d hd
  ·rw[Ek];split
   ·rfl
   ·exact Ga x hx
  ·rw[yl]at hx;rw[Ek];split
   ·rfl
   ·rename_i hne;rcases List.mem_append.1 hx with hx|hx
    ·exact hk x hx
    ·exact(hne (List.mem_singleton.1 hx)).elim
end
def ajy {s d:Int}{N:Nat}:∀{l:List (Int×List Int)},(∀p∈l,p.2.length<=N)->∀p∈zH s d l,p.2.length<=N+1
 |[],_,p,hp=>by simp[zH,List.mem_singleton]at hp;grind
 |q::l,h,p,hp=>by
  have h0:=h q (List.mem_cons_self ..);rw[zH]at hp;split at hp
  ·grind
  ·rcases List.mem_cons.1 hp with rfl|hp
   ·omega
   ·exact ajy (λp hp=>h p (List.mem_cons_of_mem _ hp)) p hp
def ajz {g s d:Int}{N:Nat}:∀{st:AB},(∀q∈st,∀p∈q.2,p.2.length<=N)->∀q∈qo g s d st,∀p∈q.2,p.2.length<=N+1
 |[],_,q,hq,p,hp=>by simp[qo,List.mem_singleton]at hq;grind
 |z::st,h,q,hq,p,hp=>by
  rw[qo]at hq;split at hq
  ·rcases List.mem_cons.1 hq with rfl|hq
   ·exact ajy (h z (List.mem_cons_self ..)) p hp
   grind
  ·rcases List.mem_cons.1 hq with rfl|hq
   ·grind
   ·exact ajz (λq hq=>h q (List.mem_cons_of_mem _ hq)) q hq p hp
def atW {w h:Int}{us:List aV}{ps:List AX}{p:AX}(hps:ps.map Mv=mM w h us)(hp:p∈ps):p.ids.length<=us.length:=by
 have key:∀(us:List aV) (st:AB) (N:Nat),(∀q∈st,∀p∈q.2,p.2.length<=N)->∀q∈us.foldl (Ts w h) st,∀p∈q.2,p.2.length<=N+us.length:=by
  intro us;induction us with
  |nil=>simp_all
  |cons u us ih=>
   intro st N h;have:=ih _ _ (ajz (g:=u.goal) (s:=aC w ‹Int› u.cell) (d:=u.id) h);rw[List.length_cons];intro q hq p hp;have:=this q hq p hp;omega
 have h1:Mv p∈mM w h us:=by grind
 obtain⟨q,hq,h2⟩:=List.mem_flatMap.1 h1;obtain⟨z,hz,e⟩:=List.mem_map.1 h2;have h3:=key us [] 0 (λq hq=>by cases hq) q hq z hz;have e2:z.2=p.ids:=congrArg G2.ids e;grind
section
variable {W w w0:World}{L:List As}{r:Ay}{y:gw}{lg:zT}{la:Option Addr}{ln lc sp lb db:Nat}{us:List aV}{v0 v2:Value}{g:iz}{loc:List (Int×Int)}
def ajA {F:Nat->Prop}{ps:List AX}{p:AX}{i:Nat}(s:Sep F W w (AD ps::L))(hp:ps[i]? =some p):Sl w p.q.a p.q.n p.q.c 1 one p.ids:=by have s:=(gP s).2;exact aN s (i:=i) (by rw[List.getElem?_append_left (by grind),List.getElem?_map,hp];rfl) cv (by decide)
def arF {Q:Option Addr->Nat->Nat->Value->World->Prop}{dm:List (Int×Int)}{L':List As}(hm:oh g.m.w g.m.h us)(G7:∀u∈us,iG u.id)(qi:ln<=1000000)(hD:ajw g.m us dm)(hall:∀u∈us,(fu dm u.id).isSome=true)(hU:∀w',Sep No W w' L'->Sl w' la ln lc 3 gX us)
  (h:∀da dn dc w',Sep No W w' (ak da dn dc 3 1 (flat one (rI g.m us))::L')->Q da dn dc .nilIface w'):
  ∀(j i:Nat) (oa:Option Addr) (on oc:Nat) (w:World),i+j=ln->on<=i->Sep No W w (ak oa on oc 3 1 (flat one (rI g.m (us.take i)))::fO fo vI db dm::L')->
   sF Q (j+1) (some db) oa on oc la ln lc (ln:Int) i w:=by
 intro j;induction j with
 |zero=>
  intro i oa on oc w hj Cq s;show oH _ _ _ _ _ _ _ _ _ _ _ _;rw[oH,bu];have hl:=(hU w (ai (ai s))).len;rw[List.take_of_length_le (by omega)]at s;exact h oa on oc w (gj s (.cons_cons _ (List.sublist_cons_self _ _)))
 |succ j ih=>
  intro i oa on oc w hj Cq s;show oH _ _ _ _ _ _ _ _ _ _ _ _;rw[oH,bK];refine(hU w (ai (ai s))).El rfl (by omega) λp u hu hc=>?_;have hmem:=List.mem_of_getElem? hu;refine W_ hc s λub w s=>?_;apply lI s 0 rfl;refine ED (K:=fo) iiT (acy w) s (i:=2) rfl hD.k (G7 u hmem) (λhn=>by grind) λd hd=>?_;apply abR;rw[hD.v u hmem d hd,Oi (by omega)];have s:=ai s;refine LQ s (by omega) λa' c' w s=>?_;apply ih (i+1) a' (on+1) c' w (by omega) (by omega);have yl:us.take (i+1)=us.take i++[u]:=by rw[List.take_add_one,hu];rfl
  unfold rI at s⊢;grind
def arG {Q:Option Addr->Nat->Nat->Value->World->Prop}{ps:List AX}{pa:Option Addr}{pn pc:Nat}(hLd:iP W lg)(hmay:cT g.m)(hm:oh g.m.w g.m.h us)(G7:∀u∈us,iG u.id)(qi:ln<=100000)(azg:arD g.m.w g.m.h loc us)(hps:ps.map Mv=mM g.m.w g.m.h us)(hU:∀w',Sep No W w' L->Sl w' la ln lc 3 gX us)
  (h:∀r' y' da dn dc w',r'.p=r.p->y'.p=G4 y.p (mM g.m.w g.m.h us)->Sep No W w' (ak da dn dc 3 1 (flat one (rI g.m us))::ig r' y'::FU sp v0 r.p v2::L)->Q da dn dc .nilIface w'):
  ∀(j i:Nat) (r':Ay) (y':gw) (m':ke) (dm:List (Int×Int)) (w:World),i+j=pn->r'.p=r.p->y'.p=G4 y.p ((mM g.m.w g.m.h us).take i)->y'.o=some m'->m'.g=g->ajw g.m us dm->(∀p∈ps.take i,∀x∈p.ids,(fu dm x).isSome=true)->
   Sep No W w (ig r' y'::FU sp v0 r.p v2::fO fo vI lb loc::fO fo vI db dm::ak pa pn pc 211 3 (flat yH ps)::AD ps::L)->
   oJ Q (j+1) (sZ sp) la ln lc (some lb) (some db) pa pn pc (pn:Int) i w:=by
 have IU:=afU g.m.w g.m.h us;have aCA:ps.length=(mM g.m.w g.m.h us).length:=by grind
 intro j;induction j with
 |zero=>
  intro i r' y' m' dm w hj er ey ho eg hD hd s;show oI _ _ _ _ _ _ _ _ _ _ _ _ _ _;rw[oI,bu];have hpn:=(aN s (i:=4) rfl uK (by decide)).len;rw[List.take_of_length_le (by omega)]at ey hd;have hUw:=hU w (ai (ai (ai (ai (ai (ai s))))));have s:=pk 6 [3,0,1] s;have s:=bC s 3 1;refine⟨ln+1,arF (L':=ig r' y'::FU sp v0 r.p v2::L) hm G7 (by omega) hD (λu hu=>?_) (λw' s'=>hU w' (ai (ai s'))) (λda dn dc w' s'=>h r' y' da dn dc w' er ey s') ln 0 none 0 0 w (by omega) (Nat.zero_le _) s⟩;obtain⟨p,hp,_,_,hx⟩:=Xb.2 ⟨u,hu,rfl,rfl,rfl⟩;rw[<-hps]at hp;obtain⟨q,hq,rfl⟩:=List.mem_map.1 hp;exact hd q hq u.id hx
 |succ j ih=>
  intro i r' y' m' dm w hj er ey ho eg hD hd s;show oI _ _ _ _ _ _ _ _ _ _ _ _ _ _;rw[oI,bK];have hP:=aN s (i:=4) rfl uK (by decide);have hpn:=hP.len;have hul:=(hU w (ai (ai (ai (ai (ai (ai s))))))).len;refine hP.El rfl (by omega) λad p hp hc=>?_;have hmem:=List.mem_of_getElem? hp;have htr:(mM g.m.w g.m.h us)[i]? =some (Mv p):=by rw[<-hps,List.getElem?_map,hp];rfl
  have yl:(mM g.m.w g.m.h us).take (i+1)=(mM g.m.w g.m.h us).take i++[Mv p]:=by rw[List.take_add_one,htr];rfl
  have azh:ps.take (i+1)=ps.take i++[p]:=by rw[List.take_add_one,hp];rfl
  obtain⟨u0,hu0,e1,e2⟩:=amE (List.mem_of_getElem? htr);have IV:=hm.at_ u0 hu0;have ht:bJ g.m.w g.m.h p.g:=by rw[<-show u0.goal=p.g from e1];exact IV.2
  have hs:dW g.m.w g.m.h p.s:=by rw[<-show aC g.m.w g.m.h u0.cell=p.s from e2];exact bT IV.1
  have vv:=gQ hm.wh.1 hm.wh.2;have Oe:Lr.YX (p.g,p.s):=⟨iG.wf (Az ht),iG.wf (by have:=hs.2;unfold iG;omega)⟩;have J0:∀x∈p.ids,∃u∈us,u.id=x/\u.goal=p.g/\aC g.m.w g.m.h u.cell=p.s:=λx hx=>by obtain⟨u,hu,k1,k2,k3⟩:=Xb.1 ⟨Mv p,List.mem_of_getElem? htr,rfl,rfl,hx⟩;exact⟨u,hu,k3,k1,k2⟩
  refine aJ (hc 0 _ rfl) (aJ (hc 1 _ rfl) (cS (hc 2 _ rfl) ?_));refine aT s λpb w s=>?_;refine sT s 0 rfl λw s=>?_;refine sT s 0 rfl λw s=>?_;refine av s (i:=0) rfl rfl rfl λw s=>?_;have s:=ay s;subst eg;refine ah (lP s 2 rfl (lI s 0 rfl (lI s 0 rfl ?_)));rw[<-er]at s⊢;have fin:∀{r2:Ay} {y2:gw} {da ra:Option Addr} {dc rc fb:Nat} {w:World},r2.p=r'.p->y2.p=GY y'.p m'.p p.g p.s->
    Sep No W w (ax fb 213 [.slice da (dO m'.g.m p.s).length dc,.slice ra (dO m'.g.m p.s).length rc]::ak ra (dO m'.g.m p.s).length rc 3 1 (flat one (CE m'.g.m p.g p.s))::ak da (dO m'.g.m p.s).length dc 3 1 (flat one (GX m'.g.m p.g p.s))::ig r2 y2::ax pb 211 [ae p.g,ae p.s,.slice p.q.a p.q.n p.q.c]::FU sp v0 r'.p v2::fO fo vI lb loc::fO fo vI db dm::ak pa pn pc 211 3 (flat yH ps)::AD ps::L)->
    oG (oJ Q (j+1)) Q (sZ sp) la ln lc (some lb) (some db) (aZ pb) (aZ fb) 0 pa pn pc (pn:Int) i w:=λ{r2 y2 da ra dc rc fb w} er2 Xd s=>by
   unfold oG;apply lS s 4 rfl;have hI0:=ajA (pk 10 [9] s) hp;have IX:=hI0.len;have uJ:p.q.n<=1000000:=by rw[<-IX];exact Nat.le_trans (atW hps hmem) (by omega)
   have s:=pk 10 [6,7,0,1,9,8,3,5] s;obtain⟨m2,YO,em2⟩:=G5 (by rw[Xd];rfl);have eg2:m2.g=m'.g:=by have:=congrArg xH.g em2;exact this
   refine⟨p.q.n+1,arE
    hmay hm azg hs ht J0 G7 (by omega) uJ (λw' s'=>ajA (ai (ai s')) hp) (λw' s'=>aN s' (i:=1) rfl cv (by decide)) (λw' s'=>ld s' (i:=0) rfl) (λKf w' hD' h0 h1 s'=>?_) p.q.n 0 dm w (by omega) hD (λx hx=>hx) (λx hx=>by cases hx) s⟩
   refine ih (i+1) r2 y2 m2 Kf w' (by omega) (er2.trans er) ?_ YO eg2 hD' (λq hq x hx=>?_) ?_
   ·rw[Xd,yl,field_eq ho,ey];unfold G4;rw[List.foldl_append];rfl
   ·rw[azh]at hq;rcases List.mem_append.1 hq with hq|hq
    ·exact h0 x (hd q hq x hx)
    ·rw[List.mem_singleton.1 hq]at hx;exact h1 x hx
   ·rw[<-er];exact gd (A:=[_,_,_,_,_,_,_,_]) (B:=[_,_,_,_,_,_]) [6,7,0,1,5,4] s' rfl (by decide)
  constructor
  ·have s:=pk 7 [1,0,2,3,4,5,6] s;refine Of ho hLd s ht hs Oe λr2 y2 da dc ra rc w er2 Xd s=>?_;refine aT s λfb w s=>?_;refine⟨ck s 4 rfl,ck s 4 rfl,ck s 5 rfl,?_⟩;refine sT s 0 rfl λw s=>?_;refine av s (i:=0) rfl rfl rfl λw s=>?_;exact fin er2 Xd s
  ·refine aT s λfb w s=>?_;refine⟨ck s 1 rfl,ck s 1 rfl,ck s 3 rfl,?_⟩;have s:=pk 8 [2,0,1,3,4,5,6,7] s;refine Of ho hLd s ht hs Oe λr2 y2 da dc ra rc w er2 Xd s=>?_;have s:=pk 10 [3,0,1,2,4,5,6,7,8,9] s;refine sT s 0 rfl λw s=>?_;refine av s (i:=0) rfl rfl rfl λw s=>?_;exact fin er2 Xd s
end
section
variable {W w w0:World}{L:List As}{r:Ay}{y:gw}{lg:zT}{la:Option Addr}{ln lc sp:Nat}{us:List aV}{v0 v2:Value}{m:ke}
def aeP {Q:Option Addr->Nat->Nat->Value->World->Prop}(hLd:iP W lg)(ho:y.o=some m)(hm:oh m.g.m.w m.g.m.h us)(G7:∀u∈us,iG u.id)(qi:ln<=100000)(hU:∀w',Sep No W w' L->Sl w' la ln lc 3 gX us)(s:Sep No W w (ig r y::FU sp v0 r.p v2::L))
  (h:∀r' y' da dn dc w',r'.p=r.p->y'.p=G4 y.p (mM m.g.m.w m.g.m.h us)->Sep No W w' (ak da dn dc 3 1 (flat one (rI m.g.m us))::ig r' y'::FU sp v0 r.p v2::L)->Q da dn dc .nilIface w'):
  xQ (sZ sp) la ln lc w Q:=by
 apply OZ;refine ah (lP s 1 rfl ?_);have k:=rm s ho;have hg:=(k.ok.m m ho).g;refine RA s k λw s _=>?_;refine aav s 207 fo vI λlb w s=>?_;have azi:∀{us:List aV},ajw m.g.m us []:=⟨List.nodup_nil,λu _ d h=>by cases h⟩;have loop:∀(j i:Nat) (loc:List (Int×Int)) (w:World),i+j=ln->arD m.g.m.w m.g.m.h loc (us.take i)->Sep No W w (fO fo vI lb loc::ig r y::FU sp v0 r.p v2::L)->
   uy Q (j+1) (sZ sp) la ln lc m.g.m.w m.g.m.h (some lb) la ln lc (ln:Int) i w:=by
  intro j;induction j with
  |zero=>
   intro i loc w hj hL s;show pT _ _ _ _ _ _ _ _ _ _ _ _ _ _ _;rw[pT,bu];refine aav s 207 fo vI λdb w s=>?_;have hUw:=hU w (ai (ai (ai (ai s))));have hl:=hUw.len;rw[List.take_of_length_le (by omega)]at hL;refine aaS s hUw (by omega) hm λoa on oc ps w htr s _=>?_;have s:=pk 6 [4,5,3,2,0,1] s;exact⟨on+1,arG hLd hg.may hm G7 qi hL htr hU h on 0 r y m [] w (by omega) rfl (by rw[List.take_zero];rfl) ho rfl azi (λp hp=>by cases hp) s⟩
  |succ j ih=>
   intro i loc w hj hL s;show pT _ _ _ _ _ _ _ _ _ _ _ _ _ _ _;rw[pT,bK];refine(hU w (ai (ai (ai s)))).El rfl (by omega) λp u hu hc=>?_;have hmem:=List.mem_of_getElem? hu;refine W_ hc s λub w s=>?_;have s:=ay s;refine lI s 0 rfl (lI s 0 rfl ?_);refine tE s λw s _=>⟨ck s 0 rfl,?_⟩;refine Mg iiT s (i:=1) rfl hL.1 (G7 u hmem) λloc' w hk' Ek _ s=>?_;rw[Oi (by omega)];refine ih (i+1) loc' w (by omega) ⟨hk',λv hv=>?_⟩ (ai s);have yl:us.take (i+1)=us.take i++[u]:=by rw[List.take_add_one,hu];rfl
   rw[yl]at hv;rw[Ek];by_cases e:v.id=u.id
   ·have hvu:v∈us:=by
     rcases List.mem_append.1 hv with hv|hv
     ·exact List.mem_of_mem_take hv
     ·rw[List.mem_singleton.1 hv];exact hmem
    rw[if_pos e,ids_eq hm.ids hvu hmem e]
   ·rw[if_neg e];rcases List.mem_append.1 hv with hv|hv
    ·exact hL.2 v hv
    ·exact(e (by rw[List.mem_singleton.1 hv])).elim
 exact⟨ln+1,loop ln 0 [] w (by omega) ⟨List.nodup_nil,λu hu=>by cases hu⟩ s⟩
end
structure G8 where
 p:Nat
 bO:Ay
 cr:CrR
structure AZ where
 most:Int
 bO:gw
 cr:Option HC
def AZ.p (y:AZ):iT:=⟨y.most,y.bO.p,y.cr.map (·.y)⟩
def crV (r:G8)(o:Option HC):Option Addr:=match o with
 |some _=>sZ r.cr.p
 |none=>none
noncomputable def amS (r:G8)(o:Option HC):List As:=match o with
 |some x=>[fX r.cr x]
 |none=>[]
noncomputable abbrev ajB (r:G8)(y:AZ):As:=FU r.p (ae y.most) r.bO.p (.pointer (crV r y.cr))
noncomputable def aw7 (r:G8)(y:AZ):List As:=ajB r y::ig r.bO y.bO::amS r y.cr
structure ajC (y:AZ):Prop where
 most:1<=y.most/\y.most<=65536
 no:y.cr=none↔y.bO.o=none
 cr:∀x m,y.cr=some x->y.bO.o=some m->x.w=m.g.m.w/\x.h=m.g.m.h/\x.y.most=y.most
noncomputable def fJ (r:G8)(y:AZ):As:=bg (ajC y) (aw7 r y)
section
variable {F:Nat->Prop}{W w:World}{L:List As}{r:G8}{y:AZ}
def Ir (s:Sep F W w (fJ r y::L)):ajC y/\Sep F W w (ajB r y::ig r.bO y.bO::(amS r y.cr++L)):=gP s
def ajD (s:Sep F W w (fJ r y::L))(h:y.cr=none):ajC y/\y.bO.o=none/\Sep F W w (FU r.p (ae y.most) r.bO.p (.pointer none)::ig r.bO y.bO::L):=by obtain⟨ok,s⟩:=Ir s;refine⟨ok,ok.no.1 h,?_⟩;unfold ajB amS crV at s;grind
def vA {x:HC}(s:Sep F W w (fJ r y::L))(h:y.cr=some x):ajC y/\(∃m,y.bO.o=some m/\x.w=m.g.m.w/\x.h=m.g.m.h/\x.y.most=y.most)/\Sep F W w (FU r.p (ae y.most) r.bO.p (.pointer (sZ r.cr.p))::ig r.bO y.bO::fX r.cr x::L):=by
 obtain⟨ok,s⟩:=Ir s;refine⟨ok,?_,?_⟩
 ·cases hn:y.bO.o with
  |none=>rw[ok.no.2 hn]at h;cases h
  |some m=>exact⟨m,rfl,ok.cr x m h hn⟩
 ·unfold ajB amS crV at s;grind
def zV {most:Int}{n:gw}{x:HC}{m:ke}(s:Sep F W w (FU r.p (ae most) r.bO.p (.pointer (sZ r.cr.p))::ig r.bO n::fX r.cr x::L))(hm:1<=most/\most<=65536)(ho:n.o=some m)(hx:x.w=m.g.m.w/\x.h=m.g.m.h/\x.y.most=most):Sep F W w (fJ r ⟨most,n,some x⟩::L):=by
 refine dy s ⟨hm,⟨(λe=>by cases e),λe=>?_⟩,λx' m' ex em=>?_⟩
 all_goals grind
def af0 {most:Int}{n:gw}(s:Sep F W w (FU r.p (ae most) r.bO.p (.pointer none)::ig r.bO n::L))(hm:1<=most/\most<=65536)(ho:n.o=none):Sep F W w (fJ r ⟨most,n,none⟩::L):=
 dy s ⟨hm,⟨λ_=>ho,λ_=>rfl⟩,λx' m' ex em=>by cases ex⟩
def EI {Q:Option Addr->World->Prop}{k most:Int}(hk:1<=k/\k<=100000)(hm:1<=most/\most<=65536)(s:Sep F W w L)
  (h:∀r y w',y.p=⟨most,⟨k,⟨[],[],0,0,0,0⟩,none,⟨0,0,0,0,0,0⟩⟩,none⟩->Sep F W w' (fJ r y::L)->Q (sZ r.p) w'):wL k most w Q:=by
 apply agq;rw[bu,bu,bu];refine agU hk s λnr x w ex s=>?_;refine aM s λp w s=>?_;refine h ⟨p,nr,⟨0,⟨0,0,none,0,0,[],[]⟩,⟨0,none,0,0,0⟩⟩⟩ ⟨most,⟨k,x,none,⟨0,0,0,0,0,0⟩⟩,none⟩ w ?_ (af0 s hm rfl);unfold AZ.p gw.p;grind
end
abbrev My (c:Int):Value:=.iface 108 (ae c)
def G9 (lg:zT)(e:Value)(c:Int):Prop:=(c=0/\e=.nilIface)\/(c≠0/\e=My c)\/(c=5/\e=s8 lg.a0)
def ac1 {lg:zT}{e:Value}{c:Int}{K:Value->Prop}(h:G9 lg e c)(k:K e):dV e K:=by rcases h with⟨_,rfl⟩|⟨_,rfl⟩|⟨_,rfl⟩<;>exact k
def ajE {lg:zT}{w:World}{c:Int}{Q:Value->World->Prop}(h:∀e,G9 lg e c->Q e w):gm c w Q:=by
 apply E2;by_cases e:c=0
 ·rw[d_ e,cond_true];exact h _ (.inl ⟨e,rfl⟩)
 ·rw[cN e,cond_false];exact h _ (.inr (.inl ⟨e,rfl⟩))
def ru {lg:zT}{c:Int}(h:c≠0):G9 lg (My c) c:=.inr (.inl ⟨h,rfl⟩)
section
variable {W w w0:World}{L:List As}{lg:zT}{r:G8}{y:AZ}{x:HC}{m:ke}{ob:Nat}{kind c:Int}{e:Value}
def aCB:zc T 108=[ae 0]:=rfl
def amT {Q:Int->World->Prop}(hL:iP W lg)(he:G9 lg e c)(hc:c≠0)(s:Sep No W w (ax ob 80 [ae kind,e]::L))(h:∀w',Sep No W w' (ax ob 80 [ae kind,e]::L)->Q c w'):
  CP (.iface 78 (.pointer (sZ ob))) w Q:=by
 apply ad0;refine aT s λrb w s=>?_;have k:=hL.fr (aq s);apply mL k.v0 rfl;have hv:=ld s (i:=1) rfl 1 _ rfl;rcases he with⟨h0,_⟩|⟨_,rfl⟩|⟨h5,rfl⟩
 ·grind
 ·apply To (.inl rfl) (.inr rfl) hv (λx y K hk=>avB (by decide) hk);refine Mq s (λw' s'=>ld s' (i:=0) rfl 1 _ rfl) (λw' s'=>(hL.fr (aq s')).v1) λw s=>?_;exact lI s 0 rfl (h w (ai s))
 ·apply To (.inl rfl) (.inl rfl) hv (λx y K hk=>WX hk);rw[cond_true,<-h5];exact h w (ai s)
def amU {Q:Value->World->Prop}{a:Option Addr}{n c:Nat}{bs:List Int}(hL:iP W lg)(hB:∀w',Sep No W w' L->Sl w' a n c 1 bj bs)(hn:n<=1000000000)(hr:dJ bs)(hh:Ep bs)(o7:∀mp,k_ bs=some mp->mp.w*mp.h<=1600)(YN:zU y.p.bO<1000000000)
  (s:Sep No W w (fJ r y::L))(hno:k_ bs=none->∀w',Sep No W w' (fJ r y::L)->Q (My 6) w')
  (hyes:∀mp,k_ bs=some mp->∀r' y' w',r'.p=r.p->y'.p=⟨y.most,ldP y.p.bO mp,some ⟨y.most,0,[]⟩⟩->Sep No W w' (fJ r' y'::L)->Q .nilIface w'):
  xM (sZ r.p) a n c w Q:=by
 apply OJ;have ok:=(Ir s).1;have hBw:=hB w (ai s);refine ac0 (hL.fr (aq s)) hBw hn hr hh s (λhg co w Vg s _=>?_) λmp hg ma mn mc w s _=>?_
 ·refine aT s λmb w s=>?_;refine sT s 0 rfl λw s=>?_;refine sT s 0 rfl λw s=>?_;refine sT s 0 rfl λw s=>?_;rw[Gw (by omega),cond_true];exact hno hg w (ai s)
 ·have hmay:=afs (λx hx=>hr x hx) hg;refine aT s λmb w s=>?_;refine sT s 0 rfl λw s=>?_;refine sT s 0 rfl λw s=>?_;refine av s (i:=0) rfl rfl rfl λw s=>?_;rw[Ez rfl,cond_false];have s:=ay s;obtain⟨_,so⟩:=Ir (pk 3 [2,0,1] s);have so:=so;have s:Sep No W _ (ig r.bO y.bO::ajB r y::ax mb 25 [ae mp.w,ae mp.h,.slice ma mn mc]::ak ma mn mc 5 1 (flat bj mp.cs)::L):=
   b_ (gj so (.cons_cons _ (.cons_cons _ (List.sublist_append_right _ _)))) (List.Perm.swap _ _ _)
  refine ah (lP s 1 rfl ?_);refine lI s 2 rfl (lI s 2 rfl (lS s 2 rfl ?_));refine aeF hmay hmay.bytes (o7 mp hg) (λw' s'=>aN s' (i:=2) rfl dg (by decide)) (by rw[y.bO.amR];exact YN) s λnr x' w er ex s=>?_;have s:=ay s;refine lI s 2 rfl (lI s 2 rfl (ah (lI s 1 rfl ?_)));refine acT ⟨hmay.w,hmay.h⟩ ok.most s λcr ws w s=>?_;refine ah (av s (i:=2) rfl rfl rfl λw s=>?_);refine ajE (lg:=lg) λe he=>?_;have he:e=.nilIface:=by
   rcases he with⟨_,h⟩|⟨h,_⟩|⟨h,_⟩
   all_goals grind
  subst he;have s:=gd (A:=[_,_,_,_,_]) (B:=[FU r.p (ae y.most) nr.p (.pointer (sZ cr.p)),_,_]) [2,1,0] s (by rw[er];rfl) (by decide);refine hyes mp hg ⟨r.p,nr,cr⟩ ⟨y.most,_,some ⟨mp.w,mp.h,⟨y.most,0,[]⟩,ws⟩⟩ w rfl ?_ (zV s ok.most rfl ⟨rfl,rfl,rfl⟩);show iT.mk _ _ _=iT.mk _ _ _;rw[y.bO.aw0 ex];rfl
def Is {x':HC}{cr:CrR}(ok:ajC y)(hx:x.w=m.g.m.w/\x.h=m.g.m.h/\x.y.most=y.most)(vv:y.cr=some x)(ho:y.bO.o=some m)(hx':x'.w=x.w/\x'.h=x.h/\x'.y.most=x.y.most)(ec:cr.p=r.cr.p)(s:Sep No W w (fX cr x'::FU r.p (ae y.most) r.bO.p (.pointer (sZ r.cr.p))::ig r.bO y.bO::L)):
  Sep No W w (fJ ⟨r.p,r.bO,cr⟩ ⟨y.most,y.bO,some x'⟩::L):=by
 have s:=gd (A:=[_,_,_]) (B:=[FU r.p (ae y.most) r.bO.p (.pointer (sZ cr.p)),_,_]) [1,2,0] s (by rw[ec];rfl) (by decide);exact zV s ok.most ho ⟨hx'.1.trans hx.1,hx'.2.1.trans hx.2.1,hx'.2.2.trans hx.2.2⟩
end
def KZ {w:World}{Q:Value->World->Prop}(h:Q .nilIface w):gm 0 w Q:=E2 _ _ _ h
def K0 {w:World}{c:Int}{Q:Value->World->Prop}(hc:c≠0)(h:Q (My c) w):gm c w Q:=by apply E2;grind
def ahc {m:bM}(hm:cT m){c:Int}:cR m c=0↔¬bJ m.w m.h c:=by
 constructor
 ·intro h hc;have:=L4 hm hc;omega
 ·intro h;rw[cR,if_neg λe=>h ⟨⟨hm.w,hm.h⟩,e.1,by rw[<-hm.len];exact e.2⟩]
abbrev Mz (d dir id:Int)(ma:Option Addr)(mn mc:Nat)(ga:Option Addr)(gn gc:Nat):List Value:=[ae 0,ae d,ae dir,ae id,.slice ma mn mc,.slice ga gn gc,.int .u64 0,.int .u64 0,.int .u64 0,.int .u64 0,.int .u64 0,.int .u64 0]
abbrev DoK (lg:zT)(W:World)(rp:Nat)(ab:Nat)(L:List As)(Q:Value->World->Prop)(q:iT×aeO):Prop:=
 ∀r' y' e ma mn mc ga gn gc w',r'.p=rp->y'.p=q.1->G9 lg e q.2.code->Sep No W w' (ak ma mn mc 51 2 (flat jJ q.2.IQ)::ak ga gn gc 3 1 (flat one q.2.gone)::fJ r' y'::ax ab 34 (Mz q.2.d q.2.dir q.2.id ma mn mc ga gn gc)::L)->Q e w'
section
variable {W w w0:World}{L:List As}{lg:zT}{r:G8}{y:AZ}{x:HC}{m:ke}{ab:Nat}{A B k:Int}{e:Value}{a:Option Addr}{n c:Nat}
def Xe {Q:Value->World->Prop}{q:iT×aeO}{r':G8}{y':AZ}(h:DoK lg W r.p ab L Q q)(er:r'.p=r.p)(ey:y'.p=q.1)(he:G9 lg e q.2.code)(hm:q.2.IQ=[])(hg:q.2.gone=[])(s:Sep No W w (fJ r' y'::ax ab 34 (Mz q.2.d q.2.dir q.2.id none 0 0 none 0 0)::L)):Q e w:=by have s:=bC (bC s 3 1) 51 2;apply h r' y' e none 0 0 none 0 0 w er ey he;rw[hm,hg];exact s
def ajF {Q:Value->World->Prop}{ob:Nat}{v0 v2 v3:Value}(ho:y.bO.o=some m)(vv:y.cr=some x)(s:Sep No W w (ax ob 38 [v0,ae A,v2,v3]::fJ r y::L))(h7:¬bJ m.g.m.w m.g.m.h A->∀w',Sep No W w' (fJ r y::L)->Q (My 7) w')(h0:bJ m.g.m.w m.g.m.h A->∀w',Sep No W w' (fJ r y::L)->Q .nilIface w'):
  sw Q (sZ r.p) (aZ ob) w:=by
 have s:=ay s;obtain⟨ok,_,so⟩:=vA (ai s) vv;refine ah (lP so 0 rfl (lI s 0 rfl ?_));have kn:=rm (ai so) ho;have hmay:=(kn.ok.m m ho).g.may;apply Im kn;by_cases hc:bJ m.g.m.w m.g.m.h A
 ·rw[cN (λe=>(ahc hmay).1 e hc),cond_false];exact h0 hc _ (ai s)
 ·rw[d_ ((ahc hmay).2 hc),cond_true];exact h7 hc _ (ai s)
def akr {Q:Value->World->Prop}(hx:k=2\/k=3->∃x m,y.cr=some x/\y.bO.o=some m)(s:Sep No W w (fJ r y::L))
  (h7:∀m,y.bO.o=some m->(k=2/\¬bJ m.g.m.w m.g.m.h A)\/(k=3/\¬(bJ m.g.m.w m.g.m.h A/\bJ m.g.m.w m.g.m.h B))->∀w',Sep No W w' (fJ r y::L)->Q (My 7) w')
  (h0:(∀m,y.bO.o=some m->(k=2->bJ m.g.m.w m.g.m.h A)/\(k=3->bJ m.g.m.w m.g.m.h A/\bJ m.g.m.w m.g.m.h B))->∀w',Sep No W w' (fJ r y::L)->Q .nilIface w'):
  we (sZ r.p) k A B a n c w Q:=by
 apply MM;refine aM s λob w s=>?_;apply lI s 0 rfl;by_cases k3:k=3
 ·rw[d_ k3,cond_true];obtain⟨x,m,vv,ho⟩:=hx (.inr k3);have s:=ay s;obtain⟨ok,_,so⟩:=vA (ai s) vv;refine ah (lP so 0 rfl (lI s 0 rfl ?_));have kn:=rm (ai so) ho;have hmay:=(kn.ok.m m ho).g.may;apply Im kn;by_cases hc:bJ m.g.m.w m.g.m.h B
  ·rw[cN (λe=>(ahc hmay).1 e hc),cond_false];refine ajF ho vv s (λhA w s=>h7 m ho (.inr ⟨k3,λe=>hA e.1⟩) w s) λhA w s=>h0 (λm' hm'=>?_) w s;grind
  ·rw[d_ ((ahc hmay).2 hc),cond_true];exact h7 m ho (.inr ⟨k3,λe=>hc e.2⟩) _ (ai s)
 rw[cN k3,cond_false];by_cases k2:k=2
 ·rw[d_ k2,cond_true];obtain⟨x,m,vv,ho⟩:=hx (.inl k2);refine ajF ho vv s (λhA w s=>h7 m ho (.inl ⟨k2,hA⟩) w s) λhA w s=>h0 (λm' hm'=>?_) w s;grind
 ·rw[cN k2,cond_false];exact h0 (λm' _=>⟨λe=>(k2 e).elim,λe=>(k3 e).elim⟩) _ (ai s)
def amV {Q:Value->World->Prop}(vv:y.cr=some x)(ho:y.bO.o=some m)(hA:bJ m.g.m.w m.g.m.h A)(YN:zU y.p.bO<1000000000)(s:Sep No W w (fJ r y::L))
  (h8:B<1\/255<B->∀w',Sep No W w' (fJ r y::L)->Q (My 8) w')(h10:1<=B/\B<=255->B=255/\vw x.y.us A≠-1->∀w',Sep No W w' (fJ r y::L)->Q (My 10) w')
  (h0:1<=B/\B<=255->¬(B=255/\vw x.y.us A≠-1)->∀r' y' w',r'.p=r.p->y'.p=⟨y.most,edP y.p.bO A B,some x.y⟩->Sep No W w' (fJ r' y'::L)->Q .nilIface w'):xN (sZ r.p) A B w Q:=by
 apply OK;by_cases b1:B<1
 ·grind
 rw[bu b1];by_cases b2:B>255
 ·grind
 rw[bu b2];have hB:1<=B/\B<=255:=by omega
 obtain⟨ok,⟨m',ho',hx⟩,so⟩:=vA s vv;rw[ho]at ho';cases ho';have aiJ:m.g.ep<1000000000:=by have e:=y.bO.amR;rw[ho]at e;have e:m.g.ep=zU y.p.bO:=e;omega
 have b5:¬(B=255/\vw x.y.us A≠-1)->um Q (sZ r.p) A B w:=λhn=>by refine ah (lP so 0 rfl ?_);refine aeE ho aiJ (jr so) (λe=>(e hA).elim) (λ_ e=>(e hB).elim) λ_ _ w s=>?_;apply KZ;refine h0 hB hn r ⟨y.most,⟨y.bO.k,y.bO.x,some ⟨xA m.g A B,m.ms,m.f⟩,y.bO.past⟩,some x⟩ w rfl ?_ (zV (pk 3 [1,0,2] s) ok.most rfl hx);show iT.mk _ _ _=iT.mk _ _ _;rw[y.bO.aw6 ho];rfl
 by_cases azj:B=255
 ·rw[d_ azj,cond_true];refine ah (lP so 0 rfl ?_);have hAx:bJ x.w x.h A:=by grind
  have hc:=(rq (ai (ai so))).1;apply acV hAx (ai (ai so));rcases atH hc.may (c:=A)with h1|h1
  all_goals grind
 grind
def aks {Q:Int->Value->World->Prop}(vv:y.cr=some x)(ho:y.bO.o=some m)(RC:x.y.next<1000000000)(s:Sep No W w (fJ r y::L))
  (h9:cR m.g.m A=255->∀w',Sep No W w' (fJ r y::L)->Q (-1) (My 9) w')
  (GZ:cR m.g.m A≠255->vz m.g.m.w m.g.m.h x.y A B≠0->∀w',Sep No W w' (fJ r y::L)->Q (-1) (My (vz m.g.m.w m.g.m.h x.y A B)) w')
  (h0:cR m.g.m A≠255->vz m.g.m.w m.g.m.h x.y A B=0->∀r' y' w',r'.p=r.p->y'.p=⟨y.most,y.p.bO,some (Pf x.y A B)⟩->Sep No W w' (fJ r' y'::L)->Q x.y.next .nilIface w'):wg (sZ r.p) A B w Q:=by
 apply MQ;obtain⟨ok,⟨m',ho',hx⟩,so⟩:=vA s vv;rw[ho]at ho';cases ho';refine ah (lP so 0 rfl ?_);apply Im (rm (ai so) ho);by_cases arH:cR m.g.m A=255
 ·grind
 rw[cN arH,cond_false];refine ah (lP so 0 rfl ?_);rw[<-hx.1,<-hx.2.1]at GZ h0;refine Yz RC (pk 3 [2,0,1] so) (λhne w s=>?_) λhz cr ws w ec s=>?_
 ·apply K0 hne;apply GZ arH hne w;have s:=Is ok hx vv ho ⟨rfl,rfl,rfl⟩ rfl s;have e:(⟨y.most,y.bO,some x⟩:AZ)=y:=by rw[<-vv]
  simp_all
 ·apply KZ;exact h0 arH hz ⟨r.p,r.bO,cr⟩ ⟨y.most,y.bO,some ⟨x.w,x.h,Pf x.y A B,ws⟩⟩ w rfl rfl (Is (x':=⟨x.w,x.h,Pf x.y A B,ws⟩) ok hx vv ho ⟨rfl,rfl,rfl⟩ ec s)
def akt {Q:Value->World->Prop}(hL:iP W lg)(vv:y.cr=some x)(ho:y.bO.o=some m)(Oe:(Lit.int .i64 A).wf=true)(s:Sep No W w (fJ r y::ax ab 34 (Mz 0 5 (-1) none 0 0 none 0 0)::L))
  (GZ:¬(bJ m.g.m.w m.g.m.h A/\bJ m.g.m.w m.g.m.h B)->∀w',Sep No W w' (fJ r y::ax ab 34 (Mz 0 5 (-1) none 0 0 none 0 0)::L)->Q (My 7) w')
  (h0:bJ m.g.m.w m.g.m.h A->bJ m.g.m.w m.g.m.h B->∀r' y' w',r'.p=r.p->y'.p=⟨y.most,zI y.p.bO A (cP m.g.m B),some x.y⟩->Sep No W w' (fJ r' y'::ax ab 34 (Mz (D m.g.m A B) (sY m.g.m A B) (-1) none 0 0 none 0 0)::L)->Q .nilIface w'):wj (sZ r.p) (sZ ab) A B w Q:=by
 apply M3;obtain⟨ok,⟨m',ho',hx⟩,so⟩:=vA s vv;rw[ho]at ho';cases ho';refine ah (lP so 0 rfl ?_);refine aeI ho hL (jr so) Oe (λhn w s=>?_) λht hc nr ny w er ey s=>?_
 ·apply K0 (by decide);have s:=zV (pk 3 [1,0,2] s) ok.most ho hx;have e:(⟨y.most,y.bO,some x⟩:AZ)=y:=by rw[<-vv]
  rw[e]at s;exact GZ hn w s
 ·rw[d_ rfl,cond_true];refine ah (sT s 3 rfl λw s=>ah (av s (i:=3) rfl rfl rfl λw s=>?_));apply KZ;obtain⟨m2,YO,em2⟩:=G5 (by rw[ey];rfl);have eg2:m2.g=m.g:=congrArg xH.g em2;have s:=gd (A:=[_,_,_,_]) (B:=[FU r.p (ae y.most) nr.p (.pointer (sZ r.cr.p)),ig nr ny,fX r.cr x,_]) [1,0,2,3] s (by rw[er];rfl) (by decide);refine h0 ht hc ⟨r.p,nr,r.cr⟩ ⟨y.most,ny,some x⟩ w rfl ?_ (zV s ok.most YO (by grind));show iT.mk _ _ _=iT.mk _ _ _;rw[ey,field_eq ho];rfl
end
def arI {m:bM}(hm:cT m){t x:Int}:0<=sY m t x/\sY m t x<=5:=by
 by_cases hD:D m t x<cf
 ·by_cases hx:x=t
  ·unfold sY;omega
  ·have:=(akV hm hD hx).1;omega
 ·unfold sY;omega
section
variable {W w w0:World}{L:List As}{lg:zT}{r:G8}{y:AZ}{x:HC}{m:ke}{ab:Nat}{A B k:Int}{e:Value}{a:Option Addr}{n c:Nat}
def amW {Q:Value->World->Prop}(hL:iP W lg)(vv:y.cr=some x)(ho:y.bO.o=some m)(s:Sep No W w (fJ r y::ax ab 34 (Mz 0 5 (-1) none 0 0 none 0 0)::L))
  (h:∀r' y' ma mn mc ga gn gc w',r'.p=r.p->y'.p=⟨y.most,G4 y.p.bO (mM m.g.m.w m.g.m.h x.y.us),some (Om m.g.m.w m.g.m.h x.y (rI m.g.m x.y.us))⟩->
   Sep No W w' (ak ma mn mc 51 2 (flat jJ (dK m.g.m.w m.g.m.h [] (x.y.us.zip (rI m.g.m x.y.us))).2.1)::ak ga gn gc 3 1 (flat one (dK m.g.m.w m.g.m.h [] (x.y.us.zip (rI m.g.m x.y.us))).2.2)::fJ r' y'::ax ab 34 (Mz 0 5 (-1) ma mn mc ga gn gc)::L)->Q .nilIface w'):
  xO (sZ r.p) (sZ ab) w Q:=by
 apply O3;obtain⟨ok,⟨m',ho',hx⟩,s⟩:=vA s vv;rw[ho]at ho';cases ho';obtain⟨cok,cs⟩:=rq (ai (ai s));have DU:=(uS (ai cs)).1;have o7:=DU.nS;have XG:=DU.most;have RC:=DU.Kc;have asF:=cok.may;rw[hx.1,hx.2.1]at asF;have hmay:=((rm (ai s) ho).ok.m m ho).g.may;have G7:∀u∈x.y.us,iG u.id:=λu hu=>by have:=DU.jE u hu;unfold iG;omega
 refine ah (lP s 0 rfl ?_);refine DV (pk 4 [2,0,1,3] s) λua un uc w s=>?_;have hun:=(aN s (i:=0) rfl CB (by decide)).len;have s:=pk 5 [3,2,0,1,4] s;refine aeP hL ho asF G7 (by omega) (λw' s'=>aN s' (i:=0) rfl CB (by decide)) s λnr ny da dn dc w er ey s=>?_;apply Mw;refine ah (lP s 2 rfl ?_);have s:=pk 6 [4,0,1,2,5] s;refine aaP (λw' s'=>aN s' (i:=0) rfl cv (by decide)) (by unfold rI;grind) (λd hd=>?_) s λcr ws ma mn mc ga gn gc w ec s=>?_
 ·obtain⟨u,_,rfl⟩:=List.mem_map.1 hd;exact arI hmay
 ·refine ah (sT s 6 rfl λw s=>ah (av s (i:=6) rfl rfl rfl λw s=>?_));apply KZ;obtain⟨m2,YO,em2⟩:∃m2,ny.o=some m2/\m2.g=m.g:=by obtain⟨Y5,h1,h2⟩:=G6 (mM m.g.m.w m.g.m.h x.y.us) (Mx ho);rw[<-ey]at h1;obtain⟨m2,YO,e2⟩:=G5 h1;refine⟨m2,YO,?_⟩;have:=congrArg xH.g e2;exact this.trans h2
  rw[hx.1,hx.2.1]at s;have s:=gd (A:=[_,_,_,_,_,_,_]) (B:=[FU r.p (ae y.most) nr.p (.pointer (sZ cr.p)),ig nr ny,fX cr ⟨m.g.m.w,m.g.m.h,Om m.g.m.w m.g.m.h x.y (rI m.g.m x.y.us),ws⟩,_,_,_]) [5,4,2,0,1,6] s (by rw[er,ec];rfl) (by decide);have s:=zV (r:=⟨r.p,nr,cr⟩) s ok.most YO (by rw[em2];exact⟨rfl,rfl,hx.2.2⟩);refine h ⟨r.p,nr,cr⟩ ⟨y.most,ny,some ⟨m.g.m.w,m.g.m.h,Om m.g.m.w m.g.m.h x.y (rI m.g.m x.y.us),ws⟩⟩ ma mn mc ga gn gc w rfl ?_ (pk 4 [1,2,0,3] s);show iT.mk _ _ _=iT.mk _ _ _;rw[ey];rfl
def atY {o:j6}(h:EM o=true)(hk:o.k≠0):(1<=o.k/\o.k<=8)/\(0<=o.A/\o.A<4294967296)/\(0<=o.B/\o.B<4294967296):=by
 unfold EM at h;rw[if_neg hk]at h;simp[Bool.and_eq_true]at h;obtain⟨h1,h2,h3,_⟩:=h;have h1:=of_decide_eq_true h1;have hA:=HM.1 h2;have hB:=HM.1 h3;have:=aqm o.k;have pw:∀s:Nat,s<=4->(256:Int)^s<=4294967296:=λs hs=>by
  match s,hs with
  |0,_=>decide
  |1,_=>decide
  |2,_=>decide
  |3,_=>decide
  |4,_=>decide
 grind
def ajG {o:j6}(vv:y.cr=some x)(ho:y.bO.o=some m)(Ga:o.k≠0)(hm:EM o=true)(h1:o.k≠1)(h8:o.k≠8):fP y.p o=RF y.p m.g.m x.y o:=by
 have e1:y.p.bO.o=some m.p:=Mx ho;have e2:y.p.us=some x.y:=by show y.cr.map _=_;grind
 rw[fP,if_neg (by grind),if_neg h1,if_neg h8,e1,e2];rfl
def aw8 {Q:Value->World->Prop}{o:j6}{ob:Nat}(hL:iP W lg)(Ga:o.k≠0)(hmay:EM o=true)(hr:dJ o.m)(hn:n<=1000000000)(hM:∀w',Sep No W w' L->Sl w' a n c 1 bj o.m)
  (aw9:o.k=1->Ep o.m/\∀mp,k_ o.m=some mp->mp.w*mp.h<=1600)(YN:zU y.p.bO<1000000000)(RC:∀u,y.p.us=some u->u.next<1000000000)(vv:o.k≠1->o.k≠8->y.cr≠none)
  (s:Sep No W w (ax ob 38 [ae o.k,ae o.A,ae o.B,.slice a n c]::fJ r y::ax ab 34 (Mz 0 5 (-1) none 0 0 none 0 0)::L))(h:DoK lg W r.p ab L Q (fP y.p o)):
  oK Q (sZ r.p) (sZ ab) (aZ ob) w:=by
 obtain⟨hk,hA,hB⟩:=atY hmay Ga;have arJ:iG o.A:=by unfold iG;omega
 have amX:o.k≠1->o.k≠8->∃x m,y.cr=some x/\y.bO.o=some m:=λh1 h8=>by
  have hne:=vv h1 h8;cases hc:y.cr with
  |none=>exact(hne hc).elim
  |some x=>
   obtain⟨_,⟨m,hm,_⟩,_⟩:=vA (ai s) hc;exact⟨x,m,rfl,hm⟩
 refine lI s 0 rfl (lI s 0 rfl (lI s 0 rfl (lS s 0 rfl ?_)));have s:=jr s;have b25:∀{e:Value} {cd:Int} {w:World},G9 lg e cd->Q e w->fy Q e w:=λhe hq=>by exact ac1 he hq
 have e0:G9 lg .nilIface 0:=.inl ⟨rfl,rfl⟩;have fin:∀{q:iT×aeO} {r':G8} {y':AZ} {e:Value} {w:World},fP y.p o=q->r'.p=r.p->y'.p=q.1->G9 lg e q.2.code->q.2.IQ=[]->q.2.gone=[]->Sep No W w (fJ r' y'::ax ob 38 [ae o.k,ae o.A,ae o.B,.slice a n c]::ax ab 34 (Mz q.2.d q.2.dir q.2.id none 0 0 none 0 0)::L)->fy Q e w:=λ{q r' y' e w} eq er ey he hm hg s=>by subst eq;exact b25 he (Xe h er ey he hm hg (gj s (.cons_cons _ (List.sublist_cons_self _ _))))
 refine akr (λhk=>amX (by omega) (by omega)) s (λm ho hb w s=>?_) λhc w s=>?_
 ·refine RE (ac1 (lg:=lg) (ru (by decide)) ?_);obtain⟨x,m',hx,hm'⟩:=amX (by omega) (by omega);rw[ho]at hm';cases hm';have e:fP y.p o=(y.p,lE 7):=by
   rw[ajG hx ho Ga hmay (by omega) (by omega)];unfold RF;rcases hb with⟨k2,hA⟩|⟨k3,hAB⟩
   ·rw[if_pos k2,if_pos hA]
   ·rw[fR,if_pos k3,if_pos hAB]
  rw[e]at h;exact Xe h rfl rfl (ru (by decide)) rfl rfl (gj s (.cons_cons _ (List.sublist_cons_self _ _)))
 apply Mw;apply lI s 1 rfl;by_cases k1:o.k=1
 ·rw[d_ k1,cond_true];obtain⟨hh,o7⟩:=aw9 k1;apply lS s 1 rfl;have eq:∀q,(match k_ o.m with|none=>(y.p,lE 6)|some mp=>(⟨y.p.most,ldP y.p.bO mp,some ⟨y.p.most,0,[]⟩⟩,lE 0))=q->fP y.p o=q:=λq e=>by rw[fP,if_neg (by rw[hmay];simp[Ga]),if_pos k1];exact e
  refine amU hL (λw' s'=>hM w' (ai (ai s'))) hn hr hh o7 YN s (λhg w s=>?_) λmp hg r' y' w er ey s=>?_
  ·exact fin (q:=(y.p,lE 6)) (eq _ (by rw[hg])) rfl rfl (ru (by decide)) rfl rfl s
  ·exact fin (eq _ (by rw[hg])) er ey e0 rfl rfl s
 rw[cN k1,cond_false];by_cases k8:o.k=8
 ·rw[d_ k8,cond_true];have eq:fP y.p o=(⟨y.p.most,Oq y.p.bO,y.p.us⟩,lE 0):=by rw[fP,if_neg (by rw[hmay];simp[Ga]),if_neg k1,if_pos k8]
  cases Dx:y.cr with
  |none=>
   obtain⟨ok,hno,so⟩:=ajD s Dx;refine ah (lP so 0 rfl ?_);refine acK hno (jr so) λnr x' w er ex s=>?_;have s:=gd (A:=[_,_]) (B:=[FU r.p (ae y.most) nr.p (.pointer none),_]) [1,0] s (by rw[er];rfl) (by decide);refine fin (r':=⟨r.p,nr,r.cr⟩) (y':=⟨y.most,⟨y.bO.k,x',none,y.bO.past⟩,none⟩) eq rfl ?_ e0 rfl rfl (af0 s ok.most rfl);show iT.mk _ _ _=iT.mk _ _ _;rw[y.bO.atV hno ex];show iT.mk _ _ _=iT.mk _ _ (y.cr.map _);rw[Dx];rfl
  |some x=>
   obtain⟨ok,⟨m,ho,hx⟩,so⟩:=vA s Dx;refine ah (lP so 0 rfl ?_);refine acJ ho (jr so) λnr x' w er ex s=>?_;have s:=gd (A:=[_,_,_]) (B:=[FU r.p (ae y.most) nr.p (.pointer (sZ r.cr.p)),_,_]) [1,0,2] s (by rw[er];rfl) (by decide);refine fin (r':=⟨r.p,nr,r.cr⟩) (y':=⟨y.most,⟨y.bO.k,x',some ⟨m.g,m.ms,⟨none,m.f.fV⟩⟩,y.bO.past⟩,some x⟩) eq rfl ?_ e0 rfl rfl (zV s ok.most rfl hx);show iT.mk _ _ _=iT.mk _ _ _;rw[y.bO.aw5 ho ex];show iT.mk _ _ _=iT.mk _ _ (y.cr.map _);rw[Dx];rfl
 rw[cN k8,cond_false];obtain⟨x,m,Dx,ho⟩:=amX k1 k8;have lO:=ajG Dx ho Ga hmay k1 k8;have Hz:y.p.us=some x.y:=by show y.cr.map _=_;rw[Dx];rfl
 have RC:=RC x.y Hz;unfold RF at lO;by_cases k2:o.k=2
 ·rw[d_ k2,cond_true];rw[if_pos k2]at lO;have hAc:=(hc m ho).1 k2;rw[if_neg (λe=>e hAc)]at lO;refine lI s 1 rfl (lI s 1 rfl ?_);refine amV Dx ho hAc YN s (λhb w s=>?_) (λhb hw w s=>?_) λhb hw r' y' w er ey s=>?_
  ·rw[if_pos hb]at lO;exact fin lO rfl rfl (ru (by decide)) rfl rfl s
  ·rw[fR,if_pos hw]at lO;exact fin lO rfl rfl (ru (by decide)) rfl rfl s
  ·rw[fR,if_neg hw]at lO;exact fin lO er ey e0 rfl rfl s
 rw[cN k2,cond_false];rw[if_neg k2]at lO;by_cases k3:o.k=3
 ·rw[d_ k3,cond_true];rw[if_pos k3]at lO;have hAc:=(hc m ho).2 k3;rw[if_neg (λe=>e hAc)]at lO;refine lI s 1 rfl (lI s 1 rfl ?_);refine aks Dx ho RC s (λh9 w s=>?_) (λh9 hb w s=>?_) λh9 hz r' y' w er ey s=>?_
  ·rw[if_pos h9]at lO;refine ah (sT s 2 rfl λw s=>?_);exact fin lO rfl rfl (ru (by decide)) rfl rfl s
  ·rw[if_neg h9,if_pos hb]at lO;refine ah (sT s 2 rfl λw s=>?_);exact fin lO rfl rfl (ru hb) rfl rfl s
  ·rw[if_neg h9,if_neg (λe=>e hz)]at lO;refine ah (sT s 2 rfl λw s=>?_);exact fin lO er ey e0 rfl rfl s
 rw[cN k3,cond_false];rw[if_neg k3]at lO;obtain⟨ok,⟨m',ho',hx⟩,so⟩:=vA s Dx;rw[ho]at ho';cases ho';have same:∀{w:World} {L:List As},Sep No W w (fX r.cr x::FU r.p (ae y.most) r.bO.p (.pointer (sZ r.cr.p))::ig r.bO y.bO::L)->Sep No W w (fJ r y::L):=λs=>by
  have s:=Is ok hx Dx ho ⟨rfl,rfl,rfl⟩ rfl s;have e:(⟨y.most,y.bO,some x⟩:AZ)=y:=by rw[<-Dx]
  rw[e]at s;exact s
 by_cases k4:o.k=4
 ·rw[d_ k4,cond_true];rw[if_pos k4]at lO;have so:=ay so;refine ah (lP so 0 rfl (lI so 3 rfl (lI so 3 rfl ?_)));rw[<-hx.1,<-hx.2.1]at lO;refine Tr arJ (pk 3 [2,0,1] so) (λhg w s=>?_) (λu hu hg w s=>?_) (λu hu hg hcg cr ws w ec s=>?_) λu hu hg hcg cr ws w ec s=>?_
  ·rw[hg]at lO;exact K0 (by decide) (fin lO rfl rfl (ru (by decide)) rfl rfl (same s))
  ·rw[hu]at lO;simp only at lO;rw[if_pos hg]at lO;exact K0 (by decide) (fin lO rfl rfl (ru (by decide)) rfl rfl (same s))
  ·rw[hu]at lO;simp only at lO;rw[if_neg (λe=>e hg),if_pos hcg]at lO;exact K0 (by decide) (fin (r':=⟨r.p,r.bO,cr⟩) lO rfl rfl (ru (by decide)) rfl rfl (Is (x':=⟨x.w,x.h,kY x.y o.A,ws⟩) ok hx Dx ho ⟨rfl,rfl,rfl⟩ ec s))
  ·rw[hu]at lO;simp only at lO;rw[if_neg (λe=>e hg),if_neg hcg]at lO;exact KZ (fin (r':=⟨r.p,r.bO,cr⟩) lO rfl rfl e0 rfl rfl (Is (x':=⟨x.w,x.h,vT x.y o.A λu=>⟨u.id,u.cell,o.B⟩,ws⟩) ok hx Dx ho ⟨rfl,rfl,rfl⟩ ec s))
 rw[cN k4,cond_false];rw[if_neg k4]at lO;by_cases k5:o.k=5
 ·rw[d_ k5,cond_true];rw[if_pos k5]at lO;have so:=ay so;refine ah (lP so 0 rfl (lI so 3 rfl ?_));refine U2 arJ (pk 3 [2,0,1] so) (λhg w s=>?_) λu hu cr ws w ec s=>?_
  ·rw[hg]at lO;exact K0 (by decide) (fin lO rfl rfl (ru (by decide)) rfl rfl (same s))
  ·rw[hu]at lO;exact KZ (fin (r':=⟨r.p,r.bO,cr⟩) lO rfl rfl e0 rfl rfl (Is (x':=⟨x.w,x.h,kY x.y o.A,ws⟩) ok hx Dx ho ⟨rfl,rfl,rfl⟩ ec s))
 rw[cN k5,cond_false];rw[if_neg k5]at lO;by_cases k6:o.k=6
 ·rw[d_ k6,cond_true];rw[if_pos k6]at lO;refine lI s 1 rfl (lI s 1 rfl ?_);have s:=pk 3 [0,2,1] s;refine akt hL Dx ho arJ.wf s (λhn w s=>?_) λht hcB r' y' w er ey s=>?_
  ·rw[if_neg hn]at lO;exact fin lO rfl rfl (ru (by decide)) rfl rfl (pk 3 [0,2,1] s)
  ·rw[if_pos ⟨ht,hcB⟩]at lO;exact fin lO er ey e0 rfl rfl (pk 3 [0,2,1] s)
 rw[cN k6,cond_false];rw[if_neg k6]at lO;have k7:o.k=7:=by omega
 rw[d_ k7,cond_true];have s:=pk 3 [0,2,1] s;refine amW hL Dx ho s λr' y' ma mn mc ga gn gc w er ey s=>?_;rw[lO]at h;exact b25 e0 (h r' y' _ ma mn mc ga gn gc w er ey e0 (pk 5 [0,1,2,3] s))
end
def aCC:zc T 34=[ae 0,ae 0,ae 0,ae 0,.slice none 0 0,.slice none 0 0,.int .u64 0,.int .u64 0,.int .u64 0,.int .u64 0,.int .u64 0,.int .u64 0]:=rfl
structure G_ (o:j6):Prop where
 jE:dJ o.m
 len:o.m.length<=1100000
 load:o.k=1->Ep o.m/\∀mp,k_ o.m=some mp->mp.w*mp.h<=1600
structure ajI (q:iT):Prop where
 ep:zU q.bO<1000000000
 nx:∀u,q.us=some u->u.next<1000000000
section
variable {W w w0:World}{L:List As}{lg:zT}{r:G8}{y:AZ}{x:HC}{m:ke}{ab:Nat}{o:j6}{a:Option Addr}{n c:Nat}
def ajJ {Q:Value->World->Prop}(hL:iP W lg)(ho:G_ o)(hM:∀w',Sep No W w' L->Sl w' a n c 1 bj o.m)(uJ:ajI y.p)(s:Sep No W w (fJ r y::ax ab 34 (Mz 0 5 (-1) none 0 0 none 0 0)::L))(h:DoK lg W r.p ab L Q (fP y.p o)):
  z0 (sZ r.p) o.k o.A o.B a n c (sZ ab) w Q:=by
 apply SU;have hMw:=hM w (ai (ai s));have hn:n<=1100000:=by have:=hMw.len;have:=ho.len;omega
 refine aM s λob w s=>?_;apply lI s 0 rfl;have e5:G9 lg (s8 lg.a0) 5:=.inr (.inr ⟨rfl,rfl⟩);have v0:∀{w:World} {L:List As},Sep No W w L->w.cell? (aZ 0)=some (s8 lg.a0):=λs=>Fr.cell (aq s) hL.v0 id;have amY:∀{w:World} {A B C:As} {L:List As},Sep No W w (A::B::C::L)->Sep No W w (B::C::L):=λs=>ai s;by_cases k0:o.k=0
 ·rw[d_ k0,cond_true];have e:fP y.p o=(y.p,lE 5):=by unfold fP;grind
  rw[e]at h;exact mL (v0 s) rfl (ac1 e5 (Xe h rfl rfl e5 rfl rfl (amY s)))
 rw[cN k0,cond_false];refine lI s 0 rfl (lI s 0 rfl (lI s 0 rfl (lS s 0 rfl ?_)));refine O.ain s (hM w (ai (ai (ai s)))) ho.jE (by omega) λw s _=>?_;cases hm:EM o with
 |false=>
  have e:fP y.p o=(y.p,lE 5):=by unfold fP;grind
  rw[e]at h;exact mL (v0 s) rfl (ac1 e5 (Xe h rfl rfl e5 rfl rfl (amY s)))
 |true=>
  rw[Bool.not_true,cond_false];have b5:(o.k≠1->o.k≠8->y.cr≠none)->oK Q (sZ r.p) (sZ ab) (aZ ob) w:=λvv=>
   aw8 hL k0 hm ho.jE (by omega) hM ho.load uJ.ep uJ.nx vv s h
  cases Dx:y.cr with
  |none=>
   obtain⟨ok,hno,so⟩:=ajD (ai s) Dx;refine ah (lP so 0 rfl ?_);show cond true _ _;apply lI s 0 rfl;by_cases k1:o.k=1
   ·grind
   ·rw[Gw k1,cond_true];apply lI s 0 rfl;by_cases k8:o.k=8
    ·grind
    ·rw[Gw k8,cond_true];have e:fP y.p o=(y.p,lE 4):=by
      have e1:y.p.us=none:=by show y.cr.map _=none;rw[Dx];rfl
      unfold fP;grind
     rw[e]at h;exact Xe h rfl rfl (ru (by decide)) rfl rfl (amY s)
  |some x=>
   obtain⟨ok,_,so⟩:=vA (ai s) Dx;refine ah (lP so 0 rfl ?_);show cond false _ _;exact b5 λ_ _ e=>by rw[Dx]at e;cases e
def ac2 {Q:Int->Int->Int->Int->Int->Int->World->Prop}(s:Sep No W w (fJ r y::L))(h:∀w',Sep No W w' (fJ r y::L)->Q (nF y.p.bO).a (nF y.p.bO).b (nF y.p.bO).c (nF y.p.bO).d (nF y.p.bO).e (nF y.p.bO).f w'):v9 (sZ r.p) w Q:=by apply ML;refine aT s λp w s=>?_;obtain⟨ok,so⟩:=Ir (ai s);apply FA;refine kT (ah (lP so 0 rfl ?_));obtain⟨_,so⟩:=Ir (jr s);have so:=jr so;refine acL so λw s=>?_;have s:=jr s;have s:Sep No W w (fJ r y::ax p 32 _::L):=dy s ok;rw[y.bO.all_eq];exact ai5 (jr s) λw s=>h w (ai s)
def T5 {Q:Int->Int->Option Addr->Nat->Nat->World->Prop}(ho:y.bO.o=some m)(s:Sep No W w (fJ r y::L))(h:∀ra rn rc w',Sep No W w' (ak ra rn rc 5 1 (flat bj m.g.m.cs)::fJ r y::L)->Fr No w w'->Q m.g.m.w m.g.m.h ra rn rc w'):lT (sZ r.p) w Q:=by apply Q3;refine aT (aX (F:=No)) λp w1 s1=>?_;obtain⟨ok,so⟩:=Ir s;have kn:=(rm (ai so) ho);have c1:=Fr.cell (aq s1) (cF so (a:=(aZ r.p).add 1) (i:=0) rfl rfl rfl) id;apply FA;refine kT (ah (dH c1 ?_));have kn1:aaE w1 r.bO y.bO m:=⟨kn.ok,kn.o,kn.cell.fr (aq s1),kn.g.fr (aq s1)⟩;refine agV s1 kn1 λra rn rc w1 s1 _=>?_;refine aaT (jr s1) λw1 s1=>?_;exact h ra rn rc w1 (fq s s1) (aq s1)
def He {Q:Option Addr->Nat->Nat->World->Prop}(vv:y.cr=some x)(s:Sep No W w (fJ r y::L))(h:∀a n c w',Sep No W w' (ak a n c 43 3 (flat gX x.y.us)::fJ r y::L)->Q a n c w'):i_ (sZ r.p) w Q:=by
 apply M_;obtain⟨ok,⟨m,ho,hx⟩,so⟩:=vA s vv;apply QY;refine kT (ah (lP so 0 rfl ?_));refine DV (pk 3 [2,0,1] so) λa n c w s=>?_;have s:=zV (pk 4 [2,3,1,0] s) ok.most ho hx;have e:(⟨y.most,y.bO,some x⟩:AZ)=y:=by rw[<-vv]
 rw[e]at s;exact h a n c w (jr s)
end
abbrev J4 (code d dir id:Int)(ma:Option Addr)(mn mc:Nat)(ga:Option Addr)(gn gc:Nat)(q:En):List Value:=[ae code,ae d,ae dir,ae id,.slice ma mn mc,.slice ga gn gc]++aeD q
section
variable {W w w0:World}{L:List As}{lg:zT}{r:G8}{y:AZ}{x:HC}{m:ke}{ab pb:Nat}{o:j6}{a:Option Addr}{n c:Nat}
def aw_ {Q:Int->Int->Int->Int->Option Addr->Nat->Nat->Option Addr->Nat->Nat->Int->Int->Int->Int->Int->Int->World->Prop}{code d dir id:Int}{ma ga:Option Addr}{mn mc gn gc:Nat}
  (s:Sep No W w (fJ r y::ax ab 34 (J4 code d dir id ma mn mc ga gn gc ⟨0,0,0,0,0,0⟩)::ax pb 34 (J4 0 0 0 0 none 0 0 none 0 0 ⟨0,0,0,0,0,0⟩)::L))
  (h:∀w',Sep No W w' (fJ r y::L)->Q code d dir id ma mn mc ga gn gc (nF y.p.bO).a (nF y.p.bO).b (nF y.p.bO).c (nF y.p.bO).d (nF y.p.bO).e (nF y.p.bO).f w'):
  oL Q (sZ r.p) (aZ pb) (aZ ab) w:=by
 refine ac2 s λw s=>?_;generalize nF y.p.bO=q at h⊢
 iterate 6 refine sT s 1 rfl λw s=>?_
 simp[List.set_cons_zero,List.set_cons_succ,J4,aeD,List.cons_append,List.nil_append]at s;refine lI s 1 rfl (lI s 1 rfl (lI s 1 rfl (lI s 1 rfl (lS s 1 rfl (lS s 1 rfl ?_)))));refine lI s 1 rfl (lI s 1 rfl (lI s 1 rfl (lI s 1 rfl (lI s 1 rfl (lI s 1 rfl ?_)))))
 iterate 12 refine av s (i:=2) rfl rfl rfl λw s=>?_
 simp[List.set_cons_zero,List.set_cons_succ]at s;refine lI s 2 rfl (lI s 2 rfl (lI s 2 rfl (lI s 2 rfl (lS s 2 rfl (lS s 2 rfl ?_)))));refine lI s 2 rfl (lI s 2 rfl (lI s 2 rfl (lI s 2 rfl (lI s 2 rfl (lI s 2 rfl ?_)))));exact h w (gj s (.cons_cons _ (.cons _ (.cons _ (List.Sublist.refl _)))))
def Xf {Q:Int->Int->Int->Int->Option Addr->Nat->Nat->Option Addr->Nat->Nat->Int->Int->Int->Int->Int->Int->World->Prop}(hL:iP W lg)(ho:G_ o)(hM:∀w',Sep No W w' L->Sl w' a n c 1 bj o.m)(uJ:ajI y.p)(s:Sep No W w (fJ r y::L))
  (h:∀r' y' ma mn mc ga gn gc w',r'.p=r.p->y'.p=(fP y.p o).1->Sep No W w' (ak ma mn mc 51 2 (flat jJ (fP y.p o).2.IQ)::ak ga gn gc 3 1 (flat one (fP y.p o).2.gone)::fJ r' y'::L)->
   Q (fP y.p o).2.code (fP y.p o).2.d (fP y.p o).2.dir (fP y.p o).2.id ma mn mc ga gn gc (nF y'.p.bO).a (nF y'.p.bO).b (nF y'.p.bO).c (nF y'.p.bO).d (nF y'.p.bO).e (nF y'.p.bO).f w'):
  gz (sZ r.p) o.k o.A o.B a n c w Q:=by
 apply SV;refine aM s λob w s=>?_;refine aT s λpb w s=>?_;refine aT s λab w s=>?_
 iterate 12 refine av s (i:=0) rfl rfl rfl λw s=>?_
 apply kT;refine av s (i:=0) rfl rfl rfl λw s=>?_;simp[List.set_cons_zero,List.set_cons_succ]at s;refine lI s 2 rfl (lI s 2 rfl (lI s 2 rfl (lS s 2 rfl ?_)));have s:=pk 4 [3,0,1,2] s;refine ajJ hL ho (λw' s'=>hM w' (ai (ai s'))) uJ s λr' y' e ma mn mc ga gn gc w er ey he s=>?_;rw[<-er];have asH:∀{w:World} {cd:Int},cd=(fP y.p o).2.code->Sep No W w (ak ma mn mc 51 2 (flat jJ (fP y.p o).2.IQ)::ak ga gn gc 3 1 (flat one (fP y.p o).2.gone)::fJ r' y'::ax ab 34 (J4 cd (fP y.p o).2.d (fP y.p o).2.dir (fP y.p o).2.id ma mn mc ga gn gc ⟨0,0,0,0,0,0⟩)::ax pb 34 (J4 0 0 0 0 none 0 0 none 0 0 ⟨0,0,0,0,0,0⟩)::L)->
   oL Q (sZ r'.p) (aZ pb) (aZ ab) w:=λ{w cd} ec s=>by
  subst ec;have s:=pk 5 [2,3,4,0,1] s;refine aw_ s λw s=>?_;exact h r' y' ma mn mc ga gn gc w er ey (pk 3 [1,2,0] s)
 have tell:∀{e:Value},G9 lg e (fP y.p o).2.code->(fP y.p o).2.code≠0->∀{w:World},Sep No W w (ak ma mn mc 51 2 (flat jJ (fP y.p o).2.IQ)::ak ga gn gc 3 1 (flat one (fP y.p o).2.gone)::fJ r' y'::ax ab 34 (Mz (fP y.p o).2.d (fP y.p o).2.dir (fP y.p o).2.id ma mn mc ga gn gc)::ax pb 34 (J4 0 0 0 0 none 0 0 none 0 0 ⟨0,0,0,0,0,0⟩)::ax ob 38 [ae o.k,ae o.A,ae o.B,.slice a n c]::L)->
   af .i64 (aZ ob) w λk=>dV e λp=>Bx [ae k,p] 80 w λb w=>CP (.iface 78 (.pointer (some b))) w λr w=>St (aZ ab) (ae r) w λw=>oL Q (sZ r'.p) (aZ pb) (aZ ab) w:=λ{e} he hne {w} s=>by
  refine lI s 5 rfl (ac1 he ?_);refine aM s λb w s=>?_;refine amT hL he hne s λw s=>?_;refine av s (i:=4) rfl rfl rfl λw s=>?_;exact asH rfl (pk 7 [1,2,3,4,5] s)
 rcases he with⟨h0,rfl⟩|⟨hne,rfl⟩|⟨h5,rfl⟩
 ·apply Mw;exact asH h0.symm (pk 6 [0,1,2,3,4] s)
 ·exact RE (tell (.inr (.inl ⟨hne,rfl⟩)) hne s)
 ·exact RE (tell (.inr (.inr ⟨h5,rfl⟩)) (by rw[h5];decide) s)
end
end Go.Proofs.YtmegplnmiepfbaaGreatDoor.S
namespace Go.Proofs.YtmegplnmiepfbaaGreatDoor.S.O
open Go.Sx
def RG {w:World}{x:Int}{Q:Int->World->Prop}(hx:0<=x/\x<256)(h:Q (Kn x) w):qu x w Q:=by
 apply Nc;unfold Kn at h;refine⟨by decide,?_⟩;rw[Int.tmod_eq_emod_of_nonneg hx.1];by_cases h7:x%8=7
 ·grind
 ·rw[show(x%8==7)=false by grind,cond_false];rw[if_neg h7]at h;by_cases h1:x<160
  ·rw[bK h1];rw[if_pos h1]at h;refine⟨by decide,?_⟩;rw[Int.tmod_eq_emod_of_nonneg hx.1,wrap_u8 (by omega) (by omega)];exact h
  grind
def ahd:zc T 25=[ae 0,ae 0,.slice none 0 0]:=rfl
def ac3:zc T 84=[ae 0,ae 0,.slice none 0 0]:=rfl
def amZ:zc T 38=[ae 0,ae 0,ae 0,.slice none 0 0]:=rfl
def ahe:zc T 90=[ae 0,ae 0,ae 0]:=rfl
attribute [local irreducible] af cQ bG bp aA cE cw St Bx Al App cV cO cM bZ aQ bI au cj ax ak bg mapA
def alr (a b:Int):Dy a b=min a b:=by unfold Dy;omega
section
variable {F:Nat->Prop}{W w w0:World}{L:List As}{a:Option Addr}{n c:Nat}{cs:List Int}
def am0 {mw mh:Int}{Q:Bool->World->Prop}(hw:1<=mw/\mw<=1024)(hh:1<=mh/\mh<=1024)(h:Q true w):xP mw mh w Q:=by apply O4;apply Gz;rw[bK hw];apply Gz;grind
def It {mw mh:Int}{Q:Int->Int->World->Prop}(hw:1<=mw/\mw<=1024)(hh:1<=mh/\mh<=1024)(h:Q (cJ mw) (cJ mh) w):kO mw mh w Q:=by apply JS;apply am0 hw hh;refine⟨by decide,by decide,?_⟩;simp(disch:=omega) only[wrap_i64,Int.tdiv_eq_ediv_of_nonneg];rw[show mw+16-1=mw+15 by omega,show mh+16-1=mh+15 by omega];exact h
def MA {mw mh:Int}{Q:Int->World->Prop}(hw:1<=mw/\mw<=1024)(hh:1<=mh/\mh<=1024)(h:Q (eV mw mh) w):pD mw mh w Q:=by apply LJ;apply It hw hh;have:=gQ hw hh;unfold eV at this h;rw[aH];exact h
def Y6 {mw mh s:Int}{Q:Int->Int->World->Prop}(hw:1<=mw/\mw<=1024)(hh:1<=mh/\mh<=1024)(hs:0<=s/\s<eV mw mh)(h:∀w',Fr No w w'->Q (aE mw mh s) (bw mw mh s) w'):qv mw mh s w Q:=by apply M7;have hc:=gQ hw hh;have hx:=I0 hw hh hs;have ha:=Fl hw;apply MA hw hh;rw[aH];apply Gz;rw[decide_eq_true (by omega),Bool.not_true,cond_false];apply It hw hh;refine⟨by omega,by omega,?_⟩;have:=h w.drew (Fr.refl);rw[Int.tmod_eq_emod_of_nonneg hs.1,Int.tdiv_eq_ediv_of_nonneg hs.1];simp(disch:=omega) only[wrap_i64];rw[alr,alr];exact this
def agX {mw mh s l:Int}{Q:Int->World->Prop}(hw:1<=mw/\mw<=1024)(hh:1<=mh/\mh<=1024)(hs:0<=s/\s<eV mw mh)(hl:0<=l/\l<aE mw mh s*bw mw mh s)(h:∀w',Fr No w w'->Q (bU mw mh s l) w'):
  tR mw mh s l w Q:=by
 apply Kx;have hx:=I0 hw hh hs;have ha:=Fl hw;have hz:=qT hw hh hs;have b:=Int.mul_le_mul hz.1.2 hz.2.2 (by omega) (by decide);refine Y6 hw hh hs λw f=>?_;rw[aH (n:=aE mw mh s*bw mw mh s),aH];apply Gz;rw[decide_eq_true (by omega),Bool.not_true,cond_false];apply It hw hh;refine⟨by omega,by omega,by omega,by omega,?_⟩;have:=h w.drew f;have e1:0<=l/aE mw mh s/\l/aE mw mh s<bw mw mh s:=⟨Int.ediv_nonneg hl.1 (by omega),Int.ediv_lt_of_lt_mul (by omega) (by grind)⟩;have e2:=Int.emod_nonneg l (b:=aE mw mh s) (by omega);have e3:=Int.emod_lt_of_pos l (b:=aE mw mh s) (by omega);rw[Int.tmod_eq_emod_of_nonneg hs.1,Int.tdiv_eq_ediv_of_nonneg hs.1,Int.tmod_eq_emod_of_nonneg hl.1,Int.tdiv_eq_ediv_of_nonneg hl.1];have y0:0<=16*(s/cJ mw)+l/aE mw mh s/\16*(s/cJ mw)+l/aE mw mh s<=1040:=by omega
 have m1:0<=(16*(s/cJ mw)+l/aE mw mh s)*mw:=Int.mul_nonneg y0.1 (by omega);have m2:=Int.mul_le_mul y0.2 hw.2 (by omega) (by decide);simp(disch:=omega) only[wrap_i64];exact this
def am1 {mw mh:Int}{t6 t:Nat}{Q:Int->Int->Option Addr->Nat->Nat->World->Prop}(hA:Sl w0 a n c 1 bj cs)(hcs:dJ cs)(hn:n<9223372036854775808)(hw:1<=mw/\mw<=40)(hh:1<=mh/\mh<=40)
  (h:∀ra rn rc w',Sep No w0 w' [ak ra rn rc 5 1 (flat bj (Nx (mw*mh).toNat cs))]->Q mw mh ra rn rc w'):
  ∀(m i rc:Nat) (ra:Option Addr) (w:World),((i+m:Nat):Int)=mw*mh->
   Sep No w0 w [ax t 25 [ae mw,ae mh,.slice ra i rc],ak ra i rc 5 1 (flat bj (Nx i cs)),ax t6 25 [ae 0,ae 0,.slice none 0 0]]->jU Q (m+1) a n c (aZ t6) (aZ t) i w:=by
 have q2:=Int.mul_le_mul hw.2 hh.2 (by omega) (by decide);have hlen:=hA.len;intro m;induction m with
 |zero=>
  intro i rc ra w hi s;show zy Q (jU Q 0) _ _ _ _ _ _ _;apply dw s (i:=0) rfl rfl rfl;apply dw s (i:=0) rfl rfl rfl;rw[aH,bu];apply dw s (i:=0) rfl rfl rfl;apply dw s (i:=0) rfl rfl rfl;apply gY s (i:=0) rfl rfl rfl;refine sT s 2 rfl λw1 s=>?_;refine sT s 2 rfl λw2 s=>?_;refine av s (i:=2) rfl rfl rfl λw3 s=>?_;apply dw s (i:=2) rfl rfl rfl;apply dw s (i:=2) rfl rfl rfl;apply gY s (i:=2) rfl rfl rfl;have e:i=(mw*mh).toNat:=by omega
  rw[e]at s⊢;exact h _ _ _ w3 (gj s (.cons _ (.cons_cons _ (.cons _ .slnil))))
 |succ m ih=>
  intro i rc ra w hi s;show zy Q (jU Q (m+1)) _ _ _ _ _ _ _;apply dw s (i:=0) rfl rfl rfl;apply dw s (i:=0) rfl rfl rfl;rw[aH,bK];have b9:∀x:Int,0<=x/\x<256->Kn x=F6 cs i->sH (jU Q (m+1)) Q a n c (aZ t6) (aZ t) i x w:=by
   intro x hx hm;have s0:Sep No w0 w.drew _:=s;apply gY s0 (i:=0) rfl rfl rfl;apply RG hx;rw[hm];refine⟨cF s0 (i:=0) rfl rfl rfl,?_⟩;refine aM s0 λb w1 s1=>?_;refine⟨cF s1 (i:=1) rfl rfl rfl,?_⟩;have src:Src w1 (sZ b) 1 1 [.int .u8 (F6 cs i)]:=⟨rfl,(λu hu=>by rw[List.mem_singleton.1 hu];rfl),λj u hj=>by rw[cq,Nat.zero_add];exact cF s1 (i:=0) rfl rfl hj⟩;refine iq dQ s1 (i:=2) (bytes:=1) rfl rfl rfl rfl rfl rfl (by decide) rfl src (by simp[maxLen];omega) (by omega) (λe=>by cases e) λa1 c1 w2 s2=>?_;have e:flat bj (Nx i cs)++[.int .u8 (F6 cs i)]=flat bj (Nx (i+1) cs):=by unfold Nx;rw[List.range_succ,List.map_append,fZ];rfl
   have s2:=ai s2;refine av s2 (i:=0) rfl rfl rfl λw3 s3=>?_;rw[aH];grind
  by_cases Pu:0<n
  ·rw[bK];refine⟨by omega,by omega,?_⟩;have d1:0<=(i:Int)/(n:Int):=Int.ediv_nonneg (by omega) (by omega);have d2:(i:Int)/(n:Int)<=i:=Int.ediv_le_self _ (by omega);rw[Int.tdiv_eq_ediv_of_nonneg (by omega),aH (n:=(i:Int)/(n:Int)),aH (n:=(i:Int)/(n:Int)*5),aH,Int.tmod_eq_emod_of_nonneg (by omega)];have ej:((i:Int)+(i:Int)/(n:Int)*5)%(n:Int)=(((i+i/n*5)%n:Nat):Int):=by grind
   rw[ej];have hj:(i+i/n*5)%n<n:=Nat.mod_lt _ Pu;apply Sl.Di (hA.fr (aq s)) rfl hj;apply b9 _ (hcs _ (fA (by omega)));unfold F6;grind
  ·rw[bu];apply b9 1 (by decide);unfold F6;grind
def Y7 {w1 h1:Int}{Q:Int->Int->Option Addr->Nat->Nat->World->Prop}(s:Sep F W w0 L)(hA:Sl w0 a n c 1 bj cs)(hcs:dJ cs)(hn:n<9223372036854775808)
  (h:∀ra rn rc w',Sep F W w' (ak ra rn rc 5 1 (flat bj (vB w1 h1 cs).cs)::L)->Fr No w0 w'->Q (vB w1 h1 cs).w (vB w1 h1 cs).h ra rn rc w'):qt w1 h1 a n c w0 Q:=by
 apply Nd;refine aT (F:=No) aX λt6 w1' s1=>?_;apply cz (by decide) (by decide) (by decide);have r1:=kj (n:=w1) (lo:=1) (hi:=40) (by decide);apply cz (by decide) (by decide) (by decide);have r2:=kj (n:=h1) (lo:=1) (hi:=40) (by decide);refine aT s1 λt w2 s2=>?_;refine sT s2 0 rfl λw3 s=>?_;refine sT s 0 rfl λw4 s=>?_;refine av s (i:=0) rfl rfl rfl λw5 s5=>?_;have s6:=b_ (bC s5 5 1) (List.Perm.swap ..);have q1:=Int.mul_le_mul r1.1 r2.1 (by decide) (by omega);refine⟨(gf w1 1 40*gf h1 1 40).toNat+1,am1 hA hcs hn r1 r2 (λra rn rc w' s'=>?_) _ 0 0 none w5 (by omega) s6⟩;exact h ra rn rc w' (dz ‹Sep F W w0 L› s' (i:=0) rfl) (aq s')
def agY {m:bM}{si:Nat}{Q:Int->Int->Option Addr->Nat->Nat->World->Prop}(s0:Sep F W w0 L)(hA:Sl w0 a n c 1 bj m.cs)(hm:cT m)(hs:(si:Int)<eV m.w m.h)
  (h:∀ra rn rc w',Sep F W w' (ak ra rn rc 5 1 (flat bj (qp m si))::L)->Fr No w0 w'->Q (aE m.w m.h si) (bw m.w m.h si) ra rn rc w'):tP m.w m.h a n c si w0 Q:=by
 apply Ky;have TT:0<=(si:Int)/\(si:Int)<eV m.w m.h:=⟨by omega,hs⟩;have hz:=qT hm.w hm.h TT;have b1:=Int.mul_le_mul hz.1.1 hz.2.1 (by decide) (by omega);have b2:=Int.mul_le_mul hz.1.2 hz.2.2 (by omega) (by decide);have hlen:=hA.len;have hml:=hm.len;have s:=aX (F:=No) (w:=w0);refine aM s λmb w s=>?_;refine aT s λp4 w s=>?_;apply lI s 1 rfl;apply lI s 1 rfl;refine Y6 hm.w hm.h TT λw f=>?_;have s:=bP s f;refine aT s λt w s=>?_;refine sT s 0 rfl λw s=>?_;refine sT s 0 rfl λw s=>?_;refine av s (i:=0) rfl rfl rfl λw s=>?_;have loop:∀(k i rc:Nat) (ra:Option Addr) (w:World),((i+k:Nat):Int)=aE m.w m.h si*bw m.w m.h si->
   Sep No w0 w [ak ra i rc 5 1 (flat bj ((List.range i).map λl:Nat=>gi m.cs (bU m.w m.h si l).toNat)),ax t 84 [ae (aE m.w m.h si),ae (bw m.w m.h si),.slice ra i rc],ax p4 84 [ae 0,ae 0,.slice none 0 0],ax mb 25 [ae m.w,ae m.h,.slice a n c]]->
   kA Q (k+1) si (aZ mb) (aZ p4) (aE m.w m.h si) (bw m.w m.h si) (aZ t) i w:=by
  intro k;induction k with
  |zero=>
   intro i rc ra w hi s;show nf Q (kA Q 0) _ _ _ _ _ _ _ _;rw[nf,aH,bu];apply lI s 1 rfl;apply lI s 1 rfl;apply lS s 1 rfl
   (refine av s (i:=2) rfl rfl rfl λw s=>?_)
   (refine av s (i:=2) rfl rfl rfl λw s=>?_)
   (refine av s (i:=2) rfl rfl rfl λw s=>?_)
   apply lI s 2 rfl;apply lI s 2 rfl;apply lS s 2 rfl;have e:i=(aE m.w m.h si*bw m.w m.h si).toNat:=by omega
   have e2:((List.range i).map λl:Nat=>gi m.cs (bU m.w m.h si l).toNat)=qp m si:=by unfold qp;rw[e]
   rw[e2]at s;exact h _ _ _ _ (dz s0 s (i:=0) rfl) (aq s)
  |succ k ih=>
   intro i rc ra w hi s;show nf Q (kA Q (k+1)) _ _ _ _ _ _ _ _;rw[nf,aH,bK];have s:=ay s;have hl:0<=(i:Int)/\(i:Int)<aE m.w m.h si*bw m.w m.h si:=by omega
   have hg:=F7 hm.w hm.h TT hl;apply lS s 1 rfl;apply lS s 3 rfl;apply lI s 3 rfl;apply lI s 3 rfl;refine agX hm.w hm.h TT hl λw f=>?_;have s:=bP s f;apply And.intro (ck s 3 rfl);apply And.intro (ck s 1 rfl);obtain⟨g,hgk⟩:∃g:Nat,bU m.w m.h si i=g:=⟨(bU m.w m.h si i).toNat,by omega⟩;have heq:gi m.cs g=gi m.cs (bU m.w m.h si i).toNat:=by rw[hgk,Int.toNat_natCast]
   rw[hgk];apply Sl.Di (hA.fr (aq s)) rfl (by omega);refine aM s λb w1 s1=>?_;refine⟨ck s1 2 rfl,?_⟩;have src:Src w1 (sZ b) 1 1 [.int .u8 (gi m.cs g)]:=⟨rfl,(λu hu=>by rw[List.mem_singleton.1 hu];rfl),λj u hj=>by rw[cq,Nat.zero_add];exact cF s1 (i:=0) rfl rfl hj⟩;refine iq dQ s1 (i:=1) (bytes:=1) rfl rfl rfl rfl rfl rfl (by decide) rfl src (by simp[maxLen];omega) (by omega) (λe=>by cases e) λa1 c1 w2 s2=>?_;have e:flat bj ((List.range i).map λl:Nat=>gi m.cs (bU m.w m.h si l).toNat)++[.int .u8 (gi m.cs g)]=flat bj ((List.range (i+1)).map λl:Nat=>gi m.cs (bU m.w m.h si l).toNat):=by rw[heq,List.range_succ,List.map_append,fZ];rfl
   rw[e]at s2;refine av (ai s2) (i:=1) rfl rfl rfl λw3 s3=>?_;rw[aH];exact ih (i+1) c1 a1 w3 (by omega) s3
 exact⟨(aE m.w m.h si*bw m.w m.h si).toNat+1,loop _ 0 0 none w (by omega) (bC s 5 1)⟩
def aku {Q:Option Addr->Nat->Nat->World->Prop}(s0:Sep F W w0 L)(hA:Sl w0 a n c 1 bj cs)(hcs:dJ cs)(hn:n<=100000)
  (h:∀ra rn rc w',Sep F W w' (ak ra rn rc 5 1 (flat bj (tM cs))::L)->Fr No w0 w'->Q ra rn rc w'):wk a n c w0 Q:=by
 apply M6;have hlen:=hA.len;refine aM (aX (F:=No)) λb w s=>?_;have s:=ar8 s;have inner:∀(P3:Option Addr->Nat->Nat->Option Addr->Nat->Nat->Int->World->Prop) (x:Int) (i:Nat) (oa:Option Addr) (on oc:Nat) (out:List Int),cs[i]? =some x->on<=1000000->
   (∀a' c' w',Sep No w0 w' [ak a' (on+2) c' 5 1 (flat bj (out++[((lead x (cs.drop (i+1)):Nat):Int)%256,x]))]->P3 a n c a' (on+2) c' ((i+1+lead x (cs.drop (i+1)):Nat):Int) w')->
   ∀(k r:Nat) (w:World),i+1+r+k=n->lead x (cs.drop (i+1))=r+lead x (cs.drop (i+1+r))->Sep No w0 w [ak oa on oc 5 1 (flat bj out)]->l7 P3 Q (k+1) a n c oa on oc i ((r+1:Nat):Int) w:=by
  intro P3 x i oa on oc out hx Cq next
  have hix:i<n:=by grind
  have hgx:gi cs i=x:=by rw[iA (by omega)]at hx;grind
  have over:∀(r:Nat) (w:World),i+1+r<=n->lead x (cs.drop (i+1))=r->Sep No w0 w [ak oa on oc 5 1 (flat bj out)]->sG P3 Q a n c oa on oc i ((r+1:Nat):Int) w:=by
   intro r w hr hl s;apply Sl.Di (hA.fr (aq s)) rfl hix;rw[hgx,aH,aH,wrap_u8'];refine aM s λb w s=>?_;have e0:((r+1:Nat):Int)-1=(r:Int):=by omega
   rw[e0]at s;have src:Src w (sZ b) 2 1 [.int .u8 ((r:Int)%256),.int .u8 x]:=⟨rfl,(λu hu=>by simp[List.mem_cons,List.not_mem_nil,or_false]at hu;rcases hu with rfl|rfl<;>rfl),λj u hj=>by rw[cq,Nat.zero_add];exact cF s (i:=0) rfl rfl hj⟩;refine iq dQ s (i:=1) (bytes:=1) rfl rfl rfl rfl rfl rfl (by decide) rfl src (by simp[maxLen];omega) (by omega) (λe=>by cases e) λa1 c1 w1 s1=>?_;have e:flat bj out++[.int .u8 ((r:Int)%256),.int .u8 x]=flat bj (out++[(r:Int)%256,x]):=by rw[fZ];rfl
   rw[e]at s1;rw[hl]at next
   have:=next a1 c1 w1 (ai s1)
   grind
  intro k;induction k with
  |zero=>
   intro r w hr hl s;show oM P3 Q (l7 P3 Q 0) _ _ _ _ _ _ _ _ _;rw[oM,aH,bu];have e:cs.drop (i+1+r)=[]:=List.drop_eq_nil_of_le (by omega);rw[e]at hl
   first|exact over r w (by omega) hl s|exact over r _ (by omega) hl (ay s)
  |succ k ih=>
   intro r w hr hl s;show oM P3 Q (l7 P3 Q (k+1)) _ _ _ _ _ _ _ _ _;unfold oM;have ei:(i:Int)+((r+1:Nat):Int)=((i+1+r:Nat):Int):=by push_cast;omega
   rw[aH,bK,ei];have s:=ay s;have hB:=hA.fr (aq s);apply Sl.Di hB rfl (by omega);apply Sl.Di hB rfl hix;have hd:cs.drop (i+1+r)=gi cs (i+1+r)::cs.drop (i+1+r+1):=by rw[List.drop_eq_getElem_cons (by omega)];congr 1;have:=iA (l:=cs) (i:=i+1+r) (by omega);rw[List.getElem?_eq_getElem (by omega)]at this;exact Option.some.inj this
   rw[hd,lead]at hl;rw[hgx];by_cases he:gi cs (i+1+r)=x
   ·rw[show(gi cs (i+1+r)==x)=true by rw[beq_iff_eq];exact he,cond_true,aH];rw[if_pos he]at hl;have:=ih (r+1) w.drew (by omega) (by rw[show i+1+(r+1)=i+1+r+1 by omega];omega) s;exact this
   ·rw[show(gi cs (i+1+r)==x)=false by rw[beq_eq_false_iff_ne];exact he,cond_false];rw[if_neg he]at hl;exact over r _ (by omega) hl s
 have outer:∀(k i:Nat) (oa:Option Addr) (on oc:Nat) (out:List Int) (w:World),n-i<=k->i<=n->on<=1+2*i->out++lF (n-i) (cs.drop i)=tM cs->Sep No w0 w [ak oa on oc 5 1 (flat bj out)]->oO Q (k+1) a n c oa on oc i w:=by
  have stop:∀R (oa:Option Addr) (on oc:Nat) (out:List Int) (w:World),out++lF (n-n) (cs.drop n)=tM cs->Sep No w0 w [ak oa on oc 5 1 (flat bj out)]->oN Q R a n c oa on oc n w:=by intro R oa on oc out w he s;rw[oN,bu];rw[List.drop_eq_nil_of_le (by omega),Nat.sub_self,lF,List.append_nil]at he;rw[he]at s;exact h _ _ _ _ (dz s0 s (i:=0) rfl) (aq s)
  intro k;induction k with
  |zero=>
   intro i oa on oc out w hk hi Cq he s;obtain rfl:i=n:=by omega
   exact stop _ _ _ _ _ _ he s
  |succ k ih=>
   intro i oa on oc out w hk hi Cq he s;by_cases hin:i=n
   ·subst hin;exact stop _ _ _ _ _ _ he s
   ·show oN Q (oO Q (k+1)) _ _ _ _ _ _ _ _;rw[oN,bK];have hx:cs[i]? =some (gi cs i):=iA (by omega);have hd:cs.drop i=gi cs i::cs.drop (i+1):=by obtain⟨h1,h2⟩:=List.getElem?_eq_some_iff.1 hx;rw[List.drop_eq_getElem_cons h1,h2]
    have N0:=Pz (gi cs i) (cs.drop (i+1));rw[List.length_drop]at N0;refine⟨n-(i+1)+1,inner _ (gi cs i) i oa on oc out hx (by omega) (λa' c' w' s'=>?_) (n-(i+1)) 0 w (by omega) (by rw[Nat.zero_add]) s⟩;refine ih (i+1+lead (gi cs i) (cs.drop (i+1))) a' (on+2) c' _ w' (by omega) (by omega) (by omega) ?_ s';rw[<-he,hd,show n-i=(n-(i+1))+1 by omega,lF,List.append_assoc,List.drop_drop];congr 1;show _::_::_=_::_::_;congr 2;exact ahT _ _ _ (by rw[List.length_drop];omega) (by rw[List.length_drop];omega)
 exact⟨n+1,outer n 0 _ 1 1 [2] w (by omega) (by omega) (by omega) (by rw[List.drop_zero,Nat.sub_zero,<-hlen];rfl) s⟩
end
end Go.Proofs.YtmegplnmiepfbaaGreatDoor.S.O
namespace Go.Proofs.YtmegplnmiepfbaaGreatDoor.S.O
open Go.Sx
attribute [local irreducible] af cQ bG bp aA cE cw St Bx Al App cV cO cM bZ aQ bI au cj ax ak bg mapA
section
variable {F:Nat->Prop}{W w w0:World}{L:List As}{a:Option Addr}{n c:Nat}{cs:List Int}
def aeQ {tw th:Int}{Q:Int->Option Addr->Nat->Nat->World->Prop}(s0:Sep F W w0 L)(hA:Sl w0 a n c 1 bj cs)(hcs:dJ cs)(hn:1<=n/\n<=100000)
  (h:∀ra rn rc w',Sep F W w' (ak ra rn rc 5 1 (flat bj (tN cs).2)::L)->Fr No w0 w'->Q (tN cs).1 ra rn rc w'):sR tw th a n c w0 Q:=by
 apply JT;have hlen:=hA.len;refine aM (aX (F:=No)) λtb w s=>?_;apply lS s 0 rfl;refine aku s (hA.fr (aq s)) hcs hn.2 λra rn rc w s _=>?_;have hr:=aN s (i:=0) rfl dg (by decide);have hrl:=hr.len;unfold tN at h;by_cases h3:(tM cs).length=3
 ·rw[show((rn:Int)==3)=true by grind,cond_true];rw[if_pos h3]at h;have s:=ay s;apply lS s 1 rfl;obtain⟨ad,rfl,hv⟩:=hA.row.2 0 _ (iA (by omega));have hv:=hv 0 _ rfl;refine⟨by decide,by omega,ah ?_⟩;apply aJ (Fr.cell (aq s) hv id);have fin:∀(b:Nat) (w':World) (L':List As),Sep No w0 w' (ax b 5 [.int .u8 0,.int .u8 (gi cs 0)]::L')->Q 0 (sZ b) 2 2 w':=λb w' L' s=>by have s:=g7 (n:=2) (size:=1) s (i:=0) rfl rfl (by decide) (by simp;exact⟨rfl,rfl⟩);have s:=s;exact h _ _ _ _ (dz s0 s (i:=0) rfl) (aq s)
  constructor
  ·refine aM s λb w s=>?_;exact⟨Fr.cell (aq s) hv id,ck s 2 rfl,fin _ _ _ s⟩
  ·refine⟨Fr.cell (aq s) hv id,ck s 1 rfl,?_⟩;refine aM s λb w s=>?_;grind
 ·rw[show((rn:Int)==3)=false by grind,cond_false];rw[if_neg h3]at h;apply lS s 1 rfl;rw[aH];by_cases h4:(tM cs).length<1+cs.length
  ·rw[bK];rw[if_pos h4]at h;exact h _ _ _ _ (dz s0 s (i:=0) rfl) (aq s)
  ·rw[bu];rw[if_neg h4]at h;refine aM s λb w s=>?_;have s:=ar8 s;apply lS s 2 rfl;refine alQ s (hA.fr (aq s)) (by omega) λra rc w s=>?_;exact h _ _ _ _ (dz s0 s (i:=0) rfl) (aq s)
def J5 {m:bM}{Q:Option Addr->Nat->Nat->World->Prop}(s0:Sep F W w0 L)(hA:Sl w0 a n c 1 bj m.cs)(hm:cT m)
  (h:∀ra rn rc w',Sep F W w' (ak ra rn rc 5 1 (flat bj (yM m))::L)->Fr No w0 w'->Q ra rn rc w'):lG m.w m.h a n c w0 Q:=by
 apply Kz;have hc:=gQ hm.w hm.h;refine aM (aX (F:=No)) λmb w s=>?_;apply lI s 0 rfl;apply lI s 0 rfl;refine⟨by decide,?_⟩;apply lI s 0 rfl;apply lI s 0 rfl;refine⟨by decide,?_⟩;have e8:∀v:Int,o_ .i64 v 8=v/256:=λv=>by rw[o_,show min (8:Int).toNat (IntKind.i64).bits=8 by decide,Int.fdiv_eq_ediv_of_nonneg _ (by decide)];rfl
 rw[e8,e8,wrap_u8',wrap_u8',wrap_u8',wrap_u8'];refine aM s λhb w s=>?_;have s:=g7 (n:=4) (size:=1) s (i:=0) rfl rfl (by decide) (by simp;exact⟨rfl,rfl,rfl,rfl⟩);have s:=s;have loop:∀(k i:Nat) (ba:Option Addr) (bn bc:Nat) (w:World),((i+k:Nat):Int)=eV m.w m.h->bn<=4+258*i->
   Sep No w0 w [ak ba bn bc 5 1 (flat bj ([m.w%256,m.w/256%256,m.h%256,m.h/256%256]++I1 m i)),ax mb 25 [ae m.w,ae m.h,.slice a n c]]->kB Q (k+1) (aZ mb) ba bn bc i w:=by
  intro k;induction k with
  |zero=>
   intro i ba bn bc w hi FT s;show wF Q (kB Q 0) _ _ _ _ _ _;apply lI s 1 rfl;apply lI s 1 rfl;apply MA hm.w hm.h;rw[bu];have e:i=(eV m.w m.h).toNat:=by omega
   rw[e]at s;exact h _ _ _ _ (dz s0 s (i:=0) rfl) (aq s)
  |succ k ih=>
   intro i ba bn bc w hi FT s;show wF Q (kB Q (k+1)) _ _ _ _ _ _;have TT:0<=(i:Int)/\(i:Int)<eV m.w m.h:=by omega
   have htl:=Vo hm TT;have htr:=Vn hm TT;apply lI s 1 rfl;apply lI s 1 rfl;apply MA hm.w hm.h;rw[bK];apply lI s 1 rfl;apply lI s 1 rfl;apply lS s 1 rfl;refine agY s (hA.fr (aq s)) hm (by omega) λra rn rc w s _=>?_;have ht:=aN s (i:=0) rfl dg (by decide);have Q7:=ht.len;refine aeQ s ht (λx hx=>by grind) (by omega) λpa pn pc w s _=>?_;have hp:=aN s (i:=0) rfl dg (by decide);have hpn:=hp.len;have IU:=ahV (cs:=qp m i);have s:=bY (L':=[_,_,_,_]) [2,3,0,1] s rfl (by decide);refine alQ s (aN s (i:=2) rfl dg (by decide)) (by omega) λra rc w s=>?_;rw[aH];have s:=bY (L':=[_,_]) [0,1] s rfl (by decide);rw[List.append_assoc,<-YJ]at s;grind
 exact⟨(eV m.w m.h).toNat+1,loop _ 0 _ 4 4 w (by omega) (by omega) s⟩
attribute [local irreducible] iR in
theorem am2 {x:yN}{nn:Int}{Q:Int->Int->Int->Option Addr->Nat->Nat->World->Prop}(s0:Sep F W w0 L)(hn:1<=nn/\nn<=2000000)
  (h:∀ra rn rc w',Sep F W w' (ak ra rn rc 5 1 (flat bj (K_ x nn).m)::L)->Fr No w0 w'->Q (K_ x nn).k (K_ x nn).A (K_ x nn).B ra rn rc w'):wc x.k x.a x.b nn w0 Q:=by
 apply Nf;have h3:=kj (n:=x.a) (lo:=0) (hi:=1) (by decide);have h4:=kj (n:=x.a) (lo:=0) (hi:=5) (by decide);have hb2:∀(w:World) (ob xb pb:Nat) (L':List As) (is:List Nat) (L3:List As),is.Nodup->is.map (λi=>L'[i]?)=[some (ax ob 38 [ae (gf x.b 1 6),ae (nn+gf x.a 0 5),ae (gf x.a 0 9),.slice none 0 0]),some (ax pb 38 [ae 0,ae 0,ae 0,.slice none 0 0]),some (ax xb 90 [ae x.k,ae x.a,ae x.b])]->
   Sep No w0 w L'->iR Q nn (aZ xb) (aZ pb) (aZ ob) w:=by
  intro w ob xb pb L' is L3 hnd hpk s;have s:=bY (L':=[_,_,_]) is s hpk hnd;unfold iR;unfold K_ at h;apply lI s 0 rfl;by_cases k1:gf x.b 1 6=1
  ·rw[show(gf x.b 1 6==1)=true by rw[beq_iff_eq];exact k1,cond_true];rw[if_pos k1]at h;rw[k1]at s;have s:=ay s;have fin:∀(w:World) (b2:Nat) (L2:List As) (is:List Nat),is.Nodup->is.map (λi=>L2[i]?)=[some (ax b2 5 [.int .u8 2,.int .u8 0,.int .u8 1,.int .u8 0,.int .u8 1,.int .u8 (x.a%256),.int .u8 (x.b%256)])]->Sep No w0 w L2->Q 1 0 0 (sZ b2) 7 7 w:=by intro w b2 L2 is hnd hpk s;have s:=bY (L':=[_]) is s hpk hnd;have s:=g7 (n:=7) (size:=1) s (i:=0) rfl rfl (by decide) (λu hu=>by simp[List.mem_cons,List.not_mem_nil,or_false]at hu;rcases hu with rfl|rfl|rfl|rfl|rfl|rfl|rfl<;>rfl);have s:=s;exact h _ _ _ _ (dz s0 s (i:=0) rfl) (aq s)
   apply lI s 2 rfl;apply lI s 2 rfl;refine And.intro ?_ ?_;refine aM s λb w s=>?_
   (refine av s (i:=1) rfl rfl rfl λw s=>?_)
   apply And.intro (ck s 3 rfl);apply And.intro (ck s 3 rfl)
   (refine av s (i:=1) rfl rfl rfl λw s=>?_)
   apply And.intro (ck s 3 rfl);apply And.intro (ck s 3 rfl)
   (refine av s (i:=1) rfl rfl rfl λw s=>?_)
   apply lI s 1 rfl;apply lI s 1 rfl;apply lI s 1 rfl;apply lS s 1 rfl
   (refine av s (i:=2) rfl rfl rfl λw s=>?_)
   (refine av s (i:=2) rfl rfl rfl λw s=>?_)
   (refine av s (i:=2) rfl rfl rfl λw s=>?_)
   (refine av s (i:=2) rfl rfl rfl λw s=>?_)
   apply lI s 2 rfl;apply lI s 2 rfl;apply lI s 2 rfl;apply lS s 2 rfl;exact fin _ _ _ [0] (by decide) rfl s
   (refine av s (i:=0) rfl rfl rfl λw s=>?_)
   apply And.intro (ck s 2 rfl);apply And.intro (ck s 2 rfl);refine And.intro ?_ ?_;refine aM s λb w s=>?_
   (refine av s (i:=1) rfl rfl rfl λw s=>?_)
   apply And.intro (ck s 3 rfl);apply And.intro (ck s 3 rfl)
   (refine av s (i:=1) rfl rfl rfl λw s=>?_)
   apply lI s 1 rfl;apply lI s 1 rfl;apply lI s 1 rfl;apply lS s 1 rfl
   (refine av s (i:=2) rfl rfl rfl λw s=>?_)
   (refine av s (i:=2) rfl rfl rfl λw s=>?_)
   (refine av s (i:=2) rfl rfl rfl λw s=>?_)
   (refine av s (i:=2) rfl rfl rfl λw s=>?_)
   apply lI s 2 rfl;apply lI s 2 rfl;apply lI s 2 rfl;apply lS s 2 rfl;exact fin _ _ _ [0] (by decide) rfl s
   (refine av s (i:=0) rfl rfl rfl λw s=>?_)
   apply And.intro (ck s 2 rfl);apply And.intro (ck s 2 rfl);refine aM s λb w s=>?_
   (refine av s (i:=1) rfl rfl rfl λw s=>?_)
   apply lI s 1 rfl;apply lI s 1 rfl;apply lI s 1 rfl;apply lS s 1 rfl
   (refine av s (i:=2) rfl rfl rfl λw s=>?_)
   (refine av s (i:=2) rfl rfl rfl λw s=>?_)
   (refine av s (i:=2) rfl rfl rfl λw s=>?_)
   (refine av s (i:=2) rfl rfl rfl λw s=>?_)
   apply lI s 2 rfl;apply lI s 2 rfl;apply lI s 2 rfl;apply lS s 2 rfl;exact fin _ _ _ [0] (by decide) rfl s
  ·rw[show(gf x.b 1 6==1)=false by rw[beq_eq_false_iff_ne];exact k1,cond_false];rw[if_neg k1]at h;have fin:∀(w:World) (L2:List As) (A B:Int),(∀ra rn rc w',Sep F W w' (ak ra rn rc 5 1 (flat bj [])::L)->Fr No w0 w'->Q (gf x.b 1 6) A B ra rn rc w')->Sep No w0 w L2->Q (gf x.b 1 6) A B none 0 0 w:=by intro w L2 A B h s;exact h _ _ _ _ (bC (bP s0 (aq s)) 5 1) (aq s)
   by_cases k2:gf x.b 1 6=2
   ·rw[show(gf x.b 1 6==2)=true by rw[beq_iff_eq];exact k2,cond_true];rw[if_pos k2]at h;apply lI s 2 rfl;rw[aH];apply cz (by omega) (by decide) (by omega);refine av s (i:=0) rfl rfl rfl λw s=>?_;apply lI s 2 rfl;apply cz (by decide) (by decide) (by decide);have e:IntKind.wrap .i64 ((0+x.a%(1-0+1))*255)=gf x.a 0 1*255:=wrap_i64 (by show _<=gf x.a 0 1*255;omega) (by show gf x.a 0 1*255<_;omega);rw[e]
    (refine av s (i:=0) rfl rfl rfl λw s=>?_)
    apply lI s 0 rfl;apply lI s 0 rfl;apply lI s 0 rfl;apply lS s 0 rfl
    (refine av s (i:=1) rfl rfl rfl λw s=>?_)
    (refine av s (i:=1) rfl rfl rfl λw s=>?_)
    (refine av s (i:=1) rfl rfl rfl λw s=>?_)
    (refine av s (i:=1) rfl rfl rfl λw s=>?_)
    apply lI s 1 rfl;apply lI s 1 rfl;apply lI s 1 rfl;apply lS s 1 rfl;refine fin _ _ _ _ ?_ s;rw[k2];exact h
   ·rw[show(gf x.b 1 6==2)=false by rw[beq_eq_false_iff_ne];exact k2,cond_false];rw[if_neg k2]at h;by_cases k5:gf x.b 1 6=5
    ·rw[show(gf x.b 1 6==5)=true by rw[beq_iff_eq];exact k5,cond_true];rw[if_pos k5]at h
     (refine av s (i:=0) rfl rfl rfl λw s=>?_)
     apply lI s 0 rfl;apply lI s 0 rfl;apply lI s 0 rfl;apply lS s 0 rfl
     (refine av s (i:=1) rfl rfl rfl λw s=>?_)
     (refine av s (i:=1) rfl rfl rfl λw s=>?_)
     (refine av s (i:=1) rfl rfl rfl λw s=>?_)
     (refine av s (i:=1) rfl rfl rfl λw s=>?_)
     apply lI s 1 rfl;apply lI s 1 rfl;apply lI s 1 rfl;apply lS s 1 rfl;refine fin _ _ _ _ ?_ s;rw[k5];exact h
    ·rw[show(gf x.b 1 6==5)=false by rw[beq_eq_false_iff_ne];exact k5,cond_false];rw[if_neg k5]at h;apply lI s 0 rfl;apply lI s 0 rfl;apply lI s 0 rfl;apply lS s 0 rfl
     (refine av s (i:=1) rfl rfl rfl λw s=>?_)
     (refine av s (i:=1) rfl rfl rfl λw s=>?_)
     (refine av s (i:=1) rfl rfl rfl λw s=>?_)
     (refine av s (i:=1) rfl rfl rfl λw s=>?_)
     apply lI s 1 rfl;apply lI s 1 rfl;apply lI s 1 rfl;apply lS s 1 rfl;exact fin _ _ _ _ h s
 have e1:IntKind.wrap .i64 (nn+(0+x.a%(5-0+1)))=nn+gf x.a 0 5:=wrap_i64 (by show _<=nn+gf x.a 0 5;omega) (by show nn+gf x.a 0 5<_;omega);have s:=aX (F:=No) (w:=w0);refine aM s λxb w s=>?_;refine aT s λpb w s=>?_;have s:=ay s
 repeat' first
  |apply lI s 0 rfl
  |apply lS s 0 rfl
  |apply lB s 0 rfl
  |apply lP s 0 rfl
  |apply And.intro (ck s 0 rfl)
  |apply lI s 1 rfl
  |apply lS s 1 rfl
  |apply lB s 1 rfl
  |apply lP s 1 rfl
  |apply And.intro (ck s 1 rfl)
  |apply lI s 2 rfl
  |apply lS s 2 rfl
  |apply lB s 2 rfl
  |apply lP s 2 rfl
  |apply And.intro (ck s 2 rfl)
  |(refine av s (i:=0) rfl rfl rfl λw s=>?_)
  |(refine av s (i:=1) rfl rfl rfl λw s=>?_)
  |(refine av s (i:=2) rfl rfl rfl λw s=>?_)
  |refine aM s λb w s=>?_
  |(refine aT s λb w s=>?_;simp[ahd,ac3,amZ,ahe]at s)
  |apply cz (by decide) (by decide) (by decide)
  |apply And.intro ?_
  |(replace s:=ay s;first
   |apply lI s 0 rfl
   |apply lS s 0 rfl
   |apply lB s 0 rfl
   |apply lP s 0 rfl
   |apply And.intro (ck s 0 rfl)
   |apply lI s 1 rfl
   |apply lS s 1 rfl
   |apply lB s 1 rfl
   |apply lP s 1 rfl
   |apply And.intro (ck s 1 rfl)
   |apply lI s 2 rfl
   |apply lS s 2 rfl
   |apply lB s 2 rfl
   |apply lP s 2 rfl
   |apply And.intro (ck s 2 rfl)
   |(refine av s (i:=0) rfl rfl rfl λw s=>?_)
   |(refine av s (i:=1) rfl rfl rfl λw s=>?_)
   |(refine av s (i:=2) rfl rfl rfl λw s=>?_)
   |refine aM s λb w s=>?_
   |(refine aT s λb w s=>?_;simp[ahd,ac3,amZ,ahe]at s)
   |apply cz (by decide) (by decide) (by decide)
   |refine And.intro ?_ ?_)
 all_goals
  rw[e1]at s;exact hb2 _ _ _ _ _ [0,1,2] [] (by decide) rfl s
end
end Go.Proofs.YtmegplnmiepfbaaGreatDoor.S.O
