/- Part 5 of the proof. -/
import Derived.Test.YtmegplnmiepfbaaGreatDoorN3
import Derived.Lib.MakeNoZero
set_option linter.unusedVariables false
set_option linter.unusedSimpArgs false
set_option linter.defProp false
namespace Go.Proofs.YtmegplnmiepfbaaGreatDoor.S
open Go.Sx
attribute [local irreducible] af cA bw bg aA cq bY St Bx Al App cD cy cw bT aL bC aq bR av ak aV mapA
structure xD where
 a0:Addr
 a2:Addr
 a3:Addr
 a4:Addr
 a5:Addr
 a6:Addr
structure jq (w:World) (g:xD):Prop where
 v0:w.cell? (aZ 0)=some (.iface 401 (.pointer (some g.a0)))
 v1:w.cell? (aZ 1)=some (.iface 219 (rt 74))
 v2:w.cell? (aZ 2)=some (.iface 401 (.pointer (some g.a2)))
 v3:w.cell? (aZ 3)=some (.iface 401 (.pointer (some g.a3)))
 v4:w.cell? (aZ 4)=some (.iface 401 (.pointer (some g.a4)))
 v5:w.cell? (aZ 5)=some (.iface 401 (.pointer (some g.a5)))
 v6:w.cell? (aZ 6)=some (.iface 401 (.pointer (some g.a6)))
 n23:g.a2≠g.a3
 n56:g.a5≠g.a6
 b2:∃c t,w.heap[g.a2.block]? =some (.cells c t (0,0))
 b3:∃c t,w.heap[g.a3.block]? =some (.cells c t (0,0))
 b5:∃c t,w.heap[g.a5.block]? =some (.cells c t (0,0))
 b6:∃c t,w.heap[g.a6.block]? =some (.cells c t (0,0))
def Xc {w w':World}{k:Nat}{o:Obj}(f:Fr No w w')(h:w.heap[k]? =some o):w'.heap[k]? =some o:=by rw[Fr.block f k (Array.getElem?_eq_some_iff.1 h).1 id];exact h
def jq.fr {w w':World}{g:xD}(k:jq w g)(f:Fr No w w'):jq w' g where
 v0:=Fr.cell f k.v0 id
 v1:=Fr.cell f k.v1 id
 v2:=Fr.cell f k.v2 id
 v3:=Fr.cell f k.v3 id
 v4:=Fr.cell f k.v4 id
 v5:=Fr.cell f k.v5 id
 v6:=Fr.cell f k.v6 id
 n23:=k.n23
 n56:=k.n56
 b2:=let⟨c,t,h⟩:=k.b2;⟨c,t,Xc f h⟩
 b3:=let⟨c,t,h⟩:=k.b3;⟨c,t,Xc f h⟩
 b5:=let⟨c,t,h⟩:=k.b5;⟨c,t,Xc f h⟩
 b6:=let⟨c,t,h⟩:=k.b6;⟨c,t,Xc f h⟩
structure Dr where
 a:Int
 b:Int
 c:Int
 d:Int
 e:Int
 f:Int
structure Wz (x:Dr):Prop where
 a:Ta.U x.a
 b:Ta.U x.b
 c:Ta.U x.c
 d:Ta.U x.d
 e:Ta.U x.e
 f:Ta.U x.f
def Dr.add (x y:Dr):Dr:=⟨Ta.sat x.a y.a,Ta.sat x.b y.b,Ta.sat x.c y.c,Ta.sat x.d y.d,Ta.sat x.e y.e,Ta.sat x.f y.f⟩
def Wz.add {x y:Dr}(hx:Wz x)(hy:Wz y):Wz (x.add y):=⟨Ta.GI hx.a hy.a,Ta.GI hx.b hy.b,Ta.GI hx.c hy.c,Ta.GI hx.d hy.d,Ta.GI hx.e hy.e,Ta.GI hx.f hy.f⟩
def aec (x:Dr):List Value:=[.int .u64 x.a,.int .u64 x.b,.int .u64 x.c,.int .u64 x.d,.int .u64 x.e,.int .u64 x.f]
structure Ap where
 p:Nat
 sh:Wo
 gr:uz
 mr:Bq
 fp:Nat
structure j8 where
 g:gW
 ms:nD
 f:GM
structure gw where
 k:Int
 x:AP
 o:Option j8
 past:Dr
def GR (r:Ap)(y:gw):List Value:=match y.o with
 |some _=>[.pointer (sZ r.gr.p),.pointer (sZ r.mr.p),.pointer (sZ r.fp),.pointer (sZ r.sh.p)]++aec y.past
 |none=>[.pointer none,.pointer none,.pointer none,.pointer (sZ r.sh.p)]++aec y.past
noncomputable def IC (r:Ap)(o:Option j8):List As:=match o with
 |some m=>[nV r.gr m.g,uA r.mr r.gr.p m.ms,uE r.fp r.mr.p r.gr.p m.f]
 |none=>[]
noncomputable def al6 (r:Ap)(y:gw):List As:=av r.p 106 (GR r y)::jV r.sh y.k y.x::IC r y.o
structure au_ (y:gw) (m:j8):Prop where
 g:xw m.g
 I:yw m.g m.ms
 J:ab4 m.g m.f
 nP:m.g.m.w*m.g.m.h<=1600
 right:SO (aiE m.g) y.x.p
structure GS (y:gw):Prop where
 sh:ad7 y.k y.x.p
 past:Wz y.past
 m:∀m,y.o=some m->au_ y m
noncomputable def ik (r:Ap)(y:gw):As:=aV (GS y) (al6 r y)
section
variable {F:Nat->Prop}{W w w0:World}{L:List As}{r:Ap}{y:gw}
def Cs (s:Sep F W w (ik r y::L)):GS y/\Sep F W w (al6 r y++L):=gP s
def WA (s:Sep F W w (al6 r y++L))(h:GS y):Sep F W w (ik r y::L):=dA s h
noncomputable abbrev aab (r:Ap)(past:Dr):As:=av r.p 106 [.pointer (sZ r.gr.p),.pointer (sZ r.mr.p),.pointer (sZ r.fp),.pointer (sZ r.sh.p),.int .u64 past.a,.int .u64 past.b,.int .u64 past.c,.int .u64 past.d,.int .u64 past.e,.int .u64 past.f]
def NL {m:j8}(ho:y.o=some m)(s:Sep F W w (ik r y::L)):GS y/\Sep F W w (aab r y.past::jV r.sh y.k y.x::nV r.gr m.g::uA r.mr r.gr.p m.ms::uE r.fp r.mr.p r.gr.p m.f::L):=by obtain⟨h,s⟩:=Cs s;have s:Sep F W w (av r.p 106 (GR r y)::jV r.sh y.k y.x::(IC r y.o++L)):=s;unfold GR at s;rw[ho]at s;exact⟨h,s⟩
def Ky {m:j8}{k:Int}{x:AP}{past:Dr}(s:Sep F W w (aab r past::jV r.sh k x::nV r.gr m.g::uA r.mr r.gr.p m.ms::uE r.fp r.mr.p r.gr.p m.f::L))(h:GS ⟨k,x,some m,past⟩):Sep F W w (ik r ⟨k,x,some m,past⟩::L):=
 WA s h
def agq {Q:Option Addr->World->Prop}{k:Int}(hk:1<=k/\k<=100000)(s:Sep F W w L)
  (h:∀r x w',x.p=⟨[],[],0,0,0,0⟩->Sep F W w' (ik r ⟨k,x,none,⟨0,0,0,0,0,0⟩⟩::L)->Q (sZ r.p) w'):Jo k w Q:=by
 apply afU;rw[bp];refine ab7 s (λe=>by omega) λ_ sr w s=>?_;refine aN s λp w s=>?_;have u0:Ta.U 0:=by unfold Ta.U;omega
 refine h ⟨p,sr,⟨0,none,0,0,none,0,0⟩,⟨0,none,0,0⟩,0⟩ _ w rfl (WA s ⟨⟨hk.1,hk.2,Lr.LU (k:=k) (by omega),rfl,u0,u0,u0,u0,(λq hq=>by cases hq)⟩,⟨u0,u0,u0,u0,u0,u0⟩,λm e=>by cases e⟩)
structure aac (w:World) (r:Ap) (y:gw) (m:j8):Prop where
 ok:GS y
 o:y.o=some m
 cell:rS w r.p (GR r y)
 g:nB w r.gr m.g
def q8 {m:j8}(s:Sep F W w (ik r y::L))(ho:y.o=some m):aac w r y m:=by obtain⟨h,s⟩:=Cs s;refine⟨h,ho,lj s (i:=0) rfl,?_⟩;have s:Sep F W w (av r.p 106 (GR r y)::jV r.sh y.k y.x::(IC r y.o++L)):=s;rw[ho]at s;exact oN (ai (ai s))
def aac.c0 {m:j8}(k:aac w r y m){j:Nat}{v:Value}(h:([.pointer (sZ r.gr.p),.pointer (sZ r.mr.p),.pointer (sZ r.fp),.pointer (sZ r.sh.p)]++aec y.past)[j]? =some v):w.cell? ((aZ r.p).add j)=some v:=by apply k.cell j v;rw[GR,k.o];exact h
def Ib {Q:Int->World->Prop}{m:j8}{c:Int}(k:aac w r y m)(h:Q (cT m.g.m c) w):rI (sZ r.p) c w Q:=by apply Vh;have h0:=k.c0 (j:=0) rfl;exact ld (ah (dO h0 (jn k.g h)))
def Q6 {Q:Int->Int->World->Prop}{m:j8}(s0:Sep F W w L)(k:aac w r y m)(h:∀w',Sep F W w' L->Fr No w w'->Q m.g.m.w m.g.m.h w'):wV (sZ r.p) w Q:=by apply Vn;have h0:=k.c0 (j:=0) rfl;exact ld (ah (dO h0 (jo s0 k.g h)))
def agr {Q:Int->Int->Option Addr->Nat->Nat->World->Prop}{m:j8}(s0:Sep F W w L)(k:aac w r y m)(h:∀ra rn rc w',Sep F W w' (ak ra rn rc 5 1 (flat bu m.g.m.cs)::L)->Fr No w w'->Q m.g.m.w m.g.m.h ra rn rc w'):Dw (sZ r.p) w Q:=by apply XU;refine aS (bh (F:=No)) λmb w1 s=>?_;have h0:=k.c0 (j:=0) rfl;refine ld (ah (dO (Fr.cell (au s) h0 id) ?_));refine adF s (k.g.fr (au s)) λra rc w1 s _=>?_;refine sT s 1 rfl λw1 s=>?_;refine sT s 1 rfl λw1 s=>?_;refine ax s (i:=1) rfl rfl rfl λw1 s=>?_;refine lI s 1 rfl (lI s 1 rfl (lS s 1 rfl ?_));have s':=b_ (L':=[ak ra r.gr.cn rc 5 1 (flat bu m.g.m.cs)]) [0] s rfl (by decide);exact h ra r.gr.cn rc w1 (fy s0 s') (au s')
def aed {Q:Int->World->Prop}{m:j8}{ce x:Int}(ho:y.o=some m)(he:m.g.ep<1000000000)(s:Sep F W w (ik r y::L))
  (h7:¬bK m.g.m.w m.g.m.h ce->Q 7 w)(h8:bK m.g.m.w m.g.m.h ce->¬(1<=x/\x<=255)->Q 8 w)
  (h0:bK m.g.m.w m.g.m.h ce->1<=x/\x<=255->∀w',Sep F W w' (ik r ⟨y.k,y.x,some ⟨vQ m.g ce x,m.ms,m.f⟩,y.past⟩::L)->Q 0 w'):BQ (sZ r.p) ce x w Q:=by
 apply Vm;have k:=q8 s ho;obtain⟨hok,s⟩:=NL ho s;have hm:=hok.m m ho;have c0:=k.c0 (j:=0) rfl;refine ld (ah (dO c0 ?_));have s:=pk 5 [2,0,1,3,4] s;refine abn s (by omega) h7 h8 λhc hx w s=>?_;refine h0 hc hx w (Ky (pk 5 [1,2,0,3,4] s) ⟨hok.sh,hok.past,λm' e=>?_⟩);cases e;exact⟨ahU hm.g hx (by omega),aoF hm.g hc hm.I,aoG hm.J,hm.nP,alZ hm.right λkey q=>al1 hm.g hc⟩
def ace {Q:World->Prop}{m:j8}(ho:y.o=some m)(s:Sep F W w (ik r y::L))
  (h:∀r' x' w',r'.p=r.p->x'.p=⟨[],[],y.x.b,y.x.h,y.x.st,y.x.ev⟩->Sep F W w' (ik r' ⟨y.k,x',some ⟨m.g,m.ms,⟨none,m.f.fH⟩⟩,y.past⟩::L)->Q w'):vA (sZ r.p) w Q:=by
 apply Hf;have k:=q8 s ho;obtain⟨hok,s⟩:=NL ho s;have hm:=hok.m m ho;refine isS (ah (dO (k.c0 rfl) ?_));have s:=iZ s;refine OM hok.sh.one s λsr w e s=>?_;refine ah (lP s 1 rfl ?_);have s:=pk 5 [4,0,1,2,3] s;refine X2 s λw s=>?_;have s:=gf (A:=[_,_,_,_,_]) (B:=[aab ⟨r.p,sr,r.gr,r.mr,r.fp⟩ y.past,jV sr y.k ⟨[],[],y.x.b,y.x.h,y.x.st,y.x.ev⟩,nV r.gr m.g,uA r.mr r.gr.p m.ms,uE r.fp r.mr.p r.gr.p ⟨none,m.f.fH⟩]) [2,1,3,4,0] s (by unfold aab;rw[e];rfl) (by decide);refine h ⟨r.p,sr,r.gr,r.mr,r.fp⟩ ⟨[],[],y.x.b,y.x.h,y.x.st,y.x.ev⟩ w rfl rfl (Ky s ⟨?_,hok.past,λm' e=>?_⟩)
 ·exact⟨hok.sh.one,hok.sh.room,Lr.LU (k:=y.k) (by have:=hok.sh.one;omega),rfl,hok.sh.b,hok.sh.h,hok.sh.st,hok.sh.ev,λq hq=>by cases hq⟩
 ·cases e;exact⟨hm.g,hm.I,⟨(λq e=>by cases e),hm.J.u⟩,hm.nP,afj⟩
def X4 {Q:World->Prop}(h:Q w):qq Option.none w Q:=Di _ _ _ h
def acf {Q:World->Prop}(ho:y.o=Option.none)(s:Sep F W w (ik r y::L))
  (h:∀r' x' w',r'.p=r.p->x'.p=⟨[],[],y.x.b,y.x.h,y.x.st,y.x.ev⟩->Sep F W w' (ik r' ⟨y.k,x',Option.none,y.past⟩::L)->Q w'):vA (some ⟨r.p,0,Option.none⟩) w Q:=by
 apply Hf;obtain⟨hok,s⟩:=Cs s;have s:Sep F W w (av r.p 106 (GR r y)::jV r.sh y.k y.x::(IC r y.o++L)):=s;unfold GR at s;rw[ho]at s;have s:=s;refine isS (ah (lP s 0 rfl ?_));have s:=iZ s;refine OM hok.sh.one s λsr w e s=>?_;refine ah (lP s 1 rfl ?_);apply X4;have s:=iZ s;rw[<-e]at s;refine h ⟨r.p,sr,r.gr,r.mr,r.fp⟩ ⟨[],[],y.x.b,y.x.h,y.x.st,y.x.ev⟩ w rfl rfl (WA s ⟨?_,hok.past,λm' e=>by cases e⟩);exact⟨hok.sh.one,hok.sh.room,Lr.LU (k:=y.k) (by have:=hok.sh.one;omega),rfl,hok.sh.b,hok.sh.h,hok.sh.st,hok.sh.ev,λq hq=>by cases hq⟩
def uF (y:gw):Dr:=match y.o with
 |some m=>⟨m.ms.fH,m.f.fH,0,0,0,0⟩
 |none=>⟨0,0,0,0,0,0⟩
def aoK (h:GS y):Wz (uF y):=by
 have u0:Ta.U 0:=by unfold Ta.U;omega
 unfold uF;cases hy:y.o with
 |none=>exact⟨u0,u0,u0,u0,u0,u0⟩
 |some m=>exact⟨(h.m m hy).I.u,(h.m m hy).J.u,u0,u0,u0,u0⟩
def Ma {Q:Int->Int->Int->Int->Int->Int->World->Prop}(s:Sep F W w (ik r y::L))(h:∀w',Sep F W w' (ik r y::L)->Fr No w w'->Q (uF y).a (uF y).b (uF y).c (uF y).d (uF y).e (uF y).f w'):tS (some ⟨r.p,0,Option.none⟩) w Q:=by
 apply RG;refine aS (bh (F:=No)) λp w1 s1=>?_;have fin:∀w',Sep No w w' []->Q (uF y).a (uF y).b (uF y).c (uF y).d (uF y).e (uF y).f w':=λw' s'=>h w' (fy s s') (au s');apply ah;cases hy:y.o with
 |some m=>
  obtain⟨hok,so⟩:=NL hy s;have k:=q8 s hy;have km:=(Wa (ai (ai (ai so)))).cell.fr (au s1);have kf:=(NJ (ai (ai (ai (ai so))))).fr (au s1);have e:uF y=⟨m.ms.fH,m.f.fH,0,0,0,0⟩:=by unfold uF;rw[hy]
  rw[e]at fin;have c1:=Fr.cell (au s1) (k.c0 (j:=1) rfl) id;have c2:=Fr.cell (au s1) (k.c0 (j:=2) rfl) id;refine dO c1 (ah (dO c2 ?_));refine ZV km ⟨c2,?_⟩;apply Wk (w:=w1.drew) kf;exact aiB (ay s1) λw' s'=>fin w' (ai s')
 |none=>
  obtain⟨hok,so⟩:=Cs s;have so:Sep F W w (av r.p 106 (GR r y)::jV r.sh y.k y.x::(IC r y.o++L)):=so;unfold GR at so;rw[hy]at so;have kb:=lj so (i:=0) rfl;have e:uF y=⟨0,0,0,0,0,0⟩:=by unfold uF;rw[hy]
  rw[e]at fin;have c1:=Fr.cell (au s1) (kb 1 _ rfl) id;have c2:=Fr.cell (au s1) (kb 2 _ rfl) id;refine dO c1 (ah (dO c2 ?_));refine ZW ⟨c2,?_⟩;apply Wl;exact aiB (ay s1) λw' s'=>fin w' (ai s')
def Q7 (s:Sep F W w (ik r y::L)):rS w r.sh.p (GO r.sh y.x)/\w.cell? ((⟨r.p,0,Option.none⟩:Addr).add 3)=some (.pointer (some ⟨r.sh.p,0,Option.none⟩))/\(∀j v,(aec y.past)[j]? =some v->w.cell? ((⟨r.p,0,Option.none⟩:Addr).add (4+j))=some v):=by
 obtain⟨hok,so⟩:=Cs s;have so:=so;have kb:=lj so (i:=0) rfl;refine⟨al0 so (i:=1) rfl,?_,λj v hj=>?_⟩
 ·apply kb 3;unfold GR;grind
 ·apply kb (4+j) v;unfold GR;grind
def WB (y:gw):Dr:=(y.past.add (uF y)).add ⟨0,0,y.x.b,y.x.h,y.x.st,y.x.ev⟩
def acg {Q:Int->Int->Int->Int->Int->Int->World->Prop}(s:Sep F W w (ik r y::L))(h:∀w',Sep F W w' (ik r y::L)->Q (WB y).a (WB y).b (WB y).c (WB y).d (WB y).e (WB y).f w'):AV (some ⟨r.p,0,Option.none⟩) w Q:=by
 apply T4;refine aS s λp w1 s1=>?_;have s1:=ay (iZ s1);obtain⟨k1,k2,k3⟩:=Q7 s1;have hok:=(Cs s1).1;have hu:=hok.past;have hn:=aoK hok;have u0:Ta.U 0:=by unfold Ta.U;omega
 refine ld (ah ?_);refine aR (k3 0 _ rfl) (aR (k3 1 _ rfl) (aR (k3 2 _ rfl) (aR (k3 3 _ rfl) (aR (k3 4 _ rfl) (aR (k3 5 _ rfl) ?_)))));refine ah (dO k2 ?_);refine Ma s1 λw2 s2 f2=>?_;obtain⟨q1,q2,q3⟩:=Q7 s2;refine⟨q2,q3 0 _ rfl,q3 1 _ rfl,q3 2 _ rfl,q3 3 _ rfl,q3 4 _ rfl,q3 5 _ rfl,?_⟩;refine Ta.GJ s2 ⟨⟨hu.a,hu.b,hu.c,hu.d,hu.e,hu.f⟩,hn.a,hn.b,hn.c,hn.d,hn.e,hn.f⟩ λw3 s3=>?_;obtain⟨q1,q2,q3⟩:=Q7 s3;refine⟨q2,?_⟩;refine ajW s3 q1 λw4 s4 _=>?_;have ha:=Wz.add hu hn;refine Ta.GJ s4 ⟨⟨ha.a,ha.b,ha.c,ha.d,ha.e,ha.f⟩,u0,u0,hok.sh.b,hok.sh.h,hok.sh.st,hok.sh.ev⟩ λw5 s5=>?_;exact aiB (iZ s5) λw6 s6=>h w6 (ai s6)
end
def epO (o:Option j8):Int:=match o with
 |some m=>m.g.ep
 |none=>0
def agG (m:bJ):nD:=⟨List.replicate (dy m.w m.h).toNat LS,0,0⟩
def al7 (o:Option j8)(mp:bJ):j8:=⟨OH mp (epO o),agG mp,⟨none,0⟩⟩
def aqJ {mp:bJ}{e:Int}(hm:cR mp)(he:0<=e):yw (OH mp e) (agG mp):=by
 have hc:=e_ hm.w hm.h;have hv:∀q∈(agG mp).ps,q=LS:=λq hq=>(List.mem_replicate.1 hq).2;have u0:Ta.U 0:=by unfold Ta.U;omega
 refine⟨?_,⟨by show(0:Int)<=e+1;omega,λq hq=>?_⟩,λe'=>?_,λi q hq hv'=>?_,u0⟩
 ·show((List.replicate _ _).length:Int)=dy mp.w mp.h;grind
 ·rw[hv q hq];show(0:Int)<=e+1;omega
 ·have e':(0:Int)=e+1:=e';omega
 ·rw[hv q (List.mem_of_getElem? hq)]at hv';have hi:=(List.getElem?_eq_some_iff.1 hq).1;have hi:i<(List.replicate (dy mp.w mp.h).toNat LS).length:=hi;have e1:gi (OH mp e).vs i=e+1:=by show(List.replicate (dy mp.w mp.h).toNat (e+1)).getD i 0=e+1;grind
  rw[e1]at hv';have hv':(0:Int)=e+1:=hv';omega
section
variable {F:Nat->Prop}{W w w0:World}{L:List As}{r:Ap}{y:gw}{mp:bJ}{a:Option Addr}{n c:Nat}
def al8 (h:GS y):0<=epO y.o:=by
 unfold epO;cases hy:y.o with
 |none=>grind
 |some m=>have:=(h.m m hy).g.ep;grind
noncomputable abbrev arW (p sp:Nat)(v0 v1 v2:Value)(q:Dr):As:=av p 106 [v0,v1,v2,.pointer (sZ sp),.int .u64 q.a,.int .u64 q.b,.int .u64 q.c,.int .u64 q.d,.int .u64 q.e,.int .u64 q.f]
def gpO (r:Ap)(o:Option j8):Option Addr:=match o with
 |some _=>sZ r.gr.p
 |none=>none
def as_ (s:Sep F W w (ik r y::L)):∃v1 v2,Sep F W w (arW r.p r.sh.p (.pointer (gpO r y.o)) v1 v2 y.past::jV r.sh y.k y.x::(IC r y.o++L)):=by
 obtain⟨hok,so⟩:=Cs s;have so:Sep F W w (av r.p 106 (GR r y)::jV r.sh y.k y.x::(IC r y.o++L)):=so;unfold GR at so;cases hy:y.o with
 |none=>
  rw[hy]at so;exact⟨_,_,so⟩
 |some m=>
  rw[hy]at so;exact⟨_,_,so⟩
def aoL {Q:Int->World->Prop}{A B:As}(hok:GS y)(s:Sep F W w (A::B::(IC r y.o++L)))(h:Q (epO y.o) w):f_ (gpO r y.o) w Q:=by
 cases hy:y.o with
 |none=>
  rw[hy]at h;exact ZG h
 |some m=>
  rw[hy]at h s;have s:=s;exact qY (oN (ai (ai s))) h
def aee {Q:Int->World->Prop}(hm:cR mp)(hr:ee mp.cs)(oX:mp.w*mp.h<=1600)(hC:∀w',Sep F W w' L->Sl w' a n c 1 bu mp.cs)(he:epO y.o<1000000000)(s:Sep F W w (ik r y::L))
  (h:∀r' x' w',r'.p=r.p->x'.p=⟨[],[],y.x.b,y.x.h,y.x.st,y.x.ev⟩->Sep F W w' (ik r' ⟨y.k,x',some (al7 y.o mp),y.past.add (uF y)⟩::L)->Q 0 w'):BP (sZ r.p) mp.w mp.h a n c w Q:=by
 apply Vk;have hok:=(Cs s).1;have Yi:=al8 hok;have hu:=hok.past;have hn:=aoK hok;refine aN s λmb w s=>ld ?_;refine lI s 0 rfl (lI s 0 rfl (lS s 0 rfl ?_));refine Nh s (hC _ (ai (ai s))) λw s _=>?_;rw[(VO hr).2 hm,Bool.not_true,cond_false];apply ah;have s:=ay (iZ s);obtain⟨k1,k2,k3⟩:=Q7 s;refine aR (k3 0 _ rfl) (aR (k3 1 _ rfl) (aR (k3 2 _ rfl) (aR (k3 3 _ rfl) (aR (k3 4 _ rfl) (aR (k3 5 _ rfl) ?_)))));refine Ma s λw s _=>?_;obtain⟨q1,q2,q3⟩:=Q7 s;refine⟨q3 0 _ rfl,q3 1 _ rfl,q3 2 _ rfl,q3 3 _ rfl,q3 4 _ rfl,q3 5 _ rfl,?_⟩;refine Ta.GJ s ⟨⟨hu.a,hu.b,hu.c,hu.d,hu.e,hu.f⟩,hn.a,hn.b,hn.c,hn.d,hn.e,hn.f⟩ λw s=>?_;obtain⟨v1,v2,s⟩:=as_ s;apply ah;refine sT s 0 rfl λw s=>?_;refine sT s 0 rfl λw s=>?_;refine sT s 0 rfl λw s=>?_;refine sT s 0 rfl λw s=>?_;refine sT s 0 rfl λw s=>?_;refine ax s (i:=0) rfl rfl rfl λw s=>?_;have s:=cg s (L':=av mb 25 [ae mp.w,ae mp.h,.slice a n c]::arW r.p r.sh.p (.pointer (gpO r y.o)) v1 v2 (y.past.add (uF y))::jV r.sh y.k y.x::(IC r y.o++L)) (List.perm_middle (l₁:=_::_::IC r y.o));have s:=ay s;refine lI s 0 rfl (lI s 0 rfl (lS s 0 rfl ?_));refine ah (lP s 1 rfl ?_);apply aoL hok (ai s);refine⟨cj s 0 rfl,cj s 0 rfl,cj s 0 rfl,?_⟩;have s:=gF (ai s) (.cons_cons _ (.cons_cons _ (List.sublist_append_right _ _)));refine adE s (hC _ (ai (ai s))) hr (by omega) (λe=>(e hm).elim) λ_ gr w s _=>?_;refine ah (ax s (i:=1) rfl rfl rfl λw s=>?_);refine ah (lP s 1 rfl ?_);refine adU s (oN s) λmr w s _=>?_;refine ah (ax s (i:=2) rfl rfl rfl λw s=>?_);have s:=ay s;refine ah (lP s 2 rfl (ah (lP s 2 rfl ?_)));refine ab5 s λfp w s _=>?_;refine ah (ax s (i:=3) rfl rfl rfl λw s=>?_);refine ah (lP s 3 rfl ?_);have s:=pk 5 [4,3,2,1,0] s;refine OM hok.sh.one s λsr w e s=>?_;rw[<-e]at s;have s:=pk 5 [1,0,2,3,4] s;refine h ⟨r.p,sr,gr,mr,fp⟩ ⟨[],[],y.x.b,y.x.h,y.x.st,y.x.ev⟩ w rfl rfl (Ky s ⟨?_,Wz.add hu hn,λm' e=>?_⟩)
 ·exact⟨hok.sh.one,hok.sh.room,Lr.LU (k:=y.k) (by have:=hok.sh.one;omega),rfl,hok.sh.b,hok.sh.h,hok.sh.st,hok.sh.ev,λq hq=>by cases hq⟩
 ·cases e;have u0:Ta.U 0:=by unfold Ta.U;omega
  exact⟨akr hm (by omega),aqJ hm Yi,⟨(λq e=>by cases e),u0⟩,oX,afj⟩
end
section
variable {m:bJ}{t sc l:Int}
noncomputable def qL (m:bJ)(t sc:Int):List bj:=Nn (E2 m (D m t) t sc)
noncomputable def DQ (m:bJ)(t sc:Int):List Int:=ju (aD m.w m.h sc) (bz m.w m.h sc) (dU m sc) (qL m t sc)
noncomputable def Aq (m:bJ)(t sc:Int):List Int:=nQ (aD m.w m.h sc) (bz m.w m.h sc) (dU m sc) (qL m t sc)
def SU (xs:List bj):(Nn xs).Perm xs:=List.mergeSort_perm _ _
def WC (x:bj):x∈qL m t sc↔x∈E2 m (D m t) t sc:=(SU _).mem_iff
def OP (hs:dX m.w m.h sc):(qL m t sc).Nodup:=(SU _).nodup_iff.2 (Wm hs).1
def aoM (hs:dX m.w m.h sc):(qL m t sc).length<=1025:=by rw[qL,(SU _).length_eq];exact(Wm hs).2
def aad (hm:cR m)(hs:dX m.w m.h sc)(ht:bK m.w m.h t):rR (aD m.w m.h sc) (bz m.w m.h sc) (dU m sc) (qL m t sc)=true:=by rw[rR,Bool.and_eq_true];exact⟨(QN hm hs).DL,List.all_eq_true.2 λx hx=>aui hm hs ht ((WC x).1 hx)⟩
def arX (hm:cR m)(hs:dX m.w m.h sc)(ht:bK m.w m.h t)(hl:0<=l/\l<aD m.w m.h sc*bz m.w m.h sc):gi (DQ m t sc) l.toNat=D m t (bU m.w m.h sc l):=by have hlen:=Ck (m:=m) (sc:=sc);rw[DQ,akC ⟨hl.1,by omega⟩];exact aug hm hs ht WC hl
def arY (hm:cR m)(hs:dX m.w m.h sc)(ht:bK m.w m.h t)(hl:0<=l/\l<aD m.w m.h sc*bz m.w m.h sc):gi (Aq m t sc) l.toNat=sW m t (bU m.w m.h sc l):=by have hlen:=Ck (m:=m) (sc:=sc);unfold Aq nQ gi;rw[List.getD_eq_getElem?_getD,List.getElem?_map,List.getElem?_range (by omega)];show ZJ _ _ _ _ _ ((l.toNat:Nat):Int)=_;rw[Int.toNat_of_nonneg hl.1];refine dir_eq hm hs ht WC (λl' hl'=>?_) hl;rw[fD,if_pos ⟨hl'.1,by show l'<((ju _ _ _ _).length:Int);rw[ZR];omega⟩];exact arX hm hs ht hl'
end
structure uG where
 g:gW
 Ct:List Int
 clean:Int
 fH:Int
 kept:Option (Int×Int)
 fc:Int
def j8.p (m:j8):uG:=⟨m.g,m.ms.ps.map (·.e9),m.ms.clean,m.ms.fH,NH m.f,m.f.fH⟩
structure nk where
 k:Int
 sh:QZ
 o:Option uG
 past:Dr
def gw.p (y:gw):nk:=⟨y.k,y.x.p,y.o.map j8.p,y.past⟩
def Cu (g:gW)(Ct:List Int):Nat:=((List.range Ct.length).filter λi=>gi Ct i !=gi g.vs i).length
noncomputable def Cv (q:nk)(m:uG)(t sc:Int):nk:=⟨q.k,nR q.k q.sh (t,sc) ⟨wG m.g sc,qL m.g.m t sc,DQ m.g.m t sc,Aq m.g.m t sc⟩,some ⟨m.g,m.g.vs,m.g.ep,LP (Cu m.g m.Ct) m.fH,some (t,m.g.ep),if m.kept=some (t,m.g.ep)then m.fc else Ta.sat m.fc 1⟩,q.past⟩
def aqK {g:gW}{x:nD}:Cu g (x.ps.map (·.e9))=(kB g x x.ps.length).length:=by unfold Cu kB;rw[List.length_map];refine congrArg List.length (List.filter_congr λi hi=>?_);unfold SF gi;grind
def al9 {g:gW}{x:nD}(hg:xw g)(I:yw g x)(hf:Nx g x):x.ps.map (·.e9)=g.vs:=by
 have h1:=I.len;have h2:=hg.len;refine List.ext_getElem? λi=>?_;rw[List.getElem?_map];by_cases hi:i<x.ps.length
 ·have e1:=List.getElem?_eq_getElem hi;have e2:g.vs[i]? =some g.vs[i]:=List.getElem?_eq_getElem (by omega);have:=hf i _ e1;rw[e1,e2];show some x.ps[i].e9=_;rw[this];unfold gi;grind
 grind
section
variable {W w w0:World}{L:List As}{r:Ap}{y:gw}{lg:xD}{t sc:Int}
def aiO {Q:Option Addr->Nat->Nat->Option Addr->Nat->Nat->Value->World->Prop}{fb:Nat}(hL:jq W lg)(s:Sep No W w (av fb 213 [.slice none 0 0,.slice none 0 0]::L))
  (h:∀eb w',Sep No W w' (av eb 275 [ae t,.iface 401 (.pointer (some lg.a3))]::L)->Q none 0 0 none 0 0 (.iface 273 (.pointer (sZ eb))) w'):tB Q t (aZ fb) w:=by
 have s:=ay s;have v3:∀{w L},Sep No W w L->w.cell? (aZ 3)=some (.iface 401 (.pointer (some lg.a3))):=λs=>Fr.cell (au s) hL.v3 id;apply mG (v3 s) rfl;constructor
 ·refine aN s λeb w s=>?_;refine sT s 1 rfl λw s=>?_;refine ax s (i:=1) rfl rfl rfl λw s=>?_;refine⟨v3 s,?_⟩;refine lS s 1 rfl (lS s 1 rfl ?_);exact h eb w (gF s (.cons_cons _ (.cons _ (List.Sublist.refl _))))
 ·refine sT s 0 rfl λw s=>?_;refine ax s (i:=0) rfl rfl rfl λw s=>?_;refine⟨v3 s,?_⟩;refine aN s λeb w s=>?_;refine lS s 1 rfl (lS s 1 rfl ?_);exact h eb w (gF s (.cons_cons _ (.cons _ (List.Sublist.refl _))))
def aqL {Q:Option Addr->Nat->Nat->Option Addr->Nat->Nat->Value->World->Prop}{b6 f:Nat}{da ra:Option Addr}{dn dc rn rc:Nat}{A:List As}{v1 v2:Value}(s:Sep No W w (av f 213 [.slice da dn dc,.slice ra rn rc]::av b6 213 [v1,v2]::L))
  (h:∀w',Sep No W w' L->Q da dn dc ra rn rc .nilIface w'):jF Q t (aZ b6) (aZ f) 0 w:=by
 unfold jF;refine lS s 0 rfl (lS s 0 rfl ?_);refine sT s 1 rfl λw s=>?_;refine ax s (i:=1) rfl rfl rfl λw s=>?_;refine lS s 1 rfl (lS s 1 rfl ?_);exact h w (ai (ai s))
end
section
variable {W w w0:World}{L:List As}{r:Ap}{y:gw}{lg:xD}{t sc:Int}
def aBv:zc T 84=[ae 0,ae 0,.slice none 0 0]:=rfl
noncomputable abbrev al_ (r:Ap)(m:j8)(past:Dr)(ms:nD)(f:GM)(tb p6:Nat)(ta:Option Addr)(tn tc:Nat)(sa:Option Addr)(sn sk:Nat)(t sc:Int)(L:List As):List As:=
 ak sa sn sk 294 3 (flat fT (qL m.g.m t sc))::ak ta tn tc 5 1 (flat bu (dU m.g.m sc))::av tb 84 [ae (aD m.g.m.w m.g.m.h sc),ae (bz m.g.m.w m.g.m.h sc),.slice ta tn tc]::av p6 213 [.slice none 0 0,.slice none 0 0]::aab r past::nV r.gr m.g::uA r.mr r.gr.p ms::uE r.fp r.mr.p r.gr.p f::L
def ata {Q:Option Addr->Nat->Nat->Option Addr->Nat->Nat->Value->World->Prop}{m:j8}{ms:nD}{f:GM}{tb p6 fb:Nat}{ta sa da ra:Option Addr}{tn tc sn sk n dc rc:Nat}{x':AP}{sr:Wo}{v1 v2:Value}(e:sr.p=r.sh.p)(hok:GS ⟨y.k,x',some ⟨m.g,ms,f⟩,y.past⟩)
  (s:Sep No W w (av fb 213 [v1,v2]::ak ra n rc 3 1 (flat one (Aq m.g.m t sc))::ak da n dc 3 1 (flat one (DQ m.g.m t sc))::jV sr y.k x'::al_ r m y.past ms f tb p6 ta tn tc sa sn sk t sc L))
  (uD:∀r' w',r'.p=r.p->Sep No W w' (ak ra n rc 3 1 (flat one (Aq m.g.m t sc))::ak da n dc 3 1 (flat one (DQ m.g.m t sc))::ik r' ⟨y.k,x',some ⟨m.g,ms,f⟩,y.past⟩::L)->Q da n dc ra n rc .nilIface w'):
  St ((aZ fb).add 0) (.slice da n dc) w λw=>St ((aZ fb).add 1) (.slice ra n rc) w λw=>jF Q t (aZ p6) (aZ fb) 0 w:=by
 refine sT s 0 rfl λw s=>?_;refine ax s (i:=0) rfl rfl rfl λw s=>?_;have s:=gf (A:=[_,_,_,_,_,_,_,_,_,_,_,_]) (B:=[_,_,_,_,_,_,_,_,_]) [0,7,8,3,9,10,11,1,2] s rfl (by decide);refine aqL (A:=[]) s λw s=>?_;have s:Sep No W w (aab ⟨r.p,sr,r.gr,r.mr,r.fp⟩ y.past::jV sr y.k x'::nV r.gr m.g::uA r.mr r.gr.p ms::uE r.fp r.mr.p r.gr.p f::ak ra n rc 3 1 (flat one (Aq m.g.m t sc))::ak da n dc 3 1 (flat one (DQ m.g.m t sc))::L):=by unfold aab;simp_all
 have s:=Ky s hok;have s:=gf (A:=[_,_,_]) (B:=[_,_,_]) [1,2,0] s rfl (by decide);grind
attribute [local irreducible] tB jF yq in
theorem NM {Q:Option Addr->Nat->Nat->Option Addr->Nat->Nat->Value->World->Prop}{m:j8}(ho:y.o=some m)(hL:jq W lg)(s:Sep No W w (ik r y::L))(NN:Lr.Yr (t,sc))
  (GU:¬(bK m.g.m.w m.g.m.h t/\dX m.g.m.w m.g.m.h sc)->∀eb w',Sep No W w' (av eb 275 [ae t,.iface 401 (.pointer (some lg.a3))]::ik r y::L)->Q none 0 0 none 0 0 (.iface 273 (.pointer (sZ eb))) w')
  (uD:bK m.g.m.w m.g.m.h t->dX m.g.m.w m.g.m.h sc->∀r' y' da dc ra rc w',r'.p=r.p->y'.p=Cv y.p m.p t sc->Sep No W w' (ak ra (dU m.g.m sc).length rc 3 1 (flat one (Aq m.g.m t sc))::ak da (dU m.g.m sc).length dc 3 1 (flat one (DQ m.g.m t sc))::ik r' y'::L)->Q da (dU m.g.m sc).length dc ra (dU m.g.m sc).length rc .nilIface w'):
  vD (sZ r.p) t sc w Q:=by
 apply Us;refine aS s λp6 w s=>?_;have s:=iZ s;have k:=q8 s ho;have c0:=k.c0 (j:=0) rfl;refine ld (ah (dO c0 (ld (ah (dO c0 ?_)))));have hm:=(k.ok.m m ho);have hmay:=hm.g.may;refine Ng s k.g (λhs w s _=>?_) λhs ta tn tc w s _=>?_
 ·
  refine aS s λtb w s=>?_;refine sT s 0 rfl λw s=>?_;refine sT s 0 rfl λw s=>?_;refine sT s 0 rfl λw s=>?_;have s:=ai s;have k:=q8 s ho;have c0:=k.c0 (j:=0) rfl;refine ah (dO c0 (jn k.g ?_));have fin:=aiO hL (iZ s) λeb w s=>GU (λe=>hs e.2) eb w s;grind
 ·rw[ah5 hmay hs]at s;refine aS s λtb w s=>?_;refine sT s 0 rfl λw s=>?_;refine sT s 0 rfl λw s=>?_;refine ax s (i:=0) rfl rfl rfl λw s=>?_;have k:=q8 (ai (ai s)) ho;have c0:=k.c0 (j:=0) rfl;refine ah (dO c0 (jn k.g ?_));by_cases ht:bK m.g.m.w m.g.m.h t
  ·have vr:=LI hmay ht;rw[cQ (by omega),cond_false,Bool.not_true,cond_false];have s:=gf (A:=[_,_,_,_]) (B:=[_,_,_,_]) [2,0,1,3] s rfl (by decide);obtain⟨hok,s⟩:=NL ho s;have s:=ay s;refine ah (lP s 0 rfl (ah (lP s 0 rfl ?_)));have s:=gf (A:=[_,_,_,_,_,_,_,_]) (B:=[_,_,_,_,_,_,_,_]) [2,3,4,0,1,5,6,7] s rfl (by decide);refine X3 s hm.I hm.J ht hm.nP λms' rr ds w I' hf' x9 V7 hro s=>?_;refine⟨cj s 3 rfl,?_⟩;have kr:=afg (ai (ai s)) rfl;refine Wn s (oN s) kr hro ht hs λsa sn sk w s _=>?_;have s:=ay s;refine ah (lP s 4 rfl (ah (lP s 4 rfl ?_)));refine lI s 6 rfl (lI s 6 rfl (lS s 6 rfl ?_));have s:=gf (A:=[_,_,_,_,_,_,_,_,_]) (B:=[_,_,_,_,_,_,_,_,_]) [5,0,7,6,8,4,1,2,3] s rfl (by decide);generalize hf:(⟨some (rr,⟨t,m.g.ep,ds⟩),if NH m.f=some (t,m.g.ep)then m.f.fH else Ta.sat m.f.fH 1⟩:GM)=f' at s;have s:=s;have LG:(qL m.g.m t sc).length=sn:=(aO s (i:=1) rfl nC (by decide)).len;have BG:=aoM (t:=t) hs;have hu1:Ta.U f'.fH:=by
    rw[<-hf];split
    ·exact hm.J.u
    ·exact Ta.GI hm.J.u (by unfold Ta.U;omega)
   have J':ab4 m.g f':=by refine⟨λq e=>?_,hu1⟩;rw[<-hf]at e;cases e;exact⟨Int.le_refl _,λ_=>⟨ht,hro⟩⟩
   have ayk:wG m.g sc<=m.g.ep:=by
    unfold wG;split
    ·have hm1:gi m.g.vs sc.toNat∈m.g.vs:=by rw[gi,List.getD_eq_getElem?_getD,List.getElem?_eq_getElem (by omega)];exact List.getElem_mem _
     exact(hm.g.vs _ hm1).2
    ·have:=hm.g.ep;omega
   have hh:(Lr.kJ y.k y.x.l (t,sc)).1.2.1=true->∀q,y.x.p.es[(Lr.kJ y.k y.x.l (t,sc)).1.1.toNat]? =some q->q.e9=wG m.g sc->q.iQ=qL m.g.m t sc->q.ds=DQ m.g.m t sc/\q.rs=Aq m.g.m t sc:=λhd q hq hv he=>by obtain⟨_,_,h3⟩:=aiA hok.sh hm.right hd hq;have h4:=h3 hv;rw[he]at h4;exact h4
   have ayl:∀x':AP,x'.p=nR y.k y.x.p (t,sc) ⟨wG m.g sc,qL m.g.m t sc,DQ m.g.m t sc,Aq m.g.m t sc⟩->GS ⟨y.k,x',some ⟨m.g,ms',f'⟩,y.past⟩:=λx' ex=>by
    refine⟨?_,hok.past,λm' e=>?_⟩
    ·rw[ex];exact aqC hok.sh (by show(qL m.g.m t sc).length<2000;omega)
    ·cases e;refine⟨hm.g,I',J',hm.nP,?_⟩;rw[ex];exact aoC hok.sh hm.right ⟨ayk,hs,λ_=>⟨rfl,rfl⟩⟩
   have hp':∀x':AP,x'.p=nR y.k y.x.p (t,sc) ⟨wG m.g sc,qL m.g.m t sc,DQ m.g.m t sc,Aq m.g.m t sc⟩->(gw.mk y.k x' (some ⟨m.g,ms',f'⟩) y.past).p=Cv y.p m.p t sc:=λx' ex=>by unfold gw.p Cv;simp only[Option.map_some];rw[ex];unfold j8.p;rw[al9 hm.g I' hf',x9,V7,aqK,<-hf];rfl
   have cC:∀w',Sep No W w' (al_ r m y.past ms' f' tb p6 ta tn tc sa sn sk t sc L)->Sl w' ta tn tc 1 bu (dU m.g.m sc):=λw' s=>aO s (i:=1) rfl dJ (by decide);have cX:∀w',Sep No W w' (al_ r m y.past ms' f' tb p6 ta tn tc sa sn sk t sc L)->Sl w' sa sn sk 3 fT (qL m.g.m t sc):=λw' s=>aO s (i:=0) rfl nC (by decide);have done:∀{fb:Nat} {v1 v2:Value} {w:World} {sr:Wo} {x':AP} {da ra:Option Addr} {dc rc:Nat},sr.p=r.sh.p->x'.p=nR y.k y.x.p (t,sc) ⟨wG m.g sc,qL m.g.m t sc,DQ m.g.m t sc,Aq m.g.m t sc⟩->
     Sep No W w (av fb 213 [v1,v2]::ak ra (dU m.g.m sc).length rc 3 1 (flat one (Aq m.g.m t sc))::ak da (dU m.g.m sc).length dc 3 1 (flat one (DQ m.g.m t sc))::jV sr y.k x'::al_ r m y.past ms' f' tb p6 ta tn tc sa sn sk t sc L)->
     St ((aZ fb).add 0) (.slice da (dU m.g.m sc).length dc) w λw=>St ((aZ fb).add 1) (.slice ra (dU m.g.m sc).length rc) w λw=>jF Q t (aZ p6) (aZ fb) 0 w:=λ{fb v1 v2 w sr x' da ra dc rc} e ex s=>by
    refine ata e (ayl x' ex) s λr' w' er s=>?_;exact uD ht hs r' _ da dc ra rc w' er (hp' x' ex) s
   have d6:∀{w:World} {A B C D E G:As} {X:List As},Sep No W w (A::B::C::D::E::G::X)->Sep No W w X:=λs=>ai (ai (ai (ai (ai (ai s)))));refine⟨rQ (oN (d6 s)) ?_,?_⟩
   ·refine⟨cj s 3 rfl,cj s 3 rfl,cj s 3 rfl,cj s 5 rfl,?_,?_⟩
    ·refine Wr hok.sh (QN hmay hs) (aad hmay hs ht) (OP hs) (by omega) cC cX NN hh s λsr x' da dc ra rc w e ex s=>?_;refine aS s λfb w s=>?_;refine⟨cj s 6 rfl,cj s 6 rfl,cj s 6 rfl,cj s 8 rfl,cj s 8 rfl,?_⟩;exact done e ex s
    ·refine aS s λfb w s=>?_;refine⟨cj s 4 rfl,cj s 4 rfl,cj s 4 rfl,cj s 6 rfl,cj s 6 rfl,?_⟩;refine Wr hok.sh (QN hmay hs) (aad hmay hs ht) (OP hs) (by omega) (λw' s=>cC w' (ai s)) (λw' s=>cX w' (ai s)) NN hh (iZ s) λsr x' da dc ra rc w e ex s=>?_;exact done e ex (pk 4 [3,0,1,2] s)
   ·refine aS s λfb w s=>?_;refine⟨cj s 4 rfl,cj s 4 rfl,cj s 4 rfl,cj s 6 rfl,cj s 6 rfl,?_⟩;apply rQ (oN (d6 (ai s)));refine⟨cj s 4 rfl,cj s 4 rfl,cj s 4 rfl,cj s 6 rfl,?_⟩;refine Wr hok.sh (QN hmay hs) (aad hmay hs ht) (OP hs) (by omega) (λw' s=>cC w' (ai s)) (λw' s=>cX w' (ai s)) NN hh (iZ s) λsr x' da dc ra rc w e ex s=>?_;exact done e ex (pk 4 [3,0,1,2] s)
  ·rw[show cT m.g.m t=0 from by unfold cT;rw[if_neg λe=>ht ⟨hm.g.gz,e.1,by rw[<-hmay.len];exact e.2⟩]];exact aiO hL (gf (A:=[_,_,_,_]) (B:=[_,_]) [3,2] s rfl (by decide)) λeb w s=>GU (λe=>ht e.1) eb w s
end
end Go.Proofs.YtmegplnmiepfbaaGreatDoor.S
set_option maxRecDepth 20000
namespace Go.Proofs.YtmegplnmiepfbaaGreatDoor.S
open Go.Sx
attribute [local irreducible] af cA bw bg aA cq bY St Bx Al App cD cy cw bT aL bC aq bR av ak aV mapA
section
variable {W w w0:World}{L:List As}{r:Ap}{y:gw}{lg:xD}{t sc ce w1 h1:Int}
def Tt {Q:Int->World->Prop}(h:Q 0 w):yP .nilIface w Q:=Qk _ _ _ h
def aef {Q:Int->World->Prop}{eb:Nat}(hL:jq W lg)(s:Sep No W w (av eb 275 [ae t,.iface 401 (.pointer (some lg.a3))]::L))(h:Q 7 w):yP (.iface 273 (.pointer (sZ eb))) w Q:=by apply Qk;have k:=hL.fr (au s);have hc:=lj s (i:=0) rfl 1 _ rfl;refine tF (mG k.v2 rfl ?_);obtain⟨c2,t2,h2⟩:=k.b2;obtain⟨c3,t3,h3⟩:=k.b3;apply SR (.inr rfl) (.inl rfl) hc (λx y K hk=>ab9 (λe=>k.n23 e.symm) h3 h2 hk);apply mG k.v3 rfl;apply SR (.inr rfl) (.inl rfl) hc (λx y K hk=>Wt hk);exact h
def NO {Q:Option Addr->Nat->Nat->Option Addr->Nat->Nat->Int->World->Prop}{m:j8}(ho:y.o=some m)(hL:jq W lg)(s:Sep No W w (ik r y::L))(ht:bK m.g.m.w m.g.m.h t)(hs:dX m.g.m.w m.g.m.h sc)(NN:Lr.Yr (t,sc))
  (uD:∀r' y' da dc ra rc w',r'.p=r.p->y'.p=Cv y.p m.p t sc->Sep No W w' (ak ra (dU m.g.m sc).length rc 3 1 (flat one (Aq m.g.m t sc))::ak da (dU m.g.m sc).length dc 3 1 (flat one (DQ m.g.m t sc))::ik r' y'::L)->Q da (dU m.g.m sc).length dc ra (dU m.g.m sc).length rc 0 w'):
  vC (sZ r.p) t sc w Q:=by
 apply Uu;refine aS s λp6 w s=>?_;refine NM ho hL (iZ s) NN (λe=>(e ⟨ht,hs⟩).elim) λ_ _ r' y' da dc ra rc w er ey s=>?_;refine aS s λfb w s=>?_;refine sT s 0 rfl λw s=>?_;refine ax s (i:=0) rfl rfl rfl λw s=>?_;have s:=ay s;refine lS s 0 rfl (lS s 0 rfl ?_);apply Tt;refine⟨cj s 0 rfl,cj s 0 rfl,?_⟩;refine sT s 4 rfl λw s=>?_;refine ax s (i:=4) rfl rfl rfl λw s=>?_;refine lS s 4 rfl (lS s 4 rfl ?_);exact uD r' y' da dc ra rc w er ey (pk 5 [1,2,3] s)
def aoO (hm:gz w1 h1):iK (aC w1 h1 ce):=by
 have hc:=e_ hm.1 hm.2;unfold iK;by_cases h:bK w1 h1 ce
 ·have:=(bS h).2;omega
 ·unfold aC;grind
def ach {ys:List Int}{k:Nat}{x:Int}(h:ys[k]? =some x):x=gi ys k:=by unfold gi;grind
def aeg {Q:Int->Int->Value->World->Prop}{m:j8}(ho:y.o=some m)(hL:jq W lg)(s:Sep No W w (ik r y::L))(NN:(Lit.int .i64 t).wf=true)
  (GU:¬(bK m.g.m.w m.g.m.h t/\bK m.g.m.w m.g.m.h ce)->∀eb w',Sep No W w' (av eb 275 [ae t,.iface 401 (.pointer (some lg.a3))]::ik r y::L)->Q 0 0 (.iface 273 (.pointer (sZ eb))) w')
  (uD:bK m.g.m.w m.g.m.h t->bK m.g.m.w m.g.m.h ce->∀r' y' w',r'.p=r.p->y'.p=Cv y.p m.p t (cS m.g.m ce)->Sep No W w' (ik r' y'::L)->Q (D m.g.m t ce) (sW m.g.m t ce) .nilIface w'):
  BS (sZ r.p) t ce w Q:=by
 apply VI;have k:=q8 s ho;have hm:=k.ok.m m ho;have hmay:=hm.g.may;refine Q6 s k λw s _=>?_;refine eZ s λw s _=>?_;refine NM ho hL s ⟨NN,iK.wf (aoO hm.g.gz)⟩ (λe eb w s=>?_) λht hs r' y' da dc ra rc w er ey s=>?_
 ·refine aS s λfb w s=>?_;refine sT s 0 rfl λw s=>?_;refine sT s 0 rfl λw s=>?_;exact GU (λh=>e ⟨h.1,bS h.2⟩) eb w (ai s)
 ·have hc:bK m.g.m.w m.g.m.h ce:=by
   by_cases h:bK m.g.m.w m.g.m.h ce
   ·exact h
   ·unfold aC at hs;rw[if_neg h]at hs;have:=hs.2.1;omega
  have hlr:=jY hc;have hgl:=nT hc;have hlen:=Ck (m:=m.g.m) (sc:=aC m.g.m.w m.g.m.h ce);refine aS s λfb w s=>?_;refine sT s 0 rfl λw s=>?_;refine ax s (i:=0) rfl rfl rfl λw s=>?_;refine tC s λw s _=>?_;have s:=ay s;apply lS s 0 rfl;have kD:=aO s (i:=2) rfl cB (by decide);have kR:=aO s (i:=1) rfl cB (by decide);have hk:dY m.g.m.w m.g.m.h ce=((dY m.g.m.w m.g.m.h ce).toNat:Int):=by omega
  apply kD.rG hk (by omega);apply lS s 0 rfl;refine kR.El hk (by omega) λp x hx hcell=>?_;have h0:=hcell 0 _ rfl;refine aR h0 ⟨h0,cj s 0 rfl,?_⟩;have eD:=arX hmay hs ht hlr;have eR:=arY hmay hs ht hlr;rw[hgl]at eD eR;rw[ach hx,eD,eR];exact uD ht hc r' y' _ er ey (ai (ai (ai s)))
def aeh {Q:Int->Int->Int->World->Prop}{m:j8}(ho:y.o=some m)(hL:jq W lg)(s:Sep No W w (ik r y::L))(NN:(Lit.int .i64 t).wf=true)
  (GU:¬(bK m.g.m.w m.g.m.h t/\bK m.g.m.w m.g.m.h ce)->∀w',Sep No W w' (ik r y::L)->Q 0 0 7 w')
  (uD:bK m.g.m.w m.g.m.h t->bK m.g.m.w m.g.m.h ce->∀r' y' w',r'.p=r.p->y'.p=Cv y.p m.p t (cS m.g.m ce)->Sep No W w' (ik r' y'::L)->Q (D m.g.m t ce) (sW m.g.m t ce) 0 w'):
  BR (sZ r.p) t ce w Q:=by
 apply VJ;refine aeg ho hL s NN (λe eb w s=>?_) λht hc r' y' w er ey s=>?_
 ·exact aef hL s (GU e w (ai s))
 ·exact Tt (uD ht hc r' y' w er ey s)
end
def OQ (y:tE)(cell goal:Int):tE:=⟨y.most,y.next+1,y.us++[⟨y.next,cell,goal⟩]⟩
section
variable {F:Nat->Prop}{W w w0:World}{L:List As}{r:Wf}{y:tE}{cell goal:Int}
def aoP {us:List aU}{u:aU}{i:Int}(h:∀v∈us,v.id<u.id):gN (us++[u]) i=if i=u.id then some u else gN us i:=by unfold gN;grind
def aoQ {us:List aU}{i:Int}(h:∀v∈us,v.id≠i):gN us i=none:=by unfold gN;grind
def avc {r:Wf}{mb':Nat}{a:Option Addr}{n c:Nat}{ms':List (Int×aU)}(h:SJ r y)(hroom:(y.us.length:Int)<y.most)(hn:y.next<1000000000)(hk:oP ms')(ha:∀i,fA ms' i=if i=y.next then some ⟨y.next,cell,goal⟩else fA r.ms i)(hl:ms'.length=if(fA r.ms y.next).isNone then r.ms.length+1 else r.ms.length):
  SJ ⟨r.p,mb',a,n,c,ms',r.os++[y.next]⟩ (OQ y cell goal):=by
 have hlt:∀v∈y.us,v.id<y.next:=λv hv=>(h.jC v hv).2
 have hg:∀i,gN (OQ y cell goal).us i=if i=y.next then some ⟨y.next,cell,goal⟩else gN y.us i:=λi=>aoP hlt
 have hno:gN y.us y.next=none:=aoQ λv hv=>by grind
 refine⟨h.most,hk,λi=>?_,?_,?_,?_,?_,?_,?_,?_,?_⟩
 ·rw[hg,ha,h.fA]
 ·show ms'.length=(y.us++[_]).length;rw[hl,h.fA,hno,List.length_append,h.len];rfl
 ·show(r.os++[y.next]).filter _=(y.us++[_]).map _;rw[List.filter_append,List.map_append,<-h.ord];congr 1
  ·refine List.filter_congr λi hi=>?_;have:=(h.onx i hi).2;grind
  grind
 ·show(r.os++[_]).length<=2*(y.us++[_]).length;have:=h.aim;grind
 ·show((y.us++[_]).map _).Pairwise _;rw[List.map_append,List.pairwise_append];refine⟨h.Nu,by simp,λa ha b hb=>?_⟩;grind
 ·intro u hu;show 0<=u.id/\u.id<y.next+1
  rcases List.mem_append.1 hu with hu|hu
  ·have:=h.jC u hu;omega
  ·rw[List.mem_singleton]at hu;subst hu;have:=h.Jb;grind
 ·show((y.us++[_]).length:Int)<=y.most;grind
 ·intro i hi;show 0<=i/\i<y.next+1
  rcases List.mem_append.1 hi with hi|hi
  ·have:=h.onx i hi;omega
  ·rw[List.mem_singleton]at hi;have:=h.Jb;omega
 ·have:=h.Jb;show 0<=y.next+1/\y.next+1<=1000000000
  omega
def aci {Q:Int->Bool->World->Prop}(s:Sep F W w (v8 r y::L))(hn:y.next<1000000000)(hroom:(y.us.length:Int)<y.most)
  (h:∀r' w',r'.p=r.p->Sep F W w' (v8 r' (OQ y cell goal)::L)->Q y.next true w'):yN (sZ r.p) cell goal w Q:=by
 apply PR;obtain⟨hok,s⟩:=uQ (ay s);refine ld (ah (lM s 0 rfl (ah (lI s 0 rfl ?_))));apply aqs Kv s (i:=1) rfl;refine⟨cj s 0 rfl,?_⟩;rw[hok.len,bp];have Q8:=hok.Jb;refine ah (lI s 0 rfl (ah (lI s 0 rfl ?_)));rw[HA (iK.wf (by unfold iK;omega))];refine ah (sT s 0 rfl λw s=>?_);refine ah (lM s 0 rfl ?_);refine LY (ms:=r.ms) (a:=⟨y.next,cell,goal⟩) Kv s (i:=1) rfl hok.FH (by show iK y.next;unfold iK;omega) λms' w hk ha hl s=>?_;refine ah (lS s 0 rfl ?_);have s:=pk 3 [2,0,1] s;have hol:=hok.aim;have Xd:=hok.most;have Ch:=(aO s (i:=0) rfl cB (by decide)).len;refine Lx s (by omega) λa' c' w s=>?_;refine ah (ax s (i:=1) rfl rfl rfl λw s=>?_);refine h ⟨r.p,r.mb,a',r.on+1,c',ms',r.os++[y.next]⟩ w rfl (E6 ?_ (avc hok hroom hn hk ha hl));exact pk 3 [1,2,0] s
end
def vS (y:tE)(id:Int)(f:aU->aU):tE:=⟨y.most,y.next,y.us.map λv=>if v.id=id then f v else v⟩
section
variable {F:Nat->Prop}{W w w0:World}{L:List As}{r:Wf}{y:tE}{cell goal id:Int}{f:aU->aU}
def afm (hf:∀u,(f u).id=u.id){i:Int}:∀{us:List aU},gN (us.map λv=>if v.id=id then f v else v) i=if i=id then(gN us id).map f else gN us i
 |[]=>by simp[gN]
 |u::us=>by have ih:=afm (i:=i) hf (us:=us);unfold gN at ih⊢;grind
def aqM (hf:∀u,(f u).id=u.id){us:List aU}:(us.map λv=>if v.id=id then f v else v).map (·.id)=us.map (·.id):=by rw[List.map_map];refine List.map_congr_left λv _=>?_;grind
def atb {u:aU}{ms':List (Int×aU)}(h:SJ r y)(hf:∀u,(f u).id=u.id)(hu:gN y.us id=some u)(hk:oP ms')(ha:∀i,fA ms' i=if i=id then some (f u)else fA r.ms i)(hl:ms'.length=if(fA r.ms id).isNone then r.ms.length+1 else r.ms.length):
  SJ ⟨r.p,r.mb,r.oa,r.on,r.oc,ms',r.os⟩ (vS y id f):=by
 have hg:∀i,gN (vS y id f).us i=if i=id then(gN y.us id).map f else gN y.us i:=λi=>afm hf
 have JP:(vS y id f).us.map (·.id)=y.us.map (·.id):=aqM hf;have hlen:(vS y id f).us.length=y.us.length:=by have:=congrArg List.length JP;grind
 refine⟨h.most,hk,λi=>?_,?_,?_,?_,?_,?_,?_,h.onx,h.Jb⟩
 ·rw[hg,ha,h.fA,hu];rfl
 ·rw[hlen,hl,h.fA,hu,<-h.len];rfl
 ·rw[JP,<-h.ord];grind
 ·rw[hlen];exact h.aim
 ·rw[JP];exact h.Nu
 ·intro v hv;have hm:v.id∈(vS y id f).us.map (·.id):=List.mem_map.2 ⟨v,hv,rfl⟩;rw[JP]at hm;obtain⟨v',hv',e⟩:=List.mem_map.1 hm;rw[<-e];exact h.jC v' hv'
 ·rw[hlen];exact h.nP
def NP {Q:Bool->World->Prop}{WD:Value}(zL:iK id)(hf:∀u,(f u).id=u.id)
  (av_:∀(x:Nat) (w:World) (u:aU) (K:World->Prop),Sep F W w (av x 43 (iC u)::v8 r y::L)->(∀w',Sep F W w' (av x 43 (iC (f u))::v8 r y::L)->K w')->iv (cx 25) WD [.pointer (sZ x)] w λv w'=>dT v λl=>kL l (K w'))
  (s:Sep F W w (v8 r y::L))(hno:gN y.us id=none->∀w',Sep F W w' (v8 r y::L)->Q false w')
  (hyes:(gN y.us id).isSome=true->∀r' w',r'.p=r.p->Sep F W w' (v8 r' (vS y id f)::L)->Q true w'):r9 (sZ r.p) id WD w Q:=by
 apply PX;refine sF s zL (λhn w s=>?_) λu hu w s=>?_
 ·refine aS s λx w s=>?_;refine sT s 0 rfl λw s=>?_;refine sT s 0 rfl λw s=>?_;refine sT s 0 rfl λw s=>?_;exact hno hn w (ai s)
 ·refine aS s λx w s=>?_;refine sT s 0 rfl λw s=>?_;refine sT s 0 rfl λw s=>?_;refine ax s (i:=0) rfl rfl rfl λw s=>?_;refine av_ x w u _ s λw s=>?_;have s:=ay s;obtain⟨hok,s⟩:=uQ (iZ s);refine ah (lM s 0 rfl ?_);refine lI s 3 rfl (lI s 3 rfl (lI s 3 rfl ?_));refine LY Kv s (i:=1) rfl hok.FH zL λms' w hk ha hl s=>?_;refine hyes (by rw[hu];rfl) ⟨r.p,r.mb,r.oa,r.on,r.oc,ms',r.os⟩ w rfl (E6 ?_ (atb hok hf hu hk ha hl));exact pk 4 [0,1,2] s
def az5:oT 156 fns=true:=by kernel_rfl
def az6:oT 128 fns=true:=by kernel_rfl
def ama {m x b:Nat}{Q:World->Prop}(h:BT (sZ x) (sZ b) w Q):iv (cx m) (.func (.func 156) #[] #[.pointer (sZ b)]) [.pointer (sZ x)] w λv w'=>dT v λl=>kL l (Q w'):=by unfold iv;simp only;exact h
def aoR {m x b:Nat}{Q:World->Prop}(h:Df (sZ x) (sZ b) w Q):iv (cx m) (.func (.func 128) #[] #[.pointer (sZ b)]) [.pointer (sZ x)] w λv w'=>dT v λl=>kL l (Q w'):=by unfold iv;simp only;exact h
def aae {Q:Bool->World->Prop}(zL:iK id)(s:Sep F W w (v8 r y::L))(hno:gN y.us id=none->∀w',Sep F W w' (v8 r y::L)->Q false w')
  (hyes:(gN y.us id).isSome=true->∀r' w',r'.p=r.p->Sep F W w' (v8 r' (vS y id λu=>⟨u.id,cell,u.goal⟩)::L)->Q true w'):xP (sZ r.p) id cell w Q:=by
 apply OB;refine aN s λcb w s=>?_;refine NP (f:=λu=>⟨u.id,cell,u.goal⟩) zL (λu=>rfl) (λx w u K s hK=>?_) (iZ s) (λhn w s=>hno hn w (gF s (.cons_cons _ (List.sublist_cons_self _ _)))) (λhs r' w e s=>hyes hs r' w e (gF s (.cons_cons _ (List.sublist_cons_self _ _))));apply ama;apply Lt;refine ah (lI s 2 rfl (ah (sT s 0 rfl λw s=>?_)));exact hK w s
def acj {Q:Bool->World->Prop}(zL:iK id)(s:Sep F W w (v8 r y::L))(hno:gN y.us id=none->∀w',Sep F W w' (v8 r y::L)->Q false w')
  (hyes:(gN y.us id).isSome=true->∀r' w',r'.p=r.p->Sep F W w' (v8 r' (vS y id λu=>⟨u.id,u.cell,goal⟩)::L)->Q true w'):yM (sZ r.p) id goal w Q:=by
 apply PY;refine aN s λcb w s=>?_;refine NP (f:=λu=>⟨u.id,u.cell,goal⟩) zL (λu=>rfl) (λx w u K s hK=>?_) (iZ s) (λhn w s=>hno hn w (gF s (.cons_cons _ (List.sublist_cons_self _ _)))) (λhs r' w e s=>hyes hs r' w e (gF s (.cons_cons _ (List.sublist_cons_self _ _))));apply aoR;apply MA;refine ah (lI s 2 rfl (ah (sT s 0 rfl λw s=>?_)));exact hK w s
end
section
variable {F:Nat->Prop}{W w w0:World}{L:List As}{r:Wf}{y:tE}{cell goal id:Int}{a:Option Addr}{n c:Nat}{us:List aU}
def aqN {x:aU}{K:Option Addr->Nat->Nat->World->Prop}(s:Sep F W w (ak a n c 43 3 (flat iC us)::L))(hn:n<=1000000000)
  (k:∀a' c' w',Sep F W w' (ak a' (n+1) c' 43 3 (flat iC (us++[x]))::L)->K a' (n+1) c' w'):Bx [ae x.id,ae x.cell,ae x.goal] 43 w λp w1=>App P #[39,39] 39 (.slice a n c) (.slice (some p) 1 1) w1 K:=by
 refine aN s λb w s=>?_;have src:Src w (sZ b) 1 3 (iC x):=⟨rfl,aoj x,λj u hj=>by rw[cm,Nat.zero_add];exact cK s (i:=0) rfl rfl hj⟩;refine iw ef s (i:=1) (bytes:=24) rfl rfl rfl rfl rfl rfl (by decide) rfl src (by simp[maxLen];omega) (by omega) (λe=>by cases e) λa1 c1 w1 s1=>?_;have e:flat iC us++iC x=flat iC (us++[x]):=by rw[fZ];simp[flat]
 rw[e]at s1;exact k _ _ _ (ai s1)
def Xe (h:(us.map (·.id)).Pairwise (·<·)){i:Nat}{u:aU}(hu:us[i]? =some u):gN us u.id=some u:=by
 unfold gN;induction us generalizing i with
 |nil=>simp at hu
 |cons v us ih=>
  rw[List.map_cons,List.pairwise_cons]at h;cases i with
  |zero=>
   grind
  |succ i=>
   have:=h.1 u.id (List.mem_map.2 ⟨u,List.mem_of_getElem? hu,rfl⟩);grind
def ack {Q:Option Addr->Nat->Nat->World->Prop}(s:Sep F W w (v8 r y::L))(h:∀a n c w',Sep F W w' (ak a n c 43 3 (flat iC y.us)::v8 r y::L)->Q a n c w'):yJ (sZ r.p) w Q:=by
 apply Ql;obtain⟨hok,s⟩:=uQ s;have oX:=hok.nP;have Xd:=hok.most;have hol:=hok.aim;have Q8:=hok.Jb;apply ld;refine Yt hok.FH (λi hi=>by have:=hok.onx i hi;unfold iK;omega) (by omega) s λia N ic w s=>?_;have ayo:(r.os.filter λi=>(fA r.ms i).isSome)=y.us.map (·.id):=by rw[<-hok.ord];refine List.filter_congr λi _=>?_;rw[hok.fA]
 rw[ayo]at s;have hN:y.us.length=N:=by have:=(aO s (i:=0) rfl cB (by decide)).len;grind
 have loop:∀(j i:Nat) (a:Option Addr) (n c:Nat) (w:World),i+j=N->Sep F W w (ak a n c 43 3 (flat iC (y.us.take i))::ak ia N ic 3 1 (flat one (y.us.map (·.id)))::av r.p 171 (Wg r y)::fQ fu Iz r.mb r.ms::ak r.oa r.on r.oc 3 1 (flat one r.os)::L)->
   vO Q (j+1) (sZ r.p) a n c ia N ic (N:Int) i w:=by
  intro j;induction j with
  |zero=>
   intro i a n c w hij s;show qJ _ _ _ _ _ _ _ _ _ _ _ _;rw[qJ,bp];rw[List.take_of_length_le (by omega)]at s;apply h a n c w;have s:=pk 5 [2,3,4,0] s;exact cg (E6 s hok) (List.Perm.swap _ _ _)
  |succ j ih=>
   intro i a n c w hij s;show qJ _ _ _ _ _ _ _ _ _ _ _ _;rw[qJ,bN];have hi:i<y.us.length:=by omega
   have hn:=(aO s (i:=0) rfl FI (by decide)).len;rw[List.length_take]at hn;obtain⟨u,hu⟩:∃u,y.us[i]? =some u:=⟨_,List.getElem?_eq_getElem hi⟩;have hgi:gi (y.us.map (·.id)) i=u.id:=by unfold gi;grind
   have yc:y.us.take (i+1)=y.us.take i++[u]:=by rw[List.take_add_one,hu];rfl
   have hr:=hok.jC u (List.mem_of_getElem? hu);have hgu:=Xe hok.Nu hu;have wr:IntKind.wrap .i64 ((i:Int)+1)=((i+1:Nat):Int):=by rw[HA (iK.wf (by unfold iK;omega))];omega
   apply(aO s (i:=1) rfl cB (by decide)).rG rfl (by omega);rw[hgi];refine ah (lM s 2 rfl ?_);refine Ez (K:=fu) Kv (Z5 w) s (i:=3) rfl hok.FH (by show iK u.id;unfold iK;omega) (λh=>?_) λv hv=>?_
   ·rw[hok.fA,hgu]at h;cases h
   ·rw[hok.fA,hgu]at hv;cases hv;refine aqN s (by omega) λa' c' w s=>?_;grind
 exact⟨N+1,loop N 0 none 0 0 w (by omega) (bD s 43 3)⟩
end
def kY (y:tE)(id:Int):tE:=⟨y.most,y.next,y.us.filter λv=>!decide (v.id=id)⟩
section
variable {F:Nat->Prop}{W w w0:World}{L:List As}{r:Wf}{y:tE}{id:Int}
def aoS {us:List aU}{i:Int}:gN (us.filter λv=>!decide (v.id=id)) i=if i=id then none else gN us i:=by unfold gN;grind
def aqO {us:List aU}:(us.filter λv=>!decide (v.id=id)).map (·.id)=(us.map (·.id)).filter λi=>!decide (i=id):=by rw[List.filter_map];rfl
def aaf {us:List aU}(h:(us.map (·.id)).Pairwise (·<·))(hu:(gN us id).isSome=true):(us.filter λv=>!decide (v.id=id)).length=us.length-1:=by
 unfold gN at hu;induction us with
 |nil=>simp at hu
 |cons u us ih=>
  rw[List.map_cons,List.pairwise_cons]at h;by_cases e:u.id=id
  ·rw[List.filter_cons_of_neg (by simp[e]),List.length_cons,Nat.add_sub_cancel];refine congrArg List.length (List.filter_eq_self.2 λv hv=>?_);have:=h.1 v.id (List.mem_map.2 ⟨v,hv,rfl⟩);grind
  grind
def akS {ms':List (Int×aU)}{oa:Option Addr}{on oc:Nat}{os':List Int}(h:SJ r y)(hu:(gN y.us id).isSome=true)(hk:oP ms')(ha:∀i,fA ms' i=if i=id then none else fA r.ms i)(hl:ms'.length=if(fA r.ms id).isNone then r.ms.length else r.ms.length-1)
  (hos:(os'=r.os/\os'.length<=2*(kY y id).us.length)\/os'=r.os.filter λi=>(fA ms' i).isSome):SJ ⟨r.p,r.mb,oa,on,oc,ms',os'⟩ (kY y id):=by
 have hg:∀i,gN (kY y id).us i=if i=id then none else gN y.us i:=λi=>aoS
 have JP:(kY y id).us.map (·.id)=(y.us.map (·.id)).filter λi=>!decide (i=id):=aqO;have hlen:(kY y id).us.length=y.us.length-1:=aaf h.Nu hu;have hsub:∀v∈(kY y id).us,v∈y.us:=λv hv=>(List.mem_filter.1 hv).1;have Wb:∀i,fA ms' i=gN (kY y id).us i:=λi=>by rw[hg,ha,h.fA]
 have ayp:((kY y id).us.map (·.id)).Pairwise (·<·):=by rw[JP];exact h.Nu.filter _
 have aBz:r.os.filter (λi=>(gN (kY y id).us i).isSome)=(kY y id).us.map (·.id):=by rw[JP,<-h.ord,List.filter_filter];grind
 have NQ:os'=r.os/\os'.length<=2*(kY y id).us.length\/os'=(kY y id).us.map (·.id):=by grind
 refine⟨h.most,hk,Wb,?_,?_,?_,ayp,λv hv=>h.jC v (hsub v hv),?_,λi hi=>?_,h.Jb⟩
 ·rw[hlen,hl,h.fA,<-h.len];cases hu':gN y.us id with
  |none=>grind
  |some _=>rfl
 ·rcases NQ with⟨e,_⟩|e
  ·grind
  ·rw[e];refine List.filter_eq_self.2 λi hi=>?_;grind
 ·grind
 ·have:=h.nP;show((kY y id).us.length:Int)<=y.most;omega
 ·rcases NQ with⟨e,_⟩|e
  ·rw[e]at hi;exact h.onx i hi
  ·rw[e]at hi;obtain⟨v,hv,rfl⟩:=List.mem_map.1 hi;exact h.jC v (hsub v hv)
def aag {Q:Bool->World->Prop}(zL:iK id)(s:Sep F W w (v8 r y::L))(hu:(gN y.us id).isSome=true)
  (hyes:∀r' w',r'.p=r.p->Sep F W w' (v8 r' (kY y id)::L)->Q true w'):xO (sZ r.p) id w Q:=by
 apply Oi;refine sF s zL (λhn w s=>by grind) λu hu' w s=>?_;refine aS s λx w s=>?_;refine sT s 0 rfl λw s=>?_;refine sT s 0 rfl λw s=>?_;refine sT s 0 rfl λw s=>?_;rw[Bool.not_true,cond_false];obtain⟨hok,s⟩:=uQ (ai s);have oX:=hok.nP;have Xd:=hok.most;have hol:=hok.aim;have Q8:=hok.Jb;have Ch:=(aO s (i:=2) rfl cB (by decide)).len;refine ah (lM s 0 rfl ?_);refine auS (K:=fu) Kv s (i:=1) rfl hok.FH zL λms' w hk ha hl s=>?_;have s:=ay s;have hml:ms'.length=(kY y id).us.length:=by rw[hl,hok.fA,hu',hok.len];exact(aaf hok.Nu hu).symm
 have hdl:(kY y id).us.length=y.us.length-1:=aaf hok.Nu hu;refine ah (lS s 0 rfl (ah (lM s 0 rfl ?_)));apply aqs Kv s (i:=1) rfl;refine⟨cj s 0 rfl,?_⟩;rw[HA (iK.wf (by unfold iK;omega))];by_cases ag6:(r.on:Int)>2*((ms'.length:Nat):Int)
 ·rw[bN ag6];refine Yt hk (λi hi=>by have:=hok.onx i hi;unfold iK;omega) (by omega) s λa n c w s=>?_;refine ah (ax s (i:=1) rfl rfl rfl λw s=>?_);refine hyes ⟨r.p,r.mb,a,n,c,ms',_⟩ w rfl (E6 ?_ (akS hok hu hk ha hl (.inr rfl)));exact pk 4 [1,2,0] s
 ·rw[bp ag6];exact hyes ⟨r.p,r.mb,r.oa,r.on,r.oc,ms',r.os⟩ _ rfl (E6 s (akS hok hu hk ha hl (.inl ⟨rfl,by omega⟩)))
end
def EC (out:List Int)(u:aU):List Int:=if u.goal∈out then out else out++[u.goal]
def tG (us:List aU):List Int:=us.foldl EC []
def aoT {us:List aU}:(tG us).length<=us.length:=by
 have:∀(us:List aU) (out:List Int),(us.foldl EC out).length<=out.length+us.length:=by
  intro us;induction us with
  |nil=>grind
  |cons u us ih=>
   intro out;have h2:(EC out u).length<=out.length+1:=by unfold EC;grind
   grind
 have:=this us [];simpa[tG]using this
def C7 (b:Bool):Value:=.bool b
def OR:P.underlying 258=some (.map 3 4):=by kernel_rfl
def aah (w:World):(zeroValue 4).run P w=.ok (C7 false) w:=by kernel_rfl
section
variable {F:Nat->Prop}{W w w0:World}{L:List As}{la:Option Addr}{ln lc:Nat}{us:List aU}
def aai {Q:Option Addr->Nat->Nat->World->Prop}(s0:Sep F W w0 L)(hU:Sl w0 la ln lc 3 iC us)(p9:ln<=1000000)(zL:∀u∈us,iK u.goal)
  (h:∀a n c w',Sep F W w' (ak a n c 3 1 (flat one (tG us))::L)->Fr No w0 w'->Q a n c w'):ER la ln lc w0 Q:=by
 apply Zy;have hlen:=hU.len;refine Z4 (bh (F:=No)) 258 fu C7 λmb w s=>?_;have loop:∀(j i:Nat) (a:Option Addr) (n c:Nat) (ms:List (Int×Bool)) (w:World),i+j=ln->n<=i->oP ms->(∀g,fA ms g=if g∈tG (us.take i)then some true else none)->Sep No w0 w (ak a n c 3 1 (flat one (tG (us.take i)))::fQ fu C7 mb ms::[])->
   C1 Q (j+1) a n c (some mb) la ln lc (ln:Int) i w:=by
  intro j;induction j with
  |zero=>
   intro i a n c ms w hij hni hk ha s;show zl _ _ _ _ _ _ _ _ _ _ _ _;rw[zl,bp];rw[List.take_of_length_le (by omega)]at s;have s:=b_ (L':=[ak a n c 3 1 (flat one (tG us))]) [0] s rfl (by decide);exact h a n c w (fy s0 s) (au s)
  |succ j ih=>
   intro i a n c ms w hij hni hk ha s;show zl _ _ _ _ _ _ _ _ _ _ _ _;rw[zl,bN];refine(hU.fr (au s)).El rfl (by omega) λp u hu hc=>?_;have hug:=zL u (List.mem_of_getElem? hu);have yc:tG (us.take (i+1))=EC (tG (us.take i)) u:=by unfold tG;rw[List.take_add_one,hu];grind
   have wr:IntKind.wrap .i64 ((i:Int)+1)=((i+1:Nat):Int):=by rw[HA (iK.wf (by unfold iK;omega))];omega
   refine aR (hc 0 _ rfl) (aR (hc 1 _ rfl) (aR (hc 2 _ rfl) ?_));refine aS s λx w s=>?_;refine sT s 0 rfl λw s=>?_;refine sT s 0 rfl λw s=>?_;refine ax s (i:=0) rfl rfl rfl λw s=>?_;apply lI s 0 rfl;rw[wr];refine Ez (K:=fu) OR (aah w) s (i:=2) rfl hk hug (λhn=>?_) λb hb=>?_
   ·have hno:u.goal∉tG (us.take i):=λhm=>by rw[ha,if_pos hm]at hn;cases hn
    apply lI s 0 rfl;refine LY OR s (i:=2) rfl hk hug λms' w hk' Ed hl' s=>?_;apply lI s 0 rfl;have s:=b_ (L':=[_,_,_]) [1,0,2] s rfl (by decide);refine Lx s (by omega) λa' c' w s=>?_;refine ih (i+1) a' (n+1) c' ms' w (by omega) (by omega) hk' (λg=>?_) ?_
    ·rw[Ed,ha,yc];rw[EC,if_neg hno];by_cases e:g=u.goal
     ·rw[if_pos e,if_pos (by rw[e];simp)]
     ·have:(g∈tG (us.take i)++[u.goal])↔g∈tG (us.take i):=by simp[e]
      rw[if_neg e];simp[this]
    ·rw[yc];rw[EC,if_neg hno];exact b_ (L':=[_,_]) [0,2] s rfl (by decide)
   ·have hm:u.goal∈tG (us.take i):=by
     rw[ha]at hb;split at hb
     ·assumption
     ·cases hb
    rw[ha,if_pos hm]at hb;cases hb;refine ih (i+1) a n c ms w (by omega) (by omega) hk (λg=>?_) ?_
    ·rw[ha,yc];rw[EC,if_pos hm]
    ·rw[yc];rw[EC,if_pos hm];exact ai s
 exact⟨ln+1,loop ln 0 none 0 0 [] w (by omega) (by omega) List.Pairwise.nil (λg=>rfl) (bD s 3 1)⟩
end
end Go.Proofs.YtmegplnmiepfbaaGreatDoor.S
namespace Go.Proofs.YtmegplnmiepfbaaGreatDoor.S
open Go.Sx
def afn {F:Nat->Prop}{W w:World}{L:List As}{K:Option Nat->World->Prop}{n:Int}{k' e:TypeId}{P:Program}{t:TypeId}(ht:P.underlying t=some (.map k' e))(s:Sep F W w L)(k:TypeId)(h:∀b w',Sep F W w' (mapA P k b []::L)->K (some b) w'):cw P t (some (ae n)) w K:=by
 unfold Sx.cw aL;have e:(Instr.makeMap t (some (ae n))).run P w=.ok (.map (some w.heap.size)) (w.alloc (.map #[] 0)):=by simp[Instr.makeMap,newObj,run_underlying ht,asInt,Result.andThen];rfl
 rw[e];refine h _ _ (Hz s (Fr.alloc Fr.refl _) ?_ λx hx=>?_)
 ·exact⟨#[],0,heap_alloc_new w _,rfl,by simp⟩
 ·have hx:x=w.heap.size:=hx;omega
attribute [local irreducible] af cA bw bg aA cq bY St Bx Al App cD cy cw bT aL bC aq bR av ak aV mapA
structure nS (w h:Int) (us:List aU):Prop where
 wh:gz w h
 ids:(us.map (·.id)).Pairwise (·<·)
 pos:∀u∈us,0<=u.id
 at_:∀u∈us,bK w h u.cell/\bK w h u.goal
 nd:(us.map (·.cell)).Nodup
section
variable {F:Nat->Prop}{W w w0:World}{L:List As}{la:Option Addr}{ln lc:Nat}{us:List aU}{mw mh:Int}
def Ar {c:Int}(h:bK mw mh c):iK c:=by have:=mV h.1;have:=h.2;unfold iK;omega
def Q9 {Q:Bool->World->Prop}(s0:Sep F W w0 L)(hU:Sl w0 la ln lc 3 iC us)(p9:ln<=1000000)(hm:nS mw mh us)
  (h:∀w',Sep F W w' L->Fr No w0 w'->Q true w'):CI mw mh la ln lc w0 Q:=by
 apply adw;apply pO;rw[decide_eq_true hm.wh,Bool.not_true,cond_false];refine afn OR (bh (F:=No)) 3 λmb w s=>?_;have s:=s;have loop:∀(j i:Nat) (last:Int) (ms:List (Int×Bool)) (w:World),i+j=ln->(∀u∈us.drop i,last<u.id)->oP ms->(∀g,fA ms g=if g∈(us.take i).map (·.cell)then some true else none)->Sep No w0 w (fQ fu C7 mb ms::[])->
   Gm Q (j+1) mw mh last (some mb) la ln lc (ln:Int) i w:=by
  intro j;induction j with
  |zero=>
   intro i last ms w hij hl hk ha s;show Cc _ _ _ _ _ _ _ _ _ _ _ _;rw[Cc,bp];exact h w (fy s0 (ai s)) (au s)
  |succ j ih=>
   intro i last ms w hij hl hk ha s;show Cc _ _ _ _ _ _ _ _ _ _ _ _;rw[Cc,bN];refine(hU.fr (au s)).El rfl (by omega) λp u hu hc=>?_;have hmem:=List.mem_of_getElem? hu;obtain⟨Ym,US⟩:=hm.at_ u hmem;have hd:us.drop i=u::us.drop (i+1):=by have hi:=(List.getElem?_eq_some_iff.1 hu).1;rw[List.drop_eq_getElem_cons hi];have:=(List.getElem?_eq_some_iff.1 hu).2;rw[this]
   have yc:us.take (i+1)=us.take i++[u]:=by rw[List.take_add_one,hu];rfl
   have hno:u.cell∉(us.take i).map (·.cell):=λhin=>by have hnd:=hm.nd;rw[<-List.take_append_drop i us,hd,List.map_append,List.map_cons,List.nodup_append]at hnd;exact hnd.2.2 _ hin _ (List.mem_cons_self ..) rfl
   have avS:=hl u (by rw[hd];exact List.mem_cons_self ..);have awa:∀v∈us.drop (i+1),u.id<v.id:=λv hv=>by have hp:=hm.ids;rw[<-List.take_append_drop i us,hd,List.map_append,List.map_cons,List.pairwise_append]at hp;exact(List.pairwise_cons.1 hp.2.1).1 v.id (List.mem_map.2 ⟨v,hv,rfl⟩)
   have wr:IntKind.wrap .i64 ((i:Int)+1)=((i+1:Nat):Int):=by rw[HA (iK.wf (by unfold iK;omega))];omega
   refine aR (hc 0 _ rfl) (aR (hc 1 _ rfl) (aR (hc 2 _ rfl) ?_));refine aS s λx w s=>?_;refine sT s 0 rfl λw s=>?_;refine sT s 0 rfl λw s=>?_;refine ax s (i:=0) rfl rfl rfl λw s=>?_;apply lI s 0 rfl;rw[bp];apply lI s 0 rfl;refine eZ s λw s _=>?_;have h1:=(bS Ym).2.1;have h2:=(bS US).2.1;rw[bp];apply lI s 0 rfl;refine eZ s λw s _=>?_;rw[bp];apply lI s 0 rfl;rw[wr];refine Ez (K:=fu) OR (aah w) s (i:=1) rfl hk (Ar Ym) (λhn=>?_) λb hb=>?_
   ·have s:=ay s;refine lI s 0 rfl (lI s 0 rfl ⟨cj s 0 rfl,?_⟩);refine LY OR s (i:=1) rfl hk (Ar Ym) λms' w hk' Ed hl' s=>?_;refine ih (i+1) u.id ms' w (by omega) awa hk' (λg=>?_) (ai s);rw[Ed,ha,yc,List.map_append];by_cases e:g=u.cell
    ·rw[if_pos e,if_pos (by rw[e];simp)]
    ·have:(g∈(us.take i).map (·.cell)++[u].map (·.cell))↔g∈(us.take i).map (·.cell):=by simp[e]
     rw[if_neg e];simp only[this]
   ·rw[ha,if_neg hno]at hb;cases hb
 exact⟨ln+1,loop ln 0 (-1) [] w (by omega) (λu hu=>by have:=hm.pos u (List.mem_of_mem_drop hu);omega) List.Pairwise.nil (λg=>rfl) s⟩
end
end Go.Proofs.YtmegplnmiepfbaaGreatDoor.S
namespace Go.Proofs.YtmegplnmiepfbaaGreatDoor.S
open Go.Sx
def stand (us:List aU)(c:Int):Bool:=us.any λv=>decide (v.cell=c)
def uH (w h:Int)(st:List aU)(u:aU)(d:Int):Bool:=decide (0<=bf w h u.cell d)&&!stand st (bf w h u.cell d)
def nW (w h:Int)(u:aU)(d:Int):List aU:=if bf w h u.cell d=u.goal then[]else[⟨u.id,bf w h u.cell d,u.goal⟩]
def dg (w h:Int):List aU->List (aU×Int)->List aU×List (Int×Int)×List Int
 |done,[]=>(done,[],[])
 |done,(u,d)::rest=>
  if uH w h (done++u::rest.map (·.1)) u d=true then
   ((dg w h (done++nW w h u d) rest).1,(u.id,bf w h u.cell d)::(dg w h (done++nW w h u d) rest).2.1,(if bf w h u.cell d=u.goal then[u.id]else[])++(dg w h (done++nW w h u d) rest).2.2)
  else dg w h (done++[u]) rest
section
variable {w h d:Int}{done us:List aU}{u:aU}{rest todo:List (aU×Int)}
def Ic (hb:uH w h (done++u::rest.map (·.1)) u d=true):dg w h done ((u,d)::rest)=((dg w h (done++nW w h u d) rest).1,(u.id,bf w h u.cell d)::(dg w h (done++nW w h u d) rest).2.1,(if bf w h u.cell d=u.goal then[u.id]else[])++(dg w h (done++nW w h u d) rest).2.2):=by rw[dg,if_pos hb]
def Ie (hb:uH w h (done++u::rest.map (·.1)) u d=false):dg w h done ((u,d)::rest)=dg w h (done++[u]) rest:=by rw[dg,if_neg (by grind)]
def afo {c:Int}:stand us c=true↔c∈us.map (·.cell):=by unfold stand;grind
def aei:uH w h us u d=true↔0<=bf w h u.cell d/\bf w h u.cell d∉us.map (·.cell):=by rw[uH,Bool.and_eq_true,decide_eq_true_eq,<-afo];grind
def nS.sub {us':List aU}(hm:nS w h us)(hs:us'.Sublist us):nS w h us':=
 ⟨hm.wh,hm.ids.sublist (hs.map _),λv hv=>hm.pos v (hs.subset hv),λv hv=>hm.at_ v (hs.subset hv),hm.nd.sublist (hs.map _)⟩
def nS.WD {v:aU}{us':List aU}(hm:nS w h (done++u::us'))(zL:v.id=u.id)(hc:bK w h v.cell)(hg:bK w h v.goal)(hn:v.cell∉(done++us').map (·.cell)):nS w h (done++v::us'):=by
 have hmem:∀x∈done++v::us',x=v\/x∈done++u::us':=λx hx=>by grind
 have hu:u∈done++u::us':=by simp
 refine⟨hm.wh,?_,λx hx=>?_,λx hx=>?_,?_⟩
 ·have:=hm.ids;grind
 ·rcases hmem x hx with rfl|hx
  ·rw[zL];exact hm.pos u hu
  ·exact hm.pos x hx
 ·rcases hmem x hx with rfl|hx
  ·grind
  ·exact hm.at_ x hx
 ·have h0:=hm.nd;grind
def aiP (hb:uH w h us u d=true):bK w h (bf w h u.cell d):=(zR (aei.1 hb).1).2
def aiQ {us':List aU}(hm:nS w h (done++u::us'))(hb:uH w h (done++u::us') u d=true):nS w h ((done++nW w h u d)++us'):=by
 obtain⟨h0,h1⟩:=aei.1 hb;rw[List.append_assoc];unfold nW;split
 ·exact hm.sub (List.Sublist.append_left (List.sublist_cons_self _ _) _)
 ·refine hm.WD rfl (aiP hb) (hm.at_ u (by simp)).2 λhin=>h1 ?_;grind
def WG:∀(todo:List (aU×Int)) (done:List aU),nS w h (done++todo.map (·.1))->nS w h (dg w h done todo).1
 |[],done,hm=>by simpa[dg]using hm
 |(u,d)::rest,done,hm=>by
  cases hb:uH w h (done++u::rest.map (·.1)) u d with
  |true=>
   rw[Ic hb];exact WG rest _ (aiQ hm hb)
  |false=>
   rw[Ie hb];exact WG rest _ (by grind)
def acn:∀(todo:List (aU×Int)) (done:List aU),(dg w h done todo).2.1=[]->(dg w h done todo).1=done++todo.map (·.1)
 |[],done,_=>by simp[dg]
 |(u,d)::rest,done,hm=>by
  cases hb:uH w h (done++u::rest.map (·.1)) u d with
  |true=>rw[Ic hb]at hm;cases hm
  |false=>
   rw[Ie hb]at hm⊢;rw[acn rest _ hm];simp
def aco:∀(todo:List (aU×Int)) (done:List aU) {m:Int×Int} {ms:List (Int×Int)},(dg w h done todo).2.1=m::ms->
  ∃done' u d rest,uH w h (done'++u::rest.map (·.1)) u d=true/\done'++u::rest.map (·.1)=done++todo.map (·.1)/\m=(u.id,bf w h u.cell d)/\(dg w h (done'++nW w h u d) rest).2.1=ms/\(dg w h (done'++nW w h u d) rest).1=(dg w h done todo).1
 |[],done,_,_,hm=>by cases hm
 |(u,d)::rest,done,m,ms,hm=>by
  cases hb:uH w h (done++u::rest.map (·.1)) u d with
  |true=>
   rw[Ic hb]at hm⊢;grind
  |false=>
   rw[Ie hb]at hm⊢;obtain⟨done',u',d',rest',h1,h2,h3⟩:=aco rest _ hm;grind
def NR:∀(todo:List (aU×Int)) (done:List aU),(dg w h done todo).1.length+(dg w h done todo).2.2.length=done.length+todo.length/\(dg w h done todo).2.1.length<=todo.length
 |[],done=>by simp[dg]
 |(u,d)::rest,done=>by
  cases hb:uH w h (done++u::rest.map (·.1)) u d with
  |true=>
   rw[Ic hb];have:=NR rest (done++nW w h u d);have hw:(nW w h u d).length+(if bf w h u.cell d=u.goal then[u.id]else[]).length=1:=by unfold nW;split<;>rfl
   grind
  |false=>
   rw[Ie hb];have:=NR rest (done++[u]);grind
end
end Go.Proofs.YtmegplnmiepfbaaGreatDoor.S
namespace Go.Proofs.YtmegplnmiepfbaaGreatDoor.S
open Go.Sx
attribute [local irreducible] af cA bw bg aA cq bY St Bx Al App cD cy cw bT aL bC aq bR av ak aV mapA
def NS {i:Nat}(h:i<=1000000000):IntKind.wrap .i64 ((i:Int)+1)=((i+1:Nat):Int):=by rw[HA (iK.wf (by unfold iK;omega))];omega
def lN (x:Int×Int):List Value:=[ae x.1,ae x.2]
def NT (x:Int×Int):(lN x).length=2:=rfl
def aoU (x:Int×Int)(u:Value)(h:u∈lN x):u.oneCell'=true:=by unfold lN at h;simp[List.mem_cons,List.not_mem_nil,or_false]at h;rcases h with rfl|rfl<;>rfl
section
variable {F:Nat->Prop}{W w w0:World}{L:List As}{a:Option Addr}{n c:Nat}{mv:List (Int×Int)}
def WH {K:Addr->World->Prop}{p:Addr}{u:aU}(hc:∀j v,(iC u)[j]? =some v->w.cell? (p.add j)=some v)(s:Sep F W w L)(h:∀x w',Sep F W w' (av x 43 (iC u)::L)->K (aZ x) w'):
  af .i64 (p.add 0) w λa=>af .i64 (p.add 1) w λb=>af .i64 (p.add 2) w λc=>Al T 43 w λx w=>St (x.add 0) (ae a) w λw=>St (x.add 1) (ae b) w λw=>St (x.add 2) (ae c) w λw=>K x w:=by
 refine aR (hc 0 _ rfl) (aR (hc 1 _ rfl) (aR (hc 2 _ rfl) ?_));refine aS s λx w s=>?_;refine sT s 0 rfl λw s=>?_;refine sT s 0 rfl λw s=>?_;refine ax s (i:=0) rfl rfl rfl λw s=>?_;exact h x w s
end
def Mb (ms:List (Int×Bool))(us:List aU):Prop:=oP ms/\∀c,fA ms c=if stand us c=true then some true else none
def Cw {us vs:List aU}{c:Int}:stand (us++vs) c=(stand us c||stand vs c):=by unfold stand;grind
def Kz {u:aU}{us:List aU}{c:Int}:stand (u::us) c=(decide (u.cell=c)||stand us c):=by unfold stand;grind
def aiR {us:List aU}{c:Int}:stand us c=false↔c∉us.map (·.cell):=by rw[<-afo];grind
def aoV {w h c:Int}(hc:bK w h c):bf w h c 4=c:=by obtain⟨h1,h2,e⟩:=Ir hc;rw[bf,if_pos hc,if_neg (by decide),if_neg (by decide),if_neg (by decide),if_neg (by decide),if_pos rfl,ng hc.1 h1 h2];exact e.symm
def aoW {w h c:Int}:bf w h c 5=-1:=by unfold bf;split<;>rfl
abbrev WI (mw mh:Int)(mb:Nat)(ma:Option Addr)(mn mc:Nat)(ga:Option Addr)(gn gc:Nat):List Value:=[ae mw,ae mh,.map (some mb),.slice ma mn mc,.slice ga gn gc]
section
variable {F:Nat->Prop}{W w w0:World}{L:List As}{ma ga:Option Addr}{mn mc gn gc mb fb ub:Nat}{mv:List (Int×Int)}{gs:List Int}{ms:List (Int×Bool)}{mw mh d:Int}{done us:List aU}{u:aU}
def ate {Q:Bool->World->Prop}(hm:nS mw mh (done++u::us))(hS:Mb ms (done++u::us))(hmn:mn<=100000000)(G8:gn<=100000000)(s:Sep F W w (av ub 43 (iC u)::av fb 260 (WI mw mh mb ma mn mc ga gn gc)::fQ fu C7 mb ms::ak ma mn mc 51 2 (flat lN mv)::ak ga gn gc 3 1 (flat one gs)::L))
  (hno:uH mw mh (done++u::us) u d=false->∀w',Sep F W w' (av fb 260 (WI mw mh mb ma mn mc ga gn gc)::fQ fu C7 mb ms::ak ma mn mc 51 2 (flat lN mv)::ak ga gn gc 3 1 (flat one gs)::av ub 43 (iC u)::L)->Q true w')
  (hyes:uH mw mh (done++u::us) u d=true->∀ms' ma' WJ Yx Yy gc' w',Yy<=gn+1->Mb ms' ((done++nW mw mh u d)++us)->Sep F W w' (av fb 260 (WI mw mh mb ma' (mn+1) WJ Yx Yy gc')::fQ fu C7 mb ms'::ak ma' (mn+1) WJ 51 2 (flat lN (mv++[(u.id,bf mw mh u.cell d)]))::ak Yx Yy gc' 3 1 (flat one (gs++if bf mw mh u.cell d=u.goal then[u.id]else[]))::av ub 43 (iC ⟨u.id,bf mw mh u.cell d,u.goal⟩)::L)->Q (!decide (bf mw mh u.cell d=u.goal)) w'):
  kG Q (sZ fb) (sZ ub) d w:=by
 have hu:=hm.at_ u (by simp);have s:=ay s;refine ah (lI s 1 rfl (ah (lI s 1 rfl (ah (lI s 0 rfl ?_)))));refine kH s λw s _=>?_;have fin:uH mw mh (done++u::us) u d=false->Q true w:=λhb=>hno hb w (pk 5 [1,2,3,4,0] s);by_cases h0:bf mw mh u.cell d<0
 ·rw[bN h0];apply fin;unfold uH;grind
 rw[bp h0];have h0:0<=bf mw mh u.cell d:=by omega
 have hto:=(zR h0).2;refine ah (lM s 1 rfl ?_);refine Ez (K:=fu) OR (aah w) s (i:=2) rfl hS.1 (Ar hto) (λhn=>?_) λb hb=>?_
 ·have hst:stand (done++u::us) (bf mw mh u.cell d)=false:=by
   rw[hS.2]at hn;split at hn
   ·cases hn
   ·exact Bool.eq_false_iff.2 ‹_›
  have hb:uH mw mh (done++u::us) u d=true:=by rw[uH,decide_eq_true h0,hst];rfl
  have hyes:=hyes hb;unfold nW at hyes;generalize bf mw mh u.cell d=to at*;apply aeb;have s:=ay s;refine ah (lM s 1 rfl (ah (lI s 0 rfl ?_)));refine auS (K:=fu) OR s (i:=2) rfl hS.1 (Ar hu.1) λms1 w hk1 ha1 _ s=>?_;have hcells:∀c,stand (done++us) c=if c=u.cell then false else stand (done++u::us) c:=λc=>by
   rw[Cw,Cw,Kz];by_cases e:c=u.cell
   ·rw[if_pos e,e];have:=hm.nd;rw[List.map_append,List.map_cons,List.nodup_append,List.nodup_cons]at this;rw[aiR.2 λh=>this.2.2 _ h _ (List.mem_cons_self ..) rfl,aiR.2 this.2.1.1];rfl
   ·rw[if_neg e,decide_eq_false λh=>e h.symm,Bool.false_or]
  have hS1:Mb ms1 (done++us):=⟨hk1,λc=>by
   rw[ha1,hS.2,hcells];by_cases e:c=u.cell
   ·rw[if_pos e,if_pos e];rfl
   ·rw[if_neg e,if_neg e]⟩
  refine ah (sT s 0 rfl λw s=>?_);have s:=ay s;refine ah (lS s 1 rfl (ah (lI s 0 rfl ?_)));have s:=pk 5 [3,0,1,2,4] s;refine aN s λxb w s=>⟨cj s 3 rfl,?_⟩;have src:Src w (sZ xb) 1 2 (lN (u.id,to)):=⟨rfl,aoU _,λj v hj=>by rw[cm,Nat.zero_add];exact cK s (i:=0) rfl rfl hj⟩;refine iw ef s (i:=1) (bytes:=16) rfl rfl rfl rfl rfl rfl (by decide) rfl src (by simp[maxLen];omega) (by omega) (λe=>by cases e) λma' WJ w s=>?_;have e:flat lN mv++lN (u.id,to)=flat lN (mv++[(u.id,to)]):=by rw[fZ];simp[flat]
  rw[e]at s;refine ah (ax s (i:=3) rfl rfl rfl λw s=>?_);refine ah (lI s 2 rfl ?_);have s:=ai s;by_cases hg:to=u.goal
  ·rw[eC hg,cond_true];have s:=ay s;refine ah (lS s 2 rfl (ah (lI s 1 rfl ?_)));refine aN s λxb w s=>⟨cj s 3 rfl,?_⟩;have src:Src w (sZ xb) 1 1 (one u.id):=⟨rfl,Ff _,λj v hj=>by rw[cm,Nat.zero_add];exact cK s (i:=0) rfl rfl hj⟩;refine iw ef s (i:=5) (size:=1) (bytes:=8) rfl rfl rfl rfl rfl rfl (by decide) rfl src (by simp[maxLen];omega) (by omega) (λe=>by cases e) λYx gc' w s=>?_;have e:flat one gs++one u.id=flat one (gs++[u.id]):=by rw[fZ];simp[flat]
   rw[e]at s;refine ah (ax s (i:=3) rfl rfl rfl λw s=>?_);have s:=pk 6 [3,4,1,5,2] s;have:=hyes ms1 ma' WJ Yx (gn+1) gc' w (Nat.le_refl _) ?_ ?_
   ·rw[decide_eq_true hg]at this;exact this
   ·rw[if_pos hg,List.append_nil];exact hS1
   ·rw[if_pos hg];exact s
  ·rw[cQ hg,cond_false];refine ah (lM s 2 rfl ?_);refine LY (k:=3) (e:=4) (K:=fu) (v:=C7) (ms:=ms1) (a:=true) (x:=to) OR s (i:=3) rfl hk1 (Ar hto) λms2 w IM Tr _ s=>?_;have s:=pk 5 [2,3,0,4,1] s;have:=hyes ms2 ma' WJ ga gn gc w (Nat.le_succ _) ?_ ?_
   ·rw[decide_eq_false hg]at this;exact this
   ·rw[if_neg hg];refine⟨IM,λc=>?_⟩;rw[Tr,hS1.2,Cw,Cw,Cw,Kz];by_cases e:c=to
    ·rw[if_pos e,e,decide_eq_true rfl];simp
    ·rw[if_neg e,decide_eq_false λh=>e h.symm];simp[stand]
   ·rw[if_neg hg,List.append_nil];exact s
 ·have hst:stand (done++u::us) (bf mw mh u.cell d)=true:=by
   rw[hS.2]at hb;split at hb
   ·assumption
   ·cases hb
  rw[hS.2,if_pos hst]at hb;cases hb;apply al2;apply fin;rw[uH,hst];simp
def aaj {Q:Bool->World->Prop}(hd:0<=d/\d<=5)(hm:nS mw mh (done++u::us))(hS:Mb ms (done++u::us))(hmn:mn<=100000000)(G8:gn<=100000000)(s:Sep F W w (av ub 43 (iC u)::av fb 260 (WI mw mh mb ma mn mc ga gn gc)::fQ fu C7 mb ms::ak ma mn mc 51 2 (flat lN mv)::ak ga gn gc 3 1 (flat one gs)::L))
  (hno:uH mw mh (done++u::us) u d=false->∀w',Sep F W w' (av fb 260 (WI mw mh mb ma mn mc ga gn gc)::fQ fu C7 mb ms::ak ma mn mc 51 2 (flat lN mv)::ak ga gn gc 3 1 (flat one gs)::av ub 43 (iC u)::L)->Q true w')
  (hyes:uH mw mh (done++u::us) u d=true->∀ms' ma' WJ Yx Yy gc' w',Yy<=gn+1->Mb ms' ((done++nW mw mh u d)++us)->Sep F W w' (av fb 260 (WI mw mh mb ma' (mn+1) WJ Yx Yy gc')::fQ fu C7 mb ms'::ak ma' (mn+1) WJ 51 2 (flat lN (mv++[(u.id,bf mw mh u.cell d)]))::ak Yx Yy gc' 3 1 (flat one (gs++if bf mw mh u.cell d=u.goal then[u.id]else[]))::av ub 43 (iC ⟨u.id,bf mw mh u.cell d,u.goal⟩)::L)->Q (!decide (bf mw mh u.cell d=u.goal)) w'):
  xQ (sZ fb) (sZ ub) d w Q:=by
 apply Oz;have hb:¬(4<=d)->kG Q (sZ fb) (sZ ub) d w:=λ_=>ate hm hS hmn G8 s hno hyes;by_cases e0:d=0
 ·grind
 rw[cQ e0,cond_false];by_cases e1:d=1
 ·grind
 rw[cQ e1,cond_false];by_cases e2:d=2
 ·grind
 rw[cQ e2,cond_false];by_cases e3:d=3
 ·grind
 rw[cQ e3,cond_false];refine hno ?_ w (pk 5 [1,2,3,4,0] s);have hu:=(hm.at_ u (by simp)).1;unfold uH;obtain rfl|rfl:d=4\/d=5:=by omega
 ·rw[aoV hu,Cw,Kz,decide_eq_true rfl];simp
 ·rw[aoW];rfl
end
def az7:oT 153 fns=true:=by kernel_rfl
section
variable {F:Nat->Prop}{W w w0:World}{L:List As}{la da:Option Addr}{ln lc dn dc:Nat}{us:List aU}{ds:List Int}{mw mh:Int}
def aqP {Q:Bool->World->Prop}(hD:Sl w da dn dc 1 one ds)(hr:∀d∈ds,0<=d/\d<=5)(hn:dn<=1000000)(h:Q false w):nJ da dn dc (.func (.func 153) #[] #[]) w Q:=by
 apply D6;apply Gn;have hl:=hD.len;have loop:∀(j i:Nat),i+j=dn->jR (λr w=>Q (decide (r≥0)) w) (j+1) da dn dc (.func (.func 153) #[] #[]) (dn:Int) i w:=by
  intro j;induction j with
  |zero=>
   intro i hi;show jQ _ _ _ _ _ _ _ _ _;unfold jQ;grind
  |succ j ih=>
   intro i hi;show jQ _ _ _ _ _ _ _ _ _;rw[jQ,bN];apply hD.rG rfl (by omega);have hd:=hr _ (fE (i:=i) (by omega));unfold iv;simp only;have hc:K7 (gi ds i) w λr w'=>cond r (Q (decide ((i:Int)≥0)) w') (jR (λr w=>Q (decide (r≥0)) w) (j+1) da dn dc (.func (.func 153) #[] #[]) (dn:Int) (IntKind.wrap .i64 ((i:Int)+1)) w'):=by apply ZA;rw[bp];show cond (decide (gi ds i>5)) _ _;rw[bp,NS (by omega)];exact ih (i+1) (by omega)
   exact hc
 exact⟨dn+1,loop dn 0 (by omega)⟩
def aej {Q:Option Addr->Nat->Nat->Option Addr->Nat->Nat->Option Addr->Nat->Nat->Int->World->Prop}(s0:Sep F W w0 L)(hU:Sl w0 la ln lc 3 iC us)(hD:Sl w0 da dn dc 1 one ds)(hlen:ds.length=us.length)(p9:ln<=1000000)(hr:∀d∈ds,0<=d/\d<=5)(hm:nS mw mh us)
  (h:∀aa an ac ma mn mc ga gn gc w',Sep F W w' (ak ma mn mc 51 2 (flat lN (dg mw mh [] (us.zip ds)).2.1)::ak ga gn gc 3 1 (flat one (dg mw mh [] (us.zip ds)).2.2)::L)->Fr No w0 w'->Q aa an ac ma mn mc ga gn gc 0 w'):
  HF mw mh la ln lc da dn dc w0 Q:=by
 apply adz;have hul:=hU.len;have hdl:=hD.len;refine Q9 (bh (F:=No)) hU p9 hm λw s _=>?_;rw[Bool.not_true,cond_false,Ev (by omega),cond_false];apply aqP (hD.fr (au s)) hr (by omega);refine afn OR s 3 λmb w s=>?_;have s:=s;refine aN s λfb w s=>?_;have avd:(us.zip ds).map (·.1)=us:=by rw[List.map_fst_zip];omega
 have walk:∀(j i:Nat) (done:List aU) (ms:List (Int×Bool)) (mv:List (Int×Int)) (gs:List Int) (aa ma ga:Option Addr) (an ac mn mc gn gc:Nat) (w:World),i+j=ln->mn<=i->gn<=i->an<=i->nS mw mh (done++((us.zip ds).drop i).map (·.1))->Mb ms (done++((us.zip ds).drop i).map (·.1))->
   mv++(dg mw mh done ((us.zip ds).drop i)).2.1=(dg mw mh [] (us.zip ds)).2.1->gs++(dg mw mh done ((us.zip ds).drop i)).2.2=(dg mw mh [] (us.zip ds)).2.2->
   Sep No w0 w (av fb 260 (WI mw mh mb ma mn mc ga gn gc)::fQ fu C7 mb ms::ak ma mn mc 51 2 (flat lN mv)::ak ga gn gc 3 1 (flat one gs)::ak aa an ac 43 3 (flat iC done)::[])->
   Eu Q (j+1) da dn dc aa an ac (aZ fb) la ln lc (ln:Int) i w:=by
  intro j;induction j with
  |zero=>
   intro i done ms mv gs aa ma ga an ac mn mc gn gc w hij hmn G8 han hM hS Tu Fa s;show AM _ _ _ _ _ _ _ _ _ _ _ _ _ _ _;rw[AM,bp];have s:=ay s;have hz:(us.zip ds).drop i=[]:=List.drop_eq_nil_of_le (by grind);rw[hz]at Tu Fa;simp[dg,List.append_nil]at Tu Fa;have c3:=cK s (i:=0) (j:=3) rfl rfl rfl;have c4:=cK s (i:=0) (j:=4) rfl rfl rfl;refine lS s 0 rfl (lS s 0 rfl ⟨c4,c3,c4,?_⟩);rw[Tu,Fa]at s;have s:=b_ (L':=[_,_]) [2,3] s rfl (by decide);exact h aa an ac ma mn mc ga gn gc _ (fy s0 s) (au s)
  |succ j ih=>
   intro i done ms mv gs aa ma ga an ac mn mc gn gc w hij hmn G8 han hM hS Tu Fa s;show AM _ _ _ _ _ _ _ _ _ _ _ _ _ _ _;rw[AM,bN];refine(hU.fr (au s)).El rfl (by omega) λp u hu hc=>?_;have hdi:ds[i]? =some (gi ds i):=iD (by omega);have hd:=hr _ (List.mem_of_getElem? hdi);have hz:(us.zip ds).drop i=(u,gi ds i)::(us.zip ds).drop (i+1):=by
    have hzi:(us.zip ds)[i]? =some (u,gi ds i):=by rw[List.getElem?_zip_eq_some];exact⟨hu,hdi⟩
    obtain⟨hlt,e⟩:=List.getElem?_eq_some_iff.1 hzi;rw[List.drop_eq_getElem_cons hlt,e]
   rw[hz]at hM hS Tu Fa;have hM:=hM;have hS:=hS;refine WH hc s λub w s=>?_;apply(hD.fr (au s)).rG rfl (by omega);generalize gi ds i=d at*;rw[NS (by omega)];refine aaj hd hM hS (by omega) (by omega) s (λhb w s=>?_) λhb ms' ma' WJ Yx Yy gc' w aBA hS' s=>?_
   ·rw[Ie hb]at Tu Fa;refine lI s 4 rfl (lI s 4 rfl (lI s 4 rfl ?_));have s:=b_ (L':=[_,_,_,_,_]) [5,0,1,2,3] s rfl (by decide);refine aqN s (by omega) λaa' ac' w s=>?_;exact ih (i+1) (done++[u]) ms mv gs aa' ma ga (an+1) ac' mn mc gn gc w (by omega) (by omega) (by omega) (by omega) (by rw[List.append_assoc];exact hM) (by rw[List.append_assoc];exact hS) Tu Fa (b_ (L':=[_,_,_,_,_]) [1,2,3,4,0] s rfl (by decide))
   ·rw[Ic hb]at Tu Fa;have hM':=aiQ hM hb;by_cases hg:bf mw mh u.cell d=u.goal
    ·rw[decide_eq_true hg,Bool.not_true,cond_false];have ew:nW mw mh u d=[]:=by unfold nW;rw[if_pos hg]
     rw[ew,List.append_nil]at hM' hS' Tu Fa;exact ih (i+1) done ms' _ _ aa ma' Yx an ac (mn+1) WJ Yy gc' w (by omega) (by omega) (by omega) (by omega) hM' hS' (by rw[List.append_assoc];exact Tu) (by rw[List.append_assoc];exact Fa) (b_ (L':=[_,_,_,_,_]) [0,1,2,3,5] s rfl (by decide))
    ·rw[decide_eq_false hg,Bool.not_false,cond_true];have ew:nW mw mh u d=[⟨u.id,bf mw mh u.cell d,u.goal⟩]:=by unfold nW;rw[if_neg hg]
     rw[ew]at hM' hS' Tu Fa;rw[if_neg hg,List.append_nil]at s;rw[if_neg hg,List.nil_append]at Fa;refine lI s 4 rfl (lI s 4 rfl (lI s 4 rfl ?_));have s:=b_ (L':=[_,_,_,_,_]) [5,0,1,2,3] s rfl (by decide);refine aqN s (by omega) λaa' ac' w s=>?_;exact ih (i+1) _ ms' _ gs aa' ma' Yx (an+1) ac' (mn+1) WJ Yy gc' w (by omega) (by omega) (by omega) (by omega) hM' hS' (by rw[List.append_assoc];exact Tu) Fa (b_ (L':=[_,_,_,_,_]) [1,2,3,4,0] s rfl (by decide))
 have fill:∀(j i:Nat) (ms:List (Int×Bool)) (w:World),i+j=ln->Mb ms (us.take i)->Sep No w0 w (av fb 260 (WI mw mh mb none 0 0 none 0 0)::fQ fu C7 mb ms::[])->
   Gp Q (j+1) la ln lc da dn dc none 0 0 (aZ fb) la ln lc (ln:Int) i w:=by
  intro j;induction j with
  |zero=>
   intro i ms w hij hS s;show Cd _ _ _ _ _ _ _ _ _ _ _ _ _ _ _ _ _ _;rw[Cd,bp];rw[List.take_of_length_le (by omega)]at hS;have s:=bD (bD (bD s 3 1) 51 2) 43 3;have s:=b_ (L':=[_,_,_,_,_]) [3,4,1,2,0] s rfl (by decide);refine⟨ln+1,walk ln 0 [] ms [] [] none none none 0 0 0 0 0 0 w (by omega) (by omega) (by omega) (by omega) ?_ ?_ rfl rfl s⟩
   ·rw[List.drop_zero,avd];exact hm
   ·rw[List.drop_zero,avd];exact hS
  |succ j ih=>
   intro i ms w hij hS s;show Cd _ _ _ _ _ _ _ _ _ _ _ _ _ _ _ _ _ _;rw[Cd,bN];refine(hU.fr (au s)).El rfl (by omega) λp u hu hc=>?_;refine WH hc s λub w s=>?_;have s:=ay s;refine lM s 1 rfl (lI s 0 rfl ?_);have hcell:=(hm.at_ u (List.mem_of_getElem? hu)).1;refine LY OR s (i:=2) rfl hS.1 (Ar hcell) λms2 w IM Tr _ s=>?_;rw[NS (by omega)];refine ih (i+1) ms2 w (by omega) ⟨IM,λc=>?_⟩ (ai s);have yc:us.take (i+1)=us.take i++[u]:=by rw[List.take_add_one,hu];rfl
   rw[Tr,hS.2,yc,Cw,Kz];by_cases e:c=u.cell
   ·rw[if_pos e,e,decide_eq_true rfl];simp
   ·rw[if_neg e,decide_eq_false λh=>e h.symm];simp[stand]
 refine⟨ln+1,fill ln 0 [] w (by omega) ⟨List.Pairwise.nil,λc=>rfl⟩ s⟩
end
def atU (us:List aU)(c:Int):Option aU:=us.find? λv=>decide (v.cell=c)
def vu (us:List aU)(c:Int):Int:=match atU us c with
 |some u=>u.id
 |none=>-1
section
variable {us us':List aU}{u:aU}{c:Int}
def Ig (h:c∉us.map (·.cell)):vu us c=-1:=by
 have:atU us c=none:=by unfold atU;grind
 rw[vu,this]
def Au (hn:(us.map (·.cell)).Nodup)(h:u∈us):vu us u.cell=u.id:=by
 have:atU us u.cell=some u:=by
  unfold atU;induction us with
  |nil=>cases h
  |cons v us ih=>
   grind
 rw[vu,this]
def aak (hn:(us.map (·.cell)).Nodup)(hn':(us'.map (·.cell)).Nodup)(h:∀v:aU,v.cell=c->(v∈us↔v∈us')):vu us c=vu us' c:=by
 by_cases hc:c∈us.map (·.cell)
 ·obtain⟨v,hv,rfl⟩:=List.mem_map.1 hc;rw[Au hn hv,Au hn' ((h v rfl).1 hv)]
 ·rw[Ig hc,Ig λe=>?_];grind
def atf {w h:Int}(hm:nS w h us):vu us c=-1\/0<=vu us c/\∃u∈us,u.cell=c/\vu us c=u.id:=by
 by_cases hc:c∈us.map (·.cell)
 ·obtain⟨v,hv,rfl⟩:=List.mem_map.1 hc;rw[Au hm.nd hv];exact .inr ⟨hm.pos v hv,v,hv,rfl,rfl⟩
 ·exact .inl (Ig hc)
end
structure GV (w h:Int) (us:List aU) (ws:List Int):Prop where
 len:(ws.length:Int)=w*h
 at_:∀c,bK w h c->gi ws c.toNat=vu us c+1
section
variable {us us':List aU}{u:aU}{c v mw mh:Int}{ws:List Int}
def GV.lt (h:GV mw mh us ws)(hc:bK mw mh c):0<=c/\c<ws.length:=by have:=h.len;have:=hc.2;omega
def GV.who (h:GV mw mh us ws)(hc:bK mw mh c):Ci ws c=vu us c:=by rw[Ci,if_pos (h.lt hc),h.at_ c hc];omega
def GV.free (h:GV mw mh us ws)(hc:bK mw mh c):Aj ws c=decide (vu us c=-1):=by rw[Aj,decide_eq_true (h.lt hc),h.at_ c hc,Bool.true_and,Bool.eq_iff_iff,beq_iff_eq,decide_eq_true_eq];omega
def GV.set (h:GV mw mh us ws)(hc:bK mw mh c)(e:∀c',bK mw mh c'->vu us' c'+1=if c'=c then v else vu us c'+1):GV mw mh us' (ws.set c.toNat v):=by have hl:=h.lt hc;refine⟨by rw[List.length_set];exact h.len,λc' Ba=>?_⟩;rw[aaI (by omega),e c' Ba,h.at_ c' Ba];have:=Ba.2;omega
def akT {done:List aU}(hm:nS mw mh (done++u::us))(hf:GV mw mh (done++u::us) ws):GV mw mh (done++us) (ws.set u.cell.toNat 0):=by
 have D9:=hm.sub (us':=done++us) (List.Sublist.append_left (List.sublist_cons_self _ _) _);refine hf.set (hm.at_ u (by simp)).1 λc' _=>?_;have hnd:=hm.nd;by_cases e:c'=u.cell
 ·rw[if_pos e,e,Ig]
  all_goals grind
 ·rw[if_neg e,aak D9.nd hm.nd λv hv=>?_];grind
def aoY {done:List aU}(hm:nS mw mh (done++u::us))(hf:GV mw mh (done++us) ws):GV mw mh (done++u::us) (ws.set u.cell.toNat (u.id+1)):=by
 have D9:=hm.sub (us':=done++us) (List.Sublist.append_left (List.sublist_cons_self _ _) _);refine hf.set (hm.at_ u (by simp)).1 λc' _=>?_;by_cases e:c'=u.cell
 ·rw[if_pos e,e,Au hm.nd (by simp)]
 ·rw[if_neg e,aak hm.nd D9.nd λv hv=>?_];grind
end
structure CrR where
 p:Nat
 un:Wf
 fl:QE
structure Ho where
 w:Int
 h:Int
 y:tE
 ws:List Int
structure aqQ (x:Ho):Prop where
 may:nS x.w x.h x.y.us
 fl:GV x.w x.h x.y.us x.ws
def zA (r:CrR)(x:Ho):List Value:=[ae x.w,ae x.h,ae x.y.most,.pointer (sZ r.un.p),.pointer (sZ r.fl.p)]
noncomputable def atg (r:CrR)(x:Ho):List As:=[av r.p 125 (zA r x),v8 r.un x.y,vp r.fl x.ws]
noncomputable def fX (r:CrR)(x:Ho):As:=aV (aqQ x) (atg r x)
def vv (w h:Int)(y:tE)(cell goal:Int):Int:=if¬(bK w h cell/\bK w h goal)then 7 else if vu y.us cell≠-1 then 10 else if(y.us.length:Int)≥y.most then 11 else if cell=goal then 13 else 0
section
variable {F:Nat->Prop}{W w w0:World}{L:List As}{r:CrR}{x:Ho}{cell goal id:Int}
def q9 (s:Sep F W w (fX r x::L)):aqQ x/\Sep F W w (av r.p 125 (zA r x)::v8 r.un x.y::vp r.fl x.ws::L):=gP s
def x7 (s:Sep F W w (av r.p 125 (zA r x)::v8 r.un x.y::vp r.fl x.ws::L))(h:aqQ x):Sep F W w (fX r x::L):=dA s h
def akU {u:aU}{us:List aU}{mw mh:Int}(hm:nS mw mh us)(zL:∀v∈us,v.id<u.id)(hp:0<=u.id)(hc:bK mw mh u.cell)(hg:bK mw mh u.goal)(hn:u.cell∉us.map (·.cell)):nS mw mh (us++[u]):=by
 have hm1:∀v∈us++[u],v∈us\/v=u:=λv hv=>by grind
 refine⟨hm.wh,?_,λv hv=>?_,λv hv=>?_,?_⟩
 ·rw[List.map_append,List.pairwise_append];refine⟨hm.ids,by simp,λa ha b hb=>?_⟩;grind
 ·rcases hm1 v hv with hv|rfl
  ·exact hm.pos v hv
  ·exact hp
 ·rcases hm1 v hv with hv|rfl
  ·exact hm.at_ v hv
  grind
 ·rw[List.map_append,List.nodup_append];refine⟨hm.nd,by simp,λa ha b hb=>?_⟩;grind
def acp {Q:Option Addr->World->Prop}{mw mh most:Int}(hm:gz mw mh)(Xd:1<=most/\most<=65536)(s:Sep F W w L)(h:∀r ws w',Sep F W w' (fX r ⟨mw,mh,⟨most,0,[]⟩,ws⟩::L)->Q (sZ r.p) w'):F9 mw mh most w Q:=by apply aa9;have LL:=mV hm;apply pO;rw[decide_eq_true hm,Bool.not_true,cond_false,bp,bp];refine abV Xd s λur w s=>?_;rw[aG,show mw*mh=(((mw*mh).toNat:Nat):Int) by omega];refine abu s (by omega) λfr w s=>?_;refine aN s λp w s=>?_;have s:=pk 3 [0,2,1] s;refine h ⟨p,ur,fr⟩ _ w (x7 s ⟨⟨hm,List.Pairwise.nil,(λu hu=>by cases hu),(λu hu=>by cases hu),List.Pairwise.nil⟩,⟨by grind,λc hc=>?_⟩⟩);have:0<=c/\c<mw*mh:=hc.2;show(List.replicate _ _).getD _ _=_;rw[List.getD_eq_getElem?_getD,List.getElem?_replicate,AA];rfl
def amc {Q:Bool->World->Prop}{c:Int}(s:Sep F W w (fX r x::L))(h:∀w',Sep F W w' (fX r x::L)->Q (decide (bK x.w x.h c)) w'):pe (sZ r.p) c w Q:=by
 apply RP;have s:=ay s;obtain⟨hok,so⟩:=q9 s;refine ah (lI so 0 rfl (ah (lI so 0 rfl ?_)));refine eZ s λw s _=>?_;have e:decide (aC x.w x.h c≥0)=decide (bK x.w x.h c):=decide_eq_decide.2 ⟨λh=>by
  by_cases hc:bK x.w x.h c
  ·exact hc
  ·unfold aC at h;grind,λh=>(bS h).2.1⟩
 grind
def afq {Q:Int->World->Prop}{c g:Int}(h:Q (if c=g then 13 else 0) w):nN Q c g w:=by unfold nN;grind
def aoZ {Q:Int->World->Prop}{p:Option Addr}{c g:Int}(h:Q (if c=g then 13 else 0) w):mY p 3 c g w Q:=by apply Dj;exact afq h
def ao0 {Q:Int->World->Prop}(s:Sep F W w (fX r x::L))(h:∀w',Sep F W w' (fX r x::L)->Q (vv x.w x.h x.y cell goal) w'):mY (sZ r.p) 0 cell goal w Q:=by
 apply Dj;unfold vv at h;refine amc s λw s=>?_;by_cases hc:bK x.w x.h cell
 ·rw[decide_eq_true hc,Bool.not_true,cond_false];refine amc s λw s=>?_;by_cases hg:bK x.w x.h goal
  ·rw[decide_eq_true hg,Bool.not_true,cond_false];rw[if_neg λe=>e ⟨hc,hg⟩]at h;obtain⟨hok,so⟩:=q9 s;refine ah (lP so 0 rfl ?_);apply Bl (Gy (ai (ai so)));rw[hok.fl.who hc];by_cases hw:vu x.y.us cell=-1
   ·rw[Ev hw,cond_false];rw[if_neg λe=>e hw]at h;have s:=ay s;have so:=ay so;refine ah (lP so 0 rfl (ah (lI so 0 rfl ?_)));refine abW (ai so) ⟨cj so 0 rfl,?_⟩;by_cases hl:(x.y.us.length:Int)≥x.y.most
    ·grind
    ·rw[bp hl];rw[if_neg hl]at h;exact afq (h _ s)
   grind
  grind
 grind
def ajX {y:tE}{mw mh:Int}(h:vv mw mh y cell goal=0):bK mw mh cell/\bK mw mh goal/\vu y.us cell=-1/\(y.us.length:Int)<y.most/\cell≠goal:=by unfold vv at h;grind
def akV {us:List aU}{mw mh c:Int}(hm:nS mw mh us):vu us c=-1↔c∉us.map (·.cell):=by refine⟨λh e=>?_,Ig⟩;obtain⟨v,hv,rfl⟩:=List.mem_map.1 e;rw[Au hm.nd hv]at h;have:=hm.pos v hv;omega
def X5 {Q:Int->Int->World->Prop}(hn:x.y.next<1000000000)(s:Sep F W w (fX r x::L))
  (GU:vv x.w x.h x.y cell goal≠0->∀w',Sep F W w' (fX r x::L)->Q (-1) (vv x.w x.h x.y cell goal) w')
  (hok:vv x.w x.h x.y cell goal=0->∀r' GW w',r'.p=r.p->Sep F W w' (fX r' ⟨x.w,x.h,OQ x.y cell goal,GW⟩::L)->Q x.y.next 0 w'):wo (sZ r.p) cell goal w Q:=by
 apply Mx;refine ld (ao0 s λw s=>?_);by_cases h0:vv x.w x.h x.y cell goal=0
 ·rw[Ev h0,cond_false];obtain⟨hc,hg,hw,hl,hne⟩:=ajX h0;obtain⟨ok,s⟩:=q9 s;refine ah (lP s 0 rfl ?_);have DR:=(uQ (ai s)).1;have Q8:=DR.Jb;have s:=pk 3 [1,0,2] s;refine aci s hn hl λur w eu s=>?_;refine ah (lP s 1 rfl ?_);have s:=pk 3 [2,1,0] s;have hfree:Aj x.ws cell=true:=by rw[ok.fl.free hc,hw];rfl
  refine Nl s (by omega) (λe=>by grind) λ_ fH w s=>?_;have hno:=(akV ok.may).1 hw;have hmay:=akU (u:=⟨x.y.next,cell,goal⟩) ok.may (λv hv=>(DR.jC v hv).2) Q8.1 hc hg hno;have s:=gf (A:=[_,_,_]) (B:=[av r.p 125 (zA ⟨r.p,ur,{r.fl with fH:=fH}⟩ ⟨x.w,x.h,OQ x.y cell goal,x.ws.set cell.toNat (x.y.next+1)⟩),_,_]) [1,2,0] s (by unfold zA;rw[eu];rfl) (by decide);refine hok h0 ⟨r.p,ur,{r.fl with fH:=fH}⟩ _ w rfl (x7 s ⟨hmay,aoY hmay (by rw[List.append_nil];exact ok.fl)⟩)
 grind
def ao1 {done us:List aU}{u:aU}(h:((done++u::us).map (·.id)).Pairwise (·<·)):(∀v∈done,¬v.id=u.id)/\∀v∈us,¬v.id=u.id:=by
 rw[List.map_append,List.map_cons,List.pairwise_append,List.pairwise_cons]at h;refine⟨λv hv e=>?_,λv hv e=>?_⟩
 ·have:=h.2.2 v.id (List.mem_map.2 ⟨v,hv,rfl⟩) u.id (List.mem_cons_self ..);omega
 ·have:=h.2.1.1 v.id (List.mem_map.2 ⟨v,hv,rfl⟩);omega
def aal {done us:List aU}{u:aU}(h:((done++u::us).map (·.id)).Pairwise (·<·)):((done++u::us).filter λv=>!decide (v.id=u.id))=done++us:=by
 obtain⟨h1,h2⟩:=ao1 h;rw[List.filter_append,List.filter_cons,decide_eq_true rfl,List.filter_eq_self.2 λv hv=>?_,List.filter_eq_self.2 λv hv=>?_]
 all_goals grind
theorem aiT {done us:List aU}{u:aU}{f:aU->aU}(h:((done++u::us).map (·.id)).Pairwise (·<·)):((done++u::us).map λv=>if v.id=u.id then f v else v)=done++f u::us:=by
 obtain⟨h1,h2⟩:=ao1 h;have e:∀l:List aU,(∀v∈l,¬v.id=u.id)->(l.map λv=>if v.id=u.id then f v else v)=l:=λl hl=>by have:=List.map_congr_left (f:=λv=>if v.id=u.id then f v else v) (g:=id) λv hv=>if_neg (hl v hv);rw[this,List.map_id]
 simp_all
def acq {us:List aU}{u:aU}(h:gN us id=some u):u.id=id/\∃done rest,us=done++u::rest:=by have h1:=List.find?_some h;have h2:=List.mem_of_find?_eq_some h;exact⟨of_decide_eq_true h1,List.append_of_mem h2⟩
def aam {done us:List aU}{u:aU}(h:((done++u::us).map (·.id)).Pairwise (·<·)):gN (done++u::us) u.id=some u:=
 Xe h (by rw[List.getElem?_append_right (Nat.le_refl _),Nat.sub_self];rfl)
def E9 {Q:World->Prop}{done us:List aU}{u:aU}(hu:x.y.us=done++u::us)(s:Sep F W w (fX r x::L))
  (h:∀r' GW w',r'.p=r.p->Sep F W w' (fX r' ⟨x.w,x.h,⟨x.y.most,x.y.next,done++us⟩,GW⟩::L)->Q w'):nI (sZ r.p) u.id u.cell u.goal w Q:=by
 apply Ol;obtain⟨ok,s⟩:=q9 s;have hmay:=ok.may;have hfl:=ok.fl;rw[hu]at hmay hfl;have amd:=hmay.at_ u (by simp);have DR:=(uQ (ai s)).1;have hru:=DR.jC u (by rw[hu];simp);have Q8:=DR.Jb;refine aN s λub w s=>?_;have s:=ay s;refine ah (lP s 1 rfl (lI s 0 rfl ?_));have s:=pk 4 [2,0,1,3] s;refine aag (by unfold iK;omega) s (by rw[hu,aam hmay.ids];rfl) λur w eu s=>?_;have s:=ay s;refine ah (lP s 2 rfl (lI s 1 rfl ?_));have ed:kY x.y u.id=⟨x.y.most,x.y.next,done++us⟩:=by rw[kY,hu,aal hmay.ids]
 rw[ed]at s;have s:=pk 4 [3,0,2] s;have aqS:=Au hmay.nd (u:=u) (by simp);have D9:=hmay.sub (us':=done++us) (List.Sublist.append_left (List.sublist_cons_self _ _) _);refine LC s (λe=>?_) λ_ fH w s=>?_
 ·rw[hfl.who amd.1,aqS]at e;omega
 ·have s:=gf (A:=[_,_,_]) (B:=[av r.p 125 (zA ⟨r.p,ur,{r.fl with fH:=fH}⟩ ⟨x.w,x.h,⟨x.y.most,x.y.next,done++us⟩,x.ws.set u.cell.toNat 0⟩),_,_]) [2,1,0] s (by unfold zA;rw[eu];rfl) (by decide);refine h ⟨r.p,ur,{r.fl with fH:=fH}⟩ _ w rfl (x7 s ⟨D9,akT hmay hfl⟩)
def acs {Q:Int->World->Prop}(hc:bK x.w x.h cell)(s:Sep F W w (fX r x::L))(h:Q (vu x.y.us cell) w):yL (sZ r.p) cell w Q:=by apply PM;obtain⟨ok,so⟩:=q9 s;refine ld (ah (lP so 0 rfl ?_));apply Bl (Gy (ai (ai so)));rw[ok.fl.who hc];exact h
def DS {Q:Option Addr->Nat->Nat->World->Prop}(s:Sep F W w (fX r x::L))(h:∀a n c w',Sep F W w' (ak a n c 43 3 (flat iC x.y.us)::fX r x::L)->Q a n c w'):mX (sZ r.p) w Q:=by apply Dm;obtain⟨ok,s⟩:=q9 s;refine ld (ah (lP s 0 rfl ?_));refine ack (iZ s) λa n c w s=>?_;have s:=pk 4 [2,1,3,0] s;exact h a n c w (cg (x7 s ok) (List.Perm.swap _ _ _))
def SV {Q:Int->World->Prop}(zL:iK id)(s:Sep F W w (fX r x::L))(h12:gN x.y.us id=none->∀w',Sep F W w' (fX r x::L)->Q 12 w')
  (h7:∀u,gN x.y.us id=some u->¬bK x.w x.h goal->∀w',Sep F W w' (fX r x::L)->Q 7 w')
  (h13:∀u,gN x.y.us id=some u->bK x.w x.h goal->u.cell=goal->∀r' GW w',r'.p=r.p->Sep F W w' (fX r' ⟨x.w,x.h,kY x.y id,GW⟩::L)->Q 13 w')
  (h0:∀u,gN x.y.us id=some u->bK x.w x.h goal->u.cell≠goal->∀r' GW w',r'.p=r.p->Sep F W w' (fX r' ⟨x.w,x.h,vS x.y id λu=>⟨u.id,u.cell,goal⟩,GW⟩::L)->Q 0 w'):sQ (sZ r.p) id goal w Q:=by
 apply JE;obtain⟨ok,s⟩:=q9 s;refine ld (ah (lP s 0 rfl ?_));have cl:∀{w:World} {A:As},Sep F W w (A::v8 r.un x.y::av r.p 125 (zA r x)::vp r.fl x.ws::L)->Sep F W w (fX r x::A::L):=λs=>x7 (pk 4 [2,1,3,0] s) ok;refine sF (iZ s) zL (λhn w s=>?_) λu hu w s=>?_
 ·refine aS s λp w s=>?_;refine sT s 0 rfl λw s=>?_;refine sT s 0 rfl λw s=>?_;refine sT s 0 rfl λw s=>?_;exact h12 hn w (ai (cg (cl s) (List.Perm.swap _ _ _)))
 ·obtain⟨eid,done,rest,Hi⟩:=acq hu;have hmay:=ok.may;rw[Hi]at hmay;refine aS s λp w s=>?_;refine sT s 0 rfl λw s=>?_;refine sT s 0 rfl λw s=>?_;refine ax s (i:=0) rfl rfl rfl λw s=>?_;refine amc (cl s) λw s=>?_;by_cases hg:bK x.w x.h goal
  ·rw[decide_eq_true hg,Bool.not_true,cond_false];apply lI s 1 rfl;apply aoZ;by_cases hcg:u.cell=goal
   ·rw[if_pos hcg];refine lI s 1 rfl (lI s 1 rfl (lI s 1 rfl ?_));refine E9 Hi s λr' GW w e s=>?_;apply h13 u hu hg hcg r' GW w e;have ed:kY x.y id=⟨x.y.most,x.y.next,done++rest⟩:=by rw[kY,<-eid,Hi,aal hmay.ids]
    rw[ed];exact ai (iZ s)
   ·rw[if_neg hcg];obtain⟨ok,s⟩:=q9 s;rw[Ev rfl,cond_false];refine ah (lP s 0 rfl ?_);have s:=pk 4 [1,0,2] s;refine acj zL s (λhn=>by rw[hn]at hu;cases hu) λ_ ur w eu s=>?_;have s:=gf (A:=[_,_,_]) (B:=[av r.p 125 (zA ⟨r.p,ur,r.fl⟩ ⟨x.w,x.h,vS x.y id λu=>⟨u.id,u.cell,goal⟩,x.ws⟩),_,_]) [1,0,2] s (by unfold zA;rw[eu];rfl) (by decide);have eT:(vS x.y id λu=>⟨u.id,u.cell,goal⟩).us=done++⟨u.id,u.cell,goal⟩::rest:=by rw[vS,Hi,<-eid];exact aiT hmay.ids
    have hu1:=hmay.at_ u (by simp);have hnd:=hmay.nd;rw[List.map_append,List.map_cons,List.nodup_append,List.nodup_cons]at hnd;have D9:nS x.w x.h (done++⟨u.id,u.cell,goal⟩::rest):=hmay.WD rfl hu1.1 hg (by rw[List.map_append,List.mem_append];exact λq=>q.elim (λq=>hnd.2.2 _ q _ (List.mem_cons_self ..) rfl) hnd.2.1.1)
    refine h0 u hu hg hcg ⟨r.p,ur,r.fl⟩ x.ws w rfl (x7 s ⟨?_,ok.fl.len,λc hc=>?_⟩)
    ·rw[eT];exact D9
    ·rw[eT,ok.fl.at_ c hc,Hi];congr 1;by_cases e:c=u.cell
     ·rw[e,Au hmay.nd (by simp),Au (u:=⟨u.id,u.cell,goal⟩) D9.nd (by simp)]
     ·refine aak hmay.nd D9.nd λv hv=>?_;have:∀z:aU,z.cell=u.cell->v≠z:=λz hz q=>e (by rw[<-hv,q,hz]);simp[this u rfl,this ⟨u.id,u.cell,goal⟩ rfl]
  ·rw[decide_eq_false hg,Bool.not_false,cond_true];exact h7 u hu hg w (ai (iZ s))
def Ux {Q:Int->World->Prop}(zL:iK id)(s:Sep F W w (fX r x::L))(h12:gN x.y.us id=none->∀w',Sep F W w' (fX r x::L)->Q 12 w')
  (h0:∀u,gN x.y.us id=some u->∀r' GW w',r'.p=r.p->Sep F W w' (fX r' ⟨x.w,x.h,kY x.y id,GW⟩::L)->Q 0 w'):tQ (sZ r.p) id w Q:=by
 apply Kf;obtain⟨ok,s⟩:=q9 s;refine ld (ah (lP s 0 rfl ?_));have cl:∀{w:World} {A:As},Sep F W w (A::v8 r.un x.y::av r.p 125 (zA r x)::vp r.fl x.ws::L)->Sep F W w (fX r x::A::L):=λs=>x7 (pk 4 [2,1,3,0] s) ok;refine sF (iZ s) zL (λhn w s=>?_) λu hu w s=>?_
 ·refine aS s λp w s=>?_;refine sT s 0 rfl λw s=>?_;refine sT s 0 rfl λw s=>?_;refine sT s 0 rfl λw s=>?_;exact h12 hn w (ai (cg (cl s) (List.Perm.swap _ _ _)))
 ·obtain⟨eid,done,rest,Hi⟩:=acq hu;have hmay:=ok.may;rw[Hi]at hmay;refine aS s λp w s=>?_;refine sT s 0 rfl λw s=>?_;refine sT s 0 rfl λw s=>?_;refine ax s (i:=0) rfl rfl rfl λw s=>?_;refine lI s 0 rfl (lI s 0 rfl (lI s 0 rfl ?_));refine E9 Hi (cl s) λr' GW w e s=>?_;apply h0 u hu r' GW w e;have ed:kY x.y id=⟨x.y.most,x.y.next,done++rest⟩:=by rw[kY,<-eid,Hi,aal hmay.ids]
  rw[ed];exact ai (iZ s)
end
def aBB:zc T 51=[ae 0,ae 0]:=rfl
def NU (w h:Int)(y:tE)(ds:List Int):tE:=⟨y.most,y.next,(dg w h [] (y.us.zip ds)).1⟩
section
variable {F:Nat->Prop}{W w w0:World}{L:List As}{r:CrR}{x:Ho}{da ma ga ta:Option Addr}{dn dc mn mc gn gc tn tc i mb ub:Nat}{ds:List Int}{tm:Int}
def aqT {P7:Option Addr->Option Addr->Nat->Nat->Option Addr->Nat->Nat->Option Addr->Nat->Nat->Int->Int->World->Prop}{Q:Option Addr->Nat->Nat->Option Addr->Nat->Nat->Int->World->Prop}{done us:List aU}{u:aU}{d:Int}(hi:i<=1000000000)
  (hu:x.y.us=done++u::us)(hb:uH x.w x.h (done++u::us) u d=true)(s:Sep F W w (av ub 43 (iC u)::av mb 51 (lN (u.id,bf x.w x.h u.cell d))::fX r x::L))
  (next:∀r' GW w',r'.p=r.p->Sep F W w' (fX r' ⟨x.w,x.h,⟨x.y.most,x.y.next,(done++nW x.w x.h u d)++us⟩,GW⟩::L)->P7 (sZ r.p) ma mn mc ga gn gc ta tn tc tm ((i+1:Nat):Int) w'):
  lZ P7 Q (sZ r.p) ma mn mc ga gn gc (aZ mb) (aZ ub) ta tn tc tm i w:=by
 rw[lZ,NS hi];refine lI s 1 rfl (lI s 0 rfl ?_);unfold nW at next
 have hto:=aiP hb;obtain⟨_,hnot⟩:=aei.1 hb;generalize bf x.w x.h u.cell d=to at*;by_cases hg:to=u.goal
 ·rw[eC hg,cond_true];refine lI s 0 rfl (lI s 0 rfl (lI s 0 rfl ?_));refine E9 hu (pk 3 [2] s) λr' GW w e s=>?_;apply next r' GW w e
  simp_all
 ·rw[cQ hg,cond_false];rw[if_neg hg]at next
  have s:=ay s;obtain⟨ok,s⟩:=q9 (pk 3 [2,0,1] s);have hmay:=ok.may;have hfl:=ok.fl;rw[hu]at hmay hfl;have amd:=hmay.at_ u (by simp);have DR:=(uQ (ai s)).1;have hru:=DR.jC u (by rw[hu];simp);have Q8:=DR.Jb;have aqS:=Au hmay.nd (u:=u) (by simp);refine ah (lP s 0 rfl (lI s 3 rfl (lI s 4 rfl ?_)));have s:=pk 5 [2,0,1,3,4] s;have hw1:Ci x.ws u.cell=u.id:=by rw[hfl.who amd.1,aqS]
  have hfree:Aj x.ws to=true:=by rw[hfl.free hto,Ig hnot];rfl
  refine XX s (λe=>?_) λ_ _ fH w s=>?_
  ·rw[hw1,hfree]at e;rcases e with e|e
   ·omega
   ·cases e
  ·have s:=ay s;refine ah (lP s 1 rfl (lI s 4 rfl (lI s 4 rfl ?_)));have s:=pk 5 [2,0,1] s;refine aae (by unfold iK;omega) s (λhn=>?_) λ_ ur w eu s=>?_
   ·rw[hu,aam hmay.ids]at hn;cases hn
   ·have eT:(vS x.y u.id λu=>⟨u.id,to,u.goal⟩)=⟨x.y.most,x.y.next,(done++[⟨u.id,to,u.goal⟩])++us⟩:=by rw[vS,hu,aiT hmay.ids,List.append_assoc];rfl
    rw[eT,hw1]at s;have D9:nS x.w x.h (done++⟨u.id,to,u.goal⟩::us):=hmay.WD rfl hto amd.2 λq=>hnot (by rw[List.map_append,List.mem_append]at q⊢;exact q.imp id λq=>by rw[List.map_cons];exact List.mem_cons_of_mem _ q)
    have s:=gf (A:=[_,_,_]) (B:=[av r.p 125 (zA ⟨r.p,ur,{r.fl with fH:=fH}⟩ ⟨x.w,x.h,⟨x.y.most,x.y.next,(done++[⟨u.id,to,u.goal⟩])++us⟩,(x.ws.set u.cell.toNat 0).set to.toNat (u.id+1)⟩),_,_]) [2,0,1] s (by unfold zA;rw[eu];rfl) (by decide);refine next ⟨r.p,ur,{r.fl with fH:=fH}⟩ _ w rfl (x7 s ⟨?_,?_⟩)
    ·rw[List.append_assoc];exact D9
    ·rw[List.append_assoc];exact aoY D9 (akT hmay hfl)
def aan {Q:Option Addr->Nat->Nat->Option Addr->Nat->Nat->Int->World->Prop}(hD:∀w',Sep F W w' L->Sl w' da dn dc 1 one ds)(hlen:ds.length=x.y.us.length)(hr:∀d∈ds,0<=d/\d<=5)(s:Sep F W w (fX r x::L))
  (h:∀r' GW ma mn mc ga gn gc w',r'.p=r.p->Sep F W w' (ak ma mn mc 51 2 (flat lN (dg x.w x.h [] (x.y.us.zip ds)).2.1)::ak ga gn gc 3 1 (flat one (dg x.w x.h [] (x.y.us.zip ds)).2.2)::fX r' ⟨x.w,x.h,NU x.w x.h x.y ds,GW⟩::L)->Q ma mn mc ga gn gc 0 w'):
  xN (sZ r.p) da dn dc w Q:=by
 apply OC;have s:=ay s;obtain⟨ok,so⟩:=q9 s;have DR:=(uQ (ai so)).1;have oX:=DR.nP;have Xd:=DR.most;refine ld (ah (lI so 0 rfl (ah (lI so 0 rfl ?_))));refine DS s λua un uc w s=>?_;obtain⟨_,so⟩:=q9 (ai s);refine⟨cj so 0 rfl,cj so 0 rfl,?_⟩;have hU:=aO s (i:=0) rfl FI (by decide);have hun:=hU.len;have ayq:(x.y.us.zip ds).map (·.1)=x.y.us:=by rw[List.map_fst_zip];omega
 have hml:=(NR (w:=x.w) (h:=x.h) (x.y.us.zip ds) []).2;rw[List.length_zip]at hml;refine aej s hU (hD _ (ai (ai s))) hlen (by omega) hr ok.may λaa an ac ma mn mc ga gn gc w s _=>?_;have s:=pk 4 [3,0,1] s;have hmn:=(aO s (i:=1) rfl NT (by decide)).len;have loop:∀(j i:Nat) (r':CrR) (x':Ho) (done:List aU) (todo:List (aU×Int)) (w:World),i+j=mn->r'.p=r.p->x'.w=x.w->x'.h=x.h->x'.y=⟨x.y.most,x.y.next,done++todo.map (·.1)⟩->(dg x.w x.h done todo).2.1=(dg x.w x.h [] (x.y.us.zip ds)).2.1.drop i->(dg x.w x.h done todo).1=(dg x.w x.h [] (x.y.us.zip ds)).1->
   Sep F W w (fX r' x'::ak ma mn mc 51 2 (flat lN (dg x.w x.h [] (x.y.us.zip ds)).2.1)::ak ga gn gc 3 1 (flat one (dg x.w x.h [] (x.y.us.zip ds)).2.2)::L)->
   pN Q (j+1) (sZ r.p) ma mn mc ga gn gc ma mn mc (mn:Int) i w:=by
  intro j;induction j with
  |zero=>
   intro i r' x' done todo w hij er ew eh ey e1 e2 s;show pM _ _ _ _ _ _ _ _ _ _ _ _ _ _ _;rw[pM,bp];rw[List.drop_eq_nil_of_le (by omega)]at e1;have e3:=acn _ _ e1;obtain⟨w1,h1,y1,ws1⟩:=x';subst ew eh ey;apply h r' ws1 ma mn mc ga gn gc w er;rw[NU,<-e2,e3];exact pk 3 [1,2,0] s
  |succ j ih=>
   intro i r' x' done todo w hij er ew eh ey e1 e2 s;show pM _ _ _ _ _ _ _ _ _ _ _ _ _ _ _;rw[pM,bN];refine(aO s (i:=1) rfl NT (by decide)).El rfl (by omega) λp m hm hc=>?_;have hdr:(dg x.w x.h [] (x.y.us.zip ds)).2.1.drop i=m::(dg x.w x.h [] (x.y.us.zip ds)).2.1.drop (i+1):=by obtain⟨hlt,e⟩:=List.getElem?_eq_some_iff.1 hm;rw[List.drop_eq_getElem_cons hlt,e]
   rw[hdr]at e1;obtain⟨done',u,d,rest,hb,hsp,em,e3,e4⟩:=aco _ _ e1;have Hi:x'.y.us=done'++u::rest.map (·.1):=by rw[ey,hsp]
   rw[<-ew,<-eh]at hb em;refine aR (hc 0 _ rfl) (aR (hc 1 _ rfl) ?_);refine aS s λmb w s=>?_;refine sT s 0 rfl λw s=>?_;refine ax s (i:=0) rfl rfl rfl λw s=>?_;have s:=s;rw[<-er];obtain⟨ok',s⟩:=q9 (pk 4 [1,0,2,3] s);have s:=ay s;have aBC:=(uQ (ai s)).1.jC u (by rw[Hi];simp);have aBD:=(uQ (ai s)).1.Jb;have hgu:gN x'.y.us m.1=some u:=by have:=ok'.may.ids;rw[Hi]at this;rw[Hi,em];exact aam this
   have zL:iK m.1:=by rw[em];unfold iK;show _<=u.id/\u.id<_;omega
   have go:∀{ub:Nat} {w:World},Sep F W w (av ub 43 (iC u)::av mb 51 (lN m)::fX r' x'::ak ma mn mc 51 2 (flat lN (dg x.w x.h [] (x.y.us.zip ds)).2.1)::ak ga gn gc 3 1 (flat one (dg x.w x.h [] (x.y.us.zip ds)).2.2)::L)->
     lZ (pN Q (j+1)) Q (sZ r'.p) ma mn mc ga gn gc (aZ mb) (aZ ub) ma mn mc (mn:Int) i w:=λ{ub w} s=>by
    rw[em]at s;refine aqT (by omega) Hi hb s λr2 ws2 w e5 s=>?_;rw[er];refine ih (i+1) r2 ⟨x'.w,x'.h,⟨x'.y.most,x'.y.next,(done'++nW x'.w x'.h u d)++rest.map (·.1)⟩,ws2⟩ (done'++nW x.w x.h u d) rest w (by omega) (e5.trans er) ew eh ?_ e3 (e4.trans e2) s;rw[ew,eh,ey]
   refine ah (lP s 0 rfl (lI s 3 rfl ⟨?_,?_⟩))
   ·have s:=iZ s;refine sF s zL (λhn=>by rw[hn]at hgu;cases hgu) λv hv w s=>?_;rw[hgu]at hv;cases hv;refine aS s λub w s=>?_;refine⟨cj s 4 rfl,cj s 2 rfl,?_⟩;refine sT s 0 rfl λw s=>?_;refine sT s 0 rfl λw s=>?_;refine ax s (i:=0) rfl rfl rfl λw s=>?_;have s:=x7 (pk 7 [2,1,3,0,4,5,6] s) ok';exact go (pk 5 [1,2,0,3,4] s)
   ·refine aS s λub w s=>?_;refine⟨cj s 4 rfl,cj s 1 rfl,?_⟩;have s:=pk 7 [2,0,1,3,4,5,6] s;refine sF s zL (λhn=>by rw[hn]at hgu;cases hgu) λv hv w s=>?_;rw[hgu]at hv;cases hv;refine sT s 1 rfl λw s=>?_;refine sT s 1 rfl λw s=>?_;refine ax s (i:=1) rfl rfl rfl λw s=>?_;have s:=x7 (pk 7 [2,0,3,1,4,5,6] s) ok';exact go (pk 5 [1,2,0,3,4] s)
 exact⟨mn+1,loop mn 0 r x [] (x.y.us.zip ds) w (by omega) rfl rfl rfl (by rw[ayq];rfl) rfl rfl s⟩
end
end Go.Proofs.YtmegplnmiepfbaaGreatDoor.S
namespace Go.Proofs.YtmegplnmiepfbaaGreatDoor.S
open Go.Sx
abbrev Av:=List (Int×List (Int×List Int))
def zB (s id:Int):List (Int×List Int)->List (Int×List Int)
 |[]=>[(s,[id])]
 |q::r=>if q.1=s then(s,q.2++[id])::r else q::zB s id r
def qi (g s id:Int):Av->Av
 |[]=>[(g,[(s,[id])])]
 |q::r=>if q.1=g then(g,zB s id q.2)::r else q::qi g s id r
def SW (w h:Int)(st:Av)(u:aU):Av:=qi u.goal (aC w h u.cell) u.id st
def acu (w h:Int)(us:List aU):Av:=us.foldl (SW w h) []
structure ED where
 g:Int
 s:Int
 ids:List Int
def C8 (st:Av):List ED:=st.flatMap λq=>q.2.map λp=>⟨q.1,p.1,p.2⟩
def kW (w h:Int)(us:List aU):List ED:=C8 (acu w h us)
section
variable {g s d w h:Int}{st:Av}{us:List aU}
def aqU {p1 p2:List (Int×List Int)}{ids:List Int}(hn:s∉p1.map (·.1)):zB s d (p1++(s,ids)::p2)=p1++(s,ids++[d])::p2:=by
 induction p1 with
 |nil=>simp[zB]
 |cons q p1 ih=>
  rw[List.map_cons,List.mem_cons,not_or]at hn;rw[List.cons_append,zB,if_neg (λe=>hn.1 e.symm),ih hn.2];rfl
def aqV {l:List (Int×List Int)}(hn:s∉l.map (·.1)):zB s d l=l++[(s,[d])]:=by
 induction l with
 |nil=>rfl
 |cons q p1 ih=>
  rw[List.map_cons,List.mem_cons,not_or]at hn;rw[List.cons_append,zB,if_neg (λe=>hn.1 e.symm),ih hn.2]
def aiU {g1 g2:Av}{l:List (Int×List Int)}(hn:g∉g1.map (·.1)):qi g s d (g1++(g,l)::g2)=g1++(g,zB s d l)::g2:=by
 induction g1 with
 |nil=>simp[qi]
 |cons q p1 ih=>
  rw[List.map_cons,List.mem_cons,not_or]at hn;rw[List.cons_append,qi,if_neg (λe=>hn.1 e.symm),ih hn.2];rfl
def aqW (hn:g∉st.map (·.1)):qi g s d (st++[(g,[])])=qi g s d st:=by
 induction st with
 |nil=>simp[qi,zB]
 |cons q p1 ih=>
  rw[List.map_cons,List.mem_cons,not_or]at hn;rw[List.cons_append,qi,if_neg (λe=>hn.1 e.symm),ih hn.2,qi,if_neg (λe=>hn.1 e.symm)]
def ame:(qi g s d st).map (·.1)=if g∈st.map (·.1)then st.map (·.1)else st.map (·.1)++[g]:=by
 induction st with
 |nil=>rfl
 |cons q p1 ih=>
  rw[qi];grind
def SX (us:List aU):(acu w h us).map (·.1)=tG us:=by
 have:∀(us:List aU) (st:Av),(us.foldl (SW w h) st).map (·.1)=us.foldl EC (st.map (·.1)):=by
  intro us;induction us with
  |nil=>intro st;rfl
  |cons u us ih=>
   intro st;rw[List.foldl_cons,List.foldl_cons,ih];congr 1;exact ame
 exact this us []
def aao {l:List (Int×List Int)}{x i:Int}:(∃p∈zB s d l,p.1=x/\i∈p.2)↔(x=s/\i=d)\/∃p∈l,p.1=x/\i∈p.2:=by
 induction l with
 |nil=>
  simp[zB,List.mem_singleton,exists_eq_left,List.not_mem_nil,false_and,exists_false,or_false];grind
 |cons q l ih=>
  rw[zB];split
  ·rename_i e;subst e;constructor
   ·grind
   ·rintro (⟨rfl,rfl⟩|⟨p,hp,e1,e2⟩)
    ·simp_all
    ·rcases List.mem_cons.1 hp with rfl|hp
     ·simp_all
     grind
  grind
def inG (st:Av)(g s i:Int):Prop:=∃q∈st,q.1=g/\∃p∈q.2,p.1=s/\i∈p.2
def aqX {x y i:Int}:inG (qi g s d st) x y i↔(x=g/\y=s/\i=d)\/inG st x y i:=by
 unfold inG;induction st with
 |nil=>
  simp[qi,List.mem_singleton,exists_eq_left,List.not_mem_nil,false_and,exists_false,or_false];grind
 |cons q st ih=>
  rw[qi];split
  ·rename_i e;subst e;constructor
   ·rintro ⟨p,hp,e1,e2⟩;rcases List.mem_cons.1 hp with rfl|hp
    ·rcases aao.1 e2 with⟨e3,e4⟩|e2
     all_goals grind
    grind
   ·rintro (⟨rfl,e3,e4⟩|⟨p,hp,e1,e2⟩)
    ·exact⟨_,List.mem_cons_self ..,rfl,aao.2 (.inl ⟨e3,e4⟩)⟩
    ·rcases List.mem_cons.1 hp with rfl|hp
     ·exact⟨_,List.mem_cons_self ..,e1,aao.2 (.inr e2)⟩
     grind
  ·constructor
   ·rintro ⟨p,hp,e1,e2⟩;rcases List.mem_cons.1 hp with rfl|hp
    ·grind
    ·exact(ih.1 ⟨p,hp,e1,e2⟩).imp id λ⟨p,hp,e⟩=>⟨p,List.mem_cons_of_mem _ hp,e⟩
   ·rintro (h|⟨p,hp,e1,e2⟩)
    ·simp_all
    ·rcases List.mem_cons.1 hp with rfl|hp
     ·grind
     ·obtain⟨p,hp,e⟩:=ih.2 (.inr ⟨p,hp,e1,e2⟩);grind
def aqY {x y i:Int}:inG (acu w h us) x y i↔∃u∈us,u.goal=x/\aC w h u.cell=y/\u.id=i:=by
 have:∀(us:List aU) (st:Av),inG (us.foldl (SW w h) st) x y i↔inG st x y i\/∃u∈us,u.goal=x/\aC w h u.cell=y/\u.id=i:=by
  intro us;induction us with
  |nil=>grind
  |cons u us ih=>
   intro st;rw[List.foldl_cons,ih];rw[SW,aqX];grind
 have h0:¬inG [] x y i:=λ⟨q,hq,_⟩=>by cases hq
 unfold acu;grind
def WK {x y i:Int}:(∃p∈kW w h us,p.g=x/\p.s=y/\i∈p.ids)↔∃u∈us,u.goal=x/\aC w h u.cell=y/\u.id=i:=by
 rw[<-aqY];unfold kW C8 inG;constructor
 ·rintro ⟨p,hp,e1,e2,e3⟩;obtain⟨q,hq,hp⟩:=List.mem_flatMap.1 hp;grind
 ·rintro ⟨q,hq,e1,z,hz,e2,e3⟩;exact⟨⟨q.1,z.1,z.2⟩,List.mem_flatMap.2 ⟨q,hq,List.mem_map.2 ⟨z,hz,rfl⟩⟩,e1,e2,e3⟩
def agH (st:Av):Prop:=∀q∈st,∀p∈q.2,p.2≠[]
def ao2 {l:List (Int×List Int)}(h:∀p∈l,p.2≠[]):∀p∈zB s d l,p.2≠[]:=by
 induction l with
 |nil=>intro p hp;simp[zB,List.mem_singleton]at hp;grind
 |cons q l ih=>
  intro p hp;rw[zB]at hp;split at hp
  ·rcases List.mem_cons.1 hp with rfl|hp
   ·simp
   ·exact h p (List.mem_cons_of_mem _ hp)
  grind
def ao3 (h:agH st):agH (qi g s d st):=by
 induction st with
 |nil=>
  intro q hq p hp;simp[qi,List.mem_singleton]at hq;grind
 |cons q st ih=>
  intro z hz;rw[qi]at hz;split at hz
  ·rcases List.mem_cons.1 hz with rfl|hz
   ·exact ao2 (h q (List.mem_cons_self ..))
   ·exact h z (List.mem_cons_of_mem _ hz)
  ·rcases List.mem_cons.1 hz with rfl|hz
   ·exact h z (List.mem_cons_self ..)
   ·exact ih (λq hq=>h q (List.mem_cons_of_mem _ hq)) z hz
def aqZ (l:List (Int×List Int)):(zB s d l).length<=l.length+1:=by
 induction l with
 |nil=>exact Nat.le_refl _
 |cons q l ih=>
  rw[zB];grind
def KB (q:Int×List (Int×List Int)):C8 (q::st)=(q.2.map λp=>⟨q.1,p.1,p.2⟩)++C8 st:=rfl
def aq0 (st:Av):(C8 (qi g s d st)).length<=(C8 st).length+1:=by
 induction st with
 |nil=>exact Nat.le_refl _
 |cons q st ih=>
  rw[qi];split
  ·rw[KB,KB,List.length_append,List.length_append,List.length_map,List.length_map];have:=aqZ (s:=s) (d:=d) q.2;grind
  ·rw[KB,KB,List.length_append,List.length_append];omega
def WL (w h:Int)(us:List aU):(kW w h us).length<=us.length:=by
 have:∀(us:List aU) (st:Av),(C8 (us.foldl (SW w h) st)).length<=(C8 st).length+us.length:=by
  intro us;induction us with
  |nil=>grind
  |cons u us ih=>
   intro st;rw[List.foldl_cons,List.length_cons];have h1:=ih (SW w h st u);have h2:=aq0 (g:=u.goal) (s:=aC w h u.cell) (d:=u.id) st;have h2:(C8 (SW w h st u)).length<=(C8 st).length+1:=h2;omega
 have:=this us [];have e:(C8 ([]:Av)).length=0:=rfl;rw[e,Nat.zero_add]at this;exact this
def amf {p:ED}(hp:p∈kW w h us):p.ids≠[]:=by
 have:∀(us:List aU) (st:Av),agH st->agH (us.foldl (SW w h) st):=by
  intro us;induction us with
  |nil=>grind
  |cons u us ih=>intro st h;exact ih _ (ao3 h)
 obtain⟨q,hq,hp⟩:=List.mem_flatMap.1 hp;obtain⟨z,hz,rfl⟩:=List.mem_map.1 hp;exact this us [] (λq hq=>by cases hq) q hq z hz
def amg {p:ED}(hp:p∈kW w h us):∃u∈us,u.goal=p.g/\aC w h u.cell=p.s:=by have hf:=amf hp;obtain⟨i,hi⟩:=List.exists_mem_of_ne_nil _ hf;obtain⟨u,hu,e1,e2,_⟩:=WK.1 ⟨p,hp,rfl,rfl,hi⟩;grind
end
end Go.Proofs.YtmegplnmiepfbaaGreatDoor.S
namespace Go.Proofs.YtmegplnmiepfbaaGreatDoor.S
open Go.Sx
attribute [local irreducible] af cA bw bg aA cq bY St Bx Al App cD cy cw bT aL bC aq bR av ak aV mapA
structure Bu where
 a:Option Addr
 n:Nat
 c:Nat
def Tv (q:Bu):Value:=.slice q.a q.n q.c
structure AQ where
 g:Int
 s:Int
 q:Bu
 ids:List Int
def yy (p:AQ):List Value:=[ae p.g,ae p.s,.slice p.q.a p.q.n p.q.c]
def uK (p:AQ):(yy p).length=3:=rfl
def ao4 (x:AQ)(u:Value)(h:u∈yy x):u.oneCell'=true:=by unfold yy at h;simp[List.mem_cons,List.not_mem_nil,or_false]at h;rcases h with rfl|rfl|rfl<;>rfl
def aq1 (p:AQ):As:=ak p.q.a p.q.n p.q.c 3 1 (flat one p.ids)
structure Cy where
 g:Int
 q:Bu
 ps:List AQ
def gpR (G:Cy):As:=ak G.q.a G.q.n G.q.c 211 3 (flat yy G.ps)
def A9 (gs:List Cy):As:=aV True (gs.map gpR)
def Aw (ps:List AQ):As:=aV True (ps.map aq1)
def jX (gs:List Cy):List AQ:=gs.flatMap (·.ps)
def FL (gs:List Cy):Av:=gs.map λG=>(G.g,G.ps.map λp=>(p.s,p.ids))
def atT:P.underlying 180=some (.map 253 3):=by kernel_rfl
def ofT:P.underlying 252=some (.map 3 208):=by kernel_rfl
def avg (w:World):(zeroValue 208).run P w=.ok (Tv ⟨none,0,0⟩) w:=by kernel_rfl
section
variable {F:Nat->Prop}{W w w0:World}{L:List As}
def SY {A B:List As}{X:As}(s:Sep F W w (aV True (A++X::B)::L)):Sep F W w (X::aV True (A++B)::L):=by
 have s:=(gP s).2;have s:=cg (L':=(A++B)++X::L) s (by rw[List.append_assoc,List.append_assoc,List.cons_append];exact List.Perm.append_left _ List.perm_middle.symm)
 have s:=dA s trivial;exact iZ s
def Mc {A B:List As}{X:As}(s:Sep F W w (X::aV True (A++B)::L)):Sep F W w (aV True (A++X::B)::L):=by have s:=(gP (iZ s)).2;refine dA ?_ trivial;apply cg s;rw[List.append_assoc,List.append_assoc,List.cons_append];exact List.Perm.append_left _ List.perm_middle
end
def gOf (ms:List (Int×Bu))(g:Int):Bu:=(fA ms g).getD ⟨none,0,0⟩
structure NV (ms:List (Int×Bu)) (m2:List ((Int×Int)×Int)) (gs:List Cy):Prop where
 hk:oP ms
 IM:oP m2
 nd:(gs.map (·.g)).Nodup
 nds:∀G∈gs,(G.ps.map (·.s)).Nodup
 of_:∀G∈gs,gOf ms G.g=G.q
 no:∀g,g∉gs.map (·.g)->fA ms g=none
 at1:∀g s k,fA m2 (g,s)=some k->∃G∈gs,G.g=g/\0<=k/\(G.ps[k.toNat]?).map (·.s)=some s
 at2:∀G∈gs,∀p∈G.ps,(fA m2 (G.g,p.s)).isSome=true
 pg:∀G∈gs,∀p∈G.ps,p.g=G.g
section
variable {F:Nat->Prop}{W w w0:World}{L:List As}{mw mh:Int}{mb Hq:Nat}{ms:List (Int×Bu)}{m2:List ((Int×Int)×Int)}{gs g1 g2:List Cy}{G:Cy}
def acv {i:Nat}{g:Int}{K:Option Addr->Nat->Nat->World->Prop}(s:Sep F W w L)(hi:L[i]? =some (fQ fu Tv mb ms))(hk:oP ms)(hg:iK g)(h:K (gOf ms g).a (gOf ms g).n (gOf ms g).c w):
  aL P (Instr.lookup 252 (.map (some mb)) (ae g) false) w λv w=>dS v λa n c=>K a n c w:=by
 unfold gOf at h;refine Ez (K:=fu) ofT (avg w) s hi hk hg (λhn=>?_) λq hq=>?_
 ·rw[hn]at h;exact h
 ·rw[hq]at h;exact h
def NV.pairs {G':Cy}(I:NV ms m2 (g1++G::g2))(eg:G'.g=G.g)(eq:G'.q=G.q)(es:G'.ps.map (·.s)=G.ps.map (·.s))(ep:∀p∈G'.ps,p.g=G.g):NV ms m2 (g1++G'::g2):=by
 have hm:∀X,X∈g1++G'::g2->X=G'\/X∈g1++G::g2:=λX hX=>by grind
 have hG:G∈g1++G::g2:=by simp
 have hs:∀k:Nat,(G'.ps[k]?).map (·.s)=(G.ps[k]?).map (·.s):=λk=>by rw[<-List.getElem?_map,<-List.getElem?_map,es]
 have Fa:(g1++G'::g2).map (·.g)=(g1++G::g2).map (·.g):=by simp[eg]
 refine⟨I.hk,I.IM,by rw[Fa];exact I.nd,λX hX=>?_,λX hX=>?_,λg hg=>I.no g (by grind),λg s k hk=>?_,λX hX p hp=>?_,λX hX p hp=>?_⟩
 ·rcases hm X hX with rfl|hX
  ·rw[es];exact I.nds G hG
  ·exact I.nds X hX
 ·rcases hm X hX with rfl|hX
  ·rw[eg,eq];exact I.of_ G hG
  ·exact I.of_ X hX
 ·obtain⟨X,hX,e1,e2,e3⟩:=I.at1 g s k hk;grind
 ·rcases hm X hX with rfl|hX
  ·have:p.s∈X.ps.map (·.s):=List.mem_map.2 ⟨p,hp,rfl⟩;rw[es]at this;obtain⟨p',hp',e⟩:=List.mem_map.1 this;rw[eg,<-e];exact I.at2 G hG p' hp'
  ·exact I.at2 X hX p hp
 ·rcases hm X hX with rfl|hX
  ·grind
  ·exact I.pg X hX p hp
def NV.add {ms':List (Int×Bu)}{Yz:List ((Int×Int)×Int)}{p:AQ}{q:Bu}(I:NV ms m2 (g1++G::g2))(hk:oP ms')(IM:oP Yz)(hm:∀g,fA ms' g=if g=G.g then some q else fA ms g)(D9:∀x,fA Yz x=if x=(G.g,p.s)then some (G.ps.length:Int)else fA m2 x)
  (ep:p.g=G.g)(hn:p.s∉G.ps.map (·.s)):NV ms' Yz (g1++⟨G.g,q,G.ps++[p]⟩::g2):=by
 have hG:G∈g1++G::g2:=by simp
 have Fa:(g1++⟨G.g,q,G.ps++[p]⟩::g2).map (·.g)=(g1++G::g2).map (·.g):=by simp
 have hnd:=I.nd;have hmem:∀X,X∈g1++(⟨G.g,q,G.ps++[p]⟩:Cy)::g2->X=⟨G.g,q,G.ps++[p]⟩\/(X∈g1++G::g2/\X.g≠G.g):=λX hX=>by grind
 refine⟨hk,IM,by grind,λX hX=>?_,λX hX=>?_,λg hg=>?_,λg s k hs=>?_,λX hX x hx=>?_,λX hX x hx=>?_⟩
 ·rcases hmem X hX with rfl|⟨hX,_⟩
  ·rw[List.map_append,List.nodup_append];refine⟨I.nds G hG,by simp,λa ha b hb=>?_⟩;grind
  ·exact I.nds X hX
 ·unfold gOf;rcases hmem X hX with rfl|⟨hX,hne⟩
  ·grind
  ·rw[hm,if_neg hne];exact I.of_ X hX
 ·rw[Fa]at hg;rw[hm,if_neg λe=>hg (by rw[e];exact List.mem_map.2 ⟨G,hG,rfl⟩)];exact I.no g hg
 ·rw[D9]at hs;by_cases e:(g,s)=(G.g,p.s)
  ·rw[if_pos e]at hs;cases hs;cases e;refine⟨⟨G.g,q,G.ps++[p]⟩,by simp,rfl,Int.natCast_nonneg _,?_⟩;simp
  ·rw[if_neg e]at hs;obtain⟨X,hX,e1,e2,e3⟩:=I.at1 g s k hs;rw[List.mem_append,List.mem_cons]at hX;rcases hX with h|rfl|h
   ·exact⟨X,by simp[h],e1,e2,e3⟩
   ·refine⟨⟨X.g,q,X.ps++[p]⟩,by simp,e1,e2,?_⟩;obtain⟨z,hz,_⟩:=Option.map_eq_some_iff.1 e3;rw[List.getElem?_append_left (List.getElem?_eq_some_iff.1 hz).1];exact e3
   ·exact⟨X,by simp[h],e1,e2,e3⟩
 ·rw[D9];split
  ·rfl
  ·rename_i hne;rcases hmem X hX with rfl|⟨hX,_⟩
   ·rcases List.mem_append.1 hx with hx|hx
    ·exact I.at2 G hG x hx
    ·rw[List.mem_singleton]at hx;subst hx;exact(hne rfl).elim
   ·exact I.at2 X hX x hx
 ·rcases hmem X hX with rfl|⟨hX,_⟩
  ·rcases List.mem_append.1 hx with hx|hx
   ·exact I.pg G hG x hx
   ·rw[List.mem_singleton.1 hx];exact ep
  ·exact I.pg X hX x hx
def NV.group (I:NV ms m2 gs)(g:Int):∃g1 G g2,G.g=g/\NV ms m2 (g1++G::g2)/\((gs=g1++G::g2)\/(gs=g1/\g2=[]/\G=⟨g,⟨none,0,0⟩,[]⟩/\g∉gs.map (·.g))):=by
 by_cases h:g∈gs.map (·.g)
 ·obtain⟨G,hG,rfl⟩:=List.mem_map.1 h;obtain⟨g1,g2,rfl⟩:=List.append_of_mem hG;grind
 ·refine⟨gs,⟨g,⟨none,0,0⟩,[]⟩,[],rfl,?_,.inr ⟨rfl,rfl,rfl,h⟩⟩;have hm:∀X,X∈gs++[(⟨g,⟨none,0,0⟩,[]⟩:Cy)]->X∈gs\/X=⟨g,⟨none,0,0⟩,[]⟩:=λX hX=>by grind
  refine⟨I.hk,I.IM,?_,λX hX=>?_,λX hX=>?_,λg' hg=>I.no g' λe=>hg (by grind),λg s k hs=>?_,λX hX x hx=>?_,λX hX x hx=>?_⟩
  ·rw[List.map_append,List.nodup_append];refine⟨I.nd,by simp,λa ha b hb=>?_⟩;grind
  ·rcases hm X hX with hX|rfl
   ·exact I.nds X hX
   grind
  ·rcases hm X hX with hX|rfl
   ·exact I.of_ X hX
   ·rw[gOf,I.no g h];rfl
  ·obtain⟨X,hX,e⟩:=I.at1 g s k hs;grind
  ·rcases hm X hX with hX|rfl
   ·exact I.at2 X hX x hx
   ·cases hx
  ·rcases hm X hX with hX|rfl
   ·exact I.pg X hX x hx
   ·cases hx
end
def aap {g1 g2:List Cy}{g:Int}{q:Bu}{p1 p2:List AQ}{p:AQ}:jX (g1++⟨g,q,p1++p::p2⟩::g2)=(jX g1++p1)++p::(p2++jX g2):=by unfold jX;grind
def ath {α:Type}{p1 p2:List α}{p p':α}:(p1++p::p2).set p1.length p'=p1++p'::p2:=by grind
def ati {α:Type}{p1 p2:List α}{p:α}:(p1++p::p2)[p1.length]? =some p:=by grind
section
variable {F:Nat->Prop}{W w w0:World}{L T:List As}{mw mh:Int}{mb Hq ub:Nat}{ms:List (Int×Bu)}{m2:List ((Int×Int)×Int)}{g1 g2:List Cy}{g:Int}{q:Bu}{p1 p2:List AQ}{p:AQ}{la ta:Option Addr}{ln lc tn tc i:Nat}{tm:Int}{u:aU}
def afv {P6:Int->Int->Option Addr->Nat->Nat->Option Nat->Option Nat->Option Addr->Nat->Nat->Int->Int->World->Prop}{Q:Option Addr->Nat->Nat->World->Prop}(hi:i<=1000000000)(hk:oP ms)(hq:gOf ms g=q)(hg:u.goal=g)(ayr:iK g)(JP:p.ids.length<=1000000000)
  (s:Sep F W w (A9 (g1++⟨g,q,p1++p::p2⟩::g2)::Aw (jX (g1++⟨g,q,p1++p::p2⟩::g2))::fQ fu Tv mb ms::fQ Ku vI Hq m2::av ub 43 (iC u)::T))
  (next:∀q' w',Sep F W w' (A9 (g1++⟨g,q,p1++⟨p.g,p.s,q',p.ids++[u.id]⟩::p2⟩::g2)::Aw (jX (g1++⟨g,q,p1++⟨p.g,p.s,q',p.ids++[u.id]⟩::p2⟩::g2))::fQ fu Tv mb ms::fQ Ku vI Hq m2::T)->P6 mw mh la ln lc (some mb) (some Hq) ta tn tc tm ((i+1:Nat):Int) w'):
  pK P6 Q mw mh la ln lc (some mb) (some Hq) (aZ ub) (p1.length:Int) ta tn tc tm i w:=by
 rw[pK,NS hi];apply lI s 4 rfl;rw[hg];apply acv s (i:=2) rfl hk ayr;rw[hq];rw[aap]at s;unfold A9 Aw at s;rw[List.map_append,List.map_cons,List.map_append,List.map_cons]at s;have s:=SY s;have s:=pk 6 [2,0,1,3,4,5] s;have s:=SY s;have s:=s;have hpn:=(aO s (i:=0) rfl cB (by decide)).len;have hqn:=(aO s (i:=2) rfl uK (by decide)).len;simp[List.length_append,List.length_cons]at hqn;refine CD s (i:=2) rfl rfl (by omega) λb o ea=>?_;obtain⟨qa,qn,qc⟩:=q;subst ea;have hx:=ati (p1:=p1) (p2:=p2) (p:=p);have had:((⟨b,o,none⟩:Addr).add ((p1.length:Int).toNat*3)).add 2=⟨b,o+(p1.length*3+2),none⟩:=by rw[Int.toNat_natCast,d_]
 rw[had];have s:=ay s;apply Ip uK s (i:=2) rfl hx rfl rfl;apply lI s 6 rfl;refine aN s λxb w s=>⟨?_,?_⟩
 ·exact wI s (i:=3) rfl rfl (by rw[sK uK hx (by decide)];rfl)
 ·have src:Src w (sZ xb) 1 1 (one u.id):=⟨rfl,Ff _,λj v hj=>by rw[cm,Nat.zero_add];exact cK s (i:=0) rfl rfl hj⟩;refine iw ef s (i:=1) (bytes:=8) rfl rfl rfl rfl rfl rfl (by decide) rfl src (by simp[maxLen];omega) (by omega) (λe=>by cases e) λra rc w s=>?_;have e:flat one p.ids++one u.id=flat one (p.ids++[u.id]):=by rw[fZ];simp[flat]
  rw[e]at s;refine dW uK s (i:=3) rfl hx rfl (x':=⟨p.g,p.s,⟨ra,p.q.n+1,rc⟩,p.ids++[u.id]⟩) (by decide) rfl rfl λw s=>?_;rw[ath]at s;have s:=pk 8 [1,2,3,4,5,6] s;have s:=Mc s;have s:=pk 5 [1,2,0,3,4] s;have s:=Mc s;apply next ⟨ra,p.q.n+1,rc⟩ w
  unfold A9 Aw;rw[aap,List.map_append,List.map_cons,List.map_append,List.map_cons];exact s
end
def Md (p:AQ):ED:=⟨p.g,p.s,p.ids⟩
def Xf {g1 g2:List Cy}{G:Cy}:FL (g1++G::g2)=FL g1++(G.g,G.ps.map λp=>(p.s,p.ids))::FL g2:=by unfold FL;grind
def NW {gs:List Cy}:(FL gs).map (·.1)=gs.map (·.g):=by unfold FL;simp_all
def atj {g1 g2:List Cy}{g s d:Int}{q q':Bu}{p1 p2:List AQ}{p p':AQ}(h1:g∉g1.map (·.g))(h2:s∉p1.map (·.s))(e1:p.s=s)(e2:p'.s=s)(e3:p'.ids=p.ids++[d]):
  FL (g1++⟨g,q',p1++p'::p2⟩::g2)=qi g s d (FL (g1++⟨g,q,p1++p::p2⟩::g2)):=by
 rw[Xf,Xf,aiU (by rw[NW];exact h1)];simp[List.map_append,List.map_cons];rw[e1,aqU (by grind),e2,e3]
def atk {g1 g2:List Cy}{g s d:Int}{q q':Bu}{p1:List AQ}{p':AQ}(h1:g∉g1.map (·.g))(h2:s∉p1.map (·.s))(e2:p'.s=s)(e3:p'.ids=[d]):
  FL (g1++⟨g,q',p1++[p']⟩::g2)=qi g s d (FL (g1++⟨g,q,p1⟩::g2)):=by
 rw[Xf,Xf,aiU (by rw[NW];exact h1)];simp[List.map_append,List.map_cons,List.map_nil];rw[aqV (by grind),e2,e3]
section
variable {F:Nat->Prop}{W w w0:World}{L T:List As}{mw mh:Int}{mb Hq ub:Nat}{ms:List (Int×Bu)}{m2:List ((Int×Int)×Int)}{g1 g2 gs:List Cy}{g sc:Int}{q:Bu}{ps p1 p2:List AQ}{la ta:Option Addr}{ln lc tn tc i:Nat}{tm:Int}{u:aU}
def NV.ar4 {G:Cy}(I:NV ms m2 (g1++G::g2)):G.g∉g1.map (·.g):=λh=>by have:=I.nd;grind
def aiW {K:Option Addr->Nat->Nat->World->Prop}(hl:ps.length<=1000000000)(s:Sep F W w (av ub 211 [ae g,ae sc,.slice none 0 0]::A9 (g1++⟨g,q,ps⟩::g2)::T))
  (k:∀q' w',Sep F W w' (A9 (g1++⟨g,q',ps++[⟨g,sc,⟨none,0,0⟩,[]⟩]⟩::g2)::T)->K q'.a q'.n q'.c w'):App P #[208,208] 208 (.slice q.a q.n q.c) (.slice (sZ ub) 1 1) w K:=by
 have s:=iZ s;unfold A9 at s;rw[List.map_append,List.map_cons]at s;have s:=SY s;have s:Sep F W w (ak q.a q.n q.c 211 3 (flat yy ps)::_::av ub 211 _::T):=s;have hqn:=(aO s (i:=0) rfl uK (by decide)).len;have src:Src w (sZ ub) 1 3 (yy ⟨g,sc,⟨none,0,0⟩,[]⟩):=⟨rfl,ao4 _,λj v hj=>by rw[cm,Nat.zero_add];exact cK s (i:=2) rfl rfl hj⟩;refine iw ef s (i:=0) (bytes:=40) rfl rfl rfl rfl rfl rfl (by decide) rfl src (by simp[maxLen];omega) (by omega) (λe=>by cases e) λra rc w s=>?_;have e:flat yy ps++yy ⟨g,sc,⟨none,0,0⟩,[]⟩=flat yy (ps++[⟨g,sc,⟨none,0,0⟩,[]⟩]):=by rw[fZ];simp[flat]
 rw[e]at s;apply k ⟨ra,q.n+1,rc⟩ w;have s:=gf (A:=[_,_,_]) (B:=[gpR ⟨g,⟨ra,q.n+1,rc⟩,ps++[⟨g,sc,⟨none,0,0⟩,[]⟩]⟩,_]) [0,1] s rfl (by decide);have s:=Mc s;unfold A9;simp_all
def atl {q':Bu}{p:AQ}(s:Sep F W w (A9 gs::Aw (jX (g1++⟨g,q,ps⟩::g2))::T))(hp:p.q=⟨none,0,0⟩)(hi:p.ids=[]):Sep F W w (A9 gs::Aw (jX (g1++⟨g,q',ps++[p]⟩::g2))::T):=by
 have e1:jX (g1++⟨g,q,ps⟩::g2)=(jX g1++ps)++jX g2:=by unfold jX;grind
 have e2:aq1 p=ak none 0 0 3 1 []:=by unfold aq1;rw[hp,hi];rfl
 rw[e1]at s;rw[aap];unfold Aw at s⊢;rw[List.map_append]at s;rw[List.map_append,List.map_cons,e2];have s:=bD s 3 1;have s:=pk 3 [0,2,1] s;exact cg (Mc s) (List.Perm.swap _ _ _)
structure ami (mw mh:Int) (us:List aU) (i:Nat) (ms:List (Int×Bu)) (m2:List ((Int×Int)×Int)) (gs:List Cy):Prop where
 I:NV ms m2 gs
 pl:FL gs=acu mw mh (us.take i)
 sz:∀G∈gs,G.ps.length<=i/\∀p∈G.ps,p.ids.length<=i
def ami.next {us:List aU}{ms':List (Int×Bu)}{Yz:List ((Int×Int)×Int)}{q':Bu}{p':AQ}(S:ami mw mh us i ms m2 gs)(hu:us[i]? =some u)(I':NV ms' Yz (g1++⟨g,q',p1++p'::p2⟩::g2))(e:FL (g1++⟨g,q',p1++p'::p2⟩::g2)=qi u.goal (aC mw mh u.cell) u.id (FL gs))
  (h1:∀G∈g1,G∈gs)(h2:∀G∈g2,G∈gs)(hl:(p1++p'::p2).length<=i+1)(hp:p'.ids.length<=i+1)(hps:∀p,p∈p1\/p∈p2->p.ids.length<=i):ami mw mh us (i+1) ms' Yz (g1++⟨g,q',p1++p'::p2⟩::g2):=by
 refine⟨I',?_,λG hG=>?_⟩
 ·rw[e,S.pl,List.take_add_one,hu];show _=List.foldl _ _ (us.take i++[u]);rw[List.foldl_append];rfl
 ·have up:∀G∈gs,G.ps.length<=i+1/\∀p∈G.ps,p.ids.length<=i+1:=λG hG=>⟨Nat.le_succ_of_le (S.sz G hG).1,λp hp=>Nat.le_succ_of_le ((S.sz G hG).2 p hp)⟩;grind
def atm {gs:List Cy}(h:∀G∈gs,∀p∈G.ps,p.g=G.g):(jX gs).map Md=C8 (FL gs):=by unfold jX C8 FL;rw[List.map_flatMap,List.flatMap_map];refine congrArg List.flatten ?_|>λe=>(List.flatMap_def ..).trans (e.trans (List.flatMap_def ..).symm);refine List.map_congr_left λG hG=>?_;rw[List.map_map];refine List.map_congr_left λp hp=>?_;show ED.mk _ _ _=ED.mk _ _ _;grind
end
def ar5 {a:Int}{b:Bool}{K:Int->Bool->Prop}(k:K a b):dT (.tuple #[ae a,.bool b]) λl=>dK l λv0 l0=>dI .i64 v0 λx=>dK l0 λv1 l1=>dB v1 λy=>kL l1 (K x y):=k
section
variable {F:Nat->Prop}{W w w0:World}{L T:List As}{mw mh:Int}{la:Option Addr}{ln lc:Nat}{us:List aU}
def ao5 {Q:Option Addr->Nat->Nat->World->Prop}{mb Hq:Nat}{ms:List (Int×Bu)}{m2:List ((Int×Int)×Int)}{gs:List Cy}{ga:Option Addr}{gn gc:Nat}(I:NV ms m2 gs)(h64:∀G∈gs,iK G.g)(v7:(jX gs).length<=1000000)(Fa:gs.length<=1000000)
  (h:∀oa on oc w',Sep No w0 w' (ak oa on oc 211 3 (flat yy (jX gs))::Aw (jX gs)::[])->Q oa on oc w'):
  ∀(j i:Nat) (oa:Option Addr) (on oc:Nat) (w:World),i+j=gn->gs.length=gn->Sep No w0 w (ak oa on oc 211 3 (flat yy (jX (gs.take i)))::ak ga gn gc 3 1 (flat one (gs.map (·.g)))::A9 gs::Aw (jX gs)::fQ fu Tv mb ms::[])->
   Bi Q (j+1) (some mb) oa on oc ga gn gc (gn:Int) i w:=by
 intro j;induction j with
 |zero=>
  intro i oa on oc w hij G8 s;show xp _ _ _ _ _ _ _ _ _ _ _ _;rw[xp,bp];rw[List.take_of_length_le (by omega)]at s;exact h oa on oc w (b_ (L':=[_,_]) [0,3] s rfl (by decide))
 |succ j ih=>
  intro i oa on oc w hij G8 s;show xp _ _ _ _ _ _ _ _ _ _ _ _;rw[xp,bN];have hi:i<gs.length:=by omega
  obtain⟨G,hG⟩:∃G,gs[i]? =some G:=⟨_,List.getElem?_eq_getElem hi⟩;have hmem:=List.mem_of_getElem? hG;have hgi:gi (gs.map (·.g)) i=G.g:=by unfold gi;grind
  have yc:gs.take (i+1)=gs.take i++[G]:=by rw[List.take_add_one,hG];rfl
  have hall:jX (gs.take (i+1))=jX (gs.take i)++G.ps:=by unfold jX;grind
  have hle:(jX (gs.take (i+1))).length<=(jX gs).length:=by
   have e:jX gs=jX (gs.take (i+1))++jX (gs.drop (i+1)):=by unfold jX;rw[<-List.flatMap_append,List.take_append_drop]
   grind
  have Ch:=(aO s (i:=0) rfl uK (by decide)).len;rw[hall,List.length_append]at hle;apply(aO s (i:=1) rfl cB (by decide)).rG rfl (by omega);rw[hgi,NS (by omega)];apply acv s (i:=4) rfl I.hk (h64 G hmem);rw[I.of_ G hmem];have src:Src w G.q.a G.q.n 3 (flat yy G.ps):=by have s2:=b_ (L':=[_]) [2] s rfl (by decide);have s3:=(gP s2).2;exact apN s3 (by rw[List.getElem?_append_left (by rw[List.length_map];exact hi),List.getElem?_map,hG];rfl)
  have hcc:G.q.a=none->G.q.c=0:=by have s2:=b_ (L':=[_]) [2] s rfl (by decide);have s3:=(gP s2).2;exact aeK s3 (by rw[List.getElem?_append_left (by rw[List.length_map];exact hi),List.getElem?_map,hG];rfl)
  have hqn:G.ps.length=G.q.n:=by have:=src.1;rw[iT uK]at this;omega
  refine iw ef s (i:=0) (bytes:=40) rfl rfl rfl rfl rfl rfl (by decide) rfl src (by simp[maxLen];omega) (by omega) hcc λra rc w s=>?_;rw[<-fZ,<-hall]at s;grind
def amj {Q:Option Addr->Nat->Nat->World->Prop}{mb Hq:Nat}(hU:Sl w0 la ln lc 3 iC us)(p9:ln<=100000)(hm:nS mw mh us)
  (h:∀oa on oc ps w',ps.map Md=kW mw mh us->Sep No w0 w' (ak oa on oc 211 3 (flat yy ps)::Aw ps::[])->Q oa on oc w'):
  ∀(j i:Nat) (ms:List (Int×Bu)) (m2:List ((Int×Int)×Int)) (gs:List Cy) (w:World),i+j=ln->ami mw mh us i ms m2 gs->Sep No w0 w (A9 gs::Aw (jX gs)::fQ fu Tv mb ms::fQ Ku vI Hq m2::[])->
   zn Q (j+1) mw mh la ln lc (some mb) (some Hq) la ln lc (ln:Int) i w:=by
 have hlen:=hU.len;intro j;induction j with
 |zero=>
  intro i ms m2 gs w hij S s;show zm _ _ _ _ _ _ _ _ _ _ _ _ _ _ _;rw[zm,bp];have S:=S;have IG:=S.pl;rw[List.take_of_length_le (by omega)]at IG;have avh:gs.map (·.g)=tG us:=by rw[<-SX,<-IG,NW]
  have htr:(jX gs).map Md=kW mw mh us:=by rw[atm S.I.pg,IG];rfl
  have hal:(jX gs).length<=us.length:=by have e:((jX gs).map Md).length=(jX gs).length:=List.length_map ..;have:=WL mw mh us;grind
  have h64:∀u∈us,iK u.goal:=λu hu=>Ar (hm.at_ u hu).2;refine aai s (hU.fr (au s)) (by omega) h64 λga gn gc w s _=>?_;rw[<-avh]at s;have G8:=(aO s (i:=0) rfl cB (by decide)).len;rw[List.length_map]at G8;have s:=bD s 211 3;refine⟨gn+1,ao5 (Hq:=Hq) S.I (λG hG=>?_) (by omega) (by have:=aoT (us:=us);grind) (λoa on oc w' s'=>h oa on oc (jX gs) w' htr s') gn 0 none 0 0 w (by omega) G8 (b_ (L':=[_,_,_,_,_]) [0,1,2,3,4] s rfl (by decide))⟩;have:G.g∈tG us:=by grind
  rw[<-SX (w:=mw) (h:=mh)]at this;obtain⟨q,hq,e⟩:=List.mem_map.1 this;have hf:∃u∈us,u.goal=G.g:=by
   have hg:∀(us:List aU) (out:List Int),G.g∈us.foldl EC out->G.g∈out\/∃u∈us,u.goal=G.g:=by
    intro us;induction us with
    |nil=>grind
    |cons u us ih=>
     intro out h;rcases ih _ h with h|⟨v,hv,e⟩
     ·unfold EC at h;grind
     grind
   rw[SX]at this;exact(hg us [] this).elim (λh=>by cases h) id
  grind
 |succ j ih=>
  intro i ms m2 gs w hij S s;show zm _ _ _ _ _ _ _ _ _ _ _ _ _ _ _;rw[zm,bN];refine(hU.fr (au s)).El rfl (by omega) λp u hu hc=>?_;have II:=hm.at_ u (List.mem_of_getElem? hu);have hsc:=(bS II.1).2;have VP:=e_ hm.wh.1 hm.wh.2;have WM:iK u.goal/\iK (aC mw mh u.cell):=⟨Ar II.2,by unfold iK;omega⟩;refine WH hc s λub w s=>?_;apply lI s 0 rfl;refine eZ s λw s _=>?_;apply lI s 0 rfl;refine aS s λkb w s=>?_;refine sT s 0 rfl λw s=>?_;refine ax s (i:=0) rfl rfl rfl λw s=>?_;refine lI s 0 rfl (lI s 0 rfl ?_);refine Ez (K:=Ku) (x:=(u.goal,aC mw mh u.cell)) atT (ab1 w) s (i:=5) rfl S.I.IM WM (λhn=>?_) λk hk=>?_
  ·apply ar5;obtain⟨g1,⟨g,q,ps⟩,g2,eg,I,NQ⟩:=S.I.group u.goal;subst eg;have hnew:aC mw mh u.cell∉ps.map (·.s):=λhin=>by obtain⟨p',hp',e⟩:=List.mem_map.1 hin;have:=I.at2 ⟨u.goal,q,ps⟩ (by simp) p' hp';rw[e,hn]at this;cases this
   have IG:qi u.goal (aC mw mh u.cell) u.id (FL (g1++⟨u.goal,q,ps⟩::g2))=qi u.goal (aC mw mh u.cell) u.id (FL gs):=by
    rcases NQ with e|⟨e1,e2,e3,e4⟩
    ·rw[e]
    ·cases e3;subst e2 e1;have:FL (gs++[⟨u.goal,⟨none,0,0⟩,[]⟩])=FL gs++[(u.goal,[])]:=by unfold FL;simp
     rw[this];exact aqW (by rw[NW];exact e4)
   have hsz:ps.length<=i/\∀p∈ps,p.ids.length<=i:=by
    rcases NQ with e|⟨e1,e2,e3,e4⟩
    ·exact S.sz ⟨u.goal,q,ps⟩ (by rw[e];simp)
    ·cases e3;exact⟨Nat.zero_le _,λp hp=>by cases hp⟩
   have ays:∀G∈g1,G∈gs:=λG hG=>by
    rcases NQ with e|⟨e1,e2,e3,e4⟩
    ·rw[e];exact List.mem_append_left _ hG
    ·rw[e1];exact hG
   have ayt:∀G∈g2,G∈gs:=λG hG=>by
    rcases NQ with e|⟨e1,e2,e3,e4⟩
    ·rw[e];exact List.mem_append_right _ (List.mem_cons_of_mem _ hG)
    ·rw[e2]at hG;cases hG
   have s:Sep No w0 w (A9 (g1++⟨u.goal,q,ps⟩::g2)::Aw (jX (g1++⟨u.goal,q,ps⟩::g2))::fQ fu Tv mb ms::fQ Ku vI Hq m2::av ub 43 (iC u)::av kb 253 [ae u.goal,ae (aC mw mh u.cell)]::[]):=by
    have s:=b_ (L':=[_,_,_,_,_,_]) [2,3,4,5,1,0] s rfl (by decide);rcases NQ with e|⟨e1,e2,e3,e4⟩
    ·rw[<-e];exact s
    ·cases e3;subst e2 e1;have e:jX (gs++[⟨u.goal,⟨none,0,0⟩,[]⟩])=jX gs:=by unfold jX;simp
     rw[e];unfold A9 at s⊢;have s:=bD s 211 3;rw[List.map_append];apply Mc (B:=[]);rw[List.append_nil];exact s
   have hqn:q.n=ps.length:=by have s2:=s;unfold A9 at s2;rw[List.map_append,List.map_cons]at s2;have s2:=SY s2;exact((aO s2 (i:=0) rfl uK (by decide)).len).symm
   have hq:=I.of_ ⟨u.goal,q,ps⟩ (by simp);apply lI s 4 rfl;apply acv s (i:=2) rfl I.hk WM.1;rw[hq];refine lI s 5 rfl (lI s 5 rfl ?_);refine LY (v:=vI) (ms:=m2) (a:=(q.n:Int)) (x:=(u.goal,aC mw mh u.cell)) atT s (i:=3) rfl I.IM WM λYz w ayu Tr _ s=>?_;have s:=ay (b_ (L':=[A9 (g1++⟨u.goal,q,ps⟩::g2),Aw (jX (g1++⟨u.goal,q,ps⟩::g2)),fQ fu Tv mb ms,fQ Ku vI Hq Yz,av ub 43 (iC u)]) [0,1,2,3,4] s rfl (by decide));rw[hqn]at Tr⊢;have fin:∀(q':Bu) (w:World),Sep No w0 w (A9 (g1++⟨u.goal,q',ps++[⟨u.goal,aC mw mh u.cell,⟨none,0,0⟩,[]⟩]⟩::g2)::Aw (jX (g1++⟨u.goal,q,ps⟩::g2))::fQ fu Tv mb ms::fQ Ku vI Hq Yz::av ub 43 (iC u)::[])->
     bC P (Instr.mapUpdate 252 (.map (some mb)) (ae u.goal) (.slice q'.a q'.n q'.c)) w λw=>pK (zn Q (j+1)) Q mw mh la ln lc (some mb) (some Hq) (aZ ub) (ps.length:Int) la ln lc (ln:Int) i w:=λq' w s=>by
    refine LY (k:=3) (e:=208) (K:=fu) (v:=Tv) (ms:=ms) (a:=q') (x:=u.goal) ofT s (i:=2) rfl I.hk WM.1 λms' w hk' Ed _ s=>?_;have I2:=I.add (G:=⟨u.goal,q,ps⟩) (p:=⟨u.goal,aC mw mh u.cell,⟨none,0,0⟩,[]⟩) hk' ayu Ed Tr rfl hnew;have s:=atl (q':=q') (p:=⟨u.goal,aC mw mh u.cell,⟨none,0,0⟩,[]⟩) s rfl rfl;refine afv (p2:=[]) (by omega) hk' (I2.of_ ⟨u.goal,q',ps++[⟨u.goal,aC mw mh u.cell,⟨none,0,0⟩,[]⟩]⟩ (by simp)) rfl WM.1 (Nat.zero_le _) s λq2 w s=>?_;refine ih (i+1) ms' Yz _ w (by omega) ?_ s;refine S.next hu (I2.pairs (G':=⟨u.goal,q',ps++[⟨u.goal,aC mw mh u.cell,q2,[]++[u.id]⟩]⟩) rfl rfl (by simp) λp hp=>?_) ?_ ays ayt (by simp;omega) (by simp) λp hp=>?_
    ·rcases List.mem_append.1 hp with hp|hp
     ·exact I.pg ⟨u.goal,q,ps⟩ (by simp) p hp
     ·rw[List.mem_singleton.1 hp]
    ·rw[<-IG];exact atk I.ar4 hnew rfl rfl
    ·exact hp.elim (λhp=>hsz.2 p hp) λhp=>by cases hp
   refine lI s 4 rfl (lI s 4 rfl (lI s 4 rfl ⟨?_,?_⟩))
   ·apply acv s (i:=2) rfl I.hk WM.1;rw[hq];refine⟨cj s 4 rfl,cj s 4 rfl,?_⟩;refine aN s λxb w s=>⟨cj s 5 rfl,cj s 5 rfl,?_⟩;refine aiW (by omega) s λq' w s=>⟨cj s 4 rfl,?_⟩;exact fin q' w s
   ·refine aN s λxb w s=>⟨cj s 5 rfl,cj s 5 rfl,?_⟩;apply acv s (i:=3) rfl I.hk WM.1;rw[hq];refine⟨cj s 5 rfl,cj s 5 rfl,?_⟩;refine aiW (by omega) s λq' w s=>⟨cj s 4 rfl,?_⟩;exact fin q' w s
  ·apply ar5;rw[Bool.not_true,cond_false];obtain⟨⟨g,q,ps⟩,hG,e1,F5,e3⟩:=S.I.at1 _ _ _ hk;simp only at e1 e3;subst e1;obtain⟨p,hp,e4⟩:=Option.map_eq_some_iff.1 e3;have hkl:=(List.getElem?_eq_some_iff.1 hp).1;have avi:ps=ps.take k.toNat++p::ps.drop (k.toNat+1):=by have:=(List.getElem?_eq_some_iff.1 hp).2;rw[<-this,<-List.drop_eq_getElem_cons hkl,List.take_append_drop]
   have hkp:k=((ps.take k.toNat).length:Nat):=by rw[List.length_take];omega
   generalize ps.take k.toNat=p1 at*;generalize ps.drop (k.toNat+1)=p2 at*;subst avi;obtain⟨g1,g2,e5⟩:=List.append_of_mem hG;subst e5;subst hkp;have hsz:=S.sz _ hG;have hn1:aC mw mh u.cell∉p1.map (·.s):=λh=>by have:=S.I.nds _ hG;simp[List.map_append,List.map_cons]at this;rw[List.nodup_append]at this;exact this.2.2 _ h _ (by rw[<-e4];exact List.mem_cons_self ..) rfl
   have s:=b_ (L':=[_,_,_,_,av ub 43 (iC u)]) [2,3,4,5,1] s rfl (by decide);refine afv (by omega) S.I.hk (S.I.of_ _ hG) rfl WM.1 (by have:=hsz.2 p (by simp);omega) s λq2 w s=>?_;refine ih (i+1) ms m2 _ w (by omega) ?_ s;refine S.next hu (S.I.pairs (G':=⟨u.goal,q,p1++⟨p.g,p.s,q2,p.ids++[u.id]⟩::p2⟩) rfl rfl (by simp) λx hx=>?_) ?_ (λG h=>by simp[h]) (λG h=>by simp[h]) ?_ ?_ λx hx=>?_
   ·rw[List.mem_append,List.mem_cons]at hx;rcases hx with h|rfl|h
    ·exact S.I.pg _ hG x (by simp[h])
    ·exact S.I.pg _ hG p (by simp)
    ·exact S.I.pg _ hG x (by simp[h])
   ·exact atj S.I.ar4 hn1 e4 e4 rfl
   ·have:=hsz.1;simp[List.length_append,List.length_cons]at this⊢;omega
   ·have:=hsz.2 p (by simp);simp[List.length_append,List.length_cons,List.length_nil];omega
   ·exact hsz.2 x (by rcases hx with h|h<;>simp[h])
def aaq {Q:Option Addr->Nat->Nat->World->Prop}(s0:Sep F W w0 L)(hU:Sl w0 la ln lc 3 iC us)(p9:ln<=100000)(hm:nS mw mh us)
  (h:∀oa on oc ps w',ps.map Md=kW mw mh us->Sep F W w' (ak oa on oc 211 3 (flat yy ps)::Aw ps::L)->Fr No w0 w'->Q oa on oc w'):EO mw mh la ln lc w0 Q:=by
 apply Zz;refine Q9 (bh (F:=No)) hU (by omega) hm λw s _=>?_;refine Z4 s 252 fu Tv λmb w s=>?_;refine Z4 s 180 Ku vI λHq w s=>?_;have s:=dA (Ps:=[]) s trivial;have s:=dA (Ps:=[]) s trivial;have s:=b_ (L':=[A9 [],Aw (jX []),fQ fu Tv mb ([]:List (Int×Bu)),fQ Ku vI Hq ([]:List ((Int×Int)×Int))]) [0,1,3,2] s rfl (by decide);refine⟨ln+1,amj hU p9 hm (λoa on oc ps w' e s'=>h oa on oc ps w' e (fy s0 s') (au s')) ln 0 [] [] [] w (by omega) ⟨⟨List.nodup_nil,List.nodup_nil,List.nodup_nil,(λG h=>by cases h),(λG h=>by cases h),(λg _=>rfl),(λg s k h=>by cases h),(λG h=>by cases h),(λG h=>by cases h)⟩,rfl,λG h=>by cases h⟩ s⟩
end
end Go.Proofs.YtmegplnmiepfbaaGreatDoor.S
set_option maxRecDepth 20000
namespace Go.Proofs.YtmegplnmiepfbaaGreatDoor.S
open Go.Sx
open Go.Extern
def ayv (args:Array Value)(w:World):(callFunc 219 args).run P w=((BytealgMakeNoZero.makeNoZero #[3] #[22] args).run P w).andThen λv w'=>.ok (.value v) w':=run_callFunc_extern Go.Proofs.Tryz.func219 (by kernel_rfl) (by kernel_rfl) (by kernel_rfl) (by kernel_rfl) args w
def aiX:P.underlying 22=some (.slice 5):=by kernel_rfl
def acw:∀(n t:Nat) (acc:Array Value) (xs:List Int),acc.toList=flat bu xs->∃ys:List Int,(BytealgMakeNoZero.digits n t acc).toList=flat bu ys
 |0,_,acc,xs,h=>⟨xs,h⟩
 |n+1,t,acc,xs,h=>by apply acw n (t/256) _ (xs++[((t%256:Nat):Int)]);rw[Array.toList_push,h,fZ];rfl
def atn (n:Nat)(hn:n<=100000)(w:World):∃t,(BytealgMakeNoZero.makeNoZero #[3] #[22] #[ae n]).run P w=.ok (.slice (sZ w.heap.size) n (grownCap w n 0 5)) (w.drew.drew.alloc (.cells (BytealgMakeNoZero.digits (grownCap w n 0 5) t #[]) 5)):=by
 have ayw:BytealgMakeNoZero.makeNoZero #[3] #[22] #[ae n]=
  (do
   let .slice elem<-underlying 22|stuck "bytealg.MakeNoZero: slice type expected"
   if(n:Int)<0||(n:Int)>2^48 then runtimePanic (.error "makeslice: len out of range")
   let cap<-choose (.appendCap (n:Int).toNat 0 elem)
   askRoom cap
   let bytes<-choose (.extern "internal/bytealg.MakeNoZero.bytes" 0);let a<-newRow elem (BytealgMakeNoZero.digits cap bytes #[])
   pure (.slice (some a) (n:Int).toNat cap)):=rfl
 have h1:¬(n:Int)<0:=by omega
 have h2:¬(281474976710656:Int)<(n:Int):=by omega
 refine⟨(Question.extern "internal/bytealg.MakeNoZero.bytes" 0).cut (w.tape (w.drawn+1) (.extern "internal/bytealg.MakeNoZero.bytes" 0)),?_⟩;rw[ayw];simp[run_underlying aiX,h1,h2,Question.forced,newRow,grownCap]
attribute [local irreducible] tH callFunc Sem.run BytealgMakeNoZero.makeNoZero in
theorem avj {n:Nat}{w w':World}{v:Value}{K:Value->World->Prop}(h:(BytealgMakeNoZero.makeNoZero #[3] #[22] #[ae n]).run P w=.ok v w')(k:K v w'):tH P 219 #[ae n] w K:=
 jW ayv h k
def avk {F:Nat->Prop}{W w:World}{L:List As}{n:Nat}{K:Value->World->Prop}(hn:1<=n/\n<=100000)(s:Sep F W w L)(h:∀b ys w',ys.length=n->Sep F W w' (ak (sZ b) n n 5 1 (flat bu ys)::L)->K (.slice (sZ b) n n) w'):
  tH P 219 #[ae n] w λv w1=>dS v λa m c=>aL P (Instr.sliceAt 22 (.slice a m c) none (some (ae n)) (some (ae n))) w1 K:=by
 obtain⟨t,ht⟩:=atn n (by omega) w;apply avj ht;have hge:=grownCap_ge w n 0 5;have hle:=grownCap_le_maxLen w n 0 5 (by simp[maxLen];omega);obtain⟨ys,hys⟩:=acw (grownCap w n 0 5) t #[] [] rfl;have hlen:ys.length=grownCap w n 0 5:=by have e:=congrArg List.length hys;rw[iT dJ,Array.length_toList,Lib.size_digits]at e;grind
 generalize hc:grownCap w n 0 5=c at*;have hcs:(BytealgMakeNoZero.digits c t #[])=(flat bu ys).toArray:=by rw[<-hys]
 rw[hcs];have s:=tK (ay (ay s)) (flat bu ys) 5;have s:Sep F W (w.drew.drew.alloc (.cells (flat bu ys).toArray 5)) (av w.heap.size 5 (flat bu ys)::L):=s;have hone:∀u∈flat bu ys,u.oneCell'=true:=λu hu=>by obtain⟨x,_,hx⟩:=List.mem_flatMap.1 hu;exact AT x u hx
 have s:=g9 s (i:=0) rfl (by rw[iT dJ,hlen]) hle hone;simp[List.set_cons_zero]at s;generalize w.drew.drew.alloc (.cells (flat bu ys).toArray 5)=w1 at*;generalize w.heap.size=b at*;have hs:(sizeOf 5).run P w1=.ok 1 w1:=by kernel_rfl
 have hr:(Instr.sliceAt 22 (.slice (sZ b) n c) none (some (ae n)) (some (ae n))).run P w1=.ok (.slice (sZ b) n n) w1:=by rw[run_sliceAt_slice w1 22 _ _ _ _ aiX,run_slice_hm w1 22 (sZ b) n c aiX .i64 .i64 n n (by omega) (Int.le_refl _) (by omega)];show((sizeOf 5).run P w1).andThen _=_;rw[hs];simp[Result.andThen,sliced,Int.toNat_natCast,Nat.sub_zero];simp[Addr.add]
 apply AU hr;apply h b (ys.take n) w1 (by grind);refine⟨eo.fr s,λA hA=>?_,?_⟩
 ·rcases List.mem_cons.1 hA with rfl|hA
  ·obtain⟨⟨⟨k1,k2,k3,k4⟩,k5⟩,k6⟩:=eo.ok s _ (List.mem_cons_self ..);refine⟨⟨⟨by rw[iT dJ,List.length_take];omega,Nat.le_refl _,by omega,λu hu=>?_⟩,?_⟩,λx hx=>k6 x hx⟩
   ·obtain⟨x,_,hx⟩:=List.mem_flatMap.1 hu;exact AT x u hx
   ·rcases k5 with⟨h,_⟩|⟨g,o,cur,e1,e2,e3,e4⟩
    ·cases h
    ·refine .inr ⟨g,o,cur,e1,e2,by omega,?_⟩;have:flat bu (ys.take n)=(flat bu ys).take (n*1):=(UP dJ ys n).symm;grind
  ·exact eo.ok s A (List.mem_cons_of_mem _ hA)
 ·have:=eo.apart s;rw[List.pairwise_cons]at this⊢;exact⟨λA hA b hb=>this.1 A hA b hb,this.2⟩
attribute [local irreducible] tH callFunc Sem.run af cA bw bg aA cq bY St Bx Al App cD cy cw bT aL bC aq bR av ak aV mapA
def ao6 {v:Int}{n k:Nat}{Z:List Int}(hk:k<=n)(hZ:k<=Z.length):
  (flat bu (List.replicate n v++Z)).take (n*1)++(flat bu ((List.replicate n v++Z).take n)).take (k*1)++(flat bu (List.replicate n v++Z)).drop ((n+k)*1)=flat bu (List.replicate (n+k) v++Z.drop k):=by
 simp only[YR,Nat.mul_one];rw[<-List.map_take,<-List.map_take,<-List.map_drop,<-List.map_append,<-List.map_append];congr 1;rw[List.take_left' (by simp),List.take_replicate,Nat.min_eq_left hk,List.replicate_append_replicate,<-List.drop_drop,List.drop_left' (by simp)]
section
variable {F:Nat->Prop}{W w w0:World}{L:List As}{xa:Option Addr}{xc:Nat}{v:Int}
def ao7 {Q:Option Addr->Nat->Nat->World->Prop}{b N:Nat}(hN:N<=8192)(h:∀w',Sep No w0 w' (ak (sZ b) N N 5 1 (flat bu (List.replicate N v))::L)->Q (sZ b) N N w'):
  ∀(m n:Nat) (Z:List Int) (w:World),N<=n+m->1<=n->n+Z.length=N->Sep No w0 w (ak (sZ b) N N 5 1 (flat bu (List.replicate n v++Z))::L)->tg Q (m+1) N N (sZ b) N N n w:=by
 have done:∀(R:Int->Int->Option Addr->Nat->Nat->Int->World->Prop) (Z:List Int) (w:World),Z.length=0->Sep No w0 w (ak (sZ b) N N 5 1 (flat bu (List.replicate N v++Z))::L)->tf Q R N N (sZ b) N N N w:=λR Z w hZ s=>by unfold tf;grind
 intro m;induction m with
 |zero=>
  intro n Z w hm h1 h2 s;have:n=N:=by omega
  subst this;exact done _ Z _ (by omega) s
 |succ m ih=>
  intro n Z w hm h1 h2 s;show tf Q (tg Q (m+1)) _ _ _ _ _ _ _;by_cases hn:n=N
  ·grind
  ·rw[tf,bN];apply O4 rfl (by omega);rw[fS];have em:Dt (n:Int) (N:Int)=n:=by unfold Dt;omega
   rw[em];apply O3 rfl (by omega);have s:=ay s;have hT:=(aO s (i:=0) rfl dJ (by decide)).top (m:=n) (by omega);refine EH (p:=n) ef s rfl rfl rfl rfl (by decide) (i:=0) rfl (hT.src (e:=5) dJ AT) (by omega) (by simp[Addr.add];omega) λw s=>?_;rw[ao6 (Nat.min_le_left _ _) (by omega)]at s;have e:IntKind.wrap .i64 ((n:Int)+((min n (N-n):Nat):Int))=((n+min n (N-n):Nat):Int):=by rw[aG];omega
   grind
def SZ {N:Nat}{Q:Option Addr->Nat->Nat->World->Prop}(s0:Sep F W w L)(hA:Sl w xa 1 xc 1 bu [v])(hN:1<=N/\N<=8192)
  (h:∀ra w',Sep F W w' (ak ra N N 5 1 (flat bu (List.replicate N v))::L)->Fr No w w'->Q ra N N w'):rJ xa 1 xc N w Q:=by
 apply IW;rw[cQ (by omega),cond_false,bp,ke (by decide),ke (by omega)];apply C3 (by decide) (by omega) (by omega);have e1:((1:Nat):Int)*N=N:=by omega
 rw[e1,bp (by decide),bp,cQ (by decide),cond_false,aG,bp];refine avk (by omega) (bh (F:=No)) λb ys w' hys s=>?_;refine EH (p:=0) ef s rfl rfl rfl rfl (by decide) (i:=0) rfl ((hA.fr (au s)).src (e:=5) dJ AT) (by omega) rfl λw' s=>?_;have hm:min 1 N=1:=by omega
 rw[hm]at s⊢;have e2:(flat bu ys).take (0*1)++(flat bu [v]).take (1*1)++(flat bu ys).drop ((0+1)*1)=flat bu (List.replicate 1 v++ys.drop 1):=by simp only[YR,Nat.zero_mul,List.take_zero,List.nil_append,Nat.mul_one,Nat.zero_add];rw[<-List.map_take,<-List.map_drop,<-List.map_append];rfl
 rw[e2]at s;exact⟨N+1,ao7 hN.2 (λw' s=>h _ _ (dD s0 s (i:=0) rfl) (au s)) N 1 (ys.drop 1) w' (by omega) (by omega) (by rw[List.length_drop];omega) s⟩
def amk {N:Nat}{Q:Option Addr->Nat->Nat->World->Prop}(s0:Sep F W w L)(hN:1<=N/\N<=8192)
  (h:∀ra w',Sep F W w' (ak ra 0 0 5 1 (flat bu [])::L)->Fr No w w'->Q ra 0 0 w'):rJ Option.none 0 0 N w Q:=by
 apply IW;rw[cQ (by omega),cond_false,bp,ke (by decide),ke (by omega)];apply C3 (by decide) (by omega) (by omega);have e1:((0:Nat):Int)*N=0:=by omega
 rw[e1,bp (by decide),bp,show((((0:Nat):Int))==0)=true from rfl,cond_true];refine aN (bh (F:=No)) λb w' s=>?_;have s:=g9 (n:=0) (size:=1) s (i:=0) rfl rfl (by decide) (λu hu=>by cases hu);exact h _ _ (dD s0 s (i:=0) rfl) (au s)
end
end Go.Proofs.YtmegplnmiepfbaaGreatDoor.S
namespace Go.Proofs.YtmegplnmiepfbaaGreatDoor.S
open Go.Sx
attribute [local irreducible] af cA bw bg aA cq bY St Bx Al App cD cy cw bT aL bC aq bR av ak aV mapA
def aAe:oT 242 fns=true:=by kernel_rfl
def ID (cs:List Int):Bool:=!cs.any λc=>c !=gi cs 0
def GX (f:Nat)(cs:List Int):Option (List Int):=if f=0 then(if ID cs=true then some [0,gi cs 0]else none)else if f=1 then some (1::cs)else some (tL cs)
abbrev EE (tw th:Int)(a:Option Addr)(n c:Nat):List Value:=[ae tw,ae th,.slice a n c]
section
variable {F:Nat->Prop}{W w w0:World}{L:List As}{ca:Option Addr}{cn cc tb:Nat}{cs:List Int}{tw th:Int}
def ao8 {Q:Bool->World->Prop}(hC:Sl w ca cn cc 1 bu cs)(hn:1<=cn/\cn<=1000)(s:Sep F W w (av tb 84 (EE tw th ca cn cc)::L))(h:Q (!ID cs) w):mM ca cn cc (.func (.func 242) #[] #[.pointer (sZ tb)]) w Q:=by
 apply CO;apply E0;have hl:=hC.len;have loop:∀(j i:Nat),i+j=cn->(∀k,k<i->gi cs k=gi cs 0)->jl (λr w=>Q (decide (r≥0)) w) (j+1) ca cn cc (.func (.func 242) #[] #[.pointer (sZ tb)]) (cn:Int) i w:=by
  intro j;induction j with
  |zero=>
   intro i hi hall;show jk _ _ _ _ _ _ _ _ _;unfold jk;have e:ID cs=true:=by rw[ID,Bool.not_eq_true',List.any_eq_false];intro c hc;obtain⟨k,hk⟩:=List.mem_iff_getElem?.1 hc;have hkl:=(List.getElem?_eq_some_iff.1 hk).1;rw[iD hkl]at hk;grind
   grind
  |succ j ih=>
   intro i hi hall;show jk _ _ _ _ _ _ _ _ _;rw[jk,bN];apply hC.Db rfl (by omega);unfold iv;simp only;have hc:Ld (gi cs i) (sZ tb) w λr w'=>cond r (Q (decide ((i:Int)≥0)) w') (jl (λr w=>Q (decide (r≥0)) w) (j+1) ca cn cc (.func (.func 242) #[] #[.pointer (sZ tb)]) (cn:Int) (IntKind.wrap .i64 ((i:Int)+1)) w'):=by
    apply Zb;refine ah (lS s 0 rfl ?_);apply hC.Db (k:=0) rfl (by omega);by_cases e:gi cs i=gi cs 0
    ·rw[Ev e];show cond false _ _;rw[cond_false,NS (by omega)];exact ih (i+1) (by omega) λk hk=>by grind
    ·rw[Gq e];show cond true _ _;rw[cond_true,decide_eq_true (by omega)];have e2:ID cs=false:=by rw[ID,Bool.not_eq_false',List.any_eq_true];exact⟨gi cs i,fE (by omega),Gq e⟩
     grind
   exact hc
 exact⟨cn+1,loop cn 0 (by omega) λk hk=>by omega⟩
def ahT {oa:Option Addr}{on oc b k:Nat}{out ns:List Int}{K:Option Addr->Nat->Nat->World->Prop}(s:Sep F W w (ak oa on oc 5 1 (flat bu out)::L))(Ch:on<=100000000)(hk:ns.length=k)(IM:k<=100000){ba:Option Addr}{bc:Nat}(hB:Sl w ba k bc 1 bu ns)
  (h:∀a' c' w',Sep F W w' (ak a' (on+k) c' 5 1 (flat bu (out++ns))::L)->K a' (on+k) c' w'):App P #[22,22] 22 (.slice oa on oc) (.slice ba k bc) w K:=by
 refine iw ef s (i:=0) (bytes:=1) rfl rfl rfl rfl rfl rfl (by decide) rfl (hB.src (e:=5) dJ AT) (by simp[maxLen];omega) (by omega) (λe=>hB.nil e) λa1 c1 w1 s1=>?_;rw[<-fZ]at s1;grind
def acy {ns:List Int}{b:Nat}{i:Nat}(s:Sep F W w L)(hi:L[i]? =some (av b 5 (flat bu ns))):Sl w (sZ b) ns.length ns.length 1 bu ns:=
 ⟨⟨rfl,λj x hx=>⟨_,rfl,λk v hk=>by
  rw[cm,Nat.zero_add,Nat.mul_one];apply cK s rfl hi;have F5:k=0:=by have:=(List.getElem?_eq_some_iff.1 hk).1;rw[dJ]at this;omega
  subst F5;have:=sK dJ hx (j:=0) (by decide);grind⟩⟩,Nat.le_refl _,λe=>by cases e⟩
def aq2 {Q:Option Addr->Nat->Nat->World->Prop}{b:Nat}(hA:Sl w0 ca cn cc 1 bu cs)(hn:cn<=1000)(s:Sep No w0 w (ak (sZ b) 1 1 5 1 (flat bu [2])::av tb 84 (EE tw th ca cn cc)::L))
  (h:∀g o rn rc w',Sep No w0 w' (ak (some ⟨g,o,none⟩) rn rc 5 1 (flat bu (tL cs))::av tb 84 (EE tw th ca cn cc)::L)->Q (some ⟨g,o,none⟩) rn rc w'):∃k,wN Q k (aZ tb) (sZ b) 1 1 0 w:=by
 have hlen:=hA.len;have inner:∀(P3:Addr->Option Addr->Nat->Nat->Int->World->Prop) (x:Int) (i:Nat) (oa:Option Addr) (on oc:Nat) (out:List Int),cs[i]? =some x->on<=1000000->
   (∀a' c' w',Sep No w0 w' (ak a' (on+2) c' 5 1 (flat bu (out++[((lead x (cs.drop (i+1)):Nat):Int)%256,x]))::av tb 84 (EE tw th ca cn cc)::L)->P3 (aZ tb) a' (on+2) c' ((i+1+lead x (cs.drop (i+1)):Nat):Int) w')->
   ∀(k r:Nat) (w:World),i+1+r+k=cn->lead x (cs.drop (i+1))=r+lead x (cs.drop (i+1+r))->Sep No w0 w (ak oa on oc 5 1 (flat bu out)::av tb 84 (EE tw th ca cn cc)::L)->wM P3 Q (k+1) (aZ tb) oa on oc i ((r+1:Nat):Int) w:=by
  intro P3 x i oa on oc out hx Ch next
  have hix:i<cn:=by grind
  have hgx:gi cs i=x:=by rw[iD (by omega)]at hx;grind
  have over:∀(r:Nat) (w:World),i+1+r<=cn->lead x (cs.drop (i+1))=r->Sep No w0 w (ak oa on oc 5 1 (flat bu out)::av tb 84 (EE tw th ca cn cc)::L)->Er P3 Q (aZ tb) oa on oc i ((r+1:Nat):Int) w:=by
   intro r w hr hl s;apply lS s 1 rfl;apply Sl.Db (hA.fr (au s)) rfl hix;rw[hgx,aG,aG,wrap_u8'];have e0:((r+1:Nat):Int)-1=(r:Int):=by omega
   rw[e0];refine aN s λb w s=>?_;have hB:=acy (ns:=[(r:Int)%256,x]) s (i:=0) rfl;refine ahT (k:=2) (b:=0) (iZ s) (by omega) rfl (by decide) hB λa1 c1 w1 s1=>?_;rw[hl]at next
   have:=next a1 c1 w1 (gF s1 (.cons_cons _ (List.sublist_cons_self _ _)))
   grind
  intro k;induction k with
  |zero=>
   intro r w hr hl s;show JC P3 Q (wM P3 Q 0) _ _ _ _ _ _ _;have s:=ay s;apply lS s 1 rfl;rw[aG,bp];have e:cs.drop (i+1+r)=[]:=List.drop_eq_nil_of_le (by omega);rw[e]at hl;exact over r _ (by omega) hl s
  |succ k ih=>
   intro r w hr hl s;show JC P3 Q (wM P3 Q (k+1)) _ _ _ _ _ _ _;have ei:(i:Int)+((r+1:Nat):Int)=((i+1+r:Nat):Int):=by push_cast;omega
   have s:=ay s;apply lS s 1 rfl;rw[aG,bN,ei];have hB:=hA.fr (au s);refine lS s 1 rfl (Sl.Db hB rfl (by omega) ?_);refine lS s 1 rfl (Sl.Db hB rfl hix ?_);have hd:cs.drop (i+1+r)=gi cs (i+1+r)::cs.drop (i+1+r+1):=by rw[List.drop_eq_getElem_cons (by omega)];congr 1;have:=iD (l:=cs) (i:=i+1+r) (by omega);rw[List.getElem?_eq_getElem (by omega)]at this;exact Option.some.inj this
   rw[hd,lead]at hl;rw[hgx];by_cases he:gi cs (i+1+r)=x
   ·rw[eC he,cond_true,aG];rw[if_pos he]at hl;exact ih (r+1) _ (by omega) (by rw[show i+1+(r+1)=i+1+r+1 by omega];omega) s
   ·rw[cQ he,cond_false];rw[if_neg he]at hl;exact over r _ (by omega) hl s
 have outer:∀(k i:Nat) (oa:Option Addr) (on oc:Nat) (out:List Int) (w:World),cn-i<=k->i<=cn->1<=on->on<=1+2*i->out++lF (cn-i) (cs.drop i)=tL cs->Sep No w0 w (ak oa on oc 5 1 (flat bu out)::av tb 84 (EE tw th ca cn cc)::L)->wN Q (k+1) (aZ tb) oa on oc i w:=by
  have stop:∀R (oa:Option Addr) (on oc:Nat) (out:List Int) (w:World),1<=on->out++lF (cn-cn) (cs.drop cn)=tL cs->Sep No w0 w (ak oa on oc 5 1 (flat bu out)::av tb 84 (EE tw th ca cn cc)::L)->JD Q R (aZ tb) oa on oc cn w:=by intro R oa on oc out w h1 he s;apply lS s 1 rfl;rw[bp];rw[List.drop_eq_nil_of_le (by omega),Nat.sub_self,lF,List.append_nil]at he;rw[he]at s;obtain⟨g,o,rfl⟩:=pV s (i:=0) rfl (by omega);exact h _ _ _ _ _ s
  intro k;induction k with
  |zero=>
   intro i oa on oc out w hk hi h1 Ch he s;obtain rfl:i=cn:=by omega
   exact stop _ _ _ _ _ _ h1 he s
  |succ k ih=>
   intro i oa on oc out w hk hi h1 Ch he s;by_cases hin:i=cn
   ·subst hin;exact stop _ _ _ _ _ _ h1 he s
   ·show JD Q (wN Q (k+1)) _ _ _ _ _ _;apply lS s 1 rfl;rw[bN];have hx:cs[i]? =some (gi cs i):=iD (by omega);have hd:cs.drop i=gi cs i::cs.drop (i+1):=by obtain⟨h1,h2⟩:=List.getElem?_eq_some_iff.1 hx;rw[List.drop_eq_getElem_cons h1,h2]
    have Ny:=O5 (gi cs i) (cs.drop (i+1));rw[List.length_drop]at Ny;refine⟨cn-(i+1)+1,inner _ (gi cs i) i oa on oc out hx (by omega) (λa' c' w' s'=>?_) (cn-(i+1)) 0 w (by omega) (by rw[Nat.zero_add]) s⟩;refine ih (i+1+lead (gi cs i) (cs.drop (i+1))) a' (on+2) c' _ w' (by omega) (by omega) (by omega) (by omega) ?_ s';rw[<-he,hd,show cn-i=(cn-(i+1))+1 by omega,lF,List.append_assoc,List.drop_drop];congr 1;show _::_::_=_::_::_;congr 2;exact ahn _ _ _ (by rw[List.length_drop];omega) (by rw[List.length_drop];omega)
 exact⟨cn+1,outer cn 0 _ 1 1 [2] w (by omega) (by omega) (by omega) (by omega) (by rw[List.drop_zero,Nat.sub_zero,<-hlen];rfl) s⟩
def C9 {Q:Option Addr->Nat->Nat->World->Prop}{f:Nat}(hA:Sl w0 ca cn cc 1 bu cs)(hn:1<=cn/\cn<=1000)(hf:f<=2)
  (hno:GX f cs=none->∀w',Sep No w0 w' []->Q none 0 0 w')(hyes:∀out,GX f cs=some out->∀g o rn rc w',Sep No w0 w' [ak (some ⟨g,o,none⟩) rn rc 5 1 (flat bu out)]->Q (some ⟨g,o,none⟩) rn rc w'):HI tw th ca cn cc f w0 Q:=by
 apply ada;have hlen:=hA.len;refine aN (bh (F:=No)) λtb w s=>?_;have ew:IntKind.wrap .u8 (f:Int)=f:=by rw[wrap_u8'];omega
 rw[ew];refine aN s λb w s=>?_;have s:Sep No w0 w (av b 5 (flat bu [(f:Int)])::av tb 84 (EE tw th ca cn cc)::[]):=s;have hC:=hA.fr (au s);have row:Sep No w0 w (ak (sZ b) 1 1 5 1 (flat bu [(f:Int)])::av tb 84 (EE tw th ca cn cc)::[]):=by have:=g9 (size:=1) s (i:=0) rfl rfl (by decide) (λu hu=>by simp[flat,bu]at hu;subst hu;rfl);grind
 by_cases f0:f=0
 ·subst f0;apply lS s 1 rfl;apply ao8 hC hn (ai s);cases hs:ID cs with
  |false=>
   exact hno (by unfold GX;grind) w (ai (ai s))
  |true=>
   apply lS s 1 rfl;apply hC.Db (k:=0) rfl (by omega);refine aN row λxb w s=>?_;have hB:=acy (ns:=[gi cs 0]) s (i:=0) rfl;refine ahT (k:=1) (b:=0) (iZ s) (by omega) rfl (by decide) hB λa1 c1 w1 s1=>?_;obtain⟨g,o,rfl⟩:=pV s1 (i:=0) rfl (by omega);exact hyes [0,gi cs 0] (by unfold GX;grind) g o _ _ w1 (b_ (L':=[_]) [0] s1 rfl (by decide))
 ·rw[cQ (by omega),cond_false];by_cases f1:f=1
  ·subst f1;apply lS s 1 rfl;refine ahT (b:=0) row (by omega) hlen (by omega) hC λa1 c1 w1 s1=>?_;obtain⟨g,o,rfl⟩:=pV s1 (i:=0) rfl (by omega);exact hyes (1::cs) (by unfold GX;grind) g o _ _ w1 (b_ (L':=[_]) [0] s1 rfl (by decide))
  ·obtain rfl:f=2:=by omega
   exact aq2 hA (by omega) row λg o rn rc w' s=>hyes (tL cs) (by unfold GX;grind) g o _ _ w' (b_ (L':=[_]) [0] s rfl (by decide))
end
def aml (x:Int)(ys:List Int):(tL (x::ys)).length=3+(lF ys.length (ys.drop (lead x ys))).length:=by show(2::_::x::lF ys.length (ys.drop (lead x ys))).length=_;grind
def aiY {x:Int}:∀{ys:List Int},(∀y∈ys,y=x)->lead x ys=ys.length
 |[],_=>rfl
 |y::ys,h=>by rw[lead,if_pos (h y (List.mem_cons_self ..)),aiY λz hz=>h z (List.mem_cons_of_mem _ hz)];rfl
def ao_ {cs:List Int}(h:1<=cs.length):3<=(tL cs).length/\(ID cs=true↔(tL cs).length=3):=by
 match cs,h with
 |x::ys,_=>
  rw[aml];refine⟨by omega,?_⟩;have e0:gi (x::ys) 0=x:=rfl;rw[ID,e0,Bool.not_eq_true',List.any_eq_false];constructor
  ·intro hs;have:lead x ys=ys.length:=aiY λy hy=>by grind
   rw[this,List.drop_length];cases ys.length<;>rfl
  ·intro hl c hc;have h0:ys.drop (lead x ys)=[]:=by
    cases hd:ys.drop (lead x ys)with
    |nil=>rfl
    |cons z zs=>
     rw[hd]at hl;obtain⟨k,hk⟩:∃k,ys.length=k+1:=by
      cases ys with
      |nil=>simp at hd
      |cons y ys=>simp_all
     rw[hk]at hl;simp only[lF,List.length_cons]at hl;omega
   have h1:lead x ys=ys.length:=by have:=O5 x ys;grind
   have h2:=Np x ys;grind
section
variable {F:Nat->Prop}{W w w0:World}{L:List As}{ca:Option Addr}{cn cc tb:Nat}{cs:List Int}{tw th:Int}
def afw {Q:Int->Option Addr->Nat->Nat->World->Prop}{R:Addr->Int->Option Addr->Nat->Nat->Int->World->Prop}{b:Int}{oa:Option Addr}{on oc:Nat}{t:Addr}(h:Q b oa on oc w):jN Q R t b oa on oc 3 w:=by unfold jN;grind
def ajY {Q:Int->Option Addr->Nat->Nat->World->Prop}(hA:Sl w0 ca cn cc 1 bu cs)(hn:1<=cn/\cn<=1000)(h:∀b g o rn rc w',Sep No w0 w' [ak (some ⟨g,o,none⟩) rn rc 5 1 (flat bu (tM cs).2)]->Q b (some ⟨g,o,none⟩) rn rc w'):
  EU tw th ca cn cc w0 Q:=by
 apply Zc;have hlen:=hA.len;obtain⟨h3,v7⟩:=ao_ (cs:=cs) (by omega);refine aN (bh (F:=No)) λtb w s=>?_;have rd:∀{w:World} {L':List As} {i:Nat} {K:Int->Int->Option Addr->Nat->Nat->Prop},Sep No w0 w L'->L'[i]? =some (av tb 84 (EE tw th ca cn cc))->K tw th ca cn cc->af .i64 ((aZ tb).add 0) w λa=>af .i64 ((aZ tb).add 1) w λb=>aA ((aZ tb).add 2) w λc d e=>K a b c d e:=λs hi k=>
  dw s rfl hi rfl (dw s rfl hi rfl (gX s rfl hi rfl k))
 have last:∀{best:Int} {g o on oc:Nat} {out:List Int} {w:World},out.length=on->(if(tL cs).length<on then tL cs else out)=(tM cs).2->Sep No w0 w (ak (some ⟨g,o,none⟩) on oc 5 1 (flat bu out)::av tb 84 (EE tw th ca cn cc)::[])->ot Q 2 (aZ tb) best (some ⟨g,o,none⟩) on oc 2 w:=λ{best g o on oc out w} hl he s=>by
  show jN Q (ot Q 1) _ _ _ _ _ _ _;unfold jN;apply rd s (i:=1) rfl;refine C9 (hA.fr (au s)) hn (by decide) (λe=>by unfold GX at e;cases e) λro e g2 o2 rn rc w' s'=>?_;unfold GX at e;rw[if_neg (by decide),if_neg (by decide),Option.some.injEq]at e;subst e;have hrn:=(aO s' (i:=0) rfl dJ (by decide)).len;have s:=fy s s';show cond true _ _;rw[cond_true];show cond false _ _;rw[cond_false];by_cases hlt:(rn:Int)<(on:Int)
  ·rw[bN hlt];unfold y7;rw[AA]at he;refine afw (h _ _ _ _ _ _ ?_);rw[<-he];exact b_ (L':=[_]) [0] s rfl (by decide)
  ·rw[bp hlt];rw[fS]at he;refine afw (h _ _ _ _ _ _ ?_);rw[<-he];exact b_ (L':=[_]) [1] s rfl (by decide)
 refine⟨4,?_⟩;show jN Q (ot Q 3) _ _ _ _ _ _ _;unfold jN;apply rd s (i:=0) rfl;refine C9 (hA.fr (au s)) hn (by decide) (λe w' s'=>?_) λro e g o rn rc w' s'=>?_
 ·
  have hs:ID cs=false:=by unfold GX at e;grind
  have s:=fy s s';show cond false _ _;rw[cond_false];show jN Q (ot Q 2) _ _ _ _ _ _ _;unfold jN;apply rd s (i:=0) rfl;refine C9 (f:=1) (hA.fr (au s)) hn (by decide) (λe=>by unfold GX at e;cases e) λro e g2 o2 rn rc w' s'=>?_;unfold GX at e;rw[if_neg (by decide),if_pos rfl,Option.some.injEq]at e;subst e;have hrn:=(aO s' (i:=0) rfl dJ (by decide)).len;have s:=fy s s';show cond true _ _;refine last hrn ?_ s;unfold tM;grind
 ·unfold GX at e;rw[if_pos rfl]at e;split at e
  ·rename_i hs;rw[Option.some.injEq]at e;subst e;have hrn:2=rn:=(aO s' (i:=0) rfl dJ (by decide)).len;subst hrn;have s:=fy s s';show cond true _ _;rw[cond_true];show cond true _ _;rw[cond_true];unfold y7;show jN Q (ot Q 2) _ _ _ _ _ _ _;unfold jN;apply rd s (i:=1) rfl;refine C9 (f:=1) (hA.fr (au s)) hn (by decide) (λe=>by unfold GX at e;cases e) λro e g2 o2 rn rc w' s'=>?_;unfold GX at e;rw[if_neg (by decide),if_pos rfl,Option.some.injEq]at e;subst e;have hrn:=(aO s' (i:=0) rfl dJ (by decide)).len;rw[List.length_cons]at hrn;have s:=fy s s';show cond true _ _;rw[cond_true];show cond false _ _;rw[cond_false,bp];refine last rfl ?_ (b_ (L':=[_,_]) [1,2] s rfl (by decide));rw[tM,fS,if_pos (v7.1 hs)]
  ·cases e
def apa {Q:Option Addr->Nat->Nat->Int->World->Prop}(s0:Sep F W w0 L)(hA:Sl w0 ca cn cc 1 bu cs)(hm:Tl.DL tw th cs=true)(hn:1<=cn/\cn<=1000)(h:∀g o rn rc w',Sep F W w' (ak (some ⟨g,o,none⟩) rn rc 5 1 (flat bu (tM cs).2)::L)->Fr No w0 w'->Q (some ⟨g,o,none⟩) rn rc 0 w'):
  HH tw th ca cn cc w0 Q:=by
 apply adf;refine aN (bh (F:=No)) λtb w s=>?_;refine lI s 0 rfl (lI s 0 rfl (lS s 0 rfl ?_));refine Tl.C2 s (hA.fr (au s)).row λw s _=>?_;rw[hm,Bool.not_true,cond_false];refine lI s 0 rfl (lI s 0 rfl (lS s 0 rfl ?_));refine ajY (hA.fr (au s)) hn λb g o rn rc w' s'=>?_;have s2:=fy s s';have s3:=b_ (L':=[ak (some ⟨g,o,none⟩) rn rc 5 1 (flat bu (tM cs).2)]) [0] s2 rfl (by decide);exact h g o rn rc w' (fy s0 s3) (au s3)
end
end Go.Proofs.YtmegplnmiepfbaaGreatDoor.S
set_option maxRecDepth 20000
namespace Go.Proofs.YtmegplnmiepfbaaGreatDoor.S.At
open Go.Sx
open Go.Extern
def SP (v:Value)(w:World):(ReflectliteType.typeOf #[.iface 240 v]).run P w=.ok (.iface 219 (rt 240)) w:=by kernel_rfl
def GP (v:Value)(w:World):(ReflectliteType.typeOf #[.iface 187 v]).run P w=.ok (.iface 219 (rt 187)) w:=by kernel_rfl
def GQ (t:Addr)(w:World):(ReflectliteValue.unpack (.iface 188 (.pointer (some t)))).run P w
 =.ok (.agg #[.pointer (some ⟨8,188,none⟩),.pointer (sZ w.heap.size),.int .u64 150]) (w.alloc (.cells #[.pointer (some t)] 188)):=by kernel_rfl
def Ee (n:Int)(w:World):(ReflectliteValue.unpack (.iface 187 (ae n))).run P w
 =.ok (.agg #[.pointer (some ⟨8,187,none⟩),.pointer (sZ w.heap.size),.int .u64 130]) (w.alloc (.cells #[ae n] 187)):=by kernel_rfl
def Q0 (a:Addr)(w:World):(ReflectliteValue.methodAny (ReflectliteValue.valueError "reflectlite.Value.Type" 0) (λt _ _ _=>ReflectliteType.toType t) #[.agg #[.pointer (some ⟨8,188,none⟩),.pointer (some a),.int .u64 150]]).run P w
 =.ok (.iface 219 (rt 188)) w:=by kernel_rfl
def L6 (w:World):((ReflectliteType.abiMethod λt=>(λa:Nat=>Value.int IntKind.u8 (a:Int))<$>Rtype.kind t) #[.pointer (some ⟨8,188,none⟩)]).run P w=.ok (.int .u8 22) w:=by kernel_rfl
def L7 (w:World):((ReflectliteType.abiMethod λt=>(λa:Nat=>Value.int IntKind.u8 (a:Int))<$>Rtype.kind t) #[.pointer (some ⟨8,187,none⟩)]).run P w=.ok (.int .u8 2) w:=by kernel_rfl
def Q2 (w:World):(ReflectliteType.method ReflectliteType.elem #[rt 188]).run P w=.ok (.iface 219 (rt 187)) w:=by kernel_rfl
def Ws (w:World):(ReflectliteType.relation "Implements" ReflectliteType.implements_ #[rt 187,.iface 219 (rt 74)]).run P w=.ok (.bool true) w:=by kernel_rfl
def ad9 (w:World):(ReflectliteType.relation "AssignableTo" ReflectliteType.assignableTo #[rt 240,.iface 219 (rt 187)]).run P w=.ok (.bool false) w:=by kernel_rfl
def Q3 (w:World):(ReflectliteType.relation "AssignableTo" ReflectliteType.assignableTo #[rt 187,.iface 219 (rt 187)]).run P w=.ok (.bool true) w:=by kernel_rfl
def ad_ (v:Value)(w:World):(Go.method (P.types.size+Made.depth) 240 v "Unwrap").run P w=.ok (321,v) w:=by kernel_rfl
abbrev vP (a:Addr):Value:=.agg #[.pointer (some ⟨8,188,none⟩),.pointer (some a),.int .u64 150]
abbrev vR (a:Addr):Value:=.agg #[.pointer (some ⟨8,187,none⟩),.pointer (some a),.int .u64 130]
abbrev vE (a:Addr):Value:=.agg #[.pointer (some ⟨8,187,none⟩),.pointer (some a),.int .u64 386]
def zN (a:Addr)(w:World):(ReflectliteValue.parts (vP a)).run P w=.ok (some (188,a,150)) w:=by kernel_rfl
def Jf (a:Addr)(w:World):(ReflectliteValue.parts (vR a)).run P w=.ok (some (187,a,130)) w:=by kernel_rfl
def Jg (a:Addr)(w:World):(ReflectliteValue.parts (vE a)).run P w=.ok (some (187,a,386)) w:=by kernel_rfl
def L8 (a p:Addr)(w:World)(ha:w.cell? a=some (.pointer (some p))):(ReflectliteValue.method (ReflectliteValue.valueError "reflectlite.Value.IsNil" 0) ReflectliteValue.isNil #[vP a]).run P w=.ok (.bool false) w:=by rw[rlm];simp[Sem.run_bind,zN,Result.andThen];simp[ReflectliteValue.isNil,loadVar,isAgg,underlying,Go.Proofs.Tryz.underlying188,ha,Result.andThen]
def Jh (w:World):(Rtype.elem? 188).run P w=.ok (some 187) w:=by kernel_rfl
def acd (p:Addr)(w:World):(ReflectliteValue.mk 187 p ReflectliteValue.flagAddr).run P w=.ok (vE p) w:=by kernel_rfl
def L9 (a p:Addr)(w:World)(ha:w.cell? a=some (.pointer (some p))):(ReflectliteValue.method (ReflectliteValue.valueError "reflectlite.Value.Elem" 0) ReflectliteValue.elem #[vP a]).run P w=.ok (vE p) w:=by rw[rlm];simp[Sem.run_bind,zN,Result.andThen];simp[ReflectliteValue.elem,loadVar,isAgg,underlying,Go.Proofs.Tryz.underlying188,ha,Result.andThen,Jh,acd]
def Ji (w:World):(Rtype.directlyAssignable 187 187).run P w=.ok true w:=by kernel_rfl
def Ww (t b:Addr)(n:Int)(old:Value)(w:World)(hb:w.cell? b=some (ae n))(ht:w.cell? t=some old)(hf:w.frozen? t=false):
  (ReflectliteValue.set #[vE t,vR b]).run P w=.ok (.tuple #[]) (w.setCell t (ae n)):=by
 rw[rls];simp[Sem.run_bind,Jg,Jf,Result.andThen];simp[ReflectliteValue.flagAddr,loadVar,isAgg,underlying,Go.Proofs.Tryz.underlying187,hb,Result.andThen,Ji,storeVar,Value.cells,storeCells,Addr.add];rw[run_store P w t _ _ (by rfl)];simp[ht,hf]
def awc {t:Nat}(ht:t=240)(v:Value)(xT:TypeId)(w:World):(Instr.typeAssert (.iface t v) xT 231 true).run P w=.ok (.tuple #[.nilIface,.bool false]) w:=by subst ht;exact run_typeAssert_lacksB Go.Proofs.Tryz.underlying231 (by kernel_rfl) (by kernel_rfl) v xT w
def avl {t:Nat}(ht:t=240)(v:Value)(xT:TypeId)(w:World):(Instr.typeAssert (.iface t v) xT 224 true).run P w=.ok (.tuple #[.iface t v,.bool true]) w:=by subst ht;exact run_typeAssert_hasB Go.Proofs.Tryz.underlying224 (by kernel_rfl) v xT w
def aAg:oT 321 fns=true:=by kernel_rfl
section
variable {w:World}{p n:Nat}{v:Value}
def ab_ {Q:Value->World->Prop}(hv:w.cell? ((aZ p).add 1)=some v)(hp:Value.plain v=true)(k:Q v w):yB (cx n) (.iface 240 (.pointer (sZ p))) "Unwrap" [] w λv w=>dV v λr=>Q r w:=by
 refine⟨321,_,ad_ _ w,?_⟩;unfold iv;have h:Dh (sZ p) w Q:=by apply MX;refine ah (mG hv hp ?_);unfold dV;grind
 exact h
end
attribute [local irreducible] tH callFunc Sem.run ReflectliteValue.method ReflectliteValue.set ReflectliteValue.unpack ReflectliteType.relation ReflectliteType.typeOf af cA bw bg aA cq bY St App cD cy cw bT bC aq bR av ak aV mapA
section
variable {F:Nat->Prop}{W w:World}{L:List As}{p r:Nat}{c v0:Int}
def Q5 {b:Addr}{K:Value->World->Prop}(hb:w.cell? b=some (ae c))(h:St (aZ r) (ae c) w λw=>K (.tuple #[]) w):tH P 139 #[vE (aZ r),vR b] w K:=by obtain⟨⟨u,hu⟩,hf,k⟩:=al5 h;have he:=Ww (aZ r) b c u w hb hu hf;apply jW (w':=w.setCell (aZ r) (ae c)) aqG he;exact k
def Wx {Q:Bool->World->Prop}{k tb:Nat}{a:Nat}(s:Sep F W w (av tb 161 [.pointer (some ⟨8,188,none⟩),.pointer (sZ a),.int .u64 150]::av a 188 [.pointer (sZ r)]::av r 187 [ae v0]::L))
  (hQ:∀w',Sep F W w' (av r 187 [ae c]::L)->Q true w'){target:Value}:je Q (k+1) (.iface 187 (ae c)) target (.iface 219 (rt 187)) (aZ tb) w:=by
 show wL Q (je Q k) _ _ _ _ _;apply jW x95 (GP _ w);refine mT (Q1 _) Wu aiH (Q3 w) ?_;apply al2;refine lP s 0 rfl (lP s 0 rfl (lI s 0 rfl ?_));apply jW aqF (L9 (aZ a) (aZ r) w (by have:=cK s (i:=1) (j:=0) rfl rfl rfl;exact this));apply SS;refine jW x97 (Ee c w) ?_;apply SS;have s2:=tK (ai (ai s)) [ae c] 187;have s2:=s2;apply Q5 (c:=c) (by simp_all);refine ax s2 (i:=1) rfl rfl rfl λw s=>?_;exact hQ w (ai s)
def aiM {Q:Bool->World->Prop}{k tb:Nat}{a:Nat}(s:Sep F W w (av tb 161 [.pointer (some ⟨8,188,none⟩),.pointer (sZ a),.int .u64 150]::av a 188 [.pointer (sZ r)]::av r 187 [ae v0]::L))
  (hv:w.cell? ((aZ p).add 1)=some (.iface 187 (ae c)))
  (hQ:∀w',Sep F W w' (av r 187 [ae c]::L)->Q true w'){target:Value}:je Q (k+2) (.iface 240 (.pointer (sZ p))) target (.iface 219 (rt 187)) (aZ tb) w:=by
 show wL Q (je Q (k+1)) _ _ _ _ _;apply jW x95 (SP _ w);refine mT (Q1 _) Wu aiH (ad9 w) ?_;apply aeb;refine AU (awc rfl _ _ _) (SQ rfl ?_);refine AU (avl rfl _ _ _) (SQ rfl ?_);exact ab_ hv rfl (tF (Wx s hQ))
def L_ {Q:Bool->World->Prop}(s:Sep F W w (av r 187 [ae v0]::L))(hv:∀w',Sep F W w' L->w'.cell? ((aZ p).add 1)=some (.iface 187 (ae c)))
  (h1:∀w',Sep F W w' L->w'.cell? (aZ 1)=some (.iface 219 (rt 74)))
  (hQ:∀w',Sep F W w' (av r 187 [ae c]::L)->Q true w'):
  nv (.iface 240 (.pointer (sZ p))) (.iface 188 (.pointer (sZ r))) w Q:=by
 apply Bg;refine tF (tF ?_);refine jW x97 (GQ (aZ r) w) ?_;apply SS;have s:=tK s [.pointer (sZ r)] 188;have s:=s;generalize w.heap.size=a at s⊢;generalize w.alloc (.cells #[.pointer (sZ r)] 188)=w1 at s⊢;refine aS s λvb w s=>?_;refine sT s 0 rfl λw s=>?_;refine sT s 0 rfl λw s=>?_;refine ax s (i:=0) rfl rfl rfl λw s=>?_;refine lP s 0 rfl (lP s 0 rfl (lI s 0 rfl ?_));apply jW x98 (Q0 (aZ a) w);refine mT (Ia _) Q4 aea (L6 w) ?_;apply al4;refine lP s 0 rfl (lP s 0 rfl (lI s 0 rfl ?_));apply jW x99 (L8 (aZ a) (aZ r) w (by have:=cK s (i:=1) (j:=0) rfl rfl rfl;exact this));apply aeb;refine mT (aaa _) aiI aqH (Q2 w) ?_;refine mT (Ia _) Q4 aea (L7 w) ?_;apply arV;apply mG (h1 w (ai (ai (ai s)))) rfl;refine mT (ad8 _) aiJ aqI (Ws w) ?_;apply al3;refine lP s 0 rfl (lP s 0 rfl (lI s 0 rfl ?_));apply Gi;have s:=ai s;refine aN s λtb w s=>?_;exact⟨2,aiM s (hv w (ai (ai (ai s)))) hQ⟩
end
end Go.Proofs.YtmegplnmiepfbaaGreatDoor.S.At
set_option maxRecDepth 20000
namespace Go.Proofs.YtmegplnmiepfbaaGreatDoor.S.Pk
open Go.Sx
open Go.Extern
def GP (v:Value)(w:World):(ReflectliteType.typeOf #[.iface 268 v]).run P w=.ok (.iface 219 (rt 268)) w:=by kernel_rfl
def GQ (t:Addr)(w:World):(ReflectliteValue.unpack (.iface 269 (.pointer (some t)))).run P w
 =.ok (.agg #[.pointer (some ⟨8,269,none⟩),.pointer (sZ w.heap.size),.int .u64 150]) (w.alloc (.cells #[.pointer (some t)] 269)):=by kernel_rfl
def Ee (n:Option Addr)(w:World):(ReflectliteValue.unpack (.iface 268 (.pointer n))).run P w
 =.ok (.agg #[.pointer (some ⟨8,268,none⟩),.pointer (sZ w.heap.size),.int .u64 150]) (w.alloc (.cells #[.pointer n] 268)):=by kernel_rfl
def Q0 (a:Addr)(w:World):(ReflectliteValue.methodAny (ReflectliteValue.valueError "reflectlite.Value.Type" 0) (λt _ _ _=>ReflectliteType.toType t) #[.agg #[.pointer (some ⟨8,269,none⟩),.pointer (some a),.int .u64 150]]).run P w
 =.ok (.iface 219 (rt 269)) w:=by kernel_rfl
def L6 (w:World):((ReflectliteType.abiMethod λt=>(λa:Nat=>Value.int IntKind.u8 (a:Int))<$>Rtype.kind t) #[.pointer (some ⟨8,269,none⟩)]).run P w=.ok (.int .u8 22) w:=by kernel_rfl
def L7 (w:World):((ReflectliteType.abiMethod λt=>(λa:Nat=>Value.int IntKind.u8 (a:Int))<$>Rtype.kind t) #[.pointer (some ⟨8,268,none⟩)]).run P w=.ok (.int .u8 22) w:=by kernel_rfl
def Q2 (w:World):(ReflectliteType.method ReflectliteType.elem #[rt 269]).run P w=.ok (.iface 219 (rt 268)) w:=by kernel_rfl
def Ws (w:World):(ReflectliteType.relation "Implements" ReflectliteType.implements_ #[rt 268,.iface 219 (rt 74)]).run P w=.ok (.bool true) w:=by kernel_rfl
def Q3 (w:World):(ReflectliteType.relation "AssignableTo" ReflectliteType.assignableTo #[rt 268,.iface 219 (rt 268)]).run P w=.ok (.bool true) w:=by kernel_rfl
abbrev vP (a:Addr):Value:=.agg #[.pointer (some ⟨8,269,none⟩),.pointer (some a),.int .u64 150]
abbrev vR (a:Addr):Value:=.agg #[.pointer (some ⟨8,268,none⟩),.pointer (some a),.int .u64 150]
abbrev vE (a:Addr):Value:=.agg #[.pointer (some ⟨8,268,none⟩),.pointer (some a),.int .u64 406]
def zN (a:Addr)(w:World):(ReflectliteValue.parts (vP a)).run P w=.ok (some (269,a,150)) w:=by kernel_rfl
def Jf (a:Addr)(w:World):(ReflectliteValue.parts (vR a)).run P w=.ok (some (268,a,150)) w:=by kernel_rfl
def Jg (a:Addr)(w:World):(ReflectliteValue.parts (vE a)).run P w=.ok (some (268,a,406)) w:=by kernel_rfl
def L8 (a p:Addr)(w:World)(ha:w.cell? a=some (.pointer (some p))):(ReflectliteValue.method (ReflectliteValue.valueError "reflectlite.Value.IsNil" 0) ReflectliteValue.isNil #[vP a]).run P w=.ok (.bool false) w:=by rw[rlm];simp[Sem.run_bind,zN,Result.andThen];simp[ReflectliteValue.isNil,loadVar,isAgg,underlying,Go.Proofs.Tryz.underlying269,ha,Result.andThen]
def Jh (w:World):(Rtype.elem? 269).run P w=.ok (some 268) w:=by kernel_rfl
def acd (p:Addr)(w:World):(ReflectliteValue.mk 268 p ReflectliteValue.flagAddr).run P w=.ok (vE p) w:=by kernel_rfl
def L9 (a p:Addr)(w:World)(ha:w.cell? a=some (.pointer (some p))):(ReflectliteValue.method (ReflectliteValue.valueError "reflectlite.Value.Elem" 0) ReflectliteValue.elem #[vP a]).run P w=.ok (vE p) w:=by rw[rlm];simp[Sem.run_bind,zN,Result.andThen];simp[ReflectliteValue.elem,loadVar,isAgg,underlying,Go.Proofs.Tryz.underlying269,ha,Result.andThen,Jh,acd]
def Ji (w:World):(Rtype.directlyAssignable 268 268).run P w=.ok true w:=by kernel_rfl
def Ww (t b:Addr)(n:Option Addr)(old:Value)(w:World)(hb:w.cell? b=some (.pointer n))(ht:w.cell? t=some old)(hf:w.frozen? t=false):
  (ReflectliteValue.set #[vE t,vR b]).run P w=.ok (.tuple #[]) (w.setCell t (.pointer n)):=by
 rw[rls];simp[Sem.run_bind,Jg,Jf,Result.andThen];simp[ReflectliteValue.flagAddr,loadVar,isAgg,underlying,Go.Proofs.Tryz.underlying268,hb,Result.andThen,Ji,storeVar,Value.cells,storeCells,Addr.add];rw[run_store P w t _ _ (by rfl)];simp[ht,hf]
attribute [local irreducible] tH callFunc Sem.run ReflectliteValue.method ReflectliteValue.set ReflectliteValue.unpack ReflectliteType.relation ReflectliteType.typeOf af cA bw bg aA cq bY St App cD cy cw bT bC aq bR av ak aV mapA
section
variable {F:Nat->Prop}{W w:World}{L:List As}{p r:Nat}{c v0:Option Addr}
def awd {A B:Prop}(h:A):dI .u8 (.int .u8 22) λr=>cond (r !=20) A B:=h
def Q5 {b:Addr}{K:Value->World->Prop}(hb:w.cell? b=some (.pointer c))(h:St (aZ r) (.pointer c) w λw=>K (.tuple #[]) w):tH P 139 #[vE (aZ r),vR b] w K:=by obtain⟨⟨u,hu⟩,hf,k⟩:=al5 h;have he:=Ww (aZ r) b c u w hb hu hf;apply jW (w':=w.setCell (aZ r) (.pointer c)) aqG he;exact k
def Wx {Q:Bool->World->Prop}{k tb:Nat}{a:Nat}(s:Sep F W w (av tb 161 [.pointer (some ⟨8,269,none⟩),.pointer (sZ a),.int .u64 150]::av a 269 [.pointer (sZ r)]::av r 268 [.pointer v0]::L))
  (hQ:∀w',Sep F W w' (av r 268 [.pointer c]::L)->Q true w'){target:Value}:je Q (k+1) (.iface 268 (.pointer c)) target (.iface 219 (rt 268)) (aZ tb) w:=by
 show wL Q (je Q k) _ _ _ _ _;apply jW x95 (GP _ w);refine mT (Q1 _) Wu aiH (Q3 w) ?_;apply al2;refine lP s 0 rfl (lP s 0 rfl (lI s 0 rfl ?_));apply jW aqF (L9 (aZ a) (aZ r) w (by have:=cK s (i:=1) (j:=0) rfl rfl rfl;exact this));apply SS;refine jW x97 (Ee c w) ?_;apply SS;have s2:=tK (ai (ai s)) [.pointer c] 268;have s2:=s2;apply Q5 (c:=c) (by simp_all);refine ax s2 (i:=1) rfl rfl rfl λw s=>?_;exact hQ w (ai s)
def L_ {Q:Bool->World->Prop}(s:Sep F W w (av r 268 [.pointer v0]::L))
  (h1:∀w',Sep F W w' L->w'.cell? (aZ 1)=some (.iface 219 (rt 74)))
  (hQ:∀w',Sep F W w' (av r 268 [.pointer c]::L)->Q true w'):
  nv (.iface 268 (.pointer c)) (.iface 269 (.pointer (sZ r))) w Q:=by
 apply Bg;refine tF (tF ?_);refine jW x97 (GQ (aZ r) w) ?_;apply SS;have s:=tK s [.pointer (sZ r)] 269;have s:=s;generalize w.heap.size=a at s⊢;generalize w.alloc (.cells #[.pointer (sZ r)] 269)=w1 at s⊢;refine aS s λvb w s=>?_;refine sT s 0 rfl λw s=>?_;refine sT s 0 rfl λw s=>?_;refine ax s (i:=0) rfl rfl rfl λw s=>?_;refine lP s 0 rfl (lP s 0 rfl (lI s 0 rfl ?_));apply jW x98 (Q0 (aZ a) w);refine mT (Ia _) Q4 aea (L6 w) ?_;apply al4;refine lP s 0 rfl (lP s 0 rfl (lI s 0 rfl ?_));apply jW x99 (L8 (aZ a) (aZ r) w (by have:=cK s (i:=1) (j:=0) rfl rfl rfl;exact this));apply aeb;refine mT (aaa _) aiI aqH (Q2 w) ?_;refine mT (Ia _) Q4 aea (L7 w) ?_;apply awd;apply mG (h1 w (ai (ai (ai s)))) rfl;refine mT (ad8 _) aiJ aqI (Ws w) ?_;apply al3;refine lP s 0 rfl (lP s 0 rfl (lI s 0 rfl ?_));apply Gi;have s:=ai s;refine aN s λtb w s=>?_;exact⟨1,Wx s hQ⟩
end
end Go.Proofs.YtmegplnmiepfbaaGreatDoor.S.Pk
set_option maxRecDepth 20000
namespace Go.Proofs.YtmegplnmiepfbaaGreatDoor.S
open Go.Sx
attribute [local irreducible] af cA bw bg aA cq bY St Bx Al App cD cy cw bT aL bC aq bR av ak aV mapA
abbrev sX (a:Addr):Value:=.iface 401 (.pointer (some a))
attribute [local irreducible] tH yB in
theorem aq3 {w:World}{Q:Bool->World->Prop}{a b:Addr}{c:Bool}(he:∀(x y:Operand) (K:Bool->World->Prop),K c w->bT P .eql 74 x y (sX a) (sX b) w K)(hQ:Q c w):o_ (sX a) (sX b) w Q:=by
 apply Nd;refine tF (tF ?_);apply jW x95 (afl _ w);refine mT (aiF _) aoH au4 (akO w) ?_;have h:wU (sX a) (sX b) true w Q:=by apply Nc;exact⟨1,akP (.inl rfl) he hQ⟩
 exact h
def As.nil {w:World}{Q:Bool->World->Prop}{v:Value}(hQ:Q false w):nv .nilIface v w Q:=Bg _ _ _ _ hQ
def avm {w:World}{Q:Bool->World->Prop}{a b:Option Addr}{n c m d:Nat}{xs ys:List Int}(hA:Sl w a n c 1 bu xs)(hB:Sl w b m d 1 bu ys)(hx:ee xs)(hy:ee ys)(h:Q (decide (xs=ys)) w):Dx a n c b m d w Q:=by apply XA;refine Yb ef hA.row rfl rfl rfl rfl rfl rfl (akh ?_);refine Yb ef hB.row rfl rfl rfl rfl rfl rfl (akh ?_);rw[anf hx hy];exact h
abbrev Cz (rb:Nat)(ba:Option Addr)(bn bc:Nat)(at_:Int):As:=av rb 265 [.slice ba bn bc,ae at_]
section
variable {W w w0:World}{L:List As}{lg:xD}{ba:Option Addr}{bn bc rb:Nat}{bs:List Int}{p n:Nat}
def aem {A B:Prop}(h:A):BE .nilIface λb=>cond b A B:=h
def Me {A B:Prop}(h:B):BE .nilIface λb=>cond (!b) A B:=h
def Q_ {t:Nat}{v:Value}{A B:Prop}(h:A):BE (.iface t v) λb=>cond (!b) A B:=h
def AR {a:Addr}{K:Value->Prop}(k:K (sX a)):dV (sX a) K:=k
def S0 {Q:Option Addr->Nat->Nat->Value->World->Prop}(hL:jq w0 lg)(hB:Sl w0 ba bn bc 1 bu bs)(FM:bn<=1000000000)(hp:p<=bn)(hn:n<=100000)(s:Sep No w0 w (Cz rb ba bn bc p::L))
  (hno:bn-p<n->∀w',Sep No w0 w' (Cz rb ba bn bc p::L)->Q none 0 0 (sX lg.a6) w')
  (hyes:p+n<=bn->∀a c w',Sl w' a n c 1 bu ((bs.drop p).take n)->Sep No w0 w' (Cz rb ba bn bc ((p+n:Nat):Int)::L)->Q a n c .nilIface w'):nK (sZ rb) n w Q:=by
 apply Ob;have s:=ay s;refine ah (lS s 0 rfl (ah (lI s 0 rfl ?_)));rw[aG];by_cases h:bn-p<n
 ·rw[bN];have s:=ay s;have c6:=Fr.cell (au s) hL.v6 id;exact mG c6 rfl ⟨c6,AR (hno h _ s)⟩
 ·rw[bp];refine ah (lI s 0 rfl (ah (ax s (i:=0) rfl rfl rfl λw s=>?_)));have e:IntKind.wrap .i64 ((p:Int)+n)=((p+n:Nat):Int):=by rw[aG];omega
  rw[e]at s;have s:=ay s;refine ah (lS s 0 rfl (ah (lI s 0 rfl (ah (lI s 0 rfl ?_)))));rw[aG];refine(hB.fr (au s)).mid (p:=p) (by omega) rfl (by omega) (by omega) λa n' c en hs=>?_;grind
def YA {Q:Option Addr->Nat->Nat->Value->World->Prop}(hL:jq w0 lg)(hB:Sl w0 ba bn bc 1 bu bs)(FM:bn<=1000000000)(hp:p<=bn)(hn:n<=100000)(s:Sep No w0 w (Cz rb ba bn bc p::L))
  (hno:bn-p<n->∀w',Sep No w0 w' (Cz rb ba bn bc p::L)->Q none 0 0 (sX lg.a6) w')
  (GU:p+n<=bn->0∈(bs.drop p).take n->∀a c w',Sl w' a n c 1 bu ((bs.drop p).take n)->Sep No w0 w' (Cz rb ba bn bc ((p+n:Nat):Int)::L)->Q a n c (sX lg.a5) w')
  (hyes:p+n<=bn->0∉(bs.drop p).take n->∀a c w',Sl w' a n c 1 bu ((bs.drop p).take n)->Sep No w0 w' (Cz rb ba bn bc ((p+n:Nat):Int)::L)->Q a n c .nilIface w'):qu (sZ rb) n w Q:=by
 apply Mv;refine S0 hL hB FM hp hn s (λh w s=>?_) λh a c w hs s=>?_
 ·exact tF (AR (hno h w s))
 ·apply aem;apply Tl.HU hs.row (by omega);by_cases h0:(0:Int)∈(bs.drop p).take n
  ·rw[bN h0];have c5:=Fr.cell (au s) hL.v5 id;exact mG c5 rfl (AR (GU h h0 a c w hs s))
  ·rw[bp h0];exact hyes h h0 a c w hs s
def Xg {Q:Option Addr->Nat->Nat->Value->World->Prop}(hL:jq w0 lg)(s:Sep No w0 w L)(h:∀w',Sep No w0 w' L->Q none 0 0 (sX lg.a5) w'):bY (aZ 5) w.drew λx=>w.drew.cell? (aZ 5)=some x/\dV x λr=>Q none 0 0 r w.drew:=by have s:=ay s;have c5:=Fr.cell (au s) hL.v5 id;exact mG c5 rfl ⟨c5,AR (h _ s)⟩
def apb {Q:Option Addr->Nat->Nat->Value->World->Prop}(hL:jq w0 lg)(hB:Sl w0 ba bn bc 1 bu bs)(FM:bn<=1000000000)(hr:ee bs)(hn:n<=256)
  (hno:pP n (bs.drop 1) [] 1=none->∀e p' w',(e=lg.a5\/e=lg.a6)->Sep No w0 w' (Cz rb ba bn bc p'::L)->Q none 0 0 (sX e) w')
  (hyes:∀cs used,pP n (bs.drop 1) [] 1=some (cs,used)->∀a m c w',used<=bn->Sep No w0 w' (ak a m c 5 1 (flat bu cs)::Cz rb ba bn bc (used:Nat)::L)->Q a m c .nilIface w'):
  ∀(j p:Nat) (oa:Option Addr) (on oc:Nat) (out:List Int) (w:World),n<=on+j->on<=n->p<=bn->pP n (bs.drop p) out p=pP n (bs.drop 1) [] 1->Sep No w0 w (ak oa on oc 5 1 (flat bu out)::Cz rb ba bn bc p::L)->
   pD Q (j+1) (sZ rb) n oa on oc w:=by
 have hbl:=hB.len;intro j;induction j with
 |zero=>
  intro p oa on oc out w hj Ch hp he s;show pC _ _ _ _ _ _ _ _;unfold pC;have hol:=(aO s (i:=0) rfl dJ (by decide)).len;rw[Nq (by omega)]at he;grind
 |succ j ih=>
  intro p oa on oc out w hj Ch hp he s;have hol:=(aO s (i:=0) rfl dJ (by decide)).len;show pC _ _ _ _ _ _ _ _;unfold pC;by_cases hlt:on<n
  ·rw[bN];refine S0 (n:=2) hL hB FM hp (by decide) (iZ s) (λh w s=>?_) λh a c w hs s=>?_
   ·refine Q_ (AR ?_);refine hno ?_ lg.a6 p w (.inr rfl) (gF s (.cons_cons _ (List.sublist_cons_self _ _)));rw[<-he];have h2:(bs.drop p).length<2:=by grind
    match hd:bs.drop p,h2 with
    |[],_=>unfold pP;grind
    |[x],_=>unfold pP;grind
   ·apply Me;have s:=ay s;have hs:=hs.drew;obtain⟨x,y,rest,hd⟩:∃x y rest,bs.drop p=x::y::rest:=by
     have h2:2<=(bs.drop p).length:=by rw[List.length_drop];omega
     match hd:bs.drop p,h2 with
     |x::y::rest,_=>exact⟨x,y,rest,rfl⟩
    have awe:rest=bs.drop (p+2):=by rw[<-List.drop_drop,hd];rfl
    have hx:=hr x (List.mem_of_mem_drop (by rw[hd];simp));rw[hd]at hs he;apply hs.Db rfl (by decide);refine hs.El rfl (by decide) λad z hz hc=>?_;have hz':z=y:=by have:([x,y]:List Int)[1]? =some z:=hz;simpa using this.symm
    subst hz';have hc0:=hc 0 _ rfl;refine aR hc0 ⟨hc0,?_⟩;have e1:gi (List.take 2 (x::z::rest)) 0=x:=rfl;rw[e1];rw[pP,fS]at he;have bad:Ea n out x z=true->∀w',Sep No w0 w' (Cz rb ba bn bc ((p+2:Nat):Int)::ak oa on oc 5 1 (flat bu out)::L)->Q none 0 0 (sX lg.a5) w':=λhb w' s'=>by rw[if_pos hb]at he;exact hno he.symm lg.a5 _ w' (.inl rfl) (gF s' (.cons_cons _ (List.sublist_cons_self _ _)))
    by_cases hz0:z=0
    ·rw[eC hz0,cond_true];exact Xg hL s (bad (by unfold Ea;rw[eC hz0];rfl))
    rw[cQ hz0,cond_false,aG (n:=x),aG,aG];by_cases ar6:x+1>(n:Int)-on
    ·rw[bN ar6];exact Xg hL s (bad (by unfold Ea;rw[decide_eq_true (by omega)];simp))
    rw[bp ar6];have go:¬Ea n out x z=true->uk (pD Q (j+1)) Q (sZ rb) n oa on oc (x+1) z w.drew:=λhb=>by
     rw[if_neg hb]at he;refine aN s λxb w s=>?_;have hX:=acy (ns:=[z]) s (i:=0) rfl;have e2:x+1=(((x+1).toNat:Nat):Int):=by omega
     rw[e2];refine SZ s hX (by omega) λra w s _=>?_;have hR:=aO s (i:=0) rfl dJ (by decide);have s:=pk 4 [3,2,0] s;refine ahT (b:=0) s (by omega) (by simp) (by omega) hR λa' c' w s=>?_;refine ih (p+2) a' (on+(x+1).toNat) c' _ w (by omega) (by omega) (by omega) ?_ (gF s (.cons_cons _ (.cons_cons _ (List.sublist_cons_self _ _))));rw[<-awe];exact he
    by_cases hpos:0<on
    ·rw[bN,aG];have hO:=aO s (i:=1) rfl dJ (by decide);apply hO.Db (k:=on-1) (by omega) (by omega);by_cases hl:gi out (on-1)=z
     ·rw[eC hl,cond_true];exact Xg hL s (bad (by unfold Ea;rw[hol,decide_eq_true hpos,eC hl];simp))
     ·rw[cQ hl,cond_false];apply go;rw[Ea,hol,cQ hl,cQ hz0,decide_eq_false (by omega)];simp
    ·rw[bp];apply go;rw[Ea,hol,cQ hz0,decide_eq_false (by omega),decide_eq_false hpos];simp
  ·rw[bp];rw[Nq (by omega)]at he;exact hyes out p he.symm oa on oc w hp s
def amm {Q:Option Addr->Nat->Nat->Value->World->Prop}(hL:jq w0 lg)(hB:Sl w0 ba bn bc 1 bu bs)(FM:1<=bn/\bn<=1000000000)(hr:ee bs)(hn:n<=256)(s:Sep No w0 w (Cz rb ba bn bc 1::L))
  (hno:pP n (bs.drop 1) [] 1=none->∀e p' w',(e=lg.a5\/e=lg.a6)->Sep No w0 w' (Cz rb ba bn bc p'::L)->Q none 0 0 (sX e) w')
  (hyes:∀cs used,pP n (bs.drop 1) [] 1=some (cs,used)->∀a m c w',used<=bn->Sep No w0 w' (ak a m c 5 1 (flat bu cs)::Cz rb ba bn bc (used:Nat)::L)->Q a m c .nilIface w'):xV (sZ rb) n w Q:=by
 apply Oc;exact⟨n+1,apb hL hB FM.2 hr hn hno hyes n 1 none 0 0 [] w (by omega) (Nat.zero_le _) FM.1 rfl (bD s 5 1)⟩
end
end Go.Proofs.YtmegplnmiepfbaaGreatDoor.S
set_option maxRecDepth 20000
namespace Go.Proofs.YtmegplnmiepfbaaGreatDoor.S
open Go.Sx
attribute [local irreducible] af cA bw bg aA cq bY St Bx Al App cD cy cw bT aL bC aq bR av ak aV mapA
def ato {bs cs:List Int}{n used:Nat}(hn:1<=n)(hb:∀x∈bs,0<=x/\x<256)(hB:Iw n bs=some (cs,used)):cs.length=n/\(∀x∈cs,1<=x/\x<256)/\used<=bs.length:=by
 cases bs with
 |nil=>cases hB
 |cons f r=>
  rw[FF]at hB;split at hB
  ·split at hB
   ·cases hB
   ·rename_i h1;cases hB;obtain⟨x,r',rfl⟩:∃x r',r=x::r':=by
     cases r with
     |nil=>grind
     |cons x r'=>grind
    have hx:=hb x (by simp);refine⟨by simp,λy hy=>?_,by simp⟩;rw[List.mem_replicate]at hy;have h3:y=x:=hy.2;omega
  ·split at hB
   ·grind
   ·split at hB
    ·have:=Sw n r [] 1 cs used (λx hx=>hb x (by simp[hx])) (by simp) (by simp) hB;grind
    ·cases hB
section
variable {W w w0:World}{L:List As}{lg:xD}{ba:Option Addr}{bn bc rb:Nat}{bs:List Int}{n:Nat}
def amn {Q:Option Addr->Nat->Nat->Value->World->Prop}(hL:jq w0 lg)(hB:Sl w0 ba bn bc 1 bu bs)(FM:bn<=1000000000)(hr:ee bs)(hn:1<=n/\n<=256)(s:Sep No w0 w (Cz rb ba bn bc 0::L))
  (hno:Iw n bs=none->∀a m c ns e p' w',(e=lg.a5\/e=lg.a6)->m<=256->Sl w' a m c 1 bu ns->Sep No w0 w' (Cz rb ba bn bc p'::L)->Q a m c (sX e) w')
  (hyes:∀cs used,Iw n bs=some (cs,used)->∀a c w',used<=bn->Sl w' a n c 1 bu cs->Sep No w0 w' (Cz rb ba bn bc (used:Nat)::L)->Q a n c .nilIface w'):xS (sZ rb) n w Q:=by
 apply Od;have hbl:=hB.len;have s:=s;refine S0 (n:=1) hL hB FM (Nat.zero_le _) (by decide) s (λh w s=>?_) λh a c w hs s=>?_
 ·have e0:bs=[]:=List.eq_nil_of_length_eq_zero (by omega);exact Q_ (AR (hno (by rw[e0];rfl) none 0 0 [] lg.a6 _ w (.inr rfl) (Nat.zero_le _) BK s))
 ·apply Me;obtain⟨f,r,rfl⟩:∃f r,bs=f::r:=by
   cases bs with
   |nil=>grind
   |cons f r=>grind
  apply hs.Db rfl (by decide);have e1:gi (List.take 1 (List.drop 0 (f::r))) 0=f:=rfl;rw[e1];have s:=s;rw[List.length_cons]at hbl;have hr1:=hr.cons;rw[FF]at hno hyes;by_cases f0:f=0
  ·rw[eC f0,cond_true];rw[if_pos f0]at hno hyes;refine YA (n:=1) hL hB FM (by omega) (by decide) s (λh w s=>?_) (λh h0 a c w hs s=>?_) λh h0 a c w hs s=>?_
   ·have er:r=[]:=List.eq_nil_of_length_eq_zero (by omega);refine amk s (by omega) λra w s _=>AR ?_;have hA:=aO s (i:=0) rfl dJ (by decide);exact hno (if_pos (.inl er)) ra 0 0 [] lg.a6 _ w (.inr rfl) (Nat.zero_le _) hA (ai s)
   ·obtain⟨x,r',rfl⟩:∃x r',r=x::r':=by
     cases r with
     |nil=>simp at hbl;omega
     |cons x r'=>exact⟨x,r',rfl⟩
    have hx:x=0:=by have:(0:Int)∈[x]:=h0;exact(List.mem_singleton.1 this).symm
    have hs:=hs;refine SZ s hs (by omega) λra w s _=>AR ?_;have hA:=aO s (i:=0) rfl dJ (by decide);exact hno (if_pos (.inr hx)) ra n n _ lg.a5 _ w (.inl rfl) hn.2 hA (ai s)
   ·obtain⟨x,r',rfl⟩:∃x r',r=x::r':=by
     cases r with
     |nil=>simp at hbl;omega
     |cons x r'=>exact⟨x,r',rfl⟩
    have hx:¬x=0:=λe=>h0 (by rw[e];exact List.mem_cons_self ..);have hs:=hs;refine SZ s hs (by omega) λra w s _=>?_;have hA:=aO s (i:=0) rfl dJ (by decide);refine hyes _ 2 (if_neg λe=>e.elim (λe=>by cases e) hx) ra n w h hA (ai s)
  rw[cQ f0,cond_false];rw[if_neg f0]at hno hyes;by_cases f1:f=1
  ·rw[eC f1,cond_true];rw[if_pos f1]at hno hyes;refine YA hL hB FM (by omega) (by omega) s (λh w s=>?_) (λh h0 a c w hs s=>?_) λh h0 a c w hs s=>?_
   ·exact AR (hno (if_pos (.inl (by omega))) none 0 0 [] lg.a6 _ w (.inr rfl) (Nat.zero_le _) BK s)
   ·exact AR (hno (if_pos (.inr h0)) a n c _ lg.a5 _ w (.inl rfl) hn.2 hs s)
   ·exact hyes _ (1+n) (if_neg λe=>e.elim (λe=>by omega) h0) a c w h hs s
  rw[cQ f1,cond_false];rw[if_neg f1]at hno hyes;by_cases f2:f=2
  ·rw[eC f2,cond_true];rw[if_pos f2]at hno hyes;refine amm hL hB (by omega) hr hn.2 s (λh e p' w he s=>AR (hno h none 0 0 [] e p' w he (Nat.zero_le _) BK s)) λcs used h a m c w hu s=>?_;have hA:=aO s (i:=0) rfl dJ (by decide);have hm:=(Sw n r [] 1 cs used (λx hx=>hr1.2 x hx) (by simp) (by simp) h).1;have:m=n:=by rw[<-hA.len,hm]
   subst this;exact hyes cs used h a c w hu hA (ai s)
  ·rw[cQ f2,cond_false];rw[if_neg f2]at hno;exact Xg hL s λw' s=>hno rfl none 0 0 [] lg.a5 _ w' (.inl rfl) (Nat.zero_le _) BK s
end
section
variable {W w w0:World}{L:List As}{lg:xD}{ba:Option Addr}{bn bc rb:Nat}{bs:List Int}{n:Nat}{tw th:Int}
def aar {p:Nat}{v0 v1 v2:Value}{a b:Int}{c:Option Addr}{d e:Nat}{F:Nat->Prop}{t:TypeId}{K:Int->Int->Option Addr->Nat->Nat->World->Prop}(s:Sep F W w (av p t [v0,v1,v2]::L))(h:∀w',Sep F W w' L->K a b c d e w'):
  St ((aZ p).add 0) (ae a) w λw=>St ((aZ p).add 1) (ae b) w λw=>St ((aZ p).add 2) (.slice c d e) w λw=>af .i64 ((aZ p).add 0) w λa=>af .i64 ((aZ p).add 1) w λb=>aA ((aZ p).add 2) w λc d e=>K a b c d e w:=by
 refine sT s 0 rfl λw s=>?_;refine sT s 0 rfl λw s=>?_;refine ax s (i:=0) rfl rfl rfl λw s=>?_;exact lI s 0 rfl (lI s 0 rfl (lS s 0 rfl (h w (ai s))))
def awf {a b:Addr}(hb:∃c t,w.heap[b.block]? =some (.cells c t (0,0)))(ha:∃c t,w.heap[a.block]? =some (.cells c t (0,0))):∃c:Bool,(c=true↔a=b)/\∀(x y:Operand) (K:Bool->World->Prop),K c w->bT P .eql 74 x y (sX a) (sX b) w K:=by
 by_cases h:a=b
 ·subst h;exact⟨true,by simp,λx y K hk=>Wt hk⟩
 ·obtain⟨c1,t1,h1⟩:=ha;obtain⟨c2,t2,h2⟩:=hb;exact⟨false,by simp[h],λx y K hk=>ab9 h h1 h2 hk⟩
def amo {Q:Int->Int->Option Addr->Nat->Nat->Value->World->Prop}{p':Int}{t6:Nat}{e:Addr}{t:Addr}{v0 v1 v2:Value}(hL:jq w0 lg)(he:e=lg.a5\/e=lg.a6)(s:Sep No w0 w (Cz rb ba bn bc p'::av t6 84 [v0,v1,v2]::L))
  (h:∀fb co w',Sep No w0 w' (av fb 271 [ae p',ae co,sX e]::Cz rb ba bn bc p'::L)->(co=2\/co=3)->Q 0 0 none 0 0 (.iface 268 (.pointer (sZ fb))) w'):
  mP Q (sZ rb) (aZ t6) (sX e) t w:=by
 refine tF (ah (lI s 0 rfl (AR ?_)));refine aN s λfb w s=>?_;have k:=hL.fr (au s);apply mG k.v6 rfl;obtain⟨c,hc,hq⟩:=awf (a:=e) k.b6 (by rcases he with rfl|rfl;exact k.b5;exact k.b6);apply aq3 hq;cases c with
 |true=>
  refine ax s (i:=0) rfl rfl rfl λw s=>?_;exact aar (pk 3 [2,0,1] s) λw s=>h fb 2 w s (.inl rfl)
 |false=>
  exact aar (pk 3 [2,0,1] s) λw s=>h fb 3 w s (.inr rfl)
def amq {Q:Int->Int->Option Addr->Nat->Nat->Value->World->Prop}(hL:jq w0 lg)(hB:Sl w0 ba bn bc 1 bu bs)(FM:bn<=1000000000)(hr:ee bs)(hw:1<=tw/\tw<=16)(hh:1<=th/\th<=16)(hn:(n:Int)=tw*th)(s:Sep No w0 w (Cz rb ba bn bc 0::L))
  (hno:E3 bs n=none->∀fb p' co e w',(co=2\/co=3)->Sep No w0 w' (av fb 271 [ae p',ae co,sX e]::Cz rb ba bn bc p'::L)->Q 0 0 none 0 0 (.iface 268 (.pointer (sZ fb))) w')
  (hyes:∀cs used,E3 bs n=some (cs,used)->∀ta tn tc w',used<=bn->Sep No w0 w' (ak ta tn tc 5 1 (flat bu cs)::Cz rb ba bn bc (used:Nat)::L)->Q tw th ta tn tc .nilIface w'):xR (sZ rb) tw th w Q:=by
 apply Oe;have q1:=Int.mul_le_mul hw.1 hh.1 (by decide) (by omega);have q2:=Int.mul_le_mul hw.2 hh.2 (by omega) (by decide);rw[aG,<-hn];refine aS s λt6 w s=>?_;have fail:∀{e:Addr} {t:Addr} {p':Int} {w:World},(e=lg.a5\/e=lg.a6)->E3 bs n=none->Sep No w0 w (Cz rb ba bn bc p'::av t6 84 [ae 0,ae 0,.slice none 0 0]::L)->mP Q (sZ rb) (aZ t6) (sX e) t w:=λhe hg s=>
  amo hL he s λfb co w' s' UN=>hno hg fb _ co _ w' UN s'
 refine amn hL hB FM hr (by omega) (iZ s) (λhb a m c ns e p' w he hm hA s=>?_) λcs used hb a c w hu hA s=>?_
 ·refine Gw s hA (by omega) λra rc w s _=>?_;refine aS s λtb w s=>?_;refine sT s 0 rfl λw s=>?_;refine sT s 0 rfl λw s=>?_;refine sT s 0 rfl λw s=>?_;apply tF;refine fail he ?_ (ai (ai s));rw[E3,hb]
 ·obtain⟨k1,k2,k3⟩:=ato (by omega) (λx hx=>hr x hx) hb;refine Gw s hA (by omega) λra rc w s _=>?_;refine aS s λtb w s=>?_;refine sT s 0 rfl λw s=>?_;refine sT s 0 rfl λw s=>?_;refine ax s (i:=0) rfl rfl rfl λw s=>?_;apply aem;refine lI s 0 rfl (lI s 0 rfl (lS s 0 rfl ?_));have hC:=aO s (i:=1) rfl dJ (by decide);refine apa s hC (Tl.ZD.2 ⟨hw,hh,by omega,λh0=>by grind⟩) (by omega) λg o pn pc w s _=>?_;have s:=ay s;refine ah (lS s 3 rfl (ah (lI s 3 rfl ?_)));refine(hB.fr (au s)).hi rfl hu λb' c' hS=>?_;have hP:=aO s (i:=0) rfl dJ (by decide);apply avm hP hS (aho (λx hx=>by grind) (by omega)) (hr.take used);by_cases e:(tM cs).2=bs.take used
  ·rw[decide_eq_true e,Bool.not_true,cond_false];apply aem;refine lI s 1 rfl (lI s 1 rfl (lS s 1 rfl ?_));refine aar (pk 5 [4,2,3] s) λw s=>?_;refine hyes cs used ?_ ra n rc w hu s;unfold E3;grind
  ·rw[decide_eq_false e];have c5:=Fr.cell (au s) hL.v5 id;refine mG c5 rfl (fail (.inl rfl) ?_ (pk 5 [3,4] s));unfold E3;grind
def aen {F:Nat->Prop}{Q:Int->Int->Option Addr->Nat->Nat->Int->Int->World->Prop}(hL:jq w lg)(hB:Sl w ba bn bc 1 bu bs)(FM:bn<=1000000000)(hr:ee bs)(hw:1<=tw/\tw<=16)(hh:1<=th/\th<=16)(hn:(n:Int)=tw*th)(s0:Sep F W w L)
  (hno:E3 bs n=none->∀co w',(co=2\/co=3)->Sep F W w' L->Fr No w w'->Q 0 0 none 0 0 0 co w')
  (hyes:∀cs used,E3 bs n=some (cs,used)->∀ta tn tc w',used<=bn->Sep F W w' (ak ta tn tc 5 1 (flat bu cs)::L)->Fr No w w'->Q tw th ta tn tc (used:Nat) 0 w'):HG ba bn bc tw th w Q:=by
 apply adg;refine aS (bh (F:=No)) λtb w1 s=>?_;rw[bp,bp,bp,bp];refine aN s λrb w1 s=>?_;have c1:∀{w':World} {L':List As},Sep No w w' L'->w'.cell? (aZ 1)=some (.iface 219 (rt 74)):=λs=>(hL.fr (au s)).v1;refine amq hL hB FM hr hw hh hn s (λhg fb p' co e w1 UN s=>?_) λcs used hg ta tn tc w1 hu s=>?_
 ·refine sT s 2 rfl λw1 s=>?_;refine sT s 2 rfl λw1 s=>?_;refine ax s (i:=2) rfl rfl rfl λw1 s=>?_;refine aS s λf w1 s=>?_;have s:=s;refine ax s (i:=0) rfl rfl rfl λw1 s=>?_;refine Pk.L_ s (λw' s'=>c1 s') λw1 s=>?_;have s:=ay s;refine lP s 0 rfl (ah (lI s 1 rfl ?_));refine sT s 3 rfl λw1 s=>?_;refine sT s 3 rfl λw1 s=>?_;refine ax s (i:=3) rfl rfl rfl λw1 s=>?_;refine⟨cj s 1 rfl,cj s 0 rfl,cj s 1 rfl,cj s 0 rfl,?_⟩;refine lI s 3 rfl (lI s 3 rfl (lS s 3 rfl ?_));have s':=b_ (L':=[]) [] s rfl (by decide);exact hno hg co w1 UN (fy s0 s') (au s')
 ·refine sT s 2 rfl λw1 s=>?_;refine sT s 2 rfl λw1 s=>?_;refine ax s (i:=2) rfl rfl rfl λw1 s=>?_;refine aS s λf w1 s=>?_;have s:=s;refine ax s (i:=0) rfl rfl rfl λw1 s=>?_;apply As.nil;have s:=ay s;refine lI s 3 rfl (lI s 3 rfl (lS s 3 rfl ?_));apply lI s 2 rfl;refine sT s 3 rfl λw1 s=>?_;refine sT s 3 rfl λw1 s=>?_;refine ax s (i:=3) rfl rfl rfl λw1 s=>?_;refine⟨cj s 2 rfl,?_⟩;refine lI s 3 rfl (lI s 3 rfl (lS s 3 rfl ?_));have s':=b_ (L':=[ak ta tn tc 5 1 (flat bu cs)]) [1] s rfl (by decide);exact hyes cs used hg ta tn tc w1 hu (fy s0 s') (au s')
end
section
variable {w h sc:Int}{M ts:List Int}{y tw p:Nat}
def ai0 (hs:dX w h sc)(hM:(M.length:Int)=w*h){c:Nat}(hc:c<M.length):bK w h c:=⟨hs.1,by omega,by omega⟩
def apd (hs:dX w h sc)(hM:(M.length:Int)=w*h):E4 w h sc M ts 0=M:=by refine UQ LK λc hc=>?_;rw[LK]at hc;rw[W0 hc,if_neg];rintro ⟨e,h0⟩;have hC:=ai0 hs hM hc;have hl:=(jY hC).1;have:=Int.ediv_nonneg hl (b:=aD w h sc) (by have:=(zu hs).1;omega);omega
def ai1 (hs:dX w h sc)(QC:(tw:Int)=aD w h sc)(hy:(y:Int)<bz w h sc)(hp:(p:Int)=bU w h sc (y*aD w h sc)){c:Nat}(hC:bK w h c):
  (aC w h c=sc/\dY w h c/aD w h sc=y)↔(p<=c/\c<p+tw):=by
 have hz:=zu hs;constructor
 ·rintro ⟨e,e2⟩;have hg:=nT hC;have hl:=jY hC;have M5:=Int.emod_nonneg (dY w h c) (b:=aD w h sc) (by omega);have KW:=Int.emod_lt_of_pos (dY w h c) (b:=aD w h sc) (by omega);have hd:=Int.mul_ediv_add_emod (dY w h c) (aD w h sc);obtain⟨x,hx⟩:∃x:Nat,dY w h c%aD w h sc=x:=⟨(dY w h c%aD w h sc).toNat,by omega⟩;rw[hx]at hd M5 KW;have:=HV hs (y:=y) KW;grind
 ·rintro ⟨h1,h2⟩;have hx:((c-p:Nat):Int)<aD w h sc:=by omega
  have:=HV hs (y:=y) hx;have ec:bU w h sc (y*aD w h sc+(c-p:Nat))=c:=by omega
  have hl:0<=(y:Int)*aD w h sc+(c-p:Nat)/\(y:Int)*aD w h sc+(c-p:Nat)<aD w h sc*bz w h sc:=by have a:0<=(y:Int)*aD w h sc:=Int.mul_nonneg (by omega) (by omega);have b:((y:Int)+1)*aD w h sc<=bz w h sc*aD w h sc:=Int.mul_le_mul_of_nonneg_right (by omega) (by omega);grind
  have e1:=iU hs hl;have e2:=F3 hs hl;rw[ec]at e1 e2;refine⟨e1,?_⟩;rw[e2];exact(rH ⟨by omega,hx⟩).1
def aq4 (hs:dX w h sc)(hM:(M.length:Int)=w*h)(hts:(ts.length:Int)=aD w h sc*bz w h sc)(QC:(tw:Int)=aD w h sc)(hy:(y:Int)<bz w h sc)(hp:(p:Int)=bU w h sc (y*aD w h sc))(hpn:p+tw<=M.length):
  (E4 w h sc M ts y).take p++(ts.drop (y*tw)).take tw++(E4 w h sc M ts y).drop (p+tw)=E4 w h sc M ts ((y+1:Nat):Int):=by
 have hyt:y*tw+tw<=ts.length:=by have b:((y:Int)+1)*aD w h sc<=bz w h sc*aD w h sc:=Int.mul_le_mul_of_nonneg_right (by omega) (by omega);grind
 have hl:((E4 w h sc M ts y).take p++(ts.drop (y*tw)).take tw++(E4 w h sc M ts y).drop (p+tw)).length=M.length:=by simp[List.length_append,List.length_take,List.length_drop,LK];omega
 refine UQ (by rw[hl,LK]) λc hc=>?_;rw[hl]at hc;have hC:=ai0 hs hM hc;have ayx:=ai1 hs QC hy hp hC;rw[W0 hc];by_cases hin:p<=c/\c<p+tw
 ·obtain⟨e1,e2⟩:=ayx.2 hin;have hlr:=jY hC;have hd:=Int.mul_ediv_add_emod (dY w h c) (aD w h sc);rw[e2]at hd;have hg:=nT hC;rw[e1]at hg;have M5:=Int.emod_nonneg (dY w h c) (b:=aD w h sc) (by omega);have KW:=Int.emod_lt_of_pos (dY w h c) (b:=aD w h sc) (by omega);obtain⟨x,hx⟩:∃x:Nat,dY w h c%aD w h sc=x:=⟨(dY w h c%aD w h sc).toNat,by omega⟩;rw[hx]at hd KW;have hgr:=HV hs (y:=y) KW;rw[Int.mul_comm,hd,hg,Int.mul_comm (aD w h sc)]at hgr;unfold gi;grind
 ·have e:(aC w h c=sc/\dY w h c/aD w h sc<((y+1:Nat):Int))↔(aC w h c=sc/\dY w h c/aD w h sc<(y:Int)):=by omega
  simp only[e];rw[<-W0 hc];unfold gi;grind
end
section
variable {F:Nat->Prop}{W w w0:World}{L:List As}{mw mh sc:Int}{M ts:List Int}{ta:Option Addr}{tn tc g o mn mc:Nat}
def ape {Q:World->Prop}(hs:dX mw mh sc)(hM:(M.length:Int)=mw*mh)(hts:(ts.length:Int)=aD mw mh sc*bz mw mh sc)(hT:∀w',Sep F W w' L->Sl w' ta tn tc 1 bu ts)(s:Sep F W w (ak (some ⟨g,o,none⟩) mn mc 5 1 (flat bu M)::L))
  (h:∀w',Sep F W w' (ak (some ⟨g,o,none⟩) mn mc 5 1 (flat bu (ah3 mw mh sc M ts))::L)->Q w'):Gd mw mh (some ⟨g,o,none⟩) mn mc sc (aD mw mh sc) (bz mw mh sc) ta tn tc w Q:=by
 apply aa3;have hz:=zu hs;have hmn:=(aO s (i:=0) rfl dJ (by decide)).len;refine aN s λmb w s=>?_;refine aN s λtb w s=>?_;refine lI s 1 rfl (lI s 1 rfl ?_);refine xq s λw s _=>?_;apply lI s 0 rfl;have hz1:0<aD mw mh sc*bz mw mh sc:=Int.mul_pos (by omega) (by omega);have eg:CF mw mh sc 0=bU mw mh sc 0:=if_pos ⟨hs,by omega,hz1⟩;rw[eg];obtain⟨tw,QC⟩:∃tw:Nat,(tw:Int)=aD mw mh sc:=⟨(aD mw mh sc).toNat,by omega⟩;obtain⟨th,hth⟩:∃th:Nat,(th:Int)=bz mw mh sc:=⟨(bz mw mh sc).toNat,by omega⟩;have loop:∀(j y:Nat) (w:World),y+j=th->Sep F W w (av tb 84 [ae (aD mw mh sc),ae (bz mw mh sc),.slice ta tn tc]::av mb 25 [ae mw,ae mh,.slice (some ⟨g,o,none⟩) mn mc]::ak (some ⟨g,o,none⟩) mn mc 5 1 (flat bu (E4 mw mh sc M ts y))::L)->
   Et Q (j+1) (aZ mb) (aZ tb) (bU mw mh sc 0) (bz mw mh sc) y w:=by
  intro j;induction j with
  |zero=>
   intro y w hj s;show AG _ _ _ _ _ _ _ _;rw[AG,bp];have:(y:Int)=bz mw mh sc:=by omega
   rw[this]at s;exact h w (ai (ai s))
  |succ j ih=>
   intro y w hj s;show AG _ _ _ _ _ _ _ _;rw[AG,bN];have s:=ay s;have b1:((y:Int)+1)*aD mw mh sc<=bz mw mh sc*aD mw mh sc:=Int.mul_le_mul_of_nonneg_right (by omega) (by omega);rw[Int.add_mul,Int.one_mul,Int.mul_comm (bz mw mh sc)]at b1;have b2:0<=(y:Int)*aD mw mh sc:=Int.mul_nonneg (by omega) (by omega);have b3:=Int.mul_le_mul hz.1.2 hz.2.1.2 (by omega) (by decide);have hC:=sO hs ⟨b2,by omega⟩;have hC2:=sO hs (l:=y*aD mw mh sc+((tw-1:Nat):Int)) ⟨by omega,by omega⟩;have hrow:=HV hs (y:=y) (x:=tw-1) (by omega);obtain⟨p,hp⟩:∃p:Nat,(p:Int)=bU mw mh sc (y*aD mw mh sc):=⟨(bU mw mh sc (y*aD mw mh sc)).toNat,by have:=hC.2;omega⟩;have hpn:p+tw<=M.length:=by have:=hC2.2;omega
   have e0:bU mw mh sc 0+(y:Int)*mw=p:=by rw[hp];unfold bU;obtain⟨e3,e4⟩:=rH (w:=aD mw mh sc) (x:=0) (by omega);rw[Int.add_zero]at e3 e4;rw[e3,e4];simp[Int.zero_ediv,Int.zero_emod,Int.add_zero,Int.add_mul];omega
   have hyw:0<=(y:Int)*mw/\(y:Int)*mw<=16*1024:=⟨Int.mul_nonneg (by omega) (by have:=hs.1.1;omega),Int.mul_le_mul (by omega) hs.1.1.2 (by have:=hs.1.1;omega) (by decide)⟩;have hg0:=UX (sO hs ⟨by omega,hz1⟩);refine lS s 1 rfl (lI s 1 rfl ?_);rw[aG (n:=(y:Int)*mw),aG,e0];have hcap:=Rn s (i:=2) rfl;apply O4 rfl (by omega);rw[fS];refine lS s 0 rfl (lI s 0 rfl (lI s 0 rfl ?_));rw[NS (by omega),aG,wrap_i64 (by push_cast;rw[Int.add_mul];omega) (by push_cast;rw[Int.add_mul];omega)];have hTs:=hT _ (ai (ai (ai s)));have QB:=hTs.len;have ey:((y*tw:Nat):Int)=(y:Int)*aD mw mh sc:=by push_cast;rw[QC]
   refine hTs.mid (q:=y*tw+tw) ey.symm (by push_cast;rw[Int.add_mul,QC];omega) (by omega) (by omega) λa n' c' en hS=>?_;have en:n'=tw:=by omega
   subst en;rw[show y*n'+n'-y*n'=n' by omega]at hS;refine EH (p:=p) ef s rfl rfl rfl rfl (by decide) (i:=2) rfl (hS.src (e:=5) dJ AT) (by omega) (by simp[Addr.add]<;>omega) λw s=>?_;rw[show min n' (mn-p)=n' by omega]at s;have est:(flat bu (E4 mw mh sc M ts y)).take (p*1)++(flat bu ((ts.drop (y*n')).take n')).take (n'*1)++(flat bu (E4 mw mh sc M ts y)).drop ((p+n')*1)=flat bu (E4 mw mh sc M ts ((y+1:Nat):Int)):=by rw[<-aq4 hs hM hts QC (by omega) hp hpn];simp[YR,Nat.mul_one,List.map_append,List.map_take,List.map_drop];rw[List.take_take,Nat.min_self]
   rw[est]at s;exact ih (y+1) w (by omega) s
 have s:=s;rw[<-apd hs hM]at s;exact⟨th+1,loop th 0 _ (by omega) s⟩
end
structure Eg (bs:List Int):Prop where
 len:4<=bs.length
 wh:gz (Bm bs) (Bn bs)
 tail:∀bs' M,qZ (Bm bs) (Bn bs) (dy (Bm bs) (Bn bs)).toNat 0 (bs.drop 4) (List.replicate (Bm bs*Bn bs).toNat 0)=some (bs',M)->bs'=[]
def Eg.get {bs:List Int}(h:Eg bs):kZ bs=(qZ (Bm bs) (Bn bs) (dy (Bm bs) (Bn bs)).toNat 0 (bs.drop 4) (List.replicate (Bm bs*Bn bs).toNat 0)).map λq=>⟨Bm bs,Bn bs,q.2⟩:=by
 rw[kZ,if_neg (by have:=h.len;omega),if_pos h.wh];split
 ·rename_i bs' M hT;rw[hT,h.tail _ _ hT,if_pos rfl];rfl
 grind
def ayy:zc T 25=[ae 0,ae 0,.slice none 0 0]:=rfl
def aas {w:World}{mw mh:Int}{Q:Int->World->Prop}(hm:gz mw mh)(h:Q (dy mw mh) w):EP mw mh w Q:=by apply Y8;apply qK;have:=e_ hm.1 hm.2;unfold ZC adB;rw[if_pos hm,if_pos hm];unfold dy at h this;rw[aG];exact h
def _root_.Go.Sx.Sl.Elf {α:Type}{w0:World}{a:Option Addr}{n c size k:Nat}{f:α->List Value}{xs:List α}{idx:Int}{K:Addr->Prop}(h:Sl w0 a n c size f xs)(hk:idx=k)(hn:k<n)
  (hK:∀p x,xs[k]? =some x->(∀w,Fr No w0 w->∀j v,(f x)[j]? =some v->w.cell? ((p.add (idx.toNat*size)).add j)=some v)->K p):aK idx n (wA a K):=
 h.El hk hn λp x hx hc=>hK p x hx λw fr j v hv=>Fr.cell fr (hc j v hv) id
section
variable {W w w0:World}{L:List As}{lg:xD}{ba:Option Addr}{bn bc:Nat}{bs:List Int}
def apf {Q:Int->Int->Option Addr->Nat->Nat->Value->World->Prop}{mw mh:Int}{mb p2 g o mn mc N:Nat}(hL:jq w0 lg)(hm:gz mw mh)(hN:(N:Int)=dy mw mh){R:Option (List Int×List Int)}(awg:∀bs' M,R=some (bs',M)->bs'=[])
  (hno:R=none->∀tb i co w',Sep No w0 w' (av tb 242 [ae i,.iface 187 (ae co)]::[])->(co=2\/co=3)->Q 0 0 none 0 0 (.iface 240 (.pointer (sZ tb))) w')
  (hyes:∀M,R=some ([],M)->∀w',Sep No w0 w' (ak (some ⟨g,o,none⟩) mn mc 5 1 (flat bu M)::[])->Q mw mh (some ⟨g,o,none⟩) mn mc .nilIface w'):
  ∀(j i:Nat) (a:Option Addr) (n c:Nat) (bs M:List Int) (w:World),i+j=N->Sl w0 a n c 1 bu bs->n<=1000000000->ee bs->(M.length:Int)=mw*mh->qZ mw mh j i bs M=R->Sep No w0 w (av mb 25 [ae mw,ae mh,.slice (some ⟨g,o,none⟩) mn mc]::av p2 25 [ae 0,ae 0,.slice none 0 0]::ak (some ⟨g,o,none⟩) mn mc 5 1 (flat bu M)::[])->
   CP Q (j+1) a n c (aZ p2) (aZ mb) (dy mw mh) i w:=by
 have vr:=e_ hm.1 hm.2;intro j;induction j with
 |zero=>
  intro i a n c bs M w hj hB hn hr hM hR s;show y_ _ _ _ _ _ _ _ _ _ _;rw[y_,bp];have hR:some (bs,M)=R:=hR;have hb:=awg bs M hR.symm;have hbl:=hB.len;rw[bp (by grind)];refine lI s 0 rfl (lI s 0 rfl (lS s 0 rfl ?_));refine aar (b_ (L':=[_,_]) [1,2] s rfl (by decide)) λw s=>?_;grind
 |succ j ih=>
  intro i a n c bs M w hj hB hn hr hM hR s;show y_ _ _ _ _ _ _ _ _ _ _;rw[y_,bN];have hs:dX mw mh i:=⟨hm,by omega,by omega⟩;have hz:=zu hs;refine lI s 0 rfl (lI s 0 rfl ?_);refine vl s λw s _=>?_;have e1:YS mw mh i=aD mw mh i:=if_pos hs;have e2:acU mw mh i=bz mw mh i:=if_pos hs;rw[e1,e2];have q1:=Int.mul_le_mul hz.1.1 hz.2.1.1 (by decide) (by omega);rw[qZ]at hR;have fr:=au s;refine aen (n:=(aD mw mh i*bz mw mh i).toNat) (hL.fr fr) (hB.fr fr) hn hr hz.1 hz.2.1 (by omega) s (λhg co w UN s _=>?_) λts used hg ta tn tc w hu s _=>?_
  ·rw[hg]at hR;refine aS s λtb w s=>?_;refine sT s 0 rfl λw s=>?_;refine sT s 0 rfl λw s=>?_;refine sT s 0 rfl λw s=>?_;rw[Gq (by omega),cond_true];refine aN s λeb w s=>?_;refine aar (b_ (L':=[_,_]) [3,0] s rfl (by decide)) λw s=>?_;exact hno hR.symm eb i co w s UN
  ·rw[hg]at hR;obtain⟨t1,t2,t3⟩:=anJ (by omega) (λx hx=>hr x hx) hg;refine aS s λtb w s=>?_;refine sT s 0 rfl λw s=>?_;refine sT s 0 rfl λw s=>?_;refine ax s (i:=0) rfl rfl rfl λw s=>?_;refine lI s 2 rfl (lI s 2 rfl (lS s 2 rfl ?_));refine lI s 0 rfl (lI s 0 rfl (lS s 0 rfl ?_));refine ape hs hM (by omega) (λw' s'=>aO s' (i:=0) rfl dJ (by decide)) (b_ (L':=[ak (some ⟨g,o,none⟩) mn mc 5 1 (flat bu M),ak ta tn tc 5 1 (flat bu ts),_,_]) [4,1,2,3] s rfl (by decide)) λw s=>?_;refine hB.lo rfl hu λa' n' c' en hB'=>?_;rw[NS (by omega)];refine ih (i+1) a' n' c' _ _ w (by omega) hB' (by omega) (hr.drop used) (by rw[Sy];exact hM) ?_ (b_ (L':=[_,_,_]) [2,3,0] s rfl (by decide));exact hR
def amr {Q:Int->Int->Option Addr->Nat->Nat->Value->World->Prop}(hL:jq w0 lg)(hB:Sl w0 ba bn bc 1 bu bs)(FM:bn<=1000000000)(hr:ee bs)(hh:Eg bs)
  (hno:kZ bs=none->∀tb i co w',Sep No w0 w' (av tb 242 [ae i,.iface 187 (ae co)]::[])->(co=2\/co=3)->Q 0 0 none 0 0 (.iface 240 (.pointer (sZ tb))) w')
  (hyes:∀m,kZ bs=some m->∀ma mn mc w',Sep No w0 w' (ak ma mn mc 5 1 (flat bu m.cs)::[])->Q m.w m.h ma mn mc .nilIface w'):EM ba bn bc w0 Q:=by
 apply Ze;have hbl:=hB.len;have h4:=hh.len;refine aS (bh (F:=No)) λp2 w s=>?_;rw[bp];have s:=ay s;refine hB.Elf (k:=0) rfl (by omega) λd0 x0 hx0 c0=>aR (c0 _ (au s) 0 _ rfl) ?_;refine hB.Elf (k:=1) rfl (by omega) λd1 x1 M5 c1=>aR (c1 _ (au s) 0 _ rfl) ?_;refine⟨by decide,?_⟩;refine hB.Elf (k:=2) rfl (by omega) λd2 x2 KW c2=>aR (c2 _ (au s) 0 _ rfl) ?_;refine hB.Elf (k:=3) rfl (by omega) λd3 x3 hx3 c3=>aR (c3 _ (au s) 0 _ rfl) ?_;refine⟨by decide,?_⟩;have r0:=hr x0 (List.mem_of_getElem? hx0);have r1:=hr x1 (List.mem_of_getElem? M5);have r2:=hr x2 (List.mem_of_getElem? KW);have r3:=hr x3 (List.mem_of_getElem? hx3);have eW:Bm bs=x0+x1*256:=by rw[Bm,<-ach hx0,<-ach M5];omega
 have eH:Bn bs=x2+x3*256:=by rw[Bn,<-ach KW,<-ach hx3];omega
 have i1:ior .i64 (IntKind.wrap .i64 x0) (BD .i64 (IntKind.wrap .i64 x1) 8)=Bm bs:=by rw[aG,aG,eW];exact O.adC (k:=8) (by decide) (by omega) r1
 have i2:ior .i64 (IntKind.wrap .i64 x2) (BD .i64 (IntKind.wrap .i64 x3) 8)=Bn bs:=by rw[aG,aG,eH];exact O.adC (k:=8) (by decide) (by omega) r3
 rw[i1,i2];refine aS s λmb w s=>?_;have fr:=au s;refine⟨c3 _ fr 0 _ rfl,c2 _ fr 0 _ rfl,c1 _ fr 0 _ rfl,c0 _ fr 0 _ rfl,?_⟩;have LL:=mV hh.wh;have vr:=e_ hh.wh.1 hh.wh.2;refine sT s 0 rfl λw s=>?_;refine sT s 0 rfl λw s=>?_;refine ax s (i:=0) rfl rfl rfl λw s=>?_;refine lI s 0 rfl (lI s 0 rfl ?_);apply pO;rw[decide_eq_true hh.wh,Bool.not_true,cond_false];refine hB.lo (m:=4) rfl (by omega) λa4 n4 c4 e4 hB4=>?_;refine lI s 0 rfl (lI s 0 rfl ?_);rw[aG];obtain⟨N,hN⟩:∃N:Nat,Bm bs*Bn bs=N:=⟨(Bm bs*Bn bs).toNat,by omega⟩;rw[hN];refine xH (bytes:=1) ef s rfl rfl rfl rfl rfl rfl (by decide) dJ rfl (λu hu=>AT 0 u hu) rfl rfl (Nat.le_refl _) (by omega) (by simp[maxLen];omega) λg w s=>?_;refine ax s (i:=1) rfl rfl rfl λw s=>?_;refine lI s 1 rfl (lI s 1 rfl ?_);apply aas hh.wh;have hg:=hh.get;have e0:(Bm bs*Bn bs).toNat=N:=by omega
 rw[e0]at hg;have ht:=hh.tail;rw[e0]at ht;refine⟨(dy (Bm bs) (Bn bs)).toNat+1,apf (N:=(dy (Bm bs) (Bn bs)).toNat) hL hh.wh (by omega) ht (λhR=>hno (by rw[hg,hR];rfl)) (λM hR w' s'=>hyes ⟨Bm bs,Bn bs,M⟩ (by rw[hg,hR];rfl) _ _ _ w' s') _ 0 a4 n4 c4 (bs.drop 4) (List.replicate N 0) w (by omega) hB4 (by omega) (hr.drop 4) (by rw[List.length_replicate,hN]) rfl (b_ (L':=[_,_,_]) [1,2,0] s rfl (by decide))⟩
def acz {F:Nat->Prop}{Q:Int->Int->Option Addr->Nat->Nat->Int->World->Prop}(hL:jq w lg)(hB:Sl w ba bn bc 1 bu bs)(FM:bn<=1000000000)(hr:ee bs)(hh:Eg bs)(s0:Sep F W w L)
  (hno:kZ bs=none->∀co w',(co=2\/co=3)->Sep F W w' L->Fr No w w'->Q 0 0 none 0 0 co w')
  (hyes:∀m,kZ bs=some m->∀ma mn mc w',Sep F W w' (ak ma mn mc 5 1 (flat bu m.cs)::L)->Fr No w w'->Q m.w m.h ma mn mc 0 w'):F8 ba bn bc w Q:=by
 apply aa4;refine aS (bh (F:=No)) λp2 w1 s=>?_;have fr0:=au s;refine amr (hL.fr fr0) (hB.fr fr0) FM hr hh (λhg tb i co w1 s' UN=>?_) λm hg ma mn mc w1 s'=>?_
 ·have s:=fy s s';refine aS s λmb w1 s=>?_;refine sT s 0 rfl λw1 s=>?_;refine sT s 0 rfl λw1 s=>?_;refine sT s 0 rfl λw1 s=>?_;refine aS s λr w1 s=>?_;have s:=s;refine ax s (i:=0) rfl rfl rfl λw1 s=>?_;have s:=b_ (L':=[av r 187 [ae 0],av tb 242 [ae i,.iface 187 (ae co)],av p2 25 [ae 0,ae 0,.slice none 0 0]]) [0,2,3] s rfl (by decide);refine At.L_ s (λw' s'=>lj s' (i:=0) rfl 1 _ rfl) (λw' s'=>(hL.fr (au s')).v1) λw1 s=>?_;have s:=ay s;apply lI s 0 rfl;refine sT s 2 rfl λw1 s=>?_;refine sT s 2 rfl λw1 s=>?_;refine ax s (i:=2) rfl rfl rfl λw1 s=>?_;refine⟨cj s 0 rfl,?_⟩;refine lI s 2 rfl (lI s 2 rfl (lS s 2 rfl ?_));have s':=b_ (L':=[]) [] s rfl (by decide);exact hno hg co w1 UN (fy s0 s') (au s')
 ·have s:=fy s s';refine aS s λmb w1 s=>?_;refine sT s 0 rfl λw1 s=>?_;refine sT s 0 rfl λw1 s=>?_;refine ax s (i:=0) rfl rfl rfl λw1 s=>?_;refine aS s λr w1 s=>?_;have s:=s;refine ax s (i:=0) rfl rfl rfl λw1 s=>?_;apply As.nil;refine lI s 1 rfl (lI s 1 rfl (lS s 1 rfl ?_));refine aar (b_ (L':=[av p2 25 [ae 0,ae 0,.slice none 0 0],ak ma mn mc 5 1 (flat bu m.cs)]) [3,2] s rfl (by decide)) λw1 s=>?_;exact hyes m hg ma mn mc w1 (fy s0 s) (au s)
end
end Go.Proofs.YtmegplnmiepfbaaGreatDoor.S
namespace Go.Proofs.YtmegplnmiepfbaaGreatDoor.S
open Go.Sx
def rU (q:nk):Dr:=match q.o with
 |some m=>⟨m.fH,m.fc,0,0,0,0⟩
 |none=>⟨0,0,0,0,0,0⟩
def mU (q:nk):Dr:=(q.past.add (rU q)).add ⟨0,0,q.sh.b,q.sh.h,q.sh.st,q.sh.ev⟩
def zO (q:nk):Int:=match q.o with
 |some m=>m.g.ep
 |none=>0
def avn (q:nk):QZ:=⟨[],[],q.sh.b,q.sh.h,q.sh.st,q.sh.ev⟩
def Tw (q:nk)(mp:bJ):nk:=⟨q.k,avn q,some ⟨OH mp (zO q),List.replicate (dy mp.w mp.h).toNat 0,0,0,none,0⟩,q.past.add (rU q)⟩
def Hr (q:nk):nk:=⟨q.k,avn q,q.o.map λm=>⟨m.g,m.Ct,m.clean,m.fH,none,m.fc⟩,q.past⟩
def NX (q:nk)(c x:Int):nk:=⟨q.k,q.sh,q.o.map λm=>⟨vQ m.g c x,m.Ct,m.clean,m.fH,m.kept,m.fc⟩,q.past⟩
noncomputable def pQ (q:nk)(t sc:Int):nk:=match q.o with
 |some m=>Cv q m t sc
 |none=>q
noncomputable def sG (q:nk)(ps:List ED):nk:=ps.foldl (λq p=>pQ q p.g p.s) q
def gw.apg (y:gw):uF y=rU y.p:=by unfold uF rU gw.p;cases y.o<;>rfl
def gw.all_eq (y:gw):WB y=mU y.p:=by unfold WB mU;rw[y.apg];rfl
def gw.ams (y:gw):epO y.o=zO y.p:=by unfold epO zO gw.p;cases y.o<;>rfl
def gw.awh (y:gw){x':AP}{mp:bJ}(h:x'.p=⟨[],[],y.x.b,y.x.h,y.x.st,y.x.ev⟩):(gw.mk y.k x' (some (al7 y.o mp)) (y.past.add (uF y))).p=Tw y.p mp:=by
 unfold Tw gw.p;simp only[Option.map_some];congr 1
 ·congr 1;unfold j8.p al7 agG NH;rw[y.ams];simp only[List.map_replicate];rfl
 ·rw[y.apg];rfl
def gw.awi (y:gw){x':AP}{m:j8}(ho:y.o=some m)(h:x'.p=⟨[],[],y.x.b,y.x.h,y.x.st,y.x.ev⟩):(gw.mk y.k x' (some ⟨m.g,m.ms,⟨none,m.f.fH⟩⟩) y.past).p=Hr y.p:=by unfold Hr gw.p;rw[ho,h];rfl
def gw.atp (y:gw){x':AP}(ho:y.o=none)(h:x'.p=⟨[],[],y.x.b,y.x.h,y.x.st,y.x.ev⟩):(gw.mk y.k x' none y.past).p=Hr y.p:=by unfold Hr gw.p;rw[ho,h];rfl
def gw.awj (y:gw){m:j8}(ho:y.o=some m){c x:Int}:(gw.mk y.k y.x (some ⟨vQ m.g c x,m.ms,m.f⟩) y.past).p=NX y.p c x:=by unfold NX gw.p;rw[ho];rfl
def Mf {y:gw}{m:j8}(ho:y.o=some m):y.p.o=some m.p:=by rw[gw.p,ho];rfl
def KC {y:gw}{mp:uG}(h:y.p.o=some mp):∃m,y.o=some m/\m.p=mp:=by unfold gw.p at h;simp_all
def field_eq {y:gw}{m:j8}(ho:y.o=some m){t sc:Int}:Cv y.p m.p t sc=pQ y.p t sc:=by rw[pQ,Mf ho]
def Eh {q:nk}{mp:uG}(h:q.o=some mp)(t sc:Int):∃oQ,(pQ q t sc).o=some oQ/\oQ.g=mp.g:=by rw[pQ,h];exact⟨_,rfl,rfl⟩
def C_:∀(ps:List ED) {q:nk} {mp:uG},q.o=some mp->∃oQ,(sG q ps).o=some oQ/\oQ.g=mp.g
 |[],q,mp,h=>⟨mp,h,rfl⟩
 |p::ps,q,mp,h=>by obtain⟨m1,h1,e1⟩:=Eh h p.g p.s;obtain⟨m2,h2,e2⟩:=C_ ps h1;exact⟨m2,h2,e2.trans e1⟩
structure gO where
 most:Int
 bF:nk
 us:Option tE
structure aat where
 code:Int
 d:Int
 dir:Int
 id:Int
 GY:List (Int×Int)
 gone:List Int
def pR (c:Int):aat:=⟨c,0,5,-1,[],[]⟩
noncomputable def sH (m:bJ)(us:List aU):List Int:=us.map λu=>sW m u.goal u.cell
noncomputable def Hs (q:gO)(m:bJ)(y:tE)(o:k_):gO×aat:=
 if o.k=2 then
  if¬bK m.w m.h o.A then(q,pR 7)
  else if o.B<1\/255<o.B then(q,pR 8)
  else if o.B=255/\vu y.us o.A≠-1 then(q,pR 10)
  else(⟨q.most,NX q.bF o.A o.B,some y⟩,pR 0)
 else if o.k=3 then
  if¬(bK m.w m.h o.A/\bK m.w m.h o.B)then(q,pR 7)
  else if cT m o.A=255 then(q,pR 9)
  else if vv m.w m.h y o.A o.B≠0 then(q,pR (vv m.w m.h y o.A o.B))
  else(⟨q.most,q.bF,some (OQ y o.A o.B)⟩,⟨0,0,5,y.next,[],[]⟩)
 else if o.k=4 then
  match gN y.us o.A with
  |none=>(q,pR 12)
  |some u=>if¬bK m.w m.h o.B then(q,pR 7)else if u.cell=o.B then(⟨q.most,q.bF,some (kY y o.A)⟩,pR 13)else(⟨q.most,q.bF,some (vS y o.A λu=>⟨u.id,u.cell,o.B⟩)⟩,pR 0)
 else if o.k=5 then
  match gN y.us o.A with
  |none=>(q,pR 12)
  |some _=>(⟨q.most,q.bF,some (kY y o.A)⟩,pR 0)
 else if o.k=6 then
  if bK m.w m.h o.A/\bK m.w m.h o.B then(⟨q.most,pQ q.bF o.A (cS m o.B),some y⟩,⟨0,D m o.A o.B,sW m o.A o.B,-1,[],[]⟩)else(q,pR 7)
 else
  (⟨q.most,sG q.bF (kW m.w m.h y.us),some (NU m.w m.h y (sH m y.us))⟩,⟨0,0,5,-1,(dg m.w m.h [] (y.us.zip (sH m y.us))).2.1,(dg m.w m.h [] (y.us.zip (sH m y.us))).2.2⟩)
noncomputable def gd (q:gO)(o:k_):gO×aat:=
 if o.k=0\/EI o=false then(q,pR 5)
 else if o.k=1 then
  match kZ o.m with
  |none=>(q,pR 6)
  |some mp=>(⟨q.most,Tw q.bF mp,some ⟨q.most,0,[]⟩⟩,pR 0)
 else if o.k=8 then(⟨q.most,Hr q.bF,q.us⟩,pR 0)
 else match q.bF.o,q.us with
  |some m,some y=>Hs q m.g.m y o
  |_,_=>(q,pR 4)
end Go.Proofs.YtmegplnmiepfbaaGreatDoor.S
set_option maxRecDepth 20000
namespace Go.Proofs.YtmegplnmiepfbaaGreatDoor.S
open Go.Sx
attribute [local irreducible] af cA bw bg aA cq bY St Bx Al App cD cy cw bT aL bC aq bR av ak aV mapA
def iiT:P.underlying 207=some (.map 3 3):=by kernel_rfl
def aBH:zc T 211=[ae 0,ae 0,.slice none 0 0]:=rfl
def aq5 (w h:Int)(ms:List (Int×Int))(us:List aU):Prop:=oP ms/\∀u∈us,fA ms u.id=some (dY w h u.cell)
structure ai2 (m:bJ) (us:List aU) (ms:List (Int×Int)):Prop where
 k:oP ms
 v:∀u∈us,∀d,fA ms u.id=some d->d=sW m u.goal u.cell
section
variable {W w w0:World}{L:List As}{r:Ap}{y:gw}{lg:xD}{la:Option Addr}{ln lc sp lb db:Nat}{us:List aU}{v0 v2:Value}{g:gW}{loc:List (Int×Int)}
def ids_eq {us:List aU}(h:(us.map (·.id)).Pairwise (·<·)){u v:aU}(hu:u∈us)(hv:v∈us)(e:u.id=v.id):u=v:=by obtain⟨i,hi⟩:=List.mem_iff_getElem?.1 hu;obtain⟨j,hj⟩:=List.mem_iff_getElem?.1 hv;have h1:=Xe h hi;have h2:=Xe h hj;grind
noncomputable abbrev FN (sp:Nat)(v0:Value)(np:Nat)(v2:Value):As:=av sp 72 [v0,.pointer (sZ np),v2]
def aq6 {uY:Option Addr->Option Addr->Nat->Nat->Option Nat->Option Nat->Option Addr->Nat->Nat->Int->Int->World->Prop}{Q:Option Addr->Nat->Nat->Value->World->Prop}{s0:Option Addr}{fb:Nat}{ia pa ra:Option Addr}{iN ic pn pc rn rc i:Nat}{ids:List Int}{d0:Value}{t sc:Int}
  (hmay:cR g.m)(hm:nS g.m.w g.m.h us)(hL:aq5 g.m.w g.m.h loc us)(hs:dX g.m.w g.m.h sc)(ht:bK g.m.w g.m.h t)(JP:∀x∈ids,∃u∈us,u.id=x/\u.goal=t/\aC g.m.w g.m.h u.cell=sc)(GZ:∀u∈us,iK u.id)(hi:i<=1000000)(hiN:iN<=1000000)
  (hI:∀w',Sep No W w' L->Sl w' ia iN ic 1 one ids)(hR:∀w',Sep No W w' L->Sl w' ra rn rc 1 one (Aq g.m t sc))(hF:∀w',Sep No W w' L->rS w' fb [d0,.slice ra rn rc])
  {dm0:List (Int×Int)}(next:∀J4 w',ai2 g.m us J4->(∀x,(fA dm0 x).isSome=true->(fA J4 x).isSome=true)->(∀x∈ids,(fA J4 x).isSome=true)->Sep No W w' (fQ fu vI lb loc::fQ fu vI db J4::L)->uY s0 la ln lc (some lb) (some db) pa pn pc (pn:Int) ((i+1:Nat):Int) w')
  :∀(j k:Nat) (dm:List (Int×Int)) (w:World),k+j=iN->ai2 g.m us dm->(∀x,(fA dm0 x).isSome=true->(fA dm x).isSome=true)->(∀x∈ids.take k,(fA dm x).isSome=true)->Sep No W w (fQ fu vI lb loc::fQ fu vI db dm::L)->
   sB uY Q (j+1) s0 la ln lc (some lb) (some db) (aZ fb) pa pn pc (pn:Int) i ia iN ic (iN:Int) k w:=by
 intro j;induction j with
 |zero=>
  intro k dm w hj hD F5 hk s;show oD uY Q _ _ _ _ _ _ _ _ _ _ _ _ _ _ _ _ _ _ _;rw[oD,bp,NS (by omega)];have hl:=(hI w (ai (ai s))).len;grind
 |succ j ih=>
  intro k dm w hj hD F5 hk s;show oD uY Q _ _ _ _ _ _ _ _ _ _ _ _ _ _ _ _ _ _ _;rw[oD,bN];have sL:=ai (ai s);have hIw:=hI w sL;have hl:=hIw.len;apply hIw.rG rfl (by omega);have hx:=iD (l:=ids) (i:=k) (by omega);obtain⟨u,hu,e1,e2,e3⟩:=JP _ (List.mem_of_getElem? hx);have yc:ids.take (k+1)=ids.take k++[gi ids k]:=by rw[List.take_add_one,hx];rfl
  generalize gi ids k=x at*;subst e1;have II:=hm.at_ u hu;have h64:=GZ u hu;have hlr:=jY II.1;have hgl:=nT II.1;rw[e3]at hlr hgl;apply dx (hF w sL 1 _ rfl);refine Ez (K:=fu) iiT (ab1 w) s (i:=0) rfl hL.1 h64 (λhn=>by rw[hL.2 u hu]at hn;cases hn) λz hz=>?_;rw[hL.2 u hu]at hz;cases hz;apply abo;have hRw:=hR w sL;have hrl:=hRw.len;have hfl:(Aq g.m t sc).length=(aD g.m.w g.m.h sc*bz g.m.w g.m.h sc).toNat:=by unfold Aq nQ;have:=Ck (m:=g.m) (sc:=sc);rw[List.length_map,List.length_range];omega
  apply hRw.rG (k:=(dY g.m.w g.m.h u.cell).toNat) (by omega) (by omega);rw[arY hmay hs ht hlr,hgl,NS (by omega)];refine LY (x:=u.id) iiT s (i:=1) rfl hD.k h64 λJ4 w hk' Ed _ s=>?_;refine ih (k+1) J4 w (by omega) ⟨hk',λv hv d hd=>?_⟩ (λx hx=>?_) (λx hx=>?_) s
  ·rw[Ed]at hd;split at hd
   ·rename_i e;have:=ids_eq hm.ids hv hu e;subst this;cases hd;rw[<-e2]
   ·exact hD.v v hv d hd
  ·rw[Ed];split
   ·rfl
   ·exact F5 x hx
  ·rw[yc]at hx;rw[Ed];split
   ·rfl
   ·rename_i hne;rcases List.mem_append.1 hx with hx|hx
    ·exact hk x hx
    ·exact(hne (List.mem_singleton.1 hx)).elim
end
def ai3 {s d:Int}{N:Nat}:∀{l:List (Int×List Int)},(∀p∈l,p.2.length<=N)->∀p∈zB s d l,p.2.length<=N+1
 |[],_,p,hp=>by simp[zB,List.mem_singleton]at hp;grind
 |q::l,h,p,hp=>by
  have h0:=h q (List.mem_cons_self ..);rw[zB]at hp;split at hp
  ·grind
  ·rcases List.mem_cons.1 hp with rfl|hp
   ·omega
   ·exact ai3 (λp hp=>h p (List.mem_cons_of_mem _ hp)) p hp
def ai4 {g s d:Int}{N:Nat}:∀{st:Av},(∀q∈st,∀p∈q.2,p.2.length<=N)->∀q∈qi g s d st,∀p∈q.2,p.2.length<=N+1
 |[],_,q,hq,p,hp=>by simp[qi,List.mem_singleton]at hq;grind
 |z::st,h,q,hq,p,hp=>by
  rw[qi]at hq;split at hq
  ·rcases List.mem_cons.1 hq with rfl|hq
   ·exact ai3 (h z (List.mem_cons_self ..)) p hp
   grind
  ·rcases List.mem_cons.1 hq with rfl|hq
   ·grind
   ·exact ai4 (λq hq=>h q (List.mem_cons_of_mem _ hq)) q hq p hp
def atq {w h:Int}{us:List aU}{ps:List AQ}{p:AQ}(hps:ps.map Md=kW w h us)(hp:p∈ps):p.ids.length<=us.length:=by
 have key:∀(us:List aU) (st:Av) (N:Nat),(∀q∈st,∀p∈q.2,p.2.length<=N)->∀q∈us.foldl (SW w h) st,∀p∈q.2,p.2.length<=N+us.length:=by
  intro us;induction us with
  |nil=>simp_all
  |cons u us ih=>
   intro st N h;have:=ih _ _ (ai4 (g:=u.goal) (s:=aC w ‹Int› u.cell) (d:=u.id) h);rw[List.length_cons];intro q hq p hp;have:=this q hq p hp;omega
 have h1:Md p∈kW w h us:=by grind
 obtain⟨q,hq,h2⟩:=List.mem_flatMap.1 h1;obtain⟨z,hz,e⟩:=List.mem_map.1 h2;have h3:=key us [] 0 (λq hq=>by cases hq) q hq z hz;have e2:z.2=p.ids:=congrArg ED.ids e;grind
section
variable {W w w0:World}{L:List As}{r:Ap}{y:gw}{lg:xD}{la:Option Addr}{ln lc sp lb db:Nat}{us:List aU}{v0 v2:Value}{g:gW}{loc:List (Int×Int)}
def ai5 {F:Nat->Prop}{ps:List AQ}{p:AQ}{i:Nat}(s:Sep F W w (Aw ps::L))(hp:ps[i]? =some p):Sl w p.q.a p.q.n p.q.c 1 one p.ids:=by have s:=(gP s).2;exact aO s (i:=i) (by rw[List.getElem?_append_left (by grind),List.getElem?_map,hp];rfl) cB (by decide)
def aq7 {Q:Option Addr->Nat->Nat->Value->World->Prop}{dm:List (Int×Int)}{L':List As}(hm:nS g.m.w g.m.h us)(GZ:∀u∈us,iK u.id)(p9:ln<=1000000)(hD:ai2 g.m us dm)(hall:∀u∈us,(fA dm u.id).isSome=true)(hU:∀w',Sep No W w' L'->Sl w' la ln lc 3 iC us)
  (h:∀da dn dc w',Sep No W w' (ak da dn dc 3 1 (flat one (sH g.m us))::L')->Q da dn dc .nilIface w'):
  ∀(j i:Nat) (oa:Option Addr) (on oc:Nat) (w:World),i+j=ln->on<=i->Sep No W w (ak oa on oc 3 1 (flat one (sH g.m (us.take i)))::fQ fu vI db dm::L')->
   sC Q (j+1) (some db) oa on oc la ln lc (ln:Int) i w:=by
 intro j;induction j with
 |zero=>
  intro i oa on oc w hj Ch s;show oF _ _ _ _ _ _ _ _ _ _ _ _;rw[oF,bp];have hl:=(hU w (ai (ai s))).len;rw[List.take_of_length_le (by omega)]at s;exact h oa on oc w (gF s (.cons_cons _ (List.sublist_cons_self _ _)))
 |succ j ih=>
  intro i oa on oc w hj Ch s;show oF _ _ _ _ _ _ _ _ _ _ _ _;rw[oF,bN];refine(hU w (ai (ai s))).El rfl (by omega) λp u hu hc=>?_;have hmem:=List.mem_of_getElem? hu;refine WH hc s λub w s=>?_;apply lI s 0 rfl;refine Ez (K:=fu) iiT (ab1 w) s (i:=2) rfl hD.k (GZ u hmem) (λhn=>by grind) λd hd=>?_;apply abo;rw[hD.v u hmem d hd,NS (by omega)];have s:=ai s;refine Lx s (by omega) λa' c' w s=>?_;apply ih (i+1) a' (on+1) c' w (by omega) (by omega);have yc:us.take (i+1)=us.take i++[u]:=by rw[List.take_add_one,hu];rfl
  unfold sH at s⊢;grind
def aq8 {Q:Option Addr->Nat->Nat->Value->World->Prop}{ps:List AQ}{pa:Option Addr}{pn pc:Nat}(hLd:jq W lg)(hmay:cR g.m)(hm:nS g.m.w g.m.h us)(GZ:∀u∈us,iK u.id)(p9:ln<=100000)(ayA:aq5 g.m.w g.m.h loc us)(hps:ps.map Md=kW g.m.w g.m.h us)(hU:∀w',Sep No W w' L->Sl w' la ln lc 3 iC us)
  (h:∀r' y' da dn dc w',r'.p=r.p->y'.p=sG y.p (kW g.m.w g.m.h us)->Sep No W w' (ak da dn dc 3 1 (flat one (sH g.m us))::ik r' y'::FN sp v0 r.p v2::L)->Q da dn dc .nilIface w'):
  ∀(j i:Nat) (r':Ap) (y':gw) (m':j8) (dm:List (Int×Int)) (w:World),i+j=pn->r'.p=r.p->y'.p=sG y.p ((kW g.m.w g.m.h us).take i)->y'.o=some m'->m'.g=g->ai2 g.m us dm->(∀p∈ps.take i,∀x∈p.ids,(fA dm x).isSome=true)->
   Sep No W w (ik r' y'::FN sp v0 r.p v2::fQ fu vI lb loc::fQ fu vI db dm::ak pa pn pc 211 3 (flat yy ps)::Aw ps::L)->
   oH Q (j+1) (sZ sp) la ln lc (some lb) (some db) pa pn pc (pn:Int) i w:=by
 have IG:=WL g.m.w g.m.h us;have aBI:ps.length=(kW g.m.w g.m.h us).length:=by grind
 intro j;induction j with
 |zero=>
  intro i r' y' m' dm w hj er ey ho eg hD hd s;show oG _ _ _ _ _ _ _ _ _ _ _ _ _ _;rw[oG,bp];have hpn:=(aO s (i:=4) rfl uK (by decide)).len;rw[List.take_of_length_le (by omega)]at ey hd;have hUw:=hU w (ai (ai (ai (ai (ai (ai s))))));have s:=pk 6 [3,0,1] s;have s:=bD s 3 1;refine⟨ln+1,aq7 (L':=ik r' y'::FN sp v0 r.p v2::L) hm GZ (by omega) hD (λu hu=>?_) (λw' s'=>hU w' (ai (ai s'))) (λda dn dc w' s'=>h r' y' da dn dc w' er ey s') ln 0 none 0 0 w (by omega) (Nat.zero_le _) s⟩;obtain⟨p,hp,_,_,hx⟩:=WK.2 ⟨u,hu,rfl,rfl,rfl⟩;rw[<-hps]at hp;obtain⟨q,hq,rfl⟩:=List.mem_map.1 hp;exact hd q hq u.id hx
 |succ j ih=>
  intro i r' y' m' dm w hj er ey ho eg hD hd s;show oG _ _ _ _ _ _ _ _ _ _ _ _ _ _;rw[oG,bN];have hP:=aO s (i:=4) rfl uK (by decide);have hpn:=hP.len;have hul:=(hU w (ai (ai (ai (ai (ai (ai s))))))).len;refine hP.El rfl (by omega) λad p hp hc=>?_;have hmem:=List.mem_of_getElem? hp;have htr:(kW g.m.w g.m.h us)[i]? =some (Md p):=by rw[<-hps,List.getElem?_map,hp];rfl
  have yc:(kW g.m.w g.m.h us).take (i+1)=(kW g.m.w g.m.h us).take i++[Md p]:=by rw[List.take_add_one,htr];rfl
  have ayB:ps.take (i+1)=ps.take i++[p]:=by rw[List.take_add_one,hp];rfl
  obtain⟨u0,hu0,e1,e2⟩:=amg (List.mem_of_getElem? htr);have II:=hm.at_ u0 hu0;have ht:bK g.m.w g.m.h p.g:=by rw[<-show u0.goal=p.g from e1];exact II.2
  have hs:dX g.m.w g.m.h p.s:=by rw[<-show aC g.m.w g.m.h u0.cell=p.s from e2];exact bS II.1
  have vr:=e_ hm.wh.1 hm.wh.2;have NN:Lr.Yr (p.g,p.s):=⟨iK.wf (Ar ht),iK.wf (by have:=hs.2;unfold iK;omega)⟩;have JP:∀x∈p.ids,∃u∈us,u.id=x/\u.goal=p.g/\aC g.m.w g.m.h u.cell=p.s:=λx hx=>by obtain⟨u,hu,k1,k2,k3⟩:=WK.1 ⟨Md p,List.mem_of_getElem? htr,rfl,rfl,hx⟩;exact⟨u,hu,k3,k1,k2⟩
  refine aR (hc 0 _ rfl) (aR (hc 1 _ rfl) (dx (hc 2 _ rfl) ?_));refine aS s λpb w s=>?_;refine sT s 0 rfl λw s=>?_;refine sT s 0 rfl λw s=>?_;refine ax s (i:=0) rfl rfl rfl λw s=>?_;have s:=ay s;subst eg;refine ah (lP s 2 rfl (lI s 0 rfl (lI s 0 rfl ?_)));rw[<-er]at s⊢;have fin:∀{r2:Ap} {y2:gw} {da ra:Option Addr} {dc rc fb:Nat} {w:World},r2.p=r'.p->y2.p=Cv y'.p m'.p p.g p.s->
    Sep No W w (av fb 213 [.slice da (dU m'.g.m p.s).length dc,.slice ra (dU m'.g.m p.s).length rc]::ak ra (dU m'.g.m p.s).length rc 3 1 (flat one (Aq m'.g.m p.g p.s))::ak da (dU m'.g.m p.s).length dc 3 1 (flat one (DQ m'.g.m p.g p.s))::ik r2 y2::av pb 211 [ae p.g,ae p.s,.slice p.q.a p.q.n p.q.c]::FN sp v0 r'.p v2::fQ fu vI lb loc::fQ fu vI db dm::ak pa pn pc 211 3 (flat yy ps)::Aw ps::L)->
    oE (oH Q (j+1)) Q (sZ sp) la ln lc (some lb) (some db) (aZ pb) (aZ fb) 0 pa pn pc (pn:Int) i w:=λ{r2 y2 da ra dc rc fb w} er2 WN s=>by
   unfold oE;apply lS s 4 rfl;have hI0:=ai5 (pk 10 [9] s) hp;have IK:=hI0.len;have v7:p.q.n<=1000000:=by rw[<-IK];exact Nat.le_trans (atq hps hmem) (by omega)
   have s:=pk 10 [6,7,0,1,9,8,3,5] s;obtain⟨m2,ho2,em2⟩:=KC (by rw[WN];rfl);have eg2:m2.g=m'.g:=by have:=congrArg uG.g em2;exact this
   refine⟨p.q.n+1,aq6
    hmay hm ayA hs ht JP GZ (by omega) v7 (λw' s'=>ai5 (ai (ai s')) hp) (λw' s'=>aO s' (i:=1) rfl cB (by decide)) (λw' s'=>lj s' (i:=0) rfl) (λJ4 w' hD' h0 h1 s'=>?_) p.q.n 0 dm w (by omega) hD (λx hx=>hx) (λx hx=>by cases hx) s⟩
   refine ih (i+1) r2 y2 m2 J4 w' (by omega) (er2.trans er) ?_ ho2 eg2 hD' (λq hq x hx=>?_) ?_
   ·rw[WN,yc,field_eq ho,ey];unfold sG;rw[List.foldl_append];rfl
   ·rw[ayB]at hq;rcases List.mem_append.1 hq with hq|hq
    ·exact h0 x (hd q hq x hx)
    ·rw[List.mem_singleton.1 hq]at hx;exact h1 x hx
   ·rw[<-er];exact gf (A:=[_,_,_,_,_,_,_,_]) (B:=[_,_,_,_,_,_]) [6,7,0,1,5,4] s' rfl (by decide)
  constructor
  ·have s:=pk 7 [1,0,2,3,4,5,6] s;refine NO ho hLd s ht hs NN λr2 y2 da dc ra rc w er2 WN s=>?_;refine aS s λfb w s=>?_;refine⟨cj s 4 rfl,cj s 4 rfl,cj s 5 rfl,?_⟩;refine sT s 0 rfl λw s=>?_;refine ax s (i:=0) rfl rfl rfl λw s=>?_;exact fin er2 WN s
  ·refine aS s λfb w s=>?_;refine⟨cj s 1 rfl,cj s 1 rfl,cj s 3 rfl,?_⟩;have s:=pk 8 [2,0,1,3,4,5,6,7] s;refine NO ho hLd s ht hs NN λr2 y2 da dc ra rc w er2 WN s=>?_;have s:=pk 10 [3,0,1,2,4,5,6,7,8,9] s;refine sT s 0 rfl λw s=>?_;refine ax s (i:=0) rfl rfl rfl λw s=>?_;exact fin er2 WN s
end
section
variable {W w w0:World}{L:List As}{r:Ap}{y:gw}{lg:xD}{la:Option Addr}{ln lc sp:Nat}{us:List aU}{v0 v2:Value}{m:j8}
def aeo {Q:Option Addr->Nat->Nat->Value->World->Prop}(hLd:jq W lg)(ho:y.o=some m)(hm:nS m.g.m.w m.g.m.h us)(GZ:∀u∈us,iK u.id)(p9:ln<=100000)(hU:∀w',Sep No W w' L->Sl w' la ln lc 3 iC us)(s:Sep No W w (ik r y::FN sp v0 r.p v2::L))
  (h:∀r' y' da dn dc w',r'.p=r.p->y'.p=sG y.p (kW m.g.m.w m.g.m.h us)->Sep No W w' (ak da dn dc 3 1 (flat one (sH m.g.m us))::ik r' y'::FN sp v0 r.p v2::L)->Q da dn dc .nilIface w'):
  xM (sZ sp) la ln lc w Q:=by
 apply Oy;refine ah (lP s 1 rfl ?_);have k:=q8 s ho;have hg:=(k.ok.m m ho).g;refine Q6 s k λw s _=>?_;refine Z4 s 207 fu vI λlb w s=>?_;have ayC:∀{us:List aU},ai2 m.g.m us []:=⟨List.nodup_nil,λu _ d h=>by cases h⟩;have loop:∀(j i:Nat) (loc:List (Int×Int)) (w:World),i+j=ln->aq5 m.g.m.w m.g.m.h loc (us.take i)->Sep No W w (fQ fu vI lb loc::ik r y::FN sp v0 r.p v2::L)->
   uy Q (j+1) (sZ sp) la ln lc m.g.m.w m.g.m.h (some lb) la ln lc (ln:Int) i w:=by
  intro j;induction j with
  |zero=>
   intro i loc w hj hL s;show pL _ _ _ _ _ _ _ _ _ _ _ _ _ _ _;rw[pL,bp];refine Z4 s 207 fu vI λdb w s=>?_;have hUw:=hU w (ai (ai (ai (ai s))));have hl:=hUw.len;rw[List.take_of_length_le (by omega)]at hL;refine aaq s hUw (by omega) hm λoa on oc ps w htr s _=>?_;have s:=pk 6 [4,5,3,2,0,1] s;exact⟨on+1,aq8 hLd hg.may hm GZ p9 hL htr hU h on 0 r y m [] w (by omega) rfl (by rw[List.take_zero];rfl) ho rfl ayC (λp hp=>by cases hp) s⟩
  |succ j ih=>
   intro i loc w hj hL s;show pL _ _ _ _ _ _ _ _ _ _ _ _ _ _ _;rw[pL,bN];refine(hU w (ai (ai (ai s)))).El rfl (by omega) λp u hu hc=>?_;have hmem:=List.mem_of_getElem? hu;refine WH hc s λub w s=>?_;have s:=ay s;refine lI s 0 rfl (lI s 0 rfl ?_);refine tC s λw s _=>⟨cj s 0 rfl,?_⟩;refine LY iiT s (i:=1) rfl hL.1 (GZ u hmem) λloc' w hk' Ed _ s=>?_;rw[NS (by omega)];refine ih (i+1) loc' w (by omega) ⟨hk',λv hv=>?_⟩ (ai s);have yc:us.take (i+1)=us.take i++[u]:=by rw[List.take_add_one,hu];rfl
   rw[yc]at hv;rw[Ed];by_cases e:v.id=u.id
   ·have hvu:v∈us:=by
     rcases List.mem_append.1 hv with hv|hv
     ·exact List.mem_of_mem_take hv
     ·rw[List.mem_singleton.1 hv];exact hmem
    rw[if_pos e,ids_eq hm.ids hvu hmem e]
   ·rw[if_neg e];rcases List.mem_append.1 hv with hv|hv
    ·exact hL.2 v hv
    ·exact(e (by rw[List.mem_singleton.1 hv])).elim
 exact⟨ln+1,loop ln 0 [] w (by omega) ⟨List.nodup_nil,λu hu=>by cases hu⟩ s⟩
end
structure Ei where
 p:Nat
 bF:Ap
 cr:CrR
structure xE where
 most:Int
 bF:gw
 cr:Option Ho
def xE.p (y:xE):gO:=⟨y.most,y.bF.p,y.cr.map (·.y)⟩
def crV (r:Ei)(o:Option Ho):Option Addr:=match o with
 |some _=>sZ r.cr.p
 |none=>none
noncomputable def amt (r:Ei)(o:Option Ho):List As:=match o with
 |some x=>[fX r.cr x]
 |none=>[]
noncomputable abbrev ai6 (r:Ei)(y:xE):As:=FN r.p (ae y.most) r.bF.p (.pointer (crV r y.cr))
noncomputable def awk (r:Ei)(y:xE):List As:=ai6 r y::ik r.bF y.bF::amt r y.cr
structure ai7 (y:xE):Prop where
 most:1<=y.most/\y.most<=65536
 no:y.cr=none↔y.bF.o=none
 cr:∀x m,y.cr=some x->y.bF.o=some m->x.w=m.g.m.w/\x.h=m.g.m.h/\x.y.most=y.most
noncomputable def gx (r:Ei)(y:xE):As:=aV (ai7 y) (awk r y)
section
variable {F:Nat->Prop}{W w:World}{L:List As}{r:Ei}{y:xE}
def Ih (s:Sep F W w (gx r y::L)):ai7 y/\Sep F W w (ai6 r y::ik r.bF y.bF::(amt r y.cr++L)):=gP s
def aau (s:Sep F W w (gx r y::L))(h:y.cr=none):ai7 y/\y.bF.o=none/\Sep F W w (FN r.p (ae y.most) r.bF.p (.pointer none)::ik r.bF y.bF::L):=by obtain⟨ok,s⟩:=Ih s;refine⟨ok,ok.no.1 h,?_⟩;unfold ai6 amt crV at s;grind
def vw {x:Ho}(s:Sep F W w (gx r y::L))(h:y.cr=some x):ai7 y/\(∃m,y.bF.o=some m/\x.w=m.g.m.w/\x.h=m.g.m.h/\x.y.most=y.most)/\Sep F W w (FN r.p (ae y.most) r.bF.p (.pointer (sZ r.cr.p))::ik r.bF y.bF::fX r.cr x::L):=by
 obtain⟨ok,s⟩:=Ih s;refine⟨ok,?_,?_⟩
 ·cases hn:y.bF.o with
  |none=>rw[ok.no.2 hn]at h;cases h
  |some m=>exact⟨m,rfl,ok.cr x m h hn⟩
 ·unfold ai6 amt crV at s;grind
def zP {most:Int}{n:gw}{x:Ho}{m:j8}(s:Sep F W w (FN r.p (ae most) r.bF.p (.pointer (sZ r.cr.p))::ik r.bF n::fX r.cr x::L))(hm:1<=most/\most<=65536)(ho:n.o=some m)(hx:x.w=m.g.m.w/\x.h=m.g.m.h/\x.y.most=most):Sep F W w (gx r ⟨most,n,some x⟩::L):=by
 refine dA s ⟨hm,⟨(λe=>by cases e),λe=>?_⟩,λx' m' ex em=>?_⟩
 all_goals grind
def afx {most:Int}{n:gw}(s:Sep F W w (FN r.p (ae most) r.bF.p (.pointer none)::ik r.bF n::L))(hm:1<=most/\most<=65536)(ho:n.o=none):Sep F W w (gx r ⟨most,n,none⟩::L):=
 dA s ⟨hm,⟨λ_=>ho,λ_=>rfl⟩,λx' m' ex em=>by cases ex⟩
def Tx {Q:Option Addr->World->Prop}{k most:Int}(hk:1<=k/\k<=100000)(hm:1<=most/\most<=65536)(s:Sep F W w L)
  (h:∀r y w',y.p=⟨most,⟨k,⟨[],[],0,0,0,0⟩,none,⟨0,0,0,0,0,0⟩⟩,none⟩->Sep F W w' (gx r y::L)->Q (sZ r.p) w'):Ep k most w Q:=by
 apply afV;rw[bp,bp,bp];refine agq hk s λnr x w ex s=>?_;refine aN s λp w s=>?_;refine h ⟨p,nr,⟨0,⟨0,0,none,0,0,[],[]⟩,⟨0,none,0,0,0⟩⟩⟩ ⟨most,⟨k,x,none,⟨0,0,0,0,0,0⟩⟩,none⟩ w ?_ (afx s hm rfl);unfold xE.p gw.p;grind
end
abbrev Mg (c:Int):Value:=.iface 108 (ae c)
def G0 (lg:xD)(e:Value)(c:Int):Prop:=(c=0/\e=.nilIface)\/(c≠0/\e=Mg c)\/(c=5/\e=sX lg.a0)
def acA {lg:xD}{e:Value}{c:Int}{K:Value->Prop}(h:G0 lg e c)(k:K e):dV e K:=by rcases h with⟨_,rfl⟩|⟨_,rfl⟩|⟨_,rfl⟩<;>exact k
def ai8 {lg:xD}{w:World}{c:Int}{Q:Value->World->Prop}(h:∀e,G0 lg e c->Q e w):gm c w Q:=by
 apply EY;by_cases e:c=0
 ·rw[eC e,cond_true];exact h _ (.inl ⟨e,rfl⟩)
 ·rw[cQ e,cond_false];exact h _ (.inr (.inl ⟨e,rfl⟩))
def q_ {lg:xD}{c:Int}(h:c≠0):G0 lg (Mg c) c:=.inr (.inl ⟨h,rfl⟩)
section
variable {W w w0:World}{L:List As}{lg:xD}{r:Ei}{y:xE}{x:Ho}{m:j8}{ob:Nat}{kind c:Int}{e:Value}
def aBJ:zc T 108=[ae 0]:=rfl
def amu {Q:Int->World->Prop}(hL:jq W lg)(he:G0 lg e c)(hc:c≠0)(s:Sep No W w (av ob 80 [ae kind,e]::L))(h:∀w',Sep No W w' (av ob 80 [ae kind,e]::L)->Q c w'):
  CH (.iface 78 (.pointer (sZ ob))) w Q:=by
 apply adA;refine aS s λrb w s=>?_;have k:=hL.fr (au s);apply mG k.v0 rfl;have hv:=lj s (i:=1) rfl 1 _ rfl;rcases he with⟨h0,_⟩|⟨_,rfl⟩|⟨h5,rfl⟩
 ·grind
 ·apply SR (.inl rfl) (.inr rfl) hv (λx y K hk=>au5 (by decide) hk);refine L_ s (λw' s'=>lj s' (i:=0) rfl 1 _ rfl) (λw' s'=>(hL.fr (au s')).v1) λw s=>?_;exact lI s 0 rfl (h w (ai s))
 ·apply SR (.inl rfl) (.inl rfl) hv (λx y K hk=>Wt hk);rw[cond_true,<-h5];exact h w (ai s)
def amv {Q:Value->World->Prop}{a:Option Addr}{n c:Nat}{bs:List Int}(hL:jq W lg)(hB:∀w',Sep No W w' L->Sl w' a n c 1 bu bs)(hn:n<=1000000000)(hr:ee bs)(hh:Eg bs)(oX:∀mp,kZ bs=some mp->mp.w*mp.h<=1600)(Yi:zO y.p.bF<1000000000)
  (s:Sep No W w (gx r y::L))(hno:kZ bs=none->∀w',Sep No W w' (gx r y::L)->Q (Mg 6) w')
  (hyes:∀mp,kZ bs=some mp->∀r' y' w',r'.p=r.p->y'.p=⟨y.most,Tw y.p.bF mp,some ⟨y.most,0,[]⟩⟩->Sep No W w' (gx r' y'::L)->Q .nilIface w'):
  xJ (sZ r.p) a n c w Q:=by
 apply Of;have ok:=(Ih s).1;have hBw:=hB w (ai s);refine acz (hL.fr (au s)) hBw hn hr hh s (λhg co w UN s _=>?_) λmp hg ma mn mc w s _=>?_
 ·refine aS s λmb w s=>?_;refine sT s 0 rfl λw s=>?_;refine sT s 0 rfl λw s=>?_;refine sT s 0 rfl λw s=>?_;rw[Gq (by omega),cond_true];exact hno hg w (ai s)
 ·have hmay:=V1 (λx hx=>hr x hx) hg;refine aS s λmb w s=>?_;refine sT s 0 rfl λw s=>?_;refine sT s 0 rfl λw s=>?_;refine ax s (i:=0) rfl rfl rfl λw s=>?_;rw[Ev rfl,cond_false];have s:=ay s;obtain⟨_,so⟩:=Ih (pk 3 [2,0,1] s);have so:=so;have s:Sep No W _ (ik r.bF y.bF::ai6 r y::av mb 25 [ae mp.w,ae mp.h,.slice ma mn mc]::ak ma mn mc 5 1 (flat bu mp.cs)::L):=
   cg (gF so (.cons_cons _ (.cons_cons _ (List.sublist_append_right _ _)))) (List.Perm.swap _ _ _)
  refine ah (lP s 1 rfl ?_);refine lI s 2 rfl (lI s 2 rfl (lS s 2 rfl ?_));refine aee hmay hmay.bytes (oX mp hg) (λw' s'=>aO s' (i:=2) rfl dJ (by decide)) (by rw[y.bF.ams];exact Yi) s λnr x' w er ex s=>?_;have s:=ay s;refine lI s 2 rfl (lI s 2 rfl (ah (lI s 1 rfl ?_)));refine acp ⟨hmay.w,hmay.h⟩ ok.most s λcr ws w s=>?_;refine ah (ax s (i:=2) rfl rfl rfl λw s=>?_);refine ai8 (lg:=lg) λe he=>?_;have he:e=.nilIface:=by
   rcases he with⟨_,h⟩|⟨h,_⟩|⟨h,_⟩
   all_goals grind
  subst he;have s:=gf (A:=[_,_,_,_,_]) (B:=[FN r.p (ae y.most) nr.p (.pointer (sZ cr.p)),_,_]) [2,1,0] s (by rw[er];rfl) (by decide);refine hyes mp hg ⟨r.p,nr,cr⟩ ⟨y.most,_,some ⟨mp.w,mp.h,⟨y.most,0,[]⟩,ws⟩⟩ w rfl ?_ (zP s ok.most rfl ⟨rfl,rfl,rfl⟩);show gO.mk _ _ _=gO.mk _ _ _;rw[y.bF.awh ex];rfl
def Ii {x':Ho}{cr:CrR}(ok:ai7 y)(hx:x.w=m.g.m.w/\x.h=m.g.m.h/\x.y.most=y.most)(vr:y.cr=some x)(ho:y.bF.o=some m)(hx':x'.w=x.w/\x'.h=x.h/\x'.y.most=x.y.most)(ec:cr.p=r.cr.p)(s:Sep No W w (fX cr x'::FN r.p (ae y.most) r.bF.p (.pointer (sZ r.cr.p))::ik r.bF y.bF::L)):
  Sep No W w (gx ⟨r.p,r.bF,cr⟩ ⟨y.most,y.bF,some x'⟩::L):=by
 have s:=gf (A:=[_,_,_]) (B:=[FN r.p (ae y.most) r.bF.p (.pointer (sZ cr.p)),_,_]) [1,2,0] s (by rw[ec];rfl) (by decide);exact zP s ok.most ho ⟨hx'.1.trans hx.1,hx'.2.1.trans hx.2.1,hx'.2.2.trans hx.2.2⟩
end
def KJ {w:World}{Q:Value->World->Prop}(h:Q .nilIface w):gm 0 w Q:=EY _ _ _ h
def KK {w:World}{c:Int}{Q:Value->World->Prop}(hc:c≠0)(h:Q (Mg c) w):gm c w Q:=by apply EY;grind
def agI {m:bJ}(hm:cR m){c:Int}:cT m c=0↔¬bK m.w m.h c:=by
 constructor
 ·intro h hc;have:=LI hm hc;omega
 ·intro h;rw[cT,if_neg λe=>h ⟨⟨hm.w,hm.h⟩,e.1,by rw[<-hm.len];exact e.2⟩]
abbrev Mh (d dir id:Int)(ma:Option Addr)(mn mc:Nat)(ga:Option Addr)(gn gc:Nat):List Value:=[ae 0,ae d,ae dir,ae id,.slice ma mn mc,.slice ga gn gc,.int .u64 0,.int .u64 0,.int .u64 0,.int .u64 0,.int .u64 0,.int .u64 0]
abbrev DoK (lg:xD)(W:World)(rp:Nat)(ab:Nat)(L:List As)(Q:Value->World->Prop)(q:gO×aat):Prop:=
 ∀r' y' e ma mn mc ga gn gc w',r'.p=rp->y'.p=q.1->G0 lg e q.2.code->Sep No W w' (ak ma mn mc 51 2 (flat lN q.2.GY)::ak ga gn gc 3 1 (flat one q.2.gone)::gx r' y'::av ab 34 (Mh q.2.d q.2.dir q.2.id ma mn mc ga gn gc)::L)->Q e w'
section
variable {W w w0:World}{L:List As}{lg:xD}{r:Ei}{y:xE}{x:Ho}{m:j8}{ab:Nat}{A B k:Int}{e:Value}{a:Option Addr}{n c:Nat}
def WO {Q:Value->World->Prop}{q:gO×aat}{r':Ei}{y':xE}(h:DoK lg W r.p ab L Q q)(er:r'.p=r.p)(ey:y'.p=q.1)(he:G0 lg e q.2.code)(hm:q.2.GY=[])(hg:q.2.gone=[])(s:Sep No W w (gx r' y'::av ab 34 (Mh q.2.d q.2.dir q.2.id none 0 0 none 0 0)::L)):Q e w:=by have s:=bD (bD s 3 1) 51 2;apply h r' y' e none 0 0 none 0 0 w er ey he;rw[hm,hg];exact s
def ai9 {Q:Value->World->Prop}{ob:Nat}{v0 v2 v3:Value}(ho:y.bF.o=some m)(vr:y.cr=some x)(s:Sep No W w (av ob 38 [v0,ae A,v2,v3]::gx r y::L))(h7:¬bK m.g.m.w m.g.m.h A->∀w',Sep No W w' (gx r y::L)->Q (Mg 7) w')(h0:bK m.g.m.w m.g.m.h A->∀w',Sep No W w' (gx r y::L)->Q .nilIface w'):
  sq Q (sZ r.p) (aZ ob) w:=by
 have s:=ay s;obtain⟨ok,_,so⟩:=vw (ai s) vr;refine ah (lP so 0 rfl (lI s 0 rfl ?_));have kn:=q8 (ai so) ho;have hmay:=(kn.ok.m m ho).g.may;apply Ib kn;by_cases hc:bK m.g.m.w m.g.m.h A
 ·rw[cQ (λe=>(agI hmay).1 e hc),cond_false];exact h0 hc _ (ai s)
 ·rw[eC ((agI hmay).2 hc),cond_true];exact h7 hc _ (ai s)
def aj0 {Q:Value->World->Prop}(hx:k=2\/k=3->∃x m,y.cr=some x/\y.bF.o=some m)(s:Sep No W w (gx r y::L))
  (h7:∀m,y.bF.o=some m->(k=2/\¬bK m.g.m.w m.g.m.h A)\/(k=3/\¬(bK m.g.m.w m.g.m.h A/\bK m.g.m.w m.g.m.h B))->∀w',Sep No W w' (gx r y::L)->Q (Mg 7) w')
  (h0:(∀m,y.bF.o=some m->(k=2->bK m.g.m.w m.g.m.h A)/\(k=3->bK m.g.m.w m.g.m.h A/\bK m.g.m.w m.g.m.h B))->∀w',Sep No W w' (gx r y::L)->Q .nilIface w'):
  we (sZ r.p) k A B a n c w Q:=by
 apply Mu;refine aN s λob w s=>?_;apply lI s 0 rfl;by_cases k3:k=3
 ·rw[eC k3,cond_true];obtain⟨x,m,vr,ho⟩:=hx (.inr k3);have s:=ay s;obtain⟨ok,_,so⟩:=vw (ai s) vr;refine ah (lP so 0 rfl (lI s 0 rfl ?_));have kn:=q8 (ai so) ho;have hmay:=(kn.ok.m m ho).g.may;apply Ib kn;by_cases hc:bK m.g.m.w m.g.m.h B
  ·rw[cQ (λe=>(agI hmay).1 e hc),cond_false];refine ai9 ho vr s (λhA w s=>h7 m ho (.inr ⟨k3,λe=>hA e.1⟩) w s) λhA w s=>h0 (λm' hm'=>?_) w s;grind
  ·rw[eC ((agI hmay).2 hc),cond_true];exact h7 m ho (.inr ⟨k3,λe=>hc e.2⟩) _ (ai s)
 rw[cQ k3,cond_false];by_cases k2:k=2
 ·rw[eC k2,cond_true];obtain⟨x,m,vr,ho⟩:=hx (.inl k2);refine ai9 ho vr s (λhA w s=>h7 m ho (.inl ⟨k2,hA⟩) w s) λhA w s=>h0 (λm' hm'=>?_) w s;grind
 ·rw[cQ k2,cond_false];exact h0 (λm' _=>⟨λe=>(k2 e).elim,λe=>(k3 e).elim⟩) _ (ai s)
def amw {Q:Value->World->Prop}(vr:y.cr=some x)(ho:y.bF.o=some m)(hA:bK m.g.m.w m.g.m.h A)(Yi:zO y.p.bF<1000000000)(s:Sep No W w (gx r y::L))
  (h8:B<1\/255<B->∀w',Sep No W w' (gx r y::L)->Q (Mg 8) w')(h10:1<=B/\B<=255->B=255/\vu x.y.us A≠-1->∀w',Sep No W w' (gx r y::L)->Q (Mg 10) w')
  (h0:1<=B/\B<=255->¬(B=255/\vu x.y.us A≠-1)->∀r' y' w',r'.p=r.p->y'.p=⟨y.most,NX y.p.bF A B,some x.y⟩->Sep No W w' (gx r' y'::L)->Q .nilIface w'):xK (sZ r.p) A B w Q:=by
 apply Og;by_cases b1:B<1
 ·grind
 rw[bp b1];by_cases b2:B>255
 ·grind
 rw[bp b2];have hB:1<=B/\B<=255:=by omega
 obtain⟨ok,⟨m',ho',hx⟩,so⟩:=vw s vr;rw[ho]at ho';cases ho';have aie:m.g.ep<1000000000:=by have e:=y.bF.ams;rw[ho]at e;have e:m.g.ep=zO y.p.bF:=e;omega
 have b5:¬(B=255/\vu x.y.us A≠-1)->um Q (sZ r.p) A B w:=λhn=>by refine ah (lP so 0 rfl ?_);refine aed ho aie (iZ so) (λe=>(e hA).elim) (λ_ e=>(e hB).elim) λ_ _ w s=>?_;apply KJ;refine h0 hB hn r ⟨y.most,⟨y.bF.k,y.bF.x,some ⟨vQ m.g A B,m.ms,m.f⟩,y.bF.past⟩,some x⟩ w rfl ?_ (zP (pk 3 [1,0,2] s) ok.most rfl hx);show gO.mk _ _ _=gO.mk _ _ _;rw[y.bF.awj ho];rfl
 by_cases ayD:B=255
 ·rw[eC ayD,cond_true];refine ah (lP so 0 rfl ?_);have hAx:bK x.w x.h A:=by grind
  have hc:=(q9 (ai (ai so))).1;apply acs hAx (ai (ai so));rcases atf hc.may (c:=A)with h1|h1
  all_goals grind
 grind
def aj1 {Q:Int->Value->World->Prop}(vr:y.cr=some x)(ho:y.bF.o=some m)(Q8:x.y.next<1000000000)(s:Sep No W w (gx r y::L))
  (h9:cT m.g.m A=255->∀w',Sep No W w' (gx r y::L)->Q (-1) (Mg 9) w')
  (GU:cT m.g.m A≠255->vv m.g.m.w m.g.m.h x.y A B≠0->∀w',Sep No W w' (gx r y::L)->Q (-1) (Mg (vv m.g.m.w m.g.m.h x.y A B)) w')
  (h0:cT m.g.m A≠255->vv m.g.m.w m.g.m.h x.y A B=0->∀r' y' w',r'.p=r.p->y'.p=⟨y.most,y.p.bF,some (OQ x.y A B)⟩->Sep No W w' (gx r' y'::L)->Q x.y.next .nilIface w'):wg (sZ r.p) A B w Q:=by
 apply My;obtain⟨ok,⟨m',ho',hx⟩,so⟩:=vw s vr;rw[ho]at ho';cases ho';refine ah (lP so 0 rfl ?_);apply Ib (q8 (ai so) ho);by_cases aq9:cT m.g.m A=255
 ·grind
 rw[cQ aq9,cond_false];refine ah (lP so 0 rfl ?_);rw[<-hx.1,<-hx.2.1]at GU h0;refine X5 Q8 (pk 3 [2,0,1] so) (λhne w s=>?_) λhz cr ws w ec s=>?_
 ·apply KK hne;apply GU aq9 hne w;have s:=Ii ok hx vr ho ⟨rfl,rfl,rfl⟩ rfl s;have e:(⟨y.most,y.bF,some x⟩:xE)=y:=by rw[<-vr]
  simp_all
 ·apply KJ;exact h0 aq9 hz ⟨r.p,r.bF,cr⟩ ⟨y.most,y.bF,some ⟨x.w,x.h,OQ x.y A B,ws⟩⟩ w rfl rfl (Ii (x':=⟨x.w,x.h,OQ x.y A B,ws⟩) ok hx vr ho ⟨rfl,rfl,rfl⟩ ec s)
def aj2 {Q:Value->World->Prop}(hL:jq W lg)(vr:y.cr=some x)(ho:y.bF.o=some m)(NN:(Lit.int .i64 A).wf=true)(s:Sep No W w (gx r y::av ab 34 (Mh 0 5 (-1) none 0 0 none 0 0)::L))
  (GU:¬(bK m.g.m.w m.g.m.h A/\bK m.g.m.w m.g.m.h B)->∀w',Sep No W w' (gx r y::av ab 34 (Mh 0 5 (-1) none 0 0 none 0 0)::L)->Q (Mg 7) w')
  (h0:bK m.g.m.w m.g.m.h A->bK m.g.m.w m.g.m.h B->∀r' y' w',r'.p=r.p->y'.p=⟨y.most,pQ y.p.bF A (cS m.g.m B),some x.y⟩->Sep No W w' (gx r' y'::av ab 34 (Mh (D m.g.m A B) (sW m.g.m A B) (-1) none 0 0 none 0 0)::L)->Q .nilIface w'):wj (sZ r.p) (sZ ab) A B w Q:=by
 apply MK;obtain⟨ok,⟨m',ho',hx⟩,so⟩:=vw s vr;rw[ho]at ho';cases ho';refine ah (lP so 0 rfl ?_);refine aeh ho hL (iZ so) NN (λhn w s=>?_) λht hc nr ny w er ey s=>?_
 ·apply KK (by decide);have s:=zP (pk 3 [1,0,2] s) ok.most ho hx;have e:(⟨y.most,y.bF,some x⟩:xE)=y:=by rw[<-vr]
  rw[e]at s;exact GU hn w s
 ·rw[eC rfl,cond_true];refine ah (sT s 3 rfl λw s=>ah (ax s (i:=3) rfl rfl rfl λw s=>?_));apply KJ;obtain⟨m2,ho2,em2⟩:=KC (by rw[ey];rfl);have eg2:m2.g=m.g:=congrArg uG.g em2;have s:=gf (A:=[_,_,_,_]) (B:=[FN r.p (ae y.most) nr.p (.pointer (sZ r.cr.p)),ik nr ny,fX r.cr x,_]) [1,0,2,3] s (by rw[er];rfl) (by decide);refine h0 ht hc ⟨r.p,nr,r.cr⟩ ⟨y.most,ny,some x⟩ w rfl ?_ (zP s ok.most ho2 (by grind));show gO.mk _ _ _=gO.mk _ _ _;rw[ey,field_eq ho];rfl
end
def aq_ {m:bJ}(hm:cR m){t x:Int}:0<=sW m t x/\sW m t x<=5:=by
 by_cases hD:D m t x<bW
 ·by_cases hx:x=t
  ·unfold sW;omega
  ·have:=(akv hm hD hx).1;omega
 ·unfold sW;omega
section
variable {W w w0:World}{L:List As}{lg:xD}{r:Ei}{y:xE}{x:Ho}{m:j8}{ab:Nat}{A B k:Int}{e:Value}{a:Option Addr}{n c:Nat}
def amx {Q:Value->World->Prop}(hL:jq W lg)(vr:y.cr=some x)(ho:y.bF.o=some m)(s:Sep No W w (gx r y::av ab 34 (Mh 0 5 (-1) none 0 0 none 0 0)::L))
  (h:∀r' y' ma mn mc ga gn gc w',r'.p=r.p->y'.p=⟨y.most,sG y.p.bF (kW m.g.m.w m.g.m.h x.y.us),some (NU m.g.m.w m.g.m.h x.y (sH m.g.m x.y.us))⟩->
   Sep No W w' (ak ma mn mc 51 2 (flat lN (dg m.g.m.w m.g.m.h [] (x.y.us.zip (sH m.g.m x.y.us))).2.1)::ak ga gn gc 3 1 (flat one (dg m.g.m.w m.g.m.h [] (x.y.us.zip (sH m.g.m x.y.us))).2.2)::gx r' y'::av ab 34 (Mh 0 5 (-1) ma mn mc ga gn gc)::L)->Q .nilIface w'):
  xL (sZ r.p) (sZ ab) w Q:=by
 apply OD;obtain⟨ok,⟨m',ho',hx⟩,s⟩:=vw s vr;rw[ho]at ho';cases ho';obtain⟨cok,cs⟩:=q9 (ai (ai s));have DR:=(uQ (ai cs)).1;have oX:=DR.nP;have Xd:=DR.most;have Q8:=DR.Jb;have ar_:=cok.may;rw[hx.1,hx.2.1]at ar_;have hmay:=((q8 (ai s) ho).ok.m m ho).g.may;have GZ:∀u∈x.y.us,iK u.id:=λu hu=>by have:=DR.jC u hu;unfold iK;omega
 refine ah (lP s 0 rfl ?_);refine DS (pk 4 [2,0,1,3] s) λua un uc w s=>?_;have hun:=(aO s (i:=0) rfl FI (by decide)).len;have s:=pk 5 [3,2,0,1,4] s;refine aeo hL ho ar_ GZ (by omega) (λw' s'=>aO s' (i:=0) rfl FI (by decide)) s λnr ny da dn dc w er ey s=>?_;apply Me;refine ah (lP s 2 rfl ?_);have s:=pk 6 [4,0,1,2,5] s;refine aan (λw' s'=>aO s' (i:=0) rfl cB (by decide)) (by unfold sH;grind) (λd hd=>?_) s λcr ws ma mn mc ga gn gc w ec s=>?_
 ·obtain⟨u,_,rfl⟩:=List.mem_map.1 hd;exact aq_ hmay
 ·refine ah (sT s 6 rfl λw s=>ah (ax s (i:=6) rfl rfl rfl λw s=>?_));apply KJ;obtain⟨m2,ho2,em2⟩:∃m2,ny.o=some m2/\m2.g=m.g:=by obtain⟨oQ,h1,h2⟩:=C_ (kW m.g.m.w m.g.m.h x.y.us) (Mf ho);rw[<-ey]at h1;obtain⟨m2,ho2,e2⟩:=KC h1;refine⟨m2,ho2,?_⟩;have:=congrArg uG.g e2;exact this.trans h2
  rw[hx.1,hx.2.1]at s;have s:=gf (A:=[_,_,_,_,_,_,_]) (B:=[FN r.p (ae y.most) nr.p (.pointer (sZ cr.p)),ik nr ny,fX cr ⟨m.g.m.w,m.g.m.h,NU m.g.m.w m.g.m.h x.y (sH m.g.m x.y.us),ws⟩,_,_,_]) [5,4,2,0,1,6] s (by rw[er,ec];rfl) (by decide);have s:=zP (r:=⟨r.p,nr,cr⟩) s ok.most ho2 (by rw[em2];exact⟨rfl,rfl,hx.2.2⟩);refine h ⟨r.p,nr,cr⟩ ⟨y.most,ny,some ⟨m.g.m.w,m.g.m.h,NU m.g.m.w m.g.m.h x.y (sH m.g.m x.y.us),ws⟩⟩ ma mn mc ga gn gc w rfl ?_ (pk 4 [1,2,0,3] s);show gO.mk _ _ _=gO.mk _ _ _;rw[ey];rfl
def att {o:k_}(h:EI o=true)(hk:o.k≠0):(1<=o.k/\o.k<=8)/\(0<=o.A/\o.A<4294967296)/\(0<=o.B/\o.B<4294967296):=by
 unfold EI at h;rw[if_neg hk]at h;simp[Bool.and_eq_true]at h;obtain⟨h1,h2,h3,_⟩:=h;have h1:=of_decide_eq_true h1;have hA:=HB.1 h2;have hB:=HB.1 h3;have:=apS o.k;have pw:∀s:Nat,s<=4->(256:Int)^s<=4294967296:=λs hs=>by
  match s,hs with
  |0,_=>decide
  |1,_=>decide
  |2,_=>decide
  |3,_=>decide
  |4,_=>decide
 grind
def ai_ {o:k_}(vr:y.cr=some x)(ho:y.bF.o=some m)(F5:o.k≠0)(hm:EI o=true)(h1:o.k≠1)(h8:o.k≠8):gd y.p o=Hs y.p m.g.m x.y o:=by
 have e1:y.p.bF.o=some m.p:=Mf ho;have e2:y.p.us=some x.y:=by show y.cr.map _=_;grind
 rw[gd,if_neg (by grind),if_neg h1,if_neg h8,e1,e2];rfl
def awl {Q:Value->World->Prop}{o:k_}{ob:Nat}(hL:jq W lg)(F5:o.k≠0)(hmay:EI o=true)(hr:ee o.m)(hn:n<=1000000000)(hM:∀w',Sep No W w' L->Sl w' a n c 1 bu o.m)
  (awm:o.k=1->Eg o.m/\∀mp,kZ o.m=some mp->mp.w*mp.h<=1600)(Yi:zO y.p.bF<1000000000)(Q8:∀u,y.p.us=some u->u.next<1000000000)(vr:o.k≠1->o.k≠8->y.cr≠none)
  (s:Sep No W w (av ob 38 [ae o.k,ae o.A,ae o.B,.slice a n c]::gx r y::av ab 34 (Mh 0 5 (-1) none 0 0 none 0 0)::L))(h:DoK lg W r.p ab L Q (gd y.p o)):
  oI Q (sZ r.p) (sZ ab) (aZ ob) w:=by
 obtain⟨hk,hA,hB⟩:=att hmay F5;have ara:iK o.A:=by unfold iK;omega
 have amy:o.k≠1->o.k≠8->∃x m,y.cr=some x/\y.bF.o=some m:=λh1 h8=>by
  have hne:=vr h1 h8;cases hc:y.cr with
  |none=>exact(hne hc).elim
  |some x=>
   obtain⟨_,⟨m,hm,_⟩,_⟩:=vw (ai s) hc;exact⟨x,m,rfl,hm⟩
 refine lI s 0 rfl (lI s 0 rfl (lI s 0 rfl (lS s 0 rfl ?_)));have s:=iZ s;have b25:∀{e:Value} {cd:Int} {w:World},G0 lg e cd->Q e w->fB Q e w:=λhe hq=>by exact acA he hq
 have e0:G0 lg .nilIface 0:=.inl ⟨rfl,rfl⟩;have fin:∀{q:gO×aat} {r':Ei} {y':xE} {e:Value} {w:World},gd y.p o=q->r'.p=r.p->y'.p=q.1->G0 lg e q.2.code->q.2.GY=[]->q.2.gone=[]->Sep No W w (gx r' y'::av ob 38 [ae o.k,ae o.A,ae o.B,.slice a n c]::av ab 34 (Mh q.2.d q.2.dir q.2.id none 0 0 none 0 0)::L)->fB Q e w:=λ{q r' y' e w} eq er ey he hm hg s=>by subst eq;exact b25 he (WO h er ey he hm hg (gF s (.cons_cons _ (List.sublist_cons_self _ _))))
 refine aj0 (λhk=>amy (by omega) (by omega)) s (λm ho hb w s=>?_) λhc w s=>?_
 ·refine Q_ (acA (lg:=lg) (q_ (by decide)) ?_);obtain⟨x,m',hx,hm'⟩:=amy (by omega) (by omega);rw[ho]at hm';cases hm';have e:gd y.p o=(y.p,pR 7):=by
   rw[ai_ hx ho F5 hmay (by omega) (by omega)];unfold Hs;rcases hb with⟨k2,hA⟩|⟨k3,hAB⟩
   ·rw[if_pos k2,if_pos hA]
   ·rw[fS,if_pos k3,if_pos hAB]
  rw[e]at h;exact WO h rfl rfl (q_ (by decide)) rfl rfl (gF s (.cons_cons _ (List.sublist_cons_self _ _)))
 apply Me;apply lI s 1 rfl;by_cases k1:o.k=1
 ·rw[eC k1,cond_true];obtain⟨hh,oX⟩:=awm k1;apply lS s 1 rfl;have eq:∀q,(match kZ o.m with|none=>(y.p,pR 6)|some mp=>(⟨y.p.most,Tw y.p.bF mp,some ⟨y.p.most,0,[]⟩⟩,pR 0))=q->gd y.p o=q:=λq e=>by rw[gd,if_neg (by rw[hmay];simp[F5]),if_pos k1];exact e
  refine amv hL (λw' s'=>hM w' (ai (ai s'))) hn hr hh oX Yi s (λhg w s=>?_) λmp hg r' y' w er ey s=>?_
  ·exact fin (q:=(y.p,pR 6)) (eq _ (by rw[hg])) rfl rfl (q_ (by decide)) rfl rfl s
  ·exact fin (eq _ (by rw[hg])) er ey e0 rfl rfl s
 rw[cQ k1,cond_false];by_cases k8:o.k=8
 ·rw[eC k8,cond_true];have eq:gd y.p o=(⟨y.p.most,Hr y.p.bF,y.p.us⟩,pR 0):=by rw[gd,if_neg (by rw[hmay];simp[F5]),if_neg k1,if_pos k8]
  cases Ds:y.cr with
  |none=>
   obtain⟨ok,hno,so⟩:=aau s Ds;refine ah (lP so 0 rfl ?_);refine acf hno (iZ so) λnr x' w er ex s=>?_;have s:=gf (A:=[_,_]) (B:=[FN r.p (ae y.most) nr.p (.pointer none),_]) [1,0] s (by rw[er];rfl) (by decide);refine fin (r':=⟨r.p,nr,r.cr⟩) (y':=⟨y.most,⟨y.bF.k,x',none,y.bF.past⟩,none⟩) eq rfl ?_ e0 rfl rfl (afx s ok.most rfl);show gO.mk _ _ _=gO.mk _ _ _;rw[y.bF.atp hno ex];show gO.mk _ _ _=gO.mk _ _ (y.cr.map _);rw[Ds];rfl
  |some x=>
   obtain⟨ok,⟨m,ho,hx⟩,so⟩:=vw s Ds;refine ah (lP so 0 rfl ?_);refine ace ho (iZ so) λnr x' w er ex s=>?_;have s:=gf (A:=[_,_,_]) (B:=[FN r.p (ae y.most) nr.p (.pointer (sZ r.cr.p)),_,_]) [1,0,2] s (by rw[er];rfl) (by decide);refine fin (r':=⟨r.p,nr,r.cr⟩) (y':=⟨y.most,⟨y.bF.k,x',some ⟨m.g,m.ms,⟨none,m.f.fH⟩⟩,y.bF.past⟩,some x⟩) eq rfl ?_ e0 rfl rfl (zP s ok.most rfl hx);show gO.mk _ _ _=gO.mk _ _ _;rw[y.bF.awi ho ex];show gO.mk _ _ _=gO.mk _ _ (y.cr.map _);rw[Ds];rfl
 rw[cQ k8,cond_false];obtain⟨x,m,Ds,ho⟩:=amy k1 k8;have lO:=ai_ Ds ho F5 hmay k1 k8;have Hi:y.p.us=some x.y:=by show y.cr.map _=_;rw[Ds];rfl
 have Q8:=Q8 x.y Hi;unfold Hs at lO;by_cases k2:o.k=2
 ·rw[eC k2,cond_true];rw[if_pos k2]at lO;have hAc:=(hc m ho).1 k2;rw[if_neg (λe=>e hAc)]at lO;refine lI s 1 rfl (lI s 1 rfl ?_);refine amw Ds ho hAc Yi s (λhb w s=>?_) (λhb hw w s=>?_) λhb hw r' y' w er ey s=>?_
  ·rw[if_pos hb]at lO;exact fin lO rfl rfl (q_ (by decide)) rfl rfl s
  ·rw[fS,if_pos hw]at lO;exact fin lO rfl rfl (q_ (by decide)) rfl rfl s
  ·rw[fS,if_neg hw]at lO;exact fin lO er ey e0 rfl rfl s
 rw[cQ k2,cond_false];rw[if_neg k2]at lO;by_cases k3:o.k=3
 ·rw[eC k3,cond_true];rw[if_pos k3]at lO;have hAc:=(hc m ho).2 k3;rw[if_neg (λe=>e hAc)]at lO;refine lI s 1 rfl (lI s 1 rfl ?_);refine aj1 Ds ho Q8 s (λh9 w s=>?_) (λh9 hb w s=>?_) λh9 hz r' y' w er ey s=>?_
  ·rw[if_pos h9]at lO;refine ah (sT s 2 rfl λw s=>?_);exact fin lO rfl rfl (q_ (by decide)) rfl rfl s
  ·rw[if_neg h9,if_pos hb]at lO;refine ah (sT s 2 rfl λw s=>?_);exact fin lO rfl rfl (q_ hb) rfl rfl s
  ·rw[if_neg h9,if_neg (λe=>e hz)]at lO;refine ah (sT s 2 rfl λw s=>?_);exact fin lO er ey e0 rfl rfl s
 rw[cQ k3,cond_false];rw[if_neg k3]at lO;obtain⟨ok,⟨m',ho',hx⟩,so⟩:=vw s Ds;rw[ho]at ho';cases ho';have same:∀{w:World} {L:List As},Sep No W w (fX r.cr x::FN r.p (ae y.most) r.bF.p (.pointer (sZ r.cr.p))::ik r.bF y.bF::L)->Sep No W w (gx r y::L):=λs=>by
  have s:=Ii ok hx Ds ho ⟨rfl,rfl,rfl⟩ rfl s;have e:(⟨y.most,y.bF,some x⟩:xE)=y:=by rw[<-Ds]
  rw[e]at s;exact s
 by_cases k4:o.k=4
 ·rw[eC k4,cond_true];rw[if_pos k4]at lO;have so:=ay so;refine ah (lP so 0 rfl (lI so 3 rfl (lI so 3 rfl ?_)));rw[<-hx.1,<-hx.2.1]at lO;refine SV ara (pk 3 [2,0,1] so) (λhg w s=>?_) (λu hu hg w s=>?_) (λu hu hg hcg cr ws w ec s=>?_) λu hu hg hcg cr ws w ec s=>?_
  ·rw[hg]at lO;exact KK (by decide) (fin lO rfl rfl (q_ (by decide)) rfl rfl (same s))
  ·rw[hu]at lO;simp only at lO;rw[if_pos hg]at lO;exact KK (by decide) (fin lO rfl rfl (q_ (by decide)) rfl rfl (same s))
  ·rw[hu]at lO;simp only at lO;rw[if_neg (λe=>e hg),if_pos hcg]at lO;exact KK (by decide) (fin (r':=⟨r.p,r.bF,cr⟩) lO rfl rfl (q_ (by decide)) rfl rfl (Ii (x':=⟨x.w,x.h,kY x.y o.A,ws⟩) ok hx Ds ho ⟨rfl,rfl,rfl⟩ ec s))
  ·rw[hu]at lO;simp only at lO;rw[if_neg (λe=>e hg),if_neg hcg]at lO;exact KJ (fin (r':=⟨r.p,r.bF,cr⟩) lO rfl rfl e0 rfl rfl (Ii (x':=⟨x.w,x.h,vS x.y o.A λu=>⟨u.id,u.cell,o.B⟩,ws⟩) ok hx Ds ho ⟨rfl,rfl,rfl⟩ ec s))
 rw[cQ k4,cond_false];rw[if_neg k4]at lO;by_cases k5:o.k=5
 ·rw[eC k5,cond_true];rw[if_pos k5]at lO;have so:=ay so;refine ah (lP so 0 rfl (lI so 3 rfl ?_));refine Ux ara (pk 3 [2,0,1] so) (λhg w s=>?_) λu hu cr ws w ec s=>?_
  ·rw[hg]at lO;exact KK (by decide) (fin lO rfl rfl (q_ (by decide)) rfl rfl (same s))
  ·rw[hu]at lO;exact KJ (fin (r':=⟨r.p,r.bF,cr⟩) lO rfl rfl e0 rfl rfl (Ii (x':=⟨x.w,x.h,kY x.y o.A,ws⟩) ok hx Ds ho ⟨rfl,rfl,rfl⟩ ec s))
 rw[cQ k5,cond_false];rw[if_neg k5]at lO;by_cases k6:o.k=6
 ·rw[eC k6,cond_true];rw[if_pos k6]at lO;refine lI s 1 rfl (lI s 1 rfl ?_);have s:=pk 3 [0,2,1] s;refine aj2 hL Ds ho ara.wf s (λhn w s=>?_) λht hcB r' y' w er ey s=>?_
  ·rw[if_neg hn]at lO;exact fin lO rfl rfl (q_ (by decide)) rfl rfl (pk 3 [0,2,1] s)
  ·rw[if_pos ⟨ht,hcB⟩]at lO;exact fin lO er ey e0 rfl rfl (pk 3 [0,2,1] s)
 rw[cQ k6,cond_false];rw[if_neg k6]at lO;have k7:o.k=7:=by omega
 rw[eC k7,cond_true];have s:=pk 3 [0,2,1] s;refine amx hL Ds ho s λr' y' ma mn mc ga gn gc w er ey s=>?_;rw[lO]at h;exact b25 e0 (h r' y' _ ma mn mc ga gn gc w er ey e0 (pk 5 [0,1,2,3] s))
end
def aBK:zc T 34=[ae 0,ae 0,ae 0,ae 0,.slice none 0 0,.slice none 0 0,.int .u64 0,.int .u64 0,.int .u64 0,.int .u64 0,.int .u64 0,.int .u64 0]:=rfl
structure JR (o:k_):Prop where
 jC:ee o.m
 len:o.m.length<=1100000
 load:o.k=1->Eg o.m/\∀mp,kZ o.m=some mp->mp.w*mp.h<=1600
structure amz (q:gO):Prop where
 ep:zO q.bF<1000000000
 nx:∀u,q.us=some u->u.next<1000000000
section
variable {W w w0:World}{L:List As}{lg:xD}{r:Ei}{y:xE}{x:Ho}{m:j8}{ab:Nat}{o:k_}{a:Option Addr}{n c:Nat}
def ajb {Q:Value->World->Prop}(hL:jq W lg)(ho:JR o)(hM:∀w',Sep No W w' L->Sl w' a n c 1 bu o.m)(v7:amz y.p)(s:Sep No W w (gx r y::av ab 34 (Mh 0 5 (-1) none 0 0 none 0 0)::L))(h:DoK lg W r.p ab L Q (gd y.p o)):
  zS (sZ r.p) o.k o.A o.B a n c (sZ ab) w Q:=by
 apply Sk;have hMw:=hM w (ai (ai s));have hn:n<=1100000:=by have:=hMw.len;have:=ho.len;omega
 refine aN s λob w s=>?_;apply lI s 0 rfl;have e5:G0 lg (sX lg.a0) 5:=.inr (.inr ⟨rfl,rfl⟩);have v0:∀{w:World} {L:List As},Sep No W w L->w.cell? (aZ 0)=some (sX lg.a0):=λs=>Fr.cell (au s) hL.v0 id;have amA:∀{w:World} {A B C:As} {L:List As},Sep No W w (A::B::C::L)->Sep No W w (B::C::L):=λs=>ai s;by_cases k0:o.k=0
 ·rw[eC k0,cond_true];have e:gd y.p o=(y.p,pR 5):=by unfold gd;grind
  rw[e]at h;exact mG (v0 s) rfl (acA e5 (WO h rfl rfl e5 rfl rfl (amA s)))
 rw[cQ k0,cond_false];refine lI s 0 rfl (lI s 0 rfl (lI s 0 rfl (lS s 0 rfl ?_)));refine O.ahS s (hM w (ai (ai (ai s)))) ho.jC (by omega) λw s _=>?_;cases hm:EI o with
 |false=>
  have e:gd y.p o=(y.p,pR 5):=by unfold gd;grind
  rw[e]at h;exact mG (v0 s) rfl (acA e5 (WO h rfl rfl e5 rfl rfl (amA s)))
 |true=>
  rw[Bool.not_true,cond_false];have b5:(o.k≠1->o.k≠8->y.cr≠none)->oI Q (sZ r.p) (sZ ab) (aZ ob) w:=λvr=>
   awl hL k0 hm ho.jC (by omega) hM ho.load v7.ep v7.nx vr s h
  cases Ds:y.cr with
  |none=>
   obtain⟨ok,hno,so⟩:=aau (ai s) Ds;refine ah (lP so 0 rfl ?_);show cond true _ _;apply lI s 0 rfl;by_cases k1:o.k=1
   ·grind
   ·rw[Gq k1,cond_true];apply lI s 0 rfl;by_cases k8:o.k=8
    ·grind
    ·rw[Gq k8,cond_true];have e:gd y.p o=(y.p,pR 4):=by
      have e1:y.p.us=none:=by show y.cr.map _=none;rw[Ds];rfl
      unfold gd;grind
     rw[e]at h;exact WO h rfl rfl (q_ (by decide)) rfl rfl (amA s)
  |some x=>
   obtain⟨ok,_,so⟩:=vw (ai s) Ds;refine ah (lP so 0 rfl ?_);show cond false _ _;exact b5 λ_ _ e=>by rw[Ds]at e;cases e
def NY {Q:Int->Int->Int->Int->Int->Int->World->Prop}(s:Sep No W w (gx r y::L))(h:∀w',Sep No W w' (gx r y::L)->Q (mU y.p.bF).a (mU y.p.bF).b (mU y.p.bF).c (mU y.p.bF).d (mU y.p.bF).e (mU y.p.bF).f w'):qk (sZ r.p) w Q:=by apply Mt;refine aS s λp w s=>?_;obtain⟨ok,so⟩:=Ih (ai s);apply Fu;refine ld (ah (lP so 0 rfl ?_));obtain⟨_,so⟩:=Ih (iZ s);have so:=iZ so;refine acg so λw s=>?_;have s:=iZ s;have s:Sep No W w (gx r y::av p 32 _::L):=dA s ok;rw[y.bF.all_eq];exact aiB (iZ s) λw s=>h w (ai s)
def agt {Q:Int->Int->Option Addr->Nat->Nat->World->Prop}(ho:y.bF.o=some m)(s:Sep No W w (gx r y::L))(h:∀ra rn rc w',Sep No W w' (ak ra rn rc 5 1 (flat bu m.g.m.cs)::gx r y::L)->Fr No w w'->Q m.g.m.w m.g.m.h ra rn rc w'):rX (sZ r.p) w Q:=by apply Qz;refine aS (bh (F:=No)) λp w1 s1=>?_;obtain⟨ok,so⟩:=Ih s;have kn:=(q8 (ai so) ho);have c1:=Fr.cell (au s1) (cK so (a:=(aZ r.p).add 1) (i:=0) rfl rfl rfl) id;apply Fu;refine ld (ah (dO c1 ?_));have kn1:aac w1 r.bF y.bF m:=⟨kn.ok,kn.o,kn.cell.fr (au s1),kn.g.fr (au s1)⟩;refine agr s1 kn1 λra rn rc w1 s1 _=>?_;refine aar (iZ s1) λw1 s1=>?_;exact h ra rn rc w1 (fy s s1) (au s1)
def N0 {Q:Option Addr->Nat->Nat->World->Prop}(vr:y.cr=some x)(s:Sep No W w (gx r y::L))(h:∀a n c w',Sep No W w' (ak a n c 43 3 (flat iC x.y.us)::gx r y::L)->Q a n c w'):mW (sZ r.p) w Q:=by
 apply Dn;obtain⟨ok,⟨m,ho,hx⟩,so⟩:=vw s vr;apply FB;refine ld (ah (lP so 0 rfl ?_));refine DS (pk 3 [2,0,1] so) λa n c w s=>?_;have s:=zP (pk 4 [2,3,1,0] s) ok.most ho hx;have e:(⟨y.most,y.bF,some x⟩:xE)=y:=by rw[<-vr]
 rw[e]at s;exact h a n c w (iZ s)
end
abbrev WQ (code d dir id:Int)(ma:Option Addr)(mn mc:Nat)(ga:Option Addr)(gn gc:Nat)(q:Dr):List Value:=[ae code,ae d,ae dir,ae id,.slice ma mn mc,.slice ga gn gc]++aec q
section
variable {W w w0:World}{L:List As}{lg:xD}{r:Ei}{y:xE}{x:Ho}{m:j8}{ab pb:Nat}{o:k_}{a:Option Addr}{n c:Nat}
def awn {Q:Int->Int->Int->Int->Option Addr->Nat->Nat->Option Addr->Nat->Nat->Int->Int->Int->Int->Int->Int->World->Prop}{code d dir id:Int}{ma ga:Option Addr}{mn mc gn gc:Nat}
  (s:Sep No W w (gx r y::av ab 34 (WQ code d dir id ma mn mc ga gn gc ⟨0,0,0,0,0,0⟩)::av pb 34 (WQ 0 0 0 0 none 0 0 none 0 0 ⟨0,0,0,0,0,0⟩)::L))
  (h:∀w',Sep No W w' (gx r y::L)->Q code d dir id ma mn mc ga gn gc (mU y.p.bF).a (mU y.p.bF).b (mU y.p.bF).c (mU y.p.bF).d (mU y.p.bF).e (mU y.p.bF).f w'):
  oJ Q (sZ r.p) (aZ pb) (aZ ab) w:=by
 refine NY s λw s=>?_;generalize mU y.p.bF=q at h⊢
 iterate 6 refine sT s 1 rfl λw s=>?_
 simp[List.set_cons_zero,List.set_cons_succ,WQ,aec,List.cons_append,List.nil_append]at s;refine lI s 1 rfl (lI s 1 rfl (lI s 1 rfl (lI s 1 rfl (lS s 1 rfl (lS s 1 rfl ?_)))));refine lI s 1 rfl (lI s 1 rfl (lI s 1 rfl (lI s 1 rfl (lI s 1 rfl (lI s 1 rfl ?_)))))
 iterate 12 refine ax s (i:=2) rfl rfl rfl λw s=>?_
 simp[List.set_cons_zero,List.set_cons_succ]at s;refine lI s 2 rfl (lI s 2 rfl (lI s 2 rfl (lI s 2 rfl (lS s 2 rfl (lS s 2 rfl ?_)))));refine lI s 2 rfl (lI s 2 rfl (lI s 2 rfl (lI s 2 rfl (lI s 2 rfl (lI s 2 rfl ?_)))));exact h w (gF s (.cons_cons _ (.cons _ (.cons _ (List.Sublist.refl _)))))
def ajc {Q:Int->Int->Int->Int->Option Addr->Nat->Nat->Option Addr->Nat->Nat->Int->Int->Int->Int->Int->Int->World->Prop}(hL:jq W lg)(ho:JR o)(hM:∀w',Sep No W w' L->Sl w' a n c 1 bu o.m)(v7:amz y.p)(s:Sep No W w (gx r y::L))
  (h:∀r' y' ma mn mc ga gn gc w',r'.p=r.p->y'.p=(gd y.p o).1->Sep No W w' (ak ma mn mc 51 2 (flat lN (gd y.p o).2.GY)::ak ga gn gc 3 1 (flat one (gd y.p o).2.gone)::gx r' y'::L)->
   Q (gd y.p o).2.code (gd y.p o).2.d (gd y.p o).2.dir (gd y.p o).2.id ma mn mc ga gn gc (mU y'.p.bF).a (mU y'.p.bF).b (mU y'.p.bF).c (mU y'.p.bF).d (mU y'.p.bF).e (mU y'.p.bF).f w'):
  jg (sZ r.p) o.k o.A o.B a n c w Q:=by
 apply Sm;refine aN s λob w s=>?_;refine aS s λpb w s=>?_;refine aS s λab w s=>?_
 iterate 12 refine ax s (i:=0) rfl rfl rfl λw s=>?_
 apply ld;refine ax s (i:=0) rfl rfl rfl λw s=>?_;simp[List.set_cons_zero,List.set_cons_succ]at s;refine lI s 2 rfl (lI s 2 rfl (lI s 2 rfl (lS s 2 rfl ?_)));have s:=pk 4 [3,0,1,2] s;refine ajb hL ho (λw' s'=>hM w' (ai (ai s'))) v7 s λr' y' e ma mn mc ga gn gc w er ey he s=>?_;rw[<-er];have asb:∀{w:World} {cd:Int},cd=(gd y.p o).2.code->Sep No W w (ak ma mn mc 51 2 (flat lN (gd y.p o).2.GY)::ak ga gn gc 3 1 (flat one (gd y.p o).2.gone)::gx r' y'::av ab 34 (WQ cd (gd y.p o).2.d (gd y.p o).2.dir (gd y.p o).2.id ma mn mc ga gn gc ⟨0,0,0,0,0,0⟩)::av pb 34 (WQ 0 0 0 0 none 0 0 none 0 0 ⟨0,0,0,0,0,0⟩)::L)->
   oJ Q (sZ r'.p) (aZ pb) (aZ ab) w:=λ{w cd} ec s=>by
  subst ec;have s:=pk 5 [2,3,4,0,1] s;refine awn s λw s=>?_;exact h r' y' ma mn mc ga gn gc w er ey (pk 3 [1,2,0] s)
 have tell:∀{e:Value},G0 lg e (gd y.p o).2.code->(gd y.p o).2.code≠0->∀{w:World},Sep No W w (ak ma mn mc 51 2 (flat lN (gd y.p o).2.GY)::ak ga gn gc 3 1 (flat one (gd y.p o).2.gone)::gx r' y'::av ab 34 (Mh (gd y.p o).2.d (gd y.p o).2.dir (gd y.p o).2.id ma mn mc ga gn gc)::av pb 34 (WQ 0 0 0 0 none 0 0 none 0 0 ⟨0,0,0,0,0,0⟩)::av ob 38 [ae o.k,ae o.A,ae o.B,.slice a n c]::L)->
   af .i64 (aZ ob) w λk=>dV e λp=>Bx [ae k,p] 80 w λb w=>CH (.iface 78 (.pointer (some b))) w λr w=>St (aZ ab) (ae r) w λw=>oJ Q (sZ r'.p) (aZ pb) (aZ ab) w:=λ{e} he hne {w} s=>by
  refine lI s 5 rfl (acA he ?_);refine aN s λb w s=>?_;refine amu hL he hne s λw s=>?_;refine ax s (i:=4) rfl rfl rfl λw s=>?_;exact asb rfl (pk 7 [1,2,3,4,5] s)
 rcases he with⟨h0,rfl⟩|⟨hne,rfl⟩|⟨h5,rfl⟩
 ·apply Me;exact asb h0.symm (pk 6 [0,1,2,3,4] s)
 ·exact Q_ (tell (.inr (.inl ⟨hne,rfl⟩)) hne s)
 ·exact Q_ (tell (.inr (.inr ⟨h5,rfl⟩)) (by rw[h5];decide) s)
end
end Go.Proofs.YtmegplnmiepfbaaGreatDoor.S
namespace Go.Proofs.YtmegplnmiepfbaaGreatDoor.S.O
open Go.Sx
def Ra {w:World}{x:Int}{Q:Int->World->Prop}(hx:0<=x/\x<256)(h:Q (Kb x) w):qm x w Q:=by
 apply MS;unfold Kb at h;refine⟨by decide,?_⟩;rw[Int.tmod_eq_emod_of_nonneg hx.1];by_cases h7:x%8=7
 ·grind
 ·rw[show(x%8==7)=false by grind,cond_false];rw[if_neg h7]at h;by_cases h1:x<160
  ·rw[bN h1];rw[if_pos h1]at h;refine⟨by decide,?_⟩;rw[Int.tmod_eq_emod_of_nonneg hx.1,wrap_u8 (by omega) (by omega)];exact h
  grind
def agJ:zc T 25=[ae 0,ae 0,.slice none 0 0]:=rfl
def acB:zc T 84=[ae 0,ae 0,.slice none 0 0]:=rfl
def amB:zc T 38=[ae 0,ae 0,ae 0,.slice none 0 0]:=rfl
def agK:zc T 90=[ae 0,ae 0,ae 0]:=rfl
attribute [local irreducible] af cA bw bg aA cq bY St Bx Al App cD cy cw bT aL bC aq bR av ak aV mapA
def ak0 (a b:Int):Dt a b=min a b:=by unfold Dt;omega
section
variable {F:Nat->Prop}{W w w0:World}{L:List As}{a:Option Addr}{n c:Nat}{cs:List Int}
def amC {mw mh:Int}{Q:Bool->World->Prop}(hw:1<=mw/\mw<=1024)(hh:1<=mh/\mh<=1024)(h:Q true w):ri mw mh w Q:=by apply D7;apply zq;rw[bN hw];apply zq;grind
def Ij {mw mh:Int}{Q:Int->Int->World->Prop}(hw:1<=mw/\mw<=1024)(hh:1<=mh/\mh<=1024)(h:Q (cE mw) (cE mh) w):kM mw mh w Q:=by apply AN;apply amC hw hh;refine⟨by decide,by decide,?_⟩;simp(disch:=omega) only[wrap_i64,Int.tdiv_eq_ediv_of_nonneg];rw[show mw+16-1=mw+15 by omega,show mh+16-1=mh+15 by omega];exact h
def Mi {mw mh:Int}{Q:Int->World->Prop}(hw:1<=mw/\mw<=1024)(hh:1<=mh/\mh<=1024)(h:Q (dy mw mh) w):jI mw mh w Q:=by apply Ce;apply Ij hw hh;have:=e_ hw hh;unfold dy at this h;rw[aG];exact h
def YB {mw mh s:Int}{Q:Int->Int->World->Prop}(hw:1<=mw/\mw<=1024)(hh:1<=mh/\mh<=1024)(hs:0<=s/\s<dy mw mh)(h:∀w',Fr No w w'->Q (aD mw mh s) (bz mw mh s) w'):qo mw mh s w Q:=by apply MN;have hc:=e_ hw hh;have hx:=IN hw hh hs;have ha:=Fg hw;apply Mi hw hh;rw[aG];apply zq;rw[decide_eq_true (by omega),Bool.not_true,cond_false];apply Ij hw hh;refine⟨by omega,by omega,?_⟩;have:=h w.drew (Fr.refl);rw[Int.tmod_eq_emod_of_nonneg hs.1,Int.tdiv_eq_ediv_of_nonneg hs.1];simp(disch:=omega) only[wrap_i64];rw[ak0,ak0];exact this
def agu {mw mh s l:Int}{Q:Int->World->Prop}(hw:1<=mw/\mw<=1024)(hh:1<=mh/\mh<=1024)(hs:0<=s/\s<dy mw mh)(hl:0<=l/\l<aD mw mh s*bz mw mh s)(h:∀w',Fr No w w'->Q (bU mw mh s l) w'):
  tR mw mh s l w Q:=by
 apply Km;have hx:=IN hw hh hs;have ha:=Fg hw;have hz:=qN hw hh hs;have b:=Int.mul_le_mul hz.1.2 hz.2.2 (by omega) (by decide);refine YB hw hh hs λw f=>?_;rw[aG (n:=aD mw mh s*bz mw mh s),aG];apply zq;rw[decide_eq_true (by omega),Bool.not_true,cond_false];apply Ij hw hh;refine⟨by omega,by omega,by omega,by omega,?_⟩;have:=h w.drew f;have e1:0<=l/aD mw mh s/\l/aD mw mh s<bz mw mh s:=⟨Int.ediv_nonneg hl.1 (by omega),Int.ediv_lt_of_lt_mul (by omega) (by grind)⟩;have e2:=Int.emod_nonneg l (b:=aD mw mh s) (by omega);have e3:=Int.emod_lt_of_pos l (b:=aD mw mh s) (by omega);rw[Int.tmod_eq_emod_of_nonneg hs.1,Int.tdiv_eq_ediv_of_nonneg hs.1,Int.tmod_eq_emod_of_nonneg hl.1,Int.tdiv_eq_ediv_of_nonneg hl.1];have y0:0<=16*(s/cE mw)+l/aD mw mh s/\16*(s/cE mw)+l/aD mw mh s<=1040:=by omega
 have m1:0<=(16*(s/cE mw)+l/aD mw mh s)*mw:=Int.mul_nonneg y0.1 (by omega);have m2:=Int.mul_le_mul y0.2 hw.2 (by omega) (by decide);simp(disch:=omega) only[wrap_i64];exact this
def amD {mw mh:Int}{t6 t:Nat}{Q:Int->Int->Option Addr->Nat->Nat->World->Prop}(hA:Sl w0 a n c 1 bu cs)(hcs:ee cs)(hn:n<9223372036854775808)(hw:1<=mw/\mw<=40)(hh:1<=mh/\mh<=40)
  (h:∀ra rn rc w',Sep No w0 w' [ak ra rn rc 5 1 (flat bu (M7 (mw*mh).toNat cs))]->Q mw mh ra rn rc w'):
  ∀(m i rc:Nat) (ra:Option Addr) (w:World),((i+m:Nat):Int)=mw*mh->
   Sep No w0 w [av t 25 [ae mw,ae mh,.slice ra i rc],ak ra i rc 5 1 (flat bu (M7 i cs)),av t6 25 [ae 0,ae 0,.slice none 0 0]]->jS Q (m+1) a n c (aZ t6) (aZ t) i w:=by
 have q2:=Int.mul_le_mul hw.2 hh.2 (by omega) (by decide);have hlen:=hA.len;intro m;induction m with
 |zero=>
  intro i rc ra w hi s;show zp Q (jS Q 0) _ _ _ _ _ _ _;apply dw s (i:=0) rfl rfl rfl;apply dw s (i:=0) rfl rfl rfl;rw[aG,bp];apply dw s (i:=0) rfl rfl rfl;apply dw s (i:=0) rfl rfl rfl;apply gX s (i:=0) rfl rfl rfl;refine sT s 2 rfl λw1 s=>?_;refine sT s 2 rfl λw2 s=>?_;refine ax s (i:=2) rfl rfl rfl λw3 s=>?_;apply dw s (i:=2) rfl rfl rfl;apply dw s (i:=2) rfl rfl rfl;apply gX s (i:=2) rfl rfl rfl;have e:i=(mw*mh).toNat:=by omega
  rw[e]at s⊢;exact h _ _ _ w3 (gF s (.cons _ (.cons_cons _ (.cons _ .slnil))))
 |succ m ih=>
  intro i rc ra w hi s;show zp Q (jS Q (m+1)) _ _ _ _ _ _ _;apply dw s (i:=0) rfl rfl rfl;apply dw s (i:=0) rfl rfl rfl;rw[aG,bN];have b9:∀x:Int,0<=x/\x<256->Kb x=F0 cs i->sE (jS Q (m+1)) Q a n c (aZ t6) (aZ t) i x w:=by
   intro x hx hm;have s0:Sep No w0 w.drew _:=s;apply gX s0 (i:=0) rfl rfl rfl;apply Ra hx;rw[hm];refine⟨cK s0 (i:=0) rfl rfl rfl,?_⟩;refine aN s0 λb w1 s1=>?_;refine⟨cK s1 (i:=1) rfl rfl rfl,?_⟩;have src:Src w1 (sZ b) 1 1 [.int .u8 (F0 cs i)]:=⟨rfl,(λu hu=>by rw[List.mem_singleton.1 hu];rfl),λj u hj=>by rw[cm,Nat.zero_add];exact cK s1 (i:=0) rfl rfl hj⟩;refine iw ef s1 (i:=2) (bytes:=1) rfl rfl rfl rfl rfl rfl (by decide) rfl src (by simp[maxLen];omega) (by omega) (λe=>by cases e) λa1 c1 w2 s2=>?_;have e:flat bu (M7 i cs)++[.int .u8 (F0 cs i)]=flat bu (M7 (i+1) cs):=by unfold M7;rw[List.range_succ,List.map_append,fZ];rfl
   have s2:=ai s2;refine ax s2 (i:=0) rfl rfl rfl λw3 s3=>?_;rw[aG];grind
  by_cases O0:0<n
  ·rw[bN];refine⟨by omega,by omega,?_⟩;have d1:0<=(i:Int)/(n:Int):=Int.ediv_nonneg (by omega) (by omega);have d2:(i:Int)/(n:Int)<=i:=Int.ediv_le_self _ (by omega);rw[Int.tdiv_eq_ediv_of_nonneg (by omega),aG (n:=(i:Int)/(n:Int)),aG (n:=(i:Int)/(n:Int)*5),aG,Int.tmod_eq_emod_of_nonneg (by omega)];have ej:((i:Int)+(i:Int)/(n:Int)*5)%(n:Int)=(((i+i/n*5)%n:Nat):Int):=by grind
   rw[ej];have hj:(i+i/n*5)%n<n:=Nat.mod_lt _ O0;apply Sl.Db (hA.fr (au s)) rfl hj;apply b9 _ (hcs _ (fE (by omega)));unfold F0;grind
  ·rw[bp];apply b9 1 (by decide);unfold F0;grind
def YC {w1 h1:Int}{Q:Int->Int->Option Addr->Nat->Nat->World->Prop}(s:Sep F W w0 L)(hA:Sl w0 a n c 1 bu cs)(hcs:ee cs)(hn:n<9223372036854775808)
  (h:∀ra rn rc w',Sep F W w' (ak ra rn rc 5 1 (flat bu (vz w1 h1 cs).cs)::L)->Fr No w0 w'->Q (vz w1 h1 cs).w (vz w1 h1 cs).h ra rn rc w'):ql w1 h1 a n c w0 Q:=by
 apply MT;refine aS (F:=No) bh λt6 w1' s1=>?_;apply cF (by decide) (by decide) (by decide);have r1:=j9 (n:=w1) (lo:=1) (hi:=40) (by decide);apply cF (by decide) (by decide) (by decide);have r2:=j9 (n:=h1) (lo:=1) (hi:=40) (by decide);refine aS s1 λt w2 s2=>?_;refine sT s2 0 rfl λw3 s=>?_;refine sT s 0 rfl λw4 s=>?_;refine ax s (i:=0) rfl rfl rfl λw5 s5=>?_;have s6:=cg (bD s5 5 1) (List.Perm.swap ..);have q1:=Int.mul_le_mul r1.1 r2.1 (by decide) (by omega);refine⟨(gg w1 1 40*gg h1 1 40).toNat+1,amD hA hcs hn r1 r2 (λra rn rc w' s'=>?_) _ 0 0 none w5 (by omega) s6⟩;exact h ra rn rc w' (dD ‹Sep F W w0 L› s' (i:=0) rfl) (au s')
def agv {m:bJ}{si:Nat}{Q:Int->Int->Option Addr->Nat->Nat->World->Prop}(s0:Sep F W w0 L)(hA:Sl w0 a n c 1 bu m.cs)(hm:cR m)(hs:(si:Int)<dy m.w m.h)
  (h:∀ra rn rc w',Sep F W w' (ak ra rn rc 5 1 (flat bu (qj m si))::L)->Fr No w0 w'->Q (aD m.w m.h si) (bz m.w m.h si) ra rn rc w'):tO m.w m.h a n c si w0 Q:=by
 apply Kn;have Tm:0<=(si:Int)/\(si:Int)<dy m.w m.h:=⟨by omega,hs⟩;have hz:=qN hm.w hm.h Tm;have b1:=Int.mul_le_mul hz.1.1 hz.2.1 (by decide) (by omega);have b2:=Int.mul_le_mul hz.1.2 hz.2.2 (by omega) (by decide);have hlen:=hA.len;have hml:=hm.len;have s:=bh (F:=No) (w:=w0);refine aN s λmb w s=>?_;refine aS s λp4 w s=>?_;apply lI s 1 rfl;apply lI s 1 rfl;refine YB hm.w hm.h Tm λw f=>?_;have s:=bV s f;refine aS s λt w s=>?_;refine sT s 0 rfl λw s=>?_;refine sT s 0 rfl λw s=>?_;refine ax s (i:=0) rfl rfl rfl λw s=>?_;have loop:∀(k i rc:Nat) (ra:Option Addr) (w:World),((i+k:Nat):Int)=aD m.w m.h si*bz m.w m.h si->
   Sep No w0 w [ak ra i rc 5 1 (flat bu ((List.range i).map λl:Nat=>gi m.cs (bU m.w m.h si l).toNat)),av t 84 [ae (aD m.w m.h si),ae (bz m.w m.h si),.slice ra i rc],av p4 84 [ae 0,ae 0,.slice none 0 0],av mb 25 [ae m.w,ae m.h,.slice a n c]]->
   ko Q (k+1) si (aZ mb) (aZ p4) (aD m.w m.h si) (bz m.w m.h si) (aZ t) i w:=by
  intro k;induction k with
  |zero=>
   intro i rc ra w hi s;show m7 Q (ko Q 0) _ _ _ _ _ _ _ _;rw[m7,aG,bp];apply lI s 1 rfl;apply lI s 1 rfl;apply lS s 1 rfl
   (refine ax s (i:=2) rfl rfl rfl λw s=>?_)
   (refine ax s (i:=2) rfl rfl rfl λw s=>?_)
   (refine ax s (i:=2) rfl rfl rfl λw s=>?_)
   apply lI s 2 rfl;apply lI s 2 rfl;apply lS s 2 rfl;have e:i=(aD m.w m.h si*bz m.w m.h si).toNat:=by omega
   have e2:((List.range i).map λl:Nat=>gi m.cs (bU m.w m.h si l).toNat)=qj m si:=by unfold qj;rw[e]
   rw[e2]at s;exact h _ _ _ _ (dD s0 s (i:=0) rfl) (au s)
  |succ k ih=>
   intro i rc ra w hi s;show m7 Q (ko Q (k+1)) _ _ _ _ _ _ _ _;rw[m7,aG,bN];have s:=ay s;have hl:0<=(i:Int)/\(i:Int)<aD m.w m.h si*bz m.w m.h si:=by omega
   have hg:=F1 hm.w hm.h Tm hl;apply lS s 1 rfl;apply lS s 3 rfl;apply lI s 3 rfl;apply lI s 3 rfl;refine agu hm.w hm.h Tm hl λw f=>?_;have s:=bV s f;apply And.intro (cj s 3 rfl);apply And.intro (cj s 1 rfl);obtain⟨g,hgk⟩:∃g:Nat,bU m.w m.h si i=g:=⟨(bU m.w m.h si i).toNat,by omega⟩;have heq:gi m.cs g=gi m.cs (bU m.w m.h si i).toNat:=by rw[hgk,Int.toNat_natCast]
   rw[hgk];apply Sl.Db (hA.fr (au s)) rfl (by omega);refine aN s λb w1 s1=>?_;refine⟨cj s1 2 rfl,?_⟩;have src:Src w1 (sZ b) 1 1 [.int .u8 (gi m.cs g)]:=⟨rfl,(λu hu=>by rw[List.mem_singleton.1 hu];rfl),λj u hj=>by rw[cm,Nat.zero_add];exact cK s1 (i:=0) rfl rfl hj⟩;refine iw ef s1 (i:=1) (bytes:=1) rfl rfl rfl rfl rfl rfl (by decide) rfl src (by simp[maxLen];omega) (by omega) (λe=>by cases e) λa1 c1 w2 s2=>?_;have e:flat bu ((List.range i).map λl:Nat=>gi m.cs (bU m.w m.h si l).toNat)++[.int .u8 (gi m.cs g)]=flat bu ((List.range (i+1)).map λl:Nat=>gi m.cs (bU m.w m.h si l).toNat):=by rw[heq,List.range_succ,List.map_append,fZ];rfl
   rw[e]at s2;refine ax (ai s2) (i:=1) rfl rfl rfl λw3 s3=>?_;rw[aG];exact ih (i+1) c1 a1 w3 (by omega) s3
 exact⟨(aD m.w m.h si*bz m.w m.h si).toNat+1,loop _ 0 0 none w (by omega) (bD s 5 1)⟩
def aj3 {Q:Option Addr->Nat->Nat->World->Prop}(s0:Sep F W w0 L)(hA:Sl w0 a n c 1 bu cs)(hcs:ee cs)(hn:n<=100000)
  (h:∀ra rn rc w',Sep F W w' (ak ra rn rc 5 1 (flat bu (tL cs))::L)->Fr No w0 w'->Q ra rn rc w'):wk a n c w0 Q:=by
 apply MM;have hlen:=hA.len;refine aN (bh (F:=No)) λb w s=>?_;have s:=arF s;have inner:∀(P3:Option Addr->Nat->Nat->Option Addr->Nat->Nat->Int->World->Prop) (x:Int) (i:Nat) (oa:Option Addr) (on oc:Nat) (out:List Int),cs[i]? =some x->on<=1000000->
   (∀a' c' w',Sep No w0 w' [ak a' (on+2) c' 5 1 (flat bu (out++[((lead x (cs.drop (i+1)):Nat):Int)%256,x]))]->P3 a n c a' (on+2) c' ((i+1+lead x (cs.drop (i+1)):Nat):Int) w')->
   ∀(k r:Nat) (w:World),i+1+r+k=n->lead x (cs.drop (i+1))=r+lead x (cs.drop (i+1+r))->Sep No w0 w [ak oa on oc 5 1 (flat bu out)]->l6 P3 Q (k+1) a n c oa on oc i ((r+1:Nat):Int) w:=by
  intro P3 x i oa on oc out hx Ch next
  have hix:i<n:=by grind
  have hgx:gi cs i=x:=by rw[iD (by omega)]at hx;grind
  have over:∀(r:Nat) (w:World),i+1+r<=n->lead x (cs.drop (i+1))=r->Sep No w0 w [ak oa on oc 5 1 (flat bu out)]->sD P3 Q a n c oa on oc i ((r+1:Nat):Int) w:=by
   intro r w hr hl s;apply Sl.Db (hA.fr (au s)) rfl hix;rw[hgx,aG,aG,wrap_u8'];refine aN s λb w s=>?_;have e0:((r+1:Nat):Int)-1=(r:Int):=by omega
   rw[e0]at s;have src:Src w (sZ b) 2 1 [.int .u8 ((r:Int)%256),.int .u8 x]:=⟨rfl,(λu hu=>by simp[List.mem_cons,List.not_mem_nil,or_false]at hu;rcases hu with rfl|rfl<;>rfl),λj u hj=>by rw[cm,Nat.zero_add];exact cK s (i:=0) rfl rfl hj⟩;refine iw ef s (i:=1) (bytes:=1) rfl rfl rfl rfl rfl rfl (by decide) rfl src (by simp[maxLen];omega) (by omega) (λe=>by cases e) λa1 c1 w1 s1=>?_;have e:flat bu out++[.int .u8 ((r:Int)%256),.int .u8 x]=flat bu (out++[(r:Int)%256,x]):=by rw[fZ];rfl
   rw[e]at s1;rw[hl]at next
   have:=next a1 c1 w1 (ai s1)
   grind
  intro k;induction k with
  |zero=>
   intro r w hr hl s;show oK P3 Q (l6 P3 Q 0) _ _ _ _ _ _ _ _ _;rw[oK,aG,bp];have e:cs.drop (i+1+r)=[]:=List.drop_eq_nil_of_le (by omega);rw[e]at hl
   first|exact over r w (by omega) hl s|exact over r _ (by omega) hl (ay s)
  |succ k ih=>
   intro r w hr hl s;show oK P3 Q (l6 P3 Q (k+1)) _ _ _ _ _ _ _ _ _;unfold oK;have ei:(i:Int)+((r+1:Nat):Int)=((i+1+r:Nat):Int):=by push_cast;omega
   rw[aG,bN,ei];have s:=ay s;have hB:=hA.fr (au s);apply Sl.Db hB rfl (by omega);apply Sl.Db hB rfl hix;have hd:cs.drop (i+1+r)=gi cs (i+1+r)::cs.drop (i+1+r+1):=by rw[List.drop_eq_getElem_cons (by omega)];congr 1;have:=iD (l:=cs) (i:=i+1+r) (by omega);rw[List.getElem?_eq_getElem (by omega)]at this;exact Option.some.inj this
   rw[hd,lead]at hl;rw[hgx];by_cases he:gi cs (i+1+r)=x
   ·rw[show(gi cs (i+1+r)==x)=true by rw[beq_iff_eq];exact he,cond_true,aG];rw[if_pos he]at hl;have:=ih (r+1) w.drew (by omega) (by rw[show i+1+(r+1)=i+1+r+1 by omega];omega) s;exact this
   ·rw[show(gi cs (i+1+r)==x)=false by rw[beq_eq_false_iff_ne];exact he,cond_false];rw[if_neg he]at hl;exact over r _ (by omega) hl s
 have outer:∀(k i:Nat) (oa:Option Addr) (on oc:Nat) (out:List Int) (w:World),n-i<=k->i<=n->on<=1+2*i->out++lF (n-i) (cs.drop i)=tL cs->Sep No w0 w [ak oa on oc 5 1 (flat bu out)]->oM Q (k+1) a n c oa on oc i w:=by
  have stop:∀R (oa:Option Addr) (on oc:Nat) (out:List Int) (w:World),out++lF (n-n) (cs.drop n)=tL cs->Sep No w0 w [ak oa on oc 5 1 (flat bu out)]->oL Q R a n c oa on oc n w:=by intro R oa on oc out w he s;rw[oL,bp];rw[List.drop_eq_nil_of_le (by omega),Nat.sub_self,lF,List.append_nil]at he;rw[he]at s;exact h _ _ _ _ (dD s0 s (i:=0) rfl) (au s)
  intro k;induction k with
  |zero=>
   intro i oa on oc out w hk hi Ch he s;obtain rfl:i=n:=by omega
   exact stop _ _ _ _ _ _ he s
  |succ k ih=>
   intro i oa on oc out w hk hi Ch he s;by_cases hin:i=n
   ·subst hin;exact stop _ _ _ _ _ _ he s
   ·show oL Q (oM Q (k+1)) _ _ _ _ _ _ _ _;rw[oL,bN];have hx:cs[i]? =some (gi cs i):=iD (by omega);have hd:cs.drop i=gi cs i::cs.drop (i+1):=by obtain⟨h1,h2⟩:=List.getElem?_eq_some_iff.1 hx;rw[List.drop_eq_getElem_cons h1,h2]
    have Ny:=O5 (gi cs i) (cs.drop (i+1));rw[List.length_drop]at Ny;refine⟨n-(i+1)+1,inner _ (gi cs i) i oa on oc out hx (by omega) (λa' c' w' s'=>?_) (n-(i+1)) 0 w (by omega) (by rw[Nat.zero_add]) s⟩;refine ih (i+1+lead (gi cs i) (cs.drop (i+1))) a' (on+2) c' _ w' (by omega) (by omega) (by omega) ?_ s';rw[<-he,hd,show n-i=(n-(i+1))+1 by omega,lF,List.append_assoc,List.drop_drop];congr 1;show _::_::_=_::_::_;congr 2;exact ahn _ _ _ (by rw[List.length_drop];omega) (by rw[List.length_drop];omega)
 exact⟨n+1,outer n 0 _ 1 1 [2] w (by omega) (by omega) (by omega) (by rw[List.drop_zero,Nat.sub_zero,<-hlen];rfl) s⟩
end
end Go.Proofs.YtmegplnmiepfbaaGreatDoor.S.O
namespace Go.Proofs.YtmegplnmiepfbaaGreatDoor.S.O
open Go.Sx
attribute [local irreducible] af cA bw bg aA cq bY St Bx Al App cD cy cw bT aL bC aq bR av ak aV mapA
section
variable {F:Nat->Prop}{W w w0:World}{L:List As}{a:Option Addr}{n c:Nat}{cs:List Int}
def aep {tw th:Int}{Q:Int->Option Addr->Nat->Nat->World->Prop}(s0:Sep F W w0 L)(hA:Sl w0 a n c 1 bu cs)(hcs:ee cs)(hn:1<=n/\n<=100000)
  (h:∀ra rn rc w',Sep F W w' (ak ra rn rc 5 1 (flat bu (tM cs).2)::L)->Fr No w0 w'->Q (tM cs).1 ra rn rc w'):sP tw th a n c w0 Q:=by
 apply JJ;have hlen:=hA.len;refine aN (bh (F:=No)) λtb w s=>?_;apply lS s 0 rfl;refine aj3 s (hA.fr (au s)) hcs hn.2 λra rn rc w s _=>?_;have hr:=aO s (i:=0) rfl dJ (by decide);have hrl:=hr.len;unfold tM at h;by_cases h3:(tL cs).length=3
 ·rw[show((rn:Int)==3)=true by grind,cond_true];rw[if_pos h3]at h;have s:=ay s;apply lS s 1 rfl;obtain⟨ad,rfl,hv⟩:=hA.row.2 0 _ (iD (by omega));have hv:=hv 0 _ rfl;refine⟨by decide,by omega,ah ?_⟩;apply aR (Fr.cell (au s) hv id);have fin:∀(b:Nat) (w':World) (L':List As),Sep No w0 w' (av b 5 [.int .u8 0,.int .u8 (gi cs 0)]::L')->Q 0 (sZ b) 2 2 w':=λb w' L' s=>by have s:=g9 (n:=2) (size:=1) s (i:=0) rfl rfl (by decide) (by simp;exact⟨rfl,rfl⟩);have s:=s;exact h _ _ _ _ (dD s0 s (i:=0) rfl) (au s)
  constructor
  ·refine aN s λb w s=>?_;exact⟨Fr.cell (au s) hv id,cj s 2 rfl,fin _ _ _ s⟩
  ·refine⟨Fr.cell (au s) hv id,cj s 1 rfl,?_⟩;refine aN s λb w s=>?_;grind
 ·rw[show((rn:Int)==3)=false by grind,cond_false];rw[if_neg h3]at h;apply lS s 1 rfl;rw[aG];by_cases h4:(tL cs).length<1+cs.length
  ·rw[bN];rw[if_pos h4]at h;exact h _ _ _ _ (dD s0 s (i:=0) rfl) (au s)
  ·rw[bp];rw[if_neg h4]at h;refine aN s λb w s=>?_;have s:=arF s;apply lS s 2 rfl;refine alr s (hA.fr (au s)) (by omega) λra rc w s=>?_;exact h _ _ _ _ (dD s0 s (i:=0) rfl) (au s)
def JS {m:bJ}{Q:Option Addr->Nat->Nat->World->Prop}(s0:Sep F W w0 L)(hA:Sl w0 a n c 1 bu m.cs)(hm:cR m)
  (h:∀ra rn rc w',Sep F W w' (ak ra rn rc 5 1 (flat bu (yE m))::L)->Fr No w0 w'->Q ra rn rc w'):lG m.w m.h a n c w0 Q:=by
 apply Ko;have hc:=e_ hm.w hm.h;refine aN (bh (F:=No)) λmb w s=>?_;apply lI s 0 rfl;apply lI s 0 rfl;refine⟨by decide,?_⟩;apply lI s 0 rfl;apply lI s 0 rfl;refine⟨by decide,?_⟩;have e8:∀v:Int,o6 .i64 v 8=v/256:=λv=>by rw[o6,show min (8:Int).toNat (IntKind.i64).bits=8 by decide,Int.fdiv_eq_ediv_of_nonneg _ (by decide)];rfl
 rw[e8,e8,wrap_u8',wrap_u8',wrap_u8',wrap_u8'];refine aN s λhb w s=>?_;have s:=g9 (n:=4) (size:=1) s (i:=0) rfl rfl (by decide) (by simp;exact⟨rfl,rfl,rfl,rfl⟩);have s:=s;have loop:∀(k i:Nat) (ba:Option Addr) (bn bc:Nat) (w:World),((i+k:Nat):Int)=dy m.w m.h->bn<=4+258*i->
   Sep No w0 w [ak ba bn bc 5 1 (flat bu ([m.w%256,m.w/256%256,m.h%256,m.h/256%256]++IP m i)),av mb 25 [ae m.w,ae m.h,.slice a n c]]->ku Q (k+1) (aZ mb) ba bn bc i w:=by
  intro k;induction k with
  |zero=>
   intro i ba bn bc w hi FM s;show wE Q (ku Q 0) _ _ _ _ _ _;apply lI s 1 rfl;apply lI s 1 rfl;apply Mi hm.w hm.h;rw[bp];have e:i=(dy m.w m.h).toNat:=by omega
   rw[e]at s;exact h _ _ _ _ (dD s0 s (i:=0) rfl) (au s)
  |succ k ih=>
   intro i ba bn bc w hi FM s;show wE Q (ku Q (k+1)) _ _ _ _ _ _;have Tm:0<=(i:Int)/\(i:Int)<dy m.w m.h:=by omega
   have htl:=UW hm Tm;have htr:=UU hm Tm;apply lI s 1 rfl;apply lI s 1 rfl;apply Mi hm.w hm.h;rw[bN];apply lI s 1 rfl;apply lI s 1 rfl;apply lS s 1 rfl;refine agv s (hA.fr (au s)) hm (by omega) λra rn rc w s _=>?_;have ht:=aO s (i:=0) rfl dJ (by decide);have QB:=ht.len;refine aep s ht (λx hx=>by grind) (by omega) λpa pn pc w s _=>?_;have hp:=aO s (i:=0) rfl dJ (by decide);have hpn:=hp.len;have IG:=ahp (cs:=qj m i);have s:=b_ (L':=[_,_,_,_]) [2,3,0,1] s rfl (by decide);refine alr s (aO s (i:=2) rfl dJ (by decide)) (by omega) λra rc w s=>?_;rw[aG];have s:=b_ (L':=[_,_]) [0,1] s rfl (by decide);rw[List.append_assoc,<-Ye]at s;grind
 exact⟨(dy m.w m.h).toNat+1,loop _ 0 _ 4 4 w (by omega) (by omega) s⟩
attribute [local irreducible] iS in
theorem amE {x:yF}{nn:Int}{Q:Int->Int->Int->Option Addr->Nat->Nat->World->Prop}(s0:Sep F W w0 L)(hn:1<=nn/\nn<=2000000)
  (h:∀ra rn rc w',Sep F W w' (ak ra rn rc 5 1 (flat bu (KX x nn).m)::L)->Fr No w0 w'->Q (KX x nn).k (KX x nn).A (KX x nn).B ra rn rc w'):wc x.k x.a x.b nn w0 Q:=by
 apply MU;have h3:=j9 (n:=x.a) (lo:=0) (hi:=1) (by decide);have h4:=j9 (n:=x.a) (lo:=0) (hi:=5) (by decide);have hb2:∀(w:World) (ob xb pb:Nat) (L':List As) (is:List Nat) (L3:List As),is.Nodup->is.map (λi=>L'[i]?)=[some (av ob 38 [ae (gg x.b 1 6),ae (nn+gg x.a 0 5),ae (gg x.a 0 9),.slice none 0 0]),some (av pb 38 [ae 0,ae 0,ae 0,.slice none 0 0]),some (av xb 90 [ae x.k,ae x.a,ae x.b])]->
   Sep No w0 w L'->iS Q nn (aZ xb) (aZ pb) (aZ ob) w:=by
  intro w ob xb pb L' is L3 hnd hpk s;have s:=b_ (L':=[_,_,_]) is s hpk hnd;unfold iS;unfold KX at h;apply lI s 0 rfl;by_cases k1:gg x.b 1 6=1
  ·rw[show(gg x.b 1 6==1)=true by rw[beq_iff_eq];exact k1,cond_true];rw[if_pos k1]at h;rw[k1]at s;have s:=ay s;have fin:∀(w:World) (b2:Nat) (L2:List As) (is:List Nat),is.Nodup->is.map (λi=>L2[i]?)=[some (av b2 5 [.int .u8 2,.int .u8 0,.int .u8 1,.int .u8 0,.int .u8 1,.int .u8 (x.a%256),.int .u8 (x.b%256)])]->Sep No w0 w L2->Q 1 0 0 (sZ b2) 7 7 w:=by intro w b2 L2 is hnd hpk s;have s:=b_ (L':=[_]) is s hpk hnd;have s:=g9 (n:=7) (size:=1) s (i:=0) rfl rfl (by decide) (λu hu=>by simp[List.mem_cons,List.not_mem_nil,or_false]at hu;rcases hu with rfl|rfl|rfl|rfl|rfl|rfl|rfl<;>rfl);have s:=s;exact h _ _ _ _ (dD s0 s (i:=0) rfl) (au s)
   apply lI s 2 rfl;apply lI s 2 rfl;refine And.intro ?_ ?_;refine aN s λb w s=>?_
   (refine ax s (i:=1) rfl rfl rfl λw s=>?_)
   apply And.intro (cj s 3 rfl);apply And.intro (cj s 3 rfl)
   (refine ax s (i:=1) rfl rfl rfl λw s=>?_)
   apply And.intro (cj s 3 rfl);apply And.intro (cj s 3 rfl)
   (refine ax s (i:=1) rfl rfl rfl λw s=>?_)
   apply lI s 1 rfl;apply lI s 1 rfl;apply lI s 1 rfl;apply lS s 1 rfl
   (refine ax s (i:=2) rfl rfl rfl λw s=>?_)
   (refine ax s (i:=2) rfl rfl rfl λw s=>?_)
   (refine ax s (i:=2) rfl rfl rfl λw s=>?_)
   (refine ax s (i:=2) rfl rfl rfl λw s=>?_)
   apply lI s 2 rfl;apply lI s 2 rfl;apply lI s 2 rfl;apply lS s 2 rfl;exact fin _ _ _ [0] (by decide) rfl s
   (refine ax s (i:=0) rfl rfl rfl λw s=>?_)
   apply And.intro (cj s 2 rfl);apply And.intro (cj s 2 rfl);refine And.intro ?_ ?_;refine aN s λb w s=>?_
   (refine ax s (i:=1) rfl rfl rfl λw s=>?_)
   apply And.intro (cj s 3 rfl);apply And.intro (cj s 3 rfl)
   (refine ax s (i:=1) rfl rfl rfl λw s=>?_)
   apply lI s 1 rfl;apply lI s 1 rfl;apply lI s 1 rfl;apply lS s 1 rfl
   (refine ax s (i:=2) rfl rfl rfl λw s=>?_)
   (refine ax s (i:=2) rfl rfl rfl λw s=>?_)
   (refine ax s (i:=2) rfl rfl rfl λw s=>?_)
   (refine ax s (i:=2) rfl rfl rfl λw s=>?_)
   apply lI s 2 rfl;apply lI s 2 rfl;apply lI s 2 rfl;apply lS s 2 rfl;exact fin _ _ _ [0] (by decide) rfl s
   (refine ax s (i:=0) rfl rfl rfl λw s=>?_)
   apply And.intro (cj s 2 rfl);apply And.intro (cj s 2 rfl);refine aN s λb w s=>?_
   (refine ax s (i:=1) rfl rfl rfl λw s=>?_)
   apply lI s 1 rfl;apply lI s 1 rfl;apply lI s 1 rfl;apply lS s 1 rfl
   (refine ax s (i:=2) rfl rfl rfl λw s=>?_)
   (refine ax s (i:=2) rfl rfl rfl λw s=>?_)
   (refine ax s (i:=2) rfl rfl rfl λw s=>?_)
   (refine ax s (i:=2) rfl rfl rfl λw s=>?_)
   apply lI s 2 rfl;apply lI s 2 rfl;apply lI s 2 rfl;apply lS s 2 rfl;exact fin _ _ _ [0] (by decide) rfl s
  ·rw[show(gg x.b 1 6==1)=false by rw[beq_eq_false_iff_ne];exact k1,cond_false];rw[if_neg k1]at h;have fin:∀(w:World) (L2:List As) (A B:Int),(∀ra rn rc w',Sep F W w' (ak ra rn rc 5 1 (flat bu [])::L)->Fr No w0 w'->Q (gg x.b 1 6) A B ra rn rc w')->Sep No w0 w L2->Q (gg x.b 1 6) A B none 0 0 w:=by intro w L2 A B h s;exact h _ _ _ _ (bD (bV s0 (au s)) 5 1) (au s)
   by_cases k2:gg x.b 1 6=2
   ·rw[show(gg x.b 1 6==2)=true by rw[beq_iff_eq];exact k2,cond_true];rw[if_pos k2]at h;apply lI s 2 rfl;rw[aG];apply cF (by omega) (by decide) (by omega);refine ax s (i:=0) rfl rfl rfl λw s=>?_;apply lI s 2 rfl;apply cF (by decide) (by decide) (by decide);have e:IntKind.wrap .i64 ((0+x.a%(1-0+1))*255)=gg x.a 0 1*255:=wrap_i64 (by show _<=gg x.a 0 1*255;omega) (by show gg x.a 0 1*255<_;omega);rw[e]
    (refine ax s (i:=0) rfl rfl rfl λw s=>?_)
    apply lI s 0 rfl;apply lI s 0 rfl;apply lI s 0 rfl;apply lS s 0 rfl
    (refine ax s (i:=1) rfl rfl rfl λw s=>?_)
    (refine ax s (i:=1) rfl rfl rfl λw s=>?_)
    (refine ax s (i:=1) rfl rfl rfl λw s=>?_)
    (refine ax s (i:=1) rfl rfl rfl λw s=>?_)
    apply lI s 1 rfl;apply lI s 1 rfl;apply lI s 1 rfl;apply lS s 1 rfl;refine fin _ _ _ _ ?_ s;rw[k2];exact h
   ·rw[show(gg x.b 1 6==2)=false by rw[beq_eq_false_iff_ne];exact k2,cond_false];rw[if_neg k2]at h;by_cases k5:gg x.b 1 6=5
    ·rw[show(gg x.b 1 6==5)=true by rw[beq_iff_eq];exact k5,cond_true];rw[if_pos k5]at h
     (refine ax s (i:=0) rfl rfl rfl λw s=>?_)
     apply lI s 0 rfl;apply lI s 0 rfl;apply lI s 0 rfl;apply lS s 0 rfl
     (refine ax s (i:=1) rfl rfl rfl λw s=>?_)
     (refine ax s (i:=1) rfl rfl rfl λw s=>?_)
     (refine ax s (i:=1) rfl rfl rfl λw s=>?_)
     (refine ax s (i:=1) rfl rfl rfl λw s=>?_)
     apply lI s 1 rfl;apply lI s 1 rfl;apply lI s 1 rfl;apply lS s 1 rfl;refine fin _ _ _ _ ?_ s;rw[k5];exact h
    ·rw[show(gg x.b 1 6==5)=false by rw[beq_eq_false_iff_ne];exact k5,cond_false];rw[if_neg k5]at h;apply lI s 0 rfl;apply lI s 0 rfl;apply lI s 0 rfl;apply lS s 0 rfl
     (refine ax s (i:=1) rfl rfl rfl λw s=>?_)
     (refine ax s (i:=1) rfl rfl rfl λw s=>?_)
     (refine ax s (i:=1) rfl rfl rfl λw s=>?_)
     (refine ax s (i:=1) rfl rfl rfl λw s=>?_)
     apply lI s 1 rfl;apply lI s 1 rfl;apply lI s 1 rfl;apply lS s 1 rfl;exact fin _ _ _ _ h s
 have e1:IntKind.wrap .i64 (nn+(0+x.a%(5-0+1)))=nn+gg x.a 0 5:=wrap_i64 (by show _<=nn+gg x.a 0 5;omega) (by show nn+gg x.a 0 5<_;omega);have s:=bh (F:=No) (w:=w0);refine aN s λxb w s=>?_;refine aS s λpb w s=>?_;have s:=ay s
 repeat' first
  |apply lI s 0 rfl
  |apply lS s 0 rfl
  |apply lB s 0 rfl
  |apply lP s 0 rfl
  |apply And.intro (cj s 0 rfl)
  |apply lI s 1 rfl
  |apply lS s 1 rfl
  |apply lB s 1 rfl
  |apply lP s 1 rfl
  |apply And.intro (cj s 1 rfl)
  |apply lI s 2 rfl
  |apply lS s 2 rfl
  |apply lB s 2 rfl
  |apply lP s 2 rfl
  |apply And.intro (cj s 2 rfl)
  |(refine ax s (i:=0) rfl rfl rfl λw s=>?_)
  |(refine ax s (i:=1) rfl rfl rfl λw s=>?_)
  |(refine ax s (i:=2) rfl rfl rfl λw s=>?_)
  |refine aN s λb w s=>?_
  |(refine aS s λb w s=>?_;simp[agJ,acB,amB,agK]at s)
  |apply cF (by decide) (by decide) (by decide)
  |apply And.intro ?_
  |(replace s:=ay s;first
   |apply lI s 0 rfl
   |apply lS s 0 rfl
   |apply lB s 0 rfl
   |apply lP s 0 rfl
   |apply And.intro (cj s 0 rfl)
   |apply lI s 1 rfl
   |apply lS s 1 rfl
   |apply lB s 1 rfl
   |apply lP s 1 rfl
   |apply And.intro (cj s 1 rfl)
   |apply lI s 2 rfl
   |apply lS s 2 rfl
   |apply lB s 2 rfl
   |apply lP s 2 rfl
   |apply And.intro (cj s 2 rfl)
   |(refine ax s (i:=0) rfl rfl rfl λw s=>?_)
   |(refine ax s (i:=1) rfl rfl rfl λw s=>?_)
   |(refine ax s (i:=2) rfl rfl rfl λw s=>?_)
   |refine aN s λb w s=>?_
   |(refine aS s λb w s=>?_;simp[agJ,acB,amB,agK]at s)
   |apply cF (by decide) (by decide) (by decide)
   |refine And.intro ?_ ?_)
 all_goals
  rw[e1]at s;exact hb2 _ _ _ _ _ [0,1,2] [] (by decide) rfl s
end
end Go.Proofs.YtmegplnmiepfbaaGreatDoor.S.O
