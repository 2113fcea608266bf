/- Part 5 of the proof. -/
import Derived.Test.YtmegplnmiepfbaaGreatDoorF3
import Derived.Lib.MakeNoZero
set_option linter.unusedVariables false
set_option linter.unusedSimpArgs false
set_option linter.defProp false
namespace Go.Proofs.YtmegplnmiepfbaaGreatDoor.S
open Go.Sx
attribute [local irreducible] af cE bw bg aA cu bY St Bx Al App cJ cB cz bW aL bD aq bT av ak aW mapA
structure xH where
 a0:Addr
 a2:Addr
 a3:Addr
 a4:Addr
 a5:Addr
 a6:Addr
structure iG (w:World) (g:xH):Prop where
 v0:w.cell? (aZ 0)=some (.iface 401 (.pointer (some g.a0)))
 v1:w.cell? (aZ 1)=some (.iface 219 (rt 74))
 v2:w.cell? (aZ 2)=some (.iface 401 (.pointer (some g.a2)))
 v3:w.cell? (aZ 3)=some (.iface 401 (.pointer (some g.a3)))
 v4:w.cell? (aZ 4)=some (.iface 401 (.pointer (some g.a4)))
 v5:w.cell? (aZ 5)=some (.iface 401 (.pointer (some g.a5)))
 v6:w.cell? (aZ 6)=some (.iface 401 (.pointer (some g.a6)))
 n23:g.a2≠g.a3
 n56:g.a5≠g.a6
 b2:∃c t,w.heap[g.a2.block]? =some (.cells c t (0,0))
 b3:∃c t,w.heap[g.a3.block]? =some (.cells c t (0,0))
 b5:∃c t,w.heap[g.a5.block]? =some (.cells c t (0,0))
 b6:∃c t,w.heap[g.a6.block]? =some (.cells c t (0,0))
def Xt {w w':World}{k:Nat}{o:Obj}(f:Fr No w w')(h:w.heap[k]? =some o):w'.heap[k]? =some o:=by rw[Fr.block f k (Array.getElem?_eq_some_iff.1 h).1 id];exact h
def iG.fr {w w':World}{g:xH}(k:iG w g)(f:Fr No w w'):iG w' g where
 v0:=Fr.cell f k.v0 id
 v1:=Fr.cell f k.v1 id
 v2:=Fr.cell f k.v2 id
 v3:=Fr.cell f k.v3 id
 v4:=Fr.cell f k.v4 id
 v5:=Fr.cell f k.v5 id
 v6:=Fr.cell f k.v6 id
 n23:=k.n23
 n56:=k.n56
 b2:=let⟨c,t,h⟩:=k.b2;⟨c,t,Xt f h⟩
 b3:=let⟨c,t,h⟩:=k.b3;⟨c,t,Xt f h⟩
 b5:=let⟨c,t,h⟩:=k.b5;⟨c,t,Xt f h⟩
 b6:=let⟨c,t,h⟩:=k.b6;⟨c,t,Xt f h⟩
structure FE where
 a:Int
 b:Int
 c:Int
 d:Int
 e:Int
 f:Int
structure WL (x:FE):Prop where
 a:Ta.U x.a
 b:Ta.U x.b
 c:Ta.U x.c
 d:Ta.U x.d
 e:Ta.U x.e
 f:Ta.U x.f
def FE.add (x y:FE):FE:=⟨Ta.sat x.a y.a,Ta.sat x.b y.b,Ta.sat x.c y.c,Ta.sat x.d y.d,Ta.sat x.e y.e,Ta.sat x.f y.f⟩
def WL.add {x y:FE}(hx:WL x)(hy:WL y):WL (x.add y):=⟨Ta.GA hx.a hy.a,Ta.GA hx.b hy.b,Ta.GA hx.c hy.c,Ta.GA hx.d hy.d,Ta.GA hx.e hy.e,Ta.GA hx.f hy.f⟩
def aes (x:FE):List Value:=[.int .u64 x.a,.int .u64 x.b,.int .u64 x.c,.int .u64 x.d,.int .u64 x.e,.int .u64 x.f]
structure Az where
 p:Nat
 sh:WA
 gr:uB
 mr:Bz
 fp:Nat
structure j_ where
 g:iw
 ms:nD
 f:GG
structure gu where
 k:Int
 x:AW
 o:Option j_
 past:FE
def GL (r:Az)(y:gu):List Value:=match y.o with
 |some _=>[.pointer (sZ r.gr.p),.pointer (sZ r.mr.p),.pointer (sZ r.fp),.pointer (sZ r.sh.p)]++aes y.past
 |none=>[.pointer none,.pointer none,.pointer none,.pointer (sZ r.sh.p)]++aes y.past
noncomputable def IC (r:Az)(o:Option j_):List As:=match o with
 |some m=>[nW r.gr m.g,uC r.mr r.gr.p m.ms,uG r.fp r.mr.p r.gr.p m.f]
 |none=>[]
noncomputable def amh (r:Az)(y:gu):List As:=av r.p 106 (GL r y)::jX r.sh y.k y.x::IC r y.o
structure avr (y:gu) (m:j_):Prop where
 g:xy m.g
 I:yD m.g m.ms
 J:aci m.g m.f
 nS:m.g.m.w*m.g.m.h<=1600
 right:S2 (aiY m.g) y.x.p
structure GM (y:gu):Prop where
 sh:aem y.k y.x.p
 past:WL y.past
 m:∀m,y.o=some m->avr y m
noncomputable def g8 (r:Az)(y:gu):As:=aW (GM y) (amh r y)
section
variable {F:Nat->Prop}{W w w0:World}{L:List As}{r:Az}{y:gu}
def Cw (s:Sep F W w (g8 r y::L)):GM y/\Sep F W w (amh r y++L):=gL s
def WM (s:Sep F W w (amh r y++L))(h:GM y):Sep F W w (g8 r y::L):=dz s h
noncomputable abbrev aar (r:Az)(past:FE):As:=av r.p 106 [.pointer (sZ r.gr.p),.pointer (sZ r.mr.p),.pointer (sZ r.fp),.pointer (sZ r.sh.p),.int .u64 past.a,.int .u64 past.b,.int .u64 past.c,.int .u64 past.d,.int .u64 past.e,.int .u64 past.f]
def NY {m:j_}(ho:y.o=some m)(s:Sep F W w (g8 r y::L)):GM y/\Sep F W w (aar r y.past::jX r.sh y.k y.x::nW r.gr m.g::uC r.mr r.gr.p m.ms::uG r.fp r.mr.p r.gr.p m.f::L):=by obtain⟨h,s⟩:=Cw s;have s:Sep F W w (av r.p 106 (GL r y)::jX r.sh y.k y.x::(IC r y.o++L)):=s;unfold GL at s;rw[ho]at s;exact⟨h,s⟩
def KC {m:j_}{k:Int}{x:AW}{past:FE}(s:Sep F W w (aar r past::jX r.sh k x::nW r.gr m.g::uC r.mr r.gr.p m.ms::uG r.fp r.mr.p r.gr.p m.f::L))(h:GM ⟨k,x,some m,past⟩):Sep F W w (g8 r ⟨k,x,some m,past⟩::L):=
 WM s h
def agL {Q:Option Addr->World->Prop}{k:Int}(hk:1<=k/\k<=100000)(s:Sep F W w L)
  (h:∀r x w',x.p=⟨[],[],0,0,0,0⟩->Sep F W w' (g8 r ⟨k,x,none,⟨0,0,0,0,0,0⟩⟩::L)->Q (sZ r.p) w'):Jo k w Q:=by
 apply agd;rw[bq];refine acm s (λe=>by omega) λ_ sr w s=>?_;refine aO s λp w s=>?_;have u0:Ta.U 0:=by unfold Ta.U;omega
 refine h ⟨p,sr,⟨0,none,0,0,none,0,0⟩,⟨0,none,0,0⟩,0⟩ _ w rfl (WM s ⟨⟨hk.1,hk.2,Lr.LY (k:=k) (by omega),rfl,u0,u0,u0,u0,(λq hq=>by cases hq)⟩,⟨u0,u0,u0,u0,u0,u0⟩,λm e=>by cases e⟩)
structure aas (w:World) (r:Az) (y:gu) (m:j_):Prop where
 ok:GM y
 o:y.o=some m
 cell:rV w r.p (GL r y)
 g:nB w r.gr m.g
def q9 {m:j_}(s:Sep F W w (g8 r y::L))(ho:y.o=some m):aas w r y m:=by obtain⟨h,s⟩:=Cw s;refine⟨h,ho,kZ s (i:=0) rfl,?_⟩;have s:Sep F W w (av r.p 106 (GL r y)::jX r.sh y.k y.x::(IC r y.o++L)):=s;rw[ho]at s;exact oQ (ai (ai s))
def aas.c0 {m:j_}(k:aas w r y m){j:Nat}{v:Value}(h:([.pointer (sZ r.gr.p),.pointer (sZ r.mr.p),.pointer (sZ r.fp),.pointer (sZ r.sh.p)]++aes y.past)[j]? =some v):w.cell? ((aZ r.p).add j)=some v:=by apply k.cell j v;rw[GL,k.o];exact h
def H_ {Q:Int->World->Prop}{m:j_}{c:Int}(k:aas w r y m)(h:Q (cA m.g.m c) w):rL (sZ r.p) c w Q:=by apply Vu;have h0:=k.c0 (j:=0) rfl;exact kY (ah (dJ h0 (jm k.g h)))
def Rk {Q:Int->Int->World->Prop}{m:j_}(s0:Sep F W w L)(k:aas w r y m)(h:∀w',Sep F W w' L->Fr No w w'->Q m.g.m.w m.g.m.h w'):wX (sZ r.p) w Q:=by apply VA;have h0:=k.c0 (j:=0) rfl;exact kY (ah (dJ h0 (jn s0 k.g h)))
def agM {Q:Int->Int->Option Addr->Nat->Nat->World->Prop}{m:j_}(s0:Sep F W w L)(k:aas w r y m)(h:∀ra rn rc w',Sep F W w' (ak ra rn rc 5 1 (flat bp m.g.m.cs)::L)->Fr No w w'->Q m.g.m.w m.g.m.h ra rn rc w'):Dw (sZ r.p) w Q:=by apply Ya;refine aS (bh (F:=No)) λmb w1 s=>?_;have h0:=k.c0 (j:=0) rfl;refine kY (ah (dJ (Fr.cell (au s) h0 id) ?_));refine adU s (k.g.fr (au s)) λra rc w1 s _=>?_;refine sT s 1 rfl λw1 s=>?_;refine sT s 1 rfl λw1 s=>?_;refine ax s (i:=1) rfl rfl rfl λw1 s=>?_;refine lI s 1 rfl (lI s 1 rfl (lS s 1 rfl ?_));have s':=cf (L':=[ak ra r.gr.cn rc 5 1 (flat bp m.g.m.cs)]) [0] s rfl (by decide);exact h ra r.gr.cn rc w1 (fu s0 s') (au s')
def aet {Q:Int->World->Prop}{m:j_}{ce x:Int}(ho:y.o=some m)(he:m.g.ep<1000000000)(s:Sep F W w (g8 r y::L))
  (h7:¬bF m.g.m.w m.g.m.h ce->Q 7 w)(h8:bF m.g.m.w m.g.m.h ce->¬(1<=x/\x<=255)->Q 8 w)
  (h0:bF m.g.m.w m.g.m.h ce->1<=x/\x<=255->∀w',Sep F W w' (g8 r ⟨y.k,y.x,some ⟨xz m.g ce x,m.ms,m.f⟩,y.past⟩::L)->Q 0 w'):BW (sZ r.p) ce x w Q:=by
 apply Vz;have k:=q9 s ho;obtain⟨hok,s⟩:=NY ho s;have hm:=hok.m m ho;have c0:=k.c0 (j:=0) rfl;refine kY (ah (dJ c0 ?_));have s:=pk 5 [2,0,1,3,4] s;refine abB s (by omega) h7 h8 λhc hx w s=>?_;refine h0 hc hx w (KC (pk 5 [1,2,0,3,4] s) ⟨hok.sh,hok.past,λm' e=>?_⟩);cases e;exact⟨aid hm.g hx (by omega),aoW hm.g hc hm.I,aoX hm.J,hm.nS,ama hm.right λkey q=>amc hm.g hc⟩
def acs {Q:World->Prop}{m:j_}(ho:y.o=some m)(s:Sep F W w (g8 r y::L))
  (h:∀r' x' w',r'.p=r.p->x'.p=⟨[],[],y.x.b,y.x.h,y.x.st,y.x.ev⟩->Sep F W w' (g8 r' ⟨y.k,x',some ⟨m.g,m.ms,⟨none,m.f.fS⟩⟩,y.past⟩::L)->Q w'):vD (sZ r.p) w Q:=by
 apply Hf;have k:=q9 s ho;obtain⟨hok,s⟩:=NY ho s;have hm:=hok.m m ho;refine isS (ah (dJ (k.c0 rfl) ?_));have s:=iZ s;refine OX hok.sh.one s λsr w e s=>?_;refine ah (lP s 1 rfl ?_);have s:=pk 5 [4,0,1,2,3] s;refine Yi s λw s=>?_;have s:=f_ (A:=[_,_,_,_,_]) (B:=[aar ⟨r.p,sr,r.gr,r.mr,r.fp⟩ y.past,jX sr y.k ⟨[],[],y.x.b,y.x.h,y.x.st,y.x.ev⟩,nW r.gr m.g,uC r.mr r.gr.p m.ms,uG r.fp r.mr.p r.gr.p ⟨none,m.f.fS⟩]) [2,1,3,4,0] s (by unfold aar;rw[e];rfl) (by decide);refine h ⟨r.p,sr,r.gr,r.mr,r.fp⟩ ⟨[],[],y.x.b,y.x.h,y.x.st,y.x.ev⟩ w rfl rfl (KC s ⟨?_,hok.past,λm' e=>?_⟩)
 ·exact⟨hok.sh.one,hok.sh.room,Lr.LY (k:=y.k) (by have:=hok.sh.one;omega),rfl,hok.sh.b,hok.sh.h,hok.sh.st,hok.sh.ev,λq hq=>by cases hq⟩
 ·cases e;exact⟨hm.g,hm.I,⟨(λq e=>by cases e),hm.J.u⟩,hm.nS,afz⟩
def Yk {Q:World->Prop}(h:Q w):qu Option.none w Q:=Dj _ _ _ h
def acu {Q:World->Prop}(ho:y.o=Option.none)(s:Sep F W w (g8 r y::L))
  (h:∀r' x' w',r'.p=r.p->x'.p=⟨[],[],y.x.b,y.x.h,y.x.st,y.x.ev⟩->Sep F W w' (g8 r' ⟨y.k,x',Option.none,y.past⟩::L)->Q w'):vD (some ⟨r.p,0,Option.none⟩) w Q:=by
 apply Hf;obtain⟨hok,s⟩:=Cw s;have s:Sep F W w (av r.p 106 (GL r y)::jX r.sh y.k y.x::(IC r y.o++L)):=s;unfold GL at s;rw[ho]at s;have s:=s;refine isS (ah (lP s 0 rfl ?_));have s:=iZ s;refine OX hok.sh.one s λsr w e s=>?_;refine ah (lP s 1 rfl ?_);apply Yk;have s:=iZ s;rw[<-e]at s;refine h ⟨r.p,sr,r.gr,r.mr,r.fp⟩ ⟨[],[],y.x.b,y.x.h,y.x.st,y.x.ev⟩ w rfl rfl (WM s ⟨?_,hok.past,λm' e=>by cases e⟩);exact⟨hok.sh.one,hok.sh.room,Lr.LY (k:=y.k) (by have:=hok.sh.one;omega),rfl,hok.sh.b,hok.sh.h,hok.sh.st,hok.sh.ev,λq hq=>by cases hq⟩
def uH (y:gu):FE:=match y.o with
 |some m=>⟨m.ms.fS,m.f.fS,0,0,0,0⟩
 |none=>⟨0,0,0,0,0,0⟩
def ao1 (h:GM y):WL (uH y):=by
 have u0:Ta.U 0:=by unfold Ta.U;omega
 unfold uH;cases hy:y.o with
 |none=>exact⟨u0,u0,u0,u0,u0,u0⟩
 |some m=>exact⟨(h.m m hy).I.u,(h.m m hy).J.u,u0,u0,u0,u0⟩
def Me {Q:Int->Int->Int->Int->Int->Int->World->Prop}(s:Sep F W w (g8 r y::L))(h:∀w',Sep F W w' (g8 r y::L)->Fr No w w'->Q (uH y).a (uH y).b (uH y).c (uH y).d (uH y).e (uH y).f w'):tU (some ⟨r.p,0,Option.none⟩) w Q:=by
 apply RT;refine aS (bh (F:=No)) λp w1 s1=>?_;have fin:∀w',Sep No w w' []->Q (uH y).a (uH y).b (uH y).c (uH y).d (uH y).e (uH y).f w':=λw' s'=>h w' (fu s s') (au s');apply ah;cases hy:y.o with
 |some m=>
  obtain⟨hok,so⟩:=NY hy s;have k:=q9 s hy;have km:=(Wl (ai (ai (ai so)))).cell.fr (au s1);have kf:=(NW (ai (ai (ai (ai so))))).fr (au s1);have e:uH y=⟨m.ms.fS,m.f.fS,0,0,0,0⟩:=by unfold uH;rw[hy]
  rw[e]at fin;have c1:=Fr.cell (au s1) (k.c0 (j:=1) rfl) id;have c2:=Fr.cell (au s1) (k.c0 (j:=2) rfl) id;refine dJ c1 (ah (dJ c2 ?_));refine aaa km ⟨c2,?_⟩;apply Wv (w:=w1.drew) kf;exact aiV (ay s1) λw' s'=>fin w' (ai s')
 |none=>
  obtain⟨hok,so⟩:=Cw s;have so:Sep F W w (av r.p 106 (GL r y)::jX r.sh y.k y.x::(IC r y.o++L)):=so;unfold GL at so;rw[hy]at so;have kb:=kZ so (i:=0) rfl;have e:uH y=⟨0,0,0,0,0,0⟩:=by unfold uH;rw[hy]
  rw[e]at fin;have c1:=Fr.cell (au s1) (kb 1 _ rfl) id;have c2:=Fr.cell (au s1) (kb 2 _ rfl) id;refine dJ c1 (ah (dJ c2 ?_));refine aab ⟨c2,?_⟩;apply Ww;exact aiV (ay s1) λw' s'=>fin w' (ai s')
def Rl (s:Sep F W w (g8 r y::L)):rV w r.sh.p (GI r.sh y.x)/\w.cell? ((⟨r.p,0,Option.none⟩:Addr).add 3)=some (.pointer (some ⟨r.sh.p,0,Option.none⟩))/\(∀j v,(aes y.past)[j]? =some v->w.cell? ((⟨r.p,0,Option.none⟩:Addr).add (4+j))=some v):=by
 obtain⟨hok,so⟩:=Cw s;have so:=so;have kb:=kZ so (i:=0) rfl;refine⟨amb so (i:=1) rfl,?_,λj v hj=>?_⟩
 ·apply kb 3;unfold GL;grind
 ·apply kb (4+j) v;unfold GL;grind
def WN (y:gu):FE:=(y.past.add (uH y)).add ⟨0,0,y.x.b,y.x.h,y.x.st,y.x.ev⟩
def acv {Q:Int->Int->Int->Int->Int->Int->World->Prop}(s:Sep F W w (g8 r y::L))(h:∀w',Sep F W w' (g8 r y::L)->Q (WN y).a (WN y).b (WN y).c (WN y).d (WN y).e (WN y).f w'):A5 (some ⟨r.p,0,Option.none⟩) w Q:=by
 apply Uj;refine aS s λp w1 s1=>?_;have s1:=ay (iZ s1);obtain⟨k1,k2,k3⟩:=Rl s1;have hok:=(Cw s1).1;have hu:=hok.past;have hn:=ao1 hok;have u0:Ta.U 0:=by unfold Ta.U;omega
 refine kY (ah ?_);refine aR (k3 0 _ rfl) (aR (k3 1 _ rfl) (aR (k3 2 _ rfl) (aR (k3 3 _ rfl) (aR (k3 4 _ rfl) (aR (k3 5 _ rfl) ?_)))));refine ah (dJ k2 ?_);refine Me s1 λw2 s2 f2=>?_;obtain⟨q1,q2,q3⟩:=Rl s2;refine⟨q2,q3 0 _ rfl,q3 1 _ rfl,q3 2 _ rfl,q3 3 _ rfl,q3 4 _ rfl,q3 5 _ rfl,?_⟩;refine Ta.GB s2 ⟨⟨hu.a,hu.b,hu.c,hu.d,hu.e,hu.f⟩,hn.a,hn.b,hn.c,hn.d,hn.e,hn.f⟩ λw3 s3=>?_;obtain⟨q1,q2,q3⟩:=Rl s3;refine⟨q2,?_⟩;refine aka s3 q1 λw4 s4 _=>?_;have ha:=WL.add hu hn;refine Ta.GB s4 ⟨⟨ha.a,ha.b,ha.c,ha.d,ha.e,ha.f⟩,u0,u0,hok.sh.b,hok.sh.h,hok.sh.st,hok.sh.ev⟩ λw5 s5=>?_;exact aiV (iZ s5) λw6 s6=>h w6 (ai s6)
end
def epO (o:Option j_):Int:=match o with
 |some m=>m.g.ep
 |none=>0
def agZ (m:bJ):nD:=⟨List.replicate (eI m.w m.h).toNat LX,0,0⟩
def ami (o:Option j_)(mp:bJ):j_:=⟨OT mp (epO o),agZ mp,⟨none,0⟩⟩
def aqZ {mp:bJ}{e:Int}(hm:cI mp)(he:0<=e):yD (OT mp e) (agZ mp):=by
 have hc:=gM hm.w hm.h;have hv:∀q∈(agZ mp).ps,q=LX:=λq hq=>(List.mem_replicate.1 hq).2;have u0:Ta.U 0:=by unfold Ta.U;omega
 refine⟨?_,⟨by show(0:Int)<=e+1;omega,λq hq=>?_⟩,λe'=>?_,λi q hq hv'=>?_,u0⟩
 ·show((List.replicate _ _).length:Int)=eI mp.w mp.h;grind
 ·rw[hv q hq];show(0:Int)<=e+1;omega
 ·have e':(0:Int)=e+1:=e';omega
 ·rw[hv q (List.mem_of_getElem? hq)]at hv';have hi:=(List.getElem?_eq_some_iff.1 hq).1;have hi:i<(List.replicate (eI mp.w mp.h).toNat LX).length:=hi;have e1:gi (OT mp e).vs i=e+1:=by show(List.replicate (eI mp.w mp.h).toNat (e+1)).getD i 0=e+1;grind
  rw[e1]at hv';have hv':(0:Int)=e+1:=hv';omega
section
variable {F:Nat->Prop}{W w w0:World}{L:List As}{r:Az}{y:gu}{mp:bJ}{a:Option Addr}{n c:Nat}
def amj (h:GM y):0<=epO y.o:=by
 unfold epO;cases hy:y.o with
 |none=>grind
 |some m=>have:=(h.m m hy).g.ep;grind
noncomputable abbrev ase (p sp:Nat)(v0 v1 v2:Value)(q:FE):As:=av p 106 [v0,v1,v2,.pointer (sZ sp),.int .u64 q.a,.int .u64 q.b,.int .u64 q.c,.int .u64 q.d,.int .u64 q.e,.int .u64 q.f]
def gpO (r:Az)(o:Option j_):Option Addr:=match o with
 |some _=>sZ r.gr.p
 |none=>none
def atq (s:Sep F W w (g8 r y::L)):∃v1 v2,Sep F W w (ase r.p r.sh.p (.pointer (gpO r y.o)) v1 v2 y.past::jX r.sh y.k y.x::(IC r y.o++L)):=by
 obtain⟨hok,so⟩:=Cw s;have so:Sep F W w (av r.p 106 (GL r y)::jX r.sh y.k y.x::(IC r y.o++L)):=so;unfold GL at so;cases hy:y.o with
 |none=>
  rw[hy]at so;exact⟨_,_,so⟩
 |some m=>
  rw[hy]at so;exact⟨_,_,so⟩
def ao2 {Q:Int->World->Prop}{A B:As}(hok:GM y)(s:Sep F W w (A::B::(IC r y.o++L)))(h:Q (epO y.o) w):fZ (gpO r y.o) w Q:=by
 cases hy:y.o with
 |none=>
  rw[hy]at h;exact ZW h
 |some m=>
  rw[hy]at h s;have s:=s;exact qZ (oQ (ai (ai s))) h
def aeu {Q:Int->World->Prop}(hm:cI mp)(hr:dZ mp.cs)(oZ:mp.w*mp.h<=1600)(hC:∀w',Sep F W w' L->Sl w' a n c 1 bp mp.cs)(he:epO y.o<1000000000)(s:Sep F W w (g8 r y::L))
  (h:∀r' x' w',r'.p=r.p->x'.p=⟨[],[],y.x.b,y.x.h,y.x.st,y.x.ev⟩->Sep F W w' (g8 r' ⟨y.k,x',some (ami y.o mp),y.past.add (uH y)⟩::L)->Q 0 w'):BV (sZ r.p) mp.w mp.h a n c w Q:=by
 apply Vx;have hok:=(Cw s).1;have YA:=amj hok;have hu:=hok.past;have hn:=ao1 hok;refine aO s λmb w s=>kY ?_;refine lI s 0 rfl (lI s 0 rfl (lS s 0 rfl ?_));refine Nv s (hC _ (ai (ai s))) λw s _=>?_;rw[(V1 hr).2 hm,Bool.not_true,cond_false];apply ah;have s:=ay (iZ s);obtain⟨k1,k2,k3⟩:=Rl s;refine aR (k3 0 _ rfl) (aR (k3 1 _ rfl) (aR (k3 2 _ rfl) (aR (k3 3 _ rfl) (aR (k3 4 _ rfl) (aR (k3 5 _ rfl) ?_)))));refine Me s λw s _=>?_;obtain⟨q1,q2,q3⟩:=Rl s;refine⟨q3 0 _ rfl,q3 1 _ rfl,q3 2 _ rfl,q3 3 _ rfl,q3 4 _ rfl,q3 5 _ rfl,?_⟩;refine Ta.GB s ⟨⟨hu.a,hu.b,hu.c,hu.d,hu.e,hu.f⟩,hn.a,hn.b,hn.c,hn.d,hn.e,hn.f⟩ λw s=>?_;obtain⟨v1,v2,s⟩:=atq s;apply ah;refine sT s 0 rfl λw s=>?_;refine sT s 0 rfl λw s=>?_;refine sT s 0 rfl λw s=>?_;refine sT s 0 rfl λw s=>?_;refine sT s 0 rfl λw s=>?_;refine ax s (i:=0) rfl rfl rfl λw s=>?_;have s:=ck s (L':=av mb 25 [ae mp.w,ae mp.h,.slice a n c]::ase r.p r.sh.p (.pointer (gpO r y.o)) v1 v2 (y.past.add (uH y))::jX r.sh y.k y.x::(IC r y.o++L)) (List.perm_middle (l₁:=_::_::IC r y.o));have s:=ay s;refine lI s 0 rfl (lI s 0 rfl (lS s 0 rfl ?_));refine ah (lP s 1 rfl ?_);apply ao2 hok (ai s);refine⟨cg s 0 rfl,cg s 0 rfl,cg s 0 rfl,?_⟩;have s:=gC (ai s) (.cons_cons _ (.cons_cons _ (List.sublist_append_right _ _)));refine adT s (hC _ (ai (ai s))) hr (by omega) (λe=>(e hm).elim) λ_ gr w s _=>?_;refine ah (ax s (i:=1) rfl rfl rfl λw s=>?_);refine ah (lP s 1 rfl ?_);refine ad_ s (oQ s) λmr w s _=>?_;refine ah (ax s (i:=2) rfl rfl rfl λw s=>?_);have s:=ay s;refine ah (lP s 2 rfl (ah (lP s 2 rfl ?_)));refine acj s λfp w s _=>?_;refine ah (ax s (i:=3) rfl rfl rfl λw s=>?_);refine ah (lP s 3 rfl ?_);have s:=pk 5 [4,3,2,1,0] s;refine OX hok.sh.one s λsr w e s=>?_;rw[<-e]at s;have s:=pk 5 [1,0,2,3,4] s;refine h ⟨r.p,sr,gr,mr,fp⟩ ⟨[],[],y.x.b,y.x.h,y.x.st,y.x.ev⟩ w rfl rfl (KC s ⟨?_,WL.add hu hn,λm' e=>?_⟩)
 ·exact⟨hok.sh.one,hok.sh.room,Lr.LY (k:=y.k) (by have:=hok.sh.one;omega),rfl,hok.sh.b,hok.sh.h,hok.sh.st,hok.sh.ev,λq hq=>by cases hq⟩
 ·cases e;have u0:Ta.U 0:=by unfold Ta.U;omega
  exact⟨akD hm (by omega),aqZ hm YA,⟨(λq e=>by cases e),u0⟩,oZ,afz⟩
end
section
variable {m:bJ}{t sc l:Int}
noncomputable def tH (m:bJ)(t sc:Int):List bj:=NB (EX m (D m t) t sc)
noncomputable def GN (m:bJ)(t sc:Int):List Int:=ju (aD m.w m.h sc) (bz m.w m.h sc) (dO m sc) (tH m t sc)
noncomputable def Cy (m:bJ)(t sc:Int):List Int:=nT (aD m.w m.h sc) (bz m.w m.h sc) (dO m sc) (tH m t sc)
def S7 (xs:List bj):(NB xs).Perm xs:=List.mergeSort_perm _ _
def WO (x:bj):x∈tH m t sc↔x∈EX m (D m t) t sc:=(S7 _).mem_iff
def OZ (hs:dW m.w m.h sc):(tH m t sc).Nodup:=(S7 _).nodup_iff.2 (Wx hs).1
def ao3 (hs:dW m.w m.h sc):(tH m t sc).length<=1025:=by rw[tH,(S7 _).length_eq];exact(Wx hs).2
def aat (hm:cI m)(hs:dW m.w m.h sc)(ht:bF m.w m.h t):rU (aD m.w m.h sc) (bz m.w m.h sc) (dO m sc) (tH m t sc)=true:=by rw[rU,Bool.and_eq_true];exact⟨(Q3 hm hs).DK,List.all_eq_true.2 λx hx=>auB hm hs ht ((WO x).1 hx)⟩
def asf (hm:cI m)(hs:dW m.w m.h sc)(ht:bF m.w m.h t)(hl:0<=l/\l<aD m.w m.h sc*bz m.w m.h sc):gi (GN m t sc) l.toNat=D m t (bX m.w m.h sc l):=by have hlen:=Co (m:=m) (sc:=sc);rw[GN,akM ⟨hl.1,by omega⟩];exact auz hm hs ht WO hl
def asg (hm:cI m)(hs:dW m.w m.h sc)(ht:bF m.w m.h t)(hl:0<=l/\l<aD m.w m.h sc*bz m.w m.h sc):gi (Cy m t sc) l.toNat=jW m t (bX m.w m.h sc l):=by have hlen:=Co (m:=m) (sc:=sc);unfold Cy nT gi;rw[List.getD_eq_getElem?_getD,List.getElem?_map,List.getElem?_range (by omega)];show ZZ _ _ _ _ _ ((l.toNat:Nat):Int)=_;rw[Int.toNat_of_nonneg hl.1];refine dir_eq hm hs ht WO (λl' hl'=>?_) hl;rw[fD,if_pos ⟨hl'.1,by show l'<((ju _ _ _ _).length:Int);rw[Z7];omega⟩];exact asf hm hs ht hl'
end
structure vU where
 g:iw
 S8:List Int
 clean:Int
 fS:Int
 kept:Option (Int×Int)
 fc:Int
def j_.p (m:j_):vU:=⟨m.g,m.ms.ps.map (·.e9),m.ms.clean,m.ms.fS,NU m.f,m.f.fS⟩
structure pS where
 k:Int
 sh:TK
 o:Option vU
 past:FE
def gu.p (y:gu):pS:=⟨y.k,y.x.p,y.o.map j_.p,y.past⟩
def ai8 (g:iw)(S8:List Int):Nat:=((List.range S8.length).filter λi=>gi S8 i !=gi g.vs i).length
noncomputable def GO (q:pS)(m:vU)(t sc:Int):pS:=⟨q.k,Cv q.k q.sh (t,sc) ⟨zz m.g sc,tH m.g.m t sc,GN m.g.m t sc,Cy m.g.m t sc⟩,some ⟨m.g,m.g.vs,m.g.ep,ad9 (ai8 m.g m.S8) m.fS,some (t,m.g.ep),if m.kept=some (t,m.g.ep)then m.fc else Ta.sat m.fc 1⟩,q.past⟩
def aq0 {g:iw}{x:nD}:ai8 g (x.ps.map (·.e9))=(kF g x x.ps.length).length:=by unfold ai8 kF;rw[List.length_map];refine congrArg List.length (List.filter_congr λi hi=>?_);unfold SU gi;grind
def amk {g:iw}{x:nD}(hg:xy g)(I:yD g x)(hf:NL g x):x.ps.map (·.e9)=g.vs:=by
 have h1:=I.len;have h2:=hg.len;refine List.ext_getElem? λi=>?_;rw[List.getElem?_map];by_cases hi:i<x.ps.length
 ·have e1:=List.getElem?_eq_getElem hi;have e2:g.vs[i]? =some g.vs[i]:=List.getElem?_eq_getElem (by omega);have:=hf i _ e1;rw[e1,e2];show some x.ps[i].e9=_;rw[this];unfold gi;grind
 grind
section
variable {W w w0:World}{L:List As}{r:Az}{y:gu}{lg:xH}{t sc:Int}
def ai9 {Q:Option Addr->Nat->Nat->Option Addr->Nat->Nat->Value->World->Prop}{fb:Nat}(hL:iG W lg)(s:Sep No W w (av fb 213 [.slice none 0 0,.slice none 0 0]::L))
  (h:∀eb w',Sep No W w' (av eb 275 [ae t,.iface 401 (.pointer (some lg.a3))]::L)->Q none 0 0 none 0 0 (.iface 273 (.pointer (sZ eb))) w'):tC Q t (aZ fb) w:=by
 have s:=ay s;have v3:∀{w L},Sep No W w L->w.cell? (aZ 3)=some (.iface 401 (.pointer (some lg.a3))):=λs=>Fr.cell (au s) hL.v3 id;apply mJ (v3 s) rfl;constructor
 ·refine aO s λeb w s=>?_;refine sT s 1 rfl λw s=>?_;refine ax s (i:=1) rfl rfl rfl λw s=>?_;refine⟨v3 s,?_⟩;refine lS s 1 rfl (lS s 1 rfl ?_);exact h eb w (gC s (.cons_cons _ (.cons _ (List.Sublist.refl _))))
 ·refine sT s 0 rfl λw s=>?_;refine ax s (i:=0) rfl rfl rfl λw s=>?_;refine⟨v3 s,?_⟩;refine aO s λeb w s=>?_;refine lS s 1 rfl (lS s 1 rfl ?_);exact h eb w (gC s (.cons_cons _ (.cons _ (List.Sublist.refl _))))
def aq1 {Q:Option Addr->Nat->Nat->Option Addr->Nat->Nat->Value->World->Prop}{b6 f:Nat}{da ra:Option Addr}{dn dc rn rc:Nat}{A:List As}{v1 v2:Value}(s:Sep No W w (av f 213 [.slice da dn dc,.slice ra rn rc]::av b6 213 [v1,v2]::L))
  (h:∀w',Sep No W w' L->Q da dn dc ra rn rc .nilIface w'):jG Q t (aZ b6) (aZ f) 0 w:=by
 unfold jG;refine lS s 0 rfl (lS s 0 rfl ?_);refine sT s 1 rfl λw s=>?_;refine ax s (i:=1) rfl rfl rfl λw s=>?_;refine lS s 1 rfl (lS s 1 rfl ?_);exact h w (ai (ai s))
end
section
variable {W w w0:World}{L:List As}{r:Az}{y:gu}{lg:xH}{t sc:Int}
def aBN:zc T 84=[ae 0,ae 0,.slice none 0 0]:=rfl
noncomputable abbrev aml (r:Az)(m:j_)(past:FE)(ms:nD)(f:GG)(tb p6:Nat)(ta:Option Addr)(tn tc:Nat)(sa:Option Addr)(sn sk:Nat)(t sc:Int)(L:List As):List As:=
 ak sa sn sk 294 3 (flat fT (tH m.g.m t sc))::ak ta tn tc 5 1 (flat bp (dO m.g.m sc))::av tb 84 [ae (aD m.g.m.w m.g.m.h sc),ae (bz m.g.m.w m.g.m.h sc),.slice ta tn tc]::av p6 213 [.slice none 0 0,.slice none 0 0]::aar r past::nW r.gr m.g::uC r.mr r.gr.p ms::uG r.fp r.mr.p r.gr.p f::L
def atr {Q:Option Addr->Nat->Nat->Option Addr->Nat->Nat->Value->World->Prop}{m:j_}{ms:nD}{f:GG}{tb p6 fb:Nat}{ta sa da ra:Option Addr}{tn tc sn sk n dc rc:Nat}{x':AW}{sr:WA}{v1 v2:Value}(e:sr.p=r.sh.p)(hok:GM ⟨y.k,x',some ⟨m.g,ms,f⟩,y.past⟩)
  (s:Sep No W w (av fb 213 [v1,v2]::ak ra n rc 3 1 (flat one (Cy m.g.m t sc))::ak da n dc 3 1 (flat one (GN m.g.m t sc))::jX sr y.k x'::aml r m y.past ms f tb p6 ta tn tc sa sn sk t sc L))
  (uF:∀r' w',r'.p=r.p->Sep No W w' (ak ra n rc 3 1 (flat one (Cy m.g.m t sc))::ak da n dc 3 1 (flat one (GN m.g.m t sc))::g8 r' ⟨y.k,x',some ⟨m.g,ms,f⟩,y.past⟩::L)->Q da n dc ra n rc .nilIface w'):
  St ((aZ fb).add 0) (.slice da n dc) w λw=>St ((aZ fb).add 1) (.slice ra n rc) w λw=>jG Q t (aZ p6) (aZ fb) 0 w:=by
 refine sT s 0 rfl λw s=>?_;refine ax s (i:=0) rfl rfl rfl λw s=>?_;have s:=f_ (A:=[_,_,_,_,_,_,_,_,_,_,_,_]) (B:=[_,_,_,_,_,_,_,_,_]) [0,7,8,3,9,10,11,1,2] s rfl (by decide);refine aq1 (A:=[]) s λw s=>?_;have s:Sep No W w (aar ⟨r.p,sr,r.gr,r.mr,r.fp⟩ y.past::jX sr y.k x'::nW r.gr m.g::uC r.mr r.gr.p ms::uG r.fp r.mr.p r.gr.p f::ak ra n rc 3 1 (flat one (Cy m.g.m t sc))::ak da n dc 3 1 (flat one (GN m.g.m t sc))::L):=by unfold aar;simp_all
 have s:=KC s hok;have s:=f_ (A:=[_,_,_]) (B:=[_,_,_]) [1,2,0] s rfl (by decide);grind
attribute [local irreducible] tC jG yB in
theorem N0 {Q:Option Addr->Nat->Nat->Option Addr->Nat->Nat->Value->World->Prop}{m:j_}(ho:y.o=some m)(hL:iG W lg)(s:Sep No W w (g8 r y::L))(N2:Lr.YI (t,sc))
  (GP:¬(bF m.g.m.w m.g.m.h t/\dW m.g.m.w m.g.m.h sc)->∀eb w',Sep No W w' (av eb 275 [ae t,.iface 401 (.pointer (some lg.a3))]::g8 r y::L)->Q none 0 0 none 0 0 (.iface 273 (.pointer (sZ eb))) w')
  (uF:bF m.g.m.w m.g.m.h t->dW m.g.m.w m.g.m.h sc->∀r' y' da dc ra rc w',r'.p=r.p->y'.p=GO y.p m.p t sc->Sep No W w' (ak ra (dO m.g.m sc).length rc 3 1 (flat one (Cy m.g.m t sc))::ak da (dO m.g.m sc).length dc 3 1 (flat one (GN m.g.m t sc))::g8 r' y'::L)->Q da (dO m.g.m sc).length dc ra (dO m.g.m sc).length rc .nilIface w'):
  vH (sZ r.p) t sc w Q:=by
 apply UI;refine aS s λp6 w s=>?_;have s:=iZ s;have k:=q9 s ho;have c0:=k.c0 (j:=0) rfl;refine kY (ah (dJ c0 (kY (ah (dJ c0 ?_)))));have hm:=(k.ok.m m ho);have hmay:=hm.g.may;refine Nu s k.g (λhs w s _=>?_) λhs ta tn tc w s _=>?_
 ·
  refine aS s λtb w s=>?_;refine sT s 0 rfl λw s=>?_;refine sT s 0 rfl λw s=>?_;refine sT s 0 rfl λw s=>?_;have s:=ai s;have k:=q9 s ho;have c0:=k.c0 (j:=0) rfl;refine ah (dJ c0 (jm k.g ?_));have fin:=ai9 hL (iZ s) λeb w s=>GP (λe=>hs e.2) eb w s;grind
 ·rw[aip hmay hs]at s;refine aS s λtb w s=>?_;refine sT s 0 rfl λw s=>?_;refine sT s 0 rfl λw s=>?_;refine ax s (i:=0) rfl rfl rfl λw s=>?_;have k:=q9 (ai (ai s)) ho;have c0:=k.c0 (j:=0) rfl;refine ah (dJ c0 (jm k.g ?_));by_cases ht:bF m.g.m.w m.g.m.h t
  ·have vw:=LO hmay ht;rw[cy (by omega),cond_false,Bool.not_true,cond_false];have s:=f_ (A:=[_,_,_,_]) (B:=[_,_,_,_]) [2,0,1,3] s rfl (by decide);obtain⟨hok,s⟩:=NY ho s;have s:=ay s;refine ah (lP s 0 rfl (ah (lP s 0 rfl ?_)));have s:=f_ (A:=[_,_,_,_,_,_,_,_]) (B:=[_,_,_,_,_,_,_,_]) [2,3,4,0,1,5,6,7] s rfl (by decide);refine Yj s hm.I hm.J ht hm.nS λms' rr ds w I' hf' yg Wh hro s=>?_;refine⟨cg s 3 rfl,?_⟩;have kr:=afw (ai (ai s)) rfl;refine Wz s (oQ s) kr hro ht hs λsa sn sk w s _=>?_;have s:=ay s;refine ah (lP s 4 rfl (ah (lP s 4 rfl ?_)));refine lI s 6 rfl (lI s 6 rfl (lS s 6 rfl ?_));have s:=f_ (A:=[_,_,_,_,_,_,_,_,_]) (B:=[_,_,_,_,_,_,_,_,_]) [5,0,7,6,8,4,1,2,3] s rfl (by decide);generalize hf:(⟨some (rr,⟨t,m.g.ep,ds⟩),if NU m.f=some (t,m.g.ep)then m.f.fS else Ta.sat m.f.fS 1⟩:GG)=f' at s;have s:=s;have LM:(tH m.g.m t sc).length=sn:=(aN s (i:=1) rfl nC (by decide)).len;have BO:=ao3 (t:=t) hs;have hu1:Ta.U f'.fS:=by
    rw[<-hf];split
    ·exact hm.J.u
    ·exact Ta.GA hm.J.u (by unfold Ta.U;omega)
   have J':aci m.g f':=by refine⟨λq e=>?_,hu1⟩;rw[<-hf]at e;cases e;exact⟨Int.le_refl _,λ_=>⟨ht,hro⟩⟩
   have ayv:zz m.g sc<=m.g.ep:=by
    unfold zz;split
    ·have hm1:gi m.g.vs sc.toNat∈m.g.vs:=by rw[gi,List.getD_eq_getElem?_getD,List.getElem?_eq_getElem (by omega)];exact List.getElem_mem _
     exact(hm.g.vs _ hm1).2
    ·have:=hm.g.ep;omega
   have hh:(Lr.kL y.k y.x.l (t,sc)).1.2.1=true->∀q,y.x.p.es[(Lr.kL y.k y.x.l (t,sc)).1.1.toNat]? =some q->q.e9=zz m.g sc->q.iP=tH m.g.m t sc->q.ds=GN m.g.m t sc/\q.rs=Cy m.g.m t sc:=λhd q hq hv he=>by obtain⟨_,_,h3⟩:=aiU hok.sh hm.right hd hq;have h4:=h3 hv;rw[he]at h4;exact h4
   have ayw:∀x':AW,x'.p=Cv y.k y.x.p (t,sc) ⟨zz m.g sc,tH m.g.m t sc,GN m.g.m t sc,Cy m.g.m t sc⟩->GM ⟨y.k,x',some ⟨m.g,ms',f'⟩,y.past⟩:=λx' ex=>by
    refine⟨?_,hok.past,λm' e=>?_⟩
    ·rw[ex];exact aqS hok.sh (by show(tH m.g.m t sc).length<2000;omega)
    ·cases e;refine⟨hm.g,I',J',hm.nS,?_⟩;rw[ex];exact aoT hok.sh hm.right ⟨ayv,hs,λ_=>⟨rfl,rfl⟩⟩
   have hp':∀x':AW,x'.p=Cv y.k y.x.p (t,sc) ⟨zz m.g sc,tH m.g.m t sc,GN m.g.m t sc,Cy m.g.m t sc⟩->(gu.mk y.k x' (some ⟨m.g,ms',f'⟩) y.past).p=GO y.p m.p t sc:=λx' ex=>by unfold gu.p GO;simp only[Option.map_some];rw[ex];unfold j_.p;rw[amk hm.g I' hf',yg,Wh,aq0,<-hf];rfl
   have cC:∀w',Sep No W w' (aml r m y.past ms' f' tb p6 ta tn tc sa sn sk t sc L)->Sl w' ta tn tc 1 bp (dO m.g.m sc):=λw' s=>aN s (i:=1) rfl cV (by decide);have cX:∀w',Sep No W w' (aml r m y.past ms' f' tb p6 ta tn tc sa sn sk t sc L)->Sl w' sa sn sk 3 fT (tH m.g.m t sc):=λw' s=>aN s (i:=0) rfl nC (by decide);have done:∀{fb:Nat} {v1 v2:Value} {w:World} {sr:WA} {x':AW} {da ra:Option Addr} {dc rc:Nat},sr.p=r.sh.p->x'.p=Cv y.k y.x.p (t,sc) ⟨zz m.g sc,tH m.g.m t sc,GN m.g.m t sc,Cy m.g.m t sc⟩->
     Sep No W w (av fb 213 [v1,v2]::ak ra (dO m.g.m sc).length rc 3 1 (flat one (Cy m.g.m t sc))::ak da (dO m.g.m sc).length dc 3 1 (flat one (GN m.g.m t sc))::jX sr y.k x'::aml r m y.past ms' f' tb p6 ta tn tc sa sn sk t sc L)->
     St ((aZ fb).add 0) (.slice da (dO m.g.m sc).length dc) w λw=>St ((aZ fb).add 1) (.slice ra (dO m.g.m sc).length rc) w λw=>jG Q t (aZ p6) (aZ fb) 0 w:=λ{fb v1 v2 w sr x' da ra dc rc} e ex s=>by
    refine atr e (ayw x' ex) s λr' w' er s=>?_;exact uF ht hs r' _ da dc ra rc w' er (hp' x' ex) s
   have d6:∀{w:World} {A B C D E G:As} {X:List As},Sep No W w (A::B::C::D::E::G::X)->Sep No W w X:=λs=>ai (ai (ai (ai (ai (ai s)))));refine⟨rT (oQ (d6 s)) ?_,?_⟩
   ·refine⟨cg s 3 rfl,cg s 3 rfl,cg s 3 rfl,cg s 5 rfl,?_,?_⟩
    ·refine WD hok.sh (Q3 hmay hs) (aat hmay hs ht) (OZ hs) (by omega) cC cX N2 hh s λsr x' da dc ra rc w e ex s=>?_;refine aS s λfb w s=>?_;refine⟨cg s 6 rfl,cg s 6 rfl,cg s 6 rfl,cg s 8 rfl,cg s 8 rfl,?_⟩;exact done e ex s
    ·refine aS s λfb w s=>?_;refine⟨cg s 4 rfl,cg s 4 rfl,cg s 4 rfl,cg s 6 rfl,cg s 6 rfl,?_⟩;refine WD hok.sh (Q3 hmay hs) (aat hmay hs ht) (OZ hs) (by omega) (λw' s=>cC w' (ai s)) (λw' s=>cX w' (ai s)) N2 hh (iZ s) λsr x' da dc ra rc w e ex s=>?_;exact done e ex (pk 4 [3,0,1,2] s)
   ·refine aS s λfb w s=>?_;refine⟨cg s 4 rfl,cg s 4 rfl,cg s 4 rfl,cg s 6 rfl,cg s 6 rfl,?_⟩;apply rT (oQ (d6 (ai s)));refine⟨cg s 4 rfl,cg s 4 rfl,cg s 4 rfl,cg s 6 rfl,?_⟩;refine WD hok.sh (Q3 hmay hs) (aat hmay hs ht) (OZ hs) (by omega) (λw' s=>cC w' (ai s)) (λw' s=>cX w' (ai s)) N2 hh (iZ s) λsr x' da dc ra rc w e ex s=>?_;exact done e ex (pk 4 [3,0,1,2] s)
  ·rw[show cA m.g.m t=0 from by unfold cA;rw[if_neg λe=>ht ⟨hm.g.iO,e.1,by rw[<-hmay.len];exact e.2⟩]];exact ai9 hL (f_ (A:=[_,_,_,_]) (B:=[_,_]) [3,2] s rfl (by decide)) λeb w s=>GP (λe=>ht e.1) eb w s
end
end Go.Proofs.YtmegplnmiepfbaaGreatDoor.S
set_option maxRecDepth 20000
namespace Go.Proofs.YtmegplnmiepfbaaGreatDoor.S
open Go.Sx
attribute [local irreducible] af cE bw bg aA cu bY St Bx Al App cJ cB cz bW aL bD aq bT av ak aW mapA
section
variable {W w w0:World}{L:List As}{r:Az}{y:gu}{lg:xH}{t sc ce w1 h1:Int}
def TL {Q:Int->World->Prop}(h:Q 0 w):yU .nilIface w Q:=Qu _ _ _ h
def aev {Q:Int->World->Prop}{eb:Nat}(hL:iG W lg)(s:Sep No W w (av eb 275 [ae t,.iface 401 (.pointer (some lg.a3))]::L))(h:Q 7 w):yU (.iface 273 (.pointer (sZ eb))) w Q:=by apply Qu;have k:=hL.fr (au s);have hc:=kZ s (i:=0) rfl 1 _ rfl;refine tG (mJ k.v2 rfl ?_);obtain⟨c2,t2,h2⟩:=k.b2;obtain⟨c3,t3,h3⟩:=k.b3;apply S5 (.inr rfl) (.inl rfl) hc (λx y K hk=>aco (λe=>k.n23 e.symm) h3 h2 hk);apply mJ k.v3 rfl;apply S5 (.inr rfl) (.inl rfl) hc (λx y K hk=>WG hk);exact h
def N3 {Q:Option Addr->Nat->Nat->Option Addr->Nat->Nat->Int->World->Prop}{m:j_}(ho:y.o=some m)(hL:iG W lg)(s:Sep No W w (g8 r y::L))(ht:bF m.g.m.w m.g.m.h t)(hs:dW m.g.m.w m.g.m.h sc)(N2:Lr.YI (t,sc))
  (uF:∀r' y' da dc ra rc w',r'.p=r.p->y'.p=GO y.p m.p t sc->Sep No W w' (ak ra (dO m.g.m sc).length rc 3 1 (flat one (Cy m.g.m t sc))::ak da (dO m.g.m sc).length dc 3 1 (flat one (GN m.g.m t sc))::g8 r' y'::L)->Q da (dO m.g.m sc).length dc ra (dO m.g.m sc).length rc 0 w'):
  vG (sZ r.p) t sc w Q:=by
 apply UK;refine aS s λp6 w s=>?_;refine N0 ho hL (iZ s) N2 (λe=>(e ⟨ht,hs⟩).elim) λ_ _ r' y' da dc ra rc w er ey s=>?_;refine aS s λfb w s=>?_;refine sT s 0 rfl λw s=>?_;refine ax s (i:=0) rfl rfl rfl λw s=>?_;have s:=ay s;refine lS s 0 rfl (lS s 0 rfl ?_);apply TL;refine⟨cg s 0 rfl,cg s 0 rfl,?_⟩;refine sT s 4 rfl λw s=>?_;refine ax s (i:=4) rfl rfl rfl λw s=>?_;refine lS s 4 rfl (lS s 4 rfl ?_);exact uF r' y' da dc ra rc w er ey (pk 5 [1,2,3] s)
def ao5 (hm:iO w1 h1):iF (aC w1 h1 ce):=by
 have hc:=gM hm.1 hm.2;unfold iF;by_cases h:bF w1 h1 ce
 ·have:=(bV h).2;omega
 ·unfold aC;grind
def acw {ys:List Int}{k:Nat}{x:Int}(h:ys[k]? =some x):x=gi ys k:=by unfold gi;grind
def aew {Q:Int->Int->Value->World->Prop}{m:j_}(ho:y.o=some m)(hL:iG W lg)(s:Sep No W w (g8 r y::L))(N2:(Lit.int .i64 t).wf=true)
  (GP:¬(bF m.g.m.w m.g.m.h t/\bF m.g.m.w m.g.m.h ce)->∀eb w',Sep No W w' (av eb 275 [ae t,.iface 401 (.pointer (some lg.a3))]::g8 r y::L)->Q 0 0 (.iface 273 (.pointer (sZ eb))) w')
  (uF:bF m.g.m.w m.g.m.h t->bF m.g.m.w m.g.m.h ce->∀r' y' w',r'.p=r.p->y'.p=GO y.p m.p t (cT m.g.m ce)->Sep No W w' (g8 r' y'::L)->Q (D m.g.m t ce) (jW m.g.m t ce) .nilIface w'):
  BY (sZ r.p) t ce w Q:=by
 apply VV;have k:=q9 s ho;have hm:=k.ok.m m ho;have hmay:=hm.g.may;refine Rk s k λw s _=>?_;refine eZ s λw s _=>?_;refine N0 ho hL s ⟨N2,iF.wf (ao5 hm.g.iO)⟩ (λe eb w s=>?_) λht hs r' y' da dc ra rc w er ey s=>?_
 ·refine aS s λfb w s=>?_;refine sT s 0 rfl λw s=>?_;refine sT s 0 rfl λw s=>?_;exact GP (λh=>e ⟨h.1,bV h.2⟩) eb w (ai s)
 ·have hc:bF m.g.m.w m.g.m.h ce:=by
   by_cases h:bF m.g.m.w m.g.m.h ce
   ·exact h
   ·unfold aC at hs;rw[if_neg h]at hs;have:=hs.2.1;omega
  have hlr:=j6 hc;have hgl:=nV hc;have hlen:=Co (m:=m.g.m) (sc:=aC m.g.m.w m.g.m.h ce);refine aS s λfb w s=>?_;refine sT s 0 rfl λw s=>?_;refine ax s (i:=0) rfl rfl rfl λw s=>?_;refine tD s λw s _=>?_;have s:=ay s;apply lS s 0 rfl;have kD:=aN s (i:=2) rfl cF (by decide);have kR:=aN s (i:=1) rfl cF (by decide);have hk:dX m.g.m.w m.g.m.h ce=((dX m.g.m.w m.g.m.h ce).toNat:Int):=by omega
  apply kD.rJ hk (by omega);apply lS s 0 rfl;refine kR.El hk (by omega) λp x hx hcell=>?_;have h0:=hcell 0 _ rfl;refine aR h0 ⟨h0,cg s 0 rfl,?_⟩;have eD:=asf hmay hs ht hlr;have eR:=asg hmay hs ht hlr;rw[hgl]at eD eR;rw[acw hx,eD,eR];exact uF ht hc r' y' _ er ey (ai (ai (ai s)))
def aex {Q:Int->Int->Int->World->Prop}{m:j_}(ho:y.o=some m)(hL:iG W lg)(s:Sep No W w (g8 r y::L))(N2:(Lit.int .i64 t).wf=true)
  (GP:¬(bF m.g.m.w m.g.m.h t/\bF m.g.m.w m.g.m.h ce)->∀w',Sep No W w' (g8 r y::L)->Q 0 0 7 w')
  (uF:bF m.g.m.w m.g.m.h t->bF m.g.m.w m.g.m.h ce->∀r' y' w',r'.p=r.p->y'.p=GO y.p m.p t (cT m.g.m ce)->Sep No W w' (g8 r' y'::L)->Q (D m.g.m t ce) (jW m.g.m t ce) 0 w'):
  BX (sZ r.p) t ce w Q:=by
 apply VW;refine aew ho hL s N2 (λe eb w s=>?_) λht hc r' y' w er ey s=>?_
 ·exact aev hL s (GP e w (ai s))
 ·exact TL (uF ht hc r' y' w er ey s)
end
def O0 (y:tF)(cell goal:Int):tF:=⟨y.most,y.next+1,y.us++[⟨y.next,cell,goal⟩]⟩
section
variable {F:Nat->Prop}{W w w0:World}{L:List As}{r:Wq}{y:tF}{cell goal:Int}
def ao6 {us:List aU}{u:aU}{i:Int}(h:∀v∈us,v.id<u.id):gK (us++[u]) i=if i=u.id then some u else gK us i:=by unfold gK;grind
def ao7 {us:List aU}{i:Int}(h:∀v∈us,v.id≠i):gK us i=none:=by unfold gK;grind
def avu {r:Wq}{mb':Nat}{a:Option Addr}{n c:Nat}{ms':List (Int×aU)}(h:SY r y)(hroom:(y.us.length:Int)<y.most)(hn:y.next<1000000000)(hk:oS ms')(ha:∀i,fy ms' i=if i=y.next then some ⟨y.next,cell,goal⟩else fy r.ms i)(hl:ms'.length=if(fy r.ms y.next).isNone then r.ms.length+1 else r.ms.length):
  SY ⟨r.p,mb',a,n,c,ms',r.os++[y.next]⟩ (O0 y cell goal):=by
 have hlt:∀v∈y.us,v.id<y.next:=λv hv=>(h.jA v hv).2
 have hg:∀i,gK (O0 y cell goal).us i=if i=y.next then some ⟨y.next,cell,goal⟩else gK y.us i:=λi=>ao6 hlt
 have hno:gK y.us y.next=none:=ao7 λv hv=>by grind
 refine⟨h.most,hk,λi=>?_,?_,?_,?_,?_,?_,?_,?_,?_⟩
 ·rw[hg,ha,h.fy]
 ·show ms'.length=(y.us++[_]).length;rw[hl,h.fy,hno,List.length_append,h.len];rfl
 ·show(r.os++[y.next]).filter _=(y.us++[_]).map _;rw[List.filter_append,List.map_append,<-h.ord];congr 1
  ·refine List.filter_congr λi hi=>?_;have:=(h.onx i hi).2;grind
  grind
 ·show(r.os++[_]).length<=2*(y.us++[_]).length;have:=h.aiG;grind
 ·show((y.us++[_]).map _).Pairwise _;rw[List.map_append,List.pairwise_append];refine⟨h.NI,by simp,λa ha b hb=>?_⟩;grind
 ·intro u hu;show 0<=u.id/\u.id<y.next+1
  rcases List.mem_append.1 hu with hu|hu
  ·have:=h.jA u hu;omega
  ·rw[List.mem_singleton]at hu;subst hu;have:=h.Q9;grind
 ·show((y.us++[_]).length:Int)<=y.most;grind
 ·intro i hi;show 0<=i/\i<y.next+1
  rcases List.mem_append.1 hi with hi|hi
  ·have:=h.onx i hi;omega
  ·rw[List.mem_singleton]at hi;have:=h.Q9;omega
 ·have:=h.Q9;show 0<=y.next+1/\y.next+1<=1000000000
  omega
def acy {Q:Int->Bool->World->Prop}(s:Sep F W w (v_ r y::L))(hn:y.next<1000000000)(hroom:(y.us.length:Int)<y.most)
  (h:∀r' w',r'.p=r.p->Sep F W w' (v_ r' (O0 y cell goal)::L)->Q y.next true w'):yS (sZ r.p) cell goal w Q:=by
 apply P9;obtain⟨hok,s⟩:=uS (ay s);refine kY (ah (lM s 0 rfl (ah (lI s 0 rfl ?_))));apply aqI Ky s (i:=1) rfl;refine⟨cg s 0 rfl,?_⟩;rw[hok.len,bq];have Rm:=hok.Q9;refine ah (lI s 0 rfl (ah (lI s 0 rfl ?_)));rw[Hz (iF.wf (by unfold iF;omega))];refine ah (sT s 0 rfl λw s=>?_);refine ah (lM s 0 rfl ?_);refine L5 (ms:=r.ms) (a:=⟨y.next,cell,goal⟩) Ky s (i:=1) rfl hok.FB (by show iF y.next;unfold iF;omega) λms' w hk ha hl s=>?_;refine ah (lS s 0 rfl ?_);have s:=pk 3 [2,0,1] s;have hol:=hok.aiG;have Xu:=hok.most;have Cm:=(aN s (i:=0) rfl cF (by decide)).len;refine LD s (by omega) λa' c' w s=>?_;refine ah (ax s (i:=1) rfl rfl rfl λw s=>?_);refine h ⟨r.p,r.mb,a',r.on+1,c',ms',r.os++[y.next]⟩ w rfl (E1 ?_ (avu hok hroom hn hk ha hl));exact pk 3 [1,2,0] s
end
def vV (y:tF)(id:Int)(f:aU->aU):tF:=⟨y.most,y.next,y.us.map λv=>if v.id=id then f v else v⟩
section
variable {F:Nat->Prop}{W w w0:World}{L:List As}{r:Wq}{y:tF}{cell goal id:Int}{f:aU->aU}
def afC (hf:∀u,(f u).id=u.id){i:Int}:∀{us:List aU},gK (us.map λv=>if v.id=id then f v else v) i=if i=id then(gK us id).map f else gK us i
 |[]=>by simp[gK]
 |u::us=>by have ih:=afC (i:=i) hf (us:=us);unfold gK at ih⊢;grind
def aq2 (hf:∀u,(f u).id=u.id){us:List aU}:(us.map λv=>if v.id=id then f v else v).map (·.id)=us.map (·.id):=by rw[List.map_map];refine List.map_congr_left λv _=>?_;grind
def att {u:aU}{ms':List (Int×aU)}(h:SY r y)(hf:∀u,(f u).id=u.id)(hu:gK y.us id=some u)(hk:oS ms')(ha:∀i,fy ms' i=if i=id then some (f u)else fy r.ms i)(hl:ms'.length=if(fy r.ms id).isNone then r.ms.length+1 else r.ms.length):
  SY ⟨r.p,r.mb,r.oa,r.on,r.oc,ms',r.os⟩ (vV y id f):=by
 have hg:∀i,gK (vV y id f).us i=if i=id then(gK y.us id).map f else gK y.us i:=λi=>afC hf
 have JQ:(vV y id f).us.map (·.id)=y.us.map (·.id):=aq2 hf;have hlen:(vV y id f).us.length=y.us.length:=by have:=congrArg List.length JQ;grind
 refine⟨h.most,hk,λi=>?_,?_,?_,?_,?_,?_,?_,h.onx,h.Q9⟩
 ·rw[hg,ha,h.fy,hu];rfl
 ·rw[hlen,hl,h.fy,hu,<-h.len];rfl
 ·rw[JQ,<-h.ord];grind
 ·rw[hlen];exact h.aiG
 ·rw[JQ];exact h.NI
 ·intro v hv;have hm:v.id∈(vV y id f).us.map (·.id):=List.mem_map.2 ⟨v,hv,rfl⟩;rw[JQ]at hm;obtain⟨v',hv',e⟩:=List.mem_map.1 hm;rw[<-e];exact h.jA v' hv'
 ·rw[hlen];exact h.nS
def N4 {Q:Bool->World->Prop}{WQ:Value}(zT:iF id)(hf:∀u,(f u).id=u.id)
  (awt:∀(x:Nat) (w:World) (u:aU) (K:World->Prop),Sep F W w (av x 43 (iy u)::v_ r y::L)->(∀w',Sep F W w' (av x 43 (iy (f u))::v_ r y::L)->K w')->h_ (cx 25) WQ [.pointer (sZ x)] w λv w'=>dT v λl=>kM l (K w'))
  (s:Sep F W w (v_ r y::L))(hno:gK y.us id=none->∀w',Sep F W w' (v_ r y::L)->Q false w')
  (hyes:(gK y.us id).isSome=true->∀r' w',r'.p=r.p->Sep F W w' (v_ r' (vV y id f)::L)->Q true w'):r_ (sZ r.p) id WQ w Q:=by
 apply Qe;refine sH s zT (λhn w s=>?_) λu hu w s=>?_
 ·refine aS s λx w s=>?_;refine sT s 0 rfl λw s=>?_;refine sT s 0 rfl λw s=>?_;refine sT s 0 rfl λw s=>?_;exact hno hn w (ai s)
 ·refine aS s λx w s=>?_;refine sT s 0 rfl λw s=>?_;refine sT s 0 rfl λw s=>?_;refine ax s (i:=0) rfl rfl rfl λw s=>?_;refine awt x w u _ s λw s=>?_;have s:=ay s;obtain⟨hok,s⟩:=uS (iZ s);refine ah (lM s 0 rfl ?_);refine lI s 3 rfl (lI s 3 rfl (lI s 3 rfl ?_));refine L5 Ky s (i:=1) rfl hok.FB zT λms' w hk ha hl s=>?_;refine hyes (by rw[hu];rfl) ⟨r.p,r.mb,r.oa,r.on,r.oc,ms',r.os⟩ w rfl (E1 ?_ (att hok hf hu hk ha hl));exact pk 4 [0,1,2] s
def aAf:oW 156 fns=true:=by kernel_rfl
def aAg:oW 128 fns=true:=by kernel_rfl
def amm {m x b:Nat}{Q:World->Prop}(h:BZ (sZ x) (sZ b) w Q):h_ (cx m) (.func (.func 156) #[] #[.pointer (sZ b)]) [.pointer (sZ x)] w λv w'=>dT v λl=>kM l (Q w'):=by unfold h_;simp only;exact h
def ao8 {m x b:Nat}{Q:World->Prop}(h:Dg (sZ x) (sZ b) w Q):h_ (cx m) (.func (.func 128) #[] #[.pointer (sZ b)]) [.pointer (sZ x)] w λv w'=>dT v λl=>kM l (Q w'):=by unfold h_;simp only;exact h
def aau {Q:Bool->World->Prop}(zT:iF id)(s:Sep F W w (v_ r y::L))(hno:gK y.us id=none->∀w',Sep F W w' (v_ r y::L)->Q false w')
  (hyes:(gK y.us id).isSome=true->∀r' w',r'.p=r.p->Sep F W w' (v_ r' (vV y id λu=>⟨u.id,cell,u.goal⟩)::L)->Q true w'):xW (sZ r.p) id cell w Q:=by
 apply OK;refine aO s λcb w s=>?_;refine N4 (f:=λu=>⟨u.id,cell,u.goal⟩) zT (λu=>rfl) (λx w u K s hK=>?_) (iZ s) (λhn w s=>hno hn w (gC s (.cons_cons _ (List.sublist_cons_self _ _)))) (λhs r' w e s=>hyes hs r' w e (gC s (.cons_cons _ (List.sublist_cons_self _ _))));apply amm;apply Lx;refine ah (lI s 2 rfl (ah (sT s 0 rfl λw s=>?_)));exact hK w s
def acz {Q:Bool->World->Prop}(zT:iF id)(s:Sep F W w (v_ r y::L))(hno:gK y.us id=none->∀w',Sep F W w' (v_ r y::L)->Q false w')
  (hyes:(gK y.us id).isSome=true->∀r' w',r'.p=r.p->Sep F W w' (v_ r' (vV y id λu=>⟨u.id,u.cell,goal⟩)::L)->Q true w'):yR (sZ r.p) id goal w Q:=by
 apply Qf;refine aO s λcb w s=>?_;refine N4 (f:=λu=>⟨u.id,u.cell,goal⟩) zT (λu=>rfl) (λx w u K s hK=>?_) (iZ s) (λhn w s=>hno hn w (gC s (.cons_cons _ (List.sublist_cons_self _ _)))) (λhs r' w e s=>hyes hs r' w e (gC s (.cons_cons _ (List.sublist_cons_self _ _))));apply ao8;apply MI;refine ah (lI s 2 rfl (ah (sT s 0 rfl λw s=>?_)));exact hK w s
end
section
variable {F:Nat->Prop}{W w w0:World}{L:List As}{r:Wq}{y:tF}{cell goal id:Int}{a:Option Addr}{n c:Nat}{us:List aU}
def aq3 {x:aU}{K:Option Addr->Nat->Nat->World->Prop}(s:Sep F W w (ak a n c 43 3 (flat iy us)::L))(hn:n<=1000000000)
  (k:∀a' c' w',Sep F W w' (ak a' (n+1) c' 43 3 (flat iy (us++[x]))::L)->K a' (n+1) c' w'):Bx [ae x.id,ae x.cell,ae x.goal] 43 w λp w1=>App P #[39,39] 39 (.slice a n c) (.slice (some p) 1 1) w1 K:=by
 refine aO s λb w s=>?_;have src:Src w (sZ b) 1 3 (iy x):=⟨rfl,aoA x,λj u hj=>by rw[cq,Nat.zero_add];exact cM s (i:=0) rfl rfl hj⟩;refine ig ee s (i:=1) (bytes:=24) rfl rfl rfl rfl rfl rfl (by decide) rfl src (by simp[maxLen];omega) (by omega) (λe=>by cases e) λa1 c1 w1 s1=>?_;have e:flat iy us++iy x=flat iy (us++[x]):=by rw[fX];simp[flat]
 rw[e]at s1;exact k _ _ _ (ai s1)
def Xv (h:(us.map (·.id)).Pairwise (·<·)){i:Nat}{u:aU}(hu:us[i]? =some u):gK us u.id=some u:=by
 unfold gK;induction us generalizing i with
 |nil=>simp at hu
 |cons v us ih=>
  rw[List.map_cons,List.pairwise_cons]at h;cases i with
  |zero=>
   grind
  |succ i=>
   have:=h.1 u.id (List.mem_map.2 ⟨u,List.mem_of_getElem? hu,rfl⟩);grind
def acA {Q:Option Addr->Nat->Nat->World->Prop}(s:Sep F W w (v_ r y::L))(h:∀a n c w',Sep F W w' (ak a n c 43 3 (flat iy y.us)::v_ r y::L)->Q a n c w'):yO (sZ r.p) w Q:=by
 apply Qv;obtain⟨hok,s⟩:=uS s;have oZ:=hok.nS;have Xu:=hok.most;have hol:=hok.aiG;have Rm:=hok.Q9;apply kY;refine YK hok.FB (λi hi=>by have:=hok.onx i hi;unfold iF;omega) (by omega) s λia N ic w s=>?_;have ayz:(r.os.filter λi=>(fy r.ms i).isSome)=y.us.map (·.id):=by rw[<-hok.ord];refine List.filter_congr λi _=>?_;rw[hok.fy]
 rw[ayz]at s;have hN:y.us.length=N:=by have:=(aN s (i:=0) rfl cF (by decide)).len;grind
 have loop:∀(j i:Nat) (a:Option Addr) (n c:Nat) (w:World),i+j=N->Sep F W w (ak a n c 43 3 (flat iy (y.us.take i))::ak ia N ic 3 1 (flat one (y.us.map (·.id)))::av r.p 171 (Wr r y)::fO fq Iz r.mb r.ms::ak r.oa r.on r.oc 3 1 (flat one r.os)::L)->
   vT Q (j+1) (sZ r.p) a n c ia N ic (N:Int) i w:=by
  intro j;induction j with
  |zero=>
   intro i a n c w hij s;show qM _ _ _ _ _ _ _ _ _ _ _ _;rw[qM,bq];rw[List.take_of_length_le (by omega)]at s;apply h a n c w;have s:=pk 5 [2,3,4,0] s;exact ck (E1 s hok) (List.Perm.swap _ _ _)
  |succ j ih=>
   intro i a n c w hij s;show qM _ _ _ _ _ _ _ _ _ _ _ _;rw[qM,bM];have hi:i<y.us.length:=by omega
   have hn:=(aN s (i:=0) rfl Jc (by decide)).len;rw[List.length_take]at hn;obtain⟨u,hu⟩:∃u,y.us[i]? =some u:=⟨_,List.getElem?_eq_getElem hi⟩;have hgi:gi (y.us.map (·.id)) i=u.id:=by unfold gi;grind
   have yj:y.us.take (i+1)=y.us.take i++[u]:=by rw[List.take_add_one,hu];rfl
   have hr:=hok.jA u (List.mem_of_getElem? hu);have hgu:=Xv hok.NI hu;have wr:IntKind.wrap .i64 ((i:Int)+1)=((i+1:Nat):Int):=by rw[Hz (iF.wf (by unfold iF;omega))];omega
   apply(aN s (i:=1) rfl cF (by decide)).rJ rfl (by omega);rw[hgi];refine ah (lM s 2 rfl ?_);refine Ew (K:=fq) Ky (aak w) s (i:=3) rfl hok.FB (by show iF u.id;unfold iF;omega) (λh=>?_) λv hv=>?_
   ·rw[hok.fy,hgu]at h;cases h
   ·rw[hok.fy,hgu]at hv;cases hv;refine aq3 s (by omega) λa' c' w s=>?_;grind
 exact⟨N+1,loop N 0 none 0 0 w (by omega) (bE s 43 3)⟩
end
def kV (y:tF)(id:Int):tF:=⟨y.most,y.next,y.us.filter λv=>!decide (v.id=id)⟩
section
variable {F:Nat->Prop}{W w w0:World}{L:List As}{r:Wq}{y:tF}{id:Int}
def ao9 {us:List aU}{i:Int}:gK (us.filter λv=>!decide (v.id=id)) i=if i=id then none else gK us i:=by unfold gK;grind
def aq4 {us:List aU}:(us.filter λv=>!decide (v.id=id)).map (·.id)=(us.map (·.id)).filter λi=>!decide (i=id):=by rw[List.filter_map];rfl
def aav {us:List aU}(h:(us.map (·.id)).Pairwise (·<·))(hu:(gK us id).isSome=true):(us.filter λv=>!decide (v.id=id)).length=us.length-1:=by
 unfold gK at hu;induction us with
 |nil=>simp at hu
 |cons u us ih=>
  rw[List.map_cons,List.pairwise_cons]at h;by_cases e:u.id=id
  ·rw[List.filter_cons_of_neg (by simp[e]),List.length_cons,Nat.add_sub_cancel];refine congrArg List.length (List.filter_eq_self.2 λv hv=>?_);have:=h.1 v.id (List.mem_map.2 ⟨v,hv,rfl⟩);grind
  grind
def ak2 {ms':List (Int×aU)}{oa:Option Addr}{on oc:Nat}{os':List Int}(h:SY r y)(hu:(gK y.us id).isSome=true)(hk:oS ms')(ha:∀i,fy ms' i=if i=id then none else fy r.ms i)(hl:ms'.length=if(fy r.ms id).isNone then r.ms.length else r.ms.length-1)
  (hos:(os'=r.os/\os'.length<=2*(kV y id).us.length)\/os'=r.os.filter λi=>(fy ms' i).isSome):SY ⟨r.p,r.mb,oa,on,oc,ms',os'⟩ (kV y id):=by
 have hg:∀i,gK (kV y id).us i=if i=id then none else gK y.us i:=λi=>ao9
 have JQ:(kV y id).us.map (·.id)=(y.us.map (·.id)).filter λi=>!decide (i=id):=aq4;have hlen:(kV y id).us.length=y.us.length-1:=aav h.NI hu;have hsub:∀v∈(kV y id).us,v∈y.us:=λv hv=>(List.mem_filter.1 hv).1;have Wm:∀i,fy ms' i=gK (kV y id).us i:=λi=>by rw[hg,ha,h.fy]
 have ayA:((kV y id).us.map (·.id)).Pairwise (·<·):=by rw[JQ];exact h.NI.filter _
 have aBR:r.os.filter (λi=>(gK (kV y id).us i).isSome)=(kV y id).us.map (·.id):=by rw[JQ,<-h.ord,List.filter_filter];grind
 have N5:os'=r.os/\os'.length<=2*(kV y id).us.length\/os'=(kV y id).us.map (·.id):=by grind
 refine⟨h.most,hk,Wm,?_,?_,?_,ayA,λv hv=>h.jA v (hsub v hv),?_,λi hi=>?_,h.Q9⟩
 ·rw[hlen,hl,h.fy,<-h.len];cases hu':gK y.us id with
  |none=>grind
  |some _=>rfl
 ·rcases N5 with⟨e,_⟩|e
  ·grind
  ·rw[e];refine List.filter_eq_self.2 λi hi=>?_;grind
 ·grind
 ·have:=h.nS;show((kV y id).us.length:Int)<=y.most;omega
 ·rcases N5 with⟨e,_⟩|e
  ·rw[e]at hi;exact h.onx i hi
  ·rw[e]at hi;obtain⟨v,hv,rfl⟩:=List.mem_map.1 hi;exact h.jA v (hsub v hv)
def aaw {Q:Bool->World->Prop}(zT:iF id)(s:Sep F W w (v_ r y::L))(hu:(gK y.us id).isSome=true)
  (hyes:∀r' w',r'.p=r.p->Sep F W w' (v_ r' (kV y id)::L)->Q true w'):xV (sZ r.p) id w Q:=by
 apply Ov;refine sH s zT (λhn w s=>by grind) λu hu' w s=>?_;refine aS s λx w s=>?_;refine sT s 0 rfl λw s=>?_;refine sT s 0 rfl λw s=>?_;refine sT s 0 rfl λw s=>?_;rw[Bool.not_true,cond_false];obtain⟨hok,s⟩:=uS (ai s);have oZ:=hok.nS;have Xu:=hok.most;have hol:=hok.aiG;have Rm:=hok.Q9;have Cm:=(aN s (i:=2) rfl cF (by decide)).len;refine ah (lM s 0 rfl ?_);refine au_ (K:=fq) Ky s (i:=1) rfl hok.FB zT λms' w hk ha hl s=>?_;have s:=ay s;have hml:ms'.length=(kV y id).us.length:=by rw[hl,hok.fy,hu',hok.len];exact(aav hok.NI hu).symm
 have hdl:(kV y id).us.length=y.us.length-1:=aav hok.NI hu;refine ah (lS s 0 rfl (ah (lM s 0 rfl ?_)));apply aqI Ky s (i:=1) rfl;refine⟨cg s 0 rfl,?_⟩;rw[Hz (iF.wf (by unfold iF;omega))];by_cases ahp:(r.on:Int)>2*((ms'.length:Nat):Int)
 ·rw[bM ahp];refine YK hk (λi hi=>by have:=hok.onx i hi;unfold iF;omega) (by omega) s λa n c w s=>?_;refine ah (ax s (i:=1) rfl rfl rfl λw s=>?_);refine hyes ⟨r.p,r.mb,a,n,c,ms',_⟩ w rfl (E1 ?_ (ak2 hok hu hk ha hl (.inr rfl)));exact pk 4 [1,2,0] s
 ·rw[bq ahp];exact hyes ⟨r.p,r.mb,r.oa,r.on,r.oc,ms',r.os⟩ _ rfl (E1 s (ak2 hok hu hk ha hl (.inl ⟨rfl,by omega⟩)))
end
def Ez (out:List Int)(u:aU):List Int:=if u.goal∈out then out else out++[u.goal]
def tI (us:List aU):List Int:=us.foldl Ez []
def ao_ {us:List aU}:(tI us).length<=us.length:=by
 have:∀(us:List aU) (out:List Int),(us.foldl Ez out).length<=out.length+us.length:=by
  intro us;induction us with
  |nil=>grind
  |cons u us ih=>
   intro out;have h2:(Ez out u).length<=out.length+1:=by unfold Ez;grind
   grind
 have:=this us [];simpa[tI]using this
def C9 (b:Bool):Value:=.bool b
def O1:P.underlying 258=some (.map 3 4):=by kernel_rfl
def aax (w:World):(zeroValue 4).run P w=.ok (C9 false) w:=by kernel_rfl
section
variable {F:Nat->Prop}{W w w0:World}{L:List As}{la:Option Addr}{ln lc:Nat}{us:List aU}
def aay {Q:Option Addr->Nat->Nat->World->Prop}(s0:Sep F W w0 L)(hU:Sl w0 la ln lc 3 iy us)(qe:ln<=1000000)(zT:∀u∈us,iF u.goal)
  (h:∀a n c w',Sep F W w' (ak a n c 3 1 (flat one (tI us))::L)->Fr No w0 w'->Q a n c w'):EK la ln lc w0 Q:=by
 apply ZO;have hlen:=hU.len;refine aaj (bh (F:=No)) 258 fq C9 λmb w s=>?_;have loop:∀(j i:Nat) (a:Option Addr) (n c:Nat) (ms:List (Int×Bool)) (w:World),i+j=ln->n<=i->oS ms->(∀g,fy ms g=if g∈tI (us.take i)then some true else none)->Sep No w0 w (ak a n c 3 1 (flat one (tI (us.take i)))::fO fq C9 mb ms::[])->
   C3 Q (j+1) a n c (some mb) la ln lc (ln:Int) i w:=by
  intro j;induction j with
  |zero=>
   intro i a n c ms w hij hni hk ha s;show zq _ _ _ _ _ _ _ _ _ _ _ _;rw[zq,bq];rw[List.take_of_length_le (by omega)]at s;have s:=cf (L':=[ak a n c 3 1 (flat one (tI us))]) [0] s rfl (by decide);exact h a n c w (fu s0 s) (au s)
  |succ j ih=>
   intro i a n c ms w hij hni hk ha s;show zq _ _ _ _ _ _ _ _ _ _ _ _;rw[zq,bM];refine(hU.fr (au s)).El rfl (by omega) λp u hu hc=>?_;have hug:=zT u (List.mem_of_getElem? hu);have yj:tI (us.take (i+1))=Ez (tI (us.take i)) u:=by unfold tI;rw[List.take_add_one,hu];grind
   have wr:IntKind.wrap .i64 ((i:Int)+1)=((i+1:Nat):Int):=by rw[Hz (iF.wf (by unfold iF;omega))];omega
   refine aR (hc 0 _ rfl) (aR (hc 1 _ rfl) (aR (hc 2 _ rfl) ?_));refine aS s λx w s=>?_;refine sT s 0 rfl λw s=>?_;refine sT s 0 rfl λw s=>?_;refine ax s (i:=0) rfl rfl rfl λw s=>?_;apply lI s 0 rfl;rw[wr];refine Ew (K:=fq) O1 (aax w) s (i:=2) rfl hk hug (λhn=>?_) λb hb=>?_
   ·have hno:u.goal∉tI (us.take i):=λhm=>by rw[ha,if_pos hm]at hn;cases hn
    apply lI s 0 rfl;refine L5 O1 s (i:=2) rfl hk hug λms' w hk' Ed hl' s=>?_;apply lI s 0 rfl;have s:=cf (L':=[_,_,_]) [1,0,2] s rfl (by decide);refine LD s (by omega) λa' c' w s=>?_;refine ih (i+1) a' (n+1) c' ms' w (by omega) (by omega) hk' (λg=>?_) ?_
    ·rw[Ed,ha,yj];rw[Ez,if_neg hno];by_cases e:g=u.goal
     ·rw[if_pos e,if_pos (by rw[e];simp)]
     ·have:(g∈tI (us.take i)++[u.goal])↔g∈tI (us.take i):=by simp[e]
      rw[if_neg e];simp[this]
    ·rw[yj];rw[Ez,if_neg hno];exact cf (L':=[_,_]) [0,2] s rfl (by decide)
   ·have hm:u.goal∈tI (us.take i):=by
     rw[ha]at hb;split at hb
     ·assumption
     ·cases hb
    rw[ha,if_pos hm]at hb;cases hb;refine ih (i+1) a n c ms w (by omega) (by omega) hk (λg=>?_) ?_
    ·rw[ha,yj];rw[Ez,if_pos hm]
    ·rw[yj];rw[Ez,if_pos hm];exact ai s
 exact⟨ln+1,loop ln 0 none 0 0 [] w (by omega) (by omega) List.Pairwise.nil (λg=>rfl) (bE s 3 1)⟩
end
end Go.Proofs.YtmegplnmiepfbaaGreatDoor.S
namespace Go.Proofs.YtmegplnmiepfbaaGreatDoor.S
open Go.Sx
def afD {F:Nat->Prop}{W w:World}{L:List As}{K:Option Nat->World->Prop}{n:Int}{k' e:TypeId}{P:Program}{t:TypeId}(ht:P.underlying t=some (.map k' e))(s:Sep F W w L)(k:TypeId)(h:∀b w',Sep F W w' (mapA P k b []::L)->K (some b) w'):cz P t (some (ae n)) w K:=by
 unfold Sx.cz aL;have e:(Instr.makeMap t (some (ae n))).run P w=.ok (.map (some w.heap.size)) (w.alloc (.map #[] 0)):=by simp[Instr.makeMap,newObj,run_underlying ht,asInt,Result.andThen];rfl
 rw[e];refine h _ _ (Hy s (Fr.alloc Fr.refl _) ?_ λx hx=>?_)
 ·exact⟨#[],0,heap_alloc_new w _,rfl,by simp⟩
 ·have hx:x=w.heap.size:=hx;omega
attribute [local irreducible] af cE bw bg aA cu bY St Bx Al App cJ cB cz bW aL bD aq bT av ak aW mapA
structure nU (w h:Int) (us:List aU):Prop where
 wh:iO w h
 ids:(us.map (·.id)).Pairwise (·<·)
 pos:∀u∈us,0<=u.id
 at_:∀u∈us,bF w h u.cell/\bF w h u.goal
 nd:(us.map (·.cell)).Nodup
section
variable {F:Nat->Prop}{W w w0:World}{L:List As}{la:Option Addr}{ln lc:Nat}{us:List aU}{mw mh:Int}
def AA {c:Int}(h:bF mw mh c):iF c:=by have:=mY h.1;have:=h.2;unfold iF;omega
def Rn {Q:Bool->World->Prop}(s0:Sep F W w0 L)(hU:Sl w0 la ln lc 3 iy us)(qe:ln<=1000000)(hm:nU mw mh us)
  (h:∀w',Sep F W w' L->Fr No w0 w'->Q true w'):CK mw mh la ln lc w0 Q:=by
 apply adL;apply pQ;rw[decide_eq_true hm.wh,Bool.not_true,cond_false];refine afD O1 (bh (F:=No)) 3 λmb w s=>?_;have s:=s;have loop:∀(j i:Nat) (last:Int) (ms:List (Int×Bool)) (w:World),i+j=ln->(∀u∈us.drop i,last<u.id)->oS ms->(∀g,fy ms g=if g∈(us.take i).map (·.cell)then some true else none)->Sep No w0 w (fO fq C9 mb ms::[])->
   Gh Q (j+1) mw mh last (some mb) la ln lc (ln:Int) i w:=by
  intro j;induction j with
  |zero=>
   intro i last ms w hij hl hk ha s;show Ci _ _ _ _ _ _ _ _ _ _ _ _;rw[Ci,bq];exact h w (fu s0 (ai s)) (au s)
  |succ j ih=>
   intro i last ms w hij hl hk ha s;show Ci _ _ _ _ _ _ _ _ _ _ _ _;rw[Ci,bM];refine(hU.fr (au s)).El rfl (by omega) λp u hu hc=>?_;have hmem:=List.mem_of_getElem? hu;obtain⟨YE,U7⟩:=hm.at_ u hmem;have hd:us.drop i=u::us.drop (i+1):=by have hi:=(List.getElem?_eq_some_iff.1 hu).1;rw[List.drop_eq_getElem_cons hi];have:=(List.getElem?_eq_some_iff.1 hu).2;rw[this]
   have yj:us.take (i+1)=us.take i++[u]:=by rw[List.take_add_one,hu];rfl
   have hno:u.cell∉(us.take i).map (·.cell):=λhin=>by have hnd:=hm.nd;rw[<-List.take_append_drop i us,hd,List.map_append,List.map_cons,List.nodup_append]at hnd;exact hnd.2.2 _ hin _ (List.mem_cons_self ..) rfl
   have awb:=hl u (by rw[hd];exact List.mem_cons_self ..);have awu:∀v∈us.drop (i+1),u.id<v.id:=λv hv=>by have hp:=hm.ids;rw[<-List.take_append_drop i us,hd,List.map_append,List.map_cons,List.pairwise_append]at hp;exact(List.pairwise_cons.1 hp.2.1).1 v.id (List.mem_map.2 ⟨v,hv,rfl⟩)
   have wr:IntKind.wrap .i64 ((i:Int)+1)=((i+1:Nat):Int):=by rw[Hz (iF.wf (by unfold iF;omega))];omega
   refine aR (hc 0 _ rfl) (aR (hc 1 _ rfl) (aR (hc 2 _ rfl) ?_));refine aS s λx w s=>?_;refine sT s 0 rfl λw s=>?_;refine sT s 0 rfl λw s=>?_;refine ax s (i:=0) rfl rfl rfl λw s=>?_;apply lI s 0 rfl;rw[bq];apply lI s 0 rfl;refine eZ s λw s _=>?_;have h1:=(bV YE).2.1;have h2:=(bV U7).2.1;rw[bq];apply lI s 0 rfl;refine eZ s λw s _=>?_;rw[bq];apply lI s 0 rfl;rw[wr];refine Ew (K:=fq) O1 (aax w) s (i:=1) rfl hk (AA YE) (λhn=>?_) λb hb=>?_
   ·have s:=ay s;refine lI s 0 rfl (lI s 0 rfl ⟨cg s 0 rfl,?_⟩);refine L5 O1 s (i:=1) rfl hk (AA YE) λms' w hk' Ed hl' s=>?_;refine ih (i+1) u.id ms' w (by omega) awu hk' (λg=>?_) (ai s);rw[Ed,ha,yj,List.map_append];by_cases e:g=u.cell
    ·rw[if_pos e,if_pos (by rw[e];simp)]
    ·have:(g∈(us.take i).map (·.cell)++[u].map (·.cell))↔g∈(us.take i).map (·.cell):=by simp[e]
     rw[if_neg e];simp only[this]
   ·rw[ha,if_neg hno]at hb;cases hb
 exact⟨ln+1,loop ln 0 (-1) [] w (by omega) (λu hu=>by have:=hm.pos u (List.mem_of_mem_drop hu);omega) List.Pairwise.nil (λg=>rfl) s⟩
end
end Go.Proofs.YtmegplnmiepfbaaGreatDoor.S
namespace Go.Proofs.YtmegplnmiepfbaaGreatDoor.S
open Go.Sx
def stand (us:List aU)(c:Int):Bool:=us.any λv=>decide (v.cell=c)
def uI (w h:Int)(st:List aU)(u:aU)(d:Int):Bool:=decide (0<=aX w h u.cell d)&&!stand st (aX w h u.cell d)
def nX (w h:Int)(u:aU)(d:Int):List aU:=if aX w h u.cell d=u.goal then[]else[⟨u.id,aX w h u.cell d,u.goal⟩]
def dg (w h:Int):List aU->List (aU×Int)->List aU×List (Int×Int)×List Int
 |done,[]=>(done,[],[])
 |done,(u,d)::rest=>
  if uI w h (done++u::rest.map (·.1)) u d=true then
   ((dg w h (done++nX w h u d) rest).1,(u.id,aX w h u.cell d)::(dg w h (done++nX w h u d) rest).2.1,(if aX w h u.cell d=u.goal then[u.id]else[])++(dg w h (done++nX w h u d) rest).2.2)
  else dg w h (done++[u]) rest
section
variable {w h d:Int}{done us:List aU}{u:aU}{rest todo:List (aU×Int)}
def Ia (hb:uI w h (done++u::rest.map (·.1)) u d=true):dg w h done ((u,d)::rest)=((dg w h (done++nX w h u d) rest).1,(u.id,aX w h u.cell d)::(dg w h (done++nX w h u d) rest).2.1,(if aX w h u.cell d=u.goal then[u.id]else[])++(dg w h (done++nX w h u d) rest).2.2):=by rw[dg,if_pos hb]
def Ib (hb:uI w h (done++u::rest.map (·.1)) u d=false):dg w h done ((u,d)::rest)=dg w h (done++[u]) rest:=by rw[dg,if_neg (by grind)]
def afE {c:Int}:stand us c=true↔c∈us.map (·.cell):=by unfold stand;grind
def aey:uI w h us u d=true↔0<=aX w h u.cell d/\aX w h u.cell d∉us.map (·.cell):=by rw[uI,Bool.and_eq_true,decide_eq_true_eq,<-afE];grind
def nU.sub {us':List aU}(hm:nU w h us)(hs:us'.Sublist us):nU w h us':=
 ⟨hm.wh,hm.ids.sublist (hs.map _),λv hv=>hm.pos v (hs.subset hv),λv hv=>hm.at_ v (hs.subset hv),hm.nd.sublist (hs.map _)⟩
def nU.WQ {v:aU}{us':List aU}(hm:nU w h (done++u::us'))(zT:v.id=u.id)(hc:bF w h v.cell)(hg:bF w h v.goal)(hn:v.cell∉(done++us').map (·.cell)):nU w h (done++v::us'):=by
 have hmem:∀x∈done++v::us',x=v\/x∈done++u::us':=λx hx=>by grind
 have hu:u∈done++u::us':=by simp
 refine⟨hm.wh,?_,λx hx=>?_,λx hx=>?_,?_⟩
 ·have:=hm.ids;grind
 ·rcases hmem x hx with rfl|hx
  ·rw[zT];exact hm.pos u hu
  ·exact hm.pos x hx
 ·rcases hmem x hx with rfl|hx
  ·grind
  ·exact hm.at_ x hx
 ·have h0:=hm.nd;grind
def ai_ (hb:uI w h us u d=true):bF w h (aX w h u.cell d):=(xN (aey.1 hb).1).2
def aja {us':List aU}(hm:nU w h (done++u::us'))(hb:uI w h (done++u::us') u d=true):nU w h ((done++nX w h u d)++us'):=by
 obtain⟨h0,h1⟩:=aey.1 hb;rw[List.append_assoc];unfold nX;split
 ·exact hm.sub (List.Sublist.append_left (List.sublist_cons_self _ _) _)
 ·refine hm.WQ rfl (ai_ hb) (hm.at_ u (by simp)).2 λhin=>h1 ?_;grind
def WS:∀(todo:List (aU×Int)) (done:List aU),nU w h (done++todo.map (·.1))->nU w h (dg w h done todo).1
 |[],done,hm=>by simpa[dg]using hm
 |(u,d)::rest,done,hm=>by
  cases hb:uI w h (done++u::rest.map (·.1)) u d with
  |true=>
   rw[Ia hb];exact WS rest _ (aja hm hb)
  |false=>
   rw[Ib hb];exact WS rest _ (by grind)
def acC:∀(todo:List (aU×Int)) (done:List aU),(dg w h done todo).2.1=[]->(dg w h done todo).1=done++todo.map (·.1)
 |[],done,_=>by simp[dg]
 |(u,d)::rest,done,hm=>by
  cases hb:uI w h (done++u::rest.map (·.1)) u d with
  |true=>rw[Ia hb]at hm;cases hm
  |false=>
   rw[Ib hb]at hm⊢;rw[acC rest _ hm];simp
def acD:∀(todo:List (aU×Int)) (done:List aU) {m:Int×Int} {ms:List (Int×Int)},(dg w h done todo).2.1=m::ms->
  ∃done' u d rest,uI w h (done'++u::rest.map (·.1)) u d=true/\done'++u::rest.map (·.1)=done++todo.map (·.1)/\m=(u.id,aX w h u.cell d)/\(dg w h (done'++nX w h u d) rest).2.1=ms/\(dg w h (done'++nX w h u d) rest).1=(dg w h done todo).1
 |[],done,_,_,hm=>by cases hm
 |(u,d)::rest,done,m,ms,hm=>by
  cases hb:uI w h (done++u::rest.map (·.1)) u d with
  |true=>
   rw[Ia hb]at hm⊢;grind
  |false=>
   rw[Ib hb]at hm⊢;obtain⟨done',u',d',rest',h1,h2,h3⟩:=acD rest _ hm;grind
def N6:∀(todo:List (aU×Int)) (done:List aU),(dg w h done todo).1.length+(dg w h done todo).2.2.length=done.length+todo.length/\(dg w h done todo).2.1.length<=todo.length
 |[],done=>by simp[dg]
 |(u,d)::rest,done=>by
  cases hb:uI w h (done++u::rest.map (·.1)) u d with
  |true=>
   rw[Ia hb];have:=N6 rest (done++nX w h u d);have hw:(nX w h u d).length+(if aX w h u.cell d=u.goal then[u.id]else[]).length=1:=by unfold nX;split<;>rfl
   grind
  |false=>
   rw[Ib hb];have:=N6 rest (done++[u]);grind
end
end Go.Proofs.YtmegplnmiepfbaaGreatDoor.S
namespace Go.Proofs.YtmegplnmiepfbaaGreatDoor.S
open Go.Sx
attribute [local irreducible] af cE bw bg aA cu bY St Bx Al App cJ cB cz bW aL bD aq bT av ak aW mapA
def Mf {i:Nat}(h:i<=1000000000):IntKind.wrap .i64 ((i:Int)+1)=((i+1:Nat):Int):=by rw[Hz (iF.wf (by unfold iF;omega))];omega
def lO (x:Int×Int):List Value:=[ae x.1,ae x.2]
def N7 (x:Int×Int):(lO x).length=2:=rfl
def apa (x:Int×Int)(u:Value)(h:u∈lO x):u.oneCell'=true:=by unfold lO at h;simp[List.mem_cons,List.not_mem_nil,or_false]at h;rcases h with rfl|rfl<;>rfl
section
variable {F:Nat->Prop}{W w w0:World}{L:List As}{a:Option Addr}{n c:Nat}{mv:List (Int×Int)}
def WT {K:Addr->World->Prop}{p:Addr}{u:aU}(hc:∀j v,(iy u)[j]? =some v->w.cell? (p.add j)=some v)(s:Sep F W w L)(h:∀x w',Sep F W w' (av x 43 (iy u)::L)->K (aZ x) w'):
  af .i64 (p.add 0) w λa=>af .i64 (p.add 1) w λb=>af .i64 (p.add 2) w λc=>Al T 43 w λx w=>St (x.add 0) (ae a) w λw=>St (x.add 1) (ae b) w λw=>St (x.add 2) (ae c) w λw=>K x w:=by
 refine aR (hc 0 _ rfl) (aR (hc 1 _ rfl) (aR (hc 2 _ rfl) ?_));refine aS s λx w s=>?_;refine sT s 0 rfl λw s=>?_;refine sT s 0 rfl λw s=>?_;refine ax s (i:=0) rfl rfl rfl λw s=>?_;exact h x w s
end
def Mg (ms:List (Int×Bool))(us:List aU):Prop:=oS ms/\∀c,fy ms c=if stand us c=true then some true else none
def Cz {us vs:List aU}{c:Int}:stand (us++vs) c=(stand us c||stand vs c):=by unfold stand;grind
def KD {u:aU}{us:List aU}{c:Int}:stand (u::us) c=(decide (u.cell=c)||stand us c):=by unfold stand;grind
def ajb {us:List aU}{c:Int}:stand us c=false↔c∉us.map (·.cell):=by rw[<-afE];grind
def apb {w h c:Int}(hc:bF w h c):aX w h c 4=c:=by obtain⟨h1,h2,e⟩:=Iq hc;rw[aX,if_pos hc,if_neg (by decide),if_neg (by decide),if_neg (by decide),if_neg (by decide),if_pos rfl,ni hc.1 h1 h2];exact e.symm
def apc {w h c:Int}:aX w h c 5=-1:=by unfold aX;split<;>rfl
abbrev WU (mw mh:Int)(mb:Nat)(ma:Option Addr)(mn mc:Nat)(ga:Option Addr)(gn gc:Nat):List Value:=[ae mw,ae mh,.map (some mb),.slice ma mn mc,.slice ga gn gc]
section
variable {F:Nat->Prop}{W w w0:World}{L:List As}{ma ga:Option Addr}{mn mc gn gc mb fb ub:Nat}{mv:List (Int×Int)}{gs:List Int}{ms:List (Int×Bool)}{mw mh d:Int}{done us:List aU}{u:aU}
def atw {Q:Bool->World->Prop}(hm:nU mw mh (done++u::us))(hS:Mg ms (done++u::us))(hmn:mn<=100000000)(G8:gn<=100000000)(s:Sep F W w (av ub 43 (iy u)::av fb 260 (WU mw mh mb ma mn mc ga gn gc)::fO fq C9 mb ms::ak ma mn mc 51 2 (flat lO mv)::ak ga gn gc 3 1 (flat one gs)::L))
  (hno:uI mw mh (done++u::us) u d=false->∀w',Sep F W w' (av fb 260 (WU mw mh mb ma mn mc ga gn gc)::fO fq C9 mb ms::ak ma mn mc 51 2 (flat lO mv)::ak ga gn gc 3 1 (flat one gs)::av ub 43 (iy u)::L)->Q true w')
  (hyes:uI mw mh (done++u::us) u d=true->∀ms' ma' WV YO YP gc' w',YP<=gn+1->Mg ms' ((done++nX mw mh u d)++us)->Sep F W w' (av fb 260 (WU mw mh mb ma' (mn+1) WV YO YP gc')::fO fq C9 mb ms'::ak ma' (mn+1) WV 51 2 (flat lO (mv++[(u.id,aX mw mh u.cell d)]))::ak YO YP gc' 3 1 (flat one (gs++if aX mw mh u.cell d=u.goal then[u.id]else[]))::av ub 43 (iy ⟨u.id,aX mw mh u.cell d,u.goal⟩)::L)->Q (!decide (aX mw mh u.cell d=u.goal)) w'):
  kJ Q (sZ fb) (sZ ub) d w:=by
 have hu:=hm.at_ u (by simp);have s:=ay s;refine ah (lI s 1 rfl (ah (lI s 1 rfl (ah (lI s 0 rfl ?_)))));refine jt s λw s _=>?_;have fin:uI mw mh (done++u::us) u d=false->Q true w:=λhb=>hno hb w (pk 5 [1,2,3,4,0] s);by_cases h0:aX mw mh u.cell d<0
 ·rw[bM h0];apply fin;unfold uI;grind
 rw[bq h0];have h0:0<=aX mw mh u.cell d:=by omega
 have hto:=(xN h0).2;refine ah (lM s 1 rfl ?_);refine Ew (K:=fq) O1 (aax w) s (i:=2) rfl hS.1 (AA hto) (λhn=>?_) λb hb=>?_
 ·have hst:stand (done++u::us) (aX mw mh u.cell d)=false:=by
   rw[hS.2]at hn;split at hn
   ·cases hn
   ·exact Bool.eq_false_iff.2 ‹_›
  have hb:uI mw mh (done++u::us) u d=true:=by rw[uI,decide_eq_true h0,hst];rfl
  have hyes:=hyes hb;unfold nX at hyes;generalize aX mw mh u.cell d=to at*;apply aer;have s:=ay s;refine ah (lM s 1 rfl (ah (lI s 0 rfl ?_)));refine au_ (K:=fq) O1 s (i:=2) rfl hS.1 (AA hu.1) λms1 w hk1 ha1 _ s=>?_;have hcells:∀c,stand (done++us) c=if c=u.cell then false else stand (done++u::us) c:=λc=>by
   rw[Cz,Cz,KD];by_cases e:c=u.cell
   ·rw[if_pos e,e];have:=hm.nd;rw[List.map_append,List.map_cons,List.nodup_append,List.nodup_cons]at this;rw[ajb.2 λh=>this.2.2 _ h _ (List.mem_cons_self ..) rfl,ajb.2 this.2.1.1];rfl
   ·rw[if_neg e,decide_eq_false λh=>e h.symm,Bool.false_or]
  have hS1:Mg ms1 (done++us):=⟨hk1,λc=>by
   rw[ha1,hS.2,hcells];by_cases e:c=u.cell
   ·rw[if_pos e,if_pos e];rfl
   ·rw[if_neg e,if_neg e]⟩
  refine ah (sT s 0 rfl λw s=>?_);have s:=ay s;refine ah (lS s 1 rfl (ah (lI s 0 rfl ?_)));have s:=pk 5 [3,0,1,2,4] s;refine aO s λxb w s=>⟨cg s 3 rfl,?_⟩;have src:Src w (sZ xb) 1 2 (lO (u.id,to)):=⟨rfl,apa _,λj v hj=>by rw[cq,Nat.zero_add];exact cM s (i:=0) rfl rfl hj⟩;refine ig ee s (i:=1) (bytes:=16) rfl rfl rfl rfl rfl rfl (by decide) rfl src (by simp[maxLen];omega) (by omega) (λe=>by cases e) λma' WV w s=>?_;have e:flat lO mv++lO (u.id,to)=flat lO (mv++[(u.id,to)]):=by rw[fX];simp[flat]
  rw[e]at s;refine ah (ax s (i:=3) rfl rfl rfl λw s=>?_);refine ah (lI s 2 rfl ?_);have s:=ai s;by_cases hg:to=u.goal
  ·rw[dN hg,cond_true];have s:=ay s;refine ah (lS s 2 rfl (ah (lI s 1 rfl ?_)));refine aO s λxb w s=>⟨cg s 3 rfl,?_⟩;have src:Src w (sZ xb) 1 1 (one u.id):=⟨rfl,E_ _,λj v hj=>by rw[cq,Nat.zero_add];exact cM s (i:=0) rfl rfl hj⟩;refine ig ee s (i:=5) (size:=1) (bytes:=8) rfl rfl rfl rfl rfl rfl (by decide) rfl src (by simp[maxLen];omega) (by omega) (λe=>by cases e) λYO gc' w s=>?_;have e:flat one gs++one u.id=flat one (gs++[u.id]):=by rw[fX];simp[flat]
   rw[e]at s;refine ah (ax s (i:=3) rfl rfl rfl λw s=>?_);have s:=pk 6 [3,4,1,5,2] s;have:=hyes ms1 ma' WV YO (gn+1) gc' w (Nat.le_refl _) ?_ ?_
   ·rw[decide_eq_true hg]at this;exact this
   ·rw[if_pos hg,List.append_nil];exact hS1
   ·rw[if_pos hg];exact s
  ·rw[cy hg,cond_false];refine ah (lM s 2 rfl ?_);refine L5 (k:=3) (e:=4) (K:=fq) (v:=C9) (ms:=ms1) (a:=true) (x:=to) O1 s (i:=3) rfl hk1 (AA hto) λms2 w IN TG _ s=>?_;have s:=pk 5 [2,3,0,4,1] s;have:=hyes ms2 ma' WV ga gn gc w (Nat.le_succ _) ?_ ?_
   ·rw[decide_eq_false hg]at this;exact this
   ·rw[if_neg hg];refine⟨IN,λc=>?_⟩;rw[TG,hS1.2,Cz,Cz,Cz,KD];by_cases e:c=to
    ·rw[if_pos e,e,decide_eq_true rfl];simp
    ·rw[if_neg e,decide_eq_false λh=>e h.symm];simp[stand]
   ·rw[if_neg hg,List.append_nil];exact s
 ·have hst:stand (done++u::us) (aX mw mh u.cell d)=true:=by
   rw[hS.2]at hb;split at hb
   ·assumption
   ·cases hb
  rw[hS.2,if_pos hst]at hb;cases hb;apply amd;apply fin;rw[uI,hst];simp
def aaz {Q:Bool->World->Prop}(hd:0<=d/\d<=5)(hm:nU mw mh (done++u::us))(hS:Mg ms (done++u::us))(hmn:mn<=100000000)(G8:gn<=100000000)(s:Sep F W w (av ub 43 (iy u)::av fb 260 (WU mw mh mb ma mn mc ga gn gc)::fO fq C9 mb ms::ak ma mn mc 51 2 (flat lO mv)::ak ga gn gc 3 1 (flat one gs)::L))
  (hno:uI mw mh (done++u::us) u d=false->∀w',Sep F W w' (av fb 260 (WU mw mh mb ma mn mc ga gn gc)::fO fq C9 mb ms::ak ma mn mc 51 2 (flat lO mv)::ak ga gn gc 3 1 (flat one gs)::av ub 43 (iy u)::L)->Q true w')
  (hyes:uI mw mh (done++u::us) u d=true->∀ms' ma' WV YO YP gc' w',YP<=gn+1->Mg ms' ((done++nX mw mh u d)++us)->Sep F W w' (av fb 260 (WU mw mh mb ma' (mn+1) WV YO YP gc')::fO fq C9 mb ms'::ak ma' (mn+1) WV 51 2 (flat lO (mv++[(u.id,aX mw mh u.cell d)]))::ak YO YP gc' 3 1 (flat one (gs++if aX mw mh u.cell d=u.goal then[u.id]else[]))::av ub 43 (iy ⟨u.id,aX mw mh u.cell d,u.goal⟩)::L)->Q (!decide (aX mw mh u.cell d=u.goal)) w'):
  xX (sZ fb) (sZ ub) d w Q:=by
 apply OJ;have hb:¬(4<=d)->kJ Q (sZ fb) (sZ ub) d w:=λ_=>atw hm hS hmn G8 s hno hyes;by_cases e0:d=0
 ·grind
 rw[cy e0,cond_false];by_cases e1:d=1
 ·grind
 rw[cy e1,cond_false];by_cases e2:d=2
 ·grind
 rw[cy e2,cond_false];by_cases e3:d=3
 ·grind
 rw[cy e3,cond_false];refine hno ?_ w (pk 5 [1,2,3,4,0] s);have hu:=(hm.at_ u (by simp)).1;unfold uI;obtain rfl|rfl:d=4\/d=5:=by omega
 ·rw[apb hu,Cz,KD,decide_eq_true rfl];simp
 ·rw[apc];rfl
end
def aAh:oW 153 fns=true:=by kernel_rfl
section
variable {F:Nat->Prop}{W w w0:World}{L:List As}{la da:Option Addr}{ln lc dn dc:Nat}{us:List aU}{ds:List Int}{mw mh:Int}
def aq5 {Q:Bool->World->Prop}(hD:Sl w da dn dc 1 one ds)(hr:∀d∈ds,0<=d/\d<=5)(hn:dn<=1000000)(h:Q false w):nL da dn dc (.func (.func 153) #[] #[]) w Q:=by
 apply D6;apply Gi;have hl:=hD.len;have loop:∀(j i:Nat),i+j=dn->jR (λr w=>Q (decide (r≥0)) w) (j+1) da dn dc (.func (.func 153) #[] #[]) (dn:Int) i w:=by
  intro j;induction j with
  |zero=>
   intro i hi;show jQ _ _ _ _ _ _ _ _ _;unfold jQ;grind
  |succ j ih=>
   intro i hi;show jQ _ _ _ _ _ _ _ _ _;rw[jQ,bM];apply hD.rJ rfl (by omega);have hd:=hr _ (ff (i:=i) (by omega));unfold h_;simp only;have hc:K_ (gi ds i) w λr w'=>cond r (Q (decide ((i:Int)≥0)) w') (jR (λr w=>Q (decide (r≥0)) w) (j+1) da dn dc (.func (.func 153) #[] #[]) (dn:Int) (IntKind.wrap .i64 ((i:Int)+1)) w'):=by apply ZQ;rw[bq];show cond (decide (gi ds i>5)) _ _;rw[bq,Mf (by omega)];exact ih (i+1) (by omega)
   exact hc
 exact⟨dn+1,loop dn 0 (by omega)⟩
def aez {Q:Option Addr->Nat->Nat->Option Addr->Nat->Nat->Option Addr->Nat->Nat->Int->World->Prop}(s0:Sep F W w0 L)(hU:Sl w0 la ln lc 3 iy us)(hD:Sl w0 da dn dc 1 one ds)(hlen:ds.length=us.length)(qe:ln<=1000000)(hr:∀d∈ds,0<=d/\d<=5)(hm:nU mw mh us)
  (h:∀aa an ac ma mn mc ga gn gc w',Sep F W w' (ak ma mn mc 51 2 (flat lO (dg mw mh [] (us.zip ds)).2.1)::ak ga gn gc 3 1 (flat one (dg mw mh [] (us.zip ds)).2.2)::L)->Fr No w0 w'->Q aa an ac ma mn mc ga gn gc 0 w'):
  HE mw mh la ln lc da dn dc w0 Q:=by
 apply adO;have hul:=hU.len;have hdl:=hD.len;refine Rn (bh (F:=No)) hU qe hm λw s _=>?_;rw[Bool.not_true,cond_false,Es (by omega),cond_false];apply aq5 (hD.fr (au s)) hr (by omega);refine afD O1 s 3 λmb w s=>?_;have s:=s;refine aO s λfb w s=>?_;have avv:(us.zip ds).map (·.1)=us:=by rw[List.map_fst_zip];omega
 have walk:∀(j i:Nat) (done:List aU) (ms:List (Int×Bool)) (mv:List (Int×Int)) (gs:List Int) (aa ma ga:Option Addr) (an ac mn mc gn gc:Nat) (w:World),i+j=ln->mn<=i->gn<=i->an<=i->nU mw mh (done++((us.zip ds).drop i).map (·.1))->Mg ms (done++((us.zip ds).drop i).map (·.1))->
   mv++(dg mw mh done ((us.zip ds).drop i)).2.1=(dg mw mh [] (us.zip ds)).2.1->gs++(dg mw mh done ((us.zip ds).drop i)).2.2=(dg mw mh [] (us.zip ds)).2.2->
   Sep No w0 w (av fb 260 (WU mw mh mb ma mn mc ga gn gc)::fO fq C9 mb ms::ak ma mn mc 51 2 (flat lO mv)::ak ga gn gc 3 1 (flat one gs)::ak aa an ac 43 3 (flat iy done)::[])->
   Er Q (j+1) da dn dc aa an ac (aZ fb) la ln lc (ln:Int) i w:=by
  intro j;induction j with
  |zero=>
   intro i done ms mv gs aa ma ga an ac mn mc gn gc w hij hmn G8 han hM hS TM E6 s;show AT _ _ _ _ _ _ _ _ _ _ _ _ _ _ _;rw[AT,bq];have s:=ay s;have hz:(us.zip ds).drop i=[]:=List.drop_eq_nil_of_le (by grind);rw[hz]at TM E6;simp[dg,List.append_nil]at TM E6;have c3:=cM s (i:=0) (j:=3) rfl rfl rfl;have c4:=cM s (i:=0) (j:=4) rfl rfl rfl;refine lS s 0 rfl (lS s 0 rfl ⟨c4,c3,c4,?_⟩);rw[TM,E6]at s;have s:=cf (L':=[_,_]) [2,3] s rfl (by decide);exact h aa an ac ma mn mc ga gn gc _ (fu s0 s) (au s)
  |succ j ih=>
   intro i done ms mv gs aa ma ga an ac mn mc gn gc w hij hmn G8 han hM hS TM E6 s;show AT _ _ _ _ _ _ _ _ _ _ _ _ _ _ _;rw[AT,bM];refine(hU.fr (au s)).El rfl (by omega) λp u hu hc=>?_;have hdi:ds[i]? =some (gi ds i):=iz (by omega);have hd:=hr _ (List.mem_of_getElem? hdi);have hz:(us.zip ds).drop i=(u,gi ds i)::(us.zip ds).drop (i+1):=by
    have hzi:(us.zip ds)[i]? =some (u,gi ds i):=by rw[List.getElem?_zip_eq_some];exact⟨hu,hdi⟩
    obtain⟨hlt,e⟩:=List.getElem?_eq_some_iff.1 hzi;rw[List.drop_eq_getElem_cons hlt,e]
   rw[hz]at hM hS TM E6;have hM:=hM;have hS:=hS;refine WT hc s λub w s=>?_;apply(hD.fr (au s)).rJ rfl (by omega);generalize gi ds i=d at*;rw[Mf (by omega)];refine aaz hd hM hS (by omega) (by omega) s (λhb w s=>?_) λhb ms' ma' WV YO YP gc' w aBS hS' s=>?_
   ·rw[Ib hb]at TM E6;refine lI s 4 rfl (lI s 4 rfl (lI s 4 rfl ?_));have s:=cf (L':=[_,_,_,_,_]) [5,0,1,2,3] s rfl (by decide);refine aq3 s (by omega) λaa' ac' w s=>?_;exact ih (i+1) (done++[u]) ms mv gs aa' ma ga (an+1) ac' mn mc gn gc w (by omega) (by omega) (by omega) (by omega) (by rw[List.append_assoc];exact hM) (by rw[List.append_assoc];exact hS) TM E6 (cf (L':=[_,_,_,_,_]) [1,2,3,4,0] s rfl (by decide))
   ·rw[Ia hb]at TM E6;have hM':=aja hM hb;by_cases hg:aX mw mh u.cell d=u.goal
    ·rw[decide_eq_true hg,Bool.not_true,cond_false];have ew:nX mw mh u d=[]:=by unfold nX;rw[if_pos hg]
     rw[ew,List.append_nil]at hM' hS' TM E6;exact ih (i+1) done ms' _ _ aa ma' YO an ac (mn+1) WV YP gc' w (by omega) (by omega) (by omega) (by omega) hM' hS' (by rw[List.append_assoc];exact TM) (by rw[List.append_assoc];exact E6) (cf (L':=[_,_,_,_,_]) [0,1,2,3,5] s rfl (by decide))
    ·rw[decide_eq_false hg,Bool.not_false,cond_true];have ew:nX mw mh u d=[⟨u.id,aX mw mh u.cell d,u.goal⟩]:=by unfold nX;rw[if_neg hg]
     rw[ew]at hM' hS' TM E6;rw[if_neg hg,List.append_nil]at s;rw[if_neg hg,List.nil_append]at E6;refine lI s 4 rfl (lI s 4 rfl (lI s 4 rfl ?_));have s:=cf (L':=[_,_,_,_,_]) [5,0,1,2,3] s rfl (by decide);refine aq3 s (by omega) λaa' ac' w s=>?_;exact ih (i+1) _ ms' _ gs aa' ma' YO (an+1) ac' (mn+1) WV YP gc' w (by omega) (by omega) (by omega) (by omega) hM' hS' (by rw[List.append_assoc];exact TM) E6 (cf (L':=[_,_,_,_,_]) [1,2,3,4,0] s rfl (by decide))
 have fill:∀(j i:Nat) (ms:List (Int×Bool)) (w:World),i+j=ln->Mg ms (us.take i)->Sep No w0 w (av fb 260 (WU mw mh mb none 0 0 none 0 0)::fO fq C9 mb ms::[])->
   Gj Q (j+1) la ln lc da dn dc none 0 0 (aZ fb) la ln lc (ln:Int) i w:=by
  intro j;induction j with
  |zero=>
   intro i ms w hij hS s;show Cj _ _ _ _ _ _ _ _ _ _ _ _ _ _ _ _ _ _;rw[Cj,bq];rw[List.take_of_length_le (by omega)]at hS;have s:=bE (bE (bE s 3 1) 51 2) 43 3;have s:=cf (L':=[_,_,_,_,_]) [3,4,1,2,0] s rfl (by decide);refine⟨ln+1,walk ln 0 [] ms [] [] none none none 0 0 0 0 0 0 w (by omega) (by omega) (by omega) (by omega) ?_ ?_ rfl rfl s⟩
   ·rw[List.drop_zero,avv];exact hm
   ·rw[List.drop_zero,avv];exact hS
  |succ j ih=>
   intro i ms w hij hS s;show Cj _ _ _ _ _ _ _ _ _ _ _ _ _ _ _ _ _ _;rw[Cj,bM];refine(hU.fr (au s)).El rfl (by omega) λp u hu hc=>?_;refine WT hc s λub w s=>?_;have s:=ay s;refine lM s 1 rfl (lI s 0 rfl ?_);have hcell:=(hm.at_ u (List.mem_of_getElem? hu)).1;refine L5 O1 s (i:=2) rfl hS.1 (AA hcell) λms2 w IN TG _ s=>?_;rw[Mf (by omega)];refine ih (i+1) ms2 w (by omega) ⟨IN,λc=>?_⟩ (ai s);have yj:us.take (i+1)=us.take i++[u]:=by rw[List.take_add_one,hu];rfl
   rw[TG,hS.2,yj,Cz,KD];by_cases e:c=u.cell
   ·rw[if_pos e,e,decide_eq_true rfl];simp
   ·rw[if_neg e,decide_eq_false λh=>e h.symm];simp[stand]
 refine⟨ln+1,fill ln 0 [] w (by omega) ⟨List.Pairwise.nil,λc=>rfl⟩ s⟩
end
def atU (us:List aU)(c:Int):Option aU:=us.find? λv=>decide (v.cell=c)
def vz (us:List aU)(c:Int):Int:=match atU us c with
 |some u=>u.id
 |none=>-1
section
variable {us us':List aU}{u:aU}{c:Int}
def Ic (h:c∉us.map (·.cell)):vz us c=-1:=by
 have:atU us c=none:=by unfold atU;grind
 rw[vz,this]
def AB (hn:(us.map (·.cell)).Nodup)(h:u∈us):vz us u.cell=u.id:=by
 have:atU us u.cell=some u:=by
  unfold atU;induction us with
  |nil=>cases h
  |cons v us ih=>
   grind
 rw[vz,this]
def aaA (hn:(us.map (·.cell)).Nodup)(hn':(us'.map (·.cell)).Nodup)(h:∀v:aU,v.cell=c->(v∈us↔v∈us')):vz us c=vz us' c:=by
 by_cases hc:c∈us.map (·.cell)
 ·obtain⟨v,hv,rfl⟩:=List.mem_map.1 hc;rw[AB hn hv,AB hn' ((h v rfl).1 hv)]
 ·rw[Ic hc,Ic λe=>?_];grind
def atx {w h:Int}(hm:nU w h us):vz us c=-1\/0<=vz us c/\∃u∈us,u.cell=c/\vz us c=u.id:=by
 by_cases hc:c∈us.map (·.cell)
 ·obtain⟨v,hv,rfl⟩:=List.mem_map.1 hc;rw[AB hm.nd hv];exact .inr ⟨hm.pos v hv,v,hv,rfl,rfl⟩
 ·exact .inl (Ic hc)
end
structure GQ (w h:Int) (us:List aU) (ws:List Int):Prop where
 len:(ws.length:Int)=w*h
 at_:∀c,bF w h c->gi ws c.toNat=vz us c+1
section
variable {us us':List aU}{u:aU}{c v mw mh:Int}{ws:List Int}
def GQ.lt (h:GQ mw mh us ws)(hc:bF mw mh c):0<=c/\c<ws.length:=by have:=h.len;have:=hc.2;omega
def GQ.who (h:GQ mw mh us ws)(hc:bF mw mh c):Cn ws c=vz us c:=by rw[Cn,if_pos (h.lt hc),h.at_ c hc];omega
def GQ.free (h:GQ mw mh us ws)(hc:bF mw mh c):Ar ws c=decide (vz us c=-1):=by rw[Ar,decide_eq_true (h.lt hc),h.at_ c hc,Bool.true_and,Bool.eq_iff_iff,beq_iff_eq,decide_eq_true_eq];omega
def GQ.set (h:GQ mw mh us ws)(hc:bF mw mh c)(e:∀c',bF mw mh c'->vz us' c'+1=if c'=c then v else vz us c'+1):GQ mw mh us' (ws.set c.toNat v):=by have hl:=h.lt hc;refine⟨by rw[List.length_set];exact h.len,λc' Bj=>?_⟩;rw[aaW (by omega),e c' Bj,h.at_ c' Bj];have:=Bj.2;omega
def ak3 {done:List aU}(hm:nU mw mh (done++u::us))(hf:GQ mw mh (done++u::us) ws):GQ mw mh (done++us) (ws.set u.cell.toNat 0):=by
 have D9:=hm.sub (us':=done++us) (List.Sublist.append_left (List.sublist_cons_self _ _) _);refine hf.set (hm.at_ u (by simp)).1 λc' _=>?_;have hnd:=hm.nd;by_cases e:c'=u.cell
 ·rw[if_pos e,e,Ic]
  all_goals grind
 ·rw[if_neg e,aaA D9.nd hm.nd λv hv=>?_];grind
def ape {done:List aU}(hm:nU mw mh (done++u::us))(hf:GQ mw mh (done++us) ws):GQ mw mh (done++u::us) (ws.set u.cell.toNat (u.id+1)):=by
 have D9:=hm.sub (us':=done++us) (List.Sublist.append_left (List.sublist_cons_self _ _) _);refine hf.set (hm.at_ u (by simp)).1 λc' _=>?_;by_cases e:c'=u.cell
 ·rw[if_pos e,e,AB hm.nd (by simp)]
 ·rw[if_neg e,aaA hm.nd D9.nd λv hv=>?_];grind
end
structure CrR where
 p:Nat
 un:Wq
 fl:QU
structure Hq where
 w:Int
 h:Int
 y:tF
 ws:List Int
structure aq6 (x:Hq):Prop where
 may:nU x.w x.h x.y.us
 fl:GQ x.w x.h x.y.us x.ws
def zG (r:CrR)(x:Hq):List Value:=[ae x.w,ae x.h,ae x.y.most,.pointer (sZ r.un.p),.pointer (sZ r.fl.p)]
noncomputable def aty (r:CrR)(x:Hq):List As:=[av r.p 125 (zG r x),v_ r.un x.y,vu r.fl x.ws]
noncomputable def fV (r:CrR)(x:Hq):As:=aW (aq6 x) (aty r x)
def vA (w h:Int)(y:tF)(cell goal:Int):Int:=if¬(bF w h cell/\bF w h goal)then 7 else if vz y.us cell≠-1 then 10 else if(y.us.length:Int)≥y.most then 11 else if cell=goal then 13 else 0
section
variable {F:Nat->Prop}{W w w0:World}{L:List As}{r:CrR}{x:Hq}{cell goal id:Int}
def q_ (s:Sep F W w (fV r x::L)):aq6 x/\Sep F W w (av r.p 125 (zG r x)::v_ r.un x.y::vu r.fl x.ws::L):=gL s
def ye (s:Sep F W w (av r.p 125 (zG r x)::v_ r.un x.y::vu r.fl x.ws::L))(h:aq6 x):Sep F W w (fV r x::L):=dz s h
def ak4 {u:aU}{us:List aU}{mw mh:Int}(hm:nU mw mh us)(zT:∀v∈us,v.id<u.id)(hp:0<=u.id)(hc:bF mw mh u.cell)(hg:bF mw mh u.goal)(hn:u.cell∉us.map (·.cell)):nU mw mh (us++[u]):=by
 have hm1:∀v∈us++[u],v∈us\/v=u:=λv hv=>by grind
 refine⟨hm.wh,?_,λv hv=>?_,λv hv=>?_,?_⟩
 ·rw[List.map_append,List.pairwise_append];refine⟨hm.ids,by simp,λa ha b hb=>?_⟩;grind
 ·rcases hm1 v hv with hv|rfl
  ·exact hm.pos v hv
  ·exact hp
 ·rcases hm1 v hv with hv|rfl
  ·exact hm.at_ v hv
  grind
 ·rw[List.map_append,List.nodup_append];refine⟨hm.nd,by simp,λa ha b hb=>?_⟩;grind
def acE {Q:Option Addr->World->Prop}{mw mh most:Int}(hm:iO mw mh)(Xu:1<=most/\most<=65536)(s:Sep F W w L)(h:∀r ws w',Sep F W w' (fV r ⟨mw,mh,⟨most,0,[]⟩,ws⟩::L)->Q (sZ r.p) w'):F4 mw mh most w Q:=by apply abl;have hwh:=mY hm;apply pQ;rw[decide_eq_true hm,Bool.not_true,cond_false,bq,bq];refine ab7 Xu s λur w s=>?_;rw[aG,show mw*mh=(((mw*mh).toNat:Nat):Int) by omega];refine abH s (by omega) λfr w s=>?_;refine aO s λp w s=>?_;have s:=pk 3 [0,2,1] s;refine h ⟨p,ur,fr⟩ _ w (ye s ⟨⟨hm,List.Pairwise.nil,(λu hu=>by cases hu),(λu hu=>by cases hu),List.Pairwise.nil⟩,⟨by grind,λc hc=>?_⟩⟩);have:0<=c/\c<mw*mh:=hc.2;show(List.replicate _ _).getD _ _=_;rw[List.getD_eq_getElem?_getD,List.getElem?_replicate,AI];rfl
def amo {Q:Bool->World->Prop}{c:Int}(s:Sep F W w (fV r x::L))(h:∀w',Sep F W w' (fV r x::L)->Q (decide (bF x.w x.h c)) w'):pA (sZ r.p) c w Q:=by
 apply Sa;have s:=ay s;obtain⟨hok,so⟩:=q_ s;refine ah (lI so 0 rfl (ah (lI so 0 rfl ?_)));refine eZ s λw s _=>?_;have e:decide (aC x.w x.h c≥0)=decide (bF x.w x.h c):=decide_eq_decide.2 ⟨λh=>by
  by_cases hc:bF x.w x.h c
  ·exact hc
  ·unfold aC at h;grind,λh=>(bV h).2.1⟩
 grind
def afG {Q:Int->World->Prop}{c g:Int}(h:Q (if c=g then 13 else 0) w):nP Q c g w:=by unfold nP;grind
def apf {Q:Int->World->Prop}{p:Option Addr}{c g:Int}(h:Q (if c=g then 13 else 0) w):m6 p 3 c g w Q:=by apply Dk;exact afG h
def apg {Q:Int->World->Prop}(s:Sep F W w (fV r x::L))(h:∀w',Sep F W w' (fV r x::L)->Q (vA x.w x.h x.y cell goal) w'):m6 (sZ r.p) 0 cell goal w Q:=by
 apply Dk;unfold vA at h;refine amo s λw s=>?_;by_cases hc:bF x.w x.h cell
 ·rw[decide_eq_true hc,Bool.not_true,cond_false];refine amo s λw s=>?_;by_cases hg:bF x.w x.h goal
  ·rw[decide_eq_true hg,Bool.not_true,cond_false];rw[if_neg λe=>e ⟨hc,hg⟩]at h;obtain⟨hok,so⟩:=q_ s;refine ah (lP so 0 rfl ?_);apply Bt (Gs (ai (ai so)));rw[hok.fl.who hc];by_cases hw:vz x.y.us cell=-1
   ·rw[Es hw,cond_false];rw[if_neg λe=>e hw]at h;have s:=ay s;have so:=ay so;refine ah (lP so 0 rfl (ah (lI so 0 rfl ?_)));refine ab8 (ai so) ⟨cg so 0 rfl,?_⟩;by_cases hl:(x.y.us.length:Int)≥x.y.most
    ·grind
    ·rw[bq hl];rw[if_neg hl]at h;exact afG (h _ s)
   grind
  grind
 grind
def akb {y:tF}{mw mh:Int}(h:vA mw mh y cell goal=0):bF mw mh cell/\bF mw mh goal/\vz y.us cell=-1/\(y.us.length:Int)<y.most/\cell≠goal:=by unfold vA at h;grind
def ak5 {us:List aU}{mw mh c:Int}(hm:nU mw mh us):vz us c=-1↔c∉us.map (·.cell):=by refine⟨λh e=>?_,Ic⟩;obtain⟨v,hv,rfl⟩:=List.mem_map.1 e;rw[AB hm.nd hv]at h;have:=hm.pos v hv;omega
def Yl {Q:Int->Int->World->Prop}(hn:x.y.next<1000000000)(s:Sep F W w (fV r x::L))
  (GP:vA x.w x.h x.y cell goal≠0->∀w',Sep F W w' (fV r x::L)->Q (-1) (vA x.w x.h x.y cell goal) w')
  (hok:vA x.w x.h x.y cell goal=0->∀r' GR w',r'.p=r.p->Sep F W w' (fV r' ⟨x.w,x.h,O0 x.y cell goal,GR⟩::L)->Q x.y.next 0 w'):wv (sZ r.p) cell goal w Q:=by
 apply MF;refine kY (apg s λw s=>?_);by_cases h0:vA x.w x.h x.y cell goal=0
 ·rw[Es h0,cond_false];obtain⟨hc,hg,hw,hl,hne⟩:=akb h0;obtain⟨ok,s⟩:=q_ s;refine ah (lP s 0 rfl ?_);have DQ:=(uS (ai s)).1;have Rm:=DQ.Q9;have s:=pk 3 [1,0,2] s;refine acy s hn hl λur w eu s=>?_;refine ah (lP s 1 rfl ?_);have s:=pk 3 [2,1,0] s;have hfree:Ar x.ws cell=true:=by rw[ok.fl.free hc,hw];rfl
  refine Nz s (by omega) (λe=>by grind) λ_ fS w s=>?_;have hno:=(ak5 ok.may).1 hw;have hmay:=ak4 (u:=⟨x.y.next,cell,goal⟩) ok.may (λv hv=>(DQ.jA v hv).2) Rm.1 hc hg hno;have s:=f_ (A:=[_,_,_]) (B:=[av r.p 125 (zG ⟨r.p,ur,{r.fl with fS:=fS}⟩ ⟨x.w,x.h,O0 x.y cell goal,x.ws.set cell.toNat (x.y.next+1)⟩),_,_]) [1,2,0] s (by unfold zG;rw[eu];rfl) (by decide);refine hok h0 ⟨r.p,ur,{r.fl with fS:=fS}⟩ _ w rfl (ye s ⟨hmay,ape hmay (by rw[List.append_nil];exact ok.fl)⟩)
 grind
def aph {done us:List aU}{u:aU}(h:((done++u::us).map (·.id)).Pairwise (·<·)):(∀v∈done,¬v.id=u.id)/\∀v∈us,¬v.id=u.id:=by
 rw[List.map_append,List.map_cons,List.pairwise_append,List.pairwise_cons]at h;refine⟨λv hv e=>?_,λv hv e=>?_⟩
 ·have:=h.2.2 v.id (List.mem_map.2 ⟨v,hv,rfl⟩) u.id (List.mem_cons_self ..);omega
 ·have:=h.2.1.1 v.id (List.mem_map.2 ⟨v,hv,rfl⟩);omega
def aaB {done us:List aU}{u:aU}(h:((done++u::us).map (·.id)).Pairwise (·<·)):((done++u::us).filter λv=>!decide (v.id=u.id))=done++us:=by
 obtain⟨h1,h2⟩:=aph h;rw[List.filter_append,List.filter_cons,decide_eq_true rfl,List.filter_eq_self.2 λv hv=>?_,List.filter_eq_self.2 λv hv=>?_]
 all_goals grind
theorem ajd {done us:List aU}{u:aU}{f:aU->aU}(h:((done++u::us).map (·.id)).Pairwise (·<·)):((done++u::us).map λv=>if v.id=u.id then f v else v)=done++f u::us:=by
 obtain⟨h1,h2⟩:=aph h;have e:∀l:List aU,(∀v∈l,¬v.id=u.id)->(l.map λv=>if v.id=u.id then f v else v)=l:=λl hl=>by have:=List.map_congr_left (f:=λv=>if v.id=u.id then f v else v) (g:=id) λv hv=>if_neg (hl v hv);rw[this,List.map_id]
 simp_all
def acF {us:List aU}{u:aU}(h:gK us id=some u):u.id=id/\∃done rest,us=done++u::rest:=by have h1:=List.find?_some h;have h2:=List.mem_of_find?_eq_some h;exact⟨of_decide_eq_true h1,List.append_of_mem h2⟩
def aaC {done us:List aU}{u:aU}(h:((done++u::us).map (·.id)).Pairwise (·<·)):gK (done++u::us) u.id=some u:=
 Xv h (by rw[List.getElem?_append_right (Nat.le_refl _),Nat.sub_self];rfl)
def E4 {Q:World->Prop}{done us:List aU}{u:aU}(hu:x.y.us=done++u::us)(s:Sep F W w (fV r x::L))
  (h:∀r' GR w',r'.p=r.p->Sep F W w' (fV r' ⟨x.w,x.h,⟨x.y.most,x.y.next,done++us⟩,GR⟩::L)->Q w'):nK (sZ r.p) u.id u.cell u.goal w Q:=by
 apply Ox;obtain⟨ok,s⟩:=q_ s;have hmay:=ok.may;have hfl:=ok.fl;rw[hu]at hmay hfl;have amq:=hmay.at_ u (by simp);have DQ:=(uS (ai s)).1;have hru:=DQ.jA u (by rw[hu];simp);have Rm:=DQ.Q9;refine aO s λub w s=>?_;have s:=ay s;refine ah (lP s 1 rfl (lI s 0 rfl ?_));have s:=pk 4 [2,0,1,3] s;refine aaw (by unfold iF;omega) s (by rw[hu,aaC hmay.ids];rfl) λur w eu s=>?_;have s:=ay s;refine ah (lP s 2 rfl (lI s 1 rfl ?_));have ed:kV x.y u.id=⟨x.y.most,x.y.next,done++us⟩:=by rw[kV,hu,aaB hmay.ids]
 rw[ed]at s;have s:=pk 4 [3,0,2] s;have aq8:=AB hmay.nd (u:=u) (by simp);have D9:=hmay.sub (us':=done++us) (List.Sublist.append_left (List.sublist_cons_self _ _) _);refine LJ s (λe=>?_) λ_ fS w s=>?_
 ·rw[hfl.who amq.1,aq8]at e;omega
 ·have s:=f_ (A:=[_,_,_]) (B:=[av r.p 125 (zG ⟨r.p,ur,{r.fl with fS:=fS}⟩ ⟨x.w,x.h,⟨x.y.most,x.y.next,done++us⟩,x.ws.set u.cell.toNat 0⟩),_,_]) [2,1,0] s (by unfold zG;rw[eu];rfl) (by decide);refine h ⟨r.p,ur,{r.fl with fS:=fS}⟩ _ w rfl (ye s ⟨D9,ak3 hmay hfl⟩)
def acG {Q:Int->World->Prop}(hc:bF x.w x.h cell)(s:Sep F W w (fV r x::L))(h:Q (vz x.y.us cell) w):yQ (sZ r.p) cell w Q:=by apply PY;obtain⟨ok,so⟩:=q_ s;refine kY (ah (lP so 0 rfl ?_));apply Bt (Gs (ai (ai so)));rw[ok.fl.who hc];exact h
def DR {Q:Option Addr->Nat->Nat->World->Prop}(s:Sep F W w (fV r x::L))(h:∀a n c w',Sep F W w' (ak a n c 43 3 (flat iy x.y.us)::fV r x::L)->Q a n c w'):mZ (sZ r.p) w Q:=by apply MT;obtain⟨ok,s⟩:=q_ s;refine kY (ah (lP s 0 rfl ?_));refine acA (iZ s) λa n c w s=>?_;have s:=pk 4 [2,1,3,0] s;exact h a n c w (ck (ye s ok) (List.Perm.swap _ _ _))
def S9 {Q:Int->World->Prop}(zT:iF id)(s:Sep F W w (fV r x::L))(h12:gK x.y.us id=none->∀w',Sep F W w' (fV r x::L)->Q 12 w')
  (h7:∀u,gK x.y.us id=some u->¬bF x.w x.h goal->∀w',Sep F W w' (fV r x::L)->Q 7 w')
  (h13:∀u,gK x.y.us id=some u->bF x.w x.h goal->u.cell=goal->∀r' GR w',r'.p=r.p->Sep F W w' (fV r' ⟨x.w,x.h,kV x.y id,GR⟩::L)->Q 13 w')
  (h0:∀u,gK x.y.us id=some u->bF x.w x.h goal->u.cell≠goal->∀r' GR w',r'.p=r.p->Sep F W w' (fV r' ⟨x.w,x.h,vV x.y id λu=>⟨u.id,u.cell,goal⟩,GR⟩::L)->Q 0 w'):sS (sZ r.p) id goal w Q:=by
 apply JE;obtain⟨ok,s⟩:=q_ s;refine kY (ah (lP s 0 rfl ?_));have cl:∀{w:World} {A:As},Sep F W w (A::v_ r.un x.y::av r.p 125 (zG r x)::vu r.fl x.ws::L)->Sep F W w (fV r x::A::L):=λs=>ye (pk 4 [2,1,3,0] s) ok;refine sH (iZ s) zT (λhn w s=>?_) λu hu w s=>?_
 ·refine aS s λp w s=>?_;refine sT s 0 rfl λw s=>?_;refine sT s 0 rfl λw s=>?_;refine sT s 0 rfl λw s=>?_;exact h12 hn w (ai (ck (cl s) (List.Perm.swap _ _ _)))
 ·obtain⟨eid,done,rest,Hj⟩:=acF hu;have hmay:=ok.may;rw[Hj]at hmay;refine aS s λp w s=>?_;refine sT s 0 rfl λw s=>?_;refine sT s 0 rfl λw s=>?_;refine ax s (i:=0) rfl rfl rfl λw s=>?_;refine amo (cl s) λw s=>?_;by_cases hg:bF x.w x.h goal
  ·rw[decide_eq_true hg,Bool.not_true,cond_false];apply lI s 1 rfl;apply apf;by_cases hcg:u.cell=goal
   ·rw[if_pos hcg];refine lI s 1 rfl (lI s 1 rfl (lI s 1 rfl ?_));refine E4 Hj s λr' GR w e s=>?_;apply h13 u hu hg hcg r' GR w e;have ed:kV x.y id=⟨x.y.most,x.y.next,done++rest⟩:=by rw[kV,<-eid,Hj,aaB hmay.ids]
    rw[ed];exact ai (iZ s)
   ·rw[if_neg hcg];obtain⟨ok,s⟩:=q_ s;rw[Es rfl,cond_false];refine ah (lP s 0 rfl ?_);have s:=pk 4 [1,0,2] s;refine acz zT s (λhn=>by rw[hn]at hu;cases hu) λ_ ur w eu s=>?_;have s:=f_ (A:=[_,_,_]) (B:=[av r.p 125 (zG ⟨r.p,ur,r.fl⟩ ⟨x.w,x.h,vV x.y id λu=>⟨u.id,u.cell,goal⟩,x.ws⟩),_,_]) [1,0,2] s (by unfold zG;rw[eu];rfl) (by decide);have eT:(vV x.y id λu=>⟨u.id,u.cell,goal⟩).us=done++⟨u.id,u.cell,goal⟩::rest:=by rw[vV,Hj,<-eid];exact ajd hmay.ids
    have hu1:=hmay.at_ u (by simp);have hnd:=hmay.nd;rw[List.map_append,List.map_cons,List.nodup_append,List.nodup_cons]at hnd;have D9:nU x.w x.h (done++⟨u.id,u.cell,goal⟩::rest):=hmay.WQ rfl hu1.1 hg (by rw[List.map_append,List.mem_append];exact λq=>q.elim (λq=>hnd.2.2 _ q _ (List.mem_cons_self ..) rfl) hnd.2.1.1)
    refine h0 u hu hg hcg ⟨r.p,ur,r.fl⟩ x.ws w rfl (ye s ⟨?_,ok.fl.len,λc hc=>?_⟩)
    ·rw[eT];exact D9
    ·rw[eT,ok.fl.at_ c hc,Hj];congr 1;by_cases e:c=u.cell
     ·rw[e,AB hmay.nd (by simp),AB (u:=⟨u.id,u.cell,goal⟩) D9.nd (by simp)]
     ·refine aaA hmay.nd D9.nd λv hv=>?_;have:∀z:aU,z.cell=u.cell->v≠z:=λz hz q=>e (by rw[<-hv,q,hz]);simp[this u rfl,this ⟨u.id,u.cell,goal⟩ rfl]
  ·rw[decide_eq_false hg,Bool.not_false,cond_true];exact h7 u hu hg w (ai (iZ s))
def UN {Q:Int->World->Prop}(zT:iF id)(s:Sep F W w (fV r x::L))(h12:gK x.y.us id=none->∀w',Sep F W w' (fV r x::L)->Q 12 w')
  (h0:∀u,gK x.y.us id=some u->∀r' GR w',r'.p=r.p->Sep F W w' (fV r' ⟨x.w,x.h,kV x.y id,GR⟩::L)->Q 0 w'):tS (sZ r.p) id w Q:=by
 apply Kf;obtain⟨ok,s⟩:=q_ s;refine kY (ah (lP s 0 rfl ?_));have cl:∀{w:World} {A:As},Sep F W w (A::v_ r.un x.y::av r.p 125 (zG r x)::vu r.fl x.ws::L)->Sep F W w (fV r x::A::L):=λs=>ye (pk 4 [2,1,3,0] s) ok;refine sH (iZ s) zT (λhn w s=>?_) λu hu w s=>?_
 ·refine aS s λp w s=>?_;refine sT s 0 rfl λw s=>?_;refine sT s 0 rfl λw s=>?_;refine sT s 0 rfl λw s=>?_;exact h12 hn w (ai (ck (cl s) (List.Perm.swap _ _ _)))
 ·obtain⟨eid,done,rest,Hj⟩:=acF hu;have hmay:=ok.may;rw[Hj]at hmay;refine aS s λp w s=>?_;refine sT s 0 rfl λw s=>?_;refine sT s 0 rfl λw s=>?_;refine ax s (i:=0) rfl rfl rfl λw s=>?_;refine lI s 0 rfl (lI s 0 rfl (lI s 0 rfl ?_));refine E4 Hj (cl s) λr' GR w e s=>?_;apply h0 u hu r' GR w e;have ed:kV x.y id=⟨x.y.most,x.y.next,done++rest⟩:=by rw[kV,<-eid,Hj,aaB hmay.ids]
  rw[ed];exact ai (iZ s)
end
def aBT:zc T 51=[ae 0,ae 0]:=rfl
def N8 (w h:Int)(y:tF)(ds:List Int):tF:=⟨y.most,y.next,(dg w h [] (y.us.zip ds)).1⟩
section
variable {F:Nat->Prop}{W w w0:World}{L:List As}{r:CrR}{x:Hq}{da ma ga ta:Option Addr}{dn dc mn mc gn gc tn tc i mb ub:Nat}{ds:List Int}{tm:Int}
def aq9 {P7:Option Addr->Option Addr->Nat->Nat->Option Addr->Nat->Nat->Option Addr->Nat->Nat->Int->Int->World->Prop}{Q:Option Addr->Nat->Nat->Option Addr->Nat->Nat->Int->World->Prop}{done us:List aU}{u:aU}{d:Int}(hi:i<=1000000000)
  (hu:x.y.us=done++u::us)(hb:uI x.w x.h (done++u::us) u d=true)(s:Sep F W w (av ub 43 (iy u)::av mb 51 (lO (u.id,aX x.w x.h u.cell d))::fV r x::L))
  (next:∀r' GR w',r'.p=r.p->Sep F W w' (fV r' ⟨x.w,x.h,⟨x.y.most,x.y.next,(done++nX x.w x.h u d)++us⟩,GR⟩::L)->P7 (sZ r.p) ma mn mc ga gn gc ta tn tc tm ((i+1:Nat):Int) w'):
  l6 P7 Q (sZ r.p) ma mn mc ga gn gc (aZ mb) (aZ ub) ta tn tc tm i w:=by
 rw[l6,Mf hi];refine lI s 1 rfl (lI s 0 rfl ?_);unfold nX at next
 have hto:=ai_ hb;obtain⟨_,hnot⟩:=aey.1 hb;generalize aX x.w x.h u.cell d=to at*;by_cases hg:to=u.goal
 ·rw[dN hg,cond_true];refine lI s 0 rfl (lI s 0 rfl (lI s 0 rfl ?_));refine E4 hu (pk 3 [2] s) λr' GR w e s=>?_;apply next r' GR w e
  simp_all
 ·rw[cy hg,cond_false];rw[if_neg hg]at next
  have s:=ay s;obtain⟨ok,s⟩:=q_ (pk 3 [2,0,1] s);have hmay:=ok.may;have hfl:=ok.fl;rw[hu]at hmay hfl;have amq:=hmay.at_ u (by simp);have DQ:=(uS (ai s)).1;have hru:=DQ.jA u (by rw[hu];simp);have Rm:=DQ.Q9;have aq8:=AB hmay.nd (u:=u) (by simp);refine ah (lP s 0 rfl (lI s 3 rfl (lI s 4 rfl ?_)));have s:=pk 5 [2,0,1,3,4] s;have hw1:Cn x.ws u.cell=u.id:=by rw[hfl.who amq.1,aq8]
  have hfree:Ar x.ws to=true:=by rw[hfl.free hto,Ic hnot];rfl
  refine Yd s (λe=>?_) λ_ _ fS w s=>?_
  ·rw[hw1,hfree]at e;rcases e with e|e
   ·omega
   ·cases e
  ·have s:=ay s;refine ah (lP s 1 rfl (lI s 4 rfl (lI s 4 rfl ?_)));have s:=pk 5 [2,0,1] s;refine aau (by unfold iF;omega) s (λhn=>?_) λ_ ur w eu s=>?_
   ·rw[hu,aaC hmay.ids]at hn;cases hn
   ·have eT:(vV x.y u.id λu=>⟨u.id,to,u.goal⟩)=⟨x.y.most,x.y.next,(done++[⟨u.id,to,u.goal⟩])++us⟩:=by rw[vV,hu,ajd hmay.ids,List.append_assoc];rfl
    rw[eT,hw1]at s;have D9:nU x.w x.h (done++⟨u.id,to,u.goal⟩::us):=hmay.WQ rfl hto amq.2 λq=>hnot (by rw[List.map_append,List.mem_append]at q⊢;exact q.imp id λq=>by rw[List.map_cons];exact List.mem_cons_of_mem _ q)
    have s:=f_ (A:=[_,_,_]) (B:=[av r.p 125 (zG ⟨r.p,ur,{r.fl with fS:=fS}⟩ ⟨x.w,x.h,⟨x.y.most,x.y.next,(done++[⟨u.id,to,u.goal⟩])++us⟩,(x.ws.set u.cell.toNat 0).set to.toNat (u.id+1)⟩),_,_]) [2,0,1] s (by unfold zG;rw[eu];rfl) (by decide);refine next ⟨r.p,ur,{r.fl with fS:=fS}⟩ _ w rfl (ye s ⟨?_,?_⟩)
    ·rw[List.append_assoc];exact D9
    ·rw[List.append_assoc];exact ape D9 (ak3 hmay hfl)
def aaD {Q:Option Addr->Nat->Nat->Option Addr->Nat->Nat->Int->World->Prop}(hD:∀w',Sep F W w' L->Sl w' da dn dc 1 one ds)(hlen:ds.length=x.y.us.length)(hr:∀d∈ds,0<=d/\d<=5)(s:Sep F W w (fV r x::L))
  (h:∀r' GR ma mn mc ga gn gc w',r'.p=r.p->Sep F W w' (ak ma mn mc 51 2 (flat lO (dg x.w x.h [] (x.y.us.zip ds)).2.1)::ak ga gn gc 3 1 (flat one (dg x.w x.h [] (x.y.us.zip ds)).2.2)::fV r' ⟨x.w,x.h,N8 x.w x.h x.y ds,GR⟩::L)->Q ma mn mc ga gn gc 0 w'):
  xU (sZ r.p) da dn dc w Q:=by
 apply OL;have s:=ay s;obtain⟨ok,so⟩:=q_ s;have DQ:=(uS (ai so)).1;have oZ:=DQ.nS;have Xu:=DQ.most;refine kY (ah (lI so 0 rfl (ah (lI so 0 rfl ?_))));refine DR s λua un uc w s=>?_;obtain⟨_,so⟩:=q_ (ai s);refine⟨cg so 0 rfl,cg so 0 rfl,?_⟩;have hU:=aN s (i:=0) rfl Jc (by decide);have hun:=hU.len;have ayB:(x.y.us.zip ds).map (·.1)=x.y.us:=by rw[List.map_fst_zip];omega
 have hml:=(N6 (w:=x.w) (h:=x.h) (x.y.us.zip ds) []).2;rw[List.length_zip]at hml;refine aez s hU (hD _ (ai (ai s))) hlen (by omega) hr ok.may λaa an ac ma mn mc ga gn gc w s _=>?_;have s:=pk 4 [3,0,1] s;have hmn:=(aN s (i:=1) rfl N7 (by decide)).len;have loop:∀(j i:Nat) (r':CrR) (x':Hq) (done:List aU) (todo:List (aU×Int)) (w:World),i+j=mn->r'.p=r.p->x'.w=x.w->x'.h=x.h->x'.y=⟨x.y.most,x.y.next,done++todo.map (·.1)⟩->(dg x.w x.h done todo).2.1=(dg x.w x.h [] (x.y.us.zip ds)).2.1.drop i->(dg x.w x.h done todo).1=(dg x.w x.h [] (x.y.us.zip ds)).1->
   Sep F W w (fV r' x'::ak ma mn mc 51 2 (flat lO (dg x.w x.h [] (x.y.us.zip ds)).2.1)::ak ga gn gc 3 1 (flat one (dg x.w x.h [] (x.y.us.zip ds)).2.2)::L)->
   pP Q (j+1) (sZ r.p) ma mn mc ga gn gc ma mn mc (mn:Int) i w:=by
  intro j;induction j with
  |zero=>
   intro i r' x' done todo w hij er ew eh ey e1 e2 s;show pO _ _ _ _ _ _ _ _ _ _ _ _ _ _ _;rw[pO,bq];rw[List.drop_eq_nil_of_le (by omega)]at e1;have e3:=acC _ _ e1;obtain⟨w1,h1,y1,ws1⟩:=x';subst ew eh ey;apply h r' ws1 ma mn mc ga gn gc w er;rw[N8,<-e2,e3];exact pk 3 [1,2,0] s
  |succ j ih=>
   intro i r' x' done todo w hij er ew eh ey e1 e2 s;show pO _ _ _ _ _ _ _ _ _ _ _ _ _ _ _;rw[pO,bM];refine(aN s (i:=1) rfl N7 (by decide)).El rfl (by omega) λp m hm hc=>?_;have hdr:(dg x.w x.h [] (x.y.us.zip ds)).2.1.drop i=m::(dg x.w x.h [] (x.y.us.zip ds)).2.1.drop (i+1):=by obtain⟨hlt,e⟩:=List.getElem?_eq_some_iff.1 hm;rw[List.drop_eq_getElem_cons hlt,e]
   rw[hdr]at e1;obtain⟨done',u,d,rest,hb,hsp,em,e3,e4⟩:=acD _ _ e1;have Hj:x'.y.us=done'++u::rest.map (·.1):=by rw[ey,hsp]
   rw[<-ew,<-eh]at hb em;refine aR (hc 0 _ rfl) (aR (hc 1 _ rfl) ?_);refine aS s λmb w s=>?_;refine sT s 0 rfl λw s=>?_;refine ax s (i:=0) rfl rfl rfl λw s=>?_;have s:=s;rw[<-er];obtain⟨ok',s⟩:=q_ (pk 4 [1,0,2,3] s);have s:=ay s;have aBU:=(uS (ai s)).1.jA u (by rw[Hj];simp);have aBV:=(uS (ai s)).1.Q9;have hgu:gK x'.y.us m.1=some u:=by have:=ok'.may.ids;rw[Hj]at this;rw[Hj,em];exact aaC this
   have zT:iF m.1:=by rw[em];unfold iF;show _<=u.id/\u.id<_;omega
   have go:∀{ub:Nat} {w:World},Sep F W w (av ub 43 (iy u)::av mb 51 (lO m)::fV r' x'::ak ma mn mc 51 2 (flat lO (dg x.w x.h [] (x.y.us.zip ds)).2.1)::ak ga gn gc 3 1 (flat one (dg x.w x.h [] (x.y.us.zip ds)).2.2)::L)->
     l6 (pP Q (j+1)) Q (sZ r'.p) ma mn mc ga gn gc (aZ mb) (aZ ub) ma mn mc (mn:Int) i w:=λ{ub w} s=>by
    rw[em]at s;refine aq9 (by omega) Hj hb s λr2 ws2 w e5 s=>?_;rw[er];refine ih (i+1) r2 ⟨x'.w,x'.h,⟨x'.y.most,x'.y.next,(done'++nX x'.w x'.h u d)++rest.map (·.1)⟩,ws2⟩ (done'++nX x.w x.h u d) rest w (by omega) (e5.trans er) ew eh ?_ e3 (e4.trans e2) s;rw[ew,eh,ey]
   refine ah (lP s 0 rfl (lI s 3 rfl ⟨?_,?_⟩))
   ·have s:=iZ s;refine sH s zT (λhn=>by rw[hn]at hgu;cases hgu) λv hv w s=>?_;rw[hgu]at hv;cases hv;refine aS s λub w s=>?_;refine⟨cg s 4 rfl,cg s 2 rfl,?_⟩;refine sT s 0 rfl λw s=>?_;refine sT s 0 rfl λw s=>?_;refine ax s (i:=0) rfl rfl rfl λw s=>?_;have s:=ye (pk 7 [2,1,3,0,4,5,6] s) ok';exact go (pk 5 [1,2,0,3,4] s)
   ·refine aS s λub w s=>?_;refine⟨cg s 4 rfl,cg s 1 rfl,?_⟩;have s:=pk 7 [2,0,1,3,4,5,6] s;refine sH s zT (λhn=>by rw[hn]at hgu;cases hgu) λv hv w s=>?_;rw[hgu]at hv;cases hv;refine sT s 1 rfl λw s=>?_;refine sT s 1 rfl λw s=>?_;refine ax s (i:=1) rfl rfl rfl λw s=>?_;have s:=ye (pk 7 [2,0,3,1,4,5,6] s) ok';exact go (pk 5 [1,2,0,3,4] s)
 exact⟨mn+1,loop mn 0 r x [] (x.y.us.zip ds) w (by omega) rfl rfl rfl (by rw[ayB];rfl) rfl rfl s⟩
end
end Go.Proofs.YtmegplnmiepfbaaGreatDoor.S
namespace Go.Proofs.YtmegplnmiepfbaaGreatDoor.S
open Go.Sx
abbrev AD:=List (Int×List (Int×List Int))
def zH (s id:Int):List (Int×List Int)->List (Int×List Int)
 |[]=>[(s,[id])]
 |q::r=>if q.1=s then(s,q.2++[id])::r else q::zH s id r
def qj (g s id:Int):AD->AD
 |[]=>[(g,[(s,[id])])]
 |q::r=>if q.1=g then(g,zH s id q.2)::r else q::qj g s id r
def S_ (w h:Int)(st:AD)(u:aU):AD:=qj u.goal (aC w h u.cell) u.id st
def acH (w h:Int)(us:List aU):AD:=us.foldl (S_ w h) []
structure GS where
 g:Int
 s:Int
 ids:List Int
def C_ (st:AD):List GS:=st.flatMap λq=>q.2.map λp=>⟨q.1,p.1,p.2⟩
def mK (w h:Int)(us:List aU):List GS:=C_ (acH w h us)
section
variable {g s d w h:Int}{st:AD}{us:List aU}
def aq_ {p1 p2:List (Int×List Int)}{ids:List Int}(hn:s∉p1.map (·.1)):zH s d (p1++(s,ids)::p2)=p1++(s,ids++[d])::p2:=by
 induction p1 with
 |nil=>simp[zH]
 |cons q p1 ih=>
  rw[List.map_cons,List.mem_cons,not_or]at hn;rw[List.cons_append,zH,if_neg (λe=>hn.1 e.symm),ih hn.2];rfl
def ara {l:List (Int×List Int)}(hn:s∉l.map (·.1)):zH s d l=l++[(s,[d])]:=by
 induction l with
 |nil=>rfl
 |cons q p1 ih=>
  rw[List.map_cons,List.mem_cons,not_or]at hn;rw[List.cons_append,zH,if_neg (λe=>hn.1 e.symm),ih hn.2]
def aje {g1 g2:AD}{l:List (Int×List Int)}(hn:g∉g1.map (·.1)):qj g s d (g1++(g,l)::g2)=g1++(g,zH s d l)::g2:=by
 induction g1 with
 |nil=>simp[qj]
 |cons q p1 ih=>
  rw[List.map_cons,List.mem_cons,not_or]at hn;rw[List.cons_append,qj,if_neg (λe=>hn.1 e.symm),ih hn.2];rfl
def arb (hn:g∉st.map (·.1)):qj g s d (st++[(g,[])])=qj g s d st:=by
 induction st with
 |nil=>simp[qj,zH]
 |cons q p1 ih=>
  rw[List.map_cons,List.mem_cons,not_or]at hn;rw[List.cons_append,qj,if_neg (λe=>hn.1 e.symm),ih hn.2,qj,if_neg (λe=>hn.1 e.symm)]
def amr:(qj g s d st).map (·.1)=if g∈st.map (·.1)then st.map (·.1)else st.map (·.1)++[g]:=by
 induction st with
 |nil=>rfl
 |cons q p1 ih=>
  rw[qj];grind
def Tb (us:List aU):(acH w h us).map (·.1)=tI us:=by
 have:∀(us:List aU) (st:AD),(us.foldl (S_ w h) st).map (·.1)=us.foldl Ez (st.map (·.1)):=by
  intro us;induction us with
  |nil=>intro st;rfl
  |cons u us ih=>
   intro st;rw[List.foldl_cons,List.foldl_cons,ih];congr 1;exact amr
 exact this us []
def aaE {l:List (Int×List Int)}{x i:Int}:(∃p∈zH s d l,p.1=x/\i∈p.2)↔(x=s/\i=d)\/∃p∈l,p.1=x/\i∈p.2:=by
 induction l with
 |nil=>
  simp[zH,List.mem_singleton,exists_eq_left,List.not_mem_nil,false_and,exists_false,or_false];grind
 |cons q l ih=>
  rw[zH];split
  ·rename_i e;subst e;constructor
   ·grind
   ·rintro (⟨rfl,rfl⟩|⟨p,hp,e1,e2⟩)
    ·simp_all
    ·rcases List.mem_cons.1 hp with rfl|hp
     ·simp_all
     grind
  grind
def inG (st:AD)(g s i:Int):Prop:=∃q∈st,q.1=g/\∃p∈q.2,p.1=s/\i∈p.2
def arc {x y i:Int}:inG (qj g s d st) x y i↔(x=g/\y=s/\i=d)\/inG st x y i:=by
 unfold inG;induction st with
 |nil=>
  simp[qj,List.mem_singleton,exists_eq_left,List.not_mem_nil,false_and,exists_false,or_false];grind
 |cons q st ih=>
  rw[qj];split
  ·rename_i e;subst e;constructor
   ·rintro ⟨p,hp,e1,e2⟩;rcases List.mem_cons.1 hp with rfl|hp
    ·rcases aaE.1 e2 with⟨e3,e4⟩|e2
     all_goals grind
    grind
   ·rintro (⟨rfl,e3,e4⟩|⟨p,hp,e1,e2⟩)
    ·exact⟨_,List.mem_cons_self ..,rfl,aaE.2 (.inl ⟨e3,e4⟩)⟩
    ·rcases List.mem_cons.1 hp with rfl|hp
     ·exact⟨_,List.mem_cons_self ..,e1,aaE.2 (.inr e2)⟩
     grind
  ·constructor
   ·rintro ⟨p,hp,e1,e2⟩;rcases List.mem_cons.1 hp with rfl|hp
    ·grind
    ·exact(ih.1 ⟨p,hp,e1,e2⟩).imp id λ⟨p,hp,e⟩=>⟨p,List.mem_cons_of_mem _ hp,e⟩
   ·rintro (h|⟨p,hp,e1,e2⟩)
    ·simp_all
    ·rcases List.mem_cons.1 hp with rfl|hp
     ·grind
     ·obtain⟨p,hp,e⟩:=ih.2 (.inr ⟨p,hp,e1,e2⟩);grind
def ard {x y i:Int}:inG (acH w h us) x y i↔∃u∈us,u.goal=x/\aC w h u.cell=y/\u.id=i:=by
 have:∀(us:List aU) (st:AD),inG (us.foldl (S_ w h) st) x y i↔inG st x y i\/∃u∈us,u.goal=x/\aC w h u.cell=y/\u.id=i:=by
  intro us;induction us with
  |nil=>grind
  |cons u us ih=>
   intro st;rw[List.foldl_cons,ih];rw[S_,arc];grind
 have h0:¬inG [] x y i:=λ⟨q,hq,_⟩=>by cases hq
 unfold acH;grind
def WW {x y i:Int}:(∃p∈mK w h us,p.g=x/\p.s=y/\i∈p.ids)↔∃u∈us,u.goal=x/\aC w h u.cell=y/\u.id=i:=by
 rw[<-ard];unfold mK C_ inG;constructor
 ·rintro ⟨p,hp,e1,e2,e3⟩;obtain⟨q,hq,hp⟩:=List.mem_flatMap.1 hp;grind
 ·rintro ⟨q,hq,e1,z,hz,e2,e3⟩;exact⟨⟨q.1,z.1,z.2⟩,List.mem_flatMap.2 ⟨q,hq,List.mem_map.2 ⟨z,hz,rfl⟩⟩,e1,e2,e3⟩
def ag0 (st:AD):Prop:=∀q∈st,∀p∈q.2,p.2≠[]
def api {l:List (Int×List Int)}(h:∀p∈l,p.2≠[]):∀p∈zH s d l,p.2≠[]:=by
 induction l with
 |nil=>intro p hp;simp[zH,List.mem_singleton]at hp;grind
 |cons q l ih=>
  intro p hp;rw[zH]at hp;split at hp
  ·rcases List.mem_cons.1 hp with rfl|hp
   ·simp
   ·exact h p (List.mem_cons_of_mem _ hp)
  grind
def apj (h:ag0 st):ag0 (qj g s d st):=by
 induction st with
 |nil=>
  intro q hq p hp;simp[qj,List.mem_singleton]at hq;grind
 |cons q st ih=>
  intro z hz;rw[qj]at hz;split at hz
  ·rcases List.mem_cons.1 hz with rfl|hz
   ·exact api (h q (List.mem_cons_self ..))
   ·exact h z (List.mem_cons_of_mem _ hz)
  ·rcases List.mem_cons.1 hz with rfl|hz
   ·exact h z (List.mem_cons_self ..)
   ·exact ih (λq hq=>h q (List.mem_cons_of_mem _ hq)) z hz
def are (l:List (Int×List Int)):(zH s d l).length<=l.length+1:=by
 induction l with
 |nil=>exact Nat.le_refl _
 |cons q l ih=>
  rw[zH];grind
def KH (q:Int×List (Int×List Int)):C_ (q::st)=(q.2.map λp=>⟨q.1,p.1,p.2⟩)++C_ st:=rfl
def arf (st:AD):(C_ (qj g s d st)).length<=(C_ st).length+1:=by
 induction st with
 |nil=>exact Nat.le_refl _
 |cons q st ih=>
  rw[qj];split
  ·rw[KH,KH,List.length_append,List.length_append,List.length_map,List.length_map];have:=are (s:=s) (d:=d) q.2;grind
  ·rw[KH,KH,List.length_append,List.length_append];omega
def afJ (w h:Int)(us:List aU):(mK w h us).length<=us.length:=by
 have:∀(us:List aU) (st:AD),(C_ (us.foldl (S_ w h) st)).length<=(C_ st).length+us.length:=by
  intro us;induction us with
  |nil=>grind
  |cons u us ih=>
   intro st;rw[List.foldl_cons,List.length_cons];have h1:=ih (S_ w h st u);have h2:=arf (g:=u.goal) (s:=aC w h u.cell) (d:=u.id) st;have h2:(C_ (S_ w h st u)).length<=(C_ st).length+1:=h2;omega
 have:=this us [];have e:(C_ ([]:AD)).length=0:=rfl;rw[e,Nat.zero_add]at this;exact this
def ams {p:GS}(hp:p∈mK w h us):p.ids≠[]:=by
 have:∀(us:List aU) (st:AD),ag0 st->ag0 (us.foldl (S_ w h) st):=by
  intro us;induction us with
  |nil=>grind
  |cons u us ih=>intro st h;exact ih _ (apj h)
 obtain⟨q,hq,hp⟩:=List.mem_flatMap.1 hp;obtain⟨z,hz,rfl⟩:=List.mem_map.1 hp;exact this us [] (λq hq=>by cases hq) q hq z hz
def amt {p:GS}(hp:p∈mK w h us):∃u∈us,u.goal=p.g/\aC w h u.cell=p.s:=by have hf:=ams hp;obtain⟨i,hi⟩:=List.exists_mem_of_ne_nil _ hf;obtain⟨u,hu,e1,e2,_⟩:=WW.1 ⟨p,hp,rfl,rfl,hi⟩;grind
end
end Go.Proofs.YtmegplnmiepfbaaGreatDoor.S
namespace Go.Proofs.YtmegplnmiepfbaaGreatDoor.S
open Go.Sx
attribute [local irreducible] af cE bw bg aA cu bY St Bx Al App cJ cB cz bW aL bD aq bT av ak aW mapA
structure BD where
 a:Option Addr
 n:Nat
 c:Nat
def TN (q:BD):Value:=.slice q.a q.n q.c
structure AX where
 g:Int
 s:Int
 q:BD
 ids:List Int
def yF (p:AX):List Value:=[ae p.g,ae p.s,.slice p.q.a p.q.n p.q.c]
def uL (p:AX):(yF p).length=3:=rfl
def apk (x:AX)(u:Value)(h:u∈yF x):u.oneCell'=true:=by unfold yF at h;simp[List.mem_cons,List.not_mem_nil,or_false]at h;rcases h with rfl|rfl|rfl<;>rfl
def arh (p:AX):As:=ak p.q.a p.q.n p.q.c 3 1 (flat one p.ids)
structure CA where
 g:Int
 q:BD
 ps:List AX
def gpR (G:CA):As:=ak G.q.a G.q.n G.q.c 211 3 (flat yF G.ps)
def Bh (gs:List CA):As:=aW True (gs.map gpR)
def AE (ps:List AX):As:=aW True (ps.map arh)
def jZ (gs:List CA):List AX:=gs.flatMap (·.ps)
def FF (gs:List CA):AD:=gs.map λG=>(G.g,G.ps.map λp=>(p.s,p.ids))
def atT:P.underlying 180=some (.map 253 3):=by kernel_rfl
def ofT:P.underlying 252=some (.map 3 208):=by kernel_rfl
def avy (w:World):(zeroValue 208).run P w=.ok (TN ⟨none,0,0⟩) w:=by kernel_rfl
section
variable {F:Nat->Prop}{W w w0:World}{L:List As}
def Tc {A B:List As}{X:As}(s:Sep F W w (aW True (A++X::B)::L)):Sep F W w (X::aW True (A++B)::L):=by
 have s:=(gL s).2;have s:=ck (L':=(A++B)++X::L) s (by rw[List.append_assoc,List.append_assoc,List.cons_append];exact List.Perm.append_left _ List.perm_middle.symm)
 have s:=dz s trivial;exact iZ s
def Mh {A B:List As}{X:As}(s:Sep F W w (X::aW True (A++B)::L)):Sep F W w (aW True (A++X::B)::L):=by have s:=(gL (iZ s)).2;refine dz ?_ trivial;apply ck s;rw[List.append_assoc,List.append_assoc,List.cons_append];exact List.Perm.append_left _ List.perm_middle
end
def gOf (ms:List (Int×BD))(g:Int):BD:=(fy ms g).getD ⟨none,0,0⟩
structure N9 (ms:List (Int×BD)) (m2:List ((Int×Int)×Int)) (gs:List CA):Prop where
 hk:oS ms
 IN:oS m2
 nd:(gs.map (·.g)).Nodup
 nds:∀G∈gs,(G.ps.map (·.s)).Nodup
 of_:∀G∈gs,gOf ms G.g=G.q
 no:∀g,g∉gs.map (·.g)->fy ms g=none
 at1:∀g s k,fy m2 (g,s)=some k->∃G∈gs,G.g=g/\0<=k/\(G.ps[k.toNat]?).map (·.s)=some s
 at2:∀G∈gs,∀p∈G.ps,(fy m2 (G.g,p.s)).isSome=true
 pg:∀G∈gs,∀p∈G.ps,p.g=G.g
section
variable {F:Nat->Prop}{W w w0:World}{L:List As}{mw mh:Int}{mb Hr:Nat}{ms:List (Int×BD)}{m2:List ((Int×Int)×Int)}{gs g1 g2:List CA}{G:CA}
def acI {i:Nat}{g:Int}{K:Option Addr->Nat->Nat->World->Prop}(s:Sep F W w L)(hi:L[i]? =some (fO fq TN mb ms))(hk:oS ms)(hg:iF g)(h:K (gOf ms g).a (gOf ms g).n (gOf ms g).c w):
  aL P (Instr.lookup 252 (.map (some mb)) (ae g) false) w λv w=>dS v λa n c=>K a n c w:=by
 unfold gOf at h;refine Ew (K:=fq) ofT (avy w) s hi hk hg (λhn=>?_) λq hq=>?_
 ·rw[hn]at h;exact h
 ·rw[hq]at h;exact h
def N9.pairs {G':CA}(I:N9 ms m2 (g1++G::g2))(eg:G'.g=G.g)(eq:G'.q=G.q)(es:G'.ps.map (·.s)=G.ps.map (·.s))(ep:∀p∈G'.ps,p.g=G.g):N9 ms m2 (g1++G'::g2):=by
 have hm:∀X,X∈g1++G'::g2->X=G'\/X∈g1++G::g2:=λX hX=>by grind
 have hG:G∈g1++G::g2:=by simp
 have hs:∀k:Nat,(G'.ps[k]?).map (·.s)=(G.ps[k]?).map (·.s):=λk=>by rw[<-List.getElem?_map,<-List.getElem?_map,es]
 have E6:(g1++G'::g2).map (·.g)=(g1++G::g2).map (·.g):=by simp[eg]
 refine⟨I.hk,I.IN,by rw[E6];exact I.nd,λX hX=>?_,λX hX=>?_,λg hg=>I.no g (by grind),λg s k hk=>?_,λX hX p hp=>?_,λX hX p hp=>?_⟩
 ·rcases hm X hX with rfl|hX
  ·rw[es];exact I.nds G hG
  ·exact I.nds X hX
 ·rcases hm X hX with rfl|hX
  ·rw[eg,eq];exact I.of_ G hG
  ·exact I.of_ X hX
 ·obtain⟨X,hX,e1,e2,e3⟩:=I.at1 g s k hk;grind
 ·rcases hm X hX with rfl|hX
  ·have:p.s∈X.ps.map (·.s):=List.mem_map.2 ⟨p,hp,rfl⟩;rw[es]at this;obtain⟨p',hp',e⟩:=List.mem_map.1 this;rw[eg,<-e];exact I.at2 G hG p' hp'
  ·exact I.at2 X hX p hp
 ·rcases hm X hX with rfl|hX
  ·grind
  ·exact I.pg X hX p hp
def N9.add {ms':List (Int×BD)}{YQ:List ((Int×Int)×Int)}{p:AX}{q:BD}(I:N9 ms m2 (g1++G::g2))(hk:oS ms')(IN:oS YQ)(hm:∀g,fy ms' g=if g=G.g then some q else fy ms g)(D9:∀x,fy YQ x=if x=(G.g,p.s)then some (G.ps.length:Int)else fy m2 x)
  (ep:p.g=G.g)(hn:p.s∉G.ps.map (·.s)):N9 ms' YQ (g1++⟨G.g,q,G.ps++[p]⟩::g2):=by
 have hG:G∈g1++G::g2:=by simp
 have E6:(g1++⟨G.g,q,G.ps++[p]⟩::g2).map (·.g)=(g1++G::g2).map (·.g):=by simp
 have hnd:=I.nd;have hmem:∀X,X∈g1++(⟨G.g,q,G.ps++[p]⟩:CA)::g2->X=⟨G.g,q,G.ps++[p]⟩\/(X∈g1++G::g2/\X.g≠G.g):=λX hX=>by grind
 refine⟨hk,IN,by grind,λX hX=>?_,λX hX=>?_,λg hg=>?_,λg s k hs=>?_,λX hX x hx=>?_,λX hX x hx=>?_⟩
 ·rcases hmem X hX with rfl|⟨hX,_⟩
  ·rw[List.map_append,List.nodup_append];refine⟨I.nds G hG,by simp,λa ha b hb=>?_⟩;grind
  ·exact I.nds X hX
 ·unfold gOf;rcases hmem X hX with rfl|⟨hX,hne⟩
  ·grind
  ·rw[hm,if_neg hne];exact I.of_ X hX
 ·rw[E6]at hg;rw[hm,if_neg λe=>hg (by rw[e];exact List.mem_map.2 ⟨G,hG,rfl⟩)];exact I.no g hg
 ·rw[D9]at hs;by_cases e:(g,s)=(G.g,p.s)
  ·rw[if_pos e]at hs;cases hs;cases e;refine⟨⟨G.g,q,G.ps++[p]⟩,by simp,rfl,Int.natCast_nonneg _,?_⟩;simp
  ·rw[if_neg e]at hs;obtain⟨X,hX,e1,e2,e3⟩:=I.at1 g s k hs;rw[List.mem_append,List.mem_cons]at hX;rcases hX with h|rfl|h
   ·exact⟨X,by simp[h],e1,e2,e3⟩
   ·refine⟨⟨X.g,q,X.ps++[p]⟩,by simp,e1,e2,?_⟩;obtain⟨z,hz,_⟩:=Option.map_eq_some_iff.1 e3;rw[List.getElem?_append_left (List.getElem?_eq_some_iff.1 hz).1];exact e3
   ·exact⟨X,by simp[h],e1,e2,e3⟩
 ·rw[D9];split
  ·rfl
  ·rename_i hne;rcases hmem X hX with rfl|⟨hX,_⟩
   ·rcases List.mem_append.1 hx with hx|hx
    ·exact I.at2 G hG x hx
    ·rw[List.mem_singleton]at hx;subst hx;exact(hne rfl).elim
   ·exact I.at2 X hX x hx
 ·rcases hmem X hX with rfl|⟨hX,_⟩
  ·rcases List.mem_append.1 hx with hx|hx
   ·exact I.pg G hG x hx
   ·rw[List.mem_singleton.1 hx];exact ep
  ·exact I.pg X hX x hx
def N9.group (I:N9 ms m2 gs)(g:Int):∃g1 G g2,G.g=g/\N9 ms m2 (g1++G::g2)/\((gs=g1++G::g2)\/(gs=g1/\g2=[]/\G=⟨g,⟨none,0,0⟩,[]⟩/\g∉gs.map (·.g))):=by
 by_cases h:g∈gs.map (·.g)
 ·obtain⟨G,hG,rfl⟩:=List.mem_map.1 h;obtain⟨g1,g2,rfl⟩:=List.append_of_mem hG;grind
 ·refine⟨gs,⟨g,⟨none,0,0⟩,[]⟩,[],rfl,?_,.inr ⟨rfl,rfl,rfl,h⟩⟩;have hm:∀X,X∈gs++[(⟨g,⟨none,0,0⟩,[]⟩:CA)]->X∈gs\/X=⟨g,⟨none,0,0⟩,[]⟩:=λX hX=>by grind
  refine⟨I.hk,I.IN,?_,λX hX=>?_,λX hX=>?_,λg' hg=>I.no g' λe=>hg (by grind),λg s k hs=>?_,λX hX x hx=>?_,λX hX x hx=>?_⟩
  ·rw[List.map_append,List.nodup_append];refine⟨I.nd,by simp,λa ha b hb=>?_⟩;grind
  ·rcases hm X hX with hX|rfl
   ·exact I.nds X hX
   grind
  ·rcases hm X hX with hX|rfl
   ·exact I.of_ X hX
   ·rw[gOf,I.no g h];rfl
  ·obtain⟨X,hX,e⟩:=I.at1 g s k hs;grind
  ·rcases hm X hX with hX|rfl
   ·exact I.at2 X hX x hx
   ·cases hx
  ·rcases hm X hX with hX|rfl
   ·exact I.pg X hX x hx
   ·cases hx
end
def aaF {g1 g2:List CA}{g:Int}{q:BD}{p1 p2:List AX}{p:AX}:jZ (g1++⟨g,q,p1++p::p2⟩::g2)=(jZ g1++p1)++p::(p2++jZ g2):=by unfold jZ;grind
def atz {α:Type}{p1 p2:List α}{p p':α}:(p1++p::p2).set p1.length p'=p1++p'::p2:=by grind
def atA {α:Type}{p1 p2:List α}{p:α}:(p1++p::p2)[p1.length]? =some p:=by grind
section
variable {F:Nat->Prop}{W w w0:World}{L T:List As}{mw mh:Int}{mb Hr ub:Nat}{ms:List (Int×BD)}{m2:List ((Int×Int)×Int)}{g1 g2:List CA}{g:Int}{q:BD}{p1 p2:List AX}{p:AX}{la ta:Option Addr}{ln lc tn tc i:Nat}{tm:Int}{u:aU}
def afM {P6:Int->Int->Option Addr->Nat->Nat->Option Nat->Option Nat->Option Addr->Nat->Nat->Int->Int->World->Prop}{Q:Option Addr->Nat->Nat->World->Prop}(hi:i<=1000000000)(hk:oS ms)(hq:gOf ms g=q)(hg:u.goal=g)(ayC:iF g)(JQ:p.ids.length<=1000000000)
  (s:Sep F W w (Bh (g1++⟨g,q,p1++p::p2⟩::g2)::AE (jZ (g1++⟨g,q,p1++p::p2⟩::g2))::fO fq TN mb ms::fO Kx vI Hr m2::av ub 43 (iy u)::T))
  (next:∀q' w',Sep F W w' (Bh (g1++⟨g,q,p1++⟨p.g,p.s,q',p.ids++[u.id]⟩::p2⟩::g2)::AE (jZ (g1++⟨g,q,p1++⟨p.g,p.s,q',p.ids++[u.id]⟩::p2⟩::g2))::fO fq TN mb ms::fO Kx vI Hr m2::T)->P6 mw mh la ln lc (some mb) (some Hr) ta tn tc tm ((i+1:Nat):Int) w'):
  pM P6 Q mw mh la ln lc (some mb) (some Hr) (aZ ub) (p1.length:Int) ta tn tc tm i w:=by
 rw[pM,Mf hi];apply lI s 4 rfl;rw[hg];apply acI s (i:=2) rfl hk ayC;rw[hq];rw[aaF]at s;unfold Bh AE at s;rw[List.map_append,List.map_cons,List.map_append,List.map_cons]at s;have s:=Tc s;have s:=pk 6 [2,0,1,3,4,5] s;have s:=Tc s;have s:=s;have hpn:=(aN s (i:=0) rfl cF (by decide)).len;have hqn:=(aN s (i:=2) rfl uL (by decide)).len;simp[List.length_append,List.length_cons]at hqn;refine CF s (i:=2) rfl rfl (by omega) λb o ea=>?_;obtain⟨qa,qn,qc⟩:=q;subst ea;have hx:=atA (p1:=p1) (p2:=p2) (p:=p);have had:((⟨b,o,none⟩:Addr).add ((p1.length:Int).toNat*3)).add 2=⟨b,o+(p1.length*3+2),none⟩:=by rw[Int.toNat_natCast,d_]
 rw[had];have s:=ay s;apply Io uL s (i:=2) rfl hx rfl rfl;apply lI s 6 rfl;refine aO s λxb w s=>⟨?_,?_⟩
 ·exact wK s (i:=3) rfl rfl (by rw[sO uL hx (by decide)];rfl)
 ·have src:Src w (sZ xb) 1 1 (one u.id):=⟨rfl,E_ _,λj v hj=>by rw[cq,Nat.zero_add];exact cM s (i:=0) rfl rfl hj⟩;refine ig ee s (i:=1) (bytes:=8) rfl rfl rfl rfl rfl rfl (by decide) rfl src (by simp[maxLen];omega) (by omega) (λe=>by cases e) λra rc w s=>?_;have e:flat one p.ids++one u.id=flat one (p.ids++[u.id]):=by rw[fX];simp[flat]
  rw[e]at s;refine dQ uL s (i:=3) rfl hx rfl (x':=⟨p.g,p.s,⟨ra,p.q.n+1,rc⟩,p.ids++[u.id]⟩) (by decide) rfl rfl λw s=>?_;rw[atz]at s;have s:=pk 8 [1,2,3,4,5,6] s;have s:=Mh s;have s:=pk 5 [1,2,0,3,4] s;have s:=Mh s;apply next ⟨ra,p.q.n+1,rc⟩ w
  unfold Bh AE;rw[aaF,List.map_append,List.map_cons,List.map_append,List.map_cons];exact s
end
def Mi (p:AX):GS:=⟨p.g,p.s,p.ids⟩
def Xw {g1 g2:List CA}{G:CA}:FF (g1++G::g2)=FF g1++(G.g,G.ps.map λp=>(p.s,p.ids))::FF g2:=by unfold FF;grind
def N_ {gs:List CA}:(FF gs).map (·.1)=gs.map (·.g):=by unfold FF;simp_all
def atB {g1 g2:List CA}{g s d:Int}{q q':BD}{p1 p2:List AX}{p p':AX}(h1:g∉g1.map (·.g))(h2:s∉p1.map (·.s))(e1:p.s=s)(e2:p'.s=s)(e3:p'.ids=p.ids++[d]):
  FF (g1++⟨g,q',p1++p'::p2⟩::g2)=qj g s d (FF (g1++⟨g,q,p1++p::p2⟩::g2)):=by
 rw[Xw,Xw,aje (by rw[N_];exact h1)];simp[List.map_append,List.map_cons];rw[e1,aq_ (by grind),e2,e3]
def atC {g1 g2:List CA}{g s d:Int}{q q':BD}{p1:List AX}{p':AX}(h1:g∉g1.map (·.g))(h2:s∉p1.map (·.s))(e2:p'.s=s)(e3:p'.ids=[d]):
  FF (g1++⟨g,q',p1++[p']⟩::g2)=qj g s d (FF (g1++⟨g,q,p1⟩::g2)):=by
 rw[Xw,Xw,aje (by rw[N_];exact h1)];simp[List.map_append,List.map_cons,List.map_nil];rw[ara (by grind),e2,e3]
section
variable {F:Nat->Prop}{W w w0:World}{L T:List As}{mw mh:Int}{mb Hr ub:Nat}{ms:List (Int×BD)}{m2:List ((Int×Int)×Int)}{g1 g2 gs:List CA}{g sc:Int}{q:BD}{ps p1 p2:List AX}{la ta:Option Addr}{ln lc tn tc i:Nat}{tm:Int}{u:aU}
def N9.aso {G:CA}(I:N9 ms m2 (g1++G::g2)):G.g∉g1.map (·.g):=λh=>by have:=I.nd;grind
def ajg {K:Option Addr->Nat->Nat->World->Prop}(hl:ps.length<=1000000000)(s:Sep F W w (av ub 211 [ae g,ae sc,.slice none 0 0]::Bh (g1++⟨g,q,ps⟩::g2)::T))
  (k:∀q' w',Sep F W w' (Bh (g1++⟨g,q',ps++[⟨g,sc,⟨none,0,0⟩,[]⟩]⟩::g2)::T)->K q'.a q'.n q'.c w'):App P #[208,208] 208 (.slice q.a q.n q.c) (.slice (sZ ub) 1 1) w K:=by
 have s:=iZ s;unfold Bh at s;rw[List.map_append,List.map_cons]at s;have s:=Tc s;have s:Sep F W w (ak q.a q.n q.c 211 3 (flat yF ps)::_::av ub 211 _::T):=s;have hqn:=(aN s (i:=0) rfl uL (by decide)).len;have src:Src w (sZ ub) 1 3 (yF ⟨g,sc,⟨none,0,0⟩,[]⟩):=⟨rfl,apk _,λj v hj=>by rw[cq,Nat.zero_add];exact cM s (i:=2) rfl rfl hj⟩;refine ig ee s (i:=0) (bytes:=40) rfl rfl rfl rfl rfl rfl (by decide) rfl src (by simp[maxLen];omega) (by omega) (λe=>by cases e) λra rc w s=>?_;have e:flat yF ps++yF ⟨g,sc,⟨none,0,0⟩,[]⟩=flat yF (ps++[⟨g,sc,⟨none,0,0⟩,[]⟩]):=by rw[fX];simp[flat]
 rw[e]at s;apply k ⟨ra,q.n+1,rc⟩ w;have s:=f_ (A:=[_,_,_]) (B:=[gpR ⟨g,⟨ra,q.n+1,rc⟩,ps++[⟨g,sc,⟨none,0,0⟩,[]⟩]⟩,_]) [0,1] s rfl (by decide);have s:=Mh s;unfold Bh;simp_all
def atD {q':BD}{p:AX}(s:Sep F W w (Bh gs::AE (jZ (g1++⟨g,q,ps⟩::g2))::T))(hp:p.q=⟨none,0,0⟩)(hi:p.ids=[]):Sep F W w (Bh gs::AE (jZ (g1++⟨g,q',ps++[p]⟩::g2))::T):=by
 have e1:jZ (g1++⟨g,q,ps⟩::g2)=(jZ g1++ps)++jZ g2:=by unfold jZ;grind
 have e2:arh p=ak none 0 0 3 1 []:=by unfold arh;rw[hp,hi];rfl
 rw[e1]at s;rw[aaF];unfold AE at s⊢;rw[List.map_append]at s;rw[List.map_append,List.map_cons,e2];have s:=bE s 3 1;have s:=pk 3 [0,2,1] s;exact ck (Mh s) (List.Perm.swap _ _ _)
structure amv (mw mh:Int) (us:List aU) (i:Nat) (ms:List (Int×BD)) (m2:List ((Int×Int)×Int)) (gs:List CA):Prop where
 I:N9 ms m2 gs
 pl:FF gs=acH mw mh (us.take i)
 sz:∀G∈gs,G.ps.length<=i/\∀p∈G.ps,p.ids.length<=i
def amv.next {us:List aU}{ms':List (Int×BD)}{YQ:List ((Int×Int)×Int)}{q':BD}{p':AX}(S:amv mw mh us i ms m2 gs)(hu:us[i]? =some u)(I':N9 ms' YQ (g1++⟨g,q',p1++p'::p2⟩::g2))(e:FF (g1++⟨g,q',p1++p'::p2⟩::g2)=qj u.goal (aC mw mh u.cell) u.id (FF gs))
  (h1:∀G∈g1,G∈gs)(h2:∀G∈g2,G∈gs)(hl:(p1++p'::p2).length<=i+1)(hp:p'.ids.length<=i+1)(hps:∀p,p∈p1\/p∈p2->p.ids.length<=i):amv mw mh us (i+1) ms' YQ (g1++⟨g,q',p1++p'::p2⟩::g2):=by
 refine⟨I',?_,λG hG=>?_⟩
 ·rw[e,S.pl,List.take_add_one,hu];show _=List.foldl _ _ (us.take i++[u]);rw[List.foldl_append];rfl
 ·have up:∀G∈gs,G.ps.length<=i+1/\∀p∈G.ps,p.ids.length<=i+1:=λG hG=>⟨Nat.le_succ_of_le (S.sz G hG).1,λp hp=>Nat.le_succ_of_le ((S.sz G hG).2 p hp)⟩;grind
def atE {gs:List CA}(h:∀G∈gs,∀p∈G.ps,p.g=G.g):(jZ gs).map Mi=C_ (FF gs):=by unfold jZ C_ FF;rw[List.map_flatMap,List.flatMap_map];refine congrArg List.flatten ?_|>λe=>(List.flatMap_def ..).trans (e.trans (List.flatMap_def ..).symm);refine List.map_congr_left λG hG=>?_;rw[List.map_map];refine List.map_congr_left λp hp=>?_;show GS.mk _ _ _=GS.mk _ _ _;grind
end
def asp {a:Int}{b:Bool}{K:Int->Bool->Prop}(k:K a b):dT (.tuple #[ae a,.bool b]) λl=>dG l λv0 l0=>dI .i64 v0 λx=>dG l0 λv1 l1=>dB v1 λy=>kM l1 (K x y):=k
section
variable {F:Nat->Prop}{W w w0:World}{L T:List As}{mw mh:Int}{la:Option Addr}{ln lc:Nat}{us:List aU}
def apl {Q:Option Addr->Nat->Nat->World->Prop}{mb Hr:Nat}{ms:List (Int×BD)}{m2:List ((Int×Int)×Int)}{gs:List CA}{ga:Option Addr}{gn gc:Nat}(I:N9 ms m2 gs)(h64:∀G∈gs,iF G.g)(v9:(jZ gs).length<=1000000)(E6:gs.length<=1000000)
  (h:∀oa on oc w',Sep No w0 w' (ak oa on oc 211 3 (flat yF (jZ gs))::AE (jZ gs)::[])->Q oa on oc w'):
  ∀(j i:Nat) (oa:Option Addr) (on oc:Nat) (w:World),i+j=gn->gs.length=gn->Sep No w0 w (ak oa on oc 211 3 (flat yF (jZ (gs.take i)))::ak ga gn gc 3 1 (flat one (gs.map (·.g)))::Bh gs::AE (jZ gs)::fO fq TN mb ms::[])->
   Br Q (j+1) (some mb) oa on oc ga gn gc (gn:Int) i w:=by
 intro j;induction j with
 |zero=>
  intro i oa on oc w hij G8 s;show xu _ _ _ _ _ _ _ _ _ _ _ _;rw[xu,bq];rw[List.take_of_length_le (by omega)]at s;exact h oa on oc w (cf (L':=[_,_]) [0,3] s rfl (by decide))
 |succ j ih=>
  intro i oa on oc w hij G8 s;show xu _ _ _ _ _ _ _ _ _ _ _ _;rw[xu,bM];have hi:i<gs.length:=by omega
  obtain⟨G,hG⟩:∃G,gs[i]? =some G:=⟨_,List.getElem?_eq_getElem hi⟩;have hmem:=List.mem_of_getElem? hG;have hgi:gi (gs.map (·.g)) i=G.g:=by unfold gi;grind
  have yj:gs.take (i+1)=gs.take i++[G]:=by rw[List.take_add_one,hG];rfl
  have hall:jZ (gs.take (i+1))=jZ (gs.take i)++G.ps:=by unfold jZ;grind
  have hle:(jZ (gs.take (i+1))).length<=(jZ gs).length:=by
   have e:jZ gs=jZ (gs.take (i+1))++jZ (gs.drop (i+1)):=by unfold jZ;rw[<-List.flatMap_append,List.take_append_drop]
   grind
  have Cm:=(aN s (i:=0) rfl uL (by decide)).len;rw[hall,List.length_append]at hle;apply(aN s (i:=1) rfl cF (by decide)).rJ rfl (by omega);rw[hgi,Mf (by omega)];apply acI s (i:=4) rfl I.hk (h64 G hmem);rw[I.of_ G hmem];have src:Src w G.q.a G.q.n 3 (flat yF G.ps):=by have s2:=cf (L':=[_]) [2] s rfl (by decide);have s3:=(gL s2).2;exact ap2 s3 (by rw[List.getElem?_append_left (by rw[List.length_map];exact hi),List.getElem?_map,hG];rfl)
  have hcc:G.q.a=none->G.q.c=0:=by have s2:=cf (L':=[_]) [2] s rfl (by decide);have s3:=(gL s2).2;exact aeY s3 (by rw[List.getElem?_append_left (by rw[List.length_map];exact hi),List.getElem?_map,hG];rfl)
  have hqn:G.ps.length=G.q.n:=by have:=src.1;rw[iT uL]at this;omega
  refine ig ee s (i:=0) (bytes:=40) rfl rfl rfl rfl rfl rfl (by decide) rfl src (by simp[maxLen];omega) (by omega) hcc λra rc w s=>?_;rw[<-fX,<-hall]at s;grind
def amw {Q:Option Addr->Nat->Nat->World->Prop}{mb Hr:Nat}(hU:Sl w0 la ln lc 3 iy us)(qe:ln<=100000)(hm:nU mw mh us)
  (h:∀oa on oc ps w',ps.map Mi=mK mw mh us->Sep No w0 w' (ak oa on oc 211 3 (flat yF ps)::AE ps::[])->Q oa on oc w'):
  ∀(j i:Nat) (ms:List (Int×BD)) (m2:List ((Int×Int)×Int)) (gs:List CA) (w:World),i+j=ln->amv mw mh us i ms m2 gs->Sep No w0 w (Bh gs::AE (jZ gs)::fO fq TN mb ms::fO Kx vI Hr m2::[])->
   zv Q (j+1) mw mh la ln lc (some mb) (some Hr) la ln lc (ln:Int) i w:=by
 have hlen:=hU.len;intro j;induction j with
 |zero=>
  intro i ms m2 gs w hij S s;show zu _ _ _ _ _ _ _ _ _ _ _ _ _ _ _;rw[zu,bq];have S:=S;have IG:=S.pl;rw[List.take_of_length_le (by omega)]at IG;have avz:gs.map (·.g)=tI us:=by rw[<-Tb,<-IG,N_]
  have htr:(jZ gs).map Mi=mK mw mh us:=by rw[atE S.I.pg,IG];rfl
  have hal:(jZ gs).length<=us.length:=by have e:((jZ gs).map Mi).length=(jZ gs).length:=List.length_map ..;have:=afJ mw mh us;grind
  have h64:∀u∈us,iF u.goal:=λu hu=>AA (hm.at_ u hu).2;refine aay s (hU.fr (au s)) (by omega) h64 λga gn gc w s _=>?_;rw[<-avz]at s;have G8:=(aN s (i:=0) rfl cF (by decide)).len;rw[List.length_map]at G8;have s:=bE s 211 3;refine⟨gn+1,apl (Hr:=Hr) S.I (λG hG=>?_) (by omega) (by have:=ao_ (us:=us);grind) (λoa on oc w' s'=>h oa on oc (jZ gs) w' htr s') gn 0 none 0 0 w (by omega) G8 (cf (L':=[_,_,_,_,_]) [0,1,2,3,4] s rfl (by decide))⟩;have:G.g∈tI us:=by grind
  rw[<-Tb (w:=mw) (h:=mh)]at this;obtain⟨q,hq,e⟩:=List.mem_map.1 this;have hf:∃u∈us,u.goal=G.g:=by
   have hg:∀(us:List aU) (out:List Int),G.g∈us.foldl Ez out->G.g∈out\/∃u∈us,u.goal=G.g:=by
    intro us;induction us with
    |nil=>grind
    |cons u us ih=>
     intro out h;rcases ih _ h with h|⟨v,hv,e⟩
     ·unfold Ez at h;grind
     grind
   rw[Tb]at this;exact(hg us [] this).elim (λh=>by cases h) id
  grind
 |succ j ih=>
  intro i ms m2 gs w hij S s;show zu _ _ _ _ _ _ _ _ _ _ _ _ _ _ _;rw[zu,bM];refine(hU.fr (au s)).El rfl (by omega) λp u hu hc=>?_;have IJ:=hm.at_ u (List.mem_of_getElem? hu);have hsc:=(bV IJ.1).2;have QS:=gM hm.wh.1 hm.wh.2;have WX:iF u.goal/\iF (aC mw mh u.cell):=⟨AA IJ.2,by unfold iF;omega⟩;refine WT hc s λub w s=>?_;apply lI s 0 rfl;refine eZ s λw s _=>?_;apply lI s 0 rfl;refine aS s λkb w s=>?_;refine sT s 0 rfl λw s=>?_;refine ax s (i:=0) rfl rfl rfl λw s=>?_;refine lI s 0 rfl (lI s 0 rfl ?_);refine Ew (K:=Kx) (x:=(u.goal,aC mw mh u.cell)) atT (acf w) s (i:=5) rfl S.I.IN WX (λhn=>?_) λk hk=>?_
  ·apply asp;obtain⟨g1,⟨g,q,ps⟩,g2,eg,I,N5⟩:=S.I.group u.goal;subst eg;have hnew:aC mw mh u.cell∉ps.map (·.s):=λhin=>by obtain⟨p',hp',e⟩:=List.mem_map.1 hin;have:=I.at2 ⟨u.goal,q,ps⟩ (by simp) p' hp';rw[e,hn]at this;cases this
   have IG:qj u.goal (aC mw mh u.cell) u.id (FF (g1++⟨u.goal,q,ps⟩::g2))=qj u.goal (aC mw mh u.cell) u.id (FF gs):=by
    rcases N5 with e|⟨e1,e2,e3,e4⟩
    ·rw[e]
    ·cases e3;subst e2 e1;have:FF (gs++[⟨u.goal,⟨none,0,0⟩,[]⟩])=FF gs++[(u.goal,[])]:=by unfold FF;simp
     rw[this];exact arb (by rw[N_];exact e4)
   have hsz:ps.length<=i/\∀p∈ps,p.ids.length<=i:=by
    rcases N5 with e|⟨e1,e2,e3,e4⟩
    ·exact S.sz ⟨u.goal,q,ps⟩ (by rw[e];simp)
    ·cases e3;exact⟨Nat.zero_le _,λp hp=>by cases hp⟩
   have ayD:∀G∈g1,G∈gs:=λG hG=>by
    rcases N5 with e|⟨e1,e2,e3,e4⟩
    ·rw[e];exact List.mem_append_left _ hG
    ·rw[e1];exact hG
   have ayE:∀G∈g2,G∈gs:=λG hG=>by
    rcases N5 with e|⟨e1,e2,e3,e4⟩
    ·rw[e];exact List.mem_append_right _ (List.mem_cons_of_mem _ hG)
    ·rw[e2]at hG;cases hG
   have s:Sep No w0 w (Bh (g1++⟨u.goal,q,ps⟩::g2)::AE (jZ (g1++⟨u.goal,q,ps⟩::g2))::fO fq TN mb ms::fO Kx vI Hr m2::av ub 43 (iy u)::av kb 253 [ae u.goal,ae (aC mw mh u.cell)]::[]):=by
    have s:=cf (L':=[_,_,_,_,_,_]) [2,3,4,5,1,0] s rfl (by decide);rcases N5 with e|⟨e1,e2,e3,e4⟩
    ·rw[<-e];exact s
    ·cases e3;subst e2 e1;have e:jZ (gs++[⟨u.goal,⟨none,0,0⟩,[]⟩])=jZ gs:=by unfold jZ;simp
     rw[e];unfold Bh at s⊢;have s:=bE s 211 3;rw[List.map_append];apply Mh (B:=[]);rw[List.append_nil];exact s
   have hqn:q.n=ps.length:=by have s2:=s;unfold Bh at s2;rw[List.map_append,List.map_cons]at s2;have s2:=Tc s2;exact((aN s2 (i:=0) rfl uL (by decide)).len).symm
   have hq:=I.of_ ⟨u.goal,q,ps⟩ (by simp);apply lI s 4 rfl;apply acI s (i:=2) rfl I.hk WX.1;rw[hq];refine lI s 5 rfl (lI s 5 rfl ?_);refine L5 (v:=vI) (ms:=m2) (a:=(q.n:Int)) (x:=(u.goal,aC mw mh u.cell)) atT s (i:=3) rfl I.IN WX λYQ w ayF TG _ s=>?_;have s:=ay (cf (L':=[Bh (g1++⟨u.goal,q,ps⟩::g2),AE (jZ (g1++⟨u.goal,q,ps⟩::g2)),fO fq TN mb ms,fO Kx vI Hr YQ,av ub 43 (iy u)]) [0,1,2,3,4] s rfl (by decide));rw[hqn]at TG⊢;have fin:∀(q':BD) (w:World),Sep No w0 w (Bh (g1++⟨u.goal,q',ps++[⟨u.goal,aC mw mh u.cell,⟨none,0,0⟩,[]⟩]⟩::g2)::AE (jZ (g1++⟨u.goal,q,ps⟩::g2))::fO fq TN mb ms::fO Kx vI Hr YQ::av ub 43 (iy u)::[])->
     bD P (Instr.mapUpdate 252 (.map (some mb)) (ae u.goal) (.slice q'.a q'.n q'.c)) w λw=>pM (zv Q (j+1)) Q mw mh la ln lc (some mb) (some Hr) (aZ ub) (ps.length:Int) la ln lc (ln:Int) i w:=λq' w s=>by
    refine L5 (k:=3) (e:=208) (K:=fq) (v:=TN) (ms:=ms) (a:=q') (x:=u.goal) ofT s (i:=2) rfl I.hk WX.1 λms' w hk' Ed _ s=>?_;have I2:=I.add (G:=⟨u.goal,q,ps⟩) (p:=⟨u.goal,aC mw mh u.cell,⟨none,0,0⟩,[]⟩) hk' ayF Ed TG rfl hnew;have s:=atD (q':=q') (p:=⟨u.goal,aC mw mh u.cell,⟨none,0,0⟩,[]⟩) s rfl rfl;refine afM (p2:=[]) (by omega) hk' (I2.of_ ⟨u.goal,q',ps++[⟨u.goal,aC mw mh u.cell,⟨none,0,0⟩,[]⟩]⟩ (by simp)) rfl WX.1 (Nat.zero_le _) s λq2 w s=>?_;refine ih (i+1) ms' YQ _ w (by omega) ?_ s;refine S.next hu (I2.pairs (G':=⟨u.goal,q',ps++[⟨u.goal,aC mw mh u.cell,q2,[]++[u.id]⟩]⟩) rfl rfl (by simp) λp hp=>?_) ?_ ayD ayE (by simp;omega) (by simp) λp hp=>?_
    ·rcases List.mem_append.1 hp with hp|hp
     ·exact I.pg ⟨u.goal,q,ps⟩ (by simp) p hp
     ·rw[List.mem_singleton.1 hp]
    ·rw[<-IG];exact atC I.aso hnew rfl rfl
    ·exact hp.elim (λhp=>hsz.2 p hp) λhp=>by cases hp
   refine lI s 4 rfl (lI s 4 rfl (lI s 4 rfl ⟨?_,?_⟩))
   ·apply acI s (i:=2) rfl I.hk WX.1;rw[hq];refine⟨cg s 4 rfl,cg s 4 rfl,?_⟩;refine aO s λxb w s=>⟨cg s 5 rfl,cg s 5 rfl,?_⟩;refine ajg (by omega) s λq' w s=>⟨cg s 4 rfl,?_⟩;exact fin q' w s
   ·refine aO s λxb w s=>⟨cg s 5 rfl,cg s 5 rfl,?_⟩;apply acI s (i:=3) rfl I.hk WX.1;rw[hq];refine⟨cg s 5 rfl,cg s 5 rfl,?_⟩;refine ajg (by omega) s λq' w s=>⟨cg s 4 rfl,?_⟩;exact fin q' w s
  ·apply asp;rw[Bool.not_true,cond_false];obtain⟨⟨g,q,ps⟩,hG,e1,F0,e3⟩:=S.I.at1 _ _ _ hk;simp only at e1 e3;subst e1;obtain⟨p,hp,e4⟩:=Option.map_eq_some_iff.1 e3;have hkl:=(List.getElem?_eq_some_iff.1 hp).1;have avA:ps=ps.take k.toNat++p::ps.drop (k.toNat+1):=by have:=(List.getElem?_eq_some_iff.1 hp).2;rw[<-this,<-List.drop_eq_getElem_cons hkl,List.take_append_drop]
   have hkp:k=((ps.take k.toNat).length:Nat):=by rw[List.length_take];omega
   generalize ps.take k.toNat=p1 at*;generalize ps.drop (k.toNat+1)=p2 at*;subst avA;obtain⟨g1,g2,e5⟩:=List.append_of_mem hG;subst e5;subst hkp;have hsz:=S.sz _ hG;have hn1:aC mw mh u.cell∉p1.map (·.s):=λh=>by have:=S.I.nds _ hG;simp[List.map_append,List.map_cons]at this;rw[List.nodup_append]at this;exact this.2.2 _ h _ (by rw[<-e4];exact List.mem_cons_self ..) rfl
   have s:=cf (L':=[_,_,_,_,av ub 43 (iy u)]) [2,3,4,5,1] s rfl (by decide);refine afM (by omega) S.I.hk (S.I.of_ _ hG) rfl WX.1 (by have:=hsz.2 p (by simp);omega) s λq2 w s=>?_;refine ih (i+1) ms m2 _ w (by omega) ?_ s;refine S.next hu (S.I.pairs (G':=⟨u.goal,q,p1++⟨p.g,p.s,q2,p.ids++[u.id]⟩::p2⟩) rfl rfl (by simp) λx hx=>?_) ?_ (λG h=>by simp[h]) (λG h=>by simp[h]) ?_ ?_ λx hx=>?_
   ·rw[List.mem_append,List.mem_cons]at hx;rcases hx with h|rfl|h
    ·exact S.I.pg _ hG x (by simp[h])
    ·exact S.I.pg _ hG p (by simp)
    ·exact S.I.pg _ hG x (by simp[h])
   ·exact atB S.I.aso hn1 e4 e4 rfl
   ·have:=hsz.1;simp[List.length_append,List.length_cons]at this⊢;omega
   ·have:=hsz.2 p (by simp);simp[List.length_append,List.length_cons,List.length_nil];omega
   ·exact hsz.2 x (by rcases hx with h|h<;>simp[h])
def aaG {Q:Option Addr->Nat->Nat->World->Prop}(s0:Sep F W w0 L)(hU:Sl w0 la ln lc 3 iy us)(qe:ln<=100000)(hm:nU mw mh us)
  (h:∀oa on oc ps w',ps.map Mi=mK mw mh us->Sep F W w' (ak oa on oc 211 3 (flat yF ps)::AE ps::L)->Fr No w0 w'->Q oa on oc w'):EI mw mh la ln lc w0 Q:=by
 apply ZP;refine Rn (bh (F:=No)) hU (by omega) hm λw s _=>?_;refine aaj s 252 fq TN λmb w s=>?_;refine aaj s 180 Kx vI λHr w s=>?_;have s:=dz (Ps:=[]) s trivial;have s:=dz (Ps:=[]) s trivial;have s:=cf (L':=[Bh [],AE (jZ []),fO fq TN mb ([]:List (Int×BD)),fO Kx vI Hr ([]:List ((Int×Int)×Int))]) [0,1,3,2] s rfl (by decide);refine⟨ln+1,amw hU qe hm (λoa on oc ps w' e s'=>h oa on oc ps w' e (fu s0 s') (au s')) ln 0 [] [] [] w (by omega) ⟨⟨List.nodup_nil,List.nodup_nil,List.nodup_nil,(λG h=>by cases h),(λG h=>by cases h),(λg _=>rfl),(λg s k h=>by cases h),(λG h=>by cases h),(λG h=>by cases h)⟩,rfl,λG h=>by cases h⟩ s⟩
end
end Go.Proofs.YtmegplnmiepfbaaGreatDoor.S
set_option maxRecDepth 20000
namespace Go.Proofs.YtmegplnmiepfbaaGreatDoor.S
open Go.Sx
open Go.Extern
def ayG (args:Array Value)(w:World):(callFunc 219 args).run P w=((BytealgMakeNoZero.makeNoZero #[3] #[22] args).run P w).andThen λv w'=>.ok (.value v) w':=run_callFunc_extern Go.Proofs.Tryz.func219 (by kernel_rfl) (by kernel_rfl) (by kernel_rfl) (by kernel_rfl) args w
def ajh:P.underlying 22=some (.slice 5):=by kernel_rfl
def acK:∀(n t:Nat) (acc:Array Value) (xs:List Int),acc.toList=flat bp xs->∃ys:List Int,(BytealgMakeNoZero.digits n t acc).toList=flat bp ys
 |0,_,acc,xs,h=>⟨xs,h⟩
 |n+1,t,acc,xs,h=>by apply acK n (t/256) _ (xs++[((t%256:Nat):Int)]);rw[Array.toList_push,h,fX];rfl
def atG (n:Nat)(hn:n<=100000)(w:World):∃t,(BytealgMakeNoZero.makeNoZero #[3] #[22] #[ae n]).run P w=.ok (.slice (sZ w.heap.size) n (grownCap w n 0 5)) (w.drew.drew.alloc (.cells (BytealgMakeNoZero.digits (grownCap w n 0 5) t #[]) 5)):=by
 have ayH:BytealgMakeNoZero.makeNoZero #[3] #[22] #[ae n]=
  (do
   let .slice elem<-underlying 22|stuck "bytealg.MakeNoZero: slice type expected"
   if(n:Int)<0||(n:Int)>2^48 then runtimePanic (.error "makeslice: len out of range")
   let cap<-choose (.appendCap (n:Int).toNat 0 elem)
   askRoom cap
   let bytes<-choose (.extern "internal/bytealg.MakeNoZero.bytes" 0);let a<-newRow elem (BytealgMakeNoZero.digits cap bytes #[])
   pure (.slice (some a) (n:Int).toNat cap)):=rfl
 have h1:¬(n:Int)<0:=by omega
 have h2:¬(281474976710656:Int)<(n:Int):=by omega
 refine⟨(Question.extern "internal/bytealg.MakeNoZero.bytes" 0).cut (w.tape (w.drawn+1) (.extern "internal/bytealg.MakeNoZero.bytes" 0)),?_⟩;rw[ayH];simp[run_underlying ajh,h1,h2,Question.forced,newRow,grownCap]
attribute [local irreducible] tJ callFunc Sem.run BytealgMakeNoZero.makeNoZero in
theorem avB {n:Nat}{w w':World}{v:Value}{K:Value->World->Prop}(h:(BytealgMakeNoZero.makeNoZero #[3] #[22] #[ae n]).run P w=.ok v w')(k:K v w'):tJ P 219 #[ae n] w K:=
 jY ayG h k
def avC {F:Nat->Prop}{W w:World}{L:List As}{n:Nat}{K:Value->World->Prop}(hn:1<=n/\n<=100000)(s:Sep F W w L)(h:∀b ys w',ys.length=n->Sep F W w' (ak (sZ b) n n 5 1 (flat bp ys)::L)->K (.slice (sZ b) n n) w'):
  tJ P 219 #[ae n] w λv w1=>dS v λa m c=>aL P (Instr.sliceAt 22 (.slice a m c) none (some (ae n)) (some (ae n))) w1 K:=by
 obtain⟨t,ht⟩:=atG n (by omega) w;apply avB ht;have hge:=grownCap_ge w n 0 5;have hle:=grownCap_le_maxLen w n 0 5 (by simp[maxLen];omega);obtain⟨ys,hys⟩:=acK (grownCap w n 0 5) t #[] [] rfl;have hlen:ys.length=grownCap w n 0 5:=by have e:=congrArg List.length hys;rw[iT cV,Array.length_toList,Lib.size_digits]at e;grind
 generalize hc:grownCap w n 0 5=c at*;have hcs:(BytealgMakeNoZero.digits c t #[])=(flat bp ys).toArray:=by rw[<-hys]
 rw[hcs];have s:=tL (ay (ay s)) (flat bp ys) 5;have s:Sep F W (w.drew.drew.alloc (.cells (flat bp ys).toArray 5)) (av w.heap.size 5 (flat bp ys)::L):=s;have hone:∀u∈flat bp ys,u.oneCell'=true:=λu hu=>by obtain⟨x,_,hx⟩:=List.mem_flatMap.1 hu;exact A0 x u hx
 have s:=gX s (i:=0) rfl (by rw[iT cV,hlen]) hle hone;simp[List.set_cons_zero]at s;generalize w.drew.drew.alloc (.cells (flat bp ys).toArray 5)=w1 at*;generalize w.heap.size=b at*;have hs:(sizeOf 5).run P w1=.ok 1 w1:=by kernel_rfl
 have hr:(Instr.sliceAt 22 (.slice (sZ b) n c) none (some (ae n)) (some (ae n))).run P w1=.ok (.slice (sZ b) n n) w1:=by rw[run_sliceAt_slice w1 22 _ _ _ _ ajh,run_slice_hm w1 22 (sZ b) n c ajh .i64 .i64 n n (by omega) (Int.le_refl _) (by omega)];show((sizeOf 5).run P w1).andThen _=_;rw[hs];simp[Result.andThen,sliced,Int.toNat_natCast,Nat.sub_zero];simp[Addr.add]
 apply A3 hr;apply h b (ys.take n) w1 (by grind);refine⟨ef.fr s,λA hA=>?_,?_⟩
 ·rcases List.mem_cons.1 hA with rfl|hA
  ·obtain⟨⟨⟨k1,k2,k3,k4⟩,k5⟩,k6⟩:=ef.ok s _ (List.mem_cons_self ..);refine⟨⟨⟨by rw[iT cV,List.length_take];omega,Nat.le_refl _,by omega,λu hu=>?_⟩,?_⟩,λx hx=>k6 x hx⟩
   ·obtain⟨x,_,hx⟩:=List.mem_flatMap.1 hu;exact A0 x u hx
   ·rcases k5 with⟨h,_⟩|⟨g,o,cur,e1,e2,e3,e4⟩
    ·cases h
    ·refine .inr ⟨g,o,cur,e1,e2,by omega,?_⟩;have:flat bp (ys.take n)=(flat bp ys).take (n*1):=(U4 cV ys n).symm;grind
  ·exact ef.ok s A (List.mem_cons_of_mem _ hA)
 ·have:=ef.apart s;rw[List.pairwise_cons]at this⊢;exact⟨λA hA b hb=>this.1 A hA b hb,this.2⟩
attribute [local irreducible] tJ callFunc Sem.run af cE bw bg aA cu bY St Bx Al App cJ cB cz bW aL bD aq bT av ak aW mapA
def apm {v:Int}{n k:Nat}{Z:List Int}(hk:k<=n)(hZ:k<=Z.length):
  (flat bp (List.replicate n v++Z)).take (n*1)++(flat bp ((List.replicate n v++Z).take n)).take (k*1)++(flat bp (List.replicate n v++Z)).drop ((n+k)*1)=flat bp (List.replicate (n+k) v++Z.drop k):=by
 simp only[Y8,Nat.mul_one];rw[<-List.map_take,<-List.map_take,<-List.map_drop,<-List.map_append,<-List.map_append];congr 1;rw[List.take_left' (by simp),List.take_replicate,Nat.min_eq_left hk,List.replicate_append_replicate,<-List.drop_drop,List.drop_left' (by simp)]
section
variable {F:Nat->Prop}{W w w0:World}{L:List As}{xa:Option Addr}{xc:Nat}{v:Int}
def apn {Q:Option Addr->Nat->Nat->World->Prop}{b N:Nat}(hN:N<=8192)(h:∀w',Sep No w0 w' (ak (sZ b) N N 5 1 (flat bp (List.replicate N v))::L)->Q (sZ b) N N w'):
  ∀(m n:Nat) (Z:List Int) (w:World),N<=n+m->1<=n->n+Z.length=N->Sep No w0 w (ak (sZ b) N N 5 1 (flat bp (List.replicate n v++Z))::L)->tj Q (m+1) N N (sZ b) N N n w:=by
 have done:∀(R:Int->Int->Option Addr->Nat->Nat->Int->World->Prop) (Z:List Int) (w:World),Z.length=0->Sep No w0 w (ak (sZ b) N N 5 1 (flat bp (List.replicate N v++Z))::L)->tg Q R N N (sZ b) N N N w:=λR Z w hZ s=>by unfold tg;grind
 intro m;induction m with
 |zero=>
  intro n Z w hm h1 h2 s;have:n=N:=by omega
  subst this;exact done _ Z _ (by omega) s
 |succ m ih=>
  intro n Z w hm h1 h2 s;show tg Q (tj Q (m+1)) _ _ _ _ _ _ _;by_cases hn:n=N
  ·grind
  ·rw[tg,bM];apply Pd rfl (by omega);rw[fR];have em:Ds (n:Int) (N:Int)=n:=by unfold Ds;omega
   rw[em];apply Pc rfl (by omega);have s:=ay s;have hT:=(aN s (i:=0) rfl cV (by decide)).top (m:=n) (by omega);refine ED (p:=n) ee s rfl rfl rfl rfl (by decide) (i:=0) rfl (hT.src (e:=5) cV A0) (by omega) (by simp[Addr.add];omega) λw s=>?_;rw[apm (Nat.min_le_left _ _) (by omega)]at s;have e:IntKind.wrap .i64 ((n:Int)+((min n (N-n):Nat):Int))=((n+min n (N-n):Nat):Int):=by rw[aG];omega
   grind
def Td {N:Nat}{Q:Option Addr->Nat->Nat->World->Prop}(s0:Sep F W w L)(hA:Sl w xa 1 xc 1 bp [v])(hN:1<=N/\N<=8192)
  (h:∀ra w',Sep F W w' (ak ra N N 5 1 (flat bp (List.replicate N v))::L)->Fr No w w'->Q ra N N w'):rM xa 1 xc N w Q:=by
 apply IY;rw[cy (by omega),cond_false,bq,ko (by decide),ko (by omega)];apply C5 (by decide) (by omega) (by omega);have e1:((1:Nat):Int)*N=N:=by omega
 rw[e1,bq (by decide),bq,cy (by decide),cond_false,aG,bq];refine avC (by omega) (bh (F:=No)) λb ys w' hys s=>?_;refine ED (p:=0) ee s rfl rfl rfl rfl (by decide) (i:=0) rfl ((hA.fr (au s)).src (e:=5) cV A0) (by omega) rfl λw' s=>?_;have hm:min 1 N=1:=by omega
 rw[hm]at s⊢;have e2:(flat bp ys).take (0*1)++(flat bp [v]).take (1*1)++(flat bp ys).drop ((0+1)*1)=flat bp (List.replicate 1 v++ys.drop 1):=by simp only[Y8,Nat.zero_mul,List.take_zero,List.nil_append,Nat.mul_one,Nat.zero_add];rw[<-List.map_take,<-List.map_drop,<-List.map_append];rfl
 rw[e2]at s;exact⟨N+1,apn hN.2 (λw' s=>h _ _ (dA s0 s (i:=0) rfl) (au s)) N 1 (ys.drop 1) w' (by omega) (by omega) (by rw[List.length_drop];omega) s⟩
def amx {N:Nat}{Q:Option Addr->Nat->Nat->World->Prop}(s0:Sep F W w L)(hN:1<=N/\N<=8192)
  (h:∀ra w',Sep F W w' (ak ra 0 0 5 1 (flat bp [])::L)->Fr No w w'->Q ra 0 0 w'):rM Option.none 0 0 N w Q:=by
 apply IY;rw[cy (by omega),cond_false,bq,ko (by decide),ko (by omega)];apply C5 (by decide) (by omega) (by omega);have e1:((0:Nat):Int)*N=0:=by omega
 rw[e1,bq (by decide),bq,show((((0:Nat):Int))==0)=true from rfl,cond_true];refine aO (bh (F:=No)) λb w' s=>?_;have s:=gX (n:=0) (size:=1) s (i:=0) rfl rfl (by decide) (λu hu=>by cases hu);exact h _ _ (dA s0 s (i:=0) rfl) (au s)
end
end Go.Proofs.YtmegplnmiepfbaaGreatDoor.S
namespace Go.Proofs.YtmegplnmiepfbaaGreatDoor.S
open Go.Sx
attribute [local irreducible] af cE bw bg aA cu bY St Bx Al App cJ cB cz bW aL bD aq bT av ak aW mapA
def aAp:oW 242 fns=true:=by kernel_rfl
def ID (cs:List Int):Bool:=!cs.any λc=>c !=gi cs 0
def GU (f:Nat)(cs:List Int):Option (List Int):=if f=0 then(if ID cs=true then some [0,gi cs 0]else none)else if f=1 then some (1::cs)else some (tM cs)
abbrev EA (tw th:Int)(a:Option Addr)(n c:Nat):List Value:=[ae tw,ae th,.slice a n c]
section
variable {F:Nat->Prop}{W w w0:World}{L:List As}{ca:Option Addr}{cn cc tb:Nat}{cs:List Int}{tw th:Int}
def apo {Q:Bool->World->Prop}(hC:Sl w ca cn cc 1 bp cs)(hn:1<=cn/\cn<=1000)(s:Sep F W w (av tb 84 (EA tw th ca cn cc)::L))(h:Q (!ID cs) w):mQ ca cn cc (.func (.func 242) #[] #[.pointer (sZ tb)]) w Q:=by
 apply CQ;apply EV;have hl:=hC.len;have loop:∀(j i:Nat),i+j=cn->(∀k,k<i->gi cs k=gi cs 0)->jk (λr w=>Q (decide (r≥0)) w) (j+1) ca cn cc (.func (.func 242) #[] #[.pointer (sZ tb)]) (cn:Int) i w:=by
  intro j;induction j with
  |zero=>
   intro i hi hall;show jj _ _ _ _ _ _ _ _ _;unfold jj;have e:ID cs=true:=by rw[ID,Bool.not_eq_true',List.any_eq_false];intro c hc;obtain⟨k,hk⟩:=List.mem_iff_getElem?.1 hc;have hkl:=(List.getElem?_eq_some_iff.1 hk).1;rw[iz hkl]at hk;grind
   grind
  |succ j ih=>
   intro i hi hall;show jj _ _ _ _ _ _ _ _ _;rw[jj,bM];apply hC.yK rfl (by omega);unfold h_;simp only;have hc:Lh (gi cs i) (sZ tb) w λr w'=>cond r (Q (decide ((i:Int)≥0)) w') (jk (λr w=>Q (decide (r≥0)) w) (j+1) ca cn cc (.func (.func 242) #[] #[.pointer (sZ tb)]) (cn:Int) (IntKind.wrap .i64 ((i:Int)+1)) w'):=by
    apply Zr;refine ah (lS s 0 rfl ?_);apply hC.yK (k:=0) rfl (by omega);by_cases e:gi cs i=gi cs 0
    ·rw[Es e];show cond false _ _;rw[cond_false,Mf (by omega)];exact ih (i+1) (by omega) λk hk=>by grind
    ·rw[Gk e];show cond true _ _;rw[cond_true,decide_eq_true (by omega)];have e2:ID cs=false:=by rw[ID,Bool.not_eq_false',List.any_eq_true];exact⟨gi cs i,ff (by omega),Gk e⟩
     grind
   exact hc
 exact⟨cn+1,loop cn 0 (by omega) λk hk=>by omega⟩
def aic {oa:Option Addr}{on oc b k:Nat}{out ns:List Int}{K:Option Addr->Nat->Nat->World->Prop}(s:Sep F W w (ak oa on oc 5 1 (flat bp out)::L))(Cm:on<=100000000)(hk:ns.length=k)(IN:k<=100000){ba:Option Addr}{bc:Nat}(hB:Sl w ba k bc 1 bp ns)
  (h:∀a' c' w',Sep F W w' (ak a' (on+k) c' 5 1 (flat bp (out++ns))::L)->K a' (on+k) c' w'):App P #[22,22] 22 (.slice oa on oc) (.slice ba k bc) w K:=by
 refine ig ee s (i:=0) (bytes:=1) rfl rfl rfl rfl rfl rfl (by decide) rfl (hB.src (e:=5) cV A0) (by simp[maxLen];omega) (by omega) (λe=>hB.nil e) λa1 c1 w1 s1=>?_;rw[<-fX]at s1;grind
def acL {ns:List Int}{b:Nat}{i:Nat}(s:Sep F W w L)(hi:L[i]? =some (av b 5 (flat bp ns))):Sl w (sZ b) ns.length ns.length 1 bp ns:=
 ⟨⟨rfl,λj x hx=>⟨_,rfl,λk v hk=>by
  rw[cq,Nat.zero_add,Nat.mul_one];apply cM s rfl hi;have F0:k=0:=by have:=(List.getElem?_eq_some_iff.1 hk).1;rw[cV]at this;omega
  subst F0;have:=sO cV hx (j:=0) (by decide);grind⟩⟩,Nat.le_refl _,λe=>by cases e⟩
def ari {Q:Option Addr->Nat->Nat->World->Prop}{b:Nat}(hA:Sl w0 ca cn cc 1 bp cs)(hn:cn<=1000)(s:Sep No w0 w (ak (sZ b) 1 1 5 1 (flat bp [2])::av tb 84 (EA tw th ca cn cc)::L))
  (h:∀g o rn rc w',Sep No w0 w' (ak (some ⟨g,o,none⟩) rn rc 5 1 (flat bp (tM cs))::av tb 84 (EA tw th ca cn cc)::L)->Q (some ⟨g,o,none⟩) rn rc w'):∃k,wP Q k (aZ tb) (sZ b) 1 1 0 w:=by
 have hlen:=hA.len;have inner:∀(P3:Addr->Option Addr->Nat->Nat->Int->World->Prop) (x:Int) (i:Nat) (oa:Option Addr) (on oc:Nat) (out:List Int),cs[i]? =some x->on<=1000000->
   (∀a' c' w',Sep No w0 w' (ak a' (on+2) c' 5 1 (flat bp (out++[((lead x (cs.drop (i+1)):Nat):Int)%256,x]))::av tb 84 (EA tw th ca cn cc)::L)->P3 (aZ tb) a' (on+2) c' ((i+1+lead x (cs.drop (i+1)):Nat):Int) w')->
   ∀(k r:Nat) (w:World),i+1+r+k=cn->lead x (cs.drop (i+1))=r+lead x (cs.drop (i+1+r))->Sep No w0 w (ak oa on oc 5 1 (flat bp out)::av tb 84 (EA tw th ca cn cc)::L)->wO P3 Q (k+1) (aZ tb) oa on oc i ((r+1:Nat):Int) w:=by
  intro P3 x i oa on oc out hx Cm next
  have hix:i<cn:=by grind
  have hgx:gi cs i=x:=by rw[iz (by omega)]at hx;grind
  have over:∀(r:Nat) (w:World),i+1+r<=cn->lead x (cs.drop (i+1))=r->Sep No w0 w (ak oa on oc 5 1 (flat bp out)::av tb 84 (EA tw th ca cn cc)::L)->En P3 Q (aZ tb) oa on oc i ((r+1:Nat):Int) w:=by
   intro r w hr hl s;apply lS s 1 rfl;apply Sl.yK (hA.fr (au s)) rfl hix;rw[hgx,aG,aG,wrap_u8'];have e0:((r+1:Nat):Int)-1=(r:Int):=by omega
   rw[e0];refine aO s λb w s=>?_;have hB:=acL (ns:=[(r:Int)%256,x]) s (i:=0) rfl;refine aic (k:=2) (b:=0) (iZ s) (by omega) rfl (by decide) hB λa1 c1 w1 s1=>?_;rw[hl]at next
   have:=next a1 c1 w1 (gC s1 (.cons_cons _ (List.sublist_cons_self _ _)))
   grind
  intro k;induction k with
  |zero=>
   intro r w hr hl s;show JC P3 Q (wO P3 Q 0) _ _ _ _ _ _ _;have s:=ay s;apply lS s 1 rfl;rw[aG,bq];have e:cs.drop (i+1+r)=[]:=List.drop_eq_nil_of_le (by omega);rw[e]at hl;exact over r _ (by omega) hl s
  |succ k ih=>
   intro r w hr hl s;show JC P3 Q (wO P3 Q (k+1)) _ _ _ _ _ _ _;have ei:(i:Int)+((r+1:Nat):Int)=((i+1+r:Nat):Int):=by push_cast;omega
   have s:=ay s;apply lS s 1 rfl;rw[aG,bM,ei];have hB:=hA.fr (au s);refine lS s 1 rfl (Sl.yK hB rfl (by omega) ?_);refine lS s 1 rfl (Sl.yK hB rfl hix ?_);have hd:cs.drop (i+1+r)=gi cs (i+1+r)::cs.drop (i+1+r+1):=by rw[List.drop_eq_getElem_cons (by omega)];congr 1;have:=iz (l:=cs) (i:=i+1+r) (by omega);rw[List.getElem?_eq_getElem (by omega)]at this;exact Option.some.inj this
   rw[hd,lead]at hl;rw[hgx];by_cases he:gi cs (i+1+r)=x
   ·rw[dN he,cond_true,aG];rw[if_pos he]at hl;exact ih (r+1) _ (by omega) (by rw[show i+1+(r+1)=i+1+r+1 by omega];omega) s
   ·rw[cy he,cond_false];rw[if_neg he]at hl;exact over r _ (by omega) hl s
 have outer:∀(k i:Nat) (oa:Option Addr) (on oc:Nat) (out:List Int) (w:World),cn-i<=k->i<=cn->1<=on->on<=1+2*i->out++lD (cn-i) (cs.drop i)=tM cs->Sep No w0 w (ak oa on oc 5 1 (flat bp out)::av tb 84 (EA tw th ca cn cc)::L)->wP Q (k+1) (aZ tb) oa on oc i w:=by
  have stop:∀R (oa:Option Addr) (on oc:Nat) (out:List Int) (w:World),1<=on->out++lD (cn-cn) (cs.drop cn)=tM cs->Sep No w0 w (ak oa on oc 5 1 (flat bp out)::av tb 84 (EA tw th ca cn cc)::L)->JD Q R (aZ tb) oa on oc cn w:=by intro R oa on oc out w h1 he s;apply lS s 1 rfl;rw[bq];rw[List.drop_eq_nil_of_le (by omega),Nat.sub_self,lD,List.append_nil]at he;rw[he]at s;obtain⟨g,o,rfl⟩:=pY s (i:=0) rfl (by omega);exact h _ _ _ _ _ s
  intro k;induction k with
  |zero=>
   intro i oa on oc out w hk hi h1 Cm he s;obtain rfl:i=cn:=by omega
   exact stop _ _ _ _ _ _ h1 he s
  |succ k ih=>
   intro i oa on oc out w hk hi h1 Cm he s;by_cases hin:i=cn
   ·subst hin;exact stop _ _ _ _ _ _ h1 he s
   ·show JD Q (wP Q (k+1)) _ _ _ _ _ _;apply lS s 1 rfl;rw[bM];have hx:cs[i]? =some (gi cs i):=iz (by omega);have hd:cs.drop i=gi cs i::cs.drop (i+1):=by obtain⟨h1,h2⟩:=List.getElem?_eq_some_iff.1 hx;rw[List.drop_eq_getElem_cons h1,h2]
    have NM:=Pe (gi cs i) (cs.drop (i+1));rw[List.length_drop]at NM;refine⟨cn-(i+1)+1,inner _ (gi cs i) i oa on oc out hx (by omega) (λa' c' w' s'=>?_) (cn-(i+1)) 0 w (by omega) (by rw[Nat.zero_add]) s⟩;refine ih (i+1+lead (gi cs i) (cs.drop (i+1))) a' (on+2) c' _ w' (by omega) (by omega) (by omega) (by omega) ?_ s';rw[<-he,hd,show cn-i=(cn-(i+1))+1 by omega,lD,List.append_assoc,List.drop_drop];congr 1;show _::_::_=_::_::_;congr 2;exact ahI _ _ _ (by rw[List.length_drop];omega) (by rw[List.length_drop];omega)
 exact⟨cn+1,outer cn 0 _ 1 1 [2] w (by omega) (by omega) (by omega) (by omega) (by rw[List.drop_zero,Nat.sub_zero,<-hlen];rfl) s⟩
def Da {Q:Option Addr->Nat->Nat->World->Prop}{f:Nat}(hA:Sl w0 ca cn cc 1 bp cs)(hn:1<=cn/\cn<=1000)(hf:f<=2)
  (hno:GU f cs=none->∀w',Sep No w0 w' []->Q none 0 0 w')(hyes:∀out,GU f cs=some out->∀g o rn rc w',Sep No w0 w' [ak (some ⟨g,o,none⟩) rn rc 5 1 (flat bp out)]->Q (some ⟨g,o,none⟩) rn rc w'):HH tw th ca cn cc f w0 Q:=by
 apply adr;have hlen:=hA.len;refine aO (bh (F:=No)) λtb w s=>?_;have ew:IntKind.wrap .u8 (f:Int)=f:=by rw[wrap_u8'];omega
 rw[ew];refine aO s λb w s=>?_;have s:Sep No w0 w (av b 5 (flat bp [(f:Int)])::av tb 84 (EA tw th ca cn cc)::[]):=s;have hC:=hA.fr (au s);have row:Sep No w0 w (ak (sZ b) 1 1 5 1 (flat bp [(f:Int)])::av tb 84 (EA tw th ca cn cc)::[]):=by have:=gX (size:=1) s (i:=0) rfl rfl (by decide) (λu hu=>by simp[flat,bp]at hu;subst hu;rfl);grind
 by_cases f0:f=0
 ·subst f0;apply lS s 1 rfl;apply apo hC hn (ai s);cases hs:ID cs with
  |false=>
   exact hno (by unfold GU;grind) w (ai (ai s))
  |true=>
   apply lS s 1 rfl;apply hC.yK (k:=0) rfl (by omega);refine aO row λxb w s=>?_;have hB:=acL (ns:=[gi cs 0]) s (i:=0) rfl;refine aic (k:=1) (b:=0) (iZ s) (by omega) rfl (by decide) hB λa1 c1 w1 s1=>?_;obtain⟨g,o,rfl⟩:=pY s1 (i:=0) rfl (by omega);exact hyes [0,gi cs 0] (by unfold GU;grind) g o _ _ w1 (cf (L':=[_]) [0] s1 rfl (by decide))
 ·rw[cy (by omega),cond_false];by_cases f1:f=1
  ·subst f1;apply lS s 1 rfl;refine aic (b:=0) row (by omega) hlen (by omega) hC λa1 c1 w1 s1=>?_;obtain⟨g,o,rfl⟩:=pY s1 (i:=0) rfl (by omega);exact hyes (1::cs) (by unfold GU;grind) g o _ _ w1 (cf (L':=[_]) [0] s1 rfl (by decide))
  ·obtain rfl:f=2:=by omega
   exact ari hA (by omega) row λg o rn rc w' s=>hyes (tM cs) (by unfold GU;grind) g o _ _ w' (cf (L':=[_]) [0] s rfl (by decide))
end
def amy (x:Int)(ys:List Int):(tM (x::ys)).length=3+(lD ys.length (ys.drop (lead x ys))).length:=by show(2::_::x::lD ys.length (ys.drop (lead x ys))).length=_;grind
def aji {x:Int}:∀{ys:List Int},(∀y∈ys,y=x)->lead x ys=ys.length
 |[],_=>rfl
 |y::ys,h=>by rw[lead,if_pos (h y (List.mem_cons_self ..)),aji λz hz=>h z (List.mem_cons_of_mem _ hz)];rfl
def apr {cs:List Int}(h:1<=cs.length):3<=(tM cs).length/\(ID cs=true↔(tM cs).length=3):=by
 match cs,h with
 |x::ys,_=>
  rw[amy];refine⟨by omega,?_⟩;have e0:gi (x::ys) 0=x:=rfl;rw[ID,e0,Bool.not_eq_true',List.any_eq_false];constructor
  ·intro hs;have:lead x ys=ys.length:=aji λy hy=>by grind
   rw[this,List.drop_length];cases ys.length<;>rfl
  ·intro hl c hc;have h0:ys.drop (lead x ys)=[]:=by
    cases hd:ys.drop (lead x ys)with
    |nil=>rfl
    |cons z zs=>
     rw[hd]at hl;obtain⟨k,hk⟩:∃k,ys.length=k+1:=by
      cases ys with
      |nil=>simp at hd
      |cons y ys=>simp_all
     rw[hk]at hl;simp only[lD,List.length_cons]at hl;omega
   have h1:lead x ys=ys.length:=by have:=Pe x ys;grind
   have h2:=NC x ys;grind
section
variable {F:Nat->Prop}{W w w0:World}{L:List As}{ca:Option Addr}{cn cc tb:Nat}{cs:List Int}{tw th:Int}
def afN {Q:Int->Option Addr->Nat->Nat->World->Prop}{R:Addr->Int->Option Addr->Nat->Nat->Int->World->Prop}{b:Int}{oa:Option Addr}{on oc:Nat}{t:Addr}(h:Q b oa on oc w):jN Q R t b oa on oc 3 w:=by unfold jN;grind
def akc {Q:Int->Option Addr->Nat->Nat->World->Prop}(hA:Sl w0 ca cn cc 1 bp cs)(hn:1<=cn/\cn<=1000)(h:∀b g o rn rc w',Sep No w0 w' [ak (some ⟨g,o,none⟩) rn rc 5 1 (flat bp (tN cs).2)]->Q b (some ⟨g,o,none⟩) rn rc w'):
  EO tw th ca cn cc w0 Q:=by
 apply Zs;have hlen:=hA.len;obtain⟨h3,v9⟩:=apr (cs:=cs) (by omega);refine aO (bh (F:=No)) λtb w s=>?_;have rd:∀{w:World} {L':List As} {i:Nat} {K:Int->Int->Option Addr->Nat->Nat->Prop},Sep No w0 w L'->L'[i]? =some (av tb 84 (EA tw th ca cn cc))->K tw th ca cn cc->af .i64 ((aZ tb).add 0) w λa=>af .i64 ((aZ tb).add 1) w λb=>aA ((aZ tb).add 2) w λc d e=>K a b c d e:=λs hi k=>
  dw s rfl hi rfl (dw s rfl hi rfl (gT s rfl hi rfl k))
 have last:∀{best:Int} {g o on oc:Nat} {out:List Int} {w:World},out.length=on->(if(tM cs).length<on then tM cs else out)=(tN cs).2->Sep No w0 w (ak (some ⟨g,o,none⟩) on oc 5 1 (flat bp out)::av tb 84 (EA tw th ca cn cc)::[])->ow Q 2 (aZ tb) best (some ⟨g,o,none⟩) on oc 2 w:=λ{best g o on oc out w} hl he s=>by
  show jN Q (ow Q 1) _ _ _ _ _ _ _;unfold jN;apply rd s (i:=1) rfl;refine Da (hA.fr (au s)) hn (by decide) (λe=>by unfold GU at e;cases e) λro e g2 o2 rn rc w' s'=>?_;unfold GU at e;rw[if_neg (by decide),if_neg (by decide),Option.some.injEq]at e;subst e;have hrn:=(aN s' (i:=0) rfl cV (by decide)).len;have s:=fu s s';show cond true _ _;rw[cond_true];show cond false _ _;rw[cond_false];by_cases hlt:(rn:Int)<(on:Int)
  ·rw[bM hlt];unfold ze;rw[AI]at he;refine afN (h _ _ _ _ _ _ ?_);rw[<-he];exact cf (L':=[_]) [0] s rfl (by decide)
  ·rw[bq hlt];rw[fR]at he;refine afN (h _ _ _ _ _ _ ?_);rw[<-he];exact cf (L':=[_]) [1] s rfl (by decide)
 refine⟨4,?_⟩;show jN Q (ow Q 3) _ _ _ _ _ _ _;unfold jN;apply rd s (i:=0) rfl;refine Da (hA.fr (au s)) hn (by decide) (λe w' s'=>?_) λro e g o rn rc w' s'=>?_
 ·
  have hs:ID cs=false:=by unfold GU at e;grind
  have s:=fu s s';show cond false _ _;rw[cond_false];show jN Q (ow Q 2) _ _ _ _ _ _ _;unfold jN;apply rd s (i:=0) rfl;refine Da (f:=1) (hA.fr (au s)) hn (by decide) (λe=>by unfold GU at e;cases e) λro e g2 o2 rn rc w' s'=>?_;unfold GU at e;rw[if_neg (by decide),if_pos rfl,Option.some.injEq]at e;subst e;have hrn:=(aN s' (i:=0) rfl cV (by decide)).len;have s:=fu s s';show cond true _ _;refine last hrn ?_ s;unfold tN;grind
 ·unfold GU at e;rw[if_pos rfl]at e;split at e
  ·rename_i hs;rw[Option.some.injEq]at e;subst e;have hrn:2=rn:=(aN s' (i:=0) rfl cV (by decide)).len;subst hrn;have s:=fu s s';show cond true _ _;rw[cond_true];show cond true _ _;rw[cond_true];unfold ze;show jN Q (ow Q 2) _ _ _ _ _ _ _;unfold jN;apply rd s (i:=1) rfl;refine Da (f:=1) (hA.fr (au s)) hn (by decide) (λe=>by unfold GU at e;cases e) λro e g2 o2 rn rc w' s'=>?_;unfold GU at e;rw[if_neg (by decide),if_pos rfl,Option.some.injEq]at e;subst e;have hrn:=(aN s' (i:=0) rfl cV (by decide)).len;rw[List.length_cons]at hrn;have s:=fu s s';show cond true _ _;rw[cond_true];show cond false _ _;rw[cond_false,bq];refine last rfl ?_ (cf (L':=[_,_]) [1,2] s rfl (by decide));rw[tN,fR,if_pos (v9.1 hs)]
  ·cases e
def aps {Q:Option Addr->Nat->Nat->Int->World->Prop}(s0:Sep F W w0 L)(hA:Sl w0 ca cn cc 1 bp cs)(hm:Tl.DK tw th cs=true)(hn:1<=cn/\cn<=1000)(h:∀g o rn rc w',Sep F W w' (ak (some ⟨g,o,none⟩) rn rc 5 1 (flat bp (tN cs).2)::L)->Fr No w0 w'->Q (some ⟨g,o,none⟩) rn rc 0 w'):
  HG tw th ca cn cc w0 Q:=by
 apply adu;refine aO (bh (F:=No)) λtb w s=>?_;refine lI s 0 rfl (lI s 0 rfl (lS s 0 rfl ?_));refine Tl.C4 s (hA.fr (au s)).row λw s _=>?_;rw[hm,Bool.not_true,cond_false];refine lI s 0 rfl (lI s 0 rfl (lS s 0 rfl ?_));refine akc (hA.fr (au s)) hn λb g o rn rc w' s'=>?_;have s2:=fu s s';have s3:=cf (L':=[ak (some ⟨g,o,none⟩) rn rc 5 1 (flat bp (tN cs).2)]) [0] s2 rfl (by decide);exact h g o rn rc w' (fu s0 s3) (au s3)
end
end Go.Proofs.YtmegplnmiepfbaaGreatDoor.S
set_option maxRecDepth 20000
namespace Go.Proofs.YtmegplnmiepfbaaGreatDoor.S.At
open Go.Sx
open Go.Extern
def S3 (v:Value)(w:World):(ReflectliteType.typeOf #[.iface 240 v]).run P w=.ok (.iface 219 (rt 240)) w:=by kernel_rfl
def GJ (v:Value)(w:World):(ReflectliteType.typeOf #[.iface 187 v]).run P w=.ok (.iface 219 (rt 187)) w:=by kernel_rfl
def GK (t:Addr)(w:World):(ReflectliteValue.unpack (.iface 188 (.pointer (some t)))).run P w
 =.ok (.agg #[.pointer (some ⟨8,188,none⟩),.pointer (sZ w.heap.size),.int .u64 150]) (w.alloc (.cells #[.pointer (some t)] 188)):=by kernel_rfl
def Ee (n:Int)(w:World):(ReflectliteValue.unpack (.iface 187 (ae n))).run P w
 =.ok (.agg #[.pointer (some ⟨8,187,none⟩),.pointer (sZ w.heap.size),.int .u64 130]) (w.alloc (.cells #[ae n] 187)):=by kernel_rfl
def Rc (a:Addr)(w:World):(ReflectliteValue.methodAny (ReflectliteValue.valueError "reflectlite.Value.Type" 0) (λt _ _ _=>ReflectliteType.toType t) #[.agg #[.pointer (some ⟨8,188,none⟩),.pointer (some a),.int .u64 150]]).run P w
 =.ok (.iface 219 (rt 188)) w:=by kernel_rfl
def L_ (w:World):((ReflectliteType.abiMethod λt=>(λa:Nat=>Value.int IntKind.u8 (a:Int))<$>Rtype.kind t) #[.pointer (some ⟨8,188,none⟩)]).run P w=.ok (.int .u8 22) w:=by kernel_rfl
def Ma (w:World):((ReflectliteType.abiMethod λt=>(λa:Nat=>Value.int IntKind.u8 (a:Int))<$>Rtype.kind t) #[.pointer (some ⟨8,187,none⟩)]).run P w=.ok (.int .u8 2) w:=by kernel_rfl
def Rf (w:World):(ReflectliteType.method ReflectliteType.elem #[rt 188]).run P w=.ok (.iface 219 (rt 187)) w:=by kernel_rfl
def WE (w:World):(ReflectliteType.relation "Implements" ReflectliteType.implements_ #[rt 187,.iface 219 (rt 74)]).run P w=.ok (.bool true) w:=by kernel_rfl
def aeo (w:World):(ReflectliteType.relation "AssignableTo" ReflectliteType.assignableTo #[rt 240,.iface 219 (rt 187)]).run P w=.ok (.bool false) w:=by kernel_rfl
def Rh (w:World):(ReflectliteType.relation "AssignableTo" ReflectliteType.assignableTo #[rt 187,.iface 219 (rt 187)]).run P w=.ok (.bool true) w:=by kernel_rfl
def aep (v:Value)(w:World):(Go.method (P.types.size+Made.depth) 240 v "Unwrap").run P w=.ok (321,v) w:=by kernel_rfl
abbrev vP (a:Addr):Value:=.agg #[.pointer (some ⟨8,188,none⟩),.pointer (some a),.int .u64 150]
abbrev vR (a:Addr):Value:=.agg #[.pointer (some ⟨8,187,none⟩),.pointer (some a),.int .u64 130]
abbrev vE (a:Addr):Value:=.agg #[.pointer (some ⟨8,187,none⟩),.pointer (some a),.int .u64 386]
def zV (a:Addr)(w:World):(ReflectliteValue.parts (vP a)).run P w=.ok (some (188,a,150)) w:=by kernel_rfl
def Jg (a:Addr)(w:World):(ReflectliteValue.parts (vR a)).run P w=.ok (some (187,a,130)) w:=by kernel_rfl
def Jh (a:Addr)(w:World):(ReflectliteValue.parts (vE a)).run P w=.ok (some (187,a,386)) w:=by kernel_rfl
def Mb (a p:Addr)(w:World)(ha:w.cell? a=some (.pointer (some p))):(ReflectliteValue.method (ReflectliteValue.valueError "reflectlite.Value.IsNil" 0) ReflectliteValue.isNil #[vP a]).run P w=.ok (.bool false) w:=by rw[rlm];simp[Sem.run_bind,zV,Result.andThen];simp[ReflectliteValue.isNil,loadVar,isAgg,underlying,Go.Proofs.Tryz.underlying188,ha,Result.andThen]
def Ji (w:World):(Rtype.elem? 188).run P w=.ok (some 187) w:=by kernel_rfl
def acq (p:Addr)(w:World):(ReflectliteValue.mk 187 p ReflectliteValue.flagAddr).run P w=.ok (vE p) w:=by kernel_rfl
def Mc (a p:Addr)(w:World)(ha:w.cell? a=some (.pointer (some p))):(ReflectliteValue.method (ReflectliteValue.valueError "reflectlite.Value.Elem" 0) ReflectliteValue.elem #[vP a]).run P w=.ok (vE p) w:=by rw[rlm];simp[Sem.run_bind,zV,Result.andThen];simp[ReflectliteValue.elem,loadVar,isAgg,underlying,Go.Proofs.Tryz.underlying188,ha,Result.andThen,Ji,acq]
def Jj (w:World):(Rtype.directlyAssignable 187 187).run P w=.ok true w:=by kernel_rfl
def WJ (t b:Addr)(n:Int)(old:Value)(w:World)(hb:w.cell? b=some (ae n))(ht:w.cell? t=some old)(hf:w.frozen? t=false):
  (ReflectliteValue.set #[vE t,vR b]).run P w=.ok (.tuple #[]) (w.setCell t (ae n)):=by
 rw[rls];simp[Sem.run_bind,Jh,Jg,Result.andThen];simp[ReflectliteValue.flagAddr,loadVar,isAgg,underlying,Go.Proofs.Tryz.underlying187,hb,Result.andThen,Jj,storeVar,Value.cells,storeCells,Addr.add];rw[run_store P w t _ _ (by rfl)];simp[ht,hf]
def aww {t:Nat}(ht:t=240)(v:Value)(xT:TypeId)(w:World):(Instr.typeAssert (.iface t v) xT 231 true).run P w=.ok (.tuple #[.nilIface,.bool false]) w:=by subst ht;exact run_typeAssert_lacksB Go.Proofs.Tryz.underlying231 (by kernel_rfl) (by kernel_rfl) v xT w
def avD {t:Nat}(ht:t=240)(v:Value)(xT:TypeId)(w:World):(Instr.typeAssert (.iface t v) xT 224 true).run P w=.ok (.tuple #[.iface t v,.bool true]) w:=by subst ht;exact run_typeAssert_hasB Go.Proofs.Tryz.underlying224 (by kernel_rfl) v xT w
def aAr:oW 321 fns=true:=by kernel_rfl
section
variable {w:World}{p n:Nat}{v:Value}
def acp {Q:Value->World->Prop}(hv:w.cell? ((aZ p).add 1)=some v)(hp:Value.plain v=true)(k:Q v w):yH (cx n) (.iface 240 (.pointer (sZ p))) "Unwrap" [] w λv w=>dV v λr=>Q r w:=by
 refine⟨321,_,aep _ w,?_⟩;unfold h_;have h:Di (sZ p) w Q:=by apply M_;refine ah (mJ hv hp ?_);unfold dV;grind
 exact h
end
attribute [local irreducible] tJ callFunc Sem.run ReflectliteValue.method ReflectliteValue.set ReflectliteValue.unpack ReflectliteType.relation ReflectliteType.typeOf af cE bw bg aA cu bY St App cJ cB cz bW bD aq bT av ak aW mapA
section
variable {F:Nat->Prop}{W w:World}{L:List As}{p r:Nat}{c v0:Int}
def Rj {b:Addr}{K:Value->World->Prop}(hb:w.cell? b=some (ae c))(h:St (aZ r) (ae c) w λw=>K (.tuple #[]) w):tJ P 139 #[vE (aZ r),vR b] w K:=by obtain⟨⟨u,hu⟩,hf,k⟩:=amg h;have he:=WJ (aZ r) b c u w hb hu hf;apply jY (w':=w.setCell (aZ r) (ae c)) aqW he;exact k
def WK {Q:Bool->World->Prop}{k tb:Nat}{a:Nat}(s:Sep F W w (av tb 161 [.pointer (some ⟨8,188,none⟩),.pointer (sZ a),.int .u64 150]::av a 188 [.pointer (sZ r)]::av r 187 [ae v0]::L))
  (hQ:∀w',Sep F W w' (av r 187 [ae c]::L)->Q true w'){target:Value}:je Q (k+1) (.iface 187 (ae c)) target (.iface 219 (rt 187)) (aZ tb) w:=by
 show wN Q (je Q k) _ _ _ _ _;apply jY x95 (GJ _ w);refine mX (Re _) WH ai1 (Rh w) ?_;apply amd;refine lP s 0 rfl (lP s 0 rfl (lI s 0 rfl ?_));apply jY aqV (Mc (aZ a) (aZ r) w (by have:=cM s (i:=1) (j:=0) rfl rfl rfl;exact this));apply S6;refine jY x97 (Ee c w) ?_;apply S6;have s2:=tL (ai (ai s)) [ae c] 187;have s2:=s2;apply Rj (c:=c) (by simp_all);refine ax s2 (i:=1) rfl rfl rfl λw s=>?_;exact hQ w (ai s)
def ai6 {Q:Bool->World->Prop}{k tb:Nat}{a:Nat}(s:Sep F W w (av tb 161 [.pointer (some ⟨8,188,none⟩),.pointer (sZ a),.int .u64 150]::av a 188 [.pointer (sZ r)]::av r 187 [ae v0]::L))
  (hv:w.cell? ((aZ p).add 1)=some (.iface 187 (ae c)))
  (hQ:∀w',Sep F W w' (av r 187 [ae c]::L)->Q true w'){target:Value}:je Q (k+2) (.iface 240 (.pointer (sZ p))) target (.iface 219 (rt 187)) (aZ tb) w:=by
 show wN Q (je Q (k+1)) _ _ _ _ _;apply jY x95 (S3 _ w);refine mX (Re _) WH ai1 (aeo w) ?_;apply aer;refine A3 (aww rfl _ _ _) (S4 rfl ?_);refine A3 (avD rfl _ _ _) (S4 rfl ?_);exact acp hv rfl (tG (WK s hQ))
def Md {Q:Bool->World->Prop}(s:Sep F W w (av r 187 [ae v0]::L))(hv:∀w',Sep F W w' L->w'.cell? ((aZ p).add 1)=some (.iface 187 (ae c)))
  (h1:∀w',Sep F W w' L->w'.cell? (aZ 1)=some (.iface 219 (rt 74)))
  (hQ:∀w',Sep F W w' (av r 187 [ae c]::L)->Q true w'):
  nv (.iface 240 (.pointer (sZ p))) (.iface 188 (.pointer (sZ r))) w Q:=by
 apply Bp;refine tG (tG ?_);refine jY x97 (GK (aZ r) w) ?_;apply S6;have s:=tL s [.pointer (sZ r)] 188;have s:=s;generalize w.heap.size=a at s⊢;generalize w.alloc (.cells #[.pointer (sZ r)] 188)=w1 at s⊢;refine aS s λvb w s=>?_;refine sT s 0 rfl λw s=>?_;refine sT s 0 rfl λw s=>?_;refine ax s (i:=0) rfl rfl rfl λw s=>?_;refine lP s 0 rfl (lP s 0 rfl (lI s 0 rfl ?_));apply jY x98 (Rc (aZ a) w);refine mX (H9 _) Ri aeq (L_ w) ?_;apply amf;refine lP s 0 rfl (lP s 0 rfl (lI s 0 rfl ?_));apply jY x99 (Mb (aZ a) (aZ r) w (by have:=cM s (i:=1) (j:=0) rfl rfl rfl;exact this));apply aer;refine mX (aaq _) ai2 aqX (Rf w) ?_;refine mX (H9 _) Ri aeq (Ma w) ?_;apply asd;apply mJ (h1 w (ai (ai (ai s)))) rfl;refine mX (aen _) ai3 aqY (WE w) ?_;apply ame;refine lP s 0 rfl (lP s 0 rfl (lI s 0 rfl ?_));apply Gd;have s:=ai s;refine aO s λtb w s=>?_;exact⟨2,ai6 s (hv w (ai (ai (ai s)))) hQ⟩
end
end Go.Proofs.YtmegplnmiepfbaaGreatDoor.S.At
set_option maxRecDepth 20000
namespace Go.Proofs.YtmegplnmiepfbaaGreatDoor.S.Pk
open Go.Sx
open Go.Extern
def GJ (v:Value)(w:World):(ReflectliteType.typeOf #[.iface 268 v]).run P w=.ok (.iface 219 (rt 268)) w:=by kernel_rfl
def GK (t:Addr)(w:World):(ReflectliteValue.unpack (.iface 269 (.pointer (some t)))).run P w
 =.ok (.agg #[.pointer (some ⟨8,269,none⟩),.pointer (sZ w.heap.size),.int .u64 150]) (w.alloc (.cells #[.pointer (some t)] 269)):=by kernel_rfl
def Ee (n:Option Addr)(w:World):(ReflectliteValue.unpack (.iface 268 (.pointer n))).run P w
 =.ok (.agg #[.pointer (some ⟨8,268,none⟩),.pointer (sZ w.heap.size),.int .u64 150]) (w.alloc (.cells #[.pointer n] 268)):=by kernel_rfl
def Rc (a:Addr)(w:World):(ReflectliteValue.methodAny (ReflectliteValue.valueError "reflectlite.Value.Type" 0) (λt _ _ _=>ReflectliteType.toType t) #[.agg #[.pointer (some ⟨8,269,none⟩),.pointer (some a),.int .u64 150]]).run P w
 =.ok (.iface 219 (rt 269)) w:=by kernel_rfl
def L_ (w:World):((ReflectliteType.abiMethod λt=>(λa:Nat=>Value.int IntKind.u8 (a:Int))<$>Rtype.kind t) #[.pointer (some ⟨8,269,none⟩)]).run P w=.ok (.int .u8 22) w:=by kernel_rfl
def Ma (w:World):((ReflectliteType.abiMethod λt=>(λa:Nat=>Value.int IntKind.u8 (a:Int))<$>Rtype.kind t) #[.pointer (some ⟨8,268,none⟩)]).run P w=.ok (.int .u8 22) w:=by kernel_rfl
def Rf (w:World):(ReflectliteType.method ReflectliteType.elem #[rt 269]).run P w=.ok (.iface 219 (rt 268)) w:=by kernel_rfl
def WE (w:World):(ReflectliteType.relation "Implements" ReflectliteType.implements_ #[rt 268,.iface 219 (rt 74)]).run P w=.ok (.bool true) w:=by kernel_rfl
def Rh (w:World):(ReflectliteType.relation "AssignableTo" ReflectliteType.assignableTo #[rt 268,.iface 219 (rt 268)]).run P w=.ok (.bool true) w:=by kernel_rfl
abbrev vP (a:Addr):Value:=.agg #[.pointer (some ⟨8,269,none⟩),.pointer (some a),.int .u64 150]
abbrev vR (a:Addr):Value:=.agg #[.pointer (some ⟨8,268,none⟩),.pointer (some a),.int .u64 150]
abbrev vE (a:Addr):Value:=.agg #[.pointer (some ⟨8,268,none⟩),.pointer (some a),.int .u64 406]
def zV (a:Addr)(w:World):(ReflectliteValue.parts (vP a)).run P w=.ok (some (269,a,150)) w:=by kernel_rfl
def Jg (a:Addr)(w:World):(ReflectliteValue.parts (vR a)).run P w=.ok (some (268,a,150)) w:=by kernel_rfl
def Jh (a:Addr)(w:World):(ReflectliteValue.parts (vE a)).run P w=.ok (some (268,a,406)) w:=by kernel_rfl
def Mb (a p:Addr)(w:World)(ha:w.cell? a=some (.pointer (some p))):(ReflectliteValue.method (ReflectliteValue.valueError "reflectlite.Value.IsNil" 0) ReflectliteValue.isNil #[vP a]).run P w=.ok (.bool false) w:=by rw[rlm];simp[Sem.run_bind,zV,Result.andThen];simp[ReflectliteValue.isNil,loadVar,isAgg,underlying,Go.Proofs.Tryz.underlying269,ha,Result.andThen]
def Ji (w:World):(Rtype.elem? 269).run P w=.ok (some 268) w:=by kernel_rfl
def acq (p:Addr)(w:World):(ReflectliteValue.mk 268 p ReflectliteValue.flagAddr).run P w=.ok (vE p) w:=by kernel_rfl
def Mc (a p:Addr)(w:World)(ha:w.cell? a=some (.pointer (some p))):(ReflectliteValue.method (ReflectliteValue.valueError "reflectlite.Value.Elem" 0) ReflectliteValue.elem #[vP a]).run P w=.ok (vE p) w:=by rw[rlm];simp[Sem.run_bind,zV,Result.andThen];simp[ReflectliteValue.elem,loadVar,isAgg,underlying,Go.Proofs.Tryz.underlying269,ha,Result.andThen,Ji,acq]
def Jj (w:World):(Rtype.directlyAssignable 268 268).run P w=.ok true w:=by kernel_rfl
def WJ (t b:Addr)(n:Option Addr)(old:Value)(w:World)(hb:w.cell? b=some (.pointer n))(ht:w.cell? t=some old)(hf:w.frozen? t=false):
  (ReflectliteValue.set #[vE t,vR b]).run P w=.ok (.tuple #[]) (w.setCell t (.pointer n)):=by
 rw[rls];simp[Sem.run_bind,Jh,Jg,Result.andThen];simp[ReflectliteValue.flagAddr,loadVar,isAgg,underlying,Go.Proofs.Tryz.underlying268,hb,Result.andThen,Jj,storeVar,Value.cells,storeCells,Addr.add];rw[run_store P w t _ _ (by rfl)];simp[ht,hf]
attribute [local irreducible] tJ callFunc Sem.run ReflectliteValue.method ReflectliteValue.set ReflectliteValue.unpack ReflectliteType.relation ReflectliteType.typeOf af cE bw bg aA cu bY St App cJ cB cz bW bD aq bT av ak aW mapA
section
variable {F:Nat->Prop}{W w:World}{L:List As}{p r:Nat}{c v0:Option Addr}
def awx {A B:Prop}(h:A):dI .u8 (.int .u8 22) λr=>cond (r !=20) A B:=h
def Rj {b:Addr}{K:Value->World->Prop}(hb:w.cell? b=some (.pointer c))(h:St (aZ r) (.pointer c) w λw=>K (.tuple #[]) w):tJ P 139 #[vE (aZ r),vR b] w K:=by obtain⟨⟨u,hu⟩,hf,k⟩:=amg h;have he:=WJ (aZ r) b c u w hb hu hf;apply jY (w':=w.setCell (aZ r) (.pointer c)) aqW he;exact k
def WK {Q:Bool->World->Prop}{k tb:Nat}{a:Nat}(s:Sep F W w (av tb 161 [.pointer (some ⟨8,269,none⟩),.pointer (sZ a),.int .u64 150]::av a 269 [.pointer (sZ r)]::av r 268 [.pointer v0]::L))
  (hQ:∀w',Sep F W w' (av r 268 [.pointer c]::L)->Q true w'){target:Value}:je Q (k+1) (.iface 268 (.pointer c)) target (.iface 219 (rt 268)) (aZ tb) w:=by
 show wN Q (je Q k) _ _ _ _ _;apply jY x95 (GJ _ w);refine mX (Re _) WH ai1 (Rh w) ?_;apply amd;refine lP s 0 rfl (lP s 0 rfl (lI s 0 rfl ?_));apply jY aqV (Mc (aZ a) (aZ r) w (by have:=cM s (i:=1) (j:=0) rfl rfl rfl;exact this));apply S6;refine jY x97 (Ee c w) ?_;apply S6;have s2:=tL (ai (ai s)) [.pointer c] 268;have s2:=s2;apply Rj (c:=c) (by simp_all);refine ax s2 (i:=1) rfl rfl rfl λw s=>?_;exact hQ w (ai s)
def Md {Q:Bool->World->Prop}(s:Sep F W w (av r 268 [.pointer v0]::L))
  (h1:∀w',Sep F W w' L->w'.cell? (aZ 1)=some (.iface 219 (rt 74)))
  (hQ:∀w',Sep F W w' (av r 268 [.pointer c]::L)->Q true w'):
  nv (.iface 268 (.pointer c)) (.iface 269 (.pointer (sZ r))) w Q:=by
 apply Bp;refine tG (tG ?_);refine jY x97 (GK (aZ r) w) ?_;apply S6;have s:=tL s [.pointer (sZ r)] 269;have s:=s;generalize w.heap.size=a at s⊢;generalize w.alloc (.cells #[.pointer (sZ r)] 269)=w1 at s⊢;refine aS s λvb w s=>?_;refine sT s 0 rfl λw s=>?_;refine sT s 0 rfl λw s=>?_;refine ax s (i:=0) rfl rfl rfl λw s=>?_;refine lP s 0 rfl (lP s 0 rfl (lI s 0 rfl ?_));apply jY x98 (Rc (aZ a) w);refine mX (H9 _) Ri aeq (L_ w) ?_;apply amf;refine lP s 0 rfl (lP s 0 rfl (lI s 0 rfl ?_));apply jY x99 (Mb (aZ a) (aZ r) w (by have:=cM s (i:=1) (j:=0) rfl rfl rfl;exact this));apply aer;refine mX (aaq _) ai2 aqX (Rf w) ?_;refine mX (H9 _) Ri aeq (Ma w) ?_;apply awx;apply mJ (h1 w (ai (ai (ai s)))) rfl;refine mX (aen _) ai3 aqY (WE w) ?_;apply ame;refine lP s 0 rfl (lP s 0 rfl (lI s 0 rfl ?_));apply Gd;have s:=ai s;refine aO s λtb w s=>?_;exact⟨1,WK s hQ⟩
end
end Go.Proofs.YtmegplnmiepfbaaGreatDoor.S.Pk
set_option maxRecDepth 20000
namespace Go.Proofs.YtmegplnmiepfbaaGreatDoor.S
open Go.Sx
attribute [local irreducible] af cE bw bg aA cu bY St Bx Al App cJ cB cz bW aL bD aq bT av ak aW mapA
abbrev sY (a:Addr):Value:=.iface 401 (.pointer (some a))
attribute [local irreducible] tJ yH in
theorem arj {w:World}{Q:Bool->World->Prop}{a b:Addr}{c:Bool}(he:∀(x y:Operand) (K:Bool->World->Prop),K c w->bW P .eql 74 x y (sY a) (sY b) w K)(hQ:Q c w):pz (sY a) (sY b) w Q:=by
 apply Ns;refine tG (tG ?_);apply jY x95 (afB _ w);refine mX (aiZ _) aoY avl (akY w) ?_;have h:wW (sY a) (sY b) true w Q:=by apply Nr;exact⟨1,akZ (.inl rfl) he hQ⟩
 exact h
def As.nil {w:World}{Q:Bool->World->Prop}{v:Value}(hQ:Q false w):nv .nilIface v w Q:=Bp _ _ _ _ hQ
def avE {w:World}{Q:Bool->World->Prop}{a b:Option Addr}{n c m d:Nat}{xs ys:List Int}(hA:Sl w a n c 1 bp xs)(hB:Sl w b m d 1 bp ys)(hx:dZ xs)(hy:dZ ys)(h:Q (decide (xs=ys)) w):Dx a n c b m d w Q:=by apply XR;refine Yt ee hA.row rfl rfl rfl rfl rfl rfl (akt ?_);refine Yt ee hB.row rfl rfl rfl rfl rfl rfl (akt ?_);rw[anv hx hy];exact h
abbrev CB (rb:Nat)(ba:Option Addr)(bn bc:Nat)(at_:Int):As:=av rb 265 [.slice ba bn bc,ae at_]
section
variable {W w w0:World}{L:List As}{lg:xH}{ba:Option Addr}{bn bc rb:Nat}{bs:List Int}{p n:Nat}
def aeC {A B:Prop}(h:A):BM .nilIface λb=>cond b A B:=h
def Mj {A B:Prop}(h:B):BM .nilIface λb=>cond (!b) A B:=h
def Ro {t:Nat}{v:Value}{A B:Prop}(h:A):BM (.iface t v) λb=>cond (!b) A B:=h
def AY {a:Addr}{K:Value->Prop}(k:K (sY a)):dV (sY a) K:=k
def Te {Q:Option Addr->Nat->Nat->Value->World->Prop}(hL:iG w0 lg)(hB:Sl w0 ba bn bc 1 bp bs)(FG:bn<=1000000000)(hp:p<=bn)(hn:n<=100000)(s:Sep No w0 w (CB rb ba bn bc p::L))
  (hno:bn-p<n->∀w',Sep No w0 w' (CB rb ba bn bc p::L)->Q none 0 0 (sY lg.a6) w')
  (hyes:p+n<=bn->∀a c w',Sl w' a n c 1 bp ((bs.drop p).take n)->Sep No w0 w' (CB rb ba bn bc ((p+n:Nat):Int)::L)->Q a n c .nilIface w'):nM (sZ rb) n w Q:=by
 apply Ol;have s:=ay s;refine ah (lS s 0 rfl (ah (lI s 0 rfl ?_)));rw[aG];by_cases h:bn-p<n
 ·rw[bM];have s:=ay s;have c6:=Fr.cell (au s) hL.v6 id;exact mJ c6 rfl ⟨c6,AY (hno h _ s)⟩
 ·rw[bq];refine ah (lI s 0 rfl (ah (ax s (i:=0) rfl rfl rfl λw s=>?_)));have e:IntKind.wrap .i64 ((p:Int)+n)=((p+n:Nat):Int):=by rw[aG];omega
  rw[e]at s;have s:=ay s;refine ah (lS s 0 rfl (ah (lI s 0 rfl (ah (lI s 0 rfl ?_)))));rw[aG];refine(hB.fr (au s)).mid (p:=p) (by omega) rfl (by omega) (by omega) λa n' c en hs=>?_;grind
def YR {Q:Option Addr->Nat->Nat->Value->World->Prop}(hL:iG w0 lg)(hB:Sl w0 ba bn bc 1 bp bs)(FG:bn<=1000000000)(hp:p<=bn)(hn:n<=100000)(s:Sep No w0 w (CB rb ba bn bc p::L))
  (hno:bn-p<n->∀w',Sep No w0 w' (CB rb ba bn bc p::L)->Q none 0 0 (sY lg.a6) w')
  (GP:p+n<=bn->0∈(bs.drop p).take n->∀a c w',Sl w' a n c 1 bp ((bs.drop p).take n)->Sep No w0 w' (CB rb ba bn bc ((p+n:Nat):Int)::L)->Q a n c (sY lg.a5) w')
  (hyes:p+n<=bn->0∉(bs.drop p).take n->∀a c w',Sl w' a n c 1 bp ((bs.drop p).take n)->Sep No w0 w' (CB rb ba bn bc ((p+n:Nat):Int)::L)->Q a n c .nilIface w'):qw (sZ rb) n w Q:=by
 apply MD;refine Te hL hB FG hp hn s (λh w s=>?_) λh a c w hs s=>?_
 ·exact tG (AY (hno h w s))
 ·apply aeC;apply Tl.HS hs.row (by omega);by_cases h0:(0:Int)∈(bs.drop p).take n
  ·rw[bM h0];have c5:=Fr.cell (au s) hL.v5 id;exact mJ c5 rfl (AY (GP h h0 a c w hs s))
  ·rw[bq h0];exact hyes h h0 a c w hs s
def Xx {Q:Option Addr->Nat->Nat->Value->World->Prop}(hL:iG w0 lg)(s:Sep No w0 w L)(h:∀w',Sep No w0 w' L->Q none 0 0 (sY lg.a5) w'):bY (aZ 5) w.drew λx=>w.drew.cell? (aZ 5)=some x/\dV x λr=>Q none 0 0 r w.drew:=by have s:=ay s;have c5:=Fr.cell (au s) hL.v5 id;exact mJ c5 rfl ⟨c5,AY (h _ s)⟩
def apt {Q:Option Addr->Nat->Nat->Value->World->Prop}(hL:iG w0 lg)(hB:Sl w0 ba bn bc 1 bp bs)(FG:bn<=1000000000)(hr:dZ bs)(hn:n<=256)
  (hno:pR n (bs.drop 1) [] 1=none->∀e p' w',(e=lg.a5\/e=lg.a6)->Sep No w0 w' (CB rb ba bn bc p'::L)->Q none 0 0 (sY e) w')
  (hyes:∀cs used,pR n (bs.drop 1) [] 1=some (cs,used)->∀a m c w',used<=bn->Sep No w0 w' (ak a m c 5 1 (flat bp cs)::CB rb ba bn bc (used:Nat)::L)->Q a m c .nilIface w'):
  ∀(j p:Nat) (oa:Option Addr) (on oc:Nat) (out:List Int) (w:World),n<=on+j->on<=n->p<=bn->pR n (bs.drop p) out p=pR n (bs.drop 1) [] 1->Sep No w0 w (ak oa on oc 5 1 (flat bp out)::CB rb ba bn bc p::L)->
   pF Q (j+1) (sZ rb) n oa on oc w:=by
 have hbl:=hB.len;intro j;induction j with
 |zero=>
  intro p oa on oc out w hj Cm hp he s;show pE _ _ _ _ _ _ _ _;unfold pE;have hol:=(aN s (i:=0) rfl cV (by decide)).len;rw[ND (by omega)]at he;grind
 |succ j ih=>
  intro p oa on oc out w hj Cm hp he s;have hol:=(aN s (i:=0) rfl cV (by decide)).len;show pE _ _ _ _ _ _ _ _;unfold pE;by_cases hlt:on<n
  ·rw[bM];refine Te (n:=2) hL hB FG hp (by decide) (iZ s) (λh w s=>?_) λh a c w hs s=>?_
   ·refine Ro (AY ?_);refine hno ?_ lg.a6 p w (.inr rfl) (gC s (.cons_cons _ (List.sublist_cons_self _ _)));rw[<-he];have h2:(bs.drop p).length<2:=by grind
    match hd:bs.drop p,h2 with
    |[],_=>unfold pR;grind
    |[x],_=>unfold pR;grind
   ·apply Mj;have s:=ay s;have hs:=hs.drew;obtain⟨x,y,rest,hd⟩:∃x y rest,bs.drop p=x::y::rest:=by
     have h2:2<=(bs.drop p).length:=by rw[List.length_drop];omega
     match hd:bs.drop p,h2 with
     |x::y::rest,_=>exact⟨x,y,rest,rfl⟩
    have awy:rest=bs.drop (p+2):=by rw[<-List.drop_drop,hd];rfl
    have hx:=hr x (List.mem_of_mem_drop (by rw[hd];simp));rw[hd]at hs he;apply hs.yK rfl (by decide);refine hs.El rfl (by decide) λad z hz hc=>?_;have hz':z=y:=by have:([x,y]:List Int)[1]? =some z:=hz;simpa using this.symm
    subst hz';have hc0:=hc 0 _ rfl;refine aR hc0 ⟨hc0,?_⟩;have e1:gi (List.take 2 (x::z::rest)) 0=x:=rfl;rw[e1];rw[pR,fR]at he;have bad:Ea n out x z=true->∀w',Sep No w0 w' (CB rb ba bn bc ((p+2:Nat):Int)::ak oa on oc 5 1 (flat bp out)::L)->Q none 0 0 (sY lg.a5) w':=λhb w' s'=>by rw[if_pos hb]at he;exact hno he.symm lg.a5 _ w' (.inl rfl) (gC s' (.cons_cons _ (List.sublist_cons_self _ _)))
    by_cases hz0:z=0
    ·rw[dN hz0,cond_true];exact Xx hL s (bad (by unfold Ea;rw[dN hz0];rfl))
    rw[cy hz0,cond_false,aG (n:=x),aG,aG];by_cases asq:x+1>(n:Int)-on
    ·rw[bM asq];exact Xx hL s (bad (by unfold Ea;rw[decide_eq_true (by omega)];simp))
    rw[bq asq];have go:¬Ea n out x z=true->uo (pF Q (j+1)) Q (sZ rb) n oa on oc (x+1) z w.drew:=λhb=>by
     rw[if_neg hb]at he;refine aO s λxb w s=>?_;have hX:=acL (ns:=[z]) s (i:=0) rfl;have e2:x+1=(((x+1).toNat:Nat):Int):=by omega
     rw[e2];refine Td s hX (by omega) λra w s _=>?_;have hR:=aN s (i:=0) rfl cV (by decide);have s:=pk 4 [3,2,0] s;refine aic (b:=0) s (by omega) (by simp) (by omega) hR λa' c' w s=>?_;refine ih (p+2) a' (on+(x+1).toNat) c' _ w (by omega) (by omega) (by omega) ?_ (gC s (.cons_cons _ (.cons_cons _ (List.sublist_cons_self _ _))));rw[<-awy];exact he
    by_cases hpos:0<on
    ·rw[bM,aG];have hO:=aN s (i:=1) rfl cV (by decide);apply hO.yK (k:=on-1) (by omega) (by omega);by_cases hl:gi out (on-1)=z
     ·rw[dN hl,cond_true];exact Xx hL s (bad (by unfold Ea;rw[hol,decide_eq_true hpos,dN hl];simp))
     ·rw[cy hl,cond_false];apply go;rw[Ea,hol,cy hl,cy hz0,decide_eq_false (by omega)];simp
    ·rw[bq];apply go;rw[Ea,hol,cy hz0,decide_eq_false (by omega),decide_eq_false hpos];simp
  ·rw[bq];rw[ND (by omega)]at he;exact hyes out p he.symm oa on oc w hp s
def amz {Q:Option Addr->Nat->Nat->Value->World->Prop}(hL:iG w0 lg)(hB:Sl w0 ba bn bc 1 bp bs)(FG:1<=bn/\bn<=1000000000)(hr:dZ bs)(hn:n<=256)(s:Sep No w0 w (CB rb ba bn bc 1::L))
  (hno:pR n (bs.drop 1) [] 1=none->∀e p' w',(e=lg.a5\/e=lg.a6)->Sep No w0 w' (CB rb ba bn bc p'::L)->Q none 0 0 (sY e) w')
  (hyes:∀cs used,pR n (bs.drop 1) [] 1=some (cs,used)->∀a m c w',used<=bn->Sep No w0 w' (ak a m c 5 1 (flat bp cs)::CB rb ba bn bc (used:Nat)::L)->Q a m c .nilIface w'):x7 (sZ rb) n w Q:=by
 apply Om;exact⟨n+1,apt hL hB FG.2 hr hn hno hyes n 1 none 0 0 [] w (by omega) (Nat.zero_le _) FG.1 rfl (bE s 5 1)⟩
end
end Go.Proofs.YtmegplnmiepfbaaGreatDoor.S
set_option maxRecDepth 20000
namespace Go.Proofs.YtmegplnmiepfbaaGreatDoor.S
open Go.Sx
attribute [local irreducible] af cE bw bg aA cu bY St Bx Al App cJ cB cz bW aL bD aq bT av ak aW mapA
def atH {bs cs:List Int}{n used:Nat}(hn:1<=n)(hb:∀x∈bs,0<=x/\x<256)(hB:Iw n bs=some (cs,used)):cs.length=n/\(∀x∈cs,1<=x/\x<256)/\used<=bs.length:=by
 cases bs with
 |nil=>cases hB
 |cons f r=>
  rw[Fz]at hB;split at hB
  ·split at hB
   ·cases hB
   ·rename_i h1;cases hB;obtain⟨x,r',rfl⟩:∃x r',r=x::r':=by
     cases r with
     |nil=>grind
     |cons x r'=>grind
    have hx:=hb x (by simp);refine⟨by simp,λy hy=>?_,by simp⟩;rw[List.mem_replicate]at hy;have h3:y=x:=hy.2;omega
  ·split at hB
   ·grind
   ·split at hB
    ·have:=SK n r [] 1 cs used (λx hx=>hb x (by simp[hx])) (by simp) (by simp) hB;grind
    ·cases hB
section
variable {W w w0:World}{L:List As}{lg:xH}{ba:Option Addr}{bn bc rb:Nat}{bs:List Int}{n:Nat}
def amA {Q:Option Addr->Nat->Nat->Value->World->Prop}(hL:iG w0 lg)(hB:Sl w0 ba bn bc 1 bp bs)(FG:bn<=1000000000)(hr:dZ bs)(hn:1<=n/\n<=256)(s:Sep No w0 w (CB rb ba bn bc 0::L))
  (hno:Iw n bs=none->∀a m c ns e p' w',(e=lg.a5\/e=lg.a6)->m<=256->Sl w' a m c 1 bp ns->Sep No w0 w' (CB rb ba bn bc p'::L)->Q a m c (sY e) w')
  (hyes:∀cs used,Iw n bs=some (cs,used)->∀a c w',used<=bn->Sl w' a n c 1 bp cs->Sep No w0 w' (CB rb ba bn bc (used:Nat)::L)->Q a n c .nilIface w'):xZ (sZ rb) n w Q:=by
 apply On;have hbl:=hB.len;have s:=s;refine Te (n:=1) hL hB FG (Nat.zero_le _) (by decide) s (λh w s=>?_) λh a c w hs s=>?_
 ·have e0:bs=[]:=List.eq_nil_of_length_eq_zero (by omega);exact Ro (AY (hno (by rw[e0];rfl) none 0 0 [] lg.a6 _ w (.inr rfl) (Nat.zero_le _) zR s))
 ·apply Mj;obtain⟨f,r,rfl⟩:∃f r,bs=f::r:=by
   cases bs with
   |nil=>grind
   |cons f r=>grind
  apply hs.yK rfl (by decide);have e1:gi (List.take 1 (List.drop 0 (f::r))) 0=f:=rfl;rw[e1];have s:=s;rw[List.length_cons]at hbl;have hr1:=hr.cons;rw[Fz]at hno hyes;by_cases f0:f=0
  ·rw[dN f0,cond_true];rw[if_pos f0]at hno hyes;refine YR (n:=1) hL hB FG (by omega) (by decide) s (λh w s=>?_) (λh h0 a c w hs s=>?_) λh h0 a c w hs s=>?_
   ·have er:r=[]:=List.eq_nil_of_length_eq_zero (by omega);refine amx s (by omega) λra w s _=>AY ?_;have hA:=aN s (i:=0) rfl cV (by decide);exact hno (if_pos (.inl er)) ra 0 0 [] lg.a6 _ w (.inr rfl) (Nat.zero_le _) hA (ai s)
   ·obtain⟨x,r',rfl⟩:∃x r',r=x::r':=by
     cases r with
     |nil=>simp at hbl;omega
     |cons x r'=>exact⟨x,r',rfl⟩
    have hx:x=0:=by have:(0:Int)∈[x]:=h0;exact(List.mem_singleton.1 this).symm
    have hs:=hs;refine Td s hs (by omega) λra w s _=>AY ?_;have hA:=aN s (i:=0) rfl cV (by decide);exact hno (if_pos (.inr hx)) ra n n _ lg.a5 _ w (.inl rfl) hn.2 hA (ai s)
   ·obtain⟨x,r',rfl⟩:∃x r',r=x::r':=by
     cases r with
     |nil=>simp at hbl;omega
     |cons x r'=>exact⟨x,r',rfl⟩
    have hx:¬x=0:=λe=>h0 (by rw[e];exact List.mem_cons_self ..);have hs:=hs;refine Td s hs (by omega) λra w s _=>?_;have hA:=aN s (i:=0) rfl cV (by decide);refine hyes _ 2 (if_neg λe=>e.elim (λe=>by cases e) hx) ra n w h hA (ai s)
  rw[cy f0,cond_false];rw[if_neg f0]at hno hyes;by_cases f1:f=1
  ·rw[dN f1,cond_true];rw[if_pos f1]at hno hyes;refine YR hL hB FG (by omega) (by omega) s (λh w s=>?_) (λh h0 a c w hs s=>?_) λh h0 a c w hs s=>?_
   ·exact AY (hno (if_pos (.inl (by omega))) none 0 0 [] lg.a6 _ w (.inr rfl) (Nat.zero_le _) zR s)
   ·exact AY (hno (if_pos (.inr h0)) a n c _ lg.a5 _ w (.inl rfl) hn.2 hs s)
   ·exact hyes _ (1+n) (if_neg λe=>e.elim (λe=>by omega) h0) a c w h hs s
  rw[cy f1,cond_false];rw[if_neg f1]at hno hyes;by_cases f2:f=2
  ·rw[dN f2,cond_true];rw[if_pos f2]at hno hyes;refine amz hL hB (by omega) hr hn.2 s (λh e p' w he s=>AY (hno h none 0 0 [] e p' w he (Nat.zero_le _) zR s)) λcs used h a m c w hu s=>?_;have hA:=aN s (i:=0) rfl cV (by decide);have hm:=(SK n r [] 1 cs used (λx hx=>hr1.2 x hx) (by simp) (by simp) h).1;have:m=n:=by rw[<-hA.len,hm]
   subst this;exact hyes cs used h a c w hu hA (ai s)
  ·rw[cy f2,cond_false];rw[if_neg f2]at hno;exact Xx hL s λw' s=>hno rfl none 0 0 [] lg.a5 _ w' (.inl rfl) (Nat.zero_le _) zR s
end
section
variable {W w w0:World}{L:List As}{lg:xH}{ba:Option Addr}{bn bc rb:Nat}{bs:List Int}{n:Nat}{tw th:Int}
def aaH {p:Nat}{v0 v1 v2:Value}{a b:Int}{c:Option Addr}{d e:Nat}{F:Nat->Prop}{t:TypeId}{K:Int->Int->Option Addr->Nat->Nat->World->Prop}(s:Sep F W w (av p t [v0,v1,v2]::L))(h:∀w',Sep F W w' L->K a b c d e w'):
  St ((aZ p).add 0) (ae a) w λw=>St ((aZ p).add 1) (ae b) w λw=>St ((aZ p).add 2) (.slice c d e) w λw=>af .i64 ((aZ p).add 0) w λa=>af .i64 ((aZ p).add 1) w λb=>aA ((aZ p).add 2) w λc d e=>K a b c d e w:=by
 refine sT s 0 rfl λw s=>?_;refine sT s 0 rfl λw s=>?_;refine ax s (i:=0) rfl rfl rfl λw s=>?_;exact lI s 0 rfl (lI s 0 rfl (lS s 0 rfl (h w (ai s))))
def awz {a b:Addr}(hb:∃c t,w.heap[b.block]? =some (.cells c t (0,0)))(ha:∃c t,w.heap[a.block]? =some (.cells c t (0,0))):∃c:Bool,(c=true↔a=b)/\∀(x y:Operand) (K:Bool->World->Prop),K c w->bW P .eql 74 x y (sY a) (sY b) w K:=by
 by_cases h:a=b
 ·subst h;exact⟨true,by simp,λx y K hk=>WG hk⟩
 ·obtain⟨c1,t1,h1⟩:=ha;obtain⟨c2,t2,h2⟩:=hb;exact⟨false,by simp[h],λx y K hk=>aco h h1 h2 hk⟩
def amB {Q:Int->Int->Option Addr->Nat->Nat->Value->World->Prop}{p':Int}{t6:Nat}{e:Addr}{t:Addr}{v0 v1 v2:Value}(hL:iG w0 lg)(he:e=lg.a5\/e=lg.a6)(s:Sep No w0 w (CB rb ba bn bc p'::av t6 84 [v0,v1,v2]::L))
  (h:∀fb co w',Sep No w0 w' (av fb 271 [ae p',ae co,sY e]::CB rb ba bn bc p'::L)->(co=2\/co=3)->Q 0 0 none 0 0 (.iface 268 (.pointer (sZ fb))) w'):
  mT Q (sZ rb) (aZ t6) (sY e) t w:=by
 refine tG (ah (lI s 0 rfl (AY ?_)));refine aO s λfb w s=>?_;have k:=hL.fr (au s);apply mJ k.v6 rfl;obtain⟨c,hc,hq⟩:=awz (a:=e) k.b6 (by rcases he with rfl|rfl;exact k.b5;exact k.b6);apply arj hq;cases c with
 |true=>
  refine ax s (i:=0) rfl rfl rfl λw s=>?_;exact aaH (pk 3 [2,0,1] s) λw s=>h fb 2 w s (.inl rfl)
 |false=>
  exact aaH (pk 3 [2,0,1] s) λw s=>h fb 3 w s (.inr rfl)
def amC {Q:Int->Int->Option Addr->Nat->Nat->Value->World->Prop}(hL:iG w0 lg)(hB:Sl w0 ba bn bc 1 bp bs)(FG:bn<=1000000000)(hr:dZ bs)(hw:1<=tw/\tw<=16)(hh:1<=th/\th<=16)(hn:(n:Int)=tw*th)(s:Sep No w0 w (CB rb ba bn bc 0::L))
  (hno:EY bs n=none->∀fb p' co e w',(co=2\/co=3)->Sep No w0 w' (av fb 271 [ae p',ae co,sY e]::CB rb ba bn bc p'::L)->Q 0 0 none 0 0 (.iface 268 (.pointer (sZ fb))) w')
  (hyes:∀cs used,EY bs n=some (cs,used)->∀ta tn tc w',used<=bn->Sep No w0 w' (ak ta tn tc 5 1 (flat bp cs)::CB rb ba bn bc (used:Nat)::L)->Q tw th ta tn tc .nilIface w'):xY (sZ rb) tw th w Q:=by
 apply Oo;have q1:=Int.mul_le_mul hw.1 hh.1 (by decide) (by omega);have q2:=Int.mul_le_mul hw.2 hh.2 (by omega) (by decide);rw[aG,<-hn];refine aS s λt6 w s=>?_;have fail:∀{e:Addr} {t:Addr} {p':Int} {w:World},(e=lg.a5\/e=lg.a6)->EY bs n=none->Sep No w0 w (CB rb ba bn bc p'::av t6 84 [ae 0,ae 0,.slice none 0 0]::L)->mT Q (sZ rb) (aZ t6) (sY e) t w:=λhe hg s=>
  amB hL he s λfb co w' s' KY=>hno hg fb _ co _ w' KY s'
 refine amA hL hB FG hr (by omega) (iZ s) (λhb a m c ns e p' w he hm hA s=>?_) λcs used hb a c w hu hA s=>?_
 ·refine Gp s hA (by omega) λra rc w s _=>?_;refine aS s λtb w s=>?_;refine sT s 0 rfl λw s=>?_;refine sT s 0 rfl λw s=>?_;refine sT s 0 rfl λw s=>?_;apply tG;refine fail he ?_ (ai (ai s));rw[EY,hb]
 ·obtain⟨k1,k2,k3⟩:=atH (by omega) (λx hx=>hr x hx) hb;refine Gp s hA (by omega) λra rc w s _=>?_;refine aS s λtb w s=>?_;refine sT s 0 rfl λw s=>?_;refine sT s 0 rfl λw s=>?_;refine ax s (i:=0) rfl rfl rfl λw s=>?_;apply aeC;refine lI s 0 rfl (lI s 0 rfl (lS s 0 rfl ?_));have hC:=aN s (i:=1) rfl cV (by decide);refine aps s hC (Tl.ZT.2 ⟨hw,hh,by omega,λh0=>by grind⟩) (by omega) λg o pn pc w s _=>?_;have s:=ay s;refine ah (lS s 3 rfl (ah (lI s 3 rfl ?_)));refine(hB.fr (au s)).hi rfl hu λb' c' hS=>?_;have hP:=aN s (i:=0) rfl cV (by decide);apply avE hP hS (ahJ (λx hx=>by grind) (by omega)) (hr.take used);by_cases e:(tN cs).2=bs.take used
  ·rw[decide_eq_true e,Bool.not_true,cond_false];apply aeC;refine lI s 1 rfl (lI s 1 rfl (lS s 1 rfl ?_));refine aaH (pk 5 [4,2,3] s) λw s=>?_;refine hyes cs used ?_ ra n rc w hu s;unfold EY;grind
  ·rw[decide_eq_false e];have c5:=Fr.cell (au s) hL.v5 id;refine mJ c5 rfl (fail (.inl rfl) ?_ (pk 5 [3,4] s));unfold EY;grind
def aeD {F:Nat->Prop}{Q:Int->Int->Option Addr->Nat->Nat->Int->Int->World->Prop}(hL:iG w lg)(hB:Sl w ba bn bc 1 bp bs)(FG:bn<=1000000000)(hr:dZ bs)(hw:1<=tw/\tw<=16)(hh:1<=th/\th<=16)(hn:(n:Int)=tw*th)(s0:Sep F W w L)
  (hno:EY bs n=none->∀co w',(co=2\/co=3)->Sep F W w' L->Fr No w w'->Q 0 0 none 0 0 0 co w')
  (hyes:∀cs used,EY bs n=some (cs,used)->∀ta tn tc w',used<=bn->Sep F W w' (ak ta tn tc 5 1 (flat bp cs)::L)->Fr No w w'->Q tw th ta tn tc (used:Nat) 0 w'):HF ba bn bc tw th w Q:=by
 apply adv;refine aS (bh (F:=No)) λtb w1 s=>?_;rw[bq,bq,bq,bq];refine aO s λrb w1 s=>?_;have c1:∀{w':World} {L':List As},Sep No w w' L'->w'.cell? (aZ 1)=some (.iface 219 (rt 74)):=λs=>(hL.fr (au s)).v1;refine amC hL hB FG hr hw hh hn s (λhg fb p' co e w1 KY s=>?_) λcs used hg ta tn tc w1 hu s=>?_
 ·refine sT s 2 rfl λw1 s=>?_;refine sT s 2 rfl λw1 s=>?_;refine ax s (i:=2) rfl rfl rfl λw1 s=>?_;refine aS s λf w1 s=>?_;have s:=s;refine ax s (i:=0) rfl rfl rfl λw1 s=>?_;refine Pk.Md s (λw' s'=>c1 s') λw1 s=>?_;have s:=ay s;refine lP s 0 rfl (ah (lI s 1 rfl ?_));refine sT s 3 rfl λw1 s=>?_;refine sT s 3 rfl λw1 s=>?_;refine ax s (i:=3) rfl rfl rfl λw1 s=>?_;refine⟨cg s 1 rfl,cg s 0 rfl,cg s 1 rfl,cg s 0 rfl,?_⟩;refine lI s 3 rfl (lI s 3 rfl (lS s 3 rfl ?_));have s':=cf (L':=[]) [] s rfl (by decide);exact hno hg co w1 KY (fu s0 s') (au s')
 ·refine sT s 2 rfl λw1 s=>?_;refine sT s 2 rfl λw1 s=>?_;refine ax s (i:=2) rfl rfl rfl λw1 s=>?_;refine aS s λf w1 s=>?_;have s:=s;refine ax s (i:=0) rfl rfl rfl λw1 s=>?_;apply As.nil;have s:=ay s;refine lI s 3 rfl (lI s 3 rfl (lS s 3 rfl ?_));apply lI s 2 rfl;refine sT s 3 rfl λw1 s=>?_;refine sT s 3 rfl λw1 s=>?_;refine ax s (i:=3) rfl rfl rfl λw1 s=>?_;refine⟨cg s 2 rfl,?_⟩;refine lI s 3 rfl (lI s 3 rfl (lS s 3 rfl ?_));have s':=cf (L':=[ak ta tn tc 5 1 (flat bp cs)]) [1] s rfl (by decide);exact hyes cs used hg ta tn tc w1 hu (fu s0 s') (au s')
end
section
variable {w h sc:Int}{M ts:List Int}{y tw p:Nat}
def ajj (hs:dW w h sc)(hM:(M.length:Int)=w*h){c:Nat}(hc:c<M.length):bF w h c:=⟨hs.1,by omega,by omega⟩
def apv (hs:dW w h sc)(hM:(M.length:Int)=w*h):EZ w h sc M ts 0=M:=by refine U5 LQ λc hc=>?_;rw[LQ]at hc;rw[Xg hc,if_neg];rintro ⟨e,h0⟩;have hC:=ajj hs hM hc;have hl:=(j6 hC).1;have:=Int.ediv_nonneg hl (b:=aD w h sc) (by have:=(zA hs).1;omega);omega
def ajk (hs:dW w h sc)(QO:(tw:Int)=aD w h sc)(hy:(y:Int)<bz w h sc)(hp:(p:Int)=bX w h sc (y*aD w h sc)){c:Nat}(hC:bF w h c):
  (aC w h c=sc/\dX w h c/aD w h sc=y)↔(p<=c/\c<p+tw):=by
 have hz:=zA hs;constructor
 ·rintro ⟨e,e2⟩;have hg:=nV hC;have hl:=j6 hC;have Ni:=Int.emod_nonneg (dX w h c) (b:=aD w h sc) (by omega);have KZ:=Int.emod_lt_of_pos (dX w h c) (b:=aD w h sc) (by omega);have hd:=Int.mul_ediv_add_emod (dX w h c) (aD w h sc);obtain⟨x,hx⟩:∃x:Nat,dX w h c%aD w h sc=x:=⟨(dX w h c%aD w h sc).toNat,by omega⟩;rw[hx]at hd Ni KZ;have:=HT hs (y:=y) KZ;grind
 ·rintro ⟨h1,h2⟩;have hx:((c-p:Nat):Int)<aD w h sc:=by omega
  have:=HT hs (y:=y) hx;have ec:bX w h sc (y*aD w h sc+(c-p:Nat))=c:=by omega
  have hl:0<=(y:Int)*aD w h sc+(c-p:Nat)/\(y:Int)*aD w h sc+(c-p:Nat)<aD w h sc*bz w h sc:=by have a:0<=(y:Int)*aD w h sc:=Int.mul_nonneg (by omega) (by omega);have b:((y:Int)+1)*aD w h sc<=bz w h sc*aD w h sc:=Int.mul_le_mul_of_nonneg_right (by omega) (by omega);grind
  have e1:=iU hs hl;have e2:=FY hs hl;rw[ec]at e1 e2;refine⟨e1,?_⟩;rw[e2];exact(rK ⟨by omega,hx⟩).1
def ark (hs:dW w h sc)(hM:(M.length:Int)=w*h)(hts:(ts.length:Int)=aD w h sc*bz w h sc)(QO:(tw:Int)=aD w h sc)(hy:(y:Int)<bz w h sc)(hp:(p:Int)=bX w h sc (y*aD w h sc))(hpn:p+tw<=M.length):
  (EZ w h sc M ts y).take p++(ts.drop (y*tw)).take tw++(EZ w h sc M ts y).drop (p+tw)=EZ w h sc M ts ((y+1:Nat):Int):=by
 have hyt:y*tw+tw<=ts.length:=by have b:((y:Int)+1)*aD w h sc<=bz w h sc*aD w h sc:=Int.mul_le_mul_of_nonneg_right (by omega) (by omega);grind
 have hl:((EZ w h sc M ts y).take p++(ts.drop (y*tw)).take tw++(EZ w h sc M ts y).drop (p+tw)).length=M.length:=by simp[List.length_append,List.length_take,List.length_drop,LQ];omega
 refine U5 (by rw[hl,LQ]) λc hc=>?_;rw[hl]at hc;have hC:=ajj hs hM hc;have ayI:=ajk hs QO hy hp hC;rw[Xg hc];by_cases hin:p<=c/\c<p+tw
 ·obtain⟨e1,e2⟩:=ayI.2 hin;have hlr:=j6 hC;have hd:=Int.mul_ediv_add_emod (dX w h c) (aD w h sc);rw[e2]at hd;have hg:=nV hC;rw[e1]at hg;have Ni:=Int.emod_nonneg (dX w h c) (b:=aD w h sc) (by omega);have KZ:=Int.emod_lt_of_pos (dX w h c) (b:=aD w h sc) (by omega);obtain⟨x,hx⟩:∃x:Nat,dX w h c%aD w h sc=x:=⟨(dX w h c%aD w h sc).toNat,by omega⟩;rw[hx]at hd KZ;have hgr:=HT hs (y:=y) KZ;rw[Int.mul_comm,hd,hg,Int.mul_comm (aD w h sc)]at hgr;unfold gi;grind
 ·have e:(aC w h c=sc/\dX w h c/aD w h sc<((y+1:Nat):Int))↔(aC w h c=sc/\dX w h c/aD w h sc<(y:Int)):=by omega
  simp only[e];rw[<-Xg hc];unfold gi;grind
end
section
variable {F:Nat->Prop}{W w w0:World}{L:List As}{mw mh sc:Int}{M ts:List Int}{ta:Option Addr}{tn tc g o mn mc:Nat}
def apw {Q:World->Prop}(hs:dW mw mh sc)(hM:(M.length:Int)=mw*mh)(hts:(ts.length:Int)=aD mw mh sc*bz mw mh sc)(hT:∀w',Sep F W w' L->Sl w' ta tn tc 1 bp ts)(s:Sep F W w (ak (some ⟨g,o,none⟩) mn mc 5 1 (flat bp M)::L))
  (h:∀w',Sep F W w' (ak (some ⟨g,o,none⟩) mn mc 5 1 (flat bp (ain mw mh sc M ts))::L)->Q w'):F9 mw mh (some ⟨g,o,none⟩) mn mc sc (aD mw mh sc) (bz mw mh sc) ta tn tc w Q:=by
 apply abf;have hz:=zA hs;have hmn:=(aN s (i:=0) rfl cV (by decide)).len;refine aO s λmb w s=>?_;refine aO s λtb w s=>?_;refine lI s 1 rfl (lI s 1 rfl ?_);refine xw s λw s _=>?_;apply lI s 0 rfl;have hz1:0<aD mw mh sc*bz mw mh sc:=Int.mul_pos (by omega) (by omega);have eg:CH mw mh sc 0=bX mw mh sc 0:=if_pos ⟨hs,by omega,hz1⟩;rw[eg];obtain⟨tw,QO⟩:∃tw:Nat,(tw:Int)=aD mw mh sc:=⟨(aD mw mh sc).toNat,by omega⟩;obtain⟨th,hth⟩:∃th:Nat,(th:Int)=bz mw mh sc:=⟨(bz mw mh sc).toNat,by omega⟩;have loop:∀(j y:Nat) (w:World),y+j=th->Sep F W w (av tb 84 [ae (aD mw mh sc),ae (bz mw mh sc),.slice ta tn tc]::av mb 25 [ae mw,ae mh,.slice (some ⟨g,o,none⟩) mn mc]::ak (some ⟨g,o,none⟩) mn mc 5 1 (flat bp (EZ mw mh sc M ts y))::L)->
   Ep Q (j+1) (aZ mb) (aZ tb) (bX mw mh sc 0) (bz mw mh sc) y w:=by
  intro j;induction j with
  |zero=>
   intro y w hj s;show AO _ _ _ _ _ _ _ _;rw[AO,bq];have:(y:Int)=bz mw mh sc:=by omega
   rw[this]at s;exact h w (ai (ai s))
  |succ j ih=>
   intro y w hj s;show AO _ _ _ _ _ _ _ _;rw[AO,bM];have s:=ay s;have b1:((y:Int)+1)*aD mw mh sc<=bz mw mh sc*aD mw mh sc:=Int.mul_le_mul_of_nonneg_right (by omega) (by omega);rw[Int.add_mul,Int.one_mul,Int.mul_comm (bz mw mh sc)]at b1;have b2:0<=(y:Int)*aD mw mh sc:=Int.mul_nonneg (by omega) (by omega);have b3:=Int.mul_le_mul hz.1.2 hz.2.1.2 (by omega) (by decide);have hC:=sQ hs ⟨b2,by omega⟩;have hC2:=sQ hs (l:=y*aD mw mh sc+((tw-1:Nat):Int)) ⟨by omega,by omega⟩;have hrow:=HT hs (y:=y) (x:=tw-1) (by omega);obtain⟨p,hp⟩:∃p:Nat,(p:Int)=bX mw mh sc (y*aD mw mh sc):=⟨(bX mw mh sc (y*aD mw mh sc)).toNat,by have:=hC.2;omega⟩;have hpn:p+tw<=M.length:=by have:=hC2.2;omega
   have e0:bX mw mh sc 0+(y:Int)*mw=p:=by rw[hp];unfold bX;obtain⟨e3,e4⟩:=rK (w:=aD mw mh sc) (x:=0) (by omega);rw[Int.add_zero]at e3 e4;rw[e3,e4];simp[Int.zero_ediv,Int.zero_emod,Int.add_zero,Int.add_mul];omega
   have hyw:0<=(y:Int)*mw/\(y:Int)*mw<=16*1024:=⟨Int.mul_nonneg (by omega) (by have:=hs.1.1;omega),Int.mul_le_mul (by omega) hs.1.1.2 (by have:=hs.1.1;omega) (by decide)⟩;have hg0:=IS (sQ hs ⟨by omega,hz1⟩);refine lS s 1 rfl (lI s 1 rfl ?_);rw[aG (n:=(y:Int)*mw),aG,e0];have hcap:=RA s (i:=2) rfl;apply Pd rfl (by omega);rw[fR];refine lS s 0 rfl (lI s 0 rfl (lI s 0 rfl ?_));rw[Mf (by omega),aG,wrap_i64 (by push_cast;rw[Int.add_mul];omega) (by push_cast;rw[Int.add_mul];omega)];have hTs:=hT _ (ai (ai (ai s)));have QN:=hTs.len;have ey:((y*tw:Nat):Int)=(y:Int)*aD mw mh sc:=by push_cast;rw[QO]
   refine hTs.mid (q:=y*tw+tw) ey.symm (by push_cast;rw[Int.add_mul,QO];omega) (by omega) (by omega) λa n' c' en hS=>?_;have en:n'=tw:=by omega
   subst en;rw[show y*n'+n'-y*n'=n' by omega]at hS;refine ED (p:=p) ee s rfl rfl rfl rfl (by decide) (i:=2) rfl (hS.src (e:=5) cV A0) (by omega) (by simp[Addr.add]<;>omega) λw s=>?_;rw[show min n' (mn-p)=n' by omega]at s;have est:(flat bp (EZ mw mh sc M ts y)).take (p*1)++(flat bp ((ts.drop (y*n')).take n')).take (n'*1)++(flat bp (EZ mw mh sc M ts y)).drop ((p+n')*1)=flat bp (EZ mw mh sc M ts ((y+1:Nat):Int)):=by rw[<-ark hs hM hts QO (by omega) hp hpn];simp[Y8,Nat.mul_one,List.map_append,List.map_take,List.map_drop];rw[List.take_take,Nat.min_self]
   rw[est]at s;exact ih (y+1) w (by omega) s
 have s:=s;rw[<-apv hs hM]at s;exact⟨th+1,loop th 0 _ (by omega) s⟩
end
structure Eg (bs:List Int):Prop where
 len:4<=bs.length
 wh:iO (Bu bs) (Bv bs)
 tail:∀bs' M,q8 (Bu bs) (Bv bs) (eI (Bu bs) (Bv bs)).toNat 0 (bs.drop 4) (List.replicate (Bu bs*Bv bs).toNat 0)=some (bs',M)->bs'=[]
def Eg.get {bs:List Int}(h:Eg bs):kW bs=(q8 (Bu bs) (Bv bs) (eI (Bu bs) (Bv bs)).toNat 0 (bs.drop 4) (List.replicate (Bu bs*Bv bs).toNat 0)).map λq=>⟨Bu bs,Bv bs,q.2⟩:=by
 rw[kW,if_neg (by have:=h.len;omega),if_pos h.wh];split
 ·rename_i bs' M hT;rw[hT,h.tail _ _ hT,if_pos rfl];rfl
 grind
def ayJ:zc T 25=[ae 0,ae 0,.slice none 0 0]:=rfl
def aaI {w:World}{mw mh:Int}{Q:Int->World->Prop}(hm:iO mw mh)(h:Q (eI mw mh) w):EJ mw mh w Q:=by apply Zn;apply qN;have:=gM hm.1 hm.2;unfold ZS adQ;rw[if_pos hm,if_pos hm];unfold eI at h this;rw[aG];exact h
def _root_.Go.Sx.Sl.Elf {α:Type}{w0:World}{a:Option Addr}{n c size k:Nat}{f:α->List Value}{xs:List α}{idx:Int}{K:Addr->Prop}(h:Sl w0 a n c size f xs)(hk:idx=k)(hn:k<n)
  (hK:∀p x,xs[k]? =some x->(∀w,Fr No w0 w->∀j v,(f x)[j]? =some v->w.cell? ((p.add (idx.toNat*size)).add j)=some v)->K p):aJ idx n (wA a K):=
 h.El hk hn λp x hx hc=>hK p x hx λw fr j v hv=>Fr.cell fr (hc j v hv) id
section
variable {W w w0:World}{L:List As}{lg:xH}{ba:Option Addr}{bn bc:Nat}{bs:List Int}
def apx {Q:Int->Int->Option Addr->Nat->Nat->Value->World->Prop}{mw mh:Int}{mb p2 g o mn mc N:Nat}(hL:iG w0 lg)(hm:iO mw mh)(hN:(N:Int)=eI mw mh){R:Option (List Int×List Int)}(awA:∀bs' M,R=some (bs',M)->bs'=[])
  (hno:R=none->∀tb i co w',Sep No w0 w' (av tb 242 [ae i,.iface 187 (ae co)]::[])->(co=2\/co=3)->Q 0 0 none 0 0 (.iface 240 (.pointer (sZ tb))) w')
  (hyes:∀M,R=some ([],M)->∀w',Sep No w0 w' (ak (some ⟨g,o,none⟩) mn mc 5 1 (flat bp M)::[])->Q mw mh (some ⟨g,o,none⟩) mn mc .nilIface w'):
  ∀(j i:Nat) (a:Option Addr) (n c:Nat) (bs M:List Int) (w:World),i+j=N->Sl w0 a n c 1 bp bs->n<=1000000000->dZ bs->(M.length:Int)=mw*mh->q8 mw mh j i bs M=R->Sep No w0 w (av mb 25 [ae mw,ae mh,.slice (some ⟨g,o,none⟩) mn mc]::av p2 25 [ae 0,ae 0,.slice none 0 0]::ak (some ⟨g,o,none⟩) mn mc 5 1 (flat bp M)::[])->
   CR Q (j+1) a n c (aZ p2) (aZ mb) (eI mw mh) i w:=by
 have vw:=gM hm.1 hm.2;intro j;induction j with
 |zero=>
  intro i a n c bs M w hj hB hn hr hM hR s;show zh _ _ _ _ _ _ _ _ _ _;rw[zh,bq];have hR:some (bs,M)=R:=hR;have hb:=awA bs M hR.symm;have hbl:=hB.len;rw[bq (by grind)];refine lI s 0 rfl (lI s 0 rfl (lS s 0 rfl ?_));refine aaH (cf (L':=[_,_]) [1,2] s rfl (by decide)) λw s=>?_;grind
 |succ j ih=>
  intro i a n c bs M w hj hB hn hr hM hR s;show zh _ _ _ _ _ _ _ _ _ _;rw[zh,bM];have hs:dW mw mh i:=⟨hm,by omega,by omega⟩;have hz:=zA hs;refine lI s 0 rfl (lI s 0 rfl ?_);refine vp s λw s _=>?_;have e1:Y9 mw mh i=aD mw mh i:=if_pos hs;have e2:ac8 mw mh i=bz mw mh i:=if_pos hs;rw[e1,e2];have q1:=Int.mul_le_mul hz.1.1 hz.2.1.1 (by decide) (by omega);rw[q8]at hR;have fr:=au s;refine aeD (n:=(aD mw mh i*bz mw mh i).toNat) (hL.fr fr) (hB.fr fr) hn hr hz.1 hz.2.1 (by omega) s (λhg co w KY s _=>?_) λts used hg ta tn tc w hu s _=>?_
  ·rw[hg]at hR;refine aS s λtb w s=>?_;refine sT s 0 rfl λw s=>?_;refine sT s 0 rfl λw s=>?_;refine sT s 0 rfl λw s=>?_;rw[Gk (by omega),cond_true];refine aO s λeb w s=>?_;refine aaH (cf (L':=[_,_]) [3,0] s rfl (by decide)) λw s=>?_;exact hno hR.symm eb i co w s KY
  ·rw[hg]at hR;obtain⟨t1,t2,t3⟩:=anZ (by omega) (λx hx=>hr x hx) hg;refine aS s λtb w s=>?_;refine sT s 0 rfl λw s=>?_;refine sT s 0 rfl λw s=>?_;refine ax s (i:=0) rfl rfl rfl λw s=>?_;refine lI s 2 rfl (lI s 2 rfl (lS s 2 rfl ?_));refine lI s 0 rfl (lI s 0 rfl (lS s 0 rfl ?_));refine apw hs hM (by omega) (λw' s'=>aN s' (i:=0) rfl cV (by decide)) (cf (L':=[ak (some ⟨g,o,none⟩) mn mc 5 1 (flat bp M),ak ta tn tc 5 1 (flat bp ts),_,_]) [4,1,2,3] s rfl (by decide)) λw s=>?_;refine hB.lo rfl hu λa' n' c' en hB'=>?_;rw[Mf (by omega)];refine ih (i+1) a' n' c' _ _ w (by omega) hB' (by omega) (hr.drop used) (by rw[SL];exact hM) ?_ (cf (L':=[_,_,_]) [2,3,0] s rfl (by decide));exact hR
def amD {Q:Int->Int->Option Addr->Nat->Nat->Value->World->Prop}(hL:iG w0 lg)(hB:Sl w0 ba bn bc 1 bp bs)(FG:bn<=1000000000)(hr:dZ bs)(hh:Eg bs)
  (hno:kW bs=none->∀tb i co w',Sep No w0 w' (av tb 242 [ae i,.iface 187 (ae co)]::[])->(co=2\/co=3)->Q 0 0 none 0 0 (.iface 240 (.pointer (sZ tb))) w')
  (hyes:∀m,kW bs=some m->∀ma mn mc w',Sep No w0 w' (ak ma mn mc 5 1 (flat bp m.cs)::[])->Q m.w m.h ma mn mc .nilIface w'):EH ba bn bc w0 Q:=by
 apply Zu;have hbl:=hB.len;have h4:=hh.len;refine aS (bh (F:=No)) λp2 w s=>?_;rw[bq];have s:=ay s;refine hB.Elf (k:=0) rfl (by omega) λd0 x0 hx0 c0=>aR (c0 _ (au s) 0 _ rfl) ?_;refine hB.Elf (k:=1) rfl (by omega) λd1 x1 Ni c1=>aR (c1 _ (au s) 0 _ rfl) ?_;refine⟨by decide,?_⟩;refine hB.Elf (k:=2) rfl (by omega) λd2 x2 KZ c2=>aR (c2 _ (au s) 0 _ rfl) ?_;refine hB.Elf (k:=3) rfl (by omega) λd3 x3 hx3 c3=>aR (c3 _ (au s) 0 _ rfl) ?_;refine⟨by decide,?_⟩;have r0:=hr x0 (List.mem_of_getElem? hx0);have r1:=hr x1 (List.mem_of_getElem? Ni);have r2:=hr x2 (List.mem_of_getElem? KZ);have r3:=hr x3 (List.mem_of_getElem? hx3);have eW:Bu bs=x0+x1*256:=by rw[Bu,<-acw hx0,<-acw Ni];omega
 have eH:Bv bs=x2+x3*256:=by rw[Bv,<-acw KZ,<-acw hx3];omega
 have i1:ior .i64 (IntKind.wrap .i64 x0) (BL .i64 (IntKind.wrap .i64 x1) 8)=Bu bs:=by rw[aG,aG,eW];exact O.adR (k:=8) (by decide) (by omega) r1
 have i2:ior .i64 (IntKind.wrap .i64 x2) (BL .i64 (IntKind.wrap .i64 x3) 8)=Bv bs:=by rw[aG,aG,eH];exact O.adR (k:=8) (by decide) (by omega) r3
 rw[i1,i2];refine aS s λmb w s=>?_;have fr:=au s;refine⟨c3 _ fr 0 _ rfl,c2 _ fr 0 _ rfl,c1 _ fr 0 _ rfl,c0 _ fr 0 _ rfl,?_⟩;have hwh:=mY hh.wh;have vw:=gM hh.wh.1 hh.wh.2;refine sT s 0 rfl λw s=>?_;refine sT s 0 rfl λw s=>?_;refine ax s (i:=0) rfl rfl rfl λw s=>?_;refine lI s 0 rfl (lI s 0 rfl ?_);apply pQ;rw[decide_eq_true hh.wh,Bool.not_true,cond_false];refine hB.lo (m:=4) rfl (by omega) λa4 n4 c4 e4 hB4=>?_;refine lI s 0 rfl (lI s 0 rfl ?_);rw[aG];obtain⟨N,hN⟩:∃N:Nat,Bu bs*Bv bs=N:=⟨(Bu bs*Bv bs).toNat,by omega⟩;rw[hN];refine xL (bytes:=1) ee s rfl rfl rfl rfl rfl rfl (by decide) cV rfl (λu hu=>A0 0 u hu) rfl rfl (Nat.le_refl _) (by omega) (by simp[maxLen];omega) λg w s=>?_;refine ax s (i:=1) rfl rfl rfl λw s=>?_;refine lI s 1 rfl (lI s 1 rfl ?_);apply aaI hh.wh;have hg:=hh.get;have e0:(Bu bs*Bv bs).toNat=N:=by omega
 rw[e0]at hg;have ht:=hh.tail;rw[e0]at ht;refine⟨(eI (Bu bs) (Bv bs)).toNat+1,apx (N:=(eI (Bu bs) (Bv bs)).toNat) hL hh.wh (by omega) ht (λhR=>hno (by rw[hg,hR];rfl)) (λM hR w' s'=>hyes ⟨Bu bs,Bv bs,M⟩ (by rw[hg,hR];rfl) _ _ _ w' s') _ 0 a4 n4 c4 (bs.drop 4) (List.replicate N 0) w (by omega) hB4 (by omega) (hr.drop 4) (by rw[List.length_replicate,hN]) rfl (cf (L':=[_,_,_]) [1,2,0] s rfl (by decide))⟩
def acM {F:Nat->Prop}{Q:Int->Int->Option Addr->Nat->Nat->Int->World->Prop}(hL:iG w lg)(hB:Sl w ba bn bc 1 bp bs)(FG:bn<=1000000000)(hr:dZ bs)(hh:Eg bs)(s0:Sep F W w L)
  (hno:kW bs=none->∀co w',(co=2\/co=3)->Sep F W w' L->Fr No w w'->Q 0 0 none 0 0 co w')
  (hyes:∀m,kW bs=some m->∀ma mn mc w',Sep F W w' (ak ma mn mc 5 1 (flat bp m.cs)::L)->Fr No w w'->Q m.w m.h ma mn mc 0 w'):F3 ba bn bc w Q:=by
 apply abg;refine aS (bh (F:=No)) λp2 w1 s=>?_;have fr0:=au s;refine amD (hL.fr fr0) (hB.fr fr0) FG hr hh (λhg tb i co w1 s' KY=>?_) λm hg ma mn mc w1 s'=>?_
 ·have s:=fu s s';refine aS s λmb w1 s=>?_;refine sT s 0 rfl λw1 s=>?_;refine sT s 0 rfl λw1 s=>?_;refine sT s 0 rfl λw1 s=>?_;refine aS s λr w1 s=>?_;have s:=s;refine ax s (i:=0) rfl rfl rfl λw1 s=>?_;have s:=cf (L':=[av r 187 [ae 0],av tb 242 [ae i,.iface 187 (ae co)],av p2 25 [ae 0,ae 0,.slice none 0 0]]) [0,2,3] s rfl (by decide);refine At.Md s (λw' s'=>kZ s' (i:=0) rfl 1 _ rfl) (λw' s'=>(hL.fr (au s')).v1) λw1 s=>?_;have s:=ay s;apply lI s 0 rfl;refine sT s 2 rfl λw1 s=>?_;refine sT s 2 rfl λw1 s=>?_;refine ax s (i:=2) rfl rfl rfl λw1 s=>?_;refine⟨cg s 0 rfl,?_⟩;refine lI s 2 rfl (lI s 2 rfl (lS s 2 rfl ?_));have s':=cf (L':=[]) [] s rfl (by decide);exact hno hg co w1 KY (fu s0 s') (au s')
 ·have s:=fu s s';refine aS s λmb w1 s=>?_;refine sT s 0 rfl λw1 s=>?_;refine sT s 0 rfl λw1 s=>?_;refine ax s (i:=0) rfl rfl rfl λw1 s=>?_;refine aS s λr w1 s=>?_;have s:=s;refine ax s (i:=0) rfl rfl rfl λw1 s=>?_;apply As.nil;refine lI s 1 rfl (lI s 1 rfl (lS s 1 rfl ?_));refine aaH (cf (L':=[av p2 25 [ae 0,ae 0,.slice none 0 0],ak ma mn mc 5 1 (flat bp m.cs)]) [3,2] s rfl (by decide)) λw1 s=>?_;exact hyes m hg ma mn mc w1 (fu s0 s) (au s)
end
end Go.Proofs.YtmegplnmiepfbaaGreatDoor.S
namespace Go.Proofs.YtmegplnmiepfbaaGreatDoor.S
open Go.Sx
def WY (q:pS):FE:=match q.o with
 |some m=>⟨m.fS,m.fc,0,0,0,0⟩
 |none=>⟨0,0,0,0,0,0⟩
def qA (q:pS):FE:=(q.past.add (WY q)).add ⟨0,0,q.sh.b,q.sh.h,q.sh.st,q.sh.ev⟩
def zW (q:pS):Int:=match q.o with
 |some m=>m.g.ep
 |none=>0
def avF (q:pS):TK:=⟨[],[],q.sh.b,q.sh.h,q.sh.st,q.sh.ev⟩
def ldP (q:pS)(mp:bJ):pS:=⟨q.k,avF q,some ⟨OT mp (zW q),List.replicate (eI mp.w mp.h).toNat 0,0,0,none,0⟩,q.past.add (WY q)⟩
def Oa (q:pS):pS:=⟨q.k,avF q,q.o.map λm=>⟨m.g,m.S8,m.clean,m.fS,none,m.fc⟩,q.past⟩
def edP (q:pS)(c x:Int):pS:=⟨q.k,q.sh,q.o.map λm=>⟨xz m.g c x,m.S8,m.clean,m.fS,m.kept,m.fc⟩,q.past⟩
noncomputable def zI (q:pS)(t sc:Int):pS:=match q.o with
 |some m=>GO q m t sc
 |none=>q
noncomputable def GV (q:pS)(ps:List GS):pS:=ps.foldl (λq p=>zI q p.g p.s) q
def gu.apy (y:gu):uH y=WY y.p:=by unfold uH WY gu.p;cases y.o<;>rfl
def gu.all_eq (y:gu):WN y=qA y.p:=by unfold WN qA;rw[y.apy];rfl
def gu.amE (y:gu):epO y.o=zW y.p:=by unfold epO zW gu.p;cases y.o<;>rfl
def gu.awB (y:gu){x':AW}{mp:bJ}(h:x'.p=⟨[],[],y.x.b,y.x.h,y.x.st,y.x.ev⟩):(gu.mk y.k x' (some (ami y.o mp)) (y.past.add (uH y))).p=ldP y.p mp:=by
 unfold ldP gu.p;simp only[Option.map_some];congr 1
 ·congr 1;unfold j_.p ami agZ NU;rw[y.amE];simp only[List.map_replicate];rfl
 ·rw[y.apy];rfl
def gu.awC (y:gu){x':AW}{m:j_}(ho:y.o=some m)(h:x'.p=⟨[],[],y.x.b,y.x.h,y.x.st,y.x.ev⟩):(gu.mk y.k x' (some ⟨m.g,m.ms,⟨none,m.f.fS⟩⟩) y.past).p=Oa y.p:=by unfold Oa gu.p;rw[ho,h];rfl
def gu.atJ (y:gu){x':AW}(ho:y.o=none)(h:x'.p=⟨[],[],y.x.b,y.x.h,y.x.st,y.x.ev⟩):(gu.mk y.k x' none y.past).p=Oa y.p:=by unfold Oa gu.p;rw[ho,h];rfl
def gu.awD (y:gu){m:j_}(ho:y.o=some m){c x:Int}:(gu.mk y.k y.x (some ⟨xz m.g c x,m.ms,m.f⟩) y.past).p=edP y.p c x:=by unfold edP gu.p;rw[ho];rfl
def Mk {y:gu}{m:j_}(ho:y.o=some m):y.p.o=some m.p:=by rw[gu.p,ho];rfl
def GW {y:gu}{mp:vU}(h:y.p.o=some mp):∃m,y.o=some m/\m.p=mp:=by unfold gu.p at h;simp_all
def field_eq {y:gu}{m:j_}(ho:y.o=some m){t sc:Int}:GO y.p m.p t sc=zI y.p t sc:=by rw[zI,Mk ho]
def A4 {q:pS}{mp:vU}(h:q.o=some mp)(t sc:Int):∃TO,(zI q t sc).o=some TO/\TO.g=mp.g:=by rw[zI,h];exact⟨_,rfl,rfl⟩
def GX:∀(ps:List GS) {q:pS} {mp:vU},q.o=some mp->∃TO,(GV q ps).o=some TO/\TO.g=mp.g
 |[],q,mp,h=>⟨mp,h,rfl⟩
 |p::ps,q,mp,h=>by obtain⟨m1,h1,e1⟩:=A4 h p.g p.s;obtain⟨m2,h2,e2⟩:=GX ps h1;exact⟨m2,h2,e2.trans e1⟩
structure gI where
 most:Int
 bQ:pS
 us:Option tF
structure aaJ where
 code:Int
 d:Int
 dir:Int
 id:Int
 GY:List (Int×Int)
 gone:List Int
def pT (c:Int):aaJ:=⟨c,0,5,-1,[],[]⟩
noncomputable def sI (m:bJ)(us:List aU):List Int:=us.map λu=>jW m u.goal u.cell
noncomputable def Ml (q:gI)(m:bJ)(y:tF)(o:kX):gI×aaJ:=
 if o.k=2 then
  if¬bF m.w m.h o.A then(q,pT 7)
  else if o.B<1\/255<o.B then(q,pT 8)
  else if o.B=255/\vz y.us o.A≠-1 then(q,pT 10)
  else(⟨q.most,edP q.bQ o.A o.B,some y⟩,pT 0)
 else if o.k=3 then
  if¬(bF m.w m.h o.A/\bF m.w m.h o.B)then(q,pT 7)
  else if cA m o.A=255 then(q,pT 9)
  else if vA m.w m.h y o.A o.B≠0 then(q,pT (vA m.w m.h y o.A o.B))
  else(⟨q.most,q.bQ,some (O0 y o.A o.B)⟩,⟨0,0,5,y.next,[],[]⟩)
 else if o.k=4 then
  match gK y.us o.A with
  |none=>(q,pT 12)
  |some u=>if¬bF m.w m.h o.B then(q,pT 7)else if u.cell=o.B then(⟨q.most,q.bQ,some (kV y o.A)⟩,pT 13)else(⟨q.most,q.bQ,some (vV y o.A λu=>⟨u.id,u.cell,o.B⟩)⟩,pT 0)
 else if o.k=5 then
  match gK y.us o.A with
  |none=>(q,pT 12)
  |some _=>(⟨q.most,q.bQ,some (kV y o.A)⟩,pT 0)
 else if o.k=6 then
  if bF m.w m.h o.A/\bF m.w m.h o.B then(⟨q.most,zI q.bQ o.A (cT m o.B),some y⟩,⟨0,D m o.A o.B,jW m o.A o.B,-1,[],[]⟩)else(q,pT 7)
 else
  (⟨q.most,GV q.bQ (mK m.w m.h y.us),some (N8 m.w m.h y (sI m y.us))⟩,⟨0,0,5,-1,(dg m.w m.h [] (y.us.zip (sI m y.us))).2.1,(dg m.w m.h [] (y.us.zip (sI m y.us))).2.2⟩)
noncomputable def iH (q:gI)(o:kX):gI×aaJ:=
 if o.k=0\/Dv o=false then(q,pT 5)
 else if o.k=1 then
  match kW o.m with
  |none=>(q,pT 6)
  |some mp=>(⟨q.most,ldP q.bQ mp,some ⟨q.most,0,[]⟩⟩,pT 0)
 else if o.k=8 then(⟨q.most,Oa q.bQ,q.us⟩,pT 0)
 else match q.bQ.o,q.us with
  |some m,some y=>Ml q m.g.m y o
  |_,_=>(q,pT 4)
end Go.Proofs.YtmegplnmiepfbaaGreatDoor.S
set_option maxRecDepth 20000
namespace Go.Proofs.YtmegplnmiepfbaaGreatDoor.S
open Go.Sx
attribute [local irreducible] af cE bw bg aA cu bY St Bx Al App cJ cB cz bW aL bD aq bT av ak aW mapA
def iiT:P.underlying 207=some (.map 3 3):=by kernel_rfl
def aBZ:zc T 211=[ae 0,ae 0,.slice none 0 0]:=rfl
def arl (w h:Int)(ms:List (Int×Int))(us:List aU):Prop:=oS ms/\∀u∈us,fy ms u.id=some (dX w h u.cell)
structure ajm (m:bJ) (us:List aU) (ms:List (Int×Int)):Prop where
 k:oS ms
 v:∀u∈us,∀d,fy ms u.id=some d->d=jW m u.goal u.cell
section
variable {W w w0:World}{L:List As}{r:Az}{y:gu}{lg:xH}{la:Option Addr}{ln lc sp lb db:Nat}{us:List aU}{v0 v2:Value}{g:iw}{loc:List (Int×Int)}
def ids_eq {us:List aU}(h:(us.map (·.id)).Pairwise (·<·)){u v:aU}(hu:u∈us)(hv:v∈us)(e:u.id=v.id):u=v:=by obtain⟨i,hi⟩:=List.mem_iff_getElem?.1 hu;obtain⟨j,hj⟩:=List.mem_iff_getElem?.1 hv;have h1:=Xv h hi;have h2:=Xv h hj;grind
noncomputable abbrev FH (sp:Nat)(v0:Value)(np:Nat)(v2:Value):As:=av sp 72 [v0,.pointer (sZ np),v2]
def arn {u7:Option Addr->Option Addr->Nat->Nat->Option Nat->Option Nat->Option Addr->Nat->Nat->Int->Int->World->Prop}{Q:Option Addr->Nat->Nat->Value->World->Prop}{s0:Option Addr}{fb:Nat}{ia pa ra:Option Addr}{iN ic pn pc rn rc i:Nat}{ids:List Int}{d0:Value}{t sc:Int}
  (hmay:cI g.m)(hm:nU g.m.w g.m.h us)(hL:arl g.m.w g.m.h loc us)(hs:dW g.m.w g.m.h sc)(ht:bF g.m.w g.m.h t)(JQ:∀x∈ids,∃u∈us,u.id=x/\u.goal=t/\aC g.m.w g.m.h u.cell=sc)(GZ:∀u∈us,iF u.id)(hi:i<=1000000)(hiN:iN<=1000000)
  (hI:∀w',Sep No W w' L->Sl w' ia iN ic 1 one ids)(hR:∀w',Sep No W w' L->Sl w' ra rn rc 1 one (Cy g.m t sc))(hF:∀w',Sep No W w' L->rV w' fb [d0,.slice ra rn rc])
  {dm0:List (Int×Int)}(next:∀J0 w',ajm g.m us J0->(∀x,(fy dm0 x).isSome=true->(fy J0 x).isSome=true)->(∀x∈ids,(fy J0 x).isSome=true)->Sep No W w' (fO fq vI lb loc::fO fq vI db J0::L)->u7 s0 la ln lc (some lb) (some db) pa pn pc (pn:Int) ((i+1:Nat):Int) w')
  :∀(j k:Nat) (dm:List (Int×Int)) (w:World),k+j=iN->ajm g.m us dm->(∀x,(fy dm0 x).isSome=true->(fy dm x).isSome=true)->(∀x∈ids.take k,(fy dm x).isSome=true)->Sep No W w (fO fq vI lb loc::fO fq vI db dm::L)->
   sC u7 Q (j+1) s0 la ln lc (some lb) (some db) (aZ fb) pa pn pc (pn:Int) i ia iN ic (iN:Int) k w:=by
 intro j;induction j with
 |zero=>
  intro k dm w hj hD F0 hk s;show oF u7 Q _ _ _ _ _ _ _ _ _ _ _ _ _ _ _ _ _ _ _;rw[oF,bq,Mf (by omega)];have hl:=(hI w (ai (ai s))).len;grind
 |succ j ih=>
  intro k dm w hj hD F0 hk s;show oF u7 Q _ _ _ _ _ _ _ _ _ _ _ _ _ _ _ _ _ _ _;rw[oF,bM];have sL:=ai (ai s);have hIw:=hI w sL;have hl:=hIw.len;apply hIw.rJ rfl (by omega);have hx:=iz (l:=ids) (i:=k) (by omega);obtain⟨u,hu,e1,e2,e3⟩:=JQ _ (List.mem_of_getElem? hx);have yj:ids.take (k+1)=ids.take k++[gi ids k]:=by rw[List.take_add_one,hx];rfl
  generalize gi ids k=x at*;subst e1;have IJ:=hm.at_ u hu;have h64:=GZ u hu;have hlr:=j6 IJ.1;have hgl:=nV IJ.1;rw[e3]at hlr hgl;apply dx (hF w sL 1 _ rfl);refine Ew (K:=fq) iiT (acf w) s (i:=0) rfl hL.1 h64 (λhn=>by rw[hL.2 u hu]at hn;cases hn) λz hz=>?_;rw[hL.2 u hu]at hz;cases hz;apply abC;have hRw:=hR w sL;have hrl:=hRw.len;have hfl:(Cy g.m t sc).length=(aD g.m.w g.m.h sc*bz g.m.w g.m.h sc).toNat:=by unfold Cy nT;have:=Co (m:=g.m) (sc:=sc);rw[List.length_map,List.length_range];omega
  apply hRw.rJ (k:=(dX g.m.w g.m.h u.cell).toNat) (by omega) (by omega);rw[asg hmay hs ht hlr,hgl,Mf (by omega)];refine L5 (x:=u.id) iiT s (i:=1) rfl hD.k h64 λJ0 w hk' Ed _ s=>?_;refine ih (k+1) J0 w (by omega) ⟨hk',λv hv d hd=>?_⟩ (λx hx=>?_) (λx hx=>?_) s
  ·rw[Ed]at hd;split at hd
   ·rename_i e;have:=ids_eq hm.ids hv hu e;subst this;cases hd;rw[<-e2]
   ·exact hD.v v hv d hd
  ·rw[Ed];split
   ·rfl
   ·exact F0 x hx
  ·rw[yj]at hx;rw[Ed];split
   ·rfl
   ·rename_i hne;rcases List.mem_append.1 hx with hx|hx
    ·exact hk x hx
    ·exact(hne (List.mem_singleton.1 hx)).elim
end
def ajn {s d:Int}{N:Nat}:∀{l:List (Int×List Int)},(∀p∈l,p.2.length<=N)->∀p∈zH s d l,p.2.length<=N+1
 |[],_,p,hp=>by simp[zH,List.mem_singleton]at hp;grind
 |q::l,h,p,hp=>by
  have h0:=h q (List.mem_cons_self ..);rw[zH]at hp;split at hp
  ·grind
  ·rcases List.mem_cons.1 hp with rfl|hp
   ·omega
   ·exact ajn (λp hp=>h p (List.mem_cons_of_mem _ hp)) p hp
def ajo {g s d:Int}{N:Nat}:∀{st:AD},(∀q∈st,∀p∈q.2,p.2.length<=N)->∀q∈qj g s d st,∀p∈q.2,p.2.length<=N+1
 |[],_,q,hq,p,hp=>by simp[qj,List.mem_singleton]at hq;grind
 |z::st,h,q,hq,p,hp=>by
  rw[qj]at hq;split at hq
  ·rcases List.mem_cons.1 hq with rfl|hq
   ·exact ajn (h z (List.mem_cons_self ..)) p hp
   grind
  ·rcases List.mem_cons.1 hq with rfl|hq
   ·grind
   ·exact ajo (λq hq=>h q (List.mem_cons_of_mem _ hq)) q hq p hp
def atK {w h:Int}{us:List aU}{ps:List AX}{p:AX}(hps:ps.map Mi=mK w h us)(hp:p∈ps):p.ids.length<=us.length:=by
 have key:∀(us:List aU) (st:AD) (N:Nat),(∀q∈st,∀p∈q.2,p.2.length<=N)->∀q∈us.foldl (S_ w h) st,∀p∈q.2,p.2.length<=N+us.length:=by
  intro us;induction us with
  |nil=>simp_all
  |cons u us ih=>
   intro st N h;have:=ih _ _ (ajo (g:=u.goal) (s:=aC w ‹Int› u.cell) (d:=u.id) h);rw[List.length_cons];intro q hq p hp;have:=this q hq p hp;omega
 have h1:Mi p∈mK w h us:=by grind
 obtain⟨q,hq,h2⟩:=List.mem_flatMap.1 h1;obtain⟨z,hz,e⟩:=List.mem_map.1 h2;have h3:=key us [] 0 (λq hq=>by cases hq) q hq z hz;have e2:z.2=p.ids:=congrArg GS.ids e;grind
section
variable {W w w0:World}{L:List As}{r:Az}{y:gu}{lg:xH}{la:Option Addr}{ln lc sp lb db:Nat}{us:List aU}{v0 v2:Value}{g:iw}{loc:List (Int×Int)}
def ajp {F:Nat->Prop}{ps:List AX}{p:AX}{i:Nat}(s:Sep F W w (AE ps::L))(hp:ps[i]? =some p):Sl w p.q.a p.q.n p.q.c 1 one p.ids:=by have s:=(gL s).2;exact aN s (i:=i) (by rw[List.getElem?_append_left (by grind),List.getElem?_map,hp];rfl) cF (by decide)
def aro {Q:Option Addr->Nat->Nat->Value->World->Prop}{dm:List (Int×Int)}{L':List As}(hm:nU g.m.w g.m.h us)(GZ:∀u∈us,iF u.id)(qe:ln<=1000000)(hD:ajm g.m us dm)(hall:∀u∈us,(fy dm u.id).isSome=true)(hU:∀w',Sep No W w' L'->Sl w' la ln lc 3 iy us)
  (h:∀da dn dc w',Sep No W w' (ak da dn dc 3 1 (flat one (sI g.m us))::L')->Q da dn dc .nilIface w'):
  ∀(j i:Nat) (oa:Option Addr) (on oc:Nat) (w:World),i+j=ln->on<=i->Sep No W w (ak oa on oc 3 1 (flat one (sI g.m (us.take i)))::fO fq vI db dm::L')->
   sD Q (j+1) (some db) oa on oc la ln lc (ln:Int) i w:=by
 intro j;induction j with
 |zero=>
  intro i oa on oc w hj Cm s;show oH _ _ _ _ _ _ _ _ _ _ _ _;rw[oH,bq];have hl:=(hU w (ai (ai s))).len;rw[List.take_of_length_le (by omega)]at s;exact h oa on oc w (gC s (.cons_cons _ (List.sublist_cons_self _ _)))
 |succ j ih=>
  intro i oa on oc w hj Cm s;show oH _ _ _ _ _ _ _ _ _ _ _ _;rw[oH,bM];refine(hU w (ai (ai s))).El rfl (by omega) λp u hu hc=>?_;have hmem:=List.mem_of_getElem? hu;refine WT hc s λub w s=>?_;apply lI s 0 rfl;refine Ew (K:=fq) iiT (acf w) s (i:=2) rfl hD.k (GZ u hmem) (λhn=>by grind) λd hd=>?_;apply abC;rw[hD.v u hmem d hd,Mf (by omega)];have s:=ai s;refine LD s (by omega) λa' c' w s=>?_;apply ih (i+1) a' (on+1) c' w (by omega) (by omega);have yj:us.take (i+1)=us.take i++[u]:=by rw[List.take_add_one,hu];rfl
  unfold sI at s⊢;grind
def arp {Q:Option Addr->Nat->Nat->Value->World->Prop}{ps:List AX}{pa:Option Addr}{pn pc:Nat}(hLd:iG W lg)(hmay:cI g.m)(hm:nU g.m.w g.m.h us)(GZ:∀u∈us,iF u.id)(qe:ln<=100000)(ayL:arl g.m.w g.m.h loc us)(hps:ps.map Mi=mK g.m.w g.m.h us)(hU:∀w',Sep No W w' L->Sl w' la ln lc 3 iy us)
  (h:∀r' y' da dn dc w',r'.p=r.p->y'.p=GV y.p (mK g.m.w g.m.h us)->Sep No W w' (ak da dn dc 3 1 (flat one (sI g.m us))::g8 r' y'::FH sp v0 r.p v2::L)->Q da dn dc .nilIface w'):
  ∀(j i:Nat) (r':Az) (y':gu) (m':j_) (dm:List (Int×Int)) (w:World),i+j=pn->r'.p=r.p->y'.p=GV y.p ((mK g.m.w g.m.h us).take i)->y'.o=some m'->m'.g=g->ajm g.m us dm->(∀p∈ps.take i,∀x∈p.ids,(fy dm x).isSome=true)->
   Sep No W w (g8 r' y'::FH sp v0 r.p v2::fO fq vI lb loc::fO fq vI db dm::ak pa pn pc 211 3 (flat yF ps)::AE ps::L)->
   oJ Q (j+1) (sZ sp) la ln lc (some lb) (some db) pa pn pc (pn:Int) i w:=by
 have IG:=afJ g.m.w g.m.h us;have aB0:ps.length=(mK g.m.w g.m.h us).length:=by grind
 intro j;induction j with
 |zero=>
  intro i r' y' m' dm w hj er ey ho eg hD hd s;show oI _ _ _ _ _ _ _ _ _ _ _ _ _ _;rw[oI,bq];have hpn:=(aN s (i:=4) rfl uL (by decide)).len;rw[List.take_of_length_le (by omega)]at ey hd;have hUw:=hU w (ai (ai (ai (ai (ai (ai s))))));have s:=pk 6 [3,0,1] s;have s:=bE s 3 1;refine⟨ln+1,aro (L':=g8 r' y'::FH sp v0 r.p v2::L) hm GZ (by omega) hD (λu hu=>?_) (λw' s'=>hU w' (ai (ai s'))) (λda dn dc w' s'=>h r' y' da dn dc w' er ey s') ln 0 none 0 0 w (by omega) (Nat.zero_le _) s⟩;obtain⟨p,hp,_,_,hx⟩:=WW.2 ⟨u,hu,rfl,rfl,rfl⟩;rw[<-hps]at hp;obtain⟨q,hq,rfl⟩:=List.mem_map.1 hp;exact hd q hq u.id hx
 |succ j ih=>
  intro i r' y' m' dm w hj er ey ho eg hD hd s;show oI _ _ _ _ _ _ _ _ _ _ _ _ _ _;rw[oI,bM];have hP:=aN s (i:=4) rfl uL (by decide);have hpn:=hP.len;have hul:=(hU w (ai (ai (ai (ai (ai (ai s))))))).len;refine hP.El rfl (by omega) λad p hp hc=>?_;have hmem:=List.mem_of_getElem? hp;have htr:(mK g.m.w g.m.h us)[i]? =some (Mi p):=by rw[<-hps,List.getElem?_map,hp];rfl
  have yj:(mK g.m.w g.m.h us).take (i+1)=(mK g.m.w g.m.h us).take i++[Mi p]:=by rw[List.take_add_one,htr];rfl
  have ayM:ps.take (i+1)=ps.take i++[p]:=by rw[List.take_add_one,hp];rfl
  obtain⟨u0,hu0,e1,e2⟩:=amt (List.mem_of_getElem? htr);have IJ:=hm.at_ u0 hu0;have ht:bF g.m.w g.m.h p.g:=by rw[<-show u0.goal=p.g from e1];exact IJ.2
  have hs:dW g.m.w g.m.h p.s:=by rw[<-show aC g.m.w g.m.h u0.cell=p.s from e2];exact bV IJ.1
  have vw:=gM hm.wh.1 hm.wh.2;have N2:Lr.YI (p.g,p.s):=⟨iF.wf (AA ht),iF.wf (by have:=hs.2;unfold iF;omega)⟩;have JQ:∀x∈p.ids,∃u∈us,u.id=x/\u.goal=p.g/\aC g.m.w g.m.h u.cell=p.s:=λx hx=>by obtain⟨u,hu,k1,k2,k3⟩:=WW.1 ⟨Mi p,List.mem_of_getElem? htr,rfl,rfl,hx⟩;exact⟨u,hu,k3,k1,k2⟩
  refine aR (hc 0 _ rfl) (aR (hc 1 _ rfl) (dx (hc 2 _ rfl) ?_));refine aS s λpb w s=>?_;refine sT s 0 rfl λw s=>?_;refine sT s 0 rfl λw s=>?_;refine ax s (i:=0) rfl rfl rfl λw s=>?_;have s:=ay s;subst eg;refine ah (lP s 2 rfl (lI s 0 rfl (lI s 0 rfl ?_)));rw[<-er]at s⊢;have fin:∀{r2:Az} {y2:gu} {da ra:Option Addr} {dc rc fb:Nat} {w:World},r2.p=r'.p->y2.p=GO y'.p m'.p p.g p.s->
    Sep No W w (av fb 213 [.slice da (dO m'.g.m p.s).length dc,.slice ra (dO m'.g.m p.s).length rc]::ak ra (dO m'.g.m p.s).length rc 3 1 (flat one (Cy m'.g.m p.g p.s))::ak da (dO m'.g.m p.s).length dc 3 1 (flat one (GN m'.g.m p.g p.s))::g8 r2 y2::av pb 211 [ae p.g,ae p.s,.slice p.q.a p.q.n p.q.c]::FH sp v0 r'.p v2::fO fq vI lb loc::fO fq vI db dm::ak pa pn pc 211 3 (flat yF ps)::AE ps::L)->
    oG (oJ Q (j+1)) Q (sZ sp) la ln lc (some lb) (some db) (aZ pb) (aZ fb) 0 pa pn pc (pn:Int) i w:=λ{r2 y2 da ra dc rc fb w} er2 WZ s=>by
   unfold oG;apply lS s 4 rfl;have hI0:=ajp (pk 10 [9] s) hp;have IL:=hI0.len;have v9:p.q.n<=1000000:=by rw[<-IL];exact Nat.le_trans (atK hps hmem) (by omega)
   have s:=pk 10 [6,7,0,1,9,8,3,5] s;obtain⟨m2,ho2,em2⟩:=GW (by rw[WZ];rfl);have eg2:m2.g=m'.g:=by have:=congrArg vU.g em2;exact this
   refine⟨p.q.n+1,arn
    hmay hm ayL hs ht JQ GZ (by omega) v9 (λw' s'=>ajp (ai (ai s')) hp) (λw' s'=>aN s' (i:=1) rfl cF (by decide)) (λw' s'=>kZ s' (i:=0) rfl) (λJ0 w' hD' h0 h1 s'=>?_) p.q.n 0 dm w (by omega) hD (λx hx=>hx) (λx hx=>by cases hx) s⟩
   refine ih (i+1) r2 y2 m2 J0 w' (by omega) (er2.trans er) ?_ ho2 eg2 hD' (λq hq x hx=>?_) ?_
   ·rw[WZ,yj,field_eq ho,ey];unfold GV;rw[List.foldl_append];rfl
   ·rw[ayM]at hq;rcases List.mem_append.1 hq with hq|hq
    ·exact h0 x (hd q hq x hx)
    ·rw[List.mem_singleton.1 hq]at hx;exact h1 x hx
   ·rw[<-er];exact f_ (A:=[_,_,_,_,_,_,_,_]) (B:=[_,_,_,_,_,_]) [6,7,0,1,5,4] s' rfl (by decide)
  constructor
  ·have s:=pk 7 [1,0,2,3,4,5,6] s;refine N3 ho hLd s ht hs N2 λr2 y2 da dc ra rc w er2 WZ s=>?_;refine aS s λfb w s=>?_;refine⟨cg s 4 rfl,cg s 4 rfl,cg s 5 rfl,?_⟩;refine sT s 0 rfl λw s=>?_;refine ax s (i:=0) rfl rfl rfl λw s=>?_;exact fin er2 WZ s
  ·refine aS s λfb w s=>?_;refine⟨cg s 1 rfl,cg s 1 rfl,cg s 3 rfl,?_⟩;have s:=pk 8 [2,0,1,3,4,5,6,7] s;refine N3 ho hLd s ht hs N2 λr2 y2 da dc ra rc w er2 WZ s=>?_;have s:=pk 10 [3,0,1,2,4,5,6,7,8,9] s;refine sT s 0 rfl λw s=>?_;refine ax s (i:=0) rfl rfl rfl λw s=>?_;exact fin er2 WZ s
end
section
variable {W w w0:World}{L:List As}{r:Az}{y:gu}{lg:xH}{la:Option Addr}{ln lc sp:Nat}{us:List aU}{v0 v2:Value}{m:j_}
def aeE {Q:Option Addr->Nat->Nat->Value->World->Prop}(hLd:iG W lg)(ho:y.o=some m)(hm:nU m.g.m.w m.g.m.h us)(GZ:∀u∈us,iF u.id)(qe:ln<=100000)(hU:∀w',Sep No W w' L->Sl w' la ln lc 3 iy us)(s:Sep No W w (g8 r y::FH sp v0 r.p v2::L))
  (h:∀r' y' da dn dc w',r'.p=r.p->y'.p=GV y.p (mK m.g.m.w m.g.m.h us)->Sep No W w' (ak da dn dc 3 1 (flat one (sI m.g.m us))::g8 r' y'::FH sp v0 r.p v2::L)->Q da dn dc .nilIface w'):
  xS (sZ sp) la ln lc w Q:=by
 apply OI;refine ah (lP s 1 rfl ?_);have k:=q9 s ho;have hg:=(k.ok.m m ho).g;refine Rk s k λw s _=>?_;refine aaj s 207 fq vI λlb w s=>?_;have ayN:∀{us:List aU},ajm m.g.m us []:=⟨List.nodup_nil,λu _ d h=>by cases h⟩;have loop:∀(j i:Nat) (loc:List (Int×Int)) (w:World),i+j=ln->arl m.g.m.w m.g.m.h loc (us.take i)->Sep No W w (fO fq vI lb loc::g8 r y::FH sp v0 r.p v2::L)->
   uA Q (j+1) (sZ sp) la ln lc m.g.m.w m.g.m.h (some lb) la ln lc (ln:Int) i w:=by
  intro j;induction j with
  |zero=>
   intro i loc w hj hL s;show pN _ _ _ _ _ _ _ _ _ _ _ _ _ _ _;rw[pN,bq];refine aaj s 207 fq vI λdb w s=>?_;have hUw:=hU w (ai (ai (ai (ai s))));have hl:=hUw.len;rw[List.take_of_length_le (by omega)]at hL;refine aaG s hUw (by omega) hm λoa on oc ps w htr s _=>?_;have s:=pk 6 [4,5,3,2,0,1] s;exact⟨on+1,arp hLd hg.may hm GZ qe hL htr hU h on 0 r y m [] w (by omega) rfl (by rw[List.take_zero];rfl) ho rfl ayN (λp hp=>by cases hp) s⟩
  |succ j ih=>
   intro i loc w hj hL s;show pN _ _ _ _ _ _ _ _ _ _ _ _ _ _ _;rw[pN,bM];refine(hU w (ai (ai (ai s)))).El rfl (by omega) λp u hu hc=>?_;have hmem:=List.mem_of_getElem? hu;refine WT hc s λub w s=>?_;have s:=ay s;refine lI s 0 rfl (lI s 0 rfl ?_);refine tD s λw s _=>⟨cg s 0 rfl,?_⟩;refine L5 iiT s (i:=1) rfl hL.1 (GZ u hmem) λloc' w hk' Ed _ s=>?_;rw[Mf (by omega)];refine ih (i+1) loc' w (by omega) ⟨hk',λv hv=>?_⟩ (ai s);have yj:us.take (i+1)=us.take i++[u]:=by rw[List.take_add_one,hu];rfl
   rw[yj]at hv;rw[Ed];by_cases e:v.id=u.id
   ·have hvu:v∈us:=by
     rcases List.mem_append.1 hv with hv|hv
     ·exact List.mem_of_mem_take hv
     ·rw[List.mem_singleton.1 hv];exact hmem
    rw[if_pos e,ids_eq hm.ids hvu hmem e]
   ·rw[if_neg e];rcases List.mem_append.1 hv with hv|hv
    ·exact hL.2 v hv
    ·exact(e (by rw[List.mem_singleton.1 hv])).elim
 exact⟨ln+1,loop ln 0 [] w (by omega) ⟨List.nodup_nil,λu hu=>by cases hu⟩ s⟩
end
structure Eh where
 p:Nat
 bQ:Az
 cr:CrR
structure zJ where
 most:Int
 bQ:gu
 cr:Option Hq
def zJ.p (y:zJ):gI:=⟨y.most,y.bQ.p,y.cr.map (·.y)⟩
def crV (r:Eh)(o:Option Hq):Option Addr:=match o with
 |some _=>sZ r.cr.p
 |none=>none
noncomputable def amF (r:Eh)(o:Option Hq):List As:=match o with
 |some x=>[fV r.cr x]
 |none=>[]
noncomputable abbrev ajq (r:Eh)(y:zJ):As:=FH r.p (ae y.most) r.bQ.p (.pointer (crV r y.cr))
noncomputable def awE (r:Eh)(y:zJ):List As:=ajq r y::g8 r.bQ y.bQ::amF r y.cr
structure ajr (y:zJ):Prop where
 most:1<=y.most/\y.most<=65536
 no:y.cr=none↔y.bQ.o=none
 cr:∀x m,y.cr=some x->y.bQ.o=some m->x.w=m.g.m.w/\x.h=m.g.m.h/\x.y.most=y.most
noncomputable def fP (r:Eh)(y:zJ):As:=aW (ajr y) (awE r y)
section
variable {F:Nat->Prop}{W w:World}{L:List As}{r:Eh}{y:zJ}
def Ie (s:Sep F W w (fP r y::L)):ajr y/\Sep F W w (ajq r y::g8 r.bQ y.bQ::(amF r y.cr++L)):=gL s
def ajs (s:Sep F W w (fP r y::L))(h:y.cr=none):ajr y/\y.bQ.o=none/\Sep F W w (FH r.p (ae y.most) r.bQ.p (.pointer none)::g8 r.bQ y.bQ::L):=by obtain⟨ok,s⟩:=Ie s;refine⟨ok,ok.no.1 h,?_⟩;unfold ajq amF crV at s;grind
def vB {x:Hq}(s:Sep F W w (fP r y::L))(h:y.cr=some x):ajr y/\(∃m,y.bQ.o=some m/\x.w=m.g.m.w/\x.h=m.g.m.h/\x.y.most=y.most)/\Sep F W w (FH r.p (ae y.most) r.bQ.p (.pointer (sZ r.cr.p))::g8 r.bQ y.bQ::fV r.cr x::L):=by
 obtain⟨ok,s⟩:=Ie s;refine⟨ok,?_,?_⟩
 ·cases hn:y.bQ.o with
  |none=>rw[ok.no.2 hn]at h;cases h
  |some m=>exact⟨m,rfl,ok.cr x m h hn⟩
 ·unfold ajq amF crV at s;grind
def zX {most:Int}{n:gu}{x:Hq}{m:j_}(s:Sep F W w (FH r.p (ae most) r.bQ.p (.pointer (sZ r.cr.p))::g8 r.bQ n::fV r.cr x::L))(hm:1<=most/\most<=65536)(ho:n.o=some m)(hx:x.w=m.g.m.w/\x.h=m.g.m.h/\x.y.most=most):Sep F W w (fP r ⟨most,n,some x⟩::L):=by
 refine dz s ⟨hm,⟨(λe=>by cases e),λe=>?_⟩,λx' m' ex em=>?_⟩
 all_goals grind
def afQ {most:Int}{n:gu}(s:Sep F W w (FH r.p (ae most) r.bQ.p (.pointer none)::g8 r.bQ n::L))(hm:1<=most/\most<=65536)(ho:n.o=none):Sep F W w (fP r ⟨most,n,none⟩::L):=
 dz s ⟨hm,⟨λ_=>ho,λ_=>rfl⟩,λx' m' ex em=>by cases ex⟩
def TP {Q:Option Addr->World->Prop}{k most:Int}(hk:1<=k/\k<=100000)(hm:1<=most/\most<=65536)(s:Sep F W w L)
  (h:∀r y w',y.p=⟨most,⟨k,⟨[],[],0,0,0,0⟩,none,⟨0,0,0,0,0,0⟩⟩,none⟩->Sep F W w' (fP r y::L)->Q (sZ r.p) w'):Em k most w Q:=by
 apply age;rw[bq,bq,bq];refine agL hk s λnr x w ex s=>?_;refine aO s λp w s=>?_;refine h ⟨p,nr,⟨0,⟨0,0,none,0,0,[],[]⟩,⟨0,none,0,0,0⟩⟩⟩ ⟨most,⟨k,x,none,⟨0,0,0,0,0,0⟩⟩,none⟩ w ?_ (afQ s hm rfl);unfold zJ.p gu.p;grind
end
abbrev Mn (c:Int):Value:=.iface 108 (ae c)
def G0 (lg:xH)(e:Value)(c:Int):Prop:=(c=0/\e=.nilIface)\/(c≠0/\e=Mn c)\/(c=5/\e=sY lg.a0)
def acN {lg:xH}{e:Value}{c:Int}{K:Value->Prop}(h:G0 lg e c)(k:K e):dV e K:=by rcases h with⟨_,rfl⟩|⟨_,rfl⟩|⟨_,rfl⟩<;>exact k
def ajt {lg:xH}{w:World}{c:Int}{Q:Value->World->Prop}(h:∀e,G0 lg e c->Q e w):gj c w Q:=by
 apply ET;by_cases e:c=0
 ·rw[dN e,cond_true];exact h _ (.inl ⟨e,rfl⟩)
 ·rw[cy e,cond_false];exact h _ (.inr (.inl ⟨e,rfl⟩))
def rf {lg:xH}{c:Int}(h:c≠0):G0 lg (Mn c) c:=.inr (.inl ⟨h,rfl⟩)
section
variable {W w w0:World}{L:List As}{lg:xH}{r:Eh}{y:zJ}{x:Hq}{m:j_}{ob:Nat}{kind c:Int}{e:Value}
def aB1:zc T 108=[ae 0]:=rfl
def amG {Q:Int->World->Prop}(hL:iG W lg)(he:G0 lg e c)(hc:c≠0)(s:Sep No W w (av ob 80 [ae kind,e]::L))(h:∀w',Sep No W w' (av ob 80 [ae kind,e]::L)->Q c w'):
  CJ (.iface 78 (.pointer (sZ ob))) w Q:=by
 apply adP;refine aS s λrb w s=>?_;have k:=hL.fr (au s);apply mJ k.v0 rfl;have hv:=kZ s (i:=1) rfl 1 _ rfl;rcases he with⟨h0,_⟩|⟨_,rfl⟩|⟨h5,rfl⟩
 ·grind
 ·apply S5 (.inl rfl) (.inr rfl) hv (λx y K hk=>avm (by decide) hk);refine Md s (λw' s'=>kZ s' (i:=0) rfl 1 _ rfl) (λw' s'=>(hL.fr (au s')).v1) λw s=>?_;exact lI s 0 rfl (h w (ai s))
 ·apply S5 (.inl rfl) (.inl rfl) hv (λx y K hk=>WG hk);rw[cond_true,<-h5];exact h w (ai s)
def amH {Q:Value->World->Prop}{a:Option Addr}{n c:Nat}{bs:List Int}(hL:iG W lg)(hB:∀w',Sep No W w' L->Sl w' a n c 1 bp bs)(hn:n<=1000000000)(hr:dZ bs)(hh:Eg bs)(oZ:∀mp,kW bs=some mp->mp.w*mp.h<=1600)(YA:zW y.p.bQ<1000000000)
  (s:Sep No W w (fP r y::L))(hno:kW bs=none->∀w',Sep No W w' (fP r y::L)->Q (Mn 6) w')
  (hyes:∀mp,kW bs=some mp->∀r' y' w',r'.p=r.p->y'.p=⟨y.most,ldP y.p.bQ mp,some ⟨y.most,0,[]⟩⟩->Sep No W w' (fP r' y'::L)->Q .nilIface w'):
  xP (sZ r.p) a n c w Q:=by
 apply Oq;have ok:=(Ie s).1;have hBw:=hB w (ai s);refine acM (hL.fr (au s)) hBw hn hr hh s (λhg co w KY s _=>?_) λmp hg ma mn mc w s _=>?_
 ·refine aS s λmb w s=>?_;refine sT s 0 rfl λw s=>?_;refine sT s 0 rfl λw s=>?_;refine sT s 0 rfl λw s=>?_;rw[Gk (by omega),cond_true];exact hno hg w (ai s)
 ·have hmay:=afh (λx hx=>hr x hx) hg;refine aS s λmb w s=>?_;refine sT s 0 rfl λw s=>?_;refine sT s 0 rfl λw s=>?_;refine ax s (i:=0) rfl rfl rfl λw s=>?_;rw[Es rfl,cond_false];have s:=ay s;obtain⟨_,so⟩:=Ie (pk 3 [2,0,1] s);have so:=so;have s:Sep No W _ (g8 r.bQ y.bQ::ajq r y::av mb 25 [ae mp.w,ae mp.h,.slice ma mn mc]::ak ma mn mc 5 1 (flat bp mp.cs)::L):=
   ck (gC so (.cons_cons _ (.cons_cons _ (List.sublist_append_right _ _)))) (List.Perm.swap _ _ _)
  refine ah (lP s 1 rfl ?_);refine lI s 2 rfl (lI s 2 rfl (lS s 2 rfl ?_));refine aeu hmay hmay.bytes (oZ mp hg) (λw' s'=>aN s' (i:=2) rfl cV (by decide)) (by rw[y.bQ.amE];exact YA) s λnr x' w er ex s=>?_;have s:=ay s;refine lI s 2 rfl (lI s 2 rfl (ah (lI s 1 rfl ?_)));refine acE ⟨hmay.w,hmay.h⟩ ok.most s λcr ws w s=>?_;refine ah (ax s (i:=2) rfl rfl rfl λw s=>?_);refine ajt (lg:=lg) λe he=>?_;have he:e=.nilIface:=by
   rcases he with⟨_,h⟩|⟨h,_⟩|⟨h,_⟩
   all_goals grind
  subst he;have s:=f_ (A:=[_,_,_,_,_]) (B:=[FH r.p (ae y.most) nr.p (.pointer (sZ cr.p)),_,_]) [2,1,0] s (by rw[er];rfl) (by decide);refine hyes mp hg ⟨r.p,nr,cr⟩ ⟨y.most,_,some ⟨mp.w,mp.h,⟨y.most,0,[]⟩,ws⟩⟩ w rfl ?_ (zX s ok.most rfl ⟨rfl,rfl,rfl⟩);show gI.mk _ _ _=gI.mk _ _ _;rw[y.bQ.awB ex];rfl
def Ig {x':Hq}{cr:CrR}(ok:ajr y)(hx:x.w=m.g.m.w/\x.h=m.g.m.h/\x.y.most=y.most)(vw:y.cr=some x)(ho:y.bQ.o=some m)(hx':x'.w=x.w/\x'.h=x.h/\x'.y.most=x.y.most)(ec:cr.p=r.cr.p)(s:Sep No W w (fV cr x'::FH r.p (ae y.most) r.bQ.p (.pointer (sZ r.cr.p))::g8 r.bQ y.bQ::L)):
  Sep No W w (fP ⟨r.p,r.bQ,cr⟩ ⟨y.most,y.bQ,some x'⟩::L):=by
 have s:=f_ (A:=[_,_,_]) (B:=[FH r.p (ae y.most) r.bQ.p (.pointer (sZ cr.p)),_,_]) [1,2,0] s (by rw[ec];rfl) (by decide);exact zX s ok.most ho ⟨hx'.1.trans hx.1,hx'.2.1.trans hx.2.1,hx'.2.2.trans hx.2.2⟩
end
def KM {w:World}{Q:Value->World->Prop}(h:Q .nilIface w):gj 0 w Q:=ET _ _ _ h
def KN {w:World}{c:Int}{Q:Value->World->Prop}(hc:c≠0)(h:Q (Mn c) w):gj c w Q:=by apply ET;grind
def ag1 {m:bJ}(hm:cI m){c:Int}:cA m c=0↔¬bF m.w m.h c:=by
 constructor
 ·intro h hc;have:=LO hm hc;omega
 ·intro h;rw[cA,if_neg λe=>h ⟨⟨hm.w,hm.h⟩,e.1,by rw[<-hm.len];exact e.2⟩]
abbrev Mo (d dir id:Int)(ma:Option Addr)(mn mc:Nat)(ga:Option Addr)(gn gc:Nat):List Value:=[ae 0,ae d,ae dir,ae id,.slice ma mn mc,.slice ga gn gc,.int .u64 0,.int .u64 0,.int .u64 0,.int .u64 0,.int .u64 0,.int .u64 0]
abbrev DoK (lg:xH)(W:World)(rp:Nat)(ab:Nat)(L:List As)(Q:Value->World->Prop)(q:gI×aaJ):Prop:=
 ∀r' y' e ma mn mc ga gn gc w',r'.p=rp->y'.p=q.1->G0 lg e q.2.code->Sep No W w' (ak ma mn mc 51 2 (flat lO q.2.GY)::ak ga gn gc 3 1 (flat one q.2.gone)::fP r' y'::av ab 34 (Mo q.2.d q.2.dir q.2.id ma mn mc ga gn gc)::L)->Q e w'
section
variable {W w w0:World}{L:List As}{lg:xH}{r:Eh}{y:zJ}{x:Hq}{m:j_}{ab:Nat}{A B k:Int}{e:Value}{a:Option Addr}{n c:Nat}
def W0 {Q:Value->World->Prop}{q:gI×aaJ}{r':Eh}{y':zJ}(h:DoK lg W r.p ab L Q q)(er:r'.p=r.p)(ey:y'.p=q.1)(he:G0 lg e q.2.code)(hm:q.2.GY=[])(hg:q.2.gone=[])(s:Sep No W w (fP r' y'::av ab 34 (Mo q.2.d q.2.dir q.2.id none 0 0 none 0 0)::L)):Q e w:=by have s:=bE (bE s 3 1) 51 2;apply h r' y' e none 0 0 none 0 0 w er ey he;rw[hm,hg];exact s
def aju {Q:Value->World->Prop}{ob:Nat}{v0 v2 v3:Value}(ho:y.bQ.o=some m)(vw:y.cr=some x)(s:Sep No W w (av ob 38 [v0,ae A,v2,v3]::fP r y::L))(h7:¬bF m.g.m.w m.g.m.h A->∀w',Sep No W w' (fP r y::L)->Q (Mn 7) w')(h0:bF m.g.m.w m.g.m.h A->∀w',Sep No W w' (fP r y::L)->Q .nilIface w'):
  su Q (sZ r.p) (aZ ob) w:=by
 have s:=ay s;obtain⟨ok,_,so⟩:=vB (ai s) vw;refine ah (lP so 0 rfl (lI s 0 rfl ?_));have kn:=q9 (ai so) ho;have hmay:=(kn.ok.m m ho).g.may;apply H_ kn;by_cases hc:bF m.g.m.w m.g.m.h A
 ·rw[cy (λe=>(ag1 hmay).1 e hc),cond_false];exact h0 hc _ (ai s)
 ·rw[dN ((ag1 hmay).2 hc),cond_true];exact h7 hc _ (ai s)
def ake {Q:Value->World->Prop}(hx:k=2\/k=3->∃x m,y.cr=some x/\y.bQ.o=some m)(s:Sep No W w (fP r y::L))
  (h7:∀m,y.bQ.o=some m->(k=2/\¬bF m.g.m.w m.g.m.h A)\/(k=3/\¬(bF m.g.m.w m.g.m.h A/\bF m.g.m.w m.g.m.h B))->∀w',Sep No W w' (fP r y::L)->Q (Mn 7) w')
  (h0:(∀m,y.bQ.o=some m->(k=2->bF m.g.m.w m.g.m.h A)/\(k=3->bF m.g.m.w m.g.m.h A/\bF m.g.m.w m.g.m.h B))->∀w',Sep No W w' (fP r y::L)->Q .nilIface w'):
  wk (sZ r.p) k A B a n c w Q:=by
 apply MB;refine aO s λob w s=>?_;apply lI s 0 rfl;by_cases k3:k=3
 ·rw[dN k3,cond_true];obtain⟨x,m,vw,ho⟩:=hx (.inr k3);have s:=ay s;obtain⟨ok,_,so⟩:=vB (ai s) vw;refine ah (lP so 0 rfl (lI s 0 rfl ?_));have kn:=q9 (ai so) ho;have hmay:=(kn.ok.m m ho).g.may;apply H_ kn;by_cases hc:bF m.g.m.w m.g.m.h B
  ·rw[cy (λe=>(ag1 hmay).1 e hc),cond_false];refine aju ho vw s (λhA w s=>h7 m ho (.inr ⟨k3,λe=>hA e.1⟩) w s) λhA w s=>h0 (λm' hm'=>?_) w s;grind
  ·rw[dN ((ag1 hmay).2 hc),cond_true];exact h7 m ho (.inr ⟨k3,λe=>hc e.2⟩) _ (ai s)
 rw[cy k3,cond_false];by_cases k2:k=2
 ·rw[dN k2,cond_true];obtain⟨x,m,vw,ho⟩:=hx (.inl k2);refine aju ho vw s (λhA w s=>h7 m ho (.inl ⟨k2,hA⟩) w s) λhA w s=>h0 (λm' hm'=>?_) w s;grind
 ·rw[cy k2,cond_false];exact h0 (λm' _=>⟨λe=>(k2 e).elim,λe=>(k3 e).elim⟩) _ (ai s)
def amI {Q:Value->World->Prop}(vw:y.cr=some x)(ho:y.bQ.o=some m)(hA:bF m.g.m.w m.g.m.h A)(YA:zW y.p.bQ<1000000000)(s:Sep No W w (fP r y::L))
  (h8:B<1\/255<B->∀w',Sep No W w' (fP r y::L)->Q (Mn 8) w')(h10:1<=B/\B<=255->B=255/\vz x.y.us A≠-1->∀w',Sep No W w' (fP r y::L)->Q (Mn 10) w')
  (h0:1<=B/\B<=255->¬(B=255/\vz x.y.us A≠-1)->∀r' y' w',r'.p=r.p->y'.p=⟨y.most,edP y.p.bQ A B,some x.y⟩->Sep No W w' (fP r' y'::L)->Q .nilIface w'):xQ (sZ r.p) A B w Q:=by
 apply Ot;by_cases b1:B<1
 ·grind
 rw[bq b1];by_cases b2:B>255
 ·grind
 rw[bq b2];have hB:1<=B/\B<=255:=by omega
 obtain⟨ok,⟨m',ho',hx⟩,so⟩:=vB s vw;rw[ho]at ho';cases ho';have aiz:m.g.ep<1000000000:=by have e:=y.bQ.amE;rw[ho]at e;have e:m.g.ep=zW y.p.bQ:=e;omega
 have b5:¬(B=255/\vz x.y.us A≠-1)->uu Q (sZ r.p) A B w:=λhn=>by refine ah (lP so 0 rfl ?_);refine aet ho aiz (iZ so) (λe=>(e hA).elim) (λ_ e=>(e hB).elim) λ_ _ w s=>?_;apply KM;refine h0 hB hn r ⟨y.most,⟨y.bQ.k,y.bQ.x,some ⟨xz m.g A B,m.ms,m.f⟩,y.bQ.past⟩,some x⟩ w rfl ?_ (zX (pk 3 [1,0,2] s) ok.most rfl hx);show gI.mk _ _ _=gI.mk _ _ _;rw[y.bQ.awD ho];rfl
 by_cases ayO:B=255
 ·rw[dN ayO,cond_true];refine ah (lP so 0 rfl ?_);have hAx:bF x.w x.h A:=by grind
  have hc:=(q_ (ai (ai so))).1;apply acG hAx (ai (ai so));rcases atx hc.may (c:=A)with h1|h1
  all_goals grind
 grind
def akf {Q:Int->Value->World->Prop}(vw:y.cr=some x)(ho:y.bQ.o=some m)(Rm:x.y.next<1000000000)(s:Sep No W w (fP r y::L))
  (h9:cA m.g.m A=255->∀w',Sep No W w' (fP r y::L)->Q (-1) (Mn 9) w')
  (GP:cA m.g.m A≠255->vA m.g.m.w m.g.m.h x.y A B≠0->∀w',Sep No W w' (fP r y::L)->Q (-1) (Mn (vA m.g.m.w m.g.m.h x.y A B)) w')
  (h0:cA m.g.m A≠255->vA m.g.m.w m.g.m.h x.y A B=0->∀r' y' w',r'.p=r.p->y'.p=⟨y.most,y.p.bQ,some (O0 x.y A B)⟩->Sep No W w' (fP r' y'::L)->Q x.y.next .nilIface w'):wm (sZ r.p) A B w Q:=by
 apply MG;obtain⟨ok,⟨m',ho',hx⟩,so⟩:=vB s vw;rw[ho]at ho';cases ho';refine ah (lP so 0 rfl ?_);apply H_ (q9 (ai so) ho);by_cases W1:cA m.g.m A=255
 ·grind
 rw[cy W1,cond_false];refine ah (lP so 0 rfl ?_);rw[<-hx.1,<-hx.2.1]at GP h0;refine Yl Rm (pk 3 [2,0,1] so) (λhne w s=>?_) λhz cr ws w ec s=>?_
 ·apply KN hne;apply GP W1 hne w;have s:=Ig ok hx vw ho ⟨rfl,rfl,rfl⟩ rfl s;have e:(⟨y.most,y.bQ,some x⟩:zJ)=y:=by rw[<-vw]
  simp_all
 ·apply KM;exact h0 W1 hz ⟨r.p,r.bQ,cr⟩ ⟨y.most,y.bQ,some ⟨x.w,x.h,O0 x.y A B,ws⟩⟩ w rfl rfl (Ig (x':=⟨x.w,x.h,O0 x.y A B,ws⟩) ok hx vw ho ⟨rfl,rfl,rfl⟩ ec s)
def akg {Q:Value->World->Prop}(hL:iG W lg)(vw:y.cr=some x)(ho:y.bQ.o=some m)(N2:(Lit.int .i64 A).wf=true)(s:Sep No W w (fP r y::av ab 34 (Mo 0 5 (-1) none 0 0 none 0 0)::L))
  (GP:¬(bF m.g.m.w m.g.m.h A/\bF m.g.m.w m.g.m.h B)->∀w',Sep No W w' (fP r y::av ab 34 (Mo 0 5 (-1) none 0 0 none 0 0)::L)->Q (Mn 7) w')
  (h0:bF m.g.m.w m.g.m.h A->bF m.g.m.w m.g.m.h B->∀r' y' w',r'.p=r.p->y'.p=⟨y.most,zI y.p.bQ A (cT m.g.m B),some x.y⟩->Sep No W w' (fP r' y'::av ab 34 (Mo (D m.g.m A B) (jW m.g.m A B) (-1) none 0 0 none 0 0)::L)->Q .nilIface w'):wo (sZ r.p) (sZ ab) A B w Q:=by
 apply MS;obtain⟨ok,⟨m',ho',hx⟩,so⟩:=vB s vw;rw[ho]at ho';cases ho';refine ah (lP so 0 rfl ?_);refine aex ho hL (iZ so) N2 (λhn w s=>?_) λht hc nr ny w er ey s=>?_
 ·apply KN (by decide);have s:=zX (pk 3 [1,0,2] s) ok.most ho hx;have e:(⟨y.most,y.bQ,some x⟩:zJ)=y:=by rw[<-vw]
  rw[e]at s;exact GP hn w s
 ·rw[dN rfl,cond_true];refine ah (sT s 3 rfl λw s=>ah (ax s (i:=3) rfl rfl rfl λw s=>?_));apply KM;obtain⟨m2,ho2,em2⟩:=GW (by rw[ey];rfl);have eg2:m2.g=m.g:=congrArg vU.g em2;have s:=f_ (A:=[_,_,_,_]) (B:=[FH r.p (ae y.most) nr.p (.pointer (sZ r.cr.p)),g8 nr ny,fV r.cr x,_]) [1,0,2,3] s (by rw[er];rfl) (by decide);refine h0 ht hc ⟨r.p,nr,r.cr⟩ ⟨y.most,ny,some x⟩ w rfl ?_ (zX s ok.most ho2 (by grind));show gI.mk _ _ _=gI.mk _ _ _;rw[ey,field_eq ho];rfl
end
def arq {m:bJ}(hm:cI m){t x:Int}:0<=jW m t x/\jW m t x<=5:=by
 by_cases hD:D m t x<bR
 ·by_cases hx:x=t
  ·unfold jW;omega
  ·have:=(Xf hm hD hx).1;omega
 ·unfold jW;omega
section
variable {W w w0:World}{L:List As}{lg:xH}{r:Eh}{y:zJ}{x:Hq}{m:j_}{ab:Nat}{A B k:Int}{e:Value}{a:Option Addr}{n c:Nat}
def amJ {Q:Value->World->Prop}(hL:iG W lg)(vw:y.cr=some x)(ho:y.bQ.o=some m)(s:Sep No W w (fP r y::av ab 34 (Mo 0 5 (-1) none 0 0 none 0 0)::L))
  (h:∀r' y' ma mn mc ga gn gc w',r'.p=r.p->y'.p=⟨y.most,GV y.p.bQ (mK m.g.m.w m.g.m.h x.y.us),some (N8 m.g.m.w m.g.m.h x.y (sI m.g.m x.y.us))⟩->
   Sep No W w' (ak ma mn mc 51 2 (flat lO (dg m.g.m.w m.g.m.h [] (x.y.us.zip (sI m.g.m x.y.us))).2.1)::ak ga gn gc 3 1 (flat one (dg m.g.m.w m.g.m.h [] (x.y.us.zip (sI m.g.m x.y.us))).2.2)::fP r' y'::av ab 34 (Mo 0 5 (-1) ma mn mc ga gn gc)::L)->Q .nilIface w'):
  xR (sZ r.p) (sZ ab) w Q:=by
 apply OM;obtain⟨ok,⟨m',ho',hx⟩,s⟩:=vB s vw;rw[ho]at ho';cases ho';obtain⟨cok,cs⟩:=q_ (ai (ai s));have DQ:=(uS (ai cs)).1;have oZ:=DQ.nS;have Xu:=DQ.most;have Rm:=DQ.Q9;have asu:=cok.may;rw[hx.1,hx.2.1]at asu;have hmay:=((q9 (ai s) ho).ok.m m ho).g.may;have GZ:∀u∈x.y.us,iF u.id:=λu hu=>by have:=DQ.jA u hu;unfold iF;omega
 refine ah (lP s 0 rfl ?_);refine DR (pk 4 [2,0,1,3] s) λua un uc w s=>?_;have hun:=(aN s (i:=0) rfl Jc (by decide)).len;have s:=pk 5 [3,2,0,1,4] s;refine aeE hL ho asu GZ (by omega) (λw' s'=>aN s' (i:=0) rfl Jc (by decide)) s λnr ny da dn dc w er ey s=>?_;apply Mj;refine ah (lP s 2 rfl ?_);have s:=pk 6 [4,0,1,2,5] s;refine aaD (λw' s'=>aN s' (i:=0) rfl cF (by decide)) (by unfold sI;grind) (λd hd=>?_) s λcr ws ma mn mc ga gn gc w ec s=>?_
 ·obtain⟨u,_,rfl⟩:=List.mem_map.1 hd;exact arq hmay
 ·refine ah (sT s 6 rfl λw s=>ah (ax s (i:=6) rfl rfl rfl λw s=>?_));apply KM;obtain⟨m2,ho2,em2⟩:∃m2,ny.o=some m2/\m2.g=m.g:=by obtain⟨TO,h1,h2⟩:=GX (mK m.g.m.w m.g.m.h x.y.us) (Mk ho);rw[<-ey]at h1;obtain⟨m2,ho2,e2⟩:=GW h1;refine⟨m2,ho2,?_⟩;have:=congrArg vU.g e2;exact this.trans h2
  rw[hx.1,hx.2.1]at s;have s:=f_ (A:=[_,_,_,_,_,_,_]) (B:=[FH r.p (ae y.most) nr.p (.pointer (sZ cr.p)),g8 nr ny,fV cr ⟨m.g.m.w,m.g.m.h,N8 m.g.m.w m.g.m.h x.y (sI m.g.m x.y.us),ws⟩,_,_,_]) [5,4,2,0,1,6] s (by rw[er,ec];rfl) (by decide);have s:=zX (r:=⟨r.p,nr,cr⟩) s ok.most ho2 (by rw[em2];exact⟨rfl,rfl,hx.2.2⟩);refine h ⟨r.p,nr,cr⟩ ⟨y.most,ny,some ⟨m.g.m.w,m.g.m.h,N8 m.g.m.w m.g.m.h x.y (sI m.g.m x.y.us),ws⟩⟩ ma mn mc ga gn gc w rfl ?_ (pk 4 [1,2,0,3] s);show gI.mk _ _ _=gI.mk _ _ _;rw[ey];rfl
def atM {o:kX}(h:Dv o=true)(hk:o.k≠0):(1<=o.k/\o.k<=8)/\(0<=o.A/\o.A<4294967296)/\(0<=o.B/\o.B<4294967296):=by
 unfold Dv at h;rw[if_neg hk]at h;simp[Bool.and_eq_true]at h;obtain⟨h1,h2,h3,_⟩:=h;have h1:=of_decide_eq_true h1;have hA:=HA.1 h2;have hB:=HA.1 h3;have:=ap7 o.k;have pw:∀s:Nat,s<=4->(256:Int)^s<=4294967296:=λs hs=>by
  match s,hs with
  |0,_=>decide
  |1,_=>decide
  |2,_=>decide
  |3,_=>decide
  |4,_=>decide
 grind
def ajv {o:kX}(vw:y.cr=some x)(ho:y.bQ.o=some m)(F0:o.k≠0)(hm:Dv o=true)(h1:o.k≠1)(h8:o.k≠8):iH y.p o=Ml y.p m.g.m x.y o:=by
 have e1:y.p.bQ.o=some m.p:=Mk ho;have e2:y.p.us=some x.y:=by show y.cr.map _=_;grind
 rw[iH,if_neg (by grind),if_neg h1,if_neg h8,e1,e2];rfl
def awF {Q:Value->World->Prop}{o:kX}{ob:Nat}(hL:iG W lg)(F0:o.k≠0)(hmay:Dv o=true)(hr:dZ o.m)(hn:n<=1000000000)(hM:∀w',Sep No W w' L->Sl w' a n c 1 bp o.m)
  (awG:o.k=1->Eg o.m/\∀mp,kW o.m=some mp->mp.w*mp.h<=1600)(YA:zW y.p.bQ<1000000000)(Rm:∀u,y.p.us=some u->u.next<1000000000)(vw:o.k≠1->o.k≠8->y.cr≠none)
  (s:Sep No W w (av ob 38 [ae o.k,ae o.A,ae o.B,.slice a n c]::fP r y::av ab 34 (Mo 0 5 (-1) none 0 0 none 0 0)::L))(h:DoK lg W r.p ab L Q (iH y.p o)):
  oK Q (sZ r.p) (sZ ab) (aZ ob) w:=by
 obtain⟨hk,hA,hB⟩:=atM hmay F0;have ars:iF o.A:=by unfold iF;omega
 have amK:o.k≠1->o.k≠8->∃x m,y.cr=some x/\y.bQ.o=some m:=λh1 h8=>by
  have hne:=vw h1 h8;cases hc:y.cr with
  |none=>exact(hne hc).elim
  |some x=>
   obtain⟨_,⟨m,hm,_⟩,_⟩:=vB (ai s) hc;exact⟨x,m,rfl,hm⟩
 refine lI s 0 rfl (lI s 0 rfl (lI s 0 rfl (lS s 0 rfl ?_)));have s:=iZ s;have b25:∀{e:Value} {cd:Int} {w:World},G0 lg e cd->Q e w->fA Q e w:=λhe hq=>by exact acN he hq
 have e0:G0 lg .nilIface 0:=.inl ⟨rfl,rfl⟩;have fin:∀{q:gI×aaJ} {r':Eh} {y':zJ} {e:Value} {w:World},iH y.p o=q->r'.p=r.p->y'.p=q.1->G0 lg e q.2.code->q.2.GY=[]->q.2.gone=[]->Sep No W w (fP r' y'::av ob 38 [ae o.k,ae o.A,ae o.B,.slice a n c]::av ab 34 (Mo q.2.d q.2.dir q.2.id none 0 0 none 0 0)::L)->fA Q e w:=λ{q r' y' e w} eq er ey he hm hg s=>by subst eq;exact b25 he (W0 h er ey he hm hg (gC s (.cons_cons _ (List.sublist_cons_self _ _))))
 refine ake (λhk=>amK (by omega) (by omega)) s (λm ho hb w s=>?_) λhc w s=>?_
 ·refine Ro (acN (lg:=lg) (rf (by decide)) ?_);obtain⟨x,m',hx,hm'⟩:=amK (by omega) (by omega);rw[ho]at hm';cases hm';have e:iH y.p o=(y.p,pT 7):=by
   rw[ajv hx ho F0 hmay (by omega) (by omega)];unfold Ml;rcases hb with⟨k2,hA⟩|⟨k3,hAB⟩
   ·rw[if_pos k2,if_pos hA]
   ·rw[fR,if_pos k3,if_pos hAB]
  rw[e]at h;exact W0 h rfl rfl (rf (by decide)) rfl rfl (gC s (.cons_cons _ (List.sublist_cons_self _ _)))
 apply Mj;apply lI s 1 rfl;by_cases k1:o.k=1
 ·rw[dN k1,cond_true];obtain⟨hh,oZ⟩:=awG k1;apply lS s 1 rfl;have eq:∀q,(match kW o.m with|none=>(y.p,pT 6)|some mp=>(⟨y.p.most,ldP y.p.bQ mp,some ⟨y.p.most,0,[]⟩⟩,pT 0))=q->iH y.p o=q:=λq e=>by rw[iH,if_neg (by rw[hmay];simp[F0]),if_pos k1];exact e
  refine amH hL (λw' s'=>hM w' (ai (ai s'))) hn hr hh oZ YA s (λhg w s=>?_) λmp hg r' y' w er ey s=>?_
  ·exact fin (q:=(y.p,pT 6)) (eq _ (by rw[hg])) rfl rfl (rf (by decide)) rfl rfl s
  ·exact fin (eq _ (by rw[hg])) er ey e0 rfl rfl s
 rw[cy k1,cond_false];by_cases k8:o.k=8
 ·rw[dN k8,cond_true];have eq:iH y.p o=(⟨y.p.most,Oa y.p.bQ,y.p.us⟩,pT 0):=by rw[iH,if_neg (by rw[hmay];simp[F0]),if_neg k1,if_pos k8]
  cases Dq:y.cr with
  |none=>
   obtain⟨ok,hno,so⟩:=ajs s Dq;refine ah (lP so 0 rfl ?_);refine acu hno (iZ so) λnr x' w er ex s=>?_;have s:=f_ (A:=[_,_]) (B:=[FH r.p (ae y.most) nr.p (.pointer none),_]) [1,0] s (by rw[er];rfl) (by decide);refine fin (r':=⟨r.p,nr,r.cr⟩) (y':=⟨y.most,⟨y.bQ.k,x',none,y.bQ.past⟩,none⟩) eq rfl ?_ e0 rfl rfl (afQ s ok.most rfl);show gI.mk _ _ _=gI.mk _ _ _;rw[y.bQ.atJ hno ex];show gI.mk _ _ _=gI.mk _ _ (y.cr.map _);rw[Dq];rfl
  |some x=>
   obtain⟨ok,⟨m,ho,hx⟩,so⟩:=vB s Dq;refine ah (lP so 0 rfl ?_);refine acs ho (iZ so) λnr x' w er ex s=>?_;have s:=f_ (A:=[_,_,_]) (B:=[FH r.p (ae y.most) nr.p (.pointer (sZ r.cr.p)),_,_]) [1,0,2] s (by rw[er];rfl) (by decide);refine fin (r':=⟨r.p,nr,r.cr⟩) (y':=⟨y.most,⟨y.bQ.k,x',some ⟨m.g,m.ms,⟨none,m.f.fS⟩⟩,y.bQ.past⟩,some x⟩) eq rfl ?_ e0 rfl rfl (zX s ok.most rfl hx);show gI.mk _ _ _=gI.mk _ _ _;rw[y.bQ.awC ho ex];show gI.mk _ _ _=gI.mk _ _ (y.cr.map _);rw[Dq];rfl
 rw[cy k8,cond_false];obtain⟨x,m,Dq,ho⟩:=amK k1 k8;have lQ:=ajv Dq ho F0 hmay k1 k8;have Hj:y.p.us=some x.y:=by show y.cr.map _=_;rw[Dq];rfl
 have Rm:=Rm x.y Hj;unfold Ml at lQ;by_cases k2:o.k=2
 ·rw[dN k2,cond_true];rw[if_pos k2]at lQ;have hAc:=(hc m ho).1 k2;rw[if_neg (λe=>e hAc)]at lQ;refine lI s 1 rfl (lI s 1 rfl ?_);refine amI Dq ho hAc YA s (λhb w s=>?_) (λhb hw w s=>?_) λhb hw r' y' w er ey s=>?_
  ·rw[if_pos hb]at lQ;exact fin lQ rfl rfl (rf (by decide)) rfl rfl s
  ·rw[fR,if_pos hw]at lQ;exact fin lQ rfl rfl (rf (by decide)) rfl rfl s
  ·rw[fR,if_neg hw]at lQ;exact fin lQ er ey e0 rfl rfl s
 rw[cy k2,cond_false];rw[if_neg k2]at lQ;by_cases k3:o.k=3
 ·rw[dN k3,cond_true];rw[if_pos k3]at lQ;have hAc:=(hc m ho).2 k3;rw[if_neg (λe=>e hAc)]at lQ;refine lI s 1 rfl (lI s 1 rfl ?_);refine akf Dq ho Rm s (λh9 w s=>?_) (λh9 hb w s=>?_) λh9 hz r' y' w er ey s=>?_
  ·rw[if_pos h9]at lQ;refine ah (sT s 2 rfl λw s=>?_);exact fin lQ rfl rfl (rf (by decide)) rfl rfl s
  ·rw[if_neg h9,if_pos hb]at lQ;refine ah (sT s 2 rfl λw s=>?_);exact fin lQ rfl rfl (rf hb) rfl rfl s
  ·rw[if_neg h9,if_neg (λe=>e hz)]at lQ;refine ah (sT s 2 rfl λw s=>?_);exact fin lQ er ey e0 rfl rfl s
 rw[cy k3,cond_false];rw[if_neg k3]at lQ;obtain⟨ok,⟨m',ho',hx⟩,so⟩:=vB s Dq;rw[ho]at ho';cases ho';have same:∀{w:World} {L:List As},Sep No W w (fV r.cr x::FH r.p (ae y.most) r.bQ.p (.pointer (sZ r.cr.p))::g8 r.bQ y.bQ::L)->Sep No W w (fP r y::L):=λs=>by
  have s:=Ig ok hx Dq ho ⟨rfl,rfl,rfl⟩ rfl s;have e:(⟨y.most,y.bQ,some x⟩:zJ)=y:=by rw[<-Dq]
  rw[e]at s;exact s
 by_cases k4:o.k=4
 ·rw[dN k4,cond_true];rw[if_pos k4]at lQ;have so:=ay so;refine ah (lP so 0 rfl (lI so 3 rfl (lI so 3 rfl ?_)));rw[<-hx.1,<-hx.2.1]at lQ;refine S9 ars (pk 3 [2,0,1] so) (λhg w s=>?_) (λu hu hg w s=>?_) (λu hu hg hcg cr ws w ec s=>?_) λu hu hg hcg cr ws w ec s=>?_
  ·rw[hg]at lQ;exact KN (by decide) (fin lQ rfl rfl (rf (by decide)) rfl rfl (same s))
  ·rw[hu]at lQ;simp only at lQ;rw[if_pos hg]at lQ;exact KN (by decide) (fin lQ rfl rfl (rf (by decide)) rfl rfl (same s))
  ·rw[hu]at lQ;simp only at lQ;rw[if_neg (λe=>e hg),if_pos hcg]at lQ;exact KN (by decide) (fin (r':=⟨r.p,r.bQ,cr⟩) lQ rfl rfl (rf (by decide)) rfl rfl (Ig (x':=⟨x.w,x.h,kV x.y o.A,ws⟩) ok hx Dq ho ⟨rfl,rfl,rfl⟩ ec s))
  ·rw[hu]at lQ;simp only at lQ;rw[if_neg (λe=>e hg),if_neg hcg]at lQ;exact KM (fin (r':=⟨r.p,r.bQ,cr⟩) lQ rfl rfl e0 rfl rfl (Ig (x':=⟨x.w,x.h,vV x.y o.A λu=>⟨u.id,u.cell,o.B⟩,ws⟩) ok hx Dq ho ⟨rfl,rfl,rfl⟩ ec s))
 rw[cy k4,cond_false];rw[if_neg k4]at lQ;by_cases k5:o.k=5
 ·rw[dN k5,cond_true];rw[if_pos k5]at lQ;have so:=ay so;refine ah (lP so 0 rfl (lI so 3 rfl ?_));refine UN ars (pk 3 [2,0,1] so) (λhg w s=>?_) λu hu cr ws w ec s=>?_
  ·rw[hg]at lQ;exact KN (by decide) (fin lQ rfl rfl (rf (by decide)) rfl rfl (same s))
  ·rw[hu]at lQ;exact KM (fin (r':=⟨r.p,r.bQ,cr⟩) lQ rfl rfl e0 rfl rfl (Ig (x':=⟨x.w,x.h,kV x.y o.A,ws⟩) ok hx Dq ho ⟨rfl,rfl,rfl⟩ ec s))
 rw[cy k5,cond_false];rw[if_neg k5]at lQ;by_cases k6:o.k=6
 ·rw[dN k6,cond_true];rw[if_pos k6]at lQ;refine lI s 1 rfl (lI s 1 rfl ?_);have s:=pk 3 [0,2,1] s;refine akg hL Dq ho ars.wf s (λhn w s=>?_) λht hcB r' y' w er ey s=>?_
  ·rw[if_neg hn]at lQ;exact fin lQ rfl rfl (rf (by decide)) rfl rfl (pk 3 [0,2,1] s)
  ·rw[if_pos ⟨ht,hcB⟩]at lQ;exact fin lQ er ey e0 rfl rfl (pk 3 [0,2,1] s)
 rw[cy k6,cond_false];rw[if_neg k6]at lQ;have k7:o.k=7:=by omega
 rw[dN k7,cond_true];have s:=pk 3 [0,2,1] s;refine amJ hL Dq ho s λr' y' ma mn mc ga gn gc w er ey s=>?_;rw[lQ]at h;exact b25 e0 (h r' y' _ ma mn mc ga gn gc w er ey e0 (pk 5 [0,1,2,3] s))
end
def aB2:zc T 34=[ae 0,ae 0,ae 0,ae 0,.slice none 0 0,.slice none 0 0,.int .u64 0,.int .u64 0,.int .u64 0,.int .u64 0,.int .u64 0,.int .u64 0]:=rfl
structure Mp (o:kX):Prop where
 jA:dZ o.m
 len:o.m.length<=1100000
 load:o.k=1->Eg o.m/\∀mp,kW o.m=some mp->mp.w*mp.h<=1600
structure amL (q:gI):Prop where
 ep:zW q.bQ<1000000000
 nx:∀u,q.us=some u->u.next<1000000000
section
variable {W w w0:World}{L:List As}{lg:xH}{r:Eh}{y:zJ}{x:Hq}{m:j_}{ab:Nat}{o:kX}{a:Option Addr}{n c:Nat}
def ajx {Q:Value->World->Prop}(hL:iG W lg)(ho:Mp o)(hM:∀w',Sep No W w' L->Sl w' a n c 1 bp o.m)(v9:amL y.p)(s:Sep No W w (fP r y::av ab 34 (Mo 0 5 (-1) none 0 0 none 0 0)::L))(h:DoK lg W r.p ab L Q (iH y.p o)):
  z0 (sZ r.p) o.k o.A o.B a n c (sZ ab) w Q:=by
 apply SA;have hMw:=hM w (ai (ai s));have hn:n<=1100000:=by have:=hMw.len;have:=ho.len;omega
 refine aO s λob w s=>?_;apply lI s 0 rfl;have e5:G0 lg (sY lg.a0) 5:=.inr (.inr ⟨rfl,rfl⟩);have v0:∀{w:World} {L:List As},Sep No W w L->w.cell? (aZ 0)=some (sY lg.a0):=λs=>Fr.cell (au s) hL.v0 id;have amM:∀{w:World} {A B C:As} {L:List As},Sep No W w (A::B::C::L)->Sep No W w (B::C::L):=λs=>ai s;by_cases k0:o.k=0
 ·rw[dN k0,cond_true];have e:iH y.p o=(y.p,pT 5):=by unfold iH;grind
  rw[e]at h;exact mJ (v0 s) rfl (acN e5 (W0 h rfl rfl e5 rfl rfl (amM s)))
 rw[cy k0,cond_false];refine lI s 0 rfl (lI s 0 rfl (lI s 0 rfl (lS s 0 rfl ?_)));refine O.aib s (hM w (ai (ai (ai s)))) ho.jA (by omega) λw s _=>?_;cases hm:Dv o with
 |false=>
  have e:iH y.p o=(y.p,pT 5):=by unfold iH;grind
  rw[e]at h;exact mJ (v0 s) rfl (acN e5 (W0 h rfl rfl e5 rfl rfl (amM s)))
 |true=>
  rw[Bool.not_true,cond_false];have b5:(o.k≠1->o.k≠8->y.cr≠none)->oK Q (sZ r.p) (sZ ab) (aZ ob) w:=λvw=>
   awF hL k0 hm ho.jA (by omega) hM ho.load v9.ep v9.nx vw s h
  cases Dq:y.cr with
  |none=>
   obtain⟨ok,hno,so⟩:=ajs (ai s) Dq;refine ah (lP so 0 rfl ?_);show cond true _ _;apply lI s 0 rfl;by_cases k1:o.k=1
   ·grind
   ·rw[Gk k1,cond_true];apply lI s 0 rfl;by_cases k8:o.k=8
    ·grind
    ·rw[Gk k8,cond_true];have e:iH y.p o=(y.p,pT 4):=by
      have e1:y.p.us=none:=by show y.cr.map _=none;rw[Dq];rfl
      unfold iH;grind
     rw[e]at h;exact W0 h rfl rfl (rf (by decide)) rfl rfl (amM s)
  |some x=>
   obtain⟨ok,_,so⟩:=vB (ai s) Dq;refine ah (lP so 0 rfl ?_);show cond false _ _;exact b5 λ_ _ e=>by rw[Dq]at e;cases e
def acO {Q:Int->Int->Int->Int->Int->Int->World->Prop}(s:Sep No W w (fP r y::L))(h:∀w',Sep No W w' (fP r y::L)->Q (qA y.p.bQ).a (qA y.p.bQ).b (qA y.p.bQ).c (qA y.p.bQ).d (qA y.p.bQ).e (qA y.p.bQ).f w'):wg (sZ r.p) w Q:=by apply MA;refine aS s λp w s=>?_;obtain⟨ok,so⟩:=Ie (ai s);apply Fo;refine kY (ah (lP so 0 rfl ?_));obtain⟨_,so⟩:=Ie (iZ s);have so:=iZ so;refine acv so λw s=>?_;have s:=iZ s;have s:Sep No W w (fP r y::av p 32 _::L):=dz s ok;rw[y.bQ.all_eq];exact aiV (iZ s) λw s=>h w (ai s)
def TQ {Q:Int->Int->Option Addr->Nat->Nat->World->Prop}(ho:y.bQ.o=some m)(s:Sep No W w (fP r y::L))(h:∀ra rn rc w',Sep No W w' (ak ra rn rc 5 1 (flat bp m.g.m.cs)::fP r y::L)->Fr No w w'->Q m.g.m.w m.g.m.h ra rn rc w'):oh (sZ r.p) w Q:=by apply QK;refine aS (bh (F:=No)) λp w1 s1=>?_;obtain⟨ok,so⟩:=Ie s;have kn:=(q9 (ai so) ho);have c1:=Fr.cell (au s1) (cM so (a:=(aZ r.p).add 1) (i:=0) rfl rfl rfl) id;apply Fo;refine kY (ah (dJ c1 ?_));have kn1:aas w1 r.bQ y.bQ m:=⟨kn.ok,kn.o,kn.cell.fr (au s1),kn.g.fr (au s1)⟩;refine agM s1 kn1 λra rn rc w1 s1 _=>?_;refine aaH (iZ s1) λw1 s1=>?_;exact h ra rn rc w1 (fu s s1) (au s1)
def acP {Q:Option Addr->Nat->Nat->World->Prop}(vw:y.cr=some x)(s:Sep No W w (fP r y::L))(h:∀a n c w',Sep No W w' (ak a n c 43 3 (flat iy x.y.us)::fP r y::L)->Q a n c w'):we (sZ r.p) w Q:=by
 apply MZ;obtain⟨ok,⟨m,ho,hx⟩,so⟩:=vB s vw;apply QF;refine kY (ah (lP so 0 rfl ?_));refine DR (pk 3 [2,0,1] so) λa n c w s=>?_;have s:=zX (pk 4 [2,3,1,0] s) ok.most ho hx;have e:(⟨y.most,y.bQ,some x⟩:zJ)=y:=by rw[<-vw]
 rw[e]at s;exact h a n c w (iZ s)
end
abbrev W2 (code d dir id:Int)(ma:Option Addr)(mn mc:Nat)(ga:Option Addr)(gn gc:Nat)(q:FE):List Value:=[ae code,ae d,ae dir,ae id,.slice ma mn mc,.slice ga gn gc]++aes q
section
variable {W w w0:World}{L:List As}{lg:xH}{r:Eh}{y:zJ}{x:Hq}{m:j_}{ab pb:Nat}{o:kX}{a:Option Addr}{n c:Nat}
def awH {Q:Int->Int->Int->Int->Option Addr->Nat->Nat->Option Addr->Nat->Nat->Int->Int->Int->Int->Int->Int->World->Prop}{code d dir id:Int}{ma ga:Option Addr}{mn mc gn gc:Nat}
  (s:Sep No W w (fP r y::av ab 34 (W2 code d dir id ma mn mc ga gn gc ⟨0,0,0,0,0,0⟩)::av pb 34 (W2 0 0 0 0 none 0 0 none 0 0 ⟨0,0,0,0,0,0⟩)::L))
  (h:∀w',Sep No W w' (fP r y::L)->Q code d dir id ma mn mc ga gn gc (qA y.p.bQ).a (qA y.p.bQ).b (qA y.p.bQ).c (qA y.p.bQ).d (qA y.p.bQ).e (qA y.p.bQ).f w'):
  oL Q (sZ r.p) (aZ pb) (aZ ab) w:=by
 refine acO s λw s=>?_;generalize qA y.p.bQ=q at h⊢
 iterate 6 refine sT s 1 rfl λw s=>?_
 simp[List.set_cons_zero,List.set_cons_succ,W2,aes,List.cons_append,List.nil_append]at s;refine lI s 1 rfl (lI s 1 rfl (lI s 1 rfl (lI s 1 rfl (lS s 1 rfl (lS s 1 rfl ?_)))));refine lI s 1 rfl (lI s 1 rfl (lI s 1 rfl (lI s 1 rfl (lI s 1 rfl (lI s 1 rfl ?_)))))
 iterate 12 refine ax s (i:=2) rfl rfl rfl λw s=>?_
 simp[List.set_cons_zero,List.set_cons_succ]at s;refine lI s 2 rfl (lI s 2 rfl (lI s 2 rfl (lI s 2 rfl (lS s 2 rfl (lS s 2 rfl ?_)))));refine lI s 2 rfl (lI s 2 rfl (lI s 2 rfl (lI s 2 rfl (lI s 2 rfl (lI s 2 rfl ?_)))));exact h w (gC s (.cons_cons _ (.cons _ (.cons _ (List.Sublist.refl _)))))
def W3 {Q:Int->Int->Int->Int->Option Addr->Nat->Nat->Option Addr->Nat->Nat->Int->Int->Int->Int->Int->Int->World->Prop}(hL:iG W lg)(ho:Mp o)(hM:∀w',Sep No W w' L->Sl w' a n c 1 bp o.m)(v9:amL y.p)(s:Sep No W w (fP r y::L))
  (h:∀r' y' ma mn mc ga gn gc w',r'.p=r.p->y'.p=(iH y.p o).1->Sep No W w' (ak ma mn mc 51 2 (flat lO (iH y.p o).2.GY)::ak ga gn gc 3 1 (flat one (iH y.p o).2.gone)::fP r' y'::L)->
   Q (iH y.p o).2.code (iH y.p o).2.d (iH y.p o).2.dir (iH y.p o).2.id ma mn mc ga gn gc (qA y'.p.bQ).a (qA y'.p.bQ).b (qA y'.p.bQ).c (qA y'.p.bQ).d (qA y'.p.bQ).e (qA y'.p.bQ).f w'):
  ij (sZ r.p) o.k o.A o.B a n c w Q:=by
 apply SB;refine aO s λob w s=>?_;refine aS s λpb w s=>?_;refine aS s λab w s=>?_
 iterate 12 refine ax s (i:=0) rfl rfl rfl λw s=>?_
 apply kY;refine ax s (i:=0) rfl rfl rfl λw s=>?_;simp[List.set_cons_zero,List.set_cons_succ]at s;refine lI s 2 rfl (lI s 2 rfl (lI s 2 rfl (lS s 2 rfl ?_)));have s:=pk 4 [3,0,1,2] s;refine ajx hL ho (λw' s'=>hM w' (ai (ai s'))) v9 s λr' y' e ma mn mc ga gn gc w er ey he s=>?_;rw[<-er];have asw:∀{w:World} {cd:Int},cd=(iH y.p o).2.code->Sep No W w (ak ma mn mc 51 2 (flat lO (iH y.p o).2.GY)::ak ga gn gc 3 1 (flat one (iH y.p o).2.gone)::fP r' y'::av ab 34 (W2 cd (iH y.p o).2.d (iH y.p o).2.dir (iH y.p o).2.id ma mn mc ga gn gc ⟨0,0,0,0,0,0⟩)::av pb 34 (W2 0 0 0 0 none 0 0 none 0 0 ⟨0,0,0,0,0,0⟩)::L)->
   oL Q (sZ r'.p) (aZ pb) (aZ ab) w:=λ{w cd} ec s=>by
  subst ec;have s:=pk 5 [2,3,4,0,1] s;refine awH s λw s=>?_;exact h r' y' ma mn mc ga gn gc w er ey (pk 3 [1,2,0] s)
 have tell:∀{e:Value},G0 lg e (iH y.p o).2.code->(iH y.p o).2.code≠0->∀{w:World},Sep No W w (ak ma mn mc 51 2 (flat lO (iH y.p o).2.GY)::ak ga gn gc 3 1 (flat one (iH y.p o).2.gone)::fP r' y'::av ab 34 (Mo (iH y.p o).2.d (iH y.p o).2.dir (iH y.p o).2.id ma mn mc ga gn gc)::av pb 34 (W2 0 0 0 0 none 0 0 none 0 0 ⟨0,0,0,0,0,0⟩)::av ob 38 [ae o.k,ae o.A,ae o.B,.slice a n c]::L)->
   af .i64 (aZ ob) w λk=>dV e λp=>Bx [ae k,p] 80 w λb w=>CJ (.iface 78 (.pointer (some b))) w λr w=>St (aZ ab) (ae r) w λw=>oL Q (sZ r'.p) (aZ pb) (aZ ab) w:=λ{e} he hne {w} s=>by
  refine lI s 5 rfl (acN he ?_);refine aO s λb w s=>?_;refine amG hL he hne s λw s=>?_;refine ax s (i:=4) rfl rfl rfl λw s=>?_;exact asw rfl (pk 7 [1,2,3,4,5] s)
 rcases he with⟨h0,rfl⟩|⟨hne,rfl⟩|⟨h5,rfl⟩
 ·apply Mj;exact asw h0.symm (pk 6 [0,1,2,3,4] s)
 ·exact Ro (tell (.inr (.inl ⟨hne,rfl⟩)) hne s)
 ·exact Ro (tell (.inr (.inr ⟨h5,rfl⟩)) (by rw[h5];decide) s)
end
end Go.Proofs.YtmegplnmiepfbaaGreatDoor.S
namespace Go.Proofs.YtmegplnmiepfbaaGreatDoor.S.O
open Go.Sx
def Rp {w:World}{x:Int}{Q:Int->World->Prop}(hx:0<=x/\x<256)(h:Q (Kb x) w):qp x w Q:=by
 apply M3;unfold Kb at h;refine⟨by decide,?_⟩;rw[Int.tmod_eq_emod_of_nonneg hx.1];by_cases h7:x%8=7
 ·grind
 ·rw[show(x%8==7)=false by grind,cond_false];rw[if_neg h7]at h;by_cases h1:x<160
  ·rw[bM h1];rw[if_pos h1]at h;refine⟨by decide,?_⟩;rw[Int.tmod_eq_emod_of_nonneg hx.1,wrap_u8 (by omega) (by omega)];exact h
  grind
def ag2:zc T 25=[ae 0,ae 0,.slice none 0 0]:=rfl
def acQ:zc T 84=[ae 0,ae 0,.slice none 0 0]:=rfl
def amN:zc T 38=[ae 0,ae 0,ae 0,.slice none 0 0]:=rfl
def ag3:zc T 90=[ae 0,ae 0,ae 0]:=rfl
attribute [local irreducible] af cE bw bg aA cu bY St Bx Al App cJ cB cz bW aL bD aq bT av ak aW mapA
def ak_ (a b:Int):Ds a b=min a b:=by unfold Ds;omega
section
variable {F:Nat->Prop}{W w w0:World}{L:List As}{a:Option Addr}{n c:Nat}{cs:List Int}
def amO {mw mh:Int}{Q:Bool->World->Prop}(hw:1<=mw/\mw<=1024)(hh:1<=mh/\mh<=1024)(h:Q true w):rm mw mh w Q:=by apply D7;apply zy;rw[bM hw];apply zy;grind
def Ih {mw mh:Int}{Q:Int->Int->World->Prop}(hw:1<=mw/\mw<=1024)(hh:1<=mh/\mh<=1024)(h:Q (cQ mw) (cQ mh) w):kN mw mh w Q:=by apply JJ;apply amO hw hh;refine⟨by decide,by decide,?_⟩;simp(disch:=omega) only[wrap_i64,Int.tdiv_eq_ediv_of_nonneg];rw[show mw+16-1=mw+15 by omega,show mh+16-1=mh+15 by omega];exact h
def Mq {mw mh:Int}{Q:Int->World->Prop}(hw:1<=mw/\mw<=1024)(hh:1<=mh/\mh<=1024)(h:Q (eI mw mh) w):pe mw mh w Q:=by apply Ly;apply Ih hw hh;have:=gM hw hh;unfold eI at this h;rw[aG];exact h
def YS {mw mh s:Int}{Q:Int->Int->World->Prop}(hw:1<=mw/\mw<=1024)(hh:1<=mh/\mh<=1024)(hs:0<=s/\s<eI mw mh)(h:∀w',Fr No w w'->Q (aD mw mh s) (bz mw mh s) w'):qq mw mh s w Q:=by apply MW;have hc:=gM hw hh;have hx:=IP hw hh hs;have ha:=Fa hw;apply Mq hw hh;rw[aG];apply zy;rw[decide_eq_true (by omega),Bool.not_true,cond_false];apply Ih hw hh;refine⟨by omega,by omega,?_⟩;have:=h w.drew (Fr.refl);rw[Int.tmod_eq_emod_of_nonneg hs.1,Int.tdiv_eq_ediv_of_nonneg hs.1];simp(disch:=omega) only[wrap_i64];rw[ak_,ak_];exact this
def agN {mw mh s l:Int}{Q:Int->World->Prop}(hw:1<=mw/\mw<=1024)(hh:1<=mh/\mh<=1024)(hs:0<=s/\s<eI mw mh)(hl:0<=l/\l<aD mw mh s*bz mw mh s)(h:∀w',Fr No w w'->Q (bX mw mh s l) w'):
  tT mw mh s l w Q:=by
 apply Km;have hx:=IP hw hh hs;have ha:=Fa hw;have hz:=qP hw hh hs;have b:=Int.mul_le_mul hz.1.2 hz.2.2 (by omega) (by decide);refine YS hw hh hs λw f=>?_;rw[aG (n:=aD mw mh s*bz mw mh s),aG];apply zy;rw[decide_eq_true (by omega),Bool.not_true,cond_false];apply Ih hw hh;refine⟨by omega,by omega,by omega,by omega,?_⟩;have:=h w.drew f;have e1:0<=l/aD mw mh s/\l/aD mw mh s<bz mw mh s:=⟨Int.ediv_nonneg hl.1 (by omega),Int.ediv_lt_of_lt_mul (by omega) (by grind)⟩;have e2:=Int.emod_nonneg l (b:=aD mw mh s) (by omega);have e3:=Int.emod_lt_of_pos l (b:=aD mw mh s) (by omega);rw[Int.tmod_eq_emod_of_nonneg hs.1,Int.tdiv_eq_ediv_of_nonneg hs.1,Int.tmod_eq_emod_of_nonneg hl.1,Int.tdiv_eq_ediv_of_nonneg hl.1];have y0:0<=16*(s/cQ mw)+l/aD mw mh s/\16*(s/cQ mw)+l/aD mw mh s<=1040:=by omega
 have m1:0<=(16*(s/cQ mw)+l/aD mw mh s)*mw:=Int.mul_nonneg y0.1 (by omega);have m2:=Int.mul_le_mul y0.2 hw.2 (by omega) (by decide);simp(disch:=omega) only[wrap_i64];exact this
def amP {mw mh:Int}{t6 t:Nat}{Q:Int->Int->Option Addr->Nat->Nat->World->Prop}(hA:Sl w0 a n c 1 bp cs)(hcs:dZ cs)(hn:n<9223372036854775808)(hw:1<=mw/\mw<=40)(hh:1<=mh/\mh<=40)
  (h:∀ra rn rc w',Sep No w0 w' [ak ra rn rc 5 1 (flat bp (Nk (mw*mh).toNat cs))]->Q mw mh ra rn rc w'):
  ∀(m i rc:Nat) (ra:Option Addr) (w:World),((i+m:Nat):Int)=mw*mh->
   Sep No w0 w [av t 25 [ae mw,ae mh,.slice ra i rc],ak ra i rc 5 1 (flat bp (Nk i cs)),av t6 25 [ae 0,ae 0,.slice none 0 0]]->jS Q (m+1) a n c (aZ t6) (aZ t) i w:=by
 have q2:=Int.mul_le_mul hw.2 hh.2 (by omega) (by decide);have hlen:=hA.len;intro m;induction m with
 |zero=>
  intro i rc ra w hi s;show zx Q (jS Q 0) _ _ _ _ _ _ _;apply dw s (i:=0) rfl rfl rfl;apply dw s (i:=0) rfl rfl rfl;rw[aG,bq];apply dw s (i:=0) rfl rfl rfl;apply dw s (i:=0) rfl rfl rfl;apply gT s (i:=0) rfl rfl rfl;refine sT s 2 rfl λw1 s=>?_;refine sT s 2 rfl λw2 s=>?_;refine ax s (i:=2) rfl rfl rfl λw3 s=>?_;apply dw s (i:=2) rfl rfl rfl;apply dw s (i:=2) rfl rfl rfl;apply gT s (i:=2) rfl rfl rfl;have e:i=(mw*mh).toNat:=by omega
  rw[e]at s⊢;exact h _ _ _ w3 (gC s (.cons _ (.cons_cons _ (.cons _ .slnil))))
 |succ m ih=>
  intro i rc ra w hi s;show zx Q (jS Q (m+1)) _ _ _ _ _ _ _;apply dw s (i:=0) rfl rfl rfl;apply dw s (i:=0) rfl rfl rfl;rw[aG,bM];have b9:∀x:Int,0<=x/\x<256->Kb x=FV cs i->sF (jS Q (m+1)) Q a n c (aZ t6) (aZ t) i x w:=by
   intro x hx hm;have s0:Sep No w0 w.drew _:=s;apply gT s0 (i:=0) rfl rfl rfl;apply Rp hx;rw[hm];refine⟨cM s0 (i:=0) rfl rfl rfl,?_⟩;refine aO s0 λb w1 s1=>?_;refine⟨cM s1 (i:=1) rfl rfl rfl,?_⟩;have src:Src w1 (sZ b) 1 1 [.int .u8 (FV cs i)]:=⟨rfl,(λu hu=>by rw[List.mem_singleton.1 hu];rfl),λj u hj=>by rw[cq,Nat.zero_add];exact cM s1 (i:=0) rfl rfl hj⟩;refine ig ee s1 (i:=2) (bytes:=1) rfl rfl rfl rfl rfl rfl (by decide) rfl src (by simp[maxLen];omega) (by omega) (λe=>by cases e) λa1 c1 w2 s2=>?_;have e:flat bp (Nk i cs)++[.int .u8 (FV cs i)]=flat bp (Nk (i+1) cs):=by unfold Nk;rw[List.range_succ,List.map_append,fX];rfl
   have s2:=ai s2;refine ax s2 (i:=0) rfl rfl rfl λw3 s3=>?_;rw[aG];grind
  by_cases O_:0<n
  ·rw[bM];refine⟨by omega,by omega,?_⟩;have d1:0<=(i:Int)/(n:Int):=Int.ediv_nonneg (by omega) (by omega);have d2:(i:Int)/(n:Int)<=i:=Int.ediv_le_self _ (by omega);rw[Int.tdiv_eq_ediv_of_nonneg (by omega),aG (n:=(i:Int)/(n:Int)),aG (n:=(i:Int)/(n:Int)*5),aG,Int.tmod_eq_emod_of_nonneg (by omega)];have ej:((i:Int)+(i:Int)/(n:Int)*5)%(n:Int)=(((i+i/n*5)%n:Nat):Int):=by grind
   rw[ej];have hj:(i+i/n*5)%n<n:=Nat.mod_lt _ O_;apply Sl.yK (hA.fr (au s)) rfl hj;apply b9 _ (hcs _ (ff (by omega)));unfold FV;grind
  ·rw[bq];apply b9 1 (by decide);unfold FV;grind
def YT {w1 h1:Int}{Q:Int->Int->Option Addr->Nat->Nat->World->Prop}(s:Sep F W w0 L)(hA:Sl w0 a n c 1 bp cs)(hcs:dZ cs)(hn:n<9223372036854775808)
  (h:∀ra rn rc w',Sep F W w' (ak ra rn rc 5 1 (flat bp (vC w1 h1 cs).cs)::L)->Fr No w0 w'->Q (vC w1 h1 cs).w (vC w1 h1 cs).h ra rn rc w'):qo w1 h1 a n c w0 Q:=by
 apply M4;refine aS (F:=No) bh λt6 w1' s1=>?_;apply b_ (by decide) (by decide) (by decide);have r1:=ke (n:=w1) (lo:=1) (hi:=40) (by decide);apply b_ (by decide) (by decide) (by decide);have r2:=ke (n:=h1) (lo:=1) (hi:=40) (by decide);refine aS s1 λt w2 s2=>?_;refine sT s2 0 rfl λw3 s=>?_;refine sT s 0 rfl λw4 s=>?_;refine ax s (i:=0) rfl rfl rfl λw5 s5=>?_;have s6:=ck (bE s5 5 1) (List.Perm.swap ..);have q1:=Int.mul_le_mul r1.1 r2.1 (by decide) (by omega);refine⟨(gd w1 1 40*gd h1 1 40).toNat+1,amP hA hcs hn r1 r2 (λra rn rc w' s'=>?_) _ 0 0 none w5 (by omega) s6⟩;exact h ra rn rc w' (dA ‹Sep F W w0 L› s' (i:=0) rfl) (au s')
def agO {m:bJ}{si:Nat}{Q:Int->Int->Option Addr->Nat->Nat->World->Prop}(s0:Sep F W w0 L)(hA:Sl w0 a n c 1 bp m.cs)(hm:cI m)(hs:(si:Int)<eI m.w m.h)
  (h:∀ra rn rc w',Sep F W w' (ak ra rn rc 5 1 (flat bp (qk m si))::L)->Fr No w0 w'->Q (aD m.w m.h si) (bz m.w m.h si) ra rn rc w'):tP m.w m.h a n c si w0 Q:=by
 apply Kn;have TA:0<=(si:Int)/\(si:Int)<eI m.w m.h:=⟨by omega,hs⟩;have hz:=qP hm.w hm.h TA;have b1:=Int.mul_le_mul hz.1.1 hz.2.1 (by decide) (by omega);have b2:=Int.mul_le_mul hz.1.2 hz.2.2 (by omega) (by decide);have hlen:=hA.len;have hml:=hm.len;have s:=bh (F:=No) (w:=w0);refine aO s λmb w s=>?_;refine aS s λp4 w s=>?_;apply lI s 1 rfl;apply lI s 1 rfl;refine YS hm.w hm.h TA λw f=>?_;have s:=bS s f;refine aS s λt w s=>?_;refine sT s 0 rfl λw s=>?_;refine sT s 0 rfl λw s=>?_;refine ax s (i:=0) rfl rfl rfl λw s=>?_;have loop:∀(k i rc:Nat) (ra:Option Addr) (w:World),((i+k:Nat):Int)=aD m.w m.h si*bz m.w m.h si->
   Sep No w0 w [ak ra i rc 5 1 (flat bp ((List.range i).map λl:Nat=>gi m.cs (bX m.w m.h si l).toNat)),av t 84 [ae (aD m.w m.h si),ae (bz m.w m.h si),.slice ra i rc],av p4 84 [ae 0,ae 0,.slice none 0 0],av mb 25 [ae m.w,ae m.h,.slice a n c]]->
   kA Q (k+1) si (aZ mb) (aZ p4) (aD m.w m.h si) (bz m.w m.h si) (aZ t) i w:=by
  intro k;induction k with
  |zero=>
   intro i rc ra w hi s;show m9 Q (kA Q 0) _ _ _ _ _ _ _ _;rw[m9,aG,bq];apply lI s 1 rfl;apply lI s 1 rfl;apply lS s 1 rfl
   (refine ax s (i:=2) rfl rfl rfl λw s=>?_)
   (refine ax s (i:=2) rfl rfl rfl λw s=>?_)
   (refine ax s (i:=2) rfl rfl rfl λw s=>?_)
   apply lI s 2 rfl;apply lI s 2 rfl;apply lS s 2 rfl;have e:i=(aD m.w m.h si*bz m.w m.h si).toNat:=by omega
   have e2:((List.range i).map λl:Nat=>gi m.cs (bX m.w m.h si l).toNat)=qk m si:=by unfold qk;rw[e]
   rw[e2]at s;exact h _ _ _ _ (dA s0 s (i:=0) rfl) (au s)
  |succ k ih=>
   intro i rc ra w hi s;show m9 Q (kA Q (k+1)) _ _ _ _ _ _ _ _;rw[m9,aG,bM];have s:=ay s;have hl:0<=(i:Int)/\(i:Int)<aD m.w m.h si*bz m.w m.h si:=by omega
   have hg:=FW hm.w hm.h TA hl;apply lS s 1 rfl;apply lS s 3 rfl;apply lI s 3 rfl;apply lI s 3 rfl;refine agN hm.w hm.h TA hl λw f=>?_;have s:=bS s f;apply And.intro (cg s 3 rfl);apply And.intro (cg s 1 rfl);obtain⟨g,hgk⟩:∃g:Nat,bX m.w m.h si i=g:=⟨(bX m.w m.h si i).toNat,by omega⟩;have heq:gi m.cs g=gi m.cs (bX m.w m.h si i).toNat:=by rw[hgk,Int.toNat_natCast]
   rw[hgk];apply Sl.yK (hA.fr (au s)) rfl (by omega);refine aO s λb w1 s1=>?_;refine⟨cg s1 2 rfl,?_⟩;have src:Src w1 (sZ b) 1 1 [.int .u8 (gi m.cs g)]:=⟨rfl,(λu hu=>by rw[List.mem_singleton.1 hu];rfl),λj u hj=>by rw[cq,Nat.zero_add];exact cM s1 (i:=0) rfl rfl hj⟩;refine ig ee s1 (i:=1) (bytes:=1) rfl rfl rfl rfl rfl rfl (by decide) rfl src (by simp[maxLen];omega) (by omega) (λe=>by cases e) λa1 c1 w2 s2=>?_;have e:flat bp ((List.range i).map λl:Nat=>gi m.cs (bX m.w m.h si l).toNat)++[.int .u8 (gi m.cs g)]=flat bp ((List.range (i+1)).map λl:Nat=>gi m.cs (bX m.w m.h si l).toNat):=by rw[heq,List.range_succ,List.map_append,fX];rfl
   rw[e]at s2;refine ax (ai s2) (i:=1) rfl rfl rfl λw3 s3=>?_;rw[aG];exact ih (i+1) c1 a1 w3 (by omega) s3
 exact⟨(aD m.w m.h si*bz m.w m.h si).toNat+1,loop _ 0 0 none w (by omega) (bE s 5 1)⟩
def akh {Q:Option Addr->Nat->Nat->World->Prop}(s0:Sep F W w0 L)(hA:Sl w0 a n c 1 bp cs)(hcs:dZ cs)(hn:n<=100000)
  (h:∀ra rn rc w',Sep F W w' (ak ra rn rc 5 1 (flat bp (tM cs))::L)->Fr No w0 w'->Q ra rn rc w'):wq a n c w0 Q:=by
 apply MV;have hlen:=hA.len;refine aO (bh (F:=No)) λb w s=>?_;have s:=arW s;have inner:∀(P3:Option Addr->Nat->Nat->Option Addr->Nat->Nat->Int->World->Prop) (x:Int) (i:Nat) (oa:Option Addr) (on oc:Nat) (out:List Int),cs[i]? =some x->on<=1000000->
   (∀a' c' w',Sep No w0 w' [ak a' (on+2) c' 5 1 (flat bp (out++[((lead x (cs.drop (i+1)):Nat):Int)%256,x]))]->P3 a n c a' (on+2) c' ((i+1+lead x (cs.drop (i+1)):Nat):Int) w')->
   ∀(k r:Nat) (w:World),i+1+r+k=n->lead x (cs.drop (i+1))=r+lead x (cs.drop (i+1+r))->Sep No w0 w [ak oa on oc 5 1 (flat bp out)]->l7 P3 Q (k+1) a n c oa on oc i ((r+1:Nat):Int) w:=by
  intro P3 x i oa on oc out hx Cm next
  have hix:i<n:=by grind
  have hgx:gi cs i=x:=by rw[iz (by omega)]at hx;grind
  have over:∀(r:Nat) (w:World),i+1+r<=n->lead x (cs.drop (i+1))=r->Sep No w0 w [ak oa on oc 5 1 (flat bp out)]->sE P3 Q a n c oa on oc i ((r+1:Nat):Int) w:=by
   intro r w hr hl s;apply Sl.yK (hA.fr (au s)) rfl hix;rw[hgx,aG,aG,wrap_u8'];refine aO s λb w s=>?_;have e0:((r+1:Nat):Int)-1=(r:Int):=by omega
   rw[e0]at s;have src:Src w (sZ b) 2 1 [.int .u8 ((r:Int)%256),.int .u8 x]:=⟨rfl,(λu hu=>by simp[List.mem_cons,List.not_mem_nil,or_false]at hu;rcases hu with rfl|rfl<;>rfl),λj u hj=>by rw[cq,Nat.zero_add];exact cM s (i:=0) rfl rfl hj⟩;refine ig ee s (i:=1) (bytes:=1) rfl rfl rfl rfl rfl rfl (by decide) rfl src (by simp[maxLen];omega) (by omega) (λe=>by cases e) λa1 c1 w1 s1=>?_;have e:flat bp out++[.int .u8 ((r:Int)%256),.int .u8 x]=flat bp (out++[(r:Int)%256,x]):=by rw[fX];rfl
   rw[e]at s1;rw[hl]at next
   have:=next a1 c1 w1 (ai s1)
   grind
  intro k;induction k with
  |zero=>
   intro r w hr hl s;show oM P3 Q (l7 P3 Q 0) _ _ _ _ _ _ _ _ _;rw[oM,aG,bq];have e:cs.drop (i+1+r)=[]:=List.drop_eq_nil_of_le (by omega);rw[e]at hl
   first|exact over r w (by omega) hl s|exact over r _ (by omega) hl (ay s)
  |succ k ih=>
   intro r w hr hl s;show oM P3 Q (l7 P3 Q (k+1)) _ _ _ _ _ _ _ _ _;unfold oM;have ei:(i:Int)+((r+1:Nat):Int)=((i+1+r:Nat):Int):=by push_cast;omega
   rw[aG,bM,ei];have s:=ay s;have hB:=hA.fr (au s);apply Sl.yK hB rfl (by omega);apply Sl.yK hB rfl hix;have hd:cs.drop (i+1+r)=gi cs (i+1+r)::cs.drop (i+1+r+1):=by rw[List.drop_eq_getElem_cons (by omega)];congr 1;have:=iz (l:=cs) (i:=i+1+r) (by omega);rw[List.getElem?_eq_getElem (by omega)]at this;exact Option.some.inj this
   rw[hd,lead]at hl;rw[hgx];by_cases he:gi cs (i+1+r)=x
   ·rw[show(gi cs (i+1+r)==x)=true by rw[beq_iff_eq];exact he,cond_true,aG];rw[if_pos he]at hl;have:=ih (r+1) w.drew (by omega) (by rw[show i+1+(r+1)=i+1+r+1 by omega];omega) s;exact this
   ·rw[show(gi cs (i+1+r)==x)=false by rw[beq_eq_false_iff_ne];exact he,cond_false];rw[if_neg he]at hl;exact over r _ (by omega) hl s
 have outer:∀(k i:Nat) (oa:Option Addr) (on oc:Nat) (out:List Int) (w:World),n-i<=k->i<=n->on<=1+2*i->out++lD (n-i) (cs.drop i)=tM cs->Sep No w0 w [ak oa on oc 5 1 (flat bp out)]->oO Q (k+1) a n c oa on oc i w:=by
  have stop:∀R (oa:Option Addr) (on oc:Nat) (out:List Int) (w:World),out++lD (n-n) (cs.drop n)=tM cs->Sep No w0 w [ak oa on oc 5 1 (flat bp out)]->oN Q R a n c oa on oc n w:=by intro R oa on oc out w he s;rw[oN,bq];rw[List.drop_eq_nil_of_le (by omega),Nat.sub_self,lD,List.append_nil]at he;rw[he]at s;exact h _ _ _ _ (dA s0 s (i:=0) rfl) (au s)
  intro k;induction k with
  |zero=>
   intro i oa on oc out w hk hi Cm he s;obtain rfl:i=n:=by omega
   exact stop _ _ _ _ _ _ he s
  |succ k ih=>
   intro i oa on oc out w hk hi Cm he s;by_cases hin:i=n
   ·subst hin;exact stop _ _ _ _ _ _ he s
   ·show oN Q (oO Q (k+1)) _ _ _ _ _ _ _ _;rw[oN,bM];have hx:cs[i]? =some (gi cs i):=iz (by omega);have hd:cs.drop i=gi cs i::cs.drop (i+1):=by obtain⟨h1,h2⟩:=List.getElem?_eq_some_iff.1 hx;rw[List.drop_eq_getElem_cons h1,h2]
    have NM:=Pe (gi cs i) (cs.drop (i+1));rw[List.length_drop]at NM;refine⟨n-(i+1)+1,inner _ (gi cs i) i oa on oc out hx (by omega) (λa' c' w' s'=>?_) (n-(i+1)) 0 w (by omega) (by rw[Nat.zero_add]) s⟩;refine ih (i+1+lead (gi cs i) (cs.drop (i+1))) a' (on+2) c' _ w' (by omega) (by omega) (by omega) ?_ s';rw[<-he,hd,show n-i=(n-(i+1))+1 by omega,lD,List.append_assoc,List.drop_drop];congr 1;show _::_::_=_::_::_;congr 2;exact ahI _ _ _ (by rw[List.length_drop];omega) (by rw[List.length_drop];omega)
 exact⟨n+1,outer n 0 _ 1 1 [2] w (by omega) (by omega) (by omega) (by rw[List.drop_zero,Nat.sub_zero,<-hlen];rfl) s⟩
end
end Go.Proofs.YtmegplnmiepfbaaGreatDoor.S.O
namespace Go.Proofs.YtmegplnmiepfbaaGreatDoor.S.O
open Go.Sx
attribute [local irreducible] af cE bw bg aA cu bY St Bx Al App cJ cB cz bW aL bD aq bT av ak aW mapA
section
variable {F:Nat->Prop}{W w w0:World}{L:List As}{a:Option Addr}{n c:Nat}{cs:List Int}
def aeF {tw th:Int}{Q:Int->Option Addr->Nat->Nat->World->Prop}(s0:Sep F W w0 L)(hA:Sl w0 a n c 1 bp cs)(hcs:dZ cs)(hn:1<=n/\n<=100000)
  (h:∀ra rn rc w',Sep F W w' (ak ra rn rc 5 1 (flat bp (tN cs).2)::L)->Fr No w0 w'->Q (tN cs).1 ra rn rc w'):sR tw th a n c w0 Q:=by
 apply JK;have hlen:=hA.len;refine aO (bh (F:=No)) λtb w s=>?_;apply lS s 0 rfl;refine akh s (hA.fr (au s)) hcs hn.2 λra rn rc w s _=>?_;have hr:=aN s (i:=0) rfl cV (by decide);have hrl:=hr.len;unfold tN at h;by_cases h3:(tM cs).length=3
 ·rw[show((rn:Int)==3)=true by grind,cond_true];rw[if_pos h3]at h;have s:=ay s;apply lS s 1 rfl;obtain⟨ad,rfl,hv⟩:=hA.row.2 0 _ (iz (by omega));have hv:=hv 0 _ rfl;refine⟨by decide,by omega,ah ?_⟩;apply aR (Fr.cell (au s) hv id);have fin:∀(b:Nat) (w':World) (L':List As),Sep No w0 w' (av b 5 [.int .u8 0,.int .u8 (gi cs 0)]::L')->Q 0 (sZ b) 2 2 w':=λb w' L' s=>by have s:=gX (n:=2) (size:=1) s (i:=0) rfl rfl (by decide) (by simp;exact⟨rfl,rfl⟩);have s:=s;exact h _ _ _ _ (dA s0 s (i:=0) rfl) (au s)
  constructor
  ·refine aO s λb w s=>?_;exact⟨Fr.cell (au s) hv id,cg s 2 rfl,fin _ _ _ s⟩
  ·refine⟨Fr.cell (au s) hv id,cg s 1 rfl,?_⟩;refine aO s λb w s=>?_;grind
 ·rw[show((rn:Int)==3)=false by grind,cond_false];rw[if_neg h3]at h;apply lS s 1 rfl;rw[aG];by_cases h4:(tM cs).length<1+cs.length
  ·rw[bM];rw[if_pos h4]at h;exact h _ _ _ _ (dA s0 s (i:=0) rfl) (au s)
  ·rw[bq];rw[if_neg h4]at h;refine aO s λb w s=>?_;have s:=arW s;apply lS s 2 rfl;refine alE s (hA.fr (au s)) (by omega) λra rc w s=>?_;exact h _ _ _ _ (dA s0 s (i:=0) rfl) (au s)
def JS {m:bJ}{Q:Option Addr->Nat->Nat->World->Prop}(s0:Sep F W w0 L)(hA:Sl w0 a n c 1 bp m.cs)(hm:cI m)
  (h:∀ra rn rc w',Sep F W w' (ak ra rn rc 5 1 (flat bp (yL m))::L)->Fr No w0 w'->Q ra rn rc w'):lE m.w m.h a n c w0 Q:=by
 apply Ko;have hc:=gM hm.w hm.h;refine aO (bh (F:=No)) λmb w s=>?_;apply lI s 0 rfl;apply lI s 0 rfl;refine⟨by decide,?_⟩;apply lI s 0 rfl;apply lI s 0 rfl;refine⟨by decide,?_⟩;have e8:∀v:Int,o7 .i64 v 8=v/256:=λv=>by rw[o7,show min (8:Int).toNat (IntKind.i64).bits=8 by decide,Int.fdiv_eq_ediv_of_nonneg _ (by decide)];rfl
 rw[e8,e8,wrap_u8',wrap_u8',wrap_u8',wrap_u8'];refine aO s λhb w s=>?_;have s:=gX (n:=4) (size:=1) s (i:=0) rfl rfl (by decide) (by simp;exact⟨rfl,rfl,rfl,rfl⟩);have s:=s;have loop:∀(k i:Nat) (ba:Option Addr) (bn bc:Nat) (w:World),((i+k:Nat):Int)=eI m.w m.h->bn<=4+258*i->
   Sep No w0 w [ak ba bn bc 5 1 (flat bp ([m.w%256,m.w/256%256,m.h%256,m.h/256%256]++IQ m i)),av mb 25 [ae m.w,ae m.h,.slice a n c]]->kB Q (k+1) (aZ mb) ba bn bc i w:=by
  intro k;induction k with
  |zero=>
   intro i ba bn bc w hi FG s;show wH Q (kB Q 0) _ _ _ _ _ _;apply lI s 1 rfl;apply lI s 1 rfl;apply Mq hm.w hm.h;rw[bq];have e:i=(eI m.w m.h).toNat:=by omega
   rw[e]at s;exact h _ _ _ _ (dA s0 s (i:=0) rfl) (au s)
  |succ k ih=>
   intro i ba bn bc w hi FG s;show wH Q (kB Q (k+1)) _ _ _ _ _ _;have TA:0<=(i:Int)/\(i:Int)<eI m.w m.h:=by omega
   have htl:=U_ hm TA;have htr:=U9 hm TA;apply lI s 1 rfl;apply lI s 1 rfl;apply Mq hm.w hm.h;rw[bM];apply lI s 1 rfl;apply lI s 1 rfl;apply lS s 1 rfl;refine agO s (hA.fr (au s)) hm (by omega) λra rn rc w s _=>?_;have ht:=aN s (i:=0) rfl cV (by decide);have QN:=ht.len;refine aeF s ht (λx hx=>by grind) (by omega) λpa pn pc w s _=>?_;have hp:=aN s (i:=0) rfl cV (by decide);have hpn:=hp.len;have IG:=ahK (cs:=qk m i);have s:=cf (L':=[_,_,_,_]) [2,3,0,1] s rfl (by decide);refine alE s (aN s (i:=2) rfl cV (by decide)) (by omega) λra rc w s=>?_;rw[aG];have s:=cf (L':=[_,_]) [0,1] s rfl (by decide);rw[List.append_assoc,<-Yw]at s;grind
 exact⟨(eI m.w m.h).toNat+1,loop _ 0 _ 4 4 w (by omega) (by omega) s⟩
attribute [local irreducible] iR in
theorem amQ {x:xM}{nn:Int}{Q:Int->Int->Int->Option Addr->Nat->Nat->World->Prop}(s0:Sep F W w0 L)(hn:1<=nn/\nn<=2000000)
  (h:∀ra rn rc w',Sep F W w' (ak ra rn rc 5 1 (flat bp (K0 x nn).m)::L)->Fr No w0 w'->Q (K0 x nn).k (K0 x nn).A (K0 x nn).B ra rn rc w'):wj x.k x.a x.b nn w0 Q:=by
 apply M5;have h3:=ke (n:=x.a) (lo:=0) (hi:=1) (by decide);have h4:=ke (n:=x.a) (lo:=0) (hi:=5) (by decide);have hb2:∀(w:World) (ob xb pb:Nat) (L':List As) (is:List Nat) (L3:List As),is.Nodup->is.map (λi=>L'[i]?)=[some (av ob 38 [ae (gd x.b 1 6),ae (nn+gd x.a 0 5),ae (gd x.a 0 9),.slice none 0 0]),some (av pb 38 [ae 0,ae 0,ae 0,.slice none 0 0]),some (av xb 90 [ae x.k,ae x.a,ae x.b])]->
   Sep No w0 w L'->iR Q nn (aZ xb) (aZ pb) (aZ ob) w:=by
  intro w ob xb pb L' is L3 hnd hpk s;have s:=cf (L':=[_,_,_]) is s hpk hnd;unfold iR;unfold K0 at h;apply lI s 0 rfl;by_cases k1:gd x.b 1 6=1
  ·rw[show(gd x.b 1 6==1)=true by rw[beq_iff_eq];exact k1,cond_true];rw[if_pos k1]at h;rw[k1]at s;have s:=ay s;have fin:∀(w:World) (b2:Nat) (L2:List As) (is:List Nat),is.Nodup->is.map (λi=>L2[i]?)=[some (av b2 5 [.int .u8 2,.int .u8 0,.int .u8 1,.int .u8 0,.int .u8 1,.int .u8 (x.a%256),.int .u8 (x.b%256)])]->Sep No w0 w L2->Q 1 0 0 (sZ b2) 7 7 w:=by intro w b2 L2 is hnd hpk s;have s:=cf (L':=[_]) is s hpk hnd;have s:=gX (n:=7) (size:=1) s (i:=0) rfl rfl (by decide) (λu hu=>by simp[List.mem_cons,List.not_mem_nil,or_false]at hu;rcases hu with rfl|rfl|rfl|rfl|rfl|rfl|rfl<;>rfl);have s:=s;exact h _ _ _ _ (dA s0 s (i:=0) rfl) (au s)
   apply lI s 2 rfl;apply lI s 2 rfl;refine And.intro ?_ ?_;refine aO s λb w s=>?_
   (refine ax s (i:=1) rfl rfl rfl λw s=>?_)
   apply And.intro (cg s 3 rfl);apply And.intro (cg s 3 rfl)
   (refine ax s (i:=1) rfl rfl rfl λw s=>?_)
   apply And.intro (cg s 3 rfl);apply And.intro (cg s 3 rfl)
   (refine ax s (i:=1) rfl rfl rfl λw s=>?_)
   apply lI s 1 rfl;apply lI s 1 rfl;apply lI s 1 rfl;apply lS s 1 rfl
   (refine ax s (i:=2) rfl rfl rfl λw s=>?_)
   (refine ax s (i:=2) rfl rfl rfl λw s=>?_)
   (refine ax s (i:=2) rfl rfl rfl λw s=>?_)
   (refine ax s (i:=2) rfl rfl rfl λw s=>?_)
   apply lI s 2 rfl;apply lI s 2 rfl;apply lI s 2 rfl;apply lS s 2 rfl;exact fin _ _ _ [0] (by decide) rfl s
   (refine ax s (i:=0) rfl rfl rfl λw s=>?_)
   apply And.intro (cg s 2 rfl);apply And.intro (cg s 2 rfl);refine And.intro ?_ ?_;refine aO s λb w s=>?_
   (refine ax s (i:=1) rfl rfl rfl λw s=>?_)
   apply And.intro (cg s 3 rfl);apply And.intro (cg s 3 rfl)
   (refine ax s (i:=1) rfl rfl rfl λw s=>?_)
   apply lI s 1 rfl;apply lI s 1 rfl;apply lI s 1 rfl;apply lS s 1 rfl
   (refine ax s (i:=2) rfl rfl rfl λw s=>?_)
   (refine ax s (i:=2) rfl rfl rfl λw s=>?_)
   (refine ax s (i:=2) rfl rfl rfl λw s=>?_)
   (refine ax s (i:=2) rfl rfl rfl λw s=>?_)
   apply lI s 2 rfl;apply lI s 2 rfl;apply lI s 2 rfl;apply lS s 2 rfl;exact fin _ _ _ [0] (by decide) rfl s
   (refine ax s (i:=0) rfl rfl rfl λw s=>?_)
   apply And.intro (cg s 2 rfl);apply And.intro (cg s 2 rfl);refine aO s λb w s=>?_
   (refine ax s (i:=1) rfl rfl rfl λw s=>?_)
   apply lI s 1 rfl;apply lI s 1 rfl;apply lI s 1 rfl;apply lS s 1 rfl
   (refine ax s (i:=2) rfl rfl rfl λw s=>?_)
   (refine ax s (i:=2) rfl rfl rfl λw s=>?_)
   (refine ax s (i:=2) rfl rfl rfl λw s=>?_)
   (refine ax s (i:=2) rfl rfl rfl λw s=>?_)
   apply lI s 2 rfl;apply lI s 2 rfl;apply lI s 2 rfl;apply lS s 2 rfl;exact fin _ _ _ [0] (by decide) rfl s
  ·rw[show(gd x.b 1 6==1)=false by rw[beq_eq_false_iff_ne];exact k1,cond_false];rw[if_neg k1]at h;have fin:∀(w:World) (L2:List As) (A B:Int),(∀ra rn rc w',Sep F W w' (ak ra rn rc 5 1 (flat bp [])::L)->Fr No w0 w'->Q (gd x.b 1 6) A B ra rn rc w')->Sep No w0 w L2->Q (gd x.b 1 6) A B none 0 0 w:=by intro w L2 A B h s;exact h _ _ _ _ (bE (bS s0 (au s)) 5 1) (au s)
   by_cases k2:gd x.b 1 6=2
   ·rw[show(gd x.b 1 6==2)=true by rw[beq_iff_eq];exact k2,cond_true];rw[if_pos k2]at h;apply lI s 2 rfl;rw[aG];apply b_ (by omega) (by decide) (by omega);refine ax s (i:=0) rfl rfl rfl λw s=>?_;apply lI s 2 rfl;apply b_ (by decide) (by decide) (by decide);have e:IntKind.wrap .i64 ((0+x.a%(1-0+1))*255)=gd x.a 0 1*255:=wrap_i64 (by show _<=gd x.a 0 1*255;omega) (by show gd x.a 0 1*255<_;omega);rw[e]
    (refine ax s (i:=0) rfl rfl rfl λw s=>?_)
    apply lI s 0 rfl;apply lI s 0 rfl;apply lI s 0 rfl;apply lS s 0 rfl
    (refine ax s (i:=1) rfl rfl rfl λw s=>?_)
    (refine ax s (i:=1) rfl rfl rfl λw s=>?_)
    (refine ax s (i:=1) rfl rfl rfl λw s=>?_)
    (refine ax s (i:=1) rfl rfl rfl λw s=>?_)
    apply lI s 1 rfl;apply lI s 1 rfl;apply lI s 1 rfl;apply lS s 1 rfl;refine fin _ _ _ _ ?_ s;rw[k2];exact h
   ·rw[show(gd x.b 1 6==2)=false by rw[beq_eq_false_iff_ne];exact k2,cond_false];rw[if_neg k2]at h;by_cases k5:gd x.b 1 6=5
    ·rw[show(gd x.b 1 6==5)=true by rw[beq_iff_eq];exact k5,cond_true];rw[if_pos k5]at h
     (refine ax s (i:=0) rfl rfl rfl λw s=>?_)
     apply lI s 0 rfl;apply lI s 0 rfl;apply lI s 0 rfl;apply lS s 0 rfl
     (refine ax s (i:=1) rfl rfl rfl λw s=>?_)
     (refine ax s (i:=1) rfl rfl rfl λw s=>?_)
     (refine ax s (i:=1) rfl rfl rfl λw s=>?_)
     (refine ax s (i:=1) rfl rfl rfl λw s=>?_)
     apply lI s 1 rfl;apply lI s 1 rfl;apply lI s 1 rfl;apply lS s 1 rfl;refine fin _ _ _ _ ?_ s;rw[k5];exact h
    ·rw[show(gd x.b 1 6==5)=false by rw[beq_eq_false_iff_ne];exact k5,cond_false];rw[if_neg k5]at h;apply lI s 0 rfl;apply lI s 0 rfl;apply lI s 0 rfl;apply lS s 0 rfl
     (refine ax s (i:=1) rfl rfl rfl λw s=>?_)
     (refine ax s (i:=1) rfl rfl rfl λw s=>?_)
     (refine ax s (i:=1) rfl rfl rfl λw s=>?_)
     (refine ax s (i:=1) rfl rfl rfl λw s=>?_)
     apply lI s 1 rfl;apply lI s 1 rfl;apply lI s 1 rfl;apply lS s 1 rfl;exact fin _ _ _ _ h s
 have e1:IntKind.wrap .i64 (nn+(0+x.a%(5-0+1)))=nn+gd x.a 0 5:=wrap_i64 (by show _<=nn+gd x.a 0 5;omega) (by show nn+gd x.a 0 5<_;omega);have s:=bh (F:=No) (w:=w0);refine aO s λxb w s=>?_;refine aS s λpb w s=>?_;have s:=ay s
 repeat' first
  |apply lI s 0 rfl
  |apply lS s 0 rfl
  |apply lB s 0 rfl
  |apply lP s 0 rfl
  |apply And.intro (cg s 0 rfl)
  |apply lI s 1 rfl
  |apply lS s 1 rfl
  |apply lB s 1 rfl
  |apply lP s 1 rfl
  |apply And.intro (cg s 1 rfl)
  |apply lI s 2 rfl
  |apply lS s 2 rfl
  |apply lB s 2 rfl
  |apply lP s 2 rfl
  |apply And.intro (cg s 2 rfl)
  |(refine ax s (i:=0) rfl rfl rfl λw s=>?_)
  |(refine ax s (i:=1) rfl rfl rfl λw s=>?_)
  |(refine ax s (i:=2) rfl rfl rfl λw s=>?_)
  |refine aO s λb w s=>?_
  |(refine aS s λb w s=>?_;simp[ag2,acQ,amN,ag3]at s)
  |apply b_ (by decide) (by decide) (by decide)
  |apply And.intro ?_
  |(replace s:=ay s;first
   |apply lI s 0 rfl
   |apply lS s 0 rfl
   |apply lB s 0 rfl
   |apply lP s 0 rfl
   |apply And.intro (cg s 0 rfl)
   |apply lI s 1 rfl
   |apply lS s 1 rfl
   |apply lB s 1 rfl
   |apply lP s 1 rfl
   |apply And.intro (cg s 1 rfl)
   |apply lI s 2 rfl
   |apply lS s 2 rfl
   |apply lB s 2 rfl
   |apply lP s 2 rfl
   |apply And.intro (cg s 2 rfl)
   |(refine ax s (i:=0) rfl rfl rfl λw s=>?_)
   |(refine ax s (i:=1) rfl rfl rfl λw s=>?_)
   |(refine ax s (i:=2) rfl rfl rfl λw s=>?_)
   |refine aO s λb w s=>?_
   |(refine aS s λb w s=>?_;simp[ag2,acQ,amN,ag3]at s)
   |apply b_ (by decide) (by decide) (by decide)
   |refine And.intro ?_ ?_)
 all_goals
  rw[e1]at s;exact hb2 _ _ _ _ _ [0,1,2] [] (by decide) rfl s
end
end Go.Proofs.YtmegplnmiepfbaaGreatDoor.S.O
