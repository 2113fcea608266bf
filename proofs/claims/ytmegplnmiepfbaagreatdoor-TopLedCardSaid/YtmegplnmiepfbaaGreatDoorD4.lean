/- Part 5 of the proof. -/
import Derived.Test.YtmegplnmiepfbaaGreatDoorD3
import Derived.Lib.MakeNoZero
set_option linter.unusedVariables false
set_option linter.unusedSimpArgs false
set_option linter.defProp false
namespace Go.Proofs.YtmegplnmiepfbaaGreatDoor.S
open Go.Sx
attribute [local irreducible] af cD bw bg aA cu bZ St Bx Al App cH cA cz bX aL bD aq bU av ak aW mapA
structure xE where
 a0:Addr
 a2:Addr
 a3:Addr
 a4:Addr
 a5:Addr
 a6:Addr
structure iQ (w:World) (g:xE):Prop where
 v0:w.cell? (aZ 0)=some (.iface 401 (.pointer (some g.a0)))
 v1:w.cell? (aZ 1)=some (.iface 219 (rt 74))
 v2:w.cell? (aZ 2)=some (.iface 401 (.pointer (some g.a2)))
 v3:w.cell? (aZ 3)=some (.iface 401 (.pointer (some g.a3)))
 v4:w.cell? (aZ 4)=some (.iface 401 (.pointer (some g.a4)))
 v5:w.cell? (aZ 5)=some (.iface 401 (.pointer (some g.a5)))
 v6:w.cell? (aZ 6)=some (.iface 401 (.pointer (some g.a6)))
 n23:g.a2≠g.a3
 n56:g.a5≠g.a6
 b2:∃c t,w.heap[g.a2.block]? =some (.cells c t (0,0))
 b3:∃c t,w.heap[g.a3.block]? =some (.cells c t (0,0))
 b5:∃c t,w.heap[g.a5.block]? =some (.cells c t (0,0))
 b6:∃c t,w.heap[g.a6.block]? =some (.cells c t (0,0))
def Xq {w w':World}{k:Nat}{o:Obj}(f:Fr No w w')(h:w.heap[k]? =some o):w'.heap[k]? =some o:=by rw[Fr.block f k (Array.getElem?_eq_some_iff.1 h).1 id];exact h
def iQ.fr {w w':World}{g:xE}(k:iQ w g)(f:Fr No w w'):iQ w' g where
 v0:=Fr.cell f k.v0 id
 v1:=Fr.cell f k.v1 id
 v2:=Fr.cell f k.v2 id
 v3:=Fr.cell f k.v3 id
 v4:=Fr.cell f k.v4 id
 v5:=Fr.cell f k.v5 id
 v6:=Fr.cell f k.v6 id
 n23:=k.n23
 n56:=k.n56
 b2:=let⟨c,t,h⟩:=k.b2;⟨c,t,Xq f h⟩
 b3:=let⟨c,t,h⟩:=k.b3;⟨c,t,Xq f h⟩
 b5:=let⟨c,t,h⟩:=k.b5;⟨c,t,Xq f h⟩
 b6:=let⟨c,t,h⟩:=k.b6;⟨c,t,Xq f h⟩
structure FE where
 a:Int
 b:Int
 c:Int
 d:Int
 e:Int
 f:Int
structure WL (x:FE):Prop where
 a:Ta.U x.a
 b:Ta.U x.b
 c:Ta.U x.c
 d:Ta.U x.d
 e:Ta.U x.e
 f:Ta.U x.f
def FE.add (x y:FE):FE:=⟨Ta.sat x.a y.a,Ta.sat x.b y.b,Ta.sat x.c y.c,Ta.sat x.d y.d,Ta.sat x.e y.e,Ta.sat x.f y.f⟩
def WL.add {x y:FE}(hx:WL x)(hy:WL y):WL (x.add y):=⟨Ta.GA hx.a hy.a,Ta.GA hx.b hy.b,Ta.GA hx.c hy.c,Ta.GA hx.d hy.d,Ta.GA hx.e hy.e,Ta.GA hx.f hy.f⟩
def aes (x:FE):List Value:=[.int .u64 x.a,.int .u64 x.b,.int .u64 x.c,.int .u64 x.d,.int .u64 x.e,.int .u64 x.f]
structure Au where
 p:Nat
 sh:WA
 gr:uw
 mr:Bu
 fp:Nat
structure j8 where
 g:iw
 ms:nA
 f:GF
structure gm where
 k:Int
 x:AR
 o:Option j8
 past:FE
def GK (r:Au)(y:gm):List Value:=match y.o with
 |some _=>[.pointer (sZ r.gr.p),.pointer (sZ r.mr.p),.pointer (sZ r.fp),.pointer (sZ r.sh.p)]++aes y.past
 |none=>[.pointer none,.pointer none,.pointer none,.pointer (sZ r.sh.p)]++aes y.past
noncomputable def IA (r:Au)(o:Option j8):List As:=match o with
 |some m=>[nR r.gr m.g,ux r.mr r.gr.p m.ms,uB r.fp r.mr.p r.gr.p m.f]
 |none=>[]
noncomputable def ame (r:Au)(y:gm):List As:=av r.p 106 (GK r y)::jV r.sh y.k y.x::IA r y.o
structure avj (y:gm) (m:j8):Prop where
 g:xw m.g
 I:yy m.g m.ms
 J:ach m.g m.f
 nv:m.g.m.w*m.g.m.h<=1600
 right:S1 (aiU m.g) y.x.p
structure GL (y:gm):Prop where
 sh:aem y.k y.x.p
 past:WL y.past
 m:∀m,y.o=some m->avj y m
noncomputable def g8 (r:Au)(y:gm):As:=aW (GL y) (ame r y)
section
variable {F:Nat->Prop}{W w w0:World}{L:List As}{r:Au}{y:gm}
def Ct (s:Sep F W w (g8 r y::L)):GL y/\Sep F W w (ame r y++L):=gL s
def WM (s:Sep F W w (ame r y++L))(h:GL y):Sep F W w (g8 r y::L):=dA s h
noncomputable abbrev aaq (r:Au)(past:FE):As:=av r.p 106 [.pointer (sZ r.gr.p),.pointer (sZ r.mr.p),.pointer (sZ r.fp),.pointer (sZ r.sh.p),.int .u64 past.a,.int .u64 past.b,.int .u64 past.c,.int .u64 past.d,.int .u64 past.e,.int .u64 past.f]
def NV {m:j8}(ho:y.o=some m)(s:Sep F W w (g8 r y::L)):GL y/\Sep F W w (aaq r y.past::jV r.sh y.k y.x::nR r.gr m.g::ux r.mr r.gr.p m.ms::uB r.fp r.mr.p r.gr.p m.f::L):=by obtain⟨h,s⟩:=Ct s;have s:Sep F W w (av r.p 106 (GK r y)::jV r.sh y.k y.x::(IA r y.o++L)):=s;unfold GK at s;rw[ho]at s;exact⟨h,s⟩
def Ky {m:j8}{k:Int}{x:AR}{past:FE}(s:Sep F W w (aaq r past::jV r.sh k x::nR r.gr m.g::ux r.mr r.gr.p m.ms::uB r.fp r.mr.p r.gr.p m.f::L))(h:GL ⟨k,x,some m,past⟩):Sep F W w (g8 r ⟨k,x,some m,past⟩::L):=
 WM s h
def agH {Q:Option Addr->World->Prop}{k:Int}(hk:1<=k/\k<=100000)(s:Sep F W w L)
  (h:∀r x w',x.p=⟨[],[],0,0,0,0⟩->Sep F W w' (g8 r ⟨k,x,none,⟨0,0,0,0,0,0⟩⟩::L)->Q (sZ r.p) w'):Jn k w Q:=by
 apply af_;rw[bp];refine ack s (λe=>by omega) λ_ sr w s=>?_;refine aN s λp w s=>?_;have u0:Ta.U 0:=by unfold Ta.U;omega
 refine h ⟨p,sr,⟨0,none,0,0,none,0,0⟩,⟨0,none,0,0⟩,0⟩ _ w rfl (WM s ⟨⟨hk.1,hk.2,Lr.LV (k:=k) (by omega),rfl,u0,u0,u0,u0,(λq hq=>by cases hq)⟩,⟨u0,u0,u0,u0,u0,u0⟩,λm e=>by cases e⟩)
structure aar (w:World) (r:Au) (y:gm) (m:j8):Prop where
 ok:GL y
 o:y.o=some m
 cell:rQ w r.p (GK r y)
 g:nk w r.gr m.g
def qW {m:j8}(s:Sep F W w (g8 r y::L))(ho:y.o=some m):aar w r y m:=by obtain⟨h,s⟩:=Ct s;refine⟨h,ho,kY s (i:=0) rfl,?_⟩;have s:Sep F W w (av r.p 106 (GK r y)::jV r.sh y.k y.x::(IA r y.o++L)):=s;rw[ho]at s;exact oK (ai (ai s))
def aar.c0 {m:j8}(k:aar w r y m){j:Nat}{v:Value}(h:([.pointer (sZ r.gr.p),.pointer (sZ r.mr.p),.pointer (sZ r.fp),.pointer (sZ r.sh.p)]++aes y.past)[j]? =some v):w.cell? ((aZ r.p).add j)=some v:=by apply k.cell j v;rw[GK,k.o];exact h
def H9 {Q:Int->World->Prop}{m:j8}{c:Int}(k:aar w r y m)(h:Q (cL m.g.m c) w):rG (sZ r.p) c w Q:=by apply Vu;have h0:=k.c0 (j:=0) rfl;exact kX (ah (dK h0 (jn k.g h)))
def Rk {Q:Int->Int->World->Prop}{m:j8}(s0:Sep F W w L)(k:aar w r y m)(h:∀w',Sep F W w' L->Fr No w w'->Q m.g.m.w m.g.m.h w'):wV (sZ r.p) w Q:=by apply VA;have h0:=k.c0 (j:=0) rfl;exact kX (ah (dK h0 (jo s0 k.g h)))
def agI {Q:Int->Int->Option Addr->Nat->Nat->World->Prop}{m:j8}(s0:Sep F W w L)(k:aar w r y m)(h:∀ra rn rc w',Sep F W w' (ak ra rn rc 5 1 (flat bq m.g.m.cs)::L)->Fr No w w'->Q m.g.m.w m.g.m.h ra rn rc w'):Dv (sZ r.p) w Q:=by apply X8;refine aT (bh (F:=No)) λmb w1 s=>?_;have h0:=k.c0 (j:=0) rfl;refine kX (ah (dK (Fr.cell (au s) h0 id) ?_));refine adT s (k.g.fr (au s)) λra rc w1 s _=>?_;refine sT s 1 rfl λw1 s=>?_;refine sT s 1 rfl λw1 s=>?_;refine ax s (i:=1) rfl rfl rfl λw1 s=>?_;refine lI s 1 rfl (lI s 1 rfl (lS s 1 rfl ?_));have s':=cf (L':=[ak ra r.gr.cn rc 5 1 (flat bq m.g.m.cs)]) [0] s rfl (by decide);exact h ra r.gr.cn rc w1 (fu s0 s') (au s')
def aet {Q:Int->World->Prop}{m:j8}{ce x:Int}(ho:y.o=some m)(he:m.g.ep<1000000000)(s:Sep F W w (g8 r y::L))
  (h7:¬bF m.g.m.w m.g.m.h ce->Q 7 w)(h8:bF m.g.m.w m.g.m.h ce->¬(1<=x/\x<=255)->Q 8 w)
  (h0:bF m.g.m.w m.g.m.h ce->1<=x/\x<=255->∀w',Sep F W w' (g8 r ⟨y.k,y.x,some ⟨xx m.g ce x,m.ms,m.f⟩,y.past⟩::L)->Q 0 w'):BT (sZ r.p) ce x w Q:=by
 apply Vz;have k:=qW s ho;obtain⟨hok,s⟩:=NV ho s;have hm:=hok.m m ho;have c0:=k.c0 (j:=0) rfl;refine kX (ah (dK c0 ?_));have s:=pk 5 [2,0,1,3,4] s;refine abA s (by omega) h7 h8 λhc hx w s=>?_;refine h0 hc hx w (Ky (pk 5 [1,2,0,3,4] s) ⟨hok.sh,hok.past,λm' e=>?_⟩);cases e;exact⟨ah_ hm.g hx (by omega),aoR hm.g hc hm.I,aoS hm.J,hm.nv,al8 hm.right λkey q=>al_ hm.g hc⟩
def acq {Q:World->Prop}{m:j8}(ho:y.o=some m)(s:Sep F W w (g8 r y::L))
  (h:∀r' x' w',r'.p=r.p->x'.p=⟨[],[],y.x.b,y.x.h,y.x.st,y.x.ev⟩->Sep F W w' (g8 r' ⟨y.k,x',some ⟨m.g,m.ms,⟨none,m.f.fR⟩⟩,y.past⟩::L)->Q w'):vw (sZ r.p) w Q:=by
 apply Hf;have k:=qW s ho;obtain⟨hok,s⟩:=NV ho s;have hm:=hok.m m ho;refine isS (ah (dK (k.c0 rfl) ?_));have s:=i_ s;refine OV hok.sh.one s λsr w e s=>?_;refine ah (lP s 1 rfl ?_);have s:=pk 5 [4,0,1,2,3] s;refine Yf s λw s=>?_;have s:=gd (A:=[_,_,_,_,_]) (B:=[aaq ⟨r.p,sr,r.gr,r.mr,r.fp⟩ y.past,jV sr y.k ⟨[],[],y.x.b,y.x.h,y.x.st,y.x.ev⟩,nR r.gr m.g,ux r.mr r.gr.p m.ms,uB r.fp r.mr.p r.gr.p ⟨none,m.f.fR⟩]) [2,1,3,4,0] s (by unfold aaq;rw[e];rfl) (by decide);refine h ⟨r.p,sr,r.gr,r.mr,r.fp⟩ ⟨[],[],y.x.b,y.x.h,y.x.st,y.x.ev⟩ w rfl rfl (Ky s ⟨?_,hok.past,λm' e=>?_⟩)
 ·exact⟨hok.sh.one,hok.sh.room,Lr.LV (k:=y.k) (by have:=hok.sh.one;omega),rfl,hok.sh.b,hok.sh.h,hok.sh.st,hok.sh.ev,λq hq=>by cases hq⟩
 ·cases e;exact⟨hm.g,hm.I,⟨(λq e=>by cases e),hm.J.u⟩,hm.nv,afw⟩
def Yh {Q:World->Prop}(h:Q w):ql Option.none w Q:=Dh _ _ _ h
def acs {Q:World->Prop}(ho:y.o=Option.none)(s:Sep F W w (g8 r y::L))
  (h:∀r' x' w',r'.p=r.p->x'.p=⟨[],[],y.x.b,y.x.h,y.x.st,y.x.ev⟩->Sep F W w' (g8 r' ⟨y.k,x',Option.none,y.past⟩::L)->Q w'):vw (some ⟨r.p,0,Option.none⟩) w Q:=by
 apply Hf;obtain⟨hok,s⟩:=Ct s;have s:Sep F W w (av r.p 106 (GK r y)::jV r.sh y.k y.x::(IA r y.o++L)):=s;unfold GK at s;rw[ho]at s;have s:=s;refine isS (ah (lP s 0 rfl ?_));have s:=i_ s;refine OV hok.sh.one s λsr w e s=>?_;refine ah (lP s 1 rfl ?_);apply Yh;have s:=i_ s;rw[<-e]at s;refine h ⟨r.p,sr,r.gr,r.mr,r.fp⟩ ⟨[],[],y.x.b,y.x.h,y.x.st,y.x.ev⟩ w rfl rfl (WM s ⟨?_,hok.past,λm' e=>by cases e⟩);exact⟨hok.sh.one,hok.sh.room,Lr.LV (k:=y.k) (by have:=hok.sh.one;omega),rfl,hok.sh.b,hok.sh.h,hok.sh.st,hok.sh.ev,λq hq=>by cases hq⟩
def uC (y:gm):FE:=match y.o with
 |some m=>⟨m.ms.fR,m.f.fR,0,0,0,0⟩
 |none=>⟨0,0,0,0,0,0⟩
def aoW (h:GL y):WL (uC y):=by
 have u0:Ta.U 0:=by unfold Ta.U;omega
 unfold uC;cases hy:y.o with
 |none=>exact⟨u0,u0,u0,u0,u0,u0⟩
 |some m=>exact⟨(h.m m hy).I.u,(h.m m hy).J.u,u0,u0,u0,u0⟩
def Mb {Q:Int->Int->Int->Int->Int->Int->World->Prop}(s:Sep F W w (g8 r y::L))(h:∀w',Sep F W w' (g8 r y::L)->Fr No w w'->Q (uC y).a (uC y).b (uC y).c (uC y).d (uC y).e (uC y).f w'):tP (some ⟨r.p,0,Option.none⟩) w Q:=by
 apply RS;refine aT (bh (F:=No)) λp w1 s1=>?_;have fin:∀w',Sep No w w' []->Q (uC y).a (uC y).b (uC y).c (uC y).d (uC y).e (uC y).f w':=λw' s'=>h w' (fu s s') (au s');apply ah;cases hy:y.o with
 |some m=>
  obtain⟨hok,so⟩:=NV hy s;have k:=qW s hy;have km:=(Wl (ai (ai (ai so)))).cell.fr (au s1);have kf:=(NT (ai (ai (ai (ai so))))).fr (au s1);have e:uC y=⟨m.ms.fR,m.f.fR,0,0,0,0⟩:=by unfold uC;rw[hy]
  rw[e]at fin;have c1:=Fr.cell (au s1) (k.c0 (j:=1) rfl) id;have c2:=Fr.cell (au s1) (k.c0 (j:=2) rfl) id;refine dK c1 (ah (dK c2 ?_));refine Z_ km ⟨c2,?_⟩;apply Wv (w:=w1.drew) kf;exact aiR (ay s1) λw' s'=>fin w' (ai s')
 |none=>
  obtain⟨hok,so⟩:=Ct s;have so:Sep F W w (av r.p 106 (GK r y)::jV r.sh y.k y.x::(IA r y.o++L)):=so;unfold GK at so;rw[hy]at so;have kb:=kY so (i:=0) rfl;have e:uC y=⟨0,0,0,0,0,0⟩:=by unfold uC;rw[hy]
  rw[e]at fin;have c1:=Fr.cell (au s1) (kb 1 _ rfl) id;have c2:=Fr.cell (au s1) (kb 2 _ rfl) id;refine dK c1 (ah (dK c2 ?_));refine aaa ⟨c2,?_⟩;apply Ww;exact aiR (ay s1) λw' s'=>fin w' (ai s')
def Rl (s:Sep F W w (g8 r y::L)):rQ w r.sh.p (GH r.sh y.x)/\w.cell? ((⟨r.p,0,Option.none⟩:Addr).add 3)=some (.pointer (some ⟨r.sh.p,0,Option.none⟩))/\(∀j v,(aes y.past)[j]? =some v->w.cell? ((⟨r.p,0,Option.none⟩:Addr).add (4+j))=some v):=by
 obtain⟨hok,so⟩:=Ct s;have so:=so;have kb:=kY so (i:=0) rfl;refine⟨al9 so (i:=1) rfl,?_,λj v hj=>?_⟩
 ·apply kb 3;unfold GK;grind
 ·apply kb (4+j) v;unfold GK;grind
def WN (y:gm):FE:=(y.past.add (uC y)).add ⟨0,0,y.x.b,y.x.h,y.x.st,y.x.ev⟩
def acu {Q:Int->Int->Int->Int->Int->Int->World->Prop}(s:Sep F W w (g8 r y::L))(h:∀w',Sep F W w' (g8 r y::L)->Q (WN y).a (WN y).b (WN y).c (WN y).d (WN y).e (WN y).f w'):AZ (some ⟨r.p,0,Option.none⟩) w Q:=by
 apply Ui;refine aT s λp w1 s1=>?_;have s1:=ay (i_ s1);obtain⟨k1,k2,k3⟩:=Rl s1;have hok:=(Ct s1).1;have hu:=hok.past;have hn:=aoW hok;have u0:Ta.U 0:=by unfold Ta.U;omega
 refine kX (ah ?_);refine aR (k3 0 _ rfl) (aR (k3 1 _ rfl) (aR (k3 2 _ rfl) (aR (k3 3 _ rfl) (aR (k3 4 _ rfl) (aR (k3 5 _ rfl) ?_)))));refine ah (dK k2 ?_);refine Mb s1 λw2 s2 f2=>?_;obtain⟨q1,q2,q3⟩:=Rl s2;refine⟨q2,q3 0 _ rfl,q3 1 _ rfl,q3 2 _ rfl,q3 3 _ rfl,q3 4 _ rfl,q3 5 _ rfl,?_⟩;refine Ta.GB s2 ⟨⟨hu.a,hu.b,hu.c,hu.d,hu.e,hu.f⟩,hn.a,hn.b,hn.c,hn.d,hn.e,hn.f⟩ λw3 s3=>?_;obtain⟨q1,q2,q3⟩:=Rl s3;refine⟨q2,?_⟩;refine aj9 s3 q1 λw4 s4 _=>?_;have ha:=WL.add hu hn;refine Ta.GB s4 ⟨⟨ha.a,ha.b,ha.c,ha.d,ha.e,ha.f⟩,u0,u0,hok.sh.b,hok.sh.h,hok.sh.st,hok.sh.ev⟩ λw5 s5=>?_;exact aiR (i_ s5) λw6 s6=>h w6 (ai s6)
end
def epO (o:Option j8):Int:=match o with
 |some m=>m.g.ep
 |none=>0
def agV (m:bJ):nA:=⟨List.replicate (eI m.w m.h).toNat LU,0,0⟩
def amf (o:Option j8)(mp:bJ):j8:=⟨OR mp (epO o),agV mp,⟨none,0⟩⟩
def aqS {mp:bJ}{e:Int}(hm:cP mp)(he:0<=e):yy (OR mp e) (agV mp):=by
 have hc:=gM hm.w hm.h;have hv:∀q∈(agV mp).ps,q=LU:=λq hq=>(List.mem_replicate.1 hq).2;have u0:Ta.U 0:=by unfold Ta.U;omega
 refine⟨?_,⟨by show(0:Int)<=e+1;omega,λq hq=>?_⟩,λe'=>?_,λi q hq G8=>?_,u0⟩
 ·show((List.replicate _ _).length:Int)=eI mp.w mp.h;grind
 ·rw[hv q hq];show(0:Int)<=e+1;omega
 ·have e':(0:Int)=e+1:=e';omega
 ·rw[hv q (List.mem_of_getElem? hq)]at G8;have hi:=(List.getElem?_eq_some_iff.1 hq).1;have hi:i<(List.replicate (eI mp.w mp.h).toNat LU).length:=hi;have e1:gi (OR mp e).vs i=e+1:=by show(List.replicate (eI mp.w mp.h).toNat (e+1)).getD i 0=e+1;grind
  rw[e1]at G8;have G8:(0:Int)=e+1:=G8;omega
section
variable {F:Nat->Prop}{W w w0:World}{L:List As}{r:Au}{y:gm}{mp:bJ}{a:Option Addr}{n c:Nat}
def amg (h:GL y):0<=epO y.o:=by
 unfold epO;cases hy:y.o with
 |none=>grind
 |some m=>have:=(h.m m hy).g.ep;grind
noncomputable abbrev ar7 (p sp:Nat)(v0 v1 v2:Value)(q:FE):As:=av p 106 [v0,v1,v2,.pointer (sZ sp),.int .u64 q.a,.int .u64 q.b,.int .u64 q.c,.int .u64 q.d,.int .u64 q.e,.int .u64 q.f]
def gpO (r:Au)(o:Option j8):Option Addr:=match o with
 |some _=>sZ r.gr.p
 |none=>none
def atj (s:Sep F W w (g8 r y::L)):∃v1 v2,Sep F W w (ar7 r.p r.sh.p (.pointer (gpO r y.o)) v1 v2 y.past::jV r.sh y.k y.x::(IA r y.o++L)):=by
 obtain⟨hok,so⟩:=Ct s;have so:Sep F W w (av r.p 106 (GK r y)::jV r.sh y.k y.x::(IA r y.o++L)):=so;unfold GK at so;cases hy:y.o with
 |none=>
  rw[hy]at so;exact⟨_,_,so⟩
 |some m=>
  rw[hy]at so;exact⟨_,_,so⟩
def aoX {Q:Int->World->Prop}{A B:As}(hok:GL y)(s:Sep F W w (A::B::(IA r y.o++L)))(h:Q (epO y.o) w):fZ (gpO r y.o) w Q:=by
 cases hy:y.o with
 |none=>
  rw[hy]at h;exact ZV h
 |some m=>
  rw[hy]at h s;have s:=s;exact qU (oK (ai (ai s))) h
def aeu {Q:Int->World->Prop}(hm:cP mp)(hr:dZ mp.cs)(oT:mp.w*mp.h<=1600)(hC:∀w',Sep F W w' L->Sl w' a n c 1 bq mp.cs)(he:epO y.o<1000000000)(s:Sep F W w (g8 r y::L))
  (h:∀r' x' w',r'.p=r.p->x'.p=⟨[],[],y.x.b,y.x.h,y.x.st,y.x.ev⟩->Sep F W w' (g8 r' ⟨y.k,x',some (amf y.o mp),y.past.add (uC y)⟩::L)->Q 0 w'):BS (sZ r.p) mp.w mp.h a n c w Q:=by
 apply Vx;have hok:=(Ct s).1;have Yy:=amg hok;have hu:=hok.past;have hn:=aoW hok;refine aN s λmb w s=>kX ?_;refine lI s 0 rfl (lI s 0 rfl (lS s 0 rfl ?_));refine Ns s (hC _ (ai (ai s))) λw s _=>?_;rw[(V1 hr).2 hm,Bool.not_true,cond_false];apply ah;have s:=ay (i_ s);obtain⟨k1,k2,k3⟩:=Rl s;refine aR (k3 0 _ rfl) (aR (k3 1 _ rfl) (aR (k3 2 _ rfl) (aR (k3 3 _ rfl) (aR (k3 4 _ rfl) (aR (k3 5 _ rfl) ?_)))));refine Mb s λw s _=>?_;obtain⟨q1,q2,q3⟩:=Rl s;refine⟨q3 0 _ rfl,q3 1 _ rfl,q3 2 _ rfl,q3 3 _ rfl,q3 4 _ rfl,q3 5 _ rfl,?_⟩;refine Ta.GB s ⟨⟨hu.a,hu.b,hu.c,hu.d,hu.e,hu.f⟩,hn.a,hn.b,hn.c,hn.d,hn.e,hn.f⟩ λw s=>?_;obtain⟨v1,v2,s⟩:=atj s;apply ah;refine sT s 0 rfl λw s=>?_;refine sT s 0 rfl λw s=>?_;refine sT s 0 rfl λw s=>?_;refine sT s 0 rfl λw s=>?_;refine sT s 0 rfl λw s=>?_;refine ax s (i:=0) rfl rfl rfl λw s=>?_;have s:=ck s (L':=av mb 25 [ae mp.w,ae mp.h,.slice a n c]::ar7 r.p r.sh.p (.pointer (gpO r y.o)) v1 v2 (y.past.add (uC y))::jV r.sh y.k y.x::(IA r y.o++L)) (List.perm_middle (l₁:=_::_::IA r y.o));have s:=ay s;refine lI s 0 rfl (lI s 0 rfl (lS s 0 rfl ?_));refine ah (lP s 1 rfl ?_);apply aoX hok (ai s);refine⟨cg s 0 rfl,cg s 0 rfl,cg s 0 rfl,?_⟩;have s:=gB (ai s) (.cons_cons _ (.cons_cons _ (List.sublist_append_right _ _)));refine adS s (hC _ (ai (ai s))) hr (by omega) (λe=>(e hm).elim) λ_ gr w s _=>?_;refine ah (ax s (i:=1) rfl rfl rfl λw s=>?_);refine ah (lP s 1 rfl ?_);refine ad_ s (oK s) λmr w s _=>?_;refine ah (ax s (i:=2) rfl rfl rfl λw s=>?_);have s:=ay s;refine ah (lP s 2 rfl (ah (lP s 2 rfl ?_)));refine aci s λfp w s _=>?_;refine ah (ax s (i:=3) rfl rfl rfl λw s=>?_);refine ah (lP s 3 rfl ?_);have s:=pk 5 [4,3,2,1,0] s;refine OV hok.sh.one s λsr w e s=>?_;rw[<-e]at s;have s:=pk 5 [1,0,2,3,4] s;refine h ⟨r.p,sr,gr,mr,fp⟩ ⟨[],[],y.x.b,y.x.h,y.x.st,y.x.ev⟩ w rfl rfl (Ky s ⟨?_,WL.add hu hn,λm' e=>?_⟩)
 ·exact⟨hok.sh.one,hok.sh.room,Lr.LV (k:=y.k) (by have:=hok.sh.one;omega),rfl,hok.sh.b,hok.sh.h,hok.sh.st,hok.sh.ev,λq hq=>by cases hq⟩
 ·cases e;have u0:Ta.U 0:=by unfold Ta.U;omega
  exact⟨akB hm (by omega),aqS hm Yy,⟨(λq e=>by cases e),u0⟩,oT,afw⟩
end
section
variable {m:bJ}{t sc l:Int}
noncomputable def tC (m:bJ)(t sc:Int):List bj:=Ny (EX m (D m t) t sc)
noncomputable def GM (m:bJ)(t sc:Int):List Int:=jv (aD m.w m.h sc) (bz m.w m.h sc) (dO m sc) (tC m t sc)
noncomputable def Cu (m:bJ)(t sc:Int):List Int:=nO (aD m.w m.h sc) (bz m.w m.h sc) (dO m sc) (tC m t sc)
def S6 (xs:List bj):(Ny xs).Perm xs:=List.mergeSort_perm _ _
def WO (x:bj):x∈tC m t sc↔x∈EX m (D m t) t sc:=(S6 _).mem_iff
def OX (hs:dW m.w m.h sc):(tC m t sc).Nodup:=(S6 _).nodup_iff.2 (Wx hs).1
def aoY (hs:dW m.w m.h sc):(tC m t sc).length<=1025:=by rw[tC,(S6 _).length_eq];exact(Wx hs).2
def aas (hm:cP m)(hs:dW m.w m.h sc)(ht:bF m.w m.h t):rP (aD m.w m.h sc) (bz m.w m.h sc) (dO m sc) (tC m t sc)=true:=by rw[rP,Bool.and_eq_true];exact⟨(Q3 hm hs).DJ,List.all_eq_true.2 λx hx=>aus hm hs ht ((WO x).1 hx)⟩
def ar8 (hm:cP m)(hs:dW m.w m.h sc)(ht:bF m.w m.h t)(hl:0<=l/\l<aD m.w m.h sc*bz m.w m.h sc):gi (GM m t sc) l.toNat=D m t (bY m.w m.h sc l):=by have hlen:=Cl (m:=m) (sc:=sc);rw[GM,akK ⟨hl.1,by omega⟩];exact auq hm hs ht WO hl
def ar9 (hm:cP m)(hs:dW m.w m.h sc)(ht:bF m.w m.h t)(hl:0<=l/\l<aD m.w m.h sc*bz m.w m.h sc):gi (Cu m t sc) l.toNat=kI m t (bY m.w m.h sc l):=by have hlen:=Cl (m:=m) (sc:=sc);unfold Cu nO gi;rw[List.getD_eq_getElem?_getD,List.getElem?_map,List.getElem?_range (by omega)];show ZY _ _ _ _ _ ((l.toNat:Nat):Int)=_;rw[Int.toNat_of_nonneg hl.1];refine dir_eq hm hs ht WO (λl' hl'=>?_) hl;rw[fD,if_pos ⟨hl'.1,by show l'<((jv _ _ _ _).length:Int);rw[Z6];omega⟩];exact ar8 hm hs ht hl'
end
structure vN where
 g:iw
 S7:List Int
 clean:Int
 fR:Int
 kept:Option (Int×Int)
 fc:Int
def j8.p (m:j8):vN:=⟨m.g,m.ms.ps.map (·.e9),m.ms.clean,m.ms.fR,NR m.f,m.f.fR⟩
structure pN where
 k:Int
 sh:TJ
 o:Option vN
 past:FE
def gm.p (y:gm):pN:=⟨y.k,y.x.p,y.o.map j8.p,y.past⟩
def ai4 (g:iw)(S7:List Int):Nat:=((List.range S7.length).filter λi=>gi S7 i !=gi g.vs i).length
noncomputable def GN (q:pN)(m:vN)(t sc:Int):pN:=⟨q.k,Cs q.k q.sh (t,sc) ⟨zu m.g sc,tC m.g.m t sc,GM m.g.m t sc,Cu m.g.m t sc⟩,some ⟨m.g,m.g.vs,m.g.ep,ad9 (ai4 m.g m.S7) m.fR,some (t,m.g.ep),if m.kept=some (t,m.g.ep)then m.fc else Ta.sat m.fc 1⟩,q.past⟩
def aqT {g:iw}{x:nA}:ai4 g (x.ps.map (·.e9))=(kC g x x.ps.length).length:=by unfold ai4 kC;rw[List.length_map];refine congrArg List.length (List.filter_congr λi hi=>?_);unfold SS gi;grind
def amh {g:iw}{x:nA}(hg:xw g)(I:yy g x)(hf:NI g x):x.ps.map (·.e9)=g.vs:=by
 have h1:=I.len;have h2:=hg.len;refine List.ext_getElem? λi=>?_;rw[List.getElem?_map];by_cases hi:i<x.ps.length
 ·have e1:=List.getElem?_eq_getElem hi;have e2:g.vs[i]? =some g.vs[i]:=List.getElem?_eq_getElem (by omega);have:=hf i _ e1;rw[e1,e2];show some x.ps[i].e9=_;rw[this];unfold gi;grind
 grind
section
variable {W w w0:World}{L:List As}{r:Au}{y:gm}{lg:xE}{t sc:Int}
def ai5 {Q:Option Addr->Nat->Nat->Option Addr->Nat->Nat->Value->World->Prop}{fb:Nat}(hL:iQ W lg)(s:Sep No W w (av fb 213 [.slice none 0 0,.slice none 0 0]::L))
  (h:∀eb w',Sep No W w' (av eb 275 [ae t,.iface 401 (.pointer (some lg.a3))]::L)->Q none 0 0 none 0 0 (.iface 273 (.pointer (sZ eb))) w'):tj Q t (aZ fb) w:=by
 have s:=ay s;have v3:∀{w L},Sep No W w L->w.cell? (aZ 3)=some (.iface 401 (.pointer (some lg.a3))):=λs=>Fr.cell (au s) hL.v3 id;apply mF (v3 s) rfl;constructor
 ·refine aN s λeb w s=>?_;refine sT s 1 rfl λw s=>?_;refine ax s (i:=1) rfl rfl rfl λw s=>?_;refine⟨v3 s,?_⟩;refine lS s 1 rfl (lS s 1 rfl ?_);exact h eb w (gB s (.cons_cons _ (.cons _ (List.Sublist.refl _))))
 ·refine sT s 0 rfl λw s=>?_;refine ax s (i:=0) rfl rfl rfl λw s=>?_;refine⟨v3 s,?_⟩;refine aN s λeb w s=>?_;refine lS s 1 rfl (lS s 1 rfl ?_);exact h eb w (gB s (.cons_cons _ (.cons _ (List.Sublist.refl _))))
def aqU {Q:Option Addr->Nat->Nat->Option Addr->Nat->Nat->Value->World->Prop}{b6 f:Nat}{da ra:Option Addr}{dn dc rn rc:Nat}{A:List As}{v1 v2:Value}(s:Sep No W w (av f 213 [.slice da dn dc,.slice ra rn rc]::av b6 213 [v1,v2]::L))
  (h:∀w',Sep No W w' L->Q da dn dc ra rn rc .nilIface w'):jG Q t (aZ b6) (aZ f) 0 w:=by
 unfold jG;refine lS s 0 rfl (lS s 0 rfl ?_);refine sT s 1 rfl λw s=>?_;refine ax s (i:=1) rfl rfl rfl λw s=>?_;refine lS s 1 rfl (lS s 1 rfl ?_);exact h w (ai (ai s))
end
section
variable {W w w0:World}{L:List As}{r:Au}{y:gm}{lg:xE}{t sc:Int}
def aBE:zc T 84=[ae 0,ae 0,.slice none 0 0]:=rfl
noncomputable abbrev ami (r:Au)(m:j8)(past:FE)(ms:nA)(f:GF)(tb p6:Nat)(ta:Option Addr)(tn tc:Nat)(sa:Option Addr)(sn sk:Nat)(t sc:Int)(L:List As):List As:=
 ak sa sn sk 294 3 (flat fS (tC m.g.m t sc))::ak ta tn tc 5 1 (flat bq (dO m.g.m sc))::av tb 84 [ae (aD m.g.m.w m.g.m.h sc),ae (bz m.g.m.w m.g.m.h sc),.slice ta tn tc]::av p6 213 [.slice none 0 0,.slice none 0 0]::aaq r past::nR r.gr m.g::ux r.mr r.gr.p ms::uB r.fp r.mr.p r.gr.p f::L
def atk {Q:Option Addr->Nat->Nat->Option Addr->Nat->Nat->Value->World->Prop}{m:j8}{ms:nA}{f:GF}{tb p6 fb:Nat}{ta sa da ra:Option Addr}{tn tc sn sk n dc rc:Nat}{x':AR}{sr:WA}{v1 v2:Value}(e:sr.p=r.sh.p)(hok:GL ⟨y.k,x',some ⟨m.g,ms,f⟩,y.past⟩)
  (s:Sep No W w (av fb 213 [v1,v2]::ak ra n rc 3 1 (flat one (Cu m.g.m t sc))::ak da n dc 3 1 (flat one (GM m.g.m t sc))::jV sr y.k x'::ami r m y.past ms f tb p6 ta tn tc sa sn sk t sc L))
  (uA:∀r' w',r'.p=r.p->Sep No W w' (ak ra n rc 3 1 (flat one (Cu m.g.m t sc))::ak da n dc 3 1 (flat one (GM m.g.m t sc))::g8 r' ⟨y.k,x',some ⟨m.g,ms,f⟩,y.past⟩::L)->Q da n dc ra n rc .nilIface w'):
  St ((aZ fb).add 0) (.slice da n dc) w λw=>St ((aZ fb).add 1) (.slice ra n rc) w λw=>jG Q t (aZ p6) (aZ fb) 0 w:=by
 refine sT s 0 rfl λw s=>?_;refine ax s (i:=0) rfl rfl rfl λw s=>?_;have s:=gd (A:=[_,_,_,_,_,_,_,_,_,_,_,_]) (B:=[_,_,_,_,_,_,_,_,_]) [0,7,8,3,9,10,11,1,2] s rfl (by decide);refine aqU (A:=[]) s λw s=>?_;have s:Sep No W w (aaq ⟨r.p,sr,r.gr,r.mr,r.fp⟩ y.past::jV sr y.k x'::nR r.gr m.g::ux r.mr r.gr.p ms::uB r.fp r.mr.p r.gr.p f::ak ra n rc 3 1 (flat one (Cu m.g.m t sc))::ak da n dc 3 1 (flat one (GM m.g.m t sc))::L):=by unfold aaq;simp_all
 have s:=Ky s hok;have s:=gd (A:=[_,_,_]) (B:=[_,_,_]) [1,2,0] s rfl (by decide);grind
attribute [local irreducible] tj jG yw in
theorem NW {Q:Option Addr->Nat->Nat->Option Addr->Nat->Nat->Value->World->Prop}{m:j8}(ho:y.o=some m)(hL:iQ W lg)(s:Sep No W w (g8 r y::L))(NX:Lr.YG (t,sc))
  (GO:¬(bF m.g.m.w m.g.m.h t/\dW m.g.m.w m.g.m.h sc)->∀eb w',Sep No W w' (av eb 275 [ae t,.iface 401 (.pointer (some lg.a3))]::g8 r y::L)->Q none 0 0 none 0 0 (.iface 273 (.pointer (sZ eb))) w')
  (uA:bF m.g.m.w m.g.m.h t->dW m.g.m.w m.g.m.h sc->∀r' y' da dc ra rc w',r'.p=r.p->y'.p=GN y.p m.p t sc->Sep No W w' (ak ra (dO m.g.m sc).length rc 3 1 (flat one (Cu m.g.m t sc))::ak da (dO m.g.m sc).length dc 3 1 (flat one (GM m.g.m t sc))::g8 r' y'::L)->Q da (dO m.g.m sc).length dc ra (dO m.g.m sc).length rc .nilIface w'):
  vB (sZ r.p) t sc w Q:=by
 apply UH;refine aT s λp6 w s=>?_;have s:=i_ s;have k:=qW s ho;have c0:=k.c0 (j:=0) rfl;refine kX (ah (dK c0 (kX (ah (dK c0 ?_)))));have hm:=(k.ok.m m ho);have hmay:=hm.g.may;refine Nr s k.g (λhs w s _=>?_) λhs ta tn tc w s _=>?_
 ·
  refine aT s λtb w s=>?_;refine sT s 0 rfl λw s=>?_;refine sT s 0 rfl λw s=>?_;refine sT s 0 rfl λw s=>?_;have s:=ai s;have k:=qW s ho;have c0:=k.c0 (j:=0) rfl;refine ah (dK c0 (jn k.g ?_));have fin:=ai5 hL (i_ s) λeb w s=>GO (λe=>hs e.2) eb w s;grind
 ·rw[ail hmay hs]at s;refine aT s λtb w s=>?_;refine sT s 0 rfl λw s=>?_;refine sT s 0 rfl λw s=>?_;refine ax s (i:=0) rfl rfl rfl λw s=>?_;have k:=qW (ai (ai s)) ho;have c0:=k.c0 (j:=0) rfl;refine ah (dK c0 (jn k.g ?_));by_cases ht:bF m.g.m.w m.g.m.h t
  ·have vp:=LL hmay ht;rw[cy (by omega),cond_false,Bool.not_true,cond_false];have s:=gd (A:=[_,_,_,_]) (B:=[_,_,_,_]) [2,0,1,3] s rfl (by decide);obtain⟨hok,s⟩:=NV ho s;have s:=ay s;refine ah (lP s 0 rfl (ah (lP s 0 rfl ?_)));have s:=gd (A:=[_,_,_,_,_,_,_,_]) (B:=[_,_,_,_,_,_,_,_]) [2,3,4,0,1,5,6,7] s rfl (by decide);refine Yg s hm.I hm.J ht hm.nv λms' rr ds w I' hf' yd Wh hro s=>?_;refine⟨cg s 3 rfl,?_⟩;have kr:=aft (ai (ai s)) rfl;refine Wz s (oK s) kr hro ht hs λsa sn sk w s _=>?_;have s:=ay s;refine ah (lP s 4 rfl (ah (lP s 4 rfl ?_)));refine lI s 6 rfl (lI s 6 rfl (lS s 6 rfl ?_));have s:=gd (A:=[_,_,_,_,_,_,_,_,_]) (B:=[_,_,_,_,_,_,_,_,_]) [5,0,7,6,8,4,1,2,3] s rfl (by decide);generalize hf:(⟨some (rr,⟨t,m.g.ep,ds⟩),if NR m.f=some (t,m.g.ep)then m.f.fR else Ta.sat m.f.fR 1⟩:GF)=f' at s;have s:=s;have LJ:(tC m.g.m t sc).length=sn:=(aO s (i:=1) rfl nq (by decide)).len;have BK:=aoY (t:=t) hs;have hu1:Ta.U f'.fR:=by
    rw[<-hf];split
    ·exact hm.J.u
    ·exact Ta.GA hm.J.u (by unfold Ta.U;omega)
   have J':ach m.g f':=by refine⟨λq e=>?_,hu1⟩;rw[<-hf]at e;cases e;exact⟨Int.le_refl _,λ_=>⟨ht,hro⟩⟩
   have ayl:zu m.g sc<=m.g.ep:=by
    unfold zu;split
    ·have hm1:gi m.g.vs sc.toNat∈m.g.vs:=by rw[gi,List.getD_eq_getElem?_getD,List.getElem?_eq_getElem (by omega)];exact List.getElem_mem _
     exact(hm.g.vs _ hm1).2
    ·have:=hm.g.ep;omega
   have hh:(Lr.kK y.k y.x.l (t,sc)).1.2.1=true->∀q,y.x.p.es[(Lr.kK y.k y.x.l (t,sc)).1.1.toNat]? =some q->q.e9=zu m.g sc->q.iP=tC m.g.m t sc->q.ds=GM m.g.m t sc/\q.rs=Cu m.g.m t sc:=λhd q hq hv he=>by obtain⟨_,_,h3⟩:=aiQ hok.sh hm.right hd hq;have h4:=h3 hv;rw[he]at h4;exact h4
   have aym:∀x':AR,x'.p=Cs y.k y.x.p (t,sc) ⟨zu m.g sc,tC m.g.m t sc,GM m.g.m t sc,Cu m.g.m t sc⟩->GL ⟨y.k,x',some ⟨m.g,ms',f'⟩,y.past⟩:=λx' ex=>by
    refine⟨?_,hok.past,λm' e=>?_⟩
    ·rw[ex];exact aqL hok.sh (by show(tC m.g.m t sc).length<2000;omega)
    ·cases e;refine⟨hm.g,I',J',hm.nv,?_⟩;rw[ex];exact aoO hok.sh hm.right ⟨ayl,hs,λ_=>⟨rfl,rfl⟩⟩
   have hp':∀x':AR,x'.p=Cs y.k y.x.p (t,sc) ⟨zu m.g sc,tC m.g.m t sc,GM m.g.m t sc,Cu m.g.m t sc⟩->(gm.mk y.k x' (some ⟨m.g,ms',f'⟩) y.past).p=GN y.p m.p t sc:=λx' ex=>by unfold gm.p GN;simp only[Option.map_some];rw[ex];unfold j8.p;rw[amh hm.g I' hf',yd,Wh,aqT,<-hf];rfl
   have cC:∀w',Sep No W w' (ami r m y.past ms' f' tb p6 ta tn tc sa sn sk t sc L)->Sl w' ta tn tc 1 bq (dO m.g.m sc):=λw' s=>aO s (i:=1) rfl cY (by decide);have cX:∀w',Sep No W w' (ami r m y.past ms' f' tb p6 ta tn tc sa sn sk t sc L)->Sl w' sa sn sk 3 fS (tC m.g.m t sc):=λw' s=>aO s (i:=0) rfl nq (by decide);have done:∀{fb:Nat} {v1 v2:Value} {w:World} {sr:WA} {x':AR} {da ra:Option Addr} {dc rc:Nat},sr.p=r.sh.p->x'.p=Cs y.k y.x.p (t,sc) ⟨zu m.g sc,tC m.g.m t sc,GM m.g.m t sc,Cu m.g.m t sc⟩->
     Sep No W w (av fb 213 [v1,v2]::ak ra (dO m.g.m sc).length rc 3 1 (flat one (Cu m.g.m t sc))::ak da (dO m.g.m sc).length dc 3 1 (flat one (GM m.g.m t sc))::jV sr y.k x'::ami r m y.past ms' f' tb p6 ta tn tc sa sn sk t sc L)->
     St ((aZ fb).add 0) (.slice da (dO m.g.m sc).length dc) w λw=>St ((aZ fb).add 1) (.slice ra (dO m.g.m sc).length rc) w λw=>jG Q t (aZ p6) (aZ fb) 0 w:=λ{fb v1 v2 w sr x' da ra dc rc} e ex s=>by
    refine atk e (aym x' ex) s λr' w' er s=>?_;exact uA ht hs r' _ da dc ra rc w' er (hp' x' ex) s
   have d6:∀{w:World} {A B C D E G:As} {X:List As},Sep No W w (A::B::C::D::E::G::X)->Sep No W w X:=λs=>ai (ai (ai (ai (ai (ai s)))));refine⟨rO (oK (d6 s)) ?_,?_⟩
   ·refine⟨cg s 3 rfl,cg s 3 rfl,cg s 3 rfl,cg s 5 rfl,?_,?_⟩
    ·refine WD hok.sh (Q3 hmay hs) (aas hmay hs ht) (OX hs) (by omega) cC cX NX hh s λsr x' da dc ra rc w e ex s=>?_;refine aT s λfb w s=>?_;refine⟨cg s 6 rfl,cg s 6 rfl,cg s 6 rfl,cg s 8 rfl,cg s 8 rfl,?_⟩;exact done e ex s
    ·refine aT s λfb w s=>?_;refine⟨cg s 4 rfl,cg s 4 rfl,cg s 4 rfl,cg s 6 rfl,cg s 6 rfl,?_⟩;refine WD hok.sh (Q3 hmay hs) (aas hmay hs ht) (OX hs) (by omega) (λw' s=>cC w' (ai s)) (λw' s=>cX w' (ai s)) NX hh (i_ s) λsr x' da dc ra rc w e ex s=>?_;exact done e ex (pk 4 [3,0,1,2] s)
   ·refine aT s λfb w s=>?_;refine⟨cg s 4 rfl,cg s 4 rfl,cg s 4 rfl,cg s 6 rfl,cg s 6 rfl,?_⟩;apply rO (oK (d6 (ai s)));refine⟨cg s 4 rfl,cg s 4 rfl,cg s 4 rfl,cg s 6 rfl,?_⟩;refine WD hok.sh (Q3 hmay hs) (aas hmay hs ht) (OX hs) (by omega) (λw' s=>cC w' (ai s)) (λw' s=>cX w' (ai s)) NX hh (i_ s) λsr x' da dc ra rc w e ex s=>?_;exact done e ex (pk 4 [3,0,1,2] s)
  ·rw[show cL m.g.m t=0 from by unfold cL;rw[if_neg λe=>ht ⟨hm.g.iO,e.1,by rw[<-hmay.len];exact e.2⟩]];exact ai5 hL (gd (A:=[_,_,_,_]) (B:=[_,_]) [3,2] s rfl (by decide)) λeb w s=>GO (λe=>ht e.1) eb w s
end
end Go.Proofs.YtmegplnmiepfbaaGreatDoor.S
set_option maxRecDepth 20000
namespace Go.Proofs.YtmegplnmiepfbaaGreatDoor.S
open Go.Sx
attribute [local irreducible] af cD bw bg aA cu bZ St Bx Al App cH cA cz bX aL bD aq bU av ak aW mapA
section
variable {W w w0:World}{L:List As}{r:Au}{y:gm}{lg:xE}{t sc ce w1 h1:Int}
def TK {Q:Int->World->Prop}(h:Q 0 w):yP .nilIface w Q:=Qu _ _ _ h
def aev {Q:Int->World->Prop}{eb:Nat}(hL:iQ W lg)(s:Sep No W w (av eb 275 [ae t,.iface 401 (.pointer (some lg.a3))]::L))(h:Q 7 w):yP (.iface 273 (.pointer (sZ eb))) w Q:=by apply Qu;have k:=hL.fr (au s);have hc:=kY s (i:=0) rfl 1 _ rfl;refine tB (mF k.v2 rfl ?_);obtain⟨c2,t2,h2⟩:=k.b2;obtain⟨c3,t3,h3⟩:=k.b3;apply S4 (.inr rfl) (.inl rfl) hc (λx y K hk=>acn (λe=>k.n23 e.symm) h3 h2 hk);apply mF k.v3 rfl;apply S4 (.inr rfl) (.inl rfl) hc (λx y K hk=>WG hk);exact h
def NY {Q:Option Addr->Nat->Nat->Option Addr->Nat->Nat->Int->World->Prop}{m:j8}(ho:y.o=some m)(hL:iQ W lg)(s:Sep No W w (g8 r y::L))(ht:bF m.g.m.w m.g.m.h t)(hs:dW m.g.m.w m.g.m.h sc)(NX:Lr.YG (t,sc))
  (uA:∀r' y' da dc ra rc w',r'.p=r.p->y'.p=GN y.p m.p t sc->Sep No W w' (ak ra (dO m.g.m sc).length rc 3 1 (flat one (Cu m.g.m t sc))::ak da (dO m.g.m sc).length dc 3 1 (flat one (GM m.g.m t sc))::g8 r' y'::L)->Q da (dO m.g.m sc).length dc ra (dO m.g.m sc).length rc 0 w'):
  vA (sZ r.p) t sc w Q:=by
 apply UJ;refine aT s λp6 w s=>?_;refine NW ho hL (i_ s) NX (λe=>(e ⟨ht,hs⟩).elim) λ_ _ r' y' da dc ra rc w er ey s=>?_;refine aT s λfb w s=>?_;refine sT s 0 rfl λw s=>?_;refine ax s (i:=0) rfl rfl rfl λw s=>?_;have s:=ay s;refine lS s 0 rfl (lS s 0 rfl ?_);apply TK;refine⟨cg s 0 rfl,cg s 0 rfl,?_⟩;refine sT s 4 rfl λw s=>?_;refine ax s (i:=4) rfl rfl rfl λw s=>?_;refine lS s 4 rfl (lS s 4 rfl ?_);exact uA r' y' da dc ra rc w er ey (pk 5 [1,2,3] s)
def ao0 (hm:iO w1 h1):iF (aC w1 h1 ce):=by
 have hc:=gM hm.1 hm.2;unfold iF;by_cases h:bF w1 h1 ce
 ·have:=(bW h).2;omega
 ·unfold aC;grind
def acv {ys:List Int}{k:Nat}{x:Int}(h:ys[k]? =some x):x=gi ys k:=by unfold gi;grind
def aew {Q:Int->Int->Value->World->Prop}{m:j8}(ho:y.o=some m)(hL:iQ W lg)(s:Sep No W w (g8 r y::L))(NX:(Lit.int .i64 t).wf=true)
  (GO:¬(bF m.g.m.w m.g.m.h t/\bF m.g.m.w m.g.m.h ce)->∀eb w',Sep No W w' (av eb 275 [ae t,.iface 401 (.pointer (some lg.a3))]::g8 r y::L)->Q 0 0 (.iface 273 (.pointer (sZ eb))) w')
  (uA:bF m.g.m.w m.g.m.h t->bF m.g.m.w m.g.m.h ce->∀r' y' w',r'.p=r.p->y'.p=GN y.p m.p t (cU m.g.m ce)->Sep No W w' (g8 r' y'::L)->Q (D m.g.m t ce) (kI m.g.m t ce) .nilIface w'):
  BV (sZ r.p) t ce w Q:=by
 apply VV;have k:=qW s ho;have hm:=k.ok.m m ho;have hmay:=hm.g.may;refine Rk s k λw s _=>?_;refine eY s λw s _=>?_;refine NW ho hL s ⟨NX,iF.wf (ao0 hm.g.iO)⟩ (λe eb w s=>?_) λht hs r' y' da dc ra rc w er ey s=>?_
 ·refine aT s λfb w s=>?_;refine sT s 0 rfl λw s=>?_;refine sT s 0 rfl λw s=>?_;exact GO (λh=>e ⟨h.1,bW h.2⟩) eb w (ai s)
 ·have hc:bF m.g.m.w m.g.m.h ce:=by
   by_cases h:bF m.g.m.w m.g.m.h ce
   ·exact h
   ·unfold aC at hs;rw[if_neg h]at hs;have:=hs.2.1;omega
  have hlr:=jY hc;have hgl:=nQ hc;have hlen:=Cl (m:=m.g.m) (sc:=aC m.g.m.w m.g.m.h ce);refine aT s λfb w s=>?_;refine sT s 0 rfl λw s=>?_;refine ax s (i:=0) rfl rfl rfl λw s=>?_;refine tq s λw s _=>?_;have s:=ay s;apply lS s 0 rfl;have kD:=aO s (i:=2) rfl cE (by decide);have kR:=aO s (i:=1) rfl cE (by decide);have hk:dX m.g.m.w m.g.m.h ce=((dX m.g.m.w m.g.m.h ce).toNat:Int):=by omega
  apply kD.rE hk (by omega);apply lS s 0 rfl;refine kR.El hk (by omega) λp x hx hcell=>?_;have h0:=hcell 0 _ rfl;refine aR h0 ⟨h0,cg s 0 rfl,?_⟩;have eD:=ar8 hmay hs ht hlr;have eR:=ar9 hmay hs ht hlr;rw[hgl]at eD eR;rw[acv hx,eD,eR];exact uA ht hc r' y' _ er ey (ai (ai (ai s)))
def aex {Q:Int->Int->Int->World->Prop}{m:j8}(ho:y.o=some m)(hL:iQ W lg)(s:Sep No W w (g8 r y::L))(NX:(Lit.int .i64 t).wf=true)
  (GO:¬(bF m.g.m.w m.g.m.h t/\bF m.g.m.w m.g.m.h ce)->∀w',Sep No W w' (g8 r y::L)->Q 0 0 7 w')
  (uA:bF m.g.m.w m.g.m.h t->bF m.g.m.w m.g.m.h ce->∀r' y' w',r'.p=r.p->y'.p=GN y.p m.p t (cU m.g.m ce)->Sep No W w' (g8 r' y'::L)->Q (D m.g.m t ce) (kI m.g.m t ce) 0 w'):
  BU (sZ r.p) t ce w Q:=by
 apply VW;refine aew ho hL s NX (λe eb w s=>?_) λht hc r' y' w er ey s=>?_
 ·exact aev hL s (GO e w (ai s))
 ·exact TK (uA ht hc r' y' w er ey s)
end
def OY (y:tA)(cell goal:Int):tA:=⟨y.most,y.next+1,y.us++[⟨y.next,cell,goal⟩]⟩
section
variable {F:Nat->Prop}{W w w0:World}{L:List As}{r:Wq}{y:tA}{cell goal:Int}
def ao1 {us:List aV}{u:aV}{i:Int}(h:∀v∈us,v.id<u.id):gK (us++[u]) i=if i=u.id then some u else gK us i:=by unfold gK;grind
def ao2 {us:List aV}{i:Int}(h:∀v∈us,v.id≠i):gK us i=none:=by unfold gK;grind
def avm {r:Wq}{mb':Nat}{a:Option Addr}{n c:Nat}{ms':List (Int×aV)}(h:SX r y)(hroom:(y.us.length:Int)<y.most)(hn:y.next<1000000000)(hk:oM ms')(ha:∀i,fy ms' i=if i=y.next then some ⟨y.next,cell,goal⟩else fy r.ms i)(hl:ms'.length=if(fy r.ms y.next).isNone then r.ms.length+1 else r.ms.length):
  SX ⟨r.p,mb',a,n,c,ms',r.os++[y.next]⟩ (OY y cell goal):=by
 have hlt:∀v∈y.us,v.id<y.next:=λv hv=>(h.jA v hv).2
 have hg:∀i,gK (OY y cell goal).us i=if i=y.next then some ⟨y.next,cell,goal⟩else gK y.us i:=λi=>ao1 hlt
 have hno:gK y.us y.next=none:=ao2 λv hv=>by grind
 refine⟨h.most,hk,λi=>?_,?_,?_,?_,?_,?_,?_,?_,?_⟩
 ·rw[hg,ha,h.fy]
 ·show ms'.length=(y.us++[_]).length;rw[hl,h.fy,hno,List.length_append,h.len];rfl
 ·show(r.os++[y.next]).filter _=(y.us++[_]).map _;rw[List.filter_append,List.map_append,<-h.ord];congr 1
  ·refine List.filter_congr λi hi=>?_;have:=(h.onx i hi).2;grind
  grind
 ·show(r.os++[_]).length<=2*(y.us++[_]).length;have:=h.aiC;grind
 ·show((y.us++[_]).map _).Pairwise _;rw[List.map_append,List.pairwise_append];refine⟨h.NF,by simp,λa ha b hb=>?_⟩;grind
 ·intro u hu;show 0<=u.id/\u.id<y.next+1
  rcases List.mem_append.1 hu with hu|hu
  ·have:=h.jA u hu;omega
  ·rw[List.mem_singleton]at hu;subst hu;have:=h.Q9;grind
 ·show((y.us++[_]).length:Int)<=y.most;grind
 ·intro i hi;show 0<=i/\i<y.next+1
  rcases List.mem_append.1 hi with hi|hi
  ·have:=h.onx i hi;omega
  ·rw[List.mem_singleton]at hi;have:=h.Q9;omega
 ·have:=h.Q9;show 0<=y.next+1/\y.next+1<=1000000000
  omega
def acw {Q:Int->Bool->World->Prop}(s:Sep F W w (vY r y::L))(hn:y.next<1000000000)(hroom:(y.us.length:Int)<y.most)
  (h:∀r' w',r'.p=r.p->Sep F W w' (vY r' (OY y cell goal)::L)->Q y.next true w'):yN (sZ r.p) cell goal w Q:=by
 apply P9;obtain⟨hok,s⟩:=uM (ay s);refine kX (ah (lM s 0 rfl (ah (lI s 0 rfl ?_))));apply aqB Kv s (i:=1) rfl;refine⟨cg s 0 rfl,?_⟩;rw[hok.len,bp];have Rm:=hok.Q9;refine ah (lI s 0 rfl (ah (lI s 0 rfl ?_)));rw[Hz (iF.wf (by unfold iF;omega))];refine ah (sT s 0 rfl λw s=>?_);refine ah (lM s 0 rfl ?_);refine LZ (ms:=r.ms) (a:=⟨y.next,cell,goal⟩) Kv s (i:=1) rfl hok.FB (by show iF y.next;unfold iF;omega) λms' w hk ha hl s=>?_;refine ah (lS s 0 rfl ?_);have s:=pk 3 [2,0,1] s;have hol:=hok.aiC;have Xr:=hok.most;have Cj:=(aO s (i:=0) rfl cE (by decide)).len;refine LA s (by omega) λa' c' w s=>?_;refine ah (ax s (i:=1) rfl rfl rfl λw s=>?_);refine h ⟨r.p,r.mb,a',r.on+1,c',ms',r.os++[y.next]⟩ w rfl (E1 ?_ (avm hok hroom hn hk ha hl));exact pk 3 [1,2,0] s
end
def vO (y:tA)(id:Int)(f:aV->aV):tA:=⟨y.most,y.next,y.us.map λv=>if v.id=id then f v else v⟩
section
variable {F:Nat->Prop}{W w w0:World}{L:List As}{r:Wq}{y:tA}{cell goal id:Int}{f:aV->aV}
def afz (hf:∀u,(f u).id=u.id){i:Int}:∀{us:List aV},gK (us.map λv=>if v.id=id then f v else v) i=if i=id then(gK us id).map f else gK us i
 |[]=>by simp[gK]
 |u::us=>by have ih:=afz (i:=i) hf (us:=us);unfold gK at ih⊢;grind
def aqV (hf:∀u,(f u).id=u.id){us:List aV}:(us.map λv=>if v.id=id then f v else v).map (·.id)=us.map (·.id):=by rw[List.map_map];refine List.map_congr_left λv _=>?_;grind
def atl {u:aV}{ms':List (Int×aV)}(h:SX r y)(hf:∀u,(f u).id=u.id)(hu:gK y.us id=some u)(hk:oM ms')(ha:∀i,fy ms' i=if i=id then some (f u)else fy r.ms i)(hl:ms'.length=if(fy r.ms id).isNone then r.ms.length+1 else r.ms.length):
  SX ⟨r.p,r.mb,r.oa,r.on,r.oc,ms',r.os⟩ (vO y id f):=by
 have hg:∀i,gK (vO y id f).us i=if i=id then(gK y.us id).map f else gK y.us i:=λi=>afz hf
 have JO:(vO y id f).us.map (·.id)=y.us.map (·.id):=aqV hf;have hlen:(vO y id f).us.length=y.us.length:=by have:=congrArg List.length JO;grind
 refine⟨h.most,hk,λi=>?_,?_,?_,?_,?_,?_,?_,h.onx,h.Q9⟩
 ·rw[hg,ha,h.fy,hu];rfl
 ·rw[hlen,hl,h.fy,hu,<-h.len];rfl
 ·rw[JO,<-h.ord];grind
 ·rw[hlen];exact h.aiC
 ·rw[JO];exact h.NF
 ·intro v hv;have hm:v.id∈(vO y id f).us.map (·.id):=List.mem_map.2 ⟨v,hv,rfl⟩;rw[JO]at hm;obtain⟨v',G8,e⟩:=List.mem_map.1 hm;rw[<-e];exact h.jA v' G8
 ·rw[hlen];exact h.nv
def N0 {Q:Bool->World->Prop}{WQ:Value}(zO:iF id)(hf:∀u,(f u).id=u.id)
  (awj:∀(x:Nat) (w:World) (u:aV) (K:World->Prop),Sep F W w (av x 43 (iy u)::vY r y::L)->(∀w',Sep F W w' (av x 43 (iy (f u))::vY r y::L)->K w')->h_ (cx 25) WQ [.pointer (sZ x)] w λv w'=>dT v λl=>kL l (K w'))
  (s:Sep F W w (vY r y::L))(hno:gK y.us id=none->∀w',Sep F W w' (vY r y::L)->Q false w')
  (hyes:(gK y.us id).isSome=true->∀r' w',r'.p=r.p->Sep F W w' (vY r' (vO y id f)::L)->Q true w'):rZ (sZ r.p) id WQ w Q:=by
 apply Qe;refine sC s zO (λhn w s=>?_) λu hu w s=>?_
 ·refine aT s λx w s=>?_;refine sT s 0 rfl λw s=>?_;refine sT s 0 rfl λw s=>?_;refine sT s 0 rfl λw s=>?_;exact hno hn w (ai s)
 ·refine aT s λx w s=>?_;refine sT s 0 rfl λw s=>?_;refine sT s 0 rfl λw s=>?_;refine ax s (i:=0) rfl rfl rfl λw s=>?_;refine awj x w u _ s λw s=>?_;have s:=ay s;obtain⟨hok,s⟩:=uM (i_ s);refine ah (lM s 0 rfl ?_);refine lI s 3 rfl (lI s 3 rfl (lI s 3 rfl ?_));refine LZ Kv s (i:=1) rfl hok.FB zO λms' w hk ha hl s=>?_;refine hyes (by rw[hu];rfl) ⟨r.p,r.mb,r.oa,r.on,r.oc,ms',r.os⟩ w rfl (E1 ?_ (atl hok hf hu hk ha hl));exact pk 4 [0,1,2] s
def az7:oP 156 fns=true:=by kernel_rfl
def az8:oP 128 fns=true:=by kernel_rfl
def amj {m x b:Nat}{Q:World->Prop}(h:BW (sZ x) (sZ b) w Q):h_ (cx m) (.func (.func 156) #[] #[.pointer (sZ b)]) [.pointer (sZ x)] w λv w'=>dT v λl=>kL l (Q w'):=by unfold h_;simp only;exact h
def ao3 {m x b:Nat}{Q:World->Prop}(h:De (sZ x) (sZ b) w Q):h_ (cx m) (.func (.func 128) #[] #[.pointer (sZ b)]) [.pointer (sZ x)] w λv w'=>dT v λl=>kL l (Q w'):=by unfold h_;simp only;exact h
def aat {Q:Bool->World->Prop}(zO:iF id)(s:Sep F W w (vY r y::L))(hno:gK y.us id=none->∀w',Sep F W w' (vY r y::L)->Q false w')
  (hyes:(gK y.us id).isSome=true->∀r' w',r'.p=r.p->Sep F W w' (vY r' (vO y id λu=>⟨u.id,cell,u.goal⟩)::L)->Q true w'):xR (sZ r.p) id cell w Q:=by
 apply OI;refine aN s λcb w s=>?_;refine N0 (f:=λu=>⟨u.id,cell,u.goal⟩) zO (λu=>rfl) (λx w u K s hK=>?_) (i_ s) (λhn w s=>hno hn w (gB s (.cons_cons _ (List.sublist_cons_self _ _)))) (λhs r' w e s=>hyes hs r' w e (gB s (.cons_cons _ (List.sublist_cons_self _ _))));apply amj;apply Lq;refine ah (lI s 2 rfl (ah (sT s 0 rfl λw s=>?_)));exact hK w s
def acy {Q:Bool->World->Prop}(zO:iF id)(s:Sep F W w (vY r y::L))(hno:gK y.us id=none->∀w',Sep F W w' (vY r y::L)->Q false w')
  (hyes:(gK y.us id).isSome=true->∀r' w',r'.p=r.p->Sep F W w' (vY r' (vO y id λu=>⟨u.id,u.cell,goal⟩)::L)->Q true w'):yM (sZ r.p) id goal w Q:=by
 apply Qf;refine aN s λcb w s=>?_;refine N0 (f:=λu=>⟨u.id,u.cell,goal⟩) zO (λu=>rfl) (λx w u K s hK=>?_) (i_ s) (λhn w s=>hno hn w (gB s (.cons_cons _ (List.sublist_cons_self _ _)))) (λhs r' w e s=>hyes hs r' w e (gB s (.cons_cons _ (List.sublist_cons_self _ _))));apply ao3;apply MF;refine ah (lI s 2 rfl (ah (sT s 0 rfl λw s=>?_)));exact hK w s
end
section
variable {F:Nat->Prop}{W w w0:World}{L:List As}{r:Wq}{y:tA}{cell goal id:Int}{a:Option Addr}{n c:Nat}{us:List aV}
def aqW {x:aV}{K:Option Addr->Nat->Nat->World->Prop}(s:Sep F W w (ak a n c 43 3 (flat iy us)::L))(hn:n<=1000000000)
  (k:∀a' c' w',Sep F W w' (ak a' (n+1) c' 43 3 (flat iy (us++[x]))::L)->K a' (n+1) c' w'):Bx [ae x.id,ae x.cell,ae x.goal] 43 w λp w1=>App P #[39,39] 39 (.slice a n c) (.slice (some p) 1 1) w1 K:=by
 refine aN s λb w s=>?_;have src:Src w (sZ b) 1 3 (iy x):=⟨rfl,aov x,λj u hj=>by rw[cq,Nat.zero_add];exact cM s (i:=0) rfl rfl hj⟩;refine ig ee s (i:=1) (bytes:=24) rfl rfl rfl rfl rfl rfl (by decide) rfl src (by simp[maxLen];omega) (by omega) (λe=>by cases e) λa1 c1 w1 s1=>?_;have e:flat iy us++iy x=flat iy (us++[x]):=by rw[fX];simp[flat]
 rw[e]at s1;exact k _ _ _ (ai s1)
def Xs (h:(us.map (·.id)).Pairwise (·<·)){i:Nat}{u:aV}(hu:us[i]? =some u):gK us u.id=some u:=by
 unfold gK;induction us generalizing i with
 |nil=>simp at hu
 |cons v us ih=>
  rw[List.map_cons,List.pairwise_cons]at h;cases i with
  |zero=>
   grind
  |succ i=>
   have:=h.1 u.id (List.mem_map.2 ⟨u,List.mem_of_getElem? hu,rfl⟩);grind
def acz {Q:Option Addr->Nat->Nat->World->Prop}(s:Sep F W w (vY r y::L))(h:∀a n c w',Sep F W w' (ak a n c 43 3 (flat iy y.us)::vY r y::L)->Q a n c w'):yJ (sZ r.p) w Q:=by
 apply Qv;obtain⟨hok,s⟩:=uM s;have oT:=hok.nv;have Xr:=hok.most;have hol:=hok.aiC;have Rm:=hok.Q9;apply kX;refine YI hok.FB (λi hi=>by have:=hok.onx i hi;unfold iF;omega) (by omega) s λia N ic w s=>?_;have ayp:(r.os.filter λi=>(fy r.ms i).isSome)=y.us.map (·.id):=by rw[<-hok.ord];refine List.filter_congr λi _=>?_;rw[hok.fy]
 rw[ayp]at s;have hN:y.us.length=N:=by have:=(aO s (i:=0) rfl cE (by decide)).len;grind
 have loop:∀(j i:Nat) (a:Option Addr) (n c:Nat) (w:World),i+j=N->Sep F W w (ak a n c 43 3 (flat iy (y.us.take i))::ak ia N ic 3 1 (flat one (y.us.map (·.id)))::av r.p 171 (Wr r y)::fO fq Ix r.mb r.ms::ak r.oa r.on r.oc 3 1 (flat one r.os)::L)->
   vM Q (j+1) (sZ r.p) a n c ia N ic (N:Int) i w:=by
  intro j;induction j with
  |zero=>
   intro i a n c w hij s;show qH _ _ _ _ _ _ _ _ _ _ _ _;rw[qH,bp];rw[List.take_of_length_le (by omega)]at s;apply h a n c w;have s:=pk 5 [2,3,4,0] s;exact ck (E1 s hok) (List.Perm.swap _ _ _)
  |succ j ih=>
   intro i a n c w hij s;show qH _ _ _ _ _ _ _ _ _ _ _ _;rw[qH,bM];have hi:i<y.us.length:=by omega
   have hn:=(aO s (i:=0) rfl Ja (by decide)).len;rw[List.length_take]at hn;obtain⟨u,hu⟩:∃u,y.us[i]? =some u:=⟨_,List.getElem?_eq_getElem hi⟩;have hgi:gi (y.us.map (·.id)) i=u.id:=by unfold gi;grind
   have yf:y.us.take (i+1)=y.us.take i++[u]:=by rw[List.take_add_one,hu];rfl
   have hr:=hok.jA u (List.mem_of_getElem? hu);have hgu:=Xs hok.NF hu;have wr:IntKind.wrap .i64 ((i:Int)+1)=((i+1:Nat):Int):=by rw[Hz (iF.wf (by unfold iF;omega))];omega
   apply(aO s (i:=1) rfl cE (by decide)).rE rfl (by omega);rw[hgi];refine ah (lM s 2 rfl ?_);refine Ew (K:=fq) Kv (aaj w) s (i:=3) rfl hok.FB (by show iF u.id;unfold iF;omega) (λh=>?_) λv hv=>?_
   ·rw[hok.fy,hgu]at h;cases h
   ·rw[hok.fy,hgu]at hv;cases hv;refine aqW s (by omega) λa' c' w s=>?_;grind
 exact⟨N+1,loop N 0 none 0 0 w (by omega) (bE s 43 3)⟩
end
def kU (y:tA)(id:Int):tA:=⟨y.most,y.next,y.us.filter λv=>!decide (v.id=id)⟩
section
variable {F:Nat->Prop}{W w w0:World}{L:List As}{r:Wq}{y:tA}{id:Int}
def ao4 {us:List aV}{i:Int}:gK (us.filter λv=>!decide (v.id=id)) i=if i=id then none else gK us i:=by unfold gK;grind
def aqX {us:List aV}:(us.filter λv=>!decide (v.id=id)).map (·.id)=(us.map (·.id)).filter λi=>!decide (i=id):=by rw[List.filter_map];rfl
def aau {us:List aV}(h:(us.map (·.id)).Pairwise (·<·))(hu:(gK us id).isSome=true):(us.filter λv=>!decide (v.id=id)).length=us.length-1:=by
 unfold gK at hu;induction us with
 |nil=>simp at hu
 |cons u us ih=>
  rw[List.map_cons,List.pairwise_cons]at h;by_cases e:u.id=id
  ·rw[List.filter_cons_of_neg (by simp[e]),List.length_cons,Nat.add_sub_cancel];refine congrArg List.length (List.filter_eq_self.2 λv hv=>?_);have:=h.1 v.id (List.mem_map.2 ⟨v,hv,rfl⟩);grind
  grind
def ak0 {ms':List (Int×aV)}{oa:Option Addr}{on oc:Nat}{os':List Int}(h:SX r y)(hu:(gK y.us id).isSome=true)(hk:oM ms')(ha:∀i,fy ms' i=if i=id then none else fy r.ms i)(hl:ms'.length=if(fy r.ms id).isNone then r.ms.length else r.ms.length-1)
  (hos:(os'=r.os/\os'.length<=2*(kU y id).us.length)\/os'=r.os.filter λi=>(fy ms' i).isSome):SX ⟨r.p,r.mb,oa,on,oc,ms',os'⟩ (kU y id):=by
 have hg:∀i,gK (kU y id).us i=if i=id then none else gK y.us i:=λi=>ao4
 have JO:(kU y id).us.map (·.id)=(y.us.map (·.id)).filter λi=>!decide (i=id):=aqX;have hlen:(kU y id).us.length=y.us.length-1:=aau h.NF hu;have hsub:∀v∈(kU y id).us,v∈y.us:=λv hv=>(List.mem_filter.1 hv).1;have Wm:∀i,fy ms' i=gK (kU y id).us i:=λi=>by rw[hg,ha,h.fy]
 have ayq:((kU y id).us.map (·.id)).Pairwise (·<·):=by rw[JO];exact h.NF.filter _
 have aBI:r.os.filter (λi=>(gK (kU y id).us i).isSome)=(kU y id).us.map (·.id):=by rw[JO,<-h.ord,List.filter_filter];grind
 have N2:os'=r.os/\os'.length<=2*(kU y id).us.length\/os'=(kU y id).us.map (·.id):=by grind
 refine⟨h.most,hk,Wm,?_,?_,?_,ayq,λv hv=>h.jA v (hsub v hv),?_,λi hi=>?_,h.Q9⟩
 ·rw[hlen,hl,h.fy,<-h.len];cases hu':gK y.us id with
  |none=>grind
  |some _=>rfl
 ·rcases N2 with⟨e,_⟩|e
  ·grind
  ·rw[e];refine List.filter_eq_self.2 λi hi=>?_;grind
 ·grind
 ·have:=h.nv;show((kU y id).us.length:Int)<=y.most;omega
 ·rcases N2 with⟨e,_⟩|e
  ·rw[e]at hi;exact h.onx i hi
  ·rw[e]at hi;obtain⟨v,hv,rfl⟩:=List.mem_map.1 hi;exact h.jA v (hsub v hv)
def aav {Q:Bool->World->Prop}(zO:iF id)(s:Sep F W w (vY r y::L))(hu:(gK y.us id).isSome=true)
  (hyes:∀r' w',r'.p=r.p->Sep F W w' (vY r' (kU y id)::L)->Q true w'):xQ (sZ r.p) id w Q:=by
 apply Ot;refine sC s zO (λhn w s=>by grind) λu hu' w s=>?_;refine aT s λx w s=>?_;refine sT s 0 rfl λw s=>?_;refine sT s 0 rfl λw s=>?_;refine sT s 0 rfl λw s=>?_;rw[Bool.not_true,cond_false];obtain⟨hok,s⟩:=uM (ai s);have oT:=hok.nv;have Xr:=hok.most;have hol:=hok.aiC;have Rm:=hok.Q9;have Cj:=(aO s (i:=2) rfl cE (by decide)).len;refine ah (lM s 0 rfl ?_);refine au2 (K:=fq) Kv s (i:=1) rfl hok.FB zO λms' w hk ha hl s=>?_;have s:=ay s;have hml:ms'.length=(kU y id).us.length:=by rw[hl,hok.fy,hu',hok.len];exact(aau hok.NF hu).symm
 have hdl:(kU y id).us.length=y.us.length-1:=aau hok.NF hu;refine ah (lS s 0 rfl (ah (lM s 0 rfl ?_)));apply aqB Kv s (i:=1) rfl;refine⟨cg s 0 rfl,?_⟩;rw[Hz (iF.wf (by unfold iF;omega))];by_cases ahl:(r.on:Int)>2*((ms'.length:Nat):Int)
 ·rw[bM ahl];refine YI hk (λi hi=>by have:=hok.onx i hi;unfold iF;omega) (by omega) s λa n c w s=>?_;refine ah (ax s (i:=1) rfl rfl rfl λw s=>?_);refine hyes ⟨r.p,r.mb,a,n,c,ms',_⟩ w rfl (E1 ?_ (ak0 hok hu hk ha hl (.inr rfl)));exact pk 4 [1,2,0] s
 ·rw[bp ahl];exact hyes ⟨r.p,r.mb,r.oa,r.on,r.oc,ms',r.os⟩ _ rfl (E1 s (ak0 hok hu hk ha hl (.inl ⟨rfl,by omega⟩)))
end
def Ez (out:List Int)(u:aV):List Int:=if u.goal∈out then out else out++[u.goal]
def tD (us:List aV):List Int:=us.foldl Ez []
def ao5 {us:List aV}:(tD us).length<=us.length:=by
 have:∀(us:List aV) (out:List Int),(us.foldl Ez out).length<=out.length+us.length:=by
  intro us;induction us with
  |nil=>grind
  |cons u us ih=>
   intro out;have h2:(Ez out u).length<=out.length+1:=by unfold Ez;grind
   grind
 have:=this us [];simpa[tD]using this
def C7 (b:Bool):Value:=.bool b
def OZ:P.underlying 258=some (.map 3 4):=by kernel_rfl
def aaw (w:World):(zeroValue 4).run P w=.ok (C7 false) w:=by kernel_rfl
section
variable {F:Nat->Prop}{W w w0:World}{L:List As}{la:Option Addr}{ln lc:Nat}{us:List aV}
def aax {Q:Option Addr->Nat->Nat->World->Prop}(s0:Sep F W w0 L)(hU:Sl w0 la ln lc 3 iy us)(pZ:ln<=1000000)(zO:∀u∈us,iF u.goal)
  (h:∀a n c w',Sep F W w' (ak a n c 3 1 (flat one (tD us))::L)->Fr No w0 w'->Q a n c w'):EK la ln lc w0 Q:=by
 apply ZN;have hlen:=hU.len;refine aai (bh (F:=No)) 258 fq C7 λmb w s=>?_;have loop:∀(j i:Nat) (a:Option Addr) (n c:Nat) (ms:List (Int×Bool)) (w:World),i+j=ln->n<=i->oM ms->(∀g,fy ms g=if g∈tD (us.take i)then some true else none)->Sep No w0 w (ak a n c 3 1 (flat one (tD (us.take i)))::fO fq C7 mb ms::[])->
   C0 Q (j+1) a n c (some mb) la ln lc (ln:Int) i w:=by
  intro j;induction j with
  |zero=>
   intro i a n c ms w hij hni hk ha s;show zl _ _ _ _ _ _ _ _ _ _ _ _;rw[zl,bp];rw[List.take_of_length_le (by omega)]at s;have s:=cf (L':=[ak a n c 3 1 (flat one (tD us))]) [0] s rfl (by decide);exact h a n c w (fu s0 s) (au s)
  |succ j ih=>
   intro i a n c ms w hij hni hk ha s;show zl _ _ _ _ _ _ _ _ _ _ _ _;rw[zl,bM];refine(hU.fr (au s)).El rfl (by omega) λp u hu hc=>?_;have hug:=zO u (List.mem_of_getElem? hu);have yf:tD (us.take (i+1))=Ez (tD (us.take i)) u:=by unfold tD;rw[List.take_add_one,hu];grind
   have wr:IntKind.wrap .i64 ((i:Int)+1)=((i+1:Nat):Int):=by rw[Hz (iF.wf (by unfold iF;omega))];omega
   refine aR (hc 0 _ rfl) (aR (hc 1 _ rfl) (aR (hc 2 _ rfl) ?_));refine aT s λx w s=>?_;refine sT s 0 rfl λw s=>?_;refine sT s 0 rfl λw s=>?_;refine ax s (i:=0) rfl rfl rfl λw s=>?_;apply lI s 0 rfl;rw[wr];refine Ew (K:=fq) OZ (aaw w) s (i:=2) rfl hk hug (λhn=>?_) λb hb=>?_
   ·have hno:u.goal∉tD (us.take i):=λhm=>by rw[ha,if_pos hm]at hn;cases hn
    apply lI s 0 rfl;refine LZ OZ s (i:=2) rfl hk hug λms' w hk' Ed hl' s=>?_;apply lI s 0 rfl;have s:=cf (L':=[_,_,_]) [1,0,2] s rfl (by decide);refine LA s (by omega) λa' c' w s=>?_;refine ih (i+1) a' (n+1) c' ms' w (by omega) (by omega) hk' (λg=>?_) ?_
    ·rw[Ed,ha,yf];rw[Ez,if_neg hno];by_cases e:g=u.goal
     ·rw[if_pos e,if_pos (by rw[e];simp)]
     ·have:(g∈tD (us.take i)++[u.goal])↔g∈tD (us.take i):=by simp[e]
      rw[if_neg e];simp[this]
    ·rw[yf];rw[Ez,if_neg hno];exact cf (L':=[_,_]) [0,2] s rfl (by decide)
   ·have hm:u.goal∈tD (us.take i):=by
     rw[ha]at hb;split at hb
     ·assumption
     ·cases hb
    rw[ha,if_pos hm]at hb;cases hb;refine ih (i+1) a n c ms w (by omega) (by omega) hk (λg=>?_) ?_
    ·rw[ha,yf];rw[Ez,if_pos hm]
    ·rw[yf];rw[Ez,if_pos hm];exact ai s
 exact⟨ln+1,loop ln 0 none 0 0 [] w (by omega) (by omega) List.Pairwise.nil (λg=>rfl) (bE s 3 1)⟩
end
end Go.Proofs.YtmegplnmiepfbaaGreatDoor.S
namespace Go.Proofs.YtmegplnmiepfbaaGreatDoor.S
open Go.Sx
def afA {F:Nat->Prop}{W w:World}{L:List As}{K:Option Nat->World->Prop}{n:Int}{k' e:TypeId}{P:Program}{t:TypeId}(ht:P.underlying t=some (.map k' e))(s:Sep F W w L)(k:TypeId)(h:∀b w',Sep F W w' (mapA P k b []::L)->K (some b) w'):cz P t (some (ae n)) w K:=by
 unfold Sx.cz aL;have e:(Instr.makeMap t (some (ae n))).run P w=.ok (.map (some w.heap.size)) (w.alloc (.map #[] 0)):=by simp[Instr.makeMap,newObj,run_underlying ht,asInt,Result.andThen];rfl
 rw[e];refine h _ _ (Hy s (Fr.alloc Fr.refl _) ?_ λx hx=>?_)
 ·exact⟨#[],0,heap_alloc_new w _,rfl,by simp⟩
 ·have hx:x=w.heap.size:=hx;omega
attribute [local irreducible] af cD bw bg aA cu bZ St Bx Al App cH cA cz bX aL bD aq bU av ak aW mapA
structure nP (w h:Int) (us:List aV):Prop where
 wh:iO w h
 ids:(us.map (·.id)).Pairwise (·<·)
 pos:∀u∈us,0<=u.id
 at_:∀u∈us,bF w h u.cell/\bF w h u.goal
 nd:(us.map (·.cell)).Nodup
section
variable {F:Nat->Prop}{W w w0:World}{L:List As}{la:Option Addr}{ln lc:Nat}{us:List aV}{mw mh:Int}
def Av {c:Int}(h:bF mw mh c):iF c:=by have:=mU h.1;have:=h.2;unfold iF;omega
def Rn {Q:Bool->World->Prop}(s0:Sep F W w0 L)(hU:Sl w0 la ln lc 3 iy us)(pZ:ln<=1000000)(hm:nP mw mh us)
  (h:∀w',Sep F W w' L->Fr No w0 w'->Q true w'):CH mw mh la ln lc w0 Q:=by
 apply adK;apply pL;rw[decide_eq_true hm.wh,Bool.not_true,cond_false];refine afA OZ (bh (F:=No)) 3 λmb w s=>?_;have s:=s;have loop:∀(j i:Nat) (last:Int) (ms:List (Int×Bool)) (w:World),i+j=ln->(∀u∈us.drop i,last<u.id)->oM ms->(∀g,fy ms g=if g∈(us.take i).map (·.cell)then some true else none)->Sep No w0 w (fO fq C7 mb ms::[])->
   Gi Q (j+1) mw mh last (some mb) la ln lc (ln:Int) i w:=by
  intro j;induction j with
  |zero=>
   intro i last ms w hij hl hk ha s;show Cf _ _ _ _ _ _ _ _ _ _ _ _;rw[Cf,bp];exact h w (fu s0 (ai s)) (au s)
  |succ j ih=>
   intro i last ms w hij hl hk ha s;show Cf _ _ _ _ _ _ _ _ _ _ _ _;rw[Cf,bM];refine(hU.fr (au s)).El rfl (by omega) λp u hu hc=>?_;have hmem:=List.mem_of_getElem? hu;obtain⟨YC,U7⟩:=hm.at_ u hmem;have hd:us.drop i=u::us.drop (i+1):=by have hi:=(List.getElem?_eq_some_iff.1 hu).1;rw[List.drop_eq_getElem_cons hi];have:=(List.getElem?_eq_some_iff.1 hu).2;rw[this]
   have yf:us.take (i+1)=us.take i++[u]:=by rw[List.take_add_one,hu];rfl
   have hno:u.cell∉(us.take i).map (·.cell):=λhin=>by have hnd:=hm.nd;rw[<-List.take_append_drop i us,hd,List.map_append,List.map_cons,List.nodup_append]at hnd;exact hnd.2.2 _ hin _ (List.mem_cons_self ..) rfl
   have av1:=hl u (by rw[hd];exact List.mem_cons_self ..);have awk:∀v∈us.drop (i+1),u.id<v.id:=λv hv=>by have hp:=hm.ids;rw[<-List.take_append_drop i us,hd,List.map_append,List.map_cons,List.pairwise_append]at hp;exact(List.pairwise_cons.1 hp.2.1).1 v.id (List.mem_map.2 ⟨v,hv,rfl⟩)
   have wr:IntKind.wrap .i64 ((i:Int)+1)=((i+1:Nat):Int):=by rw[Hz (iF.wf (by unfold iF;omega))];omega
   refine aR (hc 0 _ rfl) (aR (hc 1 _ rfl) (aR (hc 2 _ rfl) ?_));refine aT s λx w s=>?_;refine sT s 0 rfl λw s=>?_;refine sT s 0 rfl λw s=>?_;refine ax s (i:=0) rfl rfl rfl λw s=>?_;apply lI s 0 rfl;rw[bp];apply lI s 0 rfl;refine eY s λw s _=>?_;have h1:=(bW YC).2.1;have h2:=(bW U7).2.1;rw[bp];apply lI s 0 rfl;refine eY s λw s _=>?_;rw[bp];apply lI s 0 rfl;rw[wr];refine Ew (K:=fq) OZ (aaw w) s (i:=1) rfl hk (Av YC) (λhn=>?_) λb hb=>?_
   ·have s:=ay s;refine lI s 0 rfl (lI s 0 rfl ⟨cg s 0 rfl,?_⟩);refine LZ OZ s (i:=1) rfl hk (Av YC) λms' w hk' Ed hl' s=>?_;refine ih (i+1) u.id ms' w (by omega) awk hk' (λg=>?_) (ai s);rw[Ed,ha,yf,List.map_append];by_cases e:g=u.cell
    ·rw[if_pos e,if_pos (by rw[e];simp)]
    ·have:(g∈(us.take i).map (·.cell)++[u].map (·.cell))↔g∈(us.take i).map (·.cell):=by simp[e]
     rw[if_neg e];simp only[this]
   ·rw[ha,if_neg hno]at hb;cases hb
 exact⟨ln+1,loop ln 0 (-1) [] w (by omega) (λu hu=>by have:=hm.pos u (List.mem_of_mem_drop hu);omega) List.Pairwise.nil (λg=>rfl) s⟩
end
end Go.Proofs.YtmegplnmiepfbaaGreatDoor.S
namespace Go.Proofs.YtmegplnmiepfbaaGreatDoor.S
open Go.Sx
def stand (us:List aV)(c:Int):Bool:=us.any λv=>decide (v.cell=c)
def uD (w h:Int)(st:List aV)(u:aV)(d:Int):Bool:=decide (0<=a_ w h u.cell d)&&!stand st (a_ w h u.cell d)
def nS (w h:Int)(u:aV)(d:Int):List aV:=if a_ w h u.cell d=u.goal then[]else[⟨u.id,a_ w h u.cell d,u.goal⟩]
def dh (w h:Int):List aV->List (aV×Int)->List aV×List (Int×Int)×List Int
 |done,[]=>(done,[],[])
 |done,(u,d)::rest=>
  if uD w h (done++u::rest.map (·.1)) u d=true then
   ((dh w h (done++nS w h u d) rest).1,(u.id,a_ w h u.cell d)::(dh w h (done++nS w h u d) rest).2.1,(if a_ w h u.cell d=u.goal then[u.id]else[])++(dh w h (done++nS w h u d) rest).2.2)
  else dh w h (done++[u]) rest
section
variable {w h d:Int}{done us:List aV}{u:aV}{rest todo:List (aV×Int)}
def H_ (hb:uD w h (done++u::rest.map (·.1)) u d=true):dh w h done ((u,d)::rest)=((dh w h (done++nS w h u d) rest).1,(u.id,a_ w h u.cell d)::(dh w h (done++nS w h u d) rest).2.1,(if a_ w h u.cell d=u.goal then[u.id]else[])++(dh w h (done++nS w h u d) rest).2.2):=by rw[dh,if_pos hb]
def Ia (hb:uD w h (done++u::rest.map (·.1)) u d=false):dh w h done ((u,d)::rest)=dh w h (done++[u]) rest:=by rw[dh,if_neg (by grind)]
def afB {c:Int}:stand us c=true↔c∈us.map (·.cell):=by unfold stand;grind
def aey:uD w h us u d=true↔0<=a_ w h u.cell d/\a_ w h u.cell d∉us.map (·.cell):=by rw[uD,Bool.and_eq_true,decide_eq_true_eq,<-afB];grind
def nP.sub {us':List aV}(hm:nP w h us)(hs:us'.Sublist us):nP w h us':=
 ⟨hm.wh,hm.ids.sublist (hs.map _),λv hv=>hm.pos v (hs.subset hv),λv hv=>hm.at_ v (hs.subset hv),hm.nd.sublist (hs.map _)⟩
def nP.WQ {v:aV}{us':List aV}(hm:nP w h (done++u::us'))(zO:v.id=u.id)(hc:bF w h v.cell)(hg:bF w h v.goal)(hn:v.cell∉(done++us').map (·.cell)):nP w h (done++v::us'):=by
 have hmem:∀x∈done++v::us',x=v\/x∈done++u::us':=λx hx=>by grind
 have hu:u∈done++u::us':=by simp
 refine⟨hm.wh,?_,λx hx=>?_,λx hx=>?_,?_⟩
 ·have:=hm.ids;grind
 ·rcases hmem x hx with rfl|hx
  ·rw[zO];exact hm.pos u hu
  ·exact hm.pos x hx
 ·rcases hmem x hx with rfl|hx
  ·grind
  ·exact hm.at_ x hx
 ·have h0:=hm.nd;grind
def ai6 (hb:uD w h us u d=true):bF w h (a_ w h u.cell d):=(uR (aey.1 hb).1).2
def ai7 {us':List aV}(hm:nP w h (done++u::us'))(hb:uD w h (done++u::us') u d=true):nP w h ((done++nS w h u d)++us'):=by
 obtain⟨h0,h1⟩:=aey.1 hb;rw[List.append_assoc];unfold nS;split
 ·exact hm.sub (List.Sublist.append_left (List.sublist_cons_self _ _) _)
 ·refine hm.WQ rfl (ai6 hb) (hm.at_ u (by simp)).2 λhin=>h1 ?_;grind
def WS:∀(todo:List (aV×Int)) (done:List aV),nP w h (done++todo.map (·.1))->nP w h (dh w h done todo).1
 |[],done,hm=>by simpa[dh]using hm
 |(u,d)::rest,done,hm=>by
  cases hb:uD w h (done++u::rest.map (·.1)) u d with
  |true=>
   rw[H_ hb];exact WS rest _ (ai7 hm hb)
  |false=>
   rw[Ia hb];exact WS rest _ (by grind)
def acB:∀(todo:List (aV×Int)) (done:List aV),(dh w h done todo).2.1=[]->(dh w h done todo).1=done++todo.map (·.1)
 |[],done,_=>by simp[dh]
 |(u,d)::rest,done,hm=>by
  cases hb:uD w h (done++u::rest.map (·.1)) u d with
  |true=>rw[H_ hb]at hm;cases hm
  |false=>
   rw[Ia hb]at hm⊢;rw[acB rest _ hm];simp
def acC:∀(todo:List (aV×Int)) (done:List aV) {m:Int×Int} {ms:List (Int×Int)},(dh w h done todo).2.1=m::ms->
  ∃done' u d rest,uD w h (done'++u::rest.map (·.1)) u d=true/\done'++u::rest.map (·.1)=done++todo.map (·.1)/\m=(u.id,a_ w h u.cell d)/\(dh w h (done'++nS w h u d) rest).2.1=ms/\(dh w h (done'++nS w h u d) rest).1=(dh w h done todo).1
 |[],done,_,_,hm=>by cases hm
 |(u,d)::rest,done,m,ms,hm=>by
  cases hb:uD w h (done++u::rest.map (·.1)) u d with
  |true=>
   rw[H_ hb]at hm⊢;grind
  |false=>
   rw[Ia hb]at hm⊢;obtain⟨done',u',d',rest',h1,h2,h3⟩:=acC rest _ hm;grind
def N3:∀(todo:List (aV×Int)) (done:List aV),(dh w h done todo).1.length+(dh w h done todo).2.2.length=done.length+todo.length/\(dh w h done todo).2.1.length<=todo.length
 |[],done=>by simp[dh]
 |(u,d)::rest,done=>by
  cases hb:uD w h (done++u::rest.map (·.1)) u d with
  |true=>
   rw[H_ hb];have:=N3 rest (done++nS w h u d);have hw:(nS w h u d).length+(if a_ w h u.cell d=u.goal then[u.id]else[]).length=1:=by unfold nS;split<;>rfl
   grind
  |false=>
   rw[Ia hb];have:=N3 rest (done++[u]);grind
end
end Go.Proofs.YtmegplnmiepfbaaGreatDoor.S
namespace Go.Proofs.YtmegplnmiepfbaaGreatDoor.S
open Go.Sx
attribute [local irreducible] af cD bw bg aA cu bZ St Bx Al App cH cA cz bX aL bD aq bU av ak aW mapA
def Mc {i:Nat}(h:i<=1000000000):IntKind.wrap .i64 ((i:Int)+1)=((i+1:Nat):Int):=by rw[Hz (iF.wf (by unfold iF;omega))];omega
def lJ (x:Int×Int):List Value:=[ae x.1,ae x.2]
def N4 (x:Int×Int):(lJ x).length=2:=rfl
def ao6 (x:Int×Int)(u:Value)(h:u∈lJ x):u.oneCell'=true:=by unfold lJ at h;simp[List.mem_cons,List.not_mem_nil,or_false]at h;rcases h with rfl|rfl<;>rfl
section
variable {F:Nat->Prop}{W w w0:World}{L:List As}{a:Option Addr}{n c:Nat}{mv:List (Int×Int)}
def WT {K:Addr->World->Prop}{p:Addr}{u:aV}(hc:∀j v,(iy u)[j]? =some v->w.cell? (p.add j)=some v)(s:Sep F W w L)(h:∀x w',Sep F W w' (av x 43 (iy u)::L)->K (aZ x) w'):
  af .i64 (p.add 0) w λa=>af .i64 (p.add 1) w λb=>af .i64 (p.add 2) w λc=>Al T 43 w λx w=>St (x.add 0) (ae a) w λw=>St (x.add 1) (ae b) w λw=>St (x.add 2) (ae c) w λw=>K x w:=by
 refine aR (hc 0 _ rfl) (aR (hc 1 _ rfl) (aR (hc 2 _ rfl) ?_));refine aT s λx w s=>?_;refine sT s 0 rfl λw s=>?_;refine sT s 0 rfl λw s=>?_;refine ax s (i:=0) rfl rfl rfl λw s=>?_;exact h x w s
end
def Md (ms:List (Int×Bool))(us:List aV):Prop:=oM ms/\∀c,fy ms c=if stand us c=true then some true else none
def Cv {us vs:List aV}{c:Int}:stand (us++vs) c=(stand us c||stand vs c):=by unfold stand;grind
def Kz {u:aV}{us:List aV}{c:Int}:stand (u::us) c=(decide (u.cell=c)||stand us c):=by unfold stand;grind
def ai8 {us:List aV}{c:Int}:stand us c=false↔c∉us.map (·.cell):=by rw[<-afB];grind
def ao7 {w h c:Int}(hc:bF w h c):a_ w h c 4=c:=by obtain⟨h1,h2,e⟩:=Ip hc;rw[a_,if_pos hc,if_neg (by decide),if_neg (by decide),if_neg (by decide),if_neg (by decide),if_pos rfl,m_ hc.1 h1 h2];exact e.symm
def ao8 {w h c:Int}:a_ w h c 5=-1:=by unfold a_;split<;>rfl
abbrev WU (mw mh:Int)(mb:Nat)(ma:Option Addr)(mn mc:Nat)(ga:Option Addr)(gn gc:Nat):List Value:=[ae mw,ae mh,.map (some mb),.slice ma mn mc,.slice ga gn gc]
section
variable {F:Nat->Prop}{W w w0:World}{L:List As}{ma ga:Option Addr}{mn mc gn gc mb fb ub:Nat}{mv:List (Int×Int)}{gs:List Int}{ms:List (Int×Bool)}{mw mh d:Int}{done us:List aV}{u:aV}
def ato {Q:Bool->World->Prop}(hm:nP mw mh (done++u::us))(hS:Md ms (done++u::us))(hmn:mn<=100000000)(G7:gn<=100000000)(s:Sep F W w (av ub 43 (iy u)::av fb 260 (WU mw mh mb ma mn mc ga gn gc)::fO fq C7 mb ms::ak ma mn mc 51 2 (flat lJ mv)::ak ga gn gc 3 1 (flat one gs)::L))
  (hno:uD mw mh (done++u::us) u d=false->∀w',Sep F W w' (av fb 260 (WU mw mh mb ma mn mc ga gn gc)::fO fq C7 mb ms::ak ma mn mc 51 2 (flat lJ mv)::ak ga gn gc 3 1 (flat one gs)::av ub 43 (iy u)::L)->Q true w')
  (hyes:uD mw mh (done++u::us) u d=true->∀ms' ma' WV YM YN gc' w',YN<=gn+1->Md ms' ((done++nS mw mh u d)++us)->Sep F W w' (av fb 260 (WU mw mh mb ma' (mn+1) WV YM YN gc')::fO fq C7 mb ms'::ak ma' (mn+1) WV 51 2 (flat lJ (mv++[(u.id,a_ mw mh u.cell d)]))::ak YM YN gc' 3 1 (flat one (gs++if a_ mw mh u.cell d=u.goal then[u.id]else[]))::av ub 43 (iy ⟨u.id,a_ mw mh u.cell d,u.goal⟩)::L)->Q (!decide (a_ mw mh u.cell d=u.goal)) w'):
  kH Q (sZ fb) (sZ ub) d w:=by
 have hu:=hm.at_ u (by simp);have s:=ay s;refine ah (lI s 1 rfl (ah (lI s 1 rfl (ah (lI s 0 rfl ?_)))));refine ju s λw s _=>?_;have fin:uD mw mh (done++u::us) u d=false->Q true w:=λhb=>hno hb w (pk 5 [1,2,3,4,0] s);by_cases h0:a_ mw mh u.cell d<0
 ·rw[bM h0];apply fin;unfold uD;grind
 rw[bp h0];have h0:0<=a_ mw mh u.cell d:=by omega
 have hto:=(uR h0).2;refine ah (lM s 1 rfl ?_);refine Ew (K:=fq) OZ (aaw w) s (i:=2) rfl hS.1 (Av hto) (λhn=>?_) λb hb=>?_
 ·have hst:stand (done++u::us) (a_ mw mh u.cell d)=false:=by
   rw[hS.2]at hn;split at hn
   ·cases hn
   ·exact Bool.eq_false_iff.2 ‹_›
  have hb:uD mw mh (done++u::us) u d=true:=by rw[uD,decide_eq_true h0,hst];rfl
  have hyes:=hyes hb;unfold nS at hyes;generalize a_ mw mh u.cell d=to at*;apply aer;have s:=ay s;refine ah (lM s 1 rfl (ah (lI s 0 rfl ?_)));refine au2 (K:=fq) OZ s (i:=2) rfl hS.1 (Av hu.1) λms1 w hk1 ha1 _ s=>?_;have hcells:∀c,stand (done++us) c=if c=u.cell then false else stand (done++u::us) c:=λc=>by
   rw[Cv,Cv,Kz];by_cases e:c=u.cell
   ·rw[if_pos e,e];have:=hm.nd;rw[List.map_append,List.map_cons,List.nodup_append,List.nodup_cons]at this;rw[ai8.2 λh=>this.2.2 _ h _ (List.mem_cons_self ..) rfl,ai8.2 this.2.1.1];rfl
   ·rw[if_neg e,decide_eq_false λh=>e h.symm,Bool.false_or]
  have hS1:Md ms1 (done++us):=⟨hk1,λc=>by
   rw[ha1,hS.2,hcells];by_cases e:c=u.cell
   ·rw[if_pos e,if_pos e];rfl
   ·rw[if_neg e,if_neg e]⟩
  refine ah (sT s 0 rfl λw s=>?_);have s:=ay s;refine ah (lS s 1 rfl (ah (lI s 0 rfl ?_)));have s:=pk 5 [3,0,1,2,4] s;refine aN s λxb w s=>⟨cg s 3 rfl,?_⟩;have src:Src w (sZ xb) 1 2 (lJ (u.id,to)):=⟨rfl,ao6 _,λj v hj=>by rw[cq,Nat.zero_add];exact cM s (i:=0) rfl rfl hj⟩;refine ig ee s (i:=1) (bytes:=16) rfl rfl rfl rfl rfl rfl (by decide) rfl src (by simp[maxLen];omega) (by omega) (λe=>by cases e) λma' WV w s=>?_;have e:flat lJ mv++lJ (u.id,to)=flat lJ (mv++[(u.id,to)]):=by rw[fX];simp[flat]
  rw[e]at s;refine ah (ax s (i:=3) rfl rfl rfl λw s=>?_);refine ah (lI s 2 rfl ?_);have s:=ai s;by_cases hg:to=u.goal
  ·rw[cV hg,cond_true];have s:=ay s;refine ah (lS s 2 rfl (ah (lI s 1 rfl ?_)));refine aN s λxb w s=>⟨cg s 3 rfl,?_⟩;have src:Src w (sZ xb) 1 1 (one u.id):=⟨rfl,E_ _,λj v hj=>by rw[cq,Nat.zero_add];exact cM s (i:=0) rfl rfl hj⟩;refine ig ee s (i:=5) (size:=1) (bytes:=8) rfl rfl rfl rfl rfl rfl (by decide) rfl src (by simp[maxLen];omega) (by omega) (λe=>by cases e) λYM gc' w s=>?_;have e:flat one gs++one u.id=flat one (gs++[u.id]):=by rw[fX];simp[flat]
   rw[e]at s;refine ah (ax s (i:=3) rfl rfl rfl λw s=>?_);have s:=pk 6 [3,4,1,5,2] s;have:=hyes ms1 ma' WV YM (gn+1) gc' w (Nat.le_refl _) ?_ ?_
   ·rw[decide_eq_true hg]at this;exact this
   ·rw[if_pos hg,List.append_nil];exact hS1
   ·rw[if_pos hg];exact s
  ·rw[cy hg,cond_false];refine ah (lM s 2 rfl ?_);refine LZ (k:=3) (e:=4) (K:=fq) (v:=C7) (ms:=ms1) (a:=true) (x:=to) OZ s (i:=3) rfl hk1 (Av hto) λms2 w IL TF _ s=>?_;have s:=pk 5 [2,3,0,4,1] s;have:=hyes ms2 ma' WV ga gn gc w (Nat.le_succ _) ?_ ?_
   ·rw[decide_eq_false hg]at this;exact this
   ·rw[if_neg hg];refine⟨IL,λc=>?_⟩;rw[TF,hS1.2,Cv,Cv,Cv,Kz];by_cases e:c=to
    ·rw[if_pos e,e,decide_eq_true rfl];simp
    ·rw[if_neg e,decide_eq_false λh=>e h.symm];simp[stand]
   ·rw[if_neg hg,List.append_nil];exact s
 ·have hst:stand (done++u::us) (a_ mw mh u.cell d)=true:=by
   rw[hS.2]at hb;split at hb
   ·assumption
   ·cases hb
  rw[hS.2,if_pos hst]at hb;cases hb;apply ama;apply fin;rw[uD,hst];simp
def aay {Q:Bool->World->Prop}(hd:0<=d/\d<=5)(hm:nP mw mh (done++u::us))(hS:Md ms (done++u::us))(hmn:mn<=100000000)(G7:gn<=100000000)(s:Sep F W w (av ub 43 (iy u)::av fb 260 (WU mw mh mb ma mn mc ga gn gc)::fO fq C7 mb ms::ak ma mn mc 51 2 (flat lJ mv)::ak ga gn gc 3 1 (flat one gs)::L))
  (hno:uD mw mh (done++u::us) u d=false->∀w',Sep F W w' (av fb 260 (WU mw mh mb ma mn mc ga gn gc)::fO fq C7 mb ms::ak ma mn mc 51 2 (flat lJ mv)::ak ga gn gc 3 1 (flat one gs)::av ub 43 (iy u)::L)->Q true w')
  (hyes:uD mw mh (done++u::us) u d=true->∀ms' ma' WV YM YN gc' w',YN<=gn+1->Md ms' ((done++nS mw mh u d)++us)->Sep F W w' (av fb 260 (WU mw mh mb ma' (mn+1) WV YM YN gc')::fO fq C7 mb ms'::ak ma' (mn+1) WV 51 2 (flat lJ (mv++[(u.id,a_ mw mh u.cell d)]))::ak YM YN gc' 3 1 (flat one (gs++if a_ mw mh u.cell d=u.goal then[u.id]else[]))::av ub 43 (iy ⟨u.id,a_ mw mh u.cell d,u.goal⟩)::L)->Q (!decide (a_ mw mh u.cell d=u.goal)) w'):
  xS (sZ fb) (sZ ub) d w Q:=by
 apply OH;have hb:¬(4<=d)->kH Q (sZ fb) (sZ ub) d w:=λ_=>ato hm hS hmn G7 s hno hyes;by_cases e0:d=0
 ·grind
 rw[cy e0,cond_false];by_cases e1:d=1
 ·grind
 rw[cy e1,cond_false];by_cases e2:d=2
 ·grind
 rw[cy e2,cond_false];by_cases e3:d=3
 ·grind
 rw[cy e3,cond_false];refine hno ?_ w (pk 5 [1,2,3,4,0] s);have hu:=(hm.at_ u (by simp)).1;unfold uD;obtain rfl|rfl:d=4\/d=5:=by omega
 ·rw[ao7 hu,Cv,Kz,decide_eq_true rfl];simp
 ·rw[ao8];rfl
end
def az9:oP 153 fns=true:=by kernel_rfl
section
variable {F:Nat->Prop}{W w w0:World}{L:List As}{la da:Option Addr}{ln lc dn dc:Nat}{us:List aV}{ds:List Int}{mw mh:Int}
def aqY {Q:Bool->World->Prop}(hD:Sl w da dn dc 1 one ds)(hr:∀d∈ds,0<=d/\d<=5)(hn:dn<=1000000)(h:Q false w):nH da dn dc (.func (.func 153) #[] #[]) w Q:=by
 apply D6;apply Gj;have hl:=hD.len;have loop:∀(j i:Nat),i+j=dn->jR (λr w=>Q (decide (r≥0)) w) (j+1) da dn dc (.func (.func 153) #[] #[]) (dn:Int) i w:=by
  intro j;induction j with
  |zero=>
   intro i hi;show jQ _ _ _ _ _ _ _ _ _;unfold jQ;grind
  |succ j ih=>
   intro i hi;show jQ _ _ _ _ _ _ _ _ _;rw[jQ,bM];apply hD.rE rfl (by omega);have hd:=hr _ (ff (i:=i) (by omega));unfold h_;simp only;have hc:K5 (gi ds i) w λr w'=>cond r (Q (decide ((i:Int)≥0)) w') (jR (λr w=>Q (decide (r≥0)) w) (j+1) da dn dc (.func (.func 153) #[] #[]) (dn:Int) (IntKind.wrap .i64 ((i:Int)+1)) w'):=by apply ZP;rw[bp];show cond (decide (gi ds i>5)) _ _;rw[bp,Mc (by omega)];exact ih (i+1) (by omega)
   exact hc
 exact⟨dn+1,loop dn 0 (by omega)⟩
def aez {Q:Option Addr->Nat->Nat->Option Addr->Nat->Nat->Option Addr->Nat->Nat->Int->World->Prop}(s0:Sep F W w0 L)(hU:Sl w0 la ln lc 3 iy us)(hD:Sl w0 da dn dc 1 one ds)(hlen:ds.length=us.length)(pZ:ln<=1000000)(hr:∀d∈ds,0<=d/\d<=5)(hm:nP mw mh us)
  (h:∀aa an ac ma mn mc ga gn gc w',Sep F W w' (ak ma mn mc 51 2 (flat lJ (dh mw mh [] (us.zip ds)).2.1)::ak ga gn gc 3 1 (flat one (dh mw mh [] (us.zip ds)).2.2)::L)->Fr No w0 w'->Q aa an ac ma mn mc ga gn gc 0 w'):
  HE mw mh la ln lc da dn dc w0 Q:=by
 apply adN;have hul:=hU.len;have hdl:=hD.len;refine Rn (bh (F:=No)) hU pZ hm λw s _=>?_;rw[Bool.not_true,cond_false,Es (by omega),cond_false];apply aqY (hD.fr (au s)) hr (by omega);refine afA OZ s 3 λmb w s=>?_;have s:=s;refine aN s λfb w s=>?_;have avn:(us.zip ds).map (·.1)=us:=by rw[List.map_fst_zip];omega
 have walk:∀(j i:Nat) (done:List aV) (ms:List (Int×Bool)) (mv:List (Int×Int)) (gs:List Int) (aa ma ga:Option Addr) (an ac mn mc gn gc:Nat) (w:World),i+j=ln->mn<=i->gn<=i->an<=i->nP mw mh (done++((us.zip ds).drop i).map (·.1))->Md ms (done++((us.zip ds).drop i).map (·.1))->
   mv++(dh mw mh done ((us.zip ds).drop i)).2.1=(dh mw mh [] (us.zip ds)).2.1->gs++(dh mw mh done ((us.zip ds).drop i)).2.2=(dh mw mh [] (us.zip ds)).2.2->
   Sep No w0 w (av fb 260 (WU mw mh mb ma mn mc ga gn gc)::fO fq C7 mb ms::ak ma mn mc 51 2 (flat lJ mv)::ak ga gn gc 3 1 (flat one gs)::ak aa an ac 43 3 (flat iy done)::[])->
   Er Q (j+1) da dn dc aa an ac (aZ fb) la ln lc (ln:Int) i w:=by
  intro j;induction j with
  |zero=>
   intro i done ms mv gs aa ma ga an ac mn mc gn gc w hij hmn G7 han hM hS TL E6 s;show AO _ _ _ _ _ _ _ _ _ _ _ _ _ _ _;rw[AO,bp];have s:=ay s;have hz:(us.zip ds).drop i=[]:=List.drop_eq_nil_of_le (by grind);rw[hz]at TL E6;simp[dh,List.append_nil]at TL E6;have c3:=cM s (i:=0) (j:=3) rfl rfl rfl;have c4:=cM s (i:=0) (j:=4) rfl rfl rfl;refine lS s 0 rfl (lS s 0 rfl ⟨c4,c3,c4,?_⟩);rw[TL,E6]at s;have s:=cf (L':=[_,_]) [2,3] s rfl (by decide);exact h aa an ac ma mn mc ga gn gc _ (fu s0 s) (au s)
  |succ j ih=>
   intro i done ms mv gs aa ma ga an ac mn mc gn gc w hij hmn G7 han hM hS TL E6 s;show AO _ _ _ _ _ _ _ _ _ _ _ _ _ _ _;rw[AO,bM];refine(hU.fr (au s)).El rfl (by omega) λp u hu hc=>?_;have hdi:ds[i]? =some (gi ds i):=iz (by omega);have hd:=hr _ (List.mem_of_getElem? hdi);have hz:(us.zip ds).drop i=(u,gi ds i)::(us.zip ds).drop (i+1):=by
    have hzi:(us.zip ds)[i]? =some (u,gi ds i):=by rw[List.getElem?_zip_eq_some];exact⟨hu,hdi⟩
    obtain⟨hlt,e⟩:=List.getElem?_eq_some_iff.1 hzi;rw[List.drop_eq_getElem_cons hlt,e]
   rw[hz]at hM hS TL E6;have hM:=hM;have hS:=hS;refine WT hc s λub w s=>?_;apply(hD.fr (au s)).rE rfl (by omega);generalize gi ds i=d at*;rw[Mc (by omega)];refine aay hd hM hS (by omega) (by omega) s (λhb w s=>?_) λhb ms' ma' WV YM YN gc' w aBJ hS' s=>?_
   ·rw[Ia hb]at TL E6;refine lI s 4 rfl (lI s 4 rfl (lI s 4 rfl ?_));have s:=cf (L':=[_,_,_,_,_]) [5,0,1,2,3] s rfl (by decide);refine aqW s (by omega) λaa' ac' w s=>?_;exact ih (i+1) (done++[u]) ms mv gs aa' ma ga (an+1) ac' mn mc gn gc w (by omega) (by omega) (by omega) (by omega) (by rw[List.append_assoc];exact hM) (by rw[List.append_assoc];exact hS) TL E6 (cf (L':=[_,_,_,_,_]) [1,2,3,4,0] s rfl (by decide))
   ·rw[H_ hb]at TL E6;have hM':=ai7 hM hb;by_cases hg:a_ mw mh u.cell d=u.goal
    ·rw[decide_eq_true hg,Bool.not_true,cond_false];have ew:nS mw mh u d=[]:=by unfold nS;rw[if_pos hg]
     rw[ew,List.append_nil]at hM' hS' TL E6;exact ih (i+1) done ms' _ _ aa ma' YM an ac (mn+1) WV YN gc' w (by omega) (by omega) (by omega) (by omega) hM' hS' (by rw[List.append_assoc];exact TL) (by rw[List.append_assoc];exact E6) (cf (L':=[_,_,_,_,_]) [0,1,2,3,5] s rfl (by decide))
    ·rw[decide_eq_false hg,Bool.not_false,cond_true];have ew:nS mw mh u d=[⟨u.id,a_ mw mh u.cell d,u.goal⟩]:=by unfold nS;rw[if_neg hg]
     rw[ew]at hM' hS' TL E6;rw[if_neg hg,List.append_nil]at s;rw[if_neg hg,List.nil_append]at E6;refine lI s 4 rfl (lI s 4 rfl (lI s 4 rfl ?_));have s:=cf (L':=[_,_,_,_,_]) [5,0,1,2,3] s rfl (by decide);refine aqW s (by omega) λaa' ac' w s=>?_;exact ih (i+1) _ ms' _ gs aa' ma' YM (an+1) ac' (mn+1) WV YN gc' w (by omega) (by omega) (by omega) (by omega) hM' hS' (by rw[List.append_assoc];exact TL) E6 (cf (L':=[_,_,_,_,_]) [1,2,3,4,0] s rfl (by decide))
 have fill:∀(j i:Nat) (ms:List (Int×Bool)) (w:World),i+j=ln->Md ms (us.take i)->Sep No w0 w (av fb 260 (WU mw mh mb none 0 0 none 0 0)::fO fq C7 mb ms::[])->
   Gk Q (j+1) la ln lc da dn dc none 0 0 (aZ fb) la ln lc (ln:Int) i w:=by
  intro j;induction j with
  |zero=>
   intro i ms w hij hS s;show Cg _ _ _ _ _ _ _ _ _ _ _ _ _ _ _ _ _ _;rw[Cg,bp];rw[List.take_of_length_le (by omega)]at hS;have s:=bE (bE (bE s 3 1) 51 2) 43 3;have s:=cf (L':=[_,_,_,_,_]) [3,4,1,2,0] s rfl (by decide);refine⟨ln+1,walk ln 0 [] ms [] [] none none none 0 0 0 0 0 0 w (by omega) (by omega) (by omega) (by omega) ?_ ?_ rfl rfl s⟩
   ·rw[List.drop_zero,avn];exact hm
   ·rw[List.drop_zero,avn];exact hS
  |succ j ih=>
   intro i ms w hij hS s;show Cg _ _ _ _ _ _ _ _ _ _ _ _ _ _ _ _ _ _;rw[Cg,bM];refine(hU.fr (au s)).El rfl (by omega) λp u hu hc=>?_;refine WT hc s λub w s=>?_;have s:=ay s;refine lM s 1 rfl (lI s 0 rfl ?_);have hcell:=(hm.at_ u (List.mem_of_getElem? hu)).1;refine LZ OZ s (i:=2) rfl hS.1 (Av hcell) λms2 w IL TF _ s=>?_;rw[Mc (by omega)];refine ih (i+1) ms2 w (by omega) ⟨IL,λc=>?_⟩ (ai s);have yf:us.take (i+1)=us.take i++[u]:=by rw[List.take_add_one,hu];rfl
   rw[TF,hS.2,yf,Cv,Kz];by_cases e:c=u.cell
   ·rw[if_pos e,e,decide_eq_true rfl];simp
   ·rw[if_neg e,decide_eq_false λh=>e h.symm];simp[stand]
 refine⟨ln+1,fill ln 0 [] w (by omega) ⟨List.Pairwise.nil,λc=>rfl⟩ s⟩
end
def atU (us:List aV)(c:Int):Option aV:=us.find? λv=>decide (v.cell=c)
def vq (us:List aV)(c:Int):Int:=match atU us c with
 |some u=>u.id
 |none=>-1
section
variable {us us':List aV}{u:aV}{c:Int}
def Ib (h:c∉us.map (·.cell)):vq us c=-1:=by
 have:atU us c=none:=by unfold atU;grind
 rw[vq,this]
def Aw (hn:(us.map (·.cell)).Nodup)(h:u∈us):vq us u.cell=u.id:=by
 have:atU us u.cell=some u:=by
  unfold atU;induction us with
  |nil=>cases h
  |cons v us ih=>
   grind
 rw[vq,this]
def aaz (hn:(us.map (·.cell)).Nodup)(hn':(us'.map (·.cell)).Nodup)(h:∀v:aV,v.cell=c->(v∈us↔v∈us')):vq us c=vq us' c:=by
 by_cases hc:c∈us.map (·.cell)
 ·obtain⟨v,hv,rfl⟩:=List.mem_map.1 hc;rw[Aw hn hv,Aw hn' ((h v rfl).1 hv)]
 ·rw[Ib hc,Ib λe=>?_];grind
def atp {w h:Int}(hm:nP w h us):vq us c=-1\/0<=vq us c/\∃u∈us,u.cell=c/\vq us c=u.id:=by
 by_cases hc:c∈us.map (·.cell)
 ·obtain⟨v,hv,rfl⟩:=List.mem_map.1 hc;rw[Aw hm.nd hv];exact .inr ⟨hm.pos v hv,v,hv,rfl,rfl⟩
 ·exact .inl (Ib hc)
end
structure GP (w h:Int) (us:List aV) (ws:List Int):Prop where
 len:(ws.length:Int)=w*h
 at_:∀c,bF w h c->gi ws c.toNat=vq us c+1
section
variable {us us':List aV}{u:aV}{c v mw mh:Int}{ws:List Int}
def GP.lt (h:GP mw mh us ws)(hc:bF mw mh c):0<=c/\c<ws.length:=by have:=h.len;have:=hc.2;omega
def GP.who (h:GP mw mh us ws)(hc:bF mw mh c):Ck ws c=vq us c:=by rw[Ck,if_pos (h.lt hc),h.at_ c hc];omega
def GP.free (h:GP mw mh us ws)(hc:bF mw mh c):An ws c=decide (vq us c=-1):=by rw[An,decide_eq_true (h.lt hc),h.at_ c hc,Bool.true_and,Bool.eq_iff_iff,beq_iff_eq,decide_eq_true_eq];omega
def GP.set (h:GP mw mh us ws)(hc:bF mw mh c)(e:∀c',bF mw mh c'->vq us' c'+1=if c'=c then v else vq us c'+1):GP mw mh us' (ws.set c.toNat v):=by have hl:=h.lt hc;refine⟨by rw[List.length_set];exact h.len,λc' Be=>?_⟩;rw[aaV (by omega),e c' Be,h.at_ c' Be];have:=Be.2;omega
def ak1 {done:List aV}(hm:nP mw mh (done++u::us))(hf:GP mw mh (done++u::us) ws):GP mw mh (done++us) (ws.set u.cell.toNat 0):=by
 have D9:=hm.sub (us':=done++us) (List.Sublist.append_left (List.sublist_cons_self _ _) _);refine hf.set (hm.at_ u (by simp)).1 λc' _=>?_;have hnd:=hm.nd;by_cases e:c'=u.cell
 ·rw[if_pos e,e,Ib]
  all_goals grind
 ·rw[if_neg e,aaz D9.nd hm.nd λv hv=>?_];grind
def ao_ {done:List aV}(hm:nP mw mh (done++u::us))(hf:GP mw mh (done++us) ws):GP mw mh (done++u::us) (ws.set u.cell.toNat (u.id+1)):=by
 have D9:=hm.sub (us':=done++us) (List.Sublist.append_left (List.sublist_cons_self _ _) _);refine hf.set (hm.at_ u (by simp)).1 λc' _=>?_;by_cases e:c'=u.cell
 ·rw[if_pos e,e,Aw hm.nd (by simp)]
 ·rw[if_neg e,aaz hm.nd D9.nd λv hv=>?_];grind
end
structure CrR where
 p:Nat
 un:Wq
 fl:QU
structure Hq where
 w:Int
 h:Int
 y:tA
 ws:List Int
structure aqZ (x:Hq):Prop where
 may:nP x.w x.h x.y.us
 fl:GP x.w x.h x.y.us x.ws
def zB (r:CrR)(x:Hq):List Value:=[ae x.w,ae x.h,ae x.y.most,.pointer (sZ r.un.p),.pointer (sZ r.fl.p)]
noncomputable def atq (r:CrR)(x:Hq):List As:=[av r.p 125 (zB r x),vY r.un x.y,vm r.fl x.ws]
noncomputable def fU (r:CrR)(x:Hq):As:=aW (aqZ x) (atq r x)
def vr (w h:Int)(y:tA)(cell goal:Int):Int:=if¬(bF w h cell/\bF w h goal)then 7 else if vq y.us cell≠-1 then 10 else if(y.us.length:Int)≥y.most then 11 else if cell=goal then 13 else 0
section
variable {F:Nat->Prop}{W w w0:World}{L:List As}{r:CrR}{x:Hq}{cell goal id:Int}
def qX (s:Sep F W w (fU r x::L)):aqZ x/\Sep F W w (av r.p 125 (zB r x)::vY r.un x.y::vm r.fl x.ws::L):=gL s
def x_ (s:Sep F W w (av r.p 125 (zB r x)::vY r.un x.y::vm r.fl x.ws::L))(h:aqZ x):Sep F W w (fU r x::L):=dA s h
def ak2 {u:aV}{us:List aV}{mw mh:Int}(hm:nP mw mh us)(zO:∀v∈us,v.id<u.id)(hp:0<=u.id)(hc:bF mw mh u.cell)(hg:bF mw mh u.goal)(hn:u.cell∉us.map (·.cell)):nP mw mh (us++[u]):=by
 have hm1:∀v∈us++[u],v∈us\/v=u:=λv hv=>by grind
 refine⟨hm.wh,?_,λv hv=>?_,λv hv=>?_,?_⟩
 ·rw[List.map_append,List.pairwise_append];refine⟨hm.ids,by simp,λa ha b hb=>?_⟩;grind
 ·rcases hm1 v hv with hv|rfl
  ·exact hm.pos v hv
  ·exact hp
 ·rcases hm1 v hv with hv|rfl
  ·exact hm.at_ v hv
  grind
 ·rw[List.map_append,List.nodup_append];refine⟨hm.nd,by simp,λa ha b hb=>?_⟩;grind
def acD {Q:Option Addr->World->Prop}{mw mh most:Int}(hm:iO mw mh)(Xr:1<=most/\most<=65536)(s:Sep F W w L)(h:∀r ws w',Sep F W w' (fU r ⟨mw,mh,⟨most,0,[]⟩,ws⟩::L)->Q (sZ r.p) w'):F5 mw mh most w Q:=by apply abk;have hwh:=mU hm;apply pL;rw[decide_eq_true hm,Bool.not_true,cond_false,bp,bp];refine ab6 Xr s λur w s=>?_;rw[aG,show mw*mh=(((mw*mh).toNat:Nat):Int) by omega];refine abG s (by omega) λfr w s=>?_;refine aN s λp w s=>?_;have s:=pk 3 [0,2,1] s;refine h ⟨p,ur,fr⟩ _ w (x_ s ⟨⟨hm,List.Pairwise.nil,(λu hu=>by cases hu),(λu hu=>by cases hu),List.Pairwise.nil⟩,⟨by grind,λc hc=>?_⟩⟩);have:0<=c/\c<mw*mh:=hc.2;show(List.replicate _ _).getD _ _=_;rw[List.getD_eq_getElem?_getD,List.getElem?_replicate,AE];rfl
def aml {Q:Bool->World->Prop}{c:Int}(s:Sep F W w (fU r x::L))(h:∀w',Sep F W w' (fU r x::L)->Q (decide (bF x.w x.h c)) w'):o8 (sZ r.p) c w Q:=by
 apply R_;have s:=ay s;obtain⟨hok,so⟩:=qX s;refine ah (lI so 0 rfl (ah (lI so 0 rfl ?_)));refine eY s λw s _=>?_;have e:decide (aC x.w x.h c≥0)=decide (bF x.w x.h c):=decide_eq_decide.2 ⟨λh=>by
  by_cases hc:bF x.w x.h c
  ·exact hc
  ·unfold aC at h;grind,λh=>(bW h).2.1⟩
 grind
def afD {Q:Int->World->Prop}{c g:Int}(h:Q (if c=g then 13 else 0) w):nL Q c g w:=by unfold nL;grind
def apa {Q:Int->World->Prop}{p:Option Addr}{c g:Int}(h:Q (if c=g then 13 else 0) w):mW p 3 c g w Q:=by apply Di;exact afD h
def apb {Q:Int->World->Prop}(s:Sep F W w (fU r x::L))(h:∀w',Sep F W w' (fU r x::L)->Q (vr x.w x.h x.y cell goal) w'):mW (sZ r.p) 0 cell goal w Q:=by
 apply Di;unfold vr at h;refine aml s λw s=>?_;by_cases hc:bF x.w x.h cell
 ·rw[decide_eq_true hc,Bool.not_true,cond_false];refine aml s λw s=>?_;by_cases hg:bF x.w x.h goal
  ·rw[decide_eq_true hg,Bool.not_true,cond_false];rw[if_neg λe=>e ⟨hc,hg⟩]at h;obtain⟨hok,so⟩:=qX s;refine ah (lP so 0 rfl ?_);apply Bo (Gt (ai (ai so)));rw[hok.fl.who hc];by_cases hw:vq x.y.us cell=-1
   ·rw[Es hw,cond_false];rw[if_neg λe=>e hw]at h;have s:=ay s;have so:=ay so;refine ah (lP so 0 rfl (ah (lI so 0 rfl ?_)));refine ab7 (ai so) ⟨cg so 0 rfl,?_⟩;by_cases hl:(x.y.us.length:Int)≥x.y.most
    ·grind
    ·rw[bp hl];rw[if_neg hl]at h;exact afD (h _ s)
   grind
  grind
 grind
def aj_ {y:tA}{mw mh:Int}(h:vr mw mh y cell goal=0):bF mw mh cell/\bF mw mh goal/\vq y.us cell=-1/\(y.us.length:Int)<y.most/\cell≠goal:=by unfold vr at h;grind
def ak3 {us:List aV}{mw mh c:Int}(hm:nP mw mh us):vq us c=-1↔c∉us.map (·.cell):=by refine⟨λh e=>?_,Ib⟩;obtain⟨v,hv,rfl⟩:=List.mem_map.1 e;rw[Aw hm.nd hv]at h;have:=hm.pos v hv;omega
def Yi {Q:Int->Int->World->Prop}(hn:x.y.next<1000000000)(s:Sep F W w (fU r x::L))
  (GO:vr x.w x.h x.y cell goal≠0->∀w',Sep F W w' (fU r x::L)->Q (-1) (vr x.w x.h x.y cell goal) w')
  (hok:vr x.w x.h x.y cell goal=0->∀r' GQ w',r'.p=r.p->Sep F W w' (fU r' ⟨x.w,x.h,OY x.y cell goal,GQ⟩::L)->Q x.y.next 0 w'):wm (sZ r.p) cell goal w Q:=by
 apply MC;refine kX (apb s λw s=>?_);by_cases h0:vr x.w x.h x.y cell goal=0
 ·rw[Es h0,cond_false];obtain⟨hc,hg,hw,hl,hne⟩:=aj_ h0;obtain⟨ok,s⟩:=qX s;refine ah (lP s 0 rfl ?_);have DP:=(uM (ai s)).1;have Rm:=DP.Q9;have s:=pk 3 [1,0,2] s;refine acw s hn hl λur w eu s=>?_;refine ah (lP s 1 rfl ?_);have s:=pk 3 [2,1,0] s;have hfree:An x.ws cell=true:=by rw[ok.fl.free hc,hw];rfl
  refine Nw s (by omega) (λe=>by grind) λ_ fR w s=>?_;have hno:=(ak3 ok.may).1 hw;have hmay:=ak2 (u:=⟨x.y.next,cell,goal⟩) ok.may (λv hv=>(DP.jA v hv).2) Rm.1 hc hg hno;have s:=gd (A:=[_,_,_]) (B:=[av r.p 125 (zB ⟨r.p,ur,{r.fl with fR:=fR}⟩ ⟨x.w,x.h,OY x.y cell goal,x.ws.set cell.toNat (x.y.next+1)⟩),_,_]) [1,2,0] s (by unfold zB;rw[eu];rfl) (by decide);refine hok h0 ⟨r.p,ur,{r.fl with fR:=fR}⟩ _ w rfl (x_ s ⟨hmay,ao_ hmay (by rw[List.append_nil];exact ok.fl)⟩)
 grind
def apc {done us:List aV}{u:aV}(h:((done++u::us).map (·.id)).Pairwise (·<·)):(∀v∈done,¬v.id=u.id)/\∀v∈us,¬v.id=u.id:=by
 rw[List.map_append,List.map_cons,List.pairwise_append,List.pairwise_cons]at h;refine⟨λv hv e=>?_,λv hv e=>?_⟩
 ·have:=h.2.2 v.id (List.mem_map.2 ⟨v,hv,rfl⟩) u.id (List.mem_cons_self ..);omega
 ·have:=h.2.1.1 v.id (List.mem_map.2 ⟨v,hv,rfl⟩);omega
def aaA {done us:List aV}{u:aV}(h:((done++u::us).map (·.id)).Pairwise (·<·)):((done++u::us).filter λv=>!decide (v.id=u.id))=done++us:=by
 obtain⟨h1,h2⟩:=apc h;rw[List.filter_append,List.filter_cons,decide_eq_true rfl,List.filter_eq_self.2 λv hv=>?_,List.filter_eq_self.2 λv hv=>?_]
 all_goals grind
theorem ai_ {done us:List aV}{u:aV}{f:aV->aV}(h:((done++u::us).map (·.id)).Pairwise (·<·)):((done++u::us).map λv=>if v.id=u.id then f v else v)=done++f u::us:=by
 obtain⟨h1,h2⟩:=apc h;have e:∀l:List aV,(∀v∈l,¬v.id=u.id)->(l.map λv=>if v.id=u.id then f v else v)=l:=λl hl=>by have:=List.map_congr_left (f:=λv=>if v.id=u.id then f v else v) (g:=id) λv hv=>if_neg (hl v hv);rw[this,List.map_id]
 simp_all
def acE {us:List aV}{u:aV}(h:gK us id=some u):u.id=id/\∃done rest,us=done++u::rest:=by have h1:=List.find?_some h;have h2:=List.mem_of_find?_eq_some h;exact⟨of_decide_eq_true h1,List.append_of_mem h2⟩
def aaB {done us:List aV}{u:aV}(h:((done++u::us).map (·.id)).Pairwise (·<·)):gK (done++u::us) u.id=some u:=
 Xs h (by rw[List.getElem?_append_right (Nat.le_refl _),Nat.sub_self];rfl)
def E4 {Q:World->Prop}{done us:List aV}{u:aV}(hu:x.y.us=done++u::us)(s:Sep F W w (fU r x::L))
  (h:∀r' GQ w',r'.p=r.p->Sep F W w' (fU r' ⟨x.w,x.h,⟨x.y.most,x.y.next,done++us⟩,GQ⟩::L)->Q w'):nG (sZ r.p) u.id u.cell u.goal w Q:=by
 apply Ov;obtain⟨ok,s⟩:=qX s;have hmay:=ok.may;have hfl:=ok.fl;rw[hu]at hmay hfl;have amm:=hmay.at_ u (by simp);have DP:=(uM (ai s)).1;have hru:=DP.jA u (by rw[hu];simp);have Rm:=DP.Q9;refine aN s λub w s=>?_;have s:=ay s;refine ah (lP s 1 rfl (lI s 0 rfl ?_));have s:=pk 4 [2,0,1,3] s;refine aav (by unfold iF;omega) s (by rw[hu,aaB hmay.ids];rfl) λur w eu s=>?_;have s:=ay s;refine ah (lP s 2 rfl (lI s 1 rfl ?_));have ed:kU x.y u.id=⟨x.y.most,x.y.next,done++us⟩:=by rw[kU,hu,aaA hmay.ids]
 rw[ed]at s;have s:=pk 4 [3,0,2] s;have aq1:=Aw hmay.nd (u:=u) (by simp);have D9:=hmay.sub (us':=done++us) (List.Sublist.append_left (List.sublist_cons_self _ _) _);refine LG s (λe=>?_) λ_ fR w s=>?_
 ·rw[hfl.who amm.1,aq1]at e;omega
 ·have s:=gd (A:=[_,_,_]) (B:=[av r.p 125 (zB ⟨r.p,ur,{r.fl with fR:=fR}⟩ ⟨x.w,x.h,⟨x.y.most,x.y.next,done++us⟩,x.ws.set u.cell.toNat 0⟩),_,_]) [2,1,0] s (by unfold zB;rw[eu];rfl) (by decide);refine h ⟨r.p,ur,{r.fl with fR:=fR}⟩ _ w rfl (x_ s ⟨D9,ak1 hmay hfl⟩)
def acF {Q:Int->World->Prop}(hc:bF x.w x.h cell)(s:Sep F W w (fU r x::L))(h:Q (vq x.y.us cell) w):yL (sZ r.p) cell w Q:=by apply PY;obtain⟨ok,so⟩:=qX s;refine kX (ah (lP so 0 rfl ?_));apply Bo (Gt (ai (ai so)));rw[ok.fl.who hc];exact h
def DQ {Q:Option Addr->Nat->Nat->World->Prop}(s:Sep F W w (fU r x::L))(h:∀a n c w',Sep F W w' (ak a n c 43 3 (flat iy x.y.us)::fU r x::L)->Q a n c w'):mV (sZ r.p) w Q:=by apply MQ;obtain⟨ok,s⟩:=qX s;refine kX (ah (lP s 0 rfl ?_));refine acz (i_ s) λa n c w s=>?_;have s:=pk 4 [2,1,3,0] s;exact h a n c w (ck (x_ s ok) (List.Perm.swap _ _ _))
def S8 {Q:Int->World->Prop}(zO:iF id)(s:Sep F W w (fU r x::L))(h12:gK x.y.us id=none->∀w',Sep F W w' (fU r x::L)->Q 12 w')
  (h7:∀u,gK x.y.us id=some u->¬bF x.w x.h goal->∀w',Sep F W w' (fU r x::L)->Q 7 w')
  (h13:∀u,gK x.y.us id=some u->bF x.w x.h goal->u.cell=goal->∀r' GQ w',r'.p=r.p->Sep F W w' (fU r' ⟨x.w,x.h,kU x.y id,GQ⟩::L)->Q 13 w')
  (h0:∀u,gK x.y.us id=some u->bF x.w x.h goal->u.cell≠goal->∀r' GQ w',r'.p=r.p->Sep F W w' (fU r' ⟨x.w,x.h,vO x.y id λu=>⟨u.id,u.cell,goal⟩,GQ⟩::L)->Q 0 w'):sK (sZ r.p) id goal w Q:=by
 apply JD;obtain⟨ok,s⟩:=qX s;refine kX (ah (lP s 0 rfl ?_));have cl:∀{w:World} {A:As},Sep F W w (A::vY r.un x.y::av r.p 125 (zB r x)::vm r.fl x.ws::L)->Sep F W w (fU r x::A::L):=λs=>x_ (pk 4 [2,1,3,0] s) ok;refine sC (i_ s) zO (λhn w s=>?_) λu hu w s=>?_
 ·refine aT s λp w s=>?_;refine sT s 0 rfl λw s=>?_;refine sT s 0 rfl λw s=>?_;refine sT s 0 rfl λw s=>?_;exact h12 hn w (ai (ck (cl s) (List.Perm.swap _ _ _)))
 ·obtain⟨eid,done,rest,Hj⟩:=acE hu;have hmay:=ok.may;rw[Hj]at hmay;refine aT s λp w s=>?_;refine sT s 0 rfl λw s=>?_;refine sT s 0 rfl λw s=>?_;refine ax s (i:=0) rfl rfl rfl λw s=>?_;refine aml (cl s) λw s=>?_;by_cases hg:bF x.w x.h goal
  ·rw[decide_eq_true hg,Bool.not_true,cond_false];apply lI s 1 rfl;apply apa;by_cases hcg:u.cell=goal
   ·rw[if_pos hcg];refine lI s 1 rfl (lI s 1 rfl (lI s 1 rfl ?_));refine E4 Hj s λr' GQ w e s=>?_;apply h13 u hu hg hcg r' GQ w e;have ed:kU x.y id=⟨x.y.most,x.y.next,done++rest⟩:=by rw[kU,<-eid,Hj,aaA hmay.ids]
    rw[ed];exact ai (i_ s)
   ·rw[if_neg hcg];obtain⟨ok,s⟩:=qX s;rw[Es rfl,cond_false];refine ah (lP s 0 rfl ?_);have s:=pk 4 [1,0,2] s;refine acy zO s (λhn=>by rw[hn]at hu;cases hu) λ_ ur w eu s=>?_;have s:=gd (A:=[_,_,_]) (B:=[av r.p 125 (zB ⟨r.p,ur,r.fl⟩ ⟨x.w,x.h,vO x.y id λu=>⟨u.id,u.cell,goal⟩,x.ws⟩),_,_]) [1,0,2] s (by unfold zB;rw[eu];rfl) (by decide);have eT:(vO x.y id λu=>⟨u.id,u.cell,goal⟩).us=done++⟨u.id,u.cell,goal⟩::rest:=by rw[vO,Hj,<-eid];exact ai_ hmay.ids
    have hu1:=hmay.at_ u (by simp);have hnd:=hmay.nd;rw[List.map_append,List.map_cons,List.nodup_append,List.nodup_cons]at hnd;have D9:nP x.w x.h (done++⟨u.id,u.cell,goal⟩::rest):=hmay.WQ rfl hu1.1 hg (by rw[List.map_append,List.mem_append];exact λq=>q.elim (λq=>hnd.2.2 _ q _ (List.mem_cons_self ..) rfl) hnd.2.1.1)
    refine h0 u hu hg hcg ⟨r.p,ur,r.fl⟩ x.ws w rfl (x_ s ⟨?_,ok.fl.len,λc hc=>?_⟩)
    ·rw[eT];exact D9
    ·rw[eT,ok.fl.at_ c hc,Hj];congr 1;by_cases e:c=u.cell
     ·rw[e,Aw hmay.nd (by simp),Aw (u:=⟨u.id,u.cell,goal⟩) D9.nd (by simp)]
     ·refine aaz hmay.nd D9.nd λv hv=>?_;have:∀z:aV,z.cell=u.cell->v≠z:=λz hz q=>e (by rw[<-hv,q,hz]);simp[this u rfl,this ⟨u.id,u.cell,goal⟩ rfl]
  ·rw[decide_eq_false hg,Bool.not_false,cond_true];exact h7 u hu hg w (ai (i_ s))
def UM {Q:Int->World->Prop}(zO:iF id)(s:Sep F W w (fU r x::L))(h12:gK x.y.us id=none->∀w',Sep F W w' (fU r x::L)->Q 12 w')
  (h0:∀u,gK x.y.us id=some u->∀r' GQ w',r'.p=r.p->Sep F W w' (fU r' ⟨x.w,x.h,kU x.y id,GQ⟩::L)->Q 0 w'):tN (sZ r.p) id w Q:=by
 apply Kc;obtain⟨ok,s⟩:=qX s;refine kX (ah (lP s 0 rfl ?_));have cl:∀{w:World} {A:As},Sep F W w (A::vY r.un x.y::av r.p 125 (zB r x)::vm r.fl x.ws::L)->Sep F W w (fU r x::A::L):=λs=>x_ (pk 4 [2,1,3,0] s) ok;refine sC (i_ s) zO (λhn w s=>?_) λu hu w s=>?_
 ·refine aT s λp w s=>?_;refine sT s 0 rfl λw s=>?_;refine sT s 0 rfl λw s=>?_;refine sT s 0 rfl λw s=>?_;exact h12 hn w (ai (ck (cl s) (List.Perm.swap _ _ _)))
 ·obtain⟨eid,done,rest,Hj⟩:=acE hu;have hmay:=ok.may;rw[Hj]at hmay;refine aT s λp w s=>?_;refine sT s 0 rfl λw s=>?_;refine sT s 0 rfl λw s=>?_;refine ax s (i:=0) rfl rfl rfl λw s=>?_;refine lI s 0 rfl (lI s 0 rfl (lI s 0 rfl ?_));refine E4 Hj (cl s) λr' GQ w e s=>?_;apply h0 u hu r' GQ w e;have ed:kU x.y id=⟨x.y.most,x.y.next,done++rest⟩:=by rw[kU,<-eid,Hj,aaA hmay.ids]
  rw[ed];exact ai (i_ s)
end
def aBK:zc T 51=[ae 0,ae 0]:=rfl
def N5 (w h:Int)(y:tA)(ds:List Int):tA:=⟨y.most,y.next,(dh w h [] (y.us.zip ds)).1⟩
section
variable {F:Nat->Prop}{W w w0:World}{L:List As}{r:CrR}{x:Hq}{da ma ga ta:Option Addr}{dn dc mn mc gn gc tn tc i mb ub:Nat}{ds:List Int}{tm:Int}
def aq2 {P7:Option Addr->Option Addr->Nat->Nat->Option Addr->Nat->Nat->Option Addr->Nat->Nat->Int->Int->World->Prop}{Q:Option Addr->Nat->Nat->Option Addr->Nat->Nat->Int->World->Prop}{done us:List aV}{u:aV}{d:Int}(hi:i<=1000000000)
  (hu:x.y.us=done++u::us)(hb:uD x.w x.h (done++u::us) u d=true)(s:Sep F W w (av ub 43 (iy u)::av mb 51 (lJ (u.id,a_ x.w x.h u.cell d))::fU r x::L))
  (next:∀r' GQ w',r'.p=r.p->Sep F W w' (fU r' ⟨x.w,x.h,⟨x.y.most,x.y.next,(done++nS x.w x.h u d)++us⟩,GQ⟩::L)->P7 (sZ r.p) ma mn mc ga gn gc ta tn tc tm ((i+1:Nat):Int) w'):
  lX P7 Q (sZ r.p) ma mn mc ga gn gc (aZ mb) (aZ ub) ta tn tc tm i w:=by
 rw[lX,Mc hi];refine lI s 1 rfl (lI s 0 rfl ?_);unfold nS at next
 have hto:=ai6 hb;obtain⟨_,hnot⟩:=aey.1 hb;generalize a_ x.w x.h u.cell d=to at*;by_cases hg:to=u.goal
 ·rw[cV hg,cond_true];refine lI s 0 rfl (lI s 0 rfl (lI s 0 rfl ?_));refine E4 hu (pk 3 [2] s) λr' GQ w e s=>?_;apply next r' GQ w e
  simp_all
 ·rw[cy hg,cond_false];rw[if_neg hg]at next
  have s:=ay s;obtain⟨ok,s⟩:=qX (pk 3 [2,0,1] s);have hmay:=ok.may;have hfl:=ok.fl;rw[hu]at hmay hfl;have amm:=hmay.at_ u (by simp);have DP:=(uM (ai s)).1;have hru:=DP.jA u (by rw[hu];simp);have Rm:=DP.Q9;have aq1:=Aw hmay.nd (u:=u) (by simp);refine ah (lP s 0 rfl (lI s 3 rfl (lI s 4 rfl ?_)));have s:=pk 5 [2,0,1,3,4] s;have hw1:Ck x.ws u.cell=u.id:=by rw[hfl.who amm.1,aq1]
  have hfree:An x.ws to=true:=by rw[hfl.free hto,Ib hnot];rfl
  refine Ya s (λe=>?_) λ_ _ fR w s=>?_
  ·rw[hw1,hfree]at e;rcases e with e|e
   ·omega
   ·cases e
  ·have s:=ay s;refine ah (lP s 1 rfl (lI s 4 rfl (lI s 4 rfl ?_)));have s:=pk 5 [2,0,1] s;refine aat (by unfold iF;omega) s (λhn=>?_) λ_ ur w eu s=>?_
   ·rw[hu,aaB hmay.ids]at hn;cases hn
   ·have eT:(vO x.y u.id λu=>⟨u.id,to,u.goal⟩)=⟨x.y.most,x.y.next,(done++[⟨u.id,to,u.goal⟩])++us⟩:=by rw[vO,hu,ai_ hmay.ids,List.append_assoc];rfl
    rw[eT,hw1]at s;have D9:nP x.w x.h (done++⟨u.id,to,u.goal⟩::us):=hmay.WQ rfl hto amm.2 λq=>hnot (by rw[List.map_append,List.mem_append]at q⊢;exact q.imp id λq=>by rw[List.map_cons];exact List.mem_cons_of_mem _ q)
    have s:=gd (A:=[_,_,_]) (B:=[av r.p 125 (zB ⟨r.p,ur,{r.fl with fR:=fR}⟩ ⟨x.w,x.h,⟨x.y.most,x.y.next,(done++[⟨u.id,to,u.goal⟩])++us⟩,(x.ws.set u.cell.toNat 0).set to.toNat (u.id+1)⟩),_,_]) [2,0,1] s (by unfold zB;rw[eu];rfl) (by decide);refine next ⟨r.p,ur,{r.fl with fR:=fR}⟩ _ w rfl (x_ s ⟨?_,?_⟩)
    ·rw[List.append_assoc];exact D9
    ·rw[List.append_assoc];exact ao_ D9 (ak1 hmay hfl)
def aaC {Q:Option Addr->Nat->Nat->Option Addr->Nat->Nat->Int->World->Prop}(hD:∀w',Sep F W w' L->Sl w' da dn dc 1 one ds)(hlen:ds.length=x.y.us.length)(hr:∀d∈ds,0<=d/\d<=5)(s:Sep F W w (fU r x::L))
  (h:∀r' GQ ma mn mc ga gn gc w',r'.p=r.p->Sep F W w' (ak ma mn mc 51 2 (flat lJ (dh x.w x.h [] (x.y.us.zip ds)).2.1)::ak ga gn gc 3 1 (flat one (dh x.w x.h [] (x.y.us.zip ds)).2.2)::fU r' ⟨x.w,x.h,N5 x.w x.h x.y ds,GQ⟩::L)->Q ma mn mc ga gn gc 0 w'):
  xP (sZ r.p) da dn dc w Q:=by
 apply OJ;have s:=ay s;obtain⟨ok,so⟩:=qX s;have DP:=(uM (ai so)).1;have oT:=DP.nv;have Xr:=DP.most;refine kX (ah (lI so 0 rfl (ah (lI so 0 rfl ?_))));refine DQ s λua un uc w s=>?_;obtain⟨_,so⟩:=qX (ai s);refine⟨cg so 0 rfl,cg so 0 rfl,?_⟩;have hU:=aO s (i:=0) rfl Ja (by decide);have hun:=hU.len;have ayr:(x.y.us.zip ds).map (·.1)=x.y.us:=by rw[List.map_fst_zip];omega
 have hml:=(N3 (w:=x.w) (h:=x.h) (x.y.us.zip ds) []).2;rw[List.length_zip]at hml;refine aez s hU (hD _ (ai (ai s))) hlen (by omega) hr ok.may λaa an ac ma mn mc ga gn gc w s _=>?_;have s:=pk 4 [3,0,1] s;have hmn:=(aO s (i:=1) rfl N4 (by decide)).len;have loop:∀(j i:Nat) (r':CrR) (x':Hq) (done:List aV) (todo:List (aV×Int)) (w:World),i+j=mn->r'.p=r.p->x'.w=x.w->x'.h=x.h->x'.y=⟨x.y.most,x.y.next,done++todo.map (·.1)⟩->(dh x.w x.h done todo).2.1=(dh x.w x.h [] (x.y.us.zip ds)).2.1.drop i->(dh x.w x.h done todo).1=(dh x.w x.h [] (x.y.us.zip ds)).1->
   Sep F W w (fU r' x'::ak ma mn mc 51 2 (flat lJ (dh x.w x.h [] (x.y.us.zip ds)).2.1)::ak ga gn gc 3 1 (flat one (dh x.w x.h [] (x.y.us.zip ds)).2.2)::L)->
   pK Q (j+1) (sZ r.p) ma mn mc ga gn gc ma mn mc (mn:Int) i w:=by
  intro j;induction j with
  |zero=>
   intro i r' x' done todo w hij er ew eh ey e1 e2 s;show pJ _ _ _ _ _ _ _ _ _ _ _ _ _ _ _;rw[pJ,bp];rw[List.drop_eq_nil_of_le (by omega)]at e1;have e3:=acB _ _ e1;obtain⟨w1,h1,y1,ws1⟩:=x';subst ew eh ey;apply h r' ws1 ma mn mc ga gn gc w er;rw[N5,<-e2,e3];exact pk 3 [1,2,0] s
  |succ j ih=>
   intro i r' x' done todo w hij er ew eh ey e1 e2 s;show pJ _ _ _ _ _ _ _ _ _ _ _ _ _ _ _;rw[pJ,bM];refine(aO s (i:=1) rfl N4 (by decide)).El rfl (by omega) λp m hm hc=>?_;have hdr:(dh x.w x.h [] (x.y.us.zip ds)).2.1.drop i=m::(dh x.w x.h [] (x.y.us.zip ds)).2.1.drop (i+1):=by obtain⟨hlt,e⟩:=List.getElem?_eq_some_iff.1 hm;rw[List.drop_eq_getElem_cons hlt,e]
   rw[hdr]at e1;obtain⟨done',u,d,rest,hb,hsp,em,e3,e4⟩:=acC _ _ e1;have Hj:x'.y.us=done'++u::rest.map (·.1):=by rw[ey,hsp]
   rw[<-ew,<-eh]at hb em;refine aR (hc 0 _ rfl) (aR (hc 1 _ rfl) ?_);refine aT s λmb w s=>?_;refine sT s 0 rfl λw s=>?_;refine ax s (i:=0) rfl rfl rfl λw s=>?_;have s:=s;rw[<-er];obtain⟨ok',s⟩:=qX (pk 4 [1,0,2,3] s);have s:=ay s;have aBL:=(uM (ai s)).1.jA u (by rw[Hj];simp);have aBM:=(uM (ai s)).1.Q9;have hgu:gK x'.y.us m.1=some u:=by have:=ok'.may.ids;rw[Hj]at this;rw[Hj,em];exact aaB this
   have zO:iF m.1:=by rw[em];unfold iF;show _<=u.id/\u.id<_;omega
   have go:∀{ub:Nat} {w:World},Sep F W w (av ub 43 (iy u)::av mb 51 (lJ m)::fU r' x'::ak ma mn mc 51 2 (flat lJ (dh x.w x.h [] (x.y.us.zip ds)).2.1)::ak ga gn gc 3 1 (flat one (dh x.w x.h [] (x.y.us.zip ds)).2.2)::L)->
     lX (pK Q (j+1)) Q (sZ r'.p) ma mn mc ga gn gc (aZ mb) (aZ ub) ma mn mc (mn:Int) i w:=λ{ub w} s=>by
    rw[em]at s;refine aq2 (by omega) Hj hb s λr2 ws2 w e5 s=>?_;rw[er];refine ih (i+1) r2 ⟨x'.w,x'.h,⟨x'.y.most,x'.y.next,(done'++nS x'.w x'.h u d)++rest.map (·.1)⟩,ws2⟩ (done'++nS x.w x.h u d) rest w (by omega) (e5.trans er) ew eh ?_ e3 (e4.trans e2) s;rw[ew,eh,ey]
   refine ah (lP s 0 rfl (lI s 3 rfl ⟨?_,?_⟩))
   ·have s:=i_ s;refine sC s zO (λhn=>by rw[hn]at hgu;cases hgu) λv hv w s=>?_;rw[hgu]at hv;cases hv;refine aT s λub w s=>?_;refine⟨cg s 4 rfl,cg s 2 rfl,?_⟩;refine sT s 0 rfl λw s=>?_;refine sT s 0 rfl λw s=>?_;refine ax s (i:=0) rfl rfl rfl λw s=>?_;have s:=x_ (pk 7 [2,1,3,0,4,5,6] s) ok';exact go (pk 5 [1,2,0,3,4] s)
   ·refine aT s λub w s=>?_;refine⟨cg s 4 rfl,cg s 1 rfl,?_⟩;have s:=pk 7 [2,0,1,3,4,5,6] s;refine sC s zO (λhn=>by rw[hn]at hgu;cases hgu) λv hv w s=>?_;rw[hgu]at hv;cases hv;refine sT s 1 rfl λw s=>?_;refine sT s 1 rfl λw s=>?_;refine ax s (i:=1) rfl rfl rfl λw s=>?_;have s:=x_ (pk 7 [2,0,3,1,4,5,6] s) ok';exact go (pk 5 [1,2,0,3,4] s)
 exact⟨mn+1,loop mn 0 r x [] (x.y.us.zip ds) w (by omega) rfl rfl rfl (by rw[ayr];rfl) rfl rfl s⟩
end
end Go.Proofs.YtmegplnmiepfbaaGreatDoor.S
namespace Go.Proofs.YtmegplnmiepfbaaGreatDoor.S
open Go.Sx
abbrev Ax:=List (Int×List (Int×List Int))
def zC (s id:Int):List (Int×List Int)->List (Int×List Int)
 |[]=>[(s,[id])]
 |q::r=>if q.1=s then(s,q.2++[id])::r else q::zC s id r
def qe (g s id:Int):Ax->Ax
 |[]=>[(g,[(s,[id])])]
 |q::r=>if q.1=g then(g,zC s id q.2)::r else q::qe g s id r
def S9 (w h:Int)(st:Ax)(u:aV):Ax:=qe u.goal (aC w h u.cell) u.id st
def acG (w h:Int)(us:List aV):Ax:=us.foldl (S9 w h) []
structure GR where
 g:Int
 s:Int
 ids:List Int
def C8 (st:Ax):List GR:=st.flatMap λq=>q.2.map λp=>⟨q.1,p.1,p.2⟩
def mG (w h:Int)(us:List aV):List GR:=C8 (acG w h us)
section
variable {g s d w h:Int}{st:Ax}{us:List aV}
def aq3 {p1 p2:List (Int×List Int)}{ids:List Int}(hn:s∉p1.map (·.1)):zC s d (p1++(s,ids)::p2)=p1++(s,ids++[d])::p2:=by
 induction p1 with
 |nil=>simp[zC]
 |cons q p1 ih=>
  rw[List.map_cons,List.mem_cons,not_or]at hn;rw[List.cons_append,zC,if_neg (λe=>hn.1 e.symm),ih hn.2];rfl
def aq4 {l:List (Int×List Int)}(hn:s∉l.map (·.1)):zC s d l=l++[(s,[d])]:=by
 induction l with
 |nil=>rfl
 |cons q p1 ih=>
  rw[List.map_cons,List.mem_cons,not_or]at hn;rw[List.cons_append,zC,if_neg (λe=>hn.1 e.symm),ih hn.2]
def aja {g1 g2:Ax}{l:List (Int×List Int)}(hn:g∉g1.map (·.1)):qe g s d (g1++(g,l)::g2)=g1++(g,zC s d l)::g2:=by
 induction g1 with
 |nil=>simp[qe]
 |cons q p1 ih=>
  rw[List.map_cons,List.mem_cons,not_or]at hn;rw[List.cons_append,qe,if_neg (λe=>hn.1 e.symm),ih hn.2];rfl
def aq5 (hn:g∉st.map (·.1)):qe g s d (st++[(g,[])])=qe g s d st:=by
 induction st with
 |nil=>simp[qe,zC]
 |cons q p1 ih=>
  rw[List.map_cons,List.mem_cons,not_or]at hn;rw[List.cons_append,qe,if_neg (λe=>hn.1 e.symm),ih hn.2,qe,if_neg (λe=>hn.1 e.symm)]
def amn:(qe g s d st).map (·.1)=if g∈st.map (·.1)then st.map (·.1)else st.map (·.1)++[g]:=by
 induction st with
 |nil=>rfl
 |cons q p1 ih=>
  rw[qe];grind
def S_ (us:List aV):(acG w h us).map (·.1)=tD us:=by
 have:∀(us:List aV) (st:Ax),(us.foldl (S9 w h) st).map (·.1)=us.foldl Ez (st.map (·.1)):=by
  intro us;induction us with
  |nil=>intro st;rfl
  |cons u us ih=>
   intro st;rw[List.foldl_cons,List.foldl_cons,ih];congr 1;exact amn
 exact this us []
def aaD {l:List (Int×List Int)}{x i:Int}:(∃p∈zC s d l,p.1=x/\i∈p.2)↔(x=s/\i=d)\/∃p∈l,p.1=x/\i∈p.2:=by
 induction l with
 |nil=>
  simp[zC,List.mem_singleton,exists_eq_left,List.not_mem_nil,false_and,exists_false,or_false];grind
 |cons q l ih=>
  rw[zC];split
  ·rename_i e;subst e;constructor
   ·grind
   ·rintro (⟨rfl,rfl⟩|⟨p,hp,e1,e2⟩)
    ·simp_all
    ·rcases List.mem_cons.1 hp with rfl|hp
     ·simp_all
     grind
  grind
def inG (st:Ax)(g s i:Int):Prop:=∃q∈st,q.1=g/\∃p∈q.2,p.1=s/\i∈p.2
def aq6 {x y i:Int}:inG (qe g s d st) x y i↔(x=g/\y=s/\i=d)\/inG st x y i:=by
 unfold inG;induction st with
 |nil=>
  simp[qe,List.mem_singleton,exists_eq_left,List.not_mem_nil,false_and,exists_false,or_false];grind
 |cons q st ih=>
  rw[qe];split
  ·rename_i e;subst e;constructor
   ·rintro ⟨p,hp,e1,e2⟩;rcases List.mem_cons.1 hp with rfl|hp
    ·rcases aaD.1 e2 with⟨e3,e4⟩|e2
     all_goals grind
    grind
   ·rintro (⟨rfl,e3,e4⟩|⟨p,hp,e1,e2⟩)
    ·exact⟨_,List.mem_cons_self ..,rfl,aaD.2 (.inl ⟨e3,e4⟩)⟩
    ·rcases List.mem_cons.1 hp with rfl|hp
     ·exact⟨_,List.mem_cons_self ..,e1,aaD.2 (.inr e2)⟩
     grind
  ·constructor
   ·rintro ⟨p,hp,e1,e2⟩;rcases List.mem_cons.1 hp with rfl|hp
    ·grind
    ·exact(ih.1 ⟨p,hp,e1,e2⟩).imp id λ⟨p,hp,e⟩=>⟨p,List.mem_cons_of_mem _ hp,e⟩
   ·rintro (h|⟨p,hp,e1,e2⟩)
    ·simp_all
    ·rcases List.mem_cons.1 hp with rfl|hp
     ·grind
     ·obtain⟨p,hp,e⟩:=ih.2 (.inr ⟨p,hp,e1,e2⟩);grind
def aq7 {x y i:Int}:inG (acG w h us) x y i↔∃u∈us,u.goal=x/\aC w h u.cell=y/\u.id=i:=by
 have:∀(us:List aV) (st:Ax),inG (us.foldl (S9 w h) st) x y i↔inG st x y i\/∃u∈us,u.goal=x/\aC w h u.cell=y/\u.id=i:=by
  intro us;induction us with
  |nil=>grind
  |cons u us ih=>
   intro st;rw[List.foldl_cons,ih];rw[S9,aq6];grind
 have h0:¬inG [] x y i:=λ⟨q,hq,_⟩=>by cases hq
 unfold acG;grind
def WW {x y i:Int}:(∃p∈mG w h us,p.g=x/\p.s=y/\i∈p.ids)↔∃u∈us,u.goal=x/\aC w h u.cell=y/\u.id=i:=by
 rw[<-aq7];unfold mG C8 inG;constructor
 ·rintro ⟨p,hp,e1,e2,e3⟩;obtain⟨q,hq,hp⟩:=List.mem_flatMap.1 hp;grind
 ·rintro ⟨q,hq,e1,z,hz,e2,e3⟩;exact⟨⟨q.1,z.1,z.2⟩,List.mem_flatMap.2 ⟨q,hq,List.mem_map.2 ⟨z,hz,rfl⟩⟩,e1,e2,e3⟩
def agW (st:Ax):Prop:=∀q∈st,∀p∈q.2,p.2≠[]
def apd {l:List (Int×List Int)}(h:∀p∈l,p.2≠[]):∀p∈zC s d l,p.2≠[]:=by
 induction l with
 |nil=>intro p hp;simp[zC,List.mem_singleton]at hp;grind
 |cons q l ih=>
  intro p hp;rw[zC]at hp;split at hp
  ·rcases List.mem_cons.1 hp with rfl|hp
   ·simp
   ·exact h p (List.mem_cons_of_mem _ hp)
  grind
def ape (h:agW st):agW (qe g s d st):=by
 induction st with
 |nil=>
  intro q hq p hp;simp[qe,List.mem_singleton]at hq;grind
 |cons q st ih=>
  intro z hz;rw[qe]at hz;split at hz
  ·rcases List.mem_cons.1 hz with rfl|hz
   ·exact apd (h q (List.mem_cons_self ..))
   ·exact h z (List.mem_cons_of_mem _ hz)
  ·rcases List.mem_cons.1 hz with rfl|hz
   ·exact h z (List.mem_cons_self ..)
   ·exact ih (λq hq=>h q (List.mem_cons_of_mem _ hq)) z hz
def aq8 (l:List (Int×List Int)):(zC s d l).length<=l.length+1:=by
 induction l with
 |nil=>exact Nat.le_refl _
 |cons q l ih=>
  rw[zC];grind
def KB (q:Int×List (Int×List Int)):C8 (q::st)=(q.2.map λp=>⟨q.1,p.1,p.2⟩)++C8 st:=rfl
def aq9 (st:Ax):(C8 (qe g s d st)).length<=(C8 st).length+1:=by
 induction st with
 |nil=>exact Nat.le_refl _
 |cons q st ih=>
  rw[qe];split
  ·rw[KB,KB,List.length_append,List.length_append,List.length_map,List.length_map];have:=aq8 (s:=s) (d:=d) q.2;grind
  ·rw[KB,KB,List.length_append,List.length_append];omega
def afG (w h:Int)(us:List aV):(mG w h us).length<=us.length:=by
 have:∀(us:List aV) (st:Ax),(C8 (us.foldl (S9 w h) st)).length<=(C8 st).length+us.length:=by
  intro us;induction us with
  |nil=>grind
  |cons u us ih=>
   intro st;rw[List.foldl_cons,List.length_cons];have h1:=ih (S9 w h st u);have h2:=aq9 (g:=u.goal) (s:=aC w h u.cell) (d:=u.id) st;have h2:(C8 (S9 w h st u)).length<=(C8 st).length+1:=h2;omega
 have:=this us [];have e:(C8 ([]:Ax)).length=0:=rfl;rw[e,Nat.zero_add]at this;exact this
def amo {p:GR}(hp:p∈mG w h us):p.ids≠[]:=by
 have:∀(us:List aV) (st:Ax),agW st->agW (us.foldl (S9 w h) st):=by
  intro us;induction us with
  |nil=>grind
  |cons u us ih=>intro st h;exact ih _ (ape h)
 obtain⟨q,hq,hp⟩:=List.mem_flatMap.1 hp;obtain⟨z,hz,rfl⟩:=List.mem_map.1 hp;exact this us [] (λq hq=>by cases hq) q hq z hz
def amq {p:GR}(hp:p∈mG w h us):∃u∈us,u.goal=p.g/\aC w h u.cell=p.s:=by have hf:=amo hp;obtain⟨i,hi⟩:=List.exists_mem_of_ne_nil _ hf;obtain⟨u,hu,e1,e2,_⟩:=WW.1 ⟨p,hp,rfl,rfl,hi⟩;grind
end
end Go.Proofs.YtmegplnmiepfbaaGreatDoor.S
namespace Go.Proofs.YtmegplnmiepfbaaGreatDoor.S
open Go.Sx
attribute [local irreducible] af cD bw bg aA cu bZ St Bx Al App cH cA cz bX aL bD aq bU av ak aW mapA
structure Bz where
 a:Option Addr
 n:Nat
 c:Nat
def TM (q:Bz):Value:=.slice q.a q.n q.c
structure AS where
 g:Int
 s:Int
 q:Bz
 ids:List Int
def yB (p:AS):List Value:=[ae p.g,ae p.s,.slice p.q.a p.q.n p.q.c]
def uG (p:AS):(yB p).length=3:=rfl
def apf (x:AS)(u:Value)(h:u∈yB x):u.oneCell'=true:=by unfold yB at h;simp[List.mem_cons,List.not_mem_nil,or_false]at h;rcases h with rfl|rfl|rfl<;>rfl
def aq_ (p:AS):As:=ak p.q.a p.q.n p.q.c 3 1 (flat one p.ids)
structure Cw where
 g:Int
 q:Bz
 ps:List AS
def gpR (G:Cw):As:=ak G.q.a G.q.n G.q.c 211 3 (flat yB G.ps)
def Bc (gs:List Cw):As:=aW True (gs.map gpR)
def Ay (ps:List AS):As:=aW True (ps.map aq_)
def jX (gs:List Cw):List AS:=gs.flatMap (·.ps)
def FF (gs:List Cw):Ax:=gs.map λG=>(G.g,G.ps.map λp=>(p.s,p.ids))
def atT:P.underlying 180=some (.map 253 3):=by kernel_rfl
def ofT:P.underlying 252=some (.map 3 208):=by kernel_rfl
def avq (w:World):(zeroValue 208).run P w=.ok (TM ⟨none,0,0⟩) w:=by kernel_rfl
section
variable {F:Nat->Prop}{W w w0:World}{L:List As}
def Tb {A B:List As}{X:As}(s:Sep F W w (aW True (A++X::B)::L)):Sep F W w (X::aW True (A++B)::L):=by
 have s:=(gL s).2;have s:=ck (L':=(A++B)++X::L) s (by rw[List.append_assoc,List.append_assoc,List.cons_append];exact List.Perm.append_left _ List.perm_middle.symm)
 have s:=dA s trivial;exact i_ s
def Me {A B:List As}{X:As}(s:Sep F W w (X::aW True (A++B)::L)):Sep F W w (aW True (A++X::B)::L):=by have s:=(gL (i_ s)).2;refine dA ?_ trivial;apply ck s;rw[List.append_assoc,List.append_assoc,List.cons_append];exact List.Perm.append_left _ List.perm_middle
end
def gOf (ms:List (Int×Bz))(g:Int):Bz:=(fy ms g).getD ⟨none,0,0⟩
structure N6 (ms:List (Int×Bz)) (m2:List ((Int×Int)×Int)) (gs:List Cw):Prop where
 hk:oM ms
 IL:oM m2
 nd:(gs.map (·.g)).Nodup
 nds:∀G∈gs,(G.ps.map (·.s)).Nodup
 of_:∀G∈gs,gOf ms G.g=G.q
 no:∀g,g∉gs.map (·.g)->fy ms g=none
 at1:∀g s k,fy m2 (g,s)=some k->∃G∈gs,G.g=g/\0<=k/\(G.ps[k.toNat]?).map (·.s)=some s
 at2:∀G∈gs,∀p∈G.ps,(fy m2 (G.g,p.s)).isSome=true
 pg:∀G∈gs,∀p∈G.ps,p.g=G.g
section
variable {F:Nat->Prop}{W w w0:World}{L:List As}{mw mh:Int}{mb Hr:Nat}{ms:List (Int×Bz)}{m2:List ((Int×Int)×Int)}{gs g1 g2:List Cw}{G:Cw}
def acH {i:Nat}{g:Int}{K:Option Addr->Nat->Nat->World->Prop}(s:Sep F W w L)(hi:L[i]? =some (fO fq TM mb ms))(hk:oM ms)(hg:iF g)(h:K (gOf ms g).a (gOf ms g).n (gOf ms g).c w):
  aL P (Instr.lookup 252 (.map (some mb)) (ae g) false) w λv w=>dS v λa n c=>K a n c w:=by
 unfold gOf at h;refine Ew (K:=fq) ofT (avq w) s hi hk hg (λhn=>?_) λq hq=>?_
 ·rw[hn]at h;exact h
 ·rw[hq]at h;exact h
def N6.pairs {G':Cw}(I:N6 ms m2 (g1++G::g2))(eg:G'.g=G.g)(eq:G'.q=G.q)(es:G'.ps.map (·.s)=G.ps.map (·.s))(ep:∀p∈G'.ps,p.g=G.g):N6 ms m2 (g1++G'::g2):=by
 have hm:∀X,X∈g1++G'::g2->X=G'\/X∈g1++G::g2:=λX hX=>by grind
 have hG:G∈g1++G::g2:=by simp
 have hs:∀k:Nat,(G'.ps[k]?).map (·.s)=(G.ps[k]?).map (·.s):=λk=>by rw[<-List.getElem?_map,<-List.getElem?_map,es]
 have E6:(g1++G'::g2).map (·.g)=(g1++G::g2).map (·.g):=by simp[eg]
 refine⟨I.hk,I.IL,by rw[E6];exact I.nd,λX hX=>?_,λX hX=>?_,λg hg=>I.no g (by grind),λg s k hk=>?_,λX hX p hp=>?_,λX hX p hp=>?_⟩
 ·rcases hm X hX with rfl|hX
  ·rw[es];exact I.nds G hG
  ·exact I.nds X hX
 ·rcases hm X hX with rfl|hX
  ·rw[eg,eq];exact I.of_ G hG
  ·exact I.of_ X hX
 ·obtain⟨X,hX,e1,e2,e3⟩:=I.at1 g s k hk;grind
 ·rcases hm X hX with rfl|hX
  ·have:p.s∈X.ps.map (·.s):=List.mem_map.2 ⟨p,hp,rfl⟩;rw[es]at this;obtain⟨p',hp',e⟩:=List.mem_map.1 this;rw[eg,<-e];exact I.at2 G hG p' hp'
  ·exact I.at2 X hX p hp
 ·rcases hm X hX with rfl|hX
  ·grind
  ·exact I.pg X hX p hp
def N6.add {ms':List (Int×Bz)}{YO:List ((Int×Int)×Int)}{p:AS}{q:Bz}(I:N6 ms m2 (g1++G::g2))(hk:oM ms')(IL:oM YO)(hm:∀g,fy ms' g=if g=G.g then some q else fy ms g)(D9:∀x,fy YO x=if x=(G.g,p.s)then some (G.ps.length:Int)else fy m2 x)
  (ep:p.g=G.g)(hn:p.s∉G.ps.map (·.s)):N6 ms' YO (g1++⟨G.g,q,G.ps++[p]⟩::g2):=by
 have hG:G∈g1++G::g2:=by simp
 have E6:(g1++⟨G.g,q,G.ps++[p]⟩::g2).map (·.g)=(g1++G::g2).map (·.g):=by simp
 have hnd:=I.nd;have hmem:∀X,X∈g1++(⟨G.g,q,G.ps++[p]⟩:Cw)::g2->X=⟨G.g,q,G.ps++[p]⟩\/(X∈g1++G::g2/\X.g≠G.g):=λX hX=>by grind
 refine⟨hk,IL,by grind,λX hX=>?_,λX hX=>?_,λg hg=>?_,λg s k hs=>?_,λX hX x hx=>?_,λX hX x hx=>?_⟩
 ·rcases hmem X hX with rfl|⟨hX,_⟩
  ·rw[List.map_append,List.nodup_append];refine⟨I.nds G hG,by simp,λa ha b hb=>?_⟩;grind
  ·exact I.nds X hX
 ·unfold gOf;rcases hmem X hX with rfl|⟨hX,hne⟩
  ·grind
  ·rw[hm,if_neg hne];exact I.of_ X hX
 ·rw[E6]at hg;rw[hm,if_neg λe=>hg (by rw[e];exact List.mem_map.2 ⟨G,hG,rfl⟩)];exact I.no g hg
 ·rw[D9]at hs;by_cases e:(g,s)=(G.g,p.s)
  ·rw[if_pos e]at hs;cases hs;cases e;refine⟨⟨G.g,q,G.ps++[p]⟩,by simp,rfl,Int.natCast_nonneg _,?_⟩;simp
  ·rw[if_neg e]at hs;obtain⟨X,hX,e1,e2,e3⟩:=I.at1 g s k hs;rw[List.mem_append,List.mem_cons]at hX;rcases hX with h|rfl|h
   ·exact⟨X,by simp[h],e1,e2,e3⟩
   ·refine⟨⟨X.g,q,X.ps++[p]⟩,by simp,e1,e2,?_⟩;obtain⟨z,hz,_⟩:=Option.map_eq_some_iff.1 e3;rw[List.getElem?_append_left (List.getElem?_eq_some_iff.1 hz).1];exact e3
   ·exact⟨X,by simp[h],e1,e2,e3⟩
 ·rw[D9];split
  ·rfl
  ·rename_i hne;rcases hmem X hX with rfl|⟨hX,_⟩
   ·rcases List.mem_append.1 hx with hx|hx
    ·exact I.at2 G hG x hx
    ·rw[List.mem_singleton]at hx;subst hx;exact(hne rfl).elim
   ·exact I.at2 X hX x hx
 ·rcases hmem X hX with rfl|⟨hX,_⟩
  ·rcases List.mem_append.1 hx with hx|hx
   ·exact I.pg G hG x hx
   ·rw[List.mem_singleton.1 hx];exact ep
  ·exact I.pg X hX x hx
def N6.group (I:N6 ms m2 gs)(g:Int):∃g1 G g2,G.g=g/\N6 ms m2 (g1++G::g2)/\((gs=g1++G::g2)\/(gs=g1/\g2=[]/\G=⟨g,⟨none,0,0⟩,[]⟩/\g∉gs.map (·.g))):=by
 by_cases h:g∈gs.map (·.g)
 ·obtain⟨G,hG,rfl⟩:=List.mem_map.1 h;obtain⟨g1,g2,rfl⟩:=List.append_of_mem hG;grind
 ·refine⟨gs,⟨g,⟨none,0,0⟩,[]⟩,[],rfl,?_,.inr ⟨rfl,rfl,rfl,h⟩⟩;have hm:∀X,X∈gs++[(⟨g,⟨none,0,0⟩,[]⟩:Cw)]->X∈gs\/X=⟨g,⟨none,0,0⟩,[]⟩:=λX hX=>by grind
  refine⟨I.hk,I.IL,?_,λX hX=>?_,λX hX=>?_,λg' hg=>I.no g' λe=>hg (by grind),λg s k hs=>?_,λX hX x hx=>?_,λX hX x hx=>?_⟩
  ·rw[List.map_append,List.nodup_append];refine⟨I.nd,by simp,λa ha b hb=>?_⟩;grind
  ·rcases hm X hX with hX|rfl
   ·exact I.nds X hX
   grind
  ·rcases hm X hX with hX|rfl
   ·exact I.of_ X hX
   ·rw[gOf,I.no g h];rfl
  ·obtain⟨X,hX,e⟩:=I.at1 g s k hs;grind
  ·rcases hm X hX with hX|rfl
   ·exact I.at2 X hX x hx
   ·cases hx
  ·rcases hm X hX with hX|rfl
   ·exact I.pg X hX x hx
   ·cases hx
end
def aaE {g1 g2:List Cw}{g:Int}{q:Bz}{p1 p2:List AS}{p:AS}:jX (g1++⟨g,q,p1++p::p2⟩::g2)=(jX g1++p1)++p::(p2++jX g2):=by unfold jX;grind
def atr {α:Type}{p1 p2:List α}{p p':α}:(p1++p::p2).set p1.length p'=p1++p'::p2:=by grind
def att {α:Type}{p1 p2:List α}{p:α}:(p1++p::p2)[p1.length]? =some p:=by grind
section
variable {F:Nat->Prop}{W w w0:World}{L T:List As}{mw mh:Int}{mb Hr ub:Nat}{ms:List (Int×Bz)}{m2:List ((Int×Int)×Int)}{g1 g2:List Cw}{g:Int}{q:Bz}{p1 p2:List AS}{p:AS}{la ta:Option Addr}{ln lc tn tc i:Nat}{tm:Int}{u:aV}
def afJ {P6:Int->Int->Option Addr->Nat->Nat->Option Nat->Option Nat->Option Addr->Nat->Nat->Int->Int->World->Prop}{Q:Option Addr->Nat->Nat->World->Prop}(hi:i<=1000000000)(hk:oM ms)(hq:gOf ms g=q)(hg:u.goal=g)(ays:iF g)(JO:p.ids.length<=1000000000)
  (s:Sep F W w (Bc (g1++⟨g,q,p1++p::p2⟩::g2)::Ay (jX (g1++⟨g,q,p1++p::p2⟩::g2))::fO fq TM mb ms::fO Ku vI Hr m2::av ub 43 (iy u)::T))
  (next:∀q' w',Sep F W w' (Bc (g1++⟨g,q,p1++⟨p.g,p.s,q',p.ids++[u.id]⟩::p2⟩::g2)::Ay (jX (g1++⟨g,q,p1++⟨p.g,p.s,q',p.ids++[u.id]⟩::p2⟩::g2))::fO fq TM mb ms::fO Ku vI Hr m2::T)->P6 mw mh la ln lc (some mb) (some Hr) ta tn tc tm ((i+1:Nat):Int) w'):
  pH P6 Q mw mh la ln lc (some mb) (some Hr) (aZ ub) (p1.length:Int) ta tn tc tm i w:=by
 rw[pH,Mc hi];apply lI s 4 rfl;rw[hg];apply acH s (i:=2) rfl hk ays;rw[hq];rw[aaE]at s;unfold Bc Ay at s;rw[List.map_append,List.map_cons,List.map_append,List.map_cons]at s;have s:=Tb s;have s:=pk 6 [2,0,1,3,4,5] s;have s:=Tb s;have s:=s;have hpn:=(aO s (i:=0) rfl cE (by decide)).len;have hqn:=(aO s (i:=2) rfl uG (by decide)).len;simp[List.length_append,List.length_cons]at hqn;refine CC s (i:=2) rfl rfl (by omega) λb o ea=>?_;obtain⟨qa,qn,qc⟩:=q;subst ea;have hx:=att (p1:=p1) (p2:=p2) (p:=p);have had:((⟨b,o,none⟩:Addr).add ((p1.length:Int).toNat*3)).add 2=⟨b,o+(p1.length*3+2),none⟩:=by rw[Int.toNat_natCast,d_]
 rw[had];have s:=ay s;apply Im uG s (i:=2) rfl hx rfl rfl;apply lI s 6 rfl;refine aN s λxb w s=>⟨?_,?_⟩
 ·exact wH s (i:=3) rfl rfl (by rw[sG uG hx (by decide)];rfl)
 ·have src:Src w (sZ xb) 1 1 (one u.id):=⟨rfl,E_ _,λj v hj=>by rw[cq,Nat.zero_add];exact cM s (i:=0) rfl rfl hj⟩;refine ig ee s (i:=1) (bytes:=8) rfl rfl rfl rfl rfl rfl (by decide) rfl src (by simp[maxLen];omega) (by omega) (λe=>by cases e) λra rc w s=>?_;have e:flat one p.ids++one u.id=flat one (p.ids++[u.id]):=by rw[fX];simp[flat]
  rw[e]at s;refine dQ uG s (i:=3) rfl hx rfl (x':=⟨p.g,p.s,⟨ra,p.q.n+1,rc⟩,p.ids++[u.id]⟩) (by decide) rfl rfl λw s=>?_;rw[atr]at s;have s:=pk 8 [1,2,3,4,5,6] s;have s:=Me s;have s:=pk 5 [1,2,0,3,4] s;have s:=Me s;apply next ⟨ra,p.q.n+1,rc⟩ w
  unfold Bc Ay;rw[aaE,List.map_append,List.map_cons,List.map_append,List.map_cons];exact s
end
def Mf (p:AS):GR:=⟨p.g,p.s,p.ids⟩
def Xt {g1 g2:List Cw}{G:Cw}:FF (g1++G::g2)=FF g1++(G.g,G.ps.map λp=>(p.s,p.ids))::FF g2:=by unfold FF;grind
def N7 {gs:List Cw}:(FF gs).map (·.1)=gs.map (·.g):=by unfold FF;simp_all
def atu {g1 g2:List Cw}{g s d:Int}{q q':Bz}{p1 p2:List AS}{p p':AS}(h1:g∉g1.map (·.g))(h2:s∉p1.map (·.s))(e1:p.s=s)(e2:p'.s=s)(e3:p'.ids=p.ids++[d]):
  FF (g1++⟨g,q',p1++p'::p2⟩::g2)=qe g s d (FF (g1++⟨g,q,p1++p::p2⟩::g2)):=by
 rw[Xt,Xt,aja (by rw[N7];exact h1)];simp[List.map_append,List.map_cons];rw[e1,aq3 (by grind),e2,e3]
def atv {g1 g2:List Cw}{g s d:Int}{q q':Bz}{p1:List AS}{p':AS}(h1:g∉g1.map (·.g))(h2:s∉p1.map (·.s))(e2:p'.s=s)(e3:p'.ids=[d]):
  FF (g1++⟨g,q',p1++[p']⟩::g2)=qe g s d (FF (g1++⟨g,q,p1⟩::g2)):=by
 rw[Xt,Xt,aja (by rw[N7];exact h1)];simp[List.map_append,List.map_cons,List.map_nil];rw[aq4 (by grind),e2,e3]
section
variable {F:Nat->Prop}{W w w0:World}{L T:List As}{mw mh:Int}{mb Hr ub:Nat}{ms:List (Int×Bz)}{m2:List ((Int×Int)×Int)}{g1 g2 gs:List Cw}{g sc:Int}{q:Bz}{ps p1 p2:List AS}{la ta:Option Addr}{ln lc tn tc i:Nat}{tm:Int}{u:aV}
def N6.asf {G:Cw}(I:N6 ms m2 (g1++G::g2)):G.g∉g1.map (·.g):=λh=>by have:=I.nd;grind
def ajc {K:Option Addr->Nat->Nat->World->Prop}(hl:ps.length<=1000000000)(s:Sep F W w (av ub 211 [ae g,ae sc,.slice none 0 0]::Bc (g1++⟨g,q,ps⟩::g2)::T))
  (k:∀q' w',Sep F W w' (Bc (g1++⟨g,q',ps++[⟨g,sc,⟨none,0,0⟩,[]⟩]⟩::g2)::T)->K q'.a q'.n q'.c w'):App P #[208,208] 208 (.slice q.a q.n q.c) (.slice (sZ ub) 1 1) w K:=by
 have s:=i_ s;unfold Bc at s;rw[List.map_append,List.map_cons]at s;have s:=Tb s;have s:Sep F W w (ak q.a q.n q.c 211 3 (flat yB ps)::_::av ub 211 _::T):=s;have hqn:=(aO s (i:=0) rfl uG (by decide)).len;have src:Src w (sZ ub) 1 3 (yB ⟨g,sc,⟨none,0,0⟩,[]⟩):=⟨rfl,apf _,λj v hj=>by rw[cq,Nat.zero_add];exact cM s (i:=2) rfl rfl hj⟩;refine ig ee s (i:=0) (bytes:=40) rfl rfl rfl rfl rfl rfl (by decide) rfl src (by simp[maxLen];omega) (by omega) (λe=>by cases e) λra rc w s=>?_;have e:flat yB ps++yB ⟨g,sc,⟨none,0,0⟩,[]⟩=flat yB (ps++[⟨g,sc,⟨none,0,0⟩,[]⟩]):=by rw[fX];simp[flat]
 rw[e]at s;apply k ⟨ra,q.n+1,rc⟩ w;have s:=gd (A:=[_,_,_]) (B:=[gpR ⟨g,⟨ra,q.n+1,rc⟩,ps++[⟨g,sc,⟨none,0,0⟩,[]⟩]⟩,_]) [0,1] s rfl (by decide);have s:=Me s;unfold Bc;simp_all
def atw {q':Bz}{p:AS}(s:Sep F W w (Bc gs::Ay (jX (g1++⟨g,q,ps⟩::g2))::T))(hp:p.q=⟨none,0,0⟩)(hi:p.ids=[]):Sep F W w (Bc gs::Ay (jX (g1++⟨g,q',ps++[p]⟩::g2))::T):=by
 have e1:jX (g1++⟨g,q,ps⟩::g2)=(jX g1++ps)++jX g2:=by unfold jX;grind
 have e2:aq_ p=ak none 0 0 3 1 []:=by unfold aq_;rw[hp,hi];rfl
 rw[e1]at s;rw[aaE];unfold Ay at s⊢;rw[List.map_append]at s;rw[List.map_append,List.map_cons,e2];have s:=bE s 3 1;have s:=pk 3 [0,2,1] s;exact ck (Me s) (List.Perm.swap _ _ _)
structure ams (mw mh:Int) (us:List aV) (i:Nat) (ms:List (Int×Bz)) (m2:List ((Int×Int)×Int)) (gs:List Cw):Prop where
 I:N6 ms m2 gs
 pl:FF gs=acG mw mh (us.take i)
 sz:∀G∈gs,G.ps.length<=i/\∀p∈G.ps,p.ids.length<=i
def ams.next {us:List aV}{ms':List (Int×Bz)}{YO:List ((Int×Int)×Int)}{q':Bz}{p':AS}(S:ams mw mh us i ms m2 gs)(hu:us[i]? =some u)(I':N6 ms' YO (g1++⟨g,q',p1++p'::p2⟩::g2))(e:FF (g1++⟨g,q',p1++p'::p2⟩::g2)=qe u.goal (aC mw mh u.cell) u.id (FF gs))
  (h1:∀G∈g1,G∈gs)(h2:∀G∈g2,G∈gs)(hl:(p1++p'::p2).length<=i+1)(hp:p'.ids.length<=i+1)(hps:∀p,p∈p1\/p∈p2->p.ids.length<=i):ams mw mh us (i+1) ms' YO (g1++⟨g,q',p1++p'::p2⟩::g2):=by
 refine⟨I',?_,λG hG=>?_⟩
 ·rw[e,S.pl,List.take_add_one,hu];show _=List.foldl _ _ (us.take i++[u]);rw[List.foldl_append];rfl
 ·have up:∀G∈gs,G.ps.length<=i+1/\∀p∈G.ps,p.ids.length<=i+1:=λG hG=>⟨Nat.le_succ_of_le (S.sz G hG).1,λp hp=>Nat.le_succ_of_le ((S.sz G hG).2 p hp)⟩;grind
def atx {gs:List Cw}(h:∀G∈gs,∀p∈G.ps,p.g=G.g):(jX gs).map Mf=C8 (FF gs):=by unfold jX C8 FF;rw[List.map_flatMap,List.flatMap_map];refine congrArg List.flatten ?_|>λe=>(List.flatMap_def ..).trans (e.trans (List.flatMap_def ..).symm);refine List.map_congr_left λG hG=>?_;rw[List.map_map];refine List.map_congr_left λp hp=>?_;show GR.mk _ _ _=GR.mk _ _ _;grind
end
def asg {a:Int}{b:Bool}{K:Int->Bool->Prop}(k:K a b):dT (.tuple #[ae a,.bool b]) λl=>dH l λv0 l0=>dI .i64 v0 λx=>dH l0 λv1 l1=>dB v1 λy=>kL l1 (K x y):=k
section
variable {F:Nat->Prop}{W w w0:World}{L T:List As}{mw mh:Int}{la:Option Addr}{ln lc:Nat}{us:List aV}
def apg {Q:Option Addr->Nat->Nat->World->Prop}{mb Hr:Nat}{ms:List (Int×Bz)}{m2:List ((Int×Int)×Int)}{gs:List Cw}{ga:Option Addr}{gn gc:Nat}(I:N6 ms m2 gs)(h64:∀G∈gs,iF G.g)(vX:(jX gs).length<=1000000)(E6:gs.length<=1000000)
  (h:∀oa on oc w',Sep No w0 w' (ak oa on oc 211 3 (flat yB (jX gs))::Ay (jX gs)::[])->Q oa on oc w'):
  ∀(j i:Nat) (oa:Option Addr) (on oc:Nat) (w:World),i+j=gn->gs.length=gn->Sep No w0 w (ak oa on oc 211 3 (flat yB (jX (gs.take i)))::ak ga gn gc 3 1 (flat one (gs.map (·.g)))::Bc gs::Ay (jX gs)::fO fq TM mb ms::[])->
   Bm Q (j+1) (some mb) oa on oc ga gn gc (gn:Int) i w:=by
 intro j;induction j with
 |zero=>
  intro i oa on oc w hij G7 s;show xp _ _ _ _ _ _ _ _ _ _ _ _;rw[xp,bp];rw[List.take_of_length_le (by omega)]at s;exact h oa on oc w (cf (L':=[_,_]) [0,3] s rfl (by decide))
 |succ j ih=>
  intro i oa on oc w hij G7 s;show xp _ _ _ _ _ _ _ _ _ _ _ _;rw[xp,bM];have hi:i<gs.length:=by omega
  obtain⟨G,hG⟩:∃G,gs[i]? =some G:=⟨_,List.getElem?_eq_getElem hi⟩;have hmem:=List.mem_of_getElem? hG;have hgi:gi (gs.map (·.g)) i=G.g:=by unfold gi;grind
  have yf:gs.take (i+1)=gs.take i++[G]:=by rw[List.take_add_one,hG];rfl
  have hall:jX (gs.take (i+1))=jX (gs.take i)++G.ps:=by unfold jX;grind
  have hle:(jX (gs.take (i+1))).length<=(jX gs).length:=by
   have e:jX gs=jX (gs.take (i+1))++jX (gs.drop (i+1)):=by unfold jX;rw[<-List.flatMap_append,List.take_append_drop]
   grind
  have Cj:=(aO s (i:=0) rfl uG (by decide)).len;rw[hall,List.length_append]at hle;apply(aO s (i:=1) rfl cE (by decide)).rE rfl (by omega);rw[hgi,Mc (by omega)];apply acH s (i:=4) rfl I.hk (h64 G hmem);rw[I.of_ G hmem];have src:Src w G.q.a G.q.n 3 (flat yB G.ps):=by have s2:=cf (L':=[_]) [2] s rfl (by decide);have s3:=(gL s2).2;exact apW s3 (by rw[List.getElem?_append_left (by rw[List.length_map];exact hi),List.getElem?_map,hG];rfl)
  have hcc:G.q.a=none->G.q.c=0:=by have s2:=cf (L':=[_]) [2] s rfl (by decide);have s3:=(gL s2).2;exact aeX s3 (by rw[List.getElem?_append_left (by rw[List.length_map];exact hi),List.getElem?_map,hG];rfl)
  have hqn:G.ps.length=G.q.n:=by have:=src.1;rw[iU uG]at this;omega
  refine ig ee s (i:=0) (bytes:=40) rfl rfl rfl rfl rfl rfl (by decide) rfl src (by simp[maxLen];omega) (by omega) hcc λra rc w s=>?_;rw[<-fX,<-hall]at s;grind
def amt {Q:Option Addr->Nat->Nat->World->Prop}{mb Hr:Nat}(hU:Sl w0 la ln lc 3 iy us)(pZ:ln<=100000)(hm:nP mw mh us)
  (h:∀oa on oc ps w',ps.map Mf=mG mw mh us->Sep No w0 w' (ak oa on oc 211 3 (flat yB ps)::Ay ps::[])->Q oa on oc w'):
  ∀(j i:Nat) (ms:List (Int×Bz)) (m2:List ((Int×Int)×Int)) (gs:List Cw) (w:World),i+j=ln->ams mw mh us i ms m2 gs->Sep No w0 w (Bc gs::Ay (jX gs)::fO fq TM mb ms::fO Ku vI Hr m2::[])->
   zn Q (j+1) mw mh la ln lc (some mb) (some Hr) la ln lc (ln:Int) i w:=by
 have hlen:=hU.len;intro j;induction j with
 |zero=>
  intro i ms m2 gs w hij S s;show zm _ _ _ _ _ _ _ _ _ _ _ _ _ _ _;rw[zm,bp];have S:=S;have IE:=S.pl;rw[List.take_of_length_le (by omega)]at IE;have avr:gs.map (·.g)=tD us:=by rw[<-S_,<-IE,N7]
  have htr:(jX gs).map Mf=mG mw mh us:=by rw[atx S.I.pg,IE];rfl
  have hal:(jX gs).length<=us.length:=by have e:((jX gs).map Mf).length=(jX gs).length:=List.length_map ..;have:=afG mw mh us;grind
  have h64:∀u∈us,iF u.goal:=λu hu=>Av (hm.at_ u hu).2;refine aax s (hU.fr (au s)) (by omega) h64 λga gn gc w s _=>?_;rw[<-avr]at s;have G7:=(aO s (i:=0) rfl cE (by decide)).len;rw[List.length_map]at G7;have s:=bE s 211 3;refine⟨gn+1,apg (Hr:=Hr) S.I (λG hG=>?_) (by omega) (by have:=ao5 (us:=us);grind) (λoa on oc w' s'=>h oa on oc (jX gs) w' htr s') gn 0 none 0 0 w (by omega) G7 (cf (L':=[_,_,_,_,_]) [0,1,2,3,4] s rfl (by decide))⟩;have:G.g∈tD us:=by grind
  rw[<-S_ (w:=mw) (h:=mh)]at this;obtain⟨q,hq,e⟩:=List.mem_map.1 this;have hf:∃u∈us,u.goal=G.g:=by
   have hg:∀(us:List aV) (out:List Int),G.g∈us.foldl Ez out->G.g∈out\/∃u∈us,u.goal=G.g:=by
    intro us;induction us with
    |nil=>grind
    |cons u us ih=>
     intro out h;rcases ih _ h with h|⟨v,hv,e⟩
     ·unfold Ez at h;grind
     grind
   rw[S_]at this;exact(hg us [] this).elim (λh=>by cases h) id
  grind
 |succ j ih=>
  intro i ms m2 gs w hij S s;show zm _ _ _ _ _ _ _ _ _ _ _ _ _ _ _;rw[zm,bM];refine(hU.fr (au s)).El rfl (by omega) λp u hu hc=>?_;have IG:=hm.at_ u (List.mem_of_getElem? hu);have hsc:=(bW IG.1).2;have QS:=gM hm.wh.1 hm.wh.2;have WX:iF u.goal/\iF (aC mw mh u.cell):=⟨Av IG.2,by unfold iF;omega⟩;refine WT hc s λub w s=>?_;apply lI s 0 rfl;refine eY s λw s _=>?_;apply lI s 0 rfl;refine aT s λkb w s=>?_;refine sT s 0 rfl λw s=>?_;refine ax s (i:=0) rfl rfl rfl λw s=>?_;refine lI s 0 rfl (lI s 0 rfl ?_);refine Ew (K:=Ku) (x:=(u.goal,aC mw mh u.cell)) atT (ace w) s (i:=5) rfl S.I.IL WX (λhn=>?_) λk hk=>?_
  ·apply asg;obtain⟨g1,⟨g,q,ps⟩,g2,eg,I,N2⟩:=S.I.group u.goal;subst eg;have hnew:aC mw mh u.cell∉ps.map (·.s):=λhin=>by obtain⟨p',hp',e⟩:=List.mem_map.1 hin;have:=I.at2 ⟨u.goal,q,ps⟩ (by simp) p' hp';rw[e,hn]at this;cases this
   have IE:qe u.goal (aC mw mh u.cell) u.id (FF (g1++⟨u.goal,q,ps⟩::g2))=qe u.goal (aC mw mh u.cell) u.id (FF gs):=by
    rcases N2 with e|⟨e1,e2,e3,e4⟩
    ·rw[e]
    ·cases e3;subst e2 e1;have:FF (gs++[⟨u.goal,⟨none,0,0⟩,[]⟩])=FF gs++[(u.goal,[])]:=by unfold FF;simp
     rw[this];exact aq5 (by rw[N7];exact e4)
   have hsz:ps.length<=i/\∀p∈ps,p.ids.length<=i:=by
    rcases N2 with e|⟨e1,e2,e3,e4⟩
    ·exact S.sz ⟨u.goal,q,ps⟩ (by rw[e];simp)
    ·cases e3;exact⟨Nat.zero_le _,λp hp=>by cases hp⟩
   have ayt:∀G∈g1,G∈gs:=λG hG=>by
    rcases N2 with e|⟨e1,e2,e3,e4⟩
    ·rw[e];exact List.mem_append_left _ hG
    ·rw[e1];exact hG
   have ayu:∀G∈g2,G∈gs:=λG hG=>by
    rcases N2 with e|⟨e1,e2,e3,e4⟩
    ·rw[e];exact List.mem_append_right _ (List.mem_cons_of_mem _ hG)
    ·rw[e2]at hG;cases hG
   have s:Sep No w0 w (Bc (g1++⟨u.goal,q,ps⟩::g2)::Ay (jX (g1++⟨u.goal,q,ps⟩::g2))::fO fq TM mb ms::fO Ku vI Hr m2::av ub 43 (iy u)::av kb 253 [ae u.goal,ae (aC mw mh u.cell)]::[]):=by
    have s:=cf (L':=[_,_,_,_,_,_]) [2,3,4,5,1,0] s rfl (by decide);rcases N2 with e|⟨e1,e2,e3,e4⟩
    ·rw[<-e];exact s
    ·cases e3;subst e2 e1;have e:jX (gs++[⟨u.goal,⟨none,0,0⟩,[]⟩])=jX gs:=by unfold jX;simp
     rw[e];unfold Bc at s⊢;have s:=bE s 211 3;rw[List.map_append];apply Me (B:=[]);rw[List.append_nil];exact s
   have hqn:q.n=ps.length:=by have s2:=s;unfold Bc at s2;rw[List.map_append,List.map_cons]at s2;have s2:=Tb s2;exact((aO s2 (i:=0) rfl uG (by decide)).len).symm
   have hq:=I.of_ ⟨u.goal,q,ps⟩ (by simp);apply lI s 4 rfl;apply acH s (i:=2) rfl I.hk WX.1;rw[hq];refine lI s 5 rfl (lI s 5 rfl ?_);refine LZ (v:=vI) (ms:=m2) (a:=(q.n:Int)) (x:=(u.goal,aC mw mh u.cell)) atT s (i:=3) rfl I.IL WX λYO w ayv TF _ s=>?_;have s:=ay (cf (L':=[Bc (g1++⟨u.goal,q,ps⟩::g2),Ay (jX (g1++⟨u.goal,q,ps⟩::g2)),fO fq TM mb ms,fO Ku vI Hr YO,av ub 43 (iy u)]) [0,1,2,3,4] s rfl (by decide));rw[hqn]at TF⊢;have fin:∀(q':Bz) (w:World),Sep No w0 w (Bc (g1++⟨u.goal,q',ps++[⟨u.goal,aC mw mh u.cell,⟨none,0,0⟩,[]⟩]⟩::g2)::Ay (jX (g1++⟨u.goal,q,ps⟩::g2))::fO fq TM mb ms::fO Ku vI Hr YO::av ub 43 (iy u)::[])->
     bD P (Instr.mapUpdate 252 (.map (some mb)) (ae u.goal) (.slice q'.a q'.n q'.c)) w λw=>pH (zn Q (j+1)) Q mw mh la ln lc (some mb) (some Hr) (aZ ub) (ps.length:Int) la ln lc (ln:Int) i w:=λq' w s=>by
    refine LZ (k:=3) (e:=208) (K:=fq) (v:=TM) (ms:=ms) (a:=q') (x:=u.goal) ofT s (i:=2) rfl I.hk WX.1 λms' w hk' Ed _ s=>?_;have I2:=I.add (G:=⟨u.goal,q,ps⟩) (p:=⟨u.goal,aC mw mh u.cell,⟨none,0,0⟩,[]⟩) hk' ayv Ed TF rfl hnew;have s:=atw (q':=q') (p:=⟨u.goal,aC mw mh u.cell,⟨none,0,0⟩,[]⟩) s rfl rfl;refine afJ (p2:=[]) (by omega) hk' (I2.of_ ⟨u.goal,q',ps++[⟨u.goal,aC mw mh u.cell,⟨none,0,0⟩,[]⟩]⟩ (by simp)) rfl WX.1 (Nat.zero_le _) s λq2 w s=>?_;refine ih (i+1) ms' YO _ w (by omega) ?_ s;refine S.next hu (I2.pairs (G':=⟨u.goal,q',ps++[⟨u.goal,aC mw mh u.cell,q2,[]++[u.id]⟩]⟩) rfl rfl (by simp) λp hp=>?_) ?_ ayt ayu (by simp;omega) (by simp) λp hp=>?_
    ·rcases List.mem_append.1 hp with hp|hp
     ·exact I.pg ⟨u.goal,q,ps⟩ (by simp) p hp
     ·rw[List.mem_singleton.1 hp]
    ·rw[<-IE];exact atv I.asf hnew rfl rfl
    ·exact hp.elim (λhp=>hsz.2 p hp) λhp=>by cases hp
   refine lI s 4 rfl (lI s 4 rfl (lI s 4 rfl ⟨?_,?_⟩))
   ·apply acH s (i:=2) rfl I.hk WX.1;rw[hq];refine⟨cg s 4 rfl,cg s 4 rfl,?_⟩;refine aN s λxb w s=>⟨cg s 5 rfl,cg s 5 rfl,?_⟩;refine ajc (by omega) s λq' w s=>⟨cg s 4 rfl,?_⟩;exact fin q' w s
   ·refine aN s λxb w s=>⟨cg s 5 rfl,cg s 5 rfl,?_⟩;apply acH s (i:=3) rfl I.hk WX.1;rw[hq];refine⟨cg s 5 rfl,cg s 5 rfl,?_⟩;refine ajc (by omega) s λq' w s=>⟨cg s 4 rfl,?_⟩;exact fin q' w s
  ·apply asg;rw[Bool.not_true,cond_false];obtain⟨⟨g,q,ps⟩,hG,e1,F1,e3⟩:=S.I.at1 _ _ _ hk;simp only at e1 e3;subst e1;obtain⟨p,hp,e4⟩:=Option.map_eq_some_iff.1 e3;have hkl:=(List.getElem?_eq_some_iff.1 hp).1;have avs:ps=ps.take k.toNat++p::ps.drop (k.toNat+1):=by have:=(List.getElem?_eq_some_iff.1 hp).2;rw[<-this,<-List.drop_eq_getElem_cons hkl,List.take_append_drop]
   have hkp:k=((ps.take k.toNat).length:Nat):=by rw[List.length_take];omega
   generalize ps.take k.toNat=p1 at*;generalize ps.drop (k.toNat+1)=p2 at*;subst avs;obtain⟨g1,g2,e5⟩:=List.append_of_mem hG;subst e5;subst hkp;have hsz:=S.sz _ hG;have hn1:aC mw mh u.cell∉p1.map (·.s):=λh=>by have:=S.I.nds _ hG;simp[List.map_append,List.map_cons]at this;rw[List.nodup_append]at this;exact this.2.2 _ h _ (by rw[<-e4];exact List.mem_cons_self ..) rfl
   have s:=cf (L':=[_,_,_,_,av ub 43 (iy u)]) [2,3,4,5,1] s rfl (by decide);refine afJ (by omega) S.I.hk (S.I.of_ _ hG) rfl WX.1 (by have:=hsz.2 p (by simp);omega) s λq2 w s=>?_;refine ih (i+1) ms m2 _ w (by omega) ?_ s;refine S.next hu (S.I.pairs (G':=⟨u.goal,q,p1++⟨p.g,p.s,q2,p.ids++[u.id]⟩::p2⟩) rfl rfl (by simp) λx hx=>?_) ?_ (λG h=>by simp[h]) (λG h=>by simp[h]) ?_ ?_ λx hx=>?_
   ·rw[List.mem_append,List.mem_cons]at hx;rcases hx with h|rfl|h
    ·exact S.I.pg _ hG x (by simp[h])
    ·exact S.I.pg _ hG p (by simp)
    ·exact S.I.pg _ hG x (by simp[h])
   ·exact atu S.I.asf hn1 e4 e4 rfl
   ·have:=hsz.1;simp[List.length_append,List.length_cons]at this⊢;omega
   ·have:=hsz.2 p (by simp);simp[List.length_append,List.length_cons,List.length_nil];omega
   ·exact hsz.2 x (by rcases hx with h|h<;>simp[h])
def aaF {Q:Option Addr->Nat->Nat->World->Prop}(s0:Sep F W w0 L)(hU:Sl w0 la ln lc 3 iy us)(pZ:ln<=100000)(hm:nP mw mh us)
  (h:∀oa on oc ps w',ps.map Mf=mG mw mh us->Sep F W w' (ak oa on oc 211 3 (flat yB ps)::Ay ps::L)->Fr No w0 w'->Q oa on oc w'):EI mw mh la ln lc w0 Q:=by
 apply ZO;refine Rn (bh (F:=No)) hU (by omega) hm λw s _=>?_;refine aai s 252 fq TM λmb w s=>?_;refine aai s 180 Ku vI λHr w s=>?_;have s:=dA (Ps:=[]) s trivial;have s:=dA (Ps:=[]) s trivial;have s:=cf (L':=[Bc [],Ay (jX []),fO fq TM mb ([]:List (Int×Bz)),fO Ku vI Hr ([]:List ((Int×Int)×Int))]) [0,1,3,2] s rfl (by decide);refine⟨ln+1,amt hU pZ hm (λoa on oc ps w' e s'=>h oa on oc ps w' e (fu s0 s') (au s')) ln 0 [] [] [] w (by omega) ⟨⟨List.nodup_nil,List.nodup_nil,List.nodup_nil,(λG h=>by cases h),(λG h=>by cases h),(λg _=>rfl),(λg s k h=>by cases h),(λG h=>by cases h),(λG h=>by cases h)⟩,rfl,λG h=>by cases h⟩ s⟩
end
end Go.Proofs.YtmegplnmiepfbaaGreatDoor.S
set_option maxRecDepth 20000
namespace Go.Proofs.YtmegplnmiepfbaaGreatDoor.S
open Go.Sx
open Go.Extern
def ayw (args:Array Value)(w:World):(callFunc 219 args).run P w=((BytealgMakeNoZero.makeNoZero #[3] #[22] args).run P w).andThen λv w'=>.ok (.value v) w':=run_callFunc_extern Go.Proofs.Tryz.func219 (by kernel_rfl) (by kernel_rfl) (by kernel_rfl) (by kernel_rfl) args w
def ajd:P.underlying 22=some (.slice 5):=by kernel_rfl
def acJ:∀(n t:Nat) (acc:Array Value) (xs:List Int),acc.toList=flat bq xs->∃ys:List Int,(BytealgMakeNoZero.digits n t acc).toList=flat bq ys
 |0,_,acc,xs,h=>⟨xs,h⟩
 |n+1,t,acc,xs,h=>by apply acJ n (t/256) _ (xs++[((t%256:Nat):Int)]);rw[Array.toList_push,h,fX];rfl
def aty (n:Nat)(hn:n<=100000)(w:World):∃t,(BytealgMakeNoZero.makeNoZero #[3] #[22] #[ae n]).run P w=.ok (.slice (sZ w.heap.size) n (grownCap w n 0 5)) (w.drew.drew.alloc (.cells (BytealgMakeNoZero.digits (grownCap w n 0 5) t #[]) 5)):=by
 have ayx:BytealgMakeNoZero.makeNoZero #[3] #[22] #[ae n]=
  (do
   let .slice elem<-underlying 22|stuck "bytealg.MakeNoZero: slice type expected"
   if(n:Int)<0||(n:Int)>2^48 then runtimePanic (.error "makeslice: len out of range")
   let cap<-choose (.appendCap (n:Int).toNat 0 elem)
   askRoom cap
   let bytes<-choose (.extern "internal/bytealg.MakeNoZero.bytes" 0);let a<-newRow elem (BytealgMakeNoZero.digits cap bytes #[])
   pure (.slice (some a) (n:Int).toNat cap)):=rfl
 have h1:¬(n:Int)<0:=by omega
 have h2:¬(281474976710656:Int)<(n:Int):=by omega
 refine⟨(Question.extern "internal/bytealg.MakeNoZero.bytes" 0).cut (w.tape (w.drawn+1) (.extern "internal/bytealg.MakeNoZero.bytes" 0)),?_⟩;rw[ayx];simp[run_underlying ajd,h1,h2,Question.forced,newRow,grownCap]
attribute [local irreducible] tE callFunc Sem.run BytealgMakeNoZero.makeNoZero in
theorem avt {n:Nat}{w w':World}{v:Value}{K:Value->World->Prop}(h:(BytealgMakeNoZero.makeNoZero #[3] #[22] #[ae n]).run P w=.ok v w')(k:K v w'):tE P 219 #[ae n] w K:=
 jW ayw h k
def avu {F:Nat->Prop}{W w:World}{L:List As}{n:Nat}{K:Value->World->Prop}(hn:1<=n/\n<=100000)(s:Sep F W w L)(h:∀b ys w',ys.length=n->Sep F W w' (ak (sZ b) n n 5 1 (flat bq ys)::L)->K (.slice (sZ b) n n) w'):
  tE P 219 #[ae n] w λv w1=>dS v λa m c=>aL P (Instr.sliceAt 22 (.slice a m c) none (some (ae n)) (some (ae n))) w1 K:=by
 obtain⟨t,ht⟩:=aty n (by omega) w;apply avt ht;have hge:=grownCap_ge w n 0 5;have hle:=grownCap_le_maxLen w n 0 5 (by simp[maxLen];omega);obtain⟨ys,hys⟩:=acJ (grownCap w n 0 5) t #[] [] rfl;have hlen:ys.length=grownCap w n 0 5:=by have e:=congrArg List.length hys;rw[iU cY,Array.length_toList,Lib.size_digits]at e;grind
 generalize hc:grownCap w n 0 5=c at*;have hcs:(BytealgMakeNoZero.digits c t #[])=(flat bq ys).toArray:=by rw[<-hys]
 rw[hcs];have s:=tG (ay (ay s)) (flat bq ys) 5;have s:Sep F W (w.drew.drew.alloc (.cells (flat bq ys).toArray 5)) (av w.heap.size 5 (flat bq ys)::L):=s;have hone:∀u∈flat bq ys,u.oneCell'=true:=λu hu=>by obtain⟨x,_,hx⟩:=List.mem_flatMap.1 hu;exact AV x u hx
 have s:=gX s (i:=0) rfl (by rw[iU cY,hlen]) hle hone;simp[List.set_cons_zero]at s;generalize w.drew.drew.alloc (.cells (flat bq ys).toArray 5)=w1 at*;generalize w.heap.size=b at*;have hs:(sizeOf 5).run P w1=.ok 1 w1:=by kernel_rfl
 have hr:(Instr.sliceAt 22 (.slice (sZ b) n c) none (some (ae n)) (some (ae n))).run P w1=.ok (.slice (sZ b) n n) w1:=by rw[run_sliceAt_slice w1 22 _ _ _ _ ajd,run_slice_hm w1 22 (sZ b) n c ajd .i64 .i64 n n (by omega) (Int.le_refl _) (by omega)];show((sizeOf 5).run P w1).andThen _=_;rw[hs];simp[Result.andThen,sliced,Int.toNat_natCast,Nat.sub_zero];simp[Addr.add]
 apply AX hr;apply h b (ys.take n) w1 (by grind);refine⟨ef.fr s,λA hA=>?_,?_⟩
 ·rcases List.mem_cons.1 hA with rfl|hA
  ·obtain⟨⟨⟨k1,k2,k3,k4⟩,k5⟩,k6⟩:=ef.ok s _ (List.mem_cons_self ..);refine⟨⟨⟨by rw[iU cY,List.length_take];omega,Nat.le_refl _,by omega,λu hu=>?_⟩,?_⟩,λx hx=>k6 x hx⟩
   ·obtain⟨x,_,hx⟩:=List.mem_flatMap.1 hu;exact AV x u hx
   ·rcases k5 with⟨h,_⟩|⟨g,o,cur,e1,e2,e3,e4⟩
    ·cases h
    ·refine .inr ⟨g,o,cur,e1,e2,by omega,?_⟩;have:flat bq (ys.take n)=(flat bq ys).take (n*1):=(U4 cY ys n).symm;grind
  ·exact ef.ok s A (List.mem_cons_of_mem _ hA)
 ·have:=ef.apart s;rw[List.pairwise_cons]at this⊢;exact⟨λA hA b hb=>this.1 A hA b hb,this.2⟩
attribute [local irreducible] tE callFunc Sem.run af cD bw bg aA cu bZ St Bx Al App cH cA cz bX aL bD aq bU av ak aW mapA
def aph {v:Int}{n k:Nat}{Z:List Int}(hk:k<=n)(hZ:k<=Z.length):
  (flat bq (List.replicate n v++Z)).take (n*1)++(flat bq ((List.replicate n v++Z).take n)).take (k*1)++(flat bq (List.replicate n v++Z)).drop ((n+k)*1)=flat bq (List.replicate (n+k) v++Z.drop k):=by
 simp only[Y7,Nat.mul_one];rw[<-List.map_take,<-List.map_take,<-List.map_drop,<-List.map_append,<-List.map_append];congr 1;rw[List.take_left' (by simp),List.take_replicate,Nat.min_eq_left hk,List.replicate_append_replicate,<-List.drop_drop,List.drop_left' (by simp)]
section
variable {F:Nat->Prop}{W w w0:World}{L:List As}{xa:Option Addr}{xc:Nat}{v:Int}
def api {Q:Option Addr->Nat->Nat->World->Prop}{b N:Nat}(hN:N<=8192)(h:∀w',Sep No w0 w' (ak (sZ b) N N 5 1 (flat bq (List.replicate N v))::L)->Q (sZ b) N N w'):
  ∀(m n:Nat) (Z:List Int) (w:World),N<=n+m->1<=n->n+Z.length=N->Sep No w0 w (ak (sZ b) N N 5 1 (flat bq (List.replicate n v++Z))::L)->s8 Q (m+1) N N (sZ b) N N n w:=by
 have done:∀(R:Int->Int->Option Addr->Nat->Nat->Int->World->Prop) (Z:List Int) (w:World),Z.length=0->Sep No w0 w (ak (sZ b) N N 5 1 (flat bq (List.replicate N v++Z))::L)->sY Q R N N (sZ b) N N N w:=λR Z w hZ s=>by unfold sY;grind
 intro m;induction m with
 |zero=>
  intro n Z w hm h1 h2 s;have:n=N:=by omega
  subst this;exact done _ Z _ (by omega) s
 |succ m ih=>
  intro n Z w hm h1 h2 s;show sY Q (s8 Q (m+1)) _ _ _ _ _ _ _;by_cases hn:n=N
  ·grind
  ·rw[sY,bM];apply Pd rfl (by omega);rw[fQ];have em:Dr (n:Int) (N:Int)=n:=by unfold Dr;omega
   rw[em];apply Pc rfl (by omega);have s:=ay s;have hT:=(aO s (i:=0) rfl cY (by decide)).top (m:=n) (by omega);refine ED (p:=n) ee s rfl rfl rfl rfl (by decide) (i:=0) rfl (hT.src (e:=5) cY AV) (by omega) (by simp[Addr.add];omega) λw s=>?_;rw[aph (Nat.min_le_left _ _) (by omega)]at s;have e:IntKind.wrap .i64 ((n:Int)+((min n (N-n):Nat):Int))=((n+min n (N-n):Nat):Int):=by rw[aG];omega
   grind
def Tc {N:Nat}{Q:Option Addr->Nat->Nat->World->Prop}(s0:Sep F W w L)(hA:Sl w xa 1 xc 1 bq [v])(hN:1<=N/\N<=8192)
  (h:∀ra w',Sep F W w' (ak ra N N 5 1 (flat bq (List.replicate N v))::L)->Fr No w w'->Q ra N N w'):rH xa 1 xc N w Q:=by
 apply IW;rw[cy (by omega),cond_false,bp,ke (by decide),ke (by omega)];apply C2 (by decide) (by omega) (by omega);have e1:((1:Nat):Int)*N=N:=by omega
 rw[e1,bp (by decide),bp,cy (by decide),cond_false,aG,bp];refine avu (by omega) (bh (F:=No)) λb ys w' hys s=>?_;refine ED (p:=0) ee s rfl rfl rfl rfl (by decide) (i:=0) rfl ((hA.fr (au s)).src (e:=5) cY AV) (by omega) rfl λw' s=>?_;have hm:min 1 N=1:=by omega
 rw[hm]at s⊢;have e2:(flat bq ys).take (0*1)++(flat bq [v]).take (1*1)++(flat bq ys).drop ((0+1)*1)=flat bq (List.replicate 1 v++ys.drop 1):=by simp only[Y7,Nat.zero_mul,List.take_zero,List.nil_append,Nat.mul_one,Nat.zero_add];rw[<-List.map_take,<-List.map_drop,<-List.map_append];rfl
 rw[e2]at s;exact⟨N+1,api hN.2 (λw' s=>h _ _ (dD s0 s (i:=0) rfl) (au s)) N 1 (ys.drop 1) w' (by omega) (by omega) (by rw[List.length_drop];omega) s⟩
def amu {N:Nat}{Q:Option Addr->Nat->Nat->World->Prop}(s0:Sep F W w L)(hN:1<=N/\N<=8192)
  (h:∀ra w',Sep F W w' (ak ra 0 0 5 1 (flat bq [])::L)->Fr No w w'->Q ra 0 0 w'):rH Option.none 0 0 N w Q:=by
 apply IW;rw[cy (by omega),cond_false,bp,ke (by decide),ke (by omega)];apply C2 (by decide) (by omega) (by omega);have e1:((0:Nat):Int)*N=0:=by omega
 rw[e1,bp (by decide),bp,show((((0:Nat):Int))==0)=true from rfl,cond_true];refine aN (bh (F:=No)) λb w' s=>?_;have s:=gX (n:=0) (size:=1) s (i:=0) rfl rfl (by decide) (λu hu=>by cases hu);exact h _ _ (dD s0 s (i:=0) rfl) (au s)
end
end Go.Proofs.YtmegplnmiepfbaaGreatDoor.S
namespace Go.Proofs.YtmegplnmiepfbaaGreatDoor.S
open Go.Sx
attribute [local irreducible] af cD bw bg aA cu bZ St Bx Al App cH cA cz bX aL bD aq bU av ak aW mapA
def aAg:oP 242 fns=true:=by kernel_rfl
def IB (cs:List Int):Bool:=!cs.any λc=>c !=gi cs 0
def GS (f:Nat)(cs:List Int):Option (List Int):=if f=0 then(if IB cs=true then some [0,gi cs 0]else none)else if f=1 then some (1::cs)else some (tH cs)
abbrev EA (tw th:Int)(a:Option Addr)(n c:Nat):List Value:=[ae tw,ae th,.slice a n c]
section
variable {F:Nat->Prop}{W w w0:World}{L:List As}{ca:Option Addr}{cn cc tb:Nat}{cs:List Int}{tw th:Int}
def apj {Q:Bool->World->Prop}(hC:Sl w ca cn cc 1 bq cs)(hn:1<=cn/\cn<=1000)(s:Sep F W w (av tb 84 (EA tw th ca cn cc)::L))(h:Q (!IB cs) w):mL ca cn cc (.func (.func 242) #[] #[.pointer (sZ tb)]) w Q:=by
 apply CN;apply EV;have hl:=hC.len;have loop:∀(j i:Nat),i+j=cn->(∀k,k<i->gi cs k=gi cs 0)->jl (λr w=>Q (decide (r≥0)) w) (j+1) ca cn cc (.func (.func 242) #[] #[.pointer (sZ tb)]) (cn:Int) i w:=by
  intro j;induction j with
  |zero=>
   intro i hi hall;show jk _ _ _ _ _ _ _ _ _;unfold jk;have e:IB cs=true:=by rw[IB,Bool.not_eq_true',List.any_eq_false];intro c hc;obtain⟨k,hk⟩:=List.mem_iff_getElem?.1 hc;have hkl:=(List.getElem?_eq_some_iff.1 hk).1;rw[iz hkl]at hk;grind
   grind
  |succ j ih=>
   intro i hi hall;show jk _ _ _ _ _ _ _ _ _;rw[jk,bM];apply hC.AD rfl (by omega);unfold h_;simp only;have hc:Lb (gi cs i) (sZ tb) w λr w'=>cond r (Q (decide ((i:Int)≥0)) w') (jl (λr w=>Q (decide (r≥0)) w) (j+1) ca cn cc (.func (.func 242) #[] #[.pointer (sZ tb)]) (cn:Int) (IntKind.wrap .i64 ((i:Int)+1)) w'):=by
    apply Zq;refine ah (lS s 0 rfl ?_);apply hC.AD (k:=0) rfl (by omega);by_cases e:gi cs i=gi cs 0
    ·rw[Es e];show cond false _ _;rw[cond_false,Mc (by omega)];exact ih (i+1) (by omega) λk hk=>by grind
    ·rw[Gl e];show cond true _ _;rw[cond_true,decide_eq_true (by omega)];have e2:IB cs=false:=by rw[IB,Bool.not_eq_false',List.any_eq_true];exact⟨gi cs i,ff (by omega),Gl e⟩
     grind
   exact hc
 exact⟨cn+1,loop cn 0 (by omega) λk hk=>by omega⟩
def ah9 {oa:Option Addr}{on oc b k:Nat}{out ns:List Int}{K:Option Addr->Nat->Nat->World->Prop}(s:Sep F W w (ak oa on oc 5 1 (flat bq out)::L))(Cj:on<=100000000)(hk:ns.length=k)(IL:k<=100000){ba:Option Addr}{bc:Nat}(hB:Sl w ba k bc 1 bq ns)
  (h:∀a' c' w',Sep F W w' (ak a' (on+k) c' 5 1 (flat bq (out++ns))::L)->K a' (on+k) c' w'):App P #[22,22] 22 (.slice oa on oc) (.slice ba k bc) w K:=by
 refine ig ee s (i:=0) (bytes:=1) rfl rfl rfl rfl rfl rfl (by decide) rfl (hB.src (e:=5) cY AV) (by simp[maxLen];omega) (by omega) (λe=>hB.nil e) λa1 c1 w1 s1=>?_;rw[<-fX]at s1;grind
def acK {ns:List Int}{b:Nat}{i:Nat}(s:Sep F W w L)(hi:L[i]? =some (av b 5 (flat bq ns))):Sl w (sZ b) ns.length ns.length 1 bq ns:=
 ⟨⟨rfl,λj x hx=>⟨_,rfl,λk v hk=>by
  rw[cq,Nat.zero_add,Nat.mul_one];apply cM s rfl hi;have F1:k=0:=by have:=(List.getElem?_eq_some_iff.1 hk).1;rw[cY]at this;omega
  subst F1;have:=sG cY hx (j:=0) (by decide);grind⟩⟩,Nat.le_refl _,λe=>by cases e⟩
def ara {Q:Option Addr->Nat->Nat->World->Prop}{b:Nat}(hA:Sl w0 ca cn cc 1 bq cs)(hn:cn<=1000)(s:Sep No w0 w (ak (sZ b) 1 1 5 1 (flat bq [2])::av tb 84 (EA tw th ca cn cc)::L))
  (h:∀g o rn rc w',Sep No w0 w' (ak (some ⟨g,o,none⟩) rn rc 5 1 (flat bq (tH cs))::av tb 84 (EA tw th ca cn cc)::L)->Q (some ⟨g,o,none⟩) rn rc w'):∃k,wM Q k (aZ tb) (sZ b) 1 1 0 w:=by
 have hlen:=hA.len;have inner:∀(P3:Addr->Option Addr->Nat->Nat->Int->World->Prop) (x:Int) (i:Nat) (oa:Option Addr) (on oc:Nat) (out:List Int),cs[i]? =some x->on<=1000000->
   (∀a' c' w',Sep No w0 w' (ak a' (on+2) c' 5 1 (flat bq (out++[((lead x (cs.drop (i+1)):Nat):Int)%256,x]))::av tb 84 (EA tw th ca cn cc)::L)->P3 (aZ tb) a' (on+2) c' ((i+1+lead x (cs.drop (i+1)):Nat):Int) w')->
   ∀(k r:Nat) (w:World),i+1+r+k=cn->lead x (cs.drop (i+1))=r+lead x (cs.drop (i+1+r))->Sep No w0 w (ak oa on oc 5 1 (flat bq out)::av tb 84 (EA tw th ca cn cc)::L)->wL P3 Q (k+1) (aZ tb) oa on oc i ((r+1:Nat):Int) w:=by
  intro P3 x i oa on oc out hx Cj next
  have hix:i<cn:=by grind
  have hgx:gi cs i=x:=by rw[iz (by omega)]at hx;grind
  have over:∀(r:Nat) (w:World),i+1+r<=cn->lead x (cs.drop (i+1))=r->Sep No w0 w (ak oa on oc 5 1 (flat bq out)::av tb 84 (EA tw th ca cn cc)::L)->En P3 Q (aZ tb) oa on oc i ((r+1:Nat):Int) w:=by
   intro r w hr hl s;apply lS s 1 rfl;apply Sl.AD (hA.fr (au s)) rfl hix;rw[hgx,aG,aG,wrap_u8'];have e0:((r+1:Nat):Int)-1=(r:Int):=by omega
   rw[e0];refine aN s λb w s=>?_;have hB:=acK (ns:=[(r:Int)%256,x]) s (i:=0) rfl;refine ah9 (k:=2) (b:=0) (i_ s) (by omega) rfl (by decide) hB λa1 c1 w1 s1=>?_;rw[hl]at next
   have:=next a1 c1 w1 (gB s1 (.cons_cons _ (List.sublist_cons_self _ _)))
   grind
  intro k;induction k with
  |zero=>
   intro r w hr hl s;show JB P3 Q (wL P3 Q 0) _ _ _ _ _ _ _;have s:=ay s;apply lS s 1 rfl;rw[aG,bp];have e:cs.drop (i+1+r)=[]:=List.drop_eq_nil_of_le (by omega);rw[e]at hl;exact over r _ (by omega) hl s
  |succ k ih=>
   intro r w hr hl s;show JB P3 Q (wL P3 Q (k+1)) _ _ _ _ _ _ _;have ei:(i:Int)+((r+1:Nat):Int)=((i+1+r:Nat):Int):=by push_cast;omega
   have s:=ay s;apply lS s 1 rfl;rw[aG,bM,ei];have hB:=hA.fr (au s);refine lS s 1 rfl (Sl.AD hB rfl (by omega) ?_);refine lS s 1 rfl (Sl.AD hB rfl hix ?_);have hd:cs.drop (i+1+r)=gi cs (i+1+r)::cs.drop (i+1+r+1):=by rw[List.drop_eq_getElem_cons (by omega)];congr 1;have:=iz (l:=cs) (i:=i+1+r) (by omega);rw[List.getElem?_eq_getElem (by omega)]at this;exact Option.some.inj this
   rw[hd,lead]at hl;rw[hgx];by_cases he:gi cs (i+1+r)=x
   ·rw[cV he,cond_true,aG];rw[if_pos he]at hl;exact ih (r+1) _ (by omega) (by rw[show i+1+(r+1)=i+1+r+1 by omega];omega) s
   ·rw[cy he,cond_false];rw[if_neg he]at hl;exact over r _ (by omega) hl s
 have outer:∀(k i:Nat) (oa:Option Addr) (on oc:Nat) (out:List Int) (w:World),cn-i<=k->i<=cn->1<=on->on<=1+2*i->out++lC (cn-i) (cs.drop i)=tH cs->Sep No w0 w (ak oa on oc 5 1 (flat bq out)::av tb 84 (EA tw th ca cn cc)::L)->wM Q (k+1) (aZ tb) oa on oc i w:=by
  have stop:∀R (oa:Option Addr) (on oc:Nat) (out:List Int) (w:World),1<=on->out++lC (cn-cn) (cs.drop cn)=tH cs->Sep No w0 w (ak oa on oc 5 1 (flat bq out)::av tb 84 (EA tw th ca cn cc)::L)->JC Q R (aZ tb) oa on oc cn w:=by intro R oa on oc out w h1 he s;apply lS s 1 rfl;rw[bp];rw[List.drop_eq_nil_of_le (by omega),Nat.sub_self,lC,List.append_nil]at he;rw[he]at s;obtain⟨g,o,rfl⟩:=pT s (i:=0) rfl (by omega);exact h _ _ _ _ _ s
  intro k;induction k with
  |zero=>
   intro i oa on oc out w hk hi h1 Cj he s;obtain rfl:i=cn:=by omega
   exact stop _ _ _ _ _ _ h1 he s
  |succ k ih=>
   intro i oa on oc out w hk hi h1 Cj he s;by_cases hin:i=cn
   ·subst hin;exact stop _ _ _ _ _ _ h1 he s
   ·show JC Q (wM Q (k+1)) _ _ _ _ _ _;apply lS s 1 rfl;rw[bM];have hx:cs[i]? =some (gi cs i):=iz (by omega);have hd:cs.drop i=gi cs i::cs.drop (i+1):=by obtain⟨h1,h2⟩:=List.getElem?_eq_some_iff.1 hx;rw[List.drop_eq_getElem_cons h1,h2]
    have NJ:=Pe (gi cs i) (cs.drop (i+1));rw[List.length_drop]at NJ;refine⟨cn-(i+1)+1,inner _ (gi cs i) i oa on oc out hx (by omega) (λa' c' w' s'=>?_) (cn-(i+1)) 0 w (by omega) (by rw[Nat.zero_add]) s⟩;refine ih (i+1+lead (gi cs i) (cs.drop (i+1))) a' (on+2) c' _ w' (by omega) (by omega) (by omega) (by omega) ?_ s';rw[<-he,hd,show cn-i=(cn-(i+1))+1 by omega,lC,List.append_assoc,List.drop_drop];congr 1;show _::_::_=_::_::_;congr 2;exact ahE _ _ _ (by rw[List.length_drop];omega) (by rw[List.length_drop];omega)
 exact⟨cn+1,outer cn 0 _ 1 1 [2] w (by omega) (by omega) (by omega) (by omega) (by rw[List.drop_zero,Nat.sub_zero,<-hlen];rfl) s⟩
def C9 {Q:Option Addr->Nat->Nat->World->Prop}{f:Nat}(hA:Sl w0 ca cn cc 1 bq cs)(hn:1<=cn/\cn<=1000)(hf:f<=2)
  (hno:GS f cs=none->∀w',Sep No w0 w' []->Q none 0 0 w')(hyes:∀out,GS f cs=some out->∀g o rn rc w',Sep No w0 w' [ak (some ⟨g,o,none⟩) rn rc 5 1 (flat bq out)]->Q (some ⟨g,o,none⟩) rn rc w'):HH tw th ca cn cc f w0 Q:=by
 apply adq;have hlen:=hA.len;refine aN (bh (F:=No)) λtb w s=>?_;have ew:IntKind.wrap .u8 (f:Int)=f:=by rw[wrap_u8'];omega
 rw[ew];refine aN s λb w s=>?_;have s:Sep No w0 w (av b 5 (flat bq [(f:Int)])::av tb 84 (EA tw th ca cn cc)::[]):=s;have hC:=hA.fr (au s);have row:Sep No w0 w (ak (sZ b) 1 1 5 1 (flat bq [(f:Int)])::av tb 84 (EA tw th ca cn cc)::[]):=by have:=gX (size:=1) s (i:=0) rfl rfl (by decide) (λu hu=>by simp[flat,bq]at hu;subst hu;rfl);grind
 by_cases f0:f=0
 ·subst f0;apply lS s 1 rfl;apply apj hC hn (ai s);cases hs:IB cs with
  |false=>
   exact hno (by unfold GS;grind) w (ai (ai s))
  |true=>
   apply lS s 1 rfl;apply hC.AD (k:=0) rfl (by omega);refine aN row λxb w s=>?_;have hB:=acK (ns:=[gi cs 0]) s (i:=0) rfl;refine ah9 (k:=1) (b:=0) (i_ s) (by omega) rfl (by decide) hB λa1 c1 w1 s1=>?_;obtain⟨g,o,rfl⟩:=pT s1 (i:=0) rfl (by omega);exact hyes [0,gi cs 0] (by unfold GS;grind) g o _ _ w1 (cf (L':=[_]) [0] s1 rfl (by decide))
 ·rw[cy (by omega),cond_false];by_cases f1:f=1
  ·subst f1;apply lS s 1 rfl;refine ah9 (b:=0) row (by omega) hlen (by omega) hC λa1 c1 w1 s1=>?_;obtain⟨g,o,rfl⟩:=pT s1 (i:=0) rfl (by omega);exact hyes (1::cs) (by unfold GS;grind) g o _ _ w1 (cf (L':=[_]) [0] s1 rfl (by decide))
  ·obtain rfl:f=2:=by omega
   exact ara hA (by omega) row λg o rn rc w' s=>hyes (tH cs) (by unfold GS;grind) g o _ _ w' (cf (L':=[_]) [0] s rfl (by decide))
end
def amv (x:Int)(ys:List Int):(tH (x::ys)).length=3+(lC ys.length (ys.drop (lead x ys))).length:=by show(2::_::x::lC ys.length (ys.drop (lead x ys))).length=_;grind
def aje {x:Int}:∀{ys:List Int},(∀y∈ys,y=x)->lead x ys=ys.length
 |[],_=>rfl
 |y::ys,h=>by rw[lead,if_pos (h y (List.mem_cons_self ..)),aje λz hz=>h z (List.mem_cons_of_mem _ hz)];rfl
def apl {cs:List Int}(h:1<=cs.length):3<=(tH cs).length/\(IB cs=true↔(tH cs).length=3):=by
 match cs,h with
 |x::ys,_=>
  rw[amv];refine⟨by omega,?_⟩;have e0:gi (x::ys) 0=x:=rfl;rw[IB,e0,Bool.not_eq_true',List.any_eq_false];constructor
  ·intro hs;have:lead x ys=ys.length:=aje λy hy=>by grind
   rw[this,List.drop_length];cases ys.length<;>rfl
  ·intro hl c hc;have h0:ys.drop (lead x ys)=[]:=by
    cases hd:ys.drop (lead x ys)with
    |nil=>rfl
    |cons z zs=>
     rw[hd]at hl;obtain⟨k,hk⟩:∃k,ys.length=k+1:=by
      cases ys with
      |nil=>simp at hd
      |cons y ys=>simp_all
     rw[hk]at hl;simp only[lC,List.length_cons]at hl;omega
   have h1:lead x ys=ys.length:=by have:=Pe x ys;grind
   have h2:=Nz x ys;grind
section
variable {F:Nat->Prop}{W w w0:World}{L:List As}{ca:Option Addr}{cn cc tb:Nat}{cs:List Int}{tw th:Int}
def afK {Q:Int->Option Addr->Nat->Nat->World->Prop}{R:Addr->Int->Option Addr->Nat->Nat->Int->World->Prop}{b:Int}{oa:Option Addr}{on oc:Nat}{t:Addr}(h:Q b oa on oc w):jN Q R t b oa on oc 3 w:=by unfold jN;grind
def aka {Q:Int->Option Addr->Nat->Nat->World->Prop}(hA:Sl w0 ca cn cc 1 bq cs)(hn:1<=cn/\cn<=1000)(h:∀b g o rn rc w',Sep No w0 w' [ak (some ⟨g,o,none⟩) rn rc 5 1 (flat bq (tI cs).2)]->Q b (some ⟨g,o,none⟩) rn rc w'):
  EO tw th ca cn cc w0 Q:=by
 apply Zr;have hlen:=hA.len;obtain⟨h3,vX⟩:=apl (cs:=cs) (by omega);refine aN (bh (F:=No)) λtb w s=>?_;have rd:∀{w:World} {L':List As} {i:Nat} {K:Int->Int->Option Addr->Nat->Nat->Prop},Sep No w0 w L'->L'[i]? =some (av tb 84 (EA tw th ca cn cc))->K tw th ca cn cc->af .i64 ((aZ tb).add 0) w λa=>af .i64 ((aZ tb).add 1) w λb=>aA ((aZ tb).add 2) w λc d e=>K a b c d e:=λs hi k=>
  dx s rfl hi rfl (dx s rfl hi rfl (gT s rfl hi rfl k))
 have last:∀{best:Int} {g o on oc:Nat} {out:List Int} {w:World},out.length=on->(if(tH cs).length<on then tH cs else out)=(tI cs).2->Sep No w0 w (ak (some ⟨g,o,none⟩) on oc 5 1 (flat bq out)::av tb 84 (EA tw th ca cn cc)::[])->oh Q 2 (aZ tb) best (some ⟨g,o,none⟩) on oc 2 w:=λ{best g o on oc out w} hl he s=>by
  show jN Q (oh Q 1) _ _ _ _ _ _ _;unfold jN;apply rd s (i:=1) rfl;refine C9 (hA.fr (au s)) hn (by decide) (λe=>by unfold GS at e;cases e) λro e g2 o2 rn rc w' s'=>?_;unfold GS at e;rw[if_neg (by decide),if_neg (by decide),Option.some.injEq]at e;subst e;have hrn:=(aO s' (i:=0) rfl cY (by decide)).len;have s:=fu s s';show cond true _ _;rw[cond_true];show cond false _ _;rw[cond_false];by_cases hlt:(rn:Int)<(on:Int)
  ·rw[bM hlt];unfold y7;rw[AE]at he;refine afK (h _ _ _ _ _ _ ?_);rw[<-he];exact cf (L':=[_]) [0] s rfl (by decide)
  ·rw[bp hlt];rw[fQ]at he;refine afK (h _ _ _ _ _ _ ?_);rw[<-he];exact cf (L':=[_]) [1] s rfl (by decide)
 refine⟨4,?_⟩;show jN Q (oh Q 3) _ _ _ _ _ _ _;unfold jN;apply rd s (i:=0) rfl;refine C9 (hA.fr (au s)) hn (by decide) (λe w' s'=>?_) λro e g o rn rc w' s'=>?_
 ·
  have hs:IB cs=false:=by unfold GS at e;grind
  have s:=fu s s';show cond false _ _;rw[cond_false];show jN Q (oh Q 2) _ _ _ _ _ _ _;unfold jN;apply rd s (i:=0) rfl;refine C9 (f:=1) (hA.fr (au s)) hn (by decide) (λe=>by unfold GS at e;cases e) λro e g2 o2 rn rc w' s'=>?_;unfold GS at e;rw[if_neg (by decide),if_pos rfl,Option.some.injEq]at e;subst e;have hrn:=(aO s' (i:=0) rfl cY (by decide)).len;have s:=fu s s';show cond true _ _;refine last hrn ?_ s;unfold tI;grind
 ·unfold GS at e;rw[if_pos rfl]at e;split at e
  ·rename_i hs;rw[Option.some.injEq]at e;subst e;have hrn:2=rn:=(aO s' (i:=0) rfl cY (by decide)).len;subst hrn;have s:=fu s s';show cond true _ _;rw[cond_true];show cond true _ _;rw[cond_true];unfold y7;show jN Q (oh Q 2) _ _ _ _ _ _ _;unfold jN;apply rd s (i:=1) rfl;refine C9 (f:=1) (hA.fr (au s)) hn (by decide) (λe=>by unfold GS at e;cases e) λro e g2 o2 rn rc w' s'=>?_;unfold GS at e;rw[if_neg (by decide),if_pos rfl,Option.some.injEq]at e;subst e;have hrn:=(aO s' (i:=0) rfl cY (by decide)).len;rw[List.length_cons]at hrn;have s:=fu s s';show cond true _ _;rw[cond_true];show cond false _ _;rw[cond_false,bp];refine last rfl ?_ (cf (L':=[_,_]) [1,2] s rfl (by decide));rw[tI,fQ,if_pos (vX.1 hs)]
  ·cases e
def apm {Q:Option Addr->Nat->Nat->Int->World->Prop}(s0:Sep F W w0 L)(hA:Sl w0 ca cn cc 1 bq cs)(hm:Tl.DJ tw th cs=true)(hn:1<=cn/\cn<=1000)(h:∀g o rn rc w',Sep F W w' (ak (some ⟨g,o,none⟩) rn rc 5 1 (flat bq (tI cs).2)::L)->Fr No w0 w'->Q (some ⟨g,o,none⟩) rn rc 0 w'):
  HG tw th ca cn cc w0 Q:=by
 apply adt;refine aN (bh (F:=No)) λtb w s=>?_;refine lI s 0 rfl (lI s 0 rfl (lS s 0 rfl ?_));refine Tl.C1 s (hA.fr (au s)).row λw s _=>?_;rw[hm,Bool.not_true,cond_false];refine lI s 0 rfl (lI s 0 rfl (lS s 0 rfl ?_));refine aka (hA.fr (au s)) hn λb g o rn rc w' s'=>?_;have s2:=fu s s';have s3:=cf (L':=[ak (some ⟨g,o,none⟩) rn rc 5 1 (flat bq (tI cs).2)]) [0] s2 rfl (by decide);exact h g o rn rc w' (fu s0 s3) (au s3)
end
end Go.Proofs.YtmegplnmiepfbaaGreatDoor.S
set_option maxRecDepth 20000
namespace Go.Proofs.YtmegplnmiepfbaaGreatDoor.S.At
open Go.Sx
open Go.Extern
def S2 (v:Value)(w:World):(ReflectliteType.typeOf #[.iface 240 v]).run P w=.ok (.iface 219 (rt 240)) w:=by kernel_rfl
def GI (v:Value)(w:World):(ReflectliteType.typeOf #[.iface 187 v]).run P w=.ok (.iface 219 (rt 187)) w:=by kernel_rfl
def GJ (t:Addr)(w:World):(ReflectliteValue.unpack (.iface 188 (.pointer (some t)))).run P w
 =.ok (.agg #[.pointer (some ⟨8,188,none⟩),.pointer (sZ w.heap.size),.int .u64 150]) (w.alloc (.cells #[.pointer (some t)] 188)):=by kernel_rfl
def Ee (n:Int)(w:World):(ReflectliteValue.unpack (.iface 187 (ae n))).run P w
 =.ok (.agg #[.pointer (some ⟨8,187,none⟩),.pointer (sZ w.heap.size),.int .u64 130]) (w.alloc (.cells #[ae n] 187)):=by kernel_rfl
def Rc (a:Addr)(w:World):(ReflectliteValue.methodAny (ReflectliteValue.valueError "reflectlite.Value.Type" 0) (λt _ _ _=>ReflectliteType.toType t) #[.agg #[.pointer (some ⟨8,188,none⟩),.pointer (some a),.int .u64 150]]).run P w
 =.ok (.iface 219 (rt 188)) w:=by kernel_rfl
def L7 (w:World):((ReflectliteType.abiMethod λt=>(λa:Nat=>Value.int IntKind.u8 (a:Int))<$>Rtype.kind t) #[.pointer (some ⟨8,188,none⟩)]).run P w=.ok (.int .u8 22) w:=by kernel_rfl
def L8 (w:World):((ReflectliteType.abiMethod λt=>(λa:Nat=>Value.int IntKind.u8 (a:Int))<$>Rtype.kind t) #[.pointer (some ⟨8,187,none⟩)]).run P w=.ok (.int .u8 2) w:=by kernel_rfl
def Rf (w:World):(ReflectliteType.method ReflectliteType.elem #[rt 188]).run P w=.ok (.iface 219 (rt 187)) w:=by kernel_rfl
def WE (w:World):(ReflectliteType.relation "Implements" ReflectliteType.implements_ #[rt 187,.iface 219 (rt 74)]).run P w=.ok (.bool true) w:=by kernel_rfl
def aeo (w:World):(ReflectliteType.relation "AssignableTo" ReflectliteType.assignableTo #[rt 240,.iface 219 (rt 187)]).run P w=.ok (.bool false) w:=by kernel_rfl
def Rh (w:World):(ReflectliteType.relation "AssignableTo" ReflectliteType.assignableTo #[rt 187,.iface 219 (rt 187)]).run P w=.ok (.bool true) w:=by kernel_rfl
def aep (v:Value)(w:World):(Go.method (P.types.size+Made.depth) 240 v "Unwrap").run P w=.ok (321,v) w:=by kernel_rfl
abbrev vP (a:Addr):Value:=.agg #[.pointer (some ⟨8,188,none⟩),.pointer (some a),.int .u64 150]
abbrev vR (a:Addr):Value:=.agg #[.pointer (some ⟨8,187,none⟩),.pointer (some a),.int .u64 130]
abbrev vE (a:Addr):Value:=.agg #[.pointer (some ⟨8,187,none⟩),.pointer (some a),.int .u64 386]
def zR (a:Addr)(w:World):(ReflectliteValue.parts (vP a)).run P w=.ok (some (188,a,150)) w:=by kernel_rfl
def Je (a:Addr)(w:World):(ReflectliteValue.parts (vR a)).run P w=.ok (some (187,a,130)) w:=by kernel_rfl
def Jf (a:Addr)(w:World):(ReflectliteValue.parts (vE a)).run P w=.ok (some (187,a,386)) w:=by kernel_rfl
def L9 (a p:Addr)(w:World)(ha:w.cell? a=some (.pointer (some p))):(ReflectliteValue.method (ReflectliteValue.valueError "reflectlite.Value.IsNil" 0) ReflectliteValue.isNil #[vP a]).run P w=.ok (.bool false) w:=by rw[rlm];simp[Sem.run_bind,zR,Result.andThen];simp[ReflectliteValue.isNil,loadVar,isAgg,underlying,Go.Proofs.Tryz.underlying188,ha,Result.andThen]
def Jg (w:World):(Rtype.elem? 188).run P w=.ok (some 187) w:=by kernel_rfl
def acp (p:Addr)(w:World):(ReflectliteValue.mk 187 p ReflectliteValue.flagAddr).run P w=.ok (vE p) w:=by kernel_rfl
def L_ (a p:Addr)(w:World)(ha:w.cell? a=some (.pointer (some p))):(ReflectliteValue.method (ReflectliteValue.valueError "reflectlite.Value.Elem" 0) ReflectliteValue.elem #[vP a]).run P w=.ok (vE p) w:=by rw[rlm];simp[Sem.run_bind,zR,Result.andThen];simp[ReflectliteValue.elem,loadVar,isAgg,underlying,Go.Proofs.Tryz.underlying188,ha,Result.andThen,Jg,acp]
def Jh (w:World):(Rtype.directlyAssignable 187 187).run P w=.ok true w:=by kernel_rfl
def WJ (t b:Addr)(n:Int)(old:Value)(w:World)(hb:w.cell? b=some (ae n))(ht:w.cell? t=some old)(hf:w.frozen? t=false):
  (ReflectliteValue.set #[vE t,vR b]).run P w=.ok (.tuple #[]) (w.setCell t (ae n)):=by
 rw[rls];simp[Sem.run_bind,Jf,Je,Result.andThen];simp[ReflectliteValue.flagAddr,loadVar,isAgg,underlying,Go.Proofs.Tryz.underlying187,hb,Result.andThen,Jh,storeVar,Value.cells,storeCells,Addr.add];rw[run_store P w t _ _ (by rfl)];simp[ht,hf]
def awm {t:Nat}(ht:t=240)(v:Value)(xT:TypeId)(w:World):(Instr.typeAssert (.iface t v) xT 231 true).run P w=.ok (.tuple #[.nilIface,.bool false]) w:=by subst ht;exact run_typeAssert_lacksB Go.Proofs.Tryz.underlying231 (by kernel_rfl) (by kernel_rfl) v xT w
def avv {t:Nat}(ht:t=240)(v:Value)(xT:TypeId)(w:World):(Instr.typeAssert (.iface t v) xT 224 true).run P w=.ok (.tuple #[.iface t v,.bool true]) w:=by subst ht;exact run_typeAssert_hasB Go.Proofs.Tryz.underlying224 (by kernel_rfl) v xT w
def aAi:oP 321 fns=true:=by kernel_rfl
section
variable {w:World}{p n:Nat}{v:Value}
def aco {Q:Value->World->Prop}(hv:w.cell? ((aZ p).add 1)=some v)(hp:Value.plain v=true)(k:Q v w):yD (cx n) (.iface 240 (.pointer (sZ p))) "Unwrap" [] w λv w=>dV v λr=>Q r w:=by
 refine⟨321,_,aep _ w,?_⟩;unfold h_;have h:Dg (sZ p) w Q:=by apply M8;refine ah (mF hv hp ?_);unfold dV;grind
 exact h
end
attribute [local irreducible] tE callFunc Sem.run ReflectliteValue.method ReflectliteValue.set ReflectliteValue.unpack ReflectliteType.relation ReflectliteType.typeOf af cD bw bg aA cu bZ St App cH cA cz bX bD aq bU av ak aW mapA
section
variable {F:Nat->Prop}{W w:World}{L:List As}{p r:Nat}{c v0:Int}
def Rj {b:Addr}{K:Value->World->Prop}(hb:w.cell? b=some (ae c))(h:St (aZ r) (ae c) w λw=>K (.tuple #[]) w):tE P 139 #[vE (aZ r),vR b] w K:=by obtain⟨⟨u,hu⟩,hf,k⟩:=amd h;have he:=WJ (aZ r) b c u w hb hu hf;apply jW (w':=w.setCell (aZ r) (ae c)) aqP he;exact k
def WK {Q:Bool->World->Prop}{k tb:Nat}{a:Nat}(s:Sep F W w (av tb 161 [.pointer (some ⟨8,188,none⟩),.pointer (sZ a),.int .u64 150]::av a 188 [.pointer (sZ r)]::av r 187 [ae v0]::L))
  (hQ:∀w',Sep F W w' (av r 187 [ae c]::L)->Q true w'){target:Value}:jf Q (k+1) (.iface 187 (ae c)) target (.iface 219 (rt 187)) (aZ tb) w:=by
 show wK Q (jf Q k) _ _ _ _ _;apply jW x95 (GI _ w);refine mS (Re _) WH aiX (Rh w) ?_;apply ama;refine lP s 0 rfl (lP s 0 rfl (lI s 0 rfl ?_));apply jW aqO (L_ (aZ a) (aZ r) w (by have:=cM s (i:=1) (j:=0) rfl rfl rfl;exact this));apply S5;refine jW x97 (Ee c w) ?_;apply S5;have s2:=tG (ai (ai s)) [ae c] 187;have s2:=s2;apply Rj (c:=c) (by simp_all);refine ax s2 (i:=1) rfl rfl rfl λw s=>?_;exact hQ w (ai s)
def ai2 {Q:Bool->World->Prop}{k tb:Nat}{a:Nat}(s:Sep F W w (av tb 161 [.pointer (some ⟨8,188,none⟩),.pointer (sZ a),.int .u64 150]::av a 188 [.pointer (sZ r)]::av r 187 [ae v0]::L))
  (hv:w.cell? ((aZ p).add 1)=some (.iface 187 (ae c)))
  (hQ:∀w',Sep F W w' (av r 187 [ae c]::L)->Q true w'){target:Value}:jf Q (k+2) (.iface 240 (.pointer (sZ p))) target (.iface 219 (rt 187)) (aZ tb) w:=by
 show wK Q (jf Q (k+1)) _ _ _ _ _;apply jW x95 (S2 _ w);refine mS (Re _) WH aiX (aeo w) ?_;apply aer;refine AX (awm rfl _ _ _) (S3 rfl ?_);refine AX (avv rfl _ _ _) (S3 rfl ?_);exact aco hv rfl (tB (WK s hQ))
def Ma {Q:Bool->World->Prop}(s:Sep F W w (av r 187 [ae v0]::L))(hv:∀w',Sep F W w' L->w'.cell? ((aZ p).add 1)=some (.iface 187 (ae c)))
  (h1:∀w',Sep F W w' L->w'.cell? (aZ 1)=some (.iface 219 (rt 74)))
  (hQ:∀w',Sep F W w' (av r 187 [ae c]::L)->Q true w'):
  ni (.iface 240 (.pointer (sZ p))) (.iface 188 (.pointer (sZ r))) w Q:=by
 apply Bj;refine tB (tB ?_);refine jW x97 (GJ (aZ r) w) ?_;apply S5;have s:=tG s [.pointer (sZ r)] 188;have s:=s;generalize w.heap.size=a at s⊢;generalize w.alloc (.cells #[.pointer (sZ r)] 188)=w1 at s⊢;refine aT s λvb w s=>?_;refine sT s 0 rfl λw s=>?_;refine sT s 0 rfl λw s=>?_;refine ax s (i:=0) rfl rfl rfl λw s=>?_;refine lP s 0 rfl (lP s 0 rfl (lI s 0 rfl ?_));apply jW x98 (Rc (aZ a) w);refine mS (HZ _) Ri aeq (L7 w) ?_;apply amc;refine lP s 0 rfl (lP s 0 rfl (lI s 0 rfl ?_));apply jW x99 (L9 (aZ a) (aZ r) w (by have:=cM s (i:=1) (j:=0) rfl rfl rfl;exact this));apply aer;refine mS (aap _) aiY aqQ (Rf w) ?_;refine mS (HZ _) Ri aeq (L8 w) ?_;apply ar6;apply mF (h1 w (ai (ai (ai s)))) rfl;refine mS (aen _) aiZ aqR (WE w) ?_;apply amb;refine lP s 0 rfl (lP s 0 rfl (lI s 0 rfl ?_));apply Ge;have s:=ai s;refine aN s λtb w s=>?_;exact⟨2,ai2 s (hv w (ai (ai (ai s)))) hQ⟩
end
end Go.Proofs.YtmegplnmiepfbaaGreatDoor.S.At
set_option maxRecDepth 20000
namespace Go.Proofs.YtmegplnmiepfbaaGreatDoor.S.Pk
open Go.Sx
open Go.Extern
def GI (v:Value)(w:World):(ReflectliteType.typeOf #[.iface 268 v]).run P w=.ok (.iface 219 (rt 268)) w:=by kernel_rfl
def GJ (t:Addr)(w:World):(ReflectliteValue.unpack (.iface 269 (.pointer (some t)))).run P w
 =.ok (.agg #[.pointer (some ⟨8,269,none⟩),.pointer (sZ w.heap.size),.int .u64 150]) (w.alloc (.cells #[.pointer (some t)] 269)):=by kernel_rfl
def Ee (n:Option Addr)(w:World):(ReflectliteValue.unpack (.iface 268 (.pointer n))).run P w
 =.ok (.agg #[.pointer (some ⟨8,268,none⟩),.pointer (sZ w.heap.size),.int .u64 150]) (w.alloc (.cells #[.pointer n] 268)):=by kernel_rfl
def Rc (a:Addr)(w:World):(ReflectliteValue.methodAny (ReflectliteValue.valueError "reflectlite.Value.Type" 0) (λt _ _ _=>ReflectliteType.toType t) #[.agg #[.pointer (some ⟨8,269,none⟩),.pointer (some a),.int .u64 150]]).run P w
 =.ok (.iface 219 (rt 269)) w:=by kernel_rfl
def L7 (w:World):((ReflectliteType.abiMethod λt=>(λa:Nat=>Value.int IntKind.u8 (a:Int))<$>Rtype.kind t) #[.pointer (some ⟨8,269,none⟩)]).run P w=.ok (.int .u8 22) w:=by kernel_rfl
def L8 (w:World):((ReflectliteType.abiMethod λt=>(λa:Nat=>Value.int IntKind.u8 (a:Int))<$>Rtype.kind t) #[.pointer (some ⟨8,268,none⟩)]).run P w=.ok (.int .u8 22) w:=by kernel_rfl
def Rf (w:World):(ReflectliteType.method ReflectliteType.elem #[rt 269]).run P w=.ok (.iface 219 (rt 268)) w:=by kernel_rfl
def WE (w:World):(ReflectliteType.relation "Implements" ReflectliteType.implements_ #[rt 268,.iface 219 (rt 74)]).run P w=.ok (.bool true) w:=by kernel_rfl
def Rh (w:World):(ReflectliteType.relation "AssignableTo" ReflectliteType.assignableTo #[rt 268,.iface 219 (rt 268)]).run P w=.ok (.bool true) w:=by kernel_rfl
abbrev vP (a:Addr):Value:=.agg #[.pointer (some ⟨8,269,none⟩),.pointer (some a),.int .u64 150]
abbrev vR (a:Addr):Value:=.agg #[.pointer (some ⟨8,268,none⟩),.pointer (some a),.int .u64 150]
abbrev vE (a:Addr):Value:=.agg #[.pointer (some ⟨8,268,none⟩),.pointer (some a),.int .u64 406]
def zR (a:Addr)(w:World):(ReflectliteValue.parts (vP a)).run P w=.ok (some (269,a,150)) w:=by kernel_rfl
def Je (a:Addr)(w:World):(ReflectliteValue.parts (vR a)).run P w=.ok (some (268,a,150)) w:=by kernel_rfl
def Jf (a:Addr)(w:World):(ReflectliteValue.parts (vE a)).run P w=.ok (some (268,a,406)) w:=by kernel_rfl
def L9 (a p:Addr)(w:World)(ha:w.cell? a=some (.pointer (some p))):(ReflectliteValue.method (ReflectliteValue.valueError "reflectlite.Value.IsNil" 0) ReflectliteValue.isNil #[vP a]).run P w=.ok (.bool false) w:=by rw[rlm];simp[Sem.run_bind,zR,Result.andThen];simp[ReflectliteValue.isNil,loadVar,isAgg,underlying,Go.Proofs.Tryz.underlying269,ha,Result.andThen]
def Jg (w:World):(Rtype.elem? 269).run P w=.ok (some 268) w:=by kernel_rfl
def acp (p:Addr)(w:World):(ReflectliteValue.mk 268 p ReflectliteValue.flagAddr).run P w=.ok (vE p) w:=by kernel_rfl
def L_ (a p:Addr)(w:World)(ha:w.cell? a=some (.pointer (some p))):(ReflectliteValue.method (ReflectliteValue.valueError "reflectlite.Value.Elem" 0) ReflectliteValue.elem #[vP a]).run P w=.ok (vE p) w:=by rw[rlm];simp[Sem.run_bind,zR,Result.andThen];simp[ReflectliteValue.elem,loadVar,isAgg,underlying,Go.Proofs.Tryz.underlying269,ha,Result.andThen,Jg,acp]
def Jh (w:World):(Rtype.directlyAssignable 268 268).run P w=.ok true w:=by kernel_rfl
def WJ (t b:Addr)(n:Option Addr)(old:Value)(w:World)(hb:w.cell? b=some (.pointer n))(ht:w.cell? t=some old)(hf:w.frozen? t=false):
  (ReflectliteValue.set #[vE t,vR b]).run P w=.ok (.tuple #[]) (w.setCell t (.pointer n)):=by
 rw[rls];simp[Sem.run_bind,Jf,Je,Result.andThen];simp[ReflectliteValue.flagAddr,loadVar,isAgg,underlying,Go.Proofs.Tryz.underlying268,hb,Result.andThen,Jh,storeVar,Value.cells,storeCells,Addr.add];rw[run_store P w t _ _ (by rfl)];simp[ht,hf]
attribute [local irreducible] tE callFunc Sem.run ReflectliteValue.method ReflectliteValue.set ReflectliteValue.unpack ReflectliteType.relation ReflectliteType.typeOf af cD bw bg aA cu bZ St App cH cA cz bX bD aq bU av ak aW mapA
section
variable {F:Nat->Prop}{W w:World}{L:List As}{p r:Nat}{c v0:Option Addr}
def awn {A B:Prop}(h:A):dI .u8 (.int .u8 22) λr=>cond (r !=20) A B:=h
def Rj {b:Addr}{K:Value->World->Prop}(hb:w.cell? b=some (.pointer c))(h:St (aZ r) (.pointer c) w λw=>K (.tuple #[]) w):tE P 139 #[vE (aZ r),vR b] w K:=by obtain⟨⟨u,hu⟩,hf,k⟩:=amd h;have he:=WJ (aZ r) b c u w hb hu hf;apply jW (w':=w.setCell (aZ r) (.pointer c)) aqP he;exact k
def WK {Q:Bool->World->Prop}{k tb:Nat}{a:Nat}(s:Sep F W w (av tb 161 [.pointer (some ⟨8,269,none⟩),.pointer (sZ a),.int .u64 150]::av a 269 [.pointer (sZ r)]::av r 268 [.pointer v0]::L))
  (hQ:∀w',Sep F W w' (av r 268 [.pointer c]::L)->Q true w'){target:Value}:jf Q (k+1) (.iface 268 (.pointer c)) target (.iface 219 (rt 268)) (aZ tb) w:=by
 show wK Q (jf Q k) _ _ _ _ _;apply jW x95 (GI _ w);refine mS (Re _) WH aiX (Rh w) ?_;apply ama;refine lP s 0 rfl (lP s 0 rfl (lI s 0 rfl ?_));apply jW aqO (L_ (aZ a) (aZ r) w (by have:=cM s (i:=1) (j:=0) rfl rfl rfl;exact this));apply S5;refine jW x97 (Ee c w) ?_;apply S5;have s2:=tG (ai (ai s)) [.pointer c] 268;have s2:=s2;apply Rj (c:=c) (by simp_all);refine ax s2 (i:=1) rfl rfl rfl λw s=>?_;exact hQ w (ai s)
def Ma {Q:Bool->World->Prop}(s:Sep F W w (av r 268 [.pointer v0]::L))
  (h1:∀w',Sep F W w' L->w'.cell? (aZ 1)=some (.iface 219 (rt 74)))
  (hQ:∀w',Sep F W w' (av r 268 [.pointer c]::L)->Q true w'):
  ni (.iface 268 (.pointer c)) (.iface 269 (.pointer (sZ r))) w Q:=by
 apply Bj;refine tB (tB ?_);refine jW x97 (GJ (aZ r) w) ?_;apply S5;have s:=tG s [.pointer (sZ r)] 269;have s:=s;generalize w.heap.size=a at s⊢;generalize w.alloc (.cells #[.pointer (sZ r)] 269)=w1 at s⊢;refine aT s λvb w s=>?_;refine sT s 0 rfl λw s=>?_;refine sT s 0 rfl λw s=>?_;refine ax s (i:=0) rfl rfl rfl λw s=>?_;refine lP s 0 rfl (lP s 0 rfl (lI s 0 rfl ?_));apply jW x98 (Rc (aZ a) w);refine mS (HZ _) Ri aeq (L7 w) ?_;apply amc;refine lP s 0 rfl (lP s 0 rfl (lI s 0 rfl ?_));apply jW x99 (L9 (aZ a) (aZ r) w (by have:=cM s (i:=1) (j:=0) rfl rfl rfl;exact this));apply aer;refine mS (aap _) aiY aqQ (Rf w) ?_;refine mS (HZ _) Ri aeq (L8 w) ?_;apply awn;apply mF (h1 w (ai (ai (ai s)))) rfl;refine mS (aen _) aiZ aqR (WE w) ?_;apply amb;refine lP s 0 rfl (lP s 0 rfl (lI s 0 rfl ?_));apply Ge;have s:=ai s;refine aN s λtb w s=>?_;exact⟨1,WK s hQ⟩
end
end Go.Proofs.YtmegplnmiepfbaaGreatDoor.S.Pk
set_option maxRecDepth 20000
namespace Go.Proofs.YtmegplnmiepfbaaGreatDoor.S
open Go.Sx
attribute [local irreducible] af cD bw bg aA cu bZ St Bx Al App cH cA cz bX aL bD aq bU av ak aW mapA
abbrev sR (a:Addr):Value:=.iface 401 (.pointer (some a))
attribute [local irreducible] tE yD in
theorem arb {w:World}{Q:Bool->World->Prop}{a b:Addr}{c:Bool}(he:∀(x y:Operand) (K:Bool->World->Prop),K c w->bX P .eql 74 x y (sR a) (sR b) w K)(hQ:Q c w):o7 (sR a) (sR b) w Q:=by
 apply Np;refine tB (tB ?_);apply jW x95 (afy _ w);refine mS (aiV _) aoT avd (akW w) ?_;have h:wU (sR a) (sR b) true w Q:=by apply Nn;exact⟨1,akX (.inl rfl) he hQ⟩
 exact h
def As.nil {w:World}{Q:Bool->World->Prop}{v:Value}(hQ:Q false w):ni .nilIface v w Q:=Bj _ _ _ _ hQ
def avw {w:World}{Q:Bool->World->Prop}{a b:Option Addr}{n c m d:Nat}{xs ys:List Int}(hA:Sl w a n c 1 bq xs)(hB:Sl w b m d 1 bq ys)(hx:dZ xs)(hy:dZ ys)(h:Q (decide (xs=ys)) w):Dw a n c b m d w Q:=by apply XO;refine Yp ee hA.row rfl rfl rfl rfl rfl rfl (akr ?_);refine Yp ee hB.row rfl rfl rfl rfl rfl rfl (akr ?_);rw[anp hx hy];exact h
abbrev Cy (rb:Nat)(ba:Option Addr)(bn bc:Nat)(at_:Int):As:=av rb 265 [.slice ba bn bc,ae at_]
section
variable {W w w0:World}{L:List As}{lg:xE}{ba:Option Addr}{bn bc rb:Nat}{bs:List Int}{p n:Nat}
def aeC {A B:Prop}(h:A):BI .nilIface λb=>cond b A B:=h
def Mg {A B:Prop}(h:B):BI .nilIface λb=>cond (!b) A B:=h
def Ro {t:Nat}{v:Value}{A B:Prop}(h:A):BI (.iface t v) λb=>cond (!b) A B:=h
def AT {a:Addr}{K:Value->Prop}(k:K (sR a)):dV (sR a) K:=k
def Td {Q:Option Addr->Nat->Nat->Value->World->Prop}(hL:iQ w0 lg)(hB:Sl w0 ba bn bc 1 bq bs)(FG:bn<=1000000000)(hp:p<=bn)(hn:n<=100000)(s:Sep No w0 w (Cy rb ba bn bc p::L))
  (hno:bn-p<n->∀w',Sep No w0 w' (Cy rb ba bn bc p::L)->Q none 0 0 (sR lg.a6) w')
  (hyes:p+n<=bn->∀a c w',Sl w' a n c 1 bq ((bs.drop p).take n)->Sep No w0 w' (Cy rb ba bn bc ((p+n:Nat):Int)::L)->Q a n c .nilIface w'):nI (sZ rb) n w Q:=by
 apply Oi;have s:=ay s;refine ah (lS s 0 rfl (ah (lI s 0 rfl ?_)));rw[aG];by_cases h:bn-p<n
 ·rw[bM];have s:=ay s;have c6:=Fr.cell (au s) hL.v6 id;exact mF c6 rfl ⟨c6,AT (hno h _ s)⟩
 ·rw[bp];refine ah (lI s 0 rfl (ah (ax s (i:=0) rfl rfl rfl λw s=>?_)));have e:IntKind.wrap .i64 ((p:Int)+n)=((p+n:Nat):Int):=by rw[aG];omega
  rw[e]at s;have s:=ay s;refine ah (lS s 0 rfl (ah (lI s 0 rfl (ah (lI s 0 rfl ?_)))));rw[aG];refine(hB.fr (au s)).mid (p:=p) (by omega) rfl (by omega) (by omega) λa n' c en hs=>?_;grind
def YP {Q:Option Addr->Nat->Nat->Value->World->Prop}(hL:iQ w0 lg)(hB:Sl w0 ba bn bc 1 bq bs)(FG:bn<=1000000000)(hp:p<=bn)(hn:n<=100000)(s:Sep No w0 w (Cy rb ba bn bc p::L))
  (hno:bn-p<n->∀w',Sep No w0 w' (Cy rb ba bn bc p::L)->Q none 0 0 (sR lg.a6) w')
  (GO:p+n<=bn->0∈(bs.drop p).take n->∀a c w',Sl w' a n c 1 bq ((bs.drop p).take n)->Sep No w0 w' (Cy rb ba bn bc ((p+n:Nat):Int)::L)->Q a n c (sR lg.a5) w')
  (hyes:p+n<=bn->0∉(bs.drop p).take n->∀a c w',Sl w' a n c 1 bq ((bs.drop p).take n)->Sep No w0 w' (Cy rb ba bn bc ((p+n:Nat):Int)::L)->Q a n c .nilIface w'):qo (sZ rb) n w Q:=by
 apply MA;refine Td hL hB FG hp hn s (λh w s=>?_) λh a c w hs s=>?_
 ·exact tB (AT (hno h w s))
 ·apply aeC;apply Tl.HS hs.row (by omega);by_cases h0:(0:Int)∈(bs.drop p).take n
  ·rw[bM h0];have c5:=Fr.cell (au s) hL.v5 id;exact mF c5 rfl (AT (GO h h0 a c w hs s))
  ·rw[bp h0];exact hyes h h0 a c w hs s
def Xu {Q:Option Addr->Nat->Nat->Value->World->Prop}(hL:iQ w0 lg)(s:Sep No w0 w L)(h:∀w',Sep No w0 w' L->Q none 0 0 (sR lg.a5) w'):bZ (aZ 5) w.drew λx=>w.drew.cell? (aZ 5)=some x/\dV x λr=>Q none 0 0 r w.drew:=by have s:=ay s;have c5:=Fr.cell (au s) hL.v5 id;exact mF c5 rfl ⟨c5,AT (h _ s)⟩
def apn {Q:Option Addr->Nat->Nat->Value->World->Prop}(hL:iQ w0 lg)(hB:Sl w0 ba bn bc 1 bq bs)(FG:bn<=1000000000)(hr:dZ bs)(hn:n<=256)
  (hno:pM n (bs.drop 1) [] 1=none->∀e p' w',(e=lg.a5\/e=lg.a6)->Sep No w0 w' (Cy rb ba bn bc p'::L)->Q none 0 0 (sR e) w')
  (hyes:∀cs used,pM n (bs.drop 1) [] 1=some (cs,used)->∀a m c w',used<=bn->Sep No w0 w' (ak a m c 5 1 (flat bq cs)::Cy rb ba bn bc (used:Nat)::L)->Q a m c .nilIface w'):
  ∀(j p:Nat) (oa:Option Addr) (on oc:Nat) (out:List Int) (w:World),n<=on+j->on<=n->p<=bn->pM n (bs.drop p) out p=pM n (bs.drop 1) [] 1->Sep No w0 w (ak oa on oc 5 1 (flat bq out)::Cy rb ba bn bc p::L)->
   pA Q (j+1) (sZ rb) n oa on oc w:=by
 have hbl:=hB.len;intro j;induction j with
 |zero=>
  intro p oa on oc out w hj Cj hp he s;show pz _ _ _ _ _ _ _ _;unfold pz;have hol:=(aO s (i:=0) rfl cY (by decide)).len;rw[NA (by omega)]at he;grind
 |succ j ih=>
  intro p oa on oc out w hj Cj hp he s;have hol:=(aO s (i:=0) rfl cY (by decide)).len;show pz _ _ _ _ _ _ _ _;unfold pz;by_cases hlt:on<n
  ·rw[bM];refine Td (n:=2) hL hB FG hp (by decide) (i_ s) (λh w s=>?_) λh a c w hs s=>?_
   ·refine Ro (AT ?_);refine hno ?_ lg.a6 p w (.inr rfl) (gB s (.cons_cons _ (List.sublist_cons_self _ _)));rw[<-he];have h2:(bs.drop p).length<2:=by grind
    match hd:bs.drop p,h2 with
    |[],_=>unfold pM;grind
    |[x],_=>unfold pM;grind
   ·apply Mg;have s:=ay s;have hs:=hs.drew;obtain⟨x,y,rest,hd⟩:∃x y rest,bs.drop p=x::y::rest:=by
     have h2:2<=(bs.drop p).length:=by rw[List.length_drop];omega
     match hd:bs.drop p,h2 with
     |x::y::rest,_=>exact⟨x,y,rest,rfl⟩
    have awo:rest=bs.drop (p+2):=by rw[<-List.drop_drop,hd];rfl
    have hx:=hr x (List.mem_of_mem_drop (by rw[hd];simp));rw[hd]at hs he;apply hs.AD rfl (by decide);refine hs.El rfl (by decide) λad z hz hc=>?_;have hz':z=y:=by have:([x,y]:List Int)[1]? =some z:=hz;simpa using this.symm
    subst hz';have hc0:=hc 0 _ rfl;refine aR hc0 ⟨hc0,?_⟩;have e1:gi (List.take 2 (x::z::rest)) 0=x:=rfl;rw[e1];rw[pM,fQ]at he;have bad:Ea n out x z=true->∀w',Sep No w0 w' (Cy rb ba bn bc ((p+2:Nat):Int)::ak oa on oc 5 1 (flat bq out)::L)->Q none 0 0 (sR lg.a5) w':=λhb w' s'=>by rw[if_pos hb]at he;exact hno he.symm lg.a5 _ w' (.inl rfl) (gB s' (.cons_cons _ (List.sublist_cons_self _ _)))
    by_cases hz0:z=0
    ·rw[cV hz0,cond_true];exact Xu hL s (bad (by unfold Ea;rw[cV hz0];rfl))
    rw[cy hz0,cond_false,aG (n:=x),aG,aG];by_cases ash:x+1>(n:Int)-on
    ·rw[bM ash];exact Xu hL s (bad (by unfold Ea;rw[decide_eq_true (by omega)];simp))
    rw[bp ash];have go:¬Ea n out x z=true->ug (pA Q (j+1)) Q (sZ rb) n oa on oc (x+1) z w.drew:=λhb=>by
     rw[if_neg hb]at he;refine aN s λxb w s=>?_;have hX:=acK (ns:=[z]) s (i:=0) rfl;have e2:x+1=(((x+1).toNat:Nat):Int):=by omega
     rw[e2];refine Tc s hX (by omega) λra w s _=>?_;have hR:=aO s (i:=0) rfl cY (by decide);have s:=pk 4 [3,2,0] s;refine ah9 (b:=0) s (by omega) (by simp) (by omega) hR λa' c' w s=>?_;refine ih (p+2) a' (on+(x+1).toNat) c' _ w (by omega) (by omega) (by omega) ?_ (gB s (.cons_cons _ (.cons_cons _ (List.sublist_cons_self _ _))));rw[<-awo];exact he
    by_cases hpos:0<on
    ·rw[bM,aG];have hO:=aO s (i:=1) rfl cY (by decide);apply hO.AD (k:=on-1) (by omega) (by omega);by_cases hl:gi out (on-1)=z
     ·rw[cV hl,cond_true];exact Xu hL s (bad (by unfold Ea;rw[hol,decide_eq_true hpos,cV hl];simp))
     ·rw[cy hl,cond_false];apply go;rw[Ea,hol,cy hl,cy hz0,decide_eq_false (by omega)];simp
    ·rw[bp];apply go;rw[Ea,hol,cy hz0,decide_eq_false (by omega),decide_eq_false hpos];simp
  ·rw[bp];rw[NA (by omega)]at he;exact hyes out p he.symm oa on oc w hp s
def amw {Q:Option Addr->Nat->Nat->Value->World->Prop}(hL:iQ w0 lg)(hB:Sl w0 ba bn bc 1 bq bs)(FG:1<=bn/\bn<=1000000000)(hr:dZ bs)(hn:n<=256)(s:Sep No w0 w (Cy rb ba bn bc 1::L))
  (hno:pM n (bs.drop 1) [] 1=none->∀e p' w',(e=lg.a5\/e=lg.a6)->Sep No w0 w' (Cy rb ba bn bc p'::L)->Q none 0 0 (sR e) w')
  (hyes:∀cs used,pM n (bs.drop 1) [] 1=some (cs,used)->∀a m c w',used<=bn->Sep No w0 w' (ak a m c 5 1 (flat bq cs)::Cy rb ba bn bc (used:Nat)::L)->Q a m c .nilIface w'):xX (sZ rb) n w Q:=by
 apply Oj;exact⟨n+1,apn hL hB FG.2 hr hn hno hyes n 1 none 0 0 [] w (by omega) (Nat.zero_le _) FG.1 rfl (bE s 5 1)⟩
end
end Go.Proofs.YtmegplnmiepfbaaGreatDoor.S
set_option maxRecDepth 20000
namespace Go.Proofs.YtmegplnmiepfbaaGreatDoor.S
open Go.Sx
attribute [local irreducible] af cD bw bg aA cu bZ St Bx Al App cH cA cz bX aL bD aq bU av ak aW mapA
def atz {bs cs:List Int}{n used:Nat}(hn:1<=n)(hb:∀x∈bs,0<=x/\x<256)(hB:Iu n bs=some (cs,used)):cs.length=n/\(∀x∈cs,1<=x/\x<256)/\used<=bs.length:=by
 cases bs with
 |nil=>cases hB
 |cons f r=>
  rw[Fz]at hB;split at hB
  ·split at hB
   ·cases hB
   ·rename_i h1;cases hB;obtain⟨x,r',rfl⟩:∃x r',r=x::r':=by
     cases r with
     |nil=>grind
     |cons x r'=>grind
    have hx:=hb x (by simp);refine⟨by simp,λy hy=>?_,by simp⟩;rw[List.mem_replicate]at hy;have h3:y=x:=hy.2;omega
  ·split at hB
   ·grind
   ·split at hB
    ·have:=SJ n r [] 1 cs used (λx hx=>hb x (by simp[hx])) (by simp) (by simp) hB;grind
    ·cases hB
section
variable {W w w0:World}{L:List As}{lg:xE}{ba:Option Addr}{bn bc rb:Nat}{bs:List Int}{n:Nat}
def amx {Q:Option Addr->Nat->Nat->Value->World->Prop}(hL:iQ w0 lg)(hB:Sl w0 ba bn bc 1 bq bs)(FG:bn<=1000000000)(hr:dZ bs)(hn:1<=n/\n<=256)(s:Sep No w0 w (Cy rb ba bn bc 0::L))
  (hno:Iu n bs=none->∀a m c ns e p' w',(e=lg.a5\/e=lg.a6)->m<=256->Sl w' a m c 1 bq ns->Sep No w0 w' (Cy rb ba bn bc p'::L)->Q a m c (sR e) w')
  (hyes:∀cs used,Iu n bs=some (cs,used)->∀a c w',used<=bn->Sl w' a n c 1 bq cs->Sep No w0 w' (Cy rb ba bn bc (used:Nat)::L)->Q a n c .nilIface w'):xV (sZ rb) n w Q:=by
 apply Ol;have hbl:=hB.len;have s:=s;refine Td (n:=1) hL hB FG (Nat.zero_le _) (by decide) s (λh w s=>?_) λh a c w hs s=>?_
 ·have e0:bs=[]:=List.eq_nil_of_length_eq_zero (by omega);exact Ro (AT (hno (by rw[e0];rfl) none 0 0 [] lg.a6 _ w (.inr rfl) (Nat.zero_le _) zM s))
 ·apply Mg;obtain⟨f,r,rfl⟩:∃f r,bs=f::r:=by
   cases bs with
   |nil=>grind
   |cons f r=>grind
  apply hs.AD rfl (by decide);have e1:gi (List.take 1 (List.drop 0 (f::r))) 0=f:=rfl;rw[e1];have s:=s;rw[List.length_cons]at hbl;have hr1:=hr.cons;rw[Fz]at hno hyes;by_cases f0:f=0
  ·rw[cV f0,cond_true];rw[if_pos f0]at hno hyes;refine YP (n:=1) hL hB FG (by omega) (by decide) s (λh w s=>?_) (λh h0 a c w hs s=>?_) λh h0 a c w hs s=>?_
   ·have er:r=[]:=List.eq_nil_of_length_eq_zero (by omega);refine amu s (by omega) λra w s _=>AT ?_;have hA:=aO s (i:=0) rfl cY (by decide);exact hno (if_pos (.inl er)) ra 0 0 [] lg.a6 _ w (.inr rfl) (Nat.zero_le _) hA (ai s)
   ·obtain⟨x,r',rfl⟩:∃x r',r=x::r':=by
     cases r with
     |nil=>simp at hbl;omega
     |cons x r'=>exact⟨x,r',rfl⟩
    have hx:x=0:=by have:(0:Int)∈[x]:=h0;exact(List.mem_singleton.1 this).symm
    have hs:=hs;refine Tc s hs (by omega) λra w s _=>AT ?_;have hA:=aO s (i:=0) rfl cY (by decide);exact hno (if_pos (.inr hx)) ra n n _ lg.a5 _ w (.inl rfl) hn.2 hA (ai s)
   ·obtain⟨x,r',rfl⟩:∃x r',r=x::r':=by
     cases r with
     |nil=>simp at hbl;omega
     |cons x r'=>exact⟨x,r',rfl⟩
    have hx:¬x=0:=λe=>h0 (by rw[e];exact List.mem_cons_self ..);have hs:=hs;refine Tc s hs (by omega) λra w s _=>?_;have hA:=aO s (i:=0) rfl cY (by decide);refine hyes _ 2 (if_neg λe=>e.elim (λe=>by cases e) hx) ra n w h hA (ai s)
  rw[cy f0,cond_false];rw[if_neg f0]at hno hyes;by_cases f1:f=1
  ·rw[cV f1,cond_true];rw[if_pos f1]at hno hyes;refine YP hL hB FG (by omega) (by omega) s (λh w s=>?_) (λh h0 a c w hs s=>?_) λh h0 a c w hs s=>?_
   ·exact AT (hno (if_pos (.inl (by omega))) none 0 0 [] lg.a6 _ w (.inr rfl) (Nat.zero_le _) zM s)
   ·exact AT (hno (if_pos (.inr h0)) a n c _ lg.a5 _ w (.inl rfl) hn.2 hs s)
   ·exact hyes _ (1+n) (if_neg λe=>e.elim (λe=>by omega) h0) a c w h hs s
  rw[cy f1,cond_false];rw[if_neg f1]at hno hyes;by_cases f2:f=2
  ·rw[cV f2,cond_true];rw[if_pos f2]at hno hyes;refine amw hL hB (by omega) hr hn.2 s (λh e p' w he s=>AT (hno h none 0 0 [] e p' w he (Nat.zero_le _) zM s)) λcs used h a m c w hu s=>?_;have hA:=aO s (i:=0) rfl cY (by decide);have hm:=(SJ n r [] 1 cs used (λx hx=>hr1.2 x hx) (by simp) (by simp) h).1;have:m=n:=by rw[<-hA.len,hm]
   subst this;exact hyes cs used h a c w hu hA (ai s)
  ·rw[cy f2,cond_false];rw[if_neg f2]at hno;exact Xu hL s λw' s=>hno rfl none 0 0 [] lg.a5 _ w' (.inl rfl) (Nat.zero_le _) zM s
end
section
variable {W w w0:World}{L:List As}{lg:xE}{ba:Option Addr}{bn bc rb:Nat}{bs:List Int}{n:Nat}{tw th:Int}
def aaG {p:Nat}{v0 v1 v2:Value}{a b:Int}{c:Option Addr}{d e:Nat}{F:Nat->Prop}{t:TypeId}{K:Int->Int->Option Addr->Nat->Nat->World->Prop}(s:Sep F W w (av p t [v0,v1,v2]::L))(h:∀w',Sep F W w' L->K a b c d e w'):
  St ((aZ p).add 0) (ae a) w λw=>St ((aZ p).add 1) (ae b) w λw=>St ((aZ p).add 2) (.slice c d e) w λw=>af .i64 ((aZ p).add 0) w λa=>af .i64 ((aZ p).add 1) w λb=>aA ((aZ p).add 2) w λc d e=>K a b c d e w:=by
 refine sT s 0 rfl λw s=>?_;refine sT s 0 rfl λw s=>?_;refine ax s (i:=0) rfl rfl rfl λw s=>?_;exact lI s 0 rfl (lI s 0 rfl (lS s 0 rfl (h w (ai s))))
def awp {a b:Addr}(hb:∃c t,w.heap[b.block]? =some (.cells c t (0,0)))(ha:∃c t,w.heap[a.block]? =some (.cells c t (0,0))):∃c:Bool,(c=true↔a=b)/\∀(x y:Operand) (K:Bool->World->Prop),K c w->bX P .eql 74 x y (sR a) (sR b) w K:=by
 by_cases h:a=b
 ·subst h;exact⟨true,by simp,λx y K hk=>WG hk⟩
 ·obtain⟨c1,t1,h1⟩:=ha;obtain⟨c2,t2,h2⟩:=hb;exact⟨false,by simp[h],λx y K hk=>acn h h1 h2 hk⟩
def amy {Q:Int->Int->Option Addr->Nat->Nat->Value->World->Prop}{p':Int}{t6:Nat}{e:Addr}{t:Addr}{v0 v1 v2:Value}(hL:iQ w0 lg)(he:e=lg.a5\/e=lg.a6)(s:Sep No w0 w (Cy rb ba bn bc p'::av t6 84 [v0,v1,v2]::L))
  (h:∀fb co w',Sep No w0 w' (av fb 271 [ae p',ae co,sR e]::Cy rb ba bn bc p'::L)->(co=2\/co=3)->Q 0 0 none 0 0 (.iface 268 (.pointer (sZ fb))) w'):
  mO Q (sZ rb) (aZ t6) (sR e) t w:=by
 refine tB (ah (lI s 0 rfl (AT ?_)));refine aN s λfb w s=>?_;have k:=hL.fr (au s);apply mF k.v6 rfl;obtain⟨c,hc,hq⟩:=awp (a:=e) k.b6 (by rcases he with rfl|rfl;exact k.b5;exact k.b6);apply arb hq;cases c with
 |true=>
  refine ax s (i:=0) rfl rfl rfl λw s=>?_;exact aaG (pk 3 [2,0,1] s) λw s=>h fb 2 w s (.inl rfl)
 |false=>
  exact aaG (pk 3 [2,0,1] s) λw s=>h fb 3 w s (.inr rfl)
def amz {Q:Int->Int->Option Addr->Nat->Nat->Value->World->Prop}(hL:iQ w0 lg)(hB:Sl w0 ba bn bc 1 bq bs)(FG:bn<=1000000000)(hr:dZ bs)(hw:1<=tw/\tw<=16)(hh:1<=th/\th<=16)(hn:(n:Int)=tw*th)(s:Sep No w0 w (Cy rb ba bn bc 0::L))
  (hno:EY bs n=none->∀fb p' co e w',(co=2\/co=3)->Sep No w0 w' (av fb 271 [ae p',ae co,sR e]::Cy rb ba bn bc p'::L)->Q 0 0 none 0 0 (.iface 268 (.pointer (sZ fb))) w')
  (hyes:∀cs used,EY bs n=some (cs,used)->∀ta tn tc w',used<=bn->Sep No w0 w' (ak ta tn tc 5 1 (flat bq cs)::Cy rb ba bn bc (used:Nat)::L)->Q tw th ta tn tc .nilIface w'):xU (sZ rb) tw th w Q:=by
 apply Om;have q1:=Int.mul_le_mul hw.1 hh.1 (by decide) (by omega);have q2:=Int.mul_le_mul hw.2 hh.2 (by omega) (by decide);rw[aG,<-hn];refine aT s λt6 w s=>?_;have fail:∀{e:Addr} {t:Addr} {p':Int} {w:World},(e=lg.a5\/e=lg.a6)->EY bs n=none->Sep No w0 w (Cy rb ba bn bc p'::av t6 84 [ae 0,ae 0,.slice none 0 0]::L)->mO Q (sZ rb) (aZ t6) (sR e) t w:=λhe hg s=>
  amy hL he s λfb co w' s' Pa=>hno hg fb _ co _ w' Pa s'
 refine amx hL hB FG hr (by omega) (i_ s) (λhb a m c ns e p' w he hm hA s=>?_) λcs used hb a c w hu hA s=>?_
 ·refine Gq s hA (by omega) λra rc w s _=>?_;refine aT s λtb w s=>?_;refine sT s 0 rfl λw s=>?_;refine sT s 0 rfl λw s=>?_;refine sT s 0 rfl λw s=>?_;apply tB;refine fail he ?_ (ai (ai s));rw[EY,hb]
 ·obtain⟨k1,k2,k3⟩:=atz (by omega) (λx hx=>hr x hx) hb;refine Gq s hA (by omega) λra rc w s _=>?_;refine aT s λtb w s=>?_;refine sT s 0 rfl λw s=>?_;refine sT s 0 rfl λw s=>?_;refine ax s (i:=0) rfl rfl rfl λw s=>?_;apply aeC;refine lI s 0 rfl (lI s 0 rfl (lS s 0 rfl ?_));have hC:=aO s (i:=1) rfl cY (by decide);refine apm s hC (Tl.ZS.2 ⟨hw,hh,by omega,λh0=>by grind⟩) (by omega) λg o pn pc w s _=>?_;have s:=ay s;refine ah (lS s 3 rfl (ah (lI s 3 rfl ?_)));refine(hB.fr (au s)).hi rfl hu λb' c' hS=>?_;have hP:=aO s (i:=0) rfl cY (by decide);apply avw hP hS (ahF (λx hx=>by grind) (by omega)) (hr.take used);by_cases e:(tI cs).2=bs.take used
  ·rw[decide_eq_true e,Bool.not_true,cond_false];apply aeC;refine lI s 1 rfl (lI s 1 rfl (lS s 1 rfl ?_));refine aaG (pk 5 [4,2,3] s) λw s=>?_;refine hyes cs used ?_ ra n rc w hu s;unfold EY;grind
  ·rw[decide_eq_false e];have c5:=Fr.cell (au s) hL.v5 id;refine mF c5 rfl (fail (.inl rfl) ?_ (pk 5 [3,4] s));unfold EY;grind
def aeD {F:Nat->Prop}{Q:Int->Int->Option Addr->Nat->Nat->Int->Int->World->Prop}(hL:iQ w lg)(hB:Sl w ba bn bc 1 bq bs)(FG:bn<=1000000000)(hr:dZ bs)(hw:1<=tw/\tw<=16)(hh:1<=th/\th<=16)(hn:(n:Int)=tw*th)(s0:Sep F W w L)
  (hno:EY bs n=none->∀co w',(co=2\/co=3)->Sep F W w' L->Fr No w w'->Q 0 0 none 0 0 0 co w')
  (hyes:∀cs used,EY bs n=some (cs,used)->∀ta tn tc w',used<=bn->Sep F W w' (ak ta tn tc 5 1 (flat bq cs)::L)->Fr No w w'->Q tw th ta tn tc (used:Nat) 0 w'):HF ba bn bc tw th w Q:=by
 apply adu;refine aT (bh (F:=No)) λtb w1 s=>?_;rw[bp,bp,bp,bp];refine aN s λrb w1 s=>?_;have c1:∀{w':World} {L':List As},Sep No w w' L'->w'.cell? (aZ 1)=some (.iface 219 (rt 74)):=λs=>(hL.fr (au s)).v1;refine amz hL hB FG hr hw hh hn s (λhg fb p' co e w1 Pa s=>?_) λcs used hg ta tn tc w1 hu s=>?_
 ·refine sT s 2 rfl λw1 s=>?_;refine sT s 2 rfl λw1 s=>?_;refine ax s (i:=2) rfl rfl rfl λw1 s=>?_;refine aT s λf w1 s=>?_;have s:=s;refine ax s (i:=0) rfl rfl rfl λw1 s=>?_;refine Pk.Ma s (λw' s'=>c1 s') λw1 s=>?_;have s:=ay s;refine lP s 0 rfl (ah (lI s 1 rfl ?_));refine sT s 3 rfl λw1 s=>?_;refine sT s 3 rfl λw1 s=>?_;refine ax s (i:=3) rfl rfl rfl λw1 s=>?_;refine⟨cg s 1 rfl,cg s 0 rfl,cg s 1 rfl,cg s 0 rfl,?_⟩;refine lI s 3 rfl (lI s 3 rfl (lS s 3 rfl ?_));have s':=cf (L':=[]) [] s rfl (by decide);exact hno hg co w1 Pa (fu s0 s') (au s')
 ·refine sT s 2 rfl λw1 s=>?_;refine sT s 2 rfl λw1 s=>?_;refine ax s (i:=2) rfl rfl rfl λw1 s=>?_;refine aT s λf w1 s=>?_;have s:=s;refine ax s (i:=0) rfl rfl rfl λw1 s=>?_;apply As.nil;have s:=ay s;refine lI s 3 rfl (lI s 3 rfl (lS s 3 rfl ?_));apply lI s 2 rfl;refine sT s 3 rfl λw1 s=>?_;refine sT s 3 rfl λw1 s=>?_;refine ax s (i:=3) rfl rfl rfl λw1 s=>?_;refine⟨cg s 2 rfl,?_⟩;refine lI s 3 rfl (lI s 3 rfl (lS s 3 rfl ?_));have s':=cf (L':=[ak ta tn tc 5 1 (flat bq cs)]) [1] s rfl (by decide);exact hyes cs used hg ta tn tc w1 hu (fu s0 s') (au s')
end
section
variable {w h sc:Int}{M ts:List Int}{y tw p:Nat}
def ajf (hs:dW w h sc)(hM:(M.length:Int)=w*h){c:Nat}(hc:c<M.length):bF w h c:=⟨hs.1,by omega,by omega⟩
def apq (hs:dW w h sc)(hM:(M.length:Int)=w*h):EZ w h sc M ts 0=M:=by refine U5 LN λc hc=>?_;rw[LN]at hc;rw[Xd hc,if_neg];rintro ⟨e,h0⟩;have hC:=ajf hs hM hc;have hl:=(jY hC).1;have:=Int.ediv_nonneg hl (b:=aD w h sc) (by have:=(zv hs).1;omega);omega
def ajg (hs:dW w h sc)(QO:(tw:Int)=aD w h sc)(hy:(y:Int)<bz w h sc)(hp:(p:Int)=bY w h sc (y*aD w h sc)){c:Nat}(hC:bF w h c):
  (aC w h c=sc/\dX w h c/aD w h sc=y)↔(p<=c/\c<p+tw):=by
 have hz:=zv hs;constructor
 ·rintro ⟨e,e2⟩;have hg:=nQ hC;have hl:=jY hC;have Nf:=Int.emod_nonneg (dX w h c) (b:=aD w h sc) (by omega);have KU:=Int.emod_lt_of_pos (dX w h c) (b:=aD w h sc) (by omega);have hd:=Int.mul_ediv_add_emod (dX w h c) (aD w h sc);obtain⟨x,hx⟩:∃x:Nat,dX w h c%aD w h sc=x:=⟨(dX w h c%aD w h sc).toNat,by omega⟩;rw[hx]at hd Nf KU;have:=HT hs (y:=y) KU;grind
 ·rintro ⟨h1,h2⟩;have hx:((c-p:Nat):Int)<aD w h sc:=by omega
  have:=HT hs (y:=y) hx;have ec:bY w h sc (y*aD w h sc+(c-p:Nat))=c:=by omega
  have hl:0<=(y:Int)*aD w h sc+(c-p:Nat)/\(y:Int)*aD w h sc+(c-p:Nat)<aD w h sc*bz w h sc:=by have a:0<=(y:Int)*aD w h sc:=Int.mul_nonneg (by omega) (by omega);have b:((y:Int)+1)*aD w h sc<=bz w h sc*aD w h sc:=Int.mul_le_mul_of_nonneg_right (by omega) (by omega);grind
  have e1:=iV hs hl;have e2:=FZ hs hl;rw[ec]at e1 e2;refine⟨e1,?_⟩;rw[e2];exact(rF ⟨by omega,hx⟩).1
def arc (hs:dW w h sc)(hM:(M.length:Int)=w*h)(hts:(ts.length:Int)=aD w h sc*bz w h sc)(QO:(tw:Int)=aD w h sc)(hy:(y:Int)<bz w h sc)(hp:(p:Int)=bY w h sc (y*aD w h sc))(hpn:p+tw<=M.length):
  (EZ w h sc M ts y).take p++(ts.drop (y*tw)).take tw++(EZ w h sc M ts y).drop (p+tw)=EZ w h sc M ts ((y+1:Nat):Int):=by
 have hyt:y*tw+tw<=ts.length:=by have b:((y:Int)+1)*aD w h sc<=bz w h sc*aD w h sc:=Int.mul_le_mul_of_nonneg_right (by omega) (by omega);grind
 have hl:((EZ w h sc M ts y).take p++(ts.drop (y*tw)).take tw++(EZ w h sc M ts y).drop (p+tw)).length=M.length:=by simp[List.length_append,List.length_take,List.length_drop,LN];omega
 refine U5 (by rw[hl,LN]) λc hc=>?_;rw[hl]at hc;have hC:=ajf hs hM hc;have ayy:=ajg hs QO hy hp hC;rw[Xd hc];by_cases hin:p<=c/\c<p+tw
 ·obtain⟨e1,e2⟩:=ayy.2 hin;have hlr:=jY hC;have hd:=Int.mul_ediv_add_emod (dX w h c) (aD w h sc);rw[e2]at hd;have hg:=nQ hC;rw[e1]at hg;have Nf:=Int.emod_nonneg (dX w h c) (b:=aD w h sc) (by omega);have KU:=Int.emod_lt_of_pos (dX w h c) (b:=aD w h sc) (by omega);obtain⟨x,hx⟩:∃x:Nat,dX w h c%aD w h sc=x:=⟨(dX w h c%aD w h sc).toNat,by omega⟩;rw[hx]at hd KU;have hgr:=HT hs (y:=y) KU;rw[Int.mul_comm,hd,hg,Int.mul_comm (aD w h sc)]at hgr;unfold gi;grind
 ·have e:(aC w h c=sc/\dX w h c/aD w h sc<((y+1:Nat):Int))↔(aC w h c=sc/\dX w h c/aD w h sc<(y:Int)):=by omega
  simp only[e];rw[<-Xd hc];unfold gi;grind
end
section
variable {F:Nat->Prop}{W w w0:World}{L:List As}{mw mh sc:Int}{M ts:List Int}{ta:Option Addr}{tn tc g o mn mc:Nat}
def apr {Q:World->Prop}(hs:dW mw mh sc)(hM:(M.length:Int)=mw*mh)(hts:(ts.length:Int)=aD mw mh sc*bz mw mh sc)(hT:∀w',Sep F W w' L->Sl w' ta tn tc 1 bq ts)(s:Sep F W w (ak (some ⟨g,o,none⟩) mn mc 5 1 (flat bq M)::L))
  (h:∀w',Sep F W w' (ak (some ⟨g,o,none⟩) mn mc 5 1 (flat bq (aij mw mh sc M ts))::L)->Q w'):F_ mw mh (some ⟨g,o,none⟩) mn mc sc (aD mw mh sc) (bz mw mh sc) ta tn tc w Q:=by
 apply abe;have hz:=zv hs;have hmn:=(aO s (i:=0) rfl cY (by decide)).len;refine aN s λmb w s=>?_;refine aN s λtb w s=>?_;refine lI s 1 rfl (lI s 1 rfl ?_);refine xq s λw s _=>?_;apply lI s 0 rfl;have hz1:0<aD mw mh sc*bz mw mh sc:=Int.mul_pos (by omega) (by omega);have eg:CE mw mh sc 0=bY mw mh sc 0:=if_pos ⟨hs,by omega,hz1⟩;rw[eg];obtain⟨tw,QO⟩:∃tw:Nat,(tw:Int)=aD mw mh sc:=⟨(aD mw mh sc).toNat,by omega⟩;obtain⟨th,hth⟩:∃th:Nat,(th:Int)=bz mw mh sc:=⟨(bz mw mh sc).toNat,by omega⟩;have loop:∀(j y:Nat) (w:World),y+j=th->Sep F W w (av tb 84 [ae (aD mw mh sc),ae (bz mw mh sc),.slice ta tn tc]::av mb 25 [ae mw,ae mh,.slice (some ⟨g,o,none⟩) mn mc]::ak (some ⟨g,o,none⟩) mn mc 5 1 (flat bq (EZ mw mh sc M ts y))::L)->
   Ep Q (j+1) (aZ mb) (aZ tb) (bY mw mh sc 0) (bz mw mh sc) y w:=by
  intro j;induction j with
  |zero=>
   intro y w hj s;show AJ _ _ _ _ _ _ _ _;rw[AJ,bp];have:(y:Int)=bz mw mh sc:=by omega
   rw[this]at s;exact h w (ai (ai s))
  |succ j ih=>
   intro y w hj s;show AJ _ _ _ _ _ _ _ _;rw[AJ,bM];have s:=ay s;have b1:((y:Int)+1)*aD mw mh sc<=bz mw mh sc*aD mw mh sc:=Int.mul_le_mul_of_nonneg_right (by omega) (by omega);rw[Int.add_mul,Int.one_mul,Int.mul_comm (bz mw mh sc)]at b1;have b2:0<=(y:Int)*aD mw mh sc:=Int.mul_nonneg (by omega) (by omega);have b3:=Int.mul_le_mul hz.1.2 hz.2.1.2 (by omega) (by decide);have hC:=sI hs ⟨b2,by omega⟩;have hC2:=sI hs (l:=y*aD mw mh sc+((tw-1:Nat):Int)) ⟨by omega,by omega⟩;have hrow:=HT hs (y:=y) (x:=tw-1) (by omega);obtain⟨p,hp⟩:∃p:Nat,(p:Int)=bY mw mh sc (y*aD mw mh sc):=⟨(bY mw mh sc (y*aD mw mh sc)).toNat,by have:=hC.2;omega⟩;have hpn:p+tw<=M.length:=by have:=hC2.2;omega
   have e0:bY mw mh sc 0+(y:Int)*mw=p:=by rw[hp];unfold bY;obtain⟨e3,e4⟩:=rF (w:=aD mw mh sc) (x:=0) (by omega);rw[Int.add_zero]at e3 e4;rw[e3,e4];simp[Int.zero_ediv,Int.zero_emod,Int.add_zero,Int.add_mul];omega
   have hyw:0<=(y:Int)*mw/\(y:Int)*mw<=16*1024:=⟨Int.mul_nonneg (by omega) (by have:=hs.1.1;omega),Int.mul_le_mul (by omega) hs.1.1.2 (by have:=hs.1.1;omega) (by decide)⟩;have hg0:=IP (sI hs ⟨by omega,hz1⟩);refine lS s 1 rfl (lI s 1 rfl ?_);rw[aG (n:=(y:Int)*mw),aG,e0];have hcap:=RA s (i:=2) rfl;apply Pd rfl (by omega);rw[fQ];refine lS s 0 rfl (lI s 0 rfl (lI s 0 rfl ?_));rw[Mc (by omega),aG,wrap_i64 (by push_cast;rw[Int.add_mul];omega) (by push_cast;rw[Int.add_mul];omega)];have hTs:=hT _ (ai (ai (ai s)));have QN:=hTs.len;have ey:((y*tw:Nat):Int)=(y:Int)*aD mw mh sc:=by push_cast;rw[QO]
   refine hTs.mid (q:=y*tw+tw) ey.symm (by push_cast;rw[Int.add_mul,QO];omega) (by omega) (by omega) λa n' c' en hS=>?_;have en:n'=tw:=by omega
   subst en;rw[show y*n'+n'-y*n'=n' by omega]at hS;refine ED (p:=p) ee s rfl rfl rfl rfl (by decide) (i:=2) rfl (hS.src (e:=5) cY AV) (by omega) (by simp[Addr.add]<;>omega) λw s=>?_;rw[show min n' (mn-p)=n' by omega]at s;have est:(flat bq (EZ mw mh sc M ts y)).take (p*1)++(flat bq ((ts.drop (y*n')).take n')).take (n'*1)++(flat bq (EZ mw mh sc M ts y)).drop ((p+n')*1)=flat bq (EZ mw mh sc M ts ((y+1:Nat):Int)):=by rw[<-arc hs hM hts QO (by omega) hp hpn];simp[Y7,Nat.mul_one,List.map_append,List.map_take,List.map_drop];rw[List.take_take,Nat.min_self]
   rw[est]at s;exact ih (y+1) w (by omega) s
 have s:=s;rw[<-apq hs hM]at s;exact⟨th+1,loop th 0 _ (by omega) s⟩
end
structure Eg (bs:List Int):Prop where
 len:4<=bs.length
 wh:iO (Bq bs) (Br bs)
 tail:∀bs' M,qV (Bq bs) (Br bs) (eI (Bq bs) (Br bs)).toNat 0 (bs.drop 4) (List.replicate (Bq bs*Br bs).toNat 0)=some (bs',M)->bs'=[]
def Eg.get {bs:List Int}(h:Eg bs):kV bs=(qV (Bq bs) (Br bs) (eI (Bq bs) (Br bs)).toNat 0 (bs.drop 4) (List.replicate (Bq bs*Br bs).toNat 0)).map λq=>⟨Bq bs,Br bs,q.2⟩:=by
 rw[kV,if_neg (by have:=h.len;omega),if_pos h.wh];split
 ·rename_i bs' M hT;rw[hT,h.tail _ _ hT,if_pos rfl];rfl
 grind
def ayz:zc T 25=[ae 0,ae 0,.slice none 0 0]:=rfl
def aaH {w:World}{mw mh:Int}{Q:Int->World->Prop}(hm:iO mw mh)(h:Q (eI mw mh) w):EJ mw mh w Q:=by apply Zm;apply qI;have:=gM hm.1 hm.2;unfold ZR adP;rw[if_pos hm,if_pos hm];unfold eI at h this;rw[aG];exact h
def _root_.Go.Sx.Sl.Elf {α:Type}{w0:World}{a:Option Addr}{n c size k:Nat}{f:α->List Value}{xs:List α}{idx:Int}{K:Addr->Prop}(h:Sl w0 a n c size f xs)(hk:idx=k)(hn:k<n)
  (hK:∀p x,xs[k]? =some x->(∀w,Fr No w0 w->∀j v,(f x)[j]? =some v->w.cell? ((p.add (idx.toNat*size)).add j)=some v)->K p):aJ idx n (wA a K):=
 h.El hk hn λp x hx hc=>hK p x hx λw fr j v hv=>Fr.cell fr (hc j v hv) id
section
variable {W w w0:World}{L:List As}{lg:xE}{ba:Option Addr}{bn bc:Nat}{bs:List Int}
def aps {Q:Int->Int->Option Addr->Nat->Nat->Value->World->Prop}{mw mh:Int}{mb p2 g o mn mc N:Nat}(hL:iQ w0 lg)(hm:iO mw mh)(hN:(N:Int)=eI mw mh){R:Option (List Int×List Int)}(awq:∀bs' M,R=some (bs',M)->bs'=[])
  (hno:R=none->∀tb i co w',Sep No w0 w' (av tb 242 [ae i,.iface 187 (ae co)]::[])->(co=2\/co=3)->Q 0 0 none 0 0 (.iface 240 (.pointer (sZ tb))) w')
  (hyes:∀M,R=some ([],M)->∀w',Sep No w0 w' (ak (some ⟨g,o,none⟩) mn mc 5 1 (flat bq M)::[])->Q mw mh (some ⟨g,o,none⟩) mn mc .nilIface w'):
  ∀(j i:Nat) (a:Option Addr) (n c:Nat) (bs M:List Int) (w:World),i+j=N->Sl w0 a n c 1 bq bs->n<=1000000000->dZ bs->(M.length:Int)=mw*mh->qV mw mh j i bs M=R->Sep No w0 w (av mb 25 [ae mw,ae mh,.slice (some ⟨g,o,none⟩) mn mc]::av p2 25 [ae 0,ae 0,.slice none 0 0]::ak (some ⟨g,o,none⟩) mn mc 5 1 (flat bq M)::[])->
   CO Q (j+1) a n c (aZ p2) (aZ mb) (eI mw mh) i w:=by
 have vp:=gM hm.1 hm.2;intro j;induction j with
 |zero=>
  intro i a n c bs M w hj hB hn hr hM hR s;show y_ _ _ _ _ _ _ _ _ _ _;rw[y_,bp];have hR:some (bs,M)=R:=hR;have hb:=awq bs M hR.symm;have hbl:=hB.len;rw[bp (by grind)];refine lI s 0 rfl (lI s 0 rfl (lS s 0 rfl ?_));refine aaG (cf (L':=[_,_]) [1,2] s rfl (by decide)) λw s=>?_;grind
 |succ j ih=>
  intro i a n c bs M w hj hB hn hr hM hR s;show y_ _ _ _ _ _ _ _ _ _ _;rw[y_,bM];have hs:dW mw mh i:=⟨hm,by omega,by omega⟩;have hz:=zv hs;refine lI s 0 rfl (lI s 0 rfl ?_);refine vi s λw s _=>?_;have e1:Y8 mw mh i=aD mw mh i:=if_pos hs;have e2:ac7 mw mh i=bz mw mh i:=if_pos hs;rw[e1,e2];have q1:=Int.mul_le_mul hz.1.1 hz.2.1.1 (by decide) (by omega);rw[qV]at hR;have fr:=au s;refine aeD (n:=(aD mw mh i*bz mw mh i).toNat) (hL.fr fr) (hB.fr fr) hn hr hz.1 hz.2.1 (by omega) s (λhg co w Pa s _=>?_) λts used hg ta tn tc w hu s _=>?_
  ·rw[hg]at hR;refine aT s λtb w s=>?_;refine sT s 0 rfl λw s=>?_;refine sT s 0 rfl λw s=>?_;refine sT s 0 rfl λw s=>?_;rw[Gl (by omega),cond_true];refine aN s λeb w s=>?_;refine aaG (cf (L':=[_,_]) [3,0] s rfl (by decide)) λw s=>?_;exact hno hR.symm eb i co w s Pa
  ·rw[hg]at hR;obtain⟨t1,t2,t3⟩:=anU (by omega) (λx hx=>hr x hx) hg;refine aT s λtb w s=>?_;refine sT s 0 rfl λw s=>?_;refine sT s 0 rfl λw s=>?_;refine ax s (i:=0) rfl rfl rfl λw s=>?_;refine lI s 2 rfl (lI s 2 rfl (lS s 2 rfl ?_));refine lI s 0 rfl (lI s 0 rfl (lS s 0 rfl ?_));refine apr hs hM (by omega) (λw' s'=>aO s' (i:=0) rfl cY (by decide)) (cf (L':=[ak (some ⟨g,o,none⟩) mn mc 5 1 (flat bq M),ak ta tn tc 5 1 (flat bq ts),_,_]) [4,1,2,3] s rfl (by decide)) λw s=>?_;refine hB.lo rfl hu λa' n' c' en hB'=>?_;rw[Mc (by omega)];refine ih (i+1) a' n' c' _ _ w (by omega) hB' (by omega) (hr.drop used) (by rw[SK];exact hM) ?_ (cf (L':=[_,_,_]) [2,3,0] s rfl (by decide));exact hR
def amA {Q:Int->Int->Option Addr->Nat->Nat->Value->World->Prop}(hL:iQ w0 lg)(hB:Sl w0 ba bn bc 1 bq bs)(FG:bn<=1000000000)(hr:dZ bs)(hh:Eg bs)
  (hno:kV bs=none->∀tb i co w',Sep No w0 w' (av tb 242 [ae i,.iface 187 (ae co)]::[])->(co=2\/co=3)->Q 0 0 none 0 0 (.iface 240 (.pointer (sZ tb))) w')
  (hyes:∀m,kV bs=some m->∀ma mn mc w',Sep No w0 w' (ak ma mn mc 5 1 (flat bq m.cs)::[])->Q m.w m.h ma mn mc .nilIface w'):EH ba bn bc w0 Q:=by
 apply Zt;have hbl:=hB.len;have h4:=hh.len;refine aT (bh (F:=No)) λp2 w s=>?_;rw[bp];have s:=ay s;refine hB.Elf (k:=0) rfl (by omega) λd0 x0 hx0 c0=>aR (c0 _ (au s) 0 _ rfl) ?_;refine hB.Elf (k:=1) rfl (by omega) λd1 x1 Nf c1=>aR (c1 _ (au s) 0 _ rfl) ?_;refine⟨by decide,?_⟩;refine hB.Elf (k:=2) rfl (by omega) λd2 x2 KU c2=>aR (c2 _ (au s) 0 _ rfl) ?_;refine hB.Elf (k:=3) rfl (by omega) λd3 x3 hx3 c3=>aR (c3 _ (au s) 0 _ rfl) ?_;refine⟨by decide,?_⟩;have r0:=hr x0 (List.mem_of_getElem? hx0);have r1:=hr x1 (List.mem_of_getElem? Nf);have r2:=hr x2 (List.mem_of_getElem? KU);have r3:=hr x3 (List.mem_of_getElem? hx3);have eW:Bq bs=x0+x1*256:=by rw[Bq,<-acv hx0,<-acv Nf];omega
 have eH:Br bs=x2+x3*256:=by rw[Br,<-acv KU,<-acv hx3];omega
 have i1:ior .i64 (IntKind.wrap .i64 x0) (BH .i64 (IntKind.wrap .i64 x1) 8)=Bq bs:=by rw[aG,aG,eW];exact O.adQ (k:=8) (by decide) (by omega) r1
 have i2:ior .i64 (IntKind.wrap .i64 x2) (BH .i64 (IntKind.wrap .i64 x3) 8)=Br bs:=by rw[aG,aG,eH];exact O.adQ (k:=8) (by decide) (by omega) r3
 rw[i1,i2];refine aT s λmb w s=>?_;have fr:=au s;refine⟨c3 _ fr 0 _ rfl,c2 _ fr 0 _ rfl,c1 _ fr 0 _ rfl,c0 _ fr 0 _ rfl,?_⟩;have hwh:=mU hh.wh;have vp:=gM hh.wh.1 hh.wh.2;refine sT s 0 rfl λw s=>?_;refine sT s 0 rfl λw s=>?_;refine ax s (i:=0) rfl rfl rfl λw s=>?_;refine lI s 0 rfl (lI s 0 rfl ?_);apply pL;rw[decide_eq_true hh.wh,Bool.not_true,cond_false];refine hB.lo (m:=4) rfl (by omega) λa4 n4 c4 e4 hB4=>?_;refine lI s 0 rfl (lI s 0 rfl ?_);rw[aG];obtain⟨N,hN⟩:∃N:Nat,Bq bs*Br bs=N:=⟨(Bq bs*Br bs).toNat,by omega⟩;rw[hN];refine xI (bytes:=1) ee s rfl rfl rfl rfl rfl rfl (by decide) cY rfl (λu hu=>AV 0 u hu) rfl rfl (Nat.le_refl _) (by omega) (by simp[maxLen];omega) λg w s=>?_;refine ax s (i:=1) rfl rfl rfl λw s=>?_;refine lI s 1 rfl (lI s 1 rfl ?_);apply aaH hh.wh;have hg:=hh.get;have e0:(Bq bs*Br bs).toNat=N:=by omega
 rw[e0]at hg;have ht:=hh.tail;rw[e0]at ht;refine⟨(eI (Bq bs) (Br bs)).toNat+1,aps (N:=(eI (Bq bs) (Br bs)).toNat) hL hh.wh (by omega) ht (λhR=>hno (by rw[hg,hR];rfl)) (λM hR w' s'=>hyes ⟨Bq bs,Br bs,M⟩ (by rw[hg,hR];rfl) _ _ _ w' s') _ 0 a4 n4 c4 (bs.drop 4) (List.replicate N 0) w (by omega) hB4 (by omega) (hr.drop 4) (by rw[List.length_replicate,hN]) rfl (cf (L':=[_,_,_]) [1,2,0] s rfl (by decide))⟩
def acL {F:Nat->Prop}{Q:Int->Int->Option Addr->Nat->Nat->Int->World->Prop}(hL:iQ w lg)(hB:Sl w ba bn bc 1 bq bs)(FG:bn<=1000000000)(hr:dZ bs)(hh:Eg bs)(s0:Sep F W w L)
  (hno:kV bs=none->∀co w',(co=2\/co=3)->Sep F W w' L->Fr No w w'->Q 0 0 none 0 0 co w')
  (hyes:∀m,kV bs=some m->∀ma mn mc w',Sep F W w' (ak ma mn mc 5 1 (flat bq m.cs)::L)->Fr No w w'->Q m.w m.h ma mn mc 0 w'):F4 ba bn bc w Q:=by
 apply abf;refine aT (bh (F:=No)) λp2 w1 s=>?_;have fr0:=au s;refine amA (hL.fr fr0) (hB.fr fr0) FG hr hh (λhg tb i co w1 s' Pa=>?_) λm hg ma mn mc w1 s'=>?_
 ·have s:=fu s s';refine aT s λmb w1 s=>?_;refine sT s 0 rfl λw1 s=>?_;refine sT s 0 rfl λw1 s=>?_;refine sT s 0 rfl λw1 s=>?_;refine aT s λr w1 s=>?_;have s:=s;refine ax s (i:=0) rfl rfl rfl λw1 s=>?_;have s:=cf (L':=[av r 187 [ae 0],av tb 242 [ae i,.iface 187 (ae co)],av p2 25 [ae 0,ae 0,.slice none 0 0]]) [0,2,3] s rfl (by decide);refine At.Ma s (λw' s'=>kY s' (i:=0) rfl 1 _ rfl) (λw' s'=>(hL.fr (au s')).v1) λw1 s=>?_;have s:=ay s;apply lI s 0 rfl;refine sT s 2 rfl λw1 s=>?_;refine sT s 2 rfl λw1 s=>?_;refine ax s (i:=2) rfl rfl rfl λw1 s=>?_;refine⟨cg s 0 rfl,?_⟩;refine lI s 2 rfl (lI s 2 rfl (lS s 2 rfl ?_));have s':=cf (L':=[]) [] s rfl (by decide);exact hno hg co w1 Pa (fu s0 s') (au s')
 ·have s:=fu s s';refine aT s λmb w1 s=>?_;refine sT s 0 rfl λw1 s=>?_;refine sT s 0 rfl λw1 s=>?_;refine ax s (i:=0) rfl rfl rfl λw1 s=>?_;refine aT s λr w1 s=>?_;have s:=s;refine ax s (i:=0) rfl rfl rfl λw1 s=>?_;apply As.nil;refine lI s 1 rfl (lI s 1 rfl (lS s 1 rfl ?_));refine aaG (cf (L':=[av p2 25 [ae 0,ae 0,.slice none 0 0],ak ma mn mc 5 1 (flat bq m.cs)]) [3,2] s rfl (by decide)) λw1 s=>?_;exact hyes m hg ma mn mc w1 (fu s0 s) (au s)
end
end Go.Proofs.YtmegplnmiepfbaaGreatDoor.S
namespace Go.Proofs.YtmegplnmiepfbaaGreatDoor.S
open Go.Sx
def WY (q:pN):FE:=match q.o with
 |some m=>⟨m.fR,m.fc,0,0,0,0⟩
 |none=>⟨0,0,0,0,0,0⟩
def qv (q:pN):FE:=(q.past.add (WY q)).add ⟨0,0,q.sh.b,q.sh.h,q.sh.st,q.sh.ev⟩
def zS (q:pN):Int:=match q.o with
 |some m=>m.g.ep
 |none=>0
def avx (q:pN):TJ:=⟨[],[],q.sh.b,q.sh.h,q.sh.st,q.sh.ev⟩
def ldP (q:pN)(mp:bJ):pN:=⟨q.k,avx q,some ⟨OR mp (zS q),List.replicate (eI mp.w mp.h).toNat 0,0,0,none,0⟩,q.past.add (WY q)⟩
def N8 (q:pN):pN:=⟨q.k,avx q,q.o.map λm=>⟨m.g,m.S7,m.clean,m.fR,none,m.fc⟩,q.past⟩
def edP (q:pN)(c x:Int):pN:=⟨q.k,q.sh,q.o.map λm=>⟨xx m.g c x,m.S7,m.clean,m.fR,m.kept,m.fc⟩,q.past⟩
noncomputable def zD (q:pN)(t sc:Int):pN:=match q.o with
 |some m=>GN q m t sc
 |none=>q
noncomputable def GU (q:pN)(ps:List GR):pN:=ps.foldl (λq p=>zD q p.g p.s) q
def gm.apt (y:gm):uC y=WY y.p:=by unfold uC WY gm.p;cases y.o<;>rfl
def gm.all_eq (y:gm):WN y=qv y.p:=by unfold WN qv;rw[y.apt];rfl
def gm.amB (y:gm):epO y.o=zS y.p:=by unfold epO zS gm.p;cases y.o<;>rfl
def gm.awr (y:gm){x':AR}{mp:bJ}(h:x'.p=⟨[],[],y.x.b,y.x.h,y.x.st,y.x.ev⟩):(gm.mk y.k x' (some (amf y.o mp)) (y.past.add (uC y))).p=ldP y.p mp:=by
 unfold ldP gm.p;simp only[Option.map_some];congr 1
 ·congr 1;unfold j8.p amf agV NR;rw[y.amB];simp only[List.map_replicate];rfl
 ·rw[y.apt];rfl
def gm.aws (y:gm){x':AR}{m:j8}(ho:y.o=some m)(h:x'.p=⟨[],[],y.x.b,y.x.h,y.x.st,y.x.ev⟩):(gm.mk y.k x' (some ⟨m.g,m.ms,⟨none,m.f.fR⟩⟩) y.past).p=N8 y.p:=by unfold N8 gm.p;rw[ho,h];rfl
def gm.atA (y:gm){x':AR}(ho:y.o=none)(h:x'.p=⟨[],[],y.x.b,y.x.h,y.x.st,y.x.ev⟩):(gm.mk y.k x' none y.past).p=N8 y.p:=by unfold N8 gm.p;rw[ho,h];rfl
def gm.awt (y:gm){m:j8}(ho:y.o=some m){c x:Int}:(gm.mk y.k y.x (some ⟨xx m.g c x,m.ms,m.f⟩) y.past).p=edP y.p c x:=by unfold edP gm.p;rw[ho];rfl
def Mh {y:gm}{m:j8}(ho:y.o=some m):y.p.o=some m.p:=by rw[gm.p,ho];rfl
def GV {y:gm}{mp:vN}(h:y.p.o=some mp):∃m,y.o=some m/\m.p=mp:=by unfold gm.p at h;simp_all
def field_eq {y:gm}{m:j8}(ho:y.o=some m){t sc:Int}:GN y.p m.p t sc=zD y.p t sc:=by rw[zD,Mh ho]
def AY {q:pN}{mp:vN}(h:q.o=some mp)(t sc:Int):∃TN,(zD q t sc).o=some TN/\TN.g=mp.g:=by rw[zD,h];exact⟨_,rfl,rfl⟩
def GW:∀(ps:List GR) {q:pN} {mp:vN},q.o=some mp->∃TN,(GU q ps).o=some TN/\TN.g=mp.g
 |[],q,mp,h=>⟨mp,h,rfl⟩
 |p::ps,q,mp,h=>by obtain⟨m1,h1,e1⟩:=AY h p.g p.s;obtain⟨m2,h2,e2⟩:=GW ps h1;exact⟨m2,h2,e2.trans e1⟩
structure gH where
 most:Int
 bQ:pN
 us:Option tA
structure aaI where
 code:Int
 d:Int
 dir:Int
 id:Int
 GX:List (Int×Int)
 gone:List Int
def pO (c:Int):aaI:=⟨c,0,5,-1,[],[]⟩
noncomputable def sD (m:bJ)(us:List aV):List Int:=us.map λu=>kI m u.goal u.cell
noncomputable def Mi (q:gH)(m:bJ)(y:tA)(o:kW):gH×aaI:=
 if o.k=2 then
  if¬bF m.w m.h o.A then(q,pO 7)
  else if o.B<1\/255<o.B then(q,pO 8)
  else if o.B=255/\vq y.us o.A≠-1 then(q,pO 10)
  else(⟨q.most,edP q.bQ o.A o.B,some y⟩,pO 0)
 else if o.k=3 then
  if¬(bF m.w m.h o.A/\bF m.w m.h o.B)then(q,pO 7)
  else if cL m o.A=255 then(q,pO 9)
  else if vr m.w m.h y o.A o.B≠0 then(q,pO (vr m.w m.h y o.A o.B))
  else(⟨q.most,q.bQ,some (OY y o.A o.B)⟩,⟨0,0,5,y.next,[],[]⟩)
 else if o.k=4 then
  match gK y.us o.A with
  |none=>(q,pO 12)
  |some u=>if¬bF m.w m.h o.B then(q,pO 7)else if u.cell=o.B then(⟨q.most,q.bQ,some (kU y o.A)⟩,pO 13)else(⟨q.most,q.bQ,some (vO y o.A λu=>⟨u.id,u.cell,o.B⟩)⟩,pO 0)
 else if o.k=5 then
  match gK y.us o.A with
  |none=>(q,pO 12)
  |some _=>(⟨q.most,q.bQ,some (kU y o.A)⟩,pO 0)
 else if o.k=6 then
  if bF m.w m.h o.A/\bF m.w m.h o.B then(⟨q.most,zD q.bQ o.A (cU m o.B),some y⟩,⟨0,D m o.A o.B,kI m o.A o.B,-1,[],[]⟩)else(q,pO 7)
 else
  (⟨q.most,GU q.bQ (mG m.w m.h y.us),some (N5 m.w m.h y (sD m y.us))⟩,⟨0,0,5,-1,(dh m.w m.h [] (y.us.zip (sD m y.us))).2.1,(dh m.w m.h [] (y.us.zip (sD m y.us))).2.2⟩)
noncomputable def iG (q:gH)(o:kW):gH×aaI:=
 if o.k=0\/Du o=false then(q,pO 5)
 else if o.k=1 then
  match kV o.m with
  |none=>(q,pO 6)
  |some mp=>(⟨q.most,ldP q.bQ mp,some ⟨q.most,0,[]⟩⟩,pO 0)
 else if o.k=8 then(⟨q.most,N8 q.bQ,q.us⟩,pO 0)
 else match q.bQ.o,q.us with
  |some m,some y=>Mi q m.g.m y o
  |_,_=>(q,pO 4)
end Go.Proofs.YtmegplnmiepfbaaGreatDoor.S
set_option maxRecDepth 20000
namespace Go.Proofs.YtmegplnmiepfbaaGreatDoor.S
open Go.Sx
attribute [local irreducible] af cD bw bg aA cu bZ St Bx Al App cH cA cz bX aL bD aq bU av ak aW mapA
def iiT:P.underlying 207=some (.map 3 3):=by kernel_rfl
def aBQ:zc T 211=[ae 0,ae 0,.slice none 0 0]:=rfl
def ard (w h:Int)(ms:List (Int×Int))(us:List aV):Prop:=oM ms/\∀u∈us,fy ms u.id=some (dX w h u.cell)
structure aji (m:bJ) (us:List aV) (ms:List (Int×Int)):Prop where
 k:oM ms
 v:∀u∈us,∀d,fy ms u.id=some d->d=kI m u.goal u.cell
section
variable {W w w0:World}{L:List As}{r:Au}{y:gm}{lg:xE}{la:Option Addr}{ln lc sp lb db:Nat}{us:List aV}{v0 v2:Value}{g:iw}{loc:List (Int×Int)}
def ids_eq {us:List aV}(h:(us.map (·.id)).Pairwise (·<·)){u v:aV}(hu:u∈us)(hv:v∈us)(e:u.id=v.id):u=v:=by obtain⟨i,hi⟩:=List.mem_iff_getElem?.1 hu;obtain⟨j,hj⟩:=List.mem_iff_getElem?.1 hv;have h1:=Xs h hi;have h2:=Xs h hj;grind
noncomputable abbrev FH (sp:Nat)(v0:Value)(np:Nat)(v2:Value):As:=av sp 72 [v0,.pointer (sZ np),v2]
def are {uW:Option Addr->Option Addr->Nat->Nat->Option Nat->Option Nat->Option Addr->Nat->Nat->Int->Int->World->Prop}{Q:Option Addr->Nat->Nat->Value->World->Prop}{s0:Option Addr}{fb:Nat}{ia pa ra:Option Addr}{iN ic pn pc rn rc i:Nat}{ids:List Int}{d0:Value}{t sc:Int}
  (hmay:cP g.m)(hm:nP g.m.w g.m.h us)(hL:ard g.m.w g.m.h loc us)(hs:dW g.m.w g.m.h sc)(ht:bF g.m.w g.m.h t)(JO:∀x∈ids,∃u∈us,u.id=x/\u.goal=t/\aC g.m.w g.m.h u.cell=sc)(GY:∀u∈us,iF u.id)(hi:i<=1000000)(hiN:iN<=1000000)
  (hI:∀w',Sep No W w' L->Sl w' ia iN ic 1 one ids)(hR:∀w',Sep No W w' L->Sl w' ra rn rc 1 one (Cu g.m t sc))(hF:∀w',Sep No W w' L->rQ w' fb [d0,.slice ra rn rc])
  {dm0:List (Int×Int)}(next:∀JY w',aji g.m us JY->(∀x,(fy dm0 x).isSome=true->(fy JY x).isSome=true)->(∀x∈ids,(fy JY x).isSome=true)->Sep No W w' (fO fq vI lb loc::fO fq vI db JY::L)->uW s0 la ln lc (some lb) (some db) pa pn pc (pn:Int) ((i+1:Nat):Int) w')
  :∀(j k:Nat) (dm:List (Int×Int)) (w:World),k+j=iN->aji g.m us dm->(∀x,(fy dm0 x).isSome=true->(fy dm x).isSome=true)->(∀x∈ids.take k,(fy dm x).isSome=true)->Sep No W w (fO fq vI lb loc::fO fq vI db dm::L)->
   sv uW Q (j+1) s0 la ln lc (some lb) (some db) (aZ fb) pa pn pc (pn:Int) i ia iN ic (iN:Int) k w:=by
 intro j;induction j with
 |zero=>
  intro k dm w hj hD F1 hk s;show oz uW Q _ _ _ _ _ _ _ _ _ _ _ _ _ _ _ _ _ _ _;rw[oz,bp,Mc (by omega)];have hl:=(hI w (ai (ai s))).len;grind
 |succ j ih=>
  intro k dm w hj hD F1 hk s;show oz uW Q _ _ _ _ _ _ _ _ _ _ _ _ _ _ _ _ _ _ _;rw[oz,bM];have sL:=ai (ai s);have hIw:=hI w sL;have hl:=hIw.len;apply hIw.rE rfl (by omega);have hx:=iz (l:=ids) (i:=k) (by omega);obtain⟨u,hu,e1,e2,e3⟩:=JO _ (List.mem_of_getElem? hx);have yf:ids.take (k+1)=ids.take k++[gi ids k]:=by rw[List.take_add_one,hx];rfl
  generalize gi ids k=x at*;subst e1;have IG:=hm.at_ u hu;have h64:=GY u hu;have hlr:=jY IG.1;have hgl:=nQ IG.1;rw[e3]at hlr hgl;apply dy (hF w sL 1 _ rfl);refine Ew (K:=fq) iiT (ace w) s (i:=0) rfl hL.1 h64 (λhn=>by rw[hL.2 u hu]at hn;cases hn) λz hz=>?_;rw[hL.2 u hu]at hz;cases hz;apply abB;have hRw:=hR w sL;have hrl:=hRw.len;have hfl:(Cu g.m t sc).length=(aD g.m.w g.m.h sc*bz g.m.w g.m.h sc).toNat:=by unfold Cu nO;have:=Cl (m:=g.m) (sc:=sc);rw[List.length_map,List.length_range];omega
  apply hRw.rE (k:=(dX g.m.w g.m.h u.cell).toNat) (by omega) (by omega);rw[ar9 hmay hs ht hlr,hgl,Mc (by omega)];refine LZ (x:=u.id) iiT s (i:=1) rfl hD.k h64 λJY w hk' Ed _ s=>?_;refine ih (k+1) JY w (by omega) ⟨hk',λv hv d hd=>?_⟩ (λx hx=>?_) (λx hx=>?_) s
  ·rw[Ed]at hd;split at hd
   ·rename_i e;have:=ids_eq hm.ids hv hu e;subst this;cases hd;rw[<-e2]
   ·exact hD.v v hv d hd
  ·rw[Ed];split
   ·rfl
   ·exact F1 x hx
  ·rw[yf]at hx;rw[Ed];split
   ·rfl
   ·rename_i hne;rcases List.mem_append.1 hx with hx|hx
    ·exact hk x hx
    ·exact(hne (List.mem_singleton.1 hx)).elim
end
def ajj {s d:Int}{N:Nat}:∀{l:List (Int×List Int)},(∀p∈l,p.2.length<=N)->∀p∈zC s d l,p.2.length<=N+1
 |[],_,p,hp=>by simp[zC,List.mem_singleton]at hp;grind
 |q::l,h,p,hp=>by
  have h0:=h q (List.mem_cons_self ..);rw[zC]at hp;split at hp
  ·grind
  ·rcases List.mem_cons.1 hp with rfl|hp
   ·omega
   ·exact ajj (λp hp=>h p (List.mem_cons_of_mem _ hp)) p hp
def ajk {g s d:Int}{N:Nat}:∀{st:Ax},(∀q∈st,∀p∈q.2,p.2.length<=N)->∀q∈qe g s d st,∀p∈q.2,p.2.length<=N+1
 |[],_,q,hq,p,hp=>by simp[qe,List.mem_singleton]at hq;grind
 |z::st,h,q,hq,p,hp=>by
  rw[qe]at hq;split at hq
  ·rcases List.mem_cons.1 hq with rfl|hq
   ·exact ajj (h z (List.mem_cons_self ..)) p hp
   grind
  ·rcases List.mem_cons.1 hq with rfl|hq
   ·grind
   ·exact ajk (λq hq=>h q (List.mem_cons_of_mem _ hq)) q hq p hp
def atB {w h:Int}{us:List aV}{ps:List AS}{p:AS}(hps:ps.map Mf=mG w h us)(hp:p∈ps):p.ids.length<=us.length:=by
 have key:∀(us:List aV) (st:Ax) (N:Nat),(∀q∈st,∀p∈q.2,p.2.length<=N)->∀q∈us.foldl (S9 w h) st,∀p∈q.2,p.2.length<=N+us.length:=by
  intro us;induction us with
  |nil=>simp_all
  |cons u us ih=>
   intro st N h;have:=ih _ _ (ajk (g:=u.goal) (s:=aC w ‹Int› u.cell) (d:=u.id) h);rw[List.length_cons];intro q hq p hp;have:=this q hq p hp;omega
 have h1:Mf p∈mG w h us:=by grind
 obtain⟨q,hq,h2⟩:=List.mem_flatMap.1 h1;obtain⟨z,hz,e⟩:=List.mem_map.1 h2;have h3:=key us [] 0 (λq hq=>by cases hq) q hq z hz;have e2:z.2=p.ids:=congrArg GR.ids e;grind
section
variable {W w w0:World}{L:List As}{r:Au}{y:gm}{lg:xE}{la:Option Addr}{ln lc sp lb db:Nat}{us:List aV}{v0 v2:Value}{g:iw}{loc:List (Int×Int)}
def ajl {F:Nat->Prop}{ps:List AS}{p:AS}{i:Nat}(s:Sep F W w (Ay ps::L))(hp:ps[i]? =some p):Sl w p.q.a p.q.n p.q.c 1 one p.ids:=by have s:=(gL s).2;exact aO s (i:=i) (by rw[List.getElem?_append_left (by grind),List.getElem?_map,hp];rfl) cE (by decide)
def arf {Q:Option Addr->Nat->Nat->Value->World->Prop}{dm:List (Int×Int)}{L':List As}(hm:nP g.m.w g.m.h us)(GY:∀u∈us,iF u.id)(pZ:ln<=1000000)(hD:aji g.m us dm)(hall:∀u∈us,(fy dm u.id).isSome=true)(hU:∀w',Sep No W w' L'->Sl w' la ln lc 3 iy us)
  (h:∀da dn dc w',Sep No W w' (ak da dn dc 3 1 (flat one (sD g.m us))::L')->Q da dn dc .nilIface w'):
  ∀(j i:Nat) (oa:Option Addr) (on oc:Nat) (w:World),i+j=ln->on<=i->Sep No W w (ak oa on oc 3 1 (flat one (sD g.m (us.take i)))::fO fq vI db dm::L')->
   sw Q (j+1) (some db) oa on oc la ln lc (ln:Int) i w:=by
 intro j;induction j with
 |zero=>
  intro i oa on oc w hj Cj s;show oB _ _ _ _ _ _ _ _ _ _ _ _;rw[oB,bp];have hl:=(hU w (ai (ai s))).len;rw[List.take_of_length_le (by omega)]at s;exact h oa on oc w (gB s (.cons_cons _ (List.sublist_cons_self _ _)))
 |succ j ih=>
  intro i oa on oc w hj Cj s;show oB _ _ _ _ _ _ _ _ _ _ _ _;rw[oB,bM];refine(hU w (ai (ai s))).El rfl (by omega) λp u hu hc=>?_;have hmem:=List.mem_of_getElem? hu;refine WT hc s λub w s=>?_;apply lI s 0 rfl;refine Ew (K:=fq) iiT (ace w) s (i:=2) rfl hD.k (GY u hmem) (λhn=>by grind) λd hd=>?_;apply abB;rw[hD.v u hmem d hd,Mc (by omega)];have s:=ai s;refine LA s (by omega) λa' c' w s=>?_;apply ih (i+1) a' (on+1) c' w (by omega) (by omega);have yf:us.take (i+1)=us.take i++[u]:=by rw[List.take_add_one,hu];rfl
  unfold sD at s⊢;grind
def arh {Q:Option Addr->Nat->Nat->Value->World->Prop}{ps:List AS}{pa:Option Addr}{pn pc:Nat}(hLd:iQ W lg)(hmay:cP g.m)(hm:nP g.m.w g.m.h us)(GY:∀u∈us,iF u.id)(pZ:ln<=100000)(ayB:ard g.m.w g.m.h loc us)(hps:ps.map Mf=mG g.m.w g.m.h us)(hU:∀w',Sep No W w' L->Sl w' la ln lc 3 iy us)
  (h:∀r' y' da dn dc w',r'.p=r.p->y'.p=GU y.p (mG g.m.w g.m.h us)->Sep No W w' (ak da dn dc 3 1 (flat one (sD g.m us))::g8 r' y'::FH sp v0 r.p v2::L)->Q da dn dc .nilIface w'):
  ∀(j i:Nat) (r':Au) (y':gm) (m':j8) (dm:List (Int×Int)) (w:World),i+j=pn->r'.p=r.p->y'.p=GU y.p ((mG g.m.w g.m.h us).take i)->y'.o=some m'->m'.g=g->aji g.m us dm->(∀p∈ps.take i,∀x∈p.ids,(fy dm x).isSome=true)->
   Sep No W w (g8 r' y'::FH sp v0 r.p v2::fO fq vI lb loc::fO fq vI db dm::ak pa pn pc 211 3 (flat yB ps)::Ay ps::L)->
   oD Q (j+1) (sZ sp) la ln lc (some lb) (some db) pa pn pc (pn:Int) i w:=by
 have IE:=afG g.m.w g.m.h us;have aBR:ps.length=(mG g.m.w g.m.h us).length:=by grind
 intro j;induction j with
 |zero=>
  intro i r' y' m' dm w hj er ey ho eg hD hd s;show oC _ _ _ _ _ _ _ _ _ _ _ _ _ _;rw[oC,bp];have hpn:=(aO s (i:=4) rfl uG (by decide)).len;rw[List.take_of_length_le (by omega)]at ey hd;have hUw:=hU w (ai (ai (ai (ai (ai (ai s))))));have s:=pk 6 [3,0,1] s;have s:=bE s 3 1;refine⟨ln+1,arf (L':=g8 r' y'::FH sp v0 r.p v2::L) hm GY (by omega) hD (λu hu=>?_) (λw' s'=>hU w' (ai (ai s'))) (λda dn dc w' s'=>h r' y' da dn dc w' er ey s') ln 0 none 0 0 w (by omega) (Nat.zero_le _) s⟩;obtain⟨p,hp,_,_,hx⟩:=WW.2 ⟨u,hu,rfl,rfl,rfl⟩;rw[<-hps]at hp;obtain⟨q,hq,rfl⟩:=List.mem_map.1 hp;exact hd q hq u.id hx
 |succ j ih=>
  intro i r' y' m' dm w hj er ey ho eg hD hd s;show oC _ _ _ _ _ _ _ _ _ _ _ _ _ _;rw[oC,bM];have hP:=aO s (i:=4) rfl uG (by decide);have hpn:=hP.len;have hul:=(hU w (ai (ai (ai (ai (ai (ai s))))))).len;refine hP.El rfl (by omega) λad p hp hc=>?_;have hmem:=List.mem_of_getElem? hp;have htr:(mG g.m.w g.m.h us)[i]? =some (Mf p):=by rw[<-hps,List.getElem?_map,hp];rfl
  have yf:(mG g.m.w g.m.h us).take (i+1)=(mG g.m.w g.m.h us).take i++[Mf p]:=by rw[List.take_add_one,htr];rfl
  have ayC:ps.take (i+1)=ps.take i++[p]:=by rw[List.take_add_one,hp];rfl
  obtain⟨u0,hu0,e1,e2⟩:=amq (List.mem_of_getElem? htr);have IG:=hm.at_ u0 hu0;have ht:bF g.m.w g.m.h p.g:=by rw[<-show u0.goal=p.g from e1];exact IG.2
  have hs:dW g.m.w g.m.h p.s:=by rw[<-show aC g.m.w g.m.h u0.cell=p.s from e2];exact bW IG.1
  have vp:=gM hm.wh.1 hm.wh.2;have NX:Lr.YG (p.g,p.s):=⟨iF.wf (Av ht),iF.wf (by have:=hs.2;unfold iF;omega)⟩;have JO:∀x∈p.ids,∃u∈us,u.id=x/\u.goal=p.g/\aC g.m.w g.m.h u.cell=p.s:=λx hx=>by obtain⟨u,hu,k1,k2,k3⟩:=WW.1 ⟨Mf p,List.mem_of_getElem? htr,rfl,rfl,hx⟩;exact⟨u,hu,k3,k1,k2⟩
  refine aR (hc 0 _ rfl) (aR (hc 1 _ rfl) (dy (hc 2 _ rfl) ?_));refine aT s λpb w s=>?_;refine sT s 0 rfl λw s=>?_;refine sT s 0 rfl λw s=>?_;refine ax s (i:=0) rfl rfl rfl λw s=>?_;have s:=ay s;subst eg;refine ah (lP s 2 rfl (lI s 0 rfl (lI s 0 rfl ?_)));rw[<-er]at s⊢;have fin:∀{r2:Au} {y2:gm} {da ra:Option Addr} {dc rc fb:Nat} {w:World},r2.p=r'.p->y2.p=GN y'.p m'.p p.g p.s->
    Sep No W w (av fb 213 [.slice da (dO m'.g.m p.s).length dc,.slice ra (dO m'.g.m p.s).length rc]::ak ra (dO m'.g.m p.s).length rc 3 1 (flat one (Cu m'.g.m p.g p.s))::ak da (dO m'.g.m p.s).length dc 3 1 (flat one (GM m'.g.m p.g p.s))::g8 r2 y2::av pb 211 [ae p.g,ae p.s,.slice p.q.a p.q.n p.q.c]::FH sp v0 r'.p v2::fO fq vI lb loc::fO fq vI db dm::ak pa pn pc 211 3 (flat yB ps)::Ay ps::L)->
    oA (oD Q (j+1)) Q (sZ sp) la ln lc (some lb) (some db) (aZ pb) (aZ fb) 0 pa pn pc (pn:Int) i w:=λ{r2 y2 da ra dc rc fb w} er2 WZ s=>by
   unfold oA;apply lS s 4 rfl;have hI0:=ajl (pk 10 [9] s) hp;have IJ:=hI0.len;have vX:p.q.n<=1000000:=by rw[<-IJ];exact Nat.le_trans (atB hps hmem) (by omega)
   have s:=pk 10 [6,7,0,1,9,8,3,5] s;obtain⟨m2,ho2,em2⟩:=GV (by rw[WZ];rfl);have eg2:m2.g=m'.g:=by have:=congrArg vN.g em2;exact this
   refine⟨p.q.n+1,are
    hmay hm ayB hs ht JO GY (by omega) vX (λw' s'=>ajl (ai (ai s')) hp) (λw' s'=>aO s' (i:=1) rfl cE (by decide)) (λw' s'=>kY s' (i:=0) rfl) (λJY w' hD' h0 h1 s'=>?_) p.q.n 0 dm w (by omega) hD (λx hx=>hx) (λx hx=>by cases hx) s⟩
   refine ih (i+1) r2 y2 m2 JY w' (by omega) (er2.trans er) ?_ ho2 eg2 hD' (λq hq x hx=>?_) ?_
   ·rw[WZ,yf,field_eq ho,ey];unfold GU;rw[List.foldl_append];rfl
   ·rw[ayC]at hq;rcases List.mem_append.1 hq with hq|hq
    ·exact h0 x (hd q hq x hx)
    ·rw[List.mem_singleton.1 hq]at hx;exact h1 x hx
   ·rw[<-er];exact gd (A:=[_,_,_,_,_,_,_,_]) (B:=[_,_,_,_,_,_]) [6,7,0,1,5,4] s' rfl (by decide)
  constructor
  ·have s:=pk 7 [1,0,2,3,4,5,6] s;refine NY ho hLd s ht hs NX λr2 y2 da dc ra rc w er2 WZ s=>?_;refine aT s λfb w s=>?_;refine⟨cg s 4 rfl,cg s 4 rfl,cg s 5 rfl,?_⟩;refine sT s 0 rfl λw s=>?_;refine ax s (i:=0) rfl rfl rfl λw s=>?_;exact fin er2 WZ s
  ·refine aT s λfb w s=>?_;refine⟨cg s 1 rfl,cg s 1 rfl,cg s 3 rfl,?_⟩;have s:=pk 8 [2,0,1,3,4,5,6,7] s;refine NY ho hLd s ht hs NX λr2 y2 da dc ra rc w er2 WZ s=>?_;have s:=pk 10 [3,0,1,2,4,5,6,7,8,9] s;refine sT s 0 rfl λw s=>?_;refine ax s (i:=0) rfl rfl rfl λw s=>?_;exact fin er2 WZ s
end
section
variable {W w w0:World}{L:List As}{r:Au}{y:gm}{lg:xE}{la:Option Addr}{ln lc sp:Nat}{us:List aV}{v0 v2:Value}{m:j8}
def aeE {Q:Option Addr->Nat->Nat->Value->World->Prop}(hLd:iQ W lg)(ho:y.o=some m)(hm:nP m.g.m.w m.g.m.h us)(GY:∀u∈us,iF u.id)(pZ:ln<=100000)(hU:∀w',Sep No W w' L->Sl w' la ln lc 3 iy us)(s:Sep No W w (g8 r y::FH sp v0 r.p v2::L))
  (h:∀r' y' da dn dc w',r'.p=r.p->y'.p=GU y.p (mG m.g.m.w m.g.m.h us)->Sep No W w' (ak da dn dc 3 1 (flat one (sD m.g.m us))::g8 r' y'::FH sp v0 r.p v2::L)->Q da dn dc .nilIface w'):
  xO (sZ sp) la ln lc w Q:=by
 apply OG;refine ah (lP s 1 rfl ?_);have k:=qW s ho;have hg:=(k.ok.m m ho).g;refine Rk s k λw s _=>?_;refine aai s 207 fq vI λlb w s=>?_;have ayD:∀{us:List aV},aji m.g.m us []:=⟨List.nodup_nil,λu _ d h=>by cases h⟩;have loop:∀(j i:Nat) (loc:List (Int×Int)) (w:World),i+j=ln->ard m.g.m.w m.g.m.h loc (us.take i)->Sep No W w (fO fq vI lb loc::g8 r y::FH sp v0 r.p v2::L)->
   uu Q (j+1) (sZ sp) la ln lc m.g.m.w m.g.m.h (some lb) la ln lc (ln:Int) i w:=by
  intro j;induction j with
  |zero=>
   intro i loc w hj hL s;show pI _ _ _ _ _ _ _ _ _ _ _ _ _ _ _;rw[pI,bp];refine aai s 207 fq vI λdb w s=>?_;have hUw:=hU w (ai (ai (ai (ai s))));have hl:=hUw.len;rw[List.take_of_length_le (by omega)]at hL;refine aaF s hUw (by omega) hm λoa on oc ps w htr s _=>?_;have s:=pk 6 [4,5,3,2,0,1] s;exact⟨on+1,arh hLd hg.may hm GY pZ hL htr hU h on 0 r y m [] w (by omega) rfl (by rw[List.take_zero];rfl) ho rfl ayD (λp hp=>by cases hp) s⟩
  |succ j ih=>
   intro i loc w hj hL s;show pI _ _ _ _ _ _ _ _ _ _ _ _ _ _ _;rw[pI,bM];refine(hU w (ai (ai (ai s)))).El rfl (by omega) λp u hu hc=>?_;have hmem:=List.mem_of_getElem? hu;refine WT hc s λub w s=>?_;have s:=ay s;refine lI s 0 rfl (lI s 0 rfl ?_);refine tq s λw s _=>⟨cg s 0 rfl,?_⟩;refine LZ iiT s (i:=1) rfl hL.1 (GY u hmem) λloc' w hk' Ed _ s=>?_;rw[Mc (by omega)];refine ih (i+1) loc' w (by omega) ⟨hk',λv hv=>?_⟩ (ai s);have yf:us.take (i+1)=us.take i++[u]:=by rw[List.take_add_one,hu];rfl
   rw[yf]at hv;rw[Ed];by_cases e:v.id=u.id
   ·have hvu:v∈us:=by
     rcases List.mem_append.1 hv with hv|hv
     ·exact List.mem_of_mem_take hv
     ·rw[List.mem_singleton.1 hv];exact hmem
    rw[if_pos e,ids_eq hm.ids hvu hmem e]
   ·rw[if_neg e];rcases List.mem_append.1 hv with hv|hv
    ·exact hL.2 v hv
    ·exact(e (by rw[List.mem_singleton.1 hv])).elim
 exact⟨ln+1,loop ln 0 [] w (by omega) ⟨List.nodup_nil,λu hu=>by cases hu⟩ s⟩
end
structure Eh where
 p:Nat
 bQ:Au
 cr:CrR
structure zE where
 most:Int
 bQ:gm
 cr:Option Hq
def zE.p (y:zE):gH:=⟨y.most,y.bQ.p,y.cr.map (·.y)⟩
def crV (r:Eh)(o:Option Hq):Option Addr:=match o with
 |some _=>sZ r.cr.p
 |none=>none
noncomputable def amC (r:Eh)(o:Option Hq):List As:=match o with
 |some x=>[fU r.cr x]
 |none=>[]
noncomputable abbrev ajm (r:Eh)(y:zE):As:=FH r.p (ae y.most) r.bQ.p (.pointer (crV r y.cr))
noncomputable def awu (r:Eh)(y:zE):List As:=ajm r y::g8 r.bQ y.bQ::amC r y.cr
structure ajn (y:zE):Prop where
 most:1<=y.most/\y.most<=65536
 no:y.cr=none↔y.bQ.o=none
 cr:∀x m,y.cr=some x->y.bQ.o=some m->x.w=m.g.m.w/\x.h=m.g.m.h/\x.y.most=y.most
noncomputable def fW (r:Eh)(y:zE):As:=aW (ajn y) (awu r y)
section
variable {F:Nat->Prop}{W w:World}{L:List As}{r:Eh}{y:zE}
def Ic (s:Sep F W w (fW r y::L)):ajn y/\Sep F W w (ajm r y::g8 r.bQ y.bQ::(amC r y.cr++L)):=gL s
def ajo (s:Sep F W w (fW r y::L))(h:y.cr=none):ajn y/\y.bQ.o=none/\Sep F W w (FH r.p (ae y.most) r.bQ.p (.pointer none)::g8 r.bQ y.bQ::L):=by obtain⟨ok,s⟩:=Ic s;refine⟨ok,ok.no.1 h,?_⟩;unfold ajm amC crV at s;grind
def vu {x:Hq}(s:Sep F W w (fW r y::L))(h:y.cr=some x):ajn y/\(∃m,y.bQ.o=some m/\x.w=m.g.m.w/\x.h=m.g.m.h/\x.y.most=y.most)/\Sep F W w (FH r.p (ae y.most) r.bQ.p (.pointer (sZ r.cr.p))::g8 r.bQ y.bQ::fU r.cr x::L):=by
 obtain⟨ok,s⟩:=Ic s;refine⟨ok,?_,?_⟩
 ·cases hn:y.bQ.o with
  |none=>rw[ok.no.2 hn]at h;cases h
  |some m=>exact⟨m,rfl,ok.cr x m h hn⟩
 ·unfold ajm amC crV at s;grind
def zT {most:Int}{n:gm}{x:Hq}{m:j8}(s:Sep F W w (FH r.p (ae most) r.bQ.p (.pointer (sZ r.cr.p))::g8 r.bQ n::fU r.cr x::L))(hm:1<=most/\most<=65536)(ho:n.o=some m)(hx:x.w=m.g.m.w/\x.h=m.g.m.h/\x.y.most=most):Sep F W w (fW r ⟨most,n,some x⟩::L):=by
 refine dA s ⟨hm,⟨(λe=>by cases e),λe=>?_⟩,λx' m' ex em=>?_⟩
 all_goals grind
def afN {most:Int}{n:gm}(s:Sep F W w (FH r.p (ae most) r.bQ.p (.pointer none)::g8 r.bQ n::L))(hm:1<=most/\most<=65536)(ho:n.o=none):Sep F W w (fW r ⟨most,n,none⟩::L):=
 dA s ⟨hm,⟨λ_=>ho,λ_=>rfl⟩,λx' m' ex em=>by cases ex⟩
def TO {Q:Option Addr->World->Prop}{k most:Int}(hk:1<=k/\k<=100000)(hm:1<=most/\most<=65536)(s:Sep F W w L)
  (h:∀r y w',y.p=⟨most,⟨k,⟨[],[],0,0,0,0⟩,none,⟨0,0,0,0,0,0⟩⟩,none⟩->Sep F W w' (fW r y::L)->Q (sZ r.p) w'):Em k most w Q:=by
 apply aga;rw[bp,bp,bp];refine agH hk s λnr x w ex s=>?_;refine aN s λp w s=>?_;refine h ⟨p,nr,⟨0,⟨0,0,none,0,0,[],[]⟩,⟨0,none,0,0,0⟩⟩⟩ ⟨most,⟨k,x,none,⟨0,0,0,0,0,0⟩⟩,none⟩ w ?_ (afN s hm rfl);unfold zE.p gm.p;grind
end
abbrev Mj (c:Int):Value:=.iface 108 (ae c)
def GZ (lg:xE)(e:Value)(c:Int):Prop:=(c=0/\e=.nilIface)\/(c≠0/\e=Mj c)\/(c=5/\e=sR lg.a0)
def acM {lg:xE}{e:Value}{c:Int}{K:Value->Prop}(h:GZ lg e c)(k:K e):dV e K:=by rcases h with⟨_,rfl⟩|⟨_,rfl⟩|⟨_,rfl⟩<;>exact k
def ajp {lg:xE}{w:World}{c:Int}{Q:Value->World->Prop}(h:∀e,GZ lg e c->Q e w):gh c w Q:=by
 apply ET;by_cases e:c=0
 ·rw[cV e,cond_true];exact h _ (.inl ⟨e,rfl⟩)
 ·rw[cy e,cond_false];exact h _ (.inr (.inl ⟨e,rfl⟩))
def qY {lg:xE}{c:Int}(h:c≠0):GZ lg (Mj c) c:=.inr (.inl ⟨h,rfl⟩)
section
variable {W w w0:World}{L:List As}{lg:xE}{r:Eh}{y:zE}{x:Hq}{m:j8}{ob:Nat}{kind c:Int}{e:Value}
def aBS:zc T 108=[ae 0]:=rfl
def amD {Q:Int->World->Prop}(hL:iQ W lg)(he:GZ lg e c)(hc:c≠0)(s:Sep No W w (av ob 80 [ae kind,e]::L))(h:∀w',Sep No W w' (av ob 80 [ae kind,e]::L)->Q c w'):
  CG (.iface 78 (.pointer (sZ ob))) w Q:=by
 apply adO;refine aT s λrb w s=>?_;have k:=hL.fr (au s);apply mF k.v0 rfl;have hv:=kY s (i:=1) rfl 1 _ rfl;rcases he with⟨h0,_⟩|⟨_,rfl⟩|⟨h5,rfl⟩
 ·grind
 ·apply S4 (.inl rfl) (.inr rfl) hv (λx y K hk=>ave (by decide) hk);refine Ma s (λw' s'=>kY s' (i:=0) rfl 1 _ rfl) (λw' s'=>(hL.fr (au s')).v1) λw s=>?_;exact lI s 0 rfl (h w (ai s))
 ·apply S4 (.inl rfl) (.inl rfl) hv (λx y K hk=>WG hk);rw[cond_true,<-h5];exact h w (ai s)
def amE {Q:Value->World->Prop}{a:Option Addr}{n c:Nat}{bs:List Int}(hL:iQ W lg)(hB:∀w',Sep No W w' L->Sl w' a n c 1 bq bs)(hn:n<=1000000000)(hr:dZ bs)(hh:Eg bs)(oT:∀mp,kV bs=some mp->mp.w*mp.h<=1600)(Yy:zS y.p.bQ<1000000000)
  (s:Sep No W w (fW r y::L))(hno:kV bs=none->∀w',Sep No W w' (fW r y::L)->Q (Mj 6) w')
  (hyes:∀mp,kV bs=some mp->∀r' y' w',r'.p=r.p->y'.p=⟨y.most,ldP y.p.bQ mp,some ⟨y.most,0,[]⟩⟩->Sep No W w' (fW r' y'::L)->Q .nilIface w'):
  xL (sZ r.p) a n c w Q:=by
 apply On;have ok:=(Ic s).1;have hBw:=hB w (ai s);refine acL (hL.fr (au s)) hBw hn hr hh s (λhg co w Pa s _=>?_) λmp hg ma mn mc w s _=>?_
 ·refine aT s λmb w s=>?_;refine sT s 0 rfl λw s=>?_;refine sT s 0 rfl λw s=>?_;refine sT s 0 rfl λw s=>?_;rw[Gl (by omega),cond_true];exact hno hg w (ai s)
 ·have hmay:=afe (λx hx=>hr x hx) hg;refine aT s λmb w s=>?_;refine sT s 0 rfl λw s=>?_;refine sT s 0 rfl λw s=>?_;refine ax s (i:=0) rfl rfl rfl λw s=>?_;rw[Es rfl,cond_false];have s:=ay s;obtain⟨_,so⟩:=Ic (pk 3 [2,0,1] s);have so:=so;have s:Sep No W _ (g8 r.bQ y.bQ::ajm r y::av mb 25 [ae mp.w,ae mp.h,.slice ma mn mc]::ak ma mn mc 5 1 (flat bq mp.cs)::L):=
   ck (gB so (.cons_cons _ (.cons_cons _ (List.sublist_append_right _ _)))) (List.Perm.swap _ _ _)
  refine ah (lP s 1 rfl ?_);refine lI s 2 rfl (lI s 2 rfl (lS s 2 rfl ?_));refine aeu hmay hmay.bytes (oT mp hg) (λw' s'=>aO s' (i:=2) rfl cY (by decide)) (by rw[y.bQ.amB];exact Yy) s λnr x' w er ex s=>?_;have s:=ay s;refine lI s 2 rfl (lI s 2 rfl (ah (lI s 1 rfl ?_)));refine acD ⟨hmay.w,hmay.h⟩ ok.most s λcr ws w s=>?_;refine ah (ax s (i:=2) rfl rfl rfl λw s=>?_);refine ajp (lg:=lg) λe he=>?_;have he:e=.nilIface:=by
   rcases he with⟨_,h⟩|⟨h,_⟩|⟨h,_⟩
   all_goals grind
  subst he;have s:=gd (A:=[_,_,_,_,_]) (B:=[FH r.p (ae y.most) nr.p (.pointer (sZ cr.p)),_,_]) [2,1,0] s (by rw[er];rfl) (by decide);refine hyes mp hg ⟨r.p,nr,cr⟩ ⟨y.most,_,some ⟨mp.w,mp.h,⟨y.most,0,[]⟩,ws⟩⟩ w rfl ?_ (zT s ok.most rfl ⟨rfl,rfl,rfl⟩);show gH.mk _ _ _=gH.mk _ _ _;rw[y.bQ.awr ex];rfl
def Ie {x':Hq}{cr:CrR}(ok:ajn y)(hx:x.w=m.g.m.w/\x.h=m.g.m.h/\x.y.most=y.most)(vp:y.cr=some x)(ho:y.bQ.o=some m)(hx':x'.w=x.w/\x'.h=x.h/\x'.y.most=x.y.most)(ec:cr.p=r.cr.p)(s:Sep No W w (fU cr x'::FH r.p (ae y.most) r.bQ.p (.pointer (sZ r.cr.p))::g8 r.bQ y.bQ::L)):
  Sep No W w (fW ⟨r.p,r.bQ,cr⟩ ⟨y.most,y.bQ,some x'⟩::L):=by
 have s:=gd (A:=[_,_,_]) (B:=[FH r.p (ae y.most) r.bQ.p (.pointer (sZ cr.p)),_,_]) [1,2,0] s (by rw[ec];rfl) (by decide);exact zT s ok.most ho ⟨hx'.1.trans hx.1,hx'.2.1.trans hx.2.1,hx'.2.2.trans hx.2.2⟩
end
def KI {w:World}{Q:Value->World->Prop}(h:Q .nilIface w):gh 0 w Q:=ET _ _ _ h
def KJ {w:World}{c:Int}{Q:Value->World->Prop}(hc:c≠0)(h:Q (Mj c) w):gh c w Q:=by apply ET;grind
def agX {m:bJ}(hm:cP m){c:Int}:cL m c=0↔¬bF m.w m.h c:=by
 constructor
 ·intro h hc;have:=LL hm hc;omega
 ·intro h;rw[cL,if_neg λe=>h ⟨⟨hm.w,hm.h⟩,e.1,by rw[<-hm.len];exact e.2⟩]
abbrev Mk (d dir id:Int)(ma:Option Addr)(mn mc:Nat)(ga:Option Addr)(gn gc:Nat):List Value:=[ae 0,ae d,ae dir,ae id,.slice ma mn mc,.slice ga gn gc,.int .u64 0,.int .u64 0,.int .u64 0,.int .u64 0,.int .u64 0,.int .u64 0]
abbrev DoK (lg:xE)(W:World)(rp:Nat)(ab:Nat)(L:List As)(Q:Value->World->Prop)(q:gH×aaI):Prop:=
 ∀r' y' e ma mn mc ga gn gc w',r'.p=rp->y'.p=q.1->GZ lg e q.2.code->Sep No W w' (ak ma mn mc 51 2 (flat lJ q.2.GX)::ak ga gn gc 3 1 (flat one q.2.gone)::fW r' y'::av ab 34 (Mk q.2.d q.2.dir q.2.id ma mn mc ga gn gc)::L)->Q e w'
section
variable {W w w0:World}{L:List As}{lg:xE}{r:Eh}{y:zE}{x:Hq}{m:j8}{ab:Nat}{A B k:Int}{e:Value}{a:Option Addr}{n c:Nat}
def W0 {Q:Value->World->Prop}{q:gH×aaI}{r':Eh}{y':zE}(h:DoK lg W r.p ab L Q q)(er:r'.p=r.p)(ey:y'.p=q.1)(he:GZ lg e q.2.code)(hm:q.2.GX=[])(hg:q.2.gone=[])(s:Sep No W w (fW r' y'::av ab 34 (Mk q.2.d q.2.dir q.2.id none 0 0 none 0 0)::L)):Q e w:=by have s:=bE (bE s 3 1) 51 2;apply h r' y' e none 0 0 none 0 0 w er ey he;rw[hm,hg];exact s
def ajq {Q:Value->World->Prop}{ob:Nat}{v0 v2 v3:Value}(ho:y.bQ.o=some m)(vp:y.cr=some x)(s:Sep No W w (av ob 38 [v0,ae A,v2,v3]::fW r y::L))(h7:¬bF m.g.m.w m.g.m.h A->∀w',Sep No W w' (fW r y::L)->Q (Mj 7) w')(h0:bF m.g.m.w m.g.m.h A->∀w',Sep No W w' (fW r y::L)->Q .nilIface w'):
  r8 Q (sZ r.p) (aZ ob) w:=by
 have s:=ay s;obtain⟨ok,_,so⟩:=vu (ai s) vp;refine ah (lP so 0 rfl (lI s 0 rfl ?_));have kn:=qW (ai so) ho;have hmay:=(kn.ok.m m ho).g.may;apply H9 kn;by_cases hc:bF m.g.m.w m.g.m.h A
 ·rw[cy (λe=>(agX hmay).1 e hc),cond_false];exact h0 hc _ (ai s)
 ·rw[cV ((agX hmay).2 hc),cond_true];exact h7 hc _ (ai s)
def akc {Q:Value->World->Prop}(hx:k=2\/k=3->∃x m,y.cr=some x/\y.bQ.o=some m)(s:Sep No W w (fW r y::L))
  (h7:∀m,y.bQ.o=some m->(k=2/\¬bF m.g.m.w m.g.m.h A)\/(k=3/\¬(bF m.g.m.w m.g.m.h A/\bF m.g.m.w m.g.m.h B))->∀w',Sep No W w' (fW r y::L)->Q (Mj 7) w')
  (h0:(∀m,y.bQ.o=some m->(k=2->bF m.g.m.w m.g.m.h A)/\(k=3->bF m.g.m.w m.g.m.h A/\bF m.g.m.w m.g.m.h B))->∀w',Sep No W w' (fW r y::L)->Q .nilIface w'):
  wc (sZ r.p) k A B a n c w Q:=by
 apply My;refine aN s λob w s=>?_;apply lI s 0 rfl;by_cases k3:k=3
 ·rw[cV k3,cond_true];obtain⟨x,m,vp,ho⟩:=hx (.inr k3);have s:=ay s;obtain⟨ok,_,so⟩:=vu (ai s) vp;refine ah (lP so 0 rfl (lI s 0 rfl ?_));have kn:=qW (ai so) ho;have hmay:=(kn.ok.m m ho).g.may;apply H9 kn;by_cases hc:bF m.g.m.w m.g.m.h B
  ·rw[cy (λe=>(agX hmay).1 e hc),cond_false];refine ajq ho vp s (λhA w s=>h7 m ho (.inr ⟨k3,λe=>hA e.1⟩) w s) λhA w s=>h0 (λm' hm'=>?_) w s;grind
  ·rw[cV ((agX hmay).2 hc),cond_true];exact h7 m ho (.inr ⟨k3,λe=>hc e.2⟩) _ (ai s)
 rw[cy k3,cond_false];by_cases k2:k=2
 ·rw[cV k2,cond_true];obtain⟨x,m,vp,ho⟩:=hx (.inl k2);refine ajq ho vp s (λhA w s=>h7 m ho (.inl ⟨k2,hA⟩) w s) λhA w s=>h0 (λm' hm'=>?_) w s;grind
 ·rw[cy k2,cond_false];exact h0 (λm' _=>⟨λe=>(k2 e).elim,λe=>(k3 e).elim⟩) _ (ai s)
def amF {Q:Value->World->Prop}(vp:y.cr=some x)(ho:y.bQ.o=some m)(hA:bF m.g.m.w m.g.m.h A)(Yy:zS y.p.bQ<1000000000)(s:Sep No W w (fW r y::L))
  (h8:B<1\/255<B->∀w',Sep No W w' (fW r y::L)->Q (Mj 8) w')(h10:1<=B/\B<=255->B=255/\vq x.y.us A≠-1->∀w',Sep No W w' (fW r y::L)->Q (Mj 10) w')
  (h0:1<=B/\B<=255->¬(B=255/\vq x.y.us A≠-1)->∀r' y' w',r'.p=r.p->y'.p=⟨y.most,edP y.p.bQ A B,some x.y⟩->Sep No W w' (fW r' y'::L)->Q .nilIface w'):xM (sZ r.p) A B w Q:=by
 apply Oo;by_cases b1:B<1
 ·grind
 rw[bp b1];by_cases b2:B>255
 ·grind
 rw[bp b2];have hB:1<=B/\B<=255:=by omega
 obtain⟨ok,⟨m',ho',hx⟩,so⟩:=vu s vp;rw[ho]at ho';cases ho';have aiv:m.g.ep<1000000000:=by have e:=y.bQ.amB;rw[ho]at e;have e:m.g.ep=zS y.p.bQ:=e;omega
 have b5:¬(B=255/\vq x.y.us A≠-1)->uh Q (sZ r.p) A B w:=λhn=>by refine ah (lP so 0 rfl ?_);refine aet ho aiv (i_ so) (λe=>(e hA).elim) (λ_ e=>(e hB).elim) λ_ _ w s=>?_;apply KI;refine h0 hB hn r ⟨y.most,⟨y.bQ.k,y.bQ.x,some ⟨xx m.g A B,m.ms,m.f⟩,y.bQ.past⟩,some x⟩ w rfl ?_ (zT (pk 3 [1,0,2] s) ok.most rfl hx);show gH.mk _ _ _=gH.mk _ _ _;rw[y.bQ.awt ho];rfl
 by_cases ayE:B=255
 ·rw[cV ayE,cond_true];refine ah (lP so 0 rfl ?_);have hAx:bF x.w x.h A:=by grind
  have hc:=(qX (ai (ai so))).1;apply acF hAx (ai (ai so));rcases atp hc.may (c:=A)with h1|h1
  all_goals grind
 grind
def akd {Q:Int->Value->World->Prop}(vp:y.cr=some x)(ho:y.bQ.o=some m)(Rm:x.y.next<1000000000)(s:Sep No W w (fW r y::L))
  (h9:cL m.g.m A=255->∀w',Sep No W w' (fW r y::L)->Q (-1) (Mj 9) w')
  (GO:cL m.g.m A≠255->vr m.g.m.w m.g.m.h x.y A B≠0->∀w',Sep No W w' (fW r y::L)->Q (-1) (Mj (vr m.g.m.w m.g.m.h x.y A B)) w')
  (h0:cL m.g.m A≠255->vr m.g.m.w m.g.m.h x.y A B=0->∀r' y' w',r'.p=r.p->y'.p=⟨y.most,y.p.bQ,some (OY x.y A B)⟩->Sep No W w' (fW r' y'::L)->Q x.y.next .nilIface w'):we (sZ r.p) A B w Q:=by
 apply MD;obtain⟨ok,⟨m',ho',hx⟩,so⟩:=vu s vp;rw[ho]at ho';cases ho';refine ah (lP so 0 rfl ?_);apply H9 (qW (ai so) ho);by_cases ari:cL m.g.m A=255
 ·grind
 rw[cy ari,cond_false];refine ah (lP so 0 rfl ?_);rw[<-hx.1,<-hx.2.1]at GO h0;refine Yi Rm (pk 3 [2,0,1] so) (λhne w s=>?_) λhz cr ws w ec s=>?_
 ·apply KJ hne;apply GO ari hne w;have s:=Ie ok hx vp ho ⟨rfl,rfl,rfl⟩ rfl s;have e:(⟨y.most,y.bQ,some x⟩:zE)=y:=by rw[<-vp]
  simp_all
 ·apply KI;exact h0 ari hz ⟨r.p,r.bQ,cr⟩ ⟨y.most,y.bQ,some ⟨x.w,x.h,OY x.y A B,ws⟩⟩ w rfl rfl (Ie (x':=⟨x.w,x.h,OY x.y A B,ws⟩) ok hx vp ho ⟨rfl,rfl,rfl⟩ ec s)
def ake {Q:Value->World->Prop}(hL:iQ W lg)(vp:y.cr=some x)(ho:y.bQ.o=some m)(NX:(Lit.int .i64 A).wf=true)(s:Sep No W w (fW r y::av ab 34 (Mk 0 5 (-1) none 0 0 none 0 0)::L))
  (GO:¬(bF m.g.m.w m.g.m.h A/\bF m.g.m.w m.g.m.h B)->∀w',Sep No W w' (fW r y::av ab 34 (Mk 0 5 (-1) none 0 0 none 0 0)::L)->Q (Mj 7) w')
  (h0:bF m.g.m.w m.g.m.h A->bF m.g.m.w m.g.m.h B->∀r' y' w',r'.p=r.p->y'.p=⟨y.most,zD y.p.bQ A (cU m.g.m B),some x.y⟩->Sep No W w' (fW r' y'::av ab 34 (Mk (D m.g.m A B) (kI m.g.m A B) (-1) none 0 0 none 0 0)::L)->Q .nilIface w'):wg (sZ r.p) (sZ ab) A B w Q:=by
 apply MP;obtain⟨ok,⟨m',ho',hx⟩,so⟩:=vu s vp;rw[ho]at ho';cases ho';refine ah (lP so 0 rfl ?_);refine aex ho hL (i_ so) NX (λhn w s=>?_) λht hc nr ny w er ey s=>?_
 ·apply KJ (by decide);have s:=zT (pk 3 [1,0,2] s) ok.most ho hx;have e:(⟨y.most,y.bQ,some x⟩:zE)=y:=by rw[<-vp]
  rw[e]at s;exact GO hn w s
 ·rw[cV rfl,cond_true];refine ah (sT s 3 rfl λw s=>ah (ax s (i:=3) rfl rfl rfl λw s=>?_));apply KI;obtain⟨m2,ho2,em2⟩:=GV (by rw[ey];rfl);have eg2:m2.g=m.g:=congrArg vN.g em2;have s:=gd (A:=[_,_,_,_]) (B:=[FH r.p (ae y.most) nr.p (.pointer (sZ r.cr.p)),g8 nr ny,fU r.cr x,_]) [1,0,2,3] s (by rw[er];rfl) (by decide);refine h0 ht hc ⟨r.p,nr,r.cr⟩ ⟨y.most,ny,some x⟩ w rfl ?_ (zT s ok.most ho2 (by grind));show gH.mk _ _ _=gH.mk _ _ _;rw[ey,field_eq ho];rfl
end
def arj {m:bJ}(hm:cP m){t x:Int}:0<=kI m t x/\kI m t x<=5:=by
 by_cases hD:D m t x<bS
 ·by_cases hx:x=t
  ·unfold kI;omega
  ·have:=(Xc hm hD hx).1;omega
 ·unfold kI;omega
section
variable {W w w0:World}{L:List As}{lg:xE}{r:Eh}{y:zE}{x:Hq}{m:j8}{ab:Nat}{A B k:Int}{e:Value}{a:Option Addr}{n c:Nat}
def amG {Q:Value->World->Prop}(hL:iQ W lg)(vp:y.cr=some x)(ho:y.bQ.o=some m)(s:Sep No W w (fW r y::av ab 34 (Mk 0 5 (-1) none 0 0 none 0 0)::L))
  (h:∀r' y' ma mn mc ga gn gc w',r'.p=r.p->y'.p=⟨y.most,GU y.p.bQ (mG m.g.m.w m.g.m.h x.y.us),some (N5 m.g.m.w m.g.m.h x.y (sD m.g.m x.y.us))⟩->
   Sep No W w' (ak ma mn mc 51 2 (flat lJ (dh m.g.m.w m.g.m.h [] (x.y.us.zip (sD m.g.m x.y.us))).2.1)::ak ga gn gc 3 1 (flat one (dh m.g.m.w m.g.m.h [] (x.y.us.zip (sD m.g.m x.y.us))).2.2)::fW r' y'::av ab 34 (Mk 0 5 (-1) ma mn mc ga gn gc)::L)->Q .nilIface w'):
  xN (sZ r.p) (sZ ab) w Q:=by
 apply OK;obtain⟨ok,⟨m',ho',hx⟩,s⟩:=vu s vp;rw[ho]at ho';cases ho';obtain⟨cok,cs⟩:=qX (ai (ai s));have DP:=(uM (ai cs)).1;have oT:=DP.nv;have Xr:=DP.most;have Rm:=DP.Q9;have asn:=cok.may;rw[hx.1,hx.2.1]at asn;have hmay:=((qW (ai s) ho).ok.m m ho).g.may;have GY:∀u∈x.y.us,iF u.id:=λu hu=>by have:=DP.jA u hu;unfold iF;omega
 refine ah (lP s 0 rfl ?_);refine DQ (pk 4 [2,0,1,3] s) λua un uc w s=>?_;have hun:=(aO s (i:=0) rfl Ja (by decide)).len;have s:=pk 5 [3,2,0,1,4] s;refine aeE hL ho asn GY (by omega) (λw' s'=>aO s' (i:=0) rfl Ja (by decide)) s λnr ny da dn dc w er ey s=>?_;apply Mg;refine ah (lP s 2 rfl ?_);have s:=pk 6 [4,0,1,2,5] s;refine aaC (λw' s'=>aO s' (i:=0) rfl cE (by decide)) (by unfold sD;grind) (λd hd=>?_) s λcr ws ma mn mc ga gn gc w ec s=>?_
 ·obtain⟨u,_,rfl⟩:=List.mem_map.1 hd;exact arj hmay
 ·refine ah (sT s 6 rfl λw s=>ah (ax s (i:=6) rfl rfl rfl λw s=>?_));apply KI;obtain⟨m2,ho2,em2⟩:∃m2,ny.o=some m2/\m2.g=m.g:=by obtain⟨TN,h1,h2⟩:=GW (mG m.g.m.w m.g.m.h x.y.us) (Mh ho);rw[<-ey]at h1;obtain⟨m2,ho2,e2⟩:=GV h1;refine⟨m2,ho2,?_⟩;have:=congrArg vN.g e2;exact this.trans h2
  rw[hx.1,hx.2.1]at s;have s:=gd (A:=[_,_,_,_,_,_,_]) (B:=[FH r.p (ae y.most) nr.p (.pointer (sZ cr.p)),g8 nr ny,fU cr ⟨m.g.m.w,m.g.m.h,N5 m.g.m.w m.g.m.h x.y (sD m.g.m x.y.us),ws⟩,_,_,_]) [5,4,2,0,1,6] s (by rw[er,ec];rfl) (by decide);have s:=zT (r:=⟨r.p,nr,cr⟩) s ok.most ho2 (by rw[em2];exact⟨rfl,rfl,hx.2.2⟩);refine h ⟨r.p,nr,cr⟩ ⟨y.most,ny,some ⟨m.g.m.w,m.g.m.h,N5 m.g.m.w m.g.m.h x.y (sD m.g.m x.y.us),ws⟩⟩ ma mn mc ga gn gc w rfl ?_ (pk 4 [1,2,0,3] s);show gH.mk _ _ _=gH.mk _ _ _;rw[ey];rfl
def atD {o:kW}(h:Du o=true)(hk:o.k≠0):(1<=o.k/\o.k<=8)/\(0<=o.A/\o.A<4294967296)/\(0<=o.B/\o.B<4294967296):=by
 unfold Du at h;rw[if_neg hk]at h;simp[Bool.and_eq_true]at h;obtain⟨h1,h2,h3,_⟩:=h;have h1:=of_decide_eq_true h1;have hA:=HA.1 h2;have hB:=HA.1 h3;have:=ap1 o.k;have pw:∀s:Nat,s<=4->(256:Int)^s<=4294967296:=λs hs=>by
  match s,hs with
  |0,_=>decide
  |1,_=>decide
  |2,_=>decide
  |3,_=>decide
  |4,_=>decide
 grind
def ajr {o:kW}(vp:y.cr=some x)(ho:y.bQ.o=some m)(F1:o.k≠0)(hm:Du o=true)(h1:o.k≠1)(h8:o.k≠8):iG y.p o=Mi y.p m.g.m x.y o:=by
 have e1:y.p.bQ.o=some m.p:=Mh ho;have e2:y.p.us=some x.y:=by show y.cr.map _=_;grind
 rw[iG,if_neg (by grind),if_neg h1,if_neg h8,e1,e2];rfl
def awv {Q:Value->World->Prop}{o:kW}{ob:Nat}(hL:iQ W lg)(F1:o.k≠0)(hmay:Du o=true)(hr:dZ o.m)(hn:n<=1000000000)(hM:∀w',Sep No W w' L->Sl w' a n c 1 bq o.m)
  (aww:o.k=1->Eg o.m/\∀mp,kV o.m=some mp->mp.w*mp.h<=1600)(Yy:zS y.p.bQ<1000000000)(Rm:∀u,y.p.us=some u->u.next<1000000000)(vp:o.k≠1->o.k≠8->y.cr≠none)
  (s:Sep No W w (av ob 38 [ae o.k,ae o.A,ae o.B,.slice a n c]::fW r y::av ab 34 (Mk 0 5 (-1) none 0 0 none 0 0)::L))(h:DoK lg W r.p ab L Q (iG y.p o)):
  oE Q (sZ r.p) (sZ ab) (aZ ob) w:=by
 obtain⟨hk,hA,hB⟩:=atD hmay F1;have ark:iF o.A:=by unfold iF;omega
 have amH:o.k≠1->o.k≠8->∃x m,y.cr=some x/\y.bQ.o=some m:=λh1 h8=>by
  have hne:=vp h1 h8;cases hc:y.cr with
  |none=>exact(hne hc).elim
  |some x=>
   obtain⟨_,⟨m,hm,_⟩,_⟩:=vu (ai s) hc;exact⟨x,m,rfl,hm⟩
 refine lI s 0 rfl (lI s 0 rfl (lI s 0 rfl (lS s 0 rfl ?_)));have s:=i_ s;have b25:∀{e:Value} {cd:Int} {w:World},GZ lg e cd->Q e w->fA Q e w:=λhe hq=>by exact acM he hq
 have e0:GZ lg .nilIface 0:=.inl ⟨rfl,rfl⟩;have fin:∀{q:gH×aaI} {r':Eh} {y':zE} {e:Value} {w:World},iG y.p o=q->r'.p=r.p->y'.p=q.1->GZ lg e q.2.code->q.2.GX=[]->q.2.gone=[]->Sep No W w (fW r' y'::av ob 38 [ae o.k,ae o.A,ae o.B,.slice a n c]::av ab 34 (Mk q.2.d q.2.dir q.2.id none 0 0 none 0 0)::L)->fA Q e w:=λ{q r' y' e w} eq er ey he hm hg s=>by subst eq;exact b25 he (W0 h er ey he hm hg (gB s (.cons_cons _ (List.sublist_cons_self _ _))))
 refine akc (λhk=>amH (by omega) (by omega)) s (λm ho hb w s=>?_) λhc w s=>?_
 ·refine Ro (acM (lg:=lg) (qY (by decide)) ?_);obtain⟨x,m',hx,hm'⟩:=amH (by omega) (by omega);rw[ho]at hm';cases hm';have e:iG y.p o=(y.p,pO 7):=by
   rw[ajr hx ho F1 hmay (by omega) (by omega)];unfold Mi;rcases hb with⟨k2,hA⟩|⟨k3,hAB⟩
   ·rw[if_pos k2,if_pos hA]
   ·rw[fQ,if_pos k3,if_pos hAB]
  rw[e]at h;exact W0 h rfl rfl (qY (by decide)) rfl rfl (gB s (.cons_cons _ (List.sublist_cons_self _ _)))
 apply Mg;apply lI s 1 rfl;by_cases k1:o.k=1
 ·rw[cV k1,cond_true];obtain⟨hh,oT⟩:=aww k1;apply lS s 1 rfl;have eq:∀q,(match kV o.m with|none=>(y.p,pO 6)|some mp=>(⟨y.p.most,ldP y.p.bQ mp,some ⟨y.p.most,0,[]⟩⟩,pO 0))=q->iG y.p o=q:=λq e=>by rw[iG,if_neg (by rw[hmay];simp[F1]),if_pos k1];exact e
  refine amE hL (λw' s'=>hM w' (ai (ai s'))) hn hr hh oT Yy s (λhg w s=>?_) λmp hg r' y' w er ey s=>?_
  ·exact fin (q:=(y.p,pO 6)) (eq _ (by rw[hg])) rfl rfl (qY (by decide)) rfl rfl s
  ·exact fin (eq _ (by rw[hg])) er ey e0 rfl rfl s
 rw[cy k1,cond_false];by_cases k8:o.k=8
 ·rw[cV k8,cond_true];have eq:iG y.p o=(⟨y.p.most,N8 y.p.bQ,y.p.us⟩,pO 0):=by rw[iG,if_neg (by rw[hmay];simp[F1]),if_neg k1,if_pos k8]
  cases Dp:y.cr with
  |none=>
   obtain⟨ok,hno,so⟩:=ajo s Dp;refine ah (lP so 0 rfl ?_);refine acs hno (i_ so) λnr x' w er ex s=>?_;have s:=gd (A:=[_,_]) (B:=[FH r.p (ae y.most) nr.p (.pointer none),_]) [1,0] s (by rw[er];rfl) (by decide);refine fin (r':=⟨r.p,nr,r.cr⟩) (y':=⟨y.most,⟨y.bQ.k,x',none,y.bQ.past⟩,none⟩) eq rfl ?_ e0 rfl rfl (afN s ok.most rfl);show gH.mk _ _ _=gH.mk _ _ _;rw[y.bQ.atA hno ex];show gH.mk _ _ _=gH.mk _ _ (y.cr.map _);rw[Dp];rfl
  |some x=>
   obtain⟨ok,⟨m,ho,hx⟩,so⟩:=vu s Dp;refine ah (lP so 0 rfl ?_);refine acq ho (i_ so) λnr x' w er ex s=>?_;have s:=gd (A:=[_,_,_]) (B:=[FH r.p (ae y.most) nr.p (.pointer (sZ r.cr.p)),_,_]) [1,0,2] s (by rw[er];rfl) (by decide);refine fin (r':=⟨r.p,nr,r.cr⟩) (y':=⟨y.most,⟨y.bQ.k,x',some ⟨m.g,m.ms,⟨none,m.f.fR⟩⟩,y.bQ.past⟩,some x⟩) eq rfl ?_ e0 rfl rfl (zT s ok.most rfl hx);show gH.mk _ _ _=gH.mk _ _ _;rw[y.bQ.aws ho ex];show gH.mk _ _ _=gH.mk _ _ (y.cr.map _);rw[Dp];rfl
 rw[cy k8,cond_false];obtain⟨x,m,Dp,ho⟩:=amH k1 k8;have lK:=ajr Dp ho F1 hmay k1 k8;have Hj:y.p.us=some x.y:=by show y.cr.map _=_;rw[Dp];rfl
 have Rm:=Rm x.y Hj;unfold Mi at lK;by_cases k2:o.k=2
 ·rw[cV k2,cond_true];rw[if_pos k2]at lK;have hAc:=(hc m ho).1 k2;rw[if_neg (λe=>e hAc)]at lK;refine lI s 1 rfl (lI s 1 rfl ?_);refine amF Dp ho hAc Yy s (λhb w s=>?_) (λhb hw w s=>?_) λhb hw r' y' w er ey s=>?_
  ·rw[if_pos hb]at lK;exact fin lK rfl rfl (qY (by decide)) rfl rfl s
  ·rw[fQ,if_pos hw]at lK;exact fin lK rfl rfl (qY (by decide)) rfl rfl s
  ·rw[fQ,if_neg hw]at lK;exact fin lK er ey e0 rfl rfl s
 rw[cy k2,cond_false];rw[if_neg k2]at lK;by_cases k3:o.k=3
 ·rw[cV k3,cond_true];rw[if_pos k3]at lK;have hAc:=(hc m ho).2 k3;rw[if_neg (λe=>e hAc)]at lK;refine lI s 1 rfl (lI s 1 rfl ?_);refine akd Dp ho Rm s (λh9 w s=>?_) (λh9 hb w s=>?_) λh9 hz r' y' w er ey s=>?_
  ·rw[if_pos h9]at lK;refine ah (sT s 2 rfl λw s=>?_);exact fin lK rfl rfl (qY (by decide)) rfl rfl s
  ·rw[if_neg h9,if_pos hb]at lK;refine ah (sT s 2 rfl λw s=>?_);exact fin lK rfl rfl (qY hb) rfl rfl s
  ·rw[if_neg h9,if_neg (λe=>e hz)]at lK;refine ah (sT s 2 rfl λw s=>?_);exact fin lK er ey e0 rfl rfl s
 rw[cy k3,cond_false];rw[if_neg k3]at lK;obtain⟨ok,⟨m',ho',hx⟩,so⟩:=vu s Dp;rw[ho]at ho';cases ho';have same:∀{w:World} {L:List As},Sep No W w (fU r.cr x::FH r.p (ae y.most) r.bQ.p (.pointer (sZ r.cr.p))::g8 r.bQ y.bQ::L)->Sep No W w (fW r y::L):=λs=>by
  have s:=Ie ok hx Dp ho ⟨rfl,rfl,rfl⟩ rfl s;have e:(⟨y.most,y.bQ,some x⟩:zE)=y:=by rw[<-Dp]
  rw[e]at s;exact s
 by_cases k4:o.k=4
 ·rw[cV k4,cond_true];rw[if_pos k4]at lK;have so:=ay so;refine ah (lP so 0 rfl (lI so 3 rfl (lI so 3 rfl ?_)));rw[<-hx.1,<-hx.2.1]at lK;refine S8 ark (pk 3 [2,0,1] so) (λhg w s=>?_) (λu hu hg w s=>?_) (λu hu hg hcg cr ws w ec s=>?_) λu hu hg hcg cr ws w ec s=>?_
  ·rw[hg]at lK;exact KJ (by decide) (fin lK rfl rfl (qY (by decide)) rfl rfl (same s))
  ·rw[hu]at lK;simp only at lK;rw[if_pos hg]at lK;exact KJ (by decide) (fin lK rfl rfl (qY (by decide)) rfl rfl (same s))
  ·rw[hu]at lK;simp only at lK;rw[if_neg (λe=>e hg),if_pos hcg]at lK;exact KJ (by decide) (fin (r':=⟨r.p,r.bQ,cr⟩) lK rfl rfl (qY (by decide)) rfl rfl (Ie (x':=⟨x.w,x.h,kU x.y o.A,ws⟩) ok hx Dp ho ⟨rfl,rfl,rfl⟩ ec s))
  ·rw[hu]at lK;simp only at lK;rw[if_neg (λe=>e hg),if_neg hcg]at lK;exact KI (fin (r':=⟨r.p,r.bQ,cr⟩) lK rfl rfl e0 rfl rfl (Ie (x':=⟨x.w,x.h,vO x.y o.A λu=>⟨u.id,u.cell,o.B⟩,ws⟩) ok hx Dp ho ⟨rfl,rfl,rfl⟩ ec s))
 rw[cy k4,cond_false];rw[if_neg k4]at lK;by_cases k5:o.k=5
 ·rw[cV k5,cond_true];rw[if_pos k5]at lK;have so:=ay so;refine ah (lP so 0 rfl (lI so 3 rfl ?_));refine UM ark (pk 3 [2,0,1] so) (λhg w s=>?_) λu hu cr ws w ec s=>?_
  ·rw[hg]at lK;exact KJ (by decide) (fin lK rfl rfl (qY (by decide)) rfl rfl (same s))
  ·rw[hu]at lK;exact KI (fin (r':=⟨r.p,r.bQ,cr⟩) lK rfl rfl e0 rfl rfl (Ie (x':=⟨x.w,x.h,kU x.y o.A,ws⟩) ok hx Dp ho ⟨rfl,rfl,rfl⟩ ec s))
 rw[cy k5,cond_false];rw[if_neg k5]at lK;by_cases k6:o.k=6
 ·rw[cV k6,cond_true];rw[if_pos k6]at lK;refine lI s 1 rfl (lI s 1 rfl ?_);have s:=pk 3 [0,2,1] s;refine ake hL Dp ho ark.wf s (λhn w s=>?_) λht hcB r' y' w er ey s=>?_
  ·rw[if_neg hn]at lK;exact fin lK rfl rfl (qY (by decide)) rfl rfl (pk 3 [0,2,1] s)
  ·rw[if_pos ⟨ht,hcB⟩]at lK;exact fin lK er ey e0 rfl rfl (pk 3 [0,2,1] s)
 rw[cy k6,cond_false];rw[if_neg k6]at lK;have k7:o.k=7:=by omega
 rw[cV k7,cond_true];have s:=pk 3 [0,2,1] s;refine amG hL Dp ho s λr' y' ma mn mc ga gn gc w er ey s=>?_;rw[lK]at h;exact b25 e0 (h r' y' _ ma mn mc ga gn gc w er ey e0 (pk 5 [0,1,2,3] s))
end
def aBT:zc T 34=[ae 0,ae 0,ae 0,ae 0,.slice none 0 0,.slice none 0 0,.int .u64 0,.int .u64 0,.int .u64 0,.int .u64 0,.int .u64 0,.int .u64 0]:=rfl
structure Ml (o:kW):Prop where
 jA:dZ o.m
 len:o.m.length<=1100000
 load:o.k=1->Eg o.m/\∀mp,kV o.m=some mp->mp.w*mp.h<=1600
structure amI (q:gH):Prop where
 ep:zS q.bQ<1000000000
 nx:∀u,q.us=some u->u.next<1000000000
section
variable {W w w0:World}{L:List As}{lg:xE}{r:Eh}{y:zE}{x:Hq}{m:j8}{ab:Nat}{o:kW}{a:Option Addr}{n c:Nat}
def ajt {Q:Value->World->Prop}(hL:iQ W lg)(ho:Ml o)(hM:∀w',Sep No W w' L->Sl w' a n c 1 bq o.m)(vX:amI y.p)(s:Sep No W w (fW r y::av ab 34 (Mk 0 5 (-1) none 0 0 none 0 0)::L))(h:DoK lg W r.p ab L Q (iG y.p o)):
  zW (sZ r.p) o.k o.A o.B a n c (sZ ab) w Q:=by
 apply Sz;have hMw:=hM w (ai (ai s));have hn:n<=1100000:=by have:=hMw.len;have:=ho.len;omega
 refine aN s λob w s=>?_;apply lI s 0 rfl;have e5:GZ lg (sR lg.a0) 5:=.inr (.inr ⟨rfl,rfl⟩);have v0:∀{w:World} {L:List As},Sep No W w L->w.cell? (aZ 0)=some (sR lg.a0):=λs=>Fr.cell (au s) hL.v0 id;have amJ:∀{w:World} {A B C:As} {L:List As},Sep No W w (A::B::C::L)->Sep No W w (B::C::L):=λs=>ai s;by_cases k0:o.k=0
 ·rw[cV k0,cond_true];have e:iG y.p o=(y.p,pO 5):=by unfold iG;grind
  rw[e]at h;exact mF (v0 s) rfl (acM e5 (W0 h rfl rfl e5 rfl rfl (amJ s)))
 rw[cy k0,cond_false];refine lI s 0 rfl (lI s 0 rfl (lI s 0 rfl (lS s 0 rfl ?_)));refine O.ah8 s (hM w (ai (ai (ai s)))) ho.jA (by omega) λw s _=>?_;cases hm:Du o with
 |false=>
  have e:iG y.p o=(y.p,pO 5):=by unfold iG;grind
  rw[e]at h;exact mF (v0 s) rfl (acM e5 (W0 h rfl rfl e5 rfl rfl (amJ s)))
 |true=>
  rw[Bool.not_true,cond_false];have b5:(o.k≠1->o.k≠8->y.cr≠none)->oE Q (sZ r.p) (sZ ab) (aZ ob) w:=λvp=>
   awv hL k0 hm ho.jA (by omega) hM ho.load vX.ep vX.nx vp s h
  cases Dp:y.cr with
  |none=>
   obtain⟨ok,hno,so⟩:=ajo (ai s) Dp;refine ah (lP so 0 rfl ?_);show cond true _ _;apply lI s 0 rfl;by_cases k1:o.k=1
   ·grind
   ·rw[Gl k1,cond_true];apply lI s 0 rfl;by_cases k8:o.k=8
    ·grind
    ·rw[Gl k8,cond_true];have e:iG y.p o=(y.p,pO 4):=by
      have e1:y.p.us=none:=by show y.cr.map _=none;rw[Dp];rfl
      unfold iG;grind
     rw[e]at h;exact W0 h rfl rfl (qY (by decide)) rfl rfl (amJ s)
  |some x=>
   obtain⟨ok,_,so⟩:=vu (ai s) Dp;refine ah (lP so 0 rfl ?_);show cond false _ _;exact b5 λ_ _ e=>by rw[Dp]at e;cases e
def acN {Q:Int->Int->Int->Int->Int->Int->World->Prop}(s:Sep No W w (fW r y::L))(h:∀w',Sep No W w' (fW r y::L)->Q (qv y.p.bQ).a (qv y.p.bQ).b (qv y.p.bQ).c (qv y.p.bQ).d (qv y.p.bQ).e (qv y.p.bQ).f w'):v9 (sZ r.p) w Q:=by apply Mx;refine aT s λp w s=>?_;obtain⟨ok,so⟩:=Ic (ai s);apply Fo;refine kX (ah (lP so 0 rfl ?_));obtain⟨_,so⟩:=Ic (i_ s);have so:=i_ so;refine acu so λw s=>?_;have s:=i_ s;have s:Sep No W w (fW r y::av p 32 _::L):=dA s ok;rw[y.bQ.all_eq];exact aiR (i_ s) λw s=>h w (ai s)
def TP {Q:Int->Int->Option Addr->Nat->Nat->World->Prop}(ho:y.bQ.o=some m)(s:Sep No W w (fW r y::L))(h:∀ra rn rc w',Sep No W w' (ak ra rn rc 5 1 (flat bq m.g.m.cs)::fW r y::L)->Fr No w w'->Q m.g.m.w m.g.m.h ra rn rc w'):n7 (sZ r.p) w Q:=by apply QK;refine aT (bh (F:=No)) λp w1 s1=>?_;obtain⟨ok,so⟩:=Ic s;have kn:=(qW (ai so) ho);have c1:=Fr.cell (au s1) (cM so (a:=(aZ r.p).add 1) (i:=0) rfl rfl rfl) id;apply Fo;refine kX (ah (dK c1 ?_));have kn1:aar w1 r.bQ y.bQ m:=⟨kn.ok,kn.o,kn.cell.fr (au s1),kn.g.fr (au s1)⟩;refine agI s1 kn1 λra rn rc w1 s1 _=>?_;refine aaG (i_ s1) λw1 s1=>?_;exact h ra rn rc w1 (fu s s1) (au s1)
def acO {Q:Option Addr->Nat->Nat->World->Prop}(vp:y.cr=some x)(s:Sep No W w (fW r y::L))(h:∀a n c w',Sep No W w' (ak a n c 43 3 (flat iy x.y.us)::fW r y::L)->Q a n c w'):v7 (sZ r.p) w Q:=by
 apply MW;obtain⟨ok,⟨m,ho,hx⟩,so⟩:=vu s vp;apply QF;refine kX (ah (lP so 0 rfl ?_));refine DQ (pk 3 [2,0,1] so) λa n c w s=>?_;have s:=zT (pk 4 [2,3,1,0] s) ok.most ho hx;have e:(⟨y.most,y.bQ,some x⟩:zE)=y:=by rw[<-vp]
 rw[e]at s;exact h a n c w (i_ s)
end
abbrev W1 (code d dir id:Int)(ma:Option Addr)(mn mc:Nat)(ga:Option Addr)(gn gc:Nat)(q:FE):List Value:=[ae code,ae d,ae dir,ae id,.slice ma mn mc,.slice ga gn gc]++aes q
section
variable {W w w0:World}{L:List As}{lg:xE}{r:Eh}{y:zE}{x:Hq}{m:j8}{ab pb:Nat}{o:kW}{a:Option Addr}{n c:Nat}
def awx {Q:Int->Int->Int->Int->Option Addr->Nat->Nat->Option Addr->Nat->Nat->Int->Int->Int->Int->Int->Int->World->Prop}{code d dir id:Int}{ma ga:Option Addr}{mn mc gn gc:Nat}
  (s:Sep No W w (fW r y::av ab 34 (W1 code d dir id ma mn mc ga gn gc ⟨0,0,0,0,0,0⟩)::av pb 34 (W1 0 0 0 0 none 0 0 none 0 0 ⟨0,0,0,0,0,0⟩)::L))
  (h:∀w',Sep No W w' (fW r y::L)->Q code d dir id ma mn mc ga gn gc (qv y.p.bQ).a (qv y.p.bQ).b (qv y.p.bQ).c (qv y.p.bQ).d (qv y.p.bQ).e (qv y.p.bQ).f w'):
  oF Q (sZ r.p) (aZ pb) (aZ ab) w:=by
 refine acN s λw s=>?_;generalize qv y.p.bQ=q at h⊢
 iterate 6 refine sT s 1 rfl λw s=>?_
 simp[List.set_cons_zero,List.set_cons_succ,W1,aes,List.cons_append,List.nil_append]at s;refine lI s 1 rfl (lI s 1 rfl (lI s 1 rfl (lI s 1 rfl (lS s 1 rfl (lS s 1 rfl ?_)))));refine lI s 1 rfl (lI s 1 rfl (lI s 1 rfl (lI s 1 rfl (lI s 1 rfl (lI s 1 rfl ?_)))))
 iterate 12 refine ax s (i:=2) rfl rfl rfl λw s=>?_
 simp[List.set_cons_zero,List.set_cons_succ]at s;refine lI s 2 rfl (lI s 2 rfl (lI s 2 rfl (lI s 2 rfl (lS s 2 rfl (lS s 2 rfl ?_)))));refine lI s 2 rfl (lI s 2 rfl (lI s 2 rfl (lI s 2 rfl (lI s 2 rfl (lI s 2 rfl ?_)))));exact h w (gB s (.cons_cons _ (.cons _ (.cons _ (List.Sublist.refl _)))))
def W2 {Q:Int->Int->Int->Int->Option Addr->Nat->Nat->Option Addr->Nat->Nat->Int->Int->Int->Int->Int->Int->World->Prop}(hL:iQ W lg)(ho:Ml o)(hM:∀w',Sep No W w' L->Sl w' a n c 1 bq o.m)(vX:amI y.p)(s:Sep No W w (fW r y::L))
  (h:∀r' y' ma mn mc ga gn gc w',r'.p=r.p->y'.p=(iG y.p o).1->Sep No W w' (ak ma mn mc 51 2 (flat lJ (iG y.p o).2.GX)::ak ga gn gc 3 1 (flat one (iG y.p o).2.gone)::fW r' y'::L)->
   Q (iG y.p o).2.code (iG y.p o).2.d (iG y.p o).2.dir (iG y.p o).2.id ma mn mc ga gn gc (qv y'.p.bQ).a (qv y'.p.bQ).b (qv y'.p.bQ).c (qv y'.p.bQ).d (qv y'.p.bQ).e (qv y'.p.bQ).f w'):
  ij (sZ r.p) o.k o.A o.B a n c w Q:=by
 apply SA;refine aN s λob w s=>?_;refine aT s λpb w s=>?_;refine aT s λab w s=>?_
 iterate 12 refine ax s (i:=0) rfl rfl rfl λw s=>?_
 apply kX;refine ax s (i:=0) rfl rfl rfl λw s=>?_;simp[List.set_cons_zero,List.set_cons_succ]at s;refine lI s 2 rfl (lI s 2 rfl (lI s 2 rfl (lS s 2 rfl ?_)));have s:=pk 4 [3,0,1,2] s;refine ajt hL ho (λw' s'=>hM w' (ai (ai s'))) vX s λr' y' e ma mn mc ga gn gc w er ey he s=>?_;rw[<-er];have asp:∀{w:World} {cd:Int},cd=(iG y.p o).2.code->Sep No W w (ak ma mn mc 51 2 (flat lJ (iG y.p o).2.GX)::ak ga gn gc 3 1 (flat one (iG y.p o).2.gone)::fW r' y'::av ab 34 (W1 cd (iG y.p o).2.d (iG y.p o).2.dir (iG y.p o).2.id ma mn mc ga gn gc ⟨0,0,0,0,0,0⟩)::av pb 34 (W1 0 0 0 0 none 0 0 none 0 0 ⟨0,0,0,0,0,0⟩)::L)->
   oF Q (sZ r'.p) (aZ pb) (aZ ab) w:=λ{w cd} ec s=>by
  subst ec;have s:=pk 5 [2,3,4,0,1] s;refine awx s λw s=>?_;exact h r' y' ma mn mc ga gn gc w er ey (pk 3 [1,2,0] s)
 have tell:∀{e:Value},GZ lg e (iG y.p o).2.code->(iG y.p o).2.code≠0->∀{w:World},Sep No W w (ak ma mn mc 51 2 (flat lJ (iG y.p o).2.GX)::ak ga gn gc 3 1 (flat one (iG y.p o).2.gone)::fW r' y'::av ab 34 (Mk (iG y.p o).2.d (iG y.p o).2.dir (iG y.p o).2.id ma mn mc ga gn gc)::av pb 34 (W1 0 0 0 0 none 0 0 none 0 0 ⟨0,0,0,0,0,0⟩)::av ob 38 [ae o.k,ae o.A,ae o.B,.slice a n c]::L)->
   af .i64 (aZ ob) w λk=>dV e λp=>Bx [ae k,p] 80 w λb w=>CG (.iface 78 (.pointer (some b))) w λr w=>St (aZ ab) (ae r) w λw=>oF Q (sZ r'.p) (aZ pb) (aZ ab) w:=λ{e} he hne {w} s=>by
  refine lI s 5 rfl (acM he ?_);refine aN s λb w s=>?_;refine amD hL he hne s λw s=>?_;refine ax s (i:=4) rfl rfl rfl λw s=>?_;exact asp rfl (pk 7 [1,2,3,4,5] s)
 rcases he with⟨h0,rfl⟩|⟨hne,rfl⟩|⟨h5,rfl⟩
 ·apply Mg;exact asp h0.symm (pk 6 [0,1,2,3,4] s)
 ·exact Ro (tell (.inr (.inl ⟨hne,rfl⟩)) hne s)
 ·exact Ro (tell (.inr (.inr ⟨h5,rfl⟩)) (by rw[h5];decide) s)
end
end Go.Proofs.YtmegplnmiepfbaaGreatDoor.S
namespace Go.Proofs.YtmegplnmiepfbaaGreatDoor.S.O
open Go.Sx
def Rp {w:World}{x:Int}{Q:Int->World->Prop}(hx:0<=x/\x<256)(h:Q (J_ x) w):qi x w Q:=by
 apply MZ;unfold J_ at h;refine⟨by decide,?_⟩;rw[Int.tmod_eq_emod_of_nonneg hx.1];by_cases h7:x%8=7
 ·grind
 ·rw[show(x%8==7)=false by grind,cond_false];rw[if_neg h7]at h;by_cases h1:x<160
  ·rw[bM h1];rw[if_pos h1]at h;refine⟨by decide,?_⟩;rw[Int.tmod_eq_emod_of_nonneg hx.1,wrap_u8 (by omega) (by omega)];exact h
  grind
def agY:zc T 25=[ae 0,ae 0,.slice none 0 0]:=rfl
def acP:zc T 84=[ae 0,ae 0,.slice none 0 0]:=rfl
def amK:zc T 38=[ae 0,ae 0,ae 0,.slice none 0 0]:=rfl
def agZ:zc T 90=[ae 0,ae 0,ae 0]:=rfl
attribute [local irreducible] af cD bw bg aA cu bZ St Bx Al App cH cA cz bX aL bD aq bU av ak aW mapA
def ak8 (a b:Int):Dr a b=min a b:=by unfold Dr;omega
section
variable {F:Nat->Prop}{W w w0:World}{L:List As}{a:Option Addr}{n c:Nat}{cs:List Int}
def amL {mw mh:Int}{Q:Bool->World->Prop}(hw:1<=mw/\mw<=1024)(hh:1<=mh/\mh<=1024)(h:Q true w):q9 mw mh w Q:=by apply D7;apply zq;rw[bM hw];apply zq;grind
def Ig {mw mh:Int}{Q:Int->Int->World->Prop}(hw:1<=mw/\mw<=1024)(hh:1<=mh/\mh<=1024)(h:Q (cR mw) (cR mh) w):kM mw mh w Q:=by apply JI;apply amL hw hh;refine⟨by decide,by decide,?_⟩;simp(disch:=omega) only[wrap_i64,Int.tdiv_eq_ediv_of_nonneg];rw[show mw+16-1=mw+15 by omega,show mh+16-1=mh+15 by omega];exact h
def Mn {mw mh:Int}{Q:Int->World->Prop}(hw:1<=mw/\mw<=1024)(hh:1<=mh/\mh<=1024)(h:Q (eI mw mh) w):o6 mw mh w Q:=by apply Lt;apply Ig hw hh;have:=gM hw hh;unfold eI at this h;rw[aG];exact h
def YQ {mw mh s:Int}{Q:Int->Int->World->Prop}(hw:1<=mw/\mw<=1024)(hh:1<=mh/\mh<=1024)(hs:0<=s/\s<eI mw mh)(h:∀w',Fr No w w'->Q (aD mw mh s) (bz mw mh s) w'):qj mw mh s w Q:=by apply MT;have hc:=gM hw hh;have hx:=IM hw hh hs;have ha:=Fa hw;apply Mn hw hh;rw[aG];apply zq;rw[decide_eq_true (by omega),Bool.not_true,cond_false];apply Ig hw hh;refine⟨by omega,by omega,?_⟩;have:=h w.drew (Fr.refl);rw[Int.tmod_eq_emod_of_nonneg hs.1,Int.tdiv_eq_ediv_of_nonneg hs.1];simp(disch:=omega) only[wrap_i64];rw[ak8,ak8];exact this
def agJ {mw mh s l:Int}{Q:Int->World->Prop}(hw:1<=mw/\mw<=1024)(hh:1<=mh/\mh<=1024)(hs:0<=s/\s<eI mw mh)(hl:0<=l/\l<aD mw mh s*bz mw mh s)(h:∀w',Fr No w w'->Q (bY mw mh s l) w'):
  tO mw mh s l w Q:=by
 apply Kl;have hx:=IM hw hh hs;have ha:=Fa hw;have hz:=qK hw hh hs;have b:=Int.mul_le_mul hz.1.2 hz.2.2 (by omega) (by decide);refine YQ hw hh hs λw f=>?_;rw[aG (n:=aD mw mh s*bz mw mh s),aG];apply zq;rw[decide_eq_true (by omega),Bool.not_true,cond_false];apply Ig hw hh;refine⟨by omega,by omega,by omega,by omega,?_⟩;have:=h w.drew f;have e1:0<=l/aD mw mh s/\l/aD mw mh s<bz mw mh s:=⟨Int.ediv_nonneg hl.1 (by omega),Int.ediv_lt_of_lt_mul (by omega) (by grind)⟩;have e2:=Int.emod_nonneg l (b:=aD mw mh s) (by omega);have e3:=Int.emod_lt_of_pos l (b:=aD mw mh s) (by omega);rw[Int.tmod_eq_emod_of_nonneg hs.1,Int.tdiv_eq_ediv_of_nonneg hs.1,Int.tmod_eq_emod_of_nonneg hl.1,Int.tdiv_eq_ediv_of_nonneg hl.1];have y0:0<=16*(s/cR mw)+l/aD mw mh s/\16*(s/cR mw)+l/aD mw mh s<=1040:=by omega
 have m1:0<=(16*(s/cR mw)+l/aD mw mh s)*mw:=Int.mul_nonneg y0.1 (by omega);have m2:=Int.mul_le_mul y0.2 hw.2 (by omega) (by decide);simp(disch:=omega) only[wrap_i64];exact this
def amM {mw mh:Int}{t6 t:Nat}{Q:Int->Int->Option Addr->Nat->Nat->World->Prop}(hA:Sl w0 a n c 1 bq cs)(hcs:dZ cs)(hn:n<9223372036854775808)(hw:1<=mw/\mw<=40)(hh:1<=mh/\mh<=40)
  (h:∀ra rn rc w',Sep No w0 w' [ak ra rn rc 5 1 (flat bq (Nh (mw*mh).toNat cs))]->Q mw mh ra rn rc w'):
  ∀(m i rc:Nat) (ra:Option Addr) (w:World),((i+m:Nat):Int)=mw*mh->
   Sep No w0 w [av t 25 [ae mw,ae mh,.slice ra i rc],ak ra i rc 5 1 (flat bq (Nh i cs)),av t6 25 [ae 0,ae 0,.slice none 0 0]]->jS Q (m+1) a n c (aZ t6) (aZ t) i w:=by
 have q2:=Int.mul_le_mul hw.2 hh.2 (by omega) (by decide);have hlen:=hA.len;intro m;induction m with
 |zero=>
  intro i rc ra w hi s;show zp Q (jS Q 0) _ _ _ _ _ _ _;apply dx s (i:=0) rfl rfl rfl;apply dx s (i:=0) rfl rfl rfl;rw[aG,bp];apply dx s (i:=0) rfl rfl rfl;apply dx s (i:=0) rfl rfl rfl;apply gT s (i:=0) rfl rfl rfl;refine sT s 2 rfl λw1 s=>?_;refine sT s 2 rfl λw2 s=>?_;refine ax s (i:=2) rfl rfl rfl λw3 s=>?_;apply dx s (i:=2) rfl rfl rfl;apply dx s (i:=2) rfl rfl rfl;apply gT s (i:=2) rfl rfl rfl;have e:i=(mw*mh).toNat:=by omega
  rw[e]at s⊢;exact h _ _ _ w3 (gB s (.cons _ (.cons_cons _ (.cons _ .slnil))))
 |succ m ih=>
  intro i rc ra w hi s;show zp Q (jS Q (m+1)) _ _ _ _ _ _ _;apply dx s (i:=0) rfl rfl rfl;apply dx s (i:=0) rfl rfl rfl;rw[aG,bM];have b9:∀x:Int,0<=x/\x<256->J_ x=FW cs i->sA (jS Q (m+1)) Q a n c (aZ t6) (aZ t) i x w:=by
   intro x hx hm;have s0:Sep No w0 w.drew _:=s;apply gT s0 (i:=0) rfl rfl rfl;apply Rp hx;rw[hm];refine⟨cM s0 (i:=0) rfl rfl rfl,?_⟩;refine aN s0 λb w1 s1=>?_;refine⟨cM s1 (i:=1) rfl rfl rfl,?_⟩;have src:Src w1 (sZ b) 1 1 [.int .u8 (FW cs i)]:=⟨rfl,(λu hu=>by rw[List.mem_singleton.1 hu];rfl),λj u hj=>by rw[cq,Nat.zero_add];exact cM s1 (i:=0) rfl rfl hj⟩;refine ig ee s1 (i:=2) (bytes:=1) rfl rfl rfl rfl rfl rfl (by decide) rfl src (by simp[maxLen];omega) (by omega) (λe=>by cases e) λa1 c1 w2 s2=>?_;have e:flat bq (Nh i cs)++[.int .u8 (FW cs i)]=flat bq (Nh (i+1) cs):=by unfold Nh;rw[List.range_succ,List.map_append,fX];rfl
   have s2:=ai s2;refine ax s2 (i:=0) rfl rfl rfl λw3 s3=>?_;rw[aG];grind
  by_cases O8:0<n
  ·rw[bM];refine⟨by omega,by omega,?_⟩;have d1:0<=(i:Int)/(n:Int):=Int.ediv_nonneg (by omega) (by omega);have d2:(i:Int)/(n:Int)<=i:=Int.ediv_le_self _ (by omega);rw[Int.tdiv_eq_ediv_of_nonneg (by omega),aG (n:=(i:Int)/(n:Int)),aG (n:=(i:Int)/(n:Int)*5),aG,Int.tmod_eq_emod_of_nonneg (by omega)];have ej:((i:Int)+(i:Int)/(n:Int)*5)%(n:Int)=(((i+i/n*5)%n:Nat):Int):=by grind
   rw[ej];have hj:(i+i/n*5)%n<n:=Nat.mod_lt _ O8;apply Sl.AD (hA.fr (au s)) rfl hj;apply b9 _ (hcs _ (ff (by omega)));unfold FW;grind
  ·rw[bp];apply b9 1 (by decide);unfold FW;grind
def YR {w1 h1:Int}{Q:Int->Int->Option Addr->Nat->Nat->World->Prop}(s:Sep F W w0 L)(hA:Sl w0 a n c 1 bq cs)(hcs:dZ cs)(hn:n<9223372036854775808)
  (h:∀ra rn rc w',Sep F W w' (ak ra rn rc 5 1 (flat bq (vv w1 h1 cs).cs)::L)->Fr No w0 w'->Q (vv w1 h1 cs).w (vv w1 h1 cs).h ra rn rc w'):qh w1 h1 a n c w0 Q:=by
 apply M0;refine aT (F:=No) bh λt6 w1' s1=>?_;apply bT (by decide) (by decide) (by decide);have r1:=j9 (n:=w1) (lo:=1) (hi:=40) (by decide);apply bT (by decide) (by decide) (by decide);have r2:=j9 (n:=h1) (lo:=1) (hi:=40) (by decide);refine aT s1 λt w2 s2=>?_;refine sT s2 0 rfl λw3 s=>?_;refine sT s 0 rfl λw4 s=>?_;refine ax s (i:=0) rfl rfl rfl λw5 s5=>?_;have s6:=ck (bE s5 5 1) (List.Perm.swap ..);have q1:=Int.mul_le_mul r1.1 r2.1 (by decide) (by omega);refine⟨(gf w1 1 40*gf h1 1 40).toNat+1,amM hA hcs hn r1 r2 (λra rn rc w' s'=>?_) _ 0 0 none w5 (by omega) s6⟩;exact h ra rn rc w' (dD ‹Sep F W w0 L› s' (i:=0) rfl) (au s')
def agK {m:bJ}{si:Nat}{Q:Int->Int->Option Addr->Nat->Nat->World->Prop}(s0:Sep F W w0 L)(hA:Sl w0 a n c 1 bq m.cs)(hm:cP m)(hs:(si:Int)<eI m.w m.h)
  (h:∀ra rn rc w',Sep F W w' (ak ra rn rc 5 1 (flat bq (qf m si))::L)->Fr No w0 w'->Q (aD m.w m.h si) (bz m.w m.h si) ra rn rc w'):tK m.w m.h a n c si w0 Q:=by
 apply Km;have Tz:0<=(si:Int)/\(si:Int)<eI m.w m.h:=⟨by omega,hs⟩;have hz:=qK hm.w hm.h Tz;have b1:=Int.mul_le_mul hz.1.1 hz.2.1 (by decide) (by omega);have b2:=Int.mul_le_mul hz.1.2 hz.2.2 (by omega) (by decide);have hlen:=hA.len;have hml:=hm.len;have s:=bh (F:=No) (w:=w0);refine aN s λmb w s=>?_;refine aT s λp4 w s=>?_;apply lI s 1 rfl;apply lI s 1 rfl;refine YQ hm.w hm.h Tz λw f=>?_;have s:=bR s f;refine aT s λt w s=>?_;refine sT s 0 rfl λw s=>?_;refine sT s 0 rfl λw s=>?_;refine ax s (i:=0) rfl rfl rfl λw s=>?_;have loop:∀(k i rc:Nat) (ra:Option Addr) (w:World),((i+k:Nat):Int)=aD m.w m.h si*bz m.w m.h si->
   Sep No w0 w [ak ra i rc 5 1 (flat bq ((List.range i).map λl:Nat=>gi m.cs (bY m.w m.h si l).toNat)),av t 84 [ae (aD m.w m.h si),ae (bz m.w m.h si),.slice ra i rc],av p4 84 [ae 0,ae 0,.slice none 0 0],av mb 25 [ae m.w,ae m.h,.slice a n c]]->
   ku Q (k+1) si (aZ mb) (aZ p4) (aD m.w m.h si) (bz m.w m.h si) (aZ t) i w:=by
  intro k;induction k with
  |zero=>
   intro i rc ra w hi s;show mZ Q (ku Q 0) _ _ _ _ _ _ _ _;rw[mZ,aG,bp];apply lI s 1 rfl;apply lI s 1 rfl;apply lS s 1 rfl
   (refine ax s (i:=2) rfl rfl rfl λw s=>?_)
   (refine ax s (i:=2) rfl rfl rfl λw s=>?_)
   (refine ax s (i:=2) rfl rfl rfl λw s=>?_)
   apply lI s 2 rfl;apply lI s 2 rfl;apply lS s 2 rfl;have e:i=(aD m.w m.h si*bz m.w m.h si).toNat:=by omega
   have e2:((List.range i).map λl:Nat=>gi m.cs (bY m.w m.h si l).toNat)=qf m si:=by unfold qf;rw[e]
   rw[e2]at s;exact h _ _ _ _ (dD s0 s (i:=0) rfl) (au s)
  |succ k ih=>
   intro i rc ra w hi s;show mZ Q (ku Q (k+1)) _ _ _ _ _ _ _ _;rw[mZ,aG,bM];have s:=ay s;have hl:0<=(i:Int)/\(i:Int)<aD m.w m.h si*bz m.w m.h si:=by omega
   have hg:=FX hm.w hm.h Tz hl;apply lS s 1 rfl;apply lS s 3 rfl;apply lI s 3 rfl;apply lI s 3 rfl;refine agJ hm.w hm.h Tz hl λw f=>?_;have s:=bR s f;apply And.intro (cg s 3 rfl);apply And.intro (cg s 1 rfl);obtain⟨g,hgk⟩:∃g:Nat,bY m.w m.h si i=g:=⟨(bY m.w m.h si i).toNat,by omega⟩;have heq:gi m.cs g=gi m.cs (bY m.w m.h si i).toNat:=by rw[hgk,Int.toNat_natCast]
   rw[hgk];apply Sl.AD (hA.fr (au s)) rfl (by omega);refine aN s λb w1 s1=>?_;refine⟨cg s1 2 rfl,?_⟩;have src:Src w1 (sZ b) 1 1 [.int .u8 (gi m.cs g)]:=⟨rfl,(λu hu=>by rw[List.mem_singleton.1 hu];rfl),λj u hj=>by rw[cq,Nat.zero_add];exact cM s1 (i:=0) rfl rfl hj⟩;refine ig ee s1 (i:=1) (bytes:=1) rfl rfl rfl rfl rfl rfl (by decide) rfl src (by simp[maxLen];omega) (by omega) (λe=>by cases e) λa1 c1 w2 s2=>?_;have e:flat bq ((List.range i).map λl:Nat=>gi m.cs (bY m.w m.h si l).toNat)++[.int .u8 (gi m.cs g)]=flat bq ((List.range (i+1)).map λl:Nat=>gi m.cs (bY m.w m.h si l).toNat):=by rw[heq,List.range_succ,List.map_append,fX];rfl
   rw[e]at s2;refine ax (ai s2) (i:=1) rfl rfl rfl λw3 s3=>?_;rw[aG];exact ih (i+1) c1 a1 w3 (by omega) s3
 exact⟨(aD m.w m.h si*bz m.w m.h si).toNat+1,loop _ 0 0 none w (by omega) (bE s 5 1)⟩
def akf {Q:Option Addr->Nat->Nat->World->Prop}(s0:Sep F W w0 L)(hA:Sl w0 a n c 1 bq cs)(hcs:dZ cs)(hn:n<=100000)
  (h:∀ra rn rc w',Sep F W w' (ak ra rn rc 5 1 (flat bq (tH cs))::L)->Fr No w0 w'->Q ra rn rc w'):wj a n c w0 Q:=by
 apply MS;have hlen:=hA.len;refine aN (bh (F:=No)) λb w s=>?_;have s:=arP s;have inner:∀(P3:Option Addr->Nat->Nat->Option Addr->Nat->Nat->Int->World->Prop) (x:Int) (i:Nat) (oa:Option Addr) (on oc:Nat) (out:List Int),cs[i]? =some x->on<=1000000->
   (∀a' c' w',Sep No w0 w' [ak a' (on+2) c' 5 1 (flat bq (out++[((lead x (cs.drop (i+1)):Nat):Int)%256,x]))]->P3 a n c a' (on+2) c' ((i+1+lead x (cs.drop (i+1)):Nat):Int) w')->
   ∀(k r:Nat) (w:World),i+1+r+k=n->lead x (cs.drop (i+1))=r+lead x (cs.drop (i+1+r))->Sep No w0 w [ak oa on oc 5 1 (flat bq out)]->lY P3 Q (k+1) a n c oa on oc i ((r+1:Nat):Int) w:=by
  intro P3 x i oa on oc out hx Cj next
  have hix:i<n:=by grind
  have hgx:gi cs i=x:=by rw[iz (by omega)]at hx;grind
  have over:∀(r:Nat) (w:World),i+1+r<=n->lead x (cs.drop (i+1))=r->Sep No w0 w [ak oa on oc 5 1 (flat bq out)]->sy P3 Q a n c oa on oc i ((r+1:Nat):Int) w:=by
   intro r w hr hl s;apply Sl.AD (hA.fr (au s)) rfl hix;rw[hgx,aG,aG,wrap_u8'];refine aN s λb w s=>?_;have e0:((r+1:Nat):Int)-1=(r:Int):=by omega
   rw[e0]at s;have src:Src w (sZ b) 2 1 [.int .u8 ((r:Int)%256),.int .u8 x]:=⟨rfl,(λu hu=>by simp[List.mem_cons,List.not_mem_nil,or_false]at hu;rcases hu with rfl|rfl<;>rfl),λj u hj=>by rw[cq,Nat.zero_add];exact cM s (i:=0) rfl rfl hj⟩;refine ig ee s (i:=1) (bytes:=1) rfl rfl rfl rfl rfl rfl (by decide) rfl src (by simp[maxLen];omega) (by omega) (λe=>by cases e) λa1 c1 w1 s1=>?_;have e:flat bq out++[.int .u8 ((r:Int)%256),.int .u8 x]=flat bq (out++[(r:Int)%256,x]):=by rw[fX];rfl
   rw[e]at s1;rw[hl]at next
   have:=next a1 c1 w1 (ai s1)
   grind
  intro k;induction k with
  |zero=>
   intro r w hr hl s;show oG P3 Q (lY P3 Q 0) _ _ _ _ _ _ _ _ _;rw[oG,aG,bp];have e:cs.drop (i+1+r)=[]:=List.drop_eq_nil_of_le (by omega);rw[e]at hl
   first|exact over r w (by omega) hl s|exact over r _ (by omega) hl (ay s)
  |succ k ih=>
   intro r w hr hl s;show oG P3 Q (lY P3 Q (k+1)) _ _ _ _ _ _ _ _ _;unfold oG;have ei:(i:Int)+((r+1:Nat):Int)=((i+1+r:Nat):Int):=by push_cast;omega
   rw[aG,bM,ei];have s:=ay s;have hB:=hA.fr (au s);apply Sl.AD hB rfl (by omega);apply Sl.AD hB rfl hix;have hd:cs.drop (i+1+r)=gi cs (i+1+r)::cs.drop (i+1+r+1):=by rw[List.drop_eq_getElem_cons (by omega)];congr 1;have:=iz (l:=cs) (i:=i+1+r) (by omega);rw[List.getElem?_eq_getElem (by omega)]at this;exact Option.some.inj this
   rw[hd,lead]at hl;rw[hgx];by_cases he:gi cs (i+1+r)=x
   ·rw[show(gi cs (i+1+r)==x)=true by rw[beq_iff_eq];exact he,cond_true,aG];rw[if_pos he]at hl;have:=ih (r+1) w.drew (by omega) (by rw[show i+1+(r+1)=i+1+r+1 by omega];omega) s;exact this
   ·rw[show(gi cs (i+1+r)==x)=false by rw[beq_eq_false_iff_ne];exact he,cond_false];rw[if_neg he]at hl;exact over r _ (by omega) hl s
 have outer:∀(k i:Nat) (oa:Option Addr) (on oc:Nat) (out:List Int) (w:World),n-i<=k->i<=n->on<=1+2*i->out++lC (n-i) (cs.drop i)=tH cs->Sep No w0 w [ak oa on oc 5 1 (flat bq out)]->oI Q (k+1) a n c oa on oc i w:=by
  have stop:∀R (oa:Option Addr) (on oc:Nat) (out:List Int) (w:World),out++lC (n-n) (cs.drop n)=tH cs->Sep No w0 w [ak oa on oc 5 1 (flat bq out)]->oH Q R a n c oa on oc n w:=by intro R oa on oc out w he s;rw[oH,bp];rw[List.drop_eq_nil_of_le (by omega),Nat.sub_self,lC,List.append_nil]at he;rw[he]at s;exact h _ _ _ _ (dD s0 s (i:=0) rfl) (au s)
  intro k;induction k with
  |zero=>
   intro i oa on oc out w hk hi Cj he s;obtain rfl:i=n:=by omega
   exact stop _ _ _ _ _ _ he s
  |succ k ih=>
   intro i oa on oc out w hk hi Cj he s;by_cases hin:i=n
   ·subst hin;exact stop _ _ _ _ _ _ he s
   ·show oH Q (oI Q (k+1)) _ _ _ _ _ _ _ _;rw[oH,bM];have hx:cs[i]? =some (gi cs i):=iz (by omega);have hd:cs.drop i=gi cs i::cs.drop (i+1):=by obtain⟨h1,h2⟩:=List.getElem?_eq_some_iff.1 hx;rw[List.drop_eq_getElem_cons h1,h2]
    have NJ:=Pe (gi cs i) (cs.drop (i+1));rw[List.length_drop]at NJ;refine⟨n-(i+1)+1,inner _ (gi cs i) i oa on oc out hx (by omega) (λa' c' w' s'=>?_) (n-(i+1)) 0 w (by omega) (by rw[Nat.zero_add]) s⟩;refine ih (i+1+lead (gi cs i) (cs.drop (i+1))) a' (on+2) c' _ w' (by omega) (by omega) (by omega) ?_ s';rw[<-he,hd,show n-i=(n-(i+1))+1 by omega,lC,List.append_assoc,List.drop_drop];congr 1;show _::_::_=_::_::_;congr 2;exact ahE _ _ _ (by rw[List.length_drop];omega) (by rw[List.length_drop];omega)
 exact⟨n+1,outer n 0 _ 1 1 [2] w (by omega) (by omega) (by omega) (by rw[List.drop_zero,Nat.sub_zero,<-hlen];rfl) s⟩
end
end Go.Proofs.YtmegplnmiepfbaaGreatDoor.S.O
namespace Go.Proofs.YtmegplnmiepfbaaGreatDoor.S.O
open Go.Sx
attribute [local irreducible] af cD bw bg aA cu bZ St Bx Al App cH cA cz bX aL bD aq bU av ak aW mapA
section
variable {F:Nat->Prop}{W w w0:World}{L:List As}{a:Option Addr}{n c:Nat}{cs:List Int}
def aeF {tw th:Int}{Q:Int->Option Addr->Nat->Nat->World->Prop}(s0:Sep F W w0 L)(hA:Sl w0 a n c 1 bq cs)(hcs:dZ cs)(hn:1<=n/\n<=100000)
  (h:∀ra rn rc w',Sep F W w' (ak ra rn rc 5 1 (flat bq (tI cs).2)::L)->Fr No w0 w'->Q (tI cs).1 ra rn rc w'):sJ tw th a n c w0 Q:=by
 apply JJ;have hlen:=hA.len;refine aN (bh (F:=No)) λtb w s=>?_;apply lS s 0 rfl;refine akf s (hA.fr (au s)) hcs hn.2 λra rn rc w s _=>?_;have hr:=aO s (i:=0) rfl cY (by decide);have hrl:=hr.len;unfold tI at h;by_cases h3:(tH cs).length=3
 ·rw[show((rn:Int)==3)=true by grind,cond_true];rw[if_pos h3]at h;have s:=ay s;apply lS s 1 rfl;obtain⟨ad,rfl,hv⟩:=hA.row.2 0 _ (iz (by omega));have hv:=hv 0 _ rfl;refine⟨by decide,by omega,ah ?_⟩;apply aR (Fr.cell (au s) hv id);have fin:∀(b:Nat) (w':World) (L':List As),Sep No w0 w' (av b 5 [.int .u8 0,.int .u8 (gi cs 0)]::L')->Q 0 (sZ b) 2 2 w':=λb w' L' s=>by have s:=gX (n:=2) (size:=1) s (i:=0) rfl rfl (by decide) (by simp;exact⟨rfl,rfl⟩);have s:=s;exact h _ _ _ _ (dD s0 s (i:=0) rfl) (au s)
  constructor
  ·refine aN s λb w s=>?_;exact⟨Fr.cell (au s) hv id,cg s 2 rfl,fin _ _ _ s⟩
  ·refine⟨Fr.cell (au s) hv id,cg s 1 rfl,?_⟩;refine aN s λb w s=>?_;grind
 ·rw[show((rn:Int)==3)=false by grind,cond_false];rw[if_neg h3]at h;apply lS s 1 rfl;rw[aG];by_cases h4:(tH cs).length<1+cs.length
  ·rw[bM];rw[if_pos h4]at h;exact h _ _ _ _ (dD s0 s (i:=0) rfl) (au s)
  ·rw[bp];rw[if_neg h4]at h;refine aN s λb w s=>?_;have s:=arP s;apply lS s 2 rfl;refine alB s (hA.fr (au s)) (by omega) λra rc w s=>?_;exact h _ _ _ _ (dD s0 s (i:=0) rfl) (au s)
def JQ {m:bJ}{Q:Option Addr->Nat->Nat->World->Prop}(s0:Sep F W w0 L)(hA:Sl w0 a n c 1 bq m.cs)(hm:cP m)
  (h:∀ra rn rc w',Sep F W w' (ak ra rn rc 5 1 (flat bq (yG m))::L)->Fr No w0 w'->Q ra rn rc w'):lE m.w m.h a n c w0 Q:=by
 apply Kn;have hc:=gM hm.w hm.h;refine aN (bh (F:=No)) λmb w s=>?_;apply lI s 0 rfl;apply lI s 0 rfl;refine⟨by decide,?_⟩;apply lI s 0 rfl;apply lI s 0 rfl;refine⟨by decide,?_⟩;have e8:∀v:Int,oW .i64 v 8=v/256:=λv=>by rw[oW,show min (8:Int).toNat (IntKind.i64).bits=8 by decide,Int.fdiv_eq_ediv_of_nonneg _ (by decide)];rfl
 rw[e8,e8,wrap_u8',wrap_u8',wrap_u8',wrap_u8'];refine aN s λhb w s=>?_;have s:=gX (n:=4) (size:=1) s (i:=0) rfl rfl (by decide) (by simp;exact⟨rfl,rfl,rfl,rfl⟩);have s:=s;have loop:∀(k i:Nat) (ba:Option Addr) (bn bc:Nat) (w:World),((i+k:Nat):Int)=eI m.w m.h->bn<=4+258*i->
   Sep No w0 w [ak ba bn bc 5 1 (flat bq ([m.w%256,m.w/256%256,m.h%256,m.h/256%256]++IN m i)),av mb 25 [ae m.w,ae m.h,.slice a n c]]->kz Q (k+1) (aZ mb) ba bn bc i w:=by
  intro k;induction k with
  |zero=>
   intro i ba bn bc w hi FG s;show wD Q (kz Q 0) _ _ _ _ _ _;apply lI s 1 rfl;apply lI s 1 rfl;apply Mn hm.w hm.h;rw[bp];have e:i=(eI m.w m.h).toNat:=by omega
   rw[e]at s;exact h _ _ _ _ (dD s0 s (i:=0) rfl) (au s)
  |succ k ih=>
   intro i ba bn bc w hi FG s;show wD Q (kz Q (k+1)) _ _ _ _ _ _;have Tz:0<=(i:Int)/\(i:Int)<eI m.w m.h:=by omega
   have htl:=U_ hm Tz;have htr:=U9 hm Tz;apply lI s 1 rfl;apply lI s 1 rfl;apply Mn hm.w hm.h;rw[bM];apply lI s 1 rfl;apply lI s 1 rfl;apply lS s 1 rfl;refine agK s (hA.fr (au s)) hm (by omega) λra rn rc w s _=>?_;have ht:=aO s (i:=0) rfl cY (by decide);have QN:=ht.len;refine aeF s ht (λx hx=>by grind) (by omega) λpa pn pc w s _=>?_;have hp:=aO s (i:=0) rfl cY (by decide);have hpn:=hp.len;have IE:=ahG (cs:=qf m i);have s:=cf (L':=[_,_,_,_]) [2,3,0,1] s rfl (by decide);refine alB s (aO s (i:=2) rfl cY (by decide)) (by omega) λra rc w s=>?_;rw[aG];have s:=cf (L':=[_,_]) [0,1] s rfl (by decide);rw[List.append_assoc,<-Yt]at s;grind
 exact⟨(eI m.w m.h).toNat+1,loop _ 0 _ 4 4 w (by omega) (by omega) s⟩
attribute [local irreducible] iS in
theorem amN {x:xJ}{nn:Int}{Q:Int->Int->Int->Option Addr->Nat->Nat->World->Prop}(s0:Sep F W w0 L)(hn:1<=nn/\nn<=2000000)
  (h:∀ra rn rc w',Sep F W w' (ak ra rn rc 5 1 (flat bq (KV x nn).m)::L)->Fr No w0 w'->Q (KV x nn).k (KV x nn).A (KV x nn).B ra rn rc w'):v_ x.k x.a x.b nn w0 Q:=by
 apply M1;have h3:=j9 (n:=x.a) (lo:=0) (hi:=1) (by decide);have h4:=j9 (n:=x.a) (lo:=0) (hi:=5) (by decide);have hb2:∀(w:World) (ob xb pb:Nat) (L':List As) (is:List Nat) (L3:List As),is.Nodup->is.map (λi=>L'[i]?)=[some (av ob 38 [ae (gf x.b 1 6),ae (nn+gf x.a 0 5),ae (gf x.a 0 9),.slice none 0 0]),some (av pb 38 [ae 0,ae 0,ae 0,.slice none 0 0]),some (av xb 90 [ae x.k,ae x.a,ae x.b])]->
   Sep No w0 w L'->iS Q nn (aZ xb) (aZ pb) (aZ ob) w:=by
  intro w ob xb pb L' is L3 hnd hpk s;have s:=cf (L':=[_,_,_]) is s hpk hnd;unfold iS;unfold KV at h;apply lI s 0 rfl;by_cases k1:gf x.b 1 6=1
  ·rw[show(gf x.b 1 6==1)=true by rw[beq_iff_eq];exact k1,cond_true];rw[if_pos k1]at h;rw[k1]at s;have s:=ay s;have fin:∀(w:World) (b2:Nat) (L2:List As) (is:List Nat),is.Nodup->is.map (λi=>L2[i]?)=[some (av b2 5 [.int .u8 2,.int .u8 0,.int .u8 1,.int .u8 0,.int .u8 1,.int .u8 (x.a%256),.int .u8 (x.b%256)])]->Sep No w0 w L2->Q 1 0 0 (sZ b2) 7 7 w:=by intro w b2 L2 is hnd hpk s;have s:=cf (L':=[_]) is s hpk hnd;have s:=gX (n:=7) (size:=1) s (i:=0) rfl rfl (by decide) (λu hu=>by simp[List.mem_cons,List.not_mem_nil,or_false]at hu;rcases hu with rfl|rfl|rfl|rfl|rfl|rfl|rfl<;>rfl);have s:=s;exact h _ _ _ _ (dD s0 s (i:=0) rfl) (au s)
   apply lI s 2 rfl;apply lI s 2 rfl;refine And.intro ?_ ?_;refine aN s λb w s=>?_
   (refine ax s (i:=1) rfl rfl rfl λw s=>?_)
   apply And.intro (cg s 3 rfl);apply And.intro (cg s 3 rfl)
   (refine ax s (i:=1) rfl rfl rfl λw s=>?_)
   apply And.intro (cg s 3 rfl);apply And.intro (cg s 3 rfl)
   (refine ax s (i:=1) rfl rfl rfl λw s=>?_)
   apply lI s 1 rfl;apply lI s 1 rfl;apply lI s 1 rfl;apply lS s 1 rfl
   (refine ax s (i:=2) rfl rfl rfl λw s=>?_)
   (refine ax s (i:=2) rfl rfl rfl λw s=>?_)
   (refine ax s (i:=2) rfl rfl rfl λw s=>?_)
   (refine ax s (i:=2) rfl rfl rfl λw s=>?_)
   apply lI s 2 rfl;apply lI s 2 rfl;apply lI s 2 rfl;apply lS s 2 rfl;exact fin _ _ _ [0] (by decide) rfl s
   (refine ax s (i:=0) rfl rfl rfl λw s=>?_)
   apply And.intro (cg s 2 rfl);apply And.intro (cg s 2 rfl);refine And.intro ?_ ?_;refine aN s λb w s=>?_
   (refine ax s (i:=1) rfl rfl rfl λw s=>?_)
   apply And.intro (cg s 3 rfl);apply And.intro (cg s 3 rfl)
   (refine ax s (i:=1) rfl rfl rfl λw s=>?_)
   apply lI s 1 rfl;apply lI s 1 rfl;apply lI s 1 rfl;apply lS s 1 rfl
   (refine ax s (i:=2) rfl rfl rfl λw s=>?_)
   (refine ax s (i:=2) rfl rfl rfl λw s=>?_)
   (refine ax s (i:=2) rfl rfl rfl λw s=>?_)
   (refine ax s (i:=2) rfl rfl rfl λw s=>?_)
   apply lI s 2 rfl;apply lI s 2 rfl;apply lI s 2 rfl;apply lS s 2 rfl;exact fin _ _ _ [0] (by decide) rfl s
   (refine ax s (i:=0) rfl rfl rfl λw s=>?_)
   apply And.intro (cg s 2 rfl);apply And.intro (cg s 2 rfl);refine aN s λb w s=>?_
   (refine ax s (i:=1) rfl rfl rfl λw s=>?_)
   apply lI s 1 rfl;apply lI s 1 rfl;apply lI s 1 rfl;apply lS s 1 rfl
   (refine ax s (i:=2) rfl rfl rfl λw s=>?_)
   (refine ax s (i:=2) rfl rfl rfl λw s=>?_)
   (refine ax s (i:=2) rfl rfl rfl λw s=>?_)
   (refine ax s (i:=2) rfl rfl rfl λw s=>?_)
   apply lI s 2 rfl;apply lI s 2 rfl;apply lI s 2 rfl;apply lS s 2 rfl;exact fin _ _ _ [0] (by decide) rfl s
  ·rw[show(gf x.b 1 6==1)=false by rw[beq_eq_false_iff_ne];exact k1,cond_false];rw[if_neg k1]at h;have fin:∀(w:World) (L2:List As) (A B:Int),(∀ra rn rc w',Sep F W w' (ak ra rn rc 5 1 (flat bq [])::L)->Fr No w0 w'->Q (gf x.b 1 6) A B ra rn rc w')->Sep No w0 w L2->Q (gf x.b 1 6) A B none 0 0 w:=by intro w L2 A B h s;exact h _ _ _ _ (bE (bR s0 (au s)) 5 1) (au s)
   by_cases k2:gf x.b 1 6=2
   ·rw[show(gf x.b 1 6==2)=true by rw[beq_iff_eq];exact k2,cond_true];rw[if_pos k2]at h;apply lI s 2 rfl;rw[aG];apply bT (by omega) (by decide) (by omega);refine ax s (i:=0) rfl rfl rfl λw s=>?_;apply lI s 2 rfl;apply bT (by decide) (by decide) (by decide);have e:IntKind.wrap .i64 ((0+x.a%(1-0+1))*255)=gf x.a 0 1*255:=wrap_i64 (by show _<=gf x.a 0 1*255;omega) (by show gf x.a 0 1*255<_;omega);rw[e]
    (refine ax s (i:=0) rfl rfl rfl λw s=>?_)
    apply lI s 0 rfl;apply lI s 0 rfl;apply lI s 0 rfl;apply lS s 0 rfl
    (refine ax s (i:=1) rfl rfl rfl λw s=>?_)
    (refine ax s (i:=1) rfl rfl rfl λw s=>?_)
    (refine ax s (i:=1) rfl rfl rfl λw s=>?_)
    (refine ax s (i:=1) rfl rfl rfl λw s=>?_)
    apply lI s 1 rfl;apply lI s 1 rfl;apply lI s 1 rfl;apply lS s 1 rfl;refine fin _ _ _ _ ?_ s;rw[k2];exact h
   ·rw[show(gf x.b 1 6==2)=false by rw[beq_eq_false_iff_ne];exact k2,cond_false];rw[if_neg k2]at h;by_cases k5:gf x.b 1 6=5
    ·rw[show(gf x.b 1 6==5)=true by rw[beq_iff_eq];exact k5,cond_true];rw[if_pos k5]at h
     (refine ax s (i:=0) rfl rfl rfl λw s=>?_)
     apply lI s 0 rfl;apply lI s 0 rfl;apply lI s 0 rfl;apply lS s 0 rfl
     (refine ax s (i:=1) rfl rfl rfl λw s=>?_)
     (refine ax s (i:=1) rfl rfl rfl λw s=>?_)
     (refine ax s (i:=1) rfl rfl rfl λw s=>?_)
     (refine ax s (i:=1) rfl rfl rfl λw s=>?_)
     apply lI s 1 rfl;apply lI s 1 rfl;apply lI s 1 rfl;apply lS s 1 rfl;refine fin _ _ _ _ ?_ s;rw[k5];exact h
    ·rw[show(gf x.b 1 6==5)=false by rw[beq_eq_false_iff_ne];exact k5,cond_false];rw[if_neg k5]at h;apply lI s 0 rfl;apply lI s 0 rfl;apply lI s 0 rfl;apply lS s 0 rfl
     (refine ax s (i:=1) rfl rfl rfl λw s=>?_)
     (refine ax s (i:=1) rfl rfl rfl λw s=>?_)
     (refine ax s (i:=1) rfl rfl rfl λw s=>?_)
     (refine ax s (i:=1) rfl rfl rfl λw s=>?_)
     apply lI s 1 rfl;apply lI s 1 rfl;apply lI s 1 rfl;apply lS s 1 rfl;exact fin _ _ _ _ h s
 have e1:IntKind.wrap .i64 (nn+(0+x.a%(5-0+1)))=nn+gf x.a 0 5:=wrap_i64 (by show _<=nn+gf x.a 0 5;omega) (by show nn+gf x.a 0 5<_;omega);have s:=bh (F:=No) (w:=w0);refine aN s λxb w s=>?_;refine aT s λpb w s=>?_;have s:=ay s
 repeat' first
  |apply lI s 0 rfl
  |apply lS s 0 rfl
  |apply lB s 0 rfl
  |apply lP s 0 rfl
  |apply And.intro (cg s 0 rfl)
  |apply lI s 1 rfl
  |apply lS s 1 rfl
  |apply lB s 1 rfl
  |apply lP s 1 rfl
  |apply And.intro (cg s 1 rfl)
  |apply lI s 2 rfl
  |apply lS s 2 rfl
  |apply lB s 2 rfl
  |apply lP s 2 rfl
  |apply And.intro (cg s 2 rfl)
  |(refine ax s (i:=0) rfl rfl rfl λw s=>?_)
  |(refine ax s (i:=1) rfl rfl rfl λw s=>?_)
  |(refine ax s (i:=2) rfl rfl rfl λw s=>?_)
  |refine aN s λb w s=>?_
  |(refine aT s λb w s=>?_;simp[agY,acP,amK,agZ]at s)
  |apply bT (by decide) (by decide) (by decide)
  |apply And.intro ?_
  |(replace s:=ay s;first
   |apply lI s 0 rfl
   |apply lS s 0 rfl
   |apply lB s 0 rfl
   |apply lP s 0 rfl
   |apply And.intro (cg s 0 rfl)
   |apply lI s 1 rfl
   |apply lS s 1 rfl
   |apply lB s 1 rfl
   |apply lP s 1 rfl
   |apply And.intro (cg s 1 rfl)
   |apply lI s 2 rfl
   |apply lS s 2 rfl
   |apply lB s 2 rfl
   |apply lP s 2 rfl
   |apply And.intro (cg s 2 rfl)
   |(refine ax s (i:=0) rfl rfl rfl λw s=>?_)
   |(refine ax s (i:=1) rfl rfl rfl λw s=>?_)
   |(refine ax s (i:=2) rfl rfl rfl λw s=>?_)
   |refine aN s λb w s=>?_
   |(refine aT s λb w s=>?_;simp[agY,acP,amK,agZ]at s)
   |apply bT (by decide) (by decide) (by decide)
   |refine And.intro ?_ ?_)
 all_goals
  rw[e1]at s;exact hb2 _ _ _ _ _ [0,1,2] [] (by decide) rfl s
end
end Go.Proofs.YtmegplnmiepfbaaGreatDoor.S.O
