/- Part 4 of the proof. -/
import Derived.Test.YtmegplnmiepfbaaGreatDoorN2
import Derived.Laws.Pointers
import Derived.Laws.Externs
import Derived.LaidEql
import Derived.Stop.Asserts
set_option linter.unusedVariables false
set_option linter.unusedSimpArgs false
set_option linter.defProp false
namespace Go.Proofs.YtmegplnmiepfbaaGreatDoor.S
open Go.Sx
open Go.Sort (swp PermIn SortedIn Below)
attribute [local irreducible] af cA bw bg aA cq bY St Bx Al App cD cy cw bT aL bC aq bR av ak aV mapA
section
variable {F:Nat->Prop}{W w w0:World}{L:List As}{a:Option Addr}{n c:Nat}{d:Array bj}
def aic (lo b:Nat)(d d':Array bj):Prop:=PermIn lo b d d'/\SortedIn cO lo b d'
def aqd (hn:n<2000):∀(N:Nat) (lo b:Nat) (limit:Int) (wb wp:Bool) (d:Array bj) (w:World) (Q:World->Prop) (f:Nat),b-lo<=N->N<f->lo<=b->b<=n->Below cO lo b d->0<=limit/\limit<1000->Sep F W w (c7 a n c d::L)->
   (∀d' w',aic lo b d d'->Sep F W w' (c7 a n c d'::L)->Q w')->cH Q f a n c lo b limit iP wb wp w:=by
 intro N;induction N with
 |zero=>
  intro lo b limit wb wp d w Q f h1 hf h2 h3 hB Ak s h;obtain⟨f,rfl⟩:∃g,f=g+1:=⟨f-1,by omega⟩;show h_ Q (cH Q f) _ _ _ _ _ _ _ _ _ _;unfold h_;have hsz:=gu s;rw[aG,bN];refine Hj s (by omega) h2 h3 λw s=>h _ w ?_ s;exact Go.Sort.insertionSort_holds FE d lo b h2 (by omega)
 |succ N ih=>
  have call:∀(lo b:Nat) (limit:Int) (d:Array bj) (w:World) (Q:World->Prop),b-lo<=N->lo<=b->b<=n->Below cO lo b d->0<=limit/\limit<1000->Sep F W w (c7 a n c d::L)->
    (∀d' w',aic lo b d d'->Sep F W w' (c7 a n c d'::L)->Q w')->fm a n c lo b limit iP w Q:=λlo b limit d w Q h1 h2 h3 h4 h5 s h=>by
   apply rM;exact⟨N+1,ih lo b limit true true d w Q (N+1) h1 (Nat.lt_succ_self N) h2 h3 h4 h5 s h⟩
  intro lo b limit wb wp d w Q f h1 hf h2 h3 hB Ak s h;obtain⟨f,rfl⟩:∃g,f=g+1:=⟨f-1,by omega⟩;show h_ Q (cH Q f) _ _ _ _ _ _ _ _ _ _;unfold h_;have hsz:=gu s;rw[aG];by_cases h12:b-lo<=12
  ·rw[bN];refine Hj s (by omega) h2 h3 λw s=>h _ w ?_ s;exact Go.Sort.insertionSort_holds FE d lo b h2 (by omega)
  rw[bp];by_cases hl0:limit=0
  ·rw[eC hl0,cond_true];refine adM s (by omega) (by omega) h3 λw s=>h _ w ?_ s;exact Go.Sort.heapSort_holds FE d lo b h2 (by omega)
  rw[cQ hl0,cond_false];have via:∀{d1 d':Array bj},PermIn lo b d d1->aic lo b d1 d'->aic lo b d d':=λh1 h2=>⟨Go.Sort.permIn_trans _ _ _ _ _ h1 h2.1,h2.2⟩;have b20:∀(limit:Int) (pv:Nat) (d1:Array bj) (w:World),0<=limit/\limit<1000->lo<=pv/\pv<b->PermIn lo b d d1->Sep F W w (c7 a n c d1::L)->
    jx (cH Q f) Q a n c lo b limit iP ((b:Int)-lo) pv w:=λlimit pv d1 w Ak hp hP s=>by
   have aus:=gu s;rcases hx:Go.Sort.partition cO d1 lo b pv with⟨mid,ap,d4⟩;obtain⟨p1,p2,p3,p4,p5,p6,p7⟩:=Go.Sort.round_part FE (Go.Sort.partition_holds cO) hp.1 hp.2 (by omega) (Go.Sort.Below.perm hB (by omega) hP) hx;refine abH s (by omega) hp h3 λw s=>⟨by decide,?_⟩;rw[hx]at s⊢;rw[aG,aG,aG];by_cases hm:(mid:Int)-lo<b-mid
   ·rw[bN hm];refine call lo mid limit d4 w _ (by omega) (by omega) (by omega) p4 Ak s λd5 w hS s=>?_;obtain⟨q1,q2⟩:=p6 d5 hS.1 hS.2;exact ih (mid+1) b limit _ _ d5 w Q f (by omega) (by omega) (by omega) h3 q1 Ak s λd6 w hS2 s=>h d6 w (via hP (q2 d6 hS2.1 hS2.2)) s
   ·rw[bp hm];refine call (mid+1) b limit d4 w _ (by omega) (by omega) (by omega) p5 Ak s λd5 w hS s=>?_;obtain⟨q1,q2⟩:=p7 d5 hS.1 hS.2;exact ih lo mid limit _ _ d5 w Q f (by omega) (by omega) (by omega) (by omega) q1 Ak s λd6 w hS2 s=>h d6 w (via hP (q2 d6 hS2.1 hS2.2)) s
  have Yl:∀(limit:Int) (pv:Nat) (d1:Array bj) (w:World),0<=limit/\limit<1000->lo<=pv/\pv<b->PermIn lo b d d1->Sep F W w (c7 a n c d1::L)->
    eV (cH Q f) Q a n c lo b limit iP wb wp ((b:Int)-lo) pv w:=λlimit pv d1 w Ak hp hP s=>by
   have aus:=gu s;unfold eV;by_cases h0:lo>0
   ·rw[bN,aG];refine GG (p:=lo-1) (ay s) (by omega) (by omega) rfl (by omega) λw s=>?_;show cond (!cO d1[lo-1]! d1[pv]!) _ _;cases hc:cO d1[lo-1]! d1[pv]! with
    |false=>
     rcases hx:Go.Sort.partitionEqual cO d1 lo b pv with⟨mid,d4⟩;obtain⟨p1,p2,p3,p4,p5⟩:=Go.Sort.round_eq FE (Go.Sort.partitionEqual_holds cO) h0 hp.1 hp.2 (by omega) (Go.Sort.Below.perm hB (by omega) hP) hc hx;refine SB s (by omega) hp h3 λw s=>?_;rw[hx]at s⊢;exact ih mid b limit _ _ _ w Q f (by omega) (by omega) p2 h3 p4 Ak s λd6 w hS2 s=>h d6 w (via hP (p5 d6 hS2.1 hS2.2)) s
    |true=>
     exact b20 limit pv d1 w Ak hp hP s
   ·rw[bp];exact b20 limit pv d1 _ Ak hp hP (ay s)
  have b15:∀(limit:Int) (pv:Nat) (hint:Int) (d1:Array bj) (w:World),0<=limit/\limit<1000->lo<=pv/\pv<b->PermIn lo b d d1->Sep F W w (c7 a n c d1::L)->
    gV (cH Q f) Q a n c lo b limit iP wb wp ((b:Int)-lo) pv hint w:=λlimit pv hint d1 w Ak hp hP s=>by
   have aus:=gu s;unfold gV;cases hwb:wb with
   |false=>rw[cond_false];rw[hwb]at Yl;exact Yl limit pv d1 w Ak hp hP s
   |true=>
    cases hwp:wp with
    |false=>rw[cond_false];rw[hwb,hwp]at Yl;exact Yl limit pv d1 w Ak hp hP s
    |true=>
     rw[hwb,hwp]at Yl;cases hint==1 with
     |false=>rw[cond_false];exact Yl limit pv d1 w Ak hp hP s
     |true=>
      have hpi:=Go.Sort.partialInsertionSort_holds FE d1 lo b (by omega) (by omega) (Go.Sort.Below.perm hB (by omega) hP);refine ZP s (by omega) (by omega) h3 λw s=>?_;cases hr:(Go.Sort.partialInsertionSort cO d1 lo b).2 with
      |true=>
       exact h _ w (via hP ⟨hpi.1,hpi.2 hr⟩) s
      |false=>
       exact Yl limit pv _ w Ak hp (Go.Sort.permIn_trans _ _ _ _ _ hP hpi.1) s
  have b10:∀(limit:Int) (d1:Array bj) (w:World),0<=limit/\limit<1000->PermIn lo b d d1->Sep F W w (c7 a n c d1::L)->
    jy (cH Q f) Q a n c lo b limit iP wb wp ((b:Int)-lo) w:=λlimit d1 w Ak hP s=>by
   refine XZ s (by omega) (by omega) h3 λpv hint w hp s=>?_;cases hint==2 with
   |true=>
    refine agl s (by omega) (by omega) h3 λd2 w hP2 s=>?_;rw[aG (n:=(b:Int)-1),aG (n:=(pv:Int)-lo),aG,show(b:Int)-1-(pv-lo)=((b-1-(pv-lo):Nat):Int) by omega];exact b15 limit _ 1 d2 w Ak (by omega) (Go.Sort.permIn_trans _ _ _ _ _ hP hP2) s
   |false=>
    exact b15 limit pv hint d1 w Ak hp hP s
  cases wb with
  |false=>
   refine aib s hn (by omega) h3 λd1 w hP s=>?_;rw[aG];exact b10 (limit-1) d1 w (by omega) hP s
  |true=>
   exact b10 limit d w Ak (Go.Sort.permIn_refl _ _ _) s
def anY (hn:n<2000){lo b:Nat}{limit:Int}{Q:World->Prop}(h2:lo<=b)(h3:b<=n)(h4:Below cO lo b d)(h5:0<=limit/\limit<1000)(s:Sep F W w (c7 a n c d::L))
  (h:∀d' w',aic lo b d d'->Sep F W w' (c7 a n c d'::L)->Q w'):fm a n c lo b limit iP w Q:=by
 apply rM;exact⟨b-lo+1,aqd hn (b-lo) lo b limit true true d w Q (b-lo+1) (Nat.le_refl _) (by omega) h2 h3 h4 h5 s h⟩
def adO {Q:World->Prop}{xs:List bj}(s:Sep F W w (ak a n c 294 3 (flat fT xs)::L))(hn:n<2000)(h:∀w',Sep F W w' (ak a n c 294 3 (flat fT (ZK xs))::L)->Q w'):
  kN a n c iP w Q:=by
 have s:=s;have hsz:=gu s;apply AK;rw[ke (by omega)];refine QM (by omega) λv hv _ _=>?_;refine anY hn (Nat.zero_le _) (Nat.le_refl _) (.inl rfl) (by omega) s λd' w hS s=>h w ?_;have:=Go.Sort.sorted_unique_holds FE (λx y h k=>auj h k) xs.toArray d' (by rw[hsz];exact hS.1) (by rw[hsz];exact hS.2);unfold ZK;grind
def agm {Q:Option Addr->Nat->Nat->World->Prop}{xs:List bj}(s:Sep F W w (ak a n c 294 3 (flat fT xs)::L))(hn:n<1000000)(hnd:xs.Nodup)(h:∀w',Sep F W w' (ak a n c 294 3 (flat fT xs)::L)->Q a n c w'):
  lz a n c w Q:=by
 have s:Sep F W w (c7 a n c xs.toArray::L):=s;have hsz:=gu s;have hl:xs.length=n:=by grind
 apply A3;by_cases h2:n<2
 ·grind
 ·rw[bp];have loop:∀(k i:Nat) (w:World),i+k=n->0<i->Sep F W w (c7 a n c xs.toArray::L)->fq Q (k+1) a n c i w:=by
   intro k;induction k with
   |zero=>
    intro i w hi h0 s;show gJ Q (fq Q 0) _ _ _ _ _;unfold gJ;grind
   |succ k ih=>
    intro i w hi h0 s;show gJ Q (fq Q (k+1)) _ _ _ _ _;rw[gJ,bN,aG];apply RdS (ay s) rfl (by omega);apply RdS (k:=i-1) (ay s) (by omega) (by omega);have hne:xs.toArray[i]!≠xs.toArray[i-1]!:=λe=>by have e1:=W3 (d:=xs.toArray) (k:=i) (by omega);have e2:=W3 (d:=xs.toArray) (k:=i-1) (by omega);rw[e,<-e2]at e1;have e1:=e1;have:=(List.getElem?_inj (by omega) hnd).1 e1;omega
    apply anX;rw[bp hne,aG];exact ih (i+1) _ (by omega) (by omega) (ay s)
  exact⟨n-1+1,loop (n-1) 1 w (by omega) (by omega) s⟩
def anZ {xs:List bj}(h:xs.Nodup):(ZK xs).Nodup:=(List.mergeSort_perm xs _).nodup_iff.2 h
def Am {Q:Option Addr->Nat->Nat->World->Prop}{xs:List bj}(s0:Sep F W w L)(hX:Sl w a n c 3 fT xs)(hn:n<2000)(hnd:xs.Nodup)(h:∀ra rc w',Sep F W w' (ak ra n rc 294 3 (flat fT (Nn xs))::L)->Fr No w w'->Q ra n rc w'):
  kC a n c w Q:=by
 apply Zo;refine VW (bh (F:=No)) hX (by omega) λra rc w1 s _=>?_;refine adO s hn λw1 s=>?_;refine agm s (by omega) (anZ hnd) λw1 s=>?_;exact h ra rc w1 (dD s0 s (i:=0) rfl) (au s)
def ZQ {Q:Bool->World->Prop}{xs ys:List bj}{b:Option Addr}{m e:Nat}(hX:Sl w a n c 3 fT xs)(hY:Sl w b m e 3 fT ys)(s0:Sep F W w L)(hn:n<1000000)(hm:m<1000000)(h:∀w',Sep F W w' L->Fr No w w'->Q (decide (xs=ys)) w'):
  ET a n c b m e w Q:=by
 apply Zw;apply Cb;have h1:=hX.len;have h2:=hY.len;have fin:∀(r:Bool) (w':World),r=decide (xs=ys)->Sep No w w' []->Q r w':=λr w' e s=>by subst e;exact h w' (bV s0 (au s)) (au s)
 by_cases hl:n=m
 ·subst hl;have loop:∀(k i:Nat) (w1:World),i+k=n->xs.take i=ys.take i->Sep No w w1 []->fR Q (k+1) a n c b n e n i w1:=by
   intro k;induction k with
   |zero=>
    intro i w1 hi he s;show ig Q (fR Q 0) _ _ _ _ _ _ _ _ _;unfold ig;grind
   |succ k ih=>
    intro i w1 hi he s;show ig Q (fR Q (k+1)) _ _ _ _ _ _ _ _ _;rw[ig,bN];have s:=ay s;refine(hX.fr (au s)).El rfl (by omega) λp x hx hc=>?_;refine aR (hc 0 _ rfl) (aR (hc 1 _ rfl) (aR (hc 2 _ rfl) ?_));refine(hY.fr (au s)).El rfl (by omega) λp y hy hc=>?_;refine aR (hc 0 _ rfl) (aR (hc 1 _ rfl) (aR (hc 2 _ rfl) ?_));apply auq;by_cases hxy:x=y
    ·rw[decide_eq_true hxy,Bool.not_true,cond_false,aG];refine ih (i+1) _ (by omega) ?_ s;rw[List.take_add_one,List.take_add_one,hx,hy,he,hxy]
    grind
  rw[bne_self_eq_false,cond_false];exact⟨n+1,loop n 0 w (by omega) (by simp) bh⟩
 ·rw[show((n:Int) !=(m:Int))=true by grind,cond_true];refine fin false _ ?_ bh;grind
end
end Go.Proofs.YtmegplnmiepfbaaGreatDoor.S
namespace Go.Proofs.YtmegplnmiepfbaaGreatDoor.S
open Go.Sx
attribute [local irreducible] af cA bw bg aA cq bY St Bx Al App cD cy cw bT aL bC aq bR av ak aV mapA
section
variable {W w w0:World}{p rp:Nat}{tw th a:Int}{ca ta da:Option Addr}{cn cc tn tc dn dc:Nat}{cs ds:List Int}{xs todo:List bj}{l:List (Int×Int)}{bs:List Rg.Bk}{N:Nat}
def swc (tw th:Int)(ca:Option Addr)(cn cc rp:Nat)(ta:Option Addr)(tn tc:Nat)(da:Option Addr)(dn dc:Nat):List Value:=
 [ae tw,ae th,.slice ca cn cc,.pointer (sZ rp),.slice ta tn tc,.slice da dn dc]
abbrev Dq (p rp:Nat)(tw th:Int)(ca:Option Addr)(cn cc:Nat)(a:Int)(l:List (Int×Int))(bs:List Rg.Bk)(N:Nat)(ta:Option Addr)(tn tc:Nat)(todo:List bj)(da:Option Addr)(dn dc:Nat)(ds:List Int):List As:=
 [av p 363 (swc tw th ca cn cc rp ta tn tc da dn dc),Rg.Bo rp a l bs N,ak ta tn tc 294 3 (flat fT todo),ak da dn dc 3 1 (flat one ds)]
def an0 {Q:World->Prop}
  (h:∀(l':List (Int×Int)) (N':Nat) (todo':List bj) bs' Yg tn' Yh w',Co tw th cs xs a l' N' todo' ds->(∀x∈todo',a+256<=x.k)->l'.length+todo'.length=l.length+todo.length->(l'=[]->l=[]/\todo'=todo)->Sep No w0 w' (Dq p rp tw th ca cn cc a l' bs' N' Yg tn' Yh todo' da dn dc ds)->Q w')(v7:cs.length<=256)(hxs:xs.length<2000):
  ∀(Ix:List bj) (l1:List (Int×Int)) (N1:Nat) (x_:List Rg.Bk) (ta1:Option Addr) (tn1 tc1:Nat) (w:World),Co tw th cs xs a l1 N1 Ix ds->l1.length+Ix.length=l.length+todo.length->(l1=[]->l=[]/\Ix=todo)->
   Sep No w0 w (Dq p rp tw th ca cn cc a l1 x_ N1 ta1 tn1 tc1 Ix da dn dc ds)->gA Q (Ix.length+1) (sZ p) w:=by
 intro Ix;induction Ix with
 |nil=>
  intro l1 N1 x_ ta1 tn1 tc1 w I hl he s;show xX Q (gA Q 0) _ _;have QB:=(aO s (i:=2) rfl nC (by decide)).len;refine ah (gX (ay s) (i:=0) rfl rfl rfl ?_);subst QB;exact h l1 N1 [] x_ ta1 _ tc1 _ I (by simp) hl he (ay s)
 |cons x Ix ih=>
  intro l1 N1 x_ ta1 tn1 tc1 w I hl he s;show xX Q (gA Q (Ix.length+1)) _ _;have hX:=aO s (i:=2) rfl nC (by decide);have QB:=hX.len;have V7:=I.fH;simp[List.length_cons]at QB V7;have s:=ay s;refine ah (lS s 0 rfl ?_);rw[bN];refine ah (lP s 0 rfl (ah (lS s 0 rfl ?_)));refine hX.El (k:=0) rfl (by omega) λq y hy hc=>?_;have hy:x=y:=by grind
  subst hy;refine aR (hc 2 _ rfl) (ah (lS s 0 rfl ?_));refine hX.El (k:=0) rfl (by omega) λq y hy hc=>?_;have hy:x=y:=by grind
  subst hy;have hc0:=hc 0 _ rfl;refine aR hc0 ?_;have ZN:=I.top (kc x) (by simp);have Sp:=I.low x (by simp);have hk:(kc x).1=x.k:=rfl;refine Rg.QJ s (i:=1) rfl (by omega) (by omega) (λhno=>?_) λhyes w Hl s=>?_
  ·refine h l1 N1 (x::Ix) x_ ta1 tn1 tc1 _ I (λy hy=>?_) hl he s;rcases List.mem_cons.1 hy with rfl|hy
   ·omega
   ·have:=(List.pairwise_cons.1 I.Nu).1 y hy;omega
  ·rw[cond_true];refine ah (lS s 0 rfl ?_);apply O4 (m:=1) rfl (by omega);refine ah (sT s 0 rfl λw s=>?_);have s:=afD (m:=1) s (i:=2) rfl (by omega);refine ih (l1++[kc x]) (N1+1) Hl _ _ _ w I.take (by simp[List.length_append,List.length_cons,List.length_nil]at hl⊢;omega) (λe=>by simp at e) s
def abK {Q:World->Prop}(I:Co tw th cs xs a l N todo ds)(v7:cs.length<=256)(hxs:xs.length<2000)(s:Sep No w0 w (Dq p rp tw th ca cn cc a l bs N ta tn tc todo da dn dc ds))
  (h:∀(a':Int) (l':List (Int×Int)) (N':Nat) (todo':List bj) bs' Yg tn' Yh w',Co tw th cs xs a' l' N' todo' ds->(∀x∈todo',a'+256<=x.k)->(l'=[]->todo'=[])->l'.length+todo'.length=l.length+todo.length->Sep No w0 w' (Dq p rp tw th ca cn cc a' l' bs' N' Yg tn' Yh todo' da dn dc ds)->Q w'):
  jM (sZ p) w Q:=by
 apply Lg;have hX:=aO s (i:=2) rfl nC (by decide);have QB:=hX.len;refine ah (lS s 0 rfl ?_);have go:∀(a1:Int) (x_:List Rg.Bk) (w:World),Co tw th cs xs a1 l N todo ds->(l=[]->∀x∈todo.head?,a1=x.k)->Sep No w0 w (Dq p rp tw th ca cn cc a1 l x_ N ta tn tc todo da dn dc ds)->∃k',gA Q k' (sZ p) w:=λa1 x_ w I he s=>by
  refine⟨todo.length+1,an0 (λl' N' todo' bs' Yg tn' Yh w' I' hf hl hn s'=>?_) v7 hxs todo l N x_ ta tn tc w I rfl (λe=>⟨e,rfl⟩) s⟩;refine h a1 l' N' todo' bs' Yg tn' Yh w' I' hf (λe=>?_) hl s';obtain⟨e1,e2⟩:=hn e;cases todo with
  |nil=>exact e2
  |cons y ys=>
   have h1:=he e1 y (by simp);grind
 cases KR:todo with
 |nil=>
  subst KR;have QB:=QB;subst QB;exact go a bs w I (λ_ x hx=>by simp at hx) s
 |cons x ys=>
  subst KR;simp[List.length_cons]at QB;rw[bN];refine ah (lP s 0 rfl ?_);apply Rg.C4 s (i:=1) rfl;by_cases hl:l=[]
  ·subst hl;rw[eC (show((([]:List (Int×Int)).length:Nat):Int)=0 from rfl),cond_true];have s:=ay s;refine ah (lP s 0 rfl (ah (lS s 0 rfl ?_)));refine hX.El (k:=0) rfl (by omega) λq y hy hc=>?_;have hy:x=y:=by grind
   subst hy;refine aR (hc 2 _ rfl) ?_;have ZN:=I.top (kc x) (by simp);have hk:(kc x).1=x.k:=rfl;refine Rg.abC s (i:=1) rfl (λhno=>?_) λ_ w Hl s=>?_
   ·exact(hno ⟨rfl,I.low x (by simp),by omega⟩).elim
   ·exact go x.k Hl w I.jump (λ_ y hy=>by grind) s
  ·rw[cQ (by simp_all),cond_false];grind
def ajP {Q:World->Prop}{x key:Int}(hC:Sl w0 ca cn cc 1 bu cs)(hx:0<=x/\x<cs.length)(hds:ds.length=cs.length)(hk:a<=key/\key<a+256/\key<1000000000000)(hN:N+1<1000000)
  (s:Sep No w0 w (Dq p rp tw th ca cn cc a l bs N ta tn tc todo da dn dc ds))
  (h:∀bs' w',Sep No w0 w' (Dq p rp tw th ca cn cc a (l++if gi cs x.toNat≠255/\gi ds x.toNat=bW then[(key,x)]else[]) bs' (N+(if gi cs x.toNat≠255/\gi ds x.toNat=bW then[(key,x)]else[]).length) ta tn tc todo da dn dc ds)->Q w'):
  iA (sZ p) x key w Q:=by
 apply Ki;have hD:=aO s (i:=3) rfl cB (by decide);have VP:=hC.len;have hdn:=hD.len;have skip:¬(gi cs x.toNat≠255/\gi ds x.toNat=bW)->Q w:=λhn=>by apply h bs w;grind
 refine ah (lS s 0 rfl ?_);apply(hC.fr (au s)).Db (k:=x.toNat) (by omega) (by omega);by_cases h1:gi cs x.toNat=255
 ·grind
 ·rw[show(gi cs x.toNat !=255)=true by grind,cond_true];refine ah (lS s 0 rfl ?_);apply hD.rG (k:=x.toNat) (by omega) (by omega);by_cases h2:gi ds x.toNat=bW
  ·rw[eC (show gi ds x.toNat=1099511627776 from h2),cond_true];refine ah (lP s 0 rfl ?_);refine Rg.QJ s (i:=1) rfl (by omega) (by omega) (λhno=>(hno ⟨hk.1,hk.2.1⟩).elim) λ_ w Hl s=>?_;apply h Hl w;grind
  ·rw[cQ (show gi ds x.toNat≠1099511627776 from h2),cond_false];grind
def aid {Q:World->Prop}{x:Int}(hC:Sl w0 ca cn cc 1 bu cs)(hcs:∀x∈cs,1<=x/\x<256)(hw:1<=tw/\tw<=16)(hh:1<=th/\th<=16)(hlen:(cs.length:Int)=tw*th)(hx:0<=x/\x<cs.length)(I9:gi cs x.toNat≠255)(hds:ds.length=cs.length)
  (ha:gi ds x.toNat=a)(hab:0<=a/\a<100000000000)(hN:N+4<1000000)(s:Sep No w0 w (Dq p rp tw th ca cn cc a l bs N ta tn tc todo da dn dc ds))
  (h:∀bs' w',Sep No w0 w' (Dq p rp tw th ca cn cc a (l++kX tw th cs ds (a+gi cs x.toNat) x 4) bs' (N+(kX tw th cs ds (a+gi cs x.toNat) x 4).length) ta tn tc todo da dn dc ds)->Q w'):
  sR (sZ p) x w Q:=by
 apply JG;have hD:=aO s (i:=3) rfl cB (by decide);have VP:=hC.len;have hdn:=hD.len;have hcx:=hcs _ (fE (i:=x.toNat) (by omega));have KW:x<257:=by have:tw*th<=16*16:=Int.mul_le_mul hw.2 hh.2 (by omega) (by decide);omega
 have d0:0<=x/tw:=Int.ediv_nonneg hx.1 (by omega);have d1:x/tw<=x:=Int.ediv_le_self _ hx.1;have s:=ay s;refine ah (lS s 0 rfl ?_);apply hD.drew.rG (k:=x.toNat) (by omega) (by omega);refine ah (lS s 0 rfl ?_);apply(hC.fr (au s)).Db (k:=x.toNat) (by omega) (by omega);have s:=ay s;refine ah (lI s 0 rfl ⟨by omega,ah (lI s 0 rfl ⟨by omega,cj s 0 rfl,?_⟩)⟩);rw[ha,Int.tdiv_eq_ediv_of_nonneg hx.1,Int.tmod_eq_emod_of_nonneg hx.1,aG,aG (n:=gi cs x.toNat),aG];generalize hkey:a+gi cs x.toNat=key at h;have hkr:a<=key/\key<a+256/\key<1000000000000:=by omega
 have one:∀{j:Nat} {x_:List Rg.Bk} {w:World} {K:World->Prop} {y:Int},j<4->0<=bP tw th x j->y=bP tw th x j->Sep No w0 w (Dq p rp tw th ca cn cc a (l++kX tw th cs ds key x j) x_ (N+(kX tw th cs ds key x j).length) ta tn tc todo da dn dc ds)->
   (∀Hl w',Sep No w0 w' (Dq p rp tw th ca cn cc a (l++kX tw th cs ds key x (j+1)) Hl (N+(kX tw th cs ds key x (j+1)).length) ta tn tc todo da dn dc ds)->K w')->iA (sZ p) y key w K:=λ{j x_ w K y} hj h0 hy s hK=>by
  subst hy;have hr:=SA hw.1 hh.1 (by grind) h0;have IG:=V4 tw th cs ds key x j;refine ajP hC ⟨h0,by grind⟩ hds hkr (by omega) s λHl w s=>hK Hl w ?_;rw[abG];unfold abF;grind
 have none:∀{j:Nat} {x_:List Rg.Bk} {w:World},¬0<=bP tw th x j->Sep No w0 w (Dq p rp tw th ca cn cc a (l++kX tw th cs ds key x j) x_ (N+(kX tw th cs ds key x j).length) ta tn tc todo da dn dc ds)->
   Sep No w0 w (Dq p rp tw th ca cn cc a (l++kX tw th cs ds key x (j+1)) x_ (N+(kX tw th cs ds key x (j+1)).length) ta tn tc todo da dn dc ds):=λ{j x_ w} h0 s=>by
  rw[abG];unfold abF;grind
 have n0:bP tw th x ((0:Nat):Int)=if x/tw>0 then x-tw else-1:=by unfold bP;rw[if_pos (by decide)]
 have n1:bP tw th x ((1:Nat):Int)=if x%tw<tw-1 then x+1 else-1:=by unfold bP;rw[if_neg (by decide),if_pos (by decide)]
 have n2:bP tw th x ((2:Nat):Int)=if x/tw<th-1 then x+tw else-1:=by unfold bP;rw[if_neg (by decide),if_neg (by decide),if_pos (by decide)]
 have n3:bP tw th x ((3:Nat):Int)=if x%tw>0 then x-1 else-1:=by unfold bP;rw[if_neg (by decide),if_neg (by decide),if_neg (by decide),if_pos (by decide)]
 have hxe:x=x/tw*tw+x%tw:=by have:=Int.mul_ediv_add_emod x tw;rw[Int.mul_comm]at this;omega
 have hm0:0<=x%tw:=Int.emod_nonneg _ (by omega);have b8:∀(x_:List Rg.Bk) (w:World),Sep No w0 w (Dq p rp tw th ca cn cc a (l++kX tw th cs ds key x 3) x_ (N+(kX tw th cs ds key x 3).length) ta tn tc todo da dn dc ds)->mj Q (some ⟨p,0,Option.none⟩) x key (x%tw) w:=λx_ w s=>by
  unfold mj;by_cases q:x%tw>0
  ·rw[bN q,aG];rw[if_pos q]at n3;refine one (by decide) (by rw[n3];have:=Int.mul_nonneg d0 (show 0<=tw by omega);omega) n3.symm s λHl w s=>h Hl w s
  ·rw[bp q];rw[if_neg q]at n3;exact h x_ w (none (by rw[n3];decide) s)
 have b6:∀(x_:List Rg.Bk) (w:World),Sep No w0 w (Dq p rp tw th ca cn cc a (l++kX tw th cs ds key x 2) x_ (N+(kX tw th cs ds key x 2).length) ta tn tc todo da dn dc ds)->pF Q (some ⟨p,0,Option.none⟩) x key (x%tw) (x/tw) w:=λx_ w s=>by
  refine ah (lI s 0 rfl ?_);rw[aG];by_cases q:x/tw<th-1
  ·rw[bN q];refine ah (lI s 0 rfl ?_);rw[aG];rw[if_pos q]at n2;exact one (by decide) (by rw[n2];omega) n2.symm s λHl w s=>b8 Hl w s
  ·rw[bp q];rw[if_neg q]at n2;exact b8 x_ w (none (by rw[n2];decide) s)
 have b4:∀(x_:List Rg.Bk) (w:World),Sep No w0 w (Dq p rp tw th ca cn cc a (l++kX tw th cs ds key x 1) x_ (N+(kX tw th cs ds key x 1).length) ta tn tc todo da dn dc ds)->pG Q (some ⟨p,0,Option.none⟩) x key (x%tw) (x/tw) w:=λx_ w s=>by
  refine ah (lI s 0 rfl ?_);rw[aG];by_cases q:x%tw<tw-1
  ·rw[bN q,aG];rw[if_pos q]at n1;exact one (by decide) (by rw[n1];omega) n1.symm s λHl w s=>b6 Hl w s
  ·rw[bp q];rw[if_neg q]at n1;exact b6 x_ w (none (by rw[n1];decide) s)
 have e0:kX tw th cs ds key x 0=[]:=rfl;have s:Sep No w0 w.drew.drew (Dq p rp tw th ca cn cc a (l++kX tw th cs ds key x 0) bs (N+(kX tw th cs ds key x 0).length) ta tn tc todo da dn dc ds):=by rw[e0,List.append_nil];exact s
 by_cases q:x/tw>0
 ·rw[bN q];refine ah (lI s 0 rfl ?_);rw[aG];rw[if_pos q]at n0;refine one (by decide) ?_ n0.symm s λHl w s=>b4 Hl w s;have:=Int.mul_le_mul_of_nonneg_right (show 1<=x/tw by omega) (show 0<=tw by omega);omega
 grind
def aqg {Q:World->Prop}(hC:Sl w0 ca cn cc 1 bu cs)(hcs:∀x∈cs,1<=x/\x<256)(hw:1<=tw/\tw<=16)(hh:1<=th/\th<=16)(hlen:(cs.length:Int)=tw*th)(v7:cs.length<=256)(hxs:xs.length<2000)
  (h:∀a bs N ta tn tc w',Sep No w0 w' (Dq p rp tw th ca cn cc a [] bs N ta tn tc [] da dn dc (ju tw th cs xs))->Q w'):
  ∀(f:Nat) (a:Int) (l:List (Int×Int)) (bs:List Rg.Bk) (N:Nat) (ta:Option Addr) (tn tc:Nat) (todo:List bj) (ds:List Int) (w:World),l.length+todo.length+5*GF ds<=f->0<=a->Co tw th cs xs a l N todo ds->(∀x∈todo,a+256<=x.k)->(l=[]->todo=[])->
   Sep No w0 w (Dq p rp tw th ca cn cc a l bs N ta tn tc todo da dn dc ds)->jO Q (f+1) (sZ p) w:=by
 intro f;induction f with
 |zero=>
  intro a l bs N ta tn tc todo ds w hf ha I auu aie s;obtain rfl:l=[]:=List.eq_nil_of_length_eq_zero (by omega);have KR:=aie rfl;subst KR;show zh Q (jO Q 0) _ _;refine ah (lP s 0 rfl (Rg.C4 s (i:=1) rfl ?_));apply h a bs N ta tn tc w;rw[<-I.done];exact s
 |succ f ih=>
  intro a l bs N ta tn tc todo ds w hf ha I auu aie s;show zh Q (jO Q (f+1)) _ _;refine ah (lP s 0 rfl (Rg.C4 s (i:=1) rfl ?_));by_cases hl:l=[]
  ·subst hl;have KR:=aie rfl;subst KR;apply h a bs N ta tn tc w;rw[<-I.done];exact s
  ·have hl0:=List.length_pos_iff.2 hl;have axV:=Rg.HW s (i:=1) rfl;rw[bN];refine ah (lP s 0 rfl ?_);refine Rg.adL s (i:=1) rfl (λe=>(hl e).elim) λw k l1 x l2 Hl e avV avW sN=>?_;subst e;have s:=sN;have hin:(k,x)∈(l1++(k,x)::l2)++todo.map kc:=by simp
   have I9:=I.Ec _ hin;have ZN:=I.top _ hin;simp[List.length_append,List.length_cons]at ZN hf;have hfit:=axV.fit (k,x) (by simp);have hmin:∀e∈l1++l2,k<=e.1:=λe he=>by
    rcases List.mem_append.1 he with he|he
    ·have:=avV e he;omega
    ·exact avW e he
   have arM:∀y∈todo,k<=y.k:=λy hy=>by have:=auu y hy;omega
   have hD:=aO s (i:=3) rfl cB (by decide);have hdn:=hD.len;have hdl:=I.len;have axW:0<=x/\x<cs.length:=⟨I9.1,I9.2.1⟩;apply ah;apply lS s 0 rfl;apply hD.rG (k:=x.toNat) (by omega) (by omega);have next:∀{l':List (Int×Int)} {N':Nat} {bs':List Rg.Bk} {ds':List Int} {w:World},Co tw th cs xs k l' N' todo ds'->l'.length+todo.length+5*GF ds'<=f->Sep No w0 w (Dq p rp tw th ca cn cc k l' bs' N' ta tn tc todo da dn dc ds')->
     jM (sZ p) w λw'=>jO Q (f+1) (sZ p) w':=λI' hf' s'=>by
    refine abK I' v7 hxs s' λa' l' N' todo' bs' Yg tn' Yh w' I2 alE alF hl2 s2=>?_;have alG:=Rg.HW s2 (i:=1) rfl;exact ih a' l' bs' N' Yg tn' Yh todo' _ w' (by omega) alG.nn I2 alE alF s2
   by_cases hd:gi ds x.toNat=bW
   ·rw[eC (show gi ds x.toNat=1099511627776 from hd),cond_true];apply ah;apply lS s 0 rfl;refine E1 cB s (i:=3) (k:=x.toNat) (x':=k) rfl (by omega) (by omega) rfl rfl λw s=>?_;have Hi:=V3 (k:=k) (by unfold bW;omega) (by omega) hd;have V7:=I.fH;have avX:gi (ds.set x.toNat k) x.toNat=k:=by rw[aaI (by omega),if_pos rfl]
    refine aid hC hcs hw hh hlen axW I9.2.2 (by rw[List.length_set];exact hdl) avX ⟨by omega,by omega⟩ (by omega) s λbs' w s=>?_;have IG:=V4 tw th cs (ds.set x.toNat k) (k+gi cs x.toNat) x 4;refine next (I.step hcs hw.1 hh.1 hlen v7 hd hmin arM rfl) ?_ s
    simp[List.length_append];omega
   ·rw[cQ (show gi ds x.toNat≠1099511627776 from hd),cond_false];refine next (I.skip ?_ arM) (by simp[List.length_append];omega) s
    have hfx:fD ds x=gi ds x.toNat:=by unfold fD;rw[AA]
    by_cases q:fD ds x<bW
    ·exact q
    ·have:=I.dj.none x q;rw[hfx]at this;exact(hd this).elim
def an3 {Q:Option Addr->Nat->Nat->Int->World->Prop}(hC:Sl w0 ca cn cc 1 bu cs)(hcs:∀x∈cs,1<=x/\x<256)(hw:1<=tw/\tw<=16)(hh:1<=th/\th<=16)(hlen:(cs.length:Int)=tw*th)(v7:cs.length<=256)(hxs:xs.length<2000)
  (I:Co tw th cs xs 0 [] 0 todo ds)(s:Sep No w0 w (Dq p rp tw th ca cn cc 0 [] bs 0 ta tn tc todo da dn dc ds))
  (h:∀da dc w',Sep No w0 w' [ak da cs.length dc 3 1 (flat one (ju tw th cs xs))]->Q da cs.length dc 0 w'):qU Q (aZ p) w:=by
 apply ME;refine abK I v7 hxs s λa' l' N' todo' bs' Yg tn' Yh w' I2 alE alF hl2 s2=>?_;have alG:=Rg.HW s2 (i:=1) rfl;refine⟨_,aqg hC hcs hw hh hlen v7 hxs (λa bs N ta tn tc w s=>?_) _ a' l' bs' N' Yg tn' Yh todo' ds w' (Nat.le_refl _) alG.nn I2 alE alF s2⟩;apply lS s 0 rfl;have hdn:=(aO s (i:=3) rfl cB (by decide)).len;have e:dn=cs.length:=by rw[<-hdn];simp[ju]
 subst e;exact h da dc w (ai (ai (ai s)))
end
section
variable {F:Nat->Prop}{W w w0:World}{L:List As}{tw th:Int}{ca la:Option Addr}{cn cc ln lc:Nat}{cs:List Int}{xs:List bj}
def ZR:(ju tw th cs xs).length=cs.length:=by simp[ju]
def adP {b:Nat}{v:Int}(s:Sep F W w (av b 3 [ae v]::L)):Sl w (sZ b) 1 1 1 one [v]:=
 aO (g9 s (i:=0) rfl rfl (by decide) (λu hu=>by rw[List.mem_singleton]at hu;rw[hu];rfl)) (i:=0) rfl cB (by decide)
structure rT (tw th:Int) (cs:List Int):Prop where
 w:1<=tw/\tw<=16
 h:1<=th/\th<=16
 len:(cs.length:Int)=tw*th
 jC:∀x∈cs,1<=x/\x<256
def rT.small (h:rT tw th cs):1<=cs.length/\cs.length<=256:=by have h1:=Int.mul_le_mul h.w.2 h.h.2 (by have:=h.h;omega) (by decide);have h2:=Int.mul_le_mul h.w.1 h.h.1 (by decide) (by have:=h.w;omega);have:=h.len;omega
def V8 {Q:Option Addr->Nat->Nat->Int->World->Prop}(s0:Sep F W w L)(hA:Sl w ca cn cc 1 bu cs)(hX:Sl w la ln lc 3 fT xs)(hT:rT tw th cs)(hok:rR tw th cs xs=true)(hnd:xs.Nodup)(p9:ln<2000)
  (h:∀da dc w',Sep F W w' (ak da cs.length dc 3 1 (flat one (ju tw th cs xs))::L)->Fr No w w'->Q da cs.length dc 0 w'):w_ tw th ca cn cc la ln lc w Q:=by
 apply Vv;have v7:=hT.small;have hxl:=hX.len;have x9:=hA.len;refine aN (bh (F:=No)) λtb w1 s=>?_;refine lI s 0 rfl (lI s 0 rfl (lS s 0 rfl ?_));refine Nj s (hA.fr (au s)) (hX.fr (au s)) (by omega) λw1 s _=>?_;rw[hok,Bool.not_true,cond_false];have s:=ay s;refine lI s 0 rfl (lI s 0 rfl (lS s 0 rfl (lS s 0 rfl ?_)));have fin:∀{p rp:Nat} {bs:List Rg.Bk} {ta da:Option Addr} {tc dn dc:Nat} {w':World},Sep No w w' (Dq p rp tw th ca cn cc 0 [] bs 0 ta ln tc (Nn xs) da dn dc (List.replicate cs.length bW))->qU Q (aZ p) w':=λs=>
  an3 hA hT.jC hT.w hT.h hT.len v7.2 (by omega) (anO hok (λx=>ap5) ap6 ajL) s λda dc w' s'=>h da dc w' (dD s0 s' (i:=0) rfl) (au s')
 have cell:∀{w':World} {L':List As} {i j:Nat} {v:Value},Sep No w w' L'->L'[i]? =some (av tb 84 [ae tw,ae th,.slice ca cn cc])->([ae tw,ae th,.slice ca cn cc]:List Value)[j]? =some v->w'.cell? ((aZ tb).add j)=some v:=λs hi hj=>cK s (by rw[cm,Nat.zero_add]) hi hj;have e0:((cn:Nat):Int)=((cs.length:Nat):Int):=by omega
 constructor
 ·refine Rg.QK s (λe=>by omega) λ_ rp w1 bs s=>?_;refine⟨cell s (i:=1) rfl rfl,cell s (i:=1) rfl rfl,cell s (i:=1) rfl rfl,cell s (i:=1) rfl rfl,?_,?_⟩
  ·refine Am s (hX.fr (au s)) p9 hnd λra rc w1 s _=>?_;refine⟨cell s (i:=2) rfl rfl,cell s (i:=2) rfl rfl,cell s (i:=2) rfl rfl,cell s (i:=2) rfl rfl,?_⟩;refine aN s λib w1 s=>?_;refine⟨cell s (i:=3) rfl rfl,cell s (i:=3) rfl rfl,cell s (i:=3) rfl rfl,cell s (i:=3) rfl rfl,?_⟩;rw[e0];refine Lz s (adP s) (by omega) λda w1 s _=>?_;refine⟨cell s (i:=4) rfl rfl,cell s (i:=4) rfl rfl,cell s (i:=4) rfl rfl,?_⟩;refine aN s λpb w1 s=>?_;exact fin (pk 99 [0,4,3,1] s)
  ·refine aN s λib w1 s=>?_;refine⟨cell s (i:=2) rfl rfl,cell s (i:=2) rfl rfl,cell s (i:=2) rfl rfl,cell s (i:=2) rfl rfl,?_⟩;have hI:=adP s;refine Am s (hX.fr (au s)) p9 hnd λra rc w1 s f=>?_;refine⟨cell s (i:=3) rfl rfl,cell s (i:=3) rfl rfl,cell s (i:=3) rfl rfl,cell s (i:=3) rfl rfl,?_⟩;rw[e0];refine Lz s (hI.fr f) (by omega) λda w1 s _=>?_;refine⟨cell s (i:=4) rfl rfl,cell s (i:=4) rfl rfl,cell s (i:=4) rfl rfl,?_⟩;refine aN s λpb w1 s=>?_;exact fin (pk 99 [0,4,2,1] s)
 ·refine aN s λib w1 s=>?_;refine⟨cell s (i:=1) rfl rfl,cell s (i:=1) rfl rfl,cell s (i:=1) rfl rfl,cell s (i:=1) rfl rfl,?_⟩;refine Rg.QK s (λe=>by omega) λ_ rp w1 bs s=>?_;refine⟨cell s (i:=2) rfl rfl,cell s (i:=2) rfl rfl,cell s (i:=2) rfl rfl,cell s (i:=2) rfl rfl,?_⟩;have hI:=adP (ai s);refine Am s (hX.fr (au s)) p9 hnd λra rc w1 s f=>?_;refine⟨cell s (i:=3) rfl rfl,cell s (i:=3) rfl rfl,cell s (i:=3) rfl rfl,cell s (i:=3) rfl rfl,?_⟩;rw[e0];refine Lz s (hI.fr f) (by omega) λda w1 s _=>?_;refine⟨cell s (i:=4) rfl rfl,cell s (i:=4) rfl rfl,cell s (i:=4) rfl (j:=2) rfl,?_⟩;refine aN s λpb w1 s=>?_;exact fin (pk 99 [0,3,2,1] s)
end
end Go.Proofs.YtmegplnmiepfbaaGreatDoor.S
namespace Go.Proofs.YtmegplnmiepfbaaGreatDoor.S
open Go.Sx
def auw {cs:List Value}{t:TypeId}{w:World}{R:World->Prop}{K:Addr->World->Prop}(h:Bx cs t w K)(hr:R (w.alloc (.cells cs.toArray t))):Bx cs t w λp w1=>R w1/\K p w1:=⟨hr,h⟩
attribute [local irreducible] af cA bw bg aA cq bY St Bx Al App cD cy cw bT aL bC aq bR av ak aV mapA
section
variable {F:Nat->Prop}{W w w0:World}{L:List As}{p:Nat}{tw th l:Int}{ca la da:Option Addr}{cn cc ln lc dn dc:Nat}{cs ds:List Int}{xs:List bj}
structure W4 (w:World) (p:Nat) (tw th:Int) (cs:List Int) (xs:List bj) (ds:List Int):Prop where
 ex:∃ca cn cc la ln lc da dn dc,rS w p [ae tw,ae th,.slice ca cn cc,.slice la ln lc,.slice da dn dc]/\Sl w ca cn cc 1 bu cs/\Sl w la ln lc 3 fT xs/\Sl w da dn dc 1 one ds/\ln<2000
 T:rT tw th cs
 len:ds.length=cs.length
 jC:∀x∈ds,0<=x/\x<=bW
def W4.fr {w':World}(k:W4 w p tw th cs xs ds)(f:Fr No w w'):W4 w' p tw th cs xs ds:=by obtain⟨ca,cn,cc,la,ln,lc,da,dn,dc,h1,h2,h3,h4,h5⟩:=k.ex;exact⟨⟨ca,cn,cc,la,ln,lc,da,dn,dc,h1.fr f,h2.fr f,h3.fr f,h4.fr f,h5⟩,k.T,k.len,k.jC⟩
def Ex {Q:Bool->World->Prop}{s:Int}(s0:Sep F W w L)(k:W4 w p tw th cs xs ds)(hl:0<=l/\l<cs.length)(h:∀w',Sep F W w' L->Fr No w w'->Q (Th tw th cs xs (fD ds) l s) w'):
  nF (sZ p) l s w Q:=by
 apply Up;have hT:=k.T;have v7:=hT.small;have hdl:=k.len;obtain⟨ca,cn,cc,la,ln,lc,da,dn,dc,k1,k2,k3,k4,k5⟩:=k.ex;have hdn:=k4.len;have VP:=k2.len;refine abw (bh (F:=No)) k1 hT.w hT.h ⟨hl.1,by omega⟩ λw1 s1 f1=>?_;unfold Th at h;have hfl:fD ds l=gi ds l.toNat:=by unfold fD;omega
 by_cases hn:bP tw th l s<0
 ·rw[bN hn];rw[if_pos hn,hfl]at h;have k1:=(k1.fr f1).fr (w':=w1.drew) Fr.refl;have k4:=(k4.fr f1).drew;refine ah (dx (k1 3 _ rfl) (ah (dx (k1 4 _ rfl) ?_)));refine Sl.El k4 (k:=l.toNat) (by omega) (by omega) λq x hx hc=>?_;rw[iD (by omega)]at hx;cases hx;have hc0:=hc 0 _ rfl;apply aR hc0;refine LF (ay s1) ((k3.fr f1).drew) (by omega) λw2 s2 f2=>?_;exact⟨Fr.cell f2 hc0 id,(k1.fr f2) 4 _ rfl,h _ (bV s0 (au s2)) (au s2)⟩
 ·rw[bp hn];rw[if_neg hn,hfl]at h;have hr:=SA hT.w.1 hT.h.1 (by rw[<-hT.len];exact hl) (show 0<=bP tw th l s by omega);have hnl:bP tw th l s<cs.length:=by rw[hT.len];exact hr.1
  have hfn:fD ds (bP tw th l s)=gi ds (bP tw th l s).toNat:=by unfold fD;omega
  rw[hfn]at h;have k1:=(k1.fr f1).fr (w':=w1.drew) Fr.refl;have k2:=(k2.fr f1).drew;have k4:=(k4.fr f1).drew;have s1:=ay s1;have Ym:=hT.jC _ (fE (i:=(bP tw th l s).toNat) (by omega));have hd1:=k.jC _ (fE (i:=(bP tw th l s).toNat) (by omega));refine ah (dx (k1 2 _ rfl) ?_);apply k2.Db (k:=(bP tw th l s).toNat) (by omega) (by omega);have h:=h _ (bV s0 (au s1)) (au s1);by_cases h1:gi cs (bP tw th l s).toNat=255
  ·grind
  ·have e:(gi cs (bP tw th l s).toNat !=255)=true:=by grind
   rw[e,Bool.true_and]at h;rw[e,cond_true];refine ah (dx (k1 2 _ rfl) ?_);apply k2.Db (k:=(bP tw th l s).toNat) (by omega) (by omega);refine ah (dx (k1 4 _ rfl) ?_);apply k4.rG (k:=(bP tw th l s).toNat) (by omega) (by omega);refine ah (dx (k1 4 _ rfl) ?_);apply k4.rG (k:=l.toNat) (by omega) (by omega);unfold bW at hd1;rw[aG (n:=gi cs (bP tw th l s).toNat),aG];exact h
def adQ {Q:Int->World->Prop}(s0:Sep F W w L)(k:W4 w p tw th cs xs ds)(hl:0<=l/\l<cs.length)(h:∀w',Sep F W w' L->Fr No w w'->Q (ZJ tw th cs xs (fD ds) l) w'):
  z6 (sZ p) l w Q:=by
 apply Sc;have hdl:=k.len;have hfl:fD ds l=gi ds l.toNat:=by unfold fD;omega
 obtain⟨ca,cn,cc,la,ln,lc,da,dn,dc,k1,k2,k3,k4,k5⟩:=k.ex;have hdn:=k4.len;refine ah (dx (k1 4 _ rfl) ?_);apply k4.rG (k:=l.toNat) (by omega) (by omega);unfold ZJ at h;rw[hfl]at h;by_cases hI:gi ds l.toNat=bW
 ·rw[if_pos hI]at h;rw[eC (show gi ds l.toNat=1099511627776 from hI),cond_true];exact h w s0 Fr.refl
 rw[if_neg hI]at h;rw[cQ (show gi ds l.toNat≠1099511627776 from hI),cond_false];refine ah (dx (k1 3 _ rfl) ?_);refine LF (bh (F:=No)) k3 (by omega) λw1 s1 f1=>?_;by_cases hB:Is xs l 4=gi ds l.toNat
 ·rw[if_pos hB]at h;rw[eC hB.symm,cond_true];exact h w1 (bV s0 f1) f1
 rw[if_neg hB]at h;rw[cQ (λe=>hB e.symm),cond_false];apply Ox;unfold ux sy sw;refine Ex s1 (k.fr f1) hl λw1 s1 _=>?_;cases h0:Th tw th cs xs (fD ds) l 0 with
 |true=>rw[h0,if_pos rfl]at h;rw[cond_true];exact h w1 (bV s0 (au s1)) (au s1)
 |false=>
  rw[h0,if_neg (by decide)]at h;refine Ex s1 (k.fr (au s1)) hl λw1 s1 _=>?_;cases h0:Th tw th cs xs (fD ds) l 1 with
  |true=>rw[h0,if_pos rfl]at h;rw[cond_true];exact h w1 (bV s0 (au s1)) (au s1)
  |false=>
   rw[h0,if_neg (by decide)]at h;refine Ex s1 (k.fr (au s1)) hl λw1 s1 _=>?_;cases h0:Th tw th cs xs (fD ds) l 2 with
   |true=>rw[h0,if_pos rfl]at h;rw[cond_true];exact h w1 (bV s0 (au s1)) (au s1)
   |false=>
    rw[h0,if_neg (by decide)]at h;refine Ex s1 (k.fr (au s1)) hl λw1 s1 _=>?_;cases h0:Th tw th cs xs (fD ds) l 3 with
    |true=>rw[h0,if_pos rfl]at h;rw[cond_true];exact h w1 (bV s0 (au s1)) (au s1)
    |false=>rw[h0,if_neg (by decide)]at h;rw[cond_false];exact h w1 (bV s0 (au s1)) (au s1)
noncomputable def nQ (tw th:Int)(cs:List Int)(xs:List bj):List Int:=(List.range cs.length).map λl:Nat=>ZJ tw th cs xs (fD (ju tw th cs xs)) l
def asT (hok:rR tw th cs xs=true)(hT:rT tw th cs):∀x∈ju tw th cs xs,0<=x/\x<=bW:=λx hx=>by
 obtain⟨l,hl,rfl⟩:=List.mem_map.1 hx;unfold rR at hok;rw[Bool.and_eq_true,List.all_eq_true]at hok;have hs:∀x k,Nm xs x k->0<=k/\k<=1073741824:=by rintro x k ⟨y,hy,rfl,rfl⟩;have:=hok.2 y hy;unfold Ai at this;grind
 have he:∀x n c,Iu tw th cs x n c->1<=c/\c<=254:=λx n c h=>by have h1:=hT.jC _ (fE (i:=n.toNat) (by have:=h.2.1;unfold It at this;omega));have h2:=h.2.1.2.2;rw[h.2.2.2];omega
 have alH:∀{x d},Wy (Nm xs) (Iu tw th cs) x d->x∈(List.range cs.length).map λl:Nat=>(l:Int):=λhw=>by
  have hm:∀{x:Int},0<=x/\x<cs.length->x∈(List.range cs.length).map λl:Nat=>(l:Int):=λ{x} hx=>List.mem_map.2 ⟨x.toNat,List.mem_range.2 (by omega),by omega⟩;cases hw with
  |src h=>
   obtain⟨y,hy,rfl,rfl⟩:=h;have:=hok.2 y hy;unfold Ai at this;grind
  |go e _=>exact hm ⟨e.1.1,e.1.2.1⟩
 show 0<=gL _ _ _/\gL _ _ _<=bW;by_cases hw:∃d,Wy (Nm xs) (Iu tw th cs) l d
 ·obtain⟨d,hd⟩:=hw;have h1:=aaO hs he _ (λx d h=>alH h) hd;have h2:=mK (λx k h=>(hs x k h).1) (λx n c h=>by grind) (qO (λx k h=>(hs x k h).1) (λx n c h=>by grind) hd).1;rw[List.length_map,List.length_range]at h1;have:=hT.small;unfold bW;omega
 ·rw[xI λd hd=>hw ⟨d,hd⟩];unfold bW;omega
def avY {a:Option Addr}{n c:Nat}{bs:List Int}{x:Int}{ad:Addr}{v:Value}{K:Option Addr->Nat->Nat->World->Prop}(s:Sep F W w (ak a n c 3 1 (flat one bs)::L))(hn:n<=1000000000)(hc:w.cell? ad=some v)
  (k:∀a' c' w',Sep F W w' (ak a' (n+1) c' 3 1 (flat one (bs++[x]))::L)->K a' (n+1) c' w'):Bx [ae x] 3 w λp w1=>w1.cell? ad=some v/\App P #[29,29] 29 (.slice a n c) (.slice (some p) 1 1) w1 K:=by
 have hB:=Lx s hn k;exact auw hB (Fr.cell (F:=No) (Fr.alloc Fr.refl _) hc id)
def X0 {Q:Option Addr->Nat->Nat->Option Addr->Nat->Nat->Int->World->Prop}(s0:Sep F W w L)(hA:Sl w ca cn cc 1 bu cs)(hX:Sl w la ln lc 3 fT xs)(hT:rT tw th cs)(hok:rR tw th cs xs=true)(hnd:xs.Nodup)(p9:ln<2000)
  (h:∀da dc ra rc w',Sep F W w' (ak ra cs.length rc 3 1 (flat one (nQ tw th cs xs))::ak da cs.length dc 3 1 (flat one (ju tw th cs xs))::L)->Fr No w w'->Q da cs.length dc ra cs.length rc 0 w'):
  Dz tw th ca cn cc la ln lc w Q:=by
 apply XP;have v7:=hT.small;refine aN (bh (F:=No)) λtb w1 s=>?_;refine aS s λrb w1 s=>?_;refine lI s 1 rfl (lI s 1 rfl (lS s 1 rfl ?_));refine V8 s (hA.fr (au s)) (hX.fr (au s)) hT hok hnd p9 λda dc w1 s _=>?_;refine lI s 2 rfl (lI s 2 rfl (lS s 2 rfl ?_));refine aN s λhb w1 s=>?_;refine aS s λfb w1 s=>?_;refine sT s 0 rfl λw1 s=>?_;refine ax s (i:=0) rfl rfl rfl λw1 s=>?_;have loop:∀(j i:Nat) (ra:Option Addr) (rc:Nat) (w2:World),i+j=cs.length->
   Sep No w w2 [ak ra i rc 3 1 (flat one ((nQ tw th cs xs).take i)),av fb 213 [.slice da cs.length dc,.slice ra i rc],av hb 340 [ae tw,ae th,.slice ca cn cc,.slice la ln lc,.slice da cs.length dc],ak da cs.length dc 3 1 (flat one (ju tw th cs xs)),av rb 213 [.slice none 0 0,.slice none 0 0]]->
   sA Q (j+1) (aZ rb) (aZ hb) (aZ fb) cs.length i w2:=by
  intro j;induction j with
  |zero=>
   intro i ra rc w2 hi s;show xm Q (sA Q 0) _ _ _ _ _ _;rw[xm,bp];refine lS s 1 rfl (lS s 1 rfl ?_);refine sT s 4 rfl λw2 s=>?_;refine ax s (i:=4) rfl rfl rfl λw2 s=>?_;refine lS s 4 rfl (lS s 4 rfl ?_);obtain rfl:i=cs.length:=by omega
   rw[List.take_of_length_le (by unfold nQ;grind)]at s;have s':Sep No w w2 [ak ra cs.length rc 3 1 (flat one (nQ tw th cs xs)),ak da cs.length dc 3 1 (flat one (ju tw th cs xs))]:=pk 99 [0,3] s;exact h da dc ra rc w2 (fy s0 s') (au s')
  |succ j ih=>
   intro i ra rc w2 hi s;show xm Q (sA Q (j+1)) _ _ _ _ _ _;rw[xm,bN];have s:=ay s;apply lS s 1 rfl;have hk:W4 w2.drew hb tw th cs xs (ju tw th cs xs):=⟨⟨_,_,_,_,_,_,_,_,_,lj s (i:=2) rfl,hA.fr (au s),hX.fr (au s),aO s (i:=3) rfl cB (by decide),p9⟩,hT,ZR,asT hok hT⟩;refine adQ s hk (by omega) λw3 s _=>?_;refine⟨cj s 1 rfl,?_⟩;refine avY s (by omega) (cj s 1 rfl) λra' rc' w3 s=>?_;refine ax s (i:=1) rfl rfl rfl λw3 s=>?_;rw[aG];apply ih (i+1) ra' rc' w3 (by omega);have e:(nQ tw th cs xs).take (i+1)=(nQ tw th cs xs).take i++[ZJ tw th cs xs (fD (ju tw th cs xs)) i]:=by rw[nQ,List.take_add_one,List.getElem?_map,List.getElem?_range (by omega)];rfl
   rw[e];exact s
 have s:=pk 99 [0,1,2,3] s;exact⟨cs.length+1,loop cs.length 0 none 0 w1 (by omega) (bD s 3 1)⟩
end
end Go.Proofs.YtmegplnmiepfbaaGreatDoor.S
namespace Go.Proofs.YtmegplnmiepfbaaGreatDoor.S
open Go.Sx
attribute [local irreducible] af cA bw bg aA cq bY St Bx Al App cD cy cw bT aL bC aq bR av ak aV mapA
section
variable {F:Nat->Prop}{W w w0:World}{L:List As}{tw th l:Int}{ca la da:Option Addr}{cn cc ln lc dn dc:Nat}{cs ds ls:List Int}{xs:List bj}
def rT.DL (h:rT tw th cs):Tl.DL tw th cs=true:=Tl.ZD.2 ⟨h.w,h.h,h.len,λe=>by have:=h.jC 0 e;omega⟩
def aqh (hT:rT tw th cs)(hl:0<=l/\l<cs.length)(ho:gi cs l.toNat≠255):rR tw th cs [⟨l,4,0⟩]=true:=by rw[rR,hT.DL,Bool.true_and,List.all_cons,List.all_nil,Bool.and_true];rw[Ai,decide_eq_true hl,show(gi cs l.toNat !=255)=true by grind];rfl
def aqi {b:Nat}{x:bj}(s:Sep F W w (av b 294 [ae x.c,ae x.s,ae x.k]::L)):Sl w (sZ b) 1 1 3 fT [x]:=
 aO (g9 s (i:=0) rfl rfl (by decide) (λu hu=>VT x u hu)) (i:=0) rfl nC (by decide)
def adR {Q:Option Addr->Nat->Nat->Int->World->Prop}(s0:Sep F W w L)(hA:Sl w ca cn cc 1 bu cs)(hT:rT tw th cs)(hl:0<=l/\l<cs.length)(ho:gi cs l.toNat≠255)
  (h:∀da dc w',Sep F W w' (ak da cs.length dc 3 1 (flat one (ju tw th cs [⟨l,4,0⟩]))::L)->Fr No w w'->Q da cs.length dc 0 w'):HJ tw th ca cn cc l w Q:=by
 apply adq;refine aN (bh (F:=No)) λtb w1 s=>?_;refine lI s 0 rfl (lI s 0 rfl (lS s 0 rfl ?_));refine aN s λsb w1 s=>?_;refine V8 s (hA.fr (au s)) (aqi s) hT (aqh hT hl ho) (by simp) (by decide) λda dc w1 s _=>?_;exact h da dc w1 (dD s0 s (i:=0) rfl) (au s)
structure agC (cs ls:List Int):Prop where
 Ec:∀l∈ls,(0<=l/\l<cs.length)/\gi cs l.toNat≠255
 fA:ls.Pairwise (·<·)
 nP:ls.length<=256
def auy (h:agC cs ls){i j:Nat}(hij:i<j)(hj:j<ls.length):gi ls i<gi ls j:=by have:=List.pairwise_iff_getElem.1 h.fA i j (by omega) hj hij;have e1:=iD (l:=ls) (i:=i) (by omega);have e2:=iD hj;grind
def abL {Q:Bool->World->Prop}(s0:Sep F W w L)(hA:Sl w ca cn cc 1 bu cs)(hL:Sl w la ln lc 1 one ls)(hT:rT tw th cs)(hok:agC cs ls)(h:∀w',Sep F W w' L->Fr No w w'->Q true w'):
  Gg tw th ca cn cc la ln lc w Q:=by
 apply abc;have p9:=hL.len;have oX:=hok.nP;refine aN (bh (F:=No)) λtb w1 s=>?_;have loop:∀(j i:Nat) (w1:World),i+j=ln->Sep No w w1 [av tb 84 [ae tw,ae th,.slice ca cn cc]]->wO Q (j+1) la ln lc (aZ tb) la ln lc ln i w1:=by
  intro j;induction j with
  |zero=>
   intro i w1 hi s;show AL Q (wO Q 0) _ _ _ _ _ _ _ _ _ _;rw[AL,bp];refine lI s 0 rfl (lI s 0 rfl (lS s 0 rfl ?_));refine Tl.C2 s (hA.fr (au s)).row λw2 s2 _=>?_;rw[hT.DL];exact h w2 (bV s0 (au s2)) (au s2)
  |succ j ih=>
   intro i w1 hi s;show AL Q (wO Q (j+1)) _ _ _ _ _ _ _ _ _ _;rw[AL,bN];apply(hL.fr (au s)).rG rfl (by omega);refine lI s 0 rfl (lI s 0 rfl (lS s 0 rfl ?_));have ho:=hok.Ec _ (fE (i:=i) (by omega));have hc:=hT.jC _ (fE (i:=(gi ls i).toNat) (by omega));refine Tl.agh s (hA.fr (au s)).row (λx hx=>by have:=hT.jC x hx;omega) λw2 s _=>?_;have e:Tl.atI tw th cs (gi ls i)=gi cs (gi ls i).toNat:=by unfold Tl.atI Tl.isB;rw[decide_eq_true ho.1,hT.DL];rfl
   rw[e,cQ (by omega),cond_false,cQ ho.2,cond_false,aG (n:=(i:Int)+1)];by_cases h0:i=0
   ·rw[bp];exact ih (i+1) w2 (by omega) s
   ·rw[bN,aG];apply(hL.fr (au s)).rG (k:=i-1) (by omega) (by omega);have:=auy hok (i:=i-1) (j:=i) (by omega) (by omega);rw[bp];exact ih (i+1) w2 (by omega) s
 exact⟨ln+1,loop ln 0 w1 (by omega) s⟩
noncomputable def E5 (tw th:Int)(cs ls:List Int)(i j:Nat):Int:=LJ tw th cs [⟨gi ls j,4,0⟩] (gi ls i)
noncomputable def An (tw th:Int)(cs ls:List Int):List Int:=(List.range (ls.length*ls.length)).map λk=>E5 tw th cs ls (k/ls.length) (k%ls.length)
def JM {N x:Nat}{g:Nat->Int}{v:Int}:((List.range N).map g).set x v=(List.range N).map λk=>if k=x then v else g k:=by apply List.ext_getElem?;grind
def alI {n i j:Nat}(hi:i<n)(hj:j<n):i*n+j<n*n:=by have:=Nat.mul_le_mul_right n (show i+1<=n by omega);grind
def akC (hl:0<=l/\l<cs.length):gi (ju tw th cs xs) l.toNat=LJ tw th cs xs l:=by unfold gi ju;grind
def ZS {Q:Option Addr->Nat->Nat->Int->World->Prop}(s0:Sep F W w L)(hA:Sl w ca cn cc 1 bu cs)(hL:Sl w la ln lc 1 one ls)(hT:rT tw th cs)(hok:agC cs ls)
  (h:∀oa oc w',Sep F W w' (ak oa (ls.length*ls.length) oc 3 1 (flat one (An tw th cs ls))::L)->Fr No w w'->Q oa (ls.length*ls.length) oc 0 w'):EX tw th ca cn cc la ln lc w Q:=by
 apply Zs;have p9:=hL.len;have oX:=hok.nP;refine aN (bh (F:=No)) λtb w1 s=>?_;refine lI s 0 rfl (lI s 0 rfl (lS s 0 rfl ?_));refine abL s (hA.fr (au s)) (hL.fr (au s)) hT hok λw1 s _=>?_;subst p9;have hsq:ls.length*ls.length<=65536:=by have:=Nat.mul_le_mul oX oX;omega
 have e1:((ls.length:Nat):Int)*((ls.length:Nat):Int)=((ls.length*ls.length:Nat):Int):=by grind
 rw[e1,aG];generalize hN:ls.length*ls.length=N at*;refine xH (bytes:=8) ef s rfl rfl rfl rfl rfl rfl (by decide) cB rfl (λu hu=>Ff 0 u hu) rfl rfl (Nat.le_refl _) (by omega) (by simp[maxLen];omega) λob w1 s=>?_;have outer:∀(k j:Nat) (w1:World),j+k=ls.length->Sep No w w1 [ak (sZ ob) N N 3 1 (flat one ((List.range N).map λq=>if q%ls.length<j then E5 tw th cs ls (q/ls.length) (q%ls.length)else 0)),av tb 84 [ae tw,ae th,.slice ca cn cc]]->
   qV Q (k+1) la ls.length lc (aZ tb) ls.length (sZ ob) N N la ls.length lc ls.length j w1:=by
  intro k;induction k with
  |zero=>
   intro j w1 hj s;show zi Q (qV Q 0) _ _ _ _ _ _ _ _ _ _ _ _ _ _;rw[zi,bp];have e:((List.range N).map λq=>if q%ls.length<j then E5 tw th cs ls (q/ls.length) (q%ls.length)else 0)=An tw th cs ls:=by
    rw[An,hN];refine List.map_congr_left λq hq=>?_;have hq:=List.mem_range.1 hq;have O0:0<ls.length:=by grind
    rw[if_pos (by have:=Nat.mod_lt q O0;omega)]
   rw[e]at s;exact h _ _ w1 (dD s0 s (i:=0) rfl) (au s)
  |succ k ih=>
   intro j w1 hj s;show zi Q (qV Q (k+1)) _ _ _ _ _ _ _ _ _ _ _ _ _ _;rw[zi,bN];apply(hL.fr (au s)).rG rfl (by omega);refine lI s 1 rfl (lI s 1 rfl (lS s 1 rfl ?_));have ho:=hok.Ec _ (fE (i:=j) (by omega));refine adR s (hA.fr (au s)) hT ho.1 ho.2 λda dc w1 s _=>?_;have inner:∀(k2 i:Nat) (w1:World),i+k2=ls.length->Sep No w w1 [ak da cs.length dc 3 1 (flat one (ju tw th cs [⟨gi ls j,4,0⟩])),ak (sZ ob) N N 3 1 (flat one ((List.range N).map λq=>if q%ls.length<j\/q%ls.length=j/\q/ls.length<i then E5 tw th cs ls (q/ls.length) (q%ls.length)else 0)),av tb 84 [ae tw,ae th,.slice ca cn cc]]->
     su (qV Q (k+1)) Q (k2+1) la ls.length lc (aZ tb) ls.length (sZ ob) N N j da cs.length dc la ls.length lc ls.length j la ls.length lc ls.length i w1:=by
    intro k2;induction k2 with
    |zero=>
     intro i w1 hi s;show xj _ Q (su _ Q 0) _ _ _ _ _ _ _ _ _ _ _ _ _ _ _ _ _ _ _ _ _ _ _;rw[xj,bp,aG];apply ih (j+1) w1 (by omega);have e:((List.range N).map λq=>if q%ls.length<j\/q%ls.length=j/\q/ls.length<i then E5 tw th cs ls (q/ls.length) (q%ls.length)else 0)=(List.range N).map λq=>if q%ls.length<j+1 then E5 tw th cs ls (q/ls.length) (q%ls.length)else 0:=by
      refine List.map_congr_left λq hq=>?_;have hq:=List.mem_range.1 hq;have hd:q/ls.length<ls.length:=Nat.div_lt_of_lt_mul (by omega);by_cases c1:q%ls.length<j+1
      ·rw[if_pos c1,AA]
      ·rw[if_neg c1,fS]
     rw[e]at s;exact ai s
    |succ k2 ih2=>
     intro i w1 hi s;show xj _ Q (su _ Q (k2+1)) _ _ _ _ _ _ _ _ _ _ _ _ _ _ _ _ _ _ _ _ _ _ _;rw[xj,bN];apply(hL.fr (au s)).rG rfl (by omega);have hoi:=hok.Ec _ (fE (i:=i) (by omega));apply(aO s (i:=0) rfl cB (by decide)).rG (k:=(gi ls i).toNat) (by omega) (by omega);rw[akC hoi.1];have hb:=alI (n:=ls.length) (i:=i) (j:=j) (by omega) (by omega);rw[hN]at hb;have e2:(i:Int)*((ls.length:Nat):Int)=((i*ls.length:Nat):Int):=by rw[Int.natCast_mul]
     rw[e2,aG (n:=((i*ls.length:Nat):Int)),aG,aG];refine E1 cB s (i:=1) (k:=i*ls.length+j) (x':=LJ tw th cs [⟨gi ls j,4,0⟩] (gi ls i)) rfl (by omega) (by rw[List.length_map,List.length_range];exact hb) rfl rfl λw1 s=>?_;apply ih2 (i+1) w1 (by omega);rw[JM]at s;have e:((List.range N).map λq=>if q=i*ls.length+j then LJ tw th cs [⟨gi ls j,4,0⟩] (gi ls i)else if q%ls.length<j\/q%ls.length=j/\q/ls.length<i then E5 tw th cs ls (q/ls.length) (q%ls.length)else 0)=
       (List.range N).map λq=>if q%ls.length<j\/q%ls.length=j/\q/ls.length<i+1 then E5 tw th cs ls (q/ls.length) (q%ls.length)else 0:=by
      refine List.map_congr_left λq hq=>?_;have O0:0<ls.length:=by omega
      by_cases c1:q=i*ls.length+j
      ·have d1:q/ls.length=i:=by rw[c1,Nat.mul_comm,Nat.mul_add_div O0,Nat.div_eq_of_lt (by omega),Nat.add_zero]
       have d2:q%ls.length=j:=by rw[c1,Nat.mul_comm,Nat.mul_add_mod,Nat.mod_eq_of_lt (by omega)]
       rw[if_pos c1,AA,d1,d2];rfl
      ·rw[if_neg c1];have d3:¬(q%ls.length=j/\q/ls.length=i):=λ⟨a,b⟩=>by apply c1;have:=Nat.div_add_mod q ls.length;rw[a,b,Nat.mul_comm]at this;omega
       by_cases c2:q%ls.length<j\/q%ls.length=j/\q/ls.length<i
       ·rw[if_pos c2,AA]
       ·rw[if_neg c2,fS]
     rw[e]at s;exact s
   refine⟨ls.length+1,inner ls.length 0 w1 (by omega) ?_⟩;have e:((List.range N).map λq=>if q%ls.length<j then E5 tw th cs ls (q/ls.length) (q%ls.length)else 0)=(List.range N).map λq=>if q%ls.length<j\/q%ls.length=j/\q/ls.length<0 then E5 tw th cs ls (q/ls.length) (q%ls.length)else 0:=by
    refine List.map_congr_left λq hq=>?_;by_cases c1:q%ls.length<j
    ·rw[if_pos c1,if_pos (.inl c1)]
    ·rw[if_neg c1,if_neg (by rintro (h|⟨_,h⟩);exact c1 h;exact Nat.not_lt_zero _ h)]
   rw[e]at s;exact s
 refine⟨ls.length+1,outer ls.length 0 w1 (by omega) ?_⟩;have e:((List.range N).map λq=>if q%ls.length<0 then E5 tw th cs ls (q/ls.length) (q%ls.length)else 0)=List.replicate N 0:=by rw[List.eq_replicate_iff];refine⟨by simp,λx hx=>?_⟩;obtain⟨q,_,rfl⟩:=List.mem_map.1 hx;rw[fS]
 grind
end
end Go.Proofs.YtmegplnmiepfbaaGreatDoor.S
namespace Go.Proofs.YtmegplnmiepfbaaGreatDoor.S
open Go.Sx
section
variable {m:bJ}{t x n c d s sc l a b:Int}
def iX (m:bJ)(sc:Int):List Int:=(aW m sc).map (dY m.w m.h)
def V9 (m:bJ)(sc:Int):List Nat:=(List.range (aD m.w m.h sc*bz m.w m.h sc).toNat).filter λl=>yu m.w m.h sc 4 l&&ff m (bU m.w m.h sc l)
def nodes_eq:aW m sc=(V9 m sc).map λl:Nat=>bU m.w m.h sc l:=by unfold aW vm V9;rw[List.filter_map,List.filter_filter];grind
def an4 (hs:dX m.w m.h sc):iX m sc=(V9 m sc).map λl:Nat=>(l:Int):=by rw[iX,nodes_eq,List.map_map];refine List.map_congr_left λl hl=>?_;have hl:=List.mem_range.1 (List.mem_filter.1 hl).1;exact F3 hs (by omega)
def abM:(V9 m sc).Pairwise (·<·):=List.Pairwise.filter _ List.pairwise_lt_range
def an5 (hs:dX m.w m.h sc){k:Int}(hk:0<=k/\k<l)(hl:l<aD m.w m.h sc*bz m.w m.h sc):bU m.w m.h sc k<bU m.w m.h sc l:=by
 obtain⟨⟨w1,w2⟩,⟨h1,h2⟩,p1,p2,p3,p4⟩:=zu hs;have hw:aD m.w m.h sc<=m.w-16*(sc%cE m.w):=by unfold aD;omega
 have hk1:=O6 hs (l:=k) (by omega);have hl1:=O6 hs (l:=l) (by omega);have ek:=Int.mul_ediv_add_emod k (aD m.w m.h sc);have el:=Int.mul_ediv_add_emod l (aD m.w m.h sc);unfold bU;by_cases e:k/aD m.w m.h sc=l/aD m.w m.h sc
 ·grind
 ·have hlt:k/aD m.w m.h sc<=l/aD m.w m.h sc:=Int.ediv_le_ediv (by omega) (by omega);have h3:=Int.mul_le_mul_of_nonneg_right (show 16*(sc/cE m.w)+k/aD m.w m.h sc+1<=16*(sc/cE m.w)+l/aD m.w m.h sc by omega) (show 0<=m.w by omega);grind
def Nv (hs:dX m.w m.h sc):(aW m sc).Pairwise (·<·):=by rw[nodes_eq,List.pairwise_map];refine List.Pairwise.imp_of_mem ?_ abM;intro k l hk hl h;have hl:=List.mem_range.1 (List.mem_filter.1 hl).1;exact an5 hs ⟨by omega,by omega⟩ (by omega)
def an6 (hm:cR m)(hs:dX m.w m.h sc):agC (dU m sc) (iX m sc):=by
 have e:=an4 hs;refine⟨λl hl=>?_,?_,?_⟩
 ·rw[e]at hl;obtain⟨k,hk,rfl⟩:=List.mem_map.1 hl;have h1:=(List.mem_filter.1 hk).2;have hk:=List.mem_range.1 (List.mem_filter.1 hk).1;rw[Bool.and_eq_true]at h1;have h2:=(I8 hm hs (by omega)).2 h1.2;exact⟨⟨h2.1,h2.2.1⟩,h2.2.2⟩
 ·rw[e,List.pairwise_map];exact List.Pairwise.imp (λh=>by omega) abM
 ·rw[e,List.length_map];obtain⟨⟨w1,w2⟩,⟨h1,h2⟩,_⟩:=zu hs;have h3:=Int.mul_le_mul w2 h2 (by omega) (by decide);have h4:=List.length_filter_le (λl:Nat=>yu m.w m.h sc 4 l&&ff m (bU m.w m.h sc l)) (List.range (aD m.w m.h sc*bz m.w m.h sc).toNat);rw[List.length_range]at h4;unfold V9;omega
def zM (hs:dX m.w m.h sc):(aW m sc).length<=256:=by have:=abq hs;have h1:=List.length_filter_le (ff m) (vm m.w m.h sc);unfold aW;omega
def ajQ (hs:dX m.w m.h sc):(aW m sc).Nodup:=List.Pairwise.imp (λh e=>by omega) (Nv hs)
def QN (hm:cR m)(hs:dX m.w m.h sc):rT (aD m.w m.h sc) (bz m.w m.h sc) (dU m sc):=by obtain⟨w,h,_⟩:=zu hs;have h1:=Int.mul_le_mul w.1 h.1 (by decide) (by omega);refine⟨w,h,by rw[Ck];omega,λx hx=>?_⟩;obtain⟨l,hl,rfl⟩:=List.mem_map.1 hx;have hl:=List.mem_range.1 hl;have:=LI hm (sO hs (l:=l) (by omega));omega
noncomputable def qh (m:bJ)(sc a b:Int):Int:=LJ (aD m.w m.h sc) (bz m.w m.h sc) (dU m sc) [⟨dY m.w m.h b,4,0⟩] (dY m.w m.h a)
def QO (hm:cR m)(hs:dX m.w m.h sc)(ha:bK m.w m.h a/\aC m.w m.h a=sc)(hb:bK m.w m.h b/\aC m.w m.h b=sc):qh m sc a b=gL (F4 b) (tN (fU m) (cS m) sc) a:=by
 have hla:=jY ha.1;have hga:=nT ha.1;have hlb:=jY hb.1;have hgb:=nT hb.1;rw[ha.2]at hla hga;unfold qh LJ;rw[ah2 hm hs (S':=F4 b) (λl k hl=>?_) hla,hga];unfold Nm F4;constructor
 ·grind
 ·rintro ⟨h1,rfl⟩;refine⟨_,List.mem_singleton.2 rfl,?_,rfl⟩;rw[<-h1];exact F3 hs hl
def ae8 (hm:cR m)(Tk:ff m b=true){d:Int}(hw:Wy (F4 b) (tN (fU m) (cS m) sc) a d):0<=gL (F4 b) (tN (fU m) (cS m) sc) a/\gL (F4 b) (tN (fU m) (cS m) sc) a<=254*(m.w*m.h-1):=by
 have alH:∀x d,Wy (F4 b) (tN (fU m) (cS m) sc) x d->x∈jU m:=λx d h=>by
  cases h with
  |src h=>rw[h.1];exact zv hm (jT hm Tk)
  |go e _=>exact zv hm (jT hm e.1.1)
 have h1:=aaO (K:=0) (λx k h=>by rw[h.2];omega) (λx n c h=>GC h.1) (jU m) alH hw;have h2:((jU m).length:Int)=m.w*m.h:=by rw[<-hm.len];simp[jU]
 refine⟨mK (λx k h=>by rw[h.2];grind) (λx n c h=>cZ _ _ _ h.1) (qO (λx k h=>by rw[h.2];grind) (λx n c h=>cZ _ _ _ h.1) hw).1,by omega⟩
def ZT (hm:cR m)(hs:dX m.w m.h sc)(ha:bK m.w m.h a/\aC m.w m.h a=sc)(hb:bK m.w m.h b/\aC m.w m.h b=sc)(Tk:ff m b=true):
  qh m sc a b≠bW↔∃d,Wy (F4 b) (tN (fU m) (cS m) sc) a d:=by
 rw[QO hm hs ha hb];constructor
 ·intro h;refine Classical.byContradiction λk=>h (xI λd hd=>k ⟨d,hd⟩)
 ·rintro ⟨d,hd⟩;have:=ae8 hm Tk hd;have:=mV ⟨hm.w,hm.h⟩;unfold bW;omega
def ZU (hm:cR m)(hs:dX m.w m.h sc)(ha:bK m.w m.h a/\aC m.w m.h a=sc)(hb:bK m.w m.h b/\aC m.w m.h b=sc)(Tk:ff m b=true):0<=qh m sc a b/\(qh m sc a b≠bW->qh m sc a b<1000000000)/\qh m sc a b<=bW:=by
 have e:=QO hm hs ha hb;by_cases hw:∃d,Wy (F4 b) (tN (fU m) (cS m) sc) a d
 ·obtain⟨d,hd⟩:=hw;have h1:=ae8 hm Tk hd;have h2:=mV ⟨hm.w,hm.h⟩;unfold bW;omega
 ·have h1:qh m sc a b=bW:=by rw[e];exact xI λd hd=>hw ⟨d,hd⟩
  rw[h1];exact⟨by decide,λh=>(h rfl).elim,Int.le_refl _⟩
noncomputable def abN (m:bJ)(b:Int):List (Int×Int):=(aW m (cS m b)).filterMap λa=>if a≠b/\qh m (cS m b) a b≠bW then some (a,qh m (cS m b) a b)else none
open Classical in
noncomputable def QS (m:bJ)(b s:Int):Option (Int×Int):=if 0<=bf m.w m.h b s/\oe m (bf m.w m.h b s)/\cS m (bf m.w m.h b s)≠cS m b then some (bf m.w m.h b s,cT m b)else none
noncomputable def SC (m:bJ)(b:Int)(j:Nat):List (Int×Int):=(List.range j).filterMap λs:Nat=>QS m b s
noncomputable def Ks (m:bJ)(b:Int):List (Int×Int):=abN m b++SC m b 4
def abO (m:bJ)(b:Int)(j:Nat):SC m b (j+1)=SC m b j++(QS m b j).toList:=by rw[SC,List.range_succ,List.filterMap_append];congr 1
def auA (hm:cR m)(h:oe m x)(hx:bK m.w m.h x):ff m x=true:=(mF (bS hx) h).1
def aif (hm:cR m)(hb:oe m b)(hbc:bK m.w m.h b){e:Int×Int}:e∈Ks m b↔Jn (fU m) (cS m) (oe m) e.1 b e.2:=by
 have hs:=bS hbc;have Tk:=(mF hs hb).1;rw[Ks,List.mem_append];constructor
 ·rintro (h|h)
  ·obtain⟨a,ha,h1⟩:=List.mem_filterMap.1 h;split at h1
   ·rename_i h2;cases h1;obtain⟨a1,a2,a3⟩:=mF hs ha;have hn:oe m a:=by show a∈aW m (cS m a);rw[show cS m a=cS m b from a3];exact ha
    refine⟨hn,hb,.inl ⟨a3,h2.1,(ZT hm hs ⟨a2,a3⟩ ⟨hbc,rfl⟩ Tk).1 h2.2,QO hm hs ⟨a2,a3⟩ ⟨hbc,rfl⟩⟩⟩
   ·cases h1
  ·obtain⟨s,Tm,h1⟩:=List.mem_filterMap.1 h;have Tm:=List.mem_range.1 Tm;unfold QS at h1;split at h1
   ·rename_i h2;cases h1;obtain⟨s',hs',agD⟩:=I7 ⟨by omega,by omega⟩ h2.1;have hac:=(zR h2.1).2;have hoa:=auA hm h2.2.1 hac;exact⟨h2.2.1,hb,.inr ⟨h2.2.2,hoa,Tk,⟨s',hs',agD⟩,rfl⟩⟩
   ·cases h1
 ·rintro ⟨ha,_,⟨h1,h2,h3,h4⟩|⟨h1,h2,h3,⟨s,Tm,h4⟩,h5⟩⟩
  ·left;have hb2:cS m b=aC m.w m.h b:=rfl;have hac:bK m.w m.h e.1:=by
    have:e.1∈aW m (cS m b):=by rw[<-h1];exact ha
    exact(mF hs this).2.1
   have e4:=QO hm hs ⟨hac,h1⟩ ⟨hbc,rfl⟩;refine List.mem_filterMap.2 ⟨e.1,by rw[<-h1];exact ha,?_⟩;rw[if_pos ⟨h2,(ZT hm hs ⟨hac,h1⟩ ⟨hbc,rfl⟩ Tk).2 h3⟩,hb2,e4];grind
  ·right;have hb0:0<=bf m.w m.h e.1 s:=by rw[h4];exact hbc.2.1
   obtain⟨s',hs',agD⟩:=I7 Tm hb0;rw[h4]at agD;refine List.mem_filterMap.2 ⟨s'.toNat,List.mem_range.2 (by omega),?_⟩;rw[Int.toNat_of_nonneg hs'.1];rw[QS,agD,if_pos ⟨(jT hm h2).2.1,ha,h1⟩];grind
end
def aqj {P:Program}{t e:TypeId}{inf:TypeInfo}{b i j:Nat}{w:World}(d:Nat)(hu:P.underlying t=some (.pointer e))(hi:P.info? e=some inf)(hs:inf.size≠0):
  (Op.equalIn (d+1) t (.pointer (some ⟨b,i,none⟩)) (.pointer (some ⟨b,j,none⟩))).run P w=.ok (decide (i=j)) w:=by
 simp[Op.equalIn,run_underlying hu,sizeOf,typeInfo,hi,hs,sameAddr];grind
def auB {P:Program}{t e:TypeId}{inf:TypeInfo}{x y:Operand}{b i j:Nat}{w:World}{K:Bool->World->Prop}(hu:P.underlying t=some (.pointer e))(hi:P.info? e=some inf)(hs:inf.size≠0)(h:K (!decide (i=j)) w):
  bT P .neq t x y (.pointer (some ⟨b,i,none⟩)) (.pointer (some ⟨b,j,none⟩)) w K:=by
 have h1:(Op.equal t (.pointer (some ⟨b,i,none⟩)) (.pointer (some ⟨b,j,none⟩))).run P w=.ok (decide (i=j)) w:=aqj 9999 hu hi hs;unfold bT aL;rw[show binOp .neq t (.pointer (some ⟨b,i,none⟩)) (.pointer (some ⟨b,j,none⟩))=(do pure (.bool (!(<-Op.equal t (.pointer (some ⟨b,i,none⟩)) (.pointer (some ⟨b,j,none⟩))))))from rfl];simp[eqGuard_at_pointer,Sem.run_bind,Sem.run_pure,Result.andThen_ok,h1];exact h
end Go.Proofs.YtmegplnmiepfbaaGreatDoor.S
namespace Go.Proofs.YtmegplnmiepfbaaGreatDoor.S.Ta
open Go.Sx
def U (n:Int):Prop:=0<=n/\n<18446744073709551616
def sat (a b:Int):Int:=if a+b<18446744073709551616 then a+b else 18446744073709551615
def GI {a b:Int}(ha:U a)(hb:U b):U (sat a b):=by unfold sat;unfold U at*;omega
def Bp {a b:Int}{w:World}{Q:Int->World->Prop}(ha:U a)(hb:U b)(h:Q (sat a b) w):r6 a b w Q:=by
 unfold U at ha hb;apply aaY;rw[wrap_u64 (by omega) (by omega)];unfold sat at h;by_cases hc:a>18446744073709551615-b
 ·grind
 ·rw[bp hc,wrap_u64 (by omega) (by omega)];grind
def V_ {F:Nat->Prop}{W w:World}{L:List As}{a b c d e f:Int}{Q:Int->Int->Int->Int->Int->Int->World->Prop}(s:Sep F W w L)(h:∀w',Sep F W w' L->Q a b c d e f w'):cU a b c d e f w Q:=by apply Vf;refine aN s λb1 w1 s=>?_;refine aS s λb2 w2 s=>?_;apply dw s (i:=1) rfl rfl rfl;apply dw s (i:=1) rfl rfl rfl;apply dw s (i:=1) rfl rfl rfl;apply dw s (i:=1) rfl rfl rfl;apply dw s (i:=1) rfl rfl rfl;apply dw s (i:=1) rfl rfl rfl;refine ax s (i:=0) rfl rfl rfl λw3 s=>?_;refine ax s (i:=0) rfl rfl rfl λw3 s=>?_;refine ax s (i:=0) rfl rfl rfl λw3 s=>?_;refine ax s (i:=0) rfl rfl rfl λw3 s=>?_;refine ax s (i:=0) rfl rfl rfl λw3 s=>?_;refine ax s (i:=0) rfl rfl rfl λw3 s=>?_;apply dw s (i:=0) rfl rfl rfl;apply dw s (i:=0) rfl rfl rfl;apply dw s (i:=0) rfl rfl rfl;apply dw s (i:=0) rfl rfl rfl;apply dw s (i:=0) rfl rfl rfl;apply dw s (i:=0) rfl rfl rfl;exact h _ (ai (ai s))
end Go.Proofs.YtmegplnmiepfbaaGreatDoor.S.Ta
namespace Go.Proofs.YtmegplnmiepfbaaGreatDoor.S.Ta
open Go.Sx
attribute [local irreducible] af cA bw bg aA cq bY St Bx Al App cD cy cw bT aL bC aq bR av
def avZ:zc T 175=[.int .u64 0,.int .u64 0,.int .u64 0,.int .u64 0,.int .u64 0,.int .u64 0]:=rfl
def auC:zc T 32=[.int .u64 0,.int .u64 0,.int .u64 0,.int .u64 0,.int .u64 0,.int .u64 0]:=rfl
section
variable {F:Nat->Prop}{W w:World}{L:List As}{Q:Int->Int->Int->Int->Int->Int->World->Prop}
def p_ {r x y:Nat}{tx ty:TypeId}{xs ys:List Value}{i j k n:Nat}{t:Int}{p q:Int}(s:Sep F W w L)(ht:t=n)(hn:n<6)
  (hi:L[i]? =some (av x tx xs))(hj:L[j]? =some (av y ty ys))(hp:xs[n]? =some (.int .u64 p))(hq:ys[n]? =some (.int .u64 q))(up:U p)(uq:U q)(hl:Nat.blt n xs.length=true)
  (h:∀w',Sep F W w' (L.set i (av x tx (xs.set n (.int .u64 (sat p q)))))->pY Q k (aZ r) (aZ x) (aZ y) ((n+1:Nat):Int) w'):pY Q (k+1) (aZ r) (aZ x) (aZ y) t w:=by
 subst ht;show sU Q (pY Q k) _ _ _ _ _;rw[sU,bN];have e1:((n:Int).toNat*1)=n:=by omega
 have s':Sep F W w.drew L:=s;rw[e1];refine⟨by omega,by omega,?_⟩;apply dw s' (by rw[cm,Nat.zero_add]) hi hp;refine⟨by omega,by omega,?_⟩;apply dw s' (by rw[cm,Nat.zero_add]) hj hq;apply Bp up uq;refine⟨by omega,by omega,?_⟩;refine ax s' (by rw[cm,Nat.zero_add]) hi hl λw' s=>?_;rw[aG];exact h _ s
def auD {r x y:Nat}{tr tx ty:TypeId}{a b c d e f a' b' c' d' e' f':Int}(s:Sep F W w (av x tx [.int .u64 a,.int .u64 b,.int .u64 c,.int .u64 d,.int .u64 e,.int .u64 f]::av y ty [.int .u64 a',.int .u64 b',.int .u64 c',.int .u64 d',.int .u64 e',.int .u64 f']::av r tr (zc T 32)::L))
  (u:(U a/\U b/\U c/\U d/\U e/\U f)/\U a'/\U b'/\U c'/\U d'/\U e'/\U f')
  (h:∀w',Sep F W w' L->Q (sat a a') (sat b b') (sat c c') (sat d d') (sat e e') (sat f f') w'):gY Q (aZ r) (aZ x) (aZ y) w:=by
 obtain⟨⟨ua,ub,uc,ud,ue,uf⟩,va,vb,vc,vd,ve,vf⟩:=u;refine⟨7,?_⟩;refine p_ s (n:=0) (i:=0) (j:=1) rfl (by omega) rfl rfl rfl rfl ua va rfl λw s=>?_;refine p_ s (i:=0) (j:=1) rfl (by omega) rfl rfl rfl rfl ub vb rfl λw s=>?_;refine p_ s (i:=0) (j:=1) rfl (by omega) rfl rfl rfl rfl uc vc rfl λw s=>?_;refine p_ s (i:=0) (j:=1) rfl (by omega) rfl rfl rfl rfl ud vd rfl λw s=>?_;refine p_ s (i:=0) (j:=1) rfl (by omega) rfl rfl rfl rfl ue ve rfl λw s=>?_;refine p_ s (i:=0) (j:=1) rfl (by omega) rfl rfl rfl rfl uf vf rfl λw s=>?_;show sU Q (pY Q 0) _ _ _ _ _;unfold sU;refine⟨by decide,by decide,?_⟩;apply lI s 0 rfl;refine⟨by decide,by decide,?_⟩;apply lI s 0 rfl;refine⟨by decide,by decide,?_⟩;apply lI s 0 rfl;refine⟨by decide,by decide,?_⟩;apply lI s 0 rfl;refine⟨by decide,by decide,?_⟩;apply lI s 0 rfl;refine⟨by decide,by decide,?_⟩;apply lI s 0 rfl
 repeat' first
  |apply lI s 2 rfl
  |(refine ax s (i:=2) rfl rfl rfl λw' s=>?_;simp[Nat.zero_add,List.set_cons_zero,List.set_cons_succ]at s)
 exact h _ (ai (ai (ai s)))
def auE {r x y:Nat}{tr tx ty:TypeId}{a b c d e f a' b' c' d' e' f':Int}(s:Sep F W w (av y ty [.int .u64 a',.int .u64 b',.int .u64 c',.int .u64 d',.int .u64 e',.int .u64 f']::av x tx [.int .u64 a,.int .u64 b,.int .u64 c,.int .u64 d,.int .u64 e,.int .u64 f]::av r tr (zc T 32)::L))
  (u:(U a/\U b/\U c/\U d/\U e/\U f)/\U a'/\U b'/\U c'/\U d'/\U e'/\U f')
  (h:∀w',Sep F W w' L->Q (sat a a') (sat b b') (sat c c') (sat d d') (sat e e') (sat f f') w'):gY Q (aZ r) (aZ x) (aZ y) w:=by
 obtain⟨⟨ua,ub,uc,ud,ue,uf⟩,va,vb,vc,vd,ve,vf⟩:=u;refine⟨7,?_⟩;refine p_ s (n:=0) (i:=1) (j:=0) rfl (by omega) rfl rfl rfl rfl ua va rfl λw s=>?_;refine p_ s (i:=1) (j:=0) rfl (by omega) rfl rfl rfl rfl ub vb rfl λw s=>?_;refine p_ s (i:=1) (j:=0) rfl (by omega) rfl rfl rfl rfl uc vc rfl λw s=>?_;refine p_ s (i:=1) (j:=0) rfl (by omega) rfl rfl rfl rfl ud vd rfl λw s=>?_;refine p_ s (i:=1) (j:=0) rfl (by omega) rfl rfl rfl rfl ue ve rfl λw s=>?_;refine p_ s (i:=1) (j:=0) rfl (by omega) rfl rfl rfl rfl uf vf rfl λw s=>?_;show sU Q (pY Q 0) _ _ _ _ _;unfold sU;refine⟨by decide,by decide,?_⟩;apply lI s 1 rfl;refine⟨by decide,by decide,?_⟩;apply lI s 1 rfl;refine⟨by decide,by decide,?_⟩;apply lI s 1 rfl;refine⟨by decide,by decide,?_⟩;apply lI s 1 rfl;refine⟨by decide,by decide,?_⟩;apply lI s 1 rfl;refine⟨by decide,by decide,?_⟩;apply lI s 1 rfl
 repeat' first
  |apply lI s 2 rfl
  |(refine ax s (i:=2) rfl rfl rfl λw' s=>?_;simp[Nat.zero_add,List.set_cons_zero,List.set_cons_succ]at s)
 exact h _ (ai (ai (ai s)))
end
set_option maxHeartbeats 1000000 in
theorem GJ {F:Nat->Prop}{W w:World}{L:List As}{a b c d e f a' b' c' d' e' f':Int}{Q:Int->Int->Int->Int->Int->Int->World->Prop}(s:Sep F W w L)(u:(U a/\U b/\U c/\U d/\U e/\U f)/\U a'/\U b'/\U c'/\U d'/\U e'/\U f')
  (h:∀w',Sep F W w' L->Q (sat a a') (sat b b') (sat c c') (sat d d') (sat e e') (sat f f') w'):wS a b c d e f a' b' c' d' e' f' w Q:=by
 apply aaZ;refine aN s λb1 w1 s=>?_;refine aN s λb2 w2 s=>?_;refine aS s λb3 w3 s=>?_
 repeat' first
  |apply lI s 0 rfl
  |refine lI s 1 rfl ?_
  |refine lI s 2 rfl ?_
  |apply lI s 3 rfl
  |apply lI s 4 rfl
  |refine⟨cj s 1 rfl,?_⟩
  |refine⟨cj s 2 rfl,?_⟩
  |refine⟨cj s 3 rfl,?_⟩
  |refine⟨cj s 4 rfl,?_⟩
  |(refine ax s (i:=0) rfl rfl rfl λw' s=>?_;simp[Nat.zero_add,List.set_cons_zero,List.set_cons_succ]at s)
  |(refine ax s (i:=1) rfl rfl rfl λw' s=>?_;simp[Nat.zero_add,List.set_cons_zero,List.set_cons_succ]at s)
  |(refine aS s λb' w' s=>?_;rw[avZ]at s)
  |refine V_ s λw' s=>?_
  |exact auD s u λw' s=>h _ (ai (ai s))
  |exact auE s u λw' s=>h _ (ai (ai s))
  |constructor
end Go.Proofs.YtmegplnmiepfbaaGreatDoor.S.Ta
namespace Go.Proofs.YtmegplnmiepfbaaGreatDoor.S
open Go.Sx
def dO {w:World}{x:Option Addr}{ad:Addr}{K:Option Addr->Prop}(h:w.cell? ad=some (.pointer x))(hk:K x):bg ad w K:=⟨x,h,hk⟩
attribute [local irreducible] af cA bw bg aA cq bY St Bx Al App cD cy cw bT aL bC aq bR av ak aV mapA
def SD {F:Nat->Prop}{W w:World}{A:As}:∀{L:List As} {i:Nat},Sep F W w (A::L)->Sep F W w (L.set i A)
 |[],i,s=>by simp[List.set_nil];exact ai s
 |B::L,0,s=>by exact gF s (List.Sublist.cons_cons _ (List.sublist_cons_self _ _))
 |B::L,i+1,s=>by
  rw[List.set_cons_succ];have s1:=cg s (List.Perm.swap B A L);have s2:=ai s1;have s3:=SD (i:=i) s2;refine⟨eo.fr s,λC hC=>?_,?_⟩
  ·rcases List.mem_cons.1 hC with rfl|hC
   ·exact eo.ok s C (by simp)
   ·exact eo.ok s3 C hC
  ·rw[List.pairwise_cons];refine⟨λC hC=>?_,eo.apart s3⟩;have hp:=List.pairwise_cons.1 (eo.apart s1);grind
structure Ao where
 e9:Int
 na:Option Addr
 nn:Nat
 nc:Nat
 da:Option Addr
 dn:Nat
 dc:Nat
 nodes:List Int
 JN:List Int
def Kt (x:Ao):List Value:=[ae x.e9,.slice x.na x.nn x.nc,.slice x.da x.dn x.dc]
def Cp (x:Ao):(Kt x).length=3:=rfl
def an7 (x:Ao)(u:Value)(h:u∈Kt x):u.oneCell'=true:=by unfold Kt at h;simp[List.mem_cons,List.not_mem_nil,or_false]at h;rcases h with rfl|rfl|rfl<;>rfl
def abP (x:Ao):As:=aV True [ak x.na x.nn x.nc 3 1 (flat one x.nodes),ak x.da x.dn x.dc 21 1 (flat oW x.JN)]
structure Bq where
 p:Nat
 a:Option Addr
 n:Nat
 c:Nat
structure nD where
 ps:List Ao
 clean:Int
 fH:Int
def abQ (r:Bq)(gp:Nat)(x:nD):List Value:=[.pointer (sZ gp),.slice r.a r.n r.c,ae x.clean,.int .u64 x.fH]
def LO (r:Bq)(gp:Nat)(x:nD):List As:=av r.p 236 (abQ r gp x)::ak r.a r.n r.c 319 3 (flat Kt x.ps)::x.ps.map abP
def uA (r:Bq)(gp:Nat)(x:nD):As:=aV True (LO r gp x)
noncomputable def jG (m:bJ)(sc:Int):List Int:=(An (aD m.w m.h sc) (bz m.w m.h sc) (dU m sc) (iX m sc)).map λd=>if d=bW then-1 else d
structure yw (g:gW) (x:nD):Prop where
 len:(x.ps.length:Int)=dy g.m.w g.m.h
 old:x.clean<=g.ep/\∀q∈x.ps,q.e9<=g.ep
 all:x.clean=g.ep->∀i q,x.ps[i]? =some q->q.e9=gi g.vs i
 ok:∀i q,x.ps[i]? =some q->q.e9=gi g.vs i->q.nodes=aW g.m i/\q.JN=jG g.m i
 u:Ta.U x.fH
structure Ey (w:World) (r:Bq) (gp:Nat) (x:nD):Prop where
 cell:rS w r.p (abQ r gp x)
 row:Sl w r.a r.n r.c 3 Kt x.ps
 part:∀q∈x.ps,Sl w q.na q.nn q.nc 1 one q.nodes/\Sl w q.da q.dn q.dc 1 oW q.JN
 base:0<x.ps.length->∃b o,r.a=some ⟨b,o,none⟩
def Ey.fr {w w':World}{r:Bq}{gp:Nat}{x:nD}(k:Ey w r gp x)(f:Fr No w w'):Ey w' r gp x:=
 ⟨k.cell.fr f,k.row.fr f,λq hq=>⟨(k.part q hq).1.fr f,(k.part q hq).2.fr f⟩,k.base⟩
section
variable {F:Nat->Prop}{W w w0:World}{L:List As}{r:Bq}{gp:Nat}{x:nD}{gr:uz}{g:gW}{a:Option Addr}{n c:Nat}{xs:List Int}{v ce:Int}
def ae9 (s:Sep F W w (uA r gp x::L)):Sep F W w (LO r gp x++L):=(gP s).2
def abR (s:Sep F W w (LO r gp x++L)):Sep F W w (uA r gp x::L):=dA s trivial
def an8 {q:Ao}{i:Nat}(s:Sep F W w L)(hi:L[i]? =some (abP q)):Sl w q.na q.nn q.nc 1 one q.nodes/\Sl w q.da q.dn q.dc 1 oW q.JN:=by have s':=IL s hi;exact⟨aO s' (i:=0) rfl cB (by decide),aO s' (i:=1) rfl vq (by decide)⟩
def Wa (s:Sep F W w (uA r gp x::L)):Ey w r gp x:=by have s:=ae9 s;have s:Sep F W w (av r.p 236 (abQ r gp x)::ak r.a r.n r.c 319 3 (flat Kt x.ps)::(x.ps.map abP++L)):=s;have hR:=aO s (i:=1) rfl Cp (by decide);refine⟨lj s (i:=0) rfl,hR,λq hq=>?_,λh=>pV s (i:=1) rfl (by rw[<-hR.len];exact h)⟩;obtain⟨i,hi⟩:=List.mem_iff_getElem?.1 hq;apply an8 s (i:=i+2);rw[List.getElem?_cons_succ,List.getElem?_cons_succ,List.getElem?_append_left (by grind),List.getElem?_map,hi];rfl
def half {i j:Nat}(h:i<j)(hj:j<1000000):IntKind.wrap .i64 (o6 .u64 (IntKind.wrap .u64 (IntKind.wrap .i64 ((i:Int)+j))) 1)=(((i+j)/2:Nat):Int):=by
 rw[aG (n:=(i:Int)+j),ke (by omega)];have e:o6 .u64 ((i:Int)+j) 1=((i:Int)+j)/2:=by rw[o6,show(2:Int)^(min (1:Int).toNat (IntKind.u64).bits)=2 from rfl,Int.fdiv_eq_ediv_of_nonneg _ (by decide)]
 rw[e,aG];omega
def QT (h:xs.Pairwise (·<·)){i j:Nat}(hij:i<j)(hj:j<xs.length):gi xs i<gi xs j:=by have:=List.pairwise_iff_getElem.1 h i j (by omega) hj hij;have e1:=iD (l:=xs) (i:=i) (by omega);have e2:=iD hj;grind
def aih {Q:Int->Bool->World->Prop}(hX:Sl w a n c 1 one xs)(hn:n<1000000)(hs:xs.Pairwise (·<·))(s0:Sep F W w L)
  (hy:∀(i:Nat) w',i<n->gi xs i=v->Sep F W w' L->Fr No w w'->Q i true w')(hno:v∉xs->∀i w',Sep F W w' L->Fr No w w'->Q i false w'):nL a n c v w Q:=by
 apply D5;have hl:=hX.len;have loop:∀(k i j:Nat) (w1:World),j<=i+k->i<=j->j<=n->(∀q,q<i->gi xs q<v)->(∀q,j<=q->q<n->¬gi xs q<v)->Sep No w w1 []->gE Q (k+1) a n c v n i j w1:=by
  have stop:∀(i:Nat) (w1:World),i<=n->(∀q,q<i->gi xs q<v)->(∀q,i<=q->q<n->¬gi xs q<v)->Sep No w w1 []->(cond (decide ((i:Int)<n)) (aK i n<|wA a λp=>af .i64 (p.add ((i:Int).toNat*1)) w1 λy=>cond (y==v) (Q i true w1) (aK i n<|wA a λp=>af .i64 (p.add ((i:Int).toNat*1)) w1 λz=>nM z w1 λr w2=>cond r (nM v w2 λr' w3=>Q i r' w3) (Q i false w2))) (Q i false w1)):=λi w1 hi h1 h2 s=>by
   have adS:gi xs i≠v\/i=n->v∉xs:=λh hv=>by
    obtain⟨q,hq⟩:=List.mem_iff_getElem?.1 hv;have hql:=(List.getElem?_eq_some_iff.1 hq).1;rw[iD hql,Option.some.injEq]at hq;rcases Nat.lt_trichotomy q i with h3|h3|h3
    ·grind
    ·grind
    ·have h4:=h2 i (Nat.le_refl _) (by omega);have h5:=QT hs h3 (by omega);omega
   by_cases hin:i<n
   ·rw[bN];apply(hX.fr (au s)).rG rfl hin;by_cases hv:gi xs i=v
    ·rw[eC hv,cond_true];exact hy i w1 hin hv (bV s0 (au s)) (au s)
    ·rw[cQ hv,cond_false];apply(hX.fr (au s)).rG rfl hin;apply Ov;rw[bne_self_eq_false];show cond false _ _;exact hno (adS (.inl hv)) i w1 (bV s0 (au s)) (au s)
   ·rw[bp];exact hno (adS (.inr (by omega))) i w1 (bV s0 (au s)) (au s)
  intro k;induction k with
  |zero=>
   intro i j w1 hk hij hj h1 h2 s;obtain rfl:i=j:=by omega
   show iW Q (gE Q 0) _ _ _ _ _ _ _ _;unfold iW;grind
  |succ k ih=>
   intro i j w1 hk hij hj h1 h2 s;show iW Q (gE Q (k+1)) _ _ _ _ _ _ _ _;unfold iW;by_cases hlt:i<j
   ·rw[bN,half hlt (by omega)];refine⟨by decide,?_⟩;apply(hX.fr (au s)).rG rfl (by omega);apply VD;apply A2;rw[bne_self_eq_false];show cond false _ _;show cond (decide (gi xs ((i+j)/2)<v)) _ _;have Wb:∀q,q<(i+j)/2->gi xs q<gi xs ((i+j)/2):=λq hq=>QT hs hq (by omega);have av0:∀q,(i+j)/2<q->q<n->gi xs ((i+j)/2)<gi xs q:=λq hq hqn=>QT hs hq (by omega);by_cases hc:gi xs ((i+j)/2)<v
    ·rw[bN hc,aG];refine ih ((i+j)/2+1) j w1 (by omega) (by omega) hj (λq hq=>?_) h2 s;by_cases e:q=(i+j)/2
     ·rw[e];exact hc
     ·have:=Wb q (by omega);omega
    ·rw[bp hc];refine ih i ((i+j)/2) w1 (by omega) (by omega) (by omega) h1 (λq hq hqn=>?_) s;by_cases e:q=(i+j)/2
     ·rw[e];exact hc
     ·have:=av0 q (by omega) hqn;omega
   ·obtain rfl:i=j:=by omega
    rw[bp (Int.lt_irrefl _)];exact stop i w1 hj h1 h2 s
 exact⟨n+1,loop n 0 n w (by omega) (by omega) (Nat.le_refl _) (λq h=>by omega) (λq h1 h2=>by omega) bh⟩
def ZV {Q:Int->World->Prop}(k:rS w r.p (abQ r gp x))(h:Q x.fH w):r7 (sZ r.p) w Q:=by apply Fv;exact ld (ah (aR (k 3 _ rfl) h))
def ZW {Q:Int->World->Prop}(h:Q 0 w):r7 Option.none w Q:=Fv _ _ _ h
def ZX {Q:Option Addr->Nat->Nat->World->Prop}{i:Nat}{q:Ao}(s0:Sep F W w L)(k:Ey w r gp x)(hq:x.ps[i]? =some q)(hql:q.nodes.length<=1000000)(h:∀ra rn rc w',Sep F W w' (ak ra rn rc 3 1 (flat one q.nodes)::L)->Fr No w w'->Q ra rn rc w'):
  yV (sZ r.p) i w Q:=by
 apply Qf;have hi:=(List.getElem?_eq_some_iff.1 hq).1;have hl:=k.row.len;apply ld;rw[bp];refine ah (dx (k.cell 1 _ rfl) ?_);rw[bp];refine ah (dx (k.cell 1 _ rfl) ?_);refine k.row.El rfl (by omega) λp y hy hc=>?_;rw[hq]at hy;cases hy;apply dx (hc 1 _ rfl);have hn:=(k.part q (List.mem_of_getElem? hq)).1;refine LA s0 hn (by rw[<-hn.len];omega) λra rc w' s f=>h ra _ rc w' s f
def xA (r:Bq)(i:Nat):Option Addr:=r.a.map λp=>p.add (i*3)
def Nw {Q:Option Addr->Int->Bool->World->Prop}(s0:Sep F W w L)(k:Ey w r gp x)(kg:nB w gr g)(hgp:gp=gr.p)(hlen:(x.ps.length:Int)=dy g.m.w g.m.h)(Wb:∀q∈x.ps,q.nodes.Pairwise (·<·)/\q.nodes.length<1000000)
  (hno:¬bK g.m.w g.m.h ce->∀w',Sep F W w' L->Fr No w w'->Q none 0 false w')
  (hy:∀q (i:Nat) w',x.ps[(aC g.m.w g.m.h ce).toNat]? =some q->i<q.nodes.length->gi q.nodes i=ce->Sep F W w' L->Fr No w w'->Q (xA r (aC g.m.w g.m.h ce).toNat) i true w')
  (hn:∀q i w',x.ps[(aC g.m.w g.m.h ce).toNat]? =some q->ce∉q.nodes->Sep F W w' L->Fr No w w'->Q (xA r (aC g.m.w g.m.h ce).toNat) i false w'):t_ (sZ r.p) ce w Q:=by
 subst hgp;apply R0;refine ld (ah (dO (k.cell 0 _ rfl) ?_));refine jo (bh (F:=No)) kg λw1 s1 _=>?_;refine eZ s1 λw1 s1 _=>?_;have f1:=au s1;by_cases hc:bK g.m.w g.m.h ce
 ·have hs:=bS hc;obtain⟨_,h0,h1⟩:=hs;rw[bp];have k:=k.fr f1;have hl:=k.row.len;refine ah (dx (k.cell 1 _ rfl) ?_);have hrow:=k.row;obtain⟨p,hp⟩:∃p,r.a=some p:=by obtain⟨ad,h2,_⟩:=hrow.row.2 (aC g.m.w g.m.h ce).toNat _ (List.getElem?_eq_getElem (by omega));grind
  have hP:xA r (aC g.m.w g.m.h ce).toNat=some (p.add ((aC g.m.w g.m.h ce).toNat*3)):=by unfold xA;rw[hp];rfl
  rw[hP]at hy hn;obtain⟨ad,had,x9⟩:=hrow.row.2 (aC g.m.w g.m.h ce).toNat _ (List.getElem?_eq_getElem (by omega));rw[hp,Option.some.injEq]at had;subst had;have hq:x.ps[(aC g.m.w g.m.h ce).toNat]? =some (x.ps[(aC g.m.w g.m.h ce).toNat]'(by omega)):=List.getElem?_eq_getElem (by omega);generalize x.ps[(aC g.m.w g.m.h ce).toNat]'(by omega)=q at x9 hq;have hqm:=List.mem_of_getElem? hq;refine⟨by omega,by omega,?_⟩;rw[hp];apply ah;apply Qg;refine ah (dx (x:=q.na) (m:=q.nn) (q:=q.nc) ?_ ?_)
  ·rw[add_add];exact x9 1 _ rfl
  ·obtain⟨h2,h3⟩:=Wb q hqm;have hn1:=(k.part q hqm).1;have hnl:=hn1.len;refine aih hn1 (by omega) h2 s1 (λi w2 h4 h5 s2 f2=>?_) λh4 i w2 s2 f2=>?_
   ·exact hy q i w2 hq (by omega) h5 (bV s0 (au s2)) (au s2)
   ·exact hn q i w2 hq h4 (bV s0 (au s2)) (au s2)
 ·have e:aC g.m.w g.m.h ce=-1:=if_neg hc;rw[e,bN (by decide)];exact hno hc w1 (bV s0 f1) f1
end
end Go.Proofs.YtmegplnmiepfbaaGreatDoor.S
namespace Go.Proofs.YtmegplnmiepfbaaGreatDoor.S
open Go.Sx
attribute [local irreducible] af cA bw bg aA cq bY St Bx Al App cD cy cw bT aL bC aq bR av ak aV mapA
section
variable {F:Nat->Prop}{W w w0:World}{L:List As}{r:Bq}{gp:Nat}{x:nD}{gr:uz}{g:gW}{m:bJ}{sc b:Int}
def Nx (g:gW)(x:nD):Prop:=∀i q,x.ps[i]? =some q->q.e9=gi g.vs i
def HX (I:yw g x)(hf:Nx g x){i:Nat}{q:Ao}(h:x.ps[i]? =some q):q.nodes=aW g.m i/\q.JN=jG g.m i:=I.ok i q h (hf i q h)
def GK:(iX m sc).length=(aW m sc).length:=by unfold iX;grind
def an9:(jG m sc).length=(aW m sc).length*(aW m sc).length:=by unfold jG An;rw[List.length_map,List.length_map,List.length_range,GK]
def aqk {i j:Nat}(hi:i<(aW m sc).length)(hj:j<(aW m sc).length):gi (jG m sc) (i*(aW m sc).length+j)=if qh m sc (gi (aW m sc) i) (gi (aW m sc) j)=bW then-1 else qh m sc (gi (aW m sc) i) (gi (aW m sc) j):=by
 have O0:0<(aW m sc).length:=by omega
 have d1:(i*(aW m sc).length+j)/(aW m sc).length=i:=by rw[Nat.mul_comm,Nat.mul_add_div O0,Nat.div_eq_of_lt hj,Nat.add_zero]
 have d2:(i*(aW m sc).length+j)%(aW m sc).length=j:=by rw[Nat.mul_comm,Nat.mul_add_mod,Nat.mod_eq_of_lt hj]
 have e:∀k,k<(aW m sc).length->gi (iX m sc) k=dY m.w m.h (gi (aW m sc) k):=λk hk=>by unfold gi iX;grind
 have h0:gi (jG m sc) (i*(aW m sc).length+j)=(λd=>if d=bW then-1 else d) (E5 (aD m.w m.h sc) (bz m.w m.h sc) (dU m sc) (iX m sc) i j):=by unfold jG An;rw[GK];show List.getD _ _ _=_;rw[List.getD_eq_getElem?_getD,List.getElem?_map,List.getElem?_map,List.getElem?_range (alI hi hj)];simp[Option.map_some,Option.getD_some,d1,d2]
 rw[h0];unfold E5 qh;grind
def agn {Q:Int->World->Prop}{s i j:Nat}{q:Ao}(k:Ey w r gp x)(hq:x.ps[s]? =some q)(hm:cR m)(hs:dX m.w m.h sc)(hc:q.nodes=aW m sc/\q.JN=jG m sc)(hi:i<(aW m sc).length)(hj:j<(aW m sc).length)
  (h:Q (qh m sc (gi (aW m sc) i) (gi (aW m sc) j)) w.drew):wC (xA r s) i j w Q:=by
 apply MH;obtain⟨ad,had,x9⟩:=k.row.row.2 s q hq;have hP:xA r s=some (ad.add (s*3)):=by unfold xA;rw[had];rfl
 obtain⟨k1,k2⟩:=k.part q (List.mem_of_getElem? hq);have n1:=k1.len;have n2:=k2.len;rw[hc.1]at n1;rw[hc.2,an9]at n2;have oX:=zM hs;have hsq:=alI hi hj;have hij:=Nat.mul_le_mul (by omega) oX;rw[hP];refine ah (dx (by rw[add_add];exact x9 2 _ rfl) (ah (dx (by rw[add_add];exact x9 1 _ rfl) ?_)));rw[<-n1,show(i:Int)*(((aW m sc).length:Nat):Int)=((i*(aW m sc).length:Nat):Int) by grind,aG (n:=((i*(aW m sc).length:Nat):Int)),aG];apply FZ k2.drew (k:=i*(aW m sc).length+j) (by omega) (by omega);rw[hc.2,aqk hi hj];have ha:=mF hs (fE hi);have hb:=mF hs (fE hj);have hr:=ZU hm hs ha.2 hb.2 hb.1;by_cases hI:qh m sc (gi (aW m sc) i) (gi (aW m sc) j)=bW
 ·rw[if_pos hI,bne_self_eq_false,cond_false];rw[hI]at h;exact h
 ·rw[if_neg hI,show(qh m sc (gi (aW m sc) i) (gi (aW m sc) j) !=-1)=true by grind,cond_true,aG];exact h
def asU:∃inf,P.info? 319=some inf/\inf.size≠0:=by obtain⟨inf,u,z,k1,k2,k3,k4,k5,k6,k7⟩:=uL ef (t:=319) rfl;grind
def auF:P.underlying 354=some (.pointer 319):=by kernel_rfl
def QU {α β:Type}{f:α->Option β}{l:List α}{i:Nat}{a:α}(h:l[i]? =some a):(l.take (i+1)).filterMap f=(l.take i).filterMap f++(f a).toList:=by rw[List.take_add_one,h,List.filterMap_append];congr 1
def abS {Q:Option Addr->Nat->Nat->World->Prop}(s0:Sep F W w L)(k:Ey w r gr.p x)(kg:nB w gr g)(I:yw g x)(hf:Nx g x)(hb:bK g.m.w g.m.h b)(hn:oe g.m b)
  (h:∀ra rn rc w',Sep F W w' (ak ra rn rc 292 2 (flat Dp (Ks g.m b))::L)->Fr No w w'->Q ra rn rc w'):z0 (sZ r.p) b w Q:=by
 apply R_;have hm:=kg.ok.may;have hs:=bS hb;have hlen:=I.len;have hps:∀(i:Nat) (q:Ao),x.ps[i]? =some q->dX g.m.w g.m.h i:=λi q h=>⟨⟨hm.w,hm.h⟩,by omega,by have:=(List.getElem?_eq_some_iff.1 h).1;omega⟩;have Wb:∀q∈x.ps,q.nodes.Pairwise (·<·)/\q.nodes.length<1000000:=λq hq=>by obtain⟨i,hi⟩:=List.mem_iff_getElem?.1 hq;rw[(HX I hf hi).1];have:=zM (hps i q hi);exact⟨Nv (hps i q hi),by omega⟩
 have e0:=Int.toNat_of_nonneg hs.2.1;refine Nw (bh (F:=No)) k kg rfl I.len Wb (λe=>(e hb).elim) (λq j w1 hq hj hgj s1 f1=>?_) λq i w1 hq hni s1 f1=>?_
 rotate_left
 ·have:=(HX I hf hq).1;rw[e0]at this;rw[this]at hni;exact(hni hn).elim
 have hc:=HX I hf hq;rw[e0]at hc;rw[hc.1]at hj hgj;rw[Bool.not_true,cond_false];have k1:=k.fr f1;obtain⟨ad,had,x9⟩:=k1.row.row.2 _ q hq;obtain⟨pb,po,hbase⟩:=k1.base (by have:=(List.getElem?_eq_some_iff.1 hq).1;omega);have hP:xA r (aC g.m.w g.m.h b).toNat=some (ad.add ((aC g.m.w g.m.h b).toNat*3)):=by unfold xA;rw[had];rfl
 obtain⟨q1,q2⟩:=k1.part q (List.mem_of_getElem? hq);have hql:=q1.len;rw[hc.1]at hql;have oX:=zM hs;rw[hP];refine ah (dx (by rw[add_add];exact x9 1 _ rfl) ?_);rw[<-hql,wrap_i64 (n:=(((aW g.m (aC g.m.w g.m.h b)).length:Nat):Int)+1) (by omega) (by omega)];refine xH (x0:=((0:Int),(0:Int))) (bytes:=16) (ln:=0) (cn:=(aW g.m (aC g.m.w g.m.h b)).length+1) ef s1 rfl rfl rfl rfl rfl rfl (by decide) QD rfl (λu hu=>akt _ u hu) rfl (by omega) (by omega) (by omega) (by simp[maxLen];omega) λob w1 s1=>?_;have s1:=s1;have f1:=au s1;have k1:=k.fr f1;obtain⟨ad',auH,ahX⟩:=k1.row.row.2 _ q hq;obtain rfl:ad'=ad:=by rw[had]at auH;cases auH;rfl
 refine ah (dx (by rw[add_add];exact ahX 1 _ rfl) ?_);rw[<-hP,<-hql];have sides:∀(n2 sd:Nat) (oa:Option Addr) (on oc:Nat) (w2:World),sd+n2=4->on<=300+sd->Sep No w w2 [ak oa on oc 292 2 (flat Dp (abN g.m b++SC g.m b sd))]->
   lE Q (n2+1) (sZ r.p) b (xA r (aC g.m.w g.m.h b).toNat) oa on oc g.m.w g.m.h sd w2:=by
  intro n2;induction n2 with
  |zero=>
   intro sd oa on oc w2 vZ ho s;show qE Q (lE Q 0) _ _ _ _ _ _ _ _ _ _;unfold qE;obtain rfl:sd=4:=by omega
   exact h oa on oc w2 (dD s0 s (i:=0) rfl) (au s)
  |succ n2 ih=>
   intro sd oa on oc w2 vZ ho s;show qE Q (lE Q (n2+1)) _ _ _ _ _ _ _ _ _ _;rw[qE,bN,aG];have skip:∀(w3:World),Sep No w w3 [ak oa on oc 292 2 (flat Dp (abN g.m b++SC g.m b sd))]->¬(0<=bf g.m.w g.m.h b sd/\oe g.m (bf g.m.w g.m.h b sd)/\cS g.m (bf g.m.w g.m.h b sd)≠cS g.m b)->
     lE Q (n2+1) (sZ r.p) b (xA r (aC g.m.w g.m.h b).toNat) oa on oc g.m.w g.m.h ((sd:Int)+1) w3:=λw3 s hno=>by
    apply ih (sd+1) oa on oc w3 (by omega) (by omega);rw[abO];rw[QS,if_neg hno];show Sep No w w3 [ak oa on oc 292 2 (flat Dp (abN g.m b++(SC g.m b sd++[])))];rw[List.append_nil];exact s
   refine kH s λw2 s _=>?_;refine Nw s (k.fr (au s)) (kg.fr (au s)) rfl I.len Wb (λe w3 s _=>?_) (λq' i' w3 KO hi' ax3 s _=>?_) λq' i' w3 KO auI s _=>?_
   ·exact skip w3 s λe'=>e (zR e'.1).2
   ·have hn':oe g.m (bf g.m.w g.m.h b sd)/\bK g.m.w g.m.h (bf g.m.w g.m.h b sd):=by
     have h2:=(HX I hf KO).1;have h3:bf g.m.w g.m.h b sd∈q'.nodes:=by rw[<-ax3];exact fE hi'
     rw[h2]at h3;have hok:=hps _ _ KO;have h4:=mF hok h3;have e5:=Int.toNat_of_nonneg (bS h4.2.1).2.1;rw[e5]at h3;exact⟨h3,h4.2.1⟩
    have hs':=bS hn'.2;have eP:∀i,xA r i=some ⟨pb,po+i*3,none⟩:=λi=>by unfold xA;rw[hbase];show some (Addr.add ⟨pb,po,none⟩ (i*3))=_;rw[cm]
    have ax4:∀(K:Bool->World->Prop) (x y:Operand) (wz:World),K (!decide (aC g.m.w g.m.h (bf g.m.w g.m.h b sd)=aC g.m.w g.m.h b)) wz->bT P .neq 354 x y (.pointer (xA r (aC g.m.w g.m.h (bf g.m.w g.m.h b sd)).toNat)) (.pointer (xA r (aC g.m.w g.m.h b).toNat)) wz K:=λK x y wz hK=>by
     rw[eP,eP];obtain⟨inf,Yn,hi2⟩:=asU;apply auB auF Yn hi2;have e6:(po+(aC g.m.w g.m.h (bf g.m.w g.m.h b sd)).toNat*3=po+(aC g.m.w g.m.h b).toNat*3)↔aC g.m.w g.m.h (bf g.m.w g.m.h b sd)=aC g.m.w g.m.h b:=by have:=hs'.2.1;omega
     simp only[e6];exact hK
    apply ax4;by_cases SE:aC g.m.w g.m.h (bf g.m.w g.m.h b sd)=aC g.m.w g.m.h b
    ·rw[decide_eq_true SE,Bool.not_true,cond_false];exact skip w3 s λe'=>e'.2.2 SE
    ·rw[decide_eq_false SE,Bool.not_false,cond_true];have k3:=k.fr (au s);refine ah (dO (k3.cell 0 _ rfl) ?_);apply jn (kg.fr (au s));refine apY (x:=(bf g.m.w g.m.h b sd,cT g.m b)) s (by omega) λoa oc w3 s=>?_;apply ih (sd+1) oa (on+1) oc w3 (by omega) (by omega);rw[abO];rw[QS,if_pos ⟨hn'.2.2.1,hn'.1,SE⟩,<-List.append_assoc];exact s
   ·refine skip w3 s λe'=>?_;have h2:=(HX I hf KO).1;have Ba:=(zR e'.1).2;rw[Int.toNat_of_nonneg (bS Ba).2.1]at h2;rw[h2]at auI;exact auI e'.2.1
 have nodes:∀(n2 i:Nat) (oa:Option Addr) (on oc:Nat) (w2:World),i+n2=(aW g.m (aC g.m.w g.m.h b)).length->on<=i->Sep No w w2 [ak oa on oc 292 2 (flat Dp (((aW g.m (aC g.m.w g.m.h b)).take i).filterMap λa=>if a≠b/\qh g.m (cS g.m b) a b≠bW then some (a,qh g.m (cS g.m b) a b)else none))]->
   mz Q (n2+1) (sZ r.p) b (xA r (aC g.m.w g.m.h b).toNat) j oa on oc q.na (aW g.m (aC g.m.w g.m.h b)).length q.nc (aW g.m (aC g.m.w g.m.h b)).length i w2:=by
  intro n2;induction n2 with
  |zero=>
   intro i oa on oc w2 hi ho s;show rP Q (mz Q 0) _ _ _ _ _ _ _ _ _ _ _ _ _;rw[rP,bp];have k2:=k.fr (au s);refine ah (dO (k2.cell 0 _ rfl) ?_);refine jo s (kg.fr (au s)) λw2 s _=>?_;rw[List.take_of_length_le (by omega)]at s;refine⟨5,sides 4 0 oa on oc w2 rfl (by omega) ?_⟩;show Sep No w w2 [ak oa on oc 292 2 (flat Dp (abN g.m b++[]))];rw[List.append_nil];exact s
  |succ n2 ih=>
   intro i oa on oc w2 hi ho s;show rP Q (mz Q (n2+1)) _ _ _ _ _ _ _ _ _ _ _ _ _;rw[rP,bN,aG];have k2:=k.fr (au s);have q1:=(k2.part q (List.mem_of_getElem? hq)).1;rw[hc.1,<-hql]at q1;apply q1.rG rfl (by omega);apply agn k2 hq hm hs hc (by omega) hj;rw[hgj];have s:=ay s;have ht:=QU (f:=λa=>if a≠b/\qh g.m (cS g.m b) a b≠bW then some (a,qh g.m (cS g.m b) a b)else none) (iD (l:=aW g.m (aC g.m.w g.m.h b)) (i:=i) (by omega));have hne:gi (aW g.m (aC g.m.w g.m.h b)) i≠b↔i≠j:=by
    constructor
    ·rintro h1 rfl;exact h1 hgj
    ·intro h1 h2;rcases Nat.lt_or_gt_of_ne h1 with h3|h3
     ·have:=QT (Nv hs) h3 hj;omega
     ·have:=QT (Nv hs) h3 (by omega);omega
   have skip:¬(gi (aW g.m (aC g.m.w g.m.h b)) i≠b/\qh g.m (cS g.m b) (gi (aW g.m (aC g.m.w g.m.h b)) i) b≠bW)->mz Q (n2+1) (sZ r.p) b (xA r (aC g.m.w g.m.h b).toNat) j oa on oc q.na (aW g.m (aC g.m.w g.m.h b)).length q.nc (aW g.m (aC g.m.w g.m.h b)).length ((i:Int)+1) w2.drew:=λhno=>by apply ih (i+1) oa on oc _ (by omega) (by omega);rw[ht,if_neg hno];show Sep No w _ [ak oa on oc 292 2 (flat Dp (_++[]))];rw[List.append_nil];exact s
   by_cases hij:i=j
   ·rw[show((i:Int) !=(j:Int))=false by rw[hij];exact bne_self_eq_false _,cond_false];exact skip λe=>hne.1 e.1 hij
   ·rw[show((i:Int) !=(j:Int))=true by rw[bne_iff_ne];omega,cond_true];by_cases hI:qh g.m (cS g.m b) (gi (aW g.m (aC g.m.w g.m.h b)) i) b=bW
    ·have Wc:qh g.m (aC g.m.w g.m.h b) (gi (aW g.m (aC g.m.w g.m.h b)) i) b=1099511627776:=hI;rw[Wc,bne_self_eq_false,cond_false];exact skip λe=>e.2 hI
    ·have Wc:qh g.m (aC g.m.w g.m.h b) (gi (aW g.m (aC g.m.w g.m.h b)) i) b≠1099511627776:=hI;rw[show(qh g.m (aC g.m.w g.m.h b) (gi (aW g.m (aC g.m.w g.m.h b)) i) b !=1099511627776)=true by rw[bne_iff_ne];exact Wc,cond_true];refine apY (x:=(gi (aW g.m (aC g.m.w g.m.h b)) i,qh g.m (aC g.m.w g.m.h b) (gi (aW g.m (aC g.m.w g.m.h b)) i) b)) s (by omega) λoa oc w3 s=>?_;apply ih (i+1) oa (on+1) oc w3 (by omega) (by omega);rw[ht,if_pos ⟨hne.2 hij,hI⟩];exact s
 exact⟨_,nodes (aW g.m (aC g.m.w g.m.h b)).length 0 _ 0 _ w1 (by omega) (by omega) s1⟩
end
section
variable {F:Nat->Prop}{W w w0:World}{L:List As}{r:Bq}{gp:Nat}{x:nD}{gr:uz}{g:gW}{m:bJ}{sc b:Int}
def aql (hm:cR m)(hs:dX m.w m.h sc){d:Int}(h:d∈An (aD m.w m.h sc) (bz m.w m.h sc) (dU m sc) (iX m sc)):0<=d/\(d≠bW->d<1000000000):=by
 obtain⟨k,hk,rfl⟩:=List.mem_map.1 h;have hk:=List.mem_range.1 hk;rw[GK]at hk⊢;have O0:0<(aW m sc).length:=by grind
 have hi:=Nat.div_lt_of_lt_mul hk;have hj:k%(aW m sc).length<(aW m sc).length:=Nat.mod_lt _ O0;have e:∀k,k<(aW m sc).length->gi (iX m sc) k=dY m.w m.h (gi (aW m sc) k):=λk hk=>by unfold gi iX;grind
 have ha:=mF hs (fE hi);have hb:=mF hs (fE hj);have hr:=ZU hm hs ha.2 hb.2 hb.1;have e2:E5 (aD m.w m.h sc) (bz m.w m.h sc) (dU m sc) (iX m sc) (k/(aW m sc).length) (k%(aW m sc).length)=qh m sc (gi (aW m sc) (k/(aW m sc).length)) (gi (aW m sc) (k%(aW m sc).length)):=by unfold E5 qh;grind
 grind
def adT {Q:Int->Option Addr->Nat->Nat->Option Addr->Nat->Nat->World->Prop}{rb tb pb nn nc tn tc:Nat}{na ta:Option Addr}{e9:Int}(hm:cR m)(hs:dX m.w m.h sc)
  (s:Sep No w0 w [av pb 319 [ae e9,.slice na nn nc,.slice none 0 0],ak na nn nc 3 1 (flat one (aW m sc)),av tb 84 [ae (aD m.w m.h sc),ae (bz m.w m.h sc),.slice ta tn tc],ak ta tn tc 5 1 (flat bu (dU m sc)),av rb 319 [ae 0,.slice none 0 0,.slice none 0 0]])
  (h:∀da dn dc w',Sep No w0 w' [ak na nn nc 3 1 (flat one (aW m sc)),ak da dn dc 21 1 (flat oW (jG m sc))]->Q e9 na nn nc da dn dc w'):rO Q (aZ rb) m.w m.h (aZ tb) (aZ pb) w:=by
 have oX:=zM hs;have hnn:=(aO s (i:=1) rfl cB (by decide)).len;apply lS s 0 rfl;have conv:∀(qa:Option Addr) (qc N:Nat) (da:Option Addr) (w1:World),N=nn*nn->Sep No w0 w1 [ak da N N 21 1 (flat oW (List.replicate N 0)),ak qa N qc 3 1 (flat one (An (aD m.w m.h sc) (bz m.w m.h sc) (dU m sc) (iX m sc))),av pb 319 [ae e9,.slice na nn nc,.slice da N N],ak na nn nc 3 1 (flat one (aW m sc)),av rb 319 [ae 0,.slice none 0 0,.slice none 0 0]]->
   ∃k',lD Q k' (aZ rb) (aZ pb) qa N qc N 0 w1:=λqa qc N da w1 hN s=>by
  have hNb:N<=65536:=by have:=Nat.mul_le_mul (show nn<=256 by omega) (show nn<=256 by omega);omega
  have htl:(An (aD m.w m.h sc) (bz m.w m.h sc) (dU m sc) (iX m sc)).length=N:=by rw[An,List.length_map,List.length_range,GK,hnn,hN]
  have hdl:(jG m sc).length=N:=by unfold jG;grind
  have hdg:∀i,i<N->gi (jG m sc) i=if gi (An (aD m.w m.h sc) (bz m.w m.h sc) (dU m sc) (iX m sc)) i=bW then-1 else gi (An (aD m.w m.h sc) (bz m.w m.h sc) (dU m sc) (iX m sc)) i:=λi hi=>by show List.getD _ _ _=_;rw[jG,List.getD_eq_getElem?_getD,List.getElem?_map,iD (by omega)];rfl
  have loop:∀(k i:Nat) (w1:World),i+k=N->Sep No w0 w1 [ak da N N 21 1 (flat oW ((List.range N).map λq=>if q<i then gi (jG m sc) q else 0)),ak qa N qc 3 1 (flat one (An (aD m.w m.h sc) (bz m.w m.h sc) (dU m sc) (iX m sc))),av pb 319 [ae e9,.slice na nn nc,.slice da N N],ak na nn nc 3 1 (flat one (aW m sc)),av rb 319 [ae 0,.slice none 0 0,.slice none 0 0]]->
    lD Q (k+1) (aZ rb) (aZ pb) qa N qc N i w1:=by
   intro k;induction k with
   |zero=>
    intro i w1 hi s;show qD Q (lD Q 0) _ _ _ _ _ _ _ _;rw[qD,bp];have e:((List.range N).map λq=>if q<i then gi (jG m sc) q else 0)=jG m sc:=by refine UQ (by grind) λq hq=>?_;show List.getD _ _ _=_;grind
    rw[e]at s;refine lI s 2 rfl (lS s 2 rfl (lS s 2 rfl ?_));refine sT s 4 rfl λw1 s=>?_;refine sT s 4 rfl λw1 s=>?_;refine ax s (i:=4) rfl rfl rfl λw1 s=>?_;refine lI s 4 rfl (lS s 4 rfl (lS s 4 rfl ?_));exact h da N N w1 (pk 99 [3,0] s)
   |succ k ih=>
    intro i w1 hi s;show qD Q (lD Q (k+1)) _ _ _ _ _ _ _ _;rw[qD,bN,aG];apply(aO s (i:=1) rfl cB (by decide)).rG rfl (by omega);apply lS s 2 rfl;refine E1 vq s (i:=0) (k:=i) (x':=-1) rfl (by omega) (by rw[List.length_map,List.length_range];omega) rfl rfl λw1 s=>?_;have hr:=aql hm hs (fE (i:=i) (by omega));have hdi:=hdg i (by omega);rw[JM]at s;by_cases hI:gi (An (aD m.w m.h sc) (bz m.w m.h sc) (dU m sc) (iX m sc)) i=bW
    ·rw[if_pos hI]at hdi;have Wc:gi (An (aD m.w m.h sc) (bz m.w m.h sc) (dU m sc) (iX m sc)) i=1099511627776:=hI;rw[Wc,bne_self_eq_false,cond_false];apply ih (i+1) w1 (by omega);have e:((List.range N).map λq=>if q=i then-1 else if q<i then gi (jG m sc) q else 0)=(List.range N).map λq=>if q<i+1 then gi (jG m sc) q else 0:=by
      refine List.map_congr_left λq _=>?_;by_cases c1:q=i
      ·rw[if_pos c1,AA,c1,hdi]
      ·rw[if_neg c1];by_cases c2:q<i
       ·rw[if_pos c2,AA]
       ·rw[if_neg c2,fS]
     rw[e]at s;exact s
    ·rw[if_neg hI]at hdi;have Wc:gi (An (aD m.w m.h sc) (bz m.w m.h sc) (dU m sc) (iX m sc)) i≠1099511627776:=hI;rw[show(gi (An (aD m.w m.h sc) (bz m.w m.h sc) (dU m sc) (iX m sc)) i !=1099511627776)=true by rw[bne_iff_ne];exact Wc,cond_true];apply lS s 2 rfl;rw[aeX (by omega)];refine E1 vq s (i:=0) (k:=i) (x':=gi (An (aD m.w m.h sc) (bz m.w m.h sc) (dU m sc) (iX m sc)) i) rfl (by omega) (by rw[List.length_map,List.length_range];omega) rfl rfl λw1 s=>?_;rw[JM]at s;apply ih (i+1) w1 (by omega);have e:((List.range N).map λq=>if q=i then gi (An (aD m.w m.h sc) (bz m.w m.h sc) (dU m sc) (iX m sc)) i else if q=i then-1 else if q<i then gi (jG m sc) q else 0)=(List.range N).map λq=>if q<i+1 then gi (jG m sc) q else 0:=by
      refine List.map_congr_left λq _=>?_;by_cases c1:q=i
      ·rw[if_pos c1,AA,c1,hdi]
      ·rw[if_neg c1,if_neg c1];by_cases c2:q<i
       ·rw[if_pos c2,AA]
       ·rw[if_neg c2,fS]
     rw[e]at s;exact s
  refine⟨N+1,loop N 0 w1 (by omega) ?_⟩;have e:((List.range N).map λq=>if q<0 then gi (jG m sc) q else 0)=List.replicate N 0:=by rw[List.eq_replicate_iff];refine⟨by simp,λx hx=>?_⟩;obtain⟨q,_,rfl⟩:=List.mem_map.1 hx;rw[if_neg (Nat.not_lt_zero _)]
  grind
 have loop:∀(k i:Nat) (la:Option Addr) (lc:Nat) (w1:World),i+k=nn->Sep No w0 w1 [ak la i lc 3 1 (flat one ((iX m sc).take i)),av pb 319 [ae e9,.slice na nn nc,.slice none 0 0],ak na nn nc 3 1 (flat one (aW m sc)),av tb 84 [ae (aD m.w m.h sc),ae (bz m.w m.h sc),.slice ta tn tc],ak ta tn tc 5 1 (flat bu (dU m sc)),av rb 319 [ae 0,.slice none 0 0,.slice none 0 0]]->
   ox Q (k+1) (aZ rb) m.w m.h (aZ tb) (aZ pb) la i lc na nn nc nn i w1:=by
  intro k;induction k with
  |zero=>
   intro i la lc w1 hi s;show rN Q (ox Q 0) _ _ _ _ _ _ _ _ _ _ _ _ _ _;rw[rN,bp];have Ny:(iX m sc).length=nn:=by rw[GK,hnn]
   rw[List.take_of_length_le (by omega)]at s;refine lI s 3 rfl (lI s 3 rfl (lS s 3 rfl ?_));refine ZS s (aO s (i:=4) rfl dJ (by decide)) (aO s (i:=0) rfl cB (by decide)) (QN hm hs) (an6 hm hs) λqa qc w1 s _=>?_;rw[Ny]at s⊢;have hNb:nn*nn<=65536:=by have:=Nat.mul_le_mul (show nn<=256 by omega) (show nn<=256 by omega);omega
   refine xH (bytes:=4) ef s rfl rfl rfl rfl rfl rfl (by decide) vq rfl (λu hu=>by unfold oW at hu;rw[List.mem_singleton]at hu;rw[hu];rfl) rfl rfl (Nat.le_refl _) (by omega) (by simp[maxLen];omega) λdb w1 s=>?_;refine ax s (i:=3) rfl rfl rfl λw1 s=>?_;exact conv qa qc (nn*nn) (sZ db) w1 rfl (pk 99 [0,1,3,4,7] s)
  |succ k ih=>
   intro i la lc w1 hi s;show rN Q (ox Q (k+1)) _ _ _ _ _ _ _ _ _ _ _ _ _ _;rw[rN,bN,aG];apply(aO s (i:=2) rfl cB (by decide)).rG rfl (by omega);refine tC s λw1 s _=>?_;refine Lx s (by omega) λla lc w1 s=>?_;apply ih (i+1) la lc w1 (by omega);have e:(iX m sc).take (i+1)=(iX m sc).take i++[dY m.w m.h (gi (aW m sc) i)]:=by rw[iX,List.take_add_one,List.getElem?_map,iD (by omega)];rfl
   rw[e];exact s
 exact⟨nn+1,loop nn 0 none 0 w (by omega) (bD s 3 1)⟩
def abU {Q:Int->Option Addr->Nat->Nat->Option Addr->Nat->Nat->World->Prop}{vs:List Value}(s0:Sep F W w L)(k:rS w r.p (.pointer (sZ gr.p)::vs))(kg:nB w gr g)(hs:dX g.m.w g.m.h sc)
  (h:∀na nn nc da dn dc w',Sep F W w' ([ak na nn nc 3 1 (flat one (aW g.m sc)),ak da dn dc 21 1 (flat oW (jG g.m sc))]++L)->Fr No w w'->Q (wG g sc) na nn nc da dn dc w'):zZ (sZ r.p) sc w Q:=by
 apply RX;have hm:=kg.ok.may;have fin:∀(na:Option Addr) (nn nc:Nat) (da:Option Addr) (dn dc:Nat) (w':World),Sep No w w' [ak na nn nc 3 1 (flat one (aW g.m sc)),ak da dn dc 21 1 (flat oW (jG g.m sc))]->Q (wG g sc) na nn nc da dn dc w':=λna nn nc da dn dc w' s=>h na nn nc da dn dc w' (fy s0 s) (au s);refine aS (bh (F:=No)) λrb w1 s=>?_;have kc:∀{w':World} {L':List As},Sep No w w' L'->w'.cell? (aZ r.p)=some (.pointer (sZ gr.p)):=λs=>by have:=(k.fr (au s)) 0 _ rfl;exact this
 refine ah (dO (kc s) ?_);refine jo s (kg.fr (au s)) λw1 s _=>?_;refine ah (dO (kc s) ?_);refine Ng s (kg.fr (au s)) (λe=>(e hs).elim) λ_ ta tn tc w1 s _=>?_;rw[ah5 hm hs]at s;refine aS s λtb w1 s=>?_;refine sT s 0 rfl λw1 s=>?_;refine sT s 0 rfl λw1 s=>?_;refine ax s (i:=0) rfl rfl rfl λw1 s=>?_;have s:=ay s;refine ah (dO (kc s) (ah (dO (kc s) ⟨?_,?_⟩)))
 ·refine rQ (kg.fr (au s)) ⟨kc s,?_,?_⟩
  ·refine xy s (kg.fr (au s)) hs λna nn nc w1 s _=>?_;refine aS s λpb w1 s=>?_;refine⟨kc s,kc s,?_⟩;refine sT s 0 rfl λw1 s=>?_;refine sT s 0 rfl λw1 s=>?_;refine ax s (i:=0) rfl rfl rfl λw1 s=>?_;exact adT hm hs s λda dn dc w' s=>fin _ _ _ da dn dc w' s
  ·refine aS s λpb w1 s=>?_;refine⟨kc s,kc s,?_⟩;refine xy s (kg.fr (au s)) hs λna nn nc w1 s _=>?_;refine sT s 1 rfl λw1 s=>?_;refine sT s 1 rfl λw1 s=>?_;refine ax s (i:=1) rfl rfl rfl λw1 s=>?_;exact adT hm hs (pk 99 [1,0,2,3,4] s) λda dn dc w' s=>fin _ _ _ da dn dc w' s
 ·refine aS s λpb w1 s=>?_;refine⟨kc s,kc s,?_⟩;refine rQ (kg.fr (au s)) ⟨kc s,?_⟩;refine xy s (kg.fr (au s)) hs λna nn nc w1 s _=>?_;refine sT s 1 rfl λw1 s=>?_;refine sT s 1 rfl λw1 s=>?_;refine ax s (i:=1) rfl rfl rfl λw1 s=>?_;exact adT hm hs (pk 99 [1,0,2,3,4] s) λda dn dc w' s=>fin _ _ _ da dn dc w' s
end
section
variable {F:Nat->Prop}{W w w0:World}{L:List As}{r:Bq}{gp:Nat}{x:nD}{gr:uz}{g:gW}{m:bJ}{sc b:Int}
def SF (x:nD)(i:Nat):Int:=(x.ps[i]?.map (·.e9)).getD 0
def ZY {i:Nat}{q:Ao}(h:x.ps[i]? =some q):SF x i=q.e9:=by unfold SF;rw[h];rfl
def kB (g:gW)(x:nD)(j:Nat):List Nat:=(List.range j).filter λi=>SF x i !=gi g.vs i
def zw (g:gW)(x:nD)(j:Nat):List Int:=(kB g x j).map λi:Nat=>(i:Int)
def alJ {j:Nat}:zw g x (j+1)=zw g x j++if SF x j !=gi g.vs j then[(j:Int)]else[]:=by unfold zw kB;rw[List.range_succ,List.filter_append,List.map_append];grind
def ZZ {Q:Option Addr->Nat->Nat->World->Prop}(s0:Sep F W w L)(k:Ey w r gr.p x)(kg:nB w gr g)(I:yw g x)
  (h:∀da dn dc w',Sep F W w' (ak da dn dc 3 1 (flat one (zw g x x.ps.length))::L)->Fr No w w'->Q da dn dc w'):yU (sZ r.p) w Q:=by
 apply P9;have k:=k.fr (w':=w.drew) Fr.refl;have kg:=kg.fr (w':=w.drew) Fr.refl;have s0:=ay s0;have hc:=(e_ kg.ok.may.w kg.ok.may.h).2;have IG:=I.len;refine ld (ah (aR (k.cell 2 _ rfl) (ah (dO (k.cell 0 _ rfl) ?_))));refine qY kg ⟨k.cell 2 _ rfl,?_⟩;by_cases x9:x.clean=g.ep
 ·rw[eC x9,cond_true];refine h none 0 0 w.drew ?_ Fr.refl;have e:zw g x x.ps.length=[]:=by unfold zw kB;rw[List.map_eq_nil_iff,List.filter_eq_nil_iff];intro i hi;have hi:=List.mem_range.1 hi;have hq:=List.getElem?_eq_getElem hi;rw[ZY hq,I.all x9 i _ hq,bne_self_eq_false];decide
  rw[e];exact bD s0 3 1
 rw[cQ x9,cond_false];refine ah (dx (k.cell 1 _ rfl) ?_);have hn:=k.row.len;have loop:∀(j i:Nat) (oa:Option Addr) (on oc:Nat) (w1:World),i+j=r.n->on<=i->Sep No w w1 [ak oa on oc 3 1 (flat one (zw g x i))]->nG Q (j+1) (sZ r.p) oa on oc r.n i w1:=by
  intro j;induction j with
  |zero=>
   intro i oa on oc w1 hi ho s;show qC Q (nG Q 0) _ _ _ _ _ _ _;rw[qC,bp];obtain rfl:i=x.ps.length:=by omega
   exact h oa on oc w1 (dD s0 s (i:=0) rfl) (au s)
  |succ j ih=>
   intro i oa on oc w1 hi ho s;show qC Q (nG Q (j+1)) _ _ _ _ _ _ _;rw[qC,bN,aG];have s:=ay s;have k1:=k.fr (au s);have kg1:=kg.fr (au s);refine ah (dx (k1.cell 1 _ rfl) ?_);refine k1.row.El rfl (by omega) λp q hq x9=>?_;have hc0:=x9 0 _ rfl;refine aR hc0 (ah (dO (by have:=k1.cell 0 _ rfl;rw[add_zero]at this;exact this) ?_));refine rQ kg1 ⟨hc0,k1.cell 1 _ rfl,?_⟩;have hv:wG g i=gi g.vs i:=by have:=kg.ok.len;unfold wG;grind
   rw[hv,<-ZY hq];have hds:=alJ (g:=g) (x:=x) (j:=i);cases hb:SF x i !=gi g.vs i with
   |true=>
    refine Lx s (by omega) λoa oc w1 s=>?_;grind
   |false=>
    grind
 exact⟨r.n+1,loop r.n 0 none 0 0 w.drew (by omega) (by omega) (bD bh 3 1)⟩
def WrP {a:Option Addr}{n c i:Nat}{es:List Ao}{idx:Int}{k:Nat}{q:Ao}{K:World->Prop}(s:Sep F W w L)(hi:L[i]? =some (ak a n c 319 3 (flat Kt es)))(hk:idx=k)(hn:k<es.length)(h:∀w',Sep F W w' (L.set i (ak a n c 319 3 (flat Kt (es.set k q))))->K w'):
  aK idx n (wA a λp=>St ((p.add (idx.toNat*3)).add 0) (ae q.e9) w λw=>St ((p.add (idx.toNat*3)).add 1) (.slice q.na q.nn q.nc) w λw=>St ((p.add (idx.toNat*3)).add 2) (.slice q.da q.dn q.dc) w λw=>K w):=by
 have hl:=(aO s hi Cp (by decide)).len;subst hk;have hg:=List.getElem?_eq_getElem hn;generalize es[k]=e0 at hg;refine CD s hi rfl (by omega) λg o ha=>?_;subst ha;have ad:∀j,(((⟨g,o,none⟩:Addr).add ((k:Int).toNat*3)).add j)=⟨g,o+(k*3+j),none⟩:=λj=>by rw[add_add,cm,Int.toNat_natCast]
 have IK:=(List.getElem?_eq_some_iff.1 hi).1;refine dW (x':=⟨q.e9,e0.na,e0.nn,e0.nc,e0.da,e0.dn,e0.dc,e0.nodes,e0.JN⟩) Cp s hi hg (ad 0) (by decide) rfl rfl λw s=>?_;refine dW (x:=⟨q.e9,e0.na,e0.nn,e0.nc,e0.da,e0.dn,e0.dc,e0.nodes,e0.JN⟩) (x':=⟨q.e9,q.na,q.nn,q.nc,e0.da,e0.dn,e0.dc,e0.nodes,e0.JN⟩) Cp s (by rw[List.getElem?_set_self IK]) (by grind) (ad 1) (by decide) rfl rfl λw s=>?_;rw[List.set_set,List.set_set]at s;refine dW (x:=⟨q.e9,q.na,q.nn,q.nc,e0.da,e0.dn,e0.dc,e0.nodes,e0.JN⟩) (x':=q) Cp s (by rw[List.getElem?_set_self IK]) (by grind) (ad 2) (by decide) rfl rfl λw s=>?_;simp_all
def LP:Nat->Int->Int
 |0,c=>c
 |k+1,c=>LP k (Ta.sat c 1)
def Wd {Q:Int->World->Prop}(s:Sep F W w (nV gr g::uA r gr.p x::L))(I:yw g x)
  (h:∀(x':nD) w',yw g x'->Nx g x'->x'.clean=g.ep->x'.fH=LP (kB g x x.ps.length).length x.fH->Sep F W w' (nV gr g::uA r gr.p x'::L)->Q ((kB g x x.ps.length).length:Int) w'):wB (sZ r.p) w Q:=by
 apply MF;apply ld;have kg:=oN s;have hgl:=kg.ok.len;have V7:=(e_ kg.ok.may.w kg.ok.may.h).2;have IG:=I.len;refine ZZ s (Wa (ai s)) kg I λda dn dc w1 s _=>?_;have hD:=(aO s (i:=0) rfl cB (by decide)).len;have hds:(kB g x x.ps.length).length=dn:=by rw[<-hD];unfold zw;rw[List.length_map]
 have hdi:∀i,i<dn->gi (zw g x x.ps.length) i=((kB g x x.ps.length).getD i 0:Nat):=λi hi=>by unfold zw;show List.getD _ _ _=_;rw[List.getD_eq_getElem?_getD,List.getElem?_map,List.getD_eq_getElem?_getD,List.getElem?_eq_getElem (by omega)];rfl
 have hdm:∀i,i<dn->(kB g x x.ps.length).getD i 0<x.ps.length:=λi hi=>by
  have:(kB g x x.ps.length).getD i 0∈kB g x x.ps.length:=by rw[List.getD_eq_getElem?_getD,List.getElem?_eq_getElem (by omega)];exact List.getElem_mem _
  exact List.mem_range.1 (List.mem_filter.1 this).1
 have hdn:dn<=x.ps.length:=by rw[<-hds];have:=List.length_filter_le (λi=>SF x i !=gi g.vs i) (List.range x.ps.length);rw[List.length_range]at this;exact this
 have loop:∀(j i:Nat) (ps:List Ao) (c:Int) (w1:World),i+j=dn->ps.length=x.ps.length->Ta.U c->LP j c=LP dn x.fH->
   (∀k q,ps[k]? =some q->(k∈(kB g x x.ps.length).take i->q.e9=gi g.vs k/\q.nodes=aW g.m k/\q.JN=jG g.m k)/\(k∉(kB g x x.ps.length).take i->x.ps[k]? =some q))->
   Sep F W w1 (ak da dn dc 3 1 (flat one (zw g x x.ps.length))::nV gr g::av r.p 236 (abQ r gr.p ⟨ps,x.clean,c⟩)::ak r.a r.n r.c 319 3 (flat Kt ps)::(ps.map abP++L))->
   lX Q (j+1) (sZ r.p) da dn dc da dn dc dn i w1:=by
  intro j;induction j with
  |zero=>
   intro i ps c w1 hi hps hu hc hk s;show oy Q (lX Q 0) _ _ _ _ _ _ _ _ _ _;rw[oy,bp];have BG:=(aO s (i:=3) rfl Cp (by decide)).len;have kg:=oN (ai s);refine ah (lP s 2 rfl ?_);apply qY kg;refine ah (sT s 2 rfl λw1 s=>?_);have hfull:(kB g x x.ps.length).take i=kB g x x.ps.length:=List.take_of_length_le (by omega);rw[hfull]at hk;have fresh:∀k q,ps[k]? =some q->q.e9=gi g.vs k/\q.nodes=aW g.m k/\q.JN=jG g.m k:=λk q hq=>by
    by_cases hm:k∈kB g x x.ps.length
    ·exact(hk k q hq).1 hm
    ·have KO:=(hk k q hq).2 hm;have hkl:=(List.getElem?_eq_some_iff.1 KO).1;have hv:q.e9=gi g.vs k:=by refine Classical.byContradiction λhne=>hm (List.mem_filter.2 ⟨List.mem_range.2 hkl,?_⟩);rw[ZY KO,bne_iff_ne];exact hne
     exact⟨hv,I.ok k q KO hv⟩
   have hlen:∀k q,ps[k]? =some q->k<g.vs.length:=λk q hq=>by have:=(List.getElem?_eq_some_iff.1 hq).1;omega
   have I':yw g ⟨ps,g.ep,c⟩:=⟨by rw[hps];exact IG,⟨Int.le_refl _,λq hq=>by obtain⟨k,hk'⟩:=List.mem_iff_getElem?.1 hq;rw[(fresh k q hk').1];exact(kg.ok.vs _ (fE (hlen k q hk'))).2⟩,λ_ k q hq=>(fresh k q hq).1,λk q hq _=>(fresh k q hq).2,hu⟩
   have s:=ai s;have s:Sep F W w1 (nV gr g::(LO r gr.p ⟨ps,g.ep,c⟩++L)):=s;have s:Sep F W w1 (nV gr g::uA r gr.p ⟨ps,g.ep,c⟩::L):=by have s1:=cg s (L':=LO r gr.p ⟨ps,g.ep,c⟩++nV gr g::L) List.perm_middle.symm;exact cg (abR s1) (List.Perm.swap _ _ _)
   rw[<-hds];refine h ⟨ps,g.ep,c⟩ w1 I' (λk q hq=>(fresh k q hq).1) rfl ?_ s;rw[hds,<-hc];rfl
  |succ j ih=>
   intro i ps c w1 hi hps hu hc hk s;show oy Q (lX Q (j+1)) _ _ _ _ _ _ _ _ _ _;rw[oy,bN,aG];apply(aO s (i:=0) rfl cB (by decide)).rG rfl (by omega);rw[hdi i (by omega)];have hdk:=hdm i (by omega);have akD:(kB g x x.ps.length).take (i+1)=(kB g x x.ps.length).take i++[(kB g x x.ps.length).getD i 0]:=by rw[List.take_add_one,List.getD_eq_getElem?_getD,List.getElem?_eq_getElem (by omega)];rfl
   generalize hdv:(kB g x x.ps.length).getD i 0=d at hdk akD⊢;have s:=ay s;refine ah (lS s 2 rfl ?_);have kg:=oN (ai s);have vZ:dX g.m.w g.m.h d:=⟨⟨kg.ok.may.w,kg.ok.may.h⟩,by omega,by omega⟩;refine abU s (lj s (i:=2) rfl) kg vZ λna nn nc LQ dn' LR w1 s _=>?_;refine⟨cj s 4 rfl,?_⟩;have hv:wG g d=gi g.vs d:=by rw[wG,AA,Int.toNat_natCast]
   rw[hv];refine WrP (q:=⟨gi g.vs d,na,nn,nc,LQ,dn',LR,aW g.m d,jG g.m d⟩) s (i:=5) rfl rfl (by omega) λw1 s=>?_;simp[List.cons_append,List.nil_append,List.set_cons_zero,List.set_cons_succ]at s;refine ah (lI s 4 rfl ?_);apply Ta.Bp hu (by unfold Ta.U;omega);refine ah (sT s 4 rfl λw1 s=>?_);refine ih (i+1) (ps.set d ⟨gi g.vs d,na,nn,nc,LQ,dn',LR,aW g.m d,jG g.m d⟩) (Ta.sat c 1) w1 (by omega) (by rw[List.length_set];exact hps) (Ta.GI hu (by unfold Ta.U;omega)) hc ?_ ?_
   ·intro k q hq;rw[akD];rw[List.getElem?_set]at hq;by_cases hkd:d=k
    ·subst hkd;rw[if_pos rfl,AA]at hq;cases hq;exact⟨λ_=>⟨rfl,rfl,rfl⟩,λhn=>(hn (by simp)).elim⟩
    ·rw[if_neg hkd]at hq;refine⟨λhm=>(hk k q hq).1 ?_,λhn=>(hk k q hq).2 λhm=>hn (by simp[hm])⟩;rcases List.mem_append.1 hm with hm|hm
     ·exact hm
     ·rw[List.mem_singleton]at hm;exact(hkd hm.symm).elim
   ·have s1:=dA (Ps:=[ak na nn nc 3 1 (flat one (aW g.m d)),ak LQ dn' LR 21 1 (flat oW (jG g.m d))]) s trivial;have s2:=SD (i:=4+d) s1;rw[show 4+d=d+1+1+1+1 by omega]at s2;simp[List.set_cons_succ]at s2;rw[List.set_append_left _ _ (by rw[List.length_map];omega)]at s2;rw[List.map_set];exact s2
 have s0:=ae9 (cg s (L':=uA r gr.p x::ak da dn dc 3 1 (flat one (zw g x x.ps.length))::nV gr g::L) (List.perm_middle (l₁:=[_,_])));have s1:=cg s0 (L':=[ak da dn dc 3 1 (flat one (zw g x x.ps.length)),nV gr g]++(LO r gr.p x++L)) (List.perm_append_comm_assoc _ [_,_] _);exact⟨dn+1,loop dn 0 x.ps x.fH w1 (by omega) rfl I.u rfl (λk q hq=>⟨λhm=>by simp at hm,λ_=>hq⟩) s1⟩
def LS:Ao:=⟨0,none,0,0,none,0,0,[],[]⟩
def asV (n:Nat)(s:Sep F W w L):Sep F W w ((List.replicate n LS).map abP++L):=by
 induction n with
 |zero=>exact s
 |succ n ih=>
  have s1:=bD (bD ih 21 1) 3 1;exact dA s1 trivial
def adU {Q:Option Addr->World->Prop}(s0:Sep F W w L)(kg:nB w gr g)
  (h:∀r w',Sep F W w' (uA r gr.p ⟨List.replicate (dy g.m.w g.m.h).toNat LS,0,0⟩::L)->Fr No w w'->Q (sZ r.p) w'):HE (sZ gr.p) w Q:=by
 apply adk;apply ld;refine jo (bh (F:=No)) kg λw1 s _=>?_;apply qK;have hm:gz g.m.w g.m.h:=⟨kg.ok.may.w,kg.ok.may.h⟩;have hc:=(e_ kg.ok.may.w kg.ok.may.h);unfold ZC adB;rw[if_pos hm,if_pos hm,wrap_i64 (by show _<=dy _ _;omega) (by show dy _ _<_;omega)];refine xH (x0:=LS) (bytes:=56) (cn:=(dy g.m.w g.m.h).toNat) ef s rfl rfl rfl rfl rfl rfl (by decide) Cp rfl (λu hu=>an7 _ u hu) (by show dy _ _=_;omega) (by show dy _ _=_;omega) (Nat.le_refl _) (by omega) (by simp[maxLen];omega) λab w1 s=>?_;refine aN s λmb w1 s=>?_;have s1:Sep No w w1 (LO ⟨mb,sZ ab,(dy g.m.w g.m.h).toNat,(dy g.m.w g.m.h).toNat⟩ gr.p ⟨List.replicate (dy g.m.w g.m.h).toNat LS,0,0⟩++[]):=by have s2:=asV (dy g.m.w g.m.h).toNat s;have s3:=cg s2 (List.perm_append_comm);rw[List.append_nil];exact s3
 have s2:=abR s1;exact h ⟨mb,sZ ab,(dy g.m.w g.m.h).toNat,(dy g.m.w g.m.h).toNat⟩ w1 (dD s0 s2 (i:=0) rfl) (au s2)
end
end Go.Proofs.YtmegplnmiepfbaaGreatDoor.S
namespace Go.Proofs.YtmegplnmiepfbaaGreatDoor.S.Lr
open Go.Sx
structure kI where
 a:Int
 b:Int
 nw:Int
 od:Int
def Nz (ss:List kI)(i:Nat):Int:=(ss[i]?.map (·.nw)).getD 0
def NA (ss:List kI)(i:Nat):Int:=(ss[i]?.map (·.od)).getD 0
def I_ (xs:List Nat)(n:Int):Int:=match xs with|[]=>n|x::_=>x
def Cq (xs:List Nat)(p:Int):Int:=match xs with|[]=>p|x::xs=>Cq xs x
def xC (ss:List kI)(p:Int)(xs:List Nat)(n:Int):Prop:=match xs with
 |[]=>True
 |x::xs=>Nz ss x=p/\NA ss x=I_ xs n/\xC ss x xs n
def adV (xs ys:List Nat)(n:Int):I_ (xs++ys) n=I_ xs (I_ ys n):=by cases xs<;>rfl
def adW (xs ys:List Nat)(p:Int):Cq (xs++ys) p=Cq ys (Cq xs p):=by
 induction xs generalizing p with
 |nil=>rfl
 |cons x xs ih=>exact ih x
def adX {ss:List kI}{p n:Int}{xs ys:List Nat}:xC ss p (xs++ys) n↔xC ss p xs (I_ ys n)/\xC ss (Cq xs p) ys n:=by
 induction xs generalizing p with
 |nil=>simp[xC,Cq]
 |cons x xs ih=>
  simp[List.cons_append,xC,ih,adV,Cq];grind
def HY {ss ss':List kI}{p n:Int}{xs:List Nat}(h:∀x∈xs,Nz ss' x=Nz ss x/\NA ss' x=NA ss x)(s:xC ss p xs n):xC ss' p xs n:=by
 induction xs generalizing p with
 |nil=>trivial
 |cons x xs ih=>
  obtain⟨h1,h2,h3⟩:=s;obtain⟨e1,e2⟩:=h x (by simp);exact⟨e1.trans h1,e2.trans h2,ih (λy hy=>h y (by simp[hy])) h3⟩
def uB (ss:List kI)(i:Nat)(v:Int):List kI:=ss.modify i λs=>{s with nw:=v}
def yx (ss:List kI)(i:Nat)(v:Int):List kI:=ss.modify i λs=>{s with od:=v}
def Ja {ss:List kI}{i j:Nat}{v:Int}(h:i<ss.length):Nz (uB ss i v) j=if j=i then v else Nz ss j:=by unfold Nz uB;grind
def NB {ss:List kI}{i j:Nat}{v:Int}:NA (uB ss i v) j=NA ss j:=by unfold NA uB;grind
def NC {ss:List kI}{i j:Nat}{v:Int}(h:i<ss.length):NA (yx ss i v) j=if j=i then v else NA ss j:=by unfold NA yx;grind
def ND {ss:List kI}{i j:Nat}{v:Int}:Nz (yx ss i v) j=Nz ss j:=by unfold Nz yx;grind
def aoc {ss:List kI}{p n v:Int}{xs:List Nat}{y:Nat}(hy:y<ss.length)(hnd:(xs++[y]).Nodup)(s:xC ss p (xs++[y]) n):xC (yx ss y v) p (xs++[y]) v:=by rw[adX]at s⊢;obtain⟨s1,h1,h2,_⟩:=s;rw[List.nodup_append]at hnd;refine⟨HY (λx hx=>?_) s1,ND.trans h1,by rw[NC hy,if_pos rfl];rfl,trivial⟩;exact⟨ND,by rw[NC hy,if_neg (hnd.2.2 x hx y (by simp))]⟩
def afa {ss:List kI}{p n v:Int}{xs:List Nat}{y:Nat}(hy:y<ss.length)(hnd:(y::xs).Nodup)(s:xC ss p (y::xs) n):xC (uB ss y v) v (y::xs) n:=by obtain⟨h1,h2,h3⟩:=s;rw[List.nodup_cons]at hnd;refine⟨by rw[Ja hy,if_pos rfl],NB.trans h2,HY (λx hx=>⟨?_,NB⟩) h3⟩;rw[Ja hy,if_neg (λe:x=y=>hnd.1 (by grind))]
def W5 {ss:List kI}{p n v:Int}{xs:List Nat}{y:Nat}(hy:y<ss.length)(hx:y∉xs)(s:xC ss p xs n):xC (yx ss y v) p xs n/\xC (uB ss y v) p xs n:=
 ⟨HY (λx h=>⟨ND,by rw[NC hy,if_neg (λe:x=y=>hx (by rw[<-e];exact h))]⟩) s,HY (λx h=>⟨by rw[Ja hy,if_neg (λe:x=y=>hx (by rw[<-e];exact h))],NB⟩) s⟩
def Z0 (xs:List Nat)(y:Nat)(p:Int):Cq (xs++[y]) p=y:=by rw[adW];rfl
abbrev KS:=List ((Int×Int)×Nat)
def W6 (l:KS)(key:Int×Int):Int:=match l.find? (λp=>decide (p.1=key))with|some p=>p.2|none=>-1
def kJ (k:Int)(l:KS)(key:Int×Int):(Int×Bool×Bool)×KS:=match l.find? (λp=>decide (p.1=key))with
 |some p=>((p.2,true,false),(key,p.2)::l.filter (λq=>!decide (q.1=key)))
 |none=>if(l.length:Int)<k then((l.length,false,false),(key,l.length)::l)else match l.getLast? with
  |some p=>((p.2,false,true),(key,p.2)::l.dropLast)
  |none=>((-1,false,true),l)
structure Good (k:Int) (l:KS):Prop where
 room:(l.length:Int)<=k
 nd:(l.map (·.2)).Nodup
 lt:∀p∈l,p.2<l.length
 FH:(l.map (·.1)).Nodup
def LU {k:Int}(h:0<=k):Good k []:=⟨h,.nil,by simp,.nil⟩
def SG {l:KS}(h:(l.map (·.1)).Nodup){p q:(Int×Int)×Nat}(hp:p∈l)(hq:q∈l)(e:p.1=q.1):p=q:=by
 induction l with
 |nil=>cases hp
 |cons x l ih=>
  grind
def NF {l:KS}{key:Int×Int}{p:(Int×Int)×Nat}(h:l.find? (λp=>decide (p.1=key))=some p):p.1=key/\p∈l:=by grind
def afb {l:KS}{key:Int×Int}(h:l.find? (λp=>decide (p.1=key))=none):∀p∈l,p.1≠key:=λp hp e=>by grind
def Yo {l:KS}(hnd:(l.map (·.1)).Nodup){p:(Int×Int)×Nat}(hp:p∈l):l.find? (λq=>decide (q.1=p.1))=some p:=by
 cases h:l.find? (λq=>decide (q.1=p.1))with
 |none=>grind
 |some q=>
  obtain⟨h1,h2⟩:=NF h;rw[SG hnd h2 hp h1]
def Z1 {l:KS}(hnd:(l.map (·.1)).Nodup){p:(Int×Int)×Nat}(hp:p∈l):∃pre post,l=pre++p::post/\l.filter (λq=>!decide (q.1=p.1))=pre++post:=by
 obtain⟨pre,post,rfl⟩:=List.append_of_mem hp;refine⟨pre,post,rfl,?_⟩;rw[List.map_append,List.map_cons,List.nodup_append,List.nodup_cons]at hnd;rw[List.filter_append,List.filter_cons_of_neg (by simp),List.filter_eq_self.2,List.filter_eq_self.2]
 ·grind
 ·intro q hq;have:q.1≠p.1:=λe=>hnd.2.2 q.1 (List.mem_map.2 ⟨q,hq,rfl⟩) p.1 (by simp) e;simp[this]
def W7 {l:KS}(hnd:(l.map (·.1)).Nodup){p:(Int×Int)×Nat}(hp:p∈l)(k:Int×Int)(n:Nat):((k,n)::l.filter (λq=>!decide (q.1=p.1))).length=l.length:=by obtain⟨pre,post,e1,e2⟩:=Z1 hnd hp;grind
def Z2 {k:Int}{l:KS}{key:Int×Int}(hk:1<=k)(h:Good k l):Good k (kJ k l key).2:=by
 unfold kJ;cases hf:l.find? (λp=>decide (p.1=key))with
 |some p=>
  obtain⟨rfl,hp⟩:=NF hf;obtain⟨pre,post,e1,e2⟩:=Z1 h.FH hp;rw[e2];have OL:List.Perm ((p.1,p.2)::(pre++post)) l:=by grind
  have hlen:=OL.length_eq;exact⟨by rw[hlen];exact h.room,(OL.map (·.2)).nodup_iff.2 h.nd,λq hq=>by rw[hlen];exact h.lt q (OL.mem_iff.1 hq),(OL.map (·.1)).nodup_iff.2 h.FH⟩
 |none=>
  have hn:=afb hf;by_cases hroom:(l.length:Int)<k
  ·rw[if_pos hroom];refine⟨by grind,?_,λq hq=>?_,?_⟩
   ·simp only[List.map_cons,List.nodup_cons];refine⟨λhm=>?_,h.nd⟩;obtain⟨q,hq,e⟩:=List.mem_map.1 hm;have:=h.lt q hq;omega
   ·simp[List.length_cons];rcases List.mem_cons.1 hq with rfl|hq
    ·simp
    ·have:=h.lt q hq;omega
   ·simp[List.map_cons,List.nodup_cons];refine⟨λhm=>?_,h.FH⟩;grind
  ·rw[if_neg hroom];cases hl:l.getLast? with
   |none=>exact h
   |some p=>
    obtain⟨ys,rfl⟩:=List.getLast?_eq_some_iff.1 hl;rw[List.dropLast_concat];have e1:(ys++[p]).length=((key,p.2)::ys).length:=by simp
    have OL:List.Perm (((key,p.2)::ys).map (·.2)) ((ys++[p]).map (·.2)):=by rw[List.map_cons,List.map_append];exact(List.perm_append_singleton _ _).symm
    refine⟨by rw[<-e1];exact h.room,OL.nodup_iff.2 h.nd,λq hq=>?_,?_⟩
    ·rw[<-e1];rcases List.mem_cons.1 hq with rfl|hq
     ·exact h.lt p (by simp)
     ·exact h.lt q (by simp[hq])
    ·simp only[List.map_cons,List.nodup_cons];have:=h.FH;rw[List.map_append,List.nodup_append]at this;refine⟨λhm=>?_,this.1⟩;obtain⟨q,hq,e⟩:=List.mem_map.1 hm;exact hn q (by simp[hq]) e
def ef:wP P T:=EF P rows HC
def av1:zc T 253=[ae 0,ae 0]:=rfl
attribute [local irreducible] af cA bw bg aA cq bY St Bx Al App cD cy cw bT aL bC aq bR av ak aV mapA
def uC (s:kI):List Value:=[ae s.a,ae s.b,ae s.nw,ae s.od]
def lq (s:kI):(uC s).length=4:=rfl
def aod (v:kI)(u:Value)(h:u∈uC v):u.oneCell'=true:=by simp[uC,List.mem_cons,List.not_mem_nil,or_false]at h;rcases h with rfl|rfl|rfl|rfl<;>rfl
def aij {ss:List kI}{i:Nat}{x:kI}{v:Int}(h:ss[i]? =some x):ss.set i {x with nw:=v}=uB ss i v:=by apply List.ext_getElem?;intro j;unfold uB;grind
def aoe {ss:List kI}{i:Nat}{x:kI}{v:Int}(h:ss[i]? =some x):ss.set i {x with od:=v}=yx ss i v:=by apply List.ext_getElem?;intro j;unfold yx;grind
def Br (ss ss':List kI):Prop:=ss'.length=ss.length/\∀i:Nat,(ss'[i]?.map λs=>(s.a,s.b))=ss[i]?.map λs=>(s.a,s.b)
def Br.refl {ss:List kI}:Br ss ss:=⟨rfl,λ_=>rfl⟩
def Br.trans {a b c:List kI}(h:Br a b)(k:Br b c):Br a c:=⟨k.1.trans h.1,λi=>(k.2 i).trans (h.2 i)⟩
def Iy {ss:List kI}{i:Nat}{v:Int}:Br ss (uB ss i v):=by refine⟨by simp[uB],λj=>?_⟩;unfold uB;grind
def Yp {ss:List kI}{i:Nat}{v:Int}:Br ss (yx ss i v):=by refine⟨by simp[yx],λj=>?_⟩;unfold yx;grind
def QV {ss:List kI}{i:Nat}(h:i<ss.length):∃s,ss[i]? =some s/\s.nw=Nz ss i/\s.od=NA ss i:=by
 refine⟨ss[i],List.getElem?_eq_getElem h,?_,?_⟩
 ·simp[Nz,h]
 ·simp[NA,h]
section
variable {F:Nat->Prop}{W w:World}{L:List As}{p:Nat}{sa:Option Addr}{sn sc:Nat}{ss:List kI}{kv mv:Value}{nw od:Int}{Q:World->Prop}
def afc {sb:Nat}{x a b:Int}{pre post:List Nat}{y:Nat}(hs:∀i∈pre++y::post,i<sn)(hnd:(pre++y::post).Nodup)(h1:xC ss (-1) pre (I_ post (-1)))(h2:xC ss y post (-1))
  (LV:od=Cq (pre++y::post) (-1))
  (s:Sep F W w (av sb 334 [ae a,ae b,ae (Cq pre (-1)),ae (I_ post (-1))]::av p 182 [kv,.slice sa sn sc,mv,ae nw,ae od]::ak sa sn sc 334 4 (flat uC ss)::L))
  (h:∀ss' w',Br ss ss'->xC ss' (-1) (pre++post) (-1)->Sep F W w' (av p 182 [kv,.slice sa sn sc,mv,ae nw,ae (Cq (pre++post) (-1))]::ak sa sn sc 334 4 (flat uC ss')::L)->Q w'):
  xl Q (sZ p) (aZ sb) w:=by
 have hl:=rf s (i:=2) rfl;rw[iT lq]at hl;rw[adW]at LV;cases post with
 |nil=>
  apply lI s 0 rfl;apply lI s 0 rfl;apply ah;refine ax s (i:=1) rfl rfl rfl λw s=>?_;refine h ss _ Br.refl ?_ ?_
  ·rw[List.append_nil];exact h1
  ·rw[List.append_nil];exact ai s
 |cons z post=>
  have hz:=hs z (by simp);apply lI s 0 rfl;rw[show((I_ (z::post) (-1):Int)==-1)=false by rw[beq_eq_false_iff_ne];show(z:Int)≠-1;omega,cond_false];apply ah;have s:=ay s;apply lS s 1 rfl;apply lI s 0 rfl;apply lI s 0 rfl;obtain⟨x,hx,M5,KW⟩:=QV (ss:=ss) (i:=z) (by omega);refine CD s (i:=2) rfl rfl hz λg o e=>?_;subst e;refine dW (i:=2) (x':={x with nw:=Cq pre (-1)}) lq s rfl hx (d_ _ _ _ _ _) (by decide) rfl rfl λw s=>?_;rw[aij hx]at s;refine h (uB ss z (Cq pre (-1))) _ Iy ?_ ?_
  ·rw[adX];have hn2:=(List.nodup_append.1 hnd).2.1;rw[List.nodup_cons]at hn2;refine⟨(W5 (by omega) (λhm=>?_) h1).2,afa (by omega) hn2.2 h2⟩;grind
  ·rw[adW];have:od=Cq (z::post) (Cq pre (-1)):=LV;rw[<-this];exact ai s
def We {pre post:List Nat}{y:Nat}(hs:∀i∈pre++y::post,i<sn)(hnd:(pre++y::post).Nodup)(JO:xC ss (-1) (pre++y::post) (-1))(Tn:nw=I_ (pre++y::post) (-1))(LV:od=Cq (pre++y::post) (-1))
  (s:Sep F W w (av p 182 [kv,.slice sa sn sc,mv,ae nw,ae od]::ak sa sn sc 334 4 (flat uC ss)::L))
  (h:∀ss' w',Br ss ss'->xC ss' (-1) (pre++post) (-1)->Sep F W w' (av p 182 [kv,.slice sa sn sc,mv,ae (I_ (pre++post) (-1)),ae (Cq (pre++post) (-1))]::ak sa sn sc 334 4 (flat uC ss')::L)->Q w'):
  tZ (sZ p) y w Q:=by
 apply Sa;have hl:=rf s (i:=1) rfl;rw[iT lq]at hl;have hy:=hs y (by simp);obtain⟨x,hx,M5,KW⟩:=QV (ss:=ss) (i:=y) (by omega);rw[adX]at JO;obtain⟨h1,h2,h3,h4⟩:=JO;have h1:=h1;rw[h2]at M5;rw[h3]at KW;apply ah;apply lS s 0 rfl;refine CD s (i:=1) rfl rfl hy λg o e=>?_;subst e;apply eJ (i:=1) lq s rfl hx (d_ _ _ _ _ _) rfl;apply eJ (i:=1) lq s rfl hx (d_ _ _ _ _ _) rfl;apply eJ (i:=1) lq s rfl hx (d_ _ _ _ _ _) rfl;apply eJ (i:=1) lq s rfl hx (d_ _ _ _ _ _) rfl;rw[M5,KW];refine aS s λsb w s=>?_;refine sT s 0 rfl λw s=>?_;refine sT s 0 rfl λw s=>?_;refine sT s 0 rfl λw s=>?_;refine ax s (i:=0) rfl rfl rfl λw s=>?_;apply lI s 0 rfl;rcases List.eq_nil_or_concat pre with rfl|⟨pre',u,rfl⟩
 ·apply lI s 0 rfl;apply ah;refine ax s (i:=1) rfl rfl rfl λw s=>?_;exact afc (x:=0) hs hnd trivial h4 LV s λss' w' k1 k2 s=>h ss' w' k1 k2 s
 ·simp only[List.concat_eq_append]at*;have hu:=hs u (by simp);rw[Z0]at s⊢;rw[show((u:Int)==-1)=false by rw[beq_eq_false_iff_ne];omega,cond_false];apply ah;have s:=ay s;apply lS s 1 rfl;apply lI s 0 rfl;apply lI s 0 rfl;obtain⟨z,hz,hz1,hz2⟩:=QV (ss:=ss) (i:=u) (by omega);refine CD s (i:=2) rfl rfl hu λg' o' e=>?_;cases e;refine dW (i:=2) (x':={z with od:=I_ post (-1)}) lq s rfl hz (d_ _ _ _ _ _) (by decide) rfl rfl λw s=>?_;rw[aoe hz]at s;have ax7:=(List.nodup_append.1 hnd).1;have ax8:=(List.nodup_append.1 hnd).2;refine afc (x:=0) hs hnd (aoc (by omega) ax7 h1) ((W5 (by omega) (λhm=>ax8.2 u (by simp) u (by simp[hm]) rfl) h4).1) LV (by rw[Z0];exact s) λss' w' k1 k2 s=>h ss' w' (Yp.trans k1) k2 ?_;have e:I_ (pre'++[u]++post) (-1)=nw:=by rw[Tn,adV,adV (pre'++[u])];cases pre'<;>rfl
  rw[e];exact s
def akE {y:Nat}(s:Sep F W w (av p 182 [kv,.slice sa sn sc,mv,ae nw,ae od]::ak sa sn sc 334 4 (flat uC ss)::L))
  (h:∀w',Sep F W w' (av p 182 [kv,.slice sa sn sc,mv,ae y,ae od]::ak sa sn sc 334 4 (flat uC ss)::L)->Q w'):Af Q (sZ p) y w:=by
 apply ah;refine sT s 0 rfl λw s=>?_;grind
def alK {xs:List Nat}{y:Nat}(hy:y<sn)(hs:∀i∈xs,i<sn)(hnd:(y::xs).Nodup)(JO:xC ss (-1) xs (-1))(Tn:nw=I_ xs (-1))(LV:od=Cq xs (-1))
  (s:Sep F W w (av p 182 [kv,.slice sa sn sc,mv,ae nw,ae od]::ak sa sn sc 334 4 (flat uC ss)::L))
  (h:∀ss' w',Br ss ss'->xC ss' (-1) (y::xs) (-1)->Sep F W w' (av p 182 [kv,.slice sa sn sc,mv,ae (I_ (y::xs) (-1)),ae (Cq (y::xs) (-1))]::ak sa sn sc 334 4 (flat uC ss')::L)->Q w'):
  w9 (sZ p) y w Q:=by
 apply VG;have hl:=rf s (i:=1) rfl;rw[iT lq]at hl;obtain⟨x,hx,M5,KW⟩:=QV (ss:=ss) (i:=y) (by omega);rw[List.nodup_cons]at hnd;have s:=ay s;apply ah;apply lS s 0 rfl;apply ah;apply lS s 0 rfl;apply ah;apply lI s 0 rfl;refine CD s (i:=1) rfl rfl hy λg o e=>?_;subst e;refine dW (i:=1) (x':={x with nw:=-1}) lq s rfl hx (d_ _ _ _ _ _) (by decide) rfl rfl λw s=>?_;refine⟨by omega,by omega,ah ?_⟩;have hx':(ss.set y {x with nw:=-1})[y]? =some {x with nw:=-1}:=List.getElem?_set_self (by omega);refine dW (i:=1) (x':={x with nw:=-1,od:=nw}) lq s rfl hx' (d_ _ _ _ _ _) (by decide) rfl rfl λw s=>?_;rw[aij hx]at hx' s;rw[show({x with nw:=-1,od:=nw}:kI)={({x with nw:=-1}:kI)with od:=nw}from rfl,aoe hx']at s;have hl2:(uB ss y (-1)).length=ss.length:=Iy.1;have auN:xC (yx (uB ss y (-1)) y nw) (-1) xs (-1):=(W5 (by omega) hnd.1 (W5 (by omega) hnd.1 JO).2).1;have n2:Nz (yx (uB ss y (-1)) y nw) y=-1:=by rw[ND,Ja (by omega),if_pos rfl]
 have o2:NA (yx (uB ss y (-1)) y nw) y=nw:=by rw[NC (by omega),if_pos rfl]
 have k2:Br ss (yx (uB ss y (-1)) y nw):=Iy.trans Yp;generalize yx (uB ss y (-1)) y nw=ss2 at s auN n2 o2 k2;have hl3:=k2.1;apply ah;apply lI s 0 rfl;cases xs with
 |nil=>
  have e:nw=-1:=Tn;subst e;rw[show((-1:Int)==-1)=true from rfl,cond_true];apply ah;refine ax s (i:=0) rfl rfl rfl λw s=>?_;refine akE s λw s=>h _ _ k2 ⟨n2,o2,trivial⟩ s
 |cons z xs=>
  have e:nw=(z:Int):=Tn;subst e;have hz:=hs z (by simp);rw[show((z:Int)==-1)=false by rw[beq_eq_false_iff_ne];omega,cond_false];have s:=ay s;apply ah;apply lS s 0 rfl;apply ah;apply lI s 0 rfl;obtain⟨u,hu,_,_⟩:=QV (ss:=ss2) (i:=z) (by omega);refine⟨by omega,by omega,ah ?_⟩;refine dW (i:=1) (x':={u with nw:=(y:Int)}) lq s rfl hu (d_ _ _ _ _ _) (by decide) rfl rfl λw s=>?_;rw[aij hu]at s;have hne:y≠z:=λe=>hnd.1 (by simp[e]);refine akE s λw s=>h (uB ss2 z (y:Int)) _ (k2.trans Iy) ⟨?_,?_,?_⟩ ?_
  ·rw[Ja (by omega),if_neg hne];exact n2
  ·rw[NB];exact o2
  ·exact afa (by omega) hnd.2 auN
  ·have e2:Cq (y::z::xs) (-1)=od:=by rw[LV];rfl
   rw[e2];exact s
end
end Go.Proofs.YtmegplnmiepfbaaGreatDoor.S.Lr
namespace Go.Proofs.YtmegplnmiepfbaaGreatDoor.S.Lr
open Go.Sx
open Go.Maps (Keyed)
open Go.WideMaps (ArrKey keyOf_pair)
def aof:ArrKey P 253 3 2:=⟨by kernel_rfl,by kernel_rfl,by kernel_rfl,by kernel_rfl⟩
def kp:Keyed P 253:=Keyed.of_law aof.law
def aqm:P.underlying 180=some (.map 253 3):=by kernel_rfl
set_option maxRecDepth 100000 in
theorem arO (w:World):(zeroValue 3).run P w=.ok (ae 0) w:=rfl
def aqn:∃m,P.types.size=m+1:=⟨P.types.size-1,by have h:0<P.types.size:=of_decide_eq_true (by kernel_rfl);omega⟩
def Yr (k:Int×Int):Prop:=(Lit.int .i64 k.1).wf=true/\(Lit.int .i64 k.2).wf=true
def Z3 (k:Int×Int):Value:=.agg #[ae k.1,ae k.2]
def LW {a b:Int×Int}(h:Z3 a=Z3 b):a=b:=by obtain⟨a1,a2⟩:=a;simp[Z3]at h;rw[h.1,h.2]
def W8 {k:Int×Int}(h:Yr k):∃l,keyOf P 253 (Z3 k)=some l:=⟨_,keyOf_pair aof (by kernel_rfl) aqn h.1 h.2⟩
attribute [local irreducible] af cA bw bg aA cq bY St Bx Al App cD cy cw bT aL bC aq bR av ak aV mapA
def To (p:(Int×Int)×Nat):Value×Value:=(Z3 p.1,ae p.2)
structure adY where
 sa:Option Addr
 sn:Nat
 sc:Nat
 mb:Nat
 ss:List kI
 m:List (Value×Value)
 nw:Int
 od:Int
structure alL (k:Int) (l:KS) (r:adY):Prop where
 hk:1<=k
 good:Good k l
 sn:r.sn=l.length
 nw:r.nw=I_ (l.map (·.2)) (-1)
 od:r.od=Cq (l.map (·.2)) (-1)
 seg:xC r.ss (-1) (l.map (·.2)) (-1)
 key:∀p∈l,r.ss[p.2]?.map (λs=>(s.a,s.b))=some p.1
 perm:r.m.Perm (l.map To)
 wf:∀p∈l,Yr p.1
noncomputable def agE (p:Nat)(k:Int)(r:adY):List As:=[av p 182 [ae k,.slice r.sa r.sn r.sc,.map (some r.mb),ae r.nw,ae r.od],ak r.sa r.sn r.sc 334 4 (flat uC r.ss),mapA P 253 r.mb r.m]
noncomputable def HZ (p:Nat)(k:Int)(l:KS)(r:adY):As:=aV (alL k l r) (agE p k r)
section
variable {F:Nat->Prop}{W w:World}{L:List As}{p:Nat}{k:Int}{l:KS}{r:adY}
def aik (s:Sep F W w (HZ p k l r::L)):alL k l r/\Sep F W w (agE p k r++L):=gP s
def afd (s:Sep F W w (agE p k r++L))(h:alL k l r):Sep F W w (HZ p k l r::L):=dA s h
def Ys {Q:World->Prop}{v1 v2 v3 v4:Value}(hk:1<=k)(s:Sep F W w (av p 182 [ae k,v1,v2,v3,v4]::L))(h:∀r w',Sep F W w' (HZ p k [] r::L)->Q w'):vB (sZ p) w Q:=by apply T2;refine ahf s P 253 180 λmb w s=>?_;apply ah;refine sT s 1 rfl λw s=>?_;apply ah;refine sT s 1 rfl λw s=>?_;apply ah;refine sT s 1 rfl λw s=>?_;apply ah;refine ax s (i:=1) rfl rfl rfl λw s=>?_;have s:=cg (bD s 334 4) (List.Perm.trans (List.Perm.cons _ (List.Perm.swap ..)) (List.Perm.trans (List.Perm.swap ..) (List.Perm.refl _)));exact h ⟨none,0,0,mb,[],[],-1,-1⟩ w (afd s ⟨hk,LU (by omega),rfl,rfl,rfl,trivial,(λp hp=>by cases hp),List.Perm.nil,(λp hp=>by cases hp)⟩)
def aog {Q:Option Addr->World->Prop}(s:Sep F W w L)(hno:k<1->Q none w)(h:1<=k->∀p r w',Sep F W w' (HZ p k [] r::L)->Q (sZ p) w'):Jr k w Q:=by
 apply afT;by_cases hk:k<1
 ·grind
 ·rw[bp hk];refine aN s λp w s=>?_;exact Ys (by omega) s λr w s=>h (by omega) p r w s
def look {K:Value->World->Prop}{key:Int×Int}(s:Sep F W w (agE p k r++L))(hI:alL k l r)(hkey:Yr key)(h0:l.find? (λp=>decide (p.1=key))=none->K (.tuple #[ae 0,.bool false]) w)
  (h1:∀q,l.find? (λp=>decide (p.1=key))=some q->K (.tuple #[ae q.2,.bool true]) w):aL P (Instr.lookup 180 (.map (some r.mb)) (.agg #[ae key.1,ae key.2]) true) w K:=by
 refine aeM kp aqm (arO w) s (i:=2) rfl (W8 hkey) (λh=>?_) (λj v hj=>?_)
 ·refine h0 (List.find?_eq_none.2 λq hq=>?_);have:=h (To q) (hI.perm.mem_iff.2 (List.mem_map.2 ⟨q,hq,rfl⟩));simp[decide_eq_true_eq];exact λe=>this (by rw[<-e];rfl)
 ·have hm:=hI.perm.mem_iff.1 (List.mem_of_getElem? hj);obtain⟨q,hq,e⟩:=List.mem_map.1 hm;have e1:=congrArg Prod.fst e;have e2:=congrArg Prod.snd e;have e1:=LW e1;subst e1 e2;exact h1 q (Yo hI.good.FH hq)
def aqo (k:Int×Int):List Value:=[ae k.1,ae k.2]
end
end Go.Proofs.YtmegplnmiepfbaaGreatDoor.S.Lr
namespace Go.Proofs.YtmegplnmiepfbaaGreatDoor.S.Lr
open Go.Sx
open Go.Maps (Keyed)
attribute [local irreducible] af cA bw bg aA cq bY St Bx Al App cD cy cw bT aL bC aq bR av ak aV mapA
def SH {ss ss':List kI}(h:Br ss ss'){l:KS}(hk:∀p∈l,ss[p.2]?.map (λs=>(s.a,s.b))=some p.1):∀p∈l,ss'[p.2]?.map (λs=>(s.a,s.b))=some p.1:=λp hp=>(h.2 p.2).trans (hk p hp)
def aqp {ss:List kI}{x:kI}{p n:Int}{xs:List Nat}(h:∀i∈xs,i<ss.length)(s:xC ss p xs n):xC (ss++[x]) p xs n:=by refine HY (λi hi=>?_) s;have:=h i hi;simp[Nz,NA,List.getElem?_append_left this]
def asW {ss:List kI}{i:Nat}{x:kI}{a b:Int}{p n:Int}{xs:List Nat}(hx:ss[i]? =some x)(s:xC ss p xs n):xC (ss.set i {x with a:=a,b:=b}) p xs n:=by refine HY (λj hj=>?_) s;unfold Nz NA;grind
def asX {m:List (Value×Value)}{ys:KS}{q:(Int×Int)×Nat}{j:Nat}{v:Value}(hm:m.Perm ((ys++[q]).map To))(hj:m[j]? =some (Z3 q.1,v))(hnd:((ys++[q]).map (·.1)).Nodup):(m.eraseIdx j).Perm (ys.map To):=by
 have hmem:=hm.mem_iff.1 (List.mem_of_getElem? hj);obtain⟨q',KO,e⟩:=List.mem_map.1 hmem;have e1:=LW (congrArg Prod.fst e);have e2:=SG hnd KO (by simp) e1;subst e2;obtain⟨hjl,hje⟩:=List.getElem?_eq_some_iff.1 hj;have h1:m.Perm (To q'::m.eraseIdx j):=by
  rw[e,<-hje];have e3:m=m.take j++m[j]::m.drop (j+1):=by rw[List.getElem_cons_drop,List.take_append_drop]
  rw[List.eraseIdx_eq_take_drop_succ];exact(List.Perm.of_eq e3).trans List.perm_middle
 rw[List.map_append,List.map_singleton]at hm;exact List.Perm.cons_inv (h1.symm.trans (hm.trans (List.perm_append_singleton _ _)))
section
variable {F:Nat->Prop}{W w:World}{L:List As}{p:Nat}{k:Int}{l:KS}
def adZ {Q:Int->Bool->Bool->World->Prop}{kb:Nat}{key:Int×Int}{slot:Nat}{had out:Bool}{rest:KS}{sa:Option Addr}{sn sc mb:Nat}{ss:List kI}{m:List (Value×Value)}{nw od:Int}
  (hk:1<=k)(hg:Good k ((key,slot)::rest))(LG:sn=rest.length+1)(JO:xC ss (-1) (rest.map (·.2)) (-1))(Tn:nw=I_ (rest.map (·.2)) (-1))(LV:od=Cq (rest.map (·.2)) (-1))
  (hkeys:∀q∈(key,slot)::rest,ss[q.2]?.map (λs=>(s.a,s.b))=some q.1)(hm:m.Perm (((key,slot)::rest).map To)\/m.Perm (rest.map To))(hwf:∀q∈(key,slot)::rest,Yr q.1)
  (s:Sep F W w (av kb 253 (aqo key)::av p 182 [ae k,.slice sa sn sc,.map (some mb),ae nw,ae od]::ak sa sn sc 334 4 (flat uC ss)::mapA P 253 mb m::L))
  (h:∀r' w',Sep F W w' (HZ p k ((key,slot)::rest) r'::L)->Q slot had out w'):n_ Q (sZ p) slot had out (aZ kb) w:=by
 have s:=ay s;apply ah;apply lM s 1 rfl;apply lI s 0 rfl;apply lI s 0 rfl;have hlen:((key,slot)::rest).length=sn:=by rw[LG];rfl
 have fin:∀(m':List (Value×Value)) (w:World),m'.Perm (((key,slot)::rest).map To)->Sep F W w (av kb 253 (aqo key)::av p 182 [ae k,.slice sa sn sc,.map (some mb),ae nw,ae od]::ak sa sn sc 334 4 (flat uC ss)::mapA P 253 mb m'::L)->
   w9 (sZ p) slot w λax9=>Q slot had out ax9:=by
  intro m' w hm' s;have hnd:=hg.nd;refine alK (by have:=hg.lt (key,slot) (by simp);omega) (λi hi=>?_) hnd JO Tn LV (ai s) λss' w hK hS s=>?_
  ·obtain⟨q,hq,rfl⟩:=List.mem_map.1 hi;have:=hg.lt q (by simp[hq]);omega
  ·exact h ⟨sa,sn,sc,mb,ss',m',_,_⟩ w (afd s ⟨hk,hg,hlen.symm,rfl,rfl,hS,SH hK hkeys,hm',hwf⟩)
 refine Yc kp aqm s (i:=3) rfl (W8 (hwf (key,slot) (by simp))) (λhabs w s=>?_) (λj v0 hj w s=>?_)
 ·rcases hm with hm|hm
  ·exact(habs (To (key,slot)) (hm.mem_iff.2 (by simp)) rfl).elim
  ·refine fin _ w ?_ s;exact(List.perm_append_singleton _ _).trans (List.Perm.cons _ hm)
 ·rcases hm with hm|hm
  ·have hmem:=hm.mem_iff.1 (List.mem_of_getElem? hj);obtain⟨q,hq,e⟩:=List.mem_map.1 hmem;have e1:=LW (congrArg Prod.fst e);have e2:=SG hg.FH hq (q:=(key,slot)) (by simp) e1;subst e2;have e3:m.set j (.agg #[ae key.1,ae key.2],ae slot)=m:=by
    have:m[j]? =some (.agg #[ae key.1,ae key.2],ae slot):=by rw[hj,<-e];rfl
    exact rF this
   grind
  ·have hmem:=hm.mem_iff.1 (List.mem_of_getElem? hj);obtain⟨q,hq,e⟩:=List.mem_map.1 hmem;have e1:=LW (congrArg Prod.fst e);have:=hg.FH;simp only[List.map_cons,List.nodup_cons]at this;exact(this.1 (List.mem_map.2 ⟨q,hq,e1⟩)).elim
attribute [local irreducible] n_ in
theorem aoh {r:adY}{key:Int×Int}{Q:Int->Bool->Bool->World->Prop}(s:Sep F W w (HZ p k l r::L))(hkey:Yr key)(Ny:l.length<=1000000)
  (h:∀r' w',Sep F W w' (HZ p k (kJ k l key).2 r'::L)->Q (kJ k l key).1.1 (kJ k l key).1.2.1 (kJ k l key).1.2.2 w'):Dy (sZ p) key.1 key.2 w Q:=by
 apply XO;obtain⟨hI,s⟩:=aik s;have uD:=Z2 (key:=key) hI.hk hI.good;have hwf':∀q∈(kJ k l key).2,Yr q.1:=by
  intro q hq;unfold kJ at hq;cases hf:l.find? (λp=>decide (p.1=key))with
  |some q0=>
   rw[hf]at hq;rcases List.mem_cons.1 hq with rfl|hq
   ·exact hkey
   ·exact hI.wf q (List.mem_filter.1 hq).1
  |none=>
   rw[hf]at hq;simp only at hq;split at hq
   ·rcases List.mem_cons.1 hq with rfl|hq
    ·exact hkey
    ·exact hI.wf q hq
   ·split at hq
    ·rcases List.mem_cons.1 hq with rfl|hq
     ·exact hkey
     ·exact hI.wf q (List.dropLast_subset l hq)
    ·exact hI.wf q hq
 unfold kJ at h uD hwf';have BG:=rf s (i:=1) rfl;rw[iT lq]at BG;have LG:=hI.sn;have ad0:∀i∈l.map (·.2),i<r.sn:=λi hi=>by obtain⟨q,hq,rfl⟩:=List.mem_map.1 hi;have:=hI.good.lt q hq;omega
 refine aS s λkb w s=>?_;refine sT s 0 rfl λw s=>?_;refine ax s (i:=0) rfl rfl rfl λw s=>?_;have s:=s;have s:=ay s;apply ah;apply lM s 1 rfl;apply lI s 0 rfl;apply lI s 0 rfl;have s':=cg s (List.perm_middle).symm;refine look s' hI hkey (λhf=>?_) (λq hf=>?_)
 ·simp only[dT,dK,dI,dB,kL,cond_false,cond_true,if_pos,show Nat.beq (IE .i64) (IE .i64)=true from rfl];rw[hf]at h uD hwf';have s:=ay s;apply ah;apply lS s 1 rfl;apply ah;apply lI s 1 rfl;by_cases hroom:(l.length:Int)<k
  ·rw[if_pos hroom]at h uD hwf';rw[bN];apply ah;apply lS s 1 rfl;have s:=ay s;apply ah;apply lS s 1 rfl;apply lI s 0 rfl;apply lI s 0 rfl;refine aN s λzb w s=>?_;refine⟨cj s 2 rfl,?_⟩;have src:Src w (sZ zb) 1 4 (uC ⟨key.1,key.2,0,0⟩):=⟨rfl,aod _,λj u hj=>by rw[cm,Nat.zero_add];exact cK s (i:=0) rfl rfl hj⟩;refine iw ef s (i:=3) (bytes:=32) rfl rfl rfl rfl rfl rfl (by decide) rfl src (by simp[maxLen];omega) (by omega) (λe=>by cases e) λa1 c1 w s=>?_;have e:flat uC r.ss++uC ⟨key.1,key.2,0,0⟩=flat uC (r.ss++[⟨key.1,key.2,0,0⟩]):=by rw[fZ];simp[flat]
   rw[e]at s;apply ah;refine ax s (i:=2) rfl rfl rfl λw s=>?_;rw[LG]at s⊢;have s:=ai s;refine adZ hI.hk uD rfl (aqp (λi hi=>by have:=ad0 i hi;omega) hI.seg) hI.nw hI.od (λq hq=>?_) (.inr hI.perm) hwf' s h;rcases List.mem_cons.1 hq with rfl|hq
   ·rw[List.getElem?_append_right (by omega),show l.length-r.ss.length=0 by omega];rfl
   ·have:=hI.good.lt q hq;rw[List.getElem?_append_left (by omega)];exact hI.key q hq
  ·rw[if_neg hroom]at h uD hwf';rw[bp];have hne:l≠[]:=λe=>by rw[e]at hroom;have:=hI.hk;simp at hroom;omega
   have sx:=s;obtain⟨ys,q,rfl⟩:∃ys q,l=ys++[q]:=⟨l.dropLast,l.getLast hne,(List.dropLast_concat_getLast hne).symm⟩;have s:=sx;rw[List.getLast?_concat,List.dropLast_concat]at h uD hwf';have aya:r.od=(q.2:Int):=by rw[hI.od,List.map_append];exact Z0 _ _ _
   apply ah;apply lI s 1 rfl;rw[aya];have s:=cg s (List.Perm.trans (List.Perm.swap ..) (List.Perm.cons _ (List.Perm.swap ..)));have hnd:=hI.good.nd;have JO:=hI.seg;have Tn:=hI.nw;have LV:=hI.od;rw[List.map_append,List.map_singleton]at hnd JO Tn LV ad0;refine We ad0 hnd JO Tn LV s λss' w hK hS s=>?_;rw[List.append_nil]at s hS;have hl':ss'.length=r.ss.length:=hK.1;have hkeys:=SH hK hI.key;have s:=ay s;apply ah;apply lM s 0 rfl;apply ah;apply lS s 0 rfl;have auP:=ad0 q.2 (by simp);have hkq:=hkeys q (by simp);have hqw:=hI.wf q (by simp);refine(aO s (i:=1) rfl lq (by decide)).El rfl auP λpp x hx hc=>?_;rw[hx]at hkq;have hxa:x.a=q.1.1:=congrArg Prod.fst (Option.some.inj hkq);have hxb:x.b=q.1.2:=congrArg Prod.snd (Option.some.inj hkq);apply aR (hc 0 _ rfl);apply aR (hc 1 _ rfl);rw[hxa,hxb];have go:∀(m':List (Value×Value)) (w:World),m'.Perm (ys.map To)->Sep F W w (av p 182 [ae k,.slice r.sa r.sn r.sc,.map (some r.mb),ae (I_ (ys.map (·.2)) (-1)),ae (Cq (ys.map (·.2)) (-1))]::ak r.sa r.sn r.sc 334 4 (flat uC ss')::av kb 253 (aqo key)::mapA P 253 r.mb m'::L)->
     wA (some (aZ p)) λp44=>aA (p44.add 1) w.drew λav3 av4 aA1=>af .i64 ((aZ kb).add 0) w.drew λav5=>af .i64 ((aZ kb).add 1) w.drew λav6=>aK (q.2:Int) av4<|wA av3 λp_1=>
      St ((p_1.add ((q.2:Int).toNat*4)).add 0) (ae av5) w.drew λav7=>St ((p_1.add ((q.2:Int).toNat*4)).add 1) (ae av6) av7 λav8=>n_ Q (sZ p) q.2 false true (aZ kb) av8:=by
    intro m' w hm' s;have s:=ay s;apply ah;apply lS s 0 rfl;apply lI s 2 rfl;apply lI s 2 rfl;refine CD s (i:=1) rfl rfl auP λg o e=>?_;rw[e]at s;refine dW (i:=1) (x':={x with a:=key.1}) lq s rfl hx (d_ _ _ _ _ _) (by decide) rfl rfl λw s=>?_;have hx':(ss'.set q.2 {x with a:=key.1})[q.2]? =some {x with a:=key.1}:=List.getElem?_set_self (by omega);refine dW (i:=1) (x':={x with a:=key.1,b:=key.2}) lq s rfl hx' (d_ _ _ _ _ _) (by decide) rfl rfl λw s=>?_;simp only[List.set_cons_zero,List.set_cons_succ]at s;rw[List.set_set,<-e]at s;have s:=cg s (List.Perm.trans (List.Perm.cons _ (List.Perm.swap ..)) (List.Perm.swap ..));have aqq:r.sn=ys.length+1:=by rw[LG];simp
    refine adZ hI.hk uD aqq (asW hx hS) rfl rfl (λz hz=>?_) (.inr hm') hwf' s h;rw[List.getElem?_set];rcases List.mem_cons.1 hz with rfl|hz
    ·simp only;rw[if_pos trivial,AA];rfl
    ·have hne:¬q.2=z.2:=λe=>by rw[List.nodup_append]at hnd;exact hnd.2.2 z.2 (List.mem_map.2 ⟨z,hz,rfl⟩) q.2 (by simp) e.symm
     rw[if_neg hne];exact hkeys z (by simp[hz])
   have ayb:=hI.good.FH;refine Yd kp aqm s (i:=3) rfl (W8 hqw) (λhabs w s=>?_) (λj v0 hj w s=>?_)
   ·exact(habs (To q) (hI.perm.mem_iff.2 (List.mem_map.2 ⟨q,by simp,rfl⟩)) rfl).elim
   ·exact go _ w (asX hI.perm hj ayb) s
 ·have sx:=s;obtain⟨rfl,hq⟩:=NF hf;have s:=sx;rw[hf]at h uD hwf';obtain⟨pre,post,e1,e2⟩:=Z1 hI.good.FH hq;rw[e2]at h uD hwf';have hnd:=hI.good.nd;have JO:=hI.seg;have Tn:=hI.nw;have LV:=hI.od;rw[e1,List.map_append,List.map_cons]at hnd JO Tn LV ad0;have s:=cg s (List.Perm.trans (List.Perm.swap ..) (List.Perm.cons _ (List.Perm.swap ..)));refine We ad0 hnd JO Tn LV s λss' w hK hS s=>?_;rw[<-List.map_append]at s hS;have s:=cg s (List.Perm.trans (List.Perm.cons _ (List.Perm.swap ..)) (List.Perm.swap ..));have OL:List.Perm ((q.1,q.2)::(pre++post)) l:=by rw[e1];exact List.perm_middle.symm
  have aqq:r.sn=(pre++post).length+1:=by rw[LG,<-OL.length_eq];rfl
  refine adZ hI.hk uD aqq hS rfl rfl (λz hz=>?_) (.inl (hI.perm.trans (OL.map To).symm)) hwf' s h;exact SH hK hI.key z (OL.mem_iff.1 hz)
end
end Go.Proofs.YtmegplnmiepfbaaGreatDoor.S.Lr
namespace Go.Proofs.YtmegplnmiepfbaaGreatDoor.S
open Go.Sx
open Go.RowKit Go.ChangeMaps Go.MapKept
open Go.Maps (Keyed)
structure ad1 (k:TypeId) (β:Type) where
 enc:β->Value
 ok:β->Prop
 inj:∀a b,enc a=enc b->a=b
 key:∀b,ok b->∃l,keyOf P k (enc b)=some l
 keyed:Keyed P k
def auR:P.underlying 3=some (.int .i64):=by kernel_rfl
def iK (n:Int):Prop:=-9223372036854775808<=n/\n<9223372036854775808
def iK.wf {n:Int}(h:iK n):(Lit.int .i64 n).wf=true:=by unfold iK at h;simp[Lit.wf];exact⟨h.1,by omega⟩
noncomputable def fu:ad1 3 Int:=⟨λn=>ae n,iK,λa b h=>by cases h;rfl,λb h=>⟨_,Go.Maps.keyOf_int_mk auR h.wf⟩,Go.Maps.int_keyed auR⟩
noncomputable def Ku:ad1 253 (Int×Int):=⟨Lr.Z3,λp=>iK p.1/\iK p.2,λa b h=>Lr.LW h,λb h=>Lr.W8 ⟨h.1.wf,h.2.wf⟩,Lr.kp⟩
section
variable {k:TypeId}{α β:Type}{K:ad1 k β}{v:α->Value}{ms:List (β×α)}
noncomputable def fQ (K:ad1 k β)(v:α->Value)(b:Nat)(ms:List (β×α)):As:=mapA P k b (ms.map λp=>(K.enc p.1,v p.2))
def oP (ms:List (β×α)):Prop:=(ms.map (·.1)).Nodup
def akF (h:oP ms){i j:Nat}{p q:β×α}(hi:ms[i]? =some p)(hj:ms[j]? =some q)(e:p.1=q.1):i=j:=by
 have h1:(ms.map (·.1))[i]? =some p.1:=by grind
 have IK:=(List.getElem?_eq_some_iff.1 h1).1;exact(List.getElem?_inj IK h).1 (by grind)
def Z4 {F:Nat->Prop}{W w:World}{L:List As}{Q:Option Nat->World->Prop}(s:Sep F W w L)(t:TypeId)(K:ad1 k β)(v:α->Value)(h:∀b w',Sep F W w' (fQ K v b ([]:List (β×α))::L)->Q (some b) w'):cw P t none w Q:=ahf s P k t h
variable [DecidableEq β]
def fA (ms:List (β×α))(x:β):Option α:=(ms.find? λp=>decide (p.1=x)).map (·.2)
def SI {x:β}:fA ms x=none↔∀p∈ms,p.1≠x:=by unfold fA;simp_all
def LX (h:oP ms){x:β}{a:α}:fA ms x=some a↔(x,a)∈ms:=by
 unfold fA;induction ms with
 |nil=>simp
 |cons p ms ih=>
  unfold oP at h ih;grind
def ail (h:oP ms){x:β}{a:α}{j:Nat}(hj:ms[j]? =some (x,a)):fA ms x=some a:=(LX h).2 (List.mem_of_getElem? hj)
def aqr (h:oP ms){x:β}{a:α}(hn:fA ms x=none):oP (ms++[(x,a)])/\∀y,fA (ms++[(x,a)]) y=if y=x then some a else fA ms y:=by
 have hx:=SI.1 hn;have hk:oP (ms++[(x,a)]):=by rw[oP,List.map_append,List.nodup_append];refine⟨h,by simp,λy hy z hz=>?_⟩;grind
 refine⟨hk,λy=>?_⟩;unfold fA;grind
def asY (h:oP ms){x:β}{a a0:α}{j:Nat}(hj:ms[j]? =some (x,a0)):oP (ms.set j (x,a))/\∀y,fA (ms.set j (x,a)) y=if y=x then some a else fA ms y:=by
 have hk:oP (ms.set j (x,a)):=by
  rw[oP,List.map_set];have:(ms.map (·.1)).set j x=ms.map (·.1):=by apply List.ext_getElem?;grind
  rw[this];exact h
 refine⟨hk,λy=>?_⟩;apply Option.ext;intro b;rw[LX hk];by_cases e:y=x
 ·subst e;rw[if_pos rfl];constructor
  ·intro hm;obtain⟨i,hi⟩:=List.mem_iff_getElem?.1 hm;have hj':(ms.set j (y,a))[j]? =some (y,a):=by grind
   have:=akF hk hi hj' rfl;grind
  ·intro hb;cases hb;exact List.mem_of_getElem? (i:=j) (by grind)
 ·rw[if_neg e,LX h];constructor
  ·grind
  ·intro hm;obtain⟨i,hi⟩:=List.mem_iff_getElem?.1 hm;apply List.mem_of_getElem? (i:=i);grind
def asZ (h:oP ms){x:β}{a0:α}{j:Nat}(hj:ms[j]? =some (x,a0)):oP (ms.eraseIdx j)/\∀y,fA (ms.eraseIdx j) y=if y=x then none else fA ms y:=by
 have hsub:=List.eraseIdx_sublist ms j;have hk:=List.Nodup.sublist (hsub.map _) h;refine⟨hk,λy=>?_⟩;apply Option.ext;intro b;rw[LX hk];by_cases e:y=x
 ·subst e;constructor
  ·intro hm;rw[List.mem_eraseIdx_iff_getElem?]at hm;obtain⟨i,hi,hi'⟩:=hm;exact(hi (akF h hi' hj rfl)).elim
  grind
 ·rw[if_neg e,LX h];constructor
  ·grind
  ·intro hm;rw[List.mem_eraseIdx_iff_getElem?];obtain⟨i,hi⟩:=List.mem_iff_getElem?.1 hm;grind
attribute [local irreducible] af cA bw bg aA cq bY St Bx Al App cD cy cw bT aL bC aq bR av ak aV mapA
variable {F:Nat->Prop}{W w:World}{L:List As}{i b:Nat}{t e:TypeId}{x:β}
def Ez {c:Bool}{z:Value}{Q:Value->World->Prop}(ht:P.underlying t=some (.map k e))(hz:(zeroValue e).run P w=.ok z w)(s:Sep F W w L)(hi:L[i]? =some (fQ K v b ms))(hnd:oP ms)(hx:K.ok x)
  (h0:fA ms x=none->Q (if c then .tuple #[z,.bool false]else z) w)(h1:∀a,fA ms x=some a->Q (if c then .tuple #[v a,.bool true]else v a) w):aL P (Instr.lookup t (.map (some b)) (K.enc x) c) w Q:=by
 have hi':L[i]? =some (mapA P k b (ms.map λp=>(K.enc p.1,v p.2))):=hi;refine aeM K.keyed ht hz s hi' (K.key x hx) (λh=>h0 (SI.2 λp hp e=>?_)) λj u hj=>?_
 ·exact h (K.enc p.1,v p.2) (List.mem_map.2 ⟨p,hp,rfl⟩) (by rw[e])
 ·rw[List.getElem?_map]at hj;cases hm:ms[j]? with
  |none=>grind
  |some p=>
   rw[hm]at hj;simp[Option.map_some,Option.some.injEq,Prod.mk.injEq]at hj;obtain⟨e1,rfl⟩:=hj;have e1:=K.inj _ _ e1;exact h1 p.2 (ail (j:=j) hnd (by grind))
def LY {Q:World->Prop}{a:α}(ht:P.underlying t=some (.map k e))(s:Sep F W w L)(hi:L[i]? =some (fQ K v b ms))(hnd:oP ms)(hx:K.ok x)
  (h:∀ms' w',oP ms'->(∀y,fA ms' y=if y=x then some a else fA ms y)->(ms'.length=if(fA ms x).isNone then ms.length+1 else ms.length)->Sep F W w' (L.set i (fQ K v b ms'))->Q w'):bC P (Instr.mapUpdate t (.map (some b)) (K.enc x) (v a)) w Q:=by
 have hi':L[i]? =some (mapA P k b (ms.map λp=>(K.enc p.1,v p.2))):=hi;refine Yc K.keyed ht s hi' (K.key x hx) (λh0 w' s'=>?_) λj u hj w' s'=>?_
 ·have hn:=SI.2 λp hp e=>h0 (K.enc p.1,v p.2) (List.mem_map.2 ⟨p,hp,rfl⟩) (by rw[e]);obtain⟨k1,k2⟩:=aqr hnd hn;apply h (ms++[(x,a)]) w' k1 k2 (by grind);unfold fQ;grind
 ·rw[List.getElem?_map]at hj;cases hm:ms[j]? with
  |none=>grind
  |some p=>
   rw[hm]at hj;simp[Option.map_some,Option.some.injEq,Prod.mk.injEq]at hj;obtain⟨e1,rfl⟩:=hj;have e1:=K.inj _ _ e1;have hm:ms[j]? =some (x,p.2):=by grind
   obtain⟨k1,k2⟩:=asY hnd hm;apply h (ms.set j (x,a)) w' k1 k2 (by rw[ail hnd hm,List.length_set];rfl);unfold fQ;simp_all
def auS {ty:TypeId}{Q:Value->World->Prop}(ht:P.underlying t=some (.map k e))(s:Sep F W w L)(hi:L[i]? =some (fQ K v b ms))(hnd:oP ms)(hx:K.ok x)
  (h:∀ms' w',oP ms'->(∀y,fA ms' y=if y=x then none else fA ms y)->(ms'.length=if(fA ms x).isNone then ms.length else ms.length-1)->Sep F W w' (L.set i (fQ K v b ms'))->Q (.tuple #[]) w'):aL P (Builtin.delete_ #[t,k] ty [.map (some b),K.enc x].toArray) w Q:=by
 have hi':L[i]? =some (mapA P k b (ms.map λp=>(K.enc p.1,v p.2))):=hi;refine Yd K.keyed ht s hi' (K.key x hx) (λh0 w' s'=>?_) λj u hj w' s'=>?_
 ·have hn:=SI.2 λp hp e=>h0 (K.enc p.1,v p.2) (List.mem_map.2 ⟨p,hp,rfl⟩) (by rw[e]);refine h ms w' hnd (λy=>?_) (by rw[hn];rfl) ?_
  ·grind
  ·have:L.set i (fQ K v b ms)=L:=by apply List.ext_getElem?;grind
   grind
 ·rw[List.getElem?_map]at hj;cases hm:ms[j]? with
  |none=>grind
  |some p=>
   rw[hm]at hj;simp[Option.map_some,Option.some.injEq,Prod.mk.injEq]at hj;obtain⟨e1,rfl⟩:=hj;have e1:=K.inj _ _ e1;have hm:ms[j]? =some (x,p.2):=by grind
   have hjl:=(List.getElem?_eq_some_iff.1 hm).1;obtain⟨k1,k2⟩:=asZ hnd hm;apply h (ms.eraseIdx j) w' k1 k2 (by rw[ail hnd hm,List.length_eraseIdx,if_pos hjl];rfl);rw[fQ,ChangeMaps.map_eraseIdx];exact s'
end
def akG {α β:Type}:oP ([]:List (β×α)):=List.nodup_nil
end Go.Proofs.YtmegplnmiepfbaaGreatDoor.S
namespace Go.Proofs.YtmegplnmiepfbaaGreatDoor.S
open Go.Sx
def aoi {P:Program}{F:Nat->Prop}{W w:World}{L:List As}{t e ty k:TypeId}{b i:Nat}{m:List (Value×Value)}{Q:Value->World->Prop}(ht:P.underlying t=some (.map k e))(s:Sep F W w L)(hi:L[i]? =some (mapA P k b m))(h:Q (ae (m.length:Nat)) w):aL P (Builtin.len_ #[t] ty [.map (some b)].toArray) w Q:=by
 obtain⟨es,clock,hb,hm,_⟩:=fY s hi;have hb:=hb;have hl:es.size=m.length:=by grind
 have:(Builtin.len_ #[t] ty [.map (some b)].toArray).run P w=.ok (ae (m.length:Nat)) w:=by simp[Builtin.len_,run_underlying ht,MapKept.run_getObj_map hb,Result.andThen,goInt,hl]
 unfold aL;grind
attribute [local irreducible] af cA bw bg aA cq bY St Bx Al App cD cy cw bT aL bC aq bR av ak aV mapA
def aqs {F:Nat->Prop}{W w:World}{L:List As}{t e ty:TypeId}{k:TypeId}{α β:Type}{K:ad1 k β}{v:α->Value}{ms:List (β×α)}{b i:Nat}{Q:Value->World->Prop}(ht:P.underlying t=some (.map k e))(s:Sep F W w L)(hi:L[i]? =some (fQ K v b ms))(h:Q (ae (ms.length:Nat)) w):aL P (Builtin.len_ #[t] ty [.map (some b)].toArray) w Q:=by have hi':L[i]? =some (mapA P k b (ms.map λp=>(K.enc p.1,v p.2))):=hi;apply aoi ht s hi';grind
structure aU where
 id:Int
 cell:Int
 goal:Int
deriving DecidableEq
def iC (u:aU):List Value:=[ae u.id,ae u.cell,ae u.goal]
def FI (u:aU):(iC u).length=3:=rfl
def aoj (x:aU)(u:Value)(h:u∈iC x):u.oneCell'=true:=by unfold iC at h;simp[List.mem_cons,List.not_mem_nil,or_false]at h;rcases h with rfl|rfl|rfl<;>rfl
def Iz (u:aU):Value:=.agg #[ae u.id,ae u.cell,ae u.goal]
structure tE where
 most:Int
 next:Int
 us:List aU
structure Wf where
 p:Nat
 mb:Nat
 oa:Option Addr
 on:Nat
 oc:Nat
 ms:List (Int×aU)
 os:List Int
def gN (us:List aU)(i:Int):Option aU:=us.find? λu=>decide (u.id=i)
structure SJ (r:Wf) (y:tE):Prop where
 most:1<=y.most/\y.most<=65536
 FH:oP r.ms
 fA:∀i,fA r.ms i=gN y.us i
 len:r.ms.length=y.us.length
 ord:r.os.filter (λi=>(gN y.us i).isSome)=y.us.map (·.id)
 aim:r.os.length<=2*y.us.length
 Nu:(y.us.map (·.id)).Pairwise (·<·)
 jC:∀u∈y.us,0<=u.id/\u.id<y.next
 nP:(y.us.length:Int)<=y.most
 onx:∀i∈r.os,0<=i/\i<y.next
 Jb:0<=y.next/\y.next<=1000000000
def Wg (r:Wf)(y:tE):List Value:=[ae y.most,ae y.next,.map (some r.mb),.slice r.oa r.on r.oc]
noncomputable def ayc (r:Wf)(y:tE):List As:=[av r.p 171 (Wg r y),fQ fu Iz r.mb r.ms,ak r.oa r.on r.oc 3 1 (flat one r.os)]
noncomputable def v8 (r:Wf)(y:tE):As:=aV (SJ r y) (ayc r y)
section
variable {F:Nat->Prop}{W w w0:World}{L:List As}{r:Wf}{y:tE}{id:Int}
def uQ (s:Sep F W w (v8 r y::L)):SJ r y/\Sep F W w (av r.p 171 (Wg r y)::fQ fu Iz r.mb r.ms::ak r.oa r.on r.oc 3 1 (flat one r.os)::L):=gP s
def E6 (s:Sep F W w (av r.p 171 (Wg r y)::fQ fu Iz r.mb r.ms::ak r.oa r.on r.oc 3 1 (flat one r.os)::L))(h:SJ r y):Sep F W w (v8 r y::L):=dA s h
def abV {Q:Option Addr->World->Prop}{most:Int}(hm:1<=most/\most<=65536)(s:Sep F W w L)(h:∀r w',Sep F W w' (v8 r ⟨most,0,[]⟩::L)->Q (sZ r.p) w'):Gb most w Q:=by
 apply aa7;rw[bp,bp];refine Z4 s 169 fu Iz λmb w s=>?_;refine aN s λp w s=>?_;refine h ⟨p,mb,none,0,0,[],[]⟩ w (E6 ?_ ?_)
 ·exact cg (bD s 3 1) ((List.Perm.swap _ _ _).trans (List.Perm.cons _ (List.Perm.swap _ _ _)))
 ·exact⟨hm,List.Pairwise.nil,λi=>rfl,rfl,rfl,Nat.le_refl _,List.Pairwise.nil,(λu hu=>by cases hu),by grind,(λi hi=>by cases hi),by grind⟩
def Kv:P.underlying 169=some (.map 3 43):=by kernel_rfl
def Z5 (w:World):(zeroValue 43).run P w=.ok (Iz ⟨0,0,0⟩) w:=by kernel_rfl
def aBs:zc T 43=[ae 0,ae 0,ae 0]:=rfl
def abW {Q:Int->World->Prop}(s:Sep F W w (v8 r y::L))(h:Q (y.us.length:Nat) w):yO (sZ r.p) w Q:=by apply PN;obtain⟨hok,s⟩:=uQ s;refine ld (ah (lM s 0 rfl ?_));apply aqs Kv s (i:=1) rfl;rw[hok.len];exact h
def sF {Q:Int->Int->Int->Bool->World->Prop}(s0:Sep F W w (v8 r y::L))(zL:iK id)
  (hno:gN y.us id=none->∀w',Sep F W w' (v8 r y::L)->Q 0 0 0 false w')(hyes:∀u,gN y.us id=some u->∀w',Sep F W w' (v8 r y::L)->Q u.id u.cell u.goal true w'):iR (sZ r.p) id w Q:=by
 apply PT;refine aS s0 λp w s=>?_;obtain⟨hok,s⟩:=uQ (iZ s);refine ld (ah (lM s 0 rfl ?_));have fin:∀(u:aU) (b:Bool) (w:World),Sep F W w (av r.p 171 (Wg r y)::fQ fu Iz r.mb r.ms::ak r.oa r.on r.oc 3 1 (flat one r.os)::av p 43 [ae 0,ae 0,ae 0]::L)->
   (∀w',Sep F W w' (v8 r y::L)->Q u.id u.cell u.goal b w')->
   Al T 43 w λx w=>St (x.add 0) (ae u.id) w λw=>St (x.add 1) (ae u.cell) w λw=>St (x.add 2) (ae u.goal) w λw=>
   af .i64 (x.add 0) w λa=>af .i64 (x.add 1) w λc=>af .i64 (x.add 2) w λd=>
   St ((aZ p).add 0) (ae a) w λw=>St ((aZ p).add 1) (ae c) w λw=>St ((aZ p).add 2) (ae d) w λw=>
   af .i64 ((aZ p).add 0) w λa=>af .i64 ((aZ p).add 1) w λc=>af .i64 ((aZ p).add 2) w λd=>Q a c d b w:=λu b w s h=>by
  refine aS s λx w s=>?_;refine sT s 0 rfl λw s=>?_;refine sT s 0 rfl λw s=>?_;refine ax s (i:=0) rfl rfl rfl λw s=>?_;refine lI s 0 rfl (lI s 0 rfl (lI s 0 rfl ?_));refine sT s 4 rfl λw s=>?_;refine sT s 4 rfl λw s=>?_;refine ax s (i:=4) rfl rfl rfl λw s=>?_;refine lI s 4 rfl (lI s 4 rfl (lI s 4 rfl ?_));exact h w (E6 (gF s (.cons _ (.cons_cons _ (.cons_cons _ (.cons_cons _ (.cons _ (List.Sublist.refl _))))))) hok)
 refine Ez (K:=fu) Kv (Z5 w) s (i:=1) rfl hok.FH zL (λh=>?_) λu h=>?_
 ·exact fin ⟨0,0,0⟩ false w s (hno (by rw[<-hok.fA];exact h))
 ·exact fin u true w s (hyes u (by rw[<-hok.fA];exact h))
end
end Go.Proofs.YtmegplnmiepfbaaGreatDoor.S
namespace Go.Proofs.YtmegplnmiepfbaaGreatDoor.S
open Go.Sx
attribute [local irreducible] af cA bw bg aA cq bY St Bx Al App cD cy cw bT aL bC aq bR av ak aV mapA
section
variable {F:Nat->Prop}{W w w0:World}{L:List As}
def Yt {Q:Option Addr->Nat->Nat->World->Prop}{p mb on oc:Nat}{oa:Option Addr}{most next:Int}{ms:List (Int×aU)}{os:List Int}(hk:oP ms)(ho:∀i∈os,iK i)(hl:os.length<=200000)
  (s:Sep F W w (av p 171 [ae most,ae next,.map (some mb),.slice oa on oc]::fQ fu Iz mb ms::ak oa on oc 3 1 (flat one os)::L))
  (h:∀a n c w',Sep F W w' (ak a n c 3 1 (flat one (os.filter λi=>(fA ms i).isSome))::av p 171 [ae most,ae next,.map (some mb),.slice oa on oc]::fQ fu Iz mb ms::ak oa on oc 3 1 (flat one os)::L)->Q a n c w'):
  qt (sZ p) w Q:=by
 apply Mz;refine ah (lS s 0 rfl ?_);have hlen:=(aO s (i:=2) rfl cB (by decide)).len;have loop:∀(j i:Nat) (a:Option Addr) (n c:Nat) (w:World),i+j=on->n<=i->Sep F W w (ak a n c 3 1 (flat one ((os.take i).filter λi=>(fA ms i).isSome))::av p 171 [ae most,ae next,.map (some mb),.slice oa on oc]::fQ fu Iz mb ms::ak oa on oc 3 1 (flat one os)::L)->
   lW Q (j+1) (sZ p) a n c oa on oc (on:Int) i w:=by
  intro j;induction j with
  |zero=>
   intro i a n c w hij hni s;show ou _ _ _ _ _ _ _ _ _ _ _ _;unfold ou;grind
  |succ j ih=>
   intro i a n c w hij hni s;show ou _ _ _ _ _ _ _ _ _ _ _ _;rw[ou,bN];apply(aO s (i:=3) rfl cB (by decide)).rG rfl (by omega);have hg:os[i]? =some (gi os i):=by unfold gi;grind
   have hx:=ho _ (List.mem_of_getElem? hg);have yc:os.take (i+1)=os.take i++[gi os i]:=by rw[List.take_add_one,hg];rfl
   generalize gi os i=x at hg hx yc;have wr:IntKind.wrap .i64 ((i:Int)+1)=((i+1:Nat):Int):=by rw[HA (iK.wf (by unfold iK;omega))];omega
   refine ah (lM s 1 rfl ?_);have step:∀(u:aU) (b:Bool),(fA ms x).isSome=b->Al T 43 w λp6 w=>St (p6.add 0) (ae u.id) w λw=>St (p6.add 1) (ae u.cell) w λw=>St (p6.add 2) (ae u.goal) w λw=>
     cond b (Bx [ae x] 3 w λp29 w=>App P #[29,29] 29 (.slice a n c) (.slice (some p29) 1 1) w λa n c w=>lW Q (j+1) (sZ p) a n c oa on oc (on:Int) (IntKind.wrap .i64 ((i:Int)+1)) w)
      (lW Q (j+1) (sZ p) a n c oa on oc (on:Int) (IntKind.wrap .i64 ((i:Int)+1)) w):=λu b hb=>by
    refine aS s λp6 w s=>?_;refine sT s 0 rfl λw s=>?_;refine sT s 0 rfl λw s=>?_;refine sT s 0 rfl λw s=>?_;have s:=ai s;rw[wr];cases b with
    |true=>
     refine Lx s (by omega) λa' c' w s=>?_;apply ih (i+1) a' (n+1) c' w (by omega) (by omega);rw[yc,List.filter_append];simp[List.filter_cons,hb,List.filter_nil,if_true];exact s
    |false=>
     apply ih (i+1) a n c w (by omega) (by omega);rw[yc,List.filter_append];simp[List.filter_cons,hb,List.filter_nil,Bool.false_eq_true,if_false,List.append_nil];exact s
   refine Ez (K:=fu) Kv (Z5 w) s (i:=2) rfl hk hx (λh=>?_) λu h=>?_
   ·exact step ⟨0,0,0⟩ false (by rw[h];rfl)
   ·exact step u true (by rw[h];rfl)
 exact⟨on+1,loop on 0 none 0 0 w (by omega) (by omega) (bD s 3 1)⟩
end
end Go.Proofs.YtmegplnmiepfbaaGreatDoor.S
namespace Go.Proofs.YtmegplnmiepfbaaGreatDoor.S.Hp
abbrev E:=Int×Int
def zx (a b:E):Bool:=decide (a.1<b.1)||(a.1==b.1&&decide (a.2<b.2))
def akI {a b:E}:zx a b=true↔a.1<b.1\/a.1=b.1/\a.2<b.2:=by simp[zx]
def W9 {a b:E}:zx a b=false↔¬(a.1<b.1\/a.1=b.1/\a.2<b.2):=by rw[<-akI,Bool.not_eq_true]
def NG {a b:E}(h:zx a b=true):zx b a=false:=by rw[akI]at h;rw[W9];omega
def GL {a b c:E}(h:zx b a=false)(k:zx c b=false):zx c a=false:=by rw[W9]at*;omega
def Z6 {a:E}:zx a a=false:=by rw[W9];omega
def g (es:List E)(i:Nat):E:=es.getD i (0,0)
def EA {es:List E}{i:Nat}(h:i<es.length):es[i]? =some (g es i):=by rw[g,List.getD_eq_getElem?_getD,List.getElem?_eq_getElem h];rfl
def arP {es:List E}{i j:Nat}{x:E}(h:i<es.length):g (es.set i x) j=if i=j then x else g es j:=by unfold g;grind
def swap (es:List E)(i p:Nat):List E:=(es.set i (g es p)).set p (g es i)
def rD (es:List E)(i p:Nat):(swap es i p).length=es.length:=by simp[swap]
def Jc {es:List E}{i p j:Nat}(hi:i<es.length)(hp:p<es.length):g (swap es i p) j=if p=j then g es i else if i=j then g es p else g es j:=by rw[swap,arP (by grind),arP hi]
def swap_perm {es:List E}{i p:Nat}(hi:i<es.length)(hp:p<es.length):(swap es i p).Perm es:=by
 rw[List.perm_iff_count];intro a;unfold swap;have e1:es[i]=g es i:=by have:=EA hi;grind
 have e2:es[p]=g es p:=by have:=EA hp;grind
 grind
def zy (es:List E):Prop:=∀j,0<j->j<es.length->zx (g es j) (g es ((j-1)/2))=false
structure W_ (es:List E) (i:Nat):Prop where
 rest:∀j,0<j->j<es.length->j≠i->zx (g es j) (g es ((j-1)/2))=false
 over:∀j,0<j->j<es.length->(j-1)/2=i->0<i->zx (g es j) (g es ((i-1)/2))=false
def ad2 {es:List E}{i:Nat}(h:W_ es i)(hs:i=0\/zx (g es i) (g es ((i-1)/2))=false):zy es:=by
 intro j h1 h2;by_cases hj:j=i
 ·grind
 ·exact h.rest j h1 h2 hj
def as0 {es:List E}{i:Nat}(h:W_ es i)(hi:0<i)(hl:i<es.length)(hs:zx (g es i) (g es ((i-1)/2))=true):W_ (swap es i ((i-1)/2)) ((i-1)/2):=by
 have hp:(i-1)/2<es.length:=by omega
 have hne:(i-1)/2≠i:=by omega
 constructor
 ·intro j h1 h2 hj;rw[rD]at h2;rw[Jc hl hp,Jc hl hp,if_neg (Ne.symm hj)];by_cases hji:i=j
  ·subst hji;rw[if_pos rfl,if_pos rfl];exact NG hs
  ·rw[if_neg hji];by_cases hpj:(i-1)/2=(j-1)/2
   ·rw[if_pos hpj];have:=h.rest j h1 h2 (Ne.symm hji);rw[<-hpj]at this;exact GL (NG hs) this
   ·rw[if_neg hpj];by_cases hij:i=(j-1)/2
    ·rw[if_pos hij];exact h.over j h1 h2 hij.symm hi
    ·rw[if_neg hij];exact h.rest j h1 h2 (Ne.symm hji)
 ·intro j h1 h2 hj h0;rw[rD]at h2;have hj':(i-1)/2≠j:=by omega
  rw[Jc hl hp,Jc hl hp,if_neg hj',if_neg (show(i-1)/2≠((i-1)/2-1)/2 by omega),if_neg (show i≠((i-1)/2-1)/2 by omega)];have auU:=h.rest ((i-1)/2) h0 hp hne;by_cases hji:i=j
  ·rw[if_pos hji];exact auU
  ·rw[if_neg hji];have:=h.rest j h1 h2 (Ne.symm hji);rw[hj]at this;exact GL auU this
structure KI (es:List E) (i:Nat):Prop where
 rest:∀j,0<j->j<es.length->(j-1)/2≠i->zx (g es j) (g es ((j-1)/2))=false
 over:∀j,0<j->j<es.length->(j-1)/2=i->0<i->zx (g es j) (g es ((i-1)/2))=false
structure arQ (es:List E) (i l k:Nat):Prop where
 lt:l<es.length
 who:l=i\/l=2*i+1\/l=2*i+2
 self:zx (g es i) (g es l)=false
 kids:∀j,2*i+1<=j->j<k->j<es.length->zx (g es j) (g es l)=false
def aok {es:List E}{i:Nat}(h:KI es i)(hs:∀j,2*i+1<=j->j<=2*i+2->j<es.length->zx (g es j) (g es i)=false):zy es:=by
 intro j h1 h2;by_cases hj:(j-1)/2=i
 ·grind
 ·exact h.rest j h1 h2 hj
def aol {es:List E}{i l:Nat}(h:KI es i)(hi:i<es.length)(hl:l<es.length)(hw:l=2*i+1\/l=2*i+2)(hs:zx (g es i) (g es l)=false)
  (hk:∀j,2*i+1<=j->j<=2*i+2->j<es.length->zx (g es j) (g es l)=false):KI (swap es i l) l:=by
 have hne:l≠i:=by omega
 constructor
 ·intro j h1 h2 hj;rw[rD]at h2;rw[Jc hi hl,Jc hi hl,if_neg (show l≠(j-1)/2 from λe=>hj e.symm)];by_cases hpi:i=(j-1)/2
  ·grind
  ·rw[if_neg hpi,if_neg (show l≠j by omega)];by_cases hij:i=j
   ·subst hij;rw[if_pos rfl];exact h.over l (by omega) hl (by omega) h1
   ·rw[if_neg hij];exact h.rest j h1 h2 (Ne.symm hpi)
 ·intro j h1 h2 hj h0;rw[rD]at h2;have e:(l-1)/2=i:=by omega
  rw[e,Jc hi hl,Jc hi hl,if_neg (show l≠j by omega),if_neg (show i≠j by omega),if_neg hne,if_pos rfl];have:=h.rest j h1 h2 (by omega);grind
def alM {es:List E}(h:zy es):∀j,j<es.length->zx (g es j) (g es 0)=false:=by
 intro j;induction j using Nat.strongRecOn with
 |_ j ih=>
  intro hj;by_cases h0:j=0
  ·subst h0;exact Z6
  ·exact GL (ih ((j-1)/2) (by omega) (by omega)) (h j (by omega) hj)
def ad3 {es:List E}(h:zy es){x:E}(hx:x∈es):zx x (g es 0)=false:=by
 obtain⟨j,hj,rfl⟩:=List.getElem_of_mem hx;have:=alM h j hj;have e:es[j]=g es j:=by have:=EA hj;grind
 rwa[e]
def Tp {es:List E}{x:E}{j:Nat}(h:j<es.length):g (es++[x]) j=g es j:=by unfold g;grind
def aqt {es:List E}{x:E}(h:zy es):W_ (es++[x]) es.length:=by
 constructor
 ·intro j h1 h2 hj;simp[List.length_append,List.length_cons,List.length_nil]at h2;rw[Tp (by omega),Tp (by omega)];exact h j h1 (by omega)
 grind
def as1 {es:List E}(h:zy es)(h0:0<es.length):KI ((es.set 0 (g es (es.length-1))).take (es.length-1)) 0:=by
 have hg:∀j,0<j->j<es.length-1->g ((es.set 0 (g es (es.length-1))).take (es.length-1)) j=g es j:=by intro j h1 h2;unfold g;grind
 constructor
 ·intro j h1 h2 hj;have h2:j<es.length-1:=by grind
  rw[hg j h1 h2,hg _ (by omega) (by omega)];exact h j h1 (by omega)
 omega
def aqu {es:List E}(h0:0<es.length):(g es 0::(es.set 0 (g es (es.length-1))).take (es.length-1)).Perm es:=by
 match es,h0 with
 |[x],_=>simp[g]
 |x::y::es,_=>
  have e:g (x::y::es) ((x::y::es).length-1)=(y::es).getLast (by simp):=by unfold g;grind
  rw[e];have e2:((x::y::es).set 0 ((y::es).getLast (by simp))).take ((x::y::es).length-1)=(y::es).getLast (by simp)::(y::es).dropLast:=by simp[List.dropLast_eq_take]
  have e3:g (x::y::es) 0=x:=rfl;apply List.Perm.cons x;have:=List.dropLast_concat_getLast (l:=y::es) (by simp);grind
end Go.Proofs.YtmegplnmiepfbaaGreatDoor.S.Hp
namespace Go.Proofs.YtmegplnmiepfbaaGreatDoor.S.Hp
open Go.Sx
attribute [local irreducible] af cA bw bg aA cq bY St Bx Al App cD cy cw bT aL bC aq bR av ak
def ef:wP P T:=EF P rows HC
def cF {n lo hi:Int}{w:World}{Q:Int->World->Prop}(h1:lo<=hi)(h2:-1099511627776<=lo)(h3:hi<=1099511627776)(h:Q (lo+n%(hi-lo+1)) w):aY n lo hi w Q:=by
 apply uj;rw[aG (n:=hi-lo),aG];generalize hs:hi-lo+1=s at h;have h4:=Int.lt_tmod_of_pos n (b:=s) (by omega);have h5:=Int.tmod_lt_of_pos n (b:=s) (by omega);have h6:=Int.tmod_add_mul_tdiv n s;refine⟨by omega,?_⟩;generalize ht:Int.tmod n s=t at*;have e:n%s=t%s:=by rw[<-h6,Int.add_mul_emod_self_left]
 by_cases hn:t<0
 ·rw[bN hn,aG (n:=t+hi),aG (n:=t+hi-lo),aG (n:=t+hi-lo+1),aG];have e2:t%s=t+s:=by rw[<-Int.add_emod_right,Int.emod_eq_of_lt (by omega) (by omega)]
  grind
 ·rw[bp hn,aG];rw[e,Int.emod_eq_of_lt (by omega) h5]at h;exact h
def pr (x:E):List Value:=[ae x.1,ae x.2]
def iE (x:E):(pr x).length=2:=rfl
def FJ {F:Nat->Prop}{W w:World}{L:List As}{a b c d:Int}{Q:Bool->World->Prop}(s:Sep F W w L)(h:∀w',Sep F W w' L->Q (zx (a,b) (c,d)) w'):sj a b c d w Q:=by
 apply Qd;refine aN s λb1 w1 s=>?_;refine aN s λb2 w2 s=>?_;apply lI s 1 rfl;apply lI s 0 rfl;have hh:=h w2 (ai (ai s));unfold zx at hh;by_cases h1:a<c
 ·grind
 ·rw[bp h1];rw[decide_eq_false h1,Bool.false_or]at hh;apply lI s 1 rfl;apply lI s 0 rfl;cases h2:(a==c)with
  |false=>
   grind
  |true=>
   rw[h2,Bool.true_and]at hh;apply lI s 1 rfl;apply lI s 0 rfl;exact hh
section
variable {F:Nat->Prop}{W w:World}{L:List As}{i j p b o n c:Nat}{Q:World->Prop}
def as2 (hij:i≠j):∀(m q:Nat) (es:List E) (w:World),q<=m->q<es.length->es.length=n->n<=4000000000000->W_ es q->∀L:List As,L[i]? =some (av p 351 [.slice (some ⟨b,o,none⟩) n c])->L[j]? =some (ak (some ⟨b,o,none⟩) n c 353 2 (flat pr es))->Sep F W w L->
  (∀w' es',zy es'->es'.Perm es->Sep F W w' (L.set j (ak (some ⟨b,o,none⟩) n c 353 2 (flat pr es')))->Q w')->qW Q (m+1) (sZ p) q w:=by
 intro m;induction m with
 |zero=>
  intro q es w hq hl hn LZ inv L hi hj s h;obtain rfl:q=0:=by omega
  show vk Q (qW Q 0) _ _ _;unfold vk;apply h w es (ad2 inv (.inl rfl)) (.refl _);rw[rF hj];exact s
 |succ m ih=>
  intro q es w hq hl hn LZ inv L hi hj s h;show vk Q (qW Q (m+1)) _ _ _;unfold vk;by_cases h0:q=0
  ·subst h0;apply h w es (ad2 inv (.inl rfl)) (.refl _);rw[rF hj];exact s
  ·rw[bN];have e1:IntKind.wrap .i64 (Int.tdiv (IntKind.wrap .i64 ((q:Int)-1)) 2)=(((q-1)/2:Nat):Int):=by rw[aG (n:=(q:Int)-1),Int.tdiv_eq_ediv_of_nonneg (by omega),aG];omega
   rw[e1];have s':Sep F W w.drew L:=s;have gq:=EA hl;have hp:(q-1)/2<es.length:=by omega
   have gp:=EA hp;refine⟨by decide,ah ?_⟩;apply gX s' rfl hi rfl;refine⟨by omega,by omega,ah ?_⟩;rw[show((q:Int)).toNat=q from rfl,show((((q-1)/2:Nat):Int)).toNat=(q-1)/2 from rfl];apply eJ iE s' hj gq (d_ ..) rfl;refine eJ iE s' hj gq (d_ ..) rfl (ah ?_);apply gX s' rfl hi rfl;refine⟨by omega,by omega,ah ?_⟩;apply eJ iE s' hj gp (d_ ..) rfl;apply eJ iE s' hj gp (d_ ..) rfl;refine FJ s' λw1 s1=>?_;cases hs:zx (g es q) (g es ((q-1)/2))with
   |false=>
    apply h w1 es (ad2 inv (.inr hs)) (.refl _);rw[rF hj];exact s1
   |true=>
    rw[Bool.not_true,cond_false];have s2:Sep F W w1.drew L:=s1;apply ah;refine gX s2 rfl hi rfl (ah ?_);refine gX s2 rfl hi rfl (ah ?_);apply gX s2 rfl hi rfl;refine⟨by omega,by omega,ah ?_⟩;apply eJ iE s2 hj gp (d_ ..) rfl;refine eJ iE s2 hj gp (d_ ..) rfl (ah ?_);apply gX s2 rfl hi rfl;refine⟨by omega,by omega,ah ?_⟩;apply eJ iE s2 hj gq (d_ ..) rfl;apply eJ iE s2 hj gq (d_ ..) rfl;refine⟨by omega,by omega,ah ?_⟩;have hjL:=(List.getElem?_eq_some_iff.1 hj).1;refine dW iE (x':=((g es ((q-1)/2)).1,(g es q).2)) s2 hj gq (d_ ..) (by decide) rfl rfl λw3 s3=>?_;refine dW iE (x:=((g es ((q-1)/2)).1,(g es q).2)) (x':=g es ((q-1)/2)) s3 (by rw[List.getElem?_set_self hjL]) (by rw[List.getElem?_set_self hl]) (d_ ..) (by decide) rfl rfl λw4 s4=>?_;rw[g_,g_]at s4;refine⟨by omega,by omega,ah ?_⟩;have hne:q≠(q-1)/2:=by omega
    have gp':(es.set q (g es ((q-1)/2)))[(q-1)/2]? =some (g es ((q-1)/2)):=by rw[List.getElem?_set_ne hne];exact gp
    refine dW iE (x':=((g es q).1,(g es ((q-1)/2)).2)) s4 (by rw[List.getElem?_set_self hjL]) gp' (d_ ..) (by decide) rfl rfl λw5 s5=>?_;refine dW iE (x:=((g es q).1,(g es ((q-1)/2)).2)) (x':=g es q) s5 (by rw[List.getElem?_set_self (by simpa using hjL)]) (by rw[List.getElem?_set_self (by simpa using hp)]) (d_ ..) (by decide) rfl rfl λw6 s6=>?_;rw[g_,g_,g_]at s6;have s6:Sep F W w6 (L.set j (ak (some ⟨b,o,none⟩) n c 353 2 (flat pr (swap es q ((q-1)/2))))):=s6;refine ih ((q-1)/2) (swap es q ((q-1)/2)) w6 (by omega) (by rw[rD];exact hp) (by rw[rD];exact hn) LZ (as0 inv (by omega) hl hs) _ (by rw[List.getElem?_set_ne (Ne.symm hij)];exact hi) (by rw[List.getElem?_set_self hjL]) s6 λw' es' k1 k2 k3=>?_;rw[g_]at k3;exact h w' es' k1 (k2.trans (swap_perm hl hp)) k3
end
section
variable {F:Nat->Prop}{W w:World}{L:List As}{i j p b o n c:Nat}{Q:World->Prop}
def alO {P1:Option Addr->Int->World->Prop}{es:List E}{q:Nat}(hq:q<es.length)(hn:es.length=n)(LZ:n<=4000000000000)
  (hi:L[i]? =some (av p 351 [.slice (some ⟨b,o,none⟩) n c]))(hj:L[j]? =some (ak (some ⟨b,o,none⟩) n c 353 2 (flat pr es)))
  (h:∀w' l,Sep F W w' L->arQ es q l (2*q+3)->oz P1 Q (sZ p) q l w'):
  ∀(m k l:Nat) (w:World),k+m=2*q+3->2*q+1<=k->Sep F W w L->arQ es q l k->mu P1 Q (m+1) (sZ p) q l k w:=by
 intro m;induction m with
 |zero=>
  intro k l w hk IM s hl;show mq P1 Q (mu P1 Q 0) _ _ _ _ _;rw[mq,aG (n:=2*(q:Int)),aG,bp];grind
 |succ m ih=>
  intro k l w hk IM s hl;show mq P1 Q (mu P1 Q (m+1)) _ _ _ _ _;rw[mq,aG (n:=2*(q:Int)),aG,bN];apply ah;apply gX s rfl hi rfl;by_cases hkn:k<n
  ·rw[bN];have s':Sep F W w.drew L:=s;have gk:=EA (es:=es) (i:=k) (by omega);have gl:=EA hl.lt;have p9:=hl.lt;apply ah;apply gX s' rfl hi rfl;refine⟨by omega,by omega,ah ?_⟩;apply eJ iE s' hj gk (d_ ..) rfl;refine eJ iE s' hj gk (d_ ..) rfl (ah ?_);apply gX s' rfl hi rfl;refine⟨by omega,by omega,ah ?_⟩;apply eJ iE s' hj gl (d_ ..) rfl;apply eJ iE s' hj gl (d_ ..) rfl;refine FJ s' λw1 s1=>?_;rw[aG];cases hs:zx (g es k) (g es l)with
   |true=>
    refine ih (k+1) k w1 (by omega) (by omega) s1 ⟨by omega,by omega,GL (NG hs) hl.self,λx h1 h2 h3=>?_⟩;by_cases hx:x=k
    ·subst hx;exact Z6
    ·exact GL (NG hs) (hl.kids x h1 (by omega) h3)
   |false=>
    refine ih (k+1) l w1 (by omega) (by omega) s1 ⟨hl.lt,hl.who,hl.self,λx h1 h2 h3=>?_⟩;by_cases hx:x=k
    ·grind
    ·exact hl.kids x h1 (by omega) h3
  ·rw[bp];exact h w l s ⟨hl.lt,hl.who,hl.self,λx h1 h2 h3=>hl.kids x h1 (by omega) h3⟩
def aom (hij:i≠j):∀(m q:Nat) (es:List E) (w:World),es.length<=q+m->q<es.length->es.length=n->n<=4000000000000->KI es q->∀L:List As,L[i]? =some (av p 351 [.slice (some ⟨b,o,none⟩) n c])->L[j]? =some (ak (some ⟨b,o,none⟩) n c 353 2 (flat pr es))->Sep F W w L->
  (∀w' es',zy es'->es'.Perm es->Sep F W w' (L.set j (ak (some ⟨b,o,none⟩) n c 353 2 (flat pr es')))->Q w')->oA Q (m+1) (sZ p) q w:=by
 intro m;induction m with
 |zero=>
  omega
 |succ m ih=>
  intro q es w hq hl hn LZ inv L hi hj s h;show xk Q (oA Q (m+1)) _ _ _;rw[xk,aG (n:=2*(q:Int)),aG];refine⟨3,?_⟩;have e0:(2*(q:Int)+1)=((2*q+1:Nat):Int):=by omega
  refine alO hl hn LZ hi hj (λw1 l s1 hle=>?_) 2 (2*q+1) q w (by omega) (by omega) s ⟨hl,.inl rfl,Z6,λx h1 h2 h3=>by omega⟩;unfold oz;by_cases hlq:l=q
  ·subst hlq;rw[beq_self_eq_true,cond_true];apply h w1 es (aok inv λx h1 h2 h3=>hle.kids x h1 (by omega) h3) (.refl _);rw[rF hj];exact s1
  ·rw[show(((l:Int))==(q:Int))=false by rw[beq_eq_false_iff_ne];omega,cond_false];have s2:Sep F W w1.drew L:=s1;have Ny:=hle.lt;have gq:=EA hl;have gl:=EA Ny;have hw:l=2*q+1\/l=2*q+2:=by
    rcases hle.who with h|h
    ·exact absurd h hlq
    ·exact h
   apply ah;refine gX s2 rfl hi rfl (ah ?_);refine gX s2 rfl hi rfl (ah ?_);apply gX s2 rfl hi rfl;refine⟨by omega,by omega,ah ?_⟩;rw[show((q:Int)).toNat=q from rfl,show((l:Int)).toNat=l from rfl];apply eJ iE s2 hj gl (d_ ..) rfl;refine eJ iE s2 hj gl (d_ ..) rfl (ah ?_);apply gX s2 rfl hi rfl;refine⟨by omega,by omega,ah ?_⟩;apply eJ iE s2 hj gq (d_ ..) rfl;apply eJ iE s2 hj gq (d_ ..) rfl;refine⟨by omega,by omega,ah ?_⟩;have hjL:=(List.getElem?_eq_some_iff.1 hj).1;refine dW iE (x':=((g es l).1,(g es q).2)) s2 hj gq (d_ ..) (by decide) rfl rfl λw3 s3=>?_;refine dW iE (x:=((g es l).1,(g es q).2)) (x':=g es l) s3 (by rw[List.getElem?_set_self hjL]) (by rw[List.getElem?_set_self hl]) (d_ ..) (by decide) rfl rfl λw4 s4=>?_;rw[g_,g_]at s4;refine⟨by omega,by omega,ah ?_⟩;have hne:q≠l:=by omega
   have gl':(es.set q (g es l))[l]? =some (g es l):=by rw[List.getElem?_set_ne hne];exact gl
   refine dW iE (x':=((g es q).1,(g es l).2)) s4 (by rw[List.getElem?_set_self hjL]) gl' (d_ ..) (by decide) rfl rfl λw5 s5=>?_;refine dW iE (x:=((g es q).1,(g es l).2)) (x':=g es q) s5 (by rw[List.getElem?_set_self (by simpa using hjL)]) (by rw[List.getElem?_set_self (by simpa using Ny)]) (d_ ..) (by decide) rfl rfl λw6 s6=>?_;rw[g_,g_,g_]at s6;have s6:Sep F W w6 (L.set j (ak (some ⟨b,o,none⟩) n c 353 2 (flat pr (swap es q l)))):=s6;refine ih l (swap es q l) w6 (by rw[rD];omega) (by rw[rD];exact Ny) (by rw[rD];exact hn) LZ (aol inv hl Ny hw hle.self λx h1 h2 h3=>hle.kids x h1 (by omega) h3) _ (by rw[List.getElem?_set_ne (Ne.symm hij)];exact hi) (by rw[List.getElem?_set_self hjL]) s6 λw' es' k1 k2 k3=>?_;rw[g_]at k3;exact h w' es' k1 (k2.trans (swap_perm hl Ny)) k3
end
end Go.Proofs.YtmegplnmiepfbaaGreatDoor.S.Hp
namespace Go.Proofs.YtmegplnmiepfbaaGreatDoor.S.Hp
open Go.Sx
def qx (p:Nat)(a:Option Addr)(c:Nat)(es:List E):As where
 fp:=λk=>k=p\/∃x,a=some x/\x.block=k
 ok:=λh=>(av p 351 [.slice a es.length c]).ok h/\(ak a es.length c 353 2 (flat pr es)).ok h/\(∀x,a=some x->x.block≠p)/\zy es
 lt:=λh hb k hk=>by
  rcases hk with rfl|hk
  ·exact As.lt _ h hb.1 _ rfl
  ·exact As.lt _ h hb.2.1 _ hk
 fr:=λh h' hb he=>⟨As.fr _ h h' hb.1 λb hb=>he b (.inl hb),As.fr _ h h' hb.2.1 λb hb=>he b (.inr hb),hb.2.2⟩
section
variable {F:Nat->Prop}{W w w':World}{L:List As}{i p c:Nat}{a:Option Addr}{es:List E}
def FK (s:Sep F W w L)(hi:L[i]? =some (qx p a c es)):Sep (qx p a c es).fp w w [av p 351 [.slice a es.length c],ak a es.length c 353 2 (flat pr es)]:=by obtain⟨h1,h2,h3,_⟩:=fY s hi;refine apQ h1 h2 (λb hb=>.inl hb) (λb hb=>.inr hb) λb hb hb'=>?_;obtain⟨x,hx,rfl⟩:=hb';exact h3 x hx hb
def Wh (s:Sep F W w L)(hi:L[i]? =some (qx p a c es)):zy es:=(fY s hi).2.2.2
def abY {a':Option Addr}{c':Nat}{es':List E}(s:Sep F W w L)(hi:L[i]? =some (qx p a c es))(s':Sep (qx p a c es).fp w w' [av p 351 [.slice a' es'.length c'],ak a' es'.length c' 353 2 (flat pr es')])(hh:zy es'):
  Sep F W w' (L.set i (qx p a' c' es')):=by
 refine aaH s hi s' ⟨fY s' (i:=0) rfl,fY s' (i:=1) rfl,λx hx e=>?_,hh⟩ λb hb=>?_
 ·exact am9 s' (i:=0) (j:=1) rfl rfl (by decide) p rfl ⟨x,hx,e⟩
 ·rcases hb with hb|hb
  ·exact⟨_,List.mem_cons_self,hb⟩
  ·exact⟨_,List.mem_cons_of_mem _ List.mem_cons_self,hb⟩
def Wi (s:Sep F W w L)(hi:L[i]? =some (qx p a c es))(h0:0<es.length):∃b o,a=some ⟨b,o,none⟩:=pV (FK s hi) (i:=1) rfl h0
def aqw (s:Sep F W w L)(hi:L[i]? =some (qx p a c es)):es.length<=c:=(Rn (FK s hi) (i:=1) rfl).1
def as3 {b:Nat}{t:TypeId}{cs:List Value}{m size:Nat}(s:Sep F W w L)(hi:L[i]? =some (av b t cs))(hl:cs.length=m*size)(h1:∀u∈cs,u.oneCell'=true):Src w (sZ b) m size cs:=
 ⟨hl,h1,λj u hj=>by rw[cm,Nat.zero_add];exact cK s rfl hi hj⟩
def alQ {p:Nat}{w:World}(h:(av p 351 [.slice none 0 0]).ok w.heap):(qx p none 0 []).ok w.heap:=
 ⟨h,⟨⟨by simp[flat],Nat.le_refl _,by decide,by simp[flat]⟩,.inl ⟨rfl,rfl⟩⟩,λx hx=>(by cases hx),λj h1 h2=>(by simp at h2)⟩
end
def FG {p:Addr}{A B:Prop}(h:B):cond (some p).isNone A B:=h
attribute [local irreducible] af cA bw bg aA cq bY St Bx Al App cD cy cw bT aL bC aq bR av ak
section
variable {F:Nat->Prop}{W w:World}{L:List As}{i p c:Nat}{a:Option Addr}{es:List E}
def QW {Q:Option Addr->World->Prop}(s:Sep F W w L)(h:∀p w',Sep F W w' (qx p none 0 []::L)->Q (sZ p) w'):CK w Q:=by
 apply ads;refine aN s λp w1 s=>h p w1 ?_;exact xG (i:=0) (A':=qx p none 0 []) s rfl Fr.refl (alQ (fY s (i:=0) rfl)) λb hb=>.inl (by
  rcases hb with hb|⟨x,hx,_⟩
  ·subst hb;unfold av;rfl
  ·cases hx)
def ago {b o n j:Nat}{Q:World->Prop}(hij:i≠j)(hl:0<es.length)(hn:es.length=n)(LZ:n<=4000000000000)(inv:W_ es (n-1))(hi:L[i]? =some (av p 351 [.slice (some ⟨b,o,none⟩) n c]))(hj:L[j]? =some (ak (some ⟨b,o,none⟩) n c 353 2 (flat pr es)))(s:Sep F W w L)
  (h:∀w' es',zy es'->es'.Perm es->Sep F W w' (L.set j (ak (some ⟨b,o,none⟩) n c 353 2 (flat pr es')))->Q w'):BZ (sZ p) w Q:=by
 apply Vy;apply ah;apply gX s rfl hi rfl;rw[aG,show((n:Int)-1)=((n-1:Nat):Int) by omega];exact⟨n,as2 hij (n-1) (n-1) es w (Nat.le_refl _) (by omega) hn LZ inv L hi hj s h|>λk=>by grind⟩
def Bs {k x:Int}{Q:World->Prop}(s:Sep F W w L)(hi:L[i]? =some (qx p a c es))(hn:es.length<4000000000000)
  (h:∀w' a' c' es',es'.Perm (es++[(k,x)])->Sep F W w' (L.set i (qx p a' c' es'))->Q w'):mL (sZ p) k x w Q:=by
 apply RY;apply FG;have s0:=FK s hi;have hh:=Wh s hi;apply ah;apply lS s0 0 rfl;refine aN s0 λbx w1 s1=>?_;have src:=as3 (size:=2) s1 (i:=0) rfl rfl (λu hu=>by simp at hu;rcases hu with rfl|rfl<;>rfl);refine iw ef s1 (i:=2) (bytes:=16) rfl rfl rfl rfl rfl rfl (by decide) rfl src (by simp[maxLen];omega) (by omega) (λe=>by cases e) λa' c' w2 s2=>?_;have s2:=ai s2;have e1:flat pr es++[ae k,ae x]=flat pr (es++[(k,x)]):=by rw[fZ];rfl
 rw[e1]at s2;apply ah;refine ax s2 (i:=0) rfl rfl rfl λw3 s3=>?_;obtain⟨b,o,rfl⟩:=pV s3 (i:=1) rfl (by omega);have hl:(es++[(k,x)]).length=es.length+1:=by simp
 refine ago (i:=0) (j:=1) (by decide) (by omega) hl (by omega) (by rw[show es.length+1-1=es.length by omega];exact aqt hh) rfl rfl s3 λw4 es' q1 q2 s4=>?_;have hl':es'.length=es.length+1:=by rw[q2.length_eq,hl]
 refine h w4 (some ⟨b,o,none⟩) c' es' q2 (abY s hi ?_ q1);grind
def ad4 {Q:Int->World->Prop}(s:Sep F W w L)(hi:L[i]? =some (qx p a c es))(h:Q (es.length:Int) w):AY (sZ p) w Q:=by apply Ui;refine FG (ah ?_);exact gX (FK s hi) (i:=0) rfl rfl rfl h
def ad5 {Q:Int->Int->Bool->World->Prop}(s:Sep F W w L)(hi:L[i]? =some (qx p a c es))(h0:es=[]->∀w',Sep F W w' L->Q 0 0 false w')(h1:0<es.length->∀w',Sep F W w' L->Q (g es 0).1 (g es 0).2 true w'):AX (sZ p) w Q:=by
 apply Uj;apply ad4 s hi;by_cases he:es.length=0
 ·grind
 ·rw[show((es.length:Int)==0)=false by grind,cond_false];obtain⟨b,o,rfl⟩:=Wi s hi (by omega);have s0:=FK s hi;have s0:Sep (qx p (some ⟨b,o,none⟩) c es).fp w w.drew _:=s0;have g0:=EA (es:=es) (i:=0) (by omega);apply ah;apply lS s0 0 rfl;refine⟨by omega,by omega,ah ?_⟩;refine eJ iE s0 (i:=1) rfl g0 (apP ..) rfl (ah ?_);apply lS s0 0 rfl;refine⟨by omega,by omega,ah ?_⟩;apply eJ iE s0 (i:=1) rfl g0 (d_ ..) rfl;refine⟨wI s0 (i:=1) rfl (j:=0*2+1) (d_ ..) (by rw[sK iE g0 (by decide)];rfl),cj s0 0 rfl,?_⟩;exact h1 (by omega) w.drew s
def abZ {b o n j:Nat}{Q:World->Prop}(hij:i≠j)(hn:es.length=n)(LZ:n<=4000000000000)(inv:KI es 0)(hi:L[i]? =some (av p 351 [.slice (some ⟨b,o,none⟩) n c]))(hj:L[j]? =some (ak (some ⟨b,o,none⟩) n c 353 2 (flat pr es)))(s:Sep F W w L)
  (h:∀w' es',zy es'->es'.Perm es->Sep F W w' (L.set j (ak (some ⟨b,o,none⟩) n c 353 2 (flat pr es')))->Q w'):z8 (sZ p) w Q:=by
 apply RZ;by_cases h0:es.length=0
 ·have Yu:=List.eq_nil_of_length_eq_zero h0;subst Yu;obtain rfl:n=0:=by grind
  refine⟨1,?_⟩;show xk Q (oA Q 0) _ _ _;refine⟨1,?_⟩;show mq _ Q (mu _ Q 0) _ _ _ _ _;rw[mq,show decide (IntKind.wrap .i64 (IntKind.wrap .i64 (2*0)+1)<=IntKind.wrap .i64 (IntKind.wrap .i64 (2*0)+2))=true by decide,cond_true];apply ah;apply gX s rfl hi rfl;unfold oz;apply h w [] (λj h1 h2=>by simp at h2) (.refl _);rw[rF hj];exact s
 ·exact⟨es.length+1,aom hij es.length 0 es w (by omega) (by omega) hn LZ inv L hi hj s h⟩
def C6 {Q:Int->Int->Bool->World->Prop}(s:Sep F W w L)(hi:L[i]? =some (qx p a c es))(LZ:es.length<=4000000000000)(h0:es=[]->∀w',Sep F W w' L->Q 0 0 false w')
  (h1:0<es.length->∀w' a' c' es',(g es 0::es').Perm es->Sep F W w' (L.set i (qx p a' c' es'))->Q (g es 0).1 (g es 0).2 true w'):jD (sZ p) w Q:=by
 apply Uk;refine ad5 s hi (λhe w1 s1=>?_) λhpos w1 s=>?_
 ·unfold yp;grind
 ·rw[cond_true];obtain⟨b,o,rfl⟩:=Wi s hi hpos;have hh:=Wh s hi;have hcap:=aqw s hi;have s0:=FK s hi;have s1:Sep (qx p (some ⟨b,o,none⟩) c es).fp w1 w1.drew _:=s0;have e1:IntKind.wrap .i64 ((es.length:Int)-1)=((es.length-1:Nat):Int):=by rw[aG];omega
  have gl:=EA (es:=es) (i:=es.length-1) (by omega);have g0:=EA hpos;apply ah;refine lS s0 0 rfl (ah ?_);refine lS s1 0 rfl (ah ?_);apply lS s1 0 rfl;rw[e1];refine⟨by omega,by omega,ah ?_⟩;apply eJ iE s1 (i:=1) rfl gl (d_ ..) rfl;apply eJ iE s1 (i:=1) rfl gl (d_ ..) rfl;refine⟨by omega,by omega,ah ?_⟩;refine dW iE (x':=((g es (es.length-1)).1,(g es 0).2)) s1 (i:=1) rfl g0 (d_ ..) (by decide) rfl rfl λw3 s3=>?_;refine dW iE (k:=0) (x:=((g es (es.length-1)).1,(g es 0).2)) (x':=g es (es.length-1)) s3 (i:=1) rfl (by grind) (d_ ..) (by decide) rfl rfl λw4 s4=>?_;simp[List.set_cons_zero,List.set_cons_succ,g_]at s4;apply ah;apply lS s4 0 rfl;refine O3 rfl (by omega) (ah ?_);refine sT s4 0 rfl λw5 s5=>?_;have s6:=S9 s5 (i:=1) rfl (m:=es.length-1) (by omega);rw[UP iE]at s6;have hl:((es.set 0 (g es (es.length-1))).take (es.length-1)).length=es.length-1:=by simp
  refine abZ (i:=0) (j:=1) (by decide) hl (by omega) (as1 hh hpos) rfl rfl s6 λw7 es' k1 k2 s7=>?_;have hl':es'.length=es.length-1:=by rw[k2.length_eq,hl]
  refine h1 hpos w7 (some ⟨b,o,none⟩) c es' ((List.Perm.cons _ k2).trans (aqu hpos)) (abY s hi ?_ k1);grind
end
end Go.Proofs.YtmegplnmiepfbaaGreatDoor.S.Hp
namespace Go.Proofs.YtmegplnmiepfbaaGreatDoor.S
open Go.Sx
section
variable {α:Type}{S:α->Int->Prop}{E:α->α->Int->Prop}{f:α->Int}{Q Q':List (Int×α)}
structure Tq (S:α->Int->Prop) (E:α->α->Int->Prop) (cap:Int) (f:α->Int) (Q:List (Int×α)) (P:α->α->Int->Prop):Prop where
 ways:∀x,f x<cap->Wy S E x (f x)
 top:∀x,f x<=cap
 key:∀e∈Q,f e.2<=e.1
 wR:∀x n c,E x n c->f n<cap->(f n,n)∈Q\/f x<=f n+c\/cap<=f n+c\/P x n c
variable {cap:Int}{P P':α->α->Int->Prop}
def Tq.agF [DecidableEq α]{f':α->Int}{y:α}{k:Int}(h:Tq S E cap f Q P)(hk:k<f y)(hw:Wy S E y k)(hf:∀x,f' x=if x=y then k else f x)(hq:∀e,e∈Q'↔e∈Q\/e=(k,y))(hP:∀x n c,P x n c->x=y->(∃d,f n=d/\k<=d+c)\/P' x n c)(hP':∀x n c,P x n c->x≠y->P' x n c)(hy:∀x c,P x y c->False):Tq S E cap f' Q' P' where
 ways x hx:=by
  rw[hf]at hx⊢;split
  ·grind
  ·rename_i e;rw[if_neg e]at hx;exact h.ways x hx
 top x:=by
  rw[hf];have:=h.top y;split
  ·omega
  ·exact h.top x
 key e he:=by
  rcases(hq e).1 he with h1|rfl
  ·have:=h.key e h1;grind
  grind
 wR x n c e hn:=by
  by_cases en:n=y
  ·grind
  ·have efn:f' n=f n:=by grind
   rw[efn]at hn⊢;rcases h.wR x n c e hn with h1|h1|h1|h1
   all_goals grind
def Tq.weaken (h:Tq S E cap f Q P)(hP:∀x n c,P x n c->E x n c->f n<cap->f x<=f n+c\/cap<=f n+c\/P' x n c):Tq S E cap f Q P' where
 ways:=h.ways
 top:=h.top
 key:=h.key
 wR x n c e hn:=by
  rcases h.wR x n c e hn with h1|h1|h1|h1
  all_goals grind
def Tq.pop {k:Int}{y:α}(h:Tq S E cap f Q λ_ _ _=>False)(hq:∀e,e∈Q↔e∈Q'\/e=(k,y)):Tq S E cap f Q' λx n c=>n=y/\f y=k/\E x n c where
 ways:=h.ways
 top:=h.top
 key e he:=h.key e ((hq e).2 (.inl he))
 wR x n c e hn:=by
  rcases h.wR x n c e hn with h1|h1|h1|h1
  all_goals grind
def Tq.lci (h:Tq S E cap f Q λ_ _ _=>False)(hs:∀x k,S x k->f x<=k\/cap<=k):LcI S E cap f Q:=⟨h.ways,h.top,hs,λx n c e hn=>by
 rcases h.wR x n c e hn with h1|h1|h1|h1
 all_goals grind⟩
end
def E7 (ds:List Int):Nat:=(ds.map Int.toNat).sum
def Z7 {k:Int}:∀{ds:List Int} {i:Nat},i<ds.length->E7 (ds.set i k)+(gi ds i).toNat=E7 ds+k.toNat
 |[],i,h=>by simp at h
 |d::ds,0,h=>by show(k.toNat+(ds.map Int.toNat).sum)+d.toNat=(d.toNat+(ds.map Int.toNat).sum)+k.toNat;omega
 |d::ds,i+1,h=>by have ih:=Z7 (k:=k) (by simpa using h);have ih:E7 (ds.set i k)+(gi (d::ds) (i+1)).toNat=E7 ds+k.toNat:=ih;show(d.toNat+E7 (ds.set i k))+(gi (d::ds) (i+1)).toNat=(d.toNat+E7 ds)+k.toNat;omega
def ain (k:Int):∀n:Nat,E7 (List.replicate n k)=n*k.toNat
 |0=>by simp[E7]
 |n+1=>by have ih:=ain k n;show k.toNat+E7 (List.replicate n k)=_;grind
def AO:Int:=2147483647
def fC (ds:List Int)(x:Int):Int:=if 0<=x/\x<ds.length then gi ds x.toNat else AO
def aio {ds:List Int}{x k:Int}(hx:0<=x/\x<ds.length)(y:Int):fC (ds.set x.toNat k) y=if y=x then k else fC ds y:=by
 unfold fC;rw[List.length_set];by_cases hy:0<=y/\y<ds.length
 ·rw[if_pos hy,if_pos hy,aaI (by omega)];omega
 grind
def auV {ds:List Int}{x:Int}(hx:0<=x/\x<ds.length)(hd:∀y∈ds,y<=AO):atF ds x=if fC ds x<AO then fC ds x else bW:=by
 unfold atF fC;rw[if_pos hx,if_pos hx];have:=hd _ (fE (i:=x.toNat) (by omega));by_cases h:gi ds x.toNat=2147483647
 ·rw[if_pos h,if_neg (by unfold AO;omega)]
 ·rw[if_neg h,if_pos (by unfold AO at*;omega)]
section
variable {m:bJ}{t:Int}
def fM (dm:List (Int×Int))(c:Int):Int:=(fA dm c).getD bW
def unM (m:bJ)(dm:List (Int×Int)):Nat:=(jU m).countP λc=>decide (fM dm c=bW)
def A8 (m:bJ)(t:Int):Int->Int->Int->Prop:=tN (fU m) (cS m) (cS m t)
structure Yv (m:bJ) (t:Int) (dm:List (Int×Int)) (es:List (Int×Int)):Prop where
 dj:O7 (gB m t) (A8 m t) (fM dm) es
 Ec:∀e∈es,ff m e.2=true/\cS m e.2=cS m t/\0<=e.1
 top:∀e∈es,e.1+254*(unM m dm:Int)<=254*((jU m).length:Int)
 nd:oP dm
 lt:∀c d,fA dm c=some d->0<=d/\d<1000000000
 nP:es.length+4*unM m dm<=1+4*(jU m).length
def Jd (m:bJ)(t x key s:Int):List (Int×Int):=if 0<=bf m.w m.h x s/\aC m.w m.h (bf m.w m.h x s)=aC m.w m.h t/\cT m (bf m.w m.h x s)≠255 then[(key,bf m.w m.h x s)]else[]
def EB (m:bJ)(t x key:Int)(j:Nat):List (Int×Int):=(List.range j).flatMap λs:Nat=>Jd m t x key s
def SK (x key:Int)(j:Nat):EB m t x key (j+1)=EB m t x key j++Jd m t x key j:=by unfold EB;rw[List.range_succ,List.flatMap_append];simp
def alR (x key s:Int):(Jd m t x key s).length<=1:=by unfold Jd;grind
def Wj (x key:Int):∀j:Nat,(EB m t x key j).length<=j
 |0=>by simp[EB]
 |j+1=>by have:=Wj x key j;have:=alR (m:=m) (t:=t) x key j;rw[SK,List.length_append];omega
def afe {x key:Int}{e:Int×Int}:e∈EB m t x key 4↔∃s:Int,(0<=s/\s<=3)/\(0<=bf m.w m.h x s/\aC m.w m.h (bf m.w m.h x s)=aC m.w m.h t/\cT m (bf m.w m.h x s)≠255)/\e=(key,bf m.w m.h x s):=by
 rw[EB,List.mem_flatMap];constructor
 ·rintro ⟨s,h1,h2⟩;have h1:=List.mem_range.1 h1;unfold Jd at h2;grind
 ·rintro ⟨s,h1,h2,rfl⟩;refine⟨s.toNat,List.mem_range.2 (by omega),?_⟩;unfold Jd;grind
variable {dm J4:List (Int×Int)}{es es':List (Int×Int)}{k x:Int}
def ajS:∀x n c,A8 m t x n c->0<=c:=λx n c h=>cZ _ _ _ h.1
def Yv.skip (h:Yv m t dm es)(hp:((k,x)::es').Perm es)(hx:fA dm x≠none):Yv m t dm es':=by
 have hm:∀e∈es',e∈es:=λe he=>hp.mem_iff.1 (by simp[he]);refine⟨h.dj.skip (k:=k) (x:=x) ?_ hm (λe he=>?_),λe he=>h.Ec e (hm e he),λe he=>h.top e (hm e he),h.nd,h.lt,?_⟩
 ·cases ha:fA dm x with
  |none=>grind
  |some d=>
   have:=h.lt x d ha;rw[fM,ha];show d<bW;unfold bW;omega
 ·grind
 ·have h1:=hp.length_eq;have h2:=h.nP;grind
def Yv.step (hm:cR m)(h:Yv m t dm es)(hp:((k,x)::es').Perm es)(hmin:∀e∈es,k<=e.1)(hx:fA dm x=none)(hnd:oP J4)(hd:∀y,fA J4 y=if y=x then some k else fA dm y){QX:List (Int×Int)}(hp2:QX.Perm (es'++EB m t x (k+cT m x) 4)):
  Yv m t J4 QX/\QX.length+5*unM m J4+1<=es.length+5*unM m dm:=by
 have hin:(k,x)∈es:=hp.mem_iff.1 (by simp);obtain⟨I9,hsx,F5⟩:=h.Ec _ hin;have ZN:=h.top _ hin;simp only at I9 hsx F5 ZN;have hxc:=jT hm I9;have hcx:=Cj I9;have hfx:fM dm x=bW:=by unfold fM;rw[hx];rfl
 have hN:((jU m).length:Int)=m.w*m.h:=by rw[<-hm.len];simp[jU]
 have hN2:=mV ⟨hm.w,hm.h⟩;have ZO:∀y,fM J4 y=if y=x then k else fM dm y:=λy=>by unfold fM;grind
 have hkI:k<bW:=by unfold bW;omega
 have hun:unM m J4+1<=unM m dm:=by
  refine Rs (zv hm hxc) (by grind) ?_ λy hy=>?_
  all_goals grind
 have D9:∀e,e∈QX↔e∈es'\/e∈EB m t x (k+cT m x) 4:=λe=>by grind
 have told:∀e∈EB m t x (k+cT m x) 4,ff m e.2=true/\cS m e.2=cS m t/\e.1=k+cT m x/\A8 m t e.2 x (cT m x):=λe he=>by obtain⟨s,hs,⟨h1,h2,h3⟩,rfl⟩:=afe.1 he;have hc:=(zR h1).2;have ho:=(Cl hm hc).2 h3;obtain⟨s',hs',hb⟩:=I7 hs h1;exact⟨ho,h2,rfl,⟨ho,I9,⟨s',hs',hb⟩,rfl⟩,h2,hsx⟩
 have Yu:∀e∈es',e∈es:=λe he=>hp.mem_iff.1 (by simp[he]);have hl1:=hp.length_eq;have hl2:=hp2.length_eq;have hl3:=Wj (m:=m) (t:=t) x (k+cT m x) 4;have oX:=h.nP;simp[List.length_cons]at hl1;rw[List.length_append]at hl2;refine⟨⟨?_,?_,?_,hnd,?_,by omega⟩,by omega⟩
 ·refine h.dj.step ajS (by grind) hkI hin hmin (by grind) (λy hy=>by grind) (λe he=>?_) (λe he=>?_) λy c hy=>?_
  ·grind
  ·grind
  ·obtain⟨⟨h1,h2,⟨s,hs,h3⟩,rfl⟩,h4,h5⟩:=hy;refine .inr ⟨k+cT m x,Int.le_refl _,(D9 _).2 (.inr (afe.2 ?_))⟩;obtain⟨s',hs',hb⟩:=I7 hs (by rw[h3];exact hxc.2.1);rw[h3]at hb;have J5:=jT hm h1;exact⟨s',hs',by rw[hb];exact⟨J5.2.1,h4,(Cl hm J5).1 h1⟩,by rw[hb]⟩
 ·intro e he;rcases(D9 e).1 he with h1|h1
  ·exact h.Ec e (Yu e h1)
  ·have:=told e h1;exact⟨this.1,this.2.1,by rw[this.2.2.1];omega⟩
 ·intro e he;rcases(D9 e).1 he with h1|h1
  ·have:=h.top e (Yu e h1);omega
  ·have:=(told e h1).2.2.1;omega
 ·intro c d hcd;rw[hd]at hcd;split at hcd
  ·cases hcd;omega
  ·exact h.lt c d hcd
def aon (hm:cR m)(ho:ff m t=true):Yv m t [] [(0,t)]:=by
 have hf:∀x,fM [] x=bW:=λx=>rfl;have hu:unM m []=(jU m).length:=by unfold unM;simp_all
 refine⟨⟨?_,?_,λx _=>hf x,?_,?_,?_⟩,?_,?_,akG,?_,by rw[hu];simp⟩
 ·intro e he;rw[List.mem_singleton]at he;subst he;exact .src ⟨rfl,ho,rfl⟩
 ·grind
 ·rintro x k ⟨rfl,_,rfl⟩;grind
 ·grind
 ·grind
 ·grind
 ·grind
 ·intro c d h;cases h
def aip (m:bJ)(t:Int)(dm:List (Int×Int)):Prop:=∀c,fA dm c=(if gL (gB m t) (A8 m t) c<bW then some (gL (gB m t) (A8 m t) c)else none)/\(gL (gB m t) (A8 m t) c<bW->0<=gL (gB m t) (A8 m t) c/\gL (gB m t) (A8 m t) c<1000000000)
def Yv.done (h:Yv m t dm []):aip m t dm:=λc=>by
 have h1:=h.dj.done c;unfold fM at h1;cases ha:fA dm c with
 |none=>
  grind
 |some d=>
  have h2:=h.lt c d ha;rw[ha]at h1;have h1:gL (gB m t) (A8 m t) c=d:=h1;rw[h1];exact⟨by rw[if_pos (by unfold bW;omega)],λ_=>h2⟩
def aoo (ho:¬ff m t=true):aip m t []:=λc=>by
 have:gL (gB m t) (A8 m t) c=bW:=xI λd hd=>by
  induction hd with
  |src h=>exact ho h.2.1
  |go _ _ ih=>exact ih
 rw[this];exact⟨by rw[if_neg (Int.lt_irrefl bW)];rfl,λh=>(Int.lt_irrefl bW h).elim⟩
end
end Go.Proofs.YtmegplnmiepfbaaGreatDoor.S
namespace Go.Proofs.YtmegplnmiepfbaaGreatDoor.S
open Go.Sx
attribute [local irreducible] af cA bw bg aA cq bY St Bx Al App cD cy cw bT aL bC aq bR av ak aV mapA
def alS:P.underlying 207=some (.map 3 3):=by kernel_rfl
def ab1 (w:World):(zeroValue 3).run P w=.ok (ae 0) w:=Lr.arO w
def vI (n:Int):Value:=ae n
def akJ {w h c:Int}(hc:bK w h c):iK c:=by have:=UX hc;unfold iK;omega
section
variable {F:Nat->Prop}{W w w0:World}{L:List As}{fp hp mb hc:Nat}{ha:Option Addr}{gr:uz}{g:gW}{t:Int}{dm:List (Int×Int)}{es:List (Int×Int)}{vs:List Value}
noncomputable abbrev wiL (hp:Nat)(ha:Option Addr)(hc mb:Nat)(dm es:List (Int×Int)):List As:=[Hp.qx hp ha hc es,fQ fu vI mb dm]
def aiq {P8:Option Addr->Int->Int->Int->Option Nat->Option Addr->Int->Int->Bool->World->Prop}{Q:Option Nat->World->Prop}{x k:Int}{v0:Value}(hK:rS w0 fp (v0::.pointer (sZ gr.p)::vs))(kg:nB w0 gr g)(hx:ff g.m x=true)(hk:0<=k/\k<10000000000)
  {Yw:List (Int×Int)}(Yu:Yw.length<100000000)
  (h:∀es' Ed Ba w',es'.Perm (Yw++EB g.m t x (k+cT g.m x) 4)->Sep No w0 w' (wiL hp Ed Ba mb dm es')->mZ P8 Q (sZ fp) t g.m.w g.m.h (some mb) (sZ hp) w'):
  ∀(n s:Nat) (es:List (Int×Int)) (ha:Option Addr) (hc:Nat) (w:World),s+n=4->es.Perm (Yw++EB g.m t x (k+cT g.m x) s)->Sep No w0 w (wiL hp ha hc mb dm es)->iL P8 Q (n+1) (sZ fp) t g.m.w g.m.h (some mb) (sZ hp) k x s w:=by
 intro n;induction n with
 |zero=>
  intro s es ha hc w hs hp' sp;show my P8 Q (iL P8 Q 0) _ _ _ _ _ _ _ _ _ _;unfold my;grind
 |succ n ih=>
  intro s es ha hc w hs hp' sp;show my P8 Q (iL P8 Q (n+1)) _ _ _ _ _ _ _ _ _ _;rw[my,bN,aG];have skip:∀(w:World),Sep No w0 w (wiL hp ha hc mb dm es)->¬(0<=bf g.m.w g.m.h x s/\aC g.m.w g.m.h (bf g.m.w g.m.h x s)=aC g.m.w g.m.h t/\cT g.m (bf g.m.w g.m.h x s)≠255)->
    iL P8 Q (n+1) (sZ fp) t g.m.w g.m.h (some mb) (sZ hp) k x ((s:Int)+1) w:=λw sp hno=>by
   refine ih (s+1) es ha hc w (by omega) ?_ sp;rw[SK];unfold Jd;grind
  refine kH sp λw sp _=>?_;by_cases h0:bf g.m.w g.m.h x s<0
  ·grind
  rw[bp h0];refine eZ sp λw sp _=>eZ sp λw sp _=>?_;by_cases h1:aC g.m.w g.m.h (bf g.m.w g.m.h x s)=aC g.m.w g.m.h t
  ·rw[show(aC g.m.w g.m.h (bf g.m.w g.m.h x s) !=aC g.m.w g.m.h t)=false by grind,cond_false];refine ah (dO ((hK.fr (au sp)) 1 _ rfl) (jn (kg.fr (au sp)) ?_));by_cases h2:cT g.m (bf g.m.w g.m.h x s)=255
   ·grind
   rw[cQ h2,cond_false];refine ah (dO ((hK.fr (au sp)) 1 _ rfl) (jn (kg.fr (au sp)) ?_));have hcx:=Cj hx;rw[aG];have hl:=hp'.length_eq;have htl:=Wj (m:=g.m) (t:=t) x (k+cT g.m x) s;rw[List.length_append]at hl;refine Hp.Bs sp (i:=0) rfl (by omega) λw ha hc QX hp2 sp=>?_;refine ih (s+1) QX ha hc w (by omega) ?_ sp;rw[SK];unfold Jd;grind
  grind
def aqx (s:Sep F W w (Hp.qx hp ha hc es::L)){e0:Int×Int}{es':List (Int×Int)}(hp':(Hp.g es 0::es').Perm es):∀e∈es,(Hp.g es 0).1<=e.1:=λe he=>by have:=Hp.ad3 (Hp.Wh s (i:=0) rfl) he;rw[Hp.W9]at this;omega
def ajT {Q:Option Nat->World->Prop}{v0:Value}(hK:rS w0 fp (v0::.pointer (sZ gr.p)::vs))(kg:nB w0 gr g)
  (h:∀ha hc dm w',oP dm->aip g.m t dm->Sep No w0 w' (wiL hp ha hc mb dm [])->Q (some mb) w'):
  ∀(f:Nat) (es:List (Int×Int)) (dm:List (Int×Int)) (ha:Option Addr) (hc:Nat) (w:World),es.length+5*unM g.m dm<=f->Yv g.m t dm es->Sep No w0 w (wiL hp ha hc mb dm es)->
   mZ (jc Q (f+1)) Q (sZ fp) t g.m.w g.m.h (some mb) (sZ hp) w:=by
 have hm:=kg.ok.may;have hN:(jU g.m).length<=1048576:=by
  have:=mV ⟨hm.w,hm.h⟩;have e:((jU g.m).length:Int)=g.m.w*g.m.h:=by rw[<-hm.len];simp[jU]
  omega
 intro f;induction f with
 |zero=>
  intro es dm ha hc w hf I s;have oX:=I.nP;obtain rfl:es=[]:=List.eq_nil_of_length_eq_zero (by omega);refine Hp.C6 s (i:=0) rfl (by simp) (λ_ w s=>?_) λh0=>by simp at h0
  show jb Q (jc Q 0) _ _ _ _ _ _ _ _ _ _;unfold jb;exact h ha hc dm w I.nd I.done s
 |succ f ih=>
  intro es dm ha hc w hf I s;have oX:=I.nP;refine Hp.C6 s (i:=0) rfl (by omega) (λe w s=>?_) λh0 w Ed Ba es' hp' sN=>?_
  ·subst e;show jb Q (jc Q (f+1)) _ _ _ _ _ _ _ _ _ _;unfold jb;exact h ha hc dm w I.nd I.done s
  ·have hmin:=aqx (e0:=(0,0)) s hp';have s:=sN;generalize hge:Hp.g es 0=e0 at hp' hmin⊢;obtain⟨k,x⟩:=e0;have hin:(k,x)∈es:=hp'.mem_iff.1 (by simp);obtain⟨I9,hsx,F5⟩:=I.Ec _ hin;have ZN:=I.top _ hin;show jb Q (jc Q (f+1)) _ _ _ _ _ _ _ _ _ _;unfold jb;have hxI:=akJ (jT hm I9);have hlen:=hp'.length_eq;simp[List.length_cons]at hlen;refine Ez (K:=fu) alS (ab1 w) s (i:=1) rfl I.nd hxI (λhx=>?_) λd hx=>?_
   ·refine LY alS s (i:=1) rfl I.nd hxI λJ4 w' hnd hd _ s=>?_;refine⟨5,aiq (Yw:=es') hK kg I9 ⟨F5,by omega⟩ (by omega) (λQX Tr US w2 hp2 s2=>?_) 4 0 es' Ed Ba w' rfl (by show es'.Perm (es'++[]);grind) s⟩;obtain⟨I2,hM⟩:=I.step hm hp' hmin hx hnd hd hp2;grind
   ·exact ih es' dm Ed Ba w (by omega) (I.skip hp' (by grind)) s
def air {Q:Option Nat->World->Prop}{v0:Value}(s0:Sep F W w L)(hK:rS w fp (v0::.pointer (sZ gr.p)::vs))(kg:nB w gr g)(ht:bK g.m.w g.m.h t)
  (h:∀mb dm w',oP dm->aip g.m t dm->Sep F W w' (fQ fu vI mb dm::L)->Fr No w w'->Q (some mb) w'):tY (sZ fp) t w Q:=by
 apply Kj;have hm:=kg.ok.may;refine ah (dO (hK 1 _ rfl) ?_);refine jo (bh (F:=No)) kg λw1 s _=>?_;refine Z4 s _ fu vI λmb w1 s=>?_;refine ah (dO ((hK.fr (au s)) 1 _ rfl) (jn (kg.fr (au s)) ?_));have hop:=Cl hm ht;by_cases hw:cT g.m t=255
 ·rw[eC hw,cond_true];exact h mb [] w1 akG (aoo λe=>(hop.1 e) hw) (dD s0 s (i:=0) rfl) (au s)
 rw[cQ hw,cond_false];have ho:=hop.2 hw;refine Hp.QW s λhp w1 s=>?_;refine Hp.Bs s (i:=0) rfl (by simp) λw1 ha hc es hp' s=>?_;have e1:es=[(0,t)]:=by simp_all
 subst e1;have I:=aon hm ho;have:=ajT hK kg (λha hc dm w' hnd hin s=>h mb dm w' hnd hin (dD s0 s (i:=1) rfl) (au s)) _ [(0,t)] [] ha hc w1 (Nat.le_refl _) I s;refine He (λa b c w q=>⟨_,q⟩) this
end
def L4:∀l:List Int,flat oW l=l.map λx=>Value.int .i32 x
 |[]=>rfl
 |x::l=>by have:=L4 l;simp[flat,List.flatMap_cons,List.map_cons]at this⊢;rw[this];rfl
def Z8 (x:Int)(u:Value)(h:u∈oW x):u.oneCell'=true:=by simp[oW,List.mem_singleton]at h;rw[h];rfl
def alT {v z:Int}{n k N:Nat}(hk:k<=n)(hN:n+k<=N):
  (flat oW (List.replicate n v++List.replicate (N-n) z)).take (n*1)++(flat oW ((List.replicate n v++List.replicate (N-n) z).take n)).take (k*1)++(flat oW (List.replicate n v++List.replicate (N-n) z)).drop ((n+k)*1)=flat oW (List.replicate (n+k) v++List.replicate (N-(n+k)) z):=by
 simp only[L4,Nat.mul_one];rw[<-List.map_take,<-List.map_take,<-List.map_drop,<-List.map_append,<-List.map_append];congr 1;rw[List.take_left' (by simp),List.take_replicate,Nat.min_eq_left hk,List.replicate_append_replicate,<-List.drop_drop,List.drop_left' (by simp),List.drop_replicate,Nat.sub_sub]
section
variable {F:Nat->Prop}{W w w0:World}{L:List As}{xa:Option Addr}{xc:Nat}{v:Int}
def agp {Q:Option Addr->Nat->Nat->World->Prop}{b N:Nat}(hN:N<=1048576)(h:∀w',Sep No w0 w' (ak (sZ b) N N 21 1 (flat oW (List.replicate N v))::L)->Q (sZ b) N N w'):
  ∀(m n:Nat) (w:World),N<=n+m->1<=n->n<=N->Sep No w0 w (ak (sZ b) N N 21 1 (flat oW (List.replicate n v++List.replicate (N-n) 0))::L)->jA Q (m+1) (sZ b) N N n w:=by
 have done:∀(R:Option Addr->Nat->Nat->Int->World->Prop) (w:World),Sep No w0 w (ak (sZ b) N N 21 1 (flat oW (List.replicate N v++List.replicate (N-N) 0))::L)->jz Q R (sZ b) N N N w:=λR w s=>by unfold jz;grind
 intro m;induction m with
 |zero=>
  intro n w hm h1 h2 s;have:n=N:=by omega
  subst this;exact done _ _ s
 |succ m ih=>
  intro n w hm h1 h2 s;show jz Q (jA Q (m+1)) _ _ _ _ _;by_cases hn:n=N
  ·grind
  ·rw[jz,bN];apply O4 rfl h2;rw[fS];apply O3 rfl h2;have s:=ay s;have hT:=(aO s (i:=0) rfl vq (by decide)).top h2;refine EH (p:=n) ef s rfl rfl rfl rfl (by decide) (i:=0) rfl (hT.src (e:=21) vq Z8) (by omega) (by simp[Addr.add];omega) λw s=>?_;rw[alT (Nat.min_le_left _ _) (by omega)]at s;have e:IntKind.wrap .i64 ((n:Int)+((min n (N-n):Nat):Int))=((n+min n (N-n):Nat):Int):=by rw[aG];omega
   grind
def ad6 {N:Nat}{Q:Option Addr->Nat->Nat->World->Prop}(s0:Sep F W w L)(hA:Sl w xa 1 xc 1 oW [v])(hN:1<=N/\N<=1048576)
  (h:∀ra w',Sep F W w' (ak ra N N 21 1 (flat oW (List.replicate N v))::L)->Fr No w w'->Q ra N N w'):oV xa 1 xc N w Q:=by
 apply FR;rw[bp,ke (by decide),ke (by omega)];apply C3 (by decide) (by omega) (by omega);have e1:((1:Nat):Int)*N=N:=by omega
 rw[e1,bp (by decide),bp,aG];refine xH (bytes:=4) ef (bh (F:=No)) rfl rfl rfl rfl rfl rfl (by decide) vq rfl (λu hu=>Z8 0 u hu) rfl rfl (Nat.le_refl _) (by omega) (by simp[maxLen];omega) λb w' s=>?_;refine EH (p:=0) ef s rfl rfl rfl rfl (by decide) (i:=0) rfl ((hA.fr (au s)).src (e:=21) vq Z8) (by omega) rfl λw' s=>?_;have hm:min 1 N=1:=by omega
 rw[hm]at s⊢;have e2:(flat oW (List.replicate N 0)).take (0*1)++(flat oW [v]).take (1*1)++(flat oW (List.replicate N 0)).drop ((0+1)*1)=flat oW (List.replicate 1 v++List.replicate (N-1) 0):=by simp only[L4,Nat.zero_mul,List.take_zero,List.nil_append,Nat.mul_one,Nat.zero_add];rw[<-List.map_take,<-List.map_drop,<-List.map_append,List.drop_replicate];rfl
 rw[e2]at s;exact⟨N+1,agp hN.2 (λw' s=>h _ _ (dD s0 s (i:=0) rfl) (au s)) N 1 w' (by omega) (by omega) hN.1 s⟩
end
def SN (m:bJ)(t:Int):Int->Int->Prop:=K0 (gB m t) (fU m) (cS m) (oe m) t
def EN (m:bJ):Int->Int->Int->Prop:=Jn (fU m) (cS m) (oe m)
structure QY (m:bJ) (t:Int) (M:Nat) (es:List (Int×Int)) (ds:List Int) (P:Int->Int->Int->Prop):Prop where
 lc:Tq (SN m t) (EN m) AO (fC ds) es P
 len:(ds.length:Int)=m.w*m.h
 jC:ahZ ds
 nod:∀e∈es,oe m e.2/\bK m.w m.h e.2/\0<=e.1/\e.1<AO
 nP:es.length+E7 ds<=M
section
variable {m:bJ}{t:Int}{M:Nat}{es es':List (Int×Int)}{ds:List Int}{P P':Int->Int->Int->Prop}{y k:Int}
def SL (hy:0<=y/\y<ds.length):fC ds y=gi ds y.toNat:=if_pos hy
def QY.agF (h:QY m t M es ds P)(hy:oe m y)(J5:bK m.w m.h y)(hk:0<=k/\k<gi ds y.toNat)(hw:Wy (SN m t) (EN m) y k)(hp:es'.Perm (es++[(k,y)]))(hP:∀x n c,P x n c->x=y->(∃d,fC ds n=d/\k<=d+c)\/P' x n c)(hP':∀x n c,P x n c->x≠y->P' x n c)(hn:∀x c,P x y c->False):
  QY m t M es' (ds.set y.toNat k) P':=by
 have Tj:0<=y/\y<ds.length:=by rw[h.len];exact J5.2
 have hfy:=SL Tj;have hr:=h.jC _ (fE (i:=y.toNat) (by omega));have hq:∀e,e∈es'↔e∈es\/e=(k,y):=λe=>by grind
 refine⟨h.lc.agF (by grind) hw (aio Tj) hq hP hP' hn,by rw[List.length_set];exact h.len,λx hx=>?_,λe he=>?_,?_⟩
 ·rcases List.mem_or_eq_of_mem_set hx with hx|rfl
  ·exact h.jC x hx
  ·omega
 ·rcases(hq e).1 he with he|rfl
  ·exact h.nod e he
  ·exact⟨hy,J5,hk.1,by unfold AO;omega⟩
 ·have h1:=hp.length_eq;have h2:=Z7 (k:=k) (ds:=ds) (i:=y.toNat) (by omega);have h3:=h.nP;grind
def aor:∀x k,SN m t x k->0<=k:=λx k h=>by obtain⟨_,_,⟨d,hd⟩,rfl⟩:=h;exact mK kT (λx n c h=>cZ _ _ _ h.1) (qO kT (λx n c h=>cZ _ _ _ h.1) hd).1
def aff:∀x n c,EN m x n c->0<=c:=λx n c h=>by
 obtain⟨_,hn2,⟨h1,_,⟨d,hd⟩,rfl⟩|⟨_,h1⟩⟩:=h
 ·exact mK (λx k h=>by rw[h.2];grind) (λx n c h=>cZ _ _ _ h.1) (qO (λx k h=>by rw[h.2];grind) (λx n c h=>cZ _ _ _ h.1) hd).1
 ·exact cZ _ _ _ h1
def H_ (m:bJ)(t:Int)(ds:List Int):Prop:=(ds.length:Int)=m.w*m.h/\∀x,oe m x->bK m.w m.h x->atF ds x=D m t x
def QY.done (hm:cR m)(h:QY m t M [] ds λ_ _ _=>False)(hs:∀x k,SN m t x k->fC ds x<=k\/AO<=k):H_ m t ds:=by
 refine⟨h.len,λx hx hc=>?_⟩;have hxr:0<=x/\x<ds.length:=by rw[h.len];exact hc.2
 rw[auV hxr λy hy=>(h.jC y hy).2,<-auf hm hx];have hB:∀d,Wy (SN m t) (EN m) x d->gL (SN m t) (EN m) x<AO:=λd hd=>by have h1:gL (SN m t) (EN m) x=D m t x:=auf hm hx;have h2:=ap1 hm (M_ FD cZ (rB hm) hd);unfold AO;omega
 exact(LcI.done (h.lc.lci hs) aor aff hB (by decide)).symm
def aos (hm:cR m):QY m t ((m.w*m.h).toNat*2147483647) [] (List.replicate (m.w*m.h).toNat AO) λ_ _ _=>False:=by
 have hN:=mV ⟨hm.w,hm.h⟩;have hf:∀x,fC (List.replicate (m.w*m.h).toNat AO) x=AO:=λx=>by
  unfold fC;split
  ·rename_i h;unfold gi;grind
  ·rfl
 refine⟨⟨λx hx=>?_,λx=>?_,λe he=>by simp at he,λx n c _ hn=>?_⟩,by grind,λx hx=>?_,λe he=>by simp at he,?_⟩
 ·grind
 ·grind
 ·grind
 ·rw[List.mem_replicate]at hx;rw[hx.2];unfold AO;omega
 ·rw[ain];show 0+_<=_;rw[Nat.zero_add];exact Nat.le_refl _
end
section
variable {F:Nat->Prop}{W w w0:World}{L:List As}{fp hp mb hc M:Nat}{ha:Option Addr}{rr:xz}{r:Bq}{x:nD}{gr:uz}{g:gW}{t:Int}{dm es:List (Int×Int)}{ds:List Int}{vs:List Value}
abbrev seL (hp:Nat)(ha:Option Addr)(hc:Nat)(es:List (Int×Int))(rr:xz)(t ep:Int)(ds:List Int):List As:=[D_ rr ⟨t,ep,ds⟩,Hp.qx hp ha hc es]
def aiu {Q:Option Addr->World->Prop}{tA:Option Addr->Addr->Option Addr->Int->Int->Bool->World->Prop}{k node:Int}(hm:cR g.m)(hk:0<=k/\k<AO)(hn:oe g.m node)(hnc:bK g.m.w g.m.h node)(hM:M<4000000000000)
  (h:∀Ed Ba es' ds' w',QY g.m t M es' ds' (λ_ _ _=>False)->(∀x,fC ds' x<=fC ds x)->es'.length+E7 ds'<=es.length+E7 ds->Sep No w0 w' (seL hp Ed Ba es' rr t g.ep ds')->mA tA Q (sZ fp) (aZ rr.p) (sZ hp) w'){ea:Option Addr}{en ec:Nat}:
  ∀(n i:Nat) (es1:List (Int×Int)) (Ts:List Int) (ha1:Option Addr) (Ym:Nat) (w:World),i+n=en->QY g.m t M es1 Ts (λx n c=>n=node/\(x,c)∈(Ks g.m node).drop i)->fC Ts node=k->(∀x,fC Ts x<=fC ds x)->es1.length+E7 Ts<=es.length+E7 ds->
   Sep No w0 w (ak ea en ec 292 2 (flat Dp (Ks g.m node))::seL hp ha1 Ym es1 rr t g.ep Ts)->jP tA Q (n+1) (sZ fp) (aZ rr.p) (sZ hp) k ea en ec en i w:=by
 intro n;induction n with
 |zero=>
  intro i es1 Ts ha1 Ym w hi I hkn hmono hsum s;show mB tA Q (jP tA Q 0) _ _ _ _ _ _ _ _ _ _;unfold mB;have hen:=(aO s (i:=0) rfl QD (by decide)).len;rw[bp];refine h ha1 Ym es1 Ts w ⟨I.lc.weaken λx n c hP _ _=>?_,I.len,I.jC,I.nod,I.nP⟩ hmono hsum (ai s);grind
 |succ n ih=>
  intro i es1 Ts ha1 Ym w hi I hkn hmono hsum s;show mB tA Q (jP tA Q (n+1)) _ _ _ _ _ _ _ _ _ _;unfold mB;have hE:=aO s (i:=0) rfl QD (by decide);rw[bN,wrap_i64 (by omega) (by unfold AO at hk;have:=I.nP;have:=hE.le;have:=(Rn s (i:=0) rfl).2;simp[maxLen]at this;omega)];refine hE.El rfl (by omega) λp e he x9=>?_;obtain⟨y,c⟩:=e;have hem:=List.mem_of_getElem? he;have hE1:=(aif hm hn hnc).1 hem;have hc0:=aff _ _ _ hE1;have hyn:=hE1.1;have hne:y≠node:=by
   obtain⟨_,_,⟨_,h2,_⟩|⟨h2,_⟩⟩:=hE1
   ·exact h2
   ·exact λe=>h2 (by rw[e])
  have J5:bK g.m.w g.m.h y:=by
   obtain⟨_,_,⟨h1,_⟩|⟨_,h1⟩⟩:=hE1
   ·have:y∈aW g.m (cS g.m node):=by have h3:=hyn;unfold oe at h3;rwa[show cS g.m y=cS g.m node from h1]at h3
    exact(mF (bS hnc) this).2.1
   ·exact jT hm h1.1
  have hcb:c<1000000000:=by
   obtain⟨_,_,⟨h1,_,hw,h2⟩|⟨_,h1⟩⟩:=hE1
   ·have e1:=QO hm (bS hnc) ⟨J5,h1⟩ ⟨hnc,rfl⟩;have Tk:=(mF (bS hnc) hn).1;have h3:=ZU hm (bS hnc) ⟨J5,h1⟩ ⟨hnc,rfl⟩ Tk;have h4:=(ZT hm (bS hnc) ⟨J5,h1⟩ ⟨hnc,rfl⟩ Tk).2 hw;have h5:=h3.2.1 h4;have h2:c=gL (F4 node) (tN (fU g.m) (cS g.m) (aC g.m.w g.m.h node)) y:=h2;omega
   ·have:=GC h1;omega
  have Tj:0<=y/\y<Ts.length:=by rw[I.len];exact J5.2
  have abE:(Ks g.m node).drop i=(y,c)::(Ks g.m node).drop (i+1):=by obtain⟨IK,hx⟩:=List.getElem?_eq_some_iff.1 he;rw[List.drop_eq_getElem_cons IK,hx]
  unfold AO at hk;refine aR (x9 0 _ rfl) (aR (x9 1 _ rfl) ?_);refine aS s λeb w s=>?_;refine sT s 0 rfl λw s=>?_;refine ax s (i:=0) rfl rfl rfl λw s=>?_;refine lI s 0 rfl (lI s 0 rfl ?_);rw[aG];have s:=pk 99 [2,3,1,0] s;have hkw:Wy (SN g.m t) (EN g.m) y (k+c):=.go hE1 (by have:=I.lc.ways node (by rw[hkn];unfold AO;omega);rw[hkn]at this;exact this)
  have hlen:=I.nP;refine LD s Tj ⟨by omega,by omega⟩ (λhno=>?_) λhyes w s=>?_
  ·refine ih (i+1) es1 Ts ha1 Ym w (by omega) ⟨I.lc.weaken λx n2 c2 hP _ _=>?_,I.len,I.jC,I.nod,I.nP⟩ hkn hmono hsum (pk 99 [2,0,1] s);obtain⟨rfl,h2⟩:=hP;rw[abE]at h2;rcases List.mem_cons.1 h2 with h2|h2
   ·obtain⟨rfl,rfl⟩:=h2;left;rw[hkn,SL Tj];exact hno
   ·exact .inr (.inr ⟨rfl,h2⟩)
  ·simp only at hyes;refine lI s 3 rfl (lI s 3 rfl ?_);rw[aG];refine Hp.Bs s (i:=1) rfl (by omega) λw Tr US QX hp2 s=>?_;have I2:QY g.m t M QX (Ts.set y.toNat (k+c)) (λx n c=>n=node/\(x,c)∈(Ks g.m node).drop (i+1)):=by
    refine I.agF hyn J5 ⟨by omega,hyes⟩ hkw hp2 (λx n2 c2 hP ex=>?_) (λx n2 c2 hP ex=>?_) λx c2 hP=>hne hP.1
    ·obtain⟨rfl,h2⟩:=hP;rw[abE]at h2;rcases List.mem_cons.1 h2 with h2|h2
     ·obtain⟨_,rfl⟩:=h2;exact .inl ⟨_,rfl,by omega⟩
     ·exact .inr ⟨rfl,h2⟩
    ·obtain⟨rfl,h2⟩:=hP;rw[abE]at h2;rcases List.mem_cons.1 h2 with h2|h2
     ·simp[Prod.mk.injEq]at h2;exact(ex h2.1).elim
     ·exact⟨rfl,h2⟩
   have ZO:=aio (k:=k+c) Tj;have hss:=Z7 (k:=k+c) (ds:=Ts) (i:=y.toNat) (by omega);have IG:=hp2.length_eq;rw[List.length_append,List.length_singleton]at IG;refine ih (i+1) QX _ Tr US w (by omega) I2 (by rw[ZO,if_neg λe=>hne e.symm];exact hkn) (λz=>?_) (by omega) (pk 99 [2,0,1] s);rw[ZO];split
   ·rename_i e;rw[e];have:=hmono y;rw[SL Tj]at this;omega
   ·exact hmono z
end
section
variable {F:Nat->Prop}{W w w0:World}{L:List As}{fp hp mb hc M:Nat}{ha:Option Addr}{rr:xz}{r:Bq}{x:nD}{gr:uz}{g:gW}{t:Int}{dm es:List (Int×Int)}{ds:List Int}{vs:List Value}
def ajU {Q:Option Addr->World->Prop}(hF:rS w0 fp (.pointer (sZ r.p)::vs))(k:Ey w0 r gr.p x)(kg:nB w0 gr g)(I:yw g x)(hf:Nx g x)(hM:M<4000000000000)
  (h:∀ha hc ds w',H_ g.m t ds->Sep No w0 w' (seL hp ha hc [] rr t g.ep ds)->Q (sZ rr.p) w'):
  ∀(f:Nat) (es:List (Int×Int)) (ds:List Int) (ha:Option Addr) (hc:Nat) (w:World),es.length+E7 ds<=f->QY g.m t M es ds (λ_ _ _=>False)->(∀x k,SN g.m t x k->fC ds x<=k\/AO<=k)->Sep No w0 w (seL hp ha hc es rr t g.ep ds)->
   mA (iO Q (f+1)) Q (sZ fp) (aZ rr.p) (sZ hp) w:=by
 have hm:=kg.ok.may;intro f;induction f with
 |zero=>
  intro es ds ha hc w hf' J hs s;obtain rfl:es=[]:=List.eq_nil_of_length_eq_zero (by omega);refine Hp.C6 s (i:=1) rfl (by simp) (λ_ w s=>?_) λh0=>by simp at h0
  show iM Q (iO Q 0) _ _ _ _ _ _ _;unfold iM;exact h ha hc ds w (J.done hm hs) s
 |succ f ih=>
  intro es ds ha hc w hf' J hs s;have oX:=J.nP;refine Hp.C6 s (i:=1) rfl (by omega) (λe w s=>?_) λh0 w Ed Ba es' hp' sN=>?_
  ·subst e;show iM Q (iO Q (f+1)) _ _ _ _ _ _ _;unfold iM;exact h ha hc ds w (J.done hm hs) s
  ·have s:=sN;generalize hge:Hp.g es 0=e0 at hp'⊢;obtain⟨key,node⟩:=e0;have hin:(key,node)∈es:=hp'.mem_iff.1 (by simp);obtain⟨hn,hnc,F5,hkC⟩:=J.nod _ hin;have hle:=J.lc.key _ hin;have hnr:0<=node/\node<ds.length:=by rw[J.len];exact hnc.2
   rw[SL hnr]at hle;have hl:=hp'.length_eq;simp[List.length_cons]at hl;have hq:∀e,e∈es↔e∈es'\/e=(key,node):=λe=>by grind
   have J1:QY g.m t M es' ds (λx n c=>n=node/\fC ds node=key/\EN g.m x n c):=⟨J.lc.pop hq,J.len,J.jC,λe he=>J.nod e ((hq e).2 (.inl he)),by omega⟩;show iM Q (iO Q (f+1)) _ _ _ _ _ _ _;unfold iM;have hrk:=Sr s;have hdr:=J.jC _ (fE (i:=node.toNat) (by omega));apply dx (hrk.cell 2 _ rfl);apply FZ hrk.V (k:=node.toNat) (by omega) (by have hvl:ds.length=rr.n:=hrk.V.len;omega);rw[aG (n:=gi ds node.toNat)];by_cases hgt:key>gi ds node.toNat
   ·rw[bN hgt];refine ih es' ds Ed Ba w (by omega) ⟨J1.lc.weaken λx n c hP _ _=>?_,J1.len,J1.jC,J1.nod,J1.nP⟩ hs s;obtain⟨_,h2,_⟩:=hP;rw[SL hnr]at h2;omega
   ·rw[bp hgt];have hkey:fC ds node=key:=by rw[SL hnr];omega
    refine ah (dO (by have:=(hF.fr (au s)) 0 _ rfl;rw[add_zero]at this;exact this) ?_);refine abS s (k.fr (au s)) (kg.fr (au s)) I hf hnc hn λea en ec w s _=>?_;have J2:QY g.m t M es' ds (λx n c=>n=node/\(x,c)∈(Ks g.m node).drop 0):=⟨J1.lc.weaken λx n c hP hE _=>by obtain⟨rfl,_,_⟩:=hP;exact .inr (.inr ⟨rfl,by rw[List.drop_zero];exact(aif hm hn hnc).2 hE⟩),J1.len,J1.jC,J1.nod,J1.nP⟩
    refine⟨en+1,aiu hm ⟨F5,hkC⟩ hn hnc hM (λTr US QX ds2 w2 J3 hmono hsum s=>?_) en 0 es' ds Ed Ba w (by omega) J2 hkey (λ_=>Int.le_refl _) (Nat.le_refl _) s⟩;grind
def aix {Q:Option Addr->World->Prop}(hF:rS w0 fp (.pointer (sZ r.p)::vs))(k:Ey w0 r gr.p x)(kg:nB w0 gr g)(I:yw g x)(hf:Nx g x)(hM:M<4000000000000)(ht:bK g.m.w g.m.h t)(hnd:oP dm)(hin:aip g.m t dm)
  (h:∀ha hc ds w',H_ g.m t ds->Sep No w0 w' (seL hp ha hc [] rr t g.ep ds)->Q (sZ rr.p) w'){na:Option Addr}{nn nc:Nat}:
  ∀(n i:Nat) (es:List (Int×Int)) (ds:List Int) (ha:Option Addr) (hc:Nat) (w:World),i+n=nn->QY g.m t M es ds (λ_ _ _=>False)->(∀x k,SN g.m t x k->x∈(aW g.m (cS g.m t)).take i->fC ds x<=k\/AO<=k)->
   Sep No w0 w (ak na nn nc 3 1 (flat one (aW g.m (cS g.m t)))::fQ fu vI mb dm::seL hp ha hc es rr t g.ep ds)->jd Q (n+1) (sZ fp) (aZ rr.p) (sZ hp) (some mb) na nn nc nn i w:=by
 have hm:=kg.ok.may;have hs0:=bS ht;have aA2:=zM hs0;intro n;induction n with
 |zero=>
  intro i es ds ha hc w hi J hs s;show m6 Q (jd Q 0) _ _ _ _ _ _ _ _ _ _;unfold m6;have hnl:=(aO s (i:=0) rfl cB (by decide)).len;rw[bp];have hs':∀x k,SN g.m t x k->fC ds x<=k\/AO<=k:=λx k hx=>hs x k hx (by obtain⟨h1,h2,_⟩:=hx;have h1:x∈aW g.m (cS g.m x):=h1;grind)
  have:=ajU hF k kg I hf hM h _ es ds ha hc w (Nat.le_refl _) J hs' (ai (ai s));exact He (λa b c w q=>⟨_,q⟩) this
 |succ n ih=>
  intro i es ds ha hc w hi J hs s;show m6 Q (jd Q (n+1)) _ _ _ _ _ _ _ _ _ _;unfold m6;have hN:=aO s (i:=0) rfl cB (by decide);have hnl:=hN.len;have apI:(aW g.m (aC g.m.w g.m.h t)).length=nn:=hnl;rw[bN,aG];apply hN.rG rfl (by omega);have hmem:=fE (l:=aW g.m (cS g.m t)) (i:=i) (by omega);obtain⟨hyo,J5,hys⟩:=mF hs0 hmem;have hyn:oe g.m (gi (aW g.m (cS g.m t)) i):=by show _∈aW g.m (aC g.m.w g.m.h _);rw[hys];exact hmem
  have yc:(aW g.m (cS g.m t)).take (i+1)=(aW g.m (cS g.m t)).take i++[gi (aW g.m (cS g.m t)) i]:=by rw[List.take_add_one,iD (by omega)];rfl
  generalize gi (aW g.m (cS g.m t)) i=y at hyo J5 hys hyn yc⊢;have Tj:0<=y/\y<ds.length:=by rw[J.len];exact J5.2
  have oX:=J.nP;obtain⟨Yn,hi2⟩:=hin y;have only:∀k,SN g.m t y k->k=gL (gB g.m t) (A8 g.m t) y/\gL (gB g.m t) (A8 g.m t) y<bW:=λk hk=>by
   obtain⟨_,_,⟨d,hd⟩,rfl⟩:=hk;refine⟨rfl,?_⟩;have h1:=Wy.mono (λx k h=>.src h) (λx n c d e h=>.go e.1 h) (qO kT (λx n c h=>cZ _ _ _ h.1) hd).1;refine Classical.byContradiction λhno=>?_;have hl:=aaO (S:=gB g.m t) (E:=A8 g.m t) (λx k h=>Sv h) (λx n c h=>GC h.1) (jU g.m) (λx d h=>by
    cases h with
    |src h=>exact zv hm (jT hm (by rw[h.1];exact h.2.1))
    |go e _=>exact zv hm (jT hm e.1.1)) hd
   have h2:((jU g.m).length:Int)=g.m.w*g.m.h:=by rw[<-hm.len];simp[jU]
   have h3:=mV ⟨hm.w,hm.h⟩;unfold bW at hno;omega
  have skip:∀(w:World),(∀k,SN g.m t y k->fC ds y<=k\/AO<=k)->Sep No w0 w (ak na nn nc 3 1 (flat one (aW g.m (cS g.m t)))::fQ fu vI mb dm::seL hp ha hc es rr t g.ep ds)->
    jd Q (n+1) (sZ fp) (aZ rr.p) (sZ hp) (some mb) na nn nc nn ((i:Int)+1) w:=λw hy s=>by
   refine ih (i+1) es ds ha hc w (by omega) J (λz k hz hzm=>?_) s;rw[yc]at hzm;rcases List.mem_append.1 hzm with h1|h1
   ·exact hs z k hz h1
   ·rw[List.mem_singleton]at h1;subst h1;exact hy k hz
  refine Ez (K:=fu) alS (ab1 w) s (i:=1) rfl hnd (akJ J5) (λhx=>?_) λd hx=>?_
  ·refine skip w (λk hk=>?_) s;rw[hx]at Yn;rw[if_pos (only k hk).2]at Yn;cases Yn
  ·rw[hx]at Yn;have hlt:gL (gB g.m t) (A8 g.m t) y<bW:=by refine Classical.byContradiction λhno=>?_;rw[if_neg hno]at Yn;cases Yn
   rw[if_pos hlt]at Yn;obtain rfl:d=gL (gB g.m t) (A8 g.m t) y:=Option.some.inj Yn;obtain⟨hd0,hd1⟩:=hi2 hlt;have s2:=pk 99 [2,3,0,1] s;refine LD s2 Tj ⟨hd0,by omega⟩ (λhno=>?_) λhyes w s=>?_
   ·refine skip w (λk hk=>.inl ?_) s;rw[(only k hk).1,SL Tj];exact hno
   ·refine Hp.Bs s (i:=1) rfl (by omega) λw Tr US QX hp2 s=>?_;have hsrc:SN g.m t y (gL (gB g.m t) (A8 g.m t) y):=⟨hyn,hys,by refine Classical.byContradiction λhno=>?_;have:gL (gB g.m t) (A8 g.m t) y=bW:=xI λd hd=>hno ⟨d,hd⟩;omega,rfl⟩
    have J2:=J.agF hyn J5 ⟨hd0,hyes⟩ (.src hsrc) hp2 (λ_ _ _ h=>h.elim) (λ_ _ _ h _=>h) λ_ _ h=>h;have ZO:=aio (k:=gL (gB g.m t) (A8 g.m t) y) Tj;refine ih (i+1) QX _ Tr US w (by omega) J2 (λz k hz hzm=>?_) (pk 99 [2,3,0,1] s);rw[ZO];by_cases ez:z=y
    ·subst ez;rw[if_pos rfl,(only k hz).1];exact .inl (Int.le_refl _)
    ·rw[if_neg ez];rw[yc]at hzm;rcases List.mem_append.1 hzm with h1|h1
     ·exact hs z k hz h1
     ·rw[List.mem_singleton]at h1;exact(ez h1).elim
def as4 {b:Nat}{v:Int}(s:Sep F W w (av b 21 [.int .i32 v]::L)):Sl w (sZ b) 1 1 1 oW [v]:=
 aO (g9 s (i:=0) rfl rfl (by decide) (λu hu=>by rw[List.mem_singleton]at hu;rw[hu];rfl)) (i:=0) rfl vq (by decide)
def aiy {Q:Option Addr->World->Prop}(s0:Sep F W w L)(hF:rS w fp (.pointer (sZ r.p)::.pointer (sZ gr.p)::vs))(k:Ey w r gr.p x)(kg:nB w gr g)(I:yw g x)(hf:Nx g x)(ht:bK g.m.w g.m.h t)(v7:g.m.w*g.m.h<=1600)
  (h:∀rr ds w',H_ g.m t ds->Sep F W w' (D_ rr ⟨t,g.ep,ds⟩::L)->Fr No w w'->Q (sZ rr.p) w'):tW (sZ fp) t w Q:=by
 apply Kk;have hm:=kg.ok.may;have hN:=mV ⟨hm.w,hm.h⟩;refine ah (dO (hF 1 _ rfl) ?_);refine jo (bh (F:=No)) kg λw1 s _=>?_;refine ah (dO ((hF.fr (au s)) 1 _ rfl) (qY (kg.fr (au s)) ?_));refine aN s λib w1 s=>?_;rw[aG,show g.m.w*g.m.h=(((g.m.w*g.m.h).toNat:Nat):Int) by omega];refine ad6 s (as4 s) (by omega) λda w1 s _=>?_;refine aN s λrb w1 s=>?_;have alU:=aos (t:=t) hm;have hMb:(g.m.w*g.m.h).toNat*2147483647<4000000000000:=by omega
 generalize hMe:(g.m.w*g.m.h).toNat*2147483647=M at alU hMb;have s1:=pk 99 [0,1] s;have s1:Sep No w w1 [D_ ⟨rb,da,(g.m.w*g.m.h).toNat,(g.m.w*g.m.h).toNat⟩ ⟨t,g.ep,List.replicate (g.m.w*g.m.h).toNat AO⟩]:=Yj s1 alU.jC;refine Hp.QW s1 λhp w1 s=>?_;refine air s (hF.fr (au s)) (kg.fr (au s)) ht λmb dm w1 hnd hin s _=>?_;have s:=ay s;have hc0:∀{w':World} {L':List As},Sep No w w' L'->w'.cell? (aZ fp)=some (.pointer (sZ r.p)):=λs=>by have:=(hF.fr (au s)) 0 _ rfl;exact this
 refine ah (dO (hc0 s) ?_);refine eZ s λw1 s _=>⟨hc0 s,?_⟩;have hs0:=bS ht;have hps:x.ps[(aC g.m.w g.m.h t).toNat]? =some (x.ps[(aC g.m.w g.m.h t).toNat]'(by have:=I.len;have:=hs0.2;omega)):=List.getElem?_eq_getElem _;generalize x.ps[(aC g.m.w g.m.h t).toNat]'(by grind)=q at hps;have hc:=(HX I hf hps).1;rw[Int.toNat_of_nonneg hs0.2.1]at hc;have oX:=zM hs0;rw[show aC g.m.w g.m.h t=(((aC g.m.w g.m.h t).toNat:Nat):Int)from(Int.toNat_of_nonneg hs0.2.1).symm];refine ZX s (k.fr (au s)) hps (by grind) λna nn nc w1 s _=>?_;rw[hc]at s;refine⟨nn+1,aix (rr:=⟨rb,da,(g.m.w*g.m.h).toNat,(g.m.w*g.m.h).toNat⟩) hF k kg I hf hMb ht hnd hin (λha hc ds w' hok s'=>h _ ds w' hok (dD s0 s' (i:=0) rfl) (au s')) nn 0 [] (List.replicate (g.m.w*g.m.h).toNat AO) none 0 w1 (by omega) alU (λx k _ h=>by simp at h) ?_⟩;exact pk 99 [0,1,3,2] s
end
end Go.Proofs.YtmegplnmiepfbaaGreatDoor.S
namespace Go.Proofs.YtmegplnmiepfbaaGreatDoor.S
open Go.Sx
def isS {p:Addr}{A B:Prop}(h:A):cond (!(some p).isNone) A B:=h
attribute [local irreducible] af cA bw bg aA cq bY St Bx Al App cD cy cw bT aL bC aq bR av ak aV mapA
structure GM where
 kept:Option (xz×Gz)
 fH:Int
def arS (k:Option (xz×Gz)):Option Addr:=k.map λq=>(aZ q.1.p)
def alV (mp gp:Nat)(f:GM):List Value:=[.pointer (sZ mp),.pointer (sZ gp),.pointer (arS f.kept),.int .u64 f.fH]
def aou (k:Option (xz×Gz)):List As:=match k with
 |some q=>[D_ q.1 q.2]
 |none=>[]
def ab3 (fp mp gp:Nat)(f:GM):List As:=av fp 197 (alV mp gp f)::aou f.kept
def uE (fp mp gp:Nat)(f:GM):As:=aV True (ab3 fp mp gp f)
structure ab4 (g:gW) (f:GM):Prop where
 kept:∀q,f.kept=some q->q.2.ep<=g.ep/\(q.2.ep=g.ep->bK g.m.w g.m.h q.2.goal/\H_ g.m q.2.goal q.2.ds)
 u:Ta.U f.fH
def NH (f:GM):Option (Int×Int):=f.kept.map λq=>(q.2.goal,q.2.ep)
section
variable {F:Nat->Prop}{W w w0:World}{L:List As}{fp:Nat}{rr:xz}{r:Bq}{x:nD}{gr:uz}{g:gW}{t:Int}{f:GM}{mp gp:Nat}
def NI (s:Sep F W w (uE fp mp gp f::L)):Sep F W w (ab3 fp mp gp f++L):=(gP s).2
def SM (s:Sep F W w (ab3 fp mp gp f++L)):Sep F W w (uE fp mp gp f::L):=dA s trivial
def ab5 {Q:Option Addr->World->Prop}(s:Sep F W w L)(h:∀fp w',Sep F W w' (uE fp mp gp ⟨none,0⟩::L)->Fr No w w'->Q (sZ fp) w'):Ga (sZ mp) (sZ gp) w Q:=by apply aa6;refine ld (ld ?_);refine aN (bh (F:=No)) λfb w1 s1=>?_;have s2:Sep No w w1 [uE fb mp gp ⟨none,0⟩]:=SM s1;exact h fb w1 (dD s s2 (i:=0) rfl) (au s2)
def NJ (s:Sep F W w (uE fp mp gp f::L)):rS w fp (alV mp gp f):=by have s:=NI s;exact lj s (i:=0) rfl
def afg {q:xz×Gz}(s:Sep F W w (uE fp mp gp f::L))(h:f.kept=some q):GA w q.1 q.2:=by have s:=NI s;unfold ab3 aou at s;rw[h]at s;exact Sr (ai s)
def Wk {Q:Int->World->Prop}(k:rS w fp (alV mp gp f))(h:Q f.fH w):pz (sZ fp) w Q:=by apply B0;exact ld (ah (aR (k 3 _ rfl) h))
def Wl {Q:Int->World->Prop}(h:Q 0 w):pz Option.none w Q:=B0 _ _ _ h
def X2 {Q:World->Prop}(s:Sep F W w (uE fp mp gp f::L))(h:∀w',Sep F W w' (uE fp mp gp ⟨none,f.fH⟩::L)->Q w'):qq (sZ fp) w Q:=by apply Di;have s:=NI s;have s:=s;refine isS (ah (sT s 0 rfl λw s=>?_));refine h w (SM ?_);apply gF s;exact List.Sublist.cons_cons _ (List.sublist_append_right _ _)
def X3 {Q:Option Addr->World->Prop}(s:Sep F W w (nV gr g::uA r gr.p x::uE fp r.p gr.p f::L))(I:yw g x)(J:ab4 g f)(ht:bK g.m.w g.m.h t)(v7:g.m.w*g.m.h<=1600)
  (h:∀(x':nD) rr ds w',yw g x'->Nx g x'->x'.clean=g.ep->x'.fH=LP (kB g x x.ps.length).length x.fH->H_ g.m t ds->
   Sep F W w' (nV gr g::uA r gr.p x'::uE fp r.p gr.p ⟨some (rr,⟨t,g.ep,ds⟩),if NH f=some (t,g.ep)then f.fH else Ta.sat f.fH 1⟩::L)->Q (sZ rr.p) w'):wu (sZ fp) t w Q:=by
 apply MJ;have kg:=oN s;have hm:=kg.ok.may;have kf:=NJ (ai (ai s));have arw:=LI hm ht;refine ld (ah (dO (kf 1 _ rfl) (jn kg ?_)));rw[cQ (by omega),cond_false];refine ah (dO (by have:=kf 0 _ rfl;rw[add_zero]at this;exact this) ?_);refine Wd s I λx' w1 I' hfr x9 V7 s=>?_;have s:=ay s;have kg:=oN s;have kf:=NJ (ai (ai s));have b5:∀(w2:World),NH f≠some (t,g.ep)->Sep F W w2 (nV gr g::uA r gr.p x'::uE fp r.p gr.p f::L)->oB Q (sZ fp) t w2:=λw2 hne s=>by refine aiy s (NJ (ai (ai s))) (Wa (ai s)) (oN s) I' hfr ht v7 λrr ds w3 hok s _=>?_;have s1:=cg s (L':=uE fp r.p gr.p f::D_ rr ⟨t,g.ep,ds⟩::nV gr g::uA r gr.p x'::L) (List.perm_middle (l₁:=[_,_,_]));have s1:=NI s1;have s1:=s1;refine ah (sT s1 0 rfl λw3 s=>?_);refine ah (lI s 0 rfl ?_);apply Ta.Bp J.u (by unfold Ta.U;omega);refine ah (ax s (i:=0) rfl rfl rfl λw3 s=>?_);refine ah (lP s 0 rfl ?_);apply h x' rr ds w3 I' hfr x9 V7 hok;rw[if_neg hne];have s2:=gF s (List.Sublist.cons_cons _ (List.sublist_append_right _ _));exact cg (SM s2) (L':=nV gr g::uA r gr.p x'::uE fp r.p gr.p _::L) (List.perm_middle (l₁:=[_,_])).symm
 refine ah (dO (kf 2 _ rfl) ?_);cases hk:f.kept with
 |none=>
  show cond true _ _;refine b5 _ ?_ s;unfold NH;grind
 |some q=>
  obtain⟨rr0,t0⟩:=q;have hP:arS (some (rr0,t0))=sZ rr0.p:=rfl;apply ld;have kr:=afg (ai (ai s)) hk;have hcell:w1.drew.cell? ((aZ fp).add 2)=some (.pointer (sZ rr0.p)):=by have:=kf 2 _ rfl;grind
  refine ah (dO hcell (ah (aR (by have:=kr.cell 0 _ rfl;rw[add_zero]at this;exact this) ?_)));have hkg:NH f=some (t0.goal,t0.ep):=by unfold NH;rw[hk];rfl
  by_cases hg:t0.goal=t
  ·rw[show(t0.goal !=t)=false by grind,cond_false];refine ah (dO hcell (ah (aR (kr.cell 1 _ rfl) ?_)));refine ah (dO (kf 1 _ rfl) (qY kg ⟨kr.cell 1 _ rfl,hcell,?_⟩));by_cases he:t0.ep=g.ep
   ·rw[show(t0.ep !=g.ep)=false by grind,cond_false];refine ah (dO hcell ?_);have hq:=(J.kept _ hk).2 he;rw[hg]at hq;apply h x' rr0 t0.ds _ I' hfr x9 V7 hq.2;have e:f=⟨some (rr0,⟨t,g.ep,t0.ds⟩),f.fH⟩:=by
     cases f with
     |mk kept fH=>
      simp only at hk;rw[hk,<-hg,<-he]
    grind
   grind
  grind
end
end Go.Proofs.YtmegplnmiepfbaaGreatDoor.S
namespace Go.Proofs.YtmegplnmiepfbaaGreatDoor.S
open Go.Sx
attribute [local irreducible] af cA bw bg aA cq bY St Bx Al App cD cy cw bT aL bC aq bR av ak aV mapA
section
variable {m:bJ}{t sc c:Int}{ds:List Int}
def alX (hm:cR m){e:Int×Int}(h:e∈vo m c):oe m e.1/\bK m.w m.h e.1/\oe m c/\bK m.w m.h c/\0<e.2/\e.2<255:=by obtain⟨ho,s,hs,h1,h2,rfl⟩:=V0.1 h;obtain⟨h3,h4⟩:=Cm h1;have hst:fU m c (gK m.w m.h c s) (cT m (gK m.w m.h c s)):=⟨ho,h2,⟨s,hs,h3.symm⟩,rfl⟩;have hne:cS m c≠cS m (gK m.w m.h c s):=λe=>h4 (by rw[<-h3];exact e.symm);have hn:=rB hm _ _ _ hst hne;exact⟨hn.2,jT hm h2,hn.1,jT hm ho,Cj h2⟩
def Kw {at_:Int->Int}:(Iv m at_ c).Pairwise (λa b=>a.s<b.s)/\∀x∈Iv m at_ c,x.c=dY m.w m.h c/\0<=x.s/\x.s<=3/\ff m c=true:=by
 unfold Iv vo;split
 ·rw[Gx,List.filterMap_filterMap];have side:∀(a:Nat),a<4->∀x,(FC m c a).bind (λe=>if at_ e.1=bW then none else some (⟨dY m.w m.h c,Ag m.w m.h c e.1,e.2+at_ e.1⟩:bj))=some x->x.s=a/\x.c=dY m.w m.h c:=λa ha x h=>by
   unfold FC at h;split at h
   ·rename_i h4;simp only[Option.bind_some]at h;split at h
    ·cases h
    ·cases h;obtain⟨h5,_⟩:=Cm h4.1;refine⟨?_,rfl⟩;rw[h5];exact VZ ⟨by omega,by omega⟩ (by grind)
   ·simp at h
  constructor
  ·rw[List.pairwise_filterMap];refine List.Pairwise.imp_of_mem ?_ List.pairwise_lt_range;grind
  grind
 simp_all
def aox {at_:Int->Int}:(Iv m at_ c).length<=4:=by
 unfold Iv vo;split
 ·unfold Gx;grind
 ·simp
def aiz {α β:Type}{f:α->List β}{k:Nat}:∀{l:List α},(∀a∈l,(f a).length<=k)->(l.flatMap f).length<=l.length*k
 |[],_=>by simp
 |a::l,h=>by have h1:=h a (by simp);have h2:=aiz (l:=l) λb hb=>h b (by simp[hb]);rw[List.flatMap_cons,List.length_append,List.length_cons,Nat.add_mul,Nat.one_mul];omega
def Wm {at_:Int->Int}(hs:dX m.w m.h sc):(E2 m at_ t sc).Nodup/\(E2 m at_ t sc).length<=1025:=by
 have oX:=zM hs;constructor
 ·rw[E2,List.nodup_append];refine⟨?_,by grind,?_⟩
  ·show List.Pairwise _ _;rw[List.pairwise_flatMap];refine⟨λc _=>List.Pairwise.imp (λh e=>by grind) Kw.1,?_⟩;refine List.Pairwise.imp_of_mem ?_ (ajQ hs);intro c c' hc Ba hne x hx y hy e;have h1:=(Kw.2 x hx).1;have h2:=(Kw.2 y hy).1;obtain⟨_,c1,c2⟩:=mF hs hc;obtain⟨_,c3,c4⟩:=mF hs Ba;have g1:=nT c1;have g2:=nT c3;grind
  ·intro x hx y hy e;obtain⟨c,hc,hx⟩:=List.mem_flatMap.1 hx;have h1:=(Kw.2 x hx).2;grind
 ·unfold E2;have h1:=aiz (f:=Iv m at_) (l:=aW m sc) λc _=>aox;grind
end
section
variable {F:Nat->Prop}{W w w0:World}{L:List As}{rr:xz}{gr:uz}{g:gW}{t sc:Int}{ds:List Int}{a:Option Addr}{n c:Nat}{es:List bj}
def auZ {x:bj}{K:Option Addr->Nat->Nat->World->Prop}(s:Sep F W w (ak a n c 294 3 (flat fT es)::L))(hn:n<=1000000000)
  (k:∀a' c' w',Sep F W w' (ak a' (n+1) c' 294 3 (flat fT (es++[x]))::L)->K a' (n+1) c' w'):Bx [ae x.c,ae x.s,ae x.k] 294 w λp w1=>App P #[278,278] 278 (.slice a n c) (.slice (some p) 1 1) w1 K:=by
 refine aN s λb w s=>?_;have src:Src w (sZ b) 1 3 (fT x):=⟨rfl,VT x,λj u hj=>by rw[cm,Nat.zero_add];exact cK s (i:=0) rfl rfl hj⟩;refine iw ef s (i:=1) (bytes:=24) rfl rfl rfl rfl rfl rfl (by decide) rfl src (by simp[maxLen];omega) (by omega) (λe=>by cases e) λa1 c1 w1 s1=>?_;have e:flat fT es++fT x=flat fT (es++[x]):=by rw[fZ];simp[flat]
 rw[e]at s1;exact k _ _ _ (ai s1)
def Wn {Q:Option Addr->Nat->Nat->World->Prop}(s0:Sep F W w L)(kg:nB w gr g)(kr:GA w rr ⟨t,g.ep,ds⟩)(hok:H_ g.m t ds)(ht:bK g.m.w g.m.h t)(hs:dX g.m.w g.m.h sc)
  (h:∀ra rn rc w',Sep F W w' (ak ra rn rc 294 3 (flat fT (Nn (E2 g.m (D g.m t) t sc)))::L)->Fr No w w'->Q ra rn rc w'):BU (sZ gr.p) (sZ rr.p) sc w Q:=by
 apply Vu;have hm:=kg.ok.may;have oX:=zM hs;obtain⟨hnd,hlen⟩:=Wm hs;have hN:=mV ⟨hm.w,hm.h⟩;refine jo (bh (F:=No)) kg λw1 s _=>?_;apply ld;refine XY (kr.fr (au s)) (qY (kg.fr (au s)) ?_);rw[bne_self_eq_false,cond_false];refine xy s (kg.fr (au s)) hs λna nn nc w1 s _=>?_;have hnl:=(aO s (i:=0) rfl cB (by decide)).len;have fin:∀(oa:Option Addr) (on oc:Nat) (w2:World),Sep No w w2 [ak oa on oc 294 3 (flat fT (E2 g.m (D g.m t) t sc))]->kC oa on oc w2 λra rn rc w3=>Q ra rn rc w3:=λoa on oc w2 s=>by have hS:=aO s (i:=0) rfl nC (by decide);have:=hS.len;refine Am s hS (by omega) hnd λra rc w3 s _=>?_;exact h ra on rc w3 (dD s0 s (i:=0) rfl) (au s)
 have nodes:∀(k i:Nat) (oa:Option Addr) (on oc:Nat) (w2:World),i+k=nn->on<=4*i->Sep No w w2 [ak oa on oc 294 3 (flat fT (((aW g.m sc).take i).flatMap (Iv g.m (D g.m t)))),ak na nn nc 3 1 (flat one (aW g.m sc))]->
   n9 Q (k+1) (sZ gr.p) (sZ rr.p) sc g.m.w g.m.h oa on oc na nn nc nn i w2:=by
  intro k;induction k with
  |zero=>
   intro i oa on oc w2 hi ho s;show vi Q (n9 Q 0) _ _ _ _ _ _ _ _ _ _ _ _ _ _;rw[vi,bp];rw[List.take_of_length_le (by omega)]at s;apply ZI (kr.fr (au s));refine eZ s λw2 s _=>?_;unfold E2 at fin;by_cases SE:aC g.m.w g.m.h t=sc
   ·rw[eC SE,cond_true];apply jn (kg.fr (au s));by_cases hw:cT g.m t=255
    ·rw[hw,bne_self_eq_false,cond_false];rw[if_neg λe=>e.2 hw,List.append_nil]at fin;exact fin oa on oc w2 (pk 99 [0] s)
    ·rw[show(cT g.m t !=255)=true by grind,cond_true];rw[if_pos ⟨SE,hw⟩]at fin;refine tC s λw2 s _=>?_;refine auZ (x:=⟨dY g.m.w g.m.h t,4,0⟩) s (by omega) λoa oc w2 s=>?_;exact fin oa _ oc w2 (pk 99 [0] s)
   ·rw[cQ SE,cond_false];rw[if_neg λe=>SE e.1,List.append_nil]at fin;exact fin oa on oc w2 (pk 99 [0] s)
  |succ k ih=>
   intro i oa on oc w2 hi ho s;show vi Q (n9 Q (k+1)) _ _ _ _ _ _ _ _ _ _ _ _ _ _;rw[vi,bN];apply(aO s (i:=1) rfl cB (by decide)).rG rfl (by omega);have yc:(aW g.m sc).take (i+1)=(aW g.m sc).take i++[gi (aW g.m sc) i]:=by rw[List.take_add_one,iD (by omega)];rfl
   generalize gi (aW g.m sc) i=c at yc⊢;refine VS s (kg.fr (au s)) λea en ec w2 s _=>?_;have x9:=(aO s (i:=0) rfl QD (by decide)).len;have hc4:(vo g.m c).length<=4:=by
    unfold vo;split
    ·exact Nat.le_trans (List.length_filterMap_le _ _) (by simp)
    ·simp
   have wR:∀(k2 j:Nat) (oa:Option Addr) (on oc:Nat) (w2:World),j+k2=en->on<=4*i+j->Sep No w w2 [ak oa on oc 294 3 (flat fT (((aW g.m sc).take i).flatMap (Iv g.m (D g.m t))++((vo g.m c).take j).filterMap λe=>if D g.m t e.1=bW then none else some ⟨dY g.m.w g.m.h c,Ag g.m.w g.m.h c e.1,e.2+D g.m t e.1⟩)),ak ea en ec 292 2 (flat Dp (vo g.m c)),ak na nn nc 3 1 (flat one (aW g.m sc))]->
     qT (n9 Q (k+1)) Q (k2+1) (sZ gr.p) (sZ rr.p) sc g.m.w g.m.h oa on oc c na nn nc nn i ea en ec en j w2:=by
    intro k2;induction k2 with
    |zero=>
     intro j oa on oc w2 hj ho s;show vh _ Q (qT _ Q 0) _ _ _ _ _ _ _ _ _ _ _ _ _ _ _ _ _ _ _ _;rw[vh,bp,aG];rw[List.take_of_length_le (l:=vo g.m c) (by omega)]at s;apply ih (i+1) oa on oc w2 (by omega) (by omega);rw[yc,List.flatMap_append,List.flatMap_singleton];exact pk 99 [0,2] s
    |succ k2 ih2=>
     intro j oa on oc w2 hj ho s;show vh _ Q (qT _ Q (k2+1)) _ _ _ _ _ _ _ _ _ _ _ _ _ _ _ _ _ _ _ _;rw[vh,bN,aG];refine(aO s (i:=1) rfl QD (by decide)).El rfl (by omega) λp e he ahX=>?_;have au0:=QU (f:=λe:Int×Int=>if D g.m t e.1=bW then none else some (⟨dY g.m.w g.m.h c,Ag g.m.w g.m.h c e.1,e.2+D g.m t e.1⟩:bj)) he;obtain⟨h1,h2,h3,h4,h5,h6⟩:=alX hm (List.mem_of_getElem? he);have II:=hok.2 _ h1 h2;refine aR (ahX 0 _ rfl) (aR (ahX 1 _ rfl) ?_);refine aS s λeb w2 s=>?_;refine sT s 0 rfl λw2 s=>?_;refine ax s (i:=0) rfl rfl rfl λw2 s=>?_;apply lI s 0 rfl;apply adI (kr.fr (au s));rw[II];by_cases hI:D g.m t e.1=bW
     ·have Wc:D g.m t e.1=1099511627776:=hI;rw[Wc,bne_self_eq_false,cond_false];apply ih2 (j+1) oa on oc w2 (by omega) (by omega);rw[au0,if_pos hI];show Sep No w w2 [ak oa on oc 294 3 (flat fT (_++(_++[]))),_,_];rw[List.append_nil];exact ai s
     ·have Wc:D g.m t e.1≠1099511627776:=hI;rw[show(D g.m t e.1 !=1099511627776)=true by rw[bne_iff_ne];exact Wc,cond_true];have hDl:D g.m t e.1<bW:=by
       by_cases q:∃d,Wy (gB g.m t) (fU g.m) e.1 d
       ·exact(GD hm).2 q
       ·exact(hI (abx q)).elim
      obtain⟨d,hd⟩:=(GD hm).1 hDl;have hDb:=ah1 hm hd;have s:=ay s;refine lI s 0 rfl (lI s 0 rfl ?_);refine tC s λw2 s _=>?_;refine⟨cj s 0 rfl,cj s 0 rfl,?_⟩;refine ZB s λw2 s _=>⟨cj s 0 rfl,?_⟩;rw[aG];refine auZ (x:=⟨dY g.m.w g.m.h c,Ag g.m.w g.m.h c e.1,e.2+D g.m t e.1⟩) (ai s) (by omega) λoa oc w2 s=>?_;apply ih2 (j+1) oa (on+1) oc w2 (by omega) (by omega);rw[au0,if_neg hI,<-List.append_assoc];exact s
   have s':Sep No w w2 [ak oa on oc 294 3 (flat fT (((aW g.m sc).take i).flatMap (Iv g.m (D g.m t))++((vo g.m c).take 0).filterMap λe=>if D g.m t e.1=bW then none else some ⟨dY g.m.w g.m.h c,Ag g.m.w g.m.h c e.1,e.2+D g.m t e.1⟩)),ak ea en ec 292 2 (flat Dp (vo g.m c)),ak na nn nc 3 1 (flat one (aW g.m sc))]:=by rw[List.take_zero,List.filterMap_nil,List.append_nil];exact pk 99 [1,0,2] s
   exact⟨en+1,wR en 0 oa on oc w2 (by omega) (by omega) s'⟩
 exact⟨nn+1,nodes nn 0 none 0 0 w1 (by omega) (by omega) (bD s 294 3)⟩
end
structure zz where
 e9:Int
 sa:Option Addr
 sn:Nat
 sc:Nat
 da:Option Addr
 dn:Nat
 dc:Nat
 ra:Option Addr
 rn:Nat
 rc:Nat
 iQ:List bj
 ds:List Int
 rs:List Int
def E8 (x:zz):List Value:=[ae x.e9,.slice x.sa x.sn x.sc,.slice x.da x.dn x.dc,.slice x.ra x.rn x.rc]
def x6 (x:zz):(E8 x).length=4:=rfl
def aqy (x:zz)(u:Value)(h:u∈E8 x):u.oneCell'=true:=by unfold E8 at h;simp[List.mem_cons,List.not_mem_nil,or_false]at h;rcases h with rfl|rfl|rfl|rfl<;>rfl
noncomputable def GN (x:zz):As:=aV True [ak x.sa x.sn x.sc 294 3 (flat fT x.iQ),ak x.da x.dn x.dc 3 1 (flat one x.ds),ak x.ra x.rn x.rc 3 1 (flat one x.rs)]
def IA:zz:=⟨0,none,0,0,none,0,0,none,0,0,[],[],[]⟩
structure Wo where
 p:Nat
 lp:Nat
 lr:Lr.adY
 a:Option Addr
 n:Nat
 c:Nat
structure AP where
 l:Lr.KS
 es:List zz
 b:Int
 h:Int
 st:Int
 ev:Int
def GO (r:Wo)(x:AP):List Value:=[.pointer (sZ r.lp),.slice r.a r.n r.c,.int .u64 0,.int .u64 0,.int .u64 x.b,.int .u64 x.h,.int .u64 x.st,.int .u64 x.ev]
noncomputable def Xa (r:Wo)(k:Int)(x:AP):List As:=av r.p 135 (GO r x)::Lr.HZ r.lp k x.l r.lr::ak r.a r.n r.c 303 4 (flat E8 x.es)::x.es.map GN
noncomputable def jV (r:Wo)(k:Int)(x:AP):As:=aV True (Xa r k x)
section
variable {F:Nat->Prop}{W w w0:World}{L:List As}{r:Wo}{k:Int}{x:AP}{tw th:Int}{ca la:Option Addr}{cn cc ln lc:Nat}{cs:List Int}{xs:List bj}
def gf {A B T:List As}(is:List Nat)(s:Sep F W w (A++T))(h:is.map (λi=>A[i]?)=B.map some)(hn:is.Nodup):Sep F W w (B++T):=by
 have s1:=dA (cg s List.perm_append_comm) trivial;have s2:Sep F W w (aV True T::B):=by
  refine b_ (0::is.map (·+1)) s1 ?_ ?_
  ·rw[List.map_cons,List.map_cons,List.map_map];congr 1
  grind
 exact cg (gP s2).2 List.perm_append_comm
def alY {Z T:List As}{a b:As}(h:T=a::b::(Z++L)):T.Perm (Z++a::b::L):=by subst h;exact(List.Perm.cons _ List.perm_middle.symm).trans List.perm_middle.symm
def ab6 (s:Sep F W w (jV r k x::L)):Sep F W w (Xa r k x++L):=(gP s).2
def IB (s:Sep F W w (Xa r k x++L)):Sep F W w (jV r k x::L):=dA s trivial
def aqz {q:zz}{i:Nat}(s:Sep F W w L)(hi:L[i]? =some (GN q)):Sl w q.sa q.sn q.sc 3 fT q.iQ/\Sl w q.da q.dn q.dc 1 one q.ds/\Sl w q.ra q.rn q.rc 1 one q.rs:=by have s':=IL s hi;exact⟨aO s' (i:=0) rfl nC (by decide),aO s' (i:=1) rfl cB (by decide),aO s' (i:=2) rfl cB (by decide)⟩
def Bt {Q:World->Prop}{p i j:Nat}{t:TypeId}{cs:List Value}{v:Int}(s:Sep F W w L)(hi:L[i]? =some (av p t cs))(hj:cs[j]? =some (.int .u64 v))(hu:Ta.U v)
  (h:∀w',Sep F W w' (L.set i (av p t (cs.set j (.int .u64 (Ta.sat v 1)))))->Q w'):r_ (some ⟨p,j,none⟩) w Q:=by
 apply abg;refine ah (dw s rfl hi hj ?_);apply Ta.Bp hu (by unfold Ta.U;omega);refine ah (ax s rfl hi ?_ λw' s'=>h w' s');rw[Nat.blt_eq];grind
def NK {Q:Option Addr->Nat->Nat->Option Addr->Nat->Nat->World->Prop}{da ra:Option Addr}{dn dc rn rc:Nat}{ds rs:List Int}(s0:Sep F W w L)(hD:Sl w da dn dc 1 one ds)(hR:Sl w ra rn rc 1 one rs)(hn:dn<=1000000)(hm:rn<=1000000)
  (h:∀LQ LR ra' rc' w',Sep F W w' (ak ra' rn rc' 3 1 (flat one rs)::ak LQ dn LR 3 1 (flat one ds)::L)->Fr No w w'->Q LQ dn LR ra' rn rc' w'):Bf da dn dc ra rn rc w Q:=by
 apply abh;refine aN (bh (F:=No)) λfb w1 s=>?_;refine aS s λrb w1 s=>?_;have s:=ay s;refine lS s 1 rfl (lS s 1 rfl ?_);refine LA s (hD.fr (au s)) (by omega) λLQ LR w1 s _=>⟨cj s 2 rfl,?_⟩;refine LA s (hR.fr (au s)) (by omega) λra' rc' w1 s _=>?_;refine sT s 2 rfl λw1 s=>?_;refine ax s (i:=2) rfl rfl rfl λw1 s=>?_;refine lS s 2 rfl (lS s 2 rfl ?_);have s':Sep No w w1 [ak ra' rn rc' 3 1 (flat one rs),ak LQ dn LR 3 1 (flat one ds)]:=pk 99 [0,1] s;exact h LQ LR ra' rc' w1 (fy s0 s') (au s')
def WrE {n c i:Nat}{es:List zz}{j:Nat}{q:zz}{g o:Nat}{K:World->Prop}(s:Sep F W w L)(hi:L[i]? =some (ak (some ⟨g,o,none⟩) n c 303 4 (flat E8 es)))(hn:j<es.length)(h:∀w',Sep F W w' (L.set i (ak (some ⟨g,o,none⟩) n c 303 4 (flat E8 (es.set j q))))->K w'):
  St ((⟨g,o+j*4,none⟩:Addr).add 0) (ae q.e9) w λw=>St ((⟨g,o+j*4,none⟩:Addr).add 1) (.slice q.sa q.sn q.sc) w λw=>St ((⟨g,o+j*4,none⟩:Addr).add 2) (.slice q.da q.dn q.dc) w λw=>St ((⟨g,o+j*4,none⟩:Addr).add 3) (.slice q.ra q.rn q.rc) w λw=>K w:=by
 have hg:=List.getElem?_eq_getElem hn;generalize es[j]=e0 at hg;have ad:∀i,((⟨g,o+j*4,none⟩:Addr).add i)=⟨g,o+(j*4+i),none⟩:=λi=>by rw[cm,Nat.add_assoc]
 have IK:=(List.getElem?_eq_some_iff.1 hi).1;refine dW (x':=⟨q.e9,e0.sa,e0.sn,e0.sc,e0.da,e0.dn,e0.dc,e0.ra,e0.rn,e0.rc,e0.iQ,e0.ds,e0.rs⟩) x6 s hi hg (ad 0) (by decide) rfl rfl λw s=>?_;refine dW (x:=⟨q.e9,e0.sa,e0.sn,e0.sc,e0.da,e0.dn,e0.dc,e0.ra,e0.rn,e0.rc,e0.iQ,e0.ds,e0.rs⟩) (x':=⟨q.e9,q.sa,q.sn,q.sc,e0.da,e0.dn,e0.dc,e0.ra,e0.rn,e0.rc,e0.iQ,e0.ds,e0.rs⟩) x6 s (by rw[List.getElem?_set_self IK]) (by grind) (ad 1) (by decide) rfl rfl λw s=>?_;rw[List.set_set,List.set_set]at s;refine dW (x:=⟨q.e9,q.sa,q.sn,q.sc,e0.da,e0.dn,e0.dc,e0.ra,e0.rn,e0.rc,e0.iQ,e0.ds,e0.rs⟩) (x':=⟨q.e9,q.sa,q.sn,q.sc,q.da,q.dn,q.dc,e0.ra,e0.rn,e0.rc,e0.iQ,e0.ds,e0.rs⟩) x6 s (by rw[List.getElem?_set_self IK]) (by grind) (ad 2) (by decide) rfl rfl λw s=>?_;rw[List.set_set,List.set_set]at s;refine dW (x:=⟨q.e9,q.sa,q.sn,q.sc,q.da,q.dn,q.dc,e0.ra,e0.rn,e0.rc,e0.iQ,e0.ds,e0.rs⟩) (x':=q) x6 s (by rw[List.getElem?_set_self IK]) (by grind) (ad 3) (by decide) rfl rfl λw s=>?_;simp_all
structure ShU (x:AP):Prop where
 b:Ta.U x.b
 h:Ta.U x.h
 st:Ta.U x.st
 ev:Ta.U x.ev
end
structure Cr where
 e9:Int
 iQ:List bj
 ds:List Int
 rs:List Int
def zz.p (q:zz):Cr:=⟨q.e9,q.iQ,q.ds,q.rs⟩
structure QZ where
 l:Lr.KS
 es:List Cr
 b:Int
 h:Int
 st:Int
 ev:Int
def AP.p (x:AP):QZ:=⟨x.l,x.es.map zz.p,x.b,x.h,x.st,x.ev⟩
def bump (c:Bool)(v:Int):Int:=if c=true then Ta.sat v 1 else v
def Z_:Cr:=⟨0,[],[],[]⟩
def Wp (es:List Cr)(slot:Nat)(had:Bool)(e9:Int)(xs:List bj):Bool:=had&&(match es[slot]? with|some q=>q.e9==e9&&decide (q.iQ=xs)|none=>false)
def nR (k:Int)(y:QZ)(key:Int×Int)(q:Cr):QZ:=
 let u:=Lr.kJ k y.l key;let Yw:=if u.1.1=(y.es.length:Int)then y.es++[Z_]else y.es
 if Wp Yw u.1.1.toNat u.1.2.1 q.e9 q.iQ=true then⟨u.2,Yw,y.b,Ta.sat y.h 1,y.st,y.ev⟩
 else⟨u.2,Yw.set u.1.1.toNat q,Ta.sat y.b 1,y.h,bump u.1.2.1 y.st,bump u.1.2.2 y.ev⟩
section
variable {F:Nat->Prop}{W w w0:World}{L:List As}{r:Wo}{k:Int}{x:AP}{tw th:Int}{ca la:Option Addr}{cn cc ln lc:Nat}{cs:List Int}{xs:List bj}
noncomputable abbrev Wq (r:Wo)(k:Int)(x:AP)(rb tb:Nat)(tw th:Int)(ca:Option Addr)(cn cc:Nat)(L:List As):List As:=
 Lr.HZ r.lp k x.l r.lr::av rb 213 [.slice none 0 0,.slice none 0 0]::av tb 84 [ae tw,ae th,.slice ca cn cc]::av r.p 135 (GO r x)::ak r.a r.n r.c 303 4 (flat E8 x.es)::(x.es.map GN++L)
def aqA {A B:As}(s:Sep F W w (A::B::jV r k x::L)):Sep F W w (Lr.HZ r.lp k x.l r.lr::A::B::av r.p 135 (GO r x)::ak r.a r.n r.c 303 4 (flat E8 x.es)::(x.es.map GN++L)):=by have s1:=ab6 (cg s ((List.Perm.cons _ (List.Perm.swap _ _ _)).trans (List.Perm.swap _ _ _)));have s2:=cg s1 (alY rfl).symm;exact gf (A:=[_,_,_,_,_]) (B:=[_,_,_,_,_]) [3,0,1,2,4] s2 rfl (by decide)
def aqB {A B:As}(s:Sep F W w (A::B::av r.p 135 (GO r x)::Lr.HZ r.lp k x.l r.lr::ak r.a r.n r.c 303 4 (flat E8 x.es)::(x.es.map GN++L))):Sep F W w (A::B::jV r k x::L):=
 cg (IB (cg s (alY rfl))) ((List.Perm.swap _ _ _).trans (List.Perm.cons _ (List.Perm.swap _ _ _)))
def Xb {A B C D E:As}{es:List zz}(s:Sep F W w (A::B::C::D::E::(es.map GN++L))):Sep F W w L:=
 gF s (.cons _ (.cons _ (.cons _ (.cons _ (.cons _ (List.sublist_append_right _ _))))))
def akM {Q:Option Addr->Nat->Nat->Option Addr->Nat->Nat->Int->World->Prop}{rb tb slot g o:Nat}{e9:Int}(hT:rT tw th cs)(hok:rR tw th cs xs=true)(hnd:xs.Nodup)(p9:ln<2000)(hC:∀w',Sep F W w' L->Sl w' ca cn cc 1 bu cs)(hX:∀w',Sep F W w' L->Sl w' la ln lc 3 fT xs)(BG:slot<x.es.length)(hu:Ta.U x.b)(ha:r.a=some ⟨g,o,none⟩)
  (s:Sep F W w (Wq r k x rb tb tw th ca cn cc L))
  (h:∀q da dc ra rc w',q.e9=e9->q.iQ=xs->q.ds=ju tw th cs xs->q.rs=nQ tw th cs xs->Sep F W w' (ak ra cs.length rc 3 1 (flat one (nQ tw th cs xs))::ak da cs.length dc 3 1 (flat one (ju tw th cs xs))::jV r k {x with es:=x.es.set slot q,b:=Ta.sat x.b 1}::L)->Q da cs.length dc ra cs.length rc 0 w'):
  pI Q (sZ r.p) e9 la ln lc (aZ tb) (aZ rb) ⟨g,o+slot*4,none⟩ w:=by
 have v7:=hT.small;apply ah;refine Bt s (i:=3) rfl rfl hu λw s=>?_;refine lI s 2 rfl (lI s 2 rfl (lS s 2 rfl ?_));refine X0 s (hC _ (Xb s)) (hX _ (Xb s)) hT hok hnd p9 λda dc ra rc w s _=>?_;refine aS s λfb w s=>?_;refine sT s 0 rfl λw s=>?_;refine ax s (i:=0) rfl rfl rfl λw s=>?_;have s:=ay s;refine lS s 0 rfl (lS s 0 rfl ?_);refine VW s (hX _ (Xb (ai (ai (ai s))))) (by omega) λsa sc w s _=>?_;refine⟨cj s 1 rfl,cj s 1 rfl,?_⟩;rw[ha]at s;refine WrE (q:=⟨e9,sa,ln,sc,da,cs.length,dc,ra,cs.length,rc,xs,ju tw th cs xs,nQ tw th cs xs⟩) s (i:=8) rfl BG λw s=>?_;refine lS s 1 rfl (lS s 1 rfl ?_);refine NK s (aO s (i:=3) rfl cB (by decide)) (aO s (i:=2) rfl cB (by decide)) (by omega) (by omega) λLQ LR ra' rc' w s _=>?_;refine sT s 7 rfl λw s=>?_;refine ax s (i:=7) rfl rfl rfl λw s=>?_;refine lS s 7 rfl (lS s 7 rfl ?_);apply h ⟨e9,sa,ln,sc,da,cs.length,dc,ra,cs.length,rc,xs,ju tw th cs xs,nQ tw th cs xs⟩ LQ LR ra' rc' w rfl rfl rfl rfl;rw[<-ha]at s;have s1:=gf (A:=[_,_,_,_,_,_,_,_,_,_,_]) (B:=[ak sa ln sc 294 3 (flat fT xs),ak da cs.length dc 3 1 (flat one (ju tw th cs xs)),ak ra cs.length rc 3 1 (flat one (nQ tw th cs xs)),ak ra' cs.length rc' 3 1 (flat one (nQ tw th cs xs)),ak LQ cs.length LR 3 1 (flat one (ju tw th cs xs)),av r.p 135 (GO r {x with b:=Ta.sat x.b 1}),Lr.HZ r.lp k x.l r.lr,ak r.a r.n r.c 303 4 (flat E8 (x.es.set slot ⟨e9,sa,ln,sc,da,cs.length,dc,ra,cs.length,rc,xs,ju tw th cs xs,nQ tw th cs xs⟩))]) [2,5,4,0,1,9,6,10] s ?_ (by decide)
 ·have s2:=dA (Ps:=[_,_,_]) s1 trivial;simp[List.append_eq,List.cons_append,List.nil_append]at s2;have s3:=SD (i:=5+slot) s2;have e:∀(A B C D E G:As),(A::B::C::D::E::(x.es.map GN++L)).set (5+slot) G=A::B::C::D::E::((x.es.map GN).set slot G++L):=λA B C D E G=>by rw[Nat.add_comm 5 slot];simp[List.set_cons_succ];rw[List.set_append_left _ _ (by rw[List.length_map];exact BG)]
  rw[e]at s3;rw[show(x.es.map GN).set slot (aV True [ak sa ln sc 294 3 (flat fT xs),ak da cs.length dc 3 1 (flat one (ju tw th cs xs)),ak ra cs.length rc 3 1 (flat one (nQ tw th cs xs))])=(x.es.set slot ⟨e9,sa,ln,sc,da,cs.length,dc,ra,cs.length,rc,xs,ju tw th cs xs,nQ tw th cs xs⟩).map GN from by rw[List.map_set];rfl]at s3;have s4:=IB (cg s3 (L':=Xa r k ⟨x.l,x.es.set slot ⟨e9,sa,ln,sc,da,cs.length,dc,ra,cs.length,rc,xs,ju tw th cs xs,nQ tw th cs xs⟩,Ta.sat x.b 1,x.h,x.st,x.ev⟩++(ak ra' cs.length rc' 3 1 (flat one (nQ tw th cs xs))::ak LQ cs.length LR 3 1 (flat one (ju tw th cs xs))::L)) ?_)
  ·exact cg s4 ((List.Perm.swap _ _ _).trans (List.Perm.cons _ (List.Perm.swap _ _ _)))
  ·exact alY rfl
 ·rfl
def aoy {c:Bool}{v:Int}(h:Ta.U v):Ta.U (bump c v):=by
 unfold bump;split
 ·exact Ta.GI h (by unfold Ta.U;omega)
 ·exact h
attribute [local irreducible] pI in
theorem as5 {Q:Option Addr->Nat->Nat->Option Addr->Nat->Nat->Int->World->Prop}{rb tb slot g o:Nat}{e9:Int}{had out:Bool}(hT:rT tw th cs)(hok:rR tw th cs xs=true)(hnd:xs.Nodup)(p9:ln<2000)(hC:∀w',Sep F W w' L->Sl w' ca cn cc 1 bu cs)(hX:∀w',Sep F W w' L->Sl w' la ln lc 3 fT xs)(BG:slot<x.es.length)(hu:ShU x)(ha:r.a=some ⟨g,o,none⟩)
  (s:Sep F W w (Wq r k x rb tb tw th ca cn cc L))
  (h:∀q da dc ra rc w',q.e9=e9->q.iQ=xs->q.ds=ju tw th cs xs->q.rs=nQ tw th cs xs->Sep F W w' (ak ra cs.length rc 3 1 (flat one (nQ tw th cs xs))::ak da cs.length dc 3 1 (flat one (ju tw th cs xs))::jV r k ⟨x.l,x.es.set slot q,Ta.sat x.b 1,x.h,bump had x.st,bump out x.ev⟩::L)->Q da cs.length dc ra cs.length rc 0 w'):
  jm Q (sZ r.p) e9 la ln lc (aZ tb) (aZ rb) had out ⟨g,o+slot*4,none⟩ w:=by
 have hb:=hu.b;have b12:∀(x':AP) (w:World),x'.l=x.l->x'.es=x.es->x'.b=x.b->x'.h=x.h->x'.st=bump had x.st->x'.ev=x.ev->Sep F W w (Wq r k x' rb tb tw th ca cn cc L)->pJ Q (sZ r.p) e9 la ln lc (aZ tb) (aZ rb) out ⟨g,o+slot*4,none⟩ w:=by
  rintro ⟨l',es',b',h',st',ev'⟩ w e1 e2 e3 e4 e5 e6 s;subst e1 e2 e3 e4 e5 e6;unfold pJ;cases out with
  |true=>
   rw[cond_true];apply ah;refine Bt s (i:=3) rfl rfl hu.ev λw s=>?_;exact akM (x:=⟨x.l,x.es,x.b,x.h,bump had x.st,Ta.sat x.ev 1⟩) hT hok hnd p9 hC hX BG hb ha s h
  |false=>exact akM (x:=⟨x.l,x.es,x.b,x.h,bump had x.st,x.ev⟩) hT hok hnd p9 hC hX BG hb ha s h
 unfold jm;cases had with
 |true=>
  rw[cond_true];apply ah;refine Bt s (i:=3) rfl rfl hu.st λw s=>?_;exact b12 ⟨x.l,x.es,x.b,x.h,Ta.sat x.st 1,x.ev⟩ w rfl rfl rfl rfl rfl rfl s
 |false=>exact b12 x w rfl rfl rfl rfl rfl rfl s
attribute [local irreducible] jm in
theorem aoz {Q:Option Addr->Nat->Nat->Option Addr->Nat->Nat->Int->World->Prop}{rb tb slot:Nat}{e9:Int}{had out:Bool}(hT:rT tw th cs)(hok:rR tw th cs xs=true)(hnd:xs.Nodup)(p9:ln<2000)(hC:∀w',Sep F W w' L->Sl w' ca cn cc 1 bu cs)(hX:∀w',Sep F W w' L->Sl w' la ln lc 3 fT xs)(BG:slot<x.es.length)(hu:ShU x)
  (hh:had=true->∀q,x.es[slot]? =some q->q.e9=e9->q.iQ=xs->q.ds=ju tw th cs xs/\q.rs=nQ tw th cs xs)(LG:∀q∈x.es,q.iQ.length<2000)
  (s:Sep F W w (Wq r k x rb tb tw th ca cn cc L))
  (h:∀x' da dc ra rc w',x'.l=x.l->x'.p=(if Wp x.p.es slot had e9 xs=true then⟨x.l,x.p.es,x.b,Ta.sat x.h 1,x.st,x.ev⟩else⟨x.l,x.p.es.set slot ⟨e9,xs,ju tw th cs xs,nQ tw th cs xs⟩,Ta.sat x.b 1,x.h,bump had x.st,bump out x.ev⟩)->Sep F W w' (ak ra cs.length rc 3 1 (flat one (nQ tw th cs xs))::ak da cs.length dc 3 1 (flat one (ju tw th cs xs))::jV r k x'::L)->Q da cs.length dc ra cs.length rc 0 w'):
  qI Q (sZ r.p) e9 la ln lc (aZ tb) (aZ rb) slot had out w:=by
 have kes:=aO s (i:=4) rfl x6 (by decide);obtain⟨q0,hq0⟩:∃q,x.es[slot]? =some q:=⟨_,List.getElem?_eq_getElem BG⟩;have hp0:x.p.es[slot]? =some q0.p:=by show(x.es.map zz.p)[slot]? =_;rw[List.getElem?_map,hq0];rfl
 have adS:∀w g o,r.a=some ⟨g,o,none⟩->Wp x.p.es slot had e9 xs=false->Sep F W w (Wq r k x rb tb tw th ca cn cc L)->jm Q (sZ r.p) e9 la ln lc (aZ tb) (aZ rb) had out ⟨g,o+slot*4,none⟩ w:=λw g o ha ayf s=>by
  refine as5 hT hok hnd p9 hC hX BG hu ha s λq da dc ra rc w' e1 e2 e3 e4 s=>?_;refine h ⟨x.l,x.es.set slot q,Ta.sat x.b 1,x.h,bump had x.st,bump out x.ev⟩ da dc ra rc w' rfl ?_ s;rw[ayf,if_neg (by decide)];have:q.p=⟨e9,xs,ju tw th cs xs,nQ tw th cs xs⟩:=by rw[zz.p,e1,e2,e3,e4]
  rw[<-this];unfold AP.p;simp[List.map_set]
 refine ah (lS s 3 rfl ?_);have hn:=kes.len;have hqs:=LG q0 (List.mem_of_getElem? hq0);refine CD s (i:=4) rfl rfl (by omega) λg o ha=>?_;rw[cm,Int.toNat_natCast];have rd:∀{w:World} {x':AP},x'.es=x.es->Sep F W w (Wq r k x' rb tb tw th ca cn cc L)->Sep F W w (Lr.HZ r.lp k x'.l r.lr::av rb 213 [.slice none 0 0,.slice none 0 0]::av tb 84 [ae tw,ae th,.slice ca cn cc]::av r.p 135 (GO r x')::ak (some ⟨g,o,none⟩) r.n r.c 303 4 (flat E8 x.es)::(x.es.map GN++L)):=λe s=>by rw[<-ha,<-e];exact s
 have ad:∀j,(⟨g,o+slot*4,none⟩:Addr).add j=⟨g,o+(slot*4+j),none⟩:=λj=>by rw[cm,Nat.add_assoc]
 have kq:∀{w:World} {x':AP},x'.es=x.es->Sep F W w (Wq r k x' rb tb tw th ca cn cc L)->Sl w q0.sa q0.sn q0.sc 3 fT q0.iQ/\Sl w q0.da q0.dn q0.dc 1 one q0.ds/\Sl w q0.ra q0.rn q0.rc 1 one q0.rs:=λ{w x'} e s=>by apply aqz (i:=5+slot) s;rw[Nat.add_comm 5 slot];simp[List.getElem?_cons_succ];rw[List.getElem?_append_left (by rw[List.length_map,e];exact BG),List.getElem?_map,e,hq0];rfl
 cases had with
 |false=>
  exact adS _ g o ha rfl s
 |true=>
  apply eJ x6 (rd rfl s) (i:=4) rfl hq0 (ad 0) rfl;by_cases hv:q0.e9=e9
  ·rw[show(q0.e9==e9)=true from beq_iff_eq.2 hv,cond_true];apply Ip x6 (rd rfl s) (i:=4) rfl hq0 (ad 1) rfl;have kq0:=(kq rfl s).1;refine ZQ kq0 (hX _ (Xb s)) s (by have:=kq0.len;omega) (by omega) λw s _=>?_;by_cases he:q0.iQ=xs
   ·rw[bN he];apply ah;refine Bt s (i:=3) rfl rfl hu.h λw s=>?_;have s:=s;have kq1:=(kq (x':=⟨x.l,x.es,x.b,Ta.sat x.h 1,x.st,x.ev⟩) rfl s).2;obtain⟨hd,hr⟩:=hh rfl q0 hq0 hv he;have hdl:q0.dn=cs.length:=by rw[<-kq1.1.len,hd];exact ZR
    have hrl:q0.rn=cs.length:=by rw[<-kq1.2.len,hr];simp[nQ]
    have v7:=hT.small;apply Ip x6 (rd (x':=⟨x.l,x.es,x.b,Ta.sat x.h 1,x.st,x.ev⟩) rfl s) (i:=4) rfl hq0 (by rw[add_add,ad]) rfl;apply Ip x6 (rd (x':=⟨x.l,x.es,x.b,Ta.sat x.h 1,x.st,x.ev⟩) rfl s) (i:=4) rfl hq0 (by rw[add_add,ad]) rfl;refine NK s kq1.1 kq1.2 (by omega) (by omega) λLQ LR ra' rc' w s _=>?_;refine sT s 3 rfl λw s=>?_;refine ax s (i:=3) rfl rfl rfl λw s=>?_;refine lS s 3 rfl (lS s 3 rfl ?_);rw[hdl,hrl]at s⊢;refine h ⟨x.l,x.es,x.b,Ta.sat x.h 1,x.st,x.ev⟩ LQ LR ra' rc' w rfl ?_ ?_
    ·have:Wp x.p.es slot true e9 xs=true:=by rw[Wp,hp0];show(true&&(q0.e9==e9&&decide (q0.iQ=xs)))=true;rw[hv,he];simp
     rw[this,if_pos rfl];rfl
    ·rw[hd,hr]at s;exact aqB (gf (A:=[_,_,_,_,_,_,_]) (B:=[_,_,_,_,_]) [0,1,5,2,6] s rfl (by decide))
   ·rw[bp he];refine adS _ g o ha ?_ s;rw[Wp,hp0];show(true&&(q0.e9==e9&&decide (q0.iQ=xs)))=false;rw[decide_eq_false he,Bool.and_false,Bool.and_false]
  ·rw[show(q0.e9==e9)=false from beq_eq_false_iff_ne.2 hv,cond_false];refine adS _ g o ha ?_ s;rw[Wp,hp0];show(true&&(q0.e9==e9&&decide (q0.iQ=xs)))=false;rw[show(q0.e9==e9)=false from beq_eq_false_iff_ne.2 hv,Bool.false_and,Bool.and_false]
end
structure ad7 (k:Int) (y:QZ):Prop where
 one:1<=k
 room:k<=100000
 good:Lr.Good k y.l
 len:y.es.length=y.l.length
 b:Ta.U y.b
 h:Ta.U y.h
 st:Ta.U y.st
 ev:Ta.U y.ev
 nP:∀q∈y.es,q.iQ.length<2000
def W7 {k:Int}{l:Lr.KS}{key:Int×Int}(hk:1<=k)(hg:Lr.Good k l):∃m:Nat,(Lr.kJ k l key).1.1=m/\((m=l.length/\(Lr.kJ k l key).1.2.1=false/\(Lr.kJ k l key).1.2.2=false/\(Lr.kJ k l key).2.length=l.length+1)\/(m<l.length/\(Lr.kJ k l key).2.length=l.length)):=by
 unfold Lr.kJ;cases hf:l.find? (λp=>decide (p.1=key))with
 |some p=>
  have hp:=List.mem_of_find?_eq_some hf;have he:p.1=key:=by grind
  refine⟨p.2,rfl,.inr ⟨hg.lt p hp,?_⟩⟩;have:∀{l:Lr.KS},(l.map (·.1)).Nodup->p∈l->(l.filter λq=>!decide (q.1=key)).length+1=l.length:=by
   intro l;induction l with
   |nil=>grind
   |cons a l ih=>
    intro hn hp;rcases List.mem_cons.1 hp with rfl|hp
    ·rw[List.filter_cons_of_neg (by simp[he]),List.length_cons];congr 1;refine congrArg List.length (List.filter_eq_self.2 λb hb=>?_);grind
    grind
  exact this hg.FH hp
 |none=>
  simp only;split
  ·grind
  ·cases hl:l.getLast? with
   |none=>
    grind
   |some p=>
    have hp:=List.mem_of_getLast? hl;refine⟨p.2,rfl,.inr ⟨hg.lt p hp,?_⟩⟩;grind
def aqC {k:Int}{y:QZ}{key:Int×Int}{q:Cr}(h:ad7 k y)(hq:q.iQ.length<2000):ad7 k (nR k y key q):=by
 obtain⟨m,hm,hc⟩:=W7 h.one h.good;have hg:=Lr.Z2 (key:=key) h.one h.good;have oX:∀e∈(if(Lr.kJ k y.l key).1.1=(y.es.length:Int)then y.es++[Z_]else y.es),e.iQ.length<2000:=by
  intro e he;split at he
  ·rcases List.mem_append.1 he with he|he
   ·exact h.nP e he
   ·rw[List.mem_singleton]at he;rw[he];exact Nat.zero_lt_succ _
  ·exact h.nP e he
 have hlen:(if(Lr.kJ k y.l key).1.1=(y.es.length:Int)then y.es++[Z_]else y.es).length=(Lr.kJ k y.l key).2.length:=by
  rw[hm,h.len];rcases hc with⟨h1,_,_,h2⟩|⟨h1,h2⟩
  ·rw[AA,List.length_append,h2,h.len];rfl
  ·rw[fS,h2,h.len]
 unfold nR;simp only;generalize (if(Lr.kJ k y.l key).1.1=(y.es.length:Int)then y.es++[Z_]else y.es)=Yw at oX hlen⊢;split
 ·exact⟨h.one,h.room,hg,hlen,h.b,Ta.GI h.h (by unfold Ta.U;omega),h.st,h.ev,oX⟩
 ·refine⟨h.one,h.room,hg,by grind,Ta.GI h.b (by unfold Ta.U;omega),h.h,aoy h.st,aoy h.ev,λe he=>?_⟩;grind
section
variable {F:Nat->Prop}{W w w0:World}{L:List As}{r:Wo}{k:Int}{x:AP}{tw th:Int}{ca la:Option Addr}{cn cc ln lc:Nat}{cs:List Int}{xs:List bj}
def as6 (s:Sep F W w L):Sep F W w (GN IA::L):=by have s1:=bD (bD (bD s 3 1) 3 1) 294 3;exact dA s1 trivial
attribute [local irreducible] qI in
theorem Wr {Q:Option Addr->Nat->Nat->Option Addr->Nat->Nat->Int->World->Prop}{goal L5 e9:Int}(hx:ad7 k x.p)(hT:rT tw th cs)(hok:rR tw th cs xs=true)(hnd:xs.Nodup)(p9:ln<2000)(hC:∀w',Sep F W w' L->Sl w' ca cn cc 1 bu cs)(hX:∀w',Sep F W w' L->Sl w' la ln lc 3 fT xs)(hkey:Lr.Yr (goal,L5))
  (hh:(Lr.kJ k x.l (goal,L5)).1.2.1=true->∀q,x.p.es[(Lr.kJ k x.l (goal,L5)).1.1.toNat]? =some q->q.e9=e9->q.iQ=xs->q.ds=ju tw th cs xs/\q.rs=nQ tw th cs xs)
  (s:Sep F W w (jV r k x::L))
  (h:∀r' x' da dc ra rc w',r'.p=r.p->x'.p=nR k x.p (goal,L5) ⟨e9,xs,ju tw th cs xs,nQ tw th cs xs⟩->Sep F W w' (ak ra cs.length rc 3 1 (flat one (nQ tw th cs xs))::ak da cs.length dc 3 1 (flat one (ju tw th cs xs))::jV r' k x'::L)->Q da cs.length dc ra cs.length rc 0 w'):
  oh (sZ r.p) goal L5 e9 tw th ca cn cc la ln lc w Q:=by
 apply Qj;refine aN s λtb w s=>?_;refine aS s λrb w s=>?_;refine lI s 1 rfl (lI s 1 rfl (lS s 1 rfl ?_));have tl:∀{w:World} {A B C:As},Sep F W w (A::B::C::L)->Sep F W w L:=λs=>ai (ai (ai s));refine Nj s (hC _ (tl s)) (hX _ (tl s)) (by omega) λw s _=>?_;rw[hok,Bool.not_true,cond_false];have s:=aqA s;refine ah (lP s 3 rfl ?_);have Ny:x.l.length<=1000000:=by have h1:=hx.good.room;have h2:=hx.room;have h3:x.p.l=x.l:=rfl;grind
 refine Lr.aoh s hkey Ny λlr' w s=>?_;have hlen:x.es.length=x.l.length:=by have:=hx.len;show _=x.p.l.length;rw[<-this];show _=(x.es.map zz.p).length;grind
 obtain⟨m,hm,hc⟩:=W7 hx.one hx.good;have hxl:x.p.l=x.l:=rfl;rw[hxl]at hm hc;have hp:(x.p.es.length:Int)=x.es.length:=by show((x.es.map zz.p).length:Int)=_;grind
 have hu:ShU ⟨(Lr.kJ k x.l (goal,L5)).2,x.es,x.b,x.h,x.st,x.ev⟩:=⟨hx.b,hx.h,hx.st,hx.ev⟩;have LG:∀q∈x.es,q.iQ.length<2000:=λq hq=>hx.nP q.p (List.mem_map.2 ⟨q,hq,rfl⟩);generalize hu2:Lr.kJ k x.l (goal,L5)=u at s hm hc hh h hu⊢;obtain⟨⟨slot,had,out⟩,l'⟩:=u;subst hm;have s:=s;have kl:=(aO s (i:=4) rfl x6 (by decide)).len;refine ah (lS s 3 rfl ?_);by_cases hm:m=x.l.length
 ·obtain⟨_,e1,e2,e3⟩:m=x.l.length/\had=false/\out=false/\l'.length=x.l.length+1:=by
   rcases hc with hc|hc
   ·exact hc
   ·omega
  subst e1 e2;rw[show((m:Int)==(r.n:Int))=true from beq_iff_eq.2 (by rw[hm,<-hlen,<-kl]),cond_true];refine ah (lS s 3 rfl ?_);refine aN s λb w s=>?_;have src:Src w (sZ b) 1 4 (E8 IA):=⟨rfl,aqy _,λj u hj=>by rw[cm,Nat.zero_add];exact cK s (i:=0) rfl rfl hj⟩;refine iw ef s (i:=5) rfl rfl rfl rfl rfl rfl (by decide) rfl src (by simp[maxLen];omega) (by show(r.n+1)*80<=_;omega) (λe=>by cases e) λa1 c1 w s=>?_;rw[show flat E8 x.es++E8 IA=flat E8 (x.es++[IA])from by rw[fZ];simp[flat]]at s;refine ah (sT s 4 rfl λw s=>?_);have s:=as6 (ai s);have s:Sep F W w (Wq ⟨r.p,r.lp,lr',a1,r.n+1,c1⟩ k ⟨l',x.es++[IA],x.b,x.h,x.st,x.ev⟩ rb tb tw th ca cn cc L):=by apply cg s;show List.Perm _ (_::_::_::_::_::((x.es++[IA]).map GN++L));rw[List.map_append,List.append_assoc];exact(List.perm_middle (l₁:=[_,_,_,_,_]++x.es.map GN)).symm
  refine aoz (r:=⟨r.p,r.lp,lr',a1,r.n+1,c1⟩) (x:=⟨l',x.es++[IA],x.b,x.h,x.st,x.ev⟩) hT hok hnd p9 hC hX (by show m<(x.es++[IA]).length;rw[List.length_append];simp;omega) ⟨hx.b,hx.h,hx.st,hx.ev⟩ (λe=>by cases e) ?_ s ?_
  ·intro q hq;rcases List.mem_append.1 hq with hq|hq
   ·exact LG q hq
   ·rw[List.mem_singleton]at hq;rw[hq];exact Nat.zero_lt_succ _
  ·intro x' da dc ra rc w' e1 e2 s;refine h ⟨r.p,r.lp,lr',a1,r.n+1,c1⟩ x' da dc ra rc w' rfl ?_ s;rw[e2];rw[nR,hxl,hu2];simp only;have e3:(m:Int)=(x.p.es.length:Int):=by rw[hp];omega
   rw[if_pos e3];have:(x.p.es++[Z_])=QZ.es (AP.p ⟨l',x.es++[IA],x.b,x.h,x.st,x.ev⟩):=by show(x.es.map zz.p)++_=(x.es++[IA]).map zz.p;rw[List.map_append];rfl
   rw[this];rfl
 ·rw[show((m:Int)==(r.n:Int))=false from beq_eq_false_iff_ne.2 (by omega),cond_false];refine aoz (r:=⟨r.p,r.lp,lr',r.a,r.n,r.c⟩) hT hok hnd p9 hC hX (by show m<x.es.length;omega) hu ?_ LG s ?_
  ·intro e q hq e1 e2;have:=hh e q.p (by show(x.es.map zz.p)[m]? =_;rw[List.getElem?_map,hq];rfl) e1 e2
   exact this
  ·intro x' da dc ra rc w' e1 e2 s;refine h ⟨r.p,r.lp,lr',r.a,r.n,r.c⟩ x' da dc ra rc w' rfl ?_ s;rw[e2];rw[nR,hxl,hu2];simp only;have e3:¬(m:Int)=(x.p.es.length:Int):=by rw[hp];omega
   rw[if_neg e3];rfl
end
end Go.Proofs.YtmegplnmiepfbaaGreatDoor.S
namespace Go.Proofs.YtmegplnmiepfbaaGreatDoor.S.Lr
open Go.Sx
def aoB {l:KS}(hnd:(l.map (·.1)).Nodup){p:(Int×Int)×Nat}(hp:p∈l):W6 l p.1=p.2:=by rw[W6,Yo hnd hp]
def aqD {l:KS}{key:Int×Int}(h:∀p∈l,p.1≠key):W6 l key=-1:=by unfold W6;grind
def afi {l:KS}(h:(l.map (·.2)).Nodup){p q:(Int×Int)×Nat}(hp:p∈l)(hq:q∈l)(e:p.2=q.2):p=q:=by
 induction l with
 |nil=>cases hp
 |cons x l ih=>
  grind
structure Used (l l':KS) (key:Int×Int) (k:Int) (s:Int) (had out:Bool):Prop where
 good:Good k l'
 slot:∃m:Nat,s=m/\(key,m)∈l'
 ayg:had=decide (W6 l key≥0)
 hit:had=true->s=W6 l key/\out=false
 mem:∀p:(Int×Int)×Nat,p.1≠key->(p∈l'↔p∈l/\(out=true->(p.2:Int)≠s))
 off:∀p∈l,p.1≠key->(p.2:Int)=s->out=true
def used {k:Int}{l:KS}{key:Int×Int}(hk:1<=k)(h:Good k l):Used l (kJ k l key).2 key k (kJ k l key).1.1 (kJ k l key).1.2.1 (kJ k l key).1.2.2:=by
 have hg:=Z2 (key:=key) hk h;unfold kJ at hg⊢;cases hf:l.find? (λp=>decide (p.1=key))with
 |some q=>
  rw[hf]at hg;obtain⟨rfl,hq⟩:=NF hf;simp only at hg⊢;have hfq:=aoB h.FH hq;refine⟨hg,⟨q.2,rfl,List.mem_cons_self⟩,by grind,λ_=>⟨hfq.symm,rfl⟩,λp hp=>?_,λp hp hne e=>?_⟩
  ·grind
  ·exact(hne (by rw[afi h.nd hp hq (by omega)])).elim
 |none=>
  have hn:=afb hf;have hfn:=aqD hn;rw[hf]at hg;by_cases hroom:(l.length:Int)<k
  ·rw[if_pos hroom]at hg⊢;refine⟨hg,⟨l.length,rfl,List.mem_cons_self⟩,by rw[hfn];rfl,(λh=>by cases h),λp hp=>?_,λp hp hne e=>?_⟩
   ·grind
   ·have:=h.lt p hp;grind
  ·rw[if_neg hroom]at hg⊢;have hne:l≠[]:=λe=>by grind
   obtain⟨ys,q,rfl⟩:∃ys q,l=ys++[q]:=⟨l.dropLast,l.getLast hne,(List.dropLast_concat_getLast hne).symm⟩;rw[List.getLast?_concat,List.dropLast_concat]at hg⊢;simp only at hg⊢;refine⟨hg,⟨q.2,rfl,List.mem_cons_self⟩,by rw[hfn];rfl,(λh=>by cases h),λp hp=>?_,λp hp hne e=>rfl⟩;rw[List.mem_cons];constructor
   ·rintro (e|h1)
    ·grind
    ·refine⟨by simp[h1],λ_ e=>?_⟩;have e1:=afi h.nd (p:=p) (q:=q) (by simp[h1]) (by simp) (by omega);subst e1;have:=h.FH;grind
   grind
end Go.Proofs.YtmegplnmiepfbaaGreatDoor.S.Lr
namespace Go.Proofs.YtmegplnmiepfbaaGreatDoor.S
open Go.Sx
attribute [local irreducible] af cA bw bg aA cq bY St Bx Al App cD cy cw bT aL bC aq bR av ak aV mapA
def SO (V:Int×Int->Cr->Prop)(y:QZ):Prop:=∀key i q,(key,i)∈y.l->y.es[i]? =some q->V key q
def afj {V:Int×Int->Cr->Prop}{b h st ev:Int}:SO V ⟨[],[],b,h,st,ev⟩:=λ_ _ _ h=>by cases h
def alZ {V V':Int×Int->Cr->Prop}{y:QZ}(h:SO V y)(hv:∀key q,V key q->V' key q):SO V' y:=λkey i q h1 h2=>hv _ _ (h key i q h1 h2)
def aiA {k:Int}{y:QZ}{key:Int×Int}{V:Int×Int->Cr->Prop}(h:ad7 k y)(hr:SO V y){q:Cr}(hh:(Lr.kJ k y.l key).1.2.1=true)(hq:y.es[(Lr.kJ k y.l key).1.1.toNat]? =some q):V key q:=by have hu:=Lr.used (key:=key) h.one h.good;have h2:=hu.ayg;rw[hh]at h2;obtain⟨m,hm,hl⟩:=hu.slot;refine hr key m q ?_ (by grind);unfold Lr.kJ at hm hh;grind
def aoC {k:Int}{y:QZ}{key:Int×Int}{V:Int×Int->Cr->Prop}{q:Cr}(h:ad7 k y)(hr:SO V y)(hv:V key q):SO V (nR k y key q):=by
 have hu:=Lr.used (key:=key) h.one h.good;obtain⟨m,hm,hc⟩:=W7 h.one h.good;have hlen:=h.len;have Yu:∀(i:Nat) (e:Cr),i≠m\/(Lr.kJ k y.l key).1.2.1=true->i<y.l.length->(if(Lr.kJ k y.l key).1.1=(y.es.length:Int)then y.es++[Z_]else y.es)[i]? =some e->y.es[i]? =some e:=by grind
 have other:∀key' i,key'≠key->(key',i)∈(Lr.kJ k y.l key).2->(key',i)∈y.l/\i≠m/\i<y.l.length:=by intro key' i hne hmem;have h1:=(hu.mem (key',i) hne).1 hmem;refine⟨h1.1,λe=>?_,h.good.lt _ h1.1⟩;subst e;have h2:=hu.off _ h1.1 hne (by rw[hm]);grind
 have same:∀i,(key,i)∈(Lr.kJ k y.l key).2->i=m:=by intro i hmem;obtain⟨m',h1,h2⟩:=hu.slot;have:=Lr.SG hu.good.FH hmem h2 rfl;grind
 unfold nR;simp only;generalize (if(Lr.kJ k y.l key).1.1=(y.es.length:Int)then y.es++[Z_]else y.es)=Yw at Yu⊢;split
 ·rename_i hit;unfold Wp at hit;rw[Bool.and_eq_true]at hit;intro key' i e hmem he;by_cases hk:key'=key
  ·subst hk;have hi:=same i hmem;subst hi;have hlt:i<y.l.length:=by grind
   have h1:=Yu i e (.inr hit.1) hlt he;exact aiA h hr hit.1 (by grind)
  ·obtain⟨h1,h2,h3⟩:=other key' i hk hmem;exact hr key' i e h1 (Yu i e (.inl h2) h3 he)
 ·intro key' i e hmem he;rw[hm,Int.toNat_natCast]at he;by_cases hk:key'=key
  ·subst hk;have hi:=same i hmem;subst hi;rw[List.getElem?_set]at he;split at he
   ·split at he
    ·cases he;exact hv
    ·cases he
   ·rename_i hne;exact(hne rfl).elim
  ·obtain⟨h1,h2,h3⟩:=other key' i hk hmem;rw[List.getElem?_set_ne (λe=>h2 e.symm)]at he;exact hr key' i e h1 (Yu i e (.inl h2) h3 he)
section
variable {F:Nat->Prop}{W w w0:World}{L:List As}{r:Wo}{k:Int}{x:AP}
def ab7 {Q:Option Addr->World->Prop}(s:Sep F W w L)(hno:k<1->Q none w)(h:1<=k->∀r w',Sep F W w' (jV r k ⟨[],[],0,0,0,0⟩::L)->Q (sZ r.p) w'):F6 k w Q:=by
 apply aaX;by_cases hk:k<1
 ·grind
 ·rw[bp hk];refine Lr.aog s (λe=>(hk e).elim) λ_ lp lr w s=>?_;refine aN s λp w s=>?_;refine h (by omega) ⟨p,lp,lr,none,0,0⟩ w (IB ?_);exact cg (bD s 303 4) ((List.Perm.swap _ _ _).trans (List.Perm.cons _ (List.Perm.swap _ _ _)))
def OM {Q:World->Prop}(hk:1<=k)(s:Sep F W w (jV r k x::L))(h:∀r' w',r'.p=r.p->Sep F W w' (jV r' k ⟨[],[],x.b,x.h,x.st,x.ev⟩::L)->Q w'):qp (sZ r.p) w Q:=by apply Mw;have s:=ab6 s;have s:=s;refine isS (ah (lP s 0 rfl ?_));have s:=gF s (.cons_cons _ (.cons_cons _ (.cons _ (List.sublist_append_right _ _))));have s:=(Lr.aik (iZ s)).2;have s:=gF s (.cons_cons _ (.cons _ (.cons _ (List.Sublist.refl _))));refine Lr.Ys hk s λlr w s=>?_;refine ah (sT s 1 rfl λw s=>?_);refine h ⟨r.p,r.lp,lr,none,0,0⟩ w rfl (IB ?_);exact cg (bD s 303 4) ((List.Perm.cons _ (List.Perm.swap _ _ _)).trans ((List.Perm.swap _ _ _).trans (List.Perm.cons _ (List.Perm.swap _ _ _))))
def al0 {i:Nat}(s:Sep F W w L)(hi:L[i]? =some (jV r k x)):rS w r.p (GO r x):=lj (IL s hi) (i:=0) rfl
def ayh:zc T 32=[.int .u64 0,.int .u64 0,.int .u64 0,.int .u64 0,.int .u64 0,.int .u64 0]:=rfl
def aiB {p:Nat}{v0 v1 v2 v3 v4 v5:Value}{a b c d e f:Int}{Q:Int->Int->Int->Int->Int->Int->World->Prop}(s:Sep F W w (av p 32 [v0,v1,v2,v3,v4,v5]::L))(h:∀w',Sep F W w' (av p 32 [.int .u64 a,.int .u64 b,.int .u64 c,.int .u64 d,.int .u64 e,.int .u64 f]::L)->Q a b c d e f w'):
  St ((aZ p).add 0) (.int .u64 a) w λw=>St ((aZ p).add 1) (.int .u64 b) w λw=>St ((aZ p).add 2) (.int .u64 c) w λw=>St ((aZ p).add 3) (.int .u64 d) w λw=>St ((aZ p).add 4) (.int .u64 e) w λw=>St ((aZ p).add 5) (.int .u64 f) w λw=>
   af .u64 ((aZ p).add 0) w λa=>af .u64 ((aZ p).add 1) w λb=>af .u64 ((aZ p).add 2) w λc=>af .u64 ((aZ p).add 3) w λd=>af .u64 ((aZ p).add 4) w λe=>af .u64 ((aZ p).add 5) w λf=>Q a b c d e f w:=by
 refine sT s 0 rfl λw s=>?_;refine sT s 0 rfl λw s=>?_;refine sT s 0 rfl λw s=>?_;refine sT s 0 rfl λw s=>?_;refine sT s 0 rfl λw s=>?_;refine ax s (i:=0) rfl rfl rfl λw s=>?_;exact lI s 0 rfl (lI s 0 rfl (lI s 0 rfl (lI s 0 rfl (lI s 0 rfl (lI s 0 rfl (h w s))))))
def ajW {Q:Int->Int->Int->Int->Int->Int->World->Prop}(s0:Sep F W w L)(kb:rS w r.p (GO r x))(h:∀w',Sep F W w' L->Fr No w w'->Q 0 0 x.b x.h x.st x.ev w'):wm (sZ r.p) w Q:=by apply Ms;refine aS (bh (F:=No)) λp w1 s1=>?_;have kb1:=kb.fr (au s1);refine ld (ah ?_);refine aR (kb1 2 _ rfl) (aR (kb1 3 _ rfl) (aR (kb1 4 _ rfl) (aR (kb1 5 _ rfl) (aR (kb1 6 _ rfl) (aR (kb1 7 _ rfl) ?_)))));exact aiB s1 λw' s'=>h w' (fy s0 (ai s')) (au s')
end
end Go.Proofs.YtmegplnmiepfbaaGreatDoor.S
namespace Go.Proofs.YtmegplnmiepfbaaGreatDoor.S
open Go.Sx
def Kx (m:bJ)(c x:Int):bJ:=⟨m.w,m.h,m.cs.set c.toNat x⟩
section
variable {m:bJ}{g:gW}{ce x c sc:Int}
def aoD (hc:0<=ce/\ce<m.cs.length):cT (Kx m ce x) c=if c=ce then x else cT m c:=by
 unfold cT Kx;simp[List.length_set];by_cases e:c=ce
 ·subst e;unfold gi;grind
 ·by_cases h:0<=c/\c<m.cs.length
  ·unfold gi;grind
  grind
def aqE (hm:cR m)(hc:bK m.w m.h ce):0<=ce/\ce<m.cs.length:=⟨hc.2.1,by have:=hm.len;have:=hc.2.2;omega⟩
def aiC (hm:cR m)(hc:bK m.w m.h ce)(hne:cS m c≠cS m ce):cT (Kx m ce x) c=cT m c:=by rw[aoD (aqE hm hc),if_neg λe=>hne (by rw[e])]
def afk (hm:cR m)(hs:dX m.w m.h sc)(hc:bK m.w m.h ce)(hne:sc≠cS m ce):dU (Kx m ce x) sc=dU m sc:=by
 refine List.map_congr_left λl hl=>?_;have hl:=List.mem_range.1 hl;have hl:(0:Int)<=(l:Int)/\(l:Int)<aD m.w m.h sc*bz m.w m.h sc:=by have e:(Kx m ce x).w=m.w/\(Kx m ce x).h=m.h:=⟨rfl,rfl⟩;grind
 exact aiC hm hc (by show aC m.w m.h (bU m.w m.h sc l)≠_;rw[iU hs hl];exact hne)
def ab8 (hm:cR m)(hs:dX m.w m.h sc)(hc:bK m.w m.h ce)(hne:sc≠cS m ce):aW (Kx m ce x) sc=aW m sc:=by
 rw[nodes_eq,nodes_eq];congr 1;show((List.range (aD m.w m.h sc*bz m.w m.h sc).toNat).filter λl=>yu m.w m.h sc 4 l&&ff (Kx m ce x) (bU m.w m.h sc l))=_;refine List.filter_congr λl hl=>?_;have hl:=List.mem_range.1 hl;have hl:(0:Int)<=(l:Int)/\(l:Int)<aD m.w m.h sc*bz m.w m.h sc:=by omega
 unfold ff;rw[aiC hm hc (by show aC m.w m.h (bU m.w m.h sc l)≠_;rw[iU hs hl];exact hne)]
def aoE (hm:cR m)(hs:dX m.w m.h sc)(hc:bK m.w m.h ce)(hne:sc≠cS m ce):jG (Kx m ce x) sc=jG m sc:=by unfold jG iX;rw[afk hm hs hc hne,ab8 hm hs hc hne];rfl
def aiD (hg:xw g)(hc:bK g.m.w g.m.h ce){i:Nat}:gi (vQ g ce x).vs i=if(i:Int)=cS g.m ce then g.ep+1 else gi g.vs i:=by
 have hr:=bS hc;have hl:=hg.len;unfold vQ gi cS;by_cases e:(i:Int)=aC g.m.w g.m.h ce
 ·have e1:(aC g.m.w g.m.h ce).toNat=i:=by omega
  have e2:(aC g.m.w g.m.h ce).toNat<g.vs.length:=by have:=hr.2;omega
  grind
 ·have e1:¬(aC g.m.w g.m.h ce).toNat=i:=by have:=hr.2.1;omega
  grind
def aoF {ms:nD}(hg:xw g)(hc:bK g.m.w g.m.h ce)(I:yw g ms):yw (vQ g ce x) ms:=by
 have hlen:=I.len;refine⟨I.len,⟨by have:=I.old.1;show _<=g.ep+1;omega,λq hq=>by have:=I.old.2 q hq;show _<=g.ep+1;omega⟩,λe=>by have:=I.old.1;have e:ms.clean=g.ep+1:=e;omega,λi q hq hv=>?_,I.u⟩;rw[aiD hg hc]at hv;have hqe:=I.old.2 q (List.mem_of_getElem? hq);split at hv
 ·omega
 ·rename_i hne;have hi:=(List.getElem?_eq_some_iff.1 hq).1;have hs:dX g.m.w g.m.h i:=⟨hg.gz,by omega,by omega⟩;have h:=I.ok i q hq hv;have e1:aW (vQ g ce x).m i=aW g.m i:=ab8 hg.may hs hc hne;have e2:jG (vQ g ce x).m i=jG g.m i:=aoE hg.may hs hc hne;grind
def aoG {f:GM}(J:ab4 g f):ab4 (vQ g ce x) f:=
 ⟨λq hq=>⟨by have:=(J.kept q hq).1;show _<=g.ep+1;omega,λe=>by have:=(J.kept q hq).1;have e:q.2.ep=g.ep+1:=e;omega⟩,J.u⟩
def aiE (g:gW)(key:Int×Int)(q:Cr):Prop:=q.e9<=g.ep/\dX g.m.w g.m.h key.2/\(q.e9=wG g key.2->q.ds=ju (aD g.m.w g.m.h key.2) (bz g.m.w g.m.h key.2) (dU g.m key.2) q.iQ/\q.rs=nQ (aD g.m.w g.m.h key.2) (bz g.m.w g.m.h key.2) (dU g.m key.2) q.iQ)
def al1 (hg:xw g)(hc:bK g.m.w g.m.h ce){key:Int×Int}{q:Cr}(h:aiE g key q):aiE (vQ g ce x) key q:=by
 obtain⟨h1,h2,h3⟩:=h;refine⟨by show _<=g.ep+1;omega,h2,λhv=>?_⟩;have hl:=hg.len;have hk:=h2.2;have e:wG (vQ g ce x) key.2=gi (vQ g ce x).vs key.2.toNat:=by rw[wG,if_pos];refine⟨hk.1,?_⟩;show key.2<((g.vs.set _ _).length:Int);grind
 have e':wG g key.2=gi g.vs key.2.toNat:=by unfold wG;omega
 rw[e,aiD hg hc]at hv;split at hv
 ·omega
 ·rw[<-e']at hv;have h4:=h3 hv;have et:dU (vQ g ce x).m key.2=dU g.m key.2:=afk hg.may h2 hc (by omega);rw[et];exact h4
end
end Go.Proofs.YtmegplnmiepfbaaGreatDoor.S
namespace Go.Proofs.YtmegplnmiepfbaaGreatDoor.S
open Go.Sx
open Go.Extern
section
variable {w:World}
def rt (n:Nat):Value:=.agg #[.pointer (some ⟨8,n,none⟩)]
def afl (v:Value)(w:World):(ReflectliteType.typeOf #[.iface 401 v]).run P w=.ok (.iface 219 (rt 401)) w:=by kernel_rfl
def akO (w:World):((ReflectliteType.method λt=>do Rtype.noPackHeld "Comparable" t;pure (.bool (<-typeInfo t).comparable)) #[rt 401]).run P w=.ok (.bool true) w:=by kernel_rfl
def aiF (v:Value)(w:World):(Go.method (P.types.size+Made.depth) 219 v "Comparable").run P w=.ok (311,v) w:=by kernel_rfl
def SP (v:Value)(w:World):(ReflectliteType.typeOf #[.iface 78 v]).run P w=.ok (.iface 219 (rt 78)) w:=by kernel_rfl
def GP (v:Value)(w:World):(ReflectliteType.typeOf #[.iface 108 v]).run P w=.ok (.iface 219 (rt 108)) w:=by kernel_rfl
def GQ (t:Addr)(w:World):(ReflectliteValue.unpack (.iface 120 (.pointer (some t)))).run P w
 =.ok (.agg #[.pointer (some ⟨8,120,none⟩),.pointer (sZ w.heap.size),.int .u64 150]) (w.alloc (.cells #[.pointer (some t)] 120)):=by kernel_rfl
def Ee (n:Int)(w:World):(ReflectliteValue.unpack (.iface 108 (ae n))).run P w
 =.ok (.agg #[.pointer (some ⟨8,108,none⟩),.pointer (sZ w.heap.size),.int .u64 130]) (w.alloc (.cells #[ae n] 108)):=by kernel_rfl
def Q0 (a:Addr)(w:World):(ReflectliteValue.methodAny (ReflectliteValue.valueError "reflectlite.Value.Type" 0) (λt _ _ _=>ReflectliteType.toType t) #[.agg #[.pointer (some ⟨8,120,none⟩),.pointer (some a),.int .u64 150]]).run P w
 =.ok (.iface 219 (rt 120)) w:=by kernel_rfl
def Ia (h:Value)(w:World):(Go.method (P.types.size+Made.depth) 219 (.agg #[h]) "Kind").run P w=.ok (297,h) w:=by kernel_rfl
def L6 (w:World):((ReflectliteType.abiMethod λt=>(λa:Nat=>Value.int IntKind.u8 (a:Int))<$>Rtype.kind t) #[.pointer (some ⟨8,120,none⟩)]).run P w=.ok (.int .u8 22) w:=by kernel_rfl
def L7 (w:World):((ReflectliteType.abiMethod λt=>(λa:Nat=>Value.int IntKind.u8 (a:Int))<$>Rtype.kind t) #[.pointer (some ⟨8,108,none⟩)]).run P w=.ok (.int .u8 2) w:=by kernel_rfl
def aaa (h:Value)(w:World):(Go.method (P.types.size+Made.depth) 219 (.agg #[h]) "Elem").run P w=.ok (312,.agg #[h]) w:=by kernel_rfl
def ad8 (h:Value)(w:World):(Go.method (P.types.size+Made.depth) 219 (.agg #[h]) "Implements").run P w=.ok (313,.agg #[h]) w:=by kernel_rfl
def Q1 (h:Value)(w:World):(Go.method (P.types.size+Made.depth) 219 (.agg #[h]) "AssignableTo").run P w=.ok (310,.agg #[h]) w:=by kernel_rfl
def Q2 (w:World):(ReflectliteType.method ReflectliteType.elem #[rt 120]).run P w=.ok (.iface 219 (rt 108)) w:=by kernel_rfl
def Ws (w:World):(ReflectliteType.relation "Implements" ReflectliteType.implements_ #[rt 108,.iface 219 (rt 74)]).run P w=.ok (.bool true) w:=by kernel_rfl
def ad9 (w:World):(ReflectliteType.relation "AssignableTo" ReflectliteType.assignableTo #[rt 78,.iface 219 (rt 108)]).run P w=.ok (.bool false) w:=by kernel_rfl
def Q3 (w:World):(ReflectliteType.relation "AssignableTo" ReflectliteType.assignableTo #[rt 108,.iface 219 (rt 108)]).run P w=.ok (.bool true) w:=by kernel_rfl
def ad_ (v:Value)(w:World):(Go.method (P.types.size+Made.depth) 78 v "Unwrap").run P w=.ok (302,v) w:=by kernel_rfl
def as7 (v:Value)(w:World):(Go.method (P.types.size+Made.depth) 273 v "Unwrap").run P w=.ok (325,v) w:=by kernel_rfl
end
set_option maxRecDepth 20000
def jW {f:Nat}{e:Array Value->Sem Value}{args:Array Value}{w w':World}{v:Value}{K:Value->World->Prop}(h:∀args w,(callFunc f args).run P w=((e args).run P w).andThen λv w'=>.ok (.value v) w')(he:(e args).run P w=.ok v w')(k:K v w'):tH P f args w K:=by unfold tH;simp_all
def cxP (n:Nat):(cx n).P=P:=rfl
def mT {n f:Nat}{e:Array Value->Sem Value}{t:TypeId}{v rv:Value}{name:String}{args:List Value}{w w':World}{r:Value}{K:Value->World->Prop}(hm:∀w,(Go.method (P.types.size+Made.depth) t v name).run P w=.ok (f,rv) w)(hf:oT f fns=false)
  (h:∀args w,(callFunc f args).run P w=((e args).run P w).andThen λv w'=>.ok (.value v) w')(he:(e (#[].toList++(rv::args)++#[].toList).toArray).run P w=.ok r w')(k:K r w'):yB (cx n) (.iface t v) name args w K:=by
 refine⟨f,rv,hm w,?_⟩;unfold iv;simp only[cxF,cxP,hf,cond_false];exact jW h he k
def x95 (args:Array Value)(w:World):(callFunc 95 args).run P w=((ReflectliteType.typeOf args).run P w).andThen λv w'=>.ok (.value v) w':=run_callFunc_extern Go.Proofs.Tryz.func95 (by kernel_rfl) (by kernel_rfl) (by kernel_rfl) (by kernel_rfl) args w
def au4 (args:Array Value)(w:World):(callFunc 311 args).run P w=((ReflectliteType.method (λt=>do Rtype.noPackHeld "Comparable" t;pure (.bool (<-typeInfo t).comparable)) args).run P w).andThen λv w'=>.ok (.value v) w':=run_callFunc_extern Go.Proofs.Tryz.func311 (by kernel_rfl) (by kernel_rfl) (by kernel_rfl) (by kernel_rfl) args w
def aoH:oT 311 fns=false:=by kernel_rfl
def aoI:(P.info? 401).map (·.comparable)=some true:=by kernel_rfl
def aoJ:(P.info? 422).map (·.size)=some 1:=by kernel_rfl
def au5 {tx ty:Nat}{vx vy:Value}{x y:Operand}{w:World}{K:Bool->World->Prop}(hne:tx≠ty)(h:K false w):bT P .eql 74 x y (.iface tx vx) (.iface ty vy) w K:=by unfold bT aL;rw[show(eqGuard .eql 74 x y (.iface tx vx) (.iface ty vy))=pure ()from rfl];simp[Sem.run_bind,Sem.run_pure,Result.andThen_ok,run_eql_iface_types tx ty vx vy Go.Proofs.Tryz.underlying74 hne w];exact h
def Wt {a:Addr}{x y:Operand}{w:World}{K:Bool->World->Prop}(h:K true w):bT P .eql 74 x y (.iface 401 (.pointer (some a))) (.iface 401 (.pointer (some a))) w K:=by obtain⟨i,hi,hcmp⟩:=Option.map_eq_some_iff.1 aoI;obtain⟨j,hj,hjs⟩:=Option.map_eq_some_iff.1 aoJ;unfold bT aL;rw[show(eqGuard .eql 74 x y (.iface 401 (.pointer (some a))) (.iface 401 (.pointer (some a))))=pure ()from rfl];simp[Sem.run_bind,Sem.run_pure,Result.andThen_ok,run_eql_iface_ptr_same w a Go.Proofs.Tryz.underlying74 Go.Proofs.Tryz.underlying401 hi hcmp hj];exact h
def ab9 {a b:Addr}{ca cb:Array Value}{ta tb:TypeId}{x y:Operand}{w:World}{K:Bool->World->Prop}(hne:a≠b)(ha:w.heap[a.block]? =some (.cells ca ta (0,0)))(hb:w.heap[b.block]? =some (.cells cb tb (0,0)))(h:K false w):bT P .eql 74 x y (.iface 401 (.pointer (some a))) (.iface 401 (.pointer (some b))) w K:=by obtain⟨i,hi,hcmp⟩:=Option.map_eq_some_iff.1 aoI;obtain⟨j,hj,hjs⟩:=Option.map_eq_some_iff.1 aoJ;unfold bT aL;rw[show(eqGuard .eql 74 x y (.iface 401 (.pointer (some a))) (.iface 401 (.pointer (some b))))=pure ()from rfl];simp[Sem.run_bind,Sem.run_pure,Result.andThen_ok,run_eql_iface_ptr_other w Go.Proofs.Tryz.underlying74 Go.Proofs.Tryz.underlying401 hi hcmp hj (by omega) hne ha hb];exact h
def au6 {t:Nat}(ht:t=401\/t=78\/t=108\/t=273)(v:Value)(xT:TypeId)(w:World):(Instr.typeAssert (.iface t v) xT 221 true).run P w=.ok (.tuple #[.nilIface,.bool false]) w:=by
 rcases ht with rfl|rfl|rfl|rfl
 ·exact run_typeAssert_lacksB Go.Proofs.Tryz.underlying221 (by kernel_rfl) (by kernel_rfl) v xT w
 ·exact run_typeAssert_lacksB Go.Proofs.Tryz.underlying221 (by kernel_rfl) (by kernel_rfl) v xT w
 ·exact run_typeAssert_lacksB Go.Proofs.Tryz.underlying221 (by kernel_rfl) (by kernel_rfl) v xT w
 ·exact run_typeAssert_lacksB Go.Proofs.Tryz.underlying221 (by kernel_rfl) (by kernel_rfl) v xT w
def ayi {t:Nat}(ht:t=78\/t=108)(v:Value)(xT:TypeId)(w:World):(Instr.typeAssert (.iface t v) xT 231 true).run P w=.ok (.tuple #[.nilIface,.bool false]) w:=by
 rcases ht with rfl|rfl
 ·exact run_typeAssert_lacksB Go.Proofs.Tryz.underlying231 (by kernel_rfl) (by kernel_rfl) v xT w
 ·exact run_typeAssert_lacksB Go.Proofs.Tryz.underlying231 (by kernel_rfl) (by kernel_rfl) v xT w
def ayj {t:Nat}(ht:t=401\/t=108)(v:Value)(xT:TypeId)(w:World):(Instr.typeAssert (.iface t v) xT 224 true).run P w=.ok (.tuple #[.nilIface,.bool false]) w:=by
 rcases ht with rfl|rfl
 ·exact run_typeAssert_lacksB Go.Proofs.Tryz.underlying224 (by kernel_rfl) (by kernel_rfl) v xT w
 ·exact run_typeAssert_lacksB Go.Proofs.Tryz.underlying224 (by kernel_rfl) (by kernel_rfl) v xT w
def av9 {t:Nat}(ht:t=401\/t=108)(v:Value)(xT:TypeId)(w:World):(Instr.typeAssert (.iface t v) xT 226 true).run P w=.ok (.tuple #[.nilIface,.bool false]) w:=by
 rcases ht with rfl|rfl
 ·exact run_typeAssert_lacksB Go.Proofs.Tryz.underlying226 (by kernel_rfl) (by kernel_rfl) v xT w
 ·exact run_typeAssert_lacksB Go.Proofs.Tryz.underlying226 (by kernel_rfl) (by kernel_rfl) v xT w
def arU {t:Nat}(ht:t=78\/t=273)(v:Value)(xT:TypeId)(w:World):(Instr.typeAssert (.iface t v) xT 224 true).run P w=.ok (.tuple #[.iface t v,.bool true]) w:=by
 rcases ht with rfl|rfl
 ·exact run_typeAssert_hasB Go.Proofs.Tryz.underlying224 (by kernel_rfl) v xT w
 ·exact run_typeAssert_hasB Go.Proofs.Tryz.underlying224 (by kernel_rfl) v xT w
end Go.Proofs.YtmegplnmiepfbaaGreatDoor.S
set_option maxRecDepth 20000
namespace Go.Proofs.YtmegplnmiepfbaaGreatDoor.S
open Go.Sx
open Go.Extern
attribute [local irreducible] af cA bw bg aA cq bY St Bx Al App cD cy cw bT bC aq bR av ak aV mapA
def az0:oT 302 fns=true:=by kernel_rfl
def az1:oT 325 fns=true:=by kernel_rfl
def AU {s:Sem Value}{w w':World}{v:Value}{K:Value->World->Prop}(h:s.run P w=.ok v w')(k:K v w'):aL P s w K:=by unfold aL;grind
section
variable {w:World}{p n:Nat}{v:Value}
def mG {ad:Addr}{K:Value->Prop}(h:w.cell? ad=some v)(hp:Value.plain v=true)(k:K v):bY ad w K:=by unfold bY;grind
def tF {t:Nat}{A B:Prop}(h:B):BE (.iface t v) λb=>cond b A B:=h
def SQ {b:Bool}{K:Value->Bool->Prop}(hp:Value.plain v=true)(k:K v b):dT (.tuple #[v,.bool b]) λl=>dK l λv0 l0=>dV v0 λx0=>dK l0 λv1 l1=>dB v1 λx1=>kL l1 (K x0 x1):=by show dV v λx0=>K x0 b;unfold dV;grind
def ab_ {Q:Value->World->Prop}(hv:w.cell? ((aZ p).add 1)=some v)(hp:Value.plain v=true)(k:Q v w):yB (cx n) (.iface 78 (.pointer (sZ p))) "Unwrap" [] w λv w=>dV v λr=>Q r w:=by
 refine⟨302,_,ad_ _ w,?_⟩;unfold iv;have h:Gh (sZ p) w Q:=by apply Sn;refine ah (mG hv hp ?_);unfold dV;grind
 exact h
def as8 {Q:Value->World->Prop}(hv:w.cell? ((aZ p).add 1)=some v)(hp:Value.plain v=true)(k:Q v w):yB (cx n) (.iface 273 (.pointer (sZ p))) "Unwrap" [] w λv w=>dV v λr=>Q r w:=by
 refine⟨325,_,as7 _ w,?_⟩;unfold iv;have h:Ft (sZ p) w Q:=by apply QA;refine ah (mG hv hp ?_);unfold dV;grind
 exact h
def akP {Q:Bool->World->Prop}{t:Nat}{u target:Value}{c:Bool}(ht:t=401\/t=108){k:Nat}
  (he:∀(x y:Operand) (K:Bool->World->Prop),K c w->bT P .eql 74 x y (.iface t u) target w K)(hQ:Q c w):pZ Q (k+1) (.iface t u) target true w:=by
 show AF Q (pZ Q k) _ _ _ _;unfold AF;apply he;cases c with
 |true=>exact hQ
 |false=>
  refine AU (au6 (by grind) _ _ _) (SQ rfl ?_);refine AU (ayj ht _ _ _) (SQ rfl ?_);refine AU (av9 ht _ _ _) (SQ rfl ?_);grind
def as9 {Q:Bool->World->Prop}{tw:Nat}{target:Value}{k tt:Nat}{tv:Value}(QC:tw=78\/tw=273)(htg:target=.iface 401 tv)(hv:w.cell? ((aZ p).add 1)=some (.iface tt v))
  (h:pZ Q k (.iface tt v) target true w):pZ Q (k+1) (.iface tw (.pointer (sZ p))) target true w:=by
 show AF Q (pZ Q k) _ _ _ _;unfold AF;subst htg;apply au5 (by grind);refine AU (au6 (by grind) _ _ _) (SQ rfl ?_);refine AU (arU QC _ _ _) (SQ rfl ?_);rcases QC with rfl|rfl
 ·exact ab_ hv rfl h
 ·exact as8 hv rfl h
def SR {Q:Bool->World->Prop}{tw tt:Nat}{b:Addr}{c:Bool}(QC:tw=78\/tw=273)(ht:tt=401\/tt=108)(hv:w.cell? ((aZ p).add 1)=some (.iface tt v))
  (he:∀(x y:Operand) (K:Bool->World->Prop),K c w->bT P .eql 74 x y (.iface tt v) (.iface 401 (.pointer (some b))) w K)(hQ:Q c w):
  o_ (.iface tw (.pointer (sZ p))) (.iface 401 (.pointer (some b))) w Q:=by
 apply Nd;refine tF (tF ?_);apply jW x95 (afl _ w);refine mT (aiF _) aoH au4 (akO w) ?_;have h:wU (.iface tw (.pointer (sZ p))) (.iface 401 (.pointer (some b))) true w Q:=by apply Nc;exact⟨2,as9 QC rfl hv (akP ht he hQ)⟩
 exact h
end
end Go.Proofs.YtmegplnmiepfbaaGreatDoor.S
set_option maxRecDepth 20000
namespace Go.Proofs.YtmegplnmiepfbaaGreatDoor.S
open Go.Sx
open Go.Extern
def x97 (args:Array Value)(w:World):(callFunc 97 args).run P w=((ReflectliteValue.unpack (args.getD 0 (.tuple #[]))).run P w).andThen λv w'=>.ok (.value v) w':=run_callFunc_extern (e:=λargs=>ReflectliteValue.unpack (args.getD 0 (.tuple #[]))) Go.Proofs.Tryz.func97 (by kernel_rfl) (by kernel_rfl) (by kernel_rfl) (by kernel_rfl) args w
def x98 (args:Array Value)(w:World):(callFunc 98 args).run P w=((ReflectliteValue.methodAny (ReflectliteValue.valueError "reflectlite.Value.Type" 0) (λt _ _ _=>ReflectliteType.toType t) args).run P w).andThen λv w'=>.ok (.value v) w':=run_callFunc_extern Go.Proofs.Tryz.func98 (by kernel_rfl) (by kernel_rfl) (by kernel_rfl) (by kernel_rfl) args w
def x99 (args:Array Value)(w:World):(callFunc 99 args).run P w=((ReflectliteValue.method (ReflectliteValue.valueError "reflectlite.Value.IsNil" 0) ReflectliteValue.isNil args).run P w).andThen λv w'=>.ok (.value v) w':=run_callFunc_extern Go.Proofs.Tryz.func99 (by kernel_rfl) (by kernel_rfl) (by kernel_rfl) (by kernel_rfl) args w
def aqF (args:Array Value)(w:World):(callFunc 138 args).run P w=((ReflectliteValue.method (ReflectliteValue.valueError "reflectlite.Value.Elem" 0) ReflectliteValue.elem args).run P w).andThen λv w'=>.ok (.value v) w':=run_callFunc_extern Go.Proofs.Tryz.func138 (by kernel_rfl) (by kernel_rfl) (by kernel_rfl) (by kernel_rfl) args w
def aqG (args:Array Value)(w:World):(callFunc 139 args).run P w=((ReflectliteValue.set args).run P w).andThen λv w'=>.ok (.value v) w':=run_callFunc_extern Go.Proofs.Tryz.func139 (by kernel_rfl) (by kernel_rfl) (by kernel_rfl) (by kernel_rfl) args w
def aea (args:Array Value)(w:World):(callFunc 297 args).run P w=((ReflectliteType.abiMethod (λt=>do pure (.int .u8 (<-Rtype.kind t))) args).run P w).andThen λv w'=>.ok (.value v) w':=run_callFunc_extern Go.Proofs.Tryz.func297 (by kernel_rfl) (by kernel_rfl) (by kernel_rfl) (by kernel_rfl) args w
def aqH (args:Array Value)(w:World):(callFunc 312 args).run P w=((ReflectliteType.method ReflectliteType.elem args).run P w).andThen λv w'=>.ok (.value v) w':=run_callFunc_extern Go.Proofs.Tryz.func312 (by kernel_rfl) (by kernel_rfl) (by kernel_rfl) (by kernel_rfl) args w
def aqI (args:Array Value)(w:World):(callFunc 313 args).run P w=((ReflectliteType.relation "Implements" ReflectliteType.implements_ args).run P w).andThen λv w'=>.ok (.value v) w':=run_callFunc_extern Go.Proofs.Tryz.func313 (by kernel_rfl) (by kernel_rfl) (by kernel_rfl) (by kernel_rfl) args w
def aiH (args:Array Value)(w:World):(callFunc 310 args).run P w=((ReflectliteType.relation "AssignableTo" ReflectliteType.assignableTo args).run P w).andThen λv w'=>.ok (.value v) w':=run_callFunc_extern Go.Proofs.Tryz.func310 (by kernel_rfl) (by kernel_rfl) (by kernel_rfl) (by kernel_rfl) args w
def Q4:oT 297 fns=false:=by kernel_rfl
def aiI:oT 312 fns=false:=by kernel_rfl
def aiJ:oT 313 fns=false:=by kernel_rfl
def Wu:oT 310 fns=false:=by kernel_rfl
abbrev vP (a:Addr):Value:=.agg #[.pointer (some ⟨8,120,none⟩),.pointer (some a),.int .u64 150]
abbrev vR (a:Addr):Value:=.agg #[.pointer (some ⟨8,108,none⟩),.pointer (some a),.int .u64 130]
abbrev vE (a:Addr):Value:=.agg #[.pointer (some ⟨8,108,none⟩),.pointer (some a),.int .u64 386]
def rlm (z:Sem Value)(f:TypeId->Addr->Nat->Nat->Sem Value)(v:Value):
 ReflectliteValue.method z f #[v]=(do match<-ReflectliteValue.parts v with|none=>z|some (t,a,fl)=>f t a fl (fl%32)):=rfl
def zN (a:Addr)(w:World):(ReflectliteValue.parts (vP a)).run P w=.ok (some (120,a,150)) w:=by kernel_rfl
def Jf (a:Addr)(w:World):(ReflectliteValue.parts (vR a)).run P w=.ok (some (108,a,130)) w:=by kernel_rfl
def Jg (a:Addr)(w:World):(ReflectliteValue.parts (vE a)).run P w=.ok (some (108,a,386)) w:=by kernel_rfl
def L8 (a p:Addr)(w:World)(ha:w.cell? a=some (.pointer (some p))):(ReflectliteValue.method (ReflectliteValue.valueError "reflectlite.Value.IsNil" 0) ReflectliteValue.isNil #[vP a]).run P w=.ok (.bool false) w:=by rw[rlm];simp[Sem.run_bind,zN,Result.andThen];simp[ReflectliteValue.isNil,loadVar,isAgg,underlying,Go.Proofs.Tryz.underlying120,ha,Result.andThen]
def Jh (w:World):(Rtype.elem? 120).run P w=.ok (some 108) w:=by kernel_rfl
def acd (p:Addr)(w:World):(ReflectliteValue.mk 108 p ReflectliteValue.flagAddr).run P w=.ok (vE p) w:=by kernel_rfl
def L9 (a p:Addr)(w:World)(ha:w.cell? a=some (.pointer (some p))):(ReflectliteValue.method (ReflectliteValue.valueError "reflectlite.Value.Elem" 0) ReflectliteValue.elem #[vP a]).run P w=.ok (vE p) w:=by rw[rlm];simp[Sem.run_bind,zN,Result.andThen];simp[ReflectliteValue.elem,loadVar,isAgg,underlying,Go.Proofs.Tryz.underlying120,ha,Result.andThen,Jh,acd]
def rls (v x:Value):ReflectliteValue.set #[v,x]=(do
 let(some (dst,a,fl),some (src,b,_)):=(<-ReflectliteValue.parts v,<-ReflectliteValue.parts x)
  |unsupported (.noEntry "extern/(internal/reflectlite.Value).Set.zeroValue")
 if fl/ReflectliteValue.flagAddr%2==0 then unsupported (.noEntry "extern/(internal/reflectlite.Value).Set.unaddressable")
 let val<-loadVar src b
 if<-Rtype.directlyAssignable dst src then storeVar dst a val
 else if<-Rtype.implements dst src then
  if(<-Rtype.kind src)==20 then
   match val with
   |.nilIface=>unsupported (.noEntry "extern/reflectlite: a nil value of one interface type handed on as a value of another")
   |_=>storeVar dst a val
  else storeVar dst a (.iface src val)
 else panicString ("reflectlite.Set: value of type "++(<-Rtype.spelt src)++ " is not assignable to type "++(<-Rtype.spelt dst))
 pure (.tuple #[])):=rfl
def Ji (w:World):(Rtype.directlyAssignable 108 108).run P w=.ok true w:=by kernel_rfl
def Ww (t b:Addr)(n:Int)(old:Value)(w:World)(hb:w.cell? b=some (ae n))(ht:w.cell? t=some old)(hf:w.frozen? t=false):
  (ReflectliteValue.set #[vE t,vR b]).run P w=.ok (.tuple #[]) (w.setCell t (ae n)):=by
 rw[rls];simp[Sem.run_bind,Jg,Jf,Result.andThen];simp[ReflectliteValue.flagAddr,loadVar,isAgg,underlying,Go.Proofs.Tryz.underlying108,hb,Result.andThen,Ji,storeVar,Value.cells,storeCells,Addr.add];rw[run_store P w t _ _ (by rfl)];simp[ht,hf]
end Go.Proofs.YtmegplnmiepfbaaGreatDoor.S
set_option maxRecDepth 20000
namespace Go.Proofs.YtmegplnmiepfbaaGreatDoor.S
open Go.Sx
open Go.Extern
attribute [local irreducible] tH callFunc Sem.run ReflectliteValue.method ReflectliteValue.set ReflectliteValue.unpack ReflectliteType.relation ReflectliteType.typeOf af cA bw bg aA cq bY St App cD cy cw bT bC aq bR av ak aV mapA
section
variable {F:Nat->Prop}{W w:World}{L:List As}{p r:Nat}{c v0:Int}
def SS {a b:Option Addr}{f:Int}{K:Option Addr->Option Addr->Int->Prop}(k:K a b f):dL (.agg #[.pointer a,.pointer b,.int .u64 f]) λl=>dK l λv0 l0=>dP v0 λa=>dK l0 λv1 l1=>dP v1 λb=>dK l1 λv2 l2=>dI .u64 v2 λf=>kL l2 (K a b f):=k
def al2 {A B:Prop}(h:A):dB (.bool true) λb=>cond b A B:=h
def aeb {A B:Prop}(h:B):dB (.bool false) λb=>cond b A B:=h
def al3 {A B:Prop}(h:B):dB (.bool true) λb=>cond (!b) A B:=h
def al4 {A B:Prop}(h:B):dI .u8 (.int .u8 22) λr=>cond (r !=22) A B:=h
def arV {A B:Prop}(h:A):dI .u8 (.int .u8 2) λr=>cond (r !=20) A B:=h
def aA3:zc T 161=[.pointer none,.pointer none,.int .u64 0]:=rfl
def al5 {ad:Addr}{v:Value}{K:World->Prop}(h:St ad v w K):(∃u,w.cell? ad=some u)/\w.frozen? ad=false/\K (w.setCell ad v):=by unfold St at h;exact h
def Q5 {b:Addr}{K:Value->World->Prop}(hb:w.cell? b=some (ae c))(h:St (aZ r) (ae c) w λw=>K (.tuple #[]) w):tH P 139 #[vE (aZ r),vR b] w K:=by obtain⟨⟨u,hu⟩,hf,k⟩:=al5 h;have he:=Ww (aZ r) b c u w hb hu hf;apply jW (w':=w.setCell (aZ r) (ae c)) aqG he;exact k
def Wx {Q:Bool->World->Prop}{k tb:Nat}{a:Nat}(s:Sep F W w (av tb 161 [.pointer (some ⟨8,120,none⟩),.pointer (sZ a),.int .u64 150]::av a 120 [.pointer (sZ r)]::av r 108 [ae v0]::L))
  (hQ:∀w',Sep F W w' (av r 108 [ae c]::L)->Q true w'){target:Value}:je Q (k+1) (.iface 108 (ae c)) target (.iface 219 (rt 108)) (aZ tb) w:=by
 show wL Q (je Q k) _ _ _ _ _;apply jW x95 (GP _ w);refine mT (Q1 _) Wu aiH (Q3 w) ?_;apply al2;refine lP s 0 rfl (lP s 0 rfl (lI s 0 rfl ?_));apply jW aqF (L9 (aZ a) (aZ r) w (by have:=cK s (i:=1) (j:=0) rfl rfl rfl;exact this));apply SS;refine jW x97 (Ee c w) ?_;apply SS;have s2:=tK (ai (ai s)) [ae c] 108;have s2:=s2;apply Q5 (c:=c) (by simp_all);refine ax s2 (i:=1) rfl rfl rfl λw s=>?_;exact hQ w (ai s)
def aiM {Q:Bool->World->Prop}{k tb:Nat}{a:Nat}(s:Sep F W w (av tb 161 [.pointer (some ⟨8,120,none⟩),.pointer (sZ a),.int .u64 150]::av a 120 [.pointer (sZ r)]::av r 108 [ae v0]::L))
  (hv:w.cell? ((aZ p).add 1)=some (.iface 108 (ae c)))
  (hQ:∀w',Sep F W w' (av r 108 [ae c]::L)->Q true w'){target:Value}:je Q (k+2) (.iface 78 (.pointer (sZ p))) target (.iface 219 (rt 108)) (aZ tb) w:=by
 show wL Q (je Q (k+1)) _ _ _ _ _;apply jW x95 (SP _ w);refine mT (Q1 _) Wu aiH (ad9 w) ?_;apply aeb;refine AU (ayi (.inl rfl) _ _ _) (SQ rfl ?_);refine AU (arU (.inl rfl) _ _ _) (SQ rfl ?_);exact ab_ hv rfl (tF (Wx s hQ))
def L_ {Q:Bool->World->Prop}(s:Sep F W w (av r 108 [ae v0]::L))(hv:∀w',Sep F W w' L->w'.cell? ((aZ p).add 1)=some (.iface 108 (ae c)))
  (h1:∀w',Sep F W w' L->w'.cell? (aZ 1)=some (.iface 219 (rt 74)))
  (hQ:∀w',Sep F W w' (av r 108 [ae c]::L)->Q true w'):
  nv (.iface 78 (.pointer (sZ p))) (.iface 120 (.pointer (sZ r))) w Q:=by
 apply Bg;refine tF (tF ?_);refine jW x97 (GQ (aZ r) w) ?_;apply SS;have s:=tK s [.pointer (sZ r)] 120;have s:=s;generalize w.heap.size=a at s⊢;generalize w.alloc (.cells #[.pointer (sZ r)] 120)=w1 at s⊢;refine aS s λvb w s=>?_;refine sT s 0 rfl λw s=>?_;refine sT s 0 rfl λw s=>?_;refine ax s (i:=0) rfl rfl rfl λw s=>?_;refine lP s 0 rfl (lP s 0 rfl (lI s 0 rfl ?_));apply jW x98 (Q0 (aZ a) w);refine mT (Ia _) Q4 aea (L6 w) ?_;apply al4;refine lP s 0 rfl (lP s 0 rfl (lI s 0 rfl ?_));apply jW x99 (L8 (aZ a) (aZ r) w (by have:=cK s (i:=1) (j:=0) rfl rfl rfl;exact this));apply aeb;refine mT (aaa _) aiI aqH (Q2 w) ?_;refine mT (Ia _) Q4 aea (L7 w) ?_;apply arV;apply mG (h1 w (ai (ai (ai s)))) rfl;refine mT (ad8 _) aiJ aqI (Ws w) ?_;apply al3;refine lP s 0 rfl (lP s 0 rfl (lI s 0 rfl ?_));apply Gi;have s:=ai s;refine aN s λtb w s=>?_;exact⟨2,aiM s (hv w (ai (ai (ai s)))) hQ⟩
end
end Go.Proofs.YtmegplnmiepfbaaGreatDoor.S
