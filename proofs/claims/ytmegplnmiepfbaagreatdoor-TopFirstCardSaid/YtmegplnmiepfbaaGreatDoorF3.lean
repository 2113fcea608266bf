/- Part 4 of the proof. -/
import Derived.Test.YtmegplnmiepfbaaGreatDoorF2
import Derived.Laws.Pointers
import Derived.Laws.Externs
import Derived.LaidEql
import Derived.Stop.Asserts
set_option linter.unusedVariables false
set_option linter.unusedSimpArgs false
set_option linter.defProp false
namespace Go.Proofs.YtmegplnmiepfbaaGreatDoor.S
open Go.Sx
open Go.Sort (swp PermIn SortedIn Below)
attribute [local irreducible] af cE bw bg aA cu bY St Bx Al App cJ cB cz bW aL bD aq bT av ak aW mapA
section
variable {F:Nat->Prop}{W w w0:World}{L:List As}{a:Option Addr}{n c:Nat}{d:Array bj}
def aix (lo b:Nat)(d d':Array bj):Prop:=PermIn lo b d d'/\SortedIn cR lo b d'
def aqt (hn:n<2000):∀(N:Nat) (lo b:Nat) (limit:Int) (wb wp:Bool) (d:Array bj) (w:World) (Q:World->Prop) (f:Nat),b-lo<=N->N<f->lo<=b->b<=n->Below cR lo b d->0<=limit/\limit<1000->Sep F W w (c8 a n c d::L)->
   (∀d' w',aix lo b d d'->Sep F W w' (c8 a n c d'::L)->Q w')->cL Q f a n c lo b limit iM wb wp w:=by
 intro N;induction N with
 |zero=>
  intro lo b limit wb wp d w Q f h1 hf h2 h3 hB Av s h;obtain⟨f,rfl⟩:∃g,f=g+1:=⟨f-1,by omega⟩;show gZ Q (cL Q f) _ _ _ _ _ _ _ _ _ _;unfold gZ;have hsz:=gm s;rw[aG,bM];refine Hl s (by omega) h2 h3 λw s=>h _ w ?_ s;exact Go.Sort.insertionSort_holds Fy d lo b h2 (by omega)
 |succ N ih=>
  have call:∀(lo b:Nat) (limit:Int) (d:Array bj) (w:World) (Q:World->Prop),b-lo<=N->lo<=b->b<=n->Below cR lo b d->0<=limit/\limit<1000->Sep F W w (c8 a n c d::L)->
    (∀d' w',aix lo b d d'->Sep F W w' (c8 a n c d'::L)->Q w')->fk a n c lo b limit iM w Q:=λlo b limit d w Q h1 h2 h3 h4 h5 s h=>by
   apply rP;exact⟨N+1,ih lo b limit true true d w Q (N+1) h1 (Nat.lt_succ_self N) h2 h3 h4 h5 s h⟩
  intro lo b limit wb wp d w Q f h1 hf h2 h3 hB Av s h;obtain⟨f,rfl⟩:∃g,f=g+1:=⟨f-1,by omega⟩;show gZ Q (cL Q f) _ _ _ _ _ _ _ _ _ _;unfold gZ;have hsz:=gm s;rw[aG];by_cases h12:b-lo<=12
  ·rw[bM];refine Hl s (by omega) h2 h3 λw s=>h _ w ?_ s;exact Go.Sort.insertionSort_holds Fy d lo b h2 (by omega)
  rw[bq];by_cases hl0:limit=0
  ·rw[dN hl0,cond_true];refine ad1 s (by omega) (by omega) h3 λw s=>h _ w ?_ s;exact Go.Sort.heapSort_holds Fy d lo b h2 (by omega)
  rw[cy hl0,cond_false];have via:∀{d1 d':Array bj},PermIn lo b d d1->aix lo b d1 d'->aix lo b d d':=λh1 h2=>⟨Go.Sort.permIn_trans _ _ _ _ _ h1 h2.1,h2.2⟩;have b20:∀(limit:Int) (pv:Nat) (d1:Array bj) (w:World),0<=limit/\limit<1000->lo<=pv/\pv<b->PermIn lo b d d1->Sep F W w (c8 a n c d1::L)->
    jx (cL Q f) Q a n c lo b limit iM ((b:Int)-lo) pv w:=λlimit pv d1 w Av hp hP s=>by
   have auL:=gm s;rcases hx:Go.Sort.partition cR d1 lo b pv with⟨mid,ap,d4⟩;obtain⟨p1,p2,p3,p4,p5,p6,p7⟩:=Go.Sort.round_part Fy (Go.Sort.partition_holds cR) hp.1 hp.2 (by omega) (Go.Sort.Below.perm hB (by omega) hP) hx;refine abT s (by omega) hp h3 λw s=>⟨by decide,?_⟩;rw[hx]at s⊢;rw[aG,aG,aG];by_cases hm:(mid:Int)-lo<b-mid
   ·rw[bM hm];refine call lo mid limit d4 w _ (by omega) (by omega) (by omega) p4 Av s λd5 w hS s=>?_;obtain⟨q1,q2⟩:=p6 d5 hS.1 hS.2;exact ih (mid+1) b limit _ _ d5 w Q f (by omega) (by omega) (by omega) h3 q1 Av s λd6 w hS2 s=>h d6 w (via hP (q2 d6 hS2.1 hS2.2)) s
   ·rw[bq hm];refine call (mid+1) b limit d4 w _ (by omega) (by omega) (by omega) p5 Av s λd5 w hS s=>?_;obtain⟨q1,q2⟩:=p7 d5 hS.1 hS.2;exact ih lo mid limit _ _ d5 w Q f (by omega) (by omega) (by omega) (by omega) q1 Av s λd6 w hS2 s=>h d6 w (via hP (q2 d6 hS2.1 hS2.2)) s
  have YD:∀(limit:Int) (pv:Nat) (d1:Array bj) (w:World),0<=limit/\limit<1000->lo<=pv/\pv<b->PermIn lo b d d1->Sep F W w (c8 a n c d1::L)->
    eU (cL Q f) Q a n c lo b limit iM wb wp ((b:Int)-lo) pv w:=λlimit pv d1 w Av hp hP s=>by
   have auL:=gm s;unfold eU;by_cases h0:lo>0
   ·rw[bM,aG];refine Gy (p:=lo-1) (ay s) (by omega) (by omega) rfl (by omega) λw s=>?_;show cond (!cR d1[lo-1]! d1[pv]!) _ _;cases hc:cR d1[lo-1]! d1[pv]! with
    |false=>
     rcases hx:Go.Sort.partitionEqual cR d1 lo b pv with⟨mid,d4⟩;obtain⟨p1,p2,p3,p4,p5⟩:=Go.Sort.round_eq Fy (Go.Sort.partitionEqual_holds cR) h0 hp.1 hp.2 (by omega) (Go.Sort.Below.perm hB (by omega) hP) hc hx;refine SP s (by omega) hp h3 λw s=>?_;rw[hx]at s⊢;exact ih mid b limit _ _ _ w Q f (by omega) (by omega) p2 h3 p4 Av s λd6 w hS2 s=>h d6 w (via hP (p5 d6 hS2.1 hS2.2)) s
    |true=>
     exact b20 limit pv d1 w Av hp hP s
   ·rw[bq];exact b20 limit pv d1 _ Av hp hP (ay s)
  have b15:∀(limit:Int) (pv:Nat) (hint:Int) (d1:Array bj) (w:World),0<=limit/\limit<1000->lo<=pv/\pv<b->PermIn lo b d d1->Sep F W w (c8 a n c d1::L)->
    gS (cL Q f) Q a n c lo b limit iM wb wp ((b:Int)-lo) pv hint w:=λlimit pv hint d1 w Av hp hP s=>by
   have auL:=gm s;unfold gS;cases hwb:wb with
   |false=>rw[cond_false];rw[hwb]at YD;exact YD limit pv d1 w Av hp hP s
   |true=>
    cases hwp:wp with
    |false=>rw[cond_false];rw[hwb,hwp]at YD;exact YD limit pv d1 w Av hp hP s
    |true=>
     rw[hwb,hwp]at YD;cases hint==1 with
     |false=>rw[cond_false];exact YD limit pv d1 w Av hp hP s
     |true=>
      have hpi:=Go.Sort.partialInsertionSort_holds Fy d1 lo b (by omega) (by omega) (Go.Sort.Below.perm hB (by omega) hP);refine Z5 s (by omega) (by omega) h3 λw s=>?_;cases hr:(Go.Sort.partialInsertionSort cR d1 lo b).2 with
      |true=>
       exact h _ w (via hP ⟨hpi.1,hpi.2 hr⟩) s
      |false=>
       exact YD limit pv _ w Av hp (Go.Sort.permIn_trans _ _ _ _ _ hP hpi.1) s
  have b10:∀(limit:Int) (d1:Array bj) (w:World),0<=limit/\limit<1000->PermIn lo b d d1->Sep F W w (c8 a n c d1::L)->
    jy (cL Q f) Q a n c lo b limit iM wb wp ((b:Int)-lo) w:=λlimit d1 w Av hP s=>by
   refine Yf s (by omega) (by omega) h3 λpv hint w hp s=>?_;cases hint==2 with
   |true=>
    refine agG s (by omega) (by omega) h3 λd2 w hP2 s=>?_;rw[aG (n:=(b:Int)-1),aG (n:=(pv:Int)-lo),aG,show(b:Int)-1-(pv-lo)=((b-1-(pv-lo):Nat):Int) by omega];exact b15 limit _ 1 d2 w Av (by omega) (Go.Sort.permIn_trans _ _ _ _ _ hP hP2) s
   |false=>
    exact b15 limit pv hint d1 w Av hp hP s
  cases wb with
  |false=>
   refine aiw s hn (by omega) h3 λd1 w hP s=>?_;rw[aG];exact b10 (limit-1) d1 w (by omega) hP s
  |true=>
   exact b10 limit d w Av (Go.Sort.permIn_refl _ _ _) s
def aoe (hn:n<2000){lo b:Nat}{limit:Int}{Q:World->Prop}(h2:lo<=b)(h3:b<=n)(h4:Below cR lo b d)(h5:0<=limit/\limit<1000)(s:Sep F W w (c8 a n c d::L))
  (h:∀d' w',aix lo b d d'->Sep F W w' (c8 a n c d'::L)->Q w'):fk a n c lo b limit iM w Q:=by
 apply rP;exact⟨b-lo+1,aqt hn (b-lo) lo b limit true true d w Q (b-lo+1) (Nat.le_refl _) (by omega) h2 h3 h4 h5 s h⟩
def ad3 {Q:World->Prop}{xs:List bj}(s:Sep F W w (ak a n c 294 3 (flat fT xs)::L))(hn:n<2000)(h:∀w',Sep F W w' (ak a n c 294 3 (flat fT (Z0 xs))::L)->Q w'):
  kO a n c iM w Q:=by
 have s:=s;have hsz:=gm s;apply AR;rw[ko (by omega)];refine Q2 (by omega) λv hv _ _=>?_;refine aoe hn (Nat.zero_le _) (Nat.le_refl _) (.inl rfl) (by omega) s λd' w hS s=>h w ?_;have:=Go.Sort.sorted_unique_holds Fy (λx y h k=>auC h k) xs.toArray d' (by rw[hsz];exact hS.1) (by rw[hsz];exact hS.2);unfold Z0;grind
def agH {Q:Option Addr->Nat->Nat->World->Prop}{xs:List bj}(s:Sep F W w (ak a n c 294 3 (flat fT xs)::L))(hn:n<1000000)(hnd:xs.Nodup)(h:∀w',Sep F W w' (ak a n c 294 3 (flat fT xs)::L)->Q a n c w'):
  lj a n c w Q:=by
 have s:Sep F W w (c8 a n c xs.toArray::L):=s;have hsz:=gm s;have hl:xs.length=n:=by grind
 apply Bb;by_cases h2:n<2
 ·grind
 ·rw[bq];have loop:∀(k i:Nat) (w:World),i+k=n->0<i->Sep F W w (c8 a n c xs.toArray::L)->fo Q (k+1) a n c i w:=by
   intro k;induction k with
   |zero=>
    intro i w hi h0 s;show gH Q (fo Q 0) _ _ _ _ _;unfold gH;grind
   |succ k ih=>
    intro i w hi h0 s;show gH Q (fo Q (k+1)) _ _ _ _ _;rw[gH,bM,aG];apply RdS (ay s) rfl (by omega);apply RdS (k:=i-1) (ay s) (by omega) (by omega);have hne:xs.toArray[i]!≠xs.toArray[i-1]!:=λe=>by have e1:=Xj (d:=xs.toArray) (k:=i) (by omega);have e2:=Xj (d:=xs.toArray) (k:=i-1) (by omega);rw[e,<-e2]at e1;have e1:=e1;have:=(List.getElem?_inj (by omega) hnd).1 e1;omega
    apply aod;rw[bq hne,aG];exact ih (i+1) _ (by omega) (by omega) (ay s)
  exact⟨n-1+1,loop (n-1) 1 w (by omega) (by omega) s⟩
def aof {xs:List bj}(h:xs.Nodup):(Z0 xs).Nodup:=(List.mergeSort_perm xs _).nodup_iff.2 h
def Aw {Q:Option Addr->Nat->Nat->World->Prop}{xs:List bj}(s0:Sep F W w L)(hX:Sl w a n c 3 fT xs)(hn:n<2000)(hnd:xs.Nodup)(h:∀ra rc w',Sep F W w' (ak ra n rc 294 3 (flat fT (NB xs))::L)->Fr No w w'->Q ra n rc w'):
  kG a n c w Q:=by
 apply ZE;refine V8 (bh (F:=No)) hX (by omega) λra rc w1 s _=>?_;refine ad3 s hn λw1 s=>?_;refine agH s (by omega) (aof hnd) λw1 s=>?_;exact h ra rc w1 (dA s0 s (i:=0) rfl) (au s)
def Z6 {Q:Bool->World->Prop}{xs ys:List bj}{b:Option Addr}{m e:Nat}(hX:Sl w a n c 3 fT xs)(hY:Sl w b m e 3 fT ys)(s0:Sep F W w L)(hn:n<1000000)(hm:m<1000000)(h:∀w',Sep F W w' L->Fr No w w'->Q (decide (xs=ys)) w'):
  EM a n c b m e w Q:=by
 apply ZM;apply Ch;have h1:=hX.len;have h2:=hY.len;have fin:∀(r:Bool) (w':World),r=decide (xs=ys)->Sep No w w' []->Q r w':=λr w' e s=>by subst e;exact h w' (bS s0 (au s)) (au s)
 by_cases hl:n=m
 ·subst hl;have loop:∀(k i:Nat) (w1:World),i+k=n->xs.take i=ys.take i->Sep No w w1 []->fQ Q (k+1) a n c b n e n i w1:=by
   intro k;induction k with
   |zero=>
    intro i w1 hi he s;show g6 Q (fQ Q 0) _ _ _ _ _ _ _ _ _;unfold g6;grind
   |succ k ih=>
    intro i w1 hi he s;show g6 Q (fQ Q (k+1)) _ _ _ _ _ _ _ _ _;rw[g6,bM];have s:=ay s;refine(hX.fr (au s)).El rfl (by omega) λp x hx hc=>?_;refine aR (hc 0 _ rfl) (aR (hc 1 _ rfl) (aR (hc 2 _ rfl) ?_));refine(hY.fr (au s)).El rfl (by omega) λp y hy hc=>?_;refine aR (hc 0 _ rfl) (aR (hc 1 _ rfl) (aR (hc 2 _ rfl) ?_));apply auJ;by_cases hxy:x=y
    ·rw[decide_eq_true hxy,Bool.not_true,cond_false,aG];refine ih (i+1) _ (by omega) ?_ s;rw[List.take_add_one,List.take_add_one,hx,hy,he,hxy]
    grind
  rw[bne_self_eq_false,cond_false];exact⟨n+1,loop n 0 w (by omega) (by simp) bh⟩
 ·rw[show((n:Int) !=(m:Int))=true by grind,cond_true];refine fin false _ ?_ bh;grind
end
end Go.Proofs.YtmegplnmiepfbaaGreatDoor.S
namespace Go.Proofs.YtmegplnmiepfbaaGreatDoor.S
open Go.Sx
attribute [local irreducible] af cE bw bg aA cu bY St Bx Al App cJ cB cz bW aL bD aq bT av ak aW mapA
section
variable {W w w0:World}{p rp:Nat}{tw th a:Int}{ca ta da:Option Addr}{cn cc tn tc dn dc:Nat}{cs ds:List Int}{xs todo:List bj}{l:List (Int×Int)}{bs:List Rg.Bk}{N:Nat}
def swc (tw th:Int)(ca:Option Addr)(cn cc rp:Nat)(ta:Option Addr)(tn tc:Nat)(da:Option Addr)(dn dc:Nat):List Value:=
 [ae tw,ae th,.slice ca cn cc,.pointer (sZ rp),.slice ta tn tc,.slice da dn dc]
abbrev Dp (p rp:Nat)(tw th:Int)(ca:Option Addr)(cn cc:Nat)(a:Int)(l:List (Int×Int))(bs:List Rg.Bk)(N:Nat)(ta:Option Addr)(tn tc:Nat)(todo:List bj)(da:Option Addr)(dn dc:Nat)(ds:List Int):List As:=
 [av p 363 (swc tw th ca cn cc rp ta tn tc da dn dc),Rg.Bw rp a l bs N,ak ta tn tc 294 3 (flat fT todo),ak da dn dc 3 1 (flat one ds)]
def aog {Q:World->Prop}
  (h:∀(l':List (Int×Int)) (N':Nat) (todo':List bj) bs' Yy tn' Yz w',Cs tw th cs xs a l' N' todo' ds->(∀x∈todo',a+256<=x.k)->l'.length+todo'.length=l.length+todo.length->(l'=[]->l=[]/\todo'=todo)->Sep No w0 w' (Dp p rp tw th ca cn cc a l' bs' N' Yy tn' Yz todo' da dn dc ds)->Q w')(v9:cs.length<=256)(hxs:xs.length<2000):
  ∀(Ix:List bj) (l1:List (Int×Int)) (N1:Nat) (yh:List Rg.Bk) (ta1:Option Addr) (tn1 tc1:Nat) (w:World),Cs tw th cs xs a l1 N1 Ix ds->l1.length+Ix.length=l.length+todo.length->(l1=[]->l=[]/\Ix=todo)->
   Sep No w0 w (Dp p rp tw th ca cn cc a l1 yh N1 ta1 tn1 tc1 Ix da dn dc ds)->gy Q (Ix.length+1) (sZ p) w:=by
 intro Ix;induction Ix with
 |nil=>
  intro l1 N1 yh ta1 tn1 tc1 w I hl he s;show x9 Q (gy Q 0) _ _;have QN:=(aN s (i:=2) rfl nC (by decide)).len;refine ah (gT (ay s) (i:=0) rfl rfl rfl ?_);subst QN;exact h l1 N1 [] yh ta1 _ tc1 _ I (by simp) hl he (ay s)
 |cons x Ix ih=>
  intro l1 N1 yh ta1 tn1 tc1 w I hl he s;show x9 Q (gy Q (Ix.length+1)) _ _;have hX:=aN s (i:=2) rfl nC (by decide);have QN:=hX.len;have Wh:=I.fS;simp[List.length_cons]at QN Wh;have s:=ay s;refine ah (lS s 0 rfl ?_);rw[bM];refine ah (lP s 0 rfl (ah (lS s 0 rfl ?_)));refine hX.El (k:=0) rfl (by omega) λq y hy hc=>?_;have hy:x=y:=by grind
  subst hy;refine aR (hc 2 _ rfl) (ah (lS s 0 rfl ?_));refine hX.El (k:=0) rfl (by omega) λq y hy hc=>?_;have hy:x=y:=by grind
  subst hy;have hc0:=hc 0 _ rfl;refine aR hc0 ?_;have Z3:=I.top (kc x) (by simp);have SE:=I.low x (by simp);have hk:(kc x).1=x.k:=rfl;refine Rg.QZ s (i:=1) rfl (by omega) (by omega) (λhno=>?_) λhyes w Ho s=>?_
  ·refine h l1 N1 (x::Ix) yh ta1 tn1 tc1 _ I (λy hy=>?_) hl he s;rcases List.mem_cons.1 hy with rfl|hy
   ·omega
   ·have:=(List.pairwise_cons.1 I.NI).1 y hy;omega
  ·rw[cond_true];refine ah (lS s 0 rfl ?_);apply Pd (m:=1) rfl (by omega);refine ah (sT s 0 rfl λw s=>?_);have s:=afW (m:=1) s (i:=2) rfl (by omega);refine ih (l1++[kc x]) (N1+1) Ho _ _ _ w I.take (by simp[List.length_append,List.length_cons,List.length_nil]at hl⊢;omega) (λe=>by simp at e) s
def abW {Q:World->Prop}(I:Cs tw th cs xs a l N todo ds)(v9:cs.length<=256)(hxs:xs.length<2000)(s:Sep No w0 w (Dp p rp tw th ca cn cc a l bs N ta tn tc todo da dn dc ds))
  (h:∀(a':Int) (l':List (Int×Int)) (N':Nat) (todo':List bj) bs' Yy tn' Yz w',Cs tw th cs xs a' l' N' todo' ds->(∀x∈todo',a'+256<=x.k)->(l'=[]->todo'=[])->l'.length+todo'.length=l.length+todo.length->Sep No w0 w' (Dp p rp tw th ca cn cc a' l' bs' N' Yy tn' Yz todo' da dn dc ds)->Q w'):
  jM (sZ p) w Q:=by
 apply Lm;have hX:=aN s (i:=2) rfl nC (by decide);have QN:=hX.len;refine ah (lS s 0 rfl ?_);have go:∀(a1:Int) (yh:List Rg.Bk) (w:World),Cs tw th cs xs a1 l N todo ds->(l=[]->∀x∈todo.head?,a1=x.k)->Sep No w0 w (Dp p rp tw th ca cn cc a1 l yh N ta tn tc todo da dn dc ds)->∃k',gy Q k' (sZ p) w:=λa1 yh w I he s=>by
  refine⟨todo.length+1,aog (λl' N' todo' bs' Yy tn' Yz w' I' hf hl hn s'=>?_) v9 hxs todo l N yh ta tn tc w I rfl (λe=>⟨e,rfl⟩) s⟩;refine h a1 l' N' todo' bs' Yy tn' Yz w' I' hf (λe=>?_) hl s';obtain⟨e1,e2⟩:=hn e;cases todo with
  |nil=>exact e2
  |cons y ys=>
   have h1:=he e1 y (by simp);grind
 cases KT:todo with
 |nil=>
  subst KT;have QN:=QN;subst QN;exact go a bs w I (λ_ x hx=>by simp at hx) s
 |cons x ys=>
  subst KT;simp[List.length_cons]at QN;rw[bM];refine ah (lP s 0 rfl ?_);apply Rg.C6 s (i:=1) rfl;by_cases hl:l=[]
  ·subst hl;rw[dN (show((([]:List (Int×Int)).length:Nat):Int)=0 from rfl),cond_true];have s:=ay s;refine ah (lP s 0 rfl (ah (lS s 0 rfl ?_)));refine hX.El (k:=0) rfl (by omega) λq y hy hc=>?_;have hy:x=y:=by grind
   subst hy;refine aR (hc 2 _ rfl) ?_;have Z3:=I.top (kc x) (by simp);have hk:(kc x).1=x.k:=rfl;refine Rg.abO s (i:=1) rfl (λhno=>?_) λ_ w Ho s=>?_
   ·exact(hno ⟨rfl,I.low x (by simp),by omega⟩).elim
   ·exact go x.k Ho w I.jump (λ_ y hy=>by grind) s
  ·rw[cy (by simp_all),cond_false];grind
def aj4 {Q:World->Prop}{x key:Int}(hC:Sl w0 ca cn cc 1 bp cs)(hx:0<=x/\x<cs.length)(hds:ds.length=cs.length)(hk:a<=key/\key<a+256/\key<1000000000000)(hN:N+1<1000000)
  (s:Sep No w0 w (Dp p rp tw th ca cn cc a l bs N ta tn tc todo da dn dc ds))
  (h:∀bs' w',Sep No w0 w' (Dp p rp tw th ca cn cc a (l++if gi cs x.toNat≠255/\gi ds x.toNat=bR then[(key,x)]else[]) bs' (N+(if gi cs x.toNat≠255/\gi ds x.toNat=bR then[(key,x)]else[]).length) ta tn tc todo da dn dc ds)->Q w'):
  ir (sZ p) x key w Q:=by
 apply Ki;have hD:=aN s (i:=3) rfl cF (by decide);have QS:=hC.len;have hdn:=hD.len;have skip:¬(gi cs x.toNat≠255/\gi ds x.toNat=bR)->Q w:=λhn=>by apply h bs w;grind
 refine ah (lS s 0 rfl ?_);apply(hC.fr (au s)).yK (k:=x.toNat) (by omega) (by omega);by_cases h1:gi cs x.toNat=255
 ·grind
 ·rw[show(gi cs x.toNat !=255)=true by grind,cond_true];refine ah (lS s 0 rfl ?_);apply hD.rJ (k:=x.toNat) (by omega) (by omega);by_cases h2:gi ds x.toNat=bR
  ·rw[dN (show gi ds x.toNat=1099511627776 from h2),cond_true];refine ah (lP s 0 rfl ?_);refine Rg.QZ s (i:=1) rfl (by omega) (by omega) (λhno=>(hno ⟨hk.1,hk.2.1⟩).elim) λ_ w Ho s=>?_;apply h Ho w;grind
  ·rw[cy (show gi ds x.toNat≠1099511627776 from h2),cond_false];grind
def aiy {Q:World->Prop}{x:Int}(hC:Sl w0 ca cn cc 1 bp cs)(hcs:∀x∈cs,1<=x/\x<256)(hw:1<=tw/\tw<=16)(hh:1<=th/\th<=16)(hlen:(cs.length:Int)=tw*th)(hx:0<=x/\x<cs.length)(I_:gi cs x.toNat≠255)(hds:ds.length=cs.length)
  (ha:gi ds x.toNat=a)(hab:0<=a/\a<100000000000)(hN:N+4<1000000)(s:Sep No w0 w (Dp p rp tw th ca cn cc a l bs N ta tn tc todo da dn dc ds))
  (h:∀bs' w',Sep No w0 w' (Dp p rp tw th ca cn cc a (l++kU tw th cs ds (a+gi cs x.toNat) x 4) bs' (N+(kU tw th cs ds (a+gi cs x.toNat) x 4).length) ta tn tc todo da dn dc ds)->Q w'):
  sU (sZ p) x w Q:=by
 apply JG;have hD:=aN s (i:=3) rfl cF (by decide);have QS:=hC.len;have hdn:=hD.len;have hcx:=hcs _ (ff (i:=x.toNat) (by omega));have KZ:x<257:=by have:tw*th<=16*16:=Int.mul_le_mul hw.2 hh.2 (by omega) (by decide);omega
 have d0:0<=x/tw:=Int.ediv_nonneg hx.1 (by omega);have d1:x/tw<=x:=Int.ediv_le_self _ hx.1;have s:=ay s;refine ah (lS s 0 rfl ?_);apply hD.drew.rJ (k:=x.toNat) (by omega) (by omega);refine ah (lS s 0 rfl ?_);apply(hC.fr (au s)).yK (k:=x.toNat) (by omega) (by omega);have s:=ay s;refine ah (lI s 0 rfl ⟨by omega,ah (lI s 0 rfl ⟨by omega,cg s 0 rfl,?_⟩)⟩);rw[ha,Int.tdiv_eq_ediv_of_nonneg hx.1,Int.tmod_eq_emod_of_nonneg hx.1,aG,aG (n:=gi cs x.toNat),aG];generalize hkey:a+gi cs x.toNat=key at h;have hkr:a<=key/\key<a+256/\key<1000000000000:=by omega
 have one:∀{j:Nat} {yh:List Rg.Bk} {w:World} {K:World->Prop} {y:Int},j<4->0<=bN tw th x j->y=bN tw th x j->Sep No w0 w (Dp p rp tw th ca cn cc a (l++kU tw th cs ds key x j) yh (N+(kU tw th cs ds key x j).length) ta tn tc todo da dn dc ds)->
   (∀Ho w',Sep No w0 w' (Dp p rp tw th ca cn cc a (l++kU tw th cs ds key x (j+1)) Ho (N+(kU tw th cs ds key x (j+1)).length) ta tn tc todo da dn dc ds)->K w')->ir (sZ p) y key w K:=λ{j yh w K y} hj h0 hy s hK=>by
  subst hy;have hr:=SO hw.1 hh.1 (by grind) h0;have IG:=We tw th cs ds key x j;refine aj4 hC ⟨h0,by grind⟩ hds hkr (by omega) s λHo w s=>hK Ho w ?_;rw[abS];unfold abR;grind
 have none:∀{j:Nat} {yh:List Rg.Bk} {w:World},¬0<=bN tw th x j->Sep No w0 w (Dp p rp tw th ca cn cc a (l++kU tw th cs ds key x j) yh (N+(kU tw th cs ds key x j).length) ta tn tc todo da dn dc ds)->
   Sep No w0 w (Dp p rp tw th ca cn cc a (l++kU tw th cs ds key x (j+1)) yh (N+(kU tw th cs ds key x (j+1)).length) ta tn tc todo da dn dc ds):=λ{j yh w} h0 s=>by
  rw[abS];unfold abR;grind
 have n0:bN tw th x ((0:Nat):Int)=if x/tw>0 then x-tw else-1:=by unfold bN;rw[if_pos (by decide)]
 have n1:bN tw th x ((1:Nat):Int)=if x%tw<tw-1 then x+1 else-1:=by unfold bN;rw[if_neg (by decide),if_pos (by decide)]
 have n2:bN tw th x ((2:Nat):Int)=if x/tw<th-1 then x+tw else-1:=by unfold bN;rw[if_neg (by decide),if_neg (by decide),if_pos (by decide)]
 have n3:bN tw th x ((3:Nat):Int)=if x%tw>0 then x-1 else-1:=by unfold bN;rw[if_neg (by decide),if_neg (by decide),if_neg (by decide),if_pos (by decide)]
 have hxe:x=x/tw*tw+x%tw:=by have:=Int.mul_ediv_add_emod x tw;rw[Int.mul_comm]at this;omega
 have hm0:0<=x%tw:=Int.emod_nonneg _ (by omega);have b8:∀(yh:List Rg.Bk) (w:World),Sep No w0 w (Dp p rp tw th ca cn cc a (l++kU tw th cs ds key x 3) yh (N+(kU tw th cs ds key x 3).length) ta tn tc todo da dn dc ds)->my Q (some ⟨p,0,Option.none⟩) x key (x%tw) w:=λyh w s=>by
  unfold my;by_cases q:x%tw>0
  ·rw[bM q,aG];rw[if_pos q]at n3;refine one (by decide) (by rw[n3];have:=Int.mul_nonneg d0 (show 0<=tw by omega);omega) n3.symm s λHo w s=>h Ho w s
  ·rw[bq q];rw[if_neg q]at n3;exact h yh w (none (by rw[n3];decide) s)
 have b6:∀(yh:List Rg.Bk) (w:World),Sep No w0 w (Dp p rp tw th ca cn cc a (l++kU tw th cs ds key x 2) yh (N+(kU tw th cs ds key x 2).length) ta tn tc todo da dn dc ds)->pH Q (some ⟨p,0,Option.none⟩) x key (x%tw) (x/tw) w:=λyh w s=>by
  refine ah (lI s 0 rfl ?_);rw[aG];by_cases q:x/tw<th-1
  ·rw[bM q];refine ah (lI s 0 rfl ?_);rw[aG];rw[if_pos q]at n2;exact one (by decide) (by rw[n2];omega) n2.symm s λHo w s=>b8 Ho w s
  ·rw[bq q];rw[if_neg q]at n2;exact b8 yh w (none (by rw[n2];decide) s)
 have b4:∀(yh:List Rg.Bk) (w:World),Sep No w0 w (Dp p rp tw th ca cn cc a (l++kU tw th cs ds key x 1) yh (N+(kU tw th cs ds key x 1).length) ta tn tc todo da dn dc ds)->pI Q (some ⟨p,0,Option.none⟩) x key (x%tw) (x/tw) w:=λyh w s=>by
  refine ah (lI s 0 rfl ?_);rw[aG];by_cases q:x%tw<tw-1
  ·rw[bM q,aG];rw[if_pos q]at n1;exact one (by decide) (by rw[n1];omega) n1.symm s λHo w s=>b6 Ho w s
  ·rw[bq q];rw[if_neg q]at n1;exact b6 yh w (none (by rw[n1];decide) s)
 have e0:kU tw th cs ds key x 0=[]:=rfl;have s:Sep No w0 w.drew.drew (Dp p rp tw th ca cn cc a (l++kU tw th cs ds key x 0) bs (N+(kU tw th cs ds key x 0).length) ta tn tc todo da dn dc ds):=by rw[e0,List.append_nil];exact s
 by_cases q:x/tw>0
 ·rw[bM q];refine ah (lI s 0 rfl ?_);rw[aG];rw[if_pos q]at n0;refine one (by decide) ?_ n0.symm s λHo w s=>b4 Ho w s;have:=Int.mul_le_mul_of_nonneg_right (show 1<=x/tw by omega) (show 0<=tw by omega);omega
 grind
def aqw {Q:World->Prop}(hC:Sl w0 ca cn cc 1 bp cs)(hcs:∀x∈cs,1<=x/\x<256)(hw:1<=tw/\tw<=16)(hh:1<=th/\th<=16)(hlen:(cs.length:Int)=tw*th)(v9:cs.length<=256)(hxs:xs.length<2000)
  (h:∀a bs N ta tn tc w',Sep No w0 w' (Dp p rp tw th ca cn cc a [] bs N ta tn tc [] da dn dc (ju tw th cs xs))->Q w'):
  ∀(f:Nat) (a:Int) (l:List (Int×Int)) (bs:List Rg.Bk) (N:Nat) (ta:Option Addr) (tn tc:Nat) (todo:List bj) (ds:List Int) (w:World),l.length+todo.length+5*Gx ds<=f->0<=a->Cs tw th cs xs a l N todo ds->(∀x∈todo,a+256<=x.k)->(l=[]->todo=[])->
   Sep No w0 w (Dp p rp tw th ca cn cc a l bs N ta tn tc todo da dn dc ds)->jO Q (f+1) (sZ p) w:=by
 intro f;induction f with
 |zero=>
  intro a l bs N ta tn tc todo ds w hf ha I auN aiz s;obtain rfl:l=[]:=List.eq_nil_of_length_eq_zero (by omega);have KT:=aiz rfl;subst KT;show zm Q (jO Q 0) _ _;refine ah (lP s 0 rfl (Rg.C6 s (i:=1) rfl ?_));apply h a bs N ta tn tc w;rw[<-I.done];exact s
 |succ f ih=>
  intro a l bs N ta tn tc todo ds w hf ha I auN aiz s;show zm Q (jO Q (f+1)) _ _;refine ah (lP s 0 rfl (Rg.C6 s (i:=1) rfl ?_));by_cases hl:l=[]
  ·subst hl;have KT:=aiz rfl;subst KT;apply h a bs N ta tn tc w;rw[<-I.done];exact s
  ·have hl0:=List.length_pos_iff.2 hl;have ax7:=Rg.HV s (i:=1) rfl;rw[bM];refine ah (lP s 0 rfl ?_);refine Rg.ad0 s (i:=1) rfl (λe=>(hl e).elim) λw k l1 x l2 Ho e awe awf sN=>?_;subst e;have s:=sN;have hin:(k,x)∈(l1++(k,x)::l2)++todo.map kc:=by simp
   have I_:=I.Ec _ hin;have Z3:=I.top _ hin;simp[List.length_append,List.length_cons]at Z3 hf;have hfit:=ax7.fit (k,x) (by simp);have hmin:∀e∈l1++l2,k<=e.1:=λe he=>by
    rcases List.mem_append.1 he with he|he
    ·have:=awe e he;omega
    ·exact awf e he
   have ar4:∀y∈todo,k<=y.k:=λy hy=>by have:=auN y hy;omega
   have hD:=aN s (i:=3) rfl cF (by decide);have hdn:=hD.len;have hdl:=I.len;have ax8:0<=x/\x<cs.length:=⟨I_.1,I_.2.1⟩;apply ah;apply lS s 0 rfl;apply hD.rJ (k:=x.toNat) (by omega) (by omega);have next:∀{l':List (Int×Int)} {N':Nat} {bs':List Rg.Bk} {ds':List Int} {w:World},Cs tw th cs xs k l' N' todo ds'->l'.length+todo.length+5*Gx ds'<=f->Sep No w0 w (Dp p rp tw th ca cn cc k l' bs' N' ta tn tc todo da dn dc ds')->
     jM (sZ p) w λw'=>jO Q (f+1) (sZ p) w':=λI' hf' s'=>by
    refine abW I' v9 hxs s' λa' l' N' todo' bs' Yy tn' Yz w' I2 alQ alR hl2 s2=>?_;have alS:=Rg.HV s2 (i:=1) rfl;exact ih a' l' bs' N' Yy tn' Yz todo' _ w' (by omega) alS.nn I2 alQ alR s2
   by_cases hd:gi ds x.toNat=bR
   ·rw[dN (show gi ds x.toNat=1099511627776 from hd),cond_true];apply ah;apply lS s 0 rfl;refine EW cF s (i:=3) (k:=x.toNat) (x':=k) rfl (by omega) (by omega) rfl rfl λw s=>?_;have Hj:=Wd (k:=k) (by unfold bR;omega) (by omega) hd;have Wh:=I.fS;have awg:gi (ds.set x.toNat k) x.toNat=k:=by rw[aaW (by omega),if_pos rfl]
    refine aiy hC hcs hw hh hlen ax8 I_.2.2 (by rw[List.length_set];exact hdl) awg ⟨by omega,by omega⟩ (by omega) s λbs' w s=>?_;have IG:=We tw th cs (ds.set x.toNat k) (k+gi cs x.toNat) x 4;refine next (I.step hcs hw.1 hh.1 hlen v9 hd hmin ar4 rfl) ?_ s
    simp[List.length_append];omega
   ·rw[cy (show gi ds x.toNat≠1099511627776 from hd),cond_false];refine next (I.skip ?_ ar4) (by simp[List.length_append];omega) s
    have hfx:fD ds x=gi ds x.toNat:=by unfold fD;rw[AI]
    by_cases q:fD ds x<bR
    ·exact q
    ·have:=I.dj.none x q;rw[hfx]at this;exact(hd this).elim
def aoj {Q:Option Addr->Nat->Nat->Int->World->Prop}(hC:Sl w0 ca cn cc 1 bp cs)(hcs:∀x∈cs,1<=x/\x<256)(hw:1<=tw/\tw<=16)(hh:1<=th/\th<=16)(hlen:(cs.length:Int)=tw*th)(v9:cs.length<=256)(hxs:xs.length<2000)
  (I:Cs tw th cs xs 0 [] 0 todo ds)(s:Sep No w0 w (Dp p rp tw th ca cn cc 0 [] bs 0 ta tn tc todo da dn dc ds))
  (h:∀da dc w',Sep No w0 w' [ak da cs.length dc 3 1 (flat one (ju tw th cs xs))]->Q da cs.length dc 0 w'):qV Q (aZ p) w:=by
 apply MM;refine abW I v9 hxs s λa' l' N' todo' bs' Yy tn' Yz w' I2 alQ alR hl2 s2=>?_;have alS:=Rg.HV s2 (i:=1) rfl;refine⟨_,aqw hC hcs hw hh hlen v9 hxs (λa bs N ta tn tc w s=>?_) _ a' l' bs' N' Yy tn' Yz todo' ds w' (Nat.le_refl _) alS.nn I2 alQ alR s2⟩;apply lS s 0 rfl;have hdn:=(aN s (i:=3) rfl cF (by decide)).len;have e:dn=cs.length:=by rw[<-hdn];simp[ju]
 subst e;exact h da dc w (ai (ai (ai s)))
end
section
variable {F:Nat->Prop}{W w w0:World}{L:List As}{tw th:Int}{ca la:Option Addr}{cn cc ln lc:Nat}{cs:List Int}{xs:List bj}
def Z7:(ju tw th cs xs).length=cs.length:=by simp[ju]
def ad4 {b:Nat}{v:Int}(s:Sep F W w (av b 3 [ae v]::L)):Sl w (sZ b) 1 1 1 one [v]:=
 aN (gX s (i:=0) rfl rfl (by decide) (λu hu=>by rw[List.mem_singleton]at hu;rw[hu];rfl)) (i:=0) rfl cF (by decide)
structure rW (tw th:Int) (cs:List Int):Prop where
 w:1<=tw/\tw<=16
 h:1<=th/\th<=16
 len:(cs.length:Int)=tw*th
 jA:∀x∈cs,1<=x/\x<256
def rW.small (h:rW tw th cs):1<=cs.length/\cs.length<=256:=by have h1:=Int.mul_le_mul h.w.2 h.h.2 (by have:=h.h;omega) (by decide);have h2:=Int.mul_le_mul h.w.1 h.h.1 (by decide) (by have:=h.w;omega);have:=h.len;omega
def Wi {Q:Option Addr->Nat->Nat->Int->World->Prop}(s0:Sep F W w L)(hA:Sl w ca cn cc 1 bp cs)(hX:Sl w la ln lc 3 fT xs)(hT:rW tw th cs)(hok:rU tw th cs xs=true)(hnd:xs.Nodup)(qe:ln<2000)
  (h:∀da dc w',Sep F W w' (ak da cs.length dc 3 1 (flat one (ju tw th cs xs))::L)->Fr No w w'->Q da cs.length dc 0 w'):xe tw th ca cn cc la ln lc w Q:=by
 apply VI;have v9:=hT.small;have hxl:=hX.len;have yg:=hA.len;refine aO (bh (F:=No)) λtb w1 s=>?_;refine lI s 0 rfl (lI s 0 rfl (lS s 0 rfl ?_));refine Nx s (hA.fr (au s)) (hX.fr (au s)) (by omega) λw1 s _=>?_;rw[hok,Bool.not_true,cond_false];have s:=ay s;refine lI s 0 rfl (lI s 0 rfl (lS s 0 rfl (lS s 0 rfl ?_)));have fin:∀{p rp:Nat} {bs:List Rg.Bk} {ta da:Option Addr} {tc dn dc:Nat} {w':World},Sep No w w' (Dp p rp tw th ca cn cc 0 [] bs 0 ta ln tc (NB xs) da dn dc (List.replicate cs.length bR))->qV Q (aZ p) w':=λs=>
  aoj hA hT.jA hT.w hT.h hT.len v9.2 (by omega) (an5 hok (λx=>aqk) aql aj1) s λda dc w' s'=>h da dc w' (dA s0 s' (i:=0) rfl) (au s')
 have cell:∀{w':World} {L':List As} {i j:Nat} {v:Value},Sep No w w' L'->L'[i]? =some (av tb 84 [ae tw,ae th,.slice ca cn cc])->([ae tw,ae th,.slice ca cn cc]:List Value)[j]? =some v->w'.cell? ((aZ tb).add j)=some v:=λs hi hj=>cM s (by rw[cq,Nat.zero_add]) hi hj;have e0:((cn:Nat):Int)=((cs.length:Nat):Int):=by omega
 constructor
 ·refine Rg.Q0 s (λe=>by omega) λ_ rp w1 bs s=>?_;refine⟨cell s (i:=1) rfl rfl,cell s (i:=1) rfl rfl,cell s (i:=1) rfl rfl,cell s (i:=1) rfl rfl,?_,?_⟩
  ·refine Aw s (hX.fr (au s)) qe hnd λra rc w1 s _=>?_;refine⟨cell s (i:=2) rfl rfl,cell s (i:=2) rfl rfl,cell s (i:=2) rfl rfl,cell s (i:=2) rfl rfl,?_⟩;refine aO s λib w1 s=>?_;refine⟨cell s (i:=3) rfl rfl,cell s (i:=3) rfl rfl,cell s (i:=3) rfl rfl,cell s (i:=3) rfl rfl,?_⟩;rw[e0];refine LG s (ad4 s) (by omega) λda w1 s _=>?_;refine⟨cell s (i:=4) rfl rfl,cell s (i:=4) rfl rfl,cell s (i:=4) rfl rfl,?_⟩;refine aO s λpb w1 s=>?_;exact fin (pk 99 [0,4,3,1] s)
  ·refine aO s λib w1 s=>?_;refine⟨cell s (i:=2) rfl rfl,cell s (i:=2) rfl rfl,cell s (i:=2) rfl rfl,cell s (i:=2) rfl rfl,?_⟩;have hI:=ad4 s;refine Aw s (hX.fr (au s)) qe hnd λra rc w1 s f=>?_;refine⟨cell s (i:=3) rfl rfl,cell s (i:=3) rfl rfl,cell s (i:=3) rfl rfl,cell s (i:=3) rfl rfl,?_⟩;rw[e0];refine LG s (hI.fr f) (by omega) λda w1 s _=>?_;refine⟨cell s (i:=4) rfl rfl,cell s (i:=4) rfl rfl,cell s (i:=4) rfl rfl,?_⟩;refine aO s λpb w1 s=>?_;exact fin (pk 99 [0,4,2,1] s)
 ·refine aO s λib w1 s=>?_;refine⟨cell s (i:=1) rfl rfl,cell s (i:=1) rfl rfl,cell s (i:=1) rfl rfl,cell s (i:=1) rfl rfl,?_⟩;refine Rg.Q0 s (λe=>by omega) λ_ rp w1 bs s=>?_;refine⟨cell s (i:=2) rfl rfl,cell s (i:=2) rfl rfl,cell s (i:=2) rfl rfl,cell s (i:=2) rfl rfl,?_⟩;have hI:=ad4 (ai s);refine Aw s (hX.fr (au s)) qe hnd λra rc w1 s f=>?_;refine⟨cell s (i:=3) rfl rfl,cell s (i:=3) rfl rfl,cell s (i:=3) rfl rfl,cell s (i:=3) rfl rfl,?_⟩;rw[e0];refine LG s (hI.fr f) (by omega) λda w1 s _=>?_;refine⟨cell s (i:=4) rfl rfl,cell s (i:=4) rfl rfl,cell s (i:=4) rfl (j:=2) rfl,?_⟩;refine aO s λpb w1 s=>?_;exact fin (pk 99 [0,3,2,1] s)
end
end Go.Proofs.YtmegplnmiepfbaaGreatDoor.S
namespace Go.Proofs.YtmegplnmiepfbaaGreatDoor.S
open Go.Sx
def auP {cs:List Value}{t:TypeId}{w:World}{R:World->Prop}{K:Addr->World->Prop}(h:Bx cs t w K)(hr:R (w.alloc (.cells cs.toArray t))):Bx cs t w λp w1=>R w1/\K p w1:=⟨hr,h⟩
attribute [local irreducible] af cE bw bg aA cu bY St Bx Al App cJ cB cz bW aL bD aq bT av ak aW mapA
section
variable {F:Nat->Prop}{W w w0:World}{L:List As}{p:Nat}{tw th l:Int}{ca la da:Option Addr}{cn cc ln lc dn dc:Nat}{cs ds:List Int}{xs:List bj}
structure Xk (w:World) (p:Nat) (tw th:Int) (cs:List Int) (xs:List bj) (ds:List Int):Prop where
 ex:∃ca cn cc la ln lc da dn dc,rV w p [ae tw,ae th,.slice ca cn cc,.slice la ln lc,.slice da dn dc]/\Sl w ca cn cc 1 bp cs/\Sl w la ln lc 3 fT xs/\Sl w da dn dc 1 one ds/\ln<2000
 T:rW tw th cs
 len:ds.length=cs.length
 jA:∀x∈ds,0<=x/\x<=bR
def Xk.fr {w':World}(k:Xk w p tw th cs xs ds)(f:Fr No w w'):Xk w' p tw th cs xs ds:=by obtain⟨ca,cn,cc,la,ln,lc,da,dn,dc,h1,h2,h3,h4,h5⟩:=k.ex;exact⟨⟨ca,cn,cc,la,ln,lc,da,dn,dc,h1.fr f,h2.fr f,h3.fr f,h4.fr f,h5⟩,k.T,k.len,k.jA⟩
def Eu {Q:Bool->World->Prop}{s:Int}(s0:Sep F W w L)(k:Xk w p tw th cs xs ds)(hl:0<=l/\l<cs.length)(h:∀w',Sep F W w' L->Fr No w w'->Q (Tw tw th cs xs (fD ds) l s) w'):
  nG (sZ p) l s w Q:=by
 apply UF;have hT:=k.T;have v9:=hT.small;have hdl:=k.len;obtain⟨ca,cn,cc,la,ln,lc,da,dn,dc,k1,k2,k3,k4,k5⟩:=k.ex;have hdn:=k4.len;have QS:=k2.len;refine abJ (bh (F:=No)) k1 hT.w hT.h ⟨hl.1,by omega⟩ λw1 s1 f1=>?_;unfold Tw at h;have hfl:fD ds l=gi ds l.toNat:=by unfold fD;omega
 by_cases hn:bN tw th l s<0
 ·rw[bM hn];rw[if_pos hn,hfl]at h;have k1:=(k1.fr f1).fr (w':=w1.drew) Fr.refl;have k4:=(k4.fr f1).drew;refine ah (dx (k1 3 _ rfl) (ah (dx (k1 4 _ rfl) ?_)));refine Sl.El k4 (k:=l.toNat) (by omega) (by omega) λq x hx hc=>?_;rw[iz (by omega)]at hx;cases hx;have hc0:=hc 0 _ rfl;apply aR hc0;refine LL (ay s1) ((k3.fr f1).drew) (by omega) λw2 s2 f2=>?_;exact⟨Fr.cell f2 hc0 id,(k1.fr f2) 4 _ rfl,h _ (bS s0 (au s2)) (au s2)⟩
 ·rw[bq hn];rw[if_neg hn,hfl]at h;have hr:=SO hT.w.1 hT.h.1 (by rw[<-hT.len];exact hl) (show 0<=bN tw th l s by omega);have hnl:bN tw th l s<cs.length:=by rw[hT.len];exact hr.1
  have hfn:fD ds (bN tw th l s)=gi ds (bN tw th l s).toNat:=by unfold fD;omega
  rw[hfn]at h;have k1:=(k1.fr f1).fr (w':=w1.drew) Fr.refl;have k2:=(k2.fr f1).drew;have k4:=(k4.fr f1).drew;have s1:=ay s1;have YE:=hT.jA _ (ff (i:=(bN tw th l s).toNat) (by omega));have hd1:=k.jA _ (ff (i:=(bN tw th l s).toNat) (by omega));refine ah (dx (k1 2 _ rfl) ?_);apply k2.yK (k:=(bN tw th l s).toNat) (by omega) (by omega);have h:=h _ (bS s0 (au s1)) (au s1);by_cases h1:gi cs (bN tw th l s).toNat=255
  ·grind
  ·have e:(gi cs (bN tw th l s).toNat !=255)=true:=by grind
   rw[e,Bool.true_and]at h;rw[e,cond_true];refine ah (dx (k1 2 _ rfl) ?_);apply k2.yK (k:=(bN tw th l s).toNat) (by omega) (by omega);refine ah (dx (k1 4 _ rfl) ?_);apply k4.rJ (k:=(bN tw th l s).toNat) (by omega) (by omega);refine ah (dx (k1 4 _ rfl) ?_);apply k4.rJ (k:=l.toNat) (by omega) (by omega);unfold bR at hd1;rw[aG (n:=gi cs (bN tw th l s).toNat),aG];exact h
def ad5 {Q:Int->World->Prop}(s0:Sep F W w L)(k:Xk w p tw th cs xs ds)(hl:0<=l/\l<cs.length)(h:∀w',Sep F W w' L->Fr No w w'->Q (ZZ tw th cs xs (fD ds) l) w'):
  Ad (sZ p) l w Q:=by
 apply Sr;have hdl:=k.len;have hfl:fD ds l=gi ds l.toNat:=by unfold fD;omega
 obtain⟨ca,cn,cc,la,ln,lc,da,dn,dc,k1,k2,k3,k4,k5⟩:=k.ex;have hdn:=k4.len;refine ah (dx (k1 4 _ rfl) ?_);apply k4.rJ (k:=l.toNat) (by omega) (by omega);unfold ZZ at h;rw[hfl]at h;by_cases hI:gi ds l.toNat=bR
 ·rw[if_pos hI]at h;rw[dN (show gi ds l.toNat=1099511627776 from hI),cond_true];exact h w s0 Fr.refl
 rw[if_neg hI]at h;rw[cy (show gi ds l.toNat≠1099511627776 from hI),cond_false];refine ah (dx (k1 3 _ rfl) ?_);refine LL (bh (F:=No)) k3 (by omega) λw1 s1 f1=>?_;by_cases hB:Ir xs l 4=gi ds l.toNat
 ·rw[if_pos hB]at h;rw[dN hB.symm,cond_true];exact h w1 (bS s0 f1) f1
 rw[if_neg hB]at h;rw[cy (λe=>hB e.symm),cond_false];apply OH;unfold uz sA sy;refine Eu s1 (k.fr f1) hl λw1 s1 _=>?_;cases h0:Tw tw th cs xs (fD ds) l 0 with
 |true=>rw[h0,if_pos rfl]at h;rw[cond_true];exact h w1 (bS s0 (au s1)) (au s1)
 |false=>
  rw[h0,if_neg (by decide)]at h;refine Eu s1 (k.fr (au s1)) hl λw1 s1 _=>?_;cases h0:Tw tw th cs xs (fD ds) l 1 with
  |true=>rw[h0,if_pos rfl]at h;rw[cond_true];exact h w1 (bS s0 (au s1)) (au s1)
  |false=>
   rw[h0,if_neg (by decide)]at h;refine Eu s1 (k.fr (au s1)) hl λw1 s1 _=>?_;cases h0:Tw tw th cs xs (fD ds) l 2 with
   |true=>rw[h0,if_pos rfl]at h;rw[cond_true];exact h w1 (bS s0 (au s1)) (au s1)
   |false=>
    rw[h0,if_neg (by decide)]at h;refine Eu s1 (k.fr (au s1)) hl λw1 s1 _=>?_;cases h0:Tw tw th cs xs (fD ds) l 3 with
    |true=>rw[h0,if_pos rfl]at h;rw[cond_true];exact h w1 (bS s0 (au s1)) (au s1)
    |false=>rw[h0,if_neg (by decide)]at h;rw[cond_false];exact h w1 (bS s0 (au s1)) (au s1)
noncomputable def nT (tw th:Int)(cs:List Int)(xs:List bj):List Int:=(List.range cs.length).map λl:Nat=>ZZ tw th cs xs (fD (ju tw th cs xs)) l
def as_ (hok:rU tw th cs xs=true)(hT:rW tw th cs):∀x∈ju tw th cs xs,0<=x/\x<=bR:=λx hx=>by
 obtain⟨l,hl,rfl⟩:=List.mem_map.1 hx;unfold rU at hok;rw[Bool.and_eq_true,List.all_eq_true]at hok;have hs:∀x k,NA xs x k->0<=k/\k<=1073741824:=by rintro x k ⟨y,hy,rfl,rfl⟩;have:=hok.2 y hy;unfold Aq at this;grind
 have he:∀x n c,Iu tw th cs x n c->1<=c/\c<=254:=λx n c h=>by have h1:=hT.jA _ (ff (i:=n.toNat) (by have:=h.2.1;unfold It at this;omega));have h2:=h.2.1.2.2;rw[h.2.2.2];omega
 have alT:∀{x d},Wy (NA xs) (Iu tw th cs) x d->x∈(List.range cs.length).map λl:Nat=>(l:Int):=λhw=>by
  have hm:∀{x:Int},0<=x/\x<cs.length->x∈(List.range cs.length).map λl:Nat=>(l:Int):=λ{x} hx=>List.mem_map.2 ⟨x.toNat,List.mem_range.2 (by omega),by omega⟩;cases hw with
  |src h=>
   obtain⟨y,hy,rfl,rfl⟩:=h;have:=hok.2 y hy;unfold Aq at this;grind
  |go e _=>exact hm ⟨e.1.1,e.1.2.1⟩
 show 0<=gz _ _ _/\gz _ _ _<=bR;by_cases hw:∃d,Wy (NA xs) (Iu tw th cs) l d
 ·obtain⟨d,hd⟩:=hw;have h1:=aa1 hs he _ (λx d h=>alT h) hd;have h2:=mO (λx k h=>(hs x k h).1) (λx n c h=>by grind) (og (λx k h=>(hs x k h).1) (λx n c h=>by grind) hd).1;rw[List.length_map,List.length_range]at h1;have:=hT.small;unfold bR;omega
 ·rw[xO λd hd=>hw ⟨d,hd⟩];unfold bR;omega
def awh {a:Option Addr}{n c:Nat}{bs:List Int}{x:Int}{ad:Addr}{v:Value}{K:Option Addr->Nat->Nat->World->Prop}(s:Sep F W w (ak a n c 3 1 (flat one bs)::L))(hn:n<=1000000000)(hc:w.cell? ad=some v)
  (k:∀a' c' w',Sep F W w' (ak a' (n+1) c' 3 1 (flat one (bs++[x]))::L)->K a' (n+1) c' w'):Bx [ae x] 3 w λp w1=>w1.cell? ad=some v/\App P #[29,29] 29 (.slice a n c) (.slice (some p) 1 1) w1 K:=by
 have hB:=LD s hn k;exact auP hB (Fr.cell (F:=No) (Fr.alloc Fr.refl _) hc id)
def Yg {Q:Option Addr->Nat->Nat->Option Addr->Nat->Nat->Int->World->Prop}(s0:Sep F W w L)(hA:Sl w ca cn cc 1 bp cs)(hX:Sl w la ln lc 3 fT xs)(hT:rW tw th cs)(hok:rU tw th cs xs=true)(hnd:xs.Nodup)(qe:ln<2000)
  (h:∀da dc ra rc w',Sep F W w' (ak ra cs.length rc 3 1 (flat one (nT tw th cs xs))::ak da cs.length dc 3 1 (flat one (ju tw th cs xs))::L)->Fr No w w'->Q da cs.length dc ra cs.length rc 0 w'):
  Dz tw th ca cn cc la ln lc w Q:=by
 apply X6;have v9:=hT.small;refine aO (bh (F:=No)) λtb w1 s=>?_;refine aS s λrb w1 s=>?_;refine lI s 1 rfl (lI s 1 rfl (lS s 1 rfl ?_));refine Wi s (hA.fr (au s)) (hX.fr (au s)) hT hok hnd qe λda dc w1 s _=>?_;refine lI s 2 rfl (lI s 2 rfl (lS s 2 rfl ?_));refine aO s λhb w1 s=>?_;refine aS s λfb w1 s=>?_;refine sT s 0 rfl λw1 s=>?_;refine ax s (i:=0) rfl rfl rfl λw1 s=>?_;have loop:∀(j i:Nat) (ra:Option Addr) (rc:Nat) (w2:World),i+j=cs.length->
   Sep No w w2 [ak ra i rc 3 1 (flat one ((nT tw th cs xs).take i)),av fb 213 [.slice da cs.length dc,.slice ra i rc],av hb 340 [ae tw,ae th,.slice ca cn cc,.slice la ln lc,.slice da cs.length dc],ak da cs.length dc 3 1 (flat one (ju tw th cs xs)),av rb 213 [.slice none 0 0,.slice none 0 0]]->
   sB Q (j+1) (aZ rb) (aZ hb) (aZ fb) cs.length i w2:=by
  intro j;induction j with
  |zero=>
   intro i ra rc w2 hi s;show xp Q (sB Q 0) _ _ _ _ _ _;rw[xp,bq];refine lS s 1 rfl (lS s 1 rfl ?_);refine sT s 4 rfl λw2 s=>?_;refine ax s (i:=4) rfl rfl rfl λw2 s=>?_;refine lS s 4 rfl (lS s 4 rfl ?_);obtain rfl:i=cs.length:=by omega
   rw[List.take_of_length_le (by unfold nT;grind)]at s;have s':Sep No w w2 [ak ra cs.length rc 3 1 (flat one (nT tw th cs xs)),ak da cs.length dc 3 1 (flat one (ju tw th cs xs))]:=pk 99 [0,3] s;exact h da dc ra rc w2 (fu s0 s') (au s')
  |succ j ih=>
   intro i ra rc w2 hi s;show xp Q (sB Q (j+1)) _ _ _ _ _ _;rw[xp,bM];have s:=ay s;apply lS s 1 rfl;have hk:Xk w2.drew hb tw th cs xs (ju tw th cs xs):=⟨⟨_,_,_,_,_,_,_,_,_,kZ s (i:=2) rfl,hA.fr (au s),hX.fr (au s),aN s (i:=3) rfl cF (by decide),qe⟩,hT,Z7,as_ hok hT⟩;refine ad5 s hk (by omega) λw3 s _=>?_;refine⟨cg s 1 rfl,?_⟩;refine awh s (by omega) (cg s 1 rfl) λra' rc' w3 s=>?_;refine ax s (i:=1) rfl rfl rfl λw3 s=>?_;rw[aG];apply ih (i+1) ra' rc' w3 (by omega);have e:(nT tw th cs xs).take (i+1)=(nT tw th cs xs).take i++[ZZ tw th cs xs (fD (ju tw th cs xs)) i]:=by rw[nT,List.take_add_one,List.getElem?_map,List.getElem?_range (by omega)];rfl
   rw[e];exact s
 have s:=pk 99 [0,1,2,3] s;exact⟨cs.length+1,loop cs.length 0 none 0 w1 (by omega) (bE s 3 1)⟩
end
end Go.Proofs.YtmegplnmiepfbaaGreatDoor.S
namespace Go.Proofs.YtmegplnmiepfbaaGreatDoor.S
open Go.Sx
attribute [local irreducible] af cE bw bg aA cu bY St Bx Al App cJ cB cz bW aL bD aq bT av ak aW mapA
section
variable {F:Nat->Prop}{W w w0:World}{L:List As}{tw th l:Int}{ca la da:Option Addr}{cn cc ln lc dn dc:Nat}{cs ds ls:List Int}{xs:List bj}
def rW.DK (h:rW tw th cs):Tl.DK tw th cs=true:=Tl.ZT.2 ⟨h.w,h.h,h.len,λe=>by have:=h.jA 0 e;omega⟩
def aqx (hT:rW tw th cs)(hl:0<=l/\l<cs.length)(ho:gi cs l.toNat≠255):rU tw th cs [⟨l,4,0⟩]=true:=by rw[rU,hT.DK,Bool.true_and,List.all_cons,List.all_nil,Bool.and_true];rw[Aq,decide_eq_true hl,show(gi cs l.toNat !=255)=true by grind];rfl
def aqy {b:Nat}{x:bj}(s:Sep F W w (av b 294 [ae x.c,ae x.s,ae x.k]::L)):Sl w (sZ b) 1 1 3 fT [x]:=
 aN (gX s (i:=0) rfl rfl (by decide) (λu hu=>V5 x u hu)) (i:=0) rfl nC (by decide)
def ad6 {Q:Option Addr->Nat->Nat->Int->World->Prop}(s0:Sep F W w L)(hA:Sl w ca cn cc 1 bp cs)(hT:rW tw th cs)(hl:0<=l/\l<cs.length)(ho:gi cs l.toNat≠255)
  (h:∀da dc w',Sep F W w' (ak da cs.length dc 3 1 (flat one (ju tw th cs [⟨l,4,0⟩]))::L)->Fr No w w'->Q da cs.length dc 0 w'):HI tw th ca cn cc l w Q:=by
 apply adF;refine aO (bh (F:=No)) λtb w1 s=>?_;refine lI s 0 rfl (lI s 0 rfl (lS s 0 rfl ?_));refine aO s λsb w1 s=>?_;refine Wi s (hA.fr (au s)) (aqy s) hT (aqx hT hl ho) (by simp) (by decide) λda dc w1 s _=>?_;exact h da dc w1 (dA s0 s (i:=0) rfl) (au s)
structure agV (cs ls:List Int):Prop where
 Ec:∀l∈ls,(0<=l/\l<cs.length)/\gi cs l.toNat≠255
 fy:ls.Pairwise (·<·)
 nS:ls.length<=256
def auQ (h:agV cs ls){i j:Nat}(hij:i<j)(hj:j<ls.length):gi ls i<gi ls j:=by have:=List.pairwise_iff_getElem.1 h.fy i j (by omega) hj hij;have e1:=iz (l:=ls) (i:=i) (by omega);have e2:=iz hj;grind
def abX {Q:Bool->World->Prop}(s0:Sep F W w L)(hA:Sl w ca cn cc 1 bp cs)(hL:Sl w la ln lc 1 one ls)(hT:rW tw th cs)(hok:agV cs ls)(h:∀w',Sep F W w' L->Fr No w w'->Q true w'):
  Gb tw th ca cn cc la ln lc w Q:=by
 apply abp;have qe:=hL.len;have oZ:=hok.nS;refine aO (bh (F:=No)) λtb w1 s=>?_;have loop:∀(j i:Nat) (w1:World),i+j=ln->Sep No w w1 [av tb 84 [ae tw,ae th,.slice ca cn cc]]->wQ Q (j+1) la ln lc (aZ tb) la ln lc ln i w1:=by
  intro j;induction j with
  |zero=>
   intro i w1 hi s;show AS Q (wQ Q 0) _ _ _ _ _ _ _ _ _ _;rw[AS,bq];refine lI s 0 rfl (lI s 0 rfl (lS s 0 rfl ?_));refine Tl.C4 s (hA.fr (au s)).row λw2 s2 _=>?_;rw[hT.DK];exact h w2 (bS s0 (au s2)) (au s2)
  |succ j ih=>
   intro i w1 hi s;show AS Q (wQ Q (j+1)) _ _ _ _ _ _ _ _ _ _;rw[AS,bM];apply(hL.fr (au s)).rJ rfl (by omega);refine lI s 0 rfl (lI s 0 rfl (lS s 0 rfl ?_));have ho:=hok.Ec _ (ff (i:=i) (by omega));have hc:=hT.jA _ (ff (i:=(gi ls i).toNat) (by omega));refine Tl.agC s (hA.fr (au s)).row (λx hx=>by have:=hT.jA x hx;omega) λw2 s _=>?_;have e:Tl.atI tw th cs (gi ls i)=gi cs (gi ls i).toNat:=by unfold Tl.atI Tl.isB;rw[decide_eq_true ho.1,hT.DK];rfl
   rw[e,cy (by omega),cond_false,cy ho.2,cond_false,aG (n:=(i:Int)+1)];by_cases h0:i=0
   ·rw[bq];exact ih (i+1) w2 (by omega) s
   ·rw[bM,aG];apply(hL.fr (au s)).rJ (k:=i-1) (by omega) (by omega);have:=auQ hok (i:=i-1) (j:=i) (by omega) (by omega);rw[bq];exact ih (i+1) w2 (by omega) s
 exact⟨ln+1,loop ln 0 w1 (by omega) s⟩
noncomputable def E0 (tw th:Int)(cs ls:List Int)(i j:Nat):Int:=LP tw th cs [⟨gi ls j,4,0⟩] (gi ls i)
noncomputable def Ax (tw th:Int)(cs ls:List Int):List Int:=(List.range (ls.length*ls.length)).map λk=>E0 tw th cs ls (k/ls.length) (k%ls.length)
def JN {N x:Nat}{g:Nat->Int}{v:Int}:((List.range N).map g).set x v=(List.range N).map λk=>if k=x then v else g k:=by apply List.ext_getElem?;grind
def alU {n i j:Nat}(hi:i<n)(hj:j<n):i*n+j<n*n:=by have:=Nat.mul_le_mul_right n (show i+1<=n by omega);grind
def akM (hl:0<=l/\l<cs.length):gi (ju tw th cs xs) l.toNat=LP tw th cs xs l:=by unfold gi ju;grind
def Z8 {Q:Option Addr->Nat->Nat->Int->World->Prop}(s0:Sep F W w L)(hA:Sl w ca cn cc 1 bp cs)(hL:Sl w la ln lc 1 one ls)(hT:rW tw th cs)(hok:agV cs ls)
  (h:∀oa oc w',Sep F W w' (ak oa (ls.length*ls.length) oc 3 1 (flat one (Ax tw th cs ls))::L)->Fr No w w'->Q oa (ls.length*ls.length) oc 0 w'):ES tw th ca cn cc la ln lc w Q:=by
 apply ZI;have qe:=hL.len;have oZ:=hok.nS;refine aO (bh (F:=No)) λtb w1 s=>?_;refine lI s 0 rfl (lI s 0 rfl (lS s 0 rfl ?_));refine abX s (hA.fr (au s)) (hL.fr (au s)) hT hok λw1 s _=>?_;subst qe;have hsq:ls.length*ls.length<=65536:=by have:=Nat.mul_le_mul oZ oZ;omega
 have e1:((ls.length:Nat):Int)*((ls.length:Nat):Int)=((ls.length*ls.length:Nat):Int):=by grind
 rw[e1,aG];generalize hN:ls.length*ls.length=N at*;refine xL (bytes:=8) ee s rfl rfl rfl rfl rfl rfl (by decide) cF rfl (λu hu=>E_ 0 u hu) rfl rfl (Nat.le_refl _) (by omega) (by simp[maxLen];omega) λob w1 s=>?_;have outer:∀(k j:Nat) (w1:World),j+k=ls.length->Sep No w w1 [ak (sZ ob) N N 3 1 (flat one ((List.range N).map λq=>if q%ls.length<j then E0 tw th cs ls (q/ls.length) (q%ls.length)else 0)),av tb 84 [ae tw,ae th,.slice ca cn cc]]->
   qW Q (k+1) la ls.length lc (aZ tb) ls.length (sZ ob) N N la ls.length lc ls.length j w1:=by
  intro k;induction k with
  |zero=>
   intro j w1 hj s;show zn Q (qW Q 0) _ _ _ _ _ _ _ _ _ _ _ _ _ _;rw[zn,bq];have e:((List.range N).map λq=>if q%ls.length<j then E0 tw th cs ls (q/ls.length) (q%ls.length)else 0)=Ax tw th cs ls:=by
    rw[Ax,hN];refine List.map_congr_left λq hq=>?_;have hq:=List.mem_range.1 hq;have O_:0<ls.length:=by grind
    rw[if_pos (by have:=Nat.mod_lt q O_;omega)]
   rw[e]at s;exact h _ _ w1 (dA s0 s (i:=0) rfl) (au s)
  |succ k ih=>
   intro j w1 hj s;show zn Q (qW Q (k+1)) _ _ _ _ _ _ _ _ _ _ _ _ _ _;rw[zn,bM];apply(hL.fr (au s)).rJ rfl (by omega);refine lI s 1 rfl (lI s 1 rfl (lS s 1 rfl ?_));have ho:=hok.Ec _ (ff (i:=j) (by omega));refine ad6 s (hA.fr (au s)) hT ho.1 ho.2 λda dc w1 s _=>?_;have inner:∀(k2 i:Nat) (w1:World),i+k2=ls.length->Sep No w w1 [ak da cs.length dc 3 1 (flat one (ju tw th cs [⟨gi ls j,4,0⟩])),ak (sZ ob) N N 3 1 (flat one ((List.range N).map λq=>if q%ls.length<j\/q%ls.length=j/\q/ls.length<i then E0 tw th cs ls (q/ls.length) (q%ls.length)else 0)),av tb 84 [ae tw,ae th,.slice ca cn cc]]->
     sv (qW Q (k+1)) Q (k2+1) la ls.length lc (aZ tb) ls.length (sZ ob) N N j da cs.length dc la ls.length lc ls.length j la ls.length lc ls.length i w1:=by
    intro k2;induction k2 with
    |zero=>
     intro i w1 hi s;show xl _ Q (sv _ Q 0) _ _ _ _ _ _ _ _ _ _ _ _ _ _ _ _ _ _ _ _ _ _ _;rw[xl,bq,aG];apply ih (j+1) w1 (by omega);have e:((List.range N).map λq=>if q%ls.length<j\/q%ls.length=j/\q/ls.length<i then E0 tw th cs ls (q/ls.length) (q%ls.length)else 0)=(List.range N).map λq=>if q%ls.length<j+1 then E0 tw th cs ls (q/ls.length) (q%ls.length)else 0:=by
      refine List.map_congr_left λq hq=>?_;have hq:=List.mem_range.1 hq;have hd:q/ls.length<ls.length:=Nat.div_lt_of_lt_mul (by omega);by_cases c1:q%ls.length<j+1
      ·rw[if_pos c1,AI]
      ·rw[if_neg c1,fR]
     rw[e]at s;exact ai s
    |succ k2 ih2=>
     intro i w1 hi s;show xl _ Q (sv _ Q (k2+1)) _ _ _ _ _ _ _ _ _ _ _ _ _ _ _ _ _ _ _ _ _ _ _;rw[xl,bM];apply(hL.fr (au s)).rJ rfl (by omega);have hoi:=hok.Ec _ (ff (i:=i) (by omega));apply(aN s (i:=0) rfl cF (by decide)).rJ (k:=(gi ls i).toNat) (by omega) (by omega);rw[akM hoi.1];have hb:=alU (n:=ls.length) (i:=i) (j:=j) (by omega) (by omega);rw[hN]at hb;have e2:(i:Int)*((ls.length:Nat):Int)=((i*ls.length:Nat):Int):=by rw[Int.natCast_mul]
     rw[e2,aG (n:=((i*ls.length:Nat):Int)),aG,aG];refine EW cF s (i:=1) (k:=i*ls.length+j) (x':=LP tw th cs [⟨gi ls j,4,0⟩] (gi ls i)) rfl (by omega) (by rw[List.length_map,List.length_range];exact hb) rfl rfl λw1 s=>?_;apply ih2 (i+1) w1 (by omega);rw[JN]at s;have e:((List.range N).map λq=>if q=i*ls.length+j then LP tw th cs [⟨gi ls j,4,0⟩] (gi ls i)else if q%ls.length<j\/q%ls.length=j/\q/ls.length<i then E0 tw th cs ls (q/ls.length) (q%ls.length)else 0)=
       (List.range N).map λq=>if q%ls.length<j\/q%ls.length=j/\q/ls.length<i+1 then E0 tw th cs ls (q/ls.length) (q%ls.length)else 0:=by
      refine List.map_congr_left λq hq=>?_;have O_:0<ls.length:=by omega
      by_cases c1:q=i*ls.length+j
      ·have d1:q/ls.length=i:=by rw[c1,Nat.mul_comm,Nat.mul_add_div O_,Nat.div_eq_of_lt (by omega),Nat.add_zero]
       have d2:q%ls.length=j:=by rw[c1,Nat.mul_comm,Nat.mul_add_mod,Nat.mod_eq_of_lt (by omega)]
       rw[if_pos c1,AI,d1,d2];rfl
      ·rw[if_neg c1];have d3:¬(q%ls.length=j/\q/ls.length=i):=λ⟨a,b⟩=>by apply c1;have:=Nat.div_add_mod q ls.length;rw[a,b,Nat.mul_comm]at this;omega
       by_cases c2:q%ls.length<j\/q%ls.length=j/\q/ls.length<i
       ·rw[if_pos c2,AI]
       ·rw[if_neg c2,fR]
     rw[e]at s;exact s
   refine⟨ls.length+1,inner ls.length 0 w1 (by omega) ?_⟩;have e:((List.range N).map λq=>if q%ls.length<j then E0 tw th cs ls (q/ls.length) (q%ls.length)else 0)=(List.range N).map λq=>if q%ls.length<j\/q%ls.length=j/\q/ls.length<0 then E0 tw th cs ls (q/ls.length) (q%ls.length)else 0:=by
    refine List.map_congr_left λq hq=>?_;by_cases c1:q%ls.length<j
    ·rw[if_pos c1,if_pos (.inl c1)]
    ·rw[if_neg c1,if_neg (by rintro (h|⟨_,h⟩);exact c1 h;exact Nat.not_lt_zero _ h)]
   rw[e]at s;exact s
 refine⟨ls.length+1,outer ls.length 0 w1 (by omega) ?_⟩;have e:((List.range N).map λq=>if q%ls.length<0 then E0 tw th cs ls (q/ls.length) (q%ls.length)else 0)=List.replicate N 0:=by rw[List.eq_replicate_iff];refine⟨by simp,λx hx=>?_⟩;obtain⟨q,_,rfl⟩:=List.mem_map.1 hx;rw[fR]
 grind
end
end Go.Proofs.YtmegplnmiepfbaaGreatDoor.S
namespace Go.Proofs.YtmegplnmiepfbaaGreatDoor.S
open Go.Sx
section
variable {m:bJ}{t x n c d s sc l a b:Int}
def iX (m:bJ)(sc:Int):List Int:=(aY m sc).map (dX m.w m.h)
def Wj (m:bJ)(sc:Int):List Nat:=(List.range (aD m.w m.h sc*bz m.w m.h sc).toNat).filter λl=>yC m.w m.h sc 4 l&&eV m (bX m.w m.h sc l)
def nodes_eq:aY m sc=(Wj m sc).map λl:Nat=>bX m.w m.h sc l:=by unfold aY vq Wj;rw[List.filter_map,List.filter_filter];grind
def aok (hs:dW m.w m.h sc):iX m sc=(Wj m sc).map λl:Nat=>(l:Int):=by rw[iX,nodes_eq,List.map_map];refine List.map_congr_left λl hl=>?_;have hl:=List.mem_range.1 (List.mem_filter.1 hl).1;exact FY hs (by omega)
def abY:(Wj m sc).Pairwise (·<·):=List.Pairwise.filter _ List.pairwise_lt_range
def aol (hs:dW m.w m.h sc){k:Int}(hk:0<=k/\k<l)(hl:l<aD m.w m.h sc*bz m.w m.h sc):bX m.w m.h sc k<bX m.w m.h sc l:=by
 obtain⟨⟨w1,w2⟩,⟨h1,h2⟩,p1,p2,p3,p4⟩:=zA hs;have hw:aD m.w m.h sc<=m.w-16*(sc%cQ m.w):=by unfold aD;omega
 have hk1:=Pf hs (l:=k) (by omega);have hl1:=Pf hs (l:=l) (by omega);have ek:=Int.mul_ediv_add_emod k (aD m.w m.h sc);have el:=Int.mul_ediv_add_emod l (aD m.w m.h sc);unfold bX;by_cases e:k/aD m.w m.h sc=l/aD m.w m.h sc
 ·grind
 ·have hlt:k/aD m.w m.h sc<=l/aD m.w m.h sc:=Int.ediv_le_ediv (by omega) (by omega);have h3:=Int.mul_le_mul_of_nonneg_right (show 16*(sc/cQ m.w)+k/aD m.w m.h sc+1<=16*(sc/cQ m.w)+l/aD m.w m.h sc by omega) (show 0<=m.w by omega);grind
def NJ (hs:dW m.w m.h sc):(aY m sc).Pairwise (·<·):=by rw[nodes_eq,List.pairwise_map];refine List.Pairwise.imp_of_mem ?_ abY;intro k l hk hl h;have hl:=List.mem_range.1 (List.mem_filter.1 hl).1;exact aol hs ⟨by omega,by omega⟩ (by omega)
def aom (hm:cI m)(hs:dW m.w m.h sc):agV (dO m sc) (iX m sc):=by
 have e:=aok hs;refine⟨λl hl=>?_,?_,?_⟩
 ·rw[e]at hl;obtain⟨k,hk,rfl⟩:=List.mem_map.1 hl;have h1:=(List.mem_filter.1 hk).2;have hk:=List.mem_range.1 (List.mem_filter.1 hk).1;rw[Bool.and_eq_true]at h1;have h2:=(I9 hm hs (by omega)).2 h1.2;exact⟨⟨h2.1,h2.2.1⟩,h2.2.2⟩
 ·rw[e,List.pairwise_map];exact List.Pairwise.imp (λh=>by omega) abY
 ·rw[e,List.length_map];obtain⟨⟨w1,w2⟩,⟨h1,h2⟩,_⟩:=zA hs;have h3:=Int.mul_le_mul w2 h2 (by omega) (by decide);have h4:=List.length_filter_le (λl:Nat=>yC m.w m.h sc 4 l&&eV m (bX m.w m.h sc l)) (List.range (aD m.w m.h sc*bz m.w m.h sc).toNat);rw[List.length_range]at h4;unfold Wj;omega
def zU (hs:dW m.w m.h sc):(aY m sc).length<=256:=by have:=abE hs;have h1:=List.length_filter_le (eV m) (vq m.w m.h sc);unfold aY;omega
def aj5 (hs:dW m.w m.h sc):(aY m sc).Nodup:=List.Pairwise.imp (λh e=>by omega) (NJ hs)
def Q3 (hm:cI m)(hs:dW m.w m.h sc):rW (aD m.w m.h sc) (bz m.w m.h sc) (dO m sc):=by obtain⟨w,h,_⟩:=zA hs;have h1:=Int.mul_le_mul w.1 h.1 (by decide) (by omega);refine⟨w,h,by rw[Co];omega,λx hx=>?_⟩;obtain⟨l,hl,rfl⟩:=List.mem_map.1 hx;have hl:=List.mem_range.1 hl;have:=LO hm (sQ hs (l:=l) (by omega));omega
noncomputable def qi (m:bJ)(sc a b:Int):Int:=LP (aD m.w m.h sc) (bz m.w m.h sc) (dO m sc) [⟨dX m.w m.h b,4,0⟩] (dX m.w m.h a)
def Q4 (hm:cI m)(hs:dW m.w m.h sc)(ha:bF m.w m.h a/\aC m.w m.h a=sc)(hb:bF m.w m.h b/\aC m.w m.h b=sc):qi m sc a b=gz (FZ b) (tO (fJ m) (cT m) sc) a:=by
 have hla:=j6 ha.1;have hga:=nV ha.1;have hlb:=j6 hb.1;have hgb:=nV hb.1;rw[ha.2]at hla hga;unfold qi LP;rw[aim hm hs (S':=FZ b) (λl k hl=>?_) hla,hga];unfold NA FZ;constructor
 ·grind
 ·rintro ⟨h1,rfl⟩;refine⟨_,List.mem_singleton.2 rfl,?_,rfl⟩;rw[<-h1];exact FY hs hl
def afn (hm:cI m)(Tz:eV m b=true){d:Int}(hw:Wy (FZ b) (tO (fJ m) (cT m) sc) a d):0<=gz (FZ b) (tO (fJ m) (cT m) sc) a/\gz (FZ b) (tO (fJ m) (cT m) sc) a<=254*(m.w*m.h-1):=by
 have alT:∀x d,Wy (FZ b) (tO (fJ m) (cT m) sc) x d->x∈jV m:=λx d h=>by
  cases h with
  |src h=>rw[h.1];exact zB hm (jT hm Tz)
  |go e _=>exact zB hm (jT hm e.1.1)
 have h1:=aa1 (K:=0) (λx k h=>by rw[h.2];omega) (λx n c h=>Gw h.1) (jV m) alT hw;have h2:((jV m).length:Int)=m.w*m.h:=by rw[<-hm.len];simp[jV]
 refine⟨mO (λx k h=>by rw[h.2];grind) (λx n c h=>cU _ _ _ h.1) (og (λx k h=>by rw[h.2];grind) (λx n c h=>cU _ _ _ h.1) hw).1,by omega⟩
def Z9 (hm:cI m)(hs:dW m.w m.h sc)(ha:bF m.w m.h a/\aC m.w m.h a=sc)(hb:bF m.w m.h b/\aC m.w m.h b=sc)(Tz:eV m b=true):
  qi m sc a b≠bR↔∃d,Wy (FZ b) (tO (fJ m) (cT m) sc) a d:=by
 rw[Q4 hm hs ha hb];constructor
 ·intro h;refine Classical.byContradiction λk=>h (xO λd hd=>k ⟨d,hd⟩)
 ·rintro ⟨d,hd⟩;have:=afn hm Tz hd;have:=mY ⟨hm.w,hm.h⟩;unfold bR;omega
def Z_ (hm:cI m)(hs:dW m.w m.h sc)(ha:bF m.w m.h a/\aC m.w m.h a=sc)(hb:bF m.w m.h b/\aC m.w m.h b=sc)(Tz:eV m b=true):0<=qi m sc a b/\(qi m sc a b≠bR->qi m sc a b<1000000000)/\qi m sc a b<=bR:=by
 have e:=Q4 hm hs ha hb;by_cases hw:∃d,Wy (FZ b) (tO (fJ m) (cT m) sc) a d
 ·obtain⟨d,hd⟩:=hw;have h1:=afn hm Tz hd;have h2:=mY ⟨hm.w,hm.h⟩;unfold bR;omega
 ·have h1:qi m sc a b=bR:=by rw[e];exact xO λd hd=>hw ⟨d,hd⟩
  rw[h1];exact⟨by decide,λh=>(h rfl).elim,Int.le_refl _⟩
noncomputable def abZ (m:bJ)(b:Int):List (Int×Int):=(aY m (cT m b)).filterMap λa=>if a≠b/\qi m (cT m b) a b≠bR then some (a,qi m (cT m b) a b)else none
open Classical in
noncomputable def Q5 (m:bJ)(b s:Int):Option (Int×Int):=if 0<=aX m.w m.h b s/\oe m (aX m.w m.h b s)/\cT m (aX m.w m.h b s)≠cT m b then some (aX m.w m.h b s,cA m b)else none
noncomputable def SQ (m:bJ)(b:Int)(j:Nat):List (Int×Int):=(List.range j).filterMap λs:Nat=>Q5 m b s
noncomputable def Kv (m:bJ)(b:Int):List (Int×Int):=abZ m b++SQ m b 4
def ab0 (m:bJ)(b:Int)(j:Nat):SQ m b (j+1)=SQ m b j++(Q5 m b j).toList:=by rw[SQ,List.range_succ,List.filterMap_append];congr 1
def auS (hm:cI m)(h:oe m x)(hx:bF m.w m.h x):eV m x=true:=(mI (bV hx) h).1
def aiA (hm:cI m)(hb:oe m b)(hbc:bF m.w m.h b){e:Int×Int}:e∈Kv m b↔Jn (fJ m) (cT m) (oe m) e.1 b e.2:=by
 have hs:=bV hbc;have Tz:=(mI hs hb).1;rw[Kv,List.mem_append];constructor
 ·rintro (h|h)
  ·obtain⟨a,ha,h1⟩:=List.mem_filterMap.1 h;split at h1
   ·rename_i h2;cases h1;obtain⟨a1,a2,a3⟩:=mI hs ha;have hn:oe m a:=by show a∈aY m (cT m a);rw[show cT m a=cT m b from a3];exact ha
    refine⟨hn,hb,.inl ⟨a3,h2.1,(Z9 hm hs ⟨a2,a3⟩ ⟨hbc,rfl⟩ Tz).1 h2.2,Q4 hm hs ⟨a2,a3⟩ ⟨hbc,rfl⟩⟩⟩
   ·cases h1
  ·obtain⟨s,TA,h1⟩:=List.mem_filterMap.1 h;have TA:=List.mem_range.1 TA;unfold Q5 at h1;split at h1
   ·rename_i h2;cases h1;obtain⟨s',hs',agW⟩:=I8 ⟨by omega,by omega⟩ h2.1;have hac:=(xN h2.1).2;have hoa:=auS hm h2.2.1 hac;exact⟨h2.2.1,hb,.inr ⟨h2.2.2,hoa,Tz,⟨s',hs',agW⟩,rfl⟩⟩
   ·cases h1
 ·rintro ⟨ha,_,⟨h1,h2,h3,h4⟩|⟨h1,h2,h3,⟨s,TA,h4⟩,h5⟩⟩
  ·left;have hb2:cT m b=aC m.w m.h b:=rfl;have hac:bF m.w m.h e.1:=by
    have:e.1∈aY m (cT m b):=by rw[<-h1];exact ha
    exact(mI hs this).2.1
   have e4:=Q4 hm hs ⟨hac,h1⟩ ⟨hbc,rfl⟩;refine List.mem_filterMap.2 ⟨e.1,by rw[<-h1];exact ha,?_⟩;rw[if_pos ⟨h2,(Z9 hm hs ⟨hac,h1⟩ ⟨hbc,rfl⟩ Tz).2 h3⟩,hb2,e4];grind
  ·right;have hb0:0<=aX m.w m.h e.1 s:=by rw[h4];exact hbc.2.1
   obtain⟨s',hs',agW⟩:=I8 TA hb0;rw[h4]at agW;refine List.mem_filterMap.2 ⟨s'.toNat,List.mem_range.2 (by omega),?_⟩;rw[Int.toNat_of_nonneg hs'.1];rw[Q5,agW,if_pos ⟨(jT hm h2).2.1,ha,h1⟩];grind
end
def aqz {P:Program}{t e:TypeId}{inf:TypeInfo}{b i j:Nat}{w:World}(d:Nat)(hu:P.underlying t=some (.pointer e))(hi:P.info? e=some inf)(hs:inf.size≠0):
  (Op.equalIn (d+1) t (.pointer (some ⟨b,i,none⟩)) (.pointer (some ⟨b,j,none⟩))).run P w=.ok (decide (i=j)) w:=by
 simp[Op.equalIn,run_underlying hu,sizeOf,typeInfo,hi,hs,sameAddr];grind
def auT {P:Program}{t e:TypeId}{inf:TypeInfo}{x y:Operand}{b i j:Nat}{w:World}{K:Bool->World->Prop}(hu:P.underlying t=some (.pointer e))(hi:P.info? e=some inf)(hs:inf.size≠0)(h:K (!decide (i=j)) w):
  bW P .neq t x y (.pointer (some ⟨b,i,none⟩)) (.pointer (some ⟨b,j,none⟩)) w K:=by
 have h1:(Op.equal t (.pointer (some ⟨b,i,none⟩)) (.pointer (some ⟨b,j,none⟩))).run P w=.ok (decide (i=j)) w:=aqz 9999 hu hi hs;unfold bW aL;rw[show binOp .neq t (.pointer (some ⟨b,i,none⟩)) (.pointer (some ⟨b,j,none⟩))=(do pure (.bool (!(<-Op.equal t (.pointer (some ⟨b,i,none⟩)) (.pointer (some ⟨b,j,none⟩))))))from rfl];simp[eqGuard_at_pointer,Sem.run_bind,Sem.run_pure,Result.andThen_ok,h1];exact h
end Go.Proofs.YtmegplnmiepfbaaGreatDoor.S
namespace Go.Proofs.YtmegplnmiepfbaaGreatDoor.S.Ta
open Go.Sx
def U (n:Int):Prop:=0<=n/\n<18446744073709551616
def sat (a b:Int):Int:=if a+b<18446744073709551616 then a+b else 18446744073709551615
def GA {a b:Int}(ha:U a)(hb:U b):U (sat a b):=by unfold sat;unfold U at*;omega
def By {a b:Int}{w:World}{Q:Int->World->Prop}(ha:U a)(hb:U b)(h:Q (sat a b) w):r7 a b w Q:=by
 unfold U at ha hb;apply aba;rw[wrap_u64 (by omega) (by omega)];unfold sat at h;by_cases hc:a>18446744073709551615-b
 ·grind
 ·rw[bq hc,wrap_u64 (by omega) (by omega)];grind
def Wk {F:Nat->Prop}{W w:World}{L:List As}{a b c d e f:Int}{Q:Int->Int->Int->Int->Int->Int->World->Prop}(s:Sep F W w L)(h:∀w',Sep F W w' L->Q a b c d e f w'):cW a b c d e f w Q:=by apply Vs;refine aO s λb1 w1 s=>?_;refine aS s λb2 w2 s=>?_;apply dw s (i:=1) rfl rfl rfl;apply dw s (i:=1) rfl rfl rfl;apply dw s (i:=1) rfl rfl rfl;apply dw s (i:=1) rfl rfl rfl;apply dw s (i:=1) rfl rfl rfl;apply dw s (i:=1) rfl rfl rfl;refine ax s (i:=0) rfl rfl rfl λw3 s=>?_;refine ax s (i:=0) rfl rfl rfl λw3 s=>?_;refine ax s (i:=0) rfl rfl rfl λw3 s=>?_;refine ax s (i:=0) rfl rfl rfl λw3 s=>?_;refine ax s (i:=0) rfl rfl rfl λw3 s=>?_;refine ax s (i:=0) rfl rfl rfl λw3 s=>?_;apply dw s (i:=0) rfl rfl rfl;apply dw s (i:=0) rfl rfl rfl;apply dw s (i:=0) rfl rfl rfl;apply dw s (i:=0) rfl rfl rfl;apply dw s (i:=0) rfl rfl rfl;apply dw s (i:=0) rfl rfl rfl;exact h _ (ai (ai s))
end Go.Proofs.YtmegplnmiepfbaaGreatDoor.S.Ta
namespace Go.Proofs.YtmegplnmiepfbaaGreatDoor.S.Ta
open Go.Sx
attribute [local irreducible] af cE bw bg aA cu bY St Bx Al App cJ cB cz bW aL bD aq bT av
def awi:zc T 175=[.int .u64 0,.int .u64 0,.int .u64 0,.int .u64 0,.int .u64 0,.int .u64 0]:=rfl
def auU:zc T 32=[.int .u64 0,.int .u64 0,.int .u64 0,.int .u64 0,.int .u64 0,.int .u64 0]:=rfl
section
variable {F:Nat->Prop}{W w:World}{L:List As}{Q:Int->Int->Int->Int->Int->Int->World->Prop}
def qf {r x y:Nat}{tx ty:TypeId}{xs ys:List Value}{i j k n:Nat}{t:Int}{p q:Int}(s:Sep F W w L)(ht:t=n)(hn:n<6)
  (hi:L[i]? =some (av x tx xs))(hj:L[j]? =some (av y ty ys))(hp:xs[n]? =some (.int .u64 p))(hq:ys[n]? =some (.int .u64 q))(up:U p)(uq:U q)(hl:Nat.blt n xs.length=true)
  (h:∀w',Sep F W w' (L.set i (av x tx (xs.set n (.int .u64 (sat p q)))))->p9 Q k (aZ r) (aZ x) (aZ y) ((n+1:Nat):Int) w'):p9 Q (k+1) (aZ r) (aZ x) (aZ y) t w:=by
 subst ht;show sW Q (p9 Q k) _ _ _ _ _;rw[sW,bM];have e1:((n:Int).toNat*1)=n:=by omega
 have s':Sep F W w.drew L:=s;rw[e1];refine⟨by omega,by omega,?_⟩;apply dw s' (by rw[cq,Nat.zero_add]) hi hp;refine⟨by omega,by omega,?_⟩;apply dw s' (by rw[cq,Nat.zero_add]) hj hq;apply By up uq;refine⟨by omega,by omega,?_⟩;refine ax s' (by rw[cq,Nat.zero_add]) hi hl λw' s=>?_;rw[aG];exact h _ s
def auV {r x y:Nat}{tr tx ty:TypeId}{a b c d e f a' b' c' d' e' f':Int}(s:Sep F W w (av x tx [.int .u64 a,.int .u64 b,.int .u64 c,.int .u64 d,.int .u64 e,.int .u64 f]::av y ty [.int .u64 a',.int .u64 b',.int .u64 c',.int .u64 d',.int .u64 e',.int .u64 f']::av r tr (zc T 32)::L))
  (u:(U a/\U b/\U c/\U d/\U e/\U f)/\U a'/\U b'/\U c'/\U d'/\U e'/\U f')
  (h:∀w',Sep F W w' L->Q (sat a a') (sat b b') (sat c c') (sat d d') (sat e e') (sat f f') w'):gU Q (aZ r) (aZ x) (aZ y) w:=by
 obtain⟨⟨ua,ub,uc,ud,ue,uf⟩,va,vb,vc,vd,ve,vf⟩:=u;refine⟨7,?_⟩;refine qf s (n:=0) (i:=0) (j:=1) rfl (by omega) rfl rfl rfl rfl ua va rfl λw s=>?_;refine qf s (i:=0) (j:=1) rfl (by omega) rfl rfl rfl rfl ub vb rfl λw s=>?_;refine qf s (i:=0) (j:=1) rfl (by omega) rfl rfl rfl rfl uc vc rfl λw s=>?_;refine qf s (i:=0) (j:=1) rfl (by omega) rfl rfl rfl rfl ud vd rfl λw s=>?_;refine qf s (i:=0) (j:=1) rfl (by omega) rfl rfl rfl rfl ue ve rfl λw s=>?_;refine qf s (i:=0) (j:=1) rfl (by omega) rfl rfl rfl rfl uf vf rfl λw s=>?_;show sW Q (p9 Q 0) _ _ _ _ _;unfold sW;refine⟨by decide,by decide,?_⟩;apply lI s 0 rfl;refine⟨by decide,by decide,?_⟩;apply lI s 0 rfl;refine⟨by decide,by decide,?_⟩;apply lI s 0 rfl;refine⟨by decide,by decide,?_⟩;apply lI s 0 rfl;refine⟨by decide,by decide,?_⟩;apply lI s 0 rfl;refine⟨by decide,by decide,?_⟩;apply lI s 0 rfl
 repeat' first
  |apply lI s 2 rfl
  |(refine ax s (i:=2) rfl rfl rfl λw' s=>?_;simp[Nat.zero_add,List.set_cons_zero,List.set_cons_succ]at s)
 exact h _ (ai (ai (ai s)))
def auW {r x y:Nat}{tr tx ty:TypeId}{a b c d e f a' b' c' d' e' f':Int}(s:Sep F W w (av y ty [.int .u64 a',.int .u64 b',.int .u64 c',.int .u64 d',.int .u64 e',.int .u64 f']::av x tx [.int .u64 a,.int .u64 b,.int .u64 c,.int .u64 d,.int .u64 e,.int .u64 f]::av r tr (zc T 32)::L))
  (u:(U a/\U b/\U c/\U d/\U e/\U f)/\U a'/\U b'/\U c'/\U d'/\U e'/\U f')
  (h:∀w',Sep F W w' L->Q (sat a a') (sat b b') (sat c c') (sat d d') (sat e e') (sat f f') w'):gU Q (aZ r) (aZ x) (aZ y) w:=by
 obtain⟨⟨ua,ub,uc,ud,ue,uf⟩,va,vb,vc,vd,ve,vf⟩:=u;refine⟨7,?_⟩;refine qf s (n:=0) (i:=1) (j:=0) rfl (by omega) rfl rfl rfl rfl ua va rfl λw s=>?_;refine qf s (i:=1) (j:=0) rfl (by omega) rfl rfl rfl rfl ub vb rfl λw s=>?_;refine qf s (i:=1) (j:=0) rfl (by omega) rfl rfl rfl rfl uc vc rfl λw s=>?_;refine qf s (i:=1) (j:=0) rfl (by omega) rfl rfl rfl rfl ud vd rfl λw s=>?_;refine qf s (i:=1) (j:=0) rfl (by omega) rfl rfl rfl rfl ue ve rfl λw s=>?_;refine qf s (i:=1) (j:=0) rfl (by omega) rfl rfl rfl rfl uf vf rfl λw s=>?_;show sW Q (p9 Q 0) _ _ _ _ _;unfold sW;refine⟨by decide,by decide,?_⟩;apply lI s 1 rfl;refine⟨by decide,by decide,?_⟩;apply lI s 1 rfl;refine⟨by decide,by decide,?_⟩;apply lI s 1 rfl;refine⟨by decide,by decide,?_⟩;apply lI s 1 rfl;refine⟨by decide,by decide,?_⟩;apply lI s 1 rfl;refine⟨by decide,by decide,?_⟩;apply lI s 1 rfl
 repeat' first
  |apply lI s 2 rfl
  |(refine ax s (i:=2) rfl rfl rfl λw' s=>?_;simp[Nat.zero_add,List.set_cons_zero,List.set_cons_succ]at s)
 exact h _ (ai (ai (ai s)))
end
set_option maxHeartbeats 1000000 in
theorem GB {F:Nat->Prop}{W w:World}{L:List As}{a b c d e f a' b' c' d' e' f':Int}{Q:Int->Int->Int->Int->Int->Int->World->Prop}(s:Sep F W w L)(u:(U a/\U b/\U c/\U d/\U e/\U f)/\U a'/\U b'/\U c'/\U d'/\U e'/\U f')
  (h:∀w',Sep F W w' L->Q (sat a a') (sat b b') (sat c c') (sat d d') (sat e e') (sat f f') w'):wU a b c d e f a' b' c' d' e' f' w Q:=by
 apply abb;refine aO s λb1 w1 s=>?_;refine aO s λb2 w2 s=>?_;refine aS s λb3 w3 s=>?_
 repeat' first
  |apply lI s 0 rfl
  |refine lI s 1 rfl ?_
  |refine lI s 2 rfl ?_
  |apply lI s 3 rfl
  |apply lI s 4 rfl
  |refine⟨cg s 1 rfl,?_⟩
  |refine⟨cg s 2 rfl,?_⟩
  |refine⟨cg s 3 rfl,?_⟩
  |refine⟨cg s 4 rfl,?_⟩
  |(refine ax s (i:=0) rfl rfl rfl λw' s=>?_;simp[Nat.zero_add,List.set_cons_zero,List.set_cons_succ]at s)
  |(refine ax s (i:=1) rfl rfl rfl λw' s=>?_;simp[Nat.zero_add,List.set_cons_zero,List.set_cons_succ]at s)
  |(refine aS s λb' w' s=>?_;rw[awi]at s)
  |refine Wk s λw' s=>?_
  |exact auV s u λw' s=>h _ (ai (ai s))
  |exact auW s u λw' s=>h _ (ai (ai s))
  |constructor
end Go.Proofs.YtmegplnmiepfbaaGreatDoor.S.Ta
namespace Go.Proofs.YtmegplnmiepfbaaGreatDoor.S
open Go.Sx
def dJ {w:World}{x:Option Addr}{ad:Addr}{K:Option Addr->Prop}(h:w.cell? ad=some (.pointer x))(hk:K x):bg ad w K:=⟨x,h,hk⟩
attribute [local irreducible] af cE bw bg aA cu bY St Bx Al App cJ cB cz bW aL bD aq bT av ak aW mapA
def SR {F:Nat->Prop}{W w:World}{A:As}:∀{L:List As} {i:Nat},Sep F W w (A::L)->Sep F W w (L.set i A)
 |[],i,s=>by simp[List.set_nil];exact ai s
 |B::L,0,s=>by exact gC s (List.Sublist.cons_cons _ (List.sublist_cons_self _ _))
 |B::L,i+1,s=>by
  rw[List.set_cons_succ];have s1:=ck s (List.Perm.swap B A L);have s2:=ai s1;have s3:=SR (i:=i) s2;refine⟨ef.fr s,λC hC=>?_,?_⟩
  ·rcases List.mem_cons.1 hC with rfl|hC
   ·exact ef.ok s C (by simp)
   ·exact ef.ok s3 C hC
  ·rw[List.pairwise_cons];refine⟨λC hC=>?_,ef.apart s3⟩;have hp:=List.pairwise_cons.1 (ef.apart s1);grind
structure Ay where
 e9:Int
 na:Option Addr
 nn:Nat
 nc:Nat
 da:Option Addr
 dn:Nat
 dc:Nat
 nodes:List Int
 JO:List Int
def Kw (x:Ay):List Value:=[ae x.e9,.slice x.na x.nn x.nc,.slice x.da x.dn x.dc]
def Ct (x:Ay):(Kw x).length=3:=rfl
def aon (x:Ay)(u:Value)(h:u∈Kw x):u.oneCell'=true:=by unfold Kw at h;simp[List.mem_cons,List.not_mem_nil,or_false]at h;rcases h with rfl|rfl|rfl<;>rfl
def ab1 (x:Ay):As:=aW True [ak x.na x.nn x.nc 3 1 (flat one x.nodes),ak x.da x.dn x.dc 21 1 (flat oY x.JO)]
structure Bz where
 p:Nat
 a:Option Addr
 n:Nat
 c:Nat
structure nD where
 ps:List Ay
 clean:Int
 fS:Int
def ab2 (r:Bz)(gp:Nat)(x:nD):List Value:=[.pointer (sZ gp),.slice r.a r.n r.c,ae x.clean,.int .u64 x.fS]
def LU (r:Bz)(gp:Nat)(x:nD):List As:=av r.p 236 (ab2 r gp x)::ak r.a r.n r.c 319 3 (flat Kw x.ps)::x.ps.map ab1
def uC (r:Bz)(gp:Nat)(x:nD):As:=aW True (LU r gp x)
noncomputable def jH (m:bJ)(sc:Int):List Int:=(Ax (aD m.w m.h sc) (bz m.w m.h sc) (dO m sc) (iX m sc)).map λd=>if d=bR then-1 else d
structure yD (g:iw) (x:nD):Prop where
 len:(x.ps.length:Int)=eI g.m.w g.m.h
 old:x.clean<=g.ep/\∀q∈x.ps,q.e9<=g.ep
 all:x.clean=g.ep->∀i q,x.ps[i]? =some q->q.e9=gi g.vs i
 ok:∀i q,x.ps[i]? =some q->q.e9=gi g.vs i->q.nodes=aY g.m i/\q.JO=jH g.m i
 u:Ta.U x.fS
structure Ev (w:World) (r:Bz) (gp:Nat) (x:nD):Prop where
 cell:rV w r.p (ab2 r gp x)
 row:Sl w r.a r.n r.c 3 Kw x.ps
 part:∀q∈x.ps,Sl w q.na q.nn q.nc 1 one q.nodes/\Sl w q.da q.dn q.dc 1 oY q.JO
 base:0<x.ps.length->∃b o,r.a=some ⟨b,o,none⟩
def Ev.fr {w w':World}{r:Bz}{gp:Nat}{x:nD}(k:Ev w r gp x)(f:Fr No w w'):Ev w' r gp x:=
 ⟨k.cell.fr f,k.row.fr f,λq hq=>⟨(k.part q hq).1.fr f,(k.part q hq).2.fr f⟩,k.base⟩
section
variable {F:Nat->Prop}{W w w0:World}{L:List As}{r:Bz}{gp:Nat}{x:nD}{gr:uB}{g:iw}{a:Option Addr}{n c:Nat}{xs:List Int}{v ce:Int}
def afo (s:Sep F W w (uC r gp x::L)):Sep F W w (LU r gp x++L):=(gL s).2
def ab3 (s:Sep F W w (LU r gp x++L)):Sep F W w (uC r gp x::L):=dz s trivial
def aoo {q:Ay}{i:Nat}(s:Sep F W w L)(hi:L[i]? =some (ab1 q)):Sl w q.na q.nn q.nc 1 one q.nodes/\Sl w q.da q.dn q.dc 1 oY q.JO:=by have s':=IM s hi;exact⟨aN s' (i:=0) rfl cF (by decide),aN s' (i:=1) rfl vv (by decide)⟩
def Wl (s:Sep F W w (uC r gp x::L)):Ev w r gp x:=by have s:=afo s;have s:Sep F W w (av r.p 236 (ab2 r gp x)::ak r.a r.n r.c 319 3 (flat Kw x.ps)::(x.ps.map ab1++L)):=s;have hR:=aN s (i:=1) rfl Ct (by decide);refine⟨kZ s (i:=0) rfl,hR,λq hq=>?_,λh=>pY s (i:=1) rfl (by rw[<-hR.len];exact h)⟩;obtain⟨i,hi⟩:=List.mem_iff_getElem?.1 hq;apply aoo s (i:=i+2);rw[List.getElem?_cons_succ,List.getElem?_cons_succ,List.getElem?_append_left (by grind),List.getElem?_map,hi];rfl
def half {i j:Nat}(h:i<j)(hj:j<1000000):IntKind.wrap .i64 (o7 .u64 (IntKind.wrap .u64 (IntKind.wrap .i64 ((i:Int)+j))) 1)=(((i+j)/2:Nat):Int):=by
 rw[aG (n:=(i:Int)+j),ko (by omega)];have e:o7 .u64 ((i:Int)+j) 1=((i:Int)+j)/2:=by rw[o7,show(2:Int)^(min (1:Int).toNat (IntKind.u64).bits)=2 from rfl,Int.fdiv_eq_ediv_of_nonneg _ (by decide)]
 rw[e,aG];omega
def Q6 (h:xs.Pairwise (·<·)){i j:Nat}(hij:i<j)(hj:j<xs.length):gi xs i<gi xs j:=by have:=List.pairwise_iff_getElem.1 h i j (by omega) hj hij;have e1:=iz (l:=xs) (i:=i) (by omega);have e2:=iz hj;grind
def aiB {Q:Int->Bool->World->Prop}(hX:Sl w a n c 1 one xs)(hn:n<1000000)(hs:xs.Pairwise (·<·))(s0:Sep F W w L)
  (hy:∀(i:Nat) w',i<n->gi xs i=v->Sep F W w' L->Fr No w w'->Q i true w')(hno:v∉xs->∀i w',Sep F W w' L->Fr No w w'->Q i false w'):nN a n c v w Q:=by
 apply D5;have hl:=hX.len;have loop:∀(k i j:Nat) (w1:World),j<=i+k->i<=j->j<=n->(∀q,q<i->gi xs q<v)->(∀q,j<=q->q<n->¬gi xs q<v)->Sep No w w1 []->gB Q (k+1) a n c v n i j w1:=by
  have stop:∀(i:Nat) (w1:World),i<=n->(∀q,q<i->gi xs q<v)->(∀q,i<=q->q<n->¬gi xs q<v)->Sep No w w1 []->(cond (decide ((i:Int)<n)) (aJ i n<|wA a λp=>af .i64 (p.add ((i:Int).toNat*1)) w1 λy=>cond (y==v) (Q i true w1) (aJ i n<|wA a λp=>af .i64 (p.add ((i:Int).toNat*1)) w1 λz=>nO z w1 λr w2=>cond r (nO v w2 λr' w3=>Q i r' w3) (Q i false w2))) (Q i false w1)):=λi w1 hi h1 h2 s=>by
   have ad7:gi xs i≠v\/i=n->v∉xs:=λh hv=>by
    obtain⟨q,hq⟩:=List.mem_iff_getElem?.1 hv;have hql:=(List.getElem?_eq_some_iff.1 hq).1;rw[iz hql,Option.some.injEq]at hq;rcases Nat.lt_trichotomy q i with h3|h3|h3
    ·grind
    ·grind
    ·have h4:=h2 i (Nat.le_refl _) (by omega);have h5:=Q6 hs h3 (by omega);omega
   by_cases hin:i<n
   ·rw[bM];apply(hX.fr (au s)).rJ rfl hin;by_cases hv:gi xs i=v
    ·rw[dN hv,cond_true];exact hy i w1 hin hv (bS s0 (au s)) (au s)
    ·rw[cy hv,cond_false];apply(hX.fr (au s)).rJ rfl hin;apply OF;rw[bne_self_eq_false];show cond false _ _;exact hno (ad7 (.inl hv)) i w1 (bS s0 (au s)) (au s)
   ·rw[bq];exact hno (ad7 (.inr (by omega))) i w1 (bS s0 (au s)) (au s)
  intro k;induction k with
  |zero=>
   intro i j w1 hk hij hj h1 h2 s;obtain rfl:i=j:=by omega
   show iW Q (gB Q 0) _ _ _ _ _ _ _ _;unfold iW;grind
  |succ k ih=>
   intro i j w1 hk hij hj h1 h2 s;show iW Q (gB Q (k+1)) _ _ _ _ _ _ _ _;unfold iW;by_cases hlt:i<j
   ·rw[bM,half hlt (by omega)];refine⟨by decide,?_⟩;apply(hX.fr (au s)).rJ rfl (by omega);apply VQ;apply Ba;rw[bne_self_eq_false];show cond false _ _;show cond (decide (gi xs ((i+j)/2)<v)) _ _;have Wm:∀q,q<(i+j)/2->gi xs q<gi xs ((i+j)/2):=λq hq=>Q6 hs hq (by omega);have awj:∀q,(i+j)/2<q->q<n->gi xs ((i+j)/2)<gi xs q:=λq hq hqn=>Q6 hs hq (by omega);by_cases hc:gi xs ((i+j)/2)<v
    ·rw[bM hc,aG];refine ih ((i+j)/2+1) j w1 (by omega) (by omega) hj (λq hq=>?_) h2 s;by_cases e:q=(i+j)/2
     ·rw[e];exact hc
     ·have:=Wm q (by omega);omega
    ·rw[bq hc];refine ih i ((i+j)/2) w1 (by omega) (by omega) (by omega) h1 (λq hq hqn=>?_) s;by_cases e:q=(i+j)/2
     ·rw[e];exact hc
     ·have:=awj q (by omega) hqn;omega
   ·obtain rfl:i=j:=by omega
    rw[bq (Int.lt_irrefl _)];exact stop i w1 hj h1 h2 s
 exact⟨n+1,loop n 0 n w (by omega) (by omega) (Nat.le_refl _) (λq h=>by omega) (λq h1 h2=>by omega) bh⟩
def aaa {Q:Int->World->Prop}(k:rV w r.p (ab2 r gp x))(h:Q x.fS w):r8 (sZ r.p) w Q:=by apply Fp;exact kY (ah (aR (k 3 _ rfl) h))
def aab {Q:Int->World->Prop}(h:Q 0 w):r8 Option.none w Q:=Fp _ _ _ h
def aac {Q:Option Addr->Nat->Nat->World->Prop}{i:Nat}{q:Ay}(s0:Sep F W w L)(k:Ev w r gp x)(hq:x.ps[i]? =some q)(hql:q.nodes.length<=1000000)(h:∀ra rn rc w',Sep F W w' (ak ra rn rc 3 1 (flat one q.nodes)::L)->Fr No w w'->Q ra rn rc w'):
  y6 (sZ r.p) i w Q:=by
 apply Qp;have hi:=(List.getElem?_eq_some_iff.1 hq).1;have hl:=k.row.len;apply kY;rw[bq];refine ah (dx (k.cell 1 _ rfl) ?_);rw[bq];refine ah (dx (k.cell 1 _ rfl) ?_);refine k.row.El rfl (by omega) λp y hy hc=>?_;rw[hq]at hy;cases hy;apply dx (hc 1 _ rfl);have hn:=(k.part q (List.mem_of_getElem? hq)).1;refine LH s0 hn (by rw[<-hn.len];omega) λra rc w' s f=>h ra _ rc w' s f
def xE (r:Bz)(i:Nat):Option Addr:=r.a.map λp=>p.add (i*3)
def NK {Q:Option Addr->Int->Bool->World->Prop}(s0:Sep F W w L)(k:Ev w r gp x)(kg:nB w gr g)(hgp:gp=gr.p)(hlen:(x.ps.length:Int)=eI g.m.w g.m.h)(Wm:∀q∈x.ps,q.nodes.Pairwise (·<·)/\q.nodes.length<1000000)
  (hno:¬bF g.m.w g.m.h ce->∀w',Sep F W w' L->Fr No w w'->Q none 0 false w')
  (hy:∀q (i:Nat) w',x.ps[(aC g.m.w g.m.h ce).toNat]? =some q->i<q.nodes.length->gi q.nodes i=ce->Sep F W w' L->Fr No w w'->Q (xE r (aC g.m.w g.m.h ce).toNat) i true w')
  (hn:∀q i w',x.ps[(aC g.m.w g.m.h ce).toNat]? =some q->ce∉q.nodes->Sep F W w' L->Fr No w w'->Q (xE r (aC g.m.w g.m.h ce).toNat) i false w'):uh (sZ r.p) ce w Q:=by
 subst hgp;apply Sn;refine kY (ah (dJ (k.cell 0 _ rfl) ?_));refine jn (bh (F:=No)) kg λw1 s1 _=>?_;refine eZ s1 λw1 s1 _=>?_;have f1:=au s1;by_cases hc:bF g.m.w g.m.h ce
 ·have hs:=bV hc;obtain⟨_,h0,h1⟩:=hs;rw[bq];have k:=k.fr f1;have hl:=k.row.len;refine ah (dx (k.cell 1 _ rfl) ?_);have hrow:=k.row;obtain⟨p,hp⟩:∃p,r.a=some p:=by obtain⟨ad,h2,_⟩:=hrow.row.2 (aC g.m.w g.m.h ce).toNat _ (List.getElem?_eq_getElem (by omega));grind
  have hP:xE r (aC g.m.w g.m.h ce).toNat=some (p.add ((aC g.m.w g.m.h ce).toNat*3)):=by unfold xE;rw[hp];rfl
  rw[hP]at hy hn;obtain⟨ad,had,yg⟩:=hrow.row.2 (aC g.m.w g.m.h ce).toNat _ (List.getElem?_eq_getElem (by omega));rw[hp,Option.some.injEq]at had;subst had;have hq:x.ps[(aC g.m.w g.m.h ce).toNat]? =some (x.ps[(aC g.m.w g.m.h ce).toNat]'(by omega)):=List.getElem?_eq_getElem (by omega);generalize x.ps[(aC g.m.w g.m.h ce).toNat]'(by omega)=q at yg hq;have hqm:=List.mem_of_getElem? hq;refine⟨by omega,by omega,?_⟩;rw[hp];apply ah;apply Qq;refine ah (dx (x:=q.na) (m:=q.nn) (q:=q.nc) ?_ ?_)
  ·rw[add_add];exact yg 1 _ rfl
  ·obtain⟨h2,h3⟩:=Wm q hqm;have hn1:=(k.part q hqm).1;have hnl:=hn1.len;refine aiB hn1 (by omega) h2 s1 (λi w2 h4 h5 s2 f2=>?_) λh4 i w2 s2 f2=>?_
   ·exact hy q i w2 hq (by omega) h5 (bS s0 (au s2)) (au s2)
   ·exact hn q i w2 hq h4 (bS s0 (au s2)) (au s2)
 ·have e:aC g.m.w g.m.h ce=-1:=if_neg hc;rw[e,bM (by decide)];exact hno hc w1 (bS s0 f1) f1
end
end Go.Proofs.YtmegplnmiepfbaaGreatDoor.S
namespace Go.Proofs.YtmegplnmiepfbaaGreatDoor.S
open Go.Sx
attribute [local irreducible] af cE bw bg aA cu bY St Bx Al App cJ cB cz bW aL bD aq bT av ak aW mapA
section
variable {F:Nat->Prop}{W w w0:World}{L:List As}{r:Bz}{gp:Nat}{x:nD}{gr:uB}{g:iw}{m:bJ}{sc b:Int}
def NL (g:iw)(x:nD):Prop:=∀i q,x.ps[i]? =some q->q.e9=gi g.vs i
def HW (I:yD g x)(hf:NL g x){i:Nat}{q:Ay}(h:x.ps[i]? =some q):q.nodes=aY g.m i/\q.JO=jH g.m i:=I.ok i q h (hf i q h)
def GC:(iX m sc).length=(aY m sc).length:=by unfold iX;grind
def aop:(jH m sc).length=(aY m sc).length*(aY m sc).length:=by unfold jH Ax;rw[List.length_map,List.length_map,List.length_range,GC]
def aqA {i j:Nat}(hi:i<(aY m sc).length)(hj:j<(aY m sc).length):gi (jH m sc) (i*(aY m sc).length+j)=if qi m sc (gi (aY m sc) i) (gi (aY m sc) j)=bR then-1 else qi m sc (gi (aY m sc) i) (gi (aY m sc) j):=by
 have O_:0<(aY m sc).length:=by omega
 have d1:(i*(aY m sc).length+j)/(aY m sc).length=i:=by rw[Nat.mul_comm,Nat.mul_add_div O_,Nat.div_eq_of_lt hj,Nat.add_zero]
 have d2:(i*(aY m sc).length+j)%(aY m sc).length=j:=by rw[Nat.mul_comm,Nat.mul_add_mod,Nat.mod_eq_of_lt hj]
 have e:∀k,k<(aY m sc).length->gi (iX m sc) k=dX m.w m.h (gi (aY m sc) k):=λk hk=>by unfold gi iX;grind
 have h0:gi (jH m sc) (i*(aY m sc).length+j)=(λd=>if d=bR then-1 else d) (E0 (aD m.w m.h sc) (bz m.w m.h sc) (dO m sc) (iX m sc) i j):=by unfold jH Ax;rw[GC];show List.getD _ _ _=_;rw[List.getD_eq_getElem?_getD,List.getElem?_map,List.getElem?_map,List.getElem?_range (alU hi hj)];simp[Option.map_some,Option.getD_some,d1,d2]
 rw[h0];unfold E0 qi;grind
def agI {Q:Int->World->Prop}{s i j:Nat}{q:Ay}(k:Ev w r gp x)(hq:x.ps[s]? =some q)(hm:cI m)(hs:dW m.w m.h sc)(hc:q.nodes=aY m sc/\q.JO=jH m sc)(hi:i<(aY m sc).length)(hj:j<(aY m sc).length)
  (h:Q (qi m sc (gi (aY m sc) i) (gi (aY m sc) j)) w.drew):wF (xE r s) i j w Q:=by
 apply MP;obtain⟨ad,had,yg⟩:=k.row.row.2 s q hq;have hP:xE r s=some (ad.add (s*3)):=by unfold xE;rw[had];rfl
 obtain⟨k1,k2⟩:=k.part q (List.mem_of_getElem? hq);have n1:=k1.len;have n2:=k2.len;rw[hc.1]at n1;rw[hc.2,aop]at n2;have oZ:=zU hs;have hsq:=alU hi hj;have hij:=Nat.mul_le_mul (by omega) oZ;rw[hP];refine ah (dx (by rw[add_add];exact yg 2 _ rfl) (ah (dx (by rw[add_add];exact yg 1 _ rfl) ?_)));rw[<-n1,show(i:Int)*(((aY m sc).length:Nat):Int)=((i*(aY m sc).length:Nat):Int) by grind,aG (n:=((i*(aY m sc).length:Nat):Int)),aG];apply FU k2.drew (k:=i*(aY m sc).length+j) (by omega) (by omega);rw[hc.2,aqA hi hj];have ha:=mI hs (ff hi);have hb:=mI hs (ff hj);have hr:=Z_ hm hs ha.2 hb.2 hb.1;by_cases hI:qi m sc (gi (aY m sc) i) (gi (aY m sc) j)=bR
 ·rw[if_pos hI,bne_self_eq_false,cond_false];rw[hI]at h;exact h
 ·rw[if_neg hI,show(qi m sc (gi (aY m sc) i) (gi (aY m sc) j) !=-1)=true by grind,cond_true,aG];exact h
def ata:∃inf,P.info? 319=some inf/\inf.size≠0:=by obtain⟨inf,u,z,k1,k2,k3,k4,k5,k6,k7⟩:=uM ee (t:=319) rfl;grind
def auX:P.underlying 354=some (.pointer 319):=by kernel_rfl
def Q7 {α β:Type}{f:α->Option β}{l:List α}{i:Nat}{a:α}(h:l[i]? =some a):(l.take (i+1)).filterMap f=(l.take i).filterMap f++(f a).toList:=by rw[List.take_add_one,h,List.filterMap_append];congr 1
def ab4 {Q:Option Addr->Nat->Nat->World->Prop}(s0:Sep F W w L)(k:Ev w r gr.p x)(kg:nB w gr g)(I:yD g x)(hf:NL g x)(hb:bF g.m.w g.m.h b)(hn:oe g.m b)
  (h:∀ra rn rc w',Sep F W w' (ak ra rn rc 292 2 (flat Dn (Kv g.m b))::L)->Fr No w w'->Q ra rn rc w'):Ac (sZ r.p) b w Q:=by
 apply So;have hm:=kg.ok.may;have hs:=bV hb;have hlen:=I.len;have hps:∀(i:Nat) (q:Ay),x.ps[i]? =some q->dW g.m.w g.m.h i:=λi q h=>⟨⟨hm.w,hm.h⟩,by omega,by have:=(List.getElem?_eq_some_iff.1 h).1;omega⟩;have Wm:∀q∈x.ps,q.nodes.Pairwise (·<·)/\q.nodes.length<1000000:=λq hq=>by obtain⟨i,hi⟩:=List.mem_iff_getElem?.1 hq;rw[(HW I hf hi).1];have:=zU (hps i q hi);exact⟨NJ (hps i q hi),by omega⟩
 have e0:=Int.toNat_of_nonneg hs.2.1;refine NK (bh (F:=No)) k kg rfl I.len Wm (λe=>(e hb).elim) (λq j w1 hq hj hgj s1 f1=>?_) λq i w1 hq hni s1 f1=>?_
 rotate_left
 ·have:=(HW I hf hq).1;rw[e0]at this;rw[this]at hni;exact(hni hn).elim
 have hc:=HW I hf hq;rw[e0]at hc;rw[hc.1]at hj hgj;rw[Bool.not_true,cond_false];have k1:=k.fr f1;obtain⟨ad,had,yg⟩:=k1.row.row.2 _ q hq;obtain⟨pb,po,hbase⟩:=k1.base (by have:=(List.getElem?_eq_some_iff.1 hq).1;omega);have hP:xE r (aC g.m.w g.m.h b).toNat=some (ad.add ((aC g.m.w g.m.h b).toNat*3)):=by unfold xE;rw[had];rfl
 obtain⟨q1,q2⟩:=k1.part q (List.mem_of_getElem? hq);have hql:=q1.len;rw[hc.1]at hql;have oZ:=zU hs;rw[hP];refine ah (dx (by rw[add_add];exact yg 1 _ rfl) ?_);rw[<-hql,wrap_i64 (n:=(((aY g.m (aC g.m.w g.m.h b)).length:Nat):Int)+1) (by omega) (by omega)];refine xL (x0:=((0:Int),(0:Int))) (bytes:=16) (ln:=0) (cn:=(aY g.m (aC g.m.w g.m.h b)).length+1) ee s1 rfl rfl rfl rfl rfl rfl (by decide) QT rfl (λu hu=>akF _ u hu) rfl (by omega) (by omega) (by omega) (by simp[maxLen];omega) λob w1 s1=>?_;have s1:=s1;have f1:=au s1;have k1:=k.fr f1;obtain⟨ad',auZ,aih⟩:=k1.row.row.2 _ q hq;obtain rfl:ad'=ad:=by rw[had]at auZ;cases auZ;rfl
 refine ah (dx (by rw[add_add];exact aih 1 _ rfl) ?_);rw[<-hP,<-hql];have sides:∀(n2 sd:Nat) (oa:Option Addr) (on oc:Nat) (w2:World),sd+n2=4->on<=300+sd->Sep No w w2 [ak oa on oc 292 2 (flat Dn (abZ g.m b++SQ g.m b sd))]->
   lA Q (n2+1) (sZ r.p) b (xE r (aC g.m.w g.m.h b).toNat) oa on oc g.m.w g.m.h sd w2:=by
  intro n2;induction n2 with
  |zero=>
   intro sd oa on oc w2 v8 ho s;show qH Q (lA Q 0) _ _ _ _ _ _ _ _ _ _;unfold qH;obtain rfl:sd=4:=by omega
   exact h oa on oc w2 (dA s0 s (i:=0) rfl) (au s)
  |succ n2 ih=>
   intro sd oa on oc w2 v8 ho s;show qH Q (lA Q (n2+1)) _ _ _ _ _ _ _ _ _ _;rw[qH,bM,aG];have skip:∀(w3:World),Sep No w w3 [ak oa on oc 292 2 (flat Dn (abZ g.m b++SQ g.m b sd))]->¬(0<=aX g.m.w g.m.h b sd/\oe g.m (aX g.m.w g.m.h b sd)/\cT g.m (aX g.m.w g.m.h b sd)≠cT g.m b)->
     lA Q (n2+1) (sZ r.p) b (xE r (aC g.m.w g.m.h b).toNat) oa on oc g.m.w g.m.h ((sd:Int)+1) w3:=λw3 s hno=>by
    apply ih (sd+1) oa on oc w3 (by omega) (by omega);rw[ab0];rw[Q5,if_neg hno];show Sep No w w3 [ak oa on oc 292 2 (flat Dn (abZ g.m b++(SQ g.m b sd++[])))];rw[List.append_nil];exact s
   refine jt s λw2 s _=>?_;refine NK s (k.fr (au s)) (kg.fr (au s)) rfl I.len Wm (λe w3 s _=>?_) (λq' i' w3 II hi' aye s _=>?_) λq' i' w3 II au0 s _=>?_
   ·exact skip w3 s λe'=>e (xN e'.1).2
   ·have hn':oe g.m (aX g.m.w g.m.h b sd)/\bF g.m.w g.m.h (aX g.m.w g.m.h b sd):=by
     have h2:=(HW I hf II).1;have h3:aX g.m.w g.m.h b sd∈q'.nodes:=by rw[<-aye];exact ff hi'
     rw[h2]at h3;have hok:=hps _ _ II;have h4:=mI hok h3;have e5:=Int.toNat_of_nonneg (bV h4.2.1).2.1;rw[e5]at h3;exact⟨h3,h4.2.1⟩
    have hs':=bV hn'.2;have eP:∀i,xE r i=some ⟨pb,po+i*3,none⟩:=λi=>by unfold xE;rw[hbase];show some (Addr.add ⟨pb,po,none⟩ (i*3))=_;rw[cq]
    have ayf:∀(K:Bool->World->Prop) (x y:Operand) (wz:World),K (!decide (aC g.m.w g.m.h (aX g.m.w g.m.h b sd)=aC g.m.w g.m.h b)) wz->bW P .neq 354 x y (.pointer (xE r (aC g.m.w g.m.h (aX g.m.w g.m.h b sd)).toNat)) (.pointer (xE r (aC g.m.w g.m.h b).toNat)) wz K:=λK x y wz hK=>by
     rw[eP,eP];obtain⟨inf,YF,hi2⟩:=ata;apply auT auX YF hi2;have e6:(po+(aC g.m.w g.m.h (aX g.m.w g.m.h b sd)).toNat*3=po+(aC g.m.w g.m.h b).toNat*3)↔aC g.m.w g.m.h (aX g.m.w g.m.h b sd)=aC g.m.w g.m.h b:=by have:=hs'.2.1;omega
     simp only[e6];exact hK
    apply ayf;by_cases SS:aC g.m.w g.m.h (aX g.m.w g.m.h b sd)=aC g.m.w g.m.h b
    ·rw[decide_eq_true SS,Bool.not_true,cond_false];exact skip w3 s λe'=>e'.2.2 SS
    ·rw[decide_eq_false SS,Bool.not_false,cond_true];have k3:=k.fr (au s);refine ah (dJ (k3.cell 0 _ rfl) ?_);apply jm (kg.fr (au s));refine aqd (x:=(aX g.m.w g.m.h b sd,cA g.m b)) s (by omega) λoa oc w3 s=>?_;apply ih (sd+1) oa (on+1) oc w3 (by omega) (by omega);rw[ab0];rw[Q5,if_pos ⟨hn'.2.2.1,hn'.1,SS⟩,<-List.append_assoc];exact s
   ·refine skip w3 s λe'=>?_;have h2:=(HW I hf II).1;have Bj:=(xN e'.1).2;rw[Int.toNat_of_nonneg (bV Bj).2.1]at h2;rw[h2]at au0;exact au0 e'.2.1
 have nodes:∀(n2 i:Nat) (oa:Option Addr) (on oc:Nat) (w2:World),i+n2=(aY g.m (aC g.m.w g.m.h b)).length->on<=i->Sep No w w2 [ak oa on oc 292 2 (flat Dn (((aY g.m (aC g.m.w g.m.h b)).take i).filterMap λa=>if a≠b/\qi g.m (cT g.m b) a b≠bR then some (a,qi g.m (cT g.m b) a b)else none))]->
   mC Q (n2+1) (sZ r.p) b (xE r (aC g.m.w g.m.h b).toNat) j oa on oc q.na (aY g.m (aC g.m.w g.m.h b)).length q.nc (aY g.m (aC g.m.w g.m.h b)).length i w2:=by
  intro n2;induction n2 with
  |zero=>
   intro i oa on oc w2 hi ho s;show rS Q (mC Q 0) _ _ _ _ _ _ _ _ _ _ _ _ _;rw[rS,bq];have k2:=k.fr (au s);refine ah (dJ (k2.cell 0 _ rfl) ?_);refine jn s (kg.fr (au s)) λw2 s _=>?_;rw[List.take_of_length_le (by omega)]at s;refine⟨5,sides 4 0 oa on oc w2 rfl (by omega) ?_⟩;show Sep No w w2 [ak oa on oc 292 2 (flat Dn (abZ g.m b++[]))];rw[List.append_nil];exact s
  |succ n2 ih=>
   intro i oa on oc w2 hi ho s;show rS Q (mC Q (n2+1)) _ _ _ _ _ _ _ _ _ _ _ _ _;rw[rS,bM,aG];have k2:=k.fr (au s);have q1:=(k2.part q (List.mem_of_getElem? hq)).1;rw[hc.1,<-hql]at q1;apply q1.rJ rfl (by omega);apply agI k2 hq hm hs hc (by omega) hj;rw[hgj];have s:=ay s;have ht:=Q7 (f:=λa=>if a≠b/\qi g.m (cT g.m b) a b≠bR then some (a,qi g.m (cT g.m b) a b)else none) (iz (l:=aY g.m (aC g.m.w g.m.h b)) (i:=i) (by omega));have hne:gi (aY g.m (aC g.m.w g.m.h b)) i≠b↔i≠j:=by
    constructor
    ·rintro h1 rfl;exact h1 hgj
    ·intro h1 h2;rcases Nat.lt_or_gt_of_ne h1 with h3|h3
     ·have:=Q6 (NJ hs) h3 hj;omega
     ·have:=Q6 (NJ hs) h3 (by omega);omega
   have skip:¬(gi (aY g.m (aC g.m.w g.m.h b)) i≠b/\qi g.m (cT g.m b) (gi (aY g.m (aC g.m.w g.m.h b)) i) b≠bR)->mC Q (n2+1) (sZ r.p) b (xE r (aC g.m.w g.m.h b).toNat) j oa on oc q.na (aY g.m (aC g.m.w g.m.h b)).length q.nc (aY g.m (aC g.m.w g.m.h b)).length ((i:Int)+1) w2.drew:=λhno=>by apply ih (i+1) oa on oc _ (by omega) (by omega);rw[ht,if_neg hno];show Sep No w _ [ak oa on oc 292 2 (flat Dn (_++[]))];rw[List.append_nil];exact s
   by_cases hij:i=j
   ·rw[show((i:Int) !=(j:Int))=false by rw[hij];exact bne_self_eq_false _,cond_false];exact skip λe=>hne.1 e.1 hij
   ·rw[show((i:Int) !=(j:Int))=true by rw[bne_iff_ne];omega,cond_true];by_cases hI:qi g.m (cT g.m b) (gi (aY g.m (aC g.m.w g.m.h b)) i) b=bR
    ·have Wn:qi g.m (aC g.m.w g.m.h b) (gi (aY g.m (aC g.m.w g.m.h b)) i) b=1099511627776:=hI;rw[Wn,bne_self_eq_false,cond_false];exact skip λe=>e.2 hI
    ·have Wn:qi g.m (aC g.m.w g.m.h b) (gi (aY g.m (aC g.m.w g.m.h b)) i) b≠1099511627776:=hI;rw[show(qi g.m (aC g.m.w g.m.h b) (gi (aY g.m (aC g.m.w g.m.h b)) i) b !=1099511627776)=true by rw[bne_iff_ne];exact Wn,cond_true];refine aqd (x:=(gi (aY g.m (aC g.m.w g.m.h b)) i,qi g.m (aC g.m.w g.m.h b) (gi (aY g.m (aC g.m.w g.m.h b)) i) b)) s (by omega) λoa oc w3 s=>?_;apply ih (i+1) oa (on+1) oc w3 (by omega) (by omega);rw[ht,if_pos ⟨hne.2 hij,hI⟩];exact s
 exact⟨_,nodes (aY g.m (aC g.m.w g.m.h b)).length 0 _ 0 _ w1 (by omega) (by omega) s1⟩
end
section
variable {F:Nat->Prop}{W w w0:World}{L:List As}{r:Bz}{gp:Nat}{x:nD}{gr:uB}{g:iw}{m:bJ}{sc b:Int}
def aqB (hm:cI m)(hs:dW m.w m.h sc){d:Int}(h:d∈Ax (aD m.w m.h sc) (bz m.w m.h sc) (dO m sc) (iX m sc)):0<=d/\(d≠bR->d<1000000000):=by
 obtain⟨k,hk,rfl⟩:=List.mem_map.1 h;have hk:=List.mem_range.1 hk;rw[GC]at hk⊢;have O_:0<(aY m sc).length:=by grind
 have hi:=Nat.div_lt_of_lt_mul hk;have hj:k%(aY m sc).length<(aY m sc).length:=Nat.mod_lt _ O_;have e:∀k,k<(aY m sc).length->gi (iX m sc) k=dX m.w m.h (gi (aY m sc) k):=λk hk=>by unfold gi iX;grind
 have ha:=mI hs (ff hi);have hb:=mI hs (ff hj);have hr:=Z_ hm hs ha.2 hb.2 hb.1;have e2:E0 (aD m.w m.h sc) (bz m.w m.h sc) (dO m sc) (iX m sc) (k/(aY m sc).length) (k%(aY m sc).length)=qi m sc (gi (aY m sc) (k/(aY m sc).length)) (gi (aY m sc) (k%(aY m sc).length)):=by unfold E0 qi;grind
 grind
def ad8 {Q:Int->Option Addr->Nat->Nat->Option Addr->Nat->Nat->World->Prop}{rb tb pb nn nc tn tc:Nat}{na ta:Option Addr}{e9:Int}(hm:cI m)(hs:dW m.w m.h sc)
  (s:Sep No w0 w [av pb 319 [ae e9,.slice na nn nc,.slice none 0 0],ak na nn nc 3 1 (flat one (aY m sc)),av tb 84 [ae (aD m.w m.h sc),ae (bz m.w m.h sc),.slice ta tn tc],ak ta tn tc 5 1 (flat bp (dO m sc)),av rb 319 [ae 0,.slice none 0 0,.slice none 0 0]])
  (h:∀da dn dc w',Sep No w0 w' [ak na nn nc 3 1 (flat one (aY m sc)),ak da dn dc 21 1 (flat oY (jH m sc))]->Q e9 na nn nc da dn dc w'):rR Q (aZ rb) m.w m.h (aZ tb) (aZ pb) w:=by
 have oZ:=zU hs;have hnn:=(aN s (i:=1) rfl cF (by decide)).len;apply lS s 0 rfl;have conv:∀(qa:Option Addr) (qc N:Nat) (da:Option Addr) (w1:World),N=nn*nn->Sep No w0 w1 [ak da N N 21 1 (flat oY (List.replicate N 0)),ak qa N qc 3 1 (flat one (Ax (aD m.w m.h sc) (bz m.w m.h sc) (dO m sc) (iX m sc))),av pb 319 [ae e9,.slice na nn nc,.slice da N N],ak na nn nc 3 1 (flat one (aY m sc)),av rb 319 [ae 0,.slice none 0 0,.slice none 0 0]]->
   ∃k',lz Q k' (aZ rb) (aZ pb) qa N qc N 0 w1:=λqa qc N da w1 hN s=>by
  have hNb:N<=65536:=by have:=Nat.mul_le_mul (show nn<=256 by omega) (show nn<=256 by omega);omega
  have htl:(Ax (aD m.w m.h sc) (bz m.w m.h sc) (dO m sc) (iX m sc)).length=N:=by rw[Ax,List.length_map,List.length_range,GC,hnn,hN]
  have hdl:(jH m sc).length=N:=by unfold jH;grind
  have hdg:∀i,i<N->gi (jH m sc) i=if gi (Ax (aD m.w m.h sc) (bz m.w m.h sc) (dO m sc) (iX m sc)) i=bR then-1 else gi (Ax (aD m.w m.h sc) (bz m.w m.h sc) (dO m sc) (iX m sc)) i:=λi hi=>by show List.getD _ _ _=_;rw[jH,List.getD_eq_getElem?_getD,List.getElem?_map,iz (by omega)];rfl
  have loop:∀(k i:Nat) (w1:World),i+k=N->Sep No w0 w1 [ak da N N 21 1 (flat oY ((List.range N).map λq=>if q<i then gi (jH m sc) q else 0)),ak qa N qc 3 1 (flat one (Ax (aD m.w m.h sc) (bz m.w m.h sc) (dO m sc) (iX m sc))),av pb 319 [ae e9,.slice na nn nc,.slice da N N],ak na nn nc 3 1 (flat one (aY m sc)),av rb 319 [ae 0,.slice none 0 0,.slice none 0 0]]->
    lz Q (k+1) (aZ rb) (aZ pb) qa N qc N i w1:=by
   intro k;induction k with
   |zero=>
    intro i w1 hi s;show qG Q (lz Q 0) _ _ _ _ _ _ _ _;rw[qG,bq];have e:((List.range N).map λq=>if q<i then gi (jH m sc) q else 0)=jH m sc:=by refine U5 (by grind) λq hq=>?_;show List.getD _ _ _=_;grind
    rw[e]at s;refine lI s 2 rfl (lS s 2 rfl (lS s 2 rfl ?_));refine sT s 4 rfl λw1 s=>?_;refine sT s 4 rfl λw1 s=>?_;refine ax s (i:=4) rfl rfl rfl λw1 s=>?_;refine lI s 4 rfl (lS s 4 rfl (lS s 4 rfl ?_));exact h da N N w1 (pk 99 [3,0] s)
   |succ k ih=>
    intro i w1 hi s;show qG Q (lz Q (k+1)) _ _ _ _ _ _ _ _;rw[qG,bM,aG];apply(aN s (i:=1) rfl cF (by decide)).rJ rfl (by omega);apply lS s 2 rfl;refine EW vv s (i:=0) (k:=i) (x':=-1) rfl (by omega) (by rw[List.length_map,List.length_range];omega) rfl rfl λw1 s=>?_;have hr:=aqB hm hs (ff (i:=i) (by omega));have hdi:=hdg i (by omega);rw[JN]at s;by_cases hI:gi (Ax (aD m.w m.h sc) (bz m.w m.h sc) (dO m sc) (iX m sc)) i=bR
    ·rw[if_pos hI]at hdi;have Wn:gi (Ax (aD m.w m.h sc) (bz m.w m.h sc) (dO m sc) (iX m sc)) i=1099511627776:=hI;rw[Wn,bne_self_eq_false,cond_false];apply ih (i+1) w1 (by omega);have e:((List.range N).map λq=>if q=i then-1 else if q<i then gi (jH m sc) q else 0)=(List.range N).map λq=>if q<i+1 then gi (jH m sc) q else 0:=by
      refine List.map_congr_left λq _=>?_;by_cases c1:q=i
      ·rw[if_pos c1,AI,c1,hdi]
      ·rw[if_neg c1];by_cases c2:q<i
       ·rw[if_pos c2,AI]
       ·rw[if_neg c2,fR]
     rw[e]at s;exact s
    ·rw[if_neg hI]at hdi;have Wn:gi (Ax (aD m.w m.h sc) (bz m.w m.h sc) (dO m sc) (iX m sc)) i≠1099511627776:=hI;rw[show(gi (Ax (aD m.w m.h sc) (bz m.w m.h sc) (dO m sc) (iX m sc)) i !=1099511627776)=true by rw[bne_iff_ne];exact Wn,cond_true];apply lS s 2 rfl;rw[afb (by omega)];refine EW vv s (i:=0) (k:=i) (x':=gi (Ax (aD m.w m.h sc) (bz m.w m.h sc) (dO m sc) (iX m sc)) i) rfl (by omega) (by rw[List.length_map,List.length_range];omega) rfl rfl λw1 s=>?_;rw[JN]at s;apply ih (i+1) w1 (by omega);have e:((List.range N).map λq=>if q=i then gi (Ax (aD m.w m.h sc) (bz m.w m.h sc) (dO m sc) (iX m sc)) i else if q=i then-1 else if q<i then gi (jH m sc) q else 0)=(List.range N).map λq=>if q<i+1 then gi (jH m sc) q else 0:=by
      refine List.map_congr_left λq _=>?_;by_cases c1:q=i
      ·rw[if_pos c1,AI,c1,hdi]
      ·rw[if_neg c1,if_neg c1];by_cases c2:q<i
       ·rw[if_pos c2,AI]
       ·rw[if_neg c2,fR]
     rw[e]at s;exact s
  refine⟨N+1,loop N 0 w1 (by omega) ?_⟩;have e:((List.range N).map λq=>if q<0 then gi (jH m sc) q else 0)=List.replicate N 0:=by rw[List.eq_replicate_iff];refine⟨by simp,λx hx=>?_⟩;obtain⟨q,_,rfl⟩:=List.mem_map.1 hx;rw[if_neg (Nat.not_lt_zero _)]
  grind
 have loop:∀(k i:Nat) (la:Option Addr) (lc:Nat) (w1:World),i+k=nn->Sep No w0 w1 [ak la i lc 3 1 (flat one ((iX m sc).take i)),av pb 319 [ae e9,.slice na nn nc,.slice none 0 0],ak na nn nc 3 1 (flat one (aY m sc)),av tb 84 [ae (aD m.w m.h sc),ae (bz m.w m.h sc),.slice ta tn tc],ak ta tn tc 5 1 (flat bp (dO m sc)),av rb 319 [ae 0,.slice none 0 0,.slice none 0 0]]->
   oz Q (k+1) (aZ rb) m.w m.h (aZ tb) (aZ pb) la i lc na nn nc nn i w1:=by
  intro k;induction k with
  |zero=>
   intro i la lc w1 hi s;show rQ Q (oz Q 0) _ _ _ _ _ _ _ _ _ _ _ _ _ _;rw[rQ,bq];have NM:(iX m sc).length=nn:=by rw[GC,hnn]
   rw[List.take_of_length_le (by omega)]at s;refine lI s 3 rfl (lI s 3 rfl (lS s 3 rfl ?_));refine Z8 s (aN s (i:=4) rfl cV (by decide)) (aN s (i:=0) rfl cF (by decide)) (Q3 hm hs) (aom hm hs) λqa qc w1 s _=>?_;rw[NM]at s⊢;have hNb:nn*nn<=65536:=by have:=Nat.mul_le_mul (show nn<=256 by omega) (show nn<=256 by omega);omega
   refine xL (bytes:=4) ee s rfl rfl rfl rfl rfl rfl (by decide) vv rfl (λu hu=>by unfold oY at hu;rw[List.mem_singleton]at hu;rw[hu];rfl) rfl rfl (Nat.le_refl _) (by omega) (by simp[maxLen];omega) λdb w1 s=>?_;refine ax s (i:=3) rfl rfl rfl λw1 s=>?_;exact conv qa qc (nn*nn) (sZ db) w1 rfl (pk 99 [0,1,3,4,7] s)
  |succ k ih=>
   intro i la lc w1 hi s;show rQ Q (oz Q (k+1)) _ _ _ _ _ _ _ _ _ _ _ _ _ _;rw[rQ,bM,aG];apply(aN s (i:=2) rfl cF (by decide)).rJ rfl (by omega);refine tD s λw1 s _=>?_;refine LD s (by omega) λla lc w1 s=>?_;apply ih (i+1) la lc w1 (by omega);have e:(iX m sc).take (i+1)=(iX m sc).take i++[dX m.w m.h (gi (aY m sc) i)]:=by rw[iX,List.take_add_one,List.getElem?_map,iz (by omega)];rfl
   rw[e];exact s
 exact⟨nn+1,loop nn 0 none 0 w (by omega) (bE s 3 1)⟩
def ab6 {Q:Int->Option Addr->Nat->Nat->Option Addr->Nat->Nat->World->Prop}{vs:List Value}(s0:Sep F W w L)(k:rV w r.p (.pointer (sZ gr.p)::vs))(kg:nB w gr g)(hs:dW g.m.w g.m.h sc)
  (h:∀na nn nc da dn dc w',Sep F W w' ([ak na nn nc 3 1 (flat one (aY g.m sc)),ak da dn dc 21 1 (flat oY (jH g.m sc))]++L)->Fr No w w'->Q (zz g sc) na nn nc da dn dc w'):Ab (sZ r.p) sc w Q:=by
 apply Sj;have hm:=kg.ok.may;have fin:∀(na:Option Addr) (nn nc:Nat) (da:Option Addr) (dn dc:Nat) (w':World),Sep No w w' [ak na nn nc 3 1 (flat one (aY g.m sc)),ak da dn dc 21 1 (flat oY (jH g.m sc))]->Q (zz g sc) na nn nc da dn dc w':=λna nn nc da dn dc w' s=>h na nn nc da dn dc w' (fu s0 s) (au s);refine aS (bh (F:=No)) λrb w1 s=>?_;have kc:∀{w':World} {L':List As},Sep No w w' L'->w'.cell? (aZ r.p)=some (.pointer (sZ gr.p)):=λs=>by have:=(k.fr (au s)) 0 _ rfl;exact this
 refine ah (dJ (kc s) ?_);refine jn s (kg.fr (au s)) λw1 s _=>?_;refine ah (dJ (kc s) ?_);refine Nu s (kg.fr (au s)) (λe=>(e hs).elim) λ_ ta tn tc w1 s _=>?_;rw[aip hm hs]at s;refine aS s λtb w1 s=>?_;refine sT s 0 rfl λw1 s=>?_;refine sT s 0 rfl λw1 s=>?_;refine ax s (i:=0) rfl rfl rfl λw1 s=>?_;have s:=ay s;refine ah (dJ (kc s) (ah (dJ (kc s) ⟨?_,?_⟩)))
 ·refine rT (kg.fr (au s)) ⟨kc s,?_,?_⟩
  ·refine xB s (kg.fr (au s)) hs λna nn nc w1 s _=>?_;refine aS s λpb w1 s=>?_;refine⟨kc s,kc s,?_⟩;refine sT s 0 rfl λw1 s=>?_;refine sT s 0 rfl λw1 s=>?_;refine ax s (i:=0) rfl rfl rfl λw1 s=>?_;exact ad8 hm hs s λda dn dc w' s=>fin _ _ _ da dn dc w' s
  ·refine aS s λpb w1 s=>?_;refine⟨kc s,kc s,?_⟩;refine xB s (kg.fr (au s)) hs λna nn nc w1 s _=>?_;refine sT s 1 rfl λw1 s=>?_;refine sT s 1 rfl λw1 s=>?_;refine ax s (i:=1) rfl rfl rfl λw1 s=>?_;exact ad8 hm hs (pk 99 [1,0,2,3,4] s) λda dn dc w' s=>fin _ _ _ da dn dc w' s
 ·refine aS s λpb w1 s=>?_;refine⟨kc s,kc s,?_⟩;refine rT (kg.fr (au s)) ⟨kc s,?_⟩;refine xB s (kg.fr (au s)) hs λna nn nc w1 s _=>?_;refine sT s 1 rfl λw1 s=>?_;refine sT s 1 rfl λw1 s=>?_;refine ax s (i:=1) rfl rfl rfl λw1 s=>?_;exact ad8 hm hs (pk 99 [1,0,2,3,4] s) λda dn dc w' s=>fin _ _ _ da dn dc w' s
end
section
variable {F:Nat->Prop}{W w w0:World}{L:List As}{r:Bz}{gp:Nat}{x:nD}{gr:uB}{g:iw}{m:bJ}{sc b:Int}
def SU (x:nD)(i:Nat):Int:=(x.ps[i]?.map (·.e9)).getD 0
def aad {i:Nat}{q:Ay}(h:x.ps[i]? =some q):SU x i=q.e9:=by unfold SU;rw[h];rfl
def kF (g:iw)(x:nD)(j:Nat):List Nat:=(List.range j).filter λi=>SU x i !=gi g.vs i
def zC (g:iw)(x:nD)(j:Nat):List Int:=(kF g x j).map λi:Nat=>(i:Int)
def alV {j:Nat}:zC g x (j+1)=zC g x j++if SU x j !=gi g.vs j then[(j:Int)]else[]:=by unfold zC kF;rw[List.range_succ,List.filter_append,List.map_append];grind
def aae {Q:Option Addr->Nat->Nat->World->Prop}(s0:Sep F W w L)(k:Ev w r gr.p x)(kg:nB w gr g)(I:yD g x)
  (h:∀da dn dc w',Sep F W w' (ak da dn dc 3 1 (flat one (zC g x x.ps.length))::L)->Fr No w w'->Q da dn dc w'):yZ (sZ r.p) w Q:=by
 apply Qi;have k:=k.fr (w':=w.drew) Fr.refl;have kg:=kg.fr (w':=w.drew) Fr.refl;have s0:=ay s0;have hc:=(gM kg.ok.may.w kg.ok.may.h).2;have IG:=I.len;refine kY (ah (aR (k.cell 2 _ rfl) (ah (dJ (k.cell 0 _ rfl) ?_))));refine qZ kg ⟨k.cell 2 _ rfl,?_⟩;by_cases yg:x.clean=g.ep
 ·rw[dN yg,cond_true];refine h none 0 0 w.drew ?_ Fr.refl;have e:zC g x x.ps.length=[]:=by unfold zC kF;rw[List.map_eq_nil_iff,List.filter_eq_nil_iff];intro i hi;have hi:=List.mem_range.1 hi;have hq:=List.getElem?_eq_getElem hi;rw[aad hq,I.all yg i _ hq,bne_self_eq_false];decide
  rw[e];exact bE s0 3 1
 rw[cy yg,cond_false];refine ah (dx (k.cell 1 _ rfl) ?_);have hn:=k.row.len;have loop:∀(j i:Nat) (oa:Option Addr) (on oc:Nat) (w1:World),i+j=r.n->on<=i->Sep No w w1 [ak oa on oc 3 1 (flat one (zC g x i))]->nH Q (j+1) (sZ r.p) oa on oc r.n i w1:=by
  intro j;induction j with
  |zero=>
   intro i oa on oc w1 hi ho s;show qF Q (nH Q 0) _ _ _ _ _ _ _;rw[qF,bq];obtain rfl:i=x.ps.length:=by omega
   exact h oa on oc w1 (dA s0 s (i:=0) rfl) (au s)
  |succ j ih=>
   intro i oa on oc w1 hi ho s;show qF Q (nH Q (j+1)) _ _ _ _ _ _ _;rw[qF,bM,aG];have s:=ay s;have k1:=k.fr (au s);have kg1:=kg.fr (au s);refine ah (dx (k1.cell 1 _ rfl) ?_);refine k1.row.El rfl (by omega) λp q hq yg=>?_;have hc0:=yg 0 _ rfl;refine aR hc0 (ah (dJ (by have:=k1.cell 0 _ rfl;rw[add_zero]at this;exact this) ?_));refine rT kg1 ⟨hc0,k1.cell 1 _ rfl,?_⟩;have hv:zz g i=gi g.vs i:=by have:=kg.ok.len;unfold zz;grind
   rw[hv,<-aad hq];have hds:=alV (g:=g) (x:=x) (j:=i);cases hb:SU x i !=gi g.vs i with
   |true=>
    refine LD s (by omega) λoa oc w1 s=>?_;grind
   |false=>
    grind
 exact⟨r.n+1,loop r.n 0 none 0 0 w.drew (by omega) (by omega) (bE bh 3 1)⟩
def WrP {a:Option Addr}{n c i:Nat}{es:List Ay}{idx:Int}{k:Nat}{q:Ay}{K:World->Prop}(s:Sep F W w L)(hi:L[i]? =some (ak a n c 319 3 (flat Kw es)))(hk:idx=k)(hn:k<es.length)(h:∀w',Sep F W w' (L.set i (ak a n c 319 3 (flat Kw (es.set k q))))->K w'):
  aJ idx n (wA a λp=>St ((p.add (idx.toNat*3)).add 0) (ae q.e9) w λw=>St ((p.add (idx.toNat*3)).add 1) (.slice q.na q.nn q.nc) w λw=>St ((p.add (idx.toNat*3)).add 2) (.slice q.da q.dn q.dc) w λw=>K w):=by
 have hl:=(aN s hi Ct (by decide)).len;subst hk;have hg:=List.getElem?_eq_getElem hn;generalize es[k]=e0 at hg;refine CF s hi rfl (by omega) λg o ha=>?_;subst ha;have ad:∀j,(((⟨g,o,none⟩:Addr).add ((k:Int).toNat*3)).add j)=⟨g,o+(k*3+j),none⟩:=λj=>by rw[add_add,cq,Int.toNat_natCast]
 have IL:=(List.getElem?_eq_some_iff.1 hi).1;refine dQ (x':=⟨q.e9,e0.na,e0.nn,e0.nc,e0.da,e0.dn,e0.dc,e0.nodes,e0.JO⟩) Ct s hi hg (ad 0) (by decide) rfl rfl λw s=>?_;refine dQ (x:=⟨q.e9,e0.na,e0.nn,e0.nc,e0.da,e0.dn,e0.dc,e0.nodes,e0.JO⟩) (x':=⟨q.e9,q.na,q.nn,q.nc,e0.da,e0.dn,e0.dc,e0.nodes,e0.JO⟩) Ct s (by rw[List.getElem?_set_self IL]) (by grind) (ad 1) (by decide) rfl rfl λw s=>?_;rw[List.set_set,List.set_set]at s;refine dQ (x:=⟨q.e9,q.na,q.nn,q.nc,e0.da,e0.dn,e0.dc,e0.nodes,e0.JO⟩) (x':=q) Ct s (by rw[List.getElem?_set_self IL]) (by grind) (ad 2) (by decide) rfl rfl λw s=>?_;simp_all
def ad9:Nat->Int->Int
 |0,c=>c
 |k+1,c=>ad9 k (Ta.sat c 1)
def Wo {Q:Int->World->Prop}(s:Sep F W w (nW gr g::uC r gr.p x::L))(I:yD g x)
  (h:∀(x':nD) w',yD g x'->NL g x'->x'.clean=g.ep->x'.fS=ad9 (kF g x x.ps.length).length x.fS->Sep F W w' (nW gr g::uC r gr.p x'::L)->Q ((kF g x x.ps.length).length:Int) w'):wE (sZ r.p) w Q:=by
 apply MN;apply kY;have kg:=oQ s;have hgl:=kg.ok.len;have Wh:=(gM kg.ok.may.w kg.ok.may.h).2;have IG:=I.len;refine aae s (Wl (ai s)) kg I λda dn dc w1 s _=>?_;have hD:=(aN s (i:=0) rfl cF (by decide)).len;have hds:(kF g x x.ps.length).length=dn:=by rw[<-hD];unfold zC;rw[List.length_map]
 have hdi:∀i,i<dn->gi (zC g x x.ps.length) i=((kF g x x.ps.length).getD i 0:Nat):=λi hi=>by unfold zC;show List.getD _ _ _=_;rw[List.getD_eq_getElem?_getD,List.getElem?_map,List.getD_eq_getElem?_getD,List.getElem?_eq_getElem (by omega)];rfl
 have hdm:∀i,i<dn->(kF g x x.ps.length).getD i 0<x.ps.length:=λi hi=>by
  have:(kF g x x.ps.length).getD i 0∈kF g x x.ps.length:=by rw[List.getD_eq_getElem?_getD,List.getElem?_eq_getElem (by omega)];exact List.getElem_mem _
  exact List.mem_range.1 (List.mem_filter.1 this).1
 have hdn:dn<=x.ps.length:=by rw[<-hds];have:=List.length_filter_le (λi=>SU x i !=gi g.vs i) (List.range x.ps.length);rw[List.length_range]at this;exact this
 have loop:∀(j i:Nat) (ps:List Ay) (c:Int) (w1:World),i+j=dn->ps.length=x.ps.length->Ta.U c->ad9 j c=ad9 dn x.fS->
   (∀k q,ps[k]? =some q->(k∈(kF g x x.ps.length).take i->q.e9=gi g.vs k/\q.nodes=aY g.m k/\q.JO=jH g.m k)/\(k∉(kF g x x.ps.length).take i->x.ps[k]? =some q))->
   Sep F W w1 (ak da dn dc 3 1 (flat one (zC g x x.ps.length))::nW gr g::av r.p 236 (ab2 r gr.p ⟨ps,x.clean,c⟩)::ak r.a r.n r.c 319 3 (flat Kw ps)::(ps.map ab1++L))->
   lY Q (j+1) (sZ r.p) da dn dc da dn dc dn i w1:=by
  intro j;induction j with
  |zero=>
   intro i ps c w1 hi hps hu hc hk s;show oA Q (lY Q 0) _ _ _ _ _ _ _ _ _ _;rw[oA,bq];have BO:=(aN s (i:=3) rfl Ct (by decide)).len;have kg:=oQ (ai s);refine ah (lP s 2 rfl ?_);apply qZ kg;refine ah (sT s 2 rfl λw1 s=>?_);have hfull:(kF g x x.ps.length).take i=kF g x x.ps.length:=List.take_of_length_le (by omega);rw[hfull]at hk;have fresh:∀k q,ps[k]? =some q->q.e9=gi g.vs k/\q.nodes=aY g.m k/\q.JO=jH g.m k:=λk q hq=>by
    by_cases hm:k∈kF g x x.ps.length
    ·exact(hk k q hq).1 hm
    ·have II:=(hk k q hq).2 hm;have hkl:=(List.getElem?_eq_some_iff.1 II).1;have hv:q.e9=gi g.vs k:=by refine Classical.byContradiction λhne=>hm (List.mem_filter.2 ⟨List.mem_range.2 hkl,?_⟩);rw[aad II,bne_iff_ne];exact hne
     exact⟨hv,I.ok k q II hv⟩
   have hlen:∀k q,ps[k]? =some q->k<g.vs.length:=λk q hq=>by have:=(List.getElem?_eq_some_iff.1 hq).1;omega
   have I':yD g ⟨ps,g.ep,c⟩:=⟨by rw[hps];exact IG,⟨Int.le_refl _,λq hq=>by obtain⟨k,hk'⟩:=List.mem_iff_getElem?.1 hq;rw[(fresh k q hk').1];exact(kg.ok.vs _ (ff (hlen k q hk'))).2⟩,λ_ k q hq=>(fresh k q hq).1,λk q hq _=>(fresh k q hq).2,hu⟩
   have s:=ai s;have s:Sep F W w1 (nW gr g::(LU r gr.p ⟨ps,g.ep,c⟩++L)):=s;have s:Sep F W w1 (nW gr g::uC r gr.p ⟨ps,g.ep,c⟩::L):=by have s1:=ck s (L':=LU r gr.p ⟨ps,g.ep,c⟩++nW gr g::L) List.perm_middle.symm;exact ck (ab3 s1) (List.Perm.swap _ _ _)
   rw[<-hds];refine h ⟨ps,g.ep,c⟩ w1 I' (λk q hq=>(fresh k q hq).1) rfl ?_ s;rw[hds,<-hc];rfl
  |succ j ih=>
   intro i ps c w1 hi hps hu hc hk s;show oA Q (lY Q (j+1)) _ _ _ _ _ _ _ _ _ _;rw[oA,bM,aG];apply(aN s (i:=0) rfl cF (by decide)).rJ rfl (by omega);rw[hdi i (by omega)];have hdk:=hdm i (by omega);have akN:(kF g x x.ps.length).take (i+1)=(kF g x x.ps.length).take i++[(kF g x x.ps.length).getD i 0]:=by rw[List.take_add_one,List.getD_eq_getElem?_getD,List.getElem?_eq_getElem (by omega)];rfl
   generalize hdv:(kF g x x.ps.length).getD i 0=d at hdk akN⊢;have s:=ay s;refine ah (lS s 2 rfl ?_);have kg:=oQ (ai s);have v8:dW g.m.w g.m.h d:=⟨⟨kg.ok.may.w,kg.ok.may.h⟩,by omega,by omega⟩;refine ab6 s (kZ s (i:=2) rfl) kg v8 λna nn nc LV dn' LW w1 s _=>?_;refine⟨cg s 4 rfl,?_⟩;have hv:zz g d=gi g.vs d:=by rw[zz,AI,Int.toNat_natCast]
   rw[hv];refine WrP (q:=⟨gi g.vs d,na,nn,nc,LV,dn',LW,aY g.m d,jH g.m d⟩) s (i:=5) rfl rfl (by omega) λw1 s=>?_;simp[List.cons_append,List.nil_append,List.set_cons_zero,List.set_cons_succ]at s;refine ah (lI s 4 rfl ?_);apply Ta.By hu (by unfold Ta.U;omega);refine ah (sT s 4 rfl λw1 s=>?_);refine ih (i+1) (ps.set d ⟨gi g.vs d,na,nn,nc,LV,dn',LW,aY g.m d,jH g.m d⟩) (Ta.sat c 1) w1 (by omega) (by rw[List.length_set];exact hps) (Ta.GA hu (by unfold Ta.U;omega)) hc ?_ ?_
   ·intro k q hq;rw[akN];rw[List.getElem?_set]at hq;by_cases hkd:d=k
    ·subst hkd;rw[if_pos rfl,AI]at hq;cases hq;exact⟨λ_=>⟨rfl,rfl,rfl⟩,λhn=>(hn (by simp)).elim⟩
    ·rw[if_neg hkd]at hq;refine⟨λhm=>(hk k q hq).1 ?_,λhn=>(hk k q hq).2 λhm=>hn (by simp[hm])⟩;rcases List.mem_append.1 hm with hm|hm
     ·exact hm
     ·rw[List.mem_singleton]at hm;exact(hkd hm.symm).elim
   ·have s1:=dz (Ps:=[ak na nn nc 3 1 (flat one (aY g.m d)),ak LV dn' LW 21 1 (flat oY (jH g.m d))]) s trivial;have s2:=SR (i:=4+d) s1;rw[show 4+d=d+1+1+1+1 by omega]at s2;simp[List.set_cons_succ]at s2;rw[List.set_append_left _ _ (by rw[List.length_map];omega)]at s2;rw[List.map_set];exact s2
 have s0:=afo (ck s (L':=uC r gr.p x::ak da dn dc 3 1 (flat one (zC g x x.ps.length))::nW gr g::L) (List.perm_middle (l₁:=[_,_])));have s1:=ck s0 (L':=[ak da dn dc 3 1 (flat one (zC g x x.ps.length)),nW gr g]++(LU r gr.p x++L)) (List.perm_append_comm_assoc _ [_,_] _);exact⟨dn+1,loop dn 0 x.ps x.fS w1 (by omega) rfl I.u rfl (λk q hq=>⟨λhm=>by simp at hm,λ_=>hq⟩) s1⟩
def LX:Ay:=⟨0,none,0,0,none,0,0,[],[]⟩
def atb (n:Nat)(s:Sep F W w L):Sep F W w ((List.replicate n LX).map ab1++L):=by
 induction n with
 |zero=>exact s
 |succ n ih=>
  have s1:=bE (bE ih 21 1) 3 1;exact dz s1 trivial
def ad_ {Q:Option Addr->World->Prop}(s0:Sep F W w L)(kg:nB w gr g)
  (h:∀r w',Sep F W w' (uC r gr.p ⟨List.replicate (eI g.m.w g.m.h).toNat LX,0,0⟩::L)->Fr No w w'->Q (sZ r.p) w'):HD (sZ gr.p) w Q:=by
 apply adz;apply kY;refine jn (bh (F:=No)) kg λw1 s _=>?_;apply qN;have hm:iO g.m.w g.m.h:=⟨kg.ok.may.w,kg.ok.may.h⟩;have hc:=(gM kg.ok.may.w kg.ok.may.h);unfold ZS adQ;rw[if_pos hm,if_pos hm,wrap_i64 (by show _<=eI _ _;omega) (by show eI _ _<_;omega)];refine xL (x0:=LX) (bytes:=56) (cn:=(eI g.m.w g.m.h).toNat) ee s rfl rfl rfl rfl rfl rfl (by decide) Ct rfl (λu hu=>aon _ u hu) (by show eI _ _=_;omega) (by show eI _ _=_;omega) (Nat.le_refl _) (by omega) (by simp[maxLen];omega) λab w1 s=>?_;refine aO s λmb w1 s=>?_;have s1:Sep No w w1 (LU ⟨mb,sZ ab,(eI g.m.w g.m.h).toNat,(eI g.m.w g.m.h).toNat⟩ gr.p ⟨List.replicate (eI g.m.w g.m.h).toNat LX,0,0⟩++[]):=by have s2:=atb (eI g.m.w g.m.h).toNat s;have s3:=ck s2 (List.perm_append_comm);rw[List.append_nil];exact s3
 have s2:=ab3 s1;exact h ⟨mb,sZ ab,(eI g.m.w g.m.h).toNat,(eI g.m.w g.m.h).toNat⟩ w1 (dA s0 s2 (i:=0) rfl) (au s2)
end
end Go.Proofs.YtmegplnmiepfbaaGreatDoor.S
namespace Go.Proofs.YtmegplnmiepfbaaGreatDoor.S.Lr
open Go.Sx
structure kK where
 a:Int
 b:Int
 nw:Int
 od:Int
def NN (ss:List kK)(i:Nat):Int:=(ss[i]?.map (·.nw)).getD 0
def NO (ss:List kK)(i:Nat):Int:=(ss[i]?.map (·.od)).getD 0
def Ja (xs:List Nat)(n:Int):Int:=match xs with|[]=>n|x::_=>x
def Cu (xs:List Nat)(p:Int):Int:=match xs with|[]=>p|x::xs=>Cu xs x
def xG (ss:List kK)(p:Int)(xs:List Nat)(n:Int):Prop:=match xs with
 |[]=>True
 |x::xs=>NN ss x=p/\NO ss x=Ja xs n/\xG ss x xs n
def aea (xs ys:List Nat)(n:Int):Ja (xs++ys) n=Ja xs (Ja ys n):=by cases xs<;>rfl
def aeb (xs ys:List Nat)(p:Int):Cu (xs++ys) p=Cu ys (Cu xs p):=by
 induction xs generalizing p with
 |nil=>rfl
 |cons x xs ih=>exact ih x
def aec {ss:List kK}{p n:Int}{xs ys:List Nat}:xG ss p (xs++ys) n↔xG ss p xs (Ja ys n)/\xG ss (Cu xs p) ys n:=by
 induction xs generalizing p with
 |nil=>simp[xG,Cu]
 |cons x xs ih=>
  simp[List.cons_append,xG,ih,aea,Cu];grind
def HX {ss ss':List kK}{p n:Int}{xs:List Nat}(h:∀x∈xs,NN ss' x=NN ss x/\NO ss' x=NO ss x)(s:xG ss p xs n):xG ss' p xs n:=by
 induction xs generalizing p with
 |nil=>trivial
 |cons x xs ih=>
  obtain⟨h1,h2,h3⟩:=s;obtain⟨e1,e2⟩:=h x (by simp);exact⟨e1.trans h1,e2.trans h2,ih (λy hy=>h y (by simp[hy])) h3⟩
def uD (ss:List kK)(i:Nat)(v:Int):List kK:=ss.modify i λs=>{s with nw:=v}
def yE (ss:List kK)(i:Nat)(v:Int):List kK:=ss.modify i λs=>{s with od:=v}
def Jb {ss:List kK}{i j:Nat}{v:Int}(h:i<ss.length):NN (uD ss i v) j=if j=i then v else NN ss j:=by unfold NN uD;grind
def NP {ss:List kK}{i j:Nat}{v:Int}:NO (uD ss i v) j=NO ss j:=by unfold NO uD;grind
def NQ {ss:List kK}{i j:Nat}{v:Int}(h:i<ss.length):NO (yE ss i v) j=if j=i then v else NO ss j:=by unfold NO yE;grind
def NR {ss:List kK}{i j:Nat}{v:Int}:NN (yE ss i v) j=NN ss j:=by unfold NN yE;grind
def aot {ss:List kK}{p n v:Int}{xs:List Nat}{y:Nat}(hy:y<ss.length)(hnd:(xs++[y]).Nodup)(s:xG ss p (xs++[y]) n):xG (yE ss y v) p (xs++[y]) v:=by rw[aec]at s⊢;obtain⟨s1,h1,h2,_⟩:=s;rw[List.nodup_append]at hnd;refine⟨HX (λx hx=>?_) s1,NR.trans h1,by rw[NQ hy,if_pos rfl];rfl,trivial⟩;exact⟨NR,by rw[NQ hy,if_neg (hnd.2.2 x hx y (by simp))]⟩
def afq {ss:List kK}{p n v:Int}{xs:List Nat}{y:Nat}(hy:y<ss.length)(hnd:(y::xs).Nodup)(s:xG ss p (y::xs) n):xG (uD ss y v) v (y::xs) n:=by obtain⟨h1,h2,h3⟩:=s;rw[List.nodup_cons]at hnd;refine⟨by rw[Jb hy,if_pos rfl],NP.trans h2,HX (λx hx=>⟨?_,NP⟩) h3⟩;rw[Jb hy,if_neg (λe:x=y=>hnd.1 (by grind))]
def Xl {ss:List kK}{p n v:Int}{xs:List Nat}{y:Nat}(hy:y<ss.length)(hx:y∉xs)(s:xG ss p xs n):xG (yE ss y v) p xs n/\xG (uD ss y v) p xs n:=
 ⟨HX (λx h=>⟨NR,by rw[NQ hy,if_neg (λe:x=y=>hx (by rw[<-e];exact h))]⟩) s,HX (λx h=>⟨by rw[Jb hy,if_neg (λe:x=y=>hx (by rw[<-e];exact h))],NP⟩) s⟩
def aaf (xs:List Nat)(y:Nat)(p:Int):Cu (xs++[y]) p=y:=by rw[aeb];rfl
abbrev KS:=List ((Int×Int)×Nat)
def Xm (l:KS)(key:Int×Int):Int:=match l.find? (λp=>decide (p.1=key))with|some p=>p.2|none=>-1
def kL (k:Int)(l:KS)(key:Int×Int):(Int×Bool×Bool)×KS:=match l.find? (λp=>decide (p.1=key))with
 |some p=>((p.2,true,false),(key,p.2)::l.filter (λq=>!decide (q.1=key)))
 |none=>if(l.length:Int)<k then((l.length,false,false),(key,l.length)::l)else match l.getLast? with
  |some p=>((p.2,false,true),(key,p.2)::l.dropLast)
  |none=>((-1,false,true),l)
structure Good (k:Int) (l:KS):Prop where
 room:(l.length:Int)<=k
 nd:(l.map (·.2)).Nodup
 lt:∀p∈l,p.2<l.length
 FB:(l.map (·.1)).Nodup
def LY {k:Int}(h:0<=k):Good k []:=⟨h,.nil,by simp,.nil⟩
def SV {l:KS}(h:(l.map (·.1)).Nodup){p q:(Int×Int)×Nat}(hp:p∈l)(hq:q∈l)(e:p.1=q.1):p=q:=by
 induction l with
 |nil=>cases hp
 |cons x l ih=>
  grind
def NS {l:KS}{key:Int×Int}{p:(Int×Int)×Nat}(h:l.find? (λp=>decide (p.1=key))=some p):p.1=key/\p∈l:=by grind
def afr {l:KS}{key:Int×Int}(h:l.find? (λp=>decide (p.1=key))=none):∀p∈l,p.1≠key:=λp hp e=>by grind
def YG {l:KS}(hnd:(l.map (·.1)).Nodup){p:(Int×Int)×Nat}(hp:p∈l):l.find? (λq=>decide (q.1=p.1))=some p:=by
 cases h:l.find? (λq=>decide (q.1=p.1))with
 |none=>grind
 |some q=>
  obtain⟨h1,h2⟩:=NS h;rw[SV hnd h2 hp h1]
def aag {l:KS}(hnd:(l.map (·.1)).Nodup){p:(Int×Int)×Nat}(hp:p∈l):∃pre post,l=pre++p::post/\l.filter (λq=>!decide (q.1=p.1))=pre++post:=by
 obtain⟨pre,post,rfl⟩:=List.append_of_mem hp;refine⟨pre,post,rfl,?_⟩;rw[List.map_append,List.map_cons,List.nodup_append,List.nodup_cons]at hnd;rw[List.filter_append,List.filter_cons_of_neg (by simp),List.filter_eq_self.2,List.filter_eq_self.2]
 ·grind
 ·intro q hq;have:q.1≠p.1:=λe=>hnd.2.2 q.1 (List.mem_map.2 ⟨q,hq,rfl⟩) p.1 (by simp) e;simp[this]
def Xn {l:KS}(hnd:(l.map (·.1)).Nodup){p:(Int×Int)×Nat}(hp:p∈l)(k:Int×Int)(n:Nat):((k,n)::l.filter (λq=>!decide (q.1=p.1))).length=l.length:=by obtain⟨pre,post,e1,e2⟩:=aag hnd hp;grind
def aah {k:Int}{l:KS}{key:Int×Int}(hk:1<=k)(h:Good k l):Good k (kL k l key).2:=by
 unfold kL;cases hf:l.find? (λp=>decide (p.1=key))with
 |some p=>
  obtain⟨rfl,hp⟩:=NS hf;obtain⟨pre,post,e1,e2⟩:=aag h.FB hp;rw[e2];have OW:List.Perm ((p.1,p.2)::(pre++post)) l:=by grind
  have hlen:=OW.length_eq;exact⟨by rw[hlen];exact h.room,(OW.map (·.2)).nodup_iff.2 h.nd,λq hq=>by rw[hlen];exact h.lt q (OW.mem_iff.1 hq),(OW.map (·.1)).nodup_iff.2 h.FB⟩
 |none=>
  have hn:=afr hf;by_cases hroom:(l.length:Int)<k
  ·rw[if_pos hroom];refine⟨by grind,?_,λq hq=>?_,?_⟩
   ·simp only[List.map_cons,List.nodup_cons];refine⟨λhm=>?_,h.nd⟩;obtain⟨q,hq,e⟩:=List.mem_map.1 hm;have:=h.lt q hq;omega
   ·simp[List.length_cons];rcases List.mem_cons.1 hq with rfl|hq
    ·simp
    ·have:=h.lt q hq;omega
   ·simp[List.map_cons,List.nodup_cons];refine⟨λhm=>?_,h.FB⟩;grind
  ·rw[if_neg hroom];cases hl:l.getLast? with
   |none=>exact h
   |some p=>
    obtain⟨ys,rfl⟩:=List.getLast?_eq_some_iff.1 hl;rw[List.dropLast_concat];have e1:(ys++[p]).length=((key,p.2)::ys).length:=by simp
    have OW:List.Perm (((key,p.2)::ys).map (·.2)) ((ys++[p]).map (·.2)):=by rw[List.map_cons,List.map_append];exact(List.perm_append_singleton _ _).symm
    refine⟨by rw[<-e1];exact h.room,OW.nodup_iff.2 h.nd,λq hq=>?_,?_⟩
    ·rw[<-e1];rcases List.mem_cons.1 hq with rfl|hq
     ·exact h.lt p (by simp)
     ·exact h.lt q (by simp[hq])
    ·simp only[List.map_cons,List.nodup_cons];have:=h.FB;rw[List.map_append,List.nodup_append]at this;refine⟨λhm=>?_,this.1⟩;obtain⟨q,hq,e⟩:=List.mem_map.1 hm;exact hn q (by simp[hq]) e
def ee:wR P T:=EB P rows HB
def awk:zc T 253=[ae 0,ae 0]:=rfl
attribute [local irreducible] af cE bw bg aA cu bY St Bx Al App cJ cB cz bW aL bD aq bT av ak aW mapA
def uE (s:kK):List Value:=[ae s.a,ae s.b,ae s.nw,ae s.od]
def k_ (s:kK):(uE s).length=4:=rfl
def aou (v:kK)(u:Value)(h:u∈uE v):u.oneCell'=true:=by simp[uE,List.mem_cons,List.not_mem_nil,or_false]at h;rcases h with rfl|rfl|rfl|rfl<;>rfl
def aiD {ss:List kK}{i:Nat}{x:kK}{v:Int}(h:ss[i]? =some x):ss.set i {x with nw:=v}=uD ss i v:=by apply List.ext_getElem?;intro j;unfold uD;grind
def aov {ss:List kK}{i:Nat}{x:kK}{v:Int}(h:ss[i]? =some x):ss.set i {x with od:=v}=yE ss i v:=by apply List.ext_getElem?;intro j;unfold yE;grind
def BA (ss ss':List kK):Prop:=ss'.length=ss.length/\∀i:Nat,(ss'[i]?.map λs=>(s.a,s.b))=ss[i]?.map λs=>(s.a,s.b)
def BA.refl {ss:List kK}:BA ss ss:=⟨rfl,λ_=>rfl⟩
def BA.trans {a b c:List kK}(h:BA a b)(k:BA b c):BA a c:=⟨k.1.trans h.1,λi=>(k.2 i).trans (h.2 i)⟩
def Iy {ss:List kK}{i:Nat}{v:Int}:BA ss (uD ss i v):=by refine⟨by simp[uD],λj=>?_⟩;unfold uD;grind
def YH {ss:List kK}{i:Nat}{v:Int}:BA ss (yE ss i v):=by refine⟨by simp[yE],λj=>?_⟩;unfold yE;grind
def Q8 {ss:List kK}{i:Nat}(h:i<ss.length):∃s,ss[i]? =some s/\s.nw=NN ss i/\s.od=NO ss i:=by
 refine⟨ss[i],List.getElem?_eq_getElem h,?_,?_⟩
 ·simp[NN,h]
 ·simp[NO,h]
section
variable {F:Nat->Prop}{W w:World}{L:List As}{p:Nat}{sa:Option Addr}{sn sc:Nat}{ss:List kK}{kv mv:Value}{nw od:Int}{Q:World->Prop}
def afs {sb:Nat}{x a b:Int}{pre post:List Nat}{y:Nat}(hs:∀i∈pre++y::post,i<sn)(hnd:(pre++y::post).Nodup)(h1:xG ss (-1) pre (Ja post (-1)))(h2:xG ss y post (-1))
  (LZ:od=Cu (pre++y::post) (-1))
  (s:Sep F W w (av sb 334 [ae a,ae b,ae (Cu pre (-1)),ae (Ja post (-1))]::av p 182 [kv,.slice sa sn sc,mv,ae nw,ae od]::ak sa sn sc 334 4 (flat uE ss)::L))
  (h:∀ss' w',BA ss ss'->xG ss' (-1) (pre++post) (-1)->Sep F W w' (av p 182 [kv,.slice sa sn sc,mv,ae nw,ae (Cu (pre++post) (-1))]::ak sa sn sc 334 4 (flat uE ss')::L)->Q w'):
  xo Q (sZ p) (aZ sb) w:=by
 have hl:=ri s (i:=2) rfl;rw[iT k_]at hl;rw[aeb]at LZ;cases post with
 |nil=>
  apply lI s 0 rfl;apply lI s 0 rfl;apply ah;refine ax s (i:=1) rfl rfl rfl λw s=>?_;refine h ss _ BA.refl ?_ ?_
  ·rw[List.append_nil];exact h1
  ·rw[List.append_nil];exact ai s
 |cons z post=>
  have hz:=hs z (by simp);apply lI s 0 rfl;rw[show((Ja (z::post) (-1):Int)==-1)=false by rw[beq_eq_false_iff_ne];show(z:Int)≠-1;omega,cond_false];apply ah;have s:=ay s;apply lS s 1 rfl;apply lI s 0 rfl;apply lI s 0 rfl;obtain⟨x,hx,Ni,KZ⟩:=Q8 (ss:=ss) (i:=z) (by omega);refine CF s (i:=2) rfl rfl hz λg o e=>?_;subst e;refine dQ (i:=2) (x':={x with nw:=Cu pre (-1)}) k_ s rfl hx (d_ _ _ _ _ _) (by decide) rfl rfl λw s=>?_;rw[aiD hx]at s;refine h (uD ss z (Cu pre (-1))) _ Iy ?_ ?_
  ·rw[aec];have hn2:=(List.nodup_append.1 hnd).2.1;rw[List.nodup_cons]at hn2;refine⟨(Xl (by omega) (λhm=>?_) h1).2,afq (by omega) hn2.2 h2⟩;grind
  ·rw[aeb];have:od=Cu (z::post) (Cu pre (-1)):=LZ;rw[<-this];exact ai s
def Wp {pre post:List Nat}{y:Nat}(hs:∀i∈pre++y::post,i<sn)(hnd:(pre++y::post).Nodup)(JP:xG ss (-1) (pre++y::post) (-1))(TB:nw=Ja (pre++y::post) (-1))(LZ:od=Cu (pre++y::post) (-1))
  (s:Sep F W w (av p 182 [kv,.slice sa sn sc,mv,ae nw,ae od]::ak sa sn sc 334 4 (flat uE ss)::L))
  (h:∀ss' w',BA ss ss'->xG ss' (-1) (pre++post) (-1)->Sep F W w' (av p 182 [kv,.slice sa sn sc,mv,ae (Ja (pre++post) (-1)),ae (Cu (pre++post) (-1))]::ak sa sn sc 334 4 (flat uE ss')::L)->Q w'):
  ug (sZ p) y w Q:=by
 apply Sp;have hl:=ri s (i:=1) rfl;rw[iT k_]at hl;have hy:=hs y (by simp);obtain⟨x,hx,Ni,KZ⟩:=Q8 (ss:=ss) (i:=y) (by omega);rw[aec]at JP;obtain⟨h1,h2,h3,h4⟩:=JP;have h1:=h1;rw[h2]at Ni;rw[h3]at KZ;apply ah;apply lS s 0 rfl;refine CF s (i:=1) rfl rfl hy λg o e=>?_;subst e;apply eG (i:=1) k_ s rfl hx (d_ _ _ _ _ _) rfl;apply eG (i:=1) k_ s rfl hx (d_ _ _ _ _ _) rfl;apply eG (i:=1) k_ s rfl hx (d_ _ _ _ _ _) rfl;apply eG (i:=1) k_ s rfl hx (d_ _ _ _ _ _) rfl;rw[Ni,KZ];refine aS s λsb w s=>?_;refine sT s 0 rfl λw s=>?_;refine sT s 0 rfl λw s=>?_;refine sT s 0 rfl λw s=>?_;refine ax s (i:=0) rfl rfl rfl λw s=>?_;apply lI s 0 rfl;rcases List.eq_nil_or_concat pre with rfl|⟨pre',u,rfl⟩
 ·apply lI s 0 rfl;apply ah;refine ax s (i:=1) rfl rfl rfl λw s=>?_;exact afs (x:=0) hs hnd trivial h4 LZ s λss' w' k1 k2 s=>h ss' w' k1 k2 s
 ·simp only[List.concat_eq_append]at*;have hu:=hs u (by simp);rw[aaf]at s⊢;rw[show((u:Int)==-1)=false by rw[beq_eq_false_iff_ne];omega,cond_false];apply ah;have s:=ay s;apply lS s 1 rfl;apply lI s 0 rfl;apply lI s 0 rfl;obtain⟨z,hz,hz1,hz2⟩:=Q8 (ss:=ss) (i:=u) (by omega);refine CF s (i:=2) rfl rfl hu λg' o' e=>?_;cases e;refine dQ (i:=2) (x':={z with od:=Ja post (-1)}) k_ s rfl hz (d_ _ _ _ _ _) (by decide) rfl rfl λw s=>?_;rw[aov hz]at s;have ayi:=(List.nodup_append.1 hnd).1;have ayj:=(List.nodup_append.1 hnd).2;refine afs (x:=0) hs hnd (aot (by omega) ayi h1) ((Xl (by omega) (λhm=>ayj.2 u (by simp) u (by simp[hm]) rfl) h4).1) LZ (by rw[aaf];exact s) λss' w' k1 k2 s=>h ss' w' (YH.trans k1) k2 ?_;have e:Ja (pre'++[u]++post) (-1)=nw:=by rw[TB,aea,aea (pre'++[u])];cases pre'<;>rfl
  rw[e];exact s
def akO {y:Nat}(s:Sep F W w (av p 182 [kv,.slice sa sn sc,mv,ae nw,ae od]::ak sa sn sc 334 4 (flat uE ss)::L))
  (h:∀w',Sep F W w' (av p 182 [kv,.slice sa sn sc,mv,ae y,ae od]::ak sa sn sc 334 4 (flat uE ss)::L)->Q w'):Ao Q (sZ p) y w:=by
 apply ah;refine sT s 0 rfl λw s=>?_;grind
def alW {xs:List Nat}{y:Nat}(hy:y<sn)(hs:∀i∈xs,i<sn)(hnd:(y::xs).Nodup)(JP:xG ss (-1) xs (-1))(TB:nw=Ja xs (-1))(LZ:od=Cu xs (-1))
  (s:Sep F W w (av p 182 [kv,.slice sa sn sc,mv,ae nw,ae od]::ak sa sn sc 334 4 (flat uE ss)::L))
  (h:∀ss' w',BA ss ss'->xG ss' (-1) (y::xs) (-1)->Sep F W w' (av p 182 [kv,.slice sa sn sc,mv,ae (Ja (y::xs) (-1)),ae (Cu (y::xs) (-1))]::ak sa sn sc 334 4 (flat uE ss')::L)->Q w'):
  xd (sZ p) y w Q:=by
 apply VT;have hl:=ri s (i:=1) rfl;rw[iT k_]at hl;obtain⟨x,hx,Ni,KZ⟩:=Q8 (ss:=ss) (i:=y) (by omega);rw[List.nodup_cons]at hnd;have s:=ay s;apply ah;apply lS s 0 rfl;apply ah;apply lS s 0 rfl;apply ah;apply lI s 0 rfl;refine CF s (i:=1) rfl rfl hy λg o e=>?_;subst e;refine dQ (i:=1) (x':={x with nw:=-1}) k_ s rfl hx (d_ _ _ _ _ _) (by decide) rfl rfl λw s=>?_;refine⟨by omega,by omega,ah ?_⟩;have hx':(ss.set y {x with nw:=-1})[y]? =some {x with nw:=-1}:=List.getElem?_set_self (by omega);refine dQ (i:=1) (x':={x with nw:=-1,od:=nw}) k_ s rfl hx' (d_ _ _ _ _ _) (by decide) rfl rfl λw s=>?_;rw[aiD hx]at hx' s;rw[show({x with nw:=-1,od:=nw}:kK)={({x with nw:=-1}:kK)with od:=nw}from rfl,aov hx']at s;have hl2:(uD ss y (-1)).length=ss.length:=Iy.1;have au5:xG (yE (uD ss y (-1)) y nw) (-1) xs (-1):=(Xl (by omega) hnd.1 (Xl (by omega) hnd.1 JP).2).1;have n2:NN (yE (uD ss y (-1)) y nw) y=-1:=by rw[NR,Jb (by omega),if_pos rfl]
 have o2:NO (yE (uD ss y (-1)) y nw) y=nw:=by rw[NQ (by omega),if_pos rfl]
 have k2:BA ss (yE (uD ss y (-1)) y nw):=Iy.trans YH;generalize yE (uD ss y (-1)) y nw=ss2 at s au5 n2 o2 k2;have hl3:=k2.1;apply ah;apply lI s 0 rfl;cases xs with
 |nil=>
  have e:nw=-1:=TB;subst e;rw[show((-1:Int)==-1)=true from rfl,cond_true];apply ah;refine ax s (i:=0) rfl rfl rfl λw s=>?_;refine akO s λw s=>h _ _ k2 ⟨n2,o2,trivial⟩ s
 |cons z xs=>
  have e:nw=(z:Int):=TB;subst e;have hz:=hs z (by simp);rw[show((z:Int)==-1)=false by rw[beq_eq_false_iff_ne];omega,cond_false];have s:=ay s;apply ah;apply lS s 0 rfl;apply ah;apply lI s 0 rfl;obtain⟨u,hu,_,_⟩:=Q8 (ss:=ss2) (i:=z) (by omega);refine⟨by omega,by omega,ah ?_⟩;refine dQ (i:=1) (x':={u with nw:=(y:Int)}) k_ s rfl hu (d_ _ _ _ _ _) (by decide) rfl rfl λw s=>?_;rw[aiD hu]at s;have hne:y≠z:=λe=>hnd.1 (by simp[e]);refine akO s λw s=>h (uD ss2 z (y:Int)) _ (k2.trans Iy) ⟨?_,?_,?_⟩ ?_
  ·rw[Jb (by omega),if_neg hne];exact n2
  ·rw[NP];exact o2
  ·exact afq (by omega) hnd.2 au5
  ·have e2:Cu (y::z::xs) (-1)=od:=by rw[LZ];rfl
   rw[e2];exact s
end
end Go.Proofs.YtmegplnmiepfbaaGreatDoor.S.Lr
namespace Go.Proofs.YtmegplnmiepfbaaGreatDoor.S.Lr
open Go.Sx
open Go.Maps (Keyed)
open Go.WideMaps (ArrKey keyOf_pair)
def aow:ArrKey P 253 3 2:=⟨by kernel_rfl,by kernel_rfl,by kernel_rfl,by kernel_rfl⟩
def kp:Keyed P 253:=Keyed.of_law aow.law
def aqC:P.underlying 180=some (.map 253 3):=by kernel_rfl
set_option maxRecDepth 100000 in
theorem ar6 (w:World):(zeroValue 3).run P w=.ok (ae 0) w:=rfl
def aqD:∃m,P.types.size=m+1:=⟨P.types.size-1,by have h:0<P.types.size:=of_decide_eq_true (by kernel_rfl);omega⟩
def YI (k:Int×Int):Prop:=(Lit.int .i64 k.1).wf=true/\(Lit.int .i64 k.2).wf=true
def aai (k:Int×Int):Value:=.agg #[ae k.1,ae k.2]
def L0 {a b:Int×Int}(h:aai a=aai b):a=b:=by obtain⟨a1,a2⟩:=a;simp[aai]at h;rw[h.1,h.2]
def Xo {k:Int×Int}(h:YI k):∃l,keyOf P 253 (aai k)=some l:=⟨_,keyOf_pair aow (by kernel_rfl) aqD h.1 h.2⟩
attribute [local irreducible] af cE bw bg aA cu bY St Bx Al App cJ cB cz bW aL bD aq bT av ak aW mapA
def TC (p:(Int×Int)×Nat):Value×Value:=(aai p.1,ae p.2)
structure aed where
 sa:Option Addr
 sn:Nat
 sc:Nat
 mb:Nat
 ss:List kK
 m:List (Value×Value)
 nw:Int
 od:Int
structure alX (k:Int) (l:KS) (r:aed):Prop where
 hk:1<=k
 good:Good k l
 sn:r.sn=l.length
 nw:r.nw=Ja (l.map (·.2)) (-1)
 od:r.od=Cu (l.map (·.2)) (-1)
 seg:xG r.ss (-1) (l.map (·.2)) (-1)
 key:∀p∈l,r.ss[p.2]?.map (λs=>(s.a,s.b))=some p.1
 perm:r.m.Perm (l.map TC)
 wf:∀p∈l,YI p.1
noncomputable def agX (p:Nat)(k:Int)(r:aed):List As:=[av p 182 [ae k,.slice r.sa r.sn r.sc,.map (some r.mb),ae r.nw,ae r.od],ak r.sa r.sn r.sc 334 4 (flat uE r.ss),mapA P 253 r.mb r.m]
noncomputable def HY (p:Nat)(k:Int)(l:KS)(r:aed):As:=aW (alX k l r) (agX p k r)
section
variable {F:Nat->Prop}{W w:World}{L:List As}{p:Nat}{k:Int}{l:KS}{r:aed}
def aiE (s:Sep F W w (HY p k l r::L)):alX k l r/\Sep F W w (agX p k r++L):=gL s
def aft (s:Sep F W w (agX p k r++L))(h:alX k l r):Sep F W w (HY p k l r::L):=dz s h
def YJ {Q:World->Prop}{v1 v2 v3 v4:Value}(hk:1<=k)(s:Sep F W w (av p 182 [ae k,v1,v2,v3,v4]::L))(h:∀r w',Sep F W w' (HY p k [] r::L)->Q w'):vF (sZ p) w Q:=by apply Uh;refine ahA s P 253 180 λmb w s=>?_;apply ah;refine sT s 1 rfl λw s=>?_;apply ah;refine sT s 1 rfl λw s=>?_;apply ah;refine sT s 1 rfl λw s=>?_;apply ah;refine ax s (i:=1) rfl rfl rfl λw s=>?_;have s:=ck (bE s 334 4) (List.Perm.trans (List.Perm.cons _ (List.Perm.swap ..)) (List.Perm.trans (List.Perm.swap ..) (List.Perm.refl _)));exact h ⟨none,0,0,mb,[],[],-1,-1⟩ w (aft s ⟨hk,LY (by omega),rfl,rfl,rfl,trivial,(λp hp=>by cases hp),List.Perm.nil,(λp hp=>by cases hp)⟩)
def aox {Q:Option Addr->World->Prop}(s:Sep F W w L)(hno:k<1->Q none w)(h:1<=k->∀p r w',Sep F W w' (HY p k [] r::L)->Q (sZ p) w'):Jr k w Q:=by
 apply agc;by_cases hk:k<1
 ·grind
 ·rw[bq hk];refine aO s λp w s=>?_;exact YJ (by omega) s λr w s=>h (by omega) p r w s
def look {K:Value->World->Prop}{key:Int×Int}(s:Sep F W w (agX p k r++L))(hI:alX k l r)(hkey:YI key)(h0:l.find? (λp=>decide (p.1=key))=none->K (.tuple #[ae 0,.bool false]) w)
  (h1:∀q,l.find? (λp=>decide (p.1=key))=some q->K (.tuple #[ae q.2,.bool true]) w):aL P (Instr.lookup 180 (.map (some r.mb)) (.agg #[ae key.1,ae key.2]) true) w K:=by
 refine ae0 kp aqC (ar6 w) s (i:=2) rfl (Xo hkey) (λh=>?_) (λj v hj=>?_)
 ·refine h0 (List.find?_eq_none.2 λq hq=>?_);have:=h (TC q) (hI.perm.mem_iff.2 (List.mem_map.2 ⟨q,hq,rfl⟩));simp[decide_eq_true_eq];exact λe=>this (by rw[<-e];rfl)
 ·have hm:=hI.perm.mem_iff.1 (List.mem_of_getElem? hj);obtain⟨q,hq,e⟩:=List.mem_map.1 hm;have e1:=congrArg Prod.fst e;have e2:=congrArg Prod.snd e;have e1:=L0 e1;subst e1 e2;exact h1 q (YG hI.good.FB hq)
def aqE (k:Int×Int):List Value:=[ae k.1,ae k.2]
end
end Go.Proofs.YtmegplnmiepfbaaGreatDoor.S.Lr
namespace Go.Proofs.YtmegplnmiepfbaaGreatDoor.S.Lr
open Go.Sx
open Go.Maps (Keyed)
attribute [local irreducible] af cE bw bg aA cu bY St Bx Al App cJ cB cz bW aL bD aq bT av ak aW mapA
def SW {ss ss':List kK}(h:BA ss ss'){l:KS}(hk:∀p∈l,ss[p.2]?.map (λs=>(s.a,s.b))=some p.1):∀p∈l,ss'[p.2]?.map (λs=>(s.a,s.b))=some p.1:=λp hp=>(h.2 p.2).trans (hk p hp)
def aqF {ss:List kK}{x:kK}{p n:Int}{xs:List Nat}(h:∀i∈xs,i<ss.length)(s:xG ss p xs n):xG (ss++[x]) p xs n:=by refine HX (λi hi=>?_) s;have:=h i hi;simp[NN,NO,List.getElem?_append_left this]
def atc {ss:List kK}{i:Nat}{x:kK}{a b:Int}{p n:Int}{xs:List Nat}(hx:ss[i]? =some x)(s:xG ss p xs n):xG (ss.set i {x with a:=a,b:=b}) p xs n:=by refine HX (λj hj=>?_) s;unfold NN NO;grind
def atd {m:List (Value×Value)}{ys:KS}{q:(Int×Int)×Nat}{j:Nat}{v:Value}(hm:m.Perm ((ys++[q]).map TC))(hj:m[j]? =some (aai q.1,v))(hnd:((ys++[q]).map (·.1)).Nodup):(m.eraseIdx j).Perm (ys.map TC):=by
 have hmem:=hm.mem_iff.1 (List.mem_of_getElem? hj);obtain⟨q',II,e⟩:=List.mem_map.1 hmem;have e1:=L0 (congrArg Prod.fst e);have e2:=SV hnd II (by simp) e1;subst e2;obtain⟨hjl,hje⟩:=List.getElem?_eq_some_iff.1 hj;have h1:m.Perm (TC q'::m.eraseIdx j):=by
  rw[e,<-hje];have e3:m=m.take j++m[j]::m.drop (j+1):=by rw[List.getElem_cons_drop,List.take_append_drop]
  rw[List.eraseIdx_eq_take_drop_succ];exact(List.Perm.of_eq e3).trans List.perm_middle
 rw[List.map_append,List.map_singleton]at hm;exact List.Perm.cons_inv (h1.symm.trans (hm.trans (List.perm_append_singleton _ _)))
section
variable {F:Nat->Prop}{W w:World}{L:List As}{p:Nat}{k:Int}{l:KS}
def aee {Q:Int->Bool->Bool->World->Prop}{kb:Nat}{key:Int×Int}{slot:Nat}{had out:Bool}{rest:KS}{sa:Option Addr}{sn sc mb:Nat}{ss:List kK}{m:List (Value×Value)}{nw od:Int}
  (hk:1<=k)(hg:Good k ((key,slot)::rest))(LM:sn=rest.length+1)(JP:xG ss (-1) (rest.map (·.2)) (-1))(TB:nw=Ja (rest.map (·.2)) (-1))(LZ:od=Cu (rest.map (·.2)) (-1))
  (hkeys:∀q∈(key,slot)::rest,ss[q.2]?.map (λs=>(s.a,s.b))=some q.1)(hm:m.Perm (((key,slot)::rest).map TC)\/m.Perm (rest.map TC))(hwf:∀q∈(key,slot)::rest,YI q.1)
  (s:Sep F W w (av kb 253 (aqE key)::av p 182 [ae k,.slice sa sn sc,.map (some mb),ae nw,ae od]::ak sa sn sc 334 4 (flat uE ss)::mapA P 253 mb m::L))
  (h:∀r' w',Sep F W w' (HY p k ((key,slot)::rest) r'::L)->Q slot had out w'):n_ Q (sZ p) slot had out (aZ kb) w:=by
 have s:=ay s;apply ah;apply lM s 1 rfl;apply lI s 0 rfl;apply lI s 0 rfl;have hlen:((key,slot)::rest).length=sn:=by rw[LM];rfl
 have fin:∀(m':List (Value×Value)) (w:World),m'.Perm (((key,slot)::rest).map TC)->Sep F W w (av kb 253 (aqE key)::av p 182 [ae k,.slice sa sn sc,.map (some mb),ae nw,ae od]::ak sa sn sc 334 4 (flat uE ss)::mapA P 253 mb m'::L)->
   xd (sZ p) slot w λayk=>Q slot had out ayk:=by
  intro m' w hm' s;have hnd:=hg.nd;refine alW (by have:=hg.lt (key,slot) (by simp);omega) (λi hi=>?_) hnd JP TB LZ (ai s) λss' w hK hS s=>?_
  ·obtain⟨q,hq,rfl⟩:=List.mem_map.1 hi;have:=hg.lt q (by simp[hq]);omega
  ·exact h ⟨sa,sn,sc,mb,ss',m',_,_⟩ w (aft s ⟨hk,hg,hlen.symm,rfl,rfl,hS,SW hK hkeys,hm',hwf⟩)
 refine Yu kp aqC s (i:=3) rfl (Xo (hwf (key,slot) (by simp))) (λhabs w s=>?_) (λj v0 hj w s=>?_)
 ·rcases hm with hm|hm
  ·exact(habs (TC (key,slot)) (hm.mem_iff.2 (by simp)) rfl).elim
  ·refine fin _ w ?_ s;exact(List.perm_append_singleton _ _).trans (List.Perm.cons _ hm)
 ·rcases hm with hm|hm
  ·have hmem:=hm.mem_iff.1 (List.mem_of_getElem? hj);obtain⟨q,hq,e⟩:=List.mem_map.1 hmem;have e1:=L0 (congrArg Prod.fst e);have e2:=SV hg.FB hq (q:=(key,slot)) (by simp) e1;subst e2;have e3:m.set j (.agg #[ae key.1,ae key.2],ae slot)=m:=by
    have:m[j]? =some (.agg #[ae key.1,ae key.2],ae slot):=by rw[hj,<-e];rfl
    exact rI this
   grind
  ·have hmem:=hm.mem_iff.1 (List.mem_of_getElem? hj);obtain⟨q,hq,e⟩:=List.mem_map.1 hmem;have e1:=L0 (congrArg Prod.fst e);have:=hg.FB;simp only[List.map_cons,List.nodup_cons]at this;exact(this.1 (List.mem_map.2 ⟨q,hq,e1⟩)).elim
attribute [local irreducible] n_ in
theorem aoy {r:aed}{key:Int×Int}{Q:Int->Bool->Bool->World->Prop}(s:Sep F W w (HY p k l r::L))(hkey:YI key)(NM:l.length<=1000000)
  (h:∀r' w',Sep F W w' (HY p k (kL k l key).2 r'::L)->Q (kL k l key).1.1 (kL k l key).1.2.1 (kL k l key).1.2.2 w'):Dy (sZ p) key.1 key.2 w Q:=by
 apply X5;obtain⟨hI,s⟩:=aiE s;have uF:=aah (key:=key) hI.hk hI.good;have hwf':∀q∈(kL k l key).2,YI q.1:=by
  intro q hq;unfold kL at hq;cases hf:l.find? (λp=>decide (p.1=key))with
  |some q0=>
   rw[hf]at hq;rcases List.mem_cons.1 hq with rfl|hq
   ·exact hkey
   ·exact hI.wf q (List.mem_filter.1 hq).1
  |none=>
   rw[hf]at hq;simp only at hq;split at hq
   ·rcases List.mem_cons.1 hq with rfl|hq
    ·exact hkey
    ·exact hI.wf q hq
   ·split at hq
    ·rcases List.mem_cons.1 hq with rfl|hq
     ·exact hkey
     ·exact hI.wf q (List.dropLast_subset l hq)
    ·exact hI.wf q hq
 unfold kL at h uF hwf';have BO:=ri s (i:=1) rfl;rw[iT k_]at BO;have LM:=hI.sn;have aef:∀i∈l.map (·.2),i<r.sn:=λi hi=>by obtain⟨q,hq,rfl⟩:=List.mem_map.1 hi;have:=hI.good.lt q hq;omega
 refine aS s λkb w s=>?_;refine sT s 0 rfl λw s=>?_;refine ax s (i:=0) rfl rfl rfl λw s=>?_;have s:=s;have s:=ay s;apply ah;apply lM s 1 rfl;apply lI s 0 rfl;apply lI s 0 rfl;have s':=ck s (List.perm_middle).symm;refine look s' hI hkey (λhf=>?_) (λq hf=>?_)
 ·simp only[dT,dG,dI,dB,kM,cond_false,cond_true,if_pos,show Nat.beq (IE .i64) (IE .i64)=true from rfl];rw[hf]at h uF hwf';have s:=ay s;apply ah;apply lS s 1 rfl;apply ah;apply lI s 1 rfl;by_cases hroom:(l.length:Int)<k
  ·rw[if_pos hroom]at h uF hwf';rw[bM];apply ah;apply lS s 1 rfl;have s:=ay s;apply ah;apply lS s 1 rfl;apply lI s 0 rfl;apply lI s 0 rfl;refine aO s λzb w s=>?_;refine⟨cg s 2 rfl,?_⟩;have src:Src w (sZ zb) 1 4 (uE ⟨key.1,key.2,0,0⟩):=⟨rfl,aou _,λj u hj=>by rw[cq,Nat.zero_add];exact cM s (i:=0) rfl rfl hj⟩;refine ig ee s (i:=3) (bytes:=32) rfl rfl rfl rfl rfl rfl (by decide) rfl src (by simp[maxLen];omega) (by omega) (λe=>by cases e) λa1 c1 w s=>?_;have e:flat uE r.ss++uE ⟨key.1,key.2,0,0⟩=flat uE (r.ss++[⟨key.1,key.2,0,0⟩]):=by rw[fX];simp[flat]
   rw[e]at s;apply ah;refine ax s (i:=2) rfl rfl rfl λw s=>?_;rw[LM]at s⊢;have s:=ai s;refine aee hI.hk uF rfl (aqF (λi hi=>by have:=aef i hi;omega) hI.seg) hI.nw hI.od (λq hq=>?_) (.inr hI.perm) hwf' s h;rcases List.mem_cons.1 hq with rfl|hq
   ·rw[List.getElem?_append_right (by omega),show l.length-r.ss.length=0 by omega];rfl
   ·have:=hI.good.lt q hq;rw[List.getElem?_append_left (by omega)];exact hI.key q hq
  ·rw[if_neg hroom]at h uF hwf';rw[bq];have hne:l≠[]:=λe=>by rw[e]at hroom;have:=hI.hk;simp at hroom;omega
   have sx:=s;obtain⟨ys,q,rfl⟩:∃ys q,l=ys++[q]:=⟨l.dropLast,l.getLast hne,(List.dropLast_concat_getLast hne).symm⟩;have s:=sx;rw[List.getLast?_concat,List.dropLast_concat]at h uF hwf';have aym:r.od=(q.2:Int):=by rw[hI.od,List.map_append];exact aaf _ _ _
   apply ah;apply lI s 1 rfl;rw[aym];have s:=ck s (List.Perm.trans (List.Perm.swap ..) (List.Perm.cons _ (List.Perm.swap ..)));have hnd:=hI.good.nd;have JP:=hI.seg;have TB:=hI.nw;have LZ:=hI.od;rw[List.map_append,List.map_singleton]at hnd JP TB LZ aef;refine Wp aef hnd JP TB LZ s λss' w hK hS s=>?_;rw[List.append_nil]at s hS;have hl':ss'.length=r.ss.length:=hK.1;have hkeys:=SW hK hI.key;have s:=ay s;apply ah;apply lM s 0 rfl;apply ah;apply lS s 0 rfl;have au7:=aef q.2 (by simp);have hkq:=hkeys q (by simp);have hqw:=hI.wf q (by simp);refine(aN s (i:=1) rfl k_ (by decide)).El rfl au7 λpp x hx hc=>?_;rw[hx]at hkq;have hxa:x.a=q.1.1:=congrArg Prod.fst (Option.some.inj hkq);have hxb:x.b=q.1.2:=congrArg Prod.snd (Option.some.inj hkq);apply aR (hc 0 _ rfl);apply aR (hc 1 _ rfl);rw[hxa,hxb];have go:∀(m':List (Value×Value)) (w:World),m'.Perm (ys.map TC)->Sep F W w (av p 182 [ae k,.slice r.sa r.sn r.sc,.map (some r.mb),ae (Ja (ys.map (·.2)) (-1)),ae (Cu (ys.map (·.2)) (-1))]::ak r.sa r.sn r.sc 334 4 (flat uE ss')::av kb 253 (aqE key)::mapA P 253 r.mb m'::L)->
     wA (some (aZ p)) λp44=>aA (p44.add 1) w.drew λawm awn aBf=>af .i64 ((aZ kb).add 0) w.drew λawo=>af .i64 ((aZ kb).add 1) w.drew λawp=>aJ (q.2:Int) awn<|wA awm λp_1=>
      St ((p_1.add ((q.2:Int).toNat*4)).add 0) (ae awo) w.drew λawq=>St ((p_1.add ((q.2:Int).toNat*4)).add 1) (ae awp) awq λawr=>n_ Q (sZ p) q.2 false true (aZ kb) awr:=by
    intro m' w hm' s;have s:=ay s;apply ah;apply lS s 0 rfl;apply lI s 2 rfl;apply lI s 2 rfl;refine CF s (i:=1) rfl rfl au7 λg o e=>?_;rw[e]at s;refine dQ (i:=1) (x':={x with a:=key.1}) k_ s rfl hx (d_ _ _ _ _ _) (by decide) rfl rfl λw s=>?_;have hx':(ss'.set q.2 {x with a:=key.1})[q.2]? =some {x with a:=key.1}:=List.getElem?_set_self (by omega);refine dQ (i:=1) (x':={x with a:=key.1,b:=key.2}) k_ s rfl hx' (d_ _ _ _ _ _) (by decide) rfl rfl λw s=>?_;simp only[List.set_cons_zero,List.set_cons_succ]at s;rw[List.set_set,<-e]at s;have s:=ck s (List.Perm.trans (List.Perm.cons _ (List.Perm.swap ..)) (List.Perm.swap ..));have aqG:r.sn=ys.length+1:=by rw[LM];simp
    refine aee hI.hk uF aqG (atc hx hS) rfl rfl (λz hz=>?_) (.inr hm') hwf' s h;rw[List.getElem?_set];rcases List.mem_cons.1 hz with rfl|hz
    ·simp only;rw[if_pos trivial,AI];rfl
    ·have hne:¬q.2=z.2:=λe=>by rw[List.nodup_append]at hnd;exact hnd.2.2 z.2 (List.mem_map.2 ⟨z,hz,rfl⟩) q.2 (by simp) e.symm
     rw[if_neg hne];exact hkeys z (by simp[hz])
   have ayn:=hI.good.FB;refine Yv kp aqC s (i:=3) rfl (Xo hqw) (λhabs w s=>?_) (λj v0 hj w s=>?_)
   ·exact(habs (TC q) (hI.perm.mem_iff.2 (List.mem_map.2 ⟨q,by simp,rfl⟩)) rfl).elim
   ·exact go _ w (atd hI.perm hj ayn) s
 ·have sx:=s;obtain⟨rfl,hq⟩:=NS hf;have s:=sx;rw[hf]at h uF hwf';obtain⟨pre,post,e1,e2⟩:=aag hI.good.FB hq;rw[e2]at h uF hwf';have hnd:=hI.good.nd;have JP:=hI.seg;have TB:=hI.nw;have LZ:=hI.od;rw[e1,List.map_append,List.map_cons]at hnd JP TB LZ aef;have s:=ck s (List.Perm.trans (List.Perm.swap ..) (List.Perm.cons _ (List.Perm.swap ..)));refine Wp aef hnd JP TB LZ s λss' w hK hS s=>?_;rw[<-List.map_append]at s hS;have s:=ck s (List.Perm.trans (List.Perm.cons _ (List.Perm.swap ..)) (List.Perm.swap ..));have OW:List.Perm ((q.1,q.2)::(pre++post)) l:=by rw[e1];exact List.perm_middle.symm
  have aqG:r.sn=(pre++post).length+1:=by rw[LM,<-OW.length_eq];rfl
  refine aee hI.hk uF aqG hS rfl rfl (λz hz=>?_) (.inl (hI.perm.trans (OW.map TC).symm)) hwf' s h;exact SW hK hI.key z (OW.mem_iff.1 hz)
end
end Go.Proofs.YtmegplnmiepfbaaGreatDoor.S.Lr
namespace Go.Proofs.YtmegplnmiepfbaaGreatDoor.S
open Go.Sx
open Go.RowKit Go.ChangeMaps Go.MapKept
open Go.Maps (Keyed)
structure aeg (k:TypeId) (β:Type) where
 enc:β->Value
 ok:β->Prop
 inj:∀a b,enc a=enc b->a=b
 key:∀b,ok b->∃l,keyOf P k (enc b)=some l
 keyed:Keyed P k
def au9:P.underlying 3=some (.int .i64):=by kernel_rfl
def iF (n:Int):Prop:=-9223372036854775808<=n/\n<9223372036854775808
def iF.wf {n:Int}(h:iF n):(Lit.int .i64 n).wf=true:=by unfold iF at h;simp[Lit.wf];exact⟨h.1,by omega⟩
noncomputable def fq:aeg 3 Int:=⟨λn=>ae n,iF,λa b h=>by cases h;rfl,λb h=>⟨_,Go.Maps.keyOf_int_mk au9 h.wf⟩,Go.Maps.int_keyed au9⟩
noncomputable def Kx:aeg 253 (Int×Int):=⟨Lr.aai,λp=>iF p.1/\iF p.2,λa b h=>Lr.L0 h,λb h=>Lr.Xo ⟨h.1.wf,h.2.wf⟩,Lr.kp⟩
section
variable {k:TypeId}{α β:Type}{K:aeg k β}{v:α->Value}{ms:List (β×α)}
noncomputable def fO (K:aeg k β)(v:α->Value)(b:Nat)(ms:List (β×α)):As:=mapA P k b (ms.map λp=>(K.enc p.1,v p.2))
def oS (ms:List (β×α)):Prop:=(ms.map (·.1)).Nodup
def akP (h:oS ms){i j:Nat}{p q:β×α}(hi:ms[i]? =some p)(hj:ms[j]? =some q)(e:p.1=q.1):i=j:=by
 have h1:(ms.map (·.1))[i]? =some p.1:=by grind
 have IL:=(List.getElem?_eq_some_iff.1 h1).1;exact(List.getElem?_inj IL h).1 (by grind)
def aaj {F:Nat->Prop}{W w:World}{L:List As}{Q:Option Nat->World->Prop}(s:Sep F W w L)(t:TypeId)(K:aeg k β)(v:α->Value)(h:∀b w',Sep F W w' (fO K v b ([]:List (β×α))::L)->Q (some b) w'):cz P t none w Q:=ahA s P k t h
variable [DecidableEq β]
def fy (ms:List (β×α))(x:β):Option α:=(ms.find? λp=>decide (p.1=x)).map (·.2)
def SX {x:β}:fy ms x=none↔∀p∈ms,p.1≠x:=by unfold fy;simp_all
def L4 (h:oS ms){x:β}{a:α}:fy ms x=some a↔(x,a)∈ms:=by
 unfold fy;induction ms with
 |nil=>simp
 |cons p ms ih=>
  unfold oS at h ih;grind
def aiF (h:oS ms){x:β}{a:α}{j:Nat}(hj:ms[j]? =some (x,a)):fy ms x=some a:=(L4 h).2 (List.mem_of_getElem? hj)
def aqH (h:oS ms){x:β}{a:α}(hn:fy ms x=none):oS (ms++[(x,a)])/\∀y,fy (ms++[(x,a)]) y=if y=x then some a else fy ms y:=by
 have hx:=SX.1 hn;have hk:oS (ms++[(x,a)]):=by rw[oS,List.map_append,List.nodup_append];refine⟨h,by simp,λy hy z hz=>?_⟩;grind
 refine⟨hk,λy=>?_⟩;unfold fy;grind
def ate (h:oS ms){x:β}{a a0:α}{j:Nat}(hj:ms[j]? =some (x,a0)):oS (ms.set j (x,a))/\∀y,fy (ms.set j (x,a)) y=if y=x then some a else fy ms y:=by
 have hk:oS (ms.set j (x,a)):=by
  rw[oS,List.map_set];have:(ms.map (·.1)).set j x=ms.map (·.1):=by apply List.ext_getElem?;grind
  rw[this];exact h
 refine⟨hk,λy=>?_⟩;apply Option.ext;intro b;rw[L4 hk];by_cases e:y=x
 ·subst e;rw[if_pos rfl];constructor
  ·intro hm;obtain⟨i,hi⟩:=List.mem_iff_getElem?.1 hm;have hj':(ms.set j (y,a))[j]? =some (y,a):=by grind
   have:=akP hk hi hj' rfl;grind
  ·intro hb;cases hb;exact List.mem_of_getElem? (i:=j) (by grind)
 ·rw[if_neg e,L4 h];constructor
  ·grind
  ·intro hm;obtain⟨i,hi⟩:=List.mem_iff_getElem?.1 hm;apply List.mem_of_getElem? (i:=i);grind
def atf (h:oS ms){x:β}{a0:α}{j:Nat}(hj:ms[j]? =some (x,a0)):oS (ms.eraseIdx j)/\∀y,fy (ms.eraseIdx j) y=if y=x then none else fy ms y:=by
 have hsub:=List.eraseIdx_sublist ms j;have hk:=List.Nodup.sublist (hsub.map _) h;refine⟨hk,λy=>?_⟩;apply Option.ext;intro b;rw[L4 hk];by_cases e:y=x
 ·subst e;constructor
  ·intro hm;rw[List.mem_eraseIdx_iff_getElem?]at hm;obtain⟨i,hi,hi'⟩:=hm;exact(hi (akP h hi' hj rfl)).elim
  grind
 ·rw[if_neg e,L4 h];constructor
  ·grind
  ·intro hm;rw[List.mem_eraseIdx_iff_getElem?];obtain⟨i,hi⟩:=List.mem_iff_getElem?.1 hm;grind
attribute [local irreducible] af cE bw bg aA cu bY St Bx Al App cJ cB cz bW aL bD aq bT av ak aW mapA
variable {F:Nat->Prop}{W w:World}{L:List As}{i b:Nat}{t e:TypeId}{x:β}
def Ew {c:Bool}{z:Value}{Q:Value->World->Prop}(ht:P.underlying t=some (.map k e))(hz:(zeroValue e).run P w=.ok z w)(s:Sep F W w L)(hi:L[i]? =some (fO K v b ms))(hnd:oS ms)(hx:K.ok x)
  (h0:fy ms x=none->Q (if c then .tuple #[z,.bool false]else z) w)(h1:∀a,fy ms x=some a->Q (if c then .tuple #[v a,.bool true]else v a) w):aL P (Instr.lookup t (.map (some b)) (K.enc x) c) w Q:=by
 have hi':L[i]? =some (mapA P k b (ms.map λp=>(K.enc p.1,v p.2))):=hi;refine ae0 K.keyed ht hz s hi' (K.key x hx) (λh=>h0 (SX.2 λp hp e=>?_)) λj u hj=>?_
 ·exact h (K.enc p.1,v p.2) (List.mem_map.2 ⟨p,hp,rfl⟩) (by rw[e])
 ·rw[List.getElem?_map]at hj;cases hm:ms[j]? with
  |none=>grind
  |some p=>
   rw[hm]at hj;simp[Option.map_some,Option.some.injEq,Prod.mk.injEq]at hj;obtain⟨e1,rfl⟩:=hj;have e1:=K.inj _ _ e1;exact h1 p.2 (aiF (j:=j) hnd (by grind))
def L5 {Q:World->Prop}{a:α}(ht:P.underlying t=some (.map k e))(s:Sep F W w L)(hi:L[i]? =some (fO K v b ms))(hnd:oS ms)(hx:K.ok x)
  (h:∀ms' w',oS ms'->(∀y,fy ms' y=if y=x then some a else fy ms y)->(ms'.length=if(fy ms x).isNone then ms.length+1 else ms.length)->Sep F W w' (L.set i (fO K v b ms'))->Q w'):bD P (Instr.mapUpdate t (.map (some b)) (K.enc x) (v a)) w Q:=by
 have hi':L[i]? =some (mapA P k b (ms.map λp=>(K.enc p.1,v p.2))):=hi;refine Yu K.keyed ht s hi' (K.key x hx) (λh0 w' s'=>?_) λj u hj w' s'=>?_
 ·have hn:=SX.2 λp hp e=>h0 (K.enc p.1,v p.2) (List.mem_map.2 ⟨p,hp,rfl⟩) (by rw[e]);obtain⟨k1,k2⟩:=aqH hnd hn;apply h (ms++[(x,a)]) w' k1 k2 (by grind);unfold fO;grind
 ·rw[List.getElem?_map]at hj;cases hm:ms[j]? with
  |none=>grind
  |some p=>
   rw[hm]at hj;simp[Option.map_some,Option.some.injEq,Prod.mk.injEq]at hj;obtain⟨e1,rfl⟩:=hj;have e1:=K.inj _ _ e1;have hm:ms[j]? =some (x,p.2):=by grind
   obtain⟨k1,k2⟩:=ate hnd hm;apply h (ms.set j (x,a)) w' k1 k2 (by rw[aiF hnd hm,List.length_set];rfl);unfold fO;simp_all
def au_ {ty:TypeId}{Q:Value->World->Prop}(ht:P.underlying t=some (.map k e))(s:Sep F W w L)(hi:L[i]? =some (fO K v b ms))(hnd:oS ms)(hx:K.ok x)
  (h:∀ms' w',oS ms'->(∀y,fy ms' y=if y=x then none else fy ms y)->(ms'.length=if(fy ms x).isNone then ms.length else ms.length-1)->Sep F W w' (L.set i (fO K v b ms'))->Q (.tuple #[]) w'):aL P (Builtin.delete_ #[t,k] ty [.map (some b),K.enc x].toArray) w Q:=by
 have hi':L[i]? =some (mapA P k b (ms.map λp=>(K.enc p.1,v p.2))):=hi;refine Yv K.keyed ht s hi' (K.key x hx) (λh0 w' s'=>?_) λj u hj w' s'=>?_
 ·have hn:=SX.2 λp hp e=>h0 (K.enc p.1,v p.2) (List.mem_map.2 ⟨p,hp,rfl⟩) (by rw[e]);refine h ms w' hnd (λy=>?_) (by rw[hn];rfl) ?_
  ·grind
  ·have:L.set i (fO K v b ms)=L:=by apply List.ext_getElem?;grind
   grind
 ·rw[List.getElem?_map]at hj;cases hm:ms[j]? with
  |none=>grind
  |some p=>
   rw[hm]at hj;simp[Option.map_some,Option.some.injEq,Prod.mk.injEq]at hj;obtain⟨e1,rfl⟩:=hj;have e1:=K.inj _ _ e1;have hm:ms[j]? =some (x,p.2):=by grind
   have hjl:=(List.getElem?_eq_some_iff.1 hm).1;obtain⟨k1,k2⟩:=atf hnd hm;apply h (ms.eraseIdx j) w' k1 k2 (by rw[aiF hnd hm,List.length_eraseIdx,if_pos hjl];rfl);rw[fO,ChangeMaps.map_eraseIdx];exact s'
end
def akQ {α β:Type}:oS ([]:List (β×α)):=List.nodup_nil
end Go.Proofs.YtmegplnmiepfbaaGreatDoor.S
namespace Go.Proofs.YtmegplnmiepfbaaGreatDoor.S
open Go.Sx
def aoz {P:Program}{F:Nat->Prop}{W w:World}{L:List As}{t e ty k:TypeId}{b i:Nat}{m:List (Value×Value)}{Q:Value->World->Prop}(ht:P.underlying t=some (.map k e))(s:Sep F W w L)(hi:L[i]? =some (mapA P k b m))(h:Q (ae (m.length:Nat)) w):aL P (Builtin.len_ #[t] ty [.map (some b)].toArray) w Q:=by
 obtain⟨es,clock,hb,hm,_⟩:=fW s hi;have hb:=hb;have hl:es.size=m.length:=by grind
 have:(Builtin.len_ #[t] ty [.map (some b)].toArray).run P w=.ok (ae (m.length:Nat)) w:=by simp[Builtin.len_,run_underlying ht,MapKept.run_getObj_map hb,Result.andThen,goInt,hl]
 unfold aL;grind
attribute [local irreducible] af cE bw bg aA cu bY St Bx Al App cJ cB cz bW aL bD aq bT av ak aW mapA
def aqI {F:Nat->Prop}{W w:World}{L:List As}{t e ty:TypeId}{k:TypeId}{α β:Type}{K:aeg k β}{v:α->Value}{ms:List (β×α)}{b i:Nat}{Q:Value->World->Prop}(ht:P.underlying t=some (.map k e))(s:Sep F W w L)(hi:L[i]? =some (fO K v b ms))(h:Q (ae (ms.length:Nat)) w):aL P (Builtin.len_ #[t] ty [.map (some b)].toArray) w Q:=by have hi':L[i]? =some (mapA P k b (ms.map λp=>(K.enc p.1,v p.2))):=hi;apply aoz ht s hi';grind
structure aU where
 id:Int
 cell:Int
 goal:Int
deriving DecidableEq
def iy (u:aU):List Value:=[ae u.id,ae u.cell,ae u.goal]
def Jc (u:aU):(iy u).length=3:=rfl
def aoA (x:aU)(u:Value)(h:u∈iy x):u.oneCell'=true:=by unfold iy at h;simp[List.mem_cons,List.not_mem_nil,or_false]at h;rcases h with rfl|rfl|rfl<;>rfl
def Iz (u:aU):Value:=.agg #[ae u.id,ae u.cell,ae u.goal]
structure tF where
 most:Int
 next:Int
 us:List aU
structure Wq where
 p:Nat
 mb:Nat
 oa:Option Addr
 on:Nat
 oc:Nat
 ms:List (Int×aU)
 os:List Int
def gK (us:List aU)(i:Int):Option aU:=us.find? λu=>decide (u.id=i)
structure SY (r:Wq) (y:tF):Prop where
 most:1<=y.most/\y.most<=65536
 FB:oS r.ms
 fy:∀i,fy r.ms i=gK y.us i
 len:r.ms.length=y.us.length
 ord:r.os.filter (λi=>(gK y.us i).isSome)=y.us.map (·.id)
 aiG:r.os.length<=2*y.us.length
 NI:(y.us.map (·.id)).Pairwise (·<·)
 jA:∀u∈y.us,0<=u.id/\u.id<y.next
 nS:(y.us.length:Int)<=y.most
 onx:∀i∈r.os,0<=i/\i<y.next
 Q9:0<=y.next/\y.next<=1000000000
def Wr (r:Wq)(y:tF):List Value:=[ae y.most,ae y.next,.map (some r.mb),.slice r.oa r.on r.oc]
noncomputable def ayo (r:Wq)(y:tF):List As:=[av r.p 171 (Wr r y),fO fq Iz r.mb r.ms,ak r.oa r.on r.oc 3 1 (flat one r.os)]
noncomputable def v_ (r:Wq)(y:tF):As:=aW (SY r y) (ayo r y)
section
variable {F:Nat->Prop}{W w w0:World}{L:List As}{r:Wq}{y:tF}{id:Int}
def uS (s:Sep F W w (v_ r y::L)):SY r y/\Sep F W w (av r.p 171 (Wr r y)::fO fq Iz r.mb r.ms::ak r.oa r.on r.oc 3 1 (flat one r.os)::L):=gL s
def E1 (s:Sep F W w (av r.p 171 (Wr r y)::fO fq Iz r.mb r.ms::ak r.oa r.on r.oc 3 1 (flat one r.os)::L))(h:SY r y):Sep F W w (v_ r y::L):=dz s h
def ab7 {Q:Option Addr->World->Prop}{most:Int}(hm:1<=most/\most<=65536)(s:Sep F W w L)(h:∀r w',Sep F W w' (v_ r ⟨most,0,[]⟩::L)->Q (sZ r.p) w'):F7 most w Q:=by
 apply abj;rw[bq,bq];refine aaj s 169 fq Iz λmb w s=>?_;refine aO s λp w s=>?_;refine h ⟨p,mb,none,0,0,[],[]⟩ w (E1 ?_ ?_)
 ·exact ck (bE s 3 1) ((List.Perm.swap _ _ _).trans (List.Perm.cons _ (List.Perm.swap _ _ _)))
 ·exact⟨hm,List.Pairwise.nil,λi=>rfl,rfl,rfl,Nat.le_refl _,List.Pairwise.nil,(λu hu=>by cases hu),by grind,(λi hi=>by cases hi),by grind⟩
def Ky:P.underlying 169=some (.map 3 43):=by kernel_rfl
def aak (w:World):(zeroValue 43).run P w=.ok (Iz ⟨0,0,0⟩) w:=by kernel_rfl
def aBJ:zc T 43=[ae 0,ae 0,ae 0]:=rfl
def ab8 {Q:Int->World->Prop}(s:Sep F W w (v_ r y::L))(h:Q (y.us.length:Nat) w):yT (sZ r.p) w Q:=by apply PZ;obtain⟨hok,s⟩:=uS s;refine kY (ah (lM s 0 rfl ?_));apply aqI Ky s (i:=1) rfl;rw[hok.len];exact h
def sH {Q:Int->Int->Int->Bool->World->Prop}(s0:Sep F W w (v_ r y::L))(zT:iF id)
  (hno:gK y.us id=none->∀w',Sep F W w' (v_ r y::L)->Q 0 0 0 false w')(hyes:∀u,gK y.us id=some u->∀w',Sep F W w' (v_ r y::L)->Q u.id u.cell u.goal true w'):iQ (sZ r.p) id w Q:=by
 apply Qa;refine aS s0 λp w s=>?_;obtain⟨hok,s⟩:=uS (iZ s);refine kY (ah (lM s 0 rfl ?_));have fin:∀(u:aU) (b:Bool) (w:World),Sep F W w (av r.p 171 (Wr r y)::fO fq Iz r.mb r.ms::ak r.oa r.on r.oc 3 1 (flat one r.os)::av p 43 [ae 0,ae 0,ae 0]::L)->
   (∀w',Sep F W w' (v_ r y::L)->Q u.id u.cell u.goal b w')->
   Al T 43 w λx w=>St (x.add 0) (ae u.id) w λw=>St (x.add 1) (ae u.cell) w λw=>St (x.add 2) (ae u.goal) w λw=>
   af .i64 (x.add 0) w λa=>af .i64 (x.add 1) w λc=>af .i64 (x.add 2) w λd=>
   St ((aZ p).add 0) (ae a) w λw=>St ((aZ p).add 1) (ae c) w λw=>St ((aZ p).add 2) (ae d) w λw=>
   af .i64 ((aZ p).add 0) w λa=>af .i64 ((aZ p).add 1) w λc=>af .i64 ((aZ p).add 2) w λd=>Q a c d b w:=λu b w s h=>by
  refine aS s λx w s=>?_;refine sT s 0 rfl λw s=>?_;refine sT s 0 rfl λw s=>?_;refine ax s (i:=0) rfl rfl rfl λw s=>?_;refine lI s 0 rfl (lI s 0 rfl (lI s 0 rfl ?_));refine sT s 4 rfl λw s=>?_;refine sT s 4 rfl λw s=>?_;refine ax s (i:=4) rfl rfl rfl λw s=>?_;refine lI s 4 rfl (lI s 4 rfl (lI s 4 rfl ?_));exact h w (E1 (gC s (.cons _ (.cons_cons _ (.cons_cons _ (.cons_cons _ (.cons _ (List.Sublist.refl _))))))) hok)
 refine Ew (K:=fq) Ky (aak w) s (i:=1) rfl hok.FB zT (λh=>?_) λu h=>?_
 ·exact fin ⟨0,0,0⟩ false w s (hno (by rw[<-hok.fy];exact h))
 ·exact fin u true w s (hyes u (by rw[<-hok.fy];exact h))
end
end Go.Proofs.YtmegplnmiepfbaaGreatDoor.S
namespace Go.Proofs.YtmegplnmiepfbaaGreatDoor.S
open Go.Sx
attribute [local irreducible] af cE bw bg aA cu bY St Bx Al App cJ cB cz bW aL bD aq bT av ak aW mapA
section
variable {F:Nat->Prop}{W w w0:World}{L:List As}
def YK {Q:Option Addr->Nat->Nat->World->Prop}{p mb on oc:Nat}{oa:Option Addr}{most next:Int}{ms:List (Int×aU)}{os:List Int}(hk:oS ms)(ho:∀i∈os,iF i)(hl:os.length<=200000)
  (s:Sep F W w (av p 171 [ae most,ae next,.map (some mb),.slice oa on oc]::fO fq Iz mb ms::ak oa on oc 3 1 (flat one os)::L))
  (h:∀a n c w',Sep F W w' (ak a n c 3 1 (flat one (os.filter λi=>(fy ms i).isSome))::av p 171 [ae most,ae next,.map (some mb),.slice oa on oc]::fO fq Iz mb ms::ak oa on oc 3 1 (flat one os)::L)->Q a n c w'):
  qv (sZ p) w Q:=by
 apply MH;refine ah (lS s 0 rfl ?_);have hlen:=(aN s (i:=2) rfl cF (by decide)).len;have loop:∀(j i:Nat) (a:Option Addr) (n c:Nat) (w:World),i+j=on->n<=i->Sep F W w (ak a n c 3 1 (flat one ((os.take i).filter λi=>(fy ms i).isSome))::av p 171 [ae most,ae next,.map (some mb),.slice oa on oc]::fO fq Iz mb ms::ak oa on oc 3 1 (flat one os)::L)->
   lX Q (j+1) (sZ p) a n c oa on oc (on:Int) i w:=by
  intro j;induction j with
  |zero=>
   intro i a n c w hij hni s;show ox _ _ _ _ _ _ _ _ _ _ _ _;unfold ox;grind
  |succ j ih=>
   intro i a n c w hij hni s;show ox _ _ _ _ _ _ _ _ _ _ _ _;rw[ox,bM];apply(aN s (i:=3) rfl cF (by decide)).rJ rfl (by omega);have hg:os[i]? =some (gi os i):=by unfold gi;grind
   have hx:=ho _ (List.mem_of_getElem? hg);have yj:os.take (i+1)=os.take i++[gi os i]:=by rw[List.take_add_one,hg];rfl
   generalize gi os i=x at hg hx yj;have wr:IntKind.wrap .i64 ((i:Int)+1)=((i+1:Nat):Int):=by rw[Hz (iF.wf (by unfold iF;omega))];omega
   refine ah (lM s 1 rfl ?_);have step:∀(u:aU) (b:Bool),(fy ms x).isSome=b->Al T 43 w λp6 w=>St (p6.add 0) (ae u.id) w λw=>St (p6.add 1) (ae u.cell) w λw=>St (p6.add 2) (ae u.goal) w λw=>
     cond b (Bx [ae x] 3 w λp29 w=>App P #[29,29] 29 (.slice a n c) (.slice (some p29) 1 1) w λa n c w=>lX Q (j+1) (sZ p) a n c oa on oc (on:Int) (IntKind.wrap .i64 ((i:Int)+1)) w)
      (lX Q (j+1) (sZ p) a n c oa on oc (on:Int) (IntKind.wrap .i64 ((i:Int)+1)) w):=λu b hb=>by
    refine aS s λp6 w s=>?_;refine sT s 0 rfl λw s=>?_;refine sT s 0 rfl λw s=>?_;refine sT s 0 rfl λw s=>?_;have s:=ai s;rw[wr];cases b with
    |true=>
     refine LD s (by omega) λa' c' w s=>?_;apply ih (i+1) a' (n+1) c' w (by omega) (by omega);rw[yj,List.filter_append];simp[List.filter_cons,hb,List.filter_nil,if_true];exact s
    |false=>
     apply ih (i+1) a n c w (by omega) (by omega);rw[yj,List.filter_append];simp[List.filter_cons,hb,List.filter_nil,Bool.false_eq_true,if_false,List.append_nil];exact s
   refine Ew (K:=fq) Ky (aak w) s (i:=2) rfl hk hx (λh=>?_) λu h=>?_
   ·exact step ⟨0,0,0⟩ false (by rw[h];rfl)
   ·exact step u true (by rw[h];rfl)
 exact⟨on+1,loop on 0 none 0 0 w (by omega) (by omega) (bE s 3 1)⟩
end
end Go.Proofs.YtmegplnmiepfbaaGreatDoor.S
namespace Go.Proofs.YtmegplnmiepfbaaGreatDoor.S.Hp
abbrev E:=Int×Int
def zD (a b:E):Bool:=decide (a.1<b.1)||(a.1==b.1&&decide (a.2<b.2))
def akS {a b:E}:zD a b=true↔a.1<b.1\/a.1=b.1/\a.2<b.2:=by simp[zD]
def Xp {a b:E}:zD a b=false↔¬(a.1<b.1\/a.1=b.1/\a.2<b.2):=by rw[<-akS,Bool.not_eq_true]
def NT {a b:E}(h:zD a b=true):zD b a=false:=by rw[akS]at h;rw[Xp];omega
def GF {a b c:E}(h:zD b a=false)(k:zD c b=false):zD c a=false:=by rw[Xp]at*;omega
def aal {a:E}:zD a a=false:=by rw[Xp];omega
def g (es:List E)(i:Nat):E:=es.getD i (0,0)
def Ex {es:List E}{i:Nat}(h:i<es.length):es[i]? =some (g es i):=by rw[g,List.getD_eq_getElem?_getD,List.getElem?_eq_getElem h];rfl
def ar7 {es:List E}{i j:Nat}{x:E}(h:i<es.length):g (es.set i x) j=if i=j then x else g es j:=by unfold g;grind
def swap (es:List E)(i p:Nat):List E:=(es.set i (g es p)).set p (g es i)
def rG (es:List E)(i p:Nat):(swap es i p).length=es.length:=by simp[swap]
def Jd {es:List E}{i p j:Nat}(hi:i<es.length)(hp:p<es.length):g (swap es i p) j=if p=j then g es i else if i=j then g es p else g es j:=by rw[swap,ar7 (by grind),ar7 hi]
def swap_perm {es:List E}{i p:Nat}(hi:i<es.length)(hp:p<es.length):(swap es i p).Perm es:=by
 rw[List.perm_iff_count];intro a;unfold swap;have e1:es[i]=g es i:=by have:=Ex hi;grind
 have e2:es[p]=g es p:=by have:=Ex hp;grind
 grind
def zE (es:List E):Prop:=∀j,0<j->j<es.length->zD (g es j) (g es ((j-1)/2))=false
structure Xq (es:List E) (i:Nat):Prop where
 rest:∀j,0<j->j<es.length->j≠i->zD (g es j) (g es ((j-1)/2))=false
 over:∀j,0<j->j<es.length->(j-1)/2=i->0<i->zD (g es j) (g es ((i-1)/2))=false
def aeh {es:List E}{i:Nat}(h:Xq es i)(hs:i=0\/zD (g es i) (g es ((i-1)/2))=false):zE es:=by
 intro j h1 h2;by_cases hj:j=i
 ·grind
 ·exact h.rest j h1 h2 hj
def atg {es:List E}{i:Nat}(h:Xq es i)(hi:0<i)(hl:i<es.length)(hs:zD (g es i) (g es ((i-1)/2))=true):Xq (swap es i ((i-1)/2)) ((i-1)/2):=by
 have hp:(i-1)/2<es.length:=by omega
 have hne:(i-1)/2≠i:=by omega
 constructor
 ·intro j h1 h2 hj;rw[rG]at h2;rw[Jd hl hp,Jd hl hp,if_neg (Ne.symm hj)];by_cases hji:i=j
  ·subst hji;rw[if_pos rfl,if_pos rfl];exact NT hs
  ·rw[if_neg hji];by_cases hpj:(i-1)/2=(j-1)/2
   ·rw[if_pos hpj];have:=h.rest j h1 h2 (Ne.symm hji);rw[<-hpj]at this;exact GF (NT hs) this
   ·rw[if_neg hpj];by_cases hij:i=(j-1)/2
    ·rw[if_pos hij];exact h.over j h1 h2 hij.symm hi
    ·rw[if_neg hij];exact h.rest j h1 h2 (Ne.symm hji)
 ·intro j h1 h2 hj h0;rw[rG]at h2;have hj':(i-1)/2≠j:=by omega
  rw[Jd hl hp,Jd hl hp,if_neg hj',if_neg (show(i-1)/2≠((i-1)/2-1)/2 by omega),if_neg (show i≠((i-1)/2-1)/2 by omega)];have avb:=h.rest ((i-1)/2) h0 hp hne;by_cases hji:i=j
  ·rw[if_pos hji];exact avb
  ·rw[if_neg hji];have:=h.rest j h1 h2 (Ne.symm hji);rw[hj]at this;exact GF avb this
structure KK (es:List E) (i:Nat):Prop where
 rest:∀j,0<j->j<es.length->(j-1)/2≠i->zD (g es j) (g es ((j-1)/2))=false
 over:∀j,0<j->j<es.length->(j-1)/2=i->0<i->zD (g es j) (g es ((i-1)/2))=false
structure ar8 (es:List E) (i l k:Nat):Prop where
 lt:l<es.length
 who:l=i\/l=2*i+1\/l=2*i+2
 self:zD (g es i) (g es l)=false
 kids:∀j,2*i+1<=j->j<k->j<es.length->zD (g es j) (g es l)=false
def aoB {es:List E}{i:Nat}(h:KK es i)(hs:∀j,2*i+1<=j->j<=2*i+2->j<es.length->zD (g es j) (g es i)=false):zE es:=by
 intro j h1 h2;by_cases hj:(j-1)/2=i
 ·grind
 ·exact h.rest j h1 h2 hj
def aoC {es:List E}{i l:Nat}(h:KK es i)(hi:i<es.length)(hl:l<es.length)(hw:l=2*i+1\/l=2*i+2)(hs:zD (g es i) (g es l)=false)
  (hk:∀j,2*i+1<=j->j<=2*i+2->j<es.length->zD (g es j) (g es l)=false):KK (swap es i l) l:=by
 have hne:l≠i:=by omega
 constructor
 ·intro j h1 h2 hj;rw[rG]at h2;rw[Jd hi hl,Jd hi hl,if_neg (show l≠(j-1)/2 from λe=>hj e.symm)];by_cases hpi:i=(j-1)/2
  ·grind
  ·rw[if_neg hpi,if_neg (show l≠j by omega)];by_cases hij:i=j
   ·subst hij;rw[if_pos rfl];exact h.over l (by omega) hl (by omega) h1
   ·rw[if_neg hij];exact h.rest j h1 h2 (Ne.symm hpi)
 ·intro j h1 h2 hj h0;rw[rG]at h2;have e:(l-1)/2=i:=by omega
  rw[e,Jd hi hl,Jd hi hl,if_neg (show l≠j by omega),if_neg (show i≠j by omega),if_neg hne,if_pos rfl];have:=h.rest j h1 h2 (by omega);grind
def alY {es:List E}(h:zE es):∀j,j<es.length->zD (g es j) (g es 0)=false:=by
 intro j;induction j using Nat.strongRecOn with
 |_ j ih=>
  intro hj;by_cases h0:j=0
  ·subst h0;exact aal
  ·exact GF (ih ((j-1)/2) (by omega) (by omega)) (h j (by omega) hj)
def aei {es:List E}(h:zE es){x:E}(hx:x∈es):zD x (g es 0)=false:=by
 obtain⟨j,hj,rfl⟩:=List.getElem_of_mem hx;have:=alY h j hj;have e:es[j]=g es j:=by have:=Ex hj;grind
 rwa[e]
def TE {es:List E}{x:E}{j:Nat}(h:j<es.length):g (es++[x]) j=g es j:=by unfold g;grind
def aqJ {es:List E}{x:E}(h:zE es):Xq (es++[x]) es.length:=by
 constructor
 ·intro j h1 h2 hj;simp[List.length_append,List.length_cons,List.length_nil]at h2;rw[TE (by omega),TE (by omega)];exact h j h1 (by omega)
 grind
def ath {es:List E}(h:zE es)(h0:0<es.length):KK ((es.set 0 (g es (es.length-1))).take (es.length-1)) 0:=by
 have hg:∀j,0<j->j<es.length-1->g ((es.set 0 (g es (es.length-1))).take (es.length-1)) j=g es j:=by intro j h1 h2;unfold g;grind
 constructor
 ·intro j h1 h2 hj;have h2:j<es.length-1:=by grind
  rw[hg j h1 h2,hg _ (by omega) (by omega)];exact h j h1 (by omega)
 omega
def aqK {es:List E}(h0:0<es.length):(g es 0::(es.set 0 (g es (es.length-1))).take (es.length-1)).Perm es:=by
 match es,h0 with
 |[x],_=>simp[g]
 |x::y::es,_=>
  have e:g (x::y::es) ((x::y::es).length-1)=(y::es).getLast (by simp):=by unfold g;grind
  rw[e];have e2:((x::y::es).set 0 ((y::es).getLast (by simp))).take ((x::y::es).length-1)=(y::es).getLast (by simp)::(y::es).dropLast:=by simp[List.dropLast_eq_take]
  have e3:g (x::y::es) 0=x:=rfl;apply List.Perm.cons x;have:=List.dropLast_concat_getLast (l:=y::es) (by simp);grind
end Go.Proofs.YtmegplnmiepfbaaGreatDoor.S.Hp
namespace Go.Proofs.YtmegplnmiepfbaaGreatDoor.S.Hp
open Go.Sx
attribute [local irreducible] af cE bw bg aA cu bY St Bx Al App cJ cB cz bW aL bD aq bT av ak
def ee:wR P T:=EB P rows HB
def b_ {n lo hi:Int}{w:World}{Q:Int->World->Prop}(h1:lo<=hi)(h2:-1099511627776<=lo)(h3:hi<=1099511627776)(h:Q (lo+n%(hi-lo+1)) w):aV n lo hi w Q:=by
 apply um;rw[aG (n:=hi-lo),aG];generalize hs:hi-lo+1=s at h;have h4:=Int.lt_tmod_of_pos n (b:=s) (by omega);have h5:=Int.tmod_lt_of_pos n (b:=s) (by omega);have h6:=Int.tmod_add_mul_tdiv n s;refine⟨by omega,?_⟩;generalize ht:Int.tmod n s=t at*;have e:n%s=t%s:=by rw[<-h6,Int.add_mul_emod_self_left]
 by_cases hn:t<0
 ·rw[bM hn,aG (n:=t+hi),aG (n:=t+hi-lo),aG (n:=t+hi-lo+1),aG];have e2:t%s=t+s:=by rw[<-Int.add_emod_right,Int.emod_eq_of_lt (by omega) (by omega)]
  grind
 ·rw[bq hn,aG];rw[e,Int.emod_eq_of_lt (by omega) h5]at h;exact h
def pr (x:E):List Value:=[ae x.1,ae x.2]
def iA (x:E):(pr x).length=2:=rfl
def FC {F:Nat->Prop}{W w:World}{L:List As}{a b c d:Int}{Q:Bool->World->Prop}(s:Sep F W w L)(h:∀w',Sep F W w' L->Q (zD (a,b) (c,d)) w'):sq a b c d w Q:=by
 apply Qn;refine aO s λb1 w1 s=>?_;refine aO s λb2 w2 s=>?_;apply lI s 1 rfl;apply lI s 0 rfl;have hh:=h w2 (ai (ai s));unfold zD at hh;by_cases h1:a<c
 ·grind
 ·rw[bq h1];rw[decide_eq_false h1,Bool.false_or]at hh;apply lI s 1 rfl;apply lI s 0 rfl;cases h2:(a==c)with
  |false=>
   grind
  |true=>
   rw[h2,Bool.true_and]at hh;apply lI s 1 rfl;apply lI s 0 rfl;exact hh
section
variable {F:Nat->Prop}{W w:World}{L:List As}{i j p b o n c:Nat}{Q:World->Prop}
def ati (hij:i≠j):∀(m q:Nat) (es:List E) (w:World),q<=m->q<es.length->es.length=n->n<=4000000000000->Xq es q->∀L:List As,L[i]? =some (av p 351 [.slice (some ⟨b,o,none⟩) n c])->L[j]? =some (ak (some ⟨b,o,none⟩) n c 353 2 (flat pr es))->Sep F W w L->
  (∀w' es',zE es'->es'.Perm es->Sep F W w' (L.set j (ak (some ⟨b,o,none⟩) n c 353 2 (flat pr es')))->Q w')->qX Q (m+1) (sZ p) q w:=by
 intro m;induction m with
 |zero=>
  intro q es w hq hl hn L6 inv L hi hj s h;obtain rfl:q=0:=by omega
  show vo Q (qX Q 0) _ _ _;unfold vo;apply h w es (aeh inv (.inl rfl)) (.refl _);rw[rI hj];exact s
 |succ m ih=>
  intro q es w hq hl hn L6 inv L hi hj s h;show vo Q (qX Q (m+1)) _ _ _;unfold vo;by_cases h0:q=0
  ·subst h0;apply h w es (aeh inv (.inl rfl)) (.refl _);rw[rI hj];exact s
  ·rw[bM];have e1:IntKind.wrap .i64 (Int.tdiv (IntKind.wrap .i64 ((q:Int)-1)) 2)=(((q-1)/2:Nat):Int):=by rw[aG (n:=(q:Int)-1),Int.tdiv_eq_ediv_of_nonneg (by omega),aG];omega
   rw[e1];have s':Sep F W w.drew L:=s;have gq:=Ex hl;have hp:(q-1)/2<es.length:=by omega
   have gp:=Ex hp;refine⟨by decide,ah ?_⟩;apply gT s' rfl hi rfl;refine⟨by omega,by omega,ah ?_⟩;rw[show((q:Int)).toNat=q from rfl,show((((q-1)/2:Nat):Int)).toNat=(q-1)/2 from rfl];apply eG iA s' hj gq (d_ ..) rfl;refine eG iA s' hj gq (d_ ..) rfl (ah ?_);apply gT s' rfl hi rfl;refine⟨by omega,by omega,ah ?_⟩;apply eG iA s' hj gp (d_ ..) rfl;apply eG iA s' hj gp (d_ ..) rfl;refine FC s' λw1 s1=>?_;cases hs:zD (g es q) (g es ((q-1)/2))with
   |false=>
    apply h w1 es (aeh inv (.inr hs)) (.refl _);rw[rI hj];exact s1
   |true=>
    rw[Bool.not_true,cond_false];have s2:Sep F W w1.drew L:=s1;apply ah;refine gT s2 rfl hi rfl (ah ?_);refine gT s2 rfl hi rfl (ah ?_);apply gT s2 rfl hi rfl;refine⟨by omega,by omega,ah ?_⟩;apply eG iA s2 hj gp (d_ ..) rfl;refine eG iA s2 hj gp (d_ ..) rfl (ah ?_);apply gT s2 rfl hi rfl;refine⟨by omega,by omega,ah ?_⟩;apply eG iA s2 hj gq (d_ ..) rfl;apply eG iA s2 hj gq (d_ ..) rfl;refine⟨by omega,by omega,ah ?_⟩;have hjL:=(List.getElem?_eq_some_iff.1 hj).1;refine dQ iA (x':=((g es ((q-1)/2)).1,(g es q).2)) s2 hj gq (d_ ..) (by decide) rfl rfl λw3 s3=>?_;refine dQ iA (x:=((g es ((q-1)/2)).1,(g es q).2)) (x':=g es ((q-1)/2)) s3 (by rw[List.getElem?_set_self hjL]) (by rw[List.getElem?_set_self hl]) (d_ ..) (by decide) rfl rfl λw4 s4=>?_;rw[gY,gY]at s4;refine⟨by omega,by omega,ah ?_⟩;have hne:q≠(q-1)/2:=by omega
    have gp':(es.set q (g es ((q-1)/2)))[(q-1)/2]? =some (g es ((q-1)/2)):=by rw[List.getElem?_set_ne hne];exact gp
    refine dQ iA (x':=((g es q).1,(g es ((q-1)/2)).2)) s4 (by rw[List.getElem?_set_self hjL]) gp' (d_ ..) (by decide) rfl rfl λw5 s5=>?_;refine dQ iA (x:=((g es q).1,(g es ((q-1)/2)).2)) (x':=g es q) s5 (by rw[List.getElem?_set_self (by simpa using hjL)]) (by rw[List.getElem?_set_self (by simpa using hp)]) (d_ ..) (by decide) rfl rfl λw6 s6=>?_;rw[gY,gY,gY]at s6;have s6:Sep F W w6 (L.set j (ak (some ⟨b,o,none⟩) n c 353 2 (flat pr (swap es q ((q-1)/2))))):=s6;refine ih ((q-1)/2) (swap es q ((q-1)/2)) w6 (by omega) (by rw[rG];exact hp) (by rw[rG];exact hn) L6 (atg inv (by omega) hl hs) _ (by rw[List.getElem?_set_ne (Ne.symm hij)];exact hi) (by rw[List.getElem?_set_self hjL]) s6 λw' es' k1 k2 k3=>?_;rw[gY]at k3;exact h w' es' k1 (k2.trans (swap_perm hl hp)) k3
end
section
variable {F:Nat->Prop}{W w:World}{L:List As}{i j p b o n c:Nat}{Q:World->Prop}
def al0 {P1:Option Addr->Int->World->Prop}{es:List E}{q:Nat}(hq:q<es.length)(hn:es.length=n)(L6:n<=4000000000000)
  (hi:L[i]? =some (av p 351 [.slice (some ⟨b,o,none⟩) n c]))(hj:L[j]? =some (ak (some ⟨b,o,none⟩) n c 353 2 (flat pr es)))
  (h:∀w' l,Sep F W w' L->ar8 es q l (2*q+3)->oB P1 Q (sZ p) q l w'):
  ∀(m k l:Nat) (w:World),k+m=2*q+3->2*q+1<=k->Sep F W w L->ar8 es q l k->mA P1 Q (m+1) (sZ p) q l k w:=by
 intro m;induction m with
 |zero=>
  intro k l w hk IN s hl;show mz P1 Q (mA P1 Q 0) _ _ _ _ _;rw[mz,aG (n:=2*(q:Int)),aG,bq];grind
 |succ m ih=>
  intro k l w hk IN s hl;show mz P1 Q (mA P1 Q (m+1)) _ _ _ _ _;rw[mz,aG (n:=2*(q:Int)),aG,bM];apply ah;apply gT s rfl hi rfl;by_cases hkn:k<n
  ·rw[bM];have s':Sep F W w.drew L:=s;have gk:=Ex (es:=es) (i:=k) (by omega);have gl:=Ex hl.lt;have qe:=hl.lt;apply ah;apply gT s' rfl hi rfl;refine⟨by omega,by omega,ah ?_⟩;apply eG iA s' hj gk (d_ ..) rfl;refine eG iA s' hj gk (d_ ..) rfl (ah ?_);apply gT s' rfl hi rfl;refine⟨by omega,by omega,ah ?_⟩;apply eG iA s' hj gl (d_ ..) rfl;apply eG iA s' hj gl (d_ ..) rfl;refine FC s' λw1 s1=>?_;rw[aG];cases hs:zD (g es k) (g es l)with
   |true=>
    refine ih (k+1) k w1 (by omega) (by omega) s1 ⟨by omega,by omega,GF (NT hs) hl.self,λx h1 h2 h3=>?_⟩;by_cases hx:x=k
    ·subst hx;exact aal
    ·exact GF (NT hs) (hl.kids x h1 (by omega) h3)
   |false=>
    refine ih (k+1) l w1 (by omega) (by omega) s1 ⟨hl.lt,hl.who,hl.self,λx h1 h2 h3=>?_⟩;by_cases hx:x=k
    ·grind
    ·exact hl.kids x h1 (by omega) h3
  ·rw[bq];exact h w l s ⟨hl.lt,hl.who,hl.self,λx h1 h2 h3=>hl.kids x h1 (by omega) h3⟩
def aoD (hij:i≠j):∀(m q:Nat) (es:List E) (w:World),es.length<=q+m->q<es.length->es.length=n->n<=4000000000000->KK es q->∀L:List As,L[i]? =some (av p 351 [.slice (some ⟨b,o,none⟩) n c])->L[j]? =some (ak (some ⟨b,o,none⟩) n c 353 2 (flat pr es))->Sep F W w L->
  (∀w' es',zE es'->es'.Perm es->Sep F W w' (L.set j (ak (some ⟨b,o,none⟩) n c 353 2 (flat pr es')))->Q w')->oC Q (m+1) (sZ p) q w:=by
 intro m;induction m with
 |zero=>
  omega
 |succ m ih=>
  intro q es w hq hl hn L6 inv L hi hj s h;show xm Q (oC Q (m+1)) _ _ _;rw[xm,aG (n:=2*(q:Int)),aG];refine⟨3,?_⟩;have e0:(2*(q:Int)+1)=((2*q+1:Nat):Int):=by omega
  refine al0 hl hn L6 hi hj (λw1 l s1 hle=>?_) 2 (2*q+1) q w (by omega) (by omega) s ⟨hl,.inl rfl,aal,λx h1 h2 h3=>by omega⟩;unfold oB;by_cases hlq:l=q
  ·subst hlq;rw[beq_self_eq_true,cond_true];apply h w1 es (aoB inv λx h1 h2 h3=>hle.kids x h1 (by omega) h3) (.refl _);rw[rI hj];exact s1
  ·rw[show(((l:Int))==(q:Int))=false by rw[beq_eq_false_iff_ne];omega,cond_false];have s2:Sep F W w1.drew L:=s1;have NM:=hle.lt;have gq:=Ex hl;have gl:=Ex NM;have hw:l=2*q+1\/l=2*q+2:=by
    rcases hle.who with h|h
    ·exact absurd h hlq
    ·exact h
   apply ah;refine gT s2 rfl hi rfl (ah ?_);refine gT s2 rfl hi rfl (ah ?_);apply gT s2 rfl hi rfl;refine⟨by omega,by omega,ah ?_⟩;rw[show((q:Int)).toNat=q from rfl,show((l:Int)).toNat=l from rfl];apply eG iA s2 hj gl (d_ ..) rfl;refine eG iA s2 hj gl (d_ ..) rfl (ah ?_);apply gT s2 rfl hi rfl;refine⟨by omega,by omega,ah ?_⟩;apply eG iA s2 hj gq (d_ ..) rfl;apply eG iA s2 hj gq (d_ ..) rfl;refine⟨by omega,by omega,ah ?_⟩;have hjL:=(List.getElem?_eq_some_iff.1 hj).1;refine dQ iA (x':=((g es l).1,(g es q).2)) s2 hj gq (d_ ..) (by decide) rfl rfl λw3 s3=>?_;refine dQ iA (x:=((g es l).1,(g es q).2)) (x':=g es l) s3 (by rw[List.getElem?_set_self hjL]) (by rw[List.getElem?_set_self hl]) (d_ ..) (by decide) rfl rfl λw4 s4=>?_;rw[gY,gY]at s4;refine⟨by omega,by omega,ah ?_⟩;have hne:q≠l:=by omega
   have gl':(es.set q (g es l))[l]? =some (g es l):=by rw[List.getElem?_set_ne hne];exact gl
   refine dQ iA (x':=((g es q).1,(g es l).2)) s4 (by rw[List.getElem?_set_self hjL]) gl' (d_ ..) (by decide) rfl rfl λw5 s5=>?_;refine dQ iA (x:=((g es q).1,(g es l).2)) (x':=g es q) s5 (by rw[List.getElem?_set_self (by simpa using hjL)]) (by rw[List.getElem?_set_self (by simpa using NM)]) (d_ ..) (by decide) rfl rfl λw6 s6=>?_;rw[gY,gY,gY]at s6;have s6:Sep F W w6 (L.set j (ak (some ⟨b,o,none⟩) n c 353 2 (flat pr (swap es q l)))):=s6;refine ih l (swap es q l) w6 (by rw[rG];omega) (by rw[rG];exact NM) (by rw[rG];exact hn) L6 (aoC inv hl NM hw hle.self λx h1 h2 h3=>hle.kids x h1 (by omega) h3) _ (by rw[List.getElem?_set_ne (Ne.symm hij)];exact hi) (by rw[List.getElem?_set_self hjL]) s6 λw' es' k1 k2 k3=>?_;rw[gY]at k3;exact h w' es' k1 (k2.trans (swap_perm hl NM)) k3
end
end Go.Proofs.YtmegplnmiepfbaaGreatDoor.S.Hp
namespace Go.Proofs.YtmegplnmiepfbaaGreatDoor.S.Hp
open Go.Sx
def qz (p:Nat)(a:Option Addr)(c:Nat)(es:List E):As where
 fp:=λk=>k=p\/∃x,a=some x/\x.block=k
 ok:=λh=>(av p 351 [.slice a es.length c]).ok h/\(ak a es.length c 353 2 (flat pr es)).ok h/\(∀x,a=some x->x.block≠p)/\zE es
 lt:=λh hb k hk=>by
  rcases hk with rfl|hk
  ·exact As.lt _ h hb.1 _ rfl
  ·exact As.lt _ h hb.2.1 _ hk
 fr:=λh h' hb he=>⟨As.fr _ h h' hb.1 λb hb=>he b (.inl hb),As.fr _ h h' hb.2.1 λb hb=>he b (.inr hb),hb.2.2⟩
section
variable {F:Nat->Prop}{W w w':World}{L:List As}{i p c:Nat}{a:Option Addr}{es:List E}
def FD (s:Sep F W w L)(hi:L[i]? =some (qz p a c es)):Sep (qz p a c es).fp w w [av p 351 [.slice a es.length c],ak a es.length c 353 2 (flat pr es)]:=by obtain⟨h1,h2,h3,_⟩:=fW s hi;refine ap5 h1 h2 (λb hb=>.inl hb) (λb hb=>.inr hb) λb hb hb'=>?_;obtain⟨x,hx,rfl⟩:=hb';exact h3 x hx hb
def Ws (s:Sep F W w L)(hi:L[i]? =some (qz p a c es)):zE es:=(fW s hi).2.2.2
def ab_ {a':Option Addr}{c':Nat}{es':List E}(s:Sep F W w L)(hi:L[i]? =some (qz p a c es))(s':Sep (qz p a c es).fp w w' [av p 351 [.slice a' es'.length c'],ak a' es'.length c' 353 2 (flat pr es')])(hh:zE es'):
  Sep F W w' (L.set i (qz p a' c' es')):=by
 refine aaV s hi s' ⟨fW s' (i:=0) rfl,fW s' (i:=1) rfl,λx hx e=>?_,hh⟩ λb hb=>?_
 ·exact anp s' (i:=0) (j:=1) rfl rfl (by decide) p rfl ⟨x,hx,e⟩
 ·rcases hb with hb|hb
  ·exact⟨_,List.mem_cons_self,hb⟩
  ·exact⟨_,List.mem_cons_of_mem _ List.mem_cons_self,hb⟩
def Wt (s:Sep F W w L)(hi:L[i]? =some (qz p a c es))(h0:0<es.length):∃b o,a=some ⟨b,o,none⟩:=pY (FD s hi) (i:=1) rfl h0
def aqM (s:Sep F W w L)(hi:L[i]? =some (qz p a c es)):es.length<=c:=(RA (FD s hi) (i:=1) rfl).1
def atj {b:Nat}{t:TypeId}{cs:List Value}{m size:Nat}(s:Sep F W w L)(hi:L[i]? =some (av b t cs))(hl:cs.length=m*size)(h1:∀u∈cs,u.oneCell'=true):Src w (sZ b) m size cs:=
 ⟨hl,h1,λj u hj=>by rw[cq,Nat.zero_add];exact cM s rfl hi hj⟩
def al2 {p:Nat}{w:World}(h:(av p 351 [.slice none 0 0]).ok w.heap):(qz p none 0 []).ok w.heap:=
 ⟨h,⟨⟨by simp[flat],Nat.le_refl _,by decide,by simp[flat]⟩,.inl ⟨rfl,rfl⟩⟩,λx hx=>(by cases hx),λj h1 h2=>(by simp at h2)⟩
end
def FA {p:Addr}{A B:Prop}(h:B):cond (some p).isNone A B:=h
attribute [local irreducible] af cE bw bg aA cu bY St Bx Al App cJ cB cz bW aL bD aq bT av ak
section
variable {F:Nat->Prop}{W w:World}{L:List As}{i p c:Nat}{a:Option Addr}{es:List E}
def Q_ {Q:Option Addr->World->Prop}(s:Sep F W w L)(h:∀p w',Sep F W w' (qz p none 0 []::L)->Q (sZ p) w'):CM w Q:=by
 apply adH;refine aO s λp w1 s=>h p w1 ?_;exact xK (i:=0) (A':=qz p none 0 []) s rfl Fr.refl (al2 (fW s (i:=0) rfl)) λb hb=>.inl (by
  rcases hb with hb|⟨x,hx,_⟩
  ·subst hb;unfold av;rfl
  ·cases hx)
def agJ {b o n j:Nat}{Q:World->Prop}(hij:i≠j)(hl:0<es.length)(hn:es.length=n)(L6:n<=4000000000000)(inv:Xq es (n-1))(hi:L[i]? =some (av p 351 [.slice (some ⟨b,o,none⟩) n c]))(hj:L[j]? =some (ak (some ⟨b,o,none⟩) n c 353 2 (flat pr es)))(s:Sep F W w L)
  (h:∀w' es',zE es'->es'.Perm es->Sep F W w' (L.set j (ak (some ⟨b,o,none⟩) n c 353 2 (flat pr es')))->Q w'):B6 (sZ p) w Q:=by
 apply VL;apply ah;apply gT s rfl hi rfl;rw[aG,show((n:Int)-1)=((n-1:Nat):Int) by omega];exact⟨n,ati hij (n-1) (n-1) es w (Nat.le_refl _) (by omega) hn L6 inv L hi hj s h|>λk=>by grind⟩
def BB {k x:Int}{Q:World->Prop}(s:Sep F W w L)(hi:L[i]? =some (qz p a c es))(hn:es.length<4000000000000)
  (h:∀w' a' c' es',es'.Perm (es++[(k,x)])->Sep F W w' (L.set i (qz p a' c' es'))->Q w'):mP (sZ p) k x w Q:=by
 apply Sk;apply FA;have s0:=FD s hi;have hh:=Ws s hi;apply ah;apply lS s0 0 rfl;refine aO s0 λbx w1 s1=>?_;have src:=atj (size:=2) s1 (i:=0) rfl rfl (λu hu=>by simp at hu;rcases hu with rfl|rfl<;>rfl);refine ig ee s1 (i:=2) (bytes:=16) rfl rfl rfl rfl rfl rfl (by decide) rfl src (by simp[maxLen];omega) (by omega) (λe=>by cases e) λa' c' w2 s2=>?_;have s2:=ai s2;have e1:flat pr es++[ae k,ae x]=flat pr (es++[(k,x)]):=by rw[fX];rfl
 rw[e1]at s2;apply ah;refine ax s2 (i:=0) rfl rfl rfl λw3 s3=>?_;obtain⟨b,o,rfl⟩:=pY s3 (i:=1) rfl (by omega);have hl:(es++[(k,x)]).length=es.length+1:=by simp
 refine agJ (i:=0) (j:=1) (by decide) (by omega) hl (by omega) (by rw[show es.length+1-1=es.length by omega];exact aqJ hh) rfl rfl s3 λw4 es' q1 q2 s4=>?_;have hl':es'.length=es.length+1:=by rw[q2.length_eq,hl]
 refine h w4 (some ⟨b,o,none⟩) c' es' q2 (ab_ s hi ?_ q1);grind
def aej {Q:Int->World->Prop}(s:Sep F W w L)(hi:L[i]? =some (qz p a c es))(h:Q (es.length:Int) w):A8 (sZ p) w Q:=by apply Uy;refine FA (ah ?_);exact gT (FD s hi) (i:=0) rfl rfl rfl h
def aek {Q:Int->Int->Bool->World->Prop}(s:Sep F W w L)(hi:L[i]? =some (qz p a c es))(h0:es=[]->∀w',Sep F W w' L->Q 0 0 false w')(h1:0<es.length->∀w',Sep F W w' L->Q (g es 0).1 (g es 0).2 true w'):A7 (sZ p) w Q:=by
 apply Uz;apply aej s hi;by_cases he:es.length=0
 ·grind
 ·rw[show((es.length:Int)==0)=false by grind,cond_false];obtain⟨b,o,rfl⟩:=Wt s hi (by omega);have s0:=FD s hi;have s0:Sep (qz p (some ⟨b,o,none⟩) c es).fp w w.drew _:=s0;have g0:=Ex (es:=es) (i:=0) (by omega);apply ah;apply lS s0 0 rfl;refine⟨by omega,by omega,ah ?_⟩;refine eG iA s0 (i:=1) rfl g0 (ap4 ..) rfl (ah ?_);apply lS s0 0 rfl;refine⟨by omega,by omega,ah ?_⟩;apply eG iA s0 (i:=1) rfl g0 (d_ ..) rfl;refine⟨wK s0 (i:=1) rfl (j:=0*2+1) (d_ ..) (by rw[sO iA g0 (by decide)];rfl),cg s0 0 rfl,?_⟩;exact h1 (by omega) w.drew s
def acd {b o n j:Nat}{Q:World->Prop}(hij:i≠j)(hn:es.length=n)(L6:n<=4000000000000)(inv:KK es 0)(hi:L[i]? =some (av p 351 [.slice (some ⟨b,o,none⟩) n c]))(hj:L[j]? =some (ak (some ⟨b,o,none⟩) n c 353 2 (flat pr es)))(s:Sep F W w L)
  (h:∀w' es',zE es'->es'.Perm es->Sep F W w' (L.set j (ak (some ⟨b,o,none⟩) n c 353 2 (flat pr es')))->Q w'):Af (sZ p) w Q:=by
 apply Sm;by_cases h0:es.length=0
 ·have YL:=List.eq_nil_of_length_eq_zero h0;subst YL;obtain rfl:n=0:=by grind
  refine⟨1,?_⟩;show xm Q (oC Q 0) _ _ _;refine⟨1,?_⟩;show mz _ Q (mA _ Q 0) _ _ _ _ _;rw[mz,show decide (IntKind.wrap .i64 (IntKind.wrap .i64 (2*0)+1)<=IntKind.wrap .i64 (IntKind.wrap .i64 (2*0)+2))=true by decide,cond_true];apply ah;apply gT s rfl hi rfl;unfold oB;apply h w [] (λj h1 h2=>by simp at h2) (.refl _);rw[rI hj];exact s
 ·exact⟨es.length+1,aoD hij es.length 0 es w (by omega) (by omega) hn L6 inv L hi hj s h⟩
def C8 {Q:Int->Int->Bool->World->Prop}(s:Sep F W w L)(hi:L[i]? =some (qz p a c es))(L6:es.length<=4000000000000)(h0:es=[]->∀w',Sep F W w' L->Q 0 0 false w')
  (h1:0<es.length->∀w' a' c' es',(g es 0::es').Perm es->Sep F W w' (L.set i (qz p a' c' es'))->Q (g es 0).1 (g es 0).2 true w'):jE (sZ p) w Q:=by
 apply UA;refine aek s hi (λhe w1 s1=>?_) λhpos w1 s=>?_
 ·unfold yA;grind
 ·rw[cond_true];obtain⟨b,o,rfl⟩:=Wt s hi hpos;have hh:=Ws s hi;have hcap:=aqM s hi;have s0:=FD s hi;have s1:Sep (qz p (some ⟨b,o,none⟩) c es).fp w1 w1.drew _:=s0;have e1:IntKind.wrap .i64 ((es.length:Int)-1)=((es.length-1:Nat):Int):=by rw[aG];omega
  have gl:=Ex (es:=es) (i:=es.length-1) (by omega);have g0:=Ex hpos;apply ah;refine lS s0 0 rfl (ah ?_);refine lS s1 0 rfl (ah ?_);apply lS s1 0 rfl;rw[e1];refine⟨by omega,by omega,ah ?_⟩;apply eG iA s1 (i:=1) rfl gl (d_ ..) rfl;apply eG iA s1 (i:=1) rfl gl (d_ ..) rfl;refine⟨by omega,by omega,ah ?_⟩;refine dQ iA (x':=((g es (es.length-1)).1,(g es 0).2)) s1 (i:=1) rfl g0 (d_ ..) (by decide) rfl rfl λw3 s3=>?_;refine dQ iA (k:=0) (x:=((g es (es.length-1)).1,(g es 0).2)) (x':=g es (es.length-1)) s3 (i:=1) rfl (by grind) (d_ ..) (by decide) rfl rfl λw4 s4=>?_;simp[List.set_cons_zero,List.set_cons_succ,gY]at s4;apply ah;apply lS s4 0 rfl;refine Pc rfl (by omega) (ah ?_);refine sT s4 0 rfl λw5 s5=>?_;have s6:=To s5 (i:=1) rfl (m:=es.length-1) (by omega);rw[U4 iA]at s6;have hl:((es.set 0 (g es (es.length-1))).take (es.length-1)).length=es.length-1:=by simp
  refine acd (i:=0) (j:=1) (by decide) hl (by omega) (ath hh hpos) rfl rfl s6 λw7 es' k1 k2 s7=>?_;have hl':es'.length=es.length-1:=by rw[k2.length_eq,hl]
  refine h1 hpos w7 (some ⟨b,o,none⟩) c es' ((List.Perm.cons _ k2).trans (aqK hpos)) (ab_ s hi ?_ k1);grind
end
end Go.Proofs.YtmegplnmiepfbaaGreatDoor.S.Hp
namespace Go.Proofs.YtmegplnmiepfbaaGreatDoor.S
open Go.Sx
section
variable {α:Type}{S:α->Int->Prop}{E:α->α->Int->Prop}{f:α->Int}{Q Q':List (Int×α)}
structure TF (S:α->Int->Prop) (E:α->α->Int->Prop) (cap:Int) (f:α->Int) (Q:List (Int×α)) (P:α->α->Int->Prop):Prop where
 ways:∀x,f x<cap->Wy S E x (f x)
 top:∀x,f x<=cap
 key:∀e∈Q,f e.2<=e.1
 wT:∀x n c,E x n c->f n<cap->(f n,n)∈Q\/f x<=f n+c\/cap<=f n+c\/P x n c
variable {cap:Int}{P P':α->α->Int->Prop}
def TF.agY [DecidableEq α]{f':α->Int}{y:α}{k:Int}(h:TF S E cap f Q P)(hk:k<f y)(hw:Wy S E y k)(hf:∀x,f' x=if x=y then k else f x)(hq:∀e,e∈Q'↔e∈Q\/e=(k,y))(hP:∀x n c,P x n c->x=y->(∃d,f n=d/\k<=d+c)\/P' x n c)(hP':∀x n c,P x n c->x≠y->P' x n c)(hy:∀x c,P x y c->False):TF S E cap f' Q' P' where
 ways x hx:=by
  rw[hf]at hx⊢;split
  ·grind
  ·rename_i e;rw[if_neg e]at hx;exact h.ways x hx
 top x:=by
  rw[hf];have:=h.top y;split
  ·omega
  ·exact h.top x
 key e he:=by
  rcases(hq e).1 he with h1|rfl
  ·have:=h.key e h1;grind
  grind
 wT x n c e hn:=by
  by_cases en:n=y
  ·grind
  ·have efn:f' n=f n:=by grind
   rw[efn]at hn⊢;rcases h.wT x n c e hn with h1|h1|h1|h1
   all_goals grind
def TF.weaken (h:TF S E cap f Q P)(hP:∀x n c,P x n c->E x n c->f n<cap->f x<=f n+c\/cap<=f n+c\/P' x n c):TF S E cap f Q P' where
 ways:=h.ways
 top:=h.top
 key:=h.key
 wT x n c e hn:=by
  rcases h.wT x n c e hn with h1|h1|h1|h1
  all_goals grind
def TF.pop {k:Int}{y:α}(h:TF S E cap f Q λ_ _ _=>False)(hq:∀e,e∈Q↔e∈Q'\/e=(k,y)):TF S E cap f Q' λx n c=>n=y/\f y=k/\E x n c where
 ways:=h.ways
 top:=h.top
 key e he:=h.key e ((hq e).2 (.inl he))
 wT x n c e hn:=by
  rcases h.wT x n c e hn with h1|h1|h1|h1
  all_goals grind
def TF.lci (h:TF S E cap f Q λ_ _ _=>False)(hs:∀x k,S x k->f x<=k\/cap<=k):LcI S E cap f Q:=⟨h.ways,h.top,hs,λx n c e hn=>by
 rcases h.wT x n c e hn with h1|h1|h1|h1
 all_goals grind⟩
end
def E2 (ds:List Int):Nat:=(ds.map Int.toNat).sum
def aam {k:Int}:∀{ds:List Int} {i:Nat},i<ds.length->E2 (ds.set i k)+(gi ds i).toNat=E2 ds+k.toNat
 |[],i,h=>by simp at h
 |d::ds,0,h=>by show(k.toNat+(ds.map Int.toNat).sum)+d.toNat=(d.toNat+(ds.map Int.toNat).sum)+k.toNat;omega
 |d::ds,i+1,h=>by have ih:=aam (k:=k) (by simpa using h);have ih:E2 (ds.set i k)+(gi (d::ds) (i+1)).toNat=E2 ds+k.toNat:=ih;show(d.toNat+E2 (ds.set i k))+(gi (d::ds) (i+1)).toNat=(d.toNat+E2 ds)+k.toNat;omega
def aiH (k:Int):∀n:Nat,E2 (List.replicate n k)=n*k.toNat
 |0=>by simp[E2]
 |n+1=>by have ih:=aiH k n;show k.toNat+E2 (List.replicate n k)=_;grind
def AV:Int:=2147483647
def fC (ds:List Int)(x:Int):Int:=if 0<=x/\x<ds.length then gi ds x.toNat else AV
def aiI {ds:List Int}{x k:Int}(hx:0<=x/\x<ds.length)(y:Int):fC (ds.set x.toNat k) y=if y=x then k else fC ds y:=by
 unfold fC;rw[List.length_set];by_cases hy:0<=y/\y<ds.length
 ·rw[if_pos hy,if_pos hy,aaW (by omega)];omega
 grind
def avc {ds:List Int}{x:Int}(hx:0<=x/\x<ds.length)(hd:∀y∈ds,y<=AV):atF ds x=if fC ds x<AV then fC ds x else bR:=by
 unfold atF fC;rw[if_pos hx,if_pos hx];have:=hd _ (ff (i:=x.toNat) (by omega));by_cases h:gi ds x.toNat=2147483647
 ·rw[if_pos h,if_neg (by unfold AV;omega)]
 ·rw[if_neg h,if_pos (by unfold AV at*;omega)]
section
variable {m:bJ}{t:Int}
def fM (dm:List (Int×Int))(c:Int):Int:=(fy dm c).getD bR
def unM (m:bJ)(dm:List (Int×Int)):Nat:=(jV m).countP λc=>decide (fM dm c=bR)
def Bg (m:bJ)(t:Int):Int->Int->Int->Prop:=tO (fJ m) (cT m) (cT m t)
structure YM (m:bJ) (t:Int) (dm:List (Int×Int)) (es:List (Int×Int)):Prop where
 dj:Pg (gh m t) (Bg m t) (fM dm) es
 Ec:∀e∈es,eV m e.2=true/\cT m e.2=cT m t/\0<=e.1
 top:∀e∈es,e.1+254*(unM m dm:Int)<=254*((jV m).length:Int)
 nd:oS dm
 lt:∀c d,fy dm c=some d->0<=d/\d<1000000000
 nS:es.length+4*unM m dm<=1+4*(jV m).length
def Je (m:bJ)(t x key s:Int):List (Int×Int):=if 0<=aX m.w m.h x s/\aC m.w m.h (aX m.w m.h x s)=aC m.w m.h t/\cA m (aX m.w m.h x s)≠255 then[(key,aX m.w m.h x s)]else[]
def Ey (m:bJ)(t x key:Int)(j:Nat):List (Int×Int):=(List.range j).flatMap λs:Nat=>Je m t x key s
def SZ (x key:Int)(j:Nat):Ey m t x key (j+1)=Ey m t x key j++Je m t x key j:=by unfold Ey;rw[List.range_succ,List.flatMap_append];simp
def al3 (x key s:Int):(Je m t x key s).length<=1:=by unfold Je;grind
def Wu (x key:Int):∀j:Nat,(Ey m t x key j).length<=j
 |0=>by simp[Ey]
 |j+1=>by have:=Wu x key j;have:=al3 (m:=m) (t:=t) x key j;rw[SZ,List.length_append];omega
def afu {x key:Int}{e:Int×Int}:e∈Ey m t x key 4↔∃s:Int,(0<=s/\s<=3)/\(0<=aX m.w m.h x s/\aC m.w m.h (aX m.w m.h x s)=aC m.w m.h t/\cA m (aX m.w m.h x s)≠255)/\e=(key,aX m.w m.h x s):=by
 rw[Ey,List.mem_flatMap];constructor
 ·rintro ⟨s,h1,h2⟩;have h1:=List.mem_range.1 h1;unfold Je at h2;grind
 ·rintro ⟨s,h1,h2,rfl⟩;refine⟨s.toNat,List.mem_range.2 (by omega),?_⟩;unfold Je;grind
variable {dm J0:List (Int×Int)}{es es':List (Int×Int)}{k x:Int}
def aj7:∀x n c,Bg m t x n c->0<=c:=λx n c h=>cU _ _ _ h.1
def YM.skip (h:YM m t dm es)(hp:((k,x)::es').Perm es)(hx:fy dm x≠none):YM m t dm es':=by
 have hm:∀e∈es',e∈es:=λe he=>hp.mem_iff.1 (by simp[he]);refine⟨h.dj.skip (k:=k) (x:=x) ?_ hm (λe he=>?_),λe he=>h.Ec e (hm e he),λe he=>h.top e (hm e he),h.nd,h.lt,?_⟩
 ·cases ha:fy dm x with
  |none=>grind
  |some d=>
   have:=h.lt x d ha;rw[fM,ha];show d<bR;unfold bR;omega
 ·grind
 ·have h1:=hp.length_eq;have h2:=h.nS;grind
def YM.step (hm:cI m)(h:YM m t dm es)(hp:((k,x)::es').Perm es)(hmin:∀e∈es,k<=e.1)(hx:fy dm x=none)(hnd:oS J0)(hd:∀y,fy J0 y=if y=x then some k else fy dm y){Ra:List (Int×Int)}(hp2:Ra.Perm (es'++Ey m t x (k+cA m x) 4)):
  YM m t J0 Ra/\Ra.length+5*unM m J0+1<=es.length+5*unM m dm:=by
 have hin:(k,x)∈es:=hp.mem_iff.1 (by simp);obtain⟨I_,hsx,F0⟩:=h.Ec _ hin;have Z3:=h.top _ hin;simp only at I_ hsx F0 Z3;have hxc:=jT hm I_;have hcx:=xD I_;have hfx:fM dm x=bR:=by unfold fM;rw[hx];rfl
 have hN:((jV m).length:Int)=m.w*m.h:=by rw[<-hm.len];simp[jV]
 have hN2:=mY ⟨hm.w,hm.h⟩;have Z4:∀y,fM J0 y=if y=x then k else fM dm y:=λy=>by unfold fM;grind
 have hkI:k<bR:=by unfold bR;omega
 have hun:unM m J0+1<=unM m dm:=by
  refine RF (zB hm hxc) (by grind) ?_ λy hy=>?_
  all_goals grind
 have D9:∀e,e∈Ra↔e∈es'\/e∈Ey m t x (k+cA m x) 4:=λe=>by grind
 have told:∀e∈Ey m t x (k+cA m x) 4,eV m e.2=true/\cT m e.2=cT m t/\e.1=k+cA m x/\Bg m t e.2 x (cA m x):=λe he=>by obtain⟨s,hs,⟨h1,h2,h3⟩,rfl⟩:=afu.1 he;have hc:=(xN h1).2;have ho:=(Cp hm hc).2 h3;obtain⟨s',hs',hb⟩:=I8 hs h1;exact⟨ho,h2,rfl,⟨ho,I_,⟨s',hs',hb⟩,rfl⟩,h2,hsx⟩
 have YL:∀e∈es',e∈es:=λe he=>hp.mem_iff.1 (by simp[he]);have hl1:=hp.length_eq;have hl2:=hp2.length_eq;have hl3:=Wu (m:=m) (t:=t) x (k+cA m x) 4;have oZ:=h.nS;simp[List.length_cons]at hl1;rw[List.length_append]at hl2;refine⟨⟨?_,?_,?_,hnd,?_,by omega⟩,by omega⟩
 ·refine h.dj.step aj7 (by grind) hkI hin hmin (by grind) (λy hy=>by grind) (λe he=>?_) (λe he=>?_) λy c hy=>?_
  ·grind
  ·grind
  ·obtain⟨⟨h1,h2,⟨s,hs,h3⟩,rfl⟩,h4,h5⟩:=hy;refine .inr ⟨k+cA m x,Int.le_refl _,(D9 _).2 (.inr (afu.2 ?_))⟩;obtain⟨s',hs',hb⟩:=I8 hs (by rw[h3];exact hxc.2.1);rw[h3]at hb;have J4:=jT hm h1;exact⟨s',hs',by rw[hb];exact⟨J4.2.1,h4,(Cp hm J4).1 h1⟩,by rw[hb]⟩
 ·intro e he;rcases(D9 e).1 he with h1|h1
  ·exact h.Ec e (YL e h1)
  ·have:=told e h1;exact⟨this.1,this.2.1,by rw[this.2.2.1];omega⟩
 ·intro e he;rcases(D9 e).1 he with h1|h1
  ·have:=h.top e (YL e h1);omega
  ·have:=(told e h1).2.2.1;omega
 ·intro c d hcd;rw[hd]at hcd;split at hcd
  ·cases hcd;omega
  ·exact h.lt c d hcd
def aoE (hm:cI m)(ho:eV m t=true):YM m t [] [(0,t)]:=by
 have hf:∀x,fM [] x=bR:=λx=>rfl;have hu:unM m []=(jV m).length:=by unfold unM;simp_all
 refine⟨⟨?_,?_,λx _=>hf x,?_,?_,?_⟩,?_,?_,akQ,?_,by rw[hu];simp⟩
 ·intro e he;rw[List.mem_singleton]at he;subst he;exact .src ⟨rfl,ho,rfl⟩
 ·grind
 ·rintro x k ⟨rfl,_,rfl⟩;grind
 ·grind
 ·grind
 ·grind
 ·grind
 ·intro c d h;cases h
def aiJ (m:bJ)(t:Int)(dm:List (Int×Int)):Prop:=∀c,fy dm c=(if gz (gh m t) (Bg m t) c<bR then some (gz (gh m t) (Bg m t) c)else none)/\(gz (gh m t) (Bg m t) c<bR->0<=gz (gh m t) (Bg m t) c/\gz (gh m t) (Bg m t) c<1000000000)
def YM.done (h:YM m t dm []):aiJ m t dm:=λc=>by
 have h1:=h.dj.done c;unfold fM at h1;cases ha:fy dm c with
 |none=>
  grind
 |some d=>
  have h2:=h.lt c d ha;rw[ha]at h1;have h1:gz (gh m t) (Bg m t) c=d:=h1;rw[h1];exact⟨by rw[if_pos (by unfold bR;omega)],λ_=>h2⟩
def aoF (ho:¬eV m t=true):aiJ m t []:=λc=>by
 have:gz (gh m t) (Bg m t) c=bR:=xO λd hd=>by
  induction hd with
  |src h=>exact ho h.2.1
  |go _ _ ih=>exact ih
 rw[this];exact⟨by rw[if_neg (Int.lt_irrefl bR)];rfl,λh=>(Int.lt_irrefl bR h).elim⟩
end
end Go.Proofs.YtmegplnmiepfbaaGreatDoor.S
namespace Go.Proofs.YtmegplnmiepfbaaGreatDoor.S
open Go.Sx
attribute [local irreducible] af cE bw bg aA cu bY St Bx Al App cJ cB cz bW aL bD aq bT av ak aW mapA
def al4:P.underlying 207=some (.map 3 3):=by kernel_rfl
def acf (w:World):(zeroValue 3).run P w=.ok (ae 0) w:=Lr.ar6 w
def vI (n:Int):Value:=ae n
def akT {w h c:Int}(hc:bF w h c):iF c:=by have:=IS hc;unfold iF;omega
section
variable {F:Nat->Prop}{W w w0:World}{L:List As}{fp hp mb hc:Nat}{ha:Option Addr}{gr:uB}{g:iw}{t:Int}{dm:List (Int×Int)}{es:List (Int×Int)}{vs:List Value}
noncomputable abbrev wiL (hp:Nat)(ha:Option Addr)(hc mb:Nat)(dm es:List (Int×Int)):List As:=[Hp.qz hp ha hc es,fO fq vI mb dm]
def aiK {P8:Option Addr->Int->Int->Int->Option Nat->Option Addr->Int->Int->Bool->World->Prop}{Q:Option Nat->World->Prop}{x k:Int}{v0:Value}(hK:rV w0 fp (v0::.pointer (sZ gr.p)::vs))(kg:nB w0 gr g)(hx:eV g.m x=true)(hk:0<=k/\k<10000000000)
  {YN:List (Int×Int)}(YL:YN.length<100000000)
  (h:∀es' Ed Bj w',es'.Perm (YN++Ey g.m t x (k+cA g.m x) 4)->Sep No w0 w' (wiL hp Ed Bj mb dm es')->m7 P8 Q (sZ fp) t g.m.w g.m.h (some mb) (sZ hp) w'):
  ∀(n s:Nat) (es:List (Int×Int)) (ha:Option Addr) (hc:Nat) (w:World),s+n=4->es.Perm (YN++Ey g.m t x (k+cA g.m x) s)->Sep No w0 w (wiL hp ha hc mb dm es)->iJ P8 Q (n+1) (sZ fp) t g.m.w g.m.h (some mb) (sZ hp) k x s w:=by
 intro n;induction n with
 |zero=>
  intro s es ha hc w hs hp' sp;show mB P8 Q (iJ P8 Q 0) _ _ _ _ _ _ _ _ _ _;unfold mB;grind
 |succ n ih=>
  intro s es ha hc w hs hp' sp;show mB P8 Q (iJ P8 Q (n+1)) _ _ _ _ _ _ _ _ _ _;rw[mB,bM,aG];have skip:∀(w:World),Sep No w0 w (wiL hp ha hc mb dm es)->¬(0<=aX g.m.w g.m.h x s/\aC g.m.w g.m.h (aX g.m.w g.m.h x s)=aC g.m.w g.m.h t/\cA g.m (aX g.m.w g.m.h x s)≠255)->
    iJ P8 Q (n+1) (sZ fp) t g.m.w g.m.h (some mb) (sZ hp) k x ((s:Int)+1) w:=λw sp hno=>by
   refine ih (s+1) es ha hc w (by omega) ?_ sp;rw[SZ];unfold Je;grind
  refine jt sp λw sp _=>?_;by_cases h0:aX g.m.w g.m.h x s<0
  ·grind
  rw[bq h0];refine eZ sp λw sp _=>eZ sp λw sp _=>?_;by_cases h1:aC g.m.w g.m.h (aX g.m.w g.m.h x s)=aC g.m.w g.m.h t
  ·rw[show(aC g.m.w g.m.h (aX g.m.w g.m.h x s) !=aC g.m.w g.m.h t)=false by grind,cond_false];refine ah (dJ ((hK.fr (au sp)) 1 _ rfl) (jm (kg.fr (au sp)) ?_));by_cases h2:cA g.m (aX g.m.w g.m.h x s)=255
   ·grind
   rw[cy h2,cond_false];refine ah (dJ ((hK.fr (au sp)) 1 _ rfl) (jm (kg.fr (au sp)) ?_));have hcx:=xD hx;rw[aG];have hl:=hp'.length_eq;have htl:=Wu (m:=g.m) (t:=t) x (k+cA g.m x) s;rw[List.length_append]at hl;refine Hp.BB sp (i:=0) rfl (by omega) λw ha hc Ra hp2 sp=>?_;refine ih (s+1) Ra ha hc w (by omega) ?_ sp;rw[SZ];unfold Je;grind
  grind
def aqN (s:Sep F W w (Hp.qz hp ha hc es::L)){e0:Int×Int}{es':List (Int×Int)}(hp':(Hp.g es 0::es').Perm es):∀e∈es,(Hp.g es 0).1<=e.1:=λe he=>by have:=Hp.aei (Hp.Ws s (i:=0) rfl) he;rw[Hp.Xp]at this;omega
def aj8 {Q:Option Nat->World->Prop}{v0:Value}(hK:rV w0 fp (v0::.pointer (sZ gr.p)::vs))(kg:nB w0 gr g)
  (h:∀ha hc dm w',oS dm->aiJ g.m t dm->Sep No w0 w' (wiL hp ha hc mb dm [])->Q (some mb) w'):
  ∀(f:Nat) (es:List (Int×Int)) (dm:List (Int×Int)) (ha:Option Addr) (hc:Nat) (w:World),es.length+5*unM g.m dm<=f->YM g.m t dm es->Sep No w0 w (wiL hp ha hc mb dm es)->
   m7 (jc Q (f+1)) Q (sZ fp) t g.m.w g.m.h (some mb) (sZ hp) w:=by
 have hm:=kg.ok.may;have hN:(jV g.m).length<=1048576:=by
  have:=mY ⟨hm.w,hm.h⟩;have e:((jV g.m).length:Int)=g.m.w*g.m.h:=by rw[<-hm.len];simp[jV]
  omega
 intro f;induction f with
 |zero=>
  intro es dm ha hc w hf I s;have oZ:=I.nS;obtain rfl:es=[]:=List.eq_nil_of_length_eq_zero (by omega);refine Hp.C8 s (i:=0) rfl (by simp) (λ_ w s=>?_) λh0=>by simp at h0
  show jb Q (jc Q 0) _ _ _ _ _ _ _ _ _ _;unfold jb;exact h ha hc dm w I.nd I.done s
 |succ f ih=>
  intro es dm ha hc w hf I s;have oZ:=I.nS;refine Hp.C8 s (i:=0) rfl (by omega) (λe w s=>?_) λh0 w Ed Bj es' hp' sN=>?_
  ·subst e;show jb Q (jc Q (f+1)) _ _ _ _ _ _ _ _ _ _;unfold jb;exact h ha hc dm w I.nd I.done s
  ·have hmin:=aqN (e0:=(0,0)) s hp';have s:=sN;generalize hge:Hp.g es 0=e0 at hp' hmin⊢;obtain⟨k,x⟩:=e0;have hin:(k,x)∈es:=hp'.mem_iff.1 (by simp);obtain⟨I_,hsx,F0⟩:=I.Ec _ hin;have Z3:=I.top _ hin;show jb Q (jc Q (f+1)) _ _ _ _ _ _ _ _ _ _;unfold jb;have hxI:=akT (jT hm I_);have hlen:=hp'.length_eq;simp[List.length_cons]at hlen;refine Ew (K:=fq) al4 (acf w) s (i:=1) rfl I.nd hxI (λhx=>?_) λd hx=>?_
   ·refine L5 al4 s (i:=1) rfl I.nd hxI λJ0 w' hnd hd _ s=>?_;refine⟨5,aiK (YN:=es') hK kg I_ ⟨F0,by omega⟩ (by omega) (λRa TG U7 w2 hp2 s2=>?_) 4 0 es' Ed Bj w' rfl (by show es'.Perm (es'++[]);grind) s⟩;obtain⟨I2,hM⟩:=I.step hm hp' hmin hx hnd hd hp2;grind
   ·exact ih es' dm Ed Bj w (by omega) (I.skip hp' (by grind)) s
def aiL {Q:Option Nat->World->Prop}{v0:Value}(s0:Sep F W w L)(hK:rV w fp (v0::.pointer (sZ gr.p)::vs))(kg:nB w gr g)(ht:bF g.m.w g.m.h t)
  (h:∀mb dm w',oS dm->aiJ g.m t dm->Sep F W w' (fO fq vI mb dm::L)->Fr No w w'->Q (some mb) w'):t_ (sZ fp) t w Q:=by
 apply Kj;have hm:=kg.ok.may;refine ah (dJ (hK 1 _ rfl) ?_);refine jn (bh (F:=No)) kg λw1 s _=>?_;refine aaj s _ fq vI λmb w1 s=>?_;refine ah (dJ ((hK.fr (au s)) 1 _ rfl) (jm (kg.fr (au s)) ?_));have hop:=Cp hm ht;by_cases hw:cA g.m t=255
 ·rw[dN hw,cond_true];exact h mb [] w1 akQ (aoF λe=>(hop.1 e) hw) (dA s0 s (i:=0) rfl) (au s)
 rw[cy hw,cond_false];have ho:=hop.2 hw;refine Hp.Q_ s λhp w1 s=>?_;refine Hp.BB s (i:=0) rfl (by simp) λw1 ha hc es hp' s=>?_;have e1:es=[(0,t)]:=by simp_all
 subst e1;have I:=aoE hm ho;have:=aj8 hK kg (λha hc dm w' hnd hin s=>h mb dm w' hnd hin (dA s0 s (i:=1) rfl) (au s)) _ [(0,t)] [] ha hc w1 (Nat.le_refl _) I s;refine He (λa b c w q=>⟨_,q⟩) this
end
def L8:∀l:List Int,flat oY l=l.map λx=>Value.int .i32 x
 |[]=>rfl
 |x::l=>by have:=L8 l;simp[flat,List.flatMap_cons,List.map_cons]at this⊢;rw[this];rfl
def aan (x:Int)(u:Value)(h:u∈oY x):u.oneCell'=true:=by simp[oY,List.mem_singleton]at h;rw[h];rfl
def al5 {v z:Int}{n k N:Nat}(hk:k<=n)(hN:n+k<=N):
  (flat oY (List.replicate n v++List.replicate (N-n) z)).take (n*1)++(flat oY ((List.replicate n v++List.replicate (N-n) z).take n)).take (k*1)++(flat oY (List.replicate n v++List.replicate (N-n) z)).drop ((n+k)*1)=flat oY (List.replicate (n+k) v++List.replicate (N-(n+k)) z):=by
 simp only[L8,Nat.mul_one];rw[<-List.map_take,<-List.map_take,<-List.map_drop,<-List.map_append,<-List.map_append];congr 1;rw[List.take_left' (by simp),List.take_replicate,Nat.min_eq_left hk,List.replicate_append_replicate,<-List.drop_drop,List.drop_left' (by simp),List.drop_replicate,Nat.sub_sub]
section
variable {F:Nat->Prop}{W w w0:World}{L:List As}{xa:Option Addr}{xc:Nat}{v:Int}
def agK {Q:Option Addr->Nat->Nat->World->Prop}{b N:Nat}(hN:N<=1048576)(h:∀w',Sep No w0 w' (ak (sZ b) N N 21 1 (flat oY (List.replicate N v))::L)->Q (sZ b) N N w'):
  ∀(m n:Nat) (w:World),N<=n+m->1<=n->n<=N->Sep No w0 w (ak (sZ b) N N 21 1 (flat oY (List.replicate n v++List.replicate (N-n) 0))::L)->jC Q (m+1) (sZ b) N N n w:=by
 have done:∀(R:Option Addr->Nat->Nat->Int->World->Prop) (w:World),Sep No w0 w (ak (sZ b) N N 21 1 (flat oY (List.replicate N v++List.replicate (N-N) 0))::L)->jB Q R (sZ b) N N N w:=λR w s=>by unfold jB;grind
 intro m;induction m with
 |zero=>
  intro n w hm h1 h2 s;have:n=N:=by omega
  subst this;exact done _ _ s
 |succ m ih=>
  intro n w hm h1 h2 s;show jB Q (jC Q (m+1)) _ _ _ _ _;by_cases hn:n=N
  ·grind
  ·rw[jB,bM];apply Pd rfl h2;rw[fR];apply Pc rfl h2;have s:=ay s;have hT:=(aN s (i:=0) rfl vv (by decide)).top h2;refine ED (p:=n) ee s rfl rfl rfl rfl (by decide) (i:=0) rfl (hT.src (e:=21) vv aan) (by omega) (by simp[Addr.add];omega) λw s=>?_;rw[al5 (Nat.min_le_left _ _) (by omega)]at s;have e:IntKind.wrap .i64 ((n:Int)+((min n (N-n):Nat):Int))=((n+min n (N-n):Nat):Int):=by rw[aG];omega
   grind
def ael {N:Nat}{Q:Option Addr->Nat->Nat->World->Prop}(s0:Sep F W w L)(hA:Sl w xa 1 xc 1 oY [v])(hN:1<=N/\N<=1048576)
  (h:∀ra w',Sep F W w' (ak ra N N 21 1 (flat oY (List.replicate N v))::L)->Fr No w w'->Q ra N N w'):oX xa 1 xc N w Q:=by
 apply FM;rw[bq,ko (by decide),ko (by omega)];apply C5 (by decide) (by omega) (by omega);have e1:((1:Nat):Int)*N=N:=by omega
 rw[e1,bq (by decide),bq,aG];refine xL (bytes:=4) ee (bh (F:=No)) rfl rfl rfl rfl rfl rfl (by decide) vv rfl (λu hu=>aan 0 u hu) rfl rfl (Nat.le_refl _) (by omega) (by simp[maxLen];omega) λb w' s=>?_;refine ED (p:=0) ee s rfl rfl rfl rfl (by decide) (i:=0) rfl ((hA.fr (au s)).src (e:=21) vv aan) (by omega) rfl λw' s=>?_;have hm:min 1 N=1:=by omega
 rw[hm]at s⊢;have e2:(flat oY (List.replicate N 0)).take (0*1)++(flat oY [v]).take (1*1)++(flat oY (List.replicate N 0)).drop ((0+1)*1)=flat oY (List.replicate 1 v++List.replicate (N-1) 0):=by simp only[L8,Nat.zero_mul,List.take_zero,List.nil_append,Nat.mul_one,Nat.zero_add];rw[<-List.map_take,<-List.map_drop,<-List.map_append,List.drop_replicate];rfl
 rw[e2]at s;exact⟨N+1,agK hN.2 (λw' s=>h _ _ (dA s0 s (i:=0) rfl) (au s)) N 1 w' (by omega) (by omega) hN.1 s⟩
end
def SN (m:bJ)(t:Int):Int->Int->Prop:=K3 (gh m t) (fJ m) (cT m) (oe m) t
def EN (m:bJ):Int->Int->Int->Prop:=Jn (fJ m) (cT m) (oe m)
structure Rb (m:bJ) (t:Int) (M:Nat) (es:List (Int×Int)) (ds:List Int) (P:Int->Int->Int->Prop):Prop where
 lc:TF (SN m t) (EN m) AV (fC ds) es P
 len:(ds.length:Int)=m.w*m.h
 jA:aij ds
 nod:∀e∈es,oe m e.2/\bF m.w m.h e.2/\0<=e.1/\e.1<AV
 nS:es.length+E2 ds<=M
section
variable {m:bJ}{t:Int}{M:Nat}{es es':List (Int×Int)}{ds:List Int}{P P':Int->Int->Int->Prop}{y k:Int}
def S0 (hy:0<=y/\y<ds.length):fC ds y=gi ds y.toNat:=if_pos hy
def Rb.agY (h:Rb m t M es ds P)(hy:oe m y)(J4:bF m.w m.h y)(hk:0<=k/\k<gi ds y.toNat)(hw:Wy (SN m t) (EN m) y k)(hp:es'.Perm (es++[(k,y)]))(hP:∀x n c,P x n c->x=y->(∃d,fC ds n=d/\k<=d+c)\/P' x n c)(hP':∀x n c,P x n c->x≠y->P' x n c)(hn:∀x c,P x y c->False):
  Rb m t M es' (ds.set y.toNat k) P':=by
 have Ty:0<=y/\y<ds.length:=by rw[h.len];exact J4.2
 have hfy:=S0 Ty;have hr:=h.jA _ (ff (i:=y.toNat) (by omega));have hq:∀e,e∈es'↔e∈es\/e=(k,y):=λe=>by grind
 refine⟨h.lc.agY (by grind) hw (aiI Ty) hq hP hP' hn,by rw[List.length_set];exact h.len,λx hx=>?_,λe he=>?_,?_⟩
 ·rcases List.mem_or_eq_of_mem_set hx with hx|rfl
  ·exact h.jA x hx
  ·omega
 ·rcases(hq e).1 he with he|rfl
  ·exact h.nod e he
  ·exact⟨hy,J4,hk.1,by unfold AV;omega⟩
 ·have h1:=hp.length_eq;have h2:=aam (k:=k) (ds:=ds) (i:=y.toNat) (by omega);have h3:=h.nS;grind
def aoI:∀x k,SN m t x k->0<=k:=λx k h=>by obtain⟨_,_,⟨d,hd⟩,rfl⟩:=h;exact mO jU (λx n c h=>cU _ _ _ h.1) (og jU (λx n c h=>cU _ _ _ h.1) hd).1
def afv:∀x n c,EN m x n c->0<=c:=λx n c h=>by
 obtain⟨_,hn2,⟨h1,_,⟨d,hd⟩,rfl⟩|⟨_,h1⟩⟩:=h
 ·exact mO (λx k h=>by rw[h.2];grind) (λx n c h=>cU _ _ _ h.1) (og (λx k h=>by rw[h.2];grind) (λx n c h=>cU _ _ _ h.1) hd).1
 ·exact cU _ _ _ h1
def HZ (m:bJ)(t:Int)(ds:List Int):Prop:=(ds.length:Int)=m.w*m.h/\∀x,oe m x->bF m.w m.h x->atF ds x=D m t x
def Rb.done (hm:cI m)(h:Rb m t M [] ds λ_ _ _=>False)(hs:∀x k,SN m t x k->fC ds x<=k\/AV<=k):HZ m t ds:=by
 refine⟨h.len,λx hx hc=>?_⟩;have hxr:0<=x/\x<ds.length:=by rw[h.len];exact hc.2
 rw[avc hxr λy hy=>(h.jA y hy).2,<-auy hm hx];have hB:∀d,Wy (SN m t) (EN m) x d->gz (SN m t) (EN m) x<AV:=λd hd=>by have h1:gz (SN m t) (EN m) x=D m t x:=auy hm hx;have h2:=aqg hm (Nn Fx cU (rE hm) hd);unfold AV;omega
 exact(LcI.done (h.lc.lci hs) aoI afv hB (by decide)).symm
def aoJ (hm:cI m):Rb m t ((m.w*m.h).toNat*2147483647) [] (List.replicate (m.w*m.h).toNat AV) λ_ _ _=>False:=by
 have hN:=mY ⟨hm.w,hm.h⟩;have hf:∀x,fC (List.replicate (m.w*m.h).toNat AV) x=AV:=λx=>by
  unfold fC;split
  ·rename_i h;unfold gi;grind
  ·rfl
 refine⟨⟨λx hx=>?_,λx=>?_,λe he=>by simp at he,λx n c _ hn=>?_⟩,by grind,λx hx=>?_,λe he=>by simp at he,?_⟩
 ·grind
 ·grind
 ·grind
 ·rw[List.mem_replicate]at hx;rw[hx.2];unfold AV;omega
 ·rw[aiH];show 0+_<=_;rw[Nat.zero_add];exact Nat.le_refl _
end
section
variable {F:Nat->Prop}{W w w0:World}{L:List As}{fp hp mb hc M:Nat}{ha:Option Addr}{rr:xC}{r:Bz}{x:nD}{gr:uB}{g:iw}{t:Int}{dm es:List (Int×Int)}{ds:List Int}{vs:List Value}
abbrev seL (hp:Nat)(ha:Option Addr)(hc:Nat)(es:List (Int×Int))(rr:xC)(t ep:Int)(ds:List Int):List As:=[D_ rr ⟨t,ep,ds⟩,Hp.qz hp ha hc es]
def aiO {Q:Option Addr->World->Prop}{tB:Option Addr->Addr->Option Addr->Int->Int->Bool->World->Prop}{k node:Int}(hm:cI g.m)(hk:0<=k/\k<AV)(hn:oe g.m node)(hnc:bF g.m.w g.m.h node)(hM:M<4000000000000)
  (h:∀Ed Bj es' ds' w',Rb g.m t M es' ds' (λ_ _ _=>False)->(∀x,fC ds' x<=fC ds x)->es'.length+E2 ds'<=es.length+E2 ds->Sep No w0 w' (seL hp Ed Bj es' rr t g.ep ds')->mD tB Q (sZ fp) (aZ rr.p) (sZ hp) w'){ea:Option Addr}{en ec:Nat}:
  ∀(n i:Nat) (es1:List (Int×Int)) (TJ:List Int) (ha1:Option Addr) (YE:Nat) (w:World),i+n=en->Rb g.m t M es1 TJ (λx n c=>n=node/\(x,c)∈(Kv g.m node).drop i)->fC TJ node=k->(∀x,fC TJ x<=fC ds x)->es1.length+E2 TJ<=es.length+E2 ds->
   Sep No w0 w (ak ea en ec 292 2 (flat Dn (Kv g.m node))::seL hp ha1 YE es1 rr t g.ep TJ)->jP tB Q (n+1) (sZ fp) (aZ rr.p) (sZ hp) k ea en ec en i w:=by
 intro n;induction n with
 |zero=>
  intro i es1 TJ ha1 YE w hi I hkn hmono hsum s;show mE tB Q (jP tB Q 0) _ _ _ _ _ _ _ _ _ _;unfold mE;have hen:=(aN s (i:=0) rfl QT (by decide)).len;rw[bq];refine h ha1 YE es1 TJ w ⟨I.lc.weaken λx n c hP _ _=>?_,I.len,I.jA,I.nod,I.nS⟩ hmono hsum (ai s);grind
 |succ n ih=>
  intro i es1 TJ ha1 YE w hi I hkn hmono hsum s;show mE tB Q (jP tB Q (n+1)) _ _ _ _ _ _ _ _ _ _;unfold mE;have hE:=aN s (i:=0) rfl QT (by decide);rw[bM,wrap_i64 (by omega) (by unfold AV at hk;have:=I.nS;have:=hE.le;have:=(RA s (i:=0) rfl).2;simp[maxLen]at this;omega)];refine hE.El rfl (by omega) λp e he yg=>?_;obtain⟨y,c⟩:=e;have hem:=List.mem_of_getElem? he;have hE1:=(aiA hm hn hnc).1 hem;have hc0:=afv _ _ _ hE1;have hyn:=hE1.1;have hne:y≠node:=by
   obtain⟨_,_,⟨_,h2,_⟩|⟨h2,_⟩⟩:=hE1
   ·exact h2
   ·exact λe=>h2 (by rw[e])
  have J4:bF g.m.w g.m.h y:=by
   obtain⟨_,_,⟨h1,_⟩|⟨_,h1⟩⟩:=hE1
   ·have:y∈aY g.m (cT g.m node):=by have h3:=hyn;unfold oe at h3;rwa[show cT g.m y=cT g.m node from h1]at h3
    exact(mI (bV hnc) this).2.1
   ·exact jT hm h1.1
  have hcb:c<1000000000:=by
   obtain⟨_,_,⟨h1,_,hw,h2⟩|⟨_,h1⟩⟩:=hE1
   ·have e1:=Q4 hm (bV hnc) ⟨J4,h1⟩ ⟨hnc,rfl⟩;have Tz:=(mI (bV hnc) hn).1;have h3:=Z_ hm (bV hnc) ⟨J4,h1⟩ ⟨hnc,rfl⟩ Tz;have h4:=(Z9 hm (bV hnc) ⟨J4,h1⟩ ⟨hnc,rfl⟩ Tz).2 hw;have h5:=h3.2.1 h4;have h2:c=gz (FZ node) (tO (fJ g.m) (cT g.m) (aC g.m.w g.m.h node)) y:=h2;omega
   ·have:=Gw h1;omega
  have Ty:0<=y/\y<TJ.length:=by rw[I.len];exact J4.2
  have abQ:(Kv g.m node).drop i=(y,c)::(Kv g.m node).drop (i+1):=by obtain⟨IL,hx⟩:=List.getElem?_eq_some_iff.1 he;rw[List.drop_eq_getElem_cons IL,hx]
  unfold AV at hk;refine aR (yg 0 _ rfl) (aR (yg 1 _ rfl) ?_);refine aS s λeb w s=>?_;refine sT s 0 rfl λw s=>?_;refine ax s (i:=0) rfl rfl rfl λw s=>?_;refine lI s 0 rfl (lI s 0 rfl ?_);rw[aG];have s:=pk 99 [2,3,1,0] s;have hkw:Wy (SN g.m t) (EN g.m) y (k+c):=.go hE1 (by have:=I.lc.ways node (by rw[hkn];unfold AV;omega);rw[hkn]at this;exact this)
  have hlen:=I.nS;refine LK s Ty ⟨by omega,by omega⟩ (λhno=>?_) λhyes w s=>?_
  ·refine ih (i+1) es1 TJ ha1 YE w (by omega) ⟨I.lc.weaken λx n2 c2 hP _ _=>?_,I.len,I.jA,I.nod,I.nS⟩ hkn hmono hsum (pk 99 [2,0,1] s);obtain⟨rfl,h2⟩:=hP;rw[abQ]at h2;rcases List.mem_cons.1 h2 with h2|h2
   ·obtain⟨rfl,rfl⟩:=h2;left;rw[hkn,S0 Ty];exact hno
   ·exact .inr (.inr ⟨rfl,h2⟩)
  ·simp only at hyes;refine lI s 3 rfl (lI s 3 rfl ?_);rw[aG];refine Hp.BB s (i:=1) rfl (by omega) λw TG U7 Ra hp2 s=>?_;have I2:Rb g.m t M Ra (TJ.set y.toNat (k+c)) (λx n c=>n=node/\(x,c)∈(Kv g.m node).drop (i+1)):=by
    refine I.agY hyn J4 ⟨by omega,hyes⟩ hkw hp2 (λx n2 c2 hP ex=>?_) (λx n2 c2 hP ex=>?_) λx c2 hP=>hne hP.1
    ·obtain⟨rfl,h2⟩:=hP;rw[abQ]at h2;rcases List.mem_cons.1 h2 with h2|h2
     ·obtain⟨_,rfl⟩:=h2;exact .inl ⟨_,rfl,by omega⟩
     ·exact .inr ⟨rfl,h2⟩
    ·obtain⟨rfl,h2⟩:=hP;rw[abQ]at h2;rcases List.mem_cons.1 h2 with h2|h2
     ·simp[Prod.mk.injEq]at h2;exact(ex h2.1).elim
     ·exact⟨rfl,h2⟩
   have Z4:=aiI (k:=k+c) Ty;have hss:=aam (k:=k+c) (ds:=TJ) (i:=y.toNat) (by omega);have IG:=hp2.length_eq;rw[List.length_append,List.length_singleton]at IG;refine ih (i+1) Ra _ TG U7 w (by omega) I2 (by rw[Z4,if_neg λe=>hne e.symm];exact hkn) (λz=>?_) (by omega) (pk 99 [2,0,1] s);rw[Z4];split
   ·rename_i e;rw[e];have:=hmono y;rw[S0 Ty]at this;omega
   ·exact hmono z
end
section
variable {F:Nat->Prop}{W w w0:World}{L:List As}{fp hp mb hc M:Nat}{ha:Option Addr}{rr:xC}{r:Bz}{x:nD}{gr:uB}{g:iw}{t:Int}{dm es:List (Int×Int)}{ds:List Int}{vs:List Value}
def aj9 {Q:Option Addr->World->Prop}(hF:rV w0 fp (.pointer (sZ r.p)::vs))(k:Ev w0 r gr.p x)(kg:nB w0 gr g)(I:yD g x)(hf:NL g x)(hM:M<4000000000000)
  (h:∀ha hc ds w',HZ g.m t ds->Sep No w0 w' (seL hp ha hc [] rr t g.ep ds)->Q (sZ rr.p) w'):
  ∀(f:Nat) (es:List (Int×Int)) (ds:List Int) (ha:Option Addr) (hc:Nat) (w:World),es.length+E2 ds<=f->Rb g.m t M es ds (λ_ _ _=>False)->(∀x k,SN g.m t x k->fC ds x<=k\/AV<=k)->Sep No w0 w (seL hp ha hc es rr t g.ep ds)->
   mD (iL Q (f+1)) Q (sZ fp) (aZ rr.p) (sZ hp) w:=by
 have hm:=kg.ok.may;intro f;induction f with
 |zero=>
  intro es ds ha hc w hf' J hs s;obtain rfl:es=[]:=List.eq_nil_of_length_eq_zero (by omega);refine Hp.C8 s (i:=1) rfl (by simp) (λ_ w s=>?_) λh0=>by simp at h0
  show iK Q (iL Q 0) _ _ _ _ _ _ _;unfold iK;exact h ha hc ds w (J.done hm hs) s
 |succ f ih=>
  intro es ds ha hc w hf' J hs s;have oZ:=J.nS;refine Hp.C8 s (i:=1) rfl (by omega) (λe w s=>?_) λh0 w Ed Bj es' hp' sN=>?_
  ·subst e;show iK Q (iL Q (f+1)) _ _ _ _ _ _ _;unfold iK;exact h ha hc ds w (J.done hm hs) s
  ·have s:=sN;generalize hge:Hp.g es 0=e0 at hp'⊢;obtain⟨key,node⟩:=e0;have hin:(key,node)∈es:=hp'.mem_iff.1 (by simp);obtain⟨hn,hnc,F0,hkC⟩:=J.nod _ hin;have hle:=J.lc.key _ hin;have hnr:0<=node/\node<ds.length:=by rw[J.len];exact hnc.2
   rw[S0 hnr]at hle;have hl:=hp'.length_eq;simp[List.length_cons]at hl;have hq:∀e,e∈es↔e∈es'\/e=(key,node):=λe=>by grind
   have J1:Rb g.m t M es' ds (λx n c=>n=node/\fC ds node=key/\EN g.m x n c):=⟨J.lc.pop hq,J.len,J.jA,λe he=>J.nod e ((hq e).2 (.inl he)),by omega⟩;show iK Q (iL Q (f+1)) _ _ _ _ _ _ _;unfold iK;have hrk:=SG s;have hdr:=J.jA _ (ff (i:=node.toNat) (by omega));apply dx (hrk.cell 2 _ rfl);apply FU hrk.V (k:=node.toNat) (by omega) (by have hvl:ds.length=rr.n:=hrk.V.len;omega);rw[aG (n:=gi ds node.toNat)];by_cases hgt:key>gi ds node.toNat
   ·rw[bM hgt];refine ih es' ds Ed Bj w (by omega) ⟨J1.lc.weaken λx n c hP _ _=>?_,J1.len,J1.jA,J1.nod,J1.nS⟩ hs s;obtain⟨_,h2,_⟩:=hP;rw[S0 hnr]at h2;omega
   ·rw[bq hgt];have hkey:fC ds node=key:=by rw[S0 hnr];omega
    refine ah (dJ (by have:=(hF.fr (au s)) 0 _ rfl;rw[add_zero]at this;exact this) ?_);refine ab4 s (k.fr (au s)) (kg.fr (au s)) I hf hnc hn λea en ec w s _=>?_;have J2:Rb g.m t M es' ds (λx n c=>n=node/\(x,c)∈(Kv g.m node).drop 0):=⟨J1.lc.weaken λx n c hP hE _=>by obtain⟨rfl,_,_⟩:=hP;exact .inr (.inr ⟨rfl,by rw[List.drop_zero];exact(aiA hm hn hnc).2 hE⟩),J1.len,J1.jA,J1.nod,J1.nS⟩
    refine⟨en+1,aiO hm ⟨F0,hkC⟩ hn hnc hM (λTG U7 Ra ds2 w2 J3 hmono hsum s=>?_) en 0 es' ds Ed Bj w (by omega) J2 hkey (λ_=>Int.le_refl _) (Nat.le_refl _) s⟩;grind
def aiR {Q:Option Addr->World->Prop}(hF:rV w0 fp (.pointer (sZ r.p)::vs))(k:Ev w0 r gr.p x)(kg:nB w0 gr g)(I:yD g x)(hf:NL g x)(hM:M<4000000000000)(ht:bF g.m.w g.m.h t)(hnd:oS dm)(hin:aiJ g.m t dm)
  (h:∀ha hc ds w',HZ g.m t ds->Sep No w0 w' (seL hp ha hc [] rr t g.ep ds)->Q (sZ rr.p) w'){na:Option Addr}{nn nc:Nat}:
  ∀(n i:Nat) (es:List (Int×Int)) (ds:List Int) (ha:Option Addr) (hc:Nat) (w:World),i+n=nn->Rb g.m t M es ds (λ_ _ _=>False)->(∀x k,SN g.m t x k->x∈(aY g.m (cT g.m t)).take i->fC ds x<=k\/AV<=k)->
   Sep No w0 w (ak na nn nc 3 1 (flat one (aY g.m (cT g.m t)))::fO fq vI mb dm::seL hp ha hc es rr t g.ep ds)->jd Q (n+1) (sZ fp) (aZ rr.p) (sZ hp) (some mb) na nn nc nn i w:=by
 have hm:=kg.ok.may;have hs0:=bV ht;have aBg:=zU hs0;intro n;induction n with
 |zero=>
  intro i es ds ha hc w hi J hs s;show m8 Q (jd Q 0) _ _ _ _ _ _ _ _ _ _;unfold m8;have hnl:=(aN s (i:=0) rfl cF (by decide)).len;rw[bq];have hs':∀x k,SN g.m t x k->fC ds x<=k\/AV<=k:=λx k hx=>hs x k hx (by obtain⟨h1,h2,_⟩:=hx;have h1:x∈aY g.m (cT g.m x):=h1;grind)
  have:=aj9 hF k kg I hf hM h _ es ds ha hc w (Nat.le_refl _) J hs' (ai (ai s));exact He (λa b c w q=>⟨_,q⟩) this
 |succ n ih=>
  intro i es ds ha hc w hi J hs s;show m8 Q (jd Q (n+1)) _ _ _ _ _ _ _ _ _ _;unfold m8;have hN:=aN s (i:=0) rfl cF (by decide);have hnl:=hN.len;have apX:(aY g.m (aC g.m.w g.m.h t)).length=nn:=hnl;rw[bM,aG];apply hN.rJ rfl (by omega);have hmem:=ff (l:=aY g.m (cT g.m t)) (i:=i) (by omega);obtain⟨hyo,J4,hys⟩:=mI hs0 hmem;have hyn:oe g.m (gi (aY g.m (cT g.m t)) i):=by show _∈aY g.m (aC g.m.w g.m.h _);rw[hys];exact hmem
  have yj:(aY g.m (cT g.m t)).take (i+1)=(aY g.m (cT g.m t)).take i++[gi (aY g.m (cT g.m t)) i]:=by rw[List.take_add_one,iz (by omega)];rfl
  generalize gi (aY g.m (cT g.m t)) i=y at hyo J4 hys hyn yj⊢;have Ty:0<=y/\y<ds.length:=by rw[J.len];exact J4.2
  have oZ:=J.nS;obtain⟨YF,hi2⟩:=hin y;have only:∀k,SN g.m t y k->k=gz (gh g.m t) (Bg g.m t) y/\gz (gh g.m t) (Bg g.m t) y<bR:=λk hk=>by
   obtain⟨_,_,⟨d,hd⟩,rfl⟩:=hk;refine⟨rfl,?_⟩;have h1:=Wy.mono (λx k h=>.src h) (λx n c d e h=>.go e.1 h) (og jU (λx n c h=>cU _ _ _ h.1) hd).1;refine Classical.byContradiction λhno=>?_;have hl:=aa1 (S:=gh g.m t) (E:=Bg g.m t) (λx k h=>SJ h) (λx n c h=>Gw h.1) (jV g.m) (λx d h=>by
    cases h with
    |src h=>exact zB hm (jT hm (by rw[h.1];exact h.2.1))
    |go e _=>exact zB hm (jT hm e.1.1)) hd
   have h2:((jV g.m).length:Int)=g.m.w*g.m.h:=by rw[<-hm.len];simp[jV]
   have h3:=mY ⟨hm.w,hm.h⟩;unfold bR at hno;omega
  have skip:∀(w:World),(∀k,SN g.m t y k->fC ds y<=k\/AV<=k)->Sep No w0 w (ak na nn nc 3 1 (flat one (aY g.m (cT g.m t)))::fO fq vI mb dm::seL hp ha hc es rr t g.ep ds)->
    jd Q (n+1) (sZ fp) (aZ rr.p) (sZ hp) (some mb) na nn nc nn ((i:Int)+1) w:=λw hy s=>by
   refine ih (i+1) es ds ha hc w (by omega) J (λz k hz hzm=>?_) s;rw[yj]at hzm;rcases List.mem_append.1 hzm with h1|h1
   ·exact hs z k hz h1
   ·rw[List.mem_singleton]at h1;subst h1;exact hy k hz
  refine Ew (K:=fq) al4 (acf w) s (i:=1) rfl hnd (akT J4) (λhx=>?_) λd hx=>?_
  ·refine skip w (λk hk=>?_) s;rw[hx]at YF;rw[if_pos (only k hk).2]at YF;cases YF
  ·rw[hx]at YF;have hlt:gz (gh g.m t) (Bg g.m t) y<bR:=by refine Classical.byContradiction λhno=>?_;rw[if_neg hno]at YF;cases YF
   rw[if_pos hlt]at YF;obtain rfl:d=gz (gh g.m t) (Bg g.m t) y:=Option.some.inj YF;obtain⟨hd0,hd1⟩:=hi2 hlt;have s2:=pk 99 [2,3,0,1] s;refine LK s2 Ty ⟨hd0,by omega⟩ (λhno=>?_) λhyes w s=>?_
   ·refine skip w (λk hk=>.inl ?_) s;rw[(only k hk).1,S0 Ty];exact hno
   ·refine Hp.BB s (i:=1) rfl (by omega) λw TG U7 Ra hp2 s=>?_;have hsrc:SN g.m t y (gz (gh g.m t) (Bg g.m t) y):=⟨hyn,hys,by refine Classical.byContradiction λhno=>?_;have:gz (gh g.m t) (Bg g.m t) y=bR:=xO λd hd=>hno ⟨d,hd⟩;omega,rfl⟩
    have J2:=J.agY hyn J4 ⟨hd0,hyes⟩ (.src hsrc) hp2 (λ_ _ _ h=>h.elim) (λ_ _ _ h _=>h) λ_ _ h=>h;have Z4:=aiI (k:=gz (gh g.m t) (Bg g.m t) y) Ty;refine ih (i+1) Ra _ TG U7 w (by omega) J2 (λz k hz hzm=>?_) (pk 99 [2,3,0,1] s);rw[Z4];by_cases ez:z=y
    ·subst ez;rw[if_pos rfl,(only k hz).1];exact .inl (Int.le_refl _)
    ·rw[if_neg ez];rw[yj]at hzm;rcases List.mem_append.1 hzm with h1|h1
     ·exact hs z k hz h1
     ·rw[List.mem_singleton]at h1;exact(ez h1).elim
def atk {b:Nat}{v:Int}(s:Sep F W w (av b 21 [.int .i32 v]::L)):Sl w (sZ b) 1 1 1 oY [v]:=
 aN (gX s (i:=0) rfl rfl (by decide) (λu hu=>by rw[List.mem_singleton]at hu;rw[hu];rfl)) (i:=0) rfl vv (by decide)
def aiS {Q:Option Addr->World->Prop}(s0:Sep F W w L)(hF:rV w fp (.pointer (sZ r.p)::.pointer (sZ gr.p)::vs))(k:Ev w r gr.p x)(kg:nB w gr g)(I:yD g x)(hf:NL g x)(ht:bF g.m.w g.m.h t)(v9:g.m.w*g.m.h<=1600)
  (h:∀rr ds w',HZ g.m t ds->Sep F W w' (D_ rr ⟨t,g.ep,ds⟩::L)->Fr No w w'->Q (sZ rr.p) w'):tY (sZ fp) t w Q:=by
 apply Kk;have hm:=kg.ok.may;have hN:=mY ⟨hm.w,hm.h⟩;refine ah (dJ (hF 1 _ rfl) ?_);refine jn (bh (F:=No)) kg λw1 s _=>?_;refine ah (dJ ((hF.fr (au s)) 1 _ rfl) (qZ (kg.fr (au s)) ?_));refine aO s λib w1 s=>?_;rw[aG,show g.m.w*g.m.h=(((g.m.w*g.m.h).toNat:Nat):Int) by omega];refine ael s (atk s) (by omega) λda w1 s _=>?_;refine aO s λrb w1 s=>?_;have al6:=aoJ (t:=t) hm;have hMb:(g.m.w*g.m.h).toNat*2147483647<4000000000000:=by omega
 generalize hMe:(g.m.w*g.m.h).toNat*2147483647=M at al6 hMb;have s1:=pk 99 [0,1] s;have s1:Sep No w w1 [D_ ⟨rb,da,(g.m.w*g.m.h).toNat,(g.m.w*g.m.h).toNat⟩ ⟨t,g.ep,List.replicate (g.m.w*g.m.h).toNat AV⟩]:=YB s1 al6.jA;refine Hp.Q_ s1 λhp w1 s=>?_;refine aiL s (hF.fr (au s)) (kg.fr (au s)) ht λmb dm w1 hnd hin s _=>?_;have s:=ay s;have hc0:∀{w':World} {L':List As},Sep No w w' L'->w'.cell? (aZ fp)=some (.pointer (sZ r.p)):=λs=>by have:=(hF.fr (au s)) 0 _ rfl;exact this
 refine ah (dJ (hc0 s) ?_);refine eZ s λw1 s _=>⟨hc0 s,?_⟩;have hs0:=bV ht;have hps:x.ps[(aC g.m.w g.m.h t).toNat]? =some (x.ps[(aC g.m.w g.m.h t).toNat]'(by have:=I.len;have:=hs0.2;omega)):=List.getElem?_eq_getElem _;generalize x.ps[(aC g.m.w g.m.h t).toNat]'(by grind)=q at hps;have hc:=(HW I hf hps).1;rw[Int.toNat_of_nonneg hs0.2.1]at hc;have oZ:=zU hs0;rw[show aC g.m.w g.m.h t=(((aC g.m.w g.m.h t).toNat:Nat):Int)from(Int.toNat_of_nonneg hs0.2.1).symm];refine aac s (k.fr (au s)) hps (by grind) λna nn nc w1 s _=>?_;rw[hc]at s;refine⟨nn+1,aiR (rr:=⟨rb,da,(g.m.w*g.m.h).toNat,(g.m.w*g.m.h).toNat⟩) hF k kg I hf hMb ht hnd hin (λha hc ds w' hok s'=>h _ ds w' hok (dA s0 s' (i:=0) rfl) (au s')) nn 0 [] (List.replicate (g.m.w*g.m.h).toNat AV) none 0 w1 (by omega) al6 (λx k _ h=>by simp at h) ?_⟩;exact pk 99 [0,1,3,2] s
end
end Go.Proofs.YtmegplnmiepfbaaGreatDoor.S
namespace Go.Proofs.YtmegplnmiepfbaaGreatDoor.S
open Go.Sx
def isS {p:Addr}{A B:Prop}(h:A):cond (!(some p).isNone) A B:=h
attribute [local irreducible] af cE bw bg aA cu bY St Bx Al App cJ cB cz bW aL bD aq bT av ak aW mapA
structure GG where
 kept:Option (xC×Gt)
 fS:Int
def ar_ (k:Option (xC×Gt)):Option Addr:=k.map λq=>(aZ q.1.p)
def al7 (mp gp:Nat)(f:GG):List Value:=[.pointer (sZ mp),.pointer (sZ gp),.pointer (ar_ f.kept),.int .u64 f.fS]
def aoL (k:Option (xC×Gt)):List As:=match k with
 |some q=>[D_ q.1 q.2]
 |none=>[]
def ach (fp mp gp:Nat)(f:GG):List As:=av fp 197 (al7 mp gp f)::aoL f.kept
def uG (fp mp gp:Nat)(f:GG):As:=aW True (ach fp mp gp f)
structure aci (g:iw) (f:GG):Prop where
 kept:∀q,f.kept=some q->q.2.ep<=g.ep/\(q.2.ep=g.ep->bF g.m.w g.m.h q.2.goal/\HZ g.m q.2.goal q.2.ds)
 u:Ta.U f.fS
def NU (f:GG):Option (Int×Int):=f.kept.map λq=>(q.2.goal,q.2.ep)
section
variable {F:Nat->Prop}{W w w0:World}{L:List As}{fp:Nat}{rr:xC}{r:Bz}{x:nD}{gr:uB}{g:iw}{t:Int}{f:GG}{mp gp:Nat}
def NV (s:Sep F W w (uG fp mp gp f::L)):Sep F W w (ach fp mp gp f++L):=(gL s).2
def S1 (s:Sep F W w (ach fp mp gp f++L)):Sep F W w (uG fp mp gp f::L):=dz s trivial
def acj {Q:Option Addr->World->Prop}(s:Sep F W w L)(h:∀fp w',Sep F W w' (uG fp mp gp ⟨none,0⟩::L)->Fr No w w'->Q (sZ fp) w'):F6 (sZ mp) (sZ gp) w Q:=by apply abi;refine kY (kY ?_);refine aO (bh (F:=No)) λfb w1 s1=>?_;have s2:Sep No w w1 [uG fb mp gp ⟨none,0⟩]:=S1 s1;exact h fb w1 (dA s s2 (i:=0) rfl) (au s2)
def NW (s:Sep F W w (uG fp mp gp f::L)):rV w fp (al7 mp gp f):=by have s:=NV s;exact kZ s (i:=0) rfl
def afw {q:xC×Gt}(s:Sep F W w (uG fp mp gp f::L))(h:f.kept=some q):Gu w q.1 q.2:=by have s:=NV s;unfold ach aoL at s;rw[h]at s;exact SG (ai s)
def Wv {Q:Int->World->Prop}(k:rV w fp (al7 mp gp f))(h:Q f.fS w):pB (sZ fp) w Q:=by apply B7;exact kY (ah (aR (k 3 _ rfl) h))
def Ww {Q:Int->World->Prop}(h:Q 0 w):pB Option.none w Q:=B7 _ _ _ h
def Yi {Q:World->Prop}(s:Sep F W w (uG fp mp gp f::L))(h:∀w',Sep F W w' (uG fp mp gp ⟨none,f.fS⟩::L)->Q w'):qu (sZ fp) w Q:=by apply Dj;have s:=NV s;have s:=s;refine isS (ah (sT s 0 rfl λw s=>?_));refine h w (S1 ?_);apply gC s;exact List.Sublist.cons_cons _ (List.sublist_append_right _ _)
def Yj {Q:Option Addr->World->Prop}(s:Sep F W w (nW gr g::uC r gr.p x::uG fp r.p gr.p f::L))(I:yD g x)(J:aci g f)(ht:bF g.m.w g.m.h t)(v9:g.m.w*g.m.h<=1600)
  (h:∀(x':nD) rr ds w',yD g x'->NL g x'->x'.clean=g.ep->x'.fS=ad9 (kF g x x.ps.length).length x.fS->HZ g.m t ds->
   Sep F W w' (nW gr g::uC r gr.p x'::uG fp r.p gr.p ⟨some (rr,⟨t,g.ep,ds⟩),if NU f=some (t,g.ep)then f.fS else Ta.sat f.fS 1⟩::L)->Q (sZ rr.p) w'):wC (sZ fp) t w Q:=by
 apply MR;have kg:=oQ s;have hm:=kg.ok.may;have kf:=NW (ai (ai s));have arM:=LO hm ht;refine kY (ah (dJ (kf 1 _ rfl) (jm kg ?_)));rw[cy (by omega),cond_false];refine ah (dJ (by have:=kf 0 _ rfl;rw[add_zero]at this;exact this) ?_);refine Wo s I λx' w1 I' hfr yg Wh s=>?_;have s:=ay s;have kg:=oQ s;have kf:=NW (ai (ai s));have b5:∀(w2:World),NU f≠some (t,g.ep)->Sep F W w2 (nW gr g::uC r gr.p x'::uG fp r.p gr.p f::L)->oD Q (sZ fp) t w2:=λw2 hne s=>by refine aiS s (NW (ai (ai s))) (Wl (ai s)) (oQ s) I' hfr ht v9 λrr ds w3 hok s _=>?_;have s1:=ck s (L':=uG fp r.p gr.p f::D_ rr ⟨t,g.ep,ds⟩::nW gr g::uC r gr.p x'::L) (List.perm_middle (l₁:=[_,_,_]));have s1:=NV s1;have s1:=s1;refine ah (sT s1 0 rfl λw3 s=>?_);refine ah (lI s 0 rfl ?_);apply Ta.By J.u (by unfold Ta.U;omega);refine ah (ax s (i:=0) rfl rfl rfl λw3 s=>?_);refine ah (lP s 0 rfl ?_);apply h x' rr ds w3 I' hfr yg Wh hok;rw[if_neg hne];have s2:=gC s (List.Sublist.cons_cons _ (List.sublist_append_right _ _));exact ck (S1 s2) (L':=nW gr g::uC r gr.p x'::uG fp r.p gr.p _::L) (List.perm_middle (l₁:=[_,_])).symm
 refine ah (dJ (kf 2 _ rfl) ?_);cases hk:f.kept with
 |none=>
  show cond true _ _;refine b5 _ ?_ s;unfold NU;grind
 |some q=>
  obtain⟨rr0,t0⟩:=q;have hP:ar_ (some (rr0,t0))=sZ rr0.p:=rfl;apply kY;have kr:=afw (ai (ai s)) hk;have hcell:w1.drew.cell? ((aZ fp).add 2)=some (.pointer (sZ rr0.p)):=by have:=kf 2 _ rfl;grind
  refine ah (dJ hcell (ah (aR (by have:=kr.cell 0 _ rfl;rw[add_zero]at this;exact this) ?_)));have hkg:NU f=some (t0.goal,t0.ep):=by unfold NU;rw[hk];rfl
  by_cases hg:t0.goal=t
  ·rw[show(t0.goal !=t)=false by grind,cond_false];refine ah (dJ hcell (ah (aR (kr.cell 1 _ rfl) ?_)));refine ah (dJ (kf 1 _ rfl) (qZ kg ⟨kr.cell 1 _ rfl,hcell,?_⟩));by_cases he:t0.ep=g.ep
   ·rw[show(t0.ep !=g.ep)=false by grind,cond_false];refine ah (dJ hcell ?_);have hq:=(J.kept _ hk).2 he;rw[hg]at hq;apply h x' rr0 t0.ds _ I' hfr yg Wh hq.2;have e:f=⟨some (rr0,⟨t,g.ep,t0.ds⟩),f.fS⟩:=by
     cases f with
     |mk kept fS=>
      simp only at hk;rw[hk,<-hg,<-he]
    grind
   grind
  grind
end
end Go.Proofs.YtmegplnmiepfbaaGreatDoor.S
namespace Go.Proofs.YtmegplnmiepfbaaGreatDoor.S
open Go.Sx
attribute [local irreducible] af cE bw bg aA cu bY St Bx Al App cJ cB cz bW aL bD aq bT av ak aW mapA
section
variable {m:bJ}{t sc c:Int}{ds:List Int}
def al9 (hm:cI m){e:Int×Int}(h:e∈vr m c):oe m e.1/\bF m.w m.h e.1/\oe m c/\bF m.w m.h c/\0<e.2/\e.2<255:=by obtain⟨ho,s,hs,h1,h2,rfl⟩:=Wb.1 h;obtain⟨h3,h4⟩:=Cq h1;have hst:fJ m c (gJ m.w m.h c s) (cA m (gJ m.w m.h c s)):=⟨ho,h2,⟨s,hs,h3.symm⟩,rfl⟩;have hne:cT m c≠cT m (gJ m.w m.h c s):=λe=>h4 (by rw[<-h3];exact e.symm);have hn:=rE hm _ _ _ hst hne;exact⟨hn.2,jT hm h2,hn.1,jT hm ho,xD h2⟩
def Kz {at_:Int->Int}:(Iv m at_ c).Pairwise (λa b=>a.s<b.s)/\∀x∈Iv m at_ c,x.c=dX m.w m.h c/\0<=x.s/\x.s<=3/\eV m c=true:=by
 unfold Iv vr;split
 ·rw[Gq,List.filterMap_filterMap];have side:∀(a:Nat),a<4->∀x,(Fw m c a).bind (λe=>if at_ e.1=bR then none else some (⟨dX m.w m.h c,Ap m.w m.h c e.1,e.2+at_ e.1⟩:bj))=some x->x.s=a/\x.c=dX m.w m.h c:=λa ha x h=>by
   unfold Fw at h;split at h
   ·rename_i h4;simp only[Option.bind_some]at h;split at h
    ·cases h
    ·cases h;obtain⟨h5,_⟩:=Cq h4.1;refine⟨?_,rfl⟩;rw[h5];exact Wa ⟨by omega,by omega⟩ (by grind)
   ·simp at h
  constructor
  ·rw[List.pairwise_filterMap];refine List.Pairwise.imp_of_mem ?_ List.pairwise_lt_range;grind
  grind
 simp_all
def aoO {at_:Int->Int}:(Iv m at_ c).length<=4:=by
 unfold Iv vr;split
 ·unfold Gq;grind
 ·simp
def aiT {α β:Type}{f:α->List β}{k:Nat}:∀{l:List α},(∀a∈l,(f a).length<=k)->(l.flatMap f).length<=l.length*k
 |[],_=>by simp
 |a::l,h=>by have h1:=h a (by simp);have h2:=aiT (l:=l) λb hb=>h b (by simp[hb]);rw[List.flatMap_cons,List.length_append,List.length_cons,Nat.add_mul,Nat.one_mul];omega
def Wx {at_:Int->Int}(hs:dW m.w m.h sc):(EX m at_ t sc).Nodup/\(EX m at_ t sc).length<=1025:=by
 have oZ:=zU hs;constructor
 ·rw[EX,List.nodup_append];refine⟨?_,by grind,?_⟩
  ·show List.Pairwise _ _;rw[List.pairwise_flatMap];refine⟨λc _=>List.Pairwise.imp (λh e=>by grind) Kz.1,?_⟩;refine List.Pairwise.imp_of_mem ?_ (aj5 hs);intro c c' hc Bj hne x hx y hy e;have h1:=(Kz.2 x hx).1;have h2:=(Kz.2 y hy).1;obtain⟨_,c1,c2⟩:=mI hs hc;obtain⟨_,c3,c4⟩:=mI hs Bj;have g1:=nV c1;have g2:=nV c3;grind
  ·intro x hx y hy e;obtain⟨c,hc,hx⟩:=List.mem_flatMap.1 hx;have h1:=(Kz.2 x hx).2;grind
 ·unfold EX;have h1:=aiT (f:=Iv m at_) (l:=aY m sc) λc _=>aoO;grind
end
section
variable {F:Nat->Prop}{W w w0:World}{L:List As}{rr:xC}{gr:uB}{g:iw}{t sc:Int}{ds:List Int}{a:Option Addr}{n c:Nat}{es:List bj}
def avg {x:bj}{K:Option Addr->Nat->Nat->World->Prop}(s:Sep F W w (ak a n c 294 3 (flat fT es)::L))(hn:n<=1000000000)
  (k:∀a' c' w',Sep F W w' (ak a' (n+1) c' 294 3 (flat fT (es++[x]))::L)->K a' (n+1) c' w'):Bx [ae x.c,ae x.s,ae x.k] 294 w λp w1=>App P #[278,278] 278 (.slice a n c) (.slice (some p) 1 1) w1 K:=by
 refine aO s λb w s=>?_;have src:Src w (sZ b) 1 3 (fT x):=⟨rfl,V5 x,λj u hj=>by rw[cq,Nat.zero_add];exact cM s (i:=0) rfl rfl hj⟩;refine ig ee s (i:=1) (bytes:=24) rfl rfl rfl rfl rfl rfl (by decide) rfl src (by simp[maxLen];omega) (by omega) (λe=>by cases e) λa1 c1 w1 s1=>?_;have e:flat fT es++fT x=flat fT (es++[x]):=by rw[fX];simp[flat]
 rw[e]at s1;exact k _ _ _ (ai s1)
def Wz {Q:Option Addr->Nat->Nat->World->Prop}(s0:Sep F W w L)(kg:nB w gr g)(kr:Gu w rr ⟨t,g.ep,ds⟩)(hok:HZ g.m t ds)(ht:bF g.m.w g.m.h t)(hs:dW g.m.w g.m.h sc)
  (h:∀ra rn rc w',Sep F W w' (ak ra rn rc 294 3 (flat fT (NB (EX g.m (D g.m t) t sc)))::L)->Fr No w w'->Q ra rn rc w'):B0 (sZ gr.p) (sZ rr.p) sc w Q:=by
 apply VH;have hm:=kg.ok.may;have oZ:=zU hs;obtain⟨hnd,hlen⟩:=Wx hs;have hN:=mY ⟨hm.w,hm.h⟩;refine jn (bh (F:=No)) kg λw1 s _=>?_;apply kY;refine Ye (kr.fr (au s)) (qZ (kg.fr (au s)) ?_);rw[bne_self_eq_false,cond_false];refine xB s (kg.fr (au s)) hs λna nn nc w1 s _=>?_;have hnl:=(aN s (i:=0) rfl cF (by decide)).len;have fin:∀(oa:Option Addr) (on oc:Nat) (w2:World),Sep No w w2 [ak oa on oc 294 3 (flat fT (EX g.m (D g.m t) t sc))]->kG oa on oc w2 λra rn rc w3=>Q ra rn rc w3:=λoa on oc w2 s=>by have hS:=aN s (i:=0) rfl nC (by decide);have:=hS.len;refine Aw s hS (by omega) hnd λra rc w3 s _=>?_;exact h ra on rc w3 (dA s0 s (i:=0) rfl) (au s)
 have nodes:∀(k i:Nat) (oa:Option Addr) (on oc:Nat) (w2:World),i+k=nn->on<=4*i->Sep No w w2 [ak oa on oc 294 3 (flat fT (((aY g.m sc).take i).flatMap (Iv g.m (D g.m t)))),ak na nn nc 3 1 (flat one (aY g.m sc))]->
   n9 Q (k+1) (sZ gr.p) (sZ rr.p) sc g.m.w g.m.h oa on oc na nn nc nn i w2:=by
  intro k;induction k with
  |zero=>
   intro i oa on oc w2 hi ho s;show vm Q (n9 Q 0) _ _ _ _ _ _ _ _ _ _ _ _ _ _;rw[vm,bq];rw[List.take_of_length_le (by omega)]at s;apply ZY (kr.fr (au s));refine eZ s λw2 s _=>?_;unfold EX at fin;by_cases SS:aC g.m.w g.m.h t=sc
   ·rw[dN SS,cond_true];apply jm (kg.fr (au s));by_cases hw:cA g.m t=255
    ·rw[hw,bne_self_eq_false,cond_false];rw[if_neg λe=>e.2 hw,List.append_nil]at fin;exact fin oa on oc w2 (pk 99 [0] s)
    ·rw[show(cA g.m t !=255)=true by grind,cond_true];rw[if_pos ⟨SS,hw⟩]at fin;refine tD s λw2 s _=>?_;refine avg (x:=⟨dX g.m.w g.m.h t,4,0⟩) s (by omega) λoa oc w2 s=>?_;exact fin oa _ oc w2 (pk 99 [0] s)
   ·rw[cy SS,cond_false];rw[if_neg λe=>SS e.1,List.append_nil]at fin;exact fin oa on oc w2 (pk 99 [0] s)
  |succ k ih=>
   intro i oa on oc w2 hi ho s;show vm Q (n9 Q (k+1)) _ _ _ _ _ _ _ _ _ _ _ _ _ _;rw[vm,bM];apply(aN s (i:=1) rfl cF (by decide)).rJ rfl (by omega);have yj:(aY g.m sc).take (i+1)=(aY g.m sc).take i++[gi (aY g.m sc) i]:=by rw[List.take_add_one,iz (by omega)];rfl
   generalize gi (aY g.m sc) i=c at yj⊢;refine V4 s (kg.fr (au s)) λea en ec w2 s _=>?_;have yg:=(aN s (i:=0) rfl QT (by decide)).len;have hc4:(vr g.m c).length<=4:=by
    unfold vr;split
    ·exact Nat.le_trans (List.length_filterMap_le _ _) (by simp)
    ·simp
   have wT:∀(k2 j:Nat) (oa:Option Addr) (on oc:Nat) (w2:World),j+k2=en->on<=4*i+j->Sep No w w2 [ak oa on oc 294 3 (flat fT (((aY g.m sc).take i).flatMap (Iv g.m (D g.m t))++((vr g.m c).take j).filterMap λe=>if D g.m t e.1=bR then none else some ⟨dX g.m.w g.m.h c,Ap g.m.w g.m.h c e.1,e.2+D g.m t e.1⟩)),ak ea en ec 292 2 (flat Dn (vr g.m c)),ak na nn nc 3 1 (flat one (aY g.m sc))]->
     qU (n9 Q (k+1)) Q (k2+1) (sZ gr.p) (sZ rr.p) sc g.m.w g.m.h oa on oc c na nn nc nn i ea en ec en j w2:=by
    intro k2;induction k2 with
    |zero=>
     intro j oa on oc w2 hj ho s;show vl _ Q (qU _ Q 0) _ _ _ _ _ _ _ _ _ _ _ _ _ _ _ _ _ _ _ _;rw[vl,bq,aG];rw[List.take_of_length_le (l:=vr g.m c) (by omega)]at s;apply ih (i+1) oa on oc w2 (by omega) (by omega);rw[yj,List.flatMap_append,List.flatMap_singleton];exact pk 99 [0,2] s
    |succ k2 ih2=>
     intro j oa on oc w2 hj ho s;show vl _ Q (qU _ Q (k2+1)) _ _ _ _ _ _ _ _ _ _ _ _ _ _ _ _ _ _ _ _;rw[vl,bM,aG];refine(aN s (i:=1) rfl QT (by decide)).El rfl (by omega) λp e he aih=>?_;have avh:=Q7 (f:=λe:Int×Int=>if D g.m t e.1=bR then none else some (⟨dX g.m.w g.m.h c,Ap g.m.w g.m.h c e.1,e.2+D g.m t e.1⟩:bj)) he;obtain⟨h1,h2,h3,h4,h5,h6⟩:=al9 hm (List.mem_of_getElem? he);have IJ:=hok.2 _ h1 h2;refine aR (aih 0 _ rfl) (aR (aih 1 _ rfl) ?_);refine aS s λeb w2 s=>?_;refine sT s 0 rfl λw2 s=>?_;refine ax s (i:=0) rfl rfl rfl λw2 s=>?_;apply lI s 0 rfl;apply adX (kr.fr (au s));rw[IJ];by_cases hI:D g.m t e.1=bR
     ·have Wn:D g.m t e.1=1099511627776:=hI;rw[Wn,bne_self_eq_false,cond_false];apply ih2 (j+1) oa on oc w2 (by omega) (by omega);rw[avh,if_pos hI];show Sep No w w2 [ak oa on oc 294 3 (flat fT (_++(_++[]))),_,_];rw[List.append_nil];exact ai s
     ·have Wn:D g.m t e.1≠1099511627776:=hI;rw[show(D g.m t e.1 !=1099511627776)=true by rw[bne_iff_ne];exact Wn,cond_true];have hDl:D g.m t e.1<bR:=by
       by_cases q:∃d,Wy (gh g.m t) (fJ g.m) e.1 d
       ·exact(Au hm).2 q
       ·exact(hI (Xe q)).elim
      obtain⟨d,hd⟩:=(Au hm).1 hDl;have hDb:=ail hm hd;have s:=ay s;refine lI s 0 rfl (lI s 0 rfl ?_);refine tD s λw2 s _=>?_;refine⟨cg s 0 rfl,cg s 0 rfl,?_⟩;refine ZR s λw2 s _=>⟨cg s 0 rfl,?_⟩;rw[aG];refine avg (x:=⟨dX g.m.w g.m.h c,Ap g.m.w g.m.h c e.1,e.2+D g.m t e.1⟩) (ai s) (by omega) λoa oc w2 s=>?_;apply ih2 (j+1) oa (on+1) oc w2 (by omega) (by omega);rw[avh,if_neg hI,<-List.append_assoc];exact s
   have s':Sep No w w2 [ak oa on oc 294 3 (flat fT (((aY g.m sc).take i).flatMap (Iv g.m (D g.m t))++((vr g.m c).take 0).filterMap λe=>if D g.m t e.1=bR then none else some ⟨dX g.m.w g.m.h c,Ap g.m.w g.m.h c e.1,e.2+D g.m t e.1⟩)),ak ea en ec 292 2 (flat Dn (vr g.m c)),ak na nn nc 3 1 (flat one (aY g.m sc))]:=by rw[List.take_zero,List.filterMap_nil,List.append_nil];exact pk 99 [1,0,2] s
   exact⟨en+1,wT en 0 oa on oc w2 (by omega) (by omega) s'⟩
 exact⟨nn+1,nodes nn 0 none 0 0 w1 (by omega) (by omega) (bE s 294 3)⟩
end
structure zF where
 e9:Int
 sa:Option Addr
 sn:Nat
 sc:Nat
 da:Option Addr
 dn:Nat
 dc:Nat
 ra:Option Addr
 rn:Nat
 rc:Nat
 iP:List bj
 ds:List Int
 rs:List Int
def E3 (x:zF):List Value:=[ae x.e9,.slice x.sa x.sn x.sc,.slice x.da x.dn x.dc,.slice x.ra x.rn x.rc]
def yd (x:zF):(E3 x).length=4:=rfl
def aqO (x:zF)(u:Value)(h:u∈E3 x):u.oneCell'=true:=by unfold E3 at h;simp[List.mem_cons,List.not_mem_nil,or_false]at h;rcases h with rfl|rfl|rfl|rfl<;>rfl
noncomputable def GH (x:zF):As:=aW True [ak x.sa x.sn x.sc 294 3 (flat fT x.iP),ak x.da x.dn x.dc 3 1 (flat one x.ds),ak x.ra x.rn x.rc 3 1 (flat one x.rs)]
def IA:zF:=⟨0,none,0,0,none,0,0,none,0,0,[],[],[]⟩
structure WA where
 p:Nat
 lp:Nat
 lr:Lr.aed
 a:Option Addr
 n:Nat
 c:Nat
structure AW where
 l:Lr.KS
 es:List zF
 b:Int
 h:Int
 st:Int
 ev:Int
def GI (r:WA)(x:AW):List Value:=[.pointer (sZ r.lp),.slice r.a r.n r.c,.int .u64 0,.int .u64 0,.int .u64 x.b,.int .u64 x.h,.int .u64 x.st,.int .u64 x.ev]
noncomputable def Xr (r:WA)(k:Int)(x:AW):List As:=av r.p 135 (GI r x)::Lr.HY r.lp k x.l r.lr::ak r.a r.n r.c 303 4 (flat E3 x.es)::x.es.map GH
noncomputable def jX (r:WA)(k:Int)(x:AW):As:=aW True (Xr r k x)
section
variable {F:Nat->Prop}{W w w0:World}{L:List As}{r:WA}{k:Int}{x:AW}{tw th:Int}{ca la:Option Addr}{cn cc ln lc:Nat}{cs:List Int}{xs:List bj}
def f_ {A B T:List As}(is:List Nat)(s:Sep F W w (A++T))(h:is.map (λi=>A[i]?)=B.map some)(hn:is.Nodup):Sep F W w (B++T):=by
 have s1:=dz (ck s List.perm_append_comm) trivial;have s2:Sep F W w (aW True T::B):=by
  refine cf (0::is.map (·+1)) s1 ?_ ?_
  ·rw[List.map_cons,List.map_cons,List.map_map];congr 1
  grind
 exact ck (gL s2).2 List.perm_append_comm
def al_ {Z T:List As}{a b:As}(h:T=a::b::(Z++L)):T.Perm (Z++a::b::L):=by subst h;exact(List.Perm.cons _ List.perm_middle.symm).trans List.perm_middle.symm
def ack (s:Sep F W w (jX r k x::L)):Sep F W w (Xr r k x++L):=(gL s).2
def IB (s:Sep F W w (Xr r k x++L)):Sep F W w (jX r k x::L):=dz s trivial
def aqP {q:zF}{i:Nat}(s:Sep F W w L)(hi:L[i]? =some (GH q)):Sl w q.sa q.sn q.sc 3 fT q.iP/\Sl w q.da q.dn q.dc 1 one q.ds/\Sl w q.ra q.rn q.rc 1 one q.rs:=by have s':=IM s hi;exact⟨aN s' (i:=0) rfl nC (by decide),aN s' (i:=1) rfl cF (by decide),aN s' (i:=2) rfl cF (by decide)⟩
def BC {Q:World->Prop}{p i j:Nat}{t:TypeId}{cs:List Value}{v:Int}(s:Sep F W w L)(hi:L[i]? =some (av p t cs))(hj:cs[j]? =some (.int .u64 v))(hu:Ta.U v)
  (h:∀w',Sep F W w' (L.set i (av p t (cs.set j (.int .u64 (Ta.sat v 1)))))->Q w'):sj (some ⟨p,j,none⟩) w Q:=by
 apply abu;refine ah (dw s rfl hi hj ?_);apply Ta.By hu (by unfold Ta.U;omega);refine ah (ax s rfl hi ?_ λw' s'=>h w' s');rw[Nat.blt_eq];grind
def NX {Q:Option Addr->Nat->Nat->Option Addr->Nat->Nat->World->Prop}{da ra:Option Addr}{dn dc rn rc:Nat}{ds rs:List Int}(s0:Sep F W w L)(hD:Sl w da dn dc 1 one ds)(hR:Sl w ra rn rc 1 one rs)(hn:dn<=1000000)(hm:rn<=1000000)
  (h:∀LV LW ra' rc' w',Sep F W w' (ak ra' rn rc' 3 1 (flat one rs)::ak LV dn LW 3 1 (flat one ds)::L)->Fr No w w'->Q LV dn LW ra' rn rc' w'):Bo da dn dc ra rn rc w Q:=by
 apply abv;refine aO (bh (F:=No)) λfb w1 s=>?_;refine aS s λrb w1 s=>?_;have s:=ay s;refine lS s 1 rfl (lS s 1 rfl ?_);refine LH s (hD.fr (au s)) (by omega) λLV LW w1 s _=>⟨cg s 2 rfl,?_⟩;refine LH s (hR.fr (au s)) (by omega) λra' rc' w1 s _=>?_;refine sT s 2 rfl λw1 s=>?_;refine ax s (i:=2) rfl rfl rfl λw1 s=>?_;refine lS s 2 rfl (lS s 2 rfl ?_);have s':Sep No w w1 [ak ra' rn rc' 3 1 (flat one rs),ak LV dn LW 3 1 (flat one ds)]:=pk 99 [0,1] s;exact h LV LW ra' rc' w1 (fu s0 s') (au s')
def WrE {n c i:Nat}{es:List zF}{j:Nat}{q:zF}{g o:Nat}{K:World->Prop}(s:Sep F W w L)(hi:L[i]? =some (ak (some ⟨g,o,none⟩) n c 303 4 (flat E3 es)))(hn:j<es.length)(h:∀w',Sep F W w' (L.set i (ak (some ⟨g,o,none⟩) n c 303 4 (flat E3 (es.set j q))))->K w'):
  St ((⟨g,o+j*4,none⟩:Addr).add 0) (ae q.e9) w λw=>St ((⟨g,o+j*4,none⟩:Addr).add 1) (.slice q.sa q.sn q.sc) w λw=>St ((⟨g,o+j*4,none⟩:Addr).add 2) (.slice q.da q.dn q.dc) w λw=>St ((⟨g,o+j*4,none⟩:Addr).add 3) (.slice q.ra q.rn q.rc) w λw=>K w:=by
 have hg:=List.getElem?_eq_getElem hn;generalize es[j]=e0 at hg;have ad:∀i,((⟨g,o+j*4,none⟩:Addr).add i)=⟨g,o+(j*4+i),none⟩:=λi=>by rw[cq,Nat.add_assoc]
 have IL:=(List.getElem?_eq_some_iff.1 hi).1;refine dQ (x':=⟨q.e9,e0.sa,e0.sn,e0.sc,e0.da,e0.dn,e0.dc,e0.ra,e0.rn,e0.rc,e0.iP,e0.ds,e0.rs⟩) yd s hi hg (ad 0) (by decide) rfl rfl λw s=>?_;refine dQ (x:=⟨q.e9,e0.sa,e0.sn,e0.sc,e0.da,e0.dn,e0.dc,e0.ra,e0.rn,e0.rc,e0.iP,e0.ds,e0.rs⟩) (x':=⟨q.e9,q.sa,q.sn,q.sc,e0.da,e0.dn,e0.dc,e0.ra,e0.rn,e0.rc,e0.iP,e0.ds,e0.rs⟩) yd s (by rw[List.getElem?_set_self IL]) (by grind) (ad 1) (by decide) rfl rfl λw s=>?_;rw[List.set_set,List.set_set]at s;refine dQ (x:=⟨q.e9,q.sa,q.sn,q.sc,e0.da,e0.dn,e0.dc,e0.ra,e0.rn,e0.rc,e0.iP,e0.ds,e0.rs⟩) (x':=⟨q.e9,q.sa,q.sn,q.sc,q.da,q.dn,q.dc,e0.ra,e0.rn,e0.rc,e0.iP,e0.ds,e0.rs⟩) yd s (by rw[List.getElem?_set_self IL]) (by grind) (ad 2) (by decide) rfl rfl λw s=>?_;rw[List.set_set,List.set_set]at s;refine dQ (x:=⟨q.e9,q.sa,q.sn,q.sc,q.da,q.dn,q.dc,e0.ra,e0.rn,e0.rc,e0.iP,e0.ds,e0.rs⟩) (x':=q) yd s (by rw[List.getElem?_set_self IL]) (by grind) (ad 3) (by decide) rfl rfl λw s=>?_;simp_all
structure ShU (x:AW):Prop where
 b:Ta.U x.b
 h:Ta.U x.h
 st:Ta.U x.st
 ev:Ta.U x.ev
end
structure DP where
 e9:Int
 iP:List bj
 ds:List Int
 rs:List Int
def zF.p (q:zF):DP:=⟨q.e9,q.iP,q.ds,q.rs⟩
structure TK where
 l:Lr.KS
 es:List DP
 b:Int
 h:Int
 st:Int
 ev:Int
def AW.p (x:AW):TK:=⟨x.l,x.es.map zF.p,x.b,x.h,x.st,x.ev⟩
def bump (c:Bool)(v:Int):Int:=if c=true then Ta.sat v 1 else v
def aap:DP:=⟨0,[],[],[]⟩
def WB (es:List DP)(slot:Nat)(had:Bool)(e9:Int)(xs:List bj):Bool:=had&&(match es[slot]? with|some q=>q.e9==e9&&decide (q.iP=xs)|none=>false)
def Cv (k:Int)(y:TK)(key:Int×Int)(q:DP):TK:=
 let u:=Lr.kL k y.l key;let YN:=if u.1.1=(y.es.length:Int)then y.es++[aap]else y.es
 if WB YN u.1.1.toNat u.1.2.1 q.e9 q.iP=true then⟨u.2,YN,y.b,Ta.sat y.h 1,y.st,y.ev⟩
 else⟨u.2,YN.set u.1.1.toNat q,Ta.sat y.b 1,y.h,bump u.1.2.1 y.st,bump u.1.2.2 y.ev⟩
section
variable {F:Nat->Prop}{W w w0:World}{L:List As}{r:WA}{k:Int}{x:AW}{tw th:Int}{ca la:Option Addr}{cn cc ln lc:Nat}{cs:List Int}{xs:List bj}
noncomputable abbrev WC (r:WA)(k:Int)(x:AW)(rb tb:Nat)(tw th:Int)(ca:Option Addr)(cn cc:Nat)(L:List As):List As:=
 Lr.HY r.lp k x.l r.lr::av rb 213 [.slice none 0 0,.slice none 0 0]::av tb 84 [ae tw,ae th,.slice ca cn cc]::av r.p 135 (GI r x)::ak r.a r.n r.c 303 4 (flat E3 x.es)::(x.es.map GH++L)
def aqQ {A B:As}(s:Sep F W w (A::B::jX r k x::L)):Sep F W w (Lr.HY r.lp k x.l r.lr::A::B::av r.p 135 (GI r x)::ak r.a r.n r.c 303 4 (flat E3 x.es)::(x.es.map GH++L)):=by have s1:=ack (ck s ((List.Perm.cons _ (List.Perm.swap _ _ _)).trans (List.Perm.swap _ _ _)));have s2:=ck s1 (al_ rfl).symm;exact f_ (A:=[_,_,_,_,_]) (B:=[_,_,_,_,_]) [3,0,1,2,4] s2 rfl (by decide)
def aqR {A B:As}(s:Sep F W w (A::B::av r.p 135 (GI r x)::Lr.HY r.lp k x.l r.lr::ak r.a r.n r.c 303 4 (flat E3 x.es)::(x.es.map GH++L))):Sep F W w (A::B::jX r k x::L):=
 ck (IB (ck s (al_ rfl))) ((List.Perm.swap _ _ _).trans (List.Perm.cons _ (List.Perm.swap _ _ _)))
def Xs {A B C D E:As}{es:List zF}(s:Sep F W w (A::B::C::D::E::(es.map GH++L))):Sep F W w L:=
 gC s (.cons _ (.cons _ (.cons _ (.cons _ (.cons _ (List.sublist_append_right _ _))))))
def akW {Q:Option Addr->Nat->Nat->Option Addr->Nat->Nat->Int->World->Prop}{rb tb slot g o:Nat}{e9:Int}(hT:rW tw th cs)(hok:rU tw th cs xs=true)(hnd:xs.Nodup)(qe:ln<2000)(hC:∀w',Sep F W w' L->Sl w' ca cn cc 1 bp cs)(hX:∀w',Sep F W w' L->Sl w' la ln lc 3 fT xs)(BO:slot<x.es.length)(hu:Ta.U x.b)(ha:r.a=some ⟨g,o,none⟩)
  (s:Sep F W w (WC r k x rb tb tw th ca cn cc L))
  (h:∀q da dc ra rc w',q.e9=e9->q.iP=xs->q.ds=ju tw th cs xs->q.rs=nT tw th cs xs->Sep F W w' (ak ra cs.length rc 3 1 (flat one (nT tw th cs xs))::ak da cs.length dc 3 1 (flat one (ju tw th cs xs))::jX r k {x with es:=x.es.set slot q,b:=Ta.sat x.b 1}::L)->Q da cs.length dc ra cs.length rc 0 w'):
  pK Q (sZ r.p) e9 la ln lc (aZ tb) (aZ rb) ⟨g,o+slot*4,none⟩ w:=by
 have v9:=hT.small;apply ah;refine BC s (i:=3) rfl rfl hu λw s=>?_;refine lI s 2 rfl (lI s 2 rfl (lS s 2 rfl ?_));refine Yg s (hC _ (Xs s)) (hX _ (Xs s)) hT hok hnd qe λda dc ra rc w s _=>?_;refine aS s λfb w s=>?_;refine sT s 0 rfl λw s=>?_;refine ax s (i:=0) rfl rfl rfl λw s=>?_;have s:=ay s;refine lS s 0 rfl (lS s 0 rfl ?_);refine V8 s (hX _ (Xs (ai (ai (ai s))))) (by omega) λsa sc w s _=>?_;refine⟨cg s 1 rfl,cg s 1 rfl,?_⟩;rw[ha]at s;refine WrE (q:=⟨e9,sa,ln,sc,da,cs.length,dc,ra,cs.length,rc,xs,ju tw th cs xs,nT tw th cs xs⟩) s (i:=8) rfl BO λw s=>?_;refine lS s 1 rfl (lS s 1 rfl ?_);refine NX s (aN s (i:=3) rfl cF (by decide)) (aN s (i:=2) rfl cF (by decide)) (by omega) (by omega) λLV LW ra' rc' w s _=>?_;refine sT s 7 rfl λw s=>?_;refine ax s (i:=7) rfl rfl rfl λw s=>?_;refine lS s 7 rfl (lS s 7 rfl ?_);apply h ⟨e9,sa,ln,sc,da,cs.length,dc,ra,cs.length,rc,xs,ju tw th cs xs,nT tw th cs xs⟩ LV LW ra' rc' w rfl rfl rfl rfl;rw[<-ha]at s;have s1:=f_ (A:=[_,_,_,_,_,_,_,_,_,_,_]) (B:=[ak sa ln sc 294 3 (flat fT xs),ak da cs.length dc 3 1 (flat one (ju tw th cs xs)),ak ra cs.length rc 3 1 (flat one (nT tw th cs xs)),ak ra' cs.length rc' 3 1 (flat one (nT tw th cs xs)),ak LV cs.length LW 3 1 (flat one (ju tw th cs xs)),av r.p 135 (GI r {x with b:=Ta.sat x.b 1}),Lr.HY r.lp k x.l r.lr,ak r.a r.n r.c 303 4 (flat E3 (x.es.set slot ⟨e9,sa,ln,sc,da,cs.length,dc,ra,cs.length,rc,xs,ju tw th cs xs,nT tw th cs xs⟩))]) [2,5,4,0,1,9,6,10] s ?_ (by decide)
 ·have s2:=dz (Ps:=[_,_,_]) s1 trivial;simp[List.append_eq,List.cons_append,List.nil_append]at s2;have s3:=SR (i:=5+slot) s2;have e:∀(A B C D E G:As),(A::B::C::D::E::(x.es.map GH++L)).set (5+slot) G=A::B::C::D::E::((x.es.map GH).set slot G++L):=λA B C D E G=>by rw[Nat.add_comm 5 slot];simp[List.set_cons_succ];rw[List.set_append_left _ _ (by rw[List.length_map];exact BO)]
  rw[e]at s3;rw[show(x.es.map GH).set slot (aW True [ak sa ln sc 294 3 (flat fT xs),ak da cs.length dc 3 1 (flat one (ju tw th cs xs)),ak ra cs.length rc 3 1 (flat one (nT tw th cs xs))])=(x.es.set slot ⟨e9,sa,ln,sc,da,cs.length,dc,ra,cs.length,rc,xs,ju tw th cs xs,nT tw th cs xs⟩).map GH from by rw[List.map_set];rfl]at s3;have s4:=IB (ck s3 (L':=Xr r k ⟨x.l,x.es.set slot ⟨e9,sa,ln,sc,da,cs.length,dc,ra,cs.length,rc,xs,ju tw th cs xs,nT tw th cs xs⟩,Ta.sat x.b 1,x.h,x.st,x.ev⟩++(ak ra' cs.length rc' 3 1 (flat one (nT tw th cs xs))::ak LV cs.length LW 3 1 (flat one (ju tw th cs xs))::L)) ?_)
  ·exact ck s4 ((List.Perm.swap _ _ _).trans (List.Perm.cons _ (List.Perm.swap _ _ _)))
  ·exact al_ rfl
 ·rfl
def aoP {c:Bool}{v:Int}(h:Ta.U v):Ta.U (bump c v):=by
 unfold bump;split
 ·exact Ta.GA h (by unfold Ta.U;omega)
 ·exact h
attribute [local irreducible] pK in
theorem atl {Q:Option Addr->Nat->Nat->Option Addr->Nat->Nat->Int->World->Prop}{rb tb slot g o:Nat}{e9:Int}{had out:Bool}(hT:rW tw th cs)(hok:rU tw th cs xs=true)(hnd:xs.Nodup)(qe:ln<2000)(hC:∀w',Sep F W w' L->Sl w' ca cn cc 1 bp cs)(hX:∀w',Sep F W w' L->Sl w' la ln lc 3 fT xs)(BO:slot<x.es.length)(hu:ShU x)(ha:r.a=some ⟨g,o,none⟩)
  (s:Sep F W w (WC r k x rb tb tw th ca cn cc L))
  (h:∀q da dc ra rc w',q.e9=e9->q.iP=xs->q.ds=ju tw th cs xs->q.rs=nT tw th cs xs->Sep F W w' (ak ra cs.length rc 3 1 (flat one (nT tw th cs xs))::ak da cs.length dc 3 1 (flat one (ju tw th cs xs))::jX r k ⟨x.l,x.es.set slot q,Ta.sat x.b 1,x.h,bump had x.st,bump out x.ev⟩::L)->Q da cs.length dc ra cs.length rc 0 w'):
  jl Q (sZ r.p) e9 la ln lc (aZ tb) (aZ rb) had out ⟨g,o+slot*4,none⟩ w:=by
 have hb:=hu.b;have b12:∀(x':AW) (w:World),x'.l=x.l->x'.es=x.es->x'.b=x.b->x'.h=x.h->x'.st=bump had x.st->x'.ev=x.ev->Sep F W w (WC r k x' rb tb tw th ca cn cc L)->pL Q (sZ r.p) e9 la ln lc (aZ tb) (aZ rb) out ⟨g,o+slot*4,none⟩ w:=by
  rintro ⟨l',es',b',h',st',ev'⟩ w e1 e2 e3 e4 e5 e6 s;subst e1 e2 e3 e4 e5 e6;unfold pL;cases out with
  |true=>
   rw[cond_true];apply ah;refine BC s (i:=3) rfl rfl hu.ev λw s=>?_;exact akW (x:=⟨x.l,x.es,x.b,x.h,bump had x.st,Ta.sat x.ev 1⟩) hT hok hnd qe hC hX BO hb ha s h
  |false=>exact akW (x:=⟨x.l,x.es,x.b,x.h,bump had x.st,x.ev⟩) hT hok hnd qe hC hX BO hb ha s h
 unfold jl;cases had with
 |true=>
  rw[cond_true];apply ah;refine BC s (i:=3) rfl rfl hu.st λw s=>?_;exact b12 ⟨x.l,x.es,x.b,x.h,Ta.sat x.st 1,x.ev⟩ w rfl rfl rfl rfl rfl rfl s
 |false=>exact b12 x w rfl rfl rfl rfl rfl rfl s
attribute [local irreducible] jl in
theorem aoQ {Q:Option Addr->Nat->Nat->Option Addr->Nat->Nat->Int->World->Prop}{rb tb slot:Nat}{e9:Int}{had out:Bool}(hT:rW tw th cs)(hok:rU tw th cs xs=true)(hnd:xs.Nodup)(qe:ln<2000)(hC:∀w',Sep F W w' L->Sl w' ca cn cc 1 bp cs)(hX:∀w',Sep F W w' L->Sl w' la ln lc 3 fT xs)(BO:slot<x.es.length)(hu:ShU x)
  (hh:had=true->∀q,x.es[slot]? =some q->q.e9=e9->q.iP=xs->q.ds=ju tw th cs xs/\q.rs=nT tw th cs xs)(LM:∀q∈x.es,q.iP.length<2000)
  (s:Sep F W w (WC r k x rb tb tw th ca cn cc L))
  (h:∀x' da dc ra rc w',x'.l=x.l->x'.p=(if WB x.p.es slot had e9 xs=true then⟨x.l,x.p.es,x.b,Ta.sat x.h 1,x.st,x.ev⟩else⟨x.l,x.p.es.set slot ⟨e9,xs,ju tw th cs xs,nT tw th cs xs⟩,Ta.sat x.b 1,x.h,bump had x.st,bump out x.ev⟩)->Sep F W w' (ak ra cs.length rc 3 1 (flat one (nT tw th cs xs))::ak da cs.length dc 3 1 (flat one (ju tw th cs xs))::jX r k x'::L)->Q da cs.length dc ra cs.length rc 0 w'):
  qL Q (sZ r.p) e9 la ln lc (aZ tb) (aZ rb) slot had out w:=by
 have kes:=aN s (i:=4) rfl yd (by decide);obtain⟨q0,hq0⟩:∃q,x.es[slot]? =some q:=⟨_,List.getElem?_eq_getElem BO⟩;have hp0:x.p.es[slot]? =some q0.p:=by show(x.es.map zF.p)[slot]? =_;rw[List.getElem?_map,hq0];rfl
 have ad7:∀w g o,r.a=some ⟨g,o,none⟩->WB x.p.es slot had e9 xs=false->Sep F W w (WC r k x rb tb tw th ca cn cc L)->jl Q (sZ r.p) e9 la ln lc (aZ tb) (aZ rb) had out ⟨g,o+slot*4,none⟩ w:=λw g o ha ayr s=>by
  refine atl hT hok hnd qe hC hX BO hu ha s λq da dc ra rc w' e1 e2 e3 e4 s=>?_;refine h ⟨x.l,x.es.set slot q,Ta.sat x.b 1,x.h,bump had x.st,bump out x.ev⟩ da dc ra rc w' rfl ?_ s;rw[ayr,if_neg (by decide)];have:q.p=⟨e9,xs,ju tw th cs xs,nT tw th cs xs⟩:=by rw[zF.p,e1,e2,e3,e4]
  rw[<-this];unfold AW.p;simp[List.map_set]
 refine ah (lS s 3 rfl ?_);have hn:=kes.len;have hqs:=LM q0 (List.mem_of_getElem? hq0);refine CF s (i:=4) rfl rfl (by omega) λg o ha=>?_;rw[cq,Int.toNat_natCast];have rd:∀{w:World} {x':AW},x'.es=x.es->Sep F W w (WC r k x' rb tb tw th ca cn cc L)->Sep F W w (Lr.HY r.lp k x'.l r.lr::av rb 213 [.slice none 0 0,.slice none 0 0]::av tb 84 [ae tw,ae th,.slice ca cn cc]::av r.p 135 (GI r x')::ak (some ⟨g,o,none⟩) r.n r.c 303 4 (flat E3 x.es)::(x.es.map GH++L)):=λe s=>by rw[<-ha,<-e];exact s
 have ad:∀j,(⟨g,o+slot*4,none⟩:Addr).add j=⟨g,o+(slot*4+j),none⟩:=λj=>by rw[cq,Nat.add_assoc]
 have kq:∀{w:World} {x':AW},x'.es=x.es->Sep F W w (WC r k x' rb tb tw th ca cn cc L)->Sl w q0.sa q0.sn q0.sc 3 fT q0.iP/\Sl w q0.da q0.dn q0.dc 1 one q0.ds/\Sl w q0.ra q0.rn q0.rc 1 one q0.rs:=λ{w x'} e s=>by apply aqP (i:=5+slot) s;rw[Nat.add_comm 5 slot];simp[List.getElem?_cons_succ];rw[List.getElem?_append_left (by rw[List.length_map,e];exact BO),List.getElem?_map,e,hq0];rfl
 cases had with
 |false=>
  exact ad7 _ g o ha rfl s
 |true=>
  apply eG yd (rd rfl s) (i:=4) rfl hq0 (ad 0) rfl;by_cases hv:q0.e9=e9
  ·rw[show(q0.e9==e9)=true from beq_iff_eq.2 hv,cond_true];apply Io yd (rd rfl s) (i:=4) rfl hq0 (ad 1) rfl;have kq0:=(kq rfl s).1;refine Z6 kq0 (hX _ (Xs s)) s (by have:=kq0.len;omega) (by omega) λw s _=>?_;by_cases he:q0.iP=xs
   ·rw[bM he];apply ah;refine BC s (i:=3) rfl rfl hu.h λw s=>?_;have s:=s;have kq1:=(kq (x':=⟨x.l,x.es,x.b,Ta.sat x.h 1,x.st,x.ev⟩) rfl s).2;obtain⟨hd,hr⟩:=hh rfl q0 hq0 hv he;have hdl:q0.dn=cs.length:=by rw[<-kq1.1.len,hd];exact Z7
    have hrl:q0.rn=cs.length:=by rw[<-kq1.2.len,hr];simp[nT]
    have v9:=hT.small;apply Io yd (rd (x':=⟨x.l,x.es,x.b,Ta.sat x.h 1,x.st,x.ev⟩) rfl s) (i:=4) rfl hq0 (by rw[add_add,ad]) rfl;apply Io yd (rd (x':=⟨x.l,x.es,x.b,Ta.sat x.h 1,x.st,x.ev⟩) rfl s) (i:=4) rfl hq0 (by rw[add_add,ad]) rfl;refine NX s kq1.1 kq1.2 (by omega) (by omega) λLV LW ra' rc' w s _=>?_;refine sT s 3 rfl λw s=>?_;refine ax s (i:=3) rfl rfl rfl λw s=>?_;refine lS s 3 rfl (lS s 3 rfl ?_);rw[hdl,hrl]at s⊢;refine h ⟨x.l,x.es,x.b,Ta.sat x.h 1,x.st,x.ev⟩ LV LW ra' rc' w rfl ?_ ?_
    ·have:WB x.p.es slot true e9 xs=true:=by rw[WB,hp0];show(true&&(q0.e9==e9&&decide (q0.iP=xs)))=true;rw[hv,he];simp
     rw[this,if_pos rfl];rfl
    ·rw[hd,hr]at s;exact aqR (f_ (A:=[_,_,_,_,_,_,_]) (B:=[_,_,_,_,_]) [0,1,5,2,6] s rfl (by decide))
   ·rw[bq he];refine ad7 _ g o ha ?_ s;rw[WB,hp0];show(true&&(q0.e9==e9&&decide (q0.iP=xs)))=false;rw[decide_eq_false he,Bool.and_false,Bool.and_false]
  ·rw[show(q0.e9==e9)=false from beq_eq_false_iff_ne.2 hv,cond_false];refine ad7 _ g o ha ?_ s;rw[WB,hp0];show(true&&(q0.e9==e9&&decide (q0.iP=xs)))=false;rw[show(q0.e9==e9)=false from beq_eq_false_iff_ne.2 hv,Bool.false_and,Bool.and_false]
end
structure aem (k:Int) (y:TK):Prop where
 one:1<=k
 room:k<=100000
 good:Lr.Good k y.l
 len:y.es.length=y.l.length
 b:Ta.U y.b
 h:Ta.U y.h
 st:Ta.U y.st
 ev:Ta.U y.ev
 nS:∀q∈y.es,q.iP.length<2000
def Xn {k:Int}{l:Lr.KS}{key:Int×Int}(hk:1<=k)(hg:Lr.Good k l):∃m:Nat,(Lr.kL k l key).1.1=m/\((m=l.length/\(Lr.kL k l key).1.2.1=false/\(Lr.kL k l key).1.2.2=false/\(Lr.kL k l key).2.length=l.length+1)\/(m<l.length/\(Lr.kL k l key).2.length=l.length)):=by
 unfold Lr.kL;cases hf:l.find? (λp=>decide (p.1=key))with
 |some p=>
  have hp:=List.mem_of_find?_eq_some hf;have he:p.1=key:=by grind
  refine⟨p.2,rfl,.inr ⟨hg.lt p hp,?_⟩⟩;have:∀{l:Lr.KS},(l.map (·.1)).Nodup->p∈l->(l.filter λq=>!decide (q.1=key)).length+1=l.length:=by
   intro l;induction l with
   |nil=>grind
   |cons a l ih=>
    intro hn hp;rcases List.mem_cons.1 hp with rfl|hp
    ·rw[List.filter_cons_of_neg (by simp[he]),List.length_cons];congr 1;refine congrArg List.length (List.filter_eq_self.2 λb hb=>?_);grind
    grind
  exact this hg.FB hp
 |none=>
  simp only;split
  ·grind
  ·cases hl:l.getLast? with
   |none=>
    grind
   |some p=>
    have hp:=List.mem_of_getLast? hl;refine⟨p.2,rfl,.inr ⟨hg.lt p hp,?_⟩⟩;grind
def aqS {k:Int}{y:TK}{key:Int×Int}{q:DP}(h:aem k y)(hq:q.iP.length<2000):aem k (Cv k y key q):=by
 obtain⟨m,hm,hc⟩:=Xn h.one h.good;have hg:=Lr.aah (key:=key) h.one h.good;have oZ:∀e∈(if(Lr.kL k y.l key).1.1=(y.es.length:Int)then y.es++[aap]else y.es),e.iP.length<2000:=by
  intro e he;split at he
  ·rcases List.mem_append.1 he with he|he
   ·exact h.nS e he
   ·rw[List.mem_singleton]at he;rw[he];exact Nat.zero_lt_succ _
  ·exact h.nS e he
 have hlen:(if(Lr.kL k y.l key).1.1=(y.es.length:Int)then y.es++[aap]else y.es).length=(Lr.kL k y.l key).2.length:=by
  rw[hm,h.len];rcases hc with⟨h1,_,_,h2⟩|⟨h1,h2⟩
  ·rw[AI,List.length_append,h2,h.len];rfl
  ·rw[fR,h2,h.len]
 unfold Cv;simp only;generalize (if(Lr.kL k y.l key).1.1=(y.es.length:Int)then y.es++[aap]else y.es)=YN at oZ hlen⊢;split
 ·exact⟨h.one,h.room,hg,hlen,h.b,Ta.GA h.h (by unfold Ta.U;omega),h.st,h.ev,oZ⟩
 ·refine⟨h.one,h.room,hg,by grind,Ta.GA h.b (by unfold Ta.U;omega),h.h,aoP h.st,aoP h.ev,λe he=>?_⟩;grind
section
variable {F:Nat->Prop}{W w w0:World}{L:List As}{r:WA}{k:Int}{x:AW}{tw th:Int}{ca la:Option Addr}{cn cc ln lc:Nat}{cs:List Int}{xs:List bj}
def atm (s:Sep F W w L):Sep F W w (GH IA::L):=by have s1:=bE (bE (bE s 3 1) 3 1) 294 3;exact dz s1 trivial
attribute [local irreducible] qL in
theorem WD {Q:Option Addr->Nat->Nat->Option Addr->Nat->Nat->Int->World->Prop}{goal L9 e9:Int}(hx:aem k x.p)(hT:rW tw th cs)(hok:rU tw th cs xs=true)(hnd:xs.Nodup)(qe:ln<2000)(hC:∀w',Sep F W w' L->Sl w' ca cn cc 1 bp cs)(hX:∀w',Sep F W w' L->Sl w' la ln lc 3 fT xs)(hkey:Lr.YI (goal,L9))
  (hh:(Lr.kL k x.l (goal,L9)).1.2.1=true->∀q,x.p.es[(Lr.kL k x.l (goal,L9)).1.1.toNat]? =some q->q.e9=e9->q.iP=xs->q.ds=ju tw th cs xs/\q.rs=nT tw th cs xs)
  (s:Sep F W w (jX r k x::L))
  (h:∀r' x' da dc ra rc w',r'.p=r.p->x'.p=Cv k x.p (goal,L9) ⟨e9,xs,ju tw th cs xs,nT tw th cs xs⟩->Sep F W w' (ak ra cs.length rc 3 1 (flat one (nT tw th cs xs))::ak da cs.length dc 3 1 (flat one (ju tw th cs xs))::jX r' k x'::L)->Q da cs.length dc ra cs.length rc 0 w'):
  oo (sZ r.p) goal L9 e9 tw th ca cn cc la ln lc w Q:=by
 apply Qt;refine aO s λtb w s=>?_;refine aS s λrb w s=>?_;refine lI s 1 rfl (lI s 1 rfl (lS s 1 rfl ?_));have tl:∀{w:World} {A B C:As},Sep F W w (A::B::C::L)->Sep F W w L:=λs=>ai (ai (ai s));refine Nx s (hC _ (tl s)) (hX _ (tl s)) (by omega) λw s _=>?_;rw[hok,Bool.not_true,cond_false];have s:=aqQ s;refine ah (lP s 3 rfl ?_);have NM:x.l.length<=1000000:=by have h1:=hx.good.room;have h2:=hx.room;have h3:x.p.l=x.l:=rfl;grind
 refine Lr.aoy s hkey NM λlr' w s=>?_;have hlen:x.es.length=x.l.length:=by have:=hx.len;show _=x.p.l.length;rw[<-this];show _=(x.es.map zF.p).length;grind
 obtain⟨m,hm,hc⟩:=Xn hx.one hx.good;have hxl:x.p.l=x.l:=rfl;rw[hxl]at hm hc;have hp:(x.p.es.length:Int)=x.es.length:=by show((x.es.map zF.p).length:Int)=_;grind
 have hu:ShU ⟨(Lr.kL k x.l (goal,L9)).2,x.es,x.b,x.h,x.st,x.ev⟩:=⟨hx.b,hx.h,hx.st,hx.ev⟩;have LM:∀q∈x.es,q.iP.length<2000:=λq hq=>hx.nS q.p (List.mem_map.2 ⟨q,hq,rfl⟩);generalize hu2:Lr.kL k x.l (goal,L9)=u at s hm hc hh h hu⊢;obtain⟨⟨slot,had,out⟩,l'⟩:=u;subst hm;have s:=s;have kl:=(aN s (i:=4) rfl yd (by decide)).len;refine ah (lS s 3 rfl ?_);by_cases hm:m=x.l.length
 ·obtain⟨_,e1,e2,e3⟩:m=x.l.length/\had=false/\out=false/\l'.length=x.l.length+1:=by
   rcases hc with hc|hc
   ·exact hc
   ·omega
  subst e1 e2;rw[show((m:Int)==(r.n:Int))=true from beq_iff_eq.2 (by rw[hm,<-hlen,<-kl]),cond_true];refine ah (lS s 3 rfl ?_);refine aO s λb w s=>?_;have src:Src w (sZ b) 1 4 (E3 IA):=⟨rfl,aqO _,λj u hj=>by rw[cq,Nat.zero_add];exact cM s (i:=0) rfl rfl hj⟩;refine ig ee s (i:=5) rfl rfl rfl rfl rfl rfl (by decide) rfl src (by simp[maxLen];omega) (by show(r.n+1)*80<=_;omega) (λe=>by cases e) λa1 c1 w s=>?_;rw[show flat E3 x.es++E3 IA=flat E3 (x.es++[IA])from by rw[fX];simp[flat]]at s;refine ah (sT s 4 rfl λw s=>?_);have s:=atm (ai s);have s:Sep F W w (WC ⟨r.p,r.lp,lr',a1,r.n+1,c1⟩ k ⟨l',x.es++[IA],x.b,x.h,x.st,x.ev⟩ rb tb tw th ca cn cc L):=by apply ck s;show List.Perm _ (_::_::_::_::_::((x.es++[IA]).map GH++L));rw[List.map_append,List.append_assoc];exact(List.perm_middle (l₁:=[_,_,_,_,_]++x.es.map GH)).symm
  refine aoQ (r:=⟨r.p,r.lp,lr',a1,r.n+1,c1⟩) (x:=⟨l',x.es++[IA],x.b,x.h,x.st,x.ev⟩) hT hok hnd qe hC hX (by show m<(x.es++[IA]).length;rw[List.length_append];simp;omega) ⟨hx.b,hx.h,hx.st,hx.ev⟩ (λe=>by cases e) ?_ s ?_
  ·intro q hq;rcases List.mem_append.1 hq with hq|hq
   ·exact LM q hq
   ·rw[List.mem_singleton]at hq;rw[hq];exact Nat.zero_lt_succ _
  ·intro x' da dc ra rc w' e1 e2 s;refine h ⟨r.p,r.lp,lr',a1,r.n+1,c1⟩ x' da dc ra rc w' rfl ?_ s;rw[e2];rw[Cv,hxl,hu2];simp only;have e3:(m:Int)=(x.p.es.length:Int):=by rw[hp];omega
   rw[if_pos e3];have:(x.p.es++[aap])=TK.es (AW.p ⟨l',x.es++[IA],x.b,x.h,x.st,x.ev⟩):=by show(x.es.map zF.p)++_=(x.es++[IA]).map zF.p;rw[List.map_append];rfl
   rw[this];rfl
 ·rw[show((m:Int)==(r.n:Int))=false from beq_eq_false_iff_ne.2 (by omega),cond_false];refine aoQ (r:=⟨r.p,r.lp,lr',r.a,r.n,r.c⟩) hT hok hnd qe hC hX (by show m<x.es.length;omega) hu ?_ LM s ?_
  ·intro e q hq e1 e2;have:=hh e q.p (by show(x.es.map zF.p)[m]? =_;rw[List.getElem?_map,hq];rfl) e1 e2
   exact this
  ·intro x' da dc ra rc w' e1 e2 s;refine h ⟨r.p,r.lp,lr',r.a,r.n,r.c⟩ x' da dc ra rc w' rfl ?_ s;rw[e2];rw[Cv,hxl,hu2];simp only;have e3:¬(m:Int)=(x.p.es.length:Int):=by rw[hp];omega
   rw[if_neg e3];rfl
end
end Go.Proofs.YtmegplnmiepfbaaGreatDoor.S
namespace Go.Proofs.YtmegplnmiepfbaaGreatDoor.S.Lr
open Go.Sx
def aoS {l:KS}(hnd:(l.map (·.1)).Nodup){p:(Int×Int)×Nat}(hp:p∈l):Xm l p.1=p.2:=by rw[Xm,YG hnd hp]
def aqT {l:KS}{key:Int×Int}(h:∀p∈l,p.1≠key):Xm l key=-1:=by unfold Xm;grind
def afy {l:KS}(h:(l.map (·.2)).Nodup){p q:(Int×Int)×Nat}(hp:p∈l)(hq:q∈l)(e:p.2=q.2):p=q:=by
 induction l with
 |nil=>cases hp
 |cons x l ih=>
  grind
structure Used (l l':KS) (key:Int×Int) (k:Int) (s:Int) (had out:Bool):Prop where
 good:Good k l'
 slot:∃m:Nat,s=m/\(key,m)∈l'
 ays:had=decide (Xm l key≥0)
 hit:had=true->s=Xm l key/\out=false
 mem:∀p:(Int×Int)×Nat,p.1≠key->(p∈l'↔p∈l/\(out=true->(p.2:Int)≠s))
 off:∀p∈l,p.1≠key->(p.2:Int)=s->out=true
def used {k:Int}{l:KS}{key:Int×Int}(hk:1<=k)(h:Good k l):Used l (kL k l key).2 key k (kL k l key).1.1 (kL k l key).1.2.1 (kL k l key).1.2.2:=by
 have hg:=aah (key:=key) hk h;unfold kL at hg⊢;cases hf:l.find? (λp=>decide (p.1=key))with
 |some q=>
  rw[hf]at hg;obtain⟨rfl,hq⟩:=NS hf;simp only at hg⊢;have hfq:=aoS h.FB hq;refine⟨hg,⟨q.2,rfl,List.mem_cons_self⟩,by grind,λ_=>⟨hfq.symm,rfl⟩,λp hp=>?_,λp hp hne e=>?_⟩
  ·grind
  ·exact(hne (by rw[afy h.nd hp hq (by omega)])).elim
 |none=>
  have hn:=afr hf;have hfn:=aqT hn;rw[hf]at hg;by_cases hroom:(l.length:Int)<k
  ·rw[if_pos hroom]at hg⊢;refine⟨hg,⟨l.length,rfl,List.mem_cons_self⟩,by rw[hfn];rfl,(λh=>by cases h),λp hp=>?_,λp hp hne e=>?_⟩
   ·grind
   ·have:=h.lt p hp;grind
  ·rw[if_neg hroom]at hg⊢;have hne:l≠[]:=λe=>by grind
   obtain⟨ys,q,rfl⟩:∃ys q,l=ys++[q]:=⟨l.dropLast,l.getLast hne,(List.dropLast_concat_getLast hne).symm⟩;rw[List.getLast?_concat,List.dropLast_concat]at hg⊢;simp only at hg⊢;refine⟨hg,⟨q.2,rfl,List.mem_cons_self⟩,by rw[hfn];rfl,(λh=>by cases h),λp hp=>?_,λp hp hne e=>rfl⟩;rw[List.mem_cons];constructor
   ·rintro (e|h1)
    ·grind
    ·refine⟨by simp[h1],λ_ e=>?_⟩;have e1:=afy h.nd (p:=p) (q:=q) (by simp[h1]) (by simp) (by omega);subst e1;have:=h.FB;grind
   grind
end Go.Proofs.YtmegplnmiepfbaaGreatDoor.S.Lr
namespace Go.Proofs.YtmegplnmiepfbaaGreatDoor.S
open Go.Sx
attribute [local irreducible] af cE bw bg aA cu bY St Bx Al App cJ cB cz bW aL bD aq bT av ak aW mapA
def S2 (V:Int×Int->DP->Prop)(y:TK):Prop:=∀key i q,(key,i)∈y.l->y.es[i]? =some q->V key q
def afz {V:Int×Int->DP->Prop}{b h st ev:Int}:S2 V ⟨[],[],b,h,st,ev⟩:=λ_ _ _ h=>by cases h
def ama {V V':Int×Int->DP->Prop}{y:TK}(h:S2 V y)(hv:∀key q,V key q->V' key q):S2 V' y:=λkey i q h1 h2=>hv _ _ (h key i q h1 h2)
def aiU {k:Int}{y:TK}{key:Int×Int}{V:Int×Int->DP->Prop}(h:aem k y)(hr:S2 V y){q:DP}(hh:(Lr.kL k y.l key).1.2.1=true)(hq:y.es[(Lr.kL k y.l key).1.1.toNat]? =some q):V key q:=by have hu:=Lr.used (key:=key) h.one h.good;have h2:=hu.ays;rw[hh]at h2;obtain⟨m,hm,hl⟩:=hu.slot;refine hr key m q ?_ (by grind);unfold Lr.kL at hm hh;grind
def aoT {k:Int}{y:TK}{key:Int×Int}{V:Int×Int->DP->Prop}{q:DP}(h:aem k y)(hr:S2 V y)(hv:V key q):S2 V (Cv k y key q):=by
 have hu:=Lr.used (key:=key) h.one h.good;obtain⟨m,hm,hc⟩:=Xn h.one h.good;have hlen:=h.len;have YL:∀(i:Nat) (e:DP),i≠m\/(Lr.kL k y.l key).1.2.1=true->i<y.l.length->(if(Lr.kL k y.l key).1.1=(y.es.length:Int)then y.es++[aap]else y.es)[i]? =some e->y.es[i]? =some e:=by grind
 have other:∀key' i,key'≠key->(key',i)∈(Lr.kL k y.l key).2->(key',i)∈y.l/\i≠m/\i<y.l.length:=by intro key' i hne hmem;have h1:=(hu.mem (key',i) hne).1 hmem;refine⟨h1.1,λe=>?_,h.good.lt _ h1.1⟩;subst e;have h2:=hu.off _ h1.1 hne (by rw[hm]);grind
 have same:∀i,(key,i)∈(Lr.kL k y.l key).2->i=m:=by intro i hmem;obtain⟨m',h1,h2⟩:=hu.slot;have:=Lr.SV hu.good.FB hmem h2 rfl;grind
 unfold Cv;simp only;generalize (if(Lr.kL k y.l key).1.1=(y.es.length:Int)then y.es++[aap]else y.es)=YN at YL⊢;split
 ·rename_i hit;unfold WB at hit;rw[Bool.and_eq_true]at hit;intro key' i e hmem he;by_cases hk:key'=key
  ·subst hk;have hi:=same i hmem;subst hi;have hlt:i<y.l.length:=by grind
   have h1:=YL i e (.inr hit.1) hlt he;exact aiU h hr hit.1 (by grind)
  ·obtain⟨h1,h2,h3⟩:=other key' i hk hmem;exact hr key' i e h1 (YL i e (.inl h2) h3 he)
 ·intro key' i e hmem he;rw[hm,Int.toNat_natCast]at he;by_cases hk:key'=key
  ·subst hk;have hi:=same i hmem;subst hi;rw[List.getElem?_set]at he;split at he
   ·split at he
    ·cases he;exact hv
    ·cases he
   ·rename_i hne;exact(hne rfl).elim
  ·obtain⟨h1,h2,h3⟩:=other key' i hk hmem;rw[List.getElem?_set_ne (λe=>h2 e.symm)]at he;exact hr key' i e h1 (YL i e (.inl h2) h3 he)
section
variable {F:Nat->Prop}{W w w0:World}{L:List As}{r:WA}{k:Int}{x:AW}
def acm {Q:Option Addr->World->Prop}(s:Sep F W w L)(hno:k<1->Q none w)(h:1<=k->∀r w',Sep F W w' (jX r k ⟨[],[],0,0,0,0⟩::L)->Q (sZ r.p) w'):F1 k w Q:=by
 apply aa_;by_cases hk:k<1
 ·grind
 ·rw[bq hk];refine Lr.aox s (λe=>(hk e).elim) λ_ lp lr w s=>?_;refine aO s λp w s=>?_;refine h (by omega) ⟨p,lp,lr,none,0,0⟩ w (IB ?_);exact ck (bE s 303 4) ((List.Perm.swap _ _ _).trans (List.Perm.cons _ (List.Perm.swap _ _ _)))
def OX {Q:World->Prop}(hk:1<=k)(s:Sep F W w (jX r k x::L))(h:∀r' w',r'.p=r.p->Sep F W w' (jX r' k ⟨[],[],x.b,x.h,x.st,x.ev⟩::L)->Q w'):qt (sZ r.p) w Q:=by apply ME;have s:=ack s;have s:=s;refine isS (ah (lP s 0 rfl ?_));have s:=gC s (.cons_cons _ (.cons_cons _ (.cons _ (List.sublist_append_right _ _))));have s:=(Lr.aiE (iZ s)).2;have s:=gC s (.cons_cons _ (.cons _ (.cons _ (List.Sublist.refl _))));refine Lr.YJ hk s λlr w s=>?_;refine ah (sT s 1 rfl λw s=>?_);refine h ⟨r.p,r.lp,lr,none,0,0⟩ w rfl (IB ?_);exact ck (bE s 303 4) ((List.Perm.cons _ (List.Perm.swap _ _ _)).trans ((List.Perm.swap _ _ _).trans (List.Perm.cons _ (List.Perm.swap _ _ _))))
def amb {i:Nat}(s:Sep F W w L)(hi:L[i]? =some (jX r k x)):rV w r.p (GI r x):=kZ (IM s hi) (i:=0) rfl
def aBL:zc T 32=[.int .u64 0,.int .u64 0,.int .u64 0,.int .u64 0,.int .u64 0,.int .u64 0]:=rfl
def aiV {p:Nat}{v0 v1 v2 v3 v4 v5:Value}{a b c d e f:Int}{Q:Int->Int->Int->Int->Int->Int->World->Prop}(s:Sep F W w (av p 32 [v0,v1,v2,v3,v4,v5]::L))(h:∀w',Sep F W w' (av p 32 [.int .u64 a,.int .u64 b,.int .u64 c,.int .u64 d,.int .u64 e,.int .u64 f]::L)->Q a b c d e f w'):
  St ((aZ p).add 0) (.int .u64 a) w λw=>St ((aZ p).add 1) (.int .u64 b) w λw=>St ((aZ p).add 2) (.int .u64 c) w λw=>St ((aZ p).add 3) (.int .u64 d) w λw=>St ((aZ p).add 4) (.int .u64 e) w λw=>St ((aZ p).add 5) (.int .u64 f) w λw=>
   af .u64 ((aZ p).add 0) w λa=>af .u64 ((aZ p).add 1) w λb=>af .u64 ((aZ p).add 2) w λc=>af .u64 ((aZ p).add 3) w λd=>af .u64 ((aZ p).add 4) w λe=>af .u64 ((aZ p).add 5) w λf=>Q a b c d e f w:=by
 refine sT s 0 rfl λw s=>?_;refine sT s 0 rfl λw s=>?_;refine sT s 0 rfl λw s=>?_;refine sT s 0 rfl λw s=>?_;refine sT s 0 rfl λw s=>?_;refine ax s (i:=0) rfl rfl rfl λw s=>?_;exact lI s 0 rfl (lI s 0 rfl (lI s 0 rfl (lI s 0 rfl (lI s 0 rfl (lI s 0 rfl (h w s))))))
def aka {Q:Int->Int->Int->Int->Int->Int->World->Prop}(s0:Sep F W w L)(kb:rV w r.p (GI r x))(h:∀w',Sep F W w' L->Fr No w w'->Q 0 0 x.b x.h x.st x.ev w'):wu (sZ r.p) w Q:=by apply Mz;refine aS (bh (F:=No)) λp w1 s1=>?_;have kb1:=kb.fr (au s1);refine kY (ah ?_);refine aR (kb1 2 _ rfl) (aR (kb1 3 _ rfl) (aR (kb1 4 _ rfl) (aR (kb1 5 _ rfl) (aR (kb1 6 _ rfl) (aR (kb1 7 _ rfl) ?_)))));exact aiV s1 λw' s'=>h w' (fu s0 (ai s')) (au s')
end
end Go.Proofs.YtmegplnmiepfbaaGreatDoor.S
namespace Go.Proofs.YtmegplnmiepfbaaGreatDoor.S
open Go.Sx
def KB (m:bJ)(c x:Int):bJ:=⟨m.w,m.h,m.cs.set c.toNat x⟩
section
variable {m:bJ}{g:iw}{ce x c sc:Int}
def aoU (hc:0<=ce/\ce<m.cs.length):cA (KB m ce x) c=if c=ce then x else cA m c:=by
 unfold cA KB;simp[List.length_set];by_cases e:c=ce
 ·subst e;unfold gi;grind
 ·by_cases h:0<=c/\c<m.cs.length
  ·unfold gi;grind
  grind
def aqU (hm:cI m)(hc:bF m.w m.h ce):0<=ce/\ce<m.cs.length:=⟨hc.2.1,by have:=hm.len;have:=hc.2.2;omega⟩
def aiW (hm:cI m)(hc:bF m.w m.h ce)(hne:cT m c≠cT m ce):cA (KB m ce x) c=cA m c:=by rw[aoU (aqU hm hc),if_neg λe=>hne (by rw[e])]
def afA (hm:cI m)(hs:dW m.w m.h sc)(hc:bF m.w m.h ce)(hne:sc≠cT m ce):dO (KB m ce x) sc=dO m sc:=by
 refine List.map_congr_left λl hl=>?_;have hl:=List.mem_range.1 hl;have hl:(0:Int)<=(l:Int)/\(l:Int)<aD m.w m.h sc*bz m.w m.h sc:=by have e:(KB m ce x).w=m.w/\(KB m ce x).h=m.h:=⟨rfl,rfl⟩;grind
 exact aiW hm hc (by show aC m.w m.h (bX m.w m.h sc l)≠_;rw[iU hs hl];exact hne)
def acn (hm:cI m)(hs:dW m.w m.h sc)(hc:bF m.w m.h ce)(hne:sc≠cT m ce):aY (KB m ce x) sc=aY m sc:=by
 rw[nodes_eq,nodes_eq];congr 1;show((List.range (aD m.w m.h sc*bz m.w m.h sc).toNat).filter λl=>yC m.w m.h sc 4 l&&eV (KB m ce x) (bX m.w m.h sc l))=_;refine List.filter_congr λl hl=>?_;have hl:=List.mem_range.1 hl;have hl:(0:Int)<=(l:Int)/\(l:Int)<aD m.w m.h sc*bz m.w m.h sc:=by omega
 unfold eV;rw[aiW hm hc (by show aC m.w m.h (bX m.w m.h sc l)≠_;rw[iU hs hl];exact hne)]
def aoV (hm:cI m)(hs:dW m.w m.h sc)(hc:bF m.w m.h ce)(hne:sc≠cT m ce):jH (KB m ce x) sc=jH m sc:=by unfold jH iX;rw[afA hm hs hc hne,acn hm hs hc hne];rfl
def aiX (hg:xy g)(hc:bF g.m.w g.m.h ce){i:Nat}:gi (xz g ce x).vs i=if(i:Int)=cT g.m ce then g.ep+1 else gi g.vs i:=by
 have hr:=bV hc;have hl:=hg.len;unfold xz gi cT;by_cases e:(i:Int)=aC g.m.w g.m.h ce
 ·have e1:(aC g.m.w g.m.h ce).toNat=i:=by omega
  have e2:(aC g.m.w g.m.h ce).toNat<g.vs.length:=by have:=hr.2;omega
  grind
 ·have e1:¬(aC g.m.w g.m.h ce).toNat=i:=by have:=hr.2.1;omega
  grind
def aoW {ms:nD}(hg:xy g)(hc:bF g.m.w g.m.h ce)(I:yD g ms):yD (xz g ce x) ms:=by
 have hlen:=I.len;refine⟨I.len,⟨by have:=I.old.1;show _<=g.ep+1;omega,λq hq=>by have:=I.old.2 q hq;show _<=g.ep+1;omega⟩,λe=>by have:=I.old.1;have e:ms.clean=g.ep+1:=e;omega,λi q hq hv=>?_,I.u⟩;rw[aiX hg hc]at hv;have hqe:=I.old.2 q (List.mem_of_getElem? hq);split at hv
 ·omega
 ·rename_i hne;have hi:=(List.getElem?_eq_some_iff.1 hq).1;have hs:dW g.m.w g.m.h i:=⟨hg.iO,by omega,by omega⟩;have h:=I.ok i q hq hv;have e1:aY (xz g ce x).m i=aY g.m i:=acn hg.may hs hc hne;have e2:jH (xz g ce x).m i=jH g.m i:=aoV hg.may hs hc hne;grind
def aoX {f:GG}(J:aci g f):aci (xz g ce x) f:=
 ⟨λq hq=>⟨by have:=(J.kept q hq).1;show _<=g.ep+1;omega,λe=>by have:=(J.kept q hq).1;have e:q.2.ep=g.ep+1:=e;omega⟩,J.u⟩
def aiY (g:iw)(key:Int×Int)(q:DP):Prop:=q.e9<=g.ep/\dW g.m.w g.m.h key.2/\(q.e9=zz g key.2->q.ds=ju (aD g.m.w g.m.h key.2) (bz g.m.w g.m.h key.2) (dO g.m key.2) q.iP/\q.rs=nT (aD g.m.w g.m.h key.2) (bz g.m.w g.m.h key.2) (dO g.m key.2) q.iP)
def amc (hg:xy g)(hc:bF g.m.w g.m.h ce){key:Int×Int}{q:DP}(h:aiY g key q):aiY (xz g ce x) key q:=by
 obtain⟨h1,h2,h3⟩:=h;refine⟨by show _<=g.ep+1;omega,h2,λhv=>?_⟩;have hl:=hg.len;have hk:=h2.2;have e:zz (xz g ce x) key.2=gi (xz g ce x).vs key.2.toNat:=by rw[zz,if_pos];refine⟨hk.1,?_⟩;show key.2<((g.vs.set _ _).length:Int);grind
 have e':zz g key.2=gi g.vs key.2.toNat:=by unfold zz;omega
 rw[e,aiX hg hc]at hv;split at hv
 ·omega
 ·rw[<-e']at hv;have h4:=h3 hv;have et:dO (xz g ce x).m key.2=dO g.m key.2:=afA hg.may h2 hc (by omega);rw[et];exact h4
end
end Go.Proofs.YtmegplnmiepfbaaGreatDoor.S
namespace Go.Proofs.YtmegplnmiepfbaaGreatDoor.S
open Go.Sx
open Go.Extern
section
variable {w:World}
def rt (n:Nat):Value:=.agg #[.pointer (some ⟨8,n,none⟩)]
def afB (v:Value)(w:World):(ReflectliteType.typeOf #[.iface 401 v]).run P w=.ok (.iface 219 (rt 401)) w:=by kernel_rfl
def akY (w:World):((ReflectliteType.method λt=>do Rtype.noPackHeld "Comparable" t;pure (.bool (<-typeInfo t).comparable)) #[rt 401]).run P w=.ok (.bool true) w:=by kernel_rfl
def aiZ (v:Value)(w:World):(Go.method (P.types.size+Made.depth) 219 v "Comparable").run P w=.ok (311,v) w:=by kernel_rfl
def S3 (v:Value)(w:World):(ReflectliteType.typeOf #[.iface 78 v]).run P w=.ok (.iface 219 (rt 78)) w:=by kernel_rfl
def GJ (v:Value)(w:World):(ReflectliteType.typeOf #[.iface 108 v]).run P w=.ok (.iface 219 (rt 108)) w:=by kernel_rfl
def GK (t:Addr)(w:World):(ReflectliteValue.unpack (.iface 120 (.pointer (some t)))).run P w
 =.ok (.agg #[.pointer (some ⟨8,120,none⟩),.pointer (sZ w.heap.size),.int .u64 150]) (w.alloc (.cells #[.pointer (some t)] 120)):=by kernel_rfl
def Ee (n:Int)(w:World):(ReflectliteValue.unpack (.iface 108 (ae n))).run P w
 =.ok (.agg #[.pointer (some ⟨8,108,none⟩),.pointer (sZ w.heap.size),.int .u64 130]) (w.alloc (.cells #[ae n] 108)):=by kernel_rfl
def Rc (a:Addr)(w:World):(ReflectliteValue.methodAny (ReflectliteValue.valueError "reflectlite.Value.Type" 0) (λt _ _ _=>ReflectliteType.toType t) #[.agg #[.pointer (some ⟨8,120,none⟩),.pointer (some a),.int .u64 150]]).run P w
 =.ok (.iface 219 (rt 120)) w:=by kernel_rfl
def H9 (h:Value)(w:World):(Go.method (P.types.size+Made.depth) 219 (.agg #[h]) "Kind").run P w=.ok (297,h) w:=by kernel_rfl
def L_ (w:World):((ReflectliteType.abiMethod λt=>(λa:Nat=>Value.int IntKind.u8 (a:Int))<$>Rtype.kind t) #[.pointer (some ⟨8,120,none⟩)]).run P w=.ok (.int .u8 22) w:=by kernel_rfl
def Ma (w:World):((ReflectliteType.abiMethod λt=>(λa:Nat=>Value.int IntKind.u8 (a:Int))<$>Rtype.kind t) #[.pointer (some ⟨8,108,none⟩)]).run P w=.ok (.int .u8 2) w:=by kernel_rfl
def aaq (h:Value)(w:World):(Go.method (P.types.size+Made.depth) 219 (.agg #[h]) "Elem").run P w=.ok (312,.agg #[h]) w:=by kernel_rfl
def aen (h:Value)(w:World):(Go.method (P.types.size+Made.depth) 219 (.agg #[h]) "Implements").run P w=.ok (313,.agg #[h]) w:=by kernel_rfl
def Re (h:Value)(w:World):(Go.method (P.types.size+Made.depth) 219 (.agg #[h]) "AssignableTo").run P w=.ok (310,.agg #[h]) w:=by kernel_rfl
def Rf (w:World):(ReflectliteType.method ReflectliteType.elem #[rt 120]).run P w=.ok (.iface 219 (rt 108)) w:=by kernel_rfl
def WE (w:World):(ReflectliteType.relation "Implements" ReflectliteType.implements_ #[rt 108,.iface 219 (rt 74)]).run P w=.ok (.bool true) w:=by kernel_rfl
def aeo (w:World):(ReflectliteType.relation "AssignableTo" ReflectliteType.assignableTo #[rt 78,.iface 219 (rt 108)]).run P w=.ok (.bool false) w:=by kernel_rfl
def Rh (w:World):(ReflectliteType.relation "AssignableTo" ReflectliteType.assignableTo #[rt 108,.iface 219 (rt 108)]).run P w=.ok (.bool true) w:=by kernel_rfl
def aep (v:Value)(w:World):(Go.method (P.types.size+Made.depth) 78 v "Unwrap").run P w=.ok (302,v) w:=by kernel_rfl
def atn (v:Value)(w:World):(Go.method (P.types.size+Made.depth) 273 v "Unwrap").run P w=.ok (325,v) w:=by kernel_rfl
end
set_option maxRecDepth 20000
def jY {f:Nat}{e:Array Value->Sem Value}{args:Array Value}{w w':World}{v:Value}{K:Value->World->Prop}(h:∀args w,(callFunc f args).run P w=((e args).run P w).andThen λv w'=>.ok (.value v) w')(he:(e args).run P w=.ok v w')(k:K v w'):tJ P f args w K:=by unfold tJ;simp_all
def cxP (n:Nat):(cx n).P=P:=rfl
def mX {n f:Nat}{e:Array Value->Sem Value}{t:TypeId}{v rv:Value}{name:String}{args:List Value}{w w':World}{r:Value}{K:Value->World->Prop}(hm:∀w,(Go.method (P.types.size+Made.depth) t v name).run P w=.ok (f,rv) w)(hf:oW f fns=false)
  (h:∀args w,(callFunc f args).run P w=((e args).run P w).andThen λv w'=>.ok (.value v) w')(he:(e (#[].toList++(rv::args)++#[].toList).toArray).run P w=.ok r w')(k:K r w'):yH (cx n) (.iface t v) name args w K:=by
 refine⟨f,rv,hm w,?_⟩;unfold h_;simp only[cxF,cxP,hf,cond_false];exact jY h he k
def x95 (args:Array Value)(w:World):(callFunc 95 args).run P w=((ReflectliteType.typeOf args).run P w).andThen λv w'=>.ok (.value v) w':=run_callFunc_extern Go.Proofs.Tryz.func95 (by kernel_rfl) (by kernel_rfl) (by kernel_rfl) (by kernel_rfl) args w
def avl (args:Array Value)(w:World):(callFunc 311 args).run P w=((ReflectliteType.method (λt=>do Rtype.noPackHeld "Comparable" t;pure (.bool (<-typeInfo t).comparable)) args).run P w).andThen λv w'=>.ok (.value v) w':=run_callFunc_extern Go.Proofs.Tryz.func311 (by kernel_rfl) (by kernel_rfl) (by kernel_rfl) (by kernel_rfl) args w
def aoY:oW 311 fns=false:=by kernel_rfl
def aoZ:(P.info? 401).map (·.comparable)=some true:=by kernel_rfl
def ao0:(P.info? 422).map (·.size)=some 1:=by kernel_rfl
def avm {tx ty:Nat}{vx vy:Value}{x y:Operand}{w:World}{K:Bool->World->Prop}(hne:tx≠ty)(h:K false w):bW P .eql 74 x y (.iface tx vx) (.iface ty vy) w K:=by unfold bW aL;rw[show(eqGuard .eql 74 x y (.iface tx vx) (.iface ty vy))=pure ()from rfl];simp[Sem.run_bind,Sem.run_pure,Result.andThen_ok,run_eql_iface_types tx ty vx vy Go.Proofs.Tryz.underlying74 hne w];exact h
def WG {a:Addr}{x y:Operand}{w:World}{K:Bool->World->Prop}(h:K true w):bW P .eql 74 x y (.iface 401 (.pointer (some a))) (.iface 401 (.pointer (some a))) w K:=by obtain⟨i,hi,hcmp⟩:=Option.map_eq_some_iff.1 aoZ;obtain⟨j,hj,hjs⟩:=Option.map_eq_some_iff.1 ao0;unfold bW aL;rw[show(eqGuard .eql 74 x y (.iface 401 (.pointer (some a))) (.iface 401 (.pointer (some a))))=pure ()from rfl];simp[Sem.run_bind,Sem.run_pure,Result.andThen_ok,run_eql_iface_ptr_same w a Go.Proofs.Tryz.underlying74 Go.Proofs.Tryz.underlying401 hi hcmp hj];exact h
def aco {a b:Addr}{ca cb:Array Value}{ta tb:TypeId}{x y:Operand}{w:World}{K:Bool->World->Prop}(hne:a≠b)(ha:w.heap[a.block]? =some (.cells ca ta (0,0)))(hb:w.heap[b.block]? =some (.cells cb tb (0,0)))(h:K false w):bW P .eql 74 x y (.iface 401 (.pointer (some a))) (.iface 401 (.pointer (some b))) w K:=by obtain⟨i,hi,hcmp⟩:=Option.map_eq_some_iff.1 aoZ;obtain⟨j,hj,hjs⟩:=Option.map_eq_some_iff.1 ao0;unfold bW aL;rw[show(eqGuard .eql 74 x y (.iface 401 (.pointer (some a))) (.iface 401 (.pointer (some b))))=pure ()from rfl];simp[Sem.run_bind,Sem.run_pure,Result.andThen_ok,run_eql_iface_ptr_other w Go.Proofs.Tryz.underlying74 Go.Proofs.Tryz.underlying401 hi hcmp hj (by omega) hne ha hb];exact h
def avn {t:Nat}(ht:t=401\/t=78\/t=108\/t=273)(v:Value)(xT:TypeId)(w:World):(Instr.typeAssert (.iface t v) xT 221 true).run P w=.ok (.tuple #[.nilIface,.bool false]) w:=by
 rcases ht with rfl|rfl|rfl|rfl
 ·exact run_typeAssert_lacksB Go.Proofs.Tryz.underlying221 (by kernel_rfl) (by kernel_rfl) v xT w
 ·exact run_typeAssert_lacksB Go.Proofs.Tryz.underlying221 (by kernel_rfl) (by kernel_rfl) v xT w
 ·exact run_typeAssert_lacksB Go.Proofs.Tryz.underlying221 (by kernel_rfl) (by kernel_rfl) v xT w
 ·exact run_typeAssert_lacksB Go.Proofs.Tryz.underlying221 (by kernel_rfl) (by kernel_rfl) v xT w
def ayt {t:Nat}(ht:t=78\/t=108)(v:Value)(xT:TypeId)(w:World):(Instr.typeAssert (.iface t v) xT 231 true).run P w=.ok (.tuple #[.nilIface,.bool false]) w:=by
 rcases ht with rfl|rfl
 ·exact run_typeAssert_lacksB Go.Proofs.Tryz.underlying231 (by kernel_rfl) (by kernel_rfl) v xT w
 ·exact run_typeAssert_lacksB Go.Proofs.Tryz.underlying231 (by kernel_rfl) (by kernel_rfl) v xT w
def ayu {t:Nat}(ht:t=401\/t=108)(v:Value)(xT:TypeId)(w:World):(Instr.typeAssert (.iface t v) xT 224 true).run P w=.ok (.tuple #[.nilIface,.bool false]) w:=by
 rcases ht with rfl|rfl
 ·exact run_typeAssert_lacksB Go.Proofs.Tryz.underlying224 (by kernel_rfl) (by kernel_rfl) v xT w
 ·exact run_typeAssert_lacksB Go.Proofs.Tryz.underlying224 (by kernel_rfl) (by kernel_rfl) v xT w
def aws {t:Nat}(ht:t=401\/t=108)(v:Value)(xT:TypeId)(w:World):(Instr.typeAssert (.iface t v) xT 226 true).run P w=.ok (.tuple #[.nilIface,.bool false]) w:=by
 rcases ht with rfl|rfl
 ·exact run_typeAssert_lacksB Go.Proofs.Tryz.underlying226 (by kernel_rfl) (by kernel_rfl) v xT w
 ·exact run_typeAssert_lacksB Go.Proofs.Tryz.underlying226 (by kernel_rfl) (by kernel_rfl) v xT w
def asb {t:Nat}(ht:t=78\/t=273)(v:Value)(xT:TypeId)(w:World):(Instr.typeAssert (.iface t v) xT 224 true).run P w=.ok (.tuple #[.iface t v,.bool true]) w:=by
 rcases ht with rfl|rfl
 ·exact run_typeAssert_hasB Go.Proofs.Tryz.underlying224 (by kernel_rfl) v xT w
 ·exact run_typeAssert_hasB Go.Proofs.Tryz.underlying224 (by kernel_rfl) v xT w
end Go.Proofs.YtmegplnmiepfbaaGreatDoor.S
set_option maxRecDepth 20000
namespace Go.Proofs.YtmegplnmiepfbaaGreatDoor.S
open Go.Sx
open Go.Extern
attribute [local irreducible] af cE bw bg aA cu bY St Bx Al App cJ cB cz bW bD aq bT av ak aW mapA
def aAa:oW 302 fns=true:=by kernel_rfl
def aAb:oW 325 fns=true:=by kernel_rfl
def A3 {s:Sem Value}{w w':World}{v:Value}{K:Value->World->Prop}(h:s.run P w=.ok v w')(k:K v w'):aL P s w K:=by unfold aL;grind
section
variable {w:World}{p n:Nat}{v:Value}
def mJ {ad:Addr}{K:Value->Prop}(h:w.cell? ad=some v)(hp:Value.plain v=true)(k:K v):bY ad w K:=by unfold bY;grind
def tG {t:Nat}{A B:Prop}(h:B):BM (.iface t v) λb=>cond b A B:=h
def S4 {b:Bool}{K:Value->Bool->Prop}(hp:Value.plain v=true)(k:K v b):dT (.tuple #[v,.bool b]) λl=>dG l λv0 l0=>dV v0 λx0=>dG l0 λv1 l1=>dB v1 λx1=>kM l1 (K x0 x1):=by show dV v λx0=>K x0 b;unfold dV;grind
def acp {Q:Value->World->Prop}(hv:w.cell? ((aZ p).add 1)=some v)(hp:Value.plain v=true)(k:Q v w):yH (cx n) (.iface 78 (.pointer (sZ p))) "Unwrap" [] w λv w=>dV v λr=>Q r w:=by
 refine⟨302,_,aep _ w,?_⟩;unfold h_;have h:Gc (sZ p) w Q:=by apply SC;refine ah (mJ hv hp ?_);unfold dV;grind
 exact h
def ato {Q:Value->World->Prop}(hv:w.cell? ((aZ p).add 1)=some v)(hp:Value.plain v=true)(k:Q v w):yH (cx n) (.iface 273 (.pointer (sZ p))) "Unwrap" [] w λv w=>dV v λr=>Q r w:=by
 refine⟨325,_,atn _ w,?_⟩;unfold h_;have h:Fm (sZ p) w Q:=by apply QM;refine ah (mJ hv hp ?_);unfold dV;grind
 exact h
def akZ {Q:Bool->World->Prop}{t:Nat}{u target:Value}{c:Bool}(ht:t=401\/t=108){k:Nat}
  (he:∀(x y:Operand) (K:Bool->World->Prop),K c w->bW P .eql 74 x y (.iface t u) target w K)(hQ:Q c w):p_ Q (k+1) (.iface t u) target true w:=by
 show AN Q (p_ Q k) _ _ _ _;unfold AN;apply he;cases c with
 |true=>exact hQ
 |false=>
  refine A3 (avn (by grind) _ _ _) (S4 rfl ?_);refine A3 (ayu ht _ _ _) (S4 rfl ?_);refine A3 (aws ht _ _ _) (S4 rfl ?_);grind
def atp {Q:Bool->World->Prop}{tw:Nat}{target:Value}{k tt:Nat}{tv:Value}(QO:tw=78\/tw=273)(htg:target=.iface 401 tv)(hv:w.cell? ((aZ p).add 1)=some (.iface tt v))
  (h:p_ Q k (.iface tt v) target true w):p_ Q (k+1) (.iface tw (.pointer (sZ p))) target true w:=by
 show AN Q (p_ Q k) _ _ _ _;unfold AN;subst htg;apply avm (by grind);refine A3 (avn (by grind) _ _ _) (S4 rfl ?_);refine A3 (asb QO _ _ _) (S4 rfl ?_);rcases QO with rfl|rfl
 ·exact acp hv rfl h
 ·exact ato hv rfl h
def S5 {Q:Bool->World->Prop}{tw tt:Nat}{b:Addr}{c:Bool}(QO:tw=78\/tw=273)(ht:tt=401\/tt=108)(hv:w.cell? ((aZ p).add 1)=some (.iface tt v))
  (he:∀(x y:Operand) (K:Bool->World->Prop),K c w->bW P .eql 74 x y (.iface tt v) (.iface 401 (.pointer (some b))) w K)(hQ:Q c w):
  pz (.iface tw (.pointer (sZ p))) (.iface 401 (.pointer (some b))) w Q:=by
 apply Ns;refine tG (tG ?_);apply jY x95 (afB _ w);refine mX (aiZ _) aoY avl (akY w) ?_;have h:wW (.iface tw (.pointer (sZ p))) (.iface 401 (.pointer (some b))) true w Q:=by apply Nr;exact⟨2,atp QO rfl hv (akZ ht he hQ)⟩
 exact h
end
end Go.Proofs.YtmegplnmiepfbaaGreatDoor.S
set_option maxRecDepth 20000
namespace Go.Proofs.YtmegplnmiepfbaaGreatDoor.S
open Go.Sx
open Go.Extern
def x97 (args:Array Value)(w:World):(callFunc 97 args).run P w=((ReflectliteValue.unpack (args.getD 0 (.tuple #[]))).run P w).andThen λv w'=>.ok (.value v) w':=run_callFunc_extern (e:=λargs=>ReflectliteValue.unpack (args.getD 0 (.tuple #[]))) Go.Proofs.Tryz.func97 (by kernel_rfl) (by kernel_rfl) (by kernel_rfl) (by kernel_rfl) args w
def x98 (args:Array Value)(w:World):(callFunc 98 args).run P w=((ReflectliteValue.methodAny (ReflectliteValue.valueError "reflectlite.Value.Type" 0) (λt _ _ _=>ReflectliteType.toType t) args).run P w).andThen λv w'=>.ok (.value v) w':=run_callFunc_extern Go.Proofs.Tryz.func98 (by kernel_rfl) (by kernel_rfl) (by kernel_rfl) (by kernel_rfl) args w
def x99 (args:Array Value)(w:World):(callFunc 99 args).run P w=((ReflectliteValue.method (ReflectliteValue.valueError "reflectlite.Value.IsNil" 0) ReflectliteValue.isNil args).run P w).andThen λv w'=>.ok (.value v) w':=run_callFunc_extern Go.Proofs.Tryz.func99 (by kernel_rfl) (by kernel_rfl) (by kernel_rfl) (by kernel_rfl) args w
def aqV (args:Array Value)(w:World):(callFunc 138 args).run P w=((ReflectliteValue.method (ReflectliteValue.valueError "reflectlite.Value.Elem" 0) ReflectliteValue.elem args).run P w).andThen λv w'=>.ok (.value v) w':=run_callFunc_extern Go.Proofs.Tryz.func138 (by kernel_rfl) (by kernel_rfl) (by kernel_rfl) (by kernel_rfl) args w
def aqW (args:Array Value)(w:World):(callFunc 139 args).run P w=((ReflectliteValue.set args).run P w).andThen λv w'=>.ok (.value v) w':=run_callFunc_extern Go.Proofs.Tryz.func139 (by kernel_rfl) (by kernel_rfl) (by kernel_rfl) (by kernel_rfl) args w
def aeq (args:Array Value)(w:World):(callFunc 297 args).run P w=((ReflectliteType.abiMethod (λt=>do pure (.int .u8 (<-Rtype.kind t))) args).run P w).andThen λv w'=>.ok (.value v) w':=run_callFunc_extern Go.Proofs.Tryz.func297 (by kernel_rfl) (by kernel_rfl) (by kernel_rfl) (by kernel_rfl) args w
def aqX (args:Array Value)(w:World):(callFunc 312 args).run P w=((ReflectliteType.method ReflectliteType.elem args).run P w).andThen λv w'=>.ok (.value v) w':=run_callFunc_extern Go.Proofs.Tryz.func312 (by kernel_rfl) (by kernel_rfl) (by kernel_rfl) (by kernel_rfl) args w
def aqY (args:Array Value)(w:World):(callFunc 313 args).run P w=((ReflectliteType.relation "Implements" ReflectliteType.implements_ args).run P w).andThen λv w'=>.ok (.value v) w':=run_callFunc_extern Go.Proofs.Tryz.func313 (by kernel_rfl) (by kernel_rfl) (by kernel_rfl) (by kernel_rfl) args w
def ai1 (args:Array Value)(w:World):(callFunc 310 args).run P w=((ReflectliteType.relation "AssignableTo" ReflectliteType.assignableTo args).run P w).andThen λv w'=>.ok (.value v) w':=run_callFunc_extern Go.Proofs.Tryz.func310 (by kernel_rfl) (by kernel_rfl) (by kernel_rfl) (by kernel_rfl) args w
def Ri:oW 297 fns=false:=by kernel_rfl
def ai2:oW 312 fns=false:=by kernel_rfl
def ai3:oW 313 fns=false:=by kernel_rfl
def WH:oW 310 fns=false:=by kernel_rfl
abbrev vP (a:Addr):Value:=.agg #[.pointer (some ⟨8,120,none⟩),.pointer (some a),.int .u64 150]
abbrev vR (a:Addr):Value:=.agg #[.pointer (some ⟨8,108,none⟩),.pointer (some a),.int .u64 130]
abbrev vE (a:Addr):Value:=.agg #[.pointer (some ⟨8,108,none⟩),.pointer (some a),.int .u64 386]
def rlm (z:Sem Value)(f:TypeId->Addr->Nat->Nat->Sem Value)(v:Value):
 ReflectliteValue.method z f #[v]=(do match<-ReflectliteValue.parts v with|none=>z|some (t,a,fl)=>f t a fl (fl%32)):=rfl
def zV (a:Addr)(w:World):(ReflectliteValue.parts (vP a)).run P w=.ok (some (120,a,150)) w:=by kernel_rfl
def Jg (a:Addr)(w:World):(ReflectliteValue.parts (vR a)).run P w=.ok (some (108,a,130)) w:=by kernel_rfl
def Jh (a:Addr)(w:World):(ReflectliteValue.parts (vE a)).run P w=.ok (some (108,a,386)) w:=by kernel_rfl
def Mb (a p:Addr)(w:World)(ha:w.cell? a=some (.pointer (some p))):(ReflectliteValue.method (ReflectliteValue.valueError "reflectlite.Value.IsNil" 0) ReflectliteValue.isNil #[vP a]).run P w=.ok (.bool false) w:=by rw[rlm];simp[Sem.run_bind,zV,Result.andThen];simp[ReflectliteValue.isNil,loadVar,isAgg,underlying,Go.Proofs.Tryz.underlying120,ha,Result.andThen]
def Ji (w:World):(Rtype.elem? 120).run P w=.ok (some 108) w:=by kernel_rfl
def acq (p:Addr)(w:World):(ReflectliteValue.mk 108 p ReflectliteValue.flagAddr).run P w=.ok (vE p) w:=by kernel_rfl
def Mc (a p:Addr)(w:World)(ha:w.cell? a=some (.pointer (some p))):(ReflectliteValue.method (ReflectliteValue.valueError "reflectlite.Value.Elem" 0) ReflectliteValue.elem #[vP a]).run P w=.ok (vE p) w:=by rw[rlm];simp[Sem.run_bind,zV,Result.andThen];simp[ReflectliteValue.elem,loadVar,isAgg,underlying,Go.Proofs.Tryz.underlying120,ha,Result.andThen,Ji,acq]
def rls (v x:Value):ReflectliteValue.set #[v,x]=(do
 let(some (dst,a,fl),some (src,b,_)):=(<-ReflectliteValue.parts v,<-ReflectliteValue.parts x)
  |unsupported (.noEntry "extern/(internal/reflectlite.Value).Set.zeroValue")
 if fl/ReflectliteValue.flagAddr%2==0 then unsupported (.noEntry "extern/(internal/reflectlite.Value).Set.unaddressable")
 let val<-loadVar src b
 if<-Rtype.directlyAssignable dst src then storeVar dst a val
 else if<-Rtype.implements dst src then
  if(<-Rtype.kind src)==20 then
   match val with
   |.nilIface=>unsupported (.noEntry "extern/reflectlite: a nil value of one interface type handed on as a value of another")
   |_=>storeVar dst a val
  else storeVar dst a (.iface src val)
 else panicString ("reflectlite.Set: value of type "++(<-Rtype.spelt src)++ " is not assignable to type "++(<-Rtype.spelt dst))
 pure (.tuple #[])):=rfl
def Jj (w:World):(Rtype.directlyAssignable 108 108).run P w=.ok true w:=by kernel_rfl
def WJ (t b:Addr)(n:Int)(old:Value)(w:World)(hb:w.cell? b=some (ae n))(ht:w.cell? t=some old)(hf:w.frozen? t=false):
  (ReflectliteValue.set #[vE t,vR b]).run P w=.ok (.tuple #[]) (w.setCell t (ae n)):=by
 rw[rls];simp[Sem.run_bind,Jh,Jg,Result.andThen];simp[ReflectliteValue.flagAddr,loadVar,isAgg,underlying,Go.Proofs.Tryz.underlying108,hb,Result.andThen,Jj,storeVar,Value.cells,storeCells,Addr.add];rw[run_store P w t _ _ (by rfl)];simp[ht,hf]
end Go.Proofs.YtmegplnmiepfbaaGreatDoor.S
set_option maxRecDepth 20000
namespace Go.Proofs.YtmegplnmiepfbaaGreatDoor.S
open Go.Sx
open Go.Extern
attribute [local irreducible] tJ callFunc Sem.run ReflectliteValue.method ReflectliteValue.set ReflectliteValue.unpack ReflectliteType.relation ReflectliteType.typeOf af cE bw bg aA cu bY St App cJ cB cz bW bD aq bT av ak aW mapA
section
variable {F:Nat->Prop}{W w:World}{L:List As}{p r:Nat}{c v0:Int}
def S6 {a b:Option Addr}{f:Int}{K:Option Addr->Option Addr->Int->Prop}(k:K a b f):dL (.agg #[.pointer a,.pointer b,.int .u64 f]) λl=>dG l λv0 l0=>dP v0 λa=>dG l0 λv1 l1=>dP v1 λb=>dG l1 λv2 l2=>dI .u64 v2 λf=>kM l2 (K a b f):=k
def amd {A B:Prop}(h:A):dB (.bool true) λb=>cond b A B:=h
def aer {A B:Prop}(h:B):dB (.bool false) λb=>cond b A B:=h
def ame {A B:Prop}(h:B):dB (.bool true) λb=>cond (!b) A B:=h
def amf {A B:Prop}(h:B):dI .u8 (.int .u8 22) λr=>cond (r !=22) A B:=h
def asd {A B:Prop}(h:A):dI .u8 (.int .u8 2) λr=>cond (r !=20) A B:=h
def aBh:zc T 161=[.pointer none,.pointer none,.int .u64 0]:=rfl
def amg {ad:Addr}{v:Value}{K:World->Prop}(h:St ad v w K):(∃u,w.cell? ad=some u)/\w.frozen? ad=false/\K (w.setCell ad v):=by unfold St at h;exact h
def Rj {b:Addr}{K:Value->World->Prop}(hb:w.cell? b=some (ae c))(h:St (aZ r) (ae c) w λw=>K (.tuple #[]) w):tJ P 139 #[vE (aZ r),vR b] w K:=by obtain⟨⟨u,hu⟩,hf,k⟩:=amg h;have he:=WJ (aZ r) b c u w hb hu hf;apply jY (w':=w.setCell (aZ r) (ae c)) aqW he;exact k
def WK {Q:Bool->World->Prop}{k tb:Nat}{a:Nat}(s:Sep F W w (av tb 161 [.pointer (some ⟨8,120,none⟩),.pointer (sZ a),.int .u64 150]::av a 120 [.pointer (sZ r)]::av r 108 [ae v0]::L))
  (hQ:∀w',Sep F W w' (av r 108 [ae c]::L)->Q true w'){target:Value}:je Q (k+1) (.iface 108 (ae c)) target (.iface 219 (rt 108)) (aZ tb) w:=by
 show wN Q (je Q k) _ _ _ _ _;apply jY x95 (GJ _ w);refine mX (Re _) WH ai1 (Rh w) ?_;apply amd;refine lP s 0 rfl (lP s 0 rfl (lI s 0 rfl ?_));apply jY aqV (Mc (aZ a) (aZ r) w (by have:=cM s (i:=1) (j:=0) rfl rfl rfl;exact this));apply S6;refine jY x97 (Ee c w) ?_;apply S6;have s2:=tL (ai (ai s)) [ae c] 108;have s2:=s2;apply Rj (c:=c) (by simp_all);refine ax s2 (i:=1) rfl rfl rfl λw s=>?_;exact hQ w (ai s)
def ai6 {Q:Bool->World->Prop}{k tb:Nat}{a:Nat}(s:Sep F W w (av tb 161 [.pointer (some ⟨8,120,none⟩),.pointer (sZ a),.int .u64 150]::av a 120 [.pointer (sZ r)]::av r 108 [ae v0]::L))
  (hv:w.cell? ((aZ p).add 1)=some (.iface 108 (ae c)))
  (hQ:∀w',Sep F W w' (av r 108 [ae c]::L)->Q true w'){target:Value}:je Q (k+2) (.iface 78 (.pointer (sZ p))) target (.iface 219 (rt 108)) (aZ tb) w:=by
 show wN Q (je Q (k+1)) _ _ _ _ _;apply jY x95 (S3 _ w);refine mX (Re _) WH ai1 (aeo w) ?_;apply aer;refine A3 (ayt (.inl rfl) _ _ _) (S4 rfl ?_);refine A3 (asb (.inl rfl) _ _ _) (S4 rfl ?_);exact acp hv rfl (tG (WK s hQ))
def Md {Q:Bool->World->Prop}(s:Sep F W w (av r 108 [ae v0]::L))(hv:∀w',Sep F W w' L->w'.cell? ((aZ p).add 1)=some (.iface 108 (ae c)))
  (h1:∀w',Sep F W w' L->w'.cell? (aZ 1)=some (.iface 219 (rt 74)))
  (hQ:∀w',Sep F W w' (av r 108 [ae c]::L)->Q true w'):
  nv (.iface 78 (.pointer (sZ p))) (.iface 120 (.pointer (sZ r))) w Q:=by
 apply Bp;refine tG (tG ?_);refine jY x97 (GK (aZ r) w) ?_;apply S6;have s:=tL s [.pointer (sZ r)] 120;have s:=s;generalize w.heap.size=a at s⊢;generalize w.alloc (.cells #[.pointer (sZ r)] 120)=w1 at s⊢;refine aS s λvb w s=>?_;refine sT s 0 rfl λw s=>?_;refine sT s 0 rfl λw s=>?_;refine ax s (i:=0) rfl rfl rfl λw s=>?_;refine lP s 0 rfl (lP s 0 rfl (lI s 0 rfl ?_));apply jY x98 (Rc (aZ a) w);refine mX (H9 _) Ri aeq (L_ w) ?_;apply amf;refine lP s 0 rfl (lP s 0 rfl (lI s 0 rfl ?_));apply jY x99 (Mb (aZ a) (aZ r) w (by have:=cM s (i:=1) (j:=0) rfl rfl rfl;exact this));apply aer;refine mX (aaq _) ai2 aqX (Rf w) ?_;refine mX (H9 _) Ri aeq (Ma w) ?_;apply asd;apply mJ (h1 w (ai (ai (ai s)))) rfl;refine mX (aen _) ai3 aqY (WE w) ?_;apply ame;refine lP s 0 rfl (lP s 0 rfl (lI s 0 rfl ?_));apply Gd;have s:=ai s;refine aO s λtb w s=>?_;exact⟨2,ai6 s (hv w (ai (ai (ai s)))) hQ⟩
end
end Go.Proofs.YtmegplnmiepfbaaGreatDoor.S
