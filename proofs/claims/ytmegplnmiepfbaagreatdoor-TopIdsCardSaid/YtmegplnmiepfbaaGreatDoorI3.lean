/- Part 4 of the proof. -/
import Derived.Test.YtmegplnmiepfbaaGreatDoorI2
import Derived.Laws.Pointers
import Derived.Laws.Externs
import Derived.LaidEql
import Derived.Stop.Asserts
set_option linter.unusedVariables false
set_option linter.unusedSimpArgs false
set_option linter.defProp false
namespace Go.Proofs.YtmegplnmiepfbaaGreatDoor.S
open Go.Sx
open Go.Sort (swp PermIn SortedIn Below)
attribute [local irreducible] af cv bz bg aA cw bZ St Bx Al App cH cy cD bU aM bF aq bS av ak aW mapA
section
variable {F:Nat->Prop}{W w w0:World}{L:List As}{a:Option Addr}{n c:Nat}{d:Array bj}
def aim (lo b:Nat)(d d':Array bj):Prop:=PermIn lo b d d'/\SortedIn cQ lo b d'
def aqn (hn:n<2000):∀(N:Nat) (lo b:Nat) (limit:Int) (wb wp:Bool) (d:Array bj) (w:World) (Q:World->Prop) (f:Nat),b-lo<=N->N<f->lo<=b->b<=n->Below cQ lo b d->0<=limit/\limit<1000->Sep F W w (c_ a n c d::L)->
   (∀d' w',aim lo b d d'->Sep F W w' (c_ a n c d'::L)->Q w')->cK Q f a n c lo b limit iQ wb wp w:=by
 intro N;induction N with
 |zero=>
  intro lo b limit wb wp d w Q f h1 hf h2 h3 hB AB s h;obtain⟨f,rfl⟩:∃g,f=g+1:=⟨f-1,by omega⟩;show ij Q (cK Q f) _ _ _ _ _ _ _ _ _ _;unfold ij;have hsz:=gy s;rw[aG,bN];refine Hv s (by omega) h2 h3 λw s=>h _ w ?_ s;exact Go.Sort.insertionSort_holds FJ d lo b h2 (by omega)
 |succ N ih=>
  have call:∀(lo b:Nat) (limit:Int) (d:Array bj) (w:World) (Q:World->Prop),b-lo<=N->lo<=b->b<=n->Below cQ lo b d->0<=limit/\limit<1000->Sep F W w (c_ a n c d::L)->
    (∀d' w',aim lo b d d'->Sep F W w' (c_ a n c d'::L)->Q w')->fu a n c lo b limit iQ w Q:=λlo b limit d w Q h1 h2 h3 h4 h5 s h=>by
   apply rY;exact⟨N+1,ih lo b limit true true d w Q (N+1) h1 (Nat.lt_succ_self N) h2 h3 h4 h5 s h⟩
  intro lo b limit wb wp d w Q f h1 hf h2 h3 hB AB s h;obtain⟨f,rfl⟩:∃g,f=g+1:=⟨f-1,by omega⟩;show ij Q (cK Q f) _ _ _ _ _ _ _ _ _ _;unfold ij;have hsz:=gy s;rw[aG];by_cases h12:b-lo<=12
  ·rw[bN];refine Hv s (by omega) h2 h3 λw s=>h _ w ?_ s;exact Go.Sort.insertionSort_holds FJ d lo b h2 (by omega)
  rw[bh];by_cases hl0:limit=0
  ·rw[dw hl0,cond_true];refine adU s (by omega) (by omega) h3 λw s=>h _ w ?_ s;exact Go.Sort.heapSort_holds FJ d lo b h2 (by omega)
  rw[cB hl0,cond_false];have via:∀{d1 d':Array bj},PermIn lo b d d1->aim lo b d1 d'->aim lo b d d':=λh1 h2=>⟨Go.Sort.permIn_trans _ _ _ _ _ h1 h2.1,h2.2⟩;have b20:∀(limit:Int) (pv:Nat) (d1:Array bj) (w:World),0<=limit/\limit<1000->lo<=pv/\pv<b->PermIn lo b d d1->Sep F W w (c_ a n c d1::L)->
    jE (cK Q f) Q a n c lo b limit iQ ((b:Int)-lo) pv w:=λlimit pv d1 w AB hp hP s=>by
   have auH:=gy s;rcases hx:Go.Sort.partition cQ d1 lo b pv with⟨mid,ap,d4⟩;obtain⟨p1,p2,p3,p4,p5,p6,p7⟩:=Go.Sort.round_part FJ (Go.Sort.partition_holds cQ) hp.1 hp.2 (by omega) (Go.Sort.Below.perm hB (by omega) hP) hx;refine abP s (by omega) hp h3 λw s=>⟨by decide,?_⟩;rw[hx]at s⊢;rw[aG,aG,aG];by_cases hm:(mid:Int)-lo<b-mid
   ·rw[bN hm];refine call lo mid limit d4 w _ (by omega) (by omega) (by omega) p4 AB s λd5 w hS s=>?_;obtain⟨q1,q2⟩:=p6 d5 hS.1 hS.2;exact ih (mid+1) b limit _ _ d5 w Q f (by omega) (by omega) (by omega) h3 q1 AB s λd6 w hS2 s=>h d6 w (via hP (q2 d6 hS2.1 hS2.2)) s
   ·rw[bh hm];refine call (mid+1) b limit d4 w _ (by omega) (by omega) (by omega) p5 AB s λd5 w hS s=>?_;obtain⟨q1,q2⟩:=p7 d5 hS.1 hS.2;exact ih lo mid limit _ _ d5 w Q f (by omega) (by omega) (by omega) (by omega) q1 AB s λd6 w hS2 s=>h d6 w (via hP (q2 d6 hS2.1 hS2.2)) s
  have YB:∀(limit:Int) (pv:Nat) (d1:Array bj) (w:World),0<=limit/\limit<1000->lo<=pv/\pv<b->PermIn lo b d d1->Sep F W w (c_ a n c d1::L)->
    eY (cK Q f) Q a n c lo b limit iQ wb wp ((b:Int)-lo) pv w:=λlimit pv d1 w AB hp hP s=>by
   have auH:=gy s;unfold eY;by_cases h0:lo>0
   ·rw[bN,aG];refine GK (p:=lo-1) (ay s) (by omega) (by omega) rfl (by omega) λw s=>?_;show cond (!cQ d1[lo-1]! d1[pv]!) _ _;cases hc:cQ d1[lo-1]! d1[pv]! with
    |false=>
     rcases hx:Go.Sort.partitionEqual cQ d1 lo b pv with⟨mid,d4⟩;obtain⟨p1,p2,p3,p4,p5⟩:=Go.Sort.round_eq FJ (Go.Sort.partitionEqual_holds cQ) h0 hp.1 hp.2 (by omega) (Go.Sort.Below.perm hB (by omega) hP) hc hx;refine SL s (by omega) hp h3 λw s=>?_;rw[hx]at s⊢;exact ih mid b limit _ _ _ w Q f (by omega) (by omega) p2 h3 p4 AB s λd6 w hS2 s=>h d6 w (via hP (p5 d6 hS2.1 hS2.2)) s
    |true=>
     exact b20 limit pv d1 w AB hp hP s
   ·rw[bh];exact b20 limit pv d1 _ AB hp hP (ay s)
  have b15:∀(limit:Int) (pv:Nat) (hint:Int) (d1:Array bj) (w:World),0<=limit/\limit<1000->lo<=pv/\pv<b->PermIn lo b d d1->Sep F W w (c_ a n c d1::L)->
    gY (cK Q f) Q a n c lo b limit iQ wb wp ((b:Int)-lo) pv hint w:=λlimit pv hint d1 w AB hp hP s=>by
   have auH:=gy s;unfold gY;cases hwb:wb with
   |false=>rw[cond_false];rw[hwb]at YB;exact YB limit pv d1 w AB hp hP s
   |true=>
    cases hwp:wp with
    |false=>rw[cond_false];rw[hwb,hwp]at YB;exact YB limit pv d1 w AB hp hP s
    |true=>
     rw[hwb,hwp]at YB;cases hint==1 with
     |false=>rw[cond_false];exact YB limit pv d1 w AB hp hP s
     |true=>
      have hpi:=Go.Sort.partialInsertionSort_holds FJ d1 lo b (by omega) (by omega) (Go.Sort.Below.perm hB (by omega) hP);refine Z2 s (by omega) (by omega) h3 λw s=>?_;cases hr:(Go.Sort.partialInsertionSort cQ d1 lo b).2 with
      |true=>
       exact h _ w (via hP ⟨hpi.1,hpi.2 hr⟩) s
      |false=>
       exact YB limit pv _ w AB hp (Go.Sort.permIn_trans _ _ _ _ _ hP hpi.1) s
  have b10:∀(limit:Int) (d1:Array bj) (w:World),0<=limit/\limit<1000->PermIn lo b d d1->Sep F W w (c_ a n c d1::L)->
    jF (cK Q f) Q a n c lo b limit iQ wb wp ((b:Int)-lo) w:=λlimit d1 w AB hP s=>by
   refine Yd s (by omega) (by omega) h3 λpv hint w hp s=>?_;cases hint==2 with
   |true=>
    refine agy s (by omega) (by omega) h3 λd2 w hP2 s=>?_;rw[aG (n:=(b:Int)-1),aG (n:=(pv:Int)-lo),aG,show(b:Int)-1-(pv-lo)=((b-1-(pv-lo):Nat):Int) by omega];exact b15 limit _ 1 d2 w AB (by omega) (Go.Sort.permIn_trans _ _ _ _ _ hP hP2) s
   |false=>
    exact b15 limit pv hint d1 w AB hp hP s
  cases wb with
  |false=>
   refine ail s hn (by omega) h3 λd1 w hP s=>?_;rw[aG];exact b10 (limit-1) d1 w (by omega) hP s
  |true=>
   exact b10 limit d w AB (Go.Sort.permIn_refl _ _ _) s
def an2 (hn:n<2000){lo b:Nat}{limit:Int}{Q:World->Prop}(h2:lo<=b)(h3:b<=n)(h4:Below cQ lo b d)(h5:0<=limit/\limit<1000)(s:Sep F W w (c_ a n c d::L))
  (h:∀d' w',aim lo b d d'->Sep F W w' (c_ a n c d'::L)->Q w'):fu a n c lo b limit iQ w Q:=by
 apply rY;exact⟨b-lo+1,aqn hn (b-lo) lo b limit true true d w Q (b-lo+1) (Nat.le_refl _) (by omega) h2 h3 h4 h5 s h⟩
def adW {Q:World->Prop}{xs:List bj}(s:Sep F W w (ak a n c 294 3 (flat fW xs)::L))(hn:n<2000)(h:∀w',Sep F W w' (ak a n c 294 3 (flat fW (ZX xs))::L)->Q w'):
  kV a n c iQ w Q:=by
 have s:=s;have hsz:=gy s;apply AX;rw[kz (by omega)];refine QZ (by omega) λv hv _ _=>?_;refine an2 hn (Nat.zero_le _) (Nat.le_refl _) (.inl rfl) (by omega) s λd' w hS s=>h w ?_;have:=Go.Sort.sorted_unique_holds FJ (λx y h k=>auz h k) xs.toArray d' (by rw[hsz];exact hS.1) (by rw[hsz];exact hS.2);unfold ZX;grind
def agz {Q:Option Addr->Nat->Nat->World->Prop}{xs:List bj}(s:Sep F W w (ak a n c 294 3 (flat fW xs)::L))(hn:n<1000000)(hnd:xs.Nodup)(h:∀w',Sep F W w' (ak a n c 294 3 (flat fW xs)::L)->Q a n c w'):
  lD a n c w Q:=by
 have s:Sep F W w (c_ a n c xs.toArray::L):=s;have hsz:=gy s;have hl:xs.length=n:=by grind
 apply Bd;by_cases h2:n<2
 ·grind
 ·rw[bh];have loop:∀(k i:Nat) (w:World),i+k=n->0<i->Sep F W w (c_ a n c xs.toArray::L)->fA Q (k+1) a n c i w:=by
   intro k;induction k with
   |zero=>
    intro i w hi h0 s;show gL Q (fA Q 0) _ _ _ _ _;unfold gL;grind
   |succ k ih=>
    intro i w hi h0 s;show gL Q (fA Q (k+1)) _ _ _ _ _;rw[gL,bN,aG];apply RdS (ay s) rfl (by omega);apply RdS (k:=i-1) (ay s) (by omega) (by omega);have hne:xs.toArray[i]!≠xs.toArray[i-1]!:=λe=>by have e1:=Xf (d:=xs.toArray) (k:=i) (by omega);have e2:=Xf (d:=xs.toArray) (k:=i-1) (by omega);rw[e,<-e2]at e1;have e1:=e1;have:=(List.getElem?_inj (by omega) hnd).1 e1;omega
    apply an0;rw[bh hne,aG];exact ih (i+1) _ (by omega) (by omega) (ay s)
  exact⟨n-1+1,loop (n-1) 1 w (by omega) (by omega) s⟩
def an3 {xs:List bj}(h:xs.Nodup):(ZX xs).Nodup:=(List.mergeSort_perm xs _).nodup_iff.2 h
def AD {Q:Option Addr->Nat->Nat->World->Prop}{xs:List bj}(s0:Sep F W w L)(hX:Sl w a n c 3 fW xs)(hn:n<2000)(hnd:xs.Nodup)(h:∀ra rc w',Sep F W w' (ak ra n rc 294 3 (flat fW (NA xs))::L)->Fr No w w'->Q ra n rc w'):
  kI a n c w Q:=by
 apply ZC;refine V9 (bt (F:=No)) hX (by omega) λra rc w1 s _=>?_;refine adW s hn λw1 s=>?_;refine agz s (by omega) (an3 hnd) λw1 s=>?_;exact h ra rc w1 (dQ s0 s (i:=0) rfl) (au s)
def Z3 {Q:Bool->World->Prop}{xs ys:List bj}{b:Option Addr}{m e:Nat}(hX:Sl w a n c 3 fW xs)(hY:Sl w b m e 3 fW ys)(s0:Sep F W w L)(hn:n<1000000)(hm:m<1000000)(h:∀w',Sep F W w' L->Fr No w w'->Q (decide (xs=ys)) w'):
  EY a n c b m e w Q:=by
 apply ZK;apply Cn;have h1:=hX.len;have h2:=hY.len;have fin:∀(r:Bool) (w':World),r=decide (xs=ys)->Sep No w w' []->Q r w':=λr w' e s=>by subst e;exact h w' (bX s0 (au s)) (au s)
 by_cases hl:n=m
 ·subst hl;have loop:∀(k i:Nat) (w1:World),i+k=n->xs.take i=ys.take i->Sep No w w1 []->fT Q (k+1) a n c b n e n i w1:=by
   intro k;induction k with
   |zero=>
    intro i w1 hi he s;show ik Q (fT Q 0) _ _ _ _ _ _ _ _ _;unfold ik;grind
   |succ k ih=>
    intro i w1 hi he s;show ik Q (fT Q (k+1)) _ _ _ _ _ _ _ _ _;rw[ik,bN];have s:=ay s;refine(hX.fr (au s)).El rfl (by omega) λp x hx hc=>?_;refine aO (hc 0 _ rfl) (aO (hc 1 _ rfl) (aO (hc 2 _ rfl) ?_));refine(hY.fr (au s)).El rfl (by omega) λp y hy hc=>?_;refine aO (hc 0 _ rfl) (aO (hc 1 _ rfl) (aO (hc 2 _ rfl) ?_));apply auF;by_cases hxy:x=y
    ·rw[decide_eq_true hxy,Bool.not_true,cond_false,aG];refine ih (i+1) _ (by omega) ?_ s;rw[List.take_add_one,List.take_add_one,hx,hy,he,hxy]
    grind
  rw[bne_self_eq_false,cond_false];exact⟨n+1,loop n 0 w (by omega) (by simp) bt⟩
 ·rw[show((n:Int) !=(m:Int))=true by grind,cond_true];refine fin false _ ?_ bt;grind
end
end Go.Proofs.YtmegplnmiepfbaaGreatDoor.S
namespace Go.Proofs.YtmegplnmiepfbaaGreatDoor.S
open Go.Sx
attribute [local irreducible] af cv bz bg aA cw bZ St Bx Al App cH cy cD bU aM bF aq bS av ak aW mapA
section
variable {W w w0:World}{p rp:Nat}{tw th a:Int}{ca ta da:Option Addr}{cn cc tn tc dn dc:Nat}{cs ds:List Int}{xs todo:List bj}{l:List (Int×Int)}{bs:List Rg.Bk}{N:Nat}
def swc (tw th:Int)(ca:Option Addr)(cn cc rp:Nat)(ta:Option Addr)(tn tc:Nat)(da:Option Addr)(dn dc:Nat):List Value:=
 [ae tw,ae th,.slice ca cn cc,.pointer (sZ rp),.slice ta tn tc,.slice da dn dc]
abbrev DD (p rp:Nat)(tw th:Int)(ca:Option Addr)(cn cc:Nat)(a:Int)(l:List (Int×Int))(bs:List Rg.Bk)(N:Nat)(ta:Option Addr)(tn tc:Nat)(todo:List bj)(da:Option Addr)(dn dc:Nat)(ds:List Int):List As:=
 [av p 363 (swc tw th ca cn cc rp ta tn tc da dn dc),Rg.BA rp a l bs N,ak ta tn tc 294 3 (flat fW todo),ak da dn dc 3 1 (flat one ds)]
def an4 {Q:World->Prop}
  (h:∀(l':List (Int×Int)) (N':Nat) (todo':List bj) bs' Yw tn' Yx w',CB tw th cs xs a l' N' todo' ds->(∀x∈todo',a+256<=x.k)->l'.length+todo'.length=l.length+todo.length->(l'=[]->l=[]/\todo'=todo)->Sep No w0 w' (DD p rp tw th ca cn cc a l' bs' N' Yw tn' Yx todo' da dn dc ds)->Q w')(wm:cs.length<=256)(hxs:xs.length<2000):
  ∀(Iz:List bj) (l1:List (Int×Int)) (N1:Nat) (yu:List Rg.Bk) (ta1:Option Addr) (tn1 tc1:Nat) (w:World),CB tw th cs xs a l1 N1 Iz ds->l1.length+Iz.length=l.length+todo.length->(l1=[]->l=[]/\Iz=todo)->
   Sep No w0 w (DD p rp tw th ca cn cc a l1 yu N1 ta1 tn1 tc1 Iz da dn dc ds)->gC Q (Iz.length+1) (sZ p) w:=by
 intro Iz;induction Iz with
 |nil=>
  intro l1 N1 yu ta1 tn1 tc1 w I hl he s;show yg Q (gC Q 0) _ _;have QL:=(aK s (i:=2) rfl nI (by decide)).len;refine ah (g6 (ay s) (i:=0) rfl rfl rfl ?_);subst QL;exact h l1 N1 [] yu ta1 _ tc1 _ I (by simp) hl he (ay s)
 |cons x Iz ih=>
  intro l1 N1 yu ta1 tn1 tc1 w I hl he s;show yg Q (gC Q (Iz.length+1)) _ _;have hX:=aK s (i:=2) rfl nI (by decide);have QL:=hX.len;have Wi:=I.fe;simp[List.length_cons]at QL Wi;have s:=ay s;refine ah (lS s 0 rfl ?_);rw[bN];refine ah (lP s 0 rfl (ah (lS s 0 rfl ?_)));refine hX.El (k:=0) rfl (by omega) λq y hy hc=>?_;have hy:x=y:=by grind
  subst hy;refine aO (hc 2 _ rfl) (ah (lS s 0 rfl ?_));refine hX.El (k:=0) rfl (by omega) λq y hy hc=>?_;have hy:x=y:=by grind
  subst hy;have hc0:=hc 0 _ rfl;refine aO hc0 ?_;have Z0:=I.top (kc x) (by simp);have SB:=I.low x (by simp);have hk:(kc x).1=x.k:=rfl;refine Rg.QW s (i:=1) rfl (by omega) (by omega) (λhno=>?_) λhyes w Hw s=>?_
  ·refine h l1 N1 (x::Iz) yu ta1 tn1 tc1 _ I (λy hy=>?_) hl he s;rcases List.mem_cons.1 hy with rfl|hy
   ·omega
   ·have:=(List.pairwise_cons.1 I.NH).1 y hy;omega
  ·rw[cond_true];refine ah (lS s 0 rfl ?_);apply Pd (m:=1) rfl (by omega);refine ah (sT s 0 rfl λw s=>?_);have s:=afP (m:=1) s (i:=2) rfl (by omega);refine ih (l1++[kc x]) (N1+1) Hw _ _ _ w I.take (by simp[List.length_append,List.length_cons,List.length_nil]at hl⊢;omega) (λe=>by simp at e) s
def abS {Q:World->Prop}(I:CB tw th cs xs a l N todo ds)(wm:cs.length<=256)(hxs:xs.length<2000)(s:Sep No w0 w (DD p rp tw th ca cn cc a l bs N ta tn tc todo da dn dc ds))
  (h:∀(a':Int) (l':List (Int×Int)) (N':Nat) (todo':List bj) bs' Yw tn' Yx w',CB tw th cs xs a' l' N' todo' ds->(∀x∈todo',a'+256<=x.k)->(l'=[]->todo'=[])->l'.length+todo'.length=l.length+todo.length->Sep No w0 w' (DD p rp tw th ca cn cc a' l' bs' N' Yw tn' Yx todo' da dn dc ds)->Q w'):
  jR (sZ p) w Q:=by
 apply Ll;have hX:=aK s (i:=2) rfl nI (by decide);have QL:=hX.len;refine ah (lS s 0 rfl ?_);have go:∀(a1:Int) (yu:List Rg.Bk) (w:World),CB tw th cs xs a1 l N todo ds->(l=[]->∀x∈todo.head?,a1=x.k)->Sep No w0 w (DD p rp tw th ca cn cc a1 l yu N ta tn tc todo da dn dc ds)->∃k',gC Q k' (sZ p) w:=λa1 yu w I he s=>by
  refine⟨todo.length+1,an4 (λl' N' todo' bs' Yw tn' Yx w' I' hf hl hn s'=>?_) wm hxs todo l N yu ta tn tc w I rfl (λe=>⟨e,rfl⟩) s⟩;refine h a1 l' N' todo' bs' Yw tn' Yx w' I' hf (λe=>?_) hl s';obtain⟨e1,e2⟩:=hn e;cases todo with
  |nil=>exact e2
  |cons y ys=>
   have h1:=he e1 y (by simp);grind
 cases KU:todo with
 |nil=>
  subst KU;have QL:=QL;subst QL;exact go a bs w I (λ_ x hx=>by simp at hx) s
 |cons x ys=>
  subst KU;simp[List.length_cons]at QL;rw[bN];refine ah (lP s 0 rfl ?_);apply Rg.Di s (i:=1) rfl;by_cases hl:l=[]
  ·subst hl;rw[dw (show((([]:List (Int×Int)).length:Nat):Int)=0 from rfl),cond_true];have s:=ay s;refine ah (lP s 0 rfl (ah (lS s 0 rfl ?_)));refine hX.El (k:=0) rfl (by omega) λq y hy hc=>?_;have hy:x=y:=by grind
   subst hy;refine aO (hc 2 _ rfl) ?_;have Z0:=I.top (kc x) (by simp);have hk:(kc x).1=x.k:=rfl;refine Rg.abK s (i:=1) rfl (λhno=>?_) λ_ w Hw s=>?_
   ·exact(hno ⟨rfl,I.low x (by simp),by omega⟩).elim
   ·exact go x.k Hw w I.jump (λ_ y hy=>by grind) s
  ·rw[cB (by simp_all),cond_false];grind
def ajV {Q:World->Prop}{x key:Int}(hC:Sl w0 ca cn cc 1 bu cs)(hx:0<=x/\x<cs.length)(hds:ds.length=cs.length)(hk:a<=key/\key<a+256/\key<1000000000000)(hN:N+1<1000000)
  (s:Sep No w0 w (DD p rp tw th ca cn cc a l bs N ta tn tc todo da dn dc ds))
  (h:∀bs' w',Sep No w0 w' (DD p rp tw th ca cn cc a (l++if gi cs x.toNat≠255/\gi ds x.toNat=cj then[(key,x)]else[]) bs' (N+(if gi cs x.toNat≠255/\gi ds x.toNat=cj then[(key,x)]else[]).length) ta tn tc todo da dn dc ds)->Q w'):
  iA (sZ p) x key w Q:=by
 apply Kj;have hD:=aK s (i:=3) rfl cE (by decide);have V2:=hC.len;have hdn:=hD.len;have skip:¬(gi cs x.toNat≠255/\gi ds x.toNat=cj)->Q w:=λhn=>by apply h bs w;grind
 refine ah (lS s 0 rfl ?_);apply(hC.fr (au s)).Dq (k:=x.toNat) (by omega) (by omega);by_cases h1:gi cs x.toNat=255
 ·grind
 ·rw[show(gi cs x.toNat !=255)=true by grind,cond_true];refine ah (lS s 0 rfl ?_);apply hD.rE (k:=x.toNat) (by omega) (by omega);by_cases h2:gi ds x.toNat=cj
  ·rw[dw (show gi ds x.toNat=1099511627776 from h2),cond_true];refine ah (lP s 0 rfl ?_);refine Rg.QW s (i:=1) rfl (by omega) (by omega) (λhno=>(hno ⟨hk.1,hk.2.1⟩).elim) λ_ w Hw s=>?_;apply h Hw w;grind
  ·rw[cB (show gi ds x.toNat≠1099511627776 from h2),cond_false];grind
def ain {Q:World->Prop}{x:Int}(hC:Sl w0 ca cn cc 1 bu cs)(hcs:∀x∈cs,1<=x/\x<256)(hw:1<=tw/\tw<=16)(hh:1<=th/\th<=16)(hlen:(cs.length:Int)=tw*th)(hx:0<=x/\x<cs.length)(I_:gi cs x.toNat≠255)(hds:ds.length=cs.length)
  (ha:gi ds x.toNat=a)(hab:0<=a/\a<100000000000)(hN:N+4<1000000)(s:Sep No w0 w (DD p rp tw th ca cn cc a l bs N ta tn tc todo da dn dc ds))
  (h:∀bs' w',Sep No w0 w' (DD p rp tw th ca cn cc a (l++lj tw th cs ds (a+gi cs x.toNat) x 4) bs' (N+(lj tw th cs ds (a+gi cs x.toNat) x 4).length) ta tn tc todo da dn dc ds)->Q w'):
  tg (sZ p) x w Q:=by
 apply JJ;have hD:=aK s (i:=3) rfl cE (by decide);have V2:=hC.len;have hdn:=hD.len;have hcx:=hcs _ (fG (i:=x.toNat) (by omega));have KY:x<257:=by have:tw*th<=16*16:=Int.mul_le_mul hw.2 hh.2 (by omega) (by decide);omega
 have d0:0<=x/tw:=Int.ediv_nonneg hx.1 (by omega);have d1:x/tw<=x:=Int.ediv_le_self _ hx.1;have s:=ay s;refine ah (lS s 0 rfl ?_);apply hD.drew.rE (k:=x.toNat) (by omega) (by omega);refine ah (lS s 0 rfl ?_);apply(hC.fr (au s)).Dq (k:=x.toNat) (by omega) (by omega);have s:=ay s;refine ah (lI s 0 rfl ⟨by omega,ah (lI s 0 rfl ⟨by omega,cq s 0 rfl,?_⟩)⟩);rw[ha,Int.tdiv_eq_ediv_of_nonneg hx.1,Int.tmod_eq_emod_of_nonneg hx.1,aG,aG (n:=gi cs x.toNat),aG];generalize hkey:a+gi cs x.toNat=key at h;have hkr:a<=key/\key<a+256/\key<1000000000000:=by omega
 have one:∀{j:Nat} {yu:List Rg.Bk} {w:World} {K:World->Prop} {y:Int},j<4->0<=bO tw th x j->y=bO tw th x j->Sep No w0 w (DD p rp tw th ca cn cc a (l++lj tw th cs ds key x j) yu (N+(lj tw th cs ds key x j).length) ta tn tc todo da dn dc ds)->
   (∀Hw w',Sep No w0 w' (DD p rp tw th ca cn cc a (l++lj tw th cs ds key x (j+1)) Hw (N+(lj tw th cs ds key x (j+1)).length) ta tn tc todo da dn dc ds)->K w')->iA (sZ p) y key w K:=λ{j yu w K y} hj h0 hy s hK=>by
  subst hy;have hr:=SK hw.1 hh.1 (by grind) h0;have IJ:=Wf tw th cs ds key x j;refine ajV hC ⟨h0,by grind⟩ hds hkr (by omega) s λHw w s=>hK Hw w ?_;rw[abO];unfold abN;grind
 have none:∀{j:Nat} {yu:List Rg.Bk} {w:World},¬0<=bO tw th x j->Sep No w0 w (DD p rp tw th ca cn cc a (l++lj tw th cs ds key x j) yu (N+(lj tw th cs ds key x j).length) ta tn tc todo da dn dc ds)->
   Sep No w0 w (DD p rp tw th ca cn cc a (l++lj tw th cs ds key x (j+1)) yu (N+(lj tw th cs ds key x (j+1)).length) ta tn tc todo da dn dc ds):=λ{j yu w} h0 s=>by
  rw[abO];unfold abN;grind
 have n0:bO tw th x ((0:Nat):Int)=if x/tw>0 then x-tw else-1:=by unfold bO;rw[if_pos (by decide)]
 have n1:bO tw th x ((1:Nat):Int)=if x%tw<tw-1 then x+1 else-1:=by unfold bO;rw[if_neg (by decide),if_pos (by decide)]
 have n2:bO tw th x ((2:Nat):Int)=if x/tw<th-1 then x+tw else-1:=by unfold bO;rw[if_neg (by decide),if_neg (by decide),if_pos (by decide)]
 have n3:bO tw th x ((3:Nat):Int)=if x%tw>0 then x-1 else-1:=by unfold bO;rw[if_neg (by decide),if_neg (by decide),if_neg (by decide),if_pos (by decide)]
 have hxe:x=x/tw*tw+x%tw:=by have:=Int.mul_ediv_add_emod x tw;rw[Int.mul_comm]at this;omega
 have hm0:0<=x%tw:=Int.emod_nonneg _ (by omega);have b8:∀(yu:List Rg.Bk) (w:World),Sep No w0 w (DD p rp tw th ca cn cc a (l++lj tw th cs ds key x 3) yu (N+(lj tw th cs ds key x 3).length) ta tn tc todo da dn dc ds)->my Q (some ⟨p,0,Option.none⟩) x key (x%tw) w:=λyu w s=>by
  unfold my;by_cases q:x%tw>0
  ·rw[bN q,aG];rw[if_pos q]at n3;refine one (by decide) (by rw[n3];have:=Int.mul_nonneg d0 (show 0<=tw by omega);omega) n3.symm s λHw w s=>h Hw w s
  ·rw[bh q];rw[if_neg q]at n3;exact h yu w (none (by rw[n3];decide) s)
 have b6:∀(yu:List Rg.Bk) (w:World),Sep No w0 w (DD p rp tw th ca cn cc a (l++lj tw th cs ds key x 2) yu (N+(lj tw th cs ds key x 2).length) ta tn tc todo da dn dc ds)->pN Q (some ⟨p,0,Option.none⟩) x key (x%tw) (x/tw) w:=λyu w s=>by
  refine ah (lI s 0 rfl ?_);rw[aG];by_cases q:x/tw<th-1
  ·rw[bN q];refine ah (lI s 0 rfl ?_);rw[aG];rw[if_pos q]at n2;exact one (by decide) (by rw[n2];omega) n2.symm s λHw w s=>b8 Hw w s
  ·rw[bh q];rw[if_neg q]at n2;exact b8 yu w (none (by rw[n2];decide) s)
 have b4:∀(yu:List Rg.Bk) (w:World),Sep No w0 w (DD p rp tw th ca cn cc a (l++lj tw th cs ds key x 1) yu (N+(lj tw th cs ds key x 1).length) ta tn tc todo da dn dc ds)->pO Q (some ⟨p,0,Option.none⟩) x key (x%tw) (x/tw) w:=λyu w s=>by
  refine ah (lI s 0 rfl ?_);rw[aG];by_cases q:x%tw<tw-1
  ·rw[bN q,aG];rw[if_pos q]at n1;exact one (by decide) (by rw[n1];omega) n1.symm s λHw w s=>b6 Hw w s
  ·rw[bh q];rw[if_neg q]at n1;exact b6 yu w (none (by rw[n1];decide) s)
 have e0:lj tw th cs ds key x 0=[]:=rfl;have s:Sep No w0 w.drew.drew (DD p rp tw th ca cn cc a (l++lj tw th cs ds key x 0) bs (N+(lj tw th cs ds key x 0).length) ta tn tc todo da dn dc ds):=by rw[e0,List.append_nil];exact s
 by_cases q:x/tw>0
 ·rw[bN q];refine ah (lI s 0 rfl ?_);rw[aG];rw[if_pos q]at n0;refine one (by decide) ?_ n0.symm s λHw w s=>b4 Hw w s;have:=Int.mul_le_mul_of_nonneg_right (show 1<=x/tw by omega) (show 0<=tw by omega);omega
 grind
def aqq {Q:World->Prop}(hC:Sl w0 ca cn cc 1 bu cs)(hcs:∀x∈cs,1<=x/\x<256)(hw:1<=tw/\tw<=16)(hh:1<=th/\th<=16)(hlen:(cs.length:Int)=tw*th)(wm:cs.length<=256)(hxs:xs.length<2000)
  (h:∀a bs N ta tn tc w',Sep No w0 w' (DD p rp tw th ca cn cc a [] bs N ta tn tc [] da dn dc (jB tw th cs xs))->Q w'):
  ∀(f:Nat) (a:Int) (l:List (Int×Int)) (bs:List Rg.Bk) (N:Nat) (ta:Option Addr) (tn tc:Nat) (todo:List bj) (ds:List Int) (w:World),l.length+todo.length+5*GJ ds<=f->0<=a->CB tw th cs xs a l N todo ds->(∀x∈todo,a+256<=x.k)->(l=[]->todo=[])->
   Sep No w0 w (DD p rp tw th ca cn cc a l bs N ta tn tc todo da dn dc ds)->jT Q (f+1) (sZ p) w:=by
 intro f;induction f with
 |zero=>
  intro a l bs N ta tn tc todo ds w hf ha I auJ aio s;obtain rfl:l=[]:=List.eq_nil_of_length_eq_zero (by omega);have KU:=aio rfl;subst KU;show zx Q (jT Q 0) _ _;refine ah (lP s 0 rfl (Rg.Di s (i:=1) rfl ?_));apply h a bs N ta tn tc w;rw[<-I.done];exact s
 |succ f ih=>
  intro a l bs N ta tn tc todo ds w hf ha I auJ aio s;show zx Q (jT Q (f+1)) _ _;refine ah (lP s 0 rfl (Rg.Di s (i:=1) rfl ?_));by_cases hl:l=[]
  ·subst hl;have KU:=aio rfl;subst KU;apply h a bs N ta tn tc w;rw[<-I.done];exact s
  ·have hl0:=List.length_pos_iff.2 hl;have ax_:=Rg.H9 s (i:=1) rfl;rw[bN];refine ah (lP s 0 rfl ?_);refine Rg.adT s (i:=1) rfl (λe=>(hl e).elim) λw k l1 x l2 Hw e awg awh sN=>?_;subst e;have s:=sN;have hin:(k,x)∈(l1++(k,x)::l2)++todo.map kc:=by simp
   have I_:=I.Em _ hin;have Z0:=I.top _ hin;simp[List.length_append,List.length_cons]at Z0 hf;have hfit:=ax_.fit (k,x) (by simp);have hmin:∀e∈l1++l2,k<=e.1:=λe he=>by
    rcases List.mem_append.1 he with he|he
    ·have:=awg e he;omega
    ·exact awh e he
   have arS:∀y∈todo,k<=y.k:=λy hy=>by have:=auJ y hy;omega
   have hD:=aK s (i:=3) rfl cE (by decide);have hdn:=hD.len;have hdl:=I.len;have aya:0<=x/\x<cs.length:=⟨I_.1,I_.2.1⟩;apply ah;apply lS s 0 rfl;apply hD.rE (k:=x.toNat) (by omega) (by omega);have next:∀{l':List (Int×Int)} {N':Nat} {bs':List Rg.Bk} {ds':List Int} {w:World},CB tw th cs xs k l' N' todo ds'->l'.length+todo.length+5*GJ ds'<=f->Sep No w0 w (DD p rp tw th ca cn cc k l' bs' N' ta tn tc todo da dn dc ds')->
     jR (sZ p) w λw'=>jT Q (f+1) (sZ p) w':=λI' hf' s'=>by
    refine abS I' wm hxs s' λa' l' N' todo' bs' Yw tn' Yx w' I2 alH alI hl2 s2=>?_;have alJ:=Rg.H9 s2 (i:=1) rfl;exact ih a' l' bs' N' Yw tn' Yx todo' _ w' (by omega) alJ.nn I2 alH alI s2
   by_cases hd:gi ds x.toNat=cj
   ·rw[dw (show gi ds x.toNat=1099511627776 from hd),cond_true];apply ah;apply lS s 0 rfl;refine E6 cE s (i:=3) (k:=x.toNat) (x':=k) rfl (by omega) (by omega) rfl rfl λw s=>?_;have vH:=We (k:=k) (by unfold cj;omega) (by omega) hd;have Wi:=I.fe;have awi:gi (ds.set x.toNat k) x.toNat=k:=by rw[aaQ (by omega),if_pos rfl]
    refine ain hC hcs hw hh hlen aya I_.2.2 (by rw[List.length_set];exact hdl) awi ⟨by omega,by omega⟩ (by omega) s λbs' w s=>?_;have IJ:=Wf tw th cs (ds.set x.toNat k) (k+gi cs x.toNat) x 4;refine next (I.step hcs hw.1 hh.1 hlen wm hd hmin arS rfl) ?_ s
    simp[List.length_append];omega
   ·rw[cB (show gi ds x.toNat≠1099511627776 from hd),cond_false];refine next (I.skip ?_ arS) (by simp[List.length_append];omega) s
    have hfx:fD ds x=gi ds x.toNat:=by unfold fD;rw[AP]
    by_cases q:fD ds x<cj
    ·exact q
    ·have:=I.dj.none x q;rw[hfx]at this;exact(hd this).elim
def an7 {Q:Option Addr->Nat->Nat->Int->World->Prop}(hC:Sl w0 ca cn cc 1 bu cs)(hcs:∀x∈cs,1<=x/\x<256)(hw:1<=tw/\tw<=16)(hh:1<=th/\th<=16)(hlen:(cs.length:Int)=tw*th)(wm:cs.length<=256)(hxs:xs.length<2000)
  (I:CB tw th cs xs 0 [] 0 todo ds)(s:Sep No w0 w (DD p rp tw th ca cn cc 0 [] bs 0 ta tn tc todo da dn dc ds))
  (h:∀da dc w',Sep No w0 w' [ak da cs.length dc 3 1 (flat one (jB tw th cs xs))]->Q da cs.length dc 0 w'):rm Q (aZ p) w:=by
 apply MJ;refine abS I wm hxs s λa' l' N' todo' bs' Yw tn' Yx w' I2 alH alI hl2 s2=>?_;have alJ:=Rg.H9 s2 (i:=1) rfl;refine⟨_,aqq hC hcs hw hh hlen wm hxs (λa bs N ta tn tc w s=>?_) _ a' l' bs' N' Yw tn' Yx todo' ds w' (Nat.le_refl _) alJ.nn I2 alH alI s2⟩;apply lS s 0 rfl;have hdn:=(aK s (i:=3) rfl cE (by decide)).len;have e:dn=cs.length:=by rw[<-hdn];simp[jB]
 subst e;exact h da dc w (ai (ai (ai s)))
end
section
variable {F:Nat->Prop}{W w w0:World}{L:List As}{tw th:Int}{ca la:Option Addr}{cn cc ln lc:Nat}{cs:List Int}{xs:List bj}
def Z4:(jB tw th cs xs).length=cs.length:=by simp[jB]
def adX {b:Nat}{v:Int}(s:Sep F W w (av b 3 [ae v]::L)):Sl w (sZ b) 1 1 1 one [v]:=
 aK (g_ s (i:=0) rfl rfl (by decide) (λu hu=>by rw[List.mem_singleton]at hu;rw[hu];rfl)) (i:=0) rfl cE (by decide)
structure sj (tw th:Int) (cs:List Int):Prop where
 w:1<=tw/\tw<=16
 h:1<=th/\th<=16
 len:(cs.length:Int)=tw*th
 jO:∀x∈cs,1<=x/\x<256
def sj.small (h:sj tw th cs):1<=cs.length/\cs.length<=256:=by have h1:=Int.mul_le_mul h.w.2 h.h.2 (by have:=h.h;omega) (by decide);have h2:=Int.mul_le_mul h.w.1 h.h.1 (by decide) (by have:=h.w;omega);have:=h.len;omega
def Wj {Q:Option Addr->Nat->Nat->Int->World->Prop}(s0:Sep F W w L)(hA:Sl w ca cn cc 1 bu cs)(hX:Sl w la ln lc 3 fW xs)(hT:sj tw th cs)(hok:r9 tw th cs xs=true)(hnd:xs.Nodup)(qk:ln<2000)
  (h:∀da dc w',Sep F W w' (ak da cs.length dc 3 1 (flat one (jB tw th cs xs))::L)->Fr No w w'->Q da cs.length dc 0 w'):xu tw th ca cn cc la ln lc w Q:=by
 apply VG;have wm:=hT.small;have hxl:=hX.len;have yp:=hA.len;refine aQ (bt (F:=No)) λtb w1 s=>?_;refine lI s 0 rfl (lI s 0 rfl (lS s 0 rfl ?_));refine Nw s (hA.fr (au s)) (hX.fr (au s)) (by omega) λw1 s _=>?_;rw[hok,Bool.not_true,cond_false];have s:=ay s;refine lI s 0 rfl (lI s 0 rfl (lS s 0 rfl (lS s 0 rfl ?_)));have fin:∀{p rp:Nat} {bs:List Rg.Bk} {ta da:Option Addr} {tc dn dc:Nat} {w':World},Sep No w w' (DD p rp tw th ca cn cc 0 [] bs 0 ta ln tc (NA xs) da dn dc (List.replicate cs.length cj))->rm Q (aZ p) w':=λs=>
  an7 hA hT.jO hT.w hT.h hT.len wm.2 (by omega) (anR hok (λx=>aqe) aqf ajS) s λda dc w' s'=>h da dc w' (dQ s0 s' (i:=0) rfl) (au s')
 have cell:∀{w':World} {L':List As} {i j:Nat} {v:Value},Sep No w w' L'->L'[i]? =some (av tb 84 [ae tw,ae th,.slice ca cn cc])->([ae tw,ae th,.slice ca cn cc]:List Value)[j]? =some v->w'.cell? ((aZ tb).add j)=some v:=λs hi hj=>cR s (by rw[cu,Nat.zero_add]) hi hj;have e0:((cn:Nat):Int)=((cs.length:Nat):Int):=by omega
 constructor
 ·refine Rg.QX s (λe=>by omega) λ_ rp w1 bs s=>?_;refine⟨cell s (i:=1) rfl rfl,cell s (i:=1) rfl rfl,cell s (i:=1) rfl rfl,cell s (i:=1) rfl rfl,?_,?_⟩
  ·refine AD s (hX.fr (au s)) qk hnd λra rc w1 s _=>?_;refine⟨cell s (i:=2) rfl rfl,cell s (i:=2) rfl rfl,cell s (i:=2) rfl rfl,cell s (i:=2) rfl rfl,?_⟩;refine aQ s λib w1 s=>?_;refine⟨cell s (i:=3) rfl rfl,cell s (i:=3) rfl rfl,cell s (i:=3) rfl rfl,cell s (i:=3) rfl rfl,?_⟩;rw[e0];refine LH s (adX s) (by omega) λda w1 s _=>?_;refine⟨cell s (i:=4) rfl rfl,cell s (i:=4) rfl rfl,cell s (i:=4) rfl rfl,?_⟩;refine aQ s λpb w1 s=>?_;exact fin (pk 99 [0,4,3,1] s)
  ·refine aQ s λib w1 s=>?_;refine⟨cell s (i:=2) rfl rfl,cell s (i:=2) rfl rfl,cell s (i:=2) rfl rfl,cell s (i:=2) rfl rfl,?_⟩;have hI:=adX s;refine AD s (hX.fr (au s)) qk hnd λra rc w1 s f=>?_;refine⟨cell s (i:=3) rfl rfl,cell s (i:=3) rfl rfl,cell s (i:=3) rfl rfl,cell s (i:=3) rfl rfl,?_⟩;rw[e0];refine LH s (hI.fr f) (by omega) λda w1 s _=>?_;refine⟨cell s (i:=4) rfl rfl,cell s (i:=4) rfl rfl,cell s (i:=4) rfl rfl,?_⟩;refine aQ s λpb w1 s=>?_;exact fin (pk 99 [0,4,2,1] s)
 ·refine aQ s λib w1 s=>?_;refine⟨cell s (i:=1) rfl rfl,cell s (i:=1) rfl rfl,cell s (i:=1) rfl rfl,cell s (i:=1) rfl rfl,?_⟩;refine Rg.QX s (λe=>by omega) λ_ rp w1 bs s=>?_;refine⟨cell s (i:=2) rfl rfl,cell s (i:=2) rfl rfl,cell s (i:=2) rfl rfl,cell s (i:=2) rfl rfl,?_⟩;have hI:=adX (ai s);refine AD s (hX.fr (au s)) qk hnd λra rc w1 s f=>?_;refine⟨cell s (i:=3) rfl rfl,cell s (i:=3) rfl rfl,cell s (i:=3) rfl rfl,cell s (i:=3) rfl rfl,?_⟩;rw[e0];refine LH s (hI.fr f) (by omega) λda w1 s _=>?_;refine⟨cell s (i:=4) rfl rfl,cell s (i:=4) rfl rfl,cell s (i:=4) rfl (j:=2) rfl,?_⟩;refine aQ s λpb w1 s=>?_;exact fin (pk 99 [0,3,2,1] s)
end
end Go.Proofs.YtmegplnmiepfbaaGreatDoor.S
namespace Go.Proofs.YtmegplnmiepfbaaGreatDoor.S
open Go.Sx
def auL {cs:List Value}{t:TypeId}{w:World}{R:World->Prop}{K:Addr->World->Prop}(h:Bx cs t w K)(hr:R (w.alloc (.cells cs.toArray t))):Bx cs t w λp w1=>R w1/\K p w1:=⟨hr,h⟩
attribute [local irreducible] af cv bz bg aA cw bZ St Bx Al App cH cy cD bU aM bF aq bS av ak aW mapA
section
variable {F:Nat->Prop}{W w w0:World}{L:List As}{p:Nat}{tw th l:Int}{ca la da:Option Addr}{cn cc ln lc dn dc:Nat}{cs ds:List Int}{xs:List bj}
structure Xg (w:World) (p:Nat) (tw th:Int) (cs:List Int) (xs:List bj) (ds:List Int):Prop where
 ex:∃ca cn cc la ln lc da dn dc,r_ w p [ae tw,ae th,.slice ca cn cc,.slice la ln lc,.slice da dn dc]/\Sl w ca cn cc 1 bu cs/\Sl w la ln lc 3 fW xs/\Sl w da dn dc 1 one ds/\ln<2000
 T:sj tw th cs
 len:ds.length=cs.length
 jO:∀x∈ds,0<=x/\x<=cj
def Xg.fr {w':World}(k:Xg w p tw th cs xs ds)(f:Fr No w w'):Xg w' p tw th cs xs ds:=by obtain⟨ca,cn,cc,la,ln,lc,da,dn,dc,h1,h2,h3,h4,h5⟩:=k.ex;exact⟨⟨ca,cn,cc,la,ln,lc,da,dn,dc,h1.fr f,h2.fr f,h3.fr f,h4.fr f,h5⟩,k.T,k.len,k.jO⟩
def ED {Q:Bool->World->Prop}{s:Int}(s0:Sep F W w L)(k:Xg w p tw th cs xs ds)(hl:0<=l/\l<cs.length)(h:∀w',Sep F W w' L->Fr No w w'->Q (Tw tw th cs xs (fD ds) l s) w'):
  nL (sZ p) l s w Q:=by
 apply UD;have hT:=k.T;have wm:=hT.small;have hdl:=k.len;obtain⟨ca,cn,cc,la,ln,lc,da,dn,dc,k1,k2,k3,k4,k5⟩:=k.ex;have hdn:=k4.len;have V2:=k2.len;refine abE (bt (F:=No)) k1 hT.w hT.h ⟨hl.1,by omega⟩ λw1 s1 f1=>?_;unfold Tw at h;have hfl:fD ds l=gi ds l.toNat:=by unfold fD;omega
 by_cases hn:bO tw th l s<0
 ·rw[bN hn];rw[if_pos hn,hfl]at h;have k1:=(k1.fr f1).fr (w':=w1.drew) Fr.refl;have k4:=(k4.fr f1).drew;refine ah (dJ (k1 3 _ rfl) (ah (dJ (k1 4 _ rfl) ?_)));refine Sl.El k4 (k:=l.toNat) (by omega) (by omega) λq x hx hc=>?_;rw[ig (by omega)]at hx;cases hx;have hc0:=hc 0 _ rfl;apply aO hc0;refine LM (ay s1) ((k3.fr f1).drew) (by omega) λw2 s2 f2=>?_;exact⟨Fr.cell f2 hc0 id,(k1.fr f2) 4 _ rfl,h _ (bX s0 (au s2)) (au s2)⟩
 ·rw[bh hn];rw[if_neg hn,hfl]at h;have hr:=SK hT.w.1 hT.h.1 (by rw[<-hT.len];exact hl) (show 0<=bO tw th l s by omega);have hnl:bO tw th l s<cs.length:=by rw[hT.len];exact hr.1
  have hfn:fD ds (bO tw th l s)=gi ds (bO tw th l s).toNat:=by unfold fD;omega
  rw[hfn]at h;have k1:=(k1.fr f1).fr (w':=w1.drew) Fr.refl;have k2:=(k2.fr f1).drew;have k4:=(k4.fr f1).drew;have s1:=ay s1;have YC:=hT.jO _ (fG (i:=(bO tw th l s).toNat) (by omega));have hd1:=k.jO _ (fG (i:=(bO tw th l s).toNat) (by omega));refine ah (dJ (k1 2 _ rfl) ?_);apply k2.Dq (k:=(bO tw th l s).toNat) (by omega) (by omega);have h:=h _ (bX s0 (au s1)) (au s1);by_cases h1:gi cs (bO tw th l s).toNat=255
  ·grind
  ·have e:(gi cs (bO tw th l s).toNat !=255)=true:=by grind
   rw[e,Bool.true_and]at h;rw[e,cond_true];refine ah (dJ (k1 2 _ rfl) ?_);apply k2.Dq (k:=(bO tw th l s).toNat) (by omega) (by omega);refine ah (dJ (k1 4 _ rfl) ?_);apply k4.rE (k:=(bO tw th l s).toNat) (by omega) (by omega);refine ah (dJ (k1 4 _ rfl) ?_);apply k4.rE (k:=l.toNat) (by omega) (by omega);unfold cj at hd1;rw[aG (n:=gi cs (bO tw th l s).toNat),aG];exact h
def adY {Q:Int->World->Prop}(s0:Sep F W w L)(k:Xg w p tw th cs xs ds)(hl:0<=l/\l<cs.length)(h:∀w',Sep F W w' L->Fr No w w'->Q (ZW tw th cs xs (fD ds) l) w'):
  Ak (sZ p) l w Q:=by
 apply So;have hdl:=k.len;have hfl:fD ds l=gi ds l.toNat:=by unfold fD;omega
 obtain⟨ca,cn,cc,la,ln,lc,da,dn,dc,k1,k2,k3,k4,k5⟩:=k.ex;have hdn:=k4.len;refine ah (dJ (k1 4 _ rfl) ?_);apply k4.rE (k:=l.toNat) (by omega) (by omega);unfold ZW at h;rw[hfl]at h;by_cases hI:gi ds l.toNat=cj
 ·rw[if_pos hI]at h;rw[dw (show gi ds l.toNat=1099511627776 from hI),cond_true];exact h w s0 Fr.refl
 rw[if_neg hI]at h;rw[cB (show gi ds l.toNat≠1099511627776 from hI),cond_false];refine ah (dJ (k1 3 _ rfl) ?_);refine LM (bt (F:=No)) k3 (by omega) λw1 s1 f1=>?_;by_cases hB:Iu xs l 4=gi ds l.toNat
 ·rw[if_pos hB]at h;rw[dw hB.symm,cond_true];exact h w1 (bX s0 f1) f1
 rw[if_neg hB]at h;rw[cB (λe=>hB e.symm),cond_false];apply OG;unfold uJ sK sJ;refine ED s1 (k.fr f1) hl λw1 s1 _=>?_;cases h0:Tw tw th cs xs (fD ds) l 0 with
 |true=>rw[h0,if_pos rfl]at h;rw[cond_true];exact h w1 (bX s0 (au s1)) (au s1)
 |false=>
  rw[h0,if_neg (by decide)]at h;refine ED s1 (k.fr (au s1)) hl λw1 s1 _=>?_;cases h0:Tw tw th cs xs (fD ds) l 1 with
  |true=>rw[h0,if_pos rfl]at h;rw[cond_true];exact h w1 (bX s0 (au s1)) (au s1)
  |false=>
   rw[h0,if_neg (by decide)]at h;refine ED s1 (k.fr (au s1)) hl λw1 s1 _=>?_;cases h0:Tw tw th cs xs (fD ds) l 2 with
   |true=>rw[h0,if_pos rfl]at h;rw[cond_true];exact h w1 (bX s0 (au s1)) (au s1)
   |false=>
    rw[h0,if_neg (by decide)]at h;refine ED s1 (k.fr (au s1)) hl λw1 s1 _=>?_;cases h0:Tw tw th cs xs (fD ds) l 3 with
    |true=>rw[h0,if_pos rfl]at h;rw[cond_true];exact h w1 (bX s0 (au s1)) (au s1)
    |false=>rw[h0,if_neg (by decide)]at h;rw[cond_false];exact h w1 (bX s0 (au s1)) (au s1)
noncomputable def nY (tw th:Int)(cs:List Int)(xs:List bj):List Int:=(List.range cs.length).map λl:Nat=>ZW tw th cs xs (fD (jB tw th cs xs)) l
def as3 (hok:r9 tw th cs xs=true)(hT:sj tw th cs):∀x∈jB tw th cs xs,0<=x/\x<=cj:=λx hx=>by
 obtain⟨l,hl,rfl⟩:=List.mem_map.1 hx;unfold r9 at hok;rw[Bool.and_eq_true,List.all_eq_true]at hok;have hs:∀x k,Nz xs x k->0<=k/\k<=1073741824:=by rintro x k ⟨y,hy,rfl,rfl⟩;have:=hok.2 y hy;unfold Az at this;grind
 have he:∀x n c,Iw tw th cs x n c->1<=c/\c<=254:=λx n c h=>by have h1:=hT.jO _ (fG (i:=n.toNat) (by have:=h.2.1;unfold Iv at this;omega));have h2:=h.2.1.2.2;rw[h.2.2.2];omega
 have alK:∀{x d},Wy (Nz xs) (Iw tw th cs) x d->x∈(List.range cs.length).map λl:Nat=>(l:Int):=λhw=>by
  have hm:∀{x:Int},0<=x/\x<cs.length->x∈(List.range cs.length).map λl:Nat=>(l:Int):=λ{x} hx=>List.mem_map.2 ⟨x.toNat,List.mem_range.2 (by omega),by omega⟩;cases hw with
  |src h=>
   obtain⟨y,hy,rfl,rfl⟩:=h;have:=hok.2 y hy;unfold Az at this;grind
  |go e _=>exact hm ⟨e.1.1,e.1.2.1⟩
 show 0<=gO _ _ _/\gO _ _ _<=cj;by_cases hw:∃d,Wy (Nz xs) (Iw tw th cs) l d
 ·obtain⟨d,hd⟩:=hw;have h1:=aaV hs he _ (λx d h=>alK h) hd;have h2:=mP (λx k h=>(hs x k h).1) (λx n c h=>by grind) (q8 (λx k h=>(hs x k h).1) (λx n c h=>by grind) hd).1;rw[List.length_map,List.length_range]at h1;have:=hT.small;unfold cj;omega
 ·rw[xU λd hd=>hw ⟨d,hd⟩];unfold cj;omega
def awj {a:Option Addr}{n c:Nat}{bs:List Int}{x:Int}{ad:Addr}{v:Value}{K:Option Addr->Nat->Nat->World->Prop}(s:Sep F W w (ak a n c 3 1 (flat one bs)::L))(hn:n<=1000000000)(hc:w.cell? ad=some v)
  (k:∀a' c' w',Sep F W w' (ak a' (n+1) c' 3 1 (flat one (bs++[x]))::L)->K a' (n+1) c' w'):Bx [ae x] 3 w λp w1=>w1.cell? ad=some v/\App P #[29,29] 29 (.slice a n c) (.slice (some p) 1 1) w1 K:=by
 have hB:=LF s hn k;exact auL hB (Fr.cell (F:=No) (Fr.alloc Fr.refl _) hc id)
def Ye {Q:Option Addr->Nat->Nat->Option Addr->Nat->Nat->Int->World->Prop}(s0:Sep F W w L)(hA:Sl w ca cn cc 1 bu cs)(hX:Sl w la ln lc 3 fW xs)(hT:sj tw th cs)(hok:r9 tw th cs xs=true)(hnd:xs.Nodup)(qk:ln<2000)
  (h:∀da dc ra rc w',Sep F W w' (ak ra cs.length rc 3 1 (flat one (nY tw th cs xs))::ak da cs.length dc 3 1 (flat one (jB tw th cs xs))::L)->Fr No w w'->Q da cs.length dc ra cs.length rc 0 w'):
  DK tw th ca cn cc la ln lc w Q:=by
 apply X3;have wm:=hT.small;refine aQ (bt (F:=No)) λtb w1 s=>?_;refine aV s λrb w1 s=>?_;refine lI s 1 rfl (lI s 1 rfl (lS s 1 rfl ?_));refine Wj s (hA.fr (au s)) (hX.fr (au s)) hT hok hnd qk λda dc w1 s _=>?_;refine lI s 2 rfl (lI s 2 rfl (lS s 2 rfl ?_));refine aQ s λhb w1 s=>?_;refine aV s λfb w1 s=>?_;refine sT s 0 rfl λw1 s=>?_;refine ax s (i:=0) rfl rfl rfl λw1 s=>?_;have loop:∀(j i:Nat) (ra:Option Addr) (rc:Nat) (w2:World),i+j=cs.length->
   Sep No w w2 [ak ra i rc 3 1 (flat one ((nY tw th cs xs).take i)),av fb 213 [.slice da cs.length dc,.slice ra i rc],av hb 340 [ae tw,ae th,.slice ca cn cc,.slice la ln lc,.slice da cs.length dc],ak da cs.length dc 3 1 (flat one (jB tw th cs xs)),av rb 213 [.slice none 0 0,.slice none 0 0]]->
   sM Q (j+1) (aZ rb) (aZ hb) (aZ fb) cs.length i w2:=by
  intro j;induction j with
  |zero=>
   intro i ra rc w2 hi s;show xD Q (sM Q 0) _ _ _ _ _ _;rw[xD,bh];refine lS s 1 rfl (lS s 1 rfl ?_);refine sT s 4 rfl λw2 s=>?_;refine ax s (i:=4) rfl rfl rfl λw2 s=>?_;refine lS s 4 rfl (lS s 4 rfl ?_);obtain rfl:i=cs.length:=by omega
   rw[List.take_of_length_le (by unfold nY;grind)]at s;have s':Sep No w w2 [ak ra cs.length rc 3 1 (flat one (nY tw th cs xs)),ak da cs.length dc 3 1 (flat one (jB tw th cs xs))]:=pk 99 [0,3] s;exact h da dc ra rc w2 (gg s0 s') (au s')
  |succ j ih=>
   intro i ra rc w2 hi s;show xD Q (sM Q (j+1)) _ _ _ _ _ _;rw[xD,bN];have s:=ay s;apply lS s 1 rfl;have hk:Xg w2.drew hb tw th cs xs (jB tw th cs xs):=⟨⟨_,_,_,_,_,_,_,_,_,lz s (i:=2) rfl,hA.fr (au s),hX.fr (au s),aK s (i:=3) rfl cE (by decide),qk⟩,hT,Z4,as3 hok hT⟩;refine adY s hk (by omega) λw3 s _=>?_;refine⟨cq s 1 rfl,?_⟩;refine awj s (by omega) (cq s 1 rfl) λra' rc' w3 s=>?_;refine ax s (i:=1) rfl rfl rfl λw3 s=>?_;rw[aG];apply ih (i+1) ra' rc' w3 (by omega);have e:(nY tw th cs xs).take (i+1)=(nY tw th cs xs).take i++[ZW tw th cs xs (fD (jB tw th cs xs)) i]:=by rw[nY,List.take_add_one,List.getElem?_map,List.getElem?_range (by omega)];rfl
   rw[e];exact s
 have s:=pk 99 [0,1,2,3] s;exact⟨cs.length+1,loop cs.length 0 none 0 w1 (by omega) (bG s 3 1)⟩
end
end Go.Proofs.YtmegplnmiepfbaaGreatDoor.S
namespace Go.Proofs.YtmegplnmiepfbaaGreatDoor.S
open Go.Sx
attribute [local irreducible] af cv bz bg aA cw bZ St Bx Al App cH cy cD bU aM bF aq bS av ak aW mapA
section
variable {F:Nat->Prop}{W w w0:World}{L:List As}{tw th l:Int}{ca la da:Option Addr}{cn cc ln lc dn dc:Nat}{cs ds ls:List Int}{xs:List bj}
def sj.DV (h:sj tw th cs):Tl.DV tw th cs=true:=Tl.ZR.2 ⟨h.w,h.h,h.len,λe=>by have:=h.jO 0 e;omega⟩
def aqr (hT:sj tw th cs)(hl:0<=l/\l<cs.length)(ho:gi cs l.toNat≠255):r9 tw th cs [⟨l,4,0⟩]=true:=by rw[r9,hT.DV,Bool.true_and,List.all_cons,List.all_nil,Bool.and_true];rw[Az,decide_eq_true hl,show(gi cs l.toNat !=255)=true by grind];rfl
def aqs {b:Nat}{x:bj}(s:Sep F W w (av b 294 [ae x.c,ae x.s,ae x.k]::L)):Sl w (sZ b) 1 1 3 fW [x]:=
 aK (g_ s (i:=0) rfl rfl (by decide) (λu hu=>V6 x u hu)) (i:=0) rfl nI (by decide)
def adZ {Q:Option Addr->Nat->Nat->Int->World->Prop}(s0:Sep F W w L)(hA:Sl w ca cn cc 1 bu cs)(hT:sj tw th cs)(hl:0<=l/\l<cs.length)(ho:gi cs l.toNat≠255)
  (h:∀da dc w',Sep F W w' (ak da cs.length dc 3 1 (flat one (jB tw th cs [⟨l,4,0⟩]))::L)->Fr No w w'->Q da cs.length dc 0 w'):HP tw th ca cn cc l w Q:=by
 apply adA;refine aQ (bt (F:=No)) λtb w1 s=>?_;refine lI s 0 rfl (lI s 0 rfl (lS s 0 rfl ?_));refine aQ s λsb w1 s=>?_;refine Wj s (hA.fr (au s)) (aqs s) hT (aqr hT hl ho) (by simp) (by decide) λda dc w1 s _=>?_;exact h da dc w1 (dQ s0 s (i:=0) rfl) (au s)
structure agM (cs ls:List Int):Prop where
 Em:∀l∈ls,(0<=l/\l<cs.length)/\gi cs l.toNat≠255
 fE:ls.Pairwise (·<·)
 nX:ls.length<=256
def auM (h:agM cs ls){i j:Nat}(hij:i<j)(hj:j<ls.length):gi ls i<gi ls j:=by have:=List.pairwise_iff_getElem.1 h.fE i j (by omega) hj hij;have e1:=ig (l:=ls) (i:=i) (by omega);have e2:=ig hj;grind
def abT {Q:Bool->World->Prop}(s0:Sep F W w L)(hA:Sl w ca cn cc 1 bu cs)(hL:Sl w la ln lc 1 one ls)(hT:sj tw th cs)(hok:agM cs ls)(h:∀w',Sep F W w' L->Fr No w w'->Q true w'):
  Gm tw th ca cn cc la ln lc w Q:=by
 apply abj;have qk:=hL.len;have o9:=hok.nX;refine aQ (bt (F:=No)) λtb w1 s=>?_;have loop:∀(j i:Nat) (w1:World),i+j=ln->Sep No w w1 [av tb 84 [ae tw,ae th,.slice ca cn cc]]->wY Q (j+1) la ln lc (aZ tb) la ln lc ln i w1:=by
  intro j;induction j with
  |zero=>
   intro i w1 hi s;show AY Q (wY Q 0) _ _ _ _ _ _ _ _ _ _;rw[AY,bh];refine lI s 0 rfl (lI s 0 rfl (lS s 0 rfl ?_));refine Tl.Dg s (hA.fr (au s)).row λw2 s2 _=>?_;rw[hT.DV];exact h w2 (bX s0 (au s2)) (au s2)
  |succ j ih=>
   intro i w1 hi s;show AY Q (wY Q (j+1)) _ _ _ _ _ _ _ _ _ _;rw[AY,bN];apply(hL.fr (au s)).rE rfl (by omega);refine lI s 0 rfl (lI s 0 rfl (lS s 0 rfl ?_));have ho:=hok.Em _ (fG (i:=i) (by omega));have hc:=hT.jO _ (fG (i:=(gi ls i).toNat) (by omega));refine Tl.agu s (hA.fr (au s)).row (λx hx=>by have:=hT.jO x hx;omega) λw2 s _=>?_;have e:Tl.atI tw th cs (gi ls i)=gi cs (gi ls i).toNat:=by unfold Tl.atI Tl.isB;rw[decide_eq_true ho.1,hT.DV];rfl
   rw[e,cB (by omega),cond_false,cB ho.2,cond_false,aG (n:=(i:Int)+1)];by_cases h0:i=0
   ·rw[bh];exact ih (i+1) w2 (by omega) s
   ·rw[bN,aG];apply(hL.fr (au s)).rE (k:=i-1) (by omega) (by omega);have:=auM hok (i:=i-1) (j:=i) (by omega) (by omega);rw[bh];exact ih (i+1) w2 (by omega) s
 exact⟨ln+1,loop ln 0 w1 (by omega) s⟩
noncomputable def E_ (tw th:Int)(cs ls:List Int)(i j:Nat):Int:=LQ tw th cs [⟨gi ls j,4,0⟩] (gi ls i)
noncomputable def AE (tw th:Int)(cs ls:List Int):List Int:=(List.range (ls.length*ls.length)).map λk=>E_ tw th cs ls (k/ls.length) (k%ls.length)
def JP {N x:Nat}{g:Nat->Int}{v:Int}:((List.range N).map g).set x v=(List.range N).map λk=>if k=x then v else g k:=by apply List.ext_getElem?;grind
def alL {n i j:Nat}(hi:i<n)(hj:j<n):i*n+j<n*n:=by have:=Nat.mul_le_mul_right n (show i+1<=n by omega);grind
def akJ (hl:0<=l/\l<cs.length):gi (jB tw th cs xs) l.toNat=LQ tw th cs xs l:=by unfold gi jB;grind
def Z5 {Q:Option Addr->Nat->Nat->Int->World->Prop}(s0:Sep F W w L)(hA:Sl w ca cn cc 1 bu cs)(hL:Sl w la ln lc 1 one ls)(hT:sj tw th cs)(hok:agM cs ls)
  (h:∀oa oc w',Sep F W w' (ak oa (ls.length*ls.length) oc 3 1 (flat one (AE tw th cs ls))::L)->Fr No w w'->Q oa (ls.length*ls.length) oc 0 w'):E2 tw th ca cn cc la ln lc w Q:=by
 apply ZG;have qk:=hL.len;have o9:=hok.nX;refine aQ (bt (F:=No)) λtb w1 s=>?_;refine lI s 0 rfl (lI s 0 rfl (lS s 0 rfl ?_));refine abT s (hA.fr (au s)) (hL.fr (au s)) hT hok λw1 s _=>?_;subst qk;have hsq:ls.length*ls.length<=65536:=by have:=Nat.mul_le_mul o9 o9;omega
 have e1:((ls.length:Nat):Int)*((ls.length:Nat):Int)=((ls.length*ls.length:Nat):Int):=by grind
 rw[e1,aG];generalize hN:ls.length*ls.length=N at*;refine sY (bytes:=8) dW s rfl rfl rfl rfl rfl rfl (by decide) cE rfl (λu hu=>Fk 0 u hu) rfl rfl (Nat.le_refl _) (by omega) (by simp[maxLen];omega) λob w1 s=>?_;have outer:∀(k j:Nat) (w1:World),j+k=ls.length->Sep No w w1 [ak (sZ ob) N N 3 1 (flat one ((List.range N).map λq=>if q%ls.length<j then E_ tw th cs ls (q/ls.length) (q%ls.length)else 0)),av tb 84 [ae tw,ae th,.slice ca cn cc]]->
   rq Q (k+1) la ls.length lc (aZ tb) ls.length (sZ ob) N N la ls.length lc ls.length j w1:=by
  intro k;induction k with
  |zero=>
   intro j w1 hj s;show zy Q (rq Q 0) _ _ _ _ _ _ _ _ _ _ _ _ _ _;rw[zy,bh];have e:((List.range N).map λq=>if q%ls.length<j then E_ tw th cs ls (q/ls.length) (q%ls.length)else 0)=AE tw th cs ls:=by
    rw[AE,hN];refine List.map_congr_left λq hq=>?_;have hq:=List.mem_range.1 hq;have O_:0<ls.length:=by grind
    rw[if_pos (by have:=Nat.mod_lt q O_;omega)]
   rw[e]at s;exact h _ _ w1 (dQ s0 s (i:=0) rfl) (au s)
  |succ k ih=>
   intro j w1 hj s;show zy Q (rq Q (k+1)) _ _ _ _ _ _ _ _ _ _ _ _ _ _;rw[zy,bN];apply(hL.fr (au s)).rE rfl (by omega);refine lI s 1 rfl (lI s 1 rfl (lS s 1 rfl ?_));have ho:=hok.Em _ (fG (i:=j) (by omega));refine adZ s (hA.fr (au s)) hT ho.1 ho.2 λda dc w1 s _=>?_;have inner:∀(k2 i:Nat) (w1:World),i+k2=ls.length->Sep No w w1 [ak da cs.length dc 3 1 (flat one (jB tw th cs [⟨gi ls j,4,0⟩])),ak (sZ ob) N N 3 1 (flat one ((List.range N).map λq=>if q%ls.length<j\/q%ls.length=j/\q/ls.length<i then E_ tw th cs ls (q/ls.length) (q%ls.length)else 0)),av tb 84 [ae tw,ae th,.slice ca cn cc]]->
     sH (rq Q (k+1)) Q (k2+1) la ls.length lc (aZ tb) ls.length (sZ ob) N N j da cs.length dc la ls.length lc ls.length j la ls.length lc ls.length i w1:=by
    intro k2;induction k2 with
    |zero=>
     intro i w1 hi s;show xA _ Q (sH _ Q 0) _ _ _ _ _ _ _ _ _ _ _ _ _ _ _ _ _ _ _ _ _ _ _;rw[xA,bh,aG];apply ih (j+1) w1 (by omega);have e:((List.range N).map λq=>if q%ls.length<j\/q%ls.length=j/\q/ls.length<i then E_ tw th cs ls (q/ls.length) (q%ls.length)else 0)=(List.range N).map λq=>if q%ls.length<j+1 then E_ tw th cs ls (q/ls.length) (q%ls.length)else 0:=by
      refine List.map_congr_left λq hq=>?_;have hq:=List.mem_range.1 hq;have hd:q/ls.length<ls.length:=Nat.div_lt_of_lt_mul (by omega);by_cases c1:q%ls.length<j+1
      ·rw[if_pos c1,AP]
      ·rw[if_neg c1,fU]
     rw[e]at s;exact ai s
    |succ k2 ih2=>
     intro i w1 hi s;show xA _ Q (sH _ Q (k2+1)) _ _ _ _ _ _ _ _ _ _ _ _ _ _ _ _ _ _ _ _ _ _ _;rw[xA,bN];apply(hL.fr (au s)).rE rfl (by omega);have hoi:=hok.Em _ (fG (i:=i) (by omega));apply(aK s (i:=0) rfl cE (by decide)).rE (k:=(gi ls i).toNat) (by omega) (by omega);rw[akJ hoi.1];have hb:=alL (n:=ls.length) (i:=i) (j:=j) (by omega) (by omega);rw[hN]at hb;have e2:(i:Int)*((ls.length:Nat):Int)=((i*ls.length:Nat):Int):=by rw[Int.natCast_mul]
     rw[e2,aG (n:=((i*ls.length:Nat):Int)),aG,aG];refine E6 cE s (i:=1) (k:=i*ls.length+j) (x':=LQ tw th cs [⟨gi ls j,4,0⟩] (gi ls i)) rfl (by omega) (by rw[List.length_map,List.length_range];exact hb) rfl rfl λw1 s=>?_;apply ih2 (i+1) w1 (by omega);rw[JP]at s;have e:((List.range N).map λq=>if q=i*ls.length+j then LQ tw th cs [⟨gi ls j,4,0⟩] (gi ls i)else if q%ls.length<j\/q%ls.length=j/\q/ls.length<i then E_ tw th cs ls (q/ls.length) (q%ls.length)else 0)=
       (List.range N).map λq=>if q%ls.length<j\/q%ls.length=j/\q/ls.length<i+1 then E_ tw th cs ls (q/ls.length) (q%ls.length)else 0:=by
      refine List.map_congr_left λq hq=>?_;have O_:0<ls.length:=by omega
      by_cases c1:q=i*ls.length+j
      ·have d1:q/ls.length=i:=by rw[c1,Nat.mul_comm,Nat.mul_add_div O_,Nat.div_eq_of_lt (by omega),Nat.add_zero]
       have d2:q%ls.length=j:=by rw[c1,Nat.mul_comm,Nat.mul_add_mod,Nat.mod_eq_of_lt (by omega)]
       rw[if_pos c1,AP,d1,d2];rfl
      ·rw[if_neg c1];have d3:¬(q%ls.length=j/\q/ls.length=i):=λ⟨a,b⟩=>by apply c1;have:=Nat.div_add_mod q ls.length;rw[a,b,Nat.mul_comm]at this;omega
       by_cases c2:q%ls.length<j\/q%ls.length=j/\q/ls.length<i
       ·rw[if_pos c2,AP]
       ·rw[if_neg c2,fU]
     rw[e]at s;exact s
   refine⟨ls.length+1,inner ls.length 0 w1 (by omega) ?_⟩;have e:((List.range N).map λq=>if q%ls.length<j then E_ tw th cs ls (q/ls.length) (q%ls.length)else 0)=(List.range N).map λq=>if q%ls.length<j\/q%ls.length=j/\q/ls.length<0 then E_ tw th cs ls (q/ls.length) (q%ls.length)else 0:=by
    refine List.map_congr_left λq hq=>?_;by_cases c1:q%ls.length<j
    ·rw[if_pos c1,if_pos (.inl c1)]
    ·rw[if_neg c1,if_neg (by rintro (h|⟨_,h⟩);exact c1 h;exact Nat.not_lt_zero _ h)]
   rw[e]at s;exact s
 refine⟨ls.length+1,outer ls.length 0 w1 (by omega) ?_⟩;have e:((List.range N).map λq=>if q%ls.length<0 then E_ tw th cs ls (q/ls.length) (q%ls.length)else 0)=List.replicate N 0:=by rw[List.eq_replicate_iff];refine⟨by simp,λx hx=>?_⟩;obtain⟨q,_,rfl⟩:=List.mem_map.1 hx;rw[fU]
 grind
end
end Go.Proofs.YtmegplnmiepfbaaGreatDoor.S
namespace Go.Proofs.YtmegplnmiepfbaaGreatDoor.S
open Go.Sx
section
variable {m:bM}{t x n c d s sc l a b:Int}
def i_ (m:bM)(sc:Int):List Int:=(aX m sc).map (d_ m.w m.h)
def Wk (m:bM)(sc:Int):List Nat:=(List.range (aE m.w m.h sc*bC m.w m.h sc).toNat).filter λl=>yK m.w m.h sc 4 l&&fk m (bV m.w m.h sc l)
def nodes_eq:aX m sc=(Wk m sc).map λl:Nat=>bV m.w m.h sc l:=by unfold aX vB Wk;rw[List.filter_map,List.filter_filter];grind
def an8 (hs:dY m.w m.h sc):i_ m sc=(Wk m sc).map λl:Nat=>(l:Int):=by rw[i_,nodes_eq,List.map_map];refine List.map_congr_left λl hl=>?_;have hl:=List.mem_range.1 (List.mem_filter.1 hl).1;exact F9 hs (by omega)
def abU:(Wk m sc).Pairwise (·<·):=List.Pairwise.filter _ List.pairwise_lt_range
def an9 (hs:dY m.w m.h sc){k:Int}(hk:0<=k/\k<l)(hl:l<aE m.w m.h sc*bC m.w m.h sc):bV m.w m.h sc k<bV m.w m.h sc l:=by
 obtain⟨⟨w1,w2⟩,⟨h1,h2⟩,p1,p2,p3,p4⟩:=zI hs;have hw:aE m.w m.h sc<=m.w-16*(sc%cP m.w):=by unfold aE;omega
 have hk1:=Pf hs (l:=k) (by omega);have hl1:=Pf hs (l:=l) (by omega);have ek:=Int.mul_ediv_add_emod k (aE m.w m.h sc);have el:=Int.mul_ediv_add_emod l (aE m.w m.h sc);unfold bV;by_cases e:k/aE m.w m.h sc=l/aE m.w m.h sc
 ·grind
 ·have hlt:k/aE m.w m.h sc<=l/aE m.w m.h sc:=Int.ediv_le_ediv (by omega) (by omega);have h3:=Int.mul_le_mul_of_nonneg_right (show 16*(sc/cP m.w)+k/aE m.w m.h sc+1<=16*(sc/cP m.w)+l/aE m.w m.h sc by omega) (show 0<=m.w by omega);grind
def NI (hs:dY m.w m.h sc):(aX m sc).Pairwise (·<·):=by rw[nodes_eq,List.pairwise_map];refine List.Pairwise.imp_of_mem ?_ abU;intro k l hk hl h;have hl:=List.mem_range.1 (List.mem_filter.1 hl).1;exact an9 hs ⟨by omega,by omega⟩ (by omega)
def an_ (hm:cW m)(hs:dY m.w m.h sc):agM (dU m sc) (i_ m sc):=by
 have e:=an8 hs;refine⟨λl hl=>?_,?_,?_⟩
 ·rw[e]at hl;obtain⟨k,hk,rfl⟩:=List.mem_map.1 hl;have h1:=(List.mem_filter.1 hk).2;have hk:=List.mem_range.1 (List.mem_filter.1 hk).1;rw[Bool.and_eq_true]at h1;have h2:=(I9 hm hs (by omega)).2 h1.2;exact⟨⟨h2.1,h2.2.1⟩,h2.2.2⟩
 ·rw[e,List.pairwise_map];exact List.Pairwise.imp (λh=>by omega) abU
 ·rw[e,List.length_map];obtain⟨⟨w1,w2⟩,⟨h1,h2⟩,_⟩:=zI hs;have h3:=Int.mul_le_mul w2 h2 (by omega) (by decide);have h4:=List.length_filter_le (λl:Nat=>yK m.w m.h sc 4 l&&fk m (bV m.w m.h sc l)) (List.range (aE m.w m.h sc*bC m.w m.h sc).toNat);rw[List.length_range]at h4;unfold Wk;omega
def zZ (hs:dY m.w m.h sc):(aX m sc).length<=256:=by have:=abz hs;have h1:=List.length_filter_le (fk m) (vB m.w m.h sc);unfold aX;omega
def ajW (hs:dY m.w m.h sc):(aX m sc).Nodup:=List.Pairwise.imp (λh e=>by omega) (NI hs)
def Q0 (hm:cW m)(hs:dY m.w m.h sc):sj (aE m.w m.h sc) (bC m.w m.h sc) (dU m sc):=by obtain⟨w,h,_⟩:=zI hs;have h1:=Int.mul_le_mul w.1 h.1 (by decide) (by omega);refine⟨w,h,by rw[Cw];omega,λx hx=>?_⟩;obtain⟨l,hl,rfl⟩:=List.mem_map.1 hx;have hl:=List.mem_range.1 hl;have:=LP hm (s9 hs (l:=l) (by omega));omega
noncomputable def qq (m:bM)(sc a b:Int):Int:=LQ (aE m.w m.h sc) (bC m.w m.h sc) (dU m sc) [⟨d_ m.w m.h b,4,0⟩] (d_ m.w m.h a)
def Q1 (hm:cW m)(hs:dY m.w m.h sc)(ha:bK m.w m.h a/\aC m.w m.h a=sc)(hb:bK m.w m.h b/\aC m.w m.h b=sc):qq m sc a b=gO (F_ b) (tZ (fX m) (cU m) sc) a:=by
 have hla:=j9 ha.1;have hga:=n6 ha.1;have hlb:=j9 hb.1;have hgb:=n6 hb.1;rw[ha.2]at hla hga;unfold qq LQ;rw[aia hm hs (S':=F_ b) (λl k hl=>?_) hla,hga];unfold Nz F_;constructor
 ·grind
 ·rintro ⟨h1,rfl⟩;refine⟨_,List.mem_singleton.2 rfl,?_,rfl⟩;rw[<-h1];exact F9 hs hl
def afh (hm:cW m)(Tz:fk m b=true){d:Int}(hw:Wy (F_ b) (tZ (fX m) (cU m) sc) a d):0<=gO (F_ b) (tZ (fX m) (cU m) sc) a/\gO (F_ b) (tZ (fX m) (cU m) sc) a<=254*(m.w*m.h-1):=by
 have alK:∀x d,Wy (F_ b) (tZ (fX m) (cU m) sc) x d->x∈jZ m:=λx d h=>by
  cases h with
  |src h=>rw[h.1];exact zJ hm (jY hm Tz)
  |go e _=>exact zJ hm (jY hm e.1.1)
 have h1:=aaV (K:=0) (λx k h=>by rw[h.2];omega) (λx n c h=>GI h.1) (jZ m) alK hw;have h2:((jZ m).length:Int)=m.w*m.h:=by rw[<-hm.len];simp[jZ]
 refine⟨mP (λx k h=>by rw[h.2];grind) (λx n c h=>c9 _ _ _ h.1) (q8 (λx k h=>by rw[h.2];grind) (λx n c h=>c9 _ _ _ h.1) hw).1,by omega⟩
def Z6 (hm:cW m)(hs:dY m.w m.h sc)(ha:bK m.w m.h a/\aC m.w m.h a=sc)(hb:bK m.w m.h b/\aC m.w m.h b=sc)(Tz:fk m b=true):
  qq m sc a b≠cj↔∃d,Wy (F_ b) (tZ (fX m) (cU m) sc) a d:=by
 rw[Q1 hm hs ha hb];constructor
 ·intro h;refine Classical.byContradiction λk=>h (xU λd hd=>k ⟨d,hd⟩)
 ·rintro ⟨d,hd⟩;have:=afh hm Tz hd;have:=qK ⟨hm.w,hm.h⟩;unfold cj;omega
def Z7 (hm:cW m)(hs:dY m.w m.h sc)(ha:bK m.w m.h a/\aC m.w m.h a=sc)(hb:bK m.w m.h b/\aC m.w m.h b=sc)(Tz:fk m b=true):0<=qq m sc a b/\(qq m sc a b≠cj->qq m sc a b<1000000000)/\qq m sc a b<=cj:=by
 have e:=Q1 hm hs ha hb;by_cases hw:∃d,Wy (F_ b) (tZ (fX m) (cU m) sc) a d
 ·obtain⟨d,hd⟩:=hw;have h1:=afh hm Tz hd;have h2:=qK ⟨hm.w,hm.h⟩;unfold cj;omega
 ·have h1:qq m sc a b=cj:=by rw[e];exact xU λd hd=>hw ⟨d,hd⟩
  rw[h1];exact⟨by decide,λh=>(h rfl).elim,Int.le_refl _⟩
noncomputable def abV (m:bM)(b:Int):List (Int×Int):=(aX m (cU m b)).filterMap λa=>if a≠b/\qq m (cU m b) a b≠cj then some (a,qq m (cU m b) a b)else none
open Classical in
noncomputable def Q2 (m:bM)(b s:Int):Option (Int×Int):=if 0<=aY m.w m.h b s/\ou m (aY m.w m.h b s)/\cU m (aY m.w m.h b s)≠cU m b then some (aY m.w m.h b s,cV m b)else none
noncomputable def SM (m:bM)(b:Int)(j:Nat):List (Int×Int):=(List.range j).filterMap λs:Nat=>Q2 m b s
noncomputable def Ku (m:bM)(b:Int):List (Int×Int):=abV m b++SM m b 4
def abW (m:bM)(b:Int)(j:Nat):SM m b (j+1)=SM m b j++(Q2 m b j).toList:=by rw[SM,List.range_succ,List.filterMap_append];congr 1
def auN (hm:cW m)(h:ou m x)(hx:bK m.w m.h x):fk m x=true:=(mI (bT hx) h).1
def aip (hm:cW m)(hb:ou m b)(hbc:bK m.w m.h b){e:Int×Int}:e∈Ku m b↔Jp (fX m) (cU m) (ou m) e.1 b e.2:=by
 have hs:=bT hbc;have Tz:=(mI hs hb).1;rw[Ku,List.mem_append];constructor
 ·rintro (h|h)
  ·obtain⟨a,ha,h1⟩:=List.mem_filterMap.1 h;split at h1
   ·rename_i h2;cases h1;obtain⟨a1,a2,a3⟩:=mI hs ha;have hn:ou m a:=by show a∈aX m (cU m a);rw[show cU m a=cU m b from a3];exact ha
    refine⟨hn,hb,.inl ⟨a3,h2.1,(Z6 hm hs ⟨a2,a3⟩ ⟨hbc,rfl⟩ Tz).1 h2.2,Q1 hm hs ⟨a2,a3⟩ ⟨hbc,rfl⟩⟩⟩
   ·cases h1
  ·obtain⟨s,TA,h1⟩:=List.mem_filterMap.1 h;have TA:=List.mem_range.1 TA;unfold Q2 at h1;split at h1
   ·rename_i h2;cases h1;obtain⟨s',hs',agN⟩:=I8 ⟨by omega,by omega⟩ h2.1;have hac:=(Aa h2.1).2;have hoa:=auN hm h2.2.1 hac;exact⟨h2.2.1,hb,.inr ⟨h2.2.2,hoa,Tz,⟨s',hs',agN⟩,rfl⟩⟩
   ·cases h1
 ·rintro ⟨ha,_,⟨h1,h2,h3,h4⟩|⟨h1,h2,h3,⟨s,TA,h4⟩,h5⟩⟩
  ·left;have hb2:cU m b=aC m.w m.h b:=rfl;have hac:bK m.w m.h e.1:=by
    have:e.1∈aX m (cU m b):=by rw[<-h1];exact ha
    exact(mI hs this).2.1
   have e4:=Q1 hm hs ⟨hac,h1⟩ ⟨hbc,rfl⟩;refine List.mem_filterMap.2 ⟨e.1,by rw[<-h1];exact ha,?_⟩;rw[if_pos ⟨h2,(Z6 hm hs ⟨hac,h1⟩ ⟨hbc,rfl⟩ Tz).2 h3⟩,hb2,e4];grind
  ·right;have hb0:0<=aY m.w m.h e.1 s:=by rw[h4];exact hbc.2.1
   obtain⟨s',hs',agN⟩:=I8 TA hb0;rw[h4]at agN;refine List.mem_filterMap.2 ⟨s'.toNat,List.mem_range.2 (by omega),?_⟩;rw[Int.toNat_of_nonneg hs'.1];rw[Q2,agN,if_pos ⟨(jY hm h2).2.1,ha,h1⟩];grind
end
def aqt {P:Program}{t e:TypeId}{inf:TypeInfo}{b i j:Nat}{w:World}(d:Nat)(hu:P.underlying t=some (.pointer e))(hi:P.info? e=some inf)(hs:inf.size≠0):
  (Op.equalIn (d+1) t (.pointer (some ⟨b,i,none⟩)) (.pointer (some ⟨b,j,none⟩))).run P w=.ok (decide (i=j)) w:=by
 simp[Op.equalIn,run_underlying hu,sizeOf,typeInfo,hi,hs,sameAddr];grind
def auO {P:Program}{t e:TypeId}{inf:TypeInfo}{x y:Operand}{b i j:Nat}{w:World}{K:Bool->World->Prop}(hu:P.underlying t=some (.pointer e))(hi:P.info? e=some inf)(hs:inf.size≠0)(h:K (!decide (i=j)) w):
  bU P .neq t x y (.pointer (some ⟨b,i,none⟩)) (.pointer (some ⟨b,j,none⟩)) w K:=by
 have h1:(Op.equal t (.pointer (some ⟨b,i,none⟩)) (.pointer (some ⟨b,j,none⟩))).run P w=.ok (decide (i=j)) w:=aqt 9999 hu hi hs;unfold bU aM;rw[show binOp .neq t (.pointer (some ⟨b,i,none⟩)) (.pointer (some ⟨b,j,none⟩))=(do pure (.bool (!(<-Op.equal t (.pointer (some ⟨b,i,none⟩)) (.pointer (some ⟨b,j,none⟩))))))from rfl];simp[eqGuard_at_pointer,Sem.run_bind,Sem.run_pure,Result.andThen_ok,h1];exact h
end Go.Proofs.YtmegplnmiepfbaaGreatDoor.S
namespace Go.Proofs.YtmegplnmiepfbaaGreatDoor.S.Ta
open Go.Sx
def U (n:Int):Prop:=0<=n/\n<18446744073709551616
def sat (a b:Int):Int:=if a+b<18446744073709551616 then a+b else 18446744073709551615
def GM {a b:Int}(ha:U a)(hb:U b):U (sat a b):=by unfold sat;unfold U at*;omega
def BB {a b:Int}{w:World}{Q:Int->World->Prop}(ha:U a)(hb:U b)(h:Q (sat a b) w):sA a b w Q:=by
 unfold U at ha hb;apply aa4;rw[wrap_u64 (by omega) (by omega)];unfold sat at h;by_cases hc:a>18446744073709551615-b
 ·grind
 ·rw[bh hc,wrap_u64 (by omega) (by omega)];grind
def Wl {F:Nat->Prop}{W w:World}{L:List As}{a b c d e f:Int}{Q:Int->Int->Int->Int->Int->Int->World->Prop}(s:Sep F W w L)(h:∀w',Sep F W w' L->Q a b c d e f w'):cY a b c d e f w Q:=by apply Vq;refine aQ s λb1 w1 s=>?_;refine aV s λb2 w2 s=>?_;apply dy s (i:=1) rfl rfl rfl;apply dy s (i:=1) rfl rfl rfl;apply dy s (i:=1) rfl rfl rfl;apply dy s (i:=1) rfl rfl rfl;apply dy s (i:=1) rfl rfl rfl;apply dy s (i:=1) rfl rfl rfl;refine ax s (i:=0) rfl rfl rfl λw3 s=>?_;refine ax s (i:=0) rfl rfl rfl λw3 s=>?_;refine ax s (i:=0) rfl rfl rfl λw3 s=>?_;refine ax s (i:=0) rfl rfl rfl λw3 s=>?_;refine ax s (i:=0) rfl rfl rfl λw3 s=>?_;refine ax s (i:=0) rfl rfl rfl λw3 s=>?_;apply dy s (i:=0) rfl rfl rfl;apply dy s (i:=0) rfl rfl rfl;apply dy s (i:=0) rfl rfl rfl;apply dy s (i:=0) rfl rfl rfl;apply dy s (i:=0) rfl rfl rfl;apply dy s (i:=0) rfl rfl rfl;exact h _ (ai (ai s))
end Go.Proofs.YtmegplnmiepfbaaGreatDoor.S.Ta
namespace Go.Proofs.YtmegplnmiepfbaaGreatDoor.S.Ta
open Go.Sx
attribute [local irreducible] af cv bz bg aA cw bZ St Bx Al App cH cy cD bU aM bF aq bS av
def awk:zc T 175=[.int .u64 0,.int .u64 0,.int .u64 0,.int .u64 0,.int .u64 0,.int .u64 0]:=rfl
def auP:zc T 32=[.int .u64 0,.int .u64 0,.int .u64 0,.int .u64 0,.int .u64 0,.int .u64 0]:=rfl
section
variable {F:Nat->Prop}{W w:World}{L:List As}{Q:Int->Int->Int->Int->Int->Int->World->Prop}
def ql {r x y:Nat}{tx ty:TypeId}{xs ys:List Value}{i j k n:Nat}{t:Int}{p q:Int}(s:Sep F W w L)(ht:t=n)(hn:n<6)
  (hi:L[i]? =some (av x tx xs))(hj:L[j]? =some (av y ty ys))(hp:xs[n]? =some (.int .u64 p))(hq:ys[n]? =some (.int .u64 q))(up:U p)(uq:U q)(hl:Nat.blt n xs.length=true)
  (h:∀w',Sep F W w' (L.set i (av x tx (xs.set n (.int .u64 (sat p q)))))->qh Q k (aZ r) (aZ x) (aZ y) ((n+1:Nat):Int) w'):qh Q (k+1) (aZ r) (aZ x) (aZ y) t w:=by
 subst ht;show tq Q (qh Q k) _ _ _ _ _;rw[tq,bN];have e1:((n:Int).toNat*1)=n:=by omega
 have s':Sep F W w.drew L:=s;rw[e1];refine⟨by omega,by omega,?_⟩;apply dy s' (by rw[cu,Nat.zero_add]) hi hp;refine⟨by omega,by omega,?_⟩;apply dy s' (by rw[cu,Nat.zero_add]) hj hq;apply BB up uq;refine⟨by omega,by omega,?_⟩;refine ax s' (by rw[cu,Nat.zero_add]) hi hl λw' s=>?_;rw[aG];exact h _ s
def auQ {r x y:Nat}{tr tx ty:TypeId}{a b c d e f a' b' c' d' e' f':Int}(s:Sep F W w (av x tx [.int .u64 a,.int .u64 b,.int .u64 c,.int .u64 d,.int .u64 e,.int .u64 f]::av y ty [.int .u64 a',.int .u64 b',.int .u64 c',.int .u64 d',.int .u64 e',.int .u64 f']::av r tr (zc T 32)::L))
  (u:(U a/\U b/\U c/\U d/\U e/\U f)/\U a'/\U b'/\U c'/\U d'/\U e'/\U f')
  (h:∀w',Sep F W w' L->Q (sat a a') (sat b b') (sat c c') (sat d d') (sat e e') (sat f f') w'):g7 Q (aZ r) (aZ x) (aZ y) w:=by
 obtain⟨⟨ua,ub,uc,ud,ue,uf⟩,va,vb,vc,vd,ve,vf⟩:=u;refine⟨7,?_⟩;refine ql s (n:=0) (i:=0) (j:=1) rfl (by omega) rfl rfl rfl rfl ua va rfl λw s=>?_;refine ql s (i:=0) (j:=1) rfl (by omega) rfl rfl rfl rfl ub vb rfl λw s=>?_;refine ql s (i:=0) (j:=1) rfl (by omega) rfl rfl rfl rfl uc vc rfl λw s=>?_;refine ql s (i:=0) (j:=1) rfl (by omega) rfl rfl rfl rfl ud vd rfl λw s=>?_;refine ql s (i:=0) (j:=1) rfl (by omega) rfl rfl rfl rfl ue ve rfl λw s=>?_;refine ql s (i:=0) (j:=1) rfl (by omega) rfl rfl rfl rfl uf vf rfl λw s=>?_;show tq Q (qh Q 0) _ _ _ _ _;unfold tq;refine⟨by decide,by decide,?_⟩;apply lI s 0 rfl;refine⟨by decide,by decide,?_⟩;apply lI s 0 rfl;refine⟨by decide,by decide,?_⟩;apply lI s 0 rfl;refine⟨by decide,by decide,?_⟩;apply lI s 0 rfl;refine⟨by decide,by decide,?_⟩;apply lI s 0 rfl;refine⟨by decide,by decide,?_⟩;apply lI s 0 rfl
 repeat' first
  |apply lI s 2 rfl
  |(refine ax s (i:=2) rfl rfl rfl λw' s=>?_;simp[Nat.zero_add,List.set_cons_zero,List.set_cons_succ]at s)
 exact h _ (ai (ai (ai s)))
def auR {r x y:Nat}{tr tx ty:TypeId}{a b c d e f a' b' c' d' e' f':Int}(s:Sep F W w (av y ty [.int .u64 a',.int .u64 b',.int .u64 c',.int .u64 d',.int .u64 e',.int .u64 f']::av x tx [.int .u64 a,.int .u64 b,.int .u64 c,.int .u64 d,.int .u64 e,.int .u64 f]::av r tr (zc T 32)::L))
  (u:(U a/\U b/\U c/\U d/\U e/\U f)/\U a'/\U b'/\U c'/\U d'/\U e'/\U f')
  (h:∀w',Sep F W w' L->Q (sat a a') (sat b b') (sat c c') (sat d d') (sat e e') (sat f f') w'):g7 Q (aZ r) (aZ x) (aZ y) w:=by
 obtain⟨⟨ua,ub,uc,ud,ue,uf⟩,va,vb,vc,vd,ve,vf⟩:=u;refine⟨7,?_⟩;refine ql s (n:=0) (i:=1) (j:=0) rfl (by omega) rfl rfl rfl rfl ua va rfl λw s=>?_;refine ql s (i:=1) (j:=0) rfl (by omega) rfl rfl rfl rfl ub vb rfl λw s=>?_;refine ql s (i:=1) (j:=0) rfl (by omega) rfl rfl rfl rfl uc vc rfl λw s=>?_;refine ql s (i:=1) (j:=0) rfl (by omega) rfl rfl rfl rfl ud vd rfl λw s=>?_;refine ql s (i:=1) (j:=0) rfl (by omega) rfl rfl rfl rfl ue ve rfl λw s=>?_;refine ql s (i:=1) (j:=0) rfl (by omega) rfl rfl rfl rfl uf vf rfl λw s=>?_;show tq Q (qh Q 0) _ _ _ _ _;unfold tq;refine⟨by decide,by decide,?_⟩;apply lI s 1 rfl;refine⟨by decide,by decide,?_⟩;apply lI s 1 rfl;refine⟨by decide,by decide,?_⟩;apply lI s 1 rfl;refine⟨by decide,by decide,?_⟩;apply lI s 1 rfl;refine⟨by decide,by decide,?_⟩;apply lI s 1 rfl;refine⟨by decide,by decide,?_⟩;apply lI s 1 rfl
 repeat' first
  |apply lI s 2 rfl
  |(refine ax s (i:=2) rfl rfl rfl λw' s=>?_;simp[Nat.zero_add,List.set_cons_zero,List.set_cons_succ]at s)
 exact h _ (ai (ai (ai s)))
end
set_option maxHeartbeats 1000000 in
theorem GN {F:Nat->Prop}{W w:World}{L:List As}{a b c d e f a' b' c' d' e' f':Int}{Q:Int->Int->Int->Int->Int->Int->World->Prop}(s:Sep F W w L)(u:(U a/\U b/\U c/\U d/\U e/\U f)/\U a'/\U b'/\U c'/\U d'/\U e'/\U f')
  (h:∀w',Sep F W w' L->Q (sat a a') (sat b b') (sat c c') (sat d d') (sat e e') (sat f f') w'):xe a b c d e f a' b' c' d' e' f' w Q:=by
 apply aa5;refine aQ s λb1 w1 s=>?_;refine aQ s λb2 w2 s=>?_;refine aV s λb3 w3 s=>?_
 repeat' first
  |apply lI s 0 rfl
  |refine lI s 1 rfl ?_
  |refine lI s 2 rfl ?_
  |apply lI s 3 rfl
  |apply lI s 4 rfl
  |refine⟨cq s 1 rfl,?_⟩
  |refine⟨cq s 2 rfl,?_⟩
  |refine⟨cq s 3 rfl,?_⟩
  |refine⟨cq s 4 rfl,?_⟩
  |(refine ax s (i:=0) rfl rfl rfl λw' s=>?_;simp[Nat.zero_add,List.set_cons_zero,List.set_cons_succ]at s)
  |(refine ax s (i:=1) rfl rfl rfl λw' s=>?_;simp[Nat.zero_add,List.set_cons_zero,List.set_cons_succ]at s)
  |(refine aV s λb' w' s=>?_;rw[awk]at s)
  |refine Wl s λw' s=>?_
  |exact auQ s u λw' s=>h _ (ai (ai s))
  |exact auR s u λw' s=>h _ (ai (ai s))
  |constructor
end Go.Proofs.YtmegplnmiepfbaaGreatDoor.S.Ta
namespace Go.Proofs.YtmegplnmiepfbaaGreatDoor.S
open Go.Sx
def ef {w:World}{x:Option Addr}{ad:Addr}{K:Option Addr->Prop}(h:w.cell? ad=some (.pointer x))(hk:K x):bg ad w K:=⟨x,h,hk⟩
attribute [local irreducible] af cv bz bg aA cw bZ St Bx Al App cH cy cD bU aM bF aq bS av ak aW mapA
def SO {F:Nat->Prop}{W w:World}{A:As}:∀{L:List As} {i:Nat},Sep F W w (A::L)->Sep F W w (L.set i A)
 |[],i,s=>by simp[List.set_nil];exact ai s
 |B::L,0,s=>by exact gw s (List.Sublist.cons_cons _ (List.sublist_cons_self _ _))
 |B::L,i+1,s=>by
  rw[List.set_cons_succ];have s1:=ck s (List.Perm.swap B A L);have s2:=ai s1;have s3:=SO (i:=i) s2;refine⟨eB.fr s,λC hC=>?_,?_⟩
  ·rcases List.mem_cons.1 hC with rfl|hC
   ·exact eB.ok s C (by simp)
   ·exact eB.ok s3 C hC
  ·rw[List.pairwise_cons];refine⟨λC hC=>?_,eB.apart s3⟩;have hp:=List.pairwise_cons.1 (eB.apart s1);grind
structure AF where
 ff:Int
 na:Option Addr
 nn:Nat
 nc:Nat
 da:Option Addr
 dn:Nat
 dc:Nat
 nodes:List Int
 JQ:List Int
def Kv (x:AF):List Value:=[ae x.ff,.slice x.na x.nn x.nc,.slice x.da x.dn x.dc]
def CC (x:AF):(Kv x).length=3:=rfl
def aoa (x:AF)(u:Value)(h:u∈Kv x):u.oneCell'=true:=by unfold Kv at h;simp[List.mem_cons,List.not_mem_nil,or_false]at h;rcases h with rfl|rfl|rfl<;>rfl
def abX (x:AF):As:=aW True [ak x.na x.nn x.nc 3 1 (flat one x.nodes),ak x.da x.dn x.dc 21 1 (flat o8 x.JQ)]
structure BC where
 p:Nat
 a:Option Addr
 n:Nat
 c:Nat
structure nJ where
 ps:List AF
 clean:Int
 fe:Int
def abY (r:BC)(gp:Nat)(x:nJ):List Value:=[.pointer (sZ gp),.slice r.a r.n r.c,ae x.clean,.int .u64 x.fe]
def LV (r:BC)(gp:Nat)(x:nJ):List As:=av r.p 236 (abY r gp x)::ak r.a r.n r.c 319 3 (flat Kv x.ps)::x.ps.map abX
def uM (r:BC)(gp:Nat)(x:nJ):As:=aW True (LV r gp x)
noncomputable def jM (m:bM)(sc:Int):List Int:=(AE (aE m.w m.h sc) (bC m.w m.h sc) (dU m sc) (i_ m sc)).map λd=>if d=cj then-1 else d
structure yL (g:iC) (x:nJ):Prop where
 len:(x.ps.length:Int)=eL g.m.w g.m.h
 old:x.clean<=g.ep/\∀q∈x.ps,q.ff<=g.ep
 all:x.clean=g.ep->∀i q,x.ps[i]? =some q->q.ff=gi g.vs i
 ok:∀i q,x.ps[i]? =some q->q.ff=gi g.vs i->q.nodes=aX g.m i/\q.JQ=jM g.m i
 u:Ta.U x.fe
structure EE (w:World) (r:BC) (gp:Nat) (x:nJ):Prop where
 cell:r_ w r.p (abY r gp x)
 row:Sl w r.a r.n r.c 3 Kv x.ps
 part:∀q∈x.ps,Sl w q.na q.nn q.nc 1 one q.nodes/\Sl w q.da q.dn q.dc 1 o8 q.JQ
 base:0<x.ps.length->∃b o,r.a=some ⟨b,o,none⟩
def EE.fr {w w':World}{r:BC}{gp:Nat}{x:nJ}(k:EE w r gp x)(f:Fr No w w'):EE w' r gp x:=
 ⟨k.cell.fr f,k.row.fr f,λq hq=>⟨(k.part q hq).1.fr f,(k.part q hq).2.fr f⟩,k.base⟩
section
variable {F:Nat->Prop}{W w w0:World}{L:List As}{r:BC}{gp:Nat}{x:nJ}{gr:uL}{g:iC}{a:Option Addr}{n c:Nat}{xs:List Int}{v ce:Int}
def afi (s:Sep F W w (uM r gp x::L)):Sep F W w (LV r gp x++L):=(gR s).2
def abZ (s:Sep F W w (LV r gp x++L)):Sep F W w (uM r gp x::L):=dA s trivial
def aob {q:AF}{i:Nat}(s:Sep F W w L)(hi:L[i]? =some (abX q)):Sl w q.na q.nn q.nc 1 one q.nodes/\Sl w q.da q.dn q.dc 1 o8 q.JQ:=by have s':=IN s hi;exact⟨aK s' (i:=0) rfl cE (by decide),aK s' (i:=1) rfl vF (by decide)⟩
def Wm (s:Sep F W w (uM r gp x::L)):EE w r gp x:=by have s:=afi s;have s:Sep F W w (av r.p 236 (abY r gp x)::ak r.a r.n r.c 319 3 (flat Kv x.ps)::(x.ps.map abX++L)):=s;have hR:=aK s (i:=1) rfl CC (by decide);refine⟨lz s (i:=0) rfl,hR,λq hq=>?_,λh=>qe s (i:=1) rfl (by rw[<-hR.len];exact h)⟩;obtain⟨i,hi⟩:=List.mem_iff_getElem?.1 hq;apply aob s (i:=i+2);rw[List.getElem?_cons_succ,List.getElem?_cons_succ,List.getElem?_append_left (by grind),List.getElem?_map,hi];rfl
def half {i j:Nat}(h:i<j)(hj:j<1000000):IntKind.wrap .i64 (pA .u64 (IntKind.wrap .u64 (IntKind.wrap .i64 ((i:Int)+j))) 1)=(((i+j)/2:Nat):Int):=by
 rw[aG (n:=(i:Int)+j),kz (by omega)];have e:pA .u64 ((i:Int)+j) 1=((i:Int)+j)/2:=by rw[pA,show(2:Int)^(min (1:Int).toNat (IntKind.u64).bits)=2 from rfl,Int.fdiv_eq_ediv_of_nonneg _ (by decide)]
 rw[e,aG];omega
def Q3 (h:xs.Pairwise (·<·)){i j:Nat}(hij:i<j)(hj:j<xs.length):gi xs i<gi xs j:=by have:=List.pairwise_iff_getElem.1 h i j (by omega) hj hij;have e1:=ig (l:=xs) (i:=i) (by omega);have e2:=ig hj;grind
def aiq {Q:Int->Bool->World->Prop}(hX:Sl w a n c 1 one xs)(hn:n<1000000)(hs:xs.Pairwise (·<·))(s0:Sep F W w L)
  (hy:∀(i:Nat) w',i<n->gi xs i=v->Sep F W w' L->Fr No w w'->Q i true w')(hno:v∉xs->∀i w',Sep F W w' L->Fr No w w'->Q i false w'):nS a n c v w Q:=by
 apply Ee;have hl:=hX.len;have loop:∀(k i j:Nat) (w1:World),j<=i+k->i<=j->j<=n->(∀q,q<i->gi xs q<v)->(∀q,j<=q->q<n->¬gi xs q<v)->Sep No w w1 []->gH Q (k+1) a n c v n i j w1:=by
  have stop:∀(i:Nat) (w1:World),i<=n->(∀q,q<i->gi xs q<v)->(∀q,i<=q->q<n->¬gi xs q<v)->Sep No w w1 []->(cond (decide ((i:Int)<n)) (aH i n<|wA a λp=>af .i64 (p.add ((i:Int).toNat*1)) w1 λy=>cond (y==v) (Q i true w1) (aH i n<|wA a λp=>af .i64 (p.add ((i:Int).toNat*1)) w1 λz=>nT z w1 λr w2=>cond r (nT v w2 λr' w3=>Q i r' w3) (Q i false w2))) (Q i false w1)):=λi w1 hi h1 h2 s=>by
   have ad0:gi xs i≠v\/i=n->v∉xs:=λh hv=>by
    obtain⟨q,hq⟩:=List.mem_iff_getElem?.1 hv;have hql:=(List.getElem?_eq_some_iff.1 hq).1;rw[ig hql,Option.some.injEq]at hq;rcases Nat.lt_trichotomy q i with h3|h3|h3
    ·grind
    ·grind
    ·have h4:=h2 i (Nat.le_refl _) (by omega);have h5:=Q3 hs h3 (by omega);omega
   by_cases hin:i<n
   ·rw[bN];apply(hX.fr (au s)).rE rfl hin;by_cases hv:gi xs i=v
    ·rw[dw hv,cond_true];exact hy i w1 hin hv (bX s0 (au s)) (au s)
    ·rw[cB hv,cond_false];apply(hX.fr (au s)).rE rfl hin;apply OE;rw[bne_self_eq_false];show cond false _ _;exact hno (ad0 (.inl hv)) i w1 (bX s0 (au s)) (au s)
   ·rw[bh];exact hno (ad0 (.inr (by omega))) i w1 (bX s0 (au s)) (au s)
  intro k;induction k with
  |zero=>
   intro i j w1 hk hij hj h1 h2 s;obtain rfl:i=j:=by omega
   show iZ Q (gH Q 0) _ _ _ _ _ _ _ _;unfold iZ;grind
  |succ k ih=>
   intro i j w1 hk hij hj h1 h2 s;show iZ Q (gH Q (k+1)) _ _ _ _ _ _ _ _;unfold iZ;by_cases hlt:i<j
   ·rw[bN,half hlt (by omega)];refine⟨by decide,?_⟩;apply(hX.fr (au s)).rE rfl (by omega);apply VO;apply Bc;rw[bne_self_eq_false];show cond false _ _;show cond (decide (gi xs ((i+j)/2)<v)) _ _;have Wn:∀q,q<(i+j)/2->gi xs q<gi xs ((i+j)/2):=λq hq=>Q3 hs hq (by omega);have awl:∀q,(i+j)/2<q->q<n->gi xs ((i+j)/2)<gi xs q:=λq hq hqn=>Q3 hs hq (by omega);by_cases hc:gi xs ((i+j)/2)<v
    ·rw[bN hc,aG];refine ih ((i+j)/2+1) j w1 (by omega) (by omega) hj (λq hq=>?_) h2 s;by_cases e:q=(i+j)/2
     ·rw[e];exact hc
     ·have:=Wn q (by omega);omega
    ·rw[bh hc];refine ih i ((i+j)/2) w1 (by omega) (by omega) (by omega) h1 (λq hq hqn=>?_) s;by_cases e:q=(i+j)/2
     ·rw[e];exact hc
     ·have:=awl q (by omega) hqn;omega
   ·obtain rfl:i=j:=by omega
    rw[bh (Int.lt_irrefl _)];exact stop i w1 hj h1 h2 s
 exact⟨n+1,loop n 0 n w (by omega) (by omega) (Nat.le_refl _) (λq h=>by omega) (λq h1 h2=>by omega) bt⟩
def Z8 {Q:Int->World->Prop}(k:r_ w r.p (abY r gp x))(h:Q x.fe w):sB (sZ r.p) w Q:=by apply FA;exact mN (ah (aO (k 3 _ rfl) h))
def Z9 {Q:Int->World->Prop}(h:Q 0 w):sB Option.none w Q:=FA _ _ _ h
def Z_ {Q:Option Addr->Nat->Nat->World->Prop}{i:Nat}{q:AF}(s0:Sep F W w L)(k:EE w r gp x)(hq:x.ps[i]? =some q)(hql:q.nodes.length<=1000000)(h:∀ra rn rc w',Sep F W w' (ak ra rn rc 3 1 (flat one q.nodes)::L)->Fr No w w'->Q ra rn rc w'):
  zg (sZ r.p) i w Q:=by
 apply Qp;have hi:=(List.getElem?_eq_some_iff.1 hq).1;have hl:=k.row.len;apply mN;rw[bh];refine ah (dJ (k.cell 1 _ rfl) ?_);rw[bh];refine ah (dJ (k.cell 1 _ rfl) ?_);refine k.row.El rfl (by omega) λp y hy hc=>?_;rw[hq]at hy;cases hy;apply dJ (hc 1 _ rfl);have hn:=(k.part q (List.mem_of_getElem? hq)).1;refine LI s0 hn (by rw[<-hn.len];omega) λra rc w' s f=>h ra _ rc w' s f
def xN (r:BC)(i:Nat):Option Addr:=r.a.map λp=>p.add (i*3)
def NJ {Q:Option Addr->Int->Bool->World->Prop}(s0:Sep F W w L)(k:EE w r gp x)(kg:n8 w gr g)(hgp:gp=gr.p)(hlen:(x.ps.length:Int)=eL g.m.w g.m.h)(Wn:∀q∈x.ps,q.nodes.Pairwise (·<·)/\q.nodes.length<1000000)
  (hno:¬bK g.m.w g.m.h ce->∀w',Sep F W w' L->Fr No w w'->Q none 0 false w')
  (hy:∀q (i:Nat) w',x.ps[(aC g.m.w g.m.h ce).toNat]? =some q->i<q.nodes.length->gi q.nodes i=ce->Sep F W w' L->Fr No w w'->Q (xN r (aC g.m.w g.m.h ce).toNat) i true w')
  (hn:∀q i w',x.ps[(aC g.m.w g.m.h ce).toNat]? =some q->ce∉q.nodes->Sep F W w' L->Fr No w w'->Q (xN r (aC g.m.w g.m.h ce).toNat) i false w'):uA (sZ r.p) ce w Q:=by
 subst hgp;apply Sj;refine mN (ah (ef (k.cell 0 _ rfl) ?_));refine jv (bt (F:=No)) kg λw1 s1 _=>?_;refine e9 s1 λw1 s1 _=>?_;have f1:=au s1;by_cases hc:bK g.m.w g.m.h ce
 ·have hs:=bT hc;obtain⟨_,h0,h1⟩:=hs;rw[bh];have k:=k.fr f1;have hl:=k.row.len;refine ah (dJ (k.cell 1 _ rfl) ?_);have hrow:=k.row;obtain⟨p,hp⟩:∃p,r.a=some p:=by obtain⟨ad,h2,_⟩:=hrow.row.2 (aC g.m.w g.m.h ce).toNat _ (List.getElem?_eq_getElem (by omega));grind
  have hP:xN r (aC g.m.w g.m.h ce).toNat=some (p.add ((aC g.m.w g.m.h ce).toNat*3)):=by unfold xN;rw[hp];rfl
  rw[hP]at hy hn;obtain⟨ad,had,yp⟩:=hrow.row.2 (aC g.m.w g.m.h ce).toNat _ (List.getElem?_eq_getElem (by omega));rw[hp,Option.some.injEq]at had;subst had;have hq:x.ps[(aC g.m.w g.m.h ce).toNat]? =some (x.ps[(aC g.m.w g.m.h ce).toNat]'(by omega)):=List.getElem?_eq_getElem (by omega);generalize x.ps[(aC g.m.w g.m.h ce).toNat]'(by omega)=q at yp hq;have hqm:=List.mem_of_getElem? hq;refine⟨by omega,by omega,?_⟩;rw[hp];apply ah;apply Qq;refine ah (dJ (x:=q.na) (m:=q.nn) (q:=q.nc) ?_ ?_)
  ·rw[add_add];exact yp 1 _ rfl
  ·obtain⟨h2,h3⟩:=Wn q hqm;have hn1:=(k.part q hqm).1;have hnl:=hn1.len;refine aiq hn1 (by omega) h2 s1 (λi w2 h4 h5 s2 f2=>?_) λh4 i w2 s2 f2=>?_
   ·exact hy q i w2 hq (by omega) h5 (bX s0 (au s2)) (au s2)
   ·exact hn q i w2 hq h4 (bX s0 (au s2)) (au s2)
 ·have e:aC g.m.w g.m.h ce=-1:=if_neg hc;rw[e,bN (by decide)];exact hno hc w1 (bX s0 f1) f1
end
end Go.Proofs.YtmegplnmiepfbaaGreatDoor.S
namespace Go.Proofs.YtmegplnmiepfbaaGreatDoor.S
open Go.Sx
attribute [local irreducible] af cv bz bg aA cw bZ St Bx Al App cH cy cD bU aM bF aq bS av ak aW mapA
section
variable {F:Nat->Prop}{W w w0:World}{L:List As}{r:BC}{gp:Nat}{x:nJ}{gr:uL}{g:iC}{m:bM}{sc b:Int}
def NK (g:iC)(x:nJ):Prop:=∀i q,x.ps[i]? =some q->q.ff=gi g.vs i
def H_ (I:yL g x)(hf:NK g x){i:Nat}{q:AF}(h:x.ps[i]? =some q):q.nodes=aX g.m i/\q.JQ=jM g.m i:=I.ok i q h (hf i q h)
def GO:(i_ m sc).length=(aX m sc).length:=by unfold i_;grind
def aoc:(jM m sc).length=(aX m sc).length*(aX m sc).length:=by unfold jM AE;rw[List.length_map,List.length_map,List.length_range,GO]
def aqu {i j:Nat}(hi:i<(aX m sc).length)(hj:j<(aX m sc).length):gi (jM m sc) (i*(aX m sc).length+j)=if qq m sc (gi (aX m sc) i) (gi (aX m sc) j)=cj then-1 else qq m sc (gi (aX m sc) i) (gi (aX m sc) j):=by
 have O_:0<(aX m sc).length:=by omega
 have d1:(i*(aX m sc).length+j)/(aX m sc).length=i:=by rw[Nat.mul_comm,Nat.mul_add_div O_,Nat.div_eq_of_lt hj,Nat.add_zero]
 have d2:(i*(aX m sc).length+j)%(aX m sc).length=j:=by rw[Nat.mul_comm,Nat.mul_add_mod,Nat.mod_eq_of_lt hj]
 have e:∀k,k<(aX m sc).length->gi (i_ m sc) k=d_ m.w m.h (gi (aX m sc) k):=λk hk=>by unfold gi i_;grind
 have h0:gi (jM m sc) (i*(aX m sc).length+j)=(λd=>if d=cj then-1 else d) (E_ (aE m.w m.h sc) (bC m.w m.h sc) (dU m sc) (i_ m sc) i j):=by unfold jM AE;rw[GO];show List.getD _ _ _=_;rw[List.getD_eq_getElem?_getD,List.getElem?_map,List.getElem?_map,List.getElem?_range (alL hi hj)];simp[Option.map_some,Option.getD_some,d1,d2]
 rw[h0];unfold E_ qq;grind
def agA {Q:Int->World->Prop}{s i j:Nat}{q:AF}(k:EE w r gp x)(hq:x.ps[s]? =some q)(hm:cW m)(hs:dY m.w m.h sc)(hc:q.nodes=aX m sc/\q.JQ=jM m sc)(hi:i<(aX m sc).length)(hj:j<(aX m sc).length)
  (h:Q (qq m sc (gi (aX m sc) i) (gi (aX m sc) j)) w.drew):wN (xN r s) i j w Q:=by
 apply MM;obtain⟨ad,had,yp⟩:=k.row.row.2 s q hq;have hP:xN r s=some (ad.add (s*3)):=by unfold xN;rw[had];rfl
 obtain⟨k1,k2⟩:=k.part q (List.mem_of_getElem? hq);have n1:=k1.len;have n2:=k2.len;rw[hc.1]at n1;rw[hc.2,aoc]at n2;have o9:=zZ hs;have hsq:=alL hi hj;have hij:=Nat.mul_le_mul (by omega) o9;rw[hP];refine ah (dJ (by rw[add_add];exact yp 2 _ rfl) (ah (dJ (by rw[add_add];exact yp 1 _ rfl) ?_)));rw[<-n1,show(i:Int)*(((aX m sc).length:Nat):Int)=((i*(aX m sc).length:Nat):Int) by grind,aG (n:=((i*(aX m sc).length:Nat):Int)),aG];apply F5 k2.drew (k:=i*(aX m sc).length+j) (by omega) (by omega);rw[hc.2,aqu hi hj];have ha:=mI hs (fG hi);have hb:=mI hs (fG hj);have hr:=Z7 hm hs ha.2 hb.2 hb.1;by_cases hI:qq m sc (gi (aX m sc) i) (gi (aX m sc) j)=cj
 ·rw[if_pos hI,bne_self_eq_false,cond_false];rw[hI]at h;exact h
 ·rw[if_neg hI,show(qq m sc (gi (aX m sc) i) (gi (aX m sc) j) !=-1)=true by grind,cond_true,aG];exact h
def as4:∃inf,P.info? 319=some inf/\inf.size≠0:=by obtain⟨inf,u,z,k1,k2,k3,k4,k5,k6,k7⟩:=uV dW (t:=319) rfl;grind
def auS:P.underlying 354=some (.pointer 319):=by kernel_rfl
def Q4 {α β:Type}{f:α->Option β}{l:List α}{i:Nat}{a:α}(h:l[i]? =some a):(l.take (i+1)).filterMap f=(l.take i).filterMap f++(f a).toList:=by rw[List.take_add_one,h,List.filterMap_append];congr 1
def ab0 {Q:Option Addr->Nat->Nat->World->Prop}(s0:Sep F W w L)(k:EE w r gr.p x)(kg:n8 w gr g)(I:yL g x)(hf:NK g x)(hb:bK g.m.w g.m.h b)(hn:ou g.m b)
  (h:∀ra rn rc w',Sep F W w' (ak ra rn rc 292 2 (flat DC (Ku g.m b))::L)->Fr No w w'->Q ra rn rc w'):Aj (sZ r.p) b w Q:=by
 apply Sk;have hm:=kg.ok.may;have hs:=bT hb;have hlen:=I.len;have hps:∀(i:Nat) (q:AF),x.ps[i]? =some q->dY g.m.w g.m.h i:=λi q h=>⟨⟨hm.w,hm.h⟩,by omega,by have:=(List.getElem?_eq_some_iff.1 h).1;omega⟩;have Wn:∀q∈x.ps,q.nodes.Pairwise (·<·)/\q.nodes.length<1000000:=λq hq=>by obtain⟨i,hi⟩:=List.mem_iff_getElem?.1 hq;rw[(H_ I hf hi).1];have:=zZ (hps i q hi);exact⟨NI (hps i q hi),by omega⟩
 have e0:=Int.toNat_of_nonneg hs.2.1;refine NJ (bt (F:=No)) k kg rfl I.len Wn (λe=>(e hb).elim) (λq j w1 hq hj hgj s1 f1=>?_) λq i w1 hq hni s1 f1=>?_
 rotate_left
 ·have:=(H_ I hf hq).1;rw[e0]at this;rw[this]at hni;exact(hni hn).elim
 have hc:=H_ I hf hq;rw[e0]at hc;rw[hc.1]at hj hgj;rw[Bool.not_true,cond_false];have k1:=k.fr f1;obtain⟨ad,had,yp⟩:=k1.row.row.2 _ q hq;obtain⟨pb,po,hbase⟩:=k1.base (by have:=(List.getElem?_eq_some_iff.1 hq).1;omega);have hP:xN r (aC g.m.w g.m.h b).toNat=some (ad.add ((aC g.m.w g.m.h b).toNat*3)):=by unfold xN;rw[had];rfl
 obtain⟨q1,q2⟩:=k1.part q (List.mem_of_getElem? hq);have hql:=q1.len;rw[hc.1]at hql;have o9:=zZ hs;rw[hP];refine ah (dJ (by rw[add_add];exact yp 1 _ rfl) ?_);rw[<-hql,wrap_i64 (n:=(((aX g.m (aC g.m.w g.m.h b)).length:Nat):Int)+1) (by omega) (by omega)];refine sY (x0:=((0:Int),(0:Int))) (bytes:=16) (ln:=0) (cn:=(aX g.m (aC g.m.w g.m.h b)).length+1) dW s1 rfl rfl rfl rfl rfl rfl (by decide) QN rfl (λu hu=>aky _ u hu) rfl (by omega) (by omega) (by omega) (by simp[maxLen];omega) λob w1 s1=>?_;have s1:=s1;have f1:=au s1;have k1:=k.fr f1;obtain⟨ad',auU,ah8⟩:=k1.row.row.2 _ q hq;obtain rfl:ad'=ad:=by rw[had]at auU;cases auU;rfl
 refine ah (dJ (by rw[add_add];exact ah8 1 _ rfl) ?_);rw[<-hP,<-hql];have sides:∀(n2 sd:Nat) (oa:Option Addr) (on oc:Nat) (w2:World),sd+n2=4->on<=300+sd->Sep No w w2 [ak oa on oc 292 2 (flat DC (abV g.m b++SM g.m b sd))]->
   lH Q (n2+1) (sZ r.p) b (xN r (aC g.m.w g.m.h b).toNat) oa on oc g.m.w g.m.h sd w2:=by
  intro n2;induction n2 with
  |zero=>
   intro sd oa on oc w2 wk ho s;show qR Q (lH Q 0) _ _ _ _ _ _ _ _ _ _;unfold qR;obtain rfl:sd=4:=by omega
   exact h oa on oc w2 (dQ s0 s (i:=0) rfl) (au s)
  |succ n2 ih=>
   intro sd oa on oc w2 wk ho s;show qR Q (lH Q (n2+1)) _ _ _ _ _ _ _ _ _ _;rw[qR,bN,aG];have skip:∀(w3:World),Sep No w w3 [ak oa on oc 292 2 (flat DC (abV g.m b++SM g.m b sd))]->¬(0<=aY g.m.w g.m.h b sd/\ou g.m (aY g.m.w g.m.h b sd)/\cU g.m (aY g.m.w g.m.h b sd)≠cU g.m b)->
     lH Q (n2+1) (sZ r.p) b (xN r (aC g.m.w g.m.h b).toNat) oa on oc g.m.w g.m.h ((sd:Int)+1) w3:=λw3 s hno=>by
    apply ih (sd+1) oa on oc w3 (by omega) (by omega);rw[abW];rw[Q2,if_neg hno];show Sep No w w3 [ak oa on oc 292 2 (flat DC (abV g.m b++(SM g.m b sd++[])))];rw[List.append_nil];exact s
   refine kM s λw2 s _=>?_;refine NJ s (k.fr (au s)) (kg.fr (au s)) rfl I.len Wn (λe w3 s _=>?_) (λq' i' w3 KR hi' ayh s _=>?_) λq' i' w3 KR auV s _=>?_
   ·exact skip w3 s λe'=>e (Aa e'.1).2
   ·have hn':ou g.m (aY g.m.w g.m.h b sd)/\bK g.m.w g.m.h (aY g.m.w g.m.h b sd):=by
     have h2:=(H_ I hf KR).1;have h3:aY g.m.w g.m.h b sd∈q'.nodes:=by rw[<-ayh];exact fG hi'
     rw[h2]at h3;have hok:=hps _ _ KR;have h4:=mI hok h3;have e5:=Int.toNat_of_nonneg (bT h4.2.1).2.1;rw[e5]at h3;exact⟨h3,h4.2.1⟩
    have hs':=bT hn'.2;have eP:∀i,xN r i=some ⟨pb,po+i*3,none⟩:=λi=>by unfold xN;rw[hbase];show some (Addr.add ⟨pb,po,none⟩ (i*3))=_;rw[cu]
    have ayi:∀(K:Bool->World->Prop) (x y:Operand) (wz:World),K (!decide (aC g.m.w g.m.h (aY g.m.w g.m.h b sd)=aC g.m.w g.m.h b)) wz->bU P .neq 354 x y (.pointer (xN r (aC g.m.w g.m.h (aY g.m.w g.m.h b sd)).toNat)) (.pointer (xN r (aC g.m.w g.m.h b).toNat)) wz K:=λK x y wz hK=>by
     rw[eP,eP];obtain⟨inf,YD,TB⟩:=as4;apply auO auS YD TB;have e6:(po+(aC g.m.w g.m.h (aY g.m.w g.m.h b sd)).toNat*3=po+(aC g.m.w g.m.h b).toNat*3)↔aC g.m.w g.m.h (aY g.m.w g.m.h b sd)=aC g.m.w g.m.h b:=by have:=hs'.2.1;omega
     simp only[e6];exact hK
    apply ayi;by_cases SP:aC g.m.w g.m.h (aY g.m.w g.m.h b sd)=aC g.m.w g.m.h b
    ·rw[decide_eq_true SP,Bool.not_true,cond_false];exact skip w3 s λe'=>e'.2.2 SP
    ·rw[decide_eq_false SP,Bool.not_false,cond_true];have k3:=k.fr (au s);refine ah (ef (k3.cell 0 _ rfl) ?_);apply ju (kg.fr (au s));refine ap7 (x:=(aY g.m.w g.m.h b sd,cV g.m b)) s (by omega) λoa oc w3 s=>?_;apply ih (sd+1) oa (on+1) oc w3 (by omega) (by omega);rw[abW];rw[Q2,if_pos ⟨hn'.2.2.1,hn'.1,SP⟩,<-List.append_assoc];exact s
   ·refine skip w3 s λe'=>?_;have h2:=(H_ I hf KR).1;have Bm:=(Aa e'.1).2;rw[Int.toNat_of_nonneg (bT Bm).2.1]at h2;rw[h2]at auV;exact auV e'.2.1
 have nodes:∀(n2 i:Nat) (oa:Option Addr) (on oc:Nat) (w2:World),i+n2=(aX g.m (aC g.m.w g.m.h b)).length->on<=i->Sep No w w2 [ak oa on oc 292 2 (flat DC (((aX g.m (aC g.m.w g.m.h b)).take i).filterMap λa=>if a≠b/\qq g.m (cU g.m b) a b≠cj then some (a,qq g.m (cU g.m b) a b)else none))]->
   mC Q (n2+1) (sZ r.p) b (xN r (aC g.m.w g.m.h b).toNat) j oa on oc q.na (aX g.m (aC g.m.w g.m.h b)).length q.nc (aX g.m (aC g.m.w g.m.h b)).length i w2:=by
  intro n2;induction n2 with
  |zero=>
   intro i oa on oc w2 hi ho s;show r7 Q (mC Q 0) _ _ _ _ _ _ _ _ _ _ _ _ _;rw[r7,bh];have k2:=k.fr (au s);refine ah (ef (k2.cell 0 _ rfl) ?_);refine jv s (kg.fr (au s)) λw2 s _=>?_;rw[List.take_of_length_le (by omega)]at s;refine⟨5,sides 4 0 oa on oc w2 rfl (by omega) ?_⟩;show Sep No w w2 [ak oa on oc 292 2 (flat DC (abV g.m b++[]))];rw[List.append_nil];exact s
  |succ n2 ih=>
   intro i oa on oc w2 hi ho s;show r7 Q (mC Q (n2+1)) _ _ _ _ _ _ _ _ _ _ _ _ _;rw[r7,bN,aG];have k2:=k.fr (au s);have q1:=(k2.part q (List.mem_of_getElem? hq)).1;rw[hc.1,<-hql]at q1;apply q1.rE rfl (by omega);apply agA k2 hq hm hs hc (by omega) hj;rw[hgj];have s:=ay s;have ht:=Q4 (f:=λa=>if a≠b/\qq g.m (cU g.m b) a b≠cj then some (a,qq g.m (cU g.m b) a b)else none) (ig (l:=aX g.m (aC g.m.w g.m.h b)) (i:=i) (by omega));have hne:gi (aX g.m (aC g.m.w g.m.h b)) i≠b↔i≠j:=by
    constructor
    ·rintro h1 rfl;exact h1 hgj
    ·intro h1 h2;rcases Nat.lt_or_gt_of_ne h1 with h3|h3
     ·have:=Q3 (NI hs) h3 hj;omega
     ·have:=Q3 (NI hs) h3 (by omega);omega
   have skip:¬(gi (aX g.m (aC g.m.w g.m.h b)) i≠b/\qq g.m (cU g.m b) (gi (aX g.m (aC g.m.w g.m.h b)) i) b≠cj)->mC Q (n2+1) (sZ r.p) b (xN r (aC g.m.w g.m.h b).toNat) j oa on oc q.na (aX g.m (aC g.m.w g.m.h b)).length q.nc (aX g.m (aC g.m.w g.m.h b)).length ((i:Int)+1) w2.drew:=λhno=>by apply ih (i+1) oa on oc _ (by omega) (by omega);rw[ht,if_neg hno];show Sep No w _ [ak oa on oc 292 2 (flat DC (_++[]))];rw[List.append_nil];exact s
   by_cases hij:i=j
   ·rw[show((i:Int) !=(j:Int))=false by rw[hij];exact bne_self_eq_false _,cond_false];exact skip λe=>hne.1 e.1 hij
   ·rw[show((i:Int) !=(j:Int))=true by rw[bne_iff_ne];omega,cond_true];by_cases hI:qq g.m (cU g.m b) (gi (aX g.m (aC g.m.w g.m.h b)) i) b=cj
    ·have Wo:qq g.m (aC g.m.w g.m.h b) (gi (aX g.m (aC g.m.w g.m.h b)) i) b=1099511627776:=hI;rw[Wo,bne_self_eq_false,cond_false];exact skip λe=>e.2 hI
    ·have Wo:qq g.m (aC g.m.w g.m.h b) (gi (aX g.m (aC g.m.w g.m.h b)) i) b≠1099511627776:=hI;rw[show(qq g.m (aC g.m.w g.m.h b) (gi (aX g.m (aC g.m.w g.m.h b)) i) b !=1099511627776)=true by rw[bne_iff_ne];exact Wo,cond_true];refine ap7 (x:=(gi (aX g.m (aC g.m.w g.m.h b)) i,qq g.m (aC g.m.w g.m.h b) (gi (aX g.m (aC g.m.w g.m.h b)) i) b)) s (by omega) λoa oc w3 s=>?_;apply ih (i+1) oa (on+1) oc w3 (by omega) (by omega);rw[ht,if_pos ⟨hne.2 hij,hI⟩];exact s
 exact⟨_,nodes (aX g.m (aC g.m.w g.m.h b)).length 0 _ 0 _ w1 (by omega) (by omega) s1⟩
end
section
variable {F:Nat->Prop}{W w w0:World}{L:List As}{r:BC}{gp:Nat}{x:nJ}{gr:uL}{g:iC}{m:bM}{sc b:Int}
def aqv (hm:cW m)(hs:dY m.w m.h sc){d:Int}(h:d∈AE (aE m.w m.h sc) (bC m.w m.h sc) (dU m sc) (i_ m sc)):0<=d/\(d≠cj->d<1000000000):=by
 obtain⟨k,hk,rfl⟩:=List.mem_map.1 h;have hk:=List.mem_range.1 hk;rw[GO]at hk⊢;have O_:0<(aX m sc).length:=by grind
 have hi:=Nat.div_lt_of_lt_mul hk;have hj:k%(aX m sc).length<(aX m sc).length:=Nat.mod_lt _ O_;have e:∀k,k<(aX m sc).length->gi (i_ m sc) k=d_ m.w m.h (gi (aX m sc) k):=λk hk=>by unfold gi i_;grind
 have ha:=mI hs (fG hi);have hb:=mI hs (fG hj);have hr:=Z7 hm hs ha.2 hb.2 hb.1;have e2:E_ (aE m.w m.h sc) (bC m.w m.h sc) (dU m sc) (i_ m sc) (k/(aX m sc).length) (k%(aX m sc).length)=qq m sc (gi (aX m sc) (k/(aX m sc).length)) (gi (aX m sc) (k%(aX m sc).length)):=by unfold E_ qq;grind
 grind
def ad1 {Q:Int->Option Addr->Nat->Nat->Option Addr->Nat->Nat->World->Prop}{rb tb pb nn nc tn tc:Nat}{na ta:Option Addr}{ff:Int}(hm:cW m)(hs:dY m.w m.h sc)
  (s:Sep No w0 w [av pb 319 [ae ff,.slice na nn nc,.slice none 0 0],ak na nn nc 3 1 (flat one (aX m sc)),av tb 84 [ae (aE m.w m.h sc),ae (bC m.w m.h sc),.slice ta tn tc],ak ta tn tc 5 1 (flat bu (dU m sc)),av rb 319 [ae 0,.slice none 0 0,.slice none 0 0]])
  (h:∀da dn dc w',Sep No w0 w' [ak na nn nc 3 1 (flat one (aX m sc)),ak da dn dc 21 1 (flat o8 (jM m sc))]->Q ff na nn nc da dn dc w'):r6 Q (aZ rb) m.w m.h (aZ tb) (aZ pb) w:=by
 have o9:=zZ hs;have hnn:=(aK s (i:=1) rfl cE (by decide)).len;apply lS s 0 rfl;have conv:∀(qa:Option Addr) (qc N:Nat) (da:Option Addr) (w1:World),N=nn*nn->Sep No w0 w1 [ak da N N 21 1 (flat o8 (List.replicate N 0)),ak qa N qc 3 1 (flat one (AE (aE m.w m.h sc) (bC m.w m.h sc) (dU m sc) (i_ m sc))),av pb 319 [ae ff,.slice na nn nc,.slice da N N],ak na nn nc 3 1 (flat one (aX m sc)),av rb 319 [ae 0,.slice none 0 0,.slice none 0 0]]->
   ∃k',lG Q k' (aZ rb) (aZ pb) qa N qc N 0 w1:=λqa qc N da w1 hN s=>by
  have hNb:N<=65536:=by have:=Nat.mul_le_mul (show nn<=256 by omega) (show nn<=256 by omega);omega
  have htl:(AE (aE m.w m.h sc) (bC m.w m.h sc) (dU m sc) (i_ m sc)).length=N:=by rw[AE,List.length_map,List.length_range,GO,hnn,hN]
  have hdl:(jM m sc).length=N:=by unfold jM;grind
  have hdg:∀i,i<N->gi (jM m sc) i=if gi (AE (aE m.w m.h sc) (bC m.w m.h sc) (dU m sc) (i_ m sc)) i=cj then-1 else gi (AE (aE m.w m.h sc) (bC m.w m.h sc) (dU m sc) (i_ m sc)) i:=λi hi=>by show List.getD _ _ _=_;rw[jM,List.getD_eq_getElem?_getD,List.getElem?_map,ig (by omega)];rfl
  have loop:∀(k i:Nat) (w1:World),i+k=N->Sep No w0 w1 [ak da N N 21 1 (flat o8 ((List.range N).map λq=>if q<i then gi (jM m sc) q else 0)),ak qa N qc 3 1 (flat one (AE (aE m.w m.h sc) (bC m.w m.h sc) (dU m sc) (i_ m sc))),av pb 319 [ae ff,.slice na nn nc,.slice da N N],ak na nn nc 3 1 (flat one (aX m sc)),av rb 319 [ae 0,.slice none 0 0,.slice none 0 0]]->
    lG Q (k+1) (aZ rb) (aZ pb) qa N qc N i w1:=by
   intro k;induction k with
   |zero=>
    intro i w1 hi s;show qQ Q (lG Q 0) _ _ _ _ _ _ _ _;rw[qQ,bh];have e:((List.range N).map λq=>if q<i then gi (jM m sc) q else 0)=jM m sc:=by refine U2 (by grind) λq hq=>?_;show List.getD _ _ _=_;grind
    rw[e]at s;refine lI s 2 rfl (lS s 2 rfl (lS s 2 rfl ?_));refine sT s 4 rfl λw1 s=>?_;refine sT s 4 rfl λw1 s=>?_;refine ax s (i:=4) rfl rfl rfl λw1 s=>?_;refine lI s 4 rfl (lS s 4 rfl (lS s 4 rfl ?_));exact h da N N w1 (pk 99 [3,0] s)
   |succ k ih=>
    intro i w1 hi s;show qQ Q (lG Q (k+1)) _ _ _ _ _ _ _ _;rw[qQ,bN,aG];apply(aK s (i:=1) rfl cE (by decide)).rE rfl (by omega);apply lS s 2 rfl;refine E6 vF s (i:=0) (k:=i) (x':=-1) rfl (by omega) (by rw[List.length_map,List.length_range];omega) rfl rfl λw1 s=>?_;have hr:=aqv hm hs (fG (i:=i) (by omega));have hdi:=hdg i (by omega);rw[JP]at s;by_cases hI:gi (AE (aE m.w m.h sc) (bC m.w m.h sc) (dU m sc) (i_ m sc)) i=cj
    ·rw[if_pos hI]at hdi;have Wo:gi (AE (aE m.w m.h sc) (bC m.w m.h sc) (dU m sc) (i_ m sc)) i=1099511627776:=hI;rw[Wo,bne_self_eq_false,cond_false];apply ih (i+1) w1 (by omega);have e:((List.range N).map λq=>if q=i then-1 else if q<i then gi (jM m sc) q else 0)=(List.range N).map λq=>if q<i+1 then gi (jM m sc) q else 0:=by
      refine List.map_congr_left λq _=>?_;by_cases c1:q=i
      ·rw[if_pos c1,AP,c1,hdi]
      ·rw[if_neg c1];by_cases c2:q<i
       ·rw[if_pos c2,AP]
       ·rw[if_neg c2,fU]
     rw[e]at s;exact s
    ·rw[if_neg hI]at hdi;have Wo:gi (AE (aE m.w m.h sc) (bC m.w m.h sc) (dU m sc) (i_ m sc)) i≠1099511627776:=hI;rw[show(gi (AE (aE m.w m.h sc) (bC m.w m.h sc) (dU m sc) (i_ m sc)) i !=1099511627776)=true by rw[bne_iff_ne];exact Wo,cond_true];apply lS s 2 rfl;rw[ae6 (by omega)];refine E6 vF s (i:=0) (k:=i) (x':=gi (AE (aE m.w m.h sc) (bC m.w m.h sc) (dU m sc) (i_ m sc)) i) rfl (by omega) (by rw[List.length_map,List.length_range];omega) rfl rfl λw1 s=>?_;rw[JP]at s;apply ih (i+1) w1 (by omega);have e:((List.range N).map λq=>if q=i then gi (AE (aE m.w m.h sc) (bC m.w m.h sc) (dU m sc) (i_ m sc)) i else if q=i then-1 else if q<i then gi (jM m sc) q else 0)=(List.range N).map λq=>if q<i+1 then gi (jM m sc) q else 0:=by
      refine List.map_congr_left λq _=>?_;by_cases c1:q=i
      ·rw[if_pos c1,AP,c1,hdi]
      ·rw[if_neg c1,if_neg c1];by_cases c2:q<i
       ·rw[if_pos c2,AP]
       ·rw[if_neg c2,fU]
     rw[e]at s;exact s
  refine⟨N+1,loop N 0 w1 (by omega) ?_⟩;have e:((List.range N).map λq=>if q<0 then gi (jM m sc) q else 0)=List.replicate N 0:=by rw[List.eq_replicate_iff];refine⟨by simp,λx hx=>?_⟩;obtain⟨q,_,rfl⟩:=List.mem_map.1 hx;rw[if_neg (Nat.not_lt_zero _)]
  grind
 have loop:∀(k i:Nat) (la:Option Addr) (lc:Nat) (w1:World),i+k=nn->Sep No w0 w1 [ak la i lc 3 1 (flat one ((i_ m sc).take i)),av pb 319 [ae ff,.slice na nn nc,.slice none 0 0],ak na nn nc 3 1 (flat one (aX m sc)),av tb 84 [ae (aE m.w m.h sc),ae (bC m.w m.h sc),.slice ta tn tc],ak ta tn tc 5 1 (flat bu (dU m sc)),av rb 319 [ae 0,.slice none 0 0,.slice none 0 0]]->
   oE Q (k+1) (aZ rb) m.w m.h (aZ tb) (aZ pb) la i lc na nn nc nn i w1:=by
  intro k;induction k with
  |zero=>
   intro i la lc w1 hi s;show rZ Q (oE Q 0) _ _ _ _ _ _ _ _ _ _ _ _ _ _;rw[rZ,bh];have NL:(i_ m sc).length=nn:=by rw[GO,hnn]
   rw[List.take_of_length_le (by omega)]at s;refine lI s 3 rfl (lI s 3 rfl (lS s 3 rfl ?_));refine Z5 s (aK s (i:=4) rfl dO (by decide)) (aK s (i:=0) rfl cE (by decide)) (Q0 hm hs) (an_ hm hs) λqa qc w1 s _=>?_;rw[NL]at s⊢;have hNb:nn*nn<=65536:=by have:=Nat.mul_le_mul (show nn<=256 by omega) (show nn<=256 by omega);omega
   refine sY (bytes:=4) dW s rfl rfl rfl rfl rfl rfl (by decide) vF rfl (λu hu=>by unfold o8 at hu;rw[List.mem_singleton]at hu;rw[hu];rfl) rfl rfl (Nat.le_refl _) (by omega) (by simp[maxLen];omega) λdb w1 s=>?_;refine ax s (i:=3) rfl rfl rfl λw1 s=>?_;exact conv qa qc (nn*nn) (sZ db) w1 rfl (pk 99 [0,1,3,4,7] s)
  |succ k ih=>
   intro i la lc w1 hi s;show rZ Q (oE Q (k+1)) _ _ _ _ _ _ _ _ _ _ _ _ _ _;rw[rZ,bN,aG];apply(aK s (i:=2) rfl cE (by decide)).rE rfl (by omega);refine tO s λw1 s _=>?_;refine LF s (by omega) λla lc w1 s=>?_;apply ih (i+1) la lc w1 (by omega);have e:(i_ m sc).take (i+1)=(i_ m sc).take i++[d_ m.w m.h (gi (aX m sc) i)]:=by rw[i_,List.take_add_one,List.getElem?_map,ig (by omega)];rfl
   rw[e];exact s
 exact⟨nn+1,loop nn 0 none 0 w (by omega) (bG s 3 1)⟩
def ab2 {Q:Int->Option Addr->Nat->Nat->Option Addr->Nat->Nat->World->Prop}{vs:List Value}(s0:Sep F W w L)(k:r_ w r.p (.pointer (sZ gr.p)::vs))(kg:n8 w gr g)(hs:dY g.m.w g.m.h sc)
  (h:∀na nn nc da dn dc w',Sep F W w' ([ak na nn nc 3 1 (flat one (aX g.m sc)),ak da dn dc 21 1 (flat o8 (jM g.m sc))]++L)->Fr No w w'->Q (zH g sc) na nn nc da dn dc w'):Ai (sZ r.p) sc w Q:=by
 apply Sf;have hm:=kg.ok.may;have fin:∀(na:Option Addr) (nn nc:Nat) (da:Option Addr) (dn dc:Nat) (w':World),Sep No w w' [ak na nn nc 3 1 (flat one (aX g.m sc)),ak da dn dc 21 1 (flat o8 (jM g.m sc))]->Q (zH g sc) na nn nc da dn dc w':=λna nn nc da dn dc w' s=>h na nn nc da dn dc w' (gg s0 s) (au s);refine aV (bt (F:=No)) λrb w1 s=>?_;have kc:∀{w':World} {L':List As},Sep No w w' L'->w'.cell? (aZ r.p)=some (.pointer (sZ gr.p)):=λs=>by have:=(k.fr (au s)) 0 _ rfl;exact this
 refine ah (ef (kc s) ?_);refine jv s (kg.fr (au s)) λw1 s _=>?_;refine ah (ef (kc s) ?_);refine Nu s (kg.fr (au s)) (λe=>(e hs).elim) λ_ ta tn tc w1 s _=>?_;rw[aid hm hs]at s;refine aV s λtb w1 s=>?_;refine sT s 0 rfl λw1 s=>?_;refine sT s 0 rfl λw1 s=>?_;refine ax s (i:=0) rfl rfl rfl λw1 s=>?_;have s:=ay s;refine ah (ef (kc s) (ah (ef (kc s) ⟨?_,?_⟩)))
 ·refine r8 (kg.fr (au s)) ⟨kc s,?_,?_⟩
  ·refine xL s (kg.fr (au s)) hs λna nn nc w1 s _=>?_;refine aV s λpb w1 s=>?_;refine⟨kc s,kc s,?_⟩;refine sT s 0 rfl λw1 s=>?_;refine sT s 0 rfl λw1 s=>?_;refine ax s (i:=0) rfl rfl rfl λw1 s=>?_;exact ad1 hm hs s λda dn dc w' s=>fin _ _ _ da dn dc w' s
  ·refine aV s λpb w1 s=>?_;refine⟨kc s,kc s,?_⟩;refine xL s (kg.fr (au s)) hs λna nn nc w1 s _=>?_;refine sT s 1 rfl λw1 s=>?_;refine sT s 1 rfl λw1 s=>?_;refine ax s (i:=1) rfl rfl rfl λw1 s=>?_;exact ad1 hm hs (pk 99 [1,0,2,3,4] s) λda dn dc w' s=>fin _ _ _ da dn dc w' s
 ·refine aV s λpb w1 s=>?_;refine⟨kc s,kc s,?_⟩;refine r8 (kg.fr (au s)) ⟨kc s,?_⟩;refine xL s (kg.fr (au s)) hs λna nn nc w1 s _=>?_;refine sT s 1 rfl λw1 s=>?_;refine sT s 1 rfl λw1 s=>?_;refine ax s (i:=1) rfl rfl rfl λw1 s=>?_;exact ad1 hm hs (pk 99 [1,0,2,3,4] s) λda dn dc w' s=>fin _ _ _ da dn dc w' s
end
section
variable {F:Nat->Prop}{W w w0:World}{L:List As}{r:BC}{gp:Nat}{x:nJ}{gr:uL}{g:iC}{m:bM}{sc b:Int}
def SQ (x:nJ)(i:Nat):Int:=(x.ps[i]?.map (·.ff)).getD 0
def aaa {i:Nat}{q:AF}(h:x.ps[i]? =some q):SQ x i=q.ff:=by unfold SQ;rw[h];rfl
def kH (g:iC)(x:nJ)(j:Nat):List Nat:=(List.range j).filter λi=>SQ x i !=gi g.vs i
def zK (g:iC)(x:nJ)(j:Nat):List Int:=(kH g x j).map λi:Nat=>(i:Int)
def alM {j:Nat}:zK g x (j+1)=zK g x j++if SQ x j !=gi g.vs j then[(j:Int)]else[]:=by unfold zK kH;rw[List.range_succ,List.filter_append,List.map_append];grind
def aab {Q:Option Addr->Nat->Nat->World->Prop}(s0:Sep F W w L)(k:EE w r gr.p x)(kg:n8 w gr g)(I:yL g x)
  (h:∀da dn dc w',Sep F W w' (ak da dn dc 3 1 (flat one (zK g x x.ps.length))::L)->Fr No w w'->Q da dn dc w'):zf (sZ r.p) w Q:=by
 apply Qj;have k:=k.fr (w':=w.drew) Fr.refl;have kg:=kg.fr (w':=w.drew) Fr.refl;have s0:=ay s0;have hc:=(gS kg.ok.may.w kg.ok.may.h).2;have IJ:=I.len;refine mN (ah (aO (k.cell 2 _ rfl) (ah (ef (k.cell 0 _ rfl) ?_))));refine rA kg ⟨k.cell 2 _ rfl,?_⟩;by_cases yp:x.clean=g.ep
 ·rw[dw yp,cond_true];refine h none 0 0 w.drew ?_ Fr.refl;have e:zK g x x.ps.length=[]:=by unfold zK kH;rw[List.map_eq_nil_iff,List.filter_eq_nil_iff];intro i hi;have hi:=List.mem_range.1 hi;have hq:=List.getElem?_eq_getElem hi;rw[aaa hq,I.all yp i _ hq,bne_self_eq_false];decide
  rw[e];exact bG s0 3 1
 rw[cB yp,cond_false];refine ah (dJ (k.cell 1 _ rfl) ?_);have hn:=k.row.len;have loop:∀(j i:Nat) (oa:Option Addr) (on oc:Nat) (w1:World),i+j=r.n->on<=i->Sep No w w1 [ak oa on oc 3 1 (flat one (zK g x i))]->nM Q (j+1) (sZ r.p) oa on oc r.n i w1:=by
  intro j;induction j with
  |zero=>
   intro i oa on oc w1 hi ho s;show qP Q (nM Q 0) _ _ _ _ _ _ _;rw[qP,bh];obtain rfl:i=x.ps.length:=by omega
   exact h oa on oc w1 (dQ s0 s (i:=0) rfl) (au s)
  |succ j ih=>
   intro i oa on oc w1 hi ho s;show qP Q (nM Q (j+1)) _ _ _ _ _ _ _;rw[qP,bN,aG];have s:=ay s;have k1:=k.fr (au s);have kg1:=kg.fr (au s);refine ah (dJ (k1.cell 1 _ rfl) ?_);refine k1.row.El rfl (by omega) λp q hq yp=>?_;have hc0:=yp 0 _ rfl;refine aO hc0 (ah (ef (by have:=k1.cell 0 _ rfl;rw[add_zero]at this;exact this) ?_));refine r8 kg1 ⟨hc0,k1.cell 1 _ rfl,?_⟩;have hv:zH g i=gi g.vs i:=by have:=kg.ok.len;unfold zH;grind
   rw[hv,<-aaa hq];have hds:=alM (g:=g) (x:=x) (j:=i);cases hb:SQ x i !=gi g.vs i with
   |true=>
    refine LF s (by omega) λoa oc w1 s=>?_;grind
   |false=>
    grind
 exact⟨r.n+1,loop r.n 0 none 0 0 w.drew (by omega) (by omega) (bG bt 3 1)⟩
def WrP {a:Option Addr}{n c i:Nat}{es:List AF}{idx:Int}{k:Nat}{q:AF}{K:World->Prop}(s:Sep F W w L)(hi:L[i]? =some (ak a n c 319 3 (flat Kv es)))(hk:idx=k)(hn:k<es.length)(h:∀w',Sep F W w' (L.set i (ak a n c 319 3 (flat Kv (es.set k q))))->K w'):
  aH idx n (wA a λp=>St ((p.add (idx.toNat*3)).add 0) (ae q.ff) w λw=>St ((p.add (idx.toNat*3)).add 1) (.slice q.na q.nn q.nc) w λw=>St ((p.add (idx.toNat*3)).add 2) (.slice q.da q.dn q.dc) w λw=>K w):=by
 have hl:=(aK s hi CC (by decide)).len;subst hk;have hg:=List.getElem?_eq_getElem hn;generalize es[k]=e0 at hg;refine CR s hi rfl (by omega) λg o ha=>?_;subst ha;have ad:∀j,(((⟨g,o,none⟩:Addr).add ((k:Int).toNat*3)).add j)=⟨g,o+(k*3+j),none⟩:=λj=>by rw[add_add,cu,Int.toNat_natCast]
 have IM:=(List.getElem?_eq_some_iff.1 hi).1;refine dX (x':=⟨q.ff,e0.na,e0.nn,e0.nc,e0.da,e0.dn,e0.dc,e0.nodes,e0.JQ⟩) CC s hi hg (ad 0) (by decide) rfl rfl λw s=>?_;refine dX (x:=⟨q.ff,e0.na,e0.nn,e0.nc,e0.da,e0.dn,e0.dc,e0.nodes,e0.JQ⟩) (x':=⟨q.ff,q.na,q.nn,q.nc,e0.da,e0.dn,e0.dc,e0.nodes,e0.JQ⟩) CC s (by rw[List.getElem?_set_self IM]) (by grind) (ad 1) (by decide) rfl rfl λw s=>?_;rw[List.set_set,List.set_set]at s;refine dX (x:=⟨q.ff,q.na,q.nn,q.nc,e0.da,e0.dn,e0.dc,e0.nodes,e0.JQ⟩) (x':=q) CC s (by rw[List.getElem?_set_self IM]) (by grind) (ad 2) (by decide) rfl rfl λw s=>?_;simp_all
def ad2:Nat->Int->Int
 |0,c=>c
 |k+1,c=>ad2 k (Ta.sat c 1)
def Wp {Q:Int->World->Prop}(s:Sep F W w (n7 gr g::uM r gr.p x::L))(I:yL g x)
  (h:∀(x':nJ) w',yL g x'->NK g x'->x'.clean=g.ep->x'.fe=ad2 (kH g x x.ps.length).length x.fe->Sep F W w' (n7 gr g::uM r gr.p x'::L)->Q ((kH g x x.ps.length).length:Int) w'):wM (sZ r.p) w Q:=by
 apply MK;apply mN;have kg:=oU s;have hgl:=kg.ok.len;have Wi:=(gS kg.ok.may.w kg.ok.may.h).2;have IJ:=I.len;refine aab s (Wm (ai s)) kg I λda dn dc w1 s _=>?_;have hD:=(aK s (i:=0) rfl cE (by decide)).len;have hds:(kH g x x.ps.length).length=dn:=by rw[<-hD];unfold zK;rw[List.length_map]
 have hdi:∀i,i<dn->gi (zK g x x.ps.length) i=((kH g x x.ps.length).getD i 0:Nat):=λi hi=>by unfold zK;show List.getD _ _ _=_;rw[List.getD_eq_getElem?_getD,List.getElem?_map,List.getD_eq_getElem?_getD,List.getElem?_eq_getElem (by omega)];rfl
 have hdm:∀i,i<dn->(kH g x x.ps.length).getD i 0<x.ps.length:=λi hi=>by
  have:(kH g x x.ps.length).getD i 0∈kH g x x.ps.length:=by rw[List.getD_eq_getElem?_getD,List.getElem?_eq_getElem (by omega)];exact List.getElem_mem _
  exact List.mem_range.1 (List.mem_filter.1 this).1
 have hdn:dn<=x.ps.length:=by rw[<-hds];have:=List.length_filter_le (λi=>SQ x i !=gi g.vs i) (List.range x.ps.length);rw[List.length_range]at this;exact this
 have loop:∀(j i:Nat) (ps:List AF) (c:Int) (w1:World),i+j=dn->ps.length=x.ps.length->Ta.U c->ad2 j c=ad2 dn x.fe->
   (∀k q,ps[k]? =some q->(k∈(kH g x x.ps.length).take i->q.ff=gi g.vs k/\q.nodes=aX g.m k/\q.JQ=jM g.m k)/\(k∉(kH g x x.ps.length).take i->x.ps[k]? =some q))->
   Sep F W w1 (ak da dn dc 3 1 (flat one (zK g x x.ps.length))::n7 gr g::av r.p 236 (abY r gr.p ⟨ps,x.clean,c⟩)::ak r.a r.n r.c 319 3 (flat Kv ps)::(ps.map abX++L))->
   l6 Q (j+1) (sZ r.p) da dn dc da dn dc dn i w1:=by
  intro j;induction j with
  |zero=>
   intro i ps c w1 hi hps hu hc hk s;show oF Q (l6 Q 0) _ _ _ _ _ _ _ _ _ _;rw[oF,bh];have BR:=(aK s (i:=3) rfl CC (by decide)).len;have kg:=oU (ai s);refine ah (lP s 2 rfl ?_);apply rA kg;refine ah (sT s 2 rfl λw1 s=>?_);have hfull:(kH g x x.ps.length).take i=kH g x x.ps.length:=List.take_of_length_le (by omega);rw[hfull]at hk;have fresh:∀k q,ps[k]? =some q->q.ff=gi g.vs k/\q.nodes=aX g.m k/\q.JQ=jM g.m k:=λk q hq=>by
    by_cases hm:k∈kH g x x.ps.length
    ·exact(hk k q hq).1 hm
    ·have KR:=(hk k q hq).2 hm;have hkl:=(List.getElem?_eq_some_iff.1 KR).1;have hv:q.ff=gi g.vs k:=by refine Classical.byContradiction λhne=>hm (List.mem_filter.2 ⟨List.mem_range.2 hkl,?_⟩);rw[aaa KR,bne_iff_ne];exact hne
     exact⟨hv,I.ok k q KR hv⟩
   have hlen:∀k q,ps[k]? =some q->k<g.vs.length:=λk q hq=>by have:=(List.getElem?_eq_some_iff.1 hq).1;omega
   have I':yL g ⟨ps,g.ep,c⟩:=⟨by rw[hps];exact IJ,⟨Int.le_refl _,λq hq=>by obtain⟨k,hk'⟩:=List.mem_iff_getElem?.1 hq;rw[(fresh k q hk').1];exact(kg.ok.vs _ (fG (hlen k q hk'))).2⟩,λ_ k q hq=>(fresh k q hq).1,λk q hq _=>(fresh k q hq).2,hu⟩
   have s:=ai s;have s:Sep F W w1 (n7 gr g::(LV r gr.p ⟨ps,g.ep,c⟩++L)):=s;have s:Sep F W w1 (n7 gr g::uM r gr.p ⟨ps,g.ep,c⟩::L):=by have s1:=ck s (L':=LV r gr.p ⟨ps,g.ep,c⟩++n7 gr g::L) List.perm_middle.symm;exact ck (abZ s1) (List.Perm.swap _ _ _)
   rw[<-hds];refine h ⟨ps,g.ep,c⟩ w1 I' (λk q hq=>(fresh k q hq).1) rfl ?_ s;rw[hds,<-hc];rfl
  |succ j ih=>
   intro i ps c w1 hi hps hu hc hk s;show oF Q (l6 Q (j+1)) _ _ _ _ _ _ _ _ _ _;rw[oF,bN,aG];apply(aK s (i:=0) rfl cE (by decide)).rE rfl (by omega);rw[hdi i (by omega)];have hdk:=hdm i (by omega);have akK:(kH g x x.ps.length).take (i+1)=(kH g x x.ps.length).take i++[(kH g x x.ps.length).getD i 0]:=by rw[List.take_add_one,List.getD_eq_getElem?_getD,List.getElem?_eq_getElem (by omega)];rfl
   generalize hdv:(kH g x x.ps.length).getD i 0=d at hdk akK⊢;have s:=ay s;refine ah (lS s 2 rfl ?_);have kg:=oU (ai s);have wk:dY g.m.w g.m.h d:=⟨⟨kg.ok.may.w,kg.ok.may.h⟩,by omega,by omega⟩;refine ab2 s (lz s (i:=2) rfl) kg wk λna nn nc LW dn' LX w1 s _=>?_;refine⟨cq s 4 rfl,?_⟩;have hv:zH g d=gi g.vs d:=by rw[zH,AP,Int.toNat_natCast]
   rw[hv];refine WrP (q:=⟨gi g.vs d,na,nn,nc,LW,dn',LX,aX g.m d,jM g.m d⟩) s (i:=5) rfl rfl (by omega) λw1 s=>?_;simp[List.cons_append,List.nil_append,List.set_cons_zero,List.set_cons_succ]at s;refine ah (lI s 4 rfl ?_);apply Ta.BB hu (by unfold Ta.U;omega);refine ah (sT s 4 rfl λw1 s=>?_);refine ih (i+1) (ps.set d ⟨gi g.vs d,na,nn,nc,LW,dn',LX,aX g.m d,jM g.m d⟩) (Ta.sat c 1) w1 (by omega) (by rw[List.length_set];exact hps) (Ta.GM hu (by unfold Ta.U;omega)) hc ?_ ?_
   ·intro k q hq;rw[akK];rw[List.getElem?_set]at hq;by_cases hkd:d=k
    ·subst hkd;rw[if_pos rfl,AP]at hq;cases hq;exact⟨λ_=>⟨rfl,rfl,rfl⟩,λhn=>(hn (by simp)).elim⟩
    ·rw[if_neg hkd]at hq;refine⟨λhm=>(hk k q hq).1 ?_,λhn=>(hk k q hq).2 λhm=>hn (by simp[hm])⟩;rcases List.mem_append.1 hm with hm|hm
     ·exact hm
     ·rw[List.mem_singleton]at hm;exact(hkd hm.symm).elim
   ·have s1:=dA (Ps:=[ak na nn nc 3 1 (flat one (aX g.m d)),ak LW dn' LX 21 1 (flat o8 (jM g.m d))]) s trivial;have s2:=SO (i:=4+d) s1;rw[show 4+d=d+1+1+1+1 by omega]at s2;simp[List.set_cons_succ]at s2;rw[List.set_append_left _ _ (by rw[List.length_map];omega)]at s2;rw[List.map_set];exact s2
 have s0:=afi (ck s (L':=uM r gr.p x::ak da dn dc 3 1 (flat one (zK g x x.ps.length))::n7 gr g::L) (List.perm_middle (l₁:=[_,_])));have s1:=ck s0 (L':=[ak da dn dc 3 1 (flat one (zK g x x.ps.length)),n7 gr g]++(LV r gr.p x++L)) (List.perm_append_comm_assoc _ [_,_] _);exact⟨dn+1,loop dn 0 x.ps x.fe w1 (by omega) rfl I.u rfl (λk q hq=>⟨λhm=>by simp at hm,λ_=>hq⟩) s1⟩
def LY:AF:=⟨0,none,0,0,none,0,0,[],[]⟩
def as5 (n:Nat)(s:Sep F W w L):Sep F W w ((List.replicate n LY).map abX++L):=by
 induction n with
 |zero=>exact s
 |succ n ih=>
  have s1:=bG (bG ih 21 1) 3 1;exact dA s1 trivial
def ad3 {Q:Option Addr->World->Prop}(s0:Sep F W w L)(kg:n8 w gr g)
  (h:∀r w',Sep F W w' (uM r gr.p ⟨List.replicate (eL g.m.w g.m.h).toNat LY,0,0⟩::L)->Fr No w w'->Q (sZ r.p) w'):HK (sZ gr.p) w Q:=by
 apply adt;apply mN;refine jv (bt (F:=No)) kg λw1 s _=>?_;apply qX;have hm:ja g.m.w g.m.h:=⟨kg.ok.may.w,kg.ok.may.h⟩;have hc:=(gS kg.ok.may.w kg.ok.may.h);unfold ZQ adL;rw[if_pos hm,if_pos hm,wrap_i64 (by show _<=eL _ _;omega) (by show eL _ _<_;omega)];refine sY (x0:=LY) (bytes:=56) (cn:=(eL g.m.w g.m.h).toNat) dW s rfl rfl rfl rfl rfl rfl (by decide) CC rfl (λu hu=>aoa _ u hu) (by show eL _ _=_;omega) (by show eL _ _=_;omega) (Nat.le_refl _) (by omega) (by simp[maxLen];omega) λab w1 s=>?_;refine aQ s λmb w1 s=>?_;have s1:Sep No w w1 (LV ⟨mb,sZ ab,(eL g.m.w g.m.h).toNat,(eL g.m.w g.m.h).toNat⟩ gr.p ⟨List.replicate (eL g.m.w g.m.h).toNat LY,0,0⟩++[]):=by have s2:=as5 (eL g.m.w g.m.h).toNat s;have s3:=ck s2 (List.perm_append_comm);rw[List.append_nil];exact s3
 have s2:=abZ s1;exact h ⟨mb,sZ ab,(eL g.m.w g.m.h).toNat,(eL g.m.w g.m.h).toNat⟩ w1 (dQ s0 s2 (i:=0) rfl) (au s2)
end
end Go.Proofs.YtmegplnmiepfbaaGreatDoor.S
namespace Go.Proofs.YtmegplnmiepfbaaGreatDoor.S.Lr
open Go.Sx
structure kN where
 a:Int
 b:Int
 nw:Int
 od:Int
def NM (ss:List kN)(i:Nat):Int:=(ss[i]?.map (·.nw)).getD 0
def NN (ss:List kN)(i:Nat):Int:=(ss[i]?.map (·.od)).getD 0
def Ja (xs:List Nat)(n:Int):Int:=match xs with|[]=>n|x::_=>x
def CD (xs:List Nat)(p:Int):Int:=match xs with|[]=>p|x::xs=>CD xs x
def xP (ss:List kN)(p:Int)(xs:List Nat)(n:Int):Prop:=match xs with
 |[]=>True
 |x::xs=>NM ss x=p/\NN ss x=Ja xs n/\xP ss x xs n
def ad4 (xs ys:List Nat)(n:Int):Ja (xs++ys) n=Ja xs (Ja ys n):=by cases xs<;>rfl
def ad5 (xs ys:List Nat)(p:Int):CD (xs++ys) p=CD ys (CD xs p):=by
 induction xs generalizing p with
 |nil=>rfl
 |cons x xs ih=>exact ih x
def ad6 {ss:List kN}{p n:Int}{xs ys:List Nat}:xP ss p (xs++ys) n↔xP ss p xs (Ja ys n)/\xP ss (CD xs p) ys n:=by
 induction xs generalizing p with
 |nil=>simp[xP,CD]
 |cons x xs ih=>
  simp[List.cons_append,xP,ih,ad4,CD];grind
def Ia {ss ss':List kN}{p n:Int}{xs:List Nat}(h:∀x∈xs,NM ss' x=NM ss x/\NN ss' x=NN ss x)(s:xP ss p xs n):xP ss' p xs n:=by
 induction xs generalizing p with
 |nil=>trivial
 |cons x xs ih=>
  obtain⟨h1,h2,h3⟩:=s;obtain⟨e1,e2⟩:=h x (by simp);exact⟨e1.trans h1,e2.trans h2,ih (λy hy=>h y (by simp[hy])) h3⟩
def uN (ss:List kN)(i:Nat)(v:Int):List kN:=ss.modify i λs=>{s with nw:=v}
def yM (ss:List kN)(i:Nat)(v:Int):List kN:=ss.modify i λs=>{s with od:=v}
def Jb {ss:List kN}{i j:Nat}{v:Int}(h:i<ss.length):NM (uN ss i v) j=if j=i then v else NM ss j:=by unfold NM uN;grind
def NO {ss:List kN}{i j:Nat}{v:Int}:NN (uN ss i v) j=NN ss j:=by unfold NN uN;grind
def NP {ss:List kN}{i j:Nat}{v:Int}(h:i<ss.length):NN (yM ss i v) j=if j=i then v else NN ss j:=by unfold NN yM;grind
def NQ {ss:List kN}{i j:Nat}{v:Int}:NM (yM ss i v) j=NM ss j:=by unfold NM yM;grind
def aog {ss:List kN}{p n v:Int}{xs:List Nat}{y:Nat}(hy:y<ss.length)(hnd:(xs++[y]).Nodup)(s:xP ss p (xs++[y]) n):xP (yM ss y v) p (xs++[y]) v:=by rw[ad6]at s⊢;obtain⟨s1,h1,h2,_⟩:=s;rw[List.nodup_append]at hnd;refine⟨Ia (λx hx=>?_) s1,NQ.trans h1,by rw[NP hy,if_pos rfl];rfl,trivial⟩;exact⟨NQ,by rw[NP hy,if_neg (hnd.2.2 x hx y (by simp))]⟩
def afk {ss:List kN}{p n v:Int}{xs:List Nat}{y:Nat}(hy:y<ss.length)(hnd:(y::xs).Nodup)(s:xP ss p (y::xs) n):xP (uN ss y v) v (y::xs) n:=by obtain⟨h1,h2,h3⟩:=s;rw[List.nodup_cons]at hnd;refine⟨by rw[Jb hy,if_pos rfl],NO.trans h2,Ia (λx hx=>⟨?_,NO⟩) h3⟩;rw[Jb hy,if_neg (λe:x=y=>hnd.1 (by grind))]
def Xh {ss:List kN}{p n v:Int}{xs:List Nat}{y:Nat}(hy:y<ss.length)(hx:y∉xs)(s:xP ss p xs n):xP (yM ss y v) p xs n/\xP (uN ss y v) p xs n:=
 ⟨Ia (λx h=>⟨NQ,by rw[NP hy,if_neg (λe:x=y=>hx (by rw[<-e];exact h))]⟩) s,Ia (λx h=>⟨by rw[Jb hy,if_neg (λe:x=y=>hx (by rw[<-e];exact h))],NO⟩) s⟩
def aac (xs:List Nat)(y:Nat)(p:Int):CD (xs++[y]) p=y:=by rw[ad5];rfl
abbrev KS:=List ((Int×Int)×Nat)
def Xi (l:KS)(key:Int×Int):Int:=match l.find? (λp=>decide (p.1=key))with|some p=>p.2|none=>-1
def kO (k:Int)(l:KS)(key:Int×Int):(Int×Bool×Bool)×KS:=match l.find? (λp=>decide (p.1=key))with
 |some p=>((p.2,true,false),(key,p.2)::l.filter (λq=>!decide (q.1=key)))
 |none=>if(l.length:Int)<k then((l.length,false,false),(key,l.length)::l)else match l.getLast? with
  |some p=>((p.2,false,true),(key,p.2)::l.dropLast)
  |none=>((-1,false,true),l)
structure Good (k:Int) (l:KS):Prop where
 room:(l.length:Int)<=k
 nd:(l.map (·.2)).Nodup
 lt:∀p∈l,p.2<l.length
 FM:(l.map (·.1)).Nodup
def LZ {k:Int}(h:0<=k):Good k []:=⟨h,.nil,by simp,.nil⟩
def SR {l:KS}(h:(l.map (·.1)).Nodup){p q:(Int×Int)×Nat}(hp:p∈l)(hq:q∈l)(e:p.1=q.1):p=q:=by
 induction l with
 |nil=>cases hp
 |cons x l ih=>
  grind
def NR {l:KS}{key:Int×Int}{p:(Int×Int)×Nat}(h:l.find? (λp=>decide (p.1=key))=some p):p.1=key/\p∈l:=by grind
def afl {l:KS}{key:Int×Int}(h:l.find? (λp=>decide (p.1=key))=none):∀p∈l,p.1≠key:=λp hp e=>by grind
def YE {l:KS}(hnd:(l.map (·.1)).Nodup){p:(Int×Int)×Nat}(hp:p∈l):l.find? (λq=>decide (q.1=p.1))=some p:=by
 cases h:l.find? (λq=>decide (q.1=p.1))with
 |none=>grind
 |some q=>
  obtain⟨h1,h2⟩:=NR h;rw[SR hnd h2 hp h1]
def aad {l:KS}(hnd:(l.map (·.1)).Nodup){p:(Int×Int)×Nat}(hp:p∈l):∃pre post,l=pre++p::post/\l.filter (λq=>!decide (q.1=p.1))=pre++post:=by
 obtain⟨pre,post,rfl⟩:=List.append_of_mem hp;refine⟨pre,post,rfl,?_⟩;rw[List.map_append,List.map_cons,List.nodup_append,List.nodup_cons]at hnd;rw[List.filter_append,List.filter_cons_of_neg (by simp),List.filter_eq_self.2,List.filter_eq_self.2]
 ·grind
 ·intro q hq;have:q.1≠p.1:=λe=>hnd.2.2 q.1 (List.mem_map.2 ⟨q,hq,rfl⟩) p.1 (by simp) e;simp[this]
def Xj {l:KS}(hnd:(l.map (·.1)).Nodup){p:(Int×Int)×Nat}(hp:p∈l)(k:Int×Int)(n:Nat):((k,n)::l.filter (λq=>!decide (q.1=p.1))).length=l.length:=by obtain⟨pre,post,e1,e2⟩:=aad hnd hp;grind
def aae {k:Int}{l:KS}{key:Int×Int}(hk:1<=k)(h:Good k l):Good k (kO k l key).2:=by
 unfold kO;cases hf:l.find? (λp=>decide (p.1=key))with
 |some p=>
  obtain⟨rfl,hp⟩:=NR hf;obtain⟨pre,post,e1,e2⟩:=aad h.FM hp;rw[e2];have OV:List.Perm ((p.1,p.2)::(pre++post)) l:=by grind
  have hlen:=OV.length_eq;exact⟨by rw[hlen];exact h.room,(OV.map (·.2)).nodup_iff.2 h.nd,λq hq=>by rw[hlen];exact h.lt q (OV.mem_iff.1 hq),(OV.map (·.1)).nodup_iff.2 h.FM⟩
 |none=>
  have hn:=afl hf;by_cases hroom:(l.length:Int)<k
  ·rw[if_pos hroom];refine⟨by grind,?_,λq hq=>?_,?_⟩
   ·simp only[List.map_cons,List.nodup_cons];refine⟨λhm=>?_,h.nd⟩;obtain⟨q,hq,e⟩:=List.mem_map.1 hm;have:=h.lt q hq;omega
   ·simp[List.length_cons];rcases List.mem_cons.1 hq with rfl|hq
    ·simp
    ·have:=h.lt q hq;omega
   ·simp[List.map_cons,List.nodup_cons];refine⟨λhm=>?_,h.FM⟩;grind
  ·rw[if_neg hroom];cases hl:l.getLast? with
   |none=>exact h
   |some p=>
    obtain⟨ys,rfl⟩:=List.getLast?_eq_some_iff.1 hl;rw[List.dropLast_concat];have e1:(ys++[p]).length=((key,p.2)::ys).length:=by simp
    have OV:List.Perm (((key,p.2)::ys).map (·.2)) ((ys++[p]).map (·.2)):=by rw[List.map_cons,List.map_append];exact(List.perm_append_singleton _ _).symm
    refine⟨by rw[<-e1];exact h.room,OV.nodup_iff.2 h.nd,λq hq=>?_,?_⟩
    ·rw[<-e1];rcases List.mem_cons.1 hq with rfl|hq
     ·exact h.lt p (by simp)
     ·exact h.lt q (by simp[hq])
    ·simp only[List.map_cons,List.nodup_cons];have:=h.FM;rw[List.map_append,List.nodup_append]at this;refine⟨λhm=>?_,this.1⟩;obtain⟨q,hq,e⟩:=List.mem_map.1 hm;exact hn q (by simp[hq]) e
def dW:wZ P T:=EK P rows HI
def awm:zc T 253=[ae 0,ae 0]:=rfl
attribute [local irreducible] af cv bz bg aA cw bZ St Bx Al App cH cy cD bU aM bF aq bS av ak aW mapA
def uO (s:kN):List Value:=[ae s.a,ae s.b,ae s.nw,ae s.od]
def lA (s:kN):(uO s).length=4:=rfl
def aoh (v:kN)(u:Value)(h:u∈uO v):u.oneCell'=true:=by simp[uO,List.mem_cons,List.not_mem_nil,or_false]at h;rcases h with rfl|rfl|rfl|rfl<;>rfl
def ais {ss:List kN}{i:Nat}{x:kN}{v:Int}(h:ss[i]? =some x):ss.set i {x with nw:=v}=uN ss i v:=by apply List.ext_getElem?;intro j;unfold uN;grind
def aoi {ss:List kN}{i:Nat}{x:kN}{v:Int}(h:ss[i]? =some x):ss.set i {x with od:=v}=yM ss i v:=by apply List.ext_getElem?;intro j;unfold yM;grind
def BD (ss ss':List kN):Prop:=ss'.length=ss.length/\∀i:Nat,(ss'[i]?.map λs=>(s.a,s.b))=ss[i]?.map λs=>(s.a,s.b)
def BD.refl {ss:List kN}:BD ss ss:=⟨rfl,λ_=>rfl⟩
def BD.trans {a b c:List kN}(h:BD a b)(k:BD b c):BD a c:=⟨k.1.trans h.1,λi=>(k.2 i).trans (h.2 i)⟩
def IA {ss:List kN}{i:Nat}{v:Int}:BD ss (uN ss i v):=by refine⟨by simp[uN],λj=>?_⟩;unfold uN;grind
def YF {ss:List kN}{i:Nat}{v:Int}:BD ss (yM ss i v):=by refine⟨by simp[yM],λj=>?_⟩;unfold yM;grind
def Q5 {ss:List kN}{i:Nat}(h:i<ss.length):∃s,ss[i]? =some s/\s.nw=NM ss i/\s.od=NN ss i:=by
 refine⟨ss[i],List.getElem?_eq_getElem h,?_,?_⟩
 ·simp[NM,h]
 ·simp[NN,h]
section
variable {F:Nat->Prop}{W w:World}{L:List As}{p:Nat}{sa:Option Addr}{sn sc:Nat}{ss:List kN}{kv mv:Value}{nw od:Int}{Q:World->Prop}
def afm {sb:Nat}{x a b:Int}{pre post:List Nat}{y:Nat}(hs:∀i∈pre++y::post,i<sn)(hnd:(pre++y::post).Nodup)(h1:xP ss (-1) pre (Ja post (-1)))(h2:xP ss y post (-1))
  (L0:od=CD (pre++y::post) (-1))
  (s:Sep F W w (av sb 334 [ae a,ae b,ae (CD pre (-1)),ae (Ja post (-1))]::av p 182 [kv,.slice sa sn sc,mv,ae nw,ae od]::ak sa sn sc 334 4 (flat uO ss)::L))
  (h:∀ss' w',BD ss ss'->xP ss' (-1) (pre++post) (-1)->Sep F W w' (av p 182 [kv,.slice sa sn sc,mv,ae nw,ae (CD (pre++post) (-1))]::ak sa sn sc 334 4 (flat uO ss')::L)->Q w'):
  xC Q (sZ p) (aZ sb) w:=by
 have hl:=rG s (i:=2) rfl;rw[iV lA]at hl;rw[ad5]at L0;cases post with
 |nil=>
  apply lI s 0 rfl;apply lI s 0 rfl;apply ah;refine ax s (i:=1) rfl rfl rfl λw s=>?_;refine h ss _ BD.refl ?_ ?_
  ·rw[List.append_nil];exact h1
  ·rw[List.append_nil];exact ai s
 |cons z post=>
  have hz:=hs z (by simp);apply lI s 0 rfl;rw[show((Ja (z::post) (-1):Int)==-1)=false by rw[beq_eq_false_iff_ne];show(z:Int)≠-1;omega,cond_false];apply ah;have s:=ay s;apply lS s 1 rfl;apply lI s 0 rfl;apply lI s 0 rfl;obtain⟨x,hx,Ni,KY⟩:=Q5 (ss:=ss) (i:=z) (by omega);refine CR s (i:=2) rfl rfl hz λg o e=>?_;subst e;refine dX (i:=2) (x':={x with nw:=CD pre (-1)}) lA s rfl hx (eo _ _ _ _ _) (by decide) rfl rfl λw s=>?_;rw[ais hx]at s;refine h (uN ss z (CD pre (-1))) _ IA ?_ ?_
  ·rw[ad6];have Hu:=(List.nodup_append.1 hnd).2.1;rw[List.nodup_cons]at Hu;refine⟨(Xh (by omega) (λhm=>?_) h1).2,afk (by omega) Hu.2 h2⟩;grind
  ·rw[ad5];have:od=CD (z::post) (CD pre (-1)):=L0;rw[<-this];exact ai s
def Wq {pre post:List Nat}{y:Nat}(hs:∀i∈pre++y::post,i<sn)(hnd:(pre++y::post).Nodup)(JR:xP ss (-1) (pre++y::post) (-1))(TC:nw=Ja (pre++y::post) (-1))(L0:od=CD (pre++y::post) (-1))
  (s:Sep F W w (av p 182 [kv,.slice sa sn sc,mv,ae nw,ae od]::ak sa sn sc 334 4 (flat uO ss)::L))
  (h:∀ss' w',BD ss ss'->xP ss' (-1) (pre++post) (-1)->Sep F W w' (av p 182 [kv,.slice sa sn sc,mv,ae (Ja (pre++post) (-1)),ae (CD (pre++post) (-1))]::ak sa sn sc 334 4 (flat uO ss')::L)->Q w'):
  uz (sZ p) y w Q:=by
 apply Sm;have hl:=rG s (i:=1) rfl;rw[iV lA]at hl;have hy:=hs y (by simp);obtain⟨x,hx,Ni,KY⟩:=Q5 (ss:=ss) (i:=y) (by omega);rw[ad6]at JR;obtain⟨h1,h2,h3,h4⟩:=JR;have h1:=h1;rw[h2]at Ni;rw[h3]at KY;apply ah;apply lS s 0 rfl;refine CR s (i:=1) rfl rfl hy λg o e=>?_;subst e;apply eK (i:=1) lA s rfl hx (eo _ _ _ _ _) rfl;apply eK (i:=1) lA s rfl hx (eo _ _ _ _ _) rfl;apply eK (i:=1) lA s rfl hx (eo _ _ _ _ _) rfl;apply eK (i:=1) lA s rfl hx (eo _ _ _ _ _) rfl;rw[Ni,KY];refine aV s λsb w s=>?_;refine sT s 0 rfl λw s=>?_;refine sT s 0 rfl λw s=>?_;refine sT s 0 rfl λw s=>?_;refine ax s (i:=0) rfl rfl rfl λw s=>?_;apply lI s 0 rfl;rcases List.eq_nil_or_concat pre with rfl|⟨pre',u,rfl⟩
 ·apply lI s 0 rfl;apply ah;refine ax s (i:=1) rfl rfl rfl λw s=>?_;exact afm (x:=0) hs hnd trivial h4 L0 s λss' w' k1 k2 s=>h ss' w' k1 k2 s
 ·simp only[List.concat_eq_append]at*;have hu:=hs u (by simp);rw[aac]at s⊢;rw[show((u:Int)==-1)=false by rw[beq_eq_false_iff_ne];omega,cond_false];apply ah;have s:=ay s;apply lS s 1 rfl;apply lI s 0 rfl;apply lI s 0 rfl;obtain⟨z,hz,hz1,hz2⟩:=Q5 (ss:=ss) (i:=u) (by omega);refine CR s (i:=2) rfl rfl hu λg' o' e=>?_;cases e;refine dX (i:=2) (x':={z with od:=Ja post (-1)}) lA s rfl hz (eo _ _ _ _ _) (by decide) rfl rfl λw s=>?_;rw[aoi hz]at s;have ayl:=(List.nodup_append.1 hnd).1;have ait:=(List.nodup_append.1 hnd).2;refine afm (x:=0) hs hnd (aog (by omega) ayl h1) ((Xh (by omega) (λhm=>ait.2 u (by simp) u (by simp[hm]) rfl) h4).1) L0 (by rw[aac];exact s) λss' w' k1 k2 s=>h ss' w' (YF.trans k1) k2 ?_;have e:Ja (pre'++[u]++post) (-1)=nw:=by rw[TC,ad4,ad4 (pre'++[u])];cases pre'<;>rfl
  rw[e];exact s
def akL {y:Nat}(s:Sep F W w (av p 182 [kv,.slice sa sn sc,mv,ae nw,ae od]::ak sa sn sc 334 4 (flat uO ss)::L))
  (h:∀w',Sep F W w' (av p 182 [kv,.slice sa sn sc,mv,ae y,ae od]::ak sa sn sc 334 4 (flat uO ss)::L)->Q w'):Ax Q (sZ p) y w:=by
 apply ah;refine sT s 0 rfl λw s=>?_;grind
def alN {xs:List Nat}{y:Nat}(hy:y<sn)(hs:∀i∈xs,i<sn)(hnd:(y::xs).Nodup)(JR:xP ss (-1) xs (-1))(TC:nw=Ja xs (-1))(L0:od=CD xs (-1))
  (s:Sep F W w (av p 182 [kv,.slice sa sn sc,mv,ae nw,ae od]::ak sa sn sc 334 4 (flat uO ss)::L))
  (h:∀ss' w',BD ss ss'->xP ss' (-1) (y::xs) (-1)->Sep F W w' (av p 182 [kv,.slice sa sn sc,mv,ae (Ja (y::xs) (-1)),ae (CD (y::xs) (-1))]::ak sa sn sc 334 4 (flat uO ss')::L)->Q w'):
  xq (sZ p) y w Q:=by
 apply VR;have hl:=rG s (i:=1) rfl;rw[iV lA]at hl;obtain⟨x,hx,Ni,KY⟩:=Q5 (ss:=ss) (i:=y) (by omega);rw[List.nodup_cons]at hnd;have s:=ay s;apply ah;apply lS s 0 rfl;apply ah;apply lS s 0 rfl;apply ah;apply lI s 0 rfl;refine CR s (i:=1) rfl rfl hy λg o e=>?_;subst e;refine dX (i:=1) (x':={x with nw:=-1}) lA s rfl hx (eo _ _ _ _ _) (by decide) rfl rfl λw s=>?_;refine⟨by omega,by omega,ah ?_⟩;have hx':(ss.set y {x with nw:=-1})[y]? =some {x with nw:=-1}:=List.getElem?_set_self (by omega);refine dX (i:=1) (x':={x with nw:=-1,od:=nw}) lA s rfl hx' (eo _ _ _ _ _) (by decide) rfl rfl λw s=>?_;rw[ais hx]at hx' s;rw[show({x with nw:=-1,od:=nw}:kN)={({x with nw:=-1}:kN)with od:=nw}from rfl,aoi hx']at s;have hl2:(uN ss y (-1)).length=ss.length:=IA.1;have auZ:xP (yM (uN ss y (-1)) y nw) (-1) xs (-1):=(Xh (by omega) hnd.1 (Xh (by omega) hnd.1 JR).2).1;have n2:NM (yM (uN ss y (-1)) y nw) y=-1:=by rw[NQ,Jb (by omega),if_pos rfl]
 have o2:NN (yM (uN ss y (-1)) y nw) y=nw:=by rw[NP (by omega),if_pos rfl]
 have k2:BD ss (yM (uN ss y (-1)) y nw):=IA.trans YF;generalize yM (uN ss y (-1)) y nw=ss2 at s auZ n2 o2 k2;have hl3:=k2.1;apply ah;apply lI s 0 rfl;cases xs with
 |nil=>
  have e:nw=-1:=TC;subst e;rw[show((-1:Int)==-1)=true from rfl,cond_true];apply ah;refine ax s (i:=0) rfl rfl rfl λw s=>?_;refine akL s λw s=>h _ _ k2 ⟨n2,o2,trivial⟩ s
 |cons z xs=>
  have e:nw=(z:Int):=TC;subst e;have hz:=hs z (by simp);rw[show((z:Int)==-1)=false by rw[beq_eq_false_iff_ne];omega,cond_false];have s:=ay s;apply ah;apply lS s 0 rfl;apply ah;apply lI s 0 rfl;obtain⟨u,hu,_,_⟩:=Q5 (ss:=ss2) (i:=z) (by omega);refine⟨by omega,by omega,ah ?_⟩;refine dX (i:=1) (x':={u with nw:=(y:Int)}) lA s rfl hu (eo _ _ _ _ _) (by decide) rfl rfl λw s=>?_;rw[ais hu]at s;have hne:y≠z:=λe=>hnd.1 (by simp[e]);refine akL s λw s=>h (uN ss2 z (y:Int)) _ (k2.trans IA) ⟨?_,?_,?_⟩ ?_
  ·rw[Jb (by omega),if_neg hne];exact n2
  ·rw[NO];exact o2
  ·exact afk (by omega) hnd.2 auZ
  ·have e2:CD (y::z::xs) (-1)=od:=by rw[L0];rfl
   rw[e2];exact s
end
end Go.Proofs.YtmegplnmiepfbaaGreatDoor.S.Lr
namespace Go.Proofs.YtmegplnmiepfbaaGreatDoor.S.Lr
open Go.Sx
open Go.Maps (Keyed)
open Go.WideMaps (ArrKey keyOf_pair)
def aoj:ArrKey P 253 3 2:=⟨by kernel_rfl,by kernel_rfl,by kernel_rfl,by kernel_rfl⟩
def kp:Keyed P 253:=Keyed.of_law aoj.law
def aqw:P.underlying 180=some (.map 253 3):=by kernel_rfl
set_option maxRecDepth 100000 in
theorem arV (w:World):(zeroValue 3).run P w=.ok (ae 0) w:=rfl
def aqx:∃m,P.types.size=m+1:=⟨P.types.size-1,by have h:0<P.types.size:=of_decide_eq_true (by kernel_rfl);omega⟩
def YG (k:Int×Int):Prop:=(Lit.int .i64 k.1).wf=true/\(Lit.int .i64 k.2).wf=true
def aaf (k:Int×Int):Value:=.agg #[ae k.1,ae k.2]
def L4 {a b:Int×Int}(h:aaf a=aaf b):a=b:=by obtain⟨a1,a2⟩:=a;simp[aaf]at h;rw[h.1,h.2]
def Xk {k:Int×Int}(h:YG k):∃l,keyOf P 253 (aaf k)=some l:=⟨_,keyOf_pair aoj (by kernel_rfl) aqx h.1 h.2⟩
attribute [local irreducible] af cv bz bg aA cw bZ St Bx Al App cH cy cD bU aM bF aq bS av ak aW mapA
def TE (p:(Int×Int)×Nat):Value×Value:=(aaf p.1,ae p.2)
structure ad7 where
 sa:Option Addr
 sn:Nat
 sc:Nat
 mb:Nat
 ss:List kN
 m:List (Value×Value)
 nw:Int
 od:Int
structure alO (k:Int) (l:KS) (r:ad7):Prop where
 hk:1<=k
 good:Good k l
 sn:r.sn=l.length
 nw:r.nw=Ja (l.map (·.2)) (-1)
 od:r.od=CD (l.map (·.2)) (-1)
 seg:xP r.ss (-1) (l.map (·.2)) (-1)
 key:∀p∈l,r.ss[p.2]?.map (λs=>(s.a,s.b))=some p.1
 perm:r.m.Perm (l.map TE)
 wf:∀p∈l,YG p.1
noncomputable def agO (p:Nat)(k:Int)(r:ad7):List As:=[av p 182 [ae k,.slice r.sa r.sn r.sc,.map (some r.mb),ae r.nw,ae r.od],ak r.sa r.sn r.sc 334 4 (flat uO r.ss),mapA P 253 r.mb r.m]
noncomputable def Ib (p:Nat)(k:Int)(l:KS)(r:ad7):As:=aW (alO k l r) (agO p k r)
section
variable {F:Nat->Prop}{W w:World}{L:List As}{p:Nat}{k:Int}{l:KS}{r:ad7}
def aiu (s:Sep F W w (Ib p k l r::L)):alO k l r/\Sep F W w (agO p k r++L):=gR s
def afn (s:Sep F W w (agO p k r++L))(h:alO k l r):Sep F W w (Ib p k l r::L):=dA s h
def YH {Q:World->Prop}{v1 v2 v3 v4:Value}(hk:1<=k)(s:Sep F W w (av p 182 [ae k,v1,v2,v3,v4]::L))(h:∀r w',Sep F W w' (Ib p k [] r::L)->Q w'):vQ (sZ p) w Q:=by apply Uf;refine ahr s P 253 180 λmb w s=>?_;apply ah;refine sT s 1 rfl λw s=>?_;apply ah;refine sT s 1 rfl λw s=>?_;apply ah;refine sT s 1 rfl λw s=>?_;apply ah;refine ax s (i:=1) rfl rfl rfl λw s=>?_;have s:=ck (bG s 334 4) (List.Perm.trans (List.Perm.cons _ (List.Perm.swap ..)) (List.Perm.trans (List.Perm.swap ..) (List.Perm.refl _)));exact h ⟨none,0,0,mb,[],[],-1,-1⟩ w (afn s ⟨hk,LZ (by omega),rfl,rfl,rfl,trivial,(λp hp=>by cases hp),List.Perm.nil,(λp hp=>by cases hp)⟩)
def aok {Q:Option Addr->World->Prop}(s:Sep F W w L)(hno:k<1->Q none w)(h:1<=k->∀p r w',Sep F W w' (Ib p k [] r::L)->Q (sZ p) w'):Jt k w Q:=by
 apply af6;by_cases hk:k<1
 ·grind
 ·rw[bh hk];refine aQ s λp w s=>?_;exact YH (by omega) s λr w s=>h (by omega) p r w s
def look {K:Value->World->Prop}{key:Int×Int}(s:Sep F W w (agO p k r++L))(hI:alO k l r)(hkey:YG key)(h0:l.find? (λp=>decide (p.1=key))=none->K (.tuple #[ae 0,.bool false]) w)
  (h1:∀q,l.find? (λp=>decide (p.1=key))=some q->K (.tuple #[ae q.2,.bool true]) w):aM P (Instr.lookup 180 (.map (some r.mb)) (.agg #[ae key.1,ae key.2]) true) w K:=by
 refine aeW kp aqw (arV w) s (i:=2) rfl (Xk hkey) (λh=>?_) (λj v hj=>?_)
 ·refine h0 (List.find?_eq_none.2 λq hq=>?_);have:=h (TE q) (hI.perm.mem_iff.2 (List.mem_map.2 ⟨q,hq,rfl⟩));simp[decide_eq_true_eq];exact λe=>this (by rw[<-e];rfl)
 ·have hm:=hI.perm.mem_iff.1 (List.mem_of_getElem? hj);obtain⟨q,hq,e⟩:=List.mem_map.1 hm;have e1:=congrArg Prod.fst e;have e2:=congrArg Prod.snd e;have e1:=L4 e1;subst e1 e2;exact h1 q (YE hI.good.FM hq)
def aqy (k:Int×Int):List Value:=[ae k.1,ae k.2]
end
end Go.Proofs.YtmegplnmiepfbaaGreatDoor.S.Lr
namespace Go.Proofs.YtmegplnmiepfbaaGreatDoor.S.Lr
open Go.Sx
open Go.Maps (Keyed)
attribute [local irreducible] af cv bz bg aA cw bZ St Bx Al App cH cy cD bU aM bF aq bS av ak aW mapA
def SS {ss ss':List kN}(h:BD ss ss'){l:KS}(hk:∀p∈l,ss[p.2]?.map (λs=>(s.a,s.b))=some p.1):∀p∈l,ss'[p.2]?.map (λs=>(s.a,s.b))=some p.1:=λp hp=>(h.2 p.2).trans (hk p hp)
def aqz {ss:List kN}{x:kN}{p n:Int}{xs:List Nat}(h:∀i∈xs,i<ss.length)(s:xP ss p xs n):xP (ss++[x]) p xs n:=by refine Ia (λi hi=>?_) s;have:=h i hi;simp[NM,NN,List.getElem?_append_left this]
def as6 {ss:List kN}{i:Nat}{x:kN}{a b:Int}{p n:Int}{xs:List Nat}(hx:ss[i]? =some x)(s:xP ss p xs n):xP (ss.set i {x with a:=a,b:=b}) p xs n:=by refine Ia (λj hj=>?_) s;unfold NM NN;grind
def as7 {m:List (Value×Value)}{ys:KS}{q:(Int×Int)×Nat}{j:Nat}{v:Value}(hm:m.Perm ((ys++[q]).map TE))(hj:m[j]? =some (aaf q.1,v))(hnd:((ys++[q]).map (·.1)).Nodup):(m.eraseIdx j).Perm (ys.map TE):=by
 have hmem:=hm.mem_iff.1 (List.mem_of_getElem? hj);obtain⟨q',KR,e⟩:=List.mem_map.1 hmem;have e1:=L4 (congrArg Prod.fst e);have e2:=SR hnd KR (by simp) e1;subst e2;obtain⟨hjl,hje⟩:=List.getElem?_eq_some_iff.1 hj;have h1:m.Perm (TE q'::m.eraseIdx j):=by
  rw[e,<-hje];have e3:m=m.take j++m[j]::m.drop (j+1):=by rw[List.getElem_cons_drop,List.take_append_drop]
  rw[List.eraseIdx_eq_take_drop_succ];exact(List.Perm.of_eq e3).trans List.perm_middle
 rw[List.map_append,List.map_singleton]at hm;exact List.Perm.cons_inv (h1.symm.trans (hm.trans (List.perm_append_singleton _ _)))
section
variable {F:Nat->Prop}{W w:World}{L:List As}{p:Nat}{k:Int}{l:KS}
def ad8 {Q:Int->Bool->Bool->World->Prop}{kb:Nat}{key:Int×Int}{slot:Nat}{had out:Bool}{rest:KS}{sa:Option Addr}{sn sc mb:Nat}{ss:List kN}{m:List (Value×Value)}{nw od:Int}
  (hk:1<=k)(hg:Good k ((key,slot)::rest))(LN:sn=rest.length+1)(JR:xP ss (-1) (rest.map (·.2)) (-1))(TC:nw=Ja (rest.map (·.2)) (-1))(L0:od=CD (rest.map (·.2)) (-1))
  (hkeys:∀q∈(key,slot)::rest,ss[q.2]?.map (λs=>(s.a,s.b))=some q.1)(hm:m.Perm (((key,slot)::rest).map TE)\/m.Perm (rest.map TE))(hwf:∀q∈(key,slot)::rest,YG q.1)
  (s:Sep F W w (av kb 253 (aqy key)::av p 182 [ae k,.slice sa sn sc,.map (some mb),ae nw,ae od]::ak sa sn sc 334 4 (flat uO ss)::mapA P 253 mb m::L))
  (h:∀r' w',Sep F W w' (Ib p k ((key,slot)::rest) r'::L)->Q slot had out w'):ot Q (sZ p) slot had out (aZ kb) w:=by
 have s:=ay s;apply ah;apply lM s 1 rfl;apply lI s 0 rfl;apply lI s 0 rfl;have hlen:((key,slot)::rest).length=sn:=by rw[LN];rfl
 have fin:∀(m':List (Value×Value)) (w:World),m'.Perm (((key,slot)::rest).map TE)->Sep F W w (av kb 253 (aqy key)::av p 182 [ae k,.slice sa sn sc,.map (some mb),ae nw,ae od]::ak sa sn sc 334 4 (flat uO ss)::mapA P 253 mb m'::L)->
   xq (sZ p) slot w λaym=>Q slot had out aym:=by
  intro m' w hm' s;have hnd:=hg.nd;refine alN (by have:=hg.lt (key,slot) (by simp);omega) (λi hi=>?_) hnd JR TC L0 (ai s) λss' w hK hS s=>?_
  ·obtain⟨q,hq,rfl⟩:=List.mem_map.1 hi;have:=hg.lt q (by simp[hq]);omega
  ·exact h ⟨sa,sn,sc,mb,ss',m',_,_⟩ w (afn s ⟨hk,hg,hlen.symm,rfl,rfl,hS,SS hK hkeys,hm',hwf⟩)
 refine Ys kp aqw s (i:=3) rfl (Xk (hwf (key,slot) (by simp))) (λhabs w s=>?_) (λj v0 hj w s=>?_)
 ·rcases hm with hm|hm
  ·exact(habs (TE (key,slot)) (hm.mem_iff.2 (by simp)) rfl).elim
  ·refine fin _ w ?_ s;exact(List.perm_append_singleton _ _).trans (List.Perm.cons _ hm)
 ·rcases hm with hm|hm
  ·have hmem:=hm.mem_iff.1 (List.mem_of_getElem? hj);obtain⟨q,hq,e⟩:=List.mem_map.1 hmem;have e1:=L4 (congrArg Prod.fst e);have e2:=SR hg.FM hq (q:=(key,slot)) (by simp) e1;subst e2;have e3:m.set j (.agg #[ae key.1,ae key.2],ae slot)=m:=by
    have:m[j]? =some (.agg #[ae key.1,ae key.2],ae slot):=by rw[hj,<-e];rfl
    exact rS this
   grind
  ·have hmem:=hm.mem_iff.1 (List.mem_of_getElem? hj);obtain⟨q,hq,e⟩:=List.mem_map.1 hmem;have e1:=L4 (congrArg Prod.fst e);have:=hg.FM;simp only[List.map_cons,List.nodup_cons]at this;exact(this.1 (List.mem_map.2 ⟨q,hq,e1⟩)).elim
attribute [local irreducible] ot in
theorem aol {r:ad7}{key:Int×Int}{Q:Int->Bool->Bool->World->Prop}(s:Sep F W w (Ib p k l r::L))(hkey:YG key)(NL:l.length<=1000000)
  (h:∀r' w',Sep F W w' (Ib p k (kO k l key).2 r'::L)->Q (kO k l key).1.1 (kO k l key).1.2.1 (kO k l key).1.2.2 w'):DJ (sZ p) key.1 key.2 w Q:=by
 apply X2;obtain⟨hI,s⟩:=aiu s;have uP:=aae (key:=key) hI.hk hI.good;have hwf':∀q∈(kO k l key).2,YG q.1:=by
  intro q hq;unfold kO at hq;cases hf:l.find? (λp=>decide (p.1=key))with
  |some q0=>
   rw[hf]at hq;rcases List.mem_cons.1 hq with rfl|hq
   ·exact hkey
   ·exact hI.wf q (List.mem_filter.1 hq).1
  |none=>
   rw[hf]at hq;simp only at hq;split at hq
   ·rcases List.mem_cons.1 hq with rfl|hq
    ·exact hkey
    ·exact hI.wf q hq
   ·split at hq
    ·rcases List.mem_cons.1 hq with rfl|hq
     ·exact hkey
     ·exact hI.wf q (List.dropLast_subset l hq)
    ·exact hI.wf q hq
 unfold kO at h uP hwf';have BR:=rG s (i:=1) rfl;rw[iV lA]at BR;have LN:=hI.sn;have ad9:∀i∈l.map (·.2),i<r.sn:=λi hi=>by obtain⟨q,hq,rfl⟩:=List.mem_map.1 hi;have:=hI.good.lt q hq;omega
 refine aV s λkb w s=>?_;refine sT s 0 rfl λw s=>?_;refine ax s (i:=0) rfl rfl rfl λw s=>?_;have s:=s;have s:=ay s;apply ah;apply lM s 1 rfl;apply lI s 0 rfl;apply lI s 0 rfl;have s':=ck s (List.perm_middle).symm;refine look s' hI hkey (λhf=>?_) (λq hf=>?_)
 ·simp only[dT,dH,dI,dB,kT,cond_false,cond_true,if_pos,show Nat.beq (IG .i64) (IG .i64)=true from rfl];rw[hf]at h uP hwf';have s:=ay s;apply ah;apply lS s 1 rfl;apply ah;apply lI s 1 rfl;by_cases hroom:(l.length:Int)<k
  ·rw[if_pos hroom]at h uP hwf';rw[bN];apply ah;apply lS s 1 rfl;have s:=ay s;apply ah;apply lS s 1 rfl;apply lI s 0 rfl;apply lI s 0 rfl;refine aQ s λzb w s=>?_;refine⟨cq s 2 rfl,?_⟩;have src:Src w (sZ zb) 1 4 (uO ⟨key.1,key.2,0,0⟩):=⟨rfl,aoh _,λj u hj=>by rw[cu,Nat.zero_add];exact cR s (i:=0) rfl rfl hj⟩;refine iw dW s (i:=3) (bytes:=32) rfl rfl rfl rfl rfl rfl (by decide) rfl src (by simp[maxLen];omega) (by omega) (λe=>by cases e) λa1 c1 w s=>?_;have e:flat uO r.ss++uO ⟨key.1,key.2,0,0⟩=flat uO (r.ss++[⟨key.1,key.2,0,0⟩]):=by rw[gd];simp[flat]
   rw[e]at s;apply ah;refine ax s (i:=2) rfl rfl rfl λw s=>?_;rw[LN]at s⊢;have s:=ai s;refine ad8 hI.hk uP rfl (aqz (λi hi=>by have:=ad9 i hi;omega) hI.seg) hI.nw hI.od (λq hq=>?_) (.inr hI.perm) hwf' s h;rcases List.mem_cons.1 hq with rfl|hq
   ·rw[List.getElem?_append_right (by omega),show l.length-r.ss.length=0 by omega];rfl
   ·have:=hI.good.lt q hq;rw[List.getElem?_append_left (by omega)];exact hI.key q hq
  ·rw[if_neg hroom]at h uP hwf';rw[bh];have hne:l≠[]:=λe=>by rw[e]at hroom;have:=hI.hk;simp at hroom;omega
   have sx:=s;obtain⟨ys,q,rfl⟩:∃ys q,l=ys++[q]:=⟨l.dropLast,l.getLast hne,(List.dropLast_concat_getLast hne).symm⟩;have s:=sx;rw[List.getLast?_concat,List.dropLast_concat]at h uP hwf';have ayo:r.od=(q.2:Int):=by rw[hI.od,List.map_append];exact aac _ _ _
   apply ah;apply lI s 1 rfl;rw[ayo];have s:=ck s (List.Perm.trans (List.Perm.swap ..) (List.Perm.cons _ (List.Perm.swap ..)));have hnd:=hI.good.nd;have JR:=hI.seg;have TC:=hI.nw;have L0:=hI.od;rw[List.map_append,List.map_singleton]at hnd JR TC L0 ad9;refine Wq ad9 hnd JR TC L0 s λss' w hK hS s=>?_;rw[List.append_nil]at s hS;have hl':ss'.length=r.ss.length:=hK.1;have hkeys:=SS hK hI.key;have s:=ay s;apply ah;apply lM s 0 rfl;apply ah;apply lS s 0 rfl;have au1:=ad9 q.2 (by simp);have hkq:=hkeys q (by simp);have hqw:=hI.wf q (by simp);refine(aK s (i:=1) rfl lA (by decide)).El rfl au1 λpp x hx hc=>?_;rw[hx]at hkq;have hxa:x.a=q.1.1:=congrArg Prod.fst (Option.some.inj hkq);have hxb:x.b=q.1.2:=congrArg Prod.snd (Option.some.inj hkq);apply aO (hc 0 _ rfl);apply aO (hc 1 _ rfl);rw[hxa,hxb];have go:∀(m':List (Value×Value)) (w:World),m'.Perm (ys.map TE)->Sep F W w (av p 182 [ae k,.slice r.sa r.sn r.sc,.map (some r.mb),ae (Ja (ys.map (·.2)) (-1)),ae (CD (ys.map (·.2)) (-1))]::ak r.sa r.sn r.sc 334 4 (flat uO ss')::av kb 253 (aqy key)::mapA P 253 r.mb m'::L)->
     wA (some (aZ p)) λp44=>aA (p44.add 1) w.drew λawo awp aBb=>af .i64 ((aZ kb).add 0) w.drew λawq=>af .i64 ((aZ kb).add 1) w.drew λawr=>aH (q.2:Int) awp<|wA awo λp_1=>
      St ((p_1.add ((q.2:Int).toNat*4)).add 0) (ae awq) w.drew λaws=>St ((p_1.add ((q.2:Int).toNat*4)).add 1) (ae awr) aws λawt=>ot Q (sZ p) q.2 false true (aZ kb) awt:=by
    intro m' w hm' s;have s:=ay s;apply ah;apply lS s 0 rfl;apply lI s 2 rfl;apply lI s 2 rfl;refine CR s (i:=1) rfl rfl au1 λg o e=>?_;rw[e]at s;refine dX (i:=1) (x':={x with a:=key.1}) lA s rfl hx (eo _ _ _ _ _) (by decide) rfl rfl λw s=>?_;have hx':(ss'.set q.2 {x with a:=key.1})[q.2]? =some {x with a:=key.1}:=List.getElem?_set_self (by omega);refine dX (i:=1) (x':={x with a:=key.1,b:=key.2}) lA s rfl hx' (eo _ _ _ _ _) (by decide) rfl rfl λw s=>?_;simp only[List.set_cons_zero,List.set_cons_succ]at s;rw[List.set_set,<-e]at s;have s:=ck s (List.Perm.trans (List.Perm.cons _ (List.Perm.swap ..)) (List.Perm.swap ..));have aqA:r.sn=ys.length+1:=by rw[LN];simp
    refine ad8 hI.hk uP aqA (as6 hx hS) rfl rfl (λz hz=>?_) (.inr hm') hwf' s h;rw[List.getElem?_set];rcases List.mem_cons.1 hz with rfl|hz
    ·simp only;rw[if_pos trivial,AP];rfl
    ·have hne:¬q.2=z.2:=λe=>by rw[List.nodup_append]at hnd;exact hnd.2.2 z.2 (List.mem_map.2 ⟨z,hz,rfl⟩) q.2 (by simp) e.symm
     rw[if_neg hne];exact hkeys z (by simp[hz])
   have ayp:=hI.good.FM;refine Yt kp aqw s (i:=3) rfl (Xk hqw) (λhabs w s=>?_) (λj v0 hj w s=>?_)
   ·exact(habs (TE q) (hI.perm.mem_iff.2 (List.mem_map.2 ⟨q,by simp,rfl⟩)) rfl).elim
   ·exact go _ w (as7 hI.perm hj ayp) s
 ·have sx:=s;obtain⟨rfl,hq⟩:=NR hf;have s:=sx;rw[hf]at h uP hwf';obtain⟨pre,post,e1,e2⟩:=aad hI.good.FM hq;rw[e2]at h uP hwf';have hnd:=hI.good.nd;have JR:=hI.seg;have TC:=hI.nw;have L0:=hI.od;rw[e1,List.map_append,List.map_cons]at hnd JR TC L0 ad9;have s:=ck s (List.Perm.trans (List.Perm.swap ..) (List.Perm.cons _ (List.Perm.swap ..)));refine Wq ad9 hnd JR TC L0 s λss' w hK hS s=>?_;rw[<-List.map_append]at s hS;have s:=ck s (List.Perm.trans (List.Perm.cons _ (List.Perm.swap ..)) (List.Perm.swap ..));have OV:List.Perm ((q.1,q.2)::(pre++post)) l:=by rw[e1];exact List.perm_middle.symm
  have aqA:r.sn=(pre++post).length+1:=by rw[LN,<-OV.length_eq];rfl
  refine ad8 hI.hk uP aqA hS rfl rfl (λz hz=>?_) (.inl (hI.perm.trans (OV.map TE).symm)) hwf' s h;exact SS hK hI.key z (OV.mem_iff.1 hz)
end
end Go.Proofs.YtmegplnmiepfbaaGreatDoor.S.Lr
namespace Go.Proofs.YtmegplnmiepfbaaGreatDoor.S
open Go.Sx
open Go.RowKit Go.ChangeMaps Go.MapKept
open Go.Maps (Keyed)
structure ad_ (k:TypeId) (β:Type) where
 enc:β->Value
 ok:β->Prop
 inj:∀a b,enc a=enc b->a=b
 key:∀b,ok b->∃l,keyOf P k (enc b)=some l
 keyed:Keyed P k
def au3:P.underlying 3=some (.int .i64):=by kernel_rfl
def iK (n:Int):Prop:=-9223372036854775808<=n/\n<9223372036854775808
def iK.wf {n:Int}(h:iK n):(Lit.int .i64 n).wf=true:=by unfold iK at h;simp[Lit.wf];exact⟨h.1,by omega⟩
noncomputable def fB:ad_ 3 Int:=⟨λn=>ae n,iK,λa b h=>by cases h;rfl,λb h=>⟨_,Go.Maps.keyOf_int_mk au3 h.wf⟩,Go.Maps.int_keyed au3⟩
noncomputable def Kw:ad_ 253 (Int×Int):=⟨Lr.aaf,λp=>iK p.1/\iK p.2,λa b h=>Lr.L4 h,λb h=>Lr.Xk ⟨h.1.wf,h.2.wf⟩,Lr.kp⟩
section
variable {k:TypeId}{α β:Type}{K:ad_ k β}{v:α->Value}{ms:List (β×α)}
noncomputable def fS (K:ad_ k β)(v:α->Value)(b:Nat)(ms:List (β×α)):As:=mapA P k b (ms.map λp=>(K.enc p.1,v p.2))
def oW (ms:List (β×α)):Prop:=(ms.map (·.1)).Nodup
def akM (h:oW ms){i j:Nat}{p q:β×α}(hi:ms[i]? =some p)(hj:ms[j]? =some q)(e:p.1=q.1):i=j:=by
 have h1:(ms.map (·.1))[i]? =some p.1:=by grind
 have IM:=(List.getElem?_eq_some_iff.1 h1).1;exact(List.getElem?_inj IM h).1 (by grind)
def aag {F:Nat->Prop}{W w:World}{L:List As}{Q:Option Nat->World->Prop}(s:Sep F W w L)(t:TypeId)(K:ad_ k β)(v:α->Value)(h:∀b w',Sep F W w' (fS K v b ([]:List (β×α))::L)->Q (some b) w'):cD P t none w Q:=ahr s P k t h
variable [DecidableEq β]
def fE (ms:List (β×α))(x:β):Option α:=(ms.find? λp=>decide (p.1=x)).map (·.2)
def SU {x:β}:fE ms x=none↔∀p∈ms,p.1≠x:=by unfold fE;simp_all
def L5 (h:oW ms){x:β}{a:α}:fE ms x=some a↔(x,a)∈ms:=by
 unfold fE;induction ms with
 |nil=>simp
 |cons p ms ih=>
  unfold oW at h ih;grind
def aiv (h:oW ms){x:β}{a:α}{j:Nat}(hj:ms[j]? =some (x,a)):fE ms x=some a:=(L5 h).2 (List.mem_of_getElem? hj)
def aqB (h:oW ms){x:β}{a:α}(hn:fE ms x=none):oW (ms++[(x,a)])/\∀y,fE (ms++[(x,a)]) y=if y=x then some a else fE ms y:=by
 have hx:=SU.1 hn;have hk:oW (ms++[(x,a)]):=by rw[oW,List.map_append,List.nodup_append];refine⟨h,by simp,λy hy z hz=>?_⟩;grind
 refine⟨hk,λy=>?_⟩;unfold fE;grind
def as8 (h:oW ms){x:β}{a a0:α}{j:Nat}(hj:ms[j]? =some (x,a0)):oW (ms.set j (x,a))/\∀y,fE (ms.set j (x,a)) y=if y=x then some a else fE ms y:=by
 have hk:oW (ms.set j (x,a)):=by
  rw[oW,List.map_set];have:(ms.map (·.1)).set j x=ms.map (·.1):=by apply List.ext_getElem?;grind
  rw[this];exact h
 refine⟨hk,λy=>?_⟩;apply Option.ext;intro b;rw[L5 hk];by_cases e:y=x
 ·subst e;rw[if_pos rfl];constructor
  ·intro hm;obtain⟨i,hi⟩:=List.mem_iff_getElem?.1 hm;have hj':(ms.set j (y,a))[j]? =some (y,a):=by grind
   have:=akM hk hi hj' rfl;grind
  ·intro hb;cases hb;exact List.mem_of_getElem? (i:=j) (by grind)
 ·rw[if_neg e,L5 h];constructor
  ·grind
  ·intro hm;obtain⟨i,hi⟩:=List.mem_iff_getElem?.1 hm;apply List.mem_of_getElem? (i:=i);grind
def as9 (h:oW ms){x:β}{a0:α}{j:Nat}(hj:ms[j]? =some (x,a0)):oW (ms.eraseIdx j)/\∀y,fE (ms.eraseIdx j) y=if y=x then none else fE ms y:=by
 have hsub:=List.eraseIdx_sublist ms j;have hk:=List.Nodup.sublist (hsub.map _) h;refine⟨hk,λy=>?_⟩;apply Option.ext;intro b;rw[L5 hk];by_cases e:y=x
 ·subst e;constructor
  ·intro hm;rw[List.mem_eraseIdx_iff_getElem?]at hm;obtain⟨i,hi,hi'⟩:=hm;exact(hi (akM h hi' hj rfl)).elim
  grind
 ·rw[if_neg e,L5 h];constructor
  ·grind
  ·intro hm;rw[List.mem_eraseIdx_iff_getElem?];obtain⟨i,hi⟩:=List.mem_iff_getElem?.1 hm;grind
attribute [local irreducible] af cv bz bg aA cw bZ St Bx Al App cH cy cD bU aM bF aq bS av ak aW mapA
variable {F:Nat->Prop}{W w:World}{L:List As}{i b:Nat}{t e:TypeId}{x:β}
def EF {c:Bool}{z:Value}{Q:Value->World->Prop}(ht:P.underlying t=some (.map k e))(hz:(zeroValue e).run P w=.ok z w)(s:Sep F W w L)(hi:L[i]? =some (fS K v b ms))(hnd:oW ms)(hx:K.ok x)
  (h0:fE ms x=none->Q (if c then .tuple #[z,.bool false]else z) w)(h1:∀a,fE ms x=some a->Q (if c then .tuple #[v a,.bool true]else v a) w):aM P (Instr.lookup t (.map (some b)) (K.enc x) c) w Q:=by
 have hi':L[i]? =some (mapA P k b (ms.map λp=>(K.enc p.1,v p.2))):=hi;refine aeW K.keyed ht hz s hi' (K.key x hx) (λh=>h0 (SU.2 λp hp e=>?_)) λj u hj=>?_
 ·exact h (K.enc p.1,v p.2) (List.mem_map.2 ⟨p,hp,rfl⟩) (by rw[e])
 ·rw[List.getElem?_map]at hj;cases hm:ms[j]? with
  |none=>grind
  |some p=>
   rw[hm]at hj;simp[Option.map_some,Option.some.injEq,Prod.mk.injEq]at hj;obtain⟨e1,rfl⟩:=hj;have e1:=K.inj _ _ e1;exact h1 p.2 (aiv (j:=j) hnd (by grind))
def L6 {Q:World->Prop}{a:α}(ht:P.underlying t=some (.map k e))(s:Sep F W w L)(hi:L[i]? =some (fS K v b ms))(hnd:oW ms)(hx:K.ok x)
  (h:∀ms' w',oW ms'->(∀y,fE ms' y=if y=x then some a else fE ms y)->(ms'.length=if(fE ms x).isNone then ms.length+1 else ms.length)->Sep F W w' (L.set i (fS K v b ms'))->Q w'):bF P (Instr.mapUpdate t (.map (some b)) (K.enc x) (v a)) w Q:=by
 have hi':L[i]? =some (mapA P k b (ms.map λp=>(K.enc p.1,v p.2))):=hi;refine Ys K.keyed ht s hi' (K.key x hx) (λh0 w' s'=>?_) λj u hj w' s'=>?_
 ·have hn:=SU.2 λp hp e=>h0 (K.enc p.1,v p.2) (List.mem_map.2 ⟨p,hp,rfl⟩) (by rw[e]);obtain⟨k1,k2⟩:=aqB hnd hn;apply h (ms++[(x,a)]) w' k1 k2 (by grind);unfold fS;grind
 ·rw[List.getElem?_map]at hj;cases hm:ms[j]? with
  |none=>grind
  |some p=>
   rw[hm]at hj;simp[Option.map_some,Option.some.injEq,Prod.mk.injEq]at hj;obtain⟨e1,rfl⟩:=hj;have e1:=K.inj _ _ e1;have hm:ms[j]? =some (x,p.2):=by grind
   obtain⟨k1,k2⟩:=as8 hnd hm;apply h (ms.set j (x,a)) w' k1 k2 (by rw[aiv hnd hm,List.length_set];rfl);unfold fS;simp_all
def au4 {ty:TypeId}{Q:Value->World->Prop}(ht:P.underlying t=some (.map k e))(s:Sep F W w L)(hi:L[i]? =some (fS K v b ms))(hnd:oW ms)(hx:K.ok x)
  (h:∀ms' w',oW ms'->(∀y,fE ms' y=if y=x then none else fE ms y)->(ms'.length=if(fE ms x).isNone then ms.length else ms.length-1)->Sep F W w' (L.set i (fS K v b ms'))->Q (.tuple #[]) w'):aM P (Builtin.delete_ #[t,k] ty [.map (some b),K.enc x].toArray) w Q:=by
 have hi':L[i]? =some (mapA P k b (ms.map λp=>(K.enc p.1,v p.2))):=hi;refine Yt K.keyed ht s hi' (K.key x hx) (λh0 w' s'=>?_) λj u hj w' s'=>?_
 ·have hn:=SU.2 λp hp e=>h0 (K.enc p.1,v p.2) (List.mem_map.2 ⟨p,hp,rfl⟩) (by rw[e]);refine h ms w' hnd (λy=>?_) (by rw[hn];rfl) ?_
  ·grind
  ·have:L.set i (fS K v b ms)=L:=by apply List.ext_getElem?;grind
   grind
 ·rw[List.getElem?_map]at hj;cases hm:ms[j]? with
  |none=>grind
  |some p=>
   rw[hm]at hj;simp[Option.map_some,Option.some.injEq,Prod.mk.injEq]at hj;obtain⟨e1,rfl⟩:=hj;have e1:=K.inj _ _ e1;have hm:ms[j]? =some (x,p.2):=by grind
   have hjl:=(List.getElem?_eq_some_iff.1 hm).1;obtain⟨k1,k2⟩:=as9 hnd hm;apply h (ms.eraseIdx j) w' k1 k2 (by rw[aiv hnd hm,List.length_eraseIdx,if_pos hjl];rfl);rw[fS,ChangeMaps.map_eraseIdx];exact s'
end
def akN {α β:Type}:oW ([]:List (β×α)):=List.nodup_nil
end Go.Proofs.YtmegplnmiepfbaaGreatDoor.S
namespace Go.Proofs.YtmegplnmiepfbaaGreatDoor.S
open Go.Sx
def aom {P:Program}{F:Nat->Prop}{W w:World}{L:List As}{t e ty k:TypeId}{b i:Nat}{m:List (Value×Value)}{Q:Value->World->Prop}(ht:P.underlying t=some (.map k e))(s:Sep F W w L)(hi:L[i]? =some (mapA P k b m))(h:Q (ae (m.length:Nat)) w):aM P (Builtin.len_ #[t] ty [.map (some b)].toArray) w Q:=by
 obtain⟨es,clock,hb,hm,_⟩:=f_ s hi;have hb:=hb;have hl:es.size=m.length:=by grind
 have:(Builtin.len_ #[t] ty [.map (some b)].toArray).run P w=.ok (ae (m.length:Nat)) w:=by simp[Builtin.len_,run_underlying ht,MapKept.run_getObj_map hb,Result.andThen,goInt,hl]
 unfold aM;grind
attribute [local irreducible] af cv bz bg aA cw bZ St Bx Al App cH cy cD bU aM bF aq bS av ak aW mapA
def aqC {F:Nat->Prop}{W w:World}{L:List As}{t e ty:TypeId}{k:TypeId}{α β:Type}{K:ad_ k β}{v:α->Value}{ms:List (β×α)}{b i:Nat}{Q:Value->World->Prop}(ht:P.underlying t=some (.map k e))(s:Sep F W w L)(hi:L[i]? =some (fS K v b ms))(h:Q (ae (ms.length:Nat)) w):aM P (Builtin.len_ #[t] ty [.map (some b)].toArray) w Q:=by have hi':L[i]? =some (mapA P k b (ms.map λp=>(K.enc p.1,v p.2))):=hi;apply aom ht s hi';grind
structure aS where
 id:Int
 cell:Int
 goal:Int
deriving DecidableEq
def gZ (u:aS):List Value:=[ae u.id,ae u.cell,ae u.goal]
def z0 (u:aS):(gZ u).length=3:=rfl
def aon (x:aS)(u:Value)(h:u∈gZ x):u.oneCell'=true:=by unfold gZ at h;simp[List.mem_cons,List.not_mem_nil,or_false]at h;rcases h with rfl|rfl|rfl<;>rfl
def IB (u:aS):Value:=.agg #[ae u.id,ae u.cell,ae u.goal]
structure rF where
 most:Int
 next:Int
 us:List aS
structure Wr where
 p:Nat
 mb:Nat
 oa:Option Addr
 on:Nat
 oc:Nat
 ms:List (Int×aS)
 os:List Int
def gE (us:List aS)(i:Int):Option aS:=us.find? λu=>decide (u.id=i)
structure SV (r:Wr) (y:rF):Prop where
 most:1<=y.most/\y.most<=65536
 FM:oW r.ms
 fE:∀i,fE r.ms i=gE y.us i
 len:r.ms.length=y.us.length
 ord:r.os.filter (λi=>(gE y.us i).isSome)=y.us.map (·.id)
 aiw:r.os.length<=2*y.us.length
 NH:(y.us.map (·.id)).Pairwise (·<·)
 jO:∀u∈y.us,0<=u.id/\u.id<y.next
 nX:(y.us.length:Int)<=y.most
 onx:∀i∈r.os,0<=i/\i<y.next
 Jc:0<=y.next/\y.next<=1000000000
def Ws (r:Wr)(y:rF):List Value:=[ae y.most,ae y.next,.map (some r.mb),.slice r.oa r.on r.oc]
noncomputable def ayq (r:Wr)(y:rF):List As:=[av r.p 171 (Ws r y),fS fB IB r.mb r.ms,ak r.oa r.on r.oc 3 1 (flat one r.os)]
noncomputable def wo (r:Wr)(y:rF):As:=aW (SV r y) (ayq r y)
section
variable {F:Nat->Prop}{W w w0:World}{L:List As}{r:Wr}{y:rF}{id:Int}
def u6 (s:Sep F W w (wo r y::L)):SV r y/\Sep F W w (av r.p 171 (Ws r y)::fS fB IB r.mb r.ms::ak r.oa r.on r.oc 3 1 (flat one r.os)::L):=gR s
def Fa (s:Sep F W w (av r.p 171 (Ws r y)::fS fB IB r.mb r.ms::ak r.oa r.on r.oc 3 1 (flat one r.os)::L))(h:SV r y):Sep F W w (wo r y::L):=dA s h
def ab3 {Q:Option Addr->World->Prop}{most:Int}(hm:1<=most/\most<=65536)(s:Sep F W w L)(h:∀r w',Sep F W w' (wo r ⟨most,0,[]⟩::L)->Q (sZ r.p) w'):Gh most w Q:=by
 apply abd;rw[bh,bh];refine aag s 169 fB IB λmb w s=>?_;refine aQ s λp w s=>?_;refine h ⟨p,mb,none,0,0,[],[]⟩ w (Fa ?_ ?_)
 ·exact ck (bG s 3 1) ((List.Perm.swap _ _ _).trans (List.Perm.cons _ (List.Perm.swap _ _ _)))
 ·exact⟨hm,List.Pairwise.nil,λi=>rfl,rfl,rfl,Nat.le_refl _,List.Pairwise.nil,(λu hu=>by cases hu),by grind,(λi hi=>by cases hi),by grind⟩
def Kx:P.underlying 169=some (.map 3 43):=by kernel_rfl
def aah (w:World):(zeroValue 43).run P w=.ok (IB ⟨0,0,0⟩) w:=by kernel_rfl
def aBF:zc T 43=[ae 0,ae 0,ae 0]:=rfl
def ab4 {Q:Int->World->Prop}(s:Sep F W w (wo r y::L))(h:Q (y.us.length:Nat) w):y7 (sZ r.p) w Q:=by apply P0;obtain⟨hok,s⟩:=u6 s;refine mN (ah (lM s 0 rfl ?_));apply aqC Kx s (i:=1) rfl;rw[hok.len];exact h
def sS {Q:Int->Int->Int->Bool->World->Prop}(s0:Sep F W w (wo r y::L))(yq:iK id)
  (hno:gE y.us id=none->∀w',Sep F W w' (wo r y::L)->Q 0 0 0 false w')(hyes:∀u,gE y.us id=some u->∀w',Sep F W w' (wo r y::L)->Q u.id u.cell u.goal true w'):iS (sZ r.p) id w Q:=by
 apply Qb;refine aV s0 λp w s=>?_;obtain⟨hok,s⟩:=u6 (jk s);refine mN (ah (lM s 0 rfl ?_));have fin:∀(u:aS) (b:Bool) (w:World),Sep F W w (av r.p 171 (Ws r y)::fS fB IB r.mb r.ms::ak r.oa r.on r.oc 3 1 (flat one r.os)::av p 43 [ae 0,ae 0,ae 0]::L)->
   (∀w',Sep F W w' (wo r y::L)->Q u.id u.cell u.goal b w')->
   Al T 43 w λx w=>St (x.add 0) (ae u.id) w λw=>St (x.add 1) (ae u.cell) w λw=>St (x.add 2) (ae u.goal) w λw=>
   af .i64 (x.add 0) w λa=>af .i64 (x.add 1) w λc=>af .i64 (x.add 2) w λd=>
   St ((aZ p).add 0) (ae a) w λw=>St ((aZ p).add 1) (ae c) w λw=>St ((aZ p).add 2) (ae d) w λw=>
   af .i64 ((aZ p).add 0) w λa=>af .i64 ((aZ p).add 1) w λc=>af .i64 ((aZ p).add 2) w λd=>Q a c d b w:=λu b w s h=>by
  refine aV s λx w s=>?_;refine sT s 0 rfl λw s=>?_;refine sT s 0 rfl λw s=>?_;refine ax s (i:=0) rfl rfl rfl λw s=>?_;refine lI s 0 rfl (lI s 0 rfl (lI s 0 rfl ?_));refine sT s 4 rfl λw s=>?_;refine sT s 4 rfl λw s=>?_;refine ax s (i:=4) rfl rfl rfl λw s=>?_;refine lI s 4 rfl (lI s 4 rfl (lI s 4 rfl ?_));exact h w (Fa (gw s (.cons _ (.cons_cons _ (.cons_cons _ (.cons_cons _ (.cons _ (List.Sublist.refl _))))))) hok)
 refine EF (K:=fB) Kx (aah w) s (i:=1) rfl hok.FM yq (λh=>?_) λu h=>?_
 ·exact fin ⟨0,0,0⟩ false w s (hno (by rw[<-hok.fE];exact h))
 ·exact fin u true w s (hyes u (by rw[<-hok.fE];exact h))
end
end Go.Proofs.YtmegplnmiepfbaaGreatDoor.S
namespace Go.Proofs.YtmegplnmiepfbaaGreatDoor.S
open Go.Sx
attribute [local irreducible] af cv bz bg aA cw bZ St Bx Al App cH cy cD bU aM bF aq bS av ak aW mapA
section
variable {F:Nat->Prop}{W w w0:World}{L:List As}
def YI {Q:Option Addr->Nat->Nat->World->Prop}{p mb on oc:Nat}{oa:Option Addr}{most next:Int}{ms:List (Int×aS)}{os:List Int}(hk:oW ms)(ho:∀i∈os,iK i)(hl:os.length<=200000)
  (s:Sep F W w (av p 171 [ae most,ae next,.map (some mb),.slice oa on oc]::fS fB IB mb ms::ak oa on oc 3 1 (flat one os)::L))
  (h:∀a n c w',Sep F W w' (ak a n c 3 1 (flat one (os.filter λi=>(fE ms i).isSome))::av p 171 [ae most,ae next,.map (some mb),.slice oa on oc]::fS fB IB mb ms::ak oa on oc 3 1 (flat one os)::L)->Q a n c w'):
  qB (sZ p) w Q:=by
 apply ME;refine ah (lS s 0 rfl ?_);have hlen:=(aK s (i:=2) rfl cE (by decide)).len;have loop:∀(j i:Nat) (a:Option Addr) (n c:Nat) (w:World),i+j=on->n<=i->Sep F W w (ak a n c 3 1 (flat one ((os.take i).filter λi=>(fE ms i).isSome))::av p 171 [ae most,ae next,.map (some mb),.slice oa on oc]::fS fB IB mb ms::ak oa on oc 3 1 (flat one os)::L)->
   lZ Q (j+1) (sZ p) a n c oa on oc (on:Int) i w:=by
  intro j;induction j with
  |zero=>
   intro i a n c w hij hni s;show oC _ _ _ _ _ _ _ _ _ _ _ _;unfold oC;grind
  |succ j ih=>
   intro i a n c w hij hni s;show oC _ _ _ _ _ _ _ _ _ _ _ _;rw[oC,bN];apply(aK s (i:=3) rfl cE (by decide)).rE rfl (by omega);have hg:os[i]? =some (gi os i):=by unfold gi;grind
   have hx:=ho _ (List.mem_of_getElem? hg);have yw:os.take (i+1)=os.take i++[gi os i]:=by rw[List.take_add_one,hg];rfl
   generalize gi os i=x at hg hx yw;have wr:IntKind.wrap .i64 ((i:Int)+1)=((i+1:Nat):Int):=by rw[HG (iK.wf (by unfold iK;omega))];omega
   refine ah (lM s 1 rfl ?_);have step:∀(u:aS) (b:Bool),(fE ms x).isSome=b->Al T 43 w λp6 w=>St (p6.add 0) (ae u.id) w λw=>St (p6.add 1) (ae u.cell) w λw=>St (p6.add 2) (ae u.goal) w λw=>
     cond b (Bx [ae x] 3 w λp29 w=>App P #[29,29] 29 (.slice a n c) (.slice (some p29) 1 1) w λa n c w=>lZ Q (j+1) (sZ p) a n c oa on oc (on:Int) (IntKind.wrap .i64 ((i:Int)+1)) w)
      (lZ Q (j+1) (sZ p) a n c oa on oc (on:Int) (IntKind.wrap .i64 ((i:Int)+1)) w):=λu b hb=>by
    refine aV s λp6 w s=>?_;refine sT s 0 rfl λw s=>?_;refine sT s 0 rfl λw s=>?_;refine sT s 0 rfl λw s=>?_;have s:=ai s;rw[wr];cases b with
    |true=>
     refine LF s (by omega) λa' c' w s=>?_;apply ih (i+1) a' (n+1) c' w (by omega) (by omega);rw[yw,List.filter_append];simp[List.filter_cons,hb,List.filter_nil,if_true];exact s
    |false=>
     apply ih (i+1) a n c w (by omega) (by omega);rw[yw,List.filter_append];simp[List.filter_cons,hb,List.filter_nil,Bool.false_eq_true,if_false,List.append_nil];exact s
   refine EF (K:=fB) Kx (aah w) s (i:=2) rfl hk hx (λh=>?_) λu h=>?_
   ·exact step ⟨0,0,0⟩ false (by rw[h];rfl)
   ·exact step u true (by rw[h];rfl)
 exact⟨on+1,loop on 0 none 0 0 w (by omega) (by omega) (bG s 3 1)⟩
end
end Go.Proofs.YtmegplnmiepfbaaGreatDoor.S
namespace Go.Proofs.YtmegplnmiepfbaaGreatDoor.S.Hp
abbrev E:=Int×Int
def zL (a b:E):Bool:=decide (a.1<b.1)||(a.1==b.1&&decide (a.2<b.2))
def akP {a b:E}:zL a b=true↔a.1<b.1\/a.1=b.1/\a.2<b.2:=by simp[zL]
def Xl {a b:E}:zL a b=false↔¬(a.1<b.1\/a.1=b.1/\a.2<b.2):=by rw[<-akP,Bool.not_eq_true]
def NS {a b:E}(h:zL a b=true):zL b a=false:=by rw[akP]at h;rw[Xl];omega
def GP {a b c:E}(h:zL b a=false)(k:zL c b=false):zL c a=false:=by rw[Xl]at*;omega
def aai {a:E}:zL a a=false:=by rw[Xl];omega
def g (es:List E)(i:Nat):E:=es.getD i (0,0)
def EG {es:List E}{i:Nat}(h:i<es.length):es[i]? =some (g es i):=by rw[g,List.getD_eq_getElem?_getD,List.getElem?_eq_getElem h];rfl
def arW {es:List E}{i j:Nat}{x:E}(h:i<es.length):g (es.set i x) j=if i=j then x else g es j:=by unfold g;grind
def swap (es:List E)(i p:Nat):List E:=(es.set i (g es p)).set p (g es i)
def rQ (es:List E)(i p:Nat):(swap es i p).length=es.length:=by simp[swap]
def Jd {es:List E}{i p j:Nat}(hi:i<es.length)(hp:p<es.length):g (swap es i p) j=if p=j then g es i else if i=j then g es p else g es j:=by rw[swap,arW (by grind),arW hi]
def swap_perm {es:List E}{i p:Nat}(hi:i<es.length)(hp:p<es.length):(swap es i p).Perm es:=by
 rw[List.perm_iff_count];intro a;unfold swap;have e1:es[i]=g es i:=by have:=EG hi;grind
 have e2:es[p]=g es p:=by have:=EG hp;grind
 grind
def zM (es:List E):Prop:=∀j,0<j->j<es.length->zL (g es j) (g es ((j-1)/2))=false
structure Xm (es:List E) (i:Nat):Prop where
 rest:∀j,0<j->j<es.length->j≠i->zL (g es j) (g es ((j-1)/2))=false
 over:∀j,0<j->j<es.length->(j-1)/2=i->0<i->zL (g es j) (g es ((i-1)/2))=false
def aea {es:List E}{i:Nat}(h:Xm es i)(hs:i=0\/zL (g es i) (g es ((i-1)/2))=false):zM es:=by
 intro j h1 h2;by_cases hj:j=i
 ·grind
 ·exact h.rest j h1 h2 hj
def as_ {es:List E}{i:Nat}(h:Xm es i)(hi:0<i)(hl:i<es.length)(hs:zL (g es i) (g es ((i-1)/2))=true):Xm (swap es i ((i-1)/2)) ((i-1)/2):=by
 have hp:(i-1)/2<es.length:=by omega
 have hne:(i-1)/2≠i:=by omega
 constructor
 ·intro j h1 h2 hj;rw[rQ]at h2;rw[Jd hl hp,Jd hl hp,if_neg (Ne.symm hj)];by_cases hji:i=j
  ·subst hji;rw[if_pos rfl,if_pos rfl];exact NS hs
  ·rw[if_neg hji];by_cases hpj:(i-1)/2=(j-1)/2
   ·rw[if_pos hpj];have:=h.rest j h1 h2 (Ne.symm hji);rw[<-hpj]at this;exact GP (NS hs) this
   ·rw[if_neg hpj];by_cases hij:i=(j-1)/2
    ·rw[if_pos hij];exact h.over j h1 h2 hij.symm hi
    ·rw[if_neg hij];exact h.rest j h1 h2 (Ne.symm hji)
 ·intro j h1 h2 hj h0;rw[rQ]at h2;have hj':(i-1)/2≠j:=by omega
  rw[Jd hl hp,Jd hl hp,if_neg hj',if_neg (show(i-1)/2≠((i-1)/2-1)/2 by omega),if_neg (show i≠((i-1)/2-1)/2 by omega)];have au6:=h.rest ((i-1)/2) h0 hp hne;by_cases hji:i=j
  ·rw[if_pos hji];exact au6
  ·rw[if_neg hji];have:=h.rest j h1 h2 (Ne.symm hji);rw[hj]at this;exact GP au6 this
structure KJ (es:List E) (i:Nat):Prop where
 rest:∀j,0<j->j<es.length->(j-1)/2≠i->zL (g es j) (g es ((j-1)/2))=false
 over:∀j,0<j->j<es.length->(j-1)/2=i->0<i->zL (g es j) (g es ((i-1)/2))=false
structure arX (es:List E) (i l k:Nat):Prop where
 lt:l<es.length
 who:l=i\/l=2*i+1\/l=2*i+2
 self:zL (g es i) (g es l)=false
 kids:∀j,2*i+1<=j->j<k->j<es.length->zL (g es j) (g es l)=false
def aoo {es:List E}{i:Nat}(h:KJ es i)(hs:∀j,2*i+1<=j->j<=2*i+2->j<es.length->zL (g es j) (g es i)=false):zM es:=by
 intro j h1 h2;by_cases hj:(j-1)/2=i
 ·grind
 ·exact h.rest j h1 h2 hj
def aop {es:List E}{i l:Nat}(h:KJ es i)(hi:i<es.length)(hl:l<es.length)(hw:l=2*i+1\/l=2*i+2)(hs:zL (g es i) (g es l)=false)
  (hk:∀j,2*i+1<=j->j<=2*i+2->j<es.length->zL (g es j) (g es l)=false):KJ (swap es i l) l:=by
 have hne:l≠i:=by omega
 constructor
 ·intro j h1 h2 hj;rw[rQ]at h2;rw[Jd hi hl,Jd hi hl,if_neg (show l≠(j-1)/2 from λe=>hj e.symm)];by_cases hpi:i=(j-1)/2
  ·grind
  ·rw[if_neg hpi,if_neg (show l≠j by omega)];by_cases hij:i=j
   ·subst hij;rw[if_pos rfl];exact h.over l (by omega) hl (by omega) h1
   ·rw[if_neg hij];exact h.rest j h1 h2 (Ne.symm hpi)
 ·intro j h1 h2 hj h0;rw[rQ]at h2;have e:(l-1)/2=i:=by omega
  rw[e,Jd hi hl,Jd hi hl,if_neg (show l≠j by omega),if_neg (show i≠j by omega),if_neg hne,if_pos rfl];have:=h.rest j h1 h2 (by omega);grind
def alP {es:List E}(h:zM es):∀j,j<es.length->zL (g es j) (g es 0)=false:=by
 intro j;induction j using Nat.strongRecOn with
 |_ j ih=>
  intro hj;by_cases h0:j=0
  ·subst h0;exact aai
  ·exact GP (ih ((j-1)/2) (by omega) (by omega)) (h j (by omega) hj)
def aeb {es:List E}(h:zM es){x:E}(hx:x∈es):zL x (g es 0)=false:=by
 obtain⟨j,hj,rfl⟩:=List.getElem_of_mem hx;have:=alP h j hj;have e:es[j]=g es j:=by have:=EG hj;grind
 rwa[e]
def TF {es:List E}{x:E}{j:Nat}(h:j<es.length):g (es++[x]) j=g es j:=by unfold g;grind
def aqD {es:List E}{x:E}(h:zM es):Xm (es++[x]) es.length:=by
 constructor
 ·intro j h1 h2 hj;simp[List.length_append,List.length_cons,List.length_nil]at h2;rw[TF (by omega),TF (by omega)];exact h j h1 (by omega)
 grind
def ata {es:List E}(h:zM es)(h0:0<es.length):KJ ((es.set 0 (g es (es.length-1))).take (es.length-1)) 0:=by
 have hg:∀j,0<j->j<es.length-1->g ((es.set 0 (g es (es.length-1))).take (es.length-1)) j=g es j:=by intro j h1 h2;unfold g;grind
 constructor
 ·intro j h1 h2 hj;have h2:j<es.length-1:=by grind
  rw[hg j h1 h2,hg _ (by omega) (by omega)];exact h j h1 (by omega)
 omega
def aqE {es:List E}(h0:0<es.length):(g es 0::(es.set 0 (g es (es.length-1))).take (es.length-1)).Perm es:=by
 match es,h0 with
 |[x],_=>simp[g]
 |x::y::es,_=>
  have e:g (x::y::es) ((x::y::es).length-1)=(y::es).getLast (by simp):=by unfold g;grind
  rw[e];have e2:((x::y::es).set 0 ((y::es).getLast (by simp))).take ((x::y::es).length-1)=(y::es).getLast (by simp)::(y::es).dropLast:=by simp[List.dropLast_eq_take]
  have e3:g (x::y::es) 0=x:=rfl;apply List.Perm.cons x;have:=List.dropLast_concat_getLast (l:=y::es) (by simp);grind
end Go.Proofs.YtmegplnmiepfbaaGreatDoor.S.Hp
namespace Go.Proofs.YtmegplnmiepfbaaGreatDoor.S.Hp
open Go.Sx
attribute [local irreducible] af cv bz bg aA cw bZ St Bx Al App cH cy cD bU aM bF aq bS av ak
def dW:wZ P T:=EK P rows HI
def cI {n lo hi:Int}{w:World}{Q:Int->World->Prop}(h1:lo<=hi)(h2:-1099511627776<=lo)(h3:hi<=1099511627776)(h:Q (lo+n%(hi-lo+1)) w):a_ n lo hi w Q:=by
 apply uD;rw[aG (n:=hi-lo),aG];generalize hs:hi-lo+1=s at h;have h4:=Int.lt_tmod_of_pos n (b:=s) (by omega);have h5:=Int.tmod_lt_of_pos n (b:=s) (by omega);have h6:=Int.tmod_add_mul_tdiv n s;refine⟨by omega,?_⟩;generalize ht:Int.tmod n s=t at*;have e:n%s=t%s:=by rw[<-h6,Int.add_mul_emod_self_left]
 by_cases hn:t<0
 ·rw[bN hn,aG (n:=t+hi),aG (n:=t+hi-lo),aG (n:=t+hi-lo+1),aG];have e2:t%s=t+s:=by rw[<-Int.add_emod_right,Int.emod_eq_of_lt (by omega) (by omega)]
  grind
 ·rw[bh hn,aG];rw[e,Int.emod_eq_of_lt (by omega) h5]at h;exact h
def pr (x:E):List Value:=[ae x.1,ae x.2]
def iE (x:E):(pr x).length=2:=rfl
def FN {F:Nat->Prop}{W w:World}{L:List As}{a b c d:Int}{Q:Bool->World->Prop}(s:Sep F W w L)(h:∀w',Sep F W w' L->Q (zL (a,b) (c,d)) w'):sF a b c d w Q:=by
 apply Qo;refine aQ s λb1 w1 s=>?_;refine aQ s λb2 w2 s=>?_;apply lI s 1 rfl;apply lI s 0 rfl;have hh:=h w2 (ai (ai s));unfold zL at hh;by_cases h1:a<c
 ·grind
 ·rw[bh h1];rw[decide_eq_false h1,Bool.false_or]at hh;apply lI s 1 rfl;apply lI s 0 rfl;cases h2:(a==c)with
  |false=>
   grind
  |true=>
   rw[h2,Bool.true_and]at hh;apply lI s 1 rfl;apply lI s 0 rfl;exact hh
section
variable {F:Nat->Prop}{W w:World}{L:List As}{i j p b o n c:Nat}{Q:World->Prop}
def atb (hij:i≠j):∀(m q:Nat) (es:List E) (w:World),q<=m->q<es.length->es.length=n->n<=4000000000000->Xm es q->∀L:List As,L[i]? =some (av p 351 [.slice (some ⟨b,o,none⟩) n c])->L[j]? =some (ak (some ⟨b,o,none⟩) n c 353 2 (flat pr es))->Sep F W w L->
  (∀w' es',zM es'->es'.Perm es->Sep F W w' (L.set j (ak (some ⟨b,o,none⟩) n c 353 2 (flat pr es')))->Q w')->ru Q (m+1) (sZ p) q w:=by
 intro m;induction m with
 |zero=>
  intro q es w hq hl hn L7 inv L hi hj s h;obtain rfl:q=0:=by omega
  show vz Q (ru Q 0) _ _ _;unfold vz;apply h w es (aea inv (.inl rfl)) (.refl _);rw[rS hj];exact s
 |succ m ih=>
  intro q es w hq hl hn L7 inv L hi hj s h;show vz Q (ru Q (m+1)) _ _ _;unfold vz;by_cases h0:q=0
  ·subst h0;apply h w es (aea inv (.inl rfl)) (.refl _);rw[rS hj];exact s
  ·rw[bN];have e1:IntKind.wrap .i64 (Int.tdiv (IntKind.wrap .i64 ((q:Int)-1)) 2)=(((q-1)/2:Nat):Int):=by rw[aG (n:=(q:Int)-1),Int.tdiv_eq_ediv_of_nonneg (by omega),aG];omega
   rw[e1];have s':Sep F W w.drew L:=s;have gq:=EG hl;have hp:(q-1)/2<es.length:=by omega
   have gp:=EG hp;refine⟨by decide,ah ?_⟩;apply g6 s' rfl hi rfl;refine⟨by omega,by omega,ah ?_⟩;rw[show((q:Int)).toNat=q from rfl,show((((q-1)/2:Nat):Int)).toNat=(q-1)/2 from rfl];apply eK iE s' hj gq (eo ..) rfl;refine eK iE s' hj gq (eo ..) rfl (ah ?_);apply g6 s' rfl hi rfl;refine⟨by omega,by omega,ah ?_⟩;apply eK iE s' hj gp (eo ..) rfl;apply eK iE s' hj gp (eo ..) rfl;refine FN s' λw1 s1=>?_;cases hs:zL (g es q) (g es ((q-1)/2))with
   |false=>
    apply h w1 es (aea inv (.inr hs)) (.refl _);rw[rS hj];exact s1
   |true=>
    rw[Bool.not_true,cond_false];have s2:Sep F W w1.drew L:=s1;apply ah;refine g6 s2 rfl hi rfl (ah ?_);refine g6 s2 rfl hi rfl (ah ?_);apply g6 s2 rfl hi rfl;refine⟨by omega,by omega,ah ?_⟩;apply eK iE s2 hj gp (eo ..) rfl;refine eK iE s2 hj gp (eo ..) rfl (ah ?_);apply g6 s2 rfl hi rfl;refine⟨by omega,by omega,ah ?_⟩;apply eK iE s2 hj gq (eo ..) rfl;apply eK iE s2 hj gq (eo ..) rfl;refine⟨by omega,by omega,ah ?_⟩;have hjL:=(List.getElem?_eq_some_iff.1 hj).1;refine dX iE (x':=((g es ((q-1)/2)).1,(g es q).2)) s2 hj gq (eo ..) (by decide) rfl rfl λw3 s3=>?_;refine dX iE (x:=((g es ((q-1)/2)).1,(g es q).2)) (x':=g es ((q-1)/2)) s3 (by rw[List.getElem?_set_self hjL]) (by rw[List.getElem?_set_self hl]) (eo ..) (by decide) rfl rfl λw4 s4=>?_;rw[h_,h_]at s4;refine⟨by omega,by omega,ah ?_⟩;have hne:q≠(q-1)/2:=by omega
    have gp':(es.set q (g es ((q-1)/2)))[(q-1)/2]? =some (g es ((q-1)/2)):=by rw[List.getElem?_set_ne hne];exact gp
    refine dX iE (x':=((g es q).1,(g es ((q-1)/2)).2)) s4 (by rw[List.getElem?_set_self hjL]) gp' (eo ..) (by decide) rfl rfl λw5 s5=>?_;refine dX iE (x:=((g es q).1,(g es ((q-1)/2)).2)) (x':=g es q) s5 (by rw[List.getElem?_set_self (by simpa using hjL)]) (by rw[List.getElem?_set_self (by simpa using hp)]) (eo ..) (by decide) rfl rfl λw6 s6=>?_;rw[h_,h_,h_]at s6;have s6:Sep F W w6 (L.set j (ak (some ⟨b,o,none⟩) n c 353 2 (flat pr (swap es q ((q-1)/2))))):=s6;refine ih ((q-1)/2) (swap es q ((q-1)/2)) w6 (by omega) (by rw[rQ];exact hp) (by rw[rQ];exact hn) L7 (as_ inv (by omega) hl hs) _ (by rw[List.getElem?_set_ne (Ne.symm hij)];exact hi) (by rw[List.getElem?_set_self hjL]) s6 λw' es' k1 k2 k3=>?_;rw[h_]at k3;exact h w' es' k1 (k2.trans (swap_perm hl hp)) k3
end
section
variable {F:Nat->Prop}{W w:World}{L:List As}{i j p b o n c:Nat}{Q:World->Prop}
def alR {P1:Option Addr->Int->World->Prop}{es:List E}{q:Nat}(hq:q<es.length)(hn:es.length=n)(L7:n<=4000000000000)
  (hi:L[i]? =some (av p 351 [.slice (some ⟨b,o,none⟩) n c]))(hj:L[j]? =some (ak (some ⟨b,o,none⟩) n c 353 2 (flat pr es)))
  (h:∀w' l,Sep F W w' L->arX es q l (2*q+3)->oG P1 Q (sZ p) q l w'):
  ∀(m k l:Nat) (w:World),k+m=2*q+3->2*q+1<=k->Sep F W w L->arX es q l k->mA P1 Q (m+1) (sZ p) q l k w:=by
 intro m;induction m with
 |zero=>
  intro k l w hk IP s hl;show mz P1 Q (mA P1 Q 0) _ _ _ _ _;rw[mz,aG (n:=2*(q:Int)),aG,bh];grind
 |succ m ih=>
  intro k l w hk IP s hl;show mz P1 Q (mA P1 Q (m+1)) _ _ _ _ _;rw[mz,aG (n:=2*(q:Int)),aG,bN];apply ah;apply g6 s rfl hi rfl;by_cases hkn:k<n
  ·rw[bN];have s':Sep F W w.drew L:=s;have gk:=EG (es:=es) (i:=k) (by omega);have gl:=EG hl.lt;have qk:=hl.lt;apply ah;apply g6 s' rfl hi rfl;refine⟨by omega,by omega,ah ?_⟩;apply eK iE s' hj gk (eo ..) rfl;refine eK iE s' hj gk (eo ..) rfl (ah ?_);apply g6 s' rfl hi rfl;refine⟨by omega,by omega,ah ?_⟩;apply eK iE s' hj gl (eo ..) rfl;apply eK iE s' hj gl (eo ..) rfl;refine FN s' λw1 s1=>?_;rw[aG];cases hs:zL (g es k) (g es l)with
   |true=>
    refine ih (k+1) k w1 (by omega) (by omega) s1 ⟨by omega,by omega,GP (NS hs) hl.self,λx h1 h2 h3=>?_⟩;by_cases hx:x=k
    ·subst hx;exact aai
    ·exact GP (NS hs) (hl.kids x h1 (by omega) h3)
   |false=>
    refine ih (k+1) l w1 (by omega) (by omega) s1 ⟨hl.lt,hl.who,hl.self,λx h1 h2 h3=>?_⟩;by_cases hx:x=k
    ·grind
    ·exact hl.kids x h1 (by omega) h3
  ·rw[bh];exact h w l s ⟨hl.lt,hl.who,hl.self,λx h1 h2 h3=>hl.kids x h1 (by omega) h3⟩
def aoq (hij:i≠j):∀(m q:Nat) (es:List E) (w:World),es.length<=q+m->q<es.length->es.length=n->n<=4000000000000->KJ es q->∀L:List As,L[i]? =some (av p 351 [.slice (some ⟨b,o,none⟩) n c])->L[j]? =some (ak (some ⟨b,o,none⟩) n c 353 2 (flat pr es))->Sep F W w L->
  (∀w' es',zM es'->es'.Perm es->Sep F W w' (L.set j (ak (some ⟨b,o,none⟩) n c 353 2 (flat pr es')))->Q w')->oH Q (m+1) (sZ p) q w:=by
 intro m;induction m with
 |zero=>
  omega
 |succ m ih=>
  intro q es w hq hl hn L7 inv L hi hj s h;show xB Q (oH Q (m+1)) _ _ _;rw[xB,aG (n:=2*(q:Int)),aG];refine⟨3,?_⟩;have e0:(2*(q:Int)+1)=((2*q+1:Nat):Int):=by omega
  refine alR hl hn L7 hi hj (λw1 l s1 hle=>?_) 2 (2*q+1) q w (by omega) (by omega) s ⟨hl,.inl rfl,aai,λx h1 h2 h3=>by omega⟩;unfold oG;by_cases hlq:l=q
  ·subst hlq;rw[beq_self_eq_true,cond_true];apply h w1 es (aoo inv λx h1 h2 h3=>hle.kids x h1 (by omega) h3) (.refl _);rw[rS hj];exact s1
  ·rw[show(((l:Int))==(q:Int))=false by rw[beq_eq_false_iff_ne];omega,cond_false];have s2:Sep F W w1.drew L:=s1;have NL:=hle.lt;have gq:=EG hl;have gl:=EG NL;have hw:l=2*q+1\/l=2*q+2:=by
    rcases hle.who with h|h
    ·exact absurd h hlq
    ·exact h
   apply ah;refine g6 s2 rfl hi rfl (ah ?_);refine g6 s2 rfl hi rfl (ah ?_);apply g6 s2 rfl hi rfl;refine⟨by omega,by omega,ah ?_⟩;rw[show((q:Int)).toNat=q from rfl,show((l:Int)).toNat=l from rfl];apply eK iE s2 hj gl (eo ..) rfl;refine eK iE s2 hj gl (eo ..) rfl (ah ?_);apply g6 s2 rfl hi rfl;refine⟨by omega,by omega,ah ?_⟩;apply eK iE s2 hj gq (eo ..) rfl;apply eK iE s2 hj gq (eo ..) rfl;refine⟨by omega,by omega,ah ?_⟩;have hjL:=(List.getElem?_eq_some_iff.1 hj).1;refine dX iE (x':=((g es l).1,(g es q).2)) s2 hj gq (eo ..) (by decide) rfl rfl λw3 s3=>?_;refine dX iE (x:=((g es l).1,(g es q).2)) (x':=g es l) s3 (by rw[List.getElem?_set_self hjL]) (by rw[List.getElem?_set_self hl]) (eo ..) (by decide) rfl rfl λw4 s4=>?_;rw[h_,h_]at s4;refine⟨by omega,by omega,ah ?_⟩;have hne:q≠l:=by omega
   have gl':(es.set q (g es l))[l]? =some (g es l):=by rw[List.getElem?_set_ne hne];exact gl
   refine dX iE (x':=((g es q).1,(g es l).2)) s4 (by rw[List.getElem?_set_self hjL]) gl' (eo ..) (by decide) rfl rfl λw5 s5=>?_;refine dX iE (x:=((g es q).1,(g es l).2)) (x':=g es q) s5 (by rw[List.getElem?_set_self (by simpa using hjL)]) (by rw[List.getElem?_set_self (by simpa using NL)]) (eo ..) (by decide) rfl rfl λw6 s6=>?_;rw[h_,h_,h_]at s6;have s6:Sep F W w6 (L.set j (ak (some ⟨b,o,none⟩) n c 353 2 (flat pr (swap es q l)))):=s6;refine ih l (swap es q l) w6 (by rw[rQ];omega) (by rw[rQ];exact NL) (by rw[rQ];exact hn) L7 (aop inv hl NL hw hle.self λx h1 h2 h3=>hle.kids x h1 (by omega) h3) _ (by rw[List.getElem?_set_ne (Ne.symm hij)];exact hi) (by rw[List.getElem?_set_self hjL]) s6 λw' es' k1 k2 k3=>?_;rw[h_]at k3;exact h w' es' k1 (k2.trans (swap_perm hl NL)) k3
end
end Go.Proofs.YtmegplnmiepfbaaGreatDoor.S.Hp
namespace Go.Proofs.YtmegplnmiepfbaaGreatDoor.S.Hp
open Go.Sx
def qI (p:Nat)(a:Option Addr)(c:Nat)(es:List E):As where
 fp:=λk=>k=p\/∃x,a=some x/\x.block=k
 ok:=λh=>(av p 351 [.slice a es.length c]).ok h/\(ak a es.length c 353 2 (flat pr es)).ok h/\(∀x,a=some x->x.block≠p)/\zM es
 lt:=λh hb k hk=>by
  rcases hk with rfl|hk
  ·exact As.lt _ h hb.1 _ rfl
  ·exact As.lt _ h hb.2.1 _ hk
 fr:=λh h' hb he=>⟨As.fr _ h h' hb.1 λb hb=>he b (.inl hb),As.fr _ h h' hb.2.1 λb hb=>he b (.inr hb),hb.2.2⟩
section
variable {F:Nat->Prop}{W w w':World}{L:List As}{i p c:Nat}{a:Option Addr}{es:List E}
def FO (s:Sep F W w L)(hi:L[i]? =some (qI p a c es)):Sep (qI p a c es).fp w w [av p 351 [.slice a es.length c],ak a es.length c 353 2 (flat pr es)]:=by obtain⟨h1,h2,h3,_⟩:=f_ s hi;refine apY h1 h2 (λb hb=>.inl hb) (λb hb=>.inr hb) λb hb hb'=>?_;obtain⟨x,hx,rfl⟩:=hb';exact h3 x hx hb
def Wt (s:Sep F W w L)(hi:L[i]? =some (qI p a c es)):zM es:=(f_ s hi).2.2.2
def ab6 {a':Option Addr}{c':Nat}{es':List E}(s:Sep F W w L)(hi:L[i]? =some (qI p a c es))(s':Sep (qI p a c es).fp w w' [av p 351 [.slice a' es'.length c'],ak a' es'.length c' 353 2 (flat pr es')])(hh:zM es'):
  Sep F W w' (L.set i (qI p a' c' es')):=by
 refine aaP s hi s' ⟨f_ s' (i:=0) rfl,f_ s' (i:=1) rfl,λx hx e=>?_,hh⟩ λb hb=>?_
 ·exact anb s' (i:=0) (j:=1) rfl rfl (by decide) p rfl ⟨x,hx,e⟩
 ·rcases hb with hb|hb
  ·exact⟨_,List.mem_cons_self,hb⟩
  ·exact⟨_,List.mem_cons_of_mem _ List.mem_cons_self,hb⟩
def Wu (s:Sep F W w L)(hi:L[i]? =some (qI p a c es))(h0:0<es.length):∃b o,a=some ⟨b,o,none⟩:=qe (FO s hi) (i:=1) rfl h0
def aqG (s:Sep F W w L)(hi:L[i]? =some (qI p a c es)):es.length<=c:=(Rx (FO s hi) (i:=1) rfl).1
def atc {b:Nat}{t:TypeId}{cs:List Value}{m size:Nat}(s:Sep F W w L)(hi:L[i]? =some (av b t cs))(hl:cs.length=m*size)(h1:∀u∈cs,u.oneCell'=true):Src w (sZ b) m size cs:=
 ⟨hl,h1,λj u hj=>by rw[cu,Nat.zero_add];exact cR s rfl hi hj⟩
def alT {p:Nat}{w:World}(h:(av p 351 [.slice none 0 0]).ok w.heap):(qI p none 0 []).ok w.heap:=
 ⟨h,⟨⟨by simp[flat],Nat.le_refl _,by decide,by simp[flat]⟩,.inl ⟨rfl,rfl⟩⟩,λx hx=>(by cases hx),λj h1 h2=>(by simp at h2)⟩
end
def FL {p:Addr}{A B:Prop}(h:B):cond (some p).isNone A B:=h
attribute [local irreducible] af cv bz bg aA cw bZ St Bx Al App cH cy cD bU aM bF aq bS av ak
section
variable {F:Nat->Prop}{W w:World}{L:List As}{i p c:Nat}{a:Option Addr}{es:List E}
def Q6 {Q:Option Addr->World->Prop}(s:Sep F W w L)(h:∀p w',Sep F W w' (qI p none 0 []::L)->Q (sZ p) w'):CY w Q:=by
 apply adC;refine aQ s λp w1 s=>h p w1 ?_;exact xS (i:=0) (A':=qI p none 0 []) s rfl Fr.refl (alT (f_ s (i:=0) rfl)) λb hb=>.inl (by
  rcases hb with hb|⟨x,hx,_⟩
  ·subst hb;unfold av;rfl
  ·cases hx)
def agB {b o n j:Nat}{Q:World->Prop}(hij:i≠j)(hl:0<es.length)(hn:es.length=n)(L7:n<=4000000000000)(inv:Xm es (n-1))(hi:L[i]? =some (av p 351 [.slice (some ⟨b,o,none⟩) n c]))(hj:L[j]? =some (ak (some ⟨b,o,none⟩) n c 353 2 (flat pr es)))(s:Sep F W w L)
  (h:∀w' es',zM es'->es'.Perm es->Sep F W w' (L.set j (ak (some ⟨b,o,none⟩) n c 353 2 (flat pr es')))->Q w'):Cb (sZ p) w Q:=by
 apply VJ;apply ah;apply g6 s rfl hi rfl;rw[aG,show((n:Int)-1)=((n-1:Nat):Int) by omega];exact⟨n,atb hij (n-1) (n-1) es w (Nat.le_refl _) (by omega) hn L7 inv L hi hj s h|>λk=>by grind⟩
def BE {k x:Int}{Q:World->Prop}(s:Sep F W w L)(hi:L[i]? =some (qI p a c es))(hn:es.length<4000000000000)
  (h:∀w' a' c' es',es'.Perm (es++[(k,x)])->Sep F W w' (L.set i (qI p a' c' es'))->Q w'):mR (sZ p) k x w Q:=by
 apply Sg;apply FL;have s0:=FO s hi;have hh:=Wt s hi;apply ah;apply lS s0 0 rfl;refine aQ s0 λbx w1 s1=>?_;have src:=atc (size:=2) s1 (i:=0) rfl rfl (λu hu=>by simp at hu;rcases hu with rfl|rfl<;>rfl);refine iw dW s1 (i:=2) (bytes:=16) rfl rfl rfl rfl rfl rfl (by decide) rfl src (by simp[maxLen];omega) (by omega) (λe=>by cases e) λa' c' w2 s2=>?_;have s2:=ai s2;have e1:flat pr es++[ae k,ae x]=flat pr (es++[(k,x)]):=by rw[gd];rfl
 rw[e1]at s2;apply ah;refine ax s2 (i:=0) rfl rfl rfl λw3 s3=>?_;obtain⟨b,o,rfl⟩:=qe s3 (i:=1) rfl (by omega);have hl:(es++[(k,x)]).length=es.length+1:=by simp
 refine agB (i:=0) (j:=1) (by decide) (by omega) hl (by omega) (by rw[show es.length+1-1=es.length by omega];exact aqD hh) rfl rfl s3 λw4 es' q1 q2 s4=>?_;have hl':es'.length=es.length+1:=by rw[q2.length_eq,hl]
 refine h w4 (some ⟨b,o,none⟩) c' es' q2 (ab6 s hi ?_ q1);grind
def aec {Q:Int->World->Prop}(s:Sep F W w L)(hi:L[i]? =some (qI p a c es))(h:Q (es.length:Int) w):A_ (sZ p) w Q:=by apply Uw;refine FL (ah ?_);exact g6 (FO s hi) (i:=0) rfl rfl rfl h
def aed {Q:Int->Int->Bool->World->Prop}(s:Sep F W w L)(hi:L[i]? =some (qI p a c es))(h0:es=[]->∀w',Sep F W w' L->Q 0 0 false w')(h1:0<es.length->∀w',Sep F W w' L->Q (g es 0).1 (g es 0).2 true w'):A9 (sZ p) w Q:=by
 apply Ux;apply aec s hi;by_cases he:es.length=0
 ·grind
 ·rw[show((es.length:Int)==0)=false by grind,cond_false];obtain⟨b,o,rfl⟩:=Wu s hi (by omega);have s0:=FO s hi;have s0:Sep (qI p (some ⟨b,o,none⟩) c es).fp w w.drew _:=s0;have g0:=EG (es:=es) (i:=0) (by omega);apply ah;apply lS s0 0 rfl;refine⟨by omega,by omega,ah ?_⟩;refine eK iE s0 (i:=1) rfl g0 (apX ..) rfl (ah ?_);apply lS s0 0 rfl;refine⟨by omega,by omega,ah ?_⟩;apply eK iE s0 (i:=1) rfl g0 (eo ..) rfl;refine⟨wS s0 (i:=1) rfl (j:=0*2+1) (eo ..) (by rw[sX iE g0 (by decide)];rfl),cq s0 0 rfl,?_⟩;exact h1 (by omega) w.drew s
def ab7 {b o n j:Nat}{Q:World->Prop}(hij:i≠j)(hn:es.length=n)(L7:n<=4000000000000)(inv:KJ es 0)(hi:L[i]? =some (av p 351 [.slice (some ⟨b,o,none⟩) n c]))(hj:L[j]? =some (ak (some ⟨b,o,none⟩) n c 353 2 (flat pr es)))(s:Sep F W w L)
  (h:∀w' es',zM es'->es'.Perm es->Sep F W w' (L.set j (ak (some ⟨b,o,none⟩) n c 353 2 (flat pr es')))->Q w'):An (sZ p) w Q:=by
 apply Si;by_cases h0:es.length=0
 ·have YJ:=List.eq_nil_of_length_eq_zero h0;subst YJ;obtain rfl:n=0:=by grind
  refine⟨1,?_⟩;show xB Q (oH Q 0) _ _ _;refine⟨1,?_⟩;show mz _ Q (mA _ Q 0) _ _ _ _ _;rw[mz,show decide (IntKind.wrap .i64 (IntKind.wrap .i64 (2*0)+1)<=IntKind.wrap .i64 (IntKind.wrap .i64 (2*0)+2))=true by decide,cond_true];apply ah;apply g6 s rfl hi rfl;unfold oG;apply h w [] (λj h1 h2=>by simp at h2) (.refl _);rw[rS hj];exact s
 ·exact⟨es.length+1,aoq hij es.length 0 es w (by omega) (by omega) hn L7 inv L hi hj s h⟩
def Dk {Q:Int->Int->Bool->World->Prop}(s:Sep F W w L)(hi:L[i]? =some (qI p a c es))(L7:es.length<=4000000000000)(h0:es=[]->∀w',Sep F W w' L->Q 0 0 false w')
  (h1:0<es.length->∀w' a' c' es',(g es 0::es').Perm es->Sep F W w' (L.set i (qI p a' c' es'))->Q (g es 0).1 (g es 0).2 true w'):jJ (sZ p) w Q:=by
 apply Uy;refine aed s hi (λhe w1 s1=>?_) λhpos w1 s=>?_
 ·unfold yI;grind
 ·rw[cond_true];obtain⟨b,o,rfl⟩:=Wu s hi hpos;have hh:=Wt s hi;have hcap:=aqG s hi;have s0:=FO s hi;have s1:Sep (qI p (some ⟨b,o,none⟩) c es).fp w1 w1.drew _:=s0;have e1:IntKind.wrap .i64 ((es.length:Int)-1)=((es.length-1:Nat):Int):=by rw[aG];omega
  have gl:=EG (es:=es) (i:=es.length-1) (by omega);have g0:=EG hpos;apply ah;refine lS s0 0 rfl (ah ?_);refine lS s1 0 rfl (ah ?_);apply lS s1 0 rfl;rw[e1];refine⟨by omega,by omega,ah ?_⟩;apply eK iE s1 (i:=1) rfl gl (eo ..) rfl;apply eK iE s1 (i:=1) rfl gl (eo ..) rfl;refine⟨by omega,by omega,ah ?_⟩;refine dX iE (x':=((g es (es.length-1)).1,(g es 0).2)) s1 (i:=1) rfl g0 (eo ..) (by decide) rfl rfl λw3 s3=>?_;refine dX iE (k:=0) (x:=((g es (es.length-1)).1,(g es 0).2)) (x':=g es (es.length-1)) s3 (i:=1) rfl (by grind) (eo ..) (by decide) rfl rfl λw4 s4=>?_;simp[List.set_cons_zero,List.set_cons_succ,h_]at s4;apply ah;apply lS s4 0 rfl;refine Pc rfl (by omega) (ah ?_);refine sT s4 0 rfl λw5 s5=>?_;have s6:=To s5 (i:=1) rfl (m:=es.length-1) (by omega);rw[U1 iE]at s6;have hl:((es.set 0 (g es (es.length-1))).take (es.length-1)).length=es.length-1:=by simp
  refine ab7 (i:=0) (j:=1) (by decide) hl (by omega) (ata hh hpos) rfl rfl s6 λw7 es' k1 k2 s7=>?_;have hl':es'.length=es.length-1:=by rw[k2.length_eq,hl]
  refine h1 hpos w7 (some ⟨b,o,none⟩) c es' ((List.Perm.cons _ k2).trans (aqE hpos)) (ab6 s hi ?_ k1);grind
end
end Go.Proofs.YtmegplnmiepfbaaGreatDoor.S.Hp
namespace Go.Proofs.YtmegplnmiepfbaaGreatDoor.S
open Go.Sx
section
variable {α:Type}{S:α->Int->Prop}{E:α->α->Int->Prop}{f:α->Int}{Q Q':List (Int×α)}
structure TG (S:α->Int->Prop) (E:α->α->Int->Prop) (cap:Int) (f:α->Int) (Q:List (Int×α)) (P:α->α->Int->Prop):Prop where
 ways:∀x,f x<cap->Wy S E x (f x)
 top:∀x,f x<=cap
 key:∀e∈Q,f e.2<=e.1
 xd:∀x n c,E x n c->f n<cap->(f n,n)∈Q\/f x<=f n+c\/cap<=f n+c\/P x n c
variable {cap:Int}{P P':α->α->Int->Prop}
def TG.agP [DecidableEq α]{f':α->Int}{y:α}{k:Int}(h:TG S E cap f Q P)(hk:k<f y)(hw:Wy S E y k)(hf:∀x,f' x=if x=y then k else f x)(hq:∀e,e∈Q'↔e∈Q\/e=(k,y))(hP:∀x n c,P x n c->x=y->(∃d,f n=d/\k<=d+c)\/P' x n c)(hP':∀x n c,P x n c->x≠y->P' x n c)(hy:∀x c,P x y c->False):TG S E cap f' Q' P' where
 ways x hx:=by
  rw[hf]at hx⊢;split
  ·grind
  ·rename_i e;rw[if_neg e]at hx;exact h.ways x hx
 top x:=by
  rw[hf];have:=h.top y;split
  ·omega
  ·exact h.top x
 key e he:=by
  rcases(hq e).1 he with h1|rfl
  ·have:=h.key e h1;grind
  grind
 xd x n c e hn:=by
  by_cases en:n=y
  ·grind
  ·have efn:f' n=f n:=by grind
   rw[efn]at hn⊢;rcases h.xd x n c e hn with h1|h1|h1|h1
   all_goals grind
def TG.weaken (h:TG S E cap f Q P)(hP:∀x n c,P x n c->E x n c->f n<cap->f x<=f n+c\/cap<=f n+c\/P' x n c):TG S E cap f Q P' where
 ways:=h.ways
 top:=h.top
 key:=h.key
 xd x n c e hn:=by
  rcases h.xd x n c e hn with h1|h1|h1|h1
  all_goals grind
def TG.pop {k:Int}{y:α}(h:TG S E cap f Q λ_ _ _=>False)(hq:∀e,e∈Q↔e∈Q'\/e=(k,y)):TG S E cap f Q' λx n c=>n=y/\f y=k/\E x n c where
 ways:=h.ways
 top:=h.top
 key e he:=h.key e ((hq e).2 (.inl he))
 xd x n c e hn:=by
  rcases h.xd x n c e hn with h1|h1|h1|h1
  all_goals grind
def TG.lci (h:TG S E cap f Q λ_ _ _=>False)(hs:∀x k,S x k->f x<=k\/cap<=k):LcI S E cap f Q:=⟨h.ways,h.top,hs,λx n c e hn=>by
 rcases h.xd x n c e hn with h1|h1|h1|h1
 all_goals grind⟩
end
def Fb (ds:List Int):Nat:=(ds.map Int.toNat).sum
def aaj {k:Int}:∀{ds:List Int} {i:Nat},i<ds.length->Fb (ds.set i k)+(gi ds i).toNat=Fb ds+k.toNat
 |[],i,h=>by simp at h
 |d::ds,0,h=>by show(k.toNat+(ds.map Int.toNat).sum)+d.toNat=(d.toNat+(ds.map Int.toNat).sum)+k.toNat;omega
 |d::ds,i+1,h=>by have ih:=aaj (k:=k) (by simpa using h);have ih:Fb (ds.set i k)+(gi (d::ds) (i+1)).toNat=Fb ds+k.toNat:=ih;show(d.toNat+Fb (ds.set i k))+(gi (d::ds) (i+1)).toNat=(d.toNat+Fb ds)+k.toNat;omega
def aix (k:Int):∀n:Nat,Fb (List.replicate n k)=n*k.toNat
 |0=>by simp[Fb]
 |n+1=>by have ih:=aix k n;show k.toNat+Fb (List.replicate n k)=_;grind
def A0:Int:=2147483647
def fC (ds:List Int)(x:Int):Int:=if 0<=x/\x<ds.length then gi ds x.toNat else A0
def aiy {ds:List Int}{x k:Int}(hx:0<=x/\x<ds.length)(y:Int):fC (ds.set x.toNat k) y=if y=x then k else fC ds y:=by
 unfold fC;rw[List.length_set];by_cases hy:0<=y/\y<ds.length
 ·rw[if_pos hy,if_pos hy,aaQ (by omega)];omega
 grind
def au7 {ds:List Int}{x:Int}(hx:0<=x/\x<ds.length)(hd:∀y∈ds,y<=A0):atF ds x=if fC ds x<A0 then fC ds x else cj:=by
 unfold atF fC;rw[if_pos hx,if_pos hx];have:=hd _ (fG (i:=x.toNat) (by omega));by_cases h:gi ds x.toNat=2147483647
 ·rw[if_pos h,if_neg (by unfold A0;omega)]
 ·rw[if_neg h,if_pos (by unfold A0 at*;omega)]
section
variable {m:bM}{t:Int}
def fM (dm:List (Int×Int))(c:Int):Int:=(fE dm c).getD cj
def unM (m:bM)(dm:List (Int×Int)):Nat:=(jZ m).countP λc=>decide (fM dm c=cj)
def Bi (m:bM)(t:Int):Int->Int->Int->Prop:=tZ (fX m) (cU m) (cU m t)
structure YK (m:bM) (t:Int) (dm:List (Int×Int)) (es:List (Int×Int)):Prop where
 dj:Pg (gD m t) (Bi m t) (fM dm) es
 Em:∀e∈es,fk m e.2=true/\cU m e.2=cU m t/\0<=e.1
 top:∀e∈es,e.1+254*(unM m dm:Int)<=254*((jZ m).length:Int)
 nd:oW dm
 lt:∀c d,fE dm c=some d->0<=d/\d<1000000000
 nX:es.length+4*unM m dm<=1+4*(jZ m).length
def Je (m:bM)(t x key s:Int):List (Int×Int):=if 0<=aY m.w m.h x s/\aC m.w m.h (aY m.w m.h x s)=aC m.w m.h t/\cV m (aY m.w m.h x s)≠255 then[(key,aY m.w m.h x s)]else[]
def EH (m:bM)(t x key:Int)(j:Nat):List (Int×Int):=(List.range j).flatMap λs:Nat=>Je m t x key s
def SW (x key:Int)(j:Nat):EH m t x key (j+1)=EH m t x key j++Je m t x key j:=by unfold EH;rw[List.range_succ,List.flatMap_append];simp
def alU (x key s:Int):(Je m t x key s).length<=1:=by unfold Je;grind
def Wv (x key:Int):∀j:Nat,(EH m t x key j).length<=j
 |0=>by simp[EH]
 |j+1=>by have:=Wv x key j;have:=alU (m:=m) (t:=t) x key j;rw[SW,List.length_append];omega
def afo {x key:Int}{e:Int×Int}:e∈EH m t x key 4↔∃s:Int,(0<=s/\s<=3)/\(0<=aY m.w m.h x s/\aC m.w m.h (aY m.w m.h x s)=aC m.w m.h t/\cV m (aY m.w m.h x s)≠255)/\e=(key,aY m.w m.h x s):=by
 rw[EH,List.mem_flatMap];constructor
 ·rintro ⟨s,h1,h2⟩;have h1:=List.mem_range.1 h1;unfold Je at h2;grind
 ·rintro ⟨s,h1,h2,rfl⟩;refine⟨s.toNat,List.mem_range.2 (by omega),?_⟩;unfold Je;grind
variable {dm J4:List (Int×Int)}{es es':List (Int×Int)}{k x:Int}
def ajY:∀x n c,Bi m t x n c->0<=c:=λx n c h=>c9 _ _ _ h.1
def YK.skip (h:YK m t dm es)(hp:((k,x)::es').Perm es)(hx:fE dm x≠none):YK m t dm es':=by
 have hm:∀e∈es',e∈es:=λe he=>hp.mem_iff.1 (by simp[he]);refine⟨h.dj.skip (k:=k) (x:=x) ?_ hm (λe he=>?_),λe he=>h.Em e (hm e he),λe he=>h.top e (hm e he),h.nd,h.lt,?_⟩
 ·cases ha:fE dm x with
  |none=>grind
  |some d=>
   have:=h.lt x d ha;rw[fM,ha];show d<cj;unfold cj;omega
 ·grind
 ·have h1:=hp.length_eq;have h2:=h.nX;grind
def YK.step (hm:cW m)(h:YK m t dm es)(hp:((k,x)::es').Perm es)(hmin:∀e∈es,k<=e.1)(hx:fE dm x=none)(hnd:oW J4)(hd:∀y,fE J4 y=if y=x then some k else fE dm y){Q7:List (Int×Int)}(hp2:Q7.Perm (es'++EH m t x (k+cV m x) 4)):
  YK m t J4 Q7/\Q7.length+5*unM m J4+1<=es.length+5*unM m dm:=by
 have hin:(k,x)∈es:=hp.mem_iff.1 (by simp);obtain⟨I_,hsx,Ga⟩:=h.Em _ hin;have Z0:=h.top _ hin;simp only at I_ hsx Ga Z0;have hxc:=jY hm I_;have hcx:=Cv I_;have hfx:fM dm x=cj:=by unfold fM;rw[hx];rfl
 have hN:((jZ m).length:Int)=m.w*m.h:=by rw[<-hm.len];simp[jZ]
 have hN2:=qK ⟨hm.w,hm.h⟩;have Z1:∀y,fM J4 y=if y=x then k else fM dm y:=λy=>by unfold fM;grind
 have hkI:k<cj:=by unfold cj;omega
 have hun:unM m J4+1<=unM m dm:=by
  refine RC (zJ hm hxc) (by grind) ?_ λy hy=>?_
  all_goals grind
 have Eh:∀e,e∈Q7↔e∈es'\/e∈EH m t x (k+cV m x) 4:=λe=>by grind
 have told:∀e∈EH m t x (k+cV m x) 4,fk m e.2=true/\cU m e.2=cU m t/\e.1=k+cV m x/\Bi m t e.2 x (cV m x):=λe he=>by obtain⟨s,hs,⟨h1,h2,h3⟩,rfl⟩:=afo.1 he;have hc:=(Aa h1).2;have ho:=(Cy hm hc).2 h3;obtain⟨s',hs',hb⟩:=I8 hs h1;exact⟨ho,h2,rfl,⟨ho,I_,⟨s',hs',hb⟩,rfl⟩,h2,hsx⟩
 have YJ:∀e∈es',e∈es:=λe he=>hp.mem_iff.1 (by simp[he]);have hl1:=hp.length_eq;have hl2:=hp2.length_eq;have hl3:=Wv (m:=m) (t:=t) x (k+cV m x) 4;have o9:=h.nX;simp[List.length_cons]at hl1;rw[List.length_append]at hl2;refine⟨⟨?_,?_,?_,hnd,?_,by omega⟩,by omega⟩
 ·refine h.dj.step ajY (by grind) hkI hin hmin (by grind) (λy hy=>by grind) (λe he=>?_) (λe he=>?_) λy c hy=>?_
  ·grind
  ·grind
  ·obtain⟨⟨h1,h2,⟨s,hs,h3⟩,rfl⟩,h4,h5⟩:=hy;refine .inr ⟨k+cV m x,Int.le_refl _,(Eh _).2 (.inr (afo.2 ?_))⟩;obtain⟨s',hs',hb⟩:=I8 hs (by rw[h3];exact hxc.2.1);rw[h3]at hb;have J5:=jY hm h1;exact⟨s',hs',by rw[hb];exact⟨J5.2.1,h4,(Cy hm J5).1 h1⟩,by rw[hb]⟩
 ·intro e he;rcases(Eh e).1 he with h1|h1
  ·exact h.Em e (YJ e h1)
  ·have:=told e h1;exact⟨this.1,this.2.1,by rw[this.2.2.1];omega⟩
 ·intro e he;rcases(Eh e).1 he with h1|h1
  ·have:=h.top e (YJ e h1);omega
  ·have:=(told e h1).2.2.1;omega
 ·intro c d hcd;rw[hd]at hcd;split at hcd
  ·cases hcd;omega
  ·exact h.lt c d hcd
def aor (hm:cW m)(ho:fk m t=true):YK m t [] [(0,t)]:=by
 have hf:∀x,fM [] x=cj:=λx=>rfl;have hu:unM m []=(jZ m).length:=by unfold unM;simp_all
 refine⟨⟨?_,?_,λx _=>hf x,?_,?_,?_⟩,?_,?_,akN,?_,by rw[hu];simp⟩
 ·intro e he;rw[List.mem_singleton]at he;subst he;exact .src ⟨rfl,ho,rfl⟩
 ·grind
 ·rintro x k ⟨rfl,_,rfl⟩;grind
 ·grind
 ·grind
 ·grind
 ·grind
 ·intro c d h;cases h
def aiz (m:bM)(t:Int)(dm:List (Int×Int)):Prop:=∀c,fE dm c=(if gO (gD m t) (Bi m t) c<cj then some (gO (gD m t) (Bi m t) c)else none)/\(gO (gD m t) (Bi m t) c<cj->0<=gO (gD m t) (Bi m t) c/\gO (gD m t) (Bi m t) c<1000000000)
def YK.done (h:YK m t dm []):aiz m t dm:=λc=>by
 have h1:=h.dj.done c;unfold fM at h1;cases ha:fE dm c with
 |none=>
  grind
 |some d=>
  have h2:=h.lt c d ha;rw[ha]at h1;have h1:gO (gD m t) (Bi m t) c=d:=h1;rw[h1];exact⟨by rw[if_pos (by unfold cj;omega)],λ_=>h2⟩
def aos (ho:¬fk m t=true):aiz m t []:=λc=>by
 have:gO (gD m t) (Bi m t) c=cj:=xU λd hd=>by
  induction hd with
  |src h=>exact ho h.2.1
  |go _ _ ih=>exact ih
 rw[this];exact⟨by rw[if_neg (Int.lt_irrefl cj)];rfl,λh=>(Int.lt_irrefl cj h).elim⟩
end
end Go.Proofs.YtmegplnmiepfbaaGreatDoor.S
namespace Go.Proofs.YtmegplnmiepfbaaGreatDoor.S
open Go.Sx
attribute [local irreducible] af cv bz bg aA cw bZ St Bx Al App cH cy cD bU aM bF aq bS av ak aW mapA
def alV:P.underlying 207=some (.map 3 3):=by kernel_rfl
def ab9 (w:World):(zeroValue 3).run P w=.ok (ae 0) w:=Lr.arV w
def vI (n:Int):Value:=ae n
def akQ {w h c:Int}(hc:bK w h c):iK c:=by have:=U8 hc;unfold iK;omega
section
variable {F:Nat->Prop}{W w w0:World}{L:List As}{fp hp mb hc:Nat}{ha:Option Addr}{gr:uL}{g:iC}{t:Int}{dm:List (Int×Int)}{es:List (Int×Int)}{vs:List Value}
noncomputable abbrev wiL (hp:Nat)(ha:Option Addr)(hc mb:Nat)(dm es:List (Int×Int)):List As:=[Hp.qI hp ha hc es,fS fB vI mb dm]
def aiA {P8:Option Addr->Int->Int->Int->Option Nat->Option Addr->Int->Int->Bool->World->Prop}{Q:Option Nat->World->Prop}{x k:Int}{v0:Value}(hK:r_ w0 fp (v0::.pointer (sZ gr.p)::vs))(kg:n8 w0 gr g)(hx:fk g.m x=true)(hk:0<=k/\k<10000000000)
  {YL:List (Int×Int)}(YJ:YL.length<100000000)
  (h:∀es' En Bm w',es'.Perm (YL++EH g.m t x (k+cV g.m x) 4)->Sep No w0 w' (wiL hp En Bm mb dm es')->m8 P8 Q (sZ fp) t g.m.w g.m.h (some mb) (sZ hp) w'):
  ∀(n s:Nat) (es:List (Int×Int)) (ha:Option Addr) (hc:Nat) (w:World),s+n=4->es.Perm (YL++EH g.m t x (k+cV g.m x) s)->Sep No w0 w (wiL hp ha hc mb dm es)->iM P8 Q (n+1) (sZ fp) t g.m.w g.m.h (some mb) (sZ hp) k x s w:=by
 intro n;induction n with
 |zero=>
  intro s es ha hc w hs hp' sp;show mB P8 Q (iM P8 Q 0) _ _ _ _ _ _ _ _ _ _;unfold mB;grind
 |succ n ih=>
  intro s es ha hc w hs hp' sp;show mB P8 Q (iM P8 Q (n+1)) _ _ _ _ _ _ _ _ _ _;rw[mB,bN,aG];have skip:∀(w:World),Sep No w0 w (wiL hp ha hc mb dm es)->¬(0<=aY g.m.w g.m.h x s/\aC g.m.w g.m.h (aY g.m.w g.m.h x s)=aC g.m.w g.m.h t/\cV g.m (aY g.m.w g.m.h x s)≠255)->
    iM P8 Q (n+1) (sZ fp) t g.m.w g.m.h (some mb) (sZ hp) k x ((s:Int)+1) w:=λw sp hno=>by
   refine ih (s+1) es ha hc w (by omega) ?_ sp;rw[SW];unfold Je;grind
  refine kM sp λw sp _=>?_;by_cases h0:aY g.m.w g.m.h x s<0
  ·grind
  rw[bh h0];refine e9 sp λw sp _=>e9 sp λw sp _=>?_;by_cases h1:aC g.m.w g.m.h (aY g.m.w g.m.h x s)=aC g.m.w g.m.h t
  ·rw[show(aC g.m.w g.m.h (aY g.m.w g.m.h x s) !=aC g.m.w g.m.h t)=false by grind,cond_false];refine ah (ef ((hK.fr (au sp)) 1 _ rfl) (ju (kg.fr (au sp)) ?_));by_cases h2:cV g.m (aY g.m.w g.m.h x s)=255
   ·grind
   rw[cB h2,cond_false];refine ah (ef ((hK.fr (au sp)) 1 _ rfl) (ju (kg.fr (au sp)) ?_));have hcx:=Cv hx;rw[aG];have hl:=hp'.length_eq;have htl:=Wv (m:=g.m) (t:=t) x (k+cV g.m x) s;rw[List.length_append]at hl;refine Hp.BE sp (i:=0) rfl (by omega) λw ha hc Q7 hp2 sp=>?_;refine ih (s+1) Q7 ha hc w (by omega) ?_ sp;rw[SW];unfold Je;grind
  grind
def aqH (s:Sep F W w (Hp.qI hp ha hc es::L)){e0:Int×Int}{es':List (Int×Int)}(hp':(Hp.g es 0::es').Perm es):∀e∈es,(Hp.g es 0).1<=e.1:=λe he=>by have:=Hp.aeb (Hp.Wt s (i:=0) rfl) he;rw[Hp.Xl]at this;omega
def ajZ {Q:Option Nat->World->Prop}{v0:Value}(hK:r_ w0 fp (v0::.pointer (sZ gr.p)::vs))(kg:n8 w0 gr g)
  (h:∀ha hc dm w',oW dm->aiz g.m t dm->Sep No w0 w' (wiL hp ha hc mb dm [])->Q (some mb) w'):
  ∀(f:Nat) (es:List (Int×Int)) (dm:List (Int×Int)) (ha:Option Addr) (hc:Nat) (w:World),es.length+5*unM g.m dm<=f->YK g.m t dm es->Sep No w0 w (wiL hp ha hc mb dm es)->
   m8 (jf Q (f+1)) Q (sZ fp) t g.m.w g.m.h (some mb) (sZ hp) w:=by
 have hm:=kg.ok.may;have hN:(jZ g.m).length<=1048576:=by
  have:=qK ⟨hm.w,hm.h⟩;have e:((jZ g.m).length:Int)=g.m.w*g.m.h:=by rw[<-hm.len];simp[jZ]
  omega
 intro f;induction f with
 |zero=>
  intro es dm ha hc w hf I s;have o9:=I.nX;obtain rfl:es=[]:=List.eq_nil_of_length_eq_zero (by omega);refine Hp.Dk s (i:=0) rfl (by simp) (λ_ w s=>?_) λh0=>by simp at h0
  show je Q (jf Q 0) _ _ _ _ _ _ _ _ _ _;unfold je;exact h ha hc dm w I.nd I.done s
 |succ f ih=>
  intro es dm ha hc w hf I s;have o9:=I.nX;refine Hp.Dk s (i:=0) rfl (by omega) (λe w s=>?_) λh0 w En Bm es' hp' sN=>?_
  ·subst e;show je Q (jf Q (f+1)) _ _ _ _ _ _ _ _ _ _;unfold je;exact h ha hc dm w I.nd I.done s
  ·have hmin:=aqH (e0:=(0,0)) s hp';have s:=sN;generalize hge:Hp.g es 0=e0 at hp' hmin⊢;obtain⟨k,x⟩:=e0;have hin:(k,x)∈es:=hp'.mem_iff.1 (by simp);obtain⟨I_,hsx,Ga⟩:=I.Em _ hin;have Z0:=I.top _ hin;show je Q (jf Q (f+1)) _ _ _ _ _ _ _ _ _ _;unfold je;have hxI:=akQ (jY hm I_);have hlen:=hp'.length_eq;simp[List.length_cons]at hlen;refine EF (K:=fB) alV (ab9 w) s (i:=1) rfl I.nd hxI (λhx=>?_) λd hx=>?_
   ·refine L6 alV s (i:=1) rfl I.nd hxI λJ4 w' hnd hd _ s=>?_;refine⟨5,aiA (YL:=es') hK kg I_ ⟨Ga,by omega⟩ (by omega) (λQ7 TJ U4 w2 hp2 s2=>?_) 4 0 es' En Bm w' rfl (by show es'.Perm (es'++[]);grind) s⟩;obtain⟨I2,hM⟩:=I.step hm hp' hmin hx hnd hd hp2;grind
   ·exact ih es' dm En Bm w (by omega) (I.skip hp' (by grind)) s
def aiB {Q:Option Nat->World->Prop}{v0:Value}(s0:Sep F W w L)(hK:r_ w fp (v0::.pointer (sZ gr.p)::vs))(kg:n8 w gr g)(ht:bK g.m.w g.m.h t)
  (h:∀mb dm w',oW dm->aiz g.m t dm->Sep F W w' (fS fB vI mb dm::L)->Fr No w w'->Q (some mb) w'):uy (sZ fp) t w Q:=by
 apply Kk;have hm:=kg.ok.may;refine ah (ef (hK 1 _ rfl) ?_);refine jv (bt (F:=No)) kg λw1 s _=>?_;refine aag s _ fB vI λmb w1 s=>?_;refine ah (ef ((hK.fr (au s)) 1 _ rfl) (ju (kg.fr (au s)) ?_));have hop:=Cy hm ht;by_cases hw:cV g.m t=255
 ·rw[dw hw,cond_true];exact h mb [] w1 akN (aos λe=>(hop.1 e) hw) (dQ s0 s (i:=0) rfl) (au s)
 rw[cB hw,cond_false];have ho:=hop.2 hw;refine Hp.Q6 s λhp w1 s=>?_;refine Hp.BE s (i:=0) rfl (by simp) λw1 ha hc es hp' s=>?_;have e1:es=[(0,t)]:=by simp_all
 subst e1;have I:=aor hm ho;have:=ajZ hK kg (λha hc dm w' hnd hin s=>h mb dm w' hnd hin (dQ s0 s (i:=1) rfl) (au s)) _ [(0,t)] [] ha hc w1 (Nat.le_refl _) I s;refine Hq (λa b c w q=>⟨_,q⟩) this
end
def L9:∀l:List Int,flat o8 l=l.map λx=>Value.int .i32 x
 |[]=>rfl
 |x::l=>by have:=L9 l;simp[flat,List.flatMap_cons,List.map_cons]at this⊢;rw[this];rfl
def aak (x:Int)(u:Value)(h:u∈o8 x):u.oneCell'=true:=by simp[o8,List.mem_singleton]at h;rw[h];rfl
def alW {v z:Int}{n k N:Nat}(hk:k<=n)(hN:n+k<=N):
  (flat o8 (List.replicate n v++List.replicate (N-n) z)).take (n*1)++(flat o8 ((List.replicate n v++List.replicate (N-n) z).take n)).take (k*1)++(flat o8 (List.replicate n v++List.replicate (N-n) z)).drop ((n+k)*1)=flat o8 (List.replicate (n+k) v++List.replicate (N-(n+k)) z):=by
 simp only[L9,Nat.mul_one];rw[<-List.map_take,<-List.map_take,<-List.map_drop,<-List.map_append,<-List.map_append];congr 1;rw[List.take_left' (by simp),List.take_replicate,Nat.min_eq_left hk,List.replicate_append_replicate,<-List.drop_drop,List.drop_left' (by simp),List.drop_replicate,Nat.sub_sub]
section
variable {F:Nat->Prop}{W w w0:World}{L:List As}{xa:Option Addr}{xc:Nat}{v:Int}
def agC {Q:Option Addr->Nat->Nat->World->Prop}{b N:Nat}(hN:N<=1048576)(h:∀w',Sep No w0 w' (ak (sZ b) N N 21 1 (flat o8 (List.replicate N v))::L)->Q (sZ b) N N w'):
  ∀(m n:Nat) (w:World),N<=n+m->1<=n->n<=N->Sep No w0 w (ak (sZ b) N N 21 1 (flat o8 (List.replicate n v++List.replicate (N-n) 0))::L)->jH Q (m+1) (sZ b) N N n w:=by
 have done:∀(R:Option Addr->Nat->Nat->Int->World->Prop) (w:World),Sep No w0 w (ak (sZ b) N N 21 1 (flat o8 (List.replicate N v++List.replicate (N-N) 0))::L)->jG Q R (sZ b) N N N w:=λR w s=>by unfold jG;grind
 intro m;induction m with
 |zero=>
  intro n w hm h1 h2 s;have:n=N:=by omega
  subst this;exact done _ _ s
 |succ m ih=>
  intro n w hm h1 h2 s;show jG Q (jH Q (m+1)) _ _ _ _ _;by_cases hn:n=N
  ·grind
  ·rw[jG,bN];apply Pd rfl h2;rw[fU];apply Pc rfl h2;have s:=ay s;have hT:=(aK s (i:=0) rfl vF (by decide)).top h2;refine EM (p:=n) dW s rfl rfl rfl rfl (by decide) (i:=0) rfl (hT.src (e:=21) vF aak) (by omega) (by simp[Addr.add];omega) λw s=>?_;rw[alW (Nat.min_le_left _ _) (by omega)]at s;have e:IntKind.wrap .i64 ((n:Int)+((min n (N-n):Nat):Int))=((n+min n (N-n):Nat):Int):=by rw[aG];omega
   grind
def aee {N:Nat}{Q:Option Addr->Nat->Nat->World->Prop}(s0:Sep F W w L)(hA:Sl w xa 1 xc 1 o8 [v])(hN:1<=N/\N<=1048576)
  (h:∀ra w',Sep F W w' (ak ra N N 21 1 (flat o8 (List.replicate N v))::L)->Fr No w w'->Q ra N N w'):o7 xa 1 xc N w Q:=by
 apply FY;rw[bh,kz (by decide),kz (by omega)];apply Dh (by decide) (by omega) (by omega);have e1:((1:Nat):Int)*N=N:=by omega
 rw[e1,bh (by decide),bh,aG];refine sY (bytes:=4) dW (bt (F:=No)) rfl rfl rfl rfl rfl rfl (by decide) vF rfl (λu hu=>aak 0 u hu) rfl rfl (Nat.le_refl _) (by omega) (by simp[maxLen];omega) λb w' s=>?_;refine EM (p:=0) dW s rfl rfl rfl rfl (by decide) (i:=0) rfl ((hA.fr (au s)).src (e:=21) vF aak) (by omega) rfl λw' s=>?_;have hm:min 1 N=1:=by omega
 rw[hm]at s⊢;have e2:(flat o8 (List.replicate N 0)).take (0*1)++(flat o8 [v]).take (1*1)++(flat o8 (List.replicate N 0)).drop ((0+1)*1)=flat o8 (List.replicate 1 v++List.replicate (N-1) 0):=by simp only[L9,Nat.zero_mul,List.take_zero,List.nil_append,Nat.mul_one,Nat.zero_add];rw[<-List.map_take,<-List.map_drop,<-List.map_append,List.drop_replicate];rfl
 rw[e2]at s;exact⟨N+1,agC hN.2 (λw' s=>h _ _ (dQ s0 s (i:=0) rfl) (au s)) N 1 w' (by omega) (by omega) hN.1 s⟩
end
def SN (m:bM)(t:Int):Int->Int->Prop:=K2 (gD m t) (fX m) (cU m) (ou m) t
def EN (m:bM):Int->Int->Int->Prop:=Jp (fX m) (cU m) (ou m)
structure Q8 (m:bM) (t:Int) (M:Nat) (es:List (Int×Int)) (ds:List Int) (P:Int->Int->Int->Prop):Prop where
 lc:TG (SN m t) (EN m) A0 (fC ds) es P
 len:(ds.length:Int)=m.w*m.h
 jO:ah_ ds
 nod:∀e∈es,ou m e.2/\bK m.w m.h e.2/\0<=e.1/\e.1<A0
 nX:es.length+Fb ds<=M
section
variable {m:bM}{t:Int}{M:Nat}{es es':List (Int×Int)}{ds:List Int}{P P':Int->Int->Int->Prop}{y k:Int}
def SX (hy:0<=y/\y<ds.length):fC ds y=gi ds y.toNat:=if_pos hy
def Q8.agP (h:Q8 m t M es ds P)(hy:ou m y)(J5:bK m.w m.h y)(hk:0<=k/\k<gi ds y.toNat)(hw:Wy (SN m t) (EN m) y k)(hp:es'.Perm (es++[(k,y)]))(hP:∀x n c,P x n c->x=y->(∃d,fC ds n=d/\k<=d+c)\/P' x n c)(hP':∀x n c,P x n c->x≠y->P' x n c)(hn:∀x c,P x y c->False):
  Q8 m t M es' (ds.set y.toNat k) P':=by
 have Ty:0<=y/\y<ds.length:=by rw[h.len];exact J5.2
 have hfy:=SX Ty;have hr:=h.jO _ (fG (i:=y.toNat) (by omega));have hq:∀e,e∈es'↔e∈es\/e=(k,y):=λe=>by grind
 refine⟨h.lc.agP (by grind) hw (aiy Ty) hq hP hP' hn,by rw[List.length_set];exact h.len,λx hx=>?_,λe he=>?_,?_⟩
 ·rcases List.mem_or_eq_of_mem_set hx with hx|rfl
  ·exact h.jO x hx
  ·omega
 ·rcases(hq e).1 he with he|rfl
  ·exact h.nod e he
  ·exact⟨hy,J5,hk.1,by unfold A0;omega⟩
 ·have h1:=hp.length_eq;have h2:=aaj (k:=k) (ds:=ds) (i:=y.toNat) (by omega);have h3:=h.nX;grind
def aov:∀x k,SN m t x k->0<=k:=λx k h=>by obtain⟨_,_,⟨d,hd⟩,rfl⟩:=h;exact mP kY (λx n c h=>c9 _ _ _ h.1) (q8 kY (λx n c h=>c9 _ _ _ h.1) hd).1
def afp:∀x n c,EN m x n c->0<=c:=λx n c h=>by
 obtain⟨_,Hu,⟨h1,_,⟨d,hd⟩,rfl⟩|⟨_,h1⟩⟩:=h
 ·exact mP (λx k h=>by rw[h.2];grind) (λx n c h=>c9 _ _ _ h.1) (q8 (λx k h=>by rw[h.2];grind) (λx n c h=>c9 _ _ _ h.1) hd).1
 ·exact c9 _ _ _ h1
def Ie (m:bM)(t:Int)(ds:List Int):Prop:=(ds.length:Int)=m.w*m.h/\∀x,ou m x->bK m.w m.h x->atF ds x=D m t x
def Q8.done (hm:cW m)(h:Q8 m t M [] ds λ_ _ _=>False)(hs:∀x k,SN m t x k->fC ds x<=k\/A0<=k):Ie m t ds:=by
 refine⟨h.len,λx hx hc=>?_⟩;have hxr:0<=x/\x<ds.length:=by rw[h.len];exact hc.2
 rw[au7 hxr λy hy=>(h.jO y hy).2,<-auu hm hx];have hB:∀d,Wy (SN m t) (EN m) x d->gO (SN m t) (EN m) x<A0:=λd hd=>by have h1:gO (SN m t) (EN m) x=D m t x:=auu hm hx;have h2:=aqa hm (Nn FI c9 (rO hm) hd);unfold A0;omega
 exact(LcI.done (h.lc.lci hs) aov afp hB (by decide)).symm
def aow (hm:cW m):Q8 m t ((m.w*m.h).toNat*2147483647) [] (List.replicate (m.w*m.h).toNat A0) λ_ _ _=>False:=by
 have hN:=qK ⟨hm.w,hm.h⟩;have hf:∀x,fC (List.replicate (m.w*m.h).toNat A0) x=A0:=λx=>by
  unfold fC;split
  ·rename_i h;unfold gi;grind
  ·rfl
 refine⟨⟨λx hx=>?_,λx=>?_,λe he=>by simp at he,λx n c _ hn=>?_⟩,by grind,λx hx=>?_,λe he=>by simp at he,?_⟩
 ·grind
 ·grind
 ·grind
 ·rw[List.mem_replicate]at hx;rw[hx.2];unfold A0;omega
 ·rw[aix];show 0+_<=_;rw[Nat.zero_add];exact Nat.le_refl _
end
section
variable {F:Nat->Prop}{W w w0:World}{L:List As}{fp hp mb hc M:Nat}{ha:Option Addr}{rr:xM}{r:BC}{x:nJ}{gr:uL}{g:iC}{t:Int}{dm es:List (Int×Int)}{ds:List Int}{vs:List Value}
abbrev seL (hp:Nat)(ha:Option Addr)(hc:Nat)(es:List (Int×Int))(rr:xM)(t ep:Int)(ds:List Int):List As:=[Ei rr ⟨t,ep,ds⟩,Hp.qI hp ha hc es]
def aiE {Q:Option Addr->World->Prop}{tM:Option Addr->Addr->Option Addr->Int->Int->Bool->World->Prop}{k node:Int}(hm:cW g.m)(hk:0<=k/\k<A0)(hn:ou g.m node)(hnc:bK g.m.w g.m.h node)(hM:M<4000000000000)
  (h:∀En Bm es' ds' w',Q8 g.m t M es' ds' (λ_ _ _=>False)->(∀x,fC ds' x<=fC ds x)->es'.length+Fb ds'<=es.length+Fb ds->Sep No w0 w' (seL hp En Bm es' rr t g.ep ds')->mD tM Q (sZ fp) (aZ rr.p) (sZ hp) w'){ea:Option Addr}{en ec:Nat}:
  ∀(n i:Nat) (es1:List (Int×Int)) (TK:List Int) (ha1:Option Addr) (YC:Nat) (w:World),i+n=en->Q8 g.m t M es1 TK (λx n c=>n=node/\(x,c)∈(Ku g.m node).drop i)->fC TK node=k->(∀x,fC TK x<=fC ds x)->es1.length+Fb TK<=es.length+Fb ds->
   Sep No w0 w (ak ea en ec 292 2 (flat DC (Ku g.m node))::seL hp ha1 YC es1 rr t g.ep TK)->jU tM Q (n+1) (sZ fp) (aZ rr.p) (sZ hp) k ea en ec en i w:=by
 intro n;induction n with
 |zero=>
  intro i es1 TK ha1 YC w hi I hkn hmono hsum s;show mE tM Q (jU tM Q 0) _ _ _ _ _ _ _ _ _ _;unfold mE;have hen:=(aK s (i:=0) rfl QN (by decide)).len;rw[bh];refine h ha1 YC es1 TK w ⟨I.lc.weaken λx n c hP _ _=>?_,I.len,I.jO,I.nod,I.nX⟩ hmono hsum (ai s);grind
 |succ n ih=>
  intro i es1 TK ha1 YC w hi I hkn hmono hsum s;show mE tM Q (jU tM Q (n+1)) _ _ _ _ _ _ _ _ _ _;unfold mE;have hE:=aK s (i:=0) rfl QN (by decide);rw[bN,wrap_i64 (by omega) (by unfold A0 at hk;have:=I.nX;have:=hE.le;have:=(Rx s (i:=0) rfl).2;simp[maxLen]at this;omega)];refine hE.El rfl (by omega) λp e he yp=>?_;obtain⟨y,c⟩:=e;have hem:=List.mem_of_getElem? he;have hE1:=(aip hm hn hnc).1 hem;have hc0:=afp _ _ _ hE1;have hyn:=hE1.1;have hne:y≠node:=by
   obtain⟨_,_,⟨_,h2,_⟩|⟨h2,_⟩⟩:=hE1
   ·exact h2
   ·exact λe=>h2 (by rw[e])
  have J5:bK g.m.w g.m.h y:=by
   obtain⟨_,_,⟨h1,_⟩|⟨_,h1⟩⟩:=hE1
   ·have:y∈aX g.m (cU g.m node):=by have h3:=hyn;unfold ou at h3;rwa[show cU g.m y=cU g.m node from h1]at h3
    exact(mI (bT hnc) this).2.1
   ·exact jY hm h1.1
  have hcb:c<1000000000:=by
   obtain⟨_,_,⟨h1,_,hw,h2⟩|⟨_,h1⟩⟩:=hE1
   ·have e1:=Q1 hm (bT hnc) ⟨J5,h1⟩ ⟨hnc,rfl⟩;have Tz:=(mI (bT hnc) hn).1;have h3:=Z7 hm (bT hnc) ⟨J5,h1⟩ ⟨hnc,rfl⟩ Tz;have h4:=(Z6 hm (bT hnc) ⟨J5,h1⟩ ⟨hnc,rfl⟩ Tz).2 hw;have h5:=h3.2.1 h4;have h2:c=gO (F_ node) (tZ (fX g.m) (cU g.m) (aC g.m.w g.m.h node)) y:=h2;omega
   ·have:=GI h1;omega
  have Ty:0<=y/\y<TK.length:=by rw[I.len];exact J5.2
  have abM:(Ku g.m node).drop i=(y,c)::(Ku g.m node).drop (i+1):=by obtain⟨IM,hx⟩:=List.getElem?_eq_some_iff.1 he;rw[List.drop_eq_getElem_cons IM,hx]
  unfold A0 at hk;refine aO (yp 0 _ rfl) (aO (yp 1 _ rfl) ?_);refine aV s λeb w s=>?_;refine sT s 0 rfl λw s=>?_;refine ax s (i:=0) rfl rfl rfl λw s=>?_;refine lI s 0 rfl (lI s 0 rfl ?_);rw[aG];have s:=pk 99 [2,3,1,0] s;have hkw:Wy (SN g.m t) (EN g.m) y (k+c):=.go hE1 (by have:=I.lc.ways node (by rw[hkn];unfold A0;omega);rw[hkn]at this;exact this)
  have hlen:=I.nX;refine LL s Ty ⟨by omega,by omega⟩ (λhno=>?_) λhyes w s=>?_
  ·refine ih (i+1) es1 TK ha1 YC w (by omega) ⟨I.lc.weaken λx n2 c2 hP _ _=>?_,I.len,I.jO,I.nod,I.nX⟩ hkn hmono hsum (pk 99 [2,0,1] s);obtain⟨rfl,h2⟩:=hP;rw[abM]at h2;rcases List.mem_cons.1 h2 with h2|h2
   ·obtain⟨rfl,rfl⟩:=h2;left;rw[hkn,SX Ty];exact hno
   ·exact .inr (.inr ⟨rfl,h2⟩)
  ·simp only at hyes;refine lI s 3 rfl (lI s 3 rfl ?_);rw[aG];refine Hp.BE s (i:=1) rfl (by omega) λw TJ U4 Q7 hp2 s=>?_;have I2:Q8 g.m t M Q7 (TK.set y.toNat (k+c)) (λx n c=>n=node/\(x,c)∈(Ku g.m node).drop (i+1)):=by
    refine I.agP hyn J5 ⟨by omega,hyes⟩ hkw hp2 (λx n2 c2 hP ex=>?_) (λx n2 c2 hP ex=>?_) λx c2 hP=>hne hP.1
    ·obtain⟨rfl,h2⟩:=hP;rw[abM]at h2;rcases List.mem_cons.1 h2 with h2|h2
     ·obtain⟨_,rfl⟩:=h2;exact .inl ⟨_,rfl,by omega⟩
     ·exact .inr ⟨rfl,h2⟩
    ·obtain⟨rfl,h2⟩:=hP;rw[abM]at h2;rcases List.mem_cons.1 h2 with h2|h2
     ·simp[Prod.mk.injEq]at h2;exact(ex h2.1).elim
     ·exact⟨rfl,h2⟩
   have Z1:=aiy (k:=k+c) Ty;have hss:=aaj (k:=k+c) (ds:=TK) (i:=y.toNat) (by omega);have IJ:=hp2.length_eq;rw[List.length_append,List.length_singleton]at IJ;refine ih (i+1) Q7 _ TJ U4 w (by omega) I2 (by rw[Z1,if_neg λe=>hne e.symm];exact hkn) (λz=>?_) (by omega) (pk 99 [2,0,1] s);rw[Z1];split
   ·rename_i e;rw[e];have:=hmono y;rw[SX Ty]at this;omega
   ·exact hmono z
end
section
variable {F:Nat->Prop}{W w w0:World}{L:List As}{fp hp mb hc M:Nat}{ha:Option Addr}{rr:xM}{r:BC}{x:nJ}{gr:uL}{g:iC}{t:Int}{dm es:List (Int×Int)}{ds:List Int}{vs:List Value}
def aj0 {Q:Option Addr->World->Prop}(hF:r_ w0 fp (.pointer (sZ r.p)::vs))(k:EE w0 r gr.p x)(kg:n8 w0 gr g)(I:yL g x)(hf:NK g x)(hM:M<4000000000000)
  (h:∀ha hc ds w',Ie g.m t ds->Sep No w0 w' (seL hp ha hc [] rr t g.ep ds)->Q (sZ rr.p) w'):
  ∀(f:Nat) (es:List (Int×Int)) (ds:List Int) (ha:Option Addr) (hc:Nat) (w:World),es.length+Fb ds<=f->Q8 g.m t M es ds (λ_ _ _=>False)->(∀x k,SN g.m t x k->fC ds x<=k\/A0<=k)->Sep No w0 w (seL hp ha hc es rr t g.ep ds)->
   mD (iP Q (f+1)) Q (sZ fp) (aZ rr.p) (sZ hp) w:=by
 have hm:=kg.ok.may;intro f;induction f with
 |zero=>
  intro es ds ha hc w hf' J hs s;obtain rfl:es=[]:=List.eq_nil_of_length_eq_zero (by omega);refine Hp.Dk s (i:=1) rfl (by simp) (λ_ w s=>?_) λh0=>by simp at h0
  show iO Q (iP Q 0) _ _ _ _ _ _ _;unfold iO;exact h ha hc ds w (J.done hm hs) s
 |succ f ih=>
  intro es ds ha hc w hf' J hs s;have o9:=J.nX;refine Hp.Dk s (i:=1) rfl (by omega) (λe w s=>?_) λh0 w En Bm es' hp' sN=>?_
  ·subst e;show iO Q (iP Q (f+1)) _ _ _ _ _ _ _;unfold iO;exact h ha hc ds w (J.done hm hs) s
  ·have s:=sN;generalize hge:Hp.g es 0=e0 at hp'⊢;obtain⟨key,node⟩:=e0;have hin:(key,node)∈es:=hp'.mem_iff.1 (by simp);obtain⟨hn,hnc,Ga,hkC⟩:=J.nod _ hin;have hle:=J.lc.key _ hin;have hnr:0<=node/\node<ds.length:=by rw[J.len];exact hnc.2
   rw[SX hnr]at hle;have hl:=hp'.length_eq;simp[List.length_cons]at hl;have hq:∀e,e∈es↔e∈es'\/e=(key,node):=λe=>by grind
   have J1:Q8 g.m t M es' ds (λx n c=>n=node/\fC ds node=key/\EN g.m x n c):=⟨J.lc.pop hq,J.len,J.jO,λe he=>J.nod e ((hq e).2 (.inl he)),by omega⟩;show iO Q (iP Q (f+1)) _ _ _ _ _ _ _;unfold iO;have hrk:=SD s;have hdr:=J.jO _ (fG (i:=node.toNat) (by omega));apply dJ (hrk.cell 2 _ rfl);apply F5 hrk.V (k:=node.toNat) (by omega) (by have hvl:ds.length=rr.n:=hrk.V.len;omega);rw[aG (n:=gi ds node.toNat)];by_cases hgt:key>gi ds node.toNat
   ·rw[bN hgt];refine ih es' ds En Bm w (by omega) ⟨J1.lc.weaken λx n c hP _ _=>?_,J1.len,J1.jO,J1.nod,J1.nX⟩ hs s;obtain⟨_,h2,_⟩:=hP;rw[SX hnr]at h2;omega
   ·rw[bh hgt];have hkey:fC ds node=key:=by rw[SX hnr];omega
    refine ah (ef (by have:=(hF.fr (au s)) 0 _ rfl;rw[add_zero]at this;exact this) ?_);refine ab0 s (k.fr (au s)) (kg.fr (au s)) I hf hnc hn λea en ec w s _=>?_;have J2:Q8 g.m t M es' ds (λx n c=>n=node/\(x,c)∈(Ku g.m node).drop 0):=⟨J1.lc.weaken λx n c hP hE _=>by obtain⟨rfl,_,_⟩:=hP;exact .inr (.inr ⟨rfl,by rw[List.drop_zero];exact(aip hm hn hnc).2 hE⟩),J1.len,J1.jO,J1.nod,J1.nX⟩
    refine⟨en+1,aiE hm ⟨Ga,hkC⟩ hn hnc hM (λTJ U4 Q7 ds2 w2 J3 hmono hsum s=>?_) en 0 es' ds En Bm w (by omega) J2 hkey (λ_=>Int.le_refl _) (Nat.le_refl _) s⟩;grind
def aiH {Q:Option Addr->World->Prop}(hF:r_ w0 fp (.pointer (sZ r.p)::vs))(k:EE w0 r gr.p x)(kg:n8 w0 gr g)(I:yL g x)(hf:NK g x)(hM:M<4000000000000)(ht:bK g.m.w g.m.h t)(hnd:oW dm)(hin:aiz g.m t dm)
  (h:∀ha hc ds w',Ie g.m t ds->Sep No w0 w' (seL hp ha hc [] rr t g.ep ds)->Q (sZ rr.p) w'){na:Option Addr}{nn nc:Nat}:
  ∀(n i:Nat) (es:List (Int×Int)) (ds:List Int) (ha:Option Addr) (hc:Nat) (w:World),i+n=nn->Q8 g.m t M es ds (λ_ _ _=>False)->(∀x k,SN g.m t x k->x∈(aX g.m (cU g.m t)).take i->fC ds x<=k\/A0<=k)->
   Sep No w0 w (ak na nn nc 3 1 (flat one (aX g.m (cU g.m t)))::fS fB vI mb dm::seL hp ha hc es rr t g.ep ds)->jg Q (n+1) (sZ fp) (aZ rr.p) (sZ hp) (some mb) na nn nc nn i w:=by
 have hm:=kg.ok.may;have hs0:=bT ht;have aBc:=zZ hs0;intro n;induction n with
 |zero=>
  intro i es ds ha hc w hi J hs s;show m9 Q (jg Q 0) _ _ _ _ _ _ _ _ _ _;unfold m9;have hnl:=(aK s (i:=0) rfl cE (by decide)).len;rw[bh];have hs':∀x k,SN g.m t x k->fC ds x<=k\/A0<=k:=λx k hx=>hs x k hx (by obtain⟨h1,h2,_⟩:=hx;have h1:x∈aX g.m (cU g.m x):=h1;grind)
  have:=aj0 hF k kg I hf hM h _ es ds ha hc w (Nat.le_refl _) J hs' (ai (ai s));exact Hq (λa b c w q=>⟨_,q⟩) this
 |succ n ih=>
  intro i es ds ha hc w hi J hs s;show m9 Q (jg Q (n+1)) _ _ _ _ _ _ _ _ _ _;unfold m9;have hN:=aK s (i:=0) rfl cE (by decide);have hnl:=hN.len;have apQ:(aX g.m (aC g.m.w g.m.h t)).length=nn:=hnl;rw[bN,aG];apply hN.rE rfl (by omega);have hmem:=fG (l:=aX g.m (cU g.m t)) (i:=i) (by omega);obtain⟨hyo,J5,hys⟩:=mI hs0 hmem;have hyn:ou g.m (gi (aX g.m (cU g.m t)) i):=by show _∈aX g.m (aC g.m.w g.m.h _);rw[hys];exact hmem
  have yw:(aX g.m (cU g.m t)).take (i+1)=(aX g.m (cU g.m t)).take i++[gi (aX g.m (cU g.m t)) i]:=by rw[List.take_add_one,ig (by omega)];rfl
  generalize gi (aX g.m (cU g.m t)) i=y at hyo J5 hys hyn yw⊢;have Ty:0<=y/\y<ds.length:=by rw[J.len];exact J5.2
  have o9:=J.nX;obtain⟨YD,TB⟩:=hin y;have only:∀k,SN g.m t y k->k=gO (gD g.m t) (Bi g.m t) y/\gO (gD g.m t) (Bi g.m t) y<cj:=λk hk=>by
   obtain⟨_,_,⟨d,hd⟩,rfl⟩:=hk;refine⟨rfl,?_⟩;have h1:=Wy.mono (λx k h=>.src h) (λx n c d e h=>.go e.1 h) (q8 kY (λx n c h=>c9 _ _ _ h.1) hd).1;refine Classical.byContradiction λhno=>?_;have hl:=aaV (S:=gD g.m t) (E:=Bi g.m t) (λx k h=>SG h) (λx n c h=>GI h.1) (jZ g.m) (λx d h=>by
    cases h with
    |src h=>exact zJ hm (jY hm (by rw[h.1];exact h.2.1))
    |go e _=>exact zJ hm (jY hm e.1.1)) hd
   have h2:((jZ g.m).length:Int)=g.m.w*g.m.h:=by rw[<-hm.len];simp[jZ]
   have h3:=qK ⟨hm.w,hm.h⟩;unfold cj at hno;omega
  have skip:∀(w:World),(∀k,SN g.m t y k->fC ds y<=k\/A0<=k)->Sep No w0 w (ak na nn nc 3 1 (flat one (aX g.m (cU g.m t)))::fS fB vI mb dm::seL hp ha hc es rr t g.ep ds)->
    jg Q (n+1) (sZ fp) (aZ rr.p) (sZ hp) (some mb) na nn nc nn ((i:Int)+1) w:=λw hy s=>by
   refine ih (i+1) es ds ha hc w (by omega) J (λz k hz hzm=>?_) s;rw[yw]at hzm;rcases List.mem_append.1 hzm with h1|h1
   ·exact hs z k hz h1
   ·rw[List.mem_singleton]at h1;subst h1;exact hy k hz
  refine EF (K:=fB) alV (ab9 w) s (i:=1) rfl hnd (akQ J5) (λhx=>?_) λd hx=>?_
  ·refine skip w (λk hk=>?_) s;rw[hx]at YD;rw[if_pos (only k hk).2]at YD;cases YD
  ·rw[hx]at YD;have hlt:gO (gD g.m t) (Bi g.m t) y<cj:=by refine Classical.byContradiction λhno=>?_;rw[if_neg hno]at YD;cases YD
   rw[if_pos hlt]at YD;obtain rfl:d=gO (gD g.m t) (Bi g.m t) y:=Option.some.inj YD;obtain⟨hd0,hd1⟩:=TB hlt;have s2:=pk 99 [2,3,0,1] s;refine LL s2 Ty ⟨hd0,by omega⟩ (λhno=>?_) λhyes w s=>?_
   ·refine skip w (λk hk=>.inl ?_) s;rw[(only k hk).1,SX Ty];exact hno
   ·refine Hp.BE s (i:=1) rfl (by omega) λw TJ U4 Q7 hp2 s=>?_;have hsrc:SN g.m t y (gO (gD g.m t) (Bi g.m t) y):=⟨hyn,hys,by refine Classical.byContradiction λhno=>?_;have:gO (gD g.m t) (Bi g.m t) y=cj:=xU λd hd=>hno ⟨d,hd⟩;omega,rfl⟩
    have J2:=J.agP hyn J5 ⟨hd0,hyes⟩ (.src hsrc) hp2 (λ_ _ _ h=>h.elim) (λ_ _ _ h _=>h) λ_ _ h=>h;have Z1:=aiy (k:=gO (gD g.m t) (Bi g.m t) y) Ty;refine ih (i+1) Q7 _ TJ U4 w (by omega) J2 (λz k hz hzm=>?_) (pk 99 [2,3,0,1] s);rw[Z1];by_cases ez:z=y
    ·subst ez;rw[if_pos rfl,(only k hz).1];exact .inl (Int.le_refl _)
    ·rw[if_neg ez];rw[yw]at hzm;rcases List.mem_append.1 hzm with h1|h1
     ·exact hs z k hz h1
     ·rw[List.mem_singleton]at h1;exact(ez h1).elim
def atd {b:Nat}{v:Int}(s:Sep F W w (av b 21 [.int .i32 v]::L)):Sl w (sZ b) 1 1 1 o8 [v]:=
 aK (g_ s (i:=0) rfl rfl (by decide) (λu hu=>by rw[List.mem_singleton]at hu;rw[hu];rfl)) (i:=0) rfl vF (by decide)
def aiI {Q:Option Addr->World->Prop}(s0:Sep F W w L)(hF:r_ w fp (.pointer (sZ r.p)::.pointer (sZ gr.p)::vs))(k:EE w r gr.p x)(kg:n8 w gr g)(I:yL g x)(hf:NK g x)(ht:bK g.m.w g.m.h t)(wm:g.m.w*g.m.h<=1600)
  (h:∀rr ds w',Ie g.m t ds->Sep F W w' (Ei rr ⟨t,g.ep,ds⟩::L)->Fr No w w'->Q (sZ rr.p) w'):uw (sZ fp) t w Q:=by
 apply Kl;have hm:=kg.ok.may;have hN:=qK ⟨hm.w,hm.h⟩;refine ah (ef (hF 1 _ rfl) ?_);refine jv (bt (F:=No)) kg λw1 s _=>?_;refine ah (ef ((hF.fr (au s)) 1 _ rfl) (rA (kg.fr (au s)) ?_));refine aQ s λib w1 s=>?_;rw[aG,show g.m.w*g.m.h=(((g.m.w*g.m.h).toNat:Nat):Int) by omega];refine aee s (atd s) (by omega) λda w1 s _=>?_;refine aQ s λrb w1 s=>?_;have alX:=aow (t:=t) hm;have hMb:(g.m.w*g.m.h).toNat*2147483647<4000000000000:=by omega
 generalize hMe:(g.m.w*g.m.h).toNat*2147483647=M at alX hMb;have s1:=pk 99 [0,1] s;have s1:Sep No w w1 [Ei ⟨rb,da,(g.m.w*g.m.h).toNat,(g.m.w*g.m.h).toNat⟩ ⟨t,g.ep,List.replicate (g.m.w*g.m.h).toNat A0⟩]:=Yz s1 alX.jO;refine Hp.Q6 s1 λhp w1 s=>?_;refine aiB s (hF.fr (au s)) (kg.fr (au s)) ht λmb dm w1 hnd hin s _=>?_;have s:=ay s;have hc0:∀{w':World} {L':List As},Sep No w w' L'->w'.cell? (aZ fp)=some (.pointer (sZ r.p)):=λs=>by have:=(hF.fr (au s)) 0 _ rfl;exact this
 refine ah (ef (hc0 s) ?_);refine e9 s λw1 s _=>⟨hc0 s,?_⟩;have hs0:=bT ht;have hps:x.ps[(aC g.m.w g.m.h t).toNat]? =some (x.ps[(aC g.m.w g.m.h t).toNat]'(by have:=I.len;have:=hs0.2;omega)):=List.getElem?_eq_getElem _;generalize x.ps[(aC g.m.w g.m.h t).toNat]'(by grind)=q at hps;have hc:=(H_ I hf hps).1;rw[Int.toNat_of_nonneg hs0.2.1]at hc;have o9:=zZ hs0;rw[show aC g.m.w g.m.h t=(((aC g.m.w g.m.h t).toNat:Nat):Int)from(Int.toNat_of_nonneg hs0.2.1).symm];refine Z_ s (k.fr (au s)) hps (by grind) λna nn nc w1 s _=>?_;rw[hc]at s;refine⟨nn+1,aiH (rr:=⟨rb,da,(g.m.w*g.m.h).toNat,(g.m.w*g.m.h).toNat⟩) hF k kg I hf hMb ht hnd hin (λha hc ds w' hok s'=>h _ ds w' hok (dQ s0 s' (i:=0) rfl) (au s')) nn 0 [] (List.replicate (g.m.w*g.m.h).toNat A0) none 0 w1 (by omega) alX (λx k _ h=>by simp at h) ?_⟩;exact pk 99 [0,1,3,2] s
end
end Go.Proofs.YtmegplnmiepfbaaGreatDoor.S
namespace Go.Proofs.YtmegplnmiepfbaaGreatDoor.S
open Go.Sx
def isS {p:Addr}{A B:Prop}(h:A):cond (!(some p).isNone) A B:=h
attribute [local irreducible] af cv bz bg aA cw bZ St Bx Al App cH cy cD bU aM bF aq bS av ak aW mapA
structure GQ where
 kept:Option (xM×GF)
 fe:Int
def arZ (k:Option (xM×GF)):Option Addr:=k.map λq=>(aZ q.1.p)
def alY (mp gp:Nat)(f:GQ):List Value:=[.pointer (sZ mp),.pointer (sZ gp),.pointer (arZ f.kept),.int .u64 f.fe]
def aoz (k:Option (xM×GF)):List As:=match k with
 |some q=>[Ei q.1 q.2]
 |none=>[]
def acd (fp mp gp:Nat)(f:GQ):List As:=av fp 197 (alY mp gp f)::aoz f.kept
def uQ (fp mp gp:Nat)(f:GQ):As:=aW True (acd fp mp gp f)
structure ace (g:iC) (f:GQ):Prop where
 kept:∀q,f.kept=some q->q.2.ep<=g.ep/\(q.2.ep=g.ep->bK g.m.w g.m.h q.2.goal/\Ie g.m q.2.goal q.2.ds)
 u:Ta.U f.fe
def NT (f:GQ):Option (Int×Int):=f.kept.map λq=>(q.2.goal,q.2.ep)
section
variable {F:Nat->Prop}{W w w0:World}{L:List As}{fp:Nat}{rr:xM}{r:BC}{x:nJ}{gr:uL}{g:iC}{t:Int}{f:GQ}{mp gp:Nat}
def NU (s:Sep F W w (uQ fp mp gp f::L)):Sep F W w (acd fp mp gp f++L):=(gR s).2
def SY (s:Sep F W w (acd fp mp gp f++L)):Sep F W w (uQ fp mp gp f::L):=dA s trivial
def acf {Q:Option Addr->World->Prop}(s:Sep F W w L)(h:∀fp w',Sep F W w' (uQ fp mp gp ⟨none,0⟩::L)->Fr No w w'->Q (sZ fp) w'):Gg (sZ mp) (sZ gp) w Q:=by apply abc;refine mN (mN ?_);refine aQ (bt (F:=No)) λfb w1 s1=>?_;have s2:Sep No w w1 [uQ fb mp gp ⟨none,0⟩]:=SY s1;exact h fb w1 (dQ s s2 (i:=0) rfl) (au s2)
def NV (s:Sep F W w (uQ fp mp gp f::L)):r_ w fp (alY mp gp f):=by have s:=NU s;exact lz s (i:=0) rfl
def afq {q:xM×GF}(s:Sep F W w (uQ fp mp gp f::L))(h:f.kept=some q):GG w q.1 q.2:=by have s:=NU s;unfold acd aoz at s;rw[h]at s;exact SD (ai s)
def Ww {Q:Int->World->Prop}(k:r_ w fp (alY mp gp f))(h:Q f.fe w):pH (sZ fp) w Q:=by apply Cc;exact mN (ah (aO (k 3 _ rfl) h))
def Wx {Q:Int->World->Prop}(h:Q 0 w):pH Option.none w Q:=Cc _ _ _ h
def Yg {Q:World->Prop}(s:Sep F W w (uQ fp mp gp f::L))(h:∀w',Sep F W w' (uQ fp mp gp ⟨none,f.fe⟩::L)->Q w'):qA (sZ fp) w Q:=by apply Dx;have s:=NU s;have s:=s;refine isS (ah (sT s 0 rfl λw s=>?_));refine h w (SY ?_);apply gw s;exact List.Sublist.cons_cons _ (List.sublist_append_right _ _)
def Yh {Q:Option Addr->World->Prop}(s:Sep F W w (n7 gr g::uM r gr.p x::uQ fp r.p gr.p f::L))(I:yL g x)(J:ace g f)(ht:bK g.m.w g.m.h t)(wm:g.m.w*g.m.h<=1600)
  (h:∀(x':nJ) rr ds w',yL g x'->NK g x'->x'.clean=g.ep->x'.fe=ad2 (kH g x x.ps.length).length x.fe->Ie g.m t ds->
   Sep F W w' (n7 gr g::uM r gr.p x'::uQ fp r.p gr.p ⟨some (rr,⟨t,g.ep,ds⟩),if NT f=some (t,g.ep)then f.fe else Ta.sat f.fe 1⟩::L)->Q (sZ rr.p) w'):wK (sZ fp) t w Q:=by
 apply MO;have kg:=oU s;have hm:=kg.ok.may;have kf:=NV (ai (ai s));have arD:=LP hm ht;refine mN (ah (ef (kf 1 _ rfl) (ju kg ?_)));rw[cB (by omega),cond_false];refine ah (ef (by have:=kf 0 _ rfl;rw[add_zero]at this;exact this) ?_);refine Wp s I λx' w1 I' hfr yp Wi s=>?_;have s:=ay s;have kg:=oU s;have kf:=NV (ai (ai s));have b5:∀(w2:World),NT f≠some (t,g.ep)->Sep F W w2 (n7 gr g::uM r gr.p x'::uQ fp r.p gr.p f::L)->oI Q (sZ fp) t w2:=λw2 hne s=>by refine aiI s (NV (ai (ai s))) (Wm (ai s)) (oU s) I' hfr ht wm λrr ds w3 hok s _=>?_;have s1:=ck s (L':=uQ fp r.p gr.p f::Ei rr ⟨t,g.ep,ds⟩::n7 gr g::uM r gr.p x'::L) (List.perm_middle (l₁:=[_,_,_]));have s1:=NU s1;have s1:=s1;refine ah (sT s1 0 rfl λw3 s=>?_);refine ah (lI s 0 rfl ?_);apply Ta.BB J.u (by unfold Ta.U;omega);refine ah (ax s (i:=0) rfl rfl rfl λw3 s=>?_);refine ah (lP s 0 rfl ?_);apply h x' rr ds w3 I' hfr yp Wi hok;rw[if_neg hne];have s2:=gw s (List.Sublist.cons_cons _ (List.sublist_append_right _ _));exact ck (SY s2) (L':=n7 gr g::uM r gr.p x'::uQ fp r.p gr.p _::L) (List.perm_middle (l₁:=[_,_])).symm
 refine ah (ef (kf 2 _ rfl) ?_);cases hk:f.kept with
 |none=>
  show cond true _ _;refine b5 _ ?_ s;unfold NT;grind
 |some q=>
  obtain⟨rr0,t0⟩:=q;have hP:arZ (some (rr0,t0))=sZ rr0.p:=rfl;apply mN;have kr:=afq (ai (ai s)) hk;have hcell:w1.drew.cell? ((aZ fp).add 2)=some (.pointer (sZ rr0.p)):=by have:=kf 2 _ rfl;grind
  refine ah (ef hcell (ah (aO (by have:=kr.cell 0 _ rfl;rw[add_zero]at this;exact this) ?_)));have hkg:NT f=some (t0.goal,t0.ep):=by unfold NT;rw[hk];rfl
  by_cases hg:t0.goal=t
  ·rw[show(t0.goal !=t)=false by grind,cond_false];refine ah (ef hcell (ah (aO (kr.cell 1 _ rfl) ?_)));refine ah (ef (kf 1 _ rfl) (rA kg ⟨kr.cell 1 _ rfl,hcell,?_⟩));by_cases he:t0.ep=g.ep
   ·rw[show(t0.ep !=g.ep)=false by grind,cond_false];refine ah (ef hcell ?_);have hq:=(J.kept _ hk).2 he;rw[hg]at hq;apply h x' rr0 t0.ds _ I' hfr yp Wi hq.2;have e:f=⟨some (rr0,⟨t,g.ep,t0.ds⟩),f.fe⟩:=by
     cases f with
     |mk kept fe=>
      simp only at hk;rw[hk,<-hg,<-he]
    grind
   grind
  grind
end
end Go.Proofs.YtmegplnmiepfbaaGreatDoor.S
namespace Go.Proofs.YtmegplnmiepfbaaGreatDoor.S
open Go.Sx
attribute [local irreducible] af cv bz bg aA cw bZ St Bx Al App cH cy cD bU aM bF aq bS av ak aW mapA
section
variable {m:bM}{t sc c:Int}{ds:List Int}
def al0 (hm:cW m){e:Int×Int}(h:e∈vC m c):ou m e.1/\bK m.w m.h e.1/\ou m c/\bK m.w m.h c/\0<e.2/\e.2<255:=by obtain⟨ho,s,hs,h1,h2,rfl⟩:=Wc.1 h;obtain⟨h3,h4⟩:=Cz h1;have hst:fX m c (gN m.w m.h c s) (cV m (gN m.w m.h c s)):=⟨ho,h2,⟨s,hs,h3.symm⟩,rfl⟩;have hne:cU m c≠cU m (gN m.w m.h c s):=λe=>h4 (by rw[<-h3];exact e.symm);have hn:=rO hm _ _ _ hst hne;exact⟨hn.2,jY hm h2,hn.1,jY hm ho,Cv h2⟩
def Ky {at_:Int->Int}:(Ix m at_ c).Pairwise (λa b=>a.s<b.s)/\∀x∈Ix m at_ c,x.c=d_ m.w m.h c/\0<=x.s/\x.s<=3/\fk m c=true:=by
 unfold Ix vC;split
 ·rw[GC,List.filterMap_filterMap];have side:∀(a:Nat),a<4->∀x,(FH m c a).bind (λe=>if at_ e.1=cj then none else some (⟨d_ m.w m.h c,Ay m.w m.h c e.1,e.2+at_ e.1⟩:bj))=some x->x.s=a/\x.c=d_ m.w m.h c:=λa ha x h=>by
   unfold FH at h;split at h
   ·rename_i h4;simp only[Option.bind_some]at h;split at h
    ·cases h
    ·cases h;obtain⟨h5,_⟩:=Cz h4.1;refine⟨?_,rfl⟩;rw[h5];exact Wb ⟨by omega,by omega⟩ (by grind)
   ·simp at h
  constructor
  ·rw[List.pairwise_filterMap];refine List.Pairwise.imp_of_mem ?_ List.pairwise_lt_range;grind
  grind
 simp_all
def aoC {at_:Int->Int}:(Ix m at_ c).length<=4:=by
 unfold Ix vC;split
 ·unfold GC;grind
 ·simp
def aiJ {α β:Type}{f:α->List β}{k:Nat}:∀{l:List α},(∀a∈l,(f a).length<=k)->(l.flatMap f).length<=l.length*k
 |[],_=>by simp
 |a::l,h=>by have h1:=h a (by simp);have h2:=aiJ (l:=l) λb hb=>h b (by simp[hb]);rw[List.flatMap_cons,List.length_append,List.length_cons,Nat.add_mul,Nat.one_mul];omega
def Wz {at_:Int->Int}(hs:dY m.w m.h sc):(E7 m at_ t sc).Nodup/\(E7 m at_ t sc).length<=1025:=by
 have o9:=zZ hs;constructor
 ·rw[E7,List.nodup_append];refine⟨?_,by grind,?_⟩
  ·show List.Pairwise _ _;rw[List.pairwise_flatMap];refine⟨λc _=>List.Pairwise.imp (λh e=>by grind) Ky.1,?_⟩;refine List.Pairwise.imp_of_mem ?_ (ajW hs);intro c c' hc Bm hne x hx y hy e;have h1:=(Ky.2 x hx).1;have h2:=(Ky.2 y hy).1;obtain⟨_,c1,c2⟩:=mI hs hc;obtain⟨_,c3,c4⟩:=mI hs Bm;have g1:=n6 c1;have g2:=n6 c3;grind
  ·intro x hx y hy e;obtain⟨c,hc,hx⟩:=List.mem_flatMap.1 hx;have h1:=(Ky.2 x hx).2;grind
 ·unfold E7;have h1:=aiJ (f:=Ix m at_) (l:=aX m sc) λc _=>aoC;grind
end
section
variable {F:Nat->Prop}{W w w0:World}{L:List As}{rr:xM}{gr:uL}{g:iC}{t sc:Int}{ds:List Int}{a:Option Addr}{n c:Nat}{es:List bj}
def ava {x:bj}{K:Option Addr->Nat->Nat->World->Prop}(s:Sep F W w (ak a n c 294 3 (flat fW es)::L))(hn:n<=1000000000)
  (k:∀a' c' w',Sep F W w' (ak a' (n+1) c' 294 3 (flat fW (es++[x]))::L)->K a' (n+1) c' w'):Bx [ae x.c,ae x.s,ae x.k] 294 w λp w1=>App P #[278,278] 278 (.slice a n c) (.slice (some p) 1 1) w1 K:=by
 refine aQ s λb w s=>?_;have src:Src w (sZ b) 1 3 (fW x):=⟨rfl,V6 x,λj u hj=>by rw[cu,Nat.zero_add];exact cR s (i:=0) rfl rfl hj⟩;refine iw dW s (i:=1) (bytes:=24) rfl rfl rfl rfl rfl rfl (by decide) rfl src (by simp[maxLen];omega) (by omega) (λe=>by cases e) λa1 c1 w1 s1=>?_;have e:flat fW es++fW x=flat fW (es++[x]):=by rw[gd];simp[flat]
 rw[e]at s1;exact k _ _ _ (ai s1)
def WA {Q:Option Addr->Nat->Nat->World->Prop}(s0:Sep F W w L)(kg:n8 w gr g)(kr:GG w rr ⟨t,g.ep,ds⟩)(hok:Ie g.m t ds)(ht:bK g.m.w g.m.h t)(hs:dY g.m.w g.m.h sc)
  (h:∀ra rn rc w',Sep F W w' (ak ra rn rc 294 3 (flat fW (NA (E7 g.m (D g.m t) t sc)))::L)->Fr No w w'->Q ra rn rc w'):B7 (sZ gr.p) (sZ rr.p) sc w Q:=by
 apply VF;have hm:=kg.ok.may;have o9:=zZ hs;obtain⟨hnd,hlen⟩:=Wz hs;have hN:=qK ⟨hm.w,hm.h⟩;refine jv (bt (F:=No)) kg λw1 s _=>?_;apply mN;refine Yc (kr.fr (au s)) (rA (kg.fr (au s)) ?_);rw[bne_self_eq_false,cond_false];refine xL s (kg.fr (au s)) hs λna nn nc w1 s _=>?_;have hnl:=(aK s (i:=0) rfl cE (by decide)).len;have fin:∀(oa:Option Addr) (on oc:Nat) (w2:World),Sep No w w2 [ak oa on oc 294 3 (flat fW (E7 g.m (D g.m t) t sc))]->kI oa on oc w2 λra rn rc w3=>Q ra rn rc w3:=λoa on oc w2 s=>by have hS:=aK s (i:=0) rfl nI (by decide);have:=hS.len;refine AD s hS (by omega) hnd λra rc w3 s _=>?_;exact h ra on rc w3 (dQ s0 s (i:=0) rfl) (au s)
 have nodes:∀(k i:Nat) (oa:Option Addr) (on oc:Nat) (w2:World),i+k=nn->on<=4*i->Sep No w w2 [ak oa on oc 294 3 (flat fW (((aX g.m sc).take i).flatMap (Ix g.m (D g.m t)))),ak na nn nc 3 1 (flat one (aX g.m sc))]->
   oq Q (k+1) (sZ gr.p) (sZ rr.p) sc g.m.w g.m.h oa on oc na nn nc nn i w2:=by
  intro k;induction k with
  |zero=>
   intro i oa on oc w2 hi ho s;show vw Q (oq Q 0) _ _ _ _ _ _ _ _ _ _ _ _ _ _;rw[vw,bh];rw[List.take_of_length_le (by omega)]at s;apply ZV (kr.fr (au s));refine e9 s λw2 s _=>?_;unfold E7 at fin;by_cases SP:aC g.m.w g.m.h t=sc
   ·rw[dw SP,cond_true];apply ju (kg.fr (au s));by_cases hw:cV g.m t=255
    ·rw[hw,bne_self_eq_false,cond_false];rw[if_neg λe=>e.2 hw,List.append_nil]at fin;exact fin oa on oc w2 (pk 99 [0] s)
    ·rw[show(cV g.m t !=255)=true by grind,cond_true];rw[if_pos ⟨SP,hw⟩]at fin;refine tO s λw2 s _=>?_;refine ava (x:=⟨d_ g.m.w g.m.h t,4,0⟩) s (by omega) λoa oc w2 s=>?_;exact fin oa _ oc w2 (pk 99 [0] s)
   ·rw[cB SP,cond_false];rw[if_neg λe=>SP e.1,List.append_nil]at fin;exact fin oa on oc w2 (pk 99 [0] s)
  |succ k ih=>
   intro i oa on oc w2 hi ho s;show vw Q (oq Q (k+1)) _ _ _ _ _ _ _ _ _ _ _ _ _ _;rw[vw,bN];apply(aK s (i:=1) rfl cE (by decide)).rE rfl (by omega);have yw:(aX g.m sc).take (i+1)=(aX g.m sc).take i++[gi (aX g.m sc) i]:=by rw[List.take_add_one,ig (by omega)];rfl
   generalize gi (aX g.m sc) i=c at yw⊢;refine V5 s (kg.fr (au s)) λea en ec w2 s _=>?_;have yp:=(aK s (i:=0) rfl QN (by decide)).len;have hc4:(vC g.m c).length<=4:=by
    unfold vC;split
    ·exact Nat.le_trans (List.length_filterMap_le _ _) (by simp)
    ·simp
   have xd:∀(k2 j:Nat) (oa:Option Addr) (on oc:Nat) (w2:World),j+k2=en->on<=4*i+j->Sep No w w2 [ak oa on oc 294 3 (flat fW (((aX g.m sc).take i).flatMap (Ix g.m (D g.m t))++((vC g.m c).take j).filterMap λe=>if D g.m t e.1=cj then none else some ⟨d_ g.m.w g.m.h c,Ay g.m.w g.m.h c e.1,e.2+D g.m t e.1⟩)),ak ea en ec 292 2 (flat DC (vC g.m c)),ak na nn nc 3 1 (flat one (aX g.m sc))]->
     rj (oq Q (k+1)) Q (k2+1) (sZ gr.p) (sZ rr.p) sc g.m.w g.m.h oa on oc c na nn nc nn i ea en ec en j w2:=by
    intro k2;induction k2 with
    |zero=>
     intro j oa on oc w2 hj ho s;show vv _ Q (rj _ Q 0) _ _ _ _ _ _ _ _ _ _ _ _ _ _ _ _ _ _ _ _;rw[vv,bh,aG];rw[List.take_of_length_le (l:=vC g.m c) (by omega)]at s;apply ih (i+1) oa on oc w2 (by omega) (by omega);rw[yw,List.flatMap_append,List.flatMap_singleton];exact pk 99 [0,2] s
    |succ k2 ih2=>
     intro j oa on oc w2 hj ho s;show vv _ Q (rj _ Q (k2+1)) _ _ _ _ _ _ _ _ _ _ _ _ _ _ _ _ _ _ _ _;rw[vv,bN,aG];refine(aK s (i:=1) rfl QN (by decide)).El rfl (by omega) λp e he ah8=>?_;have avb:=Q4 (f:=λe:Int×Int=>if D g.m t e.1=cj then none else some (⟨d_ g.m.w g.m.h c,Ay g.m.w g.m.h c e.1,e.2+D g.m t e.1⟩:bj)) he;obtain⟨h1,h2,h3,h4,h5,h6⟩:=al0 hm (List.mem_of_getElem? he);have IK:=hok.2 _ h1 h2;refine aO (ah8 0 _ rfl) (aO (ah8 1 _ rfl) ?_);refine aV s λeb w2 s=>?_;refine sT s 0 rfl λw2 s=>?_;refine ax s (i:=0) rfl rfl rfl λw2 s=>?_;apply lI s 0 rfl;apply adQ (kr.fr (au s));rw[IK];by_cases hI:D g.m t e.1=cj
     ·have Wo:D g.m t e.1=1099511627776:=hI;rw[Wo,bne_self_eq_false,cond_false];apply ih2 (j+1) oa on oc w2 (by omega) (by omega);rw[avb,if_pos hI];show Sep No w w2 [ak oa on oc 294 3 (flat fW (_++(_++[]))),_,_];rw[List.append_nil];exact ai s
     ·have Wo:D g.m t e.1≠1099511627776:=hI;rw[show(D g.m t e.1 !=1099511627776)=true by rw[bne_iff_ne];exact Wo,cond_true];have hDl:D g.m t e.1<cj:=by
       by_cases q:∃d,Wy (gD g.m t) (fX g.m) e.1 d
       ·exact(Ks hm).2 q
       ·exact(hI (agL q)).elim
      obtain⟨d,hd⟩:=(Ks hm).1 hDl;have hDb:=ap_ hm hd;have s:=ay s;refine lI s 0 rfl (lI s 0 rfl ?_);refine tO s λw2 s _=>?_;refine⟨cq s 0 rfl,cq s 0 rfl,?_⟩;refine ZP s λw2 s _=>⟨cq s 0 rfl,?_⟩;rw[aG];refine ava (x:=⟨d_ g.m.w g.m.h c,Ay g.m.w g.m.h c e.1,e.2+D g.m t e.1⟩) (ai s) (by omega) λoa oc w2 s=>?_;apply ih2 (j+1) oa (on+1) oc w2 (by omega) (by omega);rw[avb,if_neg hI,<-List.append_assoc];exact s
   have s':Sep No w w2 [ak oa on oc 294 3 (flat fW (((aX g.m sc).take i).flatMap (Ix g.m (D g.m t))++((vC g.m c).take 0).filterMap λe=>if D g.m t e.1=cj then none else some ⟨d_ g.m.w g.m.h c,Ay g.m.w g.m.h c e.1,e.2+D g.m t e.1⟩)),ak ea en ec 292 2 (flat DC (vC g.m c)),ak na nn nc 3 1 (flat one (aX g.m sc))]:=by rw[List.take_zero,List.filterMap_nil,List.append_nil];exact pk 99 [1,0,2] s
   exact⟨en+1,xd en 0 oa on oc w2 (by omega) (by omega) s'⟩
 exact⟨nn+1,nodes nn 0 none 0 0 w1 (by omega) (by omega) (bG s 294 3)⟩
end
structure zN where
 ff:Int
 sa:Option Addr
 sn:Nat
 sc:Nat
 da:Option Addr
 dn:Nat
 dc:Nat
 ra:Option Addr
 rn:Nat
 rc:Nat
 iR:List bj
 ds:List Int
 rs:List Int
def Fc (x:zN):List Value:=[ae x.ff,.slice x.sa x.sn x.sc,.slice x.da x.dn x.dc,.slice x.ra x.rn x.rc]
def yl (x:zN):(Fc x).length=4:=rfl
def aqI (x:zN)(u:Value)(h:u∈Fc x):u.oneCell'=true:=by unfold Fc at h;simp[List.mem_cons,List.not_mem_nil,or_false]at h;rcases h with rfl|rfl|rfl|rfl<;>rfl
noncomputable def GR (x:zN):As:=aW True [ak x.sa x.sn x.sc 294 3 (flat fW x.iR),ak x.da x.dn x.dc 3 1 (flat one x.ds),ak x.ra x.rn x.rc 3 1 (flat one x.rs)]
def IC:zN:=⟨0,none,0,0,none,0,0,none,0,0,[],[],[]⟩
structure WB where
 p:Nat
 lp:Nat
 lr:Lr.ad7
 a:Option Addr
 n:Nat
 c:Nat
structure A2 where
 l:Lr.KS
 es:List zN
 b:Int
 h:Int
 st:Int
 ev:Int
def GS (r:WB)(x:A2):List Value:=[.pointer (sZ r.lp),.slice r.a r.n r.c,.int .u64 0,.int .u64 0,.int .u64 x.b,.int .u64 x.h,.int .u64 x.st,.int .u64 x.ev]
noncomputable def Xn (r:WB)(k:Int)(x:A2):List As:=av r.p 135 (GS r x)::Lr.Ib r.lp k x.l r.lr::ak r.a r.n r.c 303 4 (flat Fc x.es)::x.es.map GR
noncomputable def j6 (r:WB)(k:Int)(x:A2):As:=aW True (Xn r k x)
section
variable {F:Nat->Prop}{W w w0:World}{L:List As}{r:WB}{k:Int}{x:A2}{tw th:Int}{ca la:Option Addr}{cn cc ln lc:Nat}{cs:List Int}{xs:List bj}
def gh {A B T:List As}(is:List Nat)(s:Sep F W w (A++T))(h:is.map (λi=>A[i]?)=B.map some)(hn:is.Nodup):Sep F W w (B++T):=by
 have s1:=dA (ck s List.perm_append_comm) trivial;have s2:Sep F W w (aW True T::B):=by
  refine cm (0::is.map (·+1)) s1 ?_ ?_
  ·rw[List.map_cons,List.map_cons,List.map_map];congr 1
  grind
 exact ck (gR s2).2 List.perm_append_comm
def al1 {Z T:List As}{a b:As}(h:T=a::b::(Z++L)):T.Perm (Z++a::b::L):=by subst h;exact(List.Perm.cons _ List.perm_middle.symm).trans List.perm_middle.symm
def acg (s:Sep F W w (j6 r k x::L)):Sep F W w (Xn r k x++L):=(gR s).2
def ID (s:Sep F W w (Xn r k x++L)):Sep F W w (j6 r k x::L):=dA s trivial
def aqJ {q:zN}{i:Nat}(s:Sep F W w L)(hi:L[i]? =some (GR q)):Sl w q.sa q.sn q.sc 3 fW q.iR/\Sl w q.da q.dn q.dc 1 one q.ds/\Sl w q.ra q.rn q.rc 1 one q.rs:=by have s':=IN s hi;exact⟨aK s' (i:=0) rfl nI (by decide),aK s' (i:=1) rfl cE (by decide),aK s' (i:=2) rfl cE (by decide)⟩
def BF {Q:World->Prop}{p i j:Nat}{t:TypeId}{cs:List Value}{v:Int}(s:Sep F W w L)(hi:L[i]? =some (av p t cs))(hj:cs[j]? =some (.int .u64 v))(hu:Ta.U v)
  (h:∀w',Sep F W w' (L.set i (av p t (cs.set j (.int .u64 (Ta.sat v 1)))))->Q w'):sE (some ⟨p,j,none⟩) w Q:=by
 apply abn;refine ah (dy s rfl hi hj ?_);apply Ta.BB hu (by unfold Ta.U;omega);refine ah (ax s rfl hi ?_ λw' s'=>h w' s');rw[Nat.blt_eq];grind
def NW {Q:Option Addr->Nat->Nat->Option Addr->Nat->Nat->World->Prop}{da ra:Option Addr}{dn dc rn rc:Nat}{ds rs:List Int}(s0:Sep F W w L)(hD:Sl w da dn dc 1 one ds)(hR:Sl w ra rn rc 1 one rs)(hn:dn<=1000000)(hm:rn<=1000000)
  (h:∀LW LX ra' rc' w',Sep F W w' (ak ra' rn rc' 3 1 (flat one rs)::ak LW dn LX 3 1 (flat one ds)::L)->Fr No w w'->Q LW dn LX ra' rn rc' w'):Br da dn dc ra rn rc w Q:=by
 apply abo;refine aQ (bt (F:=No)) λfb w1 s=>?_;refine aV s λrb w1 s=>?_;have s:=ay s;refine lS s 1 rfl (lS s 1 rfl ?_);refine LI s (hD.fr (au s)) (by omega) λLW LX w1 s _=>⟨cq s 2 rfl,?_⟩;refine LI s (hR.fr (au s)) (by omega) λra' rc' w1 s _=>?_;refine sT s 2 rfl λw1 s=>?_;refine ax s (i:=2) rfl rfl rfl λw1 s=>?_;refine lS s 2 rfl (lS s 2 rfl ?_);have s':Sep No w w1 [ak ra' rn rc' 3 1 (flat one rs),ak LW dn LX 3 1 (flat one ds)]:=pk 99 [0,1] s;exact h LW LX ra' rc' w1 (gg s0 s') (au s')
def WrE {n c i:Nat}{es:List zN}{j:Nat}{q:zN}{g o:Nat}{K:World->Prop}(s:Sep F W w L)(hi:L[i]? =some (ak (some ⟨g,o,none⟩) n c 303 4 (flat Fc es)))(hn:j<es.length)(h:∀w',Sep F W w' (L.set i (ak (some ⟨g,o,none⟩) n c 303 4 (flat Fc (es.set j q))))->K w'):
  St ((⟨g,o+j*4,none⟩:Addr).add 0) (ae q.ff) w λw=>St ((⟨g,o+j*4,none⟩:Addr).add 1) (.slice q.sa q.sn q.sc) w λw=>St ((⟨g,o+j*4,none⟩:Addr).add 2) (.slice q.da q.dn q.dc) w λw=>St ((⟨g,o+j*4,none⟩:Addr).add 3) (.slice q.ra q.rn q.rc) w λw=>K w:=by
 have hg:=List.getElem?_eq_getElem hn;generalize es[j]=e0 at hg;have ad:∀i,((⟨g,o+j*4,none⟩:Addr).add i)=⟨g,o+(j*4+i),none⟩:=λi=>by rw[cu,Nat.add_assoc]
 have IM:=(List.getElem?_eq_some_iff.1 hi).1;refine dX (x':=⟨q.ff,e0.sa,e0.sn,e0.sc,e0.da,e0.dn,e0.dc,e0.ra,e0.rn,e0.rc,e0.iR,e0.ds,e0.rs⟩) yl s hi hg (ad 0) (by decide) rfl rfl λw s=>?_;refine dX (x:=⟨q.ff,e0.sa,e0.sn,e0.sc,e0.da,e0.dn,e0.dc,e0.ra,e0.rn,e0.rc,e0.iR,e0.ds,e0.rs⟩) (x':=⟨q.ff,q.sa,q.sn,q.sc,e0.da,e0.dn,e0.dc,e0.ra,e0.rn,e0.rc,e0.iR,e0.ds,e0.rs⟩) yl s (by rw[List.getElem?_set_self IM]) (by grind) (ad 1) (by decide) rfl rfl λw s=>?_;rw[List.set_set,List.set_set]at s;refine dX (x:=⟨q.ff,q.sa,q.sn,q.sc,e0.da,e0.dn,e0.dc,e0.ra,e0.rn,e0.rc,e0.iR,e0.ds,e0.rs⟩) (x':=⟨q.ff,q.sa,q.sn,q.sc,q.da,q.dn,q.dc,e0.ra,e0.rn,e0.rc,e0.iR,e0.ds,e0.rs⟩) yl s (by rw[List.getElem?_set_self IM]) (by grind) (ad 2) (by decide) rfl rfl λw s=>?_;rw[List.set_set,List.set_set]at s;refine dX (x:=⟨q.ff,q.sa,q.sn,q.sc,q.da,q.dn,q.dc,e0.ra,e0.rn,e0.rc,e0.iR,e0.ds,e0.rs⟩) (x':=q) yl s (by rw[List.getElem?_set_self IM]) (by grind) (ad 3) (by decide) rfl rfl λw s=>?_;simp_all
structure ShU (x:A2):Prop where
 b:Ta.U x.b
 h:Ta.U x.h
 st:Ta.U x.st
 ev:Ta.U x.ev
end
structure D0 where
 ff:Int
 iR:List bj
 ds:List Int
 rs:List Int
def zN.p (q:zN):D0:=⟨q.ff,q.iR,q.ds,q.rs⟩
structure TL where
 l:Lr.KS
 es:List D0
 b:Int
 h:Int
 st:Int
 ev:Int
def A2.p (x:A2):TL:=⟨x.l,x.es.map zN.p,x.b,x.h,x.st,x.ev⟩
def bump (c:Bool)(v:Int):Int:=if c=true then Ta.sat v 1 else v
def aam:D0:=⟨0,[],[],[]⟩
def WC (es:List D0)(slot:Nat)(had:Bool)(ff:Int)(xs:List bj):Bool:=had&&(match es[slot]? with|some q=>q.ff==ff&&decide (q.iR=xs)|none=>false)
def CE (k:Int)(y:TL)(key:Int×Int)(q:D0):TL:=
 let u:=Lr.kO k y.l key;let YL:=if u.1.1=(y.es.length:Int)then y.es++[aam]else y.es
 if WC YL u.1.1.toNat u.1.2.1 q.ff q.iR=true then⟨u.2,YL,y.b,Ta.sat y.h 1,y.st,y.ev⟩
 else⟨u.2,YL.set u.1.1.toNat q,Ta.sat y.b 1,y.h,bump u.1.2.1 y.st,bump u.1.2.2 y.ev⟩
section
variable {F:Nat->Prop}{W w w0:World}{L:List As}{r:WB}{k:Int}{x:A2}{tw th:Int}{ca la:Option Addr}{cn cc ln lc:Nat}{cs:List Int}{xs:List bj}
noncomputable abbrev WD (r:WB)(k:Int)(x:A2)(rb tb:Nat)(tw th:Int)(ca:Option Addr)(cn cc:Nat)(L:List As):List As:=
 Lr.Ib r.lp k x.l r.lr::av rb 213 [.slice none 0 0,.slice none 0 0]::av tb 84 [ae tw,ae th,.slice ca cn cc]::av r.p 135 (GS r x)::ak r.a r.n r.c 303 4 (flat Fc x.es)::(x.es.map GR++L)
def aqK {A B:As}(s:Sep F W w (A::B::j6 r k x::L)):Sep F W w (Lr.Ib r.lp k x.l r.lr::A::B::av r.p 135 (GS r x)::ak r.a r.n r.c 303 4 (flat Fc x.es)::(x.es.map GR++L)):=by have s1:=acg (ck s ((List.Perm.cons _ (List.Perm.swap _ _ _)).trans (List.Perm.swap _ _ _)));have s2:=ck s1 (al1 rfl).symm;exact gh (A:=[_,_,_,_,_]) (B:=[_,_,_,_,_]) [3,0,1,2,4] s2 rfl (by decide)
def aqL {A B:As}(s:Sep F W w (A::B::av r.p 135 (GS r x)::Lr.Ib r.lp k x.l r.lr::ak r.a r.n r.c 303 4 (flat Fc x.es)::(x.es.map GR++L))):Sep F W w (A::B::j6 r k x::L):=
 ck (ID (ck s (al1 rfl))) ((List.Perm.swap _ _ _).trans (List.Perm.cons _ (List.Perm.swap _ _ _)))
def Xo {A B C D E:As}{es:List zN}(s:Sep F W w (A::B::C::D::E::(es.map GR++L))):Sep F W w L:=
 gw s (.cons _ (.cons _ (.cons _ (.cons _ (.cons _ (List.sublist_append_right _ _))))))
def akT {Q:Option Addr->Nat->Nat->Option Addr->Nat->Nat->Int->World->Prop}{rb tb slot g o:Nat}{ff:Int}(hT:sj tw th cs)(hok:r9 tw th cs xs=true)(hnd:xs.Nodup)(qk:ln<2000)(hC:∀w',Sep F W w' L->Sl w' ca cn cc 1 bu cs)(hX:∀w',Sep F W w' L->Sl w' la ln lc 3 fW xs)(BR:slot<x.es.length)(hu:Ta.U x.b)(ha:r.a=some ⟨g,o,none⟩)
  (s:Sep F W w (WD r k x rb tb tw th ca cn cc L))
  (h:∀q da dc ra rc w',q.ff=ff->q.iR=xs->q.ds=jB tw th cs xs->q.rs=nY tw th cs xs->Sep F W w' (ak ra cs.length rc 3 1 (flat one (nY tw th cs xs))::ak da cs.length dc 3 1 (flat one (jB tw th cs xs))::j6 r k {x with es:=x.es.set slot q,b:=Ta.sat x.b 1}::L)->Q da cs.length dc ra cs.length rc 0 w'):
  pQ Q (sZ r.p) ff la ln lc (aZ tb) (aZ rb) ⟨g,o+slot*4,none⟩ w:=by
 have wm:=hT.small;apply ah;refine BF s (i:=3) rfl rfl hu λw s=>?_;refine lI s 2 rfl (lI s 2 rfl (lS s 2 rfl ?_));refine Ye s (hC _ (Xo s)) (hX _ (Xo s)) hT hok hnd qk λda dc ra rc w s _=>?_;refine aV s λfb w s=>?_;refine sT s 0 rfl λw s=>?_;refine ax s (i:=0) rfl rfl rfl λw s=>?_;have s:=ay s;refine lS s 0 rfl (lS s 0 rfl ?_);refine V9 s (hX _ (Xo (ai (ai (ai s))))) (by omega) λsa sc w s _=>?_;refine⟨cq s 1 rfl,cq s 1 rfl,?_⟩;rw[ha]at s;refine WrE (q:=⟨ff,sa,ln,sc,da,cs.length,dc,ra,cs.length,rc,xs,jB tw th cs xs,nY tw th cs xs⟩) s (i:=8) rfl BR λw s=>?_;refine lS s 1 rfl (lS s 1 rfl ?_);refine NW s (aK s (i:=3) rfl cE (by decide)) (aK s (i:=2) rfl cE (by decide)) (by omega) (by omega) λLW LX ra' rc' w s _=>?_;refine sT s 7 rfl λw s=>?_;refine ax s (i:=7) rfl rfl rfl λw s=>?_;refine lS s 7 rfl (lS s 7 rfl ?_);apply h ⟨ff,sa,ln,sc,da,cs.length,dc,ra,cs.length,rc,xs,jB tw th cs xs,nY tw th cs xs⟩ LW LX ra' rc' w rfl rfl rfl rfl;rw[<-ha]at s;have s1:=gh (A:=[_,_,_,_,_,_,_,_,_,_,_]) (B:=[ak sa ln sc 294 3 (flat fW xs),ak da cs.length dc 3 1 (flat one (jB tw th cs xs)),ak ra cs.length rc 3 1 (flat one (nY tw th cs xs)),ak ra' cs.length rc' 3 1 (flat one (nY tw th cs xs)),ak LW cs.length LX 3 1 (flat one (jB tw th cs xs)),av r.p 135 (GS r {x with b:=Ta.sat x.b 1}),Lr.Ib r.lp k x.l r.lr,ak r.a r.n r.c 303 4 (flat Fc (x.es.set slot ⟨ff,sa,ln,sc,da,cs.length,dc,ra,cs.length,rc,xs,jB tw th cs xs,nY tw th cs xs⟩))]) [2,5,4,0,1,9,6,10] s ?_ (by decide)
 ·have s2:=dA (Ps:=[_,_,_]) s1 trivial;simp[List.append_eq,List.cons_append,List.nil_append]at s2;have s3:=SO (i:=5+slot) s2;have e:∀(A B C D E G:As),(A::B::C::D::E::(x.es.map GR++L)).set (5+slot) G=A::B::C::D::E::((x.es.map GR).set slot G++L):=λA B C D E G=>by rw[Nat.add_comm 5 slot];simp[List.set_cons_succ];rw[List.set_append_left _ _ (by rw[List.length_map];exact BR)]
  rw[e]at s3;rw[show(x.es.map GR).set slot (aW True [ak sa ln sc 294 3 (flat fW xs),ak da cs.length dc 3 1 (flat one (jB tw th cs xs)),ak ra cs.length rc 3 1 (flat one (nY tw th cs xs))])=(x.es.set slot ⟨ff,sa,ln,sc,da,cs.length,dc,ra,cs.length,rc,xs,jB tw th cs xs,nY tw th cs xs⟩).map GR from by rw[List.map_set];rfl]at s3;have s4:=ID (ck s3 (L':=Xn r k ⟨x.l,x.es.set slot ⟨ff,sa,ln,sc,da,cs.length,dc,ra,cs.length,rc,xs,jB tw th cs xs,nY tw th cs xs⟩,Ta.sat x.b 1,x.h,x.st,x.ev⟩++(ak ra' cs.length rc' 3 1 (flat one (nY tw th cs xs))::ak LW cs.length LX 3 1 (flat one (jB tw th cs xs))::L)) ?_)
  ·exact ck s4 ((List.Perm.swap _ _ _).trans (List.Perm.cons _ (List.Perm.swap _ _ _)))
  ·exact al1 rfl
 ·rfl
def aoD {c:Bool}{v:Int}(h:Ta.U v):Ta.U (bump c v):=by
 unfold bump;split
 ·exact Ta.GM h (by unfold Ta.U;omega)
 ·exact h
attribute [local irreducible] pQ in
theorem ate {Q:Option Addr->Nat->Nat->Option Addr->Nat->Nat->Int->World->Prop}{rb tb slot g o:Nat}{ff:Int}{had out:Bool}(hT:sj tw th cs)(hok:r9 tw th cs xs=true)(hnd:xs.Nodup)(qk:ln<2000)(hC:∀w',Sep F W w' L->Sl w' ca cn cc 1 bu cs)(hX:∀w',Sep F W w' L->Sl w' la ln lc 3 fW xs)(BR:slot<x.es.length)(hu:ShU x)(ha:r.a=some ⟨g,o,none⟩)
  (s:Sep F W w (WD r k x rb tb tw th ca cn cc L))
  (h:∀q da dc ra rc w',q.ff=ff->q.iR=xs->q.ds=jB tw th cs xs->q.rs=nY tw th cs xs->Sep F W w' (ak ra cs.length rc 3 1 (flat one (nY tw th cs xs))::ak da cs.length dc 3 1 (flat one (jB tw th cs xs))::j6 r k ⟨x.l,x.es.set slot q,Ta.sat x.b 1,x.h,bump had x.st,bump out x.ev⟩::L)->Q da cs.length dc ra cs.length rc 0 w'):
  jt Q (sZ r.p) ff la ln lc (aZ tb) (aZ rb) had out ⟨g,o+slot*4,none⟩ w:=by
 have hb:=hu.b;have b12:∀(x':A2) (w:World),x'.l=x.l->x'.es=x.es->x'.b=x.b->x'.h=x.h->x'.st=bump had x.st->x'.ev=x.ev->Sep F W w (WD r k x' rb tb tw th ca cn cc L)->pR Q (sZ r.p) ff la ln lc (aZ tb) (aZ rb) out ⟨g,o+slot*4,none⟩ w:=by
  rintro ⟨l',es',b',h',st',ev'⟩ w e1 e2 e3 e4 e5 e6 s;subst e1 e2 e3 e4 e5 e6;unfold pR;cases out with
  |true=>
   rw[cond_true];apply ah;refine BF s (i:=3) rfl rfl hu.ev λw s=>?_;exact akT (x:=⟨x.l,x.es,x.b,x.h,bump had x.st,Ta.sat x.ev 1⟩) hT hok hnd qk hC hX BR hb ha s h
  |false=>exact akT (x:=⟨x.l,x.es,x.b,x.h,bump had x.st,x.ev⟩) hT hok hnd qk hC hX BR hb ha s h
 unfold jt;cases had with
 |true=>
  rw[cond_true];apply ah;refine BF s (i:=3) rfl rfl hu.st λw s=>?_;exact b12 ⟨x.l,x.es,x.b,x.h,Ta.sat x.st 1,x.ev⟩ w rfl rfl rfl rfl rfl rfl s
 |false=>exact b12 x w rfl rfl rfl rfl rfl rfl s
attribute [local irreducible] jt in
theorem aoE {Q:Option Addr->Nat->Nat->Option Addr->Nat->Nat->Int->World->Prop}{rb tb slot:Nat}{ff:Int}{had out:Bool}(hT:sj tw th cs)(hok:r9 tw th cs xs=true)(hnd:xs.Nodup)(qk:ln<2000)(hC:∀w',Sep F W w' L->Sl w' ca cn cc 1 bu cs)(hX:∀w',Sep F W w' L->Sl w' la ln lc 3 fW xs)(BR:slot<x.es.length)(hu:ShU x)
  (hh:had=true->∀q,x.es[slot]? =some q->q.ff=ff->q.iR=xs->q.ds=jB tw th cs xs/\q.rs=nY tw th cs xs)(LN:∀q∈x.es,q.iR.length<2000)
  (s:Sep F W w (WD r k x rb tb tw th ca cn cc L))
  (h:∀x' da dc ra rc w',x'.l=x.l->x'.p=(if WC x.p.es slot had ff xs=true then⟨x.l,x.p.es,x.b,Ta.sat x.h 1,x.st,x.ev⟩else⟨x.l,x.p.es.set slot ⟨ff,xs,jB tw th cs xs,nY tw th cs xs⟩,Ta.sat x.b 1,x.h,bump had x.st,bump out x.ev⟩)->Sep F W w' (ak ra cs.length rc 3 1 (flat one (nY tw th cs xs))::ak da cs.length dc 3 1 (flat one (jB tw th cs xs))::j6 r k x'::L)->Q da cs.length dc ra cs.length rc 0 w'):
  qV Q (sZ r.p) ff la ln lc (aZ tb) (aZ rb) slot had out w:=by
 have kes:=aK s (i:=4) rfl yl (by decide);obtain⟨q0,hq0⟩:∃q,x.es[slot]? =some q:=⟨_,List.getElem?_eq_getElem BR⟩;have hp0:x.p.es[slot]? =some q0.p:=by show(x.es.map zN.p)[slot]? =_;rw[List.getElem?_map,hq0];rfl
 have ad0:∀w g o,r.a=some ⟨g,o,none⟩->WC x.p.es slot had ff xs=false->Sep F W w (WD r k x rb tb tw th ca cn cc L)->jt Q (sZ r.p) ff la ln lc (aZ tb) (aZ rb) had out ⟨g,o+slot*4,none⟩ w:=λw g o ha ayt s=>by
  refine ate hT hok hnd qk hC hX BR hu ha s λq da dc ra rc w' e1 e2 e3 e4 s=>?_;refine h ⟨x.l,x.es.set slot q,Ta.sat x.b 1,x.h,bump had x.st,bump out x.ev⟩ da dc ra rc w' rfl ?_ s;rw[ayt,if_neg (by decide)];have:q.p=⟨ff,xs,jB tw th cs xs,nY tw th cs xs⟩:=by rw[zN.p,e1,e2,e3,e4]
  rw[<-this];unfold A2.p;simp[List.map_set]
 refine ah (lS s 3 rfl ?_);have hn:=kes.len;have hqs:=LN q0 (List.mem_of_getElem? hq0);refine CR s (i:=4) rfl rfl (by omega) λg o ha=>?_;rw[cu,Int.toNat_natCast];have rd:∀{w:World} {x':A2},x'.es=x.es->Sep F W w (WD r k x' rb tb tw th ca cn cc L)->Sep F W w (Lr.Ib r.lp k x'.l r.lr::av rb 213 [.slice none 0 0,.slice none 0 0]::av tb 84 [ae tw,ae th,.slice ca cn cc]::av r.p 135 (GS r x')::ak (some ⟨g,o,none⟩) r.n r.c 303 4 (flat Fc x.es)::(x.es.map GR++L)):=λe s=>by rw[<-ha,<-e];exact s
 have ad:∀j,(⟨g,o+slot*4,none⟩:Addr).add j=⟨g,o+(slot*4+j),none⟩:=λj=>by rw[cu,Nat.add_assoc]
 have kq:∀{w:World} {x':A2},x'.es=x.es->Sep F W w (WD r k x' rb tb tw th ca cn cc L)->Sl w q0.sa q0.sn q0.sc 3 fW q0.iR/\Sl w q0.da q0.dn q0.dc 1 one q0.ds/\Sl w q0.ra q0.rn q0.rc 1 one q0.rs:=λ{w x'} e s=>by apply aqJ (i:=5+slot) s;rw[Nat.add_comm 5 slot];simp[List.getElem?_cons_succ];rw[List.getElem?_append_left (by rw[List.length_map,e];exact BR),List.getElem?_map,e,hq0];rfl
 cases had with
 |false=>
  exact ad0 _ g o ha rfl s
 |true=>
  apply eK yl (rd rfl s) (i:=4) rfl hq0 (ad 0) rfl;by_cases hv:q0.ff=ff
  ·rw[show(q0.ff==ff)=true from beq_iff_eq.2 hv,cond_true];apply Ir yl (rd rfl s) (i:=4) rfl hq0 (ad 1) rfl;have kq0:=(kq rfl s).1;refine Z3 kq0 (hX _ (Xo s)) s (by have:=kq0.len;omega) (by omega) λw s _=>?_;by_cases he:q0.iR=xs
   ·rw[bN he];apply ah;refine BF s (i:=3) rfl rfl hu.h λw s=>?_;have s:=s;have kq1:=(kq (x':=⟨x.l,x.es,x.b,Ta.sat x.h 1,x.st,x.ev⟩) rfl s).2;obtain⟨hd,hr⟩:=hh rfl q0 hq0 hv he;have hdl:q0.dn=cs.length:=by rw[<-kq1.1.len,hd];exact Z4
    have hrl:q0.rn=cs.length:=by rw[<-kq1.2.len,hr];simp[nY]
    have wm:=hT.small;apply Ir yl (rd (x':=⟨x.l,x.es,x.b,Ta.sat x.h 1,x.st,x.ev⟩) rfl s) (i:=4) rfl hq0 (by rw[add_add,ad]) rfl;apply Ir yl (rd (x':=⟨x.l,x.es,x.b,Ta.sat x.h 1,x.st,x.ev⟩) rfl s) (i:=4) rfl hq0 (by rw[add_add,ad]) rfl;refine NW s kq1.1 kq1.2 (by omega) (by omega) λLW LX ra' rc' w s _=>?_;refine sT s 3 rfl λw s=>?_;refine ax s (i:=3) rfl rfl rfl λw s=>?_;refine lS s 3 rfl (lS s 3 rfl ?_);rw[hdl,hrl]at s⊢;refine h ⟨x.l,x.es,x.b,Ta.sat x.h 1,x.st,x.ev⟩ LW LX ra' rc' w rfl ?_ ?_
    ·have:WC x.p.es slot true ff xs=true:=by rw[WC,hp0];show(true&&(q0.ff==ff&&decide (q0.iR=xs)))=true;rw[hv,he];simp
     rw[this,if_pos rfl];rfl
    ·rw[hd,hr]at s;exact aqL (gh (A:=[_,_,_,_,_,_,_]) (B:=[_,_,_,_,_]) [0,1,5,2,6] s rfl (by decide))
   ·rw[bh he];refine ad0 _ g o ha ?_ s;rw[WC,hp0];show(true&&(q0.ff==ff&&decide (q0.iR=xs)))=false;rw[decide_eq_false he,Bool.and_false,Bool.and_false]
  ·rw[show(q0.ff==ff)=false from beq_eq_false_iff_ne.2 hv,cond_false];refine ad0 _ g o ha ?_ s;rw[WC,hp0];show(true&&(q0.ff==ff&&decide (q0.iR=xs)))=false;rw[show(q0.ff==ff)=false from beq_eq_false_iff_ne.2 hv,Bool.false_and,Bool.and_false]
end
structure aef (k:Int) (y:TL):Prop where
 one:1<=k
 room:k<=100000
 good:Lr.Good k y.l
 len:y.es.length=y.l.length
 b:Ta.U y.b
 h:Ta.U y.h
 st:Ta.U y.st
 ev:Ta.U y.ev
 nX:∀q∈y.es,q.iR.length<2000
def Xj {k:Int}{l:Lr.KS}{key:Int×Int}(hk:1<=k)(hg:Lr.Good k l):∃m:Nat,(Lr.kO k l key).1.1=m/\((m=l.length/\(Lr.kO k l key).1.2.1=false/\(Lr.kO k l key).1.2.2=false/\(Lr.kO k l key).2.length=l.length+1)\/(m<l.length/\(Lr.kO k l key).2.length=l.length)):=by
 unfold Lr.kO;cases hf:l.find? (λp=>decide (p.1=key))with
 |some p=>
  have hp:=List.mem_of_find?_eq_some hf;have he:p.1=key:=by grind
  refine⟨p.2,rfl,.inr ⟨hg.lt p hp,?_⟩⟩;have:∀{l:Lr.KS},(l.map (·.1)).Nodup->p∈l->(l.filter λq=>!decide (q.1=key)).length+1=l.length:=by
   intro l;induction l with
   |nil=>grind
   |cons a l ih=>
    intro hn hp;rcases List.mem_cons.1 hp with rfl|hp
    ·rw[List.filter_cons_of_neg (by simp[he]),List.length_cons];congr 1;refine congrArg List.length (List.filter_eq_self.2 λb hb=>?_);grind
    grind
  exact this hg.FM hp
 |none=>
  simp only;split
  ·grind
  ·cases hl:l.getLast? with
   |none=>
    grind
   |some p=>
    have hp:=List.mem_of_getLast? hl;refine⟨p.2,rfl,.inr ⟨hg.lt p hp,?_⟩⟩;grind
def aqM {k:Int}{y:TL}{key:Int×Int}{q:D0}(h:aef k y)(hq:q.iR.length<2000):aef k (CE k y key q):=by
 obtain⟨m,hm,hc⟩:=Xj h.one h.good;have hg:=Lr.aae (key:=key) h.one h.good;have o9:∀e∈(if(Lr.kO k y.l key).1.1=(y.es.length:Int)then y.es++[aam]else y.es),e.iR.length<2000:=by
  intro e he;split at he
  ·rcases List.mem_append.1 he with he|he
   ·exact h.nX e he
   ·rw[List.mem_singleton]at he;rw[he];exact Nat.zero_lt_succ _
  ·exact h.nX e he
 have hlen:(if(Lr.kO k y.l key).1.1=(y.es.length:Int)then y.es++[aam]else y.es).length=(Lr.kO k y.l key).2.length:=by
  rw[hm,h.len];rcases hc with⟨h1,_,_,h2⟩|⟨h1,h2⟩
  ·rw[AP,List.length_append,h2,h.len];rfl
  ·rw[fU,h2,h.len]
 unfold CE;simp only;generalize (if(Lr.kO k y.l key).1.1=(y.es.length:Int)then y.es++[aam]else y.es)=YL at o9 hlen⊢;split
 ·exact⟨h.one,h.room,hg,hlen,h.b,Ta.GM h.h (by unfold Ta.U;omega),h.st,h.ev,o9⟩
 ·refine⟨h.one,h.room,hg,by grind,Ta.GM h.b (by unfold Ta.U;omega),h.h,aoD h.st,aoD h.ev,λe he=>?_⟩;grind
section
variable {F:Nat->Prop}{W w w0:World}{L:List As}{r:WB}{k:Int}{x:A2}{tw th:Int}{ca la:Option Addr}{cn cc ln lc:Nat}{cs:List Int}{xs:List bj}
def atf (s:Sep F W w L):Sep F W w (GR IC::L):=by have s1:=bG (bG (bG s 3 1) 3 1) 294 3;exact dA s1 trivial
attribute [local irreducible] qV in
theorem WE {Q:Option Addr->Nat->Nat->Option Addr->Nat->Nat->Int->World->Prop}{goal L_ ff:Int}(hx:aef k x.p)(hT:sj tw th cs)(hok:r9 tw th cs xs=true)(hnd:xs.Nodup)(qk:ln<2000)(hC:∀w',Sep F W w' L->Sl w' ca cn cc 1 bu cs)(hX:∀w',Sep F W w' L->Sl w' la ln lc 3 fW xs)(hkey:Lr.YG (goal,L_))
  (hh:(Lr.kO k x.l (goal,L_)).1.2.1=true->∀q,x.p.es[(Lr.kO k x.l (goal,L_)).1.1.toNat]? =some q->q.ff=ff->q.iR=xs->q.ds=jB tw th cs xs/\q.rs=nY tw th cs xs)
  (s:Sep F W w (j6 r k x::L))
  (h:∀r' x' da dc ra rc w',r'.p=r.p->x'.p=CE k x.p (goal,L_) ⟨ff,xs,jB tw th cs xs,nY tw th cs xs⟩->Sep F W w' (ak ra cs.length rc 3 1 (flat one (nY tw th cs xs))::ak da cs.length dc 3 1 (flat one (jB tw th cs xs))::j6 r' k x'::L)->Q da cs.length dc ra cs.length rc 0 w'):
  ox (sZ r.p) goal L_ ff tw th ca cn cc la ln lc w Q:=by
 apply Qt;refine aQ s λtb w s=>?_;refine aV s λrb w s=>?_;refine lI s 1 rfl (lI s 1 rfl (lS s 1 rfl ?_));have tl:∀{w:World} {A B C:As},Sep F W w (A::B::C::L)->Sep F W w L:=λs=>ai (ai (ai s));refine Nw s (hC _ (tl s)) (hX _ (tl s)) (by omega) λw s _=>?_;rw[hok,Bool.not_true,cond_false];have s:=aqK s;refine ah (lP s 3 rfl ?_);have NL:x.l.length<=1000000:=by have h1:=hx.good.room;have h2:=hx.room;have h3:x.p.l=x.l:=rfl;grind
 refine Lr.aol s hkey NL λlr' w s=>?_;have hlen:x.es.length=x.l.length:=by have:=hx.len;show _=x.p.l.length;rw[<-this];show _=(x.es.map zN.p).length;grind
 obtain⟨m,hm,hc⟩:=Xj hx.one hx.good;have hxl:x.p.l=x.l:=rfl;rw[hxl]at hm hc;have hp:(x.p.es.length:Int)=x.es.length:=by show((x.es.map zN.p).length:Int)=_;grind
 have hu:ShU ⟨(Lr.kO k x.l (goal,L_)).2,x.es,x.b,x.h,x.st,x.ev⟩:=⟨hx.b,hx.h,hx.st,hx.ev⟩;have LN:∀q∈x.es,q.iR.length<2000:=λq hq=>hx.nX q.p (List.mem_map.2 ⟨q,hq,rfl⟩);generalize hu2:Lr.kO k x.l (goal,L_)=u at s hm hc hh h hu⊢;obtain⟨⟨slot,had,out⟩,l'⟩:=u;subst hm;have s:=s;have kl:=(aK s (i:=4) rfl yl (by decide)).len;refine ah (lS s 3 rfl ?_);by_cases hm:m=x.l.length
 ·obtain⟨_,e1,e2,e3⟩:m=x.l.length/\had=false/\out=false/\l'.length=x.l.length+1:=by
   rcases hc with hc|hc
   ·exact hc
   ·omega
  subst e1 e2;rw[show((m:Int)==(r.n:Int))=true from beq_iff_eq.2 (by rw[hm,<-hlen,<-kl]),cond_true];refine ah (lS s 3 rfl ?_);refine aQ s λb w s=>?_;have src:Src w (sZ b) 1 4 (Fc IC):=⟨rfl,aqI _,λj u hj=>by rw[cu,Nat.zero_add];exact cR s (i:=0) rfl rfl hj⟩;refine iw dW s (i:=5) rfl rfl rfl rfl rfl rfl (by decide) rfl src (by simp[maxLen];omega) (by show(r.n+1)*80<=_;omega) (λe=>by cases e) λa1 c1 w s=>?_;rw[show flat Fc x.es++Fc IC=flat Fc (x.es++[IC])from by rw[gd];simp[flat]]at s;refine ah (sT s 4 rfl λw s=>?_);have s:=atf (ai s);have s:Sep F W w (WD ⟨r.p,r.lp,lr',a1,r.n+1,c1⟩ k ⟨l',x.es++[IC],x.b,x.h,x.st,x.ev⟩ rb tb tw th ca cn cc L):=by apply ck s;show List.Perm _ (_::_::_::_::_::((x.es++[IC]).map GR++L));rw[List.map_append,List.append_assoc];exact(List.perm_middle (l₁:=[_,_,_,_,_]++x.es.map GR)).symm
  refine aoE (r:=⟨r.p,r.lp,lr',a1,r.n+1,c1⟩) (x:=⟨l',x.es++[IC],x.b,x.h,x.st,x.ev⟩) hT hok hnd qk hC hX (by show m<(x.es++[IC]).length;rw[List.length_append];simp;omega) ⟨hx.b,hx.h,hx.st,hx.ev⟩ (λe=>by cases e) ?_ s ?_
  ·intro q hq;rcases List.mem_append.1 hq with hq|hq
   ·exact LN q hq
   ·rw[List.mem_singleton]at hq;rw[hq];exact Nat.zero_lt_succ _
  ·intro x' da dc ra rc w' e1 e2 s;refine h ⟨r.p,r.lp,lr',a1,r.n+1,c1⟩ x' da dc ra rc w' rfl ?_ s;rw[e2];rw[CE,hxl,hu2];simp only;have e3:(m:Int)=(x.p.es.length:Int):=by rw[hp];omega
   rw[if_pos e3];have:(x.p.es++[aam])=TL.es (A2.p ⟨l',x.es++[IC],x.b,x.h,x.st,x.ev⟩):=by show(x.es.map zN.p)++_=(x.es++[IC]).map zN.p;rw[List.map_append];rfl
   rw[this];rfl
 ·rw[show((m:Int)==(r.n:Int))=false from beq_eq_false_iff_ne.2 (by omega),cond_false];refine aoE (r:=⟨r.p,r.lp,lr',r.a,r.n,r.c⟩) hT hok hnd qk hC hX (by show m<x.es.length;omega) hu ?_ LN s ?_
  ·intro e q hq e1 e2;have:=hh e q.p (by show(x.es.map zN.p)[m]? =_;rw[List.getElem?_map,hq];rfl) e1 e2
   exact this
  ·intro x' da dc ra rc w' e1 e2 s;refine h ⟨r.p,r.lp,lr',r.a,r.n,r.c⟩ x' da dc ra rc w' rfl ?_ s;rw[e2];rw[CE,hxl,hu2];simp only;have e3:¬(m:Int)=(x.p.es.length:Int):=by rw[hp];omega
   rw[if_neg e3];rfl
end
end Go.Proofs.YtmegplnmiepfbaaGreatDoor.S
namespace Go.Proofs.YtmegplnmiepfbaaGreatDoor.S.Lr
open Go.Sx
def aoG {l:KS}(hnd:(l.map (·.1)).Nodup){p:(Int×Int)×Nat}(hp:p∈l):Xi l p.1=p.2:=by rw[Xi,YE hnd hp]
def aqN {l:KS}{key:Int×Int}(h:∀p∈l,p.1≠key):Xi l key=-1:=by unfold Xi;grind
def afs {l:KS}(h:(l.map (·.2)).Nodup){p q:(Int×Int)×Nat}(hp:p∈l)(hq:q∈l)(e:p.2=q.2):p=q:=by
 induction l with
 |nil=>cases hp
 |cons x l ih=>
  grind
structure Used (l l':KS) (key:Int×Int) (k:Int) (s:Int) (had out:Bool):Prop where
 good:Good k l'
 slot:∃m:Nat,s=m/\(key,m)∈l'
 ayu:had=decide (Xi l key≥0)
 hit:had=true->s=Xi l key/\out=false
 mem:∀p:(Int×Int)×Nat,p.1≠key->(p∈l'↔p∈l/\(out=true->(p.2:Int)≠s))
 off:∀p∈l,p.1≠key->(p.2:Int)=s->out=true
def used {k:Int}{l:KS}{key:Int×Int}(hk:1<=k)(h:Good k l):Used l (kO k l key).2 key k (kO k l key).1.1 (kO k l key).1.2.1 (kO k l key).1.2.2:=by
 have hg:=aae (key:=key) hk h;unfold kO at hg⊢;cases hf:l.find? (λp=>decide (p.1=key))with
 |some q=>
  rw[hf]at hg;obtain⟨rfl,hq⟩:=NR hf;simp only at hg⊢;have hfq:=aoG h.FM hq;refine⟨hg,⟨q.2,rfl,List.mem_cons_self⟩,by grind,λ_=>⟨hfq.symm,rfl⟩,λp hp=>?_,λp hp hne e=>?_⟩
  ·grind
  ·exact(hne (by rw[afs h.nd hp hq (by omega)])).elim
 |none=>
  have hn:=afl hf;have hfn:=aqN hn;rw[hf]at hg;by_cases hroom:(l.length:Int)<k
  ·rw[if_pos hroom]at hg⊢;refine⟨hg,⟨l.length,rfl,List.mem_cons_self⟩,by rw[hfn];rfl,(λh=>by cases h),λp hp=>?_,λp hp hne e=>?_⟩
   ·grind
   ·have:=h.lt p hp;grind
  ·rw[if_neg hroom]at hg⊢;have hne:l≠[]:=λe=>by grind
   obtain⟨ys,q,rfl⟩:∃ys q,l=ys++[q]:=⟨l.dropLast,l.getLast hne,(List.dropLast_concat_getLast hne).symm⟩;rw[List.getLast?_concat,List.dropLast_concat]at hg⊢;simp only at hg⊢;refine⟨hg,⟨q.2,rfl,List.mem_cons_self⟩,by rw[hfn];rfl,(λh=>by cases h),λp hp=>?_,λp hp hne e=>rfl⟩;rw[List.mem_cons];constructor
   ·rintro (e|h1)
    ·grind
    ·refine⟨by simp[h1],λ_ e=>?_⟩;have e1:=afs h.nd (p:=p) (q:=q) (by simp[h1]) (by simp) (by omega);subst e1;have:=h.FM;grind
   grind
end Go.Proofs.YtmegplnmiepfbaaGreatDoor.S.Lr
namespace Go.Proofs.YtmegplnmiepfbaaGreatDoor.S
open Go.Sx
attribute [local irreducible] af cv bz bg aA cw bZ St Bx Al App cH cy cD bU aM bF aq bS av ak aW mapA
def SZ (V:Int×Int->D0->Prop)(y:TL):Prop:=∀key i q,(key,i)∈y.l->y.es[i]? =some q->V key q
def aft {V:Int×Int->D0->Prop}{b h st ev:Int}:SZ V ⟨[],[],b,h,st,ev⟩:=λ_ _ _ h=>by cases h
def al2 {V V':Int×Int->D0->Prop}{y:TL}(h:SZ V y)(hv:∀key q,V key q->V' key q):SZ V' y:=λkey i q h1 h2=>hv _ _ (h key i q h1 h2)
def aiK {k:Int}{y:TL}{key:Int×Int}{V:Int×Int->D0->Prop}(h:aef k y)(hr:SZ V y){q:D0}(hh:(Lr.kO k y.l key).1.2.1=true)(hq:y.es[(Lr.kO k y.l key).1.1.toNat]? =some q):V key q:=by have hu:=Lr.used (key:=key) h.one h.good;have h2:=hu.ayu;rw[hh]at h2;obtain⟨m,hm,hl⟩:=hu.slot;refine hr key m q ?_ (by grind);unfold Lr.kO at hm hh;grind
def aoH {k:Int}{y:TL}{key:Int×Int}{V:Int×Int->D0->Prop}{q:D0}(h:aef k y)(hr:SZ V y)(hv:V key q):SZ V (CE k y key q):=by
 have hu:=Lr.used (key:=key) h.one h.good;obtain⟨m,hm,hc⟩:=Xj h.one h.good;have hlen:=h.len;have YJ:∀(i:Nat) (e:D0),i≠m\/(Lr.kO k y.l key).1.2.1=true->i<y.l.length->(if(Lr.kO k y.l key).1.1=(y.es.length:Int)then y.es++[aam]else y.es)[i]? =some e->y.es[i]? =some e:=by grind
 have other:∀key' i,key'≠key->(key',i)∈(Lr.kO k y.l key).2->(key',i)∈y.l/\i≠m/\i<y.l.length:=by intro key' i hne hmem;have h1:=(hu.mem (key',i) hne).1 hmem;refine⟨h1.1,λe=>?_,h.good.lt _ h1.1⟩;subst e;have h2:=hu.off _ h1.1 hne (by rw[hm]);grind
 have same:∀i,(key,i)∈(Lr.kO k y.l key).2->i=m:=by intro i hmem;obtain⟨m',h1,h2⟩:=hu.slot;have:=Lr.SR hu.good.FM hmem h2 rfl;grind
 unfold CE;simp only;generalize (if(Lr.kO k y.l key).1.1=(y.es.length:Int)then y.es++[aam]else y.es)=YL at YJ⊢;split
 ·rename_i hit;unfold WC at hit;rw[Bool.and_eq_true]at hit;intro key' i e hmem he;by_cases hk:key'=key
  ·subst hk;have hi:=same i hmem;subst hi;have hlt:i<y.l.length:=by grind
   have h1:=YJ i e (.inr hit.1) hlt he;exact aiK h hr hit.1 (by grind)
  ·obtain⟨h1,h2,h3⟩:=other key' i hk hmem;exact hr key' i e h1 (YJ i e (.inl h2) h3 he)
 ·intro key' i e hmem he;rw[hm,Int.toNat_natCast]at he;by_cases hk:key'=key
  ·subst hk;have hi:=same i hmem;subst hi;rw[List.getElem?_set]at he;split at he
   ·split at he
    ·cases he;exact hv
    ·cases he
   ·rename_i hne;exact(hne rfl).elim
  ·obtain⟨h1,h2,h3⟩:=other key' i hk hmem;rw[List.getElem?_set_ne (λe=>h2 e.symm)]at he;exact hr key' i e h1 (YJ i e (.inl h2) h3 he)
section
variable {F:Nat->Prop}{W w w0:World}{L:List As}{r:WB}{k:Int}{x:A2}
def ach {Q:Option Addr->World->Prop}(s:Sep F W w L)(hno:k<1->Q none w)(h:1<=k->∀r w',Sep F W w' (j6 r k ⟨[],[],0,0,0,0⟩::L)->Q (sZ r.p) w'):Gb k w Q:=by
 apply aa3;by_cases hk:k<1
 ·grind
 ·rw[bh hk];refine Lr.aok s (λe=>(hk e).elim) λ_ lp lr w s=>?_;refine aQ s λp w s=>?_;refine h (by omega) ⟨p,lp,lr,none,0,0⟩ w (ID ?_);exact ck (bG s 303 4) ((List.Perm.swap _ _ _).trans (List.Perm.cons _ (List.Perm.swap _ _ _)))
def OW {Q:World->Prop}(hk:1<=k)(s:Sep F W w (j6 r k x::L))(h:∀r' w',r'.p=r.p->Sep F W w' (j6 r' k ⟨[],[],x.b,x.h,x.st,x.ev⟩::L)->Q w'):qz (sZ r.p) w Q:=by apply MB;have s:=acg s;have s:=s;refine isS (ah (lP s 0 rfl ?_));have s:=gw s (.cons_cons _ (.cons_cons _ (.cons _ (List.sublist_append_right _ _))));have s:=(Lr.aiu (jk s)).2;have s:=gw s (.cons_cons _ (.cons _ (.cons _ (List.Sublist.refl _))));refine Lr.YH hk s λlr w s=>?_;refine ah (sT s 1 rfl λw s=>?_);refine h ⟨r.p,r.lp,lr,none,0,0⟩ w rfl (ID ?_);exact ck (bG s 303 4) ((List.Perm.cons _ (List.Perm.swap _ _ _)).trans ((List.Perm.swap _ _ _).trans (List.Perm.cons _ (List.Perm.swap _ _ _))))
def al3 {i:Nat}(s:Sep F W w L)(hi:L[i]? =some (j6 r k x)):r_ w r.p (GS r x):=lz (IN s hi) (i:=0) rfl
def aBH:zc T 32=[.int .u64 0,.int .u64 0,.int .u64 0,.int .u64 0,.int .u64 0,.int .u64 0]:=rfl
def aiL {p:Nat}{v0 v1 v2 v3 v4 v5:Value}{a b c d e f:Int}{Q:Int->Int->Int->Int->Int->Int->World->Prop}(s:Sep F W w (av p 32 [v0,v1,v2,v3,v4,v5]::L))(h:∀w',Sep F W w' (av p 32 [.int .u64 a,.int .u64 b,.int .u64 c,.int .u64 d,.int .u64 e,.int .u64 f]::L)->Q a b c d e f w'):
  St ((aZ p).add 0) (.int .u64 a) w λw=>St ((aZ p).add 1) (.int .u64 b) w λw=>St ((aZ p).add 2) (.int .u64 c) w λw=>St ((aZ p).add 3) (.int .u64 d) w λw=>St ((aZ p).add 4) (.int .u64 e) w λw=>St ((aZ p).add 5) (.int .u64 f) w λw=>
   af .u64 ((aZ p).add 0) w λa=>af .u64 ((aZ p).add 1) w λb=>af .u64 ((aZ p).add 2) w λc=>af .u64 ((aZ p).add 3) w λd=>af .u64 ((aZ p).add 4) w λe=>af .u64 ((aZ p).add 5) w λf=>Q a b c d e f w:=by
 refine sT s 0 rfl λw s=>?_;refine sT s 0 rfl λw s=>?_;refine sT s 0 rfl λw s=>?_;refine sT s 0 rfl λw s=>?_;refine sT s 0 rfl λw s=>?_;refine ax s (i:=0) rfl rfl rfl λw s=>?_;exact lI s 0 rfl (lI s 0 rfl (lI s 0 rfl (lI s 0 rfl (lI s 0 rfl (lI s 0 rfl (h w s))))))
def aj2 {Q:Int->Int->Int->Int->Int->Int->World->Prop}(s0:Sep F W w L)(kb:r_ w r.p (GS r x))(h:∀w',Sep F W w' L->Fr No w w'->Q 0 0 x.b x.h x.st x.ev w'):wH (sZ r.p) w Q:=by apply Mx;refine aV (bt (F:=No)) λp w1 s1=>?_;have kb1:=kb.fr (au s1);refine mN (ah ?_);refine aO (kb1 2 _ rfl) (aO (kb1 3 _ rfl) (aO (kb1 4 _ rfl) (aO (kb1 5 _ rfl) (aO (kb1 6 _ rfl) (aO (kb1 7 _ rfl) ?_)))));exact aiL s1 λw' s'=>h w' (gg s0 (ai s')) (au s')
end
end Go.Proofs.YtmegplnmiepfbaaGreatDoor.S
namespace Go.Proofs.YtmegplnmiepfbaaGreatDoor.S
open Go.Sx
def Kz (m:bM)(c x:Int):bM:=⟨m.w,m.h,m.cs.set c.toNat x⟩
section
variable {m:bM}{g:iC}{ce x c sc:Int}
def aoI (hc:0<=ce/\ce<m.cs.length):cV (Kz m ce x) c=if c=ce then x else cV m c:=by
 unfold cV Kz;simp[List.length_set];by_cases e:c=ce
 ·subst e;unfold gi;grind
 ·by_cases h:0<=c/\c<m.cs.length
  ·unfold gi;grind
  grind
def aqO (hm:cW m)(hc:bK m.w m.h ce):0<=ce/\ce<m.cs.length:=⟨hc.2.1,by have:=hm.len;have:=hc.2.2;omega⟩
def aiM (hm:cW m)(hc:bK m.w m.h ce)(hne:cU m c≠cU m ce):cV (Kz m ce x) c=cV m c:=by rw[aoI (aqO hm hc),if_neg λe=>hne (by rw[e])]
def afu (hm:cW m)(hs:dY m.w m.h sc)(hc:bK m.w m.h ce)(hne:sc≠cU m ce):dU (Kz m ce x) sc=dU m sc:=by
 refine List.map_congr_left λl hl=>?_;have hl:=List.mem_range.1 hl;have hl:(0:Int)<=(l:Int)/\(l:Int)<aE m.w m.h sc*bC m.w m.h sc:=by have e:(Kz m ce x).w=m.w/\(Kz m ce x).h=m.h:=⟨rfl,rfl⟩;grind
 exact aiM hm hc (by show aC m.w m.h (bV m.w m.h sc l)≠_;rw[iW hs hl];exact hne)
def aci (hm:cW m)(hs:dY m.w m.h sc)(hc:bK m.w m.h ce)(hne:sc≠cU m ce):aX (Kz m ce x) sc=aX m sc:=by
 rw[nodes_eq,nodes_eq];congr 1;show((List.range (aE m.w m.h sc*bC m.w m.h sc).toNat).filter λl=>yK m.w m.h sc 4 l&&fk (Kz m ce x) (bV m.w m.h sc l))=_;refine List.filter_congr λl hl=>?_;have hl:=List.mem_range.1 hl;have hl:(0:Int)<=(l:Int)/\(l:Int)<aE m.w m.h sc*bC m.w m.h sc:=by omega
 unfold fk;rw[aiM hm hc (by show aC m.w m.h (bV m.w m.h sc l)≠_;rw[iW hs hl];exact hne)]
def aoJ (hm:cW m)(hs:dY m.w m.h sc)(hc:bK m.w m.h ce)(hne:sc≠cU m ce):jM (Kz m ce x) sc=jM m sc:=by unfold jM i_;rw[afu hm hs hc hne,aci hm hs hc hne];rfl
def aiN (hg:xI g)(hc:bK g.m.w g.m.h ce){i:Nat}:gi (xJ g ce x).vs i=if(i:Int)=cU g.m ce then g.ep+1 else gi g.vs i:=by
 have hr:=bT hc;have hl:=hg.len;unfold xJ gi cU;by_cases e:(i:Int)=aC g.m.w g.m.h ce
 ·have e1:(aC g.m.w g.m.h ce).toNat=i:=by omega
  have e2:(aC g.m.w g.m.h ce).toNat<g.vs.length:=by have:=hr.2;omega
  grind
 ·have e1:¬(aC g.m.w g.m.h ce).toNat=i:=by have:=hr.2.1;omega
  grind
def aoK {ms:nJ}(hg:xI g)(hc:bK g.m.w g.m.h ce)(I:yL g ms):yL (xJ g ce x) ms:=by
 have hlen:=I.len;refine⟨I.len,⟨by have:=I.old.1;show _<=g.ep+1;omega,λq hq=>by have:=I.old.2 q hq;show _<=g.ep+1;omega⟩,λe=>by have:=I.old.1;have e:ms.clean=g.ep+1:=e;omega,λi q hq hv=>?_,I.u⟩;rw[aiN hg hc]at hv;have hqe:=I.old.2 q (List.mem_of_getElem? hq);split at hv
 ·omega
 ·rename_i hne;have hi:=(List.getElem?_eq_some_iff.1 hq).1;have hs:dY g.m.w g.m.h i:=⟨hg.ja,by omega,by omega⟩;have h:=I.ok i q hq hv;have e1:aX (xJ g ce x).m i=aX g.m i:=aci hg.may hs hc hne;have e2:jM (xJ g ce x).m i=jM g.m i:=aoJ hg.may hs hc hne;grind
def aoL {f:GQ}(J:ace g f):ace (xJ g ce x) f:=
 ⟨λq hq=>⟨by have:=(J.kept q hq).1;show _<=g.ep+1;omega,λe=>by have:=(J.kept q hq).1;have e:q.2.ep=g.ep+1:=e;omega⟩,J.u⟩
def aiO (g:iC)(key:Int×Int)(q:D0):Prop:=q.ff<=g.ep/\dY g.m.w g.m.h key.2/\(q.ff=zH g key.2->q.ds=jB (aE g.m.w g.m.h key.2) (bC g.m.w g.m.h key.2) (dU g.m key.2) q.iR/\q.rs=nY (aE g.m.w g.m.h key.2) (bC g.m.w g.m.h key.2) (dU g.m key.2) q.iR)
def al4 (hg:xI g)(hc:bK g.m.w g.m.h ce){key:Int×Int}{q:D0}(h:aiO g key q):aiO (xJ g ce x) key q:=by
 obtain⟨h1,h2,h3⟩:=h;refine⟨by show _<=g.ep+1;omega,h2,λhv=>?_⟩;have hl:=hg.len;have hk:=h2.2;have e:zH (xJ g ce x) key.2=gi (xJ g ce x).vs key.2.toNat:=by rw[zH,if_pos];refine⟨hk.1,?_⟩;show key.2<((g.vs.set _ _).length:Int);grind
 have e':zH g key.2=gi g.vs key.2.toNat:=by unfold zH;omega
 rw[e,aiN hg hc]at hv;split at hv
 ·omega
 ·rw[<-e']at hv;have h4:=h3 hv;have et:dU (xJ g ce x).m key.2=dU g.m key.2:=afu hg.may h2 hc (by omega);rw[et];exact h4
end
end Go.Proofs.YtmegplnmiepfbaaGreatDoor.S
namespace Go.Proofs.YtmegplnmiepfbaaGreatDoor.S
open Go.Sx
open Go.Extern
section
variable {w:World}
def rt (n:Nat):Value:=.agg #[.pointer (some ⟨8,n,none⟩)]
def afv (v:Value)(w:World):(ReflectliteType.typeOf #[.iface 401 v]).run P w=.ok (.iface 219 (rt 401)) w:=by kernel_rfl
def akV (w:World):((ReflectliteType.method λt=>do Rtype.noPackHeld "Comparable" t;pure (.bool (<-typeInfo t).comparable)) #[rt 401]).run P w=.ok (.bool true) w:=by kernel_rfl
def aiP (v:Value)(w:World):(Go.method (P.types.size+Made.depth) 219 v "Comparable").run P w=.ok (311,v) w:=by kernel_rfl
def S0 (v:Value)(w:World):(ReflectliteType.typeOf #[.iface 78 v]).run P w=.ok (.iface 219 (rt 78)) w:=by kernel_rfl
def GU (v:Value)(w:World):(ReflectliteType.typeOf #[.iface 108 v]).run P w=.ok (.iface 219 (rt 108)) w:=by kernel_rfl
def GV (t:Addr)(w:World):(ReflectliteValue.unpack (.iface 120 (.pointer (some t)))).run P w
 =.ok (.agg #[.pointer (some ⟨8,120,none⟩),.pointer (sZ w.heap.size),.int .u64 150]) (w.alloc (.cells #[.pointer (some t)] 120)):=by kernel_rfl
def Eo (n:Int)(w:World):(ReflectliteValue.unpack (.iface 108 (ae n))).run P w
 =.ok (.agg #[.pointer (some ⟨8,108,none⟩),.pointer (sZ w.heap.size),.int .u64 130]) (w.alloc (.cells #[ae n] 108)):=by kernel_rfl
def Q9 (a:Addr)(w:World):(ReflectliteValue.methodAny (ReflectliteValue.valueError "reflectlite.Value.Type" 0) (λt _ _ _=>ReflectliteType.toType t) #[.agg #[.pointer (some ⟨8,120,none⟩),.pointer (some a),.int .u64 150]]).run P w
 =.ok (.iface 219 (rt 120)) w:=by kernel_rfl
def Ig (h:Value)(w:World):(Go.method (P.types.size+Made.depth) 219 (.agg #[h]) "Kind").run P w=.ok (297,h) w:=by kernel_rfl
def Ma (w:World):((ReflectliteType.abiMethod λt=>(λa:Nat=>Value.int IntKind.u8 (a:Int))<$>Rtype.kind t) #[.pointer (some ⟨8,120,none⟩)]).run P w=.ok (.int .u8 22) w:=by kernel_rfl
def Mb (w:World):((ReflectliteType.abiMethod λt=>(λa:Nat=>Value.int IntKind.u8 (a:Int))<$>Rtype.kind t) #[.pointer (some ⟨8,108,none⟩)]).run P w=.ok (.int .u8 2) w:=by kernel_rfl
def aan (h:Value)(w:World):(Go.method (P.types.size+Made.depth) 219 (.agg #[h]) "Elem").run P w=.ok (312,.agg #[h]) w:=by kernel_rfl
def aeg (h:Value)(w:World):(Go.method (P.types.size+Made.depth) 219 (.agg #[h]) "Implements").run P w=.ok (313,.agg #[h]) w:=by kernel_rfl
def Q_ (h:Value)(w:World):(Go.method (P.types.size+Made.depth) 219 (.agg #[h]) "AssignableTo").run P w=.ok (310,.agg #[h]) w:=by kernel_rfl
def Ra (w:World):(ReflectliteType.method ReflectliteType.elem #[rt 120]).run P w=.ok (.iface 219 (rt 108)) w:=by kernel_rfl
def WG (w:World):(ReflectliteType.relation "Implements" ReflectliteType.implements_ #[rt 108,.iface 219 (rt 74)]).run P w=.ok (.bool true) w:=by kernel_rfl
def aeh (w:World):(ReflectliteType.relation "AssignableTo" ReflectliteType.assignableTo #[rt 78,.iface 219 (rt 108)]).run P w=.ok (.bool false) w:=by kernel_rfl
def Rb (w:World):(ReflectliteType.relation "AssignableTo" ReflectliteType.assignableTo #[rt 108,.iface 219 (rt 108)]).run P w=.ok (.bool true) w:=by kernel_rfl
def aei (v:Value)(w:World):(Go.method (P.types.size+Made.depth) 78 v "Unwrap").run P w=.ok (302,v) w:=by kernel_rfl
def atg (v:Value)(w:World):(Go.method (P.types.size+Made.depth) 273 v "Unwrap").run P w=.ok (325,v) w:=by kernel_rfl
end
set_option maxRecDepth 20000
def j7 {f:Nat}{e:Array Value->Sem Value}{args:Array Value}{w w':World}{v:Value}{K:Value->World->Prop}(h:∀args w,(callFunc f args).run P w=((e args).run P w).andThen λv w'=>.ok (.value v) w')(he:(e args).run P w=.ok v w')(k:K v w'):tT P f args w K:=by unfold tT;simp_all
def cxP (n:Nat):(cx n).P=P:=rfl
def mZ {n f:Nat}{e:Array Value->Sem Value}{t:TypeId}{v rv:Value}{name:String}{args:List Value}{w w':World}{r:Value}{K:Value->World->Prop}(hm:∀w,(Go.method (P.types.size+Made.depth) t v name).run P w=.ok (f,rv) w)(hf:o6 f fns=false)
  (h:∀args w,(callFunc f args).run P w=((e args).run P w).andThen λv w'=>.ok (.value v) w')(he:(e (#[].toList++(rv::args)++#[].toList).toArray).run P w=.ok r w')(k:K r w'):yQ (cx n) (.iface t v) name args w K:=by
 refine⟨f,rv,hm w,?_⟩;unfold iv;simp only[cxF,cxP,hf,cond_false];exact j7 h he k
def x95 (args:Array Value)(w:World):(callFunc 95 args).run P w=((ReflectliteType.typeOf args).run P w).andThen λv w'=>.ok (.value v) w':=run_callFunc_extern Go.Proofs.Tryz.func95 (by kernel_rfl) (by kernel_rfl) (by kernel_rfl) (by kernel_rfl) args w
def avf (args:Array Value)(w:World):(callFunc 311 args).run P w=((ReflectliteType.method (λt=>do Rtype.noPackHeld "Comparable" t;pure (.bool (<-typeInfo t).comparable)) args).run P w).andThen λv w'=>.ok (.value v) w':=run_callFunc_extern Go.Proofs.Tryz.func311 (by kernel_rfl) (by kernel_rfl) (by kernel_rfl) (by kernel_rfl) args w
def aoM:o6 311 fns=false:=by kernel_rfl
def aoN:(P.info? 401).map (·.comparable)=some true:=by kernel_rfl
def aoO:(P.info? 422).map (·.size)=some 1:=by kernel_rfl
def avg {tx ty:Nat}{vx vy:Value}{x y:Operand}{w:World}{K:Bool->World->Prop}(hne:tx≠ty)(h:K false w):bU P .eql 74 x y (.iface tx vx) (.iface ty vy) w K:=by unfold bU aM;rw[show(eqGuard .eql 74 x y (.iface tx vx) (.iface ty vy))=pure ()from rfl];simp[Sem.run_bind,Sem.run_pure,Result.andThen_ok,run_eql_iface_types tx ty vx vy Go.Proofs.Tryz.underlying74 hne w];exact h
def WH {a:Addr}{x y:Operand}{w:World}{K:Bool->World->Prop}(h:K true w):bU P .eql 74 x y (.iface 401 (.pointer (some a))) (.iface 401 (.pointer (some a))) w K:=by obtain⟨i,hi,hcmp⟩:=Option.map_eq_some_iff.1 aoN;obtain⟨j,hj,hjs⟩:=Option.map_eq_some_iff.1 aoO;unfold bU aM;rw[show(eqGuard .eql 74 x y (.iface 401 (.pointer (some a))) (.iface 401 (.pointer (some a))))=pure ()from rfl];simp[Sem.run_bind,Sem.run_pure,Result.andThen_ok,run_eql_iface_ptr_same w a Go.Proofs.Tryz.underlying74 Go.Proofs.Tryz.underlying401 hi hcmp hj];exact h
def acj {a b:Addr}{ca cb:Array Value}{ta tb:TypeId}{x y:Operand}{w:World}{K:Bool->World->Prop}(hne:a≠b)(ha:w.heap[a.block]? =some (.cells ca ta (0,0)))(hb:w.heap[b.block]? =some (.cells cb tb (0,0)))(h:K false w):bU P .eql 74 x y (.iface 401 (.pointer (some a))) (.iface 401 (.pointer (some b))) w K:=by obtain⟨i,hi,hcmp⟩:=Option.map_eq_some_iff.1 aoN;obtain⟨j,hj,hjs⟩:=Option.map_eq_some_iff.1 aoO;unfold bU aM;rw[show(eqGuard .eql 74 x y (.iface 401 (.pointer (some a))) (.iface 401 (.pointer (some b))))=pure ()from rfl];simp[Sem.run_bind,Sem.run_pure,Result.andThen_ok,run_eql_iface_ptr_other w Go.Proofs.Tryz.underlying74 Go.Proofs.Tryz.underlying401 hi hcmp hj (by omega) hne ha hb];exact h
def avh {t:Nat}(ht:t=401\/t=78\/t=108\/t=273)(v:Value)(xT:TypeId)(w:World):(Instr.typeAssert (.iface t v) xT 221 true).run P w=.ok (.tuple #[.nilIface,.bool false]) w:=by
 rcases ht with rfl|rfl|rfl|rfl
 ·exact run_typeAssert_lacksB Go.Proofs.Tryz.underlying221 (by kernel_rfl) (by kernel_rfl) v xT w
 ·exact run_typeAssert_lacksB Go.Proofs.Tryz.underlying221 (by kernel_rfl) (by kernel_rfl) v xT w
 ·exact run_typeAssert_lacksB Go.Proofs.Tryz.underlying221 (by kernel_rfl) (by kernel_rfl) v xT w
 ·exact run_typeAssert_lacksB Go.Proofs.Tryz.underlying221 (by kernel_rfl) (by kernel_rfl) v xT w
def ayv {t:Nat}(ht:t=78\/t=108)(v:Value)(xT:TypeId)(w:World):(Instr.typeAssert (.iface t v) xT 231 true).run P w=.ok (.tuple #[.nilIface,.bool false]) w:=by
 rcases ht with rfl|rfl
 ·exact run_typeAssert_lacksB Go.Proofs.Tryz.underlying231 (by kernel_rfl) (by kernel_rfl) v xT w
 ·exact run_typeAssert_lacksB Go.Proofs.Tryz.underlying231 (by kernel_rfl) (by kernel_rfl) v xT w
def ayw {t:Nat}(ht:t=401\/t=108)(v:Value)(xT:TypeId)(w:World):(Instr.typeAssert (.iface t v) xT 224 true).run P w=.ok (.tuple #[.nilIface,.bool false]) w:=by
 rcases ht with rfl|rfl
 ·exact run_typeAssert_lacksB Go.Proofs.Tryz.underlying224 (by kernel_rfl) (by kernel_rfl) v xT w
 ·exact run_typeAssert_lacksB Go.Proofs.Tryz.underlying224 (by kernel_rfl) (by kernel_rfl) v xT w
def awu {t:Nat}(ht:t=401\/t=108)(v:Value)(xT:TypeId)(w:World):(Instr.typeAssert (.iface t v) xT 226 true).run P w=.ok (.tuple #[.nilIface,.bool false]) w:=by
 rcases ht with rfl|rfl
 ·exact run_typeAssert_lacksB Go.Proofs.Tryz.underlying226 (by kernel_rfl) (by kernel_rfl) v xT w
 ·exact run_typeAssert_lacksB Go.Proofs.Tryz.underlying226 (by kernel_rfl) (by kernel_rfl) v xT w
def ar1 {t:Nat}(ht:t=78\/t=273)(v:Value)(xT:TypeId)(w:World):(Instr.typeAssert (.iface t v) xT 224 true).run P w=.ok (.tuple #[.iface t v,.bool true]) w:=by
 rcases ht with rfl|rfl
 ·exact run_typeAssert_hasB Go.Proofs.Tryz.underlying224 (by kernel_rfl) v xT w
 ·exact run_typeAssert_hasB Go.Proofs.Tryz.underlying224 (by kernel_rfl) v xT w
end Go.Proofs.YtmegplnmiepfbaaGreatDoor.S
set_option maxRecDepth 20000
namespace Go.Proofs.YtmegplnmiepfbaaGreatDoor.S
open Go.Sx
open Go.Extern
attribute [local irreducible] af cv bz bg aA cw bZ St Bx Al App cH cy cD bU bF aq bS av ak aW mapA
def aAd:o6 302 fns=true:=by kernel_rfl
def aAe:o6 325 fns=true:=by kernel_rfl
def A7 {s:Sem Value}{w w':World}{v:Value}{K:Value->World->Prop}(h:s.run P w=.ok v w')(k:K v w'):aM P s w K:=by unfold aM;grind
section
variable {w:World}{p n:Nat}{v:Value}
def mJ {ad:Addr}{K:Value->Prop}(h:w.cell? ad=some v)(hp:Value.plain v=true)(k:K v):bZ ad w K:=by unfold bZ;grind
def tQ {t:Nat}{A B:Prop}(h:B):BP (.iface t v) λb=>cond b A B:=h
def S1 {b:Bool}{K:Value->Bool->Prop}(hp:Value.plain v=true)(k:K v b):dT (.tuple #[v,.bool b]) λl=>dH l λv0 l0=>dV v0 λx0=>dH l0 λv1 l1=>dB v1 λx1=>kT l1 (K x0 x1):=by show dV v λx0=>K x0 b;unfold dV;grind
def ack {Q:Value->World->Prop}(hv:w.cell? ((aZ p).add 1)=some v)(hp:Value.plain v=true)(k:Q v w):yQ (cx n) (.iface 78 (.pointer (sZ p))) "Unwrap" [] w λv w=>dV v λr=>Q r w:=by
 refine⟨302,_,aei _ w,?_⟩;unfold iv;have h:Gn (sZ p) w Q:=by apply Sz;refine ah (mJ hv hp ?_);unfold dV;grind
 exact h
def ath {Q:Value->World->Prop}(hv:w.cell? ((aZ p).add 1)=some v)(hp:Value.plain v=true)(k:Q v w):yQ (cx n) (.iface 273 (.pointer (sZ p))) "Unwrap" [] w λv w=>dV v λr=>Q r w:=by
 refine⟨325,_,atg _ w,?_⟩;unfold iv;have h:Fz (sZ p) w Q:=by apply QK;refine ah (mJ hv hp ?_);unfold dV;grind
 exact h
def akW {Q:Bool->World->Prop}{t:Nat}{u target:Value}{c:Bool}(ht:t=401\/t=108){k:Nat}
  (he:∀(x y:Operand) (K:Bool->World->Prop),K c w->bU P .eql 74 x y (.iface t u) target w K)(hQ:Q c w):qi Q (k+1) (.iface t u) target true w:=by
 show AT Q (qi Q k) _ _ _ _;unfold AT;apply he;cases c with
 |true=>exact hQ
 |false=>
  refine A7 (avh (by grind) _ _ _) (S1 rfl ?_);refine A7 (ayw ht _ _ _) (S1 rfl ?_);refine A7 (awu ht _ _ _) (S1 rfl ?_);grind
def ati {Q:Bool->World->Prop}{tw:Nat}{target:Value}{k tt:Nat}{tv:Value}(QM:tw=78\/tw=273)(htg:target=.iface 401 tv)(hv:w.cell? ((aZ p).add 1)=some (.iface tt v))
  (h:qi Q k (.iface tt v) target true w):qi Q (k+1) (.iface tw (.pointer (sZ p))) target true w:=by
 show AT Q (qi Q k) _ _ _ _;unfold AT;subst htg;apply avg (by grind);refine A7 (avh (by grind) _ _ _) (S1 rfl ?_);refine A7 (ar1 QM _ _ _) (S1 rfl ?_);rcases QM with rfl|rfl
 ·exact ack hv rfl h
 ·exact ath hv rfl h
def S2 {Q:Bool->World->Prop}{tw tt:Nat}{b:Addr}{c:Bool}(QM:tw=78\/tw=273)(ht:tt=401\/tt=108)(hv:w.cell? ((aZ p).add 1)=some (.iface tt v))
  (he:∀(x y:Operand) (K:Bool->World->Prop),K c w->bU P .eql 74 x y (.iface tt v) (.iface 401 (.pointer (some b))) w K)(hQ:Q c w):
  pF (.iface tw (.pointer (sZ p))) (.iface 401 (.pointer (some b))) w Q:=by
 apply Ns;refine tQ (tQ ?_);apply j7 x95 (afv _ w);refine mZ (aiP _) aoM avf (akV w) ?_;have h:xh (.iface tw (.pointer (sZ p))) (.iface 401 (.pointer (some b))) true w Q:=by apply Nr;exact⟨2,ati QM rfl hv (akW ht he hQ)⟩
 exact h
end
end Go.Proofs.YtmegplnmiepfbaaGreatDoor.S
set_option maxRecDepth 20000
namespace Go.Proofs.YtmegplnmiepfbaaGreatDoor.S
open Go.Sx
open Go.Extern
def x97 (args:Array Value)(w:World):(callFunc 97 args).run P w=((ReflectliteValue.unpack (args.getD 0 (.tuple #[]))).run P w).andThen λv w'=>.ok (.value v) w':=run_callFunc_extern (e:=λargs=>ReflectliteValue.unpack (args.getD 0 (.tuple #[]))) Go.Proofs.Tryz.func97 (by kernel_rfl) (by kernel_rfl) (by kernel_rfl) (by kernel_rfl) args w
def x98 (args:Array Value)(w:World):(callFunc 98 args).run P w=((ReflectliteValue.methodAny (ReflectliteValue.valueError "reflectlite.Value.Type" 0) (λt _ _ _=>ReflectliteType.toType t) args).run P w).andThen λv w'=>.ok (.value v) w':=run_callFunc_extern Go.Proofs.Tryz.func98 (by kernel_rfl) (by kernel_rfl) (by kernel_rfl) (by kernel_rfl) args w
def x99 (args:Array Value)(w:World):(callFunc 99 args).run P w=((ReflectliteValue.method (ReflectliteValue.valueError "reflectlite.Value.IsNil" 0) ReflectliteValue.isNil args).run P w).andThen λv w'=>.ok (.value v) w':=run_callFunc_extern Go.Proofs.Tryz.func99 (by kernel_rfl) (by kernel_rfl) (by kernel_rfl) (by kernel_rfl) args w
def aqP (args:Array Value)(w:World):(callFunc 138 args).run P w=((ReflectliteValue.method (ReflectliteValue.valueError "reflectlite.Value.Elem" 0) ReflectliteValue.elem args).run P w).andThen λv w'=>.ok (.value v) w':=run_callFunc_extern Go.Proofs.Tryz.func138 (by kernel_rfl) (by kernel_rfl) (by kernel_rfl) (by kernel_rfl) args w
def aqQ (args:Array Value)(w:World):(callFunc 139 args).run P w=((ReflectliteValue.set args).run P w).andThen λv w'=>.ok (.value v) w':=run_callFunc_extern Go.Proofs.Tryz.func139 (by kernel_rfl) (by kernel_rfl) (by kernel_rfl) (by kernel_rfl) args w
def aej (args:Array Value)(w:World):(callFunc 297 args).run P w=((ReflectliteType.abiMethod (λt=>do pure (.int .u8 (<-Rtype.kind t))) args).run P w).andThen λv w'=>.ok (.value v) w':=run_callFunc_extern Go.Proofs.Tryz.func297 (by kernel_rfl) (by kernel_rfl) (by kernel_rfl) (by kernel_rfl) args w
def aqR (args:Array Value)(w:World):(callFunc 312 args).run P w=((ReflectliteType.method ReflectliteType.elem args).run P w).andThen λv w'=>.ok (.value v) w':=run_callFunc_extern Go.Proofs.Tryz.func312 (by kernel_rfl) (by kernel_rfl) (by kernel_rfl) (by kernel_rfl) args w
def aqS (args:Array Value)(w:World):(callFunc 313 args).run P w=((ReflectliteType.relation "Implements" ReflectliteType.implements_ args).run P w).andThen λv w'=>.ok (.value v) w':=run_callFunc_extern Go.Proofs.Tryz.func313 (by kernel_rfl) (by kernel_rfl) (by kernel_rfl) (by kernel_rfl) args w
def aiR (args:Array Value)(w:World):(callFunc 310 args).run P w=((ReflectliteType.relation "AssignableTo" ReflectliteType.assignableTo args).run P w).andThen λv w'=>.ok (.value v) w':=run_callFunc_extern Go.Proofs.Tryz.func310 (by kernel_rfl) (by kernel_rfl) (by kernel_rfl) (by kernel_rfl) args w
def Rc:o6 297 fns=false:=by kernel_rfl
def aiS:o6 312 fns=false:=by kernel_rfl
def aiT:o6 313 fns=false:=by kernel_rfl
def WI:o6 310 fns=false:=by kernel_rfl
abbrev vP (a:Addr):Value:=.agg #[.pointer (some ⟨8,120,none⟩),.pointer (some a),.int .u64 150]
abbrev vR (a:Addr):Value:=.agg #[.pointer (some ⟨8,108,none⟩),.pointer (some a),.int .u64 130]
abbrev vE (a:Addr):Value:=.agg #[.pointer (some ⟨8,108,none⟩),.pointer (some a),.int .u64 386]
def rlm (z:Sem Value)(f:TypeId->Addr->Nat->Nat->Sem Value)(v:Value):
 ReflectliteValue.method z f #[v]=(do match<-ReflectliteValue.parts v with|none=>z|some (t,a,fl)=>f t a fl (fl%32)):=rfl
def z6 (a:Addr)(w:World):(ReflectliteValue.parts (vP a)).run P w=.ok (some (120,a,150)) w:=by kernel_rfl
def Jg (a:Addr)(w:World):(ReflectliteValue.parts (vR a)).run P w=.ok (some (108,a,130)) w:=by kernel_rfl
def Jh (a:Addr)(w:World):(ReflectliteValue.parts (vE a)).run P w=.ok (some (108,a,386)) w:=by kernel_rfl
def Mc (a p:Addr)(w:World)(ha:w.cell? a=some (.pointer (some p))):(ReflectliteValue.method (ReflectliteValue.valueError "reflectlite.Value.IsNil" 0) ReflectliteValue.isNil #[vP a]).run P w=.ok (.bool false) w:=by rw[rlm];simp[Sem.run_bind,z6,Result.andThen];simp[ReflectliteValue.isNil,loadVar,isAgg,underlying,Go.Proofs.Tryz.underlying120,ha,Result.andThen]
def Ji (w:World):(Rtype.elem? 120).run P w=.ok (some 108) w:=by kernel_rfl
def acm (p:Addr)(w:World):(ReflectliteValue.mk 108 p ReflectliteValue.flagAddr).run P w=.ok (vE p) w:=by kernel_rfl
def Md (a p:Addr)(w:World)(ha:w.cell? a=some (.pointer (some p))):(ReflectliteValue.method (ReflectliteValue.valueError "reflectlite.Value.Elem" 0) ReflectliteValue.elem #[vP a]).run P w=.ok (vE p) w:=by rw[rlm];simp[Sem.run_bind,z6,Result.andThen];simp[ReflectliteValue.elem,loadVar,isAgg,underlying,Go.Proofs.Tryz.underlying120,ha,Result.andThen,Ji,acm]
def rls (v x:Value):ReflectliteValue.set #[v,x]=(do
 let(some (dst,a,fl),some (src,b,_)):=(<-ReflectliteValue.parts v,<-ReflectliteValue.parts x)
  |unsupported (.noEntry "extern/(internal/reflectlite.Value).Set.zeroValue")
 if fl/ReflectliteValue.flagAddr%2==0 then unsupported (.noEntry "extern/(internal/reflectlite.Value).Set.unaddressable")
 let val<-loadVar src b
 if<-Rtype.directlyAssignable dst src then storeVar dst a val
 else if<-Rtype.implements dst src then
  if(<-Rtype.kind src)==20 then
   match val with
   |.nilIface=>unsupported (.noEntry "extern/reflectlite: a nil value of one interface type handed on as a value of another")
   |_=>storeVar dst a val
  else storeVar dst a (.iface src val)
 else panicString ("reflectlite.Set: value of type "++(<-Rtype.spelt src)++ " is not assignable to type "++(<-Rtype.spelt dst))
 pure (.tuple #[])):=rfl
def Jj (w:World):(Rtype.directlyAssignable 108 108).run P w=.ok true w:=by kernel_rfl
def WK (t b:Addr)(n:Int)(old:Value)(w:World)(hb:w.cell? b=some (ae n))(ht:w.cell? t=some old)(hf:w.frozen? t=false):
  (ReflectliteValue.set #[vE t,vR b]).run P w=.ok (.tuple #[]) (w.setCell t (ae n)):=by
 rw[rls];simp[Sem.run_bind,Jh,Jg,Result.andThen];simp[ReflectliteValue.flagAddr,loadVar,isAgg,underlying,Go.Proofs.Tryz.underlying108,hb,Result.andThen,Jj,storeVar,Value.cells,storeCells,Addr.add];rw[run_store P w t _ _ (by rfl)];simp[ht,hf]
end Go.Proofs.YtmegplnmiepfbaaGreatDoor.S
set_option maxRecDepth 20000
namespace Go.Proofs.YtmegplnmiepfbaaGreatDoor.S
open Go.Sx
open Go.Extern
attribute [local irreducible] tT callFunc Sem.run ReflectliteValue.method ReflectliteValue.set ReflectliteValue.unpack ReflectliteType.relation ReflectliteType.typeOf af cv bz bg aA cw bZ St App cH cy cD bU bF aq bS av ak aW mapA
section
variable {F:Nat->Prop}{W w:World}{L:List As}{p r:Nat}{c v0:Int}
def S3 {a b:Option Addr}{f:Int}{K:Option Addr->Option Addr->Int->Prop}(k:K a b f):dL (.agg #[.pointer a,.pointer b,.int .u64 f]) λl=>dH l λv0 l0=>dP v0 λa=>dH l0 λv1 l1=>dP v1 λb=>dH l1 λv2 l2=>dI .u64 v2 λf=>kT l2 (K a b f):=k
def al5 {A B:Prop}(h:A):dB (.bool true) λb=>cond b A B:=h
def aek {A B:Prop}(h:B):dB (.bool false) λb=>cond b A B:=h
def al6 {A B:Prop}(h:B):dB (.bool true) λb=>cond (!b) A B:=h
def al7 {A B:Prop}(h:B):dI .u8 (.int .u8 22) λr=>cond (r !=22) A B:=h
def ar2 {A B:Prop}(h:A):dI .u8 (.int .u8 2) λr=>cond (r !=20) A B:=h
def aBd:zc T 161=[.pointer none,.pointer none,.int .u64 0]:=rfl
def al8 {ad:Addr}{v:Value}{K:World->Prop}(h:St ad v w K):(∃u,w.cell? ad=some u)/\w.frozen? ad=false/\K (w.setCell ad v):=by unfold St at h;exact h
def Re {b:Addr}{K:Value->World->Prop}(hb:w.cell? b=some (ae c))(h:St (aZ r) (ae c) w λw=>K (.tuple #[]) w):tT P 139 #[vE (aZ r),vR b] w K:=by obtain⟨⟨u,hu⟩,hf,k⟩:=al8 h;have he:=WK (aZ r) b c u w hb hu hf;apply j7 (w':=w.setCell (aZ r) (ae c)) aqQ he;exact k
def WL {Q:Bool->World->Prop}{k tb:Nat}{a:Nat}(s:Sep F W w (av tb 161 [.pointer (some ⟨8,120,none⟩),.pointer (sZ a),.int .u64 150]::av a 120 [.pointer (sZ r)]::av r 108 [ae v0]::L))
  (hQ:∀w',Sep F W w' (av r 108 [ae c]::L)->Q true w'){target:Value}:ji Q (k+1) (.iface 108 (ae c)) target (.iface 219 (rt 108)) (aZ tb) w:=by
 show wV Q (ji Q k) _ _ _ _ _;apply j7 x95 (GU _ w);refine mZ (Q_ _) WI aiR (Rb w) ?_;apply al5;refine lP s 0 rfl (lP s 0 rfl (lI s 0 rfl ?_));apply j7 aqP (Md (aZ a) (aZ r) w (by have:=cR s (i:=1) (j:=0) rfl rfl rfl;exact this));apply S3;refine j7 x97 (Eo c w) ?_;apply S3;have s2:=tW (ai (ai s)) [ae c] 108;have s2:=s2;apply Re (c:=c) (by simp_all);refine ax s2 (i:=1) rfl rfl rfl λw s=>?_;exact hQ w (ai s)
def aiW {Q:Bool->World->Prop}{k tb:Nat}{a:Nat}(s:Sep F W w (av tb 161 [.pointer (some ⟨8,120,none⟩),.pointer (sZ a),.int .u64 150]::av a 120 [.pointer (sZ r)]::av r 108 [ae v0]::L))
  (hv:w.cell? ((aZ p).add 1)=some (.iface 108 (ae c)))
  (hQ:∀w',Sep F W w' (av r 108 [ae c]::L)->Q true w'){target:Value}:ji Q (k+2) (.iface 78 (.pointer (sZ p))) target (.iface 219 (rt 108)) (aZ tb) w:=by
 show wV Q (ji Q (k+1)) _ _ _ _ _;apply j7 x95 (S0 _ w);refine mZ (Q_ _) WI aiR (aeh w) ?_;apply aek;refine A7 (ayv (.inl rfl) _ _ _) (S1 rfl ?_);refine A7 (ar1 (.inl rfl) _ _ _) (S1 rfl ?_);exact ack hv rfl (tQ (WL s hQ))
def Me {Q:Bool->World->Prop}(s:Sep F W w (av r 108 [ae v0]::L))(hv:∀w',Sep F W w' L->w'.cell? ((aZ p).add 1)=some (.iface 108 (ae c)))
  (h1:∀w',Sep F W w' L->w'.cell? (aZ 1)=some (.iface 219 (rt 74)))
  (hQ:∀w',Sep F W w' (av r 108 [ae c]::L)->Q true w'):
  nG (.iface 78 (.pointer (sZ p))) (.iface 120 (.pointer (sZ r))) w Q:=by
 apply Bs;refine tQ (tQ ?_);refine j7 x97 (GV (aZ r) w) ?_;apply S3;have s:=tW s [.pointer (sZ r)] 120;have s:=s;generalize w.heap.size=a at s⊢;generalize w.alloc (.cells #[.pointer (sZ r)] 120)=w1 at s⊢;refine aV s λvb w s=>?_;refine sT s 0 rfl λw s=>?_;refine sT s 0 rfl λw s=>?_;refine ax s (i:=0) rfl rfl rfl λw s=>?_;refine lP s 0 rfl (lP s 0 rfl (lI s 0 rfl ?_));apply j7 x98 (Q9 (aZ a) w);refine mZ (Ig _) Rc aej (Ma w) ?_;apply al7;refine lP s 0 rfl (lP s 0 rfl (lI s 0 rfl ?_));apply j7 x99 (Mc (aZ a) (aZ r) w (by have:=cR s (i:=1) (j:=0) rfl rfl rfl;exact this));apply aek;refine mZ (aan _) aiS aqR (Ra w) ?_;refine mZ (Ig _) Rc aej (Mb w) ?_;apply ar2;apply mJ (h1 w (ai (ai (ai s)))) rfl;refine mZ (aeg _) aiT aqS (WG w) ?_;apply al6;refine lP s 0 rfl (lP s 0 rfl (lI s 0 rfl ?_));apply Gp;have s:=ai s;refine aQ s λtb w s=>?_;exact⟨2,aiW s (hv w (ai (ai (ai s)))) hQ⟩
end
end Go.Proofs.YtmegplnmiepfbaaGreatDoor.S
