/- Part 4 of the proof. -/
import Derived.Test.YtmegplnmiepfbaaGreatDoorK2
import Derived.Laws.Pointers
import Derived.Laws.Externs
import Derived.LaidEql
import Derived.Stop.Asserts
set_option linter.unusedVariables false
set_option linter.unusedSimpArgs false
set_option linter.defProp false
namespace Go.Proofs.YtmegplnmiepfbaaGreatDoor.S
open Go.Sx
def avi (P:Program)(t:TypeId)(xs ys:Array Value):Option Bool:=match P.underlying t with
 |some (.struct fs)=>ah1 P xs ys fs.toList
 |_=>none
def aoH {P:Program}{t:TypeId}{xs ys:Array Value}{x y:Operand}{r:Bool}{w:World}{K:Bool->World->Prop}(hp:P.stoodInHeld t=false)(hg:P.eqGuardType P.depth t=false)(hr:avi P t xs ys=some r)(h:K r w):bV P .eql t x y (.agg xs) (.agg ys) w K:=by
 unfold avi at hr;split at hr
 ·rename_i fs hu;exact auV hu hp hg hr h
 ·cases hr
def eq3 {a b c a' b' c':Int}:(a==a'&&(b==b'&&(c==c'&&true)))=decide (a=a'/\b=b'/\c=c'):=by grind
def atP {a b:bq}:(a.c=b.c/\a.s=b.s/\a.k=b.k)↔a=b:=by obtain⟨a1,a2,a3⟩:=a;obtain⟨b1,b2,b3⟩:=b;simp
attribute [local irreducible] bV
def aoI {w:World}{x y:Operand}{a b:bq}{K:Bool->World->Prop}(h:K (decide (a=b)) w):bV P .eql 294 x y (.agg #[ae a.c,ae a.s,ae a.k]) (.agg #[ae b.c,ae b.s,ae b.k]) w K:=by apply aoH (r:=a.c==b.c&&(a.s==b.s&&(a.k==b.k&&true))) (by kernel_rfl) (by kernel_rfl) (by kernel_rfl);rw[eq3];simp[atP];exact h
def avj {w:World}{x y:Operand}{a b:bq}{K:Bool->World->Prop}(h:K (!decide (a=b)) w):bV P .neq 294 x y (.agg #[ae a.c,ae a.s,ae a.k]) (.agg #[ae b.c,ae b.s,ae b.k]) w K:=
 ak3 (by kernel_rfl) (aoI h)
end Go.Proofs.YtmegplnmiepfbaaGreatDoor.S
namespace Go.Proofs.YtmegplnmiepfbaaGreatDoor.S
open Go.Sx
open Go.Sort (swp PermIn SortedIn Below)
attribute [local irreducible] af cD bz bg aA cy b_ St Bx Al App cK cE cB bV aN bG aq bT av ak aW mapA
section
variable {F:Nat->Prop}{W w w0:World}{L:List As}{a:Option Addr}{n c:Nat}{d:Array bq}
def ai2 (lo b:Nat)(d d':Array bq):Prop:=PermIn lo b d d'/\SortedIn cT lo b d'
def aq7 (hn:n<2000):∀(N:Nat) (lo b:Nat) (limit:Int) (wb wp:Bool) (d:Array bq) (w:World) (Q:World->Prop) (f:Nat),b-lo<=N->N<f->lo<=b->b<=n->Below cT lo b d->0<=limit/\limit<1000->Sep F W w (dg a n c d::L)->
   (∀d' w',ai2 lo b d d'->Sep F W w' (dg a n c d'::L)->Q w')->cN Q f a n c lo b limit iR wb wp w:=by
 intro N;induction N with
 |zero=>
  intro lo b limit wb wp d w Q f h1 hf h2 h3 hB AO s h;obtain⟨f,rfl⟩:∃g,f=g+1:=⟨f-1,by omega⟩;show ig Q (cN Q f) _ _ _ _ _ _ _ _ _ _;unfold ig;have hsz:=gx s;rw[aH,bM];refine HR s (by omega) h2 h3 λw s=>h _ w ?_ s;exact Go.Sort.insertionSort_holds F4 d lo b h2 (by omega)
 |succ N ih=>
  have call:∀(lo b:Nat) (limit:Int) (d:Array bq) (w:World) (Q:World->Prop),b-lo<=N->lo<=b->b<=n->Below cT lo b d->0<=limit/\limit<1000->Sep F W w (dg a n c d::L)->
    (∀d' w',ai2 lo b d d'->Sep F W w' (dg a n c d'::L)->Q w')->fq a n c lo b limit iR w Q:=λlo b limit d w Q h1 h2 h3 h4 h5 s h=>by
   apply r9;exact⟨N+1,ih lo b limit true true d w Q (N+1) h1 (Nat.lt_succ_self N) h2 h3 h4 h5 s h⟩
  intro lo b limit wb wp d w Q f h1 hf h2 h3 hB AO s h;obtain⟨f,rfl⟩:∃g,f=g+1:=⟨f-1,by omega⟩;show ig Q (cN Q f) _ _ _ _ _ _ _ _ _ _;unfold ig;have hsz:=gx s;rw[aH];by_cases h12:b-lo<=12
  ·rw[bM];refine HR s (by omega) h2 h3 λw s=>h _ w ?_ s;exact Go.Sort.insertionSort_holds F4 d lo b h2 (by omega)
  rw[bj];by_cases hl0:limit=0
  ·rw[ee hl0,cond_true];refine aex s (by omega) (by omega) h3 λw s=>h _ w ?_ s;exact Go.Sort.heapSort_holds F4 d lo b h2 (by omega)
  rw[cL hl0,cond_false];have via:∀{d1 d':Array bq},PermIn lo b d d1->ai2 lo b d1 d'->ai2 lo b d d':=λh1 h2=>⟨Go.Sort.permIn_trans _ _ _ _ _ h1 h2.1,h2.2⟩;have b20:∀(limit:Int) (pv:Nat) (d1:Array bq) (w:World),0<=limit/\limit<1000->lo<=pv/\pv<b->PermIn lo b d d1->Sep F W w (dg a n c d1::L)->
    jD (cN Q f) Q a n c lo b limit iR ((b:Int)-lo) pv w:=λlimit pv d1 w AO hp hP s=>by
   have avl:=gx s;rcases hx:Go.Sort.partition cT d1 lo b pv with⟨mid,ap,d4⟩;obtain⟨p1,p2,p3,p4,p5,p6,p7⟩:=Go.Sort.round_part F4 (Go.Sort.partition_holds cT) hp.1 hp.2 (by omega) (Go.Sort.Below.perm hB (by omega) hP) hx;refine acy s (by omega) hp h3 λw s=>⟨by decide,?_⟩;rw[hx]at s⊢;rw[aH,aH,aH];by_cases hm:(mid:Int)-lo<b-mid
   ·rw[bM hm];refine call lo mid limit d4 w _ (by omega) (by omega) (by omega) p4 AO s λd5 w hS s=>?_;obtain⟨q1,q2⟩:=p6 d5 hS.1 hS.2;exact ih (mid+1) b limit _ _ d5 w Q f (by omega) (by omega) (by omega) h3 q1 AO s λd6 w hS2 s=>h d6 w (via hP (q2 d6 hS2.1 hS2.2)) s
   ·rw[bj hm];refine call (mid+1) b limit d4 w _ (by omega) (by omega) (by omega) p5 AO s λd5 w hS s=>?_;obtain⟨q1,q2⟩:=p7 d5 hS.1 hS.2;exact ih lo mid limit _ _ d5 w Q f (by omega) (by omega) (by omega) (by omega) q1 AO s λd6 w hS2 s=>h d6 w (via hP (q2 d6 hS2.1 hS2.2)) s
  have Za:∀(limit:Int) (pv:Nat) (d1:Array bq) (w:World),0<=limit/\limit<1000->lo<=pv/\pv<b->PermIn lo b d d1->Sep F W w (dg a n c d1::L)->
    eZ (cN Q f) Q a n c lo b limit iR wb wp ((b:Int)-lo) pv w:=λlimit pv d1 w AO hp hP s=>by
   have avl:=gx s;unfold eZ;by_cases h0:lo>0
   ·rw[bM,aH];refine G4 (p:=lo-1) (ay s) (by omega) (by omega) rfl (by omega) λw s=>?_;show cond (!cT d1[lo-1]! d1[pv]!) _ _;cases hc:cT d1[lo-1]! d1[pv]! with
    |false=>
     rcases hx:Go.Sort.partitionEqual cT d1 lo b pv with⟨mid,d4⟩;obtain⟨p1,p2,p3,p4,p5⟩:=Go.Sort.round_eq F4 (Go.Sort.partitionEqual_holds cT) h0 hp.1 hp.2 (by omega) (Go.Sort.Below.perm hB (by omega) hP) hc hx;refine Ti s (by omega) hp h3 λw s=>?_;rw[hx]at s⊢;exact ih mid b limit _ _ _ w Q f (by omega) (by omega) p2 h3 p4 AO s λd6 w hS2 s=>h d6 w (via hP (p5 d6 hS2.1 hS2.2)) s
    |true=>
     exact b20 limit pv d1 w AO hp hP s
   ·rw[bj];exact b20 limit pv d1 _ AO hp hP (ay s)
  have b15:∀(limit:Int) (pv:Nat) (hint:Int) (d1:Array bq) (w:World),0<=limit/\limit<1000->lo<=pv/\pv<b->PermIn lo b d d1->Sep F W w (dg a n c d1::L)->
    gY (cN Q f) Q a n c lo b limit iR wb wp ((b:Int)-lo) pv hint w:=λlimit pv hint d1 w AO hp hP s=>by
   have avl:=gx s;unfold gY;cases hwb:wb with
   |false=>rw[cond_false];rw[hwb]at Za;exact Za limit pv d1 w AO hp hP s
   |true=>
    cases hwp:wp with
    |false=>rw[cond_false];rw[hwb,hwp]at Za;exact Za limit pv d1 w AO hp hP s
    |true=>
     rw[hwb,hwp]at Za;cases hint==1 with
     |false=>rw[cond_false];exact Za limit pv d1 w AO hp hP s
     |true=>
      have hpi:=Go.Sort.partialInsertionSort_holds F4 d1 lo b (by omega) (by omega) (Go.Sort.Below.perm hB (by omega) hP);refine aaB s (by omega) (by omega) h3 λw s=>?_;cases hr:(Go.Sort.partialInsertionSort cT d1 lo b).2 with
      |true=>
       exact h _ w (via hP ⟨hpi.1,hpi.2 hr⟩) s
      |false=>
       exact Za limit pv _ w AO hp (Go.Sort.permIn_trans _ _ _ _ _ hP hpi.1) s
  have b10:∀(limit:Int) (d1:Array bq) (w:World),0<=limit/\limit<1000->PermIn lo b d d1->Sep F W w (dg a n c d1::L)->
    jE (cN Q f) Q a n c lo b limit iR wb wp ((b:Int)-lo) w:=λlimit d1 w AO hP s=>by
   refine YN s (by omega) (by omega) h3 λpv hint w hp s=>?_;cases hint==2 with
   |true=>
    refine ahd s (by omega) (by omega) h3 λd2 w hP2 s=>?_;rw[aH (n:=(b:Int)-1),aH (n:=(pv:Int)-lo),aH,show(b:Int)-1-(pv-lo)=((b-1-(pv-lo):Nat):Int) by omega];exact b15 limit _ 1 d2 w AO (by omega) (Go.Sort.permIn_trans _ _ _ _ _ hP hP2) s
   |false=>
    exact b15 limit pv hint d1 w AO hp hP s
  cases wb with
  |false=>
   refine ai1 s hn (by omega) h3 λd1 w hP s=>?_;rw[aH];exact b10 (limit-1) d1 w (by omega) hP s
  |true=>
   exact b10 limit d w AO (Go.Sort.permIn_refl _ _ _) s
def aoJ (hn:n<2000){lo b:Nat}{limit:Int}{Q:World->Prop}(h2:lo<=b)(h3:b<=n)(h4:Below cT lo b d)(h5:0<=limit/\limit<1000)(s:Sep F W w (dg a n c d::L))
  (h:∀d' w',ai2 lo b d d'->Sep F W w' (dg a n c d'::L)->Q w'):fq a n c lo b limit iR w Q:=by
 apply r9;exact⟨b-lo+1,aq7 hn (b-lo) lo b limit true true d w Q (b-lo+1) (Nat.le_refl _) (by omega) h2 h3 h4 h5 s h⟩
def aez {Q:World->Prop}{xs:List bq}(s:Sep F W w (ak a n c 294 3 (flat fV xs)::L))(hn:n<2000)(h:∀w',Sep F W w' (ak a n c 294 3 (flat fV (aaw xs))::L)->Q w'):
  kW a n c iR w Q:=by
 have s:=s;have hsz:=gx s;apply Bd;rw[kF (by omega)];refine Rt (by omega) λv hv _ _=>?_;refine aoJ hn (Nat.zero_le _) (Nat.le_refl _) (.inl rfl) (by omega) s λd' w hS s=>h w ?_;have:=Go.Sort.sorted_unique_holds F4 (λx y h k=>avc h k) xs.toArray d' (by rw[hsz];exact hS.1) (by rw[hsz];exact hS.2);unfold aaw;grind
def ahe {Q:Option Addr->Nat->Nat->World->Prop}{xs:List bq}(s:Sep F W w (ak a n c 294 3 (flat fV xs)::L))(hn:n<1000000)(hnd:xs.Nodup)(h:∀w',Sep F W w' (ak a n c 294 3 (flat fV xs)::L)->Q a n c w'):
  lG a n c w Q:=by
 have s:Sep F W w (dg a n c xs.toArray::L):=s;have hsz:=gx s;have hl:xs.length=n:=by grind
 apply BA;by_cases h2:n<2
 ·grind
 ·rw[bj];have loop:∀(k i:Nat) (w:World),i+k=n->0<i->Sep F W w (dg a n c xs.toArray::L)->fy Q (k+1) a n c i w:=by
   intro k;induction k with
   |zero=>
    intro i w hi h0 s;show gL Q (fy Q 0) _ _ _ _ _;unfold gL;grind
   |succ k ih=>
    intro i w hi h0 s;show gL Q (fy Q (k+1)) _ _ _ _ _;rw[gL,bM,aH];apply RdS (ay s) rfl (by omega);apply RdS (k:=i-1) (ay s) (by omega) (by omega);have hne:xs.toArray[i]!≠xs.toArray[i-1]!:=λe=>by have e1:=XN (d:=xs.toArray) (k:=i) (by omega);have e2:=XN (d:=xs.toArray) (k:=i-1) (by omega);rw[e,<-e2]at e1;have e1:=e1;have:=(List.getElem?_inj (by omega) hnd).1 e1;omega
    apply aoI;rw[bj hne,aH];exact ih (i+1) _ (by omega) (by omega) (ay s)
  exact⟨n-1+1,loop (n-1) 1 w (by omega) (by omega) s⟩
def aoK {xs:List bq}(h:xs.Nodup):(aaw xs).Nodup:=(List.mergeSort_perm xs _).nodup_iff.2 h
def AP {Q:Option Addr->Nat->Nat->World->Prop}{xs:List bq}(s0:Sep F W w L)(hX:Sl w a n c 3 fV xs)(hn:n<2000)(hnd:xs.Nodup)(h:∀ra rc w',Sep F W w' (ak ra n rc 294 3 (flat fV (N2 xs))::L)->Fr No w w'->Q ra n rc w'):
  kM a n c w Q:=by
 apply aaa;refine WD (bh (F:=No)) hX (by omega) λra rc w1 s _=>?_;refine aez s hn λw1 s=>?_;refine ahe s (by omega) (aoK hnd) λw1 s=>?_;exact h ra rc w1 (dG s0 s (i:=0) rfl) (au s)
def aaC {Q:Bool->World->Prop}{xs ys:List bq}{b:Option Addr}{m e:Nat}(hX:Sl w a n c 3 fV xs)(hY:Sl w b m e 3 fV ys)(s0:Sep F W w L)(hn:n<1000000)(hm:m<1000000)(h:∀w',Sep F W w' L->Fr No w w'->Q (decide (xs=ys)) w'):
  Fk a n c b m e w Q:=by
 apply aai;apply CI;have h1:=hX.len;have h2:=hY.len;have fin:∀(r:Bool) (w':World),r=decide (xs=ys)->Sep No w w' []->Q r w':=λr w' e s=>by subst e;exact h w' (bW s0 (au s)) (au s)
 by_cases hl:n=m
 ·subst hl;have loop:∀(k i:Nat) (w1:World),i+k=n->xs.take i=ys.take i->Sep No w w1 []->fT Q (k+1) a n c b n e n i w1:=by
   intro k;induction k with
   |zero=>
    intro i w1 hi he s;show ij Q (fT Q 0) _ _ _ _ _ _ _ _ _;unfold ij;grind
   |succ k ih=>
    intro i w1 hi he s;show ij Q (fT Q (k+1)) _ _ _ _ _ _ _ _ _;rw[ij,bM];have s:=ay s;refine(hX.fr (au s)).El rfl (by omega) λp x hx hc=>?_;refine aL (hc 0 _ rfl) (aL (hc 1 _ rfl) (aL (hc 2 _ rfl) ?_));refine(hY.fr (au s)).El rfl (by omega) λp y hy hc=>?_;refine aL (hc 0 _ rfl) (aL (hc 1 _ rfl) (aL (hc 2 _ rfl) ?_));apply avj;by_cases hxy:x=y
    ·rw[decide_eq_true hxy,Bool.not_true,cond_false,aH];refine ih (i+1) _ (by omega) ?_ s;rw[List.take_add_one,List.take_add_one,hx,hy,he,hxy]
    grind
  rw[bne_self_eq_false,cond_false];exact⟨n+1,loop n 0 w (by omega) (by simp) bh⟩
 ·rw[show((n:Int) !=(m:Int))=true by grind,cond_true];refine fin false _ ?_ bh;grind
end
end Go.Proofs.YtmegplnmiepfbaaGreatDoor.S
namespace Go.Proofs.YtmegplnmiepfbaaGreatDoor.S
open Go.Sx
attribute [local irreducible] af cD bz bg aA cy b_ St Bx Al App cK cE cB bV aN bG aq bT av ak aW mapA
section
variable {W w w0:World}{p rp:Nat}{tw th a:Int}{ca ta da:Option Addr}{cn cc tn tc dn dc:Nat}{cs ds:List Int}{xs todo:List bq}{l:List (Int×Int)}{bs:List Rg.Bk}{N:Nat}
def swc (tw th:Int)(ca:Option Addr)(cn cc rp:Nat)(ta:Option Addr)(tn tc:Nat)(da:Option Addr)(dn dc:Nat):List Value:=
 [ae tw,ae th,.slice ca cn cc,.pointer (sZ rp),.slice ta tn tc,.slice da dn dc]
abbrev DT (p rp:Nat)(tw th:Int)(ca:Option Addr)(cn cc:Nat)(a:Int)(l:List (Int×Int))(bs:List Rg.Bk)(N:Nat)(ta:Option Addr)(tn tc:Nat)(todo:List bq)(da:Option Addr)(dn dc:Nat)(ds:List Int):List As:=
 [av p 363 (swc tw th ca cn cc rp ta tn tc da dn dc),Rg.BV rp a l bs N,ak ta tn tc 294 3 (flat fV todo),ak da dn dc 3 1 (flat one ds)]
def aoL {Q:World->Prop}
  (h:∀(l':List (Int×Int)) (N':Nat) (todo':List bq) bs' Y6 tn' Y7 w',CU tw th cs xs a l' N' todo' ds->(∀x∈todo',a+256<=x.k)->l'.length+todo'.length=l.length+todo.length->(l'=[]->l=[]/\todo'=todo)->Sep No w0 w' (DT p rp tw th ca cn cc a l' bs' N' Y6 tn' Y7 todo' da dn dc ds)->Q w')(wE:cs.length<=256)(hxs:xs.length<2000):
  ∀(IY:List bq) (l1:List (Int×Int)) (N1:Nat) (yG:List Rg.Bk) (ta1:Option Addr) (tn1 tc1:Nat) (w:World),CU tw th cs xs a l1 N1 IY ds->l1.length+IY.length=l.length+todo.length->(l1=[]->l=[]/\IY=todo)->
   Sep No w0 w (DT p rp tw th ca cn cc a l1 yG N1 ta1 tn1 tc1 IY da dn dc ds)->gD Q (IY.length+1) (sZ p) w:=by
 intro IY;induction IY with
 |nil=>
  intro l1 N1 yG ta1 tn1 tc1 w I hl he s;show yy Q (gD Q 0) _ _;have Rh:=(aG s (i:=2) rfl nP (by decide)).len;refine ah (gZ (ay s) (i:=0) rfl rfl rfl ?_);subst Rh;exact h l1 N1 [] yG ta1 _ tc1 _ I (by simp) hl he (ay s)
 |cons x IY ih=>
  intro l1 N1 yG ta1 tn1 tc1 w I hl he s;show yy Q (gD Q (IY.length+1)) _ _;have hX:=aG s (i:=2) rfl nP (by decide);have Rh:=hX.len;have WQ:=I.eL;simp[List.length_cons]at Rh WQ;have s:=ay s;refine ah (lS s 0 rfl ?_);rw[bM];refine ah (lP s 0 rfl (ah (lS s 0 rfl ?_)));refine hX.El (k:=0) rfl (by omega) λq y hy hc=>?_;have hy:x=y:=by grind
  subst hy;refine aL (hc 2 _ rfl) (ah (lS s 0 rfl ?_));refine hX.El (k:=0) rfl (by omega) λq y hy hc=>?_;have hy:x=y:=by grind
  subst hy;have hc0:=hc 0 _ rfl;refine aL hc0 ?_;have aaz:=I.top (kc x) (by simp);have S8:=I.low x (by simp);have hk:(kc x).1=x.k:=rfl;refine Rg.Rq s (i:=1) rfl (by omega) (by omega) (λhno=>?_) λhyes w HS s=>?_
  ·refine h l1 N1 (x::IY) yG ta1 tn1 tc1 _ I (λy hy=>?_) hl he s;rcases List.mem_cons.1 hy with rfl|hy
   ·omega
   ·have:=(List.pairwise_cons.1 I.N8).1 y hy;omega
  ·rw[cond_true];refine ah (lS s 0 rfl ?_);apply PI (m:=1) rfl (by omega);refine ah (sT s 0 rfl λw s=>?_);have s:=agu (m:=1) s (i:=2) rfl (by omega);refine ih (l1++[kc x]) (N1+1) HS _ _ _ w I.take (by simp[List.length_append,List.length_cons,List.length_nil]at hl⊢;omega) (λe=>by simp at e) s
def acB {Q:World->Prop}(I:CU tw th cs xs a l N todo ds)(wE:cs.length<=256)(hxs:xs.length<2000)(s:Sep No w0 w (DT p rp tw th ca cn cc a l bs N ta tn tc todo da dn dc ds))
  (h:∀(a':Int) (l':List (Int×Int)) (N':Nat) (todo':List bq) bs' Y6 tn' Y7 w',CU tw th cs xs a' l' N' todo' ds->(∀x∈todo',a'+256<=x.k)->(l'=[]->todo'=[])->l'.length+todo'.length=l.length+todo.length->Sep No w0 w' (DT p rp tw th ca cn cc a' l' bs' N' Y6 tn' Y7 todo' da dn dc ds)->Q w'):
  jU (sZ p) w Q:=by
 apply LQ;have hX:=aG s (i:=2) rfl nP (by decide);have Rh:=hX.len;refine ah (lS s 0 rfl ?_);have go:∀(a1:Int) (yG:List Rg.Bk) (w:World),CU tw th cs xs a1 l N todo ds->(l=[]->∀x∈todo.head?,a1=x.k)->Sep No w0 w (DT p rp tw th ca cn cc a1 l yG N ta tn tc todo da dn dc ds)->∃k',gD Q k' (sZ p) w:=λa1 yG w I he s=>by
  refine⟨todo.length+1,aoL (λl' N' todo' bs' Y6 tn' Y7 w' I' hf hl hn s'=>?_) wE hxs todo l N yG ta tn tc w I rfl (λe=>⟨e,rfl⟩) s⟩;refine h a1 l' N' todo' bs' Y6 tn' Y7 w' I' hf (λe=>?_) hl s';obtain⟨e1,e2⟩:=hn e;cases todo with
  |nil=>exact e2
  |cons y ys=>
   have h1:=he e1 y (by simp);grind
 cases Ja:todo with
 |nil=>
  subst Ja;have Rh:=Rh;subst Rh;exact go a bs w I (λ_ x hx=>by simp at hx) s
 |cons x ys=>
  subst Ja;simp[List.length_cons]at Rh;rw[bM];refine ah (lP s 0 rfl ?_);apply Rg.Dy s (i:=1) rfl;by_cases hl:l=[]
  ·subst hl;rw[ee (show((([]:List (Int×Int)).length:Nat):Int)=0 from rfl),cond_true];have s:=ay s;refine ah (lP s 0 rfl (ah (lS s 0 rfl ?_)));refine hX.El (k:=0) rfl (by omega) λq y hy hc=>?_;have hy:x=y:=by grind
   subst hy;refine aL (hc 2 _ rfl) ?_;have aaz:=I.top (kc x) (by simp);have hk:(kc x).1=x.k:=rfl;refine Rg.acq s (i:=1) rfl (λhno=>?_) λ_ w HS s=>?_
   ·exact(hno ⟨rfl,I.low x (by simp),by omega⟩).elim
   ·exact go x.k HS w I.jump (λ_ y hy=>by grind) s
  ·rw[cL (by simp_all),cond_false];grind
def akA {Q:World->Prop}{x key:Int}(hC:Sl w0 ca cn cc 1 bp cs)(hx:0<=x/\x<cs.length)(hds:ds.length=cs.length)(hk:a<=key/\key<a+256/\key<1000000000000)(hN:N+1<1000000)
  (s:Sep No w0 w (DT p rp tw th ca cn cc a l bs N ta tn tc todo da dn dc ds))
  (h:∀bs' w',Sep No w0 w' (DT p rp tw th ca cn cc a (l++if gi cs x.toNat≠255/\gi ds x.toNat=cg then[(key,x)]else[]) bs' (N+(if gi cs x.toNat≠255/\gi ds x.toNat=cg then[(key,x)]else[]).length) ta tn tc todo da dn dc ds)->Q w'):
  iB (sZ p) x key w Q:=by
 apply KR;have hD:=aG s (i:=3) rfl bX (by decide);have Rj:=hC.len;have hdn:=hD.len;have skip:¬(gi cs x.toNat≠255/\gi ds x.toNat=cg)->Q w:=λhn=>by apply h bs w;grind
 refine ah (lS s 0 rfl ?_);apply(hC.fr (au s)).BJ (k:=x.toNat) (by omega) (by omega);by_cases h1:gi cs x.toNat=255
 ·grind
 ·rw[show(gi cs x.toNat !=255)=true by grind,cond_true];refine ah (lS s 0 rfl ?_);apply hD.ql (k:=x.toNat) (by omega) (by omega);by_cases h2:gi ds x.toNat=cg
  ·rw[ee (show gi ds x.toNat=1099511627776 from h2),cond_true];refine ah (lP s 0 rfl ?_);refine Rg.Rq s (i:=1) rfl (by omega) (by omega) (λhno=>(hno ⟨hk.1,hk.2.1⟩).elim) λ_ w HS s=>?_;apply h HS w;grind
  ·rw[cL (show gi ds x.toNat≠1099511627776 from h2),cond_false];grind
def ai3 {Q:World->Prop}{x:Int}(hC:Sl w0 ca cn cc 1 bp cs)(hcs:∀x∈cs,1<=x/\x<256)(hw:1<=tw/\tw<=16)(hh:1<=th/\th<=16)(hlen:(cs.length:Int)=tw*th)(hx:0<=x/\x<cs.length)(Jy:gi cs x.toNat≠255)(hds:ds.length=cs.length)
  (ha:gi ds x.toNat=a)(hab:0<=a/\a<100000000000)(hN:N+4<1000000)(s:Sep No w0 w (DT p rp tw th ca cn cc a l bs N ta tn tc todo da dn dc ds))
  (h:∀bs' w',Sep No w0 w' (DT p rp tw th ca cn cc a (l++lj tw th cs ds (a+gi cs x.toNat) x 4) bs' (N+(lj tw th cs ds (a+gi cs x.toNat) x 4).length) ta tn tc todo da dn dc ds)->Q w'):
  tB (sZ p) x w Q:=by
 apply J_;have hD:=aG s (i:=3) rfl bX (by decide);have Rj:=hC.len;have hdn:=hD.len;have hcx:=hcs _ (fm (i:=x.toNat) (by omega));have Lv:x<257:=by have:tw*th<=16*16:=Int.mul_le_mul hw.2 hh.2 (by omega) (by decide);omega
 have d0:0<=x/tw:=Int.ediv_nonneg hx.1 (by omega);have d1:x/tw<=x:=Int.ediv_le_self _ hx.1;have s:=ay s;refine ah (lS s 0 rfl ?_);apply hD.drew.ql (k:=x.toNat) (by omega) (by omega);refine ah (lS s 0 rfl ?_);apply(hC.fr (au s)).BJ (k:=x.toNat) (by omega) (by omega);have s:=ay s;refine ah (lI s 0 rfl ⟨by omega,ah (lI s 0 rfl ⟨by omega,cm s 0 rfl,?_⟩)⟩);rw[ha,Int.tdiv_eq_ediv_of_nonneg hx.1,Int.tmod_eq_emod_of_nonneg hx.1,aH,aH (n:=gi cs x.toNat),aH];generalize hkey:a+gi cs x.toNat=key at h;have hkr:a<=key/\key<a+256/\key<1000000000000:=by omega
 have one:∀{j:Nat} {yG:List Rg.Bk} {w:World} {K:World->Prop} {y:Int},j<4->0<=bP tw th x j->y=bP tw th x j->Sep No w0 w (DT p rp tw th ca cn cc a (l++lj tw th cs ds key x j) yG (N+(lj tw th cs ds key x j).length) ta tn tc todo da dn dc ds)->
   (∀HS w',Sep No w0 w' (DT p rp tw th ca cn cc a (l++lj tw th cs ds key x (j+1)) HS (N+(lj tw th cs ds key x (j+1)).length) ta tn tc todo da dn dc ds)->K w')->iB (sZ p) y key w K:=λ{j yG w K y} hj h0 hy s hK=>by
  subst hy;have hr:=Th hw.1 hh.1 (by grind) h0;have I9:=WM tw th cs ds key x j;refine akA hC ⟨h0,by grind⟩ hds hkr (by omega) s λHS w s=>hK HS w ?_;rw[acw];unfold acv;grind
 have none:∀{j:Nat} {yG:List Rg.Bk} {w:World},¬0<=bP tw th x j->Sep No w0 w (DT p rp tw th ca cn cc a (l++lj tw th cs ds key x j) yG (N+(lj tw th cs ds key x j).length) ta tn tc todo da dn dc ds)->
   Sep No w0 w (DT p rp tw th ca cn cc a (l++lj tw th cs ds key x (j+1)) yG (N+(lj tw th cs ds key x (j+1)).length) ta tn tc todo da dn dc ds):=λ{j yG w} h0 s=>by
  rw[acw];unfold acv;grind
 have n0:bP tw th x ((0:Nat):Int)=if x/tw>0 then x-tw else-1:=by unfold bP;rw[if_pos (by decide)]
 have n1:bP tw th x ((1:Nat):Int)=if x%tw<tw-1 then x+1 else-1:=by unfold bP;rw[if_neg (by decide),if_pos (by decide)]
 have n2:bP tw th x ((2:Nat):Int)=if x/tw<th-1 then x+tw else-1:=by unfold bP;rw[if_neg (by decide),if_neg (by decide),if_pos (by decide)]
 have n3:bP tw th x ((3:Nat):Int)=if x%tw>0 then x-1 else-1:=by unfold bP;rw[if_neg (by decide),if_neg (by decide),if_neg (by decide),if_pos (by decide)]
 have hxe:x=x/tw*tw+x%tw:=by have:=Int.mul_ediv_add_emod x tw;rw[Int.mul_comm]at this;omega
 have hm0:0<=x%tw:=Int.emod_nonneg _ (by omega);have b8:∀(yG:List Rg.Bk) (w:World),Sep No w0 w (DT p rp tw th ca cn cc a (l++lj tw th cs ds key x 3) yG (N+(lj tw th cs ds key x 3).length) ta tn tc todo da dn dc ds)->mK Q (some ⟨p,0,Option.none⟩) x key (x%tw) w:=λyG w s=>by
  unfold mK;by_cases q:x%tw>0
  ·rw[bM q,aH];rw[if_pos q]at n3;refine one (by decide) (by rw[n3];have:=Int.mul_nonneg d0 (show 0<=tw by omega);omega) n3.symm s λHS w s=>h HS w s
  ·rw[bj q];rw[if_neg q]at n3;exact h yG w (none (by rw[n3];decide) s)
 have b6:∀(yG:List Rg.Bk) (w:World),Sep No w0 w (DT p rp tw th ca cn cc a (l++lj tw th cs ds key x 2) yG (N+(lj tw th cs ds key x 2).length) ta tn tc todo da dn dc ds)->pT Q (some ⟨p,0,Option.none⟩) x key (x%tw) (x/tw) w:=λyG w s=>by
  refine ah (lI s 0 rfl ?_);rw[aH];by_cases q:x/tw<th-1
  ·rw[bM q];refine ah (lI s 0 rfl ?_);rw[aH];rw[if_pos q]at n2;exact one (by decide) (by rw[n2];omega) n2.symm s λHS w s=>b8 HS w s
  ·rw[bj q];rw[if_neg q]at n2;exact b8 yG w (none (by rw[n2];decide) s)
 have b4:∀(yG:List Rg.Bk) (w:World),Sep No w0 w (DT p rp tw th ca cn cc a (l++lj tw th cs ds key x 1) yG (N+(lj tw th cs ds key x 1).length) ta tn tc todo da dn dc ds)->pU Q (some ⟨p,0,Option.none⟩) x key (x%tw) (x/tw) w:=λyG w s=>by
  refine ah (lI s 0 rfl ?_);rw[aH];by_cases q:x%tw<tw-1
  ·rw[bM q,aH];rw[if_pos q]at n1;exact one (by decide) (by rw[n1];omega) n1.symm s λHS w s=>b6 HS w s
  ·rw[bj q];rw[if_neg q]at n1;exact b6 yG w (none (by rw[n1];decide) s)
 have e0:lj tw th cs ds key x 0=[]:=rfl;have s:Sep No w0 w.drew.drew (DT p rp tw th ca cn cc a (l++lj tw th cs ds key x 0) bs (N+(lj tw th cs ds key x 0).length) ta tn tc todo da dn dc ds):=by rw[e0,List.append_nil];exact s
 by_cases q:x/tw>0
 ·rw[bM q];refine ah (lI s 0 rfl ?_);rw[aH];rw[if_pos q]at n0;refine one (by decide) ?_ n0.symm s λHS w s=>b4 HS w s;have:=Int.mul_le_mul_of_nonneg_right (show 1<=x/tw by omega) (show 0<=tw by omega);omega
 grind
def aq_ {Q:World->Prop}(hC:Sl w0 ca cn cc 1 bp cs)(hcs:∀x∈cs,1<=x/\x<256)(hw:1<=tw/\tw<=16)(hh:1<=th/\th<=16)(hlen:(cs.length:Int)=tw*th)(wE:cs.length<=256)(hxs:xs.length<2000)
  (h:∀a bs N ta tn tc w',Sep No w0 w' (DT p rp tw th ca cn cc a [] bs N ta tn tc [] da dn dc (jA tw th cs xs))->Q w'):
  ∀(f:Nat) (a:Int) (l:List (Int×Int)) (bs:List Rg.Bk) (N:Nat) (ta:Option Addr) (tn tc:Nat) (todo:List bq) (ds:List Int) (w:World),l.length+todo.length+5*G3 ds<=f->0<=a->CU tw th cs xs a l N todo ds->(∀x∈todo,a+256<=x.k)->(l=[]->todo=[])->
   Sep No w0 w (DT p rp tw th ca cn cc a l bs N ta tn tc todo da dn dc ds)->jW Q (f+1) (sZ p) w:=by
 intro f;induction f with
 |zero=>
  intro a l bs N ta tn tc todo ds w hf ha I avn ai4 s;obtain rfl:l=[]:=List.eq_nil_of_length_eq_zero (by omega);have Ja:=ai4 rfl;subst Ja;show zF Q (jW Q 0) _ _;refine ah (lP s 0 rfl (Rg.Dy s (i:=1) rfl ?_));apply h a bs N ta tn tc w;rw[<-I.done];exact s
 |succ f ih=>
  intro a l bs N ta tn tc todo ds w hf ha I avn ai4 s;show zF Q (jW Q (f+1)) _ _;refine ah (lP s 0 rfl (Rg.Dy s (i:=1) rfl ?_));by_cases hl:l=[]
  ·subst hl;have Ja:=ai4 rfl;subst Ja;apply h a bs N ta tn tc w;rw[<-I.done];exact s
  ·have hl0:=List.length_pos_iff.2 hl;have ayM:=Rg.Ix s (i:=1) rfl;rw[bM];refine ah (lP s 0 rfl ?_);refine Rg.aew s (i:=1) rfl (λe=>(hl e).elim) λw k l1 x l2 HS e awT awU sN=>?_;subst e;have s:=sN;have hin:(k,x)∈(l1++(k,x)::l2)++todo.map kc:=by simp
   have Jy:=I.EK _ hin;have aaz:=I.top _ hin;simp[List.length_append,List.length_cons]at aaz hf;have hfit:=ayM.fit (k,x) (by simp);have hmin:∀e∈l1++l2,k<=e.1:=λe he=>by
    rcases List.mem_append.1 he with he|he
    ·have:=awT e he;omega
    ·exact awU e he
   have asJ:∀y∈todo,k<=y.k:=λy hy=>by have:=avn y hy;omega
   have hD:=aG s (i:=3) rfl bX (by decide);have hdn:=hD.len;have Zb:=I.len;have ayN:0<=x/\x<cs.length:=⟨Jy.1,Jy.2.1⟩;apply ah;apply lS s 0 rfl;apply hD.ql (k:=x.toNat) (by omega) (by omega);have next:∀{l':List (Int×Int)} {N':Nat} {bs':List Rg.Bk} {ds':List Int} {w:World},CU tw th cs xs k l' N' todo ds'->l'.length+todo.length+5*G3 ds'<=f->Sep No w0 w (DT p rp tw th ca cn cc k l' bs' N' ta tn tc todo da dn dc ds')->
     jU (sZ p) w λw'=>jW Q (f+1) (sZ p) w':=λI' hf' s'=>by
    refine acB I' wE hxs s' λa' l' N' todo' bs' Y6 tn' Y7 w' I2 amk aml hl2 s2=>?_;have amm:=Rg.Ix s2 (i:=1) rfl;exact ih a' l' bs' N' Y6 tn' Y7 todo' _ w' (by omega) amm.nn I2 amk aml s2
   by_cases hd:gi ds x.toNat=cg
   ·rw[ee (show gi ds x.toNat=1099511627776 from hd),cond_true];apply ah;apply lS s 0 rfl;refine Fu bX s (i:=3) (k:=x.toNat) (x':=k) rfl (by omega) (by omega) rfl rfl λw s=>?_;have BW:=WL (k:=k) (by unfold cg;omega) (by omega) hd;have WQ:=I.eL;have awV:gi (ds.set x.toNat k) x.toNat=k:=by rw[Vy (by omega),if_pos rfl]
    refine ai3 hC hcs hw hh hlen ayN Jy.2.2 (by rw[List.length_set];exact Zb) awV ⟨by omega,by omega⟩ (by omega) s λbs' w s=>?_;have I9:=WM tw th cs (ds.set x.toNat k) (k+gi cs x.toNat) x 4;refine next (I.step hcs hw.1 hh.1 hlen wE hd hmin asJ rfl) ?_ s
    simp[List.length_append];omega
   ·rw[cL (show gi ds x.toNat≠1099511627776 from hd),cond_false];refine next (I.skip ?_ asJ) (by simp[List.length_append];omega) s
    have hfx:fD ds x=gi ds x.toNat:=by unfold fD;rw[A5]
    by_cases q:fD ds x<cg
    ·exact q
    ·have:=I.dj.none x q;rw[hfx]at this;exact(hd this).elim
def aoO {Q:Option Addr->Nat->Nat->Int->World->Prop}(hC:Sl w0 ca cn cc 1 bp cs)(hcs:∀x∈cs,1<=x/\x<256)(hw:1<=tw/\tw<=16)(hh:1<=th/\th<=16)(hlen:(cs.length:Int)=tw*th)(wE:cs.length<=256)(hxs:xs.length<2000)
  (I:CU tw th cs xs 0 [] 0 todo ds)(s:Sep No w0 w (DT p rp tw th ca cn cc 0 [] bs 0 ta tn tc todo da dn dc ds))
  (h:∀da dc w',Sep No w0 w' [ak da cs.length dc 3 1 (flat one (jA tw th cs xs))]->Q da cs.length dc 0 w'):ry Q (aZ p) w:=by
 apply Nc;refine acB I wE hxs s λa' l' N' todo' bs' Y6 tn' Y7 w' I2 amk aml hl2 s2=>?_;have amm:=Rg.Ix s2 (i:=1) rfl;refine⟨_,aq_ hC hcs hw hh hlen wE hxs (λa bs N ta tn tc w s=>?_) _ a' l' bs' N' Y6 tn' Y7 todo' ds w' (Nat.le_refl _) amm.nn I2 amk aml s2⟩;apply lS s 0 rfl;have hdn:=(aG s (i:=3) rfl bX (by decide)).len;have e:dn=cs.length:=by rw[<-hdn];simp[jA]
 subst e;exact h da dc w (ai (ai (ai s)))
end
section
variable {F:Nat->Prop}{W w w0:World}{L:List As}{tw th:Int}{ca la:Option Addr}{cn cc ln lc:Nat}{cs:List Int}{xs:List bq}
def aaD:(jA tw th cs xs).length=cs.length:=by simp[jA]
def aeA {b:Nat}{v:Int}(s:Sep F W w (av b 3 [ae v]::L)):Sl w (sZ b) 1 1 1 one [v]:=
 aG (g9 s (i:=0) rfl rfl (by decide) (λu hu=>by rw[List.mem_singleton]at hu;rw[hu];rfl)) (i:=0) rfl bX (by decide)
structure sA (tw th:Int) (cs:List Int):Prop where
 w:1<=tw/\tw<=16
 h:1<=th/\th<=16
 len:(cs.length:Int)=tw*th
 jG:∀x∈cs,1<=x/\x<256
def sA.small (h:sA tw th cs):1<=cs.length/\cs.length<=256:=by have h1:=Int.mul_le_mul h.w.2 h.h.2 (by have:=h.h;omega) (by decide);have h2:=Int.mul_le_mul h.w.1 h.h.1 (by decide) (by have:=h.w;omega);have:=h.len;omega
def WR {Q:Option Addr->Nat->Nat->Int->World->Prop}(s0:Sep F W w L)(hA:Sl w ca cn cc 1 bp cs)(hX:Sl w la ln lc 3 fV xs)(hT:sA tw th cs)(hok:sw tw th cs xs=true)(hnd:xs.Nodup)(qu:ln<2000)
  (h:∀da dc w',Sep F W w' (ak da cs.length dc 3 1 (flat one (jA tw th cs xs))::L)->Fr No w w'->Q da cs.length dc 0 w'):xD tw th ca cn cc la ln lc w Q:=by
 apply Wc;have wE:=hT.small;have hxl:=hX.len;have yF:=hA.len;refine aQ (bh (F:=No)) λtb w1 s=>?_;refine lI s 0 rfl (lI s 0 rfl (lS s 0 rfl ?_));refine NW s (hA.fr (au s)) (hX.fr (au s)) (by omega) λw1 s _=>?_;rw[hok,Bool.not_true,cond_false];have s:=ay s;refine lI s 0 rfl (lI s 0 rfl (lS s 0 rfl (lS s 0 rfl ?_)));have fin:∀{p rp:Nat} {bs:List Rg.Bk} {ta da:Option Addr} {tc dn dc:Nat} {w':World},Sep No w w' (DT p rp tw th ca cn cc 0 [] bs 0 ta ln tc (N2 xs) da dn dc (List.replicate cs.length cg))->ry Q (aZ p) w':=λs=>
  aoO hA hT.jG hT.w hT.h hT.len wE.2 (by omega) (aoz hok (λx=>aqY) aqZ akx) s λda dc w' s'=>h da dc w' (dG s0 s' (i:=0) rfl) (au s')
 have cell:∀{w':World} {L':List As} {i j:Nat} {v:Value},Sep No w w' L'->L'[i]? =some (av tb 84 [ae tw,ae th,.slice ca cn cc])->([ae tw,ae th,.slice ca cn cc]:List Value)[j]? =some v->w'.cell? ((aZ tb).add j)=some v:=λs hi hj=>cO s (by rw[cw,Nat.zero_add]) hi hj;have e0:((cn:Nat):Int)=((cs.length:Nat):Int):=by omega
 constructor
 ·refine Rg.Rr s (λe=>by omega) λ_ rp w1 bs s=>?_;refine⟨cell s (i:=1) rfl rfl,cell s (i:=1) rfl rfl,cell s (i:=1) rfl rfl,cell s (i:=1) rfl rfl,?_,?_⟩
  ·refine AP s (hX.fr (au s)) qu hnd λra rc w1 s _=>?_;refine⟨cell s (i:=2) rfl rfl,cell s (i:=2) rfl rfl,cell s (i:=2) rfl rfl,cell s (i:=2) rfl rfl,?_⟩;refine aQ s λib w1 s=>?_;refine⟨cell s (i:=3) rfl rfl,cell s (i:=3) rfl rfl,cell s (i:=3) rfl rfl,cell s (i:=3) rfl rfl,?_⟩;rw[e0];refine Mb s (aeA s) (by omega) λda w1 s _=>?_;refine⟨cell s (i:=4) rfl rfl,cell s (i:=4) rfl rfl,cell s (i:=4) rfl rfl,?_⟩;refine aQ s λpb w1 s=>?_;exact fin (pk 99 [0,4,3,1] s)
  ·refine aQ s λib w1 s=>?_;refine⟨cell s (i:=2) rfl rfl,cell s (i:=2) rfl rfl,cell s (i:=2) rfl rfl,cell s (i:=2) rfl rfl,?_⟩;have hI:=aeA s;refine AP s (hX.fr (au s)) qu hnd λra rc w1 s f=>?_;refine⟨cell s (i:=3) rfl rfl,cell s (i:=3) rfl rfl,cell s (i:=3) rfl rfl,cell s (i:=3) rfl rfl,?_⟩;rw[e0];refine Mb s (hI.fr f) (by omega) λda w1 s _=>?_;refine⟨cell s (i:=4) rfl rfl,cell s (i:=4) rfl rfl,cell s (i:=4) rfl rfl,?_⟩;refine aQ s λpb w1 s=>?_;exact fin (pk 99 [0,4,2,1] s)
 ·refine aQ s λib w1 s=>?_;refine⟨cell s (i:=1) rfl rfl,cell s (i:=1) rfl rfl,cell s (i:=1) rfl rfl,cell s (i:=1) rfl rfl,?_⟩;refine Rg.Rr s (λe=>by omega) λ_ rp w1 bs s=>?_;refine⟨cell s (i:=2) rfl rfl,cell s (i:=2) rfl rfl,cell s (i:=2) rfl rfl,cell s (i:=2) rfl rfl,?_⟩;have hI:=aeA (ai s);refine AP s (hX.fr (au s)) qu hnd λra rc w1 s f=>?_;refine⟨cell s (i:=3) rfl rfl,cell s (i:=3) rfl rfl,cell s (i:=3) rfl rfl,cell s (i:=3) rfl rfl,?_⟩;rw[e0];refine Mb s (hI.fr f) (by omega) λda w1 s _=>?_;refine⟨cell s (i:=4) rfl rfl,cell s (i:=4) rfl rfl,cell s (i:=4) rfl (j:=2) rfl,?_⟩;refine aQ s λpb w1 s=>?_;exact fin (pk 99 [0,3,2,1] s)
end
end Go.Proofs.YtmegplnmiepfbaaGreatDoor.S
namespace Go.Proofs.YtmegplnmiepfbaaGreatDoor.S
open Go.Sx
def avp {cs:List Value}{t:TypeId}{w:World}{R:World->Prop}{K:Addr->World->Prop}(h:Bx cs t w K)(hr:R (w.alloc (.cells cs.toArray t))):Bx cs t w λp w1=>R w1/\K p w1:=⟨hr,h⟩
attribute [local irreducible] af cD bz bg aA cy b_ St Bx Al App cK cE cB bV aN bG aq bT av ak aW mapA
section
variable {F:Nat->Prop}{W w w0:World}{L:List As}{p:Nat}{tw th l:Int}{ca la da:Option Addr}{cn cc ln lc dn dc:Nat}{cs ds:List Int}{xs:List bq}
structure XO (w:World) (p:Nat) (tw th:Int) (cs:List Int) (xs:List bq) (ds:List Int):Prop where
 ex:∃ca cn cc la ln lc da dn dc,sy w p [ae tw,ae th,.slice ca cn cc,.slice la ln lc,.slice da dn dc]/\Sl w ca cn cc 1 bp cs/\Sl w la ln lc 3 fV xs/\Sl w da dn dc 1 one ds/\ln<2000
 T:sA tw th cs
 len:ds.length=cs.length
 jG:∀x∈ds,0<=x/\x<=cg
def XO.fr {w':World}(k:XO w p tw th cs xs ds)(f:Fr No w w'):XO w' p tw th cs xs ds:=by obtain⟨ca,cn,cc,la,ln,lc,da,dn,dc,h1,h2,h3,h4,h5⟩:=k.ex;exact⟨⟨ca,cn,cc,la,ln,lc,da,dn,dc,h1.fr f,h2.fr f,h3.fr f,h4.fr f,h5⟩,k.T,k.len,k.jG⟩
def E1 {Q:Bool->World->Prop}{s:Int}(s0:Sep F W w L)(k:XO w p tw th cs xs ds)(hl:0<=l/\l<cs.length)(h:∀w',Sep F W w' L->Fr No w w'->Q (T4 tw th cs xs (fD ds) l s) w'):
  nS (sZ p) l s w Q:=by
 apply U8;have hT:=k.T;have wE:=hT.small;have Zb:=k.len;obtain⟨ca,cn,cc,la,ln,lc,da,dn,dc,k1,k2,k3,k4,k5⟩:=k.ex;have hdn:=k4.len;have Rj:=k2.len;refine acj (bh (F:=No)) k1 hT.w hT.h ⟨hl.1,by omega⟩ λw1 s1 f1=>?_;unfold T4 at h;have hfl:fD ds l=gi ds l.toNat:=by unfold fD;omega
 by_cases hn:bP tw th l s<0
 ·rw[bM hn];rw[if_pos hn,hfl]at h;have k1:=(k1.fr f1).fr (w':=w1.drew) Fr.refl;have k4:=(k4.fr f1).drew;refine ah (dz (k1 3 _ rfl) (ah (dz (k1 4 _ rfl) ?_)));refine Sl.El k4 (k:=l.toNat) (by omega) (by omega) λq x hx hc=>?_;rw[h_ (by omega)]at hx;cases hx;have hc0:=hc 0 _ rfl;apply aL hc0;refine Mg (ay s1) ((k3.fr f1).drew) (by omega) λw2 s2 f2=>?_;exact⟨Fr.cell f2 hc0 id,(k1.fr f2) 4 _ rfl,h _ (bW s0 (au s2)) (au s2)⟩
 ·rw[bj hn];rw[if_neg hn,hfl]at h;have hr:=Th hT.w.1 hT.h.1 (by rw[<-hT.len];exact hl) (show 0<=bP tw th l s by omega);have hnl:bP tw th l s<cs.length:=by rw[hT.len];exact hr.1
  have hfn:fD ds (bP tw th l s)=gi ds (bP tw th l s).toNat:=by unfold fD;omega
  rw[hfn]at h;have k1:=(k1.fr f1).fr (w':=w1.drew) Fr.refl;have k2:=(k2.fr f1).drew;have k4:=(k4.fr f1).drew;have s1:=ay s1;have Zc:=hT.jG _ (fm (i:=(bP tw th l s).toNat) (by omega));have hd1:=k.jG _ (fm (i:=(bP tw th l s).toNat) (by omega));refine ah (dz (k1 2 _ rfl) ?_);apply k2.BJ (k:=(bP tw th l s).toNat) (by omega) (by omega);have h:=h _ (bW s0 (au s1)) (au s1);by_cases h1:gi cs (bP tw th l s).toNat=255
  ·grind
  ·have e:(gi cs (bP tw th l s).toNat !=255)=true:=by grind
   rw[e,Bool.true_and]at h;rw[e,cond_true];refine ah (dz (k1 2 _ rfl) ?_);apply k2.BJ (k:=(bP tw th l s).toNat) (by omega) (by omega);refine ah (dz (k1 4 _ rfl) ?_);apply k4.ql (k:=(bP tw th l s).toNat) (by omega) (by omega);refine ah (dz (k1 4 _ rfl) ?_);apply k4.ql (k:=l.toNat) (by omega) (by omega);unfold cg at hd1;rw[aH (n:=gi cs (bP tw th l s).toNat),aH];exact h
def aeB {Q:Int->World->Prop}(s0:Sep F W w L)(k:XO w p tw th cs xs ds)(hl:0<=l/\l<cs.length)(h:∀w',Sep F W w' L->Fr No w w'->Q (aav tw th cs xs (fD ds) l) w'):
  Az (sZ p) l w Q:=by
 apply SX;have Zb:=k.len;have hfl:fD ds l=gi ds l.toNat:=by unfold fD;omega
 obtain⟨ca,cn,cc,la,ln,lc,da,dn,dc,k1,k2,k3,k4,k5⟩:=k.ex;have hdn:=k4.len;refine ah (dz (k1 4 _ rfl) ?_);apply k4.ql (k:=l.toNat) (by omega) (by omega);unfold aav at h;rw[hfl]at h;by_cases hI:gi ds l.toNat=cg
 ·rw[if_pos hI]at h;rw[ee (show gi ds l.toNat=1099511627776 from hI),cond_true];exact h w s0 Fr.refl
 rw[if_neg hI]at h;rw[cL (show gi ds l.toNat≠1099511627776 from hI),cond_false];refine ah (dz (k1 3 _ rfl) ?_);refine Mg (bh (F:=No)) k3 (by omega) λw1 s1 f1=>?_;by_cases hB:IT xs l 4=gi ds l.toNat
 ·rw[if_pos hB]at h;rw[ee hB.symm,cond_true];exact h w1 (bW s0 f1) f1
 rw[if_neg hB]at h;rw[cL (λe=>hB e.symm),cond_false];apply O7;unfold uO sS sR;refine E1 s1 (k.fr f1) hl λw1 s1 _=>?_;cases h0:T4 tw th cs xs (fD ds) l 0 with
 |true=>rw[h0,if_pos rfl]at h;rw[cond_true];exact h w1 (bW s0 (au s1)) (au s1)
 |false=>
  rw[h0,if_neg (by decide)]at h;refine E1 s1 (k.fr (au s1)) hl λw1 s1 _=>?_;cases h0:T4 tw th cs xs (fD ds) l 1 with
  |true=>rw[h0,if_pos rfl]at h;rw[cond_true];exact h w1 (bW s0 (au s1)) (au s1)
  |false=>
   rw[h0,if_neg (by decide)]at h;refine E1 s1 (k.fr (au s1)) hl λw1 s1 _=>?_;cases h0:T4 tw th cs xs (fD ds) l 2 with
   |true=>rw[h0,if_pos rfl]at h;rw[cond_true];exact h w1 (bW s0 (au s1)) (au s1)
   |false=>
    rw[h0,if_neg (by decide)]at h;refine E1 s1 (k.fr (au s1)) hl λw1 s1 _=>?_;cases h0:T4 tw th cs xs (fD ds) l 3 with
    |true=>rw[h0,if_pos rfl]at h;rw[cond_true];exact h w1 (bW s0 (au s1)) (au s1)
    |false=>rw[h0,if_neg (by decide)]at h;rw[cond_false];exact h w1 (bW s0 (au s1)) (au s1)
noncomputable def oe (tw th:Int)(cs:List Int)(xs:List bq):List Int:=(List.range cs.length).map λl:Nat=>aav tw th cs xs (fD (jA tw th cs xs)) l
def atQ (hok:sw tw th cs xs=true)(hT:sA tw th cs):∀x∈jA tw th cs xs,0<=x/\x<=cg:=λx hx=>by
 obtain⟨l,hl,rfl⟩:=List.mem_map.1 hx;unfold sw at hok;rw[Bool.and_eq_true,List.all_eq_true]at hok;have hs:∀x k,N0 xs x k->0<=k/\k<=1073741824:=by rintro x k ⟨y,hy,rfl,rfl⟩;have:=hok.2 y hy;unfold AM at this;grind
 have he:∀x n c,IV tw th cs x n c->1<=c/\c<=254:=λx n c h=>by have h1:=hT.jG _ (fm (i:=n.toNat) (by have:=h.2.1;unfold IU at this;omega));have h2:=h.2.1.2.2;rw[h.2.2.2];omega
 have amn:∀{x d},Wy (N0 xs) (IV tw th cs) x d->x∈(List.range cs.length).map λl:Nat=>(l:Int):=λhw=>by
  have hm:∀{x:Int},0<=x/\x<cs.length->x∈(List.range cs.length).map λl:Nat=>(l:Int):=λ{x} hx=>List.mem_map.2 ⟨x.toNat,List.mem_range.2 (by omega),by omega⟩;cases hw with
  |src h=>
   obtain⟨y,hy,rfl,rfl⟩:=h;have:=hok.2 y hy;unfold AM at this;grind
  |go e _=>exact hm ⟨e.1.1,e.1.2.1⟩
 show 0<=gO _ _ _/\gO _ _ _<=cg;by_cases hw:∃d,Wy (N0 xs) (IV tw th cs) l d
 ·obtain⟨d,hd⟩:=hw;have h1:=abz hs he _ (λx d h=>amn h) hd;have h2:=m8 (λx k h=>(hs x k h).1) (λx n c h=>by grind) (rf (λx k h=>(hs x k h).1) (λx n c h=>by grind) hd).1;rw[List.length_map,List.length_range]at h1;have:=hT.small;unfold cg;omega
 ·rw[ye λd hd=>hw ⟨d,hd⟩];unfold cg;omega
def awW {a:Option Addr}{n c:Nat}{bs:List Int}{x:Int}{ad:Addr}{v:Value}{K:Option Addr->Nat->Nat->World->Prop}(s:Sep F W w (ak a n c 3 1 (flat one bs)::L))(hn:n<=1000000000)(hc:w.cell? ad=some v)
  (k:∀a' c' w',Sep F W w' (ak a' (n+1) c' 3 1 (flat one (bs++[x]))::L)->K a' (n+1) c' w'):Bx [ae x] 3 w λp w1=>w1.cell? ad=some v/\App P #[29,29] 29 (.slice a n c) (.slice (some p) 1 1) w1 K:=by
 have hB:=L_ s hn k;exact avp hB (Fr.cell (F:=No) (Fr.alloc Fr.refl _) hc id)
def YO {Q:Option Addr->Nat->Nat->Option Addr->Nat->Nat->Int->World->Prop}(s0:Sep F W w L)(hA:Sl w ca cn cc 1 bp cs)(hX:Sl w la ln lc 3 fV xs)(hT:sA tw th cs)(hok:sw tw th cs xs=true)(hnd:xs.Nodup)(qu:ln<2000)
  (h:∀da dc ra rc w',Sep F W w' (ak ra cs.length rc 3 1 (flat one (oe tw th cs xs))::ak da cs.length dc 3 1 (flat one (jA tw th cs xs))::L)->Fr No w w'->Q da cs.length dc ra cs.length rc 0 w'):
  D2 tw th ca cn cc la ln lc w Q:=by
 apply YC;have wE:=hT.small;refine aQ (bh (F:=No)) λtb w1 s=>?_;refine aV s λrb w1 s=>?_;refine lI s 1 rfl (lI s 1 rfl (lS s 1 rfl ?_));refine WR s (hA.fr (au s)) (hX.fr (au s)) hT hok hnd qu λda dc w1 s _=>?_;refine lI s 2 rfl (lI s 2 rfl (lS s 2 rfl ?_));refine aQ s λhb w1 s=>?_;refine aV s λfb w1 s=>?_;refine sT s 0 rfl λw1 s=>?_;refine ax s (i:=0) rfl rfl rfl λw1 s=>?_;have loop:∀(j i:Nat) (ra:Option Addr) (rc:Nat) (w2:World),i+j=cs.length->
   Sep No w w2 [ak ra i rc 3 1 (flat one ((oe tw th cs xs).take i)),av fb 213 [.slice da cs.length dc,.slice ra i rc],av hb 340 [ae tw,ae th,.slice ca cn cc,.slice la ln lc,.slice da cs.length dc],ak da cs.length dc 3 1 (flat one (jA tw th cs xs)),av rb 213 [.slice none 0 0,.slice none 0 0]]->
   sU Q (j+1) (aZ rb) (aZ hb) (aZ fb) cs.length i w2:=by
  intro j;induction j with
  |zero=>
   intro i ra rc w2 hi s;show xL Q (sU Q 0) _ _ _ _ _ _;rw[xL,bj];refine lS s 1 rfl (lS s 1 rfl ?_);refine sT s 4 rfl λw2 s=>?_;refine ax s (i:=4) rfl rfl rfl λw2 s=>?_;refine lS s 4 rfl (lS s 4 rfl ?_);obtain rfl:i=cs.length:=by omega
   rw[List.take_of_length_le (by unfold oe;grind)]at s;have s':Sep No w w2 [ak ra cs.length rc 3 1 (flat one (oe tw th cs xs)),ak da cs.length dc 3 1 (flat one (jA tw th cs xs))]:=pk 99 [0,3] s;exact h da dc ra rc w2 (fB s0 s') (au s')
  |succ j ih=>
   intro i ra rc w2 hi s;show xL Q (sU Q (j+1)) _ _ _ _ _ _;rw[xL,bM];have s:=ay s;apply lS s 1 rfl;have hk:XO w2.drew hb tw th cs xs (jA tw th cs xs):=⟨⟨_,_,_,_,_,_,_,_,_,lD s (i:=2) rfl,hA.fr (au s),hX.fr (au s),aG s (i:=3) rfl bX (by decide),qu⟩,hT,aaD,atQ hok hT⟩;refine aeB s hk (by omega) λw3 s _=>?_;refine⟨cm s 1 rfl,?_⟩;refine awW s (by omega) (cm s 1 rfl) λra' rc' w3 s=>?_;refine ax s (i:=1) rfl rfl rfl λw3 s=>?_;rw[aH];apply ih (i+1) ra' rc' w3 (by omega);have e:(oe tw th cs xs).take (i+1)=(oe tw th cs xs).take i++[aav tw th cs xs (fD (jA tw th cs xs)) i]:=by rw[oe,List.take_add_one,List.getElem?_map,List.getElem?_range (by omega)];rfl
   rw[e];exact s
 have s:=pk 99 [0,1,2,3] s;exact⟨cs.length+1,loop cs.length 0 none 0 w1 (by omega) (bH s 3 1)⟩
end
end Go.Proofs.YtmegplnmiepfbaaGreatDoor.S
namespace Go.Proofs.YtmegplnmiepfbaaGreatDoor.S
open Go.Sx
attribute [local irreducible] af cD bz bg aA cy b_ St Bx Al App cK cE cB bV aN bG aq bT av ak aW mapA
section
variable {F:Nat->Prop}{W w w0:World}{L:List As}{tw th l:Int}{ca la da:Option Addr}{cn cc ln lc dn dc:Nat}{cs ds ls:List Int}{xs:List bq}
def sA.Ec (h:sA tw th cs):Tl.Ec tw th cs=true:=Tl.aap.2 ⟨h.w,h.h,h.len,λe=>by have:=h.jG 0 e;omega⟩
def ara (hT:sA tw th cs)(hl:0<=l/\l<cs.length)(ho:gi cs l.toNat≠255):sw tw th cs [⟨l,4,0⟩]=true:=by rw[sw,hT.Ec,Bool.true_and,List.all_cons,List.all_nil,Bool.and_true];rw[AM,decide_eq_true hl,show(gi cs l.toNat !=255)=true by grind];rfl
def arb {b:Nat}{x:bq}(s:Sep F W w (av b 294 [ae x.c,ae x.s,ae x.k]::L)):Sl w (sZ b) 1 1 3 fV [x]:=
 aG (g9 s (i:=0) rfl rfl (by decide) (λu hu=>WA x u hu)) (i:=0) rfl nP (by decide)
def aeC {Q:Option Addr->Nat->Nat->Int->World->Prop}(s0:Sep F W w L)(hA:Sl w ca cn cc 1 bp cs)(hT:sA tw th cs)(hl:0<=l/\l<cs.length)(ho:gi cs l.toNat≠255)
  (h:∀da dc w',Sep F W w' (ak da cs.length dc 3 1 (flat one (jA tw th cs [⟨l,4,0⟩]))::L)->Fr No w w'->Q da cs.length dc 0 w'):Il tw th ca cn cc l w Q:=by
 apply aea;refine aQ (bh (F:=No)) λtb w1 s=>?_;refine lI s 0 rfl (lI s 0 rfl (lS s 0 rfl ?_));refine aQ s λsb w1 s=>?_;refine WR s (hA.fr (au s)) (arb s) hT (ara hT hl ho) (by simp) (by decide) λda dc w1 s _=>?_;exact h da dc w1 (dG s0 s (i:=0) rfl) (au s)
structure ahs (cs ls:List Int):Prop where
 EK:∀l∈ls,(0<=l/\l<cs.length)/\gi cs l.toNat≠255
 fE:ls.Pairwise (·<·)
 n_:ls.length<=256
def avq (h:ahs cs ls){i j:Nat}(hij:i<j)(hj:j<ls.length):gi ls i<gi ls j:=by have:=List.pairwise_iff_getElem.1 h.fE i j (by omega) hj hij;have e1:=h_ (l:=ls) (i:=i) (by omega);have e2:=h_ hj;grind
def acC {Q:Bool->World->Prop}(s0:Sep F W w L)(hA:Sl w ca cn cc 1 bp cs)(hL:Sl w la ln lc 1 one ls)(hT:sA tw th cs)(hok:ahs cs ls)(h:∀w',Sep F W w' L->Fr No w w'->Q true w'):
  GH tw th ca cn cc la ln lc w Q:=by
 apply abY;have qu:=hL.len;have pC:=hok.n_;refine aQ (bh (F:=No)) λtb w1 s=>?_;have loop:∀(j i:Nat) (w1:World),i+j=ln->Sep No w w1 [av tb 84 [ae tw,ae th,.slice ca cn cc]]->xj Q (j+1) la ln lc (aZ tb) la ln lc ln i w1:=by
  intro j;induction j with
  |zero=>
   intro i w1 hi s;show Be Q (xj Q 0) _ _ _ _ _ _ _ _ _ _;rw[Be,bj];refine lI s 0 rfl (lI s 0 rfl (lS s 0 rfl ?_));refine Tl.Dw s (hA.fr (au s)).row λw2 s2 _=>?_;rw[hT.Ec];exact h w2 (bW s0 (au s2)) (au s2)
  |succ j ih=>
   intro i w1 hi s;show Be Q (xj Q (j+1)) _ _ _ _ _ _ _ _ _ _;rw[Be,bM];apply(hL.fr (au s)).ql rfl (by omega);refine lI s 0 rfl (lI s 0 rfl (lS s 0 rfl ?_));have ho:=hok.EK _ (fm (i:=i) (by omega));have hc:=hT.jG _ (fm (i:=(gi ls i).toNat) (by omega));refine Tl.ag_ s (hA.fr (au s)).row (λx hx=>by have:=hT.jG x hx;omega) λw2 s _=>?_;have e:Tl.atI tw th cs (gi ls i)=gi cs (gi ls i).toNat:=by unfold Tl.atI Tl.isB;rw[decide_eq_true ho.1,hT.Ec];rfl
   rw[e,cL (by omega),cond_false,cL ho.2,cond_false,aH (n:=(i:Int)+1)];by_cases h0:i=0
   ·rw[bj];exact ih (i+1) w2 (by omega) s
   ·rw[bM,aH];apply(hL.fr (au s)).ql (k:=i-1) (by omega) (by omega);have:=avq hok (i:=i-1) (j:=i) (by omega) (by omega);rw[bj];exact ih (i+1) w2 (by omega) s
 exact⟨ln+1,loop ln 0 w1 (by omega) s⟩
noncomputable def Fy (tw th:Int)(cs ls:List Int)(i j:Nat):Int:=Mk tw th cs [⟨gi ls j,4,0⟩] (gi ls i)
noncomputable def AQ (tw th:Int)(cs ls:List Int):List Int:=(List.range (ls.length*ls.length)).map λk=>Fy tw th cs ls (k/ls.length) (k%ls.length)
def Ki {N x:Nat}{g:Nat->Int}{v:Int}:((List.range N).map g).set x v=(List.range N).map λk=>if k=x then v else g k:=by apply List.ext_getElem?;grind
def amo {n i j:Nat}(hi:i<n)(hj:j<n):i*n+j<n*n:=by have:=Nat.mul_le_mul_right n (show i+1<=n by omega);grind
def alk (hl:0<=l/\l<cs.length):gi (jA tw th cs xs) l.toNat=Mk tw th cs xs l:=by unfold gi jA;grind
def aaE {Q:Option Addr->Nat->Nat->Int->World->Prop}(s0:Sep F W w L)(hA:Sl w ca cn cc 1 bp cs)(hL:Sl w la ln lc 1 one ls)(hT:sA tw th cs)(hok:ahs cs ls)
  (h:∀oa oc w',Sep F W w' (ak oa (ls.length*ls.length) oc 3 1 (flat one (AQ tw th cs ls))::L)->Fr No w w'->Q oa (ls.length*ls.length) oc 0 w'):Fp tw th ca cn cc la ln lc w Q:=by
 apply aae;have qu:=hL.len;have pC:=hok.n_;refine aQ (bh (F:=No)) λtb w1 s=>?_;refine lI s 0 rfl (lI s 0 rfl (lS s 0 rfl ?_));refine acC s (hA.fr (au s)) (hL.fr (au s)) hT hok λw1 s _=>?_;subst qu;have hsq:ls.length*ls.length<=65536:=by have:=Nat.mul_le_mul pC pC;omega
 have e1:((ls.length:Nat):Int)*((ls.length:Nat):Int)=((ls.length*ls.length:Nat):Int):=by grind
 rw[e1,aH];generalize hN:ls.length*ls.length=N at*;refine tg (bytes:=8) dU s rfl rfl rfl rfl rfl rfl (by decide) bX rfl (λu hu=>C6 0 u hu) rfl rfl (Nat.le_refl _) (by omega) (by simp[maxLen];omega) λob w1 s=>?_;have outer:∀(k j:Nat) (w1:World),j+k=ls.length->Sep No w w1 [ak (sZ ob) N N 3 1 (flat one ((List.range N).map λq=>if q%ls.length<j then Fy tw th cs ls (q/ls.length) (q%ls.length)else 0)),av tb 84 [ae tw,ae th,.slice ca cn cc]]->
   rA Q (k+1) la ls.length lc (aZ tb) ls.length (sZ ob) N N la ls.length lc ls.length j w1:=by
  intro k;induction k with
  |zero=>
   intro j w1 hj s;show zG Q (rA Q 0) _ _ _ _ _ _ _ _ _ _ _ _ _ _;rw[zG,bj];have e:((List.range N).map λq=>if q%ls.length<j then Fy tw th cs ls (q/ls.length) (q%ls.length)else 0)=AQ tw th cs ls:=by
    rw[AQ,hN];refine List.map_congr_left λq hq=>?_;have hq:=List.mem_range.1 hq;have PD:0<ls.length:=by grind
    rw[if_pos (by have:=Nat.mod_lt q PD;omega)]
   rw[e]at s;exact h _ _ w1 (dG s0 s (i:=0) rfl) (au s)
  |succ k ih=>
   intro j w1 hj s;show zG Q (rA Q (k+1)) _ _ _ _ _ _ _ _ _ _ _ _ _ _;rw[zG,bM];apply(hL.fr (au s)).ql rfl (by omega);refine lI s 1 rfl (lI s 1 rfl (lS s 1 rfl ?_));have ho:=hok.EK _ (fm (i:=j) (by omega));refine aeC s (hA.fr (au s)) hT ho.1 ho.2 λda dc w1 s _=>?_;have inner:∀(k2 i:Nat) (w1:World),i+k2=ls.length->Sep No w w1 [ak da cs.length dc 3 1 (flat one (jA tw th cs [⟨gi ls j,4,0⟩])),ak (sZ ob) N N 3 1 (flat one ((List.range N).map λq=>if q%ls.length<j\/q%ls.length=j/\q/ls.length<i then Fy tw th cs ls (q/ls.length) (q%ls.length)else 0)),av tb 84 [ae tw,ae th,.slice ca cn cc]]->
     sP (rA Q (k+1)) Q (k2+1) la ls.length lc (aZ tb) ls.length (sZ ob) N N j da cs.length dc la ls.length lc ls.length j la ls.length lc ls.length i w1:=by
    intro k2;induction k2 with
    |zero=>
     intro i w1 hi s;show xI _ Q (sP _ Q 0) _ _ _ _ _ _ _ _ _ _ _ _ _ _ _ _ _ _ _ _ _ _ _;rw[xI,bj,aH];apply ih (j+1) w1 (by omega);have e:((List.range N).map λq=>if q%ls.length<j\/q%ls.length=j/\q/ls.length<i then Fy tw th cs ls (q/ls.length) (q%ls.length)else 0)=(List.range N).map λq=>if q%ls.length<j+1 then Fy tw th cs ls (q/ls.length) (q%ls.length)else 0:=by
      refine List.map_congr_left λq hq=>?_;have hq:=List.mem_range.1 hq;have hd:q/ls.length<ls.length:=Nat.div_lt_of_lt_mul (by omega);by_cases c1:q%ls.length<j+1
      ·rw[if_pos c1,A5]
      ·rw[if_neg c1,fU]
     rw[e]at s;exact ai s
    |succ k2 ih2=>
     intro i w1 hi s;show xI _ Q (sP _ Q (k2+1)) _ _ _ _ _ _ _ _ _ _ _ _ _ _ _ _ _ _ _ _ _ _ _;rw[xI,bM];apply(hL.fr (au s)).ql rfl (by omega);have hoi:=hok.EK _ (fm (i:=i) (by omega));apply(aG s (i:=0) rfl bX (by decide)).ql (k:=(gi ls i).toNat) (by omega) (by omega);rw[alk hoi.1];have hb:=amo (n:=ls.length) (i:=i) (j:=j) (by omega) (by omega);rw[hN]at hb;have e2:(i:Int)*((ls.length:Nat):Int)=((i*ls.length:Nat):Int):=by rw[Int.natCast_mul]
     rw[e2,aH (n:=((i*ls.length:Nat):Int)),aH,aH];refine Fu bX s (i:=1) (k:=i*ls.length+j) (x':=Mk tw th cs [⟨gi ls j,4,0⟩] (gi ls i)) rfl (by omega) (by rw[List.length_map,List.length_range];exact hb) rfl rfl λw1 s=>?_;apply ih2 (i+1) w1 (by omega);rw[Ki]at s;have e:((List.range N).map λq=>if q=i*ls.length+j then Mk tw th cs [⟨gi ls j,4,0⟩] (gi ls i)else if q%ls.length<j\/q%ls.length=j/\q/ls.length<i then Fy tw th cs ls (q/ls.length) (q%ls.length)else 0)=
       (List.range N).map λq=>if q%ls.length<j\/q%ls.length=j/\q/ls.length<i+1 then Fy tw th cs ls (q/ls.length) (q%ls.length)else 0:=by
      refine List.map_congr_left λq hq=>?_;have PD:0<ls.length:=by omega
      by_cases c1:q=i*ls.length+j
      ·have d1:q/ls.length=i:=by rw[c1,Nat.mul_comm,Nat.mul_add_div PD,Nat.div_eq_of_lt (by omega),Nat.add_zero]
       have d2:q%ls.length=j:=by rw[c1,Nat.mul_comm,Nat.mul_add_mod,Nat.mod_eq_of_lt (by omega)]
       rw[if_pos c1,A5,d1,d2];rfl
      ·rw[if_neg c1];have d3:¬(q%ls.length=j/\q/ls.length=i):=λ⟨a,b⟩=>by apply c1;have:=Nat.div_add_mod q ls.length;rw[a,b,Nat.mul_comm]at this;omega
       by_cases c2:q%ls.length<j\/q%ls.length=j/\q/ls.length<i
       ·rw[if_pos c2,A5]
       ·rw[if_neg c2,fU]
     rw[e]at s;exact s
   refine⟨ls.length+1,inner ls.length 0 w1 (by omega) ?_⟩;have e:((List.range N).map λq=>if q%ls.length<j then Fy tw th cs ls (q/ls.length) (q%ls.length)else 0)=(List.range N).map λq=>if q%ls.length<j\/q%ls.length=j/\q/ls.length<0 then Fy tw th cs ls (q/ls.length) (q%ls.length)else 0:=by
    refine List.map_congr_left λq hq=>?_;by_cases c1:q%ls.length<j
    ·rw[if_pos c1,if_pos (.inl c1)]
    ·rw[if_neg c1,if_neg (by rintro (h|⟨_,h⟩);exact c1 h;exact Nat.not_lt_zero _ h)]
   rw[e]at s;exact s
 refine⟨ls.length+1,outer ls.length 0 w1 (by omega) ?_⟩;have e:((List.range N).map λq=>if q%ls.length<0 then Fy tw th cs ls (q/ls.length) (q%ls.length)else 0)=List.replicate N 0:=by rw[List.eq_replicate_iff];refine⟨by simp,λx hx=>?_⟩;obtain⟨q,_,rfl⟩:=List.mem_map.1 hx;rw[fU]
 grind
end
end Go.Proofs.YtmegplnmiepfbaaGreatDoor.S
namespace Go.Proofs.YtmegplnmiepfbaaGreatDoor.S
open Go.Sx
section
variable {m:bJ}{t x n c d s sc l a b:Int}
def ja (m:bJ)(sc:Int):List Int:=(aX m sc).map (dZ m.w m.h)
def WS (m:bJ)(sc:Int):List Nat:=(List.range (aE m.w m.h sc*bA m.w m.h sc).toNat).filter λl=>yT m.w m.h sc 4 l&&eE m (bY m.w m.h sc l)
def nodes_eq:aX m sc=(WS m sc).map λl:Nat=>bY m.w m.h sc l:=by unfold aX vL WS;rw[List.filter_map,List.filter_filter];grind
def aoP (hs:dY m.w m.h sc):ja m sc=(WS m sc).map λl:Nat=>(l:Int):=by rw[ja,nodes_eq,List.map_map];refine List.map_congr_left λl hl=>?_;have hl:=List.mem_range.1 (List.mem_filter.1 hl).1;exact Gt hs (by omega)
def acD:(WS m sc).Pairwise (·<·):=List.Pairwise.filter _ List.pairwise_lt_range
def aoQ (hs:dY m.w m.h sc){k:Int}(hk:0<=k/\k<l)(hl:l<aE m.w m.h sc*bA m.w m.h sc):bY m.w m.h sc k<bY m.w m.h sc l:=by
 obtain⟨⟨w1,w2⟩,⟨h1,h2⟩,p1,p2,p3,p4⟩:=zR hs;have hw:aE m.w m.h sc<=m.w-16*(sc%cS m.w):=by unfold aE;omega
 have hk1:=PL hs (l:=k) (by omega);have hl1:=PL hs (l:=l) (by omega);have ek:=Int.mul_ediv_add_emod k (aE m.w m.h sc);have el:=Int.mul_ediv_add_emod l (aE m.w m.h sc);unfold bY;by_cases e:k/aE m.w m.h sc=l/aE m.w m.h sc
 ·grind
 ·have hlt:k/aE m.w m.h sc<=l/aE m.w m.h sc:=Int.ediv_le_ediv (by omega) (by omega);have h3:=Int.mul_le_mul_of_nonneg_right (show 16*(sc/cS m.w)+k/aE m.w m.h sc+1<=16*(sc/cS m.w)+l/aE m.w m.h sc by omega) (show 0<=m.w by omega);grind
def N9 (hs:dY m.w m.h sc):(aX m sc).Pairwise (·<·):=by rw[nodes_eq,List.pairwise_map];refine List.Pairwise.imp_of_mem ?_ acD;intro k l hk hl h;have hl:=List.mem_range.1 (List.mem_filter.1 hl).1;exact aoQ hs ⟨by omega,by omega⟩ (by omega)
def aoR (hm:cF m)(hs:dY m.w m.h sc):ahs (dQ m sc) (ja m sc):=by
 have e:=aoP hs;refine⟨λl hl=>?_,?_,?_⟩
 ·rw[e]at hl;obtain⟨k,hk,rfl⟩:=List.mem_map.1 hl;have h1:=(List.mem_filter.1 hk).2;have hk:=List.mem_range.1 (List.mem_filter.1 hk).1;rw[Bool.and_eq_true]at h1;have h2:=(Jx hm hs (by omega)).2 h1.2;exact⟨⟨h2.1,h2.2.1⟩,h2.2.2⟩
 ·rw[e,List.pairwise_map];exact List.Pairwise.imp (λh=>by omega) acD
 ·rw[e,List.length_map];obtain⟨⟨w1,w2⟩,⟨h1,h2⟩,_⟩:=zR hs;have h3:=Int.mul_le_mul w2 h2 (by omega) (by decide);have h4:=List.length_filter_le (λl:Nat=>yT m.w m.h sc 4 l&&eE m (bY m.w m.h sc l)) (List.range (aE m.w m.h sc*bA m.w m.h sc).toNat);rw[List.length_range]at h4;unfold WS;omega
def Ae (hs:dY m.w m.h sc):(aX m sc).length<=256:=by have:=ace hs;have h1:=List.length_filter_le (eE m) (vL m.w m.h sc);unfold aX;omega
def akB (hs:dY m.w m.h sc):(aX m sc).Nodup:=List.Pairwise.imp (λh e=>by omega) (N9 hs)
def Ru (hm:cF m)(hs:dY m.w m.h sc):sA (aE m.w m.h sc) (bA m.w m.h sc) (dQ m sc):=by obtain⟨w,h,_⟩:=zR hs;have h1:=Int.mul_le_mul w.1 h.1 (by decide) (by omega);refine⟨w,h,by rw[CQ];omega,λx hx=>?_⟩;obtain⟨l,hl,rfl⟩:=List.mem_map.1 hx;have hl:=List.mem_range.1 hl;have:=Mj hm (tq hs (l:=l) (by omega));omega
noncomputable def qz (m:bJ)(sc a b:Int):Int:=Mk (aE m.w m.h sc) (bA m.w m.h sc) (dQ m sc) [⟨dZ m.w m.h b,4,0⟩] (dZ m.w m.h a)
def Rv (hm:cF m)(hs:dY m.w m.h sc)(ha:bI m.w m.h a/\aC m.w m.h a=sc)(hb:bI m.w m.h b/\aC m.w m.h b=sc):qz m sc a b=gO (Gu b) (uj (fW m) (cW m) sc) a:=by
 have hla:=ko ha.1;have hga:=og ha.1;have hlb:=ko hb.1;have hgb:=og hb.1;rw[ha.2]at hla hga;unfold qz Mk;rw[aiR hm hs (S':=Gu b) (λl k hl=>?_) hla,hga];unfold N0 Gu;constructor
 ·grind
 ·rintro ⟨h1,rfl⟩;refine⟨_,List.mem_singleton.2 rfl,?_,rfl⟩;rw[<-h1];exact Gt hs hl
def afT (hm:cF m)(T7:eE m b=true){d:Int}(hw:Wy (Gu b) (uj (fW m) (cW m) sc) a d):0<=gO (Gu b) (uj (fW m) (cW m) sc) a/\gO (Gu b) (uj (fW m) (cW m) sc) a<=254*(m.w*m.h-1):=by
 have amn:∀x d,Wy (Gu b) (uj (fW m) (cW m) sc) x d->x∈j8 m:=λx d h=>by
  cases h with
  |src h=>rw[h.1];exact zS hm (j7 hm T7)
  |go e _=>exact zS hm (j7 hm e.1.1)
 have h1:=abz (K:=0) (λx k h=>by rw[h.2];omega) (λx n c h=>G1 h.1) (j8 m) amn hw;have h2:((j8 m).length:Int)=m.w*m.h:=by rw[<-hm.len];simp[j8]
 refine⟨m8 (λx k h=>by rw[h.2];grind) (λx n c h=>c_ _ _ _ h.1) (rf (λx k h=>by rw[h.2];grind) (λx n c h=>c_ _ _ _ h.1) hw).1,by omega⟩
def aaF (hm:cF m)(hs:dY m.w m.h sc)(ha:bI m.w m.h a/\aC m.w m.h a=sc)(hb:bI m.w m.h b/\aC m.w m.h b=sc)(T7:eE m b=true):
  qz m sc a b≠cg↔∃d,Wy (Gu b) (uj (fW m) (cW m) sc) a d:=by
 rw[Rv hm hs ha hb];constructor
 ·intro h;refine Classical.byContradiction λk=>h (ye λd hd=>k ⟨d,hd⟩)
 ·rintro ⟨d,hd⟩;have:=afT hm T7 hd;have:=nv ⟨hm.w,hm.h⟩;unfold cg;omega
def aaG (hm:cF m)(hs:dY m.w m.h sc)(ha:bI m.w m.h a/\aC m.w m.h a=sc)(hb:bI m.w m.h b/\aC m.w m.h b=sc)(T7:eE m b=true):0<=qz m sc a b/\(qz m sc a b≠cg->qz m sc a b<1000000000)/\qz m sc a b<=cg:=by
 have e:=Rv hm hs ha hb;by_cases hw:∃d,Wy (Gu b) (uj (fW m) (cW m) sc) a d
 ·obtain⟨d,hd⟩:=hw;have h1:=afT hm T7 hd;have h2:=nv ⟨hm.w,hm.h⟩;unfold cg;omega
 ·have h1:qz m sc a b=cg:=by rw[e];exact ye λd hd=>hw ⟨d,hd⟩
  rw[h1];exact⟨by decide,λh=>(h rfl).elim,Int.le_refl _⟩
noncomputable def acE (m:bJ)(b:Int):List (Int×Int):=(aX m (cW m b)).filterMap λa=>if a≠b/\qz m (cW m b) a b≠cg then some (a,qz m (cW m b) a b)else none
open Classical in
noncomputable def Rw (m:bJ)(b s:Int):Option (Int×Int):=if 0<=aY m.w m.h b s/\oy m (aY m.w m.h b s)/\cW m (aY m.w m.h b s)≠cW m b then some (aY m.w m.h b s,cV m b)else none
noncomputable def Tj (m:bJ)(b:Int)(j:Nat):List (Int×Int):=(List.range j).filterMap λs:Nat=>Rw m b s
noncomputable def K8 (m:bJ)(b:Int):List (Int×Int):=acE m b++Tj m b 4
def acF (m:bJ)(b:Int)(j:Nat):Tj m b (j+1)=Tj m b j++(Rw m b j).toList:=by rw[Tj,List.range_succ,List.filterMap_append];congr 1
def avs (hm:cF m)(h:oy m x)(hx:bI m.w m.h x):eE m x=true:=(mV (bU hx) h).1
def ai5 (hm:cF m)(hb:oy m b)(hbc:bI m.w m.h b){e:Int×Int}:e∈K8 m b↔JO (fW m) (cW m) (oy m) e.1 b e.2:=by
 have hs:=bU hbc;have T7:=(mV hs hb).1;rw[K8,List.mem_append];constructor
 ·rintro (h|h)
  ·obtain⟨a,ha,h1⟩:=List.mem_filterMap.1 h;split at h1
   ·rename_i h2;cases h1;obtain⟨a1,a2,a3⟩:=mV hs ha;have hn:oy m a:=by show a∈aX m (cW m a);rw[show cW m a=cW m b from a3];exact ha
    refine⟨hn,hb,.inl ⟨a3,h2.1,(aaF hm hs ⟨a2,a3⟩ ⟨hbc,rfl⟩ T7).1 h2.2,Rv hm hs ⟨a2,a3⟩ ⟨hbc,rfl⟩⟩⟩
   ·cases h1
  ·obtain⟨s,T8,h1⟩:=List.mem_filterMap.1 h;have T8:=List.mem_range.1 T8;unfold Rw at h1;split at h1
   ·rename_i h2;cases h1;obtain⟨s',hs',aht⟩:=Jw ⟨by omega,by omega⟩ h2.1;have hac:=(vp h2.1).2;have hoa:=avs hm h2.2.1 hac;exact⟨h2.2.1,hb,.inr ⟨h2.2.2,hoa,T7,⟨s',hs',aht⟩,rfl⟩⟩
   ·cases h1
 ·rintro ⟨ha,_,⟨h1,h2,h3,h4⟩|⟨h1,h2,h3,⟨s,T8,h4⟩,h5⟩⟩
  ·left;have hb2:cW m b=aC m.w m.h b:=rfl;have hac:bI m.w m.h e.1:=by
    have:e.1∈aX m (cW m b):=by rw[<-h1];exact ha
    exact(mV hs this).2.1
   have e4:=Rv hm hs ⟨hac,h1⟩ ⟨hbc,rfl⟩;refine List.mem_filterMap.2 ⟨e.1,by rw[<-h1];exact ha,?_⟩;rw[if_pos ⟨h2,(aaF hm hs ⟨hac,h1⟩ ⟨hbc,rfl⟩ T7).2 h3⟩,hb2,e4];grind
  ·right;have hb0:0<=aY m.w m.h e.1 s:=by rw[h4];exact hbc.2.1
   obtain⟨s',hs',aht⟩:=Jw T8 hb0;rw[h4]at aht;refine List.mem_filterMap.2 ⟨s'.toNat,List.mem_range.2 (by omega),?_⟩;rw[Int.toNat_of_nonneg hs'.1];rw[Rw,aht,if_pos ⟨(j7 hm h2).2.1,ha,h1⟩];grind
end
def arc {P:Program}{t e:TypeId}{inf:TypeInfo}{b i j:Nat}{w:World}(d:Nat)(hu:P.underlying t=some (.pointer e))(hi:P.info? e=some inf)(hs:inf.size≠0):
  (Op.equalIn (d+1) t (.pointer (some ⟨b,i,none⟩)) (.pointer (some ⟨b,j,none⟩))).run P w=.ok (decide (i=j)) w:=by
 simp[Op.equalIn,run_underlying hu,sizeOf,typeInfo,hi,hs,sameAddr];grind
def avt {P:Program}{t e:TypeId}{inf:TypeInfo}{x y:Operand}{b i j:Nat}{w:World}{K:Bool->World->Prop}(hu:P.underlying t=some (.pointer e))(hi:P.info? e=some inf)(hs:inf.size≠0)(h:K (!decide (i=j)) w):
  bV P .neq t x y (.pointer (some ⟨b,i,none⟩)) (.pointer (some ⟨b,j,none⟩)) w K:=by
 have h1:(Op.equal t (.pointer (some ⟨b,i,none⟩)) (.pointer (some ⟨b,j,none⟩))).run P w=.ok (decide (i=j)) w:=arc 9999 hu hi hs;unfold bV aN;rw[show binOp .neq t (.pointer (some ⟨b,i,none⟩)) (.pointer (some ⟨b,j,none⟩))=(do pure (.bool (!(<-Op.equal t (.pointer (some ⟨b,i,none⟩)) (.pointer (some ⟨b,j,none⟩))))))from rfl];simp[eqGuard_at_pointer,Sem.run_bind,Sem.run_pure,Result.andThen_ok,h1];exact h
end Go.Proofs.YtmegplnmiepfbaaGreatDoor.S
namespace Go.Proofs.YtmegplnmiepfbaaGreatDoor.S.Ta
open Go.Sx
def U (n:Int):Prop:=0<=n/\n<18446744073709551616
def sat (a b:Int):Int:=if a+b<18446744073709551616 then a+b else 18446744073709551615
def G6 {a b:Int}(ha:U a)(hb:U b):U (sat a b):=by unfold sat;unfold U at*;omega
def BX {a b:Int}{w:World}{Q:Int->World->Prop}(ha:U a)(hb:U b)(h:Q (sat a b) w):sG a b w Q:=by
 unfold U at ha hb;apply abJ;rw[wrap_u64 (by omega) (by omega)];unfold sat at h;by_cases hc:a>18446744073709551615-b
 ·grind
 ·rw[bj hc,wrap_u64 (by omega) (by omega)];grind
def WT {F:Nat->Prop}{W w:World}{L:List As}{a b c d e f:Int}{Q:Int->Int->Int->Int->Int->Int->World->Prop}(s:Sep F W w L)(h:∀w',Sep F W w' L->Q a b c d e f w'):cY a b c d e f w Q:=by apply VW;refine aQ s λb1 w1 s=>?_;refine aV s λb2 w2 s=>?_;apply dy s (i:=1) rfl rfl rfl;apply dy s (i:=1) rfl rfl rfl;apply dy s (i:=1) rfl rfl rfl;apply dy s (i:=1) rfl rfl rfl;apply dy s (i:=1) rfl rfl rfl;apply dy s (i:=1) rfl rfl rfl;refine ax s (i:=0) rfl rfl rfl λw3 s=>?_;refine ax s (i:=0) rfl rfl rfl λw3 s=>?_;refine ax s (i:=0) rfl rfl rfl λw3 s=>?_;refine ax s (i:=0) rfl rfl rfl λw3 s=>?_;refine ax s (i:=0) rfl rfl rfl λw3 s=>?_;refine ax s (i:=0) rfl rfl rfl λw3 s=>?_;apply dy s (i:=0) rfl rfl rfl;apply dy s (i:=0) rfl rfl rfl;apply dy s (i:=0) rfl rfl rfl;apply dy s (i:=0) rfl rfl rfl;apply dy s (i:=0) rfl rfl rfl;apply dy s (i:=0) rfl rfl rfl;exact h _ (ai (ai s))
end Go.Proofs.YtmegplnmiepfbaaGreatDoor.S.Ta
namespace Go.Proofs.YtmegplnmiepfbaaGreatDoor.S.Ta
open Go.Sx
attribute [local irreducible] af cD bz bg aA cy b_ St Bx Al App cK cE cB bV aN bG aq bT av
def awX:zc T 175=[.int .u64 0,.int .u64 0,.int .u64 0,.int .u64 0,.int .u64 0,.int .u64 0]:=rfl
def avu:zc T 32=[.int .u64 0,.int .u64 0,.int .u64 0,.int .u64 0,.int .u64 0,.int .u64 0]:=rfl
section
variable {F:Nat->Prop}{W w:World}{L:List As}{Q:Int->Int->Int->Int->Int->Int->World->Prop}
def qv {r x y:Nat}{tx ty:TypeId}{xs ys:List Value}{i j k n:Nat}{t:Int}{p q:Int}(s:Sep F W w L)(ht:t=n)(hn:n<6)
  (hi:L[i]? =some (av x tx xs))(hj:L[j]? =some (av y ty ys))(hp:xs[n]? =some (.int .u64 p))(hq:ys[n]? =some (.int .u64 q))(up:U p)(uq:U q)(hl:Nat.blt n xs.length=true)
  (h:∀w',Sep F W w' (L.set i (av x tx (xs.set n (.int .u64 (sat p q)))))->qp Q k (aZ r) (aZ x) (aZ y) ((n+1:Nat):Int) w'):qp Q (k+1) (aZ r) (aZ x) (aZ y) t w:=by
 subst ht;show tD Q (qp Q k) _ _ _ _ _;rw[tD,bM];have e1:((n:Int).toNat*1)=n:=by omega
 have s':Sep F W w.drew L:=s;rw[e1];refine⟨by omega,by omega,?_⟩;apply dy s' (by rw[cw,Nat.zero_add]) hi hp;refine⟨by omega,by omega,?_⟩;apply dy s' (by rw[cw,Nat.zero_add]) hj hq;apply BX up uq;refine⟨by omega,by omega,?_⟩;refine ax s' (by rw[cw,Nat.zero_add]) hi hl λw' s=>?_;rw[aH];exact h _ s
def avv {r x y:Nat}{tr tx ty:TypeId}{a b c d e f a' b' c' d' e' f':Int}(s:Sep F W w (av x tx [.int .u64 a,.int .u64 b,.int .u64 c,.int .u64 d,.int .u64 e,.int .u64 f]::av y ty [.int .u64 a',.int .u64 b',.int .u64 c',.int .u64 d',.int .u64 e',.int .u64 f']::av r tr (zc T 32)::L))
  (u:(U a/\U b/\U c/\U d/\U e/\U f)/\U a'/\U b'/\U c'/\U d'/\U e'/\U f')
  (h:∀w',Sep F W w' L->Q (sat a a') (sat b b') (sat c c') (sat d d') (sat e e') (sat f f') w'):g6 Q (aZ r) (aZ x) (aZ y) w:=by
 obtain⟨⟨ua,ub,uc,ud,ue,uf⟩,va,vb,vc,vd,ve,vf⟩:=u;refine⟨7,?_⟩;refine qv s (n:=0) (i:=0) (j:=1) rfl (by omega) rfl rfl rfl rfl ua va rfl λw s=>?_;refine qv s (i:=0) (j:=1) rfl (by omega) rfl rfl rfl rfl ub vb rfl λw s=>?_;refine qv s (i:=0) (j:=1) rfl (by omega) rfl rfl rfl rfl uc vc rfl λw s=>?_;refine qv s (i:=0) (j:=1) rfl (by omega) rfl rfl rfl rfl ud vd rfl λw s=>?_;refine qv s (i:=0) (j:=1) rfl (by omega) rfl rfl rfl rfl ue ve rfl λw s=>?_;refine qv s (i:=0) (j:=1) rfl (by omega) rfl rfl rfl rfl uf vf rfl λw s=>?_;show tD Q (qp Q 0) _ _ _ _ _;unfold tD;refine⟨by decide,by decide,?_⟩;apply lI s 0 rfl;refine⟨by decide,by decide,?_⟩;apply lI s 0 rfl;refine⟨by decide,by decide,?_⟩;apply lI s 0 rfl;refine⟨by decide,by decide,?_⟩;apply lI s 0 rfl;refine⟨by decide,by decide,?_⟩;apply lI s 0 rfl;refine⟨by decide,by decide,?_⟩;apply lI s 0 rfl
 repeat' first
  |apply lI s 2 rfl
  |(refine ax s (i:=2) rfl rfl rfl λw' s=>?_;simp[Nat.zero_add,List.set_cons_zero,List.set_cons_succ]at s)
 exact h _ (ai (ai (ai s)))
def avw {r x y:Nat}{tr tx ty:TypeId}{a b c d e f a' b' c' d' e' f':Int}(s:Sep F W w (av y ty [.int .u64 a',.int .u64 b',.int .u64 c',.int .u64 d',.int .u64 e',.int .u64 f']::av x tx [.int .u64 a,.int .u64 b,.int .u64 c,.int .u64 d,.int .u64 e,.int .u64 f]::av r tr (zc T 32)::L))
  (u:(U a/\U b/\U c/\U d/\U e/\U f)/\U a'/\U b'/\U c'/\U d'/\U e'/\U f')
  (h:∀w',Sep F W w' L->Q (sat a a') (sat b b') (sat c c') (sat d d') (sat e e') (sat f f') w'):g6 Q (aZ r) (aZ x) (aZ y) w:=by
 obtain⟨⟨ua,ub,uc,ud,ue,uf⟩,va,vb,vc,vd,ve,vf⟩:=u;refine⟨7,?_⟩;refine qv s (n:=0) (i:=1) (j:=0) rfl (by omega) rfl rfl rfl rfl ua va rfl λw s=>?_;refine qv s (i:=1) (j:=0) rfl (by omega) rfl rfl rfl rfl ub vb rfl λw s=>?_;refine qv s (i:=1) (j:=0) rfl (by omega) rfl rfl rfl rfl uc vc rfl λw s=>?_;refine qv s (i:=1) (j:=0) rfl (by omega) rfl rfl rfl rfl ud vd rfl λw s=>?_;refine qv s (i:=1) (j:=0) rfl (by omega) rfl rfl rfl rfl ue ve rfl λw s=>?_;refine qv s (i:=1) (j:=0) rfl (by omega) rfl rfl rfl rfl uf vf rfl λw s=>?_;show tD Q (qp Q 0) _ _ _ _ _;unfold tD;refine⟨by decide,by decide,?_⟩;apply lI s 1 rfl;refine⟨by decide,by decide,?_⟩;apply lI s 1 rfl;refine⟨by decide,by decide,?_⟩;apply lI s 1 rfl;refine⟨by decide,by decide,?_⟩;apply lI s 1 rfl;refine⟨by decide,by decide,?_⟩;apply lI s 1 rfl;refine⟨by decide,by decide,?_⟩;apply lI s 1 rfl
 repeat' first
  |apply lI s 2 rfl
  |(refine ax s (i:=2) rfl rfl rfl λw' s=>?_;simp[Nat.zero_add,List.set_cons_zero,List.set_cons_succ]at s)
 exact h _ (ai (ai (ai s)))
end
set_option maxHeartbeats 1000000 in
theorem G7 {F:Nat->Prop}{W w:World}{L:List As}{a b c d e f a' b' c' d' e' f':Int}{Q:Int->Int->Int->Int->Int->Int->World->Prop}(s:Sep F W w L)(u:(U a/\U b/\U c/\U d/\U e/\U f)/\U a'/\U b'/\U c'/\U d'/\U e'/\U f')
  (h:∀w',Sep F W w' L->Q (sat a a') (sat b b') (sat c c') (sat d d') (sat e e') (sat f f') w'):xp a b c d e f a' b' c' d' e' f' w Q:=by
 apply abK;refine aQ s λb1 w1 s=>?_;refine aQ s λb2 w2 s=>?_;refine aV s λb3 w3 s=>?_
 repeat' first
  |apply lI s 0 rfl
  |refine lI s 1 rfl ?_
  |refine lI s 2 rfl ?_
  |apply lI s 3 rfl
  |apply lI s 4 rfl
  |refine⟨cm s 1 rfl,?_⟩
  |refine⟨cm s 2 rfl,?_⟩
  |refine⟨cm s 3 rfl,?_⟩
  |refine⟨cm s 4 rfl,?_⟩
  |(refine ax s (i:=0) rfl rfl rfl λw' s=>?_;simp[Nat.zero_add,List.set_cons_zero,List.set_cons_succ]at s)
  |(refine ax s (i:=1) rfl rfl rfl λw' s=>?_;simp[Nat.zero_add,List.set_cons_zero,List.set_cons_succ]at s)
  |(refine aV s λb' w' s=>?_;rw[awX]at s)
  |refine WT s λw' s=>?_
  |exact avv s u λw' s=>h _ (ai (ai s))
  |exact avw s u λw' s=>h _ (ai (ai s))
  |constructor
end Go.Proofs.YtmegplnmiepfbaaGreatDoor.S.Ta
namespace Go.Proofs.YtmegplnmiepfbaaGreatDoor.S
open Go.Sx
def dN {w:World}{x:Option Addr}{ad:Addr}{K:Option Addr->Prop}(h:w.cell? ad=some (.pointer x))(hk:K x):bg ad w K:=⟨x,h,hk⟩
attribute [local irreducible] af cD bz bg aA cy b_ St Bx Al App cK cE cB bV aN bG aq bT av ak aW mapA
def Tk {F:Nat->Prop}{W w:World}{A:As}:∀{L:List As} {i:Nat},Sep F W w (A::L)->Sep F W w (L.set i A)
 |[],i,s=>by simp[List.set_nil];exact ai s
 |B::L,0,s=>by exact gH s (List.Sublist.cons_cons _ (List.sublist_cons_self _ _))
 |B::L,i+1,s=>by
  rw[List.set_cons_succ];have s1:=cu s (List.Perm.swap B A L);have s2:=ai s1;have s3:=Tk (i:=i) s2;refine⟨eA.fr s,λC hC=>?_,?_⟩
  ·rcases List.mem_cons.1 hC with rfl|hC
   ·exact eA.ok s C (by simp)
   ·exact eA.ok s3 C hC
  ·rw[List.pairwise_cons];refine⟨λC hC=>?_,eA.apart s3⟩;have hp:=List.pairwise_cons.1 (eA.apart s1);grind
structure AR where
 ff:Int
 na:Option Addr
 nn:Nat
 nc:Nat
 da:Option Addr
 dn:Nat
 dc:Nat
 nodes:List Int
 Kj:List Int
def K9 (x:AR):List Value:=[ae x.ff,.slice x.na x.nn x.nc,.slice x.da x.dn x.dc]
def CV (x:AR):(K9 x).length=3:=rfl
def aoS (x:AR)(u:Value)(h:u∈K9 x):u.oneCell'=true:=by unfold K9 at h;simp[List.mem_cons,List.not_mem_nil,or_false]at h;rcases h with rfl|rfl|rfl<;>rfl
def acG (x:AR):As:=aW True [ak x.na x.nn x.nc 3 1 (flat one x.nodes),ak x.da x.dn x.dc 21 1 (flat pB x.Kj)]
structure BY where
 p:Nat
 a:Option Addr
 n:Nat
 c:Nat
structure nQ where
 ps:List AR
 clean:Int
 eL:Int
def acH (r:BY)(gp:Nat)(x:nQ):List Value:=[.pointer (sZ gp),.slice r.a r.n r.c,ae x.clean,.int .u64 x.eL]
def Mp (r:BY)(gp:Nat)(x:nQ):List As:=av r.p 236 (acH r gp x)::ak r.a r.n r.c 319 3 (flat K9 x.ps)::x.ps.map acG
def uR (r:BY)(gp:Nat)(x:nQ):As:=aW True (Mp r gp x)
noncomputable def jP (m:bJ)(sc:Int):List Int:=(AQ (aE m.w m.h sc) (bA m.w m.h sc) (dQ m sc) (ja m sc)).map λd=>if d=cg then-1 else d
structure yU (g:iD) (x:nQ):Prop where
 len:(x.ps.length:Int)=eM g.m.w g.m.h
 old:x.clean<=g.ep/\∀q∈x.ps,q.ff<=g.ep
 all:x.clean=g.ep->∀i q,x.ps[i]? =some q->q.ff=gi g.vs i
 ok:∀i q,x.ps[i]? =some q->q.ff=gi g.vs i->q.nodes=aX g.m i/\q.Kj=jP g.m i
 u:Ta.U x.eL
structure E2 (w:World) (r:BY) (gp:Nat) (x:nQ):Prop where
 cell:sy w r.p (acH r gp x)
 row:Sl w r.a r.n r.c 3 K9 x.ps
 part:∀q∈x.ps,Sl w q.na q.nn q.nc 1 one q.nodes/\Sl w q.da q.dn q.dc 1 pB q.Kj
 base:0<x.ps.length->∃b o,r.a=some ⟨b,o,none⟩
def E2.fr {w w':World}{r:BY}{gp:Nat}{x:nQ}(k:E2 w r gp x)(f:Fr No w w'):E2 w' r gp x:=
 ⟨k.cell.fr f,k.row.fr f,λq hq=>⟨(k.part q hq).1.fr f,(k.part q hq).2.fr f⟩,k.base⟩
section
variable {F:Nat->Prop}{W w w0:World}{L:List As}{r:BY}{gp:Nat}{x:nQ}{gr:uQ}{g:iD}{a:Option Addr}{n c:Nat}{xs:List Int}{v ce:Int}
def afU (s:Sep F W w (uR r gp x::L)):Sep F W w (Mp r gp x++L):=(gR s).2
def acI (s:Sep F W w (Mp r gp x++L)):Sep F W w (uR r gp x::L):=dD s trivial
def aoT {q:AR}{i:Nat}(s:Sep F W w L)(hi:L[i]? =some (acG q)):Sl w q.na q.nn q.nc 1 one q.nodes/\Sl w q.da q.dn q.dc 1 pB q.Kj:=by have s':=Jd s hi;exact⟨aG s' (i:=0) rfl bX (by decide),aG s' (i:=1) rfl vO (by decide)⟩
def WU (s:Sep F W w (uR r gp x::L)):E2 w r gp x:=by have s:=afU s;have s:Sep F W w (av r.p 236 (acH r gp x)::ak r.a r.n r.c 319 3 (flat K9 x.ps)::(x.ps.map acG++L)):=s;have hR:=aG s (i:=1) rfl CV (by decide);refine⟨lD s (i:=0) rfl,hR,λq hq=>?_,λh=>qk s (i:=1) rfl (by rw[<-hR.len];exact h)⟩;obtain⟨i,hi⟩:=List.mem_iff_getElem?.1 hq;apply aoT s (i:=i+2);rw[List.getElem?_cons_succ,List.getElem?_cons_succ,List.getElem?_append_left (by grind),List.getElem?_map,hi];rfl
def half {i j:Nat}(h:i<j)(hj:j<1000000):IntKind.wrap .i64 (pE .u64 (IntKind.wrap .u64 (IntKind.wrap .i64 ((i:Int)+j))) 1)=(((i+j)/2:Nat):Int):=by
 rw[aH (n:=(i:Int)+j),kF (by omega)];have e:pE .u64 ((i:Int)+j) 1=((i:Int)+j)/2:=by rw[pE,show(2:Int)^(min (1:Int).toNat (IntKind.u64).bits)=2 from rfl,Int.fdiv_eq_ediv_of_nonneg _ (by decide)]
 rw[e,aH];omega
def Rx (h:xs.Pairwise (·<·)){i j:Nat}(hij:i<j)(hj:j<xs.length):gi xs i<gi xs j:=by have:=List.pairwise_iff_getElem.1 h i j (by omega) hj hij;have e1:=h_ (l:=xs) (i:=i) (by omega);have e2:=h_ hj;grind
def ai6 {Q:Int->Bool->World->Prop}(hX:Sl w a n c 1 one xs)(hn:n<1000000)(hs:xs.Pairwise (·<·))(s0:Sep F W w L)
  (hy:∀(i:Nat) w',i<n->gi xs i=v->Sep F W w' L->Fr No w w'->Q i true w')(hno:v∉xs->∀i w',Sep F W w' L->Fr No w w'->Q i false w'):nZ a n c v w Q:=by
 apply EC;have hl:=hX.len;have loop:∀(k i j:Nat) (w1:World),j<=i+k->i<=j->j<=n->(∀q,q<i->gi xs q<v)->(∀q,j<=q->q<n->¬gi xs q<v)->Sep No w w1 []->gG Q (k+1) a n c v n i j w1:=by
  have stop:∀(i:Nat) (w1:World),i<=n->(∀q,q<i->gi xs q<v)->(∀q,i<=q->q<n->¬gi xs q<v)->Sep No w w1 []->(cond (decide ((i:Int)<n)) (aJ i n<|wA a λp=>af .i64 (p.add ((i:Int).toNat*1)) w1 λy=>cond (y==v) (Q i true w1) (aJ i n<|wA a λp=>af .i64 (p.add ((i:Int).toNat*1)) w1 λz=>n6 z w1 λr w2=>cond r (n6 v w2 λr' w3=>Q i r' w3) (Q i false w2))) (Q i false w1)):=λi w1 hi h1 h2 s=>by
   have aeD:gi xs i≠v\/i=n->v∉xs:=λh hv=>by
    obtain⟨q,hq⟩:=List.mem_iff_getElem?.1 hv;have hql:=(List.getElem?_eq_some_iff.1 hq).1;rw[h_ hql,Option.some.injEq]at hq;rcases Nat.lt_trichotomy q i with h3|h3|h3
    ·grind
    ·grind
    ·have h4:=h2 i (Nat.le_refl _) (by omega);have h5:=Rx hs h3 (by omega);omega
   by_cases hin:i<n
   ·rw[bM];apply(hX.fr (au s)).ql rfl hin;by_cases hv:gi xs i=v
    ·rw[ee hv,cond_true];exact hy i w1 hin hv (bW s0 (au s)) (au s)
    ·rw[cL hv,cond_false];apply(hX.fr (au s)).ql rfl hin;apply O5;rw[bne_self_eq_false];show cond false _ _;exact hno (aeD (.inl hv)) i w1 (bW s0 (au s)) (au s)
   ·rw[bj];exact hno (aeD (.inr (by omega))) i w1 (bW s0 (au s)) (au s)
  intro k;induction k with
  |zero=>
   intro i j w1 hk hij hj h1 h2 s;obtain rfl:i=j:=by omega
   show i_ Q (gG Q 0) _ _ _ _ _ _ _ _;unfold i_;grind
  |succ k ih=>
   intro i j w1 hk hij hj h1 h2 s;show i_ Q (gG Q (k+1)) _ _ _ _ _ _ _ _;unfold i_;by_cases hlt:i<j
   ·rw[bM,half hlt (by omega)];refine⟨by decide,?_⟩;apply(hX.fr (au s)).ql rfl (by omega);apply Wk;apply Bz;rw[bne_self_eq_false];show cond false _ _;show cond (decide (gi xs ((i+j)/2)<v)) _ _;have WV:∀q,q<(i+j)/2->gi xs q<gi xs ((i+j)/2):=λq hq=>Rx hs hq (by omega);have awY:∀q,(i+j)/2<q->q<n->gi xs ((i+j)/2)<gi xs q:=λq hq hqn=>Rx hs hq (by omega);by_cases hc:gi xs ((i+j)/2)<v
    ·rw[bM hc,aH];refine ih ((i+j)/2+1) j w1 (by omega) (by omega) hj (λq hq=>?_) h2 s;by_cases e:q=(i+j)/2
     ·rw[e];exact hc
     ·have:=WV q (by omega);omega
    ·rw[bj hc];refine ih i ((i+j)/2) w1 (by omega) (by omega) (by omega) h1 (λq hq hqn=>?_) s;by_cases e:q=(i+j)/2
     ·rw[e];exact hc
     ·have:=awY q (by omega) hqn;omega
   ·obtain rfl:i=j:=by omega
    rw[bj (Int.lt_irrefl _)];exact stop i w1 hj h1 h2 s
 exact⟨n+1,loop n 0 n w (by omega) (by omega) (Nat.le_refl _) (λq h=>by omega) (λq h1 h2=>by omega) bh⟩
def aaH {Q:Int->World->Prop}(k:sy w r.p (acH r gp x))(h:Q x.eL w):sH (sZ r.p) w Q:=by apply FW;exact lC (ah (aL (k 3 _ rfl) h))
def aaI {Q:Int->World->Prop}(h:Q 0 w):sH Option.none w Q:=FW _ _ _ h
def aaJ {Q:Option Addr->Nat->Nat->World->Prop}{i:Nat}{q:AR}(s0:Sep F W w L)(k:E2 w r gp x)(hq:x.ps[i]? =some q)(hql:q.nodes.length<=1000000)(h:∀ra rn rc w',Sep F W w' (ak ra rn rc 3 1 (flat one q.nodes)::L)->Fr No w w'->Q ra rn rc w'):
  zo (sZ r.p) i w Q:=by
 apply QS;have hi:=(List.getElem?_eq_some_iff.1 hq).1;have hl:=k.row.len;apply lC;rw[bj];refine ah (dz (k.cell 1 _ rfl) ?_);rw[bj];refine ah (dz (k.cell 1 _ rfl) ?_);refine k.row.El rfl (by omega) λp y hy hc=>?_;rw[hq]at hy;cases hy;apply dz (hc 1 _ rfl);have hn:=(k.part q (List.mem_of_getElem? hq)).1;refine Mc s0 hn (by rw[<-hn.len];omega) λra rc w' s f=>h ra _ rc w' s f
def xY (r:BY)(i:Nat):Option Addr:=r.a.map λp=>p.add (i*3)
def N_ {Q:Option Addr->Int->Bool->World->Prop}(s0:Sep F W w L)(k:E2 w r gp x)(kg:nO w gr g)(hgp:gp=gr.p)(hlen:(x.ps.length:Int)=eM g.m.w g.m.h)(WV:∀q∈x.ps,q.nodes.Pairwise (·<·)/\q.nodes.length<1000000)
  (hno:¬bI g.m.w g.m.h ce->∀w',Sep F W w' L->Fr No w w'->Q none 0 false w')
  (hy:∀q (i:Nat) w',x.ps[(aC g.m.w g.m.h ce).toNat]? =some q->i<q.nodes.length->gi q.nodes i=ce->Sep F W w' L->Fr No w w'->Q (xY r (aC g.m.w g.m.h ce).toNat) i true w')
  (hn:∀q i w',x.ps[(aC g.m.w g.m.h ce).toNat]? =some q->ce∉q.nodes->Sep F W w' L->Fr No w w'->Q (xY r (aC g.m.w g.m.h ce).toNat) i false w'):uF (sZ r.p) ce w Q:=by
 subst hgp;apply SS;refine lC (ah (dN (k.cell 0 _ rfl) ?_));refine jv (bh (F:=No)) kg λw1 s1 _=>?_;refine e_ s1 λw1 s1 _=>?_;have f1:=au s1;by_cases hc:bI g.m.w g.m.h ce
 ·have hs:=bU hc;obtain⟨_,h0,h1⟩:=hs;rw[bj];have k:=k.fr f1;have hl:=k.row.len;refine ah (dz (k.cell 1 _ rfl) ?_);have hrow:=k.row;obtain⟨p,hp⟩:∃p,r.a=some p:=by obtain⟨ad,h2,_⟩:=hrow.row.2 (aC g.m.w g.m.h ce).toNat _ (List.getElem?_eq_getElem (by omega));grind
  have hP:xY r (aC g.m.w g.m.h ce).toNat=some (p.add ((aC g.m.w g.m.h ce).toNat*3)):=by unfold xY;rw[hp];rfl
  rw[hP]at hy hn;obtain⟨ad,had,yF⟩:=hrow.row.2 (aC g.m.w g.m.h ce).toNat _ (List.getElem?_eq_getElem (by omega));rw[hp,Option.some.injEq]at had;subst had;have hq:x.ps[(aC g.m.w g.m.h ce).toNat]? =some (x.ps[(aC g.m.w g.m.h ce).toNat]'(by omega)):=List.getElem?_eq_getElem (by omega);generalize x.ps[(aC g.m.w g.m.h ce).toNat]'(by omega)=q at yF hq;have hqm:=List.mem_of_getElem? hq;refine⟨by omega,by omega,?_⟩;rw[hp];apply ah;apply QT;refine ah (dz (x:=q.na) (m:=q.nn) (q:=q.nc) ?_ ?_)
  ·rw[add_add];exact yF 1 _ rfl
  ·obtain⟨h2,h3⟩:=WV q hqm;have hn1:=(k.part q hqm).1;have hnl:=hn1.len;refine ai6 hn1 (by omega) h2 s1 (λi w2 h4 h5 s2 f2=>?_) λh4 i w2 s2 f2=>?_
   ·exact hy q i w2 hq (by omega) h5 (bW s0 (au s2)) (au s2)
   ·exact hn q i w2 hq h4 (bW s0 (au s2)) (au s2)
 ·have e:aC g.m.w g.m.h ce=-1:=if_neg hc;rw[e,bM (by decide)];exact hno hc w1 (bW s0 f1) f1
end
end Go.Proofs.YtmegplnmiepfbaaGreatDoor.S
namespace Go.Proofs.YtmegplnmiepfbaaGreatDoor.S
open Go.Sx
attribute [local irreducible] af cD bz bg aA cy b_ St Bx Al App cK cE cB bV aN bG aq bT av ak aW mapA
section
variable {F:Nat->Prop}{W w w0:World}{L:List As}{r:BY}{gp:Nat}{x:nQ}{gr:uQ}{g:iD}{m:bJ}{sc b:Int}
def Oa (g:iD)(x:nQ):Prop:=∀i q,x.ps[i]? =some q->q.ff=gi g.vs i
def Iy (I:yU g x)(hf:Oa g x){i:Nat}{q:AR}(h:x.ps[i]? =some q):q.nodes=aX g.m i/\q.Kj=jP g.m i:=I.ok i q h (hf i q h)
def G8:(ja m sc).length=(aX m sc).length:=by unfold ja;grind
def aoU:(jP m sc).length=(aX m sc).length*(aX m sc).length:=by unfold jP AQ;rw[List.length_map,List.length_map,List.length_range,G8]
def ard {i j:Nat}(hi:i<(aX m sc).length)(hj:j<(aX m sc).length):gi (jP m sc) (i*(aX m sc).length+j)=if qz m sc (gi (aX m sc) i) (gi (aX m sc) j)=cg then-1 else qz m sc (gi (aX m sc) i) (gi (aX m sc) j):=by
 have PD:0<(aX m sc).length:=by omega
 have d1:(i*(aX m sc).length+j)/(aX m sc).length=i:=by rw[Nat.mul_comm,Nat.mul_add_div PD,Nat.div_eq_of_lt hj,Nat.add_zero]
 have d2:(i*(aX m sc).length+j)%(aX m sc).length=j:=by rw[Nat.mul_comm,Nat.mul_add_mod,Nat.mod_eq_of_lt hj]
 have e:∀k,k<(aX m sc).length->gi (ja m sc) k=dZ m.w m.h (gi (aX m sc) k):=λk hk=>by unfold gi ja;grind
 have h0:gi (jP m sc) (i*(aX m sc).length+j)=(λd=>if d=cg then-1 else d) (Fy (aE m.w m.h sc) (bA m.w m.h sc) (dQ m sc) (ja m sc) i j):=by unfold jP AQ;rw[G8];show List.getD _ _ _=_;rw[List.getD_eq_getElem?_getD,List.getElem?_map,List.getElem?_map,List.getElem?_range (amo hi hj)];simp[Option.map_some,Option.getD_some,d1,d2]
 rw[h0];unfold Fy qz;grind
def ahf {Q:Int->World->Prop}{s i j:Nat}{q:AR}(k:E2 w r gp x)(hq:x.ps[s]? =some q)(hm:cF m)(hs:dY m.w m.h sc)(hc:q.nodes=aX m sc/\q.Kj=jP m sc)(hi:i<(aX m sc).length)(hj:j<(aX m sc).length)
  (h:Q (qz m sc (gi (aX m sc) i) (gi (aX m sc) j)) w.drew):wW (xY r s) i j w Q:=by
 apply Ng;obtain⟨ad,had,yF⟩:=k.row.row.2 s q hq;have hP:xY r s=some (ad.add (s*3)):=by unfold xY;rw[had];rfl
 obtain⟨k1,k2⟩:=k.part q (List.mem_of_getElem? hq);have n1:=k1.len;have n2:=k2.len;rw[hc.1]at n1;rw[hc.2,aoU]at n2;have pC:=Ae hs;have hsq:=amo hi hj;have hij:=Nat.mul_le_mul (by omega) pC;rw[hP];refine ah (dz (by rw[add_add];exact yF 2 _ rfl) (ah (dz (by rw[add_add];exact yF 1 _ rfl) ?_)));rw[<-n1,show(i:Int)*(((aX m sc).length:Nat):Int)=((i*(aX m sc).length:Nat):Int) by grind,aH (n:=((i*(aX m sc).length:Nat):Int)),aH];apply Gn k2.drew (k:=i*(aX m sc).length+j) (by omega) (by omega);rw[hc.2,ard hi hj];have ha:=mV hs (fm hi);have hb:=mV hs (fm hj);have hr:=aaG hm hs ha.2 hb.2 hb.1;by_cases hI:qz m sc (gi (aX m sc) i) (gi (aX m sc) j)=cg
 ·rw[if_pos hI,bne_self_eq_false,cond_false];rw[hI]at h;exact h
 ·rw[if_neg hI,show(qz m sc (gi (aX m sc) i) (gi (aX m sc) j) !=-1)=true by grind,cond_true,aH];exact h
def atS:∃inf,P.info? 319=some inf/\inf.size≠0:=by obtain⟨inf,u,z,k1,k2,k3,k4,k5,k6,k7⟩:=u6 dU (t:=319) rfl;grind
def avx:P.underlying 354=some (.pointer 319):=by kernel_rfl
def Ry {α β:Type}{f:α->Option β}{l:List α}{i:Nat}{a:α}(h:l[i]? =some a):(l.take (i+1)).filterMap f=(l.take i).filterMap f++(f a).toList:=by rw[List.take_add_one,h,List.filterMap_append];congr 1
def acJ {Q:Option Addr->Nat->Nat->World->Prop}(s0:Sep F W w L)(k:E2 w r gr.p x)(kg:nO w gr g)(I:yU g x)(hf:Oa g x)(hb:bI g.m.w g.m.h b)(hn:oy g.m b)
  (h:∀ra rn rc w',Sep F W w' (ak ra rn rc 292 2 (flat DS (K8 g.m b))::L)->Fr No w w'->Q ra rn rc w'):Ay (sZ r.p) b w Q:=by
 apply SU;have hm:=kg.ok.may;have hs:=bU hb;have hlen:=I.len;have hps:∀(i:Nat) (q:AR),x.ps[i]? =some q->dY g.m.w g.m.h i:=λi q h=>⟨⟨hm.w,hm.h⟩,by omega,by have:=(List.getElem?_eq_some_iff.1 h).1;omega⟩;have WV:∀q∈x.ps,q.nodes.Pairwise (·<·)/\q.nodes.length<1000000:=λq hq=>by obtain⟨i,hi⟩:=List.mem_iff_getElem?.1 hq;rw[(Iy I hf hi).1];have:=Ae (hps i q hi);exact⟨N9 (hps i q hi),by omega⟩
 have e0:=Int.toNat_of_nonneg hs.2.1;refine N_ (bh (F:=No)) k kg rfl I.len WV (λe=>(e hb).elim) (λq j w1 hq hj hgj s1 f1=>?_) λq i w1 hq hni s1 f1=>?_
 rotate_left
 ·have:=(Iy I hf hq).1;rw[e0]at this;rw[this]at hni;exact(hni hn).elim
 have hc:=Iy I hf hq;rw[e0]at hc;rw[hc.1]at hj hgj;rw[Bool.not_true,cond_false];have k1:=k.fr f1;obtain⟨ad,had,yF⟩:=k1.row.row.2 _ q hq;obtain⟨pb,po,hbase⟩:=k1.base (by have:=(List.getElem?_eq_some_iff.1 hq).1;omega);have hP:xY r (aC g.m.w g.m.h b).toNat=some (ad.add ((aC g.m.w g.m.h b).toNat*3)):=by unfold xY;rw[had];rfl
 obtain⟨q1,q2⟩:=k1.part q (List.mem_of_getElem? hq);have hql:=q1.len;rw[hc.1]at hql;have pC:=Ae hs;rw[hP];refine ah (dz (by rw[add_add];exact yF 1 _ rfl) ?_);rw[<-hql,wrap_i64 (n:=(((aX g.m (aC g.m.w g.m.h b)).length:Nat):Int)+1) (by omega) (by omega)];refine tg (x0:=((0:Int),(0:Int))) (bytes:=16) (ln:=0) (cn:=(aX g.m (aC g.m.w g.m.h b)).length+1) dU s1 rfl rfl rfl rfl rfl rfl (by decide) Rk rfl (λu hu=>ald _ u hu) rfl (by omega) (by omega) (by omega) (by simp[maxLen];omega) λob w1 s1=>?_;have s1:=s1;have f1:=au s1;have k1:=k.fr f1;obtain⟨ad',avz,aiO⟩:=k1.row.row.2 _ q hq;obtain rfl:ad'=ad:=by rw[had]at avz;cases avz;rfl
 refine ah (dz (by rw[add_add];exact aiO 1 _ rfl) ?_);rw[<-hP,<-hql];have sides:∀(n2 sd:Nat) (oa:Option Addr) (on oc:Nat) (w2:World),sd+n2=4->on<=300+sd->Sep No w w2 [ak oa on oc 292 2 (flat DS (acE g.m b++Tj g.m b sd))]->
   lN Q (n2+1) (sZ r.p) b (xY r (aC g.m.w g.m.h b).toNat) oa on oc g.m.w g.m.h sd w2:=by
  intro n2;induction n2 with
  |zero=>
   intro sd oa on oc w2 wD ho s;show qU Q (lN Q 0) _ _ _ _ _ _ _ _ _ _;unfold qU;obtain rfl:sd=4:=by omega
   exact h oa on oc w2 (dG s0 s (i:=0) rfl) (au s)
  |succ n2 ih=>
   intro sd oa on oc w2 wD ho s;show qU Q (lN Q (n2+1)) _ _ _ _ _ _ _ _ _ _;rw[qU,bM,aH];have skip:∀(w3:World),Sep No w w3 [ak oa on oc 292 2 (flat DS (acE g.m b++Tj g.m b sd))]->¬(0<=aY g.m.w g.m.h b sd/\oy g.m (aY g.m.w g.m.h b sd)/\cW g.m (aY g.m.w g.m.h b sd)≠cW g.m b)->
     lN Q (n2+1) (sZ r.p) b (xY r (aC g.m.w g.m.h b).toNat) oa on oc g.m.w g.m.h ((sd:Int)+1) w3:=λw3 s hno=>by
    apply ih (sd+1) oa on oc w3 (by omega) (by omega);rw[acF];rw[Rw,if_neg hno];show Sep No w w3 [ak oa on oc 292 2 (flat DS (acE g.m b++(Tj g.m b sd++[])))];rw[List.append_nil];exact s
   refine jz s λw2 s _=>?_;refine N_ s (k.fr (au s)) (kg.fr (au s)) rfl I.len WV (λe w3 s _=>?_) (λq' i' w3 I_ hi' ayU s _=>?_) λq' i' w3 I_ avA s _=>?_
   ·exact skip w3 s λe'=>e (vp e'.1).2
   ·have hn':oy g.m (aY g.m.w g.m.h b sd)/\bI g.m.w g.m.h (aY g.m.w g.m.h b sd):=by
     have h2:=(Iy I hf I_).1;have h3:aY g.m.w g.m.h b sd∈q'.nodes:=by rw[<-ayU];exact fm hi'
     rw[h2]at h3;have hok:=hps _ _ I_;have h4:=mV hok h3;have e5:=Int.toNat_of_nonneg (bU h4.2.1).2.1;rw[e5]at h3;exact⟨h3,h4.2.1⟩
    have hs':=bU hn'.2;have eP:∀i,xY r i=some ⟨pb,po+i*3,none⟩:=λi=>by unfold xY;rw[hbase];show some (Addr.add ⟨pb,po,none⟩ (i*3))=_;rw[cw]
    have ayV:∀(K:Bool->World->Prop) (x y:Operand) (wz:World),K (!decide (aC g.m.w g.m.h (aY g.m.w g.m.h b sd)=aC g.m.w g.m.h b)) wz->bV P .neq 354 x y (.pointer (xY r (aC g.m.w g.m.h (aY g.m.w g.m.h b sd)).toNat)) (.pointer (xY r (aC g.m.w g.m.h b).toNat)) wz K:=λK x y wz hK=>by
     rw[eP,eP];obtain⟨inf,Zd,hi2⟩:=atS;apply avt avx Zd hi2;have e6:(po+(aC g.m.w g.m.h (aY g.m.w g.m.h b sd)).toNat*3=po+(aC g.m.w g.m.h b).toNat*3)↔aC g.m.w g.m.h (aY g.m.w g.m.h b sd)=aC g.m.w g.m.h b:=by have:=hs'.2.1;omega
     simp only[e6];exact hK
    apply ayV;by_cases Tm:aC g.m.w g.m.h (aY g.m.w g.m.h b sd)=aC g.m.w g.m.h b
    ·rw[decide_eq_true Tm,Bool.not_true,cond_false];exact skip w3 s λe'=>e'.2.2 Tm
    ·rw[decide_eq_false Tm,Bool.not_false,cond_true];have k3:=k.fr (au s);refine ah (dN (k3.cell 0 _ rfl) ?_);apply ju (kg.fr (au s));refine aqQ (x:=(aY g.m.w g.m.h b sd,cV g.m b)) s (by omega) λoa oc w3 s=>?_;apply ih (sd+1) oa (on+1) oc w3 (by omega) (by omega);rw[acF];rw[Rw,if_pos ⟨hn'.2.2.1,hn'.1,Tm⟩,<-List.append_assoc];exact s
   ·refine skip w3 s λe'=>?_;have h2:=(Iy I hf I_).1;have BI:=(vp e'.1).2;rw[Int.toNat_of_nonneg (bU BI).2.1]at h2;rw[h2]at avA;exact avA e'.2.1
 have nodes:∀(n2 i:Nat) (oa:Option Addr) (on oc:Nat) (w2:World),i+n2=(aX g.m (aC g.m.w g.m.h b)).length->on<=i->Sep No w w2 [ak oa on oc 292 2 (flat DS (((aX g.m (aC g.m.w g.m.h b)).take i).filterMap λa=>if a≠b/\qz g.m (cW g.m b) a b≠cg then some (a,qz g.m (cW g.m b) a b)else none))]->
   mO Q (n2+1) (sZ r.p) b (xY r (aC g.m.w g.m.h b).toNat) j oa on oc q.na (aX g.m (aC g.m.w g.m.h b)).length q.nc (aX g.m (aC g.m.w g.m.h b)).length i w2:=by
  intro n2;induction n2 with
  |zero=>
   intro i oa on oc w2 hi ho s;show sq Q (mO Q 0) _ _ _ _ _ _ _ _ _ _ _ _ _;rw[sq,bj];have k2:=k.fr (au s);refine ah (dN (k2.cell 0 _ rfl) ?_);refine jv s (kg.fr (au s)) λw2 s _=>?_;rw[List.take_of_length_le (by omega)]at s;refine⟨5,sides 4 0 oa on oc w2 rfl (by omega) ?_⟩;show Sep No w w2 [ak oa on oc 292 2 (flat DS (acE g.m b++[]))];rw[List.append_nil];exact s
  |succ n2 ih=>
   intro i oa on oc w2 hi ho s;show sq Q (mO Q (n2+1)) _ _ _ _ _ _ _ _ _ _ _ _ _;rw[sq,bM,aH];have k2:=k.fr (au s);have q1:=(k2.part q (List.mem_of_getElem? hq)).1;rw[hc.1,<-hql]at q1;apply q1.ql rfl (by omega);apply ahf k2 hq hm hs hc (by omega) hj;rw[hgj];have s:=ay s;have ht:=Ry (f:=λa=>if a≠b/\qz g.m (cW g.m b) a b≠cg then some (a,qz g.m (cW g.m b) a b)else none) (h_ (l:=aX g.m (aC g.m.w g.m.h b)) (i:=i) (by omega));have hne:gi (aX g.m (aC g.m.w g.m.h b)) i≠b↔i≠j:=by
    constructor
    ·rintro h1 rfl;exact h1 hgj
    ·intro h1 h2;rcases Nat.lt_or_gt_of_ne h1 with h3|h3
     ·have:=Rx (N9 hs) h3 hj;omega
     ·have:=Rx (N9 hs) h3 (by omega);omega
   have skip:¬(gi (aX g.m (aC g.m.w g.m.h b)) i≠b/\qz g.m (cW g.m b) (gi (aX g.m (aC g.m.w g.m.h b)) i) b≠cg)->mO Q (n2+1) (sZ r.p) b (xY r (aC g.m.w g.m.h b).toNat) j oa on oc q.na (aX g.m (aC g.m.w g.m.h b)).length q.nc (aX g.m (aC g.m.w g.m.h b)).length ((i:Int)+1) w2.drew:=λhno=>by apply ih (i+1) oa on oc _ (by omega) (by omega);rw[ht,if_neg hno];show Sep No w _ [ak oa on oc 292 2 (flat DS (_++[]))];rw[List.append_nil];exact s
   by_cases hij:i=j
   ·rw[show((i:Int) !=(j:Int))=false by rw[hij];exact bne_self_eq_false _,cond_false];exact skip λe=>hne.1 e.1 hij
   ·rw[show((i:Int) !=(j:Int))=true by rw[bne_iff_ne];omega,cond_true];by_cases hI:qz g.m (cW g.m b) (gi (aX g.m (aC g.m.w g.m.h b)) i) b=cg
    ·have WW:qz g.m (aC g.m.w g.m.h b) (gi (aX g.m (aC g.m.w g.m.h b)) i) b=1099511627776:=hI;rw[WW,bne_self_eq_false,cond_false];exact skip λe=>e.2 hI
    ·have WW:qz g.m (aC g.m.w g.m.h b) (gi (aX g.m (aC g.m.w g.m.h b)) i) b≠1099511627776:=hI;rw[show(qz g.m (aC g.m.w g.m.h b) (gi (aX g.m (aC g.m.w g.m.h b)) i) b !=1099511627776)=true by rw[bne_iff_ne];exact WW,cond_true];refine aqQ (x:=(gi (aX g.m (aC g.m.w g.m.h b)) i,qz g.m (aC g.m.w g.m.h b) (gi (aX g.m (aC g.m.w g.m.h b)) i) b)) s (by omega) λoa oc w3 s=>?_;apply ih (i+1) oa (on+1) oc w3 (by omega) (by omega);rw[ht,if_pos ⟨hne.2 hij,hI⟩];exact s
 exact⟨_,nodes (aX g.m (aC g.m.w g.m.h b)).length 0 _ 0 _ w1 (by omega) (by omega) s1⟩
end
section
variable {F:Nat->Prop}{W w w0:World}{L:List As}{r:BY}{gp:Nat}{x:nQ}{gr:uQ}{g:iD}{m:bJ}{sc b:Int}
def are (hm:cF m)(hs:dY m.w m.h sc){d:Int}(h:d∈AQ (aE m.w m.h sc) (bA m.w m.h sc) (dQ m sc) (ja m sc)):0<=d/\(d≠cg->d<1000000000):=by
 obtain⟨k,hk,rfl⟩:=List.mem_map.1 h;have hk:=List.mem_range.1 hk;rw[G8]at hk⊢;have PD:0<(aX m sc).length:=by grind
 have hi:=Nat.div_lt_of_lt_mul hk;have hj:k%(aX m sc).length<(aX m sc).length:=Nat.mod_lt _ PD;have e:∀k,k<(aX m sc).length->gi (ja m sc) k=dZ m.w m.h (gi (aX m sc) k):=λk hk=>by unfold gi ja;grind
 have ha:=mV hs (fm hi);have hb:=mV hs (fm hj);have hr:=aaG hm hs ha.2 hb.2 hb.1;have e2:Fy (aE m.w m.h sc) (bA m.w m.h sc) (dQ m sc) (ja m sc) (k/(aX m sc).length) (k%(aX m sc).length)=qz m sc (gi (aX m sc) (k/(aX m sc).length)) (gi (aX m sc) (k%(aX m sc).length)):=by unfold Fy qz;grind
 grind
def aeE {Q:Int->Option Addr->Nat->Nat->Option Addr->Nat->Nat->World->Prop}{rb tb pb nn nc tn tc:Nat}{na ta:Option Addr}{ff:Int}(hm:cF m)(hs:dY m.w m.h sc)
  (s:Sep No w0 w [av pb 319 [ae ff,.slice na nn nc,.slice none 0 0],ak na nn nc 3 1 (flat one (aX m sc)),av tb 84 [ae (aE m.w m.h sc),ae (bA m.w m.h sc),.slice ta tn tc],ak ta tn tc 5 1 (flat bp (dQ m sc)),av rb 319 [ae 0,.slice none 0 0,.slice none 0 0]])
  (h:∀da dn dc w',Sep No w0 w' [ak na nn nc 3 1 (flat one (aX m sc)),ak da dn dc 21 1 (flat pB (jP m sc))]->Q ff na nn nc da dn dc w'):sj Q (aZ rb) m.w m.h (aZ tb) (aZ pb) w:=by
 have pC:=Ae hs;have hnn:=(aG s (i:=1) rfl bX (by decide)).len;apply lS s 0 rfl;have conv:∀(qa:Option Addr) (qc N:Nat) (da:Option Addr) (w1:World),N=nn*nn->Sep No w0 w1 [ak da N N 21 1 (flat pB (List.replicate N 0)),ak qa N qc 3 1 (flat one (AQ (aE m.w m.h sc) (bA m.w m.h sc) (dQ m sc) (ja m sc))),av pb 319 [ae ff,.slice na nn nc,.slice da N N],ak na nn nc 3 1 (flat one (aX m sc)),av rb 319 [ae 0,.slice none 0 0,.slice none 0 0]]->
   ∃k',lK Q k' (aZ rb) (aZ pb) qa N qc N 0 w1:=λqa qc N da w1 hN s=>by
  have hNb:N<=65536:=by have:=Nat.mul_le_mul (show nn<=256 by omega) (show nn<=256 by omega);omega
  have htl:(AQ (aE m.w m.h sc) (bA m.w m.h sc) (dQ m sc) (ja m sc)).length=N:=by rw[AQ,List.length_map,List.length_range,G8,hnn,hN]
  have Zb:(jP m sc).length=N:=by unfold jP;grind
  have hdg:∀i,i<N->gi (jP m sc) i=if gi (AQ (aE m.w m.h sc) (bA m.w m.h sc) (dQ m sc) (ja m sc)) i=cg then-1 else gi (AQ (aE m.w m.h sc) (bA m.w m.h sc) (dQ m sc) (ja m sc)) i:=λi hi=>by show List.getD _ _ _=_;rw[jP,List.getD_eq_getElem?_getD,List.getElem?_map,h_ (by omega)];rfl
  have loop:∀(k i:Nat) (w1:World),i+k=N->Sep No w0 w1 [ak da N N 21 1 (flat pB ((List.range N).map λq=>if q<i then gi (jP m sc) q else 0)),ak qa N qc 3 1 (flat one (AQ (aE m.w m.h sc) (bA m.w m.h sc) (dQ m sc) (ja m sc))),av pb 319 [ae ff,.slice na nn nc,.slice da N N],ak na nn nc 3 1 (flat one (aX m sc)),av rb 319 [ae 0,.slice none 0 0,.slice none 0 0]]->
    lK Q (k+1) (aZ rb) (aZ pb) qa N qc N i w1:=by
   intro k;induction k with
   |zero=>
    intro i w1 hi s;show qT Q (lK Q 0) _ _ _ _ _ _ _ _;rw[qT,bj];have e:((List.range N).map λq=>if q<i then gi (jP m sc) q else 0)=jP m sc:=by refine PJ (by grind) λq hq=>?_;show List.getD _ _ _=_;grind
    rw[e]at s;refine lI s 2 rfl (lS s 2 rfl (lS s 2 rfl ?_));refine sT s 4 rfl λw1 s=>?_;refine sT s 4 rfl λw1 s=>?_;refine ax s (i:=4) rfl rfl rfl λw1 s=>?_;refine lI s 4 rfl (lS s 4 rfl (lS s 4 rfl ?_));exact h da N N w1 (pk 99 [3,0] s)
   |succ k ih=>
    intro i w1 hi s;show qT Q (lK Q (k+1)) _ _ _ _ _ _ _ _;rw[qT,bM,aH];apply(aG s (i:=1) rfl bX (by decide)).ql rfl (by omega);apply lS s 2 rfl;refine Fu vO s (i:=0) (k:=i) (x':=-1) rfl (by omega) (by rw[List.length_map,List.length_range];omega) rfl rfl λw1 s=>?_;have hr:=are hm hs (fm (i:=i) (by omega));have Ob:=hdg i (by omega);rw[Ki]at s;by_cases hI:gi (AQ (aE m.w m.h sc) (bA m.w m.h sc) (dQ m sc) (ja m sc)) i=cg
    ·rw[if_pos hI]at Ob;have WW:gi (AQ (aE m.w m.h sc) (bA m.w m.h sc) (dQ m sc) (ja m sc)) i=1099511627776:=hI;rw[WW,bne_self_eq_false,cond_false];apply ih (i+1) w1 (by omega);have e:((List.range N).map λq=>if q=i then-1 else if q<i then gi (jP m sc) q else 0)=(List.range N).map λq=>if q<i+1 then gi (jP m sc) q else 0:=by
      refine List.map_congr_left λq _=>?_;by_cases c1:q=i
      ·rw[if_pos c1,A5,c1,Ob]
      ·rw[if_neg c1];by_cases c2:q<i
       ·rw[if_pos c2,A5]
       ·rw[if_neg c2,fU]
     rw[e]at s;exact s
    ·rw[if_neg hI]at Ob;have WW:gi (AQ (aE m.w m.h sc) (bA m.w m.h sc) (dQ m sc) (ja m sc)) i≠1099511627776:=hI;rw[show(gi (AQ (aE m.w m.h sc) (bA m.w m.h sc) (dQ m sc) (ja m sc)) i !=1099511627776)=true by rw[bne_iff_ne];exact WW,cond_true];apply lS s 2 rfl;rw[afI (by omega)];refine Fu vO s (i:=0) (k:=i) (x':=gi (AQ (aE m.w m.h sc) (bA m.w m.h sc) (dQ m sc) (ja m sc)) i) rfl (by omega) (by rw[List.length_map,List.length_range];omega) rfl rfl λw1 s=>?_;rw[Ki]at s;apply ih (i+1) w1 (by omega);have e:((List.range N).map λq=>if q=i then gi (AQ (aE m.w m.h sc) (bA m.w m.h sc) (dQ m sc) (ja m sc)) i else if q=i then-1 else if q<i then gi (jP m sc) q else 0)=(List.range N).map λq=>if q<i+1 then gi (jP m sc) q else 0:=by
      refine List.map_congr_left λq _=>?_;by_cases c1:q=i
      ·rw[if_pos c1,A5,c1,Ob]
      ·rw[if_neg c1,if_neg c1];by_cases c2:q<i
       ·rw[if_pos c2,A5]
       ·rw[if_neg c2,fU]
     rw[e]at s;exact s
  refine⟨N+1,loop N 0 w1 (by omega) ?_⟩;have e:((List.range N).map λq=>if q<0 then gi (jP m sc) q else 0)=List.replicate N 0:=by rw[List.eq_replicate_iff];refine⟨by simp,λx hx=>?_⟩;obtain⟨q,_,rfl⟩:=List.mem_map.1 hx;rw[if_neg (Nat.not_lt_zero _)]
  grind
 have loop:∀(k i:Nat) (la:Option Addr) (lc:Nat) (w1:World),i+k=nn->Sep No w0 w1 [ak la i lc 3 1 (flat one ((ja m sc).take i)),av pb 319 [ae ff,.slice na nn nc,.slice none 0 0],ak na nn nc 3 1 (flat one (aX m sc)),av tb 84 [ae (aE m.w m.h sc),ae (bA m.w m.h sc),.slice ta tn tc],ak ta tn tc 5 1 (flat bp (dQ m sc)),av rb 319 [ae 0,.slice none 0 0,.slice none 0 0]]->
   oI Q (k+1) (aZ rb) m.w m.h (aZ tb) (aZ pb) la i lc na nn nc nn i w1:=by
  intro k;induction k with
  |zero=>
   intro i la lc w1 hi s;show r_ Q (oI Q 0) _ _ _ _ _ _ _ _ _ _ _ _ _ _;rw[r_,bj];have Oc:(ja m sc).length=nn:=by rw[G8,hnn]
   rw[List.take_of_length_le (by omega)]at s;refine lI s 3 rfl (lI s 3 rfl (lS s 3 rfl ?_));refine aaE s (aG s (i:=4) rfl cZ (by decide)) (aG s (i:=0) rfl bX (by decide)) (Ru hm hs) (aoR hm hs) λqa qc w1 s _=>?_;rw[Oc]at s⊢;have hNb:nn*nn<=65536:=by have:=Nat.mul_le_mul (show nn<=256 by omega) (show nn<=256 by omega);omega
   refine tg (bytes:=4) dU s rfl rfl rfl rfl rfl rfl (by decide) vO rfl (λu hu=>by unfold pB at hu;rw[List.mem_singleton]at hu;rw[hu];rfl) rfl rfl (Nat.le_refl _) (by omega) (by simp[maxLen];omega) λdb w1 s=>?_;refine ax s (i:=3) rfl rfl rfl λw1 s=>?_;exact conv qa qc (nn*nn) (sZ db) w1 rfl (pk 99 [0,1,3,4,7] s)
  |succ k ih=>
   intro i la lc w1 hi s;show r_ Q (oI Q (k+1)) _ _ _ _ _ _ _ _ _ _ _ _ _ _;rw[r_,bM,aH];apply(aG s (i:=2) rfl bX (by decide)).ql rfl (by omega);refine tR s λw1 s _=>?_;refine L_ s (by omega) λla lc w1 s=>?_;apply ih (i+1) la lc w1 (by omega);have e:(ja m sc).take (i+1)=(ja m sc).take i++[dZ m.w m.h (gi (aX m sc) i)]:=by rw[ja,List.take_add_one,List.getElem?_map,h_ (by omega)];rfl
   rw[e];exact s
 exact⟨nn+1,loop nn 0 none 0 w (by omega) (bH s 3 1)⟩
def acK {Q:Int->Option Addr->Nat->Nat->Option Addr->Nat->Nat->World->Prop}{vs:List Value}(s0:Sep F W w L)(k:sy w r.p (.pointer (sZ gr.p)::vs))(kg:nO w gr g)(hs:dY g.m.w g.m.h sc)
  (h:∀na nn nc da dn dc w',Sep F W w' ([ak na nn nc 3 1 (flat one (aX g.m sc)),ak da dn dc 21 1 (flat pB (jP g.m sc))]++L)->Fr No w w'->Q (zQ g sc) na nn nc da dn dc w'):Ax (sZ r.p) sc w Q:=by
 apply SP;have hm:=kg.ok.may;have fin:∀(na:Option Addr) (nn nc:Nat) (da:Option Addr) (dn dc:Nat) (w':World),Sep No w w' [ak na nn nc 3 1 (flat one (aX g.m sc)),ak da dn dc 21 1 (flat pB (jP g.m sc))]->Q (zQ g sc) na nn nc da dn dc w':=λna nn nc da dn dc w' s=>h na nn nc da dn dc w' (fB s0 s) (au s);refine aV (bh (F:=No)) λrb w1 s=>?_;have kc:∀{w':World} {L':List As},Sep No w w' L'->w'.cell? (aZ r.p)=some (.pointer (sZ gr.p)):=λs=>by have:=(k.fr (au s)) 0 _ rfl;exact this
 refine ah (dN (kc s) ?_);refine jv s (kg.fr (au s)) λw1 s _=>?_;refine ah (dN (kc s) ?_);refine NU s (kg.fr (au s)) (λe=>(e hs).elim) λ_ ta tn tc w1 s _=>?_;rw[aiU hm hs]at s;refine aV s λtb w1 s=>?_;refine sT s 0 rfl λw1 s=>?_;refine sT s 0 rfl λw1 s=>?_;refine ax s (i:=0) rfl rfl rfl λw1 s=>?_;have s:=ay s;refine ah (dN (kc s) (ah (dN (kc s) ⟨?_,?_⟩)))
 ·refine su (kg.fr (au s)) ⟨kc s,?_,?_⟩
  ·refine xV s (kg.fr (au s)) hs λna nn nc w1 s _=>?_;refine aV s λpb w1 s=>?_;refine⟨kc s,kc s,?_⟩;refine sT s 0 rfl λw1 s=>?_;refine sT s 0 rfl λw1 s=>?_;refine ax s (i:=0) rfl rfl rfl λw1 s=>?_;exact aeE hm hs s λda dn dc w' s=>fin _ _ _ da dn dc w' s
  ·refine aV s λpb w1 s=>?_;refine⟨kc s,kc s,?_⟩;refine xV s (kg.fr (au s)) hs λna nn nc w1 s _=>?_;refine sT s 1 rfl λw1 s=>?_;refine sT s 1 rfl λw1 s=>?_;refine ax s (i:=1) rfl rfl rfl λw1 s=>?_;exact aeE hm hs (pk 99 [1,0,2,3,4] s) λda dn dc w' s=>fin _ _ _ da dn dc w' s
 ·refine aV s λpb w1 s=>?_;refine⟨kc s,kc s,?_⟩;refine su (kg.fr (au s)) ⟨kc s,?_⟩;refine xV s (kg.fr (au s)) hs λna nn nc w1 s _=>?_;refine sT s 1 rfl λw1 s=>?_;refine sT s 1 rfl λw1 s=>?_;refine ax s (i:=1) rfl rfl rfl λw1 s=>?_;exact aeE hm hs (pk 99 [1,0,2,3,4] s) λda dn dc w' s=>fin _ _ _ da dn dc w' s
end
section
variable {F:Nat->Prop}{W w w0:World}{L:List As}{r:BY}{gp:Nat}{x:nQ}{gr:uQ}{g:iD}{m:bJ}{sc b:Int}
def Tn (x:nQ)(i:Nat):Int:=(x.ps[i]?.map (·.ff)).getD 0
def aaK {i:Nat}{q:AR}(h:x.ps[i]? =some q):Tn x i=q.ff:=by unfold Tn;rw[h];rfl
def kL (g:iD)(x:nQ)(j:Nat):List Nat:=(List.range j).filter λi=>Tn x i !=gi g.vs i
def zT (g:iD)(x:nQ)(j:Nat):List Int:=(kL g x j).map λi:Nat=>(i:Int)
def amq {j:Nat}:zT g x (j+1)=zT g x j++if Tn x j !=gi g.vs j then[(j:Int)]else[]:=by unfold zT kL;rw[List.range_succ,List.filter_append,List.map_append];grind
def aaL {Q:Option Addr->Nat->Nat->World->Prop}(s0:Sep F W w L)(k:E2 w r gr.p x)(kg:nO w gr g)(I:yU g x)
  (h:∀da dn dc w',Sep F W w' (ak da dn dc 3 1 (flat one (zT g x x.ps.length))::L)->Fr No w w'->Q da dn dc w'):zn (sZ r.p) w Q:=by
 apply QI;have k:=k.fr (w':=w.drew) Fr.refl;have kg:=kg.fr (w':=w.drew) Fr.refl;have s0:=ay s0;have hc:=(gS kg.ok.may.w kg.ok.may.h).2;have I9:=I.len;refine lC (ah (aL (k.cell 2 _ rfl) (ah (dN (k.cell 0 _ rfl) ?_))));refine rD kg ⟨k.cell 2 _ rfl,?_⟩;by_cases yF:x.clean=g.ep
 ·rw[ee yF,cond_true];refine h none 0 0 w.drew ?_ Fr.refl;have e:zT g x x.ps.length=[]:=by unfold zT kL;rw[List.map_eq_nil_iff,List.filter_eq_nil_iff];intro i hi;have hi:=List.mem_range.1 hi;have hq:=List.getElem?_eq_getElem hi;rw[aaK hq,I.all yF i _ hq,bne_self_eq_false];decide
  rw[e];exact bH s0 3 1
 rw[cL yF,cond_false];refine ah (dz (k.cell 1 _ rfl) ?_);have hn:=k.row.len;have loop:∀(j i:Nat) (oa:Option Addr) (on oc:Nat) (w1:World),i+j=r.n->on<=i->Sep No w w1 [ak oa on oc 3 1 (flat one (zT g x i))]->nT Q (j+1) (sZ r.p) oa on oc r.n i w1:=by
  intro j;induction j with
  |zero=>
   intro i oa on oc w1 hi ho s;show qS Q (nT Q 0) _ _ _ _ _ _ _;rw[qS,bj];obtain rfl:i=x.ps.length:=by omega
   exact h oa on oc w1 (dG s0 s (i:=0) rfl) (au s)
  |succ j ih=>
   intro i oa on oc w1 hi ho s;show qS Q (nT Q (j+1)) _ _ _ _ _ _ _;rw[qS,bM,aH];have s:=ay s;have k1:=k.fr (au s);have kg1:=kg.fr (au s);refine ah (dz (k1.cell 1 _ rfl) ?_);refine k1.row.El rfl (by omega) λp q hq yF=>?_;have hc0:=yF 0 _ rfl;refine aL hc0 (ah (dN (by have:=k1.cell 0 _ rfl;rw[add_zero]at this;exact this) ?_));refine su kg1 ⟨hc0,k1.cell 1 _ rfl,?_⟩;have hv:zQ g i=gi g.vs i:=by have:=kg.ok.len;unfold zQ;grind
   rw[hv,<-aaK hq];have hds:=amq (g:=g) (x:=x) (j:=i);cases hb:Tn x i !=gi g.vs i with
   |true=>
    refine L_ s (by omega) λoa oc w1 s=>?_;grind
   |false=>
    grind
 exact⟨r.n+1,loop r.n 0 none 0 0 w.drew (by omega) (by omega) (bH bh 3 1)⟩
def WrP {a:Option Addr}{n c i:Nat}{es:List AR}{idx:Int}{k:Nat}{q:AR}{K:World->Prop}(s:Sep F W w L)(hi:L[i]? =some (ak a n c 319 3 (flat K9 es)))(hk:idx=k)(hn:k<es.length)(h:∀w',Sep F W w' (L.set i (ak a n c 319 3 (flat K9 (es.set k q))))->K w'):
  aJ idx n (wA a λp=>St ((p.add (idx.toNat*3)).add 0) (ae q.ff) w λw=>St ((p.add (idx.toNat*3)).add 1) (.slice q.na q.nn q.nc) w λw=>St ((p.add (idx.toNat*3)).add 2) (.slice q.da q.dn q.dc) w λw=>K w):=by
 have hl:=(aG s hi CV (by decide)).len;subst hk;have hg:=List.getElem?_eq_getElem hn;generalize es[k]=e0 at hg;refine C7 s hi rfl (by omega) λg o ha=>?_;subst ha;have ad:∀j,(((⟨g,o,none⟩:Addr).add ((k:Int).toNat*3)).add j)=⟨g,o+(k*3+j),none⟩:=λj=>by rw[add_add,cw,Int.toNat_natCast]
 have Jc:=(List.getElem?_eq_some_iff.1 hi).1;refine dW (x':=⟨q.ff,e0.na,e0.nn,e0.nc,e0.da,e0.dn,e0.dc,e0.nodes,e0.Kj⟩) CV s hi hg (ad 0) (by decide) rfl rfl λw s=>?_;refine dW (x:=⟨q.ff,e0.na,e0.nn,e0.nc,e0.da,e0.dn,e0.dc,e0.nodes,e0.Kj⟩) (x':=⟨q.ff,q.na,q.nn,q.nc,e0.da,e0.dn,e0.dc,e0.nodes,e0.Kj⟩) CV s (by rw[List.getElem?_set_self Jc]) (by grind) (ad 1) (by decide) rfl rfl λw s=>?_;rw[List.set_set,List.set_set]at s;refine dW (x:=⟨q.ff,q.na,q.nn,q.nc,e0.da,e0.dn,e0.dc,e0.nodes,e0.Kj⟩) (x':=q) CV s (by rw[List.getElem?_set_self Jc]) (by grind) (ad 2) (by decide) rfl rfl λw s=>?_;simp_all
def aeF:Nat->Int->Int
 |0,c=>c
 |k+1,c=>aeF k (Ta.sat c 1)
def WX {Q:Int->World->Prop}(s:Sep F W w (oh gr g::uR r gr.p x::L))(I:yU g x)
  (h:∀(x':nQ) w',yU g x'->Oa g x'->x'.clean=g.ep->x'.eL=aeF (kL g x x.ps.length).length x.eL->Sep F W w' (oh gr g::uR r gr.p x'::L)->Q ((kL g x x.ps.length).length:Int) w'):wV (sZ r.p) w Q:=by
 apply Nd;apply lC;have kg:=oZ s;have WE:=kg.ok.len;have WQ:=(gS kg.ok.may.w kg.ok.may.h).2;have I9:=I.len;refine aaL s (WU (ai s)) kg I λda dn dc w1 s _=>?_;have hD:=(aG s (i:=0) rfl bX (by decide)).len;have hds:(kL g x x.ps.length).length=dn:=by rw[<-hD];unfold zT;rw[List.length_map]
 have Ob:∀i,i<dn->gi (zT g x x.ps.length) i=((kL g x x.ps.length).getD i 0:Nat):=λi hi=>by unfold zT;show List.getD _ _ _=_;rw[List.getD_eq_getElem?_getD,List.getElem?_map,List.getD_eq_getElem?_getD,List.getElem?_eq_getElem (by omega)];rfl
 have hdm:∀i,i<dn->(kL g x x.ps.length).getD i 0<x.ps.length:=λi hi=>by
  have:(kL g x x.ps.length).getD i 0∈kL g x x.ps.length:=by rw[List.getD_eq_getElem?_getD,List.getElem?_eq_getElem (by omega)];exact List.getElem_mem _
  exact List.mem_range.1 (List.mem_filter.1 this).1
 have hdn:dn<=x.ps.length:=by rw[<-hds];have:=List.length_filter_le (λi=>Tn x i !=gi g.vs i) (List.range x.ps.length);rw[List.length_range]at this;exact this
 have loop:∀(j i:Nat) (ps:List AR) (c:Int) (w1:World),i+j=dn->ps.length=x.ps.length->Ta.U c->aeF j c=aeF dn x.eL->
   (∀k q,ps[k]? =some q->(k∈(kL g x x.ps.length).take i->q.ff=gi g.vs k/\q.nodes=aX g.m k/\q.Kj=jP g.m k)/\(k∉(kL g x x.ps.length).take i->x.ps[k]? =some q))->
   Sep F W w1 (ak da dn dc 3 1 (flat one (zT g x x.ps.length))::oh gr g::av r.p 236 (acH r gr.p ⟨ps,x.clean,c⟩)::ak r.a r.n r.c 319 3 (flat K9 ps)::(ps.map acG++L))->
   mz Q (j+1) (sZ r.p) da dn dc da dn dc dn i w1:=by
  intro j;induction j with
  |zero=>
   intro i ps c w1 hi hps hu hc hk s;show oJ Q (mz Q 0) _ _ _ _ _ _ _ _ _ _;rw[oJ,bj];have Cd:=(aG s (i:=3) rfl CV (by decide)).len;have kg:=oZ (ai s);refine ah (lP s 2 rfl ?_);apply rD kg;refine ah (sT s 2 rfl λw1 s=>?_);have hfull:(kL g x x.ps.length).take i=kL g x x.ps.length:=List.take_of_length_le (by omega);rw[hfull]at hk;have fresh:∀k q,ps[k]? =some q->q.ff=gi g.vs k/\q.nodes=aX g.m k/\q.Kj=jP g.m k:=λk q hq=>by
    by_cases hm:k∈kL g x x.ps.length
    ·exact(hk k q hq).1 hm
    ·have I_:=(hk k q hq).2 hm;have hkl:=(List.getElem?_eq_some_iff.1 I_).1;have hv:q.ff=gi g.vs k:=by refine Classical.byContradiction λhne=>hm (List.mem_filter.2 ⟨List.mem_range.2 hkl,?_⟩);rw[aaK I_,bne_iff_ne];exact hne
     exact⟨hv,I.ok k q I_ hv⟩
   have hlen:∀k q,ps[k]? =some q->k<g.vs.length:=λk q hq=>by have:=(List.getElem?_eq_some_iff.1 hq).1;omega
   have I':yU g ⟨ps,g.ep,c⟩:=⟨by rw[hps];exact I9,⟨Int.le_refl _,λq hq=>by obtain⟨k,hk'⟩:=List.mem_iff_getElem?.1 hq;rw[(fresh k q hk').1];exact(kg.ok.vs _ (fm (hlen k q hk'))).2⟩,λ_ k q hq=>(fresh k q hq).1,λk q hq _=>(fresh k q hq).2,hu⟩
   have s:=ai s;have s:Sep F W w1 (oh gr g::(Mp r gr.p ⟨ps,g.ep,c⟩++L)):=s;have s:Sep F W w1 (oh gr g::uR r gr.p ⟨ps,g.ep,c⟩::L):=by have s1:=cu s (L':=Mp r gr.p ⟨ps,g.ep,c⟩++oh gr g::L) List.perm_middle.symm;exact cu (acI s1) (List.Perm.swap _ _ _)
   rw[<-hds];refine h ⟨ps,g.ep,c⟩ w1 I' (λk q hq=>(fresh k q hq).1) rfl ?_ s;rw[hds,<-hc];rfl
  |succ j ih=>
   intro i ps c w1 hi hps hu hc hk s;show oJ Q (mz Q (j+1)) _ _ _ _ _ _ _ _ _ _;rw[oJ,bM,aH];apply(aG s (i:=0) rfl bX (by decide)).ql rfl (by omega);rw[Ob i (by omega)];have hdk:=hdm i (by omega);have alm:(kL g x x.ps.length).take (i+1)=(kL g x x.ps.length).take i++[(kL g x x.ps.length).getD i 0]:=by rw[List.take_add_one,List.getD_eq_getElem?_getD,List.getElem?_eq_getElem (by omega)];rfl
   generalize hdv:(kL g x x.ps.length).getD i 0=d at hdk alm⊢;have s:=ay s;refine ah (lS s 2 rfl ?_);have kg:=oZ (ai s);have wD:dY g.m.w g.m.h d:=⟨⟨kg.ok.may.w,kg.ok.may.h⟩,by omega,by omega⟩;refine acK s (lD s (i:=2) rfl) kg wD λna nn nc Mq dn' Mr w1 s _=>?_;refine⟨cm s 4 rfl,?_⟩;have hv:zQ g d=gi g.vs d:=by rw[zQ,A5,Int.toNat_natCast]
   rw[hv];refine WrP (q:=⟨gi g.vs d,na,nn,nc,Mq,dn',Mr,aX g.m d,jP g.m d⟩) s (i:=5) rfl rfl (by omega) λw1 s=>?_;simp[List.cons_append,List.nil_append,List.set_cons_zero,List.set_cons_succ]at s;refine ah (lI s 4 rfl ?_);apply Ta.BX hu (by unfold Ta.U;omega);refine ah (sT s 4 rfl λw1 s=>?_);refine ih (i+1) (ps.set d ⟨gi g.vs d,na,nn,nc,Mq,dn',Mr,aX g.m d,jP g.m d⟩) (Ta.sat c 1) w1 (by omega) (by rw[List.length_set];exact hps) (Ta.G6 hu (by unfold Ta.U;omega)) hc ?_ ?_
   ·intro k q hq;rw[alm];rw[List.getElem?_set]at hq;by_cases hkd:d=k
    ·subst hkd;rw[if_pos rfl,A5]at hq;cases hq;exact⟨λ_=>⟨rfl,rfl,rfl⟩,λhn=>(hn (by simp)).elim⟩
    ·rw[if_neg hkd]at hq;refine⟨λhm=>(hk k q hq).1 ?_,λhn=>(hk k q hq).2 λhm=>hn (by simp[hm])⟩;rcases List.mem_append.1 hm with hm|hm
     ·exact hm
     ·rw[List.mem_singleton]at hm;exact(hkd hm.symm).elim
   ·have s1:=dD (Ps:=[ak na nn nc 3 1 (flat one (aX g.m d)),ak Mq dn' Mr 21 1 (flat pB (jP g.m d))]) s trivial;have s2:=Tk (i:=4+d) s1;rw[show 4+d=d+1+1+1+1 by omega]at s2;simp[List.set_cons_succ]at s2;rw[List.set_append_left _ _ (by rw[List.length_map];omega)]at s2;rw[List.map_set];exact s2
 have s0:=afU (cu s (L':=uR r gr.p x::ak da dn dc 3 1 (flat one (zT g x x.ps.length))::oh gr g::L) (List.perm_middle (l₁:=[_,_])));have s1:=cu s0 (L':=[ak da dn dc 3 1 (flat one (zT g x x.ps.length)),oh gr g]++(Mp r gr.p x++L)) (List.perm_append_comm_assoc _ [_,_] _);exact⟨dn+1,loop dn 0 x.ps x.eL w1 (by omega) rfl I.u rfl (λk q hq=>⟨λhm=>by simp at hm,λ_=>hq⟩) s1⟩
def Ms:AR:=⟨0,none,0,0,none,0,0,[],[]⟩
def atV (n:Nat)(s:Sep F W w L):Sep F W w ((List.replicate n Ms).map acG++L):=by
 induction n with
 |zero=>exact s
 |succ n ih=>
  have s1:=bH (bH ih 21 1) 3 1;exact dD s1 trivial
def aeG {Q:Option Addr->World->Prop}(s0:Sep F W w L)(kg:nO w gr g)
  (h:∀r w',Sep F W w' (uR r gr.p ⟨List.replicate (eM g.m.w g.m.h).toNat Ms,0,0⟩::L)->Fr No w w'->Q (sZ r.p) w'):Ig (sZ gr.p) w Q:=by
 apply ad5;apply lC;refine jv (bh (F:=No)) kg λw1 s _=>?_;apply q8;have hm:iS g.m.w g.m.h:=⟨kg.ok.may.w,kg.ok.may.h⟩;have hc:=(gS kg.ok.may.w kg.ok.may.h);unfold aao ael;rw[if_pos hm,if_pos hm,wrap_i64 (by show _<=eM _ _;omega) (by show eM _ _<_;omega)];refine tg (x0:=Ms) (bytes:=56) (cn:=(eM g.m.w g.m.h).toNat) dU s rfl rfl rfl rfl rfl rfl (by decide) CV rfl (λu hu=>aoS _ u hu) (by show eM _ _=_;omega) (by show eM _ _=_;omega) (Nat.le_refl _) (by omega) (by simp[maxLen];omega) λab w1 s=>?_;refine aQ s λmb w1 s=>?_;have s1:Sep No w w1 (Mp ⟨mb,sZ ab,(eM g.m.w g.m.h).toNat,(eM g.m.w g.m.h).toNat⟩ gr.p ⟨List.replicate (eM g.m.w g.m.h).toNat Ms,0,0⟩++[]):=by have s2:=atV (eM g.m.w g.m.h).toNat s;have s3:=cu s2 (List.perm_append_comm);rw[List.append_nil];exact s3
 have s2:=acI s1;exact h ⟨mb,sZ ab,(eM g.m.w g.m.h).toNat,(eM g.m.w g.m.h).toNat⟩ w1 (dG s0 s2 (i:=0) rfl) (au s2)
end
end Go.Proofs.YtmegplnmiepfbaaGreatDoor.S
namespace Go.Proofs.YtmegplnmiepfbaaGreatDoor.S.Lr
open Go.Sx
structure kS where
 a:Int
 b:Int
 nw:Int
 od:Int
def Od (ss:List kS)(i:Nat):Int:=(ss[i]?.map (·.nw)).getD 0
def Oe (ss:List kS)(i:Nat):Int:=(ss[i]?.map (·.od)).getD 0
def Jz (xs:List Nat)(n:Int):Int:=match xs with|[]=>n|x::_=>x
def CW (xs:List Nat)(p:Int):Int:=match xs with|[]=>p|x::xs=>CW xs x
def x6 (ss:List kS)(p:Int)(xs:List Nat)(n:Int):Prop:=match xs with
 |[]=>True
 |x::xs=>Od ss x=p/\Oe ss x=Jz xs n/\x6 ss x xs n
def aeH (xs ys:List Nat)(n:Int):Jz (xs++ys) n=Jz xs (Jz ys n):=by cases xs<;>rfl
def aeI (xs ys:List Nat)(p:Int):CW (xs++ys) p=CW ys (CW xs p):=by
 induction xs generalizing p with
 |nil=>rfl
 |cons x xs ih=>exact ih x
def aeJ {ss:List kS}{p n:Int}{xs ys:List Nat}:x6 ss p (xs++ys) n↔x6 ss p xs (Jz ys n)/\x6 ss (CW xs p) ys n:=by
 induction xs generalizing p with
 |nil=>simp[x6,CW]
 |cons x xs ih=>
  simp[List.cons_append,x6,ih,aeH,CW];grind
def Iz {ss ss':List kS}{p n:Int}{xs:List Nat}(h:∀x∈xs,Od ss' x=Od ss x/\Oe ss' x=Oe ss x)(s:x6 ss p xs n):x6 ss' p xs n:=by
 induction xs generalizing p with
 |nil=>trivial
 |cons x xs ih=>
  obtain⟨h1,h2,h3⟩:=s;obtain⟨e1,e2⟩:=h x (by simp);exact⟨e1.trans h1,e2.trans h2,ih (λy hy=>h y (by simp[hy])) h3⟩
def uS (ss:List kS)(i:Nat)(v:Int):List kS:=ss.modify i λs=>{s with nw:=v}
def yV (ss:List kS)(i:Nat)(v:Int):List kS:=ss.modify i λs=>{s with od:=v}
def JA {ss:List kS}{i j:Nat}{v:Int}(h:i<ss.length):Od (uS ss i v) j=if j=i then v else Od ss j:=by unfold Od uS;grind
def Of {ss:List kS}{i j:Nat}{v:Int}:Oe (uS ss i v) j=Oe ss j:=by unfold Oe uS;grind
def Og {ss:List kS}{i j:Nat}{v:Int}(h:i<ss.length):Oe (yV ss i v) j=if j=i then v else Oe ss j:=by unfold Oe yV;grind
def Oh {ss:List kS}{i j:Nat}{v:Int}:Od (yV ss i v) j=Od ss j:=by unfold Od yV;grind
def aoZ {ss:List kS}{p n v:Int}{xs:List Nat}{y:Nat}(hy:y<ss.length)(hnd:(xs++[y]).Nodup)(s:x6 ss p (xs++[y]) n):x6 (yV ss y v) p (xs++[y]) v:=by rw[aeJ]at s⊢;obtain⟨s1,h1,h2,_⟩:=s;rw[List.nodup_append]at hnd;refine⟨Iz (λx hx=>?_) s1,Oh.trans h1,by rw[Og hy,if_pos rfl];rfl,trivial⟩;exact⟨Oh,by rw[Og hy,if_neg (hnd.2.2 x hx y (by simp))]⟩
def afW {ss:List kS}{p n v:Int}{xs:List Nat}{y:Nat}(hy:y<ss.length)(hnd:(y::xs).Nodup)(s:x6 ss p (y::xs) n):x6 (uS ss y v) v (y::xs) n:=by obtain⟨h1,h2,h3⟩:=s;rw[List.nodup_cons]at hnd;refine⟨by rw[JA hy,if_pos rfl],Of.trans h2,Iz (λx hx=>⟨?_,Of⟩) h3⟩;rw[JA hy,if_neg (λe:x=y=>hnd.1 (by grind))]
def XP {ss:List kS}{p n v:Int}{xs:List Nat}{y:Nat}(hy:y<ss.length)(hx:y∉xs)(s:x6 ss p xs n):x6 (yV ss y v) p xs n/\x6 (uS ss y v) p xs n:=
 ⟨Iz (λx h=>⟨Oh,by rw[Og hy,if_neg (λe:x=y=>hx (by rw[<-e];exact h))]⟩) s,Iz (λx h=>⟨by rw[JA hy,if_neg (λe:x=y=>hx (by rw[<-e];exact h))],Of⟩) s⟩
def aaM (xs:List Nat)(y:Nat)(p:Int):CW (xs++[y]) p=y:=by rw[aeI];rfl
abbrev KS:=List ((Int×Int)×Nat)
def XQ (l:KS)(key:Int×Int):Int:=match l.find? (λp=>decide (p.1=key))with|some p=>p.2|none=>-1
def kT (k:Int)(l:KS)(key:Int×Int):(Int×Bool×Bool)×KS:=match l.find? (λp=>decide (p.1=key))with
 |some p=>((p.2,true,false),(key,p.2)::l.filter (λq=>!decide (q.1=key)))
 |none=>if(l.length:Int)<k then((l.length,false,false),(key,l.length)::l)else match l.getLast? with
  |some p=>((p.2,false,true),(key,p.2)::l.dropLast)
  |none=>((-1,false,true),l)
structure Good (k:Int) (l:KS):Prop where
 room:(l.length:Int)<=k
 nd:(l.map (·.2)).Nodup
 lt:∀p∈l,p.2<l.length
 F7:(l.map (·.1)).Nodup
def Mt {k:Int}(h:0<=k):Good k []:=⟨h,.nil,by simp,.nil⟩
def To {l:KS}(h:(l.map (·.1)).Nodup){p q:(Int×Int)×Nat}(hp:p∈l)(hq:q∈l)(e:p.1=q.1):p=q:=by
 induction l with
 |nil=>cases hp
 |cons x l ih=>
  grind
def Oi {l:KS}{key:Int×Int}{p:(Int×Int)×Nat}(h:l.find? (λp=>decide (p.1=key))=some p):p.1=key/\p∈l:=by grind
def afX {l:KS}{key:Int×Int}(h:l.find? (λp=>decide (p.1=key))=none):∀p∈l,p.1≠key:=λp hp e=>by grind
def Ze {l:KS}(hnd:(l.map (·.1)).Nodup){p:(Int×Int)×Nat}(hp:p∈l):l.find? (λq=>decide (q.1=p.1))=some p:=by
 cases h:l.find? (λq=>decide (q.1=p.1))with
 |none=>grind
 |some q=>
  obtain⟨h1,h2⟩:=Oi h;rw[To hnd h2 hp h1]
def aaN {l:KS}(hnd:(l.map (·.1)).Nodup){p:(Int×Int)×Nat}(hp:p∈l):∃pre post,l=pre++p::post/\l.filter (λq=>!decide (q.1=p.1))=pre++post:=by
 obtain⟨pre,post,rfl⟩:=List.append_of_mem hp;refine⟨pre,post,rfl,?_⟩;rw[List.map_append,List.map_cons,List.nodup_append,List.nodup_cons]at hnd;rw[List.filter_append,List.filter_cons_of_neg (by simp),List.filter_eq_self.2,List.filter_eq_self.2]
 ·grind
 ·intro q hq;have:q.1≠p.1:=λe=>hnd.2.2 q.1 (List.mem_map.2 ⟨q,hq,rfl⟩) p.1 (by simp) e;simp[this]
def XR {l:KS}(hnd:(l.map (·.1)).Nodup){p:(Int×Int)×Nat}(hp:p∈l)(k:Int×Int)(n:Nat):((k,n)::l.filter (λq=>!decide (q.1=p.1))).length=l.length:=by obtain⟨pre,post,e1,e2⟩:=aaN hnd hp;grind
def aaO {k:Int}{l:KS}{key:Int×Int}(hk:1<=k)(h:Good k l):Good k (kT k l key).2:=by
 unfold kT;cases hf:l.find? (λp=>decide (p.1=key))with
 |some p=>
  obtain⟨rfl,hp⟩:=Oi hf;obtain⟨pre,post,e1,e2⟩:=aaN h.F7 hp;rw[e2];have Pn:List.Perm ((p.1,p.2)::(pre++post)) l:=by grind
  have hlen:=Pn.length_eq;exact⟨by rw[hlen];exact h.room,(Pn.map (·.2)).nodup_iff.2 h.nd,λq hq=>by rw[hlen];exact h.lt q (Pn.mem_iff.1 hq),(Pn.map (·.1)).nodup_iff.2 h.F7⟩
 |none=>
  have hn:=afX hf;by_cases hroom:(l.length:Int)<k
  ·rw[if_pos hroom];refine⟨by grind,?_,λq hq=>?_,?_⟩
   ·simp only[List.map_cons,List.nodup_cons];refine⟨λhm=>?_,h.nd⟩;obtain⟨q,hq,e⟩:=List.mem_map.1 hm;have:=h.lt q hq;omega
   ·simp[List.length_cons];rcases List.mem_cons.1 hq with rfl|hq
    ·simp
    ·have:=h.lt q hq;omega
   ·simp[List.map_cons,List.nodup_cons];refine⟨λhm=>?_,h.F7⟩;grind
  ·rw[if_neg hroom];cases hl:l.getLast? with
   |none=>exact h
   |some p=>
    obtain⟨ys,rfl⟩:=List.getLast?_eq_some_iff.1 hl;rw[List.dropLast_concat];have e1:(ys++[p]).length=((key,p.2)::ys).length:=by simp
    have Pn:List.Perm (((key,p.2)::ys).map (·.2)) ((ys++[p]).map (·.2)):=by rw[List.map_cons,List.map_append];exact(List.perm_append_singleton _ _).symm
    refine⟨by rw[<-e1];exact h.room,Pn.nodup_iff.2 h.nd,λq hq=>?_,?_⟩
    ·rw[<-e1];rcases List.mem_cons.1 hq with rfl|hq
     ·exact h.lt p (by simp)
     ·exact h.lt q (by simp[hq])
    ·simp only[List.map_cons,List.nodup_cons];have:=h.F7;rw[List.map_append,List.nodup_append]at this;refine⟨λhm=>?_,this.1⟩;obtain⟨q,hq,e⟩:=List.mem_map.1 hm;exact hn q (by simp[hq]) e
def dU:xk P T:=E9 P rows Ic
def awZ:zc T 253=[ae 0,ae 0]:=rfl
attribute [local irreducible] af cD bz bg aA cy b_ St Bx Al App cK cE cB bV aN bG aq bT av ak aW mapA
def uT (s:kS):List Value:=[ae s.a,ae s.b,ae s.nw,ae s.od]
def lE (s:kS):(uT s).length=4:=rfl
def ao0 (v:kS)(u:Value)(h:u∈uT v):u.oneCell'=true:=by simp[uT,List.mem_cons,List.not_mem_nil,or_false]at h;rcases h with rfl|rfl|rfl|rfl<;>rfl
def ai8 {ss:List kS}{i:Nat}{x:kS}{v:Int}(h:ss[i]? =some x):ss.set i {x with nw:=v}=uS ss i v:=by apply List.ext_getElem?;intro j;unfold uS;grind
def ao1 {ss:List kS}{i:Nat}{x:kS}{v:Int}(h:ss[i]? =some x):ss.set i {x with od:=v}=yV ss i v:=by apply List.ext_getElem?;intro j;unfold yV;grind
def BZ (ss ss':List kS):Prop:=ss'.length=ss.length/\∀i:Nat,(ss'[i]?.map λs=>(s.a,s.b))=ss[i]?.map λs=>(s.a,s.b)
def BZ.refl {ss:List kS}:BZ ss ss:=⟨rfl,λ_=>rfl⟩
def BZ.trans {a b c:List kS}(h:BZ a b)(k:BZ b c):BZ a c:=⟨k.1.trans h.1,λi=>(k.2 i).trans (h.2 i)⟩
def IZ {ss:List kS}{i:Nat}{v:Int}:BZ ss (uS ss i v):=by refine⟨by simp[uS],λj=>?_⟩;unfold uS;grind
def Zf {ss:List kS}{i:Nat}{v:Int}:BZ ss (yV ss i v):=by refine⟨by simp[yV],λj=>?_⟩;unfold yV;grind
def Rz {ss:List kS}{i:Nat}(h:i<ss.length):∃s,ss[i]? =some s/\s.nw=Od ss i/\s.od=Oe ss i:=by
 refine⟨ss[i],List.getElem?_eq_getElem h,?_,?_⟩
 ·simp[Od,h]
 ·simp[Oe,h]
section
variable {F:Nat->Prop}{W w:World}{L:List As}{p:Nat}{sa:Option Addr}{sn sc:Nat}{ss:List kS}{kv mv:Value}{nw od:Int}{Q:World->Prop}
def afY {sb:Nat}{x a b:Int}{pre post:List Nat}{y:Nat}(hs:∀i∈pre++y::post,i<sn)(hnd:(pre++y::post).Nodup)(h1:x6 ss (-1) pre (Jz post (-1)))(h2:x6 ss y post (-1))
  (Mu:od=CW (pre++y::post) (-1))
  (s:Sep F W w (av sb 334 [ae a,ae b,ae (CW pre (-1)),ae (Jz post (-1))]::av p 182 [kv,.slice sa sn sc,mv,ae nw,ae od]::ak sa sn sc 334 4 (flat uT ss)::L))
  (h:∀ss' w',BZ ss ss'->x6 ss' (-1) (pre++post) (-1)->Sep F W w' (av p 182 [kv,.slice sa sn sc,mv,ae nw,ae (CW (pre++post) (-1))]::ak sa sn sc 334 4 (flat uT ss')::L)->Q w'):
  xK Q (sZ p) (aZ sb) w:=by
 have hl:=rJ s (i:=2) rfl;rw[iX lE]at hl;rw[aeI]at Mu;cases post with
 |nil=>
  apply lI s 0 rfl;apply lI s 0 rfl;apply ah;refine ax s (i:=1) rfl rfl rfl λw s=>?_;refine h ss _ BZ.refl ?_ ?_
  ·rw[List.append_nil];exact h1
  ·rw[List.append_nil];exact ai s
 |cons z post=>
  have hz:=hs z (by simp);apply lI s 0 rfl;rw[show((Jz (z::post) (-1):Int)==-1)=false by rw[beq_eq_false_iff_ne];show(z:Int)≠-1;omega,cond_false];apply ah;have s:=ay s;apply lS s 1 rfl;apply lI s 0 rfl;apply lI s 0 rfl;obtain⟨x,hx,NJ,Lv⟩:=Rz (ss:=ss) (i:=z) (by omega);refine C7 s (i:=2) rfl rfl hz λg o e=>?_;subst e;refine dW (i:=2) (x':={x with nw:=CW pre (-1)}) lE s rfl hx (eo _ _ _ _ _) (by decide) rfl rfl λw s=>?_;rw[ai8 hx]at s;refine h (uS ss z (CW pre (-1))) _ IZ ?_ ?_
  ·rw[aeJ];have hn2:=(List.nodup_append.1 hnd).2.1;rw[List.nodup_cons]at hn2;refine⟨(XP (by omega) (λhm=>?_) h1).2,afW (by omega) hn2.2 h2⟩;grind
  ·rw[aeI];have:od=CW (z::post) (CW pre (-1)):=Mu;rw[<-this];exact ai s
def WY {pre post:List Nat}{y:Nat}(hs:∀i∈pre++y::post,i<sn)(hnd:(pre++y::post).Nodup)(Kk:x6 ss (-1) (pre++y::post) (-1))(T9:nw=Jz (pre++y::post) (-1))(Mu:od=CW (pre++y::post) (-1))
  (s:Sep F W w (av p 182 [kv,.slice sa sn sc,mv,ae nw,ae od]::ak sa sn sc 334 4 (flat uT ss)::L))
  (h:∀ss' w',BZ ss ss'->x6 ss' (-1) (pre++post) (-1)->Sep F W w' (av p 182 [kv,.slice sa sn sc,mv,ae (Jz (pre++post) (-1)),ae (CW (pre++post) (-1))]::ak sa sn sc 334 4 (flat uT ss')::L)->Q w'):
  uE (sZ p) y w Q:=by
 apply SV;have hl:=rJ s (i:=1) rfl;rw[iX lE]at hl;have hy:=hs y (by simp);obtain⟨x,hx,NJ,Lv⟩:=Rz (ss:=ss) (i:=y) (by omega);rw[aeJ]at Kk;obtain⟨h1,h2,h3,h4⟩:=Kk;have h1:=h1;rw[h2]at NJ;rw[h3]at Lv;apply ah;apply lS s 0 rfl;refine C7 s (i:=1) rfl rfl hy λg o e=>?_;subst e;apply eK (i:=1) lE s rfl hx (eo _ _ _ _ _) rfl;apply eK (i:=1) lE s rfl hx (eo _ _ _ _ _) rfl;apply eK (i:=1) lE s rfl hx (eo _ _ _ _ _) rfl;apply eK (i:=1) lE s rfl hx (eo _ _ _ _ _) rfl;rw[NJ,Lv];refine aV s λsb w s=>?_;refine sT s 0 rfl λw s=>?_;refine sT s 0 rfl λw s=>?_;refine sT s 0 rfl λw s=>?_;refine ax s (i:=0) rfl rfl rfl λw s=>?_;apply lI s 0 rfl;rcases List.eq_nil_or_concat pre with rfl|⟨pre',u,rfl⟩
 ·apply lI s 0 rfl;apply ah;refine ax s (i:=1) rfl rfl rfl λw s=>?_;exact afY (x:=0) hs hnd trivial h4 Mu s λss' w' k1 k2 s=>h ss' w' k1 k2 s
 ·simp only[List.concat_eq_append]at*;have hu:=hs u (by simp);rw[aaM]at s⊢;rw[show((u:Int)==-1)=false by rw[beq_eq_false_iff_ne];omega,cond_false];apply ah;have s:=ay s;apply lS s 1 rfl;apply lI s 0 rfl;apply lI s 0 rfl;obtain⟨z,hz,hz1,hz2⟩:=Rz (ss:=ss) (i:=u) (by omega);refine C7 s (i:=2) rfl rfl hu λg' o' e=>?_;cases e;refine dW (i:=2) (x':={z with od:=Jz post (-1)}) lE s rfl hz (eo _ _ _ _ _) (by decide) rfl rfl λw s=>?_;rw[ao1 hz]at s;have ayY:=(List.nodup_append.1 hnd).1;have ayZ:=(List.nodup_append.1 hnd).2;refine afY (x:=0) hs hnd (aoZ (by omega) ayY h1) ((XP (by omega) (λhm=>ayZ.2 u (by simp) u (by simp[hm]) rfl) h4).1) Mu (by rw[aaM];exact s) λss' w' k1 k2 s=>h ss' w' (Zf.trans k1) k2 ?_;have e:Jz (pre'++[u]++post) (-1)=nw:=by rw[T9,aeH,aeH (pre'++[u])];cases pre'<;>rfl
  rw[e];exact s
def aln {y:Nat}(s:Sep F W w (av p 182 [kv,.slice sa sn sc,mv,ae nw,ae od]::ak sa sn sc 334 4 (flat uT ss)::L))
  (h:∀w',Sep F W w' (av p 182 [kv,.slice sa sn sc,mv,ae y,ae od]::ak sa sn sc 334 4 (flat uT ss)::L)->Q w'):AK Q (sZ p) y w:=by
 apply ah;refine sT s 0 rfl λw s=>?_;grind
def amr {xs:List Nat}{y:Nat}(hy:y<sn)(hs:∀i∈xs,i<sn)(hnd:(y::xs).Nodup)(Kk:x6 ss (-1) xs (-1))(T9:nw=Jz xs (-1))(Mu:od=CW xs (-1))
  (s:Sep F W w (av p 182 [kv,.slice sa sn sc,mv,ae nw,ae od]::ak sa sn sc 334 4 (flat uT ss)::L))
  (h:∀ss' w',BZ ss ss'->x6 ss' (-1) (y::xs) (-1)->Sep F W w' (av p 182 [kv,.slice sa sn sc,mv,ae (Jz (y::xs) (-1)),ae (CW (y::xs) (-1))]::ak sa sn sc 334 4 (flat uT ss')::L)->Q w'):
  xC (sZ p) y w Q:=by
 apply Wn;have hl:=rJ s (i:=1) rfl;rw[iX lE]at hl;obtain⟨x,hx,NJ,Lv⟩:=Rz (ss:=ss) (i:=y) (by omega);rw[List.nodup_cons]at hnd;have s:=ay s;apply ah;apply lS s 0 rfl;apply ah;apply lS s 0 rfl;apply ah;apply lI s 0 rfl;refine C7 s (i:=1) rfl rfl hy λg o e=>?_;subst e;refine dW (i:=1) (x':={x with nw:=-1}) lE s rfl hx (eo _ _ _ _ _) (by decide) rfl rfl λw s=>?_;refine⟨by omega,by omega,ah ?_⟩;have hx':(ss.set y {x with nw:=-1})[y]? =some {x with nw:=-1}:=List.getElem?_set_self (by omega);refine dW (i:=1) (x':={x with nw:=-1,od:=nw}) lE s rfl hx' (eo _ _ _ _ _) (by decide) rfl rfl λw s=>?_;rw[ai8 hx]at hx' s;rw[show({x with nw:=-1,od:=nw}:kS)={({x with nw:=-1}:kS)with od:=nw}from rfl,ao1 hx']at s;have hl2:(uS ss y (-1)).length=ss.length:=IZ.1;have avF:x6 (yV (uS ss y (-1)) y nw) (-1) xs (-1):=(XP (by omega) hnd.1 (XP (by omega) hnd.1 Kk).2).1;have n2:Od (yV (uS ss y (-1)) y nw) y=-1:=by rw[Oh,JA (by omega),if_pos rfl]
 have o2:Oe (yV (uS ss y (-1)) y nw) y=nw:=by rw[Og (by omega),if_pos rfl]
 have k2:BZ ss (yV (uS ss y (-1)) y nw):=IZ.trans Zf;generalize yV (uS ss y (-1)) y nw=ss2 at s avF n2 o2 k2;have hl3:=k2.1;apply ah;apply lI s 0 rfl;cases xs with
 |nil=>
  have e:nw=-1:=T9;subst e;rw[show((-1:Int)==-1)=true from rfl,cond_true];apply ah;refine ax s (i:=0) rfl rfl rfl λw s=>?_;refine aln s λw s=>h _ _ k2 ⟨n2,o2,trivial⟩ s
 |cons z xs=>
  have e:nw=(z:Int):=T9;subst e;have hz:=hs z (by simp);rw[show((z:Int)==-1)=false by rw[beq_eq_false_iff_ne];omega,cond_false];have s:=ay s;apply ah;apply lS s 0 rfl;apply ah;apply lI s 0 rfl;obtain⟨u,hu,_,_⟩:=Rz (ss:=ss2) (i:=z) (by omega);refine⟨by omega,by omega,ah ?_⟩;refine dW (i:=1) (x':={u with nw:=(y:Int)}) lE s rfl hu (eo _ _ _ _ _) (by decide) rfl rfl λw s=>?_;rw[ai8 hu]at s;have hne:y≠z:=λe=>hnd.1 (by simp[e]);refine aln s λw s=>h (uS ss2 z (y:Int)) _ (k2.trans IZ) ⟨?_,?_,?_⟩ ?_
  ·rw[JA (by omega),if_neg hne];exact n2
  ·rw[Of];exact o2
  ·exact afW (by omega) hnd.2 avF
  ·have e2:CW (y::z::xs) (-1)=od:=by rw[Mu];rfl
   rw[e2];exact s
end
end Go.Proofs.YtmegplnmiepfbaaGreatDoor.S.Lr
namespace Go.Proofs.YtmegplnmiepfbaaGreatDoor.S.Lr
open Go.Sx
open Go.Maps (Keyed)
open Go.WideMaps (ArrKey keyOf_pair)
def ao2:ArrKey P 253 3 2:=⟨by kernel_rfl,by kernel_rfl,by kernel_rfl,by kernel_rfl⟩
def kp:Keyed P 253:=Keyed.of_law ao2.law
def arf:P.underlying 180=some (.map 253 3):=by kernel_rfl
set_option maxRecDepth 100000 in
theorem asL (w:World):(zeroValue 3).run P w=.ok (ae 0) w:=rfl
def arh:∃m,P.types.size=m+1:=⟨P.types.size-1,by have h:0<P.types.size:=of_decide_eq_true (by kernel_rfl);omega⟩
def Zg (k:Int×Int):Prop:=(Lit.int .i64 k.1).wf=true/\(Lit.int .i64 k.2).wf=true
def aaP (k:Int×Int):Value:=.agg #[ae k.1,ae k.2]
def Mv {a b:Int×Int}(h:aaP a=aaP b):a=b:=by obtain⟨a1,a2⟩:=a;simp[aaP]at h;rw[h.1,h.2]
def XS {k:Int×Int}(h:Zg k):∃l,keyOf P 253 (aaP k)=some l:=⟨_,keyOf_pair ao2 (by kernel_rfl) arh h.1 h.2⟩
attribute [local irreducible] af cD bz bg aA cy b_ St Bx Al App cK cE cB bV aN bG aq bT av ak aW mapA
def T_ (p:(Int×Int)×Nat):Value×Value:=(aaP p.1,ae p.2)
structure aeK where
 sa:Option Addr
 sn:Nat
 sc:Nat
 mb:Nat
 ss:List kS
 m:List (Value×Value)
 nw:Int
 od:Int
structure ams (k:Int) (l:KS) (r:aeK):Prop where
 hk:1<=k
 good:Good k l
 sn:r.sn=l.length
 nw:r.nw=Jz (l.map (·.2)) (-1)
 od:r.od=CW (l.map (·.2)) (-1)
 seg:x6 r.ss (-1) (l.map (·.2)) (-1)
 key:∀p∈l,r.ss[p.2]?.map (λs=>(s.a,s.b))=some p.1
 perm:r.m.Perm (l.map T_)
 wf:∀p∈l,Zg p.1
noncomputable def ahu (p:Nat)(k:Int)(r:aeK):List As:=[av p 182 [ae k,.slice r.sa r.sn r.sc,.map (some r.mb),ae r.nw,ae r.od],ak r.sa r.sn r.sc 334 4 (flat uT r.ss),mapA P 253 r.mb r.m]
noncomputable def IA (p:Nat)(k:Int)(l:KS)(r:aeK):As:=aW (ams k l r) (ahu p k r)
section
variable {F:Nat->Prop}{W w:World}{L:List As}{p:Nat}{k:Int}{l:KS}{r:aeK}
def ai9 (s:Sep F W w (IA p k l r::L)):ams k l r/\Sep F W w (ahu p k r++L):=gR s
def afZ (s:Sep F W w (ahu p k r++L))(h:ams k l r):Sep F W w (IA p k l r::L):=dD s h
def Zh {Q:World->Prop}{v1 v2 v3 v4:Value}(hk:1<=k)(s:Sep F W w (av p 182 [ae k,v1,v2,v3,v4]::L))(h:∀r w',Sep F W w' (IA p k [] r::L)->Q w'):vX (sZ p) w Q:=by apply UJ;refine ah6 s P 253 180 λmb w s=>?_;apply ah;refine sT s 1 rfl λw s=>?_;apply ah;refine sT s 1 rfl λw s=>?_;apply ah;refine sT s 1 rfl λw s=>?_;apply ah;refine ax s (i:=1) rfl rfl rfl λw s=>?_;have s:=cu (bH s 334 4) (List.Perm.trans (List.Perm.cons _ (List.Perm.swap ..)) (List.Perm.trans (List.Perm.swap ..) (List.Perm.refl _)));exact h ⟨none,0,0,mb,[],[],-1,-1⟩ w (afZ s ⟨hk,Mt (by omega),rfl,rfl,rfl,trivial,(λp hp=>by cases hp),List.Perm.nil,(λp hp=>by cases hp)⟩)
def ao3 {Q:Option Addr->World->Prop}(s:Sep F W w L)(hno:k<1->Q none w)(h:1<=k->∀p r w',Sep F W w' (IA p k [] r::L)->Q (sZ p) w'):JS k w Q:=by
 apply agM;by_cases hk:k<1
 ·grind
 ·rw[bj hk];refine aQ s λp w s=>?_;exact Zh (by omega) s λr w s=>h (by omega) p r w s
def look {K:Value->World->Prop}{key:Int×Int}(s:Sep F W w (ahu p k r++L))(hI:ams k l r)(hkey:Zg key)(h0:l.find? (λp=>decide (p.1=key))=none->K (.tuple #[ae 0,.bool false]) w)
  (h1:∀q,l.find? (λp=>decide (p.1=key))=some q->K (.tuple #[ae q.2,.bool true]) w):aN P (Instr.lookup 180 (.map (some r.mb)) (.agg #[ae key.1,ae key.2]) true) w K:=by
 refine afx kp arf (asL w) s (i:=2) rfl (XS hkey) (λh=>?_) (λj v hj=>?_)
 ·refine h0 (List.find?_eq_none.2 λq hq=>?_);have:=h (T_ q) (hI.perm.mem_iff.2 (List.mem_map.2 ⟨q,hq,rfl⟩));simp[decide_eq_true_eq];exact λe=>this (by rw[<-e];rfl)
 ·have hm:=hI.perm.mem_iff.1 (List.mem_of_getElem? hj);obtain⟨q,hq,e⟩:=List.mem_map.1 hm;have e1:=congrArg Prod.fst e;have e2:=congrArg Prod.snd e;have e1:=Mv e1;subst e1 e2;exact h1 q (Ze hI.good.F7 hq)
def ari (k:Int×Int):List Value:=[ae k.1,ae k.2]
end
end Go.Proofs.YtmegplnmiepfbaaGreatDoor.S.Lr
namespace Go.Proofs.YtmegplnmiepfbaaGreatDoor.S.Lr
open Go.Sx
open Go.Maps (Keyed)
attribute [local irreducible] af cD bz bg aA cy b_ St Bx Al App cK cE cB bV aN bG aq bT av ak aW mapA
def Tp {ss ss':List kS}(h:BZ ss ss'){l:KS}(hk:∀p∈l,ss[p.2]?.map (λs=>(s.a,s.b))=some p.1):∀p∈l,ss'[p.2]?.map (λs=>(s.a,s.b))=some p.1:=λp hp=>(h.2 p.2).trans (hk p hp)
def arj {ss:List kS}{x:kS}{p n:Int}{xs:List Nat}(h:∀i∈xs,i<ss.length)(s:x6 ss p xs n):x6 (ss++[x]) p xs n:=by refine Iz (λi hi=>?_) s;have:=h i hi;simp[Od,Oe,List.getElem?_append_left this]
def atW {ss:List kS}{i:Nat}{x:kS}{a b:Int}{p n:Int}{xs:List Nat}(hx:ss[i]? =some x)(s:x6 ss p xs n):x6 (ss.set i {x with a:=a,b:=b}) p xs n:=by refine Iz (λj hj=>?_) s;unfold Od Oe;grind
def atX {m:List (Value×Value)}{ys:KS}{q:(Int×Int)×Nat}{j:Nat}{v:Value}(hm:m.Perm ((ys++[q]).map T_))(hj:m[j]? =some (aaP q.1,v))(hnd:((ys++[q]).map (·.1)).Nodup):(m.eraseIdx j).Perm (ys.map T_):=by
 have hmem:=hm.mem_iff.1 (List.mem_of_getElem? hj);obtain⟨q',I_,e⟩:=List.mem_map.1 hmem;have e1:=Mv (congrArg Prod.fst e);have e2:=To hnd I_ (by simp) e1;subst e2;obtain⟨hjl,hje⟩:=List.getElem?_eq_some_iff.1 hj;have h1:m.Perm (T_ q'::m.eraseIdx j):=by
  rw[e,<-hje];have e3:m=m.take j++m[j]::m.drop (j+1):=by rw[List.getElem_cons_drop,List.take_append_drop]
  rw[List.eraseIdx_eq_take_drop_succ];exact(List.Perm.of_eq e3).trans List.perm_middle
 rw[List.map_append,List.map_singleton]at hm;exact List.Perm.cons_inv (h1.symm.trans (hm.trans (List.perm_append_singleton _ _)))
section
variable {F:Nat->Prop}{W w:World}{L:List As}{p:Nat}{k:Int}{l:KS}
def aeL {Q:Int->Bool->Bool->World->Prop}{kb:Nat}{key:Int×Int}{slot:Nat}{had out:Bool}{rest:KS}{sa:Option Addr}{sn sc mb:Nat}{ss:List kS}{m:List (Value×Value)}{nw od:Int}
  (hk:1<=k)(hg:Good k ((key,slot)::rest))(Mh:sn=rest.length+1)(Kk:x6 ss (-1) (rest.map (·.2)) (-1))(T9:nw=Jz (rest.map (·.2)) (-1))(Mu:od=CW (rest.map (·.2)) (-1))
  (hkeys:∀q∈(key,slot)::rest,ss[q.2]?.map (λs=>(s.a,s.b))=some q.1)(hm:m.Perm (((key,slot)::rest).map T_)\/m.Perm (rest.map T_))(hwf:∀q∈(key,slot)::rest,Zg q.1)
  (s:Sep F W w (av kb 253 (ari key)::av p 182 [ae k,.slice sa sn sc,.map (some mb),ae nw,ae od]::ak sa sn sc 334 4 (flat uT ss)::mapA P 253 mb m::L))
  (h:∀r' w',Sep F W w' (IA p k ((key,slot)::rest) r'::L)->Q slot had out w'):ox Q (sZ p) slot had out (aZ kb) w:=by
 have s:=ay s;apply ah;apply lM s 1 rfl;apply lI s 0 rfl;apply lI s 0 rfl;have hlen:((key,slot)::rest).length=sn:=by rw[Mh];rfl
 have fin:∀(m':List (Value×Value)) (w:World),m'.Perm (((key,slot)::rest).map T_)->Sep F W w (av kb 253 (ari key)::av p 182 [ae k,.slice sa sn sc,.map (some mb),ae nw,ae od]::ak sa sn sc 334 4 (flat uT ss)::mapA P 253 mb m'::L)->
   xC (sZ p) slot w λay0=>Q slot had out ay0:=by
  intro m' w hm' s;have hnd:=hg.nd;refine amr (by have:=hg.lt (key,slot) (by simp);omega) (λi hi=>?_) hnd Kk T9 Mu (ai s) λss' w hK hS s=>?_
  ·obtain⟨q,hq,rfl⟩:=List.mem_map.1 hi;have:=hg.lt q (by simp[hq]);omega
  ·exact h ⟨sa,sn,sc,mb,ss',m',_,_⟩ w (afZ s ⟨hk,hg,hlen.symm,rfl,rfl,hS,Tp hK hkeys,hm',hwf⟩)
 refine Y2 kp arf s (i:=3) rfl (XS (hwf (key,slot) (by simp))) (λhabs w s=>?_) (λj v0 hj w s=>?_)
 ·rcases hm with hm|hm
  ·exact(habs (T_ (key,slot)) (hm.mem_iff.2 (by simp)) rfl).elim
  ·refine fin _ w ?_ s;exact(List.perm_append_singleton _ _).trans (List.Perm.cons _ hm)
 ·rcases hm with hm|hm
  ·have hmem:=hm.mem_iff.1 (List.mem_of_getElem? hj);obtain⟨q,hq,e⟩:=List.mem_map.1 hmem;have e1:=Mv (congrArg Prod.fst e);have e2:=To hg.F7 hq (q:=(key,slot)) (by simp) e1;subst e2;have e3:m.set j (.agg #[ae key.1,ae key.2],ae slot)=m:=by
    have:m[j]? =some (.agg #[ae key.1,ae key.2],ae slot):=by rw[hj,<-e];rfl
    exact rX this
   grind
  ·have hmem:=hm.mem_iff.1 (List.mem_of_getElem? hj);obtain⟨q,hq,e⟩:=List.mem_map.1 hmem;have e1:=Mv (congrArg Prod.fst e);have:=hg.F7;simp only[List.map_cons,List.nodup_cons]at this;exact(this.1 (List.mem_map.2 ⟨q,hq,e1⟩)).elim
attribute [local irreducible] ox in
theorem ao4 {r:aeK}{key:Int×Int}{Q:Int->Bool->Bool->World->Prop}(s:Sep F W w (IA p k l r::L))(hkey:Zg key)(Oc:l.length<=1000000)
  (h:∀r' w',Sep F W w' (IA p k (kT k l key).2 r'::L)->Q (kT k l key).1.1 (kT k l key).1.2.1 (kT k l key).1.2.2 w'):D1 (sZ p) key.1 key.2 w Q:=by
 apply YB;obtain⟨hI,s⟩:=ai9 s;have uU:=aaO (key:=key) hI.hk hI.good;have hwf':∀q∈(kT k l key).2,Zg q.1:=by
  intro q hq;unfold kT at hq;cases hf:l.find? (λp=>decide (p.1=key))with
  |some q0=>
   rw[hf]at hq;rcases List.mem_cons.1 hq with rfl|hq
   ·exact hkey
   ·exact hI.wf q (List.mem_filter.1 hq).1
  |none=>
   rw[hf]at hq;simp only at hq;split at hq
   ·rcases List.mem_cons.1 hq with rfl|hq
    ·exact hkey
    ·exact hI.wf q hq
   ·split at hq
    ·rcases List.mem_cons.1 hq with rfl|hq
     ·exact hkey
     ·exact hI.wf q (List.dropLast_subset l hq)
    ·exact hI.wf q hq
 unfold kT at h uU hwf';have Cd:=rJ s (i:=1) rfl;rw[iX lE]at Cd;have Mh:=hI.sn;have aeM:∀i∈l.map (·.2),i<r.sn:=λi hi=>by obtain⟨q,hq,rfl⟩:=List.mem_map.1 hi;have:=hI.good.lt q hq;omega
 refine aV s λkb w s=>?_;refine sT s 0 rfl λw s=>?_;refine ax s (i:=0) rfl rfl rfl λw s=>?_;have s:=s;have s:=ay s;apply ah;apply lM s 1 rfl;apply lI s 0 rfl;apply lI s 0 rfl;have s':=cu s (List.perm_middle).symm;refine look s' hI hkey (λhf=>?_) (λq hf=>?_)
 ·simp only[dT,dJ,dI,dB,kU,cond_false,cond_true,if_pos,show Nat.beq (I7 .i64) (I7 .i64)=true from rfl];rw[hf]at h uU hwf';have s:=ay s;apply ah;apply lS s 1 rfl;apply ah;apply lI s 1 rfl;by_cases hroom:(l.length:Int)<k
  ·rw[if_pos hroom]at h uU hwf';rw[bM];apply ah;apply lS s 1 rfl;have s:=ay s;apply ah;apply lS s 1 rfl;apply lI s 0 rfl;apply lI s 0 rfl;refine aQ s λzb w s=>?_;refine⟨cm s 2 rfl,?_⟩;have src:Src w (sZ zb) 1 4 (uT ⟨key.1,key.2,0,0⟩):=⟨rfl,ao0 _,λj u hj=>by rw[cw,Nat.zero_add];exact cO s (i:=0) rfl rfl hj⟩;refine iy dU s (i:=3) (bytes:=32) rfl rfl rfl rfl rfl rfl (by decide) rfl src (by simp[maxLen];omega) (by omega) (λe=>by cases e) λa1 c1 w s=>?_;have e:flat uT r.ss++uT ⟨key.1,key.2,0,0⟩=flat uT (r.ss++[⟨key.1,key.2,0,0⟩]):=by rw[f_];simp[flat]
   rw[e]at s;apply ah;refine ax s (i:=2) rfl rfl rfl λw s=>?_;rw[Mh]at s⊢;have s:=ai s;refine aeL hI.hk uU rfl (arj (λi hi=>by have:=aeM i hi;omega) hI.seg) hI.nw hI.od (λq hq=>?_) (.inr hI.perm) hwf' s h;rcases List.mem_cons.1 hq with rfl|hq
   ·rw[List.getElem?_append_right (by omega),show l.length-r.ss.length=0 by omega];rfl
   ·have:=hI.good.lt q hq;rw[List.getElem?_append_left (by omega)];exact hI.key q hq
  ·rw[if_neg hroom]at h uU hwf';rw[bj];have hne:l≠[]:=λe=>by rw[e]at hroom;have:=hI.hk;simp at hroom;omega
   have sx:=s;obtain⟨ys,q,rfl⟩:∃ys q,l=ys++[q]:=⟨l.dropLast,l.getLast hne,(List.dropLast_concat_getLast hne).symm⟩;have s:=sx;rw[List.getLast?_concat,List.dropLast_concat]at h uU hwf';have ay2:r.od=(q.2:Int):=by rw[hI.od,List.map_append];exact aaM _ _ _
   apply ah;apply lI s 1 rfl;rw[ay2];have s:=cu s (List.Perm.trans (List.Perm.swap ..) (List.Perm.cons _ (List.Perm.swap ..)));have hnd:=hI.good.nd;have Kk:=hI.seg;have T9:=hI.nw;have Mu:=hI.od;rw[List.map_append,List.map_singleton]at hnd Kk T9 Mu aeM;refine WY aeM hnd Kk T9 Mu s λss' w hK hS s=>?_;rw[List.append_nil]at s hS;have hl':ss'.length=r.ss.length:=hK.1;have hkeys:=Tp hK hI.key;have s:=ay s;apply ah;apply lM s 0 rfl;apply ah;apply lS s 0 rfl;have avH:=aeM q.2 (by simp);have hkq:=hkeys q (by simp);have hqw:=hI.wf q (by simp);refine(aG s (i:=1) rfl lE (by decide)).El rfl avH λpp x hx hc=>?_;rw[hx]at hkq;have hxa:x.a=q.1.1:=congrArg Prod.fst (Option.some.inj hkq);have hxb:x.b=q.1.2:=congrArg Prod.snd (Option.some.inj hkq);apply aL (hc 0 _ rfl);apply aL (hc 1 _ rfl);rw[hxa,hxb];have go:∀(m':List (Value×Value)) (w:World),m'.Perm (ys.map T_)->Sep F W w (av p 182 [ae k,.slice r.sa r.sn r.sc,.map (some r.mb),ae (Jz (ys.map (·.2)) (-1)),ae (CW (ys.map (·.2)) (-1))]::ak r.sa r.sn r.sc 334 4 (flat uT ss')::av kb 253 (ari key)::mapA P 253 r.mb m'::L)->
     wA (some (aZ p)) λp44=>aA (p44.add 1) w.drew λaw5 aw6 aBT=>af .i64 ((aZ kb).add 0) w.drew λaw7=>af .i64 ((aZ kb).add 1) w.drew λaw8=>aJ (q.2:Int) aw6<|wA aw5 λp_1=>
      St ((p_1.add ((q.2:Int).toNat*4)).add 0) (ae aw7) w.drew λaw9=>St ((p_1.add ((q.2:Int).toNat*4)).add 1) (ae aw8) aw9 λaw_=>ox Q (sZ p) q.2 false true (aZ kb) aw_:=by
    intro m' w hm' s;have s:=ay s;apply ah;apply lS s 0 rfl;apply lI s 2 rfl;apply lI s 2 rfl;refine C7 s (i:=1) rfl rfl avH λg o e=>?_;rw[e]at s;refine dW (i:=1) (x':={x with a:=key.1}) lE s rfl hx (eo _ _ _ _ _) (by decide) rfl rfl λw s=>?_;have hx':(ss'.set q.2 {x with a:=key.1})[q.2]? =some {x with a:=key.1}:=List.getElem?_set_self (by omega);refine dW (i:=1) (x':={x with a:=key.1,b:=key.2}) lE s rfl hx' (eo _ _ _ _ _) (by decide) rfl rfl λw s=>?_;simp only[List.set_cons_zero,List.set_cons_succ]at s;rw[List.set_set,<-e]at s;have s:=cu s (List.Perm.trans (List.Perm.cons _ (List.Perm.swap ..)) (List.Perm.swap ..));have ark:r.sn=ys.length+1:=by rw[Mh];simp
    refine aeL hI.hk uU ark (atW hx hS) rfl rfl (λz hz=>?_) (.inr hm') hwf' s h;rw[List.getElem?_set];rcases List.mem_cons.1 hz with rfl|hz
    ·simp only;rw[if_pos trivial,A5];rfl
    ·have hne:¬q.2=z.2:=λe=>by rw[List.nodup_append]at hnd;exact hnd.2.2 z.2 (List.mem_map.2 ⟨z,hz,rfl⟩) q.2 (by simp) e.symm
     rw[if_neg hne];exact hkeys z (by simp[hz])
   have ay3:=hI.good.F7;refine Y3 kp arf s (i:=3) rfl (XS hqw) (λhabs w s=>?_) (λj v0 hj w s=>?_)
   ·exact(habs (T_ q) (hI.perm.mem_iff.2 (List.mem_map.2 ⟨q,by simp,rfl⟩)) rfl).elim
   ·exact go _ w (atX hI.perm hj ay3) s
 ·have sx:=s;obtain⟨rfl,hq⟩:=Oi hf;have s:=sx;rw[hf]at h uU hwf';obtain⟨pre,post,e1,e2⟩:=aaN hI.good.F7 hq;rw[e2]at h uU hwf';have hnd:=hI.good.nd;have Kk:=hI.seg;have T9:=hI.nw;have Mu:=hI.od;rw[e1,List.map_append,List.map_cons]at hnd Kk T9 Mu aeM;have s:=cu s (List.Perm.trans (List.Perm.swap ..) (List.Perm.cons _ (List.Perm.swap ..)));refine WY aeM hnd Kk T9 Mu s λss' w hK hS s=>?_;rw[<-List.map_append]at s hS;have s:=cu s (List.Perm.trans (List.Perm.cons _ (List.Perm.swap ..)) (List.Perm.swap ..));have Pn:List.Perm ((q.1,q.2)::(pre++post)) l:=by rw[e1];exact List.perm_middle.symm
  have ark:r.sn=(pre++post).length+1:=by rw[Mh,<-Pn.length_eq];rfl
  refine aeL hI.hk uU ark hS rfl rfl (λz hz=>?_) (.inl (hI.perm.trans (Pn.map T_).symm)) hwf' s h;exact Tp hK hI.key z (Pn.mem_iff.1 hz)
end
end Go.Proofs.YtmegplnmiepfbaaGreatDoor.S.Lr
namespace Go.Proofs.YtmegplnmiepfbaaGreatDoor.S
open Go.Sx
open Go.RowKit Go.ChangeMaps Go.MapKept
open Go.Maps (Keyed)
structure aeN (k:TypeId) (β:Type) where
 enc:β->Value
 ok:β->Prop
 inj:∀a b,enc a=enc b->a=b
 key:∀b,ok b->∃l,keyOf P k (enc b)=some l
 keyed:Keyed P k
def avJ:P.underlying 3=some (.int .i64):=by kernel_rfl
def iK (n:Int):Prop:=-9223372036854775808<=n/\n<9223372036854775808
def iK.wf {n:Int}(h:iK n):(Lit.int .i64 n).wf=true:=by unfold iK at h;simp[Lit.wf];exact⟨h.1,by omega⟩
noncomputable def fA:aeN 3 Int:=⟨λn=>ae n,iK,λa b h=>by cases h;rfl,λb h=>⟨_,Go.Maps.keyOf_int_mk avJ h.wf⟩,Go.Maps.int_keyed avJ⟩
noncomputable def K_:aeN 253 (Int×Int):=⟨Lr.aaP,λp=>iK p.1/\iK p.2,λa b h=>Lr.Mv h,λb h=>Lr.XS ⟨h.1.wf,h.2.wf⟩,Lr.kp⟩
section
variable {k:TypeId}{α β:Type}{K:aeN k β}{v:α->Value}{ms:List (β×α)}
noncomputable def fR (K:aeN k β)(v:α->Value)(b:Nat)(ms:List (β×α)):As:=mapA P k b (ms.map λp=>(K.enc p.1,v p.2))
def o7 (ms:List (β×α)):Prop:=(ms.map (·.1)).Nodup
def alo (h:o7 ms){i j:Nat}{p q:β×α}(hi:ms[i]? =some p)(hj:ms[j]? =some q)(e:p.1=q.1):i=j:=by
 have h1:(ms.map (·.1))[i]? =some p.1:=by grind
 have Jc:=(List.getElem?_eq_some_iff.1 h1).1;exact(List.getElem?_inj Jc h).1 (by grind)
def aaQ {F:Nat->Prop}{W w:World}{L:List As}{Q:Option Nat->World->Prop}(s:Sep F W w L)(t:TypeId)(K:aeN k β)(v:α->Value)(h:∀b w',Sep F W w' (fR K v b ([]:List (β×α))::L)->Q (some b) w'):cB P t none w Q:=ah6 s P k t h
variable [DecidableEq β]
def fE (ms:List (β×α))(x:β):Option α:=(ms.find? λp=>decide (p.1=x)).map (·.2)
def Tq {x:β}:fE ms x=none↔∀p∈ms,p.1≠x:=by unfold fE;simp_all
def Mw (h:o7 ms){x:β}{a:α}:fE ms x=some a↔(x,a)∈ms:=by
 unfold fE;induction ms with
 |nil=>simp
 |cons p ms ih=>
  unfold o7 at h ih;grind
def ai_ (h:o7 ms){x:β}{a:α}{j:Nat}(hj:ms[j]? =some (x,a)):fE ms x=some a:=(Mw h).2 (List.mem_of_getElem? hj)
def arl (h:o7 ms){x:β}{a:α}(hn:fE ms x=none):o7 (ms++[(x,a)])/\∀y,fE (ms++[(x,a)]) y=if y=x then some a else fE ms y:=by
 have hx:=Tq.1 hn;have hk:o7 (ms++[(x,a)]):=by rw[o7,List.map_append,List.nodup_append];refine⟨h,by simp,λy hy z hz=>?_⟩;grind
 refine⟨hk,λy=>?_⟩;unfold fE;grind
def atY (h:o7 ms){x:β}{a a0:α}{j:Nat}(hj:ms[j]? =some (x,a0)):o7 (ms.set j (x,a))/\∀y,fE (ms.set j (x,a)) y=if y=x then some a else fE ms y:=by
 have hk:o7 (ms.set j (x,a)):=by
  rw[o7,List.map_set];have:(ms.map (·.1)).set j x=ms.map (·.1):=by apply List.ext_getElem?;grind
  rw[this];exact h
 refine⟨hk,λy=>?_⟩;apply Option.ext;intro b;rw[Mw hk];by_cases e:y=x
 ·subst e;rw[if_pos rfl];constructor
  ·intro hm;obtain⟨i,hi⟩:=List.mem_iff_getElem?.1 hm;have hj':(ms.set j (y,a))[j]? =some (y,a):=by grind
   have:=alo hk hi hj' rfl;grind
  ·intro hb;cases hb;exact List.mem_of_getElem? (i:=j) (by grind)
 ·rw[if_neg e,Mw h];constructor
  ·grind
  ·intro hm;obtain⟨i,hi⟩:=List.mem_iff_getElem?.1 hm;apply List.mem_of_getElem? (i:=i);grind
def atZ (h:o7 ms){x:β}{a0:α}{j:Nat}(hj:ms[j]? =some (x,a0)):o7 (ms.eraseIdx j)/\∀y,fE (ms.eraseIdx j) y=if y=x then none else fE ms y:=by
 have hsub:=List.eraseIdx_sublist ms j;have hk:=List.Nodup.sublist (hsub.map _) h;refine⟨hk,λy=>?_⟩;apply Option.ext;intro b;rw[Mw hk];by_cases e:y=x
 ·subst e;constructor
  ·intro hm;rw[List.mem_eraseIdx_iff_getElem?]at hm;obtain⟨i,hi,hi'⟩:=hm;exact(hi (alo h hi' hj rfl)).elim
  grind
 ·rw[if_neg e,Mw h];constructor
  ·grind
  ·intro hm;rw[List.mem_eraseIdx_iff_getElem?];obtain⟨i,hi⟩:=List.mem_iff_getElem?.1 hm;grind
attribute [local irreducible] af cD bz bg aA cy b_ St Bx Al App cK cE cB bV aN bG aq bT av ak aW mapA
variable {F:Nat->Prop}{W w:World}{L:List As}{i b:Nat}{t e:TypeId}{x:β}
def E3 {c:Bool}{z:Value}{Q:Value->World->Prop}(ht:P.underlying t=some (.map k e))(hz:(zeroValue e).run P w=.ok z w)(s:Sep F W w L)(hi:L[i]? =some (fR K v b ms))(hnd:o7 ms)(hx:K.ok x)
  (h0:fE ms x=none->Q (if c then .tuple #[z,.bool false]else z) w)(h1:∀a,fE ms x=some a->Q (if c then .tuple #[v a,.bool true]else v a) w):aN P (Instr.lookup t (.map (some b)) (K.enc x) c) w Q:=by
 have hi':L[i]? =some (mapA P k b (ms.map λp=>(K.enc p.1,v p.2))):=hi;refine afx K.keyed ht hz s hi' (K.key x hx) (λh=>h0 (Tq.2 λp hp e=>?_)) λj u hj=>?_
 ·exact h (K.enc p.1,v p.2) (List.mem_map.2 ⟨p,hp,rfl⟩) (by rw[e])
 ·rw[List.getElem?_map]at hj;cases hm:ms[j]? with
  |none=>grind
  |some p=>
   rw[hm]at hj;simp[Option.map_some,Option.some.injEq,Prod.mk.injEq]at hj;obtain⟨e1,rfl⟩:=hj;have e1:=K.inj _ _ e1;exact h1 p.2 (ai_ (j:=j) hnd (by grind))
def Mx {Q:World->Prop}{a:α}(ht:P.underlying t=some (.map k e))(s:Sep F W w L)(hi:L[i]? =some (fR K v b ms))(hnd:o7 ms)(hx:K.ok x)
  (h:∀ms' w',o7 ms'->(∀y,fE ms' y=if y=x then some a else fE ms y)->(ms'.length=if(fE ms x).isNone then ms.length+1 else ms.length)->Sep F W w' (L.set i (fR K v b ms'))->Q w'):bG P (Instr.mapUpdate t (.map (some b)) (K.enc x) (v a)) w Q:=by
 have hi':L[i]? =some (mapA P k b (ms.map λp=>(K.enc p.1,v p.2))):=hi;refine Y2 K.keyed ht s hi' (K.key x hx) (λh0 w' s'=>?_) λj u hj w' s'=>?_
 ·have hn:=Tq.2 λp hp e=>h0 (K.enc p.1,v p.2) (List.mem_map.2 ⟨p,hp,rfl⟩) (by rw[e]);obtain⟨k1,k2⟩:=arl hnd hn;apply h (ms++[(x,a)]) w' k1 k2 (by grind);unfold fR;grind
 ·rw[List.getElem?_map]at hj;cases hm:ms[j]? with
  |none=>grind
  |some p=>
   rw[hm]at hj;simp[Option.map_some,Option.some.injEq,Prod.mk.injEq]at hj;obtain⟨e1,rfl⟩:=hj;have e1:=K.inj _ _ e1;have hm:ms[j]? =some (x,p.2):=by grind
   obtain⟨k1,k2⟩:=atY hnd hm;apply h (ms.set j (x,a)) w' k1 k2 (by rw[ai_ hnd hm,List.length_set];rfl);unfold fR;simp_all
def avK {ty:TypeId}{Q:Value->World->Prop}(ht:P.underlying t=some (.map k e))(s:Sep F W w L)(hi:L[i]? =some (fR K v b ms))(hnd:o7 ms)(hx:K.ok x)
  (h:∀ms' w',o7 ms'->(∀y,fE ms' y=if y=x then none else fE ms y)->(ms'.length=if(fE ms x).isNone then ms.length else ms.length-1)->Sep F W w' (L.set i (fR K v b ms'))->Q (.tuple #[]) w'):aN P (Builtin.delete_ #[t,k] ty [.map (some b),K.enc x].toArray) w Q:=by
 have hi':L[i]? =some (mapA P k b (ms.map λp=>(K.enc p.1,v p.2))):=hi;refine Y3 K.keyed ht s hi' (K.key x hx) (λh0 w' s'=>?_) λj u hj w' s'=>?_
 ·have hn:=Tq.2 λp hp e=>h0 (K.enc p.1,v p.2) (List.mem_map.2 ⟨p,hp,rfl⟩) (by rw[e]);refine h ms w' hnd (λy=>?_) (by rw[hn];rfl) ?_
  ·grind
  ·have:L.set i (fR K v b ms)=L:=by apply List.ext_getElem?;grind
   grind
 ·rw[List.getElem?_map]at hj;cases hm:ms[j]? with
  |none=>grind
  |some p=>
   rw[hm]at hj;simp[Option.map_some,Option.some.injEq,Prod.mk.injEq]at hj;obtain⟨e1,rfl⟩:=hj;have e1:=K.inj _ _ e1;have hm:ms[j]? =some (x,p.2):=by grind
   have hjl:=(List.getElem?_eq_some_iff.1 hm).1;obtain⟨k1,k2⟩:=atZ hnd hm;apply h (ms.eraseIdx j) w' k1 k2 (by rw[ai_ hnd hm,List.length_eraseIdx,if_pos hjl];rfl);rw[fR,ChangeMaps.map_eraseIdx];exact s'
end
def alp {α β:Type}:o7 ([]:List (β×α)):=List.nodup_nil
end Go.Proofs.YtmegplnmiepfbaaGreatDoor.S
namespace Go.Proofs.YtmegplnmiepfbaaGreatDoor.S
open Go.Sx
def ao5 {P:Program}{F:Nat->Prop}{W w:World}{L:List As}{t e ty k:TypeId}{b i:Nat}{m:List (Value×Value)}{Q:Value->World->Prop}(ht:P.underlying t=some (.map k e))(s:Sep F W w L)(hi:L[i]? =some (mapA P k b m))(h:Q (ae (m.length:Nat)) w):aN P (Builtin.len_ #[t] ty [.map (some b)].toArray) w Q:=by
 obtain⟨es,clock,hb,hm,_⟩:=fZ s hi;have hb:=hb;have hl:es.size=m.length:=by grind
 have:(Builtin.len_ #[t] ty [.map (some b)].toArray).run P w=.ok (ae (m.length:Nat)) w:=by simp[Builtin.len_,run_underlying ht,MapKept.run_getObj_map hb,Result.andThen,goInt,hl]
 unfold aN;grind
attribute [local irreducible] af cD bz bg aA cy b_ St Bx Al App cK cE cB bV aN bG aq bT av ak aW mapA
def arn {F:Nat->Prop}{W w:World}{L:List As}{t e ty:TypeId}{k:TypeId}{α β:Type}{K:aeN k β}{v:α->Value}{ms:List (β×α)}{b i:Nat}{Q:Value->World->Prop}(ht:P.underlying t=some (.map k e))(s:Sep F W w L)(hi:L[i]? =some (fR K v b ms))(h:Q (ae (ms.length:Nat)) w):aN P (Builtin.len_ #[t] ty [.map (some b)].toArray) w Q:=by have hi':L[i]? =some (mapA P k b (ms.map λp=>(K.enc p.1,v p.2))):=hi;apply ao5 ht s hi';grind
structure aP where
 id:Int
 cell:Int
 goal:Int
deriving DecidableEq
def gN (u:aP):List Value:=[ae u.id,ae u.cell,ae u.goal]
def jM (u:aP):(gN u).length=3:=rfl
def ao6 (x:aP)(u:Value)(h:u∈gN x):u.oneCell'=true:=by unfold gN at h;simp[List.mem_cons,List.not_mem_nil,or_false]at h;rcases h with rfl|rfl|rfl<;>rfl
def I0 (u:aP):Value:=.agg #[ae u.id,ae u.cell,ae u.goal]
structure rI where
 most:Int
 next:Int
 us:List aP
structure WZ where
 p:Nat
 mb:Nat
 oa:Option Addr
 on:Nat
 oc:Nat
 ms:List (Int×aP)
 os:List Int
def gQ (us:List aP)(i:Int):Option aP:=us.find? λu=>decide (u.id=i)
structure Tr (r:WZ) (y:rI):Prop where
 most:1<=y.most/\y.most<=65536
 F7:o7 r.ms
 fE:∀i,fE r.ms i=gQ y.us i
 len:r.ms.length=y.us.length
 ord:r.os.filter (λi=>(gQ y.us i).isSome)=y.us.map (·.id)
 aja:r.os.length<=2*y.us.length
 N8:(y.us.map (·.id)).Pairwise (·<·)
 jG:∀u∈y.us,0<=u.id/\u.id<y.next
 n_:(y.us.length:Int)<=y.most
 onx:∀i∈r.os,0<=i/\i<y.next
 RA:0<=y.next/\y.next<=1000000000
def W0 (r:WZ)(y:rI):List Value:=[ae y.most,ae y.next,.map (some r.mb),.slice r.oa r.on r.oc]
noncomputable def ay4 (r:WZ)(y:rI):List As:=[av r.p 171 (W0 r y),fR fA I0 r.mb r.ms,ak r.oa r.on r.oc 3 1 (flat one r.os)]
noncomputable def wF (r:WZ)(y:rI):As:=aW (Tr r y) (ay4 r y)
section
variable {F:Nat->Prop}{W w w0:World}{L:List As}{r:WZ}{y:rI}{id:Int}
def vi (s:Sep F W w (wF r y::L)):Tr r y/\Sep F W w (av r.p 171 (W0 r y)::fR fA I0 r.mb r.ms::ak r.oa r.on r.oc 3 1 (flat one r.os)::L):=gR s
def Fz (s:Sep F W w (av r.p 171 (W0 r y)::fR fA I0 r.mb r.ms::ak r.oa r.on r.oc 3 1 (flat one r.os)::L))(h:Tr r y):Sep F W w (wF r y::L):=dD s h
def acL {Q:Option Addr->World->Prop}{most:Int}(hm:1<=most/\most<=65536)(s:Sep F W w L)(h:∀r w',Sep F W w' (wF r ⟨most,0,[]⟩::L)->Q (sZ r.p) w'):GB most w Q:=by
 apply abS;rw[bj,bj];refine aaQ s 169 fA I0 λmb w s=>?_;refine aQ s λp w s=>?_;refine h ⟨p,mb,none,0,0,[],[]⟩ w (Fz ?_ ?_)
 ·exact cu (bH s 3 1) ((List.Perm.swap _ _ _).trans (List.Perm.cons _ (List.Perm.swap _ _ _)))
 ·exact⟨hm,List.Pairwise.nil,λi=>rfl,rfl,rfl,Nat.le_refl _,List.Pairwise.nil,(λu hu=>by cases hu),by grind,(λi hi=>by cases hi),by grind⟩
def La:P.underlying 169=some (.map 3 43):=by kernel_rfl
def aaR (w:World):(zeroValue 43).run P w=.ok (I0 ⟨0,0,0⟩) w:=by kernel_rfl
def aCn:zc T 43=[ae 0,ae 0,ae 0]:=rfl
def acM {Q:Int->World->Prop}(s:Sep F W w (wF r y::L))(h:Q (y.us.length:Nat) w):zh (sZ r.p) w Q:=by apply Qw;obtain⟨hok,s⟩:=vi s;refine lC (ah (lM s 0 rfl ?_));apply arn La s (i:=1) rfl;rw[hok.len];exact h
def s9 {Q:Int->Int->Int->Bool->World->Prop}(s0:Sep F W w (wF r y::L))(xW:iK id)
  (hno:gQ y.us id=none->∀w',Sep F W w' (wF r y::L)->Q 0 0 0 false w')(hyes:∀u,gQ y.us id=some u->∀w',Sep F W w' (wF r y::L)->Q u.id u.cell u.goal true w'):iU (sZ r.p) id w Q:=by
 apply QA;refine aV s0 λp w s=>?_;obtain⟨hok,s⟩:=vi (jd s);refine lC (ah (lM s 0 rfl ?_));have fin:∀(u:aP) (b:Bool) (w:World),Sep F W w (av r.p 171 (W0 r y)::fR fA I0 r.mb r.ms::ak r.oa r.on r.oc 3 1 (flat one r.os)::av p 43 [ae 0,ae 0,ae 0]::L)->
   (∀w',Sep F W w' (wF r y::L)->Q u.id u.cell u.goal b w')->
   Al T 43 w λx w=>St (x.add 0) (ae u.id) w λw=>St (x.add 1) (ae u.cell) w λw=>St (x.add 2) (ae u.goal) w λw=>
   af .i64 (x.add 0) w λa=>af .i64 (x.add 1) w λc=>af .i64 (x.add 2) w λd=>
   St ((aZ p).add 0) (ae a) w λw=>St ((aZ p).add 1) (ae c) w λw=>St ((aZ p).add 2) (ae d) w λw=>
   af .i64 ((aZ p).add 0) w λa=>af .i64 ((aZ p).add 1) w λc=>af .i64 ((aZ p).add 2) w λd=>Q a c d b w:=λu b w s h=>by
  refine aV s λx w s=>?_;refine sT s 0 rfl λw s=>?_;refine sT s 0 rfl λw s=>?_;refine ax s (i:=0) rfl rfl rfl λw s=>?_;refine lI s 0 rfl (lI s 0 rfl (lI s 0 rfl ?_));refine sT s 4 rfl λw s=>?_;refine sT s 4 rfl λw s=>?_;refine ax s (i:=4) rfl rfl rfl λw s=>?_;refine lI s 4 rfl (lI s 4 rfl (lI s 4 rfl ?_));exact h w (Fz (gH s (.cons _ (.cons_cons _ (.cons_cons _ (.cons_cons _ (.cons _ (List.Sublist.refl _))))))) hok)
 refine E3 (K:=fA) La (aaR w) s (i:=1) rfl hok.F7 xW (λh=>?_) λu h=>?_
 ·exact fin ⟨0,0,0⟩ false w s (hno (by rw[<-hok.fE];exact h))
 ·exact fin u true w s (hyes u (by rw[<-hok.fE];exact h))
end
end Go.Proofs.YtmegplnmiepfbaaGreatDoor.S
namespace Go.Proofs.YtmegplnmiepfbaaGreatDoor.S
open Go.Sx
attribute [local irreducible] af cD bz bg aA cy b_ St Bx Al App cK cE cB bV aN bG aq bT av ak aW mapA
section
variable {F:Nat->Prop}{W w w0:World}{L:List As}
def Zi {Q:Option Addr->Nat->Nat->World->Prop}{p mb on oc:Nat}{oa:Option Addr}{most next:Int}{ms:List (Int×aP)}{os:List Int}(hk:o7 ms)(ho:∀i∈os,iK i)(hl:os.length<=200000)
  (s:Sep F W w (av p 171 [ae most,ae next,.map (some mb),.slice oa on oc]::fR fA I0 mb ms::ak oa on oc 3 1 (flat one os)::L))
  (h:∀a n c w',Sep F W w' (ak a n c 3 1 (flat one (os.filter λi=>(fE ms i).isSome))::av p 171 [ae most,ae next,.map (some mb),.slice oa on oc]::fR fA I0 mb ms::ak oa on oc 3 1 (flat one os)::L)->Q a n c w'):
  qH (sZ p) w Q:=by
 apply M8;refine ah (lS s 0 rfl ?_);have hlen:=(aG s (i:=2) rfl bX (by decide)).len;have loop:∀(j i:Nat) (a:Option Addr) (n c:Nat) (w:World),i+j=on->n<=i->Sep F W w (ak a n c 3 1 (flat one ((os.take i).filter λi=>(fE ms i).isSome))::av p 171 [ae most,ae next,.map (some mb),.slice oa on oc]::fR fA I0 mb ms::ak oa on oc 3 1 (flat one os)::L)->
   my Q (j+1) (sZ p) a n c oa on oc (on:Int) i w:=by
  intro j;induction j with
  |zero=>
   intro i a n c w hij hni s;show oG _ _ _ _ _ _ _ _ _ _ _ _;unfold oG;grind
  |succ j ih=>
   intro i a n c w hij hni s;show oG _ _ _ _ _ _ _ _ _ _ _ _;rw[oG,bM];apply(aG s (i:=3) rfl bX (by decide)).ql rfl (by omega);have hg:os[i]? =some (gi os i):=by unfold gi;grind
   have hx:=ho _ (List.mem_of_getElem? hg);have yH:os.take (i+1)=os.take i++[gi os i]:=by rw[List.take_add_one,hg];rfl
   generalize gi os i=x at hg hx yH;have wr:IntKind.wrap .i64 ((i:Int)+1)=((i+1:Nat):Int):=by rw[Ia (iK.wf (by unfold iK;omega))];omega
   refine ah (lM s 1 rfl ?_);have step:∀(u:aP) (b:Bool),(fE ms x).isSome=b->Al T 43 w λp6 w=>St (p6.add 0) (ae u.id) w λw=>St (p6.add 1) (ae u.cell) w λw=>St (p6.add 2) (ae u.goal) w λw=>
     cond b (Bx [ae x] 3 w λp29 w=>App P #[29,29] 29 (.slice a n c) (.slice (some p29) 1 1) w λa n c w=>my Q (j+1) (sZ p) a n c oa on oc (on:Int) (IntKind.wrap .i64 ((i:Int)+1)) w)
      (my Q (j+1) (sZ p) a n c oa on oc (on:Int) (IntKind.wrap .i64 ((i:Int)+1)) w):=λu b hb=>by
    refine aV s λp6 w s=>?_;refine sT s 0 rfl λw s=>?_;refine sT s 0 rfl λw s=>?_;refine sT s 0 rfl λw s=>?_;have s:=ai s;rw[wr];cases b with
    |true=>
     refine L_ s (by omega) λa' c' w s=>?_;apply ih (i+1) a' (n+1) c' w (by omega) (by omega);rw[yH,List.filter_append];simp[List.filter_cons,hb,List.filter_nil,if_true];exact s
    |false=>
     apply ih (i+1) a n c w (by omega) (by omega);rw[yH,List.filter_append];simp[List.filter_cons,hb,List.filter_nil,Bool.false_eq_true,if_false,List.append_nil];exact s
   refine E3 (K:=fA) La (aaR w) s (i:=2) rfl hk hx (λh=>?_) λu h=>?_
   ·exact step ⟨0,0,0⟩ false (by rw[h];rfl)
   ·exact step u true (by rw[h];rfl)
 exact⟨on+1,loop on 0 none 0 0 w (by omega) (by omega) (bH s 3 1)⟩
end
end Go.Proofs.YtmegplnmiepfbaaGreatDoor.S
namespace Go.Proofs.YtmegplnmiepfbaaGreatDoor.S.Hp
abbrev E:=Int×Int
def zU (a b:E):Bool:=decide (a.1<b.1)||(a.1==b.1&&decide (a.2<b.2))
def alr {a b:E}:zU a b=true↔a.1<b.1\/a.1=b.1/\a.2<b.2:=by simp[zU]
def XT {a b:E}:zU a b=false↔¬(a.1<b.1\/a.1=b.1/\a.2<b.2):=by rw[<-alr,Bool.not_eq_true]
def Oj {a b:E}(h:zU a b=true):zU b a=false:=by rw[alr]at h;rw[XT];omega
def G_ {a b c:E}(h:zU b a=false)(k:zU c b=false):zU c a=false:=by rw[XT]at*;omega
def aaS {a:E}:zU a a=false:=by rw[XT];omega
def g (es:List E)(i:Nat):E:=es.getD i (0,0)
def E4 {es:List E}{i:Nat}(h:i<es.length):es[i]? =some (g es i):=by rw[g,List.getD_eq_getElem?_getD,List.getElem?_eq_getElem h];rfl
def asM {es:List E}{i j:Nat}{x:E}(h:i<es.length):g (es.set i x) j=if i=j then x else g es j:=by unfold g;grind
def swap (es:List E)(i p:Nat):List E:=(es.set i (g es p)).set p (g es i)
def rU (es:List E)(i p:Nat):(swap es i p).length=es.length:=by simp[swap]
def JB {es:List E}{i p j:Nat}(hi:i<es.length)(hp:p<es.length):g (swap es i p) j=if p=j then g es i else if i=j then g es p else g es j:=by rw[swap,asM (by grind),asM hi]
def swap_perm {es:List E}{i p:Nat}(hi:i<es.length)(hp:p<es.length):(swap es i p).Perm es:=by
 rw[List.perm_iff_count];intro a;unfold swap;have e1:es[i]=g es i:=by have:=E4 hi;grind
 have e2:es[p]=g es p:=by have:=E4 hp;grind
 grind
def zV (es:List E):Prop:=∀j,0<j->j<es.length->zU (g es j) (g es ((j-1)/2))=false
structure XU (es:List E) (i:Nat):Prop where
 rest:∀j,0<j->j<es.length->j≠i->zU (g es j) (g es ((j-1)/2))=false
 over:∀j,0<j->j<es.length->(j-1)/2=i->0<i->zU (g es j) (g es ((i-1)/2))=false
def aeO {es:List E}{i:Nat}(h:XU es i)(hs:i=0\/zU (g es i) (g es ((i-1)/2))=false):zV es:=by
 intro j h1 h2;by_cases hj:j=i
 ·grind
 ·exact h.rest j h1 h2 hj
def at0 {es:List E}{i:Nat}(h:XU es i)(hi:0<i)(hl:i<es.length)(hs:zU (g es i) (g es ((i-1)/2))=true):XU (swap es i ((i-1)/2)) ((i-1)/2):=by
 have hp:(i-1)/2<es.length:=by omega
 have hne:(i-1)/2≠i:=by omega
 constructor
 ·intro j h1 h2 hj;rw[rU]at h2;rw[JB hl hp,JB hl hp,if_neg (Ne.symm hj)];by_cases hji:i=j
  ·subst hji;rw[if_pos rfl,if_pos rfl];exact Oj hs
  ·rw[if_neg hji];by_cases hpj:(i-1)/2=(j-1)/2
   ·rw[if_pos hpj];have:=h.rest j h1 h2 (Ne.symm hji);rw[<-hpj]at this;exact G_ (Oj hs) this
   ·rw[if_neg hpj];by_cases hij:i=(j-1)/2
    ·rw[if_pos hij];exact h.over j h1 h2 hij.symm hi
    ·rw[if_neg hij];exact h.rest j h1 h2 (Ne.symm hji)
 ·intro j h1 h2 hj h0;rw[rU]at h2;have hj':(i-1)/2≠j:=by omega
  rw[JB hl hp,JB hl hp,if_neg hj',if_neg (show(i-1)/2≠((i-1)/2-1)/2 by omega),if_neg (show i≠((i-1)/2-1)/2 by omega)];have avM:=h.rest ((i-1)/2) h0 hp hne;by_cases hji:i=j
  ·rw[if_pos hji];exact avM
  ·rw[if_neg hji];have:=h.rest j h1 h2 (Ne.symm hji);rw[hj]at this;exact G_ avM this
structure Lj (es:List E) (i:Nat):Prop where
 rest:∀j,0<j->j<es.length->(j-1)/2≠i->zU (g es j) (g es ((j-1)/2))=false
 over:∀j,0<j->j<es.length->(j-1)/2=i->0<i->zU (g es j) (g es ((i-1)/2))=false
structure asN (es:List E) (i l k:Nat):Prop where
 lt:l<es.length
 who:l=i\/l=2*i+1\/l=2*i+2
 self:zU (g es i) (g es l)=false
 kids:∀j,2*i+1<=j->j<k->j<es.length->zU (g es j) (g es l)=false
def ao7 {es:List E}{i:Nat}(h:Lj es i)(hs:∀j,2*i+1<=j->j<=2*i+2->j<es.length->zU (g es j) (g es i)=false):zV es:=by
 intro j h1 h2;by_cases hj:(j-1)/2=i
 ·grind
 ·exact h.rest j h1 h2 hj
def ao8 {es:List E}{i l:Nat}(h:Lj es i)(hi:i<es.length)(hl:l<es.length)(hw:l=2*i+1\/l=2*i+2)(hs:zU (g es i) (g es l)=false)
  (hk:∀j,2*i+1<=j->j<=2*i+2->j<es.length->zU (g es j) (g es l)=false):Lj (swap es i l) l:=by
 have hne:l≠i:=by omega
 constructor
 ·intro j h1 h2 hj;rw[rU]at h2;rw[JB hi hl,JB hi hl,if_neg (show l≠(j-1)/2 from λe=>hj e.symm)];by_cases hpi:i=(j-1)/2
  ·grind
  ·rw[if_neg hpi,if_neg (show l≠j by omega)];by_cases hij:i=j
   ·subst hij;rw[if_pos rfl];exact h.over l (by omega) hl (by omega) h1
   ·rw[if_neg hij];exact h.rest j h1 h2 (Ne.symm hpi)
 ·intro j h1 h2 hj h0;rw[rU]at h2;have e:(l-1)/2=i:=by omega
  rw[e,JB hi hl,JB hi hl,if_neg (show l≠j by omega),if_neg (show i≠j by omega),if_neg hne,if_pos rfl];have:=h.rest j h1 h2 (by omega);grind
def amt {es:List E}(h:zV es):∀j,j<es.length->zU (g es j) (g es 0)=false:=by
 intro j;induction j using Nat.strongRecOn with
 |_ j ih=>
  intro hj;by_cases h0:j=0
  ·subst h0;exact aaS
  ·exact G_ (ih ((j-1)/2) (by omega) (by omega)) (h j (by omega) hj)
def aeP {es:List E}(h:zV es){x:E}(hx:x∈es):zU x (g es 0)=false:=by
 obtain⟨j,hj,rfl⟩:=List.getElem_of_mem hx;have:=amt h j hj;have e:es[j]=g es j:=by have:=E4 hj;grind
 rwa[e]
def Ua {es:List E}{x:E}{j:Nat}(h:j<es.length):g (es++[x]) j=g es j:=by unfold g;grind
def aro {es:List E}{x:E}(h:zV es):XU (es++[x]) es.length:=by
 constructor
 ·intro j h1 h2 hj;simp[List.length_append,List.length_cons,List.length_nil]at h2;rw[Ua (by omega),Ua (by omega)];exact h j h1 (by omega)
 grind
def at3 {es:List E}(h:zV es)(h0:0<es.length):Lj ((es.set 0 (g es (es.length-1))).take (es.length-1)) 0:=by
 have hg:∀j,0<j->j<es.length-1->g ((es.set 0 (g es (es.length-1))).take (es.length-1)) j=g es j:=by intro j h1 h2;unfold g;grind
 constructor
 ·intro j h1 h2 hj;have h2:j<es.length-1:=by grind
  rw[hg j h1 h2,hg _ (by omega) (by omega)];exact h j h1 (by omega)
 omega
def arp {es:List E}(h0:0<es.length):(g es 0::(es.set 0 (g es (es.length-1))).take (es.length-1)).Perm es:=by
 match es,h0 with
 |[x],_=>simp[g]
 |x::y::es,_=>
  have e:g (x::y::es) ((x::y::es).length-1)=(y::es).getLast (by simp):=by unfold g;grind
  rw[e];have e2:((x::y::es).set 0 ((y::es).getLast (by simp))).take ((x::y::es).length-1)=(y::es).getLast (by simp)::(y::es).dropLast:=by simp[List.dropLast_eq_take]
  have e3:g (x::y::es) 0=x:=rfl;apply List.Perm.cons x;have:=List.dropLast_concat_getLast (l:=y::es) (by simp);grind
end Go.Proofs.YtmegplnmiepfbaaGreatDoor.S.Hp
namespace Go.Proofs.YtmegplnmiepfbaaGreatDoor.S.Hp
open Go.Sx
attribute [local irreducible] af cD bz bg aA cy b_ St Bx Al App cK cE cB bV aN bG aq bT av ak
def dU:xk P T:=E9 P rows Ic
def cj {n lo hi:Int}{w:World}{Q:Int->World->Prop}(h1:lo<=hi)(h2:-1099511627776<=lo)(h3:hi<=1099511627776)(h:Q (lo+n%(hi-lo+1)) w):a_ n lo hi w Q:=by
 apply uI;rw[aH (n:=hi-lo),aH];generalize hs:hi-lo+1=s at h;have h4:=Int.lt_tmod_of_pos n (b:=s) (by omega);have h5:=Int.tmod_lt_of_pos n (b:=s) (by omega);have h6:=Int.tmod_add_mul_tdiv n s;refine⟨by omega,?_⟩;generalize ht:Int.tmod n s=t at*;have e:n%s=t%s:=by rw[<-h6,Int.add_mul_emod_self_left]
 by_cases hn:t<0
 ·rw[bM hn,aH (n:=t+hi),aH (n:=t+hi-lo),aH (n:=t+hi-lo+1),aH];have e2:t%s=t+s:=by rw[<-Int.add_emod_right,Int.emod_eq_of_lt (by omega) (by omega)]
  grind
 ·rw[bj hn,aH];rw[e,Int.emod_eq_of_lt (by omega) h5]at h;exact h
def pr (x:E):List Value:=[ae x.1,ae x.2]
def iE (x:E):(pr x).length=2:=rfl
def F8 {F:Nat->Prop}{W w:World}{L:List As}{a b c d:Int}{Q:Bool->World->Prop}(s:Sep F W w L)(h:∀w',Sep F W w' L->Q (zU (a,b) (c,d)) w'):sM a b c d w Q:=by
 apply QN;refine aQ s λb1 w1 s=>?_;refine aQ s λb2 w2 s=>?_;apply lI s 1 rfl;apply lI s 0 rfl;have hh:=h w2 (ai (ai s));unfold zU at hh;by_cases h1:a<c
 ·grind
 ·rw[bj h1];rw[decide_eq_false h1,Bool.false_or]at hh;apply lI s 1 rfl;apply lI s 0 rfl;cases h2:(a==c)with
  |false=>
   grind
  |true=>
   rw[h2,Bool.true_and]at hh;apply lI s 1 rfl;apply lI s 0 rfl;exact hh
section
variable {F:Nat->Prop}{W w:World}{L:List As}{i j p b o n c:Nat}{Q:World->Prop}
def at4 (hij:i≠j):∀(m q:Nat) (es:List E) (w:World),q<=m->q<es.length->es.length=n->n<=4000000000000->XU es q->∀L:List As,L[i]? =some (av p 351 [.slice (some ⟨b,o,none⟩) n c])->L[j]? =some (ak (some ⟨b,o,none⟩) n c 353 2 (flat pr es))->Sep F W w L->
  (∀w' es',zV es'->es'.Perm es->Sep F W w' (L.set j (ak (some ⟨b,o,none⟩) n c 353 2 (flat pr es')))->Q w')->rB Q (m+1) (sZ p) q w:=by
 intro m;induction m with
 |zero=>
  intro q es w hq hl hn My inv L hi hj s h;obtain rfl:q=0:=by omega
  show vJ Q (rB Q 0) _ _ _;unfold vJ;apply h w es (aeO inv (.inl rfl)) (.refl _);rw[rX hj];exact s
 |succ m ih=>
  intro q es w hq hl hn My inv L hi hj s h;show vJ Q (rB Q (m+1)) _ _ _;unfold vJ;by_cases h0:q=0
  ·subst h0;apply h w es (aeO inv (.inl rfl)) (.refl _);rw[rX hj];exact s
  ·rw[bM];have e1:IntKind.wrap .i64 (Int.tdiv (IntKind.wrap .i64 ((q:Int)-1)) 2)=(((q-1)/2:Nat):Int):=by rw[aH (n:=(q:Int)-1),Int.tdiv_eq_ediv_of_nonneg (by omega),aH];omega
   rw[e1];have s':Sep F W w.drew L:=s;have gq:=E4 hl;have hp:(q-1)/2<es.length:=by omega
   have gp:=E4 hp;refine⟨by decide,ah ?_⟩;apply gZ s' rfl hi rfl;refine⟨by omega,by omega,ah ?_⟩;rw[show((q:Int)).toNat=q from rfl,show((((q-1)/2:Nat):Int)).toNat=(q-1)/2 from rfl];apply eK iE s' hj gq (eo ..) rfl;refine eK iE s' hj gq (eo ..) rfl (ah ?_);apply gZ s' rfl hi rfl;refine⟨by omega,by omega,ah ?_⟩;apply eK iE s' hj gp (eo ..) rfl;apply eK iE s' hj gp (eo ..) rfl;refine F8 s' λw1 s1=>?_;cases hs:zU (g es q) (g es ((q-1)/2))with
   |false=>
    apply h w1 es (aeO inv (.inr hs)) (.refl _);rw[rX hj];exact s1
   |true=>
    rw[Bool.not_true,cond_false];have s2:Sep F W w1.drew L:=s1;apply ah;refine gZ s2 rfl hi rfl (ah ?_);refine gZ s2 rfl hi rfl (ah ?_);apply gZ s2 rfl hi rfl;refine⟨by omega,by omega,ah ?_⟩;apply eK iE s2 hj gp (eo ..) rfl;refine eK iE s2 hj gp (eo ..) rfl (ah ?_);apply gZ s2 rfl hi rfl;refine⟨by omega,by omega,ah ?_⟩;apply eK iE s2 hj gq (eo ..) rfl;apply eK iE s2 hj gq (eo ..) rfl;refine⟨by omega,by omega,ah ?_⟩;have hjL:=(List.getElem?_eq_some_iff.1 hj).1;refine dW iE (x':=((g es ((q-1)/2)).1,(g es q).2)) s2 hj gq (eo ..) (by decide) rfl rfl λw3 s3=>?_;refine dW iE (x:=((g es ((q-1)/2)).1,(g es q).2)) (x':=g es ((q-1)/2)) s3 (by rw[List.getElem?_set_self hjL]) (by rw[List.getElem?_set_self hl]) (eo ..) (by decide) rfl rfl λw4 s4=>?_;rw[g_,g_]at s4;refine⟨by omega,by omega,ah ?_⟩;have hne:q≠(q-1)/2:=by omega
    have gp':(es.set q (g es ((q-1)/2)))[(q-1)/2]? =some (g es ((q-1)/2)):=by rw[List.getElem?_set_ne hne];exact gp
    refine dW iE (x':=((g es q).1,(g es ((q-1)/2)).2)) s4 (by rw[List.getElem?_set_self hjL]) gp' (eo ..) (by decide) rfl rfl λw5 s5=>?_;refine dW iE (x:=((g es q).1,(g es ((q-1)/2)).2)) (x':=g es q) s5 (by rw[List.getElem?_set_self (by simpa using hjL)]) (by rw[List.getElem?_set_self (by simpa using hp)]) (eo ..) (by decide) rfl rfl λw6 s6=>?_;rw[g_,g_,g_]at s6;have s6:Sep F W w6 (L.set j (ak (some ⟨b,o,none⟩) n c 353 2 (flat pr (swap es q ((q-1)/2))))):=s6;refine ih ((q-1)/2) (swap es q ((q-1)/2)) w6 (by omega) (by rw[rU];exact hp) (by rw[rU];exact hn) My (at0 inv (by omega) hl hs) _ (by rw[List.getElem?_set_ne (Ne.symm hij)];exact hi) (by rw[List.getElem?_set_self hjL]) s6 λw' es' k1 k2 k3=>?_;rw[g_]at k3;exact h w' es' k1 (k2.trans (swap_perm hl hp)) k3
end
section
variable {F:Nat->Prop}{W w:World}{L:List As}{i j p b o n c:Nat}{Q:World->Prop}
def amv {P1:Option Addr->Int->World->Prop}{es:List E}{q:Nat}(hq:q<es.length)(hn:es.length=n)(My:n<=4000000000000)
  (hi:L[i]? =some (av p 351 [.slice (some ⟨b,o,none⟩) n c]))(hj:L[j]? =some (ak (some ⟨b,o,none⟩) n c 353 2 (flat pr es)))
  (h:∀w' l,Sep F W w' L->asN es q l (2*q+3)->oK P1 Q (sZ p) q l w'):
  ∀(m k l:Nat) (w:World),k+m=2*q+3->2*q+1<=k->Sep F W w L->asN es q l k->mM P1 Q (m+1) (sZ p) q l k w:=by
 intro m;induction m with
 |zero=>
  intro k l w hk Je s hl;show mL P1 Q (mM P1 Q 0) _ _ _ _ _;rw[mL,aH (n:=2*(q:Int)),aH,bj];grind
 |succ m ih=>
  intro k l w hk Je s hl;show mL P1 Q (mM P1 Q (m+1)) _ _ _ _ _;rw[mL,aH (n:=2*(q:Int)),aH,bM];apply ah;apply gZ s rfl hi rfl;by_cases hkn:k<n
  ·rw[bM];have s':Sep F W w.drew L:=s;have gk:=E4 (es:=es) (i:=k) (by omega);have gl:=E4 hl.lt;have qu:=hl.lt;apply ah;apply gZ s' rfl hi rfl;refine⟨by omega,by omega,ah ?_⟩;apply eK iE s' hj gk (eo ..) rfl;refine eK iE s' hj gk (eo ..) rfl (ah ?_);apply gZ s' rfl hi rfl;refine⟨by omega,by omega,ah ?_⟩;apply eK iE s' hj gl (eo ..) rfl;apply eK iE s' hj gl (eo ..) rfl;refine F8 s' λw1 s1=>?_;rw[aH];cases hs:zU (g es k) (g es l)with
   |true=>
    refine ih (k+1) k w1 (by omega) (by omega) s1 ⟨by omega,by omega,G_ (Oj hs) hl.self,λx h1 h2 h3=>?_⟩;by_cases hx:x=k
    ·subst hx;exact aaS
    ·exact G_ (Oj hs) (hl.kids x h1 (by omega) h3)
   |false=>
    refine ih (k+1) l w1 (by omega) (by omega) s1 ⟨hl.lt,hl.who,hl.self,λx h1 h2 h3=>?_⟩;by_cases hx:x=k
    ·grind
    ·exact hl.kids x h1 (by omega) h3
  ·rw[bj];exact h w l s ⟨hl.lt,hl.who,hl.self,λx h1 h2 h3=>hl.kids x h1 (by omega) h3⟩
def ao9 (hij:i≠j):∀(m q:Nat) (es:List E) (w:World),es.length<=q+m->q<es.length->es.length=n->n<=4000000000000->Lj es q->∀L:List As,L[i]? =some (av p 351 [.slice (some ⟨b,o,none⟩) n c])->L[j]? =some (ak (some ⟨b,o,none⟩) n c 353 2 (flat pr es))->Sep F W w L->
  (∀w' es',zV es'->es'.Perm es->Sep F W w' (L.set j (ak (some ⟨b,o,none⟩) n c 353 2 (flat pr es')))->Q w')->oL Q (m+1) (sZ p) q w:=by
 intro m;induction m with
 |zero=>
  omega
 |succ m ih=>
  intro q es w hq hl hn My inv L hi hj s h;show xJ Q (oL Q (m+1)) _ _ _;rw[xJ,aH (n:=2*(q:Int)),aH];refine⟨3,?_⟩;have e0:(2*(q:Int)+1)=((2*q+1:Nat):Int):=by omega
  refine amv hl hn My hi hj (λw1 l s1 hle=>?_) 2 (2*q+1) q w (by omega) (by omega) s ⟨hl,.inl rfl,aaS,λx h1 h2 h3=>by omega⟩;unfold oK;by_cases hlq:l=q
  ·subst hlq;rw[beq_self_eq_true,cond_true];apply h w1 es (ao7 inv λx h1 h2 h3=>hle.kids x h1 (by omega) h3) (.refl _);rw[rX hj];exact s1
  ·rw[show(((l:Int))==(q:Int))=false by rw[beq_eq_false_iff_ne];omega,cond_false];have s2:Sep F W w1.drew L:=s1;have Oc:=hle.lt;have gq:=E4 hl;have gl:=E4 Oc;have hw:l=2*q+1\/l=2*q+2:=by
    rcases hle.who with h|h
    ·exact absurd h hlq
    ·exact h
   apply ah;refine gZ s2 rfl hi rfl (ah ?_);refine gZ s2 rfl hi rfl (ah ?_);apply gZ s2 rfl hi rfl;refine⟨by omega,by omega,ah ?_⟩;rw[show((q:Int)).toNat=q from rfl,show((l:Int)).toNat=l from rfl];apply eK iE s2 hj gl (eo ..) rfl;refine eK iE s2 hj gl (eo ..) rfl (ah ?_);apply gZ s2 rfl hi rfl;refine⟨by omega,by omega,ah ?_⟩;apply eK iE s2 hj gq (eo ..) rfl;apply eK iE s2 hj gq (eo ..) rfl;refine⟨by omega,by omega,ah ?_⟩;have hjL:=(List.getElem?_eq_some_iff.1 hj).1;refine dW iE (x':=((g es l).1,(g es q).2)) s2 hj gq (eo ..) (by decide) rfl rfl λw3 s3=>?_;refine dW iE (x:=((g es l).1,(g es q).2)) (x':=g es l) s3 (by rw[List.getElem?_set_self hjL]) (by rw[List.getElem?_set_self hl]) (eo ..) (by decide) rfl rfl λw4 s4=>?_;rw[g_,g_]at s4;refine⟨by omega,by omega,ah ?_⟩;have hne:q≠l:=by omega
   have gl':(es.set q (g es l))[l]? =some (g es l):=by rw[List.getElem?_set_ne hne];exact gl
   refine dW iE (x':=((g es q).1,(g es l).2)) s4 (by rw[List.getElem?_set_self hjL]) gl' (eo ..) (by decide) rfl rfl λw5 s5=>?_;refine dW iE (x:=((g es q).1,(g es l).2)) (x':=g es q) s5 (by rw[List.getElem?_set_self (by simpa using hjL)]) (by rw[List.getElem?_set_self (by simpa using Oc)]) (eo ..) (by decide) rfl rfl λw6 s6=>?_;rw[g_,g_,g_]at s6;have s6:Sep F W w6 (L.set j (ak (some ⟨b,o,none⟩) n c 353 2 (flat pr (swap es q l)))):=s6;refine ih l (swap es q l) w6 (by rw[rU];omega) (by rw[rU];exact Oc) (by rw[rU];exact hn) My (ao8 inv hl Oc hw hle.self λx h1 h2 h3=>hle.kids x h1 (by omega) h3) _ (by rw[List.getElem?_set_ne (Ne.symm hij)];exact hi) (by rw[List.getElem?_set_self hjL]) s6 λw' es' k1 k2 k3=>?_;rw[g_]at k3;exact h w' es' k1 (k2.trans (swap_perm hl Oc)) k3
end
end Go.Proofs.YtmegplnmiepfbaaGreatDoor.S.Hp
namespace Go.Proofs.YtmegplnmiepfbaaGreatDoor.S.Hp
open Go.Sx
def qL (p:Nat)(a:Option Addr)(c:Nat)(es:List E):As where
 fp:=λk=>k=p\/∃x,a=some x/\x.block=k
 ok:=λh=>(av p 351 [.slice a es.length c]).ok h/\(ak a es.length c 353 2 (flat pr es)).ok h/\(∀x,a=some x->x.block≠p)/\zV es
 lt:=λh hb k hk=>by
  rcases hk with rfl|hk
  ·exact As.lt _ h hb.1 _ rfl
  ·exact As.lt _ h hb.2.1 _ hk
 fr:=λh h' hb he=>⟨As.fr _ h h' hb.1 λb hb=>he b (.inl hb),As.fr _ h h' hb.2.1 λb hb=>he b (.inr hb),hb.2.2⟩
section
variable {F:Nat->Prop}{W w w':World}{L:List As}{i p c:Nat}{a:Option Addr}{es:List E}
def F9 (s:Sep F W w L)(hi:L[i]? =some (qL p a c es)):Sep (qL p a c es).fp w w [av p 351 [.slice a es.length c],ak a es.length c 353 2 (flat pr es)]:=by obtain⟨h1,h2,h3,_⟩:=fZ s hi;refine aqH h1 h2 (λb hb=>.inl hb) (λb hb=>.inr hb) λb hb hb'=>?_;obtain⟨x,hx,rfl⟩:=hb';exact h3 x hx hb
def W1 (s:Sep F W w L)(hi:L[i]? =some (qL p a c es)):zV es:=(fZ s hi).2.2.2
def acO {a':Option Addr}{c':Nat}{es':List E}(s:Sep F W w L)(hi:L[i]? =some (qL p a c es))(s':Sep (qL p a c es).fp w w' [av p 351 [.slice a' es'.length c'],ak a' es'.length c' 353 2 (flat pr es')])(hh:zV es'):
  Sep F W w' (L.set i (qL p a' c' es')):=by
 refine abu s hi s' ⟨fZ s' (i:=0) rfl,fZ s' (i:=1) rfl,λx hx e=>?_,hh⟩ λb hb=>?_
 ·exact anU s' (i:=0) (j:=1) rfl rfl (by decide) p rfl ⟨x,hx,e⟩
 ·rcases hb with hb|hb
  ·exact⟨_,List.mem_cons_self,hb⟩
  ·exact⟨_,List.mem_cons_of_mem _ List.mem_cons_self,hb⟩
def W2 (s:Sep F W w L)(hi:L[i]? =some (qL p a c es))(h0:0<es.length):∃b o,a=some ⟨b,o,none⟩:=qk (F9 s hi) (i:=1) rfl h0
def ars (s:Sep F W w L)(hi:L[i]? =some (qL p a c es)):es.length<=c:=(Sa (F9 s hi) (i:=1) rfl).1
def at5 {b:Nat}{t:TypeId}{cs:List Value}{m size:Nat}(s:Sep F W w L)(hi:L[i]? =some (av b t cs))(hl:cs.length=m*size)(h1:∀u∈cs,u.oneCell'=true):Src w (sZ b) m size cs:=
 ⟨hl,h1,λj u hj=>by rw[cw,Nat.zero_add];exact cO s rfl hi hj⟩
def amx {p:Nat}{w:World}(h:(av p 351 [.slice none 0 0]).ok w.heap):(qL p none 0 []).ok w.heap:=
 ⟨h,⟨⟨by simp[flat],Nat.le_refl _,by decide,by simp[flat]⟩,.inl ⟨rfl,rfl⟩⟩,λx hx=>(by cases hx),λj h1 h2=>(by simp at h2)⟩
end
def F6 {p:Addr}{A B:Prop}(h:B):cond (some p).isNone A B:=h
attribute [local irreducible] af cD bz bg aA cy b_ St Bx Al App cK cE cB bV aN bG aq bT av ak
section
variable {F:Nat->Prop}{W w:World}{L:List As}{i p c:Nat}{a:Option Addr}{es:List E}
def RB {Q:Option Addr->World->Prop}(s:Sep F W w L)(h:∀p w',Sep F W w' (qL p none 0 []::L)->Q (sZ p) w'):Dd w Q:=by
 apply aec;refine aQ s λp w1 s=>h p w1 ?_;exact yc (i:=0) (A':=qL p none 0 []) s rfl Fr.refl (amx (fZ s (i:=0) rfl)) λb hb=>.inl (by
  rcases hb with hb|⟨x,hx,_⟩
  ·subst hb;unfold av;rfl
  ·cases hx)
def ahg {b o n j:Nat}{Q:World->Prop}(hij:i≠j)(hl:0<es.length)(hn:es.length=n)(My:n<=4000000000000)(inv:XU es (n-1))(hi:L[i]? =some (av p 351 [.slice (some ⟨b,o,none⟩) n c]))(hj:L[j]? =some (ak (some ⟨b,o,none⟩) n c 353 2 (flat pr es)))(s:Sep F W w L)
  (h:∀w' es',zV es'->es'.Perm es->Sep F W w' (L.set j (ak (some ⟨b,o,none⟩) n c 353 2 (flat pr es')))->Q w'):Cu (sZ p) w Q:=by
 apply Wf;apply ah;apply gZ s rfl hi rfl;rw[aH,show((n:Int)-1)=((n-1:Nat):Int) by omega];exact⟨n,at4 hij (n-1) (n-1) es w (Nat.le_refl _) (by omega) hn My inv L hi hj s h|>λk=>by grind⟩
def B0 {k x:Int}{Q:World->Prop}(s:Sep F W w L)(hi:L[i]? =some (qL p a c es))(hn:es.length<4000000000000)
  (h:∀w' a' c' es',es'.Perm (es++[(k,x)])->Sep F W w' (L.set i (qL p a' c' es'))->Q w'):m9 (sZ p) k x w Q:=by
 apply SQ;apply F6;have s0:=F9 s hi;have hh:=W1 s hi;apply ah;apply lS s0 0 rfl;refine aQ s0 λbx w1 s1=>?_;have src:=at5 (size:=2) s1 (i:=0) rfl rfl (λu hu=>by simp at hu;rcases hu with rfl|rfl<;>rfl);refine iy dU s1 (i:=2) (bytes:=16) rfl rfl rfl rfl rfl rfl (by decide) rfl src (by simp[maxLen];omega) (by omega) (λe=>by cases e) λa' c' w2 s2=>?_;have s2:=ai s2;have e1:flat pr es++[ae k,ae x]=flat pr (es++[(k,x)]):=by rw[f_];rfl
 rw[e1]at s2;apply ah;refine ax s2 (i:=0) rfl rfl rfl λw3 s3=>?_;obtain⟨b,o,rfl⟩:=qk s3 (i:=1) rfl (by omega);have hl:(es++[(k,x)]).length=es.length+1:=by simp
 refine ahg (i:=0) (j:=1) (by decide) (by omega) hl (by omega) (by rw[show es.length+1-1=es.length by omega];exact aro hh) rfl rfl s3 λw4 es' q1 q2 s4=>?_;have hl':es'.length=es.length+1:=by rw[q2.length_eq,hl]
 refine h w4 (some ⟨b,o,none⟩) c' es' q2 (acO s hi ?_ q1);grind
def aeQ {Q:Int->World->Prop}(s:Sep F W w L)(hi:L[i]? =some (qL p a c es))(h:Q (es.length:Int) w):Bv (sZ p) w Q:=by apply U1;refine F6 (ah ?_);exact gZ (F9 s hi) (i:=0) rfl rfl rfl h
def aeR {Q:Int->Int->Bool->World->Prop}(s:Sep F W w L)(hi:L[i]? =some (qL p a c es))(h0:es=[]->∀w',Sep F W w' L->Q 0 0 false w')(h1:0<es.length->∀w',Sep F W w' L->Q (g es 0).1 (g es 0).2 true w'):Bu (sZ p) w Q:=by
 apply U2;apply aeQ s hi;by_cases he:es.length=0
 ·grind
 ·rw[show((es.length:Int)==0)=false by grind,cond_false];obtain⟨b,o,rfl⟩:=W2 s hi (by omega);have s0:=F9 s hi;have s0:Sep (qL p (some ⟨b,o,none⟩) c es).fp w w.drew _:=s0;have g0:=E4 (es:=es) (i:=0) (by omega);apply ah;apply lS s0 0 rfl;refine⟨by omega,by omega,ah ?_⟩;refine eK iE s0 (i:=1) rfl g0 (aqG ..) rfl (ah ?_);apply lS s0 0 rfl;refine⟨by omega,by omega,ah ?_⟩;apply eK iE s0 (i:=1) rfl g0 (eo ..) rfl;refine⟨w9 s0 (i:=1) rfl (j:=0*2+1) (eo ..) (by rw[tf iE g0 (by decide)];rfl),cm s0 0 rfl,?_⟩;exact h1 (by omega) w.drew s
def acP {b o n j:Nat}{Q:World->Prop}(hij:i≠j)(hn:es.length=n)(My:n<=4000000000000)(inv:Lj es 0)(hi:L[i]? =some (av p 351 [.slice (some ⟨b,o,none⟩) n c]))(hj:L[j]? =some (ak (some ⟨b,o,none⟩) n c 353 2 (flat pr es)))(s:Sep F W w L)
  (h:∀w' es',zV es'->es'.Perm es->Sep F W w' (L.set j (ak (some ⟨b,o,none⟩) n c 353 2 (flat pr es')))->Q w'):AB (sZ p) w Q:=by
 apply SR;by_cases h0:es.length=0
 ·have RC:=List.eq_nil_of_length_eq_zero h0;subst RC;obtain rfl:n=0:=by grind
  refine⟨1,?_⟩;show xJ Q (oL Q 0) _ _ _;refine⟨1,?_⟩;show mL _ Q (mM _ Q 0) _ _ _ _ _;rw[mL,show decide (IntKind.wrap .i64 (IntKind.wrap .i64 (2*0)+1)<=IntKind.wrap .i64 (IntKind.wrap .i64 (2*0)+2))=true by decide,cond_true];apply ah;apply gZ s rfl hi rfl;unfold oK;apply h w [] (λj h1 h2=>by simp at h2) (.refl _);rw[rX hj];exact s
 ·exact⟨es.length+1,ao9 hij es.length 0 es w (by omega) (by omega) hn My inv L hi hj s h⟩
def DA {Q:Int->Int->Bool->World->Prop}(s:Sep F W w L)(hi:L[i]? =some (qL p a c es))(My:es.length<=4000000000000)(h0:es=[]->∀w',Sep F W w' L->Q 0 0 false w')
  (h1:0<es.length->∀w' a' c' es',(g es 0::es').Perm es->Sep F W w' (L.set i (qL p a' c' es'))->Q (g es 0).1 (g es 0).2 true w'):jL (sZ p) w Q:=by
 apply U3;refine aeR s hi (λhe w1 s1=>?_) λhpos w1 s=>?_
 ·unfold yR;grind
 ·rw[cond_true];obtain⟨b,o,rfl⟩:=W2 s hi hpos;have hh:=W1 s hi;have hcap:=ars s hi;have s0:=F9 s hi;have s1:Sep (qL p (some ⟨b,o,none⟩) c es).fp w1 w1.drew _:=s0;have e1:IntKind.wrap .i64 ((es.length:Int)-1)=((es.length-1:Nat):Int):=by rw[aH];omega
  have gl:=E4 (es:=es) (i:=es.length-1) (by omega);have g0:=E4 hpos;apply ah;refine lS s0 0 rfl (ah ?_);refine lS s1 0 rfl (ah ?_);apply lS s1 0 rfl;rw[e1];refine⟨by omega,by omega,ah ?_⟩;apply eK iE s1 (i:=1) rfl gl (eo ..) rfl;apply eK iE s1 (i:=1) rfl gl (eo ..) rfl;refine⟨by omega,by omega,ah ?_⟩;refine dW iE (x':=((g es (es.length-1)).1,(g es 0).2)) s1 (i:=1) rfl g0 (eo ..) (by decide) rfl rfl λw3 s3=>?_;refine dW iE (k:=0) (x:=((g es (es.length-1)).1,(g es 0).2)) (x':=g es (es.length-1)) s3 (i:=1) rfl (by grind) (eo ..) (by decide) rfl rfl λw4 s4=>?_;simp[List.set_cons_zero,List.set_cons_succ,g_]at s4;apply ah;apply lS s4 0 rfl;refine PG rfl (by omega) (ah ?_);refine sT s4 0 rfl λw5 s5=>?_;have s6:=TV s5 (i:=1) rfl (m:=es.length-1) (by omega);rw[Vx iE]at s6;have hl:((es.set 0 (g es (es.length-1))).take (es.length-1)).length=es.length-1:=by simp
  refine acP (i:=0) (j:=1) (by decide) hl (by omega) (at3 hh hpos) rfl rfl s6 λw7 es' k1 k2 s7=>?_;have hl':es'.length=es.length-1:=by rw[k2.length_eq,hl]
  refine h1 hpos w7 (some ⟨b,o,none⟩) c es' ((List.Perm.cons _ k2).trans (arp hpos)) (acO s hi ?_ k1);grind
end
end Go.Proofs.YtmegplnmiepfbaaGreatDoor.S.Hp
namespace Go.Proofs.YtmegplnmiepfbaaGreatDoor.S
open Go.Sx
section
variable {α:Type}{S:α->Int->Prop}{E:α->α->Int->Prop}{f:α->Int}{Q Q':List (Int×α)}
structure Ub (S:α->Int->Prop) (E:α->α->Int->Prop) (cap:Int) (f:α->Int) (Q:List (Int×α)) (P:α->α->Int->Prop):Prop where
 ways:∀x,f x<cap->Wy S E x (f x)
 top:∀x,f x<=cap
 key:∀e∈Q,f e.2<=e.1
 xo:∀x n c,E x n c->f n<cap->(f n,n)∈Q\/f x<=f n+c\/cap<=f n+c\/P x n c
variable {cap:Int}{P P':α->α->Int->Prop}
def Ub.ahv [DecidableEq α]{f':α->Int}{y:α}{k:Int}(h:Ub S E cap f Q P)(hk:k<f y)(hw:Wy S E y k)(hf:∀x,f' x=if x=y then k else f x)(hq:∀e,e∈Q'↔e∈Q\/e=(k,y))(hP:∀x n c,P x n c->x=y->(∃d,f n=d/\k<=d+c)\/P' x n c)(hP':∀x n c,P x n c->x≠y->P' x n c)(hy:∀x c,P x y c->False):Ub S E cap f' Q' P' where
 ways x hx:=by
  rw[hf]at hx⊢;split
  ·grind
  ·rename_i e;rw[if_neg e]at hx;exact h.ways x hx
 top x:=by
  rw[hf];have:=h.top y;split
  ·omega
  ·exact h.top x
 key e he:=by
  rcases(hq e).1 he with h1|rfl
  ·have:=h.key e h1;grind
  grind
 xo x n c e hn:=by
  by_cases en:n=y
  ·grind
  ·have efn:f' n=f n:=by grind
   rw[efn]at hn⊢;rcases h.xo x n c e hn with h1|h1|h1|h1
   all_goals grind
def Ub.weaken (h:Ub S E cap f Q P)(hP:∀x n c,P x n c->E x n c->f n<cap->f x<=f n+c\/cap<=f n+c\/P' x n c):Ub S E cap f Q P' where
 ways:=h.ways
 top:=h.top
 key:=h.key
 xo x n c e hn:=by
  rcases h.xo x n c e hn with h1|h1|h1|h1
  all_goals grind
def Ub.pop {k:Int}{y:α}(h:Ub S E cap f Q λ_ _ _=>False)(hq:∀e,e∈Q↔e∈Q'\/e=(k,y)):Ub S E cap f Q' λx n c=>n=y/\f y=k/\E x n c where
 ways:=h.ways
 top:=h.top
 key e he:=h.key e ((hq e).2 (.inl he))
 xo x n c e hn:=by
  rcases h.xo x n c e hn with h1|h1|h1|h1
  all_goals grind
def Ub.lci (h:Ub S E cap f Q λ_ _ _=>False)(hs:∀x k,S x k->f x<=k\/cap<=k):LcI S E cap f Q:=⟨h.ways,h.top,hs,λx n c e hn=>by
 rcases h.xo x n c e hn with h1|h1|h1|h1
 all_goals grind⟩
end
def FA (ds:List Int):Nat:=(ds.map Int.toNat).sum
def aaT {k:Int}:∀{ds:List Int} {i:Nat},i<ds.length->FA (ds.set i k)+(gi ds i).toNat=FA ds+k.toNat
 |[],i,h=>by simp at h
 |d::ds,0,h=>by show(k.toNat+(ds.map Int.toNat).sum)+d.toNat=(d.toNat+(ds.map Int.toNat).sum)+k.toNat;omega
 |d::ds,i+1,h=>by have ih:=aaT (k:=k) (by simpa using h);have ih:FA (ds.set i k)+(gi (d::ds) (i+1)).toNat=FA ds+k.toNat:=ih;show(d.toNat+FA (ds.set i k))+(gi (d::ds) (i+1)).toNat=(d.toNat+FA ds)+k.toNat;omega
def ajb (k:Int):∀n:Nat,FA (List.replicate n k)=n*k.toNat
 |0=>by simp[FA]
 |n+1=>by have ih:=ajb k n;show k.toNat+FA (List.replicate n k)=_;grind
def Bh:Int:=2147483647
def fC (ds:List Int)(x:Int):Int:=if 0<=x/\x<ds.length then gi ds x.toNat else Bh
def ajc {ds:List Int}{x k:Int}(hx:0<=x/\x<ds.length)(y:Int):fC (ds.set x.toNat k) y=if y=x then k else fC ds y:=by
 unfold fC;rw[List.length_set];by_cases hy:0<=y/\y<ds.length
 ·rw[if_pos hy,if_pos hy,Vy (by omega)];omega
 grind
def avN {ds:List Int}{x:Int}(hx:0<=x/\x<ds.length)(hd:∀y∈ds,y<=Bh):atF ds x=if fC ds x<Bh then fC ds x else cg:=by
 unfold atF fC;rw[if_pos hx,if_pos hx];have:=hd _ (fm (i:=x.toNat) (by omega));by_cases h:gi ds x.toNat=2147483647
 ·rw[if_pos h,if_neg (by unfold Bh;omega)]
 ·rw[if_neg h,if_pos (by unfold Bh at*;omega)]
section
variable {m:bJ}{t:Int}
def fM (dm:List (Int×Int))(c:Int):Int:=(fE dm c).getD cg
def unM (m:bJ)(dm:List (Int×Int)):Nat:=(j8 m).countP λc=>decide (fM dm c=cg)
def BF (m:bJ)(t:Int):Int->Int->Int->Prop:=uj (fW m) (cW m) (cW m t)
structure Zj (m:bJ) (t:Int) (dm:List (Int×Int)) (es:List (Int×Int)):Prop where
 dj:PM (gE m t) (BF m t) (fM dm) es
 EK:∀e∈es,eE m e.2=true/\cW m e.2=cW m t/\0<=e.1
 top:∀e∈es,e.1+254*(unM m dm:Int)<=254*((j8 m).length:Int)
 nd:o7 dm
 lt:∀c d,fE dm c=some d->0<=d/\d<1000000000
 n_:es.length+4*unM m dm<=1+4*(j8 m).length
def JC (m:bJ)(t x key s:Int):List (Int×Int):=if 0<=aY m.w m.h x s/\aC m.w m.h (aY m.w m.h x s)=aC m.w m.h t/\cV m (aY m.w m.h x s)≠255 then[(key,aY m.w m.h x s)]else[]
def E5 (m:bJ)(t x key:Int)(j:Nat):List (Int×Int):=(List.range j).flatMap λs:Nat=>JC m t x key s
def Ts (x key:Int)(j:Nat):E5 m t x key (j+1)=E5 m t x key j++JC m t x key j:=by unfold E5;rw[List.range_succ,List.flatMap_append];simp
def amy (x key s:Int):(JC m t x key s).length<=1:=by unfold JC;grind
def W3 (x key:Int):∀j:Nat,(E5 m t x key j).length<=j
 |0=>by simp[E5]
 |j+1=>by have:=W3 x key j;have:=amy (m:=m) (t:=t) x key j;rw[Ts,List.length_append];omega
def af0 {x key:Int}{e:Int×Int}:e∈E5 m t x key 4↔∃s:Int,(0<=s/\s<=3)/\(0<=aY m.w m.h x s/\aC m.w m.h (aY m.w m.h x s)=aC m.w m.h t/\cV m (aY m.w m.h x s)≠255)/\e=(key,aY m.w m.h x s):=by
 rw[E5,List.mem_flatMap];constructor
 ·rintro ⟨s,h1,h2⟩;have h1:=List.mem_range.1 h1;unfold JC at h2;grind
 ·rintro ⟨s,h1,h2,rfl⟩;refine⟨s.toNat,List.mem_range.2 (by omega),?_⟩;unfold JC;grind
variable {dm Kv:List (Int×Int)}{es es':List (Int×Int)}{k x:Int}
def akD:∀x n c,BF m t x n c->0<=c:=λx n c h=>c_ _ _ _ h.1
def Zj.skip (h:Zj m t dm es)(hp:((k,x)::es').Perm es)(hx:fE dm x≠none):Zj m t dm es':=by
 have hm:∀e∈es',e∈es:=λe he=>hp.mem_iff.1 (by simp[he]);refine⟨h.dj.skip (k:=k) (x:=x) ?_ hm (λe he=>?_),λe he=>h.EK e (hm e he),λe he=>h.top e (hm e he),h.nd,h.lt,?_⟩
 ·cases ha:fE dm x with
  |none=>grind
  |some d=>
   have:=h.lt x d ha;rw[fM,ha];show d<cg;unfold cg;omega
 ·grind
 ·have h1:=hp.length_eq;have h2:=h.n_;grind
def Zj.step (hm:cF m)(h:Zj m t dm es)(hp:((k,x)::es').Perm es)(hmin:∀e∈es,k<=e.1)(hx:fE dm x=none)(hnd:o7 Kv)(hd:∀y,fE Kv y=if y=x then some k else fE dm y){RD:List (Int×Int)}(hp2:RD.Perm (es'++E5 m t x (k+cV m x) 4)):
  Zj m t Kv RD/\RD.length+5*unM m Kv+1<=es.length+5*unM m dm:=by
 have hin:(k,x)∈es:=hp.mem_iff.1 (by simp);obtain⟨Jy,hsx,FI⟩:=h.EK _ hin;have aaz:=h.top _ hin;simp only at Jy hsx FI aaz;have hxc:=j7 hm Jy;have hcx:=CP Jy;have hfx:fM dm x=cg:=by unfold fM;rw[hx];rfl
 have hN:((j8 m).length:Int)=m.w*m.h:=by rw[<-hm.len];simp[j8]
 have hN2:=nv ⟨hm.w,hm.h⟩;have aaA:∀y,fM Kv y=if y=x then k else fM dm y:=λy=>by unfold fM;grind
 have hkI:k<cg:=by unfold cg;omega
 have hun:unM m Kv+1<=unM m dm:=by
  refine Sf (zS hm hxc) (by grind) ?_ λy hy=>?_
  all_goals grind
 have EG:∀e,e∈RD↔e∈es'\/e∈E5 m t x (k+cV m x) 4:=λe=>by grind
 have told:∀e∈E5 m t x (k+cV m x) 4,eE m e.2=true/\cW m e.2=cW m t/\e.1=k+cV m x/\BF m t e.2 x (cV m x):=λe he=>by obtain⟨s,hs,⟨h1,h2,h3⟩,rfl⟩:=af0.1 he;have hc:=(vp h1).2;have ho:=(CR hm hc).2 h3;obtain⟨s',hs',hb⟩:=Jw hs h1;exact⟨ho,h2,rfl,⟨ho,Jy,⟨s',hs',hb⟩,rfl⟩,h2,hsx⟩
 have RC:∀e∈es',e∈es:=λe he=>hp.mem_iff.1 (by simp[he]);have hl1:=hp.length_eq;have hl2:=hp2.length_eq;have hl3:=W3 (m:=m) (t:=t) x (k+cV m x) 4;have pC:=h.n_;simp[List.length_cons]at hl1;rw[List.length_append]at hl2;refine⟨⟨?_,?_,?_,hnd,?_,by omega⟩,by omega⟩
 ·refine h.dj.step akD (by grind) hkI hin hmin (by grind) (λy hy=>by grind) (λe he=>?_) (λe he=>?_) λy c hy=>?_
  ·grind
  ·grind
  ·obtain⟨⟨h1,h2,⟨s,hs,h3⟩,rfl⟩,h4,h5⟩:=hy;refine .inr ⟨k+cV m x,Int.le_refl _,(EG _).2 (.inr (af0.2 ?_))⟩;obtain⟨s',hs',hb⟩:=Jw hs (by rw[h3];exact hxc.2.1);rw[h3]at hb;have Kw:=j7 hm h1;exact⟨s',hs',by rw[hb];exact⟨Kw.2.1,h4,(CR hm Kw).1 h1⟩,by rw[hb]⟩
 ·intro e he;rcases(EG e).1 he with h1|h1
  ·exact h.EK e (RC e h1)
  ·have:=told e h1;exact⟨this.1,this.2.1,by rw[this.2.2.1];omega⟩
 ·intro e he;rcases(EG e).1 he with h1|h1
  ·have:=h.top e (RC e h1);omega
  ·have:=(told e h1).2.2.1;omega
 ·intro c d hcd;rw[hd]at hcd;split at hcd
  ·cases hcd;omega
  ·exact h.lt c d hcd
def ao_ (hm:cF m)(ho:eE m t=true):Zj m t [] [(0,t)]:=by
 have hf:∀x,fM [] x=cg:=λx=>rfl;have hu:unM m []=(j8 m).length:=by unfold unM;simp_all
 refine⟨⟨?_,?_,λx _=>hf x,?_,?_,?_⟩,?_,?_,alp,?_,by rw[hu];simp⟩
 ·intro e he;rw[List.mem_singleton]at he;subst he;exact .src ⟨rfl,ho,rfl⟩
 ·grind
 ·rintro x k ⟨rfl,_,rfl⟩;grind
 ·grind
 ·grind
 ·grind
 ·grind
 ·intro c d h;cases h
def ajd (m:bJ)(t:Int)(dm:List (Int×Int)):Prop:=∀c,fE dm c=(if gO (gE m t) (BF m t) c<cg then some (gO (gE m t) (BF m t) c)else none)/\(gO (gE m t) (BF m t) c<cg->0<=gO (gE m t) (BF m t) c/\gO (gE m t) (BF m t) c<1000000000)
def Zj.done (h:Zj m t dm []):ajd m t dm:=λc=>by
 have h1:=h.dj.done c;unfold fM at h1;cases ha:fE dm c with
 |none=>
  grind
 |some d=>
  have h2:=h.lt c d ha;rw[ha]at h1;have h1:gO (gE m t) (BF m t) c=d:=h1;rw[h1];exact⟨by rw[if_pos (by unfold cg;omega)],λ_=>h2⟩
def apa (ho:¬eE m t=true):ajd m t []:=λc=>by
 have:gO (gE m t) (BF m t) c=cg:=ye λd hd=>by
  induction hd with
  |src h=>exact ho h.2.1
  |go _ _ ih=>exact ih
 rw[this];exact⟨by rw[if_neg (Int.lt_irrefl cg)];rfl,λh=>(Int.lt_irrefl cg h).elim⟩
end
end Go.Proofs.YtmegplnmiepfbaaGreatDoor.S
namespace Go.Proofs.YtmegplnmiepfbaaGreatDoor.S
open Go.Sx
attribute [local irreducible] af cD bz bg aA cy b_ St Bx Al App cK cE cB bV aN bG aq bT av ak aW mapA
def amz:P.underlying 207=some (.map 3 3):=by kernel_rfl
def acR (w:World):(zeroValue 3).run P w=.ok (ae 0) w:=Lr.asL w
def vI (n:Int):Value:=ae n
def als {w h c:Int}(hc:bI w h c):iK c:=by have:=Jh hc;unfold iK;omega
section
variable {F:Nat->Prop}{W w w0:World}{L:List As}{fp hp mb hc:Nat}{ha:Option Addr}{gr:uQ}{g:iD}{t:Int}{dm:List (Int×Int)}{es:List (Int×Int)}{vs:List Value}
noncomputable abbrev wiL (hp:Nat)(ha:Option Addr)(hc mb:Nat)(dm es:List (Int×Int)):List As:=[Hp.qL hp ha hc es,fR fA vI mb dm]
def aje {P8:Option Addr->Int->Int->Int->Option Nat->Option Addr->Int->Int->Bool->World->Prop}{Q:Option Nat->World->Prop}{x k:Int}{v0:Value}(hK:sy w0 fp (v0::.pointer (sZ gr.p)::vs))(kg:nO w0 gr g)(hx:eE g.m x=true)(hk:0<=k/\k<10000000000)
  {Zk:List (Int×Int)}(RC:Zk.length<100000000)
  (h:∀es' EL BI w',es'.Perm (Zk++E5 g.m t x (k+cV g.m x) 4)->Sep No w0 w' (wiL hp EL BI mb dm es')->nC P8 Q (sZ fp) t g.m.w g.m.h (some mb) (sZ hp) w'):
  ∀(n s:Nat) (es:List (Int×Int)) (ha:Option Addr) (hc:Nat) (w:World),s+n=4->es.Perm (Zk++E5 g.m t x (k+cV g.m x) s)->Sep No w0 w (wiL hp ha hc mb dm es)->iO P8 Q (n+1) (sZ fp) t g.m.w g.m.h (some mb) (sZ hp) k x s w:=by
 intro n;induction n with
 |zero=>
  intro s es ha hc w hs hp' sp;show mN P8 Q (iO P8 Q 0) _ _ _ _ _ _ _ _ _ _;unfold mN;grind
 |succ n ih=>
  intro s es ha hc w hs hp' sp;show mN P8 Q (iO P8 Q (n+1)) _ _ _ _ _ _ _ _ _ _;rw[mN,bM,aH];have skip:∀(w:World),Sep No w0 w (wiL hp ha hc mb dm es)->¬(0<=aY g.m.w g.m.h x s/\aC g.m.w g.m.h (aY g.m.w g.m.h x s)=aC g.m.w g.m.h t/\cV g.m (aY g.m.w g.m.h x s)≠255)->
    iO P8 Q (n+1) (sZ fp) t g.m.w g.m.h (some mb) (sZ hp) k x ((s:Int)+1) w:=λw sp hno=>by
   refine ih (s+1) es ha hc w (by omega) ?_ sp;rw[Ts];unfold JC;grind
  refine jz sp λw sp _=>?_;by_cases h0:aY g.m.w g.m.h x s<0
  ·grind
  rw[bj h0];refine e_ sp λw sp _=>e_ sp λw sp _=>?_;by_cases h1:aC g.m.w g.m.h (aY g.m.w g.m.h x s)=aC g.m.w g.m.h t
  ·rw[show(aC g.m.w g.m.h (aY g.m.w g.m.h x s) !=aC g.m.w g.m.h t)=false by grind,cond_false];refine ah (dN ((hK.fr (au sp)) 1 _ rfl) (ju (kg.fr (au sp)) ?_));by_cases h2:cV g.m (aY g.m.w g.m.h x s)=255
   ·grind
   rw[cL h2,cond_false];refine ah (dN ((hK.fr (au sp)) 1 _ rfl) (ju (kg.fr (au sp)) ?_));have hcx:=CP hx;rw[aH];have hl:=hp'.length_eq;have htl:=W3 (m:=g.m) (t:=t) x (k+cV g.m x) s;rw[List.length_append]at hl;refine Hp.B0 sp (i:=0) rfl (by omega) λw ha hc RD hp2 sp=>?_;refine ih (s+1) RD ha hc w (by omega) ?_ sp;rw[Ts];unfold JC;grind
  grind
def art (s:Sep F W w (Hp.qL hp ha hc es::L)){e0:Int×Int}{es':List (Int×Int)}(hp':(Hp.g es 0::es').Perm es):∀e∈es,(Hp.g es 0).1<=e.1:=λe he=>by have:=Hp.aeP (Hp.W1 s (i:=0) rfl) he;rw[Hp.XT]at this;omega
def akE {Q:Option Nat->World->Prop}{v0:Value}(hK:sy w0 fp (v0::.pointer (sZ gr.p)::vs))(kg:nO w0 gr g)
  (h:∀ha hc dm w',o7 dm->ajd g.m t dm->Sep No w0 w' (wiL hp ha hc mb dm [])->Q (some mb) w'):
  ∀(f:Nat) (es:List (Int×Int)) (dm:List (Int×Int)) (ha:Option Addr) (hc:Nat) (w:World),es.length+5*unM g.m dm<=f->Zj g.m t dm es->Sep No w0 w (wiL hp ha hc mb dm es)->
   nC (ji Q (f+1)) Q (sZ fp) t g.m.w g.m.h (some mb) (sZ hp) w:=by
 have hm:=kg.ok.may;have hN:(j8 g.m).length<=1048576:=by
  have:=nv ⟨hm.w,hm.h⟩;have e:((j8 g.m).length:Int)=g.m.w*g.m.h:=by rw[<-hm.len];simp[j8]
  omega
 intro f;induction f with
 |zero=>
  intro es dm ha hc w hf I s;have pC:=I.n_;obtain rfl:es=[]:=List.eq_nil_of_length_eq_zero (by omega);refine Hp.DA s (i:=0) rfl (by simp) (λ_ w s=>?_) λh0=>by simp at h0
  show jh Q (ji Q 0) _ _ _ _ _ _ _ _ _ _;unfold jh;exact h ha hc dm w I.nd I.done s
 |succ f ih=>
  intro es dm ha hc w hf I s;have pC:=I.n_;refine Hp.DA s (i:=0) rfl (by omega) (λe w s=>?_) λh0 w EL BI es' hp' sN=>?_
  ·subst e;show jh Q (ji Q (f+1)) _ _ _ _ _ _ _ _ _ _;unfold jh;exact h ha hc dm w I.nd I.done s
  ·have hmin:=art (e0:=(0,0)) s hp';have s:=sN;generalize hge:Hp.g es 0=e0 at hp' hmin⊢;obtain⟨k,x⟩:=e0;have hin:(k,x)∈es:=hp'.mem_iff.1 (by simp);obtain⟨Jy,hsx,FI⟩:=I.EK _ hin;have aaz:=I.top _ hin;show jh Q (ji Q (f+1)) _ _ _ _ _ _ _ _ _ _;unfold jh;have hxI:=als (j7 hm Jy);have hlen:=hp'.length_eq;simp[List.length_cons]at hlen;refine E3 (K:=fA) amz (acR w) s (i:=1) rfl I.nd hxI (λhx=>?_) λd hx=>?_
   ·refine Mx amz s (i:=1) rfl I.nd hxI λKv w' hnd hd _ s=>?_;refine⟨5,aje (Zk:=es') hK kg Jy ⟨FI,by omega⟩ (by omega) (λRD Uc VA w2 hp2 s2=>?_) 4 0 es' EL BI w' rfl (by show es'.Perm (es'++[]);grind) s⟩;obtain⟨I2,hM⟩:=I.step hm hp' hmin hx hnd hd hp2;grind
   ·exact ih es' dm EL BI w (by omega) (I.skip hp' (by grind)) s
def ajf {Q:Option Nat->World->Prop}{v0:Value}(s0:Sep F W w L)(hK:sy w fp (v0::.pointer (sZ gr.p)::vs))(kg:nO w gr g)(ht:bI g.m.w g.m.h t)
  (h:∀mb dm w',o7 dm->ajd g.m t dm->Sep F W w' (fR fA vI mb dm::L)->Fr No w w'->Q (some mb) w'):uD (sZ fp) t w Q:=by
 apply KT;have hm:=kg.ok.may;refine ah (dN (hK 1 _ rfl) ?_);refine jv (bh (F:=No)) kg λw1 s _=>?_;refine aaQ s _ fA vI λmb w1 s=>?_;refine ah (dN ((hK.fr (au s)) 1 _ rfl) (ju (kg.fr (au s)) ?_));have hop:=CR hm ht;by_cases hw:cV g.m t=255
 ·rw[ee hw,cond_true];exact h mb [] w1 alp (apa λe=>(hop.1 e) hw) (dG s0 s (i:=0) rfl) (au s)
 rw[cL hw,cond_false];have ho:=hop.2 hw;refine Hp.RB s λhp w1 s=>?_;refine Hp.B0 s (i:=0) rfl (by simp) λw1 ha hc es hp' s=>?_;have e1:es=[(0,t)]:=by simp_all
 subst e1;have I:=ao_ hm ho;have:=akE hK kg (λha hc dm w' hnd hin s=>h mb dm w' hnd hin (dG s0 s (i:=1) rfl) (au s)) _ [(0,t)] [] ha hc w1 (Nat.le_refl _) I s;refine HM (λa b c w q=>⟨_,q⟩) this
end
def MA:∀l:List Int,flat pB l=l.map λx=>Value.int .i32 x
 |[]=>rfl
 |x::l=>by have:=MA l;simp[flat,List.flatMap_cons,List.map_cons]at this⊢;rw[this];rfl
def aaU (x:Int)(u:Value)(h:u∈pB x):u.oneCell'=true:=by simp[pB,List.mem_singleton]at h;rw[h];rfl
def amA {v z:Int}{n k N:Nat}(hk:k<=n)(hN:n+k<=N):
  (flat pB (List.replicate n v++List.replicate (N-n) z)).take (n*1)++(flat pB ((List.replicate n v++List.replicate (N-n) z).take n)).take (k*1)++(flat pB (List.replicate n v++List.replicate (N-n) z)).drop ((n+k)*1)=flat pB (List.replicate (n+k) v++List.replicate (N-(n+k)) z):=by
 simp only[MA,Nat.mul_one];rw[<-List.map_take,<-List.map_take,<-List.map_drop,<-List.map_append,<-List.map_append];congr 1;rw[List.take_left' (by simp),List.take_replicate,Nat.min_eq_left hk,List.replicate_append_replicate,<-List.drop_drop,List.drop_left' (by simp),List.drop_replicate,Nat.sub_sub]
section
variable {F:Nat->Prop}{W w w0:World}{L:List As}{xa:Option Addr}{xc:Nat}{v:Int}
def ahh {Q:Option Addr->Nat->Nat->World->Prop}{b N:Nat}(hN:N<=1048576)(h:∀w',Sep No w0 w' (ak (sZ b) N N 21 1 (flat pB (List.replicate N v))::L)->Q (sZ b) N N w'):
  ∀(m n:Nat) (w:World),N<=n+m->1<=n->n<=N->Sep No w0 w (ak (sZ b) N N 21 1 (flat pB (List.replicate n v++List.replicate (N-n) 0))::L)->jJ Q (m+1) (sZ b) N N n w:=by
 have done:∀(R:Option Addr->Nat->Nat->Int->World->Prop) (w:World),Sep No w0 w (ak (sZ b) N N 21 1 (flat pB (List.replicate N v++List.replicate (N-N) 0))::L)->jI Q R (sZ b) N N N w:=λR w s=>by unfold jI;grind
 intro m;induction m with
 |zero=>
  intro n w hm h1 h2 s;have:n=N:=by omega
  subst this;exact done _ _ s
 |succ m ih=>
  intro n w hm h1 h2 s;show jI Q (jJ Q (m+1)) _ _ _ _ _;by_cases hn:n=N
  ·grind
  ·rw[jI,bM];apply PI rfl h2;rw[fU];apply PG rfl h2;have s:=ay s;have hT:=(aG s (i:=0) rfl vO (by decide)).top h2;refine Fa (p:=n) dU s rfl rfl rfl rfl (by decide) (i:=0) rfl (hT.src (e:=21) vO aaU) (by omega) (by simp[Addr.add];omega) λw s=>?_;rw[amA (Nat.min_le_left _ _) (by omega)]at s;have e:IntKind.wrap .i64 ((n:Int)+((min n (N-n):Nat):Int))=((n+min n (N-n):Nat):Int):=by rw[aH];omega
   grind
def aeS {N:Nat}{Q:Option Addr->Nat->Nat->World->Prop}(s0:Sep F W w L)(hA:Sl w xa 1 xc 1 pB [v])(hN:1<=N/\N<=1048576)
  (h:∀ra w',Sep F W w' (ak ra N N 21 1 (flat pB (List.replicate N v))::L)->Fr No w w'->Q ra N N w'):pA xa 1 xc N w Q:=by
 apply Gg;rw[bj,kF (by decide),kF (by omega)];apply Dx (by decide) (by omega) (by omega);have e1:((1:Nat):Int)*N=N:=by omega
 rw[e1,bj (by decide),bj,aH];refine tg (bytes:=4) dU (bh (F:=No)) rfl rfl rfl rfl rfl rfl (by decide) vO rfl (λu hu=>aaU 0 u hu) rfl rfl (Nat.le_refl _) (by omega) (by simp[maxLen];omega) λb w' s=>?_;refine Fa (p:=0) dU s rfl rfl rfl rfl (by decide) (i:=0) rfl ((hA.fr (au s)).src (e:=21) vO aaU) (by omega) rfl λw' s=>?_;have hm:min 1 N=1:=by omega
 rw[hm]at s⊢;have e2:(flat pB (List.replicate N 0)).take (0*1)++(flat pB [v]).take (1*1)++(flat pB (List.replicate N 0)).drop ((0+1)*1)=flat pB (List.replicate 1 v++List.replicate (N-1) 0):=by simp only[MA,Nat.zero_mul,List.take_zero,List.nil_append,Nat.mul_one,Nat.zero_add];rw[<-List.map_take,<-List.map_drop,<-List.map_append,List.drop_replicate];rfl
 rw[e2]at s;exact⟨N+1,ahh hN.2 (λw' s=>h _ _ (dG s0 s (i:=0) rfl) (au s)) N 1 w' (by omega) (by omega) hN.1 s⟩
end
def SN (m:bJ)(t:Int):Int->Int->Prop:=Lz (gE m t) (fW m) (cW m) (oy m) t
def EN (m:bJ):Int->Int->Int->Prop:=JO (fW m) (cW m) (oy m)
structure RE (m:bJ) (t:Int) (M:Nat) (es:List (Int×Int)) (ds:List Int) (P:Int->Int->Int->Prop):Prop where
 lc:Ub (SN m t) (EN m) Bh (fC ds) es P
 len:(ds.length:Int)=m.w*m.h
 jG:aiQ ds
 nod:∀e∈es,oy m e.2/\bI m.w m.h e.2/\0<=e.1/\e.1<Bh
 n_:es.length+FA ds<=M
section
variable {m:bJ}{t:Int}{M:Nat}{es es':List (Int×Int)}{ds:List Int}{P P':Int->Int->Int->Prop}{y k:Int}
def Tt (hy:0<=y/\y<ds.length):fC ds y=gi ds y.toNat:=if_pos hy
def RE.ahv (h:RE m t M es ds P)(hy:oy m y)(Kw:bI m.w m.h y)(hk:0<=k/\k<gi ds y.toNat)(hw:Wy (SN m t) (EN m) y k)(hp:es'.Perm (es++[(k,y)]))(hP:∀x n c,P x n c->x=y->(∃d,fC ds n=d/\k<=d+c)\/P' x n c)(hP':∀x n c,P x n c->x≠y->P' x n c)(hn:∀x c,P x y c->False):
  RE m t M es' (ds.set y.toNat k) P':=by
 have T6:0<=y/\y<ds.length:=by rw[h.len];exact Kw.2
 have hfy:=Tt T6;have hr:=h.jG _ (fm (i:=y.toNat) (by omega));have hq:∀e,e∈es'↔e∈es\/e=(k,y):=λe=>by grind
 refine⟨h.lc.ahv (by grind) hw (ajc T6) hq hP hP' hn,by rw[List.length_set];exact h.len,λx hx=>?_,λe he=>?_,?_⟩
 ·rcases List.mem_or_eq_of_mem_set hx with hx|rfl
  ·exact h.jG x hx
  ·omega
 ·rcases(hq e).1 he with he|rfl
  ·exact h.nod e he
  ·exact⟨hy,Kw,hk.1,by unfold Bh;omega⟩
 ·have h1:=hp.length_eq;have h2:=aaT (k:=k) (ds:=ds) (i:=y.toNat) (by omega);have h3:=h.n_;grind
def apd:∀x k,SN m t x k->0<=k:=λx k h=>by obtain⟨_,_,⟨d,hd⟩,rfl⟩:=h;exact m8 kZ (λx n c h=>c_ _ _ _ h.1) (rf kZ (λx n c h=>c_ _ _ _ h.1) hd).1
def af1:∀x n c,EN m x n c->0<=c:=λx n c h=>by
 obtain⟨_,hn2,⟨h1,_,⟨d,hd⟩,rfl⟩|⟨_,h1⟩⟩:=h
 ·exact m8 (λx k h=>by rw[h.2];grind) (λx n c h=>c_ _ _ _ h.1) (rf (λx k h=>by rw[h.2];grind) (λx n c h=>c_ _ _ _ h.1) hd).1
 ·exact c_ _ _ _ h1
def IB (m:bJ)(t:Int)(ds:List Int):Prop:=(ds.length:Int)=m.w*m.h/\∀x,oy m x->bI m.w m.h x->atF ds x=D m t x
def RE.done (hm:cF m)(h:RE m t M [] ds λ_ _ _=>False)(hs:∀x k,SN m t x k->fC ds x<=k\/Bh<=k):IB m t ds:=by
 refine⟨h.len,λx hx hc=>?_⟩;have hxr:0<=x/\x<ds.length:=by rw[h.len];exact hc.2
 rw[avN hxr λy hy=>(h.jG y hy).2,<-au9 hm hx];have hB:∀d,Wy (SN m t) (EN m) x d->gO (SN m t) (EN m) x<Bh:=λd hd=>by have h1:gO (SN m t) (EN m) x=D m t x:=au9 hm hx;have h2:=aqU hm (NO F3 c_ (rS hm) hd);unfold Bh;omega
 exact(LcI.done (h.lc.lci hs) apd af1 hB (by decide)).symm
def ape (hm:cF m):RE m t ((m.w*m.h).toNat*2147483647) [] (List.replicate (m.w*m.h).toNat Bh) λ_ _ _=>False:=by
 have hN:=nv ⟨hm.w,hm.h⟩;have hf:∀x,fC (List.replicate (m.w*m.h).toNat Bh) x=Bh:=λx=>by
  unfold fC;split
  ·rename_i h;unfold gi;grind
  ·rfl
 refine⟨⟨λx hx=>?_,λx=>?_,λe he=>by simp at he,λx n c _ hn=>?_⟩,by grind,λx hx=>?_,λe he=>by simp at he,?_⟩
 ·grind
 ·grind
 ·grind
 ·rw[List.mem_replicate]at hx;rw[hx.2];unfold Bh;omega
 ·rw[ajb];show 0+_<=_;rw[Nat.zero_add];exact Nat.le_refl _
end
section
variable {F:Nat->Prop}{W w w0:World}{L:List As}{fp hp mb hc M:Nat}{ha:Option Addr}{rr:xX}{r:BY}{x:nQ}{gr:uQ}{g:iD}{t:Int}{dm es:List (Int×Int)}{ds:List Int}{vs:List Value}
abbrev seL (hp:Nat)(ha:Option Addr)(hc:Nat)(es:List (Int×Int))(rr:xX)(t ep:Int)(ds:List Int):List As:=[EH rr ⟨t,ep,ds⟩,Hp.qL hp ha hc es]
def aji {Q:Option Addr->World->Prop}{tP:Option Addr->Addr->Option Addr->Int->Int->Bool->World->Prop}{k node:Int}(hm:cF g.m)(hk:0<=k/\k<Bh)(hn:oy g.m node)(hnc:bI g.m.w g.m.h node)(hM:M<4000000000000)
  (h:∀EL BI es' ds' w',RE g.m t M es' ds' (λ_ _ _=>False)->(∀x,fC ds' x<=fC ds x)->es'.length+FA ds'<=es.length+FA ds->Sep No w0 w' (seL hp EL BI es' rr t g.ep ds')->mP tP Q (sZ fp) (aZ rr.p) (sZ hp) w'){ea:Option Addr}{en ec:Nat}:
  ∀(n i:Nat) (es1:List (Int×Int)) (Ud:List Int) (ha1:Option Addr) (Zc:Nat) (w:World),i+n=en->RE g.m t M es1 Ud (λx n c=>n=node/\(x,c)∈(K8 g.m node).drop i)->fC Ud node=k->(∀x,fC Ud x<=fC ds x)->es1.length+FA Ud<=es.length+FA ds->
   Sep No w0 w (ak ea en ec 292 2 (flat DS (K8 g.m node))::seL hp ha1 Zc es1 rr t g.ep Ud)->jX tP Q (n+1) (sZ fp) (aZ rr.p) (sZ hp) k ea en ec en i w:=by
 intro n;induction n with
 |zero=>
  intro i es1 Ud ha1 Zc w hi I hkn hmono hsum s;show mQ tP Q (jX tP Q 0) _ _ _ _ _ _ _ _ _ _;unfold mQ;have hen:=(aG s (i:=0) rfl Rk (by decide)).len;rw[bj];refine h ha1 Zc es1 Ud w ⟨I.lc.weaken λx n c hP _ _=>?_,I.len,I.jG,I.nod,I.n_⟩ hmono hsum (ai s);grind
 |succ n ih=>
  intro i es1 Ud ha1 Zc w hi I hkn hmono hsum s;show mQ tP Q (jX tP Q (n+1)) _ _ _ _ _ _ _ _ _ _;unfold mQ;have hE:=aG s (i:=0) rfl Rk (by decide);rw[bM,wrap_i64 (by omega) (by unfold Bh at hk;have:=I.n_;have:=hE.le;have:=(Sa s (i:=0) rfl).2;simp[maxLen]at this;omega)];refine hE.El rfl (by omega) λp e he yF=>?_;obtain⟨y,c⟩:=e;have hem:=List.mem_of_getElem? he;have hE1:=(ai5 hm hn hnc).1 hem;have hc0:=af1 _ _ _ hE1;have hyn:=hE1.1;have hne:y≠node:=by
   obtain⟨_,_,⟨_,h2,_⟩|⟨h2,_⟩⟩:=hE1
   ·exact h2
   ·exact λe=>h2 (by rw[e])
  have Kw:bI g.m.w g.m.h y:=by
   obtain⟨_,_,⟨h1,_⟩|⟨_,h1⟩⟩:=hE1
   ·have:y∈aX g.m (cW g.m node):=by have h3:=hyn;unfold oy at h3;rwa[show cW g.m y=cW g.m node from h1]at h3
    exact(mV (bU hnc) this).2.1
   ·exact j7 hm h1.1
  have hcb:c<1000000000:=by
   obtain⟨_,_,⟨h1,_,hw,h2⟩|⟨_,h1⟩⟩:=hE1
   ·have e1:=Rv hm (bU hnc) ⟨Kw,h1⟩ ⟨hnc,rfl⟩;have T7:=(mV (bU hnc) hn).1;have h3:=aaG hm (bU hnc) ⟨Kw,h1⟩ ⟨hnc,rfl⟩ T7;have h4:=(aaF hm (bU hnc) ⟨Kw,h1⟩ ⟨hnc,rfl⟩ T7).2 hw;have h5:=h3.2.1 h4;have h2:c=gO (Gu node) (uj (fW g.m) (cW g.m) (aC g.m.w g.m.h node)) y:=h2;omega
   ·have:=G1 h1;omega
  have T6:0<=y/\y<Ud.length:=by rw[I.len];exact Kw.2
  have acu:(K8 g.m node).drop i=(y,c)::(K8 g.m node).drop (i+1):=by obtain⟨Jc,hx⟩:=List.getElem?_eq_some_iff.1 he;rw[List.drop_eq_getElem_cons Jc,hx]
  unfold Bh at hk;refine aL (yF 0 _ rfl) (aL (yF 1 _ rfl) ?_);refine aV s λeb w s=>?_;refine sT s 0 rfl λw s=>?_;refine ax s (i:=0) rfl rfl rfl λw s=>?_;refine lI s 0 rfl (lI s 0 rfl ?_);rw[aH];have s:=pk 99 [2,3,1,0] s;have hkw:Wy (SN g.m t) (EN g.m) y (k+c):=.go hE1 (by have:=I.lc.ways node (by rw[hkn];unfold Bh;omega);rw[hkn]at this;exact this)
  have hlen:=I.n_;refine Mf s T6 ⟨by omega,by omega⟩ (λhno=>?_) λhyes w s=>?_
  ·refine ih (i+1) es1 Ud ha1 Zc w (by omega) ⟨I.lc.weaken λx n2 c2 hP _ _=>?_,I.len,I.jG,I.nod,I.n_⟩ hkn hmono hsum (pk 99 [2,0,1] s);obtain⟨rfl,h2⟩:=hP;rw[acu]at h2;rcases List.mem_cons.1 h2 with h2|h2
   ·obtain⟨rfl,rfl⟩:=h2;left;rw[hkn,Tt T6];exact hno
   ·exact .inr (.inr ⟨rfl,h2⟩)
  ·simp only at hyes;refine lI s 3 rfl (lI s 3 rfl ?_);rw[aH];refine Hp.B0 s (i:=1) rfl (by omega) λw Uc VA RD hp2 s=>?_;have I2:RE g.m t M RD (Ud.set y.toNat (k+c)) (λx n c=>n=node/\(x,c)∈(K8 g.m node).drop (i+1)):=by
    refine I.ahv hyn Kw ⟨by omega,hyes⟩ hkw hp2 (λx n2 c2 hP ex=>?_) (λx n2 c2 hP ex=>?_) λx c2 hP=>hne hP.1
    ·obtain⟨rfl,h2⟩:=hP;rw[acu]at h2;rcases List.mem_cons.1 h2 with h2|h2
     ·obtain⟨_,rfl⟩:=h2;exact .inl ⟨_,rfl,by omega⟩
     ·exact .inr ⟨rfl,h2⟩
    ·obtain⟨rfl,h2⟩:=hP;rw[acu]at h2;rcases List.mem_cons.1 h2 with h2|h2
     ·simp[Prod.mk.injEq]at h2;exact(ex h2.1).elim
     ·exact⟨rfl,h2⟩
   have aaA:=ajc (k:=k+c) T6;have hss:=aaT (k:=k+c) (ds:=Ud) (i:=y.toNat) (by omega);have I9:=hp2.length_eq;rw[List.length_append,List.length_singleton]at I9;refine ih (i+1) RD _ Uc VA w (by omega) I2 (by rw[aaA,if_neg λe=>hne e.symm];exact hkn) (λz=>?_) (by omega) (pk 99 [2,0,1] s);rw[aaA];split
   ·rename_i e;rw[e];have:=hmono y;rw[Tt T6]at this;omega
   ·exact hmono z
end
section
variable {F:Nat->Prop}{W w w0:World}{L:List As}{fp hp mb hc M:Nat}{ha:Option Addr}{rr:xX}{r:BY}{x:nQ}{gr:uQ}{g:iD}{t:Int}{dm es:List (Int×Int)}{ds:List Int}{vs:List Value}
def akF {Q:Option Addr->World->Prop}(hF:sy w0 fp (.pointer (sZ r.p)::vs))(k:E2 w0 r gr.p x)(kg:nO w0 gr g)(I:yU g x)(hf:Oa g x)(hM:M<4000000000000)
  (h:∀ha hc ds w',IB g.m t ds->Sep No w0 w' (seL hp ha hc [] rr t g.ep ds)->Q (sZ rr.p) w'):
  ∀(f:Nat) (es:List (Int×Int)) (ds:List Int) (ha:Option Addr) (hc:Nat) (w:World),es.length+FA ds<=f->RE g.m t M es ds (λ_ _ _=>False)->(∀x k,SN g.m t x k->fC ds x<=k\/Bh<=k)->Sep No w0 w (seL hp ha hc es rr t g.ep ds)->
   mP (iQ Q (f+1)) Q (sZ fp) (aZ rr.p) (sZ hp) w:=by
 have hm:=kg.ok.may;intro f;induction f with
 |zero=>
  intro es ds ha hc w hf' J hs s;obtain rfl:es=[]:=List.eq_nil_of_length_eq_zero (by omega);refine Hp.DA s (i:=1) rfl (by simp) (λ_ w s=>?_) λh0=>by simp at h0
  show iP Q (iQ Q 0) _ _ _ _ _ _ _;unfold iP;exact h ha hc ds w (J.done hm hs) s
 |succ f ih=>
  intro es ds ha hc w hf' J hs s;have pC:=J.n_;refine Hp.DA s (i:=1) rfl (by omega) (λe w s=>?_) λh0 w EL BI es' hp' sN=>?_
  ·subst e;show iP Q (iQ Q (f+1)) _ _ _ _ _ _ _;unfold iP;exact h ha hc ds w (J.done hm hs) s
  ·have s:=sN;generalize hge:Hp.g es 0=e0 at hp'⊢;obtain⟨key,node⟩:=e0;have hin:(key,node)∈es:=hp'.mem_iff.1 (by simp);obtain⟨hn,hnc,FI,hkC⟩:=J.nod _ hin;have hle:=J.lc.key _ hin;have hnr:0<=node/\node<ds.length:=by rw[J.len];exact hnc.2
   rw[Tt hnr]at hle;have hl:=hp'.length_eq;simp[List.length_cons]at hl;have hq:∀e,e∈es↔e∈es'\/e=(key,node):=λe=>by grind
   have J1:RE g.m t M es' ds (λx n c=>n=node/\fC ds node=key/\EN g.m x n c):=⟨J.lc.pop hq,J.len,J.jG,λe he=>J.nod e ((hq e).2 (.inl he)),by omega⟩;show iP Q (iQ Q (f+1)) _ _ _ _ _ _ _;unfold iP;have hrk:=S_ s;have hdr:=J.jG _ (fm (i:=node.toNat) (by omega));apply dz (hrk.cell 2 _ rfl);apply Gn hrk.V (k:=node.toNat) (by omega) (by have hvl:ds.length=rr.n:=hrk.V.len;omega);rw[aH (n:=gi ds node.toNat)];by_cases hgt:key>gi ds node.toNat
   ·rw[bM hgt];refine ih es' ds EL BI w (by omega) ⟨J1.lc.weaken λx n c hP _ _=>?_,J1.len,J1.jG,J1.nod,J1.n_⟩ hs s;obtain⟨_,h2,_⟩:=hP;rw[Tt hnr]at h2;omega
   ·rw[bj hgt];have hkey:fC ds node=key:=by rw[Tt hnr];omega
    refine ah (dN (by have:=(hF.fr (au s)) 0 _ rfl;rw[add_zero]at this;exact this) ?_);refine acJ s (k.fr (au s)) (kg.fr (au s)) I hf hnc hn λea en ec w s _=>?_;have J2:RE g.m t M es' ds (λx n c=>n=node/\(x,c)∈(K8 g.m node).drop 0):=⟨J1.lc.weaken λx n c hP hE _=>by obtain⟨rfl,_,_⟩:=hP;exact .inr (.inr ⟨rfl,by rw[List.drop_zero];exact(ai5 hm hn hnc).2 hE⟩),J1.len,J1.jG,J1.nod,J1.n_⟩
    refine⟨en+1,aji hm ⟨FI,hkC⟩ hn hnc hM (λUc VA RD ds2 w2 J3 hmono hsum s=>?_) en 0 es' ds EL BI w (by omega) J2 hkey (λ_=>Int.le_refl _) (Nat.le_refl _) s⟩;grind
def ajl {Q:Option Addr->World->Prop}(hF:sy w0 fp (.pointer (sZ r.p)::vs))(k:E2 w0 r gr.p x)(kg:nO w0 gr g)(I:yU g x)(hf:Oa g x)(hM:M<4000000000000)(ht:bI g.m.w g.m.h t)(hnd:o7 dm)(hin:ajd g.m t dm)
  (h:∀ha hc ds w',IB g.m t ds->Sep No w0 w' (seL hp ha hc [] rr t g.ep ds)->Q (sZ rr.p) w'){na:Option Addr}{nn nc:Nat}:
  ∀(n i:Nat) (es:List (Int×Int)) (ds:List Int) (ha:Option Addr) (hc:Nat) (w:World),i+n=nn->RE g.m t M es ds (λ_ _ _=>False)->(∀x k,SN g.m t x k->x∈(aX g.m (cW g.m t)).take i->fC ds x<=k\/Bh<=k)->
   Sep No w0 w (ak na nn nc 3 1 (flat one (aX g.m (cW g.m t)))::fR fA vI mb dm::seL hp ha hc es rr t g.ep ds)->jj Q (n+1) (sZ fp) (aZ rr.p) (sZ hp) (some mb) na nn nc nn i w:=by
 have hm:=kg.ok.may;have hs0:=bU ht;have aBU:=Ae hs0;intro n;induction n with
 |zero=>
  intro i es ds ha hc w hi J hs s;show nD Q (jj Q 0) _ _ _ _ _ _ _ _ _ _;unfold nD;have hnl:=(aG s (i:=0) rfl bX (by decide)).len;rw[bj];have hs':∀x k,SN g.m t x k->fC ds x<=k\/Bh<=k:=λx k hx=>hs x k hx (by obtain⟨h1,h2,_⟩:=hx;have h1:x∈aX g.m (cW g.m x):=h1;grind)
  have:=akF hF k kg I hf hM h _ es ds ha hc w (Nat.le_refl _) J hs' (ai (ai s));exact HM (λa b c w q=>⟨_,q⟩) this
 |succ n ih=>
  intro i es ds ha hc w hi J hs s;show nD Q (jj Q (n+1)) _ _ _ _ _ _ _ _ _ _;unfold nD;have hN:=aG s (i:=0) rfl bX (by decide);have hnl:=hN.len;have aqz:(aX g.m (aC g.m.w g.m.h t)).length=nn:=hnl;rw[bM,aH];apply hN.ql rfl (by omega);have hmem:=fm (l:=aX g.m (cW g.m t)) (i:=i) (by omega);obtain⟨hyo,Kw,hys⟩:=mV hs0 hmem;have hyn:oy g.m (gi (aX g.m (cW g.m t)) i):=by show _∈aX g.m (aC g.m.w g.m.h _);rw[hys];exact hmem
  have yH:(aX g.m (cW g.m t)).take (i+1)=(aX g.m (cW g.m t)).take i++[gi (aX g.m (cW g.m t)) i]:=by rw[List.take_add_one,h_ (by omega)];rfl
  generalize gi (aX g.m (cW g.m t)) i=y at hyo Kw hys hyn yH⊢;have T6:0<=y/\y<ds.length:=by rw[J.len];exact Kw.2
  have pC:=J.n_;obtain⟨Zd,hi2⟩:=hin y;have only:∀k,SN g.m t y k->k=gO (gE g.m t) (BF g.m t) y/\gO (gE g.m t) (BF g.m t) y<cg:=λk hk=>by
   obtain⟨_,_,⟨d,hd⟩,rfl⟩:=hk;refine⟨rfl,?_⟩;have h1:=Wy.mono (λx k h=>.src h) (λx n c d e h=>.go e.1 h) (rf kZ (λx n c h=>c_ _ _ _ h.1) hd).1;refine Classical.byContradiction λhno=>?_;have hl:=abz (S:=gE g.m t) (E:=BF g.m t) (λx k h=>Td h) (λx n c h=>G1 h.1) (j8 g.m) (λx d h=>by
    cases h with
    |src h=>exact zS hm (j7 hm (by rw[h.1];exact h.2.1))
    |go e _=>exact zS hm (j7 hm e.1.1)) hd
   have h2:((j8 g.m).length:Int)=g.m.w*g.m.h:=by rw[<-hm.len];simp[j8]
   have h3:=nv ⟨hm.w,hm.h⟩;unfold cg at hno;omega
  have skip:∀(w:World),(∀k,SN g.m t y k->fC ds y<=k\/Bh<=k)->Sep No w0 w (ak na nn nc 3 1 (flat one (aX g.m (cW g.m t)))::fR fA vI mb dm::seL hp ha hc es rr t g.ep ds)->
    jj Q (n+1) (sZ fp) (aZ rr.p) (sZ hp) (some mb) na nn nc nn ((i:Int)+1) w:=λw hy s=>by
   refine ih (i+1) es ds ha hc w (by omega) J (λz k hz hzm=>?_) s;rw[yH]at hzm;rcases List.mem_append.1 hzm with h1|h1
   ·exact hs z k hz h1
   ·rw[List.mem_singleton]at h1;subst h1;exact hy k hz
  refine E3 (K:=fA) amz (acR w) s (i:=1) rfl hnd (als Kw) (λhx=>?_) λd hx=>?_
  ·refine skip w (λk hk=>?_) s;rw[hx]at Zd;rw[if_pos (only k hk).2]at Zd;cases Zd
  ·rw[hx]at Zd;have hlt:gO (gE g.m t) (BF g.m t) y<cg:=by refine Classical.byContradiction λhno=>?_;rw[if_neg hno]at Zd;cases Zd
   rw[if_pos hlt]at Zd;obtain rfl:d=gO (gE g.m t) (BF g.m t) y:=Option.some.inj Zd;obtain⟨hd0,hd1⟩:=hi2 hlt;have s2:=pk 99 [2,3,0,1] s;refine Mf s2 T6 ⟨hd0,by omega⟩ (λhno=>?_) λhyes w s=>?_
   ·refine skip w (λk hk=>.inl ?_) s;rw[(only k hk).1,Tt T6];exact hno
   ·refine Hp.B0 s (i:=1) rfl (by omega) λw Uc VA RD hp2 s=>?_;have hsrc:SN g.m t y (gO (gE g.m t) (BF g.m t) y):=⟨hyn,hys,by refine Classical.byContradiction λhno=>?_;have:gO (gE g.m t) (BF g.m t) y=cg:=ye λd hd=>hno ⟨d,hd⟩;omega,rfl⟩
    have J2:=J.ahv hyn Kw ⟨hd0,hyes⟩ (.src hsrc) hp2 (λ_ _ _ h=>h.elim) (λ_ _ _ h _=>h) λ_ _ h=>h;have aaA:=ajc (k:=gO (gE g.m t) (BF g.m t) y) T6;refine ih (i+1) RD _ Uc VA w (by omega) J2 (λz k hz hzm=>?_) (pk 99 [2,3,0,1] s);rw[aaA];by_cases ez:z=y
    ·subst ez;rw[if_pos rfl,(only k hz).1];exact .inl (Int.le_refl _)
    ·rw[if_neg ez];rw[yH]at hzm;rcases List.mem_append.1 hzm with h1|h1
     ·exact hs z k hz h1
     ·rw[List.mem_singleton]at h1;exact(ez h1).elim
def at6 {b:Nat}{v:Int}(s:Sep F W w (av b 21 [.int .i32 v]::L)):Sl w (sZ b) 1 1 1 pB [v]:=
 aG (g9 s (i:=0) rfl rfl (by decide) (λu hu=>by rw[List.mem_singleton]at hu;rw[hu];rfl)) (i:=0) rfl vO (by decide)
def ajm {Q:Option Addr->World->Prop}(s0:Sep F W w L)(hF:sy w fp (.pointer (sZ r.p)::.pointer (sZ gr.p)::vs))(k:E2 w r gr.p x)(kg:nO w gr g)(I:yU g x)(hf:Oa g x)(ht:bI g.m.w g.m.h t)(wE:g.m.w*g.m.h<=1600)
  (h:∀rr ds w',IB g.m t ds->Sep F W w' (EH rr ⟨t,g.ep,ds⟩::L)->Fr No w w'->Q (sZ rr.p) w'):uB (sZ fp) t w Q:=by
 apply KU;have hm:=kg.ok.may;have hN:=nv ⟨hm.w,hm.h⟩;refine ah (dN (hF 1 _ rfl) ?_);refine jv (bh (F:=No)) kg λw1 s _=>?_;refine ah (dN ((hF.fr (au s)) 1 _ rfl) (rD (kg.fr (au s)) ?_));refine aQ s λib w1 s=>?_;rw[aH,show g.m.w*g.m.h=(((g.m.w*g.m.h).toNat:Nat):Int) by omega];refine aeS s (at6 s) (by omega) λda w1 s _=>?_;refine aQ s λrb w1 s=>?_;have amB:=ape (t:=t) hm;have hMb:(g.m.w*g.m.h).toNat*2147483647<4000000000000:=by omega
 generalize hMe:(g.m.w*g.m.h).toNat*2147483647=M at amB hMb;have s1:=pk 99 [0,1] s;have s1:Sep No w w1 [EH ⟨rb,da,(g.m.w*g.m.h).toNat,(g.m.w*g.m.h).toNat⟩ ⟨t,g.ep,List.replicate (g.m.w*g.m.h).toNat Bh⟩]:=Y9 s1 amB.jG;refine Hp.RB s1 λhp w1 s=>?_;refine ajf s (hF.fr (au s)) (kg.fr (au s)) ht λmb dm w1 hnd hin s _=>?_;have s:=ay s;have hc0:∀{w':World} {L':List As},Sep No w w' L'->w'.cell? (aZ fp)=some (.pointer (sZ r.p)):=λs=>by have:=(hF.fr (au s)) 0 _ rfl;exact this
 refine ah (dN (hc0 s) ?_);refine e_ s λw1 s _=>⟨hc0 s,?_⟩;have hs0:=bU ht;have hps:x.ps[(aC g.m.w g.m.h t).toNat]? =some (x.ps[(aC g.m.w g.m.h t).toNat]'(by have:=I.len;have:=hs0.2;omega)):=List.getElem?_eq_getElem _;generalize x.ps[(aC g.m.w g.m.h t).toNat]'(by grind)=q at hps;have hc:=(Iy I hf hps).1;rw[Int.toNat_of_nonneg hs0.2.1]at hc;have pC:=Ae hs0;rw[show aC g.m.w g.m.h t=(((aC g.m.w g.m.h t).toNat:Nat):Int)from(Int.toNat_of_nonneg hs0.2.1).symm];refine aaJ s (k.fr (au s)) hps (by grind) λna nn nc w1 s _=>?_;rw[hc]at s;refine⟨nn+1,ajl (rr:=⟨rb,da,(g.m.w*g.m.h).toNat,(g.m.w*g.m.h).toNat⟩) hF k kg I hf hMb ht hnd hin (λha hc ds w' hok s'=>h _ ds w' hok (dG s0 s' (i:=0) rfl) (au s')) nn 0 [] (List.replicate (g.m.w*g.m.h).toNat Bh) none 0 w1 (by omega) amB (λx k _ h=>by simp at h) ?_⟩;exact pk 99 [0,1,3,2] s
end
end Go.Proofs.YtmegplnmiepfbaaGreatDoor.S
namespace Go.Proofs.YtmegplnmiepfbaaGreatDoor.S
open Go.Sx
def isS {p:Addr}{A B:Prop}(h:A):cond (!(some p).isNone) A B:=h
attribute [local irreducible] af cD bz bg aA cy b_ St Bx Al App cK cE cB bV aN bG aq bT av ak aW mapA
structure He where
 kept:Option (xX×GY)
 eL:Int
def asP (k:Option (xX×GY)):Option Addr:=k.map λq=>(aZ q.1.p)
def amC (mp gp:Nat)(f:He):List Value:=[.pointer (sZ mp),.pointer (sZ gp),.pointer (asP f.kept),.int .u64 f.eL]
def apg (k:Option (xX×GY)):List As:=match k with
 |some q=>[EH q.1 q.2]
 |none=>[]
def acT (fp mp gp:Nat)(f:He):List As:=av fp 197 (amC mp gp f)::apg f.kept
def uV (fp mp gp:Nat)(f:He):As:=aW True (acT fp mp gp f)
structure acU (g:iD) (f:He):Prop where
 kept:∀q,f.kept=some q->q.2.ep<=g.ep/\(q.2.ep=g.ep->bI g.m.w g.m.h q.2.goal/\IB g.m q.2.goal q.2.ds)
 u:Ta.U f.eL
def Ol (f:He):Option (Int×Int):=f.kept.map λq=>(q.2.goal,q.2.ep)
section
variable {F:Nat->Prop}{W w w0:World}{L:List As}{fp:Nat}{rr:xX}{r:BY}{x:nQ}{gr:uQ}{g:iD}{t:Int}{f:He}{mp gp:Nat}
def Om (s:Sep F W w (uV fp mp gp f::L)):Sep F W w (acT fp mp gp f++L):=(gR s).2
def Tu (s:Sep F W w (acT fp mp gp f++L)):Sep F W w (uV fp mp gp f::L):=dD s trivial
def acV {Q:Option Addr->World->Prop}(s:Sep F W w L)(h:∀fp w',Sep F W w' (uV fp mp gp ⟨none,0⟩::L)->Fr No w w'->Q (sZ fp) w'):GA (sZ mp) (sZ gp) w Q:=by apply abR;refine lC (lC ?_);refine aQ (bh (F:=No)) λfb w1 s1=>?_;have s2:Sep No w w1 [uV fb mp gp ⟨none,0⟩]:=Tu s1;exact h fb w1 (dG s s2 (i:=0) rfl) (au s2)
def On (s:Sep F W w (uV fp mp gp f::L)):sy w fp (amC mp gp f):=by have s:=Om s;exact lD s (i:=0) rfl
def af2 {q:xX×GY}(s:Sep F W w (uV fp mp gp f::L))(h:f.kept=some q):GZ w q.1 q.2:=by have s:=Om s;unfold acT apg at s;rw[h]at s;exact S_ (ai s)
def W4 {Q:Int->World->Prop}(k:sy w fp (amC mp gp f))(h:Q f.eL w):pN (sZ fp) w Q:=by apply Cw;exact lC (ah (aL (k 3 _ rfl) h))
def W5 {Q:Int->World->Prop}(h:Q 0 w):pN Option.none w Q:=Cw _ _ _ h
def YQ {Q:World->Prop}(s:Sep F W w (uV fp mp gp f::L))(h:∀w',Sep F W w' (uV fp mp gp ⟨none,f.eL⟩::L)->Q w'):qG (sZ fp) w Q:=by apply DO;have s:=Om s;have s:=s;refine isS (ah (sT s 0 rfl λw s=>?_));refine h w (Tu ?_);apply gH s;exact List.Sublist.cons_cons _ (List.sublist_append_right _ _)
def YR {Q:Option Addr->World->Prop}(s:Sep F W w (oh gr g::uR r gr.p x::uV fp r.p gr.p f::L))(I:yU g x)(J:acU g f)(ht:bI g.m.w g.m.h t)(wE:g.m.w*g.m.h<=1600)
  (h:∀(x':nQ) rr ds w',yU g x'->Oa g x'->x'.clean=g.ep->x'.eL=aeF (kL g x x.ps.length).length x.eL->IB g.m t ds->
   Sep F W w' (oh gr g::uR r gr.p x'::uV fp r.p gr.p ⟨some (rr,⟨t,g.ep,ds⟩),if Ol f=some (t,g.ep)then f.eL else Ta.sat f.eL 1⟩::L)->Q (sZ rr.p) w'):wT (sZ fp) t w Q:=by
 apply Ni;have kg:=oZ s;have hm:=kg.ok.may;have kf:=On (ai (ai s));have asr:=Mj hm ht;refine lC (ah (dN (kf 1 _ rfl) (ju kg ?_)));rw[cL (by omega),cond_false];refine ah (dN (by have:=kf 0 _ rfl;rw[add_zero]at this;exact this) ?_);refine WX s I λx' w1 I' hfr yF WQ s=>?_;have s:=ay s;have kg:=oZ s;have kf:=On (ai (ai s));have b5:∀(w2:World),Ol f≠some (t,g.ep)->Sep F W w2 (oh gr g::uR r gr.p x'::uV fp r.p gr.p f::L)->oM Q (sZ fp) t w2:=λw2 hne s=>by refine ajm s (On (ai (ai s))) (WU (ai s)) (oZ s) I' hfr ht wE λrr ds w3 hok s _=>?_;have s1:=cu s (L':=uV fp r.p gr.p f::EH rr ⟨t,g.ep,ds⟩::oh gr g::uR r gr.p x'::L) (List.perm_middle (l₁:=[_,_,_]));have s1:=Om s1;have s1:=s1;refine ah (sT s1 0 rfl λw3 s=>?_);refine ah (lI s 0 rfl ?_);apply Ta.BX J.u (by unfold Ta.U;omega);refine ah (ax s (i:=0) rfl rfl rfl λw3 s=>?_);refine ah (lP s 0 rfl ?_);apply h x' rr ds w3 I' hfr yF WQ hok;rw[if_neg hne];have s2:=gH s (List.Sublist.cons_cons _ (List.sublist_append_right _ _));exact cu (Tu s2) (L':=oh gr g::uR r gr.p x'::uV fp r.p gr.p _::L) (List.perm_middle (l₁:=[_,_])).symm
 refine ah (dN (kf 2 _ rfl) ?_);cases hk:f.kept with
 |none=>
  show cond true _ _;refine b5 _ ?_ s;unfold Ol;grind
 |some q=>
  obtain⟨rr0,t0⟩:=q;have hP:asP (some (rr0,t0))=sZ rr0.p:=rfl;apply lC;have kr:=af2 (ai (ai s)) hk;have hcell:w1.drew.cell? ((aZ fp).add 2)=some (.pointer (sZ rr0.p)):=by have:=kf 2 _ rfl;grind
  refine ah (dN hcell (ah (aL (by have:=kr.cell 0 _ rfl;rw[add_zero]at this;exact this) ?_)));have hkg:Ol f=some (t0.goal,t0.ep):=by unfold Ol;rw[hk];rfl
  by_cases hg:t0.goal=t
  ·rw[show(t0.goal !=t)=false by grind,cond_false];refine ah (dN hcell (ah (aL (kr.cell 1 _ rfl) ?_)));refine ah (dN (kf 1 _ rfl) (rD kg ⟨kr.cell 1 _ rfl,hcell,?_⟩));by_cases he:t0.ep=g.ep
   ·rw[show(t0.ep !=g.ep)=false by grind,cond_false];refine ah (dN hcell ?_);have hq:=(J.kept _ hk).2 he;rw[hg]at hq;apply h x' rr0 t0.ds _ I' hfr yF WQ hq.2;have e:f=⟨some (rr0,⟨t,g.ep,t0.ds⟩),f.eL⟩:=by
     cases f with
     |mk kept eL=>
      simp only at hk;rw[hk,<-hg,<-he]
    grind
   grind
  grind
end
end Go.Proofs.YtmegplnmiepfbaaGreatDoor.S
namespace Go.Proofs.YtmegplnmiepfbaaGreatDoor.S
open Go.Sx
attribute [local irreducible] af cD bz bg aA cy b_ St Bx Al App cK cE cB bV aN bG aq bT av ak aW mapA
section
variable {m:bJ}{t sc c:Int}{ds:List Int}
def amE (hm:cF m){e:Int×Int}(h:e∈vM m c):oy m e.1/\bI m.w m.h e.1/\oy m c/\bI m.w m.h c/\0<e.2/\e.2<255:=by obtain⟨ho,s,hs,h1,h2,rfl⟩:=WJ.1 h;obtain⟨h3,h4⟩:=CS h1;have hst:fW m c (gM m.w m.h c s) (cV m (gM m.w m.h c s)):=⟨ho,h2,⟨s,hs,h3.symm⟩,rfl⟩;have hne:cW m c≠cW m (gM m.w m.h c s):=λe=>h4 (by rw[<-h3];exact e.symm);have hn:=rS hm _ _ _ hst hne;exact⟨hn.2,j7 hm h2,hn.1,j7 hm ho,CP h2⟩
def Lb {at_:Int->Int}:(IW m at_ c).Pairwise (λa b=>a.s<b.s)/\∀x∈IW m at_ c,x.c=dZ m.w m.h c/\0<=x.s/\x.s<=3/\eE m c=true:=by
 unfold IW vM;split
 ·rw[GW,List.filterMap_filterMap];have side:∀(a:Nat),a<4->∀x,(F2 m c a).bind (λe=>if at_ e.1=cg then none else some (⟨dZ m.w m.h c,AL m.w m.h c e.1,e.2+at_ e.1⟩:bq))=some x->x.s=a/\x.c=dZ m.w m.h c:=λa ha x h=>by
   unfold F2 at h;split at h
   ·rename_i h4;simp only[Option.bind_some]at h;split at h
    ·cases h
    ·cases h;obtain⟨h5,_⟩:=CS h4.1;refine⟨?_,rfl⟩;rw[h5];exact WI ⟨by omega,by omega⟩ (by grind)
   ·simp at h
  constructor
  ·rw[List.pairwise_filterMap];refine List.Pairwise.imp_of_mem ?_ List.pairwise_lt_range;grind
  grind
 simp_all
def apj {at_:Int->Int}:(IW m at_ c).length<=4:=by
 unfold IW vM;split
 ·unfold GW;grind
 ·simp
def ajn {α β:Type}{f:α->List β}{k:Nat}:∀{l:List α},(∀a∈l,(f a).length<=k)->(l.flatMap f).length<=l.length*k
 |[],_=>by simp
 |a::l,h=>by have h1:=h a (by simp);have h2:=ajn (l:=l) λb hb=>h b (by simp[hb]);rw[List.flatMap_cons,List.length_append,List.length_cons,Nat.add_mul,Nat.one_mul];omega
def W6 {at_:Int->Int}(hs:dY m.w m.h sc):(Fv m at_ t sc).Nodup/\(Fv m at_ t sc).length<=1025:=by
 have pC:=Ae hs;constructor
 ·rw[Fv,List.nodup_append];refine⟨?_,by grind,?_⟩
  ·show List.Pairwise _ _;rw[List.pairwise_flatMap];refine⟨λc _=>List.Pairwise.imp (λh e=>by grind) Lb.1,?_⟩;refine List.Pairwise.imp_of_mem ?_ (akB hs);intro c c' hc BI hne x hx y hy e;have h1:=(Lb.2 x hx).1;have h2:=(Lb.2 y hy).1;obtain⟨_,c1,c2⟩:=mV hs hc;obtain⟨_,c3,c4⟩:=mV hs BI;have g1:=og c1;have g2:=og c3;grind
  ·intro x hx y hy e;obtain⟨c,hc,hx⟩:=List.mem_flatMap.1 hx;have h1:=(Lb.2 x hx).2;grind
 ·unfold Fv;have h1:=ajn (f:=IW m at_) (l:=aX m sc) λc _=>apj;grind
end
section
variable {F:Nat->Prop}{W w w0:World}{L:List As}{rr:xX}{gr:uQ}{g:iD}{t sc:Int}{ds:List Int}{a:Option Addr}{n c:Nat}{es:List bq}
def avR {x:bq}{K:Option Addr->Nat->Nat->World->Prop}(s:Sep F W w (ak a n c 294 3 (flat fV es)::L))(hn:n<=1000000000)
  (k:∀a' c' w',Sep F W w' (ak a' (n+1) c' 294 3 (flat fV (es++[x]))::L)->K a' (n+1) c' w'):Bx [ae x.c,ae x.s,ae x.k] 294 w λp w1=>App P #[278,278] 278 (.slice a n c) (.slice (some p) 1 1) w1 K:=by
 refine aQ s λb w s=>?_;have src:Src w (sZ b) 1 3 (fV x):=⟨rfl,WA x,λj u hj=>by rw[cw,Nat.zero_add];exact cO s (i:=0) rfl rfl hj⟩;refine iy dU s (i:=1) (bytes:=24) rfl rfl rfl rfl rfl rfl (by decide) rfl src (by simp[maxLen];omega) (by omega) (λe=>by cases e) λa1 c1 w1 s1=>?_;have e:flat fV es++fV x=flat fV (es++[x]):=by rw[f_];simp[flat]
 rw[e]at s1;exact k _ _ _ (ai s1)
def W7 {Q:Option Addr->Nat->Nat->World->Prop}(s0:Sep F W w L)(kg:nO w gr g)(kr:GZ w rr ⟨t,g.ep,ds⟩)(hok:IB g.m t ds)(ht:bI g.m.w g.m.h t)(hs:dY g.m.w g.m.h sc)
  (h:∀ra rn rc w',Sep F W w' (ak ra rn rc 294 3 (flat fV (N2 (Fv g.m (D g.m t) t sc)))::L)->Fr No w w'->Q ra rn rc w'):Cp (sZ gr.p) (sZ rr.p) sc w Q:=by
 apply Wb;have hm:=kg.ok.may;have pC:=Ae hs;obtain⟨hnd,hlen⟩:=W6 hs;have hN:=nv ⟨hm.w,hm.h⟩;refine jv (bh (F:=No)) kg λw1 s _=>?_;apply lC;refine YM (kr.fr (au s)) (rD (kg.fr (au s)) ?_);rw[bne_self_eq_false,cond_false];refine xV s (kg.fr (au s)) hs λna nn nc w1 s _=>?_;have hnl:=(aG s (i:=0) rfl bX (by decide)).len;have fin:∀(oa:Option Addr) (on oc:Nat) (w2:World),Sep No w w2 [ak oa on oc 294 3 (flat fV (Fv g.m (D g.m t) t sc))]->kM oa on oc w2 λra rn rc w3=>Q ra rn rc w3:=λoa on oc w2 s=>by have hS:=aG s (i:=0) rfl nP (by decide);have:=hS.len;refine AP s hS (by omega) hnd λra rc w3 s _=>?_;exact h ra on rc w3 (dG s0 s (i:=0) rfl) (au s)
 have nodes:∀(k i:Nat) (oa:Option Addr) (on oc:Nat) (w2:World),i+k=nn->on<=4*i->Sep No w w2 [ak oa on oc 294 3 (flat fV (((aX g.m sc).take i).flatMap (IW g.m (D g.m t)))),ak na nn nc 3 1 (flat one (aX g.m sc))]->
   ow Q (k+1) (sZ gr.p) (sZ rr.p) sc g.m.w g.m.h oa on oc na nn nc nn i w2:=by
  intro k;induction k with
  |zero=>
   intro i oa on oc w2 hi ho s;show vH Q (ow Q 0) _ _ _ _ _ _ _ _ _ _ _ _ _ _;rw[vH,bj];rw[List.take_of_length_le (by omega)]at s;apply aau (kr.fr (au s));refine e_ s λw2 s _=>?_;unfold Fv at fin;by_cases Tm:aC g.m.w g.m.h t=sc
   ·rw[ee Tm,cond_true];apply ju (kg.fr (au s));by_cases hw:cV g.m t=255
    ·rw[hw,bne_self_eq_false,cond_false];rw[if_neg λe=>e.2 hw,List.append_nil]at fin;exact fin oa on oc w2 (pk 99 [0] s)
    ·rw[show(cV g.m t !=255)=true by grind,cond_true];rw[if_pos ⟨Tm,hw⟩]at fin;refine tR s λw2 s _=>?_;refine avR (x:=⟨dZ g.m.w g.m.h t,4,0⟩) s (by omega) λoa oc w2 s=>?_;exact fin oa _ oc w2 (pk 99 [0] s)
   ·rw[cL Tm,cond_false];rw[if_neg λe=>Tm e.1,List.append_nil]at fin;exact fin oa on oc w2 (pk 99 [0] s)
  |succ k ih=>
   intro i oa on oc w2 hi ho s;show vH Q (ow Q (k+1)) _ _ _ _ _ _ _ _ _ _ _ _ _ _;rw[vH,bM];apply(aG s (i:=1) rfl bX (by decide)).ql rfl (by omega);have yH:(aX g.m sc).take (i+1)=(aX g.m sc).take i++[gi (aX g.m sc) i]:=by rw[List.take_add_one,h_ (by omega)];rfl
   generalize gi (aX g.m sc) i=c at yH⊢;refine Wz s (kg.fr (au s)) λea en ec w2 s _=>?_;have yF:=(aG s (i:=0) rfl Rk (by decide)).len;have hc4:(vM g.m c).length<=4:=by
    unfold vM;split
    ·exact Nat.le_trans (List.length_filterMap_le _ _) (by simp)
    ·simp
   have xo:∀(k2 j:Nat) (oa:Option Addr) (on oc:Nat) (w2:World),j+k2=en->on<=4*i+j->Sep No w w2 [ak oa on oc 294 3 (flat fV (((aX g.m sc).take i).flatMap (IW g.m (D g.m t))++((vM g.m c).take j).filterMap λe=>if D g.m t e.1=cg then none else some ⟨dZ g.m.w g.m.h c,AL g.m.w g.m.h c e.1,e.2+D g.m t e.1⟩)),ak ea en ec 292 2 (flat DS (vM g.m c)),ak na nn nc 3 1 (flat one (aX g.m sc))]->
     ru (ow Q (k+1)) Q (k2+1) (sZ gr.p) (sZ rr.p) sc g.m.w g.m.h oa on oc c na nn nc nn i ea en ec en j w2:=by
    intro k2;induction k2 with
    |zero=>
     intro j oa on oc w2 hj ho s;show vG _ Q (ru _ Q 0) _ _ _ _ _ _ _ _ _ _ _ _ _ _ _ _ _ _ _ _;rw[vG,bj,aH];rw[List.take_of_length_le (l:=vM g.m c) (by omega)]at s;apply ih (i+1) oa on oc w2 (by omega) (by omega);rw[yH,List.flatMap_append,List.flatMap_singleton];exact pk 99 [0,2] s
    |succ k2 ih2=>
     intro j oa on oc w2 hj ho s;show vG _ Q (ru _ Q (k2+1)) _ _ _ _ _ _ _ _ _ _ _ _ _ _ _ _ _ _ _ _;rw[vG,bM,aH];refine(aG s (i:=1) rfl Rk (by decide)).El rfl (by omega) λp e he aiO=>?_;have avS:=Ry (f:=λe:Int×Int=>if D g.m t e.1=cg then none else some (⟨dZ g.m.w g.m.h c,AL g.m.w g.m.h c e.1,e.2+D g.m t e.1⟩:bq)) he;obtain⟨h1,h2,h3,h4,h5,h6⟩:=amE hm (List.mem_of_getElem? he);have Er:=hok.2 _ h1 h2;refine aL (aiO 0 _ rfl) (aL (aiO 1 _ rfl) ?_);refine aV s λeb w2 s=>?_;refine sT s 0 rfl λw2 s=>?_;refine ax s (i:=0) rfl rfl rfl λw2 s=>?_;apply lI s 0 rfl;apply aes (kr.fr (au s));rw[Er];by_cases hI:D g.m t e.1=cg
     ·have WW:D g.m t e.1=1099511627776:=hI;rw[WW,bne_self_eq_false,cond_false];apply ih2 (j+1) oa on oc w2 (by omega) (by omega);rw[avS,if_pos hI];show Sep No w w2 [ak oa on oc 294 3 (flat fV (_++(_++[]))),_,_];rw[List.append_nil];exact ai s
     ·have WW:D g.m t e.1≠1099511627776:=hI;rw[show(D g.m t e.1 !=1099511627776)=true by rw[bne_iff_ne];exact WW,cond_true];have hDl:D g.m t e.1<cg:=by
       by_cases q:∃d,Wy (gE g.m t) (fW g.m) e.1 d
       ·exact(G2 hm).2 q
       ·exact(hI (ack q)).elim
      obtain⟨d,hd⟩:=(G2 hm).1 hDl;have hDb:=aqT hm hd;have s:=ay s;refine lI s 0 rfl (lI s 0 rfl ?_);refine tR s λw2 s _=>?_;refine⟨cm s 0 rfl,cm s 0 rfl,?_⟩;refine aan s λw2 s _=>⟨cm s 0 rfl,?_⟩;rw[aH];refine avR (x:=⟨dZ g.m.w g.m.h c,AL g.m.w g.m.h c e.1,e.2+D g.m t e.1⟩) (ai s) (by omega) λoa oc w2 s=>?_;apply ih2 (j+1) oa (on+1) oc w2 (by omega) (by omega);rw[avS,if_neg hI,<-List.append_assoc];exact s
   have s':Sep No w w2 [ak oa on oc 294 3 (flat fV (((aX g.m sc).take i).flatMap (IW g.m (D g.m t))++((vM g.m c).take 0).filterMap λe=>if D g.m t e.1=cg then none else some ⟨dZ g.m.w g.m.h c,AL g.m.w g.m.h c e.1,e.2+D g.m t e.1⟩)),ak ea en ec 292 2 (flat DS (vM g.m c)),ak na nn nc 3 1 (flat one (aX g.m sc))]:=by rw[List.take_zero,List.filterMap_nil,List.append_nil];exact pk 99 [1,0,2] s
   exact⟨en+1,xo en 0 oa on oc w2 (by omega) (by omega) s'⟩
 exact⟨nn+1,nodes nn 0 none 0 0 w1 (by omega) (by omega) (bH s 294 3)⟩
end
structure zW where
 ff:Int
 sa:Option Addr
 sn:Nat
 sc:Nat
 da:Option Addr
 dn:Nat
 dc:Nat
 ra:Option Addr
 rn:Nat
 rc:Nat
 iT:List bq
 ds:List Int
 rs:List Int
def FB (x:zW):List Value:=[ae x.ff,.slice x.sa x.sn x.sc,.slice x.da x.dn x.dc,.slice x.ra x.rn x.rc]
def yC (x:zW):(FB x).length=4:=rfl
def aru (x:zW)(u:Value)(h:u∈FB x):u.oneCell'=true:=by unfold FB at h;simp[List.mem_cons,List.not_mem_nil,or_false]at h;rcases h with rfl|rfl|rfl|rfl<;>rfl
noncomputable def Hf (x:zW):As:=aW True [ak x.sa x.sn x.sc 294 3 (flat fV x.iT),ak x.da x.dn x.dc 3 1 (flat one x.ds),ak x.ra x.rn x.rc 3 1 (flat one x.rs)]
def I1:zW:=⟨0,none,0,0,none,0,0,none,0,0,[],[],[]⟩
structure W8 where
 p:Nat
 lp:Nat
 lr:Lr.aeK
 a:Option Addr
 n:Nat
 c:Nat
structure Bi where
 l:Lr.KS
 es:List zW
 b:Int
 h:Int
 st:Int
 ev:Int
def Hg (r:W8)(x:Bi):List Value:=[.pointer (sZ r.lp),.slice r.a r.n r.c,.int .u64 0,.int .u64 0,.int .u64 x.b,.int .u64 x.h,.int .u64 x.st,.int .u64 x.ev]
noncomputable def XV (r:W8)(k:Int)(x:Bi):List As:=av r.p 135 (Hg r x)::Lr.IA r.lp k x.l r.lr::ak r.a r.n r.c 303 4 (flat FB x.es)::x.es.map Hf
noncomputable def j9 (r:W8)(k:Int)(x:Bi):As:=aW True (XV r k x)
section
variable {F:Nat->Prop}{W w w0:World}{L:List As}{r:W8}{k:Int}{x:Bi}{tw th:Int}{ca la:Option Addr}{cn cc ln lc:Nat}{cs:List Int}{xs:List bq}
def gg {A B T:List As}(is:List Nat)(s:Sep F W w (A++T))(h:is.map (λi=>A[i]?)=B.map some)(hn:is.Nodup):Sep F W w (B++T):=by
 have s1:=dD (cu s List.perm_append_comm) trivial;have s2:Sep F W w (aW True T::B):=by
  refine ck (0::is.map (·+1)) s1 ?_ ?_
  ·rw[List.map_cons,List.map_cons,List.map_map];congr 1
  grind
 exact cu (gR s2).2 List.perm_append_comm
def amF {Z T:List As}{a b:As}(h:T=a::b::(Z++L)):T.Perm (Z++a::b::L):=by subst h;exact(List.Perm.cons _ List.perm_middle.symm).trans List.perm_middle.symm
def acW (s:Sep F W w (j9 r k x::L)):Sep F W w (XV r k x++L):=(gR s).2
def I3 (s:Sep F W w (XV r k x++L)):Sep F W w (j9 r k x::L):=dD s trivial
def arv {q:zW}{i:Nat}(s:Sep F W w L)(hi:L[i]? =some (Hf q)):Sl w q.sa q.sn q.sc 3 fV q.iT/\Sl w q.da q.dn q.dc 1 one q.ds/\Sl w q.ra q.rn q.rc 1 one q.rs:=by have s':=Jd s hi;exact⟨aG s' (i:=0) rfl nP (by decide),aG s' (i:=1) rfl bX (by decide),aG s' (i:=2) rfl bX (by decide)⟩
def B2 {Q:World->Prop}{p i j:Nat}{t:TypeId}{cs:List Value}{v:Int}(s:Sep F W w L)(hi:L[i]? =some (av p t cs))(hj:cs[j]? =some (.int .u64 v))(hu:Ta.U v)
  (h:∀w',Sep F W w' (L.set i (av p t (cs.set j (.int .u64 (Ta.sat v 1)))))->Q w'):sK (some ⟨p,j,none⟩) w Q:=by
 apply ab2;refine ah (dy s rfl hi hj ?_);apply Ta.BX hu (by unfold Ta.U;omega);refine ah (ax s rfl hi ?_ λw' s'=>h w' s');rw[Nat.blt_eq];grind
def Oo {Q:Option Addr->Nat->Nat->Option Addr->Nat->Nat->World->Prop}{da ra:Option Addr}{dn dc rn rc:Nat}{ds rs:List Int}(s0:Sep F W w L)(hD:Sl w da dn dc 1 one ds)(hR:Sl w ra rn rc 1 one rs)(hn:dn<=1000000)(hm:rn<=1000000)
  (h:∀Mq Mr ra' rc' w',Sep F W w' (ak ra' rn rc' 3 1 (flat one rs)::ak Mq dn Mr 3 1 (flat one ds)::L)->Fr No w w'->Q Mq dn Mr ra' rn rc' w'):BN da dn dc ra rn rc w Q:=by
 apply ab3;refine aQ (bh (F:=No)) λfb w1 s=>?_;refine aV s λrb w1 s=>?_;have s:=ay s;refine lS s 1 rfl (lS s 1 rfl ?_);refine Mc s (hD.fr (au s)) (by omega) λMq Mr w1 s _=>⟨cm s 2 rfl,?_⟩;refine Mc s (hR.fr (au s)) (by omega) λra' rc' w1 s _=>?_;refine sT s 2 rfl λw1 s=>?_;refine ax s (i:=2) rfl rfl rfl λw1 s=>?_;refine lS s 2 rfl (lS s 2 rfl ?_);have s':Sep No w w1 [ak ra' rn rc' 3 1 (flat one rs),ak Mq dn Mr 3 1 (flat one ds)]:=pk 99 [0,1] s;exact h Mq Mr ra' rc' w1 (fB s0 s') (au s')
def WrE {n c i:Nat}{es:List zW}{j:Nat}{q:zW}{g o:Nat}{K:World->Prop}(s:Sep F W w L)(hi:L[i]? =some (ak (some ⟨g,o,none⟩) n c 303 4 (flat FB es)))(hn:j<es.length)(h:∀w',Sep F W w' (L.set i (ak (some ⟨g,o,none⟩) n c 303 4 (flat FB (es.set j q))))->K w'):
  St ((⟨g,o+j*4,none⟩:Addr).add 0) (ae q.ff) w λw=>St ((⟨g,o+j*4,none⟩:Addr).add 1) (.slice q.sa q.sn q.sc) w λw=>St ((⟨g,o+j*4,none⟩:Addr).add 2) (.slice q.da q.dn q.dc) w λw=>St ((⟨g,o+j*4,none⟩:Addr).add 3) (.slice q.ra q.rn q.rc) w λw=>K w:=by
 have hg:=List.getElem?_eq_getElem hn;generalize es[j]=e0 at hg;have ad:∀i,((⟨g,o+j*4,none⟩:Addr).add i)=⟨g,o+(j*4+i),none⟩:=λi=>by rw[cw,Nat.add_assoc]
 have Jc:=(List.getElem?_eq_some_iff.1 hi).1;refine dW (x':=⟨q.ff,e0.sa,e0.sn,e0.sc,e0.da,e0.dn,e0.dc,e0.ra,e0.rn,e0.rc,e0.iT,e0.ds,e0.rs⟩) yC s hi hg (ad 0) (by decide) rfl rfl λw s=>?_;refine dW (x:=⟨q.ff,e0.sa,e0.sn,e0.sc,e0.da,e0.dn,e0.dc,e0.ra,e0.rn,e0.rc,e0.iT,e0.ds,e0.rs⟩) (x':=⟨q.ff,q.sa,q.sn,q.sc,e0.da,e0.dn,e0.dc,e0.ra,e0.rn,e0.rc,e0.iT,e0.ds,e0.rs⟩) yC s (by rw[List.getElem?_set_self Jc]) (by grind) (ad 1) (by decide) rfl rfl λw s=>?_;rw[List.set_set,List.set_set]at s;refine dW (x:=⟨q.ff,q.sa,q.sn,q.sc,e0.da,e0.dn,e0.dc,e0.ra,e0.rn,e0.rc,e0.iT,e0.ds,e0.rs⟩) (x':=⟨q.ff,q.sa,q.sn,q.sc,q.da,q.dn,q.dc,e0.ra,e0.rn,e0.rc,e0.iT,e0.ds,e0.rs⟩) yC s (by rw[List.getElem?_set_self Jc]) (by grind) (ad 2) (by decide) rfl rfl λw s=>?_;rw[List.set_set,List.set_set]at s;refine dW (x:=⟨q.ff,q.sa,q.sn,q.sc,q.da,q.dn,q.dc,e0.ra,e0.rn,e0.rc,e0.iT,e0.ds,e0.rs⟩) (x':=q) yC s (by rw[List.getElem?_set_self Jc]) (by grind) (ad 3) (by decide) rfl rfl λw s=>?_;simp_all
structure ShU (x:Bi):Prop where
 b:Ta.U x.b
 h:Ta.U x.h
 st:Ta.U x.st
 ev:Ta.U x.ev
end
structure Eh where
 ff:Int
 iT:List bq
 ds:List Int
 rs:List Int
def zW.p (q:zW):Eh:=⟨q.ff,q.iT,q.ds,q.rs⟩
structure Ue where
 l:Lr.KS
 es:List Eh
 b:Int
 h:Int
 st:Int
 ev:Int
def Bi.p (x:Bi):Ue:=⟨x.l,x.es.map zW.p,x.b,x.h,x.st,x.ev⟩
def bump (c:Bool)(v:Int):Int:=if c=true then Ta.sat v 1 else v
def aaW:Eh:=⟨0,[],[],[]⟩
def W9 (es:List Eh)(slot:Nat)(had:Bool)(ff:Int)(xs:List bq):Bool:=had&&(match es[slot]? with|some q=>q.ff==ff&&decide (q.iT=xs)|none=>false)
def CX (k:Int)(y:Ue)(key:Int×Int)(q:Eh):Ue:=
 let u:=Lr.kT k y.l key;let Zk:=if u.1.1=(y.es.length:Int)then y.es++[aaW]else y.es
 if W9 Zk u.1.1.toNat u.1.2.1 q.ff q.iT=true then⟨u.2,Zk,y.b,Ta.sat y.h 1,y.st,y.ev⟩
 else⟨u.2,Zk.set u.1.1.toNat q,Ta.sat y.b 1,y.h,bump u.1.2.1 y.st,bump u.1.2.2 y.ev⟩
section
variable {F:Nat->Prop}{W w w0:World}{L:List As}{r:W8}{k:Int}{x:Bi}{tw th:Int}{ca la:Option Addr}{cn cc ln lc:Nat}{cs:List Int}{xs:List bq}
noncomputable abbrev W_ (r:W8)(k:Int)(x:Bi)(rb tb:Nat)(tw th:Int)(ca:Option Addr)(cn cc:Nat)(L:List As):List As:=
 Lr.IA r.lp k x.l r.lr::av rb 213 [.slice none 0 0,.slice none 0 0]::av tb 84 [ae tw,ae th,.slice ca cn cc]::av r.p 135 (Hg r x)::ak r.a r.n r.c 303 4 (flat FB x.es)::(x.es.map Hf++L)
def arw {A B:As}(s:Sep F W w (A::B::j9 r k x::L)):Sep F W w (Lr.IA r.lp k x.l r.lr::A::B::av r.p 135 (Hg r x)::ak r.a r.n r.c 303 4 (flat FB x.es)::(x.es.map Hf++L)):=by have s1:=acW (cu s ((List.Perm.cons _ (List.Perm.swap _ _ _)).trans (List.Perm.swap _ _ _)));have s2:=cu s1 (amF rfl).symm;exact gg (A:=[_,_,_,_,_]) (B:=[_,_,_,_,_]) [3,0,1,2,4] s2 rfl (by decide)
def arx {A B:As}(s:Sep F W w (A::B::av r.p 135 (Hg r x)::Lr.IA r.lp k x.l r.lr::ak r.a r.n r.c 303 4 (flat FB x.es)::(x.es.map Hf++L))):Sep F W w (A::B::j9 r k x::L):=
 cu (I3 (cu s (amF rfl))) ((List.Perm.swap _ _ _).trans (List.Perm.cons _ (List.Perm.swap _ _ _)))
def XW {A B C D E:As}{es:List zW}(s:Sep F W w (A::B::C::D::E::(es.map Hf++L))):Sep F W w L:=
 gH s (.cons _ (.cons _ (.cons _ (.cons _ (.cons _ (List.sublist_append_right _ _))))))
def alw {Q:Option Addr->Nat->Nat->Option Addr->Nat->Nat->Int->World->Prop}{rb tb slot g o:Nat}{ff:Int}(hT:sA tw th cs)(hok:sw tw th cs xs=true)(hnd:xs.Nodup)(qu:ln<2000)(hC:∀w',Sep F W w' L->Sl w' ca cn cc 1 bp cs)(hX:∀w',Sep F W w' L->Sl w' la ln lc 3 fV xs)(Cd:slot<x.es.length)(hu:Ta.U x.b)(ha:r.a=some ⟨g,o,none⟩)
  (s:Sep F W w (W_ r k x rb tb tw th ca cn cc L))
  (h:∀q da dc ra rc w',q.ff=ff->q.iT=xs->q.ds=jA tw th cs xs->q.rs=oe tw th cs xs->Sep F W w' (ak ra cs.length rc 3 1 (flat one (oe tw th cs xs))::ak da cs.length dc 3 1 (flat one (jA tw th cs xs))::j9 r k {x with es:=x.es.set slot q,b:=Ta.sat x.b 1}::L)->Q da cs.length dc ra cs.length rc 0 w'):
  pW Q (sZ r.p) ff la ln lc (aZ tb) (aZ rb) ⟨g,o+slot*4,none⟩ w:=by
 have wE:=hT.small;apply ah;refine B2 s (i:=3) rfl rfl hu λw s=>?_;refine lI s 2 rfl (lI s 2 rfl (lS s 2 rfl ?_));refine YO s (hC _ (XW s)) (hX _ (XW s)) hT hok hnd qu λda dc ra rc w s _=>?_;refine aV s λfb w s=>?_;refine sT s 0 rfl λw s=>?_;refine ax s (i:=0) rfl rfl rfl λw s=>?_;have s:=ay s;refine lS s 0 rfl (lS s 0 rfl ?_);refine WD s (hX _ (XW (ai (ai (ai s))))) (by omega) λsa sc w s _=>?_;refine⟨cm s 1 rfl,cm s 1 rfl,?_⟩;rw[ha]at s;refine WrE (q:=⟨ff,sa,ln,sc,da,cs.length,dc,ra,cs.length,rc,xs,jA tw th cs xs,oe tw th cs xs⟩) s (i:=8) rfl Cd λw s=>?_;refine lS s 1 rfl (lS s 1 rfl ?_);refine Oo s (aG s (i:=3) rfl bX (by decide)) (aG s (i:=2) rfl bX (by decide)) (by omega) (by omega) λMq Mr ra' rc' w s _=>?_;refine sT s 7 rfl λw s=>?_;refine ax s (i:=7) rfl rfl rfl λw s=>?_;refine lS s 7 rfl (lS s 7 rfl ?_);apply h ⟨ff,sa,ln,sc,da,cs.length,dc,ra,cs.length,rc,xs,jA tw th cs xs,oe tw th cs xs⟩ Mq Mr ra' rc' w rfl rfl rfl rfl;rw[<-ha]at s;have s1:=gg (A:=[_,_,_,_,_,_,_,_,_,_,_]) (B:=[ak sa ln sc 294 3 (flat fV xs),ak da cs.length dc 3 1 (flat one (jA tw th cs xs)),ak ra cs.length rc 3 1 (flat one (oe tw th cs xs)),ak ra' cs.length rc' 3 1 (flat one (oe tw th cs xs)),ak Mq cs.length Mr 3 1 (flat one (jA tw th cs xs)),av r.p 135 (Hg r {x with b:=Ta.sat x.b 1}),Lr.IA r.lp k x.l r.lr,ak r.a r.n r.c 303 4 (flat FB (x.es.set slot ⟨ff,sa,ln,sc,da,cs.length,dc,ra,cs.length,rc,xs,jA tw th cs xs,oe tw th cs xs⟩))]) [2,5,4,0,1,9,6,10] s ?_ (by decide)
 ·have s2:=dD (Ps:=[_,_,_]) s1 trivial;simp[List.append_eq,List.cons_append,List.nil_append]at s2;have s3:=Tk (i:=5+slot) s2;have e:∀(A B C D E G:As),(A::B::C::D::E::(x.es.map Hf++L)).set (5+slot) G=A::B::C::D::E::((x.es.map Hf).set slot G++L):=λA B C D E G=>by rw[Nat.add_comm 5 slot];simp[List.set_cons_succ];rw[List.set_append_left _ _ (by rw[List.length_map];exact Cd)]
  rw[e]at s3;rw[show(x.es.map Hf).set slot (aW True [ak sa ln sc 294 3 (flat fV xs),ak da cs.length dc 3 1 (flat one (jA tw th cs xs)),ak ra cs.length rc 3 1 (flat one (oe tw th cs xs))])=(x.es.set slot ⟨ff,sa,ln,sc,da,cs.length,dc,ra,cs.length,rc,xs,jA tw th cs xs,oe tw th cs xs⟩).map Hf from by rw[List.map_set];rfl]at s3;have s4:=I3 (cu s3 (L':=XV r k ⟨x.l,x.es.set slot ⟨ff,sa,ln,sc,da,cs.length,dc,ra,cs.length,rc,xs,jA tw th cs xs,oe tw th cs xs⟩,Ta.sat x.b 1,x.h,x.st,x.ev⟩++(ak ra' cs.length rc' 3 1 (flat one (oe tw th cs xs))::ak Mq cs.length Mr 3 1 (flat one (jA tw th cs xs))::L)) ?_)
  ·exact cu s4 ((List.Perm.swap _ _ _).trans (List.Perm.cons _ (List.Perm.swap _ _ _)))
  ·exact amF rfl
 ·rfl
def apk {c:Bool}{v:Int}(h:Ta.U v):Ta.U (bump c v):=by
 unfold bump;split
 ·exact Ta.G6 h (by unfold Ta.U;omega)
 ·exact h
attribute [local irreducible] pW in
theorem at7 {Q:Option Addr->Nat->Nat->Option Addr->Nat->Nat->Int->World->Prop}{rb tb slot g o:Nat}{ff:Int}{had out:Bool}(hT:sA tw th cs)(hok:sw tw th cs xs=true)(hnd:xs.Nodup)(qu:ln<2000)(hC:∀w',Sep F W w' L->Sl w' ca cn cc 1 bp cs)(hX:∀w',Sep F W w' L->Sl w' la ln lc 3 fV xs)(Cd:slot<x.es.length)(hu:ShU x)(ha:r.a=some ⟨g,o,none⟩)
  (s:Sep F W w (W_ r k x rb tb tw th ca cn cc L))
  (h:∀q da dc ra rc w',q.ff=ff->q.iT=xs->q.ds=jA tw th cs xs->q.rs=oe tw th cs xs->Sep F W w' (ak ra cs.length rc 3 1 (flat one (oe tw th cs xs))::ak da cs.length dc 3 1 (flat one (jA tw th cs xs))::j9 r k ⟨x.l,x.es.set slot q,Ta.sat x.b 1,x.h,bump had x.st,bump out x.ev⟩::L)->Q da cs.length dc ra cs.length rc 0 w'):
  jt Q (sZ r.p) ff la ln lc (aZ tb) (aZ rb) had out ⟨g,o+slot*4,none⟩ w:=by
 have hb:=hu.b;have b12:∀(x':Bi) (w:World),x'.l=x.l->x'.es=x.es->x'.b=x.b->x'.h=x.h->x'.st=bump had x.st->x'.ev=x.ev->Sep F W w (W_ r k x' rb tb tw th ca cn cc L)->pX Q (sZ r.p) ff la ln lc (aZ tb) (aZ rb) out ⟨g,o+slot*4,none⟩ w:=by
  rintro ⟨l',es',b',h',st',ev'⟩ w e1 e2 e3 e4 e5 e6 s;subst e1 e2 e3 e4 e5 e6;unfold pX;cases out with
  |true=>
   rw[cond_true];apply ah;refine B2 s (i:=3) rfl rfl hu.ev λw s=>?_;exact alw (x:=⟨x.l,x.es,x.b,x.h,bump had x.st,Ta.sat x.ev 1⟩) hT hok hnd qu hC hX Cd hb ha s h
  |false=>exact alw (x:=⟨x.l,x.es,x.b,x.h,bump had x.st,x.ev⟩) hT hok hnd qu hC hX Cd hb ha s h
 unfold jt;cases had with
 |true=>
  rw[cond_true];apply ah;refine B2 s (i:=3) rfl rfl hu.st λw s=>?_;exact b12 ⟨x.l,x.es,x.b,x.h,Ta.sat x.st 1,x.ev⟩ w rfl rfl rfl rfl rfl rfl s
 |false=>exact b12 x w rfl rfl rfl rfl rfl rfl s
attribute [local irreducible] jt in
theorem apl {Q:Option Addr->Nat->Nat->Option Addr->Nat->Nat->Int->World->Prop}{rb tb slot:Nat}{ff:Int}{had out:Bool}(hT:sA tw th cs)(hok:sw tw th cs xs=true)(hnd:xs.Nodup)(qu:ln<2000)(hC:∀w',Sep F W w' L->Sl w' ca cn cc 1 bp cs)(hX:∀w',Sep F W w' L->Sl w' la ln lc 3 fV xs)(Cd:slot<x.es.length)(hu:ShU x)
  (hh:had=true->∀q,x.es[slot]? =some q->q.ff=ff->q.iT=xs->q.ds=jA tw th cs xs/\q.rs=oe tw th cs xs)(Mh:∀q∈x.es,q.iT.length<2000)
  (s:Sep F W w (W_ r k x rb tb tw th ca cn cc L))
  (h:∀x' da dc ra rc w',x'.l=x.l->x'.p=(if W9 x.p.es slot had ff xs=true then⟨x.l,x.p.es,x.b,Ta.sat x.h 1,x.st,x.ev⟩else⟨x.l,x.p.es.set slot ⟨ff,xs,jA tw th cs xs,oe tw th cs xs⟩,Ta.sat x.b 1,x.h,bump had x.st,bump out x.ev⟩)->Sep F W w' (ak ra cs.length rc 3 1 (flat one (oe tw th cs xs))::ak da cs.length dc 3 1 (flat one (jA tw th cs xs))::j9 r k x'::L)->Q da cs.length dc ra cs.length rc 0 w'):
  qY Q (sZ r.p) ff la ln lc (aZ tb) (aZ rb) slot had out w:=by
 have kes:=aG s (i:=4) rfl yC (by decide);obtain⟨q0,hq0⟩:∃q,x.es[slot]? =some q:=⟨_,List.getElem?_eq_getElem Cd⟩;have hp0:x.p.es[slot]? =some q0.p:=by show(x.es.map zW.p)[slot]? =_;rw[List.getElem?_map,hq0];rfl
 have aeD:∀w g o,r.a=some ⟨g,o,none⟩->W9 x.p.es slot had ff xs=false->Sep F W w (W_ r k x rb tb tw th ca cn cc L)->jt Q (sZ r.p) ff la ln lc (aZ tb) (aZ rb) had out ⟨g,o+slot*4,none⟩ w:=λw g o ha ay7 s=>by
  refine at7 hT hok hnd qu hC hX Cd hu ha s λq da dc ra rc w' e1 e2 e3 e4 s=>?_;refine h ⟨x.l,x.es.set slot q,Ta.sat x.b 1,x.h,bump had x.st,bump out x.ev⟩ da dc ra rc w' rfl ?_ s;rw[ay7,if_neg (by decide)];have:q.p=⟨ff,xs,jA tw th cs xs,oe tw th cs xs⟩:=by rw[zW.p,e1,e2,e3,e4]
  rw[<-this];unfold Bi.p;simp[List.map_set]
 refine ah (lS s 3 rfl ?_);have hn:=kes.len;have hqs:=Mh q0 (List.mem_of_getElem? hq0);refine C7 s (i:=4) rfl rfl (by omega) λg o ha=>?_;rw[cw,Int.toNat_natCast];have rd:∀{w:World} {x':Bi},x'.es=x.es->Sep F W w (W_ r k x' rb tb tw th ca cn cc L)->Sep F W w (Lr.IA r.lp k x'.l r.lr::av rb 213 [.slice none 0 0,.slice none 0 0]::av tb 84 [ae tw,ae th,.slice ca cn cc]::av r.p 135 (Hg r x')::ak (some ⟨g,o,none⟩) r.n r.c 303 4 (flat FB x.es)::(x.es.map Hf++L)):=λe s=>by rw[<-ha,<-e];exact s
 have ad:∀j,(⟨g,o+slot*4,none⟩:Addr).add j=⟨g,o+(slot*4+j),none⟩:=λj=>by rw[cw,Nat.add_assoc]
 have kq:∀{w:World} {x':Bi},x'.es=x.es->Sep F W w (W_ r k x' rb tb tw th ca cn cc L)->Sl w q0.sa q0.sn q0.sc 3 fV q0.iT/\Sl w q0.da q0.dn q0.dc 1 one q0.ds/\Sl w q0.ra q0.rn q0.rc 1 one q0.rs:=λ{w x'} e s=>by apply arv (i:=5+slot) s;rw[Nat.add_comm 5 slot];simp[List.getElem?_cons_succ];rw[List.getElem?_append_left (by rw[List.length_map,e];exact Cd),List.getElem?_map,e,hq0];rfl
 cases had with
 |false=>
  exact aeD _ g o ha rfl s
 |true=>
  apply eK yC (rd rfl s) (i:=4) rfl hq0 (ad 0) rfl;by_cases hv:q0.ff=ff
  ·rw[show(q0.ff==ff)=true from beq_iff_eq.2 hv,cond_true];apply IP yC (rd rfl s) (i:=4) rfl hq0 (ad 1) rfl;have kq0:=(kq rfl s).1;refine aaC kq0 (hX _ (XW s)) s (by have:=kq0.len;omega) (by omega) λw s _=>?_;by_cases he:q0.iT=xs
   ·rw[bM he];apply ah;refine B2 s (i:=3) rfl rfl hu.h λw s=>?_;have s:=s;have kq1:=(kq (x':=⟨x.l,x.es,x.b,Ta.sat x.h 1,x.st,x.ev⟩) rfl s).2;obtain⟨hd,hr⟩:=hh rfl q0 hq0 hv he;have Zb:q0.dn=cs.length:=by rw[<-kq1.1.len,hd];exact aaD
    have hrl:q0.rn=cs.length:=by rw[<-kq1.2.len,hr];simp[oe]
    have wE:=hT.small;apply IP yC (rd (x':=⟨x.l,x.es,x.b,Ta.sat x.h 1,x.st,x.ev⟩) rfl s) (i:=4) rfl hq0 (by rw[add_add,ad]) rfl;apply IP yC (rd (x':=⟨x.l,x.es,x.b,Ta.sat x.h 1,x.st,x.ev⟩) rfl s) (i:=4) rfl hq0 (by rw[add_add,ad]) rfl;refine Oo s kq1.1 kq1.2 (by omega) (by omega) λMq Mr ra' rc' w s _=>?_;refine sT s 3 rfl λw s=>?_;refine ax s (i:=3) rfl rfl rfl λw s=>?_;refine lS s 3 rfl (lS s 3 rfl ?_);rw[Zb,hrl]at s⊢;refine h ⟨x.l,x.es,x.b,Ta.sat x.h 1,x.st,x.ev⟩ Mq Mr ra' rc' w rfl ?_ ?_
    ·have:W9 x.p.es slot true ff xs=true:=by rw[W9,hp0];show(true&&(q0.ff==ff&&decide (q0.iT=xs)))=true;rw[hv,he];simp
     rw[this,if_pos rfl];rfl
    ·rw[hd,hr]at s;exact arx (gg (A:=[_,_,_,_,_,_,_]) (B:=[_,_,_,_,_]) [0,1,5,2,6] s rfl (by decide))
   ·rw[bj he];refine aeD _ g o ha ?_ s;rw[W9,hp0];show(true&&(q0.ff==ff&&decide (q0.iT=xs)))=false;rw[decide_eq_false he,Bool.and_false,Bool.and_false]
  ·rw[show(q0.ff==ff)=false from beq_eq_false_iff_ne.2 hv,cond_false];refine aeD _ g o ha ?_ s;rw[W9,hp0];show(true&&(q0.ff==ff&&decide (q0.iT=xs)))=false;rw[show(q0.ff==ff)=false from beq_eq_false_iff_ne.2 hv,Bool.false_and,Bool.and_false]
end
structure aeT (k:Int) (y:Ue):Prop where
 one:1<=k
 room:k<=100000
 good:Lr.Good k y.l
 len:y.es.length=y.l.length
 b:Ta.U y.b
 h:Ta.U y.h
 st:Ta.U y.st
 ev:Ta.U y.ev
 n_:∀q∈y.es,q.iT.length<2000
def XR {k:Int}{l:Lr.KS}{key:Int×Int}(hk:1<=k)(hg:Lr.Good k l):∃m:Nat,(Lr.kT k l key).1.1=m/\((m=l.length/\(Lr.kT k l key).1.2.1=false/\(Lr.kT k l key).1.2.2=false/\(Lr.kT k l key).2.length=l.length+1)\/(m<l.length/\(Lr.kT k l key).2.length=l.length)):=by
 unfold Lr.kT;cases hf:l.find? (λp=>decide (p.1=key))with
 |some p=>
  have hp:=List.mem_of_find?_eq_some hf;have he:p.1=key:=by grind
  refine⟨p.2,rfl,.inr ⟨hg.lt p hp,?_⟩⟩;have:∀{l:Lr.KS},(l.map (·.1)).Nodup->p∈l->(l.filter λq=>!decide (q.1=key)).length+1=l.length:=by
   intro l;induction l with
   |nil=>grind
   |cons a l ih=>
    intro hn hp;rcases List.mem_cons.1 hp with rfl|hp
    ·rw[List.filter_cons_of_neg (by simp[he]),List.length_cons];congr 1;refine congrArg List.length (List.filter_eq_self.2 λb hb=>?_);grind
    grind
  exact this hg.F7 hp
 |none=>
  simp only;split
  ·grind
  ·cases hl:l.getLast? with
   |none=>
    grind
   |some p=>
    have hp:=List.mem_of_getLast? hl;refine⟨p.2,rfl,.inr ⟨hg.lt p hp,?_⟩⟩;grind
def ary {k:Int}{y:Ue}{key:Int×Int}{q:Eh}(h:aeT k y)(hq:q.iT.length<2000):aeT k (CX k y key q):=by
 obtain⟨m,hm,hc⟩:=XR h.one h.good;have hg:=Lr.aaO (key:=key) h.one h.good;have pC:∀e∈(if(Lr.kT k y.l key).1.1=(y.es.length:Int)then y.es++[aaW]else y.es),e.iT.length<2000:=by
  intro e he;split at he
  ·rcases List.mem_append.1 he with he|he
   ·exact h.n_ e he
   ·rw[List.mem_singleton]at he;rw[he];exact Nat.zero_lt_succ _
  ·exact h.n_ e he
 have hlen:(if(Lr.kT k y.l key).1.1=(y.es.length:Int)then y.es++[aaW]else y.es).length=(Lr.kT k y.l key).2.length:=by
  rw[hm,h.len];rcases hc with⟨h1,_,_,h2⟩|⟨h1,h2⟩
  ·rw[A5,List.length_append,h2,h.len];rfl
  ·rw[fU,h2,h.len]
 unfold CX;simp only;generalize (if(Lr.kT k y.l key).1.1=(y.es.length:Int)then y.es++[aaW]else y.es)=Zk at pC hlen⊢;split
 ·exact⟨h.one,h.room,hg,hlen,h.b,Ta.G6 h.h (by unfold Ta.U;omega),h.st,h.ev,pC⟩
 ·refine⟨h.one,h.room,hg,by grind,Ta.G6 h.b (by unfold Ta.U;omega),h.h,apk h.st,apk h.ev,λe he=>?_⟩;grind
section
variable {F:Nat->Prop}{W w w0:World}{L:List As}{r:W8}{k:Int}{x:Bi}{tw th:Int}{ca la:Option Addr}{cn cc ln lc:Nat}{cs:List Int}{xs:List bq}
def aua (s:Sep F W w L):Sep F W w (Hf I1::L):=by have s1:=bH (bH (bH s 3 1) 3 1) 294 3;exact dD s1 trivial
attribute [local irreducible] qY in
theorem Xa {Q:Option Addr->Nat->Nat->Option Addr->Nat->Nat->Int->World->Prop}{goal MB ff:Int}(hx:aeT k x.p)(hT:sA tw th cs)(hok:sw tw th cs xs=true)(hnd:xs.Nodup)(qu:ln<2000)(hC:∀w',Sep F W w' L->Sl w' ca cn cc 1 bp cs)(hX:∀w',Sep F W w' L->Sl w' la ln lc 3 fV xs)(hkey:Lr.Zg (goal,MB))
  (hh:(Lr.kT k x.l (goal,MB)).1.2.1=true->∀q,x.p.es[(Lr.kT k x.l (goal,MB)).1.1.toNat]? =some q->q.ff=ff->q.iT=xs->q.ds=jA tw th cs xs/\q.rs=oe tw th cs xs)
  (s:Sep F W w (j9 r k x::L))
  (h:∀r' x' da dc ra rc w',r'.p=r.p->x'.p=CX k x.p (goal,MB) ⟨ff,xs,jA tw th cs xs,oe tw th cs xs⟩->Sep F W w' (ak ra cs.length rc 3 1 (flat one (oe tw th cs xs))::ak da cs.length dc 3 1 (flat one (jA tw th cs xs))::j9 r' k x'::L)->Q da cs.length dc ra cs.length rc 0 w'):
  oB (sZ r.p) goal MB ff tw th ca cn cc la ln lc w Q:=by
 apply QW;refine aQ s λtb w s=>?_;refine aV s λrb w s=>?_;refine lI s 1 rfl (lI s 1 rfl (lS s 1 rfl ?_));have tl:∀{w:World} {A B C:As},Sep F W w (A::B::C::L)->Sep F W w L:=λs=>ai (ai (ai s));refine NW s (hC _ (tl s)) (hX _ (tl s)) (by omega) λw s _=>?_;rw[hok,Bool.not_true,cond_false];have s:=arw s;refine ah (lP s 3 rfl ?_);have Oc:x.l.length<=1000000:=by have h1:=hx.good.room;have h2:=hx.room;have h3:x.p.l=x.l:=rfl;grind
 refine Lr.ao4 s hkey Oc λlr' w s=>?_;have hlen:x.es.length=x.l.length:=by have:=hx.len;show _=x.p.l.length;rw[<-this];show _=(x.es.map zW.p).length;grind
 obtain⟨m,hm,hc⟩:=XR hx.one hx.good;have hxl:x.p.l=x.l:=rfl;rw[hxl]at hm hc;have hp:(x.p.es.length:Int)=x.es.length:=by show((x.es.map zW.p).length:Int)=_;grind
 have hu:ShU ⟨(Lr.kT k x.l (goal,MB)).2,x.es,x.b,x.h,x.st,x.ev⟩:=⟨hx.b,hx.h,hx.st,hx.ev⟩;have Mh:∀q∈x.es,q.iT.length<2000:=λq hq=>hx.n_ q.p (List.mem_map.2 ⟨q,hq,rfl⟩);generalize hu2:Lr.kT k x.l (goal,MB)=u at s hm hc hh h hu⊢;obtain⟨⟨slot,had,out⟩,l'⟩:=u;subst hm;have s:=s;have kl:=(aG s (i:=4) rfl yC (by decide)).len;refine ah (lS s 3 rfl ?_);by_cases hm:m=x.l.length
 ·obtain⟨_,e1,e2,e3⟩:m=x.l.length/\had=false/\out=false/\l'.length=x.l.length+1:=by
   rcases hc with hc|hc
   ·exact hc
   ·omega
  subst e1 e2;rw[show((m:Int)==(r.n:Int))=true from beq_iff_eq.2 (by rw[hm,<-hlen,<-kl]),cond_true];refine ah (lS s 3 rfl ?_);refine aQ s λb w s=>?_;have src:Src w (sZ b) 1 4 (FB I1):=⟨rfl,aru _,λj u hj=>by rw[cw,Nat.zero_add];exact cO s (i:=0) rfl rfl hj⟩;refine iy dU s (i:=5) rfl rfl rfl rfl rfl rfl (by decide) rfl src (by simp[maxLen];omega) (by show(r.n+1)*80<=_;omega) (λe=>by cases e) λa1 c1 w s=>?_;rw[show flat FB x.es++FB I1=flat FB (x.es++[I1])from by rw[f_];simp[flat]]at s;refine ah (sT s 4 rfl λw s=>?_);have s:=aua (ai s);have s:Sep F W w (W_ ⟨r.p,r.lp,lr',a1,r.n+1,c1⟩ k ⟨l',x.es++[I1],x.b,x.h,x.st,x.ev⟩ rb tb tw th ca cn cc L):=by apply cu s;show List.Perm _ (_::_::_::_::_::((x.es++[I1]).map Hf++L));rw[List.map_append,List.append_assoc];exact(List.perm_middle (l₁:=[_,_,_,_,_]++x.es.map Hf)).symm
  refine apl (r:=⟨r.p,r.lp,lr',a1,r.n+1,c1⟩) (x:=⟨l',x.es++[I1],x.b,x.h,x.st,x.ev⟩) hT hok hnd qu hC hX (by show m<(x.es++[I1]).length;rw[List.length_append];simp;omega) ⟨hx.b,hx.h,hx.st,hx.ev⟩ (λe=>by cases e) ?_ s ?_
  ·intro q hq;rcases List.mem_append.1 hq with hq|hq
   ·exact Mh q hq
   ·rw[List.mem_singleton]at hq;rw[hq];exact Nat.zero_lt_succ _
  ·intro x' da dc ra rc w' e1 e2 s;refine h ⟨r.p,r.lp,lr',a1,r.n+1,c1⟩ x' da dc ra rc w' rfl ?_ s;rw[e2];rw[CX,hxl,hu2];simp only;have e3:(m:Int)=(x.p.es.length:Int):=by rw[hp];omega
   rw[if_pos e3];have:(x.p.es++[aaW])=Ue.es (Bi.p ⟨l',x.es++[I1],x.b,x.h,x.st,x.ev⟩):=by show(x.es.map zW.p)++_=(x.es++[I1]).map zW.p;rw[List.map_append];rfl
   rw[this];rfl
 ·rw[show((m:Int)==(r.n:Int))=false from beq_eq_false_iff_ne.2 (by omega),cond_false];refine apl (r:=⟨r.p,r.lp,lr',r.a,r.n,r.c⟩) hT hok hnd qu hC hX (by show m<x.es.length;omega) hu ?_ Mh s ?_
  ·intro e q hq e1 e2;have:=hh e q.p (by show(x.es.map zW.p)[m]? =_;rw[List.getElem?_map,hq];rfl) e1 e2
   exact this
  ·intro x' da dc ra rc w' e1 e2 s;refine h ⟨r.p,r.lp,lr',r.a,r.n,r.c⟩ x' da dc ra rc w' rfl ?_ s;rw[e2];rw[CX,hxl,hu2];simp only;have e3:¬(m:Int)=(x.p.es.length:Int):=by rw[hp];omega
   rw[if_neg e3];rfl
end
end Go.Proofs.YtmegplnmiepfbaaGreatDoor.S
namespace Go.Proofs.YtmegplnmiepfbaaGreatDoor.S.Lr
open Go.Sx
def apn {l:KS}(hnd:(l.map (·.1)).Nodup){p:(Int×Int)×Nat}(hp:p∈l):XQ l p.1=p.2:=by rw[XQ,Ze hnd hp]
def arz {l:KS}{key:Int×Int}(h:∀p∈l,p.1≠key):XQ l key=-1:=by unfold XQ;grind
def af4 {l:KS}(h:(l.map (·.2)).Nodup){p q:(Int×Int)×Nat}(hp:p∈l)(hq:q∈l)(e:p.2=q.2):p=q:=by
 induction l with
 |nil=>cases hp
 |cons x l ih=>
  grind
structure Used (l l':KS) (key:Int×Int) (k:Int) (s:Int) (had out:Bool):Prop where
 good:Good k l'
 slot:∃m:Nat,s=m/\(key,m)∈l'
 ay8:had=decide (XQ l key≥0)
 hit:had=true->s=XQ l key/\out=false
 mem:∀p:(Int×Int)×Nat,p.1≠key->(p∈l'↔p∈l/\(out=true->(p.2:Int)≠s))
 off:∀p∈l,p.1≠key->(p.2:Int)=s->out=true
def used {k:Int}{l:KS}{key:Int×Int}(hk:1<=k)(h:Good k l):Used l (kT k l key).2 key k (kT k l key).1.1 (kT k l key).1.2.1 (kT k l key).1.2.2:=by
 have hg:=aaO (key:=key) hk h;unfold kT at hg⊢;cases hf:l.find? (λp=>decide (p.1=key))with
 |some q=>
  rw[hf]at hg;obtain⟨rfl,hq⟩:=Oi hf;simp only at hg⊢;have hfq:=apn h.F7 hq;refine⟨hg,⟨q.2,rfl,List.mem_cons_self⟩,by grind,λ_=>⟨hfq.symm,rfl⟩,λp hp=>?_,λp hp hne e=>?_⟩
  ·grind
  ·exact(hne (by rw[af4 h.nd hp hq (by omega)])).elim
 |none=>
  have hn:=afX hf;have hfn:=arz hn;rw[hf]at hg;by_cases hroom:(l.length:Int)<k
  ·rw[if_pos hroom]at hg⊢;refine⟨hg,⟨l.length,rfl,List.mem_cons_self⟩,by rw[hfn];rfl,(λh=>by cases h),λp hp=>?_,λp hp hne e=>?_⟩
   ·grind
   ·have:=h.lt p hp;grind
  ·rw[if_neg hroom]at hg⊢;have hne:l≠[]:=λe=>by grind
   obtain⟨ys,q,rfl⟩:∃ys q,l=ys++[q]:=⟨l.dropLast,l.getLast hne,(List.dropLast_concat_getLast hne).symm⟩;rw[List.getLast?_concat,List.dropLast_concat]at hg⊢;simp only at hg⊢;refine⟨hg,⟨q.2,rfl,List.mem_cons_self⟩,by rw[hfn];rfl,(λh=>by cases h),λp hp=>?_,λp hp hne e=>rfl⟩;rw[List.mem_cons];constructor
   ·rintro (e|h1)
    ·grind
    ·refine⟨by simp[h1],λ_ e=>?_⟩;have e1:=af4 h.nd (p:=p) (q:=q) (by simp[h1]) (by simp) (by omega);subst e1;have:=h.F7;grind
   grind
end Go.Proofs.YtmegplnmiepfbaaGreatDoor.S.Lr
namespace Go.Proofs.YtmegplnmiepfbaaGreatDoor.S
open Go.Sx
attribute [local irreducible] af cD bz bg aA cy b_ St Bx Al App cK cE cB bV aN bG aq bT av ak aW mapA
def Tv (V:Int×Int->Eh->Prop)(y:Ue):Prop:=∀key i q,(key,i)∈y.l->y.es[i]? =some q->V key q
def af5 {V:Int×Int->Eh->Prop}{b h st ev:Int}:Tv V ⟨[],[],b,h,st,ev⟩:=λ_ _ _ h=>by cases h
def amG {V V':Int×Int->Eh->Prop}{y:Ue}(h:Tv V y)(hv:∀key q,V key q->V' key q):Tv V' y:=λkey i q h1 h2=>hv _ _ (h key i q h1 h2)
def ajo {k:Int}{y:Ue}{key:Int×Int}{V:Int×Int->Eh->Prop}(h:aeT k y)(hr:Tv V y){q:Eh}(hh:(Lr.kT k y.l key).1.2.1=true)(hq:y.es[(Lr.kT k y.l key).1.1.toNat]? =some q):V key q:=by have hu:=Lr.used (key:=key) h.one h.good;have h2:=hu.ay8;rw[hh]at h2;obtain⟨m,hm,hl⟩:=hu.slot;refine hr key m q ?_ (by grind);unfold Lr.kT at hm hh;grind
def apo {k:Int}{y:Ue}{key:Int×Int}{V:Int×Int->Eh->Prop}{q:Eh}(h:aeT k y)(hr:Tv V y)(hv:V key q):Tv V (CX k y key q):=by
 have hu:=Lr.used (key:=key) h.one h.good;obtain⟨m,hm,hc⟩:=XR h.one h.good;have hlen:=h.len;have RC:∀(i:Nat) (e:Eh),i≠m\/(Lr.kT k y.l key).1.2.1=true->i<y.l.length->(if(Lr.kT k y.l key).1.1=(y.es.length:Int)then y.es++[aaW]else y.es)[i]? =some e->y.es[i]? =some e:=by grind
 have other:∀key' i,key'≠key->(key',i)∈(Lr.kT k y.l key).2->(key',i)∈y.l/\i≠m/\i<y.l.length:=by intro key' i hne hmem;have h1:=(hu.mem (key',i) hne).1 hmem;refine⟨h1.1,λe=>?_,h.good.lt _ h1.1⟩;subst e;have h2:=hu.off _ h1.1 hne (by rw[hm]);grind
 have same:∀i,(key,i)∈(Lr.kT k y.l key).2->i=m:=by intro i hmem;obtain⟨m',h1,h2⟩:=hu.slot;have:=Lr.To hu.good.F7 hmem h2 rfl;grind
 unfold CX;simp only;generalize (if(Lr.kT k y.l key).1.1=(y.es.length:Int)then y.es++[aaW]else y.es)=Zk at RC⊢;split
 ·rename_i hit;unfold W9 at hit;rw[Bool.and_eq_true]at hit;intro key' i e hmem he;by_cases hk:key'=key
  ·subst hk;have hi:=same i hmem;subst hi;have hlt:i<y.l.length:=by grind
   have h1:=RC i e (.inr hit.1) hlt he;exact ajo h hr hit.1 (by grind)
  ·obtain⟨h1,h2,h3⟩:=other key' i hk hmem;exact hr key' i e h1 (RC i e (.inl h2) h3 he)
 ·intro key' i e hmem he;rw[hm,Int.toNat_natCast]at he;by_cases hk:key'=key
  ·subst hk;have hi:=same i hmem;subst hi;rw[List.getElem?_set]at he;split at he
   ·split at he
    ·cases he;exact hv
    ·cases he
   ·rename_i hne;exact(hne rfl).elim
  ·obtain⟨h1,h2,h3⟩:=other key' i hk hmem;rw[List.getElem?_set_ne (λe=>h2 e.symm)]at he;exact hr key' i e h1 (RC i e (.inl h2) h3 he)
section
variable {F:Nat->Prop}{W w w0:World}{L:List As}{r:W8}{k:Int}{x:Bi}
def acX {Q:Option Addr->World->Prop}(s:Sep F W w L)(hno:k<1->Q none w)(h:1<=k->∀r w',Sep F W w' (j9 r k ⟨[],[],0,0,0,0⟩::L)->Q (sZ r.p) w'):Gv k w Q:=by
 apply abI;by_cases hk:k<1
 ·grind
 ·rw[bj hk];refine Lr.ao3 s (λe=>(hk e).elim) λ_ lp lr w s=>?_;refine aQ s λp w s=>?_;refine h (by omega) ⟨p,lp,lr,none,0,0⟩ w (I3 ?_);exact cu (bH s 303 4) ((List.Perm.swap _ _ _).trans (List.Perm.cons _ (List.Perm.swap _ _ _)))
def Po {Q:World->Prop}(hk:1<=k)(s:Sep F W w (j9 r k x::L))(h:∀r' w',r'.p=r.p->Sep F W w' (j9 r' k ⟨[],[],x.b,x.h,x.st,x.ev⟩::L)->Q w'):qF (sZ r.p) w Q:=by apply M5;have s:=acW s;have s:=s;refine isS (ah (lP s 0 rfl ?_));have s:=gH s (.cons_cons _ (.cons_cons _ (.cons _ (List.sublist_append_right _ _))));have s:=(Lr.ai9 (jd s)).2;have s:=gH s (.cons_cons _ (.cons _ (.cons _ (List.Sublist.refl _))));refine Lr.Zh hk s λlr w s=>?_;refine ah (sT s 1 rfl λw s=>?_);refine h ⟨r.p,r.lp,lr,none,0,0⟩ w rfl (I3 ?_);exact cu (bH s 303 4) ((List.Perm.cons _ (List.Perm.swap _ _ _)).trans ((List.Perm.swap _ _ _).trans (List.Perm.cons _ (List.Perm.swap _ _ _))))
def amH {i:Nat}(s:Sep F W w L)(hi:L[i]? =some (j9 r k x)):sy w r.p (Hg r x):=lD (Jd s hi) (i:=0) rfl
def aCp:zc T 32=[.int .u64 0,.int .u64 0,.int .u64 0,.int .u64 0,.int .u64 0,.int .u64 0]:=rfl
def ajp {p:Nat}{v0 v1 v2 v3 v4 v5:Value}{a b c d e f:Int}{Q:Int->Int->Int->Int->Int->Int->World->Prop}(s:Sep F W w (av p 32 [v0,v1,v2,v3,v4,v5]::L))(h:∀w',Sep F W w' (av p 32 [.int .u64 a,.int .u64 b,.int .u64 c,.int .u64 d,.int .u64 e,.int .u64 f]::L)->Q a b c d e f w'):
  St ((aZ p).add 0) (.int .u64 a) w λw=>St ((aZ p).add 1) (.int .u64 b) w λw=>St ((aZ p).add 2) (.int .u64 c) w λw=>St ((aZ p).add 3) (.int .u64 d) w λw=>St ((aZ p).add 4) (.int .u64 e) w λw=>St ((aZ p).add 5) (.int .u64 f) w λw=>
   af .u64 ((aZ p).add 0) w λa=>af .u64 ((aZ p).add 1) w λb=>af .u64 ((aZ p).add 2) w λc=>af .u64 ((aZ p).add 3) w λd=>af .u64 ((aZ p).add 4) w λe=>af .u64 ((aZ p).add 5) w λf=>Q a b c d e f w:=by
 refine sT s 0 rfl λw s=>?_;refine sT s 0 rfl λw s=>?_;refine sT s 0 rfl λw s=>?_;refine sT s 0 rfl λw s=>?_;refine sT s 0 rfl λw s=>?_;refine ax s (i:=0) rfl rfl rfl λw s=>?_;exact lI s 0 rfl (lI s 0 rfl (lI s 0 rfl (lI s 0 rfl (lI s 0 rfl (lI s 0 rfl (h w s))))))
def akH {Q:Int->Int->Int->Int->Int->Int->World->Prop}(s0:Sep F W w L)(kb:sy w r.p (Hg r x))(h:∀w',Sep F W w' L->Fr No w w'->Q 0 0 x.b x.h x.st x.ev w'):wQ (sZ r.p) w Q:=by apply MZ;refine aV (bh (F:=No)) λp w1 s1=>?_;have kb1:=kb.fr (au s1);refine lC (ah ?_);refine aL (kb1 2 _ rfl) (aL (kb1 3 _ rfl) (aL (kb1 4 _ rfl) (aL (kb1 5 _ rfl) (aL (kb1 6 _ rfl) (aL (kb1 7 _ rfl) ?_)))));exact ajp s1 λw' s'=>h w' (fB s0 (ai s')) (au s')
end
end Go.Proofs.YtmegplnmiepfbaaGreatDoor.S
namespace Go.Proofs.YtmegplnmiepfbaaGreatDoor.S
open Go.Sx
def Lc (m:bJ)(c x:Int):bJ:=⟨m.w,m.h,m.cs.set c.toNat x⟩
section
variable {m:bJ}{g:iD}{ce x c sc:Int}
def apq (hc:0<=ce/\ce<m.cs.length):cV (Lc m ce x) c=if c=ce then x else cV m c:=by
 unfold cV Lc;simp[List.length_set];by_cases e:c=ce
 ·subst e;unfold gi;grind
 ·by_cases h:0<=c/\c<m.cs.length
  ·unfold gi;grind
  grind
def arA (hm:cF m)(hc:bI m.w m.h ce):0<=ce/\ce<m.cs.length:=⟨hc.2.1,by have:=hm.len;have:=hc.2.2;omega⟩
def ajq (hm:cF m)(hc:bI m.w m.h ce)(hne:cW m c≠cW m ce):cV (Lc m ce x) c=cV m c:=by rw[apq (arA hm hc),if_neg λe=>hne (by rw[e])]
def af6 (hm:cF m)(hs:dY m.w m.h sc)(hc:bI m.w m.h ce)(hne:sc≠cW m ce):dQ (Lc m ce x) sc=dQ m sc:=by
 refine List.map_congr_left λl hl=>?_;have hl:=List.mem_range.1 hl;have hl:(0:Int)<=(l:Int)/\(l:Int)<aE m.w m.h sc*bA m.w m.h sc:=by have e:(Lc m ce x).w=m.w/\(Lc m ce x).h=m.h:=⟨rfl,rfl⟩;grind
 exact ajq hm hc (by show aC m.w m.h (bY m.w m.h sc l)≠_;rw[iY hs hl];exact hne)
def acY (hm:cF m)(hs:dY m.w m.h sc)(hc:bI m.w m.h ce)(hne:sc≠cW m ce):aX (Lc m ce x) sc=aX m sc:=by
 rw[nodes_eq,nodes_eq];congr 1;show((List.range (aE m.w m.h sc*bA m.w m.h sc).toNat).filter λl=>yT m.w m.h sc 4 l&&eE (Lc m ce x) (bY m.w m.h sc l))=_;refine List.filter_congr λl hl=>?_;have hl:=List.mem_range.1 hl;have hl:(0:Int)<=(l:Int)/\(l:Int)<aE m.w m.h sc*bA m.w m.h sc:=by omega
 unfold eE;rw[ajq hm hc (by show aC m.w m.h (bY m.w m.h sc l)≠_;rw[iY hs hl];exact hne)]
def apr (hm:cF m)(hs:dY m.w m.h sc)(hc:bI m.w m.h ce)(hne:sc≠cW m ce):jP (Lc m ce x) sc=jP m sc:=by unfold jP ja;rw[af6 hm hs hc hne,acY hm hs hc hne];rfl
def ajr (hg:xR g)(hc:bI g.m.w g.m.h ce){i:Nat}:gi (xS g ce x).vs i=if(i:Int)=cW g.m ce then g.ep+1 else gi g.vs i:=by
 have hr:=bU hc;have hl:=hg.len;unfold xS gi cW;by_cases e:(i:Int)=aC g.m.w g.m.h ce
 ·have e1:(aC g.m.w g.m.h ce).toNat=i:=by omega
  have e2:(aC g.m.w g.m.h ce).toNat<g.vs.length:=by have:=hr.2;omega
  grind
 ·have e1:¬(aC g.m.w g.m.h ce).toNat=i:=by have:=hr.2.1;omega
  grind
def aps {ms:nQ}(hg:xR g)(hc:bI g.m.w g.m.h ce)(I:yU g ms):yU (xS g ce x) ms:=by
 have hlen:=I.len;refine⟨I.len,⟨by have:=I.old.1;show _<=g.ep+1;omega,λq hq=>by have:=I.old.2 q hq;show _<=g.ep+1;omega⟩,λe=>by have:=I.old.1;have e:ms.clean=g.ep+1:=e;omega,λi q hq hv=>?_,I.u⟩;rw[ajr hg hc]at hv;have hqe:=I.old.2 q (List.mem_of_getElem? hq);split at hv
 ·omega
 ·rename_i hne;have hi:=(List.getElem?_eq_some_iff.1 hq).1;have hs:dY g.m.w g.m.h i:=⟨hg.iS,by omega,by omega⟩;have h:=I.ok i q hq hv;have e1:aX (xS g ce x).m i=aX g.m i:=acY hg.may hs hc hne;have e2:jP (xS g ce x).m i=jP g.m i:=apr hg.may hs hc hne;grind
def apt {f:He}(J:acU g f):acU (xS g ce x) f:=
 ⟨λq hq=>⟨by have:=(J.kept q hq).1;show _<=g.ep+1;omega,λe=>by have:=(J.kept q hq).1;have e:q.2.ep=g.ep+1:=e;omega⟩,J.u⟩
def ajs (g:iD)(key:Int×Int)(q:Eh):Prop:=q.ff<=g.ep/\dY g.m.w g.m.h key.2/\(q.ff=zQ g key.2->q.ds=jA (aE g.m.w g.m.h key.2) (bA g.m.w g.m.h key.2) (dQ g.m key.2) q.iT/\q.rs=oe (aE g.m.w g.m.h key.2) (bA g.m.w g.m.h key.2) (dQ g.m key.2) q.iT)
def amI (hg:xR g)(hc:bI g.m.w g.m.h ce){key:Int×Int}{q:Eh}(h:ajs g key q):ajs (xS g ce x) key q:=by
 obtain⟨h1,h2,h3⟩:=h;refine⟨by show _<=g.ep+1;omega,h2,λhv=>?_⟩;have hl:=hg.len;have hk:=h2.2;have e:zQ (xS g ce x) key.2=gi (xS g ce x).vs key.2.toNat:=by rw[zQ,if_pos];refine⟨hk.1,?_⟩;show key.2<((g.vs.set _ _).length:Int);grind
 have e':zQ g key.2=gi g.vs key.2.toNat:=by unfold zQ;omega
 rw[e,ajr hg hc]at hv;split at hv
 ·omega
 ·rw[<-e']at hv;have h4:=h3 hv;have et:dQ (xS g ce x).m key.2=dQ g.m key.2:=af6 hg.may h2 hc (by omega);rw[et];exact h4
end
end Go.Proofs.YtmegplnmiepfbaaGreatDoor.S
namespace Go.Proofs.YtmegplnmiepfbaaGreatDoor.S
open Go.Sx
open Go.Extern
section
variable {w:World}
def rt (n:Nat):Value:=.agg #[.pointer (some ⟨8,n,none⟩)]
def af7 (v:Value)(w:World):(ReflectliteType.typeOf #[.iface 401 v]).run P w=.ok (.iface 219 (rt 401)) w:=by kernel_rfl
def aly (w:World):((ReflectliteType.method λt=>do Rtype.noPackHeld "Comparable" t;pure (.bool (<-typeInfo t).comparable)) #[rt 401]).run P w=.ok (.bool true) w:=by kernel_rfl
def ajt (v:Value)(w:World):(Go.method (P.types.size+Made.depth) 219 v "Comparable").run P w=.ok (311,v) w:=by kernel_rfl
def Tw (v:Value)(w:World):(ReflectliteType.typeOf #[.iface 78 v]).run P w=.ok (.iface 219 (rt 78)) w:=by kernel_rfl
def Hh (v:Value)(w:World):(ReflectliteType.typeOf #[.iface 108 v]).run P w=.ok (.iface 219 (rt 108)) w:=by kernel_rfl
def Hi (t:Addr)(w:World):(ReflectliteValue.unpack (.iface 120 (.pointer (some t)))).run P w
 =.ok (.agg #[.pointer (some ⟨8,120,none⟩),.pointer (sZ w.heap.size),.int .u64 150]) (w.alloc (.cells #[.pointer (some t)] 120)):=by kernel_rfl
def EM (n:Int)(w:World):(ReflectliteValue.unpack (.iface 108 (ae n))).run P w
 =.ok (.agg #[.pointer (some ⟨8,108,none⟩),.pointer (sZ w.heap.size),.int .u64 130]) (w.alloc (.cells #[ae n] 108)):=by kernel_rfl
def RF (a:Addr)(w:World):(ReflectliteValue.methodAny (ReflectliteValue.valueError "reflectlite.Value.Type" 0) (λt _ _ _=>ReflectliteType.toType t) #[.agg #[.pointer (some ⟨8,120,none⟩),.pointer (some a),.int .u64 150]]).run P w
 =.ok (.iface 219 (rt 120)) w:=by kernel_rfl
def IC (h:Value)(w:World):(Go.method (P.types.size+Made.depth) 219 (.agg #[h]) "Kind").run P w=.ok (297,h) w:=by kernel_rfl
def MC (w:World):((ReflectliteType.abiMethod λt=>(λa:Nat=>Value.int IntKind.u8 (a:Int))<$>Rtype.kind t) #[.pointer (some ⟨8,120,none⟩)]).run P w=.ok (.int .u8 22) w:=by kernel_rfl
def MD (w:World):((ReflectliteType.abiMethod λt=>(λa:Nat=>Value.int IntKind.u8 (a:Int))<$>Rtype.kind t) #[.pointer (some ⟨8,108,none⟩)]).run P w=.ok (.int .u8 2) w:=by kernel_rfl
def aaX (h:Value)(w:World):(Go.method (P.types.size+Made.depth) 219 (.agg #[h]) "Elem").run P w=.ok (312,.agg #[h]) w:=by kernel_rfl
def aeU (h:Value)(w:World):(Go.method (P.types.size+Made.depth) 219 (.agg #[h]) "Implements").run P w=.ok (313,.agg #[h]) w:=by kernel_rfl
def RG (h:Value)(w:World):(Go.method (P.types.size+Made.depth) 219 (.agg #[h]) "AssignableTo").run P w=.ok (310,.agg #[h]) w:=by kernel_rfl
def RH (w:World):(ReflectliteType.method ReflectliteType.elem #[rt 120]).run P w=.ok (.iface 219 (rt 108)) w:=by kernel_rfl
def Xb (w:World):(ReflectliteType.relation "Implements" ReflectliteType.implements_ #[rt 108,.iface 219 (rt 74)]).run P w=.ok (.bool true) w:=by kernel_rfl
def aeV (w:World):(ReflectliteType.relation "AssignableTo" ReflectliteType.assignableTo #[rt 78,.iface 219 (rt 108)]).run P w=.ok (.bool false) w:=by kernel_rfl
def RI (w:World):(ReflectliteType.relation "AssignableTo" ReflectliteType.assignableTo #[rt 108,.iface 219 (rt 108)]).run P w=.ok (.bool true) w:=by kernel_rfl
def aeW (v:Value)(w:World):(Go.method (P.types.size+Made.depth) 78 v "Unwrap").run P w=.ok (302,v) w:=by kernel_rfl
def aub (v:Value)(w:World):(Go.method (P.types.size+Made.depth) 273 v "Unwrap").run P w=.ok (325,v) w:=by kernel_rfl
end
set_option maxRecDepth 20000
def j_ {f:Nat}{e:Array Value->Sem Value}{args:Array Value}{w w':World}{v:Value}{K:Value->World->Prop}(h:∀args w,(callFunc f args).run P w=((e args).run P w).andThen λv w'=>.ok (.value v) w')(he:(e args).run P w=.ok v w')(k:K v w'):tX P f args w K:=by unfold tX;simp_all
def cxP (n:Nat):(cx n).P=P:=rfl
def nq {n f:Nat}{e:Array Value->Sem Value}{t:TypeId}{v rv:Value}{name:String}{args:List Value}{w w':World}{r:Value}{K:Value->World->Prop}(hm:∀w,(Go.method (P.types.size+Made.depth) t v name).run P w=.ok (f,rv) w)(hf:pz f fns=false)
  (h:∀args w,(callFunc f args).run P w=((e args).run P w).andThen λv w'=>.ok (.value v) w')(he:(e (#[].toList++(rv::args)++#[].toList).toArray).run P w=.ok r w')(k:K r w'):yY (cx n) (.iface t v) name args w K:=by
 refine⟨f,rv,hm w,?_⟩;unfold iw;simp only[cxF,cxP,hf,cond_false];exact j_ h he k
def x95 (args:Array Value)(w:World):(callFunc 95 args).run P w=((ReflectliteType.typeOf args).run P w).andThen λv w'=>.ok (.value v) w':=run_callFunc_extern Go.Proofs.Tryz.func95 (by kernel_rfl) (by kernel_rfl) (by kernel_rfl) (by kernel_rfl) args w
def avW (args:Array Value)(w:World):(callFunc 311 args).run P w=((ReflectliteType.method (λt=>do Rtype.noPackHeld "Comparable" t;pure (.bool (<-typeInfo t).comparable)) args).run P w).andThen λv w'=>.ok (.value v) w':=run_callFunc_extern Go.Proofs.Tryz.func311 (by kernel_rfl) (by kernel_rfl) (by kernel_rfl) (by kernel_rfl) args w
def apu:pz 311 fns=false:=by kernel_rfl
def apv:(P.info? 401).map (·.comparable)=some true:=by kernel_rfl
def apw:(P.info? 422).map (·.size)=some 1:=by kernel_rfl
def avX {tx ty:Nat}{vx vy:Value}{x y:Operand}{w:World}{K:Bool->World->Prop}(hne:tx≠ty)(h:K false w):bV P .eql 74 x y (.iface tx vx) (.iface ty vy) w K:=by unfold bV aN;rw[show(eqGuard .eql 74 x y (.iface tx vx) (.iface ty vy))=pure ()from rfl];simp[Sem.run_bind,Sem.run_pure,Result.andThen_ok,run_eql_iface_types tx ty vx vy Go.Proofs.Tryz.underlying74 hne w];exact h
def Xc {a:Addr}{x y:Operand}{w:World}{K:Bool->World->Prop}(h:K true w):bV P .eql 74 x y (.iface 401 (.pointer (some a))) (.iface 401 (.pointer (some a))) w K:=by obtain⟨i,hi,hcmp⟩:=Option.map_eq_some_iff.1 apv;obtain⟨j,hj,hjs⟩:=Option.map_eq_some_iff.1 apw;unfold bV aN;rw[show(eqGuard .eql 74 x y (.iface 401 (.pointer (some a))) (.iface 401 (.pointer (some a))))=pure ()from rfl];simp[Sem.run_bind,Sem.run_pure,Result.andThen_ok,run_eql_iface_ptr_same w a Go.Proofs.Tryz.underlying74 Go.Proofs.Tryz.underlying401 hi hcmp hj];exact h
def acZ {a b:Addr}{ca cb:Array Value}{ta tb:TypeId}{x y:Operand}{w:World}{K:Bool->World->Prop}(hne:a≠b)(ha:w.heap[a.block]? =some (.cells ca ta (0,0)))(hb:w.heap[b.block]? =some (.cells cb tb (0,0)))(h:K false w):bV P .eql 74 x y (.iface 401 (.pointer (some a))) (.iface 401 (.pointer (some b))) w K:=by obtain⟨i,hi,hcmp⟩:=Option.map_eq_some_iff.1 apv;obtain⟨j,hj,hjs⟩:=Option.map_eq_some_iff.1 apw;unfold bV aN;rw[show(eqGuard .eql 74 x y (.iface 401 (.pointer (some a))) (.iface 401 (.pointer (some b))))=pure ()from rfl];simp[Sem.run_bind,Sem.run_pure,Result.andThen_ok,run_eql_iface_ptr_other w Go.Proofs.Tryz.underlying74 Go.Proofs.Tryz.underlying401 hi hcmp hj (by omega) hne ha hb];exact h
def avY {t:Nat}(ht:t=401\/t=78\/t=108\/t=273)(v:Value)(xT:TypeId)(w:World):(Instr.typeAssert (.iface t v) xT 221 true).run P w=.ok (.tuple #[.nilIface,.bool false]) w:=by
 rcases ht with rfl|rfl|rfl|rfl
 ·exact run_typeAssert_lacksB Go.Proofs.Tryz.underlying221 (by kernel_rfl) (by kernel_rfl) v xT w
 ·exact run_typeAssert_lacksB Go.Proofs.Tryz.underlying221 (by kernel_rfl) (by kernel_rfl) v xT w
 ·exact run_typeAssert_lacksB Go.Proofs.Tryz.underlying221 (by kernel_rfl) (by kernel_rfl) v xT w
 ·exact run_typeAssert_lacksB Go.Proofs.Tryz.underlying221 (by kernel_rfl) (by kernel_rfl) v xT w
def ay9 {t:Nat}(ht:t=78\/t=108)(v:Value)(xT:TypeId)(w:World):(Instr.typeAssert (.iface t v) xT 231 true).run P w=.ok (.tuple #[.nilIface,.bool false]) w:=by
 rcases ht with rfl|rfl
 ·exact run_typeAssert_lacksB Go.Proofs.Tryz.underlying231 (by kernel_rfl) (by kernel_rfl) v xT w
 ·exact run_typeAssert_lacksB Go.Proofs.Tryz.underlying231 (by kernel_rfl) (by kernel_rfl) v xT w
def ay_ {t:Nat}(ht:t=401\/t=108)(v:Value)(xT:TypeId)(w:World):(Instr.typeAssert (.iface t v) xT 224 true).run P w=.ok (.tuple #[.nilIface,.bool false]) w:=by
 rcases ht with rfl|rfl
 ·exact run_typeAssert_lacksB Go.Proofs.Tryz.underlying224 (by kernel_rfl) (by kernel_rfl) v xT w
 ·exact run_typeAssert_lacksB Go.Proofs.Tryz.underlying224 (by kernel_rfl) (by kernel_rfl) v xT w
def axa {t:Nat}(ht:t=401\/t=108)(v:Value)(xT:TypeId)(w:World):(Instr.typeAssert (.iface t v) xT 226 true).run P w=.ok (.tuple #[.nilIface,.bool false]) w:=by
 rcases ht with rfl|rfl
 ·exact run_typeAssert_lacksB Go.Proofs.Tryz.underlying226 (by kernel_rfl) (by kernel_rfl) v xT w
 ·exact run_typeAssert_lacksB Go.Proofs.Tryz.underlying226 (by kernel_rfl) (by kernel_rfl) v xT w
def asR {t:Nat}(ht:t=78\/t=273)(v:Value)(xT:TypeId)(w:World):(Instr.typeAssert (.iface t v) xT 224 true).run P w=.ok (.tuple #[.iface t v,.bool true]) w:=by
 rcases ht with rfl|rfl
 ·exact run_typeAssert_hasB Go.Proofs.Tryz.underlying224 (by kernel_rfl) v xT w
 ·exact run_typeAssert_hasB Go.Proofs.Tryz.underlying224 (by kernel_rfl) v xT w
end Go.Proofs.YtmegplnmiepfbaaGreatDoor.S
set_option maxRecDepth 20000
namespace Go.Proofs.YtmegplnmiepfbaaGreatDoor.S
open Go.Sx
open Go.Extern
attribute [local irreducible] af cD bz bg aA cy b_ St Bx Al App cK cE cB bV bG aq bT av ak aW mapA
def aAP:pz 302 fns=true:=by kernel_rfl
def aAQ:pz 325 fns=true:=by kernel_rfl
def Bq {s:Sem Value}{w w':World}{v:Value}{K:Value->World->Prop}(h:s.run P w=.ok v w')(k:K v w'):aN P s w K:=by unfold aN;grind
section
variable {w:World}{p n:Nat}{v:Value}
def mW {ad:Addr}{K:Value->Prop}(h:w.cell? ad=some v)(hp:Value.plain v=true)(k:K v):b_ ad w K:=by unfold b_;grind
def tT {t:Nat}{A B:Prop}(h:B):Cb (.iface t v) λb=>cond b A B:=h
def Tx {b:Bool}{K:Value->Bool->Prop}(hp:Value.plain v=true)(k:K v b):dT (.tuple #[v,.bool b]) λl=>dJ l λv0 l0=>dV v0 λx0=>dJ l0 λv1 l1=>dB v1 λx1=>kU l1 (K x0 x1):=by show dV v λx0=>K x0 b;unfold dV;grind
def ac0 {Q:Value->World->Prop}(hv:w.cell? ((aZ p).add 1)=some v)(hp:Value.plain v=true)(k:Q v w):yY (cx n) (.iface 78 (.pointer (sZ p))) "Unwrap" [] w λv w=>dV v λr=>Q r w:=by
 refine⟨302,_,aeW _ w,?_⟩;unfold iw;have h:GI (sZ p) w Q:=by apply S6;refine ah (mW hv hp ?_);unfold dV;grind
 exact h
def auc {Q:Value->World->Prop}(hv:w.cell? ((aZ p).add 1)=some v)(hp:Value.plain v=true)(k:Q v w):yY (cx n) (.iface 273 (.pointer (sZ p))) "Unwrap" [] w λv w=>dV v λr=>Q r w:=by
 refine⟨325,_,aub _ w,?_⟩;unfold iw;have h:FU (sZ p) w Q:=by apply Rf;refine ah (mW hv hp ?_);unfold dV;grind
 exact h
def alz {Q:Bool->World->Prop}{t:Nat}{u target:Value}{c:Bool}(ht:t=401\/t=108){k:Nat}
  (he:∀(x y:Operand) (K:Bool->World->Prop),K c w->bV P .eql 74 x y (.iface t u) target w K)(hQ:Q c w):qq Q (k+1) (.iface t u) target true w:=by
 show A_ Q (qq Q k) _ _ _ _;unfold A_;apply he;cases c with
 |true=>exact hQ
 |false=>
  refine Bq (avY (by grind) _ _ _) (Tx rfl ?_);refine Bq (ay_ ht _ _ _) (Tx rfl ?_);refine Bq (axa ht _ _ _) (Tx rfl ?_);grind
def aud {Q:Bool->World->Prop}{tw:Nat}{target:Value}{k tt:Nat}{tv:Value}(Ri:tw=78\/tw=273)(htg:target=.iface 401 tv)(hv:w.cell? ((aZ p).add 1)=some (.iface tt v))
  (h:qq Q k (.iface tt v) target true w):qq Q (k+1) (.iface tw (.pointer (sZ p))) target true w:=by
 show A_ Q (qq Q k) _ _ _ _;unfold A_;subst htg;apply avX (by grind);refine Bq (avY (by grind) _ _ _) (Tx rfl ?_);refine Bq (asR Ri _ _ _) (Tx rfl ?_);rcases Ri with rfl|rfl
 ·exact ac0 hv rfl h
 ·exact auc hv rfl h
def Ty {Q:Bool->World->Prop}{tw tt:Nat}{b:Addr}{c:Bool}(Ri:tw=78\/tw=273)(ht:tt=401\/tt=108)(hv:w.cell? ((aZ p).add 1)=some (.iface tt v))
  (he:∀(x y:Operand) (K:Bool->World->Prop),K c w->bV P .eql 74 x y (.iface tt v) (.iface 401 (.pointer (some b))) w K)(hQ:Q c w):
  pL (.iface tw (.pointer (sZ p))) (.iface 401 (.pointer (some b))) w Q:=by
 apply NS;refine tT (tT ?_);apply j_ x95 (af7 _ w);refine nq (ajt _) apu avW (aly w) ?_;have h:xu (.iface tw (.pointer (sZ p))) (.iface 401 (.pointer (some b))) true w Q:=by apply NR;exact⟨2,aud Ri rfl hv (alz ht he hQ)⟩
 exact h
end
end Go.Proofs.YtmegplnmiepfbaaGreatDoor.S
set_option maxRecDepth 20000
namespace Go.Proofs.YtmegplnmiepfbaaGreatDoor.S
open Go.Sx
open Go.Extern
def x97 (args:Array Value)(w:World):(callFunc 97 args).run P w=((ReflectliteValue.unpack (args.getD 0 (.tuple #[]))).run P w).andThen λv w'=>.ok (.value v) w':=run_callFunc_extern (e:=λargs=>ReflectliteValue.unpack (args.getD 0 (.tuple #[]))) Go.Proofs.Tryz.func97 (by kernel_rfl) (by kernel_rfl) (by kernel_rfl) (by kernel_rfl) args w
def x98 (args:Array Value)(w:World):(callFunc 98 args).run P w=((ReflectliteValue.methodAny (ReflectliteValue.valueError "reflectlite.Value.Type" 0) (λt _ _ _=>ReflectliteType.toType t) args).run P w).andThen λv w'=>.ok (.value v) w':=run_callFunc_extern Go.Proofs.Tryz.func98 (by kernel_rfl) (by kernel_rfl) (by kernel_rfl) (by kernel_rfl) args w
def x99 (args:Array Value)(w:World):(callFunc 99 args).run P w=((ReflectliteValue.method (ReflectliteValue.valueError "reflectlite.Value.IsNil" 0) ReflectliteValue.isNil args).run P w).andThen λv w'=>.ok (.value v) w':=run_callFunc_extern Go.Proofs.Tryz.func99 (by kernel_rfl) (by kernel_rfl) (by kernel_rfl) (by kernel_rfl) args w
def arB (args:Array Value)(w:World):(callFunc 138 args).run P w=((ReflectliteValue.method (ReflectliteValue.valueError "reflectlite.Value.Elem" 0) ReflectliteValue.elem args).run P w).andThen λv w'=>.ok (.value v) w':=run_callFunc_extern Go.Proofs.Tryz.func138 (by kernel_rfl) (by kernel_rfl) (by kernel_rfl) (by kernel_rfl) args w
def arC (args:Array Value)(w:World):(callFunc 139 args).run P w=((ReflectliteValue.set args).run P w).andThen λv w'=>.ok (.value v) w':=run_callFunc_extern Go.Proofs.Tryz.func139 (by kernel_rfl) (by kernel_rfl) (by kernel_rfl) (by kernel_rfl) args w
def aeX (args:Array Value)(w:World):(callFunc 297 args).run P w=((ReflectliteType.abiMethod (λt=>do pure (.int .u8 (<-Rtype.kind t))) args).run P w).andThen λv w'=>.ok (.value v) w':=run_callFunc_extern Go.Proofs.Tryz.func297 (by kernel_rfl) (by kernel_rfl) (by kernel_rfl) (by kernel_rfl) args w
def arD (args:Array Value)(w:World):(callFunc 312 args).run P w=((ReflectliteType.method ReflectliteType.elem args).run P w).andThen λv w'=>.ok (.value v) w':=run_callFunc_extern Go.Proofs.Tryz.func312 (by kernel_rfl) (by kernel_rfl) (by kernel_rfl) (by kernel_rfl) args w
def arE (args:Array Value)(w:World):(callFunc 313 args).run P w=((ReflectliteType.relation "Implements" ReflectliteType.implements_ args).run P w).andThen λv w'=>.ok (.value v) w':=run_callFunc_extern Go.Proofs.Tryz.func313 (by kernel_rfl) (by kernel_rfl) (by kernel_rfl) (by kernel_rfl) args w
def ajv (args:Array Value)(w:World):(callFunc 310 args).run P w=((ReflectliteType.relation "AssignableTo" ReflectliteType.assignableTo args).run P w).andThen λv w'=>.ok (.value v) w':=run_callFunc_extern Go.Proofs.Tryz.func310 (by kernel_rfl) (by kernel_rfl) (by kernel_rfl) (by kernel_rfl) args w
def RJ:pz 297 fns=false:=by kernel_rfl
def ajw:pz 312 fns=false:=by kernel_rfl
def ajx:pz 313 fns=false:=by kernel_rfl
def Xd:pz 310 fns=false:=by kernel_rfl
abbrev vP (a:Addr):Value:=.agg #[.pointer (some ⟨8,120,none⟩),.pointer (some a),.int .u64 150]
abbrev vR (a:Addr):Value:=.agg #[.pointer (some ⟨8,108,none⟩),.pointer (some a),.int .u64 130]
abbrev vE (a:Addr):Value:=.agg #[.pointer (some ⟨8,108,none⟩),.pointer (some a),.int .u64 386]
def rlm (z:Sem Value)(f:TypeId->Addr->Nat->Nat->Sem Value)(v:Value):
 ReflectliteValue.method z f #[v]=(do match<-ReflectliteValue.parts v with|none=>z|some (t,a,fl)=>f t a fl (fl%32)):=rfl
def Af (a:Addr)(w:World):(ReflectliteValue.parts (vP a)).run P w=.ok (some (120,a,150)) w:=by kernel_rfl
def JE (a:Addr)(w:World):(ReflectliteValue.parts (vR a)).run P w=.ok (some (108,a,130)) w:=by kernel_rfl
def JF (a:Addr)(w:World):(ReflectliteValue.parts (vE a)).run P w=.ok (some (108,a,386)) w:=by kernel_rfl
def ME (a p:Addr)(w:World)(ha:w.cell? a=some (.pointer (some p))):(ReflectliteValue.method (ReflectliteValue.valueError "reflectlite.Value.IsNil" 0) ReflectliteValue.isNil #[vP a]).run P w=.ok (.bool false) w:=by rw[rlm];simp[Sem.run_bind,Af,Result.andThen];simp[ReflectliteValue.isNil,loadVar,isAgg,underlying,Go.Proofs.Tryz.underlying120,ha,Result.andThen]
def JG (w:World):(Rtype.elem? 120).run P w=.ok (some 108) w:=by kernel_rfl
def ac1 (p:Addr)(w:World):(ReflectliteValue.mk 108 p ReflectliteValue.flagAddr).run P w=.ok (vE p) w:=by kernel_rfl
def MF (a p:Addr)(w:World)(ha:w.cell? a=some (.pointer (some p))):(ReflectliteValue.method (ReflectliteValue.valueError "reflectlite.Value.Elem" 0) ReflectliteValue.elem #[vP a]).run P w=.ok (vE p) w:=by rw[rlm];simp[Sem.run_bind,Af,Result.andThen];simp[ReflectliteValue.elem,loadVar,isAgg,underlying,Go.Proofs.Tryz.underlying120,ha,Result.andThen,JG,ac1]
def rls (v x:Value):ReflectliteValue.set #[v,x]=(do
 let(some (dst,a,fl),some (src,b,_)):=(<-ReflectliteValue.parts v,<-ReflectliteValue.parts x)
  |unsupported (.noEntry "extern/(internal/reflectlite.Value).Set.zeroValue")
 if fl/ReflectliteValue.flagAddr%2==0 then unsupported (.noEntry "extern/(internal/reflectlite.Value).Set.unaddressable")
 let val<-loadVar src b
 if<-Rtype.directlyAssignable dst src then storeVar dst a val
 else if<-Rtype.implements dst src then
  if(<-Rtype.kind src)==20 then
   match val with
   |.nilIface=>unsupported (.noEntry "extern/reflectlite: a nil value of one interface type handed on as a value of another")
   |_=>storeVar dst a val
  else storeVar dst a (.iface src val)
 else panicString ("reflectlite.Set: value of type "++(<-Rtype.spelt src)++ " is not assignable to type "++(<-Rtype.spelt dst))
 pure (.tuple #[])):=rfl
def JH (w:World):(Rtype.directlyAssignable 108 108).run P w=.ok true w:=by kernel_rfl
def Xf (t b:Addr)(n:Int)(old:Value)(w:World)(hb:w.cell? b=some (ae n))(ht:w.cell? t=some old)(hf:w.frozen? t=false):
  (ReflectliteValue.set #[vE t,vR b]).run P w=.ok (.tuple #[]) (w.setCell t (ae n)):=by
 rw[rls];simp[Sem.run_bind,JF,JE,Result.andThen];simp[ReflectliteValue.flagAddr,loadVar,isAgg,underlying,Go.Proofs.Tryz.underlying108,hb,Result.andThen,JH,storeVar,Value.cells,storeCells,Addr.add];rw[run_store P w t _ _ (by rfl)];simp[ht,hf]
end Go.Proofs.YtmegplnmiepfbaaGreatDoor.S
set_option maxRecDepth 20000
namespace Go.Proofs.YtmegplnmiepfbaaGreatDoor.S
open Go.Sx
open Go.Extern
attribute [local irreducible] tX callFunc Sem.run ReflectliteValue.method ReflectliteValue.set ReflectliteValue.unpack ReflectliteType.relation ReflectliteType.typeOf af cD bz bg aA cy b_ St App cK cE cB bV bG aq bT av ak aW mapA
section
variable {F:Nat->Prop}{W w:World}{L:List As}{p r:Nat}{c v0:Int}
def Tz {a b:Option Addr}{f:Int}{K:Option Addr->Option Addr->Int->Prop}(k:K a b f):dL (.agg #[.pointer a,.pointer b,.int .u64 f]) λl=>dJ l λv0 l0=>dP v0 λa=>dJ l0 λv1 l1=>dP v1 λb=>dJ l1 λv2 l2=>dI .u64 v2 λf=>kU l2 (K a b f):=k
def amJ {A B:Prop}(h:A):dB (.bool true) λb=>cond b A B:=h
def aeY {A B:Prop}(h:B):dB (.bool false) λb=>cond b A B:=h
def amK {A B:Prop}(h:B):dB (.bool true) λb=>cond (!b) A B:=h
def amL {A B:Prop}(h:B):dI .u8 (.int .u8 22) λr=>cond (r !=22) A B:=h
def asS {A B:Prop}(h:A):dI .u8 (.int .u8 2) λr=>cond (r !=20) A B:=h
def aBV:zc T 161=[.pointer none,.pointer none,.int .u64 0]:=rfl
def amM {ad:Addr}{v:Value}{K:World->Prop}(h:St ad v w K):(∃u,w.cell? ad=some u)/\w.frozen? ad=false/\K (w.setCell ad v):=by unfold St at h;exact h
def RK {b:Addr}{K:Value->World->Prop}(hb:w.cell? b=some (ae c))(h:St (aZ r) (ae c) w λw=>K (.tuple #[]) w):tX P 139 #[vE (aZ r),vR b] w K:=by obtain⟨⟨u,hu⟩,hf,k⟩:=amM h;have he:=Xf (aZ r) b c u w hb hu hf;apply j_ (w':=w.setCell (aZ r) (ae c)) arC he;exact k
def Xg {Q:Bool->World->Prop}{k tb:Nat}{a:Nat}(s:Sep F W w (av tb 161 [.pointer (some ⟨8,120,none⟩),.pointer (sZ a),.int .u64 150]::av a 120 [.pointer (sZ r)]::av r 108 [ae v0]::L))
  (hQ:∀w',Sep F W w' (av r 108 [ae c]::L)->Q true w'){target:Value}:jk Q (k+1) (.iface 108 (ae c)) target (.iface 219 (rt 108)) (aZ tb) w:=by
 show xe Q (jk Q k) _ _ _ _ _;apply j_ x95 (Hh _ w);refine nq (RG _) Xd ajv (RI w) ?_;apply amJ;refine lP s 0 rfl (lP s 0 rfl (lI s 0 rfl ?_));apply j_ arB (MF (aZ a) (aZ r) w (by have:=cO s (i:=1) (j:=0) rfl rfl rfl;exact this));apply Tz;refine j_ x97 (EM c w) ?_;apply Tz;have s2:=t_ (ai (ai s)) [ae c] 108;have s2:=s2;apply RK (c:=c) (by simp_all);refine ax s2 (i:=1) rfl rfl rfl λw s=>?_;exact hQ w (ai s)
def ajA {Q:Bool->World->Prop}{k tb:Nat}{a:Nat}(s:Sep F W w (av tb 161 [.pointer (some ⟨8,120,none⟩),.pointer (sZ a),.int .u64 150]::av a 120 [.pointer (sZ r)]::av r 108 [ae v0]::L))
  (hv:w.cell? ((aZ p).add 1)=some (.iface 108 (ae c)))
  (hQ:∀w',Sep F W w' (av r 108 [ae c]::L)->Q true w'){target:Value}:jk Q (k+2) (.iface 78 (.pointer (sZ p))) target (.iface 219 (rt 108)) (aZ tb) w:=by
 show xe Q (jk Q (k+1)) _ _ _ _ _;apply j_ x95 (Tw _ w);refine nq (RG _) Xd ajv (aeV w) ?_;apply aeY;refine Bq (ay9 (.inl rfl) _ _ _) (Tx rfl ?_);refine Bq (asR (.inl rfl) _ _ _) (Tx rfl ?_);exact ac0 hv rfl (tT (Xg s hQ))
def MG {Q:Bool->World->Prop}(s:Sep F W w (av r 108 [ae v0]::L))(hv:∀w',Sep F W w' L->w'.cell? ((aZ p).add 1)=some (.iface 108 (ae c)))
  (h1:∀w',Sep F W w' L->w'.cell? (aZ 1)=some (.iface 219 (rt 74)))
  (hQ:∀w',Sep F W w' (av r 108 [ae c]::L)->Q true w'):
  nM (.iface 78 (.pointer (sZ p))) (.iface 120 (.pointer (sZ r))) w Q:=by
 apply BO;refine tT (tT ?_);refine j_ x97 (Hi (aZ r) w) ?_;apply Tz;have s:=t_ s [.pointer (sZ r)] 120;have s:=s;generalize w.heap.size=a at s⊢;generalize w.alloc (.cells #[.pointer (sZ r)] 120)=w1 at s⊢;refine aV s λvb w s=>?_;refine sT s 0 rfl λw s=>?_;refine sT s 0 rfl λw s=>?_;refine ax s (i:=0) rfl rfl rfl λw s=>?_;refine lP s 0 rfl (lP s 0 rfl (lI s 0 rfl ?_));apply j_ x98 (RF (aZ a) w);refine nq (IC _) RJ aeX (MC w) ?_;apply amL;refine lP s 0 rfl (lP s 0 rfl (lI s 0 rfl ?_));apply j_ x99 (ME (aZ a) (aZ r) w (by have:=cO s (i:=1) (j:=0) rfl rfl rfl;exact this));apply aeY;refine nq (aaX _) ajw arD (RH w) ?_;refine nq (IC _) RJ aeX (MD w) ?_;apply asS;apply mW (h1 w (ai (ai (ai s)))) rfl;refine nq (aeU _) ajx arE (Xb w) ?_;apply amK;refine lP s 0 rfl (lP s 0 rfl (lI s 0 rfl ?_));apply GJ;have s:=ai s;refine aQ s λtb w s=>?_;exact⟨2,ajA s (hv w (ai (ai (ai s)))) hQ⟩
end
end Go.Proofs.YtmegplnmiepfbaaGreatDoor.S
