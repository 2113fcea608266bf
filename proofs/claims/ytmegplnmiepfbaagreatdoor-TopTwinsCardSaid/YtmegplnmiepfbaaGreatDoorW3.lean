/- Part 4 of the proof. -/
import Derived.Test.YtmegplnmiepfbaaGreatDoorW2
import Derived.Laws.Pointers
import Derived.Laws.Externs
import Derived.LaidEql
import Derived.Stop.Asserts
set_option linter.unusedVariables false
set_option linter.unusedSimpArgs false
set_option linter.defProp false
namespace Go.Proofs.YtmegplnmiepfbaaGreatDoor.S
open Go.Sx
def auX (P:Program)(t:TypeId)(xs ys:Array Value):Option Bool:=match P.underlying t with
 |some (.struct fs)=>ahG P xs ys fs.toList
 |_=>none
def ab8 {P:Program}{t:TypeId}{xs ys:Array Value}{x y:Operand}{r:Bool}{w:World}{K:Bool->World->Prop}(hp:P.stoodInHeld t=false)(hg:P.eqGuardType P.depth t=false)(hr:auX P t xs ys=some r)(h:K r w):bZ P .eql t x y (.agg xs) (.agg ys) w K:=by
 unfold auX at hr;split at hr
 ·rename_i fs hu;exact auv hu hp hg hr h
 ·cases hr
def eq3 {a b c a' b' c':Int}:(a==a'&&(b==b'&&(c==c'&&true)))=decide (a=a'/\b=b'/\c=c'):=by grind
def atj {a b:bh}:(a.c=b.c/\a.s=b.s/\a.k=b.k)↔a=b:=by obtain⟨a1,a2,a3⟩:=a;obtain⟨b1,b2,b3⟩:=b;simp
attribute [local irreducible] bZ
def aoq {w:World}{x y:Operand}{a b:bh}{K:Bool->World->Prop}(h:K (decide (a=b)) w):bZ P .eql 294 x y (.agg #[ae a.c,ae a.s,ae a.k]) (.agg #[ae b.c,ae b.s,ae b.k]) w K:=by apply ab8 (r:=a.c==b.c&&(a.s==b.s&&(a.k==b.k&&true))) (by kernel_rfl) (by kernel_rfl) (by kernel_rfl);rw[eq3];simp[atj];exact h
def auY {w:World}{x y:Operand}{a b:bh}{K:Bool->World->Prop}(h:K (!decide (a=b)) w):bZ P .neq 294 x y (.agg #[ae a.c,ae a.s,ae a.k]) (.agg #[ae b.c,ae b.s,ae b.k]) w K:=
 Xo (by kernel_rfl) (aoq h)
end Go.Proofs.YtmegplnmiepfbaaGreatDoor.S
namespace Go.Proofs.YtmegplnmiepfbaaGreatDoor.S
open Go.Sx
open Go.Sort (swp PermIn SortedIn Below)
attribute [local irreducible] af cQ bG bp aA cE cw St Bx Al App cV cO cM bZ aQ bI au cj ax ak bg mapA
section
variable {F:Nat->Prop}{W w w0:World}{L:List As}{a:Option Addr}{n c:Nat}{d:Array bh}
def aiH (lo b:Nat)(d d':Array bh):Prop:=PermIn lo b d d'/\SortedIn cK lo b d'
def aqK (hn:n<2000):∀(N:Nat) (lo b:Nat) (limit:Int) (wb wp:Bool) (d:Array bh) (w:World) (Q:World->Prop) (f:Nat),b-lo<=N->N<f->lo<=b->b<=n->Below cK lo b d->0<=limit/\limit<1000->Sep F W w (c8 a n c d::L)->
   (∀d' w',aiH lo b d d'->Sep F W w' (c8 a n c d'::L)->Q w')->cB Q f a n c lo b limit iL wb wp w:=by
 intro N;induction N with
 |zero=>
  intro lo b limit wb wp d w Q f h1 hf h2 h3 hB Au s h;obtain⟨f,rfl⟩:∃g,f=g+1:=⟨f-1,by omega⟩;show g9 Q (cB Q f) _ _ _ _ _ _ _ _ _ _;unfold g9;have hsz:=gu s;rw[aH,bK];refine HA s (by omega) h2 h3 λw s=>h _ w ?_ s;exact Go.Sort.insertionSort_holds FK d lo b h2 (by omega)
 |succ N ih=>
  have call:∀(lo b:Nat) (limit:Int) (d:Array bh) (w:World) (Q:World->Prop),b-lo<=N->lo<=b->b<=n->Below cK lo b d->0<=limit/\limit<1000->Sep F W w (c8 a n c d::L)->
    (∀d' w',aiH lo b d d'->Sep F W w' (c8 a n c d'::L)->Q w')->fg a n c lo b limit iL w Q:=λlo b limit d w Q h1 h2 h3 h4 h5 s h=>by
   apply rQ;exact⟨N+1,ih lo b limit true true d w Q (N+1) h1 (Nat.lt_succ_self N) h2 h3 h4 h5 s h⟩
  intro lo b limit wb wp d w Q f h1 hf h2 h3 hB Au s h;obtain⟨f,rfl⟩:∃g,f=g+1:=⟨f-1,by omega⟩;show g9 Q (cB Q f) _ _ _ _ _ _ _ _ _ _;unfold g9;have hsz:=gu s;rw[aH];by_cases h12:b-lo<=12
  ·rw[bK];refine HA s (by omega) h2 h3 λw s=>h _ w ?_ s;exact Go.Sort.insertionSort_holds FK d lo b h2 (by omega)
  rw[bu];by_cases hl0:limit=0
  ·rw[d_ hl0,cond_true];refine aeb s (by omega) (by omega) h3 λw s=>h _ w ?_ s;exact Go.Sort.heapSort_holds FK d lo b h2 (by omega)
  rw[cN hl0,cond_false];have via:∀{d1 d':Array bh},PermIn lo b d d1->aiH lo b d1 d'->aiH lo b d d':=λh1 h2=>⟨Go.Sort.permIn_trans _ _ _ _ _ h1 h2.1,h2.2⟩;have b20:∀(limit:Int) (pv:Nat) (d1:Array bh) (w:World),0<=limit/\limit<1000->lo<=pv/\pv<b->PermIn lo b d d1->Sep F W w (c8 a n c d1::L)->
    jy (cB Q f) Q a n c lo b limit iL ((b:Int)-lo) pv w:=λlimit pv d1 w Au hp hP s=>by
   have au0:=gu s;rcases hx:Go.Sort.partition cK d1 lo b pv with⟨mid,ap,d4⟩;obtain⟨p1,p2,p3,p4,p5,p6,p7⟩:=Go.Sort.round_part FK (Go.Sort.partition_holds cK) hp.1 hp.2 (by omega) (Go.Sort.Below.perm hB (by omega) hP) hx;refine ab7 s (by omega) hp h3 λw s=>⟨by decide,?_⟩;rw[hx]at s⊢;rw[aH,aH,aH];by_cases hm:(mid:Int)-lo<b-mid
   ·rw[bK hm];refine call lo mid limit d4 w _ (by omega) (by omega) (by omega) p4 Au s λd5 w hS s=>?_;obtain⟨q1,q2⟩:=p6 d5 hS.1 hS.2;exact ih (mid+1) b limit _ _ d5 w Q f (by omega) (by omega) (by omega) h3 q1 Au s λd6 w hS2 s=>h d6 w (via hP (q2 d6 hS2.1 hS2.2)) s
   ·rw[bu hm];refine call (mid+1) b limit d4 w _ (by omega) (by omega) (by omega) p5 Au s λd5 w hS s=>?_;obtain⟨q1,q2⟩:=p7 d5 hS.1 hS.2;exact ih lo mid limit _ _ d5 w Q f (by omega) (by omega) (by omega) (by omega) q1 Au s λd6 w hS2 s=>h d6 w (via hP (q2 d6 hS2.1 hS2.2)) s
  have YS:∀(limit:Int) (pv:Nat) (d1:Array bh) (w:World),0<=limit/\limit<1000->lo<=pv/\pv<b->PermIn lo b d d1->Sep F W w (c8 a n c d1::L)->
    eS (cB Q f) Q a n c lo b limit iL wb wp ((b:Int)-lo) pv w:=λlimit pv d1 w Au hp hP s=>by
   have au0:=gu s;unfold eS;by_cases h0:lo>0
   ·rw[bK,aH];refine GJ (p:=lo-1) (ay s) (by omega) (by omega) rfl (by omega) λw s=>?_;show cond (!cK d1[lo-1]! d1[pv]!) _ _;cases hc:cK d1[lo-1]! d1[pv]! with
    |false=>
     rcases hx:Go.Sort.partitionEqual cK d1 lo b pv with⟨mid,d4⟩;obtain⟨p1,p2,p3,p4,p5⟩:=Go.Sort.round_eq FK (Go.Sort.partitionEqual_holds cK) h0 hp.1 hp.2 (by omega) (Go.Sort.Below.perm hB (by omega) hP) hc hx;refine S8 s (by omega) hp h3 λw s=>?_;rw[hx]at s⊢;exact ih mid b limit _ _ _ w Q f (by omega) (by omega) p2 h3 p4 Au s λd6 w hS2 s=>h d6 w (via hP (p5 d6 hS2.1 hS2.2)) s
    |true=>
     exact b20 limit pv d1 w Au hp hP s
   ·rw[bu];exact b20 limit pv d1 _ Au hp hP (ay s)
  have b15:∀(limit:Int) (pv:Nat) (hint:Int) (d1:Array bh) (w:World),0<=limit/\limit<1000->lo<=pv/\pv<b->PermIn lo b d d1->Sep F W w (c8 a n c d1::L)->
    gW (cB Q f) Q a n c lo b limit iL wb wp ((b:Int)-lo) pv hint w:=λlimit pv hint d1 w Au hp hP s=>by
   have au0:=gu s;unfold gW;cases hwb:wb with
   |false=>rw[cond_false];rw[hwb]at YS;exact YS limit pv d1 w Au hp hP s
   |true=>
    cases hwp:wp with
    |false=>rw[cond_false];rw[hwb,hwp]at YS;exact YS limit pv d1 w Au hp hP s
    |true=>
     rw[hwb,hwp]at YS;cases hint==1 with
     |false=>rw[cond_false];exact YS limit pv d1 w Au hp hP s
     |true=>
      have hpi:=Go.Sort.partialInsertionSort_holds FK d1 lo b (by omega) (by omega) (Go.Sort.Below.perm hB (by omega) hP);refine aag s (by omega) (by omega) h3 λw s=>?_;cases hr:(Go.Sort.partialInsertionSort cK d1 lo b).2 with
      |true=>
       exact h _ w (via hP ⟨hpi.1,hpi.2 hr⟩) s
      |false=>
       exact YS limit pv _ w Au hp (Go.Sort.permIn_trans _ _ _ _ _ hP hpi.1) s
  have b10:∀(limit:Int) (d1:Array bh) (w:World),0<=limit/\limit<1000->PermIn lo b d d1->Sep F W w (c8 a n c d1::L)->
    jz (cB Q f) Q a n c lo b limit iL wb wp ((b:Int)-lo) w:=λlimit d1 w Au hP s=>by
   refine Yt s (by omega) (by omega) h3 λpv hint w hp s=>?_;cases hint==2 with
   |true=>
    refine agP s (by omega) (by omega) h3 λd2 w hP2 s=>?_;rw[aH (n:=(b:Int)-1),aH (n:=(pv:Int)-lo),aH,show(b:Int)-1-(pv-lo)=((b-1-(pv-lo):Nat):Int) by omega];exact b15 limit _ 1 d2 w Au (by omega) (Go.Sort.permIn_trans _ _ _ _ _ hP hP2) s
   |false=>
    exact b15 limit pv hint d1 w Au hp hP s
  cases wb with
  |false=>
   refine aiG s hn (by omega) h3 λd1 w hP s=>?_;rw[aH];exact b10 (limit-1) d1 w (by omega) hP s
  |true=>
   exact b10 limit d w Au (Go.Sort.permIn_refl _ _ _) s
def aor (hn:n<2000){lo b:Nat}{limit:Int}{Q:World->Prop}(h2:lo<=b)(h3:b<=n)(h4:Below cK lo b d)(h5:0<=limit/\limit<1000)(s:Sep F W w (c8 a n c d::L))
  (h:∀d' w',aiH lo b d d'->Sep F W w' (c8 a n c d'::L)->Q w'):fg a n c lo b limit iL w Q:=by
 apply rQ;exact⟨b-lo+1,aqK hn (b-lo) lo b limit true true d w Q (b-lo+1) (Nat.le_refl _) (by omega) h2 h3 h4 h5 s h⟩
def aed {Q:World->Prop}{xs:List bh}(s:Sep F W w (ak a n c 294 3 (flat fS xs)::L))(hn:n<2000)(h:∀w',Sep F W w' (ak a n c 294 3 (flat fS (aab xs))::L)->Q w'):
  kP a n c iL w Q:=by
 have s:=s;have hsz:=gu s;apply AQ;rw[ku (by omega)];refine Rk (by omega) λv hv _ _=>?_;refine aor hn (Nat.zero_le _) (Nat.le_refl _) (.inl rfl) (by omega) s λd' w hS s=>h w ?_;have:=Go.Sort.sorted_unique_holds FK (λx y h k=>auR h k) xs.toArray d' (by rw[hsz];exact hS.1) (by rw[hsz];exact hS.2);unfold aab;grind
def agQ {Q:Option Addr->Nat->Nat->World->Prop}{xs:List bh}(s:Sep F W w (ak a n c 294 3 (flat fS xs)::L))(hn:n<1000000)(hnd:xs.Nodup)(h:∀w',Sep F W w' (ak a n c 294 3 (flat fS xs)::L)->Q a n c w'):
  lu a n c w Q:=by
 have s:Sep F W w (c8 a n c xs.toArray::L):=s;have hsz:=gu s;have hl:xs.length=n:=by grind
 apply Ba;by_cases h2:n<2
 ·grind
 ·rw[bu];have loop:∀(k i:Nat) (w:World),i+k=n->0<i->Sep F W w (c8 a n c xs.toArray::L)->fm Q (k+1) a n c i w:=by
   intro k;induction k with
   |zero=>
    intro i w hi h0 s;show gI Q (fm Q 0) _ _ _ _ _;unfold gI;grind
   |succ k ih=>
    intro i w hi h0 s;show gI Q (fm Q (k+1)) _ _ _ _ _;rw[gI,bK,aH];apply RdS (ay s) rfl (by omega);apply RdS (k:=i-1) (ay s) (by omega) (by omega);have hne:xs.toArray[i]!≠xs.toArray[i-1]!:=λe=>by have e1:=Xv (d:=xs.toArray) (k:=i) (by omega);have e2:=Xv (d:=xs.toArray) (k:=i-1) (by omega);rw[e,<-e2]at e1;have e1:=e1;have:=(List.getElem?_inj (by omega) hnd).1 e1;omega
    apply aoq;rw[bu hne,aH];exact ih (i+1) _ (by omega) (by omega) (ay s)
  exact⟨n-1+1,loop (n-1) 1 w (by omega) (by omega) s⟩
def aos {xs:List bh}(h:xs.Nodup):(aab xs).Nodup:=(List.mergeSort_perm xs _).nodup_iff.2 h
def Av {Q:Option Addr->Nat->Nat->World->Prop}{xs:List bh}(s0:Sep F W w L)(hX:Sl w a n c 3 fS xs)(hn:n<2000)(hnd:xs.Nodup)(h:∀ra rc w',Sep F W w' (ak ra n rc 294 3 (flat fS (NP xs))::L)->Fr No w w'->Q ra n rc w'):
  kG a n c w Q:=by
 apply ZS;refine Wn (aX (F:=No)) hX (by omega) λra rc w1 s _=>?_;refine aed s hn λw1 s=>?_;refine agQ s (by omega) (aos hnd) λw1 s=>?_;exact h ra rc w1 (dz s0 s (i:=0) rfl) (aq s)
def aah {Q:Bool->World->Prop}{xs ys:List bh}{b:Option Addr}{m e:Nat}(hX:Sl w a n c 3 fS xs)(hY:Sl w b m e 3 fS ys)(s0:Sep F W w L)(hn:n<1000000)(hm:m<1000000)(h:∀w',Sep F W w' L->Fr No w w'->Q (decide (xs=ys)) w'):
  EX a n c b m e w Q:=by
 apply Z0;apply Cl;have h1:=hX.len;have h2:=hY.len;have fin:∀(r:Bool) (w':World),r=decide (xs=ys)->Sep No w w' []->Q r w':=λr w' e s=>by subst e;exact h w' (bP s0 (aq s)) (aq s)
 by_cases hl:n=m
 ·subst hl;have loop:∀(k i:Nat) (w1:World),i+k=n->xs.take i=ys.take i->Sep No w w1 []->fQ Q (k+1) a n c b n e n i w1:=by
   intro k;induction k with
   |zero=>
    intro i w1 hi he s;show g_ Q (fQ Q 0) _ _ _ _ _ _ _ _ _;unfold g_;grind
   |succ k ih=>
    intro i w1 hi he s;show g_ Q (fQ Q (k+1)) _ _ _ _ _ _ _ _ _;rw[g_,bK];have s:=ay s;refine(hX.fr (aq s)).El rfl (by omega) λp x hx hc=>?_;refine aJ (hc 0 _ rfl) (aJ (hc 1 _ rfl) (aJ (hc 2 _ rfl) ?_));refine(hY.fr (aq s)).El rfl (by omega) λp y hy hc=>?_;refine aJ (hc 0 _ rfl) (aJ (hc 1 _ rfl) (aJ (hc 2 _ rfl) ?_));apply auY;by_cases hxy:x=y
    ·rw[decide_eq_true hxy,Bool.not_true,cond_false,aH];refine ih (i+1) _ (by omega) ?_ s;rw[List.take_add_one,List.take_add_one,hx,hy,he,hxy]
    grind
  rw[bne_self_eq_false,cond_false];exact⟨n+1,loop n 0 w (by omega) (by simp) aX⟩
 ·rw[show((n:Int) !=(m:Int))=true by grind,cond_true];refine fin false _ ?_ aX;grind
end
end Go.Proofs.YtmegplnmiepfbaaGreatDoor.S
namespace Go.Proofs.YtmegplnmiepfbaaGreatDoor.S
open Go.Sx
attribute [local irreducible] af cQ bG bp aA cE cw St Bx Al App cV cO cM bZ aQ bI au cj ax ak bg mapA
section
variable {W w w0:World}{p rp:Nat}{tw th a:Int}{ca ta da:Option Addr}{cn cc tn tc dn dc:Nat}{cs ds:List Int}{xs todo:List bh}{l:List (Int×Int)}{bs:List Rg.Bk}{N:Nat}
def swc (tw th:Int)(ca:Option Addr)(cn cc rp:Nat)(ta:Option Addr)(tn tc:Nat)(da:Option Addr)(dn dc:Nat):List Value:=
 [ae tw,ae th,.slice ca cn cc,.pointer (sZ rp),.slice ta tn tc,.slice da dn dc]
abbrev Dw (p rp:Nat)(tw th:Int)(ca:Option Addr)(cn cc:Nat)(a:Int)(l:List (Int×Int))(bs:List Rg.Bk)(N:Nat)(ta:Option Addr)(tn tc:Nat)(todo:List bh)(da:Option Addr)(dn dc:Nat)(ds:List Int):List As:=
 [ax p 363 (swc tw th ca cn cc rp ta tn tc da dn dc),Rg.Bw rp a l bs N,ak ta tn tc 294 3 (flat fS todo),ak da dn dc 3 1 (flat one ds)]
def aot {Q:World->Prop}
  (h:∀(l':List (Int×Int)) (N':Nat) (todo':List bh) bs' YL tn' YM w',Cy tw th cs xs a l' N' todo' ds->(∀x∈todo',a+256<=x.k)->l'.length+todo'.length=l.length+todo.length->(l'=[]->l=[]/\todo'=todo)->Sep No w0 w' (Dw p rp tw th ca cn cc a l' bs' N' YL tn' YM todo' da dn dc ds)->Q w')(uJ:cs.length<=256)(hxs:xs.length<2000):
  ∀(II:List bh) (l1:List (Int×Int)) (N1:Nat) (yh:List Rg.Bk) (ta1:Option Addr) (tn1 tc1:Nat) (w:World),Cy tw th cs xs a l1 N1 II ds->l1.length+II.length=l.length+todo.length->(l1=[]->l=[]/\II=todo)->
   Sep No w0 w (Dw p rp tw th ca cn cc a l1 yh N1 ta1 tn1 tc1 II da dn dc ds)->gA Q (II.length+1) (sZ p) w:=by
 intro II;induction II with
 |nil=>
  intro l1 N1 yh ta1 tn1 tc1 w I hl he s;show x7 Q (gA Q 0) _ _;have Q7:=(aN s (i:=2) rfl nD (by decide)).len;refine ah (gY (ay s) (i:=0) rfl rfl rfl ?_);subst Q7;exact h l1 N1 [] yh ta1 _ tc1 _ I (by simp) hl he (ay s)
 |cons x II ih=>
  intro l1 N1 yh ta1 tn1 tc1 w I hl he s;show x7 Q (gA Q (II.length+1)) _ _;have hX:=aN s (i:=2) rfl nD (by decide);have Q7:=hX.len;have Wx:=I.fV;simp[List.length_cons]at Q7 Wx;have s:=ay s;refine ah (lS s 0 rfl ?_);rw[bK];refine ah (lP s 0 rfl (ah (lS s 0 rfl ?_)));refine hX.El (k:=0) rfl (by omega) λq y hy hc=>?_;have hy:x=y:=by grind
  subst hy;refine aJ (hc 2 _ rfl) (ah (lS s 0 rfl ?_));refine hX.El (k:=0) rfl (by omega) λq y hy hc=>?_;have hy:x=y:=by grind
  subst hy;have hc0:=hc 0 _ rfl;refine aJ hc0 ?_;have aae:=I.top (kc x) (by simp);have SY:=I.low x (by simp);have hk:(kc x).1=x.k:=rfl;refine Rg.Rh s (i:=1) rfl (by omega) (by omega) (λhno=>?_) λhyes w HB s=>?_
  ·refine h l1 N1 (x::II) yh ta1 tn1 tc1 _ I (λy hy=>?_) hl he s;rcases List.mem_cons.1 hy with rfl|hy
   ·omega
   ·have:=(List.pairwise_cons.1 I.NV).1 y hy;omega
  ·rw[cond_true];refine ah (lS s 0 rfl ?_);apply Py (m:=1) rfl (by omega);refine ah (sT s 0 rfl λw s=>?_);have s:=af7 (m:=1) s (i:=2) rfl (by omega);refine ih (l1++[kc x]) (N1+1) HB _ _ _ w I.take (by simp[List.length_append,List.length_cons,List.length_nil]at hl⊢;omega) (λe=>by simp at e) s
def acd {Q:World->Prop}(I:Cy tw th cs xs a l N todo ds)(uJ:cs.length<=256)(hxs:xs.length<2000)(s:Sep No w0 w (Dw p rp tw th ca cn cc a l bs N ta tn tc todo da dn dc ds))
  (h:∀(a':Int) (l':List (Int×Int)) (N':Nat) (todo':List bh) bs' YL tn' YM w',Cy tw th cs xs a' l' N' todo' ds->(∀x∈todo',a'+256<=x.k)->(l'=[]->todo'=[])->l'.length+todo'.length=l.length+todo.length->Sep No w0 w' (Dw p rp tw th ca cn cc a' l' bs' N' YL tn' YM todo' da dn dc ds)->Q w'):
  jO (sZ p) w Q:=by
 apply Ly;have hX:=aN s (i:=2) rfl nD (by decide);have Q7:=hX.len;refine ah (lS s 0 rfl ?_);have go:∀(a1:Int) (yh:List Rg.Bk) (w:World),Cy tw th cs xs a1 l N todo ds->(l=[]->∀x∈todo.head?,a1=x.k)->Sep No w0 w (Dw p rp tw th ca cn cc a1 l yh N ta tn tc todo da dn dc ds)->∃k',gA Q k' (sZ p) w:=λa1 yh w I he s=>by
  refine⟨todo.length+1,aot (λl' N' todo' bs' YL tn' YM w' I' hf hl hn s'=>?_) uJ hxs todo l N yh ta tn tc w I rfl (λe=>⟨e,rfl⟩) s⟩;refine h a1 l' N' todo' bs' YL tn' YM w' I' hf (λe=>?_) hl s';obtain⟨e1,e2⟩:=hn e;cases todo with
  |nil=>exact e2
  |cons y ys=>
   have h1:=he e1 y (by simp);grind
 cases K5:todo with
 |nil=>
  subst K5;have Q7:=Q7;subst Q7;exact go a bs w I (λ_ x hx=>by simp at hx) s
 |cons x ys=>
  subst K5;simp[List.length_cons]at Q7;rw[bK];refine ah (lP s 0 rfl ?_);apply Rg.Db s (i:=1) rfl;by_cases hl:l=[]
  ·subst hl;rw[d_ (show((([]:List (Int×Int)).length:Nat):Int)=0 from rfl),cond_true];have s:=ay s;refine ah (lP s 0 rfl (ah (lS s 0 rfl ?_)));refine hX.El (k:=0) rfl (by omega) λq y hy hc=>?_;have hy:x=y:=by grind
   subst hy;refine aJ (hc 2 _ rfl) ?_;have aae:=I.top (kc x) (by simp);have hk:(kc x).1=x.k:=rfl;refine Rg.ab2 s (i:=1) rfl (λhno=>?_) λ_ w HB s=>?_
   ·exact(hno ⟨rfl,I.low x (by simp),by omega⟩).elim
   ·exact go x.k HB w I.jump (λ_ y hy=>by grind) s
  ·rw[cN (by simp_all),cond_false];grind
def akf {Q:World->Prop}{x key:Int}(hC:Sl w0 ca cn cc 1 bj cs)(hx:0<=x/\x<cs.length)(hds:ds.length=cs.length)(hk:a<=key/\key<a+256/\key<1000000000000)(hN:N+1<1000000)
  (s:Sep No w0 w (Dw p rp tw th ca cn cc a l bs N ta tn tc todo da dn dc ds))
  (h:∀bs' w',Sep No w0 w' (Dw p rp tw th ca cn cc a (l++if gi cs x.toNat≠255/\gi ds x.toNat=cf then[(key,x)]else[]) bs' (N+(if gi cs x.toNat≠255/\gi ds x.toNat=cf then[(key,x)]else[]).length) ta tn tc todo da dn dc ds)->Q w'):
  iw (sZ p) x key w Q:=by
 apply Kt;have hD:=aN s (i:=3) rfl cv (by decide);have NJ:=hC.len;have hdn:=hD.len;have skip:¬(gi cs x.toNat≠255/\gi ds x.toNat=cf)->Q w:=λhn=>by apply h bs w;grind
 refine ah (lS s 0 rfl ?_);apply(hC.fr (aq s)).Di (k:=x.toNat) (by omega) (by omega);by_cases h1:gi cs x.toNat=255
 ·grind
 ·rw[show(gi cs x.toNat !=255)=true by grind,cond_true];refine ah (lS s 0 rfl ?_);apply hD.qD (k:=x.toNat) (by omega) (by omega);by_cases h2:gi ds x.toNat=cf
  ·rw[d_ (show gi ds x.toNat=1099511627776 from h2),cond_true];refine ah (lP s 0 rfl ?_);refine Rg.Rh s (i:=1) rfl (by omega) (by omega) (λhno=>(hno ⟨hk.1,hk.2.1⟩).elim) λ_ w HB s=>?_;apply h HB w;grind
  ·rw[cN (show gi ds x.toNat≠1099511627776 from h2),cond_false];grind
def aiI {Q:World->Prop}{x:Int}(hC:Sl w0 ca cn cc 1 bj cs)(hcs:∀x∈cs,1<=x/\x<256)(hw:1<=tw/\tw<=16)(hh:1<=th/\th<=16)(hlen:(cs.length:Int)=tw*th)(hx:0<=x/\x<cs.length)(Jh:gi cs x.toNat≠255)(hds:ds.length=cs.length)
  (ha:gi ds x.toNat=a)(hab:0<=a/\a<100000000000)(hN:N+4<1000000)(s:Sep No w0 w (Dw p rp tw th ca cn cc a l bs N ta tn tc todo da dn dc ds))
  (h:∀bs' w',Sep No w0 w' (Dw p rp tw th ca cn cc a (l++kX tw th cs ds (a+gi cs x.toNat) x 4) bs' (N+(kX tw th cs ds (a+gi cs x.toNat) x 4).length) ta tn tc todo da dn dc ds)->Q w'):
  sU (sZ p) x w Q:=by
 apply JP;have hD:=aN s (i:=3) rfl cv (by decide);have NJ:=hC.len;have hdn:=hD.len;have hcx:=hcs _ (fA (i:=x.toNat) (by omega));have K9:x<257:=by have:tw*th<=16*16:=Int.mul_le_mul hw.2 hh.2 (by omega) (by decide);omega
 have d0:0<=x/tw:=Int.ediv_nonneg hx.1 (by omega);have d1:x/tw<=x:=Int.ediv_le_self _ hx.1;have s:=ay s;refine ah (lS s 0 rfl ?_);apply hD.drew.qD (k:=x.toNat) (by omega) (by omega);refine ah (lS s 0 rfl ?_);apply(hC.fr (aq s)).Di (k:=x.toNat) (by omega) (by omega);have s:=ay s;refine ah (lI s 0 rfl ⟨by omega,ah (lI s 0 rfl ⟨by omega,ck s 0 rfl,?_⟩)⟩);rw[ha,Int.tdiv_eq_ediv_of_nonneg hx.1,Int.tmod_eq_emod_of_nonneg hx.1,aH,aH (n:=gi cs x.toNat),aH];generalize hkey:a+gi cs x.toNat=key at h;have hkr:a<=key/\key<a+256/\key<1000000000000:=by omega
 have one:∀{j:Nat} {yh:List Rg.Bk} {w:World} {K:World->Prop} {y:Int},j<4->0<=bN tw th x j->y=bN tw th x j->Sep No w0 w (Dw p rp tw th ca cn cc a (l++kX tw th cs ds key x j) yh (N+(kX tw th cs ds key x j).length) ta tn tc todo da dn dc ds)->
   (∀HB w',Sep No w0 w' (Dw p rp tw th ca cn cc a (l++kX tw th cs ds key x (j+1)) HB (N+(kX tw th cs ds key x (j+1)).length) ta tn tc todo da dn dc ds)->K w')->iw (sZ p) y key w K:=λ{j yh w K y} hj h0 hy s hK=>by
  subst hy;have hr:=S7 hw.1 hh.1 (by grind) h0;have IU:=Wu tw th cs ds key x j;refine akf hC ⟨h0,by grind⟩ hds hkr (by omega) s λHB w s=>hK HB w ?_;rw[ab6];unfold ab5;grind
 have none:∀{j:Nat} {yh:List Rg.Bk} {w:World},¬0<=bN tw th x j->Sep No w0 w (Dw p rp tw th ca cn cc a (l++kX tw th cs ds key x j) yh (N+(kX tw th cs ds key x j).length) ta tn tc todo da dn dc ds)->
   Sep No w0 w (Dw p rp tw th ca cn cc a (l++kX tw th cs ds key x (j+1)) yh (N+(kX tw th cs ds key x (j+1)).length) ta tn tc todo da dn dc ds):=λ{j yh w} h0 s=>by
  rw[ab6];unfold ab5;grind
 have n0:bN tw th x ((0:Nat):Int)=if x/tw>0 then x-tw else-1:=by unfold bN;rw[if_pos (by decide)]
 have n1:bN tw th x ((1:Nat):Int)=if x%tw<tw-1 then x+1 else-1:=by unfold bN;rw[if_neg (by decide),if_pos (by decide)]
 have n2:bN tw th x ((2:Nat):Int)=if x/tw<th-1 then x+tw else-1:=by unfold bN;rw[if_neg (by decide),if_neg (by decide),if_pos (by decide)]
 have n3:bN tw th x ((3:Nat):Int)=if x%tw>0 then x-1 else-1:=by unfold bN;rw[if_neg (by decide),if_neg (by decide),if_neg (by decide),if_pos (by decide)]
 have hxe:x=x/tw*tw+x%tw:=by have:=Int.mul_ediv_add_emod x tw;rw[Int.mul_comm]at this;omega
 have hm0:0<=x%tw:=Int.emod_nonneg _ (by omega);have b8:∀(yh:List Rg.Bk) (w:World),Sep No w0 w (Dw p rp tw th ca cn cc a (l++kX tw th cs ds key x 3) yh (N+(kX tw th cs ds key x 3).length) ta tn tc todo da dn dc ds)->my Q (some ⟨p,0,Option.none⟩) x key (x%tw) w:=λyh w s=>by
  unfold my;by_cases q:x%tw>0
  ·rw[bK q,aH];rw[if_pos q]at n3;refine one (by decide) (by rw[n3];have:=Int.mul_nonneg d0 (show 0<=tw by omega);omega) n3.symm s λHB w s=>h HB w s
  ·rw[bu q];rw[if_neg q]at n3;exact h yh w (none (by rw[n3];decide) s)
 have b6:∀(yh:List Rg.Bk) (w:World),Sep No w0 w (Dw p rp tw th ca cn cc a (l++kX tw th cs ds key x 2) yh (N+(kX tw th cs ds key x 2).length) ta tn tc todo da dn dc ds)->pN Q (some ⟨p,0,Option.none⟩) x key (x%tw) (x/tw) w:=λyh w s=>by
  refine ah (lI s 0 rfl ?_);rw[aH];by_cases q:x/tw<th-1
  ·rw[bK q];refine ah (lI s 0 rfl ?_);rw[aH];rw[if_pos q]at n2;exact one (by decide) (by rw[n2];omega) n2.symm s λHB w s=>b8 HB w s
  ·rw[bu q];rw[if_neg q]at n2;exact b8 yh w (none (by rw[n2];decide) s)
 have b4:∀(yh:List Rg.Bk) (w:World),Sep No w0 w (Dw p rp tw th ca cn cc a (l++kX tw th cs ds key x 1) yh (N+(kX tw th cs ds key x 1).length) ta tn tc todo da dn dc ds)->pO Q (some ⟨p,0,Option.none⟩) x key (x%tw) (x/tw) w:=λyh w s=>by
  refine ah (lI s 0 rfl ?_);rw[aH];by_cases q:x%tw<tw-1
  ·rw[bK q,aH];rw[if_pos q]at n1;exact one (by decide) (by rw[n1];omega) n1.symm s λHB w s=>b6 HB w s
  ·rw[bu q];rw[if_neg q]at n1;exact b6 yh w (none (by rw[n1];decide) s)
 have e0:kX tw th cs ds key x 0=[]:=rfl;have s:Sep No w0 w.drew.drew (Dw p rp tw th ca cn cc a (l++kX tw th cs ds key x 0) bs (N+(kX tw th cs ds key x 0).length) ta tn tc todo da dn dc ds):=by rw[e0,List.append_nil];exact s
 by_cases q:x/tw>0
 ·rw[bK q];refine ah (lI s 0 rfl ?_);rw[aH];rw[if_pos q]at n0;refine one (by decide) ?_ n0.symm s λHB w s=>b4 HB w s;have:=Int.mul_le_mul_of_nonneg_right (show 1<=x/tw by omega) (show 0<=tw by omega);omega
 grind
def aqM {Q:World->Prop}(hC:Sl w0 ca cn cc 1 bj cs)(hcs:∀x∈cs,1<=x/\x<256)(hw:1<=tw/\tw<=16)(hh:1<=th/\th<=16)(hlen:(cs.length:Int)=tw*th)(uJ:cs.length<=256)(hxs:xs.length<2000)
  (h:∀a bs N ta tn tc w',Sep No w0 w' (Dw p rp tw th ca cn cc a [] bs N ta tn tc [] da dn dc (jv tw th cs xs))->Q w'):
  ∀(f:Nat) (a:Int) (l:List (Int×Int)) (bs:List Rg.Bk) (N:Nat) (ta:Option Addr) (tn tc:Nat) (todo:List bh) (ds:List Int) (w:World),l.length+todo.length+5*GI ds<=f->0<=a->Cy tw th cs xs a l N todo ds->(∀x∈todo,a+256<=x.k)->(l=[]->todo=[])->
   Sep No w0 w (Dw p rp tw th ca cn cc a l bs N ta tn tc todo da dn dc ds)->jQ Q (f+1) (sZ p) w:=by
 intro f;induction f with
 |zero=>
  intro a l bs N ta tn tc todo ds w hf ha I au2 aiJ s;obtain rfl:l=[]:=List.eq_nil_of_length_eq_zero (by omega);have K5:=aiJ rfl;subst K5;show zn Q (jQ Q 0) _ _;refine ah (lP s 0 rfl (Rg.Db s (i:=1) rfl ?_));apply h a bs N ta tn tc w;rw[<-I.done];exact s
 |succ f ih=>
  intro a l bs N ta tn tc todo ds w hf ha I au2 aiJ s;show zn Q (jQ Q (f+1)) _ _;refine ah (lP s 0 rfl (Rg.Db s (i:=1) rfl ?_));by_cases hl:l=[]
  ·subst hl;have K5:=aiJ rfl;subst K5;apply h a bs N ta tn tc w;rw[<-I.done];exact s
  ·have hl0:=List.length_pos_iff.2 hl;have ayG:=Rg.Ie s (i:=1) rfl;rw[bK];refine ah (lP s 0 rfl ?_);refine Rg.aea s (i:=1) rfl (λe=>(hl e).elim) λw k l1 x l2 HB e awC awD sN=>?_;subst e;have s:=sN;have hin:(k,x)∈(l1++(k,x)::l2)++todo.map kc:=by simp
   have Jh:=I.Ej _ hin;have aae:=I.top _ hin;simp[List.length_append,List.length_cons]at aae hf;have hfit:=ayG.fit (k,x) (by simp);have hmin:∀e∈l1++l2,k<=e.1:=λe he=>by
    rcases List.mem_append.1 he with he|he
    ·have:=awC e he;omega
    ·exact awD e he
   have asf:∀y∈todo,k<=y.k:=λy hy=>by have:=au2 y hy;omega
   have hD:=aN s (i:=3) rfl cv (by decide);have hdn:=hD.len;have hdl:=I.len;have ayH:0<=x/\x<cs.length:=⟨Jh.1,Jh.2.1⟩;apply ah;apply lS s 0 rfl;apply hD.qD (k:=x.toNat) (by omega) (by omega);have next:∀{l':List (Int×Int)} {N':Nat} {bs':List Rg.Bk} {ds':List Int} {w:World},Cy tw th cs xs k l' N' todo ds'->l'.length+todo.length+5*GI ds'<=f->Sep No w0 w (Dw p rp tw th ca cn cc k l' bs' N' ta tn tc todo da dn dc ds')->
     jO (sZ p) w λw'=>jQ Q (f+1) (sZ p) w':=λI' hf' s'=>by
    refine acd I' uJ hxs s' λa' l' N' todo' bs' YL tn' YM w' I2 al1 al2 YQ s2=>?_;have al3:=Rg.Ie s2 (i:=1) rfl;exact ih a' l' bs' N' YL tn' YM todo' _ w' (by omega) al3.nn I2 al1 al2 s2
   by_cases hd:gi ds x.toNat=cf
   ·rw[d_ (show gi ds x.toNat=1099511627776 from hd),cond_true];apply ah;apply lS s 0 rfl;refine E6 cv s (i:=3) (k:=x.toNat) (x':=k) rfl (by omega) (by omega) rfl rfl λw s=>?_;have Hz:=Wt (k:=k) (by unfold cf;omega) (by omega) hd;have Wx:=I.fV;have awE:gi (ds.set x.toNat k) x.toNat=k:=by rw[aa7 (by omega),if_pos rfl]
    refine aiI hC hcs hw hh hlen ayH Jh.2.2 (by rw[List.length_set];exact hdl) awE ⟨by omega,by omega⟩ (by omega) s λbs' w s=>?_;have IU:=Wu tw th cs (ds.set x.toNat k) (k+gi cs x.toNat) x 4;refine next (I.step hcs hw.1 hh.1 hlen uJ hd hmin asf rfl) ?_ s
    simp[List.length_append];omega
   ·rw[cN (show gi ds x.toNat≠1099511627776 from hd),cond_false];refine next (I.skip ?_ asf) (by simp[List.length_append];omega) s
    have hfx:fD ds x=gi ds x.toNat:=by unfold fD;rw[AH]
    by_cases q:fD ds x<cf
    ·exact q
    ·have:=I.dj.none x q;rw[hfx]at this;exact(hd this).elim
def aow {Q:Option Addr->Nat->Nat->Int->World->Prop}(hC:Sl w0 ca cn cc 1 bj cs)(hcs:∀x∈cs,1<=x/\x<256)(hw:1<=tw/\tw<=16)(hh:1<=th/\th<=16)(hlen:(cs.length:Int)=tw*th)(uJ:cs.length<=256)(hxs:xs.length<2000)
  (I:Cy tw th cs xs 0 [] 0 todo ds)(s:Sep No w0 w (Dw p rp tw th ca cn cc 0 [] bs 0 ta tn tc todo da dn dc ds))
  (h:∀da dc w',Sep No w0 w' [ak da cs.length dc 3 1 (flat one (jv tw th cs xs))]->Q da cs.length dc 0 w'):q8 Q (aZ p) w:=by
 apply MW;refine acd I uJ hxs s λa' l' N' todo' bs' YL tn' YM w' I2 al1 al2 YQ s2=>?_;have al3:=Rg.Ie s2 (i:=1) rfl;refine⟨_,aqM hC hcs hw hh hlen uJ hxs (λa bs N ta tn tc w s=>?_) _ a' l' bs' N' YL tn' YM todo' ds w' (Nat.le_refl _) al3.nn I2 al1 al2 s2⟩;apply lS s 0 rfl;have hdn:=(aN s (i:=3) rfl cv (by decide)).len;have e:dn=cs.length:=by rw[<-hdn];simp[jv]
 subst e;exact h da dc w (ai (ai (ai s)))
end
section
variable {F:Nat->Prop}{W w w0:World}{L:List As}{tw th:Int}{ca la:Option Addr}{cn cc ln lc:Nat}{cs:List Int}{xs:List bh}
def aai:(jv tw th cs xs).length=cs.length:=by simp[jv]
def aee {b:Nat}{v:Int}(s:Sep F W w (ax b 3 [ae v]::L)):Sl w (sZ b) 1 1 1 one [v]:=
 aN (g7 s (i:=0) rfl rfl (by decide) (λu hu=>by rw[List.mem_singleton]at hu;rw[hu];rfl)) (i:=0) rfl cv (by decide)
structure rX (tw th:Int) (cs:List Int):Prop where
 w:1<=tw/\tw<=16
 h:1<=th/\th<=16
 len:(cs.length:Int)=tw*th
 jE:∀x∈cs,1<=x/\x<256
def rX.small (h:rX tw th cs):1<=cs.length/\cs.length<=256:=by have h1:=Int.mul_le_mul h.w.2 h.h.2 (by have:=h.h;omega) (by decide);have h2:=Int.mul_le_mul h.w.1 h.h.1 (by decide) (by have:=h.w;omega);have:=h.len;omega
def Wz {Q:Option Addr->Nat->Nat->Int->World->Prop}(s0:Sep F W w L)(hA:Sl w ca cn cc 1 bj cs)(hX:Sl w la ln lc 3 fS xs)(hT:rX tw th cs)(hok:rV tw th cs xs=true)(hnd:xs.Nodup)(qi:ln<2000)
  (h:∀da dc w',Sep F W w' (ak da cs.length dc 3 1 (flat one (jv tw th cs xs))::L)->Fr No w w'->Q da cs.length dc 0 w'):xg tw th ca cn cc la ln lc w Q:=by
 apply VY;have uJ:=hT.small;have hxl:=hX.len;have yg:=hA.len;refine aM (aX (F:=No)) λtb w1 s=>?_;refine lI s 0 rfl (lI s 0 rfl (lS s 0 rfl ?_));refine NL s (hA.fr (aq s)) (hX.fr (aq s)) (by omega) λw1 s _=>?_;rw[hok,Bool.not_true,cond_false];have s:=ay s;refine lI s 0 rfl (lI s 0 rfl (lS s 0 rfl (lS s 0 rfl ?_)));have fin:∀{p rp:Nat} {bs:List Rg.Bk} {ta da:Option Addr} {tc dn dc:Nat} {w':World},Sep No w w' (Dw p rp tw th ca cn cc 0 [] bs 0 ta ln tc (NP xs) da dn dc (List.replicate cs.length cf))->q8 Q (aZ p) w':=λs=>
  aow hA hT.jE hT.w hT.h hT.len uJ.2 (by omega) (aoi hok (λx=>aqB) aqC akc) s λda dc w' s'=>h da dc w' (dz s0 s' (i:=0) rfl) (aq s')
 have cell:∀{w':World} {L':List As} {i j:Nat} {v:Value},Sep No w w' L'->L'[i]? =some (ax tb 84 [ae tw,ae th,.slice ca cn cc])->([ae tw,ae th,.slice ca cn cc]:List Value)[j]? =some v->w'.cell? ((aZ tb).add j)=some v:=λs hi hj=>cF s (by rw[cq,Nat.zero_add]) hi hj;have e0:((cn:Nat):Int)=((cs.length:Nat):Int):=by omega
 constructor
 ·refine Rg.Ri s (λe=>by omega) λ_ rp w1 bs s=>?_;refine⟨cell s (i:=1) rfl rfl,cell s (i:=1) rfl rfl,cell s (i:=1) rfl rfl,cell s (i:=1) rfl rfl,?_,?_⟩
  ·refine Av s (hX.fr (aq s)) qi hnd λra rc w1 s _=>?_;refine⟨cell s (i:=2) rfl rfl,cell s (i:=2) rfl rfl,cell s (i:=2) rfl rfl,cell s (i:=2) rfl rfl,?_⟩;refine aM s λib w1 s=>?_;refine⟨cell s (i:=3) rfl rfl,cell s (i:=3) rfl rfl,cell s (i:=3) rfl rfl,cell s (i:=3) rfl rfl,?_⟩;rw[e0];refine LS s (aee s) (by omega) λda w1 s _=>?_;refine⟨cell s (i:=4) rfl rfl,cell s (i:=4) rfl rfl,cell s (i:=4) rfl rfl,?_⟩;refine aM s λpb w1 s=>?_;exact fin (pk 99 [0,4,3,1] s)
  ·refine aM s λib w1 s=>?_;refine⟨cell s (i:=2) rfl rfl,cell s (i:=2) rfl rfl,cell s (i:=2) rfl rfl,cell s (i:=2) rfl rfl,?_⟩;have hI:=aee s;refine Av s (hX.fr (aq s)) qi hnd λra rc w1 s f=>?_;refine⟨cell s (i:=3) rfl rfl,cell s (i:=3) rfl rfl,cell s (i:=3) rfl rfl,cell s (i:=3) rfl rfl,?_⟩;rw[e0];refine LS s (hI.fr f) (by omega) λda w1 s _=>?_;refine⟨cell s (i:=4) rfl rfl,cell s (i:=4) rfl rfl,cell s (i:=4) rfl rfl,?_⟩;refine aM s λpb w1 s=>?_;exact fin (pk 99 [0,4,2,1] s)
 ·refine aM s λib w1 s=>?_;refine⟨cell s (i:=1) rfl rfl,cell s (i:=1) rfl rfl,cell s (i:=1) rfl rfl,cell s (i:=1) rfl rfl,?_⟩;refine Rg.Ri s (λe=>by omega) λ_ rp w1 bs s=>?_;refine⟨cell s (i:=2) rfl rfl,cell s (i:=2) rfl rfl,cell s (i:=2) rfl rfl,cell s (i:=2) rfl rfl,?_⟩;have hI:=aee (ai s);refine Av s (hX.fr (aq s)) qi hnd λra rc w1 s f=>?_;refine⟨cell s (i:=3) rfl rfl,cell s (i:=3) rfl rfl,cell s (i:=3) rfl rfl,cell s (i:=3) rfl rfl,?_⟩;rw[e0];refine LS s (hI.fr f) (by omega) λda w1 s _=>?_;refine⟨cell s (i:=4) rfl rfl,cell s (i:=4) rfl rfl,cell s (i:=4) rfl (j:=2) rfl,?_⟩;refine aM s λpb w1 s=>?_;exact fin (pk 99 [0,3,2,1] s)
end
end Go.Proofs.YtmegplnmiepfbaaGreatDoor.S
namespace Go.Proofs.YtmegplnmiepfbaaGreatDoor.S
open Go.Sx
def au4 {cs:List Value}{t:TypeId}{w:World}{R:World->Prop}{K:Addr->World->Prop}(h:Bx cs t w K)(hr:R (w.alloc (.cells cs.toArray t))):Bx cs t w λp w1=>R w1/\K p w1:=⟨hr,h⟩
attribute [local irreducible] af cQ bG bp aA cE cw St Bx Al App cV cO cM bZ aQ bI au cj ax ak bg mapA
section
variable {F:Nat->Prop}{W w w0:World}{L:List As}{p:Nat}{tw th l:Int}{ca la da:Option Addr}{cn cc ln lc dn dc:Nat}{cs ds:List Int}{xs:List bh}
structure Xw (w:World) (p:Nat) (tw th:Int) (cs:List Int) (xs:List bh) (ds:List Int):Prop where
 ex:∃ca cn cc la ln lc da dn dc,rW w p [ae tw,ae th,.slice ca cn cc,.slice la ln lc,.slice da dn dc]/\Sl w ca cn cc 1 bj cs/\Sl w la ln lc 3 fS xs/\Sl w da dn dc 1 one ds/\ln<2000
 T:rX tw th cs
 len:ds.length=cs.length
 jE:∀x∈ds,0<=x/\x<=cf
def Xw.fr {w':World}(k:Xw w p tw th cs xs ds)(f:Fr No w w'):Xw w' p tw th cs xs ds:=by obtain⟨ca,cn,cc,la,ln,lc,da,dn,dc,h1,h2,h3,h4,h5⟩:=k.ex;exact⟨⟨ca,cn,cc,la,ln,lc,da,dn,dc,h1.fr f,h2.fr f,h3.fr f,h4.fr f,h5⟩,k.T,k.len,k.jE⟩
def EB {Q:Bool->World->Prop}{s:Int}(s0:Sep F W w L)(k:Xw w p tw th cs xs ds)(hl:0<=l/\l<cs.length)(h:∀w',Sep F W w' L->Fr No w w'->Q (TP tw th cs xs (fD ds) l s) w'):
  nH (sZ p) l s w Q:=by
 apply UT;have hT:=k.T;have uJ:=hT.small;have hdl:=k.len;obtain⟨ca,cn,cc,la,ln,lc,da,dn,dc,k1,k2,k3,k4,k5⟩:=k.ex;have hdn:=k4.len;have NJ:=k2.len;refine abY (aX (F:=No)) k1 hT.w hT.h ⟨hl.1,by omega⟩ λw1 s1 f1=>?_;unfold TP at h;have hfl:fD ds l=gi ds l.toNat:=by unfold fD;omega
 by_cases hn:bN tw th l s<0
 ·rw[bK hn];rw[if_pos hn,hfl]at h;have k1:=(k1.fr f1).fr (w':=w1.drew) Fr.refl;have k4:=(k4.fr f1).drew;refine ah (cS (k1 3 _ rfl) (ah (cS (k1 4 _ rfl) ?_)));refine Sl.El k4 (k:=l.toNat) (by omega) (by omega) λq x hx hc=>?_;rw[iA (by omega)]at hx;cases hx;have hc0:=hc 0 _ rfl;apply aJ hc0;refine LY (ay s1) ((k3.fr f1).drew) (by omega) λw2 s2 f2=>?_;exact⟨Fr.cell f2 hc0 id,(k1.fr f2) 4 _ rfl,h _ (bP s0 (aq s2)) (aq s2)⟩
 ·rw[bu hn];rw[if_neg hn,hfl]at h;have hr:=S7 hT.w.1 hT.h.1 (by rw[<-hT.len];exact hl) (show 0<=bN tw th l s by omega);have hnl:bN tw th l s<cs.length:=by rw[hT.len];exact hr.1
  have hfn:fD ds (bN tw th l s)=gi ds (bN tw th l s).toNat:=by unfold fD;omega
  rw[hfn]at h;have k1:=(k1.fr f1).fr (w':=w1.drew) Fr.refl;have k2:=(k2.fr f1).drew;have k4:=(k4.fr f1).drew;have s1:=ay s1;have YT:=hT.jE _ (fA (i:=(bN tw th l s).toNat) (by omega));have hd1:=k.jE _ (fA (i:=(bN tw th l s).toNat) (by omega));refine ah (cS (k1 2 _ rfl) ?_);apply k2.Di (k:=(bN tw th l s).toNat) (by omega) (by omega);have h:=h _ (bP s0 (aq s1)) (aq s1);by_cases h1:gi cs (bN tw th l s).toNat=255
  ·grind
  ·have e:(gi cs (bN tw th l s).toNat !=255)=true:=by grind
   rw[e,Bool.true_and]at h;rw[e,cond_true];refine ah (cS (k1 2 _ rfl) ?_);apply k2.Di (k:=(bN tw th l s).toNat) (by omega) (by omega);refine ah (cS (k1 4 _ rfl) ?_);apply k4.qD (k:=(bN tw th l s).toNat) (by omega) (by omega);refine ah (cS (k1 4 _ rfl) ?_);apply k4.qD (k:=l.toNat) (by omega) (by omega);unfold cf at hd1;rw[aH (n:=gi cs (bN tw th l s).toNat),aH];exact h
def aef {Q:Int->World->Prop}(s0:Sep F W w L)(k:Xw w p tw th cs xs ds)(hl:0<=l/\l<cs.length)(h:∀w',Sep F W w' L->Fr No w w'->Q (aaa tw th cs xs (fD ds) l) w'):
  Ad (sZ p) l w Q:=by
 apply SL;have hdl:=k.len;have hfl:fD ds l=gi ds l.toNat:=by unfold fD;omega
 obtain⟨ca,cn,cc,la,ln,lc,da,dn,dc,k1,k2,k3,k4,k5⟩:=k.ex;have hdn:=k4.len;refine ah (cS (k1 4 _ rfl) ?_);apply k4.qD (k:=l.toNat) (by omega) (by omega);unfold aaa at h;rw[hfl]at h;by_cases hI:gi ds l.toNat=cf
 ·rw[if_pos hI]at h;rw[d_ (show gi ds l.toNat=1099511627776 from hI),cond_true];exact h w s0 Fr.refl
 rw[if_neg hI]at h;rw[cN (show gi ds l.toNat≠1099511627776 from hI),cond_false];refine ah (cS (k1 3 _ rfl) ?_);refine LY (aX (F:=No)) k3 (by omega) λw1 s1 f1=>?_;by_cases hB:IC xs l 4=gi ds l.toNat
 ·rw[if_pos hB]at h;rw[d_ hB.symm,cond_true];exact h w1 (bP s0 f1) f1
 rw[if_neg hB]at h;rw[cN (λe=>hB e.symm),cond_false];apply OY;unfold ux sC sB;refine EB s1 (k.fr f1) hl λw1 s1 _=>?_;cases h0:TP tw th cs xs (fD ds) l 0 with
 |true=>rw[h0,if_pos rfl]at h;rw[cond_true];exact h w1 (bP s0 (aq s1)) (aq s1)
 |false=>
  rw[h0,if_neg (by decide)]at h;refine EB s1 (k.fr (aq s1)) hl λw1 s1 _=>?_;cases h0:TP tw th cs xs (fD ds) l 1 with
  |true=>rw[h0,if_pos rfl]at h;rw[cond_true];exact h w1 (bP s0 (aq s1)) (aq s1)
  |false=>
   rw[h0,if_neg (by decide)]at h;refine EB s1 (k.fr (aq s1)) hl λw1 s1 _=>?_;cases h0:TP tw th cs xs (fD ds) l 2 with
   |true=>rw[h0,if_pos rfl]at h;rw[cond_true];exact h w1 (bP s0 (aq s1)) (aq s1)
   |false=>
    rw[h0,if_neg (by decide)]at h;refine EB s1 (k.fr (aq s1)) hl λw1 s1 _=>?_;cases h0:TP tw th cs xs (fD ds) l 3 with
    |true=>rw[h0,if_pos rfl]at h;rw[cond_true];exact h w1 (bP s0 (aq s1)) (aq s1)
    |false=>rw[h0,if_neg (by decide)]at h;rw[cond_false];exact h w1 (bP s0 (aq s1)) (aq s1)
noncomputable def nT (tw th:Int)(cs:List Int)(xs:List bh):List Int:=(List.range cs.length).map λl:Nat=>aaa tw th cs xs (fD (jv tw th cs xs)) l
def atk (hok:rV tw th cs xs=true)(hT:rX tw th cs):∀x∈jv tw th cs xs,0<=x/\x<=cf:=λx hx=>by
 obtain⟨l,hl,rfl⟩:=List.mem_map.1 hx;unfold rV at hok;rw[Bool.and_eq_true,List.all_eq_true]at hok;have hs:∀x k,NO xs x k->0<=k/\k<=1073741824:=by rintro x k ⟨y,hy,rfl,rfl⟩;have:=hok.2 y hy;unfold Aq at this;grind
 have he:∀x n c,IE tw th cs x n c->1<=c/\c<=254:=λx n c h=>by have h1:=hT.jE _ (fA (i:=n.toNat) (by have:=h.2.1;unfold ID at this;omega));have h2:=h.2.1.2.2;rw[h.2.2.2];omega
 have al4:∀{x d},Wy (NO xs) (IE tw th cs) x d->x∈(List.range cs.length).map λl:Nat=>(l:Int):=λhw=>by
  have hm:∀{x:Int},0<=x/\x<cs.length->x∈(List.range cs.length).map λl:Nat=>(l:Int):=λ{x} hx=>List.mem_map.2 ⟨x.toNat,List.mem_range.2 (by omega),by omega⟩;cases hw with
  |src h=>
   obtain⟨y,hy,rfl,rfl⟩:=h;have:=hok.2 y hy;unfold Aq at this;grind
  |go e _=>exact hm ⟨e.1.1,e.1.2.1⟩
 show 0<=gM _ _ _/\gM _ _ _<=cf;by_cases hw:∃d,Wy (NO xs) (IE tw th cs) l d
 ·obtain⟨d,hd⟩:=hw;have h1:=abc hs he _ (λx d h=>al4 h) hd;have h2:=mR (λx k h=>(hs x k h).1) (λx n c h=>by grind) (qU (λx k h=>(hs x k h).1) (λx n c h=>by grind) hd).1;rw[List.length_map,List.length_range]at h1;have:=hT.small;unfold cf;omega
 ·rw[xL λd hd=>hw ⟨d,hd⟩];unfold cf;omega
def awF {a:Option Addr}{n c:Nat}{bs:List Int}{x:Int}{ad:Addr}{v:Value}{K:Option Addr->Nat->Nat->World->Prop}(s:Sep F W w (ak a n c 3 1 (flat one bs)::L))(hn:n<=1000000000)(hc:w.cell? ad=some v)
  (k:∀a' c' w',Sep F W w' (ak a' (n+1) c' 3 1 (flat one (bs++[x]))::L)->K a' (n+1) c' w'):Bx [ae x] 3 w λp w1=>w1.cell? ad=some v/\App P #[29,29] 29 (.slice a n c) (.slice (some p) 1 1) w1 K:=by
 have hB:=LQ s hn k;exact au4 hB (Fr.cell (F:=No) (Fr.alloc Fr.refl _) hc id)
def Yu {Q:Option Addr->Nat->Nat->Option Addr->Nat->Nat->Int->World->Prop}(s0:Sep F W w L)(hA:Sl w ca cn cc 1 bj cs)(hX:Sl w la ln lc 3 fS xs)(hT:rX tw th cs)(hok:rV tw th cs xs=true)(hnd:xs.Nodup)(qi:ln<2000)
  (h:∀da dc ra rc w',Sep F W w' (ak ra cs.length rc 3 1 (flat one (nT tw th cs xs))::ak da cs.length dc 3 1 (flat one (jv tw th cs xs))::L)->Fr No w w'->Q da cs.length dc ra cs.length rc 0 w'):
  DD tw th ca cn cc la ln lc w Q:=by
 apply Yi;have uJ:=hT.small;refine aM (aX (F:=No)) λtb w1 s=>?_;refine aT s λrb w1 s=>?_;refine lI s 1 rfl (lI s 1 rfl (lS s 1 rfl ?_));refine Wz s (hA.fr (aq s)) (hX.fr (aq s)) hT hok hnd qi λda dc w1 s _=>?_;refine lI s 2 rfl (lI s 2 rfl (lS s 2 rfl ?_));refine aM s λhb w1 s=>?_;refine aT s λfb w1 s=>?_;refine sT s 0 rfl λw1 s=>?_;refine av s (i:=0) rfl rfl rfl λw1 s=>?_;have loop:∀(j i:Nat) (ra:Option Addr) (rc:Nat) (w2:World),i+j=cs.length->
   Sep No w w2 [ak ra i rc 3 1 (flat one ((nT tw th cs xs).take i)),ax fb 213 [.slice da cs.length dc,.slice ra i rc],ax hb 340 [ae tw,ae th,.slice ca cn cc,.slice la ln lc,.slice da cs.length dc],ak da cs.length dc 3 1 (flat one (jv tw th cs xs)),ax rb 213 [.slice none 0 0,.slice none 0 0]]->
   sD Q (j+1) (aZ rb) (aZ hb) (aZ fb) cs.length i w2:=by
  intro j;induction j with
  |zero=>
   intro i ra rc w2 hi s;show xq Q (sD Q 0) _ _ _ _ _ _;rw[xq,bu];refine lS s 1 rfl (lS s 1 rfl ?_);refine sT s 4 rfl λw2 s=>?_;refine av s (i:=4) rfl rfl rfl λw2 s=>?_;refine lS s 4 rfl (lS s 4 rfl ?_);obtain rfl:i=cs.length:=by omega
   rw[List.take_of_length_le (by unfold nT;grind)]at s;have s':Sep No w w2 [ak ra cs.length rc 3 1 (flat one (nT tw th cs xs)),ak da cs.length dc 3 1 (flat one (jv tw th cs xs))]:=pk 99 [0,3] s;exact h da dc ra rc w2 (fq s0 s') (aq s')
  |succ j ih=>
   intro i ra rc w2 hi s;show xq Q (sD Q (j+1)) _ _ _ _ _ _;rw[xq,bK];have s:=ay s;apply lS s 1 rfl;have hk:Xw w2.drew hb tw th cs xs (jv tw th cs xs):=⟨⟨_,_,_,_,_,_,_,_,_,ld s (i:=2) rfl,hA.fr (aq s),hX.fr (aq s),aN s (i:=3) rfl cv (by decide),qi⟩,hT,aai,atk hok hT⟩;refine aef s hk (by omega) λw3 s _=>?_;refine⟨ck s 1 rfl,?_⟩;refine awF s (by omega) (ck s 1 rfl) λra' rc' w3 s=>?_;refine av s (i:=1) rfl rfl rfl λw3 s=>?_;rw[aH];apply ih (i+1) ra' rc' w3 (by omega);have e:(nT tw th cs xs).take (i+1)=(nT tw th cs xs).take i++[aaa tw th cs xs (fD (jv tw th cs xs)) i]:=by rw[nT,List.take_add_one,List.getElem?_map,List.getElem?_range (by omega)];rfl
   rw[e];exact s
 have s:=pk 99 [0,1,2,3] s;exact⟨cs.length+1,loop cs.length 0 none 0 w1 (by omega) (bC s 3 1)⟩
end
end Go.Proofs.YtmegplnmiepfbaaGreatDoor.S
namespace Go.Proofs.YtmegplnmiepfbaaGreatDoor.S
open Go.Sx
attribute [local irreducible] af cQ bG bp aA cE cw St Bx Al App cV cO cM bZ aQ bI au cj ax ak bg mapA
section
variable {F:Nat->Prop}{W w w0:World}{L:List As}{tw th l:Int}{ca la da:Option Addr}{cn cc ln lc dn dc:Nat}{cs ds ls:List Int}{xs:List bh}
def rX.DO (h:rX tw th cs):Tl.DO tw th cs=true:=Tl.Z7.2 ⟨h.w,h.h,h.len,λe=>by have:=h.jE 0 e;omega⟩
def aqN (hT:rX tw th cs)(hl:0<=l/\l<cs.length)(ho:gi cs l.toNat≠255):rV tw th cs [⟨l,4,0⟩]=true:=by rw[rV,hT.DO,Bool.true_and,List.all_cons,List.all_nil,Bool.and_true];rw[Aq,decide_eq_true hl,show(gi cs l.toNat !=255)=true by grind];rfl
def aqO {b:Nat}{x:bh}(s:Sep F W w (ax b 294 [ae x.c,ae x.s,ae x.k]::L)):Sl w (sZ b) 1 1 3 fS [x]:=
 aN (g7 s (i:=0) rfl rfl (by decide) (λu hu=>Wk x u hu)) (i:=0) rfl nD (by decide)
def aeg {Q:Option Addr->Nat->Nat->Int->World->Prop}(s0:Sep F W w L)(hA:Sl w ca cn cc 1 bj cs)(hT:rX tw th cs)(hl:0<=l/\l<cs.length)(ho:gi cs l.toNat≠255)
  (h:∀da dc w',Sep F W w' (ak da cs.length dc 3 1 (flat one (jv tw th cs [⟨l,4,0⟩]))::L)->Fr No w w'->Q da cs.length dc 0 w'):HU tw th ca cn cc l w Q:=by
 apply adQ;refine aM (aX (F:=No)) λtb w1 s=>?_;refine lI s 0 rfl (lI s 0 rfl (lS s 0 rfl ?_));refine aM s λsb w1 s=>?_;refine Wz s (hA.fr (aq s)) (aqO s) hT (aqN hT hl ho) (by simp) (by decide) λda dc w1 s _=>?_;exact h da dc w1 (dz s0 s (i:=0) rfl) (aq s)
structure ag7 (cs ls:List Int):Prop where
 Ej:∀l∈ls,(0<=l/\l<cs.length)/\gi cs l.toNat≠255
 fu:ls.Pairwise (·<·)
 nS:ls.length<=256
def au5 (h:ag7 cs ls){i j:Nat}(hij:i<j)(hj:j<ls.length):gi ls i<gi ls j:=by have:=List.pairwise_iff_getElem.1 h.fu i j (by omega) hj hij;have e1:=iA (l:=ls) (i:=i) (by omega);have e2:=iA hj;grind
def ace {Q:Bool->World->Prop}(s0:Sep F W w L)(hA:Sl w ca cn cc 1 bj cs)(hL:Sl w la ln lc 1 one ls)(hT:rX tw th cs)(hok:ag7 cs ls)(h:∀w',Sep F W w' L->Fr No w w'->Q true w'):
  Gm tw th ca cn cc la ln lc w Q:=by
 apply abF;have qi:=hL.len;have o7:=hok.nS;refine aM (aX (F:=No)) λtb w1 s=>?_;have loop:∀(j i:Nat) (w1:World),i+j=ln->Sep No w w1 [ax tb 84 [ae tw,ae th,.slice ca cn cc]]->wR Q (j+1) la ln lc (aZ tb) la ln lc ln i w1:=by
  intro j;induction j with
  |zero=>
   intro i w1 hi s;show AR Q (wR Q 0) _ _ _ _ _ _ _ _ _ _;rw[AR,bu];refine lI s 0 rfl (lI s 0 rfl (lS s 0 rfl ?_));refine Tl.C_ s (hA.fr (aq s)).row λw2 s2 _=>?_;rw[hT.DO];exact h w2 (bP s0 (aq s2)) (aq s2)
  |succ j ih=>
   intro i w1 hi s;show AR Q (wR Q (j+1)) _ _ _ _ _ _ _ _ _ _;rw[AR,bK];apply(hL.fr (aq s)).qD rfl (by omega);refine lI s 0 rfl (lI s 0 rfl (lS s 0 rfl ?_));have ho:=hok.Ej _ (fA (i:=i) (by omega));have hc:=hT.jE _ (fA (i:=(gi ls i).toNat) (by omega));refine Tl.agL s (hA.fr (aq s)).row (λx hx=>by have:=hT.jE x hx;omega) λw2 s _=>?_;have e:Tl.atI tw th cs (gi ls i)=gi cs (gi ls i).toNat:=by unfold Tl.atI Tl.isB;rw[decide_eq_true ho.1,hT.DO];rfl
   rw[e,cN (by omega),cond_false,cN ho.2,cond_false,aH (n:=(i:Int)+1)];by_cases h0:i=0
   ·rw[bu];exact ih (i+1) w2 (by omega) s
   ·rw[bK,aH];apply(hL.fr (aq s)).qD (k:=i-1) (by omega) (by omega);have:=au5 hok (i:=i-1) (j:=i) (by omega) (by omega);rw[bu];exact ih (i+1) w2 (by omega) s
 exact⟨ln+1,loop ln 0 w1 (by omega) s⟩
noncomputable def E_ (tw th:Int)(cs ls:List Int)(i j:Nat):Int:=L5 tw th cs [⟨gi ls j,4,0⟩] (gi ls i)
noncomputable def Aw (tw th:Int)(cs ls:List Int):List Int:=(List.range (ls.length*ls.length)).map λk=>E_ tw th cs ls (k/ls.length) (k%ls.length)
def JX {N x:Nat}{g:Nat->Int}{v:Int}:((List.range N).map g).set x v=(List.range N).map λk=>if k=x then v else g k:=by apply List.ext_getElem?;grind
def al5 {n i j:Nat}(hi:i<n)(hj:j<n):i*n+j<n*n:=by have:=Nat.mul_le_mul_right n (show i+1<=n by omega);grind
def ak2 (hl:0<=l/\l<cs.length):gi (jv tw th cs xs) l.toNat=L5 tw th cs xs l:=by unfold gi jv;grind
def aaj {Q:Option Addr->Nat->Nat->Int->World->Prop}(s0:Sep F W w L)(hA:Sl w ca cn cc 1 bj cs)(hL:Sl w la ln lc 1 one ls)(hT:rX tw th cs)(hok:ag7 cs ls)
  (h:∀oa oc w',Sep F W w' (ak oa (ls.length*ls.length) oc 3 1 (flat one (Aw tw th cs ls))::L)->Fr No w w'->Q oa (ls.length*ls.length) oc 0 w'):E1 tw th ca cn cc la ln lc w Q:=by
 apply ZW;have qi:=hL.len;have o7:=hok.nS;refine aM (aX (F:=No)) λtb w1 s=>?_;refine lI s 0 rfl (lI s 0 rfl (lS s 0 rfl ?_));refine ace s (hA.fr (aq s)) (hL.fr (aq s)) hT hok λw1 s _=>?_;subst qi;have hsq:ls.length*ls.length<=65536:=by have:=Nat.mul_le_mul o7 o7;omega
 have e1:((ls.length:Nat):Int)*((ls.length:Nat):Int)=((ls.length*ls.length:Nat):Int):=by grind
 rw[e1,aH];generalize hN:ls.length*ls.length=N at*;refine xK (bytes:=8) dQ s rfl rfl rfl rfl rfl rfl (by decide) cv rfl (λu hu=>Fk 0 u hu) rfl rfl (Nat.le_refl _) (by omega) (by simp[maxLen];omega) λob w1 s=>?_;have outer:∀(k j:Nat) (w1:World),j+k=ls.length->Sep No w w1 [ak (sZ ob) N N 3 1 (flat one ((List.range N).map λq=>if q%ls.length<j then E_ tw th cs ls (q/ls.length) (q%ls.length)else 0)),ax tb 84 [ae tw,ae th,.slice ca cn cc]]->
   q9 Q (k+1) la ls.length lc (aZ tb) ls.length (sZ ob) N N la ls.length lc ls.length j w1:=by
  intro k;induction k with
  |zero=>
   intro j w1 hj s;show zo Q (q9 Q 0) _ _ _ _ _ _ _ _ _ _ _ _ _ _;rw[zo,bu];have e:((List.range N).map λq=>if q%ls.length<j then E_ tw th cs ls (q/ls.length) (q%ls.length)else 0)=Aw tw th cs ls:=by
    rw[Aw,hN];refine List.map_congr_left λq hq=>?_;have hq:=List.mem_range.1 hq;have Pu:0<ls.length:=by grind
    rw[if_pos (by have:=Nat.mod_lt q Pu;omega)]
   rw[e]at s;exact h _ _ w1 (dz s0 s (i:=0) rfl) (aq s)
  |succ k ih=>
   intro j w1 hj s;show zo Q (q9 Q (k+1)) _ _ _ _ _ _ _ _ _ _ _ _ _ _;rw[zo,bK];apply(hL.fr (aq s)).qD rfl (by omega);refine lI s 1 rfl (lI s 1 rfl (lS s 1 rfl ?_));have ho:=hok.Ej _ (fA (i:=j) (by omega));refine aeg s (hA.fr (aq s)) hT ho.1 ho.2 λda dc w1 s _=>?_;have inner:∀(k2 i:Nat) (w1:World),i+k2=ls.length->Sep No w w1 [ak da cs.length dc 3 1 (flat one (jv tw th cs [⟨gi ls j,4,0⟩])),ak (sZ ob) N N 3 1 (flat one ((List.range N).map λq=>if q%ls.length<j\/q%ls.length=j/\q/ls.length<i then E_ tw th cs ls (q/ls.length) (q%ls.length)else 0)),ax tb 84 [ae tw,ae th,.slice ca cn cc]]->
     sy (q9 Q (k+1)) Q (k2+1) la ls.length lc (aZ tb) ls.length (sZ ob) N N j da cs.length dc la ls.length lc ls.length j la ls.length lc ls.length i w1:=by
    intro k2;induction k2 with
    |zero=>
     intro i w1 hi s;show xm _ Q (sy _ Q 0) _ _ _ _ _ _ _ _ _ _ _ _ _ _ _ _ _ _ _ _ _ _ _;rw[xm,bu,aH];apply ih (j+1) w1 (by omega);have e:((List.range N).map λq=>if q%ls.length<j\/q%ls.length=j/\q/ls.length<i then E_ tw th cs ls (q/ls.length) (q%ls.length)else 0)=(List.range N).map λq=>if q%ls.length<j+1 then E_ tw th cs ls (q/ls.length) (q%ls.length)else 0:=by
      refine List.map_congr_left λq hq=>?_;have hq:=List.mem_range.1 hq;have hd:q/ls.length<ls.length:=Nat.div_lt_of_lt_mul (by omega);by_cases c1:q%ls.length<j+1
      ·rw[if_pos c1,AH]
      ·rw[if_neg c1,fR]
     rw[e]at s;exact ai s
    |succ k2 ih2=>
     intro i w1 hi s;show xm _ Q (sy _ Q (k2+1)) _ _ _ _ _ _ _ _ _ _ _ _ _ _ _ _ _ _ _ _ _ _ _;rw[xm,bK];apply(hL.fr (aq s)).qD rfl (by omega);have hoi:=hok.Ej _ (fA (i:=i) (by omega));apply(aN s (i:=0) rfl cv (by decide)).qD (k:=(gi ls i).toNat) (by omega) (by omega);rw[ak2 hoi.1];have hb:=al5 (n:=ls.length) (i:=i) (j:=j) (by omega) (by omega);rw[hN]at hb;have e2:(i:Int)*((ls.length:Nat):Int)=((i*ls.length:Nat):Int):=by rw[Int.natCast_mul]
     rw[e2,aH (n:=((i*ls.length:Nat):Int)),aH,aH];refine E6 cv s (i:=1) (k:=i*ls.length+j) (x':=L5 tw th cs [⟨gi ls j,4,0⟩] (gi ls i)) rfl (by omega) (by rw[List.length_map,List.length_range];exact hb) rfl rfl λw1 s=>?_;apply ih2 (i+1) w1 (by omega);rw[JX]at s;have e:((List.range N).map λq=>if q=i*ls.length+j then L5 tw th cs [⟨gi ls j,4,0⟩] (gi ls i)else if q%ls.length<j\/q%ls.length=j/\q/ls.length<i then E_ tw th cs ls (q/ls.length) (q%ls.length)else 0)=
       (List.range N).map λq=>if q%ls.length<j\/q%ls.length=j/\q/ls.length<i+1 then E_ tw th cs ls (q/ls.length) (q%ls.length)else 0:=by
      refine List.map_congr_left λq hq=>?_;have Pu:0<ls.length:=by omega
      by_cases c1:q=i*ls.length+j
      ·have d1:q/ls.length=i:=by rw[c1,Nat.mul_comm,Nat.mul_add_div Pu,Nat.div_eq_of_lt (by omega),Nat.add_zero]
       have d2:q%ls.length=j:=by rw[c1,Nat.mul_comm,Nat.mul_add_mod,Nat.mod_eq_of_lt (by omega)]
       rw[if_pos c1,AH,d1,d2];rfl
      ·rw[if_neg c1];have d3:¬(q%ls.length=j/\q/ls.length=i):=λ⟨a,b⟩=>by apply c1;have:=Nat.div_add_mod q ls.length;rw[a,b,Nat.mul_comm]at this;omega
       by_cases c2:q%ls.length<j\/q%ls.length=j/\q/ls.length<i
       ·rw[if_pos c2,AH]
       ·rw[if_neg c2,fR]
     rw[e]at s;exact s
   refine⟨ls.length+1,inner ls.length 0 w1 (by omega) ?_⟩;have e:((List.range N).map λq=>if q%ls.length<j then E_ tw th cs ls (q/ls.length) (q%ls.length)else 0)=(List.range N).map λq=>if q%ls.length<j\/q%ls.length=j/\q/ls.length<0 then E_ tw th cs ls (q/ls.length) (q%ls.length)else 0:=by
    refine List.map_congr_left λq hq=>?_;by_cases c1:q%ls.length<j
    ·rw[if_pos c1,if_pos (.inl c1)]
    ·rw[if_neg c1,if_neg (by rintro (h|⟨_,h⟩);exact c1 h;exact Nat.not_lt_zero _ h)]
   rw[e]at s;exact s
 refine⟨ls.length+1,outer ls.length 0 w1 (by omega) ?_⟩;have e:((List.range N).map λq=>if q%ls.length<0 then E_ tw th cs ls (q/ls.length) (q%ls.length)else 0)=List.replicate N 0:=by rw[List.eq_replicate_iff];refine⟨by simp,λx hx=>?_⟩;obtain⟨q,_,rfl⟩:=List.mem_map.1 hx;rw[fR]
 grind
end
end Go.Proofs.YtmegplnmiepfbaaGreatDoor.S
namespace Go.Proofs.YtmegplnmiepfbaaGreatDoor.S
open Go.Sx
section
variable {m:bM}{t x n c d s sc l a b:Int}
def iY (m:bM)(sc:Int):List Int:=(aW m sc).map (dX m.w m.h)
def WA (m:bM)(sc:Int):List Nat:=(List.range (aE m.w m.h sc*bw m.w m.h sc).toNat).filter λl=>yE m.w m.h sc 4 l&&e_ m (bU m.w m.h sc l)
def nodes_eq:aW m sc=(WA m sc).map λl:Nat=>bU m.w m.h sc l:=by unfold aW vp WA;rw[List.filter_map,List.filter_filter];grind
def aox (hs:dW m.w m.h sc):iY m sc=(WA m sc).map λl:Nat=>(l:Int):=by rw[iY,nodes_eq,List.map_map];refine List.map_congr_left λl hl=>?_;have hl:=List.mem_range.1 (List.mem_filter.1 hl).1;exact F9 hs (by omega)
def acf:(WA m sc).Pairwise (·<·):=List.Pairwise.filter _ List.pairwise_lt_range
def aoy (hs:dW m.w m.h sc){k:Int}(hk:0<=k/\k<l)(hl:l<aE m.w m.h sc*bw m.w m.h sc):bU m.w m.h sc k<bU m.w m.h sc l:=by
 obtain⟨⟨w1,w2⟩,⟨h1,h2⟩,p1,p2,p3,p4⟩:=zA hs;have hw:aE m.w m.h sc<=m.w-16*(sc%cJ m.w):=by unfold aE;omega
 have hk1:=PA hs (l:=k) (by omega);have hl1:=PA hs (l:=l) (by omega);have ek:=Int.mul_ediv_add_emod k (aE m.w m.h sc);have el:=Int.mul_ediv_add_emod l (aE m.w m.h sc);unfold bU;by_cases e:k/aE m.w m.h sc=l/aE m.w m.h sc
 ·grind
 ·have hlt:k/aE m.w m.h sc<=l/aE m.w m.h sc:=Int.ediv_le_ediv (by omega) (by omega);have h3:=Int.mul_le_mul_of_nonneg_right (show 16*(sc/cJ m.w)+k/aE m.w m.h sc+1<=16*(sc/cJ m.w)+l/aE m.w m.h sc by omega) (show 0<=m.w by omega);grind
def NW (hs:dW m.w m.h sc):(aW m sc).Pairwise (·<·):=by rw[nodes_eq,List.pairwise_map];refine List.Pairwise.imp_of_mem ?_ acf;intro k l hk hl h;have hl:=List.mem_range.1 (List.mem_filter.1 hl).1;exact aoy hs ⟨by omega,by omega⟩ (by omega)
def aoz (hm:cT m)(hs:dW m.w m.h sc):ag7 (dO m sc) (iY m sc):=by
 have e:=aox hs;refine⟨λl hl=>?_,?_,?_⟩
 ·rw[e]at hl;obtain⟨k,hk,rfl⟩:=List.mem_map.1 hl;have h1:=(List.mem_filter.1 hk).2;have hk:=List.mem_range.1 (List.mem_filter.1 hk).1;rw[Bool.and_eq_true]at h1;have h2:=(Jg hm hs (by omega)).2 h1.2;exact⟨⟨h2.1,h2.2.1⟩,h2.2.2⟩
 ·rw[e,List.pairwise_map];exact List.Pairwise.imp (λh=>by omega) acf
 ·rw[e,List.length_map];obtain⟨⟨w1,w2⟩,⟨h1,h2⟩,_⟩:=zA hs;have h3:=Int.mul_le_mul w2 h2 (by omega) (by decide);have h4:=List.length_filter_le (λl:Nat=>yE m.w m.h sc 4 l&&e_ m (bU m.w m.h sc l)) (List.range (aE m.w m.h sc*bw m.w m.h sc).toNat);rw[List.length_range]at h4;unfold WA;omega
def zR (hs:dW m.w m.h sc):(aW m sc).length<=256:=by have:=abT hs;have h1:=List.length_filter_le (e_ m) (vp m.w m.h sc);unfold aW;omega
def akg (hs:dW m.w m.h sc):(aW m sc).Nodup:=List.Pairwise.imp (λh e=>by omega) (NW hs)
def Rl (hm:cT m)(hs:dW m.w m.h sc):rX (aE m.w m.h sc) (bw m.w m.h sc) (dO m sc):=by obtain⟨w,h,_⟩:=zA hs;have h1:=Int.mul_le_mul w.1 h.1 (by decide) (by omega);refine⟨w,h,by rw[Ct];omega,λx hx=>?_⟩;obtain⟨l,hl,rfl⟩:=List.mem_map.1 hx;have hl:=List.mem_range.1 hl;have:=L4 hm (sQ hs (l:=l) (by omega));omega
noncomputable def qm (m:bM)(sc a b:Int):Int:=L5 (aE m.w m.h sc) (bw m.w m.h sc) (dO m sc) [⟨dX m.w m.h b,4,0⟩] (dX m.w m.h a)
def Rm (hm:cT m)(hs:dW m.w m.h sc)(ha:bJ m.w m.h a/\aC m.w m.h a=sc)(hb:bJ m.w m.h b/\aC m.w m.h b=sc):qm m sc a b=gM (F_ b) (tO (fT m) (cP m) sc) a:=by
 have hla:=j7 ha.1;have hga:=nU ha.1;have hlb:=j7 hb.1;have hgb:=nU hb.1;rw[ha.2]at hla hga;unfold qm L5;rw[aiw hm hs (S':=F_ b) (λl k hl=>?_) hla,hga];unfold NO F_;constructor
 ·grind
 ·rintro ⟨h1,rfl⟩;refine⟨_,List.mem_singleton.2 rfl,?_,rfl⟩;rw[<-h1];exact F9 hs hl
def afy (hm:cT m)(TS:e_ m b=true){d:Int}(hw:Wy (F_ b) (tO (fT m) (cP m) sc) a d):0<=gM (F_ b) (tO (fT m) (cP m) sc) a/\gM (F_ b) (tO (fT m) (cP m) sc) a<=254*(m.w*m.h-1):=by
 have al4:∀x d,Wy (F_ b) (tO (fT m) (cP m) sc) x d->x∈jW m:=λx d h=>by
  cases h with
  |src h=>rw[h.1];exact zB hm (jV hm TS)
  |go e _=>exact zB hm (jV hm e.1.1)
 have h1:=abc (K:=0) (λx k h=>by rw[h.2];omega) (λx n c h=>GH h.1) (jW m) al4 hw;have h2:((jW m).length:Int)=m.w*m.h:=by rw[<-hm.len];simp[jW]
 refine⟨mR (λx k h=>by rw[h.2];grind) (λx n c h=>c7 _ _ _ h.1) (qU (λx k h=>by rw[h.2];grind) (λx n c h=>c7 _ _ _ h.1) hw).1,by omega⟩
def aak (hm:cT m)(hs:dW m.w m.h sc)(ha:bJ m.w m.h a/\aC m.w m.h a=sc)(hb:bJ m.w m.h b/\aC m.w m.h b=sc)(TS:e_ m b=true):
  qm m sc a b≠cf↔∃d,Wy (F_ b) (tO (fT m) (cP m) sc) a d:=by
 rw[Rm hm hs ha hb];constructor
 ·intro h;refine Classical.byContradiction λk=>h (xL λd hd=>k ⟨d,hd⟩)
 ·rintro ⟨d,hd⟩;have:=afy hm TS hd;have:=pA ⟨hm.w,hm.h⟩;unfold cf;omega
def aal (hm:cT m)(hs:dW m.w m.h sc)(ha:bJ m.w m.h a/\aC m.w m.h a=sc)(hb:bJ m.w m.h b/\aC m.w m.h b=sc)(TS:e_ m b=true):0<=qm m sc a b/\(qm m sc a b≠cf->qm m sc a b<1000000000)/\qm m sc a b<=cf:=by
 have e:=Rm hm hs ha hb;by_cases hw:∃d,Wy (F_ b) (tO (fT m) (cP m) sc) a d
 ·obtain⟨d,hd⟩:=hw;have h1:=afy hm TS hd;have h2:=pA ⟨hm.w,hm.h⟩;unfold cf;omega
 ·have h1:qm m sc a b=cf:=by rw[e];exact xL λd hd=>hw ⟨d,hd⟩
  rw[h1];exact⟨by decide,λh=>(h rfl).elim,Int.le_refl _⟩
noncomputable def acg (m:bM)(b:Int):List (Int×Int):=(aW m (cP m b)).filterMap λa=>if a≠b/\qm m (cP m b) a b≠cf then some (a,qm m (cP m b) a b)else none
open Classical in
noncomputable def Rn (m:bM)(b s:Int):Option (Int×Int):=if 0<=bf m.w m.h b s/\og m (bf m.w m.h b s)/\cP m (bf m.w m.h b s)≠cP m b then some (bf m.w m.h b s,cR m b)else none
noncomputable def S9 (m:bM)(b:Int)(j:Nat):List (Int×Int):=(List.range j).filterMap λs:Nat=>Rn m b s
noncomputable def KK (m:bM)(b:Int):List (Int×Int):=acg m b++S9 m b 4
def ach (m:bM)(b:Int)(j:Nat):S9 m b (j+1)=S9 m b j++(Rn m b j).toList:=by rw[S9,List.range_succ,List.filterMap_append];congr 1
def au7 (hm:cT m)(h:og m x)(hx:bJ m.w m.h x):e_ m x=true:=(mK (bT hx) h).1
def aiK (hm:cT m)(hb:og m b)(hbc:bJ m.w m.h b){e:Int×Int}:e∈KK m b↔Jw (fT m) (cP m) (og m) e.1 b e.2:=by
 have hs:=bT hbc;have TS:=(mK hs hb).1;rw[KK,List.mem_append];constructor
 ·rintro (h|h)
  ·obtain⟨a,ha,h1⟩:=List.mem_filterMap.1 h;split at h1
   ·rename_i h2;cases h1;obtain⟨a1,a2,a3⟩:=mK hs ha;have hn:og m a:=by show a∈aW m (cP m a);rw[show cP m a=cP m b from a3];exact ha
    refine⟨hn,hb,.inl ⟨a3,h2.1,(aak hm hs ⟨a2,a3⟩ ⟨hbc,rfl⟩ TS).1 h2.2,Rm hm hs ⟨a2,a3⟩ ⟨hbc,rfl⟩⟩⟩
   ·cases h1
  ·obtain⟨s,TT,h1⟩:=List.mem_filterMap.1 h;have TT:=List.mem_range.1 TT;unfold Rn at h1;split at h1
   ·rename_i h2;cases h1;obtain⟨s',hs',ag8⟩:=Jf ⟨by omega,by omega⟩ h2.1;have hac:=(zZ h2.1).2;have hoa:=au7 hm h2.2.1 hac;exact⟨h2.2.1,hb,.inr ⟨h2.2.2,hoa,TS,⟨s',hs',ag8⟩,rfl⟩⟩
   ·cases h1
 ·rintro ⟨ha,_,⟨h1,h2,h3,h4⟩|⟨h1,h2,h3,⟨s,TT,h4⟩,h5⟩⟩
  ·left;have hb2:cP m b=aC m.w m.h b:=rfl;have hac:bJ m.w m.h e.1:=by
    have:e.1∈aW m (cP m b):=by rw[<-h1];exact ha
    exact(mK hs this).2.1
   have e4:=Rm hm hs ⟨hac,h1⟩ ⟨hbc,rfl⟩;refine List.mem_filterMap.2 ⟨e.1,by rw[<-h1];exact ha,?_⟩;rw[if_pos ⟨h2,(aak hm hs ⟨hac,h1⟩ ⟨hbc,rfl⟩ TS).2 h3⟩,hb2,e4];grind
  ·right;have hb0:0<=bf m.w m.h e.1 s:=by rw[h4];exact hbc.2.1
   obtain⟨s',hs',ag8⟩:=Jf TT hb0;rw[h4]at ag8;refine List.mem_filterMap.2 ⟨s'.toNat,List.mem_range.2 (by omega),?_⟩;rw[Int.toNat_of_nonneg hs'.1];rw[Rn,ag8,if_pos ⟨(jV hm h2).2.1,ha,h1⟩];grind
end
def aqP {P:Program}{t e:TypeId}{inf:TypeInfo}{b i j:Nat}{w:World}(d:Nat)(hu:P.underlying t=some (.pointer e))(hi:P.info? e=some inf)(hs:inf.size≠0):
  (Op.equalIn (d+1) t (.pointer (some ⟨b,i,none⟩)) (.pointer (some ⟨b,j,none⟩))).run P w=.ok (decide (i=j)) w:=by
 simp[Op.equalIn,run_underlying hu,sizeOf,typeInfo,hi,hs,sameAddr];grind
def au8 {P:Program}{t e:TypeId}{inf:TypeInfo}{x y:Operand}{b i j:Nat}{w:World}{K:Bool->World->Prop}(hu:P.underlying t=some (.pointer e))(hi:P.info? e=some inf)(hs:inf.size≠0)(h:K (!decide (i=j)) w):
  bZ P .neq t x y (.pointer (some ⟨b,i,none⟩)) (.pointer (some ⟨b,j,none⟩)) w K:=by
 have h1:(Op.equal t (.pointer (some ⟨b,i,none⟩)) (.pointer (some ⟨b,j,none⟩))).run P w=.ok (decide (i=j)) w:=aqP 9999 hu hi hs;unfold bZ aQ;rw[show binOp .neq t (.pointer (some ⟨b,i,none⟩)) (.pointer (some ⟨b,j,none⟩))=(do pure (.bool (!(<-Op.equal t (.pointer (some ⟨b,i,none⟩)) (.pointer (some ⟨b,j,none⟩))))))from rfl];simp[eqGuard_at_pointer,Sem.run_bind,Sem.run_pure,Result.andThen_ok,h1];exact h
end Go.Proofs.YtmegplnmiepfbaaGreatDoor.S
namespace Go.Proofs.YtmegplnmiepfbaaGreatDoor.S.Ta
open Go.Sx
def U (n:Int):Prop:=0<=n/\n<18446744073709551616
def sat (a b:Int):Int:=if a+b<18446744073709551616 then a+b else 18446744073709551615
def GL {a b:Int}(ha:U a)(hb:U b):U (sat a b):=by unfold sat;unfold U at*;omega
def By {a b:Int}{w:World}{Q:Int->World->Prop}(ha:U a)(hb:U b)(h:Q (sat a b) w):r9 a b w Q:=by
 unfold U at ha hb;apply abm;rw[wrap_u64 (by omega) (by omega)];unfold sat at h;by_cases hc:a>18446744073709551615-b
 ·grind
 ·rw[bu hc,wrap_u64 (by omega) (by omega)];grind
def WB {F:Nat->Prop}{W w:World}{L:List As}{a b c d e f:Int}{Q:Int->Int->Int->Int->Int->Int->World->Prop}(s:Sep F W w L)(h:∀w',Sep F W w' L->Q a b c d e f w'):cU a b c d e f w Q:=by apply VI;refine aM s λb1 w1 s=>?_;refine aT s λb2 w2 s=>?_;apply dw s (i:=1) rfl rfl rfl;apply dw s (i:=1) rfl rfl rfl;apply dw s (i:=1) rfl rfl rfl;apply dw s (i:=1) rfl rfl rfl;apply dw s (i:=1) rfl rfl rfl;apply dw s (i:=1) rfl rfl rfl;refine av s (i:=0) rfl rfl rfl λw3 s=>?_;refine av s (i:=0) rfl rfl rfl λw3 s=>?_;refine av s (i:=0) rfl rfl rfl λw3 s=>?_;refine av s (i:=0) rfl rfl rfl λw3 s=>?_;refine av s (i:=0) rfl rfl rfl λw3 s=>?_;refine av s (i:=0) rfl rfl rfl λw3 s=>?_;apply dw s (i:=0) rfl rfl rfl;apply dw s (i:=0) rfl rfl rfl;apply dw s (i:=0) rfl rfl rfl;apply dw s (i:=0) rfl rfl rfl;apply dw s (i:=0) rfl rfl rfl;apply dw s (i:=0) rfl rfl rfl;exact h _ (ai (ai s))
end Go.Proofs.YtmegplnmiepfbaaGreatDoor.S.Ta
namespace Go.Proofs.YtmegplnmiepfbaaGreatDoor.S.Ta
open Go.Sx
attribute [local irreducible] af cQ bG bp aA cE cw St Bx Al App cV cO cM bZ aQ bI au cj ax
def awG:zc T 175=[.int .u64 0,.int .u64 0,.int .u64 0,.int .u64 0,.int .u64 0,.int .u64 0]:=rfl
def au9:zc T 32=[.int .u64 0,.int .u64 0,.int .u64 0,.int .u64 0,.int .u64 0,.int .u64 0]:=rfl
section
variable {F:Nat->Prop}{W w:World}{L:List As}{Q:Int->Int->Int->Int->Int->Int->World->Prop}
def qj {r x y:Nat}{tx ty:TypeId}{xs ys:List Value}{i j k n:Nat}{t:Int}{p q:Int}(s:Sep F W w L)(ht:t=n)(hn:n<6)
  (hi:L[i]? =some (ax x tx xs))(hj:L[j]? =some (ax y ty ys))(hp:xs[n]? =some (.int .u64 p))(hq:ys[n]? =some (.int .u64 q))(up:U p)(uq:U q)(hl:Nat.blt n xs.length=true)
  (h:∀w',Sep F W w' (L.set i (ax x tx (xs.set n (.int .u64 (sat p q)))))->qf Q k (aZ r) (aZ x) (aZ y) ((n+1:Nat):Int) w'):qf Q (k+1) (aZ r) (aZ x) (aZ y) t w:=by
 subst ht;show sW Q (qf Q k) _ _ _ _ _;rw[sW,bK];have e1:((n:Int).toNat*1)=n:=by omega
 have s':Sep F W w.drew L:=s;rw[e1];refine⟨by omega,by omega,?_⟩;apply dw s' (by rw[cq,Nat.zero_add]) hi hp;refine⟨by omega,by omega,?_⟩;apply dw s' (by rw[cq,Nat.zero_add]) hj hq;apply By up uq;refine⟨by omega,by omega,?_⟩;refine av s' (by rw[cq,Nat.zero_add]) hi hl λw' s=>?_;rw[aH];exact h _ s
def au_ {r x y:Nat}{tr tx ty:TypeId}{a b c d e f a' b' c' d' e' f':Int}(s:Sep F W w (ax x tx [.int .u64 a,.int .u64 b,.int .u64 c,.int .u64 d,.int .u64 e,.int .u64 f]::ax y ty [.int .u64 a',.int .u64 b',.int .u64 c',.int .u64 d',.int .u64 e',.int .u64 f']::ax r tr (zc T 32)::L))
  (u:(U a/\U b/\U c/\U d/\U e/\U f)/\U a'/\U b'/\U c'/\U d'/\U e'/\U f')
  (h:∀w',Sep F W w' L->Q (sat a a') (sat b b') (sat c c') (sat d d') (sat e e') (sat f f') w'):gZ Q (aZ r) (aZ x) (aZ y) w:=by
 obtain⟨⟨ua,ub,uc,ud,ue,uf⟩,va,vb,vc,vd,ve,vf⟩:=u;refine⟨7,?_⟩;refine qj s (n:=0) (i:=0) (j:=1) rfl (by omega) rfl rfl rfl rfl ua va rfl λw s=>?_;refine qj s (i:=0) (j:=1) rfl (by omega) rfl rfl rfl rfl ub vb rfl λw s=>?_;refine qj s (i:=0) (j:=1) rfl (by omega) rfl rfl rfl rfl uc vc rfl λw s=>?_;refine qj s (i:=0) (j:=1) rfl (by omega) rfl rfl rfl rfl ud vd rfl λw s=>?_;refine qj s (i:=0) (j:=1) rfl (by omega) rfl rfl rfl rfl ue ve rfl λw s=>?_;refine qj s (i:=0) (j:=1) rfl (by omega) rfl rfl rfl rfl uf vf rfl λw s=>?_;show sW Q (qf Q 0) _ _ _ _ _;unfold sW;refine⟨by decide,by decide,?_⟩;apply lI s 0 rfl;refine⟨by decide,by decide,?_⟩;apply lI s 0 rfl;refine⟨by decide,by decide,?_⟩;apply lI s 0 rfl;refine⟨by decide,by decide,?_⟩;apply lI s 0 rfl;refine⟨by decide,by decide,?_⟩;apply lI s 0 rfl;refine⟨by decide,by decide,?_⟩;apply lI s 0 rfl
 repeat' first
  |apply lI s 2 rfl
  |(refine av s (i:=2) rfl rfl rfl λw' s=>?_;simp[Nat.zero_add,List.set_cons_zero,List.set_cons_succ]at s)
 exact h _ (ai (ai (ai s)))
def ava {r x y:Nat}{tr tx ty:TypeId}{a b c d e f a' b' c' d' e' f':Int}(s:Sep F W w (ax y ty [.int .u64 a',.int .u64 b',.int .u64 c',.int .u64 d',.int .u64 e',.int .u64 f']::ax x tx [.int .u64 a,.int .u64 b,.int .u64 c,.int .u64 d,.int .u64 e,.int .u64 f]::ax r tr (zc T 32)::L))
  (u:(U a/\U b/\U c/\U d/\U e/\U f)/\U a'/\U b'/\U c'/\U d'/\U e'/\U f')
  (h:∀w',Sep F W w' L->Q (sat a a') (sat b b') (sat c c') (sat d d') (sat e e') (sat f f') w'):gZ Q (aZ r) (aZ x) (aZ y) w:=by
 obtain⟨⟨ua,ub,uc,ud,ue,uf⟩,va,vb,vc,vd,ve,vf⟩:=u;refine⟨7,?_⟩;refine qj s (n:=0) (i:=1) (j:=0) rfl (by omega) rfl rfl rfl rfl ua va rfl λw s=>?_;refine qj s (i:=1) (j:=0) rfl (by omega) rfl rfl rfl rfl ub vb rfl λw s=>?_;refine qj s (i:=1) (j:=0) rfl (by omega) rfl rfl rfl rfl uc vc rfl λw s=>?_;refine qj s (i:=1) (j:=0) rfl (by omega) rfl rfl rfl rfl ud vd rfl λw s=>?_;refine qj s (i:=1) (j:=0) rfl (by omega) rfl rfl rfl rfl ue ve rfl λw s=>?_;refine qj s (i:=1) (j:=0) rfl (by omega) rfl rfl rfl rfl uf vf rfl λw s=>?_;show sW Q (qf Q 0) _ _ _ _ _;unfold sW;refine⟨by decide,by decide,?_⟩;apply lI s 1 rfl;refine⟨by decide,by decide,?_⟩;apply lI s 1 rfl;refine⟨by decide,by decide,?_⟩;apply lI s 1 rfl;refine⟨by decide,by decide,?_⟩;apply lI s 1 rfl;refine⟨by decide,by decide,?_⟩;apply lI s 1 rfl;refine⟨by decide,by decide,?_⟩;apply lI s 1 rfl
 repeat' first
  |apply lI s 2 rfl
  |(refine av s (i:=2) rfl rfl rfl λw' s=>?_;simp[Nat.zero_add,List.set_cons_zero,List.set_cons_succ]at s)
 exact h _ (ai (ai (ai s)))
end
set_option maxHeartbeats 1000000 in
theorem GM {F:Nat->Prop}{W w:World}{L:List As}{a b c d e f a' b' c' d' e' f':Int}{Q:Int->Int->Int->Int->Int->Int->World->Prop}(s:Sep F W w L)(u:(U a/\U b/\U c/\U d/\U e/\U f)/\U a'/\U b'/\U c'/\U d'/\U e'/\U f')
  (h:∀w',Sep F W w' L->Q (sat a a') (sat b b') (sat c c') (sat d d') (sat e e') (sat f f') w'):wV a b c d e f a' b' c' d' e' f' w Q:=by
 apply abn;refine aM s λb1 w1 s=>?_;refine aM s λb2 w2 s=>?_;refine aT s λb3 w3 s=>?_
 repeat' first
  |apply lI s 0 rfl
  |refine lI s 1 rfl ?_
  |refine lI s 2 rfl ?_
  |apply lI s 3 rfl
  |apply lI s 4 rfl
  |refine⟨ck s 1 rfl,?_⟩
  |refine⟨ck s 2 rfl,?_⟩
  |refine⟨ck s 3 rfl,?_⟩
  |refine⟨ck s 4 rfl,?_⟩
  |(refine av s (i:=0) rfl rfl rfl λw' s=>?_;simp[Nat.zero_add,List.set_cons_zero,List.set_cons_succ]at s)
  |(refine av s (i:=1) rfl rfl rfl λw' s=>?_;simp[Nat.zero_add,List.set_cons_zero,List.set_cons_succ]at s)
  |(refine aT s λb' w' s=>?_;rw[awG]at s)
  |refine WB s λw' s=>?_
  |exact au_ s u λw' s=>h _ (ai (ai s))
  |exact ava s u λw' s=>h _ (ai (ai s))
  |constructor
end Go.Proofs.YtmegplnmiepfbaaGreatDoor.S.Ta
namespace Go.Proofs.YtmegplnmiepfbaaGreatDoor.S
open Go.Sx
def dH {w:World}{x:Option Addr}{ad:Addr}{K:Option Addr->Prop}(h:w.cell? ad=some (.pointer x))(hk:K x):bp ad w K:=⟨x,h,hk⟩
attribute [local irreducible] af cQ bG bp aA cE cw St Bx Al App cV cO cM bZ aQ bI au cj ax ak bg mapA
def S_ {F:Nat->Prop}{W w:World}{A:As}:∀{L:List As} {i:Nat},Sep F W w (A::L)->Sep F W w (L.set i A)
 |[],i,s=>by simp[List.set_nil];exact ai s
 |B::L,0,s=>by exact gj s (List.Sublist.cons_cons _ (List.sublist_cons_self _ _))
 |B::L,i+1,s=>by
  rw[List.set_cons_succ];have s1:=b_ s (List.Perm.swap B A L);have s2:=ai s1;have s3:=S_ (i:=i) s2;refine⟨ee.fr s,λC hC=>?_,?_⟩
  ·rcases List.mem_cons.1 hC with rfl|hC
   ·exact ee.ok s C (by simp)
   ·exact ee.ok s3 C hC
  ·rw[List.pairwise_cons];refine⟨λC hC=>?_,ee.apart s3⟩;have hp:=List.pairwise_cons.1 (ee.apart s1);grind
structure Ax where
 e7:Int
 na:Option Addr
 nn:Nat
 nc:Nat
 da:Option Addr
 dn:Nat
 dc:Nat
 nodes:List Int
 JY:List Int
def KM (x:Ax):List Value:=[ae x.e7,.slice x.na x.nn x.nc,.slice x.da x.dn x.dc]
def Cz (x:Ax):(KM x).length=3:=rfl
def aoA (x:Ax)(u:Value)(h:u∈KM x):u.oneCell'=true:=by unfold KM at h;simp[List.mem_cons,List.not_mem_nil,or_false]at h;rcases h with rfl|rfl|rfl<;>rfl
def aci (x:Ax):As:=bg True [ak x.na x.nn x.nc 3 1 (flat one x.nodes),ak x.da x.dn x.dc 21 1 (flat o6 x.JY)]
structure Bz where
 p:Nat
 a:Option Addr
 n:Nat
 c:Nat
structure nE where
 ps:List Ax
 clean:Int
 fV:Int
def acj (r:Bz)(gp:Nat)(x:nE):List Value:=[.pointer (sZ gp),.slice r.a r.n r.c,ae x.clean,.int .u64 x.fV]
def L9 (r:Bz)(gp:Nat)(x:nE):List As:=ax r.p 236 (acj r gp x)::ak r.a r.n r.c 319 3 (flat KM x.ps)::x.ps.map aci
def uA (r:Bz)(gp:Nat)(x:nE):As:=bg True (L9 r gp x)
noncomputable def jI (m:bM)(sc:Int):List Int:=(Aw (aE m.w m.h sc) (bw m.w m.h sc) (dO m sc) (iY m sc)).map λd=>if d=cf then-1 else d
structure yF (g:iz) (x:nE):Prop where
 len:(x.ps.length:Int)=eV g.m.w g.m.h
 old:x.clean<=g.ep/\∀q∈x.ps,q.e7<=g.ep
 all:x.clean=g.ep->∀i q,x.ps[i]? =some q->q.e7=gi g.vs i
 ok:∀i q,x.ps[i]? =some q->q.e7=gi g.vs i->q.nodes=aW g.m i/\q.JY=jI g.m i
 u:Ta.U x.fV
structure EC (w:World) (r:Bz) (gp:Nat) (x:nE):Prop where
 cell:rW w r.p (acj r gp x)
 row:Sl w r.a r.n r.c 3 KM x.ps
 part:∀q∈x.ps,Sl w q.na q.nn q.nc 1 one q.nodes/\Sl w q.da q.dn q.dc 1 o6 q.JY
 base:0<x.ps.length->∃b o,r.a=some ⟨b,o,none⟩
def EC.fr {w w':World}{r:Bz}{gp:Nat}{x:nE}(k:EC w r gp x)(f:Fr No w w'):EC w' r gp x:=
 ⟨k.cell.fr f,k.row.fr f,λq hq=>⟨(k.part q hq).1.fr f,(k.part q hq).2.fr f⟩,k.base⟩
section
variable {F:Nat->Prop}{W w w0:World}{L:List As}{r:Bz}{gp:Nat}{x:nE}{gr:uz}{g:iz}{a:Option Addr}{n c:Nat}{xs:List Int}{v ce:Int}
def afz (s:Sep F W w (uA r gp x::L)):Sep F W w (L9 r gp x++L):=(gP s).2
def ack (s:Sep F W w (L9 r gp x++L)):Sep F W w (uA r gp x::L):=dy s trivial
def aoB {q:Ax}{i:Nat}(s:Sep F W w L)(hi:L[i]? =some (aci q)):Sl w q.na q.nn q.nc 1 one q.nodes/\Sl w q.da q.dn q.dc 1 o6 q.JY:=by have s':=IY s hi;exact⟨aN s' (i:=0) rfl cv (by decide),aN s' (i:=1) rfl vu (by decide)⟩
def WC (s:Sep F W w (uA r gp x::L)):EC w r gp x:=by have s:=afz s;have s:Sep F W w (ax r.p 236 (acj r gp x)::ak r.a r.n r.c 319 3 (flat KM x.ps)::(x.ps.map aci++L)):=s;have hR:=aN s (i:=1) rfl Cz (by decide);refine⟨ld s (i:=0) rfl,hR,λq hq=>?_,λh=>p_ s (i:=1) rfl (by rw[<-hR.len];exact h)⟩;obtain⟨i,hi⟩:=List.mem_iff_getElem?.1 hq;apply aoB s (i:=i+2);rw[List.getElem?_cons_succ,List.getElem?_cons_succ,List.getElem?_append_left (by grind),List.getElem?_map,hi];rfl
def half {i j:Nat}(h:i<j)(hj:j<1000000):IntKind.wrap .i64 (o_ .u64 (IntKind.wrap .u64 (IntKind.wrap .i64 ((i:Int)+j))) 1)=(((i+j)/2:Nat):Int):=by
 rw[aH (n:=(i:Int)+j),ku (by omega)];have e:o_ .u64 ((i:Int)+j) 1=((i:Int)+j)/2:=by rw[o_,show(2:Int)^(min (1:Int).toNat (IntKind.u64).bits)=2 from rfl,Int.fdiv_eq_ediv_of_nonneg _ (by decide)]
 rw[e,aH];omega
def Ro (h:xs.Pairwise (·<·)){i j:Nat}(hij:i<j)(hj:j<xs.length):gi xs i<gi xs j:=by have:=List.pairwise_iff_getElem.1 h i j (by omega) hj hij;have e1:=iA (l:=xs) (i:=i) (by omega);have e2:=iA hj;grind
def aiL {Q:Int->Bool->World->Prop}(hX:Sl w a n c 1 one xs)(hn:n<1000000)(hs:xs.Pairwise (·<·))(s0:Sep F W w L)
  (hy:∀(i:Nat) w',i<n->gi xs i=v->Sep F W w' L->Fr No w w'->Q i true w')(hno:v∉xs->∀i w',Sep F W w' L->Fr No w w'->Q i false w'):nN a n c v w Q:=by
 apply D_;have hl:=hX.len;have loop:∀(k i j:Nat) (w1:World),j<=i+k->i<=j->j<=n->(∀q,q<i->gi xs q<v)->(∀q,j<=q->q<n->¬gi xs q<v)->Sep No w w1 []->gE Q (k+1) a n c v n i j w1:=by
  have stop:∀(i:Nat) (w1:World),i<=n->(∀q,q<i->gi xs q<v)->(∀q,i<=q->q<n->¬gi xs q<v)->Sep No w w1 []->(cond (decide ((i:Int)<n)) (aK i n<|wA a λp=>af .i64 (p.add ((i:Int).toNat*1)) w1 λy=>cond (y==v) (Q i true w1) (aK i n<|wA a λp=>af .i64 (p.add ((i:Int).toNat*1)) w1 λz=>nO z w1 λr w2=>cond r (nO v w2 λr' w3=>Q i r' w3) (Q i false w2))) (Q i false w1)):=λi w1 hi h1 h2 s=>by
   have aeh:gi xs i≠v\/i=n->v∉xs:=λh hv=>by
    obtain⟨q,hq⟩:=List.mem_iff_getElem?.1 hv;have hql:=(List.getElem?_eq_some_iff.1 hq).1;rw[iA hql,Option.some.injEq]at hq;rcases Nat.lt_trichotomy q i with h3|h3|h3
    ·grind
    ·grind
    ·have h4:=h2 i (Nat.le_refl _) (by omega);have h5:=Ro hs h3 (by omega);omega
   by_cases hin:i<n
   ·rw[bK];apply(hX.fr (aq s)).qD rfl hin;by_cases hv:gi xs i=v
    ·rw[d_ hv,cond_true];exact hy i w1 hin hv (bP s0 (aq s)) (aq s)
    ·rw[cN hv,cond_false];apply(hX.fr (aq s)).qD rfl hin;apply OW;rw[bne_self_eq_false];show cond false _ _;exact hno (aeh (.inl hv)) i w1 (bP s0 (aq s)) (aq s)
   ·rw[bu];exact hno (aeh (.inr (by omega))) i w1 (bP s0 (aq s)) (aq s)
  intro k;induction k with
  |zero=>
   intro i j w1 hk hij hj h1 h2 s;obtain rfl:i=j:=by omega
   show iX Q (gE Q 0) _ _ _ _ _ _ _ _;unfold iX;grind
  |succ k ih=>
   intro i j w1 hk hij hj h1 h2 s;show iX Q (gE Q (k+1)) _ _ _ _ _ _ _ _;unfold iX;by_cases hlt:i<j
   ·rw[bK,half hlt (by omega)];refine⟨by decide,?_⟩;apply(hX.fr (aq s)).qD rfl (by omega);apply V6;apply A_;rw[bne_self_eq_false];show cond false _ _;show cond (decide (gi xs ((i+j)/2)<v)) _ _;have WD:∀q,q<(i+j)/2->gi xs q<gi xs ((i+j)/2):=λq hq=>Ro hs hq (by omega);have awH:∀q,(i+j)/2<q->q<n->gi xs ((i+j)/2)<gi xs q:=λq hq hqn=>Ro hs hq (by omega);by_cases hc:gi xs ((i+j)/2)<v
    ·rw[bK hc,aH];refine ih ((i+j)/2+1) j w1 (by omega) (by omega) hj (λq hq=>?_) h2 s;by_cases e:q=(i+j)/2
     ·rw[e];exact hc
     ·have:=WD q (by omega);omega
    ·rw[bu hc];refine ih i ((i+j)/2) w1 (by omega) (by omega) (by omega) h1 (λq hq hqn=>?_) s;by_cases e:q=(i+j)/2
     ·rw[e];exact hc
     ·have:=awH q (by omega) hqn;omega
   ·obtain rfl:i=j:=by omega
    rw[bu (Int.lt_irrefl _)];exact stop i w1 hj h1 h2 s
 exact⟨n+1,loop n 0 n w (by omega) (by omega) (Nat.le_refl _) (λq h=>by omega) (λq h1 h2=>by omega) aX⟩
def aam {Q:Int->World->Prop}(k:rW w r.p (acj r gp x))(h:Q x.fV w):r_ (sZ r.p) w Q:=by apply FB;exact kT (ah (aJ (k 3 _ rfl) h))
def aan {Q:Int->World->Prop}(h:Q 0 w):r_ Option.none w Q:=FB _ _ _ h
def aao {Q:Option Addr->Nat->Nat->World->Prop}{i:Nat}{q:Ax}(s0:Sep F W w L)(k:EC w r gp x)(hq:x.ps[i]? =some q)(hql:q.nodes.length<=1000000)(h:∀ra rn rc w',Sep F W w' (ak ra rn rc 3 1 (flat one q.nodes)::L)->Fr No w w'->Q ra rn rc w'):
  y7 (sZ r.p) i w Q:=by
 apply QF;have hi:=(List.getElem?_eq_some_iff.1 hq).1;have hl:=k.row.len;apply kT;rw[bu];refine ah (cS (k.cell 1 _ rfl) ?_);rw[bu];refine ah (cS (k.cell 1 _ rfl) ?_);refine k.row.El rfl (by omega) λp y hy hc=>?_;rw[hq]at hy;cases hy;apply cS (hc 1 _ rfl);have hn:=(k.part q (List.mem_of_getElem? hq)).1;refine LU s0 hn (by rw[<-hn.len];omega) λra rc w' s f=>h ra _ rc w' s f
def xE (r:Bz)(i:Nat):Option Addr:=r.a.map λp=>p.add (i*3)
def NX {Q:Option Addr->Int->Bool->World->Prop}(s0:Sep F W w L)(k:EC w r gp x)(kg:nC w gr g)(hgp:gp=gr.p)(hlen:(x.ps.length:Int)=eV g.m.w g.m.h)(WD:∀q∈x.ps,q.nodes.Pairwise (·<·)/\q.nodes.length<1000000)
  (hno:¬bJ g.m.w g.m.h ce->∀w',Sep F W w' L->Fr No w w'->Q none 0 false w')
  (hy:∀q (i:Nat) w',x.ps[(aC g.m.w g.m.h ce).toNat]? =some q->i<q.nodes.length->gi q.nodes i=ce->Sep F W w' L->Fr No w w'->Q (xE r (aC g.m.w g.m.h ce).toNat) i true w')
  (hn:∀q i w',x.ps[(aC g.m.w g.m.h ce).toNat]? =some q->ce∉q.nodes->Sep F W w' L->Fr No w w'->Q (xE r (aC g.m.w g.m.h ce).toNat) i false w'):t_ (sZ r.p) ce w Q:=by
 subst hgp;apply SH;refine kT (ah (dH (k.cell 0 _ rfl) ?_));refine jo (aX (F:=No)) kg λw1 s1 _=>?_;refine eY s1 λw1 s1 _=>?_;have f1:=aq s1;by_cases hc:bJ g.m.w g.m.h ce
 ·have hs:=bT hc;obtain⟨_,h0,h1⟩:=hs;rw[bu];have k:=k.fr f1;have hl:=k.row.len;refine ah (cS (k.cell 1 _ rfl) ?_);have hrow:=k.row;obtain⟨p,hp⟩:∃p,r.a=some p:=by obtain⟨ad,h2,_⟩:=hrow.row.2 (aC g.m.w g.m.h ce).toNat _ (List.getElem?_eq_getElem (by omega));grind
  have hP:xE r (aC g.m.w g.m.h ce).toNat=some (p.add ((aC g.m.w g.m.h ce).toNat*3)):=by unfold xE;rw[hp];rfl
  rw[hP]at hy hn;obtain⟨ad,had,yg⟩:=hrow.row.2 (aC g.m.w g.m.h ce).toNat _ (List.getElem?_eq_getElem (by omega));rw[hp,Option.some.injEq]at had;subst had;have hq:x.ps[(aC g.m.w g.m.h ce).toNat]? =some (x.ps[(aC g.m.w g.m.h ce).toNat]'(by omega)):=List.getElem?_eq_getElem (by omega);generalize x.ps[(aC g.m.w g.m.h ce).toNat]'(by omega)=q at yg hq;have hqm:=List.mem_of_getElem? hq;refine⟨by omega,by omega,?_⟩;rw[hp];apply ah;apply QG;refine ah (cS (x:=q.na) (m:=q.nn) (q:=q.nc) ?_ ?_)
  ·rw[add_add];exact yg 1 _ rfl
  ·obtain⟨h2,h3⟩:=WD q hqm;have hn1:=(k.part q hqm).1;have hnl:=hn1.len;refine aiL hn1 (by omega) h2 s1 (λi w2 h4 h5 s2 f2=>?_) λh4 i w2 s2 f2=>?_
   ·exact hy q i w2 hq (by omega) h5 (bP s0 (aq s2)) (aq s2)
   ·exact hn q i w2 hq h4 (bP s0 (aq s2)) (aq s2)
 ·have e:aC g.m.w g.m.h ce=-1:=if_neg hc;rw[e,bK (by decide)];exact hno hc w1 (bP s0 f1) f1
end
end Go.Proofs.YtmegplnmiepfbaaGreatDoor.S
namespace Go.Proofs.YtmegplnmiepfbaaGreatDoor.S
open Go.Sx
attribute [local irreducible] af cQ bG bp aA cE cw St Bx Al App cV cO cM bZ aQ bI au cj ax ak bg mapA
section
variable {F:Nat->Prop}{W w w0:World}{L:List As}{r:Bz}{gp:Nat}{x:nE}{gr:uz}{g:iz}{m:bM}{sc b:Int}
def NY (g:iz)(x:nE):Prop:=∀i q,x.ps[i]? =some q->q.e7=gi g.vs i
def Ig (I:yF g x)(hf:NY g x){i:Nat}{q:Ax}(h:x.ps[i]? =some q):q.nodes=aW g.m i/\q.JY=jI g.m i:=I.ok i q h (hf i q h)
def GN:(iY m sc).length=(aW m sc).length:=by unfold iY;grind
def aoC:(jI m sc).length=(aW m sc).length*(aW m sc).length:=by unfold jI Aw;rw[List.length_map,List.length_map,List.length_range,GN]
def aqQ {i j:Nat}(hi:i<(aW m sc).length)(hj:j<(aW m sc).length):gi (jI m sc) (i*(aW m sc).length+j)=if qm m sc (gi (aW m sc) i) (gi (aW m sc) j)=cf then-1 else qm m sc (gi (aW m sc) i) (gi (aW m sc) j):=by
 have Pu:0<(aW m sc).length:=by omega
 have d1:(i*(aW m sc).length+j)/(aW m sc).length=i:=by rw[Nat.mul_comm,Nat.mul_add_div Pu,Nat.div_eq_of_lt hj,Nat.add_zero]
 have d2:(i*(aW m sc).length+j)%(aW m sc).length=j:=by rw[Nat.mul_comm,Nat.mul_add_mod,Nat.mod_eq_of_lt hj]
 have e:∀k,k<(aW m sc).length->gi (iY m sc) k=dX m.w m.h (gi (aW m sc) k):=λk hk=>by unfold gi iY;grind
 have h0:gi (jI m sc) (i*(aW m sc).length+j)=(λd=>if d=cf then-1 else d) (E_ (aE m.w m.h sc) (bw m.w m.h sc) (dO m sc) (iY m sc) i j):=by unfold jI Aw;rw[GN];show List.getD _ _ _=_;rw[List.getD_eq_getElem?_getD,List.getElem?_map,List.getElem?_map,List.getElem?_range (al5 hi hj)];simp[Option.map_some,Option.getD_some,d1,d2]
 rw[h0];unfold E_ qm;grind
def agR {Q:Int->World->Prop}{s i j:Nat}{q:Ax}(k:EC w r gp x)(hq:x.ps[s]? =some q)(hm:cT m)(hs:dW m.w m.h sc)(hc:q.nodes=aW m sc/\q.JY=jI m sc)(hi:i<(aW m sc).length)(hj:j<(aW m sc).length)
  (h:Q (qm m sc (gi (aW m sc) i) (gi (aW m sc) j)) w.drew):wD (xE r s) i j w Q:=by
 apply MZ;obtain⟨ad,had,yg⟩:=k.row.row.2 s q hq;have hP:xE r s=some (ad.add (s*3)):=by unfold xE;rw[had];rfl
 obtain⟨k1,k2⟩:=k.part q (List.mem_of_getElem? hq);have n1:=k1.len;have n2:=k2.len;rw[hc.1]at n1;rw[hc.2,aoC]at n2;have o7:=zR hs;have hsq:=al5 hi hj;have hij:=Nat.mul_le_mul (by omega) o7;rw[hP];refine ah (cS (by rw[add_add];exact yg 2 _ rfl) (ah (cS (by rw[add_add];exact yg 1 _ rfl) ?_)));rw[<-n1,show(i:Int)*(((aW m sc).length:Nat):Int)=((i*(aW m sc).length:Nat):Int) by grind,aH (n:=((i*(aW m sc).length:Nat):Int)),aH];apply F5 k2.drew (k:=i*(aW m sc).length+j) (by omega) (by omega);rw[hc.2,aqQ hi hj];have ha:=mK hs (fA hi);have hb:=mK hs (fA hj);have hr:=aal hm hs ha.2 hb.2 hb.1;by_cases hI:qm m sc (gi (aW m sc) i) (gi (aW m sc) j)=cf
 ·rw[if_pos hI,bne_self_eq_false,cond_false];rw[hI]at h;exact h
 ·rw[if_neg hI,show(qm m sc (gi (aW m sc) i) (gi (aW m sc) j) !=-1)=true by grind,cond_true,aH];exact h
def atl:∃inf,P.info? 319=some inf/\inf.size≠0:=by obtain⟨inf,u,z,k1,k2,k3,k4,k5,k6,k7⟩:=uL dQ (t:=319) rfl;grind
def avb:P.underlying 354=some (.pointer 319):=by kernel_rfl
def Rp {α β:Type}{f:α->Option β}{l:List α}{i:Nat}{a:α}(h:l[i]? =some a):(l.take (i+1)).filterMap f=(l.take i).filterMap f++(f a).toList:=by rw[List.take_add_one,h,List.filterMap_append];congr 1
def acm {Q:Option Addr->Nat->Nat->World->Prop}(s0:Sep F W w L)(k:EC w r gr.p x)(kg:nC w gr g)(I:yF g x)(hf:NY g x)(hb:bJ g.m.w g.m.h b)(hn:og g.m b)
  (h:∀ra rn rc w',Sep F W w' (ak ra rn rc 292 2 (flat Dv (KK g.m b))::L)->Fr No w w'->Q ra rn rc w'):Ac (sZ r.p) b w Q:=by
 apply SI;have hm:=kg.ok.may;have hs:=bT hb;have hlen:=I.len;have hps:∀(i:Nat) (q:Ax),x.ps[i]? =some q->dW g.m.w g.m.h i:=λi q h=>⟨⟨hm.w,hm.h⟩,by omega,by have:=(List.getElem?_eq_some_iff.1 h).1;omega⟩;have WD:∀q∈x.ps,q.nodes.Pairwise (·<·)/\q.nodes.length<1000000:=λq hq=>by obtain⟨i,hi⟩:=List.mem_iff_getElem?.1 hq;rw[(Ig I hf hi).1];have:=zR (hps i q hi);exact⟨NW (hps i q hi),by omega⟩
 have e0:=Int.toNat_of_nonneg hs.2.1;refine NX (aX (F:=No)) k kg rfl I.len WD (λe=>(e hb).elim) (λq j w1 hq hj hgj s1 f1=>?_) λq i w1 hq hni s1 f1=>?_
 rotate_left
 ·have:=(Ig I hf hq).1;rw[e0]at this;rw[this]at hni;exact(hni hn).elim
 have hc:=Ig I hf hq;rw[e0]at hc;rw[hc.1]at hj hgj;rw[Bool.not_true,cond_false];have k1:=k.fr f1;obtain⟨ad,had,yg⟩:=k1.row.row.2 _ q hq;obtain⟨pb,po,hbase⟩:=k1.base (by have:=(List.getElem?_eq_some_iff.1 hq).1;omega);have hP:xE r (aC g.m.w g.m.h b).toNat=some (ad.add ((aC g.m.w g.m.h b).toNat*3)):=by unfold xE;rw[had];rfl
 obtain⟨q1,q2⟩:=k1.part q (List.mem_of_getElem? hq);have hql:=q1.len;rw[hc.1]at hql;have o7:=zR hs;rw[hP];refine ah (cS (by rw[add_add];exact yg 1 _ rfl) ?_);rw[<-hql,wrap_i64 (n:=(((aW g.m (aC g.m.w g.m.h b)).length:Nat):Int)+1) (by omega) (by omega)];refine xK (x0:=((0:Int),(0:Int))) (bytes:=16) (ln:=0) (cn:=(aW g.m (aC g.m.w g.m.h b)).length+1) dQ s1 rfl rfl rfl rfl rfl rfl (by decide) Q_ rfl (λu hu=>akT _ u hu) rfl (by omega) (by omega) (by omega) (by simp[maxLen];omega) λob w1 s1=>?_;have s1:=s1;have f1:=aq s1;have k1:=k.fr f1;obtain⟨ad',avd,ais⟩:=k1.row.row.2 _ q hq;obtain rfl:ad'=ad:=by rw[had]at avd;cases avd;rfl
 refine ah (cS (by rw[add_add];exact ais 1 _ rfl) ?_);rw[<-hP,<-hql];have sides:∀(n2 sd:Nat) (oa:Option Addr) (on oc:Nat) (w2:World),sd+n2=4->on<=300+sd->Sep No w w2 [ak oa on oc 292 2 (flat Dv (acg g.m b++S9 g.m b sd))]->
   lD Q (n2+1) (sZ r.p) b (xE r (aC g.m.w g.m.h b).toNat) oa on oc g.m.w g.m.h sd w2:=by
  intro n2;induction n2 with
  |zero=>
   intro sd oa on oc w2 vZ ho s;show qK Q (lD Q 0) _ _ _ _ _ _ _ _ _ _;unfold qK;obtain rfl:sd=4:=by omega
   exact h oa on oc w2 (dz s0 s (i:=0) rfl) (aq s)
  |succ n2 ih=>
   intro sd oa on oc w2 vZ ho s;show qK Q (lD Q (n2+1)) _ _ _ _ _ _ _ _ _ _;rw[qK,bK,aH];have skip:∀(w3:World),Sep No w w3 [ak oa on oc 292 2 (flat Dv (acg g.m b++S9 g.m b sd))]->¬(0<=bf g.m.w g.m.h b sd/\og g.m (bf g.m.w g.m.h b sd)/\cP g.m (bf g.m.w g.m.h b sd)≠cP g.m b)->
     lD Q (n2+1) (sZ r.p) b (xE r (aC g.m.w g.m.h b).toNat) oa on oc g.m.w g.m.h ((sd:Int)+1) w3:=λw3 s hno=>by
    apply ih (sd+1) oa on oc w3 (by omega) (by omega);rw[ach];rw[Rn,if_neg hno];show Sep No w w3 [ak oa on oc 292 2 (flat Dv (acg g.m b++(S9 g.m b sd++[])))];rw[List.append_nil];exact s
   refine kK s λw2 s _=>?_;refine NX s (k.fr (aq s)) (kg.fr (aq s)) rfl I.len WD (λe w3 s _=>?_) (λq' i' w3 K3 hi' ayO s _=>?_) λq' i' w3 K3 ave s _=>?_
   ·exact skip w3 s λe'=>e (zZ e'.1).2
   ·have hn':og g.m (bf g.m.w g.m.h b sd)/\bJ g.m.w g.m.h (bf g.m.w g.m.h b sd):=by
     have h2:=(Ig I hf K3).1;have h3:bf g.m.w g.m.h b sd∈q'.nodes:=by rw[<-ayO];exact fA hi'
     rw[h2]at h3;have hok:=hps _ _ K3;have h4:=mK hok h3;have e5:=Int.toNat_of_nonneg (bT h4.2.1).2.1;rw[e5]at h3;exact⟨h3,h4.2.1⟩
    have hs':=bT hn'.2;have eP:∀i,xE r i=some ⟨pb,po+i*3,none⟩:=λi=>by unfold xE;rw[hbase];show some (Addr.add ⟨pb,po,none⟩ (i*3))=_;rw[cq]
    have ayP:∀(K:Bool->World->Prop) (x y:Operand) (wz:World),K (!decide (aC g.m.w g.m.h (bf g.m.w g.m.h b sd)=aC g.m.w g.m.h b)) wz->bZ P .neq 354 x y (.pointer (xE r (aC g.m.w g.m.h (bf g.m.w g.m.h b sd)).toNat)) (.pointer (xE r (aC g.m.w g.m.h b).toNat)) wz K:=λK x y wz hK=>by
     rw[eP,eP];obtain⟨inf,YU,hi2⟩:=atl;apply au8 avb YU hi2;have e6:(po+(aC g.m.w g.m.h (bf g.m.w g.m.h b sd)).toNat*3=po+(aC g.m.w g.m.h b).toNat*3)↔aC g.m.w g.m.h (bf g.m.w g.m.h b sd)=aC g.m.w g.m.h b:=by have:=hs'.2.1;omega
     simp only[e6];exact hK
    apply ayP;by_cases Tb:aC g.m.w g.m.h (bf g.m.w g.m.h b sd)=aC g.m.w g.m.h b
    ·rw[decide_eq_true Tb,Bool.not_true,cond_false];exact skip w3 s λe'=>e'.2.2 Tb
    ·rw[decide_eq_false Tb,Bool.not_false,cond_true];have k3:=k.fr (aq s);refine ah (dH (k3.cell 0 _ rfl) ?_);apply jn (kg.fr (aq s));refine aqt (x:=(bf g.m.w g.m.h b sd,cR g.m b)) s (by omega) λoa oc w3 s=>?_;apply ih (sd+1) oa (on+1) oc w3 (by omega) (by omega);rw[ach];rw[Rn,if_pos ⟨hn'.2.2.1,hn'.1,Tb⟩,<-List.append_assoc];exact s
   ·refine skip w3 s λe'=>?_;have h2:=(Ig I hf K3).1;have Bi:=(zZ e'.1).2;rw[Int.toNat_of_nonneg (bT Bi).2.1]at h2;rw[h2]at ave;exact ave e'.2.1
 have nodes:∀(n2 i:Nat) (oa:Option Addr) (on oc:Nat) (w2:World),i+n2=(aW g.m (aC g.m.w g.m.h b)).length->on<=i->Sep No w w2 [ak oa on oc 292 2 (flat Dv (((aW g.m (aC g.m.w g.m.h b)).take i).filterMap λa=>if a≠b/\qm g.m (cP g.m b) a b≠cf then some (a,qm g.m (cP g.m b) a b)else none))]->
   mC Q (n2+1) (sZ r.p) b (xE r (aC g.m.w g.m.h b).toNat) j oa on oc q.na (aW g.m (aC g.m.w g.m.h b)).length q.nc (aW g.m (aC g.m.w g.m.h b)).length i w2:=by
  intro n2;induction n2 with
  |zero=>
   intro i oa on oc w2 hi ho s;show rT Q (mC Q 0) _ _ _ _ _ _ _ _ _ _ _ _ _;rw[rT,bu];have k2:=k.fr (aq s);refine ah (dH (k2.cell 0 _ rfl) ?_);refine jo s (kg.fr (aq s)) λw2 s _=>?_;rw[List.take_of_length_le (by omega)]at s;refine⟨5,sides 4 0 oa on oc w2 rfl (by omega) ?_⟩;show Sep No w w2 [ak oa on oc 292 2 (flat Dv (acg g.m b++[]))];rw[List.append_nil];exact s
  |succ n2 ih=>
   intro i oa on oc w2 hi ho s;show rT Q (mC Q (n2+1)) _ _ _ _ _ _ _ _ _ _ _ _ _;rw[rT,bK,aH];have k2:=k.fr (aq s);have q1:=(k2.part q (List.mem_of_getElem? hq)).1;rw[hc.1,<-hql]at q1;apply q1.qD rfl (by omega);apply agR k2 hq hm hs hc (by omega) hj;rw[hgj];have s:=ay s;have ht:=Rp (f:=λa=>if a≠b/\qm g.m (cP g.m b) a b≠cf then some (a,qm g.m (cP g.m b) a b)else none) (iA (l:=aW g.m (aC g.m.w g.m.h b)) (i:=i) (by omega));have hne:gi (aW g.m (aC g.m.w g.m.h b)) i≠b↔i≠j:=by
    constructor
    ·rintro h1 rfl;exact h1 hgj
    ·intro h1 h2;rcases Nat.lt_or_gt_of_ne h1 with h3|h3
     ·have:=Ro (NW hs) h3 hj;omega
     ·have:=Ro (NW hs) h3 (by omega);omega
   have skip:¬(gi (aW g.m (aC g.m.w g.m.h b)) i≠b/\qm g.m (cP g.m b) (gi (aW g.m (aC g.m.w g.m.h b)) i) b≠cf)->mC Q (n2+1) (sZ r.p) b (xE r (aC g.m.w g.m.h b).toNat) j oa on oc q.na (aW g.m (aC g.m.w g.m.h b)).length q.nc (aW g.m (aC g.m.w g.m.h b)).length ((i:Int)+1) w2.drew:=λhno=>by apply ih (i+1) oa on oc _ (by omega) (by omega);rw[ht,if_neg hno];show Sep No w _ [ak oa on oc 292 2 (flat Dv (_++[]))];rw[List.append_nil];exact s
   by_cases hij:i=j
   ·rw[show((i:Int) !=(j:Int))=false by rw[hij];exact bne_self_eq_false _,cond_false];exact skip λe=>hne.1 e.1 hij
   ·rw[show((i:Int) !=(j:Int))=true by rw[bne_iff_ne];omega,cond_true];by_cases hI:qm g.m (cP g.m b) (gi (aW g.m (aC g.m.w g.m.h b)) i) b=cf
    ·have WE:qm g.m (aC g.m.w g.m.h b) (gi (aW g.m (aC g.m.w g.m.h b)) i) b=1099511627776:=hI;rw[WE,bne_self_eq_false,cond_false];exact skip λe=>e.2 hI
    ·have WE:qm g.m (aC g.m.w g.m.h b) (gi (aW g.m (aC g.m.w g.m.h b)) i) b≠1099511627776:=hI;rw[show(qm g.m (aC g.m.w g.m.h b) (gi (aW g.m (aC g.m.w g.m.h b)) i) b !=1099511627776)=true by rw[bne_iff_ne];exact WE,cond_true];refine aqt (x:=(gi (aW g.m (aC g.m.w g.m.h b)) i,qm g.m (aC g.m.w g.m.h b) (gi (aW g.m (aC g.m.w g.m.h b)) i) b)) s (by omega) λoa oc w3 s=>?_;apply ih (i+1) oa (on+1) oc w3 (by omega) (by omega);rw[ht,if_pos ⟨hne.2 hij,hI⟩];exact s
 exact⟨_,nodes (aW g.m (aC g.m.w g.m.h b)).length 0 _ 0 _ w1 (by omega) (by omega) s1⟩
end
section
variable {F:Nat->Prop}{W w w0:World}{L:List As}{r:Bz}{gp:Nat}{x:nE}{gr:uz}{g:iz}{m:bM}{sc b:Int}
def aqR (hm:cT m)(hs:dW m.w m.h sc){d:Int}(h:d∈Aw (aE m.w m.h sc) (bw m.w m.h sc) (dO m sc) (iY m sc)):0<=d/\(d≠cf->d<1000000000):=by
 obtain⟨k,hk,rfl⟩:=List.mem_map.1 h;have hk:=List.mem_range.1 hk;rw[GN]at hk⊢;have Pu:0<(aW m sc).length:=by grind
 have hi:=Nat.div_lt_of_lt_mul hk;have hj:k%(aW m sc).length<(aW m sc).length:=Nat.mod_lt _ Pu;have e:∀k,k<(aW m sc).length->gi (iY m sc) k=dX m.w m.h (gi (aW m sc) k):=λk hk=>by unfold gi iY;grind
 have ha:=mK hs (fA hi);have hb:=mK hs (fA hj);have hr:=aal hm hs ha.2 hb.2 hb.1;have e2:E_ (aE m.w m.h sc) (bw m.w m.h sc) (dO m sc) (iY m sc) (k/(aW m sc).length) (k%(aW m sc).length)=qm m sc (gi (aW m sc) (k/(aW m sc).length)) (gi (aW m sc) (k%(aW m sc).length)):=by unfold E_ qm;grind
 grind
def aei {Q:Int->Option Addr->Nat->Nat->Option Addr->Nat->Nat->World->Prop}{rb tb pb nn nc tn tc:Nat}{na ta:Option Addr}{e7:Int}(hm:cT m)(hs:dW m.w m.h sc)
  (s:Sep No w0 w [ax pb 319 [ae e7,.slice na nn nc,.slice none 0 0],ak na nn nc 3 1 (flat one (aW m sc)),ax tb 84 [ae (aE m.w m.h sc),ae (bw m.w m.h sc),.slice ta tn tc],ak ta tn tc 5 1 (flat bj (dO m sc)),ax rb 319 [ae 0,.slice none 0 0,.slice none 0 0]])
  (h:∀da dn dc w',Sep No w0 w' [ak na nn nc 3 1 (flat one (aW m sc)),ak da dn dc 21 1 (flat o6 (jI m sc))]->Q e7 na nn nc da dn dc w'):rS Q (aZ rb) m.w m.h (aZ tb) (aZ pb) w:=by
 have o7:=zR hs;have hnn:=(aN s (i:=1) rfl cv (by decide)).len;apply lS s 0 rfl;have conv:∀(qa:Option Addr) (qc N:Nat) (da:Option Addr) (w1:World),N=nn*nn->Sep No w0 w1 [ak da N N 21 1 (flat o6 (List.replicate N 0)),ak qa N qc 3 1 (flat one (Aw (aE m.w m.h sc) (bw m.w m.h sc) (dO m sc) (iY m sc))),ax pb 319 [ae e7,.slice na nn nc,.slice da N N],ak na nn nc 3 1 (flat one (aW m sc)),ax rb 319 [ae 0,.slice none 0 0,.slice none 0 0]]->
   ∃k',lC Q k' (aZ rb) (aZ pb) qa N qc N 0 w1:=λqa qc N da w1 hN s=>by
  have hNb:N<=65536:=by have:=Nat.mul_le_mul (show nn<=256 by omega) (show nn<=256 by omega);omega
  have htl:(Aw (aE m.w m.h sc) (bw m.w m.h sc) (dO m sc) (iY m sc)).length=N:=by rw[Aw,List.length_map,List.length_range,GN,hnn,hN]
  have hdl:(jI m sc).length=N:=by unfold jI;grind
  have hdg:∀i,i<N->gi (jI m sc) i=if gi (Aw (aE m.w m.h sc) (bw m.w m.h sc) (dO m sc) (iY m sc)) i=cf then-1 else gi (Aw (aE m.w m.h sc) (bw m.w m.h sc) (dO m sc) (iY m sc)) i:=λi hi=>by show List.getD _ _ _=_;rw[jI,List.getD_eq_getElem?_getD,List.getElem?_map,iA (by omega)];rfl
  have loop:∀(k i:Nat) (w1:World),i+k=N->Sep No w0 w1 [ak da N N 21 1 (flat o6 ((List.range N).map λq=>if q<i then gi (jI m sc) q else 0)),ak qa N qc 3 1 (flat one (Aw (aE m.w m.h sc) (bw m.w m.h sc) (dO m sc) (iY m sc))),ax pb 319 [ae e7,.slice na nn nc,.slice da N N],ak na nn nc 3 1 (flat one (aW m sc)),ax rb 319 [ae 0,.slice none 0 0,.slice none 0 0]]->
    lC Q (k+1) (aZ rb) (aZ pb) qa N qc N i w1:=by
   intro k;induction k with
   |zero=>
    intro i w1 hi s;show qJ Q (lC Q 0) _ _ _ _ _ _ _ _;rw[qJ,bu];have e:((List.range N).map λq=>if q<i then gi (jI m sc) q else 0)=jI m sc:=by refine Vj (by grind) λq hq=>?_;show List.getD _ _ _=_;grind
    rw[e]at s;refine lI s 2 rfl (lS s 2 rfl (lS s 2 rfl ?_));refine sT s 4 rfl λw1 s=>?_;refine sT s 4 rfl λw1 s=>?_;refine av s (i:=4) rfl rfl rfl λw1 s=>?_;refine lI s 4 rfl (lS s 4 rfl (lS s 4 rfl ?_));exact h da N N w1 (pk 99 [3,0] s)
   |succ k ih=>
    intro i w1 hi s;show qJ Q (lC Q (k+1)) _ _ _ _ _ _ _ _;rw[qJ,bK,aH];apply(aN s (i:=1) rfl cv (by decide)).qD rfl (by omega);apply lS s 2 rfl;refine E6 vu s (i:=0) (k:=i) (x':=-1) rfl (by omega) (by rw[List.length_map,List.length_range];omega) rfl rfl λw1 s=>?_;have hr:=aqR hm hs (fA (i:=i) (by omega));have hdi:=hdg i (by omega);rw[JX]at s;by_cases hI:gi (Aw (aE m.w m.h sc) (bw m.w m.h sc) (dO m sc) (iY m sc)) i=cf
    ·rw[if_pos hI]at hdi;have WE:gi (Aw (aE m.w m.h sc) (bw m.w m.h sc) (dO m sc) (iY m sc)) i=1099511627776:=hI;rw[WE,bne_self_eq_false,cond_false];apply ih (i+1) w1 (by omega);have e:((List.range N).map λq=>if q=i then-1 else if q<i then gi (jI m sc) q else 0)=(List.range N).map λq=>if q<i+1 then gi (jI m sc) q else 0:=by
      refine List.map_congr_left λq _=>?_;by_cases c1:q=i
      ·rw[if_pos c1,AH,c1,hdi]
      ·rw[if_neg c1];by_cases c2:q<i
       ·rw[if_pos c2,AH]
       ·rw[if_neg c2,fR]
     rw[e]at s;exact s
    ·rw[if_neg hI]at hdi;have WE:gi (Aw (aE m.w m.h sc) (bw m.w m.h sc) (dO m sc) (iY m sc)) i≠1099511627776:=hI;rw[show(gi (Aw (aE m.w m.h sc) (bw m.w m.h sc) (dO m sc) (iY m sc)) i !=1099511627776)=true by rw[bne_iff_ne];exact WE,cond_true];apply lS s 2 rfl;rw[afm (by omega)];refine E6 vu s (i:=0) (k:=i) (x':=gi (Aw (aE m.w m.h sc) (bw m.w m.h sc) (dO m sc) (iY m sc)) i) rfl (by omega) (by rw[List.length_map,List.length_range];omega) rfl rfl λw1 s=>?_;rw[JX]at s;apply ih (i+1) w1 (by omega);have e:((List.range N).map λq=>if q=i then gi (Aw (aE m.w m.h sc) (bw m.w m.h sc) (dO m sc) (iY m sc)) i else if q=i then-1 else if q<i then gi (jI m sc) q else 0)=(List.range N).map λq=>if q<i+1 then gi (jI m sc) q else 0:=by
      refine List.map_congr_left λq _=>?_;by_cases c1:q=i
      ·rw[if_pos c1,AH,c1,hdi]
      ·rw[if_neg c1,if_neg c1];by_cases c2:q<i
       ·rw[if_pos c2,AH]
       ·rw[if_neg c2,fR]
     rw[e]at s;exact s
  refine⟨N+1,loop N 0 w1 (by omega) ?_⟩;have e:((List.range N).map λq=>if q<0 then gi (jI m sc) q else 0)=List.replicate N 0:=by rw[List.eq_replicate_iff];refine⟨by simp,λx hx=>?_⟩;obtain⟨q,_,rfl⟩:=List.mem_map.1 hx;rw[if_neg (Nat.not_lt_zero _)]
  grind
 have loop:∀(k i:Nat) (la:Option Addr) (lc:Nat) (w1:World),i+k=nn->Sep No w0 w1 [ak la i lc 3 1 (flat one ((iY m sc).take i)),ax pb 319 [ae e7,.slice na nn nc,.slice none 0 0],ak na nn nc 3 1 (flat one (aW m sc)),ax tb 84 [ae (aE m.w m.h sc),ae (bw m.w m.h sc),.slice ta tn tc],ak ta tn tc 5 1 (flat bj (dO m sc)),ax rb 319 [ae 0,.slice none 0 0,.slice none 0 0]]->
   oz Q (k+1) (aZ rb) m.w m.h (aZ tb) (aZ pb) la i lc na nn nc nn i w1:=by
  intro k;induction k with
  |zero=>
   intro i la lc w1 hi s;show rR Q (oz Q 0) _ _ _ _ _ _ _ _ _ _ _ _ _ _;rw[rR,bu];have N0:(iY m sc).length=nn:=by rw[GN,hnn]
   rw[List.take_of_length_le (by omega)]at s;refine lI s 3 rfl (lI s 3 rfl (lS s 3 rfl ?_));refine aaj s (aN s (i:=4) rfl dg (by decide)) (aN s (i:=0) rfl cv (by decide)) (Rl hm hs) (aoz hm hs) λqa qc w1 s _=>?_;rw[N0]at s⊢;have hNb:nn*nn<=65536:=by have:=Nat.mul_le_mul (show nn<=256 by omega) (show nn<=256 by omega);omega
   refine xK (bytes:=4) dQ s rfl rfl rfl rfl rfl rfl (by decide) vu rfl (λu hu=>by unfold o6 at hu;rw[List.mem_singleton]at hu;rw[hu];rfl) rfl rfl (Nat.le_refl _) (by omega) (by simp[maxLen];omega) λdb w1 s=>?_;refine av s (i:=3) rfl rfl rfl λw1 s=>?_;exact conv qa qc (nn*nn) (sZ db) w1 rfl (pk 99 [0,1,3,4,7] s)
  |succ k ih=>
   intro i la lc w1 hi s;show rR Q (oz Q (k+1)) _ _ _ _ _ _ _ _ _ _ _ _ _ _;rw[rR,bK,aH];apply(aN s (i:=2) rfl cv (by decide)).qD rfl (by omega);refine tE s λw1 s _=>?_;refine LQ s (by omega) λla lc w1 s=>?_;apply ih (i+1) la lc w1 (by omega);have e:(iY m sc).take (i+1)=(iY m sc).take i++[dX m.w m.h (gi (aW m sc) i)]:=by rw[iY,List.take_add_one,List.getElem?_map,iA (by omega)];rfl
   rw[e];exact s
 exact⟨nn+1,loop nn 0 none 0 w (by omega) (bC s 3 1)⟩
def aco {Q:Int->Option Addr->Nat->Nat->Option Addr->Nat->Nat->World->Prop}{vs:List Value}(s0:Sep F W w L)(k:rW w r.p (.pointer (sZ gr.p)::vs))(kg:nC w gr g)(hs:dW g.m.w g.m.h sc)
  (h:∀na nn nc da dn dc w',Sep F W w' ([ak na nn nc 3 1 (flat one (aW g.m sc)),ak da dn dc 21 1 (flat o6 (jI g.m sc))]++L)->Fr No w w'->Q (zz g sc) na nn nc da dn dc w'):Ab (sZ r.p) sc w Q:=by
 apply SE;have hm:=kg.ok.may;have fin:∀(na:Option Addr) (nn nc:Nat) (da:Option Addr) (dn dc:Nat) (w':World),Sep No w w' [ak na nn nc 3 1 (flat one (aW g.m sc)),ak da dn dc 21 1 (flat o6 (jI g.m sc))]->Q (zz g sc) na nn nc da dn dc w':=λna nn nc da dn dc w' s=>h na nn nc da dn dc w' (fq s0 s) (aq s);refine aT (aX (F:=No)) λrb w1 s=>?_;have kc:∀{w':World} {L':List As},Sep No w w' L'->w'.cell? (aZ r.p)=some (.pointer (sZ gr.p)):=λs=>by have:=(k.fr (aq s)) 0 _ rfl;exact this
 refine ah (dH (kc s) ?_);refine jo s (kg.fr (aq s)) λw1 s _=>?_;refine ah (dH (kc s) ?_);refine NH s (kg.fr (aq s)) (λe=>(e hs).elim) λ_ ta tn tc w1 s _=>?_;rw[aiz hm hs]at s;refine aT s λtb w1 s=>?_;refine sT s 0 rfl λw1 s=>?_;refine sT s 0 rfl λw1 s=>?_;refine av s (i:=0) rfl rfl rfl λw1 s=>?_;have s:=ay s;refine ah (dH (kc s) (ah (dH (kc s) ⟨?_,?_⟩)))
 ·refine rU (kg.fr (aq s)) ⟨kc s,?_,?_⟩
  ·refine xC s (kg.fr (aq s)) hs λna nn nc w1 s _=>?_;refine aT s λpb w1 s=>?_;refine⟨kc s,kc s,?_⟩;refine sT s 0 rfl λw1 s=>?_;refine sT s 0 rfl λw1 s=>?_;refine av s (i:=0) rfl rfl rfl λw1 s=>?_;exact aei hm hs s λda dn dc w' s=>fin _ _ _ da dn dc w' s
  ·refine aT s λpb w1 s=>?_;refine⟨kc s,kc s,?_⟩;refine xC s (kg.fr (aq s)) hs λna nn nc w1 s _=>?_;refine sT s 1 rfl λw1 s=>?_;refine sT s 1 rfl λw1 s=>?_;refine av s (i:=1) rfl rfl rfl λw1 s=>?_;exact aei hm hs (pk 99 [1,0,2,3,4] s) λda dn dc w' s=>fin _ _ _ da dn dc w' s
 ·refine aT s λpb w1 s=>?_;refine⟨kc s,kc s,?_⟩;refine rU (kg.fr (aq s)) ⟨kc s,?_⟩;refine xC s (kg.fr (aq s)) hs λna nn nc w1 s _=>?_;refine sT s 1 rfl λw1 s=>?_;refine sT s 1 rfl λw1 s=>?_;refine av s (i:=1) rfl rfl rfl λw1 s=>?_;exact aei hm hs (pk 99 [1,0,2,3,4] s) λda dn dc w' s=>fin _ _ _ da dn dc w' s
end
section
variable {F:Nat->Prop}{W w w0:World}{L:List As}{r:Bz}{gp:Nat}{x:nE}{gr:uz}{g:iz}{m:bM}{sc b:Int}
def Tc (x:nE)(i:Nat):Int:=(x.ps[i]?.map (·.e7)).getD 0
def aap {i:Nat}{q:Ax}(h:x.ps[i]? =some q):Tc x i=q.e7:=by unfold Tc;rw[h];rfl
def kF (g:iz)(x:nE)(j:Nat):List Nat:=(List.range j).filter λi=>Tc x i !=gi g.vs i
def zC (g:iz)(x:nE)(j:Nat):List Int:=(kF g x j).map λi:Nat=>(i:Int)
def al6 {j:Nat}:zC g x (j+1)=zC g x j++if Tc x j !=gi g.vs j then[(j:Int)]else[]:=by unfold zC kF;rw[List.range_succ,List.filter_append,List.map_append];grind
def aaq {Q:Option Addr->Nat->Nat->World->Prop}(s0:Sep F W w L)(k:EC w r gr.p x)(kg:nC w gr g)(I:yF g x)
  (h:∀da dn dc w',Sep F W w' (ak da dn dc 3 1 (flat one (zC g x x.ps.length))::L)->Fr No w w'->Q da dn dc w'):y6 (sZ r.p) w Q:=by
 apply Qy;have k:=k.fr (w':=w.drew) Fr.refl;have kg:=kg.fr (w':=w.drew) Fr.refl;have s0:=ay s0;have hc:=(gQ kg.ok.may.w kg.ok.may.h).2;have IU:=I.len;refine kT (ah (aJ (k.cell 2 _ rfl) (ah (dH (k.cell 0 _ rfl) ?_))));refine ri kg ⟨k.cell 2 _ rfl,?_⟩;by_cases yg:x.clean=g.ep
 ·rw[d_ yg,cond_true];refine h none 0 0 w.drew ?_ Fr.refl;have e:zC g x x.ps.length=[]:=by unfold zC kF;rw[List.map_eq_nil_iff,List.filter_eq_nil_iff];intro i hi;have hi:=List.mem_range.1 hi;have hq:=List.getElem?_eq_getElem hi;rw[aap hq,I.all yg i _ hq,bne_self_eq_false];decide
  rw[e];exact bC s0 3 1
 rw[cN yg,cond_false];refine ah (cS (k.cell 1 _ rfl) ?_);have hn:=k.row.len;have loop:∀(j i:Nat) (oa:Option Addr) (on oc:Nat) (w1:World),i+j=r.n->on<=i->Sep No w w1 [ak oa on oc 3 1 (flat one (zC g x i))]->nI Q (j+1) (sZ r.p) oa on oc r.n i w1:=by
  intro j;induction j with
  |zero=>
   intro i oa on oc w1 hi ho s;show qI Q (nI Q 0) _ _ _ _ _ _ _;rw[qI,bu];obtain rfl:i=x.ps.length:=by omega
   exact h oa on oc w1 (dz s0 s (i:=0) rfl) (aq s)
  |succ j ih=>
   intro i oa on oc w1 hi ho s;show qI Q (nI Q (j+1)) _ _ _ _ _ _ _;rw[qI,bK,aH];have s:=ay s;have k1:=k.fr (aq s);have kg1:=kg.fr (aq s);refine ah (cS (k1.cell 1 _ rfl) ?_);refine k1.row.El rfl (by omega) λp q hq yg=>?_;have hc0:=yg 0 _ rfl;refine aJ hc0 (ah (dH (by have:=k1.cell 0 _ rfl;rw[add_zero]at this;exact this) ?_));refine rU kg1 ⟨hc0,k1.cell 1 _ rfl,?_⟩;have hv:zz g i=gi g.vs i:=by have:=kg.ok.len;unfold zz;grind
   rw[hv,<-aap hq];have hds:=al6 (g:=g) (x:=x) (j:=i);cases hb:Tc x i !=gi g.vs i with
   |true=>
    refine LQ s (by omega) λoa oc w1 s=>?_;grind
   |false=>
    grind
 exact⟨r.n+1,loop r.n 0 none 0 0 w.drew (by omega) (by omega) (bC aX 3 1)⟩
def WrP {a:Option Addr}{n c i:Nat}{es:List Ax}{idx:Int}{k:Nat}{q:Ax}{K:World->Prop}(s:Sep F W w L)(hi:L[i]? =some (ak a n c 319 3 (flat KM es)))(hk:idx=k)(hn:k<es.length)(h:∀w',Sep F W w' (L.set i (ak a n c 319 3 (flat KM (es.set k q))))->K w'):
  aK idx n (wA a λp=>St ((p.add (idx.toNat*3)).add 0) (ae q.e7) w λw=>St ((p.add (idx.toNat*3)).add 1) (.slice q.na q.nn q.nc) w λw=>St ((p.add (idx.toNat*3)).add 2) (.slice q.da q.dn q.dc) w λw=>K w):=by
 have hl:=(aN s hi Cz (by decide)).len;subst hk;have hg:=List.getElem?_eq_getElem hn;generalize es[k]=e0 at hg;refine CL s hi rfl (by omega) λg o ha=>?_;subst ha;have ad:∀j,(((⟨g,o,none⟩:Addr).add ((k:Int).toNat*3)).add j)=⟨g,o+(k*3+j),none⟩:=λj=>by rw[add_add,cq,Int.toNat_natCast]
 have IX:=(List.getElem?_eq_some_iff.1 hi).1;refine dU (x':=⟨q.e7,e0.na,e0.nn,e0.nc,e0.da,e0.dn,e0.dc,e0.nodes,e0.JY⟩) Cz s hi hg (ad 0) (by decide) rfl rfl λw s=>?_;refine dU (x:=⟨q.e7,e0.na,e0.nn,e0.nc,e0.da,e0.dn,e0.dc,e0.nodes,e0.JY⟩) (x':=⟨q.e7,q.na,q.nn,q.nc,e0.da,e0.dn,e0.dc,e0.nodes,e0.JY⟩) Cz s (by rw[List.getElem?_set_self IX]) (by grind) (ad 1) (by decide) rfl rfl λw s=>?_;rw[List.set_set,List.set_set]at s;refine dU (x:=⟨q.e7,q.na,q.nn,q.nc,e0.da,e0.dn,e0.dc,e0.nodes,e0.JY⟩) (x':=q) Cz s (by rw[List.getElem?_set_self IX]) (by grind) (ad 2) (by decide) rfl rfl λw s=>?_;simp_all
def aej:Nat->Int->Int
 |0,c=>c
 |k+1,c=>aej k (Ta.sat c 1)
def WG {Q:Int->World->Prop}(s:Sep F W w (nW gr g::uA r gr.p x::L))(I:yF g x)
  (h:∀(x':nE) w',yF g x'->NY g x'->x'.clean=g.ep->x'.fV=aej (kF g x x.ps.length).length x.fV->Sep F W w' (nW gr g::uA r gr.p x'::L)->Q ((kF g x x.ps.length).length:Int) w'):wC (sZ r.p) w Q:=by
 apply MX;apply kT;have kg:=oS s;have hgl:=kg.ok.len;have Wx:=(gQ kg.ok.may.w kg.ok.may.h).2;have IU:=I.len;refine aaq s (WC (ai s)) kg I λda dn dc w1 s _=>?_;have hD:=(aN s (i:=0) rfl cv (by decide)).len;have hds:(kF g x x.ps.length).length=dn:=by rw[<-hD];unfold zC;rw[List.length_map]
 have hdi:∀i,i<dn->gi (zC g x x.ps.length) i=((kF g x x.ps.length).getD i 0:Nat):=λi hi=>by unfold zC;show List.getD _ _ _=_;rw[List.getD_eq_getElem?_getD,List.getElem?_map,List.getD_eq_getElem?_getD,List.getElem?_eq_getElem (by omega)];rfl
 have hdm:∀i,i<dn->(kF g x x.ps.length).getD i 0<x.ps.length:=λi hi=>by
  have:(kF g x x.ps.length).getD i 0∈kF g x x.ps.length:=by rw[List.getD_eq_getElem?_getD,List.getElem?_eq_getElem (by omega)];exact List.getElem_mem _
  exact List.mem_range.1 (List.mem_filter.1 this).1
 have hdn:dn<=x.ps.length:=by rw[<-hds];have:=List.length_filter_le (λi=>Tc x i !=gi g.vs i) (List.range x.ps.length);rw[List.length_range]at this;exact this
 have loop:∀(j i:Nat) (ps:List Ax) (c:Int) (w1:World),i+j=dn->ps.length=x.ps.length->Ta.U c->aej j c=aej dn x.fV->
   (∀k q,ps[k]? =some q->(k∈(kF g x x.ps.length).take i->q.e7=gi g.vs k/\q.nodes=aW g.m k/\q.JY=jI g.m k)/\(k∉(kF g x x.ps.length).take i->x.ps[k]? =some q))->
   Sep F W w1 (ak da dn dc 3 1 (flat one (zC g x x.ps.length))::nW gr g::ax r.p 236 (acj r gr.p ⟨ps,x.clean,c⟩)::ak r.a r.n r.c 319 3 (flat KM ps)::(ps.map aci++L))->
   lY Q (j+1) (sZ r.p) da dn dc da dn dc dn i w1:=by
  intro j;induction j with
  |zero=>
   intro i ps c w1 hi hps hu hc hk s;show oA Q (lY Q 0) _ _ _ _ _ _ _ _ _ _;rw[oA,bu];have BO:=(aN s (i:=3) rfl Cz (by decide)).len;have kg:=oS (ai s);refine ah (lP s 2 rfl ?_);apply ri kg;refine ah (sT s 2 rfl λw1 s=>?_);have hfull:(kF g x x.ps.length).take i=kF g x x.ps.length:=List.take_of_length_le (by omega);rw[hfull]at hk;have fresh:∀k q,ps[k]? =some q->q.e7=gi g.vs k/\q.nodes=aW g.m k/\q.JY=jI g.m k:=λk q hq=>by
    by_cases hm:k∈kF g x x.ps.length
    ·exact(hk k q hq).1 hm
    ·have K3:=(hk k q hq).2 hm;have hkl:=(List.getElem?_eq_some_iff.1 K3).1;have hv:q.e7=gi g.vs k:=by refine Classical.byContradiction λhne=>hm (List.mem_filter.2 ⟨List.mem_range.2 hkl,?_⟩);rw[aap K3,bne_iff_ne];exact hne
     exact⟨hv,I.ok k q K3 hv⟩
   have hlen:∀k q,ps[k]? =some q->k<g.vs.length:=λk q hq=>by have:=(List.getElem?_eq_some_iff.1 hq).1;omega
   have I':yF g ⟨ps,g.ep,c⟩:=⟨by rw[hps];exact IU,⟨Int.le_refl _,λq hq=>by obtain⟨k,hk'⟩:=List.mem_iff_getElem?.1 hq;rw[(fresh k q hk').1];exact(kg.ok.vs _ (fA (hlen k q hk'))).2⟩,λ_ k q hq=>(fresh k q hq).1,λk q hq _=>(fresh k q hq).2,hu⟩
   have s:=ai s;have s:Sep F W w1 (nW gr g::(L9 r gr.p ⟨ps,g.ep,c⟩++L)):=s;have s:Sep F W w1 (nW gr g::uA r gr.p ⟨ps,g.ep,c⟩::L):=by have s1:=b_ s (L':=L9 r gr.p ⟨ps,g.ep,c⟩++nW gr g::L) List.perm_middle.symm;exact b_ (ack s1) (List.Perm.swap _ _ _)
   rw[<-hds];refine h ⟨ps,g.ep,c⟩ w1 I' (λk q hq=>(fresh k q hq).1) rfl ?_ s;rw[hds,<-hc];rfl
  |succ j ih=>
   intro i ps c w1 hi hps hu hc hk s;show oA Q (lY Q (j+1)) _ _ _ _ _ _ _ _ _ _;rw[oA,bK,aH];apply(aN s (i:=0) rfl cv (by decide)).qD rfl (by omega);rw[hdi i (by omega)];have hdk:=hdm i (by omega);have ak3:(kF g x x.ps.length).take (i+1)=(kF g x x.ps.length).take i++[(kF g x x.ps.length).getD i 0]:=by rw[List.take_add_one,List.getD_eq_getElem?_getD,List.getElem?_eq_getElem (by omega)];rfl
   generalize hdv:(kF g x x.ps.length).getD i 0=d at hdk ak3⊢;have s:=ay s;refine ah (lS s 2 rfl ?_);have kg:=oS (ai s);have vZ:dW g.m.w g.m.h d:=⟨⟨kg.ok.may.w,kg.ok.may.h⟩,by omega,by omega⟩;refine aco s (ld s (i:=2) rfl) kg vZ λna nn nc L_ dn' Ma w1 s _=>?_;refine⟨ck s 4 rfl,?_⟩;have hv:zz g d=gi g.vs d:=by rw[zz,AH,Int.toNat_natCast]
   rw[hv];refine WrP (q:=⟨gi g.vs d,na,nn,nc,L_,dn',Ma,aW g.m d,jI g.m d⟩) s (i:=5) rfl rfl (by omega) λw1 s=>?_;simp[List.cons_append,List.nil_append,List.set_cons_zero,List.set_cons_succ]at s;refine ah (lI s 4 rfl ?_);apply Ta.By hu (by unfold Ta.U;omega);refine ah (sT s 4 rfl λw1 s=>?_);refine ih (i+1) (ps.set d ⟨gi g.vs d,na,nn,nc,L_,dn',Ma,aW g.m d,jI g.m d⟩) (Ta.sat c 1) w1 (by omega) (by rw[List.length_set];exact hps) (Ta.GL hu (by unfold Ta.U;omega)) hc ?_ ?_
   ·intro k q hq;rw[ak3];rw[List.getElem?_set]at hq;by_cases hkd:d=k
    ·subst hkd;rw[if_pos rfl,AH]at hq;cases hq;exact⟨λ_=>⟨rfl,rfl,rfl⟩,λhn=>(hn (by simp)).elim⟩
    ·rw[if_neg hkd]at hq;refine⟨λhm=>(hk k q hq).1 ?_,λhn=>(hk k q hq).2 λhm=>hn (by simp[hm])⟩;rcases List.mem_append.1 hm with hm|hm
     ·exact hm
     ·rw[List.mem_singleton]at hm;exact(hkd hm.symm).elim
   ·have s1:=dy (Ps:=[ak na nn nc 3 1 (flat one (aW g.m d)),ak L_ dn' Ma 21 1 (flat o6 (jI g.m d))]) s trivial;have s2:=S_ (i:=4+d) s1;rw[show 4+d=d+1+1+1+1 by omega]at s2;simp[List.set_cons_succ]at s2;rw[List.set_append_left _ _ (by rw[List.length_map];omega)]at s2;rw[List.map_set];exact s2
 have s0:=afz (b_ s (L':=uA r gr.p x::ak da dn dc 3 1 (flat one (zC g x x.ps.length))::nW gr g::L) (List.perm_middle (l₁:=[_,_])));have s1:=b_ s0 (L':=[ak da dn dc 3 1 (flat one (zC g x x.ps.length)),nW gr g]++(L9 r gr.p x++L)) (List.perm_append_comm_assoc _ [_,_] _);exact⟨dn+1,loop dn 0 x.ps x.fV w1 (by omega) rfl I.u rfl (λk q hq=>⟨λhm=>by simp at hm,λ_=>hq⟩) s1⟩
def Mb:Ax:=⟨0,none,0,0,none,0,0,[],[]⟩
def atm (n:Nat)(s:Sep F W w L):Sep F W w ((List.replicate n Mb).map aci++L):=by
 induction n with
 |zero=>exact s
 |succ n ih=>
  have s1:=bC (bC ih 21 1) 3 1;exact dy s1 trivial
def aek {Q:Option Addr->World->Prop}(s0:Sep F W w L)(kg:nC w gr g)
  (h:∀r w',Sep F W w' (uA r gr.p ⟨List.replicate (eV g.m.w g.m.h).toNat Mb,0,0⟩::L)->Fr No w w'->Q (sZ r.p) w'):HP (sZ gr.p) w Q:=by
 apply adK;apply kT;refine jo (aX (F:=No)) kg λw1 s _=>?_;apply qQ;have hm:iM g.m.w g.m.h:=⟨kg.ok.may.w,kg.ok.may.h⟩;have hc:=(gQ kg.ok.may.w kg.ok.may.h);unfold Z6 ad1;rw[if_pos hm,if_pos hm,wrap_i64 (by show _<=eV _ _;omega) (by show eV _ _<_;omega)];refine xK (x0:=Mb) (bytes:=56) (cn:=(eV g.m.w g.m.h).toNat) dQ s rfl rfl rfl rfl rfl rfl (by decide) Cz rfl (λu hu=>aoA _ u hu) (by show eV _ _=_;omega) (by show eV _ _=_;omega) (Nat.le_refl _) (by omega) (by simp[maxLen];omega) λab w1 s=>?_;refine aM s λmb w1 s=>?_;have s1:Sep No w w1 (L9 ⟨mb,sZ ab,(eV g.m.w g.m.h).toNat,(eV g.m.w g.m.h).toNat⟩ gr.p ⟨List.replicate (eV g.m.w g.m.h).toNat Mb,0,0⟩++[]):=by have s2:=atm (eV g.m.w g.m.h).toNat s;have s3:=b_ s2 (List.perm_append_comm);rw[List.append_nil];exact s3
 have s2:=ack s1;exact h ⟨mb,sZ ab,(eV g.m.w g.m.h).toNat,(eV g.m.w g.m.h).toNat⟩ w1 (dz s0 s2 (i:=0) rfl) (aq s2)
end
end Go.Proofs.YtmegplnmiepfbaaGreatDoor.S
namespace Go.Proofs.YtmegplnmiepfbaaGreatDoor.S.Lr
open Go.Sx
structure kL where
 a:Int
 b:Int
 nw:Int
 od:Int
def N2 (ss:List kL)(i:Nat):Int:=(ss[i]?.map (·.nw)).getD 0
def N3 (ss:List kL)(i:Nat):Int:=(ss[i]?.map (·.od)).getD 0
def Ji (xs:List Nat)(n:Int):Int:=match xs with|[]=>n|x::_=>x
def CA (xs:List Nat)(p:Int):Int:=match xs with|[]=>p|x::xs=>CA xs x
def xG (ss:List kL)(p:Int)(xs:List Nat)(n:Int):Prop:=match xs with
 |[]=>True
 |x::xs=>N2 ss x=p/\N3 ss x=Ji xs n/\xG ss x xs n
def ael (xs ys:List Nat)(n:Int):Ji (xs++ys) n=Ji xs (Ji ys n):=by cases xs<;>rfl
def aem (xs ys:List Nat)(p:Int):CA (xs++ys) p=CA ys (CA xs p):=by
 induction xs generalizing p with
 |nil=>rfl
 |cons x xs ih=>exact ih x
def aen {ss:List kL}{p n:Int}{xs ys:List Nat}:xG ss p (xs++ys) n↔xG ss p xs (Ji ys n)/\xG ss (CA xs p) ys n:=by
 induction xs generalizing p with
 |nil=>simp[xG,CA]
 |cons x xs ih=>
  simp[List.cons_append,xG,ih,ael,CA];grind
def Ih {ss ss':List kL}{p n:Int}{xs:List Nat}(h:∀x∈xs,N2 ss' x=N2 ss x/\N3 ss' x=N3 ss x)(s:xG ss p xs n):xG ss' p xs n:=by
 induction xs generalizing p with
 |nil=>trivial
 |cons x xs ih=>
  obtain⟨h1,h2,h3⟩:=s;obtain⟨e1,e2⟩:=h x (by simp);exact⟨e1.trans h1,e2.trans h2,ih (λy hy=>h y (by simp[hy])) h3⟩
def uB (ss:List kL)(i:Nat)(v:Int):List kL:=ss.modify i λs=>{s with nw:=v}
def yG (ss:List kL)(i:Nat)(v:Int):List kL:=ss.modify i λs=>{s with od:=v}
def Jj {ss:List kL}{i j:Nat}{v:Int}(h:i<ss.length):N2 (uB ss i v) j=if j=i then v else N2 ss j:=by unfold N2 uB;grind
def N4 {ss:List kL}{i j:Nat}{v:Int}:N3 (uB ss i v) j=N3 ss j:=by unfold N3 uB;grind
def N5 {ss:List kL}{i j:Nat}{v:Int}(h:i<ss.length):N3 (yG ss i v) j=if j=i then v else N3 ss j:=by unfold N3 yG;grind
def N6 {ss:List kL}{i j:Nat}{v:Int}:N2 (yG ss i v) j=N2 ss j:=by unfold N2 yG;grind
def aoG {ss:List kL}{p n v:Int}{xs:List Nat}{y:Nat}(hy:y<ss.length)(hnd:(xs++[y]).Nodup)(s:xG ss p (xs++[y]) n):xG (yG ss y v) p (xs++[y]) v:=by rw[aen]at s⊢;obtain⟨s1,h1,h2,_⟩:=s;rw[List.nodup_append]at hnd;refine⟨Ih (λx hx=>?_) s1,N6.trans h1,by rw[N5 hy,if_pos rfl];rfl,trivial⟩;exact⟨N6,by rw[N5 hy,if_neg (hnd.2.2 x hx y (by simp))]⟩
def afB {ss:List kL}{p n v:Int}{xs:List Nat}{y:Nat}(hy:y<ss.length)(hnd:(y::xs).Nodup)(s:xG ss p (y::xs) n):xG (uB ss y v) v (y::xs) n:=by obtain⟨h1,h2,h3⟩:=s;rw[List.nodup_cons]at hnd;refine⟨by rw[Jj hy,if_pos rfl],N4.trans h2,Ih (λx hx=>⟨?_,N4⟩) h3⟩;rw[Jj hy,if_neg (λe:x=y=>hnd.1 (by grind))]
def Xx {ss:List kL}{p n v:Int}{xs:List Nat}{y:Nat}(hy:y<ss.length)(hx:y∉xs)(s:xG ss p xs n):xG (yG ss y v) p xs n/\xG (uB ss y v) p xs n:=
 ⟨Ih (λx h=>⟨N6,by rw[N5 hy,if_neg (λe:x=y=>hx (by rw[<-e];exact h))]⟩) s,Ih (λx h=>⟨by rw[Jj hy,if_neg (λe:x=y=>hx (by rw[<-e];exact h))],N4⟩) s⟩
def aar (xs:List Nat)(y:Nat)(p:Int):CA (xs++[y]) p=y:=by rw[aem];rfl
abbrev KS:=List ((Int×Int)×Nat)
def Xy (l:KS)(key:Int×Int):Int:=match l.find? (λp=>decide (p.1=key))with|some p=>p.2|none=>-1
def kM (k:Int)(l:KS)(key:Int×Int):(Int×Bool×Bool)×KS:=match l.find? (λp=>decide (p.1=key))with
 |some p=>((p.2,true,false),(key,p.2)::l.filter (λq=>!decide (q.1=key)))
 |none=>if(l.length:Int)<k then((l.length,false,false),(key,l.length)::l)else match l.getLast? with
  |some p=>((p.2,false,true),(key,p.2)::l.dropLast)
  |none=>((-1,false,true),l)
structure Good (k:Int) (l:KS):Prop where
 room:(l.length:Int)<=k
 nd:(l.map (·.2)).Nodup
 lt:∀p∈l,p.2<l.length
 FN:(l.map (·.1)).Nodup
def Mc {k:Int}(h:0<=k):Good k []:=⟨h,.nil,by simp,.nil⟩
def Td {l:KS}(h:(l.map (·.1)).Nodup){p q:(Int×Int)×Nat}(hp:p∈l)(hq:q∈l)(e:p.1=q.1):p=q:=by
 induction l with
 |nil=>cases hp
 |cons x l ih=>
  grind
def N7 {l:KS}{key:Int×Int}{p:(Int×Int)×Nat}(h:l.find? (λp=>decide (p.1=key))=some p):p.1=key/\p∈l:=by grind
def afC {l:KS}{key:Int×Int}(h:l.find? (λp=>decide (p.1=key))=none):∀p∈l,p.1≠key:=λp hp e=>by grind
def YV {l:KS}(hnd:(l.map (·.1)).Nodup){p:(Int×Int)×Nat}(hp:p∈l):l.find? (λq=>decide (q.1=p.1))=some p:=by
 cases h:l.find? (λq=>decide (q.1=p.1))with
 |none=>grind
 |some q=>
  obtain⟨h1,h2⟩:=N7 h;rw[Td hnd h2 hp h1]
def aas {l:KS}(hnd:(l.map (·.1)).Nodup){p:(Int×Int)×Nat}(hp:p∈l):∃pre post,l=pre++p::post/\l.filter (λq=>!decide (q.1=p.1))=pre++post:=by
 obtain⟨pre,post,rfl⟩:=List.append_of_mem hp;refine⟨pre,post,rfl,?_⟩;rw[List.map_append,List.map_cons,List.nodup_append,List.nodup_cons]at hnd;rw[List.filter_append,List.filter_cons_of_neg (by simp),List.filter_eq_self.2,List.filter_eq_self.2]
 ·grind
 ·intro q hq;have:q.1≠p.1:=λe=>hnd.2.2 q.1 (List.mem_map.2 ⟨q,hq,rfl⟩) p.1 (by simp) e;simp[this]
def Xz {l:KS}(hnd:(l.map (·.1)).Nodup){p:(Int×Int)×Nat}(hp:p∈l)(k:Int×Int)(n:Nat):((k,n)::l.filter (λq=>!decide (q.1=p.1))).length=l.length:=by obtain⟨pre,post,e1,e2⟩:=aas hnd hp;grind
def aat {k:Int}{l:KS}{key:Int×Int}(hk:1<=k)(h:Good k l):Good k (kM k l key).2:=by
 unfold kM;cases hf:l.find? (λp=>decide (p.1=key))with
 |some p=>
  obtain⟨rfl,hp⟩:=N7 hf;obtain⟨pre,post,e1,e2⟩:=aas h.FN hp;rw[e2];have Pb:List.Perm ((p.1,p.2)::(pre++post)) l:=by grind
  have hlen:=Pb.length_eq;exact⟨by rw[hlen];exact h.room,(Pb.map (·.2)).nodup_iff.2 h.nd,λq hq=>by rw[hlen];exact h.lt q (Pb.mem_iff.1 hq),(Pb.map (·.1)).nodup_iff.2 h.FN⟩
 |none=>
  have hn:=afC hf;by_cases hroom:(l.length:Int)<k
  ·rw[if_pos hroom];refine⟨by grind,?_,λq hq=>?_,?_⟩
   ·simp only[List.map_cons,List.nodup_cons];refine⟨λhm=>?_,h.nd⟩;obtain⟨q,hq,e⟩:=List.mem_map.1 hm;have:=h.lt q hq;omega
   ·simp[List.length_cons];rcases List.mem_cons.1 hq with rfl|hq
    ·simp
    ·have:=h.lt q hq;omega
   ·simp[List.map_cons,List.nodup_cons];refine⟨λhm=>?_,h.FN⟩;grind
  ·rw[if_neg hroom];cases hl:l.getLast? with
   |none=>exact h
   |some p=>
    obtain⟨ys,rfl⟩:=List.getLast?_eq_some_iff.1 hl;rw[List.dropLast_concat];have e1:(ys++[p]).length=((key,p.2)::ys).length:=by simp
    have Pb:List.Perm (((key,p.2)::ys).map (·.2)) ((ys++[p]).map (·.2)):=by rw[List.map_cons,List.map_append];exact(List.perm_append_singleton _ _).symm
    refine⟨by rw[<-e1];exact h.room,Pb.nodup_iff.2 h.nd,λq hq=>?_,?_⟩
    ·rw[<-e1];rcases List.mem_cons.1 hq with rfl|hq
     ·exact h.lt p (by simp)
     ·exact h.lt q (by simp[hq])
    ·simp only[List.map_cons,List.nodup_cons];have:=h.FN;rw[List.map_append,List.nodup_append]at this;refine⟨λhm=>?_,this.1⟩;obtain⟨q,hq,e⟩:=List.mem_map.1 hm;exact hn q (by simp[hq]) e
def dQ:wS P T:=EJ P rows HN
def awI:zc T 253=[ae 0,ae 0]:=rfl
attribute [local irreducible] af cQ bG bp aA cE cw St Bx Al App cV cO cM bZ aQ bI au cj ax ak bg mapA
def uC (s:kL):List Value:=[ae s.a,ae s.b,ae s.nw,ae s.od]
def lj (s:kL):(uC s).length=4:=rfl
def aoH (v:kL)(u:Value)(h:u∈uC v):u.oneCell'=true:=by simp[uC,List.mem_cons,List.not_mem_nil,or_false]at h;rcases h with rfl|rfl|rfl|rfl<;>rfl
def aiN {ss:List kL}{i:Nat}{x:kL}{v:Int}(h:ss[i]? =some x):ss.set i {x with nw:=v}=uB ss i v:=by apply List.ext_getElem?;intro j;unfold uB;grind
def aoI {ss:List kL}{i:Nat}{x:kL}{v:Int}(h:ss[i]? =some x):ss.set i {x with od:=v}=yG ss i v:=by apply List.ext_getElem?;intro j;unfold yG;grind
def BA (ss ss':List kL):Prop:=ss'.length=ss.length/\∀i:Nat,(ss'[i]?.map λs=>(s.a,s.b))=ss[i]?.map λs=>(s.a,s.b)
def BA.refl {ss:List kL}:BA ss ss:=⟨rfl,λ_=>rfl⟩
def BA.trans {a b c:List kL}(h:BA a b)(k:BA b c):BA a c:=⟨k.1.trans h.1,λi=>(k.2 i).trans (h.2 i)⟩
def IJ {ss:List kL}{i:Nat}{v:Int}:BA ss (uB ss i v):=by refine⟨by simp[uB],λj=>?_⟩;unfold uB;grind
def YW {ss:List kL}{i:Nat}{v:Int}:BA ss (yG ss i v):=by refine⟨by simp[yG],λj=>?_⟩;unfold yG;grind
def Rq {ss:List kL}{i:Nat}(h:i<ss.length):∃s,ss[i]? =some s/\s.nw=N2 ss i/\s.od=N3 ss i:=by
 refine⟨ss[i],List.getElem?_eq_getElem h,?_,?_⟩
 ·simp[N2,h]
 ·simp[N3,h]
section
variable {F:Nat->Prop}{W w:World}{L:List As}{p:Nat}{sa:Option Addr}{sn sc:Nat}{ss:List kL}{kv mv:Value}{nw od:Int}{Q:World->Prop}
def afD {sb:Nat}{x a b:Int}{pre post:List Nat}{y:Nat}(hs:∀i∈pre++y::post,i<sn)(hnd:(pre++y::post).Nodup)(h1:xG ss (-1) pre (Ji post (-1)))(h2:xG ss y post (-1))
  (Md:od=CA (pre++y::post) (-1))
  (s:Sep F W w (ax sb 334 [ae a,ae b,ae (CA pre (-1)),ae (Ji post (-1))]::ax p 182 [kv,.slice sa sn sc,mv,ae nw,ae od]::ak sa sn sc 334 4 (flat uC ss)::L))
  (h:∀ss' w',BA ss ss'->xG ss' (-1) (pre++post) (-1)->Sep F W w' (ax p 182 [kv,.slice sa sn sc,mv,ae nw,ae (CA (pre++post) (-1))]::ak sa sn sc 334 4 (flat uC ss')::L)->Q w'):
  xp Q (sZ p) (aZ sb) w:=by
 have hl:=ry s (i:=2) rfl;rw[iU lj]at hl;rw[aem]at Md;cases post with
 |nil=>
  apply lI s 0 rfl;apply lI s 0 rfl;apply ah;refine av s (i:=1) rfl rfl rfl λw s=>?_;refine h ss _ BA.refl ?_ ?_
  ·rw[List.append_nil];exact h1
  ·rw[List.append_nil];exact ai s
 |cons z post=>
  have hz:=hs z (by simp);apply lI s 0 rfl;rw[show((Ji (z::post) (-1):Int)==-1)=false by rw[beq_eq_false_iff_ne];show(z:Int)≠-1;omega,cond_false];apply ah;have s:=ay s;apply lS s 1 rfl;apply lI s 0 rfl;apply lI s 0 rfl;obtain⟨x,hx,Nv,K9⟩:=Rq (ss:=ss) (i:=z) (by omega);refine CL s (i:=2) rfl rfl hz λg o e=>?_;subst e;refine dU (i:=2) (x':={x with nw:=CA pre (-1)}) lj s rfl hx (dZ _ _ _ _ _) (by decide) rfl rfl λw s=>?_;rw[aiN hx]at s;refine h (uB ss z (CA pre (-1))) _ IJ ?_ ?_
  ·rw[aen];have hn2:=(List.nodup_append.1 hnd).2.1;rw[List.nodup_cons]at hn2;refine⟨(Xx (by omega) (λhm=>?_) h1).2,afB (by omega) hn2.2 h2⟩;grind
  ·rw[aem];have:od=CA (z::post) (CA pre (-1)):=Md;rw[<-this];exact ai s
def WH {pre post:List Nat}{y:Nat}(hs:∀i∈pre++y::post,i<sn)(hnd:(pre++y::post).Nodup)(JZ:xG ss (-1) (pre++y::post) (-1))(TU:nw=Ji (pre++y::post) (-1))(Md:od=CA (pre++y::post) (-1))
  (s:Sep F W w (ax p 182 [kv,.slice sa sn sc,mv,ae nw,ae od]::ak sa sn sc 334 4 (flat uC ss)::L))
  (h:∀ss' w',BA ss ss'->xG ss' (-1) (pre++post) (-1)->Sep F W w' (ax p 182 [kv,.slice sa sn sc,mv,ae (Ji (pre++post) (-1)),ae (CA (pre++post) (-1))]::ak sa sn sc 334 4 (flat uC ss')::L)->Q w'):
  tZ (sZ p) y w Q:=by
 apply SJ;have hl:=ry s (i:=1) rfl;rw[iU lj]at hl;have hy:=hs y (by simp);obtain⟨x,hx,Nv,K9⟩:=Rq (ss:=ss) (i:=y) (by omega);rw[aen]at JZ;obtain⟨h1,h2,h3,h4⟩:=JZ;have h1:=h1;rw[h2]at Nv;rw[h3]at K9;apply ah;apply lS s 0 rfl;refine CL s (i:=1) rfl rfl hy λg o e=>?_;subst e;apply eG (i:=1) lj s rfl hx (dZ _ _ _ _ _) rfl;apply eG (i:=1) lj s rfl hx (dZ _ _ _ _ _) rfl;apply eG (i:=1) lj s rfl hx (dZ _ _ _ _ _) rfl;apply eG (i:=1) lj s rfl hx (dZ _ _ _ _ _) rfl;rw[Nv,K9];refine aT s λsb w s=>?_;refine sT s 0 rfl λw s=>?_;refine sT s 0 rfl λw s=>?_;refine sT s 0 rfl λw s=>?_;refine av s (i:=0) rfl rfl rfl λw s=>?_;apply lI s 0 rfl;rcases List.eq_nil_or_concat pre with rfl|⟨pre',u,rfl⟩
 ·apply lI s 0 rfl;apply ah;refine av s (i:=1) rfl rfl rfl λw s=>?_;exact afD (x:=0) hs hnd trivial h4 Md s λss' w' k1 k2 s=>h ss' w' k1 k2 s
 ·simp only[List.concat_eq_append]at*;have hu:=hs u (by simp);rw[aar]at s⊢;rw[show((u:Int)==-1)=false by rw[beq_eq_false_iff_ne];omega,cond_false];apply ah;have s:=ay s;apply lS s 1 rfl;apply lI s 0 rfl;apply lI s 0 rfl;obtain⟨z,hz,hz1,hz2⟩:=Rq (ss:=ss) (i:=u) (by omega);refine CL s (i:=2) rfl rfl hu λg' o' e=>?_;cases e;refine dU (i:=2) (x':={z with od:=Ji post (-1)}) lj s rfl hz (dZ _ _ _ _ _) (by decide) rfl rfl λw s=>?_;rw[aoI hz]at s;have ayS:=(List.nodup_append.1 hnd).1;have ayT:=(List.nodup_append.1 hnd).2;refine afD (x:=0) hs hnd (aoG (by omega) ayS h1) ((Xx (by omega) (λhm=>ayT.2 u (by simp) u (by simp[hm]) rfl) h4).1) Md (by rw[aar];exact s) λss' w' k1 k2 s=>h ss' w' (YW.trans k1) k2 ?_;have e:Ji (pre'++[u]++post) (-1)=nw:=by rw[TU,ael,ael (pre'++[u])];cases pre'<;>rfl
  rw[e];exact s
def ak4 {y:Nat}(s:Sep F W w (ax p 182 [kv,.slice sa sn sc,mv,ae nw,ae od]::ak sa sn sc 334 4 (flat uC ss)::L))
  (h:∀w',Sep F W w' (ax p 182 [kv,.slice sa sn sc,mv,ae y,ae od]::ak sa sn sc 334 4 (flat uC ss)::L)->Q w'):Ao Q (sZ p) y w:=by
 apply ah;refine sT s 0 rfl λw s=>?_;grind
def al7 {xs:List Nat}{y:Nat}(hy:y<sn)(hs:∀i∈xs,i<sn)(hnd:(y::xs).Nodup)(JZ:xG ss (-1) xs (-1))(TU:nw=Ji xs (-1))(Md:od=CA xs (-1))
  (s:Sep F W w (ax p 182 [kv,.slice sa sn sc,mv,ae nw,ae od]::ak sa sn sc 334 4 (flat uC ss)::L))
  (h:∀ss' w',BA ss ss'->xG ss' (-1) (y::xs) (-1)->Sep F W w' (ax p 182 [kv,.slice sa sn sc,mv,ae (Ji (y::xs) (-1)),ae (CA (y::xs) (-1))]::ak sa sn sc 334 4 (flat uC ss')::L)->Q w'):
  xe (sZ p) y w Q:=by
 apply V9;have hl:=ry s (i:=1) rfl;rw[iU lj]at hl;obtain⟨x,hx,Nv,K9⟩:=Rq (ss:=ss) (i:=y) (by omega);rw[List.nodup_cons]at hnd;have s:=ay s;apply ah;apply lS s 0 rfl;apply ah;apply lS s 0 rfl;apply ah;apply lI s 0 rfl;refine CL s (i:=1) rfl rfl hy λg o e=>?_;subst e;refine dU (i:=1) (x':={x with nw:=-1}) lj s rfl hx (dZ _ _ _ _ _) (by decide) rfl rfl λw s=>?_;refine⟨by omega,by omega,ah ?_⟩;have hx':(ss.set y {x with nw:=-1})[y]? =some {x with nw:=-1}:=List.getElem?_set_self (by omega);refine dU (i:=1) (x':={x with nw:=-1,od:=nw}) lj s rfl hx' (dZ _ _ _ _ _) (by decide) rfl rfl λw s=>?_;rw[aiN hx]at hx' s;rw[show({x with nw:=-1,od:=nw}:kL)={({x with nw:=-1}:kL)with od:=nw}from rfl,aoI hx']at s;have YQ:(uB ss y (-1)).length=ss.length:=IJ.1;have avi:xG (yG (uB ss y (-1)) y nw) (-1) xs (-1):=(Xx (by omega) hnd.1 (Xx (by omega) hnd.1 JZ).2).1;have n2:N2 (yG (uB ss y (-1)) y nw) y=-1:=by rw[N6,Jj (by omega),if_pos rfl]
 have o2:N3 (yG (uB ss y (-1)) y nw) y=nw:=by rw[N5 (by omega),if_pos rfl]
 have k2:BA ss (yG (uB ss y (-1)) y nw):=IJ.trans YW;generalize yG (uB ss y (-1)) y nw=ss2 at s avi n2 o2 k2;have hl3:=k2.1;apply ah;apply lI s 0 rfl;cases xs with
 |nil=>
  have e:nw=-1:=TU;subst e;rw[show((-1:Int)==-1)=true from rfl,cond_true];apply ah;refine av s (i:=0) rfl rfl rfl λw s=>?_;refine ak4 s λw s=>h _ _ k2 ⟨n2,o2,trivial⟩ s
 |cons z xs=>
  have e:nw=(z:Int):=TU;subst e;have hz:=hs z (by simp);rw[show((z:Int)==-1)=false by rw[beq_eq_false_iff_ne];omega,cond_false];have s:=ay s;apply ah;apply lS s 0 rfl;apply ah;apply lI s 0 rfl;obtain⟨u,hu,_,_⟩:=Rq (ss:=ss2) (i:=z) (by omega);refine⟨by omega,by omega,ah ?_⟩;refine dU (i:=1) (x':={u with nw:=(y:Int)}) lj s rfl hu (dZ _ _ _ _ _) (by decide) rfl rfl λw s=>?_;rw[aiN hu]at s;have hne:y≠z:=λe=>hnd.1 (by simp[e]);refine ak4 s λw s=>h (uB ss2 z (y:Int)) _ (k2.trans IJ) ⟨?_,?_,?_⟩ ?_
  ·rw[Jj (by omega),if_neg hne];exact n2
  ·rw[N4];exact o2
  ·exact afB (by omega) hnd.2 avi
  ·have e2:CA (y::z::xs) (-1)=od:=by rw[Md];rfl
   rw[e2];exact s
end
end Go.Proofs.YtmegplnmiepfbaaGreatDoor.S.Lr
namespace Go.Proofs.YtmegplnmiepfbaaGreatDoor.S.Lr
open Go.Sx
open Go.Maps (Keyed)
open Go.WideMaps (ArrKey keyOf_pair)
def aoJ:ArrKey P 253 3 2:=⟨by kernel_rfl,by kernel_rfl,by kernel_rfl,by kernel_rfl⟩
def kp:Keyed P 253:=Keyed.of_law aoJ.law
def aqS:P.underlying 180=some (.map 253 3):=by kernel_rfl
set_option maxRecDepth 100000 in
theorem asi (w:World):(zeroValue 3).run P w=.ok (ae 0) w:=rfl
def aqT:∃m,P.types.size=m+1:=⟨P.types.size-1,by have h:0<P.types.size:=of_decide_eq_true (by kernel_rfl);omega⟩
def YX (k:Int×Int):Prop:=(Lit.int .i64 k.1).wf=true/\(Lit.int .i64 k.2).wf=true
def aau (k:Int×Int):Value:=.agg #[ae k.1,ae k.2]
def Me {a b:Int×Int}(h:aau a=aau b):a=b:=by obtain⟨a1,a2⟩:=a;simp[aau]at h;rw[h.1,h.2]
def XA {k:Int×Int}(h:YX k):∃l,keyOf P 253 (aau k)=some l:=⟨_,keyOf_pair aoJ (by kernel_rfl) aqT h.1 h.2⟩
attribute [local irreducible] af cQ bG bp aA cE cw St Bx Al App cV cO cM bZ aQ bI au cj ax ak bg mapA
def TV (p:(Int×Int)×Nat):Value×Value:=(aau p.1,ae p.2)
structure aeo where
 sa:Option Addr
 sn:Nat
 sc:Nat
 mb:Nat
 ss:List kL
 m:List (Value×Value)
 nw:Int
 od:Int
structure al8 (k:Int) (l:KS) (r:aeo):Prop where
 hk:1<=k
 good:Good k l
 sn:r.sn=l.length
 nw:r.nw=Ji (l.map (·.2)) (-1)
 od:r.od=CA (l.map (·.2)) (-1)
 seg:xG r.ss (-1) (l.map (·.2)) (-1)
 key:∀p∈l,r.ss[p.2]?.map (λs=>(s.a,s.b))=some p.1
 perm:r.m.Perm (l.map TV)
 wf:∀p∈l,YX p.1
noncomputable def ag9 (p:Nat)(k:Int)(r:aeo):List As:=[ax p 182 [ae k,.slice r.sa r.sn r.sc,.map (some r.mb),ae r.nw,ae r.od],ak r.sa r.sn r.sc 334 4 (flat uC r.ss),mapA P 253 r.mb r.m]
noncomputable def Ii (p:Nat)(k:Int)(l:KS)(r:aeo):As:=bg (al8 k l r) (ag9 p k r)
section
variable {F:Nat->Prop}{W w:World}{L:List As}{p:Nat}{k:Int}{l:KS}{r:aeo}
def aiO (s:Sep F W w (Ii p k l r::L)):al8 k l r/\Sep F W w (ag9 p k r++L):=gP s
def afE (s:Sep F W w (ag9 p k r++L))(h:al8 k l r):Sep F W w (Ii p k l r::L):=dy s h
def YY {Q:World->Prop}{v1 v2 v3 v4:Value}(hk:1<=k)(s:Sep F W w (ax p 182 [ae k,v1,v2,v3,v4]::L))(h:∀r w',Sep F W w' (Ii p k [] r::L)->Q w'):vD (sZ p) w Q:=by apply Uv;refine ahL s P 253 180 λmb w s=>?_;apply ah;refine sT s 1 rfl λw s=>?_;apply ah;refine sT s 1 rfl λw s=>?_;apply ah;refine sT s 1 rfl λw s=>?_;apply ah;refine av s (i:=1) rfl rfl rfl λw s=>?_;have s:=b_ (bC s 334 4) (List.Perm.trans (List.Perm.cons _ (List.Perm.swap ..)) (List.Perm.trans (List.Perm.swap ..) (List.Perm.refl _)));exact h ⟨none,0,0,mb,[],[],-1,-1⟩ w (afE s ⟨hk,Mc (by omega),rfl,rfl,rfl,trivial,(λp hp=>by cases hp),List.Perm.nil,(λp hp=>by cases hp)⟩)
def aoK {Q:Option Addr->World->Prop}(s:Sep F W w L)(hno:k<1->Q none w)(h:1<=k->∀p r w',Sep F W w' (Ii p k [] r::L)->Q (sZ p) w'):JA k w Q:=by
 apply ago;by_cases hk:k<1
 ·grind
 ·rw[bu hk];refine aM s λp w s=>?_;exact YY (by omega) s λr w s=>h (by omega) p r w s
def look {K:Value->World->Prop}{key:Int×Int}(s:Sep F W w (ag9 p k r++L))(hI:al8 k l r)(hkey:YX key)(h0:l.find? (λp=>decide (p.1=key))=none->K (.tuple #[ae 0,.bool false]) w)
  (h1:∀q,l.find? (λp=>decide (p.1=key))=some q->K (.tuple #[ae q.2,.bool true]) w):aQ P (Instr.lookup 180 (.map (some r.mb)) (.agg #[ae key.1,ae key.2]) true) w K:=by
 refine afb kp aqS (asi w) s (i:=2) rfl (XA hkey) (λh=>?_) (λj v hj=>?_)
 ·refine h0 (List.find?_eq_none.2 λq hq=>?_);have:=h (TV q) (hI.perm.mem_iff.2 (List.mem_map.2 ⟨q,hq,rfl⟩));simp[decide_eq_true_eq];exact λe=>this (by rw[<-e];rfl)
 ·have hm:=hI.perm.mem_iff.1 (List.mem_of_getElem? hj);obtain⟨q,hq,e⟩:=List.mem_map.1 hm;have e1:=congrArg Prod.fst e;have e2:=congrArg Prod.snd e;have e1:=Me e1;subst e1 e2;exact h1 q (YV hI.good.FN hq)
def aqU (k:Int×Int):List Value:=[ae k.1,ae k.2]
end
end Go.Proofs.YtmegplnmiepfbaaGreatDoor.S.Lr
namespace Go.Proofs.YtmegplnmiepfbaaGreatDoor.S.Lr
open Go.Sx
open Go.Maps (Keyed)
attribute [local irreducible] af cQ bG bp aA cE cw St Bx Al App cV cO cM bZ aQ bI au cj ax ak bg mapA
def Te {ss ss':List kL}(h:BA ss ss'){l:KS}(hk:∀p∈l,ss[p.2]?.map (λs=>(s.a,s.b))=some p.1):∀p∈l,ss'[p.2]?.map (λs=>(s.a,s.b))=some p.1:=λp hp=>(h.2 p.2).trans (hk p hp)
def aqV {ss:List kL}{x:kL}{p n:Int}{xs:List Nat}(h:∀i∈xs,i<ss.length)(s:xG ss p xs n):xG (ss++[x]) p xs n:=by refine Ih (λi hi=>?_) s;have:=h i hi;simp[N2,N3,List.getElem?_append_left this]
def atn {ss:List kL}{i:Nat}{x:kL}{a b:Int}{p n:Int}{xs:List Nat}(hx:ss[i]? =some x)(s:xG ss p xs n):xG (ss.set i {x with a:=a,b:=b}) p xs n:=by refine Ih (λj hj=>?_) s;unfold N2 N3;grind
def ato {m:List (Value×Value)}{ys:KS}{q:(Int×Int)×Nat}{j:Nat}{v:Value}(hm:m.Perm ((ys++[q]).map TV))(hj:m[j]? =some (aau q.1,v))(hnd:((ys++[q]).map (·.1)).Nodup):(m.eraseIdx j).Perm (ys.map TV):=by
 have hmem:=hm.mem_iff.1 (List.mem_of_getElem? hj);obtain⟨q',K3,e⟩:=List.mem_map.1 hmem;have e1:=Me (congrArg Prod.fst e);have e2:=Td hnd K3 (by simp) e1;subst e2;obtain⟨hjl,hje⟩:=List.getElem?_eq_some_iff.1 hj;have h1:m.Perm (TV q'::m.eraseIdx j):=by
  rw[e,<-hje];have e3:m=m.take j++m[j]::m.drop (j+1):=by rw[List.getElem_cons_drop,List.take_append_drop]
  rw[List.eraseIdx_eq_take_drop_succ];exact(List.Perm.of_eq e3).trans List.perm_middle
 rw[List.map_append,List.map_singleton]at hm;exact List.Perm.cons_inv (h1.symm.trans (hm.trans (List.perm_append_singleton _ _)))
section
variable {F:Nat->Prop}{W w:World}{L:List As}{p:Nat}{k:Int}{l:KS}
def aep {Q:Int->Bool->Bool->World->Prop}{kb:Nat}{key:Int×Int}{slot:Nat}{had out:Bool}{rest:KS}{sa:Option Addr}{sn sc mb:Nat}{ss:List kL}{m:List (Value×Value)}{nw od:Int}
  (hk:1<=k)(hg:Good k ((key,slot)::rest))(LZ:sn=rest.length+1)(JZ:xG ss (-1) (rest.map (·.2)) (-1))(TU:nw=Ji (rest.map (·.2)) (-1))(Md:od=CA (rest.map (·.2)) (-1))
  (hkeys:∀q∈(key,slot)::rest,ss[q.2]?.map (λs=>(s.a,s.b))=some q.1)(hm:m.Perm (((key,slot)::rest).map TV)\/m.Perm (rest.map TV))(hwf:∀q∈(key,slot)::rest,YX q.1)
  (s:Sep F W w (ax kb 253 (aqU key)::ax p 182 [ae k,.slice sa sn sc,.map (some mb),ae nw,ae od]::ak sa sn sc 334 4 (flat uC ss)::mapA P 253 mb m::L))
  (h:∀r' w',Sep F W w' (Ii p k ((key,slot)::rest) r'::L)->Q slot had out w'):oe Q (sZ p) slot had out (aZ kb) w:=by
 have s:=ay s;apply ah;apply lM s 1 rfl;apply lI s 0 rfl;apply lI s 0 rfl;have hlen:((key,slot)::rest).length=sn:=by rw[LZ];rfl
 have fin:∀(m':List (Value×Value)) (w:World),m'.Perm (((key,slot)::rest).map TV)->Sep F W w (ax kb 253 (aqU key)::ax p 182 [ae k,.slice sa sn sc,.map (some mb),ae nw,ae od]::ak sa sn sc 334 4 (flat uC ss)::mapA P 253 mb m'::L)->
   xe (sZ p) slot w λayU=>Q slot had out ayU:=by
  intro m' w hm' s;have hnd:=hg.nd;refine al7 (by have:=hg.lt (key,slot) (by simp);omega) (λi hi=>?_) hnd JZ TU Md (ai s) λss' w hK hS s=>?_
  ·obtain⟨q,hq,rfl⟩:=List.mem_map.1 hi;have:=hg.lt q (by simp[hq]);omega
  ·exact h ⟨sa,sn,sc,mb,ss',m',_,_⟩ w (afE s ⟨hk,hg,hlen.symm,rfl,rfl,hS,Te hK hkeys,hm',hwf⟩)
 refine YH kp aqS s (i:=3) rfl (XA (hwf (key,slot) (by simp))) (λhabs w s=>?_) (λj v0 hj w s=>?_)
 ·rcases hm with hm|hm
  ·exact(habs (TV (key,slot)) (hm.mem_iff.2 (by simp)) rfl).elim
  ·refine fin _ w ?_ s;exact(List.perm_append_singleton _ _).trans (List.Perm.cons _ hm)
 ·rcases hm with hm|hm
  ·have hmem:=hm.mem_iff.1 (List.mem_of_getElem? hj);obtain⟨q,hq,e⟩:=List.mem_map.1 hmem;have e1:=Me (congrArg Prod.fst e);have e2:=Td hg.FN hq (q:=(key,slot)) (by simp) e1;subst e2;have e3:m.set j (.agg #[ae key.1,ae key.2],ae slot)=m:=by
    have:m[j]? =some (.agg #[ae key.1,ae key.2],ae slot):=by rw[hj,<-e];rfl
    exact rK this
   grind
  ·have hmem:=hm.mem_iff.1 (List.mem_of_getElem? hj);obtain⟨q,hq,e⟩:=List.mem_map.1 hmem;have e1:=Me (congrArg Prod.fst e);have:=hg.FN;simp only[List.map_cons,List.nodup_cons]at this;exact(this.1 (List.mem_map.2 ⟨q,hq,e1⟩)).elim
attribute [local irreducible] oe in
theorem aoL {r:aeo}{key:Int×Int}{Q:Int->Bool->Bool->World->Prop}(s:Sep F W w (Ii p k l r::L))(hkey:YX key)(N0:l.length<=1000000)
  (h:∀r' w',Sep F W w' (Ii p k (kM k l key).2 r'::L)->Q (kM k l key).1.1 (kM k l key).1.2.1 (kM k l key).1.2.2 w'):DC (sZ p) key.1 key.2 w Q:=by
 apply Yh;obtain⟨hI,s⟩:=aiO s;have uD:=aat (key:=key) hI.hk hI.good;have hwf':∀q∈(kM k l key).2,YX q.1:=by
  intro q hq;unfold kM at hq;cases hf:l.find? (λp=>decide (p.1=key))with
  |some q0=>
   rw[hf]at hq;rcases List.mem_cons.1 hq with rfl|hq
   ·exact hkey
   ·exact hI.wf q (List.mem_filter.1 hq).1
  |none=>
   rw[hf]at hq;simp only at hq;split at hq
   ·rcases List.mem_cons.1 hq with rfl|hq
    ·exact hkey
    ·exact hI.wf q hq
   ·split at hq
    ·rcases List.mem_cons.1 hq with rfl|hq
     ·exact hkey
     ·exact hI.wf q (List.dropLast_subset l hq)
    ·exact hI.wf q hq
 unfold kM at h uD hwf';have BO:=ry s (i:=1) rfl;rw[iU lj]at BO;have LZ:=hI.sn;have aeq:∀i∈l.map (·.2),i<r.sn:=λi hi=>by obtain⟨q,hq,rfl⟩:=List.mem_map.1 hi;have:=hI.good.lt q hq;omega
 refine aT s λkb w s=>?_;refine sT s 0 rfl λw s=>?_;refine av s (i:=0) rfl rfl rfl λw s=>?_;have s:=s;have s:=ay s;apply ah;apply lM s 1 rfl;apply lI s 0 rfl;apply lI s 0 rfl;have s':=b_ s (List.perm_middle).symm;refine look s' hI hkey (λhf=>?_) (λq hf=>?_)
 ·simp only[dT,dD,dI,dB,kN,cond_false,cond_true,if_pos,show Nat.beq (IS .i64) (IS .i64)=true from rfl];rw[hf]at h uD hwf';have s:=ay s;apply ah;apply lS s 1 rfl;apply ah;apply lI s 1 rfl;by_cases hroom:(l.length:Int)<k
  ·rw[if_pos hroom]at h uD hwf';rw[bK];apply ah;apply lS s 1 rfl;have s:=ay s;apply ah;apply lS s 1 rfl;apply lI s 0 rfl;apply lI s 0 rfl;refine aM s λzb w s=>?_;refine⟨ck s 2 rfl,?_⟩;have src:Src w (sZ zb) 1 4 (uC ⟨key.1,key.2,0,0⟩):=⟨rfl,aoH _,λj u hj=>by rw[cq,Nat.zero_add];exact cF s (i:=0) rfl rfl hj⟩;refine iq dQ s (i:=3) (bytes:=32) rfl rfl rfl rfl rfl rfl (by decide) rfl src (by simp[maxLen];omega) (by omega) (λe=>by cases e) λa1 c1 w s=>?_;have e:flat uC r.ss++uC ⟨key.1,key.2,0,0⟩=flat uC (r.ss++[⟨key.1,key.2,0,0⟩]):=by rw[fZ];simp[flat]
   rw[e]at s;apply ah;refine av s (i:=2) rfl rfl rfl λw s=>?_;rw[LZ]at s⊢;have s:=ai s;refine aep hI.hk uD rfl (aqV (λi hi=>by have:=aeq i hi;omega) hI.seg) hI.nw hI.od (λq hq=>?_) (.inr hI.perm) hwf' s h;rcases List.mem_cons.1 hq with rfl|hq
   ·rw[List.getElem?_append_right (by omega),show l.length-r.ss.length=0 by omega];rfl
   ·have:=hI.good.lt q hq;rw[List.getElem?_append_left (by omega)];exact hI.key q hq
  ·rw[if_neg hroom]at h uD hwf';rw[bu];have hne:l≠[]:=λe=>by rw[e]at hroom;have:=hI.hk;simp at hroom;omega
   have sx:=s;obtain⟨ys,q,rfl⟩:∃ys q,l=ys++[q]:=⟨l.dropLast,l.getLast hne,(List.dropLast_concat_getLast hne).symm⟩;have s:=sx;rw[List.getLast?_concat,List.dropLast_concat]at h uD hwf';have ayW:r.od=(q.2:Int):=by rw[hI.od,List.map_append];exact aar _ _ _
   apply ah;apply lI s 1 rfl;rw[ayW];have s:=b_ s (List.Perm.trans (List.Perm.swap ..) (List.Perm.cons _ (List.Perm.swap ..)));have hnd:=hI.good.nd;have JZ:=hI.seg;have TU:=hI.nw;have Md:=hI.od;rw[List.map_append,List.map_singleton]at hnd JZ TU Md aeq;refine WH aeq hnd JZ TU Md s λss' w hK hS s=>?_;rw[List.append_nil]at s hS;have hl':ss'.length=r.ss.length:=hK.1;have hkeys:=Te hK hI.key;have s:=ay s;apply ah;apply lM s 0 rfl;apply ah;apply lS s 0 rfl;have avk:=aeq q.2 (by simp);have hkq:=hkeys q (by simp);have hqw:=hI.wf q (by simp);refine(aN s (i:=1) rfl lj (by decide)).El rfl avk λpp x hx hc=>?_;rw[hx]at hkq;have hxa:x.a=q.1.1:=congrArg Prod.fst (Option.some.inj hkq);have hxb:x.b=q.1.2:=congrArg Prod.snd (Option.some.inj hkq);apply aJ (hc 0 _ rfl);apply aJ (hc 1 _ rfl);rw[hxa,hxb];have go:∀(m':List (Value×Value)) (w:World),m'.Perm (ys.map TV)->Sep F W w (ax p 182 [ae k,.slice r.sa r.sn r.sc,.map (some r.mb),ae (Ji (ys.map (·.2)) (-1)),ae (CA (ys.map (·.2)) (-1))]::ak r.sa r.sn r.sc 334 4 (flat uC ss')::ax kb 253 (aqU key)::mapA P 253 r.mb m'::L)->
     wA (some (aZ p)) λp44=>aA (p44.add 1) w.drew λawK awL aBQ=>af .i64 ((aZ kb).add 0) w.drew λawN=>af .i64 ((aZ kb).add 1) w.drew λawO=>aK (q.2:Int) awL<|wA awK λp_1=>
      St ((p_1.add ((q.2:Int).toNat*4)).add 0) (ae awN) w.drew λawP=>St ((p_1.add ((q.2:Int).toNat*4)).add 1) (ae awO) awP λawQ=>oe Q (sZ p) q.2 false true (aZ kb) awQ:=by
    intro m' w hm' s;have s:=ay s;apply ah;apply lS s 0 rfl;apply lI s 2 rfl;apply lI s 2 rfl;refine CL s (i:=1) rfl rfl avk λg o e=>?_;rw[e]at s;refine dU (i:=1) (x':={x with a:=key.1}) lj s rfl hx (dZ _ _ _ _ _) (by decide) rfl rfl λw s=>?_;have hx':(ss'.set q.2 {x with a:=key.1})[q.2]? =some {x with a:=key.1}:=List.getElem?_set_self (by omega);refine dU (i:=1) (x':={x with a:=key.1,b:=key.2}) lj s rfl hx' (dZ _ _ _ _ _) (by decide) rfl rfl λw s=>?_;simp only[List.set_cons_zero,List.set_cons_succ]at s;rw[List.set_set,<-e]at s;have s:=b_ s (List.Perm.trans (List.Perm.cons _ (List.Perm.swap ..)) (List.Perm.swap ..));have aqW:r.sn=ys.length+1:=by rw[LZ];simp
    refine aep hI.hk uD aqW (atn hx hS) rfl rfl (λz hz=>?_) (.inr hm') hwf' s h;rw[List.getElem?_set];rcases List.mem_cons.1 hz with rfl|hz
    ·simp only;rw[if_pos trivial,AH];rfl
    ·have hne:¬q.2=z.2:=λe=>by rw[List.nodup_append]at hnd;exact hnd.2.2 z.2 (List.mem_map.2 ⟨z,hz,rfl⟩) q.2 (by simp) e.symm
     rw[if_neg hne];exact hkeys z (by simp[hz])
   have ayX:=hI.good.FN;refine YI kp aqS s (i:=3) rfl (XA hqw) (λhabs w s=>?_) (λj v0 hj w s=>?_)
   ·exact(habs (TV q) (hI.perm.mem_iff.2 (List.mem_map.2 ⟨q,by simp,rfl⟩)) rfl).elim
   ·exact go _ w (ato hI.perm hj ayX) s
 ·have sx:=s;obtain⟨rfl,hq⟩:=N7 hf;have s:=sx;rw[hf]at h uD hwf';obtain⟨pre,post,e1,e2⟩:=aas hI.good.FN hq;rw[e2]at h uD hwf';have hnd:=hI.good.nd;have JZ:=hI.seg;have TU:=hI.nw;have Md:=hI.od;rw[e1,List.map_append,List.map_cons]at hnd JZ TU Md aeq;have s:=b_ s (List.Perm.trans (List.Perm.swap ..) (List.Perm.cons _ (List.Perm.swap ..)));refine WH aeq hnd JZ TU Md s λss' w hK hS s=>?_;rw[<-List.map_append]at s hS;have s:=b_ s (List.Perm.trans (List.Perm.cons _ (List.Perm.swap ..)) (List.Perm.swap ..));have Pb:List.Perm ((q.1,q.2)::(pre++post)) l:=by rw[e1];exact List.perm_middle.symm
  have aqW:r.sn=(pre++post).length+1:=by rw[LZ,<-Pb.length_eq];rfl
  refine aep hI.hk uD aqW hS rfl rfl (λz hz=>?_) (.inl (hI.perm.trans (Pb.map TV).symm)) hwf' s h;exact Te hK hI.key z (Pb.mem_iff.1 hz)
end
end Go.Proofs.YtmegplnmiepfbaaGreatDoor.S.Lr
namespace Go.Proofs.YtmegplnmiepfbaaGreatDoor.S
open Go.Sx
open Go.RowKit Go.ChangeMaps Go.MapKept
open Go.Maps (Keyed)
structure aer (k:TypeId) (β:Type) where
 enc:β->Value
 ok:β->Prop
 inj:∀a b,enc a=enc b->a=b
 key:∀b,ok b->∃l,keyOf P k (enc b)=some l
 keyed:Keyed P k
def avm:P.underlying 3=some (.int .i64):=by kernel_rfl
def iG (n:Int):Prop:=-9223372036854775808<=n/\n<9223372036854775808
def iG.wf {n:Int}(h:iG n):(Lit.int .i64 n).wf=true:=by unfold iG at h;simp[Lit.wf];exact⟨h.1,by omega⟩
noncomputable def fo:aer 3 Int:=⟨λn=>ae n,iG,λa b h=>by cases h;rfl,λb h=>⟨_,Go.Maps.keyOf_int_mk avm h.wf⟩,Go.Maps.int_keyed avm⟩
noncomputable def KN:aer 253 (Int×Int):=⟨Lr.aau,λp=>iG p.1/\iG p.2,λa b h=>Lr.Me h,λb h=>Lr.XA ⟨h.1.wf,h.2.wf⟩,Lr.kp⟩
section
variable {k:TypeId}{α β:Type}{K:aer k β}{v:α->Value}{ms:List (β×α)}
noncomputable def fO (K:aer k β)(v:α->Value)(b:Nat)(ms:List (β×α)):As:=mapA P k b (ms.map λp=>(K.enc p.1,v p.2))
def oU (ms:List (β×α)):Prop:=(ms.map (·.1)).Nodup
def ak5 (h:oU ms){i j:Nat}{p q:β×α}(hi:ms[i]? =some p)(hj:ms[j]? =some q)(e:p.1=q.1):i=j:=by
 have h1:(ms.map (·.1))[i]? =some p.1:=by grind
 have IX:=(List.getElem?_eq_some_iff.1 h1).1;exact(List.getElem?_inj IX h).1 (by grind)
def aav {F:Nat->Prop}{W w:World}{L:List As}{Q:Option Nat->World->Prop}(s:Sep F W w L)(t:TypeId)(K:aer k β)(v:α->Value)(h:∀b w',Sep F W w' (fO K v b ([]:List (β×α))::L)->Q (some b) w'):cM P t none w Q:=ahL s P k t h
variable [DecidableEq β]
def fu (ms:List (β×α))(x:β):Option α:=(ms.find? λp=>decide (p.1=x)).map (·.2)
def Tf {x:β}:fu ms x=none↔∀p∈ms,p.1≠x:=by unfold fu;simp_all
def Mf (h:oU ms){x:β}{a:α}:fu ms x=some a↔(x,a)∈ms:=by
 unfold fu;induction ms with
 |nil=>simp
 |cons p ms ih=>
  unfold oU at h ih;grind
def aiP (h:oU ms){x:β}{a:α}{j:Nat}(hj:ms[j]? =some (x,a)):fu ms x=some a:=(Mf h).2 (List.mem_of_getElem? hj)
def aqX (h:oU ms){x:β}{a:α}(hn:fu ms x=none):oU (ms++[(x,a)])/\∀y,fu (ms++[(x,a)]) y=if y=x then some a else fu ms y:=by
 have hx:=Tf.1 hn;have hk:oU (ms++[(x,a)]):=by rw[oU,List.map_append,List.nodup_append];refine⟨h,by simp,λy hy z hz=>?_⟩;grind
 refine⟨hk,λy=>?_⟩;unfold fu;grind
def atp (h:oU ms){x:β}{a a0:α}{j:Nat}(hj:ms[j]? =some (x,a0)):oU (ms.set j (x,a))/\∀y,fu (ms.set j (x,a)) y=if y=x then some a else fu ms y:=by
 have hk:oU (ms.set j (x,a)):=by
  rw[oU,List.map_set];have:(ms.map (·.1)).set j x=ms.map (·.1):=by apply List.ext_getElem?;grind
  rw[this];exact h
 refine⟨hk,λy=>?_⟩;apply Option.ext;intro b;rw[Mf hk];by_cases e:y=x
 ·subst e;rw[if_pos rfl];constructor
  ·intro hm;obtain⟨i,hi⟩:=List.mem_iff_getElem?.1 hm;have hj':(ms.set j (y,a))[j]? =some (y,a):=by grind
   have:=ak5 hk hi hj' rfl;grind
  ·intro hb;cases hb;exact List.mem_of_getElem? (i:=j) (by grind)
 ·rw[if_neg e,Mf h];constructor
  ·grind
  ·intro hm;obtain⟨i,hi⟩:=List.mem_iff_getElem?.1 hm;apply List.mem_of_getElem? (i:=i);grind
def atq (h:oU ms){x:β}{a0:α}{j:Nat}(hj:ms[j]? =some (x,a0)):oU (ms.eraseIdx j)/\∀y,fu (ms.eraseIdx j) y=if y=x then none else fu ms y:=by
 have hsub:=List.eraseIdx_sublist ms j;have hk:=List.Nodup.sublist (hsub.map _) h;refine⟨hk,λy=>?_⟩;apply Option.ext;intro b;rw[Mf hk];by_cases e:y=x
 ·subst e;constructor
  ·intro hm;rw[List.mem_eraseIdx_iff_getElem?]at hm;obtain⟨i,hi,hi'⟩:=hm;exact(hi (ak5 h hi' hj rfl)).elim
  grind
 ·rw[if_neg e,Mf h];constructor
  ·grind
  ·intro hm;rw[List.mem_eraseIdx_iff_getElem?];obtain⟨i,hi⟩:=List.mem_iff_getElem?.1 hm;grind
attribute [local irreducible] af cQ bG bp aA cE cw St Bx Al App cV cO cM bZ aQ bI au cj ax ak bg mapA
variable {F:Nat->Prop}{W w:World}{L:List As}{i b:Nat}{t e:TypeId}{x:β}
def ED {c:Bool}{z:Value}{Q:Value->World->Prop}(ht:P.underlying t=some (.map k e))(hz:(zeroValue e).run P w=.ok z w)(s:Sep F W w L)(hi:L[i]? =some (fO K v b ms))(hnd:oU ms)(hx:K.ok x)
  (h0:fu ms x=none->Q (if c then .tuple #[z,.bool false]else z) w)(h1:∀a,fu ms x=some a->Q (if c then .tuple #[v a,.bool true]else v a) w):aQ P (Instr.lookup t (.map (some b)) (K.enc x) c) w Q:=by
 have hi':L[i]? =some (mapA P k b (ms.map λp=>(K.enc p.1,v p.2))):=hi;refine afb K.keyed ht hz s hi' (K.key x hx) (λh=>h0 (Tf.2 λp hp e=>?_)) λj u hj=>?_
 ·exact h (K.enc p.1,v p.2) (List.mem_map.2 ⟨p,hp,rfl⟩) (by rw[e])
 ·rw[List.getElem?_map]at hj;cases hm:ms[j]? with
  |none=>grind
  |some p=>
   rw[hm]at hj;simp[Option.map_some,Option.some.injEq,Prod.mk.injEq]at hj;obtain⟨e1,rfl⟩:=hj;have e1:=K.inj _ _ e1;exact h1 p.2 (aiP (j:=j) hnd (by grind))
def Mg {Q:World->Prop}{a:α}(ht:P.underlying t=some (.map k e))(s:Sep F W w L)(hi:L[i]? =some (fO K v b ms))(hnd:oU ms)(hx:K.ok x)
  (h:∀ms' w',oU ms'->(∀y,fu ms' y=if y=x then some a else fu ms y)->(ms'.length=if(fu ms x).isNone then ms.length+1 else ms.length)->Sep F W w' (L.set i (fO K v b ms'))->Q w'):bI P (Instr.mapUpdate t (.map (some b)) (K.enc x) (v a)) w Q:=by
 have hi':L[i]? =some (mapA P k b (ms.map λp=>(K.enc p.1,v p.2))):=hi;refine YH K.keyed ht s hi' (K.key x hx) (λh0 w' s'=>?_) λj u hj w' s'=>?_
 ·have hn:=Tf.2 λp hp e=>h0 (K.enc p.1,v p.2) (List.mem_map.2 ⟨p,hp,rfl⟩) (by rw[e]);obtain⟨k1,k2⟩:=aqX hnd hn;apply h (ms++[(x,a)]) w' k1 k2 (by grind);unfold fO;grind
 ·rw[List.getElem?_map]at hj;cases hm:ms[j]? with
  |none=>grind
  |some p=>
   rw[hm]at hj;simp[Option.map_some,Option.some.injEq,Prod.mk.injEq]at hj;obtain⟨e1,rfl⟩:=hj;have e1:=K.inj _ _ e1;have hm:ms[j]? =some (x,p.2):=by grind
   obtain⟨k1,k2⟩:=atp hnd hm;apply h (ms.set j (x,a)) w' k1 k2 (by rw[aiP hnd hm,List.length_set];rfl);unfold fO;simp_all
def avn {ty:TypeId}{Q:Value->World->Prop}(ht:P.underlying t=some (.map k e))(s:Sep F W w L)(hi:L[i]? =some (fO K v b ms))(hnd:oU ms)(hx:K.ok x)
  (h:∀ms' w',oU ms'->(∀y,fu ms' y=if y=x then none else fu ms y)->(ms'.length=if(fu ms x).isNone then ms.length else ms.length-1)->Sep F W w' (L.set i (fO K v b ms'))->Q (.tuple #[]) w'):aQ P (Builtin.delete_ #[t,k] ty [.map (some b),K.enc x].toArray) w Q:=by
 have hi':L[i]? =some (mapA P k b (ms.map λp=>(K.enc p.1,v p.2))):=hi;refine YI K.keyed ht s hi' (K.key x hx) (λh0 w' s'=>?_) λj u hj w' s'=>?_
 ·have hn:=Tf.2 λp hp e=>h0 (K.enc p.1,v p.2) (List.mem_map.2 ⟨p,hp,rfl⟩) (by rw[e]);refine h ms w' hnd (λy=>?_) (by rw[hn];rfl) ?_
  ·grind
  ·have:L.set i (fO K v b ms)=L:=by apply List.ext_getElem?;grind
   grind
 ·rw[List.getElem?_map]at hj;cases hm:ms[j]? with
  |none=>grind
  |some p=>
   rw[hm]at hj;simp[Option.map_some,Option.some.injEq,Prod.mk.injEq]at hj;obtain⟨e1,rfl⟩:=hj;have e1:=K.inj _ _ e1;have hm:ms[j]? =some (x,p.2):=by grind
   have hjl:=(List.getElem?_eq_some_iff.1 hm).1;obtain⟨k1,k2⟩:=atq hnd hm;apply h (ms.eraseIdx j) w' k1 k2 (by rw[aiP hnd hm,List.length_eraseIdx,if_pos hjl];rfl);rw[fO,ChangeMaps.map_eraseIdx];exact s'
end
def ak6 {α β:Type}:oU ([]:List (β×α)):=List.nodup_nil
end Go.Proofs.YtmegplnmiepfbaaGreatDoor.S
namespace Go.Proofs.YtmegplnmiepfbaaGreatDoor.S
open Go.Sx
def aoM {P:Program}{F:Nat->Prop}{W w:World}{L:List As}{t e ty k:TypeId}{b i:Nat}{m:List (Value×Value)}{Q:Value->World->Prop}(ht:P.underlying t=some (.map k e))(s:Sep F W w L)(hi:L[i]? =some (mapA P k b m))(h:Q (ae (m.length:Nat)) w):aQ P (Builtin.len_ #[t] ty [.map (some b)].toArray) w Q:=by
 obtain⟨es,clock,hb,hm,_⟩:=fY s hi;have hb:=hb;have hl:es.size=m.length:=by grind
 have:(Builtin.len_ #[t] ty [.map (some b)].toArray).run P w=.ok (ae (m.length:Nat)) w:=by simp[Builtin.len_,run_underlying ht,MapKept.run_getObj_map hb,Result.andThen,goInt,hl]
 unfold aQ;grind
attribute [local irreducible] af cQ bG bp aA cE cw St Bx Al App cV cO cM bZ aQ bI au cj ax ak bg mapA
def aqY {F:Nat->Prop}{W w:World}{L:List As}{t e ty:TypeId}{k:TypeId}{α β:Type}{K:aer k β}{v:α->Value}{ms:List (β×α)}{b i:Nat}{Q:Value->World->Prop}(ht:P.underlying t=some (.map k e))(s:Sep F W w L)(hi:L[i]? =some (fO K v b ms))(h:Q (ae (ms.length:Nat)) w):aQ P (Builtin.len_ #[t] ty [.map (some b)].toArray) w Q:=by have hi':L[i]? =some (mapA P k b (ms.map λp=>(K.enc p.1,v p.2))):=hi;apply aoM ht s hi';grind
structure aV where
 id:Int
 cell:Int
 goal:Int
deriving DecidableEq
def gX (u:aV):List Value:=[ae u.id,ae u.cell,ae u.goal]
def CB (u:aV):(gX u).length=3:=rfl
def aoN (x:aV)(u:Value)(h:u∈gX x):u.oneCell'=true:=by unfold gX at h;simp[List.mem_cons,List.not_mem_nil,or_false]at h;rcases h with rfl|rfl|rfl<;>rfl
def IK (u:aV):Value:=.agg #[ae u.id,ae u.cell,ae u.goal]
structure yj where
 most:Int
 next:Int
 us:List aV
structure WI where
 p:Nat
 mb:Nat
 oa:Option Addr
 on:Nat
 oc:Nat
 ms:List (Int×aV)
 os:List Int
def gO (us:List aV)(i:Int):Option aV:=us.find? λu=>decide (u.id=i)
structure Tg (r:WI) (y:yj):Prop where
 most:1<=y.most/\y.most<=65536
 FN:oU r.ms
 fu:∀i,fu r.ms i=gO y.us i
 len:r.ms.length=y.us.length
 ord:r.os.filter (λi=>(gO y.us i).isSome)=y.us.map (·.id)
 aiQ:r.os.length<=2*y.us.length
 NV:(y.us.map (·.id)).Pairwise (·<·)
 jE:∀u∈y.us,0<=u.id/\u.id<y.next
 nS:(y.us.length:Int)<=y.most
 onx:∀i∈r.os,0<=i/\i<y.next
 Kc:0<=y.next/\y.next<=1000000000
def WJ (r:WI)(y:yj):List Value:=[ae y.most,ae y.next,.map (some r.mb),.slice r.oa r.on r.oc]
noncomputable def ayY (r:WI)(y:yj):List As:=[ax r.p 171 (WJ r y),fO fo IK r.mb r.ms,ak r.oa r.on r.oc 3 1 (flat one r.os)]
noncomputable def v7 (r:WI)(y:yj):As:=bg (Tg r y) (ayY r y)
section
variable {F:Nat->Prop}{W w w0:World}{L:List As}{r:WI}{y:yj}{id:Int}
def uS (s:Sep F W w (v7 r y::L)):Tg r y/\Sep F W w (ax r.p 171 (WJ r y)::fO fo IK r.mb r.ms::ak r.oa r.on r.oc 3 1 (flat one r.os)::L):=gP s
def Fa (s:Sep F W w (ax r.p 171 (WJ r y)::fO fo IK r.mb r.ms::ak r.oa r.on r.oc 3 1 (flat one r.os)::L))(h:Tg r y):Sep F W w (v7 r y::L):=dy s h
def acp {Q:Option Addr->World->Prop}{most:Int}(hm:1<=most/\most<=65536)(s:Sep F W w L)(h:∀r w',Sep F W w' (v7 r ⟨most,0,[]⟩::L)->Q (sZ r.p) w'):Gh most w Q:=by
 apply abz;rw[bu,bu];refine aav s 169 fo IK λmb w s=>?_;refine aM s λp w s=>?_;refine h ⟨p,mb,none,0,0,[],[]⟩ w (Fa ?_ ?_)
 ·exact b_ (bC s 3 1) ((List.Perm.swap _ _ _).trans (List.Perm.cons _ (List.Perm.swap _ _ _)))
 ·exact⟨hm,List.Pairwise.nil,λi=>rfl,rfl,rfl,Nat.le_refl _,List.Pairwise.nil,(λu hu=>by cases hu),by grind,(λi hi=>by cases hi),by grind⟩
def KO:P.underlying 169=some (.map 3 43):=by kernel_rfl
def aaw (w:World):(zeroValue 43).run P w=.ok (IK ⟨0,0,0⟩) w:=by kernel_rfl
def aCi:zc T 43=[ae 0,ae 0,ae 0]:=rfl
def acq {Q:Int->World->Prop}(s:Sep F W w (v7 r y::L))(h:Q (y.us.length:Nat) w):yU (sZ r.p) w Q:=by apply Qm;obtain⟨hok,s⟩:=uS s;refine kT (ah (lM s 0 rfl ?_));apply aqY KO s (i:=1) rfl;rw[hok.len];exact h
def sI {Q:Int->Int->Int->Bool->World->Prop}(s0:Sep F W w (v7 r y::L))(AU:iG id)
  (hno:gO y.us id=none->∀w',Sep F W w' (v7 r y::L)->Q 0 0 0 false w')(hyes:∀u,gO y.us id=some u->∀w',Sep F W w' (v7 r y::L)->Q u.id u.cell u.goal true w'):iQ (sZ r.p) id w Q:=by
 apply Qq;refine aT s0 λp w s=>?_;obtain⟨hok,s⟩:=uS (jr s);refine kT (ah (lM s 0 rfl ?_));have fin:∀(u:aV) (b:Bool) (w:World),Sep F W w (ax r.p 171 (WJ r y)::fO fo IK r.mb r.ms::ak r.oa r.on r.oc 3 1 (flat one r.os)::ax p 43 [ae 0,ae 0,ae 0]::L)->
   (∀w',Sep F W w' (v7 r y::L)->Q u.id u.cell u.goal b w')->
   Al T 43 w λx w=>St (x.add 0) (ae u.id) w λw=>St (x.add 1) (ae u.cell) w λw=>St (x.add 2) (ae u.goal) w λw=>
   af .i64 (x.add 0) w λa=>af .i64 (x.add 1) w λc=>af .i64 (x.add 2) w λd=>
   St ((aZ p).add 0) (ae a) w λw=>St ((aZ p).add 1) (ae c) w λw=>St ((aZ p).add 2) (ae d) w λw=>
   af .i64 ((aZ p).add 0) w λa=>af .i64 ((aZ p).add 1) w λc=>af .i64 ((aZ p).add 2) w λd=>Q a c d b w:=λu b w s h=>by
  refine aT s λx w s=>?_;refine sT s 0 rfl λw s=>?_;refine sT s 0 rfl λw s=>?_;refine av s (i:=0) rfl rfl rfl λw s=>?_;refine lI s 0 rfl (lI s 0 rfl (lI s 0 rfl ?_));refine sT s 4 rfl λw s=>?_;refine sT s 4 rfl λw s=>?_;refine av s (i:=4) rfl rfl rfl λw s=>?_;refine lI s 4 rfl (lI s 4 rfl (lI s 4 rfl ?_));exact h w (Fa (gj s (.cons _ (.cons_cons _ (.cons_cons _ (.cons_cons _ (.cons _ (List.Sublist.refl _))))))) hok)
 refine ED (K:=fo) KO (aaw w) s (i:=1) rfl hok.FN AU (λh=>?_) λu h=>?_
 ·exact fin ⟨0,0,0⟩ false w s (hno (by rw[<-hok.fu];exact h))
 ·exact fin u true w s (hyes u (by rw[<-hok.fu];exact h))
end
end Go.Proofs.YtmegplnmiepfbaaGreatDoor.S
namespace Go.Proofs.YtmegplnmiepfbaaGreatDoor.S
open Go.Sx
attribute [local irreducible] af cQ bG bp aA cE cw St Bx Al App cV cO cM bZ aQ bI au cj ax ak bg mapA
section
variable {F:Nat->Prop}{W w w0:World}{L:List As}
def YZ {Q:Option Addr->Nat->Nat->World->Prop}{p mb on oc:Nat}{oa:Option Addr}{most next:Int}{ms:List (Int×aV)}{os:List Int}(hk:oU ms)(ho:∀i∈os,iG i)(hl:os.length<=200000)
  (s:Sep F W w (ax p 171 [ae most,ae next,.map (some mb),.slice oa on oc]::fO fo IK mb ms::ak oa on oc 3 1 (flat one os)::L))
  (h:∀a n c w',Sep F W w' (ak a n c 3 1 (flat one (os.filter λi=>(fu ms i).isSome))::ax p 171 [ae most,ae next,.map (some mb),.slice oa on oc]::fO fo IK mb ms::ak oa on oc 3 1 (flat one os)::L)->Q a n c w'):
  qy (sZ p) w Q:=by
 apply MR;refine ah (lS s 0 rfl ?_);have hlen:=(aN s (i:=2) rfl cv (by decide)).len;have loop:∀(j i:Nat) (a:Option Addr) (n c:Nat) (w:World),i+j=on->n<=i->Sep F W w (ak a n c 3 1 (flat one ((os.take i).filter λi=>(fu ms i).isSome))::ax p 171 [ae most,ae next,.map (some mb),.slice oa on oc]::fO fo IK mb ms::ak oa on oc 3 1 (flat one os)::L)->
   lX Q (j+1) (sZ p) a n c oa on oc (on:Int) i w:=by
  intro j;induction j with
  |zero=>
   intro i a n c w hij hni s;show ox _ _ _ _ _ _ _ _ _ _ _ _;unfold ox;grind
  |succ j ih=>
   intro i a n c w hij hni s;show ox _ _ _ _ _ _ _ _ _ _ _ _;rw[ox,bK];apply(aN s (i:=3) rfl cv (by decide)).qD rfl (by omega);have hg:os[i]? =some (gi os i):=by unfold gi;grind
   have hx:=ho _ (List.mem_of_getElem? hg);have yl:os.take (i+1)=os.take i++[gi os i]:=by rw[List.take_add_one,hg];rfl
   generalize gi os i=x at hg hx yl;have wr:IntKind.wrap .i64 ((i:Int)+1)=((i+1:Nat):Int):=by rw[HL (iG.wf (by unfold iG;omega))];omega
   refine ah (lM s 1 rfl ?_);have step:∀(u:aV) (b:Bool),(fu ms x).isSome=b->Al T 43 w λp6 w=>St (p6.add 0) (ae u.id) w λw=>St (p6.add 1) (ae u.cell) w λw=>St (p6.add 2) (ae u.goal) w λw=>
     cond b (Bx [ae x] 3 w λp29 w=>App P #[29,29] 29 (.slice a n c) (.slice (some p29) 1 1) w λa n c w=>lX Q (j+1) (sZ p) a n c oa on oc (on:Int) (IntKind.wrap .i64 ((i:Int)+1)) w)
      (lX Q (j+1) (sZ p) a n c oa on oc (on:Int) (IntKind.wrap .i64 ((i:Int)+1)) w):=λu b hb=>by
    refine aT s λp6 w s=>?_;refine sT s 0 rfl λw s=>?_;refine sT s 0 rfl λw s=>?_;refine sT s 0 rfl λw s=>?_;have s:=ai s;rw[wr];cases b with
    |true=>
     refine LQ s (by omega) λa' c' w s=>?_;apply ih (i+1) a' (n+1) c' w (by omega) (by omega);rw[yl,List.filter_append];simp[List.filter_cons,hb,List.filter_nil,if_true];exact s
    |false=>
     apply ih (i+1) a n c w (by omega) (by omega);rw[yl,List.filter_append];simp[List.filter_cons,hb,List.filter_nil,Bool.false_eq_true,if_false,List.append_nil];exact s
   refine ED (K:=fo) KO (aaw w) s (i:=2) rfl hk hx (λh=>?_) λu h=>?_
   ·exact step ⟨0,0,0⟩ false (by rw[h];rfl)
   ·exact step u true (by rw[h];rfl)
 exact⟨on+1,loop on 0 none 0 0 w (by omega) (by omega) (bC s 3 1)⟩
end
end Go.Proofs.YtmegplnmiepfbaaGreatDoor.S
namespace Go.Proofs.YtmegplnmiepfbaaGreatDoor.S.Hp
abbrev E:=Int×Int
def zD (a b:E):Bool:=decide (a.1<b.1)||(a.1==b.1&&decide (a.2<b.2))
def ak8 {a b:E}:zD a b=true↔a.1<b.1\/a.1=b.1/\a.2<b.2:=by simp[zD]
def XB {a b:E}:zD a b=false↔¬(a.1<b.1\/a.1=b.1/\a.2<b.2):=by rw[<-ak8,Bool.not_eq_true]
def N8 {a b:E}(h:zD a b=true):zD b a=false:=by rw[ak8]at h;rw[XB];omega
def GO {a b c:E}(h:zD b a=false)(k:zD c b=false):zD c a=false:=by rw[XB]at*;omega
def aax {a:E}:zD a a=false:=by rw[XB];omega
def g (es:List E)(i:Nat):E:=es.getD i (0,0)
def EE {es:List E}{i:Nat}(h:i<es.length):es[i]? =some (g es i):=by rw[g,List.getD_eq_getElem?_getD,List.getElem?_eq_getElem h];rfl
def asj {es:List E}{i j:Nat}{x:E}(h:i<es.length):g (es.set i x) j=if i=j then x else g es j:=by unfold g;grind
def swap (es:List E)(i p:Nat):List E:=(es.set i (g es p)).set p (g es i)
def rH (es:List E)(i p:Nat):(swap es i p).length=es.length:=by simp[swap]
def Jk {es:List E}{i p j:Nat}(hi:i<es.length)(hp:p<es.length):g (swap es i p) j=if p=j then g es i else if i=j then g es p else g es j:=by rw[swap,asj (by grind),asj hi]
def swap_perm {es:List E}{i p:Nat}(hi:i<es.length)(hp:p<es.length):(swap es i p).Perm es:=by
 rw[List.perm_iff_count];intro a;unfold swap;have e1:es[i]=g es i:=by have:=EE hi;grind
 have e2:es[p]=g es p:=by have:=EE hp;grind
 grind
def zE (es:List E):Prop:=∀j,0<j->j<es.length->zD (g es j) (g es ((j-1)/2))=false
structure XC (es:List E) (i:Nat):Prop where
 rest:∀j,0<j->j<es.length->j≠i->zD (g es j) (g es ((j-1)/2))=false
 over:∀j,0<j->j<es.length->(j-1)/2=i->0<i->zD (g es j) (g es ((i-1)/2))=false
def aes {es:List E}{i:Nat}(h:XC es i)(hs:i=0\/zD (g es i) (g es ((i-1)/2))=false):zE es:=by
 intro j h1 h2;by_cases hj:j=i
 ·grind
 ·exact h.rest j h1 h2 hj
def atr {es:List E}{i:Nat}(h:XC es i)(hi:0<i)(hl:i<es.length)(hs:zD (g es i) (g es ((i-1)/2))=true):XC (swap es i ((i-1)/2)) ((i-1)/2):=by
 have hp:(i-1)/2<es.length:=by omega
 have hne:(i-1)/2≠i:=by omega
 constructor
 ·intro j h1 h2 hj;rw[rH]at h2;rw[Jk hl hp,Jk hl hp,if_neg (Ne.symm hj)];by_cases hji:i=j
  ·subst hji;rw[if_pos rfl,if_pos rfl];exact N8 hs
  ·rw[if_neg hji];by_cases hpj:(i-1)/2=(j-1)/2
   ·rw[if_pos hpj];have:=h.rest j h1 h2 (Ne.symm hji);rw[<-hpj]at this;exact GO (N8 hs) this
   ·rw[if_neg hpj];by_cases hij:i=(j-1)/2
    ·rw[if_pos hij];exact h.over j h1 h2 hij.symm hi
    ·rw[if_neg hij];exact h.rest j h1 h2 (Ne.symm hji)
 ·intro j h1 h2 hj h0;rw[rH]at h2;have hj':(i-1)/2≠j:=by omega
  rw[Jk hl hp,Jk hl hp,if_neg hj',if_neg (show(i-1)/2≠((i-1)/2-1)/2 by omega),if_neg (show i≠((i-1)/2-1)/2 by omega)];have avp:=h.rest ((i-1)/2) h0 hp hne;by_cases hji:i=j
  ·rw[if_pos hji];exact avp
  ·rw[if_neg hji];have:=h.rest j h1 h2 (Ne.symm hji);rw[hj]at this;exact GO avp this
structure KY (es:List E) (i:Nat):Prop where
 rest:∀j,0<j->j<es.length->(j-1)/2≠i->zD (g es j) (g es ((j-1)/2))=false
 over:∀j,0<j->j<es.length->(j-1)/2=i->0<i->zD (g es j) (g es ((i-1)/2))=false
structure asl (es:List E) (i l k:Nat):Prop where
 lt:l<es.length
 who:l=i\/l=2*i+1\/l=2*i+2
 self:zD (g es i) (g es l)=false
 kids:∀j,2*i+1<=j->j<k->j<es.length->zD (g es j) (g es l)=false
def aoO {es:List E}{i:Nat}(h:KY es i)(hs:∀j,2*i+1<=j->j<=2*i+2->j<es.length->zD (g es j) (g es i)=false):zE es:=by
 intro j h1 h2;by_cases hj:(j-1)/2=i
 ·grind
 ·exact h.rest j h1 h2 hj
def aoP {es:List E}{i l:Nat}(h:KY es i)(hi:i<es.length)(hl:l<es.length)(hw:l=2*i+1\/l=2*i+2)(hs:zD (g es i) (g es l)=false)
  (hk:∀j,2*i+1<=j->j<=2*i+2->j<es.length->zD (g es j) (g es l)=false):KY (swap es i l) l:=by
 have hne:l≠i:=by omega
 constructor
 ·intro j h1 h2 hj;rw[rH]at h2;rw[Jk hi hl,Jk hi hl,if_neg (show l≠(j-1)/2 from λe=>hj e.symm)];by_cases hpi:i=(j-1)/2
  ·grind
  ·rw[if_neg hpi,if_neg (show l≠j by omega)];by_cases hij:i=j
   ·subst hij;rw[if_pos rfl];exact h.over l (by omega) hl (by omega) h1
   ·rw[if_neg hij];exact h.rest j h1 h2 (Ne.symm hpi)
 ·intro j h1 h2 hj h0;rw[rH]at h2;have e:(l-1)/2=i:=by omega
  rw[e,Jk hi hl,Jk hi hl,if_neg (show l≠j by omega),if_neg (show i≠j by omega),if_neg hne,if_pos rfl];have:=h.rest j h1 h2 (by omega);grind
def al9 {es:List E}(h:zE es):∀j,j<es.length->zD (g es j) (g es 0)=false:=by
 intro j;induction j using Nat.strongRecOn with
 |_ j ih=>
  intro hj;by_cases h0:j=0
  ·subst h0;exact aax
  ·exact GO (ih ((j-1)/2) (by omega) (by omega)) (h j (by omega) hj)
def aet {es:List E}(h:zE es){x:E}(hx:x∈es):zD x (g es 0)=false:=by
 obtain⟨j,hj,rfl⟩:=List.getElem_of_mem hx;have:=al9 h j hj;have e:es[j]=g es j:=by have:=EE hj;grind
 rwa[e]
def TX {es:List E}{x:E}{j:Nat}(h:j<es.length):g (es++[x]) j=g es j:=by unfold g;grind
def aqZ {es:List E}{x:E}(h:zE es):XC (es++[x]) es.length:=by
 constructor
 ·intro j h1 h2 hj;simp[List.length_append,List.length_cons,List.length_nil]at h2;rw[TX (by omega),TX (by omega)];exact h j h1 (by omega)
 grind
def att {es:List E}(h:zE es)(h0:0<es.length):KY ((es.set 0 (g es (es.length-1))).take (es.length-1)) 0:=by
 have hg:∀j,0<j->j<es.length-1->g ((es.set 0 (g es (es.length-1))).take (es.length-1)) j=g es j:=by intro j h1 h2;unfold g;grind
 constructor
 ·intro j h1 h2 hj;have h2:j<es.length-1:=by grind
  rw[hg j h1 h2,hg _ (by omega) (by omega)];exact h j h1 (by omega)
 omega
def aq0 {es:List E}(h0:0<es.length):(g es 0::(es.set 0 (g es (es.length-1))).take (es.length-1)).Perm es:=by
 match es,h0 with
 |[x],_=>simp[g]
 |x::y::es,_=>
  have e:g (x::y::es) ((x::y::es).length-1)=(y::es).getLast (by simp):=by unfold g;grind
  rw[e];have e2:((x::y::es).set 0 ((y::es).getLast (by simp))).take ((x::y::es).length-1)=(y::es).getLast (by simp)::(y::es).dropLast:=by simp[List.dropLast_eq_take]
  have e3:g (x::y::es) 0=x:=rfl;apply List.Perm.cons x;have:=List.dropLast_concat_getLast (l:=y::es) (by simp);grind
end Go.Proofs.YtmegplnmiepfbaaGreatDoor.S.Hp
namespace Go.Proofs.YtmegplnmiepfbaaGreatDoor.S.Hp
open Go.Sx
attribute [local irreducible] af cQ bG bp aA cE cw St Bx Al App cV cO cM bZ aQ bI au cj ax ak
def dQ:wS P T:=EJ P rows HN
def cz {n lo hi:Int}{w:World}{Q:Int->World->Prop}(h1:lo<=hi)(h2:-1099511627776<=lo)(h3:hi<=1099511627776)(h:Q (lo+n%(hi-lo+1)) w):a_ n lo hi w Q:=by
 apply uj;rw[aH (n:=hi-lo),aH];generalize hs:hi-lo+1=s at h;have h4:=Int.lt_tmod_of_pos n (b:=s) (by omega);have h5:=Int.tmod_lt_of_pos n (b:=s) (by omega);have h6:=Int.tmod_add_mul_tdiv n s;refine⟨by omega,?_⟩;generalize ht:Int.tmod n s=t at*;have e:n%s=t%s:=by rw[<-h6,Int.add_mul_emod_self_left]
 by_cases hn:t<0
 ·rw[bK hn,aH (n:=t+hi),aH (n:=t+hi-lo),aH (n:=t+hi-lo+1),aH];have e2:t%s=t+s:=by rw[<-Int.add_emod_right,Int.emod_eq_of_lt (by omega) (by omega)]
  grind
 ·rw[bu hn,aH];rw[e,Int.emod_eq_of_lt (by omega) h5]at h;exact h
def pr (x:E):List Value:=[ae x.1,ae x.2]
def iB (x:E):(pr x).length=2:=rfl
def FO {F:Nat->Prop}{W w:World}{L:List As}{a b c d:Int}{Q:Bool->World->Prop}(s:Sep F W w L)(h:∀w',Sep F W w' L->Q (zD (a,b) (c,d)) w'):sv a b c d w Q:=by
 apply QD;refine aM s λb1 w1 s=>?_;refine aM s λb2 w2 s=>?_;apply lI s 1 rfl;apply lI s 0 rfl;have hh:=h w2 (ai (ai s));unfold zD at hh;by_cases h1:a<c
 ·grind
 ·rw[bu h1];rw[decide_eq_false h1,Bool.false_or]at hh;apply lI s 1 rfl;apply lI s 0 rfl;cases h2:(a==c)with
  |false=>
   grind
  |true=>
   rw[h2,Bool.true_and]at hh;apply lI s 1 rfl;apply lI s 0 rfl;exact hh
section
variable {F:Nat->Prop}{W w:World}{L:List As}{i j p b o n c:Nat}{Q:World->Prop}
def atu (hij:i≠j):∀(m q:Nat) (es:List E) (w:World),q<=m->q<es.length->es.length=n->n<=4000000000000->XC es q->∀L:List As,L[i]? =some (ax p 351 [.slice (some ⟨b,o,none⟩) n c])->L[j]? =some (ak (some ⟨b,o,none⟩) n c 353 2 (flat pr es))->Sep F W w L->
  (∀w' es',zE es'->es'.Perm es->Sep F W w' (L.set j (ak (some ⟨b,o,none⟩) n c 353 2 (flat pr es')))->Q w')->q_ Q (m+1) (sZ p) q w:=by
 intro m;induction m with
 |zero=>
  intro q es w hq hl hn Mh inv L hi hj s h;obtain rfl:q=0:=by omega
  show vm Q (q_ Q 0) _ _ _;unfold vm;apply h w es (aes inv (.inl rfl)) (.refl _);rw[rK hj];exact s
 |succ m ih=>
  intro q es w hq hl hn Mh inv L hi hj s h;show vm Q (q_ Q (m+1)) _ _ _;unfold vm;by_cases h0:q=0
  ·subst h0;apply h w es (aes inv (.inl rfl)) (.refl _);rw[rK hj];exact s
  ·rw[bK];have e1:IntKind.wrap .i64 (Int.tdiv (IntKind.wrap .i64 ((q:Int)-1)) 2)=(((q-1)/2:Nat):Int):=by rw[aH (n:=(q:Int)-1),Int.tdiv_eq_ediv_of_nonneg (by omega),aH];omega
   rw[e1];have s':Sep F W w.drew L:=s;have gq:=EE hl;have hp:(q-1)/2<es.length:=by omega
   have gp:=EE hp;refine⟨by decide,ah ?_⟩;apply gY s' rfl hi rfl;refine⟨by omega,by omega,ah ?_⟩;rw[show((q:Int)).toNat=q from rfl,show((((q-1)/2:Nat):Int)).toNat=(q-1)/2 from rfl];apply eG iB s' hj gq (dZ ..) rfl;refine eG iB s' hj gq (dZ ..) rfl (ah ?_);apply gY s' rfl hi rfl;refine⟨by omega,by omega,ah ?_⟩;apply eG iB s' hj gp (dZ ..) rfl;apply eG iB s' hj gp (dZ ..) rfl;refine FO s' λw1 s1=>?_;cases hs:zD (g es q) (g es ((q-1)/2))with
   |false=>
    apply h w1 es (aes inv (.inr hs)) (.refl _);rw[rK hj];exact s1
   |true=>
    rw[Bool.not_true,cond_false];have s2:Sep F W w1.drew L:=s1;apply ah;refine gY s2 rfl hi rfl (ah ?_);refine gY s2 rfl hi rfl (ah ?_);apply gY s2 rfl hi rfl;refine⟨by omega,by omega,ah ?_⟩;apply eG iB s2 hj gp (dZ ..) rfl;refine eG iB s2 hj gp (dZ ..) rfl (ah ?_);apply gY s2 rfl hi rfl;refine⟨by omega,by omega,ah ?_⟩;apply eG iB s2 hj gq (dZ ..) rfl;apply eG iB s2 hj gq (dZ ..) rfl;refine⟨by omega,by omega,ah ?_⟩;have hjL:=(List.getElem?_eq_some_iff.1 hj).1;refine dU iB (x':=((g es ((q-1)/2)).1,(g es q).2)) s2 hj gq (dZ ..) (by decide) rfl rfl λw3 s3=>?_;refine dU iB (x:=((g es ((q-1)/2)).1,(g es q).2)) (x':=g es ((q-1)/2)) s3 (by rw[List.getElem?_set_self hjL]) (by rw[List.getElem?_set_self hl]) (dZ ..) (by decide) rfl rfl λw4 s4=>?_;rw[g8,g8]at s4;refine⟨by omega,by omega,ah ?_⟩;have hne:q≠(q-1)/2:=by omega
    have gp':(es.set q (g es ((q-1)/2)))[(q-1)/2]? =some (g es ((q-1)/2)):=by rw[List.getElem?_set_ne hne];exact gp
    refine dU iB (x':=((g es q).1,(g es ((q-1)/2)).2)) s4 (by rw[List.getElem?_set_self hjL]) gp' (dZ ..) (by decide) rfl rfl λw5 s5=>?_;refine dU iB (x:=((g es q).1,(g es ((q-1)/2)).2)) (x':=g es q) s5 (by rw[List.getElem?_set_self (by simpa using hjL)]) (by rw[List.getElem?_set_self (by simpa using hp)]) (dZ ..) (by decide) rfl rfl λw6 s6=>?_;rw[g8,g8,g8]at s6;have s6:Sep F W w6 (L.set j (ak (some ⟨b,o,none⟩) n c 353 2 (flat pr (swap es q ((q-1)/2))))):=s6;refine ih ((q-1)/2) (swap es q ((q-1)/2)) w6 (by omega) (by rw[rH];exact hp) (by rw[rH];exact hn) Mh (atr inv (by omega) hl hs) _ (by rw[List.getElem?_set_ne (Ne.symm hij)];exact hi) (by rw[List.getElem?_set_self hjL]) s6 λw' es' k1 k2 k3=>?_;rw[g8]at k3;exact h w' es' k1 (k2.trans (swap_perm hl hp)) k3
end
section
variable {F:Nat->Prop}{W w:World}{L:List As}{i j p b o n c:Nat}{Q:World->Prop}
def ama {P1:Option Addr->Int->World->Prop}{es:List E}{q:Nat}(hq:q<es.length)(hn:es.length=n)(Mh:n<=4000000000000)
  (hi:L[i]? =some (ax p 351 [.slice (some ⟨b,o,none⟩) n c]))(hj:L[j]? =some (ak (some ⟨b,o,none⟩) n c 353 2 (flat pr es)))
  (h:∀w' l,Sep F W w' L->asl es q l (2*q+3)->oB P1 Q (sZ p) q l w'):
  ∀(m k l:Nat) (w:World),k+m=2*q+3->2*q+1<=k->Sep F W w L->asl es q l k->mA P1 Q (m+1) (sZ p) q l k w:=by
 intro m;induction m with
 |zero=>
  intro k l w hk IZ s hl;show mz P1 Q (mA P1 Q 0) _ _ _ _ _;rw[mz,aH (n:=2*(q:Int)),aH,bu];grind
 |succ m ih=>
  intro k l w hk IZ s hl;show mz P1 Q (mA P1 Q (m+1)) _ _ _ _ _;rw[mz,aH (n:=2*(q:Int)),aH,bK];apply ah;apply gY s rfl hi rfl;by_cases hkn:k<n
  ·rw[bK];have s':Sep F W w.drew L:=s;have gk:=EE (es:=es) (i:=k) (by omega);have gl:=EE hl.lt;have qi:=hl.lt;apply ah;apply gY s' rfl hi rfl;refine⟨by omega,by omega,ah ?_⟩;apply eG iB s' hj gk (dZ ..) rfl;refine eG iB s' hj gk (dZ ..) rfl (ah ?_);apply gY s' rfl hi rfl;refine⟨by omega,by omega,ah ?_⟩;apply eG iB s' hj gl (dZ ..) rfl;apply eG iB s' hj gl (dZ ..) rfl;refine FO s' λw1 s1=>?_;rw[aH];cases hs:zD (g es k) (g es l)with
   |true=>
    refine ih (k+1) k w1 (by omega) (by omega) s1 ⟨by omega,by omega,GO (N8 hs) hl.self,λx h1 h2 h3=>?_⟩;by_cases hx:x=k
    ·subst hx;exact aax
    ·exact GO (N8 hs) (hl.kids x h1 (by omega) h3)
   |false=>
    refine ih (k+1) l w1 (by omega) (by omega) s1 ⟨hl.lt,hl.who,hl.self,λx h1 h2 h3=>?_⟩;by_cases hx:x=k
    ·grind
    ·exact hl.kids x h1 (by omega) h3
  ·rw[bu];exact h w l s ⟨hl.lt,hl.who,hl.self,λx h1 h2 h3=>hl.kids x h1 (by omega) h3⟩
def aoQ (hij:i≠j):∀(m q:Nat) (es:List E) (w:World),es.length<=q+m->q<es.length->es.length=n->n<=4000000000000->KY es q->∀L:List As,L[i]? =some (ax p 351 [.slice (some ⟨b,o,none⟩) n c])->L[j]? =some (ak (some ⟨b,o,none⟩) n c 353 2 (flat pr es))->Sep F W w L->
  (∀w' es',zE es'->es'.Perm es->Sep F W w' (L.set j (ak (some ⟨b,o,none⟩) n c 353 2 (flat pr es')))->Q w')->oC Q (m+1) (sZ p) q w:=by
 intro m;induction m with
 |zero=>
  omega
 |succ m ih=>
  intro q es w hq hl hn Mh inv L hi hj s h;show xo Q (oC Q (m+1)) _ _ _;rw[xo,aH (n:=2*(q:Int)),aH];refine⟨3,?_⟩;have e0:(2*(q:Int)+1)=((2*q+1:Nat):Int):=by omega
  refine ama hl hn Mh hi hj (λw1 l s1 hle=>?_) 2 (2*q+1) q w (by omega) (by omega) s ⟨hl,.inl rfl,aax,λx h1 h2 h3=>by omega⟩;unfold oB;by_cases hlq:l=q
  ·subst hlq;rw[beq_self_eq_true,cond_true];apply h w1 es (aoO inv λx h1 h2 h3=>hle.kids x h1 (by omega) h3) (.refl _);rw[rK hj];exact s1
  ·rw[show(((l:Int))==(q:Int))=false by rw[beq_eq_false_iff_ne];omega,cond_false];have s2:Sep F W w1.drew L:=s1;have N0:=hle.lt;have gq:=EE hl;have gl:=EE N0;have hw:l=2*q+1\/l=2*q+2:=by
    rcases hle.who with h|h
    ·exact absurd h hlq
    ·exact h
   apply ah;refine gY s2 rfl hi rfl (ah ?_);refine gY s2 rfl hi rfl (ah ?_);apply gY s2 rfl hi rfl;refine⟨by omega,by omega,ah ?_⟩;rw[show((q:Int)).toNat=q from rfl,show((l:Int)).toNat=l from rfl];apply eG iB s2 hj gl (dZ ..) rfl;refine eG iB s2 hj gl (dZ ..) rfl (ah ?_);apply gY s2 rfl hi rfl;refine⟨by omega,by omega,ah ?_⟩;apply eG iB s2 hj gq (dZ ..) rfl;apply eG iB s2 hj gq (dZ ..) rfl;refine⟨by omega,by omega,ah ?_⟩;have hjL:=(List.getElem?_eq_some_iff.1 hj).1;refine dU iB (x':=((g es l).1,(g es q).2)) s2 hj gq (dZ ..) (by decide) rfl rfl λw3 s3=>?_;refine dU iB (x:=((g es l).1,(g es q).2)) (x':=g es l) s3 (by rw[List.getElem?_set_self hjL]) (by rw[List.getElem?_set_self hl]) (dZ ..) (by decide) rfl rfl λw4 s4=>?_;rw[g8,g8]at s4;refine⟨by omega,by omega,ah ?_⟩;have hne:q≠l:=by omega
   have gl':(es.set q (g es l))[l]? =some (g es l):=by rw[List.getElem?_set_ne hne];exact gl
   refine dU iB (x':=((g es q).1,(g es l).2)) s4 (by rw[List.getElem?_set_self hjL]) gl' (dZ ..) (by decide) rfl rfl λw5 s5=>?_;refine dU iB (x:=((g es q).1,(g es l).2)) (x':=g es q) s5 (by rw[List.getElem?_set_self (by simpa using hjL)]) (by rw[List.getElem?_set_self (by simpa using N0)]) (dZ ..) (by decide) rfl rfl λw6 s6=>?_;rw[g8,g8,g8]at s6;have s6:Sep F W w6 (L.set j (ak (some ⟨b,o,none⟩) n c 353 2 (flat pr (swap es q l)))):=s6;refine ih l (swap es q l) w6 (by rw[rH];omega) (by rw[rH];exact N0) (by rw[rH];exact hn) Mh (aoP inv hl N0 hw hle.self λx h1 h2 h3=>hle.kids x h1 (by omega) h3) _ (by rw[List.getElem?_set_ne (Ne.symm hij)];exact hi) (by rw[List.getElem?_set_self hjL]) s6 λw' es' k1 k2 k3=>?_;rw[g8]at k3;exact h w' es' k1 (k2.trans (swap_perm hl N0)) k3
end
end Go.Proofs.YtmegplnmiepfbaaGreatDoor.S.Hp
namespace Go.Proofs.YtmegplnmiepfbaaGreatDoor.S.Hp
open Go.Sx
def qC (p:Nat)(a:Option Addr)(c:Nat)(es:List E):As where
 fp:=λk=>k=p\/∃x,a=some x/\x.block=k
 ok:=λh=>(ax p 351 [.slice a es.length c]).ok h/\(ak a es.length c 353 2 (flat pr es)).ok h/\(∀x,a=some x->x.block≠p)/\zE es
 lt:=λh hb k hk=>by
  rcases hk with rfl|hk
  ·exact As.lt _ h hb.1 _ rfl
  ·exact As.lt _ h hb.2.1 _ hk
 fr:=λh h' hb he=>⟨As.fr _ h h' hb.1 λb hb=>he b (.inl hb),As.fr _ h h' hb.2.1 λb hb=>he b (.inr hb),hb.2.2⟩
section
variable {F:Nat->Prop}{W w w':World}{L:List As}{i p c:Nat}{a:Option Addr}{es:List E}
def FP (s:Sep F W w L)(hi:L[i]? =some (qC p a c es)):Sep (qC p a c es).fp w w [ax p 351 [.slice a es.length c],ak a es.length c 353 2 (flat pr es)]:=by obtain⟨h1,h2,h3,_⟩:=fY s hi;refine aqk h1 h2 (λb hb=>.inl hb) (λb hb=>.inr hb) λb hb hb'=>?_;obtain⟨x,hx,rfl⟩:=hb';exact h3 x hx hb
def WK (s:Sep F W w L)(hi:L[i]? =some (qC p a c es)):zE es:=(fY s hi).2.2.2
def acu {a':Option Addr}{c':Nat}{es':List E}(s:Sep F W w L)(hi:L[i]? =some (qC p a c es))(s':Sep (qC p a c es).fp w w' [ax p 351 [.slice a' es'.length c'],ak a' es'.length c' 353 2 (flat pr es')])(hh:zE es'):
  Sep F W w' (L.set i (qC p a' c' es')):=by
 refine aa6 s hi s' ⟨fY s' (i:=0) rfl,fY s' (i:=1) rfl,λx hx e=>?_,hh⟩ λb hb=>?_
 ·exact anC s' (i:=0) (j:=1) rfl rfl (by decide) p rfl ⟨x,hx,e⟩
 ·rcases hb with hb|hb
  ·exact⟨_,List.mem_cons_self,hb⟩
  ·exact⟨_,List.mem_cons_of_mem _ List.mem_cons_self,hb⟩
def WL (s:Sep F W w L)(hi:L[i]? =some (qC p a c es))(h0:0<es.length):∃b o,a=some ⟨b,o,none⟩:=p_ (FP s hi) (i:=1) rfl h0
def aq2 (s:Sep F W w L)(hi:L[i]? =some (qC p a c es)):es.length<=c:=(RS (FP s hi) (i:=1) rfl).1
def atv {b:Nat}{t:TypeId}{cs:List Value}{m size:Nat}(s:Sep F W w L)(hi:L[i]? =some (ax b t cs))(hl:cs.length=m*size)(h1:∀u∈cs,u.oneCell'=true):Src w (sZ b) m size cs:=
 ⟨hl,h1,λj u hj=>by rw[cq,Nat.zero_add];exact cF s rfl hi hj⟩
def amc {p:Nat}{w:World}(h:(ax p 351 [.slice none 0 0]).ok w.heap):(qC p none 0 []).ok w.heap:=
 ⟨h,⟨⟨by simp[flat],Nat.le_refl _,by decide,by simp[flat]⟩,.inl ⟨rfl,rfl⟩⟩,λx hx=>(by cases hx),λj h1 h2=>(by simp at h2)⟩
end
def FM {p:Addr}{A B:Prop}(h:B):cond (some p).isNone A B:=h
attribute [local irreducible] af cQ bG bp aA cE cw St Bx Al App cV cO cM bZ aQ bI au cj ax ak
section
variable {F:Nat->Prop}{W w:World}{L:List As}{i p c:Nat}{a:Option Addr}{es:List E}
def Rr {Q:Option Addr->World->Prop}(s:Sep F W w L)(h:∀p w',Sep F W w' (qC p none 0 []::L)->Q (sZ p) w'):CS w Q:=by
 apply adS;refine aM s λp w1 s=>h p w1 ?_;exact xJ (i:=0) (A':=qC p none 0 []) s rfl Fr.refl (amc (fY s (i:=0) rfl)) λb hb=>.inl (by
  rcases hb with hb|⟨x,hx,_⟩
  ·subst hb;unfold ax;rfl
  ·cases hx)
def agS {b o n j:Nat}{Q:World->Prop}(hij:i≠j)(hl:0<es.length)(hn:es.length=n)(Mh:n<=4000000000000)(inv:XC es (n-1))(hi:L[i]? =some (ax p 351 [.slice (some ⟨b,o,none⟩) n c]))(hj:L[j]? =some (ak (some ⟨b,o,none⟩) n c 353 2 (flat pr es)))(s:Sep F W w L)
  (h:∀w' es',zE es'->es'.Perm es->Sep F W w' (L.set j (ak (some ⟨b,o,none⟩) n c 353 2 (flat pr es')))->Q w'):B9 (sZ p) w Q:=by
 apply V1;apply ah;apply gY s rfl hi rfl;rw[aH,show((n:Int)-1)=((n-1:Nat):Int) by omega];exact⟨n,atu hij (n-1) (n-1) es w (Nat.le_refl _) (by omega) hn Mh inv L hi hj s h|>λk=>by grind⟩
def BB {k x:Int}{Q:World->Prop}(s:Sep F W w L)(hi:L[i]? =some (qC p a c es))(hn:es.length<4000000000000)
  (h:∀w' a' c' es',es'.Perm (es++[(k,x)])->Sep F W w' (L.set i (qC p a' c' es'))->Q w'):mS (sZ p) k x w Q:=by
 apply SF;apply FM;have s0:=FP s hi;have hh:=WK s hi;apply ah;apply lS s0 0 rfl;refine aM s0 λbx w1 s1=>?_;have src:=atv (size:=2) s1 (i:=0) rfl rfl (λu hu=>by simp at hu;rcases hu with rfl|rfl<;>rfl);refine iq dQ s1 (i:=2) (bytes:=16) rfl rfl rfl rfl rfl rfl (by decide) rfl src (by simp[maxLen];omega) (by omega) (λe=>by cases e) λa' c' w2 s2=>?_;have s2:=ai s2;have e1:flat pr es++[ae k,ae x]=flat pr (es++[(k,x)]):=by rw[fZ];rfl
 rw[e1]at s2;apply ah;refine av s2 (i:=0) rfl rfl rfl λw3 s3=>?_;obtain⟨b,o,rfl⟩:=p_ s3 (i:=1) rfl (by omega);have hl:(es++[(k,x)]).length=es.length+1:=by simp
 refine agS (i:=0) (j:=1) (by decide) (by omega) hl (by omega) (by rw[show es.length+1-1=es.length by omega];exact aqZ hh) rfl rfl s3 λw4 es' q1 q2 s4=>?_;have hl':es'.length=es.length+1:=by rw[q2.length_eq,hl]
 refine h w4 (some ⟨b,o,none⟩) c' es' q2 (acu s hi ?_ q1);grind
def aeu {Q:Int->World->Prop}(s:Sep F W w L)(hi:L[i]? =some (qC p a c es))(h:Q (es.length:Int) w):A7 (sZ p) w Q:=by apply UM;refine FM (ah ?_);exact gY (FP s hi) (i:=0) rfl rfl rfl h
def aev {Q:Int->Int->Bool->World->Prop}(s:Sep F W w L)(hi:L[i]? =some (qC p a c es))(h0:es=[]->∀w',Sep F W w' L->Q 0 0 false w')(h1:0<es.length->∀w',Sep F W w' L->Q (g es 0).1 (g es 0).2 true w'):A6 (sZ p) w Q:=by
 apply UN;apply aeu s hi;by_cases he:es.length=0
 ·grind
 ·rw[show((es.length:Int)==0)=false by grind,cond_false];obtain⟨b,o,rfl⟩:=WL s hi (by omega);have s0:=FP s hi;have s0:Sep (qC p (some ⟨b,o,none⟩) c es).fp w w.drew _:=s0;have g0:=EE (es:=es) (i:=0) (by omega);apply ah;apply lS s0 0 rfl;refine⟨by omega,by omega,ah ?_⟩;refine eG iB s0 (i:=1) rfl g0 (aqj ..) rfl (ah ?_);apply lS s0 0 rfl;refine⟨by omega,by omega,ah ?_⟩;apply eG iB s0 (i:=1) rfl g0 (dZ ..) rfl;refine⟨wJ s0 (i:=1) rfl (j:=0*2+1) (dZ ..) (by rw[sO iB g0 (by decide)];rfl),ck s0 0 rfl,?_⟩;exact h1 (by omega) w.drew s
def acv {b o n j:Nat}{Q:World->Prop}(hij:i≠j)(hn:es.length=n)(Mh:n<=4000000000000)(inv:KY es 0)(hi:L[i]? =some (ax p 351 [.slice (some ⟨b,o,none⟩) n c]))(hj:L[j]? =some (ak (some ⟨b,o,none⟩) n c 353 2 (flat pr es)))(s:Sep F W w L)
  (h:∀w' es',zE es'->es'.Perm es->Sep F W w' (L.set j (ak (some ⟨b,o,none⟩) n c 353 2 (flat pr es')))->Q w'):Af (sZ p) w Q:=by
 apply SG;by_cases h0:es.length=0
 ·have Y0:=List.eq_nil_of_length_eq_zero h0;subst Y0;obtain rfl:n=0:=by grind
  refine⟨1,?_⟩;show xo Q (oC Q 0) _ _ _;refine⟨1,?_⟩;show mz _ Q (mA _ Q 0) _ _ _ _ _;rw[mz,show decide (IntKind.wrap .i64 (IntKind.wrap .i64 (2*0)+1)<=IntKind.wrap .i64 (IntKind.wrap .i64 (2*0)+2))=true by decide,cond_true];apply ah;apply gY s rfl hi rfl;unfold oB;apply h w [] (λj h1 h2=>by simp at h2) (.refl _);rw[rK hj];exact s
 ·exact⟨es.length+1,aoQ hij es.length 0 es w (by omega) (by omega) hn Mh inv L hi hj s h⟩
def Dd {Q:Int->Int->Bool->World->Prop}(s:Sep F W w L)(hi:L[i]? =some (qC p a c es))(Mh:es.length<=4000000000000)(h0:es=[]->∀w',Sep F W w' L->Q 0 0 false w')
  (h1:0<es.length->∀w' a' c' es',(g es 0::es').Perm es->Sep F W w' (L.set i (qC p a' c' es'))->Q (g es 0).1 (g es 0).2 true w'):jF (sZ p) w Q:=by
 apply UO;refine aev s hi (λhe w1 s1=>?_) λhpos w1 s=>?_
 ·unfold yC;grind
 ·rw[cond_true];obtain⟨b,o,rfl⟩:=WL s hi hpos;have hh:=WK s hi;have hcap:=aq2 s hi;have s0:=FP s hi;have s1:Sep (qC p (some ⟨b,o,none⟩) c es).fp w1 w1.drew _:=s0;have e1:IntKind.wrap .i64 ((es.length:Int)-1)=((es.length-1:Nat):Int):=by rw[aH];omega
  have gl:=EE (es:=es) (i:=es.length-1) (by omega);have g0:=EE hpos;apply ah;refine lS s0 0 rfl (ah ?_);refine lS s1 0 rfl (ah ?_);apply lS s1 0 rfl;rw[e1];refine⟨by omega,by omega,ah ?_⟩;apply eG iB s1 (i:=1) rfl gl (dZ ..) rfl;apply eG iB s1 (i:=1) rfl gl (dZ ..) rfl;refine⟨by omega,by omega,ah ?_⟩;refine dU iB (x':=((g es (es.length-1)).1,(g es 0).2)) s1 (i:=1) rfl g0 (dZ ..) (by decide) rfl rfl λw3 s3=>?_;refine dU iB (k:=0) (x:=((g es (es.length-1)).1,(g es 0).2)) (x':=g es (es.length-1)) s3 (i:=1) rfl (by grind) (dZ ..) (by decide) rfl rfl λw4 s4=>?_;simp[List.set_cons_zero,List.set_cons_succ,g8]at s4;apply ah;apply lS s4 0 rfl;refine Px rfl (by omega) (ah ?_);refine sT s4 0 rfl λw5 s5=>?_;have s6:=TF s5 (i:=1) rfl (m:=es.length-1) (by omega);rw[Vi iB]at s6;have hl:((es.set 0 (g es (es.length-1))).take (es.length-1)).length=es.length-1:=by simp
  refine acv (i:=0) (j:=1) (by decide) hl (by omega) (att hh hpos) rfl rfl s6 λw7 es' k1 k2 s7=>?_;have hl':es'.length=es.length-1:=by rw[k2.length_eq,hl]
  refine h1 hpos w7 (some ⟨b,o,none⟩) c es' ((List.Perm.cons _ k2).trans (aq0 hpos)) (acu s hi ?_ k1);grind
end
end Go.Proofs.YtmegplnmiepfbaaGreatDoor.S.Hp
namespace Go.Proofs.YtmegplnmiepfbaaGreatDoor.S
open Go.Sx
section
variable {α:Type}{S:α->Int->Prop}{E:α->α->Int->Prop}{f:α->Int}{Q Q':List (Int×α)}
structure TY (S:α->Int->Prop) (E:α->α->Int->Prop) (cap:Int) (f:α->Int) (Q:List (Int×α)) (P:α->α->Int->Prop):Prop where
 ways:∀x,f x<cap->Wy S E x (f x)
 top:∀x,f x<=cap
 key:∀e∈Q,f e.2<=e.1
 wU:∀x n c,E x n c->f n<cap->(f n,n)∈Q\/f x<=f n+c\/cap<=f n+c\/P x n c
variable {cap:Int}{P P':α->α->Int->Prop}
def TY.ag_ [DecidableEq α]{f':α->Int}{y:α}{k:Int}(h:TY S E cap f Q P)(hk:k<f y)(hw:Wy S E y k)(hf:∀x,f' x=if x=y then k else f x)(hq:∀e,e∈Q'↔e∈Q\/e=(k,y))(hP:∀x n c,P x n c->x=y->(∃d,f n=d/\k<=d+c)\/P' x n c)(hP':∀x n c,P x n c->x≠y->P' x n c)(hy:∀x c,P x y c->False):TY S E cap f' Q' P' where
 ways x hx:=by
  rw[hf]at hx⊢;split
  ·grind
  ·rename_i e;rw[if_neg e]at hx;exact h.ways x hx
 top x:=by
  rw[hf];have:=h.top y;split
  ·omega
  ·exact h.top x
 key e he:=by
  rcases(hq e).1 he with h1|rfl
  ·have:=h.key e h1;grind
  grind
 wU x n c e hn:=by
  by_cases en:n=y
  ·grind
  ·have efn:f' n=f n:=by grind
   rw[efn]at hn⊢;rcases h.wU x n c e hn with h1|h1|h1|h1
   all_goals grind
def TY.weaken (h:TY S E cap f Q P)(hP:∀x n c,P x n c->E x n c->f n<cap->f x<=f n+c\/cap<=f n+c\/P' x n c):TY S E cap f Q P' where
 ways:=h.ways
 top:=h.top
 key:=h.key
 wU x n c e hn:=by
  rcases h.wU x n c e hn with h1|h1|h1|h1
  all_goals grind
def TY.pop {k:Int}{y:α}(h:TY S E cap f Q λ_ _ _=>False)(hq:∀e,e∈Q↔e∈Q'\/e=(k,y)):TY S E cap f Q' λx n c=>n=y/\f y=k/\E x n c where
 ways:=h.ways
 top:=h.top
 key e he:=h.key e ((hq e).2 (.inl he))
 wU x n c e hn:=by
  rcases h.wU x n c e hn with h1|h1|h1|h1
  all_goals grind
def TY.lci (h:TY S E cap f Q λ_ _ _=>False)(hs:∀x k,S x k->f x<=k\/cap<=k):LcI S E cap f Q:=⟨h.ways,h.top,hs,λx n c e hn=>by
 rcases h.wU x n c e hn with h1|h1|h1|h1
 all_goals grind⟩
end
def Fb (ds:List Int):Nat:=(ds.map Int.toNat).sum
def aay {k:Int}:∀{ds:List Int} {i:Nat},i<ds.length->Fb (ds.set i k)+(gi ds i).toNat=Fb ds+k.toNat
 |[],i,h=>by simp at h
 |d::ds,0,h=>by show(k.toNat+(ds.map Int.toNat).sum)+d.toNat=(d.toNat+(ds.map Int.toNat).sum)+k.toNat;omega
 |d::ds,i+1,h=>by have ih:=aay (k:=k) (by simpa using h);have ih:Fb (ds.set i k)+(gi (d::ds) (i+1)).toNat=Fb ds+k.toNat:=ih;show(d.toNat+Fb (ds.set i k))+(gi (d::ds) (i+1)).toNat=(d.toNat+Fb ds)+k.toNat;omega
def aiR (k:Int):∀n:Nat,Fb (List.replicate n k)=n*k.toNat
 |0=>by simp[Fb]
 |n+1=>by have ih:=aiR k n;show k.toNat+Fb (List.replicate n k)=_;grind
def AV:Int:=2147483647
def fC (ds:List Int)(x:Int):Int:=if 0<=x/\x<ds.length then gi ds x.toNat else AV
def aiS {ds:List Int}{x k:Int}(hx:0<=x/\x<ds.length)(y:Int):fC (ds.set x.toNat k) y=if y=x then k else fC ds y:=by
 unfold fC;rw[List.length_set];by_cases hy:0<=y/\y<ds.length
 ·rw[if_pos hy,if_pos hy,aa7 (by omega)];omega
 grind
def avq {ds:List Int}{x:Int}(hx:0<=x/\x<ds.length)(hd:∀y∈ds,y<=AV):atF ds x=if fC ds x<AV then fC ds x else cf:=by
 unfold atF fC;rw[if_pos hx,if_pos hx];have:=hd _ (fA (i:=x.toNat) (by omega));by_cases h:gi ds x.toNat=2147483647
 ·rw[if_pos h,if_neg (by unfold AV;omega)]
 ·rw[if_neg h,if_pos (by unfold AV at*;omega)]
section
variable {m:bM}{t:Int}
def fM (dm:List (Int×Int))(c:Int):Int:=(fu dm c).getD cf
def unM (m:bM)(dm:List (Int×Int)):Nat:=(jW m).countP λc=>decide (fM dm c=cf)
def Bf (m:bM)(t:Int):Int->Int->Int->Prop:=tO (fT m) (cP m) (cP m t)
structure Y1 (m:bM) (t:Int) (dm:List (Int×Int)) (es:List (Int×Int)):Prop where
 dj:PB (gB m t) (Bf m t) (fM dm) es
 Ej:∀e∈es,e_ m e.2=true/\cP m e.2=cP m t/\0<=e.1
 top:∀e∈es,e.1+254*(unM m dm:Int)<=254*((jW m).length:Int)
 nd:oU dm
 lt:∀c d,fu dm c=some d->0<=d/\d<1000000000
 nS:es.length+4*unM m dm<=1+4*(jW m).length
def Jl (m:bM)(t x key s:Int):List (Int×Int):=if 0<=bf m.w m.h x s/\aC m.w m.h (bf m.w m.h x s)=aC m.w m.h t/\cR m (bf m.w m.h x s)≠255 then[(key,bf m.w m.h x s)]else[]
def EF (m:bM)(t x key:Int)(j:Nat):List (Int×Int):=(List.range j).flatMap λs:Nat=>Jl m t x key s
def Th (x key:Int)(j:Nat):EF m t x key (j+1)=EF m t x key j++Jl m t x key j:=by unfold EF;rw[List.range_succ,List.flatMap_append];simp
def amd (x key s:Int):(Jl m t x key s).length<=1:=by unfold Jl;grind
def WM (x key:Int):∀j:Nat,(EF m t x key j).length<=j
 |0=>by simp[EF]
 |j+1=>by have:=WM x key j;have:=amd (m:=m) (t:=t) x key j;rw[Th,List.length_append];omega
def afF {x key:Int}{e:Int×Int}:e∈EF m t x key 4↔∃s:Int,(0<=s/\s<=3)/\(0<=bf m.w m.h x s/\aC m.w m.h (bf m.w m.h x s)=aC m.w m.h t/\cR m (bf m.w m.h x s)≠255)/\e=(key,bf m.w m.h x s):=by
 rw[EF,List.mem_flatMap];constructor
 ·rintro ⟨s,h1,h2⟩;have h1:=List.mem_range.1 h1;unfold Jl at h2;grind
 ·rintro ⟨s,h1,h2,rfl⟩;refine⟨s.toNat,List.mem_range.2 (by omega),?_⟩;unfold Jl;grind
variable {dm Kf:List (Int×Int)}{es es':List (Int×Int)}{k x:Int}
def aki:∀x n c,Bf m t x n c->0<=c:=λx n c h=>c7 _ _ _ h.1
def Y1.skip (h:Y1 m t dm es)(hp:((k,x)::es').Perm es)(hx:fu dm x≠none):Y1 m t dm es':=by
 have hm:∀e∈es',e∈es:=λe he=>hp.mem_iff.1 (by simp[he]);refine⟨h.dj.skip (k:=k) (x:=x) ?_ hm (λe he=>?_),λe he=>h.Ej e (hm e he),λe he=>h.top e (hm e he),h.nd,h.lt,?_⟩
 ·cases ha:fu dm x with
  |none=>grind
  |some d=>
   have:=h.lt x d ha;rw[fM,ha];show d<cf;unfold cf;omega
 ·grind
 ·have h1:=hp.length_eq;have h2:=h.nS;grind
def Y1.step (hm:cT m)(h:Y1 m t dm es)(hp:((k,x)::es').Perm es)(hmin:∀e∈es,k<=e.1)(hx:fu dm x=none)(hnd:oU Kf)(hd:∀y,fu Kf y=if y=x then some k else fu dm y){Rs:List (Int×Int)}(hp2:Rs.Perm (es'++EF m t x (k+cR m x) 4)):
  Y1 m t Kf Rs/\Rs.length+5*unM m Kf+1<=es.length+5*unM m dm:=by
 have hin:(k,x)∈es:=hp.mem_iff.1 (by simp);obtain⟨Jh,hsx,Ga⟩:=h.Ej _ hin;have aae:=h.top _ hin;simp only at Jh hsx Ga aae;have hxc:=jV hm Jh;have hcx:=Cs Jh;have hfx:fM dm x=cf:=by unfold fM;rw[hx];rfl
 have hN:((jW m).length:Int)=m.w*m.h:=by rw[<-hm.len];simp[jW]
 have hN2:=pA ⟨hm.w,hm.h⟩;have aaf:∀y,fM Kf y=if y=x then k else fM dm y:=λy=>by unfold fM;grind
 have hkI:k<cf:=by unfold cf;omega
 have hun:unM m Kf+1<=unM m dm:=by
  refine RX (zB hm hxc) (by grind) ?_ λy hy=>?_
  all_goals grind
 have Ee:∀e,e∈Rs↔e∈es'\/e∈EF m t x (k+cR m x) 4:=λe=>by grind
 have told:∀e∈EF m t x (k+cR m x) 4,e_ m e.2=true/\cP m e.2=cP m t/\e.1=k+cR m x/\Bf m t e.2 x (cR m x):=λe he=>by obtain⟨s,hs,⟨h1,h2,h3⟩,rfl⟩:=afF.1 he;have hc:=(zZ h1).2;have ho:=(Cu hm hc).2 h3;obtain⟨s',hs',hb⟩:=Jf hs h1;exact⟨ho,h2,rfl,⟨ho,Jh,⟨s',hs',hb⟩,rfl⟩,h2,hsx⟩
 have Y0:∀e∈es',e∈es:=λe he=>hp.mem_iff.1 (by simp[he]);have hl1:=hp.length_eq;have YQ:=hp2.length_eq;have hl3:=WM (m:=m) (t:=t) x (k+cR m x) 4;have o7:=h.nS;simp[List.length_cons]at hl1;rw[List.length_append]at YQ;refine⟨⟨?_,?_,?_,hnd,?_,by omega⟩,by omega⟩
 ·refine h.dj.step aki (by grind) hkI hin hmin (by grind) (λy hy=>by grind) (λe he=>?_) (λe he=>?_) λy c hy=>?_
  ·grind
  ·grind
  ·obtain⟨⟨h1,h2,⟨s,hs,h3⟩,rfl⟩,h4,h5⟩:=hy;refine .inr ⟨k+cR m x,Int.le_refl _,(Ee _).2 (.inr (afF.2 ?_))⟩;obtain⟨s',hs',hb⟩:=Jf hs (by rw[h3];exact hxc.2.1);rw[h3]at hb;have Kg:=jV hm h1;exact⟨s',hs',by rw[hb];exact⟨Kg.2.1,h4,(Cu hm Kg).1 h1⟩,by rw[hb]⟩
 ·intro e he;rcases(Ee e).1 he with h1|h1
  ·exact h.Ej e (Y0 e h1)
  ·have:=told e h1;exact⟨this.1,this.2.1,by rw[this.2.2.1];omega⟩
 ·intro e he;rcases(Ee e).1 he with h1|h1
  ·have:=h.top e (Y0 e h1);omega
  ·have:=(told e h1).2.2.1;omega
 ·intro c d hcd;rw[hd]at hcd;split at hcd
  ·cases hcd;omega
  ·exact h.lt c d hcd
def aoR (hm:cT m)(ho:e_ m t=true):Y1 m t [] [(0,t)]:=by
 have hf:∀x,fM [] x=cf:=λx=>rfl;have hu:unM m []=(jW m).length:=by unfold unM;simp_all
 refine⟨⟨?_,?_,λx _=>hf x,?_,?_,?_⟩,?_,?_,ak6,?_,by rw[hu];simp⟩
 ·intro e he;rw[List.mem_singleton]at he;subst he;exact .src ⟨rfl,ho,rfl⟩
 ·grind
 ·rintro x k ⟨rfl,_,rfl⟩;grind
 ·grind
 ·grind
 ·grind
 ·grind
 ·intro c d h;cases h
def aiT (m:bM)(t:Int)(dm:List (Int×Int)):Prop:=∀c,fu dm c=(if gM (gB m t) (Bf m t) c<cf then some (gM (gB m t) (Bf m t) c)else none)/\(gM (gB m t) (Bf m t) c<cf->0<=gM (gB m t) (Bf m t) c/\gM (gB m t) (Bf m t) c<1000000000)
def Y1.done (h:Y1 m t dm []):aiT m t dm:=λc=>by
 have h1:=h.dj.done c;unfold fM at h1;cases ha:fu dm c with
 |none=>
  grind
 |some d=>
  have h2:=h.lt c d ha;rw[ha]at h1;have h1:gM (gB m t) (Bf m t) c=d:=h1;rw[h1];exact⟨by rw[if_pos (by unfold cf;omega)],λ_=>h2⟩
def aoS (ho:¬e_ m t=true):aiT m t []:=λc=>by
 have:gM (gB m t) (Bf m t) c=cf:=xL λd hd=>by
  induction hd with
  |src h=>exact ho h.2.1
  |go _ _ ih=>exact ih
 rw[this];exact⟨by rw[if_neg (Int.lt_irrefl cf)];rfl,λh=>(Int.lt_irrefl cf h).elim⟩
end
end Go.Proofs.YtmegplnmiepfbaaGreatDoor.S
namespace Go.Proofs.YtmegplnmiepfbaaGreatDoor.S
open Go.Sx
attribute [local irreducible] af cQ bG bp aA cE cw St Bx Al App cV cO cM bZ aQ bI au cj ax ak bg mapA
def ame:P.underlying 207=some (.map 3 3):=by kernel_rfl
def acy (w:World):(zeroValue 3).run P w=.ok (ae 0) w:=Lr.asi w
def vI (n:Int):Value:=ae n
def ak9 {w h c:Int}(hc:bJ w h c):iG c:=by have:=Vp hc;unfold iG;omega
section
variable {F:Nat->Prop}{W w w0:World}{L:List As}{fp hp mb hc:Nat}{ha:Option Addr}{gr:uz}{g:iz}{t:Int}{dm:List (Int×Int)}{es:List (Int×Int)}{vs:List Value}
noncomputable abbrev wiL (hp:Nat)(ha:Option Addr)(hc mb:Nat)(dm es:List (Int×Int)):List As:=[Hp.qC hp ha hc es,fO fo vI mb dm]
def aiU {P8:Option Addr->Int->Int->Int->Option Nat->Option Addr->Int->Int->Bool->World->Prop}{Q:Option Nat->World->Prop}{x k:Int}{v0:Value}(hK:rW w0 fp (v0::.pointer (sZ gr.p)::vs))(kg:nC w0 gr g)(hx:e_ g.m x=true)(hk:0<=k/\k<10000000000)
  {Y2:List (Int×Int)}(Y0:Y2.length<100000000)
  (h:∀es' Ek Bi w',es'.Perm (Y2++EF g.m t x (k+cR g.m x) 4)->Sep No w0 w' (wiL hp Ek Bi mb dm es')->m9 P8 Q (sZ fp) t g.m.w g.m.h (some mb) (sZ hp) w'):
  ∀(n s:Nat) (es:List (Int×Int)) (ha:Option Addr) (hc:Nat) (w:World),s+n=4->es.Perm (Y2++EF g.m t x (k+cR g.m x) s)->Sep No w0 w (wiL hp ha hc mb dm es)->iI P8 Q (n+1) (sZ fp) t g.m.w g.m.h (some mb) (sZ hp) k x s w:=by
 intro n;induction n with
 |zero=>
  intro s es ha hc w hs hp' sp;show mB P8 Q (iI P8 Q 0) _ _ _ _ _ _ _ _ _ _;unfold mB;grind
 |succ n ih=>
  intro s es ha hc w hs hp' sp;show mB P8 Q (iI P8 Q (n+1)) _ _ _ _ _ _ _ _ _ _;rw[mB,bK,aH];have skip:∀(w:World),Sep No w0 w (wiL hp ha hc mb dm es)->¬(0<=bf g.m.w g.m.h x s/\aC g.m.w g.m.h (bf g.m.w g.m.h x s)=aC g.m.w g.m.h t/\cR g.m (bf g.m.w g.m.h x s)≠255)->
    iI P8 Q (n+1) (sZ fp) t g.m.w g.m.h (some mb) (sZ hp) k x ((s:Int)+1) w:=λw sp hno=>by
   refine ih (s+1) es ha hc w (by omega) ?_ sp;rw[Th];unfold Jl;grind
  refine kK sp λw sp _=>?_;by_cases h0:bf g.m.w g.m.h x s<0
  ·grind
  rw[bu h0];refine eY sp λw sp _=>eY sp λw sp _=>?_;by_cases h1:aC g.m.w g.m.h (bf g.m.w g.m.h x s)=aC g.m.w g.m.h t
  ·rw[show(aC g.m.w g.m.h (bf g.m.w g.m.h x s) !=aC g.m.w g.m.h t)=false by grind,cond_false];refine ah (dH ((hK.fr (aq sp)) 1 _ rfl) (jn (kg.fr (aq sp)) ?_));by_cases h2:cR g.m (bf g.m.w g.m.h x s)=255
   ·grind
   rw[cN h2,cond_false];refine ah (dH ((hK.fr (aq sp)) 1 _ rfl) (jn (kg.fr (aq sp)) ?_));have hcx:=Cs hx;rw[aH];have hl:=hp'.length_eq;have htl:=WM (m:=g.m) (t:=t) x (k+cR g.m x) s;rw[List.length_append]at hl;refine Hp.BB sp (i:=0) rfl (by omega) λw ha hc Rs hp2 sp=>?_;refine ih (s+1) Rs ha hc w (by omega) ?_ sp;rw[Th];unfold Jl;grind
  grind
def aq3 (s:Sep F W w (Hp.qC hp ha hc es::L)){e0:Int×Int}{es':List (Int×Int)}(hp':(Hp.g es 0::es').Perm es):∀e∈es,(Hp.g es 0).1<=e.1:=λe he=>by have:=Hp.aet (Hp.WK s (i:=0) rfl) he;rw[Hp.XB]at this;omega
def akj {Q:Option Nat->World->Prop}{v0:Value}(hK:rW w0 fp (v0::.pointer (sZ gr.p)::vs))(kg:nC w0 gr g)
  (h:∀ha hc dm w',oU dm->aiT g.m t dm->Sep No w0 w' (wiL hp ha hc mb dm [])->Q (some mb) w'):
  ∀(f:Nat) (es:List (Int×Int)) (dm:List (Int×Int)) (ha:Option Addr) (hc:Nat) (w:World),es.length+5*unM g.m dm<=f->Y1 g.m t dm es->Sep No w0 w (wiL hp ha hc mb dm es)->
   m9 (jd Q (f+1)) Q (sZ fp) t g.m.w g.m.h (some mb) (sZ hp) w:=by
 have hm:=kg.ok.may;have hN:(jW g.m).length<=1048576:=by
  have:=pA ⟨hm.w,hm.h⟩;have e:((jW g.m).length:Int)=g.m.w*g.m.h:=by rw[<-hm.len];simp[jW]
  omega
 intro f;induction f with
 |zero=>
  intro es dm ha hc w hf I s;have o7:=I.nS;obtain rfl:es=[]:=List.eq_nil_of_length_eq_zero (by omega);refine Hp.Dd s (i:=0) rfl (by simp) (λ_ w s=>?_) λh0=>by simp at h0
  show jc Q (jd Q 0) _ _ _ _ _ _ _ _ _ _;unfold jc;exact h ha hc dm w I.nd I.done s
 |succ f ih=>
  intro es dm ha hc w hf I s;have o7:=I.nS;refine Hp.Dd s (i:=0) rfl (by omega) (λe w s=>?_) λh0 w Ek Bi es' hp' sN=>?_
  ·subst e;show jc Q (jd Q (f+1)) _ _ _ _ _ _ _ _ _ _;unfold jc;exact h ha hc dm w I.nd I.done s
  ·have hmin:=aq3 (e0:=(0,0)) s hp';have s:=sN;generalize hge:Hp.g es 0=e0 at hp' hmin⊢;obtain⟨k,x⟩:=e0;have hin:(k,x)∈es:=hp'.mem_iff.1 (by simp);obtain⟨Jh,hsx,Ga⟩:=I.Ej _ hin;have aae:=I.top _ hin;show jc Q (jd Q (f+1)) _ _ _ _ _ _ _ _ _ _;unfold jc;have hxI:=ak9 (jV hm Jh);have hlen:=hp'.length_eq;simp[List.length_cons]at hlen;refine ED (K:=fo) ame (acy w) s (i:=1) rfl I.nd hxI (λhx=>?_) λd hx=>?_
   ·refine Mg ame s (i:=1) rfl I.nd hxI λKf w' hnd hd _ s=>?_;refine⟨5,aiU (Y2:=es') hK kg Jh ⟨Ga,by omega⟩ (by omega) (λRs TZ Vl w2 hp2 s2=>?_) 4 0 es' Ek Bi w' rfl (by show es'.Perm (es'++[]);grind) s⟩;obtain⟨I2,hM⟩:=I.step hm hp' hmin hx hnd hd hp2;grind
   ·exact ih es' dm Ek Bi w (by omega) (I.skip hp' (by grind)) s
def aiV {Q:Option Nat->World->Prop}{v0:Value}(s0:Sep F W w L)(hK:rW w fp (v0::.pointer (sZ gr.p)::vs))(kg:nC w gr g)(ht:bJ g.m.w g.m.h t)
  (h:∀mb dm w',oU dm->aiT g.m t dm->Sep F W w' (fO fo vI mb dm::L)->Fr No w w'->Q (some mb) w'):tY (sZ fp) t w Q:=by
 apply Ku;have hm:=kg.ok.may;refine ah (dH (hK 1 _ rfl) ?_);refine jo (aX (F:=No)) kg λw1 s _=>?_;refine aav s _ fo vI λmb w1 s=>?_;refine ah (dH ((hK.fr (aq s)) 1 _ rfl) (jn (kg.fr (aq s)) ?_));have hop:=Cu hm ht;by_cases hw:cR g.m t=255
 ·rw[d_ hw,cond_true];exact h mb [] w1 ak6 (aoS λe=>(hop.1 e) hw) (dz s0 s (i:=0) rfl) (aq s)
 rw[cN hw,cond_false];have ho:=hop.2 hw;refine Hp.Rr s λhp w1 s=>?_;refine Hp.BB s (i:=0) rfl (by simp) λw1 ha hc es hp' s=>?_;have e1:es=[(0,t)]:=by simp_all
 subst e1;have I:=aoR hm ho;have:=akj hK kg (λha hc dm w' hnd hin s=>h mb dm w' hnd hin (dz s0 s (i:=1) rfl) (aq s)) _ [(0,t)] [] ha hc w1 (Nat.le_refl _) I s;refine Hv (λa b c w q=>⟨_,q⟩) this
end
def Mj:∀l:List Int,flat o6 l=l.map λx=>Value.int .i32 x
 |[]=>rfl
 |x::l=>by have:=Mj l;simp[flat,List.flatMap_cons,List.map_cons]at this⊢;rw[this];rfl
def aaz (x:Int)(u:Value)(h:u∈o6 x):u.oneCell'=true:=by simp[o6,List.mem_singleton]at h;rw[h];rfl
def amf {v z:Int}{n k N:Nat}(hk:k<=n)(hN:n+k<=N):
  (flat o6 (List.replicate n v++List.replicate (N-n) z)).take (n*1)++(flat o6 ((List.replicate n v++List.replicate (N-n) z).take n)).take (k*1)++(flat o6 (List.replicate n v++List.replicate (N-n) z)).drop ((n+k)*1)=flat o6 (List.replicate (n+k) v++List.replicate (N-(n+k)) z):=by
 simp only[Mj,Nat.mul_one];rw[<-List.map_take,<-List.map_take,<-List.map_drop,<-List.map_append,<-List.map_append];congr 1;rw[List.take_left' (by simp),List.take_replicate,Nat.min_eq_left hk,List.replicate_append_replicate,<-List.drop_drop,List.drop_left' (by simp),List.drop_replicate,Nat.sub_sub]
section
variable {F:Nat->Prop}{W w w0:World}{L:List As}{xa:Option Addr}{xc:Nat}{v:Int}
def agT {Q:Option Addr->Nat->Nat->World->Prop}{b N:Nat}(hN:N<=1048576)(h:∀w',Sep No w0 w' (ak (sZ b) N N 21 1 (flat o6 (List.replicate N v))::L)->Q (sZ b) N N w'):
  ∀(m n:Nat) (w:World),N<=n+m->1<=n->n<=N->Sep No w0 w (ak (sZ b) N N 21 1 (flat o6 (List.replicate n v++List.replicate (N-n) 0))::L)->jB Q (m+1) (sZ b) N N n w:=by
 have done:∀(R:Option Addr->Nat->Nat->Int->World->Prop) (w:World),Sep No w0 w (ak (sZ b) N N 21 1 (flat o6 (List.replicate N v++List.replicate (N-N) 0))::L)->jA Q R (sZ b) N N N w:=λR w s=>by unfold jA;grind
 intro m;induction m with
 |zero=>
  intro n w hm h1 h2 s;have:n=N:=by omega
  subst this;exact done _ _ s
 |succ m ih=>
  intro n w hm h1 h2 s;show jA Q (jB Q (m+1)) _ _ _ _ _;by_cases hn:n=N
  ·grind
  ·rw[jA,bK];apply Py rfl h2;rw[fR];apply Px rfl h2;have s:=ay s;have hT:=(aN s (i:=0) rfl vu (by decide)).top h2;refine EL (p:=n) dQ s rfl rfl rfl rfl (by decide) (i:=0) rfl (hT.src (e:=21) vu aaz) (by omega) (by simp[Addr.add];omega) λw s=>?_;rw[amf (Nat.min_le_left _ _) (by omega)]at s;have e:IntKind.wrap .i64 ((n:Int)+((min n (N-n):Nat):Int))=((n+min n (N-n):Nat):Int):=by rw[aH];omega
   grind
def aew {N:Nat}{Q:Option Addr->Nat->Nat->World->Prop}(s0:Sep F W w L)(hA:Sl w xa 1 xc 1 o6 [v])(hN:1<=N/\N<=1048576)
  (h:∀ra w',Sep F W w' (ak ra N N 21 1 (flat o6 (List.replicate N v))::L)->Fr No w w'->Q ra N N w'):oZ xa 1 xc N w Q:=by
 apply FY;rw[bu,ku (by decide),ku (by omega)];apply Da (by decide) (by omega) (by omega);have e1:((1:Nat):Int)*N=N:=by omega
 rw[e1,bu (by decide),bu,aH];refine xK (bytes:=4) dQ (aX (F:=No)) rfl rfl rfl rfl rfl rfl (by decide) vu rfl (λu hu=>aaz 0 u hu) rfl rfl (Nat.le_refl _) (by omega) (by simp[maxLen];omega) λb w' s=>?_;refine EL (p:=0) dQ s rfl rfl rfl rfl (by decide) (i:=0) rfl ((hA.fr (aq s)).src (e:=21) vu aaz) (by omega) rfl λw' s=>?_;have hm:min 1 N=1:=by omega
 rw[hm]at s⊢;have e2:(flat o6 (List.replicate N 0)).take (0*1)++(flat o6 [v]).take (1*1)++(flat o6 (List.replicate N 0)).drop ((0+1)*1)=flat o6 (List.replicate 1 v++List.replicate (N-1) 0):=by simp only[Mj,Nat.zero_mul,List.take_zero,List.nil_append,Nat.mul_one,Nat.zero_add];rw[<-List.map_take,<-List.map_drop,<-List.map_append,List.drop_replicate];rfl
 rw[e2]at s;exact⟨N+1,agT hN.2 (λw' s=>h _ _ (dz s0 s (i:=0) rfl) (aq s)) N 1 w' (by omega) (by omega) hN.1 s⟩
end
def SN (m:bM)(t:Int):Int->Int->Prop:=Lc (gB m t) (fT m) (cP m) (og m) t
def EN (m:bM):Int->Int->Int->Prop:=Jw (fT m) (cP m) (og m)
structure Rt (m:bM) (t:Int) (M:Nat) (es:List (Int×Int)) (ds:List Int) (P:Int->Int->Int->Prop):Prop where
 lc:TY (SN m t) (EN m) AV (fC ds) es P
 len:(ds.length:Int)=m.w*m.h
 jE:aiu ds
 nod:∀e∈es,og m e.2/\bJ m.w m.h e.2/\0<=e.1/\e.1<AV
 nS:es.length+Fb ds<=M
section
variable {m:bM}{t:Int}{M:Nat}{es es':List (Int×Int)}{ds:List Int}{P P':Int->Int->Int->Prop}{y k:Int}
def Ti (hy:0<=y/\y<ds.length):fC ds y=gi ds y.toNat:=if_pos hy
def Rt.ag_ (h:Rt m t M es ds P)(hy:og m y)(Kg:bJ m.w m.h y)(hk:0<=k/\k<gi ds y.toNat)(hw:Wy (SN m t) (EN m) y k)(hp:es'.Perm (es++[(k,y)]))(hP:∀x n c,P x n c->x=y->(∃d,fC ds n=d/\k<=d+c)\/P' x n c)(hP':∀x n c,P x n c->x≠y->P' x n c)(hn:∀x c,P x y c->False):
  Rt m t M es' (ds.set y.toNat k) P':=by
 have TR:0<=y/\y<ds.length:=by rw[h.len];exact Kg.2
 have hfy:=Ti TR;have hr:=h.jE _ (fA (i:=y.toNat) (by omega));have hq:∀e,e∈es'↔e∈es\/e=(k,y):=λe=>by grind
 refine⟨h.lc.ag_ (by grind) hw (aiS TR) hq hP hP' hn,by rw[List.length_set];exact h.len,λx hx=>?_,λe he=>?_,?_⟩
 ·rcases List.mem_or_eq_of_mem_set hx with hx|rfl
  ·exact h.jE x hx
  ·omega
 ·rcases(hq e).1 he with he|rfl
  ·exact h.nod e he
  ·exact⟨hy,Kg,hk.1,by unfold AV;omega⟩
 ·have h1:=hp.length_eq;have h2:=aay (k:=k) (ds:=ds) (i:=y.toNat) (by omega);have h3:=h.nS;grind
def aoV:∀x k,SN m t x k->0<=k:=λx k h=>by obtain⟨_,_,⟨d,hd⟩,rfl⟩:=h;exact mR kU (λx n c h=>c7 _ _ _ h.1) (qU kU (λx n c h=>c7 _ _ _ h.1) hd).1
def afG:∀x n c,EN m x n c->0<=c:=λx n c h=>by
 obtain⟨_,hn2,⟨h1,_,⟨d,hd⟩,rfl⟩|⟨_,h1⟩⟩:=h
 ·exact mR (λx k h=>by rw[h.2];grind) (λx n c h=>c7 _ _ _ h.1) (qU (λx k h=>by rw[h.2];grind) (λx n c h=>c7 _ _ _ h.1) hd).1
 ·exact c7 _ _ _ h1
def Ik (m:bM)(t:Int)(ds:List Int):Prop:=(ds.length:Int)=m.w*m.h/\∀x,og m x->bJ m.w m.h x->atF ds x=D m t x
def Rt.done (hm:cT m)(h:Rt m t M [] ds λ_ _ _=>False)(hs:∀x k,SN m t x k->fC ds x<=k\/AV<=k):Ik m t ds:=by
 refine⟨h.len,λx hx hc=>?_⟩;have hxr:0<=x/\x<ds.length:=by rw[h.len];exact hc.2
 rw[avq hxr λy hy=>(h.jE y hy).2,<-auN hm hx];have hB:∀d,Wy (SN m t) (EN m) x d->gM (SN m t) (EN m) x<AV:=λd hd=>by have h1:gM (SN m t) (EN m) x=D m t x:=auN hm hx;have h2:=aqx hm (NA FJ c7 (rG hm) hd);unfold AV;omega
 exact(LcI.done (h.lc.lci hs) aoV afG hB (by decide)).symm
def aoW (hm:cT m):Rt m t ((m.w*m.h).toNat*2147483647) [] (List.replicate (m.w*m.h).toNat AV) λ_ _ _=>False:=by
 have hN:=pA ⟨hm.w,hm.h⟩;have hf:∀x,fC (List.replicate (m.w*m.h).toNat AV) x=AV:=λx=>by
  unfold fC;split
  ·rename_i h;unfold gi;grind
  ·rfl
 refine⟨⟨λx hx=>?_,λx=>?_,λe he=>by simp at he,λx n c _ hn=>?_⟩,by grind,λx hx=>?_,λe he=>by simp at he,?_⟩
 ·grind
 ·grind
 ·grind
 ·rw[List.mem_replicate]at hx;rw[hx.2];unfold AV;omega
 ·rw[aiR];show 0+_<=_;rw[Nat.zero_add];exact Nat.le_refl _
end
section
variable {F:Nat->Prop}{W w w0:World}{L:List As}{fp hp mb hc M:Nat}{ha:Option Addr}{rr:xD}{r:Bz}{x:nE}{gr:uz}{g:iz}{t:Int}{dm es:List (Int×Int)}{ds:List Int}{vs:List Value}
abbrev seL (hp:Nat)(ha:Option Addr)(hc:Nat)(es:List (Int×Int))(rr:xD)(t ep:Int)(ds:List Int):List As:=[Eg rr ⟨t,ep,ds⟩,Hp.qC hp ha hc es]
def aiY {Q:Option Addr->World->Prop}{tC:Option Addr->Addr->Option Addr->Int->Int->Bool->World->Prop}{k node:Int}(hm:cT g.m)(hk:0<=k/\k<AV)(hn:og g.m node)(hnc:bJ g.m.w g.m.h node)(hM:M<4000000000000)
  (h:∀Ek Bi es' ds' w',Rt g.m t M es' ds' (λ_ _ _=>False)->(∀x,fC ds' x<=fC ds x)->es'.length+Fb ds'<=es.length+Fb ds->Sep No w0 w' (seL hp Ek Bi es' rr t g.ep ds')->mD tC Q (sZ fp) (aZ rr.p) (sZ hp) w'){ea:Option Addr}{en ec:Nat}:
  ∀(n i:Nat) (es1:List (Int×Int)) (T0:List Int) (ha1:Option Addr) (YT:Nat) (w:World),i+n=en->Rt g.m t M es1 T0 (λx n c=>n=node/\(x,c)∈(KK g.m node).drop i)->fC T0 node=k->(∀x,fC T0 x<=fC ds x)->es1.length+Fb T0<=es.length+Fb ds->
   Sep No w0 w (ak ea en ec 292 2 (flat Dv (KK g.m node))::seL hp ha1 YT es1 rr t g.ep T0)->jR tC Q (n+1) (sZ fp) (aZ rr.p) (sZ hp) k ea en ec en i w:=by
 intro n;induction n with
 |zero=>
  intro i es1 T0 ha1 YT w hi I hkn hmono hsum s;show mE tC Q (jR tC Q 0) _ _ _ _ _ _ _ _ _ _;unfold mE;have hen:=(aN s (i:=0) rfl Q_ (by decide)).len;rw[bu];refine h ha1 YT es1 T0 w ⟨I.lc.weaken λx n c hP _ _=>?_,I.len,I.jE,I.nod,I.nS⟩ hmono hsum (ai s);grind
 |succ n ih=>
  intro i es1 T0 ha1 YT w hi I hkn hmono hsum s;show mE tC Q (jR tC Q (n+1)) _ _ _ _ _ _ _ _ _ _;unfold mE;have hE:=aN s (i:=0) rfl Q_ (by decide);rw[bK,wrap_i64 (by omega) (by unfold AV at hk;have:=I.nS;have:=hE.le;have:=(RS s (i:=0) rfl).2;simp[maxLen]at this;omega)];refine hE.El rfl (by omega) λp e he yg=>?_;obtain⟨y,c⟩:=e;have hem:=List.mem_of_getElem? he;have hE1:=(aiK hm hn hnc).1 hem;have hc0:=afG _ _ _ hE1;have hyn:=hE1.1;have hne:y≠node:=by
   obtain⟨_,_,⟨_,h2,_⟩|⟨h2,_⟩⟩:=hE1
   ·exact h2
   ·exact λe=>h2 (by rw[e])
  have Kg:bJ g.m.w g.m.h y:=by
   obtain⟨_,_,⟨h1,_⟩|⟨_,h1⟩⟩:=hE1
   ·have:y∈aW g.m (cP g.m node):=by have h3:=hyn;unfold og at h3;rwa[show cP g.m y=cP g.m node from h1]at h3
    exact(mK (bT hnc) this).2.1
   ·exact jV hm h1.1
  have hcb:c<1000000000:=by
   obtain⟨_,_,⟨h1,_,hw,h2⟩|⟨_,h1⟩⟩:=hE1
   ·have e1:=Rm hm (bT hnc) ⟨Kg,h1⟩ ⟨hnc,rfl⟩;have TS:=(mK (bT hnc) hn).1;have h3:=aal hm (bT hnc) ⟨Kg,h1⟩ ⟨hnc,rfl⟩ TS;have h4:=(aak hm (bT hnc) ⟨Kg,h1⟩ ⟨hnc,rfl⟩ TS).2 hw;have h5:=h3.2.1 h4;have h2:c=gM (F_ node) (tO (fT g.m) (cP g.m) (aC g.m.w g.m.h node)) y:=h2;omega
   ·have:=GH h1;omega
  have TR:0<=y/\y<T0.length:=by rw[I.len];exact Kg.2
  have ab4:(KK g.m node).drop i=(y,c)::(KK g.m node).drop (i+1):=by obtain⟨IX,hx⟩:=List.getElem?_eq_some_iff.1 he;rw[List.drop_eq_getElem_cons IX,hx]
  unfold AV at hk;refine aJ (yg 0 _ rfl) (aJ (yg 1 _ rfl) ?_);refine aT s λeb w s=>?_;refine sT s 0 rfl λw s=>?_;refine av s (i:=0) rfl rfl rfl λw s=>?_;refine lI s 0 rfl (lI s 0 rfl ?_);rw[aH];have s:=pk 99 [2,3,1,0] s;have hkw:Wy (SN g.m t) (EN g.m) y (k+c):=.go hE1 (by have:=I.lc.ways node (by rw[hkn];unfold AV;omega);rw[hkn]at this;exact this)
  have hlen:=I.nS;refine LX s TR ⟨by omega,by omega⟩ (λhno=>?_) λhyes w s=>?_
  ·refine ih (i+1) es1 T0 ha1 YT w (by omega) ⟨I.lc.weaken λx n2 c2 hP _ _=>?_,I.len,I.jE,I.nod,I.nS⟩ hkn hmono hsum (pk 99 [2,0,1] s);obtain⟨rfl,h2⟩:=hP;rw[ab4]at h2;rcases List.mem_cons.1 h2 with h2|h2
   ·obtain⟨rfl,rfl⟩:=h2;left;rw[hkn,Ti TR];exact hno
   ·exact .inr (.inr ⟨rfl,h2⟩)
  ·simp only at hyes;refine lI s 3 rfl (lI s 3 rfl ?_);rw[aH];refine Hp.BB s (i:=1) rfl (by omega) λw TZ Vl Rs hp2 s=>?_;have I2:Rt g.m t M Rs (T0.set y.toNat (k+c)) (λx n c=>n=node/\(x,c)∈(KK g.m node).drop (i+1)):=by
    refine I.ag_ hyn Kg ⟨by omega,hyes⟩ hkw hp2 (λx n2 c2 hP ex=>?_) (λx n2 c2 hP ex=>?_) λx c2 hP=>hne hP.1
    ·obtain⟨rfl,h2⟩:=hP;rw[ab4]at h2;rcases List.mem_cons.1 h2 with h2|h2
     ·obtain⟨_,rfl⟩:=h2;exact .inl ⟨_,rfl,by omega⟩
     ·exact .inr ⟨rfl,h2⟩
    ·obtain⟨rfl,h2⟩:=hP;rw[ab4]at h2;rcases List.mem_cons.1 h2 with h2|h2
     ·simp[Prod.mk.injEq]at h2;exact(ex h2.1).elim
     ·exact⟨rfl,h2⟩
   have aaf:=aiS (k:=k+c) TR;have hss:=aay (k:=k+c) (ds:=T0) (i:=y.toNat) (by omega);have IU:=hp2.length_eq;rw[List.length_append,List.length_singleton]at IU;refine ih (i+1) Rs _ TZ Vl w (by omega) I2 (by rw[aaf,if_neg λe=>hne e.symm];exact hkn) (λz=>?_) (by omega) (pk 99 [2,0,1] s);rw[aaf];split
   ·rename_i e;rw[e];have:=hmono y;rw[Ti TR]at this;omega
   ·exact hmono z
end
section
variable {F:Nat->Prop}{W w w0:World}{L:List As}{fp hp mb hc M:Nat}{ha:Option Addr}{rr:xD}{r:Bz}{x:nE}{gr:uz}{g:iz}{t:Int}{dm es:List (Int×Int)}{ds:List Int}{vs:List Value}
def akk {Q:Option Addr->World->Prop}(hF:rW w0 fp (.pointer (sZ r.p)::vs))(k:EC w0 r gr.p x)(kg:nC w0 gr g)(I:yF g x)(hf:NY g x)(hM:M<4000000000000)
  (h:∀ha hc ds w',Ik g.m t ds->Sep No w0 w' (seL hp ha hc [] rr t g.ep ds)->Q (sZ rr.p) w'):
  ∀(f:Nat) (es:List (Int×Int)) (ds:List Int) (ha:Option Addr) (hc:Nat) (w:World),es.length+Fb ds<=f->Rt g.m t M es ds (λ_ _ _=>False)->(∀x k,SN g.m t x k->fC ds x<=k\/AV<=k)->Sep No w0 w (seL hp ha hc es rr t g.ep ds)->
   mD (iK Q (f+1)) Q (sZ fp) (aZ rr.p) (sZ hp) w:=by
 have hm:=kg.ok.may;intro f;induction f with
 |zero=>
  intro es ds ha hc w hf' J hs s;obtain rfl:es=[]:=List.eq_nil_of_length_eq_zero (by omega);refine Hp.Dd s (i:=1) rfl (by simp) (λ_ w s=>?_) λh0=>by simp at h0
  show iJ Q (iK Q 0) _ _ _ _ _ _ _;unfold iJ;exact h ha hc ds w (J.done hm hs) s
 |succ f ih=>
  intro es ds ha hc w hf' J hs s;have o7:=J.nS;refine Hp.Dd s (i:=1) rfl (by omega) (λe w s=>?_) λh0 w Ek Bi es' hp' sN=>?_
  ·subst e;show iJ Q (iK Q (f+1)) _ _ _ _ _ _ _;unfold iJ;exact h ha hc ds w (J.done hm hs) s
  ·have s:=sN;generalize hge:Hp.g es 0=e0 at hp'⊢;obtain⟨key,node⟩:=e0;have hin:(key,node)∈es:=hp'.mem_iff.1 (by simp);obtain⟨hn,hnc,Ga,hkC⟩:=J.nod _ hin;have hle:=J.lc.key _ hin;have hnr:0<=node/\node<ds.length:=by rw[J.len];exact hnc.2
   rw[Ti hnr]at hle;have hl:=hp'.length_eq;simp[List.length_cons]at hl;have hq:∀e,e∈es↔e∈es'\/e=(key,node):=λe=>by grind
   have J1:Rt g.m t M es' ds (λx n c=>n=node/\fC ds node=key/\EN g.m x n c):=⟨J.lc.pop hq,J.len,J.jE,λe he=>J.nod e ((hq e).2 (.inl he)),by omega⟩;show iJ Q (iK Q (f+1)) _ _ _ _ _ _ _;unfold iJ;have hrk:=S0 s;have hdr:=J.jE _ (fA (i:=node.toNat) (by omega));apply cS (hrk.cell 2 _ rfl);apply F5 hrk.V (k:=node.toNat) (by omega) (by have hvl:ds.length=rr.n:=hrk.V.len;omega);rw[aH (n:=gi ds node.toNat)];by_cases hgt:key>gi ds node.toNat
   ·rw[bK hgt];refine ih es' ds Ek Bi w (by omega) ⟨J1.lc.weaken λx n c hP _ _=>?_,J1.len,J1.jE,J1.nod,J1.nS⟩ hs s;obtain⟨_,h2,_⟩:=hP;rw[Ti hnr]at h2;omega
   ·rw[bu hgt];have hkey:fC ds node=key:=by rw[Ti hnr];omega
    refine ah (dH (by have:=(hF.fr (aq s)) 0 _ rfl;rw[add_zero]at this;exact this) ?_);refine acm s (k.fr (aq s)) (kg.fr (aq s)) I hf hnc hn λea en ec w s _=>?_;have J2:Rt g.m t M es' ds (λx n c=>n=node/\(x,c)∈(KK g.m node).drop 0):=⟨J1.lc.weaken λx n c hP hE _=>by obtain⟨rfl,_,_⟩:=hP;exact .inr (.inr ⟨rfl,by rw[List.drop_zero];exact(aiK hm hn hnc).2 hE⟩),J1.len,J1.jE,J1.nod,J1.nS⟩
    refine⟨en+1,aiY hm ⟨Ga,hkC⟩ hn hnc hM (λTZ Vl Rs ds2 w2 J3 hmono hsum s=>?_) en 0 es' ds Ek Bi w (by omega) J2 hkey (λ_=>Int.le_refl _) (Nat.le_refl _) s⟩;grind
def ai1 {Q:Option Addr->World->Prop}(hF:rW w0 fp (.pointer (sZ r.p)::vs))(k:EC w0 r gr.p x)(kg:nC w0 gr g)(I:yF g x)(hf:NY g x)(hM:M<4000000000000)(ht:bJ g.m.w g.m.h t)(hnd:oU dm)(hin:aiT g.m t dm)
  (h:∀ha hc ds w',Ik g.m t ds->Sep No w0 w' (seL hp ha hc [] rr t g.ep ds)->Q (sZ rr.p) w'){na:Option Addr}{nn nc:Nat}:
  ∀(n i:Nat) (es:List (Int×Int)) (ds:List Int) (ha:Option Addr) (hc:Nat) (w:World),i+n=nn->Rt g.m t M es ds (λ_ _ _=>False)->(∀x k,SN g.m t x k->x∈(aW g.m (cP g.m t)).take i->fC ds x<=k\/AV<=k)->
   Sep No w0 w (ak na nn nc 3 1 (flat one (aW g.m (cP g.m t)))::fO fo vI mb dm::seL hp ha hc es rr t g.ep ds)->je Q (n+1) (sZ fp) (aZ rr.p) (sZ hp) (some mb) na nn nc nn i w:=by
 have hm:=kg.ok.may;have hs0:=bT ht;have aBR:=zR hs0;intro n;induction n with
 |zero=>
  intro i es ds ha hc w hi J hs s;show m_ Q (je Q 0) _ _ _ _ _ _ _ _ _ _;unfold m_;have hnl:=(aN s (i:=0) rfl cv (by decide)).len;rw[bu];have hs':∀x k,SN g.m t x k->fC ds x<=k\/AV<=k:=λx k hx=>hs x k hx (by obtain⟨h1,h2,_⟩:=hx;have h1:x∈aW g.m (cP g.m x):=h1;grind)
  have:=akk hF k kg I hf hM h _ es ds ha hc w (Nat.le_refl _) J hs' (ai (ai s));exact Hv (λa b c w q=>⟨_,q⟩) this
 |succ n ih=>
  intro i es ds ha hc w hi J hs s;show m_ Q (je Q (n+1)) _ _ _ _ _ _ _ _ _ _;unfold m_;have hN:=aN s (i:=0) rfl cv (by decide);have hnl:=hN.len;have aqc:(aW g.m (aC g.m.w g.m.h t)).length=nn:=hnl;rw[bK,aH];apply hN.qD rfl (by omega);have hmem:=fA (l:=aW g.m (cP g.m t)) (i:=i) (by omega);obtain⟨hyo,Kg,hys⟩:=mK hs0 hmem;have hyn:og g.m (gi (aW g.m (cP g.m t)) i):=by show _∈aW g.m (aC g.m.w g.m.h _);rw[hys];exact hmem
  have yl:(aW g.m (cP g.m t)).take (i+1)=(aW g.m (cP g.m t)).take i++[gi (aW g.m (cP g.m t)) i]:=by rw[List.take_add_one,iA (by omega)];rfl
  generalize gi (aW g.m (cP g.m t)) i=y at hyo Kg hys hyn yl⊢;have TR:0<=y/\y<ds.length:=by rw[J.len];exact Kg.2
  have o7:=J.nS;obtain⟨YU,hi2⟩:=hin y;have only:∀k,SN g.m t y k->k=gM (gB g.m t) (Bf g.m t) y/\gM (gB g.m t) (Bf g.m t) y<cf:=λk hk=>by
   obtain⟨_,_,⟨d,hd⟩,rfl⟩:=hk;refine⟨rfl,?_⟩;have h1:=Wy.mono (λx k h=>.src h) (λx n c d e h=>.go e.1 h) (qU kU (λx n c h=>c7 _ _ _ h.1) hd).1;refine Classical.byContradiction λhno=>?_;have hl:=abc (S:=gB g.m t) (E:=Bf g.m t) (λx k h=>S3 h) (λx n c h=>GH h.1) (jW g.m) (λx d h=>by
    cases h with
    |src h=>exact zB hm (jV hm (by rw[h.1];exact h.2.1))
    |go e _=>exact zB hm (jV hm e.1.1)) hd
   have h2:((jW g.m).length:Int)=g.m.w*g.m.h:=by rw[<-hm.len];simp[jW]
   have h3:=pA ⟨hm.w,hm.h⟩;unfold cf at hno;omega
  have skip:∀(w:World),(∀k,SN g.m t y k->fC ds y<=k\/AV<=k)->Sep No w0 w (ak na nn nc 3 1 (flat one (aW g.m (cP g.m t)))::fO fo vI mb dm::seL hp ha hc es rr t g.ep ds)->
    je Q (n+1) (sZ fp) (aZ rr.p) (sZ hp) (some mb) na nn nc nn ((i:Int)+1) w:=λw hy s=>by
   refine ih (i+1) es ds ha hc w (by omega) J (λz k hz hzm=>?_) s;rw[yl]at hzm;rcases List.mem_append.1 hzm with h1|h1
   ·exact hs z k hz h1
   ·rw[List.mem_singleton]at h1;subst h1;exact hy k hz
  refine ED (K:=fo) ame (acy w) s (i:=1) rfl hnd (ak9 Kg) (λhx=>?_) λd hx=>?_
  ·refine skip w (λk hk=>?_) s;rw[hx]at YU;rw[if_pos (only k hk).2]at YU;cases YU
  ·rw[hx]at YU;have hlt:gM (gB g.m t) (Bf g.m t) y<cf:=by refine Classical.byContradiction λhno=>?_;rw[if_neg hno]at YU;cases YU
   rw[if_pos hlt]at YU;obtain rfl:d=gM (gB g.m t) (Bf g.m t) y:=Option.some.inj YU;obtain⟨hd0,hd1⟩:=hi2 hlt;have s2:=pk 99 [2,3,0,1] s;refine LX s2 TR ⟨hd0,by omega⟩ (λhno=>?_) λhyes w s=>?_
   ·refine skip w (λk hk=>.inl ?_) s;rw[(only k hk).1,Ti TR];exact hno
   ·refine Hp.BB s (i:=1) rfl (by omega) λw TZ Vl Rs hp2 s=>?_;have hsrc:SN g.m t y (gM (gB g.m t) (Bf g.m t) y):=⟨hyn,hys,by refine Classical.byContradiction λhno=>?_;have:gM (gB g.m t) (Bf g.m t) y=cf:=xL λd hd=>hno ⟨d,hd⟩;omega,rfl⟩
    have J2:=J.ag_ hyn Kg ⟨hd0,hyes⟩ (.src hsrc) hp2 (λ_ _ _ h=>h.elim) (λ_ _ _ h _=>h) λ_ _ h=>h;have aaf:=aiS (k:=gM (gB g.m t) (Bf g.m t) y) TR;refine ih (i+1) Rs _ TZ Vl w (by omega) J2 (λz k hz hzm=>?_) (pk 99 [2,3,0,1] s);rw[aaf];by_cases ez:z=y
    ·subst ez;rw[if_pos rfl,(only k hz).1];exact .inl (Int.le_refl _)
    ·rw[if_neg ez];rw[yl]at hzm;rcases List.mem_append.1 hzm with h1|h1
     ·exact hs z k hz h1
     ·rw[List.mem_singleton]at h1;exact(ez h1).elim
def atw {b:Nat}{v:Int}(s:Sep F W w (ax b 21 [.int .i32 v]::L)):Sl w (sZ b) 1 1 1 o6 [v]:=
 aN (g7 s (i:=0) rfl rfl (by decide) (λu hu=>by rw[List.mem_singleton]at hu;rw[hu];rfl)) (i:=0) rfl vu (by decide)
def ai2 {Q:Option Addr->World->Prop}(s0:Sep F W w L)(hF:rW w fp (.pointer (sZ r.p)::.pointer (sZ gr.p)::vs))(k:EC w r gr.p x)(kg:nC w gr g)(I:yF g x)(hf:NY g x)(ht:bJ g.m.w g.m.h t)(uJ:g.m.w*g.m.h<=1600)
  (h:∀rr ds w',Ik g.m t ds->Sep F W w' (Eg rr ⟨t,g.ep,ds⟩::L)->Fr No w w'->Q (sZ rr.p) w'):tW (sZ fp) t w Q:=by
 apply Kv;have hm:=kg.ok.may;have hN:=pA ⟨hm.w,hm.h⟩;refine ah (dH (hF 1 _ rfl) ?_);refine jo (aX (F:=No)) kg λw1 s _=>?_;refine ah (dH ((hF.fr (aq s)) 1 _ rfl) (ri (kg.fr (aq s)) ?_));refine aM s λib w1 s=>?_;rw[aH,show g.m.w*g.m.h=(((g.m.w*g.m.h).toNat:Nat):Int) by omega];refine aew s (atw s) (by omega) λda w1 s _=>?_;refine aM s λrb w1 s=>?_;have amg:=aoW (t:=t) hm;have hMb:(g.m.w*g.m.h).toNat*2147483647<4000000000000:=by omega
 generalize hMe:(g.m.w*g.m.h).toNat*2147483647=M at amg hMb;have s1:=pk 99 [0,1] s;have s1:Sep No w w1 [Eg ⟨rb,da,(g.m.w*g.m.h).toNat,(g.m.w*g.m.h).toNat⟩ ⟨t,g.ep,List.replicate (g.m.w*g.m.h).toNat AV⟩]:=YP s1 amg.jE;refine Hp.Rr s1 λhp w1 s=>?_;refine aiV s (hF.fr (aq s)) (kg.fr (aq s)) ht λmb dm w1 hnd hin s _=>?_;have s:=ay s;have hc0:∀{w':World} {L':List As},Sep No w w' L'->w'.cell? (aZ fp)=some (.pointer (sZ r.p)):=λs=>by have:=(hF.fr (aq s)) 0 _ rfl;exact this
 refine ah (dH (hc0 s) ?_);refine eY s λw1 s _=>⟨hc0 s,?_⟩;have hs0:=bT ht;have hps:x.ps[(aC g.m.w g.m.h t).toNat]? =some (x.ps[(aC g.m.w g.m.h t).toNat]'(by have:=I.len;have:=hs0.2;omega)):=List.getElem?_eq_getElem _;generalize x.ps[(aC g.m.w g.m.h t).toNat]'(by grind)=q at hps;have hc:=(Ig I hf hps).1;rw[Int.toNat_of_nonneg hs0.2.1]at hc;have o7:=zR hs0;rw[show aC g.m.w g.m.h t=(((aC g.m.w g.m.h t).toNat:Nat):Int)from(Int.toNat_of_nonneg hs0.2.1).symm];refine aao s (k.fr (aq s)) hps (by grind) λna nn nc w1 s _=>?_;rw[hc]at s;refine⟨nn+1,ai1 (rr:=⟨rb,da,(g.m.w*g.m.h).toNat,(g.m.w*g.m.h).toNat⟩) hF k kg I hf hMb ht hnd hin (λha hc ds w' hok s'=>h _ ds w' hok (dz s0 s' (i:=0) rfl) (aq s')) nn 0 [] (List.replicate (g.m.w*g.m.h).toNat AV) none 0 w1 (by omega) amg (λx k _ h=>by simp at h) ?_⟩;exact pk 99 [0,1,3,2] s
end
end Go.Proofs.YtmegplnmiepfbaaGreatDoor.S
namespace Go.Proofs.YtmegplnmiepfbaaGreatDoor.S
open Go.Sx
def isS {p:Addr}{A B:Prop}(h:A):cond (!(some p).isNone) A B:=h
attribute [local irreducible] af cQ bG bp aA cE cw St Bx Al App cV cO cM bZ aQ bI au cj ax ak bg mapA
structure GP where
 kept:Option (xD×GD)
 fV:Int
def aso (k:Option (xD×GD)):Option Addr:=k.map λq=>(aZ q.1.p)
def amh (mp gp:Nat)(f:GP):List Value:=[.pointer (sZ mp),.pointer (sZ gp),.pointer (aso f.kept),.int .u64 f.fV]
def aoY (k:Option (xD×GD)):List As:=match k with
 |some q=>[Eg q.1 q.2]
 |none=>[]
def acA (fp mp gp:Nat)(f:GP):List As:=ax fp 197 (amh mp gp f)::aoY f.kept
def uE (fp mp gp:Nat)(f:GP):As:=bg True (acA fp mp gp f)
structure acB (g:iz) (f:GP):Prop where
 kept:∀q,f.kept=some q->q.2.ep<=g.ep/\(q.2.ep=g.ep->bJ g.m.w g.m.h q.2.goal/\Ik g.m q.2.goal q.2.ds)
 u:Ta.U f.fV
def N9 (f:GP):Option (Int×Int):=f.kept.map λq=>(q.2.goal,q.2.ep)
section
variable {F:Nat->Prop}{W w w0:World}{L:List As}{fp:Nat}{rr:xD}{r:Bz}{x:nE}{gr:uz}{g:iz}{t:Int}{f:GP}{mp gp:Nat}
def N_ (s:Sep F W w (uE fp mp gp f::L)):Sep F W w (acA fp mp gp f++L):=(gP s).2
def Tj (s:Sep F W w (acA fp mp gp f++L)):Sep F W w (uE fp mp gp f::L):=dy s trivial
def acC {Q:Option Addr->World->Prop}(s:Sep F W w L)(h:∀fp w',Sep F W w' (uE fp mp gp ⟨none,0⟩::L)->Fr No w w'->Q (sZ fp) w'):Gg (sZ mp) (sZ gp) w Q:=by apply aby;refine kT (kT ?_);refine aM (aX (F:=No)) λfb w1 s1=>?_;have s2:Sep No w w1 [uE fb mp gp ⟨none,0⟩]:=Tj s1;exact h fb w1 (dz s s2 (i:=0) rfl) (aq s2)
def Oa (s:Sep F W w (uE fp mp gp f::L)):rW w fp (amh mp gp f):=by have s:=N_ s;exact ld s (i:=0) rfl
def afH {q:xD×GD}(s:Sep F W w (uE fp mp gp f::L))(h:f.kept=some q):GF w q.1 q.2:=by have s:=N_ s;unfold acA aoY at s;rw[h]at s;exact S0 (ai s)
def WN {Q:Int->World->Prop}(k:rW w fp (amh mp gp f))(h:Q f.fV w):pH (sZ fp) w Q:=by apply Ca;exact kT (ah (aJ (k 3 _ rfl) h))
def WO {Q:Int->World->Prop}(h:Q 0 w):pH Option.none w Q:=Ca _ _ _ h
def Yw {Q:World->Prop}(s:Sep F W w (uE fp mp gp f::L))(h:∀w',Sep F W w' (uE fp mp gp ⟨none,f.fV⟩::L)->Q w'):qx (sZ fp) w Q:=by apply Dq;have s:=N_ s;have s:=s;refine isS (ah (sT s 0 rfl λw s=>?_));refine h w (Tj ?_);apply gj s;exact List.Sublist.cons_cons _ (List.sublist_append_right _ _)
def Yx {Q:Option Addr->World->Prop}(s:Sep F W w (nW gr g::uA r gr.p x::uE fp r.p gr.p f::L))(I:yF g x)(J:acB g f)(ht:bJ g.m.w g.m.h t)(uJ:g.m.w*g.m.h<=1600)
  (h:∀(x':nE) rr ds w',yF g x'->NY g x'->x'.clean=g.ep->x'.fV=aej (kF g x x.ps.length).length x.fV->Ik g.m t ds->
   Sep F W w' (nW gr g::uA r gr.p x'::uE fp r.p gr.p ⟨some (rr,⟨t,g.ep,ds⟩),if N9 f=some (t,g.ep)then f.fV else Ta.sat f.fV 1⟩::L)->Q (sZ rr.p) w'):wv (sZ fp) t w Q:=by
 apply M1;have kg:=oS s;have hm:=kg.ok.may;have kf:=Oa (ai (ai s));have arZ:=L4 hm ht;refine kT (ah (dH (kf 1 _ rfl) (jn kg ?_)));rw[cN (by omega),cond_false];refine ah (dH (by have:=kf 0 _ rfl;rw[add_zero]at this;exact this) ?_);refine WG s I λx' w1 I' hfr yg Wx s=>?_;have s:=ay s;have kg:=oS s;have kf:=Oa (ai (ai s));have b5:∀(w2:World),N9 f≠some (t,g.ep)->Sep F W w2 (nW gr g::uA r gr.p x'::uE fp r.p gr.p f::L)->oD Q (sZ fp) t w2:=λw2 hne s=>by refine ai2 s (Oa (ai (ai s))) (WC (ai s)) (oS s) I' hfr ht uJ λrr ds w3 hok s _=>?_;have s1:=b_ s (L':=uE fp r.p gr.p f::Eg rr ⟨t,g.ep,ds⟩::nW gr g::uA r gr.p x'::L) (List.perm_middle (l₁:=[_,_,_]));have s1:=N_ s1;have s1:=s1;refine ah (sT s1 0 rfl λw3 s=>?_);refine ah (lI s 0 rfl ?_);apply Ta.By J.u (by unfold Ta.U;omega);refine ah (av s (i:=0) rfl rfl rfl λw3 s=>?_);refine ah (lP s 0 rfl ?_);apply h x' rr ds w3 I' hfr yg Wx hok;rw[if_neg hne];have s2:=gj s (List.Sublist.cons_cons _ (List.sublist_append_right _ _));exact b_ (Tj s2) (L':=nW gr g::uA r gr.p x'::uE fp r.p gr.p _::L) (List.perm_middle (l₁:=[_,_])).symm
 refine ah (dH (kf 2 _ rfl) ?_);cases hk:f.kept with
 |none=>
  show cond true _ _;refine b5 _ ?_ s;unfold N9;grind
 |some q=>
  obtain⟨rr0,t0⟩:=q;have hP:aso (some (rr0,t0))=sZ rr0.p:=rfl;apply kT;have kr:=afH (ai (ai s)) hk;have hcell:w1.drew.cell? ((aZ fp).add 2)=some (.pointer (sZ rr0.p)):=by have:=kf 2 _ rfl;grind
  refine ah (dH hcell (ah (aJ (by have:=kr.cell 0 _ rfl;rw[add_zero]at this;exact this) ?_)));have hkg:N9 f=some (t0.goal,t0.ep):=by unfold N9;rw[hk];rfl
  by_cases hg:t0.goal=t
  ·rw[show(t0.goal !=t)=false by grind,cond_false];refine ah (dH hcell (ah (aJ (kr.cell 1 _ rfl) ?_)));refine ah (dH (kf 1 _ rfl) (ri kg ⟨kr.cell 1 _ rfl,hcell,?_⟩));by_cases he:t0.ep=g.ep
   ·rw[show(t0.ep !=g.ep)=false by grind,cond_false];refine ah (dH hcell ?_);have hq:=(J.kept _ hk).2 he;rw[hg]at hq;apply h x' rr0 t0.ds _ I' hfr yg Wx hq.2;have e:f=⟨some (rr0,⟨t,g.ep,t0.ds⟩),f.fV⟩:=by
     cases f with
     |mk kept fV=>
      simp only at hk;rw[hk,<-hg,<-he]
    grind
   grind
  grind
end
end Go.Proofs.YtmegplnmiepfbaaGreatDoor.S
namespace Go.Proofs.YtmegplnmiepfbaaGreatDoor.S
open Go.Sx
attribute [local irreducible] af cQ bG bp aA cE cw St Bx Al App cV cO cM bZ aQ bI au cj ax ak bg mapA
section
variable {m:bM}{t sc c:Int}{ds:List Int}
def amj (hm:cT m){e:Int×Int}(h:e∈vq m c):og m e.1/\bJ m.w m.h e.1/\og m c/\bJ m.w m.h c/\0<e.2/\e.2<255:=by obtain⟨ho,s,hs,h1,h2,rfl⟩:=Wr.1 h;obtain⟨h3,h4⟩:=Cv h1;have hst:fT m c (gL m.w m.h c s) (cR m (gL m.w m.h c s)):=⟨ho,h2,⟨s,hs,h3.symm⟩,rfl⟩;have hne:cP m c≠cP m (gL m.w m.h c s):=λe=>h4 (by rw[<-h3];exact e.symm);have hn:=rG hm _ _ _ hst hne;exact⟨hn.2,jV hm h2,hn.1,jV hm ho,Cs h2⟩
def KQ {at_:Int->Int}:(IF m at_ c).Pairwise (λa b=>a.s<b.s)/\∀x∈IF m at_ c,x.c=dX m.w m.h c/\0<=x.s/\x.s<=3/\e_ m c=true:=by
 unfold IF vq;split
 ·rw[GB,List.filterMap_filterMap];have side:∀(a:Nat),a<4->∀x,(FI m c a).bind (λe=>if at_ e.1=cf then none else some (⟨dX m.w m.h c,Ap m.w m.h c e.1,e.2+at_ e.1⟩:bh))=some x->x.s=a/\x.c=dX m.w m.h c:=λa ha x h=>by
   unfold FI at h;split at h
   ·rename_i h4;simp only[Option.bind_some]at h;split at h
    ·cases h
    ·cases h;obtain⟨h5,_⟩:=Cv h4.1;refine⟨?_,rfl⟩;rw[h5];exact Wq ⟨by omega,by omega⟩ (by grind)
   ·simp at h
  constructor
  ·rw[List.pairwise_filterMap];refine List.Pairwise.imp_of_mem ?_ List.pairwise_lt_range;grind
  grind
 simp_all
def ao1 {at_:Int->Int}:(IF m at_ c).length<=4:=by
 unfold IF vq;split
 ·unfold GB;grind
 ·simp
def ai3 {α β:Type}{f:α->List β}{k:Nat}:∀{l:List α},(∀a∈l,(f a).length<=k)->(l.flatMap f).length<=l.length*k
 |[],_=>by simp
 |a::l,h=>by have h1:=h a (by simp);have h2:=ai3 (l:=l) λb hb=>h b (by simp[hb]);rw[List.flatMap_cons,List.length_append,List.length_cons,Nat.add_mul,Nat.one_mul];omega
def WQ {at_:Int->Int}(hs:dW m.w m.h sc):(E7 m at_ t sc).Nodup/\(E7 m at_ t sc).length<=1025:=by
 have o7:=zR hs;constructor
 ·rw[E7,List.nodup_append];refine⟨?_,by grind,?_⟩
  ·show List.Pairwise _ _;rw[List.pairwise_flatMap];refine⟨λc _=>List.Pairwise.imp (λh e=>by grind) KQ.1,?_⟩;refine List.Pairwise.imp_of_mem ?_ (akg hs);intro c c' hc Bi hne x hx y hy e;have h1:=(KQ.2 x hx).1;have h2:=(KQ.2 y hy).1;obtain⟨_,c1,c2⟩:=mK hs hc;obtain⟨_,c3,c4⟩:=mK hs Bi;have g1:=nU c1;have g2:=nU c3;grind
  ·intro x hx y hy e;obtain⟨c,hc,hx⟩:=List.mem_flatMap.1 hx;have h1:=(KQ.2 x hx).2;grind
 ·unfold E7;have h1:=ai3 (f:=IF m at_) (l:=aW m sc) λc _=>ao1;grind
end
section
variable {F:Nat->Prop}{W w w0:World}{L:List As}{rr:xD}{gr:uz}{g:iz}{t sc:Int}{ds:List Int}{a:Option Addr}{n c:Nat}{es:List bh}
def avv {x:bh}{K:Option Addr->Nat->Nat->World->Prop}(s:Sep F W w (ak a n c 294 3 (flat fS es)::L))(hn:n<=1000000000)
  (k:∀a' c' w',Sep F W w' (ak a' (n+1) c' 294 3 (flat fS (es++[x]))::L)->K a' (n+1) c' w'):Bx [ae x.c,ae x.s,ae x.k] 294 w λp w1=>App P #[278,278] 278 (.slice a n c) (.slice (some p) 1 1) w1 K:=by
 refine aM s λb w s=>?_;have src:Src w (sZ b) 1 3 (fS x):=⟨rfl,Wk x,λj u hj=>by rw[cq,Nat.zero_add];exact cF s (i:=0) rfl rfl hj⟩;refine iq dQ s (i:=1) (bytes:=24) rfl rfl rfl rfl rfl rfl (by decide) rfl src (by simp[maxLen];omega) (by omega) (λe=>by cases e) λa1 c1 w1 s1=>?_;have e:flat fS es++fS x=flat fS (es++[x]):=by rw[fZ];simp[flat]
 rw[e]at s1;exact k _ _ _ (ai s1)
def WR {Q:Option Addr->Nat->Nat->World->Prop}(s0:Sep F W w L)(kg:nC w gr g)(kr:GF w rr ⟨t,g.ep,ds⟩)(hok:Ik g.m t ds)(ht:bJ g.m.w g.m.h t)(hs:dW g.m.w g.m.h sc)
  (h:∀ra rn rc w',Sep F W w' (ak ra rn rc 294 3 (flat fS (NP (E7 g.m (D g.m t) t sc)))::L)->Fr No w w'->Q ra rn rc w'):B4 (sZ gr.p) (sZ rr.p) sc w Q:=by
 apply VX;have hm:=kg.ok.may;have o7:=zR hs;obtain⟨hnd,hlen⟩:=WQ hs;have hN:=pA ⟨hm.w,hm.h⟩;refine jo (aX (F:=No)) kg λw1 s _=>?_;apply kT;refine Ys (kr.fr (aq s)) (ri (kg.fr (aq s)) ?_);rw[bne_self_eq_false,cond_false];refine xC s (kg.fr (aq s)) hs λna nn nc w1 s _=>?_;have hnl:=(aN s (i:=0) rfl cv (by decide)).len;have fin:∀(oa:Option Addr) (on oc:Nat) (w2:World),Sep No w w2 [ak oa on oc 294 3 (flat fS (E7 g.m (D g.m t) t sc))]->kG oa on oc w2 λra rn rc w3=>Q ra rn rc w3:=λoa on oc w2 s=>by have hS:=aN s (i:=0) rfl nD (by decide);have:=hS.len;refine Av s hS (by omega) hnd λra rc w3 s _=>?_;exact h ra on rc w3 (dz s0 s (i:=0) rfl) (aq s)
 have nodes:∀(k i:Nat) (oa:Option Addr) (on oc:Nat) (w2:World),i+k=nn->on<=4*i->Sep No w w2 [ak oa on oc 294 3 (flat fS (((aW g.m sc).take i).flatMap (IF g.m (D g.m t)))),ak na nn nc 3 1 (flat one (aW g.m sc))]->
   n_ Q (k+1) (sZ gr.p) (sZ rr.p) sc g.m.w g.m.h oa on oc na nn nc nn i w2:=by
  intro k;induction k with
  |zero=>
   intro i oa on oc w2 hi ho s;show vl Q (n_ Q 0) _ _ _ _ _ _ _ _ _ _ _ _ _ _;rw[vl,bu];rw[List.take_of_length_le (by omega)]at s;apply Z_ (kr.fr (aq s));refine eY s λw2 s _=>?_;unfold E7 at fin;by_cases Tb:aC g.m.w g.m.h t=sc
   ·rw[d_ Tb,cond_true];apply jn (kg.fr (aq s));by_cases hw:cR g.m t=255
    ·rw[hw,bne_self_eq_false,cond_false];rw[if_neg λe=>e.2 hw,List.append_nil]at fin;exact fin oa on oc w2 (pk 99 [0] s)
    ·rw[show(cR g.m t !=255)=true by grind,cond_true];rw[if_pos ⟨Tb,hw⟩]at fin;refine tE s λw2 s _=>?_;refine avv (x:=⟨dX g.m.w g.m.h t,4,0⟩) s (by omega) λoa oc w2 s=>?_;exact fin oa _ oc w2 (pk 99 [0] s)
   ·rw[cN Tb,cond_false];rw[if_neg λe=>Tb e.1,List.append_nil]at fin;exact fin oa on oc w2 (pk 99 [0] s)
  |succ k ih=>
   intro i oa on oc w2 hi ho s;show vl Q (n_ Q (k+1)) _ _ _ _ _ _ _ _ _ _ _ _ _ _;rw[vl,bK];apply(aN s (i:=1) rfl cv (by decide)).qD rfl (by omega);have yl:(aW g.m sc).take (i+1)=(aW g.m sc).take i++[gi (aW g.m sc) i]:=by rw[List.take_add_one,iA (by omega)];rfl
   generalize gi (aW g.m sc) i=c at yl⊢;refine Wj s (kg.fr (aq s)) λea en ec w2 s _=>?_;have yg:=(aN s (i:=0) rfl Q_ (by decide)).len;have hc4:(vq g.m c).length<=4:=by
    unfold vq;split
    ·exact Nat.le_trans (List.length_filterMap_le _ _) (by simp)
    ·simp
   have wU:∀(k2 j:Nat) (oa:Option Addr) (on oc:Nat) (w2:World),j+k2=en->on<=4*i+j->Sep No w w2 [ak oa on oc 294 3 (flat fS (((aW g.m sc).take i).flatMap (IF g.m (D g.m t))++((vq g.m c).take j).filterMap λe=>if D g.m t e.1=cf then none else some ⟨dX g.m.w g.m.h c,Ap g.m.w g.m.h c e.1,e.2+D g.m t e.1⟩)),ak ea en ec 292 2 (flat Dv (vq g.m c)),ak na nn nc 3 1 (flat one (aW g.m sc))]->
     qZ (n_ Q (k+1)) Q (k2+1) (sZ gr.p) (sZ rr.p) sc g.m.w g.m.h oa on oc c na nn nc nn i ea en ec en j w2:=by
    intro k2;induction k2 with
    |zero=>
     intro j oa on oc w2 hj ho s;show vk _ Q (qZ _ Q 0) _ _ _ _ _ _ _ _ _ _ _ _ _ _ _ _ _ _ _ _;rw[vk,bu,aH];rw[List.take_of_length_le (l:=vq g.m c) (by omega)]at s;apply ih (i+1) oa on oc w2 (by omega) (by omega);rw[yl,List.flatMap_append,List.flatMap_singleton];exact pk 99 [0,2] s
    |succ k2 ih2=>
     intro j oa on oc w2 hj ho s;show vk _ Q (qZ _ Q (k2+1)) _ _ _ _ _ _ _ _ _ _ _ _ _ _ _ _ _ _ _ _;rw[vk,bK,aH];refine(aN s (i:=1) rfl Q_ (by decide)).El rfl (by omega) λp e he ais=>?_;have avw:=Rp (f:=λe:Int×Int=>if D g.m t e.1=cf then none else some (⟨dX g.m.w g.m.h c,Ap g.m.w g.m.h c e.1,e.2+D g.m t e.1⟩:bh)) he;obtain⟨h1,h2,h3,h4,h5,h6⟩:=amj hm (List.mem_of_getElem? he);have IV:=hok.2 _ h1 h2;refine aJ (ais 0 _ rfl) (aJ (ais 1 _ rfl) ?_);refine aT s λeb w2 s=>?_;refine sT s 0 rfl λw2 s=>?_;refine av s (i:=0) rfl rfl rfl λw2 s=>?_;apply lI s 0 rfl;apply ad8 (kr.fr (aq s));rw[IV];by_cases hI:D g.m t e.1=cf
     ·have WE:D g.m t e.1=1099511627776:=hI;rw[WE,bne_self_eq_false,cond_false];apply ih2 (j+1) oa on oc w2 (by omega) (by omega);rw[avw,if_pos hI];show Sep No w w2 [ak oa on oc 294 3 (flat fS (_++(_++[]))),_,_];rw[List.append_nil];exact ai s
     ·have WE:D g.m t e.1≠1099511627776:=hI;rw[show(D g.m t e.1 !=1099511627776)=true by rw[bne_iff_ne];exact WE,cond_true];have hDl:D g.m t e.1<cf:=by
       by_cases q:∃d,Wy (gB g.m t) (fT g.m) e.1 d
       ·exact(KH hm).2 q
       ·exact(hI (ag6 q)).elim
      obtain⟨d,hd⟩:=(KH hm).1 hDl;have hDb:=aqw hm hd;have s:=ay s;refine lI s 0 rfl (lI s 0 rfl ?_);refine tE s λw2 s _=>?_;refine⟨ck s 0 rfl,ck s 0 rfl,?_⟩;refine Z5 s λw2 s _=>⟨ck s 0 rfl,?_⟩;rw[aH];refine avv (x:=⟨dX g.m.w g.m.h c,Ap g.m.w g.m.h c e.1,e.2+D g.m t e.1⟩) (ai s) (by omega) λoa oc w2 s=>?_;apply ih2 (j+1) oa (on+1) oc w2 (by omega) (by omega);rw[avw,if_neg hI,<-List.append_assoc];exact s
   have s':Sep No w w2 [ak oa on oc 294 3 (flat fS (((aW g.m sc).take i).flatMap (IF g.m (D g.m t))++((vq g.m c).take 0).filterMap λe=>if D g.m t e.1=cf then none else some ⟨dX g.m.w g.m.h c,Ap g.m.w g.m.h c e.1,e.2+D g.m t e.1⟩)),ak ea en ec 292 2 (flat Dv (vq g.m c)),ak na nn nc 3 1 (flat one (aW g.m sc))]:=by rw[List.take_zero,List.filterMap_nil,List.append_nil];exact pk 99 [1,0,2] s
   exact⟨en+1,wU en 0 oa on oc w2 (by omega) (by omega) s'⟩
 exact⟨nn+1,nodes nn 0 none 0 0 w1 (by omega) (by omega) (bC s 294 3)⟩
end
structure zF where
 e7:Int
 sa:Option Addr
 sn:Nat
 sc:Nat
 da:Option Addr
 dn:Nat
 dc:Nat
 ra:Option Addr
 rn:Nat
 rc:Nat
 iO:List bh
 ds:List Int
 rs:List Int
def Fc (x:zF):List Value:=[ae x.e7,.slice x.sa x.sn x.sc,.slice x.da x.dn x.dc,.slice x.ra x.rn x.rc]
def x_ (x:zF):(Fc x).length=4:=rfl
def aq4 (x:zF)(u:Value)(h:u∈Fc x):u.oneCell'=true:=by unfold Fc at h;simp[List.mem_cons,List.not_mem_nil,or_false]at h;rcases h with rfl|rfl|rfl|rfl<;>rfl
noncomputable def GQ (x:zF):As:=bg True [ak x.sa x.sn x.sc 294 3 (flat fS x.iO),ak x.da x.dn x.dc 3 1 (flat one x.ds),ak x.ra x.rn x.rc 3 1 (flat one x.rs)]
def IL:zF:=⟨0,none,0,0,none,0,0,none,0,0,[],[],[]⟩
structure WS where
 p:Nat
 lp:Nat
 lr:Lr.aeo
 a:Option Addr
 n:Nat
 c:Nat
structure AW where
 l:Lr.KS
 es:List zF
 b:Int
 h:Int
 st:Int
 ev:Int
def GR (r:WS)(x:AW):List Value:=[.pointer (sZ r.lp),.slice r.a r.n r.c,.int .u64 0,.int .u64 0,.int .u64 x.b,.int .u64 x.h,.int .u64 x.st,.int .u64 x.ev]
noncomputable def XD (r:WS)(k:Int)(x:AW):List As:=ax r.p 135 (GR r x)::Lr.Ii r.lp k x.l r.lr::ak r.a r.n r.c 303 4 (flat Fc x.es)::x.es.map GQ
noncomputable def jX (r:WS)(k:Int)(x:AW):As:=bg True (XD r k x)
section
variable {F:Nat->Prop}{W w w0:World}{L:List As}{r:WS}{k:Int}{x:AW}{tw th:Int}{ca la:Option Addr}{cn cc ln lc:Nat}{cs:List Int}{xs:List bh}
def gd {A B T:List As}(is:List Nat)(s:Sep F W w (A++T))(h:is.map (λi=>A[i]?)=B.map some)(hn:is.Nodup):Sep F W w (B++T):=by
 have s1:=dy (b_ s List.perm_append_comm) trivial;have s2:Sep F W w (bg True T::B):=by
  refine bY (0::is.map (·+1)) s1 ?_ ?_
  ·rw[List.map_cons,List.map_cons,List.map_map];congr 1
  grind
 exact b_ (gP s2).2 List.perm_append_comm
def amk {Z T:List As}{a b:As}(h:T=a::b::(Z++L)):T.Perm (Z++a::b::L):=by subst h;exact(List.Perm.cons _ List.perm_middle.symm).trans List.perm_middle.symm
def acD (s:Sep F W w (jX r k x::L)):Sep F W w (XD r k x++L):=(gP s).2
def IM (s:Sep F W w (XD r k x++L)):Sep F W w (jX r k x::L):=dy s trivial
def aq5 {q:zF}{i:Nat}(s:Sep F W w L)(hi:L[i]? =some (GQ q)):Sl w q.sa q.sn q.sc 3 fS q.iO/\Sl w q.da q.dn q.dc 1 one q.ds/\Sl w q.ra q.rn q.rc 1 one q.rs:=by have s':=IY s hi;exact⟨aN s' (i:=0) rfl nD (by decide),aN s' (i:=1) rfl cv (by decide),aN s' (i:=2) rfl cv (by decide)⟩
def BC {Q:World->Prop}{p i j:Nat}{t:TypeId}{cs:List Value}{v:Int}(s:Sep F W w L)(hi:L[i]? =some (ax p t cs))(hj:cs[j]? =some (.int .u64 v))(hu:Ta.U v)
  (h:∀w',Sep F W w' (L.set i (ax p t (cs.set j (.int .u64 (Ta.sat v 1)))))->Q w'):su (some ⟨p,j,none⟩) w Q:=by
 apply abJ;refine ah (dw s rfl hi hj ?_);apply Ta.By hu (by unfold Ta.U;omega);refine ah (av s rfl hi ?_ λw' s'=>h w' s');rw[Nat.blt_eq];grind
def Ob {Q:Option Addr->Nat->Nat->Option Addr->Nat->Nat->World->Prop}{da ra:Option Addr}{dn dc rn rc:Nat}{ds rs:List Int}(s0:Sep F W w L)(hD:Sl w da dn dc 1 one ds)(hR:Sl w ra rn rc 1 one rs)(hn:dn<=1000000)(hm:rn<=1000000)
  (h:∀L_ Ma ra' rc' w',Sep F W w' (ak ra' rn rc' 3 1 (flat one rs)::ak L_ dn Ma 3 1 (flat one ds)::L)->Fr No w w'->Q L_ dn Ma ra' rn rc' w'):Bo da dn dc ra rn rc w Q:=by
 apply abK;refine aM (aX (F:=No)) λfb w1 s=>?_;refine aT s λrb w1 s=>?_;have s:=ay s;refine lS s 1 rfl (lS s 1 rfl ?_);refine LU s (hD.fr (aq s)) (by omega) λL_ Ma w1 s _=>⟨ck s 2 rfl,?_⟩;refine LU s (hR.fr (aq s)) (by omega) λra' rc' w1 s _=>?_;refine sT s 2 rfl λw1 s=>?_;refine av s (i:=2) rfl rfl rfl λw1 s=>?_;refine lS s 2 rfl (lS s 2 rfl ?_);have s':Sep No w w1 [ak ra' rn rc' 3 1 (flat one rs),ak L_ dn Ma 3 1 (flat one ds)]:=pk 99 [0,1] s;exact h L_ Ma ra' rc' w1 (fq s0 s') (aq s')
def WrE {n c i:Nat}{es:List zF}{j:Nat}{q:zF}{g o:Nat}{K:World->Prop}(s:Sep F W w L)(hi:L[i]? =some (ak (some ⟨g,o,none⟩) n c 303 4 (flat Fc es)))(hn:j<es.length)(h:∀w',Sep F W w' (L.set i (ak (some ⟨g,o,none⟩) n c 303 4 (flat Fc (es.set j q))))->K w'):
  St ((⟨g,o+j*4,none⟩:Addr).add 0) (ae q.e7) w λw=>St ((⟨g,o+j*4,none⟩:Addr).add 1) (.slice q.sa q.sn q.sc) w λw=>St ((⟨g,o+j*4,none⟩:Addr).add 2) (.slice q.da q.dn q.dc) w λw=>St ((⟨g,o+j*4,none⟩:Addr).add 3) (.slice q.ra q.rn q.rc) w λw=>K w:=by
 have hg:=List.getElem?_eq_getElem hn;generalize es[j]=e0 at hg;have ad:∀i,((⟨g,o+j*4,none⟩:Addr).add i)=⟨g,o+(j*4+i),none⟩:=λi=>by rw[cq,Nat.add_assoc]
 have IX:=(List.getElem?_eq_some_iff.1 hi).1;refine dU (x':=⟨q.e7,e0.sa,e0.sn,e0.sc,e0.da,e0.dn,e0.dc,e0.ra,e0.rn,e0.rc,e0.iO,e0.ds,e0.rs⟩) x_ s hi hg (ad 0) (by decide) rfl rfl λw s=>?_;refine dU (x:=⟨q.e7,e0.sa,e0.sn,e0.sc,e0.da,e0.dn,e0.dc,e0.ra,e0.rn,e0.rc,e0.iO,e0.ds,e0.rs⟩) (x':=⟨q.e7,q.sa,q.sn,q.sc,e0.da,e0.dn,e0.dc,e0.ra,e0.rn,e0.rc,e0.iO,e0.ds,e0.rs⟩) x_ s (by rw[List.getElem?_set_self IX]) (by grind) (ad 1) (by decide) rfl rfl λw s=>?_;rw[List.set_set,List.set_set]at s;refine dU (x:=⟨q.e7,q.sa,q.sn,q.sc,e0.da,e0.dn,e0.dc,e0.ra,e0.rn,e0.rc,e0.iO,e0.ds,e0.rs⟩) (x':=⟨q.e7,q.sa,q.sn,q.sc,q.da,q.dn,q.dc,e0.ra,e0.rn,e0.rc,e0.iO,e0.ds,e0.rs⟩) x_ s (by rw[List.getElem?_set_self IX]) (by grind) (ad 2) (by decide) rfl rfl λw s=>?_;rw[List.set_set,List.set_set]at s;refine dU (x:=⟨q.e7,q.sa,q.sn,q.sc,q.da,q.dn,q.dc,e0.ra,e0.rn,e0.rc,e0.iO,e0.ds,e0.rs⟩) (x':=q) x_ s (by rw[List.getElem?_set_self IX]) (by grind) (ad 3) (by decide) rfl rfl λw s=>?_;simp_all
structure ShU (x:AW):Prop where
 b:Ta.U x.b
 h:Ta.U x.h
 st:Ta.U x.st
 ev:Ta.U x.ev
end
structure DT where
 e7:Int
 iO:List bh
 ds:List Int
 rs:List Int
def zF.p (q:zF):DT:=⟨q.e7,q.iO,q.ds,q.rs⟩
structure T1 where
 l:Lr.KS
 es:List DT
 b:Int
 h:Int
 st:Int
 ev:Int
def AW.p (x:AW):T1:=⟨x.l,x.es.map zF.p,x.b,x.h,x.st,x.ev⟩
def bump (c:Bool)(v:Int):Int:=if c=true then Ta.sat v 1 else v
def aaB:DT:=⟨0,[],[],[]⟩
def WT (es:List DT)(slot:Nat)(had:Bool)(e7:Int)(xs:List bh):Bool:=had&&(match es[slot]? with|some q=>q.e7==e7&&decide (q.iO=xs)|none=>false)
def CC (k:Int)(y:T1)(key:Int×Int)(q:DT):T1:=
 let u:=Lr.kM k y.l key;let Y2:=if u.1.1=(y.es.length:Int)then y.es++[aaB]else y.es
 if WT Y2 u.1.1.toNat u.1.2.1 q.e7 q.iO=true then⟨u.2,Y2,y.b,Ta.sat y.h 1,y.st,y.ev⟩
 else⟨u.2,Y2.set u.1.1.toNat q,Ta.sat y.b 1,y.h,bump u.1.2.1 y.st,bump u.1.2.2 y.ev⟩
section
variable {F:Nat->Prop}{W w w0:World}{L:List As}{r:WS}{k:Int}{x:AW}{tw th:Int}{ca la:Option Addr}{cn cc ln lc:Nat}{cs:List Int}{xs:List bh}
noncomputable abbrev WU (r:WS)(k:Int)(x:AW)(rb tb:Nat)(tw th:Int)(ca:Option Addr)(cn cc:Nat)(L:List As):List As:=
 Lr.Ii r.lp k x.l r.lr::ax rb 213 [.slice none 0 0,.slice none 0 0]::ax tb 84 [ae tw,ae th,.slice ca cn cc]::ax r.p 135 (GR r x)::ak r.a r.n r.c 303 4 (flat Fc x.es)::(x.es.map GQ++L)
def aq6 {A B:As}(s:Sep F W w (A::B::jX r k x::L)):Sep F W w (Lr.Ii r.lp k x.l r.lr::A::B::ax r.p 135 (GR r x)::ak r.a r.n r.c 303 4 (flat Fc x.es)::(x.es.map GQ++L)):=by have s1:=acD (b_ s ((List.Perm.cons _ (List.Perm.swap _ _ _)).trans (List.Perm.swap _ _ _)));have s2:=b_ s1 (amk rfl).symm;exact gd (A:=[_,_,_,_,_]) (B:=[_,_,_,_,_]) [3,0,1,2,4] s2 rfl (by decide)
def aq7 {A B:As}(s:Sep F W w (A::B::ax r.p 135 (GR r x)::Lr.Ii r.lp k x.l r.lr::ak r.a r.n r.c 303 4 (flat Fc x.es)::(x.es.map GQ++L))):Sep F W w (A::B::jX r k x::L):=
 b_ (IM (b_ s (amk rfl))) ((List.Perm.swap _ _ _).trans (List.Perm.cons _ (List.Perm.swap _ _ _)))
def XE {A B C D E:As}{es:List zF}(s:Sep F W w (A::B::C::D::E::(es.map GQ++L))):Sep F W w L:=
 gj s (.cons _ (.cons _ (.cons _ (.cons _ (.cons _ (List.sublist_append_right _ _))))))
def alb {Q:Option Addr->Nat->Nat->Option Addr->Nat->Nat->Int->World->Prop}{rb tb slot g o:Nat}{e7:Int}(hT:rX tw th cs)(hok:rV tw th cs xs=true)(hnd:xs.Nodup)(qi:ln<2000)(hC:∀w',Sep F W w' L->Sl w' ca cn cc 1 bj cs)(hX:∀w',Sep F W w' L->Sl w' la ln lc 3 fS xs)(BO:slot<x.es.length)(hu:Ta.U x.b)(ha:r.a=some ⟨g,o,none⟩)
  (s:Sep F W w (WU r k x rb tb tw th ca cn cc L))
  (h:∀q da dc ra rc w',q.e7=e7->q.iO=xs->q.ds=jv tw th cs xs->q.rs=nT tw th cs xs->Sep F W w' (ak ra cs.length rc 3 1 (flat one (nT tw th cs xs))::ak da cs.length dc 3 1 (flat one (jv tw th cs xs))::jX r k {x with es:=x.es.set slot q,b:=Ta.sat x.b 1}::L)->Q da cs.length dc ra cs.length rc 0 w'):
  pQ Q (sZ r.p) e7 la ln lc (aZ tb) (aZ rb) ⟨g,o+slot*4,none⟩ w:=by
 have uJ:=hT.small;apply ah;refine BC s (i:=3) rfl rfl hu λw s=>?_;refine lI s 2 rfl (lI s 2 rfl (lS s 2 rfl ?_));refine Yu s (hC _ (XE s)) (hX _ (XE s)) hT hok hnd qi λda dc ra rc w s _=>?_;refine aT s λfb w s=>?_;refine sT s 0 rfl λw s=>?_;refine av s (i:=0) rfl rfl rfl λw s=>?_;have s:=ay s;refine lS s 0 rfl (lS s 0 rfl ?_);refine Wn s (hX _ (XE (ai (ai (ai s))))) (by omega) λsa sc w s _=>?_;refine⟨ck s 1 rfl,ck s 1 rfl,?_⟩;rw[ha]at s;refine WrE (q:=⟨e7,sa,ln,sc,da,cs.length,dc,ra,cs.length,rc,xs,jv tw th cs xs,nT tw th cs xs⟩) s (i:=8) rfl BO λw s=>?_;refine lS s 1 rfl (lS s 1 rfl ?_);refine Ob s (aN s (i:=3) rfl cv (by decide)) (aN s (i:=2) rfl cv (by decide)) (by omega) (by omega) λL_ Ma ra' rc' w s _=>?_;refine sT s 7 rfl λw s=>?_;refine av s (i:=7) rfl rfl rfl λw s=>?_;refine lS s 7 rfl (lS s 7 rfl ?_);apply h ⟨e7,sa,ln,sc,da,cs.length,dc,ra,cs.length,rc,xs,jv tw th cs xs,nT tw th cs xs⟩ L_ Ma ra' rc' w rfl rfl rfl rfl;rw[<-ha]at s;have s1:=gd (A:=[_,_,_,_,_,_,_,_,_,_,_]) (B:=[ak sa ln sc 294 3 (flat fS xs),ak da cs.length dc 3 1 (flat one (jv tw th cs xs)),ak ra cs.length rc 3 1 (flat one (nT tw th cs xs)),ak ra' cs.length rc' 3 1 (flat one (nT tw th cs xs)),ak L_ cs.length Ma 3 1 (flat one (jv tw th cs xs)),ax r.p 135 (GR r {x with b:=Ta.sat x.b 1}),Lr.Ii r.lp k x.l r.lr,ak r.a r.n r.c 303 4 (flat Fc (x.es.set slot ⟨e7,sa,ln,sc,da,cs.length,dc,ra,cs.length,rc,xs,jv tw th cs xs,nT tw th cs xs⟩))]) [2,5,4,0,1,9,6,10] s ?_ (by decide)
 ·have s2:=dy (Ps:=[_,_,_]) s1 trivial;simp[List.append_eq,List.cons_append,List.nil_append]at s2;have s3:=S_ (i:=5+slot) s2;have e:∀(A B C D E G:As),(A::B::C::D::E::(x.es.map GQ++L)).set (5+slot) G=A::B::C::D::E::((x.es.map GQ).set slot G++L):=λA B C D E G=>by rw[Nat.add_comm 5 slot];simp[List.set_cons_succ];rw[List.set_append_left _ _ (by rw[List.length_map];exact BO)]
  rw[e]at s3;rw[show(x.es.map GQ).set slot (bg True [ak sa ln sc 294 3 (flat fS xs),ak da cs.length dc 3 1 (flat one (jv tw th cs xs)),ak ra cs.length rc 3 1 (flat one (nT tw th cs xs))])=(x.es.set slot ⟨e7,sa,ln,sc,da,cs.length,dc,ra,cs.length,rc,xs,jv tw th cs xs,nT tw th cs xs⟩).map GQ from by rw[List.map_set];rfl]at s3;have s4:=IM (b_ s3 (L':=XD r k ⟨x.l,x.es.set slot ⟨e7,sa,ln,sc,da,cs.length,dc,ra,cs.length,rc,xs,jv tw th cs xs,nT tw th cs xs⟩,Ta.sat x.b 1,x.h,x.st,x.ev⟩++(ak ra' cs.length rc' 3 1 (flat one (nT tw th cs xs))::ak L_ cs.length Ma 3 1 (flat one (jv tw th cs xs))::L)) ?_)
  ·exact b_ s4 ((List.Perm.swap _ _ _).trans (List.Perm.cons _ (List.Perm.swap _ _ _)))
  ·exact amk rfl
 ·rfl
def ao2 {c:Bool}{v:Int}(h:Ta.U v):Ta.U (bump c v):=by
 unfold bump;split
 ·exact Ta.GL h (by unfold Ta.U;omega)
 ·exact h
attribute [local irreducible] pQ in
theorem atx {Q:Option Addr->Nat->Nat->Option Addr->Nat->Nat->Int->World->Prop}{rb tb slot g o:Nat}{e7:Int}{had out:Bool}(hT:rX tw th cs)(hok:rV tw th cs xs=true)(hnd:xs.Nodup)(qi:ln<2000)(hC:∀w',Sep F W w' L->Sl w' ca cn cc 1 bj cs)(hX:∀w',Sep F W w' L->Sl w' la ln lc 3 fS xs)(BO:slot<x.es.length)(hu:ShU x)(ha:r.a=some ⟨g,o,none⟩)
  (s:Sep F W w (WU r k x rb tb tw th ca cn cc L))
  (h:∀q da dc ra rc w',q.e7=e7->q.iO=xs->q.ds=jv tw th cs xs->q.rs=nT tw th cs xs->Sep F W w' (ak ra cs.length rc 3 1 (flat one (nT tw th cs xs))::ak da cs.length dc 3 1 (flat one (jv tw th cs xs))::jX r k ⟨x.l,x.es.set slot q,Ta.sat x.b 1,x.h,bump had x.st,bump out x.ev⟩::L)->Q da cs.length dc ra cs.length rc 0 w'):
  jm Q (sZ r.p) e7 la ln lc (aZ tb) (aZ rb) had out ⟨g,o+slot*4,none⟩ w:=by
 have hb:=hu.b;have b12:∀(x':AW) (w:World),x'.l=x.l->x'.es=x.es->x'.b=x.b->x'.h=x.h->x'.st=bump had x.st->x'.ev=x.ev->Sep F W w (WU r k x' rb tb tw th ca cn cc L)->pR Q (sZ r.p) e7 la ln lc (aZ tb) (aZ rb) out ⟨g,o+slot*4,none⟩ w:=by
  rintro ⟨l',es',b',h',st',ev'⟩ w e1 e2 e3 e4 e5 e6 s;subst e1 e2 e3 e4 e5 e6;unfold pR;cases out with
  |true=>
   rw[cond_true];apply ah;refine BC s (i:=3) rfl rfl hu.ev λw s=>?_;exact alb (x:=⟨x.l,x.es,x.b,x.h,bump had x.st,Ta.sat x.ev 1⟩) hT hok hnd qi hC hX BO hb ha s h
  |false=>exact alb (x:=⟨x.l,x.es,x.b,x.h,bump had x.st,x.ev⟩) hT hok hnd qi hC hX BO hb ha s h
 unfold jm;cases had with
 |true=>
  rw[cond_true];apply ah;refine BC s (i:=3) rfl rfl hu.st λw s=>?_;exact b12 ⟨x.l,x.es,x.b,x.h,Ta.sat x.st 1,x.ev⟩ w rfl rfl rfl rfl rfl rfl s
 |false=>exact b12 x w rfl rfl rfl rfl rfl rfl s
attribute [local irreducible] jm in
theorem ao3 {Q:Option Addr->Nat->Nat->Option Addr->Nat->Nat->Int->World->Prop}{rb tb slot:Nat}{e7:Int}{had out:Bool}(hT:rX tw th cs)(hok:rV tw th cs xs=true)(hnd:xs.Nodup)(qi:ln<2000)(hC:∀w',Sep F W w' L->Sl w' ca cn cc 1 bj cs)(hX:∀w',Sep F W w' L->Sl w' la ln lc 3 fS xs)(BO:slot<x.es.length)(hu:ShU x)
  (hh:had=true->∀q,x.es[slot]? =some q->q.e7=e7->q.iO=xs->q.ds=jv tw th cs xs/\q.rs=nT tw th cs xs)(LZ:∀q∈x.es,q.iO.length<2000)
  (s:Sep F W w (WU r k x rb tb tw th ca cn cc L))
  (h:∀x' da dc ra rc w',x'.l=x.l->x'.p=(if WT x.p.es slot had e7 xs=true then⟨x.l,x.p.es,x.b,Ta.sat x.h 1,x.st,x.ev⟩else⟨x.l,x.p.es.set slot ⟨e7,xs,jv tw th cs xs,nT tw th cs xs⟩,Ta.sat x.b 1,x.h,bump had x.st,bump out x.ev⟩)->Sep F W w' (ak ra cs.length rc 3 1 (flat one (nT tw th cs xs))::ak da cs.length dc 3 1 (flat one (jv tw th cs xs))::jX r k x'::L)->Q da cs.length dc ra cs.length rc 0 w'):
  qO Q (sZ r.p) e7 la ln lc (aZ tb) (aZ rb) slot had out w:=by
 have kes:=aN s (i:=4) rfl x_ (by decide);obtain⟨q0,hq0⟩:∃q,x.es[slot]? =some q:=⟨_,List.getElem?_eq_getElem BO⟩;have hp0:x.p.es[slot]? =some q0.p:=by show(x.es.map zF.p)[slot]? =_;rw[List.getElem?_map,hq0];rfl
 have aeh:∀w g o,r.a=some ⟨g,o,none⟩->WT x.p.es slot had e7 xs=false->Sep F W w (WU r k x rb tb tw th ca cn cc L)->jm Q (sZ r.p) e7 la ln lc (aZ tb) (aZ rb) had out ⟨g,o+slot*4,none⟩ w:=λw g o ha ay0 s=>by
  refine atx hT hok hnd qi hC hX BO hu ha s λq da dc ra rc w' e1 e2 e3 e4 s=>?_;refine h ⟨x.l,x.es.set slot q,Ta.sat x.b 1,x.h,bump had x.st,bump out x.ev⟩ da dc ra rc w' rfl ?_ s;rw[ay0,if_neg (by decide)];have:q.p=⟨e7,xs,jv tw th cs xs,nT tw th cs xs⟩:=by rw[zF.p,e1,e2,e3,e4]
  rw[<-this];unfold AW.p;simp[List.map_set]
 refine ah (lS s 3 rfl ?_);have hn:=kes.len;have hqs:=LZ q0 (List.mem_of_getElem? hq0);refine CL s (i:=4) rfl rfl (by omega) λg o ha=>?_;rw[cq,Int.toNat_natCast];have rd:∀{w:World} {x':AW},x'.es=x.es->Sep F W w (WU r k x' rb tb tw th ca cn cc L)->Sep F W w (Lr.Ii r.lp k x'.l r.lr::ax rb 213 [.slice none 0 0,.slice none 0 0]::ax tb 84 [ae tw,ae th,.slice ca cn cc]::ax r.p 135 (GR r x')::ak (some ⟨g,o,none⟩) r.n r.c 303 4 (flat Fc x.es)::(x.es.map GQ++L)):=λe s=>by rw[<-ha,<-e];exact s
 have ad:∀j,(⟨g,o+slot*4,none⟩:Addr).add j=⟨g,o+(slot*4+j),none⟩:=λj=>by rw[cq,Nat.add_assoc]
 have kq:∀{w:World} {x':AW},x'.es=x.es->Sep F W w (WU r k x' rb tb tw th ca cn cc L)->Sl w q0.sa q0.sn q0.sc 3 fS q0.iO/\Sl w q0.da q0.dn q0.dc 1 one q0.ds/\Sl w q0.ra q0.rn q0.rc 1 one q0.rs:=λ{w x'} e s=>by apply aq5 (i:=5+slot) s;rw[Nat.add_comm 5 slot];simp[List.getElem?_cons_succ];rw[List.getElem?_append_left (by rw[List.length_map,e];exact BO),List.getElem?_map,e,hq0];rfl
 cases had with
 |false=>
  exact aeh _ g o ha rfl s
 |true=>
  apply eG x_ (rd rfl s) (i:=4) rfl hq0 (ad 0) rfl;by_cases hv:q0.e7=e7
  ·rw[show(q0.e7==e7)=true from beq_iff_eq.2 hv,cond_true];apply Iy x_ (rd rfl s) (i:=4) rfl hq0 (ad 1) rfl;have kq0:=(kq rfl s).1;refine aah kq0 (hX _ (XE s)) s (by have:=kq0.len;omega) (by omega) λw s _=>?_;by_cases he:q0.iO=xs
   ·rw[bK he];apply ah;refine BC s (i:=3) rfl rfl hu.h λw s=>?_;have s:=s;have kq1:=(kq (x':=⟨x.l,x.es,x.b,Ta.sat x.h 1,x.st,x.ev⟩) rfl s).2;obtain⟨hd,hr⟩:=hh rfl q0 hq0 hv he;have hdl:q0.dn=cs.length:=by rw[<-kq1.1.len,hd];exact aai
    have hrl:q0.rn=cs.length:=by rw[<-kq1.2.len,hr];simp[nT]
    have uJ:=hT.small;apply Iy x_ (rd (x':=⟨x.l,x.es,x.b,Ta.sat x.h 1,x.st,x.ev⟩) rfl s) (i:=4) rfl hq0 (by rw[add_add,ad]) rfl;apply Iy x_ (rd (x':=⟨x.l,x.es,x.b,Ta.sat x.h 1,x.st,x.ev⟩) rfl s) (i:=4) rfl hq0 (by rw[add_add,ad]) rfl;refine Ob s kq1.1 kq1.2 (by omega) (by omega) λL_ Ma ra' rc' w s _=>?_;refine sT s 3 rfl λw s=>?_;refine av s (i:=3) rfl rfl rfl λw s=>?_;refine lS s 3 rfl (lS s 3 rfl ?_);rw[hdl,hrl]at s⊢;refine h ⟨x.l,x.es,x.b,Ta.sat x.h 1,x.st,x.ev⟩ L_ Ma ra' rc' w rfl ?_ ?_
    ·have:WT x.p.es slot true e7 xs=true:=by rw[WT,hp0];show(true&&(q0.e7==e7&&decide (q0.iO=xs)))=true;rw[hv,he];simp
     rw[this,if_pos rfl];rfl
    ·rw[hd,hr]at s;exact aq7 (gd (A:=[_,_,_,_,_,_,_]) (B:=[_,_,_,_,_]) [0,1,5,2,6] s rfl (by decide))
   ·rw[bu he];refine aeh _ g o ha ?_ s;rw[WT,hp0];show(true&&(q0.e7==e7&&decide (q0.iO=xs)))=false;rw[decide_eq_false he,Bool.and_false,Bool.and_false]
  ·rw[show(q0.e7==e7)=false from beq_eq_false_iff_ne.2 hv,cond_false];refine aeh _ g o ha ?_ s;rw[WT,hp0];show(true&&(q0.e7==e7&&decide (q0.iO=xs)))=false;rw[show(q0.e7==e7)=false from beq_eq_false_iff_ne.2 hv,Bool.false_and,Bool.and_false]
end
structure aex (k:Int) (y:T1):Prop where
 one:1<=k
 room:k<=100000
 good:Lr.Good k y.l
 len:y.es.length=y.l.length
 b:Ta.U y.b
 h:Ta.U y.h
 st:Ta.U y.st
 ev:Ta.U y.ev
 nS:∀q∈y.es,q.iO.length<2000
def Xz {k:Int}{l:Lr.KS}{key:Int×Int}(hk:1<=k)(hg:Lr.Good k l):∃m:Nat,(Lr.kM k l key).1.1=m/\((m=l.length/\(Lr.kM k l key).1.2.1=false/\(Lr.kM k l key).1.2.2=false/\(Lr.kM k l key).2.length=l.length+1)\/(m<l.length/\(Lr.kM k l key).2.length=l.length)):=by
 unfold Lr.kM;cases hf:l.find? (λp=>decide (p.1=key))with
 |some p=>
  have hp:=List.mem_of_find?_eq_some hf;have he:p.1=key:=by grind
  refine⟨p.2,rfl,.inr ⟨hg.lt p hp,?_⟩⟩;have:∀{l:Lr.KS},(l.map (·.1)).Nodup->p∈l->(l.filter λq=>!decide (q.1=key)).length+1=l.length:=by
   intro l;induction l with
   |nil=>grind
   |cons a l ih=>
    intro hn hp;rcases List.mem_cons.1 hp with rfl|hp
    ·rw[List.filter_cons_of_neg (by simp[he]),List.length_cons];congr 1;refine congrArg List.length (List.filter_eq_self.2 λb hb=>?_);grind
    grind
  exact this hg.FN hp
 |none=>
  simp only;split
  ·grind
  ·cases hl:l.getLast? with
   |none=>
    grind
   |some p=>
    have hp:=List.mem_of_getLast? hl;refine⟨p.2,rfl,.inr ⟨hg.lt p hp,?_⟩⟩;grind
def aq8 {k:Int}{y:T1}{key:Int×Int}{q:DT}(h:aex k y)(hq:q.iO.length<2000):aex k (CC k y key q):=by
 obtain⟨m,hm,hc⟩:=Xz h.one h.good;have hg:=Lr.aat (key:=key) h.one h.good;have o7:∀e∈(if(Lr.kM k y.l key).1.1=(y.es.length:Int)then y.es++[aaB]else y.es),e.iO.length<2000:=by
  intro e he;split at he
  ·rcases List.mem_append.1 he with he|he
   ·exact h.nS e he
   ·rw[List.mem_singleton]at he;rw[he];exact Nat.zero_lt_succ _
  ·exact h.nS e he
 have hlen:(if(Lr.kM k y.l key).1.1=(y.es.length:Int)then y.es++[aaB]else y.es).length=(Lr.kM k y.l key).2.length:=by
  rw[hm,h.len];rcases hc with⟨h1,_,_,h2⟩|⟨h1,h2⟩
  ·rw[AH,List.length_append,h2,h.len];rfl
  ·rw[fR,h2,h.len]
 unfold CC;simp only;generalize (if(Lr.kM k y.l key).1.1=(y.es.length:Int)then y.es++[aaB]else y.es)=Y2 at o7 hlen⊢;split
 ·exact⟨h.one,h.room,hg,hlen,h.b,Ta.GL h.h (by unfold Ta.U;omega),h.st,h.ev,o7⟩
 ·refine⟨h.one,h.room,hg,by grind,Ta.GL h.b (by unfold Ta.U;omega),h.h,ao2 h.st,ao2 h.ev,λe he=>?_⟩;grind
section
variable {F:Nat->Prop}{W w w0:World}{L:List As}{r:WS}{k:Int}{x:AW}{tw th:Int}{ca la:Option Addr}{cn cc ln lc:Nat}{cs:List Int}{xs:List bh}
def aty (s:Sep F W w L):Sep F W w (GQ IL::L):=by have s1:=bC (bC (bC s 3 1) 3 1) 294 3;exact dy s1 trivial
attribute [local irreducible] qO in
theorem WV {Q:Option Addr->Nat->Nat->Option Addr->Nat->Nat->Int->World->Prop}{goal Mk e7:Int}(hx:aex k x.p)(hT:rX tw th cs)(hok:rV tw th cs xs=true)(hnd:xs.Nodup)(qi:ln<2000)(hC:∀w',Sep F W w' L->Sl w' ca cn cc 1 bj cs)(hX:∀w',Sep F W w' L->Sl w' la ln lc 3 fS xs)(hkey:Lr.YX (goal,Mk))
  (hh:(Lr.kM k x.l (goal,Mk)).1.2.1=true->∀q,x.p.es[(Lr.kM k x.l (goal,Mk)).1.1.toNat]? =some q->q.e7=e7->q.iO=xs->q.ds=jv tw th cs xs/\q.rs=nT tw th cs xs)
  (s:Sep F W w (jX r k x::L))
  (h:∀r' x' da dc ra rc w',r'.p=r.p->x'.p=CC k x.p (goal,Mk) ⟨e7,xs,jv tw th cs xs,nT tw th cs xs⟩->Sep F W w' (ak ra cs.length rc 3 1 (flat one (nT tw th cs xs))::ak da cs.length dc 3 1 (flat one (jv tw th cs xs))::jX r' k x'::L)->Q da cs.length dc ra cs.length rc 0 w'):
  oo (sZ r.p) goal Mk e7 tw th ca cn cc la ln lc w Q:=by
 apply QJ;refine aM s λtb w s=>?_;refine aT s λrb w s=>?_;refine lI s 1 rfl (lI s 1 rfl (lS s 1 rfl ?_));have tl:∀{w:World} {A B C:As},Sep F W w (A::B::C::L)->Sep F W w L:=λs=>ai (ai (ai s));refine NL s (hC _ (tl s)) (hX _ (tl s)) (by omega) λw s _=>?_;rw[hok,Bool.not_true,cond_false];have s:=aq6 s;refine ah (lP s 3 rfl ?_);have N0:x.l.length<=1000000:=by have h1:=hx.good.room;have h2:=hx.room;have h3:x.p.l=x.l:=rfl;grind
 refine Lr.aoL s hkey N0 λlr' w s=>?_;have hlen:x.es.length=x.l.length:=by have:=hx.len;show _=x.p.l.length;rw[<-this];show _=(x.es.map zF.p).length;grind
 obtain⟨m,hm,hc⟩:=Xz hx.one hx.good;have hxl:x.p.l=x.l:=rfl;rw[hxl]at hm hc;have hp:(x.p.es.length:Int)=x.es.length:=by show((x.es.map zF.p).length:Int)=_;grind
 have hu:ShU ⟨(Lr.kM k x.l (goal,Mk)).2,x.es,x.b,x.h,x.st,x.ev⟩:=⟨hx.b,hx.h,hx.st,hx.ev⟩;have LZ:∀q∈x.es,q.iO.length<2000:=λq hq=>hx.nS q.p (List.mem_map.2 ⟨q,hq,rfl⟩);generalize hu2:Lr.kM k x.l (goal,Mk)=u at s hm hc hh h hu⊢;obtain⟨⟨slot,had,out⟩,l'⟩:=u;subst hm;have s:=s;have kl:=(aN s (i:=4) rfl x_ (by decide)).len;refine ah (lS s 3 rfl ?_);by_cases hm:m=x.l.length
 ·obtain⟨_,e1,e2,e3⟩:m=x.l.length/\had=false/\out=false/\l'.length=x.l.length+1:=by
   rcases hc with hc|hc
   ·exact hc
   ·omega
  subst e1 e2;rw[show((m:Int)==(r.n:Int))=true from beq_iff_eq.2 (by rw[hm,<-hlen,<-kl]),cond_true];refine ah (lS s 3 rfl ?_);refine aM s λb w s=>?_;have src:Src w (sZ b) 1 4 (Fc IL):=⟨rfl,aq4 _,λj u hj=>by rw[cq,Nat.zero_add];exact cF s (i:=0) rfl rfl hj⟩;refine iq dQ s (i:=5) rfl rfl rfl rfl rfl rfl (by decide) rfl src (by simp[maxLen];omega) (by show(r.n+1)*80<=_;omega) (λe=>by cases e) λa1 c1 w s=>?_;rw[show flat Fc x.es++Fc IL=flat Fc (x.es++[IL])from by rw[fZ];simp[flat]]at s;refine ah (sT s 4 rfl λw s=>?_);have s:=aty (ai s);have s:Sep F W w (WU ⟨r.p,r.lp,lr',a1,r.n+1,c1⟩ k ⟨l',x.es++[IL],x.b,x.h,x.st,x.ev⟩ rb tb tw th ca cn cc L):=by apply b_ s;show List.Perm _ (_::_::_::_::_::((x.es++[IL]).map GQ++L));rw[List.map_append,List.append_assoc];exact(List.perm_middle (l₁:=[_,_,_,_,_]++x.es.map GQ)).symm
  refine ao3 (r:=⟨r.p,r.lp,lr',a1,r.n+1,c1⟩) (x:=⟨l',x.es++[IL],x.b,x.h,x.st,x.ev⟩) hT hok hnd qi hC hX (by show m<(x.es++[IL]).length;rw[List.length_append];simp;omega) ⟨hx.b,hx.h,hx.st,hx.ev⟩ (λe=>by cases e) ?_ s ?_
  ·intro q hq;rcases List.mem_append.1 hq with hq|hq
   ·exact LZ q hq
   ·rw[List.mem_singleton]at hq;rw[hq];exact Nat.zero_lt_succ _
  ·intro x' da dc ra rc w' e1 e2 s;refine h ⟨r.p,r.lp,lr',a1,r.n+1,c1⟩ x' da dc ra rc w' rfl ?_ s;rw[e2];rw[CC,hxl,hu2];simp only;have e3:(m:Int)=(x.p.es.length:Int):=by rw[hp];omega
   rw[if_pos e3];have:(x.p.es++[aaB])=T1.es (AW.p ⟨l',x.es++[IL],x.b,x.h,x.st,x.ev⟩):=by show(x.es.map zF.p)++_=(x.es++[IL]).map zF.p;rw[List.map_append];rfl
   rw[this];rfl
 ·rw[show((m:Int)==(r.n:Int))=false from beq_eq_false_iff_ne.2 (by omega),cond_false];refine ao3 (r:=⟨r.p,r.lp,lr',r.a,r.n,r.c⟩) hT hok hnd qi hC hX (by show m<x.es.length;omega) hu ?_ LZ s ?_
  ·intro e q hq e1 e2;have:=hh e q.p (by show(x.es.map zF.p)[m]? =_;rw[List.getElem?_map,hq];rfl) e1 e2
   exact this
  ·intro x' da dc ra rc w' e1 e2 s;refine h ⟨r.p,r.lp,lr',r.a,r.n,r.c⟩ x' da dc ra rc w' rfl ?_ s;rw[e2];rw[CC,hxl,hu2];simp only;have e3:¬(m:Int)=(x.p.es.length:Int):=by rw[hp];omega
   rw[if_neg e3];rfl
end
end Go.Proofs.YtmegplnmiepfbaaGreatDoor.S
namespace Go.Proofs.YtmegplnmiepfbaaGreatDoor.S.Lr
open Go.Sx
def ao5 {l:KS}(hnd:(l.map (·.1)).Nodup){p:(Int×Int)×Nat}(hp:p∈l):Xy l p.1=p.2:=by rw[Xy,YV hnd hp]
def aq9 {l:KS}{key:Int×Int}(h:∀p∈l,p.1≠key):Xy l key=-1:=by unfold Xy;grind
def afJ {l:KS}(h:(l.map (·.2)).Nodup){p q:(Int×Int)×Nat}(hp:p∈l)(hq:q∈l)(e:p.2=q.2):p=q:=by
 induction l with
 |nil=>cases hp
 |cons x l ih=>
  grind
structure Used (l l':KS) (key:Int×Int) (k:Int) (s:Int) (had out:Bool):Prop where
 good:Good k l'
 slot:∃m:Nat,s=m/\(key,m)∈l'
 ay1:had=decide (Xy l key≥0)
 hit:had=true->s=Xy l key/\out=false
 mem:∀p:(Int×Int)×Nat,p.1≠key->(p∈l'↔p∈l/\(out=true->(p.2:Int)≠s))
 off:∀p∈l,p.1≠key->(p.2:Int)=s->out=true
def used {k:Int}{l:KS}{key:Int×Int}(hk:1<=k)(h:Good k l):Used l (kM k l key).2 key k (kM k l key).1.1 (kM k l key).1.2.1 (kM k l key).1.2.2:=by
 have hg:=aat (key:=key) hk h;unfold kM at hg⊢;cases hf:l.find? (λp=>decide (p.1=key))with
 |some q=>
  rw[hf]at hg;obtain⟨rfl,hq⟩:=N7 hf;simp only at hg⊢;have hfq:=ao5 h.FN hq;refine⟨hg,⟨q.2,rfl,List.mem_cons_self⟩,by grind,λ_=>⟨hfq.symm,rfl⟩,λp hp=>?_,λp hp hne e=>?_⟩
  ·grind
  ·exact(hne (by rw[afJ h.nd hp hq (by omega)])).elim
 |none=>
  have hn:=afC hf;have hfn:=aq9 hn;rw[hf]at hg;by_cases hroom:(l.length:Int)<k
  ·rw[if_pos hroom]at hg⊢;refine⟨hg,⟨l.length,rfl,List.mem_cons_self⟩,by rw[hfn];rfl,(λh=>by cases h),λp hp=>?_,λp hp hne e=>?_⟩
   ·grind
   ·have:=h.lt p hp;grind
  ·rw[if_neg hroom]at hg⊢;have hne:l≠[]:=λe=>by grind
   obtain⟨ys,q,rfl⟩:∃ys q,l=ys++[q]:=⟨l.dropLast,l.getLast hne,(List.dropLast_concat_getLast hne).symm⟩;rw[List.getLast?_concat,List.dropLast_concat]at hg⊢;simp only at hg⊢;refine⟨hg,⟨q.2,rfl,List.mem_cons_self⟩,by rw[hfn];rfl,(λh=>by cases h),λp hp=>?_,λp hp hne e=>rfl⟩;rw[List.mem_cons];constructor
   ·rintro (e|h1)
    ·grind
    ·refine⟨by simp[h1],λ_ e=>?_⟩;have e1:=afJ h.nd (p:=p) (q:=q) (by simp[h1]) (by simp) (by omega);subst e1;have:=h.FN;grind
   grind
end Go.Proofs.YtmegplnmiepfbaaGreatDoor.S.Lr
namespace Go.Proofs.YtmegplnmiepfbaaGreatDoor.S
open Go.Sx
attribute [local irreducible] af cQ bG bp aA cE cw St Bx Al App cV cO cM bZ aQ bI au cj ax ak bg mapA
def Tk (V:Int×Int->DT->Prop)(y:T1):Prop:=∀key i q,(key,i)∈y.l->y.es[i]? =some q->V key q
def afK {V:Int×Int->DT->Prop}{b h st ev:Int}:Tk V ⟨[],[],b,h,st,ev⟩:=λ_ _ _ h=>by cases h
def aml {V V':Int×Int->DT->Prop}{y:T1}(h:Tk V y)(hv:∀key q,V key q->V' key q):Tk V' y:=λkey i q h1 h2=>hv _ _ (h key i q h1 h2)
def ai4 {k:Int}{y:T1}{key:Int×Int}{V:Int×Int->DT->Prop}(h:aex k y)(hr:Tk V y){q:DT}(hh:(Lr.kM k y.l key).1.2.1=true)(hq:y.es[(Lr.kM k y.l key).1.1.toNat]? =some q):V key q:=by have hu:=Lr.used (key:=key) h.one h.good;have h2:=hu.ay1;rw[hh]at h2;obtain⟨m,hm,hl⟩:=hu.slot;refine hr key m q ?_ (by grind);unfold Lr.kM at hm hh;grind
def ao6 {k:Int}{y:T1}{key:Int×Int}{V:Int×Int->DT->Prop}{q:DT}(h:aex k y)(hr:Tk V y)(hv:V key q):Tk V (CC k y key q):=by
 have hu:=Lr.used (key:=key) h.one h.good;obtain⟨m,hm,hc⟩:=Xz h.one h.good;have hlen:=h.len;have Y0:∀(i:Nat) (e:DT),i≠m\/(Lr.kM k y.l key).1.2.1=true->i<y.l.length->(if(Lr.kM k y.l key).1.1=(y.es.length:Int)then y.es++[aaB]else y.es)[i]? =some e->y.es[i]? =some e:=by grind
 have other:∀key' i,key'≠key->(key',i)∈(Lr.kM k y.l key).2->(key',i)∈y.l/\i≠m/\i<y.l.length:=by intro key' i hne hmem;have h1:=(hu.mem (key',i) hne).1 hmem;refine⟨h1.1,λe=>?_,h.good.lt _ h1.1⟩;subst e;have h2:=hu.off _ h1.1 hne (by rw[hm]);grind
 have same:∀i,(key,i)∈(Lr.kM k y.l key).2->i=m:=by intro i hmem;obtain⟨m',h1,h2⟩:=hu.slot;have:=Lr.Td hu.good.FN hmem h2 rfl;grind
 unfold CC;simp only;generalize (if(Lr.kM k y.l key).1.1=(y.es.length:Int)then y.es++[aaB]else y.es)=Y2 at Y0⊢;split
 ·rename_i hit;unfold WT at hit;rw[Bool.and_eq_true]at hit;intro key' i e hmem he;by_cases hk:key'=key
  ·subst hk;have hi:=same i hmem;subst hi;have hlt:i<y.l.length:=by grind
   have h1:=Y0 i e (.inr hit.1) hlt he;exact ai4 h hr hit.1 (by grind)
  ·obtain⟨h1,h2,h3⟩:=other key' i hk hmem;exact hr key' i e h1 (Y0 i e (.inl h2) h3 he)
 ·intro key' i e hmem he;rw[hm,Int.toNat_natCast]at he;by_cases hk:key'=key
  ·subst hk;have hi:=same i hmem;subst hi;rw[List.getElem?_set]at he;split at he
   ·split at he
    ·cases he;exact hv
    ·cases he
   ·rename_i hne;exact(hne rfl).elim
  ·obtain⟨h1,h2,h3⟩:=other key' i hk hmem;rw[List.getElem?_set_ne (λe=>h2 e.symm)]at he;exact hr key' i e h1 (Y0 i e (.inl h2) h3 he)
section
variable {F:Nat->Prop}{W w w0:World}{L:List As}{r:WS}{k:Int}{x:AW}
def acE {Q:Option Addr->World->Prop}(s:Sep F W w L)(hno:k<1->Q none w)(h:1<=k->∀r w',Sep F W w' (jX r k ⟨[],[],0,0,0,0⟩::L)->Q (sZ r.p) w'):Gb k w Q:=by
 apply abl;by_cases hk:k<1
 ·grind
 ·rw[bu hk];refine Lr.aoK s (λe=>(hk e).elim) λ_ lp lr w s=>?_;refine aM s λp w s=>?_;refine h (by omega) ⟨p,lp,lr,none,0,0⟩ w (IM ?_);exact b_ (bC s 303 4) ((List.Perm.swap _ _ _).trans (List.Perm.cons _ (List.Perm.swap _ _ _)))
def Pc {Q:World->Prop}(hk:1<=k)(s:Sep F W w (jX r k x::L))(h:∀r' w',r'.p=r.p->Sep F W w' (jX r' k ⟨[],[],x.b,x.h,x.st,x.ev⟩::L)->Q w'):qw (sZ r.p) w Q:=by apply MO;have s:=acD s;have s:=s;refine isS (ah (lP s 0 rfl ?_));have s:=gj s (.cons_cons _ (.cons_cons _ (.cons _ (List.sublist_append_right _ _))));have s:=(Lr.aiO (jr s)).2;have s:=gj s (.cons_cons _ (.cons _ (.cons _ (List.Sublist.refl _))));refine Lr.YY hk s λlr w s=>?_;refine ah (sT s 1 rfl λw s=>?_);refine h ⟨r.p,r.lp,lr,none,0,0⟩ w rfl (IM ?_);exact b_ (bC s 303 4) ((List.Perm.cons _ (List.Perm.swap _ _ _)).trans ((List.Perm.swap _ _ _).trans (List.Perm.cons _ (List.Perm.swap _ _ _))))
def amm {i:Nat}(s:Sep F W w L)(hi:L[i]? =some (jX r k x)):rW w r.p (GR r x):=ld (IY s hi) (i:=0) rfl
def aCk:zc T 32=[.int .u64 0,.int .u64 0,.int .u64 0,.int .u64 0,.int .u64 0,.int .u64 0]:=rfl
def ai5 {p:Nat}{v0 v1 v2 v3 v4 v5:Value}{a b c d e f:Int}{Q:Int->Int->Int->Int->Int->Int->World->Prop}(s:Sep F W w (ax p 32 [v0,v1,v2,v3,v4,v5]::L))(h:∀w',Sep F W w' (ax p 32 [.int .u64 a,.int .u64 b,.int .u64 c,.int .u64 d,.int .u64 e,.int .u64 f]::L)->Q a b c d e f w'):
  St ((aZ p).add 0) (.int .u64 a) w λw=>St ((aZ p).add 1) (.int .u64 b) w λw=>St ((aZ p).add 2) (.int .u64 c) w λw=>St ((aZ p).add 3) (.int .u64 d) w λw=>St ((aZ p).add 4) (.int .u64 e) w λw=>St ((aZ p).add 5) (.int .u64 f) w λw=>
   af .u64 ((aZ p).add 0) w λa=>af .u64 ((aZ p).add 1) w λb=>af .u64 ((aZ p).add 2) w λc=>af .u64 ((aZ p).add 3) w λd=>af .u64 ((aZ p).add 4) w λe=>af .u64 ((aZ p).add 5) w λf=>Q a b c d e f w:=by
 refine sT s 0 rfl λw s=>?_;refine sT s 0 rfl λw s=>?_;refine sT s 0 rfl λw s=>?_;refine sT s 0 rfl λw s=>?_;refine sT s 0 rfl λw s=>?_;refine av s (i:=0) rfl rfl rfl λw s=>?_;exact lI s 0 rfl (lI s 0 rfl (lI s 0 rfl (lI s 0 rfl (lI s 0 rfl (lI s 0 rfl (h w s))))))
def akm {Q:Int->Int->Int->Int->Int->Int->World->Prop}(s0:Sep F W w L)(kb:rW w r.p (GR r x))(h:∀w',Sep F W w' L->Fr No w w'->Q 0 0 x.b x.h x.st x.ev w'):wm (sZ r.p) w Q:=by apply MK;refine aT (aX (F:=No)) λp w1 s1=>?_;have kb1:=kb.fr (aq s1);refine kT (ah ?_);refine aJ (kb1 2 _ rfl) (aJ (kb1 3 _ rfl) (aJ (kb1 4 _ rfl) (aJ (kb1 5 _ rfl) (aJ (kb1 6 _ rfl) (aJ (kb1 7 _ rfl) ?_)))));exact ai5 s1 λw' s'=>h w' (fq s0 (ai s')) (aq s')
end
end Go.Proofs.YtmegplnmiepfbaaGreatDoor.S
namespace Go.Proofs.YtmegplnmiepfbaaGreatDoor.S
open Go.Sx
def KR (m:bM)(c x:Int):bM:=⟨m.w,m.h,m.cs.set c.toNat x⟩
section
variable {m:bM}{g:iz}{ce x c sc:Int}
def ao7 (hc:0<=ce/\ce<m.cs.length):cR (KR m ce x) c=if c=ce then x else cR m c:=by
 unfold cR KR;simp[List.length_set];by_cases e:c=ce
 ·subst e;unfold gi;grind
 ·by_cases h:0<=c/\c<m.cs.length
  ·unfold gi;grind
  grind
def aq_ (hm:cT m)(hc:bJ m.w m.h ce):0<=ce/\ce<m.cs.length:=⟨hc.2.1,by have:=hm.len;have:=hc.2.2;omega⟩
def ai6 (hm:cT m)(hc:bJ m.w m.h ce)(hne:cP m c≠cP m ce):cR (KR m ce x) c=cR m c:=by rw[ao7 (aq_ hm hc),if_neg λe=>hne (by rw[e])]
def afL (hm:cT m)(hs:dW m.w m.h sc)(hc:bJ m.w m.h ce)(hne:sc≠cP m ce):dO (KR m ce x) sc=dO m sc:=by
 refine List.map_congr_left λl hl=>?_;have hl:=List.mem_range.1 hl;have hl:(0:Int)<=(l:Int)/\(l:Int)<aE m.w m.h sc*bw m.w m.h sc:=by have e:(KR m ce x).w=m.w/\(KR m ce x).h=m.h:=⟨rfl,rfl⟩;grind
 exact ai6 hm hc (by show aC m.w m.h (bU m.w m.h sc l)≠_;rw[iV hs hl];exact hne)
def acF (hm:cT m)(hs:dW m.w m.h sc)(hc:bJ m.w m.h ce)(hne:sc≠cP m ce):aW (KR m ce x) sc=aW m sc:=by
 rw[nodes_eq,nodes_eq];congr 1;show((List.range (aE m.w m.h sc*bw m.w m.h sc).toNat).filter λl=>yE m.w m.h sc 4 l&&e_ (KR m ce x) (bU m.w m.h sc l))=_;refine List.filter_congr λl hl=>?_;have hl:=List.mem_range.1 hl;have hl:(0:Int)<=(l:Int)/\(l:Int)<aE m.w m.h sc*bw m.w m.h sc:=by omega
 unfold e_;rw[ai6 hm hc (by show aC m.w m.h (bU m.w m.h sc l)≠_;rw[iV hs hl];exact hne)]
def ao8 (hm:cT m)(hs:dW m.w m.h sc)(hc:bJ m.w m.h ce)(hne:sc≠cP m ce):jI (KR m ce x) sc=jI m sc:=by unfold jI iY;rw[afL hm hs hc hne,acF hm hs hc hne];rfl
def ai7 (hg:xz g)(hc:bJ g.m.w g.m.h ce){i:Nat}:gi (xA g ce x).vs i=if(i:Int)=cP g.m ce then g.ep+1 else gi g.vs i:=by
 have hr:=bT hc;have hl:=hg.len;unfold xA gi cP;by_cases e:(i:Int)=aC g.m.w g.m.h ce
 ·have e1:(aC g.m.w g.m.h ce).toNat=i:=by omega
  have e2:(aC g.m.w g.m.h ce).toNat<g.vs.length:=by have:=hr.2;omega
  grind
 ·have e1:¬(aC g.m.w g.m.h ce).toNat=i:=by have:=hr.2.1;omega
  grind
def ao9 {ms:nE}(hg:xz g)(hc:bJ g.m.w g.m.h ce)(I:yF g ms):yF (xA g ce x) ms:=by
 have hlen:=I.len;refine⟨I.len,⟨by have:=I.old.1;show _<=g.ep+1;omega,λq hq=>by have:=I.old.2 q hq;show _<=g.ep+1;omega⟩,λe=>by have:=I.old.1;have e:ms.clean=g.ep+1:=e;omega,λi q hq hv=>?_,I.u⟩;rw[ai7 hg hc]at hv;have hqe:=I.old.2 q (List.mem_of_getElem? hq);split at hv
 ·omega
 ·rename_i hne;have hi:=(List.getElem?_eq_some_iff.1 hq).1;have hs:dW g.m.w g.m.h i:=⟨hg.iM,by omega,by omega⟩;have h:=I.ok i q hq hv;have e1:aW (xA g ce x).m i=aW g.m i:=acF hg.may hs hc hne;have e2:jI (xA g ce x).m i=jI g.m i:=ao8 hg.may hs hc hne;grind
def ao_ {f:GP}(J:acB g f):acB (xA g ce x) f:=
 ⟨λq hq=>⟨by have:=(J.kept q hq).1;show _<=g.ep+1;omega,λe=>by have:=(J.kept q hq).1;have e:q.2.ep=g.ep+1:=e;omega⟩,J.u⟩
def ai8 (g:iz)(key:Int×Int)(q:DT):Prop:=q.e7<=g.ep/\dW g.m.w g.m.h key.2/\(q.e7=zz g key.2->q.ds=jv (aE g.m.w g.m.h key.2) (bw g.m.w g.m.h key.2) (dO g.m key.2) q.iO/\q.rs=nT (aE g.m.w g.m.h key.2) (bw g.m.w g.m.h key.2) (dO g.m key.2) q.iO)
def amn (hg:xz g)(hc:bJ g.m.w g.m.h ce){key:Int×Int}{q:DT}(h:ai8 g key q):ai8 (xA g ce x) key q:=by
 obtain⟨h1,h2,h3⟩:=h;refine⟨by show _<=g.ep+1;omega,h2,λhv=>?_⟩;have hl:=hg.len;have hk:=h2.2;have e:zz (xA g ce x) key.2=gi (xA g ce x).vs key.2.toNat:=by rw[zz,if_pos];refine⟨hk.1,?_⟩;show key.2<((g.vs.set _ _).length:Int);grind
 have e':zz g key.2=gi g.vs key.2.toNat:=by unfold zz;omega
 rw[e,ai7 hg hc]at hv;split at hv
 ·omega
 ·rw[<-e']at hv;have h4:=h3 hv;have et:dO (xA g ce x).m key.2=dO g.m key.2:=afL hg.may h2 hc (by omega);rw[et];exact h4
end
end Go.Proofs.YtmegplnmiepfbaaGreatDoor.S
namespace Go.Proofs.YtmegplnmiepfbaaGreatDoor.S
open Go.Sx
open Go.Extern
section
variable {w:World}
def rt (n:Nat):Value:=.agg #[.pointer (some ⟨8,n,none⟩)]
def afM (v:Value)(w:World):(ReflectliteType.typeOf #[.iface 401 v]).run P w=.ok (.iface 219 (rt 401)) w:=by kernel_rfl
def ald (w:World):((ReflectliteType.method λt=>do Rtype.noPackHeld "Comparable" t;pure (.bool (<-typeInfo t).comparable)) #[rt 401]).run P w=.ok (.bool true) w:=by kernel_rfl
def ai9 (v:Value)(w:World):(Go.method (P.types.size+Made.depth) 219 v "Comparable").run P w=.ok (311,v) w:=by kernel_rfl
def Tm (v:Value)(w:World):(ReflectliteType.typeOf #[.iface 78 v]).run P w=.ok (.iface 219 (rt 78)) w:=by kernel_rfl
def GS (v:Value)(w:World):(ReflectliteType.typeOf #[.iface 108 v]).run P w=.ok (.iface 219 (rt 108)) w:=by kernel_rfl
def GU (t:Addr)(w:World):(ReflectliteValue.unpack (.iface 120 (.pointer (some t)))).run P w
 =.ok (.agg #[.pointer (some ⟨8,120,none⟩),.pointer (sZ w.heap.size),.int .u64 150]) (w.alloc (.cells #[.pointer (some t)] 120)):=by kernel_rfl
def Em (n:Int)(w:World):(ReflectliteValue.unpack (.iface 108 (ae n))).run P w
 =.ok (.agg #[.pointer (some ⟨8,108,none⟩),.pointer (sZ w.heap.size),.int .u64 130]) (w.alloc (.cells #[ae n] 108)):=by kernel_rfl
def Ru (a:Addr)(w:World):(ReflectliteValue.methodAny (ReflectliteValue.valueError "reflectlite.Value.Type" 0) (λt _ _ _=>ReflectliteType.toType t) #[.agg #[.pointer (some ⟨8,120,none⟩),.pointer (some a),.int .u64 150]]).run P w
 =.ok (.iface 219 (rt 120)) w:=by kernel_rfl
def Il (h:Value)(w:World):(Go.method (P.types.size+Made.depth) 219 (.agg #[h]) "Kind").run P w=.ok (297,h) w:=by kernel_rfl
def Ml (w:World):((ReflectliteType.abiMethod λt=>(λa:Nat=>Value.int IntKind.u8 (a:Int))<$>Rtype.kind t) #[.pointer (some ⟨8,120,none⟩)]).run P w=.ok (.int .u8 22) w:=by kernel_rfl
def Mn (w:World):((ReflectliteType.abiMethod λt=>(λa:Nat=>Value.int IntKind.u8 (a:Int))<$>Rtype.kind t) #[.pointer (some ⟨8,108,none⟩)]).run P w=.ok (.int .u8 2) w:=by kernel_rfl
def aaC (h:Value)(w:World):(Go.method (P.types.size+Made.depth) 219 (.agg #[h]) "Elem").run P w=.ok (312,.agg #[h]) w:=by kernel_rfl
def aey (h:Value)(w:World):(Go.method (P.types.size+Made.depth) 219 (.agg #[h]) "Implements").run P w=.ok (313,.agg #[h]) w:=by kernel_rfl
def Rv (h:Value)(w:World):(Go.method (P.types.size+Made.depth) 219 (.agg #[h]) "AssignableTo").run P w=.ok (310,.agg #[h]) w:=by kernel_rfl
def Rw (w:World):(ReflectliteType.method ReflectliteType.elem #[rt 120]).run P w=.ok (.iface 219 (rt 108)) w:=by kernel_rfl
def WW (w:World):(ReflectliteType.relation "Implements" ReflectliteType.implements_ #[rt 108,.iface 219 (rt 74)]).run P w=.ok (.bool true) w:=by kernel_rfl
def aez (w:World):(ReflectliteType.relation "AssignableTo" ReflectliteType.assignableTo #[rt 78,.iface 219 (rt 108)]).run P w=.ok (.bool false) w:=by kernel_rfl
def Rx (w:World):(ReflectliteType.relation "AssignableTo" ReflectliteType.assignableTo #[rt 108,.iface 219 (rt 108)]).run P w=.ok (.bool true) w:=by kernel_rfl
def aeA (v:Value)(w:World):(Go.method (P.types.size+Made.depth) 78 v "Unwrap").run P w=.ok (302,v) w:=by kernel_rfl
def atz (v:Value)(w:World):(Go.method (P.types.size+Made.depth) 273 v "Unwrap").run P w=.ok (325,v) w:=by kernel_rfl
end
set_option maxRecDepth 20000
def jY {f:Nat}{e:Array Value->Sem Value}{args:Array Value}{w w':World}{v:Value}{K:Value->World->Prop}(h:∀args w,(callFunc f args).run P w=((e args).run P w).andThen λv w'=>.ok (.value v) w')(he:(e args).run P w=.ok v w')(k:K v w'):tJ P f args w K:=by unfold tJ;simp_all
def cxP (n:Nat):(cx n).P=P:=rfl
def m6 {n f:Nat}{e:Array Value->Sem Value}{t:TypeId}{v rv:Value}{name:String}{args:List Value}{w w':World}{r:Value}{K:Value->World->Prop}(hm:∀w,(Go.method (P.types.size+Made.depth) t v name).run P w=.ok (f,rv) w)(hf:oY f fns=false)
  (h:∀args w,(callFunc f args).run P w=((e args).run P w).andThen λv w'=>.ok (.value v) w')(he:(e (#[].toList++(rv::args)++#[].toList).toArray).run P w=.ok r w')(k:K r w'):yJ (cx n) (.iface t v) name args w K:=by
 refine⟨f,rv,hm w,?_⟩;unfold ik;simp only[cxF,cxP,hf,cond_false];exact jY h he k
def x95 (args:Array Value)(w:World):(callFunc 95 args).run P w=((ReflectliteType.typeOf args).run P w).andThen λv w'=>.ok (.value v) w':=run_callFunc_extern Go.Proofs.Tryz.func95 (by kernel_rfl) (by kernel_rfl) (by kernel_rfl) (by kernel_rfl) args w
def avA (args:Array Value)(w:World):(callFunc 311 args).run P w=((ReflectliteType.method (λt=>do Rtype.noPackHeld "Comparable" t;pure (.bool (<-typeInfo t).comparable)) args).run P w).andThen λv w'=>.ok (.value v) w':=run_callFunc_extern Go.Proofs.Tryz.func311 (by kernel_rfl) (by kernel_rfl) (by kernel_rfl) (by kernel_rfl) args w
def apa:oY 311 fns=false:=by kernel_rfl
def apb:(P.info? 401).map (·.comparable)=some true:=by kernel_rfl
def apc:(P.info? 422).map (·.size)=some 1:=by kernel_rfl
def avB {tx ty:Nat}{vx vy:Value}{x y:Operand}{w:World}{K:Bool->World->Prop}(hne:tx≠ty)(h:K false w):bZ P .eql 74 x y (.iface tx vx) (.iface ty vy) w K:=by unfold bZ aQ;rw[show(eqGuard .eql 74 x y (.iface tx vx) (.iface ty vy))=pure ()from rfl];simp[Sem.run_bind,Sem.run_pure,Result.andThen_ok,run_eql_iface_types tx ty vx vy Go.Proofs.Tryz.underlying74 hne w];exact h
def WX {a:Addr}{x y:Operand}{w:World}{K:Bool->World->Prop}(h:K true w):bZ P .eql 74 x y (.iface 401 (.pointer (some a))) (.iface 401 (.pointer (some a))) w K:=by obtain⟨i,hi,hcmp⟩:=Option.map_eq_some_iff.1 apb;obtain⟨j,hj,hjs⟩:=Option.map_eq_some_iff.1 apc;unfold bZ aQ;rw[show(eqGuard .eql 74 x y (.iface 401 (.pointer (some a))) (.iface 401 (.pointer (some a))))=pure ()from rfl];simp[Sem.run_bind,Sem.run_pure,Result.andThen_ok,run_eql_iface_ptr_same w a Go.Proofs.Tryz.underlying74 Go.Proofs.Tryz.underlying401 hi hcmp hj];exact h
def acG {a b:Addr}{ca cb:Array Value}{ta tb:TypeId}{x y:Operand}{w:World}{K:Bool->World->Prop}(hne:a≠b)(ha:w.heap[a.block]? =some (.cells ca ta (0,0)))(hb:w.heap[b.block]? =some (.cells cb tb (0,0)))(h:K false w):bZ P .eql 74 x y (.iface 401 (.pointer (some a))) (.iface 401 (.pointer (some b))) w K:=by obtain⟨i,hi,hcmp⟩:=Option.map_eq_some_iff.1 apb;obtain⟨j,hj,hjs⟩:=Option.map_eq_some_iff.1 apc;unfold bZ aQ;rw[show(eqGuard .eql 74 x y (.iface 401 (.pointer (some a))) (.iface 401 (.pointer (some b))))=pure ()from rfl];simp[Sem.run_bind,Sem.run_pure,Result.andThen_ok,run_eql_iface_ptr_other w Go.Proofs.Tryz.underlying74 Go.Proofs.Tryz.underlying401 hi hcmp hj (by omega) hne ha hb];exact h
def avC {t:Nat}(ht:t=401\/t=78\/t=108\/t=273)(v:Value)(xT:TypeId)(w:World):(Instr.typeAssert (.iface t v) xT 221 true).run P w=.ok (.tuple #[.nilIface,.bool false]) w:=by
 rcases ht with rfl|rfl|rfl|rfl
 ·exact run_typeAssert_lacksB Go.Proofs.Tryz.underlying221 (by kernel_rfl) (by kernel_rfl) v xT w
 ·exact run_typeAssert_lacksB Go.Proofs.Tryz.underlying221 (by kernel_rfl) (by kernel_rfl) v xT w
 ·exact run_typeAssert_lacksB Go.Proofs.Tryz.underlying221 (by kernel_rfl) (by kernel_rfl) v xT w
 ·exact run_typeAssert_lacksB Go.Proofs.Tryz.underlying221 (by kernel_rfl) (by kernel_rfl) v xT w
def ay2 {t:Nat}(ht:t=78\/t=108)(v:Value)(xT:TypeId)(w:World):(Instr.typeAssert (.iface t v) xT 231 true).run P w=.ok (.tuple #[.nilIface,.bool false]) w:=by
 rcases ht with rfl|rfl
 ·exact run_typeAssert_lacksB Go.Proofs.Tryz.underlying231 (by kernel_rfl) (by kernel_rfl) v xT w
 ·exact run_typeAssert_lacksB Go.Proofs.Tryz.underlying231 (by kernel_rfl) (by kernel_rfl) v xT w
def ay3 {t:Nat}(ht:t=401\/t=108)(v:Value)(xT:TypeId)(w:World):(Instr.typeAssert (.iface t v) xT 224 true).run P w=.ok (.tuple #[.nilIface,.bool false]) w:=by
 rcases ht with rfl|rfl
 ·exact run_typeAssert_lacksB Go.Proofs.Tryz.underlying224 (by kernel_rfl) (by kernel_rfl) v xT w
 ·exact run_typeAssert_lacksB Go.Proofs.Tryz.underlying224 (by kernel_rfl) (by kernel_rfl) v xT w
def awR {t:Nat}(ht:t=401\/t=108)(v:Value)(xT:TypeId)(w:World):(Instr.typeAssert (.iface t v) xT 226 true).run P w=.ok (.tuple #[.nilIface,.bool false]) w:=by
 rcases ht with rfl|rfl
 ·exact run_typeAssert_lacksB Go.Proofs.Tryz.underlying226 (by kernel_rfl) (by kernel_rfl) v xT w
 ·exact run_typeAssert_lacksB Go.Proofs.Tryz.underlying226 (by kernel_rfl) (by kernel_rfl) v xT w
def asq {t:Nat}(ht:t=78\/t=273)(v:Value)(xT:TypeId)(w:World):(Instr.typeAssert (.iface t v) xT 224 true).run P w=.ok (.tuple #[.iface t v,.bool true]) w:=by
 rcases ht with rfl|rfl
 ·exact run_typeAssert_hasB Go.Proofs.Tryz.underlying224 (by kernel_rfl) v xT w
 ·exact run_typeAssert_hasB Go.Proofs.Tryz.underlying224 (by kernel_rfl) v xT w
end Go.Proofs.YtmegplnmiepfbaaGreatDoor.S
set_option maxRecDepth 20000
namespace Go.Proofs.YtmegplnmiepfbaaGreatDoor.S
open Go.Sx
open Go.Extern
attribute [local irreducible] af cQ bG bp aA cE cw St Bx Al App cV cO cM bZ bI au cj ax ak bg mapA
def aAC:oY 302 fns=true:=by kernel_rfl
def aAD:oY 325 fns=true:=by kernel_rfl
def A3 {s:Sem Value}{w w':World}{v:Value}{K:Value->World->Prop}(h:s.run P w=.ok v w')(k:K v w'):aQ P s w K:=by unfold aQ;grind
section
variable {w:World}{p n:Nat}{v:Value}
def mL {ad:Addr}{K:Value->Prop}(h:w.cell? ad=some v)(hp:Value.plain v=true)(k:K v):cw ad w K:=by unfold cw;grind
def tG {t:Nat}{A B:Prop}(h:B):BM (.iface t v) λb=>cond b A B:=h
def Tn {b:Bool}{K:Value->Bool->Prop}(hp:Value.plain v=true)(k:K v b):dT (.tuple #[v,.bool b]) λl=>dD l λv0 l0=>dV v0 λx0=>dD l0 λv1 l1=>dB v1 λx1=>kN l1 (K x0 x1):=by show dV v λx0=>K x0 b;unfold dV;grind
def acH {Q:Value->World->Prop}(hv:w.cell? ((aZ p).add 1)=some v)(hp:Value.plain v=true)(k:Q v w):yJ (cx n) (.iface 78 (.pointer (sZ p))) "Unwrap" [] w λv w=>dV v λr=>Q r w:=by
 refine⟨302,_,aeA _ w,?_⟩;unfold ik;have h:Gn (sZ p) w Q:=by apply SW;refine ah (mL hv hp ?_);unfold dV;grind
 exact h
def atA {Q:Value->World->Prop}(hv:w.cell? ((aZ p).add 1)=some v)(hp:Value.plain v=true)(k:Q v w):yJ (cx n) (.iface 273 (.pointer (sZ p))) "Unwrap" [] w λv w=>dV v λr=>Q r w:=by
 refine⟨325,_,atz _ w,?_⟩;unfold ik;have h:Fz (sZ p) w Q:=by apply Q6;refine ah (mL hv hp ?_);unfold dV;grind
 exact h
def ale {Q:Bool->World->Prop}{t:Nat}{u target:Value}{c:Bool}(ht:t=401\/t=108){k:Nat}
  (he:∀(x y:Operand) (K:Bool->World->Prop),K c w->bZ P .eql 74 x y (.iface t u) target w K)(hQ:Q c w):qg Q (k+1) (.iface t u) target true w:=by
 show AM Q (qg Q k) _ _ _ _;unfold AM;apply he;cases c with
 |true=>exact hQ
 |false=>
  refine A3 (avC (by grind) _ _ _) (Tn rfl ?_);refine A3 (ay3 ht _ _ _) (Tn rfl ?_);refine A3 (awR ht _ _ _) (Tn rfl ?_);grind
def atB {Q:Bool->World->Prop}{tw:Nat}{target:Value}{k tt:Nat}{tv:Value}(Q9:tw=78\/tw=273)(htg:target=.iface 401 tv)(hv:w.cell? ((aZ p).add 1)=some (.iface tt v))
  (h:qg Q k (.iface tt v) target true w):qg Q (k+1) (.iface tw (.pointer (sZ p))) target true w:=by
 show AM Q (qg Q k) _ _ _ _;unfold AM;subst htg;apply avB (by grind);refine A3 (avC (by grind) _ _ _) (Tn rfl ?_);refine A3 (asq Q9 _ _ _) (Tn rfl ?_);rcases Q9 with rfl|rfl
 ·exact acH hv rfl h
 ·exact atA hv rfl h
def To {Q:Bool->World->Prop}{tw tt:Nat}{b:Addr}{c:Bool}(Q9:tw=78\/tw=273)(ht:tt=401\/tt=108)(hv:w.cell? ((aZ p).add 1)=some (.iface tt v))
  (he:∀(x y:Operand) (K:Bool->World->Prop),K c w->bZ P .eql 74 x y (.iface tt v) (.iface 401 (.pointer (some b))) w K)(hQ:Q c w):
  pF (.iface tw (.pointer (sZ p))) (.iface 401 (.pointer (some b))) w Q:=by
 apply NF;refine tG (tG ?_);apply jY x95 (afM _ w);refine m6 (ai9 _) apa avA (ald w) ?_;have h:wX (.iface tw (.pointer (sZ p))) (.iface 401 (.pointer (some b))) true w Q:=by apply ND;exact⟨2,atB Q9 rfl hv (ale ht he hQ)⟩
 exact h
end
end Go.Proofs.YtmegplnmiepfbaaGreatDoor.S
set_option maxRecDepth 20000
namespace Go.Proofs.YtmegplnmiepfbaaGreatDoor.S
open Go.Sx
open Go.Extern
def x97 (args:Array Value)(w:World):(callFunc 97 args).run P w=((ReflectliteValue.unpack (args.getD 0 (.tuple #[]))).run P w).andThen λv w'=>.ok (.value v) w':=run_callFunc_extern (e:=λargs=>ReflectliteValue.unpack (args.getD 0 (.tuple #[]))) Go.Proofs.Tryz.func97 (by kernel_rfl) (by kernel_rfl) (by kernel_rfl) (by kernel_rfl) args w
def x98 (args:Array Value)(w:World):(callFunc 98 args).run P w=((ReflectliteValue.methodAny (ReflectliteValue.valueError "reflectlite.Value.Type" 0) (λt _ _ _=>ReflectliteType.toType t) args).run P w).andThen λv w'=>.ok (.value v) w':=run_callFunc_extern Go.Proofs.Tryz.func98 (by kernel_rfl) (by kernel_rfl) (by kernel_rfl) (by kernel_rfl) args w
def x99 (args:Array Value)(w:World):(callFunc 99 args).run P w=((ReflectliteValue.method (ReflectliteValue.valueError "reflectlite.Value.IsNil" 0) ReflectliteValue.isNil args).run P w).andThen λv w'=>.ok (.value v) w':=run_callFunc_extern Go.Proofs.Tryz.func99 (by kernel_rfl) (by kernel_rfl) (by kernel_rfl) (by kernel_rfl) args w
def ara (args:Array Value)(w:World):(callFunc 138 args).run P w=((ReflectliteValue.method (ReflectliteValue.valueError "reflectlite.Value.Elem" 0) ReflectliteValue.elem args).run P w).andThen λv w'=>.ok (.value v) w':=run_callFunc_extern Go.Proofs.Tryz.func138 (by kernel_rfl) (by kernel_rfl) (by kernel_rfl) (by kernel_rfl) args w
def arb (args:Array Value)(w:World):(callFunc 139 args).run P w=((ReflectliteValue.set args).run P w).andThen λv w'=>.ok (.value v) w':=run_callFunc_extern Go.Proofs.Tryz.func139 (by kernel_rfl) (by kernel_rfl) (by kernel_rfl) (by kernel_rfl) args w
def aeB (args:Array Value)(w:World):(callFunc 297 args).run P w=((ReflectliteType.abiMethod (λt=>do pure (.int .u8 (<-Rtype.kind t))) args).run P w).andThen λv w'=>.ok (.value v) w':=run_callFunc_extern Go.Proofs.Tryz.func297 (by kernel_rfl) (by kernel_rfl) (by kernel_rfl) (by kernel_rfl) args w
def arc (args:Array Value)(w:World):(callFunc 312 args).run P w=((ReflectliteType.method ReflectliteType.elem args).run P w).andThen λv w'=>.ok (.value v) w':=run_callFunc_extern Go.Proofs.Tryz.func312 (by kernel_rfl) (by kernel_rfl) (by kernel_rfl) (by kernel_rfl) args w
def ard (args:Array Value)(w:World):(callFunc 313 args).run P w=((ReflectliteType.relation "Implements" ReflectliteType.implements_ args).run P w).andThen λv w'=>.ok (.value v) w':=run_callFunc_extern Go.Proofs.Tryz.func313 (by kernel_rfl) (by kernel_rfl) (by kernel_rfl) (by kernel_rfl) args w
def aja (args:Array Value)(w:World):(callFunc 310 args).run P w=((ReflectliteType.relation "AssignableTo" ReflectliteType.assignableTo args).run P w).andThen λv w'=>.ok (.value v) w':=run_callFunc_extern Go.Proofs.Tryz.func310 (by kernel_rfl) (by kernel_rfl) (by kernel_rfl) (by kernel_rfl) args w
def Ry:oY 297 fns=false:=by kernel_rfl
def ajb:oY 312 fns=false:=by kernel_rfl
def ajc:oY 313 fns=false:=by kernel_rfl
def WY:oY 310 fns=false:=by kernel_rfl
abbrev vP (a:Addr):Value:=.agg #[.pointer (some ⟨8,120,none⟩),.pointer (some a),.int .u64 150]
abbrev vR (a:Addr):Value:=.agg #[.pointer (some ⟨8,108,none⟩),.pointer (some a),.int .u64 130]
abbrev vE (a:Addr):Value:=.agg #[.pointer (some ⟨8,108,none⟩),.pointer (some a),.int .u64 386]
def rlm (z:Sem Value)(f:TypeId->Addr->Nat->Nat->Sem Value)(v:Value):
 ReflectliteValue.method z f #[v]=(do match<-ReflectliteValue.parts v with|none=>z|some (t,a,fl)=>f t a fl (fl%32)):=rfl
def zS (a:Addr)(w:World):(ReflectliteValue.parts (vP a)).run P w=.ok (some (120,a,150)) w:=by kernel_rfl
def Jn (a:Addr)(w:World):(ReflectliteValue.parts (vR a)).run P w=.ok (some (108,a,130)) w:=by kernel_rfl
def Jo (a:Addr)(w:World):(ReflectliteValue.parts (vE a)).run P w=.ok (some (108,a,386)) w:=by kernel_rfl
def Mo (a p:Addr)(w:World)(ha:w.cell? a=some (.pointer (some p))):(ReflectliteValue.method (ReflectliteValue.valueError "reflectlite.Value.IsNil" 0) ReflectliteValue.isNil #[vP a]).run P w=.ok (.bool false) w:=by rw[rlm];simp[Sem.run_bind,zS,Result.andThen];simp[ReflectliteValue.isNil,loadVar,isAgg,underlying,Go.Proofs.Tryz.underlying120,ha,Result.andThen]
def Jp (w:World):(Rtype.elem? 120).run P w=.ok (some 108) w:=by kernel_rfl
def acI (p:Addr)(w:World):(ReflectliteValue.mk 108 p ReflectliteValue.flagAddr).run P w=.ok (vE p) w:=by kernel_rfl
def Mp (a p:Addr)(w:World)(ha:w.cell? a=some (.pointer (some p))):(ReflectliteValue.method (ReflectliteValue.valueError "reflectlite.Value.Elem" 0) ReflectliteValue.elem #[vP a]).run P w=.ok (vE p) w:=by rw[rlm];simp[Sem.run_bind,zS,Result.andThen];simp[ReflectliteValue.elem,loadVar,isAgg,underlying,Go.Proofs.Tryz.underlying120,ha,Result.andThen,Jp,acI]
def rls (v x:Value):ReflectliteValue.set #[v,x]=(do
 let(some (dst,a,fl),some (src,b,_)):=(<-ReflectliteValue.parts v,<-ReflectliteValue.parts x)
  |unsupported (.noEntry "extern/(internal/reflectlite.Value).Set.zeroValue")
 if fl/ReflectliteValue.flagAddr%2==0 then unsupported (.noEntry "extern/(internal/reflectlite.Value).Set.unaddressable")
 let val<-loadVar src b
 if<-Rtype.directlyAssignable dst src then storeVar dst a val
 else if<-Rtype.implements dst src then
  if(<-Rtype.kind src)==20 then
   match val with
   |.nilIface=>unsupported (.noEntry "extern/reflectlite: a nil value of one interface type handed on as a value of another")
   |_=>storeVar dst a val
  else storeVar dst a (.iface src val)
 else panicString ("reflectlite.Set: value of type "++(<-Rtype.spelt src)++ " is not assignable to type "++(<-Rtype.spelt dst))
 pure (.tuple #[])):=rfl
def Jq (w:World):(Rtype.directlyAssignable 108 108).run P w=.ok true w:=by kernel_rfl
def W0 (t b:Addr)(n:Int)(old:Value)(w:World)(hb:w.cell? b=some (ae n))(ht:w.cell? t=some old)(hf:w.frozen? t=false):
  (ReflectliteValue.set #[vE t,vR b]).run P w=.ok (.tuple #[]) (w.setCell t (ae n)):=by
 rw[rls];simp[Sem.run_bind,Jo,Jn,Result.andThen];simp[ReflectliteValue.flagAddr,loadVar,isAgg,underlying,Go.Proofs.Tryz.underlying108,hb,Result.andThen,Jq,storeVar,Value.cells,storeCells,Addr.add];rw[run_store P w t _ _ (by rfl)];simp[ht,hf]
end Go.Proofs.YtmegplnmiepfbaaGreatDoor.S
set_option maxRecDepth 20000
namespace Go.Proofs.YtmegplnmiepfbaaGreatDoor.S
open Go.Sx
open Go.Extern
attribute [local irreducible] tJ callFunc Sem.run ReflectliteValue.method ReflectliteValue.set ReflectliteValue.unpack ReflectliteType.relation ReflectliteType.typeOf af cQ bG bp aA cE cw St App cV cO cM bZ bI au cj ax ak bg mapA
section
variable {F:Nat->Prop}{W w:World}{L:List As}{p r:Nat}{c v0:Int}
def Tp {a b:Option Addr}{f:Int}{K:Option Addr->Option Addr->Int->Prop}(k:K a b f):dL (.agg #[.pointer a,.pointer b,.int .u64 f]) λl=>dD l λv0 l0=>dP v0 λa=>dD l0 λv1 l1=>dP v1 λb=>dD l1 λv2 l2=>dI .u64 v2 λf=>kN l2 (K a b f):=k
def amo {A B:Prop}(h:A):dB (.bool true) λb=>cond b A B:=h
def aeC {A B:Prop}(h:B):dB (.bool false) λb=>cond b A B:=h
def amq {A B:Prop}(h:B):dB (.bool true) λb=>cond (!b) A B:=h
def amr {A B:Prop}(h:B):dI .u8 (.int .u8 22) λr=>cond (r !=22) A B:=h
def asr {A B:Prop}(h:A):dI .u8 (.int .u8 2) λr=>cond (r !=20) A B:=h
def aBS:zc T 161=[.pointer none,.pointer none,.int .u64 0]:=rfl
def ams {ad:Addr}{v:Value}{K:World->Prop}(h:St ad v w K):(∃u,w.cell? ad=some u)/\w.frozen? ad=false/\K (w.setCell ad v):=by unfold St at h;exact h
def Rz {b:Addr}{K:Value->World->Prop}(hb:w.cell? b=some (ae c))(h:St (aZ r) (ae c) w λw=>K (.tuple #[]) w):tJ P 139 #[vE (aZ r),vR b] w K:=by obtain⟨⟨u,hu⟩,hf,k⟩:=ams h;have he:=W0 (aZ r) b c u w hb hu hf;apply jY (w':=w.setCell (aZ r) (ae c)) arb he;exact k
def W1 {Q:Bool->World->Prop}{k tb:Nat}{a:Nat}(s:Sep F W w (ax tb 161 [.pointer (some ⟨8,120,none⟩),.pointer (sZ a),.int .u64 150]::ax a 120 [.pointer (sZ r)]::ax r 108 [ae v0]::L))
  (hQ:∀w',Sep F W w' (ax r 108 [ae c]::L)->Q true w'){target:Value}:jf Q (k+1) (.iface 108 (ae c)) target (.iface 219 (rt 108)) (aZ tb) w:=by
 show wO Q (jf Q k) _ _ _ _ _;apply jY x95 (GS _ w);refine m6 (Rv _) WY aja (Rx w) ?_;apply amo;refine lP s 0 rfl (lP s 0 rfl (lI s 0 rfl ?_));apply jY ara (Mp (aZ a) (aZ r) w (by have:=cF s (i:=1) (j:=0) rfl rfl rfl;exact this));apply Tp;refine jY x97 (Em c w) ?_;apply Tp;have s2:=tL (ai (ai s)) [ae c] 108;have s2:=s2;apply Rz (c:=c) (by simp_all);refine av s2 (i:=1) rfl rfl rfl λw s=>?_;exact hQ w (ai s)
def ajf {Q:Bool->World->Prop}{k tb:Nat}{a:Nat}(s:Sep F W w (ax tb 161 [.pointer (some ⟨8,120,none⟩),.pointer (sZ a),.int .u64 150]::ax a 120 [.pointer (sZ r)]::ax r 108 [ae v0]::L))
  (hv:w.cell? ((aZ p).add 1)=some (.iface 108 (ae c)))
  (hQ:∀w',Sep F W w' (ax r 108 [ae c]::L)->Q true w'){target:Value}:jf Q (k+2) (.iface 78 (.pointer (sZ p))) target (.iface 219 (rt 108)) (aZ tb) w:=by
 show wO Q (jf Q (k+1)) _ _ _ _ _;apply jY x95 (Tm _ w);refine m6 (Rv _) WY aja (aez w) ?_;apply aeC;refine A3 (ay2 (.inl rfl) _ _ _) (Tn rfl ?_);refine A3 (asq (.inl rfl) _ _ _) (Tn rfl ?_);exact acH hv rfl (tG (W1 s hQ))
def Mq {Q:Bool->World->Prop}(s:Sep F W w (ax r 108 [ae v0]::L))(hv:∀w',Sep F W w' L->w'.cell? ((aZ p).add 1)=some (.iface 108 (ae c)))
  (h1:∀w',Sep F W w' L->w'.cell? (aZ 1)=some (.iface 219 (rt 74)))
  (hQ:∀w',Sep F W w' (ax r 108 [ae c]::L)->Q true w'):
  nA (.iface 78 (.pointer (sZ p))) (.iface 120 (.pointer (sZ r))) w Q:=by
 apply Bp;refine tG (tG ?_);refine jY x97 (GU (aZ r) w) ?_;apply Tp;have s:=tL s [.pointer (sZ r)] 120;have s:=s;generalize w.heap.size=a at s⊢;generalize w.alloc (.cells #[.pointer (sZ r)] 120)=w1 at s⊢;refine aT s λvb w s=>?_;refine sT s 0 rfl λw s=>?_;refine sT s 0 rfl λw s=>?_;refine av s (i:=0) rfl rfl rfl λw s=>?_;refine lP s 0 rfl (lP s 0 rfl (lI s 0 rfl ?_));apply jY x98 (Ru (aZ a) w);refine m6 (Il _) Ry aeB (Ml w) ?_;apply amr;refine lP s 0 rfl (lP s 0 rfl (lI s 0 rfl ?_));apply jY x99 (Mo (aZ a) (aZ r) w (by have:=cF s (i:=1) (j:=0) rfl rfl rfl;exact this));apply aeC;refine m6 (aaC _) ajb arc (Rw w) ?_;refine m6 (Il _) Ry aeB (Mn w) ?_;apply asr;apply mL (h1 w (ai (ai (ai s)))) rfl;refine m6 (aey _) ajc ard (WW w) ?_;apply amq;refine lP s 0 rfl (lP s 0 rfl (lI s 0 rfl ?_));apply Gp;have s:=ai s;refine aM s λtb w s=>?_;exact⟨2,ajf s (hv w (ai (ai (ai s)))) hQ⟩
end
end Go.Proofs.YtmegplnmiepfbaaGreatDoor.S
