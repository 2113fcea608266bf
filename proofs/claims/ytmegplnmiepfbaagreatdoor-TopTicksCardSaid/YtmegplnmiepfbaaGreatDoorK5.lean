/- Part 6 of the proof. -/
import Derived.Test.YtmegplnmiepfbaaGreatDoorK4
import Derived.Test.YtmegplnmiepfbaaGreatDoorRows
import Derived.LaidLaws
import Derived.LaidHandle
import Derived.ChangeSame
import Derived.JoinedOf
set_option linter.unusedVariables false
set_option linter.unusedSimpArgs false
set_option linter.defProp false
namespace Go.Proofs.YtmegplnmiepfbaaGreatDoor.S.O
open Go.Sx
attribute [local irreducible] af cD bz bg aA cy b_ St Bx Al App cK cE cB bV aN bG aq bT av ak aW mapA
def abh (x:yd):List Value:=[ae x.k,ae x.a,ae x.b]
section
variable {F:Nat->Prop}{W w w0:World}{L:List As}{mw mh:Int}{ca la oa ra:Option Addr}{cn cc ln lc mb on oc rn rc i:Nat}{cs:List Int}{xs:List yd}{x:yd}{m:bJ}{es:List (HQ×lA)}{Q:Option Addr->Nat->Nat->World->Prop}
variable {P5:Int->Int->Option Addr->Nat->Nat->Option Addr->Nat->Nat->Addr->Option Addr->Nat->Nat->Int->Int->World->Prop}
def ann (w:World)(a:Option Addr)(n c:Nat)(vs:List HQ)(os:List lA):Prop:=Sl w a n c 4 GU vs/\os.length=n/\∀(i:Nat) (v:HQ) (o:lA),vs[i]? =some v->os[i]? =some o->OpV w v o
def ano {F:Nat->Prop}{W w:World}{L:List As}{oa:Option Addr}{on oc:Nat}{es:List (HQ×lA)}(s:Sep F W w (ak oa on oc 38 4 (flat GU (es.map (·.1)))::E0 es::L)):ann w oa on oc (es.map (·.1)) (es.map (·.2)):=by have h1:=aG s (i:=0) rfl atH (by decide);have hl:=h1.len;refine⟨h1,by grind,λi v o hv ho=>?_⟩;obtain⟨h2,s2⟩:=gR (ai s);rw[List.getElem?_map]at hv ho;obtain⟨e,he,rfl⟩:=Option.map_eq_some_iff.1 hv;rw[he]at ho;cases ho;have ha:=h2 e (List.mem_of_getElem? he);exact⟨ha.k,ha.A,ha.B,aG s2 (i:=i) (by rw[List.getElem?_append_left (by grind),List.getElem?_map,he];rfl) cZ (by decide),ha.jG⟩
def ann.El {w:World}{a:Option Addr}{n c:Nat}{vs:List HQ}{os:List lA}{o:lA}{idx:Int}{k:Nat}{K:Addr->Prop}(h:ann w a n c vs os)(hk:idx=k)(ho:os[k]? =some o)
  (hK:∀p va vn vc,vs[k]? =some ⟨o.k,o.A,o.B,va,vn,vc⟩->(∀(j:Nat) u,(GU ⟨o.k,o.A,o.B,va,vn,vc⟩)[j]? =some u->w.cell? ((p.add (idx.toNat*4)).add j)=some u)->K p):aJ idx n (wA a K):=by
 obtain⟨h1,h2,h3⟩:=h;have hn:k<n:=by grind
 refine h1.El hk hn λp v hv hc=>?_;obtain⟨k1,A1,B1,va,vn,vc⟩:=v;obtain⟨e1,e2,e3,_⟩:=h3 k _ o hv ho;grind
def mdL (oa:Option Addr)(on oc:Nat)(es:List (HQ×lA))(mb:Nat)(m:bJ)(ra:Option Addr)(rn rc:Nat):List As:=
 [ak oa on oc 38 4 (flat GU (es.map (·.1))),E0 es,av mb 25 [ae m.w,ae m.h,.slice ra rn rc],ak ra rn rc 5 1 (flat bp m.cs)]
def aj2 {ob:Nat}{v:HQ}{o:lA}{nn:Int}{rest:List As}(ha:ahr (v,o))(CN:on<=1000)(hi:i<=1000)
  (s:Sep No w0 w (av ob 38 (GU v)::ak v.a v.n v.c 5 1 (flat bp o.m)::ak oa on oc 38 4 (flat GU (es.map (·.1)))::E0 es::rest))
  (next:∀a' c' w',Sep No w0 w' (ak a' (on+1) c' 38 4 (flat GU ((es++[(v,o)]).map (·.1)))::E0 (es++[(v,o)])::rest)->P5 mw mh ca cn cc la ln lc (aZ mb) a' (on+1) c' nn ((i+1:Nat):Int) w'):
  cR P5 Q mw mh ca cn cc la ln lc (aZ mb) oa on oc nn i (aZ ob) w:=by
 apply lI s 0 rfl;apply lI s 0 rfl;apply lI s 0 rfl;apply lS s 0 rfl;have s:=cu (ai s) (List.Perm.trans (List.Perm.swap ..) (List.Perm.cons _ (List.Perm.swap ..)));rw[aH];exact awP s ha (by omega) λa' c' w s=>next a' c' w s
attribute [local irreducible] cR in
theorem axp {ob xb:Nat}(hC:Sl w0 ca cn cc 1 bp cs)(hcs:ef cs)(Rj:cn<9223372036854775808)(hm:cF m)(CN:on<=1000)(hi:i<=1000)
  (s:Sep No w0 w (av ob 38 [ae 0,ae (gh x.a 0 ((m.cs.length:Int)-1)),ae (gh x.b 0 ((m.cs.length:Int)-1)),.slice none 0 0]::av xb 90 (abh x)::mdL oa on oc es mb m ra rn rc))
  (next:∀(m':bJ) v o a' c' ra' rn' rc' w',wH mw mh cs m x=(o,m')->Sep No w0 w' (mdL a' (on+1) c' (es++[(v,o)]) mb m' ra' rn' rc')->P5 mw mh ca cn cc la ln lc (aZ mb) a' (on+1) c' (m'.cs.length:Int) ((i+1:Nat):Int) w'):
  jx P5 Q mw mh ca cn cc la ln lc (aZ mb) oa on oc (m.cs.length:Int) i (aZ xb) (aZ ob) w:=by
 have hms:=Lx hm;have asr:=IQ (x:=x.b%256) (by omega);have ask:=next
 unfold wH at ask;apply lI s 1 rfl;apply cj (by decide) (by decide) (by decide);have ek:0+x.k%(15-0+1)=gh x.k 0 15:=rfl;rw[ek];have t:∀{a b:Int},a=b->(a==b)=true:=λh=>by rw[beq_iff_eq];exact h
 have f:∀{a b:Int},a≠b->(a==b)=false:=λh=>by rw[beq_eq_false_iff_ne];exact h
 have plain:∀(k A B:Int) (w:World) (L':List As) (js:List Nat),wH mw mh cs m x=(⟨k,A,B,[]⟩,m)->js.Nodup->js.map (λi=>L'[i]?)=[some (av ob 38 [ae k,ae A,ae B,.slice none 0 0]),some (ak oa on oc 38 4 (flat GU (es.map (·.1)))),some (E0 es),some (av mb 25 [ae m.w,ae m.h,.slice ra rn rc]),some (ak ra rn rc 5 1 (flat bp m.cs))]->
   Sep No w0 w L'->cR P5 Q mw mh ca cn cc la ln lc (aZ mb) oa on oc (m.cs.length:Int) i (aZ ob) w:=by
  intro k A B w L' js e hnd hpk s;have s:=ck (L':=[_,_,_,_,_]) js s hpk hnd;have s:=cu (bH s 5 1) (List.Perm.swap ..);exact aj2 (v:=⟨k,A,B,none,0,0⟩) ⟨rfl,rfl,rfl,ef.nil⟩ CN hi s λa' c' w s=>next _ _ _ a' c' ra rn rc w e s
 have b14:(gh x.k 0 15=0\/gh x.k 0 15=1\/gh x.k 0 15=2)->nG P5 Q mw mh ca cn cc la ln lc (aZ mb) oa on oc (m.cs.length:Int) i (aZ ob) w:=by intro h;refine ax s (i:=0) rfl rfl rfl λw s=>?_;exact plain _ _ _ w _ [0,2,3,4,5] (by unfold wH;simp only;rw[if_pos h]) (by decide) rfl s
 have b21:(gh x.k 0 15=5\/gh x.k 0 15=6)->qK P5 Q mw mh ca cn cc la ln lc (aZ mb) oa on oc (m.cs.length:Int) i (aZ xb) (aZ ob) w:=by intro h;apply lI s 1 rfl;rw[wrap_u8'];apply RQ (by omega);rw[aH];refine sT s 0 rfl λw s=>?_;refine ax s (i:=0) rfl rfl rfl λw s=>?_;exact plain _ _ _ w _ [0,2,3,4,5] (by unfold wH;simp only;rw[fU,fU,fU,if_pos h]) (by decide) rfl s
 by_cases k0:gh x.k 0 15=0
 ·rw[t k0,cond_true];exact b14 (.inl k0)
 rw[f k0,cond_false];by_cases k1:gh x.k 0 15=1
 ·rw[t k1,cond_true];exact b14 (.inr (.inl k1))
 rw[f k1,cond_false];by_cases k2:gh x.k 0 15=2
 ·rw[t k2,cond_true];exact b14 (.inr (.inr k2))
 rw[f k2,cond_false];by_cases k3:gh x.k 0 15=3
 ·rw[t k3,cond_true];apply lI s 1 rfl;apply cj (by decide) (by decide) (by decide);refine sT s 0 rfl λw s=>?_;refine ax s (i:=0) rfl rfl rfl λw s=>?_;exact plain _ _ _ w _ [0,2,3,4,5] (by unfold wH;simp only;rw[fU,if_pos k3];rfl) (by decide) rfl s
 rw[f k3,cond_false];by_cases k4:gh x.k 0 15=4
 ·rw[t k4,cond_true];apply lI s 1 rfl;apply cj (by decide) (by decide) (by decide);refine sT s 0 rfl λw s=>?_;refine sT s 0 rfl λw s=>?_;refine ax s (i:=0) rfl rfl rfl λw s=>?_;exact plain _ _ _ w _ [0,2,3,4,5] (by unfold wH;simp only;rw[fU,fU,if_pos k4];rfl) (by decide) rfl s
 rw[f k4,cond_false];by_cases k5:gh x.k 0 15=5
 ·rw[t k5,cond_true];exact b21 (.inl k5)
 rw[f k5,cond_false];by_cases k6:gh x.k 0 15=6
 ·rw[t k6,cond_true];exact b21 (.inr k6)
 rw[f k6,cond_false];by_cases k7:gh x.k 0 15=7
 ·rw[t k7,cond_true];refine ax s (i:=0) rfl rfl rfl λw s=>?_;exact plain _ _ _ w _ [0,2,3,4,5] (by unfold wH;simp only;rw[fU,fU,fU,fU,if_pos (.inl k7)]) (by decide) rfl s
 rw[f k7,cond_false];by_cases k8:gh x.k 0 15=8
 ·rw[t k8,cond_true];refine ax s (i:=0) rfl rfl rfl λw s=>?_;exact plain _ _ _ w _ [0,2,3,4,5] (by unfold wH;simp only;rw[fU,fU,fU,fU,if_pos (.inr k8)]) (by decide) rfl s
 rw[f k8,cond_false];by_cases k9:gh x.k 0 15=9
 ·rw[t k9,cond_true];refine sT s 0 rfl λw s=>?_;refine sT s 0 rfl λw s=>?_;refine sT s 0 rfl λw s=>?_;refine ax s (i:=0) rfl rfl rfl λw s=>?_;exact plain _ _ _ w _ [0,2,3,4,5] (by unfold wH;simp only;rw[fU,fU,fU,fU,fU,if_pos k9]) (by decide) rfl s
 rw[f k9,cond_false];by_cases k10:gh x.k 0 15=10
 ·rw[t k10,cond_true];apply lI s 1 rfl;refine⟨by decide,?_⟩;by_cases h4:Int.tmod x.a 4=0
  ·rw[t h4,cond_true];apply lI s 1 rfl;refine⟨by decide,?_⟩;apply lI s 1 rfl;have hm':=Fb (w:=IntKind.wrap .i64 (mw+IntKind.wrap .i64 (Int.tdiv x.a 4))) (h:=IntKind.wrap .i64 (mh+x.b)) hcs;refine Zq s (hC.fr (au s)) hcs Rj λna nn nc w s _=>?_;have e:wH mw mh cs m x=(ET (vV (IntKind.wrap .i64 (mw+IntKind.wrap .i64 (Int.tdiv x.a 4))) (IntKind.wrap .i64 (mh+x.b)) cs),vV (IntKind.wrap .i64 (mw+IntKind.wrap .i64 (Int.tdiv x.a 4))) (IntKind.wrap .i64 (mh+x.b)) cs):=by rw[wH,fU,fU,fU,fU,fU,fU,if_pos k10,if_pos h4]
   generalize vV (IntKind.wrap .i64 (mw+IntKind.wrap .i64 (Int.tdiv x.a 4))) (IntKind.wrap .i64 (mh+x.b)) cs=m' at*;refine sT s 5 rfl λw s=>?_;refine sT s 5 rfl λw s=>?_;refine ax s (i:=5) rfl rfl rfl λw s=>?_;apply lS s 5 rfl;apply lI s 5 rfl;apply lI s 5 rfl;apply lS s 5 rfl;have hN:=aG s (i:=0) rfl cZ (by decide);have hNl:=hN.len;refine Km s hN hm' λpa pn pc w s _=>?_;refine sT s 2 rfl λw s=>?_;refine sT s 2 rfl λw s=>?_;refine sT s 2 rfl λw s=>?_;refine ax s (i:=2) rfl rfl rfl λw s=>?_;have s:=ck (L':=[_,_,_,_,_,_]) [2,0,4,5,6,1] s rfl (by decide);rw[<-hNl];exact aj2 (v:=⟨1,0,0,pa,pn,pc⟩) ⟨rfl,rfl,rfl,(Gs hm').1⟩ CN hi s λa' c' w s=>by exact next m' _ _ a' c' na nn nc w e s
  ·rw[f h4,cond_false];apply lI s 1 rfl;apply cj (by decide) (by decide) (by decide);have e20:0+x.b%(200-0+1)=gh x.b 0 200:=rfl;rw[e20,aH];refine sT s 0 rfl λw s=>?_;refine sT s 0 rfl λw s=>?_;refine sT s 0 rfl λw s=>?_;refine ax s (i:=0) rfl rfl rfl λw s=>?_;exact plain _ _ _ w _ [0,2,3,4,5] (by unfold wH;simp only;rw[fU,fU,fU,fU,fU,fU,if_pos k10,if_neg h4]) (by decide) rfl s
 rw[f k10,cond_false];by_cases k11:gh x.k 0 15=11
 ·rw[t k11,cond_true];apply lI s 1 rfl;apply lI s 1 rfl;apply lI s 1 rfl;refine anm s (by omega) λpa pn pc w s _=>?_;refine sT s 1 rfl λw s=>?_;refine sT s 1 rfl λw s=>?_;refine sT s 1 rfl λw s=>?_;refine ax s (i:=1) rfl rfl rfl λw s=>?_;have s:=ck (L':=[_,_,_,_,_,_]) [1,0,3,4,5,6] s rfl (by decide);have azv:=an0 (x:=x) (n:=m.cs.length) (by omega);exact aj2 (v:=⟨_,_,_,pa,pn,pc⟩) (o:=Lw x m.cs.length) ⟨rfl,rfl,rfl,azv.jG⟩ CN hi s λa' c' w s=>
   next m _ _ a' c' ra rn rc w (by unfold wH;simp only;rw[fU,fU,fU,fU,fU,fU,if_neg k10,if_pos k11]) s
 rw[f k11,cond_false];refine sT s 0 rfl λw s=>?_;refine sT s 0 rfl λw s=>?_;refine sT s 0 rfl λw s=>?_;refine ax s (i:=0) rfl rfl rfl λw s=>?_;exact plain _ _ _ w _ [0,2,3,4,5] (by unfold wH;simp only;rw[fU,fU,fU,fU,fU,fU,if_neg k10,if_neg k11]) (by decide) rfl s
attribute [local irreducible] jx in
theorem afb (s0:Sep F W w0 L)(hC:Sl w0 ca cn cc 1 bp cs)(hcs:ef cs)(Rj:cn<9223372036854775808)(hX:Sl w0 la ln lc 3 abh xs)
  (h:∀oa on oc w' A,Sep F W w' (A::L)->Fr No w0 w'->(∃vs,∀{F' W' w2 L2},Sep F' W' w2 (A::L2)->ann w2 oa on oc vs (Bp mw mh cs xs))->Q oa on oc w'):vq mw mh ca cn cc la ln lc w0 Q:=by
 apply L6;have hxl:=hX.len;have hm0:=Fb (w:=mw) (h:=mh) hcs;refine Zq (bh (F:=No)) hC hcs Rj λra rn rc w s _=>?_;refine aV s λmb w s=>?_;refine sT s 0 rfl λw s=>?_;refine sT s 0 rfl λw s=>?_;refine ax s (i:=0) rfl rfl rfl λw s=>?_;apply lI s 0 rfl;apply lI s 0 rfl;apply lS s 0 rfl;have hN:=aG s (i:=1) rfl cZ (by decide);have hNl:=hN.len;refine Km s hN hm0 λpa pn pc w s _=>?_;refine aQ s λob w s=>?_;have s:=g9 (size:=4) s (i:=0) rfl rfl (by decide) (ak_ ⟨1,0,0,pa,pn,pc⟩);apply lS s 2 rfl;have s:Sep No w0 w (ak (sZ ob) 1 1 38 4 (flat GU ([((⟨1,0,0,pa,pn,pc⟩:HQ),ET (vV mw mh cs))].map (·.1)))::ak pa pn pc 5 1 (flat bp (ET (vV mw mh cs)).m)::av mb 25 [ae (vV mw mh cs).w,ae (vV mw mh cs).h,.slice ra rn rc]::ak ra rn rc 5 1 (flat bp (vV mw mh cs).cs)::[]):=s;have s:=ck (L':=[_,_,_,_]) [1,0,2,3] s rfl (by decide);have s:=afD (v:=⟨1,0,0,pa,pn,pc⟩) (aoe s) ⟨rfl,rfl,rfl,(Gs hm0).1⟩;have s:=cu s (List.Perm.swap ..);rw[<-hNl];have hyl:(xs.take 60).length=min 60 ln:=by grind
 have loop:∀(k i:Nat) (m:bJ) (oa:Option Addr) (oc:Nat) (es:List (HQ×lA)) (ra:Option Addr) (rn rc:Nat) (w:World),i+k=(xs.take 60).length->cF m->es.map (·.2)++NM mw mh cs m ((xs.take 60).drop i)=Bp mw mh cs xs->
   Sep No w0 w (mdL oa (i+1) oc es mb m ra rn rc)->jy Q (k+1) mw mh ca cn cc la ln lc (aZ mb) oa (i+1) oc (m.cs.length:Int) i w:=by
  intro k;induction k with
  |zero=>
   intro i m oa oc es ra rn rc w hi hm he s;show n8 Q (jy Q 0) _ _ _ _ _ _ _ _ _ _ _ _ _ _ _;unfold n8;have done:Q oa (i+1) oc w:=by rw[List.drop_eq_nil_of_le (by omega)]at he;simp[NM,List.append_nil]at he;have k:=λ{F' W' w2 L2} (s:Sep F' W' w2 (aW True [ak oa (i+1) oc 38 4 (flat GU (es.map (·.1))),E0 es]::L2))=>ano (gR s).2;rw[he]at k;exact h _ _ _ _ _ (dG s0 (dD s trivial) (i:=0) rfl) (au s) ⟨_,k⟩
   grind
  |succ k ih=>
   intro i m oa oc es ra rn rc w hi hm he s;show n8 Q (jy Q (k+1)) _ _ _ _ _ _ _ _ _ _ _ _ _ _ _;rw[n8,bM,bM];have hms:=Lx hm;have hx0:(xs.take 60)[i]? =some ((xs.take 60)[i]'(by omega)):=List.getElem?_eq_getElem _;have hd:(xs.take 60).drop i=(xs.take 60)[i]'(by omega)::(xs.take 60).drop (i+1):=List.drop_eq_getElem_cons (by omega);generalize (xs.take 60)[i]'(by omega)=x at hx0 hd;have NJ:xs[i]? =some x:=by
    rw[List.getElem?_take]at hx0;split at hx0
    ·exact hx0
    ·cases hx0
   rw[hd,NM]at he;refine(hX.fr (au s)).El rfl (by omega) λpp y hy hc=>?_;rw[NJ]at hy;cases hy;apply aL (hc 0 _ rfl);apply aL (hc 1 _ rfl);apply aL (hc 2 _ rfl);have go:∀(w:World) (ob xb:Nat) (A B:Int),A=gh x.a 0 ((m.cs.length:Int)-1)->B=gh x.b 0 ((m.cs.length:Int)-1)->Sep No w0 w (av ob 38 [ae 0,ae A,ae B,.slice none 0 0]::av xb 90 (abh x)::mdL oa (i+1) oc es mb m ra rn rc)->
     jx (jy Q (k+1)) Q mw mh ca cn cc la ln lc (aZ mb) oa (i+1) oc (m.cs.length:Int) i (aZ xb) (aZ ob) w:=by
    intro w ob xb A B e1 e2 s;subst e1 e2;refine axp hC hcs Rj hm (by omega) (by omega) s λm' v o a' c' ra' rn' rc' w' e s=>?_;have hok:=(auX (w:=mw) (h:=mh) hcs hm x).2;rw[e]at he hok;refine ih (i+1) m' a' c' _ ra' rn' rc' w' (by omega) hok ?_ s;rw[List.map_append,List.append_assoc];exact he
   refine aV s λxb w s=>?_;refine sT s 0 rfl λw s=>?_;refine sT s 0 rfl λw s=>?_;refine ax s (i:=0) rfl rfl rfl λw s=>?_;rw[aH];have s:=ay s
   repeat' first
    |apply lI s 0 rfl
    |apply lS s 0 rfl
    |apply lB s 0 rfl
    |apply lP s 0 rfl
    |apply And.intro (cm s 0 rfl)
    |apply lI s 1 rfl
    |apply lS s 1 rfl
    |apply lB s 1 rfl
    |apply lP s 1 rfl
    |apply And.intro (cm s 1 rfl)
    |(refine sT s 0 rfl λw s=>?_)
    |(refine sT s 1 rfl λw s=>?_)
    |refine aQ s λb w s=>?_
    |(refine aV s λb w s=>?_;simp[ahz,ado,anj,ahA]at s)
    |exact go _ _ _ _ _ rfl rfl s
    |apply cj (by omega) (by decide) (by omega)
    |apply And.intro ?_
    |(replace s:=ay s;first
     |apply lI s 0 rfl
     |apply lS s 0 rfl
     |apply lB s 0 rfl
     |apply lP s 0 rfl
     |apply And.intro (cm s 0 rfl)
     |apply lI s 1 rfl
     |apply lS s 1 rfl
     |apply lB s 1 rfl
     |apply lP s 1 rfl
     |apply And.intro (cm s 1 rfl)
     |(refine ax s rfl rfl rfl λw s=>?_)
     |(refine sT s 1 rfl λw s=>?_)
     |refine aQ s λb w s=>?_
     |(refine aV s λb w s=>?_;simp[ahz,ado,anj,ahA]at s)
     |exact go _ _ _ _ _ rfl rfl s
     |apply cj (by omega) (by decide) (by omega)
     |refine And.intro ?_ ?_)
 exact⟨(xs.take 60).length+1,loop _ 0 _ _ 1 _ ra rn rc w (by omega) hm0 rfl s⟩
end
end Go.Proofs.YtmegplnmiepfbaaGreatDoor.S.O
set_option maxRecDepth 20000
namespace Go.Proofs.YtmegplnmiepfbaaGreatDoor.S
open Go.Sx
attribute [local irreducible] af cD bz bg aA cy b_ St Bx Al App cK cE cB bV aN bG aq bT av ak aW mapA
section
variable {F:Nat->Prop}{W w:World}{L:List As}{a b:Option Addr}{n c m d:Nat}
def eq2 {a b a' b':Int}:(a==a'&&(b==b'&&true))=decide (a=a'/\b=b'):=by grind
def awn {w:World}{x y:Operand}{a b:Int×Int}{K:Bool->World->Prop}(h:K (!decide (a=b)) w):bV P .neq 51 x y (.agg #[ae a.1,ae a.2]) (.agg #[ae b.1,ae b.2]) w K:=by apply ak3 (by kernel_rfl);apply aoH (r:=a.1==b.1&&(a.2==b.2&&true)) (by kernel_rfl) (by kernel_rfl) (by kernel_rfl);rw[eq2];simp[<-Prod.ext_iff];exact h
def awo {a b:CY}:(a.a=b.a/\a.b=b.b/\a.c=b.c/\a.d=b.d/\a.e=b.e/\a.f=b.f)↔a=b:=by obtain⟨a1,a2,a3,a4,a5,a6⟩:=a;obtain⟨b1,b2,b3,b4,b5,b6⟩:=b;simp
instance:DecidableEq CY:=λa b=>decidable_of_iff _ awo
def akP {Q:Bool->World->Prop}{xs ys:List (Int×Int)}(hX:Sl w a n c 2 lu xs)(hY:Sl w b m d 2 lu ys)(s0:Sep F W w L)(hn:n<1000000)(h:∀w',Sep F W w' L->Fr No w w'->Q (decide (xs=ys)) w'):
  um a n c b m d w Q:=by
 apply KZ;have h1:=hX.len;have h2:=hY.len;have fin:∀(r:Bool) (w':World),r=decide (xs=ys)->Sep No w w' []->Q r w':=λr w' e s=>by subst e;exact h w' (bW s0 (au s)) (au s)
 by_cases hl:n=m
 ·subst hl;have loop:∀(k i:Nat) (w1:World),i+k=n->xs.take i=ys.take i->Sep No w w1 []->kJ Q (k+1) a n c b n d i w1:=by
   intro k;induction k with
   |zero=>
    intro i w1 hi he s;show nF Q (kJ Q 0) _ _ _ _ _ _ _ _;unfold nF;grind
   |succ k ih=>
    intro i w1 hi he s;show nF Q (kJ Q (k+1)) _ _ _ _ _ _ _ _;rw[nF,bM];have s:=ay s;refine(hX.fr (au s)).El rfl (by omega) λp x hx hc=>?_;refine aL (hc 0 _ rfl) (aL (hc 1 _ rfl) ?_);refine(hY.fr (au s)).El rfl (by omega) λp y hy hc=>?_;refine aL (hc 0 _ rfl) (aL (hc 1 _ rfl) ?_);apply awn;by_cases hxy:x=y
    ·rw[decide_eq_true hxy,Bool.not_true,cond_false,aH];refine ih (i+1) _ (by omega) ?_ s;rw[List.take_add_one,List.take_add_one,hx,hy,he,hxy]
    grind
  rw[bne_self_eq_false,cond_false];exact⟨n+1,loop n 0 w (by omega) (by simp) bh⟩
 ·rw[show((n:Int) !=(m:Int))=true by grind,cond_true];refine fin false _ ?_ bh;grind
def map_eq {a b:bJ}:(a.w=b.w/\a.h=b.h/\a.cs=b.cs)↔a=b:=by obtain⟨a1,a2,a3⟩:=a;obtain⟨b1,b2,b3⟩:=b;simp
instance:DecidableEq bJ:=λa b=>decidable_of_iff _ map_eq
end
section
variable {F:Nat->Prop}{W w:World}{L:List As}{lg:wG}{r:Bm}{y:vT}{o:lA}{a:Option Addr}{n c:Nat}
def axq {K:Addr->World->Prop}{code d dir id:Int}{ma ga:Option Addr}{mn mc gn gc:Nat}{q0 q1 q2 q3 q4 q5:Int}(s:Sep F W w L)
  (h:∀p w',Sep F W w' (av p 34 (TN code d dir id ma mn mc ga gn gc ⟨q0,q1,q2,q3,q4,q5⟩)::L)->K (aZ p) w'):
  Al T 34 w λp w=>St (p.add 0) (ae code) w λw=>St (p.add 1) (ae d) w λw=>St (p.add 2) (ae dir) w λw=>St (p.add 3) (ae id) w λw=>
   St (p.add 4) (.slice ma mn mc) w λw=>St (p.add 5) (.slice ga gn gc) w λw=>St (p.add 6) (.int .u64 q0) w λw=>St (p.add 7) (.int .u64 q1) w λw=>St (p.add 8) (.int .u64 q2) w λw=>
   St (p.add 9) (.int .u64 q3) w λw=>St (p.add 10) (.int .u64 q4) w λw=>St (p.add 11) (.int .u64 q5) w λw=>K p w:=by
 refine aV s λp w s=>?_
 iterate 12 refine sT s 0 rfl λw s=>?_
 exact h p w s
def X2 {K:Addr->World->Prop}(hL:iL W lg)(ho:MP o)(hM:∀w',Sep No W w' L->Sl w' a n c 1 bp o.m)(wE:anh y.p)(s:Sep No W w (fN r y::L))
  (h:∀r' y' ma mn mc ga gn gc p w',r'.p=r.p->y'.p=(iv y.p o).1->Sep No W w' (av p 34 (TN (iv y.p o).2.code (iv y.p o).2.d (iv y.p o).2.dir (iv y.p o).2.id ma mn mc ga gn gc (qM y'.p.bR))::ak ma mn mc 51 2 (flat lu (iv y.p o).2.Hy)::ak ga gn gc 3 1 (flat one (iv y.p o).2.gone)::fN r' y'::L)->K (aZ p) w'):
  gC (sZ r.p) o.k o.A o.B a n c w λcode d dir id ma mn mc ga gn gc q0 q1 q2 q3 q4 q5 w=>
   Al T 34 w λp w=>St (p.add 0) (ae code) w λw=>St (p.add 1) (ae d) w λw=>St (p.add 2) (ae dir) w λw=>St (p.add 3) (ae id) w λw=>
   St (p.add 4) (.slice ma mn mc) w λw=>St (p.add 5) (.slice ga gn gc) w λw=>St (p.add 6) (.int .u64 q0) w λw=>St (p.add 7) (.int .u64 q1) w λw=>St (p.add 8) (.int .u64 q2) w λw=>
   St (p.add 9) (.int .u64 q3) w λw=>St (p.add 10) (.int .u64 q4) w λw=>St (p.add 11) (.int .u64 q5) w λw=>K p w:=
 Xx hL ho hM wE s λr' y' ma mn mc ga gn gc w er ey s=>axq s λp w s=>h r' y' ma mn mc ga gn gc p w er ey s
def ap5 {K:yd->List Value}{Q:Option Addr->Nat->Nat->World->Prop}{xs:List yd}{k:Nat}(hA:Sl w a n c 3 K xs)(h:∀a' c',Sl w a' (min n k) c' 3 K (xs.take (min n k))->Q a' (min n k) c' w):y8 a n c k w Q:=by apply Rb;refine hA.hi ?_ (Nat.min_le_left ..) h;unfold DW;omega
end
end Go.Proofs.YtmegplnmiepfbaaGreatDoor.S
namespace Go.Proofs.YtmegplnmiepfbaaGreatDoor.S
open Go.Sx
structure Ky (most:Int) (m:bJ) (u:rI):Prop where
 may:cF m
 n_:m.w*m.h<=1600
 us:mY m.w m.h u.us
 nx:0<=u.next
 lt:∀v∈u.us,v.id<u.next
 mst:u.most=most
 len:(u.us.length:Int)<=most
structure DV (t:Int) (q:gz):Prop where
 ep:Ah q.bR<=t
 tp:0<=t
 mo:1<=q.most/\q.most<=65536
 st:(q.bR.o=none/\q.us=none)\/∃m u,q.bR.o=some m/\q.us=some u/\Ky q.most m.g.m u/\u.next<=t
def DV.sm {t:Int}{q:gz}(h:DV t q)(ht:t<1000000000):anh q:=by
 refine⟨by have:=h.ep;omega,λu hu=>?_⟩;rcases h.st with⟨_,e⟩|⟨m,u',_,e,_,hn⟩
 all_goals grind
def DV.mono {t t':Int}{q:gz}(h:DV t q)(ht:t<=t'):DV t' q:=by
 refine⟨by have:=h.ep;omega,by have:=h.tp;omega,h.mo,?_⟩;rcases h.st with e|⟨m,u',h1,h2,h3,hn⟩
 all_goals grind
section
variable {most t:Int}{m:bJ}{u:rI}{q:gz}{o:lA}
def ar7 (hm:cF m){c x:Int}(hx:1<=x/\x<=255):cF ⟨m.w,m.h,m.cs.set c.toNat x⟩:=by
 refine⟨hm.w,hm.h,?_,λy hy=>?_⟩
 ·rw[List.length_set];exact hm.len
 ·rcases List.mem_or_eq_of_mem_set hy with hy|rfl
  ·exact hm.jG y hy
  ·omega
def Ky.drop (h:Ky most m u)(id:Int):Ky most m (lq u id):=by have hs:(lq u id).us.Sublist u.us:=List.filter_sublist;refine⟨h.may,h.n_,h.us.sub hs,h.nx,λv hv=>h.lt v (hs.subset hv),h.mst,?_⟩;have:=hs.length_le;have:=h.len;omega
def Ky.Xl (h:Ky most m u)(id:Int){B:Int}(hB:bI m.w m.h B):Ky most m (wo u id λv=>⟨v.id,v.cell,B⟩):=by
 have e1:∀us:List aP,(us.map λv=>if v.id=id then(⟨v.id,v.cell,B⟩:aP)else v).map (·.id)=us.map (·.id):=λus=>by rw[List.map_map];refine List.map_congr_left λv _=>?_;simp[Function.comp];split<;>rfl
 have e2:∀us:List aP,(us.map λv=>if v.id=id then(⟨v.id,v.cell,B⟩:aP)else v).map (·.cell)=us.map (·.cell):=λus=>by rw[List.map_map];refine List.map_congr_left λv _=>?_;simp[Function.comp];split<;>rfl
 have hmem:∀v∈(wo u id λv=>⟨v.id,v.cell,B⟩).us,∃v'∈u.us,v.id=v'.id/\v.cell=v'.cell/\(v.goal=v'.goal\/v.goal=B):=λv hv=>by
  obtain⟨v',hv',rfl⟩:=List.mem_map.1 hv;refine⟨v',hv',?_⟩;split
  ·exact⟨rfl,rfl,.inr rfl⟩
  ·exact⟨rfl,rfl,.inl rfl⟩
 refine⟨h.may,h.n_,⟨h.us.wh,?_,λv hv=>?_,λv hv=>?_,?_⟩,h.nx,λv hv=>?_,h.mst,?_⟩
 ·show List.Pairwise _ (List.map _ (List.map _ _));rw[e1];exact h.us.ids
 ·obtain⟨v',h1,h2,_⟩:=hmem v hv;rw[h2];exact h.us.pos v' h1
 ·obtain⟨v',h1,_,h3,h4⟩:=hmem v hv;have:=h.us.at_ v' h1;refine⟨by rw[h3];exact this.1,?_⟩;rcases h4 with h4|h4
  ·rw[h4];exact this.2
  ·rw[h4];exact hB
 ·show List.Nodup (List.map _ (List.map _ _));rw[e2];exact h.us.nd
 ·obtain⟨v',h1,h2,_⟩:=hmem v hv;rw[h2];exact h.lt v' h1
 ·show((List.map _ _).length:Int)<=most;rw[List.length_map];exact h.len
def Ky.add (h:Ky most m u){A B:Int}(hs:vS m.w m.h u A B=0):Ky most m (Pt u A B):=by
 unfold vS at hs;split at hs
 ·omega
 split at hs
 ·omega
 split at hs
 ·omega
 split at hs
 ·omega
 rename_i h1 h2 h3 h4;have h1:=Decidable.not_not.1 h1;have h2:=Decidable.not_not.1 h2;have hl:((u.us++[(⟨u.next,A,B⟩:aP)]).length:Int)=u.us.length+1:=by simp
 have:=h.mst;refine⟨h.may,h.n_,alE h.us (λv hv=>h.lt v hv) h.nx h1.1 h1.2 ((alF h.us).1 h2),?_,λv hv=>?_,h.mst,?_⟩
 ·show 0<=u.next+1
  have:=h.nx;omega
 ·show v.id<u.next+1
  rcases List.mem_append.1 hv with hv|hv
  ·have:=h.lt v hv;omega
  grind
 ·show((u.us++[(⟨u.next,A,B⟩:aP)]).length:Int)<=_;omega
def Xy {w h:Int}:∀(todo:List (aP×Int)) (done:List aP),∀v∈(cJ w h done todo).1,∃v'∈done++todo.map (·.1),v.id=v'.id/\v.goal=v'.goal
 |[],done,v,hv=>⟨v,by simpa[cJ]using hv,rfl,rfl⟩
 |(x,d)::rest,done,v,hv=>by
  cases hb:lO w h (done++x::rest.map (·.1)) x d with
  |true=>
   rw[AU hb]at hv;obtain⟨v',h1,h2,h3⟩:=Xy rest _ v hv;rw[List.append_assoc]at h1;rcases List.mem_append.1 h1 with h1|h1
   ·grind
   ·rcases List.mem_append.1 h1 with h1|h1
    ·unfold mD at h1;grind
    grind
  |false=>
   rw[AV hb]at hv;obtain⟨v',h1,h2,h3⟩:=Xy rest _ v hv;grind
def zip_fst {α β:Type}{l:List α}(f:α->β):(l.zip (l.map f)).map (·.1)=l:=by rw[List.map_fst_zip];grind
def Ky.tick (h:Ky most m u):Ky most m (I5 m.w m.h u (jc m u.us)):=by
 have hz:(u.us.zip (jc m u.us)).map (·.1)=u.us:=zip_fst _;refine⟨h.may,h.n_,Xo _ [] (by rw[List.nil_append,hz];exact h.us),h.nx,λv hv=>?_,h.mst,?_⟩
 ·obtain⟨v',h1,h2,_⟩:=Xy _ _ v hv;rw[List.nil_append,hz]at h1;rw[h2];exact h.lt v' h1
 ·have h1:=(JI (w:=m.w) (h:=m.h) (u.us.zip (jc m u.us)) []).1;have h2:=congrArg List.length hz;have:=h.len;have e:(I5 m.w m.h u (jc m u.us)).us=(cJ m.w m.h [] (u.us.zip (jc m u.us))).1:=rfl;grind
def ap6 (q:qf)(t s:Int):Ah (zZ q t s)=Ah q:=by
 cases h:q.o with
 |none=>unfold zZ;rw[h]
 |some m=>
  obtain⟨m',h1,h2⟩:=Br h t s;unfold Ah;grind
def ar8 (q:qf)(ps:List Hu):Ah (Hw q ps)=Ah q:=by
 cases h:q.o with
 |none=>
  have:Hw q ps=q:=by
   unfold Hw;induction ps with
   |nil=>rfl
   |cons p ps ih=>rw[List.foldl_cons];unfold zZ;rw[h];exact ih
  rw[this]
 |some m=>
  obtain⟨m',h1,h2⟩:=DE ps h;unfold Ah;grind
def axr {mp:wm}(h:DV t q)(hm:q.bR.o=some mp)(hu:q.us=some u)(hn:Ky q.most mp.g.m u)(hx:u.next<=t):DV (t+1) (Kx q mp.g.m u o).1:=by
 have hsame:DV (t+1) q:=h.mono (by omega);have ht:=h.tp;have Y8:=h.ep;have epm:Ah q.bR=mp.g.ep:=by unfold Ah;rw[hm]
 unfold Kx;split
 ·split
  ·exact hsame
  ·split
   ·exact hsame
   ·split
    ·exact hsame
    ·have e:(edP q.bR o.A o.B).o=some ⟨xS mp.g o.A o.B,mp.TB,mp.clean,mp.eL,mp.kept,mp.fc⟩:=by unfold edP;rw[hm];rfl
     refine⟨?_,by omega,h.mo,.inr ⟨_,u,e,rfl,?_,by omega⟩⟩
     ·rw[Ah,e];show mp.g.ep+1<=t+1;omega
     ·exact⟨ar7 hn.may (by omega),hn.n_,hn.us,hn.nx,hn.lt,hn.mst,hn.len⟩
 ·split
  ·split
   ·exact hsame
   ·split
    ·exact hsame
    ·split
     ·exact hsame
     ·rename_i h1 h2 h3;exact⟨by grind,by omega,h.mo,.inr ⟨mp,_,hm,rfl,hn.add (Decidable.not_not.1 h3),by show u.next+1<=t+1;omega⟩⟩
  ·split
   ·split
    ·exact hsame
    ·split
     ·exact hsame
     ·split
      ·exact⟨by grind,by omega,h.mo,.inr ⟨mp,_,hm,rfl,hn.drop _,by show u.next<=t+1;omega⟩⟩
      ·rename_i h2 _;exact⟨by grind,by omega,h.mo,.inr ⟨mp,_,hm,rfl,hn.Xl _ (Decidable.not_not.1 h2),by show u.next<=t+1;omega⟩⟩
   ·split
    ·split
     ·exact hsame
     ·exact⟨by grind,by omega,h.mo,.inr ⟨mp,_,hm,rfl,hn.drop _,by show u.next<=t+1;omega⟩⟩
    ·split
     ·split
      ·obtain⟨OD,h1,h2⟩:=Br hm o.A (cW mp.g.m o.B);refine⟨by show Ah (zZ _ _ _)<=_;rw[ap6];omega,by omega,h.mo,.inr ⟨OD,u,h1,rfl,by grind,by omega⟩⟩
      grind
     ·obtain⟨OD,h1,h2⟩:=DE (l8 mp.g.m.w mp.g.m.h u.us) hm;refine⟨by show Ah (Hw _ _)<=_;rw[ar8];omega,by omega,h.mo,.inr ⟨OD,_,h1,rfl,by rw[h2];exact hn.tick,by show u.next<=t+1;omega⟩⟩
def X3 (h:DV t q)(ho:MP o):DV (t+1) (iv q o).1:=by
 have hsame:DV (t+1) q:=h.mono (by omega);have ht:=h.tp;have Y8:=h.ep;unfold iv;split
 ·exact hsame
 ·split
  ·rename_i k1;split
   ·exact hsame
   ·rename_i mp hg;have hf:=(ho.load k1).2 mp hg;have hm:=afO ho.jG hg;have hmo:=h.mo;refine⟨?_,by omega,h.mo,.inr ⟨_,_,rfl,rfl,⟨hm,hf,⟨⟨hm.w,hm.h⟩,.nil,λv hv=>(by cases hv),λv hv=>(by cases hv),.nil⟩,Int.le_refl _,λv hv=>(by cases hv),rfl,?_⟩,by grind⟩⟩
    ·show Ah q.bR+1<=t+1;omega
    grind
  ·split
   ·rcases h.st with⟨h1,h2⟩|⟨m,u,h1,h2,h3,h4⟩
    ·refine⟨?_,by omega,h.mo,.inl ⟨by show(OC q.bR).o=none;unfold OC;rw[h1];rfl,h2⟩⟩;unfold Ah OC;grind
    ·have e:(OC q.bR).o=some ⟨m.g,m.TB,m.clean,m.eL,none,m.fc⟩:=by unfold OC;rw[h1];rfl
     refine⟨?_,by omega,h.mo,.inr ⟨_,u,e,h2,h3,by omega⟩⟩;show Ah (OC q.bR)<=_;have:Ah q.bR=Ah (OC q.bR):=by unfold Ah;rw[e,h1]
     omega
   ·rcases h.st with⟨h1,h2⟩|⟨m,u,h1,h2,h3,h4⟩
    ·grind
    ·rw[h1,h2];exact axr h h1 h2 h3 h4
end
def EP.of {bs:List Int}{m:bJ}(h:lz bs=some m):EP bs:=by
 unfold lz at h;split at h
 ·cases h
 ·split at h
  ·rename_i h1 h2;refine⟨by omega,h2,λbs' M hT=>?_⟩;grind
  ·cases h
def kj {k A B:Int}(hk:k≠1):MP ⟨k,A,B,[]⟩:=⟨ef.nil,by simp,λe=>(hk e).elim⟩
def afd {m:bJ}(hm:cF m)(hf:m.w*m.h<=1600):MP (ET m):=by have h1:=Gs hm;have h2:=acn hm;refine⟨h1.1,h1.2,λ_=>⟨.of h2,λmp h=>?_⟩⟩;have h:lz (y7 m)=some mp:=h;grind
def aj3 (w h:Int)(c:List Int):(vV w h c).w*(vV w h c).h<=1600:=by have h1:=kC (n:=w) (lo:=1) (hi:=40) (by decide);have h2:=kC (n:=h) (lo:=1) (hi:=40) (by decide);show gh w 1 40*gh h 1 40<=1600;have:=Int.mul_le_mul h1.2 h2.2 (by omega) (by decide);omega
def anp {a b:Int}{ts:List Int}{used:Nat}(h:Fw [1,a,b] 2=some (ts,used)):used=3:=by
 unfold Fw at h;have e:IX 2 [1,a,b]=if[a,b].length<2\/0∈[a,b].take 2 then none else some ([a,b].take 2,1+2):=rfl
 grind
def awp {x:yd}{n:Int}:MP (Lw x n):=by
 unfold Lw;simp only;split
 ·have hd:EP [2,0,1,0,1,x.a%256,x.b%256]:=by
   refine⟨by simp,(by decide:iS (2+256*0) (1+256*0)),λbs' M h=>?_⟩;have h:rE 2 1 1 0 [1,x.a%256,x.b%256] [0,0]=some (bs',M):=h;unfold rE at h;have e:(aE 2 1 0*bA 2 1 0).toNat=2:=by decide
   split at h
   ·cases h
   ·rename_i ts used hT;have:=anp hT;subst this;unfold rE at h;grind
  refine⟨ef.mk (by decide) (ef.mk (by decide) (ef.mk (by decide) (ef.mk (by decide) (ef.mk (by decide) (ef.mk (by omega) (ef.mk (by omega) ef.nil)))))),by simp,λ_=>⟨hd,λmp h=>?_⟩⟩;have h:=h;rw[hd.get]at h;obtain⟨q,_,rfl⟩:=Option.map_eq_some_iff.1 h;show(2+256*0:Int)*(1+256*0)<=1600;decide
 ·split
  ·exact kj (by decide)
  ·split
   ·exact kj (by decide)
   ·exact kj (by assumption)
def awq {w h:Int}{c:List Int}(hc:ef c){m:bJ}(x:yd):MP (wH w h c m x).1:=by
 unfold wH;simp only;split
 ·exact kj (by decide)
 ·split
  ·exact kj (by decide)
  ·split
   ·exact kj (by decide)
   ·split
    ·exact kj (by decide)
    ·split
     ·exact kj (by decide)
     ·split
      ·exact kj (by decide)
      ·split
       ·split
        ·exact afd (Fb hc) (aj3 _ _ _)
        ·exact kj (by decide)
       ·split
        ·exact awp
        ·exact kj (by decide)
def alN {w h:Int}{c:List Int}(hc:ef c):∀(xs:List yd) {m:bJ},∀o∈NM w h c m xs,MP o
 |[],_,o,ho=>by cases ho
 |x::xs,m,o,ho=>by
  rcases List.mem_cons.1 ho with rfl|ho
  ·exact awq hc x
  ·exact alN hc xs o ho
def ap7 {w h:Int}{c:List Int}(hc:ef c)(xs:List yd):∀o∈Bp w h c xs,MP o:=λo ho=>by
 rcases List.mem_cons.1 ho with rfl|ho
 ·exact afd (Fb hc) (aj3 _ _ _)
 ·exact alN hc _ o ho
noncomputable def IJ (q:gz)(os:List lA):gz:=os.foldl (λq o=>(iv q o).1) q
def anq (k most:Int):gz:=⟨most,⟨k,⟨[],[],0,0,0,0⟩,none,⟨0,0,0,0,0,0⟩⟩,none⟩
section
variable {q:gz}{o:lA}{t:Int}
def atb {k most:Int}(hm:1<=most/\most<=65536):DV 0 (anq k most):=⟨Int.le_refl _,Int.le_refl _,hm,.inl ⟨rfl,rfl⟩⟩
def atc:∀(os:List lA) {q:gz} {t:Int},DV t q->(∀o∈os,MP o)->DV (t+os.length) (IJ q os)
 |[],q,t,h,_=>by simpa[IJ]using h
 |o::os,q,t,h,ho=>by have:=atc os (X3 h (ho o (by simp))) λo' h'=>ho o' (by simp[h']);rw[List.length_cons,show t+((os.length+1:Nat):Int)=t+1+os.length by omega];exact this
def ar9 (q:gz)(os:List lA)(o:lA):IJ q (os++[o])=(iv (IJ q os) o).1:=by unfold IJ;grind
def ar_ {os:List lA}{i:Nat}(hi:i<os.length)(ho:os[i]? =some o):IJ q (os.take (i+1))=(iv (IJ q (os.take i)) o).1:=by rw[List.take_add_one,ho];exact ar9 _ _ _
def awr {mp:wm}{u:rI}(hm:q.bR.o=some mp):(Kx q mp.g.m u o).1.bR.o≠none:=by
 unfold Kx
 repeat' split
 all_goals first
  |(show q.bR.o≠none;rw[hm];exact Option.some_ne_none _)
  |(show(edP q.bR o.A o.B).o≠none;unfold edP;rw[hm];exact Option.some_ne_none _)
  |(obtain⟨m',h1,_⟩:=Br hm o.A (cW mp.g.m o.B);rw[h1];exact Option.some_ne_none _)
  |(obtain⟨m',h1,_⟩:=DE (l8 mp.g.m.w mp.g.m.h u.us) hm;rw[h1];exact Option.some_ne_none _)
def aws (h:q.bR.o≠none):(iv q o).1.bR.o≠none:=by
 obtain⟨mp,hm⟩:=Option.ne_none_iff_exists'.1 h;unfold iv;split
 ·exact h
 ·split
  ·split
   ·exact h
   ·exact Option.some_ne_none _
  ·split
   ·unfold OC;grind
   ·rw[hm];cases hu:q.us with
    |none=>exact h
    |some u=>exact awr hm
def ap8:∀(os:List lA) {q:gz},q.bR.o≠none->(IJ q os).bR.o≠none
 |[],q,h=>h
 |o::os,q,h=>ap8 os (aws h)
def alO {m:bJ}(hm:cF m):iv q (ET m)=(⟨q.most,ldP q.bR m,some ⟨q.most,0,[]⟩⟩,qg 0):=by have h1:=Gs hm;have e:DY (ET m)=true:=(adE h1.1 h1.2).may;rw[iv,e,if_neg (by rintro (h|h)<;>cases h),if_pos (show(ET m).k=(1:Int)from rfl)];have e:lz (ET m).m=some m:=acn hm;rw[e]
def ap9 {w h:Int}{c:List Int}(hc:ef c)(xs:List yd)(q:gz){i:Nat}(hi:0<i):(IJ q ((Bp w h c xs).take i)).bR.o≠none:=by obtain⟨j,rfl⟩:∃j,i=j+1:=⟨i-1,by omega⟩;unfold Bp;show(IJ (iv q _).1 _).bR.o≠none;apply ap8;rw[alO (Fb hc)];exact Option.some_ne_none _
end
def pre (cs:List Int):Nat->Int
 |0=>0
 |k+1=>pre cs k+gi cs k
structure uX (m:bJ) (p q:Int):Prop where
 may:cF m
 op:∀x∈m.cs,x<255
 dir:(m.h=1/\p=1/\q=3)\/(m.w=1/\p=2/\q=0)
section
variable {m:bJ}{p q x t s:Int}
def uX.bI (h:uX m p q)(hx:0<=x/\x<m.cs.length):bI m.w m.h x:=⟨⟨h.may.w,h.may.h⟩,hx.1,by rw[<-h.may.len];exact hx.2⟩
def uX.cost (h:uX m p q)(hx:0<=x/\x<m.cs.length):cV m x=gi m.cs x.toNat/\1<=cV m x/\cV m x<=254:=by
 have e:cV m x=gi m.cs x.toNat:=by unfold cV;grind
 have hm:=fm (l:=m.cs) (i:=x.toNat) (by omega);have h1:=h.may.jG _ hm;have h2:=h.op _ hm;omega
def uX.EK (h:uX m p q)(hx:0<=x/\x<m.cs.length):eE m x=true:=by have:=h.cost hx;unfold eE;simp;omega
def uX.step (h:uX m p q)(hx:0<=x/\x<m.cs.length)(hs:0<=s/\s<=3):aY m.w m.h x s=if s=p then(if x+1<m.cs.length then x+1 else-1)else if s=q then x-1 else-1:=by
 have hc:=h.bI hx;have hl:=h.may.len;have hw:=h.may.w;have hh:=h.may.h;rw[aY,if_pos hc];rcases h.dir with⟨e,rfl,rfl⟩|⟨e,rfl,rfl⟩
 ·rw[e]at hl⊢;have e1:x%m.w=x:=Int.emod_eq_of_lt hx.1 (by omega);have e2:x/m.w=0:=Int.ediv_eq_zero_of_lt hx.1 (by omega);rw[e1,e2];obtain rfl|rfl|rfl|rfl:s=0\/s=1\/s=2\/s=3:=by omega
  ·rw[if_pos rfl,tj (by omega)];rfl
  ·rw[if_neg (by decide),if_neg (by decide),if_neg (by decide),if_pos rfl,if_pos rfl];split
   ·rw[nI ⟨hw,by decide⟩ (by omega) (by omega)];omega
   ·rw[tj (by omega)]
  ·rw[if_neg (by decide),if_pos rfl,tj (by omega)];rfl
  ·rw[if_neg (by decide),if_neg (by decide),if_pos rfl,if_neg (by decide),if_pos rfl];by_cases h0:x=0
   ·rw[tj (by omega)];omega
   ·rw[nI ⟨hw,by decide⟩ (by omega) (by omega)];omega
 ·rw[e]at hl⊢;obtain rfl|rfl|rfl|rfl:s=0\/s=1\/s=2\/s=3:=by omega
  ·by_cases h0:x=0
   ·rw[tj (by omega)];omega
   ·rw[nI ⟨by decide,hh⟩ (by omega) (by omega)];omega
  ·rw[if_neg (by decide),if_neg (by decide),if_neg (by decide),if_pos rfl,tj (by omega)];rfl
  ·rw[if_neg (by decide),if_pos rfl,if_pos rfl];split
   ·rw[nI ⟨by decide,hh⟩ (by omega) (by omega)];omega
   ·rw[tj (by omega)]
  ·rw[if_neg (by decide),if_neg (by decide),if_pos rfl,tj (by omega)];rfl
def uX.pq (h:uX m p q):(0<=p/\p<=3)/\(0<=q/\q<=3)/\p≠q:=by rcases h.dir with⟨_,rfl,rfl⟩|⟨_,rfl,rfl⟩<;>decide
def uX.azw (h:uX m p q){n c:Int}(e:fW m x n c):(0<=x/\x<m.cs.length)/\(0<=n/\n<m.cs.length)/\(n=x+1\/n=x-1)/\c=cV m n:=by
 obtain⟨h1,h2,⟨s,hs,e⟩,hc⟩:=e;have hl:=h.may.len;have hx:=(j7 h.may h1).2;have hn:=(j7 h.may h2).2;have hx:0<=x/\x<m.cs.length:=by omega
 rw[h.step hx hs]at e;omega
def A2 (m:bJ)(t x:Int):Int:=if 0<=x/\x<m.cs.length then(if x<=t then pre m.cs (t+1).toNat-pre m.cs (x+1).toNat else pre m.cs x.toNat-pre m.cs t.toNat)else cg
def adp (h:uX m p q)(hx:0<=x/\x<m.cs.length):pre m.cs (x+1).toNat=pre m.cs x.toNat+cV m x:=by rw[(h.cost hx).1,show(x+1).toNat=x.toNat+1 by omega];rfl
def HC (h:uX m p q):∀k:Nat,k<=m.cs.length->0<=pre m.cs k/\pre m.cs k<=254*k
 |0,_=>by simp[pre]
 |k+1,hk=>by have:=HC h k (by omega);have h1:=(h.cost (x:=k) (by omega));have h2:=h1.1;rw[Int.toNat_natCast]at h2;show 0<=pre m.cs k+gi m.cs k/\pre m.cs k+gi m.cs k<=_;omega
def uX.D (h:uX m p q)(ht:0<=t/\t<m.cs.length)(hx:0<=x/\x<m.cs.length):D m t x=A2 m t x:=by
 have hsz:=Lx h.may;have small:∀y:Int,0<=y/\y<m.cs.length->A2 m t y<cg:=λy hy=>by have h1:=HC h (t+1).toNat (by omega);have h2:=HC h (y+1).toNat (by omega);have h3:=HC h t.toNat (by omega);have h4:=HC h y.toNat (by omega);unfold A2 cg;omega
 have on:∀y:Int,0<=y/\y+1<m.cs.length->y<t->A2 m t y=A2 m t (y+1)+cV m (y+1):=λy hy hyt=>by have:=adp h (x:=y+1) (by omega);unfold A2;omega
 have back:∀y:Int,0<=y/\y<m.cs.length->t<y->A2 m t y=A2 m t (y-1)+cV m (y-1):=λy hy hyt=>by have h1:=adp h (x:=y-1) (by omega);unfold A2;grind
 have zero:A2 m t t=0:=by unfold A2;omega
 refine an2 (λy k hy=>?_) (λy n c e hn=>?_) (λ_=>?_) (λhn=>(hn (small x hx)).elim)
 ·obtain⟨rfl,_,rfl⟩:=hy;grind
 ·obtain⟨h1,h2,h3,rfl⟩:=h.azw e;refine⟨small y h1,?_⟩;have c1:=(h.cost h1).2;have c2:=(h.cost h2).2;rcases h3 with rfl|rfl
  ·by_cases k:y<t
   ·rw[on y (by omega) k];omega
   ·have:=back (y+1) h2 (by omega);rw[show y+1-1=y by omega]at this;omega
  ·by_cases k:t<y
   ·rw[back y h1 k];omega
   ·have:=on (y-1) (by omega) (by omega);rw[show y-1+1=y by omega]at this;omega
 ·have wy:∀(k:Nat) (y:Int),0<=y/\y<m.cs.length->(y-t).natAbs=k->Wy (gE m t) (fW m) y (A2 m t y):=by
   intro k;induction k with
   |zero=>
    intro y hy hk;obtain rfl:y=t:=by omega
    rw[zero];exact .src ⟨rfl,h.EK ht,rfl⟩
   |succ k ih=>
    intro y hy hk;by_cases l:y<t
    ·rw[on y (by omega) l];refine .go ⟨h.EK hy,h.EK (by omega),⟨p,h.pq.1,?_⟩,rfl⟩ (ih (y+1) (by omega) (by omega));rw[h.step hy h.pq.1,if_pos rfl,A5]
    ·rw[back y hy (by omega)];refine .go ⟨h.EK hy,h.EK (by omega),⟨q,h.pq.2.1,?_⟩,rfl⟩ (ih (y-1) (by omega) (by omega));rw[h.step hy h.pq.2.1,if_neg (λe=>h.pq.2.2 e.symm),if_pos rfl]
  exact wy _ x hx rfl
def uX.kQ (h:uX m p q)(ht:0<=t/\t<m.cs.length)(hx:0<=x/\x<m.cs.length)(hne:x≠t):kQ m t x=if x<t then p else q:=by
 have hD:=h.D ht hx;have hsz:=Lx h.may;have hlt:S.D m t x<cg:=by have h1:=HC h (t+1).toNat (by omega);have h2:=HC h (x+1).toNat (by omega);have h3:=HC h t.toNat (by omega);have h4:=HC h x.toNat (by omega);rw[hD];unfold A2 cg;omega
 obtain⟨hr,⟨h0,hop,he⟩,_⟩:=XJ h.may hlt hne;have hst:=h.step hx hr;generalize S.kQ m t x=s at*;rw[hst]at h0 he;have c0:=(h.cost hx);by_cases e1:s=p
 ·subst e1;rw[if_pos rfl]at h0 he;split at h0
  ·rename_i hlx;rw[if_pos hlx]at he;split
   ·rfl
   ·exfalso;rw[hD,h.D ht (by omega)]at he;have c1:=h.cost (x:=x+1) (by omega);have p1:=adp h hx;unfold A2 at he;omega
  ·omega
 ·rw[if_neg e1]at h0 he;split at h0
  ·rename_i e2;subst e2;split
   ·exfalso;rw[hD,h.D ht (by omega)]at he;have c1:=h.cost (x:=x-1) (by omega);have p1:=adp h hx;unfold A2 at he;grind
   ·rfl
  ·omega
end
end Go.Proofs.YtmegplnmiepfbaaGreatDoor.S
set_option maxRecDepth 20000
namespace Go.Proofs.YtmegplnmiepfbaaGreatDoor.S
open Go.Sx
attribute [local irreducible] af cD bz bg aA cy b_ St Bx Al App cK cE cB bV aN bG aq bT av ak aW mapA
def JK:bJ:=⟨3,1,[5,2,9]⟩
def MR:uX JK 1 3:=⟨⟨by decide,by decide,by decide,by decide⟩,by decide,.inl ⟨rfl,rfl,rfl⟩⟩
def anr:D JK 2 0=11/\kQ JK 2 0=1:=⟨(MR.D (by decide) (by decide)).trans (by decide),(MR.kQ (by decide) (by decide) (by decide)).trans (by decide)⟩
def aw1 {q:gz}:iv q (ET JK)=(⟨q.most,ldP q.bR JK,some ⟨q.most,0,[]⟩⟩,qg 0):=alO MR.may
def adq {q:gz}{o:lA}{mp:wm}{u:rI}(hm:DY o=true)(hk:o.k≠0/\o.k≠1/\o.k≠8)(h1:q.bR.o=some mp)(h2:q.us=some u):iv q o=Kx q mp.g.m u o:=by unfold iv;grind
def aw2 {q:gz}{mp:wm}(h1:q.bR.o=some mp)(hg:mp.g.m=JK)(h2:q.us=some ⟨2,0,[]⟩):iv q ⟨3,0,2,[]⟩=(⟨q.most,q.bR,some ⟨2,1,[⟨0,0,2⟩]⟩⟩,⟨0,0,5,0,[],[]⟩):=by rw[adq (by decide) (by decide) h1 h2,hg];rfl
def aw3 {q:gz}{mp:wm}{u:rI}(h1:q.bR.o=some mp)(hg:mp.g.m=JK)(h2:q.us=some u):iv q ⟨6,2,0,[]⟩=(⟨q.most,zZ q.bR 2 (cW JK 0),some u⟩,⟨0,11,1,-1,[],[]⟩):=by
 rw[adq (by decide) (by decide) h1 h2,hg];have e:Kx q JK u ⟨6,2,0,[]⟩=(⟨q.most,zZ q.bR 2 (cW JK 0),some u⟩,⟨0,D JK 2 0,kQ JK 2 0,-1,[],[]⟩):=by rw[Kx,if_neg (by decide),if_neg (by decide),if_neg (by decide),if_neg (by decide),if_pos rfl,if_pos (by decide)]
 rw[e,anr.1,anr.2]
def aw4 {q:gz}{mp:wm}(h1:q.bR.o=some mp)(hg:mp.g.m=JK)(h2:q.us=some ⟨2,1,[⟨0,0,2⟩]⟩):(iv q ⟨7,0,0,[]⟩).1.us=some ⟨2,1,[⟨0,1,2⟩]⟩/\(iv q ⟨7,0,0,[]⟩).2=⟨0,0,5,-1,[(0,1)],[]⟩:=by
 rw[adq (by decide) (by decide) h1 h2,hg];have e:jc JK [⟨0,0,2⟩]=[1]:=by show[kQ JK 2 0]=[1];rw[anr.2]
 rw[Kx,e];exact⟨rfl,rfl⟩
section
variable {F:Nat->Prop}{W w:World}{L:List As}{lg:wG}{r:Bm}{y:vT}
def ant {u:rI}(h:y.p.us=some u):∃x,y.cr=some x/\x.y=u:=by have h:y.cr.map (·.y)=some u:=h;simp_all
def akQ {Q:Bool->World->Prop}(hL:iL w lg)(s0:Sep F W w L)(h:∀w',Sep F W w' L->Fr No w w'->Q true w'):wI w Q:=by
 apply Nt;refine Uh (by decide) (by decide) (bh (F:=No)) λr y w1 ey s=>?_;have i0:DV 0 y.p:=by rw[ey];exact atb (by decide)
 apply lC;refine aQ s λpb w1 s=>?_;refine aV s λmb w1 s=>?_
 iterate 3 refine sT s 0 rfl λw1 s=>?_
 refine lI s 0 rfl (lI s 0 rfl (lS s 0 rfl ?_));have hC:=adk (ns:=[5,2,9]) s (i:=1) rfl;refine O.Km s hC MR.may λra rn rc w1 s _=>?_;have s:=pk 4 [3,0,1,2] s;have o1:=afd MR.may (by decide);refine X2 hL o1 (λw' s'=>aG s' (i:=0) rfl cZ (by decide)) (i0.sm (by decide)) s λr1 y1 ma mn mc ga gn gc ab w1 er ey1 s=>?_;rw[<-er];have i1:DV 1 y1.p:=by rw[ey1];exact X3 i0 o1
 obtain⟨mp1,h1,g1,u1⟩:∃mp,y1.p.bR.o=some mp/\mp.g.m=JK/\y1.p.us=some ⟨2,0,[]⟩:=by rw[ey1,aw1,ey];exact⟨_,rfl,rfl,rfl⟩
 have s:=pk 4 [3,0,1,2] s;refine X2 hL (kj (by decide)) (λw' s'=>xl) (i1.sm (by decide)) s λr2 y2 ma mn mc ga gn gc bb w1 er Xv s=>?_;rw[<-er];have i2:DV 2 y2.p:=by rw[Xv];exact X3 i1 (kj (by decide))
 rw[aw2 h1 g1 u1]at Xv s;have h2:y2.p.bR.o=some mp1:=by rw[Xv];exact h1
 have u2:y2.p.us=some ⟨2,1,[⟨0,0,2⟩]⟩:=by rw[Xv]
 have s:=pk 4 [3,0,1,2] s;refine X2 hL (kj (by decide)) (λw' s'=>xl) (i2.sm (by decide)) s λr3 y3 ma mn mc ga gn gc cb w1 er ey3 s=>?_;rw[<-er];have i3:DV 3 y3.p:=by rw[ey3];exact X3 i2 (kj (by decide))
 rw[aw3 h2 g1 u2]at ey3 s;obtain⟨mp3,h3,g3⟩:=Br h2 2 (cW JK 0);have h3:y3.p.bR.o=some mp3:=by rw[ey3];exact h3
 have u3:y3.p.us=some ⟨2,1,[⟨0,0,2⟩]⟩:=by rw[ey3]
 rw[<-g3]at g1;have s:=pk 4 [3,0,1,2] s;refine X2 hL (kj (by decide)) (λw' s'=>xl) (i3.sm (by decide)) s λr4 y4 ma mn mc ga gn gc db w1 er ey4 s=>?_;rw[<-er];obtain⟨u4,q4⟩:=aw4 h3 g1 u3;rw[<-ey4]at u4;rw[q4]at s;apply lI s 10 rfl;show cond true _ _;apply lI s 7 rfl;show cond true _ _;apply lI s 4 rfl;show cond true _ _;apply lI s 4 rfl;show cond true _ _;apply lS s 0 rfl;refine aQ s λxb w1 s=>?_;have s:Sep No w w1 (ak (sZ xb) 1 1 51 2 (flat lu [(0,1)])::_):=g9 s (i:=0) rfl rfl (by decide) (λu hu=>by rcases List.mem_cons.1 hu with rfl|hu;rfl;rcases List.mem_cons.1 hu with rfl|hu;rfl;cases hu);have hX:=aG s (i:=2) rfl Ag (by decide);have hY:=aG s (i:=0) rfl Ag (by decide);have hl:=hX.len;refine akP hX hY s (by simp at hl;omega) λw1 s _=>?_;obtain⟨x,hx,ex⟩:=ant u4;have s:=pk 5 [4,0,1,2,3] s;refine HB hx s λua un uc w1 s=>?_;have hU:=(aG s (i:=0) rfl jM (by decide)).len;rw[ex]at hU;have hU:1=un:=hU;rw[ee (show(un:Int)=1 by omega)];exact h w1 (bW s0 (au s)) (au s)
end
section
variable {W w:World}{L:List As}{lg:wG}{ra rb rz:Bm}{ya yb yz:vT}{xa va ca la na:Option Addr}{xn xc vn vc cn cc ln lc nn nc:Nat}{X Y:List lA}{t:Int}
def DV.at_ {q:gz}(h:DV t q)(hu:q.bR.o≠none):∃m u,q.bR.o=some m/\q.us=some u/\Ky q.most m.g.m u/\u.next<=t:=by
 rcases h.st with⟨e,_⟩|h
 all_goals grind
end
section
variable {F:Nat->Prop}{W w w0:World}{L:List As}{lg:wG}{r:Bm}{y:vT}{a ca la:Option Addr}{n c cn cc ln lc:Nat}{m:bJ}{u:rI}{k t x:Int}
def aj4 {Q:Bool->World->Prop}(hm:cF m)(hA:Sl w a n c 1 bp m.cs)(s0:Sep F W w L)(h:∀w',Sep F W w' L->Fr No w w'->Q true w'):uo m.w m.h a n c w Q:=by
 refine K0 _ _ _ _ _ _ _ ?_;have hl:=hA.len;have hml:=hm.len;have hmul:=nv ⟨hm.w,hm.h⟩;have hw:=hm.w;have hh:=hm.h;refine aQ (bh (F:=No) (w:=w)) λb w s=>?_;refine lI s 0 rfl (lI s 0 rfl ?_);refine EE _ _ _ _ ?_;refine O.zP ?_;rw[bM];refine O.zP ?_;show cond _ _ _;rw[bM];refine lS s 0 rfl (lI s 0 rfl (lI s 0 rfl ?_));rw[aH,ee (show(n:Int)=m.w*m.h by omega),cond_true];refine lS s 0 rfl ?_;refine Nz _ _ _ _ _ ?_;have hA:=hA.fr (au s);have loop:∀j i:Nat,i+j=n->s8 (λt w=>Q t w) (j+1) a n c i w:=by
  intro j;induction j with
  |zero=>
   intro i hi;show oY _ _ _ _ _ _ _;unfold oY;rw[bj];exact h w (bW s0 (au s)) (au s)
  |succ j ih=>
   intro i hi;show oY _ _ _ _ _ _ _;unfold oY;rw[bM];refine hA.BJ (k:=i) rfl (by omega) ?_;have:=hm.jG _ (fm (l:=m.cs) (i:=i) (by omega));rw[cL (by omega),cond_false,F_ (by omega)];exact ih (i+1) (by omega)
 exact⟨n+1,loop n 0 (by omega)⟩
structure Kz (k:Int) (q:gz) (m:bJ) (u:rI):Prop where
 I:DV k q
 o:∃mp,q.bR.o=some mp/\mp.g.m=m
 us:q.us=some u
def Kz.nu {q:gz}(h:Kz k q m u):Ky q.most m u:=by obtain⟨mp,h1,rfl⟩:=h.o;obtain⟨m',u',e1,e2,e3,_⟩:=h.I.at_ (by rw[h1];exact Option.some_ne_none _);rw[h1]at e1;rw[h.us]at e2;cases e1;cases e2;exact e3
def auw {A B:Int}(hA:bI m.w m.h A)(hB:bI m.w m.h B):DY ⟨6,A,B,[]⟩=true:=by have:=Jh hA;have:=Jh hB;exact(An (by simp) (by omega) (by omega) (λh=>absurd h (by decide)) λh=>absurd h (by decide)).may
def asa {q:gz}(h:Kz k q m u)(ht:bI m.w m.h t)(hx:bI m.w m.h x):Kz (k+1) (iv q ⟨6,t,x,[]⟩).1 m u/\(iv q ⟨6,t,x,[]⟩).2=⟨0,D m t x,kQ m t x,-1,[],[]⟩:=by obtain⟨mp,h1,rfl⟩:=h.o;have hi:=X3 h.I (kj (k:=6) (A:=t) (B:=x) (by decide));rw[adq (auw ht hx) (show(6:Int)≠0/\(6:Int)≠1/\(6:Int)≠8 by decide) h1 h.us]at hi⊢;unfold Kx at hi⊢;rw[if_neg (show¬(6:Int)=2 by decide),if_neg (show¬(6:Int)=3 by decide),if_neg (show¬(6:Int)=4 by decide),if_neg (show¬(6:Int)=5 by decide),if_pos rfl,if_pos ⟨ht,hx⟩]at hi⊢;obtain⟨OD,e1,e2⟩:=Br h1 t (cW mp.g.m x);exact⟨⟨hi,⟨OD,e1,by rw[e2]⟩,rfl⟩,rfl⟩
def ahm {Q:Int->Int->Bool->World->Prop}(hL:iL W lg)(h:Kz k y.p m u)(hk:k<1000000000)(ht:bI m.w m.h t)(hx:bI m.w m.h x)(s:Sep No W w (fN r y::L))
  (g:∀r' y' w',r'.p=r.p->Kz (k+1) y'.p m u->Sep No W w' (fN r' y'::L)->Q (D m t x) (kQ m t x) true w'):wJ (sZ r.p) t x w Q:=by
 refine NA _ _ _ _ _ ?_;obtain⟨h1,h2⟩:=asa h ht hx;refine X2 (o:=⟨6,t,x,[]⟩) hL (kj (by decide)) (λw' s'=>xl) (h.I.sm hk) s λr' y' ma mn mc ga gn gc p w er ey s=>?_;rw[h2]at s;rw[<-ey]at h1;have s:=ay s;refine lI s 0 rfl (lI s 0 rfl (lI s 0 rfl ?_));refine⟨cm s 0 rfl,cm s 0 rfl,cm s 0 rfl,?_⟩;exact g r' y' _ er h1 (ai (ai (ai s)))
def asb {q:gz}{mp:bJ}{o:lA}:(Kx q mp u o).1.most=q.most:=by
 unfold Kx
 repeat' split
 all_goals rfl
def asd {q:gz}{o:lA}:(iv q o).1.most=q.most:=by
 unfold iv
 repeat' split
 all_goals first|rfl|exact asb
def aj5:∀(os:List lA) {q:gz},(IJ q os).most=q.most
 |[],q=>rfl
 |o::os,q=>(aj5 os).trans asd
def aj6 {Q:Option Addr->World->Prop}{most mw mh:Int}{cs:List Int}{xs:List yd}(hk:1<=k/\k<=100000)(hm:1<=most/\most<=65536)(hL:iL w lg)(hC:Sl w ca cn cc 1 bp cs)(hcs:ef cs)(Rj:cn<9223372036854775808)(hA:Sl w la ln lc 3 O.abh xs)
  (hl:ln<=60)(h:∀r y m u w',Kz 100 y.p m u->y.p.most=most->Sep No w w' [fN r y]->Q (sZ r.p) w'):vr k most mw mh ca cn cc la ln lc w Q:=by
 refine L7 _ _ _ _ _ _ _ _ _ _ _ _ ?_;refine Uh hk hm (bh (F:=No) (w:=w)) λr y w1 ey s=>lC ?_;refine O.afb s (hC.fr (au s)) hcs Rj (hA.fr (au s)) λxa xn xc w1 A s f ⟨vs,hX⟩=>?_;have hin:=ap7 (w:=mw) (h:=mh) hcs xs;have hup:=λi hi=>ap9 (w:=mw) (h:=mh) hcs xs (anq k most) (i:=i) hi;have hl1:=al3 mw mh cs xs;have h0:0<(Bp mw mh cs xs).length:=by unfold Bp;simp
 generalize Bp mw mh cs xs=X at*;have hXl:=(hX s).2.1;have hI:∀i:Nat,i<=xn->DV i (IJ (anq k most) (X.take i)):=λi hi=>by have:=atc (X.take i) (atb (k:=k) hm) λo ho=>hin o (List.mem_of_mem_take ho);rw[List.length_take,Int.zero_add,show min i X.length=i by omega]at this;exact this
 have loop:∀(j i:Nat) (w2:World) (r:Bm) (y:vT),i+j=xn->y.p=IJ (anq k most) (X.take i)->Sep No w w2 [fN r y,A]->rQ Q (j+1) (sZ r.p) xa xn xc i w2:=by
  intro j;induction j with
  |zero=>
   intro i w2 r y hi hy s;show n9 _ _ _ _ _ _ _ _;unfold n9;rw[bj];obtain⟨mp,u,e1,e2,e3,e4⟩:=(hI i (by omega)).at_ (hup i (by omega));have ho:y.p.bR.o=some mp:=by rw[hy];exact e1
   obtain⟨m,o1,o2⟩:=Hx (y:=y.bR) (mp:=mp) ho;have eg:m.g=mp.g:=congrArg wm.g o2;refine Ui o1 s λra rn rc w s _=>?_;have hB:=aG s (i:=0) rfl cZ (by decide);rw[eg]at hB⊢;refine aj4 e3.may hB s λw s _=>?_;rw[Bool.not_true,cond_false];have hq:=hI i (by omega);have hmo:y.p.most=most:=by rw[hy];exact aj5 _
   rw[<-hy]at hq e2;exact h r y mp.g.m u w ⟨hq.mono (by omega),⟨mp,ho,rfl⟩,e2⟩ hmo (pk 3 [1] s)
  |succ j ih=>
   intro i w2 r y hi hy s;show n9 _ _ _ _ _ _ _ _;unfold n9;rw[bM];have hIi:=hI i (by omega);have ho:X[i]? =some (X[i]'(by omega)):=List.getElem?_eq_getElem _;generalize X[i]'(by omega)=o at ho;have azx:=hin o (List.mem_of_getElem? ho);refine(hX (jd s)).El rfl ho λp va vn vc hv hc=>?_;refine aL (hc 0 _ rfl) (aL (hc 1 _ rfl) (aL (hc 2 _ rfl) (dz (hc 3 _ rfl) ?_)));refine Xx (o:=o) hL azx (λw' s'=>((hX s').2.2 i _ o hv ho).m) (by rw[hy];exact hIi.sm (by omega)) s λr' y' ma mn mc ga gn gc w er ey s=>?_;rw[F_ (by omega),<-er];exact ih (i+1) w r' y' (by omega) (by rw[ey,hy,ar_ (by omega) ho]) (ai (ai s))
 exact⟨xn+1,loop xn 0 w1 r y (by omega) ey (jd s)⟩
end
section
variable {F:Nat->Prop}{W w w0:World}{L:List As}{lg:wG}{r:Bm}{y:vT}{m:bJ}{u:rI}{k t x:Int}
def ap_ (hm:cF m):(kQ m t x=5/\D m t x=cg)\/(kQ m t x=4/\x=t/\D m t x=0)\/((0<=kQ m t x/\kQ m t x<=3)/\D m t x<cg/\x≠t):=by
 by_cases hD:D m t x<cg
 ·by_cases hx:x=t
  ·refine .inr (.inl ⟨?_,hx,?_⟩)
   ·unfold kQ;rw[if_neg (by omega),if_pos hx]
   ·obtain⟨d,hd⟩:=(G2 hm).1 hD;rw[hx];exact aoo (aeu hd).2
  ·exact .inr (.inr ⟨(XJ hm hD hx).1,hD,hx⟩)
 ·have e:=ack (m:=m) (t:=t) (x:=x) λh=>hD ((G2 hm).2 h);refine .inl ⟨?_,e⟩;unfold kQ;rw[if_pos e]
def auy (hm:cF m)(hx:bI m.w m.h x):cV m x=gi m.cs x.toNat:=by have:=hx.2;have:=hm.len;unfold cV;rw[if_pos (by omega)]
def auz (hm:cF m)(hx:bI m.w m.h x):eE m x=true↔gi m.cs x.toNat≠255:=by have h1:=hx.2;have h2:=hm.len;have:=hm.jG _ (fm (l:=m.cs) (i:=x.toNat) (by omega));unfold eE;rw[auy hm hx];simp;omega
def akR {K:Addr->World->Prop}(h:Kz k y.p m u)(s:Sep No W w (fN r y::L))
  (g:∀(vb:Nat) (ra:Option Addr) (rn rc:Nat) w',(rn:Int)=m.w*m.h->Sep No W w' (av vb 25 [ae m.w,ae m.h,.slice ra rn rc]::ak ra rn rc 5 1 (flat bp m.cs)::fN r y::L)->K (aZ vb) w'):
  oz (sZ r.p) w λq r s t u w=>Al T 25 w λv w=>St (v.add 0) (ae q) w λw=>St (v.add 1) (ae r) w λw=>St (v.add 2) (.slice s t u) w λw=>K v w:=by
 have hn:=h.nu;obtain⟨mp,ho,rfl⟩:=h.o;obtain⟨m,o1,o2⟩:=Hx (y:=y.bR) (mp:=mp) ho;have eg:m.g=mp.g:=congrArg wm.g o2;refine Ui o1 s λra rn rc w s _=>?_;rw[eg]at s⊢;have hl:=(aG s (i:=0) rfl cZ (by decide)).len;have:=hn.may.len;refine aV s λvb w s=>?_;rw[azo]at s
 iterate 3 refine sT s 0 rfl λw s=>?_
 exact g vb ra rn rc w (by omega) s
end
end Go.Proofs.YtmegplnmiepfbaaGreatDoor.S
namespace Go.Proofs.YtmegplnmiepfbaaGreatDoor.S
open Go.Sx
def ca (q:qf):Int:=q.past.a+(Xu q).a
def cb (q:qf):Int:=q.past.b+(Xu q).b
def cc (q:qf):Int:=q.past.c+q.sh.b
def cd (q:qf):Int:=q.past.d+q.sh.h
structure CtI (B:Int) (q:qf):Prop where
 p:0<=q.past.a/\0<=q.past.b/\0<=q.past.c/\0<=q.past.d
 n:0<=(Xu q).a/\0<=(Xu q).b
 s:0<=q.sh.b/\0<=q.sh.h
 le:ca q<=B/\cb q<=B/\cc q<=B/\cd q<=B
 vs:∀mp,q.o=some mp->(mp.TB.length:Int)<=eM mp.g.m.w mp.g.m.h/\(mp.g.vs.length:Int)<=eM mp.g.m.w mp.g.m.h
structure Gr (q q':qf) (n p:Int):Prop where
 a:ca q'<=ca q+n
 b:cb q'<=cb q+p
 c:cc q'<=cc q+p
 d:cd q'<=cd q+p
set_option maxRecDepth 20000
section
variable {B t n p:Int}{q:gz}{mp:wm}{u:rI}{o:lA}
structure aBW (B:Int) (q q':qf) (w h d U:Int):Prop where
 c:CtI B q'
 g:Gr q q' (eM w h) (U+1)
 d:0<=d/\(d=cg\/d<=254*(w*h-1))
end
end Go.Proofs.YtmegplnmiepfbaaGreatDoor.S
set_option maxRecDepth 20000
namespace Go.Proofs.YtmegplnmiepfbaaGreatDoor.S
open Go.Sx
attribute [local irreducible] af cD bz bg aA cy b_ St Bx Al App cK cE cB bV aN bG aq bT av ak aW mapA
def bw (b:Bool):List Value:=[.bool b]
def Xz (b:Bool):(bw b).length=1:=rfl
def awu (b:Bool)(u:Value)(h:u∈bw b):u.oneCell'=true:=by cases List.mem_singleton.1 h;rfl
def gb (ws:List Bool)(k:Nat):Bool:=ws.getD k false
def awv {ws:List Bool}{k:Nat}(h:k<ws.length):ws[k]? =some (gb ws k):=by unfold gb;rw[List.getD_eq_getElem?_getD,List.getElem?_eq_getElem h];rfl
def aj7 {ws:List Bool}{k:Nat}(hk:k<ws.length)(v:Bool)(j:Nat):gb (ws.set k v) j=if j=k then v else gb ws j:=by
 unfold gb;rw[List.getD_eq_getElem?_getD,List.getD_eq_getElem?_getD,List.getElem?_set];by_cases h:j=k
 ·subst h;simp[hk]
 ·rw[if_neg (λe=>h e.symm),if_neg h]
def axt {w:World}{a:Option Addr}{n c:Nat}{ws:List Bool}{idx:Int}{k:Nat}{K:Bool->Prop}(h:Sl w a n c 1 bw ws)(hk:idx=k)(hn:k<n)(g:K (gb ws k)):aJ idx n (wA a λp=>cD (p.add (idx.toNat*1)) w K):=
 h.El hk hn λp x hx hc=>by rw[awv (by rw[h.len];exact hn)]at hx;cases hx;have:=hc 0 _ rfl;rw[add_zero]at this;exact aqJ this g
structure anv (w h:Int) (us:List aP) (ws:List Bool) (N:Nat):Prop where
 len:ws.length=N
 at_:∀c,bI w h c->gb ws c.toNat=stand us c
def XA {w h:Int}:∀(todo:List (aP×Int)) (done:List aP),∀p∈(cJ w h done todo).2.1,∃x∈todo,p.1=x.1.id
 |[],done,p,hp=>by cases hp
 |(u,d)::rest,done,p,hp=>by
  cases hb:lO w h (done++u::rest.map (·.1)) u d with
  |true=>
   rw[AU hb]at hp;rcases List.mem_cons.1 hp with rfl|hp
   ·exact⟨_,List.mem_cons_self ..,rfl⟩
   ·obtain⟨x,h1,h2⟩:=XA rest _ p hp;exact⟨x,List.mem_cons_of_mem _ h1,h2⟩
  |false=>
   rw[AV hb]at hp;obtain⟨x,h1,h2⟩:=XA rest _ p hp;exact⟨x,List.mem_cons_of_mem _ h1,h2⟩
def axu {w h:Int}{done us:List aP}{u:aP}{d to:Int}{ws:List Bool}{N:Nat}(hm:mY w h (done++u::us))(hN:(N:Int)=w*h)(hW:anv w h (done++u::us) ws N)(hto:to=aY w h u.cell d)(htc:bI w h to)(hb:stand (done++u::us) to=false):
  anv w h ((done++mD w h u d)++us) ((ws.set u.cell.toNat false).set to.toNat (to !=u.goal)) N:=by
 have huc:=(hm.at_ u (by simp)).1;have hl:=hW.len;have r1:=huc.2;have r2:=htc.2;refine⟨by rw[List.length_set,List.length_set];exact hl,λc hc=>?_⟩;have r3:=hc.2;rw[aj7 (by rw[List.length_set];omega),aj7 (by omega)];have hnd:=hm.nd;rw[List.map_append,List.map_cons,List.nodup_append,List.nodup_cons]at hnd;have s0:stand done u.cell=false:=TC.2 λh=>hnd.2.2 _ h _ (List.mem_cons_self ..) rfl;have s1:stand us u.cell=false:=TC.2 hnd.2.1.1;have hA:=hW.at_ c hc;rw[sB,AW]at hA hb;rw[sB,sB];have hw:∀c,stand (mD w h u d) c=(decide (to=c)&&(to !=u.goal)):=λc=>by
  unfold mD;rw[<-hto];by_cases hg:to=u.goal
  ·rw[if_pos hg,xO hg,Bool.and_false];rfl
  ·rw[if_neg hg,EZ hg,AW];simp[stand]
 simp only[Bool.or_eq_false_iff,decide_eq_false_iff_not]at hb;rw[hw];by_cases e:c=to
 ·rw[if_pos (by rw[e]),e,hb.1,hb.2.2];simp
 ·rw[if_neg (by omega),decide_eq_false (λh=>e h.symm)];by_cases e2:c=u.cell
  ·rw[if_pos (by rw[e2]),e2,s0,s1];rfl
  ·rw[if_neg (by omega),hA,decide_eq_false (λh=>e2 h.symm)];simp
def aww {m:bJ}(hm:cF m){us:List aP}{u:aP}(hu:u∈us)(hc:bI m.w m.h u.cell){d:Int}(hd:d=kQ m u.goal u.cell):
  ∃to,to=(if d<=3 then aY m.w m.h u.cell d else-1)/\lO m.w m.h us u d=(decide (0<=to)&&!stand us to)/\to<m.w*m.h/\(0<=to->to=aY m.w m.h u.cell d/\bI m.w m.h to/\eE m to=true):=by
 refine⟨_,rfl,?_⟩;have hwh:=nv ⟨hm.w,hm.h⟩;have hr:=ajY hm (t:=u.goal) (x:=u.cell);split
 ·rename_i h3;refine⟨rfl,?_,λh0=>⟨rfl,(vp h0).2,?_⟩⟩
  ·by_cases h0:0<=aY m.w m.h u.cell d
   ·exact(vp h0).2.2.2
   ·omega
  ·rcases ap_ (t:=u.goal) (x:=u.cell) hm with h|h|⟨h1,h2,h3⟩
   ·omega
   ·omega
   ·rw[hd];exact(XJ hm h2 h3).2.1.2.1
 ·rename_i h3;refine⟨?_,by omega,λh0=>by omega⟩;rw[decide_eq_false (by decide),Bool.false_and];unfold lO;obtain h4|h5:d=4\/d=5:=by omega
  ·rw[h4,af_ hc,Xn.2 (List.mem_map.2 ⟨u,hu,rfl⟩),Bool.not_true,Bool.and_false]
  ·rw[h5,aga];rfl
section
variable {W:World}{lg:wG}{r:Bm}{y:vT}{a ua ia ma ga xa:Option Addr}{vb an n c un uc ic mn mc gn gc xn xc:Nat}{eL:CY}{m:bJ}{us:List aP}{M:List (Int×Int)}{G ds:List Int}{tk dd:Int}
noncomputable def Uj (r:Bm)(y:vT)(a ua ia ma ga:Option Addr)(vb an n c un uc ic mn mc gn gc:Nat)(eL:CY)(m:bJ)(us:List aP)(M:List (Int×Int))(G ds:List Int):List As:=
 [av an 34 (TN 0 0 5 (-1) ma mn mc ga gn gc eL),ak ma mn mc 51 2 (flat lu M),ak ga gn gc 3 1 (flat one G),fN r y,ak ia un ic 3 1 (flat one ds),ak ua un uc 43 3 (flat gN us),av vb 25 [ae m.w,ae m.h,.slice a n c],ak a n c 5 1 (flat bp m.cs)]
structure TkI (m:bJ) (us:List aP) (ds:List Int) (M:List (Int×Int)) (G:List Int) (n i:Nat) (done:List aP) (todo:List (aP×Int)) (mv:List (Int×Int)) (gs:List Int) (ws:List Bool):Prop where
 td:todo=(us.zip ds).drop i
 M:M=mv++(cJ m.w m.h done todo).2.1
 G:G=gs++(cJ m.w m.h done todo).2.2
 U:mY m.w m.h (done++todo.map (·.1))
 W:anv m.w m.h (done++todo.map (·.1)) ws n
 mv:mv.length<=i
 gs:gs.length<=i
def x7 {i:Nat}{u:aP}{ws:List Bool}{w:World}(x8:us[i]? =some u)(s:Sep No W w (ak xa n xc 4 1 (flat bw ws)::Uj r y a ua ia ma ga vb an n c un uc ic mn mc gn gc eL m us M G ds)){K:Addr->Prop}
  (g:∀p:Addr,w.cell? (p.add ((i:Int).toNat*3))=some (ae u.id)->w.cell? ((p.add ((i:Int).toNat*3)).add 1)=some (ae u.cell)->w.cell? ((p.add ((i:Int).toNat*3)).add 2)=some (ae u.goal)->K p):aJ (i:Int) un (wA ua K):=by
 have h:=aG s (i:=6) rfl jM (by decide);have hl:=h.len;have:=(List.getElem?_eq_some_iff.1 x8).1;refine h.El rfl (by omega) λp x hx hc=>?_;rw[x8]at hx;cases hx;have h0:=hc 0 _ rfl;rw[add_zero]at h0;exact g p h0 (hc 1 _ rfl) (hc 2 _ rfl)
def aqa {P6:Int->Option Addr->Addr->Int->World->Prop}{zO:Int->OA->Addr->Int->L3 (L3 (Addr->L3 (Int->Int->Int->WP)))}{Q:Bool->World->Prop}{rp:Option Addr}{i:Nat}{u:aP}{d to:Int}{done:List aP}{rest:List (aP×Int)}{mv:List (Int×Int)}{gs:List Int}{ws:List Bool}{w:World}
  (hm:cF m)(hn:(n:Int)=m.w*m.h)(hun:un<=65536)(hi:i<un)(x8:us[i]? =some u)(hI:TkI m us ds M G n i done ((u,d)::rest) mv gs ws)(E8:rest=(us.zip ds).drop (i+1))
  (hcan:lO m.w m.h (done++u::rest.map (·.1)) u d=(decide (0<=to)&&!stand (done++u::rest.map (·.1)) to))(htp:0<=to->to=aY m.w m.h u.cell d/\bI m.w m.h to/\eE m to=true)
  (hk:∀done mv gs ws w,TkI m us ds M G n (i+1) done rest mv gs ws->Sep No W w (ak xa n xc 4 1 (flat bw ws)::Uj r y a ua ia ma ga vb an n c un uc ic mn mc gn gc eL m us M G ds)->zO tk rp (aZ vb) dd ua un uc ia un ic (aZ an) xa n xc (mv.length:Int) (gs.length:Int) ((i+1:Nat):Int) w)
  (s:Sep No W w (ak xa n xc 4 1 (flat bw ws)::Uj r y a ua ia ma ga vb an n c un uc ic mn mc gn gc eL m us M G ds)):
  lW P6 zO Q tk rp (aZ vb) dd ua un uc ia un ic (aZ an) xa n xc (mv.length:Int) (gs.length:Int) (i:Int) to (lO m.w m.h (done++u::rest.map (·.1)) u d) w:=by
 obtain⟨_,JL,RR,hU,hW,Oy,DF⟩:=hI;rw[List.map_cons]at hU hW;have hml:=(aG s (i:=2) rfl Ag (by decide)).len;have WE:=(aG s (i:=3) rfl bX (by decide)).len;have huc:=hU.at_ u (by simp);have hwi:IntKind.wrap .i64 ((i:Int)+1)=((i+1:Nat):Int):=F_ (by omega);unfold lW;cases hb:lO m.w m.h (done++u::rest.map (·.1)) u d with
 |false=>
  rw[Bool.not_false,cond_true,hwi];rw[AV hb]at JL RR;exact hk (done++[u]) mv gs ws w ⟨E8,JL,RR,by rw[List.append_assoc];exact hU,by rw[List.append_assoc];exact hW,by omega,by omega⟩ s
 |true=>
  rw[Bool.not_true,cond_false];have hb0:=hb;rw[hcan,Bool.and_eq_true,decide_eq_true_eq,Bool.not_eq_true']at hb;obtain⟨h0,hst⟩:=hb;obtain⟨ht1,htc,hop⟩:=htp h0;rw[AU hb0,<-ht1]at JL RR;have afe:=congrArg List.length JL;rw[List.length_append,List.length_cons]at afe;have e1:IntKind.wrap .i64 ((mv.length:Int)+1)=((mv.length+1:Nat):Int):=F_ (by omega);have e2:IntKind.wrap .i64 (((mv.length+1:Nat):Int)-1)=(mv.length:Int):=by rw[aH];omega
  rw[e1,e2];refine lS s 1 rfl ?_;refine(aG s (i:=2) rfl Ag (by decide)).El rfl (by omega) λp x hx hc=>?_;rw[JL,List.getElem?_append_right (Nat.le_refl _),Nat.sub_self]at hx;cases hx;refine aL (hc 1 _ rfl) ?_;rw[xO rfl,cond_false];refine lS s 7 rfl ?_;have hgi:=(auz hm htc).1 hop;have htr:=htc.2;have tV:=huc.1.2;have hwl:=hW.len;refine(aG s (i:=8) rfl cZ (by decide)).BJ (k:=to.toNat) (by omega) (by omega) ?_;rw[cL hgi,cond_false];refine x7 x8 s λp c0 c1 c2=>aL c1 ?_;have tV:=huc.1.2;have hwl:=hW.len;refine Ad Xz s (i:=0) (k:=u.cell.toNat) (x':=false) rfl (by omega) (by omega) rfl rfl λw s=>?_;refine x7 x8 s λp c0 c1 c2=>aL c2 ?_;refine Ad Xz s (i:=0) (k:=to.toNat) (x':=to !=u.goal) rfl (by omega) (by rw[List.length_set];omega) rfl rfl λw s=>?_;refine x7 x8 s λp c0 c1 c2=>aL c2 ?_;have hW':=axu hU hn hW ht1 htc hst;have hU':=aa6 hU hb0;by_cases hg:to=u.goal
  ·rw[ee hg,cond_true];rw[if_pos hg]at RR;have s:=ay s;have awx:=congrArg List.length RR;rw[List.length_append,List.length_append]at awx;simp only[List.length_singleton]at awx;refine lS s 1 rfl ?_;rw[bj];refine lS s 1 rfl ?_;refine(aG s (i:=3) rfl bX (by decide)).ql (k:=gs.length) rfl (by omega) ?_;refine x7 x8 s λp c0 c1 c2=>aL c0 ?_;have hgi:gi G gs.length=u.id:=by unfold gi;rw[RR,List.getD_eq_getElem?_getD,List.getElem?_append_right (Nat.le_refl _),Nat.sub_self];rfl
   rw[hgi,xO rfl,cond_false,hwi,F_ (by omega)];have:=hk _ (mv++[(u.id,to)]) (gs++[u.id]) _ _ ⟨E8,by rw[JL,List.append_assoc];rfl,RR.trans (List.append_assoc ..).symm,hU',hW',by rw[List.length_append,List.length_singleton];omega,by rw[List.length_append,List.length_singleton];omega⟩ s;rw[List.length_append,List.length_append]at this;exact this
  ·rw[cL hg,cond_false,hwi];rw[if_neg hg,List.nil_append]at RR;have:=hk _ (mv++[(u.id,to)]) gs _ _ ⟨E8,by rw[JL,List.append_assoc];rfl,RR,hU',hW',by rw[List.length_append,List.length_singleton];omega,by omega⟩ s;rw[List.length_append]at this;exact this
end
end Go.Proofs.YtmegplnmiepfbaaGreatDoor.S
namespace Go.Proofs.YtmegplnmiepfbaaGreatDoor.S
open Go.Sx
def nx (q:gz):Int:=match q.us with|some u=>u.next|none=>0
def TO (q:gz):List Int:=match q.us with|some u=>u.us.map (·.id)|none=>[]
inductive aCK (q q':gz) (o:lA) (a:abg):Prop
 |load (hk:o.k=1) (hc:a.code=0) (hm:a.Hy=[]) (hg:a.gone=[]) (hn:nx q'=0) (hi:TO q'=[])
 |spawn (hk:o.k=3) (hc:a.code=0) (xW:a.id=nx q) (hm:a.Hy=[]) (hg:a.gone=[]) (hn:nx q'=nx q+1) (hi:TO q'=TO q++[nx q])
 |drop (hk:o.k=5/\a.code=0\/o.k=4/\a.code=13) (hm:a.Hy=[]) (hg:a.gone=[]) (hn:nx q'=nx q) (hA:o.A∈TO q) (hi:TO q'=(TO q).filter λx=>!decide (x=o.A))
 |none (h1:¬(o.k=1/\a.code=0)) (h3:¬(o.k=3/\a.code=0)) (h5:¬(o.k=5/\a.code=0)) (h4:¬(o.k=4/\a.code=13)) (hm:∀p∈a.Hy,p.1∈TO q) (hn:nx q'=nx q) (hp:(TO q'++a.gone).Perm (TO q))
structure aBX (S:List Int) (lv:List Bool):Prop where
 len:lv.length=60
 at_:∀i:Nat,i<60->gb lv i=decide ((i:Int)∈S)
def below (S:List Int)(p:Nat):Nat:=(S.filter λx=>decide (x<(p:Int))).length
end Go.Proofs.YtmegplnmiepfbaaGreatDoor.S
set_option maxRecDepth 20000
namespace Go.Proofs.YtmegplnmiepfbaaGreatDoor.S
open Go.Sx
attribute [local irreducible] af cD bz bg aA cy b_ St Bx Al App cK cE cB bV aN bG aq bT av ak aW mapA
section
variable {W:World}{lg:wG}{r:Bm}{y:vT}{a ua ia ma ga xa:Option Addr}{vb an n c un uc ic mn mc gn gc xn xc:Nat}{eL:CY}{m:bJ}{us:List aP}{M:List (Int×Int)}{G ds:List Int}{tk dd:Int}
def aqc {P6:Int->Option Addr->Addr->Int->World->Prop}{zO:Int->OA->Addr->Int->L3 (L3 (Addr->L3 (Int->Int->Int->WP)))}{Q:Bool->World->Prop}{rp:Option Addr}{i:Nat}{u:aP}{d to:Int}{done:List aP}{rest:List (aP×Int)}{mv:List (Int×Int)}{gs:List Int}{ws:List Bool}{w:World}
  (hm:cF m)(hn:(n:Int)=m.w*m.h)(hun:un<=65536)(hi:i<un)(x8:us[i]? =some u)(hI:TkI m us ds M G n i done ((u,d)::rest) mv gs ws)(E8:rest=(us.zip ds).drop (i+1))
  (hcan:lO m.w m.h (done++u::rest.map (·.1)) u d=(decide (0<=to)&&!stand (done++u::rest.map (·.1)) to))(htl:to<m.w*m.h)(htp:0<=to->to=aY m.w m.h u.cell d/\bI m.w m.h to/\eE m to=true)
  (hk:∀done mv gs ws w,TkI m us ds M G n (i+1) done rest mv gs ws->Sep No W w (ak xa n xc 4 1 (flat bw ws)::Uj r y a ua ia ma ga vb an n c un uc ic mn mc gn gc eL m us M G ds)->zO tk rp (aZ vb) dd ua un uc ia un ic (aZ an) xa n xc (mv.length:Int) (gs.length:Int) ((i+1:Nat):Int) w)
  (s:Sep No W w (ak xa n xc 4 1 (flat bw ws)::Uj r y a ua ia ma ga vb an n c un uc ic mn mc gn gc eL m us M G ds)):
  lX P6 zO Q tk rp (aZ vb) dd ua un uc ia un ic (aZ an) xa n xc (mv.length:Int) (gs.length:Int) (i:Int) to (lO m.w m.h (done++u::rest.map (·.1)) u d) w:=by
 unfold lX;refine lS s 7 rfl ?_;rw[bj];have b33:=aqa (P6:=P6) (Q:=Q) hm hn hun hi x8 hI E8 hcan htp hk s;by_cases h0:0<=to
 ·rw[bM];have htc:=(htp h0).2.1;have hW:=hI.W;rw[List.map_cons]at hW;have hl:=hW.len;refine axt (aG s (i:=0) rfl Xz (by decide)) (k:=to.toNat) (by omega) (by omega) ?_;rw[hW.at_ to htc];have e:(lO m.w m.h (done++u::rest.map (·.1)) u d==!stand (done++u::rest.map (·.1)) to)=true:=by rw[hcan,decide_eq_true h0,Bool.true_and,beq_self_eq_true]
  rw[e,Bool.not_true,cond_false];exact b33
 ·rw[bj];have e:(lO m.w m.h (done++u::rest.map (·.1)) u d==false)=true:=by rw[hcan,decide_eq_false h0,Bool.false_and];rfl
  rw[e,Bool.not_true,cond_false];exact b33
def aqd {P6:Int->Option Addr->Addr->Int->World->Prop}{zO:Int->OA->Addr->Int->L3 (L3 (Addr->L3 (Int->Int->Int->WP)))}{Q:Bool->World->Prop}{rp:Option Addr}{i:Nat}{u:aP}{d to:Int}{done:List aP}{rest:List (aP×Int)}{mv:List (Int×Int)}{gs:List Int}{ws:List Bool}{w:World}
  (hm:cF m)(hn:(n:Int)=m.w*m.h)(hun:un<=65536)(hi:i<un)(x8:us[i]? =some u)(hI:TkI m us ds M G n i done ((u,d)::rest) mv gs ws)(E8:rest=(us.zip ds).drop (i+1))
  (hcan:lO m.w m.h (done++u::rest.map (·.1)) u d=(decide (0<=to)&&!stand (done++u::rest.map (·.1)) to))(htl:to<m.w*m.h)(htp:0<=to->to=aY m.w m.h u.cell d/\bI m.w m.h to/\eE m to=true)
  (hk:∀done mv gs ws w,TkI m us ds M G n (i+1) done rest mv gs ws->Sep No W w (ak xa n xc 4 1 (flat bw ws)::Uj r y a ua ia ma ga vb an n c un uc ic mn mc gn gc eL m us M G ds)->zO tk rp (aZ vb) dd ua un uc ia un ic (aZ an) xa n xc (mv.length:Int) (gs.length:Int) ((i+1:Nat):Int) w)
  (s:Sep No W w (ak xa n xc 4 1 (flat bw ws)::Uj r y a ua ia ma ga vb an n c un uc ic mn mc gn gc eL m us M G ds)):
  jF P6 zO Q tk rp (aZ vb) dd ua un uc ia un ic (aZ an) xa n xc (mv.length:Int) (gs.length:Int) (i:Int) to w:=by
 unfold jF;have s:=ay s;have b31:=aqc (P6:=P6) (Q:=Q) hm hn hun hi x8 hI E8 hcan htl htp hk s;refine lS s 1 rfl ?_;have hM:=aG s (i:=2) rfl Ag (by decide);have hml:=hM.len;have hU:mY m.w m.h (done++u::rest.map (·.1)):=hI.U;have JL:=hI.M;have afe:=congrArg List.length JL;rw[List.length_append]at afe;cases hb:lO m.w m.h (done++u::rest.map (·.1)) u d with
 |true=>
  rw[hb]at b31;rw[AU hb]at JL afe;simp only[List.length_cons]at afe;rw[bM];refine lS s 1 rfl ?_;refine hM.El rfl (by omega) λp x hx hc=>?_;rw[JL,List.getElem?_append_right (Nat.le_refl _),Nat.sub_self]at hx;cases hx;have h0:=hc 0 _ rfl;rw[add_zero]at h0;refine aL h0 ?_;refine x7 x8 s λp c0 c1 c2=>aL c0 ?_;rw[ee rfl];exact b31
 |false=>
  rw[hb]at b31;rw[AV hb]at JL afe;by_cases hq:mv.length<mn
  ·rw[bM];refine lS s 1 rfl ?_;refine hM.El rfl hq λp x hx hc=>?_;rw[JL,List.getElem?_append_right (Nat.le_refl _),Nat.sub_self]at hx;have h0:=hc 0 _ rfl;rw[add_zero]at h0;refine aL h0 ?_;refine x7 x8 s λp c0 c1 c2=>aL c0 ?_;obtain⟨z,z1,z2⟩:=XA rest _ x (List.mem_of_getElem? hx);have xW:=hU.ids;rw[List.map_append,List.map_cons,List.pairwise_append,List.pairwise_cons]at xW;have:=xW.2.1.1 z.1.id (List.mem_map.2 ⟨z.1,List.mem_map.2 ⟨z,z1,rfl⟩,rfl⟩);rw[cL (by omega)];exact b31
  ·rw[bj];exact b31
def aqf {P6:Int->Option Addr->Addr->Int->World->Prop}{Q:Bool->World->Prop}{rp:Option Addr}(hm:cF m)(hn:(n:Int)=m.w*m.h)(hun:un<=65536)(hds:ds=jc m us)
  (next:∀ws w,Sep No W w (ak xa n xc 4 1 (flat bw ws)::Uj r y a ua ia ma ga vb an n c un uc ic mn mc gn gc eL m us M G ds)->je rp w λl1 m1 n1 w=>cond ((m1:Int) !=(IntKind.wrap .i64 ((un:Int)-(gn:Int)))) (Q false w) (P6 tk rp (aZ vb) (IntKind.wrap .i64 (dd+1)) w)):
  ∀(j i:Nat) (done:List aP) (todo:List (aP×Int)) (mv:List (Int×Int)) (gs:List Int) (ws:List Bool) (w:World),i+j=un->TkI m us ds M G n i done todo mv gs ws->
   Sep No W w (ak xa n xc 4 1 (flat bw ws)::Uj r y a ua ia ma ga vb an n c un uc ic mn mc gn gc eL m us M G ds)->
   lZ P6 Q (j+1) tk rp (aZ vb) dd ua un uc ia un ic (aZ an) xa n xc (mv.length:Int) (gs.length:Int) (i:Int) w:=by
 intro j;induction j with
 |zero=>
  intro i done todo mv gs ws w hi hI s;show lY _ _ _ _ _ _ _ _ _ _ _ _ _ _ _ _ _ _ _ _ _;unfold lY;rw[bj];obtain⟨Ja,JL,RR,hU,hW,Oy,DF⟩:=hI;have hUl:=(aG s (i:=6) rfl jM (by decide)).len;have hml:=(aG s (i:=2) rfl Ag (by decide)).len;have WE:=(aG s (i:=3) rfl bX (by decide)).len;have e:todo=[]:=by rw[Ja];refine List.drop_eq_nil_of_le ?_;rw[List.length_zip];omega
  rw[e]at JL RR;simp only[cJ,List.append_nil]at JL RR;refine lS s 1 rfl ?_;rw[<-JL,xO (by omega),cond_false];refine lS s 1 rfl ?_;rw[<-RR,xO (by omega),cond_false,WE];exact next ws w s
 |succ j ih=>
  intro i done todo mv gs ws w hi hI s;show lY _ _ _ _ _ _ _ _ _ _ _ _ _ _ _ _ _ _ _ _ _;unfold lY;rw[bM];have hUl:=(aG s (i:=6) rfl jM (by decide)).len;have hD:=aG s (i:=5) rfl bX (by decide);have Zb:=hD.len;have x8:us[i]? =some (us[i]'(by omega)):=List.getElem?_eq_getElem _;generalize us[i]'(by omega)=u at x8;have Ob:ds[i]? =some (gi ds i):=h_ (by omega);have hd:gi ds i=kQ m u.goal u.cell:=by
   have h2:ds[i]? =some (kQ m u.goal u.cell):=by rw[hds];unfold jc;rw[List.getElem?_map,x8];rfl
   rw[Ob]at h2;exact Option.some.inj h2
  have awy:todo=(u,gi ds i)::(us.zip ds).drop (i+1):=by rw[hI.td,List.drop_eq_getElem_cons (by rw[List.length_zip];omega)];congr 1;have:=(List.getElem?_zip_eq_some (l₁:=us) (l₂:=ds) (i:=i) (z:=(u,gi ds i))).2 ⟨x8,Ob⟩;exact Option.some.inj ((List.getElem?_eq_getElem _).symm.trans this)
  obtain⟨rest,E8⟩:∃rest,rest=(us.zip ds).drop (i+1):=⟨_,rfl⟩;rw[<-E8]at awy;subst awy;have hU:=hI.U;rw[List.map_cons]at hU;have huc:=hU.at_ u (by simp);refine hD.ql rfl (by omega) ?_;have hb:∀{w to},lO m.w m.h (done++u::rest.map (·.1)) u (gi ds i)=(decide (0<=to)&&!stand (done++u::rest.map (·.1)) to)->to<m.w*m.h->(0<=to->to=aY m.w m.h u.cell (gi ds i)/\bI m.w m.h to/\eE m to=true)->Sep No W w (ak xa n xc 4 1 (flat bw ws)::Uj r y a ua ia ma ga vb an n c un uc ic mn mc gn gc eL m us M G ds)->jF P6 (lZ P6 Q (j+1)) Q tk rp (aZ vb) dd ua un uc ia un ic (aZ an) xa n xc (mv.length:Int) (gs.length:Int) (i:Int) to w:=λh1 h2 h3 s=>
   aqd hm hn hun (by omega) x8 hI E8 h1 h2 h3 (λdone mv gs ws w hI s=>ih (i+1) done rest mv gs ws w (by omega) hI s) s
  obtain⟨to,hto,h1,h2,h3⟩:=aww (us:=done++u::rest.map (·.1)) hm (by simp) huc.1 hd;by_cases hd3:gi ds i<=3
  ·rw[bM hd3];rw[if_pos hd3]at hto;have s:=ay s;refine lI s 7 rfl (lI s 7 rfl ?_);refine x7 x8 s λp c0 c1 c2=>aL c1 ?_;refine(aG s (i:=5) rfl bX (by decide)).ql rfl (by omega) ?_;refine jz s λw s _=>?_;rw[<-hto];exact hb h1 h2 h3 s
  ·rw[bj hd3];rw[if_neg hd3]at hto;rw[<-hto];exact hb h1 h2 h3 s
end
def Kz.mono {k k':Int}{q:gz}{m:bJ}{u:rI}(h:Kz k q m u)(hk:k<=k'):Kz k' q m u:=⟨h.I.mono hk,h.o,h.us⟩
def auA {k:Int}{q:gz}{m:bJ}{u:rI}(h:Kz k q m u):Kz (k+1) (iv q ⟨7,0,0,[]⟩).1 m (I5 m.w m.h u (jc m u.us))/\(iv q ⟨7,0,0,[]⟩).2=⟨0,0,5,-1,(cJ m.w m.h [] (u.us.zip (jc m u.us))).2.1,(cJ m.w m.h [] (u.us.zip (jc m u.us))).2.2⟩:=by obtain⟨mp,h1,rfl⟩:=h.o;have hi:=X3 h.I (kj (k:=7) (A:=0) (B:=0) (by decide));rw[adq (by decide) (by decide) h1 h.us]at hi⊢;unfold Kx at hi⊢;rw[if_neg (by decide),if_neg (by decide),if_neg (by decide),if_neg (by decide),if_neg (by decide)]at hi⊢;obtain⟨OD,e1,e2⟩:=DE (l8 mp.g.m.w mp.g.m.h u.us) h1;exact⟨⟨hi,⟨OD,e1,by rw[e2]⟩,rfl⟩,rfl⟩
section
variable {W:World}{lg:wG}{r:Bm}{y:vT}{a ua ia ma ga xa ca la:Option Addr}{vb an n c un uc ic mn mc gn gc xn xc cn cc ln lc:Nat}{eL:CY}{m:bJ}{us:List aP}{M:List (Int×Int)}{G ds:List Int}{tk dd:Int}
def aqh {P6:Int->Option Addr->Addr->Int->World->Prop}{Q:Bool->World->Prop}{rp:Option Addr}(hm:cF m)(hU:mY m.w m.h us)(hn:(n:Int)=m.w*m.h)(hun:un<=65536)(hds:ds=jc m us)
  (hM:M=(cJ m.w m.h [] (us.zip ds)).2.1)(hG:G=(cJ m.w m.h [] (us.zip ds)).2.2)
  (next:∀ws w,Sep No W w (ak xa n xc 4 1 (flat bw ws)::Uj r y a ua ia ma ga vb an n c un uc ic mn mc gn gc eL m us M G ds)->je rp w λl1 m1 n1 w=>cond ((m1:Int) !=(IntKind.wrap .i64 ((un:Int)-(gn:Int)))) (Q false w) (P6 tk rp (aZ vb) (IntKind.wrap .i64 (dd+1)) w)):
  ∀(j i:Nat) (ws:List Bool) (w:World),i+j=un->anv m.w m.h (us.take i) ws n->
   Sep No W w (ak xa n xc 4 1 (flat bw ws)::Uj r y a ua ia ma ga vb an n c un uc ic mn mc gn gc eL m us M G ds)->
   o9 P6 Q (j+1) tk rp (aZ vb) dd ua un uc ia un ic (aZ an) xa n xc (i:Int) w:=by
 intro j;induction j with
 |zero=>
  intro i ws w hi hW s;show l6 _ _ _ _ _ _ _ _ _ _ _ _ _ _ _ _ _ _ _;unfold l6;rw[bj];have hUl:=(aG s (i:=6) rfl jM (by decide)).len;have Zb:=(aG s (i:=5) rfl bX (by decide)).len;have e:(us.zip ds).map (·.1)=us:=by rw[hds];exact zip_fst _
  refine⟨un+1,aqf hm hn hun hds next un 0 [] (us.zip ds) [] [] ws w (by omega) ⟨rfl,hM,hG,?_,?_,Nat.le_refl _,Nat.le_refl _⟩ s⟩
  ·rw[List.nil_append,e];exact hU
  ·rw[List.nil_append,e];rwa[List.take_of_length_le (by omega)]at hW
 |succ j ih=>
  intro i ws w hi hW s;show l6 _ _ _ _ _ _ _ _ _ _ _ _ _ _ _ _ _ _ _;unfold l6;rw[bM];have hUl:=(aG s (i:=6) rfl jM (by decide)).len;have x8:us[i]? =some (us[i]'(by omega)):=List.getElem?_eq_getElem _;generalize us[i]'(by omega)=u at x8;have huc:=(hU.at_ u (List.mem_of_getElem? x8)).1;have hr:=huc.2;have hl:=hW.len;refine x7 x8 s λp c0 c1 c2=>aL c1 ?_;refine Ad Xz s (i:=0) (k:=u.cell.toNat) (x':=true) rfl (by omega) (by omega) rfl rfl λw s=>?_;rw[F_ (by omega)];refine ih (i+1) _ w (by omega) ⟨by rw[List.length_set];exact hl,λc hc=>?_⟩ s;have hr2:=hc.2;rw[aj7 (by omega),List.take_add_one,x8];show _=stand (us.take i++[u]) c;rw[sB,AW];by_cases e:c=u.cell
  ·rw[if_pos (by rw[e]),decide_eq_true e.symm];simp
  ·rw[if_neg (by omega),hW.at_ c hc,decide_eq_false (λh=>e h.symm)];simp[stand]
def aqi {P6:Int->Option Addr->Addr->Int->World->Prop}{Q:Bool->World->Prop}(hL:iL W lg){k0:Int}{u:rI}(BW:u.us=us)(hn:(n:Int)=m.w*m.h)(hun:un<=65536)(FI:0<=k0/\k0<=100000000)
  (next:∀r' y' w,r'.p=r.p->Kz (k0+un+1) y'.p m (I5 m.w m.h u (jc m us))->Sep No W w [fN r' y',av vb 25 [ae m.w,ae m.h,.slice a n c],ak a n c 5 1 (flat bp m.cs)]->P6 tk (sZ r.p) (aZ vb) (IntKind.wrap .i64 (dd+1)) w):
  ∀(j i:Nat) (es:List Int) (w:World) (r':Bm) (y:vT),i+j=un->r'.p=r.p->Kz (k0+i) y.p m u->es.length=un->(∀q,q<i->gi es q=gi (jc m us) q)->
   Sep No W w [fN r' y,ak ia un ic 3 1 (flat one es),ak ua un uc 43 3 (flat gN us),av vb 25 [ae m.w,ae m.h,.slice a n c],ak a n c 5 1 (flat bp m.cs)]->
   o_ P6 Q (j+1) tk (sZ r.p) (aZ vb) dd ua un uc ia un ic (i:Int) w:=by
 intro j;induction j with
 |zero=>
  intro i es w r' y hi hr hq RC he s;show l7 _ _ _ _ _ _ _ _ _ _ _ _ _ _ _;unfold l7;rw[bj];have hUl:=(aG s (i:=2) rfl jM (by decide)).len;have hnu:=hq.nu;have hwh:=nv ⟨hnu.may.w,hnu.may.h⟩;have e:es=jc m us:=PJ (by unfold jc;rw[List.length_map];omega) λq hq=>he q (by omega);subst e;obtain⟨t1,t2⟩:=auA hq;rw[<-hr];refine X2 (o:=⟨7,0,0,[]⟩) hL (kj (by decide)) (λw' s'=>xl) (hq.I.sm (by omega)) s λr2 y2 ma mn mc ga gn gc an w er ey s=>?_;rw[t2]at s;rw[<-ey,BW]at t1;rw[BW]at s;refine lS s 6 rfl ?_;refine tg (f:=bw) (x0:=false) (size:=1) (bytes:=1) (ln:=n) (cn:=n) dU s rfl rfl rfl rfl rfl rfl (by decide) Xz rfl (λu hu=>awu false u hu) rfl rfl (Nat.le_refl _) (by omega) (by simp only[maxLen];omega) λxb w s=>?_;have WE:(cJ m.w m.h [] (us.zip (jc m us))).2.2.length=gn:=(aG s (i:=3) rfl bX (by decide)).len;have hml:=JI (w:=m.w) (h:=m.h) (us.zip (jc m us)) [];have hzl:(us.zip (jc m us)).length=us.length:=by have:=congrArg List.length (zip_fst (l:=us) (λu=>kQ m u.goal u.cell));rw[List.length_map]at this;exact this
  refine⟨un+1,aqh hnu.may (by rw[<-BW];exact hnu.us) hn hun rfl rfl rfl (λws w s=>?_) un 0 _ w (by omega) ⟨List.length_replicate,λc hc=>?_⟩ s⟩
  ·obtain⟨x,hx,ex⟩:=ant t1.us;have s:=pk 9 [4,7,8] s;rw[hr]at er;rw[hr,<-er];refine HB hx s λa1 n1 c1 w s=>?_;have hl:=(aG s (i:=0) rfl jM (by decide)).len;rw[ex]at hl;have hl:(cJ m.w m.h [] (u.us.zip (jc m us))).1.length=n1:=hl;rw[BW]at hl;simp only[List.length_nil]at hml;rw[xO (by rw[aH];omega),cond_false,er];exact next r2 y2 w er (t1.mono (by omega)) (ai s)
  ·unfold gb;rw[List.getD_eq_getElem?_getD,List.getElem?_replicate];split<;>rfl
 |succ j ih=>
  intro i es w r' y hi hr hq RC he s;show l7 _ _ _ _ _ _ _ _ _ _ _ _ _ _ _;unfold l7;rw[bM];have hnu:=hq.nu;have hU:=aG s (i:=2) rfl jM (by decide);have hUl:=hU.len;have x8:us[i]? =some (us[i]'(by omega)):=List.getElem?_eq_getElem _;generalize us[i]'(by omega)=v at x8;have Er:=hnu.us.at_ v (by rw[BW];exact List.mem_of_getElem? x8);have Ob:gi (jc m us) i=kQ m v.goal v.cell:=by unfold gi jc;rw[List.getD_eq_getElem?_getD,List.getElem?_map,x8];rfl
  have hr1:=Er.1.2;have rd:∀{w'} (_:Sl w' ua un uc 3 gN us) {K:Addr->Prop},(∀p:Addr,w'.cell? ((p.add ((i:Int).toNat*3)).add 1)=some (ae v.cell)->w'.cell? ((p.add ((i:Int).toNat*3)).add 2)=some (ae v.goal)->K p)->aJ (i:Int) un (wA ua K):=λ{w'} hU {K} g=>
   hU.El rfl (by omega) λp x hx hc=>by rw[x8]at hx;cases hx;exact g p (hc 1 _ rfl) (hc 2 _ rfl)
  have s:=ay s;refine rd (aG s (i:=2) rfl jM (by decide)) λp c1 c2=>aL c2 ?_;refine rd (aG s (i:=2) rfl jM (by decide)) λp c1 c2=>aL c1 ?_;rw[<-hr];refine ahm hL hq (by omega) Er.2 Er.1 s λr2 y2 w er hq2 s=>?_;rw[Bool.not_true,cond_false];have s:=ay s;refine rd (aG s (i:=2) rfl jM (by decide)) λp c1 c2=>aL c1 ?_;rw[bj];refine rd (aG s (i:=2) rfl jM (by decide)) λp c1 c2=>aL c1 ?_;refine lS s 3 rfl ?_;rw[bj];refine Ad bX s (i:=1) (k:=i) (x':=kQ m v.goal v.cell) rfl rfl (by omega) rfl rfl λw s=>?_;rw[F_ (by omega),hr];refine ih (i+1) _ w r2 y2 (by omega) (er.trans hr) (hq2.mono (by omega)) (by rw[List.length_set];exact RC) (λq hq=>?_) s;rw[Vy (by omega)];split
  ·rename_i e;rw[e,Ob]
  ·exact he q (by omega)
def ase {Q:Bool->World->Prop}(hL:iL W lg)(hn:(n:Int)=m.w*m.h)(hQ:∀w',Sep No W w' []->Q true w'):
  ∀(j:Nat) (d:Int) (u:rI) (w:World) (r:Bm) (y:vT),d+j=0+tk%(6-0+1)->0<=d->Kz (100+1000000*d) y.p m u->Sep No W w [fN r y,av vb 25 [ae m.w,ae m.h,.slice a n c],ak a n c 5 1 (flat bp m.cs)]->
   p_ Q (j+1) tk (sZ r.p) (aZ vb) d w:=by
 intro j;induction j with
 |zero=>
  intro d u w r y hd h0 hq s;show mS _ _ _ _ _ _ _;unfold mS;refine Hp.cj (by decide) (by decide) (by decide) ?_;rw[bj];refine akQ (hL.fr (au s)) s λw s _=>?_;exact hQ w (bW (bh (F:=No)) (au s))
 |succ j ih=>
  intro d u w r y hd h0 hq s;show mS _ _ _ _ _ _ _;unfold mS;refine Hp.cj (by decide) (by decide) (by decide) ?_;rw[bM];obtain⟨x,hx,ex⟩:=ant hq.us;have hnu:=hq.nu;have hmo:=hq.I.mo;have hlen:=hnu.len;refine HB hx s λua un uc w s=>?_;rw[ex]at s;have hl:=(aG s (i:=0) rfl jM (by decide)).len;refine tg (f:=one) (x0:=0) (size:=1) (bytes:=8) (ln:=un) (cn:=un) dU s rfl rfl rfl rfl rfl rfl (by decide) bX rfl (λu hu=>C6 0 u hu) rfl rfl (Nat.le_refl _) (by omega) (by simp only[maxLen];omega) λib w s=>?_;have s:=pk 5 [2,0,1,3,4] s;refine⟨un+1,aqi (r:=r) (k0:=100+1000000*d) hL rfl hn (by omega) (by omega) (λr' y' w er I_ s=>?_) un 0 _ w r y (by omega) rfl (hq.mono (by omega)) List.length_replicate (λq hq=>by omega) s⟩;rw[aH,<-er];exact ih (d+1) _ w r' y' (by omega) (by omega) (I_.mono (by omega)) s
def aff {Q:Bool->World->Prop}{mw mh:Int}{cs:List Int}{xs:List yd}(hL:iL W lg)(hC:Sl W ca cn cc 1 bp cs)(hcs:ef cs)(Rj:cn<9223372036854775808)(hA:Sl W la ln lc 3 O.abh xs)(hQ:∀w',Sep No W w' []->Q true w'):
  A6 mw mh ca cn cc la ln lc tk W Q:=by
 refine Kg _ _ _ _ _ _ _ _ _ _ _ ?_;refine ap5 (k:=25) hA λa1 c1 hA=>?_;refine aj6 (by decide) (by decide) hL hC hcs Rj hA (by omega) λr y m u w hq _ s=>lC ?_;refine akR hq s λvb ra rn rc w hrn s=>?_;have h1:=Int.emod_nonneg tk (b:=6-0+1) (by omega);have s:=pk 3 [2,0,1] s;exact⟨(0+tk%(6-0+1)).toNat+1,ase hL hrn hQ (0+tk%(6-0+1)).toNat 0 u w r y (by omega) (by omega) hq s⟩
end
end Go.Proofs.YtmegplnmiepfbaaGreatDoor.S
namespace Go.Proofs.YtmegplnmiepfbaaGreatDoor.S
open Go.Sx
abbrev two (N c0 c1:Int):List aP:=[⟨0,c0,N-1⟩,⟨1,c1,0⟩]
end Go.Proofs.YtmegplnmiepfbaaGreatDoor.S
set_option maxRecDepth 20000
namespace Go.Proofs.YtmegplnmiepfbaaGreatDoor.S
open Go.Sx
attribute [local irreducible] af cD bz bg aA cy b_ St Bx Al App cK cE cB bV aN bG aq bT av ak aW mapA
end Go.Proofs.YtmegplnmiepfbaaGreatDoor.S
namespace Go.Sx
open Go.ChangeShapes Go.WideShapes Go.RowKit
def aqj (X:World->Prop)(P:Program)(f:FuncId)(Vr:List Sh):Prop:=
 ∀(W:World) (args:List Value),X W->Ak W Vr args->aq P f args.toArray W λv W'=>dB v λr=>r=true/\Below W.heap.size W W'
def awE {H:Type}{enc:TypeId×Value->H}{C:Checked}{os:Os}{f:FuncId}{fn:Func}{s:ChangeSpec}{conds:List PathCond}{ts:List TypeId}{Vr:List Sh}{tb:TypeId}{fuel:Nat}{X:World->Prop}
  (hX:∀w w':World,w.heap=w'.heap->X w->X w')
  (own:ownKnob C.prog.godebug=none)(started:os.Started)(noInit:C.prog.inits.idxOf? f=none)(hfn:C.prog.funcs[f]? =some fn)
  (witness:∃(w:World) (tape:Tape) (i:Input),w.os=os/\(w.forCall tape i).Shaped C.prog/\i.vars=[]/\Input.okWide C.prog (w.forCall tape i) .any w.heap.size f i/\
   ((s.pre enc C.prog fn conds false (w.forCall tape i).memory i.args/\X (w.forCall tape i).memory)/\sizedMet enc C.prog fn (OpenSpec.ofChange s) false (w.forCall tape i).memory i.args)/\({}:Assume).holds C.prog (lone (Frame.enter C.prog f i.args .normal) [] (w.forCall tape i)))
  (hl:laidOutB C.prog=true)(hts:fn.params.toList=ts)(azy:ts.map (Lu C.prog fuel)=Vr.map some)(hrd:(ts.all λt=>C.prog.readableRec t&&decide (t<C.prog.types.size))=true)
  (hvars:s.vars=[])(hres:fn.resultTypes=#[tb])(htb:C.prog.underlying tb=some .bool)
  (hspec:∀(ds:List (DataW H)),ds.length=ts.length->s.fn H ds={results:=[.lit (.bool true)],args:=ds})
  (law:aqj X C.prog f Vr):
  ReturnsInHanded {} C os f .any (λw args=>(s.pre enc C.prog fn conds false w args/\X w)/\sizedMet enc C.prog fn (OpenSpec.ofChange s) false w args) (s.post enc C.prog fn false true false false):=by
 apply returnsInHanded_of_change_and (λw w' _ hh h=>hX w w' hh h) own started noInit hfn witness;intro W base args ds gs before hval hW _ _ hXW _;have hW':=hW;obtain⟨p,q,hA,hV,rfl,hfz,hnd⟩:=hW;rw[hvars]at hV;obtain⟨rfl,rfl⟩:=trodVars_none hV;rw[hts]at hA;have awz:=ahZ azy (λj t v ht hv=>hval j t v (by grind) (by grind)) hA;have hlt:∀x∈p,x.block<W.heap.size:=λx hx=>hW'.lt x (by simp[hx]);have hc:=law W args.toList hXW awz;unfold aq at hc;refine hc.mono λe W' he=>?_;cases e with
 |returned v=>
  obtain⟨r,rfl,rfl,bel⟩:=HV he;have hsp:=hspec ds (PE hA);refine⟨_,rfl,ds,[],p++[],[],p,[],hW',?_,?_,?_,bel.frame _,λh=>by cases h⟩
  ·rw[List.append_nil,hsp,hres];exact trodAll_mk1 (shut_bool htb _)
  ·rw[List.append_nil,hsp,hts];exact TU hl bel hrd hA hlt
  ·rw[List.append_nil,hsp,hvars];simp[DataW.TrodVars]
 |_=>exact he.elim
end Go.Sx
namespace Go.Proofs.YtmegplnmiepfbaaGreatDoor.S
open Go.Sx
def atf: "*"++ "errors.errorString"= "*errors.errorString":=by decide
def azz (u:TypeId)(h:P.typeName? 3 u=some "*errors.errorString"):u=401:=
 typeName_ptr_named (by rw[atf];kernel_rfl) (by kernel_rfl) (by decide) u (by rw[atf];exact h)
def awA:P.cellsOf 422=1:=by kernel_rfl
def asf:P.cellsOf 9=1:=by kernel_rfl
def RowsIn (W:World)(ps:List MemPlace):Prop:=∀b off,MemPlace.cell b off∈ps->(∃c t,W.heap[b]? =some (.cells c t (0,0)))/\∀u v,W.cell? ⟨b,off,none⟩=some (.iface u v)->Value.okWide P W .any 0 u v
set_option maxRecDepth 100000 in
theorem IK {W:World}{n:String}{g:Nat}{text:List UInt8}{rest:List (String×DataW Unit)}{ps:List MemPlace}(hg:P.globalNamed n=some g)(ht:(P.globals[g]?).map (·.type)=some 74)
  (h:DataW.LaidVars P W ((n,.iface "*errors.errorString" (.ptr (.agg [.lit (.string text)])))::rest) ps)(hr:RowsIn W ps):
  ∃a q,W.cell? ⟨g,0,none⟩=some (.iface 401 (.pointer (some a)))/\(∃c t,W.heap[a.block]? =some (.cells c t (0,0)))/\DataW.LaidVars P W rest q/\RowsIn W q/\ps=.cell g 0::.cell a.block a.off::q:=by
 obtain⟨g0,t0,cs,f,p,q,hg0,ht0,hv,hd,hq,rfl⟩:=h;obtain rfl:=Option.some.inj (hg.symm.trans hg0);obtain rfl:=Option.some.inj (ht.symm.trans ht0);obtain⟨l⟩:=cs;have ok:∀u v,l=[.iface u v]->Value.okWide P W .any 0 u v:=λu v e=>by subst e;exact(hr g 0 (by simp[MemPlace.row])).2 u v (by simpa using World.var?_cell hg hv 0)
 obtain⟨a,s,rfl,hc,hs,hz,rfl⟩:=errorString_of_trod Go.Proofs.Tryz.underlying74 azz Go.Proofs.Tryz.underlying401 Go.Proofs.Tryz.underlying422 rfl rfl Go.Proofs.Tryz.underlying9 awA asf hd ok;refine⟨a,q,by simpa using World.var?_cell hg hv 0,(hr a.block a.off (by simp[MemPlace.row])).1,hq,λb off hm=>hr b off (by simp[hm]),by simp[MemPlace.row]⟩
def anw:List (String×DataW Unit):=[("errors.errorType",Rows.laid_errors_errorType),("herdsman/pack.errEnd",Rows.laid_herdsman_pack_errEnd),("herdsman/pack.errForm",Rows.laid_herdsman_pack_errForm),("herdsman/nav.errNoMap",Rows.laid_herdsman_nav_errNoMap),("herdsman/nav.errBounds",Rows.laid_herdsman_nav_errBounds),("herdsman/nav.errField",Rows.laid_herdsman_nav_errField),("herdsman/svc.errScript",Rows.laid_herdsman_svc_errScript)]
def g1:P.globalNamed "errors.errorType"=some 1:=by kernel_rfl
def rtT:(P.cutTypes.find? (·.1== "internal/reflectlite.rtype")).map (·.2)=some 219:=by kernel_rfl
def awB:((List.range P.types.size).filter λt=>P.rowNamed t [101,114,114,111,114])=[74]:=by kernel_rfl
set_option maxRecDepth 100000 in
theorem asg {W:World}(h:laidMetH P anw W):∃lg,iL W lg:=by
 have h':laidMet P [("herdsman/pack.errEnd",Rows.laid_herdsman_pack_errEnd),("herdsman/pack.errForm",Rows.laid_herdsman_pack_errForm),("herdsman/nav.errNoMap",Rows.laid_herdsman_nav_errNoMap),("herdsman/nav.errBounds",Rows.laid_herdsman_nav_errBounds),("herdsman/nav.errField",Rows.laid_herdsman_nav_errField),("herdsman/svc.errScript",Rows.laid_herdsman_svc_errScript)] W/\handlesMet P [("errors.errorType",Rows.laid_errors_errorType)] W:=h;obtain⟨⟨ps,hv,hnd,hr⟩,hh⟩:=h';obtain⟨name,u,ty,e1,e2,e3,e4,e5⟩:=hh _ (List.mem_singleton.2 rfl);have en:=(Option.some.inj e1).symm;subst en;obtain rfl:=Option.some.inj (rtT.symm.trans e2);have hm:ty∈(List.range P.types.size).filter λt=>P.rowNamed t [101,114,114,111,114]:=List.mem_filter.2 ⟨List.mem_range.2 e3,e4⟩;rw[awB]at hm;obtain rfl:=List.mem_singleton.1 hm;have ht:typeHandle P 74=.pointer (some ⟨8,74,none⟩):=by kernel_rfl
 rw[ht]at e5;have hr:=hr;obtain⟨a6,q6,v6,b6,hv1,hr1,k6⟩:=IK (g:=6) (by kernel_rfl) (by kernel_rfl) hv hr;obtain⟨a5,q5,v5,b5,hv2,hr2,k5⟩:=IK (g:=5) (by kernel_rfl) (by kernel_rfl) hv1 hr1;obtain⟨a2,q2,v2,b2,hv3,hr3,k2⟩:=IK (g:=2) (by kernel_rfl) (by kernel_rfl) hv2 hr2;obtain⟨a3,q3,v3,b3,hv4,hr4,k3⟩:=IK (g:=3) (by kernel_rfl) (by kernel_rfl) hv3 hr3;obtain⟨a4,q4,v4,b4,hv5,hr5,k4⟩:=IK (g:=4) (by kernel_rfl) (by kernel_rfl) hv4 hr4;obtain⟨a0,q0,v0,b0,hv6,hr6,k0⟩:=IK (g:=0) (by kernel_rfl) (by kernel_rfl) hv5 hr5;subst k0 k4 k3 k2 k5 k6;refine⟨⟨a0,a2,a3,a4,a5,a6⟩,v0,by simpa[rt]using World.var?_cell g1 e5 0,v2,v3,v4,v5,v6,?_,?_,b2,b3,b5,b6⟩
 all_goals grind
end Go.Proofs.YtmegplnmiepfbaaGreatDoor.S
namespace Go.Proofs.YtmegplnmiepfbaaGreatDoor.S
open Go.Sx
def awC:Sh:=.agg 3 [(0,1,.int .i64),(1,1,.int .i64),(2,1,.int .i64)]
def ash {W:World}{v:Value}(h:RdV W (.sl 3 awC) v):∃a n c xs,v=.slice a n c/\n<=maxLen/\Sl W a n c 3 O.abh xs:=by
 obtain⟨a,n,c,xs,rfl,k1,k2,k3,k4,k5⟩:=akZ (f:=O.abh) (Pr:=λ_=>True) (λes hl he=>by
  obtain⟨_,he⟩:=auT he
  match es,hl with
  |[v0,v1,v2],_=>
   obtain⟨k0,he⟩:=ZD he;obtain⟨k1,he⟩:=ZD he;obtain⟨k2,he⟩:=ZD he;obtain⟨x0,rfl,_⟩:=Vs k0;obtain⟨x1,rfl,w1⟩:=Vs k1;obtain⟨x2,rfl,w2⟩:=Vs k2;exact⟨⟨x0,x1,x2⟩,rfl,trivial⟩) h
 exact⟨a,n,c,xs,rfl,by omega,k4,k1,k3⟩
def awD:aqj (laidMetH P anw) P 8 [.int .i64,.int .i64,.sl 1 (.int .u8),.sl 3 awC,.int .i64]:=by intro W args hX h;obtain⟨lg,hL⟩:=asg hX;obtain⟨v0,r,rfl,h0,h⟩:=Ak.cons h;obtain⟨v1,r,rfl,h1,h⟩:=Ak.cons h;obtain⟨v2,r,rfl,h2,h⟩:=Ak.cons h;obtain⟨v3,r,rfl,h3,h⟩:=Ak.cons h;obtain⟨v4,r,rfl,h4,h⟩:=Ak.cons h;obtain rfl:=Ak.nil h;obtain⟨x0,rfl,_⟩:=adC h0;obtain⟨x1,rfl,_⟩:=adC h1;obtain⟨a,n,c,cs,rfl,q1,q2,q3,q4,q5⟩:=aqI h2;obtain⟨b,m,d,xs,rfl,k1,k2⟩:=ash h3;obtain⟨x4,rfl,_⟩:=adC h4;exact aff (Q:=λr W'=>r=true/\Go.RowKit.Below W.heap.size W W') hL ⟨q4,q1,q3⟩ (λx hx=>wf_u8 (q5 x hx)) (by simp only[maxLen]at*;omega) k2 λw' s=>⟨rfl,anX s⟩
def afg (l:List UInt8):Obj:=.cells #[.string {data:=l.toArray}] 422 (0,0)
noncomputable def low:Nat:=(World.holding P default ⟨#[],#[],[]⟩).heap.size
def abi (v:Value):Obj->Obj
 |.cells _ t fz=>.cells #[v] t fz
 |o=>o
noncomputable def afh (k:Nat):Value:=.iface 401 (.pointer (some ⟨low+k,0,none⟩))
noncomputable def axv (os:Os):World:=
 let w0:=World.holding P os ⟨#[afg [116,104,101,32,98,121,116,101,115,32,101,110,100],afg [110,111,98,111,100,121,32,119,114,105,116,101,115,32,115,111],afg [116,104,101,114,101,32,105,115,32,110,111,32,109,97,112],
  afg [116,104,101,114,101,32,105,115,32,110,111,32,115,117,99,104,32,99,101,108,108,32,111,114,32,115,101,99,116,111,114],afg [116,104,101,114,101,32,105,115,32,110,111,32,115,117,99,104,32,102,105,101,108,100],afg [110,111,98,111,100,121,32,119,114,105,116,101,115,32,115,111]],#[],[]⟩
 {w0 with heap:=((((((w0.heap.modify 0 (abi (afh 5))).modify 1 (abi (.iface 219 (rt 74)))).modify 2 (abi (afh 2))).modify 3 (abi (afh 3))).modify 4 (abi (afh 4))).modify 5 (abi (afh 1))).modify 6 (abi (afh 0))}
set_option maxRecDepth 100000 in
theorem ayp (os:Os)(args:Array Value):laidMetH P anw ((axv os).forCall (λ_ _=>0) ⟨#[],args,[]⟩).memory:=
 laidMetH_of_parts (laidMet_of_run (ps:=[.cell 6 0,.cell low 0,.cell 5 0,.cell (low+1) 0,.cell 2 0,.cell (low+2) 0,.cell 3 0,.cell (low+3) 0,.cell 4 0,.cell (low+4) 0,.cell 0 0,.cell (low+5) 0]) 8 (by kernel_rfl) (by kernel_rfl) (by kernel_rfl)) (by kernel_rfl)
end Go.Proofs.YtmegplnmiepfbaaGreatDoor.S
