/- Part 6 of the proof. -/
import Derived.Test.YtmegplnmiepfbaaGreatDoorI4
import Derived.Test.YtmegplnmiepfbaaGreatDoorRows
import Derived.LaidLaws
import Derived.LaidHandle
import Derived.ChangeSame
import Derived.JoinedOf
set_option linter.unusedVariables false
set_option linter.unusedSimpArgs false
set_option linter.defProp false
namespace Go.Proofs.YtmegplnmiepfbaaGreatDoor.S.O
open Go.Sx
attribute [local irreducible] af cv bz bg aA cw bZ St Bx Al App cH cy cD bU aM bF aq bS av ak aW mapA
def aeA (x:yU):List Value:=[ae x.k,ae x.a,ae x.b]
section
variable {F:Nat->Prop}{W w w0:World}{L:List As}{mw mh:Int}{ca la oa ra:Option Addr}{cn cc ln lc mb on oc rn rc i:Nat}{cs:List Int}{xs:List yU}{x:yU}{m:bM}{es:List (FG×kS)}{Q:Option Addr->Nat->Nat->World->Prop}
variable {P5:Int->Int->Option Addr->Nat->Nat->Option Addr->Nat->Nat->Addr->Option Addr->Nat->Nat->Int->Int->World->Prop}
def aaE (w:World)(a:Option Addr)(n c:Nat)(vs:List FG)(os:List kS):Prop:=Sl w a n c 4 GA vs/\os.length=n/\∀(i:Nat) (v:FG) (o:kS),vs[i]? =some v->os[i]? =some o->OpV w v o
def amI {F:Nat->Prop}{W w:World}{L:List As}{oa:Option Addr}{on oc:Nat}{es:List (FG×kS)}(s:Sep F W w (ak oa on oc 38 4 (flat GA (es.map (·.1)))::EC es::L)):aaE w oa on oc (es.map (·.1)) (es.map (·.2)):=by have h1:=aK s (i:=0) rfl asV (by decide);have hl:=h1.len;refine⟨h1,by grind,λi v o hv ho=>?_⟩;obtain⟨h2,s2⟩:=gR (ai s);rw[List.getElem?_map]at hv ho;obtain⟨e,he,rfl⟩:=Option.map_eq_some_iff.1 hv;rw[he]at ho;cases ho;have ha:=h2 e (List.mem_of_getElem? he);exact⟨ha.k,ha.A,ha.B,aK s2 (i:=i) (by rw[List.getElem?_append_left (by grind),List.getElem?_map,he];rfl) dO (by decide),ha.jO⟩
def aaE.El {w:World}{a:Option Addr}{n c:Nat}{vs:List FG}{os:List kS}{o:kS}{idx:Int}{k:Nat}{K:Addr->Prop}(h:aaE w a n c vs os)(hk:idx=k)(ho:os[k]? =some o)
  (hK:∀p va vn vc,vs[k]? =some ⟨o.k,o.A,o.B,va,vn,vc⟩->(∀(j:Nat) u,(GA ⟨o.k,o.A,o.B,va,vn,vc⟩)[j]? =some u->w.cell? ((p.add (idx.toNat*4)).add j)=some u)->K p):aH idx n (wA a K):=by
 obtain⟨h1,h2,h3⟩:=h;have hn:k<n:=by grind
 refine h1.El hk hn λp v hv hc=>?_;obtain⟨k1,A1,B1,va,vn,vc⟩:=v;obtain⟨e1,e2,e3,_⟩:=h3 k _ o hv ho;grind
def mdL (oa:Option Addr)(on oc:Nat)(es:List (FG×kS))(mb:Nat)(m:bM)(ra:Option Addr)(rn rc:Nat):List As:=
 [ak oa on oc 38 4 (flat GA (es.map (·.1))),EC es,av mb 25 [ae m.w,ae m.h,.slice ra rn rc],ak ra rn rc 5 1 (flat bu m.cs)]
def ajq {ob:Nat}{v:FG}{o:kS}{nn:Int}{rest:List As}(ha:agK (v,o))(Cs:on<=1000)(hi:i<=1000)
  (s:Sep No w0 w (av ob 38 (GA v)::ak v.a v.n v.c 5 1 (flat bu o.m)::ak oa on oc 38 4 (flat GA (es.map (·.1)))::EC es::rest))
  (next:∀a' c' w',Sep No w0 w' (ak a' (on+1) c' 38 4 (flat GA ((es++[(v,o)]).map (·.1)))::EC (es++[(v,o)])::rest)->P5 mw mh ca cn cc la ln lc (aZ mb) a' (on+1) c' nn ((i+1:Nat):Int) w'):
  cO P5 Q mw mh ca cn cc la ln lc (aZ mb) oa on oc nn i (aZ ob) w:=by
 apply lI s 0 rfl;apply lI s 0 rfl;apply lI s 0 rfl;apply lS s 0 rfl;have s:=ck (ai s) (List.Perm.trans (List.Perm.swap ..) (List.Perm.cons _ (List.Perm.swap ..)));rw[aG];exact awc s ha (by omega) λa' c' w s=>next a' c' w s
attribute [local irreducible] cO in
theorem awK {ob xb:Nat}(hC:Sl w0 ca cn cc 1 bu cs)(hcs:eA cs)(V2:cn<9223372036854775808)(hm:cW m)(Cs:on<=1000)(hi:i<=1000)
  (s:Sep No w0 w (av ob 38 [ae 0,ae (gj x.a 0 ((m.cs.length:Int)-1)),ae (gj x.b 0 ((m.cs.length:Int)-1)),.slice none 0 0]::av xb 90 (aeA x)::mdL oa on oc es mb m ra rn rc))
  (next:∀(m':bM) v o a' c' ra' rn' rc' w',wu mw mh cs m x=(o,m')->Sep No w0 w' (mdL a' (on+1) c' (es++[(v,o)]) mb m' ra' rn' rc')->P5 mw mh ca cn cc la ln lc (aZ mb) a' (on+1) c' (m'.cs.length:Int) ((i+1:Nat):Int) w'):
  jz P5 Q mw mh ca cn cc la ln lc (aZ mb) oa on oc (m.cs.length:Int) i (aZ xb) (aZ ob) w:=by
 have hms:=K0 hm;have arD:=Is (x:=x.b%256) (by omega);have ask:=next
 unfold wu at ask;apply lI s 1 rfl;apply cI (by decide) (by decide) (by decide);have ek:0+x.k%(15-0+1)=gj x.k 0 15:=rfl;rw[ek];have t:∀{a b:Int},a=b->(a==b)=true:=λh=>by rw[beq_iff_eq];exact h
 have f:∀{a b:Int},a≠b->(a==b)=false:=λh=>by rw[beq_eq_false_iff_ne];exact h
 have plain:∀(k A B:Int) (w:World) (L':List As) (js:List Nat),wu mw mh cs m x=(⟨k,A,B,[]⟩,m)->js.Nodup->js.map (λi=>L'[i]?)=[some (av ob 38 [ae k,ae A,ae B,.slice none 0 0]),some (ak oa on oc 38 4 (flat GA (es.map (·.1)))),some (EC es),some (av mb 25 [ae m.w,ae m.h,.slice ra rn rc]),some (ak ra rn rc 5 1 (flat bu m.cs))]->
   Sep No w0 w L'->cO P5 Q mw mh ca cn cc la ln lc (aZ mb) oa on oc (m.cs.length:Int) i (aZ ob) w:=by
  intro k A B w L' js e hnd hpk s;have s:=cm (L':=[_,_,_,_,_]) js s hpk hnd;have s:=ck (bG s 5 1) (List.Perm.swap ..);exact ajq (v:=⟨k,A,B,none,0,0⟩) ⟨rfl,rfl,rfl,eA.nil⟩ Cs hi s λa' c' w s=>next _ _ _ a' c' ra rn rc w e s
 have b14:(gj x.k 0 15=0\/gj x.k 0 15=1\/gj x.k 0 15=2)->ng P5 Q mw mh ca cn cc la ln lc (aZ mb) oa on oc (m.cs.length:Int) i (aZ ob) w:=by intro h;refine ax s (i:=0) rfl rfl rfl λw s=>?_;exact plain _ _ _ w _ [0,2,3,4,5] (by unfold wu;simp only;rw[if_pos h]) (by decide) rfl s
 have b21:(gj x.k 0 15=5\/gj x.k 0 15=6)->qE P5 Q mw mh ca cn cc la ln lc (aZ mb) oa on oc (m.cs.length:Int) i (aZ xb) (aZ ob) w:=by intro h;apply lI s 1 rfl;rw[wrap_u8'];apply Rl (by omega);rw[aG];refine sT s 0 rfl λw s=>?_;refine ax s (i:=0) rfl rfl rfl λw s=>?_;exact plain _ _ _ w _ [0,2,3,4,5] (by unfold wu;simp only;rw[fU,fU,fU,if_pos h]) (by decide) rfl s
 by_cases k0:gj x.k 0 15=0
 ·rw[t k0,cond_true];exact b14 (.inl k0)
 rw[f k0,cond_false];by_cases k1:gj x.k 0 15=1
 ·rw[t k1,cond_true];exact b14 (.inr (.inl k1))
 rw[f k1,cond_false];by_cases k2:gj x.k 0 15=2
 ·rw[t k2,cond_true];exact b14 (.inr (.inr k2))
 rw[f k2,cond_false];by_cases k3:gj x.k 0 15=3
 ·rw[t k3,cond_true];apply lI s 1 rfl;apply cI (by decide) (by decide) (by decide);refine sT s 0 rfl λw s=>?_;refine ax s (i:=0) rfl rfl rfl λw s=>?_;exact plain _ _ _ w _ [0,2,3,4,5] (by unfold wu;simp only;rw[fU,if_pos k3];rfl) (by decide) rfl s
 rw[f k3,cond_false];by_cases k4:gj x.k 0 15=4
 ·rw[t k4,cond_true];apply lI s 1 rfl;apply cI (by decide) (by decide) (by decide);refine sT s 0 rfl λw s=>?_;refine sT s 0 rfl λw s=>?_;refine ax s (i:=0) rfl rfl rfl λw s=>?_;exact plain _ _ _ w _ [0,2,3,4,5] (by unfold wu;simp only;rw[fU,fU,if_pos k4];rfl) (by decide) rfl s
 rw[f k4,cond_false];by_cases k5:gj x.k 0 15=5
 ·rw[t k5,cond_true];exact b21 (.inl k5)
 rw[f k5,cond_false];by_cases k6:gj x.k 0 15=6
 ·rw[t k6,cond_true];exact b21 (.inr k6)
 rw[f k6,cond_false];by_cases k7:gj x.k 0 15=7
 ·rw[t k7,cond_true];refine ax s (i:=0) rfl rfl rfl λw s=>?_;exact plain _ _ _ w _ [0,2,3,4,5] (by unfold wu;simp only;rw[fU,fU,fU,fU,if_pos (.inl k7)]) (by decide) rfl s
 rw[f k7,cond_false];by_cases k8:gj x.k 0 15=8
 ·rw[t k8,cond_true];refine ax s (i:=0) rfl rfl rfl λw s=>?_;exact plain _ _ _ w _ [0,2,3,4,5] (by unfold wu;simp only;rw[fU,fU,fU,fU,if_pos (.inr k8)]) (by decide) rfl s
 rw[f k8,cond_false];by_cases k9:gj x.k 0 15=9
 ·rw[t k9,cond_true];refine sT s 0 rfl λw s=>?_;refine sT s 0 rfl λw s=>?_;refine sT s 0 rfl λw s=>?_;refine ax s (i:=0) rfl rfl rfl λw s=>?_;exact plain _ _ _ w _ [0,2,3,4,5] (by unfold wu;simp only;rw[fU,fU,fU,fU,fU,if_pos k9]) (by decide) rfl s
 rw[f k9,cond_false];by_cases k10:gj x.k 0 15=10
 ·rw[t k10,cond_true];apply lI s 1 rfl;refine⟨by decide,?_⟩;by_cases h4:Int.tmod x.a 4=0
  ·rw[t h4,cond_true];apply lI s 1 rfl;refine⟨by decide,?_⟩;apply lI s 1 rfl;have hm':=EP (w:=IntKind.wrap .i64 (mw+IntKind.wrap .i64 (Int.tdiv x.a 4))) (h:=IntKind.wrap .i64 (mh+x.b)) hcs;refine YS s (hC.fr (au s)) hcs V2 λna nn nc w s _=>?_;have e:wu mw mh cs m x=(Ew (vN (IntKind.wrap .i64 (mw+IntKind.wrap .i64 (Int.tdiv x.a 4))) (IntKind.wrap .i64 (mh+x.b)) cs),vN (IntKind.wrap .i64 (mw+IntKind.wrap .i64 (Int.tdiv x.a 4))) (IntKind.wrap .i64 (mh+x.b)) cs):=by rw[wu,fU,fU,fU,fU,fU,fU,if_pos k10,if_pos h4]
   generalize vN (IntKind.wrap .i64 (mw+IntKind.wrap .i64 (Int.tdiv x.a 4))) (IntKind.wrap .i64 (mh+x.b)) cs=m' at*;refine sT s 5 rfl λw s=>?_;refine sT s 5 rfl λw s=>?_;refine ax s (i:=5) rfl rfl rfl λw s=>?_;apply lS s 5 rfl;apply lI s 5 rfl;apply lI s 5 rfl;apply lS s 5 rfl;have hN:=aK s (i:=0) rfl dO (by decide);have hNl:=hN.len;refine JT s hN hm' λpa pn pc w s _=>?_;refine sT s 2 rfl λw s=>?_;refine sT s 2 rfl λw s=>?_;refine sT s 2 rfl λw s=>?_;refine ax s (i:=2) rfl rfl rfl λw s=>?_;have s:=cm (L':=[_,_,_,_,_,_]) [2,0,4,5,6,1] s rfl (by decide);rw[<-hNl];exact ajq (v:=⟨1,0,0,pa,pn,pc⟩) ⟨rfl,rfl,rfl,(F8 hm').1⟩ Cs hi s λa' c' w s=>by exact next m' _ _ a' c' na nn nc w e s
  ·rw[f h4,cond_false];apply lI s 1 rfl;apply cI (by decide) (by decide) (by decide);have e20:0+x.b%(200-0+1)=gj x.b 0 200:=rfl;rw[e20,aG];refine sT s 0 rfl λw s=>?_;refine sT s 0 rfl λw s=>?_;refine sT s 0 rfl λw s=>?_;refine ax s (i:=0) rfl rfl rfl λw s=>?_;exact plain _ _ _ w _ [0,2,3,4,5] (by unfold wu;simp only;rw[fU,fU,fU,fU,fU,fU,if_pos k10,if_neg h4]) (by decide) rfl s
 rw[f k10,cond_false];by_cases k11:gj x.k 0 15=11
 ·rw[t k11,cond_true];apply lI s 1 rfl;apply lI s 1 rfl;apply lI s 1 rfl;refine amH s (by omega) λpa pn pc w s _=>?_;refine sT s 1 rfl λw s=>?_;refine sT s 1 rfl λw s=>?_;refine sT s 1 rfl λw s=>?_;refine ax s (i:=1) rfl rfl rfl λw s=>?_;have s:=cm (L':=[_,_,_,_,_,_]) [1,0,3,4,5,6] s rfl (by decide);have ayR:=anj (x:=x) (n:=m.cs.length) (by omega);exact ajq (v:=⟨_,_,_,pa,pn,pc⟩) (o:=KZ x m.cs.length) ⟨rfl,rfl,rfl,ayR.jO⟩ Cs hi s λa' c' w s=>
   next m _ _ a' c' ra rn rc w (by unfold wu;simp only;rw[fU,fU,fU,fU,fU,fU,if_neg k10,if_pos k11]) s
 rw[f k11,cond_false];refine sT s 0 rfl λw s=>?_;refine sT s 0 rfl λw s=>?_;refine sT s 0 rfl λw s=>?_;refine ax s (i:=0) rfl rfl rfl λw s=>?_;exact plain _ _ _ w _ [0,2,3,4,5] (by unfold wu;simp only;rw[fU,fU,fU,fU,fU,fU,if_neg k10,if_neg k11]) (by decide) rfl s
attribute [local irreducible] jz in
theorem aeB (s0:Sep F W w0 L)(hC:Sl w0 ca cn cc 1 bu cs)(hcs:eA cs)(V2:cn<9223372036854775808)(hX:Sl w0 la ln lc 3 aeA xs)
  (h:∀oa on oc w' A,Sep F W w' (A::L)->Fr No w0 w'->(∃vs,∀{F' W' w2 L2},Sep F' W' w2 (A::L2)->aaE w2 oa on oc vs (Fm mw mh cs xs))->Q oa on oc w'):vh mw mh ca cn cc la ln lc w0 Q:=by
 apply LA;have hxl:=hX.len;have hm0:=EP (w:=mw) (h:=mh) hcs;refine YS (bt (F:=No)) hC hcs V2 λra rn rc w s _=>?_;refine aV s λmb w s=>?_;refine sT s 0 rfl λw s=>?_;refine sT s 0 rfl λw s=>?_;refine ax s (i:=0) rfl rfl rfl λw s=>?_;apply lI s 0 rfl;apply lI s 0 rfl;apply lS s 0 rfl;have hN:=aK s (i:=1) rfl dO (by decide);have hNl:=hN.len;refine JT s hN hm0 λpa pn pc w s _=>?_;refine aQ s λob w s=>?_;have s:=g_ (size:=4) s (i:=0) rfl rfl (by decide) (aku ⟨1,0,0,pa,pn,pc⟩);apply lS s 2 rfl;have s:Sep No w0 w (ak (sZ ob) 1 1 38 4 (flat GA ([((⟨1,0,0,pa,pn,pc⟩:FG),Ew (vN mw mh cs))].map (·.1)))::ak pa pn pc 5 1 (flat bu (Ew (vN mw mh cs)).m)::av mb 25 [ae (vN mw mh cs).w,ae (vN mw mh cs).h,.slice ra rn rc]::ak ra rn rc 5 1 (flat bu (vN mw mh cs).cs)::[]):=s;have s:=cm (L':=[_,_,_,_]) [1,0,2,3] s rfl (by decide);have s:=ae1 (v:=⟨1,0,0,pa,pn,pc⟩) (anw s) ⟨rfl,rfl,rfl,(F8 hm0).1⟩;have s:=ck s (List.Perm.swap ..);rw[<-hNl];have hyl:(xs.take 60).length=min 60 ln:=by grind
 have loop:∀(k i:Nat) (m:bM) (oa:Option Addr) (oc:Nat) (es:List (FG×kS)) (ra:Option Addr) (rn rc:Nat) (w:World),i+k=(xs.take 60).length->cW m->es.map (·.2)++Nl mw mh cs m ((xs.take 60).drop i)=Fm mw mh cs xs->
   Sep No w0 w (mdL oa (i+1) oc es mb m ra rn rc)->jA Q (k+1) mw mh ca cn cc la ln lc (aZ mb) oa (i+1) oc (m.cs.length:Int) i w:=by
  intro k;induction k with
  |zero=>
   intro i m oa oc es ra rn rc w hi hm he s;show nV Q (jA Q 0) _ _ _ _ _ _ _ _ _ _ _ _ _ _ _;unfold nV;have done:Q oa (i+1) oc w:=by rw[List.drop_eq_nil_of_le (by omega)]at he;simp[Nl,List.append_nil]at he;have k:=λ{F' W' w2 L2} (s:Sep F' W' w2 (aW True [ak oa (i+1) oc 38 4 (flat GA (es.map (·.1))),EC es]::L2))=>amI (gR s).2;rw[he]at k;exact h _ _ _ _ _ (dQ s0 (dA s trivial) (i:=0) rfl) (au s) ⟨_,k⟩
   grind
  |succ k ih=>
   intro i m oa oc es ra rn rc w hi hm he s;show nV Q (jA Q (k+1)) _ _ _ _ _ _ _ _ _ _ _ _ _ _ _;rw[nV,bN,bN];have hms:=K0 hm;have hx0:(xs.take 60)[i]? =some ((xs.take 60)[i]'(by omega)):=List.getElem?_eq_getElem _;have hd:(xs.take 60).drop i=(xs.take 60)[i]'(by omega)::(xs.take 60).drop (i+1):=List.drop_eq_getElem_cons (by omega);generalize (xs.take 60)[i]'(by omega)=x at hx0 hd;have Ni:xs[i]? =some x:=by
    rw[List.getElem?_take]at hx0;split at hx0
    ·exact hx0
    ·cases hx0
   rw[hd,Nl]at he;refine(hX.fr (au s)).El rfl (by omega) λpp y hy hc=>?_;rw[Ni]at hy;cases hy;apply aO (hc 0 _ rfl);apply aO (hc 1 _ rfl);apply aO (hc 2 _ rfl);have go:∀(w:World) (ob xb:Nat) (A B:Int),A=gj x.a 0 ((m.cs.length:Int)-1)->B=gj x.b 0 ((m.cs.length:Int)-1)->Sep No w0 w (av ob 38 [ae 0,ae A,ae B,.slice none 0 0]::av xb 90 (aeA x)::mdL oa (i+1) oc es mb m ra rn rc)->
     jz (jA Q (k+1)) Q mw mh ca cn cc la ln lc (aZ mb) oa (i+1) oc (m.cs.length:Int) i (aZ xb) (aZ ob) w:=by
    intro w ob xb A B e1 e2 s;subst e1 e2;refine awK hC hcs V2 hm (by omega) (by omega) s λm' v o a' c' ra' rn' rc' w' e s=>?_;have hok:=(aue (w:=mw) (h:=mh) hcs hm x).2;rw[e]at he hok;refine ih (i+1) m' a' c' _ ra' rn' rc' w' (by omega) hok ?_ s;rw[List.map_append,List.append_assoc];exact he
   refine aV s λxb w s=>?_;refine sT s 0 rfl λw s=>?_;refine sT s 0 rfl λw s=>?_;refine ax s (i:=0) rfl rfl rfl λw s=>?_;rw[aG];have s:=ay s
   repeat' first
    |apply lI s 0 rfl
    |apply lS s 0 rfl
    |apply lB s 0 rfl
    |apply lP s 0 rfl
    |apply And.intro (cq s 0 rfl)
    |apply lI s 1 rfl
    |apply lS s 1 rfl
    |apply lB s 1 rfl
    |apply lP s 1 rfl
    |apply And.intro (cq s 1 rfl)
    |(refine sT s 0 rfl λw s=>?_)
    |(refine sT s 1 rfl λw s=>?_)
    |refine aQ s λb w s=>?_
    |(refine aV s λb w s=>?_;simp[agT,acL,amE,agU]at s)
    |exact go _ _ _ _ _ rfl rfl s
    |apply cI (by omega) (by decide) (by omega)
    |apply And.intro ?_
    |(replace s:=ay s;first
     |apply lI s 0 rfl
     |apply lS s 0 rfl
     |apply lB s 0 rfl
     |apply lP s 0 rfl
     |apply And.intro (cq s 0 rfl)
     |apply lI s 1 rfl
     |apply lS s 1 rfl
     |apply lB s 1 rfl
     |apply lP s 1 rfl
     |apply And.intro (cq s 1 rfl)
     |(refine ax s rfl rfl rfl λw s=>?_)
     |(refine sT s 1 rfl λw s=>?_)
     |refine aQ s λb w s=>?_
     |(refine aV s λb w s=>?_;simp[agT,acL,amE,agU]at s)
     |exact go _ _ _ _ _ rfl rfl s
     |apply cI (by omega) (by decide) (by omega)
     |refine And.intro ?_ ?_)
 exact⟨(xs.take 60).length+1,loop _ 0 _ _ 1 _ ra rn rc w (by omega) hm0 rfl s⟩
end
end Go.Proofs.YtmegplnmiepfbaaGreatDoor.S.O
set_option maxRecDepth 20000
namespace Go.Proofs.YtmegplnmiepfbaaGreatDoor.S
open Go.Sx
attribute [local irreducible] af cv bz bg aA cw bZ St Bx Al App cH cy cD bU aM bF aq bS av ak aW mapA
section
variable {F:Nat->Prop}{W w:World}{L:List As}{a b:Option Addr}{n c m d:Nat}
def eq2 {a b a' b':Int}:(a==a'&&(b==b'&&true))=decide (a=a'/\b=b'):=by grind
def avI {w:World}{x y:Operand}{a b:Int×Int}{K:Bool->World->Prop}(h:K (!decide (a=b)) w):bU P .neq 51 x y (.agg #[ae a.1,ae a.2]) (.agg #[ae b.1,ae b.2]) w K:=by apply akn (by kernel_rfl);apply anZ (r:=a.1==b.1&&(a.2==b.2&&true)) (by kernel_rfl) (by kernel_rfl) (by kernel_rfl);rw[eq2];simp[<-Prod.ext_iff];exact h
def avJ {a b:CF}:(a.a=b.a/\a.b=b.b/\a.c=b.c/\a.d=b.d/\a.e=b.e/\a.f=b.f)↔a=b:=by obtain⟨a1,a2,a3,a4,a5,a6⟩:=a;obtain⟨b1,b2,b3,b4,b5,b6⟩:=b;simp
instance:DecidableEq CF:=λa b=>decidable_of_iff _ avJ
def aj_ {Q:Bool->World->Prop}{xs ys:List (Int×Int)}(hX:Sl w a n c 2 lq xs)(hY:Sl w b m d 2 lq ys)(s0:Sep F W w L)(hn:n<1000000)(h:∀w',Sep F W w' L->Fr No w w'->Q (decide (xs=ys)) w'):
  ug a n c b m d w Q:=by
 apply Kr;have h1:=hX.len;have h2:=hY.len;have fin:∀(r:Bool) (w':World),r=decide (xs=ys)->Sep No w w' []->Q r w':=λr w' e s=>by subst e;exact h w' (bX s0 (au s)) (au s)
 by_cases hl:n=m
 ·subst hl;have loop:∀(k i:Nat) (w1:World),i+k=n->xs.take i=ys.take i->Sep No w w1 []->kE Q (k+1) a n c b n d i w1:=by
   intro k;induction k with
   |zero=>
    intro i w1 hi he s;show nf Q (kE Q 0) _ _ _ _ _ _ _ _;unfold nf;grind
   |succ k ih=>
    intro i w1 hi he s;show nf Q (kE Q (k+1)) _ _ _ _ _ _ _ _;rw[nf,bN];have s:=ay s;refine(hX.fr (au s)).El rfl (by omega) λp x hx hc=>?_;refine aO (hc 0 _ rfl) (aO (hc 1 _ rfl) ?_);refine(hY.fr (au s)).El rfl (by omega) λp y hy hc=>?_;refine aO (hc 0 _ rfl) (aO (hc 1 _ rfl) ?_);apply avI;by_cases hxy:x=y
    ·rw[decide_eq_true hxy,Bool.not_true,cond_false,aG];refine ih (i+1) _ (by omega) ?_ s;rw[List.take_add_one,List.take_add_one,hx,hy,he,hxy]
    grind
  rw[bne_self_eq_false,cond_false];exact⟨n+1,loop n 0 w (by omega) (by simp) bt⟩
 ·rw[show((n:Int) !=(m:Int))=true by grind,cond_true];refine fin false _ ?_ bt;grind
def map_eq {a b:bM}:(a.w=b.w/\a.h=b.h/\a.cs=b.cs)↔a=b:=by obtain⟨a1,a2,a3⟩:=a;obtain⟨b1,b2,b3⟩:=b;simp
instance:DecidableEq bM:=λa b=>decidable_of_iff _ map_eq
end
section
variable {F:Nat->Prop}{W w:World}{L:List As}{lg:wq}{r:DE}{y:yx}{o:kS}{a:Option Addr}{n c:Nat}
def awL {K:Addr->World->Prop}{code d dir id:Int}{ma ga:Option Addr}{mn mc gn gc:Nat}{q0 q1 q2 q3 q4 q5:Int}(s:Sep F W w L)
  (h:∀p w',Sep F W w' (av p 34 (Te code d dir id ma mn mc ga gn gc ⟨q0,q1,q2,q3,q4,q5⟩)::L)->K (aZ p) w'):
  Al T 34 w λp w=>St (p.add 0) (ae code) w λw=>St (p.add 1) (ae d) w λw=>St (p.add 2) (ae dir) w λw=>St (p.add 3) (ae id) w λw=>
   St (p.add 4) (.slice ma mn mc) w λw=>St (p.add 5) (.slice ga gn gc) w λw=>St (p.add 6) (.int .u64 q0) w λw=>St (p.add 7) (.int .u64 q1) w λw=>St (p.add 8) (.int .u64 q2) w λw=>
   St (p.add 9) (.int .u64 q3) w λw=>St (p.add 10) (.int .u64 q4) w λw=>St (p.add 11) (.int .u64 q5) w λw=>K p w:=by
 refine aV s λp w s=>?_
 iterate 12 refine sT s 0 rfl λw s=>?_
 exact h p w s
def acM {K:Addr->World->Prop}(hL:jw W lg)(ho:Mo o)(hM:∀w',Sep No W w' L->Sl w' a n c 1 bu o.m)(wm:amC y.p)(s:Sep No W w (fV r y::L))
  (h:∀r' y' ma mn mc ga gn gc p w',r'.p=r.p->y'.p=(ir y.p o).1->Sep No W w' (av p 34 (Te (ir y.p o).2.code (ir y.p o).2.d (ir y.p o).2.dir (ir y.p o).2.id ma mn mc ga gn gc (qJ y'.p.bR))::ak ma mn mc 51 2 (flat lq (ir y.p o).2.yO)::ak ga gn gc 3 1 (flat one (ir y.p o).2.gone)::fV r' y'::L)->K (aZ p) w'):
  jl (sZ r.p) o.k o.A o.B a n c w λcode d dir id ma mn mc ga gn gc q0 q1 q2 q3 q4 q5 w=>
   Al T 34 w λp w=>St (p.add 0) (ae code) w λw=>St (p.add 1) (ae d) w λw=>St (p.add 2) (ae dir) w λw=>St (p.add 3) (ae id) w λw=>
   St (p.add 4) (.slice ma mn mc) w λw=>St (p.add 5) (.slice ga gn gc) w λw=>St (p.add 6) (.int .u64 q0) w λw=>St (p.add 7) (.int .u64 q1) w λw=>St (p.add 8) (.int .u64 q2) w λw=>
   St (p.add 9) (.int .u64 q3) w λw=>St (p.add 10) (.int .u64 q4) w λw=>St (p.add 11) (.int .u64 q5) w λw=>K p w:=
 ajp hL ho hM wm s λr' y' ma mn mc ga gn gc w er ey s=>awL s λp w s=>h r' y' ma mn mc ga gn gc p w er ey s
def apr {K:yU->List Value}{Q:Option Addr->Nat->Nat->World->Prop}{xs:List yU}{k:Nat}(hA:Sl w a n c 3 K xs)(h:∀a' c',Sl w a' (min n k) c' 3 K (xs.take (min n k))->Q a' (min n k) c' w):yV a n c k w Q:=by apply QJ;refine hA.hi ?_ (Nat.min_le_left ..) h;unfold DG;omega
end
end Go.Proofs.YtmegplnmiepfbaaGreatDoor.S
namespace Go.Proofs.YtmegplnmiepfbaaGreatDoor.S
open Go.Sx
structure Mq (most:Int) (m:bM) (u:rF):Prop where
 may:cW m
 nX:m.w*m.h<=1600
 us:nZ m.w m.h u.us
 nx:0<=u.next
 lt:∀v∈u.us,v.id<u.next
 mst:u.most=most
 len:(u.us.length:Int)<=most
structure CN (t:Int) (q:gQ):Prop where
 ep:z7 q.bR<=t
 tp:0<=t
 mo:1<=q.most/\q.most<=65536
 st:(q.bR.o=none/\q.us=none)\/∃m u,q.bR.o=some m/\q.us=some u/\Mq q.most m.g.m u/\u.next<=t
def CN.sm {t:Int}{q:gQ}(h:CN t q)(ht:t<1000000000):amC q:=by
 refine⟨by have:=h.ep;omega,λu hu=>?_⟩;rcases h.st with⟨_,e⟩|⟨m,u',_,e,_,hn⟩
 all_goals grind
def CN.mono {t t':Int}{q:gQ}(h:CN t q)(ht:t<=t'):CN t' q:=by
 refine⟨by have:=h.ep;omega,by have:=h.tp;omega,h.mo,?_⟩;rcases h.st with e|⟨m,u',h1,h2,h3,hn⟩
 all_goals grind
section
variable {most t:Int}{m:bM}{u:rF}{q:gQ}{o:kS}
def arn (hm:cW m){c x:Int}(hx:1<=x/\x<=255):cW ⟨m.w,m.h,m.cs.set c.toNat x⟩:=by
 refine⟨hm.w,hm.h,?_,λy hy=>?_⟩
 ·rw[List.length_set];exact hm.len
 ·rcases List.mem_or_eq_of_mem_set hy with hy|rfl
  ·exact hm.jO y hy
  ·omega
def Mq.drop (h:Mq most m u)(id:Int):Mq most m (jN u id):=by have hs:(jN u id).us.Sublist u.us:=List.filter_sublist;refine⟨h.may,h.nX,h.us.sub hs,h.nx,λv hv=>h.lt v (hs.subset hv),h.mst,?_⟩;have:=hs.length_le;have:=h.len;omega
def Mq.WR (h:Mq most m u)(id:Int){B:Int}(hB:bK m.w m.h B):Mq most m (sU u id λv=>⟨v.id,v.cell,B⟩):=by
 have e1:∀us:List aS,(us.map λv=>if v.id=id then(⟨v.id,v.cell,B⟩:aS)else v).map (·.id)=us.map (·.id):=λus=>by rw[List.map_map];refine List.map_congr_left λv _=>?_;simp[Function.comp];split<;>rfl
 have e2:∀us:List aS,(us.map λv=>if v.id=id then(⟨v.id,v.cell,B⟩:aS)else v).map (·.cell)=us.map (·.cell):=λus=>by rw[List.map_map];refine List.map_congr_left λv _=>?_;simp[Function.comp];split<;>rfl
 have hmem:∀v∈(sU u id λv=>⟨v.id,v.cell,B⟩).us,∃v'∈u.us,v.id=v'.id/\v.cell=v'.cell/\(v.goal=v'.goal\/v.goal=B):=λv hv=>by
  obtain⟨v',hv',rfl⟩:=List.mem_map.1 hv;refine⟨v',hv',?_⟩;split
  ·exact⟨rfl,rfl,.inr rfl⟩
  ·exact⟨rfl,rfl,.inl rfl⟩
 refine⟨h.may,h.nX,⟨h.us.wh,?_,λv hv=>?_,λv hv=>?_,?_⟩,h.nx,λv hv=>?_,h.mst,?_⟩
 ·show List.Pairwise _ (List.map _ (List.map _ _));rw[e1];exact h.us.ids
 ·obtain⟨v',h1,h2,_⟩:=hmem v hv;rw[h2];exact h.us.pos v' h1
 ·obtain⟨v',h1,_,h3,h4⟩:=hmem v hv;have:=h.us.at_ v' h1;refine⟨by rw[h3];exact this.1,?_⟩;rcases h4 with h4|h4
  ·rw[h4];exact this.2
  ·rw[h4];exact hB
 ·show List.Nodup (List.map _ (List.map _ _));rw[e2];exact h.us.nd
 ·obtain⟨v',h1,h2,_⟩:=hmem v hv;rw[h2];exact h.lt v' h1
 ·show((List.map _ _).length:Int)<=most;rw[List.length_map];exact h.len
def Mq.add (h:Mq most m u){A B:Int}(hs:vL m.w m.h u A B=0):Mq most m (OZ u A B):=by
 unfold vL at hs;split at hs
 ·omega
 split at hs
 ·omega
 split at hs
 ·omega
 split at hs
 ·omega
 rename_i h1 h2 h3 h4;have h1:=Decidable.not_not.1 h1;have h2:=Decidable.not_not.1 h2;have hl:((u.us++[(⟨u.next,A,B⟩:aS)]).length:Int)=u.us.length+1:=by simp
 have:=h.mst;refine⟨h.may,h.nX,ak1 h.us (λv hv=>h.lt v hv) h.nx h1.1 h1.2 ((ak2 h.us).1 h2),?_,λv hv=>?_,h.mst,?_⟩
 ·show 0<=u.next+1
  have:=h.nx;omega
 ·show v.id<u.next+1
  rcases List.mem_append.1 hv with hv|hv
  ·have:=h.lt v hv;omega
  grind
 ·show((u.us++[(⟨u.next,A,B⟩:aS)]).length:Int)<=_;omega
def W3 {w h:Int}:∀(todo:List (aS×Int)) (done:List aS),∀v∈(cT w h done todo).1,∃v'∈done++todo.map (·.1),v.id=v'.id/\v.goal=v'.goal
 |[],done,v,hv=>⟨v,by simpa[cT]using hv,rfl,rfl⟩
 |(x,d)::rest,done,v,hv=>by
  cases hb:sq w h (done++x::rest.map (·.1)) x d with
  |true=>
   rw[CI hb]at hv;obtain⟨v',h1,h2,h3⟩:=W3 rest _ v hv;rw[List.append_assoc]at h1;rcases List.mem_append.1 h1 with h1|h1
   ·grind
   ·rcases List.mem_append.1 h1 with h1|h1
    ·unfold lR at h1;grind
    grind
  |false=>
   rw[CJ hb]at hv;obtain⟨v',h1,h2,h3⟩:=W3 rest _ v hv;grind
def zip_fst {α β:Type}{l:List α}(f:α->β):(l.zip (l.map f)).map (·.1)=l:=by rw[List.map_fst_zip];grind
def Mq.tick (h:Mq most m u):Mq most m (N5 m.w m.h u (oY m u.us)):=by
 have hz:(u.us.zip (oY m u.us)).map (·.1)=u.us:=zip_fst _;refine⟨h.may,h.nX,WT _ [] (by rw[List.nil_append,hz];exact h.us),h.nx,λv hv=>?_,h.mst,?_⟩
 ·obtain⟨v',h1,h2,_⟩:=W3 _ _ v hv;rw[List.nil_append,hz]at h1;rw[h2];exact h.lt v' h1
 ·have h1:=(Jk (w:=m.w) (h:=m.h) (u.us.zip (oY m u.us)) []).1;have h2:=congrArg List.length hz;have:=h.len;have e:(N5 m.w m.h u (oY m u.us)).us=(cT m.w m.h [] (u.us.zip (oY m u.us))).1:=rfl;grind
def aps (q:pY)(t s:Int):z7 (zQ q t s)=z7 q:=by
 cases h:q.o with
 |none=>unfold zQ;rw[h]
 |some m=>
  obtain⟨m',h1,h2⟩:=Es h t s;unfold z7;grind
def aro (q:pY)(ps:List G3):z7 (G5 q ps)=z7 q:=by
 cases h:q.o with
 |none=>
  have:G5 q ps=q:=by
   unfold G5;induction ps with
   |nil=>rfl
   |cons p ps ih=>rw[List.foldl_cons];unfold zQ;rw[h];exact ih
  rw[this]
 |some m=>
  obtain⟨m',h1,h2⟩:=G6 ps h;unfold z7;grind
def awN {mp:xQ}(h:CN t q)(hm:q.bR.o=some mp)(hu:q.us=some u)(hn:Mq q.most mp.g.m u)(hx:u.next<=t):CN (t+1) (J6 q mp.g.m u o).1:=by
 have hsame:CN (t+1) q:=h.mono (by omega);have ht:=h.tp;have Yy:=h.ep;have epm:z7 q.bR=mp.g.ep:=by unfold z7;rw[hm]
 unfold J6;split
 ·split
  ·exact hsame
  ·split
   ·exact hsame
   ·split
    ·exact hsame
    ·have e:(edP q.bR o.A o.B).o=some ⟨xJ mp.g o.A o.B,mp.S5,mp.clean,mp.fe,mp.kept,mp.fc⟩:=by unfold edP;rw[hm];rfl
     refine⟨?_,by omega,h.mo,.inr ⟨_,u,e,rfl,?_,by omega⟩⟩
     ·rw[z7,e];show mp.g.ep+1<=t+1;omega
     ·exact⟨arn hn.may (by omega),hn.nX,hn.us,hn.nx,hn.lt,hn.mst,hn.len⟩
 ·split
  ·split
   ·exact hsame
   ·split
    ·exact hsame
    ·split
     ·exact hsame
     ·rename_i h1 h2 h3;exact⟨by grind,by omega,h.mo,.inr ⟨mp,_,hm,rfl,hn.add (Decidable.not_not.1 h3),by show u.next+1<=t+1;omega⟩⟩
  ·split
   ·split
    ·exact hsame
    ·split
     ·exact hsame
     ·split
      ·exact⟨by grind,by omega,h.mo,.inr ⟨mp,_,hm,rfl,hn.drop _,by show u.next<=t+1;omega⟩⟩
      ·rename_i h2 _;exact⟨by grind,by omega,h.mo,.inr ⟨mp,_,hm,rfl,hn.WR _ (Decidable.not_not.1 h2),by show u.next<=t+1;omega⟩⟩
   ·split
    ·split
     ·exact hsame
     ·exact⟨by grind,by omega,h.mo,.inr ⟨mp,_,hm,rfl,hn.drop _,by show u.next<=t+1;omega⟩⟩
    ·split
     ·split
      ·obtain⟨YQ,h1,h2⟩:=Es hm o.A (cU mp.g.m o.B);refine⟨by show z7 (zQ _ _ _)<=_;rw[aps];omega,by omega,h.mo,.inr ⟨YQ,u,h1,rfl,by grind,by omega⟩⟩
      grind
     ·obtain⟨YQ,h1,h2⟩:=G6 (mK mp.g.m.w mp.g.m.h u.us) hm;refine⟨by show z7 (G5 _ _)<=_;rw[aro];omega,by omega,h.mo,.inr ⟨YQ,_,h1,rfl,by rw[h2];exact hn.tick,by show u.next<=t+1;omega⟩⟩
def agV (h:CN t q)(ho:Mo o):CN (t+1) (ir q o).1:=by
 have hsame:CN (t+1) q:=h.mono (by omega);have ht:=h.tp;have Yy:=h.ep;unfold ir;split
 ·exact hsame
 ·split
  ·rename_i k1;split
   ·exact hsame
   ·rename_i mp hg;have hf:=(ho.load k1).2 mp hg;have hm:=afb ho.jO hg;have hmo:=h.mo;refine⟨?_,by omega,h.mo,.inr ⟨_,_,rfl,rfl,⟨hm,hf,⟨⟨hm.w,hm.h⟩,.nil,λv hv=>(by cases hv),λv hv=>(by cases hv),.nil⟩,Int.le_refl _,λv hv=>(by cases hv),rfl,?_⟩,by grind⟩⟩
    ·show z7 q.bR+1<=t+1;omega
    grind
  ·split
   ·rcases h.st with⟨h1,h2⟩|⟨m,u,h1,h2,h3,h4⟩
    ·refine⟨?_,by omega,h.mo,.inl ⟨by show(N8 q.bR).o=none;unfold N8;rw[h1];rfl,h2⟩⟩;unfold z7 N8;grind
    ·have e:(N8 q.bR).o=some ⟨m.g,m.S5,m.clean,m.fe,none,m.fc⟩:=by unfold N8;rw[h1];rfl
     refine⟨?_,by omega,h.mo,.inr ⟨_,u,e,h2,h3,by omega⟩⟩;show z7 (N8 q.bR)<=_;have:z7 q.bR=z7 (N8 q.bR):=by unfold z7;rw[e,h1]
     omega
   ·rcases h.st with⟨h1,h2⟩|⟨m,u,h1,h2,h3,h4⟩
    ·grind
    ·rw[h1,h2];exact awN h h1 h2 h3 h4
end
def Er.of {bs:List Int}{m:bM}(h:lu bs=some m):Er bs:=by
 unfold lu at h;split at h
 ·cases h
 ·split at h
  ·rename_i h1 h2;refine⟨by omega,h2,λbs' M hT=>?_⟩;grind
  ·cases h
def nF {k A B:Int}(hk:k≠1):Mo ⟨k,A,B,[]⟩:=⟨eA.nil,by simp,λe=>(hk e).elim⟩
def aeC {m:bM}(hm:cW m)(hf:m.w*m.h<=1600):Mo (Ew m):=by have h1:=F8 hm;have h2:=abH hm;refine⟨h1.1,h1.2,λ_=>⟨.of h2,λmp h=>?_⟩⟩;have h:lu (yT m)=some mp:=h;grind
def ajr (w h:Int)(c:List Int):(vN w h c).w*(vN w h c).h<=1600:=by have h1:=ko (n:=w) (lo:=1) (hi:=40) (by decide);have h2:=ko (n:=h) (lo:=1) (hi:=40) (by decide);show gj w 1 40*gj h 1 40<=1600;have:=Int.mul_le_mul h1.2 h2.2 (by omega) (by decide);omega
def amJ {a b:Int}{ts:List Int}{used:Nat}(h:E8 [1,a,b] 2=some (ts,used)):used=3:=by
 unfold E8 at h;have e:Iy 2 [1,a,b]=if[a,b].length<2\/0∈[a,b].take 2 then none else some ([a,b].take 2,1+2):=rfl
 grind
def avK {x:yU}{n:Int}:Mo (KZ x n):=by
 unfold KZ;simp only;split
 ·have hd:Er [2,0,1,0,1,x.a%256,x.b%256]:=by
   refine⟨by simp,(by decide:ja (2+256*0) (1+256*0)),λbs' M h=>?_⟩;have h:rB 2 1 1 0 [1,x.a%256,x.b%256] [0,0]=some (bs',M):=h;unfold rB at h;have e:(aE 2 1 0*bC 2 1 0).toNat=2:=by decide
   split at h
   ·cases h
   ·rename_i ts used hT;have:=amJ hT;subst this;unfold rB at h;grind
  refine⟨eA.mk (by decide) (eA.mk (by decide) (eA.mk (by decide) (eA.mk (by decide) (eA.mk (by decide) (eA.mk (by omega) (eA.mk (by omega) eA.nil)))))),by simp,λ_=>⟨hd,λmp h=>?_⟩⟩;have h:=h;rw[hd.get]at h;obtain⟨q,_,rfl⟩:=Option.map_eq_some_iff.1 h;show(2+256*0:Int)*(1+256*0)<=1600;decide
 ·split
  ·exact nF (by decide)
  ·split
   ·exact nF (by decide)
   ·exact nF (by assumption)
def avL {w h:Int}{c:List Int}(hc:eA c){m:bM}(x:yU):Mo (wu w h c m x).1:=by
 unfold wu;simp only;split
 ·exact nF (by decide)
 ·split
  ·exact nF (by decide)
  ·split
   ·exact nF (by decide)
   ·split
    ·exact nF (by decide)
    ·split
     ·exact nF (by decide)
     ·split
      ·exact nF (by decide)
      ·split
       ·split
        ·exact aeC (EP hc) (ajr _ _ _)
        ·exact nF (by decide)
       ·split
        ·exact avK
        ·exact nF (by decide)
def ak_ {w h:Int}{c:List Int}(hc:eA c):∀(xs:List yU) {m:bM},∀o∈Nl w h c m xs,Mo o
 |[],_,o,ho=>by cases ho
 |x::xs,m,o,ho=>by
  rcases List.mem_cons.1 ho with rfl|ho
  ·exact avL hc x
  ·exact ak_ hc xs o ho
def apt {w h:Int}{c:List Int}(hc:eA c)(xs:List yU):∀o∈Fm w h c xs,Mo o:=λo ho=>by
 rcases List.mem_cons.1 ho with rfl|ho
 ·exact aeC (EP hc) (ajr _ _ _)
 ·exact ak_ hc _ o ho
noncomputable def O1 (q:gQ)(os:List kS):gQ:=os.foldl (λq o=>(ir q o).1) q
def ajs (k most:Int):gQ:=⟨most,⟨k,⟨[],[],0,0,0,0⟩,none,⟨0,0,0,0,0,0⟩⟩,none⟩
section
variable {q:gQ}{o:kS}{t:Int}
def aso {k most:Int}(hm:1<=most/\most<=65536):CN 0 (ajs k most):=⟨Int.le_refl _,Int.le_refl _,hm,.inl ⟨rfl,rfl⟩⟩
def arp (q:gQ)(os:List kS)(o:kS):O1 q (os++[o])=(ir (O1 q os) o).1:=by unfold O1;grind
def arq {os:List kS}{i:Nat}(hi:i<os.length)(ho:os[i]? =some o):O1 q (os.take (i+1))=(ir (O1 q (os.take i)) o).1:=by rw[List.take_add_one,ho];exact arp _ _ _
def avM {mp:xQ}{u:rF}(hm:q.bR.o=some mp):(J6 q mp.g.m u o).1.bR.o≠none:=by
 unfold J6
 repeat' split
 all_goals first
  |(show q.bR.o≠none;rw[hm];exact Option.some_ne_none _)
  |(show(edP q.bR o.A o.B).o≠none;unfold edP;rw[hm];exact Option.some_ne_none _)
  |(obtain⟨m',h1,_⟩:=Es hm o.A (cU mp.g.m o.B);rw[h1];exact Option.some_ne_none _)
  |(obtain⟨m',h1,_⟩:=G6 (mK mp.g.m.w mp.g.m.h u.us) hm;rw[h1];exact Option.some_ne_none _)
def avN (h:q.bR.o≠none):(ir q o).1.bR.o≠none:=by
 obtain⟨mp,hm⟩:=Option.ne_none_iff_exists'.1 h;unfold ir;split
 ·exact h
 ·split
  ·split
   ·exact h
   ·exact Option.some_ne_none _
  ·split
   ·unfold N8;grind
   ·rw[hm];cases hu:q.us with
    |none=>exact h
    |some u=>exact avM hm
def apu:∀(os:List kS) {q:gQ},q.bR.o≠none->(O1 q os).bR.o≠none
 |[],q,h=>h
 |o::os,q,h=>apu os (avN h)
def ala {m:bM}(hm:cW m):ir q (Ew m)=(⟨q.most,ldP q.bR m,some ⟨q.most,0,[]⟩⟩,kQ 0):=by have h1:=F8 hm;have e:EO (Ew m)=true:=(ac1 h1.1 h1.2).may;rw[ir,e,if_neg (by rintro (h|h)<;>cases h),if_pos (show(Ew m).k=(1:Int)from rfl)];have e:lu (Ew m).m=some m:=abH hm;rw[e]
def apv {w h:Int}{c:List Int}(hc:eA c)(xs:List yU)(q:gQ){i:Nat}(hi:0<i):(O1 q ((Fm w h c xs).take i)).bR.o≠none:=by obtain⟨j,rfl⟩:∃j,i=j+1:=⟨i-1,by omega⟩;unfold Fm;show(O1 (ir q _).1 _).bR.o≠none;apply apu;rw[ala (EP hc)];exact Option.some_ne_none _
end
def pre (cs:List Int):Nat->Int
 |0=>0
 |k+1=>pre cs k+gi cs k
structure uS (m:bM) (p q:Int):Prop where
 may:cW m
 op:∀x∈m.cs,x<255
 dir:(m.h=1/\p=1/\q=3)\/(m.w=1/\p=2/\q=0)
section
variable {m:bM}{p q x t s:Int}
def uS.bK (h:uS m p q)(hx:0<=x/\x<m.cs.length):bK m.w m.h x:=⟨⟨h.may.w,h.may.h⟩,hx.1,by rw[<-h.may.len];exact hx.2⟩
def uS.cost (h:uS m p q)(hx:0<=x/\x<m.cs.length):cV m x=gi m.cs x.toNat/\1<=cV m x/\cV m x<=254:=by
 have e:cV m x=gi m.cs x.toNat:=by unfold cV;grind
 have hm:=fG (l:=m.cs) (i:=x.toNat) (by omega);have h1:=h.may.jO _ hm;have h2:=h.op _ hm;omega
def uS.Em (h:uS m p q)(hx:0<=x/\x<m.cs.length):fk m x=true:=by have:=h.cost hx;unfold fk;simp;omega
def uS.step (h:uS m p q)(hx:0<=x/\x<m.cs.length)(hs:0<=s/\s<=3):aY m.w m.h x s=if s=p then(if x+1<m.cs.length then x+1 else-1)else if s=q then x-1 else-1:=by
 have hc:=h.bK hx;have hl:=h.may.len;have hw:=h.may.w;have hh:=h.may.h;rw[aY,if_pos hc];rcases h.dir with⟨e,rfl,rfl⟩|⟨e,rfl,rfl⟩
 ·rw[e]at hl⊢;have e1:x%m.w=x:=Int.emod_eq_of_lt hx.1 (by omega);have e2:x/m.w=0:=Int.ediv_eq_zero_of_lt hx.1 (by omega);rw[e1,e2];obtain rfl|rfl|rfl|rfl:s=0\/s=1\/s=2\/s=3:=by omega
  ·rw[if_pos rfl,s8 (by omega)];rfl
  ·rw[if_neg (by decide),if_neg (by decide),if_neg (by decide),if_pos rfl,if_pos rfl];split
   ·rw[nB ⟨hw,by decide⟩ (by omega) (by omega)];omega
   ·rw[s8 (by omega)]
  ·rw[if_neg (by decide),if_pos rfl,s8 (by omega)];rfl
  ·rw[if_neg (by decide),if_neg (by decide),if_pos rfl,if_neg (by decide),if_pos rfl];by_cases h0:x=0
   ·rw[s8 (by omega)];omega
   ·rw[nB ⟨hw,by decide⟩ (by omega) (by omega)];omega
 ·rw[e]at hl⊢;obtain rfl|rfl|rfl|rfl:s=0\/s=1\/s=2\/s=3:=by omega
  ·by_cases h0:x=0
   ·rw[s8 (by omega)];omega
   ·rw[nB ⟨by decide,hh⟩ (by omega) (by omega)];omega
  ·rw[if_neg (by decide),if_neg (by decide),if_neg (by decide),if_pos rfl,s8 (by omega)];rfl
  ·rw[if_neg (by decide),if_pos rfl,if_pos rfl];split
   ·rw[nB ⟨by decide,hh⟩ (by omega) (by omega)];omega
   ·rw[s8 (by omega)]
  ·rw[if_neg (by decide),if_neg (by decide),if_pos rfl,s8 (by omega)];rfl
def uS.pq (h:uS m p q):(0<=p/\p<=3)/\(0<=q/\q<=3)/\p≠q:=by rcases h.dir with⟨_,rfl,rfl⟩|⟨_,rfl,rfl⟩<;>decide
def uS.ayS (h:uS m p q){n c:Int}(e:fX m x n c):(0<=x/\x<m.cs.length)/\(0<=n/\n<m.cs.length)/\(n=x+1\/n=x-1)/\c=cV m n:=by
 obtain⟨h1,h2,⟨s,hs,e⟩,hc⟩:=e;have hl:=h.may.len;have hx:=(jY h.may h1).2;have hn:=(jY h.may h2).2;have hx:0<=x/\x<m.cs.length:=by omega
 rw[h.step hx hs]at e;omega
def AL (m:bM)(t x:Int):Int:=if 0<=x/\x<m.cs.length then(if x<=t then pre m.cs (t+1).toNat-pre m.cs (x+1).toNat else pre m.cs x.toNat-pre m.cs t.toNat)else cj
def acO (h:uS m p q)(hx:0<=x/\x<m.cs.length):pre m.cs (x+1).toNat=pre m.cs x.toNat+cV m x:=by rw[(h.cost hx).1,show(x+1).toNat=x.toNat+1 by omega];rfl
def G9 (h:uS m p q):∀k:Nat,k<=m.cs.length->0<=pre m.cs k/\pre m.cs k<=254*k
 |0,_=>by simp[pre]
 |k+1,hk=>by have:=G9 h k (by omega);have h1:=(h.cost (x:=k) (by omega));have h2:=h1.1;rw[Int.toNat_natCast]at h2;show 0<=pre m.cs k+gi m.cs k/\pre m.cs k+gi m.cs k<=_;omega
def uS.D (h:uS m p q)(ht:0<=t/\t<m.cs.length)(hx:0<=x/\x<m.cs.length):D m t x=AL m t x:=by
 have hsz:=K0 h.may;have small:∀y:Int,0<=y/\y<m.cs.length->AL m t y<cj:=λy hy=>by have h1:=G9 h (t+1).toNat (by omega);have h2:=G9 h (y+1).toNat (by omega);have h3:=G9 h t.toNat (by omega);have h4:=G9 h y.toNat (by omega);unfold AL cj;omega
 have on:∀y:Int,0<=y/\y+1<m.cs.length->y<t->AL m t y=AL m t (y+1)+cV m (y+1):=λy hy hyt=>by have:=acO h (x:=y+1) (by omega);unfold AL;omega
 have back:∀y:Int,0<=y/\y<m.cs.length->t<y->AL m t y=AL m t (y-1)+cV m (y-1):=λy hy hyt=>by have h1:=acO h (x:=y-1) (by omega);unfold AL;grind
 have zero:AL m t t=0:=by unfold AL;omega
 refine anl (λy k hy=>?_) (λy n c e hn=>?_) (λ_=>?_) (λhn=>(hn (small x hx)).elim)
 ·obtain⟨rfl,_,rfl⟩:=hy;grind
 ·obtain⟨h1,h2,h3,rfl⟩:=h.ayS e;refine⟨small y h1,?_⟩;have c1:=(h.cost h1).2;have c2:=(h.cost h2).2;rcases h3 with rfl|rfl
  ·by_cases k:y<t
   ·rw[on y (by omega) k];omega
   ·have:=back (y+1) h2 (by omega);rw[show y+1-1=y by omega]at this;omega
  ·by_cases k:t<y
   ·rw[back y h1 k];omega
   ·have:=on (y-1) (by omega) (by omega);rw[show y-1+1=y by omega]at this;omega
 ·have wy:∀(k:Nat) (y:Int),0<=y/\y<m.cs.length->(y-t).natAbs=k->Wy (gD m t) (fX m) y (AL m t y):=by
   intro k;induction k with
   |zero=>
    intro y hy hk;obtain rfl:y=t:=by omega
    rw[zero];exact .src ⟨rfl,h.Em ht,rfl⟩
   |succ k ih=>
    intro y hy hk;by_cases l:y<t
    ·rw[on y (by omega) l];refine .go ⟨h.Em hy,h.Em (by omega),⟨p,h.pq.1,?_⟩,rfl⟩ (ih (y+1) (by omega) (by omega));rw[h.step hy h.pq.1,if_pos rfl,AP]
    ·rw[back y hy (by omega)];refine .go ⟨h.Em hy,h.Em (by omega),⟨q,h.pq.2.1,?_⟩,rfl⟩ (ih (y-1) (by omega) (by omega));rw[h.step hy h.pq.2.1,if_neg (λe=>h.pq.2.2 e.symm),if_pos rfl]
  exact wy _ x hx rfl
def uS.tA (h:uS m p q)(ht:0<=t/\t<m.cs.length)(hx:0<=x/\x<m.cs.length)(hne:x≠t):tA m t x=if x<t then p else q:=by
 have hD:=h.D ht hx;have hsz:=K0 h.may;have hlt:S.D m t x<cj:=by have h1:=G9 h (t+1).toNat (by omega);have h2:=G9 h (x+1).toNat (by omega);have h3:=G9 h t.toNat (by omega);have h4:=G9 h x.toNat (by omega);rw[hD];unfold AL cj;omega
 obtain⟨hr,⟨h0,hop,he⟩,_⟩:=akA h.may hlt hne;have hst:=h.step hx hr;generalize S.tA m t x=s at*;rw[hst]at h0 he;have c0:=(h.cost hx);by_cases e1:s=p
 ·subst e1;rw[if_pos rfl]at h0 he;split at h0
  ·rename_i hlx;rw[if_pos hlx]at he;split
   ·rfl
   ·exfalso;rw[hD,h.D ht (by omega)]at he;have c1:=h.cost (x:=x+1) (by omega);have p1:=acO h hx;unfold AL at he;omega
  ·omega
 ·rw[if_neg e1]at h0 he;split at h0
  ·rename_i e2;subst e2;split
   ·exfalso;rw[hD,h.D ht (by omega)]at he;have c1:=h.cost (x:=x-1) (by omega);have p1:=acO h hx;unfold AL at he;grind
   ·rfl
  ·omega
end
end Go.Proofs.YtmegplnmiepfbaaGreatDoor.S
set_option maxRecDepth 20000
namespace Go.Proofs.YtmegplnmiepfbaaGreatDoor.S
open Go.Sx
attribute [local irreducible] af cv bz bg aA cw bZ St Bx Al App cH cy cD bU aM bF aq bS av ak aW mapA
def Jm:bM:=⟨3,1,[5,2,9]⟩
def Mr:uS Jm 1 3:=⟨⟨by decide,by decide,by decide,by decide⟩,by decide,.inl ⟨rfl,rfl,rfl⟩⟩
def amK:D Jm 2 0=11/\tA Jm 2 0=1:=⟨(Mr.D (by decide) (by decide)).trans (by decide),(Mr.tA (by decide) (by decide) (by decide)).trans (by decide)⟩
def aw1 {q:gQ}:ir q (Ew Jm)=(⟨q.most,ldP q.bR Jm,some ⟨q.most,0,[]⟩⟩,kQ 0):=ala Mr.may
def amL {q:gQ}{o:kS}{mp:xQ}{u:rF}(hm:EO o=true)(hk:o.k≠0/\o.k≠1/\o.k≠8)(h1:q.bR.o=some mp)(h2:q.us=some u):ir q o=J6 q mp.g.m u o:=by unfold ir;grind
def aw2 {q:gQ}{mp:xQ}(h1:q.bR.o=some mp)(hg:mp.g.m=Jm)(h2:q.us=some ⟨2,0,[]⟩):ir q ⟨3,0,2,[]⟩=(⟨q.most,q.bR,some ⟨2,1,[⟨0,0,2⟩]⟩⟩,⟨0,0,5,0,[],[]⟩):=by rw[amL (by decide) (by decide) h1 h2,hg];rfl
def aw3 {q:gQ}{mp:xQ}{u:rF}(h1:q.bR.o=some mp)(hg:mp.g.m=Jm)(h2:q.us=some u):ir q ⟨6,2,0,[]⟩=(⟨q.most,zQ q.bR 2 (cU Jm 0),some u⟩,⟨0,11,1,-1,[],[]⟩):=by
 rw[amL (by decide) (by decide) h1 h2,hg];have e:J6 q Jm u ⟨6,2,0,[]⟩=(⟨q.most,zQ q.bR 2 (cU Jm 0),some u⟩,⟨0,D Jm 2 0,tA Jm 2 0,-1,[],[]⟩):=by rw[J6,if_neg (by decide),if_neg (by decide),if_neg (by decide),if_neg (by decide),if_pos rfl,if_pos (by decide)]
 rw[e,amK.1,amK.2]
def aw4 {q:gQ}{mp:xQ}(h1:q.bR.o=some mp)(hg:mp.g.m=Jm)(h2:q.us=some ⟨2,1,[⟨0,0,2⟩]⟩):(ir q ⟨7,0,0,[]⟩).1.us=some ⟨2,1,[⟨0,1,2⟩]⟩/\(ir q ⟨7,0,0,[]⟩).2=⟨0,0,5,-1,[(0,1)],[]⟩:=by
 rw[amL (by decide) (by decide) h1 h2,hg];have e:oY Jm [⟨0,0,2⟩]=[1]:=by show[tA Jm 2 0]=[1];rw[amK.2]
 rw[J6,e];exact⟨rfl,rfl⟩
section
variable {F:Nat->Prop}{W w:World}{L:List As}{lg:wq}{r:DE}{y:yx}
def asp {u:rF}(h:y.p.us=some u):∃x,y.cr=some x/\x.y=u:=by have h:y.cr.map (·.y)=some u:=h;simp_all
def aka {Q:Bool->World->Prop}(hL:jw w lg)(s0:Sep F W w L)(h:∀w',Sep F W w' L->Fr No w w'->Q true w'):wv w Q:=by
 apply MY;refine TP (by decide) (by decide) (bt (F:=No)) λr y w1 ey s=>?_;have i0:CN 0 y.p:=by rw[ey];exact aso (by decide)
 apply mN;refine aQ s λpb w1 s=>?_;refine aV s λmb w1 s=>?_
 iterate 3 refine sT s 0 rfl λw1 s=>?_
 refine lI s 0 rfl (lI s 0 rfl (lS s 0 rfl ?_));have hC:=acG (ns:=[5,2,9]) s (i:=1) rfl;refine O.JT s hC Mr.may λra rn rc w1 s _=>?_;have s:=pk 4 [3,0,1,2] s;have o1:=aeC Mr.may (by decide);refine acM hL o1 (λw' s'=>aK s' (i:=0) rfl dO (by decide)) (i0.sm (by decide)) s λr1 y1 ma mn mc ga gn gc ab w1 er ey1 s=>?_;rw[<-er];have i1:CN 1 y1.p:=by rw[ey1];exact agV i0 o1
 obtain⟨mp1,h1,g1,u1⟩:∃mp,y1.p.bR.o=some mp/\mp.g.m=Jm/\y1.p.us=some ⟨2,0,[]⟩:=by rw[ey1,aw1,ey];exact⟨_,rfl,rfl,rfl⟩
 have s:=pk 4 [3,0,1,2] s;refine acM hL (nF (by decide)) (λw' s'=>BV) (i1.sm (by decide)) s λr2 y2 ma mn mc ga gn gc bb w1 er W1 s=>?_;rw[<-er];have i2:CN 2 y2.p:=by rw[W1];exact agV i1 (nF (by decide))
 rw[aw2 h1 g1 u1]at W1 s;have h2:y2.p.bR.o=some mp1:=by rw[W1];exact h1
 have u2:y2.p.us=some ⟨2,1,[⟨0,0,2⟩]⟩:=by rw[W1]
 have s:=pk 4 [3,0,1,2] s;refine acM hL (nF (by decide)) (λw' s'=>BV) (i2.sm (by decide)) s λr3 y3 ma mn mc ga gn gc cb w1 er ey3 s=>?_;rw[<-er];have i3:CN 3 y3.p:=by rw[ey3];exact agV i2 (nF (by decide))
 rw[aw3 h2 g1 u2]at ey3 s;obtain⟨mp3,h3,g3⟩:=Es h2 2 (cU Jm 0);have h3:y3.p.bR.o=some mp3:=by rw[ey3];exact h3
 have u3:y3.p.us=some ⟨2,1,[⟨0,0,2⟩]⟩:=by rw[ey3]
 rw[<-g3]at g1;have s:=pk 4 [3,0,1,2] s;refine acM hL (nF (by decide)) (λw' s'=>BV) (i3.sm (by decide)) s λr4 y4 ma mn mc ga gn gc db w1 er ey4 s=>?_;rw[<-er];obtain⟨u4,q4⟩:=aw4 h3 g1 u3;rw[<-ey4]at u4;rw[q4]at s;apply lI s 10 rfl;show cond true _ _;apply lI s 7 rfl;show cond true _ _;apply lI s 4 rfl;show cond true _ _;apply lI s 4 rfl;show cond true _ _;apply lS s 0 rfl;refine aQ s λxb w1 s=>?_;have s:Sep No w w1 (ak (sZ xb) 1 1 51 2 (flat lq [(0,1)])::_):=g_ s (i:=0) rfl rfl (by decide) (λu hu=>by rcases List.mem_cons.1 hu with rfl|hu;rfl;rcases List.mem_cons.1 hu with rfl|hu;rfl;cases hu);have hX:=aK s (i:=2) rfl Jl (by decide);have hY:=aK s (i:=0) rfl Jl (by decide);have hl:=hX.len;refine aj_ hX hY s (by simp at hl;omega) λw1 s _=>?_;obtain⟨x,hx,ex⟩:=asp u4;have s:=pk 5 [4,0,1,2,3] s;refine N9 hx s λua un uc w1 s=>?_;have hU:=(aK s (i:=0) rfl z0 (by decide)).len;rw[ex]at hU;have hU:1=un:=hU;rw[dw (show(un:Int)=1 by omega)];exact h w1 (bX s0 (au s)) (au s)
end
end Go.Proofs.YtmegplnmiepfbaaGreatDoor.S
set_option maxRecDepth 20000
namespace Go.Proofs.YtmegplnmiepfbaaGreatDoor.S
open Go.Sx
def avP {t:Int}{q:gQ}{o:kS}(h:CN t q):(ir q o).2.yO.length<=65536/\(ir q o).2.gone.length<=65536:=by
 unfold ir;split
 ·exact⟨by simp[kQ],by simp[kQ]⟩
 ·split
  ·split<;>exact⟨by simp[kQ],by simp[kQ]⟩
  ·split
   ·exact⟨by simp[kQ],by simp[kQ]⟩
   ·rcases h.st with⟨h1,h2⟩|⟨m,u,h1,h2,h3,h4⟩
    ·rw[h1];exact⟨by simp[kQ],by simp[kQ]⟩
    ·rw[h1,h2];have hm:=Jk (w:=m.g.m.w) (h:=m.g.m.h) (u.us.zip (oY m.g.m u.us)) [];have:=h3.len;have:=h.mo;unfold J6
     repeat' split
     all_goals first
      |exact⟨Nat.zero_le _,Nat.zero_le _⟩
      |grind
attribute [local irreducible] af cv bz bg aA cw bZ St Bx Al App cH cy cD bU aM bF aq bS av ak aW mapA
end Go.Proofs.YtmegplnmiepfbaaGreatDoor.S
set_option maxRecDepth 20000
namespace Go.Proofs.YtmegplnmiepfbaaGreatDoor.S
open Go.Sx
attribute [local irreducible] af cv bz bg aA cw bZ St Bx Al App cH cy cD bU aM bF aq bS av ak aW mapA
section
variable {W w:World}{L:List As}{lg:wq}{ra rb rz:DE}{ya yb yz:yx}{xa va ca la na:Option Addr}{xn xc vn vc cn cc ln lc nn nc:Nat}{X Y:List kS}{t:Int}
def CN.at_ {q:gQ}(h:CN t q)(hu:q.bR.o≠none):∃m u,q.bR.o=some m/\q.us=some u/\Mq q.most m.g.m u/\u.next<=t:=by
 rcases h.st with⟨e,_⟩|h
 all_goals grind
end
section
variable {F:Nat->Prop}{W w w0:World}{L:List As}{lg:wq}{r:DE}{y:yx}{a ca la:Option Addr}{n c cn cc ln lc:Nat}{m:bM}{u:rF}{k t x:Int}
structure SvQ (k:Int) (q:gQ) (m:bM) (u:rF):Prop where
 I:CN k q
 o:∃mp,q.bR.o=some mp/\mp.g.m=m
 us:q.us=some u
end
end Go.Proofs.YtmegplnmiepfbaaGreatDoor.S
namespace Go.Proofs.YtmegplnmiepfbaaGreatDoor.S
open Go.Sx
def ca (q:pY):Int:=q.past.a+(WZ q).a
def cb (q:pY):Int:=q.past.b+(WZ q).b
def cc (q:pY):Int:=q.past.c+q.sh.b
def cd (q:pY):Int:=q.past.d+q.sh.h
structure CtI (B:Int) (q:pY):Prop where
 p:0<=q.past.a/\0<=q.past.b/\0<=q.past.c/\0<=q.past.d
 n:0<=(WZ q).a/\0<=(WZ q).b
 s:0<=q.sh.b/\0<=q.sh.h
 le:ca q<=B/\cb q<=B/\cc q<=B/\cd q<=B
 vs:∀mp,q.o=some mp->(mp.S5.length:Int)<=eL mp.g.m.w mp.g.m.h/\(mp.g.vs.length:Int)<=eL mp.g.m.w mp.g.m.h
structure Gr (q q':pY) (n p:Int):Prop where
 a:ca q'<=ca q+n
 b:cb q'<=cb q+p
 c:cc q'<=cc q+p
 d:cd q'<=cd q+p
set_option maxRecDepth 20000
section
variable {B t n p:Int}{q:gQ}{mp:xQ}{u:rF}{o:kS}
structure aBe (B:Int) (q q':pY) (w h d U:Int):Prop where
 c:CtI B q'
 g:Gr q q' (eL w h) (U+1)
 d:0<=d/\(d=cj\/d<=254*(w*h-1))
end
end Go.Proofs.YtmegplnmiepfbaaGreatDoor.S
set_option maxRecDepth 20000
namespace Go.Proofs.YtmegplnmiepfbaaGreatDoor.S
open Go.Sx
attribute [local irreducible] af cv bz bg aA cw bZ St Bx Al App cH cy cD bU aM bF aq bS av ak aW mapA
def bw (b:Bool):List Value:=[.bool b]
def Et (b:Bool):(bw b).length=1:=rfl
def apw (b:Bool)(u:Value)(h:u∈bw b):u.oneCell'=true:=by cases List.mem_singleton.1 h;rfl
def gb (ws:List Bool)(k:Nat):Bool:=ws.getD k false
def avQ {ws:List Bool}{k:Nat}(h:k<ws.length):ws[k]? =some (gb ws k):=by unfold gb;rw[List.getD_eq_getElem?_getD,List.getElem?_eq_getElem h];rfl
def apx {ws:List Bool}{k:Nat}(hk:k<ws.length)(v:Bool)(j:Nat):gb (ws.set k v) j=if j=k then v else gb ws j:=by
 unfold gb;rw[List.getD_eq_getElem?_getD,List.getD_eq_getElem?_getD,List.getElem?_set];by_cases h:j=k
 ·subst h;simp[hk]
 ·rw[if_neg (λe=>h e.symm),if_neg h]
def asr {w:World}{a:Option Addr}{n c:Nat}{ws:List Bool}{idx:Int}{k:Nat}{K:Bool->Prop}(h:Sl w a n c 1 bw ws)(hk:idx=k)(hn:k<n)(g:K (gb ws k)):aH idx n (wA a λp=>cv (p.add (idx.toNat*1)) w K):=
 h.El hk hn λp x hx hc=>by rw[avQ (by rw[h.len];exact hn)]at hx;cases hx;have:=hc 0 _ rfl;rw[add_zero]at this;exact ap0 this g
structure ayT (w h:Int) (us:List aS) (ws:List Bool) (N:Nat):Prop where
 len:ws.length=N
 at_:∀c,bK w h c->gb ws c.toNat=stand us c
def W4 {w h:Int}:∀(todo:List (aS×Int)) (done:List aS),∀p∈(cT w h done todo).2.1,∃x∈todo,p.1=x.1.id
 |[],done,p,hp=>by cases hp
 |(u,d)::rest,done,p,hp=>by
  cases hb:sq w h (done++u::rest.map (·.1)) u d with
  |true=>
   rw[CI hb]at hp;rcases List.mem_cons.1 hp with rfl|hp
   ·exact⟨_,List.mem_cons_self ..,rfl⟩
   ·obtain⟨x,h1,h2⟩:=W4 rest _ p hp;exact⟨x,List.mem_cons_of_mem _ h1,h2⟩
  |false=>
   rw[CJ hb]at hp;obtain⟨x,h1,h2⟩:=W4 rest _ p hp;exact⟨x,List.mem_cons_of_mem _ h1,h2⟩
section
variable {W:World}{lg:wq}{r:DE}{y:yx}{a ua ia ma ga xa:Option Addr}{vb an n c un uc ic mn mc gn gc xn xc:Nat}{fe:CF}{m:bM}{us:List aS}{M:List (Int×Int)}{G ds:List Int}{tk dd:Int}
structure TkI (m:bM) (us:List aS) (ds:List Int) (M:List (Int×Int)) (G:List Int) (n i:Nat) (done:List aS) (todo:List (aS×Int)) (mv:List (Int×Int)) (gs:List Int) (ws:List Bool):Prop where
 td:todo=(us.zip ds).drop i
 M:M=mv++(cT m.w m.h done todo).2.1
 G:G=gs++(cT m.w m.h done todo).2.2
 U:nZ m.w m.h (done++todo.map (·.1))
 W:ayT m.w m.h (done++todo.map (·.1)) ws n
 mv:mv.length<=i
 gs:gs.length<=i
end
end Go.Proofs.YtmegplnmiepfbaaGreatDoor.S
namespace Go.Proofs.YtmegplnmiepfbaaGreatDoor.S
open Go.Sx
def nx (q:gQ):Int:=match q.us with|some u=>u.next|none=>0
def pe (q:gQ):List Int:=match q.us with|some u=>u.us.map (·.id)|none=>[]
def Tg {w h:Int}:∀(todo:List (aS×Int)) (done:List aS),((cT w h done todo).1.map (·.id)++(cT w h done todo).2.2).Perm (done.map (·.id)++todo.map (·.1.id))
 |[],done=>by simp[cT]
 |(u,d)::rest,done=>by
  cases hb:sq w h (done++u::rest.map (·.1)) u d with
  |true=>
   rw[CI hb];have ih:=Tg (w:=w) (h:=h) rest (done++lR w h u d);have hw:(lR w h u d).map (·.id)++(if aY w h u.cell d=u.goal then[u.id]else[])=[u.id]:=by unfold lR;split<;>rfl
   simp only[List.map_append]at ih;simp only[List.map_cons];generalize (if aY w h u.cell d=u.goal then[u.id]else[])=g at*;generalize (lR w h u d).map (·.id)=v at*;have h1:=(ih.append_left g);have e:done.map (·.id)++u.id::rest.map (·.1.id)=done.map (·.id)++(v++g)++rest.map (·.1.id):=by rw[hw];simp
   rw[e];refine List.Perm.trans ?_ (h1.trans ?_)
   ·rw[<-List.append_assoc,<-List.append_assoc];exact List.Perm.append_right _ List.perm_append_comm
   ·rw[<-List.append_assoc,<-List.append_assoc,<-List.append_assoc];refine List.Perm.append_right _ ?_;rw[List.append_assoc];exact List.perm_append_comm
  |false=>
   rw[CJ hb];have ih:=Tg (w:=w) (h:=h) rest (done++[u]);simpa using ih
inductive aeD (q q':gQ) (o:kS) (a:W0):Prop
 |load (hk:o.k=1) (hc:a.code=0) (hm:a.yO=[]) (hg:a.gone=[]) (hn:nx q'=0) (hi:pe q'=[])
 |spawn (hk:o.k=3) (hc:a.code=0) (yq:a.id=nx q) (hm:a.yO=[]) (hg:a.gone=[]) (hn:nx q'=nx q+1) (hi:pe q'=pe q++[nx q])
 |drop (hk:o.k=5/\a.code=0\/o.k=4/\a.code=13) (hm:a.yO=[]) (hg:a.gone=[]) (hn:nx q'=nx q) (hA:o.A∈pe q) (hi:pe q'=(pe q).filter λx=>!decide (x=o.A))
 |none (h1:¬(o.k=1/\a.code=0)) (h3:¬(o.k=3/\a.code=0)) (h5:¬(o.k=5/\a.code=0)) (h4:¬(o.k=4/\a.code=13)) (hm:∀p∈a.yO,p.1∈pe q) (hn:nx q'=nx q) (hp:(pe q'++a.gone).Perm (pe q))
def ars {us:List aS}{i:Int}{v:aS}(h:gE us i=some v):v∈us/\v.id=i:=⟨List.mem_of_find?_eq_some h,of_decide_eq_true (List.find?_some h:)⟩
def atE {q:gQ}{mp:xQ}{u:rF}{o:kS}(hu:q.us=some u)(hk1:o.k≠1):aeD q (J6 q mp.g.m u o).1 o (J6 q mp.g.m u o).2:=by
 have hi:pe q=u.us.map (·.id):=by unfold pe;rw[hu]
 have hn:nx q=u.next:=by unfold nx;rw[hu]
 have ref:∀{c:Int},c≠0->c≠13->aeD q q o (kQ c):=λh0 h13=>.none (λe=>h0 e.2) (λe=>h0 e.2) (λe=>h0 e.2) (λe=>h13 e.2) (λp hp=>by cases hp) rfl (by show(pe q++[]).Perm _;rw[List.append_nil]);have got:∀{v:aS},gE u.us o.A=some v->o.A∈pe q:=λhv=>by obtain⟨h1,h2⟩:=ars hv;rw[hi,<-h2];exact List.mem_map.2 ⟨_,h1,rfl⟩
 have hd:pe ⟨q.most,q.bR,some (jN u o.A)⟩=(pe q).filter λx=>!decide (x=o.A):=by rw[hi];show(jN u o.A).us.map (·.id)=_;unfold jN;rw[List.filter_map];rfl
 unfold J6;split
 ·rename_i k2
  repeat' split
  all_goals first
   |exact ref (by decide) (by decide)
   |(refine .none (by omega) (by omega) (by omega) (by omega) (λp hp=>by cases hp) hn.symm ?_;rw[hi];show(u.us.map (λv:aS=>v.id)++[]).Perm _;rw[List.append_nil])
 ·split
  ·rename_i k3;split
   ·exact ref (by decide) (by decide)
   ·split
    ·exact ref (by decide) (by decide)
    ·split
     ·rename_i h1;refine .none (by omega) (λe=>h1 e.2) (by omega) (by omega) (λp hp=>by cases hp) rfl ?_;show(pe q++[]).Perm _;rw[List.append_nil]
     ·refine .spawn k3 rfl hn.symm rfl rfl (by rw[hn];rfl) ?_;rw[hi,hn];show(u.us++[(⟨u.next,o.A,o.B⟩:aS)]).map (·.id)=_;rw[List.map_append];rfl
  ·split
   ·rename_i k4;split
    ·exact ref (by decide) (by decide)
    ·rename_i v hv;split
     ·exact ref (by decide) (by decide)
     ·split
      ·exact .drop (.inr ⟨k4,rfl⟩) rfl rfl hn.symm (got hv) hd
      ·refine .none (by omega) (by omega) (by omega) (λe=>by cases e.2) (λp hp=>by cases hp) hn.symm ?_;rw[hi];show((sU u o.A _).us.map (λv:aS=>v.id)++[]).Perm _;rw[List.append_nil];unfold sU;rw[List.map_map];refine List.Perm.of_eq (List.map_congr_left λv _=>?_);simp only[Function.comp];split<;>rfl
   ·split
    ·rename_i k5;split
     ·exact ref (by decide) (by decide)
     ·rename_i v hv;exact .drop (.inl ⟨k5,rfl⟩) rfl rfl hn.symm (got hv) hd
    ·split
     ·rename_i k6;split
      ·refine .none (by omega) (by omega) (by omega) (by omega) (λp hp=>by cases hp) hn.symm ?_;rw[hi];show(u.us.map (λv:aS=>v.id)++[]).Perm _;rw[List.append_nil]
      ·exact ref (by decide) (by decide)
     ·have hz:(u.us.zip (oY mp.g.m u.us)).map (·.1)=u.us:=zip_fst _;refine .none (by omega) (by omega) (by omega) (by omega) (λp hp=>?_) hn.symm ?_
      ·obtain⟨x,h1,h2⟩:=W4 _ _ p hp;rw[hi,h2];refine List.mem_map.2 ⟨x.1,?_,rfl⟩;rw[<-hz];exact List.mem_map.2 ⟨x,h1,rfl⟩
      ·have h:=Tg (w:=mp.g.m.w) (h:=mp.g.m.h) (u.us.zip (oY mp.g.m u.us)) [];have e:(u.us.zip (oY mp.g.m u.us)).map (·.1.id)=u.us.map (·.id):=by
        conv=>rhs;rw[<-hz,List.map_map]
        rfl
       rw[e]at h;rw[hi];exact h
def avR {q:gQ}{o:kS}:aeD q (ir q o).1 o (ir q o).2:=by
 have ref:∀{c:Int},c≠0->c≠13->aeD q q o (kQ c):=λh0 h13=>.none (λe=>h0 e.2) (λe=>h0 e.2) (λe=>h0 e.2) (λe=>h13 e.2) (λp hp=>by cases hp) rfl (by show(pe q++[]).Perm _;rw[List.append_nil]);unfold ir;split
 ·exact ref (by decide) (by decide)
 ·split
  ·rename_i k1;split
   ·exact ref (by decide) (by decide)
   ·exact .load k1 rfl rfl rfl rfl rfl
  ·rename_i k1;split
   ·refine .none (by omega) (by omega) (by omega) (by omega) (λp hp=>by cases hp) rfl ?_;show(pe q++[]).Perm _;rw[List.append_nil]
   ·split
    ·rename_i hu;exact atE hu k1
    ·exact ref (by decide) (by decide)
structure n9 (S:List Int) (lv:List Bool):Prop where
 len:lv.length=60
 at_:∀i:Nat,i<60->gb lv i=decide ((i:Int)∈S)
def n9.perm {S S':List Int}{lv:List Bool}(h:n9 S lv)(hp:S.Perm S'):n9 S' lv:=⟨h.len,λi hi=>by rw[h.at_ i hi];exact decide_eq_decide.2 hp.mem_iff⟩
def n9.nil:n9 [] (List.replicate 60 false):=⟨List.length_replicate,λi hi=>by unfold gb;rw[List.getD_eq_getElem?_getD,List.getElem?_replicate];split<;>rfl⟩
def n9.add {S:List Int}{lv:List Bool}{x:Int}(h:n9 S lv)(hx:0<=x/\x<60):n9 (S++[x]) (lv.set x.toNat true):=by
 refine⟨by rw[List.length_set];exact h.len,λi hi=>?_⟩;rw[apx (by rw[h.len];omega)];by_cases e:i=x.toNat
 ·rw[if_pos e,decide_eq_true];rw[List.mem_append,List.mem_singleton];omega
 ·rw[if_neg e,h.at_ i hi];refine decide_eq_decide.2 ?_;rw[List.mem_append,List.mem_singleton];exact⟨.inl,λh=>h.elim id λh=>by omega⟩
def n9.off {S S':List Int}{lv:List Bool}{x:Int}(h:n9 S lv)(hx:0<=x/\x<60)(hS:∀y,y∈S'↔y∈S/\y≠x):n9 S' (lv.set x.toNat false):=by
 refine⟨by rw[List.length_set];exact h.len,λi hi=>?_⟩;rw[apx (by rw[h.len];omega)];by_cases e:i=x.toNat
 ·rw[if_pos e,decide_eq_false];rw[hS];omega
 ·rw[if_neg e,h.at_ i hi];refine decide_eq_decide.2 ?_;rw[hS];exact⟨λh=>⟨h,by omega⟩,λh=>h.1⟩
def below (S:List Int)(p:Nat):Nat:=(S.filter λx=>decide (x<(p:Int))).length
def acP {p:Nat}:∀{S:List Int},S.Nodup->below S (p+1)=below S p+if(p:Int)∈S then 1 else 0
 |[],_=>rfl
 |x::S,h=>by
  rw[List.nodup_cons]at h;have ih:=acP (p:=p) h.2;unfold below at ih⊢;rw[List.filter_cons,List.filter_cons];by_cases e:(p:Int)=x
  ·rw[if_pos (by simp;omega),if_neg (by simp;omega),if_pos (by rw[e];simp),List.length_cons,ih,if_neg (by rw[e];exact h.1)]
  ·have e2:((p:Int)∈x::S)=((p:Int)∈S):=by rw[List.mem_cons];exact propext ⟨λh=>h.elim (λh=>(e h).elim) id,.inr⟩
   simp only[e2];by_cases hx:x<(p:Int)
   ·rw[if_pos (by simp;omega),if_pos (by simpa using hx),List.length_cons,List.length_cons,ih];omega
   ·rw[if_neg (by simp;omega),if_neg (by simpa using hx),ih]
def apy {S:List Int}{p:Nat}(h:∀x∈S,x<(p:Int)):below S p=S.length:=by unfold below;rw[List.filter_eq_self.2 λx hx=>decide_eq_true (h x hx)]
def amM {S:List Int}(h:∀x∈S,0<=x):below S 0=0:=by unfold below;rw[List.length_eq_zero_iff,List.filter_eq_nil_iff];intro x hx;have:=h x hx;simp;omega
end Go.Proofs.YtmegplnmiepfbaaGreatDoor.S
set_option maxRecDepth 20000
namespace Go.Proofs.YtmegplnmiepfbaaGreatDoor.S
open Go.Sx
attribute [local irreducible] af cv bz bg aA cw bZ St Bx Al App cH cy cD bU aM bF aq bS av ak aW mapA
section
variable {W:World}{lg:wq}{r:DE}{y:yx}{xa fa ma ga ua:Option Addr}{xn xc fc ab mn mc gn gc un uc j:Nat}{A:As}{M:List (Int×Int)}{G S:List Int}{e code d dir id:Int}{fe:CF}{us:List aS}{dp:Option Addr}
def Xu {w:World}{a:Option Addr}{c:Nat}{lv:List Bool}{idx:Int}{K:Bool->Prop}(h:Sl w a 60 c 1 bw lv)(hS:n9 S lv)(hi:idx∈S)(hr:0<=idx/\idx<60)(g:K true):aH idx (60:Nat) (wA a λp=>cv (p.add (idx.toNat*1)) w K):=by refine asr h (k:=idx.toNat) (by omega) (by omega) ?_;rw[hS.at_ _ (by omega),decide_eq_true (by rw[show((idx.toNat:Nat):Int)=idx by omega];exact hi)];exact g
def atG {P8:L3 (OA->Int->L3 (Int->WP))}{Q:Bool->WP}{lv:List Bool}{w:World}(he:e<=60)(hun:un<=65536)(hj:j<=1000)(hr:∀x∈us.map (·.id),0<=x/\x<e)(hlv:n9 (us.map (·.id)) lv)
  (s:Sep No W w [ak ua un uc 43 3 (flat gZ us),ak fa 60 fc 4 1 (flat bw lv),fV r y,A])
  (hk:P8 xa xn xc dp e fa 60 fc ((j+1:Nat):Int) w):∀(k i:Nat),i+k=un->qF P8 Q (k+1) xa xn xc dp e fa 60 fc (j:Int) ua un uc (un:Int) (i:Int) w:=by
 have hU:=aK s (i:=0) rfl z0 (by decide);have hul:=hU.len;intro k;induction k with
 |zero=>
  intro i hi;show nh _ _ _ _ _ _ _ _ _ _ _ _ _ _ _ _ _ _;unfold nh;rw[bh,Df rfl,cond_false,FP (by omega)];exact hk
 |succ k ih=>
  intro i hi;show nh _ _ _ _ _ _ _ _ _ _ _ _ _ _ _ _ _ _;unfold nh;rw[bN];have hui:us[i]? =some (us[i]'(by omega)):=List.getElem?_eq_getElem _;generalize us[i]'(by omega)=v at hui;have hv:v.id∈us.map (·.id):=List.mem_map.2 ⟨v,List.mem_of_getElem? hui,rfl⟩;have hvr:=hr _ hv;have rd:∀{K:Addr->Prop},(∀p:Addr,w.cell? (p.add ((i:Int).toNat*3))=some (ae v.id)->K p)->aH (i:Int) un (wA ua K):=λ{K} g=>
   hU.El rfl (by omega) λp x hx hc=>by rw[hui]at hx;cases hx;have h0:=hc 0 _ rfl;rw[add_zero]at h0;exact g p h0
  refine rd λp c=>aO c ?_;rw[bh];refine rd λp c=>aO c ?_;rw[bh];refine rd λp c=>aO c ?_;refine Xu (aK s (i:=1) rfl Et (by decide)) hlv hv (by omega) ?_;rw[Bool.not_true,cond_false,FP (by omega)];exact ih (i+1) (by omega)
def atH {P8:L3 (OA->Int->L3 (Int->WP))}{Q:Bool->WP}{lv:List Bool}{w:World}(he:e<=60)(hun:un<=65536)(hj:j<=1000)(hr:∀x∈us.map (·.id),0<=x/\x<e)(hnd:(us.map (·.id)).Nodup)(hlv:n9 (us.map (·.id)) lv)
  (s:Sep No W w [ak ua un uc 43 3 (flat gZ us),ak fa 60 fc 4 1 (flat bw lv),fV r y,A])
  (hk:P8 xa xn xc dp e fa 60 fc ((j+1:Nat):Int) w):∀(k i:Nat),i+k=60->qG P8 Q (k+1) xa xn xc dp e fa 60 fc (j:Int) ua un uc (below (us.map (·.id)) i:Int) (i:Int) w:=by
 have hul:=(aK s (i:=0) rfl z0 (by decide)).len;intro k;induction k with
 |zero=>
  intro i hi;show ni _ _ _ _ _ _ _ _ _ _ _ _ _ _ _ _ _ _;unfold ni;rw[bh];have e1:below (us.map (·.id)) i=un:=by rw[apy λx hx=>by have:=hr x hx;omega,List.length_map,hul]
  rw[e1];exact⟨un+1,atG he hun hj hr hlv s hk un 0 (by omega)⟩
 |succ k ih=>
  intro i hi;show ni _ _ _ _ _ _ _ _ _ _ _ _ _ _ _ _ _ _;unfold ni;rw[bN];refine asr (aK s (i:=1) rfl Et (by decide)) (k:=i) rfl (by omega) ?_;have hb:=acP (p:=i) hnd;have hle:below (us.map (·.id)) i<=un:=by unfold below;have:=List.length_filter_le (λx=>decide (x<(i:Int))) (us.map (·.id));rw[List.length_map]at this;omega
  rw[hlv.at_ i (by omega)];have ih:=ih (i+1) (by omega);rw[hb]at ih;by_cases hm:(i:Int)∈us.map (·.id)
  ·rw[bN hm,FP (by omega),FP (by omega)];rw[if_pos hm]at ih;exact ih
  ·rw[bh hm,FP (by omega)];rw[if_neg hm]at ih;exact ih
noncomputable def idR (r:DE)(y:yx)(A:As)(ab:Nat)(ma ga:Option Addr)(mn mc gn gc:Nat)(code d dir id:Int)(fe:CF)(M:List (Int×Int))(G:List Int):List As:=
 [av ab 34 (Te code d dir id ma mn mc ga gn gc fe),ak ma mn mc 51 2 (flat lq M),ak ga gn gc 3 1 (flat one G),fV r y,A]
def atJ {P8:L3 (OA->Int->L3 (Int->WP))}{Q:Bool->WP}{u:rF}(he:e<=60)(hj:j<=1000)(vH:y.p.us=some u)(hlen:u.us.length<=65536)(hG:G.length<=65536)(hr:∀x∈u.us.map (·.id)++G,0<=x/\x<e)(hnd:(u.us.map (·.id)++G).Nodup)
  (hk:∀lv w,n9 (u.us.map (·.id)) lv->Sep No W w [ak fa 60 fc 4 1 (flat bw lv),fV r y,A]->P8 xa xn xc (sZ r.p) e fa 60 fc ((j+1:Nat):Int) w):
  ∀(k i:Nat) (lv:List Bool) (w:World),i+k=gn->n9 (u.us.map (·.id)++G.drop i) lv->Sep No W w (ak fa 60 fc 4 1 (flat bw lv)::idR r y A ab ma ga mn mc gn gc code d dir id fe M G)->
   qH P8 Q (k+1) xa xn xc (sZ r.p) e fa 60 fc (j:Int) (aZ ab) (i:Int) w:=by
 intro k;induction k with
 |zero=>
  intro i lv w hi hlv s;show nj _ _ _ _ _ _ _ _ _ _ _ _ _ _ _;unfold nj;have hgl:=(aK s (i:=3) rfl cE (by decide)).len;refine lS s 1 rfl ?_;rw[bh];rw[List.drop_eq_nil_of_le (by omega),List.append_nil]at hlv;obtain⟨x,hx,ex⟩:=asp vH;have s:Sep No W w [fV r y,ak fa 60 fc 4 1 (flat bw lv),A]:=pk 6 [4,0,5] s;refine N9 hx s λua un uc w s=>?_;rw[ex]at s;have hul:=(aK s (i:=0) rfl z0 (by decide)).len;have s:=pk 4 [0,2,1,3] s;rw[List.nodup_append]at hnd;have hr':∀x∈u.us.map (·.id),0<=x/\x<e:=λx hx=>hr x (List.mem_append_left _ hx);refine⟨61,?_⟩;have:=atH (P8:=P8) (Q:=Q) (xa:=xa) (xn:=xn) (xc:=xc) (j:=j) (dp:=sZ r.p) he (by omega) hj hr' hnd.1 hlv s (hk lv w hlv (ai s)) 60 0 rfl;rw[amM λx hx=>(hr' x hx).1]at this;exact this
 |succ k ih=>
  intro i lv w hi hlv s;show nj _ _ _ _ _ _ _ _ _ _ _ _ _ _ _;unfold nj;have hGs:=aK s (i:=3) rfl cE (by decide);have hgl:=hGs.len;refine lS s 1 rfl ?_;rw[bN];refine lS s 1 rfl ?_;refine hGs.rE (k:=i) rfl (by omega) ?_;have hgi:=ig (l:=G) (i:=i) (by omega);have hdr:G.drop i=gi G i::G.drop (i+1):=by rw[List.drop_eq_getElem_cons (by omega)];congr 1;exact Option.some.inj ((List.getElem?_eq_getElem _).symm.trans hgi)
  generalize gi G i=g at*;have hgr:=hr g (List.mem_append_right _ (List.mem_of_getElem? hgi));rw[hdr]at hlv;have ait:(u.us.map (·.id)++g::G.drop (i+1)).Nodup:=by rw[<-hdr];exact hnd.sublist (List.Sublist.append_left (List.drop_sublist _ _) _)
  rw[List.nodup_append,List.nodup_cons]at ait;rw[bh,bh];refine Xu (aK s (i:=0) rfl Et (by decide)) hlv (by simp) (by omega) ?_;rw[Bool.not_true,cond_false];refine Ct Et s (i:=0) (k:=g.toNat) (x':=false) rfl (by omega) (by rw[hlv.len];omega) rfl rfl λw s=>?_;rw[FP (by omega)];refine ih (i+1) _ w (by omega) (hlv.off (by omega) λx=>?_) s;rw[List.mem_append,List.mem_append,List.mem_cons];constructor
  ·rintro (h|h)
   ·exact⟨.inl h,λe=>ait.2.2 _ h g (List.mem_cons_self ..) e⟩
   ·exact⟨.inr (.inr h),λe=>ait.2.1.1 (e▸h)⟩
  ·rintro ⟨h|h|h,hne⟩
   ·exact .inl h
   ·exact(hne h).elim
   ·exact .inr h
def Xv {P8:L3 (OA->Int->L3 (Int->WP))}{Q:Bool->WP}{u:rF}(he:e<=60)(hj:j<=1000)(vH:y.p.us=some u)(hlen:u.us.length<=65536)(hM:M.length<=65536)(hG:G.length<=65536)(hS:(u.us.map (·.id)++G).Perm S)(hr:∀x∈S,0<=x/\x<e)(hnd:S.Nodup)(hm:∀p∈M,p.1∈S)
  (hk:∀lv w,n9 (u.us.map (·.id)) lv->Sep No W w [ak fa 60 fc 4 1 (flat bw lv),fV r y,A]->P8 xa xn xc (sZ r.p) e fa 60 fc ((j+1:Nat):Int) w){lv:List Bool}{w:World}(hlv:n9 S lv)
  (s:Sep No W w (ak fa 60 fc 4 1 (flat bw lv)::idR r y A ab ma ga mn mc gn gc code d dir id fe M G)):
  ∀(k i:Nat),i+k=mn->dG P8 Q (k+1) xa xn xc (sZ r.p) e fa 60 fc (j:Int) (aZ ab) (i:Int) w:=by
 have hMs:=aK s (i:=2) rfl Jl (by decide);have hml:=hMs.len;intro k;induction k with
 |zero=>
  intro i hi;show nk _ _ _ _ _ _ _ _ _ _ _ _ _ _ _;unfold nk;refine lS s 1 rfl ?_;rw[bh];exact⟨gn+1,atJ he hj vH hlen hG (λx hx=>hr x (hS.mem_iff.1 hx)) (hS.nodup_iff.2 hnd) hk gn 0 lv w (by omega) (hlv.perm hS.symm) s⟩
 |succ k ih=>
  intro i hi;show nk _ _ _ _ _ _ _ _ _ _ _ _ _ _ _;unfold nk;refine lS s 1 rfl ?_;rw[bN];refine lS s 1 rfl ?_;refine hMs.El rfl (by omega) λp x hx hc=>?_;have h0:=hc 0 _ rfl;rw[add_zero]at h0;refine aO h0 ?_;have hin:=hm x (List.mem_of_getElem? hx);have hxr:=hr _ hin;rw[bh,bh];refine Xu (aK s (i:=0) rfl Et (by decide)) hlv hin (by omega) ?_;rw[Bool.not_true,cond_false,FP (by omega)];exact ih (i+1) (by omega)
end
def akb (w h:Int)(c:List Int)(xs:List yU):(Fm w h c xs).length<=1+xs.length:=by
 unfold Fm;have:∀(xs:List yU) (m:bM),(Nl w h c m xs).length=xs.length:=by
  intro xs;induction xs with
  |nil=>intro m;rfl
  |cons x xs ih=>intro m;show(_::Nl w h c _ xs).length=_;rw[List.length_cons,ih,List.length_cons]
 rw[List.length_cons,this,List.length_take];omega
section
variable {W:World}{lg:wq}{r:DE}{y:yx}{xa fa ma ga ua la ca:Option Addr}{xn xc fc ab mn mc gn gc un uc j ln lc cn cc:Nat}{A:As}{S:List Int}{e dir:Int}{fe:CF}{us:List aS}{X:List kS}{vs:List O.FG}{o:kS}{a:W0}
def atK {P8:L3 (OA->Int->L3 (Int->WP))}{Q:Bool->WP}{u:rF}{lv:List Bool}{w:World}(hX:∀{F' W' w2 L2},Sep F' W' w2 (A::L2)->O.aaE w2 xa xn xc vs X)(ho:X[j]? =some o)(he:e<=60)(hj:j<=1000)(vH:y.p.us=some u)(hlen:u.us.length<=65536)(hm:a.yO=[])(hg:a.gone=[])
  (hA:o.A∈S)(hS:u.us.map (·.id)=S.filter λx=>!decide (x=o.A))(hr:∀x∈S,0<=x/\x<e)(hnd:S.Nodup)
  (hk:∀lv w,n9 (u.us.map (·.id)) lv->Sep No W w [ak fa 60 fc 4 1 (flat bw lv),fV r y,A]->P8 xa xn xc (sZ r.p) e fa 60 fc ((j+1:Nat):Int) w)(hlv:n9 S lv)
  (s:Sep No W w (ak fa 60 fc 4 1 (flat bw lv)::idR r y A ab ma ga mn mc gn gc a.code a.d a.dir a.id fe a.yO a.gone)):
  kG P8 Q xa xn xc (sZ r.p) e fa 60 fc (j:Int) (aZ ab) w:=by
 unfold kG;have hAr:=hr _ hA;have rd:∀{K:Addr->Prop},(∀p:Addr,w.cell? ((p.add ((j:Int).toNat*4)).add 1)=some (ae o.A)->K p)->aH (j:Int) xn (wA xa K):=λ{K} g=>
  (hX (pk 6 [5] s)).El rfl ho λp va vn vc hv hc=>g p (hc 1 _ rfl)
 refine rd λp c=>aO c ?_;rw[bh];refine rd λp c=>aO c ?_;refine Xu (aK s (i:=0) rfl Et (by decide)) hlv hA (by omega) ?_;rw[Bool.not_true,cond_false];refine rd λp c=>aO c ?_;refine Ct Et s (i:=0) (k:=o.A.toNat) (x':=false) rfl (by omega) (by rw[hlv.len];omega) rfl rfl λw s=>?_;refine⟨mn+1,Xv (S:=u.us.map (·.id)) he hj vH hlen (by rw[hm];decide) (by rw[hg];decide) (by rw[hg,List.append_nil]) (λx hx=>?_) ?_ (λp hp=>by rw[hm]at hp;cases hp) hk (hlv.off (by omega) λx=>?_) s mn 0 (by omega)⟩
 ·rw[hS]at hx;exact hr x (List.mem_filter.1 hx).1
 ·rw[hS];exact hnd.sublist List.filter_sublist
 ·rw[hS,List.mem_filter];simp
def avT {P8:L3 (OA->Int->L3 (Int->WP))}{Q:Bool->WP}{q:gQ}{u:rF}{lv:List Bool}{w:World}(hX:∀{F' W' w2 L2},Sep F' W' w2 (A::L2)->O.aaE w2 xa xn xc vs X)(ho:X[j]? =some o)(hj:j<=1000)(hK:aeD q y.p o a)(vH:y.p.us=some u)(hlen:u.us.length<=65536)(hM:a.yO.length<=65536)(hG:a.gone.length<=65536)
  (he:nx q<60)(h0:0<=nx q)(hr:∀x∈pe q,0<=x/\x<nx q)(hnd:(pe q).Nodup)(hlv:n9 (pe q) lv)(hrn:∀x∈pe y.p,0<=x/\x<nx y.p)(avU:(pe y.p).Nodup)
  (hk:∀fa fc lv w,n9 (pe y.p) lv->Sep No W w [ak fa 60 fc 4 1 (flat bw lv),fV r y,A]->P8 xa xn xc (sZ r.p) (nx y.p) fa 60 fc ((j+1:Nat):Int) w)
  (s:Sep No W w (ak fa 60 fc 4 1 (flat bw lv)::idR r y A ab ma ga mn mc gn gc a.code a.d a.dir a.id fe a.yO a.gone)):
  aH (j:Int) xn (wA xa λm1=>af .i64 (m1.add ((j:Int).toNat*4)) w λn1=>cond (n1==1) (af .i64 (aZ ab) w λo1=>cond (o1==0)
   ((cy P 49 (ae 60) (ae 60) w.drew λp1 q1 r1 w=>∃k',dG P8 Q k' xa xn xc (sZ r.p) 0 p1 q1 r1 (j:Int) (aZ ab) 0 w)/\
    (cy P 49 (ae 60) (ae 60) w.drew λp1 q1 r1 w=>∃k',dG P8 Q k' xa xn xc (sZ r.p) 0 p1 q1 r1 (j:Int) (aZ ab) 0 w))
   (jh P8 Q xa xn xc (sZ r.p) (nx q) fa 60 fc (j:Int) (aZ ab) w))
   (jh P8 Q xa xn xc (sZ r.p) (nx q) fa 60 fc (j:Int) (aZ ab) w)):=by
 have hi:pe y.p=u.us.map (·.id):=by unfold pe;rw[vH]
 have hn:nx y.p=u.next:=by unfold nx;rw[vH]
 rw[hi]at hk hrn avU;have rd:∀{K:Int->Prop},K o.k->aH (j:Int) xn (wA xa λm=>af .i64 (m.add ((j:Int).toNat*4)) w K):=λ{K} g=>
  (hX (pk 6 [5] s)).El rfl ho λp va vn vc hv hc=>by have h0:=hc 0 _ rfl;rw[add_zero]at h0;exact aO h0 g
 have ld:∀{K:Int->Prop},K a.code->af .i64 (aZ ab) w K:=λg=>lI s 1 rfl g;refine rd ?_;have b13:¬(o.k=1/\a.code=0)->jh P8 Q xa xn xc (sZ r.p) (nx q) fa 60 fc (j:Int) (aZ ab) w:=λhne=>by
  have b24:(¬(o.k=3/\a.code=0))->(¬(o.k=5/\a.code=0))->(¬(o.k=4/\a.code=13))->∃k',dG P8 Q k' xa xn xc (sZ r.p) (nx q) fa 60 fc (j:Int) (aZ ab) 0 w:=λh3 h5 h4=>by
   cases hK with
   |load hk hc=>exact(hne ⟨hk,hc⟩).elim
   |spawn hk hc=>exact(h3 ⟨hk,hc⟩).elim
   |drop hk=>exact(hk.elim h5 h4).elim
   |none h1 h3 h5 h4 hm Hu hp=>
     rw[hi]at hp;rw[Hu]at hk;exact⟨mn+1,Xv (by omega) hj vH hlen hM hG hp hr hnd hm (hk fa fc) hlv s mn 0 (by omega)⟩
  have b20:(o.k=5/\a.code=0\/o.k=4/\a.code=13)->kG P8 Q xa xn xc (sZ r.p) (nx q) fa 60 fc (j:Int) (aZ ab) w:=λh=>by
   cases hK with
   |load hk hc=>omega
   |spawn hk hc=>omega
   |drop hk' hm hg Hu hA TB=>
     rw[hi]at TB;rw[Hu]at hk;exact atK hX ho (by omega) hj vH hlen hm hg hA TB hr hnd (hk fa fc) hlv s
   |none h1 h3 h5 h4 hm Hu hp=>exact(h.elim h5 h4).elim
  have b19:¬(o.k=3/\a.code=0)->¬(o.k=5/\a.code=0)->nq P8 Q xa xn xc (sZ r.p) (nx q) fa 60 fc (j:Int) (aZ ab) w:=λh3 h5=>by
   unfold nq;refine rd ?_;by_cases k4:o.k=4
   · rw[dw k4,cond_true];refine ld ?_;by_cases c13:a.code=13
     ·rw[dw c13,cond_true];exact b20 (.inr ⟨k4,c13⟩)
     ·rw[cB c13,cond_false];exact b24 h3 h5 λh=>c13 h.2
   ·rw[cB k4,cond_false];exact b24 h3 h5 λh=>k4 h.1
  have b18:¬(o.k=3/\a.code=0)->nu P8 Q xa xn xc (sZ r.p) (nx q) fa 60 fc (j:Int) (aZ ab) w:=λh3=>by
   unfold nu;refine rd ?_;by_cases k5:o.k=5
   · rw[dw k5,cond_true];refine ld ?_;by_cases c0:a.code=0
     ·rw[dw c0,cond_true];exact b20 (.inl ⟨k5,c0⟩)
     ·rw[cB c0,cond_false];exact b19 h3 λh=>c0 h.2
   ·rw[cB k5,cond_false];exact b19 h3 λh=>k5 h.1
  unfold jh;refine rd ?_;by_cases k3:o.k=3
  ·rw[dw k3,cond_true];refine ld ?_;by_cases c0:a.code=0
   · rw[dw c0,cond_true];cases hK with
     |load hk hc=>omega
     |drop hk'=>omega
     |none h1 h3=>exact(h3 ⟨k3,c0⟩).elim
     |spawn hk' hc yq hm hg Hu TB=>
      rw[hi]at TB;rw[Hu]at hk;refine lI s 1 rfl ?_;rw[Df yq,cond_false,bh];refine Ct Et s (i:=0) (k:=(nx q).toNat) (x':=true) rfl (by omega) (by rw[hlv.len];omega) rfl rfl λw s=>?_;have avV:=hlv.add (x:=nx q) (by omega);rw[<-TB]at avV;rw[aG];exact⟨mn+1,Xv (S:=u.us.map (·.id)) (by omega) hj vH hlen hM hG (by rw[hg,List.append_nil]) (by rw[<-Hu];exact hrn) avU (λp hp=>by rw[hm]at hp;cases hp) (hk fa fc) avV s mn 0 (by omega)⟩
   ·rw[cB c0,cond_false];exact b18 λh=>c0 h.2
  ·rw[cB k3,cond_false];exact b18 λh=>k3 h.1
 by_cases k1:o.k=1
 ·rw[dw k1,cond_true];refine ld ?_;by_cases c0:a.code=0
  ·rw[dw c0,cond_true];cases hK with
   |spawn hk=>omega
   |drop hk'=>omega
   |none h1=>exact(h1 ⟨k1,c0⟩).elim
   |load hk' hc hm hg Hu TB=>
     rw[hi]at TB;rw[Hu]at hk;have s:=ay s;have go:cy P 49 (ae 60) (ae 60) w.drew λp1 q1 r1 w=>∃k',dG P8 Q k' xa xn xc (sZ r.p) 0 p1 q1 r1 (j:Int) (aZ ab) 0 w:=by refine sY (f:=bw) (x0:=false) (size:=1) (bytes:=1) (ln:=60) (cn:=60) dW s rfl rfl rfl rfl rfl rfl (by decide) Et rfl (λu hu=>apw false u hu) rfl rfl (Nat.le_refl _) (by decide) (by decide) λxb w s=>?_;have s:=gw s (.cons_cons _ (.cons _ (List.Sublist.refl _)));exact⟨mn+1,Xv (S:=[]) (by decide) hj vH hlen hM hG (by rw[hg,TB];exact .refl _) (λx hx=>by cases hx) .nil (λp hp=>by rw[hm]at hp;cases hp) (hk _ _) n9.nil s mn 0 (by omega)⟩
     exact⟨go,go⟩
  ·rw[cB c0,cond_false];exact b13 λh=>c0 h.2
 ·rw[cB k1,cond_false];exact b13 λh=>k1 h.1
end
section
variable {W:World}{lg:wq}{xa fa la ca:Option Addr}{xn xc ln lc cn cc:Nat}{A:As}{X:List kS}{vs:List O.FG}
def afK {t:Int}{q:gQ}(h:CN t q):0<=nx q/\nx q<=t/\(∀x∈pe q,0<=x/\x<nx q)/\(pe q).Nodup:=by
 have ht:=h.tp;unfold nx pe;rcases h.st with⟨_,e⟩|⟨m,u,_,e,hn,hx⟩
 ·rw[e];exact⟨Int.le_refl _,ht,λx hx=>(by cases hx),.nil⟩
 ·rw[e];refine⟨hn.nx,hx,λx hx=>?_,?_⟩
  ·obtain⟨v,hv,rfl⟩:=List.mem_map.1 hx;exact⟨hn.us.pos v hv,hn.lt v hv⟩
  ·exact hn.us.ids.imp λh e=>by omega
def art {Q:Bool->World->Prop}(hL:jw W lg)(hX:∀{F' W' w2 L2},Sep F' W' w2 (A::L2)->O.aaE w2 xa xn xc vs X)(hx:xn<=59)(hin:∀o∈X,Mo o)
  (hup:∀i,0<i->(O1 (ajs 2 5) (X.take i)).bR.o≠none)(hQ:∀w',Sep No W w' []->Q true w'):
  ∀(k i:Nat) (fa:Option Addr) (fc:Nat) (lv:List Bool) (w:World) (r:DE) (y:yx),i+k=xn->y.p=O1 (ajs 2 5) (X.take i)->CN i y.p->n9 (pe y.p) lv->Sep No W w [ak fa 60 fc 4 1 (flat bw lv),fV r y,A]->
   rM Q (k+1) xa xn xc (sZ r.p) (nx y.p) fa 60 fc (i:Int) w:=by
 intro k;induction k with
 |zero=>
  intro i fa fc lv w r y hi hy hI hlv s;show nW _ _ _ _ _ _ _ _ _ _ _ _;unfold nW;rw[bh];refine aka (hL.fr (au s)) s λw s _=>?_;exact hQ w (bX (bt (F:=No)) (au s))
 |succ k ih=>
  intro i fa fc lv w r y hi hy hI hlv s;show nW _ _ _ _ _ _ _ _ _ _ _ _;unfold nW;rw[bN];have s:Sep No W w [fV r y,A,ak fa 60 fc 4 1 (flat bw lv)]:=pk 3 [1,2,0] s;have hXl:=(hX (jk s)).2.1;have ho:X[i]? =some (X[i]'(by omega)):=List.getElem?_eq_getElem _;generalize X[i]'(by omega)=o at ho;have avX:=hin o (List.mem_of_getElem? ho);have Jc:=arq (q:=ajs 2 5) (i:=i) (by omega) ho;rw[<-hy]at Jc;have avY:=hup (i+1) (by omega);rw[Jc]at avY;have hI1:=agV hI avX;obtain⟨m1,u1,f1,f2,f3,f4⟩:=hI1.at_ avY;have hl:=avP (o:=o) hI;obtain⟨k1,k2,k3,k4⟩:=afK hI;obtain⟨n1,n2,n3,n4⟩:=afK hI1;have hmo:=hI1.mo;have hlen:=f3.len;refine(hX (jk s)).El rfl ho λp va vn vc hv hc=>?_;refine aO (hc 0 _ rfl) (aO (hc 1 _ rfl) (aO (hc 2 _ rfl) (dJ (hc 3 _ rfl) ?_)));refine acM (o:=o) hL avX (λw' s'=>((hX s').2.2 i _ o hv ho).m) (hI.sm (by omega)) s λr' y' ma mn mc ga gn gc ab w er ey s=>?_;have hK:aeD y.p y'.p o (ir y.p o).2:=by rw[ey];exact avR
  rw[<-ey]at f2 n3 n4 hI1;rw[<-er];refine avT hX ho (by omega) hK f2 (by omega) hl.1 hl.2 (by omega) k1 k3 k4 hlv n3 n4 (λfa fc lv w hlv s=>?_) (pk 6 [5,0,1,2,3,4] s);exact ih (i+1) fa fc lv w r' y' (by omega) (by rw[ey,<-Jc]) hI1 hlv s
def ajt {Q:Bool->World->Prop}{mw mh:Int}{cs:List Int}{xs:List yU}(hL:jw W lg)(hC:Sl W ca cn cc 1 bu cs)(hcs:eA cs)(V2:cn<9223372036854775808)(hA:Sl W la ln lc 3 O.aeA xs)(hQ:∀w',Sep No W w' []->Q true w'):
  BZ mw mh ca cn cc la ln lc W Q:=by
 refine LB _ _ _ _ _ _ _ _ _ _ ?_;refine apr (k:=50) hA λa1 c1 hA=>?_;refine O.aeB (bt (F:=No) (w:=W)) hC hcs V2 hA λxa xn xc w1 A s f ⟨vs,hX⟩=>?_;have hin:=apt (w:=mw) (h:=mh) hcs (xs.take (min ln 50));have hup:=λi hi=>apv (w:=mw) (h:=mh) hcs (xs.take (min ln 50)) (ajs 2 5) (i:=i) hi;have hl1:=akb mw mh cs (xs.take (min ln 50));rw[List.length_take]at hl1;generalize Fm mw mh cs (xs.take (min ln 50))=X at*;have hXl:=(hX s).2.1;refine TP (by decide) (by decide) s λr y w ey s=>mN ?_;refine sY (f:=bw) (x0:=false) (size:=1) (bytes:=1) (ln:=60) (cn:=60) dW s rfl rfl rfl rfl rfl rfl (by decide) Et rfl (λu hu=>apw false u hu) rfl rfl (Nat.le_refl _) (by decide) (by decide) λxb w s=>?_;have hI:CN 0 y.p:=by rw[ey];exact aso (k:=2) (by decide)
 have:=art hL hX (by omega) hin hup hQ xn 0 _ _ _ w r y (by omega) ey hI (by rw[ey];exact n9.nil) s;rw[show nx y.p=0 by rw[ey];rfl]at this;exact⟨xn+1,this⟩
end
end Go.Proofs.YtmegplnmiepfbaaGreatDoor.S
namespace Go.Proofs.YtmegplnmiepfbaaGreatDoor.S
open Go.Sx
abbrev two (N c0 c1:Int):List aS:=[⟨0,c0,N-1⟩,⟨1,c1,0⟩]
end Go.Proofs.YtmegplnmiepfbaaGreatDoor.S
set_option maxRecDepth 20000
namespace Go.Proofs.YtmegplnmiepfbaaGreatDoor.S
open Go.Sx
attribute [local irreducible] af cv bz bg aA cw bZ St Bx Al App cH cy cD bU aM bF aq bS av ak aW mapA
end Go.Proofs.YtmegplnmiepfbaaGreatDoor.S
namespace Go.Sx
open Go.ChangeShapes Go.WideShapes Go.RowKit
def apA (X:World->Prop)(P:Program)(f:FuncId)(UW:List Sh):Prop:=
 ∀(W:World) (args:List Value),X W->Bn W UW args->aq P f args.toArray W λv W'=>dB v λr=>r=true/\Below W.heap.size W W'
def av3 {H:Type}{enc:TypeId×Value->H}{C:Checked}{os:Os}{f:FuncId}{fn:Func}{s:ChangeSpec}{conds:List PathCond}{ts:List TypeId}{UW:List Sh}{tb:TypeId}{fuel:Nat}{X:World->Prop}
  (hX:∀w w':World,w.heap=w'.heap->X w->X w')
  (own:ownKnob C.prog.godebug=none)(started:os.Started)(noInit:C.prog.inits.idxOf? f=none)(hfn:C.prog.funcs[f]? =some fn)
  (witness:∃(w:World) (tape:Tape) (i:Input),w.os=os/\(w.forCall tape i).Shaped C.prog/\i.vars=[]/\Input.okWide C.prog (w.forCall tape i) .any w.heap.size f i/\
   ((s.pre enc C.prog fn conds false (w.forCall tape i).memory i.args/\X (w.forCall tape i).memory)/\sizedMet enc C.prog fn (OpenSpec.ofChange s) false (w.forCall tape i).memory i.args)/\({}:Assume).holds C.prog (lone (Frame.enter C.prog f i.args .normal) [] (w.forCall tape i)))
  (hl:laidOutB C.prog=true)(hts:fn.params.toList=ts)(ayU:ts.map (KX C.prog fuel)=UW.map some)(hrd:(ts.all λt=>C.prog.readableRec t&&decide (t<C.prog.types.size))=true)
  (hvars:s.vars=[])(hres:fn.resultTypes=#[tb])(htb:C.prog.underlying tb=some .bool)
  (hspec:∀(ds:List (DataW H)),ds.length=ts.length->s.fn H ds={results:=[.lit (.bool true)],args:=ds})
  (law:apA X C.prog f UW):
  ReturnsInHanded {} C os f .any (λw args=>(s.pre enc C.prog fn conds false w args/\X w)/\sizedMet enc C.prog fn (OpenSpec.ofChange s) false w args) (s.post enc C.prog fn false true false false):=by
 apply returnsInHanded_of_change_and (λw w' _ hh h=>hX w w' hh h) own started noInit hfn witness;intro W base args ds gs before hval hW _ _ hXW _;have hW':=hW;obtain⟨p,q,hA,hV,rfl,hfz,hnd⟩:=hW;rw[hvars]at hV;obtain⟨rfl,rfl⟩:=trodVars_none hV;rw[hts]at hA;have avZ:=ahj ayU (λj t v ht hv=>hval j t v (by grind) (by grind)) hA;have hlt:∀x∈p,x.block<W.heap.size:=λx hx=>hW'.lt x (by simp[hx]);have hc:=law W args.toList hXW avZ;unfold aq at hc;refine hc.mono λe W' he=>?_;cases e with
 |returned v=>
  obtain⟨r,rfl,rfl,bel⟩:=Hz he;have hsp:=hspec ds (Pa hA);refine⟨_,rfl,ds,[],p++[],[],p,[],hW',?_,?_,?_,bel.frame _,λh=>by cases h⟩
  ·rw[List.append_nil,hsp,hres];exact trodAll_mk1 (shut_bool htb _)
  ·rw[List.append_nil,hsp,hts];exact Tn hl bel hrd hA hlt
  ·rw[List.append_nil,hsp,hvars];simp[DataW.TrodVars]
 |_=>exact he.elim
end Go.Sx
namespace Go.Proofs.YtmegplnmiepfbaaGreatDoor.S
open Go.Sx
def asu: "*"++ "errors.errorString"= "*errors.errorString":=by decide
def ayV (u:TypeId)(h:P.typeName? 3 u=some "*errors.errorString"):u=401:=
 typeName_ptr_named (by rw[asu];kernel_rfl) (by kernel_rfl) (by decide) u (by rw[asu];exact h)
def av0:P.cellsOf 422=1:=by kernel_rfl
def aru:P.cellsOf 9=1:=by kernel_rfl
def RowsIn (W:World)(ps:List MemPlace):Prop:=∀b off,MemPlace.cell b off∈ps->(∃c t,W.heap[b]? =some (.cells c t (0,0)))/\∀u v,W.cell? ⟨b,off,none⟩=some (.iface u v)->Value.okWide P W .any 0 u v
set_option maxRecDepth 100000 in
theorem Im {W:World}{n:String}{g:Nat}{text:List UInt8}{rest:List (String×DataW Unit)}{ps:List MemPlace}(hg:P.globalNamed n=some g)(ht:(P.globals[g]?).map (·.type)=some 74)
  (h:DataW.LaidVars P W ((n,.iface "*errors.errorString" (.ptr (.agg [.lit (.string text)])))::rest) ps)(hr:RowsIn W ps):
  ∃a q,W.cell? ⟨g,0,none⟩=some (.iface 401 (.pointer (some a)))/\(∃c t,W.heap[a.block]? =some (.cells c t (0,0)))/\DataW.LaidVars P W rest q/\RowsIn W q/\ps=.cell g 0::.cell a.block a.off::q:=by
 obtain⟨g0,t0,cs,f,p,q,hg0,ht0,hv,hd,hq,rfl⟩:=h;obtain rfl:=Option.some.inj (hg.symm.trans hg0);obtain rfl:=Option.some.inj (ht.symm.trans ht0);obtain⟨l⟩:=cs;have ok:∀u v,l=[.iface u v]->Value.okWide P W .any 0 u v:=λu v e=>by subst e;exact(hr g 0 (by simp[MemPlace.row])).2 u v (by simpa using World.var?_cell hg hv 0)
 obtain⟨a,s,rfl,hc,hs,hz,rfl⟩:=errorString_of_trod Go.Proofs.Tryz.underlying74 ayV Go.Proofs.Tryz.underlying401 Go.Proofs.Tryz.underlying422 rfl rfl Go.Proofs.Tryz.underlying9 av0 aru hd ok;refine⟨a,q,by simpa using World.var?_cell hg hv 0,(hr a.block a.off (by simp[MemPlace.row])).1,hq,λb off hm=>hr b off (by simp[hm]),by simp[MemPlace.row]⟩
def amN:List (String×DataW Unit):=[("errors.errorType",Rows.laid_errors_errorType),("herdsman/pack.errEnd",Rows.laid_herdsman_pack_errEnd),("herdsman/pack.errForm",Rows.laid_herdsman_pack_errForm),("herdsman/nav.errNoMap",Rows.laid_herdsman_nav_errNoMap),("herdsman/nav.errBounds",Rows.laid_herdsman_nav_errBounds),("herdsman/nav.errField",Rows.laid_herdsman_nav_errField),("herdsman/svc.errScript",Rows.laid_herdsman_svc_errScript)]
def g1:P.globalNamed "errors.errorType"=some 1:=by kernel_rfl
def rtT:(P.cutTypes.find? (·.1== "internal/reflectlite.rtype")).map (·.2)=some 219:=by kernel_rfl
def av1:((List.range P.types.size).filter λt=>P.rowNamed t [101,114,114,111,114])=[74]:=by kernel_rfl
set_option maxRecDepth 100000 in
theorem arv {W:World}(h:laidMetH P amN W):∃lg,jw W lg:=by
 have h':laidMet P [("herdsman/pack.errEnd",Rows.laid_herdsman_pack_errEnd),("herdsman/pack.errForm",Rows.laid_herdsman_pack_errForm),("herdsman/nav.errNoMap",Rows.laid_herdsman_nav_errNoMap),("herdsman/nav.errBounds",Rows.laid_herdsman_nav_errBounds),("herdsman/nav.errField",Rows.laid_herdsman_nav_errField),("herdsman/svc.errScript",Rows.laid_herdsman_svc_errScript)] W/\handlesMet P [("errors.errorType",Rows.laid_errors_errorType)] W:=h;obtain⟨⟨ps,hv,hnd,hr⟩,hh⟩:=h';obtain⟨name,u,ty,e1,e2,e3,e4,e5⟩:=hh _ (List.mem_singleton.2 rfl);have en:=(Option.some.inj e1).symm;subst en;obtain rfl:=Option.some.inj (rtT.symm.trans e2);have hm:ty∈(List.range P.types.size).filter λt=>P.rowNamed t [101,114,114,111,114]:=List.mem_filter.2 ⟨List.mem_range.2 e3,e4⟩;rw[av1]at hm;obtain rfl:=List.mem_singleton.1 hm;have ht:typeHandle P 74=.pointer (some ⟨8,74,none⟩):=by kernel_rfl
 rw[ht]at e5;have hr:=hr;obtain⟨a6,q6,v6,b6,hv1,hr1,k6⟩:=Im (g:=6) (by kernel_rfl) (by kernel_rfl) hv hr;obtain⟨a5,q5,v5,b5,hv2,hr2,k5⟩:=Im (g:=5) (by kernel_rfl) (by kernel_rfl) hv1 hr1;obtain⟨a2,q2,v2,b2,hv3,hr3,k2⟩:=Im (g:=2) (by kernel_rfl) (by kernel_rfl) hv2 hr2;obtain⟨a3,q3,v3,b3,hv4,hr4,k3⟩:=Im (g:=3) (by kernel_rfl) (by kernel_rfl) hv3 hr3;obtain⟨a4,q4,v4,b4,hv5,hr5,k4⟩:=Im (g:=4) (by kernel_rfl) (by kernel_rfl) hv4 hr4;obtain⟨a0,q0,v0,b0,hv6,hr6,k0⟩:=Im (g:=0) (by kernel_rfl) (by kernel_rfl) hv5 hr5;subst k0 k4 k3 k2 k5 k6;refine⟨⟨a0,a2,a3,a4,a5,a6⟩,v0,by simpa[rt]using World.var?_cell g1 e5 0,v2,v3,v4,v5,v6,?_,?_,b2,b3,b5,b6⟩
 all_goals grind
end Go.Proofs.YtmegplnmiepfbaaGreatDoor.S
namespace Go.Proofs.YtmegplnmiepfbaaGreatDoor.S
open Go.Sx
def av2:Sh:=.agg 3 [(0,1,.int .i64),(1,1,.int .i64),(2,1,.int .i64)]
def arw {W:World}{v:Value}(h:RdV W (.sl 3 av2) v):∃a n c xs,v=.slice a n c/\n<=maxLen/\Sl W a n c 3 O.aeA xs:=by
 obtain⟨a,n,c,xs,rfl,k1,k2,k3,k4,k5⟩:=akj (f:=O.aeA) (Pr:=λ_=>True) (λes hl he=>by
  obtain⟨_,he⟩:=aua he
  match es,hl with
  |[v0,v1,v2],_=>
   obtain⟨k0,he⟩:=Y5 he;obtain⟨k1,he⟩:=Y5 he;obtain⟨k2,he⟩:=Y5 he;obtain⟨x0,rfl,_⟩:=UX k0;obtain⟨x1,rfl,w1⟩:=UX k1;obtain⟨x2,rfl,w2⟩:=UX k2;exact⟨⟨x0,x1,x2⟩,rfl,trivial⟩) h
 exact⟨a,n,c,xs,rfl,by omega,k4,k1,k3⟩
def awP:apA (laidMetH P amN) P 4 [.int .i64,.int .i64,.sl 1 (.int .u8),.sl 3 av2]:=by intro W args hX h;obtain⟨lg,hL⟩:=arv hX;obtain⟨v0,r,rfl,h0,h⟩:=Bn.cons h;obtain⟨v1,r,rfl,h1,h⟩:=Bn.cons h;obtain⟨v2,r,rfl,h2,h⟩:=Bn.cons h;obtain⟨v3,r,rfl,h3,h⟩:=Bn.cons h;obtain rfl:=Bn.nil h;obtain⟨x0,rfl,_⟩:=aki h0;obtain⟨x1,rfl,_⟩:=aki h1;obtain⟨a,n,c,cs,rfl,q1,q2,q3,q4,q5⟩:=apZ h2;obtain⟨b,m,d,xs,rfl,k1,k2⟩:=arw h3;exact ajt (Q:=λr W'=>r=true/\Go.RowKit.Below W.heap.size W W') hL ⟨q4,q1,q3⟩ (λx hx=>wf_u8 (q5 x hx)) (by simp only[maxLen]at*;omega) k2 λw' s=>⟨rfl,ang s⟩
def aeE (l:List UInt8):Obj:=.cells #[.string {data:=l.toArray}] 422 (0,0)
noncomputable def low:Nat:=(World.holding P default ⟨#[],#[],[]⟩).heap.size
def aaF (v:Value):Obj->Obj
 |.cells _ t fz=>.cells #[v] t fz
 |o=>o
noncomputable def aeF (k:Nat):Value:=.iface 401 (.pointer (some ⟨low+k,0,none⟩))
noncomputable def awQ (os:Os):World:=
 let w0:=World.holding P os ⟨#[aeE [116,104,101,32,98,121,116,101,115,32,101,110,100],aeE [110,111,98,111,100,121,32,119,114,105,116,101,115,32,115,111],aeE [116,104,101,114,101,32,105,115,32,110,111,32,109,97,112],
  aeE [116,104,101,114,101,32,105,115,32,110,111,32,115,117,99,104,32,99,101,108,108,32,111,114,32,115,101,99,116,111,114],aeE [116,104,101,114,101,32,105,115,32,110,111,32,115,117,99,104,32,102,105,101,108,100],aeE [110,111,98,111,100,121,32,119,114,105,116,101,115,32,115,111]],#[],[]⟩
 {w0 with heap:=((((((w0.heap.modify 0 (aaF (aeF 5))).modify 1 (aaF (.iface 219 (rt 74)))).modify 2 (aaF (aeF 2))).modify 3 (aaF (aeF 3))).modify 4 (aaF (aeF 4))).modify 5 (aaF (aeF 1))).modify 6 (aaF (aeF 0))}
set_option maxRecDepth 100000 in
theorem axQ (os:Os)(args:Array Value):laidMetH P amN ((awQ os).forCall (λ_ _=>0) ⟨#[],args,[]⟩).memory:=
 laidMetH_of_parts (laidMet_of_run (ps:=[.cell 6 0,.cell low 0,.cell 5 0,.cell (low+1) 0,.cell 2 0,.cell (low+2) 0,.cell 3 0,.cell (low+3) 0,.cell 4 0,.cell (low+4) 0,.cell 0 0,.cell (low+5) 0]) 8 (by kernel_rfl) (by kernel_rfl) (by kernel_rfl)) (by kernel_rfl)
end Go.Proofs.YtmegplnmiepfbaaGreatDoor.S
