/- Part 6 of the proof. -/
import Derived.Test.YtmegplnmiepfbaaGreatDoorN4
import Derived.Test.YtmegplnmiepfbaaGreatDoorRows
import Derived.LaidLaws
import Derived.LaidHandle
import Derived.ChangeSame
import Derived.JoinedOf
set_option linter.unusedVariables false
set_option linter.unusedSimpArgs false
set_option linter.defProp false
namespace Go.Proofs.YtmegplnmiepfbaaGreatDoor.S.O
open Go.Sx
attribute [local irreducible] af cA bw bg aA cq bY St Bx Al App cD cy cw bT aL bC aq bR av ak aV mapA
def aeq (x:yF):List Value:=[ae x.k,ae x.a,ae x.b]
section
variable {F:Nat->Prop}{W w w0:World}{L:List As}{mw mh:Int}{ca la oa ra:Option Addr}{cn cc ln lc mb on oc rn rc i:Nat}{cs:List Int}{xs:List yF}{x:yF}{m:bJ}{es:List (Gu×k_)}{Q:Option Addr->Nat->Nat->World->Prop}
variable {P5:Int->Int->Option Addr->Nat->Nat->Option Addr->Nat->Nat->Addr->Option Addr->Nat->Nat->Int->Int->World->Prop}
def ajd (w:World)(a:Option Addr)(n c:Nat)(vs:List Gu)(os:List k_):Prop:=Sl w a n c 4 Gv vs/\os.length=n/\∀(i:Nat) (v:Gu) (o:k_),vs[i]? =some v->os[i]? =some o->OpV w v o
def amF {F:Nat->Prop}{W w:World}{L:List As}{oa:Option Addr}{on oc:Nat}{es:List (Gu×k_)}(s:Sep F W w (ak oa on oc 38 4 (flat Gv (es.map (·.1)))::Ew es::L)):ajd w oa on oc (es.map (·.1)) (es.map (·.2)):=by have h1:=aO s (i:=0) rfl asL (by decide);have hl:=h1.len;refine⟨h1,by grind,λi v o hv ho=>?_⟩;obtain⟨h2,s2⟩:=gP (ai s);rw[List.getElem?_map]at hv ho;obtain⟨e,he,rfl⟩:=Option.map_eq_some_iff.1 hv;rw[he]at ho;cases ho;have ha:=h2 e (List.mem_of_getElem? he);exact⟨ha.k,ha.A,ha.B,aO s2 (i:=i) (by rw[List.getElem?_append_left (by grind),List.getElem?_map,he];rfl) dJ (by decide),ha.jC⟩
def ajd.El {w:World}{a:Option Addr}{n c:Nat}{vs:List Gu}{os:List k_}{o:k_}{idx:Int}{k:Nat}{K:Addr->Prop}(h:ajd w a n c vs os)(hk:idx=k)(ho:os[k]? =some o)
  (hK:∀p va vn vc,vs[k]? =some ⟨o.k,o.A,o.B,va,vn,vc⟩->(∀(j:Nat) u,(Gv ⟨o.k,o.A,o.B,va,vn,vc⟩)[j]? =some u->w.cell? ((p.add (idx.toNat*4)).add j)=some u)->K p):aK idx n (wA a K):=by
 obtain⟨h1,h2,h3⟩:=h;have hn:k<n:=by grind
 refine h1.El hk hn λp v hv hc=>?_;obtain⟨k1,A1,B1,va,vn,vc⟩:=v;obtain⟨e1,e2,e3,_⟩:=h3 k _ o hv ho;grind
def mdL (oa:Option Addr)(on oc:Nat)(es:List (Gu×k_))(mb:Nat)(m:bJ)(ra:Option Addr)(rn rc:Nat):List As:=
 [ak oa on oc 38 4 (flat Gv (es.map (·.1))),Ew es,av mb 25 [ae m.w,ae m.h,.slice ra rn rc],ak ra rn rc 5 1 (flat bu m.cs)]
def aje {ob:Nat}{v:Gu}{o:k_}{nn:Int}{rest:List As}(ha:agB (v,o))(Ch:on<=1000)(hi:i<=1000)
  (s:Sep No w0 w (av ob 38 (Gv v)::ak v.a v.n v.c 5 1 (flat bu o.m)::ak oa on oc 38 4 (flat Gv (es.map (·.1)))::Ew es::rest))
  (next:∀a' c' w',Sep No w0 w' (ak a' (on+1) c' 38 4 (flat Gv ((es++[(v,o)]).map (·.1)))::Ew (es++[(v,o)])::rest)->P5 mw mh ca cn cc la ln lc (aZ mb) a' (on+1) c' nn ((i+1:Nat):Int) w'):
  cN P5 Q mw mh ca cn cc la ln lc (aZ mb) oa on oc nn i (aZ ob) w:=by
 apply lI s 0 rfl;apply lI s 0 rfl;apply lI s 0 rfl;apply lS s 0 rfl;have s:=cg (ai s) (List.Perm.trans (List.Perm.swap ..) (List.Perm.cons _ (List.Perm.swap ..)));rw[aG];exact avR s ha (by omega) λa' c' w s=>next a' c' w s
attribute [local irreducible] cN in
theorem awo {ob xb:Nat}(hC:Sl w0 ca cn cc 1 bu cs)(hcs:ee cs)(VP:cn<9223372036854775808)(hm:cR m)(Ch:on<=1000)(hi:i<=1000)
  (s:Sep No w0 w (av ob 38 [ae 0,ae (gg x.a 0 ((m.cs.length:Int)-1)),ae (gg x.b 0 ((m.cs.length:Int)-1)),.slice none 0 0]::av xb 90 (aeq x)::mdL oa on oc es mb m ra rn rc))
  (next:∀(m':bJ) v o a' c' ra' rn' rc' w',v9 mw mh cs m x=(o,m')->Sep No w0 w' (mdL a' (on+1) c' (es++[(v,o)]) mb m' ra' rn' rc')->P5 mw mh ca cn cc la ln lc (aZ mb) a' (on+1) c' (m'.cs.length:Int) ((i+1:Nat):Int) w'):
  jr P5 Q mw mh ca cn cc la ln lc (aZ mb) oa on oc (m.cs.length:Int) i (aZ xb) (aZ ob) w:=by
 have hms:=KY hm;have arw:=Iq (x:=x.b%256) (by omega);have ask:=next
 unfold v9 at ask;apply lI s 1 rfl;apply cF (by decide) (by decide) (by decide);have ek:0+x.k%(15-0+1)=gg x.k 0 15:=rfl;rw[ek];have t:∀{a b:Int},a=b->(a==b)=true:=λh=>by rw[beq_iff_eq];exact h
 have f:∀{a b:Int},a≠b->(a==b)=false:=λh=>by rw[beq_eq_false_iff_ne];exact h
 have plain:∀(k A B:Int) (w:World) (L':List As) (js:List Nat),v9 mw mh cs m x=(⟨k,A,B,[]⟩,m)->js.Nodup->js.map (λi=>L'[i]?)=[some (av ob 38 [ae k,ae A,ae B,.slice none 0 0]),some (ak oa on oc 38 4 (flat Gv (es.map (·.1)))),some (Ew es),some (av mb 25 [ae m.w,ae m.h,.slice ra rn rc]),some (ak ra rn rc 5 1 (flat bu m.cs))]->
   Sep No w0 w L'->cN P5 Q mw mh ca cn cc la ln lc (aZ mb) oa on oc (m.cs.length:Int) i (aZ ob) w:=by
  intro k A B w L' js e hnd hpk s;have s:=b_ (L':=[_,_,_,_,_]) js s hpk hnd;have s:=cg (bD s 5 1) (List.Perm.swap ..);exact aje (v:=⟨k,A,B,none,0,0⟩) ⟨rfl,rfl,rfl,ee.nil⟩ Ch hi s λa' c' w s=>next _ _ _ a' c' ra rn rc w e s
 have b14:(gg x.k 0 15=0\/gg x.k 0 15=1\/gg x.k 0 15=2)->m9 P5 Q mw mh ca cn cc la ln lc (aZ mb) oa on oc (m.cs.length:Int) i (aZ ob) w:=by intro h;refine ax s (i:=0) rfl rfl rfl λw s=>?_;exact plain _ _ _ w _ [0,2,3,4,5] (by unfold v9;simp only;rw[if_pos h]) (by decide) rfl s
 have b21:(gg x.k 0 15=5\/gg x.k 0 15=6)->qw P5 Q mw mh ca cn cc la ln lc (aZ mb) oa on oc (m.cs.length:Int) i (aZ xb) (aZ ob) w:=by intro h;apply lI s 1 rfl;rw[wrap_u8'];apply Ra (by omega);rw[aG];refine sT s 0 rfl λw s=>?_;refine ax s (i:=0) rfl rfl rfl λw s=>?_;exact plain _ _ _ w _ [0,2,3,4,5] (by unfold v9;simp only;rw[fS,fS,fS,if_pos h]) (by decide) rfl s
 by_cases k0:gg x.k 0 15=0
 ·rw[t k0,cond_true];exact b14 (.inl k0)
 rw[f k0,cond_false];by_cases k1:gg x.k 0 15=1
 ·rw[t k1,cond_true];exact b14 (.inr (.inl k1))
 rw[f k1,cond_false];by_cases k2:gg x.k 0 15=2
 ·rw[t k2,cond_true];exact b14 (.inr (.inr k2))
 rw[f k2,cond_false];by_cases k3:gg x.k 0 15=3
 ·rw[t k3,cond_true];apply lI s 1 rfl;apply cF (by decide) (by decide) (by decide);refine sT s 0 rfl λw s=>?_;refine ax s (i:=0) rfl rfl rfl λw s=>?_;exact plain _ _ _ w _ [0,2,3,4,5] (by unfold v9;simp only;rw[fS,if_pos k3];rfl) (by decide) rfl s
 rw[f k3,cond_false];by_cases k4:gg x.k 0 15=4
 ·rw[t k4,cond_true];apply lI s 1 rfl;apply cF (by decide) (by decide) (by decide);refine sT s 0 rfl λw s=>?_;refine sT s 0 rfl λw s=>?_;refine ax s (i:=0) rfl rfl rfl λw s=>?_;exact plain _ _ _ w _ [0,2,3,4,5] (by unfold v9;simp only;rw[fS,fS,if_pos k4];rfl) (by decide) rfl s
 rw[f k4,cond_false];by_cases k5:gg x.k 0 15=5
 ·rw[t k5,cond_true];exact b21 (.inl k5)
 rw[f k5,cond_false];by_cases k6:gg x.k 0 15=6
 ·rw[t k6,cond_true];exact b21 (.inr k6)
 rw[f k6,cond_false];by_cases k7:gg x.k 0 15=7
 ·rw[t k7,cond_true];refine ax s (i:=0) rfl rfl rfl λw s=>?_;exact plain _ _ _ w _ [0,2,3,4,5] (by unfold v9;simp only;rw[fS,fS,fS,fS,if_pos (.inl k7)]) (by decide) rfl s
 rw[f k7,cond_false];by_cases k8:gg x.k 0 15=8
 ·rw[t k8,cond_true];refine ax s (i:=0) rfl rfl rfl λw s=>?_;exact plain _ _ _ w _ [0,2,3,4,5] (by unfold v9;simp only;rw[fS,fS,fS,fS,if_pos (.inr k8)]) (by decide) rfl s
 rw[f k8,cond_false];by_cases k9:gg x.k 0 15=9
 ·rw[t k9,cond_true];refine sT s 0 rfl λw s=>?_;refine sT s 0 rfl λw s=>?_;refine sT s 0 rfl λw s=>?_;refine ax s (i:=0) rfl rfl rfl λw s=>?_;exact plain _ _ _ w _ [0,2,3,4,5] (by unfold v9;simp only;rw[fS,fS,fS,fS,fS,if_pos k9]) (by decide) rfl s
 rw[f k9,cond_false];by_cases k10:gg x.k 0 15=10
 ·rw[t k10,cond_true];apply lI s 1 rfl;refine⟨by decide,?_⟩;by_cases h4:Int.tmod x.a 4=0
  ·rw[t h4,cond_true];apply lI s 1 rfl;refine⟨by decide,?_⟩;apply lI s 1 rfl;have hm':=EJ (w:=IntKind.wrap .i64 (mw+IntKind.wrap .i64 (Int.tdiv x.a 4))) (h:=IntKind.wrap .i64 (mh+x.b)) hcs;refine YC s (hC.fr (au s)) hcs VP λna nn nc w s _=>?_;have e:v9 mw mh cs m x=(Eo (vz (IntKind.wrap .i64 (mw+IntKind.wrap .i64 (Int.tdiv x.a 4))) (IntKind.wrap .i64 (mh+x.b)) cs),vz (IntKind.wrap .i64 (mw+IntKind.wrap .i64 (Int.tdiv x.a 4))) (IntKind.wrap .i64 (mh+x.b)) cs):=by rw[v9,fS,fS,fS,fS,fS,fS,if_pos k10,if_pos h4]
   generalize vz (IntKind.wrap .i64 (mw+IntKind.wrap .i64 (Int.tdiv x.a 4))) (IntKind.wrap .i64 (mh+x.b)) cs=m' at*;refine sT s 5 rfl λw s=>?_;refine sT s 5 rfl λw s=>?_;refine ax s (i:=5) rfl rfl rfl λw s=>?_;apply lS s 5 rfl;apply lI s 5 rfl;apply lI s 5 rfl;apply lS s 5 rfl;have hN:=aO s (i:=0) rfl dJ (by decide);have hNl:=hN.len;refine JS s hN hm' λpa pn pc w s _=>?_;refine sT s 2 rfl λw s=>?_;refine sT s 2 rfl λw s=>?_;refine sT s 2 rfl λw s=>?_;refine ax s (i:=2) rfl rfl rfl λw s=>?_;have s:=b_ (L':=[_,_,_,_,_,_]) [2,0,4,5,6,1] s rfl (by decide);rw[<-hNl];exact aje (v:=⟨1,0,0,pa,pn,pc⟩) ⟨rfl,rfl,rfl,(F2 hm').1⟩ Ch hi s λa' c' w s=>by exact next m' _ _ a' c' na nn nc w e s
  ·rw[f h4,cond_false];apply lI s 1 rfl;apply cF (by decide) (by decide) (by decide);have e20:0+x.b%(200-0+1)=gg x.b 0 200:=rfl;rw[e20,aG];refine sT s 0 rfl λw s=>?_;refine sT s 0 rfl λw s=>?_;refine sT s 0 rfl λw s=>?_;refine ax s (i:=0) rfl rfl rfl λw s=>?_;exact plain _ _ _ w _ [0,2,3,4,5] (by unfold v9;simp only;rw[fS,fS,fS,fS,fS,fS,if_pos k10,if_neg h4]) (by decide) rfl s
 rw[f k10,cond_false];by_cases k11:gg x.k 0 15=11
 ·rw[t k11,cond_true];apply lI s 1 rfl;apply lI s 1 rfl;apply lI s 1 rfl;refine amE s (by omega) λpa pn pc w s _=>?_;refine sT s 1 rfl λw s=>?_;refine sT s 1 rfl λw s=>?_;refine sT s 1 rfl λw s=>?_;refine ax s (i:=1) rfl rfl rfl λw s=>?_;have s:=b_ (L':=[_,_,_,_,_,_]) [1,0,3,4,5,6] s rfl (by decide);have ayF:=ang (x:=x) (n:=m.cs.length) (by omega);exact aje (v:=⟨_,_,_,pa,pn,pc⟩) (o:=KX x m.cs.length) ⟨rfl,rfl,rfl,ayF.jC⟩ Ch hi s λa' c' w s=>
   next m _ _ a' c' ra rn rc w (by unfold v9;simp only;rw[fS,fS,fS,fS,fS,fS,if_neg k10,if_pos k11]) s
 rw[f k11,cond_false];refine sT s 0 rfl λw s=>?_;refine sT s 0 rfl λw s=>?_;refine sT s 0 rfl λw s=>?_;refine ax s (i:=0) rfl rfl rfl λw s=>?_;exact plain _ _ _ w _ [0,2,3,4,5] (by unfold v9;simp only;rw[fS,fS,fS,fS,fS,fS,if_neg k10,if_neg k11]) (by decide) rfl s
attribute [local irreducible] jr in
theorem aer (s0:Sep F W w0 L)(hC:Sl w0 ca cn cc 1 bu cs)(hcs:ee cs)(VP:cn<9223372036854775808)(hX:Sl w0 la ln lc 3 aeq xs)
  (h:∀oa on oc w' A,Sep F W w' (A::L)->Fr No w0 w'->(∃vs,∀{F' W' w2 L2},Sep F' W' w2 (A::L2)->ajd w2 oa on oc vs (Fh mw mh cs xs))->Q oa on oc w'):uV mw mh ca cn cc la ln lc w0 Q:=by
 apply Lv;have hxl:=hX.len;have hm0:=EJ (w:=mw) (h:=mh) hcs;refine YC (bh (F:=No)) hC hcs VP λra rn rc w s _=>?_;refine aS s λmb w s=>?_;refine sT s 0 rfl λw s=>?_;refine sT s 0 rfl λw s=>?_;refine ax s (i:=0) rfl rfl rfl λw s=>?_;apply lI s 0 rfl;apply lI s 0 rfl;apply lS s 0 rfl;have hN:=aO s (i:=1) rfl dJ (by decide);have hNl:=hN.len;refine JS s hN hm0 λpa pn pc w s _=>?_;refine aN s λob w s=>?_;have s:=g9 (size:=4) s (i:=0) rfl rfl (by decide) (akp ⟨1,0,0,pa,pn,pc⟩);apply lS s 2 rfl;have s:Sep No w0 w (ak (sZ ob) 1 1 38 4 (flat Gv ([((⟨1,0,0,pa,pn,pc⟩:Gu),Eo (vz mw mh cs))].map (·.1)))::ak pa pn pc 5 1 (flat bu (Eo (vz mw mh cs)).m)::av mb 25 [ae (vz mw mh cs).w,ae (vz mw mh cs).h,.slice ra rn rc]::ak ra rn rc 5 1 (flat bu (vz mw mh cs).cs)::[]):=s;have s:=b_ (L':=[_,_,_,_]) [1,0,2,3] s rfl (by decide);have s:=aeS (v:=⟨1,0,0,pa,pn,pc⟩) (anu s) ⟨rfl,rfl,rfl,(F2 hm0).1⟩;have s:=cg s (List.Perm.swap ..);rw[<-hNl];have hyl:(xs.take 60).length=min 60 ln:=by grind
 have loop:∀(k i:Nat) (m:bJ) (oa:Option Addr) (oc:Nat) (es:List (Gu×k_)) (ra:Option Addr) (rn rc:Nat) (w:World),i+k=(xs.take 60).length->cR m->es.map (·.2)++M8 mw mh cs m ((xs.take 60).drop i)=Fh mw mh cs xs->
   Sep No w0 w (mdL oa (i+1) oc es mb m ra rn rc)->jt Q (k+1) mw mh ca cn cc la ln lc (aZ mb) oa (i+1) oc (m.cs.length:Int) i w:=by
  intro k;induction k with
  |zero=>
   intro i m oa oc es ra rn rc w hi hm he s;show nO Q (jt Q 0) _ _ _ _ _ _ _ _ _ _ _ _ _ _ _;unfold nO;have done:Q oa (i+1) oc w:=by rw[List.drop_eq_nil_of_le (by omega)]at he;simp[M8,List.append_nil]at he;have k:=λ{F' W' w2 L2} (s:Sep F' W' w2 (aV True [ak oa (i+1) oc 38 4 (flat Gv (es.map (·.1))),Ew es]::L2))=>amF (gP s).2;rw[he]at k;exact h _ _ _ _ _ (dD s0 (dA s trivial) (i:=0) rfl) (au s) ⟨_,k⟩
   grind
  |succ k ih=>
   intro i m oa oc es ra rn rc w hi hm he s;show nO Q (jt Q (k+1)) _ _ _ _ _ _ _ _ _ _ _ _ _ _ _;rw[nO,bN,bN];have hms:=KY hm;have hx0:(xs.take 60)[i]? =some ((xs.take 60)[i]'(by omega)):=List.getElem?_eq_getElem _;have hd:(xs.take 60).drop i=(xs.take 60)[i]'(by omega)::(xs.take 60).drop (i+1):=List.drop_eq_getElem_cons (by omega);generalize (xs.take 60)[i]'(by omega)=x at hx0 hd;have M5:xs[i]? =some x:=by
    rw[List.getElem?_take]at hx0;split at hx0
    ·exact hx0
    ·cases hx0
   rw[hd,M8]at he;refine(hX.fr (au s)).El rfl (by omega) λpp y hy hc=>?_;rw[M5]at hy;cases hy;apply aR (hc 0 _ rfl);apply aR (hc 1 _ rfl);apply aR (hc 2 _ rfl);have go:∀(w:World) (ob xb:Nat) (A B:Int),A=gg x.a 0 ((m.cs.length:Int)-1)->B=gg x.b 0 ((m.cs.length:Int)-1)->Sep No w0 w (av ob 38 [ae 0,ae A,ae B,.slice none 0 0]::av xb 90 (aeq x)::mdL oa (i+1) oc es mb m ra rn rc)->
     jr (jt Q (k+1)) Q mw mh ca cn cc la ln lc (aZ mb) oa (i+1) oc (m.cs.length:Int) i (aZ xb) (aZ ob) w:=by
    intro w ob xb A B e1 e2 s;subst e1 e2;refine awo hC hcs VP hm (by omega) (by omega) s λm' v o a' c' ra' rn' rc' w' e s=>?_;have hok:=(atW (w:=mw) (h:=mh) hcs hm x).2;rw[e]at he hok;refine ih (i+1) m' a' c' _ ra' rn' rc' w' (by omega) hok ?_ s;rw[List.map_append,List.append_assoc];exact he
   refine aS s λxb w s=>?_;refine sT s 0 rfl λw s=>?_;refine sT s 0 rfl λw s=>?_;refine ax s (i:=0) rfl rfl rfl λw s=>?_;rw[aG];have s:=ay s
   repeat' first
    |apply lI s 0 rfl
    |apply lS s 0 rfl
    |apply lB s 0 rfl
    |apply lP s 0 rfl
    |apply And.intro (cj s 0 rfl)
    |apply lI s 1 rfl
    |apply lS s 1 rfl
    |apply lB s 1 rfl
    |apply lP s 1 rfl
    |apply And.intro (cj s 1 rfl)
    |(refine sT s 0 rfl λw s=>?_)
    |(refine sT s 1 rfl λw s=>?_)
    |refine aN s λb w s=>?_
    |(refine aS s λb w s=>?_;simp[agJ,acB,amB,agK]at s)
    |exact go _ _ _ _ _ rfl rfl s
    |apply cF (by omega) (by decide) (by omega)
    |apply And.intro ?_
    |(replace s:=ay s;first
     |apply lI s 0 rfl
     |apply lS s 0 rfl
     |apply lB s 0 rfl
     |apply lP s 0 rfl
     |apply And.intro (cj s 0 rfl)
     |apply lI s 1 rfl
     |apply lS s 1 rfl
     |apply lB s 1 rfl
     |apply lP s 1 rfl
     |apply And.intro (cj s 1 rfl)
     |(refine ax s rfl rfl rfl λw s=>?_)
     |(refine sT s 1 rfl λw s=>?_)
     |refine aN s λb w s=>?_
     |(refine aS s λb w s=>?_;simp[agJ,acB,amB,agK]at s)
     |exact go _ _ _ _ _ rfl rfl s
     |apply cF (by omega) (by decide) (by omega)
     |refine And.intro ?_ ?_)
 exact⟨(xs.take 60).length+1,loop _ 0 _ _ 1 _ ra rn rc w (by omega) hm0 rfl s⟩
end
end Go.Proofs.YtmegplnmiepfbaaGreatDoor.S.O
set_option maxRecDepth 20000
namespace Go.Proofs.YtmegplnmiepfbaaGreatDoor.S
open Go.Sx
attribute [local irreducible] af cA bw bg aA cq bY St Bx Al App cD cy cw bT aL bC aq bR av ak aV mapA
section
variable {F:Nat->Prop}{W w:World}{L:List As}{a b:Option Addr}{n c m d:Nat}
def eq2 {a b a' b':Int}:(a==a'&&(b==b'&&true))=decide (a=a'/\b=b'):=by grind
def avv {w:World}{x y:Operand}{a b:Int×Int}{K:Bool->World->Prop}(h:K (!decide (a=b)) w):bT P .neq 51 x y (.agg #[ae a.1,ae a.2]) (.agg #[ae b.1,ae b.2]) w K:=by apply aki (by kernel_rfl);apply anW (r:=a.1==b.1&&(a.2==b.2&&true)) (by kernel_rfl) (by kernel_rfl) (by kernel_rfl);rw[eq2];simp[<-Prod.ext_iff];exact h
def avw {a b:Dr}:(a.a=b.a/\a.b=b.b/\a.c=b.c/\a.d=b.d/\a.e=b.e/\a.f=b.f)↔a=b:=by obtain⟨a1,a2,a3,a4,a5,a6⟩:=a;obtain⟨b1,b2,b3,b4,b5,b6⟩:=b;simp
instance:DecidableEq Dr:=λa b=>decidable_of_iff _ avw
def aj4 {Q:Bool->World->Prop}{xs ys:List (Int×Int)}(hX:Sl w a n c 2 lN xs)(hY:Sl w b m d 2 lN ys)(s0:Sep F W w L)(hn:n<1000000)(h:∀w',Sep F W w' L->Fr No w w'->Q (decide (xs=ys)) w'):
  tP a n c b m d w Q:=by
 apply Kq;have h1:=hX.len;have h2:=hY.len;have fin:∀(r:Bool) (w':World),r=decide (xs=ys)->Sep No w w' []->Q r w':=λr w' e s=>by subst e;exact h w' (bV s0 (au s)) (au s)
 by_cases hl:n=m
 ·subst hl;have loop:∀(k i:Nat) (w1:World),i+k=n->xs.take i=ys.take i->Sep No w w1 []->kz Q (k+1) a n c b n d i w1:=by
   intro k;induction k with
   |zero=>
    intro i w1 hi he s;show m8 Q (kz Q 0) _ _ _ _ _ _ _ _;unfold m8;grind
   |succ k ih=>
    intro i w1 hi he s;show m8 Q (kz Q (k+1)) _ _ _ _ _ _ _ _;rw[m8,bN];have s:=ay s;refine(hX.fr (au s)).El rfl (by omega) λp x hx hc=>?_;refine aR (hc 0 _ rfl) (aR (hc 1 _ rfl) ?_);refine(hY.fr (au s)).El rfl (by omega) λp y hy hc=>?_;refine aR (hc 0 _ rfl) (aR (hc 1 _ rfl) ?_);apply avv;by_cases hxy:x=y
    ·rw[decide_eq_true hxy,Bool.not_true,cond_false,aG];refine ih (i+1) _ (by omega) ?_ s;rw[List.take_add_one,List.take_add_one,hx,hy,he,hxy]
    grind
  rw[bne_self_eq_false,cond_false];exact⟨n+1,loop n 0 w (by omega) (by simp) bh⟩
 ·rw[show((n:Int) !=(m:Int))=true by grind,cond_true];refine fin false _ ?_ bh;grind
def map_eq {a b:bJ}:(a.w=b.w/\a.h=b.h/\a.cs=b.cs)↔a=b:=by obtain⟨a1,a2,a3⟩:=a;obtain⟨b1,b2,b3⟩:=b;simp
instance:DecidableEq bJ:=λa b=>decidable_of_iff _ map_eq
end
section
variable {F:Nat->Prop}{W w:World}{L:List As}{lg:xD}{r:Ei}{y:xE}{o:k_}{a:Option Addr}{n c:Nat}
def awp {K:Addr->World->Prop}{code d dir id:Int}{ma ga:Option Addr}{mn mc gn gc:Nat}{q0 q1 q2 q3 q4 q5:Int}(s:Sep F W w L)
  (h:∀p w',Sep F W w' (av p 34 (WQ code d dir id ma mn mc ga gn gc ⟨q0,q1,q2,q3,q4,q5⟩)::L)->K (aZ p) w'):
  Al T 34 w λp w=>St (p.add 0) (ae code) w λw=>St (p.add 1) (ae d) w λw=>St (p.add 2) (ae dir) w λw=>St (p.add 3) (ae id) w λw=>
   St (p.add 4) (.slice ma mn mc) w λw=>St (p.add 5) (.slice ga gn gc) w λw=>St (p.add 6) (.int .u64 q0) w λw=>St (p.add 7) (.int .u64 q1) w λw=>St (p.add 8) (.int .u64 q2) w λw=>
   St (p.add 9) (.int .u64 q3) w λw=>St (p.add 10) (.int .u64 q4) w λw=>St (p.add 11) (.int .u64 q5) w λw=>K p w:=by
 refine aS s λp w s=>?_
 iterate 12 refine sT s 0 rfl λw s=>?_
 exact h p w s
def acC {K:Addr->World->Prop}(hL:jq W lg)(ho:JR o)(hM:∀w',Sep No W w' L->Sl w' a n c 1 bu o.m)(v7:amz y.p)(s:Sep No W w (gx r y::L))
  (h:∀r' y' ma mn mc ga gn gc p w',r'.p=r.p->y'.p=(gd y.p o).1->Sep No W w' (av p 34 (WQ (gd y.p o).2.code (gd y.p o).2.d (gd y.p o).2.dir (gd y.p o).2.id ma mn mc ga gn gc (mU y'.p.bF))::ak ma mn mc 51 2 (flat lN (gd y.p o).2.GY)::ak ga gn gc 3 1 (flat one (gd y.p o).2.gone)::gx r' y'::L)->K (aZ p) w'):
  jg (sZ r.p) o.k o.A o.B a n c w λcode d dir id ma mn mc ga gn gc q0 q1 q2 q3 q4 q5 w=>
   Al T 34 w λp w=>St (p.add 0) (ae code) w λw=>St (p.add 1) (ae d) w λw=>St (p.add 2) (ae dir) w λw=>St (p.add 3) (ae id) w λw=>
   St (p.add 4) (.slice ma mn mc) w λw=>St (p.add 5) (.slice ga gn gc) w λw=>St (p.add 6) (.int .u64 q0) w λw=>St (p.add 7) (.int .u64 q1) w λw=>St (p.add 8) (.int .u64 q2) w λw=>
   St (p.add 9) (.int .u64 q3) w λw=>St (p.add 10) (.int .u64 q4) w λw=>St (p.add 11) (.int .u64 q5) w λw=>K p w:=
 ajc hL ho hM v7 s λr' y' ma mn mc ga gn gc w er ey s=>awp s λp w s=>h r' y' ma mn mc ga gn gc p w er ey s
def apj {K:yF->List Value}{Q:Option Addr->Nat->Nat->World->Prop}{xs:List yF}{k:Nat}(hA:Sl w a n c 3 K xs)(h:∀a' c',Sl w a' (min n k) c' 3 K (xs.take (min n k))->Q a' (min n k) c' w):yH a n c k w Q:=by apply Qy;refine hA.hi ?_ (Nat.min_le_left ..) h;unfold Dt;omega
end
end Go.Proofs.YtmegplnmiepfbaaGreatDoor.S
namespace Go.Proofs.YtmegplnmiepfbaaGreatDoor.S
open Go.Sx
structure Jj (most:Int) (m:bJ) (u:tE):Prop where
 may:cR m
 nP:m.w*m.h<=1600
 us:nS m.w m.h u.us
 nx:0<=u.next
 lt:∀v∈u.us,v.id<u.next
 mst:u.most=most
 len:(u.us.length:Int)<=most
structure Ej (t:Int) (q:gO):Prop where
 ep:zO q.bF<=t
 tp:0<=t
 mo:1<=q.most/\q.most<=65536
 st:(q.bF.o=none/\q.us=none)\/∃m u,q.bF.o=some m/\q.us=some u/\Jj q.most m.g.m u/\u.next<=t
def Ej.sm {t:Int}{q:gO}(h:Ej t q)(ht:t<1000000000):amz q:=by
 refine⟨by have:=h.ep;omega,λu hu=>?_⟩;rcases h.st with⟨_,e⟩|⟨m,u',_,e,_,hn⟩
 all_goals grind
def Ej.mono {t t':Int}{q:gO}(h:Ej t q)(ht:t<=t'):Ej t' q:=by
 refine⟨by have:=h.ep;omega,by have:=h.tp;omega,h.mo,?_⟩;rcases h.st with e|⟨m,u',h1,h2,h3,hn⟩
 all_goals grind
section
variable {most t:Int}{m:bJ}{u:tE}{q:gO}{o:k_}
def arb (hm:cR m){c x:Int}(hx:1<=x/\x<=255):cR ⟨m.w,m.h,m.cs.set c.toNat x⟩:=by
 refine⟨hm.w,hm.h,?_,λy hy=>?_⟩
 ·rw[List.length_set];exact hm.len
 ·rcases List.mem_or_eq_of_mem_set hy with hy|rfl
  ·exact hm.jC y hy
  ·omega
def Jj.drop (h:Jj most m u)(id:Int):Jj most m (kY u id):=by have hs:(kY u id).us.Sublist u.us:=List.filter_sublist;refine⟨h.may,h.nP,h.us.sub hs,h.nx,λv hv=>h.lt v (hs.subset hv),h.mst,?_⟩;have:=hs.length_le;have:=h.len;omega
def Jj.WD (h:Jj most m u)(id:Int){B:Int}(hB:bK m.w m.h B):Jj most m (vS u id λv=>⟨v.id,v.cell,B⟩):=by
 have e1:∀us:List aU,(us.map λv=>if v.id=id then(⟨v.id,v.cell,B⟩:aU)else v).map (·.id)=us.map (·.id):=λus=>by rw[List.map_map];refine List.map_congr_left λv _=>?_;simp[Function.comp];split<;>rfl
 have e2:∀us:List aU,(us.map λv=>if v.id=id then(⟨v.id,v.cell,B⟩:aU)else v).map (·.cell)=us.map (·.cell):=λus=>by rw[List.map_map];refine List.map_congr_left λv _=>?_;simp[Function.comp];split<;>rfl
 have hmem:∀v∈(vS u id λv=>⟨v.id,v.cell,B⟩).us,∃v'∈u.us,v.id=v'.id/\v.cell=v'.cell/\(v.goal=v'.goal\/v.goal=B):=λv hv=>by
  obtain⟨v',hv',rfl⟩:=List.mem_map.1 hv;refine⟨v',hv',?_⟩;split
  ·exact⟨rfl,rfl,.inr rfl⟩
  ·exact⟨rfl,rfl,.inl rfl⟩
 refine⟨h.may,h.nP,⟨h.us.wh,?_,λv hv=>?_,λv hv=>?_,?_⟩,h.nx,λv hv=>?_,h.mst,?_⟩
 ·show List.Pairwise _ (List.map _ (List.map _ _));rw[e1];exact h.us.ids
 ·obtain⟨v',h1,h2,_⟩:=hmem v hv;rw[h2];exact h.us.pos v' h1
 ·obtain⟨v',h1,_,h3,h4⟩:=hmem v hv;have:=h.us.at_ v' h1;refine⟨by rw[h3];exact this.1,?_⟩;rcases h4 with h4|h4
  ·rw[h4];exact this.2
  ·rw[h4];exact hB
 ·show List.Nodup (List.map _ (List.map _ _));rw[e2];exact h.us.nd
 ·obtain⟨v',h1,h2,_⟩:=hmem v hv;rw[h2];exact h.lt v' h1
 ·show((List.map _ _).length:Int)<=most;rw[List.length_map];exact h.len
def Jj.add (h:Jj most m u){A B:Int}(hs:vv m.w m.h u A B=0):Jj most m (OQ u A B):=by
 unfold vv at hs;split at hs
 ·omega
 split at hs
 ·omega
 split at hs
 ·omega
 split at hs
 ·omega
 rename_i h1 h2 h3 h4;have h1:=Decidable.not_not.1 h1;have h2:=Decidable.not_not.1 h2;have hl:((u.us++[(⟨u.next,A,B⟩:aU)]).length:Int)=u.us.length+1:=by simp
 have:=h.mst;refine⟨h.may,h.nP,akU h.us (λv hv=>h.lt v hv) h.nx h1.1 h1.2 ((akV h.us).1 h2),?_,λv hv=>?_,h.mst,?_⟩
 ·show 0<=u.next+1
  have:=h.nx;omega
 ·show v.id<u.next+1
  rcases List.mem_append.1 hv with hv|hv
  ·have:=h.lt v hv;omega
  grind
 ·show((u.us++[(⟨u.next,A,B⟩:aU)]).length:Int)<=_;omega
def WR {w h:Int}:∀(todo:List (aU×Int)) (done:List aU),∀v∈(dg w h done todo).1,∃v'∈done++todo.map (·.1),v.id=v'.id/\v.goal=v'.goal
 |[],done,v,hv=>⟨v,by simpa[dg]using hv,rfl,rfl⟩
 |(x,d)::rest,done,v,hv=>by
  cases hb:uH w h (done++x::rest.map (·.1)) x d with
  |true=>
   rw[Ic hb]at hv;obtain⟨v',h1,h2,h3⟩:=WR rest _ v hv;rw[List.append_assoc]at h1;rcases List.mem_append.1 h1 with h1|h1
   ·grind
   ·rcases List.mem_append.1 h1 with h1|h1
    ·unfold nW at h1;grind
    grind
  |false=>
   rw[Ie hb]at hv;obtain⟨v',h1,h2,h3⟩:=WR rest _ v hv;grind
def zip_fst {α β:Type}{l:List α}(f:α->β):(l.zip (l.map f)).map (·.1)=l:=by rw[List.map_fst_zip];grind
def Jj.tick (h:Jj most m u):Jj most m (NU m.w m.h u (sH m u.us)):=by
 have hz:(u.us.zip (sH m u.us)).map (·.1)=u.us:=zip_fst _;refine⟨h.may,h.nP,WG _ [] (by rw[List.nil_append,hz];exact h.us),h.nx,λv hv=>?_,h.mst,?_⟩
 ·obtain⟨v',h1,h2,_⟩:=WR _ _ v hv;rw[List.nil_append,hz]at h1;rw[h2];exact h.lt v' h1
 ·have h1:=(NR (w:=m.w) (h:=m.h) (u.us.zip (sH m u.us)) []).1;have h2:=congrArg List.length hz;have:=h.len;have e:(NU m.w m.h u (sH m u.us)).us=(dg m.w m.h [] (u.us.zip (sH m u.us))).1:=rfl;grind
def apk (q:nk)(t s:Int):zO (pQ q t s)=zO q:=by
 cases h:q.o with
 |none=>unfold pQ;rw[h]
 |some m=>
  obtain⟨m',h1,h2⟩:=Eh h t s;unfold zO;grind
def arc (q:nk)(ps:List ED):zO (sG q ps)=zO q:=by
 cases h:q.o with
 |none=>
  have:sG q ps=q:=by
   unfold sG;induction ps with
   |nil=>rfl
   |cons p ps ih=>rw[List.foldl_cons];unfold pQ;rw[h];exact ih
  rw[this]
 |some m=>
  obtain⟨m',h1,h2⟩:=C_ ps h;unfold zO;grind
def awq {mp:uG}(h:Ej t q)(hm:q.bF.o=some mp)(hu:q.us=some u)(hn:Jj q.most mp.g.m u)(hx:u.next<=t):Ej (t+1) (Hs q mp.g.m u o).1:=by
 have hsame:Ej (t+1) q:=h.mono (by omega);have ht:=h.tp;have Yi:=h.ep;have epm:zO q.bF=mp.g.ep:=by unfold zO;rw[hm]
 unfold Hs;split
 ·split
  ·exact hsame
  ·split
   ·exact hsame
   ·split
    ·exact hsame
    ·have e:(NX q.bF o.A o.B).o=some ⟨vQ mp.g o.A o.B,mp.Ct,mp.clean,mp.fH,mp.kept,mp.fc⟩:=by unfold NX;rw[hm];rfl
     refine⟨?_,by omega,h.mo,.inr ⟨_,u,e,rfl,?_,by omega⟩⟩
     ·rw[zO,e];show mp.g.ep+1<=t+1;omega
     ·exact⟨arb hn.may (by omega),hn.nP,hn.us,hn.nx,hn.lt,hn.mst,hn.len⟩
 ·split
  ·split
   ·exact hsame
   ·split
    ·exact hsame
    ·split
     ·exact hsame
     ·rename_i h1 h2 h3;exact⟨by grind,by omega,h.mo,.inr ⟨mp,_,hm,rfl,hn.add (Decidable.not_not.1 h3),by show u.next+1<=t+1;omega⟩⟩
  ·split
   ·split
    ·exact hsame
    ·split
     ·exact hsame
     ·split
      ·exact⟨by grind,by omega,h.mo,.inr ⟨mp,_,hm,rfl,hn.drop _,by show u.next<=t+1;omega⟩⟩
      ·rename_i h2 _;exact⟨by grind,by omega,h.mo,.inr ⟨mp,_,hm,rfl,hn.WD _ (Decidable.not_not.1 h2),by show u.next<=t+1;omega⟩⟩
   ·split
    ·split
     ·exact hsame
     ·exact⟨by grind,by omega,h.mo,.inr ⟨mp,_,hm,rfl,hn.drop _,by show u.next<=t+1;omega⟩⟩
    ·split
     ·split
      ·obtain⟨oQ,h1,h2⟩:=Eh hm o.A (cS mp.g.m o.B);refine⟨by show zO (pQ _ _ _)<=_;rw[apk];omega,by omega,h.mo,.inr ⟨oQ,u,h1,rfl,by grind,by omega⟩⟩
      grind
     ·obtain⟨oQ,h1,h2⟩:=C_ (kW mp.g.m.w mp.g.m.h u.us) hm;refine⟨by show zO (sG _ _)<=_;rw[arc];omega,by omega,h.mo,.inr ⟨oQ,_,h1,rfl,by rw[h2];exact hn.tick,by show u.next<=t+1;omega⟩⟩
def acD (h:Ej t q)(ho:JR o):Ej (t+1) (gd q o).1:=by
 have hsame:Ej (t+1) q:=h.mono (by omega);have ht:=h.tp;have Yi:=h.ep;unfold gd;split
 ·exact hsame
 ·split
  ·rename_i k1;split
   ·exact hsame
   ·rename_i mp hg;have hf:=(ho.load k1).2 mp hg;have hm:=V1 ho.jC hg;have hmo:=h.mo;refine⟨?_,by omega,h.mo,.inr ⟨_,_,rfl,rfl,⟨hm,hf,⟨⟨hm.w,hm.h⟩,.nil,λv hv=>(by cases hv),λv hv=>(by cases hv),.nil⟩,Int.le_refl _,λv hv=>(by cases hv),rfl,?_⟩,by grind⟩⟩
    ·show zO q.bF+1<=t+1;omega
    grind
  ·split
   ·rcases h.st with⟨h1,h2⟩|⟨m,u,h1,h2,h3,h4⟩
    ·refine⟨?_,by omega,h.mo,.inl ⟨by show(Hr q.bF).o=none;unfold Hr;rw[h1];rfl,h2⟩⟩;unfold zO Hr;grind
    ·have e:(Hr q.bF).o=some ⟨m.g,m.Ct,m.clean,m.fH,none,m.fc⟩:=by unfold Hr;rw[h1];rfl
     refine⟨?_,by omega,h.mo,.inr ⟨_,u,e,h2,h3,by omega⟩⟩;show zO (Hr q.bF)<=_;have:zO q.bF=zO (Hr q.bF):=by unfold zO;rw[e,h1]
     omega
   ·rcases h.st with⟨h1,h2⟩|⟨m,u,h1,h2,h3,h4⟩
    ·grind
    ·rw[h1,h2];exact awq h h1 h2 h3 h4
end
def Eg.of {bs:List Int}{m:bJ}(h:kZ bs=some m):Eg bs:=by
 unfold kZ at h;split at h
 ·cases h
 ·split at h
  ·rename_i h1 h2;refine⟨by omega,h2,λbs' M hT=>?_⟩;grind
  ·cases h
def nq {k A B:Int}(hk:k≠1):JR ⟨k,A,B,[]⟩:=⟨ee.nil,by simp,λe=>(hk e).elim⟩
def aes {m:bJ}(hm:cR m)(hf:m.w*m.h<=1600):JR (Eo m):=by have h1:=F2 hm;have h2:=abz hm;refine⟨h1.1,h1.2,λ_=>⟨.of h2,λmp h=>?_⟩⟩;have h:kZ (yE m)=some mp:=h;grind
def ajf (w h:Int)(c:List Int):(vz w h c).w*(vz w h c).h<=1600:=by have h1:=j9 (n:=w) (lo:=1) (hi:=40) (by decide);have h2:=j9 (n:=h) (lo:=1) (hi:=40) (by decide);show gg w 1 40*gg h 1 40<=1600;have:=Int.mul_le_mul h1.2 h2.2 (by omega) (by decide);omega
def amG {a b:Int}{ts:List Int}{used:Nat}(h:E3 [1,a,b] 2=some (ts,used)):used=3:=by
 unfold E3 at h;have e:Iw 2 [1,a,b]=if[a,b].length<2\/0∈[a,b].take 2 then none else some ([a,b].take 2,1+2):=rfl
 grind
def avx {x:yF}{n:Int}:JR (KX x n):=by
 unfold KX;simp only;split
 ·have hd:Eg [2,0,1,0,1,x.a%256,x.b%256]:=by
   refine⟨by simp,(by decide:gz (2+256*0) (1+256*0)),λbs' M h=>?_⟩;have h:qZ 2 1 1 0 [1,x.a%256,x.b%256] [0,0]=some (bs',M):=h;unfold qZ at h;have e:(aD 2 1 0*bz 2 1 0).toNat=2:=by decide
   split at h
   ·cases h
   ·rename_i ts used hT;have:=amG hT;subst this;unfold qZ at h;grind
  refine⟨ee.mk (by decide) (ee.mk (by decide) (ee.mk (by decide) (ee.mk (by decide) (ee.mk (by decide) (ee.mk (by omega) (ee.mk (by omega) ee.nil)))))),by simp,λ_=>⟨hd,λmp h=>?_⟩⟩;have h:=h;rw[hd.get]at h;obtain⟨q,_,rfl⟩:=Option.map_eq_some_iff.1 h;show(2+256*0:Int)*(1+256*0)<=1600;decide
 ·split
  ·exact nq (by decide)
  ·split
   ·exact nq (by decide)
   ·exact nq (by assumption)
def avy {w h:Int}{c:List Int}(hc:ee c){m:bJ}(x:yF):JR (v9 w h c m x).1:=by
 unfold v9;simp only;split
 ·exact nq (by decide)
 ·split
  ·exact nq (by decide)
  ·split
   ·exact nq (by decide)
   ·split
    ·exact nq (by decide)
    ·split
     ·exact nq (by decide)
     ·split
      ·exact nq (by decide)
      ·split
       ·split
        ·exact aes (EJ hc) (ajf _ _ _)
        ·exact nq (by decide)
       ·split
        ·exact avx
        ·exact nq (by decide)
def ak3 {w h:Int}{c:List Int}(hc:ee c):∀(xs:List yF) {m:bJ},∀o∈M8 w h c m xs,JR o
 |[],_,o,ho=>by cases ho
 |x::xs,m,o,ho=>by
  rcases List.mem_cons.1 ho with rfl|ho
  ·exact avy hc x
  ·exact ak3 hc xs o ho
def apl {w h:Int}{c:List Int}(hc:ee c)(xs:List yF):∀o∈Fh w h c xs,JR o:=λo ho=>by
 rcases List.mem_cons.1 ho with rfl|ho
 ·exact aes (EJ hc) (ajf _ _ _)
 ·exact ak3 hc _ o ho
noncomputable def Mj (q:gO)(os:List k_):gO:=os.foldl (λq o=>(gd q o).1) q
def ajg (k most:Int):gO:=⟨most,⟨k,⟨[],[],0,0,0,0⟩,none,⟨0,0,0,0,0,0⟩⟩,none⟩
section
variable {q:gO}{o:k_}{t:Int}
def asf {k most:Int}(hm:1<=most/\most<=65536):Ej 0 (ajg k most):=⟨Int.le_refl _,Int.le_refl _,hm,.inl ⟨rfl,rfl⟩⟩
def ard (q:gO)(os:List k_)(o:k_):Mj q (os++[o])=(gd (Mj q os) o).1:=by unfold Mj;grind
def are {os:List k_}{i:Nat}(hi:i<os.length)(ho:os[i]? =some o):Mj q (os.take (i+1))=(gd (Mj q (os.take i)) o).1:=by rw[List.take_add_one,ho];exact ard _ _ _
def avz {mp:uG}{u:tE}(hm:q.bF.o=some mp):(Hs q mp.g.m u o).1.bF.o≠none:=by
 unfold Hs
 repeat' split
 all_goals first
  |(show q.bF.o≠none;rw[hm];exact Option.some_ne_none _)
  |(show(NX q.bF o.A o.B).o≠none;unfold NX;rw[hm];exact Option.some_ne_none _)
  |(obtain⟨m',h1,_⟩:=Eh hm o.A (cS mp.g.m o.B);rw[h1];exact Option.some_ne_none _)
  |(obtain⟨m',h1,_⟩:=C_ (kW mp.g.m.w mp.g.m.h u.us) hm;rw[h1];exact Option.some_ne_none _)
def avA (h:q.bF.o≠none):(gd q o).1.bF.o≠none:=by
 obtain⟨mp,hm⟩:=Option.ne_none_iff_exists'.1 h;unfold gd;split
 ·exact h
 ·split
  ·split
   ·exact h
   ·exact Option.some_ne_none _
  ·split
   ·unfold Hr;grind
   ·rw[hm];cases hu:q.us with
    |none=>exact h
    |some u=>exact avz hm
def apm:∀(os:List k_) {q:gO},q.bF.o≠none->(Mj q os).bF.o≠none
 |[],q,h=>h
 |o::os,q,h=>apm os (avA h)
def ak4 {m:bJ}(hm:cR m):gd q (Eo m)=(⟨q.most,Tw q.bF m,some ⟨q.most,0,[]⟩⟩,pR 0):=by have h1:=F2 hm;have e:EI (Eo m)=true:=(acT h1.1 h1.2).may;rw[gd,e,if_neg (by rintro (h|h)<;>cases h),if_pos (show(Eo m).k=(1:Int)from rfl)];have e:kZ (Eo m).m=some m:=abz hm;rw[e]
def apn {w h:Int}{c:List Int}(hc:ee c)(xs:List yF)(q:gO){i:Nat}(hi:0<i):(Mj q ((Fh w h c xs).take i)).bF.o≠none:=by obtain⟨j,rfl⟩:∃j,i=j+1:=⟨i-1,by omega⟩;unfold Fh;show(Mj (gd q _).1 _).bF.o≠none;apply apm;rw[ak4 (EJ hc)];exact Option.some_ne_none _
end
def pre (cs:List Int):Nat->Int
 |0=>0
 |k+1=>pre cs k+gi cs k
structure uI (m:bJ) (p q:Int):Prop where
 may:cR m
 op:∀x∈m.cs,x<255
 dir:(m.h=1/\p=1/\q=3)\/(m.w=1/\p=2/\q=0)
section
variable {m:bJ}{p q x t s:Int}
def uI.bK (h:uI m p q)(hx:0<=x/\x<m.cs.length):bK m.w m.h x:=⟨⟨h.may.w,h.may.h⟩,hx.1,by rw[<-h.may.len];exact hx.2⟩
def uI.cost (h:uI m p q)(hx:0<=x/\x<m.cs.length):cT m x=gi m.cs x.toNat/\1<=cT m x/\cT m x<=254:=by
 have e:cT m x=gi m.cs x.toNat:=by unfold cT;grind
 have hm:=fE (l:=m.cs) (i:=x.toNat) (by omega);have h1:=h.may.jC _ hm;have h2:=h.op _ hm;omega
def uI.Ec (h:uI m p q)(hx:0<=x/\x<m.cs.length):ff m x=true:=by have:=h.cost hx;unfold ff;simp;omega
def uI.step (h:uI m p q)(hx:0<=x/\x<m.cs.length)(hs:0<=s/\s<=3):bf m.w m.h x s=if s=p then(if x+1<m.cs.length then x+1 else-1)else if s=q then x-1 else-1:=by
 have hc:=h.bK hx;have hl:=h.may.len;have hw:=h.may.w;have hh:=h.may.h;rw[bf,if_pos hc];rcases h.dir with⟨e,rfl,rfl⟩|⟨e,rfl,rfl⟩
 ·rw[e]at hl⊢;have e1:x%m.w=x:=Int.emod_eq_of_lt hx.1 (by omega);have e2:x/m.w=0:=Int.ediv_eq_zero_of_lt hx.1 (by omega);rw[e1,e2];obtain rfl|rfl|rfl|rfl:s=0\/s=1\/s=2\/s=3:=by omega
  ·rw[if_pos rfl,sM (by omega)];rfl
  ·rw[if_neg (by decide),if_neg (by decide),if_neg (by decide),if_pos rfl,if_pos rfl];split
   ·rw[ng ⟨hw,by decide⟩ (by omega) (by omega)];omega
   ·rw[sM (by omega)]
  ·rw[if_neg (by decide),if_pos rfl,sM (by omega)];rfl
  ·rw[if_neg (by decide),if_neg (by decide),if_pos rfl,if_neg (by decide),if_pos rfl];by_cases h0:x=0
   ·rw[sM (by omega)];omega
   ·rw[ng ⟨hw,by decide⟩ (by omega) (by omega)];omega
 ·rw[e]at hl⊢;obtain rfl|rfl|rfl|rfl:s=0\/s=1\/s=2\/s=3:=by omega
  ·by_cases h0:x=0
   ·rw[sM (by omega)];omega
   ·rw[ng ⟨by decide,hh⟩ (by omega) (by omega)];omega
  ·rw[if_neg (by decide),if_neg (by decide),if_neg (by decide),if_pos rfl,sM (by omega)];rfl
  ·rw[if_neg (by decide),if_pos rfl,if_pos rfl];split
   ·rw[ng ⟨by decide,hh⟩ (by omega) (by omega)];omega
   ·rw[sM (by omega)]
  ·rw[if_neg (by decide),if_neg (by decide),if_pos rfl,sM (by omega)];rfl
def uI.pq (h:uI m p q):(0<=p/\p<=3)/\(0<=q/\q<=3)/\p≠q:=by rcases h.dir with⟨_,rfl,rfl⟩|⟨_,rfl,rfl⟩<;>decide
def uI.ayG (h:uI m p q){n c:Int}(e:fU m x n c):(0<=x/\x<m.cs.length)/\(0<=n/\n<m.cs.length)/\(n=x+1\/n=x-1)/\c=cT m n:=by
 obtain⟨h1,h2,⟨s,hs,e⟩,hc⟩:=e;have hl:=h.may.len;have hx:=(jT h.may h1).2;have hn:=(jT h.may h2).2;have hx:0<=x/\x<m.cs.length:=by omega
 rw[h.step hx hs]at e;omega
def Ax (m:bJ)(t x:Int):Int:=if 0<=x/\x<m.cs.length then(if x<=t then pre m.cs (t+1).toNat-pre m.cs (x+1).toNat else pre m.cs x.toNat-pre m.cs t.toNat)else bW
def acE (h:uI m p q)(hx:0<=x/\x<m.cs.length):pre m.cs (x+1).toNat=pre m.cs x.toNat+cT m x:=by rw[(h.cost hx).1,show(x+1).toNat=x.toNat+1 by omega];rfl
def G1 (h:uI m p q):∀k:Nat,k<=m.cs.length->0<=pre m.cs k/\pre m.cs k<=254*k
 |0,_=>by simp[pre]
 |k+1,hk=>by have:=G1 h k (by omega);have h1:=(h.cost (x:=k) (by omega));have h2:=h1.1;rw[Int.toNat_natCast]at h2;show 0<=pre m.cs k+gi m.cs k/\pre m.cs k+gi m.cs k<=_;omega
def uI.D (h:uI m p q)(ht:0<=t/\t<m.cs.length)(hx:0<=x/\x<m.cs.length):D m t x=Ax m t x:=by
 have hsz:=KY h.may;have small:∀y:Int,0<=y/\y<m.cs.length->Ax m t y<bW:=λy hy=>by have h1:=G1 h (t+1).toNat (by omega);have h2:=G1 h (y+1).toNat (by omega);have h3:=G1 h t.toNat (by omega);have h4:=G1 h y.toNat (by omega);unfold Ax bW;omega
 have on:∀y:Int,0<=y/\y+1<m.cs.length->y<t->Ax m t y=Ax m t (y+1)+cT m (y+1):=λy hy hyt=>by have:=acE h (x:=y+1) (by omega);unfold Ax;omega
 have back:∀y:Int,0<=y/\y<m.cs.length->t<y->Ax m t y=Ax m t (y-1)+cT m (y-1):=λy hy hyt=>by have h1:=acE h (x:=y-1) (by omega);unfold Ax;grind
 have zero:Ax m t t=0:=by unfold Ax;omega
 refine ani (λy k hy=>?_) (λy n c e hn=>?_) (λ_=>?_) (λhn=>(hn (small x hx)).elim)
 ·obtain⟨rfl,_,rfl⟩:=hy;grind
 ·obtain⟨h1,h2,h3,rfl⟩:=h.ayG e;refine⟨small y h1,?_⟩;have c1:=(h.cost h1).2;have c2:=(h.cost h2).2;rcases h3 with rfl|rfl
  ·by_cases k:y<t
   ·rw[on y (by omega) k];omega
   ·have:=back (y+1) h2 (by omega);rw[show y+1-1=y by omega]at this;omega
  ·by_cases k:t<y
   ·rw[back y h1 k];omega
   ·have:=on (y-1) (by omega) (by omega);rw[show y-1+1=y by omega]at this;omega
 ·have wy:∀(k:Nat) (y:Int),0<=y/\y<m.cs.length->(y-t).natAbs=k->Wy (gB m t) (fU m) y (Ax m t y):=by
   intro k;induction k with
   |zero=>
    intro y hy hk;obtain rfl:y=t:=by omega
    rw[zero];exact .src ⟨rfl,h.Ec ht,rfl⟩
   |succ k ih=>
    intro y hy hk;by_cases l:y<t
    ·rw[on y (by omega) l];refine .go ⟨h.Ec hy,h.Ec (by omega),⟨p,h.pq.1,?_⟩,rfl⟩ (ih (y+1) (by omega) (by omega));rw[h.step hy h.pq.1,if_pos rfl,AA]
    ·rw[back y hy (by omega)];refine .go ⟨h.Ec hy,h.Ec (by omega),⟨q,h.pq.2.1,?_⟩,rfl⟩ (ih (y-1) (by omega) (by omega));rw[h.step hy h.pq.2.1,if_neg (λe=>h.pq.2.2 e.symm),if_pos rfl]
  exact wy _ x hx rfl
def uI.sW (h:uI m p q)(ht:0<=t/\t<m.cs.length)(hx:0<=x/\x<m.cs.length)(hne:x≠t):sW m t x=if x<t then p else q:=by
 have hD:=h.D ht hx;have hsz:=KY h.may;have hlt:S.D m t x<bW:=by have h1:=G1 h (t+1).toNat (by omega);have h2:=G1 h (x+1).toNat (by omega);have h3:=G1 h t.toNat (by omega);have h4:=G1 h x.toNat (by omega);rw[hD];unfold Ax bW;omega
 obtain⟨hr,⟨h0,hop,he⟩,_⟩:=akv h.may hlt hne;have hst:=h.step hx hr;generalize S.sW m t x=s at*;rw[hst]at h0 he;have c0:=(h.cost hx);by_cases e1:s=p
 ·subst e1;rw[if_pos rfl]at h0 he;split at h0
  ·rename_i hlx;rw[if_pos hlx]at he;split
   ·rfl
   ·exfalso;rw[hD,h.D ht (by omega)]at he;have c1:=h.cost (x:=x+1) (by omega);have p1:=acE h hx;unfold Ax at he;omega
  ·omega
 ·rw[if_neg e1]at h0 he;split at h0
  ·rename_i e2;subst e2;split
   ·exfalso;rw[hD,h.D ht (by omega)]at he;have c1:=h.cost (x:=x-1) (by omega);have p1:=acE h hx;unfold Ax at he;grind
   ·rfl
  ·omega
end
end Go.Proofs.YtmegplnmiepfbaaGreatDoor.S
set_option maxRecDepth 20000
namespace Go.Proofs.YtmegplnmiepfbaaGreatDoor.S
open Go.Sx
attribute [local irreducible] af cA bw bg aA cq bY St Bx Al App cD cy cw bT aL bC aq bR av ak aV mapA
def Jk:bJ:=⟨3,1,[5,2,9]⟩
def Mk:uI Jk 1 3:=⟨⟨by decide,by decide,by decide,by decide⟩,by decide,.inl ⟨rfl,rfl,rfl⟩⟩
def amH:D Jk 2 0=11/\sW Jk 2 0=1:=⟨(Mk.D (by decide) (by decide)).trans (by decide),(Mk.sW (by decide) (by decide) (by decide)).trans (by decide)⟩
def aw1 {q:gO}:gd q (Eo Jk)=(⟨q.most,Tw q.bF Jk,some ⟨q.most,0,[]⟩⟩,pR 0):=ak4 Mk.may
def amI {q:gO}{o:k_}{mp:uG}{u:tE}(hm:EI o=true)(hk:o.k≠0/\o.k≠1/\o.k≠8)(h1:q.bF.o=some mp)(h2:q.us=some u):gd q o=Hs q mp.g.m u o:=by unfold gd;grind
def aw2 {q:gO}{mp:uG}(h1:q.bF.o=some mp)(hg:mp.g.m=Jk)(h2:q.us=some ⟨2,0,[]⟩):gd q ⟨3,0,2,[]⟩=(⟨q.most,q.bF,some ⟨2,1,[⟨0,0,2⟩]⟩⟩,⟨0,0,5,0,[],[]⟩):=by rw[amI (by decide) (by decide) h1 h2,hg];rfl
def aw3 {q:gO}{mp:uG}{u:tE}(h1:q.bF.o=some mp)(hg:mp.g.m=Jk)(h2:q.us=some u):gd q ⟨6,2,0,[]⟩=(⟨q.most,pQ q.bF 2 (cS Jk 0),some u⟩,⟨0,11,1,-1,[],[]⟩):=by
 rw[amI (by decide) (by decide) h1 h2,hg];have e:Hs q Jk u ⟨6,2,0,[]⟩=(⟨q.most,pQ q.bF 2 (cS Jk 0),some u⟩,⟨0,D Jk 2 0,sW Jk 2 0,-1,[],[]⟩):=by rw[Hs,if_neg (by decide),if_neg (by decide),if_neg (by decide),if_neg (by decide),if_pos rfl,if_pos (by decide)]
 rw[e,amH.1,amH.2]
def aw4 {q:gO}{mp:uG}(h1:q.bF.o=some mp)(hg:mp.g.m=Jk)(h2:q.us=some ⟨2,1,[⟨0,0,2⟩]⟩):(gd q ⟨7,0,0,[]⟩).1.us=some ⟨2,1,[⟨0,1,2⟩]⟩/\(gd q ⟨7,0,0,[]⟩).2=⟨0,0,5,-1,[(0,1)],[]⟩:=by
 rw[amI (by decide) (by decide) h1 h2,hg];have e:sH Jk [⟨0,0,2⟩]=[1]:=by show[sW Jk 2 0]=[1];rw[amH.2]
 rw[Hs,e];exact⟨rfl,rfl⟩
section
variable {F:Nat->Prop}{W w:World}{L:List As}{lg:xD}{r:Ei}{y:xE}
def awr {u:tE}(h:y.p.us=some u):∃x,y.cr=some x/\x.y=u:=by have h:y.cr.map (·.y)=some u:=h;simp_all
def aj5 {Q:Bool->World->Prop}(hL:jq w lg)(s0:Sep F W w L)(h:∀w',Sep F W w' L->Fr No w w'->Q true w'):v_ w Q:=by
 apply MR;refine Tx (by decide) (by decide) (bh (F:=No)) λr y w1 ey s=>?_;have i0:Ej 0 y.p:=by rw[ey];exact asf (by decide)
 apply ld;refine aN s λpb w1 s=>?_;refine aS s λmb w1 s=>?_
 iterate 3 refine sT s 0 rfl λw1 s=>?_
 refine lI s 0 rfl (lI s 0 rfl (lS s 0 rfl ?_));have hC:=acy (ns:=[5,2,9]) s (i:=1) rfl;refine O.JS s hC Mk.may λra rn rc w1 s _=>?_;have s:=pk 4 [3,0,1,2] s;have o1:=aes Mk.may (by decide);refine acC hL o1 (λw' s'=>aO s' (i:=0) rfl dJ (by decide)) (i0.sm (by decide)) s λr1 y1 ma mn mc ga gn gc ab w1 er ey1 s=>?_;rw[<-er];have i1:Ej 1 y1.p:=by rw[ey1];exact acD i0 o1
 obtain⟨mp1,h1,g1,u1⟩:∃mp,y1.p.bF.o=some mp/\mp.g.m=Jk/\y1.p.us=some ⟨2,0,[]⟩:=by rw[ey1,aw1,ey];exact⟨_,rfl,rfl,rfl⟩
 have s:=pk 4 [3,0,1,2] s;refine acC hL (nq (by decide)) (λw' s'=>BK) (i1.sm (by decide)) s λr2 y2 ma mn mc ga gn gc bb w1 er WN s=>?_;rw[<-er];have i2:Ej 2 y2.p:=by rw[WN];exact acD i1 (nq (by decide))
 rw[aw2 h1 g1 u1]at WN s;have h2:y2.p.bF.o=some mp1:=by rw[WN];exact h1
 have u2:y2.p.us=some ⟨2,1,[⟨0,0,2⟩]⟩:=by rw[WN]
 have s:=pk 4 [3,0,1,2] s;refine acC hL (nq (by decide)) (λw' s'=>BK) (i2.sm (by decide)) s λr3 y3 ma mn mc ga gn gc cb w1 er ey3 s=>?_;rw[<-er];have i3:Ej 3 y3.p:=by rw[ey3];exact acD i2 (nq (by decide))
 rw[aw3 h2 g1 u2]at ey3 s;obtain⟨mp3,h3,g3⟩:=Eh h2 2 (cS Jk 0);have h3:y3.p.bF.o=some mp3:=by rw[ey3];exact h3
 have u3:y3.p.us=some ⟨2,1,[⟨0,0,2⟩]⟩:=by rw[ey3]
 rw[<-g3]at g1;have s:=pk 4 [3,0,1,2] s;refine acC hL (nq (by decide)) (λw' s'=>BK) (i3.sm (by decide)) s λr4 y4 ma mn mc ga gn gc db w1 er ey4 s=>?_;rw[<-er];obtain⟨u4,q4⟩:=aw4 h3 g1 u3;rw[<-ey4]at u4;rw[q4]at s;apply lI s 10 rfl;show cond true _ _;apply lI s 7 rfl;show cond true _ _;apply lI s 4 rfl;show cond true _ _;apply lI s 4 rfl;show cond true _ _;apply lS s 0 rfl;refine aN s λxb w1 s=>?_;have s:Sep No w w1 (ak (sZ xb) 1 1 51 2 (flat lN [(0,1)])::_):=g9 s (i:=0) rfl rfl (by decide) (λu hu=>by rcases List.mem_cons.1 hu with rfl|hu;rfl;rcases List.mem_cons.1 hu with rfl|hu;rfl;cases hu);have hX:=aO s (i:=2) rfl NT (by decide);have hY:=aO s (i:=0) rfl NT (by decide);have hl:=hX.len;refine aj4 hX hY s (by simp at hl;omega) λw1 s _=>?_;obtain⟨x,hx,ex⟩:=awr u4;have s:=pk 5 [4,0,1,2,3] s;refine N0 hx s λua un uc w1 s=>?_;have hU:=(aO s (i:=0) rfl FI (by decide)).len;rw[ex]at hU;have hU:1=un:=hU;rw[eC (show(un:Int)=1 by omega)];exact h w1 (bV s0 (au s)) (au s)
end
section
variable {W w:World}{L:List As}{lg:xD}{ra rb rz:Ei}{ya yb yz:xE}{xa va ca la na:Option Addr}{xn xc vn vc cn cc ln lc nn nc:Nat}{X Y:List k_}{t:Int}
def Ej.at_ {q:gO}(h:Ej t q)(hu:q.bF.o≠none):∃m u,q.bF.o=some m/\q.us=some u/\Jj q.most m.g.m u/\u.next<=t:=by
 rcases h.st with⟨e,_⟩|h
 all_goals grind
end
section
variable {F:Nat->Prop}{W w w0:World}{L:List As}{lg:xD}{r:Ei}{y:xE}{a ca la:Option Addr}{n c cn cc ln lc:Nat}{m:bJ}{u:tE}{k t x:Int}
structure SvQ (k:Int) (q:gO) (m:bJ) (u:tE):Prop where
 I:Ej k q
 o:∃mp,q.bF.o=some mp/\mp.g.m=m
 us:q.us=some u
def SvQ.nu {q:gO}(h:SvQ k q m u):Jj q.most m u:=by obtain⟨mp,h1,rfl⟩:=h.o;obtain⟨m',u',e1,e2,e3,_⟩:=h.I.at_ (by rw[h1];exact Option.some_ne_none _);rw[h1]at e1;rw[h.us]at e2;cases e1;cases e2;exact e3
def arf {q:gO}{mp:bJ}{o:k_}:(Hs q mp u o).1.most=q.most:=by
 unfold Hs
 repeat' split
 all_goals rfl
def arh {q:gO}{o:k_}:(gd q o).1.most=q.most:=by
 unfold gd
 repeat' split
 all_goals first|rfl|exact arf
def ajh:∀(os:List k_) {q:gO},(Mj q os).most=q.most
 |[],q=>rfl
 |o::os,q=>(ajh os).trans arh
end
section
variable {F:Nat->Prop}{W w w0:World}{L:List As}{lg:xD}{r:Ei}{y:xE}{m:bJ}{u:tE}{k t x:Int}
def aws (hm:cR m):0<=D m t x/\(D m t x=bW\/D m t x<=254*(m.w*m.h-1)):=by
 by_cases hD:D m t x<bW
 ·obtain⟨d,hd⟩:=(GD hm).1 hD;exact⟨(ah1 hm hd).1,.inr (ah1 hm hd).2⟩
 ·have e:=abx (m:=m) (t:=t) (x:=x) λh=>hD ((GD hm).2 h);rw[e];exact⟨by decide,.inl rfl⟩
def aj7 {K:Addr->World->Prop}(h:SvQ k y.p m u)(s:Sep No W w (gx r y::L))
  (g:∀(vb:Nat) (ra:Option Addr) (rn rc:Nat) w',(rn:Int)=m.w*m.h->Sep No W w' (av vb 25 [ae m.w,ae m.h,.slice ra rn rc]::ak ra rn rc 5 1 (flat bu m.cs)::gx r y::L)->K (aZ vb) w'):
  rX (sZ r.p) w λq r s t u w=>Al T 25 w λv w=>St (v.add 0) (ae q) w λw=>St (v.add 1) (ae r) w λw=>St (v.add 2) (.slice s t u) w λw=>K v w:=by
 have hn:=h.nu;obtain⟨mp,ho,rfl⟩:=h.o;obtain⟨m,o1,o2⟩:=KC (y:=y.bF) (mp:=mp) ho;have eg:m.g=mp.g:=congrArg uG.g o2;refine agt o1 s λra rn rc w s _=>?_;rw[eg]at s⊢;have hl:=(aO s (i:=0) rfl dJ (by decide)).len;have:=hn.may.len;refine aS s λvb w s=>?_;rw[ayy]at s
 iterate 3 refine sT s 0 rfl λw s=>?_
 exact g vb ra rn rc w (by omega) s
end
end Go.Proofs.YtmegplnmiepfbaaGreatDoor.S
namespace Go.Proofs.YtmegplnmiepfbaaGreatDoor.S
open Go.Sx
def ca (q:nk):Int:=q.past.a+(rU q).a
def cb (q:nk):Int:=q.past.b+(rU q).b
def cc (q:nk):Int:=q.past.c+q.sh.b
def cd (q:nk):Int:=q.past.d+q.sh.h
structure Ek (B:Int) (q:nk):Prop where
 p:0<=q.past.a/\0<=q.past.b/\0<=q.past.c/\0<=q.past.d
 n:0<=(rU q).a/\0<=(rU q).b
 s:0<=q.sh.b/\0<=q.sh.h
 le:ca q<=B/\cb q<=B/\cc q<=B/\cd q<=B
 vs:∀mp,q.o=some mp->(mp.Ct.length:Int)<=dy mp.g.m.w mp.g.m.h/\(mp.g.vs.length:Int)<=dy mp.g.m.w mp.g.m.h
structure Gr (q q':nk) (n p:Int):Prop where
 a:ca q'<=ca q+n
 b:cb q'<=cb q+p
 c:cc q'<=cc q+p
 d:cd q'<=cd q+p
section
variable {B t sc n p:Int}{q:nk}{mp:uG}
def Gr.rfl (hn:0<=n)(hp:0<=p):Gr q q n p:=⟨by omega,by omega,by omega,by omega⟩
def Ek.mono {B':Int}(h:Ek B q)(hB:B<=B'):Ek B' q:=⟨h.p,h.n,h.s,by have:=h.le;omega,h.vs⟩
def zC {a b:Int}(h:a+b<1000000000000):Ta.sat a b=a+b:=by unfold Ta.sat;rw[if_pos (by omega)]
def apo:(rU q).c=0/\(rU q).d=0:=by unfold rU;split<;>exact⟨rfl,rfl⟩
def Ek.all (h:Ek B q)(hB:B<1000000000):(mU q).a=ca q/\(mU q).b=cb q/\(mU q).c=cc q/\(mU q).d=cd q:=by obtain⟨h1,h2,h3,h4,_⟩:=h;have:=apo (q:=q);unfold ca cb cc cd at*;unfold mU Dr.add;simp only;rw[this.1,this.2];refine⟨?_,?_,?_,?_⟩<;>rw[zC (by rw[zC (by omega)];omega),zC (by omega)]<;>omega
def afy {g:gW}{vs:List Int}:Cu g vs<=vs.length:=by unfold Cu;have:=List.length_filter_le (λi=>gi vs i !=gi g.vs i) (List.range vs.length);rwa[List.length_range]at this
def amJ {g:gW}:Cu g g.vs=0:=by unfold Cu;rw[List.length_eq_zero_iff,List.filter_eq_nil_iff];intro i _;simp
def ak5:∀(k:Nat) {c:Int},0<=c->c+k<1000000000000->0<=LP k c/\LP k c<=c+k
 |0,c,h,_=>by show 0<=c/\c<=c+_;omega
 |k+1,c,h,h'=>by have e:=zC (a:=c) (b:=1) (by omega);have:=ak5 k (c:=Ta.sat c 1) (by omega) (by omega);show 0<=LP k (Ta.sat c 1)/\_;have e:LP (k+1) c=LP k (Ta.sat c 1):=rfl;rw[e];omega
def apq {k:Int}{y:QZ}{key:Int×Int}{e:Cr}(h:0<=y.b/\0<=y.h)(hb:y.b<1000000000/\y.h<1000000000):
  0<=(nR k y key e).b/\0<=(nR k y key e).h/\(nR k y key e).b<=y.b+1/\(nR k y key e).h<=y.h+1:=by
 have e1:=zC (a:=y.b) (b:=1) (by omega);have e2:=zC (a:=y.h) (b:=1) (by omega);have e:((nR k y key e).b=y.b/\(nR k y key e).h=Ta.sat y.h 1)\/((nR k y key e).b=Ta.sat y.b 1/\(nR k y key e).h=y.h):=by unfold nR;simp only;split<;>split<;>first|exact .inl ⟨Eq.refl _,Eq.refl _⟩|exact .inr ⟨Eq.refl _,Eq.refl _⟩
 omega
def aji (h:Ek B q)(hB:B<900000000)(hm:q.o=some mp)(hc:dy mp.g.m.w mp.g.m.h<=4096):
  Ek (B+5000) (pQ q t sc)/\Gr q (pQ q t sc) (Cu mp.g mp.Ct) 1/\∃oQ,(pQ q t sc).o=some oQ/\oQ.g=mp.g/\oQ.Ct=mp.g.vs:=by
 obtain⟨h1,h2,h3,h4,h5⟩:=h;have hv:=h5 mp hm;have hst:=afy (g:=mp.g) (vs:=mp.Ct);unfold ca cb cc cd at h4;have en:rU q=⟨mp.fH,mp.fc,0,0,0,0⟩:=by unfold rU;rw[hm]
 rw[en]at h2 h4;simp only at h2 h4;have ha:=ak5 (Cu mp.g mp.Ct) (c:=mp.fH) h2.1 (by omega);have hs:=apq (k:=q.k) (y:=q.sh) (key:=(t,sc)) (e:=⟨wG mp.g sc,qL mp.g.m t sc,DQ mp.g.m t sc,Aq mp.g.m t sc⟩) h3 (by omega);have hf:0<=(if mp.kept=some (t,mp.g.ep)then mp.fc else Ta.sat mp.fc 1)/\(if mp.kept=some (t,mp.g.ep)then mp.fc else Ta.sat mp.fc 1)<=mp.fc+1:=by have e:=zC (a:=mp.fc) (b:=1) (by omega);split<;>omega
 have e:pQ q t sc=Cv q mp t sc:=by unfold pQ;rw[hm]
 rw[e];unfold Cv;generalize nR q.k q.sh (t,sc) ⟨wG mp.g sc,qL mp.g.m t sc,DQ mp.g.m t sc,Aq mp.g.m t sc⟩=sh at*;generalize (if mp.kept=some (t,mp.g.ep)then mp.fc else Ta.sat mp.fc 1)=fc at*;refine⟨⟨h1,?_,⟨hs.1,hs.2.1⟩,?_,λoQ h'=>?_⟩,?_,_,rfl,rfl,rfl⟩
 ·exact⟨ha.1,hf.1⟩
 ·unfold ca cb cc cd rU;simp only;omega
 ·cases h';exact⟨hv.2,hv.2⟩
 ·refine⟨?_,?_,?_,?_⟩<;>(simp only[ca,cb,cc,cd,rU,hm];omega)
def ak6:∀(ps:List ED) {B:Int} {q:nk} {mp:uG},Ek B q->B+5000*ps.length<900000000->q.o=some mp->dy mp.g.m.w mp.g.m.h<=4096->
  Ek (B+5000*ps.length) (sG q ps)/\Gr q (sG q ps) (Cu mp.g mp.Ct) ps.length
 |[],B,q,mp,h,_,hm,_=>⟨by simpa[sG]using h,⟨by simp[sG];omega,by simp[sG],by simp[sG],by simp[sG]⟩⟩
 |p::ps,B,q,mp,h,hB,hm,hc=>by rw[List.length_cons]at hB⊢;obtain⟨h1,h2,oQ,e1,e2,e3⟩:=aji (t:=p.g) (sc:=p.s) h (by omega) hm hc;obtain⟨h3,h4⟩:=ak6 ps h1 (by omega) e1 (by rw[e2];exact hc);rw[e3,e2,amJ]at h4;have e:sG q (p::ps)=sG (pQ q p.g p.s) ps:=rfl;rw[e];obtain⟨a1,a2,a3,a4⟩:=h2;obtain⟨b1,b2,b3,b4⟩:=h4;exact⟨h3.mono (by omega),⟨by omega,by omega,by omega,by omega⟩⟩
def awt {c x:Int}(h:Ek B q):Ek B (NX q c x)/\Gr q (NX q c x) 0 0:=by
 obtain⟨h1,h2,h3,h4,h5⟩:=h;have en:rU (NX q c x)=rU q:=by unfold rU NX;cases q.o<;>rfl
 unfold ca cb cc cd at h4;refine⟨⟨h1,by rw[en];exact h2,h3,?_,λmp hm=>?_⟩,?_⟩
 ·unfold ca cb cc cd;rw[en];exact h4
 ·obtain⟨oQ,hm',rfl⟩:=Option.map_eq_some_iff.1 hm;have:=h5 oQ hm';refine⟨this.1,?_⟩;show((oQ.g.vs.set _ _).length:Int)<=_;rw[List.length_set];exact this.2
 ·refine⟨?_,?_,?_,?_⟩<;>(simp only[ca,cb,cc,cd,en,Int.add_zero];exact Int.le_refl _)
def awu (h:Ek B q):Ek B (Hr q)/\Gr q (Hr q) 0 0:=by
 obtain⟨h1,h2,h3,h4,h5⟩:=h;have en:rU (Hr q)=rU q:=by unfold rU Hr;cases q.o<;>rfl
 unfold ca cb cc cd at h4;refine⟨⟨h1,by rw[en];exact h2,h3,?_,λmp hm=>?_⟩,?_⟩
 ·unfold ca cb cc cd;rw[en];exact h4
 ·obtain⟨oQ,hm',rfl⟩:=Option.map_eq_some_iff.1 hm;exact h5 oQ hm'
 ·refine⟨?_,?_,?_,?_⟩<;>(simp only[ca,cb,cc,cd,en,Int.add_zero];exact Int.le_refl _)
def awv {m:bJ}(hm:cR m)(h:Ek B q)(hB:B<900000000):Ek B (Tw q m)/\Gr q (Tw q m) 0 0:=by
 obtain⟨h1,h2,h3,h4,h5⟩:=h;have:=apo (q:=q);unfold ca cb cc cd at h4;have ep:(Tw q m).past=⟨q.past.a+(rU q).a,q.past.b+(rU q).b,q.past.c,q.past.d,Ta.sat q.past.e (rU q).e,Ta.sat q.past.f (rU q).f⟩:=by unfold Tw Dr.add;simp only;rw[zC (by omega),zC (by omega),zC (by omega),zC (by omega),this.1,this.2,Int.add_zero,Int.add_zero]
 have en:rU (Tw q m)=⟨0,0,0,0,0,0⟩:=rfl;have hc:=e_ hm.w hm.h;refine⟨⟨by rw[ep];simp only;omega,by rw[en];decide,h3,?_,λmp hm=>?_⟩,?_⟩
 ·unfold ca cb cc cd;rw[ep,en];show _/\_/\q.past.c+q.sh.b<=_/\q.past.d+q.sh.h<=_;simp only;omega
 ·cases hm;show((List.replicate _ _).length:Int)<=dy m.w m.h/\((List.replicate _ _).length:Int)<=dy m.w m.h;rw[List.length_replicate,List.length_replicate];omega
 ·refine⟨?_,?_,?_,?_⟩
  ·unfold ca;rw[ep,en];simp only;omega
  ·unfold cb;rw[ep,en];simp only;omega
  ·unfold cc;rw[ep];show q.past.c+q.sh.b<=_;omega
  ·unfold cd;rw[ep];show q.past.d+q.sh.h<=_;omega
end
set_option maxRecDepth 20000
section
variable {B t n p:Int}{q:gO}{mp:uG}{u:tE}{o:k_}
def Gr.mono {q q':nk}{n' p':Int}(h:Gr q q' n p)(hn:n<=n')(hp:p<=p'):Gr q q' n' p':=⟨by have:=h.a;omega,by have:=h.b;omega,by have:=h.c;omega,by have:=h.d;omega⟩
structure acG (B:Int) (q q':nk) (w h d U:Int):Prop where
 c:Ek B q'
 g:Gr q q' (dy w h) (U+1)
 d:0<=d/\(d=bW\/d<=254*(w*h-1))
def aav {w h d U:Int}{q q':nk}(hw:gz w h)(hU:0<=U)(hc:Ek B q')(hg:Gr q q' 0 0)(hd:d=0):acG (B+5000*(U+1)) q q' w h d U:=by have h1:=mV hw;have h2:=e_ hw.1 hw.2;exact⟨hc.mono (by omega),hg.mono (by omega) (by omega),by omega⟩
def avC (h:Ek B q.bF)(hm:q.bF.o=some mp)(hn:Jj q.most mp.g.m u)(hB:B+5000*(u.us.length+1)<900000000):
  ∃oQ,(Hs q mp.g.m u o).1.bF.o=some oQ/\acG (B+5000*(u.us.length+1)) q.bF (Hs q mp.g.m u o).1.bF oQ.g.m.w oQ.g.m.h (Hs q mp.g.m u o).2.d u.us.length:=by
 have LL:gz mp.g.m.w mp.g.m.h:=⟨hn.may.w,hn.may.h⟩;have hcs:=e_ LL.1 LL.2;have hmul:=mV LL;have same:∀{d},d=0->∃oQ,q.bF.o=some oQ/\acG (B+5000*((u.us.length:Int)+1)) q.bF q.bF oQ.g.m.w oQ.g.m.h d u.us.length:=λhd=>
  ⟨mp,hm,aav LL (by omega) h (.rfl (Int.le_refl _) (Int.le_refl _)) hd⟩
 have hst:(Cu mp.g mp.Ct:Int)<=dy mp.g.m.w mp.g.m.h:=by have:=afy (g:=mp.g) (vs:=mp.Ct);have:=(h.vs mp hm).1;omega
 unfold Hs
 repeat' split
 all_goals first
  |exact same rfl
  |skip
 ·have e:(NX q.bF o.A o.B).o=some ⟨vQ mp.g o.A o.B,mp.Ct,mp.clean,mp.fH,mp.kept,mp.fc⟩:=by unfold NX;rw[hm];rfl
  obtain⟨c1,c2⟩:=awt (c:=o.A) (x:=o.B) h;exact⟨_,e,aav (w:=mp.g.m.w) (h:=mp.g.m.h) LL (by omega) c1 c2 rfl⟩
 ·obtain⟨c1,c2,oQ,e1,e2,_⟩:=aji (t:=o.A) (sc:=cS mp.g.m o.B) h (by omega) hm hcs.2;refine⟨oQ,e1,c1.mono (by omega),?_,aws hn.may|>.imp id λhd=>?_⟩
  ·rw[e2];exact c2.mono hst (by omega)
  ·rw[e2];exact hd
 ·obtain⟨oQ,e1,e2⟩:=C_ (kW mp.g.m.w mp.g.m.h u.us) hm;have hl:=WL mp.g.m.w mp.g.m.h u.us;obtain⟨c1,c2⟩:=ak6 (kW mp.g.m.w mp.g.m.h u.us) h (by omega) hm hcs.2;refine⟨oQ,e1,c1.mono (by omega),?_,?_⟩
  ·rw[e2];exact c2.mono hst (by omega)
  ·rw[e2];show(0:Int)<=0/\((0:Int)=bW\/(0:Int)<=_);omega
def JT (q:gO):Nat:=match q.us with|some u=>u.us.length|none=>0
def aww (h:Ek B q.bF)(hI:Ej t q)(ho:JR o)(hup:(gd q o).1.bF.o≠none)(hB:B+5000*(JT q+1)<900000000):
  ∃oQ,(gd q o).1.bF.o=some oQ/\acG (B+5000*(JT q+1)) q.bF (gd q o).1.bF oQ.g.m.w oQ.g.m.h (gd q o).2.d (JT q):=by
 have hi':=acD hI ho;obtain⟨m1,u1,e1,e2,e3,_⟩:=hi'.at_ hup;have LL:gz m1.g.m.w m1.g.m.h:=⟨e3.may.w,e3.may.h⟩;have fin:Ek B (gd q o).1.bF->Gr q.bF (gd q o).1.bF 0 0->(gd q o).2.d=0->∃oQ,(gd q o).1.bF.o=some oQ/\acG (B+5000*(JT q+1)) q.bF (gd q o).1.bF oQ.g.m.w oQ.g.m.h (gd q o).2.d (JT q):=λc1 c2 hd=>
  ⟨m1,e1,aav LL (by omega) c1 c2 hd⟩
 have same:Gr q.bF q.bF 0 0:=.rfl (Int.le_refl _) (Int.le_refl _);have Ty:gd q o=gd q o:=Eq.refl _
 conv at Ty=>rhs;unfold gd
 split at Ty
 ·rw[Ty]at fin⊢;exact fin h same rfl
 ·split at Ty
  ·split at Ty
   ·rw[Ty]at fin⊢;exact fin h same rfl
   ·rename_i mp hg;have hm:=V1 ho.jC hg;obtain⟨c1,c2⟩:=awv hm h (by omega);rw[Ty]at fin⊢;exact fin c1 c2 rfl
  ·split at Ty
   ·obtain⟨c1,c2⟩:=awu h;rw[Ty]at fin⊢;exact fin c1 c2 rfl
   ·split at Ty
    ·rename_i mp u hm hu;obtain⟨m2,u2,f1,f2,f3,_⟩:=hI.at_ (by rw[hm];exact Option.some_ne_none _);rw[hm]at f1;rw[hu]at f2;cases f1;cases f2;have el:JT q=u.us.length:=by unfold JT;rw[hu]
     rw[el]at hB⊢;rw[Ty];exact avC h hm f3 hB
    ·rw[Ty]at fin⊢;exact fin h same rfl
end
end Go.Proofs.YtmegplnmiepfbaaGreatDoor.S
set_option maxRecDepth 20000
namespace Go.Proofs.YtmegplnmiepfbaaGreatDoor.S
open Go.Sx
attribute [local irreducible] af cA bw bg aA cq bY St Bx Al App cD cy cw bT aL bC aq bR av ak aV mapA
section
variable {W w:World}{L:List As}{lg:xD}{r:Ei}{y:xE}{ca' la a:Option Addr}{cn cc' ln lc vb n c:Nat}{m:bJ}{u:tE}{k t x:Int}
def ajj {mw mh:Int}{Q:Bool->World->Prop}(h:gz mw mh)(g:Q true w):ri mw mh w Q:=by refine D7 _ _ _ _ ?_;have h1:=h.1;have h2:=h.2;refine O.zq ?_;rw[bN];refine O.zq ?_;rw[decide_eq_true (by omega)];exact g
def aet {mw mh:Int}{Q:Int->World->Prop}(h:gz mw mh)(g:Q (dy mw mh) w):jI mw mh w Q:=by
 have h1:=h.1;have h2:=h.2;have h3:=e_ h1 h2;refine Ce _ _ _ _ ?_;refine AN _ _ _ _ ?_;refine ajj h ?_;rw[Bool.not_true,cond_false];have e:∀z:Int,1<=z/\z<=1024->IntKind.wrap .i64 (Int.tdiv (IntKind.wrap .i64 ((IntKind.wrap .i64 (z+16))-1)) 16)=cE z:=λz hz=>by rw[aG (n:=z+16),aG (n:=z+16-1),Int.tdiv_eq_ediv_of_nonneg (by omega),aG];unfold cE;omega
 refine⟨by decide,by decide,?_⟩;rw[e mw h1,e mh h2];unfold dy at g h3;show Q (IntKind.wrap .i64 (cE mw*cE mh)) w;rw[aG];exact g
def aeu {Q:Option Addr->Nat->Nat->World->Prop}(s:Sep No W w (gx r y::L))(h:∀a n c w',n=JT y.p->Sep No W w' (gx r y::L)->Q a n c w'):mW (sZ r.p) w Q:=by
 cases hc:y.cr with
 |none=>
  refine Dn _ _ _ ?_;obtain⟨ok,ho,so⟩:=aau s hc;refine FB _ _ _ ?_;refine ld (ah (lP so 0 rfl ?_));refine Dm _ _ _ ?_;exact h none 0 0 w (by unfold JT xE.p;rw[hc];rfl) s
 |some x=>
  refine N0 hc s λa n c w s=>?_;have hl:=(aO s (i:=0) rfl FI (by decide)).len;exact h a n c w (by unfold JT xE.p;rw[hc];exact hl.symm) (ai s)
def ajk {Q:Bool->World->Prop}{X:List k_}{xa:Option Addr}{xn xc:Nat}{vs:List O.Gu}{A:As}(hL:jq W lg)(hX:∀{F' W' w2 L2},Sep F' W' w2 (A::L2)->O.ajd w2 xa xn xc vs X)(hx:xn<=100)(hin:∀o∈X,JR o)
  (hup:∀i,0<i->(Mj (ajg 2 6) (X.take i)).bF.o≠none)(hQ:∀w',Sep No W w' []->Q true w'):
  ∀(j i:Nat) (w:World) (r:Ei) (y:xE),i+j=xn->y.p=Mj (ajg 2 6) (X.take i)->Ej i y.p->Ek (400000*i) y.p.bF->Sep No W w [gx r y,A]->
   kS Q (j+1) xa xn xc (sZ r.p) (i:Int) w:=by
 intro j;induction j with
 |zero=>
  intro i w r y hi hy hI hC s;show kQ _ _ _ _ _ _ _ _;unfold kQ;rw[bp];refine aj5 (hL.fr (au s)) s λw s _=>?_;exact hQ w (bV (bh (F:=No)) (au s))
 |succ j ih=>
  intro i w r y hi hy hI hC s;show kQ _ _ _ _ _ _ _ _;unfold kQ;rw[bN];have hXl:=(hX (iZ s)).2.1;have ho:X[i]? =some (X[i]'(by omega)):=List.getElem?_eq_getElem _;generalize X[i]'(by omega)=o at ho;have ari:=hin o (List.mem_of_getElem? ho);have Jb:=are (q:=ajg 2 6) (i:=i) (by omega) ho;rw[<-hy]at Jb;have arj:=hup (i+1) (by omega);rw[Jb]at arj;have hI1:=acD hI ari;have hlu:JT y.p<=6:=by
   have hmo:y.p.most=6:=by rw[hy];exact ajh _
   unfold JT;rcases hI.st with⟨_,e⟩|⟨m',u',_,e,h3,_⟩
   ·rw[e];decide
   ·rw[e];have:=h3.len;show u'.us.length<=_;omega
  obtain⟨mp,hmp,hN⟩:=aww hC hI ari arj (by omega);have hall:=hC.all (by omega);have awx:=hN.c.all (by omega);obtain⟨m1,u1,f1,f2,f3,_⟩:=hI1.at_ arj;rw[hmp]at f1;cases f1;have LL:gz mp.g.m.w mp.g.m.h:=⟨f3.may.w,f3.may.h⟩;have hmul:=mV LL;have hcs:=e_ LL.1 LL.2;refine NY s λw s=>?_;refine aeu s λua un uc w hun s=>?_;refine aS s λqb w s=>?_;rw[ayh]at s
  iterate 6 refine sT s 0 rfl λw s=>?_
  have s:=pk 3 [1,0,2] s;refine(hX (pk 3 [2,0,1] s)).El rfl ho λp va vn vc hv hc=>?_;refine aR (hc 0 _ rfl) (aR (hc 1 _ rfl) (aR (hc 2 _ rfl) (dx (hc 3 _ rfl) ?_)));refine acC (o:=o) hL ari (λw' s'=>((hX (iZ s')).2.2 i _ o hv ho).m) (hI.sm (by omega)) s λr' y' ma mn mc ga gn gc ab w er ey s=>?_;have s:=pk 6 [3,0,4,5] s;have hq:SvQ (i+1) y'.p mp.g.m u1:=by rw[ey];exact⟨hI1,⟨mp,hmp,Eq.refl _⟩,f2⟩
  rw[<-er];refine aj7 hq s λvb ra rn rc w hrn s=>?_;refine lI s 0 rfl (lI s 0 rfl ?_);refine aet LL ?_;rw[ey]at s;obtain⟨hNc,hNg,hNd⟩:=hN;obtain⟨g1,g2,g3,g4⟩:=hNg;obtain⟨l1,l2,l3,l4⟩:=hNc.le;obtain⟨p1,p2,p3,p4⟩:=hC.p;obtain⟨n1,n2⟩:=hC.n;obtain⟨s1,s2⟩:=hC.s;obtain⟨c1,c2,c3,c4⟩:=hall;obtain⟨d1,d2,d3,d4⟩:=awx;obtain⟨z1,z2,z3,z4⟩:=hC.le;have k1:0<=ca y.p.bF/\0<=cb y.p.bF/\0<=cc y.p.bF/\0<=cd y.p.bF:=by unfold ca cb cc cd;omega
  have h5:bW=1099511627776:=Eq.refl _;have w0:IntKind.wrap .u64 (un:Int)=un:=wrap_u64 (by omega) (by omega);have w1:IntKind.wrap .u64 (dy mp.g.m.w mp.g.m.h)=dy mp.g.m.w mp.g.m.h:=wrap_u64 (by omega) (by omega);have w2:∀z:Int,0<=z->z<1000000000->IntKind.wrap .u64 (z+(un:Int))=z+un:=λz _ _=>wrap_u64 (by omega) (by omega);have w3:∀z:Int,0<=z->z<1000000000->IntKind.wrap .u64 (z+(un:Int)+1)=z+un+1:=λz _ _=>wrap_u64 (by omega) (by omega);have w4:IntKind.wrap .u64 (ca y.p.bF+dy mp.g.m.w mp.g.m.h)=ca y.p.bF+dy mp.g.m.w mp.g.m.h:=wrap_u64 (by omega) (by omega);have fin:kS Q (j+1) xa xn xc (sZ r'.p) (IntKind.wrap .i64 ((i:Int)+1)) w:=by
   rw[NS (by omega)];refine ih (i+1) w r' y' (by omega) (by rw[ey,<-Jb]) ?_ ?_ (pk 6 [2,5] s)
   ·exact hq.I
   ·rw[ey];exact hNc.mono (by omega)
  refine lI s 3 rfl ?_;rw[bp];refine lI s 3 rfl (lS s 0 rfl ?_);rw[aG (n:=(rn:Int)-1),aG (n:=254*((rn:Int)-1))];by_cases hD:(gd y.p o).2.d>254*((rn:Int)-1)
  all_goals
   first
    |(rw[bp hD])
    |(rw[bN hD];refine lI s 3 rfl ?_;rw[Ev (by omega),cond_false])
   refine lI s 3 rfl (lI s 4 rfl ?_);rw[w1,c1,d1,w4,bp];refine lI s 3 rfl (lI s 4 rfl ?_);rw[w0,c2,d2,w2 _ k1.2.1 (by omega),w3 _ k1.2.1 (by omega),bp];refine lI s 3 rfl (lI s 4 rfl ?_);rw[c3,d3,w2 _ k1.2.2.1 (by omega),w3 _ k1.2.2.1 (by omega),bp];refine lI s 3 rfl (lI s 4 rfl ?_);rw[c4,d4,w2 _ k1.2.2.2 (by omega),w3 _ k1.2.2.2 (by omega),bp];exact fin
def aaw {Q:Bool->World->Prop}{mw mh:Int}{cs:List Int}{xs:List yF}(hL:jq W lg)(hC:Sl W ca' cn cc' 1 bu cs)(hcs:ee cs)(VP:cn<9223372036854775808)(hA:Sl W la ln lc 3 O.aeq xs)(hQ:∀w',Sep No W w' []->Q true w'):
  yG mw mh ca' cn cc' la ln lc W Q:=by
 refine HS _ _ _ _ _ _ _ _ _ _ ?_;refine apj (k:=40) hA λa1 c1 hA=>?_;refine O.aer (bh (F:=No) (w:=W)) hC hcs VP hA λxa xn xc w1 A s f ⟨vs,hX⟩=>?_;have hin:=apl (w:=mw) (h:=mh) hcs (xs.take (min ln 40));have hup:=λi hi=>apn (w:=mw) (h:=mh) hcs (xs.take (min ln 40)) (ajg 2 6) (i:=i) hi;have hl1:=alj mw mh cs (xs.take (min ln 40));generalize Fh mw mh cs (xs.take (min ln 40))=X at*;have hXl:=(hX s).2.1;refine Tx (by decide) (by decide) s λr y w ey s=>ld ?_;refine⟨xn+1,ajk hL hX (by omega) hin hup hQ xn 0 w r y (by omega) ey ?_ ?_ s⟩
 ·rw[ey];exact asf (k:=2) (by decide)
 ·rw[ey];refine⟨by decide,by decide,by decide,by decide,λmp h=>by cases h⟩
end
def gb (ws:List Bool)(k:Nat):Bool:=ws.getD k false
structure ayH (w h:Int) (us:List aU) (ws:List Bool) (N:Nat):Prop where
 len:ws.length=N
 at_:∀c,bK w h c->gb ws c.toNat=stand us c
section
variable {W:World}{lg:xD}{r:Ei}{y:xE}{a ua ia ma ga xa:Option Addr}{vb an n c un uc ic mn mc gn gc xn xc:Nat}{fH:Dr}{m:bJ}{us:List aU}{M:List (Int×Int)}{G ds:List Int}{tk dd:Int}
structure TkI (m:bJ) (us:List aU) (ds:List Int) (M:List (Int×Int)) (G:List Int) (n i:Nat) (done:List aU) (todo:List (aU×Int)) (mv:List (Int×Int)) (gs:List Int) (ws:List Bool):Prop where
 td:todo=(us.zip ds).drop i
 M:M=mv++(dg m.w m.h done todo).2.1
 G:G=gs++(dg m.w m.h done todo).2.2
 U:nS m.w m.h (done++todo.map (·.1))
 W:ayH m.w m.h (done++todo.map (·.1)) ws n
 mv:mv.length<=i
 gs:gs.length<=i
end
end Go.Proofs.YtmegplnmiepfbaaGreatDoor.S
namespace Go.Proofs.YtmegplnmiepfbaaGreatDoor.S
open Go.Sx
def nx (q:gO):Int:=match q.us with|some u=>u.next|none=>0
def S2 (q:gO):List Int:=match q.us with|some u=>u.us.map (·.id)|none=>[]
inductive aBN (q q':gO) (o:k_) (a:aat):Prop
 |load (hk:o.k=1) (hc:a.code=0) (hm:a.GY=[]) (hg:a.gone=[]) (hn:nx q'=0) (hi:S2 q'=[])
 |spawn (hk:o.k=3) (hc:a.code=0) (zL:a.id=nx q) (hm:a.GY=[]) (hg:a.gone=[]) (hn:nx q'=nx q+1) (hi:S2 q'=S2 q++[nx q])
 |drop (hk:o.k=5/\a.code=0\/o.k=4/\a.code=13) (hm:a.GY=[]) (hg:a.gone=[]) (hn:nx q'=nx q) (hA:o.A∈S2 q) (hi:S2 q'=(S2 q).filter λx=>!decide (x=o.A))
 |none (h1:¬(o.k=1/\a.code=0)) (h3:¬(o.k=3/\a.code=0)) (h5:¬(o.k=5/\a.code=0)) (h4:¬(o.k=4/\a.code=13)) (hm:∀p∈a.GY,p.1∈S2 q) (hn:nx q'=nx q) (hp:(S2 q'++a.gone).Perm (S2 q))
structure aA4 (S:List Int) (lv:List Bool):Prop where
 len:lv.length=60
 at_:∀i:Nat,i<60->gb lv i=decide ((i:Int)∈S)
def below (S:List Int)(p:Nat):Nat:=(S.filter λx=>decide (x<(p:Int))).length
end Go.Proofs.YtmegplnmiepfbaaGreatDoor.S
set_option maxRecDepth 20000
namespace Go.Proofs.YtmegplnmiepfbaaGreatDoor.S
open Go.Sx
attribute [local irreducible] af cA bw bg aA cq bY St Bx Al App cD cy cw bT aL bC aq bR av ak aV mapA
end Go.Proofs.YtmegplnmiepfbaaGreatDoor.S
namespace Go.Proofs.YtmegplnmiepfbaaGreatDoor.S
open Go.Sx
abbrev two (N c0 c1:Int):List aU:=[⟨0,c0,N-1⟩,⟨1,c1,0⟩]
end Go.Proofs.YtmegplnmiepfbaaGreatDoor.S
set_option maxRecDepth 20000
namespace Go.Proofs.YtmegplnmiepfbaaGreatDoor.S
open Go.Sx
attribute [local irreducible] af cA bw bg aA cq bY St Bx Al App cD cy cw bT aL bC aq bR av ak aV mapA
end Go.Proofs.YtmegplnmiepfbaaGreatDoor.S
namespace Go.Sx
open Go.ChangeShapes Go.WideShapes Go.RowKit
def aps (X:World->Prop)(P:Program)(f:FuncId)(UJ:List Sh):Prop:=
 ∀(W:World) (args:List Value),X W->Bb W UJ args->aq P f args.toArray W λv W'=>dB v λr=>r=true/\Below W.heap.size W W'
def avH {H:Type}{enc:TypeId×Value->H}{C:Checked}{os:Os}{f:FuncId}{fn:Func}{s:ChangeSpec}{conds:List PathCond}{ts:List TypeId}{UJ:List Sh}{tb:TypeId}{fuel:Nat}{X:World->Prop}
  (hX:∀w w':World,w.heap=w'.heap->X w->X w')
  (own:ownKnob C.prog.godebug=none)(started:os.Started)(noInit:C.prog.inits.idxOf? f=none)(hfn:C.prog.funcs[f]? =some fn)
  (witness:∃(w:World) (tape:Tape) (i:Input),w.os=os/\(w.forCall tape i).Shaped C.prog/\i.vars=[]/\Input.okWide C.prog (w.forCall tape i) .any w.heap.size f i/\
   ((s.pre enc C.prog fn conds false (w.forCall tape i).memory i.args/\X (w.forCall tape i).memory)/\sizedMet enc C.prog fn (OpenSpec.ofChange s) false (w.forCall tape i).memory i.args)/\({}:Assume).holds C.prog (lone (Frame.enter C.prog f i.args .normal) [] (w.forCall tape i)))
  (hl:laidOutB C.prog=true)(hts:fn.params.toList=ts)(ayI:ts.map (KV C.prog fuel)=UJ.map some)(hrd:(ts.all λt=>C.prog.readableRec t&&decide (t<C.prog.types.size))=true)
  (hvars:s.vars=[])(hres:fn.resultTypes=#[tb])(htb:C.prog.underlying tb=some .bool)
  (hspec:∀(ds:List (DataW H)),ds.length=ts.length->s.fn H ds={results:=[.lit (.bool true)],args:=ds})
  (law:aps X C.prog f UJ):
  ReturnsInHanded {} C os f .any (λw args=>(s.pre enc C.prog fn conds false w args/\X w)/\sizedMet enc C.prog fn (OpenSpec.ofChange s) false w args) (s.post enc C.prog fn false true false false):=by
 apply returnsInHanded_of_change_and (λw w' _ hh h=>hX w w' hh h) own started noInit hfn witness;intro W base args ds gs before hval hW _ _ hXW _;have hW':=hW;obtain⟨p,q,hA,hV,rfl,hfz,hnd⟩:=hW;rw[hvars]at hV;obtain⟨rfl,rfl⟩:=trodVars_none hV;rw[hts]at hA;have avD:=ag9 ayI (λj t v ht hv=>hval j t v (by grind) (by grind)) hA;have hlt:∀x∈p,x.block<W.heap.size:=λx hx=>hW'.lt x (by simp[hx]);have hc:=law W args.toList hXW avD;unfold aq at hc;refine hc.mono λe W' he=>?_;cases e with
 |returned v=>
  obtain⟨r,rfl,rfl,bel⟩:=Ht he;have hsp:=hspec ds (O1 hA);refine⟨_,rfl,ds,[],p++[],[],p,[],hW',?_,?_,?_,bel.frame _,λh=>by cases h⟩
  ·rw[List.append_nil,hsp,hres];exact trodAll_mk1 (shut_bool htb _)
  ·rw[List.append_nil,hsp,hts];exact S8 hl bel hrd hA hlt
  ·rw[List.append_nil,hsp,hvars];simp[DataW.TrodVars]
 |_=>exact he.elim
end Go.Sx
namespace Go.Proofs.YtmegplnmiepfbaaGreatDoor.S
open Go.Sx
def asi: "*"++ "errors.errorString"= "*errors.errorString":=by decide
def ayJ (u:TypeId)(h:P.typeName? 3 u=some "*errors.errorString"):u=401:=
 typeName_ptr_named (by rw[asi];kernel_rfl) (by kernel_rfl) (by decide) u (by rw[asi];exact h)
def avE:P.cellsOf 422=1:=by kernel_rfl
def ark:P.cellsOf 9=1:=by kernel_rfl
def RowsIn (W:World)(ps:List MemPlace):Prop:=∀b off,MemPlace.cell b off∈ps->(∃c t,W.heap[b]? =some (.cells c t (0,0)))/\∀u v,W.cell? ⟨b,off,none⟩=some (.iface u v)->Value.okWide P W .any 0 u v
set_option maxRecDepth 100000 in
theorem Ik {W:World}{n:String}{g:Nat}{text:List UInt8}{rest:List (String×DataW Unit)}{ps:List MemPlace}(hg:P.globalNamed n=some g)(ht:(P.globals[g]?).map (·.type)=some 74)
  (h:DataW.LaidVars P W ((n,.iface "*errors.errorString" (.ptr (.agg [.lit (.string text)])))::rest) ps)(hr:RowsIn W ps):
  ∃a q,W.cell? ⟨g,0,none⟩=some (.iface 401 (.pointer (some a)))/\(∃c t,W.heap[a.block]? =some (.cells c t (0,0)))/\DataW.LaidVars P W rest q/\RowsIn W q/\ps=.cell g 0::.cell a.block a.off::q:=by
 obtain⟨g0,t0,cs,f,p,q,hg0,ht0,hv,hd,hq,rfl⟩:=h;obtain rfl:=Option.some.inj (hg.symm.trans hg0);obtain rfl:=Option.some.inj (ht.symm.trans ht0);obtain⟨l⟩:=cs;have ok:∀u v,l=[.iface u v]->Value.okWide P W .any 0 u v:=λu v e=>by subst e;exact(hr g 0 (by simp[MemPlace.row])).2 u v (by simpa using World.var?_cell hg hv 0)
 obtain⟨a,s,rfl,hc,hs,hz,rfl⟩:=errorString_of_trod Go.Proofs.Tryz.underlying74 ayJ Go.Proofs.Tryz.underlying401 Go.Proofs.Tryz.underlying422 rfl rfl Go.Proofs.Tryz.underlying9 avE ark hd ok;refine⟨a,q,by simpa using World.var?_cell hg hv 0,(hr a.block a.off (by simp[MemPlace.row])).1,hq,λb off hm=>hr b off (by simp[hm]),by simp[MemPlace.row]⟩
def amK:List (String×DataW Unit):=[("errors.errorType",Rows.laid_errors_errorType),("herdsman/pack.errEnd",Rows.laid_herdsman_pack_errEnd),("herdsman/pack.errForm",Rows.laid_herdsman_pack_errForm),("herdsman/nav.errNoMap",Rows.laid_herdsman_nav_errNoMap),("herdsman/nav.errBounds",Rows.laid_herdsman_nav_errBounds),("herdsman/nav.errField",Rows.laid_herdsman_nav_errField),("herdsman/svc.errScript",Rows.laid_herdsman_svc_errScript)]
def g1:P.globalNamed "errors.errorType"=some 1:=by kernel_rfl
def rtT:(P.cutTypes.find? (·.1== "internal/reflectlite.rtype")).map (·.2)=some 219:=by kernel_rfl
def avF:((List.range P.types.size).filter λt=>P.rowNamed t [101,114,114,111,114])=[74]:=by kernel_rfl
set_option maxRecDepth 100000 in
theorem arl {W:World}(h:laidMetH P amK W):∃lg,jq W lg:=by
 have h':laidMet P [("herdsman/pack.errEnd",Rows.laid_herdsman_pack_errEnd),("herdsman/pack.errForm",Rows.laid_herdsman_pack_errForm),("herdsman/nav.errNoMap",Rows.laid_herdsman_nav_errNoMap),("herdsman/nav.errBounds",Rows.laid_herdsman_nav_errBounds),("herdsman/nav.errField",Rows.laid_herdsman_nav_errField),("herdsman/svc.errScript",Rows.laid_herdsman_svc_errScript)] W/\handlesMet P [("errors.errorType",Rows.laid_errors_errorType)] W:=h;obtain⟨⟨ps,hv,hnd,hr⟩,hh⟩:=h';obtain⟨name,u,ty,e1,e2,e3,e4,e5⟩:=hh _ (List.mem_singleton.2 rfl);have en:=(Option.some.inj e1).symm;subst en;obtain rfl:=Option.some.inj (rtT.symm.trans e2);have hm:ty∈(List.range P.types.size).filter λt=>P.rowNamed t [101,114,114,111,114]:=List.mem_filter.2 ⟨List.mem_range.2 e3,e4⟩;rw[avF]at hm;obtain rfl:=List.mem_singleton.1 hm;have ht:typeHandle P 74=.pointer (some ⟨8,74,none⟩):=by kernel_rfl
 rw[ht]at e5;have hr:=hr;obtain⟨a6,q6,v6,b6,hv1,hr1,k6⟩:=Ik (g:=6) (by kernel_rfl) (by kernel_rfl) hv hr;obtain⟨a5,q5,v5,b5,hv2,hr2,k5⟩:=Ik (g:=5) (by kernel_rfl) (by kernel_rfl) hv1 hr1;obtain⟨a2,q2,v2,b2,hv3,hr3,k2⟩:=Ik (g:=2) (by kernel_rfl) (by kernel_rfl) hv2 hr2;obtain⟨a3,q3,v3,b3,hv4,hr4,k3⟩:=Ik (g:=3) (by kernel_rfl) (by kernel_rfl) hv3 hr3;obtain⟨a4,q4,v4,b4,hv5,hr5,k4⟩:=Ik (g:=4) (by kernel_rfl) (by kernel_rfl) hv4 hr4;obtain⟨a0,q0,v0,b0,hv6,hr6,k0⟩:=Ik (g:=0) (by kernel_rfl) (by kernel_rfl) hv5 hr5;subst k0 k4 k3 k2 k5 k6;refine⟨⟨a0,a2,a3,a4,a5,a6⟩,v0,by simpa[rt]using World.var?_cell g1 e5 0,v2,v3,v4,v5,v6,?_,?_,b2,b3,b5,b6⟩
 all_goals grind
end Go.Proofs.YtmegplnmiepfbaaGreatDoor.S
namespace Go.Proofs.YtmegplnmiepfbaaGreatDoor.S
open Go.Sx
def avG:Sh:=.agg 3 [(0,1,.int .i64),(1,1,.int .i64),(2,1,.int .i64)]
def arn {W:World}{v:Value}(h:RdV W (.sl 3 avG) v):∃a n c xs,v=.slice a n c/\n<=maxLen/\Sl W a n c 3 O.aeq xs:=by
 obtain⟨a,n,c,xs,rfl,k1,k2,k3,k4,k5⟩:=ake (f:=O.aeq) (Pr:=λ_=>True) (λes hl he=>by
  obtain⟨_,he⟩:=atP he
  match es,hl with
  |[v0,v1,v2],_=>
   obtain⟨k0,he⟩:=YQ he;obtain⟨k1,he⟩:=YQ he;obtain⟨k2,he⟩:=YQ he;obtain⟨x0,rfl,_⟩:=UK k0;obtain⟨x1,rfl,w1⟩:=UK k1;obtain⟨x2,rfl,w2⟩:=UK k2;exact⟨⟨x0,x1,x2⟩,rfl,trivial⟩) h
 exact⟨a,n,c,xs,rfl,by omega,k4,k1,k3⟩
def atu:aps (laidMetH P amK) P 7 [.int .i64,.int .i64,.sl 1 (.int .u8),.sl 3 avG]:=by intro W args hX h;obtain⟨lg,hL⟩:=arl hX;obtain⟨v0,r,rfl,h0,h⟩:=Bb.cons h;obtain⟨v1,r,rfl,h1,h⟩:=Bb.cons h;obtain⟨v2,r,rfl,h2,h⟩:=Bb.cons h;obtain⟨v3,r,rfl,h3,h⟩:=Bb.cons h;obtain rfl:=Bb.nil h;obtain⟨x0,rfl,_⟩:=akd h0;obtain⟨x1,rfl,_⟩:=akd h1;obtain⟨a,n,c,cs,rfl,q1,q2,q3,q4,q5⟩:=apR h2;obtain⟨b,m,d,xs,rfl,k1,k2⟩:=arn h3;exact aaw (Q:=λr W'=>r=true/\Go.RowKit.Below W.heap.size W W') hL ⟨q4,q1,q3⟩ (λx hx=>wf_u8 (q5 x hx)) (by simp only[maxLen]at*;omega) k2 λw' s=>⟨rfl,anb s⟩
def aev (l:List UInt8):Obj:=.cells #[.string {data:=l.toArray}] 422 (0,0)
noncomputable def low:Nat:=(World.holding P default ⟨#[],#[],[]⟩).heap.size
def aax (v:Value):Obj->Obj
 |.cells _ t fz=>.cells #[v] t fz
 |o=>o
noncomputable def aew (k:Nat):Value:=.iface 401 (.pointer (some ⟨low+k,0,none⟩))
noncomputable def awy (os:Os):World:=
 let w0:=World.holding P os ⟨#[aev [116,104,101,32,98,121,116,101,115,32,101,110,100],aev [110,111,98,111,100,121,32,119,114,105,116,101,115,32,115,111],aev [116,104,101,114,101,32,105,115,32,110,111,32,109,97,112],
  aev [116,104,101,114,101,32,105,115,32,110,111,32,115,117,99,104,32,99,101,108,108,32,111,114,32,115,101,99,116,111,114],aev [116,104,101,114,101,32,105,115,32,110,111,32,115,117,99,104,32,102,105,101,108,100],aev [110,111,98,111,100,121,32,119,114,105,116,101,115,32,115,111]],#[],[]⟩
 {w0 with heap:=((((((w0.heap.modify 0 (aax (aew 5))).modify 1 (aax (.iface 219 (rt 74)))).modify 2 (aax (aew 2))).modify 3 (aax (aew 3))).modify 4 (aax (aew 4))).modify 5 (aax (aew 1))).modify 6 (aax (aew 0))}
set_option maxRecDepth 100000 in
theorem axy (os:Os)(args:Array Value):laidMetH P amK ((awy os).forCall (λ_ _=>0) ⟨#[],args,[]⟩).memory:=
 laidMetH_of_parts (laidMet_of_run (ps:=[.cell 6 0,.cell low 0,.cell 5 0,.cell (low+1) 0,.cell 2 0,.cell (low+2) 0,.cell 3 0,.cell (low+3) 0,.cell 4 0,.cell (low+4) 0,.cell 0 0,.cell (low+5) 0]) 8 (by kernel_rfl) (by kernel_rfl) (by kernel_rfl)) (by kernel_rfl)
end Go.Proofs.YtmegplnmiepfbaaGreatDoor.S
