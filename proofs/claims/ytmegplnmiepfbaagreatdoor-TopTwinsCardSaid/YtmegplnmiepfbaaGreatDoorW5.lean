/- Part 6 of the proof. -/
import Derived.Test.YtmegplnmiepfbaaGreatDoorW4
import Derived.Test.YtmegplnmiepfbaaGreatDoorRows
import Derived.LaidLaws
import Derived.LaidHandle
import Derived.ChangeSame
import Derived.JoinedOf
set_option linter.unusedVariables false
set_option linter.unusedSimpArgs false
set_option linter.defProp false
namespace Go.Proofs.YtmegplnmiepfbaaGreatDoor.S.O
open Go.Sx
attribute [local irreducible] af cQ bG bp aA cE cw St Bx Al App cV cO cM bZ aQ bI au cj ax ak bg mapA
def Xg (x:yN):List Value:=[ae x.k,ae x.a,ae x.b]
section
variable {F:Nat->Prop}{W w w0:World}{L:List As}{mw mh:Int}{ca la oa ra:Option Addr}{cn cc ln lc mb on oc rn rc i:Nat}{cs:List Int}{xs:List yN}{x:yN}{m:bM}{es:List (FH×j6)}{Q:Option Addr->Nat->Nat->World->Prop}
variable {P5:Int->Int->Option Addr->Nat->Nat->Option Addr->Nat->Nat->Addr->Option Addr->Nat->Nat->Int->Int->World->Prop}
def av1 (w:World)(a:Option Addr)(n c:Nat)(vs:List FH)(os:List j6):Prop:=Sl w a n c 4 Ef vs/\os.length=n/\∀(i:Nat) (v:FH) (o:j6),vs[i]? =some v->os[i]? =some o->OpV w v o
def am3 {F:Nat->Prop}{W w:World}{L:List As}{oa:Option Addr}{on oc:Nat}{es:List (FH×j6)}(s:Sep F W w (ak oa on oc 38 4 (flat Ef (es.map (·.1)))::EA es::L)):av1 w oa on oc (es.map (·.1)) (es.map (·.2)):=by have h1:=aN s (i:=0) rfl atb (by decide);have hl:=h1.len;refine⟨h1,by grind,λi v o hv ho=>?_⟩;obtain⟨h2,s2⟩:=gP (ai s);rw[List.getElem?_map]at hv ho;obtain⟨e,he,rfl⟩:=Option.map_eq_some_iff.1 hv;rw[he]at ho;cases ho;have ha:=h2 e (List.mem_of_getElem? he);exact⟨ha.k,ha.A,ha.B,aN s2 (i:=i) (by rw[List.getElem?_append_left (by grind),List.getElem?_map,he];rfl) dg (by decide),ha.jE⟩
def mdL (oa:Option Addr)(on oc:Nat)(es:List (FH×j6))(mb:Nat)(m:bM)(ra:Option Addr)(rn rc:Nat):List As:=
 [ak oa on oc 38 4 (flat Ef (es.map (·.1))),EA es,ax mb 25 [ae m.w,ae m.h,.slice ra rn rc],ak ra rn rc 5 1 (flat bj m.cs)]
def ajK {ob:Nat}{v:FH}{o:j6}{nn:Int}{rest:List As}(ha:ag5 (v,o))(Cq:on<=1000)(hi:i<=1000)
  (s:Sep No w0 w (ax ob 38 (Ef v)::ak v.a v.n v.c 5 1 (flat bj o.m)::ak oa on oc 38 4 (flat Ef (es.map (·.1)))::EA es::rest))
  (next:∀a' c' w',Sep No w0 w' (ak a' (on+1) c' 38 4 (flat Ef ((es++[(v,o)]).map (·.1)))::EA (es++[(v,o)])::rest)->P5 mw mh ca cn cc la ln lc (aZ mb) a' (on+1) c' nn ((i+1:Nat):Int) w'):
  cI P5 Q mw mh ca cn cc la ln lc (aZ mb) oa on oc nn i (aZ ob) w:=by
 apply lI s 0 rfl;apply lI s 0 rfl;apply lI s 0 rfl;apply lS s 0 rfl;have s:=b_ (ai s) (List.Perm.trans (List.Perm.swap ..) (List.Perm.cons _ (List.Perm.swap ..)));rw[aH];exact awy s ha (by omega) λa' c' w s=>next a' c' w s
attribute [local irreducible] cI in
theorem axa {ob xb:Nat}(hC:Sl w0 ca cn cc 1 bj cs)(hcs:dJ cs)(NJ:cn<9223372036854775808)(hm:cT m)(Cq:on<=1000)(hi:i<=1000)
  (s:Sep No w0 w (ax ob 38 [ae 0,ae (gf x.a 0 ((m.cs.length:Int)-1)),ae (gf x.b 0 ((m.cs.length:Int)-1)),.slice none 0 0]::ax xb 90 (Xg x)::mdL oa on oc es mb m ra rn rc))
  (next:∀(m':bM) v o a' c' ra' rn' rc' w',v8 mw mh cs m x=(o,m')->Sep No w0 w' (mdL a' (on+1) c' (es++[(v,o)]) mb m' ra' rn' rc')->P5 mw mh ca cn cc la ln lc (aZ mb) a' (on+1) c' (m'.cs.length:Int) ((i+1:Nat):Int) w'):
  jt P5 Q mw mh ca cn cc la ln lc (aZ mb) oa on oc (m.cs.length:Int) i (aZ xb) (aZ ob) w:=by
 have hms:=La hm;have arZ:=IA (x:=x.b%256) (by omega);have ask:=next
 unfold v8 at ask;apply lI s 1 rfl;apply cz (by decide) (by decide) (by decide);have ek:0+x.k%(15-0+1)=gf x.k 0 15:=rfl;rw[ek];have t:∀{a b:Int},a=b->(a==b)=true:=λh=>by rw[beq_iff_eq];exact h
 have f:∀{a b:Int},a≠b->(a==b)=false:=λh=>by rw[beq_eq_false_iff_ne];exact h
 have plain:∀(k A B:Int) (w:World) (L':List As) (js:List Nat),v8 mw mh cs m x=(⟨k,A,B,[]⟩,m)->js.Nodup->js.map (λi=>L'[i]?)=[some (ax ob 38 [ae k,ae A,ae B,.slice none 0 0]),some (ak oa on oc 38 4 (flat Ef (es.map (·.1)))),some (EA es),some (ax mb 25 [ae m.w,ae m.h,.slice ra rn rc]),some (ak ra rn rc 5 1 (flat bj m.cs))]->
   Sep No w0 w L'->cI P5 Q mw mh ca cn cc la ln lc (aZ mb) oa on oc (m.cs.length:Int) i (aZ ob) w:=by
  intro k A B w L' js e hnd hpk s;have s:=bY (L':=[_,_,_,_,_]) js s hpk hnd;have s:=b_ (bC s 5 1) (List.Perm.swap ..);exact ajK (v:=⟨k,A,B,none,0,0⟩) ⟨rfl,rfl,rfl,dJ.nil⟩ Cq hi s λa' c' w s=>next _ _ _ a' c' ra rn rc w e s
 have b14:(gf x.k 0 15=0\/gf x.k 0 15=1\/gf x.k 0 15=2)->nh P5 Q mw mh ca cn cc la ln lc (aZ mb) oa on oc (m.cs.length:Int) i (aZ ob) w:=by intro h;refine av s (i:=0) rfl rfl rfl λw s=>?_;exact plain _ _ _ w _ [0,2,3,4,5] (by unfold v8;simp only;rw[if_pos h]) (by decide) rfl s
 have b21:(gf x.k 0 15=5\/gf x.k 0 15=6)->qB P5 Q mw mh ca cn cc la ln lc (aZ mb) oa on oc (m.cs.length:Int) i (aZ xb) (aZ ob) w:=by intro h;apply lI s 1 rfl;rw[wrap_u8'];apply RG (by omega);rw[aH];refine sT s 0 rfl λw s=>?_;refine av s (i:=0) rfl rfl rfl λw s=>?_;exact plain _ _ _ w _ [0,2,3,4,5] (by unfold v8;simp only;rw[fR,fR,fR,if_pos h]) (by decide) rfl s
 by_cases k0:gf x.k 0 15=0
 ·rw[t k0,cond_true];exact b14 (.inl k0)
 rw[f k0,cond_false];by_cases k1:gf x.k 0 15=1
 ·rw[t k1,cond_true];exact b14 (.inr (.inl k1))
 rw[f k1,cond_false];by_cases k2:gf x.k 0 15=2
 ·rw[t k2,cond_true];exact b14 (.inr (.inr k2))
 rw[f k2,cond_false];by_cases k3:gf x.k 0 15=3
 ·rw[t k3,cond_true];apply lI s 1 rfl;apply cz (by decide) (by decide) (by decide);refine sT s 0 rfl λw s=>?_;refine av s (i:=0) rfl rfl rfl λw s=>?_;exact plain _ _ _ w _ [0,2,3,4,5] (by unfold v8;simp only;rw[fR,if_pos k3];rfl) (by decide) rfl s
 rw[f k3,cond_false];by_cases k4:gf x.k 0 15=4
 ·rw[t k4,cond_true];apply lI s 1 rfl;apply cz (by decide) (by decide) (by decide);refine sT s 0 rfl λw s=>?_;refine sT s 0 rfl λw s=>?_;refine av s (i:=0) rfl rfl rfl λw s=>?_;exact plain _ _ _ w _ [0,2,3,4,5] (by unfold v8;simp only;rw[fR,fR,if_pos k4];rfl) (by decide) rfl s
 rw[f k4,cond_false];by_cases k5:gf x.k 0 15=5
 ·rw[t k5,cond_true];exact b21 (.inl k5)
 rw[f k5,cond_false];by_cases k6:gf x.k 0 15=6
 ·rw[t k6,cond_true];exact b21 (.inr k6)
 rw[f k6,cond_false];by_cases k7:gf x.k 0 15=7
 ·rw[t k7,cond_true];refine av s (i:=0) rfl rfl rfl λw s=>?_;exact plain _ _ _ w _ [0,2,3,4,5] (by unfold v8;simp only;rw[fR,fR,fR,fR,if_pos (.inl k7)]) (by decide) rfl s
 rw[f k7,cond_false];by_cases k8:gf x.k 0 15=8
 ·rw[t k8,cond_true];refine av s (i:=0) rfl rfl rfl λw s=>?_;exact plain _ _ _ w _ [0,2,3,4,5] (by unfold v8;simp only;rw[fR,fR,fR,fR,if_pos (.inr k8)]) (by decide) rfl s
 rw[f k8,cond_false];by_cases k9:gf x.k 0 15=9
 ·rw[t k9,cond_true];refine sT s 0 rfl λw s=>?_;refine sT s 0 rfl λw s=>?_;refine sT s 0 rfl λw s=>?_;refine av s (i:=0) rfl rfl rfl λw s=>?_;exact plain _ _ _ w _ [0,2,3,4,5] (by unfold v8;simp only;rw[fR,fR,fR,fR,fR,if_pos k9]) (by decide) rfl s
 rw[f k9,cond_false];by_cases k10:gf x.k 0 15=10
 ·rw[t k10,cond_true];apply lI s 1 rfl;refine⟨by decide,?_⟩;by_cases h4:Int.tmod x.a 4=0
  ·rw[t h4,cond_true];apply lI s 1 rfl;refine⟨by decide,?_⟩;apply lI s 1 rfl;have hm':=EO (w:=IntKind.wrap .i64 (mw+IntKind.wrap .i64 (Int.tdiv x.a 4))) (h:=IntKind.wrap .i64 (mh+x.b)) hcs;refine Y7 s (hC.fr (aq s)) hcs NJ λna nn nc w s _=>?_;have e:v8 mw mh cs m x=(Eu (vB (IntKind.wrap .i64 (mw+IntKind.wrap .i64 (Int.tdiv x.a 4))) (IntKind.wrap .i64 (mh+x.b)) cs),vB (IntKind.wrap .i64 (mw+IntKind.wrap .i64 (Int.tdiv x.a 4))) (IntKind.wrap .i64 (mh+x.b)) cs):=by rw[v8,fR,fR,fR,fR,fR,fR,if_pos k10,if_pos h4]
   generalize vB (IntKind.wrap .i64 (mw+IntKind.wrap .i64 (Int.tdiv x.a 4))) (IntKind.wrap .i64 (mh+x.b)) cs=m' at*;refine sT s 5 rfl λw s=>?_;refine sT s 5 rfl λw s=>?_;refine av s (i:=5) rfl rfl rfl λw s=>?_;apply lS s 5 rfl;apply lI s 5 rfl;apply lI s 5 rfl;apply lS s 5 rfl;have hN:=aN s (i:=0) rfl dg (by decide);have hNl:=hN.len;refine J5 s hN hm' λpa pn pc w s _=>?_;refine sT s 2 rfl λw s=>?_;refine sT s 2 rfl λw s=>?_;refine sT s 2 rfl λw s=>?_;refine av s (i:=2) rfl rfl rfl λw s=>?_;have s:=bY (L':=[_,_,_,_,_,_]) [2,0,4,5,6,1] s rfl (by decide);rw[<-hNl];exact ajK (v:=⟨1,0,0,pa,pn,pc⟩) ⟨rfl,rfl,rfl,(F8 hm').1⟩ Cq hi s λa' c' w s=>by exact next m' _ _ a' c' na nn nc w e s
  ·rw[f h4,cond_false];apply lI s 1 rfl;apply cz (by decide) (by decide) (by decide);have e20:0+x.b%(200-0+1)=gf x.b 0 200:=rfl;rw[e20,aH];refine sT s 0 rfl λw s=>?_;refine sT s 0 rfl λw s=>?_;refine sT s 0 rfl λw s=>?_;refine av s (i:=0) rfl rfl rfl λw s=>?_;exact plain _ _ _ w _ [0,2,3,4,5] (by unfold v8;simp only;rw[fR,fR,fR,fR,fR,fR,if_pos k10,if_neg h4]) (by decide) rfl s
 rw[f k10,cond_false];by_cases k11:gf x.k 0 15=11
 ·rw[t k11,cond_true];apply lI s 1 rfl;apply lI s 1 rfl;apply lI s 1 rfl;refine am2 s (by omega) λpa pn pc w s _=>?_;refine sT s 1 rfl λw s=>?_;refine sT s 1 rfl λw s=>?_;refine sT s 1 rfl λw s=>?_;refine av s (i:=1) rfl rfl rfl λw s=>?_;have s:=bY (L':=[_,_,_,_,_,_]) [1,0,3,4,5,6] s rfl (by decide);have azl:=anH (x:=x) (n:=m.cs.length) (by omega);exact ajK (v:=⟨_,_,_,pa,pn,pc⟩) (o:=K_ x m.cs.length) ⟨rfl,rfl,rfl,azl.jE⟩ Cq hi s λa' c' w s=>
   next m _ _ a' c' ra rn rc w (by unfold v8;simp only;rw[fR,fR,fR,fR,fR,fR,if_neg k10,if_pos k11]) s
 rw[f k11,cond_false];refine sT s 0 rfl λw s=>?_;refine sT s 0 rfl λw s=>?_;refine sT s 0 rfl λw s=>?_;refine av s (i:=0) rfl rfl rfl λw s=>?_;exact plain _ _ _ w _ [0,2,3,4,5] (by unfold v8;simp only;rw[fR,fR,fR,fR,fR,fR,if_neg k10,if_neg k11]) (by decide) rfl s
attribute [local irreducible] jt in
theorem aeR (s0:Sep F W w0 L)(hC:Sl w0 ca cn cc 1 bj cs)(hcs:dJ cs)(NJ:cn<9223372036854775808)(hX:Sl w0 la ln lc 3 Xg xs)
  (h:∀oa on oc w' A,Sep F W w' (A::L)->Fr No w0 w'->(∃vs,∀{F' W' w2 L2},Sep F' W' w2 (A::L2)->av1 w2 oa on oc vs (wK mw mh cs xs))->Q oa on oc w'):l_ mw mh ca cn cc la ln lc w0 Q:=by
 apply LL;have hxl:=hX.len;have hm0:=EO (w:=mw) (h:=mh) hcs;refine Y7 (aX (F:=No)) hC hcs NJ λra rn rc w s _=>?_;refine aT s λmb w s=>?_;refine sT s 0 rfl λw s=>?_;refine sT s 0 rfl λw s=>?_;refine av s (i:=0) rfl rfl rfl λw s=>?_;apply lI s 0 rfl;apply lI s 0 rfl;apply lS s 0 rfl;have hN:=aN s (i:=1) rfl dg (by decide);have hNl:=hN.len;refine J5 s hN hm0 λpa pn pc w s _=>?_;refine aM s λob w s=>?_;have s:=g7 (size:=4) s (i:=0) rfl rfl (by decide) (akO ⟨1,0,0,pa,pn,pc⟩);apply lS s 2 rfl;have s:Sep No w0 w (ak (sZ ob) 1 1 38 4 (flat Ef ([((⟨1,0,0,pa,pn,pc⟩:FH),Eu (vB mw mh cs))].map (·.1)))::ak pa pn pc 5 1 (flat bj (Eu (vB mw mh cs)).m)::ax mb 25 [ae (vB mw mh cs).w,ae (vB mw mh cs).h,.slice ra rn rc]::ak ra rn rc 5 1 (flat bj (vB mw mh cs).cs)::[]):=s;have s:=bY (L':=[_,_,_,_]) [1,0,2,3] s rfl (by decide);have s:=afi (v:=⟨1,0,0,pa,pn,pc⟩) (anY s) ⟨rfl,rfl,rfl,(F8 hm0).1⟩;have s:=b_ s (List.Perm.swap ..);rw[<-hNl];have hyl:(xs.take 60).length=min 60 ln:=by grind
 have loop:∀(k i:Nat) (m:bM) (oa:Option Addr) (oc:Nat) (es:List (FH×j6)) (ra:Option Addr) (rn rc:Nat) (w:World),i+k=(xs.take 60).length->cT m->es.map (·.2)++Ny mw mh cs m ((xs.take 60).drop i)=wK mw mh cs xs->
   Sep No w0 w (mdL oa (i+1) oc es mb m ra rn rc)->ju Q (k+1) mw mh ca cn cc la ln lc (aZ mb) oa (i+1) oc (m.cs.length:Int) i w:=by
  intro k;induction k with
  |zero=>
   intro i m oa oc es ra rn rc w hi hm he s;show nQ Q (ju Q 0) _ _ _ _ _ _ _ _ _ _ _ _ _ _ _;unfold nQ;have done:Q oa (i+1) oc w:=by rw[List.drop_eq_nil_of_le (by omega)]at he;simp[Ny,List.append_nil]at he;have k:=λ{F' W' w2 L2} (s:Sep F' W' w2 (bg True [ak oa (i+1) oc 38 4 (flat Ef (es.map (·.1))),EA es]::L2))=>am3 (gP s).2;rw[he]at k;exact h _ _ _ _ _ (dz s0 (dy s trivial) (i:=0) rfl) (aq s) ⟨_,k⟩
   grind
  |succ k ih=>
   intro i m oa oc es ra rn rc w hi hm he s;show nQ Q (ju Q (k+1)) _ _ _ _ _ _ _ _ _ _ _ _ _ _ _;rw[nQ,bK,bK];have hms:=La hm;have hx0:(xs.take 60)[i]? =some ((xs.take 60)[i]'(by omega)):=List.getElem?_eq_getElem _;have hd:(xs.take 60).drop i=(xs.take 60)[i]'(by omega)::(xs.take 60).drop (i+1):=List.drop_eq_getElem_cons (by omega);generalize (xs.take 60)[i]'(by omega)=x at hx0 hd;have Nv:xs[i]? =some x:=by
    rw[List.getElem?_take]at hx0;split at hx0
    ·exact hx0
    ·cases hx0
   rw[hd,Ny]at he;refine(hX.fr (aq s)).El rfl (by omega) λpp y hy hc=>?_;rw[Nv]at hy;cases hy;apply aJ (hc 0 _ rfl);apply aJ (hc 1 _ rfl);apply aJ (hc 2 _ rfl);have go:∀(w:World) (ob xb:Nat) (A B:Int),A=gf x.a 0 ((m.cs.length:Int)-1)->B=gf x.b 0 ((m.cs.length:Int)-1)->Sep No w0 w (ax ob 38 [ae 0,ae A,ae B,.slice none 0 0]::ax xb 90 (Xg x)::mdL oa (i+1) oc es mb m ra rn rc)->
     jt (ju Q (k+1)) Q mw mh ca cn cc la ln lc (aZ mb) oa (i+1) oc (m.cs.length:Int) i (aZ xb) (aZ ob) w:=by
    intro w ob xb A B e1 e2 s;subst e1 e2;refine axa hC hcs NJ hm (by omega) (by omega) s λm' v o a' c' ra' rn' rc' w' e s=>?_;have hok:=(auy (w:=mw) (h:=mh) hcs hm x).2;rw[e]at he hok;refine ih (i+1) m' a' c' _ ra' rn' rc' w' (by omega) hok ?_ s;rw[List.map_append,List.append_assoc];exact he
   refine aT s λxb w s=>?_;refine sT s 0 rfl λw s=>?_;refine sT s 0 rfl λw s=>?_;refine av s (i:=0) rfl rfl rfl λw s=>?_;rw[aH];have s:=ay s
   repeat' first
    |apply lI s 0 rfl
    |apply lS s 0 rfl
    |apply lB s 0 rfl
    |apply lP s 0 rfl
    |apply And.intro (ck s 0 rfl)
    |apply lI s 1 rfl
    |apply lS s 1 rfl
    |apply lB s 1 rfl
    |apply lP s 1 rfl
    |apply And.intro (ck s 1 rfl)
    |(refine sT s 0 rfl λw s=>?_)
    |(refine sT s 1 rfl λw s=>?_)
    |refine aM s λb w s=>?_
    |(refine aT s λb w s=>?_;simp[ahd,ac3,amZ,ahe]at s)
    |exact go _ _ _ _ _ rfl rfl s
    |apply cz (by omega) (by decide) (by omega)
    |apply And.intro ?_
    |(replace s:=ay s;first
     |apply lI s 0 rfl
     |apply lS s 0 rfl
     |apply lB s 0 rfl
     |apply lP s 0 rfl
     |apply And.intro (ck s 0 rfl)
     |apply lI s 1 rfl
     |apply lS s 1 rfl
     |apply lB s 1 rfl
     |apply lP s 1 rfl
     |apply And.intro (ck s 1 rfl)
     |(refine av s rfl rfl rfl λw s=>?_)
     |(refine sT s 1 rfl λw s=>?_)
     |refine aM s λb w s=>?_
     |(refine aT s λb w s=>?_;simp[ahd,ac3,amZ,ahe]at s)
     |exact go _ _ _ _ _ rfl rfl s
     |apply cz (by omega) (by decide) (by omega)
     |refine And.intro ?_ ?_)
 exact⟨(xs.take 60).length+1,loop _ 0 _ _ 1 _ ra rn rc w (by omega) hm0 rfl s⟩
def T6 (s0:Sep F W w0 L)(hC:Sl w0 ca cn cc 1 bj cs)(hcs:dJ cs)(NJ:cn<9223372036854775808)(hX:Sl w0 la ln lc 3 Xg xs)
  (h:∀oa on oc w',Sep F W w' L->Fr No w0 w'->Q8 w' oa on oc (wK mw mh cs xs)->Q oa on oc w'):l_ mw mh ca cn cc la ln lc w0 Q:=
 aeR s0 hC hcs NJ hX λoa on oc w' A s f ⟨vs,k⟩=>h oa on oc w' (ai s) f ⟨vs,k s⟩
end
end Go.Proofs.YtmegplnmiepfbaaGreatDoor.S.O
set_option maxRecDepth 20000
namespace Go.Proofs.YtmegplnmiepfbaaGreatDoor.S
open Go.Sx
attribute [local irreducible] af cQ bG bp aA cE cw St Bx Al App cV cO cM bZ aQ bI au cj ax ak bg mapA
section
variable {F:Nat->Prop}{W w:World}{L:List As}{a b:Option Addr}{n c m d:Nat}
def eq2 {a b a' b':Int}:(a==a'&&(b==b'&&true))=decide (a=a'/\b=b'):=by grind
def av5 {w:World}{x y:Operand}{a b:Int×Int}{K:Bool->World->Prop}(h:K (!decide (a=b)) w):bZ P .neq 51 x y (.agg #[ae a.1,ae a.2]) (.agg #[ae b.1,ae b.2]) w K:=by apply Xo (by kernel_rfl);apply ab8 (r:=a.1==b.1&&(a.2==b.2&&true)) (by kernel_rfl) (by kernel_rfl) (by kernel_rfl);rw[eq2];simp[<-Prod.ext_iff];exact h
def unit_eq {a b:aV}:(a.id=b.id/\a.cell=b.cell/\a.goal=b.goal)↔a=b:=by obtain⟨a1,a2,a3⟩:=a;obtain⟨b1,b2,b3⟩:=b;simp
def av6 {w:World}{x y:Operand}{a b:aV}{K:Bool->World->Prop}(h:K (!decide (a=b)) w):bZ P .neq 43 x y (.agg #[ae a.id,ae a.cell,ae a.goal]) (.agg #[ae b.id,ae b.cell,ae b.goal]) w K:=by apply Xo (by kernel_rfl);apply ab8 (r:=a.id==b.id&&(a.cell==b.cell&&(a.goal==b.goal&&true))) (by kernel_rfl) (by kernel_rfl) (by kernel_rfl);rw[eq3];simp[unit_eq];exact h
def apP {a b:En}:(a.a=b.a/\a.b=b.b/\a.c=b.c/\a.d=b.d/\a.e=b.e/\a.f=b.f)↔a=b:=by obtain⟨a1,a2,a3,a4,a5,a6⟩:=a;obtain⟨b1,b2,b3,b4,b5,b6⟩:=b;simp
instance:DecidableEq En:=λa b=>decidable_of_iff _ apP
def atZ {w:World}{x y:Operand}{a b:En}{K:Bool->World->Prop}(h:K (!decide (a=b)) w):bZ P .neq 32 x y (.agg #[.int .u64 a.a,.int .u64 a.b,.int .u64 a.c,.int .u64 a.d,.int .u64 a.e,.int .u64 a.f]) (.agg #[.int .u64 b.a,.int .u64 b.b,.int .u64 b.c,.int .u64 b.d,.int .u64 b.e,.int .u64 b.f]) w K:=by
 apply Xo (by kernel_rfl);apply ab8 (r:=a.a==b.a&&(a.b==b.b&&(a.c==b.c&&(a.d==b.d&&(a.e==b.e&&(a.f==b.f&&true)))))) (by kernel_rfl) (by kernel_rfl) (by kernel_rfl);have e:(a.a==b.a&&(a.b==b.b&&(a.c==b.c&&(a.d==b.d&&(a.e==b.e&&(a.f==b.f&&true))))))=decide (a=b):=by rw[Bool.eq_iff_iff];simp[<-apP]
 grind
def Y8 {Q:Bool->World->Prop}{xs ys:List (Int×Int)}(hX:Sl w a n c 2 jJ xs)(hY:Sl w b m d 2 jJ ys)(s0:Sep F W w L)(hn:n<1000000)(h:∀w',Sep F W w' L->Fr No w w'->Q (decide (xs=ys)) w'):
  oV a n c b m d w Q:=by
 apply KB;have h1:=hX.len;have h2:=hY.len;have fin:∀(r:Bool) (w':World),r=decide (xs=ys)->Sep No w w' []->Q r w':=λr w' e s=>by subst e;exact h w' (bP s0 (aq s)) (aq s)
 by_cases hl:n=m
 ·subst hl;have loop:∀(k i:Nat) (w1:World),i+k=n->xs.take i=ys.take i->Sep No w w1 []->kC Q (k+1) a n c b n d i w1:=by
   intro k;induction k with
   |zero=>
    intro i w1 hi he s;show ng Q (kC Q 0) _ _ _ _ _ _ _ _;unfold ng;grind
   |succ k ih=>
    intro i w1 hi he s;show ng Q (kC Q (k+1)) _ _ _ _ _ _ _ _;rw[ng,bK];have s:=ay s;refine(hX.fr (aq s)).El rfl (by omega) λp x hx hc=>?_;refine aJ (hc 0 _ rfl) (aJ (hc 1 _ rfl) ?_);refine(hY.fr (aq s)).El rfl (by omega) λp y hy hc=>?_;refine aJ (hc 0 _ rfl) (aJ (hc 1 _ rfl) ?_);apply av5;by_cases hxy:x=y
    ·rw[decide_eq_true hxy,Bool.not_true,cond_false,aH];refine ih (i+1) _ (by omega) ?_ s;rw[List.take_add_one,List.take_add_one,hx,hy,he,hxy]
    grind
  rw[bne_self_eq_false,cond_false];exact⟨n+1,loop n 0 w (by omega) (by simp) aX⟩
 ·rw[show((n:Int) !=(m:Int))=true by grind,cond_true];refine fin false _ ?_ aX;grind
def akv {Q:Bool->World->Prop}{xs ys:List aV}(hX:Sl w a n c 3 gX xs)(hY:Sl w b m d 3 gX ys)(s0:Sep F W w L)(hn:n<1000000)(h:∀w',Sep F W w' L->Fr No w w'->Q (decide (xs=ys)) w'):
  pE a n c b m d w Q:=by
 apply LM;have h1:=hX.len;have h2:=hY.len;have fin:∀(r:Bool) (w':World),r=decide (xs=ys)->Sep No w w' []->Q r w':=λr w' e s=>by subst e;exact h w' (bP s0 (aq s)) (aq s)
 by_cases hl:n=m
 ·subst hl;have loop:∀(k i:Nat) (w1:World),i+k=n->xs.take i=ys.take i->Sep No w w1 []->kZ Q (k+1) a n c b n d i w1:=by
   intro k;induction k with
   |zero=>
    intro i w1 hi he s;show nR Q (kZ Q 0) _ _ _ _ _ _ _ _;unfold nR;grind
   |succ k ih=>
    intro i w1 hi he s;show nR Q (kZ Q (k+1)) _ _ _ _ _ _ _ _;rw[nR,bK];have s:=ay s;refine(hX.fr (aq s)).El rfl (by omega) λp x hx hc=>?_;refine aJ (hc 0 _ rfl) (aJ (hc 1 _ rfl) (aJ (hc 2 _ rfl) ?_));refine(hY.fr (aq s)).El rfl (by omega) λp y hy hc=>?_;refine aJ (hc 0 _ rfl) (aJ (hc 1 _ rfl) (aJ (hc 2 _ rfl) ?_));apply av6;by_cases hxy:x=y
    ·rw[decide_eq_true hxy,Bool.not_true,cond_false,aH];refine ih (i+1) _ (by omega) ?_ s;rw[List.take_add_one,List.take_add_one,hx,hy,he,hxy]
    grind
  rw[bne_self_eq_false,cond_false];exact⟨n+1,loop n 0 w (by omega) (by simp) aX⟩
 ·rw[show((n:Int) !=(m:Int))=true by grind,cond_true];refine fin false _ ?_ aX;grind
def am4 {Q:Bool->World->Prop}{xs ys:List Int}(hX:Sl w a n c 1 one xs)(hY:Sl w b m d 1 one ys)(s0:Sep F W w L)(hn:n<1000000)(h:∀w',Sep F W w' L->Fr No w w'->Q (decide (xs=ys)) w'):
  wo a n c b m d w Q:=by
 apply Ni;have h1:=hX.len;have h2:=hY.len;have fin:∀(r:Bool) (w':World),r=decide (xs=ys)->Sep No w w' []->Q r w':=λr w' e s=>by subst e;exact h w' (bP s0 (aq s)) (aq s)
 by_cases hl:n=m
 ·subst hl;have loop:∀(k i:Nat) (w1:World),i+k=n->xs.take i=ys.take i->Sep No w w1 []->l8 Q (k+1) a n c b n d i w1:=by
   intro k;induction k with
   |zero=>
    intro i w1 hi he s;show oP Q (l8 Q 0) _ _ _ _ _ _ _ _;unfold oP;grind
   |succ k ih=>
    intro i w1 hi he s;show oP Q (l8 Q (k+1)) _ _ _ _ _ _ _ _;rw[oP,bK];have s:=ay s;apply(hX.fr (aq s)).qD rfl (by omega);apply(hY.fr (aq s)).qD rfl (by omega);have hx:xs[i]? =some (gi xs i):=by rw[List.getElem?_eq_getElem (by omega)];unfold gi;grind
    have hy:ys[i]? =some (gi ys i):=by rw[List.getElem?_eq_getElem (by omega)];unfold gi;grind
    by_cases hxy:gi xs i=gi ys i
    ·rw[Ez hxy,cond_false,aH];refine ih (i+1) _ (by omega) ?_ s;rw[List.take_add_one,List.take_add_one,hx,hy,he,hxy]
    grind
  rw[bne_self_eq_false,cond_false];exact⟨n+1,loop n 0 w (by omega) (by simp) aX⟩
 ·rw[show((n:Int) !=(m:Int))=true by grind,cond_true];refine fin false _ ?_ aX;grind
def ajL {Q:Bool->World->Prop}{xs ys:List Int}(hA:Sl w a n c 1 bj xs)(hB:Sl w b m d 1 bj ys)(hx:dJ xs)(hy:dJ ys)(h:Q (decide (xs=ys)) w):uX a n c b m d w Q:=by apply LN;refine Iz dQ hA.row rfl rfl rfl rfl rfl rfl (Xn ?_);refine Iz dQ hB.row rfl rfl rfl rfl rfl rfl (Xn ?_);rw[afa hx hy];exact h
def map_eq {a b:bM}:(a.w=b.w/\a.h=b.h/\a.cs=b.cs)↔a=b:=by obtain⟨a1,a2,a3⟩:=a;obtain⟨b1,b2,b3⟩:=b;simp
instance:DecidableEq bM:=λa b=>decidable_of_iff _ map_eq
def agZ {Q:Bool->World->Prop}{p q:bM}(hA:Sl w a n c 1 bj p.cs)(hB:Sl w b m d 1 bj q.cs)(hx:dJ p.cs)(hy:dJ q.cs)(s0:Sep F W w L)(h:∀w',Sep F W w' L->Fr No w w'->Q (decide (p=q)) w'):nV p.w p.h a n c q.w q.h b m d w Q:=by
 apply JU;have fin:∀(r:Bool) (w':World),r=decide (p=q)->Sep No w w' []->Q r w':=λr w' e s=>by subst e;exact h w' (bP s0 (aq s)) (aq s)
 refine aM (aX (F:=No)) λpb w s=>?_;refine aM s λqb w s=>?_;refine lI s 1 rfl (lI s 0 rfl ?_);have fs:=ai (ai s);by_cases h1:p.w=q.w
 ·rw[d_ h1,cond_true];refine lI s 1 rfl (lI s 0 rfl ?_);by_cases h2:p.h=q.h
  ·rw[d_ h2,cond_true];refine lS s 1 rfl (lS s 0 rfl ?_);apply ajL (hA.fr (aq s)) (hB.fr (aq s)) hx hy;refine fin _ _ ?_ fs;obtain⟨p1,p2,p3⟩:=p;obtain⟨q1,q2,q3⟩:=q;grind
  grind
 grind
end
section
variable {F:Nat->Prop}{W w:World}{L:List As}{lg:zT}{r:G8}{y:AZ}{o:j6}{a:Option Addr}{n c:Nat}
def axb {K:Addr->World->Prop}{code d dir id:Int}{ma ga:Option Addr}{mn mc gn gc:Nat}{q0 q1 q2 q3 q4 q5:Int}(s:Sep F W w L)
  (h:∀p w',Sep F W w' (ax p 34 (J4 code d dir id ma mn mc ga gn gc ⟨q0,q1,q2,q3,q4,q5⟩)::L)->K (aZ p) w'):
  Al T 34 w λp w=>St (p.add 0) (ae code) w λw=>St (p.add 1) (ae d) w λw=>St (p.add 2) (ae dir) w λw=>St (p.add 3) (ae id) w λw=>
   St (p.add 4) (.slice ma mn mc) w λw=>St (p.add 5) (.slice ga gn gc) w λw=>St (p.add 6) (.int .u64 q0) w λw=>St (p.add 7) (.int .u64 q1) w λw=>St (p.add 8) (.int .u64 q2) w λw=>
   St (p.add 9) (.int .u64 q3) w λw=>St (p.add 10) (.int .u64 q4) w λw=>St (p.add 11) (.int .u64 q5) w λw=>K p w:=by
 refine aT s λp w s=>?_
 iterate 12 refine sT s 0 rfl λw s=>?_
 exact h p w s
def XK {K:Addr->World->Prop}(hL:iP W lg)(ho:G_ o)(hM:∀w',Sep No W w' L->Sl w' a n c 1 bj o.m)(uJ:ajI y.p)(s:Sep No W w (fJ r y::L))
  (h:∀r' y' ma mn mc ga gn gc p w',r'.p=r.p->y'.p=(fP y.p o).1->Sep No W w' (ax p 34 (J4 (fP y.p o).2.code (fP y.p o).2.d (fP y.p o).2.dir (fP y.p o).2.id ma mn mc ga gn gc (nF y'.p.bO))::ak ma mn mc 51 2 (flat jJ (fP y.p o).2.IQ)::ak ga gn gc 3 1 (flat one (fP y.p o).2.gone)::fJ r' y'::L)->K (aZ p) w'):
  gz (sZ r.p) o.k o.A o.B a n c w λcode d dir id ma mn mc ga gn gc q0 q1 q2 q3 q4 q5 w=>
   Al T 34 w λp w=>St (p.add 0) (ae code) w λw=>St (p.add 1) (ae d) w λw=>St (p.add 2) (ae dir) w λw=>St (p.add 3) (ae id) w λw=>
   St (p.add 4) (.slice ma mn mc) w λw=>St (p.add 5) (.slice ga gn gc) w λw=>St (p.add 6) (.int .u64 q0) w λw=>St (p.add 7) (.int .u64 q1) w λw=>St (p.add 8) (.int .u64 q2) w λw=>
   St (p.add 9) (.int .u64 q3) w λw=>St (p.add 10) (.int .u64 q4) w λw=>St (p.add 11) (.int .u64 q5) w λw=>K p w:=
 Xf hL ho hM uJ s λr' y' ma mn mc ga gn gc w er ey s=>axb s λp w s=>h r' y' ma mn mc ga gn gc p w er ey s
def af1 {K:yN->List Value}{Q:Option Addr->Nat->Nat->World->Prop}{xs:List yN}{k:Nat}(hA:Sl w a n c 3 K xs)(h:∀a' c',Sl w a' (min n k) c' 3 K (xs.take (min n k))->Q a' (min n k) c' w):r6 a n c k w Q:=by apply Q2;refine hA.hi ?_ (Nat.min_le_left ..) h;unfold Dy;omega
def av7 {Q:Bool->World->Prop}{pb qb:Nat}{code d dir id:Int}{ma ga ma' Oj:Option Addr}{mn mc gn gc mn' Mt Ol gc':Nat}{q q':En}{xs:List (Int×Int)}{gs:List Int}
  (h1:∀w',Sep No W w' L->Sl w' ma mn mc 2 jJ xs)(h2:∀w',Sep No W w' L->Sl w' ma' mn' Mt 2 jJ xs)(h3:∀w',Sep No W w' L->Sl w' ga gn gc 1 one gs)(h4:∀w',Sep No W w' L->Sl w' Oj Ol gc' 1 one gs)(hx:xs.length<1000000)(hg:gs.length<1000000)
  (s:Sep No W w (ax pb 34 (J4 code d dir id ma mn mc ga gn gc q)::ax qb 34 (J4 code d dir id ma' mn' Mt Oj Ol gc' q')::L))(h:∀w',Sep No W w' L->Q true w'):v_ (sZ pb) 1 1 (sZ qb) 1 1 w Q:=by
 apply Nj;refine⟨2,?_⟩;show oQ Q (oR Q 1) _ _ _ _ _ _ _ _;unfold oQ;have s:=ay s;refine⟨by decide,by decide,ah ?_⟩;refine lI s 0 rfl (lI s 0 rfl (lI s 0 rfl (lI s 0 rfl (lS s 0 rfl (lS s 0 rfl ?_)))));refine lI s 0 rfl (lI s 0 rfl (lI s 0 rfl (lI s 0 rfl (lI s 0 rfl (lI s 0 rfl ?_)))));refine⟨by decide,by decide,ah ?_⟩;refine lI s 1 rfl (lI s 1 rfl (lI s 1 rfl (lI s 1 rfl (lS s 1 rfl (lS s 1 rfl ?_)))));refine lI s 1 rfl (lI s 1 rfl (lI s 1 rfl (lI s 1 rfl (lI s 1 rfl (lI s 1 rfl ?_)))));have s:=ai (ai s);apply KC;refine aM s λpb w s=>aM s λqb w s=>?_;refine lI s 1 rfl (lI s 0 rfl ?_);rw[beq_self_eq_true,cond_true];refine lI s 1 rfl (lI s 0 rfl ?_);rw[beq_self_eq_true,cond_true];refine lI s 1 rfl (lI s 0 rfl ?_);rw[beq_self_eq_true,cond_true];refine lI s 1 rfl (lI s 0 rfl ?_);rw[beq_self_eq_true,cond_true];refine lS s 1 rfl (lS s 0 rfl ?_);have sL:=ai (ai s);have:=(h1 _ sL).len;have:=(h3 _ sL).len;refine Y8 (h1 _ sL) (h2 _ sL) s (by omega) λw s _=>?_;rw[bK rfl];refine lS s 1 rfl (lS s 0 rfl ?_);have sL:=ai (ai s);refine am4 (h3 _ sL) (h4 _ sL) s (by omega) λw s _=>?_;rw[decide_eq_true rfl];show cond (!true) _ _;rw[Bool.not_true,cond_false];show oQ Q (oR Q 0) _ _ _ _ _ _ _ _;unfold oQ;exact h _ (ai (ai s))
end
end Go.Proofs.YtmegplnmiepfbaaGreatDoor.S
namespace Go.Proofs.YtmegplnmiepfbaaGreatDoor.S
open Go.Sx
structure MB (most:Int) (m:bM) (u:yj):Prop where
 may:cT m
 nS:m.w*m.h<=1600
 us:oh m.w m.h u.us
 nx:0<=u.next
 lt:∀v∈u.us,v.id<u.next
 mst:u.most=most
 len:(u.us.length:Int)<=most
structure zW (t:Int) (q:iT):Prop where
 ep:zU q.bO<=t
 tp:0<=t
 mo:1<=q.most/\q.most<=65536
 st:(q.bO.o=none/\q.us=none)\/∃m u,q.bO.o=some m/\q.us=some u/\MB q.most m.g.m u/\u.next<=t
def zW.sm {t:Int}{q:iT}(h:zW t q)(ht:t<1000000000):ajI q:=by
 refine⟨by have:=h.ep;omega,λu hu=>?_⟩;rcases h.st with⟨_,e⟩|⟨m,u',_,e,_,hn⟩
 all_goals grind
def zW.mono {t t':Int}{q:iT}(h:zW t q)(ht:t<=t'):zW t' q:=by
 refine⟨by have:=h.ep;omega,by have:=h.tp;omega,h.mo,?_⟩;rcases h.st with e|⟨m,u',h1,h2,h3,hn⟩
 all_goals grind
section
variable {most t:Int}{m:bM}{u:yj}{q:iT}{o:j6}
def arK (hm:cT m){c x:Int}(hx:1<=x/\x<=255):cT ⟨m.w,m.h,m.cs.set c.toNat x⟩:=by
 refine⟨hm.w,hm.h,?_,λy hy=>?_⟩
 ·rw[List.length_set];exact hm.len
 ·rcases List.mem_or_eq_of_mem_set hy with hy|rfl
  ·exact hm.jE y hy
  ·omega
def MB.drop (h:MB most m u)(id:Int):MB most m (kY u id):=by have hs:(kY u id).us.Sublist u.us:=List.filter_sublist;refine⟨h.may,h.nS,h.us.sub hs,h.nx,λv hv=>h.lt v (hs.subset hv),h.mst,?_⟩;have:=hs.length_le;have:=h.len;omega
def MB.W7 (h:MB most m u)(id:Int){B:Int}(hB:bJ m.w m.h B):MB most m (vT u id λv=>⟨v.id,v.cell,B⟩):=by
 have e1:∀us:List aV,(us.map λv=>if v.id=id then(⟨v.id,v.cell,B⟩:aV)else v).map (·.id)=us.map (·.id):=λus=>by rw[List.map_map];refine List.map_congr_left λv _=>?_;simp[Function.comp];split<;>rfl
 have e2:∀us:List aV,(us.map λv=>if v.id=id then(⟨v.id,v.cell,B⟩:aV)else v).map (·.cell)=us.map (·.cell):=λus=>by rw[List.map_map];refine List.map_congr_left λv _=>?_;simp[Function.comp];split<;>rfl
 have hmem:∀v∈(vT u id λv=>⟨v.id,v.cell,B⟩).us,∃v'∈u.us,v.id=v'.id/\v.cell=v'.cell/\(v.goal=v'.goal\/v.goal=B):=λv hv=>by
  obtain⟨v',hv',rfl⟩:=List.mem_map.1 hv;refine⟨v',hv',?_⟩;split
  ·exact⟨rfl,rfl,.inr rfl⟩
  ·exact⟨rfl,rfl,.inl rfl⟩
 refine⟨h.may,h.nS,⟨h.us.wh,?_,λv hv=>?_,λv hv=>?_,?_⟩,h.nx,λv hv=>?_,h.mst,?_⟩
 ·show List.Pairwise _ (List.map _ (List.map _ _));rw[e1];exact h.us.ids
 ·obtain⟨v',h1,h2,_⟩:=hmem v hv;rw[h2];exact h.us.pos v' h1
 ·obtain⟨v',h1,_,h3,h4⟩:=hmem v hv;have:=h.us.at_ v' h1;refine⟨by rw[h3];exact this.1,?_⟩;rcases h4 with h4|h4
  ·rw[h4];exact this.2
  ·rw[h4];exact hB
 ·show List.Nodup (List.map _ (List.map _ _));rw[e2];exact h.us.nd
 ·obtain⟨v',h1,h2,_⟩:=hmem v hv;rw[h2];exact h.lt v' h1
 ·show((List.map _ _).length:Int)<=most;rw[List.length_map];exact h.len
def MB.add (h:MB most m u){A B:Int}(hs:vz m.w m.h u A B=0):MB most m (Pf u A B):=by
 unfold vz at hs;split at hs
 ·omega
 split at hs
 ·omega
 split at hs
 ·omega
 split at hs
 ·omega
 rename_i h1 h2 h3 h4;have h1:=Decidable.not_not.1 h1;have h2:=Decidable.not_not.1 h2;have hl:((u.us++[(⟨u.next,A,B⟩:aV)]).length:Int)=u.us.length+1:=by simp
 have:=h.mst;refine⟨h.may,h.nS,alj h.us (λv hv=>h.lt v hv) h.nx h1.1 h1.2 ((alk h.us).1 h2),?_,λv hv=>?_,h.mst,?_⟩
 ·show 0<=u.next+1
  have:=h.nx;omega
 ·show v.id<u.next+1
  rcases List.mem_append.1 hv with hv|hv
  ·have:=h.lt v hv;omega
  grind
 ·show((u.us++[(⟨u.next,A,B⟩:aV)]).length:Int)<=_;omega
def Xh {w h:Int}:∀(todo:List (aV×Int)) (done:List aV),∀v∈(dK w h done todo).1,∃v'∈done++todo.map (·.1),v.id=v'.id/\v.goal=v'.goal
 |[],done,v,hv=>⟨v,by simpa[dK]using hv,rfl,rfl⟩
 |(x,d)::rest,done,v,hv=>by
  cases hb:uG w h (done++x::rest.map (·.1)) x d with
  |true=>
   rw[Io hb]at hv;obtain⟨v',h1,h2,h3⟩:=Xh rest _ v hv;rw[List.append_assoc]at h1;rcases List.mem_append.1 h1 with h1|h1
   ·grind
   ·rcases List.mem_append.1 h1 with h1|h1
    ·unfold nX at h1;grind
    grind
  |false=>
   rw[Ip hb]at hv;obtain⟨v',h1,h2,h3⟩:=Xh rest _ v hv;grind
def zip_fst {α β:Type}{l:List α}(f:α->β):(l.zip (l.map f)).map (·.1)=l:=by rw[List.map_fst_zip];grind
def MB.tick (h:MB most m u):MB most m (Om m.w m.h u (rI m u.us)):=by
 have hz:(u.us.zip (rI m u.us)).map (·.1)=u.us:=zip_fst _;refine⟨h.may,h.nS,W9 _ [] (by rw[List.nil_append,hz];exact h.us),h.nx,λv hv=>?_,h.mst,?_⟩
 ·obtain⟨v',h1,h2,_⟩:=Xh _ _ v hv;rw[List.nil_append,hz]at h1;rw[h2];exact h.lt v' h1
 ·have h1:=(Jr (w:=m.w) (h:=m.h) (u.us.zip (rI m u.us)) []).1;have h2:=congrArg List.length hz;have:=h.len;have e:(Om m.w m.h u (rI m u.us)).us=(dK m.w m.h [] (u.us.zip (rI m u.us))).1:=rfl;grind
def apQ (q:wH)(t s:Int):zU (zI q t s)=zU q:=by
 cases h:q.o with
 |none=>unfold zI;rw[h]
 |some m=>
  obtain⟨m',h1,h2⟩:=Er h t s;unfold zU;grind
def arL (q:wH)(ps:List G2):zU (G4 q ps)=zU q:=by
 cases h:q.o with
 |none=>
  have:G4 q ps=q:=by
   unfold G4;induction ps with
   |nil=>rfl
   |cons p ps ih=>rw[List.foldl_cons];unfold zI;rw[h];exact ih
  rw[this]
 |some m=>
  obtain⟨m',h1,h2⟩:=G6 ps h;unfold zU;grind
def axc {mp:xH}(h:zW t q)(hm:q.bO.o=some mp)(hu:q.us=some u)(hn:MB q.most mp.g.m u)(hx:u.next<=t):zW (t+1) (RF q mp.g.m u o).1:=by
 have hsame:zW (t+1) q:=h.mono (by omega);have ht:=h.tp;have YN:=h.ep;have epm:zU q.bO=mp.g.ep:=by unfold zU;rw[hm]
 unfold RF;split
 ·split
  ·exact hsame
  ·split
   ·exact hsame
   ·split
    ·exact hsame
    ·have e:(edP q.bO o.A o.B).o=some ⟨xA mp.g o.A o.B,mp.W6,mp.clean,mp.fV,mp.kept,mp.fc⟩:=by unfold edP;rw[hm];rfl
     refine⟨?_,by omega,h.mo,.inr ⟨_,u,e,rfl,?_,by omega⟩⟩
     ·rw[zU,e];show mp.g.ep+1<=t+1;omega
     ·exact⟨arK hn.may (by omega),hn.nS,hn.us,hn.nx,hn.lt,hn.mst,hn.len⟩
 ·split
  ·split
   ·exact hsame
   ·split
    ·exact hsame
    ·split
     ·exact hsame
     ·rename_i h1 h2 h3;exact⟨by grind,by omega,h.mo,.inr ⟨mp,_,hm,rfl,hn.add (Decidable.not_not.1 h3),by show u.next+1<=t+1;omega⟩⟩
  ·split
   ·split
    ·exact hsame
    ·split
     ·exact hsame
     ·split
      ·exact⟨by grind,by omega,h.mo,.inr ⟨mp,_,hm,rfl,hn.drop _,by show u.next<=t+1;omega⟩⟩
      ·rename_i h2 _;exact⟨by grind,by omega,h.mo,.inr ⟨mp,_,hm,rfl,hn.W7 _ (Decidable.not_not.1 h2),by show u.next<=t+1;omega⟩⟩
   ·split
    ·split
     ·exact hsame
     ·exact⟨by grind,by omega,h.mo,.inr ⟨mp,_,hm,rfl,hn.drop _,by show u.next<=t+1;omega⟩⟩
    ·split
     ·split
      ·obtain⟨Y5,h1,h2⟩:=Er hm o.A (cP mp.g.m o.B);refine⟨by show zU (zI _ _ _)<=_;rw[apQ];omega,by omega,h.mo,.inr ⟨Y5,u,h1,rfl,by grind,by omega⟩⟩
      grind
     ·obtain⟨Y5,h1,h2⟩:=G6 (mM mp.g.m.w mp.g.m.h u.us) hm;refine⟨by show zU (G4 _ _)<=_;rw[arL];omega,by omega,h.mo,.inr ⟨Y5,_,h1,rfl,by rw[h2];exact hn.tick,by show u.next<=t+1;omega⟩⟩
def ac5 (h:zW t q)(ho:G_ o):zW (t+1) (fP q o).1:=by
 have hsame:zW (t+1) q:=h.mono (by omega);have ht:=h.tp;have YN:=h.ep;unfold fP;split
 ·exact hsame
 ·split
  ·rename_i k1;split
   ·exact hsame
   ·rename_i mp hg;have hf:=(ho.load k1).2 mp hg;have hm:=afs ho.jE hg;have hmo:=h.mo;refine⟨?_,by omega,h.mo,.inr ⟨_,_,rfl,rfl,⟨hm,hf,⟨⟨hm.w,hm.h⟩,.nil,λv hv=>(by cases hv),λv hv=>(by cases hv),.nil⟩,Int.le_refl _,λv hv=>(by cases hv),rfl,?_⟩,by grind⟩⟩
    ·show zU q.bO+1<=t+1;omega
    grind
  ·split
   ·rcases h.st with⟨h1,h2⟩|⟨m,u,h1,h2,h3,h4⟩
    ·refine⟨?_,by omega,h.mo,.inl ⟨by show(Oq q.bO).o=none;unfold Oq;rw[h1];rfl,h2⟩⟩;unfold zU Oq;grind
    ·have e:(Oq q.bO).o=some ⟨m.g,m.W6,m.clean,m.fV,none,m.fc⟩:=by unfold Oq;rw[h1];rfl
     refine⟨?_,by omega,h.mo,.inr ⟨_,u,e,h2,h3,by omega⟩⟩;show zU (Oq q.bO)<=_;have:zU q.bO=zU (Oq q.bO):=by unfold zU;rw[e,h1]
     omega
   ·rcases h.st with⟨h1,h2⟩|⟨m,u,h1,h2,h3,h4⟩
    ·grind
    ·rw[h1,h2];exact axc h h1 h2 h3 h4
end
def Ep.of {bs:List Int}{m:bM}(h:k_ bs=some m):Ep bs:=by
 unfold k_ at h;split at h
 ·cases h
 ·split at h
  ·rename_i h1 h2;refine⟨by omega,h2,λbs' M hT=>?_⟩;grind
  ·cases h
def nv {k A B:Int}(hk:k≠1):G_ ⟨k,A,B,[]⟩:=⟨dJ.nil,by simp,λe=>(hk e).elim⟩
def aeS {m:bM}(hm:cT m)(hf:m.w*m.h<=1600):G_ (Eu m):=by have h1:=F8 hm;have h2:=abZ hm;refine⟨h1.1,h1.2,λ_=>⟨.of h2,λmp h=>?_⟩⟩;have h:k_ (yM m)=some mp:=h;grind
def ajM (w h:Int)(c:List Int):(vB w h c).w*(vB w h c).h<=1600:=by have h1:=kj (n:=w) (lo:=1) (hi:=40) (by decide);have h2:=kj (n:=h) (lo:=1) (hi:=40) (by decide);show gf w 1 40*gf h 1 40<=1600;have:=Int.mul_le_mul h1.2 h2.2 (by omega) (by decide);omega
def am5 {a b:Int}{ts:List Int}{used:Nat}(h:E8 [1,a,b] 2=some (ts,used)):used=3:=by
 unfold E8 at h;have e:IG 2 [1,a,b]=if[a,b].length<2\/0∈[a,b].take 2 then none else some ([a,b].take 2,1+2):=rfl
 grind
def av9 {x:yN}{n:Int}:G_ (K_ x n):=by
 unfold K_;simp only;split
 ·have hd:Ep [2,0,1,0,1,x.a%256,x.b%256]:=by
   refine⟨by simp,(by decide:iM (2+256*0) (1+256*0)),λbs' M h=>?_⟩;have h:rj 2 1 1 0 [1,x.a%256,x.b%256] [0,0]=some (bs',M):=h;unfold rj at h;have e:(aE 2 1 0*bw 2 1 0).toNat=2:=by decide
   split at h
   ·cases h
   ·rename_i ts used hT;have:=am5 hT;subst this;unfold rj at h;grind
  refine⟨dJ.mk (by decide) (dJ.mk (by decide) (dJ.mk (by decide) (dJ.mk (by decide) (dJ.mk (by decide) (dJ.mk (by omega) (dJ.mk (by omega) dJ.nil)))))),by simp,λ_=>⟨hd,λmp h=>?_⟩⟩;have h:=h;rw[hd.get]at h;obtain⟨q,_,rfl⟩:=Option.map_eq_some_iff.1 h;show(2+256*0:Int)*(1+256*0)<=1600;decide
 ·split
  ·exact nv (by decide)
  ·split
   ·exact nv (by decide)
   ·exact nv (by assumption)
def av_ {w h:Int}{c:List Int}(hc:dJ c){m:bM}(x:yN):G_ (v8 w h c m x).1:=by
 unfold v8;simp only;split
 ·exact nv (by decide)
 ·split
  ·exact nv (by decide)
  ·split
   ·exact nv (by decide)
   ·split
    ·exact nv (by decide)
    ·split
     ·exact nv (by decide)
     ·split
      ·exact nv (by decide)
      ·split
       ·split
        ·exact aeS (EO hc) (ajM _ _ _)
        ·exact nv (by decide)
       ·split
        ·exact av9
        ·exact nv (by decide)
def alv {w h:Int}{c:List Int}(hc:dJ c):∀(xs:List yN) {m:bM},∀o∈Ny w h c m xs,G_ o
 |[],_,o,ho=>by cases ho
 |x::xs,m,o,ho=>by
  rcases List.mem_cons.1 ho with rfl|ho
  ·exact av_ hc x
  ·exact alv hc xs o ho
def af2 {w h:Int}{c:List Int}(hc:dJ c)(xs:List yN):∀o∈wK w h c xs,G_ o:=λo ho=>by
 rcases List.mem_cons.1 ho with rfl|ho
 ·exact aeS (EO hc) (ajM _ _ _)
 ·exact alv hc _ o ho
noncomputable def ye (q:iT)(os:List j6):iT:=os.foldl (λq o=>(fP q o).1) q
def Hf (k most:Int):iT:=⟨most,⟨k,⟨[],[],0,0,0,0⟩,none,⟨0,0,0,0,0,0⟩⟩,none⟩
section
variable {q:iT}{o:j6}{t:Int}
def am6 {k most:Int}(hm:1<=most/\most<=65536):zW 0 (Hf k most):=⟨Int.le_refl _,Int.le_refl _,hm,.inl ⟨rfl,rfl⟩⟩
def asK:∀(os:List j6) {q:iT} {t:Int},zW t q->(∀o∈os,G_ o)->zW (t+os.length) (ye q os)
 |[],q,t,h,_=>by simpa[ye]using h
 |o::os,q,t,h,ho=>by have:=asK os (ac5 h (ho o (by simp))) λo' h'=>ho o' (by simp[h']);rw[List.length_cons,show t+((os.length+1:Nat):Int)=t+1+os.length by omega];exact this
def arM (q:iT)(os:List j6)(o:j6):ye q (os++[o])=(fP (ye q os) o).1:=by unfold ye;grind
def arN {os:List j6}{i:Nat}(hi:i<os.length)(ho:os[i]? =some o):ye q (os.take (i+1))=(fP (ye q (os.take i)) o).1:=by rw[List.take_add_one,ho];exact arM _ _ _
def awa {mp:xH}{u:yj}(hm:q.bO.o=some mp):(RF q mp.g.m u o).1.bO.o≠none:=by
 unfold RF
 repeat' split
 all_goals first
  |(show q.bO.o≠none;rw[hm];exact Option.some_ne_none _)
  |(show(edP q.bO o.A o.B).o≠none;unfold edP;rw[hm];exact Option.some_ne_none _)
  |(obtain⟨m',h1,_⟩:=Er hm o.A (cP mp.g.m o.B);rw[h1];exact Option.some_ne_none _)
  |(obtain⟨m',h1,_⟩:=G6 (mM mp.g.m.w mp.g.m.h u.us) hm;rw[h1];exact Option.some_ne_none _)
def awb (h:q.bO.o≠none):(fP q o).1.bO.o≠none:=by
 obtain⟨mp,hm⟩:=Option.ne_none_iff_exists'.1 h;unfold fP;split
 ·exact h
 ·split
  ·split
   ·exact h
   ·exact Option.some_ne_none _
  ·split
   ·unfold Oq;grind
   ·rw[hm];cases hu:q.us with
    |none=>exact h
    |some u=>exact awa hm
def apR:∀(os:List j6) {q:iT},q.bO.o≠none->(ye q os).bO.o≠none
 |[],q,h=>h
 |o::os,q,h=>apR os (awb h)
def alw {m:bM}(hm:cT m):fP q (Eu m)=(⟨q.most,ldP q.bO m,some ⟨q.most,0,[]⟩⟩,lE 0):=by have h1:=F8 hm;have e:EM (Eu m)=true:=(adk h1.1 h1.2).may;rw[fP,e,if_neg (by rintro (h|h)<;>cases h),if_pos (show(Eu m).k=(1:Int)from rfl)];have e:k_ (Eu m).m=some m:=abZ hm;rw[e]
def apS {w h:Int}{c:List Int}(hc:dJ c)(xs:List yN)(q:iT){i:Nat}(hi:0<i):(ye q ((wK w h c xs).take i)).bO.o≠none:=by obtain⟨j,rfl⟩:∃j,i=j+1:=⟨i-1,by omega⟩;unfold wK;show(ye (fP q _).1 _).bO.o≠none;apply apR;rw[alw (EO hc)];exact Option.some_ne_none _
end
def pre (cs:List Int):Nat->Int
 |0=>0
 |k+1=>pre cs k+gi cs k
structure uH (m:bM) (p q:Int):Prop where
 may:cT m
 op:∀x∈m.cs,x<255
 dir:(m.h=1/\p=1/\q=3)\/(m.w=1/\p=2/\q=0)
section
variable {m:bM}{p q x t s:Int}
def uH.bJ (h:uH m p q)(hx:0<=x/\x<m.cs.length):bJ m.w m.h x:=⟨⟨h.may.w,h.may.h⟩,hx.1,by rw[<-h.may.len];exact hx.2⟩
def uH.cost (h:uH m p q)(hx:0<=x/\x<m.cs.length):cR m x=gi m.cs x.toNat/\1<=cR m x/\cR m x<=254:=by
 have e:cR m x=gi m.cs x.toNat:=by unfold cR;grind
 have hm:=fA (l:=m.cs) (i:=x.toNat) (by omega);have h1:=h.may.jE _ hm;have h2:=h.op _ hm;omega
def uH.Ej (h:uH m p q)(hx:0<=x/\x<m.cs.length):e_ m x=true:=by have:=h.cost hx;unfold e_;simp;omega
def uH.step (h:uH m p q)(hx:0<=x/\x<m.cs.length)(hs:0<=s/\s<=3):bf m.w m.h x s=if s=p then(if x+1<m.cs.length then x+1 else-1)else if s=q then x-1 else-1:=by
 have hc:=h.bJ hx;have hl:=h.may.len;have hw:=h.may.w;have hh:=h.may.h;rw[bf,if_pos hc];rcases h.dir with⟨e,rfl,rfl⟩|⟨e,rfl,rfl⟩
 ·rw[e]at hl⊢;have e1:x%m.w=x:=Int.emod_eq_of_lt hx.1 (by omega);have e2:x/m.w=0:=Int.ediv_eq_zero_of_lt hx.1 (by omega);rw[e1,e2];obtain rfl|rfl|rfl|rfl:s=0\/s=1\/s=2\/s=3:=by omega
  ·rw[if_pos rfl,sP (by omega)];rfl
  ·rw[if_neg (by decide),if_neg (by decide),if_neg (by decide),if_pos rfl,if_pos rfl];split
   ·rw[nj ⟨hw,by decide⟩ (by omega) (by omega)];omega
   ·rw[sP (by omega)]
  ·rw[if_neg (by decide),if_pos rfl,sP (by omega)];rfl
  ·rw[if_neg (by decide),if_neg (by decide),if_pos rfl,if_neg (by decide),if_pos rfl];by_cases h0:x=0
   ·rw[sP (by omega)];omega
   ·rw[nj ⟨hw,by decide⟩ (by omega) (by omega)];omega
 ·rw[e]at hl⊢;obtain rfl|rfl|rfl|rfl:s=0\/s=1\/s=2\/s=3:=by omega
  ·by_cases h0:x=0
   ·rw[sP (by omega)];omega
   ·rw[nj ⟨by decide,hh⟩ (by omega) (by omega)];omega
  ·rw[if_neg (by decide),if_neg (by decide),if_neg (by decide),if_pos rfl,sP (by omega)];rfl
  ·rw[if_neg (by decide),if_pos rfl,if_pos rfl];split
   ·rw[nj ⟨by decide,hh⟩ (by omega) (by omega)];omega
   ·rw[sP (by omega)]
  ·rw[if_neg (by decide),if_neg (by decide),if_pos rfl,sP (by omega)];rfl
def uH.pq (h:uH m p q):(0<=p/\p<=3)/\(0<=q/\q<=3)/\p≠q:=by rcases h.dir with⟨_,rfl,rfl⟩|⟨_,rfl,rfl⟩<;>decide
def uH.azm (h:uH m p q){n c:Int}(e:fT m x n c):(0<=x/\x<m.cs.length)/\(0<=n/\n<m.cs.length)/\(n=x+1\/n=x-1)/\c=cR m n:=by
 obtain⟨h1,h2,⟨s,hs,e⟩,hc⟩:=e;have hl:=h.may.len;have hx:=(jV h.may h1).2;have hn:=(jV h.may h2).2;have hx:0<=x/\x<m.cs.length:=by omega
 rw[h.step hx hs]at e;omega
def AE (m:bM)(t x:Int):Int:=if 0<=x/\x<m.cs.length then(if x<=t then pre m.cs (t+1).toNat-pre m.cs (x+1).toNat else pre m.cs x.toNat-pre m.cs t.toNat)else cf
def ac6 (h:uH m p q)(hx:0<=x/\x<m.cs.length):pre m.cs (x+1).toNat=pre m.cs x.toNat+cR m x:=by rw[(h.cost hx).1,show(x+1).toNat=x.toNat+1 by omega];rfl
def Hg (h:uH m p q):∀k:Nat,k<=m.cs.length->0<=pre m.cs k/\pre m.cs k<=254*k
 |0,_=>by simp[pre]
 |k+1,hk=>by have:=Hg h k (by omega);have h1:=(h.cost (x:=k) (by omega));have h2:=h1.1;rw[Int.toNat_natCast]at h2;show 0<=pre m.cs k+gi m.cs k/\pre m.cs k+gi m.cs k<=_;omega
def uH.D (h:uH m p q)(ht:0<=t/\t<m.cs.length)(hx:0<=x/\x<m.cs.length):D m t x=AE m t x:=by
 have hsz:=La h.may;have small:∀y:Int,0<=y/\y<m.cs.length->AE m t y<cf:=λy hy=>by have h1:=Hg h (t+1).toNat (by omega);have h2:=Hg h (y+1).toNat (by omega);have h3:=Hg h t.toNat (by omega);have h4:=Hg h y.toNat (by omega);unfold AE cf;omega
 have on:∀y:Int,0<=y/\y+1<m.cs.length->y<t->AE m t y=AE m t (y+1)+cR m (y+1):=λy hy hyt=>by have:=ac6 h (x:=y+1) (by omega);unfold AE;omega
 have back:∀y:Int,0<=y/\y<m.cs.length->t<y->AE m t y=AE m t (y-1)+cR m (y-1):=λy hy hyt=>by have h1:=ac6 h (x:=y-1) (by omega);unfold AE;grind
 have zero:AE m t t=0:=by unfold AE;omega
 refine anJ (λy k hy=>?_) (λy n c e hn=>?_) (λ_=>?_) (λhn=>(hn (small x hx)).elim)
 ·obtain⟨rfl,_,rfl⟩:=hy;grind
 ·obtain⟨h1,h2,h3,rfl⟩:=h.azm e;refine⟨small y h1,?_⟩;have c1:=(h.cost h1).2;have c2:=(h.cost h2).2;rcases h3 with rfl|rfl
  ·by_cases k:y<t
   ·rw[on y (by omega) k];omega
   ·have:=back (y+1) h2 (by omega);rw[show y+1-1=y by omega]at this;omega
  ·by_cases k:t<y
   ·rw[back y h1 k];omega
   ·have:=on (y-1) (by omega) (by omega);rw[show y-1+1=y by omega]at this;omega
 ·have wy:∀(k:Nat) (y:Int),0<=y/\y<m.cs.length->(y-t).natAbs=k->Wy (gB m t) (fT m) y (AE m t y):=by
   intro k;induction k with
   |zero=>
    intro y hy hk;obtain rfl:y=t:=by omega
    rw[zero];exact .src ⟨rfl,h.Ej ht,rfl⟩
   |succ k ih=>
    intro y hy hk;by_cases l:y<t
    ·rw[on y (by omega) l];refine .go ⟨h.Ej hy,h.Ej (by omega),⟨p,h.pq.1,?_⟩,rfl⟩ (ih (y+1) (by omega) (by omega));rw[h.step hy h.pq.1,if_pos rfl,AH]
    ·rw[back y hy (by omega)];refine .go ⟨h.Ej hy,h.Ej (by omega),⟨q,h.pq.2.1,?_⟩,rfl⟩ (ih (y-1) (by omega) (by omega));rw[h.step hy h.pq.2.1,if_neg (λe=>h.pq.2.2 e.symm),if_pos rfl]
  exact wy _ x hx rfl
def uH.sY (h:uH m p q)(ht:0<=t/\t<m.cs.length)(hx:0<=x/\x<m.cs.length)(hne:x≠t):sY m t x=if x<t then p else q:=by
 have hD:=h.D ht hx;have hsz:=La h.may;have hlt:S.D m t x<cf:=by have h1:=Hg h (t+1).toNat (by omega);have h2:=Hg h (x+1).toNat (by omega);have h3:=Hg h t.toNat (by omega);have h4:=Hg h x.toNat (by omega);rw[hD];unfold AE cf;omega
 obtain⟨hr,⟨h0,hop,he⟩,_⟩:=akV h.may hlt hne;have hst:=h.step hx hr;generalize S.sY m t x=s at*;rw[hst]at h0 he;have c0:=(h.cost hx);by_cases e1:s=p
 ·subst e1;rw[if_pos rfl]at h0 he;split at h0
  ·rename_i hlx;rw[if_pos hlx]at he;split
   ·rfl
   ·exfalso;rw[hD,h.D ht (by omega)]at he;have c1:=h.cost (x:=x+1) (by omega);have p1:=ac6 h hx;unfold AE at he;omega
  ·omega
 ·rw[if_neg e1]at h0 he;split at h0
  ·rename_i e2;subst e2;split
   ·exfalso;rw[hD,h.D ht (by omega)]at he;have c1:=h.cost (x:=x-1) (by omega);have p1:=ac6 h hx;unfold AE at he;grind
   ·rfl
  ·omega
end
end Go.Proofs.YtmegplnmiepfbaaGreatDoor.S
set_option maxRecDepth 20000
namespace Go.Proofs.YtmegplnmiepfbaaGreatDoor.S
open Go.Sx
attribute [local irreducible] af cQ bG bp aA cE cw St Bx Al App cV cO cM bZ aQ bI au cj ax ak bg mapA
def Jt:bM:=⟨3,1,[5,2,9]⟩
def MC:uH Jt 1 3:=⟨⟨by decide,by decide,by decide,by decide⟩,by decide,.inl ⟨rfl,rfl,rfl⟩⟩
def am7:D Jt 2 0=11/\sY Jt 2 0=1:=⟨(MC.D (by decide) (by decide)).trans (by decide),(MC.sY (by decide) (by decide) (by decide)).trans (by decide)⟩
def aw1 {q:iT}:fP q (Eu Jt)=(⟨q.most,ldP q.bO Jt,some ⟨q.most,0,[]⟩⟩,lE 0):=alw MC.may
def am8 {q:iT}{o:j6}{mp:xH}{u:yj}(hm:EM o=true)(hk:o.k≠0/\o.k≠1/\o.k≠8)(h1:q.bO.o=some mp)(h2:q.us=some u):fP q o=RF q mp.g.m u o:=by unfold fP;grind
def aw2 {q:iT}{mp:xH}(h1:q.bO.o=some mp)(hg:mp.g.m=Jt)(h2:q.us=some ⟨2,0,[]⟩):fP q ⟨3,0,2,[]⟩=(⟨q.most,q.bO,some ⟨2,1,[⟨0,0,2⟩]⟩⟩,⟨0,0,5,0,[],[]⟩):=by rw[am8 (by decide) (by decide) h1 h2,hg];rfl
def aw3 {q:iT}{mp:xH}{u:yj}(h1:q.bO.o=some mp)(hg:mp.g.m=Jt)(h2:q.us=some u):fP q ⟨6,2,0,[]⟩=(⟨q.most,zI q.bO 2 (cP Jt 0),some u⟩,⟨0,11,1,-1,[],[]⟩):=by
 rw[am8 (by decide) (by decide) h1 h2,hg];have e:RF q Jt u ⟨6,2,0,[]⟩=(⟨q.most,zI q.bO 2 (cP Jt 0),some u⟩,⟨0,D Jt 2 0,sY Jt 2 0,-1,[],[]⟩):=by rw[RF,if_neg (by decide),if_neg (by decide),if_neg (by decide),if_neg (by decide),if_pos rfl,if_pos (by decide)]
 rw[e,am7.1,am7.2]
def aw4 {q:iT}{mp:xH}(h1:q.bO.o=some mp)(hg:mp.g.m=Jt)(h2:q.us=some ⟨2,1,[⟨0,0,2⟩]⟩):(fP q ⟨7,0,0,[]⟩).1.us=some ⟨2,1,[⟨0,1,2⟩]⟩/\(fP q ⟨7,0,0,[]⟩).2=⟨0,0,5,-1,[(0,1)],[]⟩:=by
 rw[am8 (by decide) (by decide) h1 h2,hg];have e:rI Jt [⟨0,0,2⟩]=[1]:=by show[sY Jt 2 0]=[1];rw[am7.2]
 rw[RF,e];exact⟨rfl,rfl⟩
section
variable {F:Nat->Prop}{W w:World}{L:List As}{lg:zT}{r:G8}{y:AZ}
def am9 {u:yj}(h:y.p.us=some u):∃x,y.cr=some x/\x.y=u:=by have h:y.cr.map (·.y)=some u:=h;simp_all
def akw {Q:Bool->World->Prop}(hL:iP w lg)(s0:Sep F W w L)(h:∀w',Sep F W w' L->Fr No w w'->Q true w'):qq w Q:=by
 apply Nb;refine EI (by decide) (by decide) (aX (F:=No)) λr y w1 ey s=>?_;have i0:zW 0 y.p:=by rw[ey];exact am6 (by decide)
 apply kT;refine aM s λpb w1 s=>?_;refine aT s λmb w1 s=>?_
 iterate 3 refine sT s 0 rfl λw1 s=>?_
 refine lI s 0 rfl (lI s 0 rfl (lS s 0 rfl ?_));have hC:=acZ (ns:=[5,2,9]) s (i:=1) rfl;refine O.J5 s hC MC.may λra rn rc w1 s _=>?_;have s:=pk 4 [3,0,1,2] s;have o1:=aeS MC.may (by decide);refine XK hL o1 (λw' s'=>aN s' (i:=0) rfl dg (by decide)) (i0.sm (by decide)) s λr1 y1 ma mn mc ga gn gc ab w1 er ey1 s=>?_;rw[<-er];have i1:zW 1 y1.p:=by rw[ey1];exact ac5 i0 o1
 obtain⟨mp1,h1,g1,u1⟩:∃mp,y1.p.bO.o=some mp/\mp.g.m=Jt/\y1.p.us=some ⟨2,0,[]⟩:=by rw[ey1,aw1,ey];exact⟨_,rfl,rfl,rfl⟩
 have s:=pk 4 [3,0,1,2] s;refine XK hL (nv (by decide)) (λw' s'=>BS) (i1.sm (by decide)) s λr2 y2 ma mn mc ga gn gc bb w1 er Xd s=>?_;rw[<-er];have i2:zW 2 y2.p:=by rw[Xd];exact ac5 i1 (nv (by decide))
 rw[aw2 h1 g1 u1]at Xd s;have h2:y2.p.bO.o=some mp1:=by rw[Xd];exact h1
 have u2:y2.p.us=some ⟨2,1,[⟨0,0,2⟩]⟩:=by rw[Xd]
 have s:=pk 4 [3,0,1,2] s;refine XK hL (nv (by decide)) (λw' s'=>BS) (i2.sm (by decide)) s λr3 y3 ma mn mc ga gn gc cb w1 er ey3 s=>?_;rw[<-er];have i3:zW 3 y3.p:=by rw[ey3];exact ac5 i2 (nv (by decide))
 rw[aw3 h2 g1 u2]at ey3 s;obtain⟨mp3,h3,g3⟩:=Er h2 2 (cP Jt 0);have h3:y3.p.bO.o=some mp3:=by rw[ey3];exact h3
 have u3:y3.p.us=some ⟨2,1,[⟨0,0,2⟩]⟩:=by rw[ey3]
 rw[<-g3]at g1;have s:=pk 4 [3,0,1,2] s;refine XK hL (nv (by decide)) (λw' s'=>BS) (i3.sm (by decide)) s λr4 y4 ma mn mc ga gn gc db w1 er ey4 s=>?_;rw[<-er];obtain⟨u4,q4⟩:=aw4 h3 g1 u3;rw[<-ey4]at u4;rw[q4]at s;apply lI s 10 rfl;show cond true _ _;apply lI s 7 rfl;show cond true _ _;apply lI s 4 rfl;show cond true _ _;apply lI s 4 rfl;show cond true _ _;apply lS s 0 rfl;refine aM s λxb w1 s=>?_;have s:Sep No w w1 (ak (sZ xb) 1 1 51 2 (flat jJ [(0,1)])::_):=g7 s (i:=0) rfl rfl (by decide) (λu hu=>by rcases List.mem_cons.1 hu with rfl|hu;rfl;rcases List.mem_cons.1 hu with rfl|hu;rfl;cases hu);have hX:=aN s (i:=2) rfl FQ (by decide);have hY:=aN s (i:=0) rfl FQ (by decide);have hl:=hX.len;refine Y8 hX hY s (by simp at hl;omega) λw1 s _=>?_;obtain⟨x,hx,ex⟩:=am9 u4;have s:=pk 5 [4,0,1,2,3] s;refine He hx s λua un uc w1 s=>?_;have hU:=(aN s (i:=0) rfl CB (by decide)).len;rw[ex]at hU;have hU:1=un:=hU;rw[d_ (show(un:Int)=1 by omega)];exact h w1 (bP s0 (aq s)) (aq s)
end
end Go.Proofs.YtmegplnmiepfbaaGreatDoor.S
set_option maxRecDepth 20000
namespace Go.Proofs.YtmegplnmiepfbaaGreatDoor.S
open Go.Sx
def awd {t:Int}{q:iT}{o:j6}(h:zW t q):(fP q o).2.IQ.length<=65536/\(fP q o).2.gone.length<=65536:=by
 unfold fP;split
 ·exact⟨by simp[lE],by simp[lE]⟩
 ·split
  ·split<;>exact⟨by simp[lE],by simp[lE]⟩
  ·split
   ·exact⟨by simp[lE],by simp[lE]⟩
   ·rcases h.st with⟨h1,h2⟩|⟨m,u,h1,h2,h3,h4⟩
    ·rw[h1];exact⟨by simp[lE],by simp[lE]⟩
    ·rw[h1,h2];have hm:=Jr (w:=m.g.m.w) (h:=m.g.m.h) (u.us.zip (rI m.g.m u.us)) [];have:=h3.len;have:=h.mo;unfold RF
     repeat' split
     all_goals first
      |exact⟨Nat.zero_le _,Nat.zero_le _⟩
      |grind
attribute [local irreducible] af cQ bG bp aA cE cw St Bx Al App cV cO cM bZ aQ bI au cj ax ak bg mapA
section
variable {W w:World}{L:List As}{lg:zT}{ra rb rz:G8}{ya yb yz:AZ}{xa ya':Option Addr}{xn xc yn yc:Nat}{X Y:List j6}{t:Int}
def awf {P6:Option Addr->Nat->Nat->Option Addr->Nat->Nat->Option Addr->Option Addr->Option Addr->Int->World->Prop}{Q:Bool->World->Prop}{va:Option Addr}{vn vc:Nat}{a z:Option Addr}{i ab:Nat}{o:j6}{ma ga:Option Addr}{mn mc gn gc:Nat}{q:iT}
  (hL:iP W lg)(hX:O.Q8 W xa xn xc X)(hi:i<xn)(hi2:i<=1000)(hin:∀o∈X,G_ o)(ho:X[i]? =some o)(hI:zW t q)(ht:t<1000000)(hb:yb.p=q)
  (s:Sep No W w (fJ rb yb::ax ab 34 (J4 (fP q o).2.code (fP q o).2.d (fP q o).2.dir (fP q o).2.id ma mn mc ga gn gc (nF (fP q o).1.bO))::ak ma mn mc 51 2 (flat jJ (fP q o).2.IQ)::ak ga gn gc 3 1 (flat one (fP q o).2.gone)::L))
  (next:∀rb' yb' w',rb'.p=rb.p->yb'.p=(fP q o).1->Sep No W w' (fJ rb' yb'::L)->P6 xa xn xc va vn vc a (sZ rb.p) z ((i+1:Nat):Int) w'):
  lN P6 Q xa xn xc va vn vc a (sZ rb.p) z i (aZ ab) w:=by
 refine hX.Elf (aq s) rfl hi λp o' oa on oc ho' hS hr hc=>?_;rw[ho]at ho';cases ho';refine aJ (hc 0 _ rfl) (aJ (hc 1 _ rfl) (aJ (hc 2 _ rfl) (cS (hc 3 _ rfl) ?_)));have hl:=awd (o:=o) hI;have uJ:ajI yb.p:=by rw[hb];exact hI.sm (by omega)
 refine XK hL (hin o (List.mem_of_getElem? ho)) (λw' s'=>hS.fr (aq s')) uJ s λrb' yb' ma' mn' Mt Oj Ol gc' bb w er eb s=>?_;have eq':nF yb'.p.bO=nF (fP q o).1.bO:=by rw[eb,hb]
 rw[eq',hb]at s;refine lI s 4 rfl (lI s 4 rfl (lI s 4 rfl (lI s 4 rfl (lS s 4 rfl (lS s 4 rfl ?_)))));refine lI s 4 rfl (lI s 4 rfl (lI s 4 rfl (lI s 4 rfl (lI s 4 rfl (lI s 4 rfl ?_)))));refine aM s λpb w s=>?_;refine lI s 1 rfl (lI s 1 rfl (lI s 1 rfl (lI s 1 rfl (lS s 1 rfl (lS s 1 rfl ?_)))));refine lI s 1 rfl (lI s 1 rfl (lI s 1 rfl (lI s 1 rfl (lI s 1 rfl (lI s 1 rfl ?_)))));refine aM s λqb w s=>?_;have s:=pk 2 [1,0] s;refine av7 (λw' s'=>aN s' (i:=5) rfl FQ (by decide)) (λw' s'=>aN s' (i:=1) rfl FQ (by decide)) (λw' s'=>aN s' (i:=6) rfl cv (by decide)) (λw' s'=>aN s' (i:=2) rfl cv (by decide)) (by omega) (by omega) s λw s=>?_;refine lI s 4 rfl (lI s 4 rfl (lI s 4 rfl (lI s 4 rfl (lI s 4 rfl (lI s 4 rfl ?_)))));refine lI s 0 rfl (lI s 0 rfl (lI s 0 rfl (lI s 0 rfl (lI s 0 rfl (lI s 0 rfl ?_)))));apply atZ;rw[decide_eq_true rfl,Bool.not_true,cond_false,Oi (by omega)];exact next rb' yb' w er (by rw[eb,hb]) (gj s (.cons _ (.cons _ (.cons _ (.cons_cons _ (.cons _ (.cons _ (.cons _ (List.Sublist.refl _)))))))))
end
end Go.Proofs.YtmegplnmiepfbaaGreatDoor.S
set_option maxRecDepth 20000
namespace Go.Proofs.YtmegplnmiepfbaaGreatDoor.S
open Go.Sx
attribute [local irreducible] af cQ bG bp aA cE cw St Bx Al App cV cO cM bZ aQ bI au cj ax ak bg mapA
section
variable {W w:World}{L:List As}{lg:zT}{ra rb rz:G8}{ya yb yz:AZ}{xa va ca la na:Option Addr}{xn xc vn vc cn cc ln lc nn nc:Nat}{X Y:List j6}{t:Int}
def zW.at_ {q:iT}(h:zW t q)(hu:q.bO.o≠none):∃m u,q.bO.o=some m/\q.us=some u/\MB q.most m.g.m u/\u.next<=t:=by
 rcases h.st with⟨e,_⟩|h
 all_goals grind
def awg {Q:Bool->World->Prop}{q:iT}(hL:iP W lg)(ha:ya.p=q)(hb:yb.p=q)(hI:zW t q)(hup:q.bO.o≠none)(s:Sep No W w (fJ ra ya::fJ rb yb::L))(hQ:∀w',Sep No W w' []->Q true w'):
  qq w λr85 asM=>cond r85
   (i_ (sZ ra.p) asM λaxd axe axf axg=>
   i_ (sZ rb.p) axg λaxh axi axj axk=>
   pE axd axe axf axh axi axj axk λr91 asN=>
   cond r91
   (lT (sZ ra.p) asN λaxl axm at0 at3 at4 axn=>
   lT (sZ rb.p) axn λaxo axp at5 at6 at7 axq=>
   nV axl axm at0 at3 at4 axo axp at5 at6 at7 axq λr98 axr=>
   Q r98 axr)
   (Q false asN))
   (Q false asM):=by
 obtain⟨mp,u,h1,h2,h3,h4⟩:=hI.at_ hup;refine akw (hL.fr (aq s)) s λw s _=>?_;obtain⟨xa,ea,eua⟩:=am9 (y:=ya) (u:=u) (by grind);obtain⟨xb,eb,eub⟩:=am9 (y:=yb) (u:=u) (by grind);obtain⟨ma,oa,ema⟩:=G5 (mp:=mp) (by show ya.p.bO.o=_;grind);obtain⟨mb,ob,emb⟩:=G5 (mp:=mp) (by show yb.p.bO.o=_;grind);have ega:ma.g=mp.g:=congrArg xH.g ema;have egb:mb.g=mp.g:=congrArg xH.g emb;have hlen:=h3.len;have hmo:=hI.mo;refine He ea s λa1 n1 c1 w s=>?_;have s:=pk 3 [2,0,1] s;refine He eb s λa2 n2 c2 w s=>?_;have hX:=aN s (i:=2) rfl CB (by decide);have hY:=aN s (i:=0) rfl CB (by decide);rw[eua]at hX;rw[eub]at hY;have hl:=hX.len;refine akv hX hY s (by omega) λw s _=>?_;rw[bK rfl];have s:=pk 4 [3,1,0,2] s;refine T5 oa s λa3 n3 c3 w s _=>?_;have s:=pk 5 [2,0,1,3,4] s;refine T5 ob s λa4 n4 c4 w s _=>?_;have hX:=aN s (i:=2) rfl dg (by decide);have hY:=aN s (i:=0) rfl dg (by decide);rw[ega]at hX⊢;rw[egb]at hY⊢;refine agZ hX hY h3.may.bytes h3.may.bytes s λw s _=>?_;rw[decide_eq_true rfl];exact hQ w (bP aX (aq s))
def aua {Q:Bool->World->Prop}(hL:iP W lg)(hX:O.Q8 W xa xn xc X)(hx:0<xn/\xn<=100)(hin:∀o∈X,G_ o)(hY:O.Q8 W va vn vc Y)(hy:vn<=100)(arO:∀o∈Y,G_ o)(hup:∀i,0<i->(ye (Hf 3 5) (X.take i)).bO.o≠none)(hQ:∀w',Sep No W w' []->Q true w'):
  ∀(j i:Nat) (w:World) (ra rb rz:G8) (ya yb yz:AZ),i+j=xn->ya.p=ye (Hf 3 5) (X.take i)->yb.p=ye (Hf 3 5) (X.take i)->zW i yz.p->Sep No W w (fJ ra ya::fJ rb yb::fJ rz yz::[])->
   mH Q (j+1) xa xn xc va vn vc (sZ ra.p) (sZ rb.p) (sZ rz.p) i w:=by
 have hXl:=hX.len;have hI:∀i:Nat,i<=xn->zW i (ye (Hf 3 5) (X.take i)):=λi hi=>by have:=asK (X.take i) (am6 (k:=3) (most:=5) (by decide)) λo ho=>hin o (List.mem_of_mem_take ho);rw[List.length_take,Int.zero_add,show min i X.length=i by omega]at this;exact this
 intro j;induction j with
 |zero=>
  intro i w ra rb rz ya yb yz hj ha hb hz s;show mG Q _ _ _ _ _ _ _ _ _ _ _ _;rw[mG,bu];exact awg hL ha hb (hI i (by omega)) (hup i (by omega)) s hQ
 |succ j ih=>
  intro i w ra rb rz ya yb yz hj ha hb hz s;show mG Q _ _ _ _ _ _ _ _ _ _ _ _;rw[mG,bK];have hIi:=hI i (by omega);have ho:X[i]? =some (X[i]'(by omega)):=List.getElem?_eq_getElem _;generalize X[i]'(by omega)=o at ho;have azn:=hin o (List.mem_of_getElem? ho);refine hX.Elf (aq s) rfl (by omega) λp o' oa on oc ho' hS hr hc=>?_;rw[ho]at ho';cases ho';refine aJ (hc 0 _ rfl) (aJ (hc 1 _ rfl) (aJ (hc 2 _ rfl) (cS (hc 3 _ rfl) ?_)));refine XK hL azn (λw' s'=>hS.fr (aq s')) (by rw[ha];exact hIi.sm (by omega)) s λra' ya' ma mn mc ga gn gc ab w era eya s=>?_;rw[<-era];rw[ha]at eya s;rw[eya]at s;have Kc:=arN (q:=Hf 3 5) (by omega) ho;have hbb:∀{w:World} {rz':G8} {yz':AZ},rz'.p=rz.p->zW ((i+1:Nat):Int) yz'.p->Sep No W w (fJ rz' yz'::ax ab 34 (J4 (fP (ye (Hf 3 5) (X.take i)) o).2.code (fP (ye (Hf 3 5) (X.take i)) o).2.d (fP (ye (Hf 3 5) (X.take i)) o).2.dir (fP (ye (Hf 3 5) (X.take i)) o).2.id ma mn mc ga gn gc (nF (fP (ye (Hf 3 5) (X.take i)) o).1.bO))::ak ma mn mc 51 2 (flat jJ (fP (ye (Hf 3 5) (X.take i)) o).2.IQ)::ak ga gn gc 3 1 (flat one (fP (ye (Hf 3 5) (X.take i)) o).2.gone)::fJ ra' ya'::fJ rb yb::[])->
    lN (mH Q (j+1)) Q xa xn xc va vn vc (sZ ra'.p) (sZ rb.p) (sZ rz.p) i (aZ ab) w:=λ{w rz' yz'} erz hz' s=>by
   have s:=pk 6 [5,1,2,3,4,0] s;refine awf hL hX (by omega) (by omega) hin ho hIi (by omega) hb s λrb' yb' w erb eyb s=>?_;rw[<-erb,<-erz];exact ih (i+1) w ra' rb' rz' ya' yb' yz' (by omega) (by rw[Kc,eya]) (by rw[Kc,eyb]) hz' (pk 3 [1,0,2] s)
  have s:=pk 6 [5,0,1,2,3,4] s;by_cases hv:i<vn
  ·rw[bK];refine hY.Elf (aq s) rfl hv λp o2 oa on oc YO hS hr hc=>?_;refine aJ (hc 0 _ rfl) (aJ (hc 1 _ rfl) (aJ (hc 2 _ rfl) (cS (hc 3 _ rfl) ?_)));have amI:=arO o2 (List.mem_of_getElem? YO);refine Xf hL amI (λw' s'=>hS.fr (aq s')) (hz.sm (by omega)) s λrz' yz' _ _ _ _ _ _ w erz eyz s=>?_;exact hbb erz (by rw[eyz];exact ac5 hz amI) (ai (ai s))
  ·rw[bu];exact hbb rfl (hz.mono (by omega)) s
def aeT {Q:Bool->World->Prop}{mw mh:Int}{cs:List Int}{xs ys:List yN}(hL:iP W lg)(hC:Sl W ca cn cc 1 bj cs)(hcs:dJ cs)(NJ:cn<9223372036854775808)(hA:Sl W la ln lc 3 O.Xg xs)(hB:Sl W na nn nc 3 O.Xg ys)(hQ:∀w',Sep No W w' []->Q true w'):
  AI mw mh ca cn cc la ln lc na nn nc W Q:=by
 apply JV;refine af1 hA λa1 c1 hA=>?_;refine O.T6 (aX (F:=No)) hC hcs NJ hA λxa xn xc w s f hX=>?_;refine af1 (hB.fr (aq s)) λa2 c2 hB=>?_;refine O.T6 s (hC.fr (aq s)) hcs NJ hB λva vn vc w s f hY=>?_;have hX:=hX.fr f;have hin:=af2 (w:=mw) (h:=mh) hcs (xs.take (min ln 30));have arO:=af2 (w:=mh) (h:=mw) hcs (ys.take (min nn 30));have hup:=λi hi=>apS (w:=mw) (h:=mh) hcs (xs.take (min ln 30)) (Hf 3 5) (i:=i) hi;have hl1:=aba mw mh cs (xs.take (min ln 30));have YQ:=aba mh mw cs (ys.take (min nn 30));have h0:0<(wK mw mh cs (xs.take (min ln 30))).length:=by unfold wK;simp
 generalize wK mw mh cs (xs.take (min ln 30))=X at*;generalize wK mh mw cs (ys.take (min nn 30))=Y at*;have hXl:=hX.len;have hYl:=hY.len;have fW:=aq s;have hQ:∀w',Sep No w w' []->Q true w':=λw' s=>hQ w' (bP aX (fW.trans (aq s) λ_ _ h=>h));refine EI (by decide) (by decide) (aX (F:=No)) λra ya w1 ea s=>?_;refine EI (by decide) (by decide) s λrb yb w1 eb s=>?_;refine EI (by decide) (by decide) s λrz yz w1 ez s=>?_;refine kT (kT (kT ?_));have s:=pk 3 [2,1,0] s;exact⟨xn+1,aua (hL.fr fW) hX (by omega) hin hY (by omega) arO hup hQ xn 0 w1 ra rb rz ya yb yz (by omega) ea eb (by rw[ez];exact am6 (by decide)) s⟩
end
end Go.Proofs.YtmegplnmiepfbaaGreatDoor.S
namespace Go.Sx
open Go.ChangeShapes Go.WideShapes Go.RowKit
def apX (X:World->Prop)(P:Program)(f:FuncId)(Vc:List Sh):Prop:=
 ∀(W:World) (args:List Value),X W->zY W Vc args->au P f args.toArray W λv W'=>dB v λr=>r=true/\Below W.heap.size W W'
def awn {H:Type}{enc:TypeId×Value->H}{C:Checked}{os:Os}{f:FuncId}{fn:Func}{s:ChangeSpec}{conds:List PathCond}{ts:List TypeId}{Vc:List Sh}{tb:TypeId}{fuel:Nat}{X:World->Prop}
  (hX:∀w w':World,w.heap=w'.heap->X w->X w')
  (own:ownKnob C.prog.godebug=none)(started:os.Started)(noInit:C.prog.inits.idxOf? f=none)(hfn:C.prog.funcs[f]? =some fn)
  (witness:∃(w:World) (tape:Tape) (i:Input),w.os=os/\(w.forCall tape i).Shaped C.prog/\i.vars=[]/\Input.okWide C.prog (w.forCall tape i) .any w.heap.size f i/\
   ((s.pre enc C.prog fn conds false (w.forCall tape i).memory i.args/\X (w.forCall tape i).memory)/\sizedMet enc C.prog fn (OpenSpec.ofChange s) false (w.forCall tape i).memory i.args)/\({}:Assume).holds C.prog (lone (Frame.enter C.prog f i.args .normal) [] (w.forCall tape i)))
  (hl:laidOutB C.prog=true)(hts:fn.params.toList=ts)(azo:ts.map (K8 C.prog fuel)=Vc.map some)(hrd:(ts.all λt=>C.prog.readableRec t&&decide (t<C.prog.types.size))=true)
  (hvars:s.vars=[])(hres:fn.resultTypes=#[tb])(htb:C.prog.underlying tb=some .bool)
  (hspec:∀(ds:List (DataW H)),ds.length=ts.length->s.fn H ds={results:=[.lit (.bool true)],args:=ds})
  (law:apX X C.prog f Vc):
  ReturnsInHanded {} C os f .any (λw args=>(s.pre enc C.prog fn conds false w args/\X w)/\sizedMet enc C.prog fn (OpenSpec.ofChange s) false w args) (s.post enc C.prog fn false true false false):=by
 apply returnsInHanded_of_change_and (λw w' _ hh h=>hX w w' hh h) own started noInit hfn witness;intro W base args ds gs before hval hW _ _ hXW _;have hW':=hW;obtain⟨p,q,hA,hV,rfl,hfz,hnd⟩:=hW;rw[hvars]at hV;obtain⟨rfl,rfl⟩:=trodVars_none hV;rw[hts]at hA;have awj:=ahE azo (λj t v ht hv=>hval j t v (by grind) (by grind)) hA;have hlt:∀x∈p,x.block<W.heap.size:=λx hx=>hW'.lt x (by simp[hx]);have hc:=law W args.toList hXW awj;unfold au at hc;refine hc.mono λe W' he=>?_;cases e with
 |returned v=>
  obtain⟨r,rfl,rfl,bel⟩:=HE he;have hsp:=hspec ds (Pv hA);refine⟨_,rfl,ds,[],p++[],[],p,[],hW',?_,?_,?_,bel.frame _,λh=>by cases h⟩
  ·rw[List.append_nil,hsp,hres];exact trodAll_mk1 (shut_bool htb _)
  ·rw[List.append_nil,hsp,hts];exact TE hl bel hrd hA hlt
  ·rw[List.append_nil,hsp,hvars];simp[DataW.TrodVars]
 |_=>exact he.elim
end Go.Sx
namespace Go.Proofs.YtmegplnmiepfbaaGreatDoor.S
open Go.Sx
def asO: "*"++ "errors.errorString"= "*errors.errorString":=by decide
def azp (u:TypeId)(h:P.typeName? 3 u=some "*errors.errorString"):u=401:=
 typeName_ptr_named (by rw[asO];kernel_rfl) (by kernel_rfl) (by decide) u (by rw[asO];exact h)
def awk:P.cellsOf 422=1:=by kernel_rfl
def arP:P.cellsOf 9=1:=by kernel_rfl
def RowsIn (W:World)(ps:List MemPlace):Prop:=∀b off,MemPlace.cell b off∈ps->(∃c t,W.heap[b]? =some (.cells c t (0,0)))/\∀u v,W.cell? ⟨b,off,none⟩=some (.iface u v)->Value.okWide P W .any 0 u v
set_option maxRecDepth 100000 in
theorem Iu {W:World}{n:String}{g:Nat}{text:List UInt8}{rest:List (String×DataW Unit)}{ps:List MemPlace}(hg:P.globalNamed n=some g)(ht:(P.globals[g]?).map (·.type)=some 74)
  (h:DataW.LaidVars P W ((n,.iface "*errors.errorString" (.ptr (.agg [.lit (.string text)])))::rest) ps)(hr:RowsIn W ps):
  ∃a q,W.cell? ⟨g,0,none⟩=some (.iface 401 (.pointer (some a)))/\(∃c t,W.heap[a.block]? =some (.cells c t (0,0)))/\DataW.LaidVars P W rest q/\RowsIn W q/\ps=.cell g 0::.cell a.block a.off::q:=by
 obtain⟨g0,t0,cs,f,p,q,hg0,ht0,hv,hd,hq,rfl⟩:=h;obtain rfl:=Option.some.inj (hg.symm.trans hg0);obtain rfl:=Option.some.inj (ht.symm.trans ht0);obtain⟨l⟩:=cs;have ok:∀u v,l=[.iface u v]->Value.okWide P W .any 0 u v:=λu v e=>by subst e;exact(hr g 0 (by simp[MemPlace.row])).2 u v (by simpa using World.var?_cell hg hv 0)
 obtain⟨a,s,rfl,hc,hs,hz,rfl⟩:=errorString_of_trod Go.Proofs.Tryz.underlying74 azp Go.Proofs.Tryz.underlying401 Go.Proofs.Tryz.underlying422 rfl rfl Go.Proofs.Tryz.underlying9 awk arP hd ok;refine⟨a,q,by simpa using World.var?_cell hg hv 0,(hr a.block a.off (by simp[MemPlace.row])).1,hq,λb off hm=>hr b off (by simp[hm]),by simp[MemPlace.row]⟩
def am_:List (String×DataW Unit):=[("errors.errorType",Rows.laid_errors_errorType),("herdsman/pack.errEnd",Rows.laid_herdsman_pack_errEnd),("herdsman/pack.errForm",Rows.laid_herdsman_pack_errForm),("herdsman/nav.errNoMap",Rows.laid_herdsman_nav_errNoMap),("herdsman/nav.errBounds",Rows.laid_herdsman_nav_errBounds),("herdsman/nav.errField",Rows.laid_herdsman_nav_errField),("herdsman/svc.errScript",Rows.laid_herdsman_svc_errScript)]
def g1:P.globalNamed "errors.errorType"=some 1:=by kernel_rfl
def rtT:(P.cutTypes.find? (·.1== "internal/reflectlite.rtype")).map (·.2)=some 219:=by kernel_rfl
def awl:((List.range P.types.size).filter λt=>P.rowNamed t [101,114,114,111,114])=[74]:=by kernel_rfl
set_option maxRecDepth 100000 in
theorem arQ {W:World}(h:laidMetH P am_ W):∃lg,iP W lg:=by
 have h':laidMet P [("herdsman/pack.errEnd",Rows.laid_herdsman_pack_errEnd),("herdsman/pack.errForm",Rows.laid_herdsman_pack_errForm),("herdsman/nav.errNoMap",Rows.laid_herdsman_nav_errNoMap),("herdsman/nav.errBounds",Rows.laid_herdsman_nav_errBounds),("herdsman/nav.errField",Rows.laid_herdsman_nav_errField),("herdsman/svc.errScript",Rows.laid_herdsman_svc_errScript)] W/\handlesMet P [("errors.errorType",Rows.laid_errors_errorType)] W:=h;obtain⟨⟨ps,hv,hnd,hr⟩,hh⟩:=h';obtain⟨name,u,ty,e1,e2,e3,e4,e5⟩:=hh _ (List.mem_singleton.2 rfl);have en:=(Option.some.inj e1).symm;subst en;obtain rfl:=Option.some.inj (rtT.symm.trans e2);have hm:ty∈(List.range P.types.size).filter λt=>P.rowNamed t [101,114,114,111,114]:=List.mem_filter.2 ⟨List.mem_range.2 e3,e4⟩;rw[awl]at hm;obtain rfl:=List.mem_singleton.1 hm;have ht:typeHandle P 74=.pointer (some ⟨8,74,none⟩):=by kernel_rfl
 rw[ht]at e5;have hr:=hr;obtain⟨a6,q6,v6,b6,hv1,hr1,k6⟩:=Iu (g:=6) (by kernel_rfl) (by kernel_rfl) hv hr;obtain⟨a5,q5,v5,b5,hv2,hr2,k5⟩:=Iu (g:=5) (by kernel_rfl) (by kernel_rfl) hv1 hr1;obtain⟨a2,q2,v2,b2,hv3,hr3,k2⟩:=Iu (g:=2) (by kernel_rfl) (by kernel_rfl) hv2 hr2;obtain⟨a3,q3,v3,b3,hv4,hr4,k3⟩:=Iu (g:=3) (by kernel_rfl) (by kernel_rfl) hv3 hr3;obtain⟨a4,q4,v4,b4,hv5,hr5,k4⟩:=Iu (g:=4) (by kernel_rfl) (by kernel_rfl) hv4 hr4;obtain⟨a0,q0,v0,b0,hv6,hr6,k0⟩:=Iu (g:=0) (by kernel_rfl) (by kernel_rfl) hv5 hr5;subst k0 k4 k3 k2 k5 k6;refine⟨⟨a0,a2,a3,a4,a5,a6⟩,v0,by simpa[rt]using World.var?_cell g1 e5 0,v2,v3,v4,v5,v6,?_,?_,b2,b3,b5,b6⟩
 all_goals grind
end Go.Proofs.YtmegplnmiepfbaaGreatDoor.S
namespace Go.Proofs.YtmegplnmiepfbaaGreatDoor.S
open Go.Sx
def arR:Sh:=.agg 3 [(0,1,.int .i64),(1,1,.int .i64),(2,1,.int .i64)]
def ajO {W:World}{v:Value}(h:RdV W (.sl 3 arR) v):∃a n c xs,v=.slice a n c/\n<=maxLen/\Sl W a n c 3 O.Xg xs:=by
 obtain⟨a,n,c,xs,rfl,k1,k2,k3,k4,k5⟩:=akF (f:=O.Xg) (Pr:=λ_=>True) (λes hl he=>by
  obtain⟨_,he⟩:=aut he
  match es,hl with
  |[v0,v1,v2],_=>
   obtain⟨k0,he⟩:=Zj he;obtain⟨k1,he⟩:=Zj he;obtain⟨k2,he⟩:=Zj he;obtain⟨x0,rfl,_⟩:=Vd k0;obtain⟨x1,rfl,w1⟩:=Vd k1;obtain⟨x2,rfl,w2⟩:=Vd k2;exact⟨⟨x0,x1,x2⟩,rfl,trivial⟩) h
 exact⟨a,n,c,xs,rfl,by omega,k4,k1,k3⟩
def awm:apX (laidMetH P am_) P 9 [.int .i64,.int .i64,.sl 1 (.int .u8),.sl 3 arR,.sl 3 arR]:=by intro W args hX h;obtain⟨lg,hL⟩:=arQ hX;obtain⟨v0,r,rfl,h0,h⟩:=zY.cons h;obtain⟨v1,r,rfl,h1,h⟩:=zY.cons h;obtain⟨v2,r,rfl,h2,h⟩:=zY.cons h;obtain⟨v3,r,rfl,h3,h⟩:=zY.cons h;obtain⟨v4,r,rfl,h4,h⟩:=zY.cons h;obtain rfl:=zY.nil h;obtain⟨x0,rfl,_⟩:=akE h0;obtain⟨x1,rfl,_⟩:=akE h1;obtain⟨a,n,c,cs,rfl,q1,q2,q3,q4,q5⟩:=aql h2;obtain⟨b,m,d,xs,rfl,k1,k2⟩:=ajO h3;obtain⟨b',m',d',ys,rfl,k1',k2'⟩:=ajO h4;exact aeT hL ⟨q4,q1,q3⟩ (λx hx=>wf_u8 (q5 x hx)) (by simp[maxLen]at*;omega) k2 k2' λw' s=>⟨rfl,anF s⟩
def aeU (l:List UInt8):Obj:=.cells #[.string {data:=l.toArray}] 422 (0,0)
noncomputable def low:Nat:=(World.holding P default ⟨#[],#[],[]⟩).heap.size
def aaW (v:Value):Obj->Obj
 |.cells _ t fz=>.cells #[v] t fz
 |o=>o
noncomputable def aeV (k:Nat):Value:=.iface 401 (.pointer (some ⟨low+k,0,none⟩))
noncomputable def axs (os:Os):World:=
 let w0:=World.holding P os ⟨#[aeU [116,104,101,32,98,121,116,101,115,32,101,110,100],aeU [110,111,98,111,100,121,32,119,114,105,116,101,115,32,115,111],aeU [116,104,101,114,101,32,105,115,32,110,111,32,109,97,112],
  aeU [116,104,101,114,101,32,105,115,32,110,111,32,115,117,99,104,32,99,101,108,108,32,111,114,32,115,101,99,116,111,114],aeU [116,104,101,114,101,32,105,115,32,110,111,32,115,117,99,104,32,102,105,101,108,100],aeU [110,111,98,111,100,121,32,119,114,105,116,101,115,32,115,111]],#[],[]⟩
 {w0 with heap:=((((((w0.heap.modify 0 (aaW (aeV 5))).modify 1 (aaW (.iface 219 (rt 74)))).modify 2 (aaW (aeV 2))).modify 3 (aaW (aeV 3))).modify 4 (aaW (aeV 4))).modify 5 (aaW (aeV 1))).modify 6 (aaW (aeV 0))}
set_option maxRecDepth 100000 in
theorem ayl (os:Os)(args:Array Value):laidMetH P am_ ((axs os).forCall (λ_ _=>0) ⟨#[],args,[]⟩).memory:=
 laidMetH_of_parts (laidMet_of_run (ps:=[.cell 6 0,.cell low 0,.cell 5 0,.cell (low+1) 0,.cell 2 0,.cell (low+2) 0,.cell 3 0,.cell (low+3) 0,.cell 4 0,.cell (low+4) 0,.cell 0 0,.cell (low+5) 0]) 8 (by kernel_rfl) (by kernel_rfl) (by kernel_rfl)) (by kernel_rfl)
end Go.Proofs.YtmegplnmiepfbaaGreatDoor.S
