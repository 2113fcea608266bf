/- Part 6 of the proof. -/
import Derived.Test.YtmegplnmiepfbaaGreatDoorD4
import Derived.Test.YtmegplnmiepfbaaGreatDoorRows
import Derived.LaidLaws
import Derived.LaidHandle
import Derived.ChangeSame
import Derived.JoinedOf
set_option linter.unusedVariables false
set_option linter.unusedSimpArgs false
set_option linter.defProp false
namespace Go.Proofs.YtmegplnmiepfbaaGreatDoor.S.O
open Go.Sx
attribute [local irreducible] af cD bw bg aA cu bZ St Bx Al App cH cA cz bX aL bD aq bU av ak aW mapA
def aaJ (x:xJ):List Value:=[ae x.k,ae x.a,ae x.b]
section
variable {F:Nat->Prop}{W w w0:World}{L:List As}{mw mh:Int}{ca la oa ra:Option Addr}{cn cc ln lc mb on oc rn rc i:Nat}{cs:List Int}{xs:List xJ}{x:xJ}{m:bJ}{es:List (Hi×kW)}{Q:Option Addr->Nat->Nat->World->Prop}
variable {P5:Int->Int->Option Addr->Nat->Nat->Option Addr->Nat->Nat->Addr->Option Addr->Nat->Nat->Int->Int->World->Prop}
def amO (w:World)(a:Option Addr)(n c:Nat)(vs:List Hi)(os:List kW):Prop:=Sl w a n c 4 Gp vs/\os.length=n/\∀(i:Nat) (v:Hi) (o:kW),vs[i]? =some v->os[i]? =some o->OpV w v o
def amP {F:Nat->Prop}{W w:World}{L:List As}{oa:Option Addr}{on oc:Nat}{es:List (Hi×kW)}(s:Sep F W w (ak oa on oc 38 4 (flat Gp (es.map (·.1)))::Et es::L)):amO w oa on oc (es.map (·.1)) (es.map (·.2)):=by have h1:=aO s (i:=0) rfl asV (by decide);have hl:=h1.len;refine⟨h1,by grind,λi v o hv ho=>?_⟩;obtain⟨h2,s2⟩:=gL (ai s);rw[List.getElem?_map]at hv ho;obtain⟨e,he,rfl⟩:=Option.map_eq_some_iff.1 hv;rw[he]at ho;cases ho;have ha:=h2 e (List.mem_of_getElem? he);exact⟨ha.k,ha.A,ha.B,aO s2 (i:=i) (by rw[List.getElem?_append_left (by grind),List.getElem?_map,he];rfl) cY (by decide),ha.jA⟩
def amO.El {w:World}{a:Option Addr}{n c:Nat}{vs:List Hi}{os:List kW}{o:kW}{idx:Int}{k:Nat}{K:Addr->Prop}(h:amO w a n c vs os)(hk:idx=k)(ho:os[k]? =some o)
  (hK:∀p va vn vc,vs[k]? =some ⟨o.k,o.A,o.B,va,vn,vc⟩->(∀(j:Nat) u,(Gp ⟨o.k,o.A,o.B,va,vn,vc⟩)[j]? =some u->w.cell? ((p.add (idx.toNat*4)).add j)=some u)->K p):aJ idx n (wA a K):=by
 obtain⟨h1,h2,h3⟩:=h;have hn:k<n:=by grind
 refine h1.El hk hn λp v hv hc=>?_;obtain⟨k1,A1,B1,va,vn,vc⟩:=v;obtain⟨e1,e2,e3,_⟩:=h3 k _ o hv ho;grind
def mdL (oa:Option Addr)(on oc:Nat)(es:List (Hi×kW))(mb:Nat)(m:bJ)(ra:Option Addr)(rn rc:Nat):List As:=
 [ak oa on oc 38 4 (flat Gp (es.map (·.1))),Et es,av mb 25 [ae m.w,ae m.h,.slice ra rn rc],ak ra rn rc 5 1 (flat bq m.cs)]
def aju {ob:Nat}{v:Hi}{o:kW}{nn:Int}{rest:List As}(ha:agQ (v,o))(Cj:on<=1000)(hi:i<=1000)
  (s:Sep No w0 w (av ob 38 (Gp v)::ak v.a v.n v.c 5 1 (flat bq o.m)::ak oa on oc 38 4 (flat Gp (es.map (·.1)))::Et es::rest))
  (next:∀a' c' w',Sep No w0 w' (ak a' (on+1) c' 38 4 (flat Gp ((es++[(v,o)]).map (·.1)))::Et (es++[(v,o)])::rest)->P5 mw mh ca cn cc la ln lc (aZ mb) a' (on+1) c' nn ((i+1:Nat):Int) w'):
  cQ P5 Q mw mh ca cn cc la ln lc (aZ mb) oa on oc nn i (aZ ob) w:=by
 apply lI s 0 rfl;apply lI s 0 rfl;apply lI s 0 rfl;apply lS s 0 rfl;have s:=ck (ai s) (List.Perm.trans (List.Perm.swap ..) (List.Perm.cons _ (List.Perm.swap ..)));rw[aG];exact av0 s ha (by omega) λa' c' w s=>next a' c' w s
attribute [local irreducible] cQ in
theorem awy {ob xb:Nat}(hC:Sl w0 ca cn cc 1 bq cs)(hcs:dZ cs)(QS:cn<9223372036854775808)(hm:cP m)(Cj:on<=1000)(hi:i<=1000)
  (s:Sep No w0 w (av ob 38 [ae 0,ae (gf x.a 0 ((m.cs.length:Int)-1)),ae (gf x.b 0 ((m.cs.length:Int)-1)),.slice none 0 0]::av xb 90 (aaJ x)::mdL oa on oc es mb m ra rn rc))
  (next:∀(m':bJ) v o a' c' ra' rn' rc' w',vZ mw mh cs m x=(o,m')->Sep No w0 w' (mdL a' (on+1) c' (es++[(v,o)]) mb m' ra' rn' rc')->P5 mw mh ca cn cc la ln lc (aZ mb) a' (on+1) c' (m'.cs.length:Int) ((i+1:Nat):Int) w'):
  jr P5 Q mw mh ca cn cc la ln lc (aZ mb) oa on oc (m.cs.length:Int) i (aZ xb) (aZ ob) w:=by
 have hms:=KW hm;have arG:=Io (x:=x.b%256) (by omega);have ask:=next
 unfold vZ at ask;apply lI s 1 rfl;apply bT (by decide) (by decide) (by decide);have ek:0+x.k%(15-0+1)=gf x.k 0 15:=rfl;rw[ek];have t:∀{a b:Int},a=b->(a==b)=true:=λh=>by rw[beq_iff_eq];exact h
 have f:∀{a b:Int},a≠b->(a==b)=false:=λh=>by rw[beq_eq_false_iff_ne];exact h
 have plain:∀(k A B:Int) (w:World) (L':List As) (js:List Nat),vZ mw mh cs m x=(⟨k,A,B,[]⟩,m)->js.Nodup->js.map (λi=>L'[i]?)=[some (av ob 38 [ae k,ae A,ae B,.slice none 0 0]),some (ak oa on oc 38 4 (flat Gp (es.map (·.1)))),some (Et es),some (av mb 25 [ae m.w,ae m.h,.slice ra rn rc]),some (ak ra rn rc 5 1 (flat bq m.cs))]->
   Sep No w0 w L'->cQ P5 Q mw mh ca cn cc la ln lc (aZ mb) oa on oc (m.cs.length:Int) i (aZ ob) w:=by
  intro k A B w L' js e hnd hpk s;have s:=cf (L':=[_,_,_,_,_]) js s hpk hnd;have s:=ck (bE s 5 1) (List.Perm.swap ..);exact aju (v:=⟨k,A,B,none,0,0⟩) ⟨rfl,rfl,rfl,dZ.nil⟩ Cj hi s λa' c' w s=>next _ _ _ a' c' ra rn rc w e s
 have b14:(gf x.k 0 15=0\/gf x.k 0 15=1\/gf x.k 0 15=2)->m7 P5 Q mw mh ca cn cc la ln lc (aZ mb) oa on oc (m.cs.length:Int) i (aZ ob) w:=by intro h;refine ax s (i:=0) rfl rfl rfl λw s=>?_;exact plain _ _ _ w _ [0,2,3,4,5] (by unfold vZ;simp only;rw[if_pos h]) (by decide) rfl s
 have b21:(gf x.k 0 15=5\/gf x.k 0 15=6)->qq P5 Q mw mh ca cn cc la ln lc (aZ mb) oa on oc (m.cs.length:Int) i (aZ xb) (aZ ob) w:=by intro h;apply lI s 1 rfl;rw[wrap_u8'];apply Rp (by omega);rw[aG];refine sT s 0 rfl λw s=>?_;refine ax s (i:=0) rfl rfl rfl λw s=>?_;exact plain _ _ _ w _ [0,2,3,4,5] (by unfold vZ;simp only;rw[fQ,fQ,fQ,if_pos h]) (by decide) rfl s
 by_cases k0:gf x.k 0 15=0
 ·rw[t k0,cond_true];exact b14 (.inl k0)
 rw[f k0,cond_false];by_cases k1:gf x.k 0 15=1
 ·rw[t k1,cond_true];exact b14 (.inr (.inl k1))
 rw[f k1,cond_false];by_cases k2:gf x.k 0 15=2
 ·rw[t k2,cond_true];exact b14 (.inr (.inr k2))
 rw[f k2,cond_false];by_cases k3:gf x.k 0 15=3
 ·rw[t k3,cond_true];apply lI s 1 rfl;apply bT (by decide) (by decide) (by decide);refine sT s 0 rfl λw s=>?_;refine ax s (i:=0) rfl rfl rfl λw s=>?_;exact plain _ _ _ w _ [0,2,3,4,5] (by unfold vZ;simp only;rw[fQ,if_pos k3];rfl) (by decide) rfl s
 rw[f k3,cond_false];by_cases k4:gf x.k 0 15=4
 ·rw[t k4,cond_true];apply lI s 1 rfl;apply bT (by decide) (by decide) (by decide);refine sT s 0 rfl λw s=>?_;refine sT s 0 rfl λw s=>?_;refine ax s (i:=0) rfl rfl rfl λw s=>?_;exact plain _ _ _ w _ [0,2,3,4,5] (by unfold vZ;simp only;rw[fQ,fQ,if_pos k4];rfl) (by decide) rfl s
 rw[f k4,cond_false];by_cases k5:gf x.k 0 15=5
 ·rw[t k5,cond_true];exact b21 (.inl k5)
 rw[f k5,cond_false];by_cases k6:gf x.k 0 15=6
 ·rw[t k6,cond_true];exact b21 (.inr k6)
 rw[f k6,cond_false];by_cases k7:gf x.k 0 15=7
 ·rw[t k7,cond_true];refine ax s (i:=0) rfl rfl rfl λw s=>?_;exact plain _ _ _ w _ [0,2,3,4,5] (by unfold vZ;simp only;rw[fQ,fQ,fQ,fQ,if_pos (.inl k7)]) (by decide) rfl s
 rw[f k7,cond_false];by_cases k8:gf x.k 0 15=8
 ·rw[t k8,cond_true];refine ax s (i:=0) rfl rfl rfl λw s=>?_;exact plain _ _ _ w _ [0,2,3,4,5] (by unfold vZ;simp only;rw[fQ,fQ,fQ,fQ,if_pos (.inr k8)]) (by decide) rfl s
 rw[f k8,cond_false];by_cases k9:gf x.k 0 15=9
 ·rw[t k9,cond_true];refine sT s 0 rfl λw s=>?_;refine sT s 0 rfl λw s=>?_;refine sT s 0 rfl λw s=>?_;refine ax s (i:=0) rfl rfl rfl λw s=>?_;exact plain _ _ _ w _ [0,2,3,4,5] (by unfold vZ;simp only;rw[fQ,fQ,fQ,fQ,fQ,if_pos k9]) (by decide) rfl s
 rw[f k9,cond_false];by_cases k10:gf x.k 0 15=10
 ·rw[t k10,cond_true];apply lI s 1 rfl;refine⟨by decide,?_⟩;by_cases h4:Int.tmod x.a 4=0
  ·rw[t h4,cond_true];apply lI s 1 rfl;refine⟨by decide,?_⟩;apply lI s 1 rfl;have hm':=EE (w:=IntKind.wrap .i64 (mw+IntKind.wrap .i64 (Int.tdiv x.a 4))) (h:=IntKind.wrap .i64 (mh+x.b)) hcs;refine YR s (hC.fr (au s)) hcs QS λna nn nc w s _=>?_;have e:vZ mw mh cs m x=(Ek (vv (IntKind.wrap .i64 (mw+IntKind.wrap .i64 (Int.tdiv x.a 4))) (IntKind.wrap .i64 (mh+x.b)) cs),vv (IntKind.wrap .i64 (mw+IntKind.wrap .i64 (Int.tdiv x.a 4))) (IntKind.wrap .i64 (mh+x.b)) cs):=by rw[vZ,fQ,fQ,fQ,fQ,fQ,fQ,if_pos k10,if_pos h4]
   generalize vv (IntKind.wrap .i64 (mw+IntKind.wrap .i64 (Int.tdiv x.a 4))) (IntKind.wrap .i64 (mh+x.b)) cs=m' at*;refine sT s 5 rfl λw s=>?_;refine sT s 5 rfl λw s=>?_;refine ax s (i:=5) rfl rfl rfl λw s=>?_;apply lS s 5 rfl;apply lI s 5 rfl;apply lI s 5 rfl;apply lS s 5 rfl;have hN:=aO s (i:=0) rfl cY (by decide);have hNl:=hN.len;refine JQ s hN hm' λpa pn pc w s _=>?_;refine sT s 2 rfl λw s=>?_;refine sT s 2 rfl λw s=>?_;refine sT s 2 rfl λw s=>?_;refine ax s (i:=2) rfl rfl rfl λw s=>?_;have s:=cf (L':=[_,_,_,_,_,_]) [2,0,4,5,6,1] s rfl (by decide);rw[<-hNl];exact aju (v:=⟨1,0,0,pa,pn,pc⟩) ⟨rfl,rfl,rfl,(FY hm').1⟩ Cj hi s λa' c' w s=>by exact next m' _ _ a' c' na nn nc w e s
  ·rw[f h4,cond_false];apply lI s 1 rfl;apply bT (by decide) (by decide) (by decide);have e20:0+x.b%(200-0+1)=gf x.b 0 200:=rfl;rw[e20,aG];refine sT s 0 rfl λw s=>?_;refine sT s 0 rfl λw s=>?_;refine sT s 0 rfl λw s=>?_;refine ax s (i:=0) rfl rfl rfl λw s=>?_;exact plain _ _ _ w _ [0,2,3,4,5] (by unfold vZ;simp only;rw[fQ,fQ,fQ,fQ,fQ,fQ,if_pos k10,if_neg h4]) (by decide) rfl s
 rw[f k10,cond_false];by_cases k11:gf x.k 0 15=11
 ·rw[t k11,cond_true];apply lI s 1 rfl;apply lI s 1 rfl;apply lI s 1 rfl;refine amN s (by omega) λpa pn pc w s _=>?_;refine sT s 1 rfl λw s=>?_;refine sT s 1 rfl λw s=>?_;refine sT s 1 rfl λw s=>?_;refine ax s (i:=1) rfl rfl rfl λw s=>?_;have s:=cf (L':=[_,_,_,_,_,_]) [1,0,3,4,5,6] s rfl (by decide);have ayG:=anq (x:=x) (n:=m.cs.length) (by omega);exact aju (v:=⟨_,_,_,pa,pn,pc⟩) (o:=KV x m.cs.length) ⟨rfl,rfl,rfl,ayG.jA⟩ Cj hi s λa' c' w s=>
   next m _ _ a' c' ra rn rc w (by unfold vZ;simp only;rw[fQ,fQ,fQ,fQ,fQ,fQ,if_neg k10,if_pos k11]) s
 rw[f k11,cond_false];refine sT s 0 rfl λw s=>?_;refine sT s 0 rfl λw s=>?_;refine sT s 0 rfl λw s=>?_;refine ax s (i:=0) rfl rfl rfl λw s=>?_;exact plain _ _ _ w _ [0,2,3,4,5] (by unfold vZ;simp only;rw[fQ,fQ,fQ,fQ,fQ,fQ,if_neg k10,if_neg k11]) (by decide) rfl s
attribute [local irreducible] jr in
theorem aeG (s0:Sep F W w0 L)(hC:Sl w0 ca cn cc 1 bq cs)(hcs:dZ cs)(QS:cn<9223372036854775808)(hX:Sl w0 la ln lc 3 aaJ xs)
  (h:∀oa on oc w' A,Sep F W w' (A::L)->Fr No w0 w'->(∃vs,∀{F' W' w2 L2},Sep F' W' w2 (A::L2)->amO w2 oa on oc vs (AW mw mh cs xs))->Q oa on oc w'):uS mw mh ca cn cc la ln lc w0 Q:=by
 apply Lv;have hxl:=hX.len;have hm0:=EE (w:=mw) (h:=mh) hcs;refine YR (bh (F:=No)) hC hcs QS λra rn rc w s _=>?_;refine aT s λmb w s=>?_;refine sT s 0 rfl λw s=>?_;refine sT s 0 rfl λw s=>?_;refine ax s (i:=0) rfl rfl rfl λw s=>?_;apply lI s 0 rfl;apply lI s 0 rfl;apply lS s 0 rfl;have hN:=aO s (i:=1) rfl cY (by decide);have hNl:=hN.len;refine JQ s hN hm0 λpa pn pc w s _=>?_;refine aN s λob w s=>?_;have s:=gX (size:=4) s (i:=0) rfl rfl (by decide) (akz ⟨1,0,0,pa,pn,pc⟩);apply lS s 2 rfl;have s:Sep No w0 w (ak (sZ ob) 1 1 38 4 (flat Gp ([((⟨1,0,0,pa,pn,pc⟩:Hi),Ek (vv mw mh cs))].map (·.1)))::ak pa pn pc 5 1 (flat bq (Ek (vv mw mh cs)).m)::av mb 25 [ae (vv mw mh cs).w,ae (vv mw mh cs).h,.slice ra rn rc]::ak ra rn rc 5 1 (flat bq (vv mw mh cs).cs)::[]):=s;have s:=cf (L':=[_,_,_,_]) [1,0,2,3] s rfl (by decide);have s:=ae4 (v:=⟨1,0,0,pa,pn,pc⟩) (anF s) ⟨rfl,rfl,rfl,(FY hm0).1⟩;have s:=ck s (List.Perm.swap ..);rw[<-hNl];have hyl:(xs.take 60).length=min 60 ln:=by grind
 have loop:∀(k i:Nat) (m:bJ) (oa:Option Addr) (oc:Nat) (es:List (Hi×kW)) (ra:Option Addr) (rn rc:Nat) (w:World),i+k=(xs.take 60).length->cP m->es.map (·.2)++Ni mw mh cs m ((xs.take 60).drop i)=AW mw mh cs xs->
   Sep No w0 w (mdL oa (i+1) oc es mb m ra rn rc)->jt Q (k+1) mw mh ca cn cc la ln lc (aZ mb) oa (i+1) oc (m.cs.length:Int) i w:=by
  intro k;induction k with
  |zero=>
   intro i m oa oc es ra rn rc w hi hm he s;show nM Q (jt Q 0) _ _ _ _ _ _ _ _ _ _ _ _ _ _ _;unfold nM;have done:Q oa (i+1) oc w:=by rw[List.drop_eq_nil_of_le (by omega)]at he;simp[Ni,List.append_nil]at he;have k:=λ{F' W' w2 L2} (s:Sep F' W' w2 (aW True [ak oa (i+1) oc 38 4 (flat Gp (es.map (·.1))),Et es]::L2))=>amP (gL s).2;rw[he]at k;exact h _ _ _ _ _ (dD s0 (dA s trivial) (i:=0) rfl) (au s) ⟨_,k⟩
   grind
  |succ k ih=>
   intro i m oa oc es ra rn rc w hi hm he s;show nM Q (jt Q (k+1)) _ _ _ _ _ _ _ _ _ _ _ _ _ _ _;rw[nM,bM,bM];have hms:=KW hm;have hx0:(xs.take 60)[i]? =some ((xs.take 60)[i]'(by omega)):=List.getElem?_eq_getElem _;have hd:(xs.take 60).drop i=(xs.take 60)[i]'(by omega)::(xs.take 60).drop (i+1):=List.drop_eq_getElem_cons (by omega);generalize (xs.take 60)[i]'(by omega)=x at hx0 hd;have Nf:xs[i]? =some x:=by
    rw[List.getElem?_take]at hx0;split at hx0
    ·exact hx0
    ·cases hx0
   rw[hd,Ni]at he;refine(hX.fr (au s)).El rfl (by omega) λpp y hy hc=>?_;rw[Nf]at hy;cases hy;apply aR (hc 0 _ rfl);apply aR (hc 1 _ rfl);apply aR (hc 2 _ rfl);have go:∀(w:World) (ob xb:Nat) (A B:Int),A=gf x.a 0 ((m.cs.length:Int)-1)->B=gf x.b 0 ((m.cs.length:Int)-1)->Sep No w0 w (av ob 38 [ae 0,ae A,ae B,.slice none 0 0]::av xb 90 (aaJ x)::mdL oa (i+1) oc es mb m ra rn rc)->
     jr (jt Q (k+1)) Q mw mh ca cn cc la ln lc (aZ mb) oa (i+1) oc (m.cs.length:Int) i (aZ xb) (aZ ob) w:=by
    intro w ob xb A B e1 e2 s;subst e1 e2;refine awy hC hcs QS hm (by omega) (by omega) s λm' v o a' c' ra' rn' rc' w' e s=>?_;have hok:=(aub (w:=mw) (h:=mh) hcs hm x).2;rw[e]at he hok;refine ih (i+1) m' a' c' _ ra' rn' rc' w' (by omega) hok ?_ s;rw[List.map_append,List.append_assoc];exact he
   refine aT s λxb w s=>?_;refine sT s 0 rfl λw s=>?_;refine sT s 0 rfl λw s=>?_;refine ax s (i:=0) rfl rfl rfl λw s=>?_;rw[aG];have s:=ay s
   repeat' first
    |apply lI s 0 rfl
    |apply lS s 0 rfl
    |apply lB s 0 rfl
    |apply lP s 0 rfl
    |apply And.intro (cg s 0 rfl)
    |apply lI s 1 rfl
    |apply lS s 1 rfl
    |apply lB s 1 rfl
    |apply lP s 1 rfl
    |apply And.intro (cg s 1 rfl)
    |(refine sT s 0 rfl λw s=>?_)
    |(refine sT s 1 rfl λw s=>?_)
    |refine aN s λb w s=>?_
    |(refine aT s λb w s=>?_;simp[agY,acP,amK,agZ]at s)
    |exact go _ _ _ _ _ rfl rfl s
    |apply bT (by omega) (by decide) (by omega)
    |apply And.intro ?_
    |(replace s:=ay s;first
     |apply lI s 0 rfl
     |apply lS s 0 rfl
     |apply lB s 0 rfl
     |apply lP s 0 rfl
     |apply And.intro (cg s 0 rfl)
     |apply lI s 1 rfl
     |apply lS s 1 rfl
     |apply lB s 1 rfl
     |apply lP s 1 rfl
     |apply And.intro (cg s 1 rfl)
     |(refine ax s rfl rfl rfl λw s=>?_)
     |(refine sT s 1 rfl λw s=>?_)
     |refine aN s λb w s=>?_
     |(refine aT s λb w s=>?_;simp[agY,acP,amK,agZ]at s)
     |exact go _ _ _ _ _ rfl rfl s
     |apply bT (by omega) (by decide) (by omega)
     |refine And.intro ?_ ?_)
 exact⟨(xs.take 60).length+1,loop _ 0 _ _ 1 _ ra rn rc w (by omega) hm0 rfl s⟩
end
end Go.Proofs.YtmegplnmiepfbaaGreatDoor.S.O
set_option maxRecDepth 20000
namespace Go.Proofs.YtmegplnmiepfbaaGreatDoor.S
open Go.Sx
attribute [local irreducible] af cD bw bg aA cu bZ St Bx Al App cH cA cz bX aL bD aq bU av ak aW mapA
section
variable {F:Nat->Prop}{W w:World}{L:List As}{a b:Option Addr}{n c m d:Nat}
def eq2 {a b a' b':Int}:(a==a'&&(b==b'&&true))=decide (a=a'/\b=b'):=by grind
def avF {w:World}{x y:Operand}{a b:Int×Int}{K:Bool->World->Prop}(h:K (!decide (a=b)) w):bX P .neq 51 x y (.agg #[ae a.1,ae a.2]) (.agg #[ae b.1,ae b.2]) w K:=by apply aks (by kernel_rfl);apply an8 (r:=a.1==b.1&&(a.2==b.2&&true)) (by kernel_rfl) (by kernel_rfl) (by kernel_rfl);rw[eq2];simp[<-Prod.ext_iff];exact h
def avG {a b:FE}:(a.a=b.a/\a.b=b.b/\a.c=b.c/\a.d=b.d/\a.e=b.e/\a.f=b.f)↔a=b:=by obtain⟨a1,a2,a3,a4,a5,a6⟩:=a;obtain⟨b1,b2,b3,b4,b5,b6⟩:=b;simp
instance:DecidableEq FE:=λa b=>decidable_of_iff _ avG
def akg {Q:Bool->World->Prop}{xs ys:List (Int×Int)}(hX:Sl w a n c 2 lJ xs)(hY:Sl w b m d 2 lJ ys)(s0:Sep F W w L)(hn:n<1000000)(h:∀w',Sep F W w' L->Fr No w w'->Q (decide (xs=ys)) w'):
  tL a n c b m d w Q:=by
 apply Ko;have h1:=hX.len;have h2:=hY.len;have fin:∀(r:Bool) (w':World),r=decide (xs=ys)->Sep No w w' []->Q r w':=λr w' e s=>by subst e;exact h w' (bR s0 (au s)) (au s)
 by_cases hl:n=m
 ·subst hl;have loop:∀(k i:Nat) (w1:World),i+k=n->xs.take i=ys.take i->Sep No w w1 []->kA Q (k+1) a n c b n d i w1:=by
   intro k;induction k with
   |zero=>
    intro i w1 hi he s;show m6 Q (kA Q 0) _ _ _ _ _ _ _ _;unfold m6;grind
   |succ k ih=>
    intro i w1 hi he s;show m6 Q (kA Q (k+1)) _ _ _ _ _ _ _ _;rw[m6,bM];have s:=ay s;refine(hX.fr (au s)).El rfl (by omega) λp x hx hc=>?_;refine aR (hc 0 _ rfl) (aR (hc 1 _ rfl) ?_);refine(hY.fr (au s)).El rfl (by omega) λp y hy hc=>?_;refine aR (hc 0 _ rfl) (aR (hc 1 _ rfl) ?_);apply avF;by_cases hxy:x=y
    ·rw[decide_eq_true hxy,Bool.not_true,cond_false,aG];refine ih (i+1) _ (by omega) ?_ s;rw[List.take_add_one,List.take_add_one,hx,hy,he,hxy]
    grind
  rw[bne_self_eq_false,cond_false];exact⟨n+1,loop n 0 w (by omega) (by simp) bh⟩
 ·rw[show((n:Int) !=(m:Int))=true by grind,cond_true];refine fin false _ ?_ bh;grind
def map_eq {a b:bJ}:(a.w=b.w/\a.h=b.h/\a.cs=b.cs)↔a=b:=by obtain⟨a1,a2,a3⟩:=a;obtain⟨b1,b2,b3⟩:=b;simp
instance:DecidableEq bJ:=λa b=>decidable_of_iff _ map_eq
end
section
variable {F:Nat->Prop}{W w:World}{L:List As}{lg:xE}{r:Eh}{y:zE}{o:kW}{a:Option Addr}{n c:Nat}
def awz {K:Addr->World->Prop}{code d dir id:Int}{ma ga:Option Addr}{mn mc gn gc:Nat}{q0 q1 q2 q3 q4 q5:Int}(s:Sep F W w L)
  (h:∀p w',Sep F W w' (av p 34 (W1 code d dir id ma mn mc ga gn gc ⟨q0,q1,q2,q3,q4,q5⟩)::L)->K (aZ p) w'):
  Al T 34 w λp w=>St (p.add 0) (ae code) w λw=>St (p.add 1) (ae d) w λw=>St (p.add 2) (ae dir) w λw=>St (p.add 3) (ae id) w λw=>
   St (p.add 4) (.slice ma mn mc) w λw=>St (p.add 5) (.slice ga gn gc) w λw=>St (p.add 6) (.int .u64 q0) w λw=>St (p.add 7) (.int .u64 q1) w λw=>St (p.add 8) (.int .u64 q2) w λw=>
   St (p.add 9) (.int .u64 q3) w λw=>St (p.add 10) (.int .u64 q4) w λw=>St (p.add 11) (.int .u64 q5) w λw=>K p w:=by
 refine aT s λp w s=>?_
 iterate 12 refine sT s 0 rfl λw s=>?_
 exact h p w s
def acQ {K:Addr->World->Prop}(hL:iQ W lg)(ho:Ml o)(hM:∀w',Sep No W w' L->Sl w' a n c 1 bq o.m)(vX:amI y.p)(s:Sep No W w (fW r y::L))
  (h:∀r' y' ma mn mc ga gn gc p w',r'.p=r.p->y'.p=(iG y.p o).1->Sep No W w' (av p 34 (W1 (iG y.p o).2.code (iG y.p o).2.d (iG y.p o).2.dir (iG y.p o).2.id ma mn mc ga gn gc (qv y'.p.bQ))::ak ma mn mc 51 2 (flat lJ (iG y.p o).2.GX)::ak ga gn gc 3 1 (flat one (iG y.p o).2.gone)::fW r' y'::L)->K (aZ p) w'):
  ij (sZ r.p) o.k o.A o.B a n c w λcode d dir id ma mn mc ga gn gc q0 q1 q2 q3 q4 q5 w=>
   Al T 34 w λp w=>St (p.add 0) (ae code) w λw=>St (p.add 1) (ae d) w λw=>St (p.add 2) (ae dir) w λw=>St (p.add 3) (ae id) w λw=>
   St (p.add 4) (.slice ma mn mc) w λw=>St (p.add 5) (.slice ga gn gc) w λw=>St (p.add 6) (.int .u64 q0) w λw=>St (p.add 7) (.int .u64 q1) w λw=>St (p.add 8) (.int .u64 q2) w λw=>
   St (p.add 9) (.int .u64 q3) w λw=>St (p.add 10) (.int .u64 q4) w λw=>St (p.add 11) (.int .u64 q5) w λw=>K p w:=
 W2 hL ho hM vX s λr' y' ma mn mc ga gn gc w er ey s=>awz s λp w s=>h r' y' ma mn mc ga gn gc p w er ey s
def apw {K:xJ->List Value}{Q:Option Addr->Nat->Nat->World->Prop}{xs:List xJ}{k:Nat}(hA:Sl w a n c 3 K xs)(h:∀a' c',Sl w a' (min n k) c' 3 K (xs.take (min n k))->Q a' (min n k) c' w):yH a n c k w Q:=by apply QJ;refine hA.hi ?_ (Nat.min_le_left ..) h;unfold Dr;omega
end
end Go.Proofs.YtmegplnmiepfbaaGreatDoor.S
namespace Go.Proofs.YtmegplnmiepfbaaGreatDoor.S
open Go.Sx
structure J0 (most:Int) (m:bJ) (u:tA):Prop where
 may:cP m
 nv:m.w*m.h<=1600
 us:nP m.w m.h u.us
 nx:0<=u.next
 lt:∀v∈u.us,v.id<u.next
 mst:u.most=most
 len:(u.us.length:Int)<=most
structure Dq (t:Int) (q:gH):Prop where
 ep:zS q.bQ<=t
 tp:0<=t
 mo:1<=q.most/\q.most<=65536
 st:(q.bQ.o=none/\q.us=none)\/∃m u,q.bQ.o=some m/\q.us=some u/\J0 q.most m.g.m u/\u.next<=t
def Dq.sm {t:Int}{q:gH}(h:Dq t q)(ht:t<1000000000):amI q:=by
 refine⟨by have:=h.ep;omega,λu hu=>?_⟩;rcases h.st with⟨_,e⟩|⟨m,u',_,e,_,hn⟩
 all_goals grind
def Dq.mono {t t':Int}{q:gH}(h:Dq t q)(ht:t<=t'):Dq t' q:=by
 refine⟨by have:=h.ep;omega,by have:=h.tp;omega,h.mo,?_⟩;rcases h.st with e|⟨m,u',h1,h2,h3,hn⟩
 all_goals grind
section
variable {most t:Int}{m:bJ}{u:tA}{q:gH}{o:kW}
def arl (hm:cP m){c x:Int}(hx:1<=x/\x<=255):cP ⟨m.w,m.h,m.cs.set c.toNat x⟩:=by
 refine⟨hm.w,hm.h,?_,λy hy=>?_⟩
 ·rw[List.length_set];exact hm.len
 ·rcases List.mem_or_eq_of_mem_set hy with hy|rfl
  ·exact hm.jA y hy
  ·omega
def J0.drop (h:J0 most m u)(id:Int):J0 most m (kU u id):=by have hs:(kU u id).us.Sublist u.us:=List.filter_sublist;refine⟨h.may,h.nv,h.us.sub hs,h.nx,λv hv=>h.lt v (hs.subset hv),h.mst,?_⟩;have:=hs.length_le;have:=h.len;omega
def J0.WQ (h:J0 most m u)(id:Int){B:Int}(hB:bF m.w m.h B):J0 most m (vO u id λv=>⟨v.id,v.cell,B⟩):=by
 have e1:∀us:List aV,(us.map λv=>if v.id=id then(⟨v.id,v.cell,B⟩:aV)else v).map (·.id)=us.map (·.id):=λus=>by rw[List.map_map];refine List.map_congr_left λv _=>?_;simp[Function.comp];split<;>rfl
 have e2:∀us:List aV,(us.map λv=>if v.id=id then(⟨v.id,v.cell,B⟩:aV)else v).map (·.cell)=us.map (·.cell):=λus=>by rw[List.map_map];refine List.map_congr_left λv _=>?_;simp[Function.comp];split<;>rfl
 have hmem:∀v∈(vO u id λv=>⟨v.id,v.cell,B⟩).us,∃v'∈u.us,v.id=v'.id/\v.cell=v'.cell/\(v.goal=v'.goal\/v.goal=B):=λv hv=>by
  obtain⟨v',G8,rfl⟩:=List.mem_map.1 hv;refine⟨v',G8,?_⟩;split
  ·exact⟨rfl,rfl,.inr rfl⟩
  ·exact⟨rfl,rfl,.inl rfl⟩
 refine⟨h.may,h.nv,⟨h.us.wh,?_,λv hv=>?_,λv hv=>?_,?_⟩,h.nx,λv hv=>?_,h.mst,?_⟩
 ·show List.Pairwise _ (List.map _ (List.map _ _));rw[e1];exact h.us.ids
 ·obtain⟨v',h1,h2,_⟩:=hmem v hv;rw[h2];exact h.us.pos v' h1
 ·obtain⟨v',h1,_,h3,h4⟩:=hmem v hv;have:=h.us.at_ v' h1;refine⟨by rw[h3];exact this.1,?_⟩;rcases h4 with h4|h4
  ·rw[h4];exact this.2
  ·rw[h4];exact hB
 ·show List.Nodup (List.map _ (List.map _ _));rw[e2];exact h.us.nd
 ·obtain⟨v',h1,h2,_⟩:=hmem v hv;rw[h2];exact h.lt v' h1
 ·show((List.map _ _).length:Int)<=most;rw[List.length_map];exact h.len
def J0.add (h:J0 most m u){A B:Int}(hs:vr m.w m.h u A B=0):J0 most m (OY u A B):=by
 unfold vr at hs;split at hs
 ·omega
 split at hs
 ·omega
 split at hs
 ·omega
 split at hs
 ·omega
 rename_i h1 h2 h3 h4;have h1:=Decidable.not_not.1 h1;have h2:=Decidable.not_not.1 h2;have hl:((u.us++[(⟨u.next,A,B⟩:aV)]).length:Int)=u.us.length+1:=by simp
 have:=h.mst;refine⟨h.may,h.nv,ak2 h.us (λv hv=>h.lt v hv) h.nx h1.1 h1.2 ((ak3 h.us).1 h2),?_,λv hv=>?_,h.mst,?_⟩
 ·show 0<=u.next+1
  have:=h.nx;omega
 ·show v.id<u.next+1
  rcases List.mem_append.1 hv with hv|hv
  ·have:=h.lt v hv;omega
  grind
 ·show((u.us++[(⟨u.next,A,B⟩:aV)]).length:Int)<=_;omega
def W3 {w h:Int}:∀(todo:List (aV×Int)) (done:List aV),∀v∈(dh w h done todo).1,∃v'∈done++todo.map (·.1),v.id=v'.id/\v.goal=v'.goal
 |[],done,v,hv=>⟨v,by simpa[dh]using hv,rfl,rfl⟩
 |(x,d)::rest,done,v,hv=>by
  cases hb:uD w h (done++x::rest.map (·.1)) x d with
  |true=>
   rw[H_ hb]at hv;obtain⟨v',h1,h2,h3⟩:=W3 rest _ v hv;rw[List.append_assoc]at h1;rcases List.mem_append.1 h1 with h1|h1
   ·grind
   ·rcases List.mem_append.1 h1 with h1|h1
    ·unfold nS at h1;grind
    grind
  |false=>
   rw[Ia hb]at hv;obtain⟨v',h1,h2,h3⟩:=W3 rest _ v hv;grind
def zip_fst {α β:Type}{l:List α}(f:α->β):(l.zip (l.map f)).map (·.1)=l:=by rw[List.map_fst_zip];grind
def J0.tick (h:J0 most m u):J0 most m (N5 m.w m.h u (sD m u.us)):=by
 have hz:(u.us.zip (sD m u.us)).map (·.1)=u.us:=zip_fst _;refine⟨h.may,h.nv,WS _ [] (by rw[List.nil_append,hz];exact h.us),h.nx,λv hv=>?_,h.mst,?_⟩
 ·obtain⟨v',h1,h2,_⟩:=W3 _ _ v hv;rw[List.nil_append,hz]at h1;rw[h2];exact h.lt v' h1
 ·have h1:=(N3 (w:=m.w) (h:=m.h) (u.us.zip (sD m u.us)) []).1;have h2:=congrArg List.length hz;have:=h.len;have e:(N5 m.w m.h u (sD m u.us)).us=(dh m.w m.h [] (u.us.zip (sD m u.us))).1:=rfl;grind
def apx (q:pN)(t s:Int):zS (zD q t s)=zS q:=by
 cases h:q.o with
 |none=>unfold zD;rw[h]
 |some m=>
  obtain⟨m',h1,h2⟩:=AY h t s;unfold zS;grind
def arn (q:pN)(ps:List GR):zS (GU q ps)=zS q:=by
 cases h:q.o with
 |none=>
  have:GU q ps=q:=by
   unfold GU;induction ps with
   |nil=>rfl
   |cons p ps ih=>rw[List.foldl_cons];unfold zD;rw[h];exact ih
  rw[this]
 |some m=>
  obtain⟨m',h1,h2⟩:=GW ps h;unfold zS;grind
def awA {mp:vN}(h:Dq t q)(hm:q.bQ.o=some mp)(hu:q.us=some u)(hn:J0 q.most mp.g.m u)(hx:u.next<=t):Dq (t+1) (Mi q mp.g.m u o).1:=by
 have hsame:Dq (t+1) q:=h.mono (by omega);have ht:=h.tp;have Yy:=h.ep;have epm:zS q.bQ=mp.g.ep:=by unfold zS;rw[hm]
 unfold Mi;split
 ·split
  ·exact hsame
  ·split
   ·exact hsame
   ·split
    ·exact hsame
    ·have e:(edP q.bQ o.A o.B).o=some ⟨xx mp.g o.A o.B,mp.S7,mp.clean,mp.fR,mp.kept,mp.fc⟩:=by unfold edP;rw[hm];rfl
     refine⟨?_,by omega,h.mo,.inr ⟨_,u,e,rfl,?_,by omega⟩⟩
     ·rw[zS,e];show mp.g.ep+1<=t+1;omega
     ·exact⟨arl hn.may (by omega),hn.nv,hn.us,hn.nx,hn.lt,hn.mst,hn.len⟩
 ·split
  ·split
   ·exact hsame
   ·split
    ·exact hsame
    ·split
     ·exact hsame
     ·rename_i h1 h2 h3;exact⟨by grind,by omega,h.mo,.inr ⟨mp,_,hm,rfl,hn.add (Decidable.not_not.1 h3),by show u.next+1<=t+1;omega⟩⟩
  ·split
   ·split
    ·exact hsame
    ·split
     ·exact hsame
     ·split
      ·exact⟨by grind,by omega,h.mo,.inr ⟨mp,_,hm,rfl,hn.drop _,by show u.next<=t+1;omega⟩⟩
      ·rename_i h2 _;exact⟨by grind,by omega,h.mo,.inr ⟨mp,_,hm,rfl,hn.WQ _ (Decidable.not_not.1 h2),by show u.next<=t+1;omega⟩⟩
   ·split
    ·split
     ·exact hsame
     ·exact⟨by grind,by omega,h.mo,.inr ⟨mp,_,hm,rfl,hn.drop _,by show u.next<=t+1;omega⟩⟩
    ·split
     ·split
      ·obtain⟨TN,h1,h2⟩:=AY hm o.A (cU mp.g.m o.B);refine⟨by show zS (zD _ _ _)<=_;rw[apx];omega,by omega,h.mo,.inr ⟨TN,u,h1,rfl,by grind,by omega⟩⟩
      grind
     ·obtain⟨TN,h1,h2⟩:=GW (mG mp.g.m.w mp.g.m.h u.us) hm;refine⟨by show zS (GU _ _)<=_;rw[arn];omega,by omega,h.mo,.inr ⟨TN,_,h1,rfl,by rw[h2];exact hn.tick,by show u.next<=t+1;omega⟩⟩
def acR (h:Dq t q)(ho:Ml o):Dq (t+1) (iG q o).1:=by
 have hsame:Dq (t+1) q:=h.mono (by omega);have ht:=h.tp;have Yy:=h.ep;unfold iG;split
 ·exact hsame
 ·split
  ·rename_i k1;split
   ·exact hsame
   ·rename_i mp hg;have hf:=(ho.load k1).2 mp hg;have hm:=afe ho.jA hg;have hmo:=h.mo;refine⟨?_,by omega,h.mo,.inr ⟨_,_,rfl,rfl,⟨hm,hf,⟨⟨hm.w,hm.h⟩,.nil,λv hv=>(by cases hv),λv hv=>(by cases hv),.nil⟩,Int.le_refl _,λv hv=>(by cases hv),rfl,?_⟩,by grind⟩⟩
    ·show zS q.bQ+1<=t+1;omega
    grind
  ·split
   ·rcases h.st with⟨h1,h2⟩|⟨m,u,h1,h2,h3,h4⟩
    ·refine⟨?_,by omega,h.mo,.inl ⟨by show(N8 q.bQ).o=none;unfold N8;rw[h1];rfl,h2⟩⟩;unfold zS N8;grind
    ·have e:(N8 q.bQ).o=some ⟨m.g,m.S7,m.clean,m.fR,none,m.fc⟩:=by unfold N8;rw[h1];rfl
     refine⟨?_,by omega,h.mo,.inr ⟨_,u,e,h2,h3,by omega⟩⟩;show zS (N8 q.bQ)<=_;have:zS q.bQ=zS (N8 q.bQ):=by unfold zS;rw[e,h1]
     omega
   ·rcases h.st with⟨h1,h2⟩|⟨m,u,h1,h2,h3,h4⟩
    ·grind
    ·rw[h1,h2];exact awA h h1 h2 h3 h4
end
def Eg.of {bs:List Int}{m:bJ}(h:kV bs=some m):Eg bs:=by
 unfold kV at h;split at h
 ·cases h
 ·split at h
  ·rename_i h1 h2;refine⟨by omega,h2,λbs' M hT=>?_⟩;grind
  ·cases h
def lA {k A B:Int}(hk:k≠1):Ml ⟨k,A,B,[]⟩:=⟨dZ.nil,by simp,λe=>(hk e).elim⟩
def aeH {m:bJ}(hm:cP m)(hf:m.w*m.h<=1600):Ml (Ek m):=by have h1:=FY hm;have h2:=abK hm;refine⟨h1.1,h1.2,λ_=>⟨.of h2,λmp h=>?_⟩⟩;have h:kV (yG m)=some mp:=h;grind
def ajv (w h:Int)(c:List Int):(vv w h c).w*(vv w h c).h<=1600:=by have h1:=j9 (n:=w) (lo:=1) (hi:=40) (by decide);have h2:=j9 (n:=h) (lo:=1) (hi:=40) (by decide);show gf w 1 40*gf h 1 40<=1600;have:=Int.mul_le_mul h1.2 h2.2 (by omega) (by decide);omega
def amQ {a b:Int}{ts:List Int}{used:Nat}(h:EY [1,a,b] 2=some (ts,used)):used=3:=by
 unfold EY at h;have e:Iu 2 [1,a,b]=if[a,b].length<2\/0∈[a,b].take 2 then none else some ([a,b].take 2,1+2):=rfl
 grind
def avH {x:xJ}{n:Int}:Ml (KV x n):=by
 unfold KV;simp only;split
 ·have hd:Eg [2,0,1,0,1,x.a%256,x.b%256]:=by
   refine⟨by simp,(by decide:iO (2+256*0) (1+256*0)),λbs' M h=>?_⟩;have h:qV 2 1 1 0 [1,x.a%256,x.b%256] [0,0]=some (bs',M):=h;unfold qV at h;have e:(aD 2 1 0*bz 2 1 0).toNat=2:=by decide
   split at h
   ·cases h
   ·rename_i ts used hT;have:=amQ hT;subst this;unfold qV at h;grind
  refine⟨dZ.mk (by decide) (dZ.mk (by decide) (dZ.mk (by decide) (dZ.mk (by decide) (dZ.mk (by decide) (dZ.mk (by omega) (dZ.mk (by omega) dZ.nil)))))),by simp,λ_=>⟨hd,λmp h=>?_⟩⟩;have h:=h;rw[hd.get]at h;obtain⟨q,_,rfl⟩:=Option.map_eq_some_iff.1 h;show(2+256*0:Int)*(1+256*0)<=1600;decide
 ·split
  ·exact lA (by decide)
  ·split
   ·exact lA (by decide)
   ·exact lA (by assumption)
def avI {w h:Int}{c:List Int}(hc:dZ c){m:bJ}(x:xJ):Ml (vZ w h c m x).1:=by
 unfold vZ;simp only;split
 ·exact lA (by decide)
 ·split
  ·exact lA (by decide)
  ·split
   ·exact lA (by decide)
   ·split
    ·exact lA (by decide)
    ·split
     ·exact lA (by decide)
     ·split
      ·exact lA (by decide)
      ·split
       ·split
        ·exact aeH (EE hc) (ajv _ _ _)
        ·exact lA (by decide)
       ·split
        ·exact avH
        ·exact lA (by decide)
def ala {w h:Int}{c:List Int}(hc:dZ c):∀(xs:List xJ) {m:bJ},∀o∈Ni w h c m xs,Ml o
 |[],_,o,ho=>by cases ho
 |x::xs,m,o,ho=>by
  rcases List.mem_cons.1 ho with rfl|ho
  ·exact avI hc x
  ·exact ala hc xs o ho
def apy {w h:Int}{c:List Int}(hc:dZ c)(xs:List xJ):∀o∈AW w h c xs,Ml o:=λo ho=>by
 rcases List.mem_cons.1 ho with rfl|ho
 ·exact aeH (EE hc) (ajv _ _ _)
 ·exact ala hc _ o ho
noncomputable def Ih (q:gH)(os:List kW):gH:=os.foldl (λq o=>(iG q o).1) q
def amR (k most:Int):gH:=⟨most,⟨k,⟨[],[],0,0,0,0⟩,none,⟨0,0,0,0,0,0⟩⟩,none⟩
section
variable {q:gH}{o:kW}{t:Int}
def ass {k most:Int}(hm:1<=most/\most<=65536):Dq 0 (amR k most):=⟨Int.le_refl _,Int.le_refl _,hm,.inl ⟨rfl,rfl⟩⟩
def ast:∀(os:List kW) {q:gH} {t:Int},Dq t q->(∀o∈os,Ml o)->Dq (t+os.length) (Ih q os)
 |[],q,t,h,_=>by simpa[Ih]using h
 |o::os,q,t,h,ho=>by have:=ast os (acR h (ho o (by simp))) λo' h'=>ho o' (by simp[h']);rw[List.length_cons,show t+((os.length+1:Nat):Int)=t+1+os.length by omega];exact this
def aro (q:gH)(os:List kW)(o:kW):Ih q (os++[o])=(iG (Ih q os) o).1:=by unfold Ih;grind
def arp {os:List kW}{i:Nat}(hi:i<os.length)(ho:os[i]? =some o):Ih q (os.take (i+1))=(iG (Ih q (os.take i)) o).1:=by rw[List.take_add_one,ho];exact aro _ _ _
def avJ {mp:vN}{u:tA}(hm:q.bQ.o=some mp):(Mi q mp.g.m u o).1.bQ.o≠none:=by
 unfold Mi
 repeat' split
 all_goals first
  |(show q.bQ.o≠none;rw[hm];exact Option.some_ne_none _)
  |(show(edP q.bQ o.A o.B).o≠none;unfold edP;rw[hm];exact Option.some_ne_none _)
  |(obtain⟨m',h1,_⟩:=AY hm o.A (cU mp.g.m o.B);rw[h1];exact Option.some_ne_none _)
  |(obtain⟨m',h1,_⟩:=GW (mG mp.g.m.w mp.g.m.h u.us) hm;rw[h1];exact Option.some_ne_none _)
def avK (h:q.bQ.o≠none):(iG q o).1.bQ.o≠none:=by
 obtain⟨mp,hm⟩:=Option.ne_none_iff_exists'.1 h;unfold iG;split
 ·exact h
 ·split
  ·split
   ·exact h
   ·exact Option.some_ne_none _
  ·split
   ·unfold N8;grind
   ·rw[hm];cases hu:q.us with
    |none=>exact h
    |some u=>exact avJ hm
def apz:∀(os:List kW) {q:gH},q.bQ.o≠none->(Ih q os).bQ.o≠none
 |[],q,h=>h
 |o::os,q,h=>apz os (avK h)
def alb {m:bJ}(hm:cP m):iG q (Ek m)=(⟨q.most,ldP q.bQ m,some ⟨q.most,0,[]⟩⟩,pO 0):=by have h1:=FY hm;have e:Du (Ek m)=true:=(ac6 h1.1 h1.2).may;rw[iG,e,if_neg (by rintro (h|h)<;>cases h),if_pos (show(Ek m).k=(1:Int)from rfl)];have e:kV (Ek m).m=some m:=abK hm;rw[e]
def apA {w h:Int}{c:List Int}(hc:dZ c)(xs:List xJ)(q:gH){i:Nat}(hi:0<i):(Ih q ((AW w h c xs).take i)).bQ.o≠none:=by obtain⟨j,rfl⟩:∃j,i=j+1:=⟨i-1,by omega⟩;unfold AW;show(Ih (iG q _).1 _).bQ.o≠none;apply apz;rw[alb (EE hc)];exact Option.some_ne_none _
end
def pre (cs:List Int):Nat->Int
 |0=>0
 |k+1=>pre cs k+gi cs k
structure uE (m:bJ) (p q:Int):Prop where
 may:cP m
 op:∀x∈m.cs,x<255
 dir:(m.h=1/\p=1/\q=3)\/(m.w=1/\p=2/\q=0)
section
variable {m:bJ}{p q x t s:Int}
def uE.bF (h:uE m p q)(hx:0<=x/\x<m.cs.length):bF m.w m.h x:=⟨⟨h.may.w,h.may.h⟩,hx.1,by rw[<-h.may.len];exact hx.2⟩
def uE.cost (h:uE m p q)(hx:0<=x/\x<m.cs.length):cL m x=gi m.cs x.toNat/\1<=cL m x/\cL m x<=254:=by
 have e:cL m x=gi m.cs x.toNat:=by unfold cL;grind
 have hm:=ff (l:=m.cs) (i:=x.toNat) (by omega);have h1:=h.may.jA _ hm;have h2:=h.op _ hm;omega
def uE.Ec (h:uE m p q)(hx:0<=x/\x<m.cs.length):eZ m x=true:=by have:=h.cost hx;unfold eZ;simp;omega
def uE.step (h:uE m p q)(hx:0<=x/\x<m.cs.length)(hs:0<=s/\s<=3):a_ m.w m.h x s=if s=p then(if x+1<m.cs.length then x+1 else-1)else if s=q then x-1 else-1:=by
 have hc:=h.bF hx;have hl:=h.may.len;have hw:=h.may.w;have hh:=h.may.h;rw[a_,if_pos hc];rcases h.dir with⟨e,rfl,rfl⟩|⟨e,rfl,rfl⟩
 ·rw[e]at hl⊢;have e1:x%m.w=x:=Int.emod_eq_of_lt hx.1 (by omega);have e2:x/m.w=0:=Int.ediv_eq_zero_of_lt hx.1 (by omega);rw[e1,e2];obtain rfl|rfl|rfl|rfl:s=0\/s=1\/s=2\/s=3:=by omega
  ·rw[if_pos rfl,sH (by omega)];rfl
  ·rw[if_neg (by decide),if_neg (by decide),if_neg (by decide),if_pos rfl,if_pos rfl];split
   ·rw[m_ ⟨hw,by decide⟩ (by omega) (by omega)];omega
   ·rw[sH (by omega)]
  ·rw[if_neg (by decide),if_pos rfl,sH (by omega)];rfl
  ·rw[if_neg (by decide),if_neg (by decide),if_pos rfl,if_neg (by decide),if_pos rfl];by_cases h0:x=0
   ·rw[sH (by omega)];omega
   ·rw[m_ ⟨hw,by decide⟩ (by omega) (by omega)];omega
 ·rw[e]at hl⊢;obtain rfl|rfl|rfl|rfl:s=0\/s=1\/s=2\/s=3:=by omega
  ·by_cases h0:x=0
   ·rw[sH (by omega)];omega
   ·rw[m_ ⟨by decide,hh⟩ (by omega) (by omega)];omega
  ·rw[if_neg (by decide),if_neg (by decide),if_neg (by decide),if_pos rfl,sH (by omega)];rfl
  ·rw[if_neg (by decide),if_pos rfl,if_pos rfl];split
   ·rw[m_ ⟨by decide,hh⟩ (by omega) (by omega)];omega
   ·rw[sH (by omega)]
  ·rw[if_neg (by decide),if_neg (by decide),if_pos rfl,sH (by omega)];rfl
def uE.pq (h:uE m p q):(0<=p/\p<=3)/\(0<=q/\q<=3)/\p≠q:=by rcases h.dir with⟨_,rfl,rfl⟩|⟨_,rfl,rfl⟩<;>decide
def uE.ayH (h:uE m p q){n c:Int}(e:fJ m x n c):(0<=x/\x<m.cs.length)/\(0<=n/\n<m.cs.length)/\(n=x+1\/n=x-1)/\c=cL m n:=by
 obtain⟨h1,h2,⟨s,hs,e⟩,hc⟩:=e;have hl:=h.may.len;have hx:=(jT h.may h1).2;have hn:=(jT h.may h2).2;have hx:0<=x/\x<m.cs.length:=by omega
 rw[h.step hx hs]at e;omega
def Az (m:bJ)(t x:Int):Int:=if 0<=x/\x<m.cs.length then(if x<=t then pre m.cs (t+1).toNat-pre m.cs (x+1).toNat else pre m.cs x.toNat-pre m.cs t.toNat)else bS
def acS (h:uE m p q)(hx:0<=x/\x<m.cs.length):pre m.cs (x+1).toNat=pre m.cs x.toNat+cL m x:=by rw[(h.cost hx).1,show(x+1).toNat=x.toNat+1 by omega];rfl
def G0 (h:uE m p q):∀k:Nat,k<=m.cs.length->0<=pre m.cs k/\pre m.cs k<=254*k
 |0,_=>by simp[pre]
 |k+1,hk=>by have:=G0 h k (by omega);have h1:=(h.cost (x:=k) (by omega));have h2:=h1.1;rw[Int.toNat_natCast]at h2;show 0<=pre m.cs k+gi m.cs k/\pre m.cs k+gi m.cs k<=_;omega
def uE.D (h:uE m p q)(ht:0<=t/\t<m.cs.length)(hx:0<=x/\x<m.cs.length):D m t x=Az m t x:=by
 have hsz:=KW h.may;have small:∀y:Int,0<=y/\y<m.cs.length->Az m t y<bS:=λy hy=>by have h1:=G0 h (t+1).toNat (by omega);have h2:=G0 h (y+1).toNat (by omega);have h3:=G0 h t.toNat (by omega);have h4:=G0 h y.toNat (by omega);unfold Az bS;omega
 have on:∀y:Int,0<=y/\y+1<m.cs.length->y<t->Az m t y=Az m t (y+1)+cL m (y+1):=λy hy hyt=>by have:=acS h (x:=y+1) (by omega);unfold Az;omega
 have back:∀y:Int,0<=y/\y<m.cs.length->t<y->Az m t y=Az m t (y-1)+cL m (y-1):=λy hy hyt=>by have h1:=acS h (x:=y-1) (by omega);unfold Az;grind
 have zero:Az m t t=0:=by unfold Az;omega
 refine ant (λy k hy=>?_) (λy n c e hn=>?_) (λ_=>?_) (λhn=>(hn (small x hx)).elim)
 ·obtain⟨rfl,_,rfl⟩:=hy;grind
 ·obtain⟨h1,h2,h3,rfl⟩:=h.ayH e;refine⟨small y h1,?_⟩;have c1:=(h.cost h1).2;have c2:=(h.cost h2).2;rcases h3 with rfl|rfl
  ·by_cases k:y<t
   ·rw[on y (by omega) k];omega
   ·have:=back (y+1) h2 (by omega);rw[show y+1-1=y by omega]at this;omega
  ·by_cases k:t<y
   ·rw[back y h1 k];omega
   ·have:=on (y-1) (by omega) (by omega);rw[show y-1+1=y by omega]at this;omega
 ·have wy:∀(k:Nat) (y:Int),0<=y/\y<m.cs.length->(y-t).natAbs=k->Wy (f_ m t) (fJ m) y (Az m t y):=by
   intro k;induction k with
   |zero=>
    intro y hy hk;obtain rfl:y=t:=by omega
    rw[zero];exact .src ⟨rfl,h.Ec ht,rfl⟩
   |succ k ih=>
    intro y hy hk;by_cases l:y<t
    ·rw[on y (by omega) l];refine .go ⟨h.Ec hy,h.Ec (by omega),⟨p,h.pq.1,?_⟩,rfl⟩ (ih (y+1) (by omega) (by omega));rw[h.step hy h.pq.1,if_pos rfl,AE]
    ·rw[back y hy (by omega)];refine .go ⟨h.Ec hy,h.Ec (by omega),⟨q,h.pq.2.1,?_⟩,rfl⟩ (ih (y-1) (by omega) (by omega));rw[h.step hy h.pq.2.1,if_neg (λe=>h.pq.2.2 e.symm),if_pos rfl]
  exact wy _ x hx rfl
def uE.kI (h:uE m p q)(ht:0<=t/\t<m.cs.length)(hx:0<=x/\x<m.cs.length)(hne:x≠t):kI m t x=if x<t then p else q:=by
 have hD:=h.D ht hx;have hsz:=KW h.may;have hlt:S.D m t x<bS:=by have h1:=G0 h (t+1).toNat (by omega);have h2:=G0 h (x+1).toNat (by omega);have h3:=G0 h t.toNat (by omega);have h4:=G0 h x.toNat (by omega);rw[hD];unfold Az bS;omega
 obtain⟨hr,⟨h0,hop,he⟩,_⟩:=Xc h.may hlt hne;have hst:=h.step hx hr;generalize S.kI m t x=s at*;rw[hst]at h0 he;have c0:=(h.cost hx);by_cases e1:s=p
 ·subst e1;rw[if_pos rfl]at h0 he;split at h0
  ·rename_i hlx;rw[if_pos hlx]at he;split
   ·rfl
   ·exfalso;rw[hD,h.D ht (by omega)]at he;have c1:=h.cost (x:=x+1) (by omega);have p1:=acS h hx;unfold Az at he;omega
  ·omega
 ·rw[if_neg e1]at h0 he;split at h0
  ·rename_i e2;subst e2;split
   ·exfalso;rw[hD,h.D ht (by omega)]at he;have c1:=h.cost (x:=x-1) (by omega);have p1:=acS h hx;unfold Az at he;grind
   ·rfl
  ·omega
end
end Go.Proofs.YtmegplnmiepfbaaGreatDoor.S
set_option maxRecDepth 20000
namespace Go.Proofs.YtmegplnmiepfbaaGreatDoor.S
open Go.Sx
attribute [local irreducible] af cD bw bg aA cu bZ St Bx Al App cH cA cz bX aL bD aq bU av ak aW mapA
def Ji:bJ:=⟨3,1,[5,2,9]⟩
def Mo:uE Ji 1 3:=⟨⟨by decide,by decide,by decide,by decide⟩,by decide,.inl ⟨rfl,rfl,rfl⟩⟩
def amS:D Ji 2 0=11/\kI Ji 2 0=1:=⟨(Mo.D (by decide) (by decide)).trans (by decide),(Mo.kI (by decide) (by decide) (by decide)).trans (by decide)⟩
def aw1 {q:gH}:iG q (Ek Ji)=(⟨q.most,ldP q.bQ Ji,some ⟨q.most,0,[]⟩⟩,pO 0):=alb Mo.may
def ag0 {q:gH}{o:kW}{mp:vN}{u:tA}(hm:Du o=true)(hk:o.k≠0/\o.k≠1/\o.k≠8)(h1:q.bQ.o=some mp)(h2:q.us=some u):iG q o=Mi q mp.g.m u o:=by unfold iG;grind
def aw2 {q:gH}{mp:vN}(h1:q.bQ.o=some mp)(hg:mp.g.m=Ji)(h2:q.us=some ⟨2,0,[]⟩):iG q ⟨3,0,2,[]⟩=(⟨q.most,q.bQ,some ⟨2,1,[⟨0,0,2⟩]⟩⟩,⟨0,0,5,0,[],[]⟩):=by rw[ag0 (by decide) (by decide) h1 h2,hg];rfl
def aw3 {q:gH}{mp:vN}{u:tA}(h1:q.bQ.o=some mp)(hg:mp.g.m=Ji)(h2:q.us=some u):iG q ⟨6,2,0,[]⟩=(⟨q.most,zD q.bQ 2 (cU Ji 0),some u⟩,⟨0,11,1,-1,[],[]⟩):=by
 rw[ag0 (by decide) (by decide) h1 h2,hg];have e:Mi q Ji u ⟨6,2,0,[]⟩=(⟨q.most,zD q.bQ 2 (cU Ji 0),some u⟩,⟨0,D Ji 2 0,kI Ji 2 0,-1,[],[]⟩):=by rw[Mi,if_neg (by decide),if_neg (by decide),if_neg (by decide),if_neg (by decide),if_pos rfl,if_pos (by decide)]
 rw[e,amS.1,amS.2]
def aw4 {q:gH}{mp:vN}(h1:q.bQ.o=some mp)(hg:mp.g.m=Ji)(h2:q.us=some ⟨2,1,[⟨0,0,2⟩]⟩):(iG q ⟨7,0,0,[]⟩).1.us=some ⟨2,1,[⟨0,1,2⟩]⟩/\(iG q ⟨7,0,0,[]⟩).2=⟨0,0,5,-1,[(0,1)],[]⟩:=by
 rw[ag0 (by decide) (by decide) h1 h2,hg];have e:sD Ji [⟨0,0,2⟩]=[1]:=by show[kI Ji 2 0]=[1];rw[amS.2]
 rw[Mi,e];exact⟨rfl,rfl⟩
section
variable {F:Nat->Prop}{W w:World}{L:List As}{lg:xE}{r:Eh}{y:zE}
def awB {u:tA}(h:y.p.us=some u):∃x,y.cr=some x/\x.y=u:=by have h:y.cr.map (·.y)=some u:=h;simp_all
def YS {Q:Bool->World->Prop}(hL:iQ w lg)(s0:Sep F W w L)(h:∀w',Sep F W w' L->Fr No w w'->Q true w'):v8 w Q:=by
 apply MY;refine TO (by decide) (by decide) (bh (F:=No)) λr y w1 ey s=>?_;have i0:Dq 0 y.p:=by rw[ey];exact ass (by decide)
 apply kX;refine aN s λpb w1 s=>?_;refine aT s λmb w1 s=>?_
 iterate 3 refine sT s 0 rfl λw1 s=>?_
 refine lI s 0 rfl (lI s 0 rfl (lS s 0 rfl ?_));have hC:=acK (ns:=[5,2,9]) s (i:=1) rfl;refine O.JQ s hC Mo.may λra rn rc w1 s _=>?_;have s:=pk 4 [3,0,1,2] s;have o1:=aeH Mo.may (by decide);refine acQ hL o1 (λw' s'=>aO s' (i:=0) rfl cY (by decide)) (i0.sm (by decide)) s λr1 y1 ma mn mc ga gn gc ab w1 er ey1 s=>?_;rw[<-er];have i1:Dq 1 y1.p:=by rw[ey1];exact acR i0 o1
 obtain⟨mp1,h1,g1,u1⟩:∃mp,y1.p.bQ.o=some mp/\mp.g.m=Ji/\y1.p.us=some ⟨2,0,[]⟩:=by rw[ey1,aw1,ey];exact⟨_,rfl,rfl,rfl⟩
 have s:=pk 4 [3,0,1,2] s;refine acQ hL (lA (by decide)) (λw' s'=>zM) (i1.sm (by decide)) s λr2 y2 ma mn mc ga gn gc bb w1 er WZ s=>?_;rw[<-er];have i2:Dq 2 y2.p:=by rw[WZ];exact acR i1 (lA (by decide))
 rw[aw2 h1 g1 u1]at WZ s;have h2:y2.p.bQ.o=some mp1:=by rw[WZ];exact h1
 have u2:y2.p.us=some ⟨2,1,[⟨0,0,2⟩]⟩:=by rw[WZ]
 have s:=pk 4 [3,0,1,2] s;refine acQ hL (lA (by decide)) (λw' s'=>zM) (i2.sm (by decide)) s λr3 y3 ma mn mc ga gn gc cb w1 er ey3 s=>?_;rw[<-er];have i3:Dq 3 y3.p:=by rw[ey3];exact acR i2 (lA (by decide))
 rw[aw3 h2 g1 u2]at ey3 s;obtain⟨mp3,h3,g3⟩:=AY h2 2 (cU Ji 0);have h3:y3.p.bQ.o=some mp3:=by rw[ey3];exact h3
 have u3:y3.p.us=some ⟨2,1,[⟨0,0,2⟩]⟩:=by rw[ey3]
 rw[<-g3]at g1;have s:=pk 4 [3,0,1,2] s;refine acQ hL (lA (by decide)) (λw' s'=>zM) (i3.sm (by decide)) s λr4 y4 ma mn mc ga gn gc db w1 er ey4 s=>?_;rw[<-er];obtain⟨u4,q4⟩:=aw4 h3 g1 u3;rw[<-ey4]at u4;rw[q4]at s;apply lI s 10 rfl;show cond true _ _;apply lI s 7 rfl;show cond true _ _;apply lI s 4 rfl;show cond true _ _;apply lI s 4 rfl;show cond true _ _;apply lS s 0 rfl;refine aN s λxb w1 s=>?_;have s:Sep No w w1 (ak (sZ xb) 1 1 51 2 (flat lJ [(0,1)])::_):=gX s (i:=0) rfl rfl (by decide) (λu hu=>by rcases List.mem_cons.1 hu with rfl|hu;rfl;rcases List.mem_cons.1 hu with rfl|hu;rfl;cases hu);have hX:=aO s (i:=2) rfl N4 (by decide);have hY:=aO s (i:=0) rfl N4 (by decide);have hl:=hX.len;refine akg hX hY s (by simp at hl;omega) λw1 s _=>?_;obtain⟨x,hx,ex⟩:=awB u4;have s:=pk 5 [4,0,1,2,3] s;refine acO hx s λua un uc w1 s=>?_;have hU:=(aO s (i:=0) rfl Ja (by decide)).len;rw[ex]at hU;have hU:1=un:=hU;rw[cV (show(un:Int)=1 by omega)];exact h w1 (bR s0 (au s)) (au s)
end
section
variable {W w:World}{L:List As}{lg:xE}{ra rb rz:Eh}{ya yb yz:zE}{xa va ca la na:Option Addr}{xn xc vn vc cn cc ln lc nn nc:Nat}{X Y:List kW}{t:Int}
def Dq.at_ {q:gH}(h:Dq t q)(hu:q.bQ.o≠none):∃m u,q.bQ.o=some m/\q.us=some u/\J0 q.most m.g.m u/\u.next<=t:=by
 rcases h.st with⟨e,_⟩|h
 all_goals grind
end
section
variable {F:Nat->Prop}{W w w0:World}{L:List As}{lg:xE}{r:Eh}{y:zE}{a ca la:Option Addr}{n c cn cc ln lc:Nat}{m:bJ}{u:tA}{k t x:Int}
def ajw {Q:Bool->World->Prop}(hm:cP m)(hA:Sl w a n c 1 bq m.cs)(s0:Sep F W w L)(h:∀w',Sep F W w' L->Fr No w w'->Q true w'):tM m.w m.h a n c w Q:=by
 refine Kq _ _ _ _ _ _ _ ?_;have hl:=hA.len;have hml:=hm.len;have hmul:=mU ⟨hm.w,hm.h⟩;have hw:=hm.w;have hh:=hm.h;refine aN (bh (F:=No) (w:=w)) λb w s=>?_;refine lI s 0 rfl (lI s 0 rfl ?_);refine D7 _ _ _ _ ?_;refine O.zq ?_;rw[bM];refine O.zq ?_;show cond _ _ _;rw[bM];refine lS s 0 rfl (lI s 0 rfl (lI s 0 rfl ?_));rw[aG,cV (show(n:Int)=m.w*m.h by omega),cond_true];refine lS s 0 rfl ?_;refine M5 _ _ _ _ _ ?_;have hA:=hA.fr (au s);have loop:∀j i:Nat,i+j=n->sB (λt w=>Q t w) (j+1) a n c i w:=by
  intro j;induction j with
  |zero=>
   intro i hi;show oJ _ _ _ _ _ _ _;unfold oJ;rw[bp];exact h w (bR s0 (au s)) (au s)
  |succ j ih=>
   intro i hi;show oJ _ _ _ _ _ _ _;unfold oJ;rw[bM];refine hA.AD (k:=i) rfl (by omega) ?_;have:=hm.jA _ (ff (l:=m.cs) (i:=i) (by omega));rw[cy (by omega),cond_false,Mc (by omega)];exact ih (i+1) (by omega)
 exact⟨n+1,loop n 0 (by omega)⟩
structure SvQ (k:Int) (q:gH) (m:bJ) (u:tA):Prop where
 I:Dq k q
 o:∃mp,q.bQ.o=some mp/\mp.g.m=m
 us:q.us=some u
def SvQ.nu {q:gH}(h:SvQ k q m u):J0 q.most m u:=by obtain⟨mp,h1,rfl⟩:=h.o;obtain⟨m',u',e1,e2,e3,_⟩:=h.I.at_ (by rw[h1];exact Option.some_ne_none _);rw[h1]at e1;rw[h.us]at e2;cases e1;cases e2;exact e3
def atE {A B:Int}(hA:bF m.w m.h A)(hB:bF m.w m.h B):Du ⟨6,A,B,[]⟩=true:=by have:=IP hA;have:=IP hB;exact(zV (by simp) (by omega) (by omega) (λh=>absurd h (by decide)) λh=>absurd h (by decide)).may
def ars {q:gH}(h:SvQ k q m u)(ht:bF m.w m.h t)(hx:bF m.w m.h x):SvQ (k+1) (iG q ⟨6,t,x,[]⟩).1 m u/\(iG q ⟨6,t,x,[]⟩).2=⟨0,D m t x,kI m t x,-1,[],[]⟩:=by obtain⟨mp,h1,rfl⟩:=h.o;have hi:=acR h.I (lA (k:=6) (A:=t) (B:=x) (by decide));rw[ag0 (atE ht hx) (show(6:Int)≠0/\(6:Int)≠1/\(6:Int)≠8 by decide) h1 h.us]at hi⊢;unfold Mi at hi⊢;rw[if_neg (show¬(6:Int)=2 by decide),if_neg (show¬(6:Int)=3 by decide),if_neg (show¬(6:Int)=4 by decide),if_neg (show¬(6:Int)=5 by decide),if_pos rfl,if_pos ⟨ht,hx⟩]at hi⊢;obtain⟨TN,e1,e2⟩:=AY h1 t (cU mp.g.m x);exact⟨⟨hi,⟨TN,e1,by rw[e2]⟩,rfl⟩,rfl⟩
def TQ {Q:Int->Int->Bool->World->Prop}(hL:iQ W lg)(h:SvQ k y.p m u)(hk:k<1000000000)(ht:bF m.w m.h t)(hx:bF m.w m.h x)(s:Sep No W w (fW r y::L))
  (g:∀r' y' w',r'.p=r.p->SvQ (k+1) y'.p m u->Sep No W w' (fW r' y'::L)->Q (D m t x) (kI m t x) true w'):qg (sZ r.p) t x w Q:=by
 refine M6 _ _ _ _ _ ?_;obtain⟨h1,h2⟩:=ars h ht hx;refine acQ (o:=⟨6,t,x,[]⟩) hL (lA (by decide)) (λw' s'=>zM) (h.I.sm hk) s λr' y' ma mn mc ga gn gc p w er ey s=>?_;rw[h2]at s;rw[<-ey]at h1;have s:=ay s;refine lI s 0 rfl (lI s 0 rfl (lI s 0 rfl ?_));refine⟨cg s 0 rfl,cg s 0 rfl,cg s 0 rfl,?_⟩;exact g r' y' _ er h1 (ai (ai (ai s)))
def art {q:gH}{mp:bJ}{o:kW}:(Mi q mp u o).1.most=q.most:=by
 unfold Mi
 repeat' split
 all_goals rfl
def aru {q:gH}{o:kW}:(iG q o).1.most=q.most:=by
 unfold iG
 repeat' split
 all_goals first|rfl|exact art
def ajx:∀(os:List kW) {q:gH},(Ih q os).most=q.most
 |[],q=>rfl
 |o::os,q=>(ajx os).trans aru
def ajy {Q:Option Addr->World->Prop}{most mw mh:Int}{cs:List Int}{xs:List xJ}(hk:1<=k/\k<=100000)(hm:1<=most/\most<=65536)(hL:iQ w lg)(hC:Sl w ca cn cc 1 bq cs)(hcs:dZ cs)(QS:cn<9223372036854775808)(hA:Sl w la ln lc 3 O.aaJ xs)
  (hl:ln<=60)(h:∀r y m u w',SvQ 100 y.p m u->y.p.most=most->Sep No w w' [fW r y]->Q (sZ r.p) w'):uT k most mw mh ca cn cc la ln lc w Q:=by
 refine Lw _ _ _ _ _ _ _ _ _ _ _ _ ?_;refine TO hk hm (bh (F:=No) (w:=w)) λr y w1 ey s=>kX ?_;refine O.aeG s (hC.fr (au s)) hcs QS (hA.fr (au s)) λxa xn xc w1 A s f ⟨vs,hX⟩=>?_;have hin:=apy (w:=mw) (h:=mh) hcs xs;have hup:=λi hi=>apA (w:=mw) (h:=mh) hcs xs (amR k most) (i:=i) hi;have hl1:=alr mw mh cs xs;have h0:0<(AW mw mh cs xs).length:=by unfold AW;simp
 generalize AW mw mh cs xs=X at*;have hXl:=(hX s).2.1;have hI:∀i:Nat,i<=xn->Dq i (Ih (amR k most) (X.take i)):=λi hi=>by have:=ast (X.take i) (ass (k:=k) hm) λo ho=>hin o (List.mem_of_mem_take ho);rw[List.length_take,Int.zero_add,show min i X.length=i by omega]at this;exact this
 have loop:∀(j i:Nat) (w2:World) (r:Eh) (y:zE),i+j=xn->y.p=Ih (amR k most) (X.take i)->Sep No w w2 [fW r y,A]->rq Q (j+1) (sZ r.p) xa xn xc i w2:=by
  intro j;induction j with
  |zero=>
   intro i w2 r y hi hy s;show nN _ _ _ _ _ _ _ _;unfold nN;rw[bp];obtain⟨mp,u,e1,e2,e3,e4⟩:=(hI i (by omega)).at_ (hup i (by omega));have ho:y.p.bQ.o=some mp:=by rw[hy];exact e1
   obtain⟨m,o1,o2⟩:=GV (y:=y.bQ) (mp:=mp) ho;have eg:m.g=mp.g:=congrArg vN.g o2;refine TP o1 s λra rn rc w s _=>?_;have hB:=aO s (i:=0) rfl cY (by decide);rw[eg]at hB⊢;refine ajw e3.may hB s λw s _=>?_;rw[Bool.not_true,cond_false];have hq:=hI i (by omega);have hmo:y.p.most=most:=by rw[hy];exact ajx _
   rw[<-hy]at hq e2;exact h r y mp.g.m u w ⟨hq.mono (by omega),⟨mp,ho,rfl⟩,e2⟩ hmo (pk 3 [1] s)
  |succ j ih=>
   intro i w2 r y hi hy s;show nN _ _ _ _ _ _ _ _;unfold nN;rw[bM];have hIi:=hI i (by omega);have ho:X[i]? =some (X[i]'(by omega)):=List.getElem?_eq_getElem _;generalize X[i]'(by omega)=o at ho;have ayI:=hin o (List.mem_of_getElem? ho);refine(hX (i_ s)).El rfl ho λp va vn vc hv hc=>?_;refine aR (hc 0 _ rfl) (aR (hc 1 _ rfl) (aR (hc 2 _ rfl) (dy (hc 3 _ rfl) ?_)));refine W2 (o:=o) hL ayI (λw' s'=>((hX s').2.2 i _ o hv ho).m) (by rw[hy];exact hIi.sm (by omega)) s λr' y' ma mn mc ga gn gc w er ey s=>?_;rw[Mc (by omega),<-er];exact ih (i+1) w r' y' (by omega) (by rw[ey,hy,arp (by omega) ho]) (ai (ai s))
 exact⟨xn+1,loop xn 0 w1 r y (by omega) ey (i_ s)⟩
end
def aaK:∀(N:Nat) (l:List Int),l.Nodup->(∀x∈l,0<=x/\x<N)->l.length<=N
 |0,[],_,_=>Nat.le_refl _
 |0,x::l,_,h=>by have:=h x (by simp);omega
 |N+1,l,hn,h=>by
  by_cases hN:(N:Int)∈l
  ·have h1:=aaK N (l.erase N) (hn.erase _) λx hx=>by have hx:=(hn.mem_erase_iff).1 hx;have:=h x hx.2;omega
   rw[List.length_erase_of_mem hN]at h1;omega
  ·have:=aaK N l hn λx hx=>by have:=h x hx;have:x≠N:=λe=>hN (e▸hx);omega
   omega
section
variable {F:Nat->Prop}{W w w0:World}{L:List As}{lg:xE}{r:Eh}{y:zE}{m:bJ}{u:tA}{k t x:Int}
def Jj (hm:cP m):(kI m t x=5/\D m t x=bS)\/(kI m t x=4/\x=t/\D m t x=0)\/((0<=kI m t x/\kI m t x<=3)/\D m t x<bS/\x≠t):=by
 by_cases hD:D m t x<bS
 ·by_cases hx:x=t
  ·refine .inr (.inl ⟨?_,hx,?_⟩)
   ·unfold kI;rw[if_neg (by omega),if_pos hx]
   ·obtain⟨d,hd⟩:=(Bp hm).1 hD;rw[hx];exact anP (adY hd).2
  ·exact .inr (.inr ⟨(Xc hm hD hx).1,hD,hx⟩)
 ·have e:=Xb (m:=m) (t:=t) (x:=x) λh=>hD ((Bp hm).2 h);refine .inl ⟨?_,e⟩;unfold kI;rw[if_pos e]
def amT (hm:cP m):0<=D m t x/\(D m t x=bS\/D m t x<=254*(m.w*m.h-1)):=by
 by_cases hD:D m t x<bS
 ·obtain⟨d,hd⟩:=(Bp hm).1 hD;exact⟨(aih hm hd).1,.inr (aih hm hd).2⟩
 ·have e:=Xb (m:=m) (t:=t) (x:=x) λh=>hD ((Bp hm).2 h);rw[e];exact⟨by decide,.inl rfl⟩
def alc (hm:cP m)(hx:bF m.w m.h x):cL m x=gi m.cs x.toNat:=by have:=hx.2;have:=hm.len;unfold cL;rw[if_pos (by omega)]
def atG (hm:cP m)(hx:bF m.w m.h x):eZ m x=true↔gi m.cs x.toNat≠255:=by have h1:=hx.2;have h2:=hm.len;have:=hm.jA _ (ff (l:=m.cs) (i:=x.toNat) (by omega));unfold eZ;rw[alc hm hx];simp;omega
def akh {K:Addr->World->Prop}(h:SvQ k y.p m u)(s:Sep No W w (fW r y::L))
  (g:∀(vb:Nat) (ra:Option Addr) (rn rc:Nat) w',(rn:Int)=m.w*m.h->Sep No W w' (av vb 25 [ae m.w,ae m.h,.slice ra rn rc]::ak ra rn rc 5 1 (flat bq m.cs)::fW r y::L)->K (aZ vb) w'):
  n7 (sZ r.p) w λq r s t u w=>Al T 25 w λv w=>St (v.add 0) (ae q) w λw=>St (v.add 1) (ae r) w λw=>St (v.add 2) (.slice s t u) w λw=>K v w:=by
 have hn:=h.nu;obtain⟨mp,ho,rfl⟩:=h.o;obtain⟨m,o1,o2⟩:=GV (y:=y.bQ) (mp:=mp) ho;have eg:m.g=mp.g:=congrArg vN.g o2;refine TP o1 s λra rn rc w s _=>?_;rw[eg]at s⊢;have hl:=(aO s (i:=0) rfl cY (by decide)).len;have:=hn.may.len;refine aT s λvb w s=>?_;rw[ayz]at s
 iterate 3 refine sT s 0 rfl λw s=>?_
 exact g vb ra rn rc w (by omega) s
end
section
variable {W w:World}{L:List As}{lg:xE}{ca la a:Option Addr}{cn cc ln lc vb n c:Nat}{m:bJ}{u:tA}{t:Int}
def arv {Q:Bool->World->Prop}(hL:iQ W lg)(hm:cP m)(ht:bF m.w m.h t)(hn:(n:Int)=m.w*m.h)(hf:m.w*m.h<=1600)(hQ:∀w',Sep No W w' []->Q true w'):
  ∀(j:Nat) (x k:Int) (YT:List Int) (w:World) (r:Eh) (y:zE),bF m.w m.h x->(D m t x<bS->D m t x<=j)->(x::YT).Nodup->(∀v∈YT,bF m.w m.h v/\(D m t x<bS->D m t x<D m t v))->SvQ k y.p m u->k+j<900000000->
   Sep No W w [fW r y,av vb 25 [ae m.w,ae m.h,.slice a n c],ak a n c 5 1 (flat bq m.cs)]->
   qt Q (j+1) (sZ r.p) (aZ vb) t x (D m t x) (kI m t x) (YT.length:Int) w:=by
 intro j;induction j with
 |zero=>
  intro x k YT w r y hx hj hv ajz hq hk s;show m8 _ _ _ _ _ _ _ _ _ _;unfold m8;have hd:¬kI m t x<=3:=λh=>by
   rcases Jj (t:=t) (x:=x) hm with h1|h1|⟨h1,h2,h3⟩
   ·omega
   ·omega
   ·obtain⟨d,hd⟩:=(Bp hm).1 h2;have:=av2 hd h3;have:=hj h2;omega
  rw[bp hd];refine YS (hL.fr (au s)) s λw s _=>?_;rw[cond_true];have s:=bR (bh (F:=No)) (au s);rcases Jj (t:=t) (x:=x) hm with⟨h1,_⟩|⟨h1,h2,h3⟩|h1
  ·rw[cV h1,cond_true];exact hQ w s
  ·rw[cy (by omega),cond_false,cV h1,cond_true,cV h2,cond_true,cV h3];exact hQ w s
  ·omega
 |succ j ih=>
  intro x k YT w r y hx hj hv ajz hq hk s;show m8 _ _ _ _ _ _ _ _ _ _;unfold m8;by_cases hd:kI m t x<=3
  ·rw[bM hd];rcases Jj (t:=t) (x:=x) hm with h1|h1|⟨h1,h2,h3⟩
   ·omega
   ·omega
   obtain⟨q1,q2,q3⟩:=(Xc hm h2 h3).2.1;have hl:=uR q1;have hnc:=(uR q1).2;have hwh:=mU ⟨hm.w,hm.h⟩;have hlen:=hm.len;have aAQ:=hnc.2;have hop:=(atG hm hnc).1 q2;have Pa:=alc hm hnc;have hcp:=zP q2;have hle:(YT.length:Int)+1<=m.w*m.h:=by
    have:=aaK n (x::YT) hv λv G8=>by
     rcases List.mem_cons.1 G8 with rfl|G8
     ·have:=hx.2;omega
     ·have:=(ajz v G8).1.2;omega
    rw[List.length_cons]at this;omega
   have hB:=amT (t:=t) (x:=x) hm;have hdn:=amT (t:=t) (x:=a_ m.w m.h x (kI m t x)) hm;refine lI s 1 rfl (lI s 1 rfl ?_);refine ju s λw s _=>?_;generalize kI m t x=d at*;generalize hz:a_ m.w m.h x d=z at*;rw[bp];refine lS s 1 rfl ?_;rw[bp];refine lS s 1 rfl ?_;have hM:=aO s (i:=2) rfl cY (by decide);refine hM.AD (k:=z.toNat) (by omega) (by omega) ?_;rw[cy hop,cond_false];refine lS s 1 rfl ?_;rw[bp];refine lS s 1 rfl ?_;refine hM.AD (k:=z.toNat) (by omega) (by omega) ?_;rw[<-Pa];refine TQ hL hq (by omega) ht hnc s λr' y' w er IF s=>?_;rw[Bool.not_true,cond_false];have h5:bS=1099511627776:=rfl;have e1:IntKind.wrap .i64 (cL m z)=cL m z:=aG;have e2:IntKind.wrap .i64 (D m t x-cL m z)=D m t z:=by rw[aG];omega
   have e3:IntKind.wrap .i64 ((YT.length:Int)+1)=((x::YT).length:Int):=by rw[aG,List.length_cons];omega
   rw[e1,e2,e3,Es rfl,cond_false,<-er];have hzx:D m t z<D m t x:=by omega
   have:=hj h2;refine ih z (k+1) (x::YT) w r' y' hnc (λ_=>by omega) (List.nodup_cons.2 ⟨λhm'=>?_,hv⟩) (λv G8=>?_) IF (by omega) s
   ·rcases List.mem_cons.1 hm' with e|hm'
    ·rw[e]at hzx;omega
    ·have:=(ajz z hm').2 h2;omega
   ·rcases List.mem_cons.1 G8 with rfl|G8
    ·exact⟨hx,λ_=>hzx⟩
    ·exact⟨(ajz v G8).1,λ_=>by have:=(ajz v G8).2 h2;omega⟩
  ·rw[bp hd];refine YS (hL.fr (au s)) s λw s _=>?_;rw[cond_true];have s:=bR (bh (F:=No)) (au s);rcases Jj (t:=t) (x:=x) hm with⟨h1,_⟩|⟨h1,h2,h3⟩|h1
   ·rw[cV h1,cond_true];exact hQ w s
   ·rw[cy (by omega),cond_false,cV h1,cond_true,cV h2,cond_true,cV h3];exact hQ w s
   ·omega
def ajA {Q:Bool->World->Prop}{kk mw mh goal cell:Int}{cs:List Int}{xs:List xJ}(hL:iQ W lg)(hC:Sl W ca cn cc 1 bq cs)(hcs:dZ cs)(QS:cn<9223372036854775808)(hA:Sl W la ln lc 3 O.aaJ xs)(hQ:∀w',Sep No W w' []->Q true w'):
  BQ kk mw mh ca cn cc la ln lc goal cell W Q:=by
 refine Lx _ _ _ _ _ _ _ _ _ _ _ _ _ ?_;refine Hp.bT (by decide) (by decide) (by decide) ?_;refine apw (k:=12) hA λa1 c1 hA=>?_;have hk:1<=1+kk%(3-1+1)/\1+kk%(3-1+1)<=100000:=by omega
 refine ajy hk (by decide) hL hC hcs QS hA (by omega) λr y m u w hq _ s=>kX ?_;have hn:=hq.nu;have hm:=hn.may;have hwh:=mU ⟨hm.w,hm.h⟩;refine akh hq s λvb ra rn rc w hrn s=>?_;refine lS s 0 rfl (lS s 0 rfl ?_);have s:=ay s;rw[aG];refine Hp.bT (by omega) (by decide) (by omega) ?_;refine⟨cg s 0 rfl,?_⟩;refine Hp.bT (by omega) (by decide) (by omega) ?_;have h1:=Int.emod_nonneg goal (b:=(rn:Int)-1-0+1) (by omega);have h2:=Int.emod_lt_of_pos goal (b:=(rn:Int)-1-0+1) (by omega);have h3:=Int.emod_nonneg cell (b:=(rn:Int)-1-0+1) (by omega);have h4:=Int.emod_lt_of_pos cell (b:=(rn:Int)-1-0+1) (by omega);have ht:bF m.w m.h (0+goal%((rn:Int)-1-0+1)):=⟨⟨hm.w,hm.h⟩,by omega,by omega⟩;have hx:bF m.w m.h (0+cell%((rn:Int)-1-0+1)):=⟨⟨hm.w,hm.h⟩,by omega,by omega⟩;generalize 0+goal%((rn:Int)-1-0+1)=t at*;generalize 0+cell%((rn:Int)-1-0+1)=x at*;have s:=pk 3 [2,0,1] s;refine TQ hL hq (by decide) ht hx s λr' y' w er hq s=>?_;rw[Bool.not_true,cond_false];have hD:=amT (t:=t) (x:=x) hm;have h5:bS=1099511627776:=rfl;have hf:=hn.nv;rw[bp];have e:(kI m t x==5)=(D m t x==1099511627776):=by
  rcases Jj (t:=t) (x:=x) hm with h|h|h
  ·rw[cV h.1,cV (show D m t x=1099511627776 from h.2)]
  ·rw[cy (by omega),cy (by omega)]
  ·rw[cy (by omega),cy (by omega)]
 rw[e,beq_self_eq_true,Bool.not_true,cond_false,<-er];obtain⟨j,j1,j2⟩:∃j:Nat,(D m t x<bS->D m t x<=j)/\j<800000000:=⟨if D m t x<bS then(D m t x).toNat else 0,by split<;>omega⟩;exact⟨_,arv hL hm ht hrn hf hQ j x _ [] w r' y' hx j1 (by simp) (λv hv=>by cases hv) hq (by omega) s⟩
end
end Go.Proofs.YtmegplnmiepfbaaGreatDoor.S
namespace Go.Proofs.YtmegplnmiepfbaaGreatDoor.S
open Go.Sx
def ca (q:pN):Int:=q.past.a+(WY q).a
def cb (q:pN):Int:=q.past.b+(WY q).b
def cc (q:pN):Int:=q.past.c+q.sh.b
def cd (q:pN):Int:=q.past.d+q.sh.h
structure CtI (B:Int) (q:pN):Prop where
 p:0<=q.past.a/\0<=q.past.b/\0<=q.past.c/\0<=q.past.d
 n:0<=(WY q).a/\0<=(WY q).b
 s:0<=q.sh.b/\0<=q.sh.h
 le:ca q<=B/\cb q<=B/\cc q<=B/\cd q<=B
 vs:∀mp,q.o=some mp->(mp.S7.length:Int)<=eI mp.g.m.w mp.g.m.h/\(mp.g.vs.length:Int)<=eI mp.g.m.w mp.g.m.h
structure Gr (q q':pN) (n p:Int):Prop where
 a:ca q'<=ca q+n
 b:cb q'<=cb q+p
 c:cc q'<=cc q+p
 d:cd q'<=cd q+p
set_option maxRecDepth 20000
section
variable {B t n p:Int}{q:gH}{mp:vN}{u:tA}{o:kW}
structure aA_ (B:Int) (q q':pN) (w h d U:Int):Prop where
 c:CtI B q'
 g:Gr q q' (eI w h) (U+1)
 d:0<=d/\(d=bS\/d<=254*(w*h-1))
end
end Go.Proofs.YtmegplnmiepfbaaGreatDoor.S
set_option maxRecDepth 20000
namespace Go.Proofs.YtmegplnmiepfbaaGreatDoor.S
open Go.Sx
attribute [local irreducible] af cD bw bg aA cu bZ St Bx Al App cH cA cz bX aL bD aq bU av ak aW mapA
def gb (ws:List Bool)(k:Nat):Bool:=ws.getD k false
structure ayJ (w h:Int) (us:List aV) (ws:List Bool) (N:Nat):Prop where
 len:ws.length=N
 at_:∀c,bF w h c->gb ws c.toNat=stand us c
section
variable {W:World}{lg:xE}{r:Eh}{y:zE}{a ua ia ma ga xa:Option Addr}{vb an n c un uc ic mn mc gn gc xn xc:Nat}{fR:FE}{m:bJ}{us:List aV}{M:List (Int×Int)}{G ds:List Int}{tk dd:Int}
structure TkI (m:bJ) (us:List aV) (ds:List Int) (M:List (Int×Int)) (G:List Int) (n i:Nat) (done:List aV) (todo:List (aV×Int)) (mv:List (Int×Int)) (gs:List Int) (ws:List Bool):Prop where
 td:todo=(us.zip ds).drop i
 M:M=mv++(dh m.w m.h done todo).2.1
 G:G=gs++(dh m.w m.h done todo).2.2
 U:nP m.w m.h (done++todo.map (·.1))
 W:ayJ m.w m.h (done++todo.map (·.1)) ws n
 mv:mv.length<=i
 gs:gs.length<=i
end
end Go.Proofs.YtmegplnmiepfbaaGreatDoor.S
namespace Go.Proofs.YtmegplnmiepfbaaGreatDoor.S
open Go.Sx
def nx (q:gH):Int:=match q.us with|some u=>u.next|none=>0
def Tf (q:gH):List Int:=match q.us with|some u=>u.us.map (·.id)|none=>[]
inductive aBW (q q':gH) (o:kW) (a:aaI):Prop
 |load (hk:o.k=1) (hc:a.code=0) (hm:a.GX=[]) (hg:a.gone=[]) (hn:nx q'=0) (hi:Tf q'=[])
 |spawn (hk:o.k=3) (hc:a.code=0) (zO:a.id=nx q) (hm:a.GX=[]) (hg:a.gone=[]) (hn:nx q'=nx q+1) (hi:Tf q'=Tf q++[nx q])
 |drop (hk:o.k=5/\a.code=0\/o.k=4/\a.code=13) (hm:a.GX=[]) (hg:a.gone=[]) (hn:nx q'=nx q) (hA:o.A∈Tf q) (hi:Tf q'=(Tf q).filter λx=>!decide (x=o.A))
 |none (h1:¬(o.k=1/\a.code=0)) (h3:¬(o.k=3/\a.code=0)) (h5:¬(o.k=5/\a.code=0)) (h4:¬(o.k=4/\a.code=13)) (hm:∀p∈a.GX,p.1∈Tf q) (hn:nx q'=nx q) (hp:(Tf q'++a.gone).Perm (Tf q))
structure aBa (S:List Int) (lv:List Bool):Prop where
 len:lv.length=60
 at_:∀i:Nat,i<60->gb lv i=decide ((i:Int)∈S)
def below (S:List Int)(p:Nat):Nat:=(S.filter λx=>decide (x<(p:Int))).length
end Go.Proofs.YtmegplnmiepfbaaGreatDoor.S
set_option maxRecDepth 20000
namespace Go.Proofs.YtmegplnmiepfbaaGreatDoor.S
open Go.Sx
attribute [local irreducible] af cD bw bg aA cu bZ St Bx Al App cH cA cz bX aL bD aq bU av ak aW mapA
end Go.Proofs.YtmegplnmiepfbaaGreatDoor.S
namespace Go.Proofs.YtmegplnmiepfbaaGreatDoor.S
open Go.Sx
abbrev two (N c0 c1:Int):List aV:=[⟨0,c0,N-1⟩,⟨1,c1,0⟩]
end Go.Proofs.YtmegplnmiepfbaaGreatDoor.S
set_option maxRecDepth 20000
namespace Go.Proofs.YtmegplnmiepfbaaGreatDoor.S
open Go.Sx
attribute [local irreducible] af cD bw bg aA cu bZ St Bx Al App cH cA cz bX aL bD aq bU av ak aW mapA
end Go.Proofs.YtmegplnmiepfbaaGreatDoor.S
namespace Go.Sx
open Go.ChangeShapes Go.WideShapes Go.RowKit
def apB (X:World->Prop)(P:Program)(f:FuncId)(UZ:List Sh):Prop:=
 ∀(W:World) (args:List Value),X W->wP W UZ args->aq P f args.toArray W λv W'=>dB v λr=>r=true/\Below W.heap.size W W'
def avQ {H:Type}{enc:TypeId×Value->H}{C:Checked}{os:Os}{f:FuncId}{fn:Func}{s:ChangeSpec}{conds:List PathCond}{ts:List TypeId}{UZ:List Sh}{tb:TypeId}{fuel:Nat}{X:World->Prop}
  (hX:∀w w':World,w.heap=w'.heap->X w->X w')
  (own:ownKnob C.prog.godebug=none)(started:os.Started)(noInit:C.prog.inits.idxOf? f=none)(hfn:C.prog.funcs[f]? =some fn)
  (witness:∃(w:World) (tape:Tape) (i:Input),w.os=os/\(w.forCall tape i).Shaped C.prog/\i.vars=[]/\Input.okWide C.prog (w.forCall tape i) .any w.heap.size f i/\
   ((s.pre enc C.prog fn conds false (w.forCall tape i).memory i.args/\X (w.forCall tape i).memory)/\sizedMet enc C.prog fn (OpenSpec.ofChange s) false (w.forCall tape i).memory i.args)/\({}:Assume).holds C.prog (lone (Frame.enter C.prog f i.args .normal) [] (w.forCall tape i)))
  (hl:laidOutB C.prog=true)(hts:fn.params.toList=ts)(ayK:ts.map (KT C.prog fuel)=UZ.map some)(hrd:(ts.all λt=>C.prog.readableRec t&&decide (t<C.prog.types.size))=true)
  (hvars:s.vars=[])(hres:fn.resultTypes=#[tb])(htb:C.prog.underlying tb=some .bool)
  (hspec:∀(ds:List (DataW H)),ds.length=ts.length->s.fn H ds={results:=[.lit (.bool true)],args:=ds})
  (law:apB X C.prog f UZ):
  ReturnsInHanded {} C os f .any (λw args=>(s.pre enc C.prog fn conds false w args/\X w)/\sizedMet enc C.prog fn (OpenSpec.ofChange s) false w args) (s.post enc C.prog fn false true false false):=by
 apply returnsInHanded_of_change_and (λw w' _ hh h=>hX w w' hh h) own started noInit hfn witness;intro W base args ds gs before hval hW _ _ hXW _;have hW':=hW;obtain⟨p,q,hA,hV,rfl,hfz,hnd⟩:=hW;rw[hvars]at hV;obtain⟨rfl,rfl⟩:=trodVars_none hV;rw[hts]at hA;have avM:=aho ayK (λj t v ht hv=>hval j t v (by grind) (by grind)) hA;have hlt:∀x∈p,x.block<W.heap.size:=λx hx=>hW'.lt x (by simp[hx]);have hc:=law W args.toList hXW avM;unfold aq at hc;refine hc.mono λe W' he=>?_;cases e with
 |returned v=>
  obtain⟨r,rfl,rfl,bel⟩:=Hs he;have hsp:=hspec ds (O9 hA);refine⟨_,rfl,ds,[],p++[],[],p,[],hW',?_,?_,?_,bel.frame _,λh=>by cases h⟩
  ·rw[List.append_nil,hsp,hres];exact trodAll_mk1 (shut_bool htb _)
  ·rw[List.append_nil,hsp,hts];exact Tm hl bel hrd hA hlt
  ·rw[List.append_nil,hsp,hvars];simp[DataW.TrodVars]
 |_=>exact he.elim
end Go.Sx
namespace Go.Proofs.YtmegplnmiepfbaaGreatDoor.S
open Go.Sx
def asv: "*"++ "errors.errorString"= "*errors.errorString":=by decide
def ayL (u:TypeId)(h:P.typeName? 3 u=some "*errors.errorString"):u=401:=
 typeName_ptr_named (by rw[asv];kernel_rfl) (by kernel_rfl) (by decide) u (by rw[asv];exact h)
def avN:P.cellsOf 422=1:=by kernel_rfl
def arw:P.cellsOf 9=1:=by kernel_rfl
def RowsIn (W:World)(ps:List MemPlace):Prop:=∀b off,MemPlace.cell b off∈ps->(∃c t,W.heap[b]? =some (.cells c t (0,0)))/\∀u v,W.cell? ⟨b,off,none⟩=some (.iface u v)->Value.okWide P W .any 0 u v
set_option maxRecDepth 100000 in
theorem Ii {W:World}{n:String}{g:Nat}{text:List UInt8}{rest:List (String×DataW Unit)}{ps:List MemPlace}(hg:P.globalNamed n=some g)(ht:(P.globals[g]?).map (·.type)=some 74)
  (h:DataW.LaidVars P W ((n,.iface "*errors.errorString" (.ptr (.agg [.lit (.string text)])))::rest) ps)(hr:RowsIn W ps):
  ∃a q,W.cell? ⟨g,0,none⟩=some (.iface 401 (.pointer (some a)))/\(∃c t,W.heap[a.block]? =some (.cells c t (0,0)))/\DataW.LaidVars P W rest q/\RowsIn W q/\ps=.cell g 0::.cell a.block a.off::q:=by
 obtain⟨g0,t0,cs,f,p,q,hg0,ht0,hv,hd,hq,rfl⟩:=h;obtain rfl:=Option.some.inj (hg.symm.trans hg0);obtain rfl:=Option.some.inj (ht.symm.trans ht0);obtain⟨l⟩:=cs;have ok:∀u v,l=[.iface u v]->Value.okWide P W .any 0 u v:=λu v e=>by subst e;exact(hr g 0 (by simp[MemPlace.row])).2 u v (by simpa using World.var?_cell hg hv 0)
 obtain⟨a,s,rfl,hc,hs,hz,rfl⟩:=errorString_of_trod Go.Proofs.Tryz.underlying74 ayL Go.Proofs.Tryz.underlying401 Go.Proofs.Tryz.underlying422 rfl rfl Go.Proofs.Tryz.underlying9 avN arw hd ok;refine⟨a,q,by simpa using World.var?_cell hg hv 0,(hr a.block a.off (by simp[MemPlace.row])).1,hq,λb off hm=>hr b off (by simp[hm]),by simp[MemPlace.row]⟩
def amU:List (String×DataW Unit):=[("errors.errorType",Rows.laid_errors_errorType),("herdsman/pack.errEnd",Rows.laid_herdsman_pack_errEnd),("herdsman/pack.errForm",Rows.laid_herdsman_pack_errForm),("herdsman/nav.errNoMap",Rows.laid_herdsman_nav_errNoMap),("herdsman/nav.errBounds",Rows.laid_herdsman_nav_errBounds),("herdsman/nav.errField",Rows.laid_herdsman_nav_errField),("herdsman/svc.errScript",Rows.laid_herdsman_svc_errScript)]
def g1:P.globalNamed "errors.errorType"=some 1:=by kernel_rfl
def rtT:(P.cutTypes.find? (·.1== "internal/reflectlite.rtype")).map (·.2)=some 219:=by kernel_rfl
def avO:((List.range P.types.size).filter λt=>P.rowNamed t [101,114,114,111,114])=[74]:=by kernel_rfl
set_option maxRecDepth 100000 in
theorem arx {W:World}(h:laidMetH P amU W):∃lg,iQ W lg:=by
 have h':laidMet P [("herdsman/pack.errEnd",Rows.laid_herdsman_pack_errEnd),("herdsman/pack.errForm",Rows.laid_herdsman_pack_errForm),("herdsman/nav.errNoMap",Rows.laid_herdsman_nav_errNoMap),("herdsman/nav.errBounds",Rows.laid_herdsman_nav_errBounds),("herdsman/nav.errField",Rows.laid_herdsman_nav_errField),("herdsman/svc.errScript",Rows.laid_herdsman_svc_errScript)] W/\handlesMet P [("errors.errorType",Rows.laid_errors_errorType)] W:=h;obtain⟨⟨ps,hv,hnd,hr⟩,hh⟩:=h';obtain⟨name,u,ty,e1,e2,e3,e4,e5⟩:=hh _ (List.mem_singleton.2 rfl);have en:=(Option.some.inj e1).symm;subst en;obtain rfl:=Option.some.inj (rtT.symm.trans e2);have hm:ty∈(List.range P.types.size).filter λt=>P.rowNamed t [101,114,114,111,114]:=List.mem_filter.2 ⟨List.mem_range.2 e3,e4⟩;rw[avO]at hm;obtain rfl:=List.mem_singleton.1 hm;have ht:typeHandle P 74=.pointer (some ⟨8,74,none⟩):=by kernel_rfl
 rw[ht]at e5;have hr:=hr;obtain⟨a6,q6,v6,b6,hv1,hr1,k6⟩:=Ii (g:=6) (by kernel_rfl) (by kernel_rfl) hv hr;obtain⟨a5,q5,v5,b5,hv2,hr2,k5⟩:=Ii (g:=5) (by kernel_rfl) (by kernel_rfl) hv1 hr1;obtain⟨a2,q2,v2,b2,hv3,hr3,k2⟩:=Ii (g:=2) (by kernel_rfl) (by kernel_rfl) hv2 hr2;obtain⟨a3,q3,v3,b3,hv4,hr4,k3⟩:=Ii (g:=3) (by kernel_rfl) (by kernel_rfl) hv3 hr3;obtain⟨a4,q4,v4,b4,hv5,hr5,k4⟩:=Ii (g:=4) (by kernel_rfl) (by kernel_rfl) hv4 hr4;obtain⟨a0,q0,v0,b0,hv6,hr6,k0⟩:=Ii (g:=0) (by kernel_rfl) (by kernel_rfl) hv5 hr5;subst k0 k4 k3 k2 k5 k6;refine⟨⟨a0,a2,a3,a4,a5,a6⟩,v0,by simpa[rt]using World.var?_cell g1 e5 0,v2,v3,v4,v5,v6,?_,?_,b2,b3,b5,b6⟩
 all_goals grind
end Go.Proofs.YtmegplnmiepfbaaGreatDoor.S
namespace Go.Proofs.YtmegplnmiepfbaaGreatDoor.S
open Go.Sx
def avP:Sh:=.agg 3 [(0,1,.int .i64),(1,1,.int .i64),(2,1,.int .i64)]
def ary {W:World}{v:Value}(h:RdV W (.sl 3 avP) v):∃a n c xs,v=.slice a n c/\n<=maxLen/\Sl W a n c 3 O.aaJ xs:=by
 obtain⟨a,n,c,xs,rfl,k1,k2,k3,k4,k5⟩:=ako (f:=O.aaJ) (Pr:=λ_=>True) (λes hl he=>by
  obtain⟨_,he⟩:=at5 he
  match es,hl with
  |[v0,v1,v2],_=>
   obtain⟨k0,he⟩:=Y6 he;obtain⟨k1,he⟩:=Y6 he;obtain⟨k2,he⟩:=Y6 he;obtain⟨x0,rfl,_⟩:=U0 k0;obtain⟨x1,rfl,w1⟩:=U0 k1;obtain⟨x2,rfl,w2⟩:=U0 k2;exact⟨⟨x0,x1,x2⟩,rfl,trivial⟩) h
 exact⟨a,n,c,xs,rfl,by omega,k4,k1,k3⟩
def awC:apB (laidMetH P amU) P 5 [.int .i64,.int .i64,.int .i64,.sl 1 (.int .u8),.sl 3 avP,.int .i64,.int .i64]:=by intro W args hX h;obtain⟨lg,hL⟩:=arx hX;obtain⟨v0,r,rfl,h0,h⟩:=wP.cons h;obtain⟨v1,r,rfl,h1,h⟩:=wP.cons h;obtain⟨v2,r,rfl,h2,h⟩:=wP.cons h;obtain⟨v3,r,rfl,h3,h⟩:=wP.cons h;obtain⟨v4,r,rfl,h4,h⟩:=wP.cons h;obtain⟨v5,r,rfl,h5,h⟩:=wP.cons h;obtain⟨v6,r,rfl,h6,h⟩:=wP.cons h;obtain rfl:=wP.nil h;obtain⟨x0,rfl,_⟩:=O_ h0;obtain⟨x1,rfl,_⟩:=O_ h1;obtain⟨x2,rfl,_⟩:=O_ h2;obtain⟨a,n,c,cs,rfl,q1,q2,q3,q4,q5⟩:=ap0 h3;obtain⟨b,m,d,xs,rfl,k1,k2⟩:=ary h4;obtain⟨x5,rfl,_⟩:=O_ h5;obtain⟨x6,rfl,_⟩:=O_ h6;exact ajA (Q:=λr W'=>r=true/\Go.RowKit.Below W.heap.size W W') hL ⟨q4,q1,q3⟩ (λx hx=>wf_u8 (q5 x hx)) (by simp only[maxLen]at*;omega) k2 λw' s=>⟨rfl,ann s⟩
def aeI (l:List UInt8):Obj:=.cells #[.string {data:=l.toArray}] 422 (0,0)
noncomputable def low:Nat:=(World.holding P default ⟨#[],#[],[]⟩).heap.size
def aaL (v:Value):Obj->Obj
 |.cells _ t fz=>.cells #[v] t fz
 |o=>o
noncomputable def aeJ (k:Nat):Value:=.iface 401 (.pointer (some ⟨low+k,0,none⟩))
noncomputable def awD (os:Os):World:=
 let w0:=World.holding P os ⟨#[aeI [116,104,101,32,98,121,116,101,115,32,101,110,100],aeI [110,111,98,111,100,121,32,119,114,105,116,101,115,32,115,111],aeI [116,104,101,114,101,32,105,115,32,110,111,32,109,97,112],
  aeI [116,104,101,114,101,32,105,115,32,110,111,32,115,117,99,104,32,99,101,108,108,32,111,114,32,115,101,99,116,111,114],aeI [116,104,101,114,101,32,105,115,32,110,111,32,115,117,99,104,32,102,105,101,108,100],aeI [110,111,98,111,100,121,32,119,114,105,116,101,115,32,115,111]],#[],[]⟩
 {w0 with heap:=((((((w0.heap.modify 0 (aaL (aeJ 5))).modify 1 (aaL (.iface 219 (rt 74)))).modify 2 (aaL (aeJ 2))).modify 3 (aaL (aeJ 3))).modify 4 (aaL (aeJ 4))).modify 5 (aaL (aeJ 1))).modify 6 (aaL (aeJ 0))}
set_option maxRecDepth 100000 in
theorem axB (os:Os)(args:Array Value):laidMetH P amU ((awD os).forCall (λ_ _=>0) ⟨#[],args,[]⟩).memory:=
 laidMetH_of_parts (laidMet_of_run (ps:=[.cell 6 0,.cell low 0,.cell 5 0,.cell (low+1) 0,.cell 2 0,.cell (low+2) 0,.cell 3 0,.cell (low+3) 0,.cell 4 0,.cell (low+4) 0,.cell 0 0,.cell (low+5) 0]) 8 (by kernel_rfl) (by kernel_rfl) (by kernel_rfl)) (by kernel_rfl)
end Go.Proofs.YtmegplnmiepfbaaGreatDoor.S
