/- Part 6 of the proof. -/
import Derived.Test.YtmegplnmiepfbaaGreatDoorF4
import Derived.Test.YtmegplnmiepfbaaGreatDoorRows
import Derived.LaidLaws
import Derived.LaidHandle
import Derived.ChangeSame
import Derived.JoinedOf
set_option linter.unusedVariables false
set_option linter.unusedSimpArgs false
set_option linter.defProp false
namespace Go.Proofs.YtmegplnmiepfbaaGreatDoor.S.O
open Go.Sx
attribute [local irreducible] af cE bw bg aA cu bY St Bx Al App cJ cB cz bW aL bD aq bT av ak aW mapA
def aaK (x:xM):List Value:=[ae x.k,ae x.a,ae x.b]
section
variable {F:Nat->Prop}{W w w0:World}{L:List As}{mw mh:Int}{ca la oa ra:Option Addr}{cn cc ln lc mb on oc rn rc i:Nat}{cs:List Int}{xs:List xM}{x:xM}{m:bJ}{es:List (Hi×kX)}{Q:Option Addr->Nat->Nat->World->Prop}
variable {P5:Int->Int->Option Addr->Nat->Nat->Option Addr->Nat->Nat->Addr->Option Addr->Nat->Nat->Int->Int->World->Prop}
def amR (w:World)(a:Option Addr)(n c:Nat)(vs:List Hi)(os:List kX):Prop:=Sl w a n c 4 Gn vs/\os.length=n/\∀(i:Nat) (v:Hi) (o:kX),vs[i]? =some v->os[i]? =some o->OpV w v o
def amS {F:Nat->Prop}{W w:World}{L:List As}{oa:Option Addr}{on oc:Nat}{es:List (Hi×kX)}(s:Sep F W w (ak oa on oc 38 4 (flat Gn (es.map (·.1)))::Et es::L)):amR w oa on oc (es.map (·.1)) (es.map (·.2)):=by have h1:=aN s (i:=0) rfl as2 (by decide);have hl:=h1.len;refine⟨h1,by grind,λi v o hv ho=>?_⟩;obtain⟨h2,s2⟩:=gL (ai s);rw[List.getElem?_map]at hv ho;obtain⟨e,he,rfl⟩:=Option.map_eq_some_iff.1 hv;rw[he]at ho;cases ho;have ha:=h2 e (List.mem_of_getElem? he);exact⟨ha.k,ha.A,ha.B,aN s2 (i:=i) (by rw[List.getElem?_append_left (by grind),List.getElem?_map,he];rfl) cV (by decide),ha.jA⟩
def amR.El {w:World}{a:Option Addr}{n c:Nat}{vs:List Hi}{os:List kX}{o:kX}{idx:Int}{k:Nat}{K:Addr->Prop}(h:amR w a n c vs os)(hk:idx=k)(ho:os[k]? =some o)
  (hK:∀p va vn vc,vs[k]? =some ⟨o.k,o.A,o.B,va,vn,vc⟩->(∀(j:Nat) u,(Gn ⟨o.k,o.A,o.B,va,vn,vc⟩)[j]? =some u->w.cell? ((p.add (idx.toNat*4)).add j)=some u)->K p):aJ idx n (wA a K):=by
 obtain⟨h1,h2,h3⟩:=h;have hn:k<n:=by grind
 refine h1.El hk hn λp v hv hc=>?_;obtain⟨k1,A1,B1,va,vn,vc⟩:=v;obtain⟨e1,e2,e3,_⟩:=h3 k _ o hv ho;grind
def mdL (oa:Option Addr)(on oc:Nat)(es:List (Hi×kX))(mb:Nat)(m:bJ)(ra:Option Addr)(rn rc:Nat):List As:=
 [ak oa on oc 38 4 (flat Gn (es.map (·.1))),Et es,av mb 25 [ae m.w,ae m.h,.slice ra rn rc],ak ra rn rc 5 1 (flat bp m.cs)]
def ajy {ob:Nat}{v:Hi}{o:kX}{nn:Int}{rest:List As}(ha:agU (v,o))(Cm:on<=1000)(hi:i<=1000)
  (s:Sep No w0 w (av ob 38 (Gn v)::ak v.a v.n v.c 5 1 (flat bp o.m)::ak oa on oc 38 4 (flat Gn (es.map (·.1)))::Et es::rest))
  (next:∀a' c' w',Sep No w0 w' (ak a' (on+1) c' 38 4 (flat Gn ((es++[(v,o)]).map (·.1)))::Et (es++[(v,o)])::rest)->P5 mw mh ca cn cc la ln lc (aZ mb) a' (on+1) c' nn ((i+1:Nat):Int) w'):
  cP P5 Q mw mh ca cn cc la ln lc (aZ mb) oa on oc nn i (aZ ob) w:=by
 apply lI s 0 rfl;apply lI s 0 rfl;apply lI s 0 rfl;apply lS s 0 rfl;have s:=ck (ai s) (List.Perm.trans (List.Perm.swap ..) (List.Perm.cons _ (List.Perm.swap ..)));rw[aG];exact awa s ha (by omega) λa' c' w s=>next a' c' w s
attribute [local irreducible] cP in
theorem awI {ob xb:Nat}(hC:Sl w0 ca cn cc 1 bp cs)(hcs:dZ cs)(QS:cn<9223372036854775808)(hm:cI m)(Cm:on<=1000)(hi:i<=1000)
  (s:Sep No w0 w (av ob 38 [ae 0,ae (gd x.a 0 ((m.cs.length:Int)-1)),ae (gd x.b 0 ((m.cs.length:Int)-1)),.slice none 0 0]::av xb 90 (aaK x)::mdL oa on oc es mb m ra rn rc))
  (next:∀(m':bJ) v o a' c' ra' rn' rc' w',wc mw mh cs m x=(o,m')->Sep No w0 w' (mdL a' (on+1) c' (es++[(v,o)]) mb m' ra' rn' rc')->P5 mw mh ca cn cc la ln lc (aZ mb) a' (on+1) c' (m'.cs.length:Int) ((i+1:Nat):Int) w'):
  jq P5 Q mw mh ca cn cc la ln lc (aZ mb) oa on oc (m.cs.length:Int) i (aZ xb) (aZ ob) w:=by
 have hms:=K1 hm;have arM:=Ip (x:=x.b%256) (by omega);have ask:=next
 unfold wc at ask;apply lI s 1 rfl;apply b_ (by decide) (by decide) (by decide);have ek:0+x.k%(15-0+1)=gd x.k 0 15:=rfl;rw[ek];have t:∀{a b:Int},a=b->(a==b)=true:=λh=>by rw[beq_iff_eq];exact h
 have f:∀{a b:Int},a≠b->(a==b)=false:=λh=>by rw[beq_eq_false_iff_ne];exact h
 have plain:∀(k A B:Int) (w:World) (L':List As) (js:List Nat),wc mw mh cs m x=(⟨k,A,B,[]⟩,m)->js.Nodup->js.map (λi=>L'[i]?)=[some (av ob 38 [ae k,ae A,ae B,.slice none 0 0]),some (ak oa on oc 38 4 (flat Gn (es.map (·.1)))),some (Et es),some (av mb 25 [ae m.w,ae m.h,.slice ra rn rc]),some (ak ra rn rc 5 1 (flat bp m.cs))]->
   Sep No w0 w L'->cP P5 Q mw mh ca cn cc la ln lc (aZ mb) oa on oc (m.cs.length:Int) i (aZ ob) w:=by
  intro k A B w L' js e hnd hpk s;have s:=cf (L':=[_,_,_,_,_]) js s hpk hnd;have s:=ck (bE s 5 1) (List.Perm.swap ..);exact ajy (v:=⟨k,A,B,none,0,0⟩) ⟨rfl,rfl,rfl,dZ.nil⟩ Cm hi s λa' c' w s=>next _ _ _ a' c' ra rn rc w e s
 have b14:(gd x.k 0 15=0\/gd x.k 0 15=1\/gd x.k 0 15=2)->nf P5 Q mw mh ca cn cc la ln lc (aZ mb) oa on oc (m.cs.length:Int) i (aZ ob) w:=by intro h;refine ax s (i:=0) rfl rfl rfl λw s=>?_;exact plain _ _ _ w _ [0,2,3,4,5] (by unfold wc;simp only;rw[if_pos h]) (by decide) rfl s
 have b21:(gd x.k 0 15=5\/gd x.k 0 15=6)->qy P5 Q mw mh ca cn cc la ln lc (aZ mb) oa on oc (m.cs.length:Int) i (aZ xb) (aZ ob) w:=by intro h;apply lI s 1 rfl;rw[wrap_u8'];apply Rp (by omega);rw[aG];refine sT s 0 rfl λw s=>?_;refine ax s (i:=0) rfl rfl rfl λw s=>?_;exact plain _ _ _ w _ [0,2,3,4,5] (by unfold wc;simp only;rw[fR,fR,fR,if_pos h]) (by decide) rfl s
 by_cases k0:gd x.k 0 15=0
 ·rw[t k0,cond_true];exact b14 (.inl k0)
 rw[f k0,cond_false];by_cases k1:gd x.k 0 15=1
 ·rw[t k1,cond_true];exact b14 (.inr (.inl k1))
 rw[f k1,cond_false];by_cases k2:gd x.k 0 15=2
 ·rw[t k2,cond_true];exact b14 (.inr (.inr k2))
 rw[f k2,cond_false];by_cases k3:gd x.k 0 15=3
 ·rw[t k3,cond_true];apply lI s 1 rfl;apply b_ (by decide) (by decide) (by decide);refine sT s 0 rfl λw s=>?_;refine ax s (i:=0) rfl rfl rfl λw s=>?_;exact plain _ _ _ w _ [0,2,3,4,5] (by unfold wc;simp only;rw[fR,if_pos k3];rfl) (by decide) rfl s
 rw[f k3,cond_false];by_cases k4:gd x.k 0 15=4
 ·rw[t k4,cond_true];apply lI s 1 rfl;apply b_ (by decide) (by decide) (by decide);refine sT s 0 rfl λw s=>?_;refine sT s 0 rfl λw s=>?_;refine ax s (i:=0) rfl rfl rfl λw s=>?_;exact plain _ _ _ w _ [0,2,3,4,5] (by unfold wc;simp only;rw[fR,fR,if_pos k4];rfl) (by decide) rfl s
 rw[f k4,cond_false];by_cases k5:gd x.k 0 15=5
 ·rw[t k5,cond_true];exact b21 (.inl k5)
 rw[f k5,cond_false];by_cases k6:gd x.k 0 15=6
 ·rw[t k6,cond_true];exact b21 (.inr k6)
 rw[f k6,cond_false];by_cases k7:gd x.k 0 15=7
 ·rw[t k7,cond_true];refine ax s (i:=0) rfl rfl rfl λw s=>?_;exact plain _ _ _ w _ [0,2,3,4,5] (by unfold wc;simp only;rw[fR,fR,fR,fR,if_pos (.inl k7)]) (by decide) rfl s
 rw[f k7,cond_false];by_cases k8:gd x.k 0 15=8
 ·rw[t k8,cond_true];refine ax s (i:=0) rfl rfl rfl λw s=>?_;exact plain _ _ _ w _ [0,2,3,4,5] (by unfold wc;simp only;rw[fR,fR,fR,fR,if_pos (.inr k8)]) (by decide) rfl s
 rw[f k8,cond_false];by_cases k9:gd x.k 0 15=9
 ·rw[t k9,cond_true];refine sT s 0 rfl λw s=>?_;refine sT s 0 rfl λw s=>?_;refine sT s 0 rfl λw s=>?_;refine ax s (i:=0) rfl rfl rfl λw s=>?_;exact plain _ _ _ w _ [0,2,3,4,5] (by unfold wc;simp only;rw[fR,fR,fR,fR,fR,if_pos k9]) (by decide) rfl s
 rw[f k9,cond_false];by_cases k10:gd x.k 0 15=10
 ·rw[t k10,cond_true];apply lI s 1 rfl;refine⟨by decide,?_⟩;by_cases h4:Int.tmod x.a 4=0
  ·rw[t h4,cond_true];apply lI s 1 rfl;refine⟨by decide,?_⟩;apply lI s 1 rfl;have hm':=EE (w:=IntKind.wrap .i64 (mw+IntKind.wrap .i64 (Int.tdiv x.a 4))) (h:=IntKind.wrap .i64 (mh+x.b)) hcs;refine YT s (hC.fr (au s)) hcs QS λna nn nc w s _=>?_;have e:wc mw mh cs m x=(Ek (vC (IntKind.wrap .i64 (mw+IntKind.wrap .i64 (Int.tdiv x.a 4))) (IntKind.wrap .i64 (mh+x.b)) cs),vC (IntKind.wrap .i64 (mw+IntKind.wrap .i64 (Int.tdiv x.a 4))) (IntKind.wrap .i64 (mh+x.b)) cs):=by rw[wc,fR,fR,fR,fR,fR,fR,if_pos k10,if_pos h4]
   generalize vC (IntKind.wrap .i64 (mw+IntKind.wrap .i64 (Int.tdiv x.a 4))) (IntKind.wrap .i64 (mh+x.b)) cs=m' at*;refine sT s 5 rfl λw s=>?_;refine sT s 5 rfl λw s=>?_;refine ax s (i:=5) rfl rfl rfl λw s=>?_;apply lS s 5 rfl;apply lI s 5 rfl;apply lI s 5 rfl;apply lS s 5 rfl;have hN:=aN s (i:=0) rfl cV (by decide);have hNl:=hN.len;refine JS s hN hm' λpa pn pc w s _=>?_;refine sT s 2 rfl λw s=>?_;refine sT s 2 rfl λw s=>?_;refine sT s 2 rfl λw s=>?_;refine ax s (i:=2) rfl rfl rfl λw s=>?_;have s:=cf (L':=[_,_,_,_,_,_]) [2,0,4,5,6,1] s rfl (by decide);rw[<-hNl];exact ajy (v:=⟨1,0,0,pa,pn,pc⟩) ⟨rfl,rfl,rfl,(FX hm').1⟩ Cm hi s λa' c' w s=>by exact next m' _ _ a' c' na nn nc w e s
  ·rw[f h4,cond_false];apply lI s 1 rfl;apply b_ (by decide) (by decide) (by decide);have e20:0+x.b%(200-0+1)=gd x.b 0 200:=rfl;rw[e20,aG];refine sT s 0 rfl λw s=>?_;refine sT s 0 rfl λw s=>?_;refine sT s 0 rfl λw s=>?_;refine ax s (i:=0) rfl rfl rfl λw s=>?_;exact plain _ _ _ w _ [0,2,3,4,5] (by unfold wc;simp only;rw[fR,fR,fR,fR,fR,fR,if_pos k10,if_neg h4]) (by decide) rfl s
 rw[f k10,cond_false];by_cases k11:gd x.k 0 15=11
 ·rw[t k11,cond_true];apply lI s 1 rfl;apply lI s 1 rfl;apply lI s 1 rfl;refine amQ s (by omega) λpa pn pc w s _=>?_;refine sT s 1 rfl λw s=>?_;refine sT s 1 rfl λw s=>?_;refine sT s 1 rfl λw s=>?_;refine ax s (i:=1) rfl rfl rfl λw s=>?_;have s:=cf (L':=[_,_,_,_,_,_]) [1,0,3,4,5,6] s rfl (by decide);have ayQ:=anw (x:=x) (n:=m.cs.length) (by omega);exact ajy (v:=⟨_,_,_,pa,pn,pc⟩) (o:=K0 x m.cs.length) ⟨rfl,rfl,rfl,ayQ.jA⟩ Cm hi s λa' c' w s=>
   next m _ _ a' c' ra rn rc w (by unfold wc;simp only;rw[fR,fR,fR,fR,fR,fR,if_neg k10,if_pos k11]) s
 rw[f k11,cond_false];refine sT s 0 rfl λw s=>?_;refine sT s 0 rfl λw s=>?_;refine sT s 0 rfl λw s=>?_;refine ax s (i:=0) rfl rfl rfl λw s=>?_;exact plain _ _ _ w _ [0,2,3,4,5] (by unfold wc;simp only;rw[fR,fR,fR,fR,fR,fR,if_neg k10,if_neg k11]) (by decide) rfl s
attribute [local irreducible] jq in
theorem aeG (s0:Sep F W w0 L)(hC:Sl w0 ca cn cc 1 bp cs)(hcs:dZ cs)(QS:cn<9223372036854775808)(hX:Sl w0 la ln lc 3 aaK xs)
  (h:∀oa on oc w' A,Sep F W w' (A::L)->Fr No w0 w'->(∃vs,∀{F' W' w2 L2},Sep F' W' w2 (A::L2)->amR w2 oa on oc vs (A2 mw mh cs xs))->Q oa on oc w'):uX mw mh ca cn cc la ln lc w0 Q:=by
 apply LA;have hxl:=hX.len;have hm0:=EE (w:=mw) (h:=mh) hcs;refine YT (bh (F:=No)) hC hcs QS λra rn rc w s _=>?_;refine aS s λmb w s=>?_;refine sT s 0 rfl λw s=>?_;refine sT s 0 rfl λw s=>?_;refine ax s (i:=0) rfl rfl rfl λw s=>?_;apply lI s 0 rfl;apply lI s 0 rfl;apply lS s 0 rfl;have hN:=aN s (i:=1) rfl cV (by decide);have hNl:=hN.len;refine JS s hN hm0 λpa pn pc w s _=>?_;refine aO s λob w s=>?_;have s:=gX (size:=4) s (i:=0) rfl rfl (by decide) (akB ⟨1,0,0,pa,pn,pc⟩);apply lS s 2 rfl;have s:Sep No w0 w (ak (sZ ob) 1 1 38 4 (flat Gn ([((⟨1,0,0,pa,pn,pc⟩:Hi),Ek (vC mw mh cs))].map (·.1)))::ak pa pn pc 5 1 (flat bp (Ek (vC mw mh cs)).m)::av mb 25 [ae (vC mw mh cs).w,ae (vC mw mh cs).h,.slice ra rn rc]::ak ra rn rc 5 1 (flat bp (vC mw mh cs).cs)::[]):=s;have s:=cf (L':=[_,_,_,_]) [1,0,2,3] s rfl (by decide);have s:=ae7 (v:=⟨1,0,0,pa,pn,pc⟩) (anK s) ⟨rfl,rfl,rfl,(FX hm0).1⟩;have s:=ck s (List.Perm.swap ..);rw[<-hNl];have hyl:(xs.take 60).length=min 60 ln:=by grind
 have loop:∀(k i:Nat) (m:bJ) (oa:Option Addr) (oc:Nat) (es:List (Hi×kX)) (ra:Option Addr) (rn rc:Nat) (w:World),i+k=(xs.take 60).length->cI m->es.map (·.2)++Nl mw mh cs m ((xs.take 60).drop i)=A2 mw mh cs xs->
   Sep No w0 w (mdL oa (i+1) oc es mb m ra rn rc)->jr Q (k+1) mw mh ca cn cc la ln lc (aZ mb) oa (i+1) oc (m.cs.length:Int) i w:=by
  intro k;induction k with
  |zero=>
   intro i m oa oc es ra rn rc w hi hm he s;show nQ Q (jr Q 0) _ _ _ _ _ _ _ _ _ _ _ _ _ _ _;unfold nQ;have done:Q oa (i+1) oc w:=by rw[List.drop_eq_nil_of_le (by omega)]at he;simp[Nl,List.append_nil]at he;have k:=λ{F' W' w2 L2} (s:Sep F' W' w2 (aW True [ak oa (i+1) oc 38 4 (flat Gn (es.map (·.1))),Et es]::L2))=>amS (gL s).2;rw[he]at k;exact h _ _ _ _ _ (dA s0 (dz s trivial) (i:=0) rfl) (au s) ⟨_,k⟩
   grind
  |succ k ih=>
   intro i m oa oc es ra rn rc w hi hm he s;show nQ Q (jr Q (k+1)) _ _ _ _ _ _ _ _ _ _ _ _ _ _ _;rw[nQ,bM,bM];have hms:=K1 hm;have hx0:(xs.take 60)[i]? =some ((xs.take 60)[i]'(by omega)):=List.getElem?_eq_getElem _;have hd:(xs.take 60).drop i=(xs.take 60)[i]'(by omega)::(xs.take 60).drop (i+1):=List.drop_eq_getElem_cons (by omega);generalize (xs.take 60)[i]'(by omega)=x at hx0 hd;have Ni:xs[i]? =some x:=by
    rw[List.getElem?_take]at hx0;split at hx0
    ·exact hx0
    ·cases hx0
   rw[hd,Nl]at he;refine(hX.fr (au s)).El rfl (by omega) λpp y hy hc=>?_;rw[Ni]at hy;cases hy;apply aR (hc 0 _ rfl);apply aR (hc 1 _ rfl);apply aR (hc 2 _ rfl);have go:∀(w:World) (ob xb:Nat) (A B:Int),A=gd x.a 0 ((m.cs.length:Int)-1)->B=gd x.b 0 ((m.cs.length:Int)-1)->Sep No w0 w (av ob 38 [ae 0,ae A,ae B,.slice none 0 0]::av xb 90 (aaK x)::mdL oa (i+1) oc es mb m ra rn rc)->
     jq (jr Q (k+1)) Q mw mh ca cn cc la ln lc (aZ mb) oa (i+1) oc (m.cs.length:Int) i (aZ xb) (aZ ob) w:=by
    intro w ob xb A B e1 e2 s;subst e1 e2;refine awI hC hcs QS hm (by omega) (by omega) s λm' v o a' c' ra' rn' rc' w' e s=>?_;have hok:=(aui (w:=mw) (h:=mh) hcs hm x).2;rw[e]at he hok;refine ih (i+1) m' a' c' _ ra' rn' rc' w' (by omega) hok ?_ s;rw[List.map_append,List.append_assoc];exact he
   refine aS s λxb w s=>?_;refine sT s 0 rfl λw s=>?_;refine sT s 0 rfl λw s=>?_;refine ax s (i:=0) rfl rfl rfl λw s=>?_;rw[aG];have s:=ay s
   repeat' first
    |apply lI s 0 rfl
    |apply lS s 0 rfl
    |apply lB s 0 rfl
    |apply lP s 0 rfl
    |apply And.intro (cg s 0 rfl)
    |apply lI s 1 rfl
    |apply lS s 1 rfl
    |apply lB s 1 rfl
    |apply lP s 1 rfl
    |apply And.intro (cg s 1 rfl)
    |(refine sT s 0 rfl λw s=>?_)
    |(refine sT s 1 rfl λw s=>?_)
    |refine aO s λb w s=>?_
    |(refine aS s λb w s=>?_;simp[ag2,acQ,amN,ag3]at s)
    |exact go _ _ _ _ _ rfl rfl s
    |apply b_ (by omega) (by decide) (by omega)
    |apply And.intro ?_
    |(replace s:=ay s;first
     |apply lI s 0 rfl
     |apply lS s 0 rfl
     |apply lB s 0 rfl
     |apply lP s 0 rfl
     |apply And.intro (cg s 0 rfl)
     |apply lI s 1 rfl
     |apply lS s 1 rfl
     |apply lB s 1 rfl
     |apply lP s 1 rfl
     |apply And.intro (cg s 1 rfl)
     |(refine ax s rfl rfl rfl λw s=>?_)
     |(refine sT s 1 rfl λw s=>?_)
     |refine aO s λb w s=>?_
     |(refine aS s λb w s=>?_;simp[ag2,acQ,amN,ag3]at s)
     |exact go _ _ _ _ _ rfl rfl s
     |apply b_ (by omega) (by decide) (by omega)
     |refine And.intro ?_ ?_)
 exact⟨(xs.take 60).length+1,loop _ 0 _ _ 1 _ ra rn rc w (by omega) hm0 rfl s⟩
end
end Go.Proofs.YtmegplnmiepfbaaGreatDoor.S.O
set_option maxRecDepth 20000
namespace Go.Proofs.YtmegplnmiepfbaaGreatDoor.S
open Go.Sx
attribute [local irreducible] af cE bw bg aA cu bY St Bx Al App cJ cB cz bW aL bD aq bT av ak aW mapA
section
variable {F:Nat->Prop}{W w:World}{L:List As}{a b:Option Addr}{n c m d:Nat}
def eq2 {a b a' b':Int}:(a==a'&&(b==b'&&true))=decide (a=a'/\b=b'):=by grind
def avN {w:World}{x y:Operand}{a b:Int×Int}{K:Bool->World->Prop}(h:K (!decide (a=b)) w):bW P .neq 51 x y (.agg #[ae a.1,ae a.2]) (.agg #[ae b.1,ae b.2]) w K:=by apply aku (by kernel_rfl);apply aoc (r:=a.1==b.1&&(a.2==b.2&&true)) (by kernel_rfl) (by kernel_rfl) (by kernel_rfl);rw[eq2];simp[<-Prod.ext_iff];exact h
def avO {a b:FE}:(a.a=b.a/\a.b=b.b/\a.c=b.c/\a.d=b.d/\a.e=b.e/\a.f=b.f)↔a=b:=by obtain⟨a1,a2,a3,a4,a5,a6⟩:=a;obtain⟨b1,b2,b3,b4,b5,b6⟩:=b;simp
instance:DecidableEq FE:=λa b=>decidable_of_iff _ avO
def aki {Q:Bool->World->Prop}{xs ys:List (Int×Int)}(hX:Sl w a n c 2 lO xs)(hY:Sl w b m d 2 lO ys)(s0:Sep F W w L)(hn:n<1000000)(h:∀w',Sep F W w' L->Fr No w w'->Q (decide (xs=ys)) w'):
  tQ a n c b m d w Q:=by
 apply Kq;have h1:=hX.len;have h2:=hY.len;have fin:∀(r:Bool) (w':World),r=decide (xs=ys)->Sep No w w' []->Q r w':=λr w' e s=>by subst e;exact h w' (bS s0 (au s)) (au s)
 by_cases hl:n=m
 ·subst hl;have loop:∀(k i:Nat) (w1:World),i+k=n->xs.take i=ys.take i->Sep No w w1 []->kC Q (k+1) a n c b n d i w1:=by
   intro k;induction k with
   |zero=>
    intro i w1 hi he s;show m_ Q (kC Q 0) _ _ _ _ _ _ _ _;unfold m_;grind
   |succ k ih=>
    intro i w1 hi he s;show m_ Q (kC Q (k+1)) _ _ _ _ _ _ _ _;rw[m_,bM];have s:=ay s;refine(hX.fr (au s)).El rfl (by omega) λp x hx hc=>?_;refine aR (hc 0 _ rfl) (aR (hc 1 _ rfl) ?_);refine(hY.fr (au s)).El rfl (by omega) λp y hy hc=>?_;refine aR (hc 0 _ rfl) (aR (hc 1 _ rfl) ?_);apply avN;by_cases hxy:x=y
    ·rw[decide_eq_true hxy,Bool.not_true,cond_false,aG];refine ih (i+1) _ (by omega) ?_ s;rw[List.take_add_one,List.take_add_one,hx,hy,he,hxy]
    grind
  rw[bne_self_eq_false,cond_false];exact⟨n+1,loop n 0 w (by omega) (by simp) bh⟩
 ·rw[show((n:Int) !=(m:Int))=true by grind,cond_true];refine fin false _ ?_ bh;grind
def map_eq {a b:bJ}:(a.w=b.w/\a.h=b.h/\a.cs=b.cs)↔a=b:=by obtain⟨a1,a2,a3⟩:=a;obtain⟨b1,b2,b3⟩:=b;simp
instance:DecidableEq bJ:=λa b=>decidable_of_iff _ map_eq
end
section
variable {F:Nat->Prop}{W w:World}{L:List As}{lg:xH}{r:Eh}{y:zJ}{o:kX}{a:Option Addr}{n c:Nat}
def awJ {K:Addr->World->Prop}{code d dir id:Int}{ma ga:Option Addr}{mn mc gn gc:Nat}{q0 q1 q2 q3 q4 q5:Int}(s:Sep F W w L)
  (h:∀p w',Sep F W w' (av p 34 (W2 code d dir id ma mn mc ga gn gc ⟨q0,q1,q2,q3,q4,q5⟩)::L)->K (aZ p) w'):
  Al T 34 w λp w=>St (p.add 0) (ae code) w λw=>St (p.add 1) (ae d) w λw=>St (p.add 2) (ae dir) w λw=>St (p.add 3) (ae id) w λw=>
   St (p.add 4) (.slice ma mn mc) w λw=>St (p.add 5) (.slice ga gn gc) w λw=>St (p.add 6) (.int .u64 q0) w λw=>St (p.add 7) (.int .u64 q1) w λw=>St (p.add 8) (.int .u64 q2) w λw=>
   St (p.add 9) (.int .u64 q3) w λw=>St (p.add 10) (.int .u64 q4) w λw=>St (p.add 11) (.int .u64 q5) w λw=>K p w:=by
 refine aS s λp w s=>?_
 iterate 12 refine sT s 0 rfl λw s=>?_
 exact h p w s
def acR {K:Addr->World->Prop}(hL:iG W lg)(ho:Mp o)(hM:∀w',Sep No W w' L->Sl w' a n c 1 bp o.m)(v9:amL y.p)(s:Sep No W w (fP r y::L))
  (h:∀r' y' ma mn mc ga gn gc p w',r'.p=r.p->y'.p=(iH y.p o).1->Sep No W w' (av p 34 (W2 (iH y.p o).2.code (iH y.p o).2.d (iH y.p o).2.dir (iH y.p o).2.id ma mn mc ga gn gc (qA y'.p.bQ))::ak ma mn mc 51 2 (flat lO (iH y.p o).2.GY)::ak ga gn gc 3 1 (flat one (iH y.p o).2.gone)::fP r' y'::L)->K (aZ p) w'):
  ij (sZ r.p) o.k o.A o.B a n c w λcode d dir id ma mn mc ga gn gc q0 q1 q2 q3 q4 q5 w=>
   Al T 34 w λp w=>St (p.add 0) (ae code) w λw=>St (p.add 1) (ae d) w λw=>St (p.add 2) (ae dir) w λw=>St (p.add 3) (ae id) w λw=>
   St (p.add 4) (.slice ma mn mc) w λw=>St (p.add 5) (.slice ga gn gc) w λw=>St (p.add 6) (.int .u64 q0) w λw=>St (p.add 7) (.int .u64 q1) w λw=>St (p.add 8) (.int .u64 q2) w λw=>
   St (p.add 9) (.int .u64 q3) w λw=>St (p.add 10) (.int .u64 q4) w λw=>St (p.add 11) (.int .u64 q5) w λw=>K p w:=
 W3 hL ho hM v9 s λr' y' ma mn mc ga gn gc w er ey s=>awJ s λp w s=>h r' y' ma mn mc ga gn gc p w er ey s
def apB {K:xM->List Value}{Q:Option Addr->Nat->Nat->World->Prop}{xs:List xM}{k:Nat}(hA:Sl w a n c 3 K xs)(h:∀a' c',Sl w a' (min n k) c' 3 K (xs.take (min n k))->Q a' (min n k) c' w):yM a n c k w Q:=by apply QJ;refine hA.hi ?_ (Nat.min_le_left ..) h;unfold Ds;omega
end
end Go.Proofs.YtmegplnmiepfbaaGreatDoor.S
namespace Go.Proofs.YtmegplnmiepfbaaGreatDoor.S
open Go.Sx
structure J5 (most:Int) (m:bJ) (u:tF):Prop where
 may:cI m
 nS:m.w*m.h<=1600
 us:nU m.w m.h u.us
 nx:0<=u.next
 lt:∀v∈u.us,v.id<u.next
 mst:u.most=most
 len:(u.us.length:Int)<=most
structure Dr (t:Int) (q:gI):Prop where
 ep:zW q.bQ<=t
 tp:0<=t
 mo:1<=q.most/\q.most<=65536
 st:(q.bQ.o=none/\q.us=none)\/∃m u,q.bQ.o=some m/\q.us=some u/\J5 q.most m.g.m u/\u.next<=t
def Dr.sm {t:Int}{q:gI}(h:Dr t q)(ht:t<1000000000):amL q:=by
 refine⟨by have:=h.ep;omega,λu hu=>?_⟩;rcases h.st with⟨_,e⟩|⟨m,u',_,e,_,hn⟩
 all_goals grind
def Dr.mono {t t':Int}{q:gI}(h:Dr t q)(ht:t<=t'):Dr t' q:=by
 refine⟨by have:=h.ep;omega,by have:=h.tp;omega,h.mo,?_⟩;rcases h.st with e|⟨m,u',h1,h2,h3,hn⟩
 all_goals grind
section
variable {most t:Int}{m:bJ}{u:tF}{q:gI}{o:kX}
def art (hm:cI m){c x:Int}(hx:1<=x/\x<=255):cI ⟨m.w,m.h,m.cs.set c.toNat x⟩:=by
 refine⟨hm.w,hm.h,?_,λy hy=>?_⟩
 ·rw[List.length_set];exact hm.len
 ·rcases List.mem_or_eq_of_mem_set hy with hy|rfl
  ·exact hm.jA y hy
  ·omega
def J5.drop (h:J5 most m u)(id:Int):J5 most m (kV u id):=by have hs:(kV u id).us.Sublist u.us:=List.filter_sublist;refine⟨h.may,h.nS,h.us.sub hs,h.nx,λv hv=>h.lt v (hs.subset hv),h.mst,?_⟩;have:=hs.length_le;have:=h.len;omega
def J5.WQ (h:J5 most m u)(id:Int){B:Int}(hB:bF m.w m.h B):J5 most m (vV u id λv=>⟨v.id,v.cell,B⟩):=by
 have e1:∀us:List aU,(us.map λv=>if v.id=id then(⟨v.id,v.cell,B⟩:aU)else v).map (·.id)=us.map (·.id):=λus=>by rw[List.map_map];refine List.map_congr_left λv _=>?_;simp[Function.comp];split<;>rfl
 have e2:∀us:List aU,(us.map λv=>if v.id=id then(⟨v.id,v.cell,B⟩:aU)else v).map (·.cell)=us.map (·.cell):=λus=>by rw[List.map_map];refine List.map_congr_left λv _=>?_;simp[Function.comp];split<;>rfl
 have hmem:∀v∈(vV u id λv=>⟨v.id,v.cell,B⟩).us,∃v'∈u.us,v.id=v'.id/\v.cell=v'.cell/\(v.goal=v'.goal\/v.goal=B):=λv hv=>by
  obtain⟨v',hv',rfl⟩:=List.mem_map.1 hv;refine⟨v',hv',?_⟩;split
  ·exact⟨rfl,rfl,.inr rfl⟩
  ·exact⟨rfl,rfl,.inl rfl⟩
 refine⟨h.may,h.nS,⟨h.us.wh,?_,λv hv=>?_,λv hv=>?_,?_⟩,h.nx,λv hv=>?_,h.mst,?_⟩
 ·show List.Pairwise _ (List.map _ (List.map _ _));rw[e1];exact h.us.ids
 ·obtain⟨v',h1,h2,_⟩:=hmem v hv;rw[h2];exact h.us.pos v' h1
 ·obtain⟨v',h1,_,h3,h4⟩:=hmem v hv;have:=h.us.at_ v' h1;refine⟨by rw[h3];exact this.1,?_⟩;rcases h4 with h4|h4
  ·rw[h4];exact this.2
  ·rw[h4];exact hB
 ·show List.Nodup (List.map _ (List.map _ _));rw[e2];exact h.us.nd
 ·obtain⟨v',h1,h2,_⟩:=hmem v hv;rw[h2];exact h.lt v' h1
 ·show((List.map _ _).length:Int)<=most;rw[List.length_map];exact h.len
def J5.add (h:J5 most m u){A B:Int}(hs:vA m.w m.h u A B=0):J5 most m (O0 u A B):=by
 unfold vA at hs;split at hs
 ·omega
 split at hs
 ·omega
 split at hs
 ·omega
 split at hs
 ·omega
 rename_i h1 h2 h3 h4;have h1:=Decidable.not_not.1 h1;have h2:=Decidable.not_not.1 h2;have hl:((u.us++[(⟨u.next,A,B⟩:aU)]).length:Int)=u.us.length+1:=by simp
 have:=h.mst;refine⟨h.may,h.nS,ak4 h.us (λv hv=>h.lt v hv) h.nx h1.1 h1.2 ((ak5 h.us).1 h2),?_,λv hv=>?_,h.mst,?_⟩
 ·show 0<=u.next+1
  have:=h.nx;omega
 ·show v.id<u.next+1
  rcases List.mem_append.1 hv with hv|hv
  ·have:=h.lt v hv;omega
  grind
 ·show((u.us++[(⟨u.next,A,B⟩:aU)]).length:Int)<=_;omega
def W4 {w h:Int}:∀(todo:List (aU×Int)) (done:List aU),∀v∈(dg w h done todo).1,∃v'∈done++todo.map (·.1),v.id=v'.id/\v.goal=v'.goal
 |[],done,v,hv=>⟨v,by simpa[dg]using hv,rfl,rfl⟩
 |(x,d)::rest,done,v,hv=>by
  cases hb:uI w h (done++x::rest.map (·.1)) x d with
  |true=>
   rw[Ia hb]at hv;obtain⟨v',h1,h2,h3⟩:=W4 rest _ v hv;rw[List.append_assoc]at h1;rcases List.mem_append.1 h1 with h1|h1
   ·grind
   ·rcases List.mem_append.1 h1 with h1|h1
    ·unfold nX at h1;grind
    grind
  |false=>
   rw[Ib hb]at hv;obtain⟨v',h1,h2,h3⟩:=W4 rest _ v hv;grind
def zip_fst {α β:Type}{l:List α}(f:α->β):(l.zip (l.map f)).map (·.1)=l:=by rw[List.map_fst_zip];grind
def J5.tick (h:J5 most m u):J5 most m (N8 m.w m.h u (sI m u.us)):=by
 have hz:(u.us.zip (sI m u.us)).map (·.1)=u.us:=zip_fst _;refine⟨h.may,h.nS,WS _ [] (by rw[List.nil_append,hz];exact h.us),h.nx,λv hv=>?_,h.mst,?_⟩
 ·obtain⟨v',h1,h2,_⟩:=W4 _ _ v hv;rw[List.nil_append,hz]at h1;rw[h2];exact h.lt v' h1
 ·have h1:=(N6 (w:=m.w) (h:=m.h) (u.us.zip (sI m u.us)) []).1;have h2:=congrArg List.length hz;have:=h.len;have e:(N8 m.w m.h u (sI m u.us)).us=(dg m.w m.h [] (u.us.zip (sI m u.us))).1:=rfl;grind
def apC (q:pS)(t s:Int):zW (zI q t s)=zW q:=by
 cases h:q.o with
 |none=>unfold zI;rw[h]
 |some m=>
  obtain⟨m',h1,h2⟩:=A4 h t s;unfold zW;grind
def aru (q:pS)(ps:List GS):zW (GV q ps)=zW q:=by
 cases h:q.o with
 |none=>
  have:GV q ps=q:=by
   unfold GV;induction ps with
   |nil=>rfl
   |cons p ps ih=>rw[List.foldl_cons];unfold zI;rw[h];exact ih
  rw[this]
 |some m=>
  obtain⟨m',h1,h2⟩:=GX ps h;unfold zW;grind
def awK {mp:vU}(h:Dr t q)(hm:q.bQ.o=some mp)(hu:q.us=some u)(hn:J5 q.most mp.g.m u)(hx:u.next<=t):Dr (t+1) (Ml q mp.g.m u o).1:=by
 have hsame:Dr (t+1) q:=h.mono (by omega);have ht:=h.tp;have YA:=h.ep;have epm:zW q.bQ=mp.g.ep:=by unfold zW;rw[hm]
 unfold Ml;split
 ·split
  ·exact hsame
  ·split
   ·exact hsame
   ·split
    ·exact hsame
    ·have e:(edP q.bQ o.A o.B).o=some ⟨xz mp.g o.A o.B,mp.S8,mp.clean,mp.fS,mp.kept,mp.fc⟩:=by unfold edP;rw[hm];rfl
     refine⟨?_,by omega,h.mo,.inr ⟨_,u,e,rfl,?_,by omega⟩⟩
     ·rw[zW,e];show mp.g.ep+1<=t+1;omega
     ·exact⟨art hn.may (by omega),hn.nS,hn.us,hn.nx,hn.lt,hn.mst,hn.len⟩
 ·split
  ·split
   ·exact hsame
   ·split
    ·exact hsame
    ·split
     ·exact hsame
     ·rename_i h1 h2 h3;exact⟨by grind,by omega,h.mo,.inr ⟨mp,_,hm,rfl,hn.add (Decidable.not_not.1 h3),by show u.next+1<=t+1;omega⟩⟩
  ·split
   ·split
    ·exact hsame
    ·split
     ·exact hsame
     ·split
      ·exact⟨by grind,by omega,h.mo,.inr ⟨mp,_,hm,rfl,hn.drop _,by show u.next<=t+1;omega⟩⟩
      ·rename_i h2 _;exact⟨by grind,by omega,h.mo,.inr ⟨mp,_,hm,rfl,hn.WQ _ (Decidable.not_not.1 h2),by show u.next<=t+1;omega⟩⟩
   ·split
    ·split
     ·exact hsame
     ·exact⟨by grind,by omega,h.mo,.inr ⟨mp,_,hm,rfl,hn.drop _,by show u.next<=t+1;omega⟩⟩
    ·split
     ·split
      ·obtain⟨TO,h1,h2⟩:=A4 hm o.A (cT mp.g.m o.B);refine⟨by show zW (zI _ _ _)<=_;rw[apC];omega,by omega,h.mo,.inr ⟨TO,u,h1,rfl,by grind,by omega⟩⟩
      grind
     ·obtain⟨TO,h1,h2⟩:=GX (mK mp.g.m.w mp.g.m.h u.us) hm;refine⟨by show zW (GV _ _)<=_;rw[aru];omega,by omega,h.mo,.inr ⟨TO,_,h1,rfl,by rw[h2];exact hn.tick,by show u.next<=t+1;omega⟩⟩
def acS (h:Dr t q)(ho:Mp o):Dr (t+1) (iH q o).1:=by
 have hsame:Dr (t+1) q:=h.mono (by omega);have ht:=h.tp;have YA:=h.ep;unfold iH;split
 ·exact hsame
 ·split
  ·rename_i k1;split
   ·exact hsame
   ·rename_i mp hg;have hf:=(ho.load k1).2 mp hg;have hm:=afh ho.jA hg;have hmo:=h.mo;refine⟨?_,by omega,h.mo,.inr ⟨_,_,rfl,rfl,⟨hm,hf,⟨⟨hm.w,hm.h⟩,.nil,λv hv=>(by cases hv),λv hv=>(by cases hv),.nil⟩,Int.le_refl _,λv hv=>(by cases hv),rfl,?_⟩,by grind⟩⟩
    ·show zW q.bQ+1<=t+1;omega
    grind
  ·split
   ·rcases h.st with⟨h1,h2⟩|⟨m,u,h1,h2,h3,h4⟩
    ·refine⟨?_,by omega,h.mo,.inl ⟨by show(Oa q.bQ).o=none;unfold Oa;rw[h1];rfl,h2⟩⟩;unfold zW Oa;grind
    ·have e:(Oa q.bQ).o=some ⟨m.g,m.S8,m.clean,m.fS,none,m.fc⟩:=by unfold Oa;rw[h1];rfl
     refine⟨?_,by omega,h.mo,.inr ⟨_,u,e,h2,h3,by omega⟩⟩;show zW (Oa q.bQ)<=_;have:zW q.bQ=zW (Oa q.bQ):=by unfold zW;rw[e,h1]
     omega
   ·rcases h.st with⟨h1,h2⟩|⟨m,u,h1,h2,h3,h4⟩
    ·grind
    ·rw[h1,h2];exact awK h h1 h2 h3 h4
end
def Eg.of {bs:List Int}{m:bJ}(h:kW bs=some m):Eg bs:=by
 unfold kW at h;split at h
 ·cases h
 ·split at h
  ·rename_i h1 h2;refine⟨by omega,h2,λbs' M hT=>?_⟩;grind
  ·cases h
def lC {k A B:Int}(hk:k≠1):Mp ⟨k,A,B,[]⟩:=⟨dZ.nil,by simp,λe=>(hk e).elim⟩
def aeH {m:bJ}(hm:cI m)(hf:m.w*m.h<=1600):Mp (Ek m):=by have h1:=FX hm;have h2:=abL hm;refine⟨h1.1,h1.2,λ_=>⟨.of h2,λmp h=>?_⟩⟩;have h:kW (yL m)=some mp:=h;grind
def ajz (w h:Int)(c:List Int):(vC w h c).w*(vC w h c).h<=1600:=by have h1:=ke (n:=w) (lo:=1) (hi:=40) (by decide);have h2:=ke (n:=h) (lo:=1) (hi:=40) (by decide);show gd w 1 40*gd h 1 40<=1600;have:=Int.mul_le_mul h1.2 h2.2 (by omega) (by decide);omega
def amT {a b:Int}{ts:List Int}{used:Nat}(h:EY [1,a,b] 2=some (ts,used)):used=3:=by
 unfold EY at h;have e:Iw 2 [1,a,b]=if[a,b].length<2\/0∈[a,b].take 2 then none else some ([a,b].take 2,1+2):=rfl
 grind
def avP {x:xM}{n:Int}:Mp (K0 x n):=by
 unfold K0;simp only;split
 ·have hd:Eg [2,0,1,0,1,x.a%256,x.b%256]:=by
   refine⟨by simp,(by decide:iO (2+256*0) (1+256*0)),λbs' M h=>?_⟩;have h:q8 2 1 1 0 [1,x.a%256,x.b%256] [0,0]=some (bs',M):=h;unfold q8 at h;have e:(aD 2 1 0*bz 2 1 0).toNat=2:=by decide
   split at h
   ·cases h
   ·rename_i ts used hT;have:=amT hT;subst this;unfold q8 at h;grind
  refine⟨dZ.mk (by decide) (dZ.mk (by decide) (dZ.mk (by decide) (dZ.mk (by decide) (dZ.mk (by decide) (dZ.mk (by omega) (dZ.mk (by omega) dZ.nil)))))),by simp,λ_=>⟨hd,λmp h=>?_⟩⟩;have h:=h;rw[hd.get]at h;obtain⟨q,_,rfl⟩:=Option.map_eq_some_iff.1 h;show(2+256*0:Int)*(1+256*0)<=1600;decide
 ·split
  ·exact lC (by decide)
  ·split
   ·exact lC (by decide)
   ·exact lC (by assumption)
def avQ {w h:Int}{c:List Int}(hc:dZ c){m:bJ}(x:xM):Mp (wc w h c m x).1:=by
 unfold wc;simp only;split
 ·exact lC (by decide)
 ·split
  ·exact lC (by decide)
  ·split
   ·exact lC (by decide)
   ·split
    ·exact lC (by decide)
    ·split
     ·exact lC (by decide)
     ·split
      ·exact lC (by decide)
      ·split
       ·split
        ·exact aeH (EE hc) (ajz _ _ _)
        ·exact lC (by decide)
       ·split
        ·exact avP
        ·exact lC (by decide)
def alc {w h:Int}{c:List Int}(hc:dZ c):∀(xs:List xM) {m:bJ},∀o∈Nl w h c m xs,Mp o
 |[],_,o,ho=>by cases ho
 |x::xs,m,o,ho=>by
  rcases List.mem_cons.1 ho with rfl|ho
  ·exact avQ hc x
  ·exact alc hc xs o ho
def apD {w h:Int}{c:List Int}(hc:dZ c)(xs:List xM):∀o∈A2 w h c xs,Mp o:=λo ho=>by
 rcases List.mem_cons.1 ho with rfl|ho
 ·exact aeH (EE hc) (ajz _ _ _)
 ·exact alc hc _ o ho
noncomputable def Ii (q:gI)(os:List kX):gI:=os.foldl (λq o=>(iH q o).1) q
def amU (k most:Int):gI:=⟨most,⟨k,⟨[],[],0,0,0,0⟩,none,⟨0,0,0,0,0,0⟩⟩,none⟩
section
variable {q:gI}{o:kX}{t:Int}
def asz {k most:Int}(hm:1<=most/\most<=65536):Dr 0 (amU k most):=⟨Int.le_refl _,Int.le_refl _,hm,.inl ⟨rfl,rfl⟩⟩
def asA:∀(os:List kX) {q:gI} {t:Int},Dr t q->(∀o∈os,Mp o)->Dr (t+os.length) (Ii q os)
 |[],q,t,h,_=>by simpa[Ii]using h
 |o::os,q,t,h,ho=>by have:=asA os (acS h (ho o (by simp))) λo' h'=>ho o' (by simp[h']);rw[List.length_cons,show t+((os.length+1:Nat):Int)=t+1+os.length by omega];exact this
def arv (q:gI)(os:List kX)(o:kX):Ii q (os++[o])=(iH (Ii q os) o).1:=by unfold Ii;grind
def arw {os:List kX}{i:Nat}(hi:i<os.length)(ho:os[i]? =some o):Ii q (os.take (i+1))=(iH (Ii q (os.take i)) o).1:=by rw[List.take_add_one,ho];exact arv _ _ _
def avR {mp:vU}{u:tF}(hm:q.bQ.o=some mp):(Ml q mp.g.m u o).1.bQ.o≠none:=by
 unfold Ml
 repeat' split
 all_goals first
  |(show q.bQ.o≠none;rw[hm];exact Option.some_ne_none _)
  |(show(edP q.bQ o.A o.B).o≠none;unfold edP;rw[hm];exact Option.some_ne_none _)
  |(obtain⟨m',h1,_⟩:=A4 hm o.A (cT mp.g.m o.B);rw[h1];exact Option.some_ne_none _)
  |(obtain⟨m',h1,_⟩:=GX (mK mp.g.m.w mp.g.m.h u.us) hm;rw[h1];exact Option.some_ne_none _)
def avS (h:q.bQ.o≠none):(iH q o).1.bQ.o≠none:=by
 obtain⟨mp,hm⟩:=Option.ne_none_iff_exists'.1 h;unfold iH;split
 ·exact h
 ·split
  ·split
   ·exact h
   ·exact Option.some_ne_none _
  ·split
   ·unfold Oa;grind
   ·rw[hm];cases hu:q.us with
    |none=>exact h
    |some u=>exact avR hm
def apE:∀(os:List kX) {q:gI},q.bQ.o≠none->(Ii q os).bQ.o≠none
 |[],q,h=>h
 |o::os,q,h=>apE os (avS h)
def ald {m:bJ}(hm:cI m):iH q (Ek m)=(⟨q.most,ldP q.bQ m,some ⟨q.most,0,[]⟩⟩,pT 0):=by have h1:=FX hm;have e:Dv (Ek m)=true:=(ac7 h1.1 h1.2).may;rw[iH,e,if_neg (by rintro (h|h)<;>cases h),if_pos (show(Ek m).k=(1:Int)from rfl)];have e:kW (Ek m).m=some m:=abL hm;rw[e]
def apF {w h:Int}{c:List Int}(hc:dZ c)(xs:List xM)(q:gI){i:Nat}(hi:0<i):(Ii q ((A2 w h c xs).take i)).bQ.o≠none:=by obtain⟨j,rfl⟩:∃j,i=j+1:=⟨i-1,by omega⟩;unfold A2;show(Ii (iH q _).1 _).bQ.o≠none;apply apE;rw[ald (EE hc)];exact Option.some_ne_none _
end
def pre (cs:List Int):Nat->Int
 |0=>0
 |k+1=>pre cs k+gi cs k
structure uJ (m:bJ) (p q:Int):Prop where
 may:cI m
 op:∀x∈m.cs,x<255
 dir:(m.h=1/\p=1/\q=3)\/(m.w=1/\p=2/\q=0)
section
variable {m:bJ}{p q x t s:Int}
def uJ.bF (h:uJ m p q)(hx:0<=x/\x<m.cs.length):bF m.w m.h x:=⟨⟨h.may.w,h.may.h⟩,hx.1,by rw[<-h.may.len];exact hx.2⟩
def uJ.cost (h:uJ m p q)(hx:0<=x/\x<m.cs.length):cA m x=gi m.cs x.toNat/\1<=cA m x/\cA m x<=254:=by
 have e:cA m x=gi m.cs x.toNat:=by unfold cA;grind
 have hm:=ff (l:=m.cs) (i:=x.toNat) (by omega);have h1:=h.may.jA _ hm;have h2:=h.op _ hm;omega
def uJ.Ec (h:uJ m p q)(hx:0<=x/\x<m.cs.length):eV m x=true:=by have:=h.cost hx;unfold eV;simp;omega
def uJ.step (h:uJ m p q)(hx:0<=x/\x<m.cs.length)(hs:0<=s/\s<=3):aX m.w m.h x s=if s=p then(if x+1<m.cs.length then x+1 else-1)else if s=q then x-1 else-1:=by
 have hc:=h.bF hx;have hl:=h.may.len;have hw:=h.may.w;have hh:=h.may.h;rw[aX,if_pos hc];rcases h.dir with⟨e,rfl,rfl⟩|⟨e,rfl,rfl⟩
 ·rw[e]at hl⊢;have e1:x%m.w=x:=Int.emod_eq_of_lt hx.1 (by omega);have e2:x/m.w=0:=Int.ediv_eq_zero_of_lt hx.1 (by omega);rw[e1,e2];obtain rfl|rfl|rfl|rfl:s=0\/s=1\/s=2\/s=3:=by omega
  ·rw[if_pos rfl,sP (by omega)];rfl
  ·rw[if_neg (by decide),if_neg (by decide),if_neg (by decide),if_pos rfl,if_pos rfl];split
   ·rw[ni ⟨hw,by decide⟩ (by omega) (by omega)];omega
   ·rw[sP (by omega)]
  ·rw[if_neg (by decide),if_pos rfl,sP (by omega)];rfl
  ·rw[if_neg (by decide),if_neg (by decide),if_pos rfl,if_neg (by decide),if_pos rfl];by_cases h0:x=0
   ·rw[sP (by omega)];omega
   ·rw[ni ⟨hw,by decide⟩ (by omega) (by omega)];omega
 ·rw[e]at hl⊢;obtain rfl|rfl|rfl|rfl:s=0\/s=1\/s=2\/s=3:=by omega
  ·by_cases h0:x=0
   ·rw[sP (by omega)];omega
   ·rw[ni ⟨by decide,hh⟩ (by omega) (by omega)];omega
  ·rw[if_neg (by decide),if_neg (by decide),if_neg (by decide),if_pos rfl,sP (by omega)];rfl
  ·rw[if_neg (by decide),if_pos rfl,if_pos rfl];split
   ·rw[ni ⟨by decide,hh⟩ (by omega) (by omega)];omega
   ·rw[sP (by omega)]
  ·rw[if_neg (by decide),if_neg (by decide),if_pos rfl,sP (by omega)];rfl
def uJ.pq (h:uJ m p q):(0<=p/\p<=3)/\(0<=q/\q<=3)/\p≠q:=by rcases h.dir with⟨_,rfl,rfl⟩|⟨_,rfl,rfl⟩<;>decide
def uJ.ayR (h:uJ m p q){n c:Int}(e:fJ m x n c):(0<=x/\x<m.cs.length)/\(0<=n/\n<m.cs.length)/\(n=x+1\/n=x-1)/\c=cA m n:=by
 obtain⟨h1,h2,⟨s,hs,e⟩,hc⟩:=e;have hl:=h.may.len;have hx:=(jT h.may h1).2;have hn:=(jT h.may h2).2;have hx:0<=x/\x<m.cs.length:=by omega
 rw[h.step hx hs]at e;omega
def AF (m:bJ)(t x:Int):Int:=if 0<=x/\x<m.cs.length then(if x<=t then pre m.cs (t+1).toNat-pre m.cs (x+1).toNat else pre m.cs x.toNat-pre m.cs t.toNat)else bR
def acT (h:uJ m p q)(hx:0<=x/\x<m.cs.length):pre m.cs (x+1).toNat=pre m.cs x.toNat+cA m x:=by rw[(h.cost hx).1,show(x+1).toNat=x.toNat+1 by omega];rfl
def G1 (h:uJ m p q):∀k:Nat,k<=m.cs.length->0<=pre m.cs k/\pre m.cs k<=254*k
 |0,_=>by simp[pre]
 |k+1,hk=>by have:=G1 h k (by omega);have h1:=(h.cost (x:=k) (by omega));have h2:=h1.1;rw[Int.toNat_natCast]at h2;show 0<=pre m.cs k+gi m.cs k/\pre m.cs k+gi m.cs k<=_;omega
def uJ.D (h:uJ m p q)(ht:0<=t/\t<m.cs.length)(hx:0<=x/\x<m.cs.length):D m t x=AF m t x:=by
 have hsz:=K1 h.may;have small:∀y:Int,0<=y/\y<m.cs.length->AF m t y<bR:=λy hy=>by have h1:=G1 h (t+1).toNat (by omega);have h2:=G1 h (y+1).toNat (by omega);have h3:=G1 h t.toNat (by omega);have h4:=G1 h y.toNat (by omega);unfold AF bR;omega
 have on:∀y:Int,0<=y/\y+1<m.cs.length->y<t->AF m t y=AF m t (y+1)+cA m (y+1):=λy hy hyt=>by have:=acT h (x:=y+1) (by omega);unfold AF;omega
 have back:∀y:Int,0<=y/\y<m.cs.length->t<y->AF m t y=AF m t (y-1)+cA m (y-1):=λy hy hyt=>by have h1:=acT h (x:=y-1) (by omega);unfold AF;grind
 have zero:AF m t t=0:=by unfold AF;omega
 refine anz (λy k hy=>?_) (λy n c e hn=>?_) (λ_=>?_) (λhn=>(hn (small x hx)).elim)
 ·obtain⟨rfl,_,rfl⟩:=hy;grind
 ·obtain⟨h1,h2,h3,rfl⟩:=h.ayR e;refine⟨small y h1,?_⟩;have c1:=(h.cost h1).2;have c2:=(h.cost h2).2;rcases h3 with rfl|rfl
  ·by_cases k:y<t
   ·rw[on y (by omega) k];omega
   ·have:=back (y+1) h2 (by omega);rw[show y+1-1=y by omega]at this;omega
  ·by_cases k:t<y
   ·rw[back y h1 k];omega
   ·have:=on (y-1) (by omega) (by omega);rw[show y-1+1=y by omega]at this;omega
 ·have wy:∀(k:Nat) (y:Int),0<=y/\y<m.cs.length->(y-t).natAbs=k->Wy (gh m t) (fJ m) y (AF m t y):=by
   intro k;induction k with
   |zero=>
    intro y hy hk;obtain rfl:y=t:=by omega
    rw[zero];exact .src ⟨rfl,h.Ec ht,rfl⟩
   |succ k ih=>
    intro y hy hk;by_cases l:y<t
    ·rw[on y (by omega) l];refine .go ⟨h.Ec hy,h.Ec (by omega),⟨p,h.pq.1,?_⟩,rfl⟩ (ih (y+1) (by omega) (by omega));rw[h.step hy h.pq.1,if_pos rfl,AI]
    ·rw[back y hy (by omega)];refine .go ⟨h.Ec hy,h.Ec (by omega),⟨q,h.pq.2.1,?_⟩,rfl⟩ (ih (y-1) (by omega) (by omega));rw[h.step hy h.pq.2.1,if_neg (λe=>h.pq.2.2 e.symm),if_pos rfl]
  exact wy _ x hx rfl
def uJ.jW (h:uJ m p q)(ht:0<=t/\t<m.cs.length)(hx:0<=x/\x<m.cs.length)(hne:x≠t):jW m t x=if x<t then p else q:=by
 have hD:=h.D ht hx;have hsz:=K1 h.may;have hlt:S.D m t x<bR:=by have h1:=G1 h (t+1).toNat (by omega);have h2:=G1 h (x+1).toNat (by omega);have h3:=G1 h t.toNat (by omega);have h4:=G1 h x.toNat (by omega);rw[hD];unfold AF bR;omega
 obtain⟨hr,⟨h0,hop,he⟩,_⟩:=Xf h.may hlt hne;have hst:=h.step hx hr;generalize S.jW m t x=s at*;rw[hst]at h0 he;have c0:=(h.cost hx);by_cases e1:s=p
 ·subst e1;rw[if_pos rfl]at h0 he;split at h0
  ·rename_i hlx;rw[if_pos hlx]at he;split
   ·rfl
   ·exfalso;rw[hD,h.D ht (by omega)]at he;have c1:=h.cost (x:=x+1) (by omega);have p1:=acT h hx;unfold AF at he;omega
  ·omega
 ·rw[if_neg e1]at h0 he;split at h0
  ·rename_i e2;subst e2;split
   ·exfalso;rw[hD,h.D ht (by omega)]at he;have c1:=h.cost (x:=x-1) (by omega);have p1:=acT h hx;unfold AF at he;grind
   ·rfl
  ·omega
end
end Go.Proofs.YtmegplnmiepfbaaGreatDoor.S
set_option maxRecDepth 20000
namespace Go.Proofs.YtmegplnmiepfbaaGreatDoor.S
open Go.Sx
attribute [local irreducible] af cE bw bg aA cu bY St Bx Al App cJ cB cz bW aL bD aq bT av ak aW mapA
def Jk:bJ:=⟨3,1,[5,2,9]⟩
def Mr:uJ Jk 1 3:=⟨⟨by decide,by decide,by decide,by decide⟩,by decide,.inl ⟨rfl,rfl,rfl⟩⟩
def amV:D Jk 2 0=11/\jW Jk 2 0=1:=⟨(Mr.D (by decide) (by decide)).trans (by decide),(Mr.jW (by decide) (by decide) (by decide)).trans (by decide)⟩
def aw1 {q:gI}:iH q (Ek Jk)=(⟨q.most,ldP q.bQ Jk,some ⟨q.most,0,[]⟩⟩,pT 0):=ald Mr.may
def ag4 {q:gI}{o:kX}{mp:vU}{u:tF}(hm:Dv o=true)(hk:o.k≠0/\o.k≠1/\o.k≠8)(h1:q.bQ.o=some mp)(h2:q.us=some u):iH q o=Ml q mp.g.m u o:=by unfold iH;grind
def aw2 {q:gI}{mp:vU}(h1:q.bQ.o=some mp)(hg:mp.g.m=Jk)(h2:q.us=some ⟨2,0,[]⟩):iH q ⟨3,0,2,[]⟩=(⟨q.most,q.bQ,some ⟨2,1,[⟨0,0,2⟩]⟩⟩,⟨0,0,5,0,[],[]⟩):=by rw[ag4 (by decide) (by decide) h1 h2,hg];rfl
def aw3 {q:gI}{mp:vU}{u:tF}(h1:q.bQ.o=some mp)(hg:mp.g.m=Jk)(h2:q.us=some u):iH q ⟨6,2,0,[]⟩=(⟨q.most,zI q.bQ 2 (cT Jk 0),some u⟩,⟨0,11,1,-1,[],[]⟩):=by
 rw[ag4 (by decide) (by decide) h1 h2,hg];have e:Ml q Jk u ⟨6,2,0,[]⟩=(⟨q.most,zI q.bQ 2 (cT Jk 0),some u⟩,⟨0,D Jk 2 0,jW Jk 2 0,-1,[],[]⟩):=by rw[Ml,if_neg (by decide),if_neg (by decide),if_neg (by decide),if_neg (by decide),if_pos rfl,if_pos (by decide)]
 rw[e,amV.1,amV.2]
def aw4 {q:gI}{mp:vU}(h1:q.bQ.o=some mp)(hg:mp.g.m=Jk)(h2:q.us=some ⟨2,1,[⟨0,0,2⟩]⟩):(iH q ⟨7,0,0,[]⟩).1.us=some ⟨2,1,[⟨0,1,2⟩]⟩/\(iH q ⟨7,0,0,[]⟩).2=⟨0,0,5,-1,[(0,1)],[]⟩:=by
 rw[ag4 (by decide) (by decide) h1 h2,hg];have e:sI Jk [⟨0,0,2⟩]=[1]:=by show[jW Jk 2 0]=[1];rw[amV.2]
 rw[Ml,e];exact⟨rfl,rfl⟩
section
variable {F:Nat->Prop}{W w:World}{L:List As}{lg:xH}{r:Eh}{y:zJ}
def awL {u:tF}(h:y.p.us=some u):∃x,y.cr=some x/\x.y=u:=by have h:y.cr.map (·.y)=some u:=h;simp_all
def YU {Q:Bool->World->Prop}(hL:iG w lg)(s0:Sep F W w L)(h:∀w',Sep F W w' L->Fr No w w'->Q true w'):ql w Q:=by
 apply M1;refine TP (by decide) (by decide) (bh (F:=No)) λr y w1 ey s=>?_;have i0:Dr 0 y.p:=by rw[ey];exact asz (by decide)
 apply kY;refine aO s λpb w1 s=>?_;refine aS s λmb w1 s=>?_
 iterate 3 refine sT s 0 rfl λw1 s=>?_
 refine lI s 0 rfl (lI s 0 rfl (lS s 0 rfl ?_));have hC:=acL (ns:=[5,2,9]) s (i:=1) rfl;refine O.JS s hC Mr.may λra rn rc w1 s _=>?_;have s:=pk 4 [3,0,1,2] s;have o1:=aeH Mr.may (by decide);refine acR hL o1 (λw' s'=>aN s' (i:=0) rfl cV (by decide)) (i0.sm (by decide)) s λr1 y1 ma mn mc ga gn gc ab w1 er ey1 s=>?_;rw[<-er];have i1:Dr 1 y1.p:=by rw[ey1];exact acS i0 o1
 obtain⟨mp1,h1,g1,u1⟩:∃mp,y1.p.bQ.o=some mp/\mp.g.m=Jk/\y1.p.us=some ⟨2,0,[]⟩:=by rw[ey1,aw1,ey];exact⟨_,rfl,rfl,rfl⟩
 have s:=pk 4 [3,0,1,2] s;refine acR hL (lC (by decide)) (λw' s'=>zR) (i1.sm (by decide)) s λr2 y2 ma mn mc ga gn gc bb w1 er WZ s=>?_;rw[<-er];have i2:Dr 2 y2.p:=by rw[WZ];exact acS i1 (lC (by decide))
 rw[aw2 h1 g1 u1]at WZ s;have h2:y2.p.bQ.o=some mp1:=by rw[WZ];exact h1
 have u2:y2.p.us=some ⟨2,1,[⟨0,0,2⟩]⟩:=by rw[WZ]
 have s:=pk 4 [3,0,1,2] s;refine acR hL (lC (by decide)) (λw' s'=>zR) (i2.sm (by decide)) s λr3 y3 ma mn mc ga gn gc cb w1 er ey3 s=>?_;rw[<-er];have i3:Dr 3 y3.p:=by rw[ey3];exact acS i2 (lC (by decide))
 rw[aw3 h2 g1 u2]at ey3 s;obtain⟨mp3,h3,g3⟩:=A4 h2 2 (cT Jk 0);have h3:y3.p.bQ.o=some mp3:=by rw[ey3];exact h3
 have u3:y3.p.us=some ⟨2,1,[⟨0,0,2⟩]⟩:=by rw[ey3]
 rw[<-g3]at g1;have s:=pk 4 [3,0,1,2] s;refine acR hL (lC (by decide)) (λw' s'=>zR) (i3.sm (by decide)) s λr4 y4 ma mn mc ga gn gc db w1 er ey4 s=>?_;rw[<-er];obtain⟨u4,q4⟩:=aw4 h3 g1 u3;rw[<-ey4]at u4;rw[q4]at s;apply lI s 10 rfl;show cond true _ _;apply lI s 7 rfl;show cond true _ _;apply lI s 4 rfl;show cond true _ _;apply lI s 4 rfl;show cond true _ _;apply lS s 0 rfl;refine aO s λxb w1 s=>?_;have s:Sep No w w1 (ak (sZ xb) 1 1 51 2 (flat lO [(0,1)])::_):=gX s (i:=0) rfl rfl (by decide) (λu hu=>by rcases List.mem_cons.1 hu with rfl|hu;rfl;rcases List.mem_cons.1 hu with rfl|hu;rfl;cases hu);have hX:=aN s (i:=2) rfl N7 (by decide);have hY:=aN s (i:=0) rfl N7 (by decide);have hl:=hX.len;refine aki hX hY s (by simp at hl;omega) λw1 s _=>?_;obtain⟨x,hx,ex⟩:=awL u4;have s:=pk 5 [4,0,1,2,3] s;refine acP hx s λua un uc w1 s=>?_;have hU:=(aN s (i:=0) rfl Jc (by decide)).len;rw[ex]at hU;have hU:1=un:=hU;rw[dN (show(un:Int)=1 by omega)];exact h w1 (bS s0 (au s)) (au s)
end
section
variable {W w:World}{L:List As}{lg:xH}{ra rb rz:Eh}{ya yb yz:zJ}{xa va ca la na:Option Addr}{xn xc vn vc cn cc ln lc nn nc:Nat}{X Y:List kX}{t:Int}
def Dr.at_ {q:gI}(h:Dr t q)(hu:q.bQ.o≠none):∃m u,q.bQ.o=some m/\q.us=some u/\J5 q.most m.g.m u/\u.next<=t:=by
 rcases h.st with⟨e,_⟩|h
 all_goals grind
end
section
variable {F:Nat->Prop}{W w w0:World}{L:List As}{lg:xH}{r:Eh}{y:zJ}{a ca la:Option Addr}{n c cn cc ln lc:Nat}{m:bJ}{u:tF}{k t x:Int}
def ajA {Q:Bool->World->Prop}(hm:cI m)(hA:Sl w a n c 1 bp m.cs)(s0:Sep F W w L)(h:∀w',Sep F W w' L->Fr No w w'->Q true w'):tR m.w m.h a n c w Q:=by
 refine Kr _ _ _ _ _ _ _ ?_;have hl:=hA.len;have hml:=hm.len;have hmul:=mY ⟨hm.w,hm.h⟩;have hw:=hm.w;have hh:=hm.h;refine aO (bh (F:=No) (w:=w)) λb w s=>?_;refine lI s 0 rfl (lI s 0 rfl ?_);refine D7 _ _ _ _ ?_;refine O.zy ?_;rw[bM];refine O.zy ?_;show cond _ _ _;rw[bM];refine lS s 0 rfl (lI s 0 rfl (lI s 0 rfl ?_));rw[aG,dN (show(n:Int)=m.w*m.h by omega),cond_true];refine lS s 0 rfl ?_;refine M8 _ _ _ _ _ ?_;have hA:=hA.fr (au s);have loop:∀j i:Nat,i+j=n->sG (λt w=>Q t w) (j+1) a n c i w:=by
  intro j;induction j with
  |zero=>
   intro i hi;show oP _ _ _ _ _ _ _;unfold oP;rw[bq];exact h w (bS s0 (au s)) (au s)
  |succ j ih=>
   intro i hi;show oP _ _ _ _ _ _ _;unfold oP;rw[bM];refine hA.yK (k:=i) rfl (by omega) ?_;have:=hm.jA _ (ff (l:=m.cs) (i:=i) (by omega));rw[cy (by omega),cond_false,Mf (by omega)];exact ih (i+1) (by omega)
 exact⟨n+1,loop n 0 (by omega)⟩
structure SvQ (k:Int) (q:gI) (m:bJ) (u:tF):Prop where
 I:Dr k q
 o:∃mp,q.bQ.o=some mp/\mp.g.m=m
 us:q.us=some u
def SvQ.nu {q:gI}(h:SvQ k q m u):J5 q.most m u:=by obtain⟨mp,h1,rfl⟩:=h.o;obtain⟨m',u',e1,e2,e3,_⟩:=h.I.at_ (by rw[h1];exact Option.some_ne_none _);rw[h1]at e1;rw[h.us]at e2;cases e1;cases e2;exact e3
def atN {A B:Int}(hA:bF m.w m.h A)(hB:bF m.w m.h B):Dv ⟨6,A,B,[]⟩=true:=by have:=IS hA;have:=IS hB;exact(zZ (by simp) (by omega) (by omega) (λh=>absurd h (by decide)) λh=>absurd h (by decide)).may
def ary {q:gI}(h:SvQ k q m u)(ht:bF m.w m.h t)(hx:bF m.w m.h x):SvQ (k+1) (iH q ⟨6,t,x,[]⟩).1 m u/\(iH q ⟨6,t,x,[]⟩).2=⟨0,D m t x,jW m t x,-1,[],[]⟩:=by obtain⟨mp,h1,rfl⟩:=h.o;have hi:=acS h.I (lC (k:=6) (A:=t) (B:=x) (by decide));rw[ag4 (atN ht hx) (show(6:Int)≠0/\(6:Int)≠1/\(6:Int)≠8 by decide) h1 h.us]at hi⊢;unfold Ml at hi⊢;rw[if_neg (show¬(6:Int)=2 by decide),if_neg (show¬(6:Int)=3 by decide),if_neg (show¬(6:Int)=4 by decide),if_neg (show¬(6:Int)=5 by decide),if_pos rfl,if_pos ⟨ht,hx⟩]at hi⊢;obtain⟨TO,e1,e2⟩:=A4 h1 t (cT mp.g.m x);exact⟨⟨hi,⟨TO,e1,by rw[e2]⟩,rfl⟩,rfl⟩
def TR {Q:Int->Int->Bool->World->Prop}(hL:iG W lg)(h:SvQ k y.p m u)(hk:k<1000000000)(ht:bF m.w m.h t)(hx:bF m.w m.h x)(s:Sep No W w (fP r y::L))
  (g:∀r' y' w',r'.p=r.p->SvQ (k+1) y'.p m u->Sep No W w' (fP r' y'::L)->Q (D m t x) (jW m t x) true w'):qm (sZ r.p) t x w Q:=by
 refine M9 _ _ _ _ _ ?_;obtain⟨h1,h2⟩:=ary h ht hx;refine acR (o:=⟨6,t,x,[]⟩) hL (lC (by decide)) (λw' s'=>zR) (h.I.sm hk) s λr' y' ma mn mc ga gn gc p w er ey s=>?_;rw[h2]at s;rw[<-ey]at h1;have s:=ay s;refine lI s 0 rfl (lI s 0 rfl (lI s 0 rfl ?_));refine⟨cg s 0 rfl,cg s 0 rfl,cg s 0 rfl,?_⟩;exact g r' y' _ er h1 (ai (ai (ai s)))
def arz {q:gI}{mp:bJ}{o:kX}:(Ml q mp u o).1.most=q.most:=by
 unfold Ml
 repeat' split
 all_goals rfl
def arA {q:gI}{o:kX}:(iH q o).1.most=q.most:=by
 unfold iH
 repeat' split
 all_goals first|rfl|exact arz
def ajB:∀(os:List kX) {q:gI},(Ii q os).most=q.most
 |[],q=>rfl
 |o::os,q=>(ajB os).trans arA
def ajC {Q:Option Addr->World->Prop}{most mw mh:Int}{cs:List Int}{xs:List xM}(hk:1<=k/\k<=100000)(hm:1<=most/\most<=65536)(hL:iG w lg)(hC:Sl w ca cn cc 1 bp cs)(hcs:dZ cs)(QS:cn<9223372036854775808)(hA:Sl w la ln lc 3 O.aaK xs)
  (hl:ln<=60)(h:∀r y m u w',SvQ 100 y.p m u->y.p.most=most->Sep No w w' [fP r y]->Q (sZ r.p) w'):uY k most mw mh ca cn cc la ln lc w Q:=by
 refine LB _ _ _ _ _ _ _ _ _ _ _ _ ?_;refine TP hk hm (bh (F:=No) (w:=w)) λr y w1 ey s=>kY ?_;refine O.aeG s (hC.fr (au s)) hcs QS (hA.fr (au s)) λxa xn xc w1 A s f ⟨vs,hX⟩=>?_;have hin:=apD (w:=mw) (h:=mh) hcs xs;have hup:=λi hi=>apF (w:=mw) (h:=mh) hcs xs (amU k most) (i:=i) hi;have hl1:=alv mw mh cs xs;have h0:0<(A2 mw mh cs xs).length:=by unfold A2;simp
 generalize A2 mw mh cs xs=X at*;have hXl:=(hX s).2.1;have hI:∀i:Nat,i<=xn->Dr i (Ii (amU k most) (X.take i)):=λi hi=>by have:=asA (X.take i) (asz (k:=k) hm) λo ho=>hin o (List.mem_of_mem_take ho);rw[List.length_take,Int.zero_add,show min i X.length=i by omega]at this;exact this
 have loop:∀(j i:Nat) (w2:World) (r:Eh) (y:zJ),i+j=xn->y.p=Ii (amU k most) (X.take i)->Sep No w w2 [fP r y,A]->rC Q (j+1) (sZ r.p) xa xn xc i w2:=by
  intro j;induction j with
  |zero=>
   intro i w2 r y hi hy s;show nR _ _ _ _ _ _ _ _;unfold nR;rw[bq];obtain⟨mp,u,e1,e2,e3,e4⟩:=(hI i (by omega)).at_ (hup i (by omega));have ho:y.p.bQ.o=some mp:=by rw[hy];exact e1
   obtain⟨m,o1,o2⟩:=GW (y:=y.bQ) (mp:=mp) ho;have eg:m.g=mp.g:=congrArg vU.g o2;refine TQ o1 s λra rn rc w s _=>?_;have hB:=aN s (i:=0) rfl cV (by decide);rw[eg]at hB⊢;refine ajA e3.may hB s λw s _=>?_;rw[Bool.not_true,cond_false];have hq:=hI i (by omega);have hmo:y.p.most=most:=by rw[hy];exact ajB _
   rw[<-hy]at hq e2;exact h r y mp.g.m u w ⟨hq.mono (by omega),⟨mp,ho,rfl⟩,e2⟩ hmo (pk 3 [1] s)
  |succ j ih=>
   intro i w2 r y hi hy s;show nR _ _ _ _ _ _ _ _;unfold nR;rw[bM];have hIi:=hI i (by omega);have ho:X[i]? =some (X[i]'(by omega)):=List.getElem?_eq_getElem _;generalize X[i]'(by omega)=o at ho;have ayS:=hin o (List.mem_of_getElem? ho);refine(hX (iZ s)).El rfl ho λp va vn vc hv hc=>?_;refine aR (hc 0 _ rfl) (aR (hc 1 _ rfl) (aR (hc 2 _ rfl) (dx (hc 3 _ rfl) ?_)));refine W3 (o:=o) hL ayS (λw' s'=>((hX s').2.2 i _ o hv ho).m) (by rw[hy];exact hIi.sm (by omega)) s λr' y' ma mn mc ga gn gc w er ey s=>?_;rw[Mf (by omega),<-er];exact ih (i+1) w r' y' (by omega) (by rw[ey,hy,arw (by omega) ho]) (ai (ai s))
 exact⟨xn+1,loop xn 0 w1 r y (by omega) ey (iZ s)⟩
end
section
variable {F:Nat->Prop}{W w w0:World}{L:List As}{lg:xH}{r:Eh}{y:zJ}{m:bJ}{u:tF}{k t x:Int}
def apG (hm:cI m):(jW m t x=5/\D m t x=bR)\/(jW m t x=4/\x=t/\D m t x=0)\/((0<=jW m t x/\jW m t x<=3)/\D m t x<bR/\x≠t):=by
 by_cases hD:D m t x<bR
 ·by_cases hx:x=t
  ·refine .inr (.inl ⟨?_,hx,?_⟩)
   ·unfold jW;rw[if_neg (by omega),if_pos hx]
   ·obtain⟨d,hd⟩:=(Au hm).1 hD;rw[hx];exact anU (Xd hd).2
  ·exact .inr (.inr ⟨(Xf hm hD hx).1,hD,hx⟩)
 ·have e:=Xe (m:=m) (t:=t) (x:=x) λh=>hD ((Au hm).2 h);refine .inl ⟨?_,e⟩;unfold jW;rw[if_pos e]
def amW (hm:cI m):0<=D m t x/\(D m t x=bR\/D m t x<=254*(m.w*m.h-1)):=by
 by_cases hD:D m t x<bR
 ·obtain⟨d,hd⟩:=(Au hm).1 hD;exact⟨(ail hm hd).1,.inr (ail hm hd).2⟩
 ·have e:=Xe (m:=m) (t:=t) (x:=x) λh=>hD ((Au hm).2 h);rw[e];exact⟨by decide,.inl rfl⟩
def ale (hm:cI m)(hx:bF m.w m.h x):cA m x=gi m.cs x.toNat:=by have:=hx.2;have:=hm.len;unfold cA;rw[if_pos (by omega)]
def atO (hm:cI m)(hx:bF m.w m.h x):eV m x=true↔gi m.cs x.toNat≠255:=by have h1:=hx.2;have h2:=hm.len;have:=hm.jA _ (ff (l:=m.cs) (i:=x.toNat) (by omega));unfold eV;rw[ale hm hx];simp;omega
def akj {K:Addr->World->Prop}(h:SvQ k y.p m u)(s:Sep No W w (fP r y::L))
  (g:∀(vb:Nat) (ra:Option Addr) (rn rc:Nat) w',(rn:Int)=m.w*m.h->Sep No W w' (av vb 25 [ae m.w,ae m.h,.slice ra rn rc]::ak ra rn rc 5 1 (flat bp m.cs)::fP r y::L)->K (aZ vb) w'):
  oh (sZ r.p) w λq r s t u w=>Al T 25 w λv w=>St (v.add 0) (ae q) w λw=>St (v.add 1) (ae r) w λw=>St (v.add 2) (.slice s t u) w λw=>K v w:=by
 have hn:=h.nu;obtain⟨mp,ho,rfl⟩:=h.o;obtain⟨m,o1,o2⟩:=GW (y:=y.bQ) (mp:=mp) ho;have eg:m.g=mp.g:=congrArg vU.g o2;refine TQ o1 s λra rn rc w s _=>?_;rw[eg]at s⊢;have hl:=(aN s (i:=0) rfl cV (by decide)).len;have:=hn.may.len;refine aS s λvb w s=>?_;rw[ayJ]at s
 iterate 3 refine sT s 0 rfl λw s=>?_
 exact g vb ra rn rc w (by omega) s
end
section
variable {W w:World}{L:List As}{lg:xH}{ca la a:Option Addr}{cn cc ln lc vb n c:Nat}{m:bJ}{u:tF}{t x:Int}
def arB (hm:cI m)(hD:D m t x<bR){s:Int}(hs:0<=s/\s<=3)(ho:eV m (aX m.w m.h x s)=true):D m t x<=D m t (aX m.w m.h x s)+cA m (aX m.w m.h x s):=by
 by_cases h:D m t (aX m.w m.h x s)<bR
 ·obtain⟨d,hd⟩:=(Au hm).1 h;obtain⟨e,he⟩:=(Au hm).1 hD;exact auv ⟨(Xd he).1,ho,⟨s,hs,rfl⟩,rfl⟩ hd
 ·have:=amW (t:=t) (x:=aX m.w m.h x s) hm;have:=xD ho;omega
def afR {Q:Bool->World->Prop}(hL:iG W lg)(hm:cI m)(h:D m t x=bR\/x=t)(s:Sep No W w L)(hQ:∀w',Sep No W w' []->Q true w'):lJ Q (D m t x) (jW m t x) w:=by
 unfold lJ;refine YU (hL.fr (au s)) s λw s _=>?_;rw[cond_true];have s:=bS (bh (F:=No)) (au s);have h5:bR=1099511627776:=rfl;rcases apG (t:=t) (x:=x) hm with⟨h1,h2⟩|⟨h1,h2,h3⟩|h1
 ·rw[h1,h2];exact hQ w s
 ·rw[h1,h3];exact hQ w s
 ·omega
def amX {Q:Bool->World->Prop}(hL:iG W lg)(hm:cI m)(ht:bF m.w m.h t)(hx:bF m.w m.h x)(hn:(n:Int)=m.w*m.h)(hD:D m t x<bR)(hxt:x≠t)(hQ:∀w',Sep No W w' []->Q true w'):
  ∀(j:Nat) (i k:Int) (w:World) (r:Eh) (y:zJ),i+j=4->0<=i->SvQ k y.p m u->k+j<900000000->
   Sep No W w [fP r y,av vb 25 [ae m.w,ae m.h,.slice a n c],ak a n c 5 1 (flat bp m.cs)]->
   jz Q (j+1) (sZ r.p) (aZ vb) t x (D m t x) (jW m t x) i w:=by
 obtain⟨hd,⟨q1,q2,q3⟩,q4⟩:=Xf hm hD hxt;intro j;induction j with
 |zero=>
  intro i k w r y hi h0 hq hk s;show lN _ _ _ _ _ _ _ _ _ _;unfold lN;rw[bq];refine YU (hL.fr (au s)) s λw s _=>?_;rw[cond_true,decide_eq_true hd.2];exact hQ w (bS (bh (F:=No)) (au s))
 |succ j ih=>
  intro i k w r y hi h0 hq hk s;show lN _ _ _ _ _ _ _ _ _ _;unfold lN;rw[bM];refine lI s 1 rfl (lI s 1 rfl ?_);refine jt s λw s _=>?_;have hb:=λh=>arB (t:=t) hm hD (s:=i) (by omega) h;have h4:=q4 i h0;have hwr:IntKind.wrap .i64 (i+1)=i+1:=aG;have no:i≠jW m t x->∀{w},Sep No W w [fP r y,av vb 25 [ae m.w,ae m.h,.slice a n c],ak a n c 5 1 (flat bp m.cs)]->lK (jz Q (j+1)) Q (sZ r.p) (aZ vb) t x (D m t x) (jW m t x) i w:=λhne {w} s=>by unfold lK;rw[cy hne,cond_false,hwr];exact ih (i+1) k w r y (by omega) (by omega) hq (by omega) s
  have hwh:=mY ⟨hm.w,hm.h⟩;have hlen:=hm.len;unfold Is at h4;have hdx:i=jW m t x->0<=aX m.w m.h x i/\eV m (aX m.w m.h x i)=true/\cA m (aX m.w m.h x i)+D m t (aX m.w m.h x i)=D m t x:=λe=>by rw[e];exact⟨q1,q2,q3⟩
  have hst:=xN (w:=m.w) (h:=m.h) (c:=x) (s:=i);generalize aX m.w m.h x i=z at*;have hzr:z<m.w*m.h:=by
   by_cases hz:0<=z
   ·exact(hst hz).2.2.2
   ·omega
  refine lS s 1 rfl ?_;rw[bq];by_cases hz:z<0
  ·rw[bM];exact no (λe=>by have:=(hdx e).1;omega) s
  rw[bq];have hzc:=(hst (by omega)).2;have KY:=ale hm hzc;have hop:=atO hm hzc;have hM:=aN s (i:=2) rfl cV (by decide);refine lS s 1 rfl ?_;refine hM.yK (k:=z.toNat) (by omega) (by omega) ?_;by_cases W1:gi m.cs z.toNat=255
  ·rw[dN W1,cond_true];exact no (λe=>(hop.1 (hdx e).2.1) W1) s
  rw[cy W1,cond_false];have arC:=hop.2 W1;have hcp:=xD arC;have hb:=hb arC;have hdz:=amW (t:=t) (x:=z) hm;have h5:bR=1099511627776:=rfl;have e1:IntKind.wrap .i64 (cA m z)=cA m z:=aG;have e2:IntKind.wrap .i64 (D m t z+cA m z)=D m t z+cA m z:=aG;refine TR hL hq (by omega) ht hzc s λr' y' w er II s=>?_;rw[Bool.not_true,cond_false];have hM:=aN s (i:=2) rfl cV (by decide);refine lS s 1 rfl ?_;refine hM.yK (k:=z.toNat) (by omega) (by omega) ?_;rw[<-KY,e1,e2,bq];have nx:∀{w},Sep No W w [fP r' y',av vb 25 [ae m.w,ae m.h,.slice a n c],ak a n c 5 1 (flat bp m.cs)]->jz Q (j+1) (sZ r.p) (aZ vb) t x (D m t x) (jW m t x) (IntKind.wrap .i64 (i+1)) w:=λ{w} s=>by rw[hwr,<-er];exact ih (i+1) (k+1) w r' y' (by omega) (by omega) II (by omega) s
  by_cases hlt:i<jW m t x
  ·rw[bM hlt];refine lS s 1 rfl ?_;refine hM.yK (k:=z.toNat) (by omega) (by omega) ?_;rw[<-KY,e1,e2,cy (λe=>h4 hlt ⟨by omega,arC,by omega⟩),cond_false,cy (by omega),cond_false];exact nx s
  ·rw[bq hlt];by_cases he:i=jW m t x
   ·rw[dN he,cond_true];refine lS s 1 rfl ?_;refine hM.yK (k:=z.toNat) (by omega) (by omega) ?_;rw[<-KY,e1,e2,Es (by have:=(hdx he).2.2;omega),cond_false];exact nx s
   ·rw[cy he,cond_false];exact nx s
def aeI {Q:Bool->World->Prop}{mw mh goal cell:Int}{cs:List Int}{xs:List xM}(hL:iG W lg)(hC:Sl W ca cn cc 1 bp cs)(hcs:dZ cs)(QS:cn<9223372036854775808)(hA:Sl W la ln lc 3 O.aaK xs)(hQ:∀w',Sep No W w' []->Q true w'):
  AJ mw mh ca cn cc la ln lc goal cell W Q:=by
 refine JL _ _ _ _ _ _ _ _ _ _ _ _ ?_;refine apB (k:=12) hA λa1 c1 hA=>?_;refine ajC (by decide) (by decide) hL hC hcs QS hA (by omega) λr y m u w hq _ s=>kY ?_;have hn:=hq.nu;have hm:=hn.may;have hwh:=mY ⟨hm.w,hm.h⟩;refine akj hq s λvb ra rn rc w hrn s=>?_;refine lS s 0 rfl (lS s 0 rfl ?_);have s:=ay s;rw[aG];refine Hp.b_ (by omega) (by decide) (by omega) ?_;refine⟨cg s 0 rfl,?_⟩;refine Hp.b_ (by omega) (by decide) (by omega) ?_;have h1:=Int.emod_nonneg goal (b:=(rn:Int)-1-0+1) (by omega);have h2:=Int.emod_lt_of_pos goal (b:=(rn:Int)-1-0+1) (by omega);have h3:=Int.emod_nonneg cell (b:=(rn:Int)-1-0+1) (by omega);have h4:=Int.emod_lt_of_pos cell (b:=(rn:Int)-1-0+1) (by omega);have ht:bF m.w m.h (0+goal%((rn:Int)-1-0+1)):=⟨⟨hm.w,hm.h⟩,by omega,by omega⟩;have hx:bF m.w m.h (0+cell%((rn:Int)-1-0+1)):=⟨⟨hm.w,hm.h⟩,by omega,by omega⟩;generalize 0+goal%((rn:Int)-1-0+1)=t at*;generalize 0+cell%((rn:Int)-1-0+1)=x at*;have s:=pk 3 [2,0,1] s;refine TR hL hq (by decide) ht hx s λr' y' w er hq s=>?_;rw[Bool.not_true,cond_false];have hD:=amW (t:=t) (x:=x) hm;by_cases hI:D m t x=bR
 ·rw[dN (show D m t x=1099511627776 from hI),cond_true];exact afR hL hm (.inl hI) s hQ
 rw[cy (show¬D m t x=1099511627776 from hI),cond_false];by_cases hxt:x=t
 ·rw[dN hxt,cond_true];exact afR hL hm (.inr hxt) s hQ
 rw[cy hxt,cond_false,<-er];have hI2:D m t x<bR:=by have h5:bR=1099511627776:=rfl;omega
 exact⟨_,amX hL hm ht hx hrn hI2 hxt hQ 4 0 _ w r' y' (by decide) (by decide) hq (by decide) s⟩
end
end Go.Proofs.YtmegplnmiepfbaaGreatDoor.S
namespace Go.Proofs.YtmegplnmiepfbaaGreatDoor.S
open Go.Sx
def ca (q:pS):Int:=q.past.a+(WY q).a
def cb (q:pS):Int:=q.past.b+(WY q).b
def cc (q:pS):Int:=q.past.c+q.sh.b
def cd (q:pS):Int:=q.past.d+q.sh.h
structure CtI (B:Int) (q:pS):Prop where
 p:0<=q.past.a/\0<=q.past.b/\0<=q.past.c/\0<=q.past.d
 n:0<=(WY q).a/\0<=(WY q).b
 s:0<=q.sh.b/\0<=q.sh.h
 le:ca q<=B/\cb q<=B/\cc q<=B/\cd q<=B
 vs:∀mp,q.o=some mp->(mp.S8.length:Int)<=eI mp.g.m.w mp.g.m.h/\(mp.g.vs.length:Int)<=eI mp.g.m.w mp.g.m.h
structure Gr (q q':pS) (n p:Int):Prop where
 a:ca q'<=ca q+n
 b:cb q'<=cb q+p
 c:cc q'<=cc q+p
 d:cd q'<=cd q+p
set_option maxRecDepth 20000
section
variable {B t n p:Int}{q:gI}{mp:vU}{u:tF}{o:kX}
structure aBi (B:Int) (q q':pS) (w h d U:Int):Prop where
 c:CtI B q'
 g:Gr q q' (eI w h) (U+1)
 d:0<=d/\(d=bR\/d<=254*(w*h-1))
end
end Go.Proofs.YtmegplnmiepfbaaGreatDoor.S
set_option maxRecDepth 20000
namespace Go.Proofs.YtmegplnmiepfbaaGreatDoor.S
open Go.Sx
attribute [local irreducible] af cE bw bg aA cu bY St Bx Al App cJ cB cz bW aL bD aq bT av ak aW mapA
def gb (ws:List Bool)(k:Nat):Bool:=ws.getD k false
structure ayT (w h:Int) (us:List aU) (ws:List Bool) (N:Nat):Prop where
 len:ws.length=N
 at_:∀c,bF w h c->gb ws c.toNat=stand us c
section
variable {W:World}{lg:xH}{r:Eh}{y:zJ}{a ua ia ma ga xa:Option Addr}{vb an n c un uc ic mn mc gn gc xn xc:Nat}{fS:FE}{m:bJ}{us:List aU}{M:List (Int×Int)}{G ds:List Int}{tk dd:Int}
structure TkI (m:bJ) (us:List aU) (ds:List Int) (M:List (Int×Int)) (G:List Int) (n i:Nat) (done:List aU) (todo:List (aU×Int)) (mv:List (Int×Int)) (gs:List Int) (ws:List Bool):Prop where
 td:todo=(us.zip ds).drop i
 M:M=mv++(dg m.w m.h done todo).2.1
 G:G=gs++(dg m.w m.h done todo).2.2
 U:nU m.w m.h (done++todo.map (·.1))
 W:ayT m.w m.h (done++todo.map (·.1)) ws n
 mv:mv.length<=i
 gs:gs.length<=i
end
end Go.Proofs.YtmegplnmiepfbaaGreatDoor.S
namespace Go.Proofs.YtmegplnmiepfbaaGreatDoor.S
open Go.Sx
def nx (q:gI):Int:=match q.us with|some u=>u.next|none=>0
def Tg (q:gI):List Int:=match q.us with|some u=>u.us.map (·.id)|none=>[]
inductive aB5 (q q':gI) (o:kX) (a:aaJ):Prop
 |load (hk:o.k=1) (hc:a.code=0) (hm:a.GY=[]) (hg:a.gone=[]) (hn:nx q'=0) (hi:Tg q'=[])
 |spawn (hk:o.k=3) (hc:a.code=0) (zT:a.id=nx q) (hm:a.GY=[]) (hg:a.gone=[]) (hn:nx q'=nx q+1) (hi:Tg q'=Tg q++[nx q])
 |drop (hk:o.k=5/\a.code=0\/o.k=4/\a.code=13) (hm:a.GY=[]) (hg:a.gone=[]) (hn:nx q'=nx q) (hA:o.A∈Tg q) (hi:Tg q'=(Tg q).filter λx=>!decide (x=o.A))
 |none (h1:¬(o.k=1/\a.code=0)) (h3:¬(o.k=3/\a.code=0)) (h5:¬(o.k=5/\a.code=0)) (h4:¬(o.k=4/\a.code=13)) (hm:∀p∈a.GY,p.1∈Tg q) (hn:nx q'=nx q) (hp:(Tg q'++a.gone).Perm (Tg q))
structure aBj (S:List Int) (lv:List Bool):Prop where
 len:lv.length=60
 at_:∀i:Nat,i<60->gb lv i=decide ((i:Int)∈S)
def below (S:List Int)(p:Nat):Nat:=(S.filter λx=>decide (x<(p:Int))).length
end Go.Proofs.YtmegplnmiepfbaaGreatDoor.S
set_option maxRecDepth 20000
namespace Go.Proofs.YtmegplnmiepfbaaGreatDoor.S
open Go.Sx
attribute [local irreducible] af cE bw bg aA cu bY St Bx Al App cJ cB cz bW aL bD aq bT av ak aW mapA
end Go.Proofs.YtmegplnmiepfbaaGreatDoor.S
namespace Go.Proofs.YtmegplnmiepfbaaGreatDoor.S
open Go.Sx
abbrev two (N c0 c1:Int):List aU:=[⟨0,c0,N-1⟩,⟨1,c1,0⟩]
end Go.Proofs.YtmegplnmiepfbaaGreatDoor.S
set_option maxRecDepth 20000
namespace Go.Proofs.YtmegplnmiepfbaaGreatDoor.S
open Go.Sx
attribute [local irreducible] af cE bw bg aA cu bY St Bx Al App cJ cB cz bW aL bD aq bT av ak aW mapA
end Go.Proofs.YtmegplnmiepfbaaGreatDoor.S
namespace Go.Sx
open Go.ChangeShapes Go.WideShapes Go.RowKit
def apH (X:World->Prop)(P:Program)(f:FuncId)(UZ:List Sh):Prop:=
 ∀(W:World) (args:List Value),X W->yq W UZ args->aq P f args.toArray W λv W'=>dB v λr=>r=true/\Below W.heap.size W W'
def av1 {H:Type}{enc:TypeId×Value->H}{C:Checked}{os:Os}{f:FuncId}{fn:Func}{s:ChangeSpec}{conds:List PathCond}{ts:List TypeId}{UZ:List Sh}{tb:TypeId}{fuel:Nat}{X:World->Prop}
  (hX:∀w w':World,w.heap=w'.heap->X w->X w')
  (own:ownKnob C.prog.godebug=none)(started:os.Started)(noInit:C.prog.inits.idxOf? f=none)(hfn:C.prog.funcs[f]? =some fn)
  (witness:∃(w:World) (tape:Tape) (i:Input),w.os=os/\(w.forCall tape i).Shaped C.prog/\i.vars=[]/\Input.okWide C.prog (w.forCall tape i) .any w.heap.size f i/\
   ((s.pre enc C.prog fn conds false (w.forCall tape i).memory i.args/\X (w.forCall tape i).memory)/\sizedMet enc C.prog fn (OpenSpec.ofChange s) false (w.forCall tape i).memory i.args)/\({}:Assume).holds C.prog (lone (Frame.enter C.prog f i.args .normal) [] (w.forCall tape i)))
  (hl:laidOutB C.prog=true)(hts:fn.params.toList=ts)(ayU:ts.map (KX C.prog fuel)=UZ.map some)(hrd:(ts.all λt=>C.prog.readableRec t&&decide (t<C.prog.types.size))=true)
  (hvars:s.vars=[])(hres:fn.resultTypes=#[tb])(htb:C.prog.underlying tb=some .bool)
  (hspec:∀(ds:List (DataW H)),ds.length=ts.length->s.fn H ds={results:=[.lit (.bool true)],args:=ds})
  (law:apH X C.prog f UZ):
  ReturnsInHanded {} C os f .any (λw args=>(s.pre enc C.prog fn conds false w args/\X w)/\sizedMet enc C.prog fn (OpenSpec.ofChange s) false w args) (s.post enc C.prog fn false true false false):=by
 apply returnsInHanded_of_change_and (λw w' _ hh h=>hX w w' hh h) own started noInit hfn witness;intro W base args ds gs before hval hW _ _ hXW _;have hW':=hW;obtain⟨p,q,hA,hV,rfl,hfz,hnd⟩:=hW;rw[hvars]at hV;obtain⟨rfl,rfl⟩:=trodVars_none hV;rw[hts]at hA;have avW:=ahs ayU (λj t v ht hv=>hval j t v (by grind) (by grind)) hA;have hlt:∀x∈p,x.block<W.heap.size:=λx hx=>hW'.lt x (by simp[hx]);have hc:=law W args.toList hXW avW;unfold aq at hc;refine hc.mono λe W' he=>?_;cases e with
 |returned v=>
  obtain⟨r,rfl,rfl,bel⟩:=Hs he;have hsp:=hspec ds (Pa hA);refine⟨_,rfl,ds,[],p++[],[],p,[],hW',?_,?_,?_,bel.frame _,λh=>by cases h⟩
  ·rw[List.append_nil,hsp,hres];exact trodAll_mk1 (shut_bool htb _)
  ·rw[List.append_nil,hsp,hts];exact Tn hl bel hrd hA hlt
  ·rw[List.append_nil,hsp,hvars];simp[DataW.TrodVars]
 |_=>exact he.elim
end Go.Sx
namespace Go.Proofs.YtmegplnmiepfbaaGreatDoor.S
open Go.Sx
def asC: "*"++ "errors.errorString"= "*errors.errorString":=by decide
def ayV (u:TypeId)(h:P.typeName? 3 u=some "*errors.errorString"):u=401:=
 typeName_ptr_named (by rw[asC];kernel_rfl) (by kernel_rfl) (by decide) u (by rw[asC];exact h)
def avX:P.cellsOf 422=1:=by kernel_rfl
def arD:P.cellsOf 9=1:=by kernel_rfl
def RowsIn (W:World)(ps:List MemPlace):Prop:=∀b off,MemPlace.cell b off∈ps->(∃c t,W.heap[b]? =some (.cells c t (0,0)))/\∀u v,W.cell? ⟨b,off,none⟩=some (.iface u v)->Value.okWide P W .any 0 u v
set_option maxRecDepth 100000 in
theorem Ij {W:World}{n:String}{g:Nat}{text:List UInt8}{rest:List (String×DataW Unit)}{ps:List MemPlace}(hg:P.globalNamed n=some g)(ht:(P.globals[g]?).map (·.type)=some 74)
  (h:DataW.LaidVars P W ((n,.iface "*errors.errorString" (.ptr (.agg [.lit (.string text)])))::rest) ps)(hr:RowsIn W ps):
  ∃a q,W.cell? ⟨g,0,none⟩=some (.iface 401 (.pointer (some a)))/\(∃c t,W.heap[a.block]? =some (.cells c t (0,0)))/\DataW.LaidVars P W rest q/\RowsIn W q/\ps=.cell g 0::.cell a.block a.off::q:=by
 obtain⟨g0,t0,cs,f,p,q,hg0,ht0,hv,hd,hq,rfl⟩:=h;obtain rfl:=Option.some.inj (hg.symm.trans hg0);obtain rfl:=Option.some.inj (ht.symm.trans ht0);obtain⟨l⟩:=cs;have ok:∀u v,l=[.iface u v]->Value.okWide P W .any 0 u v:=λu v e=>by subst e;exact(hr g 0 (by simp[MemPlace.row])).2 u v (by simpa using World.var?_cell hg hv 0)
 obtain⟨a,s,rfl,hc,hs,hz,rfl⟩:=errorString_of_trod Go.Proofs.Tryz.underlying74 ayV Go.Proofs.Tryz.underlying401 Go.Proofs.Tryz.underlying422 rfl rfl Go.Proofs.Tryz.underlying9 avX arD hd ok;refine⟨a,q,by simpa using World.var?_cell hg hv 0,(hr a.block a.off (by simp[MemPlace.row])).1,hq,λb off hm=>hr b off (by simp[hm]),by simp[MemPlace.row]⟩
def amY:List (String×DataW Unit):=[("errors.errorType",Rows.laid_errors_errorType),("herdsman/pack.errEnd",Rows.laid_herdsman_pack_errEnd),("herdsman/pack.errForm",Rows.laid_herdsman_pack_errForm),("herdsman/nav.errNoMap",Rows.laid_herdsman_nav_errNoMap),("herdsman/nav.errBounds",Rows.laid_herdsman_nav_errBounds),("herdsman/nav.errField",Rows.laid_herdsman_nav_errField),("herdsman/svc.errScript",Rows.laid_herdsman_svc_errScript)]
def g1:P.globalNamed "errors.errorType"=some 1:=by kernel_rfl
def rtT:(P.cutTypes.find? (·.1== "internal/reflectlite.rtype")).map (·.2)=some 219:=by kernel_rfl
def avY:((List.range P.types.size).filter λt=>P.rowNamed t [101,114,114,111,114])=[74]:=by kernel_rfl
set_option maxRecDepth 100000 in
theorem arE {W:World}(h:laidMetH P amY W):∃lg,iG W lg:=by
 have h':laidMet P [("herdsman/pack.errEnd",Rows.laid_herdsman_pack_errEnd),("herdsman/pack.errForm",Rows.laid_herdsman_pack_errForm),("herdsman/nav.errNoMap",Rows.laid_herdsman_nav_errNoMap),("herdsman/nav.errBounds",Rows.laid_herdsman_nav_errBounds),("herdsman/nav.errField",Rows.laid_herdsman_nav_errField),("herdsman/svc.errScript",Rows.laid_herdsman_svc_errScript)] W/\handlesMet P [("errors.errorType",Rows.laid_errors_errorType)] W:=h;obtain⟨⟨ps,hv,hnd,hr⟩,hh⟩:=h';obtain⟨name,u,ty,e1,e2,e3,e4,e5⟩:=hh _ (List.mem_singleton.2 rfl);have en:=(Option.some.inj e1).symm;subst en;obtain rfl:=Option.some.inj (rtT.symm.trans e2);have hm:ty∈(List.range P.types.size).filter λt=>P.rowNamed t [101,114,114,111,114]:=List.mem_filter.2 ⟨List.mem_range.2 e3,e4⟩;rw[avY]at hm;obtain rfl:=List.mem_singleton.1 hm;have ht:typeHandle P 74=.pointer (some ⟨8,74,none⟩):=by kernel_rfl
 rw[ht]at e5;have hr:=hr;obtain⟨a6,q6,v6,b6,hv1,hr1,k6⟩:=Ij (g:=6) (by kernel_rfl) (by kernel_rfl) hv hr;obtain⟨a5,q5,v5,b5,hv2,hr2,k5⟩:=Ij (g:=5) (by kernel_rfl) (by kernel_rfl) hv1 hr1;obtain⟨a2,q2,v2,b2,hv3,hr3,k2⟩:=Ij (g:=2) (by kernel_rfl) (by kernel_rfl) hv2 hr2;obtain⟨a3,q3,v3,b3,hv4,hr4,k3⟩:=Ij (g:=3) (by kernel_rfl) (by kernel_rfl) hv3 hr3;obtain⟨a4,q4,v4,b4,hv5,hr5,k4⟩:=Ij (g:=4) (by kernel_rfl) (by kernel_rfl) hv4 hr4;obtain⟨a0,q0,v0,b0,hv6,hr6,k0⟩:=Ij (g:=0) (by kernel_rfl) (by kernel_rfl) hv5 hr5;subst k0 k4 k3 k2 k5 k6;refine⟨⟨a0,a2,a3,a4,a5,a6⟩,v0,by simpa[rt]using World.var?_cell g1 e5 0,v2,v3,v4,v5,v6,?_,?_,b2,b3,b5,b6⟩
 all_goals grind
end Go.Proofs.YtmegplnmiepfbaaGreatDoor.S
namespace Go.Proofs.YtmegplnmiepfbaaGreatDoor.S
open Go.Sx
def avZ:Sh:=.agg 3 [(0,1,.int .i64),(1,1,.int .i64),(2,1,.int .i64)]
def arF {W:World}{v:Value}(h:RdV W (.sl 3 avZ) v):∃a n c xs,v=.slice a n c/\n<=maxLen/\Sl W a n c 3 O.aaK xs:=by
 obtain⟨a,n,c,xs,rfl,k1,k2,k3,k4,k5⟩:=akq (f:=O.aaK) (Pr:=λ_=>True) (λes hl he=>by
  obtain⟨_,he⟩:=aue he
  match es,hl with
  |[v0,v1,v2],_=>
   obtain⟨k0,he⟩:=Y7 he;obtain⟨k1,he⟩:=Y7 he;obtain⟨k2,he⟩:=Y7 he;obtain⟨x0,rfl,_⟩:=U0 k0;obtain⟨x1,rfl,w1⟩:=U0 k1;obtain⟨x2,rfl,w2⟩:=U0 k2;exact⟨⟨x0,x1,x2⟩,rfl,trivial⟩) h
 exact⟨a,n,c,xs,rfl,by omega,k4,k1,k3⟩
def av0:apH (laidMetH P amY) P 6 [.int .i64,.int .i64,.sl 1 (.int .u8),.sl 3 avZ,.int .i64,.int .i64]:=by intro W args hX h;obtain⟨lg,hL⟩:=arE hX;obtain⟨v0,r,rfl,h0,h⟩:=yq.cons h;obtain⟨v1,r,rfl,h1,h⟩:=yq.cons h;obtain⟨v2,r,rfl,h2,h⟩:=yq.cons h;obtain⟨v3,r,rfl,h3,h⟩:=yq.cons h;obtain⟨v4,r,rfl,h4,h⟩:=yq.cons h;obtain⟨v5,r,rfl,h5,h⟩:=yq.cons h;obtain rfl:=yq.nil h;obtain⟨x0,rfl,_⟩:=W_ h0;obtain⟨x1,rfl,_⟩:=W_ h1;obtain⟨a,n,c,cs,rfl,q1,q2,q3,q4,q5⟩:=ap6 h2;obtain⟨b,m,d,xs,rfl,k1,k2⟩:=arF h3;obtain⟨x4,rfl,_⟩:=W_ h4;obtain⟨x5,rfl,_⟩:=W_ h5;exact aeI (Q:=λr W'=>r=true/\Go.RowKit.Below W.heap.size W W') hL ⟨q4,q1,q3⟩ (λx hx=>wf_u8 (q5 x hx)) (by simp only[maxLen]at*;omega) k2 λw' s=>⟨rfl,ant s⟩
def aeJ (l:List UInt8):Obj:=.cells #[.string {data:=l.toArray}] 422 (0,0)
noncomputable def low:Nat:=(World.holding P default ⟨#[],#[],[]⟩).heap.size
def aaL (v:Value):Obj->Obj
 |.cells _ t fz=>.cells #[v] t fz
 |o=>o
noncomputable def aeK (k:Nat):Value:=.iface 401 (.pointer (some ⟨low+k,0,none⟩))
noncomputable def awN (os:Os):World:=
 let w0:=World.holding P os ⟨#[aeJ [116,104,101,32,98,121,116,101,115,32,101,110,100],aeJ [110,111,98,111,100,121,32,119,114,105,116,101,115,32,115,111],aeJ [116,104,101,114,101,32,105,115,32,110,111,32,109,97,112],
  aeJ [116,104,101,114,101,32,105,115,32,110,111,32,115,117,99,104,32,99,101,108,108,32,111,114,32,115,101,99,116,111,114],aeJ [116,104,101,114,101,32,105,115,32,110,111,32,115,117,99,104,32,102,105,101,108,100],aeJ [110,111,98,111,100,121,32,119,114,105,116,101,115,32,115,111]],#[],[]⟩
 {w0 with heap:=((((((w0.heap.modify 0 (aaL (aeK 5))).modify 1 (aaL (.iface 219 (rt 74)))).modify 2 (aaL (aeK 2))).modify 3 (aaL (aeK 3))).modify 4 (aaL (aeK 4))).modify 5 (aaL (aeK 1))).modify 6 (aaL (aeK 0))}
set_option maxRecDepth 100000 in
theorem axK (os:Os)(args:Array Value):laidMetH P amY ((awN os).forCall (λ_ _=>0) ⟨#[],args,[]⟩).memory:=
 laidMetH_of_parts (laidMet_of_run (ps:=[.cell 6 0,.cell low 0,.cell 5 0,.cell (low+1) 0,.cell 2 0,.cell (low+2) 0,.cell 3 0,.cell (low+3) 0,.cell 4 0,.cell (low+4) 0,.cell 0 0,.cell (low+5) 0]) 8 (by kernel_rfl) (by kernel_rfl) (by kernel_rfl)) (by kernel_rfl)
end Go.Proofs.YtmegplnmiepfbaaGreatDoor.S
