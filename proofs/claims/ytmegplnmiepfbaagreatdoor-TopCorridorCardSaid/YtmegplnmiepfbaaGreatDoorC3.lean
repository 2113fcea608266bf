/- Part 4 of the proof. -/
import Derived.Test.YtmegplnmiepfbaaGreatDoorC2
import Derived.Laws.Externs
import Derived.LaidEql
import Derived.Stop.Asserts
set_option linter.unusedVariables false
set_option linter.unusedSimpArgs false
set_option linter.defProp false
namespace Go.Proofs.YtmegplnmiepfbaaGreatDoor.S
open Go.Sx
attribute [local irreducible] af cq bq bf aB bY bT St Bx Al App cu cg b_ bR aK bw aq bP av aj aU mapA
section
variable {F:Nat->Prop}{W w w0:World}{L:List As}{r:AI}{gp:Nat}{x:mU}{gr:tJ}{g:gU}{m:bN}{sc b:Int}
def aoj (hm:c7 m)(hs:dA m.w m.h sc){d:Int}(h:d∈zE (aD m.w m.h sc) (bu m.w m.h sc) (dx m sc) (iD m sc)):0<=d/\(d≠bW->d<1000000000):=by
 obtain⟨k,hk,rfl⟩:=List.mem_map.1 h;have hk:=List.mem_range.1 hk;rw[Fv]at hk⊢;have Tj:0<(aT m sc).length:=by grind
 have hi:=Nat.div_lt_of_lt_mul hk;have hj:k%(aT m sc).length<(aT m sc).length:=Nat.mod_lt _ Tj;have e:∀k,k<(aT m sc).length->gi (iD m sc) k=dD m.w m.h (gi (aT m sc) k):=λk hk=>by unfold gi iD;grind
 have ha:=lY hs (fy hi);have hb:=lY hs (fy hj);have hr:=Yo hm hs ha.2 hb.2 hb.1;have e2:DV (aD m.w m.h sc) (bu m.w m.h sc) (dx m sc) (iD m sc) (k/(aT m sc).length) (k%(aT m sc).length)=pM m sc (gi (aT m sc) (k/(aT m sc).length)) (gi (aT m sc) (k%(aT m sc).length)):=by unfold DV pM;grind
 grind
def ab5 {Q:Int->Option Addr->Nat->Nat->Option Addr->Nat->Nat->World->Prop}{rb tb pb nn nc tn tc:Nat}{na ta:Option Addr}{eO:Int}(hm:c7 m)(hs:dA m.w m.h sc)
  (s:Sep No w0 w [av pb 319 [ae eO,.slice na nn nc,.slice none 0 0],aj na nn nc 3 1 (flat one (aT m sc)),av tb 84 [ae (aD m.w m.h sc),ae (bu m.w m.h sc),.slice ta tn tc],aj ta tn tc 5 1 (flat bA (dx m sc)),av rb 319 [ae 0,.slice none 0 0,.slice none 0 0]])
  (h:∀da dn dc w',Sep No w0 w' [aj na nn nc 3 1 (flat one (aT m sc)),aj da dn dc 21 1 (flat oD (jt m sc))]->Q eO na nn nc da dn dc w'):q8 Q (aZ rb) m.w m.h (aZ tb) (aZ pb) w:=by
 have ni:=yX hs;have hnn:=(aL s (i:=1) rfl cj (by decide)).len;apply lS s 0 rfl;have conv:∀(qa:Option Addr) (qc N:Nat) (da:Option Addr) (w1:World),N=nn*nn->Sep No w0 w1 [aj da N N 21 1 (flat oD (List.replicate N 0)),aj qa N qc 3 1 (flat one (zE (aD m.w m.h sc) (bu m.w m.h sc) (dx m sc) (iD m sc))),av pb 319 [ae eO,.slice na nn nc,.slice da N N],aj na nn nc 3 1 (flat one (aT m sc)),av rb 319 [ae 0,.slice none 0 0,.slice none 0 0]]->
   ∃k',kQ Q k' (aZ rb) (aZ pb) qa N qc N 0 w1:=λqa qc N da w1 hN s=>by
  have hNb:N<=65536:=by have:=Nat.mul_le_mul (show nn<=256 by omega) (show nn<=256 by omega);omega
  have htl:(zE (aD m.w m.h sc) (bu m.w m.h sc) (dx m sc) (iD m sc)).length=N:=by rw[zE,List.length_map,List.length_range,Fv,hnn,hN]
  have hdl:(jt m sc).length=N:=by unfold jt;grind
  have hdg:∀i,i<N->gi (jt m sc) i=if gi (zE (aD m.w m.h sc) (bu m.w m.h sc) (dx m sc) (iD m sc)) i=bW then-1 else gi (zE (aD m.w m.h sc) (bu m.w m.h sc) (dx m sc) (iD m sc)) i:=λi hi=>by show List.getD _ _ _=_;rw[jt,List.getD_eq_getElem?_getD,List.getElem?_map,gM (by omega)];rfl
  have loop:∀(k i:Nat) (w1:World),i+k=N->Sep No w0 w1 [aj da N N 21 1 (flat oD ((List.range N).map λq=>if q<i then gi (jt m sc) q else 0)),aj qa N qc 3 1 (flat one (zE (aD m.w m.h sc) (bu m.w m.h sc) (dx m sc) (iD m sc))),av pb 319 [ae eO,.slice na nn nc,.slice da N N],aj na nn nc 3 1 (flat one (aT m sc)),av rb 319 [ae 0,.slice none 0 0,.slice none 0 0]]->
    kQ Q (k+1) (aZ rb) (aZ pb) qa N qc N i w1:=by
   intro k;induction k with
   |zero=>
    intro i w1 hi s;show qf Q (kQ Q 0) _ _ _ _ _ _ _ _;rw[qf,bp];have e:((List.range N).map λq=>if q<i then gi (jt m sc) q else 0)=jt m sc:=by refine Tr (by grind) λq hq=>?_;show List.getD _ _ _=_;grind
    rw[e]at s;refine lI s 2 rfl (lS s 2 rfl (lS s 2 rfl ?_));refine sT s 4 rfl λw1 s=>?_;refine sT s 4 rfl λw1 s=>?_;refine az s (i:=4) rfl rfl rfl λw1 s=>?_;refine lI s 4 rfl (lS s 4 rfl (lS s 4 rfl ?_));exact h da N N w1 (pk 99 [3,0] s)
   |succ k ih=>
    intro i w1 hi s;show qf Q (kQ Q (k+1)) _ _ _ _ _ _ _ _;rw[qf,bJ,aF];apply(aL s (i:=1) rfl cj (by decide)).pC rfl (by omega);apply lS s 2 rfl;refine zz uJ s (i:=0) (k:=i) (x':=-1) rfl (by omega) (by rw[List.length_map,List.length_range];omega) rfl rfl λw1 s=>?_;have hr:=aoj hm hs (fy (i:=i) (by omega));have hdi:=hdg i (by omega);rw[IC]at s;by_cases hI:gi (zE (aD m.w m.h sc) (bu m.w m.h sc) (dx m sc) (iD m sc)) i=bW
    ·rw[if_pos hI]at hdi;have UO:gi (zE (aD m.w m.h sc) (bu m.w m.h sc) (dx m sc) (iD m sc)) i=1099511627776:=hI;rw[UO,bne_self_eq_false,cond_false];apply ih (i+1) w1 (by omega);have e:((List.range N).map λq=>if q=i then-1 else if q<i then gi (jt m sc) q else 0)=(List.range N).map λq=>if q<i+1 then gi (jt m sc) q else 0:=by
      refine List.map_congr_left λq _=>?_;by_cases c1:q=i
      ·rw[if_pos c1,zP,c1,hdi]
      ·rw[if_neg c1];by_cases c2:q<i
       ·rw[if_pos c2,zP]
       ·rw[if_neg c2,ru]
     rw[e]at s;exact s
    ·rw[if_neg hI]at hdi;have UO:gi (zE (aD m.w m.h sc) (bu m.w m.h sc) (dx m sc) (iD m sc)) i≠1099511627776:=hI;rw[show(gi (zE (aD m.w m.h sc) (bu m.w m.h sc) (dx m sc) (iD m sc)) i !=1099511627776)=true by rw[bne_iff_ne];exact UO,cond_true];apply lS s 2 rfl;rw[ade (by omega)];refine zz uJ s (i:=0) (k:=i) (x':=gi (zE (aD m.w m.h sc) (bu m.w m.h sc) (dx m sc) (iD m sc)) i) rfl (by omega) (by rw[List.length_map,List.length_range];omega) rfl rfl λw1 s=>?_;rw[IC]at s;apply ih (i+1) w1 (by omega);have e:((List.range N).map λq=>if q=i then gi (zE (aD m.w m.h sc) (bu m.w m.h sc) (dx m sc) (iD m sc)) i else if q=i then-1 else if q<i then gi (jt m sc) q else 0)=(List.range N).map λq=>if q<i+1 then gi (jt m sc) q else 0:=by
      refine List.map_congr_left λq _=>?_;by_cases c1:q=i
      ·rw[if_pos c1,zP,c1,hdi]
      ·rw[if_neg c1,if_neg c1];by_cases c2:q<i
       ·rw[if_pos c2,zP]
       ·rw[if_neg c2,ru]
     rw[e]at s;exact s
  refine⟨N+1,loop N 0 w1 (by omega) ?_⟩;have e:((List.range N).map λq=>if q<0 then gi (jt m sc) q else 0)=List.replicate N 0:=by rw[List.eq_replicate_iff];refine⟨by simp,λx hx=>?_⟩;obtain⟨q,_,rfl⟩:=List.mem_map.1 hx;rw[if_neg (Nat.not_lt_zero _)]
  grind
 have loop:∀(k i:Nat) (la:Option Addr) (lc:Nat) (w1:World),i+k=nn->Sep No w0 w1 [aj la i lc 3 1 (flat one ((iD m sc).take i)),av pb 319 [ae eO,.slice na nn nc,.slice none 0 0],aj na nn nc 3 1 (flat one (aT m sc)),av tb 84 [ae (aD m.w m.h sc),ae (bu m.w m.h sc),.slice ta tn tc],aj ta tn tc 5 1 (flat bA (dx m sc)),av rb 319 [ae 0,.slice none 0 0,.slice none 0 0]]->
   nU Q (k+1) (aZ rb) m.w m.h (aZ tb) (aZ pb) la i lc na nn nc nn i w1:=by
  intro k;induction k with
  |zero=>
   intro i la lc w1 hi s;show qZ Q (nU Q 0) _ _ _ _ _ _ _ _ _ _ _ _ _ _;rw[qZ,bp];have Mf:(iD m sc).length=nn:=by rw[Fv,hnn]
   rw[List.take_of_length_le (by omega)]at s;refine lI s 3 rfl (lI s 3 rfl (lS s 3 rfl ?_));refine Ym s (aL s (i:=4) rfl cY (by decide)) (aL s (i:=0) rfl cj (by decide)) (O6 hm hs) (alZ hm hs) λqa qc w1 s _=>?_;rw[Mf]at s⊢;have hNb:nn*nn<=65536:=by have:=Nat.mul_le_mul (show nn<=256 by omega) (show nn<=256 by omega);omega
   refine uk (bytes:=4) dU s rfl rfl rfl rfl rfl rfl (by decide) uJ rfl (λu hu=>by unfold oD at hu;rw[List.mem_singleton]at hu;rw[hu];rfl) rfl rfl (Nat.le_refl _) (by omega) (by simp[maxLen];omega) λdb w1 s=>?_;refine az s (i:=3) rfl rfl rfl λw1 s=>?_;exact conv qa qc (nn*nn) (sZ db) w1 rfl (pk 99 [0,1,3,4,7] s)
  |succ k ih=>
   intro i la lc w1 hi s;show qZ Q (nU Q (k+1)) _ _ _ _ _ _ _ _ _ _ _ _ _ _;rw[qZ,bJ,aF];apply(aL s (i:=2) rfl cj (by decide)).pC rfl (by omega);refine sE s λw1 s _=>?_;refine Kb s (by omega) λla lc w1 s=>?_;apply ih (i+1) la lc w1 (by omega);have e:(iD m sc).take (i+1)=(iD m sc).take i++[dD m.w m.h (gi (aT m sc) i)]:=by rw[iD,List.take_add_one,List.getElem?_map,gM (by omega)];rfl
   rw[e];exact s
 exact⟨nn+1,loop nn 0 none 0 w (by omega) (bE s 3 1)⟩
def aah {Q:Int->Option Addr->Nat->Nat->Option Addr->Nat->Nat->World->Prop}{vs:List Value}(s0:Sep F W w L)(k:ri w r.p (.pointer (sZ gr.p)::vs))(kg:nv w gr g)(hs:dA g.m.w g.m.h sc)
  (h:∀na nn nc da dn dc w',Sep F W w' ([aj na nn nc 3 1 (flat one (aT g.m sc)),aj da dn dc 21 1 (flat oD (jt g.m sc))]++L)->Fr No w w'->Q (yD g sc) na nn nc da dn dc w'):zi (sZ r.p) sc w Q:=by
 apply Qt;have hm:=kg.ok.may;have fin:∀(na:Option Addr) (nn nc:Nat) (da:Option Addr) (dn dc:Nat) (w':World),Sep No w w' [aj na nn nc 3 1 (flat one (aT g.m sc)),aj da dn dc 21 1 (flat oD (jt g.m sc))]->Q (yD g sc) na nn nc da dn dc w':=λna nn nc da dn dc w' s=>h na nn nc da dn dc w' (fP s0 s) (au s);refine aY (bt (F:=No)) λrb w1 s=>?_;have kc:∀{w':World} {L':List As},Sep No w w' L'->w'.cell? (aZ r.p)=some (.pointer (sZ gr.p)):=λs=>by have:=(k.fr (au s)) 0 _ rfl;exact this
 refine ah (dH (kc s) ?_);refine jb s (kg.fr (au s)) λw1 s _=>?_;refine ah (dH (kc s) ?_);refine LW s (kg.fr (au s)) (λe=>(e hs).elim) λ_ ta tn tc w1 s _=>?_;rw[agh hm hs]at s;refine aY s λtb w1 s=>?_;refine sT s 0 rfl λw1 s=>?_;refine sT s 0 rfl λw1 s=>?_;refine az s (i:=0) rfl rfl rfl λw1 s=>?_;have s:=ax s;refine ah (dH (kc s) (ah (dH (kc s) ⟨?_,?_⟩)))
 ·refine q_ (kg.fr (au s)) ⟨kc s,?_,?_⟩
  ·refine wH s (kg.fr (au s)) hs λna nn nc w1 s _=>?_;refine aY s λpb w1 s=>?_;refine⟨kc s,kc s,?_⟩;refine sT s 0 rfl λw1 s=>?_;refine sT s 0 rfl λw1 s=>?_;refine az s (i:=0) rfl rfl rfl λw1 s=>?_;exact ab5 hm hs s λda dn dc w' s=>fin _ _ _ da dn dc w' s
  ·refine aY s λpb w1 s=>?_;refine⟨kc s,kc s,?_⟩;refine wH s (kg.fr (au s)) hs λna nn nc w1 s _=>?_;refine sT s 1 rfl λw1 s=>?_;refine sT s 1 rfl λw1 s=>?_;refine az s (i:=1) rfl rfl rfl λw1 s=>?_;exact ab5 hm hs (pk 99 [1,0,2,3,4] s) λda dn dc w' s=>fin _ _ _ da dn dc w' s
 ·refine aY s λpb w1 s=>?_;refine⟨kc s,kc s,?_⟩;refine q_ (kg.fr (au s)) ⟨kc s,?_⟩;refine wH s (kg.fr (au s)) hs λna nn nc w1 s _=>?_;refine sT s 1 rfl λw1 s=>?_;refine sT s 1 rfl λw1 s=>?_;refine az s (i:=1) rfl rfl rfl λw1 s=>?_;exact ab5 hm hs (pk 99 [1,0,2,3,4] s) λda dn dc w' s=>fin _ _ _ da dn dc w' s
end
section
variable {F:Nat->Prop}{W w w0:World}{L:List As}{r:AI}{gp:Nat}{x:mU}{gr:tJ}{g:gU}{m:bN}{sc b:Int}
def Q2 (x:mU)(i:Nat):Int:=(x.ps[i]?.map (·.eO)).getD 0
def Yt {i:Nat}{q:zF}(h:x.ps[i]? =some q):Q2 x i=q.eO:=by unfold Q2;rw[h];rfl
def jY (g:gU)(x:mU)(j:Nat):List Nat:=(List.range j).filter λi=>Q2 x i !=gi g.vs i
def yG (g:gU)(x:mU)(j:Nat):List Int:=(jY g x j).map λi:Nat=>(i:Int)
def ajN {j:Nat}:yG g x (j+1)=yG g x j++if Q2 x j !=gi g.vs j then[(j:Int)]else[]:=by unfold yG jY;rw[List.range_succ,List.filter_append,List.map_append];grind
def Yu {Q:Option Addr->Nat->Nat->World->Prop}(s0:Sep F W w L)(k:Ds w r gr.p x)(kg:nv w gr g)(I:xJ g x)
  (h:∀da dn dc w',Sep F W w' (aj da dn dc 3 1 (flat one (yG g x x.ps.length))::L)->Fr No w w'->Q da dn dc w'):x9 (sZ r.p) w Q:=by
 apply Ot;have k:=k.fr (w':=w.drew) Fr.refl;have kg:=kg.fr (w':=w.drew) Fr.refl;have s0:=ax s0;have hc:=(gz kg.ok.may.w kg.ok.may.h).2;have Hj:=I.len;refine l9 (ah (aQ (k.cell 2 _ rfl) (ah (dH (k.cell 0 _ rfl) ?_))));refine qD kg ⟨k.cell 2 _ rfl,?_⟩;by_cases wE:x.clean=g.ep
 ·rw[dK wE,cond_true];refine h none 0 0 w.drew ?_ Fr.refl;have e:yG g x x.ps.length=[]:=by unfold yG jY;rw[List.map_eq_nil_iff,List.filter_eq_nil_iff];intro i hi;have hi:=List.mem_range.1 hi;have hq:=List.getElem?_eq_getElem hi;rw[Yt hq,I.all wE i _ hq,bne_self_eq_false];decide
  rw[e];exact bE s0 3 1
 rw[cJ wE,cond_false];refine ah (dy (k.cell 1 _ rfl) ?_);have hn:=k.row.len;have loop:∀(j i:Nat) (oa:Option Addr) (on oc:Nat) (w1:World),i+j=r.n->on<=i->Sep No w w1 [aj oa on oc 3 1 (flat one (yG g x i))]->mY Q (j+1) (sZ r.p) oa on oc r.n i w1:=by
  intro j;induction j with
  |zero=>
   intro i oa on oc w1 hi ho s;show qe Q (mY Q 0) _ _ _ _ _ _ _;rw[qe,bp];obtain rfl:i=x.ps.length:=by omega
   exact h oa on oc w1 (dX s0 s (i:=0) rfl) (au s)
  |succ j ih=>
   intro i oa on oc w1 hi ho s;show qe Q (mY Q (j+1)) _ _ _ _ _ _ _;rw[qe,bJ,aF];have s:=ax s;have k1:=k.fr (au s);have kg1:=kg.fr (au s);refine ah (dy (k1.cell 1 _ rfl) ?_);refine k1.row.El rfl (by omega) λp q hq wE=>?_;have hc0:=wE 0 _ rfl;refine aQ hc0 (ah (dH (by have:=k1.cell 0 _ rfl;rw[add_zero]at this;exact this) ?_));refine q_ kg1 ⟨hc0,k1.cell 1 _ rfl,?_⟩;have hv:yD g i=gi g.vs i:=by have:=kg.ok.len;unfold yD;grind
   rw[hv,<-Yt hq];have hds:=ajN (g:=g) (x:=x) (j:=i);cases hb:Q2 x i !=gi g.vs i with
   |true=>
    refine Kb s (by omega) λoa oc w1 s=>?_;grind
   |false=>
    grind
 exact⟨r.n+1,loop r.n 0 none 0 0 w.drew (by omega) (by omega) (bE bt 3 1)⟩
def WrP {a:Option Addr}{n c i:Nat}{es:List zF}{idx:Int}{k:Nat}{q:zF}{K:World->Prop}(s:Sep F W w L)(hi:L[i]? =some (aj a n c 319 3 (flat Jf es)))(hk:idx=k)(hn:k<es.length)(h:∀w',Sep F W w' (L.set i (aj a n c 319 3 (flat Jf (es.set k q))))->K w'):
  aH idx n (wA a λp=>St ((p.add (idx.toNat*3)).add 0) (ae q.eO) w λw=>St ((p.add (idx.toNat*3)).add 1) (.slice q.na q.nn q.nc) w λw=>St ((p.add (idx.toNat*3)).add 2) (.slice q.da q.dn q.dc) w λw=>K w):=by
 have hl:=(aL s hi BE (by decide)).len;subst hk;have hg:=List.getElem?_eq_getElem hn;generalize es[k]=e0 at hg;refine BR s hi rfl (by omega) λg o ha=>?_;subst ha;have ad:∀j,(((⟨g,o,none⟩:Addr).add ((k:Int).toNat*3)).add j)=⟨g,o+(k*3+j),none⟩:=λj=>by rw[add_add,cf,Int.toNat_natCast]
 have Hq:=(List.getElem?_eq_some_iff.1 hi).1;refine dz (x':=⟨q.eO,e0.na,e0.nn,e0.nc,e0.da,e0.dn,e0.dc,e0.nodes,e0.ID⟩) BE s hi hg (ad 0) (by decide) rfl rfl λw s=>?_;refine dz (x:=⟨q.eO,e0.na,e0.nn,e0.nc,e0.da,e0.dn,e0.dc,e0.nodes,e0.ID⟩) (x':=⟨q.eO,q.na,q.nn,q.nc,e0.da,e0.dn,e0.dc,e0.nodes,e0.ID⟩) BE s (by rw[List.getElem?_set_self Hq]) (by grind) (ad 1) (by decide) rfl rfl λw s=>?_;rw[List.set_set,List.set_set]at s;refine dz (x:=⟨q.eO,q.na,q.nn,q.nc,e0.da,e0.dn,e0.dc,e0.nodes,e0.ID⟩) (x':=q) BE s (by rw[List.getElem?_set_self Hq]) (by grind) (ad 2) (by decide) rfl rfl λw s=>?_;simp_all
def ab6:Nat->Int->Int
 |0,c=>c
 |k+1,c=>ab6 k (Ta.sat c 1)
def UP {Q:Int->World->Prop}(s:Sep F W w (nu gr g::tK r gr.p x::L))(I:xJ g x)
  (h:∀(x':mU) w',xJ g x'->Me g x'->x'.clean=g.ep->x'.fH=ab6 (jY g x x.ps.length).length x.fH->Sep F W w' (nu gr g::tK r gr.p x'::L)->Q ((jY g x x.ps.length).length:Int) w'):vB (sZ r.p) w Q:=by
 apply Lo;apply l9;have kg:=oq s;have WV:=kg.ok.len;have UI:=(gz kg.ok.may.w kg.ok.may.h).2;have Hj:=I.len;refine Yu s (UM (ai s)) kg I λda dn dc w1 s _=>?_;have hD:=(aL s (i:=0) rfl cj (by decide)).len;have hds:(jY g x x.ps.length).length=dn:=by rw[<-hD];unfold yG;rw[List.length_map]
 have hdi:∀i,i<dn->gi (yG g x x.ps.length) i=((jY g x x.ps.length).getD i 0:Nat):=λi hi=>by unfold yG;show List.getD _ _ _=_;rw[List.getD_eq_getElem?_getD,List.getElem?_map,List.getD_eq_getElem?_getD,List.getElem?_eq_getElem (by omega)];rfl
 have hdm:∀i,i<dn->(jY g x x.ps.length).getD i 0<x.ps.length:=λi hi=>by
  have:(jY g x x.ps.length).getD i 0∈jY g x x.ps.length:=by rw[List.getD_eq_getElem?_getD,List.getElem?_eq_getElem (by omega)];exact List.getElem_mem _
  exact List.mem_range.1 (List.mem_filter.1 this).1
 have hdn:dn<=x.ps.length:=by rw[<-hds];have:=List.length_filter_le (λi=>Q2 x i !=gi g.vs i) (List.range x.ps.length);rw[List.length_range]at this;exact this
 have loop:∀(j i:Nat) (ps:List zF) (c:Int) (w1:World),i+j=dn->ps.length=x.ps.length->Ta.U c->ab6 j c=ab6 dn x.fH->
   (∀k q,ps[k]? =some q->(k∈(jY g x x.ps.length).take i->q.eO=gi g.vs k/\q.nodes=aT g.m k/\q.ID=jt g.m k)/\(k∉(jY g x x.ps.length).take i->x.ps[k]? =some q))->
   Sep F W w1 (aj da dn dc 3 1 (flat one (yG g x x.ps.length))::nu gr g::av r.p 236 (aad r gr.p ⟨ps,x.clean,c⟩)::aj r.a r.n r.c 319 3 (flat Jf ps)::(ps.map aac++L))->
   lz Q (j+1) (sZ r.p) da dn dc da dn dc dn i w1:=by
  intro j;induction j with
  |zero=>
   intro i ps c w1 hi hps hu hc hk s;show nV Q (lz Q 0) _ _ _ _ _ _ _ _ _ _;rw[nV,bp];have AY:=(aL s (i:=3) rfl BE (by decide)).len;have kg:=oq (ai s);refine ah (lP s 2 rfl ?_);apply qD kg;refine ah (sT s 2 rfl λw1 s=>?_);have hfull:(jY g x x.ps.length).take i=jY g x x.ps.length:=List.take_of_length_le (by omega);rw[hfull]at hk;have fresh:∀k q,ps[k]? =some q->q.eO=gi g.vs k/\q.nodes=aT g.m k/\q.ID=jt g.m k:=λk q hq=>by
    by_cases hm:k∈jY g x x.ps.length
    ·exact(hk k q hq).1 hm
    ·have Jv:=(hk k q hq).2 hm;have hkl:=(List.getElem?_eq_some_iff.1 Jv).1;have hv:q.eO=gi g.vs k:=by refine Classical.byContradiction λhne=>hm (List.mem_filter.2 ⟨List.mem_range.2 hkl,?_⟩);rw[Yt Jv,bne_iff_ne];exact hne
     exact⟨hv,I.ok k q Jv hv⟩
   have hlen:∀k q,ps[k]? =some q->k<g.vs.length:=λk q hq=>by have:=(List.getElem?_eq_some_iff.1 hq).1;omega
   have I':xJ g ⟨ps,g.ep,c⟩:=⟨by rw[hps];exact Hj,⟨Int.le_refl _,λq hq=>by obtain⟨k,hk'⟩:=List.mem_iff_getElem?.1 hq;rw[(fresh k q hk').1];exact(kg.ok.vs _ (fy (hlen k q hk'))).2⟩,λ_ k q hq=>(fresh k q hq).1,λk q hq _=>(fresh k q hq).2,hu⟩
   have s:=ai s;have s:Sep F W w1 (nu gr g::(Kt r gr.p ⟨ps,g.ep,c⟩++L)):=s;have s:Sep F W w1 (nu gr g::tK r gr.p ⟨ps,g.ep,c⟩::L):=by have s1:=cE s (L':=Kt r gr.p ⟨ps,g.ep,c⟩++nu gr g::L) List.perm_middle.symm;exact cE (aae s1) (List.Perm.swap _ _ _)
   rw[<-hds];refine h ⟨ps,g.ep,c⟩ w1 I' (λk q hq=>(fresh k q hq).1) rfl ?_ s;rw[hds,<-hc];rfl
  |succ j ih=>
   intro i ps c w1 hi hps hu hc hk s;show nV Q (lz Q (j+1)) _ _ _ _ _ _ _ _ _ _;rw[nV,bJ,aF];apply(aL s (i:=0) rfl cj (by decide)).pC rfl (by omega);rw[hdi i (by omega)];have hdk:=hdm i (by omega);have aiG:(jY g x x.ps.length).take (i+1)=(jY g x x.ps.length).take i++[(jY g x x.ps.length).getD i 0]:=by rw[List.take_add_one,List.getD_eq_getElem?_getD,List.getElem?_eq_getElem (by omega)];rfl
   generalize hdv:(jY g x x.ps.length).getD i 0=d at hdk aiG⊢;have s:=ax s;refine ah (lS s 2 rfl ?_);have kg:=oq (ai s);have vh:dA g.m.w g.m.h d:=⟨⟨kg.ok.may.w,kg.ok.may.h⟩,by omega,by omega⟩;refine aah s (kK s (i:=2) rfl) kg vh λna nn nc Ku dn' Kv w1 s _=>?_;refine⟨cN s 4 rfl,?_⟩;have hv:yD g d=gi g.vs d:=by rw[yD,zP,Int.toNat_natCast]
   rw[hv];refine WrP (q:=⟨gi g.vs d,na,nn,nc,Ku,dn',Kv,aT g.m d,jt g.m d⟩) s (i:=5) rfl rfl (by omega) λw1 s=>?_;simp[List.cons_append,List.nil_append,List.set_cons_zero,List.set_cons_succ]at s;refine ah (lI s 4 rfl ?_);apply Ta.AH hu (by unfold Ta.U;omega);refine ah (sT s 4 rfl λw1 s=>?_);refine ih (i+1) (ps.set d ⟨gi g.vs d,na,nn,nc,Ku,dn',Kv,aT g.m d,jt g.m d⟩) (Ta.sat c 1) w1 (by omega) (by rw[List.length_set];exact hps) (Ta.Ft hu (by unfold Ta.U;omega)) hc ?_ ?_
   ·intro k q hq;rw[aiG];rw[List.getElem?_set]at hq;by_cases hkd:d=k
    ·subst hkd;rw[if_pos rfl,zP]at hq;cases hq;exact⟨λ_=>⟨rfl,rfl,rfl⟩,λhn=>(hn (by simp)).elim⟩
    ·rw[if_neg hkd]at hq;refine⟨λhm=>(hk k q hq).1 ?_,λhn=>(hk k q hq).2 λhm=>hn (by simp[hm])⟩;rcases List.mem_append.1 hm with hm|hm
     ·exact hm
     ·rw[List.mem_singleton]at hm;exact(hkd hm.symm).elim
   ·have s1:=dW (Ps:=[aj na nn nc 3 1 (flat one (aT g.m d)),aj Ku dn' Kv 21 1 (flat oD (jt g.m d))]) s trivial;have s2:=Q0 (i:=4+d) s1;rw[show 4+d=d+1+1+1+1 by omega]at s2;simp[List.set_cons_succ]at s2;rw[List.set_append_left _ _ (by rw[List.length_map];omega)]at s2;rw[List.map_set];exact s2
 have s0:=adr (cE s (L':=tK r gr.p x::aj da dn dc 3 1 (flat one (yG g x x.ps.length))::nu gr g::L) (List.perm_middle (l₁:=[_,_])));have s1:=cE s0 (L':=[aj da dn dc 3 1 (flat one (yG g x x.ps.length)),nu gr g]++(Kt r gr.p x++L)) (List.perm_append_comm_assoc _ [_,_] _);exact⟨dn+1,loop dn 0 x.ps x.fH w1 (by omega) rfl I.u rfl (λk q hq=>⟨λhm=>by simp at hm,λ_=>hq⟩) s1⟩
def Kw:zF:=⟨0,none,0,0,none,0,0,[],[]⟩
def aqJ (n:Nat)(s:Sep F W w L):Sep F W w ((List.replicate n Kw).map aac++L):=by
 induction n with
 |zero=>exact s
 |succ n ih=>
  have s1:=bE (bE ih 21 1) 3 1;exact dW s1 trivial
def ab7 {Q:Option Addr->World->Prop}(s0:Sep F W w L)(kg:nv w gr g)
  (h:∀r w',Sep F W w' (tK r gr.p ⟨List.replicate (ej g.m.w g.m.h).toNat Kw,0,0⟩::L)->Fr No w w'->Q (sZ r.p) w'):Gq (sZ gr.p) w Q:=by
 apply aby;apply l9;refine jb (bt (F:=No)) kg λw1 s _=>?_;apply qm;have hm:iU g.m.w g.m.h:=⟨kg.ok.may.w,kg.ok.may.h⟩;have hc:=(gz kg.ok.may.w kg.ok.may.h);unfold X9 abP;rw[if_pos hm,if_pos hm,wrap_i64 (by show _<=ej _ _;omega) (by show ej _ _<_;omega)];refine uk (x0:=Kw) (bytes:=56) (cn:=(ej g.m.w g.m.h).toNat) dU s rfl rfl rfl rfl rfl rfl (by decide) BE rfl (λu hu=>al0 _ u hu) (by show ej _ _=_;omega) (by show ej _ _=_;omega) (Nat.le_refl _) (by omega) (by simp[maxLen];omega) λab w1 s=>?_;refine aS s λmb w1 s=>?_;have s1:Sep No w w1 (Kt ⟨mb,sZ ab,(ej g.m.w g.m.h).toNat,(ej g.m.w g.m.h).toNat⟩ gr.p ⟨List.replicate (ej g.m.w g.m.h).toNat Kw,0,0⟩++[]):=by have s2:=aqJ (ej g.m.w g.m.h).toNat s;have s3:=cE s2 (List.perm_append_comm);rw[List.append_nil];exact s3
 have s2:=aae s1;exact h ⟨mb,sZ ab,(ej g.m.w g.m.h).toNat,(ej g.m.w g.m.h).toNat⟩ w1 (dX s0 s2 (i:=0) rfl) (au s2)
end
end Go.Proofs.YtmegplnmiepfbaaGreatDoor.S
namespace Go.Proofs.YtmegplnmiepfbaaGreatDoor.S.Lr
open Go.Sx
structure j_ where
 a:Int
 b:Int
 nw:Int
 od:Int
def Mg (ss:List j_)(i:Nat):Int:=(ss[i]?.map (·.nw)).getD 0
def Mh (ss:List j_)(i:Nat):Int:=(ss[i]?.map (·.od)).getD 0
def HP (xs:List Nat)(n:Int):Int:=match xs with|[]=>n|x::_=>x
def BF (xs:List Nat)(p:Int):Int:=match xs with|[]=>p|x::xs=>BF xs x
def wL (ss:List j_)(p:Int)(xs:List Nat)(n:Int):Prop:=match xs with
 |[]=>True
 |x::xs=>Mg ss x=p/\Mh ss x=HP xs n/\wL ss x xs n
def ab8 (xs ys:List Nat)(n:Int):HP (xs++ys) n=HP xs (HP ys n):=by cases xs<;>rfl
def ab9 (xs ys:List Nat)(p:Int):BF (xs++ys) p=BF ys (BF xs p):=by
 induction xs generalizing p with
 |nil=>rfl
 |cons x xs ih=>exact ih x
def ab_ {ss:List j_}{p n:Int}{xs ys:List Nat}:wL ss p (xs++ys) n↔wL ss p xs (HP ys n)/\wL ss (BF xs p) ys n:=by
 induction xs generalizing p with
 |nil=>simp[wL,BF]
 |cons x xs ih=>
  simp[List.cons_append,wL,ih,ab8,BF];grind
def GN {ss ss':List j_}{p n:Int}{xs:List Nat}(h:∀x∈xs,Mg ss' x=Mg ss x/\Mh ss' x=Mh ss x)(s:wL ss p xs n):wL ss' p xs n:=by
 induction xs generalizing p with
 |nil=>trivial
 |cons x xs ih=>
  obtain⟨h1,h2,h3⟩:=s;obtain⟨e1,e2⟩:=h x (by simp);exact⟨e1.trans h1,e2.trans h2,ih (λy hy=>h y (by simp[hy])) h3⟩
def tL (ss:List j_)(i:Nat)(v:Int):List j_:=ss.modify i λs=>{s with nw:=v}
def xK (ss:List j_)(i:Nat)(v:Int):List j_:=ss.modify i λs=>{s with od:=v}
def HQ {ss:List j_}{i j:Nat}{v:Int}(h:i<ss.length):Mg (tL ss i v) j=if j=i then v else Mg ss j:=by unfold Mg tL;grind
def Mi {ss:List j_}{i j:Nat}{v:Int}:Mh (tL ss i v) j=Mh ss j:=by unfold Mh tL;grind
def Mj {ss:List j_}{i j:Nat}{v:Int}(h:i<ss.length):Mh (xK ss i v) j=if j=i then v else Mh ss j:=by unfold Mh xK;grind
def Mk {ss:List j_}{i j:Nat}{v:Int}:Mg (xK ss i v) j=Mg ss j:=by unfold Mg xK;grind
def al5 {ss:List j_}{p n v:Int}{xs:List Nat}{y:Nat}(hy:y<ss.length)(hnd:(xs++[y]).Nodup)(s:wL ss p (xs++[y]) n):wL (xK ss y v) p (xs++[y]) v:=by rw[ab_]at s⊢;obtain⟨s1,h1,h2,_⟩:=s;rw[List.nodup_append]at hnd;refine⟨GN (λx hx=>?_) s1,Mk.trans h1,by rw[Mj hy,if_pos rfl];rfl,trivial⟩;exact⟨Mk,by rw[Mj hy,if_neg (hnd.2.2 x hx y (by simp))]⟩
def adt {ss:List j_}{p n v:Int}{xs:List Nat}{y:Nat}(hy:y<ss.length)(hnd:(y::xs).Nodup)(s:wL ss p (y::xs) n):wL (tL ss y v) v (y::xs) n:=by obtain⟨h1,h2,h3⟩:=s;rw[List.nodup_cons]at hnd;refine⟨by rw[HQ hy,if_pos rfl],Mi.trans h2,GN (λx hx=>⟨?_,Mi⟩) h3⟩;rw[HQ hy,if_neg (λe:x=y=>hnd.1 (by grind))]
def VD {ss:List j_}{p n v:Int}{xs:List Nat}{y:Nat}(hy:y<ss.length)(hx:y∉xs)(s:wL ss p xs n):wL (xK ss y v) p xs n/\wL (tL ss y v) p xs n:=
 ⟨GN (λx h=>⟨Mk,by rw[Mj hy,if_neg (λe:x=y=>hx (by rw[<-e];exact h))]⟩) s,GN (λx h=>⟨by rw[HQ hy,if_neg (λe:x=y=>hx (by rw[<-e];exact h))],Mi⟩) s⟩
def Yv (xs:List Nat)(y:Nat)(p:Int):BF (xs++[y]) p=y:=by rw[ab9];rfl
abbrev KS:=List ((Int×Int)×Nat)
def VE (l:KS)(key:Int×Int):Int:=match l.find? (λp=>decide (p.1=key))with|some p=>p.2|none=>-1
def ke (k:Int)(l:KS)(key:Int×Int):(Int×Bool×Bool)×KS:=match l.find? (λp=>decide (p.1=key))with
 |some p=>((p.2,true,false),(key,p.2)::l.filter (λq=>!decide (q.1=key)))
 |none=>if(l.length:Int)<k then((l.length,false,false),(key,l.length)::l)else match l.getLast? with
  |some p=>((p.2,false,true),(key,p.2)::l.dropLast)
  |none=>((-1,false,true),l)
structure Good (k:Int) (l:KS):Prop where
 room:(l.length:Int)<=k
 nd:(l.map (·.2)).Nodup
 lt:∀p∈l,p.2<l.length
 Eu:(l.map (·.1)).Nodup
def Kx {k:Int}(h:0<=k):Good k []:=⟨h,.nil,by simp,.nil⟩
def Q3 {l:KS}(h:(l.map (·.1)).Nodup){p q:(Int×Int)×Nat}(hp:p∈l)(hq:q∈l)(e:p.1=q.1):p=q:=by
 induction l with
 |nil=>cases hp
 |cons x l ih=>
  grind
def Ml {l:KS}{key:Int×Int}{p:(Int×Int)×Nat}(h:l.find? (λp=>decide (p.1=key))=some p):p.1=key/\p∈l:=by grind
def adu {l:KS}{key:Int×Int}(h:l.find? (λp=>decide (p.1=key))=none):∀p∈l,p.1≠key:=λp hp e=>by grind
def W0 {l:KS}(hnd:(l.map (·.1)).Nodup){p:(Int×Int)×Nat}(hp:p∈l):l.find? (λq=>decide (q.1=p.1))=some p:=by
 cases h:l.find? (λq=>decide (q.1=p.1))with
 |none=>grind
 |some q=>
  obtain⟨h1,h2⟩:=Ml h;rw[Q3 hnd h2 hp h1]
def Yw {l:KS}(hnd:(l.map (·.1)).Nodup){p:(Int×Int)×Nat}(hp:p∈l):∃pre post,l=pre++p::post/\l.filter (λq=>!decide (q.1=p.1))=pre++post:=by
 obtain⟨pre,post,rfl⟩:=List.append_of_mem hp;refine⟨pre,post,rfl,?_⟩;rw[List.map_append,List.map_cons,List.nodup_append,List.nodup_cons]at hnd;rw[List.filter_append,List.filter_cons_of_neg (by simp),List.filter_eq_self.2,List.filter_eq_self.2]
 ·grind
 ·intro q hq;have:q.1≠p.1:=λe=>hnd.2.2 q.1 (List.mem_map.2 ⟨q,hq,rfl⟩) p.1 (by simp) e;simp[this]
def VF {l:KS}(hnd:(l.map (·.1)).Nodup){p:(Int×Int)×Nat}(hp:p∈l)(k:Int×Int)(n:Nat):((k,n)::l.filter (λq=>!decide (q.1=p.1))).length=l.length:=by obtain⟨pre,post,e1,e2⟩:=Yw hnd hp;grind
def Yx {k:Int}{l:KS}{key:Int×Int}(hk:1<=k)(h:Good k l):Good k (ke k l key).2:=by
 unfold ke;cases hf:l.find? (λp=>decide (p.1=key))with
 |some p=>
  obtain⟨rfl,hp⟩:=Ml hf;obtain⟨pre,post,e1,e2⟩:=Yw h.Eu hp;rw[e2];have Ng:List.Perm ((p.1,p.2)::(pre++post)) l:=by grind
  have hlen:=Ng.length_eq;exact⟨by rw[hlen];exact h.room,(Ng.map (·.2)).nodup_iff.2 h.nd,λq hq=>by rw[hlen];exact h.lt q (Ng.mem_iff.1 hq),(Ng.map (·.1)).nodup_iff.2 h.Eu⟩
 |none=>
  have hn:=adu hf;by_cases hroom:(l.length:Int)<k
  ·rw[if_pos hroom];refine⟨by grind,?_,λq hq=>?_,?_⟩
   ·simp only[List.map_cons,List.nodup_cons];refine⟨λhm=>?_,h.nd⟩;obtain⟨q,hq,e⟩:=List.mem_map.1 hm;have:=h.lt q hq;omega
   ·simp[List.length_cons];rcases List.mem_cons.1 hq with rfl|hq
    ·simp
    ·have:=h.lt q hq;omega
   ·simp[List.map_cons,List.nodup_cons];refine⟨λhm=>?_,h.Eu⟩;grind
  ·rw[if_neg hroom];cases hl:l.getLast? with
   |none=>exact h
   |some p=>
    obtain⟨ys,rfl⟩:=List.getLast?_eq_some_iff.1 hl;rw[List.dropLast_concat];have e1:(ys++[p]).length=((key,p.2)::ys).length:=by simp
    have Ng:List.Perm (((key,p.2)::ys).map (·.2)) ((ys++[p]).map (·.2)):=by rw[List.map_cons,List.map_append];exact(List.perm_append_singleton _ _).symm
    refine⟨by rw[<-e1];exact h.room,Ng.nodup_iff.2 h.nd,λq hq=>?_,?_⟩
    ·rw[<-e1];rcases List.mem_cons.1 hq with rfl|hq
     ·exact h.lt p (by simp)
     ·exact h.lt q (by simp[hq])
    ·simp only[List.map_cons,List.nodup_cons];have:=h.Eu;rw[List.map_append,List.nodup_append]at this;refine⟨λhm=>?_,this.1⟩;obtain⟨q,hq,e⟩:=List.mem_map.1 hm;exact hn q (by simp[hq]) e
def dU:vO P T:=Dy P rows Gn
def atG:zc T 253=[ae 0,ae 0]:=rfl
attribute [local irreducible] af cq bq bf aB bY bT St Bx Al App cu cg b_ bR aK bw aq bP av aj aU mapA
def tM (s:j_):List Value:=[ae s.a,ae s.b,ae s.nw,ae s.od]
def kL (s:j_):(tM s).length=4:=rfl
def al6 (v:j_)(u:Value)(h:u∈tM v):u.oneCell'=true:=by simp[tM,List.mem_cons,List.not_mem_nil,or_false]at h;rcases h with rfl|rfl|rfl|rfl<;>rfl
def agv {ss:List j_}{i:Nat}{x:j_}{v:Int}(h:ss[i]? =some x):ss.set i {x with nw:=v}=tL ss i v:=by apply List.ext_getElem?;intro j;unfold tL;grind
def al7 {ss:List j_}{i:Nat}{x:j_}{v:Int}(h:ss[i]? =some x):ss.set i {x with od:=v}=xK ss i v:=by apply List.ext_getElem?;intro j;unfold xK;grind
def AJ (ss ss':List j_):Prop:=ss'.length=ss.length/\∀i:Nat,(ss'[i]?.map λs=>(s.a,s.b))=ss[i]?.map λs=>(s.a,s.b)
def AJ.refl {ss:List j_}:AJ ss ss:=⟨rfl,λ_=>rfl⟩
def AJ.trans {a b c:List j_}(h:AJ a b)(k:AJ b c):AJ a c:=⟨k.1.trans h.1,λi=>(k.2 i).trans (h.2 i)⟩
def G6 {ss:List j_}{i:Nat}{v:Int}:AJ ss (tL ss i v):=by refine⟨by simp[tL],λj=>?_⟩;unfold tL;grind
def W1 {ss:List j_}{i:Nat}{v:Int}:AJ ss (xK ss i v):=by refine⟨by simp[xK],λj=>?_⟩;unfold xK;grind
def Pa {ss:List j_}{i:Nat}(h:i<ss.length):∃s,ss[i]? =some s/\s.nw=Mg ss i/\s.od=Mh ss i:=by
 refine⟨ss[i],List.getElem?_eq_getElem h,?_,?_⟩
 ·simp[Mg,h]
 ·simp[Mh,h]
section
variable {F:Nat->Prop}{W w:World}{L:List As}{p:Nat}{sa:Option Addr}{sn sc:Nat}{ss:List j_}{kv mv:Value}{nw od:Int}{Q:World->Prop}
def adv {sb:Nat}{x a b:Int}{pre post:List Nat}{y:Nat}(hs:∀i∈pre++y::post,i<sn)(hnd:(pre++y::post).Nodup)(h1:wL ss (-1) pre (HP post (-1)))(h2:wL ss y post (-1))
  (Ky:od=BF (pre++y::post) (-1))
  (s:Sep F W w (av sb 334 [ae a,ae b,ae (BF pre (-1)),ae (HP post (-1))]::av p 182 [kv,.slice sa sn sc,mv,ae nw,ae od]::aj sa sn sc 334 4 (flat tM ss)::L))
  (h:∀ss' w',AJ ss ss'->wL ss' (-1) (pre++post) (-1)->Sep F W w' (av p 182 [kv,.slice sa sn sc,mv,ae nw,ae (BF (pre++post) (-1))]::aj sa sn sc 334 4 (flat tM ss')::L)->Q w'):
  wm Q (sZ p) (aZ sb) w:=by
 have hl:=qG s (i:=2) rfl;rw[iz kL]at hl;rw[ab9]at Ky;cases post with
 |nil=>
  apply lI s 0 rfl;apply lI s 0 rfl;apply ah;refine az s (i:=1) rfl rfl rfl λw s=>?_;refine h ss _ AJ.refl ?_ ?_
  ·rw[List.append_nil];exact h1
  ·rw[List.append_nil];exact ai s
 |cons z post=>
  have hz:=hs z (by simp);apply lI s 0 rfl;rw[show((HP (z::post) (-1):Int)==-1)=false by rw[beq_eq_false_iff_ne];show(z:Int)≠-1;omega,cond_false];apply ah;have s:=ax s;apply lS s 1 rfl;apply lI s 0 rfl;apply lI s 0 rfl;obtain⟨x,hx,Ry,JB⟩:=Pa (ss:=ss) (i:=z) (by omega);refine BR s (i:=2) rfl rfl hz λg o e=>?_;subst e;refine dz (i:=2) (x':={x with nw:=BF pre (-1)}) kL s rfl hx (dJ _ _ _ _ _) (by decide) rfl rfl λw s=>?_;rw[agv hx]at s;refine h (tL ss z (BF pre (-1))) _ G6 ?_ ?_
  ·rw[ab_];have hn2:=(List.nodup_append.1 hnd).2.1;rw[List.nodup_cons]at hn2;refine⟨(VD (by omega) (λhm=>?_) h1).2,adt (by omega) hn2.2 h2⟩;grind
  ·rw[ab9];have:od=BF (z::post) (BF pre (-1)):=Ky;rw[<-this];exact ai s
def UQ {pre post:List Nat}{y:Nat}(hs:∀i∈pre++y::post,i<sn)(hnd:(pre++y::post).Nodup)(IE:wL ss (-1) (pre++y::post) (-1))(RM:nw=HP (pre++y::post) (-1))(Ky:od=BF (pre++y::post) (-1))
  (s:Sep F W w (av p 182 [kv,.slice sa sn sc,mv,ae nw,ae od]::aj sa sn sc 334 4 (flat tM ss)::L))
  (h:∀ss' w',AJ ss ss'->wL ss' (-1) (pre++post) (-1)->Sep F W w' (av p 182 [kv,.slice sa sn sc,mv,ae (HP (pre++post) (-1)),ae (BF (pre++post) (-1))]::aj sa sn sc 334 4 (flat tM ss')::L)->Q w'):
  tj (sZ p) y w Q:=by
 apply Qy;have hl:=qG s (i:=1) rfl;rw[iz kL]at hl;have hy:=hs y (by simp);obtain⟨x,hx,Ry,JB⟩:=Pa (ss:=ss) (i:=y) (by omega);rw[ab_]at IE;obtain⟨h1,h2,h3,h4⟩:=IE;have h1:=h1;rw[h2]at Ry;rw[h3]at JB;apply ah;apply lS s 0 rfl;refine BR s (i:=1) rfl rfl hy λg o e=>?_;subst e;apply ef (i:=1) kL s rfl hx (dJ _ _ _ _ _) rfl;apply ef (i:=1) kL s rfl hx (dJ _ _ _ _ _) rfl;apply ef (i:=1) kL s rfl hx (dJ _ _ _ _ _) rfl;apply ef (i:=1) kL s rfl hx (dJ _ _ _ _ _) rfl;rw[Ry,JB];refine aY s λsb w s=>?_;refine sT s 0 rfl λw s=>?_;refine sT s 0 rfl λw s=>?_;refine sT s 0 rfl λw s=>?_;refine az s (i:=0) rfl rfl rfl λw s=>?_;apply lI s 0 rfl;rcases List.eq_nil_or_concat pre with rfl|⟨pre',u,rfl⟩
 ·apply lI s 0 rfl;apply ah;refine az s (i:=1) rfl rfl rfl λw s=>?_;exact adv (x:=0) hs hnd trivial h4 Ky s λss' w' k1 k2 s=>h ss' w' k1 k2 s
 ·simp only[List.concat_eq_append]at*;have hu:=hs u (by simp);rw[Yv]at s⊢;rw[show((u:Int)==-1)=false by rw[beq_eq_false_iff_ne];omega,cond_false];apply ah;have s:=ax s;apply lS s 1 rfl;apply lI s 0 rfl;apply lI s 0 rfl;obtain⟨z,hz,hz1,hz2⟩:=Pa (ss:=ss) (i:=u) (by omega);refine BR s (i:=2) rfl rfl hu λg' o' e=>?_;cases e;refine dz (i:=2) (x':={z with od:=HP post (-1)}) kL s rfl hz (dJ _ _ _ _ _) (by decide) rfl rfl λw s=>?_;rw[al7 hz]at s;have avF:=(List.nodup_append.1 hnd).1;have avG:=(List.nodup_append.1 hnd).2;refine adv (x:=0) hs hnd (al5 (by omega) avF h1) ((VD (by omega) (λhm=>avG.2 u (by simp) u (by simp[hm]) rfl) h4).1) Ky (by rw[Yv];exact s) λss' w' k1 k2 s=>h ss' w' (W1.trans k1) k2 ?_;have e:HP (pre'++[u]++post) (-1)=nw:=by rw[RM,ab8,ab8 (pre'++[u])];cases pre'<;>rfl
  rw[e];exact s
def aiH {y:Nat}(s:Sep F W w (av p 182 [kv,.slice sa sn sc,mv,ae nw,ae od]::aj sa sn sc 334 4 (flat tM ss)::L))
  (h:∀w',Sep F W w' (av p 182 [kv,.slice sa sn sc,mv,ae y,ae od]::aj sa sn sc 334 4 (flat tM ss)::L)->Q w'):zx Q (sZ p) y w:=by
 apply ah;refine sT s 0 rfl λw s=>?_;grind
def ajO {xs:List Nat}{y:Nat}(hy:y<sn)(hs:∀i∈xs,i<sn)(hnd:(y::xs).Nodup)(IE:wL ss (-1) xs (-1))(RM:nw=HP xs (-1))(Ky:od=BF xs (-1))
  (s:Sep F W w (av p 182 [kv,.slice sa sn sc,mv,ae nw,ae od]::aj sa sn sc 334 4 (flat tM ss)::L))
  (h:∀ss' w',AJ ss ss'->wL ss' (-1) (y::xs) (-1)->Sep F W w' (av p 182 [kv,.slice sa sn sc,mv,ae (HP (y::xs) (-1)),ae (BF (y::xs) (-1))]::aj sa sn sc 334 4 (flat tM ss')::L)->Q w'):
  v9 (sZ p) y w Q:=by
 apply Uk;have hl:=qG s (i:=1) rfl;rw[iz kL]at hl;obtain⟨x,hx,Ry,JB⟩:=Pa (ss:=ss) (i:=y) (by omega);rw[List.nodup_cons]at hnd;have s:=ax s;apply ah;apply lS s 0 rfl;apply ah;apply lS s 0 rfl;apply ah;apply lI s 0 rfl;refine BR s (i:=1) rfl rfl hy λg o e=>?_;subst e;refine dz (i:=1) (x':={x with nw:=-1}) kL s rfl hx (dJ _ _ _ _ _) (by decide) rfl rfl λw s=>?_;refine⟨by omega,by omega,ah ?_⟩;have hx':(ss.set y {x with nw:=-1})[y]? =some {x with nw:=-1}:=List.getElem?_set_self (by omega);refine dz (i:=1) (x':={x with nw:=-1,od:=nw}) kL s rfl hx' (dJ _ _ _ _ _) (by decide) rfl rfl λw s=>?_;rw[agv hx]at hx' s;rw[show({x with nw:=-1,od:=nw}:j_)={({x with nw:=-1}:j_)with od:=nw}from rfl,al7 hx']at s;have RH:(tL ss y (-1)).length=ss.length:=G6.1;have asv:wL (xK (tL ss y (-1)) y nw) (-1) xs (-1):=(VD (by omega) hnd.1 (VD (by omega) hnd.1 IE).2).1;have n2:Mg (xK (tL ss y (-1)) y nw) y=-1:=by rw[Mk,HQ (by omega),if_pos rfl]
 have o2:Mh (xK (tL ss y (-1)) y nw) y=nw:=by rw[Mj (by omega),if_pos rfl]
 have k2:AJ ss (xK (tL ss y (-1)) y nw):=G6.trans W1;generalize xK (tL ss y (-1)) y nw=ss2 at s asv n2 o2 k2;have hl3:=k2.1;apply ah;apply lI s 0 rfl;cases xs with
 |nil=>
  have e:nw=-1:=RM;subst e;rw[show((-1:Int)==-1)=true from rfl,cond_true];apply ah;refine az s (i:=0) rfl rfl rfl λw s=>?_;refine aiH s λw s=>h _ _ k2 ⟨n2,o2,trivial⟩ s
 |cons z xs=>
  have e:nw=(z:Int):=RM;subst e;have hz:=hs z (by simp);rw[show((z:Int)==-1)=false by rw[beq_eq_false_iff_ne];omega,cond_false];have s:=ax s;apply ah;apply lS s 0 rfl;apply ah;apply lI s 0 rfl;obtain⟨u,hu,_,_⟩:=Pa (ss:=ss2) (i:=z) (by omega);refine⟨by omega,by omega,ah ?_⟩;refine dz (i:=1) (x':={u with nw:=(y:Int)}) kL s rfl hu (dJ _ _ _ _ _) (by decide) rfl rfl λw s=>?_;rw[agv hu]at s;have hne:y≠z:=λe=>hnd.1 (by simp[e]);refine aiH s λw s=>h (tL ss2 z (y:Int)) _ (k2.trans G6) ⟨?_,?_,?_⟩ ?_
  ·rw[HQ (by omega),if_neg hne];exact n2
  ·rw[Mi];exact o2
  ·exact adt (by omega) hnd.2 asv
  ·have e2:BF (y::z::xs) (-1)=od:=by rw[Ky];rfl
   rw[e2];exact s
end
end Go.Proofs.YtmegplnmiepfbaaGreatDoor.S.Lr
namespace Go.Proofs.YtmegplnmiepfbaaGreatDoor.S.Lr
open Go.Sx
open Go.Maps (Keyed)
open Go.WideMaps (ArrKey keyOf_pair)
def al8:ArrKey P 253 3 2:=⟨by kernel_rfl,by kernel_rfl,by kernel_rfl,by kernel_rfl⟩
def kp:Keyed P 253:=Keyed.of_law al8.law
def aok:P.underlying 180=some (.map 253 3):=by kernel_rfl
set_option maxRecDepth 100000 in
theorem apH (w:World):(zeroValue 3).run P w=.ok (ae 0) w:=rfl
def aol:∃m,P.types.size=m+1:=⟨P.types.size-1,by have h:0<P.types.size:=of_decide_eq_true (by kernel_rfl);omega⟩
def W2 (k:Int×Int):Prop:=(Lit.int .i64 k.1).wf=true/\(Lit.int .i64 k.2).wf=true
def Yy (k:Int×Int):Value:=.agg #[ae k.1,ae k.2]
def Kz {a b:Int×Int}(h:Yy a=Yy b):a=b:=by obtain⟨a1,a2⟩:=a;simp[Yy]at h;rw[h.1,h.2]
def VG {k:Int×Int}(h:W2 k):∃l,keyOf P 253 (Yy k)=some l:=⟨_,keyOf_pair al8 (by kernel_rfl) aol h.1 h.2⟩
attribute [local irreducible] af cq bq bf aB bY bT St Bx Al App cu cg b_ bR aK bw aq bP av aj aU mapA
def RN (p:(Int×Int)×Nat):Value×Value:=(Yy p.1,ae p.2)
structure acd where
 sa:Option Addr
 sn:Nat
 sc:Nat
 mb:Nat
 ss:List j_
 m:List (Value×Value)
 nw:Int
 od:Int
structure ajP (k:Int) (l:KS) (r:acd):Prop where
 hk:1<=k
 good:Good k l
 sn:r.sn=l.length
 nw:r.nw=HP (l.map (·.2)) (-1)
 od:r.od=BF (l.map (·.2)) (-1)
 seg:wL r.ss (-1) (l.map (·.2)) (-1)
 key:∀p∈l,r.ss[p.2]?.map (λs=>(s.a,s.b))=some p.1
 perm:r.m.Perm (l.map RN)
 wf:∀p∈l,W2 p.1
noncomputable def aeW (p:Nat)(k:Int)(r:acd):List As:=[av p 182 [ae k,.slice r.sa r.sn r.sc,.map (some r.mb),ae r.nw,ae r.od],aj r.sa r.sn r.sc 334 4 (flat tM r.ss),mapA P 253 r.mb r.m]
noncomputable def GO (p:Nat)(k:Int)(l:KS)(r:acd):As:=aU (ajP k l r) (aeW p k r)
section
variable {F:Nat->Prop}{W w:World}{L:List As}{p:Nat}{k:Int}{l:KS}{r:acd}
def agw (s:Sep F W w (GO p k l r::L)):ajP k l r/\Sep F W w (aeW p k r++L):=iT s
def adw (s:Sep F W w (aeW p k r++L))(h:ajP k l r):Sep F W w (GO p k l r::L):=dW s h
def W3 {Q:World->Prop}{v1 v2 v3 v4:Value}(hk:1<=k)(s:Sep F W w (av p 182 [ae k,v1,v2,v3,v4]::L))(h:∀r w',Sep F W w' (GO p k [] r::L)->Q w'):uN (sZ p) w Q:=by apply SA;refine afu s P 253 180 λmb w s=>?_;apply ah;refine sT s 1 rfl λw s=>?_;apply ah;refine sT s 1 rfl λw s=>?_;apply ah;refine sT s 1 rfl λw s=>?_;apply ah;refine az s (i:=1) rfl rfl rfl λw s=>?_;have s:=cE (bE s 334 4) (List.Perm.trans (List.Perm.cons _ (List.Perm.swap ..)) (List.Perm.trans (List.Perm.swap ..) (List.Perm.refl _)));exact h ⟨none,0,0,mb,[],[],-1,-1⟩ w (adw s ⟨hk,Kx (by omega),rfl,rfl,rfl,trivial,(λp hp=>by cases hp),List.Perm.nil,(λp hp=>by cases hp)⟩)
def al9 {Q:Option Addr->World->Prop}(s:Sep F W w L)(hno:k<1->Q none w)(h:1<=k->∀p r w',Sep F W w' (GO p k [] r::L)->Q (sZ p) w'):Ig k w Q:=by
 apply aed;by_cases hk:k<1
 ·grind
 ·rw[bp hk];refine aS s λp w s=>?_;exact W3 (by omega) s λr w s=>h (by omega) p r w s
def look {K:Value->World->Prop}{key:Int×Int}(s:Sep F W w (aeW p k r++L))(hI:ajP k l r)(hkey:W2 key)(h0:l.find? (λp=>decide (p.1=key))=none->K (.tuple #[ae 0,.bool false]) w)
  (h1:∀q,l.find? (λp=>decide (p.1=key))=some q->K (.tuple #[ae q.2,.bool true]) w):aK P (Instr.lookup 180 (.map (some r.mb)) (.agg #[ae key.1,ae key.2]) true) w K:=by
 refine ac2 kp aok (apH w) s (i:=2) rfl (VG hkey) (λh=>?_) (λj v hj=>?_)
 ·refine h0 (List.find?_eq_none.2 λq hq=>?_);have:=h (RN q) (hI.perm.mem_iff.2 (List.mem_map.2 ⟨q,hq,rfl⟩));simp[decide_eq_true_eq];exact λe=>this (by rw[<-e];rfl)
 ·have hm:=hI.perm.mem_iff.1 (List.mem_of_getElem? hj);obtain⟨q,hq,e⟩:=List.mem_map.1 hm;have e1:=congrArg Prod.fst e;have e2:=congrArg Prod.snd e;have e1:=Kz e1;subst e1 e2;exact h1 q (W0 hI.good.Eu hq)
def aom (k:Int×Int):List Value:=[ae k.1,ae k.2]
end
end Go.Proofs.YtmegplnmiepfbaaGreatDoor.S.Lr
namespace Go.Proofs.YtmegplnmiepfbaaGreatDoor.S.Lr
open Go.Sx
open Go.Maps (Keyed)
attribute [local irreducible] af cq bq bf aB bY bT St Bx Al App cu cg b_ bR aK bw aq bP av aj aU mapA
def Q4 {ss ss':List j_}(h:AJ ss ss'){l:KS}(hk:∀p∈l,ss[p.2]?.map (λs=>(s.a,s.b))=some p.1):∀p∈l,ss'[p.2]?.map (λs=>(s.a,s.b))=some p.1:=λp hp=>(h.2 p.2).trans (hk p hp)
def aon {ss:List j_}{x:j_}{p n:Int}{xs:List Nat}(h:∀i∈xs,i<ss.length)(s:wL ss p xs n):wL (ss++[x]) p xs n:=by refine GN (λi hi=>?_) s;have:=h i hi;simp[Mg,Mh,List.getElem?_append_left this]
def aqK {ss:List j_}{i:Nat}{x:j_}{a b:Int}{p n:Int}{xs:List Nat}(hx:ss[i]? =some x)(s:wL ss p xs n):wL (ss.set i {x with a:=a,b:=b}) p xs n:=by refine GN (λj hj=>?_) s;unfold Mg Mh;grind
def aqL {m:List (Value×Value)}{ys:KS}{q:(Int×Int)×Nat}{j:Nat}{v:Value}(hm:m.Perm ((ys++[q]).map RN))(hj:m[j]? =some (Yy q.1,v))(hnd:((ys++[q]).map (·.1)).Nodup):(m.eraseIdx j).Perm (ys.map RN):=by
 have hmem:=hm.mem_iff.1 (List.mem_of_getElem? hj);obtain⟨q',Jv,e⟩:=List.mem_map.1 hmem;have e1:=Kz (congrArg Prod.fst e);have e2:=Q3 hnd Jv (by simp) e1;subst e2;obtain⟨hjl,hje⟩:=List.getElem?_eq_some_iff.1 hj;have h1:m.Perm (RN q'::m.eraseIdx j):=by
  rw[e,<-hje];have e3:m=m.take j++m[j]::m.drop (j+1):=by rw[List.getElem_cons_drop,List.take_append_drop]
  rw[List.eraseIdx_eq_take_drop_succ];exact(List.Perm.of_eq e3).trans List.perm_middle
 rw[List.map_append,List.map_singleton]at hm;exact List.Perm.cons_inv (h1.symm.trans (hm.trans (List.perm_append_singleton _ _)))
section
variable {F:Nat->Prop}{W w:World}{L:List As}{p:Nat}{k:Int}{l:KS}
def ace {Q:Int->Bool->Bool->World->Prop}{kb:Nat}{key:Int×Int}{slot:Nat}{had out:Bool}{rest:KS}{sa:Option Addr}{sn sc mb:Nat}{ss:List j_}{m:List (Value×Value)}{nw od:Int}
  (hk:1<=k)(hg:Good k ((key,slot)::rest))(Kl:sn=rest.length+1)(IE:wL ss (-1) (rest.map (·.2)) (-1))(RM:nw=HP (rest.map (·.2)) (-1))(Ky:od=BF (rest.map (·.2)) (-1))
  (hkeys:∀q∈(key,slot)::rest,ss[q.2]?.map (λs=>(s.a,s.b))=some q.1)(hm:m.Perm (((key,slot)::rest).map RN)\/m.Perm (rest.map RN))(hwf:∀q∈(key,slot)::rest,W2 q.1)
  (s:Sep F W w (av kb 253 (aom key)::av p 182 [ae k,.slice sa sn sc,.map (some mb),ae nw,ae od]::aj sa sn sc 334 4 (flat tM ss)::mapA P 253 mb m::L))
  (h:∀r' w',Sep F W w' (GO p k ((key,slot)::rest) r'::L)->Q slot had out w'):nK Q (sZ p) slot had out (aZ kb) w:=by
 have s:=ax s;apply ah;apply lM s 1 rfl;apply lI s 0 rfl;apply lI s 0 rfl;have hlen:((key,slot)::rest).length=sn:=by rw[Kl];rfl
 have fin:∀(m':List (Value×Value)) (w:World),m'.Perm (((key,slot)::rest).map RN)->Sep F W w (av kb 253 (aom key)::av p 182 [ae k,.slice sa sn sc,.map (some mb),ae nw,ae od]::aj sa sn sc 334 4 (flat tM ss)::mapA P 253 mb m'::L)->
   v9 (sZ p) slot w λavH=>Q slot had out avH:=by
  intro m' w hm' s;have hnd:=hg.nd;refine ajO (by have:=hg.lt (key,slot) (by simp);omega) (λi hi=>?_) hnd IE RM Ky (ai s) λss' w hK hS s=>?_
  ·obtain⟨q,hq,rfl⟩:=List.mem_map.1 hi;have:=hg.lt q (by simp[hq]);omega
  ·exact h ⟨sa,sn,sc,mb,ss',m',_,_⟩ w (adw s ⟨hk,hg,hlen.symm,rfl,rfl,hS,Q4 hK hkeys,hm',hwf⟩)
 refine WM kp aok s (i:=3) rfl (VG (hwf (key,slot) (by simp))) (λhabs w s=>?_) (λj v0 hj w s=>?_)
 ·rcases hm with hm|hm
  ·exact(habs (RN (key,slot)) (hm.mem_iff.2 (by simp)) rfl).elim
  ·refine fin _ w ?_ s;exact(List.perm_append_singleton _ _).trans (List.Perm.cons _ hm)
 ·rcases hm with hm|hm
  ·have hmem:=hm.mem_iff.1 (List.mem_of_getElem? hj);obtain⟨q,hq,e⟩:=List.mem_map.1 hmem;have e1:=Kz (congrArg Prod.fst e);have e2:=Q3 hg.Eu hq (q:=(key,slot)) (by simp) e1;subst e2;have e3:m.set j (.agg #[ae key.1,ae key.2],ae slot)=m:=by
    have:m[j]? =some (.agg #[ae key.1,ae key.2],ae slot):=by rw[hj,<-e];rfl
    exact qQ this
   grind
  ·have hmem:=hm.mem_iff.1 (List.mem_of_getElem? hj);obtain⟨q,hq,e⟩:=List.mem_map.1 hmem;have e1:=Kz (congrArg Prod.fst e);have:=hg.Eu;simp only[List.map_cons,List.nodup_cons]at this;exact(this.1 (List.mem_map.2 ⟨q,hq,e1⟩)).elim
attribute [local irreducible] nK in
theorem al_ {r:acd}{key:Int×Int}{Q:Int->Bool->Bool->World->Prop}(s:Sep F W w (GO p k l r::L))(hkey:W2 key)(Mf:l.length<=1000000)
  (h:∀r' w',Sep F W w' (GO p k (ke k l key).2 r'::L)->Q (ke k l key).1.1 (ke k l key).1.2.1 (ke k l key).1.2.2 w'):CE (sZ p) key.1 key.2 w Q:=by
 apply Wm;obtain⟨hI,s⟩:=agw s;have tN:=Yx (key:=key) hI.hk hI.good;have hwf':∀q∈(ke k l key).2,W2 q.1:=by
  intro q hq;unfold ke at hq;cases hf:l.find? (λp=>decide (p.1=key))with
  |some q0=>
   rw[hf]at hq;rcases List.mem_cons.1 hq with rfl|hq
   ·exact hkey
   ·exact hI.wf q (List.mem_filter.1 hq).1
  |none=>
   rw[hf]at hq;simp only at hq;split at hq
   ·rcases List.mem_cons.1 hq with rfl|hq
    ·exact hkey
    ·exact hI.wf q hq
   ·split at hq
    ·rcases List.mem_cons.1 hq with rfl|hq
     ·exact hkey
     ·exact hI.wf q (List.dropLast_subset l hq)
    ·exact hI.wf q hq
 unfold ke at h tN hwf';have AY:=qG s (i:=1) rfl;rw[iz kL]at AY;have Kl:=hI.sn;have acf:∀i∈l.map (·.2),i<r.sn:=λi hi=>by obtain⟨q,hq,rfl⟩:=List.mem_map.1 hi;have:=hI.good.lt q hq;omega
 refine aY s λkb w s=>?_;refine sT s 0 rfl λw s=>?_;refine az s (i:=0) rfl rfl rfl λw s=>?_;have s:=s;have s:=ax s;apply ah;apply lM s 1 rfl;apply lI s 0 rfl;apply lI s 0 rfl;have s':=cE s (List.perm_middle).symm;refine look s' hI hkey (λhf=>?_) (λq hf=>?_)
 ·simp only[dT,dg,dI,dB,ko,cond_false,cond_true,if_pos,show Nat.beq (Hh .i64) (Hh .i64)=true from rfl];rw[hf]at h tN hwf';have s:=ax s;apply ah;apply lS s 1 rfl;apply ah;apply lI s 1 rfl;by_cases hroom:(l.length:Int)<k
  ·rw[if_pos hroom]at h tN hwf';rw[bJ];apply ah;apply lS s 1 rfl;have s:=ax s;apply ah;apply lS s 1 rfl;apply lI s 0 rfl;apply lI s 0 rfl;refine aS s λzb w s=>?_;refine⟨cN s 2 rfl,?_⟩;have src:Src w (sZ zb) 1 4 (tM ⟨key.1,key.2,0,0⟩):=⟨rfl,al6 _,λj u hj=>by rw[cf,Nat.zero_add];exact c9 s (i:=0) rfl rfl hj⟩;refine iH dU s (i:=3) (bytes:=32) rfl rfl rfl rfl rfl rfl (by decide) rfl src (by simp[maxLen];omega) (by omega) (λe=>by cases e) λa1 c1 w s=>?_;have e:flat tM r.ss++tM ⟨key.1,key.2,0,0⟩=flat tM (r.ss++[⟨key.1,key.2,0,0⟩]):=by rw[gG];simp[flat]
   rw[e]at s;apply ah;refine az s (i:=2) rfl rfl rfl λw s=>?_;rw[Kl]at s⊢;have s:=ai s;refine ace hI.hk tN rfl (aon (λi hi=>by have:=acf i hi;omega) hI.seg) hI.nw hI.od (λq hq=>?_) (.inr hI.perm) hwf' s h;rcases List.mem_cons.1 hq with rfl|hq
   ·rw[List.getElem?_append_right (by omega),show l.length-r.ss.length=0 by omega];rfl
   ·have:=hI.good.lt q hq;rw[List.getElem?_append_left (by omega)];exact hI.key q hq
  ·rw[if_neg hroom]at h tN hwf';rw[bp];have hne:l≠[]:=λe=>by rw[e]at hroom;have:=hI.hk;simp at hroom;omega
   have sx:=s;obtain⟨ys,q,rfl⟩:∃ys q,l=ys++[q]:=⟨l.dropLast,l.getLast hne,(List.dropLast_concat_getLast hne).symm⟩;have s:=sx;rw[List.getLast?_concat,List.dropLast_concat]at h tN hwf';have avJ:r.od=(q.2:Int):=by rw[hI.od,List.map_append];exact Yv _ _ _
   apply ah;apply lI s 1 rfl;rw[avJ];have s:=cE s (List.Perm.trans (List.Perm.swap ..) (List.Perm.cons _ (List.Perm.swap ..)));have hnd:=hI.good.nd;have IE:=hI.seg;have RM:=hI.nw;have Ky:=hI.od;rw[List.map_append,List.map_singleton]at hnd IE RM Ky acf;refine UQ acf hnd IE RM Ky s λss' w hK hS s=>?_;rw[List.append_nil]at s hS;have hl':ss'.length=r.ss.length:=hK.1;have hkeys:=Q4 hK hI.key;have s:=ax s;apply ah;apply lM s 0 rfl;apply ah;apply lS s 0 rfl;have asx:=acf q.2 (by simp);have hkq:=hkeys q (by simp);have hqw:=hI.wf q (by simp);refine(aL s (i:=1) rfl kL (by decide)).El rfl asx λpp x hx hc=>?_;rw[hx]at hkq;have hxa:x.a=q.1.1:=congrArg Prod.fst (Option.some.inj hkq);have hxb:x.b=q.1.2:=congrArg Prod.snd (Option.some.inj hkq);apply aQ (hc 0 _ rfl);apply aQ (hc 1 _ rfl);rw[hxa,hxb];have go:∀(m':List (Value×Value)) (w:World),m'.Perm (ys.map RN)->Sep F W w (av p 182 [ae k,.slice r.sa r.sn r.sc,.map (some r.mb),ae (HP (ys.map (·.2)) (-1)),ae (BF (ys.map (·.2)) (-1))]::aj r.sa r.sn r.sc 334 4 (flat tM ss')::av kb 253 (aom key)::mapA P 253 r.mb m'::L)->
     wA (some (aZ p)) λp44=>aB (p44.add 1) w.drew λatJ atK ayz=>af .i64 ((aZ kb).add 0) w.drew λatL=>af .i64 ((aZ kb).add 1) w.drew λatM=>aH (q.2:Int) atK<|wA atJ λp_1=>
      St ((p_1.add ((q.2:Int).toNat*4)).add 0) (ae atL) w.drew λatN=>St ((p_1.add ((q.2:Int).toNat*4)).add 1) (ae atM) atN λatO=>nK Q (sZ p) q.2 false true (aZ kb) atO:=by
    intro m' w hm' s;have s:=ax s;apply ah;apply lS s 0 rfl;apply lI s 2 rfl;apply lI s 2 rfl;refine BR s (i:=1) rfl rfl asx λg o e=>?_;rw[e]at s;refine dz (i:=1) (x':={x with a:=key.1}) kL s rfl hx (dJ _ _ _ _ _) (by decide) rfl rfl λw s=>?_;have hx':(ss'.set q.2 {x with a:=key.1})[q.2]? =some {x with a:=key.1}:=List.getElem?_set_self (by omega);refine dz (i:=1) (x':={x with a:=key.1,b:=key.2}) kL s rfl hx' (dJ _ _ _ _ _) (by decide) rfl rfl λw s=>?_;simp only[List.set_cons_zero,List.set_cons_succ]at s;rw[List.set_set,<-e]at s;have s:=cE s (List.Perm.trans (List.Perm.cons _ (List.Perm.swap ..)) (List.Perm.swap ..));have aoo:r.sn=ys.length+1:=by rw[Kl];simp
    refine ace hI.hk tN aoo (aqK hx hS) rfl rfl (λz hz=>?_) (.inr hm') hwf' s h;rw[List.getElem?_set];rcases List.mem_cons.1 hz with rfl|hz
    ·simp only;rw[if_pos trivial,zP];rfl
    ·have hne:¬q.2=z.2:=λe=>by rw[List.nodup_append]at hnd;exact hnd.2.2 z.2 (List.mem_map.2 ⟨z,hz,rfl⟩) q.2 (by simp) e.symm
     rw[if_neg hne];exact hkeys z (by simp[hz])
   have avK:=hI.good.Eu;refine WN kp aok s (i:=3) rfl (VG hqw) (λhabs w s=>?_) (λj v0 hj w s=>?_)
   ·exact(habs (RN q) (hI.perm.mem_iff.2 (List.mem_map.2 ⟨q,by simp,rfl⟩)) rfl).elim
   ·exact go _ w (aqL hI.perm hj avK) s
 ·have sx:=s;obtain⟨rfl,hq⟩:=Ml hf;have s:=sx;rw[hf]at h tN hwf';obtain⟨pre,post,e1,e2⟩:=Yw hI.good.Eu hq;rw[e2]at h tN hwf';have hnd:=hI.good.nd;have IE:=hI.seg;have RM:=hI.nw;have Ky:=hI.od;rw[e1,List.map_append,List.map_cons]at hnd IE RM Ky acf;have s:=cE s (List.Perm.trans (List.Perm.swap ..) (List.Perm.cons _ (List.Perm.swap ..)));refine UQ acf hnd IE RM Ky s λss' w hK hS s=>?_;rw[<-List.map_append]at s hS;have s:=cE s (List.Perm.trans (List.Perm.cons _ (List.Perm.swap ..)) (List.Perm.swap ..));have Ng:List.Perm ((q.1,q.2)::(pre++post)) l:=by rw[e1];exact List.perm_middle.symm
  have aoo:r.sn=(pre++post).length+1:=by rw[Kl,<-Ng.length_eq];rfl
  refine ace hI.hk tN aoo hS rfl rfl (λz hz=>?_) (.inl (hI.perm.trans (Ng.map RN).symm)) hwf' s h;exact Q4 hK hI.key z (Ng.mem_iff.1 hz)
end
end Go.Proofs.YtmegplnmiepfbaaGreatDoor.S.Lr
namespace Go.Proofs.YtmegplnmiepfbaaGreatDoor.S
open Go.Sx
open Go.RowKit Go.ChangeMaps Go.MapKept
open Go.Maps (Keyed)
structure acg (k:TypeId) (β:Type) where
 enc:β->Value
 ok:β->Prop
 inj:∀a b,enc a=enc b->a=b
 key:∀b,ok b->∃l,keyOf P k (enc b)=some l
 keyed:Keyed P k
def asz:P.underlying 3=some (.int .i64):=by kernel_rfl
def g_ (n:Int):Prop:=-9223372036854775808<=n/\n<9223372036854775808
def g_.wf {n:Int}(h:g_ n):(Lit.int .i64 n).wf=true:=by unfold g_ at h;simp[Lit.wf];exact⟨h.1,by omega⟩
noncomputable def e9:acg 3 Int:=⟨λn=>ae n,g_,λa b h=>by cases h;rfl,λb h=>⟨_,Go.Maps.keyOf_int_mk asz h.wf⟩,Go.Maps.int_keyed asz⟩
noncomputable def Jg:acg 253 (Int×Int):=⟨Lr.Yy,λp=>g_ p.1/\g_ p.2,λa b h=>Lr.Kz h,λb h=>Lr.VG ⟨h.1.wf,h.2.wf⟩,Lr.kp⟩
section
variable {k:TypeId}{α β:Type}{K:acg k β}{v:α->Value}{ms:List (β×α)}
noncomputable def fF (K:acg k β)(v:α->Value)(b:Nat)(ms:List (β×α)):As:=mapA P k b (ms.map λp=>(K.enc p.1,v p.2))
def ou (ms:List (β×α)):Prop:=(ms.map (·.1)).Nodup
def aiI (h:ou ms){i j:Nat}{p q:β×α}(hi:ms[i]? =some p)(hj:ms[j]? =some q)(e:p.1=q.1):i=j:=by
 have h1:(ms.map (·.1))[i]? =some p.1:=by grind
 have Hq:=(List.getElem?_eq_some_iff.1 h1).1;exact(List.getElem?_inj Hq h).1 (by grind)
def Yz {F:Nat->Prop}{W w:World}{L:List As}{Q:Option Nat->World->Prop}(s:Sep F W w L)(t:TypeId)(K:acg k β)(v:α->Value)(h:∀b w',Sep F W w' (fF K v b ([]:List (β×α))::L)->Q (some b) w'):b_ P t none w Q:=afu s P k t h
variable [DecidableEq β]
def e_ (ms:List (β×α))(x:β):Option α:=(ms.find? λp=>decide (p.1=x)).map (·.2)
def Q5 {x:β}:e_ ms x=none↔∀p∈ms,p.1≠x:=by unfold e_;simp_all
def KB (h:ou ms){x:β}{a:α}:e_ ms x=some a↔(x,a)∈ms:=by
 unfold e_;induction ms with
 |nil=>simp
 |cons p ms ih=>
  unfold ou at h ih;grind
def agx (h:ou ms){x:β}{a:α}{j:Nat}(hj:ms[j]? =some (x,a)):e_ ms x=some a:=(KB h).2 (List.mem_of_getElem? hj)
def aop (h:ou ms){x:β}{a:α}(hn:e_ ms x=none):ou (ms++[(x,a)])/\∀y,e_ (ms++[(x,a)]) y=if y=x then some a else e_ ms y:=by
 have hx:=Q5.1 hn;have hk:ou (ms++[(x,a)]):=by rw[ou,List.map_append,List.nodup_append];refine⟨h,by simp,λy hy z hz=>?_⟩;grind
 refine⟨hk,λy=>?_⟩;unfold e_;grind
def aqM (h:ou ms){x:β}{a a0:α}{j:Nat}(hj:ms[j]? =some (x,a0)):ou (ms.set j (x,a))/\∀y,e_ (ms.set j (x,a)) y=if y=x then some a else e_ ms y:=by
 have hk:ou (ms.set j (x,a)):=by
  rw[ou,List.map_set];have:(ms.map (·.1)).set j x=ms.map (·.1):=by apply List.ext_getElem?;grind
  rw[this];exact h
 refine⟨hk,λy=>?_⟩;apply Option.ext;intro b;rw[KB hk];by_cases e:y=x
 ·subst e;rw[if_pos rfl];constructor
  ·intro hm;obtain⟨i,hi⟩:=List.mem_iff_getElem?.1 hm;have hj':(ms.set j (y,a))[j]? =some (y,a):=by grind
   have:=aiI hk hi hj' rfl;grind
  ·intro hb;cases hb;exact List.mem_of_getElem? (i:=j) (by grind)
 ·rw[if_neg e,KB h];constructor
  ·grind
  ·intro hm;obtain⟨i,hi⟩:=List.mem_iff_getElem?.1 hm;apply List.mem_of_getElem? (i:=i);grind
def aqN (h:ou ms){x:β}{a0:α}{j:Nat}(hj:ms[j]? =some (x,a0)):ou (ms.eraseIdx j)/\∀y,e_ (ms.eraseIdx j) y=if y=x then none else e_ ms y:=by
 have hsub:=List.eraseIdx_sublist ms j;have hk:=List.Nodup.sublist (hsub.map _) h;refine⟨hk,λy=>?_⟩;apply Option.ext;intro b;rw[KB hk];by_cases e:y=x
 ·subst e;constructor
  ·intro hm;rw[List.mem_eraseIdx_iff_getElem?]at hm;obtain⟨i,hi,hi'⟩:=hm;exact(hi (aiI h hi' hj rfl)).elim
  grind
 ·rw[if_neg e,KB h];constructor
  ·grind
  ·intro hm;rw[List.mem_eraseIdx_iff_getElem?];obtain⟨i,hi⟩:=List.mem_iff_getElem?.1 hm;grind
attribute [local irreducible] af cq bq bf aB bY bT St Bx Al App cu cg b_ bR aK bw aq bP av aj aU mapA
variable {F:Nat->Prop}{W w:World}{L:List As}{i b:Nat}{t e:TypeId}{x:β}
def Dt {c:Bool}{z:Value}{Q:Value->World->Prop}(ht:P.underlying t=some (.map k e))(hz:(zeroValue e).run P w=.ok z w)(s:Sep F W w L)(hi:L[i]? =some (fF K v b ms))(hnd:ou ms)(hx:K.ok x)
  (h0:e_ ms x=none->Q (if c then .tuple #[z,.bool false]else z) w)(h1:∀a,e_ ms x=some a->Q (if c then .tuple #[v a,.bool true]else v a) w):aK P (Instr.lookup t (.map (some b)) (K.enc x) c) w Q:=by
 have hi':L[i]? =some (mapA P k b (ms.map λp=>(K.enc p.1,v p.2))):=hi;refine ac2 K.keyed ht hz s hi' (K.key x hx) (λh=>h0 (Q5.2 λp hp e=>?_)) λj u hj=>?_
 ·exact h (K.enc p.1,v p.2) (List.mem_map.2 ⟨p,hp,rfl⟩) (by rw[e])
 ·rw[List.getElem?_map]at hj;cases hm:ms[j]? with
  |none=>grind
  |some p=>
   rw[hm]at hj;simp[Option.map_some,Option.some.injEq,Prod.mk.injEq]at hj;obtain⟨e1,rfl⟩:=hj;have e1:=K.inj _ _ e1;exact h1 p.2 (agx (j:=j) hnd (by grind))
def KC {Q:World->Prop}{a:α}(ht:P.underlying t=some (.map k e))(s:Sep F W w L)(hi:L[i]? =some (fF K v b ms))(hnd:ou ms)(hx:K.ok x)
  (h:∀ms' w',ou ms'->(∀y,e_ ms' y=if y=x then some a else e_ ms y)->(ms'.length=if(e_ ms x).isNone then ms.length+1 else ms.length)->Sep F W w' (L.set i (fF K v b ms'))->Q w'):bw P (Instr.mapUpdate t (.map (some b)) (K.enc x) (v a)) w Q:=by
 have hi':L[i]? =some (mapA P k b (ms.map λp=>(K.enc p.1,v p.2))):=hi;refine WM K.keyed ht s hi' (K.key x hx) (λh0 w' s'=>?_) λj u hj w' s'=>?_
 ·have hn:=Q5.2 λp hp e=>h0 (K.enc p.1,v p.2) (List.mem_map.2 ⟨p,hp,rfl⟩) (by rw[e]);obtain⟨k1,k2⟩:=aop hnd hn;apply h (ms++[(x,a)]) w' k1 k2 (by grind);unfold fF;grind
 ·rw[List.getElem?_map]at hj;cases hm:ms[j]? with
  |none=>grind
  |some p=>
   rw[hm]at hj;simp[Option.map_some,Option.some.injEq,Prod.mk.injEq]at hj;obtain⟨e1,rfl⟩:=hj;have e1:=K.inj _ _ e1;have hm:ms[j]? =some (x,p.2):=by grind
   obtain⟨k1,k2⟩:=aqM hnd hm;apply h (ms.set j (x,a)) w' k1 k2 (by rw[agx hnd hm,List.length_set];rfl);unfold fF;simp_all
def asA {ty:TypeId}{Q:Value->World->Prop}(ht:P.underlying t=some (.map k e))(s:Sep F W w L)(hi:L[i]? =some (fF K v b ms))(hnd:ou ms)(hx:K.ok x)
  (h:∀ms' w',ou ms'->(∀y,e_ ms' y=if y=x then none else e_ ms y)->(ms'.length=if(e_ ms x).isNone then ms.length else ms.length-1)->Sep F W w' (L.set i (fF K v b ms'))->Q (.tuple #[]) w'):aK P (Builtin.delete_ #[t,k] ty [.map (some b),K.enc x].toArray) w Q:=by
 have hi':L[i]? =some (mapA P k b (ms.map λp=>(K.enc p.1,v p.2))):=hi;refine WN K.keyed ht s hi' (K.key x hx) (λh0 w' s'=>?_) λj u hj w' s'=>?_
 ·have hn:=Q5.2 λp hp e=>h0 (K.enc p.1,v p.2) (List.mem_map.2 ⟨p,hp,rfl⟩) (by rw[e]);refine h ms w' hnd (λy=>?_) (by rw[hn];rfl) ?_
  ·grind
  ·have:L.set i (fF K v b ms)=L:=by apply List.ext_getElem?;grind
   grind
 ·rw[List.getElem?_map]at hj;cases hm:ms[j]? with
  |none=>grind
  |some p=>
   rw[hm]at hj;simp[Option.map_some,Option.some.injEq,Prod.mk.injEq]at hj;obtain⟨e1,rfl⟩:=hj;have e1:=K.inj _ _ e1;have hm:ms[j]? =some (x,p.2):=by grind
   have hjl:=(List.getElem?_eq_some_iff.1 hm).1;obtain⟨k1,k2⟩:=aqN hnd hm;apply h (ms.eraseIdx j) w' k1 k2 (by rw[agx hnd hm,List.length_eraseIdx,if_pos hjl];rfl);rw[fF,ChangeMaps.map_eraseIdx];exact s'
end
def aiJ {α β:Type}:ou ([]:List (β×α)):=List.nodup_nil
end Go.Proofs.YtmegplnmiepfbaaGreatDoor.S
namespace Go.Proofs.YtmegplnmiepfbaaGreatDoor.S
open Go.Sx
def ama {P:Program}{F:Nat->Prop}{W w:World}{L:List As}{t e ty k:TypeId}{b i:Nat}{m:List (Value×Value)}{Q:Value->World->Prop}(ht:P.underlying t=some (.map k e))(s:Sep F W w L)(hi:L[i]? =some (mapA P k b m))(h:Q (ae (m.length:Nat)) w):aK P (Builtin.len_ #[t] ty [.map (some b)].toArray) w Q:=by
 obtain⟨es,clock,hb,hm,_⟩:=fN s hi;have hb:=hb;have hl:es.size=m.length:=by grind
 have:(Builtin.len_ #[t] ty [.map (some b)].toArray).run P w=.ok (ae (m.length:Nat)) w:=by simp[Builtin.len_,run_underlying ht,MapKept.run_getObj_map hb,Result.andThen,goInt,hl]
 unfold aK;grind
attribute [local irreducible] af cq bq bf aB bY bT St Bx Al App cu cg b_ bR aK bw aq bP av aj aU mapA
def aoq {F:Nat->Prop}{W w:World}{L:List As}{t e ty:TypeId}{k:TypeId}{α β:Type}{K:acg k β}{v:α->Value}{ms:List (β×α)}{b i:Nat}{Q:Value->World->Prop}(ht:P.underlying t=some (.map k e))(s:Sep F W w L)(hi:L[i]? =some (fF K v b ms))(h:Q (ae (ms.length:Nat)) w):aK P (Builtin.len_ #[t] ty [.map (some b)].toArray) w Q:=by have hi':L[i]? =some (mapA P k b (ms.map λp=>(K.enc p.1,v p.2))):=hi;apply ama ht s hi';grind
structure aM where
 id:Int
 cell:Int
 goal:Int
deriving DecidableEq
def gW (u:aM):List Value:=[ae u.id,ae u.cell,ae u.goal]
def BG (u:aM):(gW u).length=3:=rfl
def amb (x:aM)(u:Value)(h:u∈gW x):u.oneCell'=true:=by unfold gW at h;simp[List.mem_cons,List.not_mem_nil,or_false]at h;rcases h with rfl|rfl|rfl<;>rfl
def G7 (u:aM):Value:=.agg #[ae u.id,ae u.cell,ae u.goal]
structure sG where
 most:Int
 next:Int
 us:List aM
structure UR where
 p:Nat
 mb:Nat
 oa:Option Addr
 on:Nat
 oc:Nat
 ms:List (Int×aM)
 os:List Int
def gy (us:List aM)(i:Int):Option aM:=us.find? λu=>decide (u.id=i)
structure Q6 (r:UR) (y:sG):Prop where
 most:1<=y.most/\y.most<=65536
 Eu:ou r.ms
 e_:∀i,e_ r.ms i=gy y.us i
 len:r.ms.length=y.us.length
 ord:r.os.filter (λi=>(gy y.us i).isSome)=y.us.map (·.id)
 agy:r.os.length<=2*y.us.length
 Mb:(y.us.map (·.id)).Pairwise (·<·)
 jP:∀u∈y.us,0<=u.id/\u.id<y.next
 nh:(y.us.length:Int)<=y.most
 onx:∀i∈r.os,0<=i/\i<y.next
 Pb:0<=y.next/\y.next<=1000000000
def US (r:UR)(y:sG):List Value:=[ae y.most,ae y.next,.map (some r.mb),.slice r.oa r.on r.oc]
noncomputable def avL (r:UR)(y:sG):List As:=[av r.p 171 (US r y),fF e9 G7 r.mb r.ms,aj r.oa r.on r.oc 3 1 (flat one r.os)]
noncomputable def vk (r:UR)(y:sG):As:=aU (Q6 r y) (avL r y)
section
variable {F:Nat->Prop}{W w w0:World}{L:List As}{r:UR}{y:sG}{id:Int}
def tZ (s:Sep F W w (vk r y::L)):Q6 r y/\Sep F W w (av r.p 171 (US r y)::fF e9 G7 r.mb r.ms::aj r.oa r.on r.oc 3 1 (flat one r.os)::L):=iT s
def DW (s:Sep F W w (av r.p 171 (US r y)::fF e9 G7 r.mb r.ms::aj r.oa r.on r.oc 3 1 (flat one r.os)::L))(h:Q6 r y):Sep F W w (vk r y::L):=dW s h
def aai {Q:Option Addr->World->Prop}{most:Int}(hm:1<=most/\most<=65536)(s:Sep F W w L)(h:∀r w',Sep F W w' (vk r ⟨most,0,[]⟩::L)->Q (sZ r.p) w'):E0 most w Q:=by
 apply Zv;rw[bp,bp];refine Yz s 169 e9 G7 λmb w s=>?_;refine aS s λp w s=>?_;refine h ⟨p,mb,none,0,0,[],[]⟩ w (DW ?_ ?_)
 ·exact cE (bE s 3 1) ((List.Perm.swap _ _ _).trans (List.Perm.cons _ (List.Perm.swap _ _ _)))
 ·exact⟨hm,List.Pairwise.nil,λi=>rfl,rfl,rfl,Nat.le_refl _,List.Pairwise.nil,(λu hu=>by cases hu),by grind,(λi hi=>by cases hi),by grind⟩
def Jh:P.underlying 169=some (.map 3 43):=by kernel_rfl
def YA (w:World):(zeroValue 43).run P w=.ok (G7 ⟨0,0,0⟩) w:=by kernel_rfl
def ay7:zc T 43=[ae 0,ae 0,ae 0]:=rfl
def aaj {Q:Int->World->Prop}(s:Sep F W w (vk r y::L))(h:Q (y.us.length:Nat) w):xX (sZ r.p) w Q:=by apply Od;obtain⟨hok,s⟩:=tZ s;refine l9 (ah (lM s 0 rfl ?_));apply aoq Jh s (i:=1) rfl;rw[hok.len];exact h
def rO {Q:Int->Int->Int->Bool->World->Prop}(s0:Sep F W w (vk r y::L))(yW:g_ id)
  (hno:gy y.us id=none->∀w',Sep F W w' (vk r y::L)->Q 0 0 0 false w')(hyes:∀u,gy y.us id=some u->∀w',Sep F W w' (vk r y::L)->Q u.id u.cell u.goal true w'):iv (sZ r.p) id w Q:=by
 apply Oh;refine aY s0 λp w s=>?_;obtain⟨hok,s⟩:=tZ (jm s);refine l9 (ah (lM s 0 rfl ?_));have fin:∀(u:aM) (b:Bool) (w:World),Sep F W w (av r.p 171 (US r y)::fF e9 G7 r.mb r.ms::aj r.oa r.on r.oc 3 1 (flat one r.os)::av p 43 [ae 0,ae 0,ae 0]::L)->
   (∀w',Sep F W w' (vk r y::L)->Q u.id u.cell u.goal b w')->
   Al T 43 w λx w=>St (x.add 0) (ae u.id) w λw=>St (x.add 1) (ae u.cell) w λw=>St (x.add 2) (ae u.goal) w λw=>
   af .i64 (x.add 0) w λa=>af .i64 (x.add 1) w λc=>af .i64 (x.add 2) w λd=>
   St ((aZ p).add 0) (ae a) w λw=>St ((aZ p).add 1) (ae c) w λw=>St ((aZ p).add 2) (ae d) w λw=>
   af .i64 ((aZ p).add 0) w λa=>af .i64 ((aZ p).add 1) w λc=>af .i64 ((aZ p).add 2) w λd=>Q a c d b w:=λu b w s h=>by
  refine aY s λx w s=>?_;refine sT s 0 rfl λw s=>?_;refine sT s 0 rfl λw s=>?_;refine az s (i:=0) rfl rfl rfl λw s=>?_;refine lI s 0 rfl (lI s 0 rfl (lI s 0 rfl ?_));refine sT s 4 rfl λw s=>?_;refine sT s 4 rfl λw s=>?_;refine az s (i:=4) rfl rfl rfl λw s=>?_;refine lI s 4 rfl (lI s 4 rfl (lI s 4 rfl ?_));exact h w (DW (gH s (.cons _ (.cons_cons _ (.cons_cons _ (.cons_cons _ (.cons _ (List.Sublist.refl _))))))) hok)
 refine Dt (K:=e9) Jh (YA w) s (i:=1) rfl hok.Eu yW (λh=>?_) λu h=>?_
 ·exact fin ⟨0,0,0⟩ false w s (hno (by rw[<-hok.e_];exact h))
 ·exact fin u true w s (hyes u (by rw[<-hok.e_];exact h))
end
end Go.Proofs.YtmegplnmiepfbaaGreatDoor.S
namespace Go.Proofs.YtmegplnmiepfbaaGreatDoor.S
open Go.Sx
attribute [local irreducible] af cq bq bf aB bY bT St Bx Al App cu cg b_ bR aK bw aq bP av aj aU mapA
section
variable {F:Nat->Prop}{W w w0:World}{L:List As}
def W4 {Q:Option Addr->Nat->Nat->World->Prop}{p mb on oc:Nat}{oa:Option Addr}{most next:Int}{ms:List (Int×aM)}{os:List Int}(hk:ou ms)(ho:∀i∈os,g_ i)(hl:os.length<=200000)
  (s:Sep F W w (av p 171 [ae most,ae next,.map (some mb),.slice oa on oc]::fF e9 G7 mb ms::aj oa on oc 3 1 (flat one os)::L))
  (h:∀a n c w',Sep F W w' (aj a n c 3 1 (flat one (os.filter λi=>(e_ ms i).isSome))::av p 171 [ae most,ae next,.map (some mb),.slice oa on oc]::fF e9 G7 mb ms::aj oa on oc 3 1 (flat one os)::L)->Q a n c w'):
  pT (sZ p) w Q:=by
 apply Lg;refine ah (lS s 0 rfl ?_);have hlen:=(aL s (i:=2) rfl cj (by decide)).len;have loop:∀(j i:Nat) (a:Option Addr) (n c:Nat) (w:World),i+j=on->n<=i->Sep F W w (aj a n c 3 1 (flat one ((os.take i).filter λi=>(e_ ms i).isSome))::av p 171 [ae most,ae next,.map (some mb),.slice oa on oc]::fF e9 G7 mb ms::aj oa on oc 3 1 (flat one os)::L)->
   lu Q (j+1) (sZ p) a n c oa on oc (on:Int) i w:=by
  intro j;induction j with
  |zero=>
   intro i a n c w hij Y3 s;show nS _ _ _ _ _ _ _ _ _ _ _ _;unfold nS;grind
  |succ j ih=>
   intro i a n c w hij Y3 s;show nS _ _ _ _ _ _ _ _ _ _ _ _;rw[nS,bJ];apply(aL s (i:=3) rfl cj (by decide)).pC rfl (by omega);have hg:os[i]? =some (gi os i):=by unfold gi;grind
   have hx:=ho _ (List.mem_of_getElem? hg);have xq:os.take (i+1)=os.take i++[gi os i]:=by rw[List.take_add_one,hg];rfl
   generalize gi os i=x at hg hx xq;have wr:IntKind.wrap .i64 ((i:Int)+1)=((i+1:Nat):Int):=by rw[Gm (g_.wf (by unfold g_;omega))];omega
   refine ah (lM s 1 rfl ?_);have step:∀(u:aM) (b:Bool),(e_ ms x).isSome=b->Al T 43 w λp6 w=>St (p6.add 0) (ae u.id) w λw=>St (p6.add 1) (ae u.cell) w λw=>St (p6.add 2) (ae u.goal) w λw=>
     cond b (Bx [ae x] 3 w λp29 w=>App P #[29,29] 29 (.slice a n c) (.slice (some p29) 1 1) w λa n c w=>lu Q (j+1) (sZ p) a n c oa on oc (on:Int) (IntKind.wrap .i64 ((i:Int)+1)) w)
      (lu Q (j+1) (sZ p) a n c oa on oc (on:Int) (IntKind.wrap .i64 ((i:Int)+1)) w):=λu b hb=>by
    refine aY s λp6 w s=>?_;refine sT s 0 rfl λw s=>?_;refine sT s 0 rfl λw s=>?_;refine sT s 0 rfl λw s=>?_;have s:=ai s;rw[wr];cases b with
    |true=>
     refine Kb s (by omega) λa' c' w s=>?_;apply ih (i+1) a' (n+1) c' w (by omega) (by omega);rw[xq,List.filter_append];simp[List.filter_cons,hb,List.filter_nil,if_true];exact s
    |false=>
     apply ih (i+1) a n c w (by omega) (by omega);rw[xq,List.filter_append];simp[List.filter_cons,hb,List.filter_nil,Bool.false_eq_true,if_false,List.append_nil];exact s
   refine Dt (K:=e9) Jh (YA w) s (i:=2) rfl hk hx (λh=>?_) λu h=>?_
   ·exact step ⟨0,0,0⟩ false (by rw[h];rfl)
   ·exact step u true (by rw[h];rfl)
 exact⟨on+1,loop on 0 none 0 0 w (by omega) (by omega) (bE s 3 1)⟩
end
end Go.Proofs.YtmegplnmiepfbaaGreatDoor.S
namespace Go.Proofs.YtmegplnmiepfbaaGreatDoor.S.Hp
abbrev E:=Int×Int
def yH (a b:E):Bool:=decide (a.1<b.1)||(a.1==b.1&&decide (a.2<b.2))
def aiL {a b:E}:yH a b=true↔a.1<b.1\/a.1=b.1/\a.2<b.2:=by simp[yH]
def VH {a b:E}:yH a b=false↔¬(a.1<b.1\/a.1=b.1/\a.2<b.2):=by rw[<-aiL,Bool.not_eq_true]
def Mn {a b:E}(h:yH a b=true):yH b a=false:=by rw[aiL]at h;rw[VH];omega
def Fx {a b c:E}(h:yH b a=false)(k:yH c b=false):yH c a=false:=by rw[VH]at*;omega
def YB {a:E}:yH a a=false:=by rw[VH];omega
def g (es:List E)(i:Nat):E:=es.getD i (0,0)
def Du {es:List E}{i:Nat}(h:i<es.length):es[i]? =some (g es i):=by rw[g,List.getD_eq_getElem?_getD,List.getElem?_eq_getElem h];rfl
def apI {es:List E}{i j:Nat}{x:E}(h:i<es.length):g (es.set i x) j=if i=j then x else g es j:=by unfold g;grind
def swap (es:List E)(i p:Nat):List E:=(es.set i (g es p)).set p (g es i)
def qO (es:List E)(i p:Nat):(swap es i p).length=es.length:=by simp[swap]
def HR {es:List E}{i p j:Nat}(hi:i<es.length)(hp:p<es.length):g (swap es i p) j=if p=j then g es i else if i=j then g es p else g es j:=by rw[swap,apI (by grind),apI hi]
def swap_perm {es:List E}{i p:Nat}(hi:i<es.length)(hp:p<es.length):(swap es i p).Perm es:=by
 rw[List.perm_iff_count];intro a;unfold swap;have e1:es[i]=g es i:=by have:=Du hi;grind
 have e2:es[p]=g es p:=by have:=Du hp;grind
 grind
def yI (es:List E):Prop:=∀j,0<j->j<es.length->yH (g es j) (g es ((j-1)/2))=false
structure VI (es:List E) (i:Nat):Prop where
 rest:∀j,0<j->j<es.length->j≠i->yH (g es j) (g es ((j-1)/2))=false
 over:∀j,0<j->j<es.length->(j-1)/2=i->0<i->yH (g es j) (g es ((i-1)/2))=false
def ach {es:List E}{i:Nat}(h:VI es i)(hs:i=0\/yH (g es i) (g es ((i-1)/2))=false):yI es:=by
 intro j h1 h2;by_cases hj:j=i
 ·grind
 ·exact h.rest j h1 h2 hj
def aqO {es:List E}{i:Nat}(h:VI es i)(hi:0<i)(hl:i<es.length)(hs:yH (g es i) (g es ((i-1)/2))=true):VI (swap es i ((i-1)/2)) ((i-1)/2):=by
 have hp:(i-1)/2<es.length:=by omega
 have hne:(i-1)/2≠i:=by omega
 constructor
 ·intro j h1 h2 hj;rw[qO]at h2;rw[HR hl hp,HR hl hp,if_neg (Ne.symm hj)];by_cases hji:i=j
  ·subst hji;rw[if_pos rfl,if_pos rfl];exact Mn hs
  ·rw[if_neg hji];by_cases hpj:(i-1)/2=(j-1)/2
   ·rw[if_pos hpj];have:=h.rest j h1 h2 (Ne.symm hji);rw[<-hpj]at this;exact Fx (Mn hs) this
   ·rw[if_neg hpj];by_cases hij:i=(j-1)/2
    ·rw[if_pos hij];exact h.over j h1 h2 hij.symm hi
    ·rw[if_neg hij];exact h.rest j h1 h2 (Ne.symm hji)
 ·intro j h1 h2 hj h0;rw[qO]at h2;have hj':(i-1)/2≠j:=by omega
  rw[HR hl hp,HR hl hp,if_neg hj',if_neg (show(i-1)/2≠((i-1)/2-1)/2 by omega),if_neg (show i≠((i-1)/2-1)/2 by omega)];have asC:=h.rest ((i-1)/2) h0 hp hne;by_cases hji:i=j
  ·rw[if_pos hji];exact asC
  ·rw[if_neg hji];have:=h.rest j h1 h2 (Ne.symm hji);rw[hj]at this;exact Fx asC this
structure Jp (es:List E) (i:Nat):Prop where
 rest:∀j,0<j->j<es.length->(j-1)/2≠i->yH (g es j) (g es ((j-1)/2))=false
 over:∀j,0<j->j<es.length->(j-1)/2=i->0<i->yH (g es j) (g es ((i-1)/2))=false
structure apJ (es:List E) (i l k:Nat):Prop where
 lt:l<es.length
 who:l=i\/l=2*i+1\/l=2*i+2
 self:yH (g es i) (g es l)=false
 kids:∀j,2*i+1<=j->j<k->j<es.length->yH (g es j) (g es l)=false
def amc {es:List E}{i:Nat}(h:Jp es i)(hs:∀j,2*i+1<=j->j<=2*i+2->j<es.length->yH (g es j) (g es i)=false):yI es:=by
 intro j h1 h2;by_cases hj:(j-1)/2=i
 ·grind
 ·exact h.rest j h1 h2 hj
def amd {es:List E}{i l:Nat}(h:Jp es i)(hi:i<es.length)(hl:l<es.length)(hw:l=2*i+1\/l=2*i+2)(hs:yH (g es i) (g es l)=false)
  (hk:∀j,2*i+1<=j->j<=2*i+2->j<es.length->yH (g es j) (g es l)=false):Jp (swap es i l) l:=by
 have hne:l≠i:=by omega
 constructor
 ·intro j h1 h2 hj;rw[qO]at h2;rw[HR hi hl,HR hi hl,if_neg (show l≠(j-1)/2 from λe=>hj e.symm)];by_cases hpi:i=(j-1)/2
  ·grind
  ·rw[if_neg hpi,if_neg (show l≠j by omega)];by_cases hij:i=j
   ·subst hij;rw[if_pos rfl];exact h.over l (by omega) hl (by omega) h1
   ·rw[if_neg hij];exact h.rest j h1 h2 (Ne.symm hpi)
 ·intro j h1 h2 hj h0;rw[qO]at h2;have e:(l-1)/2=i:=by omega
  rw[e,HR hi hl,HR hi hl,if_neg (show l≠j by omega),if_neg (show i≠j by omega),if_neg hne,if_pos rfl];have:=h.rest j h1 h2 (by omega);grind
def ajQ {es:List E}(h:yI es):∀j,j<es.length->yH (g es j) (g es 0)=false:=by
 intro j;induction j using Nat.strongRecOn with
 |_ j ih=>
  intro hj;by_cases h0:j=0
  ·subst h0;exact YB
  ·exact Fx (ih ((j-1)/2) (by omega) (by omega)) (h j (by omega) hj)
def aci {es:List E}(h:yI es){x:E}(hx:x∈es):yH x (g es 0)=false:=by
 obtain⟨j,hj,rfl⟩:=List.getElem_of_mem hx;have:=ajQ h j hj;have e:es[j]=g es j:=by have:=Du hj;grind
 rwa[e]
def RO {es:List E}{x:E}{j:Nat}(h:j<es.length):g (es++[x]) j=g es j:=by unfold g;grind
def aor {es:List E}{x:E}(h:yI es):VI (es++[x]) es.length:=by
 constructor
 ·intro j h1 h2 hj;simp[List.length_append,List.length_cons,List.length_nil]at h2;rw[RO (by omega),RO (by omega)];exact h j h1 (by omega)
 grind
def aqP {es:List E}(h:yI es)(h0:0<es.length):Jp ((es.set 0 (g es (es.length-1))).take (es.length-1)) 0:=by
 have hg:∀j,0<j->j<es.length-1->g ((es.set 0 (g es (es.length-1))).take (es.length-1)) j=g es j:=by intro j h1 h2;unfold g;grind
 constructor
 ·intro j h1 h2 hj;have h2:j<es.length-1:=by grind
  rw[hg j h1 h2,hg _ (by omega) (by omega)];exact h j h1 (by omega)
 omega
def aos {es:List E}(h0:0<es.length):(g es 0::(es.set 0 (g es (es.length-1))).take (es.length-1)).Perm es:=by
 match es,h0 with
 |[x],_=>simp[g]
 |x::y::es,_=>
  have e:g (x::y::es) ((x::y::es).length-1)=(y::es).getLast (by simp):=by unfold g;grind
  rw[e];have e2:((x::y::es).set 0 ((y::es).getLast (by simp))).take ((x::y::es).length-1)=(y::es).getLast (by simp)::(y::es).dropLast:=by simp[List.dropLast_eq_take]
  have e3:g (x::y::es) 0=x:=rfl;apply List.Perm.cons x;have:=List.dropLast_concat_getLast (l:=y::es) (by simp);grind
end Go.Proofs.YtmegplnmiepfbaaGreatDoor.S.Hp
namespace Go.Proofs.YtmegplnmiepfbaaGreatDoor.S.Hp
open Go.Sx
attribute [local irreducible] af cq bq bf aB bY bT St Bx Al App cu cg b_ bR aK bw aq bP av aj
def dU:vO P T:=Dy P rows Gn
def oz {n lo hi:Int}{w:World}{Q:Int->World->Prop}(h1:lo<=hi)(h2:-1099511627776<=lo)(h3:hi<=1099511627776)(h:Q (lo+n%(hi-lo+1)) w):je n lo hi w Q:=by
 apply tB;rw[aF (n:=hi-lo),aF];generalize hs:hi-lo+1=s at h;have h4:=Int.lt_tmod_of_pos n (b:=s) (by omega);have h5:=Int.tmod_lt_of_pos n (b:=s) (by omega);have h6:=Int.tmod_add_mul_tdiv n s;refine⟨by omega,?_⟩;generalize ht:Int.tmod n s=t at*;have e:n%s=t%s:=by rw[<-h6,Int.add_mul_emod_self_left]
 by_cases hn:t<0
 ·rw[bJ hn,aF (n:=t+hi),aF (n:=t+hi-lo),aF (n:=t+hi-lo+1),aF];have e2:t%s=t+s:=by rw[<-Int.add_emod_right,Int.emod_eq_of_lt (by omega) (by omega)]
  grind
 ·rw[bp hn,aF];rw[e,Int.emod_eq_of_lt (by omega) h5]at h;exact h
def pr (x:E):List Value:=[ae x.1,ae x.2]
def gY (x:E):(pr x).length=2:=rfl
def Ev {F:Nat->Prop}{W w:World}{L:List As}{a b c d:Int}{Q:Bool->World->Prop}(s:Sep F W w L)(h:∀w',Sep F W w' L->Q (yH (a,b) (c,d)) w'):rE a b c d w Q:=by
 apply Oy;refine aS s λb1 w1 s=>?_;refine aS s λb2 w2 s=>?_;apply lI s 1 rfl;apply lI s 0 rfl;have hh:=h w2 (ai (ai s));unfold yH at hh;by_cases h1:a<c
 ·grind
 ·rw[bp h1];rw[decide_eq_false h1,Bool.false_or]at hh;apply lI s 1 rfl;apply lI s 0 rfl;cases h2:(a==c)with
  |false=>
   grind
  |true=>
   rw[h2,Bool.true_and]at hh;apply lI s 1 rfl;apply lI s 0 rfl;exact hh
section
variable {F:Nat->Prop}{W w:World}{L:List As}{i j p b o n c:Nat}{Q:World->Prop}
def aqQ (hij:i≠j):∀(m q:Nat) (es:List E) (w:World),q<=m->q<es.length->es.length=n->n<=4000000000000->VI es q->∀L:List As,L[i]? =some (av p 351 [.slice (some ⟨b,o,none⟩) n c])->L[j]? =some (aj (some ⟨b,o,none⟩) n c 353 2 (flat pr es))->Sep F W w L->
  (∀w' es',yI es'->es'.Perm es->Sep F W w' (L.set j (aj (some ⟨b,o,none⟩) n c 353 2 (flat pr es')))->Q w')->qA Q (m+1) (sZ p) q w:=by
 intro m;induction m with
 |zero=>
  intro q es w hq hl hn KD inv L hi hj s h;obtain rfl:q=0:=by omega
  show uE Q (qA Q 0) _ _ _;unfold uE;apply h w es (ach inv (.inl rfl)) (.refl _);rw[qQ hj];exact s
 |succ m ih=>
  intro q es w hq hl hn KD inv L hi hj s h;show uE Q (qA Q (m+1)) _ _ _;unfold uE;by_cases h0:q=0
  ·subst h0;apply h w es (ach inv (.inl rfl)) (.refl _);rw[qQ hj];exact s
  ·rw[bJ];have e1:IntKind.wrap .i64 (Int.tdiv (IntKind.wrap .i64 ((q:Int)-1)) 2)=(((q-1)/2:Nat):Int):=by rw[aF (n:=(q:Int)-1),Int.tdiv_eq_ediv_of_nonneg (by omega),aF];omega
   rw[e1];have s':Sep F W w.drew L:=s;have gq:=Du hl;have hp:(q-1)/2<es.length:=by omega
   have gp:=Du hp;refine⟨by decide,ah ?_⟩;apply iG s' rfl hi rfl;refine⟨by omega,by omega,ah ?_⟩;rw[show((q:Int)).toNat=q from rfl,show((((q-1)/2:Nat):Int)).toNat=(q-1)/2 from rfl];apply ef gY s' hj gq (dJ ..) rfl;refine ef gY s' hj gq (dJ ..) rfl (ah ?_);apply iG s' rfl hi rfl;refine⟨by omega,by omega,ah ?_⟩;apply ef gY s' hj gp (dJ ..) rfl;apply ef gY s' hj gp (dJ ..) rfl;refine Ev s' λw1 s1=>?_;cases hs:yH (g es q) (g es ((q-1)/2))with
   |false=>
    apply h w1 es (ach inv (.inr hs)) (.refl _);rw[qQ hj];exact s1
   |true=>
    rw[Bool.not_true,cond_false];have s2:Sep F W w1.drew L:=s1;apply ah;refine iG s2 rfl hi rfl (ah ?_);refine iG s2 rfl hi rfl (ah ?_);apply iG s2 rfl hi rfl;refine⟨by omega,by omega,ah ?_⟩;apply ef gY s2 hj gp (dJ ..) rfl;refine ef gY s2 hj gp (dJ ..) rfl (ah ?_);apply iG s2 rfl hi rfl;refine⟨by omega,by omega,ah ?_⟩;apply ef gY s2 hj gq (dJ ..) rfl;apply ef gY s2 hj gq (dJ ..) rfl;refine⟨by omega,by omega,ah ?_⟩;have hjL:=(List.getElem?_eq_some_iff.1 hj).1;refine dz gY (x':=((g es ((q-1)/2)).1,(g es q).2)) s2 hj gq (dJ ..) (by decide) rfl rfl λw3 s3=>?_;refine dz gY (x:=((g es ((q-1)/2)).1,(g es q).2)) (x':=g es ((q-1)/2)) s3 (by rw[List.getElem?_set_self hjL]) (by rw[List.getElem?_set_self hl]) (dJ ..) (by decide) rfl rfl λw4 s4=>?_;rw[gL,gL]at s4;refine⟨by omega,by omega,ah ?_⟩;have hne:q≠(q-1)/2:=by omega
    have gp':(es.set q (g es ((q-1)/2)))[(q-1)/2]? =some (g es ((q-1)/2)):=by rw[List.getElem?_set_ne hne];exact gp
    refine dz gY (x':=((g es q).1,(g es ((q-1)/2)).2)) s4 (by rw[List.getElem?_set_self hjL]) gp' (dJ ..) (by decide) rfl rfl λw5 s5=>?_;refine dz gY (x:=((g es q).1,(g es ((q-1)/2)).2)) (x':=g es q) s5 (by rw[List.getElem?_set_self (by simpa using hjL)]) (by rw[List.getElem?_set_self (by simpa using hp)]) (dJ ..) (by decide) rfl rfl λw6 s6=>?_;rw[gL,gL,gL]at s6;have s6:Sep F W w6 (L.set j (aj (some ⟨b,o,none⟩) n c 353 2 (flat pr (swap es q ((q-1)/2))))):=s6;refine ih ((q-1)/2) (swap es q ((q-1)/2)) w6 (by omega) (by rw[qO];exact hp) (by rw[qO];exact hn) KD (aqO inv (by omega) hl hs) _ (by rw[List.getElem?_set_ne (Ne.symm hij)];exact hi) (by rw[List.getElem?_set_self hjL]) s6 λw' es' k1 k2 k3=>?_;rw[gL]at k3;exact h w' es' k1 (k2.trans (swap_perm hl hp)) k3
end
section
variable {F:Nat->Prop}{W w:World}{L:List As}{i j p b o n c:Nat}{Q:World->Prop}
def ajS {P1:Option Addr->Int->World->Prop}{es:List E}{q:Nat}(hq:q<es.length)(hn:es.length=n)(KD:n<=4000000000000)
  (hi:L[i]? =some (av p 351 [.slice (some ⟨b,o,none⟩) n c]))(hj:L[j]? =some (aj (some ⟨b,o,none⟩) n c 353 2 (flat pr es)))
  (h:∀w' l,Sep F W w' L->apJ es q l (2*q+3)->nW P1 Q (sZ p) q l w'):
  ∀(m k l:Nat) (w:World),k+m=2*q+3->2*q+1<=k->Sep F W w L->apJ es q l k->lO P1 Q (m+1) (sZ p) q l k w:=by
 intro m;induction m with
 |zero=>
  intro k l w hk Hs s hl;show lN P1 Q (lO P1 Q 0) _ _ _ _ _;rw[lN,aF (n:=2*(q:Int)),aF,bp];grind
 |succ m ih=>
  intro k l w hk Hs s hl;show lN P1 Q (lO P1 Q (m+1)) _ _ _ _ _;rw[lN,aF (n:=2*(q:Int)),aF,bJ];apply ah;apply iG s rfl hi rfl;by_cases hkn:k<n
  ·rw[bJ];have s':Sep F W w.drew L:=s;have gk:=Du (es:=es) (i:=k) (by omega);have gl:=Du hl.lt;have pI:=hl.lt;apply ah;apply iG s' rfl hi rfl;refine⟨by omega,by omega,ah ?_⟩;apply ef gY s' hj gk (dJ ..) rfl;refine ef gY s' hj gk (dJ ..) rfl (ah ?_);apply iG s' rfl hi rfl;refine⟨by omega,by omega,ah ?_⟩;apply ef gY s' hj gl (dJ ..) rfl;apply ef gY s' hj gl (dJ ..) rfl;refine Ev s' λw1 s1=>?_;rw[aF];cases hs:yH (g es k) (g es l)with
   |true=>
    refine ih (k+1) k w1 (by omega) (by omega) s1 ⟨by omega,by omega,Fx (Mn hs) hl.self,λx h1 h2 h3=>?_⟩;by_cases hx:x=k
    ·subst hx;exact YB
    ·exact Fx (Mn hs) (hl.kids x h1 (by omega) h3)
   |false=>
    refine ih (k+1) l w1 (by omega) (by omega) s1 ⟨hl.lt,hl.who,hl.self,λx h1 h2 h3=>?_⟩;by_cases hx:x=k
    ·grind
    ·exact hl.kids x h1 (by omega) h3
  ·rw[bp];exact h w l s ⟨hl.lt,hl.who,hl.self,λx h1 h2 h3=>hl.kids x h1 (by omega) h3⟩
def ame (hij:i≠j):∀(m q:Nat) (es:List E) (w:World),es.length<=q+m->q<es.length->es.length=n->n<=4000000000000->Jp es q->∀L:List As,L[i]? =some (av p 351 [.slice (some ⟨b,o,none⟩) n c])->L[j]? =some (aj (some ⟨b,o,none⟩) n c 353 2 (flat pr es))->Sep F W w L->
  (∀w' es',yI es'->es'.Perm es->Sep F W w' (L.set j (aj (some ⟨b,o,none⟩) n c 353 2 (flat pr es')))->Q w')->nX Q (m+1) (sZ p) q w:=by
 intro m;induction m with
 |zero=>
  omega
 |succ m ih=>
  intro q es w hq hl hn KD inv L hi hj s h;show wk Q (nX Q (m+1)) _ _ _;rw[wk,aF (n:=2*(q:Int)),aF];refine⟨3,?_⟩;have e0:(2*(q:Int)+1)=((2*q+1:Nat):Int):=by omega
  refine ajS hl hn KD hi hj (λw1 l s1 hle=>?_) 2 (2*q+1) q w (by omega) (by omega) s ⟨hl,.inl rfl,YB,λx h1 h2 h3=>by omega⟩;unfold nW;by_cases hlq:l=q
  ·subst hlq;rw[beq_self_eq_true,cond_true];apply h w1 es (amc inv λx h1 h2 h3=>hle.kids x h1 (by omega) h3) (.refl _);rw[qQ hj];exact s1
  ·rw[show(((l:Int))==(q:Int))=false by rw[beq_eq_false_iff_ne];omega,cond_false];have s2:Sep F W w1.drew L:=s1;have Mf:=hle.lt;have gq:=Du hl;have gl:=Du Mf;have hw:l=2*q+1\/l=2*q+2:=by
    rcases hle.who with h|h
    ·exact absurd h hlq
    ·exact h
   apply ah;refine iG s2 rfl hi rfl (ah ?_);refine iG s2 rfl hi rfl (ah ?_);apply iG s2 rfl hi rfl;refine⟨by omega,by omega,ah ?_⟩;rw[show((q:Int)).toNat=q from rfl,show((l:Int)).toNat=l from rfl];apply ef gY s2 hj gl (dJ ..) rfl;refine ef gY s2 hj gl (dJ ..) rfl (ah ?_);apply iG s2 rfl hi rfl;refine⟨by omega,by omega,ah ?_⟩;apply ef gY s2 hj gq (dJ ..) rfl;apply ef gY s2 hj gq (dJ ..) rfl;refine⟨by omega,by omega,ah ?_⟩;have hjL:=(List.getElem?_eq_some_iff.1 hj).1;refine dz gY (x':=((g es l).1,(g es q).2)) s2 hj gq (dJ ..) (by decide) rfl rfl λw3 s3=>?_;refine dz gY (x:=((g es l).1,(g es q).2)) (x':=g es l) s3 (by rw[List.getElem?_set_self hjL]) (by rw[List.getElem?_set_self hl]) (dJ ..) (by decide) rfl rfl λw4 s4=>?_;rw[gL,gL]at s4;refine⟨by omega,by omega,ah ?_⟩;have hne:q≠l:=by omega
   have gl':(es.set q (g es l))[l]? =some (g es l):=by rw[List.getElem?_set_ne hne];exact gl
   refine dz gY (x':=((g es q).1,(g es l).2)) s4 (by rw[List.getElem?_set_self hjL]) gl' (dJ ..) (by decide) rfl rfl λw5 s5=>?_;refine dz gY (x:=((g es q).1,(g es l).2)) (x':=g es q) s5 (by rw[List.getElem?_set_self (by simpa using hjL)]) (by rw[List.getElem?_set_self (by simpa using Mf)]) (dJ ..) (by decide) rfl rfl λw6 s6=>?_;rw[gL,gL,gL]at s6;have s6:Sep F W w6 (L.set j (aj (some ⟨b,o,none⟩) n c 353 2 (flat pr (swap es q l)))):=s6;refine ih l (swap es q l) w6 (by rw[qO];omega) (by rw[qO];exact Mf) (by rw[qO];exact hn) KD (amd inv hl Mf hw hle.self λx h1 h2 h3=>hle.kids x h1 (by omega) h3) _ (by rw[List.getElem?_set_ne (Ne.symm hij)];exact hi) (by rw[List.getElem?_set_self hjL]) s6 λw' es' k1 k2 k3=>?_;rw[gL]at k3;exact h w' es' k1 (k2.trans (swap_perm hl Mf)) k3
end
end Go.Proofs.YtmegplnmiepfbaaGreatDoor.S.Hp
namespace Go.Proofs.YtmegplnmiepfbaaGreatDoor.S.Hp
open Go.Sx
def pW (p:Nat)(a:Option Addr)(c:Nat)(es:List E):As where
 fp:=λk=>k=p\/∃x,a=some x/\x.block=k
 ok:=λh=>(av p 351 [.slice a es.length c]).ok h/\(aj a es.length c 353 2 (flat pr es)).ok h/\(∀x,a=some x->x.block≠p)/\yI es
 lt:=λh hb k hk=>by
  rcases hk with rfl|hk
  ·exact As.lt _ h hb.1 _ rfl
  ·exact As.lt _ h hb.2.1 _ hk
 fr:=λh h' hb he=>⟨As.fr _ h h' hb.1 λb hb=>he b (.inl hb),As.fr _ h h' hb.2.1 λb hb=>he b (.inr hb),hb.2.2⟩
section
variable {F:Nat->Prop}{W w w':World}{L:List As}{i p c:Nat}{a:Option Addr}{es:List E}
def Ew (s:Sep F W w L)(hi:L[i]? =some (pW p a c es)):Sep (pW p a c es).fp w w [av p 351 [.slice a es.length c],aj a es.length c 353 2 (flat pr es)]:=by obtain⟨h1,h2,h3,_⟩:=fN s hi;refine anJ h1 h2 (λb hb=>.inl hb) (λb hb=>.inr hb) λb hb hb'=>?_;obtain⟨x,hx,rfl⟩:=hb';exact h3 x hx hb
def UT (s:Sep F W w L)(hi:L[i]? =some (pW p a c es)):yI es:=(fN s hi).2.2.2
def aam {a':Option Addr}{c':Nat}{es':List E}(s:Sep F W w L)(hi:L[i]? =some (pW p a c es))(s':Sep (pW p a c es).fp w w' [av p 351 [.slice a' es'.length c'],aj a' es'.length c' 353 2 (flat pr es')])(hh:yI es'):
  Sep F W w' (L.set i (pW p a' c' es')):=by
 refine Y8 s hi s' ⟨fN s' (i:=0) rfl,fN s' (i:=1) rfl,λx hx e=>?_,hh⟩ λb hb=>?_
 ·exact ak7 s' (i:=0) (j:=1) rfl rfl (by decide) p rfl ⟨x,hx,e⟩
 ·rcases hb with hb|hb
  ·exact⟨_,List.mem_cons_self,hb⟩
  ·exact⟨_,List.mem_cons_of_mem _ List.mem_cons_self,hb⟩
def UU (s:Sep F W w L)(hi:L[i]? =some (pW p a c es))(h0:0<es.length):∃b o,a=some ⟨b,o,none⟩:=pB (Ew s hi) (i:=1) rfl h0
def aou (s:Sep F W w L)(hi:L[i]? =some (pW p a c es)):es.length<=c:=(PJ (Ew s hi) (i:=1) rfl).1
def aqR {b:Nat}{t:TypeId}{cs:List Value}{m size:Nat}(s:Sep F W w L)(hi:L[i]? =some (av b t cs))(hl:cs.length=m*size)(h1:∀u∈cs,u.oneCell'=true):Src w (sZ b) m size cs:=
 ⟨hl,h1,λj u hj=>by rw[cf,Nat.zero_add];exact c9 s rfl hi hj⟩
def ajU {p:Nat}{w:World}(h:(av p 351 [.slice none 0 0]).ok w.heap):(pW p none 0 []).ok w.heap:=
 ⟨h,⟨⟨by simp[flat],Nat.le_refl _,by decide,by simp[flat]⟩,.inl ⟨rfl,rfl⟩⟩,λx hx=>(by cases hx),λj h1 h2=>(by simp at h2)⟩
end
def Et {p:Addr}{A B:Prop}(h:B):cond (some p).isNone A B:=h
attribute [local irreducible] af cq bq bf aB bY bT St Bx Al App cu cg b_ bR aK bw aq bP av aj
section
variable {F:Nat->Prop}{W w:World}{L:List As}{i p c:Nat}{a:Option Addr}{es:List E}
def Pc {Q:Option Addr->World->Prop}(s:Sep F W w L)(h:∀p w',Sep F W w' (pW p none 0 []::L)->Q (sZ p) w'):BY w Q:=by
 apply abG;refine aS s λp w1 s=>h p w1 ?_;exact wO (i:=0) (A':=pW p none 0 []) s rfl Fr.refl (ajU (fN s (i:=0) rfl)) λb hb=>.inl (by
  rcases hb with hb|⟨x,hx,_⟩
  ·subst hb;unfold av;rfl
  ·cases hx)
def aeI {b o n j:Nat}{Q:World->Prop}(hij:i≠j)(hl:0<es.length)(hn:es.length=n)(KD:n<=4000000000000)(inv:VI es (n-1))(hi:L[i]? =some (av p 351 [.slice (some ⟨b,o,none⟩) n c]))(hj:L[j]? =some (aj (some ⟨b,o,none⟩) n c 353 2 (flat pr es)))(s:Sep F W w L)
  (h:∀w' es',yI es'->es'.Perm es->Sep F W w' (L.set j (aj (some ⟨b,o,none⟩) n c 353 2 (flat pr es')))->Q w'):Be (sZ p) w Q:=by
 apply Uc;apply ah;apply iG s rfl hi rfl;rw[aF,show((n:Int)-1)=((n-1:Nat):Int) by omega];exact⟨n,aqQ hij (n-1) (n-1) es w (Nat.le_refl _) (by omega) hn KD inv L hi hj s h|>λk=>by grind⟩
def AK {k x:Int}{Q:World->Prop}(s:Sep F W w L)(hi:L[i]? =some (pW p a c es))(hn:es.length<4000000000000)
  (h:∀w' a' c' es',es'.Perm (es++[(k,x)])->Sep F W w' (L.set i (pW p a' c' es'))->Q w'):mq (sZ p) k x w Q:=by
 apply Qu;apply Et;have s0:=Ew s hi;have hh:=UT s hi;apply ah;apply lS s0 0 rfl;refine aS s0 λbx w1 s1=>?_;have src:=aqR (size:=2) s1 (i:=0) rfl rfl (λu hu=>by simp at hu;rcases hu with rfl|rfl<;>rfl);refine iH dU s1 (i:=2) (bytes:=16) rfl rfl rfl rfl rfl rfl (by decide) rfl src (by simp[maxLen];omega) (by omega) (λe=>by cases e) λa' c' w2 s2=>?_;have s2:=ai s2;have e1:flat pr es++[ae k,ae x]=flat pr (es++[(k,x)]):=by rw[gG];rfl
 rw[e1]at s2;apply ah;refine az s2 (i:=0) rfl rfl rfl λw3 s3=>?_;obtain⟨b,o,rfl⟩:=pB s3 (i:=1) rfl (by omega);have hl:(es++[(k,x)]).length=es.length+1:=by simp
 refine aeI (i:=0) (j:=1) (by decide) (by omega) hl (by omega) (by rw[show es.length+1-1=es.length by omega];exact aor hh) rfl rfl s3 λw4 es' q1 q2 s4=>?_;have hl':es'.length=es.length+1:=by rw[q2.length_eq,hl]
 refine h w4 (some ⟨b,o,none⟩) c' es' q2 (aam s hi ?_ q1);grind
def acj {Q:Int->World->Prop}(s:Sep F W w L)(hi:L[i]? =some (pW p a c es))(h:Q (es.length:Int) w):Ad (sZ p) w Q:=by apply SS;refine Et (ah ?_);exact iG (Ew s hi) (i:=0) rfl rfl rfl h
def ack {Q:Int->Int->Bool->World->Prop}(s:Sep F W w L)(hi:L[i]? =some (pW p a c es))(h0:es=[]->∀w',Sep F W w' L->Q 0 0 false w')(h1:0<es.length->∀w',Sep F W w' L->Q (g es 0).1 (g es 0).2 true w'):Ac (sZ p) w Q:=by
 apply SU;apply acj s hi;by_cases he:es.length=0
 ·grind
 ·rw[show((es.length:Int)==0)=false by grind,cond_false];obtain⟨b,o,rfl⟩:=UU s hi (by omega);have s0:=Ew s hi;have s0:Sep (pW p (some ⟨b,o,none⟩) c es).fp w w.drew _:=s0;have g0:=Du (es:=es) (i:=0) (by omega);apply ah;apply lS s0 0 rfl;refine⟨by omega,by omega,ah ?_⟩;refine ef gY s0 (i:=1) rfl g0 (anI ..) rfl (ah ?_);apply lS s0 0 rfl;refine⟨by omega,by omega,ah ?_⟩;apply ef gY s0 (i:=1) rfl g0 (dJ ..) rfl;refine⟨vG s0 (i:=1) rfl (j:=0*2+1) (dJ ..) (by rw[rS gY g0 (by decide)];rfl),cN s0 0 rfl,?_⟩;exact h1 (by omega) w.drew s
def aan {b o n j:Nat}{Q:World->Prop}(hij:i≠j)(hn:es.length=n)(KD:n<=4000000000000)(inv:Jp es 0)(hi:L[i]? =some (av p 351 [.slice (some ⟨b,o,none⟩) n c]))(hj:L[j]? =some (aj (some ⟨b,o,none⟩) n c 353 2 (flat pr es)))(s:Sep F W w L)
  (h:∀w' es',yI es'->es'.Perm es->Sep F W w' (L.set j (aj (some ⟨b,o,none⟩) n c 353 2 (flat pr es')))->Q w'):zm (sZ p) w Q:=by
 apply Qv;by_cases h0:es.length=0
 ·have W5:=List.eq_nil_of_length_eq_zero h0;subst W5;obtain rfl:n=0:=by grind
  refine⟨1,?_⟩;show wk Q (nX Q 0) _ _ _;refine⟨1,?_⟩;show lN _ Q (lO _ Q 0) _ _ _ _ _;rw[lN,show decide (IntKind.wrap .i64 (IntKind.wrap .i64 (2*0)+1)<=IntKind.wrap .i64 (IntKind.wrap .i64 (2*0)+2))=true by decide,cond_true];apply ah;apply iG s rfl hi rfl;unfold nW;apply h w [] (λj h1 h2=>by simp at h2) (.refl _);rw[qQ hj];exact s
 ·exact⟨es.length+1,ame hij es.length 0 es w (by omega) (by omega) hn KD inv L hi hj s h⟩
def Cj {Q:Int->Int->Bool->World->Prop}(s:Sep F W w L)(hi:L[i]? =some (pW p a c es))(KD:es.length<=4000000000000)(h0:es=[]->∀w',Sep F W w' L->Q 0 0 false w')
  (h1:0<es.length->∀w' a' c' es',(g es 0::es').Perm es->Sep F W w' (L.set i (pW p a' c' es'))->Q (g es 0).1 (g es 0).2 true w'):jo (sZ p) w Q:=by
 apply SV;refine ack s hi (λhe w1 s1=>?_) λhpos w1 s=>?_
 ·unfold xG;grind
 ·rw[cond_true];obtain⟨b,o,rfl⟩:=UU s hi hpos;have hh:=UT s hi;have hcap:=aou s hi;have s0:=Ew s hi;have s1:Sep (pW p (some ⟨b,o,none⟩) c es).fp w1 w1.drew _:=s0;have e1:IntKind.wrap .i64 ((es.length:Int)-1)=((es.length-1:Nat):Int):=by rw[aF];omega
  have gl:=Du (es:=es) (i:=es.length-1) (by omega);have g0:=Du hpos;apply ah;refine lS s0 0 rfl (ah ?_);refine lS s1 0 rfl (ah ?_);apply lS s1 0 rfl;rw[e1];refine⟨by omega,by omega,ah ?_⟩;apply ef gY s1 (i:=1) rfl gl (dJ ..) rfl;apply ef gY s1 (i:=1) rfl gl (dJ ..) rfl;refine⟨by omega,by omega,ah ?_⟩;refine dz gY (x':=((g es (es.length-1)).1,(g es 0).2)) s1 (i:=1) rfl g0 (dJ ..) (by decide) rfl rfl λw3 s3=>?_;refine dz gY (k:=0) (x:=((g es (es.length-1)).1,(g es 0).2)) (x':=g es (es.length-1)) s3 (i:=1) rfl (by grind) (dJ ..) (by decide) rfl rfl λw4 s4=>?_;simp[List.set_cons_zero,List.set_cons_succ,gL]at s4;apply ah;apply lS s4 0 rfl;refine Nw rfl (by omega) (ah ?_);refine sT s4 0 rfl λw5 s5=>?_;have s6:=Rx s5 (i:=1) rfl (m:=es.length-1) (by omega);rw[Tq gY]at s6;have hl:((es.set 0 (g es (es.length-1))).take (es.length-1)).length=es.length-1:=by simp
  refine aan (i:=0) (j:=1) (by decide) hl (by omega) (aqP hh hpos) rfl rfl s6 λw7 es' k1 k2 s7=>?_;have hl':es'.length=es.length-1:=by rw[k2.length_eq,hl]
  refine h1 hpos w7 (some ⟨b,o,none⟩) c es' ((List.Perm.cons _ k2).trans (aos hpos)) (aam s hi ?_ k1);grind
end
end Go.Proofs.YtmegplnmiepfbaaGreatDoor.S.Hp
namespace Go.Proofs.YtmegplnmiepfbaaGreatDoor.S
open Go.Sx
section
variable {α:Type}{S:α->Int->Prop}{E:α->α->Int->Prop}{f:α->Int}{Q Q':List (Int×α)}
structure RP (S:α->Int->Prop) (E:α->α->Int->Prop) (cap:Int) (f:α->Int) (Q:List (Int×α)) (P:α->α->Int->Prop):Prop where
 ways:∀x,f x<cap->Wy S E x (f x)
 top:∀x,f x<=cap
 key:∀e∈Q,f e.2<=e.1
 vS:∀x n c,E x n c->f n<cap->(f n,n)∈Q\/f x<=f n+c\/cap<=f n+c\/P x n c
variable {cap:Int}{P P':α->α->Int->Prop}
def RP.aeX [DecidableEq α]{f':α->Int}{y:α}{k:Int}(h:RP S E cap f Q P)(hk:k<f y)(hw:Wy S E y k)(hf:∀x,f' x=if x=y then k else f x)(hq:∀e,e∈Q'↔e∈Q\/e=(k,y))(hP:∀x n c,P x n c->x=y->(∃d,f n=d/\k<=d+c)\/P' x n c)(hP':∀x n c,P x n c->x≠y->P' x n c)(hy:∀x c,P x y c->False):RP S E cap f' Q' P' where
 ways x hx:=by
  rw[hf]at hx⊢;split
  ·grind
  ·rename_i e;rw[if_neg e]at hx;exact h.ways x hx
 top x:=by
  rw[hf];have:=h.top y;split
  ·omega
  ·exact h.top x
 key e he:=by
  rcases(hq e).1 he with h1|rfl
  ·have:=h.key e h1;grind
  grind
 vS x n c e hn:=by
  by_cases en:n=y
  ·grind
  ·have efn:f' n=f n:=by grind
   rw[efn]at hn⊢;rcases h.vS x n c e hn with h1|h1|h1|h1
   all_goals grind
def RP.weaken (h:RP S E cap f Q P)(hP:∀x n c,P x n c->E x n c->f n<cap->f x<=f n+c\/cap<=f n+c\/P' x n c):RP S E cap f Q P' where
 ways:=h.ways
 top:=h.top
 key:=h.key
 vS x n c e hn:=by
  rcases h.vS x n c e hn with h1|h1|h1|h1
  all_goals grind
def RP.pop {k:Int}{y:α}(h:RP S E cap f Q λ_ _ _=>False)(hq:∀e,e∈Q↔e∈Q'\/e=(k,y)):RP S E cap f Q' λx n c=>n=y/\f y=k/\E x n c where
 ways:=h.ways
 top:=h.top
 key e he:=h.key e ((hq e).2 (.inl he))
 vS x n c e hn:=by
  rcases h.vS x n c e hn with h1|h1|h1|h1
  all_goals grind
def RP.lci (h:RP S E cap f Q λ_ _ _=>False)(hs:∀x k,S x k->f x<=k\/cap<=k):LcI S E cap f Q:=⟨h.ways,h.top,hs,λx n c e hn=>by
 rcases h.vS x n c e hn with h1|h1|h1|h1
 all_goals grind⟩
end
def DX (ds:List Int):Nat:=(ds.map Int.toNat).sum
def YC {k:Int}:∀{ds:List Int} {i:Nat},i<ds.length->DX (ds.set i k)+(gi ds i).toNat=DX ds+k.toNat
 |[],i,h=>by simp at h
 |d::ds,0,h=>by show(k.toNat+(ds.map Int.toNat).sum)+d.toNat=(d.toNat+(ds.map Int.toNat).sum)+k.toNat;omega
 |d::ds,i+1,h=>by have ih:=YC (k:=k) (by simpa using h);have ih:DX (ds.set i k)+(gi (d::ds) (i+1)).toNat=DX ds+k.toNat:=ih;show(d.toNat+DX (ds.set i k))+(gi (d::ds) (i+1)).toNat=(d.toNat+DX ds)+k.toNat;omega
def agz (k:Int):∀n:Nat,DX (List.replicate n k)=n*k.toNat
 |0=>by simp[DX]
 |n+1=>by have ih:=agz k n;show k.toNat+DX (List.replicate n k)=_;grind
def z0:Int:=2147483647
def fC (ds:List Int)(x:Int):Int:=if 0<=x/\x<ds.length then gi ds x.toNat else z0
def agA {ds:List Int}{x k:Int}(hx:0<=x/\x<ds.length)(y:Int):fC (ds.set x.toNat k) y=if y=x then k else fC ds y:=by
 unfold fC;rw[List.length_set];by_cases hy:0<=y/\y<ds.length
 ·rw[if_pos hy,if_pos hy,Ts (by omega)];omega
 grind
def asD {ds:List Int}{x:Int}(hx:0<=x/\x<ds.length)(hd:∀y∈ds,y<=z0):atF ds x=if fC ds x<z0 then fC ds x else bW:=by
 unfold atF fC;rw[if_pos hx,if_pos hx];have:=hd _ (fy (i:=x.toNat) (by omega));by_cases h:gi ds x.toNat=2147483647
 ·rw[if_pos h,if_neg (by unfold z0;omega)]
 ·rw[if_neg h,if_pos (by unfold z0 at*;omega)]
section
variable {m:bN}{t:Int}
def fM (dm:List (Int×Int))(c:Int):Int:=(e_ dm c).getD bW
def unM (m:bN)(dm:List (Int×Int)):Nat:=(jF m).countP λc=>decide (fM dm c=bW)
def An (m:bN)(t:Int):Int->Int->Int->Prop:=sR (fJ m) (cO m) (cO m t)
structure W6 (m:bN) (t:Int) (dm:List (Int×Int)) (es:List (Int×Int)):Prop where
 dj:NA (fY m t) (An m t) (fM dm) es
 Df:∀e∈es,eU m e.2=true/\cO m e.2=cO m t/\0<=e.1
 top:∀e∈es,e.1+254*(unM m dm:Int)<=254*((jF m).length:Int)
 nd:ou dm
 lt:∀c d,e_ dm c=some d->0<=d/\d<1000000000
 nh:es.length+4*unM m dm<=1+4*(jF m).length
def HS (m:bN)(t x key s:Int):List (Int×Int):=if 0<=aX m.w m.h x s/\aC m.w m.h (aX m.w m.h x s)=aC m.w m.h t/\cH m (aX m.w m.h x s)≠255 then[(key,aX m.w m.h x s)]else[]
def Dv (m:bN)(t x key:Int)(j:Nat):List (Int×Int):=(List.range j).flatMap λs:Nat=>HS m t x key s
def Q7 (x key:Int)(j:Nat):Dv m t x key (j+1)=Dv m t x key j++HS m t x key j:=by unfold Dv;rw[List.range_succ,List.flatMap_append];simp
def ajV (x key s:Int):(HS m t x key s).length<=1:=by unfold HS;grind
def UW (x key:Int):∀j:Nat,(Dv m t x key j).length<=j
 |0=>by simp[Dv]
 |j+1=>by have:=UW x key j;have:=ajV (m:=m) (t:=t) x key j;rw[Q7,List.length_append];omega
def adx {x key:Int}{e:Int×Int}:e∈Dv m t x key 4↔∃s:Int,(0<=s/\s<=3)/\(0<=aX m.w m.h x s/\aC m.w m.h (aX m.w m.h x s)=aC m.w m.h t/\cH m (aX m.w m.h x s)≠255)/\e=(key,aX m.w m.h x s):=by
 rw[Dv,List.mem_flatMap];constructor
 ·rintro ⟨s,h1,h2⟩;have h1:=List.mem_range.1 h1;unfold HS at h2;grind
 ·rintro ⟨s,h1,h2,rfl⟩;refine⟨s.toNat,List.mem_range.2 (by omega),?_⟩;unfold HS;grind
variable {dm IP:List (Int×Int)}{es es':List (Int×Int)}{k x:Int}
def ahY:∀x n c,An m t x n c->0<=c:=λx n c h=>cT _ _ _ h.1
def W6.skip (h:W6 m t dm es)(hp:((k,x)::es').Perm es)(hx:e_ dm x≠none):W6 m t dm es':=by
 have hm:∀e∈es',e∈es:=λe he=>hp.mem_iff.1 (by simp[he]);refine⟨h.dj.skip (k:=k) (x:=x) ?_ hm (λe he=>?_),λe he=>h.Df e (hm e he),λe he=>h.top e (hm e he),h.nd,h.lt,?_⟩
 ·cases ha:e_ dm x with
  |none=>grind
  |some d=>
   have:=h.lt x d ha;rw[fM,ha];show d<bW;unfold bW;omega
 ·grind
 ·have h1:=hp.length_eq;have h2:=h.nh;grind
def W6.step (hm:c7 m)(h:W6 m t dm es)(hp:((k,x)::es').Perm es)(hmin:∀e∈es,k<=e.1)(hx:e_ dm x=none)(hnd:ou IP)(hd:∀y,e_ IP y=if y=x then some k else e_ dm y){Pd:List (Int×Int)}(hp2:Pd.Perm (es'++Dv m t x (k+cH m x) 4)):
  W6 m t IP Pd/\Pd.length+5*unM m IP+1<=es.length+5*unM m dm:=by
 have hin:(k,x)∈es:=hp.mem_iff.1 (by simp);obtain⟨HO,hsx,ET⟩:=h.Df _ hin;have Yh:=h.top _ hin;simp only at HO hsx ET Yh;have hxc:=jE hm HO;have hcx:=By HO;have hfx:fM dm x=bW:=by unfold fM;rw[hx];rfl
 have hN:((jF m).length:Int)=m.w*m.h:=by rw[<-hm.len];simp[jF]
 have hN2:=pZ ⟨hm.w,hm.h⟩;have Yi:∀y,fM IP y=if y=x then k else fM dm y:=λy=>by unfold fM;grind
 have hkI:k<bW:=by unfold bW;omega
 have hun:unM m IP+1<=unM m dm:=by
  refine PR (yF hm hxc) (by grind) ?_ λy hy=>?_
  all_goals grind
 have Db:∀e,e∈Pd↔e∈es'\/e∈Dv m t x (k+cH m x) 4:=λe=>by grind
 have told:∀e∈Dv m t x (k+cH m x) 4,eU m e.2=true/\cO m e.2=cO m t/\e.1=k+cH m x/\An m t e.2 x (cH m x):=λe he=>by obtain⟨s,hs,⟨h1,h2,h3⟩,rfl⟩:=adx.1 he;have hc:=(y8 h1).2;have ho:=(BA hm hc).2 h3;obtain⟨s',hs',hb⟩:=HM hs h1;exact⟨ho,h2,rfl,⟨ho,HO,⟨s',hs',hb⟩,rfl⟩,h2,hsx⟩
 have W5:∀e∈es',e∈es:=λe he=>hp.mem_iff.1 (by simp[he]);have hl1:=hp.length_eq;have RH:=hp2.length_eq;have hl3:=UW (m:=m) (t:=t) x (k+cH m x) 4;have ni:=h.nh;simp[List.length_cons]at hl1;rw[List.length_append]at RH;refine⟨⟨?_,?_,?_,hnd,?_,by omega⟩,by omega⟩
 ·refine h.dj.step ahY (by grind) hkI hin hmin (by grind) (λy hy=>by grind) (λe he=>?_) (λe he=>?_) λy c hy=>?_
  ·grind
  ·grind
  ·obtain⟨⟨h1,h2,⟨s,hs,h3⟩,rfl⟩,h4,h5⟩:=hy;refine .inr ⟨k+cH m x,Int.le_refl _,(Db _).2 (.inr (adx.2 ?_))⟩;obtain⟨s',hs',hb⟩:=HM hs (by rw[h3];exact hxc.2.1);rw[h3]at hb;have IQ:=jE hm h1;exact⟨s',hs',by rw[hb];exact⟨IQ.2.1,h4,(BA hm IQ).1 h1⟩,by rw[hb]⟩
 ·intro e he;rcases(Db e).1 he with h1|h1
  ·exact h.Df e (W5 e h1)
  ·have:=told e h1;exact⟨this.1,this.2.1,by rw[this.2.2.1];omega⟩
 ·intro e he;rcases(Db e).1 he with h1|h1
  ·have:=h.top e (W5 e h1);omega
  ·have:=(told e h1).2.2.1;omega
 ·intro c d hcd;rw[hd]at hcd;split at hcd
  ·cases hcd;omega
  ·exact h.lt c d hcd
def amf (hm:c7 m)(ho:eU m t=true):W6 m t [] [(0,t)]:=by
 have hf:∀x,fM [] x=bW:=λx=>rfl;have hu:unM m []=(jF m).length:=by unfold unM;simp_all
 refine⟨⟨?_,?_,λx _=>hf x,?_,?_,?_⟩,?_,?_,aiJ,?_,by rw[hu];simp⟩
 ·intro e he;rw[List.mem_singleton]at he;subst he;exact .src ⟨rfl,ho,rfl⟩
 ·grind
 ·rintro x k ⟨rfl,_,rfl⟩;grind
 ·grind
 ·grind
 ·grind
 ·grind
 ·intro c d h;cases h
def agB (m:bN)(t:Int)(dm:List (Int×Int)):Prop:=∀c,e_ dm c=(if gw (fY m t) (An m t) c<bW then some (gw (fY m t) (An m t) c)else none)/\(gw (fY m t) (An m t) c<bW->0<=gw (fY m t) (An m t) c/\gw (fY m t) (An m t) c<1000000000)
def W6.done (h:W6 m t dm []):agB m t dm:=λc=>by
 have h1:=h.dj.done c;unfold fM at h1;cases ha:e_ dm c with
 |none=>
  grind
 |some d=>
  have h2:=h.lt c d ha;rw[ha]at h1;have h1:gw (fY m t) (An m t) c=d:=h1;rw[h1];exact⟨by rw[if_pos (by unfold bW;omega)],λ_=>h2⟩
def amg (ho:¬eU m t=true):agB m t []:=λc=>by
 have:gw (fY m t) (An m t) c=bW:=wP λd hd=>by
  induction hd with
  |src h=>exact ho h.2.1
  |go _ _ ih=>exact ih
 rw[this];exact⟨by rw[if_neg (Int.lt_irrefl bW)];rfl,λh=>(Int.lt_irrefl bW h).elim⟩
end
end Go.Proofs.YtmegplnmiepfbaaGreatDoor.S
namespace Go.Proofs.YtmegplnmiepfbaaGreatDoor.S
open Go.Sx
attribute [local irreducible] af cq bq bf aB bY bT St Bx Al App cu cg b_ bR aK bw aq bP av aj aU mapA
def ajW:P.underlying 207=some (.map 3 3):=by kernel_rfl
def aap (w:World):(zeroValue 3).run P w=.ok (ae 0) w:=Lr.apH w
def vI (n:Int):Value:=ae n
def aiM {w h c:Int}(hc:bC w h c):g_ c:=by have:=Hv hc;unfold g_;omega
section
variable {F:Nat->Prop}{W w w0:World}{L:List As}{fp hp mb hc:Nat}{ha:Option Addr}{gr:tJ}{g:gU}{t:Int}{dm:List (Int×Int)}{es:List (Int×Int)}{vs:List Value}
noncomputable abbrev wiL (hp:Nat)(ha:Option Addr)(hc mb:Nat)(dm es:List (Int×Int)):List As:=[Hp.pW hp ha hc es,fF e9 vI mb dm]
def agC {P8:Option Addr->Int->Int->Int->Option Nat->Option Addr->Int->Int->Bool->World->Prop}{Q:Option Nat->World->Prop}{x k:Int}{v0:Value}(hK:ri w0 fp (v0::.pointer (sZ gr.p)::vs))(kg:nv w0 gr g)(hx:eU g.m x=true)(hk:0<=k/\k<10000000000)
  {W7:List (Int×Int)}(W5:W7.length<100000000)
  (h:∀es' Dg Aq w',es'.Perm (W7++Dv g.m t x (k+cH g.m x) 4)->Sep No w0 w' (wiL hp Dg Aq mb dm es')->mI P8 Q (sZ fp) t g.m.w g.m.h (some mb) (sZ hp) w'):
  ∀(n s:Nat) (es:List (Int×Int)) (ha:Option Addr) (hc:Nat) (w:World),s+n=4->es.Perm (W7++Dv g.m t x (k+cH g.m x) s)->Sep No w0 w (wiL hp ha hc mb dm es)->h_ P8 Q (n+1) (sZ fp) t g.m.w g.m.h (some mb) (sZ hp) k x s w:=by
 intro n;induction n with
 |zero=>
  intro s es ha hc w hs hp' sp;show lQ P8 Q (h_ P8 Q 0) _ _ _ _ _ _ _ _ _ _;unfold lQ;grind
 |succ n ih=>
  intro s es ha hc w hs hp' sp;show lQ P8 Q (h_ P8 Q (n+1)) _ _ _ _ _ _ _ _ _ _;rw[lQ,bJ,aF];have skip:∀(w:World),Sep No w0 w (wiL hp ha hc mb dm es)->¬(0<=aX g.m.w g.m.h x s/\aC g.m.w g.m.h (aX g.m.w g.m.h x s)=aC g.m.w g.m.h t/\cH g.m (aX g.m.w g.m.h x s)≠255)->
    h_ P8 Q (n+1) (sZ fp) t g.m.w g.m.h (some mb) (sZ hp) k x ((s:Int)+1) w:=λw sp hno=>by
   refine ih (s+1) es ha hc w (by omega) ?_ sp;rw[Q7];unfold HS;grind
  refine j9 sp λw sp _=>?_;by_cases h0:aX g.m.w g.m.h x s<0
  ·grind
  rw[bp h0];refine eL sp λw sp _=>eL sp λw sp _=>?_;by_cases h1:aC g.m.w g.m.h (aX g.m.w g.m.h x s)=aC g.m.w g.m.h t
  ·rw[show(aC g.m.w g.m.h (aX g.m.w g.m.h x s) !=aC g.m.w g.m.h t)=false by grind,cond_false];refine ah (dH ((hK.fr (au sp)) 1 _ rfl) (ja (kg.fr (au sp)) ?_));by_cases h2:cH g.m (aX g.m.w g.m.h x s)=255
   ·grind
   rw[cJ h2,cond_false];refine ah (dH ((hK.fr (au sp)) 1 _ rfl) (ja (kg.fr (au sp)) ?_));have hcx:=By hx;rw[aF];have hl:=hp'.length_eq;have htl:=UW (m:=g.m) (t:=t) x (k+cH g.m x) s;rw[List.length_append]at hl;refine Hp.AK sp (i:=0) rfl (by omega) λw ha hc Pd hp2 sp=>?_;refine ih (s+1) Pd ha hc w (by omega) ?_ sp;rw[Q7];unfold HS;grind
  grind
def aov (s:Sep F W w (Hp.pW hp ha hc es::L)){e0:Int×Int}{es':List (Int×Int)}(hp':(Hp.g es 0::es').Perm es):∀e∈es,(Hp.g es 0).1<=e.1:=λe he=>by have:=Hp.aci (Hp.UT s (i:=0) rfl) he;rw[Hp.VH]at this;omega
def ahZ {Q:Option Nat->World->Prop}{v0:Value}(hK:ri w0 fp (v0::.pointer (sZ gr.p)::vs))(kg:nv w0 gr g)
  (h:∀ha hc dm w',ou dm->agB g.m t dm->Sep No w0 w' (wiL hp ha hc mb dm [])->Q (some mb) w'):
  ∀(f:Nat) (es:List (Int×Int)) (dm:List (Int×Int)) (ha:Option Addr) (hc:Nat) (w:World),es.length+5*unM g.m dm<=f->W6 g.m t dm es->Sep No w0 w (wiL hp ha hc mb dm es)->
   mI (iL Q (f+1)) Q (sZ fp) t g.m.w g.m.h (some mb) (sZ hp) w:=by
 have hm:=kg.ok.may;have hN:(jF g.m).length<=1048576:=by
  have:=pZ ⟨hm.w,hm.h⟩;have e:((jF g.m).length:Int)=g.m.w*g.m.h:=by rw[<-hm.len];simp[jF]
  omega
 intro f;induction f with
 |zero=>
  intro es dm ha hc w hf I s;have ni:=I.nh;obtain rfl:es=[]:=List.eq_nil_of_length_eq_zero (by omega);refine Hp.Cj s (i:=0) rfl (by simp) (λ_ w s=>?_) λh0=>by simp at h0
  show iK Q (iL Q 0) _ _ _ _ _ _ _ _ _ _;unfold iK;exact h ha hc dm w I.nd I.done s
 |succ f ih=>
  intro es dm ha hc w hf I s;have ni:=I.nh;refine Hp.Cj s (i:=0) rfl (by omega) (λe w s=>?_) λh0 w Dg Aq es' hp' sN=>?_
  ·subst e;show iK Q (iL Q (f+1)) _ _ _ _ _ _ _ _ _ _;unfold iK;exact h ha hc dm w I.nd I.done s
  ·have hmin:=aov (e0:=(0,0)) s hp';have s:=sN;generalize hge:Hp.g es 0=e0 at hp' hmin⊢;obtain⟨k,x⟩:=e0;have hin:(k,x)∈es:=hp'.mem_iff.1 (by simp);obtain⟨HO,hsx,ET⟩:=I.Df _ hin;have Yh:=I.top _ hin;show iK Q (iL Q (f+1)) _ _ _ _ _ _ _ _ _ _;unfold iK;have hxI:=aiM (jE hm HO);have hlen:=hp'.length_eq;simp[List.length_cons]at hlen;refine Dt (K:=e9) ajW (aap w) s (i:=1) rfl I.nd hxI (λhx=>?_) λd hx=>?_
   ·refine KC ajW s (i:=1) rfl I.nd hxI λIP w' hnd hd _ s=>?_;refine⟨5,agC (W7:=es') hK kg HO ⟨ET,by omega⟩ (by omega) (λPd RQ Tu w2 hp2 s2=>?_) 4 0 es' Dg Aq w' rfl (by show es'.Perm (es'++[]);grind) s⟩;obtain⟨I2,hM⟩:=I.step hm hp' hmin hx hnd hd hp2;grind
   ·exact ih es' dm Dg Aq w (by omega) (I.skip hp' (by grind)) s
def agD {Q:Option Nat->World->Prop}{v0:Value}(s0:Sep F W w L)(hK:ri w fp (v0::.pointer (sZ gr.p)::vs))(kg:nv w gr g)(ht:bC g.m.w g.m.h t)
  (h:∀mb dm w',ou dm->agB g.m t dm->Sep F W w' (fF e9 vI mb dm::L)->Fr No w w'->Q (some mb) w'):tg (sZ fp) t w Q:=by
 apply I5;have hm:=kg.ok.may;refine ah (dH (hK 1 _ rfl) ?_);refine jb (bt (F:=No)) kg λw1 s _=>?_;refine Yz s _ e9 vI λmb w1 s=>?_;refine ah (dH ((hK.fr (au s)) 1 _ rfl) (ja (kg.fr (au s)) ?_));have hop:=BA hm ht;by_cases hw:cH g.m t=255
 ·rw[dK hw,cond_true];exact h mb [] w1 aiJ (amg λe=>(hop.1 e) hw) (dX s0 s (i:=0) rfl) (au s)
 rw[cJ hw,cond_false];have ho:=hop.2 hw;refine Hp.Pc s λhp w1 s=>?_;refine Hp.AK s (i:=0) rfl (by simp) λw1 ha hc es hp' s=>?_;have e1:es=[(0,t)]:=by simp_all
 subst e1;have I:=amf hm ho;have:=ahZ hK kg (λha hc dm w' hnd hin s=>h mb dm w' hnd hin (dX s0 s (i:=1) rfl) (au s)) _ [(0,t)] [] ha hc w1 (Nat.le_refl _) I s;refine F5 (λa b c w q=>⟨_,q⟩) this
end
def KI:∀l:List Int,flat oD l=l.map λx=>Value.int .i32 x
 |[]=>rfl
 |x::l=>by have:=KI l;simp[flat,List.flatMap_cons,List.map_cons]at this⊢;rw[this];rfl
def YD (x:Int)(u:Value)(h:u∈oD x):u.oneCell'=true:=by simp[oD,List.mem_singleton]at h;rw[h];rfl
def ajX {v z:Int}{n k N:Nat}(hk:k<=n)(hN:n+k<=N):
  (flat oD (List.replicate n v++List.replicate (N-n) z)).take (n*1)++(flat oD ((List.replicate n v++List.replicate (N-n) z).take n)).take (k*1)++(flat oD (List.replicate n v++List.replicate (N-n) z)).drop ((n+k)*1)=flat oD (List.replicate (n+k) v++List.replicate (N-(n+k)) z):=by
 simp only[KI,Nat.mul_one];rw[<-List.map_take,<-List.map_take,<-List.map_drop,<-List.map_append,<-List.map_append];congr 1;rw[List.take_left' (by simp),List.take_replicate,Nat.min_eq_left hk,List.replicate_append_replicate,<-List.drop_drop,List.drop_left' (by simp),List.drop_replicate,Nat.sub_sub]
section
variable {F:Nat->Prop}{W w w0:World}{L:List As}{xa:Option Addr}{xc:Nat}{v:Int}
def aeJ {Q:Option Addr->Nat->Nat->World->Prop}{b N:Nat}(hN:N<=1048576)(h:∀w',Sep No w0 w' (aj (sZ b) N N 21 1 (flat oD (List.replicate N v))::L)->Q (sZ b) N N w'):
  ∀(m n:Nat) (w:World),N<=n+m->1<=n->n<=N->Sep No w0 w (aj (sZ b) N N 21 1 (flat oD (List.replicate n v++List.replicate (N-n) 0))::L)->jl Q (m+1) (sZ b) N N n w:=by
 have done:∀(R:Option Addr->Nat->Nat->Int->World->Prop) (w:World),Sep No w0 w (aj (sZ b) N N 21 1 (flat oD (List.replicate N v++List.replicate (N-N) 0))::L)->jk Q R (sZ b) N N N w:=λR w s=>by unfold jk;grind
 intro m;induction m with
 |zero=>
  intro n w hm h1 h2 s;have:n=N:=by omega
  subst this;exact done _ _ s
 |succ m ih=>
  intro n w hm h1 h2 s;show jk Q (jl Q (m+1)) _ _ _ _ _;by_cases hn:n=N
  ·grind
  ·rw[jk,bJ];apply Nx rfl h2;rw[ru];apply Nw rfl h2;have s:=ax s;have hT:=(aL s (i:=0) rfl uJ (by decide)).top h2;refine DB (p:=n) dU s rfl rfl rfl rfl (by decide) (i:=0) rfl (hT.src (e:=21) uJ YD) (by omega) (by simp[Addr.add];omega) λw s=>?_;rw[ajX (Nat.min_le_left _ _) (by omega)]at s;have e:IntKind.wrap .i64 ((n:Int)+((min n (N-n):Nat):Int))=((n+min n (N-n):Nat):Int):=by rw[aF];omega
   grind
def acm {N:Nat}{Q:Option Addr->Nat->Nat->World->Prop}(s0:Sep F W w L)(hA:Sl w xa 1 xc 1 oD [v])(hN:1<=N/\N<=1048576)
  (h:∀ra w',Sep F W w' (aj ra N N 21 1 (flat oD (List.replicate N v))::L)->Fr No w w'->Q ra N N w'):oC xa 1 xc N w Q:=by
 apply EE;rw[bp,jT (by decide),jT (by omega)];apply Cg (by decide) (by omega) (by omega);have e1:((1:Nat):Int)*N=N:=by omega
 rw[e1,bp (by decide),bp,aF];refine uk (bytes:=4) dU (bt (F:=No)) rfl rfl rfl rfl rfl rfl (by decide) uJ rfl (λu hu=>YD 0 u hu) rfl rfl (Nat.le_refl _) (by omega) (by simp[maxLen];omega) λb w' s=>?_;refine DB (p:=0) dU s rfl rfl rfl rfl (by decide) (i:=0) rfl ((hA.fr (au s)).src (e:=21) uJ YD) (by omega) rfl λw' s=>?_;have hm:min 1 N=1:=by omega
 rw[hm]at s⊢;have e2:(flat oD (List.replicate N 0)).take (0*1)++(flat oD [v]).take (1*1)++(flat oD (List.replicate N 0)).drop ((0+1)*1)=flat oD (List.replicate 1 v++List.replicate (N-1) 0):=by simp only[KI,Nat.zero_mul,List.take_zero,List.nil_append,Nat.mul_one,Nat.zero_add];rw[<-List.map_take,<-List.map_drop,<-List.map_append,List.drop_replicate];rfl
 rw[e2]at s;exact⟨N+1,aeJ hN.2 (λw' s=>h _ _ (dX s0 s (i:=0) rfl) (au s)) N 1 w' (by omega) (by omega) hN.1 s⟩
end
def SN (m:bN)(t:Int):Int->Int->Prop:=JE (fY m t) (fJ m) (cO m) (nL m) t
def EN (m:bN):Int->Int->Int->Prop:=Ia (fJ m) (cO m) (nL m)
structure Pe (m:bN) (t:Int) (M:Nat) (es:List (Int×Int)) (ds:List Int) (P:Int->Int->Int->Prop):Prop where
 lc:RP (SN m t) (EN m) z0 (fC ds) es P
 len:(ds.length:Int)=m.w*m.h
 jP:agc ds
 nod:∀e∈es,nL m e.2/\bC m.w m.h e.2/\0<=e.1/\e.1<z0
 nh:es.length+DX ds<=M
section
variable {m:bN}{t:Int}{M:Nat}{es es':List (Int×Int)}{ds:List Int}{P P':Int->Int->Int->Prop}{y k:Int}
def Q8 (hy:0<=y/\y<ds.length):fC ds y=gi ds y.toNat:=if_pos hy
def Pe.aeX (h:Pe m t M es ds P)(hy:nL m y)(IQ:bC m.w m.h y)(hk:0<=k/\k<gi ds y.toNat)(hw:Wy (SN m t) (EN m) y k)(hp:es'.Perm (es++[(k,y)]))(hP:∀x n c,P x n c->x=y->(∃d,fC ds n=d/\k<=d+c)\/P' x n c)(hP':∀x n c,P x n c->x≠y->P' x n c)(hn:∀x c,P x y c->False):
  Pe m t M es' (ds.set y.toNat k) P':=by
 have RJ:0<=y/\y<ds.length:=by rw[h.len];exact IQ.2
 have hfy:=Q8 RJ;have hr:=h.jP _ (fy (i:=y.toNat) (by omega));have hq:∀e,e∈es'↔e∈es\/e=(k,y):=λe=>by grind
 refine⟨h.lc.aeX (by grind) hw (agA RJ) hq hP hP' hn,by rw[List.length_set];exact h.len,λx hx=>?_,λe he=>?_,?_⟩
 ·rcases List.mem_or_eq_of_mem_set hx with hx|rfl
  ·exact h.jP x hx
  ·omega
 ·rcases(hq e).1 he with he|rfl
  ·exact h.nod e he
  ·exact⟨hy,IQ,hk.1,by unfold z0;omega⟩
 ·have h1:=hp.length_eq;have h2:=YC (k:=k) (ds:=ds) (i:=y.toNat) (by omega);have h3:=h.nh;grind
def amj:∀x k,SN m t x k->0<=k:=λx k h=>by obtain⟨_,_,⟨d,hd⟩,rfl⟩:=h;exact mg kE (λx n c h=>cT _ _ _ h.1) (qq kE (λx n c h=>cT _ _ _ h.1) hd).1
def ady:∀x n c,EN m x n c->0<=c:=λx n c h=>by
 obtain⟨_,hn2,⟨h1,_,⟨d,hd⟩,rfl⟩|⟨_,h1⟩⟩:=h
 ·exact mg (λx k h=>by rw[h.2];grind) (λx n c h=>cT _ _ _ h.1) (qq (λx k h=>by rw[h.2];grind) (λx n c h=>cT _ _ _ h.1) hd).1
 ·exact cT _ _ _ h1
def GP (m:bN)(t:Int)(ds:List Int):Prop:=(ds.length:Int)=m.w*m.h/\∀x,nL m x->bC m.w m.h x->atF ds x=D m t x
def Pe.done (hm:c7 m)(h:Pe m t M [] ds λ_ _ _=>False)(hs:∀x k,SN m t x k->fC ds x<=k\/z0<=k):GP m t ds:=by
 refine⟨h.len,λx hx hc=>?_⟩;have hxr:0<=x/\x<ds.length:=by rw[h.len];exact hc.2
 rw[asD hxr λy hy=>(h.jP y hy).2,<-arW hm hx];have hB:∀d,Wy (SN m t) (EN m) x d->gw (SN m t) (EN m) x<z0:=λd hd=>by have h1:gw (SN m t) (EN m) x=D m t x:=arW hm hx;have h2:=anY hm (LP Ep cT (qN hm) hd);unfold z0;omega
 exact(LcI.done (h.lc.lci hs) amj ady hB (by decide)).symm
def amk (hm:c7 m):Pe m t ((m.w*m.h).toNat*2147483647) [] (List.replicate (m.w*m.h).toNat z0) λ_ _ _=>False:=by
 have hN:=pZ ⟨hm.w,hm.h⟩;have hf:∀x,fC (List.replicate (m.w*m.h).toNat z0) x=z0:=λx=>by
  unfold fC;split
  ·rename_i h;unfold gi;grind
  ·rfl
 refine⟨⟨λx hx=>?_,λx=>?_,λe he=>by simp at he,λx n c _ hn=>?_⟩,by grind,λx hx=>?_,λe he=>by simp at he,?_⟩
 ·grind
 ·grind
 ·grind
 ·rw[List.mem_replicate]at hx;rw[hx.2];unfold z0;omega
 ·rw[agz];show 0+_<=_;rw[Nat.zero_add];exact Nat.le_refl _
end
section
variable {F:Nat->Prop}{W w w0:World}{L:List As}{fp hp mb hc M:Nat}{ha:Option Addr}{rr:wI}{r:AI}{x:mU}{gr:tJ}{g:gU}{t:Int}{dm es:List (Int×Int)}{ds:List Int}{vs:List Value}
abbrev seL (hp:Nat)(ha:Option Addr)(hc:Nat)(es:List (Int×Int))(rr:wI)(t ep:Int)(ds:List Int):List As:=[Dc rr ⟨t,ep,ds⟩,Hp.pW hp ha hc es]
def agG {Q:Option Addr->World->Prop}{sC:Option Addr->Addr->Option Addr->Int->Int->Bool->World->Prop}{k node:Int}(hm:c7 g.m)(hk:0<=k/\k<z0)(hn:nL g.m node)(hnc:bC g.m.w g.m.h node)(hM:M<4000000000000)
  (h:∀Dg Aq es' ds' w',Pe g.m t M es' ds' (λ_ _ _=>False)->(∀x,fC ds' x<=fC ds x)->es'.length+DX ds'<=es.length+DX ds->Sep No w0 w' (seL hp Dg Aq es' rr t g.ep ds')->lT sC Q (sZ fp) (aZ rr.p) (sZ hp) w'){ea:Option Addr}{en ec:Nat}:
  ∀(n i:Nat) (es1:List (Int×Int)) (RR:List Int) (ha1:Option Addr) (WY:Nat) (w:World),i+n=en->Pe g.m t M es1 RR (λx n c=>n=node/\(x,c)∈(Je g.m node).drop i)->fC RR node=k->(∀x,fC RR x<=fC ds x)->es1.length+DX RR<=es.length+DX ds->
   Sep No w0 w (aj ea en ec 292 2 (flat CA (Je g.m node))::seL hp ha1 WY es1 rr t g.ep RR)->jz sC Q (n+1) (sZ fp) (aZ rr.p) (sZ hp) k ea en ec en i w:=by
 intro n;induction n with
 |zero=>
  intro i es1 RR ha1 WY w hi I hkn hmono hsum s;show lU sC Q (jz sC Q 0) _ _ _ _ _ _ _ _ _ _;unfold lU;have hen:=(aL s (i:=0) rfl OW (by decide)).len;rw[bp];refine h ha1 WY es1 RR w ⟨I.lc.weaken λx n c hP _ _=>?_,I.len,I.jP,I.nod,I.nh⟩ hmono hsum (ai s);grind
 |succ n ih=>
  intro i es1 RR ha1 WY w hi I hkn hmono hsum s;show lU sC Q (jz sC Q (n+1)) _ _ _ _ _ _ _ _ _ _;unfold lU;have hE:=aL s (i:=0) rfl OW (by decide);rw[bJ,wrap_i64 (by omega) (by unfold z0 at hk;have:=I.nh;have:=hE.le;have:=(PJ s (i:=0) rfl).2;simp[maxLen]at this;omega)];refine hE.El rfl (by omega) λp e he wE=>?_;obtain⟨y,c⟩:=e;have hem:=List.mem_of_getElem? he;have hE1:=(agr hm hn hnc).1 hem;have hc0:=ady _ _ _ hE1;have hyn:=hE1.1;have hne:y≠node:=by
   obtain⟨_,_,⟨_,h2,_⟩|⟨h2,_⟩⟩:=hE1
   ·exact h2
   ·exact λe=>h2 (by rw[e])
  have IQ:bC g.m.w g.m.h y:=by
   obtain⟨_,_,⟨h1,_⟩|⟨_,h1⟩⟩:=hE1
   ·have:y∈aT g.m (cO g.m node):=by have h3:=hyn;unfold nL at h3;rwa[show cO g.m y=cO g.m node from h1]at h3
    exact(lY (bQ hnc) this).2.1
   ·exact jE hm h1.1
  have hcb:c<1000000000:=by
   obtain⟨_,_,⟨h1,_,hw,h2⟩|⟨_,h1⟩⟩:=hE1
   ·have e1:=O7 hm (bQ hnc) ⟨IQ,h1⟩ ⟨hnc,rfl⟩;have RK:=(lY (bQ hnc) hn).1;have h3:=Yo hm (bQ hnc) ⟨IQ,h1⟩ ⟨hnc,rfl⟩ RK;have h4:=(Yn hm (bQ hnc) ⟨IQ,h1⟩ ⟨hnc,rfl⟩ RK).2 hw;have h5:=h3.2.1 h4;have h2:c=gw (ES node) (sR (fJ g.m) (cO g.m) (aC g.m.w g.m.h node)) y:=h2;omega
   ·have:=Fo h1;omega
  have RJ:0<=y/\y<RR.length:=by rw[I.len];exact IQ.2
  have Z2:(Je g.m node).drop i=(y,c)::(Je g.m node).drop (i+1):=by obtain⟨Hq,hx⟩:=List.getElem?_eq_some_iff.1 he;rw[List.drop_eq_getElem_cons Hq,hx]
  unfold z0 at hk;refine aQ (wE 0 _ rfl) (aQ (wE 1 _ rfl) ?_);refine aY s λeb w s=>?_;refine sT s 0 rfl λw s=>?_;refine az s (i:=0) rfl rfl rfl λw s=>?_;refine lI s 0 rfl (lI s 0 rfl ?_);rw[aF];have s:=pk 99 [2,3,1,0] s;have hkw:Wy (SN g.m t) (EN g.m) y (k+c):=.go hE1 (by have:=I.lc.ways node (by rw[hkn];unfold z0;omega);rw[hkn]at this;exact this)
  have hlen:=I.nh;refine Kj s RJ ⟨by omega,by omega⟩ (λhno=>?_) λhyes w s=>?_
  ·refine ih (i+1) es1 RR ha1 WY w (by omega) ⟨I.lc.weaken λx n2 c2 hP _ _=>?_,I.len,I.jP,I.nod,I.nh⟩ hkn hmono hsum (pk 99 [2,0,1] s);obtain⟨rfl,h2⟩:=hP;rw[Z2]at h2;rcases List.mem_cons.1 h2 with h2|h2
   ·obtain⟨rfl,rfl⟩:=h2;left;rw[hkn,Q8 RJ];exact hno
   ·exact .inr (.inr ⟨rfl,h2⟩)
  ·simp only at hyes;refine lI s 3 rfl (lI s 3 rfl ?_);rw[aF];refine Hp.AK s (i:=1) rfl (by omega) λw RQ Tu Pd hp2 s=>?_;have I2:Pe g.m t M Pd (RR.set y.toNat (k+c)) (λx n c=>n=node/\(x,c)∈(Je g.m node).drop (i+1)):=by
    refine I.aeX hyn IQ ⟨by omega,hyes⟩ hkw hp2 (λx n2 c2 hP ex=>?_) (λx n2 c2 hP ex=>?_) λx c2 hP=>hne hP.1
    ·obtain⟨rfl,h2⟩:=hP;rw[Z2]at h2;rcases List.mem_cons.1 h2 with h2|h2
     ·obtain⟨_,rfl⟩:=h2;exact .inl ⟨_,rfl,by omega⟩
     ·exact .inr ⟨rfl,h2⟩
    ·obtain⟨rfl,h2⟩:=hP;rw[Z2]at h2;rcases List.mem_cons.1 h2 with h2|h2
     ·simp[Prod.mk.injEq]at h2;exact(ex h2.1).elim
     ·exact⟨rfl,h2⟩
   have Yi:=agA (k:=k+c) RJ;have hss:=YC (k:=k+c) (ds:=RR) (i:=y.toNat) (by omega);have Hj:=hp2.length_eq;rw[List.length_append,List.length_singleton]at Hj;refine ih (i+1) Pd _ RQ Tu w (by omega) I2 (by rw[Yi,if_neg λe=>hne e.symm];exact hkn) (λz=>?_) (by omega) (pk 99 [2,0,1] s);rw[Yi];split
   ·rename_i e;rw[e];have:=hmono y;rw[Q8 RJ]at this;omega
   ·exact hmono z
end
section
variable {F:Nat->Prop}{W w w0:World}{L:List As}{fp hp mb hc M:Nat}{ha:Option Addr}{rr:wI}{r:AI}{x:mU}{gr:tJ}{g:gU}{t:Int}{dm es:List (Int×Int)}{ds:List Int}{vs:List Value}
def ah0 {Q:Option Addr->World->Prop}(hF:ri w0 fp (.pointer (sZ r.p)::vs))(k:Ds w0 r gr.p x)(kg:nv w0 gr g)(I:xJ g x)(hf:Me g x)(hM:M<4000000000000)
  (h:∀ha hc ds w',GP g.m t ds->Sep No w0 w' (seL hp ha hc [] rr t g.ep ds)->Q (sZ rr.p) w'):
  ∀(f:Nat) (es:List (Int×Int)) (ds:List Int) (ha:Option Addr) (hc:Nat) (w:World),es.length+DX ds<=f->Pe g.m t M es ds (λ_ _ _=>False)->(∀x k,SN g.m t x k->fC ds x<=k\/z0<=k)->Sep No w0 w (seL hp ha hc es rr t g.ep ds)->
   lT (ij Q (f+1)) Q (sZ fp) (aZ rr.p) (sZ hp) w:=by
 have hm:=kg.ok.may;intro f;induction f with
 |zero=>
  intro es ds ha hc w hf' J hs s;obtain rfl:es=[]:=List.eq_nil_of_length_eq_zero (by omega);refine Hp.Cj s (i:=1) rfl (by simp) (λ_ w s=>?_) λh0=>by simp at h0
  show ig Q (ij Q 0) _ _ _ _ _ _ _;unfold ig;exact h ha hc ds w (J.done hm hs) s
 |succ f ih=>
  intro es ds ha hc w hf' J hs s;have ni:=J.nh;refine Hp.Cj s (i:=1) rfl (by omega) (λe w s=>?_) λh0 w Dg Aq es' hp' sN=>?_
  ·subst e;show ig Q (ij Q (f+1)) _ _ _ _ _ _ _;unfold ig;exact h ha hc ds w (J.done hm hs) s
  ·have s:=sN;generalize hge:Hp.g es 0=e0 at hp'⊢;obtain⟨key,node⟩:=e0;have hin:(key,node)∈es:=hp'.mem_iff.1 (by simp);obtain⟨hn,hnc,ET,hkC⟩:=J.nod _ hin;have hle:=J.lc.key _ hin;have hnr:0<=node/\node<ds.length:=by rw[J.len];exact hnc.2
   rw[Q8 hnr]at hle;have hl:=hp'.length_eq;simp[List.length_cons]at hl;have hq:∀e,e∈es↔e∈es'\/e=(key,node):=λe=>by grind
   have J1:Pe g.m t M es' ds (λx n c=>n=node/\fC ds node=key/\EN g.m x n c):=⟨J.lc.pop hq,J.len,J.jP,λe he=>J.nod e ((hq e).2 (.inl he)),by omega⟩;show ig Q (ij Q (f+1)) _ _ _ _ _ _ _;unfold ig;have hrk:=QN s;have hdr:=J.jP _ (fy (i:=node.toNat) (by omega));apply dy (hrk.cell 2 _ rfl);apply EO hrk.V (k:=node.toNat) (by omega) (by have hvl:ds.length=rr.n:=hrk.V.len;omega);rw[aF (n:=gi ds node.toNat)];by_cases hgt:key>gi ds node.toNat
   ·rw[bJ hgt];refine ih es' ds Dg Aq w (by omega) ⟨J1.lc.weaken λx n c hP _ _=>?_,J1.len,J1.jP,J1.nod,J1.nh⟩ hs s;obtain⟨_,h2,_⟩:=hP;rw[Q8 hnr]at h2;omega
   ·rw[bp hgt];have hkey:fC ds node=key:=by rw[Q8 hnr];omega
    refine ah (dH (by have:=(hF.fr (au s)) 0 _ rfl;rw[add_zero]at this;exact this) ?_);refine aaf s (k.fr (au s)) (kg.fr (au s)) I hf hnc hn λea en ec w s _=>?_;have J2:Pe g.m t M es' ds (λx n c=>n=node/\(x,c)∈(Je g.m node).drop 0):=⟨J1.lc.weaken λx n c hP hE _=>by obtain⟨rfl,_,_⟩:=hP;exact .inr (.inr ⟨rfl,by rw[List.drop_zero];exact(agr hm hn hnc).2 hE⟩),J1.len,J1.jP,J1.nod,J1.nh⟩
    refine⟨en+1,agG hm ⟨ET,hkC⟩ hn hnc hM (λRQ Tu Pd ds2 w2 J3 hmono hsum s=>?_) en 0 es' ds Dg Aq w (by omega) J2 hkey (λ_=>Int.le_refl _) (Nat.le_refl _) s⟩;grind
def agJ {Q:Option Addr->World->Prop}(hF:ri w0 fp (.pointer (sZ r.p)::vs))(k:Ds w0 r gr.p x)(kg:nv w0 gr g)(I:xJ g x)(hf:Me g x)(hM:M<4000000000000)(ht:bC g.m.w g.m.h t)(hnd:ou dm)(hin:agB g.m t dm)
  (h:∀ha hc ds w',GP g.m t ds->Sep No w0 w' (seL hp ha hc [] rr t g.ep ds)->Q (sZ rr.p) w'){na:Option Addr}{nn nc:Nat}:
  ∀(n i:Nat) (es:List (Int×Int)) (ds:List Int) (ha:Option Addr) (hc:Nat) (w:World),i+n=nn->Pe g.m t M es ds (λ_ _ _=>False)->(∀x k,SN g.m t x k->x∈(aT g.m (cO g.m t)).take i->fC ds x<=k\/z0<=k)->
   Sep No w0 w (aj na nn nc 3 1 (flat one (aT g.m (cO g.m t)))::fF e9 vI mb dm::seL hp ha hc es rr t g.ep ds)->iM Q (n+1) (sZ fp) (aZ rr.p) (sZ hp) (some mb) na nn nc nn i w:=by
 have hm:=kg.ok.may;have hs0:=bQ ht;have ayA:=yX hs0;intro n;induction n with
 |zero=>
  intro i es ds ha hc w hi J hs s;show mJ Q (iM Q 0) _ _ _ _ _ _ _ _ _ _;unfold mJ;have hnl:=(aL s (i:=0) rfl cj (by decide)).len;rw[bp];have hs':∀x k,SN g.m t x k->fC ds x<=k\/z0<=k:=λx k hx=>hs x k hx (by obtain⟨h1,h2,_⟩:=hx;have h1:x∈aT g.m (cO g.m x):=h1;grind)
  have:=ah0 hF k kg I hf hM h _ es ds ha hc w (Nat.le_refl _) J hs' (ai (ai s));exact F5 (λa b c w q=>⟨_,q⟩) this
 |succ n ih=>
  intro i es ds ha hc w hi J hs s;show mJ Q (iM Q (n+1)) _ _ _ _ _ _ _ _ _ _;unfold mJ;have hN:=aL s (i:=0) rfl cj (by decide);have hnl:=hN.len;have anA:(aT g.m (aC g.m.w g.m.h t)).length=nn:=hnl;rw[bJ,aF];apply hN.pC rfl (by omega);have hmem:=fy (l:=aT g.m (cO g.m t)) (i:=i) (by omega);obtain⟨hyo,IQ,hys⟩:=lY hs0 hmem;have hyn:nL g.m (gi (aT g.m (cO g.m t)) i):=by show _∈aT g.m (aC g.m.w g.m.h _);rw[hys];exact hmem
  have xq:(aT g.m (cO g.m t)).take (i+1)=(aT g.m (cO g.m t)).take i++[gi (aT g.m (cO g.m t)) i]:=by rw[List.take_add_one,gM (by omega)];rfl
  generalize gi (aT g.m (cO g.m t)) i=y at hyo IQ hys hyn xq⊢;have RJ:0<=y/\y<ds.length:=by rw[J.len];exact IQ.2
  have ni:=J.nh;obtain⟨WZ,hi2⟩:=hin y;have only:∀k,SN g.m t y k->k=gw (fY g.m t) (An g.m t) y/\gw (fY g.m t) (An g.m t) y<bW:=λk hk=>by
   obtain⟨_,_,⟨d,hd⟩,rfl⟩:=hk;refine⟨rfl,?_⟩;have h1:=Wy.mono (λx k h=>.src h) (λx n c d e h=>.go e.1 h) (qq kE (λx n c h=>cT _ _ _ h.1) hd).1;refine Classical.byContradiction λhno=>?_;have hl:=Zd (S:=fY g.m t) (E:=An g.m t) (λx k h=>QT h) (λx n c h=>Fo h.1) (jF g.m) (λx d h=>by
    cases h with
    |src h=>exact yF hm (jE hm (by rw[h.1];exact h.2.1))
    |go e _=>exact yF hm (jE hm e.1.1)) hd
   have h2:((jF g.m).length:Int)=g.m.w*g.m.h:=by rw[<-hm.len];simp[jF]
   have h3:=pZ ⟨hm.w,hm.h⟩;unfold bW at hno;omega
  have skip:∀(w:World),(∀k,SN g.m t y k->fC ds y<=k\/z0<=k)->Sep No w0 w (aj na nn nc 3 1 (flat one (aT g.m (cO g.m t)))::fF e9 vI mb dm::seL hp ha hc es rr t g.ep ds)->
    iM Q (n+1) (sZ fp) (aZ rr.p) (sZ hp) (some mb) na nn nc nn ((i:Int)+1) w:=λw hy s=>by
   refine ih (i+1) es ds ha hc w (by omega) J (λz k hz hzm=>?_) s;rw[xq]at hzm;rcases List.mem_append.1 hzm with h1|h1
   ·exact hs z k hz h1
   ·rw[List.mem_singleton]at h1;subst h1;exact hy k hz
  refine Dt (K:=e9) ajW (aap w) s (i:=1) rfl hnd (aiM IQ) (λhx=>?_) λd hx=>?_
  ·refine skip w (λk hk=>?_) s;rw[hx]at WZ;rw[if_pos (only k hk).2]at WZ;cases WZ
  ·rw[hx]at WZ;have hlt:gw (fY g.m t) (An g.m t) y<bW:=by refine Classical.byContradiction λhno=>?_;rw[if_neg hno]at WZ;cases WZ
   rw[if_pos hlt]at WZ;obtain rfl:d=gw (fY g.m t) (An g.m t) y:=Option.some.inj WZ;obtain⟨hd0,hd1⟩:=hi2 hlt;have s2:=pk 99 [2,3,0,1] s;refine Kj s2 RJ ⟨hd0,by omega⟩ (λhno=>?_) λhyes w s=>?_
   ·refine skip w (λk hk=>.inl ?_) s;rw[(only k hk).1,Q8 RJ];exact hno
   ·refine Hp.AK s (i:=1) rfl (by omega) λw RQ Tu Pd hp2 s=>?_;have hsrc:SN g.m t y (gw (fY g.m t) (An g.m t) y):=⟨hyn,hys,by refine Classical.byContradiction λhno=>?_;have:gw (fY g.m t) (An g.m t) y=bW:=wP λd hd=>hno ⟨d,hd⟩;omega,rfl⟩
    have J2:=J.aeX hyn IQ ⟨hd0,hyes⟩ (.src hsrc) hp2 (λ_ _ _ h=>h.elim) (λ_ _ _ h _=>h) λ_ _ h=>h;have Yi:=agA (k:=gw (fY g.m t) (An g.m t) y) RJ;refine ih (i+1) Pd _ RQ Tu w (by omega) J2 (λz k hz hzm=>?_) (pk 99 [2,3,0,1] s);rw[Yi];by_cases ez:z=y
    ·subst ez;rw[if_pos rfl,(only k hz).1];exact .inl (Int.le_refl _)
    ·rw[if_neg ez];rw[xq]at hzm;rcases List.mem_append.1 hzm with h1|h1
     ·exact hs z k hz h1
     ·rw[List.mem_singleton]at h1;exact(ez h1).elim
def aqS {b:Nat}{v:Int}(s:Sep F W w (av b 21 [.int .i32 v]::L)):Sl w (sZ b) 1 1 1 oD [v]:=
 aL (iS s (i:=0) rfl rfl (by decide) (λu hu=>by rw[List.mem_singleton]at hu;rw[hu];rfl)) (i:=0) rfl uJ (by decide)
def agK {Q:Option Addr->World->Prop}(s0:Sep F W w L)(hF:ri w fp (.pointer (sZ r.p)::.pointer (sZ gr.p)::vs))(k:Ds w r gr.p x)(kg:nv w gr g)(I:xJ g x)(hf:Me g x)(ht:bC g.m.w g.m.h t)(vi:g.m.w*g.m.h<=1600)
  (h:∀rr ds w',GP g.m t ds->Sep F W w' (Dc rr ⟨t,g.ep,ds⟩::L)->Fr No w w'->Q (sZ rr.p) w'):s_ (sZ fp) t w Q:=by
 apply I6;have hm:=kg.ok.may;have hN:=pZ ⟨hm.w,hm.h⟩;refine ah (dH (hF 1 _ rfl) ?_);refine jb (bt (F:=No)) kg λw1 s _=>?_;refine ah (dH ((hF.fr (au s)) 1 _ rfl) (qD (kg.fr (au s)) ?_));refine aS s λib w1 s=>?_;rw[aF,show g.m.w*g.m.h=(((g.m.w*g.m.h).toNat:Nat):Int) by omega];refine acm s (aqS s) (by omega) λda w1 s _=>?_;refine aS s λrb w1 s=>?_;have ajY:=amk (t:=t) hm;have hMb:(g.m.w*g.m.h).toNat*2147483647<4000000000000:=by omega
 generalize hMe:(g.m.w*g.m.h).toNat*2147483647=M at ajY hMb;have s1:=pk 99 [0,1] s;have s1:Sep No w w1 [Dc ⟨rb,da,(g.m.w*g.m.h).toNat,(g.m.w*g.m.h).toNat⟩ ⟨t,g.ep,List.replicate (g.m.w*g.m.h).toNat z0⟩]:=WU s1 ajY.jP;refine Hp.Pc s1 λhp w1 s=>?_;refine agD s (hF.fr (au s)) (kg.fr (au s)) ht λmb dm w1 hnd hin s _=>?_;have s:=ax s;have hc0:∀{w':World} {L':List As},Sep No w w' L'->w'.cell? (aZ fp)=some (.pointer (sZ r.p)):=λs=>by have:=(hF.fr (au s)) 0 _ rfl;exact this
 refine ah (dH (hc0 s) ?_);refine eL s λw1 s _=>⟨hc0 s,?_⟩;have hs0:=bQ ht;have hps:x.ps[(aC g.m.w g.m.h t).toNat]? =some (x.ps[(aC g.m.w g.m.h t).toNat]'(by have:=I.len;have:=hs0.2;omega)):=List.getElem?_eq_getElem _;generalize x.ps[(aC g.m.w g.m.h t).toNat]'(by grind)=q at hps;have hc:=(GM I hf hps).1;rw[Int.toNat_of_nonneg hs0.2.1]at hc;have ni:=yX hs0;rw[show aC g.m.w g.m.h t=(((aC g.m.w g.m.h t).toNat:Nat):Int)from(Int.toNat_of_nonneg hs0.2.1).symm];refine Ys s (k.fr (au s)) hps (by grind) λna nn nc w1 s _=>?_;rw[hc]at s;refine⟨nn+1,agJ (rr:=⟨rb,da,(g.m.w*g.m.h).toNat,(g.m.w*g.m.h).toNat⟩) hF k kg I hf hMb ht hnd hin (λha hc ds w' hok s'=>h _ ds w' hok (dX s0 s' (i:=0) rfl) (au s')) nn 0 [] (List.replicate (g.m.w*g.m.h).toNat z0) none 0 w1 (by omega) ajY (λx k _ h=>by simp at h) ?_⟩;exact pk 99 [0,1,3,2] s
end
end Go.Proofs.YtmegplnmiepfbaaGreatDoor.S
namespace Go.Proofs.YtmegplnmiepfbaaGreatDoor.S
open Go.Sx
def isS {p:Addr}{A B:Prop}(h:A):cond (!(some p).isNone) A B:=h
attribute [local irreducible] af cq bq bf aB bY bT St Bx Al App cu cg b_ bR aK bw aq bP av aj aU mapA
structure Fy where
 kept:Option (wI×Fk)
 fH:Int
def apL (k:Option (wI×Fk)):Option Addr:=k.map λq=>(aZ q.1.p)
def ajZ (mp gp:Nat)(f:Fy):List Value:=[.pointer (sZ mp),.pointer (sZ gp),.pointer (apL f.kept),.int .u64 f.fH]
def amm (k:Option (wI×Fk)):List As:=match k with
 |some q=>[Dc q.1 q.2]
 |none=>[]
def aar (fp mp gp:Nat)(f:Fy):List As:=av fp 197 (ajZ mp gp f)::amm f.kept
def tO (fp mp gp:Nat)(f:Fy):As:=aU True (aar fp mp gp f)
structure aas (g:gU) (f:Fy):Prop where
 kept:∀q,f.kept=some q->q.2.ep<=g.ep/\(q.2.ep=g.ep->bC g.m.w g.m.h q.2.goal/\GP g.m q.2.goal q.2.ds)
 u:Ta.U f.fH
def Mo (f:Fy):Option (Int×Int):=f.kept.map λq=>(q.2.goal,q.2.ep)
section
variable {F:Nat->Prop}{W w w0:World}{L:List As}{fp:Nat}{rr:wI}{r:AI}{x:mU}{gr:tJ}{g:gU}{t:Int}{f:Fy}{mp gp:Nat}
def Mp (s:Sep F W w (tO fp mp gp f::L)):Sep F W w (aar fp mp gp f++L):=(iT s).2
def Q9 (s:Sep F W w (aar fp mp gp f++L)):Sep F W w (tO fp mp gp f::L):=dW s trivial
def aat {Q:Option Addr->World->Prop}(s:Sep F W w L)(h:∀fp w',Sep F W w' (tO fp mp gp ⟨none,0⟩::L)->Fr No w w'->Q (sZ fp) w'):EZ (sZ mp) (sZ gp) w Q:=by apply Zu;refine l9 (l9 ?_);refine aS (bt (F:=No)) λfb w1 s1=>?_;have s2:Sep No w w1 [tO fb mp gp ⟨none,0⟩]:=Q9 s1;exact h fb w1 (dX s s2 (i:=0) rfl) (au s2)
def Mq (s:Sep F W w (tO fp mp gp f::L)):ri w fp (ajZ mp gp f):=by have s:=Mp s;exact kK s (i:=0) rfl
def adz {q:wI×Fk}(s:Sep F W w (tO fp mp gp f::L))(h:f.kept=some q):Fl w q.1 q.2:=by have s:=Mp s;unfold aar amm at s;rw[h]at s;exact QN (ai s)
def UX {Q:Int->World->Prop}(k:ri w fp (ajZ mp gp f))(h:Q f.fH w):oM (sZ fp) w Q:=by apply Bf;exact l9 (ah (aQ (k 3 _ rfl) h))
def UY {Q:Int->World->Prop}(h:Q 0 w):oM Option.none w Q:=Bf _ _ _ h
def Wz {Q:World->Prop}(s:Sep F W w (tO fp mp gp f::L))(h:∀w',Sep F W w' (tO fp mp gp ⟨none,f.fH⟩::L)->Q w'):pS (sZ fp) w Q:=by apply Cv;have s:=Mp s;have s:=s;refine isS (ah (sT s 0 rfl λw s=>?_));refine h w (Q9 ?_);apply gH s;exact List.Sublist.cons_cons _ (List.sublist_append_right _ _)
def WA {Q:Option Addr->World->Prop}(s:Sep F W w (nu gr g::tK r gr.p x::tO fp r.p gr.p f::L))(I:xJ g x)(J:aas g f)(ht:bC g.m.w g.m.h t)(vi:g.m.w*g.m.h<=1600)
  (h:∀(x':mU) rr ds w',xJ g x'->Me g x'->x'.clean=g.ep->x'.fH=ab6 (jY g x x.ps.length).length x.fH->GP g.m t ds->
   Sep F W w' (nu gr g::tK r gr.p x'::tO fp r.p gr.p ⟨some (rr,⟨t,g.ep,ds⟩),if Mo f=some (t,g.ep)then f.fH else Ta.sat f.fH 1⟩::L)->Q (sZ rr.p) w'):vz (sZ fp) t w Q:=by
 apply Lu;have kg:=oq s;have hm:=kg.ok.may;have kf:=Mq (ai (ai s));have ayB:=Kn hm ht;refine l9 (ah (dH (kf 1 _ rfl) (ja kg ?_)));rw[cJ (by omega),cond_false];refine ah (dH (by have:=kf 0 _ rfl;rw[add_zero]at this;exact this) ?_);refine UP s I λx' w1 I' hfr wE UI s=>?_;have s:=ax s;have kg:=oq s;have kf:=Mq (ai (ai s));have b5:∀(w2:World),Mo f≠some (t,g.ep)->Sep F W w2 (nu gr g::tK r gr.p x'::tO fp r.p gr.p f::L)->nY Q (sZ fp) t w2:=λw2 hne s=>by refine agK s (Mq (ai (ai s))) (UM (ai s)) (oq s) I' hfr ht vi λrr ds w3 hok s _=>?_;have s1:=cE s (L':=tO fp r.p gr.p f::Dc rr ⟨t,g.ep,ds⟩::nu gr g::tK r gr.p x'::L) (List.perm_middle (l₁:=[_,_,_]));have s1:=Mp s1;have s1:=s1;refine ah (sT s1 0 rfl λw3 s=>?_);refine ah (lI s 0 rfl ?_);apply Ta.AH J.u (by unfold Ta.U;omega);refine ah (az s (i:=0) rfl rfl rfl λw3 s=>?_);refine ah (lP s 0 rfl ?_);apply h x' rr ds w3 I' hfr wE UI hok;rw[if_neg hne];have s2:=gH s (List.Sublist.cons_cons _ (List.sublist_append_right _ _));exact cE (Q9 s2) (L':=nu gr g::tK r gr.p x'::tO fp r.p gr.p _::L) (List.perm_middle (l₁:=[_,_])).symm
 refine ah (dH (kf 2 _ rfl) ?_);cases hk:f.kept with
 |none=>
  show cond true _ _;refine b5 _ ?_ s;unfold Mo;grind
 |some q=>
  obtain⟨rr0,t0⟩:=q;have hP:apL (some (rr0,t0))=sZ rr0.p:=rfl;apply l9;have kr:=adz (ai (ai s)) hk;have hcell:w1.drew.cell? ((aZ fp).add 2)=some (.pointer (sZ rr0.p)):=by have:=kf 2 _ rfl;grind
  refine ah (dH hcell (ah (aQ (by have:=kr.cell 0 _ rfl;rw[add_zero]at this;exact this) ?_)));have hkg:Mo f=some (t0.goal,t0.ep):=by unfold Mo;rw[hk];rfl
  by_cases hg:t0.goal=t
  ·rw[show(t0.goal !=t)=false by grind,cond_false];refine ah (dH hcell (ah (aQ (kr.cell 1 _ rfl) ?_)));refine ah (dH (kf 1 _ rfl) (qD kg ⟨kr.cell 1 _ rfl,hcell,?_⟩));by_cases he:t0.ep=g.ep
   ·rw[show(t0.ep !=g.ep)=false by grind,cond_false];refine ah (dH hcell ?_);have hq:=(J.kept _ hk).2 he;rw[hg]at hq;apply h x' rr0 t0.ds _ I' hfr wE UI hq.2;have e:f=⟨some (rr0,⟨t,g.ep,t0.ds⟩),f.fH⟩:=by
     cases f with
     |mk kept fH=>
      simp only at hk;rw[hk,<-hg,<-he]
    grind
   grind
  grind
end
end Go.Proofs.YtmegplnmiepfbaaGreatDoor.S
namespace Go.Proofs.YtmegplnmiepfbaaGreatDoor.S
open Go.Sx
attribute [local irreducible] af cq bq bf aB bY bT St Bx Al App cu cg b_ bR aK bw aq bP av aj aU mapA
section
variable {m:bN}{t sc c:Int}{ds:List Int}
def aj1 (hm:c7 m){e:Int×Int}(h:e∈uH m c):nL m e.1/\bC m.w m.h e.1/\nL m c/\bC m.w m.h c/\0<e.2/\e.2<255:=by obtain⟨ho,s,hs,h1,h2,rfl⟩:=UC.1 h;obtain⟨h3,h4⟩:=BB h1;have hst:fJ m c (gm m.w m.h c s) (cH m (gm m.w m.h c s)):=⟨ho,h2,⟨s,hs,h3.symm⟩,rfl⟩;have hne:cO m c≠cO m (gm m.w m.h c s):=λe=>h4 (by rw[<-h3];exact e.symm);have hn:=qN hm _ _ _ hst hne;exact⟨hn.2,jE hm h2,hn.1,jE hm ho,By h2⟩
def Ji {at_:Int->Int}:(G4 m at_ c).Pairwise (λa b=>a.s<b.s)/\∀x∈G4 m at_ c,x.c=dD m.w m.h c/\0<=x.s/\x.s<=3/\eU m c=true:=by
 unfold G4 uH;split
 ·rw[Fi,List.filterMap_filterMap];have side:∀(a:Nat),a<4->∀x,(Eo m c a).bind (λe=>if at_ e.1=bW then none else some (⟨dD m.w m.h c,zy m.w m.h c e.1,e.2+at_ e.1⟩:bg))=some x->x.s=a/\x.c=dD m.w m.h c:=λa ha x h=>by
   unfold Eo at h;split at h
   ·rename_i h4;simp only[Option.bind_some]at h;split at h
    ·cases h
    ·cases h;obtain⟨h5,_⟩:=BB h4.1;refine⟨?_,rfl⟩;rw[h5];exact UB ⟨by omega,by omega⟩ (by grind)
   ·simp at h
  constructor
  ·rw[List.pairwise_filterMap];refine List.Pairwise.imp_of_mem ?_ List.pairwise_lt_range;grind
  grind
 simp_all
def amq {at_:Int->Int}:(G4 m at_ c).length<=4:=by
 unfold G4 uH;split
 ·unfold Fi;grind
 ·simp
def agL {α β:Type}{f:α->List β}{k:Nat}:∀{l:List α},(∀a∈l,(f a).length<=k)->(l.flatMap f).length<=l.length*k
 |[],_=>by simp
 |a::l,h=>by have h1:=h a (by simp);have h2:=agL (l:=l) λb hb=>h b (by simp[hb]);rw[List.flatMap_cons,List.length_append,List.length_cons,Nat.add_mul,Nat.one_mul];omega
def UZ {at_:Int->Int}(hs:dA m.w m.h sc):(DT m at_ t sc).Nodup/\(DT m at_ t sc).length<=1025:=by
 have ni:=yX hs;constructor
 ·rw[DT,List.nodup_append];refine⟨?_,by grind,?_⟩
  ·show List.Pairwise _ _;rw[List.pairwise_flatMap];refine⟨λc _=>List.Pairwise.imp (λh e=>by grind) Ji.1,?_⟩;refine List.Pairwise.imp_of_mem ?_ (ahW hs);intro c c' hc Aq hne x hx y hy e;have h1:=(Ji.2 x hx).1;have h2:=(Ji.2 y hy).1;obtain⟨_,c1,c2⟩:=lY hs hc;obtain⟨_,c3,c4⟩:=lY hs Aq;have g1:=nq c1;have g2:=nq c3;grind
  ·intro x hx y hy e;obtain⟨c,hc,hx⟩:=List.mem_flatMap.1 hx;have h1:=(Ji.2 x hx).2;grind
 ·unfold DT;have h1:=agL (f:=G4 m at_) (l:=aT m sc) λc _=>amq;grind
end
section
variable {F:Nat->Prop}{W w w0:World}{L:List As}{rr:wI}{gr:tJ}{g:gU}{t sc:Int}{ds:List Int}{a:Option Addr}{n c:Nat}{es:List bg}
def asH {x:bg}{K:Option Addr->Nat->Nat->World->Prop}(s:Sep F W w (aj a n c 294 3 (flat fI es)::L))(hn:n<=1000000000)
  (k:∀a' c' w',Sep F W w' (aj a' (n+1) c' 294 3 (flat fI (es++[x]))::L)->K a' (n+1) c' w'):Bx [ae x.c,ae x.s,ae x.k] 294 w λp w1=>App P #[278,278] 278 (.slice a n c) (.slice (some p) 1 1) w1 K:=by
 refine aS s λb w s=>?_;have src:Src w (sZ b) 1 3 (fI x):=⟨rfl,Uv x,λj u hj=>by rw[cf,Nat.zero_add];exact c9 s (i:=0) rfl rfl hj⟩;refine iH dU s (i:=1) (bytes:=24) rfl rfl rfl rfl rfl rfl (by decide) rfl src (by simp[maxLen];omega) (by omega) (λe=>by cases e) λa1 c1 w1 s1=>?_;have e:flat fI es++fI x=flat fI (es++[x]):=by rw[gG];simp[flat]
 rw[e]at s1;exact k _ _ _ (ai s1)
def U0 {Q:Option Addr->Nat->Nat->World->Prop}(s0:Sep F W w L)(kg:nv w gr g)(kr:Fl w rr ⟨t,g.ep,ds⟩)(hok:GP g.m t ds)(ht:bC g.m.w g.m.h t)(hs:dA g.m.w g.m.h sc)
  (h:∀ra rn rc w',Sep F W w' (aj ra rn rc 294 3 (flat fI (L6 (DT g.m (D g.m t) t sc)))::L)->Fr No w w'->Q ra rn rc w'):A_ (sZ gr.p) (sZ rr.p) sc w Q:=by
 apply T9;have hm:=kg.ok.may;have ni:=yX hs;obtain⟨hnd,hlen⟩:=UZ hs;have hN:=pZ ⟨hm.w,hm.h⟩;refine jb (bt (F:=No)) kg λw1 s _=>?_;apply l9;refine Wv (kr.fr (au s)) (qD (kg.fr (au s)) ?_);rw[bne_self_eq_false,cond_false];refine wH s (kg.fr (au s)) hs λna nn nc w1 s _=>?_;have hnl:=(aL s (i:=0) rfl cj (by decide)).len;have fin:∀(oa:Option Addr) (on oc:Nat) (w2:World),Sep No w w2 [aj oa on oc 294 3 (flat fI (DT g.m (D g.m t) t sc))]->jZ oa on oc w2 λra rn rc w3=>Q ra rn rc w3:=λoa on oc w2 s=>by have hS:=aL s (i:=0) rfl mT (by decide);have:=hS.len;refine zD s hS (by omega) hnd λra rc w3 s _=>?_;exact h ra on rc w3 (dX s0 s (i:=0) rfl) (au s)
 have nodes:∀(k i:Nat) (oa:Option Addr) (on oc:Nat) (w2:World),i+k=nn->on<=4*i->Sep No w w2 [aj oa on oc 294 3 (flat fI (((aT g.m sc).take i).flatMap (G4 g.m (D g.m t)))),aj na nn nc 3 1 (flat one (aT g.m sc))]->
   nJ Q (k+1) (sZ gr.p) (sZ rr.p) sc g.m.w g.m.h oa on oc na nn nc nn i w2:=by
  intro k;induction k with
  |zero=>
   intro i oa on oc w2 hi ho s;show uD Q (nJ Q 0) _ _ _ _ _ _ _ _ _ _ _ _ _ _;rw[uD,bp];rw[List.take_of_length_le (by omega)]at s;apply Yc (kr.fr (au s));refine eL s λw2 s _=>?_;unfold DT at fin;by_cases Q1:aC g.m.w g.m.h t=sc
   ·rw[dK Q1,cond_true];apply ja (kg.fr (au s));by_cases hw:cH g.m t=255
    ·rw[hw,bne_self_eq_false,cond_false];rw[if_neg λe=>e.2 hw,List.append_nil]at fin;exact fin oa on oc w2 (pk 99 [0] s)
    ·rw[show(cH g.m t !=255)=true by grind,cond_true];rw[if_pos ⟨Q1,hw⟩]at fin;refine sE s λw2 s _=>?_;refine asH (x:=⟨dD g.m.w g.m.h t,4,0⟩) s (by omega) λoa oc w2 s=>?_;exact fin oa _ oc w2 (pk 99 [0] s)
   ·rw[cJ Q1,cond_false];rw[if_neg λe=>Q1 e.1,List.append_nil]at fin;exact fin oa on oc w2 (pk 99 [0] s)
  |succ k ih=>
   intro i oa on oc w2 hi ho s;show uD Q (nJ Q (k+1)) _ _ _ _ _ _ _ _ _ _ _ _ _ _;rw[uD,bJ];apply(aL s (i:=1) rfl cj (by decide)).pC rfl (by omega);have xq:(aT g.m sc).take (i+1)=(aT g.m sc).take i++[gi (aT g.m sc) i]:=by rw[List.take_add_one,gM (by omega)];rfl
   generalize gi (aT g.m sc) i=c at xq⊢;refine Uu s (kg.fr (au s)) λea en ec w2 s _=>?_;have wE:=(aL s (i:=0) rfl OW (by decide)).len;have hc4:(uH g.m c).length<=4:=by
    unfold uH;split
    ·exact Nat.le_trans (List.length_filterMap_le _ _) (by simp)
    ·simp
   have vS:∀(k2 j:Nat) (oa:Option Addr) (on oc:Nat) (w2:World),j+k2=en->on<=4*i+j->Sep No w w2 [aj oa on oc 294 3 (flat fI (((aT g.m sc).take i).flatMap (G4 g.m (D g.m t))++((uH g.m c).take j).filterMap λe=>if D g.m t e.1=bW then none else some ⟨dD g.m.w g.m.h c,zy g.m.w g.m.h c e.1,e.2+D g.m t e.1⟩)),aj ea en ec 292 2 (flat CA (uH g.m c)),aj na nn nc 3 1 (flat one (aT g.m sc))]->
     qx (nJ Q (k+1)) Q (k2+1) (sZ gr.p) (sZ rr.p) sc g.m.w g.m.h oa on oc c na nn nc nn i ea en ec en j w2:=by
    intro k2;induction k2 with
    |zero=>
     intro j oa on oc w2 hj ho s;show uC _ Q (qx _ Q 0) _ _ _ _ _ _ _ _ _ _ _ _ _ _ _ _ _ _ _ _;rw[uC,bp,aF];rw[List.take_of_length_le (l:=uH g.m c) (by omega)]at s;apply ih (i+1) oa on oc w2 (by omega) (by omega);rw[xq,List.flatMap_append,List.flatMap_singleton];exact pk 99 [0,2] s
    |succ k2 ih2=>
     intro j oa on oc w2 hj ho s;show uC _ Q (qx _ Q (k2+1)) _ _ _ _ _ _ _ _ _ _ _ _ _ _ _ _ _ _ _ _;rw[uC,bJ,aF];refine(aL s (i:=1) rfl OW (by decide)).El rfl (by omega) λp e he aga=>?_;have asI:=O_ (f:=λe:Int×Int=>if D g.m t e.1=bW then none else some (⟨dD g.m.w g.m.h c,zy g.m.w g.m.h c e.1,e.2+D g.m t e.1⟩:bg)) he;obtain⟨h1,h2,h3,h4,h5,h6⟩:=aj1 hm (List.mem_of_getElem? he);have Hl:=hok.2 _ h1 h2;refine aQ (aga 0 _ rfl) (aQ (aga 1 _ rfl) ?_);refine aY s λeb w2 s=>?_;refine sT s 0 rfl λw2 s=>?_;refine az s (i:=0) rfl rfl rfl λw2 s=>?_;apply lI s 0 rfl;apply abU (kr.fr (au s));rw[Hl];by_cases hI:D g.m t e.1=bW
     ·have UO:D g.m t e.1=1099511627776:=hI;rw[UO,bne_self_eq_false,cond_false];apply ih2 (j+1) oa on oc w2 (by omega) (by omega);rw[asI,if_pos hI];show Sep No w w2 [aj oa on oc 294 3 (flat fI (_++(_++[]))),_,_];rw[List.append_nil];exact ai s
     ·have UO:D g.m t e.1≠1099511627776:=hI;rw[show(D g.m t e.1 !=1099511627776)=true by rw[bne_iff_ne];exact UO,cond_true];have hDl:D g.m t e.1<bW:=by
       by_cases q:∃d,Wy (fY g.m t) (fJ g.m) e.1 d
       ·exact(Jb hm).2 q
       ·exact(hI (aeT q)).elim
      obtain⟨d,hd⟩:=(Jb hm).1 hDl;have hDb:=anX hm hd;have s:=ax s;refine lI s 0 rfl (lI s 0 rfl ?_);refine sE s λw2 s _=>?_;refine⟨cN s 0 rfl,cN s 0 rfl,?_⟩;refine X8 s λw2 s _=>⟨cN s 0 rfl,?_⟩;rw[aF];refine asH (x:=⟨dD g.m.w g.m.h c,zy g.m.w g.m.h c e.1,e.2+D g.m t e.1⟩) (ai s) (by omega) λoa oc w2 s=>?_;apply ih2 (j+1) oa (on+1) oc w2 (by omega) (by omega);rw[asI,if_neg hI,<-List.append_assoc];exact s
   have s':Sep No w w2 [aj oa on oc 294 3 (flat fI (((aT g.m sc).take i).flatMap (G4 g.m (D g.m t))++((uH g.m c).take 0).filterMap λe=>if D g.m t e.1=bW then none else some ⟨dD g.m.w g.m.h c,zy g.m.w g.m.h c e.1,e.2+D g.m t e.1⟩)),aj ea en ec 292 2 (flat CA (uH g.m c)),aj na nn nc 3 1 (flat one (aT g.m sc))]:=by rw[List.take_zero,List.filterMap_nil,List.append_nil];exact pk 99 [1,0,2] s
   exact⟨en+1,vS en 0 oa on oc w2 (by omega) (by omega) s'⟩
 exact⟨nn+1,nodes nn 0 none 0 0 w1 (by omega) (by omega) (bE s 294 3)⟩
end
structure yJ where
 eO:Int
 sa:Option Addr
 sn:Nat
 sc:Nat
 da:Option Addr
 dn:Nat
 dc:Nat
 ra:Option Addr
 rn:Nat
 rc:Nat
 iq:List bg
 ds:List Int
 rs:List Int
def DY (x:yJ):List Value:=[ae x.eO,.slice x.sa x.sn x.sc,.slice x.da x.dn x.dc,.slice x.ra x.rn x.rc]
def xj (x:yJ):(DY x).length=4:=rfl
def aow (x:yJ)(u:Value)(h:u∈DY x):u.oneCell'=true:=by unfold DY at h;simp[List.mem_cons,List.not_mem_nil,or_false]at h;rcases h with rfl|rfl|rfl|rfl<;>rfl
noncomputable def Fz (x:yJ):As:=aU True [aj x.sa x.sn x.sc 294 3 (flat fI x.iq),aj x.da x.dn x.dc 3 1 (flat one x.ds),aj x.ra x.rn x.rc 3 1 (flat one x.rs)]
def G8:yJ:=⟨0,none,0,0,none,0,0,none,0,0,[],[],[]⟩
structure U1 where
 p:Nat
 lp:Nat
 lr:Lr.acd
 a:Option Addr
 n:Nat
 c:Nat
structure z6 where
 l:Lr.KS
 es:List yJ
 b:Int
 h:Int
 st:Int
 ev:Int
def FA (r:U1)(x:z6):List Value:=[.pointer (sZ r.lp),.slice r.a r.n r.c,.int .u64 0,.int .u64 0,.int .u64 x.b,.int .u64 x.h,.int .u64 x.st,.int .u64 x.ev]
noncomputable def VJ (r:U1)(k:Int)(x:z6):List As:=av r.p 135 (FA r x)::Lr.GO r.lp k x.l r.lr::aj r.a r.n r.c 303 4 (flat DY x.es)::x.es.map Fz
noncomputable def jG (r:U1)(k:Int)(x:z6):As:=aU True (VJ r k x)
section
variable {F:Nat->Prop}{W w w0:World}{L:List As}{r:U1}{k:Int}{x:z6}{tw th:Int}{ca la:Option Addr}{cn cc ln lc:Nat}{cs:List Int}{xs:List bg}
def fQ {A B T:List As}(is:List Nat)(s:Sep F W w (A++T))(h:is.map (λi=>A[i]?)=B.map some)(hn:is.Nodup):Sep F W w (B++T):=by
 have s1:=dW (cE s List.perm_append_comm) trivial;have s2:Sep F W w (aU True T::B):=by
  refine cF (0::is.map (·+1)) s1 ?_ ?_
  ·rw[List.map_cons,List.map_cons,List.map_map];congr 1
  grind
 exact cE (iT s2).2 List.perm_append_comm
def aj2 {Z T:List As}{a b:As}(h:T=a::b::(Z++L)):T.Perm (Z++a::b::L):=by subst h;exact(List.Perm.cons _ List.perm_middle.symm).trans List.perm_middle.symm
def aau (s:Sep F W w (jG r k x::L)):Sep F W w (VJ r k x++L):=(iT s).2
def G9 (s:Sep F W w (VJ r k x++L)):Sep F W w (jG r k x::L):=dW s trivial
def aox {q:yJ}{i:Nat}(s:Sep F W w L)(hi:L[i]? =some (Fz q)):Sl w q.sa q.sn q.sc 3 fI q.iq/\Sl w q.da q.dn q.dc 1 one q.ds/\Sl w q.ra q.rn q.rc 1 one q.rs:=by have s':=Hr s hi;exact⟨aL s' (i:=0) rfl mT (by decide),aL s' (i:=1) rfl cj (by decide),aL s' (i:=2) rfl cj (by decide)⟩
def AL {Q:World->Prop}{p i j:Nat}{t:TypeId}{cs:List Value}{v:Int}(s:Sep F W w L)(hi:L[i]? =some (av p t cs))(hj:cs[j]? =some (.int .u64 v))(hu:Ta.U v)
  (h:∀w',Sep F W w' (L.set i (av p t (cs.set j (.int .u64 (Ta.sat v 1)))))->Q w'):rD (some ⟨p,j,none⟩) w Q:=by
 apply ZG;refine ah (eN s rfl hi hj ?_);apply Ta.AH hu (by unfold Ta.U;omega);refine ah (az s rfl hi ?_ λw' s'=>h w' s');rw[Nat.blt_eq];grind
def Mr {Q:Option Addr->Nat->Nat->Option Addr->Nat->Nat->World->Prop}{da ra:Option Addr}{dn dc rn rc:Nat}{ds rs:List Int}(s0:Sep F W w L)(hD:Sl w da dn dc 1 one ds)(hR:Sl w ra rn rc 1 one rs)(hn:dn<=1000000)(hm:rn<=1000000)
  (h:∀Ku Kv ra' rc' w',Sep F W w' (aj ra' rn rc' 3 1 (flat one rs)::aj Ku dn Kv 3 1 (flat one ds)::L)->Fr No w w'->Q Ku dn Kv ra' rn rc' w'):Ax da dn dc ra rn rc w Q:=by
 apply ZH;refine aS (bt (F:=No)) λfb w1 s=>?_;refine aY s λrb w1 s=>?_;have s:=ax s;refine lS s 1 rfl (lS s 1 rfl ?_);refine Kg s (hD.fr (au s)) (by omega) λKu Kv w1 s _=>⟨cN s 2 rfl,?_⟩;refine Kg s (hR.fr (au s)) (by omega) λra' rc' w1 s _=>?_;refine sT s 2 rfl λw1 s=>?_;refine az s (i:=2) rfl rfl rfl λw1 s=>?_;refine lS s 2 rfl (lS s 2 rfl ?_);have s':Sep No w w1 [aj ra' rn rc' 3 1 (flat one rs),aj Ku dn Kv 3 1 (flat one ds)]:=pk 99 [0,1] s;exact h Ku Kv ra' rc' w1 (fP s0 s') (au s')
def WrE {n c i:Nat}{es:List yJ}{j:Nat}{q:yJ}{g o:Nat}{K:World->Prop}(s:Sep F W w L)(hi:L[i]? =some (aj (some ⟨g,o,none⟩) n c 303 4 (flat DY es)))(hn:j<es.length)(h:∀w',Sep F W w' (L.set i (aj (some ⟨g,o,none⟩) n c 303 4 (flat DY (es.set j q))))->K w'):
  St ((⟨g,o+j*4,none⟩:Addr).add 0) (ae q.eO) w λw=>St ((⟨g,o+j*4,none⟩:Addr).add 1) (.slice q.sa q.sn q.sc) w λw=>St ((⟨g,o+j*4,none⟩:Addr).add 2) (.slice q.da q.dn q.dc) w λw=>St ((⟨g,o+j*4,none⟩:Addr).add 3) (.slice q.ra q.rn q.rc) w λw=>K w:=by
 have hg:=List.getElem?_eq_getElem hn;generalize es[j]=e0 at hg;have ad:∀i,((⟨g,o+j*4,none⟩:Addr).add i)=⟨g,o+(j*4+i),none⟩:=λi=>by rw[cf,Nat.add_assoc]
 have Hq:=(List.getElem?_eq_some_iff.1 hi).1;refine dz (x':=⟨q.eO,e0.sa,e0.sn,e0.sc,e0.da,e0.dn,e0.dc,e0.ra,e0.rn,e0.rc,e0.iq,e0.ds,e0.rs⟩) xj s hi hg (ad 0) (by decide) rfl rfl λw s=>?_;refine dz (x:=⟨q.eO,e0.sa,e0.sn,e0.sc,e0.da,e0.dn,e0.dc,e0.ra,e0.rn,e0.rc,e0.iq,e0.ds,e0.rs⟩) (x':=⟨q.eO,q.sa,q.sn,q.sc,e0.da,e0.dn,e0.dc,e0.ra,e0.rn,e0.rc,e0.iq,e0.ds,e0.rs⟩) xj s (by rw[List.getElem?_set_self Hq]) (by grind) (ad 1) (by decide) rfl rfl λw s=>?_;rw[List.set_set,List.set_set]at s;refine dz (x:=⟨q.eO,q.sa,q.sn,q.sc,e0.da,e0.dn,e0.dc,e0.ra,e0.rn,e0.rc,e0.iq,e0.ds,e0.rs⟩) (x':=⟨q.eO,q.sa,q.sn,q.sc,q.da,q.dn,q.dc,e0.ra,e0.rn,e0.rc,e0.iq,e0.ds,e0.rs⟩) xj s (by rw[List.getElem?_set_self Hq]) (by grind) (ad 2) (by decide) rfl rfl λw s=>?_;rw[List.set_set,List.set_set]at s;refine dz (x:=⟨q.eO,q.sa,q.sn,q.sc,q.da,q.dn,q.dc,e0.ra,e0.rn,e0.rc,e0.iq,e0.ds,e0.rs⟩) (x':=q) xj s (by rw[List.getElem?_set_self Hq]) (by grind) (ad 3) (by decide) rfl rfl λw s=>?_;simp_all
structure ShU (x:z6):Prop where
 b:Ta.U x.b
 h:Ta.U x.h
 st:Ta.U x.st
 ev:Ta.U x.ev
end
structure CV where
 eO:Int
 iq:List bg
 ds:List Int
 rs:List Int
def yJ.p (q:yJ):CV:=⟨q.eO,q.iq,q.ds,q.rs⟩
structure RS where
 l:Lr.KS
 es:List CV
 b:Int
 h:Int
 st:Int
 ev:Int
def z6.p (x:z6):RS:=⟨x.l,x.es.map yJ.p,x.b,x.h,x.st,x.ev⟩
def bump (c:Bool)(v:Int):Int:=if c=true then Ta.sat v 1 else v
def YF:CV:=⟨0,[],[],[]⟩
def U2 (es:List CV)(slot:Nat)(had:Bool)(eO:Int)(xs:List bg):Bool:=had&&(match es[slot]? with|some q=>q.eO==eO&&decide (q.iq=xs)|none=>false)
def BH (k:Int)(y:RS)(key:Int×Int)(q:CV):RS:=
 let u:=Lr.ke k y.l key;let W7:=if u.1.1=(y.es.length:Int)then y.es++[YF]else y.es
 if U2 W7 u.1.1.toNat u.1.2.1 q.eO q.iq=true then⟨u.2,W7,y.b,Ta.sat y.h 1,y.st,y.ev⟩
 else⟨u.2,W7.set u.1.1.toNat q,Ta.sat y.b 1,y.h,bump u.1.2.1 y.st,bump u.1.2.2 y.ev⟩
section
variable {F:Nat->Prop}{W w w0:World}{L:List As}{r:U1}{k:Int}{x:z6}{tw th:Int}{ca la:Option Addr}{cn cc ln lc:Nat}{cs:List Int}{xs:List bg}
noncomputable abbrev U3 (r:U1)(k:Int)(x:z6)(rb tb:Nat)(tw th:Int)(ca:Option Addr)(cn cc:Nat)(L:List As):List As:=
 Lr.GO r.lp k x.l r.lr::av rb 213 [.slice none 0 0,.slice none 0 0]::av tb 84 [ae tw,ae th,.slice ca cn cc]::av r.p 135 (FA r x)::aj r.a r.n r.c 303 4 (flat DY x.es)::(x.es.map Fz++L)
def aoy {A B:As}(s:Sep F W w (A::B::jG r k x::L)):Sep F W w (Lr.GO r.lp k x.l r.lr::A::B::av r.p 135 (FA r x)::aj r.a r.n r.c 303 4 (flat DY x.es)::(x.es.map Fz++L)):=by have s1:=aau (cE s ((List.Perm.cons _ (List.Perm.swap _ _ _)).trans (List.Perm.swap _ _ _)));have s2:=cE s1 (aj2 rfl).symm;exact fQ (A:=[_,_,_,_,_]) (B:=[_,_,_,_,_]) [3,0,1,2,4] s2 rfl (by decide)
def aoz {A B:As}(s:Sep F W w (A::B::av r.p 135 (FA r x)::Lr.GO r.lp k x.l r.lr::aj r.a r.n r.c 303 4 (flat DY x.es)::(x.es.map Fz++L))):Sep F W w (A::B::jG r k x::L):=
 cE (G9 (cE s (aj2 rfl))) ((List.Perm.swap _ _ _).trans (List.Perm.cons _ (List.Perm.swap _ _ _)))
def VK {A B C D E:As}{es:List yJ}(s:Sep F W w (A::B::C::D::E::(es.map Fz++L))):Sep F W w L:=
 gH s (.cons _ (.cons _ (.cons _ (.cons _ (.cons _ (List.sublist_append_right _ _))))))
def aiP {Q:Option Addr->Nat->Nat->Option Addr->Nat->Nat->Int->World->Prop}{rb tb slot g o:Nat}{eO:Int}(hT:rj tw th cs)(hok:rf tw th cs xs=true)(hnd:xs.Nodup)(pI:ln<2000)(hC:∀w',Sep F W w' L->Sl w' ca cn cc 1 bA cs)(hX:∀w',Sep F W w' L->Sl w' la ln lc 3 fI xs)(AY:slot<x.es.length)(hu:Ta.U x.b)(ha:r.a=some ⟨g,o,none⟩)
  (s:Sep F W w (U3 r k x rb tb tw th ca cn cc L))
  (h:∀q da dc ra rc w',q.eO=eO->q.iq=xs->q.ds=jd tw th cs xs->q.rs=nj tw th cs xs->Sep F W w' (aj ra cs.length rc 3 1 (flat one (nj tw th cs xs))::aj da cs.length dc 3 1 (flat one (jd tw th cs xs))::jG r k {x with es:=x.es.set slot q,b:=Ta.sat x.b 1}::L)->Q da cs.length dc ra cs.length rc 0 w'):
  oV Q (sZ r.p) eO la ln lc (aZ tb) (aZ rb) ⟨g,o+slot*4,none⟩ w:=by
 have vi:=hT.small;apply ah;refine AL s (i:=3) rfl rfl hu λw s=>?_;refine lI s 2 rfl (lI s 2 rfl (lS s 2 rfl ?_));refine Wx s (hC _ (VK s)) (hX _ (VK s)) hT hok hnd pI λda dc ra rc w s _=>?_;refine aY s λfb w s=>?_;refine sT s 0 rfl λw s=>?_;refine az s (i:=0) rfl rfl rfl λw s=>?_;have s:=ax s;refine lS s 0 rfl (lS s 0 rfl ?_);refine Uy s (hX _ (VK (ai (ai (ai s))))) (by omega) λsa sc w s _=>?_;refine⟨cN s 1 rfl,cN s 1 rfl,?_⟩;rw[ha]at s;refine WrE (q:=⟨eO,sa,ln,sc,da,cs.length,dc,ra,cs.length,rc,xs,jd tw th cs xs,nj tw th cs xs⟩) s (i:=8) rfl AY λw s=>?_;refine lS s 1 rfl (lS s 1 rfl ?_);refine Mr s (aL s (i:=3) rfl cj (by decide)) (aL s (i:=2) rfl cj (by decide)) (by omega) (by omega) λKu Kv ra' rc' w s _=>?_;refine sT s 7 rfl λw s=>?_;refine az s (i:=7) rfl rfl rfl λw s=>?_;refine lS s 7 rfl (lS s 7 rfl ?_);apply h ⟨eO,sa,ln,sc,da,cs.length,dc,ra,cs.length,rc,xs,jd tw th cs xs,nj tw th cs xs⟩ Ku Kv ra' rc' w rfl rfl rfl rfl;rw[<-ha]at s;have s1:=fQ (A:=[_,_,_,_,_,_,_,_,_,_,_]) (B:=[aj sa ln sc 294 3 (flat fI xs),aj da cs.length dc 3 1 (flat one (jd tw th cs xs)),aj ra cs.length rc 3 1 (flat one (nj tw th cs xs)),aj ra' cs.length rc' 3 1 (flat one (nj tw th cs xs)),aj Ku cs.length Kv 3 1 (flat one (jd tw th cs xs)),av r.p 135 (FA r {x with b:=Ta.sat x.b 1}),Lr.GO r.lp k x.l r.lr,aj r.a r.n r.c 303 4 (flat DY (x.es.set slot ⟨eO,sa,ln,sc,da,cs.length,dc,ra,cs.length,rc,xs,jd tw th cs xs,nj tw th cs xs⟩))]) [2,5,4,0,1,9,6,10] s ?_ (by decide)
 ·have s2:=dW (Ps:=[_,_,_]) s1 trivial;simp[List.append_eq,List.cons_append,List.nil_append]at s2;have s3:=Q0 (i:=5+slot) s2;have e:∀(A B C D E G:As),(A::B::C::D::E::(x.es.map Fz++L)).set (5+slot) G=A::B::C::D::E::((x.es.map Fz).set slot G++L):=λA B C D E G=>by rw[Nat.add_comm 5 slot];simp[List.set_cons_succ];rw[List.set_append_left _ _ (by rw[List.length_map];exact AY)]
  rw[e]at s3;rw[show(x.es.map Fz).set slot (aU True [aj sa ln sc 294 3 (flat fI xs),aj da cs.length dc 3 1 (flat one (jd tw th cs xs)),aj ra cs.length rc 3 1 (flat one (nj tw th cs xs))])=(x.es.set slot ⟨eO,sa,ln,sc,da,cs.length,dc,ra,cs.length,rc,xs,jd tw th cs xs,nj tw th cs xs⟩).map Fz from by rw[List.map_set];rfl]at s3;have s4:=G9 (cE s3 (L':=VJ r k ⟨x.l,x.es.set slot ⟨eO,sa,ln,sc,da,cs.length,dc,ra,cs.length,rc,xs,jd tw th cs xs,nj tw th cs xs⟩,Ta.sat x.b 1,x.h,x.st,x.ev⟩++(aj ra' cs.length rc' 3 1 (flat one (nj tw th cs xs))::aj Ku cs.length Kv 3 1 (flat one (jd tw th cs xs))::L)) ?_)
  ·exact cE s4 ((List.Perm.swap _ _ _).trans (List.Perm.cons _ (List.Perm.swap _ _ _)))
  ·exact aj2 rfl
 ·rfl
def amr {c:Bool}{v:Int}(h:Ta.U v):Ta.U (bump c v):=by
 unfold bump;split
 ·exact Ta.Ft h (by unfold Ta.U;omega)
 ·exact h
attribute [local irreducible] oV in
theorem aqT {Q:Option Addr->Nat->Nat->Option Addr->Nat->Nat->Int->World->Prop}{rb tb slot g o:Nat}{eO:Int}{had out:Bool}(hT:rj tw th cs)(hok:rf tw th cs xs=true)(hnd:xs.Nodup)(pI:ln<2000)(hC:∀w',Sep F W w' L->Sl w' ca cn cc 1 bA cs)(hX:∀w',Sep F W w' L->Sl w' la ln lc 3 fI xs)(AY:slot<x.es.length)(hu:ShU x)(ha:r.a=some ⟨g,o,none⟩)
  (s:Sep F W w (U3 r k x rb tb tw th ca cn cc L))
  (h:∀q da dc ra rc w',q.eO=eO->q.iq=xs->q.ds=jd tw th cs xs->q.rs=nj tw th cs xs->Sep F W w' (aj ra cs.length rc 3 1 (flat one (nj tw th cs xs))::aj da cs.length dc 3 1 (flat one (jd tw th cs xs))::jG r k ⟨x.l,x.es.set slot q,Ta.sat x.b 1,x.h,bump had x.st,bump out x.ev⟩::L)->Q da cs.length dc ra cs.length rc 0 w'):
  i_ Q (sZ r.p) eO la ln lc (aZ tb) (aZ rb) had out ⟨g,o+slot*4,none⟩ w:=by
 have hb:=hu.b;have b12:∀(x':z6) (w:World),x'.l=x.l->x'.es=x.es->x'.b=x.b->x'.h=x.h->x'.st=bump had x.st->x'.ev=x.ev->Sep F W w (U3 r k x' rb tb tw th ca cn cc L)->oW Q (sZ r.p) eO la ln lc (aZ tb) (aZ rb) out ⟨g,o+slot*4,none⟩ w:=by
  rintro ⟨l',es',b',h',st',ev'⟩ w e1 e2 e3 e4 e5 e6 s;subst e1 e2 e3 e4 e5 e6;unfold oW;cases out with
  |true=>
   rw[cond_true];apply ah;refine AL s (i:=3) rfl rfl hu.ev λw s=>?_;exact aiP (x:=⟨x.l,x.es,x.b,x.h,bump had x.st,Ta.sat x.ev 1⟩) hT hok hnd pI hC hX AY hb ha s h
  |false=>exact aiP (x:=⟨x.l,x.es,x.b,x.h,bump had x.st,x.ev⟩) hT hok hnd pI hC hX AY hb ha s h
 unfold i_;cases had with
 |true=>
  rw[cond_true];apply ah;refine AL s (i:=3) rfl rfl hu.st λw s=>?_;exact b12 ⟨x.l,x.es,x.b,x.h,Ta.sat x.st 1,x.ev⟩ w rfl rfl rfl rfl rfl rfl s
 |false=>exact b12 x w rfl rfl rfl rfl rfl rfl s
attribute [local irreducible] i_ in
theorem ams {Q:Option Addr->Nat->Nat->Option Addr->Nat->Nat->Int->World->Prop}{rb tb slot:Nat}{eO:Int}{had out:Bool}(hT:rj tw th cs)(hok:rf tw th cs xs=true)(hnd:xs.Nodup)(pI:ln<2000)(hC:∀w',Sep F W w' L->Sl w' ca cn cc 1 bA cs)(hX:∀w',Sep F W w' L->Sl w' la ln lc 3 fI xs)(AY:slot<x.es.length)(hu:ShU x)
  (hh:had=true->∀q,x.es[slot]? =some q->q.eO=eO->q.iq=xs->q.ds=jd tw th cs xs/\q.rs=nj tw th cs xs)(Kl:∀q∈x.es,q.iq.length<2000)
  (s:Sep F W w (U3 r k x rb tb tw th ca cn cc L))
  (h:∀x' da dc ra rc w',x'.l=x.l->x'.p=(if U2 x.p.es slot had eO xs=true then⟨x.l,x.p.es,x.b,Ta.sat x.h 1,x.st,x.ev⟩else⟨x.l,x.p.es.set slot ⟨eO,xs,jd tw th cs xs,nj tw th cs xs⟩,Ta.sat x.b 1,x.h,bump had x.st,bump out x.ev⟩)->Sep F W w' (aj ra cs.length rc 3 1 (flat one (nj tw th cs xs))::aj da cs.length dc 3 1 (flat one (jd tw th cs xs))::jG r k x'::L)->Q da cs.length dc ra cs.length rc 0 w'):
  qk Q (sZ r.p) eO la ln lc (aZ tb) (aZ rb) slot had out w:=by
 have kes:=aL s (i:=4) rfl xj (by decide);obtain⟨q0,hq0⟩:∃q,x.es[slot]? =some q:=⟨_,List.getElem?_eq_getElem AY⟩;have hp0:x.p.es[slot]? =some q0.p:=by show(x.es.map yJ.p)[slot]? =_;rw[List.getElem?_map,hq0];rfl
 have ab4:∀w g o,r.a=some ⟨g,o,none⟩->U2 x.p.es slot had eO xs=false->Sep F W w (U3 r k x rb tb tw th ca cn cc L)->i_ Q (sZ r.p) eO la ln lc (aZ tb) (aZ rb) had out ⟨g,o+slot*4,none⟩ w:=λw g o ha avO s=>by
  refine aqT hT hok hnd pI hC hX AY hu ha s λq da dc ra rc w' e1 e2 e3 e4 s=>?_;refine h ⟨x.l,x.es.set slot q,Ta.sat x.b 1,x.h,bump had x.st,bump out x.ev⟩ da dc ra rc w' rfl ?_ s;rw[avO,if_neg (by decide)];have:q.p=⟨eO,xs,jd tw th cs xs,nj tw th cs xs⟩:=by rw[yJ.p,e1,e2,e3,e4]
  rw[<-this];unfold z6.p;simp[List.map_set]
 refine ah (lS s 3 rfl ?_);have hn:=kes.len;have hqs:=Kl q0 (List.mem_of_getElem? hq0);refine BR s (i:=4) rfl rfl (by omega) λg o ha=>?_;rw[cf,Int.toNat_natCast];have rd:∀{w:World} {x':z6},x'.es=x.es->Sep F W w (U3 r k x' rb tb tw th ca cn cc L)->Sep F W w (Lr.GO r.lp k x'.l r.lr::av rb 213 [.slice none 0 0,.slice none 0 0]::av tb 84 [ae tw,ae th,.slice ca cn cc]::av r.p 135 (FA r x')::aj (some ⟨g,o,none⟩) r.n r.c 303 4 (flat DY x.es)::(x.es.map Fz++L)):=λe s=>by rw[<-ha,<-e];exact s
 have ad:∀j,(⟨g,o+slot*4,none⟩:Addr).add j=⟨g,o+(slot*4+j),none⟩:=λj=>by rw[cf,Nat.add_assoc]
 have kq:∀{w:World} {x':z6},x'.es=x.es->Sep F W w (U3 r k x' rb tb tw th ca cn cc L)->Sl w q0.sa q0.sn q0.sc 3 fI q0.iq/\Sl w q0.da q0.dn q0.dc 1 one q0.ds/\Sl w q0.ra q0.rn q0.rc 1 one q0.rs:=λ{w x'} e s=>by apply aox (i:=5+slot) s;rw[Nat.add_comm 5 slot];simp[List.getElem?_cons_succ];rw[List.getElem?_append_left (by rw[List.length_map,e];exact AY),List.getElem?_map,e,hq0];rfl
 cases had with
 |false=>
  exact ab4 _ g o ha rfl s
 |true=>
  apply ef xj (rd rfl s) (i:=4) rfl hq0 (ad 0) rfl;by_cases hv:q0.eO=eO
  ·rw[show(q0.eO==eO)=true from beq_iff_eq.2 hv,cond_true];apply GZ xj (rd rfl s) (i:=4) rfl hq0 (ad 1) rfl;have kq0:=(kq rfl s).1;refine Yk kq0 (hX _ (VK s)) s (by have:=kq0.len;omega) (by omega) λw s _=>?_;by_cases he:q0.iq=xs
   ·rw[bJ he];apply ah;refine AL s (i:=3) rfl rfl hu.h λw s=>?_;have s:=s;have kq1:=(kq (x':=⟨x.l,x.es,x.b,Ta.sat x.h 1,x.st,x.ev⟩) rfl s).2;obtain⟨hd,hr⟩:=hh rfl q0 hq0 hv he;have hdl:q0.dn=cs.length:=by rw[<-kq1.1.len,hd];exact Yl
    have hrl:q0.rn=cs.length:=by rw[<-kq1.2.len,hr];simp[nj]
    have vi:=hT.small;apply GZ xj (rd (x':=⟨x.l,x.es,x.b,Ta.sat x.h 1,x.st,x.ev⟩) rfl s) (i:=4) rfl hq0 (by rw[add_add,ad]) rfl;apply GZ xj (rd (x':=⟨x.l,x.es,x.b,Ta.sat x.h 1,x.st,x.ev⟩) rfl s) (i:=4) rfl hq0 (by rw[add_add,ad]) rfl;refine Mr s kq1.1 kq1.2 (by omega) (by omega) λKu Kv ra' rc' w s _=>?_;refine sT s 3 rfl λw s=>?_;refine az s (i:=3) rfl rfl rfl λw s=>?_;refine lS s 3 rfl (lS s 3 rfl ?_);rw[hdl,hrl]at s⊢;refine h ⟨x.l,x.es,x.b,Ta.sat x.h 1,x.st,x.ev⟩ Ku Kv ra' rc' w rfl ?_ ?_
    ·have:U2 x.p.es slot true eO xs=true:=by rw[U2,hp0];show(true&&(q0.eO==eO&&decide (q0.iq=xs)))=true;rw[hv,he];simp
     rw[this,if_pos rfl];rfl
    ·rw[hd,hr]at s;exact aoz (fQ (A:=[_,_,_,_,_,_,_]) (B:=[_,_,_,_,_]) [0,1,5,2,6] s rfl (by decide))
   ·rw[bp he];refine ab4 _ g o ha ?_ s;rw[U2,hp0];show(true&&(q0.eO==eO&&decide (q0.iq=xs)))=false;rw[decide_eq_false he,Bool.and_false,Bool.and_false]
  ·rw[show(q0.eO==eO)=false from beq_eq_false_iff_ne.2 hv,cond_false];refine ab4 _ g o ha ?_ s;rw[U2,hp0];show(true&&(q0.eO==eO&&decide (q0.iq=xs)))=false;rw[show(q0.eO==eO)=false from beq_eq_false_iff_ne.2 hv,Bool.false_and,Bool.and_false]
end
structure acn (k:Int) (y:RS):Prop where
 one:1<=k
 room:k<=100000
 good:Lr.Good k y.l
 len:y.es.length=y.l.length
 b:Ta.U y.b
 h:Ta.U y.h
 st:Ta.U y.st
 ev:Ta.U y.ev
 nh:∀q∈y.es,q.iq.length<2000
def VF {k:Int}{l:Lr.KS}{key:Int×Int}(hk:1<=k)(hg:Lr.Good k l):∃m:Nat,(Lr.ke k l key).1.1=m/\((m=l.length/\(Lr.ke k l key).1.2.1=false/\(Lr.ke k l key).1.2.2=false/\(Lr.ke k l key).2.length=l.length+1)\/(m<l.length/\(Lr.ke k l key).2.length=l.length)):=by
 unfold Lr.ke;cases hf:l.find? (λp=>decide (p.1=key))with
 |some p=>
  have hp:=List.mem_of_find?_eq_some hf;have he:p.1=key:=by grind
  refine⟨p.2,rfl,.inr ⟨hg.lt p hp,?_⟩⟩;have:∀{l:Lr.KS},(l.map (·.1)).Nodup->p∈l->(l.filter λq=>!decide (q.1=key)).length+1=l.length:=by
   intro l;induction l with
   |nil=>grind
   |cons a l ih=>
    intro hn hp;rcases List.mem_cons.1 hp with rfl|hp
    ·rw[List.filter_cons_of_neg (by simp[he]),List.length_cons];congr 1;refine congrArg List.length (List.filter_eq_self.2 λb hb=>?_);grind
    grind
  exact this hg.Eu hp
 |none=>
  simp only;split
  ·grind
  ·cases hl:l.getLast? with
   |none=>
    grind
   |some p=>
    have hp:=List.mem_of_getLast? hl;refine⟨p.2,rfl,.inr ⟨hg.lt p hp,?_⟩⟩;grind
def aoA {k:Int}{y:RS}{key:Int×Int}{q:CV}(h:acn k y)(hq:q.iq.length<2000):acn k (BH k y key q):=by
 obtain⟨m,hm,hc⟩:=VF h.one h.good;have hg:=Lr.Yx (key:=key) h.one h.good;have ni:∀e∈(if(Lr.ke k y.l key).1.1=(y.es.length:Int)then y.es++[YF]else y.es),e.iq.length<2000:=by
  intro e he;split at he
  ·rcases List.mem_append.1 he with he|he
   ·exact h.nh e he
   ·rw[List.mem_singleton]at he;rw[he];exact Nat.zero_lt_succ _
  ·exact h.nh e he
 have hlen:(if(Lr.ke k y.l key).1.1=(y.es.length:Int)then y.es++[YF]else y.es).length=(Lr.ke k y.l key).2.length:=by
  rw[hm,h.len];rcases hc with⟨h1,_,_,h2⟩|⟨h1,h2⟩
  ·rw[zP,List.length_append,h2,h.len];rfl
  ·rw[ru,h2,h.len]
 unfold BH;simp only;generalize (if(Lr.ke k y.l key).1.1=(y.es.length:Int)then y.es++[YF]else y.es)=W7 at ni hlen⊢;split
 ·exact⟨h.one,h.room,hg,hlen,h.b,Ta.Ft h.h (by unfold Ta.U;omega),h.st,h.ev,ni⟩
 ·refine⟨h.one,h.room,hg,by grind,Ta.Ft h.b (by unfold Ta.U;omega),h.h,amr h.st,amr h.ev,λe he=>?_⟩;grind
section
variable {F:Nat->Prop}{W w w0:World}{L:List As}{r:U1}{k:Int}{x:z6}{tw th:Int}{ca la:Option Addr}{cn cc ln lc:Nat}{cs:List Int}{xs:List bg}
def aqU (s:Sep F W w L):Sep F W w (Fz G8::L):=by have s1:=bE (bE (bE s 3 1) 3 1) 294 3;exact dW s1 trivial
attribute [local irreducible] qk in
theorem U4 {Q:Option Addr->Nat->Nat->Option Addr->Nat->Nat->Int->World->Prop}{goal KJ eO:Int}(hx:acn k x.p)(hT:rj tw th cs)(hok:rf tw th cs xs=true)(hnd:xs.Nodup)(pI:ln<2000)(hC:∀w',Sep F W w' L->Sl w' ca cn cc 1 bA cs)(hX:∀w',Sep F W w' L->Sl w' la ln lc 3 fI xs)(hkey:Lr.W2 (goal,KJ))
  (hh:(Lr.ke k x.l (goal,KJ)).1.2.1=true->∀q,x.p.es[(Lr.ke k x.l (goal,KJ)).1.1.toNat]? =some q->q.eO=eO->q.iq=xs->q.ds=jd tw th cs xs/\q.rs=nj tw th cs xs)
  (s:Sep F W w (jG r k x::L))
  (h:∀r' x' da dc ra rc w',r'.p=r.p->x'.p=BH k x.p (goal,KJ) ⟨eO,xs,jd tw th cs xs,nj tw th cs xs⟩->Sep F W w' (aj ra cs.length rc 3 1 (flat one (nj tw th cs xs))::aj da cs.length dc 3 1 (flat one (jd tw th cs xs))::jG r' k x'::L)->Q da cs.length dc ra cs.length rc 0 w'):
  nN (sZ r.p) goal KJ eO tw th ca cn cc la ln lc w Q:=by
 apply OF;refine aS s λtb w s=>?_;refine aY s λrb w s=>?_;refine lI s 1 rfl (lI s 1 rfl (lS s 1 rfl ?_));have tl:∀{w:World} {A B C:As},Sep F W w (A::B::C::L)->Sep F W w L:=λs=>ai (ai (ai s));refine LZ s (hC _ (tl s)) (hX _ (tl s)) (by omega) λw s _=>?_;rw[hok,Bool.not_true,cond_false];have s:=aoy s;refine ah (lP s 3 rfl ?_);have Mf:x.l.length<=1000000:=by have h1:=hx.good.room;have h2:=hx.room;have h3:x.p.l=x.l:=rfl;grind
 refine Lr.al_ s hkey Mf λlr' w s=>?_;have hlen:x.es.length=x.l.length:=by have:=hx.len;show _=x.p.l.length;rw[<-this];show _=(x.es.map yJ.p).length;grind
 obtain⟨m,hm,hc⟩:=VF hx.one hx.good;have hxl:x.p.l=x.l:=rfl;rw[hxl]at hm hc;have hp:(x.p.es.length:Int)=x.es.length:=by show((x.es.map yJ.p).length:Int)=_;grind
 have hu:ShU ⟨(Lr.ke k x.l (goal,KJ)).2,x.es,x.b,x.h,x.st,x.ev⟩:=⟨hx.b,hx.h,hx.st,hx.ev⟩;have Kl:∀q∈x.es,q.iq.length<2000:=λq hq=>hx.nh q.p (List.mem_map.2 ⟨q,hq,rfl⟩);generalize hu2:Lr.ke k x.l (goal,KJ)=u at s hm hc hh h hu⊢;obtain⟨⟨slot,had,out⟩,l'⟩:=u;subst hm;have s:=s;have kl:=(aL s (i:=4) rfl xj (by decide)).len;refine ah (lS s 3 rfl ?_);by_cases hm:m=x.l.length
 ·obtain⟨_,e1,e2,e3⟩:m=x.l.length/\had=false/\out=false/\l'.length=x.l.length+1:=by
   rcases hc with hc|hc
   ·exact hc
   ·omega
  subst e1 e2;rw[show((m:Int)==(r.n:Int))=true from beq_iff_eq.2 (by rw[hm,<-hlen,<-kl]),cond_true];refine ah (lS s 3 rfl ?_);refine aS s λb w s=>?_;have src:Src w (sZ b) 1 4 (DY G8):=⟨rfl,aow _,λj u hj=>by rw[cf,Nat.zero_add];exact c9 s (i:=0) rfl rfl hj⟩;refine iH dU s (i:=5) rfl rfl rfl rfl rfl rfl (by decide) rfl src (by simp[maxLen];omega) (by show(r.n+1)*80<=_;omega) (λe=>by cases e) λa1 c1 w s=>?_;rw[show flat DY x.es++DY G8=flat DY (x.es++[G8])from by rw[gG];simp[flat]]at s;refine ah (sT s 4 rfl λw s=>?_);have s:=aqU (ai s);have s:Sep F W w (U3 ⟨r.p,r.lp,lr',a1,r.n+1,c1⟩ k ⟨l',x.es++[G8],x.b,x.h,x.st,x.ev⟩ rb tb tw th ca cn cc L):=by apply cE s;show List.Perm _ (_::_::_::_::_::((x.es++[G8]).map Fz++L));rw[List.map_append,List.append_assoc];exact(List.perm_middle (l₁:=[_,_,_,_,_]++x.es.map Fz)).symm
  refine ams (r:=⟨r.p,r.lp,lr',a1,r.n+1,c1⟩) (x:=⟨l',x.es++[G8],x.b,x.h,x.st,x.ev⟩) hT hok hnd pI hC hX (by show m<(x.es++[G8]).length;rw[List.length_append];simp;omega) ⟨hx.b,hx.h,hx.st,hx.ev⟩ (λe=>by cases e) ?_ s ?_
  ·intro q hq;rcases List.mem_append.1 hq with hq|hq
   ·exact Kl q hq
   ·rw[List.mem_singleton]at hq;rw[hq];exact Nat.zero_lt_succ _
  ·intro x' da dc ra rc w' e1 e2 s;refine h ⟨r.p,r.lp,lr',a1,r.n+1,c1⟩ x' da dc ra rc w' rfl ?_ s;rw[e2];rw[BH,hxl,hu2];simp only;have e3:(m:Int)=(x.p.es.length:Int):=by rw[hp];omega
   rw[if_pos e3];have:(x.p.es++[YF])=RS.es (z6.p ⟨l',x.es++[G8],x.b,x.h,x.st,x.ev⟩):=by show(x.es.map yJ.p)++_=(x.es++[G8]).map yJ.p;rw[List.map_append];rfl
   rw[this];rfl
 ·rw[show((m:Int)==(r.n:Int))=false from beq_eq_false_iff_ne.2 (by omega),cond_false];refine ams (r:=⟨r.p,r.lp,lr',r.a,r.n,r.c⟩) hT hok hnd pI hC hX (by show m<x.es.length;omega) hu ?_ Kl s ?_
  ·intro e q hq e1 e2;have:=hh e q.p (by show(x.es.map yJ.p)[m]? =_;rw[List.getElem?_map,hq];rfl) e1 e2
   exact this
  ·intro x' da dc ra rc w' e1 e2 s;refine h ⟨r.p,r.lp,lr',r.a,r.n,r.c⟩ x' da dc ra rc w' rfl ?_ s;rw[e2];rw[BH,hxl,hu2];simp only;have e3:¬(m:Int)=(x.p.es.length:Int):=by rw[hp];omega
   rw[if_neg e3];rfl
end
end Go.Proofs.YtmegplnmiepfbaaGreatDoor.S
namespace Go.Proofs.YtmegplnmiepfbaaGreatDoor.S.Lr
open Go.Sx
def amu {l:KS}(hnd:(l.map (·.1)).Nodup){p:(Int×Int)×Nat}(hp:p∈l):VE l p.1=p.2:=by rw[VE,W0 hnd hp]
def aoB {l:KS}{key:Int×Int}(h:∀p∈l,p.1≠key):VE l key=-1:=by unfold VE;grind
def adB {l:KS}(h:(l.map (·.2)).Nodup){p q:(Int×Int)×Nat}(hp:p∈l)(hq:q∈l)(e:p.2=q.2):p=q:=by
 induction l with
 |nil=>cases hp
 |cons x l ih=>
  grind
structure Used (l l':KS) (key:Int×Int) (k:Int) (s:Int) (had out:Bool):Prop where
 good:Good k l'
 slot:∃m:Nat,s=m/\(key,m)∈l'
 avP:had=decide (VE l key≥0)
 hit:had=true->s=VE l key/\out=false
 mem:∀p:(Int×Int)×Nat,p.1≠key->(p∈l'↔p∈l/\(out=true->(p.2:Int)≠s))
 off:∀p∈l,p.1≠key->(p.2:Int)=s->out=true
def used {k:Int}{l:KS}{key:Int×Int}(hk:1<=k)(h:Good k l):Used l (ke k l key).2 key k (ke k l key).1.1 (ke k l key).1.2.1 (ke k l key).1.2.2:=by
 have hg:=Yx (key:=key) hk h;unfold ke at hg⊢;cases hf:l.find? (λp=>decide (p.1=key))with
 |some q=>
  rw[hf]at hg;obtain⟨rfl,hq⟩:=Ml hf;simp only at hg⊢;have hfq:=amu h.Eu hq;refine⟨hg,⟨q.2,rfl,List.mem_cons_self⟩,by grind,λ_=>⟨hfq.symm,rfl⟩,λp hp=>?_,λp hp hne e=>?_⟩
  ·grind
  ·exact(hne (by rw[adB h.nd hp hq (by omega)])).elim
 |none=>
  have hn:=adu hf;have hfn:=aoB hn;rw[hf]at hg;by_cases hroom:(l.length:Int)<k
  ·rw[if_pos hroom]at hg⊢;refine⟨hg,⟨l.length,rfl,List.mem_cons_self⟩,by rw[hfn];rfl,(λh=>by cases h),λp hp=>?_,λp hp hne e=>?_⟩
   ·grind
   ·have:=h.lt p hp;grind
  ·rw[if_neg hroom]at hg⊢;have hne:l≠[]:=λe=>by grind
   obtain⟨ys,q,rfl⟩:∃ys q,l=ys++[q]:=⟨l.dropLast,l.getLast hne,(List.dropLast_concat_getLast hne).symm⟩;rw[List.getLast?_concat,List.dropLast_concat]at hg⊢;simp only at hg⊢;refine⟨hg,⟨q.2,rfl,List.mem_cons_self⟩,by rw[hfn];rfl,(λh=>by cases h),λp hp=>?_,λp hp hne e=>rfl⟩;rw[List.mem_cons];constructor
   ·rintro (e|h1)
    ·grind
    ·refine⟨by simp[h1],λ_ e=>?_⟩;have e1:=adB h.nd (p:=p) (q:=q) (by simp[h1]) (by simp) (by omega);subst e1;have:=h.Eu;grind
   grind
end Go.Proofs.YtmegplnmiepfbaaGreatDoor.S.Lr
namespace Go.Proofs.YtmegplnmiepfbaaGreatDoor.S
open Go.Sx
attribute [local irreducible] af cq bq bf aB bY bT St Bx Al App cu cg b_ bR aK bw aq bP av aj aU mapA
def Q_ (V:Int×Int->CV->Prop)(y:RS):Prop:=∀key i q,(key,i)∈y.l->y.es[i]? =some q->V key q
def adC {V:Int×Int->CV->Prop}{b h st ev:Int}:Q_ V ⟨[],[],b,h,st,ev⟩:=λ_ _ _ h=>by cases h
def aj3 {V V':Int×Int->CV->Prop}{y:RS}(h:Q_ V y)(hv:∀key q,V key q->V' key q):Q_ V' y:=λkey i q h1 h2=>hv _ _ (h key i q h1 h2)
def agM {k:Int}{y:RS}{key:Int×Int}{V:Int×Int->CV->Prop}(h:acn k y)(hr:Q_ V y){q:CV}(hh:(Lr.ke k y.l key).1.2.1=true)(hq:y.es[(Lr.ke k y.l key).1.1.toNat]? =some q):V key q:=by have hu:=Lr.used (key:=key) h.one h.good;have h2:=hu.avP;rw[hh]at h2;obtain⟨m,hm,hl⟩:=hu.slot;refine hr key m q ?_ (by grind);unfold Lr.ke at hm hh;grind
def amv {k:Int}{y:RS}{key:Int×Int}{V:Int×Int->CV->Prop}{q:CV}(h:acn k y)(hr:Q_ V y)(hv:V key q):Q_ V (BH k y key q):=by
 have hu:=Lr.used (key:=key) h.one h.good;obtain⟨m,hm,hc⟩:=VF h.one h.good;have hlen:=h.len;have W5:∀(i:Nat) (e:CV),i≠m\/(Lr.ke k y.l key).1.2.1=true->i<y.l.length->(if(Lr.ke k y.l key).1.1=(y.es.length:Int)then y.es++[YF]else y.es)[i]? =some e->y.es[i]? =some e:=by grind
 have other:∀key' i,key'≠key->(key',i)∈(Lr.ke k y.l key).2->(key',i)∈y.l/\i≠m/\i<y.l.length:=by intro key' i hne hmem;have h1:=(hu.mem (key',i) hne).1 hmem;refine⟨h1.1,λe=>?_,h.good.lt _ h1.1⟩;subst e;have h2:=hu.off _ h1.1 hne (by rw[hm]);grind
 have same:∀i,(key,i)∈(Lr.ke k y.l key).2->i=m:=by intro i hmem;obtain⟨m',h1,h2⟩:=hu.slot;have:=Lr.Q3 hu.good.Eu hmem h2 rfl;grind
 unfold BH;simp only;generalize (if(Lr.ke k y.l key).1.1=(y.es.length:Int)then y.es++[YF]else y.es)=W7 at W5⊢;split
 ·rename_i hit;unfold U2 at hit;rw[Bool.and_eq_true]at hit;intro key' i e hmem he;by_cases hk:key'=key
  ·subst hk;have hi:=same i hmem;subst hi;have hlt:i<y.l.length:=by grind
   have h1:=W5 i e (.inr hit.1) hlt he;exact agM h hr hit.1 (by grind)
  ·obtain⟨h1,h2,h3⟩:=other key' i hk hmem;exact hr key' i e h1 (W5 i e (.inl h2) h3 he)
 ·intro key' i e hmem he;rw[hm,Int.toNat_natCast]at he;by_cases hk:key'=key
  ·subst hk;have hi:=same i hmem;subst hi;rw[List.getElem?_set]at he;split at he
   ·split at he
    ·cases he;exact hv
    ·cases he
   ·rename_i hne;exact(hne rfl).elim
  ·obtain⟨h1,h2,h3⟩:=other key' i hk hmem;rw[List.getElem?_set_ne (λe=>h2 e.symm)]at he;exact hr key' i e h1 (W5 i e (.inl h2) h3 he)
section
variable {F:Nat->Prop}{W w w0:World}{L:List As}{r:U1}{k:Int}{x:z6}
def aav {Q:Option Addr->World->Prop}(s:Sep F W w L)(hno:k<1->Q none w)(h:1<=k->∀r w',Sep F W w' (jG r k ⟨[],[],0,0,0,0⟩::L)->Q (sZ r.p) w'):EU k w Q:=by
 apply Zl;by_cases hk:k<1
 ·grind
 ·rw[bp hk];refine Lr.al9 s (λe=>(hk e).elim) λ_ lp lr w s=>?_;refine aS s λp w s=>?_;refine h (by omega) ⟨p,lp,lr,none,0,0⟩ w (G9 ?_);exact cE (bE s 303 4) ((List.Perm.swap _ _ _).trans (List.Perm.cons _ (List.Perm.swap _ _ _)))
def Nh {Q:World->Prop}(hk:1<=k)(s:Sep F W w (jG r k x::L))(h:∀r' w',r'.p=r.p->Sep F W w' (jG r' k ⟨[],[],x.b,x.h,x.st,x.ev⟩::L)->Q w'):pR (sZ r.p) w Q:=by apply Lc;have s:=aau s;have s:=s;refine isS (ah (lP s 0 rfl ?_));have s:=gH s (.cons_cons _ (.cons_cons _ (.cons _ (List.sublist_append_right _ _))));have s:=(Lr.agw (jm s)).2;have s:=gH s (.cons_cons _ (.cons _ (.cons _ (List.Sublist.refl _))));refine Lr.W3 hk s λlr w s=>?_;refine ah (sT s 1 rfl λw s=>?_);refine h ⟨r.p,r.lp,lr,none,0,0⟩ w rfl (G9 ?_);exact cE (bE s 303 4) ((List.Perm.cons _ (List.Perm.swap _ _ _)).trans ((List.Perm.swap _ _ _).trans (List.Perm.cons _ (List.Perm.swap _ _ _))))
def aj4 {i:Nat}(s:Sep F W w L)(hi:L[i]? =some (jG r k x)):ri w r.p (FA r x):=kK (Hr s hi) (i:=0) rfl
def ay9:zc T 32=[.int .u64 0,.int .u64 0,.int .u64 0,.int .u64 0,.int .u64 0,.int .u64 0]:=rfl
def agN {p:Nat}{v0 v1 v2 v3 v4 v5:Value}{a b c d e f:Int}{Q:Int->Int->Int->Int->Int->Int->World->Prop}(s:Sep F W w (av p 32 [v0,v1,v2,v3,v4,v5]::L))(h:∀w',Sep F W w' (av p 32 [.int .u64 a,.int .u64 b,.int .u64 c,.int .u64 d,.int .u64 e,.int .u64 f]::L)->Q a b c d e f w'):
  St ((aZ p).add 0) (.int .u64 a) w λw=>St ((aZ p).add 1) (.int .u64 b) w λw=>St ((aZ p).add 2) (.int .u64 c) w λw=>St ((aZ p).add 3) (.int .u64 d) w λw=>St ((aZ p).add 4) (.int .u64 e) w λw=>St ((aZ p).add 5) (.int .u64 f) w λw=>
   af .u64 ((aZ p).add 0) w λa=>af .u64 ((aZ p).add 1) w λb=>af .u64 ((aZ p).add 2) w λc=>af .u64 ((aZ p).add 3) w λd=>af .u64 ((aZ p).add 4) w λe=>af .u64 ((aZ p).add 5) w λf=>Q a b c d e f w:=by
 refine sT s 0 rfl λw s=>?_;refine sT s 0 rfl λw s=>?_;refine sT s 0 rfl λw s=>?_;refine sT s 0 rfl λw s=>?_;refine sT s 0 rfl λw s=>?_;refine az s (i:=0) rfl rfl rfl λw s=>?_;exact lI s 0 rfl (lI s 0 rfl (lI s 0 rfl (lI s 0 rfl (lI s 0 rfl (lI s 0 rfl (h w s))))))
def ah2 {Q:Int->Int->Int->Int->Int->Int->World->Prop}(s0:Sep F W w L)(kb:ri w r.p (FA r x))(h:∀w',Sep F W w' L->Fr No w w'->Q 0 0 x.b x.h x.st x.ev w'):vu (sZ r.p) w Q:=by apply K9;refine aY (bt (F:=No)) λp w1 s1=>?_;have kb1:=kb.fr (au s1);refine l9 (ah ?_);refine aQ (kb1 2 _ rfl) (aQ (kb1 3 _ rfl) (aQ (kb1 4 _ rfl) (aQ (kb1 5 _ rfl) (aQ (kb1 6 _ rfl) (aQ (kb1 7 _ rfl) ?_)))));exact agN s1 λw' s'=>h w' (fP s0 (ai s')) (au s')
end
end Go.Proofs.YtmegplnmiepfbaaGreatDoor.S
namespace Go.Proofs.YtmegplnmiepfbaaGreatDoor.S
open Go.Sx
def Jj (m:bN)(c x:Int):bN:=⟨m.w,m.h,m.cs.set c.toNat x⟩
section
variable {m:bN}{g:gU}{ce x c sc:Int}
def amw (hc:0<=ce/\ce<m.cs.length):cH (Jj m ce x) c=if c=ce then x else cH m c:=by
 unfold cH Jj;simp[List.length_set];by_cases e:c=ce
 ·subst e;unfold gi;grind
 ·by_cases h:0<=c/\c<m.cs.length
  ·unfold gi;grind
  grind
def aoC (hm:c7 m)(hc:bC m.w m.h ce):0<=ce/\ce<m.cs.length:=⟨hc.2.1,by have:=hm.len;have:=hc.2.2;omega⟩
def agO (hm:c7 m)(hc:bC m.w m.h ce)(hne:cO m c≠cO m ce):cH (Jj m ce x) c=cH m c:=by rw[amw (aoC hm hc),if_neg λe=>hne (by rw[e])]
def adD (hm:c7 m)(hs:dA m.w m.h sc)(hc:bC m.w m.h ce)(hne:sc≠cO m ce):dx (Jj m ce x) sc=dx m sc:=by
 refine List.map_congr_left λl hl=>?_;have hl:=List.mem_range.1 hl;have hl:(0:Int)<=(l:Int)/\(l:Int)<aD m.w m.h sc*bu m.w m.h sc:=by have e:(Jj m ce x).w=m.w/\(Jj m ce x).h=m.h:=⟨rfl,rfl⟩;grind
 exact agO hm hc (by show aC m.w m.h (bS m.w m.h sc l)≠_;rw[iA hs hl];exact hne)
def aaw (hm:c7 m)(hs:dA m.w m.h sc)(hc:bC m.w m.h ce)(hne:sc≠cO m ce):aT (Jj m ce x) sc=aT m sc:=by
 rw[nodes_eq,nodes_eq];congr 1;show((List.range (aD m.w m.h sc*bu m.w m.h sc).toNat).filter λl=>xI m.w m.h sc 4 l&&eU (Jj m ce x) (bS m.w m.h sc l))=_;refine List.filter_congr λl hl=>?_;have hl:=List.mem_range.1 hl;have hl:(0:Int)<=(l:Int)/\(l:Int)<aD m.w m.h sc*bu m.w m.h sc:=by omega
 unfold eU;rw[agO hm hc (by show aC m.w m.h (bS m.w m.h sc l)≠_;rw[iA hs hl];exact hne)]
def amx (hm:c7 m)(hs:dA m.w m.h sc)(hc:bC m.w m.h ce)(hne:sc≠cO m ce):jt (Jj m ce x) sc=jt m sc:=by unfold jt iD;rw[adD hm hs hc hne,aaw hm hs hc hne];rfl
def agP (hg:wD g)(hc:bC g.m.w g.m.h ce){i:Nat}:gi (wF g ce x).vs i=if(i:Int)=cO g.m ce then g.ep+1 else gi g.vs i:=by
 have hr:=bQ hc;have hl:=hg.len;unfold wF gi cO;by_cases e:(i:Int)=aC g.m.w g.m.h ce
 ·have e1:(aC g.m.w g.m.h ce).toNat=i:=by omega
  have e2:(aC g.m.w g.m.h ce).toNat<g.vs.length:=by have:=hr.2;omega
  grind
 ·have e1:¬(aC g.m.w g.m.h ce).toNat=i:=by have:=hr.2.1;omega
  grind
def amy {ms:mU}(hg:wD g)(hc:bC g.m.w g.m.h ce)(I:xJ g ms):xJ (wF g ce x) ms:=by
 have hlen:=I.len;refine⟨I.len,⟨by have:=I.old.1;show _<=g.ep+1;omega,λq hq=>by have:=I.old.2 q hq;show _<=g.ep+1;omega⟩,λe=>by have:=I.old.1;have e:ms.clean=g.ep+1:=e;omega,λi q hq hv=>?_,I.u⟩;rw[agP hg hc]at hv;have hqe:=I.old.2 q (List.mem_of_getElem? hq);split at hv
 ·omega
 ·rename_i hne;have hi:=(List.getElem?_eq_some_iff.1 hq).1;have hs:dA g.m.w g.m.h i:=⟨hg.iU,by omega,by omega⟩;have h:=I.ok i q hq hv;have e1:aT (wF g ce x).m i=aT g.m i:=aaw hg.may hs hc hne;have e2:jt (wF g ce x).m i=jt g.m i:=amx hg.may hs hc hne;grind
def amz {f:Fy}(J:aas g f):aas (wF g ce x) f:=
 ⟨λq hq=>⟨by have:=(J.kept q hq).1;show _<=g.ep+1;omega,λe=>by have:=(J.kept q hq).1;have e:q.2.ep=g.ep+1:=e;omega⟩,J.u⟩
def agQ (g:gU)(key:Int×Int)(q:CV):Prop:=q.eO<=g.ep/\dA g.m.w g.m.h key.2/\(q.eO=yD g key.2->q.ds=jd (aD g.m.w g.m.h key.2) (bu g.m.w g.m.h key.2) (dx g.m key.2) q.iq/\q.rs=nj (aD g.m.w g.m.h key.2) (bu g.m.w g.m.h key.2) (dx g.m key.2) q.iq)
def aj5 (hg:wD g)(hc:bC g.m.w g.m.h ce){key:Int×Int}{q:CV}(h:agQ g key q):agQ (wF g ce x) key q:=by
 obtain⟨h1,h2,h3⟩:=h;refine⟨by show _<=g.ep+1;omega,h2,λhv=>?_⟩;have hl:=hg.len;have hk:=h2.2;have e:yD (wF g ce x) key.2=gi (wF g ce x).vs key.2.toNat:=by rw[yD,if_pos];refine⟨hk.1,?_⟩;show key.2<((g.vs.set _ _).length:Int);grind
 have e':yD g key.2=gi g.vs key.2.toNat:=by unfold yD;omega
 rw[e,agP hg hc]at hv;split at hv
 ·omega
 ·rw[<-e']at hv;have h4:=h3 hv;have et:dx (wF g ce x).m key.2=dx g.m key.2:=adD hg.may h2 hc (by omega);rw[et];exact h4
end
end Go.Proofs.YtmegplnmiepfbaaGreatDoor.S
namespace Go.Proofs.YtmegplnmiepfbaaGreatDoor.S
open Go.Sx
open Go.Extern
section
variable {w:World}
def rt (n:Nat):Value:=.agg #[.pointer (some ⟨8,n,none⟩)]
def adE (v:Value)(w:World):(ReflectliteType.typeOf #[.iface 401 v]).run P w=.ok (.iface 219 (rt 401)) w:=by kernel_rfl
def aiR (w:World):((ReflectliteType.method λt=>do Rtype.noPackHeld "Comparable" t;pure (.bool (<-typeInfo t).comparable)) #[rt 401]).run P w=.ok (.bool true) w:=by kernel_rfl
def agR (v:Value)(w:World):(Go.method (P.types.size+Made.depth) 219 v "Comparable").run P w=.ok (311,v) w:=by kernel_rfl
def Ra (v:Value)(w:World):(ReflectliteType.typeOf #[.iface 78 v]).run P w=.ok (.iface 219 (rt 78)) w:=by kernel_rfl
def FB (v:Value)(w:World):(ReflectliteType.typeOf #[.iface 108 v]).run P w=.ok (.iface 219 (rt 108)) w:=by kernel_rfl
def FC (t:Addr)(w:World):(ReflectliteValue.unpack (.iface 120 (.pointer (some t)))).run P w
 =.ok (.agg #[.pointer (some ⟨8,120,none⟩),.pointer (sZ w.heap.size),.int .u64 150]) (w.alloc (.cells #[.pointer (some t)] 120)):=by kernel_rfl
def Dh (n:Int)(w:World):(ReflectliteValue.unpack (.iface 108 (ae n))).run P w
 =.ok (.agg #[.pointer (some ⟨8,108,none⟩),.pointer (sZ w.heap.size),.int .u64 130]) (w.alloc (.cells #[ae n] 108)):=by kernel_rfl
def Pf (a:Addr)(w:World):(ReflectliteValue.methodAny (ReflectliteValue.valueError "reflectlite.Value.Type" 0) (λt _ _ _=>ReflectliteType.toType t) #[.agg #[.pointer (some ⟨8,120,none⟩),.pointer (some a),.int .u64 150]]).run P w
 =.ok (.iface 219 (rt 120)) w:=by kernel_rfl
def GQ (h:Value)(w:World):(Go.method (P.types.size+Made.depth) 219 (.agg #[h]) "Kind").run P w=.ok (297,h) w:=by kernel_rfl
def KK (w:World):((ReflectliteType.abiMethod λt=>(λa:Nat=>Value.int IntKind.u8 (a:Int))<$>Rtype.kind t) #[.pointer (some ⟨8,120,none⟩)]).run P w=.ok (.int .u8 22) w:=by kernel_rfl
def KM (w:World):((ReflectliteType.abiMethod λt=>(λa:Nat=>Value.int IntKind.u8 (a:Int))<$>Rtype.kind t) #[.pointer (some ⟨8,108,none⟩)]).run P w=.ok (.int .u8 2) w:=by kernel_rfl
def YG (h:Value)(w:World):(Go.method (P.types.size+Made.depth) 219 (.agg #[h]) "Elem").run P w=.ok (312,.agg #[h]) w:=by kernel_rfl
def aco (h:Value)(w:World):(Go.method (P.types.size+Made.depth) 219 (.agg #[h]) "Implements").run P w=.ok (313,.agg #[h]) w:=by kernel_rfl
def Pg (h:Value)(w:World):(Go.method (P.types.size+Made.depth) 219 (.agg #[h]) "AssignableTo").run P w=.ok (310,.agg #[h]) w:=by kernel_rfl
def Ph (w:World):(ReflectliteType.method ReflectliteType.elem #[rt 120]).run P w=.ok (.iface 219 (rt 108)) w:=by kernel_rfl
def U5 (w:World):(ReflectliteType.relation "Implements" ReflectliteType.implements_ #[rt 108,.iface 219 (rt 74)]).run P w=.ok (.bool true) w:=by kernel_rfl
def acp (w:World):(ReflectliteType.relation "AssignableTo" ReflectliteType.assignableTo #[rt 78,.iface 219 (rt 108)]).run P w=.ok (.bool false) w:=by kernel_rfl
def Pj (w:World):(ReflectliteType.relation "AssignableTo" ReflectliteType.assignableTo #[rt 108,.iface 219 (rt 108)]).run P w=.ok (.bool true) w:=by kernel_rfl
def acq (v:Value)(w:World):(Go.method (P.types.size+Made.depth) 78 v "Unwrap").run P w=.ok (302,v) w:=by kernel_rfl
def aqV (v:Value)(w:World):(Go.method (P.types.size+Made.depth) 273 v "Unwrap").run P w=.ok (325,v) w:=by kernel_rfl
end
set_option maxRecDepth 20000
def jH {f:Nat}{e:Array Value->Sem Value}{args:Array Value}{w w':World}{v:Value}{K:Value->World->Prop}(h:∀args w,(callFunc f args).run P w=((e args).run P w).andThen λv w'=>.ok (.value v) w')(he:(e args).run P w=.ok v w')(k:K v w'):sK P f args w K:=by unfold sK;simp_all
def cxP (n:Nat):(cx n).P=P:=rfl
def mE {n f:Nat}{e:Array Value->Sem Value}{t:TypeId}{v rv:Value}{name:String}{args:List Value}{w w':World}{r:Value}{K:Value->World->Prop}(hm:∀w,(Go.method (P.types.size+Made.depth) t v name).run P w=.ok (f,rv) w)(hf:oB f fns=false)
  (h:∀args w,(callFunc f args).run P w=((e args).run P w).andThen λv w'=>.ok (.value v) w')(he:(e (#[].toList++(rv::args)++#[].toList).toArray).run P w=.ok r w')(k:K r w'):xN (cx n) (.iface t v) name args w K:=by
 refine⟨f,rv,hm w,?_⟩;unfold gQ;simp only[cxF,cxP,hf,cond_false];exact jH h he k
def x95 (args:Array Value)(w:World):(callFunc 95 args).run P w=((ReflectliteType.typeOf args).run P w).andThen λv w'=>.ok (.value v) w':=run_callFunc_extern Go.Proofs.Tryz.func95 (by kernel_rfl) (by kernel_rfl) (by kernel_rfl) (by kernel_rfl) args w
def asM (args:Array Value)(w:World):(callFunc 311 args).run P w=((ReflectliteType.method (λt=>do Rtype.noPackHeld "Comparable" t;pure (.bool (<-typeInfo t).comparable)) args).run P w).andThen λv w'=>.ok (.value v) w':=run_callFunc_extern Go.Proofs.Tryz.func311 (by kernel_rfl) (by kernel_rfl) (by kernel_rfl) (by kernel_rfl) args w
def amA:oB 311 fns=false:=by kernel_rfl
def amB:(P.info? 401).map (·.comparable)=some true:=by kernel_rfl
def amC:(P.info? 422).map (·.size)=some 1:=by kernel_rfl
def asN {tx ty:Nat}{vx vy:Value}{x y:Operand}{w:World}{K:Bool->World->Prop}(hne:tx≠ty)(h:K false w):bR P .eql 74 x y (.iface tx vx) (.iface ty vy) w K:=by unfold bR aK;rw[show(eqGuard .eql 74 x y (.iface tx vx) (.iface ty vy))=pure ()from rfl];simp[Sem.run_bind,Sem.run_pure,Result.andThen_ok,run_eql_iface_types tx ty vx vy Go.Proofs.Tryz.underlying74 hne w];exact h
def U6 {a:Addr}{x y:Operand}{w:World}{K:Bool->World->Prop}(h:K true w):bR P .eql 74 x y (.iface 401 (.pointer (some a))) (.iface 401 (.pointer (some a))) w K:=by obtain⟨i,hi,hcmp⟩:=Option.map_eq_some_iff.1 amB;obtain⟨j,hj,hjs⟩:=Option.map_eq_some_iff.1 amC;unfold bR aK;rw[show(eqGuard .eql 74 x y (.iface 401 (.pointer (some a))) (.iface 401 (.pointer (some a))))=pure ()from rfl];simp[Sem.run_bind,Sem.run_pure,Result.andThen_ok,run_eql_iface_ptr_same w a Go.Proofs.Tryz.underlying74 Go.Proofs.Tryz.underlying401 hi hcmp hj];exact h
def aax {a b:Addr}{ca cb:Array Value}{ta tb:TypeId}{x y:Operand}{w:World}{K:Bool->World->Prop}(hne:a≠b)(ha:w.heap[a.block]? =some (.cells ca ta (0,0)))(hb:w.heap[b.block]? =some (.cells cb tb (0,0)))(h:K false w):bR P .eql 74 x y (.iface 401 (.pointer (some a))) (.iface 401 (.pointer (some b))) w K:=by obtain⟨i,hi,hcmp⟩:=Option.map_eq_some_iff.1 amB;obtain⟨j,hj,hjs⟩:=Option.map_eq_some_iff.1 amC;unfold bR aK;rw[show(eqGuard .eql 74 x y (.iface 401 (.pointer (some a))) (.iface 401 (.pointer (some b))))=pure ()from rfl];simp[Sem.run_bind,Sem.run_pure,Result.andThen_ok,run_eql_iface_ptr_other w Go.Proofs.Tryz.underlying74 Go.Proofs.Tryz.underlying401 hi hcmp hj (by omega) hne ha hb];exact h
def asO {t:Nat}(ht:t=401\/t=78\/t=108\/t=273)(v:Value)(xT:TypeId)(w:World):(Instr.typeAssert (.iface t v) xT 221 true).run P w=.ok (.tuple #[.nilIface,.bool false]) w:=by
 rcases ht with rfl|rfl|rfl|rfl
 ·exact run_typeAssert_lacksB Go.Proofs.Tryz.underlying221 (by kernel_rfl) (by kernel_rfl) v xT w
 ·exact run_typeAssert_lacksB Go.Proofs.Tryz.underlying221 (by kernel_rfl) (by kernel_rfl) v xT w
 ·exact run_typeAssert_lacksB Go.Proofs.Tryz.underlying221 (by kernel_rfl) (by kernel_rfl) v xT w
 ·exact run_typeAssert_lacksB Go.Proofs.Tryz.underlying221 (by kernel_rfl) (by kernel_rfl) v xT w
def avQ {t:Nat}(ht:t=78\/t=108)(v:Value)(xT:TypeId)(w:World):(Instr.typeAssert (.iface t v) xT 231 true).run P w=.ok (.tuple #[.nilIface,.bool false]) w:=by
 rcases ht with rfl|rfl
 ·exact run_typeAssert_lacksB Go.Proofs.Tryz.underlying231 (by kernel_rfl) (by kernel_rfl) v xT w
 ·exact run_typeAssert_lacksB Go.Proofs.Tryz.underlying231 (by kernel_rfl) (by kernel_rfl) v xT w
def avR {t:Nat}(ht:t=401\/t=108)(v:Value)(xT:TypeId)(w:World):(Instr.typeAssert (.iface t v) xT 224 true).run P w=.ok (.tuple #[.nilIface,.bool false]) w:=by
 rcases ht with rfl|rfl
 ·exact run_typeAssert_lacksB Go.Proofs.Tryz.underlying224 (by kernel_rfl) (by kernel_rfl) v xT w
 ·exact run_typeAssert_lacksB Go.Proofs.Tryz.underlying224 (by kernel_rfl) (by kernel_rfl) v xT w
def atP {t:Nat}(ht:t=401\/t=108)(v:Value)(xT:TypeId)(w:World):(Instr.typeAssert (.iface t v) xT 226 true).run P w=.ok (.tuple #[.nilIface,.bool false]) w:=by
 rcases ht with rfl|rfl
 ·exact run_typeAssert_lacksB Go.Proofs.Tryz.underlying226 (by kernel_rfl) (by kernel_rfl) v xT w
 ·exact run_typeAssert_lacksB Go.Proofs.Tryz.underlying226 (by kernel_rfl) (by kernel_rfl) v xT w
def apN {t:Nat}(ht:t=78\/t=273)(v:Value)(xT:TypeId)(w:World):(Instr.typeAssert (.iface t v) xT 224 true).run P w=.ok (.tuple #[.iface t v,.bool true]) w:=by
 rcases ht with rfl|rfl
 ·exact run_typeAssert_hasB Go.Proofs.Tryz.underlying224 (by kernel_rfl) v xT w
 ·exact run_typeAssert_hasB Go.Proofs.Tryz.underlying224 (by kernel_rfl) v xT w
end Go.Proofs.YtmegplnmiepfbaaGreatDoor.S
set_option maxRecDepth 20000
namespace Go.Proofs.YtmegplnmiepfbaaGreatDoor.S
open Go.Sx
open Go.Extern
attribute [local irreducible] af cq bq bf aB bY bT St Bx Al App cu cg b_ bR bw aq bP av aj aU mapA
def axz:oB 302 fns=true:=by kernel_rfl
def axA:oB 325 fns=true:=by kernel_rfl
def Aa {s:Sem Value}{w w':World}{v:Value}{K:Value->World->Prop}(h:s.run P w=.ok v w')(k:K v w'):aK P s w K:=by unfold aK;grind
section
variable {w:World}{p n:Nat}{v:Value}
def lZ {ad:Addr}{K:Value->Prop}(h:w.cell? ad=some v)(hp:Value.plain v=true)(k:K v):bT ad w K:=by unfold bT;grind
def sH {t:Nat}{A B:Prop}(h:B):AW (.iface t v) λb=>cond b A B:=h
def Rb {b:Bool}{K:Value->Bool->Prop}(hp:Value.plain v=true)(k:K v b):dT (.tuple #[v,.bool b]) λl=>dg l λv0 l0=>dV v0 λx0=>dg l0 λv1 l1=>dB v1 λx1=>ko l1 (K x0 x1):=by show dV v λx0=>K x0 b;unfold dV;grind
def aay {Q:Value->World->Prop}(hv:w.cell? ((aZ p).add 1)=some v)(hp:Value.plain v=true)(k:Q v w):xN (cx n) (.iface 78 (.pointer (sZ p))) "Unwrap" [] w λv w=>dV v λr=>Q r w:=by
 refine⟨302,_,acq _ w,?_⟩;unfold gQ;have h:E6 (sZ p) w Q:=by apply QJ;refine ah (lZ hv hp ?_);unfold dV;grind
 exact h
def aqW {Q:Value->World->Prop}(hv:w.cell? ((aZ p).add 1)=some v)(hp:Value.plain v=true)(k:Q v w):xN (cx n) (.iface 273 (.pointer (sZ p))) "Unwrap" [] w λv w=>dV v λr=>Q r w:=by
 refine⟨325,_,aqV _ w,?_⟩;unfold gQ;have h:Eg (sZ p) w Q:=by apply OT;refine ah (lZ hv hp ?_);unfold dV;grind
 exact h
def aiS {Q:Bool->World->Prop}{t:Nat}{u target:Value}{c:Bool}(ht:t=401\/t=108){k:Nat}
  (he:∀(x y:Operand) (K:Bool->World->Prop),K c w->bR P .eql 74 x y (.iface t u) target w K)(hQ:Q c w):pG Q (k+1) (.iface t u) target true w:=by
 show zT Q (pG Q k) _ _ _ _;unfold zT;apply he;cases c with
 |true=>exact hQ
 |false=>
  refine Aa (asO (by grind) _ _ _) (Rb rfl ?_);refine Aa (avR ht _ _ _) (Rb rfl ?_);refine Aa (atP ht _ _ _) (Rb rfl ?_);grind
def aqX {Q:Bool->World->Prop}{tw:Nat}{target:Value}{k tt:Nat}{tv:Value}(OV:tw=78\/tw=273)(htg:target=.iface 401 tv)(hv:w.cell? ((aZ p).add 1)=some (.iface tt v))
  (h:pG Q k (.iface tt v) target true w):pG Q (k+1) (.iface tw (.pointer (sZ p))) target true w:=by
 show zT Q (pG Q k) _ _ _ _;unfold zT;subst htg;apply asN (by grind);refine Aa (asO (by grind) _ _ _) (Rb rfl ?_);refine Aa (apN OV _ _ _) (Rb rfl ?_);rcases OV with rfl|rfl
 ·exact aay hv rfl h
 ·exact aqW hv rfl h
def Rc {Q:Bool->World->Prop}{tw tt:Nat}{b:Addr}{c:Bool}(OV:tw=78\/tw=273)(ht:tt=401\/tt=108)(hv:w.cell? ((aZ p).add 1)=some (.iface tt v))
  (he:∀(x y:Operand) (K:Bool->World->Prop),K c w->bR P .eql 74 x y (.iface tt v) (.iface 401 (.pointer (some b))) w K)(hQ:Q c w):
  oK (.iface tw (.pointer (sZ p))) (.iface 401 (.pointer (some b))) w Q:=by
 apply LU;refine sH (sH ?_);apply jH x95 (adE _ w);refine mE (agR _) amA asM (aiR w) ?_;have h:vV (.iface tw (.pointer (sZ p))) (.iface 401 (.pointer (some b))) true w Q:=by apply LS;exact⟨2,aqX OV rfl hv (aiS ht he hQ)⟩
 exact h
end
end Go.Proofs.YtmegplnmiepfbaaGreatDoor.S
set_option maxRecDepth 20000
namespace Go.Proofs.YtmegplnmiepfbaaGreatDoor.S
open Go.Sx
open Go.Extern
def x97 (args:Array Value)(w:World):(callFunc 97 args).run P w=((ReflectliteValue.unpack (args.getD 0 (.tuple #[]))).run P w).andThen λv w'=>.ok (.value v) w':=run_callFunc_extern (e:=λargs=>ReflectliteValue.unpack (args.getD 0 (.tuple #[]))) Go.Proofs.Tryz.func97 (by kernel_rfl) (by kernel_rfl) (by kernel_rfl) (by kernel_rfl) args w
def x98 (args:Array Value)(w:World):(callFunc 98 args).run P w=((ReflectliteValue.methodAny (ReflectliteValue.valueError "reflectlite.Value.Type" 0) (λt _ _ _=>ReflectliteType.toType t) args).run P w).andThen λv w'=>.ok (.value v) w':=run_callFunc_extern Go.Proofs.Tryz.func98 (by kernel_rfl) (by kernel_rfl) (by kernel_rfl) (by kernel_rfl) args w
def x99 (args:Array Value)(w:World):(callFunc 99 args).run P w=((ReflectliteValue.method (ReflectliteValue.valueError "reflectlite.Value.IsNil" 0) ReflectliteValue.isNil args).run P w).andThen λv w'=>.ok (.value v) w':=run_callFunc_extern Go.Proofs.Tryz.func99 (by kernel_rfl) (by kernel_rfl) (by kernel_rfl) (by kernel_rfl) args w
def aoD (args:Array Value)(w:World):(callFunc 138 args).run P w=((ReflectliteValue.method (ReflectliteValue.valueError "reflectlite.Value.Elem" 0) ReflectliteValue.elem args).run P w).andThen λv w'=>.ok (.value v) w':=run_callFunc_extern Go.Proofs.Tryz.func138 (by kernel_rfl) (by kernel_rfl) (by kernel_rfl) (by kernel_rfl) args w
def aoE (args:Array Value)(w:World):(callFunc 139 args).run P w=((ReflectliteValue.set args).run P w).andThen λv w'=>.ok (.value v) w':=run_callFunc_extern Go.Proofs.Tryz.func139 (by kernel_rfl) (by kernel_rfl) (by kernel_rfl) (by kernel_rfl) args w
def acs (args:Array Value)(w:World):(callFunc 297 args).run P w=((ReflectliteType.abiMethod (λt=>do pure (.int .u8 (<-Rtype.kind t))) args).run P w).andThen λv w'=>.ok (.value v) w':=run_callFunc_extern Go.Proofs.Tryz.func297 (by kernel_rfl) (by kernel_rfl) (by kernel_rfl) (by kernel_rfl) args w
def aoF (args:Array Value)(w:World):(callFunc 312 args).run P w=((ReflectliteType.method ReflectliteType.elem args).run P w).andThen λv w'=>.ok (.value v) w':=run_callFunc_extern Go.Proofs.Tryz.func312 (by kernel_rfl) (by kernel_rfl) (by kernel_rfl) (by kernel_rfl) args w
def aoG (args:Array Value)(w:World):(callFunc 313 args).run P w=((ReflectliteType.relation "Implements" ReflectliteType.implements_ args).run P w).andThen λv w'=>.ok (.value v) w':=run_callFunc_extern Go.Proofs.Tryz.func313 (by kernel_rfl) (by kernel_rfl) (by kernel_rfl) (by kernel_rfl) args w
def agT (args:Array Value)(w:World):(callFunc 310 args).run P w=((ReflectliteType.relation "AssignableTo" ReflectliteType.assignableTo args).run P w).andThen λv w'=>.ok (.value v) w':=run_callFunc_extern Go.Proofs.Tryz.func310 (by kernel_rfl) (by kernel_rfl) (by kernel_rfl) (by kernel_rfl) args w
def Pm:oB 297 fns=false:=by kernel_rfl
def agU:oB 312 fns=false:=by kernel_rfl
def agV:oB 313 fns=false:=by kernel_rfl
def U7:oB 310 fns=false:=by kernel_rfl
abbrev vP (a:Addr):Value:=.agg #[.pointer (some ⟨8,120,none⟩),.pointer (some a),.int .u64 150]
abbrev vR (a:Addr):Value:=.agg #[.pointer (some ⟨8,108,none⟩),.pointer (some a),.int .u64 130]
abbrev vE (a:Addr):Value:=.agg #[.pointer (some ⟨8,108,none⟩),.pointer (some a),.int .u64 386]
def rlm (z:Sem Value)(f:TypeId->Addr->Nat->Nat->Sem Value)(v:Value):
 ReflectliteValue.method z f #[v]=(do match<-ReflectliteValue.parts v with|none=>z|some (t,a,fl)=>f t a fl (fl%32)):=rfl
def yY (a:Addr)(w:World):(ReflectliteValue.parts (vP a)).run P w=.ok (some (120,a,150)) w:=by kernel_rfl
def HU (a:Addr)(w:World):(ReflectliteValue.parts (vR a)).run P w=.ok (some (108,a,130)) w:=by kernel_rfl
def HV (a:Addr)(w:World):(ReflectliteValue.parts (vE a)).run P w=.ok (some (108,a,386)) w:=by kernel_rfl
def KN (a p:Addr)(w:World)(ha:w.cell? a=some (.pointer (some p))):(ReflectliteValue.method (ReflectliteValue.valueError "reflectlite.Value.IsNil" 0) ReflectliteValue.isNil #[vP a]).run P w=.ok (.bool false) w:=by rw[rlm];simp[Sem.run_bind,yY,Result.andThen];simp[ReflectliteValue.isNil,loadVar,isAgg,underlying,Go.Proofs.Tryz.underlying120,ha,Result.andThen]
def HW (w:World):(Rtype.elem? 120).run P w=.ok (some 108) w:=by kernel_rfl
def aaz (p:Addr)(w:World):(ReflectliteValue.mk 108 p ReflectliteValue.flagAddr).run P w=.ok (vE p) w:=by kernel_rfl
def KO (a p:Addr)(w:World)(ha:w.cell? a=some (.pointer (some p))):(ReflectliteValue.method (ReflectliteValue.valueError "reflectlite.Value.Elem" 0) ReflectliteValue.elem #[vP a]).run P w=.ok (vE p) w:=by rw[rlm];simp[Sem.run_bind,yY,Result.andThen];simp[ReflectliteValue.elem,loadVar,isAgg,underlying,Go.Proofs.Tryz.underlying120,ha,Result.andThen,HW,aaz]
def rls (v x:Value):ReflectliteValue.set #[v,x]=(do
 let(some (dst,a,fl),some (src,b,_)):=(<-ReflectliteValue.parts v,<-ReflectliteValue.parts x)
  |unsupported (.noEntry "extern/(internal/reflectlite.Value).Set.zeroValue")
 if fl/ReflectliteValue.flagAddr%2==0 then unsupported (.noEntry "extern/(internal/reflectlite.Value).Set.unaddressable")
 let val<-loadVar src b
 if<-Rtype.directlyAssignable dst src then storeVar dst a val
 else if<-Rtype.implements dst src then
  if(<-Rtype.kind src)==20 then
   match val with
   |.nilIface=>unsupported (.noEntry "extern/reflectlite: a nil value of one interface type handed on as a value of another")
   |_=>storeVar dst a val
  else storeVar dst a (.iface src val)
 else panicString ("reflectlite.Set: value of type "++(<-Rtype.spelt src)++ " is not assignable to type "++(<-Rtype.spelt dst))
 pure (.tuple #[])):=rfl
def HX (w:World):(Rtype.directlyAssignable 108 108).run P w=.ok true w:=by kernel_rfl
def U9 (t b:Addr)(n:Int)(old:Value)(w:World)(hb:w.cell? b=some (ae n))(ht:w.cell? t=some old)(hf:w.frozen? t=false):
  (ReflectliteValue.set #[vE t,vR b]).run P w=.ok (.tuple #[]) (w.setCell t (ae n)):=by
 rw[rls];simp[Sem.run_bind,HV,HU,Result.andThen];simp[ReflectliteValue.flagAddr,loadVar,isAgg,underlying,Go.Proofs.Tryz.underlying108,hb,Result.andThen,HX,storeVar,Value.cells,storeCells,Addr.add];rw[run_store P w t _ _ (by rfl)];simp[ht,hf]
end Go.Proofs.YtmegplnmiepfbaaGreatDoor.S
set_option maxRecDepth 20000
namespace Go.Proofs.YtmegplnmiepfbaaGreatDoor.S
open Go.Sx
open Go.Extern
attribute [local irreducible] sK callFunc Sem.run ReflectliteValue.method ReflectliteValue.set ReflectliteValue.unpack ReflectliteType.relation ReflectliteType.typeOf af cq bq bf aB bY bT St App cu cg b_ bR bw aq bP av aj aU mapA
section
variable {F:Nat->Prop}{W w:World}{L:List As}{p r:Nat}{c v0:Int}
def Re {a b:Option Addr}{f:Int}{K:Option Addr->Option Addr->Int->Prop}(k:K a b f):dL (.agg #[.pointer a,.pointer b,.int .u64 f]) λl=>dg l λv0 l0=>dP v0 λa=>dg l0 λv1 l1=>dP v1 λb=>dg l1 λv2 l2=>dI .u64 v2 λf=>ko l2 (K a b f):=k
def aj6 {A B:Prop}(h:A):dB (.bool true) λb=>cond b A B:=h
def acu {A B:Prop}(h:B):dB (.bool false) λb=>cond b A B:=h
def aj7 {A B:Prop}(h:B):dB (.bool true) λb=>cond (!b) A B:=h
def aj8 {A B:Prop}(h:B):dI .u8 (.int .u8 22) λr=>cond (r !=22) A B:=h
def apO {A B:Prop}(h:A):dI .u8 (.int .u8 2) λr=>cond (r !=20) A B:=h
def ayC:zc T 161=[.pointer none,.pointer none,.int .u64 0]:=rfl
def aj9 {ad:Addr}{v:Value}{K:World->Prop}(h:St ad v w K):(∃u,w.cell? ad=some u)/\w.frozen? ad=false/\K (w.setCell ad v):=by unfold St at h;exact h
def Pn {b:Addr}{K:Value->World->Prop}(hb:w.cell? b=some (ae c))(h:St (aZ r) (ae c) w λw=>K (.tuple #[]) w):sK P 139 #[vE (aZ r),vR b] w K:=by obtain⟨⟨u,hu⟩,hf,k⟩:=aj9 h;have he:=U9 (aZ r) b c u w hb hu hf;apply jH (w':=w.setCell (aZ r) (ae c)) aoE he;exact k
def U_ {Q:Bool->World->Prop}{k tb:Nat}{a:Nat}(s:Sep F W w (av tb 161 [.pointer (some ⟨8,120,none⟩),.pointer (sZ a),.int .u64 150]::av a 120 [.pointer (sZ r)]::av r 108 [ae v0]::L))
  (hQ:∀w',Sep F W w' (av r 108 [ae c]::L)->Q true w'){target:Value}:iQ Q (k+1) (.iface 108 (ae c)) target (.iface 219 (rt 108)) (aZ tb) w:=by
 show vK Q (iQ Q k) _ _ _ _ _;apply jH x95 (FB _ w);refine mE (Pg _) U7 agT (Pj w) ?_;apply aj6;refine lP s 0 rfl (lP s 0 rfl (lI s 0 rfl ?_));apply jH aoD (KO (aZ a) (aZ r) w (by have:=c9 s (i:=1) (j:=0) rfl rfl rfl;exact this));apply Re;refine jH x97 (Dh c w) ?_;apply Re;have s2:=sO (ai (ai s)) [ae c] 108;have s2:=s2;apply Pn (c:=c) (by simp_all);refine az s2 (i:=1) rfl rfl rfl λw s=>?_;exact hQ w (ai s)
def agY {Q:Bool->World->Prop}{k tb:Nat}{a:Nat}(s:Sep F W w (av tb 161 [.pointer (some ⟨8,120,none⟩),.pointer (sZ a),.int .u64 150]::av a 120 [.pointer (sZ r)]::av r 108 [ae v0]::L))
  (hv:w.cell? ((aZ p).add 1)=some (.iface 108 (ae c)))
  (hQ:∀w',Sep F W w' (av r 108 [ae c]::L)->Q true w'){target:Value}:iQ Q (k+2) (.iface 78 (.pointer (sZ p))) target (.iface 219 (rt 108)) (aZ tb) w:=by
 show vK Q (iQ Q (k+1)) _ _ _ _ _;apply jH x95 (Ra _ w);refine mE (Pg _) U7 agT (acp w) ?_;apply acu;refine Aa (avQ (.inl rfl) _ _ _) (Rb rfl ?_);refine Aa (apN (.inl rfl) _ _ _) (Rb rfl ?_);exact aay hv rfl (sH (U_ s hQ))
def KQ {Q:Bool->World->Prop}(s:Sep F W w (av r 108 [ae v0]::L))(hv:∀w',Sep F W w' L->w'.cell? ((aZ p).add 1)=some (.iface 108 (ae c)))
  (h1:∀w',Sep F W w' L->w'.cell? (aZ 1)=some (.iface 219 (rt 74)))
  (hQ:∀w',Sep F W w' (av r 108 [ae c]::L)->Q true w'):
  mR (.iface 78 (.pointer (sZ p))) (.iface 120 (.pointer (sZ r))) w Q:=by
 apply Ay;refine sH (sH ?_);refine jH x97 (FC (aZ r) w) ?_;apply Re;have s:=sO s [.pointer (sZ r)] 120;have s:=s;generalize w.heap.size=a at s⊢;generalize w.alloc (.cells #[.pointer (sZ r)] 120)=w1 at s⊢;refine aY s λvb w s=>?_;refine sT s 0 rfl λw s=>?_;refine sT s 0 rfl λw s=>?_;refine az s (i:=0) rfl rfl rfl λw s=>?_;refine lP s 0 rfl (lP s 0 rfl (lI s 0 rfl ?_));apply jH x98 (Pf (aZ a) w);refine mE (GQ _) Pm acs (KK w) ?_;apply aj8;refine lP s 0 rfl (lP s 0 rfl (lI s 0 rfl ?_));apply jH x99 (KN (aZ a) (aZ r) w (by have:=c9 s (i:=1) (j:=0) rfl rfl rfl;exact this));apply acu;refine mE (YG _) agU aoF (Ph w) ?_;refine mE (GQ _) Pm acs (KM w) ?_;apply apO;apply lZ (h1 w (ai (ai (ai s)))) rfl;refine mE (aco _) agV aoG (U5 w) ?_;apply aj7;refine lP s 0 rfl (lP s 0 rfl (lI s 0 rfl ?_));apply E7;have s:=ai s;refine aS s λtb w s=>?_;exact⟨2,agY s (hv w (ai (ai (ai s)))) hQ⟩
end
end Go.Proofs.YtmegplnmiepfbaaGreatDoor.S
namespace Go.Proofs.YtmegplnmiepfbaaGreatDoor.S
open Go.Sx
attribute [local irreducible] af cq bq bf aB bY bT St Bx Al App cu cg b_ bR aK bw aq bP av aj aU mapA
structure yK where
 a0:Addr
 a2:Addr
 a3:Addr
 a4:Addr
 a5:Addr
 a6:Addr
structure iF (w:World) (g:yK):Prop where
 v0:w.cell? (aZ 0)=some (.iface 401 (.pointer (some g.a0)))
 v1:w.cell? (aZ 1)=some (.iface 219 (rt 74))
 v2:w.cell? (aZ 2)=some (.iface 401 (.pointer (some g.a2)))
 v3:w.cell? (aZ 3)=some (.iface 401 (.pointer (some g.a3)))
 v4:w.cell? (aZ 4)=some (.iface 401 (.pointer (some g.a4)))
 v5:w.cell? (aZ 5)=some (.iface 401 (.pointer (some g.a5)))
 v6:w.cell? (aZ 6)=some (.iface 401 (.pointer (some g.a6)))
 n23:g.a2≠g.a3
 n56:g.a5≠g.a6
 b2:∃c t,w.heap[g.a2.block]? =some (.cells c t (0,0))
 b3:∃c t,w.heap[g.a3.block]? =some (.cells c t (0,0))
 b5:∃c t,w.heap[g.a5.block]? =some (.cells c t (0,0))
 b6:∃c t,w.heap[g.a6.block]? =some (.cells c t (0,0))
def VL {w w':World}{k:Nat}{o:Obj}(f:Fr No w w')(h:w.heap[k]? =some o):w'.heap[k]? =some o:=by rw[Fr.block f k (Array.getElem?_eq_some_iff.1 h).1 id];exact h
def iF.fr {w w':World}{g:yK}(k:iF w g)(f:Fr No w w'):iF w' g where
 v0:=Fr.cell f k.v0 id
 v1:=Fr.cell f k.v1 id
 v2:=Fr.cell f k.v2 id
 v3:=Fr.cell f k.v3 id
 v4:=Fr.cell f k.v4 id
 v5:=Fr.cell f k.v5 id
 v6:=Fr.cell f k.v6 id
 n23:=k.n23
 n56:=k.n56
 b2:=let⟨c,t,h⟩:=k.b2;⟨c,t,VL f h⟩
 b3:=let⟨c,t,h⟩:=k.b3;⟨c,t,VL f h⟩
 b5:=let⟨c,t,h⟩:=k.b5;⟨c,t,VL f h⟩
 b6:=let⟨c,t,h⟩:=k.b6;⟨c,t,VL f h⟩
structure Ex where
 a:Int
 b:Int
 c:Int
 d:Int
 e:Int
 f:Int
structure Va (x:Ex):Prop where
 a:Ta.U x.a
 b:Ta.U x.b
 c:Ta.U x.c
 d:Ta.U x.d
 e:Ta.U x.e
 f:Ta.U x.f
def Ex.add (x y:Ex):Ex:=⟨Ta.sat x.a y.a,Ta.sat x.b y.b,Ta.sat x.c y.c,Ta.sat x.d y.d,Ta.sat x.e y.e,Ta.sat x.f y.f⟩
def Va.add {x y:Ex}(hx:Va x)(hy:Va y):Va (x.add y):=⟨Ta.Ft hx.a hy.a,Ta.Ft hx.b hy.b,Ta.Ft hx.c hy.c,Ta.Ft hx.d hy.d,Ta.Ft hx.e hy.e,Ta.Ft hx.f hy.f⟩
def acv (x:Ex):List Value:=[.int .u64 x.a,.int .u64 x.b,.int .u64 x.c,.int .u64 x.d,.int .u64 x.e,.int .u64 x.f]
structure zG where
 p:Nat
 sh:U1
 gr:tJ
 mr:AI
 fp:Nat
structure kj where
 g:gU
 ms:mU
 f:Fy
structure fV where
 k:Int
 x:z6
 o:Option kj
 past:Ex
def FD (r:zG)(y:fV):List Value:=match y.o with
 |some _=>[.pointer (sZ r.gr.p),.pointer (sZ r.mr.p),.pointer (sZ r.fp),.pointer (sZ r.sh.p)]++acv y.past
 |none=>[.pointer none,.pointer none,.pointer none,.pointer (sZ r.sh.p)]++acv y.past
noncomputable def G_ (r:zG)(o:Option kj):List As:=match o with
 |some m=>[nu r.gr m.g,tK r.mr r.gr.p m.ms,tO r.fp r.mr.p r.gr.p m.f]
 |none=>[]
noncomputable def aj_ (r:zG)(y:fV):List As:=av r.p 106 (FD r y)::jG r.sh y.k y.x::G_ r y.o
structure asS (y:fV) (m:kj):Prop where
 g:wD m.g
 I:xJ m.g m.ms
 J:aas m.g m.f
 nh:m.g.m.w*m.g.m.h<=1600
 right:Q_ (agQ m.g) y.x.p
structure FE (y:fV):Prop where
 sh:acn y.k y.x.p
 past:Va y.past
 m:∀m,y.o=some m->asS y m
noncomputable def gP (r:zG)(y:fV):As:=aU (FE y) (aj_ r y)
section
variable {F:Nat->Prop}{W w w0:World}{L:List As}{r:zG}{y:fV}
def BI (s:Sep F W w (gP r y::L)):FE y/\Sep F W w (aj_ r y++L):=iT s
def Vb (s:Sep F W w (aj_ r y++L))(h:FE y):Sep F W w (gP r y::L):=dW s h
noncomputable abbrev YH (r:zG)(past:Ex):As:=av r.p 106 [.pointer (sZ r.gr.p),.pointer (sZ r.mr.p),.pointer (sZ r.fp),.pointer (sZ r.sh.p),.int .u64 past.a,.int .u64 past.b,.int .u64 past.c,.int .u64 past.d,.int .u64 past.e,.int .u64 past.f]
def Ms {m:kj}(ho:y.o=some m)(s:Sep F W w (gP r y::L)):FE y/\Sep F W w (YH r y.past::jG r.sh y.k y.x::nu r.gr m.g::tK r.mr r.gr.p m.ms::tO r.fp r.mr.p r.gr.p m.f::L):=by obtain⟨h,s⟩:=BI s;have s:Sep F W w (av r.p 106 (FD r y)::jG r.sh y.k y.x::(G_ r y.o++L)):=s;unfold FD at s;rw[ho]at s;exact⟨h,s⟩
def Jk {m:kj}{k:Int}{x:z6}{past:Ex}(s:Sep F W w (YH r past::jG r.sh k x::nu r.gr m.g::tK r.mr r.gr.p m.ms::tO r.fp r.mr.p r.gr.p m.f::L))(h:FE ⟨k,x,some m,past⟩):Sep F W w (gP r ⟨k,x,some m,past⟩::L):=
 Vb s h
def aeK {Q:Option Addr->World->Prop}{k:Int}(hk:1<=k/\k<=100000)(s:Sep F W w L)
  (h:∀r x w',x.p=⟨[],[],0,0,0,0⟩->Sep F W w' (gP r ⟨k,x,none,⟨0,0,0,0,0,0⟩⟩::L)->Q (sZ r.p) w'):Ib k w Q:=by
 apply aee;rw[bp];refine aav s (λe=>by omega) λ_ sr w s=>?_;refine aS s λp w s=>?_;have u0:Ta.U 0:=by unfold Ta.U;omega
 refine h ⟨p,sr,⟨0,none,0,0,none,0,0⟩,⟨0,none,0,0⟩,0⟩ _ w rfl (Vb s ⟨⟨hk.1,hk.2,Lr.Kx (k:=k) (by omega),rfl,u0,u0,u0,u0,(λq hq=>by cases hq)⟩,⟨u0,u0,u0,u0,u0,u0⟩,λm e=>by cases e⟩)
structure agZ (w:World) (r:zG) (y:fV) (m:kj):Prop where
 ok:FE y
 o:y.o=some m
 cell:ri w r.p (FD r y)
 g:nv w r.gr m.g
def r8 {m:kj}(s:Sep F W w (gP r y::L))(ho:y.o=some m):agZ w r y m:=by obtain⟨h,s⟩:=BI s;refine⟨h,ho,kK s (i:=0) rfl,?_⟩;have s:Sep F W w (av r.p 106 (FD r y)::jG r.sh y.k y.x::(G_ r y.o++L)):=s;rw[ho]at s;exact oq (ai (ai s))
def agZ.c0 {m:kj}(k:agZ w r y m){j:Nat}{v:Value}(h:([.pointer (sZ r.gr.p),.pointer (sZ r.mr.p),.pointer (sZ r.fp),.pointer (sZ r.sh.p)]++acv y.past)[j]? =some v):w.cell? ((aZ r.p).add j)=some v:=by apply k.cell j v;rw[FD,k.o];exact h
def GR {Q:Int->World->Prop}{m:kj}{c:Int}(k:agZ w r y m)(h:Q (cH m.g.m c) w):qU (sZ r.p) c w Q:=by apply TU;have h0:=k.c0 (j:=0) rfl;exact l9 (ah (dH h0 (ja k.g h)))
def Po {Q:Int->Int->World->Prop}{m:kj}(s0:Sep F W w L)(k:agZ w r y m)(h:∀w',Sep F W w' L->Fr No w w'->Q m.g.m.w m.g.m.h w'):vW (sZ r.p) w Q:=by apply T1;have h0:=k.c0 (j:=0) rfl;exact l9 (ah (dH h0 (jb s0 k.g h)))
def acw {Q:Int->World->Prop}{m:kj}{ce x:Int}(ho:y.o=some m)(he:m.g.ep<1000000000)(s:Sep F W w (gP r y::L))
  (h7:¬bC m.g.m.w m.g.m.h ce->Q 7 w)(h8:bC m.g.m.w m.g.m.h ce->¬(1<=x/\x<=255)->Q 8 w)
  (h0:bC m.g.m.w m.g.m.h ce->1<=x/\x<=255->∀w',Sep F W w' (gP r ⟨y.k,y.x,some ⟨wF m.g ce x,m.ms,m.f⟩,y.past⟩::L)->Q 0 w'):A6 (sZ r.p) ce x w Q:=by
 apply T0;have k:=r8 s ho;obtain⟨hok,s⟩:=Ms ho s;have hm:=hok.m m ho;have c0:=k.c0 (j:=0) rfl;refine l9 (ah (dH c0 ?_));have s:=pk 5 [2,0,1,3,4] s;refine ZO s (by omega) h7 h8 λhc hx w s=>?_;refine h0 hc hx w (Jk (pk 5 [1,2,0,3,4] s) ⟨hok.sh,hok.past,λm' e=>?_⟩);cases e;exact⟨af8 hm.g hx (by omega),amy hm.g hc hm.I,amz hm.J,hm.nh,aj3 hm.right λkey q=>aj5 hm.g hc⟩
def aaA {Q:World->Prop}{m:kj}(ho:y.o=some m)(s:Sep F W w (gP r y::L))
  (h:∀r' x' w',r'.p=r.p->x'.p=⟨[],[],y.x.b,y.x.h,y.x.st,y.x.ev⟩->Sep F W w' (gP r' ⟨y.k,x',some ⟨m.g,m.ms,⟨none,m.f.fH⟩⟩,y.past⟩::L)->Q w'):uM (sZ r.p) w Q:=by
 apply F6;have k:=r8 s ho;obtain⟨hok,s⟩:=Ms ho s;have hm:=hok.m m ho;refine isS (ah (dH (k.c0 rfl) ?_));have s:=jm s;refine Nh hok.sh.one s λsr w e s=>?_;refine ah (lP s 1 rfl ?_);have s:=pk 5 [4,0,1,2,3] s;refine Wz s λw s=>?_;have s:=fQ (A:=[_,_,_,_,_]) (B:=[YH ⟨r.p,sr,r.gr,r.mr,r.fp⟩ y.past,jG sr y.k ⟨[],[],y.x.b,y.x.h,y.x.st,y.x.ev⟩,nu r.gr m.g,tK r.mr r.gr.p m.ms,tO r.fp r.mr.p r.gr.p ⟨none,m.f.fH⟩]) [2,1,3,4,0] s (by unfold YH;rw[e];rfl) (by decide);refine h ⟨r.p,sr,r.gr,r.mr,r.fp⟩ ⟨[],[],y.x.b,y.x.h,y.x.st,y.x.ev⟩ w rfl rfl (Jk s ⟨?_,hok.past,λm' e=>?_⟩)
 ·exact⟨hok.sh.one,hok.sh.room,Lr.Kx (k:=y.k) (by have:=hok.sh.one;omega),rfl,hok.sh.b,hok.sh.h,hok.sh.st,hok.sh.ev,λq hq=>by cases hq⟩
 ·cases e;exact⟨hm.g,hm.I,⟨(λq e=>by cases e),hm.J.u⟩,hm.nh,adC⟩
def WB {Q:World->Prop}(h:Q w):pS Option.none w Q:=Cv _ _ _ h
def aaB {Q:World->Prop}(ho:y.o=Option.none)(s:Sep F W w (gP r y::L))
  (h:∀r' x' w',r'.p=r.p->x'.p=⟨[],[],y.x.b,y.x.h,y.x.st,y.x.ev⟩->Sep F W w' (gP r' ⟨y.k,x',Option.none,y.past⟩::L)->Q w'):uM (some ⟨r.p,0,Option.none⟩) w Q:=by
 apply F6;obtain⟨hok,s⟩:=BI s;have s:Sep F W w (av r.p 106 (FD r y)::jG r.sh y.k y.x::(G_ r y.o++L)):=s;unfold FD at s;rw[ho]at s;have s:=s;refine isS (ah (lP s 0 rfl ?_));have s:=jm s;refine Nh hok.sh.one s λsr w e s=>?_;refine ah (lP s 1 rfl ?_);apply WB;have s:=jm s;rw[<-e]at s;refine h ⟨r.p,sr,r.gr,r.mr,r.fp⟩ ⟨[],[],y.x.b,y.x.h,y.x.st,y.x.ev⟩ w rfl rfl (Vb s ⟨?_,hok.past,λm' e=>by cases e⟩);exact⟨hok.sh.one,hok.sh.room,Lr.Kx (k:=y.k) (by have:=hok.sh.one;omega),rfl,hok.sh.b,hok.sh.h,hok.sh.st,hok.sh.ev,λq hq=>by cases hq⟩
def tP (y:fV):Ex:=match y.o with
 |some m=>⟨m.ms.fH,m.f.fH,0,0,0,0⟩
 |none=>⟨0,0,0,0,0,0⟩
def amD (h:FE y):Va (tP y):=by
 have u0:Ta.U 0:=by unfold Ta.U;omega
 unfold tP;cases hy:y.o with
 |none=>exact⟨u0,u0,u0,u0,u0,u0⟩
 |some m=>exact⟨(h.m m hy).I.u,(h.m m hy).J.u,u0,u0,u0,u0⟩
def KR {Q:Int->Int->Int->Int->Int->Int->World->Prop}(s:Sep F W w (gP r y::L))(h:∀w',Sep F W w' (gP r y::L)->Fr No w w'->Q (tP y).a (tP y).b (tP y).c (tP y).d (tP y).e (tP y).f w'):sX (some ⟨r.p,0,Option.none⟩) w Q:=by
 apply Qc;refine aY (bt (F:=No)) λp w1 s1=>?_;have fin:∀w',Sep No w w' []->Q (tP y).a (tP y).b (tP y).c (tP y).d (tP y).e (tP y).f w':=λw' s'=>h w' (fP s s') (au s');apply ah;cases hy:y.o with
 |some m=>
  obtain⟨hok,so⟩:=Ms hy s;have k:=r8 s hy;have km:=(UM (ai (ai (ai so)))).cell.fr (au s1);have kf:=(Mq (ai (ai (ai (ai so))))).fr (au s1);have e:tP y=⟨m.ms.fH,m.f.fH,0,0,0,0⟩:=by unfold tP;rw[hy]
  rw[e]at fin;have c1:=Fr.cell (au s1) (k.c0 (j:=1) rfl) id;have c2:=Fr.cell (au s1) (k.c0 (j:=2) rfl) id;refine dH c1 (ah (dH c2 ?_));refine Yp km ⟨c2,?_⟩;apply UX (w:=w1.drew) kf;exact agN (ax s1) λw' s'=>fin w' (ai s')
 |none=>
  obtain⟨hok,so⟩:=BI s;have so:Sep F W w (av r.p 106 (FD r y)::jG r.sh y.k y.x::(G_ r y.o++L)):=so;unfold FD at so;rw[hy]at so;have kb:=kK so (i:=0) rfl;have e:tP y=⟨0,0,0,0,0,0⟩:=by unfold tP;rw[hy]
  rw[e]at fin;have c1:=Fr.cell (au s1) (kb 1 _ rfl) id;have c2:=Fr.cell (au s1) (kb 2 _ rfl) id;refine dH c1 (ah (dH c2 ?_));refine Yr ⟨c2,?_⟩;apply UY;exact agN (ax s1) λw' s'=>fin w' (ai s')
def Pp (s:Sep F W w (gP r y::L)):ri w r.sh.p (FA r.sh y.x)/\w.cell? ((⟨r.p,0,Option.none⟩:Addr).add 3)=some (.pointer (some ⟨r.sh.p,0,Option.none⟩))/\(∀j v,(acv y.past)[j]? =some v->w.cell? ((⟨r.p,0,Option.none⟩:Addr).add (4+j))=some v):=by
 obtain⟨hok,so⟩:=BI s;have so:=so;have kb:=kK so (i:=0) rfl;refine⟨aj4 so (i:=1) rfl,?_,λj v hj=>?_⟩
 ·apply kb 3;unfold FD;grind
 ·apply kb (4+j) v;unfold FD;grind
def Vc (y:fV):Ex:=(y.past.add (tP y)).add ⟨0,0,y.x.b,y.x.h,y.x.st,y.x.ev⟩
def aaC {Q:Int->Int->Int->Int->Int->Int->World->Prop}(s:Sep F W w (gP r y::L))(h:∀w',Sep F W w' (gP r y::L)->Q (Vc y).a (Vc y).b (Vc y).c (Vc y).d (Vc y).e (Vc y).f w'):Ab (some ⟨r.p,0,Option.none⟩) w Q:=by
 apply SC;refine aY s λp w1 s1=>?_;have s1:=ax (jm s1);obtain⟨k1,k2,k3⟩:=Pp s1;have hok:=(BI s1).1;have hu:=hok.past;have hn:=amD hok;have u0:Ta.U 0:=by unfold Ta.U;omega
 refine l9 (ah ?_);refine aQ (k3 0 _ rfl) (aQ (k3 1 _ rfl) (aQ (k3 2 _ rfl) (aQ (k3 3 _ rfl) (aQ (k3 4 _ rfl) (aQ (k3 5 _ rfl) ?_)))));refine ah (dH k2 ?_);refine KR s1 λw2 s2 f2=>?_;obtain⟨q1,q2,q3⟩:=Pp s2;refine⟨q2,q3 0 _ rfl,q3 1 _ rfl,q3 2 _ rfl,q3 3 _ rfl,q3 4 _ rfl,q3 5 _ rfl,?_⟩;refine Ta.Fu s2 ⟨⟨hu.a,hu.b,hu.c,hu.d,hu.e,hu.f⟩,hn.a,hn.b,hn.c,hn.d,hn.e,hn.f⟩ λw3 s3=>?_;obtain⟨q1,q2,q3⟩:=Pp s3;refine⟨q2,?_⟩;refine ah2 s3 q1 λw4 s4 _=>?_;have ha:=Va.add hu hn;refine Ta.Fu s4 ⟨⟨ha.a,ha.b,ha.c,ha.d,ha.e,ha.f⟩,u0,u0,hok.sh.b,hok.sh.h,hok.sh.st,hok.sh.ev⟩ λw5 s5=>?_;exact agN (jm s5) λw6 s6=>h w6 (ai s6)
end
def epO (o:Option kj):Int:=match o with
 |some m=>m.g.ep
 |none=>0
def aeY (m:bN):mU:=⟨List.replicate (ej m.w m.h).toNat Kw,0,0⟩
def aka (o:Option kj)(mp:bN):kj:=⟨Nc mp (epO o),aeY mp,⟨none,0⟩⟩
def aoH {mp:bN}{e:Int}(hm:c7 mp)(he:0<=e):xJ (Nc mp e) (aeY mp):=by
 have hc:=gz hm.w hm.h;have hv:∀q∈(aeY mp).ps,q=Kw:=λq hq=>(List.mem_replicate.1 hq).2;have u0:Ta.U 0:=by unfold Ta.U;omega
 refine⟨?_,⟨by show(0:Int)<=e+1;omega,λq hq=>?_⟩,λe'=>?_,λi q hq Y7=>?_,u0⟩
 ·show((List.replicate _ _).length:Int)=ej mp.w mp.h;grind
 ·rw[hv q hq];show(0:Int)<=e+1;omega
 ·have e':(0:Int)=e+1:=e';omega
 ·rw[hv q (List.mem_of_getElem? hq)]at Y7;have hi:=(List.getElem?_eq_some_iff.1 hq).1;have hi:i<(List.replicate (ej mp.w mp.h).toNat Kw).length:=hi;have e1:gi (Nc mp e).vs i=e+1:=by show(List.replicate (ej mp.w mp.h).toNat (e+1)).getD i 0=e+1;grind
  rw[e1]at Y7;have Y7:(0:Int)=e+1:=Y7;omega
section
variable {F:Nat->Prop}{W w w0:World}{L:List As}{r:zG}{y:fV}{mp:bN}{a:Option Addr}{n c:Nat}
def akb (h:FE y):0<=epO y.o:=by
 unfold epO;cases hy:y.o with
 |none=>grind
 |some m=>have:=(h.m m hy).g.ep;grind
noncomputable abbrev apP (p sp:Nat)(v0 v1 v2:Value)(q:Ex):As:=av p 106 [v0,v1,v2,.pointer (sZ sp),.int .u64 q.a,.int .u64 q.b,.int .u64 q.c,.int .u64 q.d,.int .u64 q.e,.int .u64 q.f]
def gpO (r:zG)(o:Option kj):Option Addr:=match o with
 |some _=>sZ r.gr.p
 |none=>none
def aqY (s:Sep F W w (gP r y::L)):∃v1 v2,Sep F W w (apP r.p r.sh.p (.pointer (gpO r y.o)) v1 v2 y.past::jG r.sh y.k y.x::(G_ r y.o++L)):=by
 obtain⟨hok,so⟩:=BI s;have so:Sep F W w (av r.p 106 (FD r y)::jG r.sh y.k y.x::(G_ r y.o++L)):=so;unfold FD at so;cases hy:y.o with
 |none=>
  rw[hy]at so;exact⟨_,_,so⟩
 |some m=>
  rw[hy]at so;exact⟨_,_,so⟩
def amE {Q:Int->World->Prop}{A B:As}(hok:FE y)(s:Sep F W w (A::B::(G_ r y.o++L)))(h:Q (epO y.o) w):fO (gpO r y.o) w Q:=by
 cases hy:y.o with
 |none=>
  rw[hy]at h;exact Ya h
 |some m=>
  rw[hy]at h s;have s:=s;exact qD (oq (ai (ai s))) h
def acy {Q:Int->World->Prop}(hm:c7 mp)(hr:gu mp.cs)(ni:mp.w*mp.h<=1600)(hC:∀w',Sep F W w' L->Sl w' a n c 1 bA mp.cs)(he:epO y.o<1000000000)(s:Sep F W w (gP r y::L))
  (h:∀r' x' w',r'.p=r.p->x'.p=⟨[],[],y.x.b,y.x.h,y.x.st,y.x.ev⟩->Sep F W w' (gP r' ⟨y.k,x',some (aka y.o mp),y.past.add (tP y)⟩::L)->Q 0 w'):A5 (sZ r.p) mp.w mp.h a n c w Q:=by
 apply TY;have hok:=(BI s).1;have WT:=akb hok;have hu:=hok.past;have hn:=amD hok;refine aS s λmb w s=>l9 ?_;refine lI s 0 rfl (lI s 0 rfl (lS s 0 rfl ?_));refine LX s (hC _ (ai (ai s))) λw s _=>?_;rw[(Ur hr).2 hm,Bool.not_true,cond_false];apply ah;have s:=ax (jm s);obtain⟨k1,k2,k3⟩:=Pp s;refine aQ (k3 0 _ rfl) (aQ (k3 1 _ rfl) (aQ (k3 2 _ rfl) (aQ (k3 3 _ rfl) (aQ (k3 4 _ rfl) (aQ (k3 5 _ rfl) ?_)))));refine KR s λw s _=>?_;obtain⟨q1,q2,q3⟩:=Pp s;refine⟨q3 0 _ rfl,q3 1 _ rfl,q3 2 _ rfl,q3 3 _ rfl,q3 4 _ rfl,q3 5 _ rfl,?_⟩;refine Ta.Fu s ⟨⟨hu.a,hu.b,hu.c,hu.d,hu.e,hu.f⟩,hn.a,hn.b,hn.c,hn.d,hn.e,hn.f⟩ λw s=>?_;obtain⟨v1,v2,s⟩:=aqY s;apply ah;refine sT s 0 rfl λw s=>?_;refine sT s 0 rfl λw s=>?_;refine sT s 0 rfl λw s=>?_;refine sT s 0 rfl λw s=>?_;refine sT s 0 rfl λw s=>?_;refine az s (i:=0) rfl rfl rfl λw s=>?_;have s:=cE s (L':=av mb 25 [ae mp.w,ae mp.h,.slice a n c]::apP r.p r.sh.p (.pointer (gpO r y.o)) v1 v2 (y.past.add (tP y))::jG r.sh y.k y.x::(G_ r y.o++L)) (List.perm_middle (l₁:=_::_::G_ r y.o));have s:=ax s;refine lI s 0 rfl (lI s 0 rfl (lS s 0 rfl ?_));refine ah (lP s 1 rfl ?_);apply amE hok (ai s);refine⟨cN s 0 rfl,cN s 0 rfl,cN s 0 rfl,?_⟩;have s:=gH (ai s) (.cons_cons _ (.cons_cons _ (List.sublist_append_right _ _)));refine abR s (hC _ (ai (ai s))) hr (by omega) (λe=>(e hm).elim) λ_ gr w s _=>?_;refine ah (az s (i:=1) rfl rfl rfl λw s=>?_);refine ah (lP s 1 rfl ?_);refine ab7 s (oq s) λmr w s _=>?_;refine ah (az s (i:=2) rfl rfl rfl λw s=>?_);have s:=ax s;refine ah (lP s 2 rfl (ah (lP s 2 rfl ?_)));refine aat s λfp w s _=>?_;refine ah (az s (i:=3) rfl rfl rfl λw s=>?_);refine ah (lP s 3 rfl ?_);have s:=pk 5 [4,3,2,1,0] s;refine Nh hok.sh.one s λsr w e s=>?_;rw[<-e]at s;have s:=pk 5 [1,0,2,3,4] s;refine h ⟨r.p,sr,gr,mr,fp⟩ ⟨[],[],y.x.b,y.x.h,y.x.st,y.x.ev⟩ w rfl rfl (Jk s ⟨?_,Va.add hu hn,λm' e=>?_⟩)
 ·exact⟨hok.sh.one,hok.sh.room,Lr.Kx (k:=y.k) (by have:=hok.sh.one;omega),rfl,hok.sh.b,hok.sh.h,hok.sh.st,hok.sh.ev,λq hq=>by cases hq⟩
 ·cases e;have u0:Ta.U 0:=by unfold Ta.U;omega
  exact⟨aiu hm (by omega),aoH hm WT,⟨(λq e=>by cases e),u0⟩,ni,adC⟩
end
section
variable {m:bN}{t sc l:Int}
noncomputable def sI (m:bN)(t sc:Int):List bg:=L6 (DT m (D m t) t sc)
noncomputable def FF (m:bN)(t sc:Int):List Int:=jd (aD m.w m.h sc) (bu m.w m.h sc) (dx m sc) (sI m t sc)
noncomputable def BJ (m:bN)(t sc:Int):List Int:=nj (aD m.w m.h sc) (bu m.w m.h sc) (dx m sc) (sI m t sc)
def Rf (xs:List bg):(L6 xs).Perm xs:=List.mergeSort_perm _ _
def Vd (x:bg):x∈sI m t sc↔x∈DT m (D m t) t sc:=(Rf _).mem_iff
def Nj (hs:dA m.w m.h sc):(sI m t sc).Nodup:=(Rf _).nodup_iff.2 (UZ hs).1
def amF (hs:dA m.w m.h sc):(sI m t sc).length<=1025:=by rw[sI,(Rf _).length_eq];exact(UZ hs).2
def YI (hm:c7 m)(hs:dA m.w m.h sc)(ht:bC m.w m.h t):rf (aD m.w m.h sc) (bu m.w m.h sc) (dx m sc) (sI m t sc)=true:=by rw[rf,Bool.and_eq_true];exact⟨(O6 hm hs).CQ,List.all_eq_true.2 λx hx=>arZ hm hs ht ((Vd x).1 hx)⟩
def apQ (hm:c7 m)(hs:dA m.w m.h sc)(ht:bC m.w m.h t)(hl:0<=l/\l<aD m.w m.h sc*bu m.w m.h sc):gi (FF m t sc) l.toNat=D m t (bS m.w m.h sc l):=by have hlen:=Bz (m:=m) (sc:=sc);rw[FF,aiF ⟨hl.1,by omega⟩];exact arX hm hs ht Vd hl
def apR (hm:c7 m)(hs:dA m.w m.h sc)(ht:bC m.w m.h t)(hl:0<=l/\l<aD m.w m.h sc*bu m.w m.h sc):gi (BJ m t sc) l.toNat=o8 m t (bS m.w m.h sc l):=by have hlen:=Bz (m:=m) (sc:=sc);unfold BJ nj gi;rw[List.getD_eq_getElem?_getD,List.getElem?_map,List.getElem?_range (by omega)];show Yd _ _ _ _ _ ((l.toNat:Nat):Int)=_;rw[Int.toNat_of_nonneg hl.1];refine dir_eq hm hs ht Vd (λl' hl'=>?_) hl;rw[fD,if_pos ⟨hl'.1,by show l'<((jd _ _ _ _).length:Int);rw[Yl];omega⟩];exact apQ hm hs ht hl'
end
structure zH where
 g:gU
 Rh:List Int
 clean:Int
 fH:Int
 kept:Option (Int×Int)
 fc:Int
def kj.p (m:kj):zH:=⟨m.g,m.ms.ps.map (·.eO),m.ms.clean,m.ms.fH,Mo m.f,m.f.fH⟩
structure o_ where
 k:Int
 sh:RS
 o:Option zH
 past:Ex
def fV.p (y:fV):o_:=⟨y.k,y.x.p,y.o.map kj.p,y.past⟩
def ag1 (g:gU)(Rh:List Int):Nat:=((List.range Rh.length).filter λi=>gi Rh i !=gi g.vs i).length
noncomputable def FG (q:o_)(m:zH)(t sc:Int):o_:=⟨q.k,BH q.k q.sh (t,sc) ⟨yD m.g sc,sI m.g.m t sc,FF m.g.m t sc,BJ m.g.m t sc⟩,some ⟨m.g,m.g.vs,m.g.ep,ab6 (ag1 m.g m.Rh) m.fH,some (t,m.g.ep),if m.kept=some (t,m.g.ep)then m.fc else Ta.sat m.fc 1⟩,q.past⟩
def aoI {g:gU}{x:mU}:ag1 g (x.ps.map (·.eO))=(jY g x x.ps.length).length:=by unfold ag1 jY;rw[List.length_map];refine congrArg List.length (List.filter_congr λi hi=>?_);unfold Q2 gi;grind
def akc {g:gU}{x:mU}(hg:wD g)(I:xJ g x)(hf:Me g x):x.ps.map (·.eO)=g.vs:=by
 have h1:=I.len;have h2:=hg.len;refine List.ext_getElem? λi=>?_;rw[List.getElem?_map];by_cases hi:i<x.ps.length
 ·have e1:=List.getElem?_eq_getElem hi;have e2:g.vs[i]? =some g.vs[i]:=List.getElem?_eq_getElem (by omega);have:=hf i _ e1;rw[e1,e2];show some x.ps[i].eO=_;rw[this];unfold gi;grind
 grind
section
variable {W w w0:World}{L:List As}{r:zG}{y:fV}{lg:yK}{t sc:Int}
def ag2 {Q:Option Addr->Nat->Nat->Option Addr->Nat->Nat->Value->World->Prop}{fb:Nat}(hL:iF W lg)(s:Sep No W w (av fb 213 [.slice none 0 0,.slice none 0 0]::L))
  (h:∀eb w',Sep No W w' (av eb 275 [ae t,.iface 401 (.pointer (some lg.a3))]::L)->Q none 0 0 none 0 0 (.iface 273 (.pointer (sZ eb))) w'):sD Q t (aZ fb) w:=by
 have s:=ax s;have v3:∀{w L},Sep No W w L->w.cell? (aZ 3)=some (.iface 401 (.pointer (some lg.a3))):=λs=>Fr.cell (au s) hL.v3 id;apply lZ (v3 s) rfl;constructor
 ·refine aS s λeb w s=>?_;refine sT s 1 rfl λw s=>?_;refine az s (i:=1) rfl rfl rfl λw s=>?_;refine⟨v3 s,?_⟩;refine lS s 1 rfl (lS s 1 rfl ?_);exact h eb w (gH s (.cons_cons _ (.cons _ (List.Sublist.refl _))))
 ·refine sT s 0 rfl λw s=>?_;refine az s (i:=0) rfl rfl rfl λw s=>?_;refine⟨v3 s,?_⟩;refine aS s λeb w s=>?_;refine lS s 1 rfl (lS s 1 rfl ?_);exact h eb w (gH s (.cons_cons _ (.cons _ (List.Sublist.refl _))))
def aoJ {Q:Option Addr->Nat->Nat->Option Addr->Nat->Nat->Value->World->Prop}{b6 f:Nat}{da ra:Option Addr}{dn dc rn rc:Nat}{A:List As}{v1 v2:Value}(s:Sep No W w (av f 213 [.slice da dn dc,.slice ra rn rc]::av b6 213 [v1,v2]::L))
  (h:∀w',Sep No W w' L->Q da dn dc ra rn rc .nilIface w'):jr Q t (aZ b6) (aZ f) 0 w:=by
 unfold jr;refine lS s 0 rfl (lS s 0 rfl ?_);refine sT s 1 rfl λw s=>?_;refine az s (i:=1) rfl rfl rfl λw s=>?_;refine lS s 1 rfl (lS s 1 rfl ?_);exact h w (ai (ai s))
end
section
variable {W w w0:World}{L:List As}{r:zG}{y:fV}{lg:yK}{t sc:Int}
def aza:zc T 84=[ae 0,ae 0,.slice none 0 0]:=rfl
noncomputable abbrev akd (r:zG)(m:kj)(past:Ex)(ms:mU)(f:Fy)(tb p6:Nat)(ta:Option Addr)(tn tc:Nat)(sa:Option Addr)(sn sk:Nat)(t sc:Int)(L:List As):List As:=
 aj sa sn sk 294 3 (flat fI (sI m.g.m t sc))::aj ta tn tc 5 1 (flat bA (dx m.g.m sc))::av tb 84 [ae (aD m.g.m.w m.g.m.h sc),ae (bu m.g.m.w m.g.m.h sc),.slice ta tn tc]::av p6 213 [.slice none 0 0,.slice none 0 0]::YH r past::nu r.gr m.g::tK r.mr r.gr.p ms::tO r.fp r.mr.p r.gr.p f::L
def aqZ {Q:Option Addr->Nat->Nat->Option Addr->Nat->Nat->Value->World->Prop}{m:kj}{ms:mU}{f:Fy}{tb p6 fb:Nat}{ta sa da ra:Option Addr}{tn tc sn sk n dc rc:Nat}{x':z6}{sr:U1}{v1 v2:Value}(e:sr.p=r.sh.p)(hok:FE ⟨y.k,x',some ⟨m.g,ms,f⟩,y.past⟩)
  (s:Sep No W w (av fb 213 [v1,v2]::aj ra n rc 3 1 (flat one (BJ m.g.m t sc))::aj da n dc 3 1 (flat one (FF m.g.m t sc))::jG sr y.k x'::akd r m y.past ms f tb p6 ta tn tc sa sn sk t sc L))
  (tN:∀r' w',r'.p=r.p->Sep No W w' (aj ra n rc 3 1 (flat one (BJ m.g.m t sc))::aj da n dc 3 1 (flat one (FF m.g.m t sc))::gP r' ⟨y.k,x',some ⟨m.g,ms,f⟩,y.past⟩::L)->Q da n dc ra n rc .nilIface w'):
  St ((aZ fb).add 0) (.slice da n dc) w λw=>St ((aZ fb).add 1) (.slice ra n rc) w λw=>jr Q t (aZ p6) (aZ fb) 0 w:=by
 refine sT s 0 rfl λw s=>?_;refine az s (i:=0) rfl rfl rfl λw s=>?_;have s:=fQ (A:=[_,_,_,_,_,_,_,_,_,_,_,_]) (B:=[_,_,_,_,_,_,_,_,_]) [0,7,8,3,9,10,11,1,2] s rfl (by decide);refine aoJ (A:=[]) s λw s=>?_;have s:Sep No W w (YH ⟨r.p,sr,r.gr,r.mr,r.fp⟩ y.past::jG sr y.k x'::nu r.gr m.g::tK r.mr r.gr.p ms::tO r.fp r.mr.p r.gr.p f::aj ra n rc 3 1 (flat one (BJ m.g.m t sc))::aj da n dc 3 1 (flat one (FF m.g.m t sc))::L):=by unfold YH;simp_all
 have s:=Jk s hok;have s:=fQ (A:=[_,_,_]) (B:=[_,_,_]) [1,2,0] s rfl (by decide);grind
attribute [local irreducible] sD jr xH in
theorem Mt {Q:Option Addr->Nat->Nat->Option Addr->Nat->Nat->Value->World->Prop}{m:kj}(ho:y.o=some m)(hL:iF W lg)(s:Sep No W w (gP r y::L))(Mu:Lr.W2 (t,sc))
  (FH:¬(bC m.g.m.w m.g.m.h t/\dA m.g.m.w m.g.m.h sc)->∀eb w',Sep No W w' (av eb 275 [ae t,.iface 401 (.pointer (some lg.a3))]::gP r y::L)->Q none 0 0 none 0 0 (.iface 273 (.pointer (sZ eb))) w')
  (tN:bC m.g.m.w m.g.m.h t->dA m.g.m.w m.g.m.h sc->∀r' y' da dc ra rc w',r'.p=r.p->y'.p=FG y.p m.p t sc->Sep No W w' (aj ra (dx m.g.m sc).length rc 3 1 (flat one (BJ m.g.m t sc))::aj da (dx m.g.m sc).length dc 3 1 (flat one (FF m.g.m t sc))::gP r' y'::L)->Q da (dx m.g.m sc).length dc ra (dx m.g.m sc).length rc .nilIface w'):
  uP (sZ r.p) t sc w Q:=by
 apply S3;refine aY s λp6 w s=>?_;have s:=jm s;have k:=r8 s ho;have c0:=k.c0 (j:=0) rfl;refine l9 (ah (dH c0 (l9 (ah (dH c0 ?_)))));have hm:=(k.ok.m m ho);have hmay:=hm.g.may;refine LW s k.g (λhs w s _=>?_) λhs ta tn tc w s _=>?_
 ·
  refine aY s λtb w s=>?_;refine sT s 0 rfl λw s=>?_;refine sT s 0 rfl λw s=>?_;refine sT s 0 rfl λw s=>?_;have s:=ai s;have k:=r8 s ho;have c0:=k.c0 (j:=0) rfl;refine ah (dH c0 (ja k.g ?_));have fin:=ag2 hL (jm s) λeb w s=>FH (λe=>hs e.2) eb w s;grind
 ·rw[agh hmay hs]at s;refine aY s λtb w s=>?_;refine sT s 0 rfl λw s=>?_;refine sT s 0 rfl λw s=>?_;refine az s (i:=0) rfl rfl rfl λw s=>?_;have k:=r8 (ai (ai s)) ho;have c0:=k.c0 (j:=0) rfl;refine ah (dH c0 (ja k.g ?_));by_cases ht:bC m.g.m.w m.g.m.h t
  ·have uK:=Kn hmay ht;rw[cJ (by omega),cond_false,Bool.not_true,cond_false];have s:=fQ (A:=[_,_,_,_]) (B:=[_,_,_,_]) [2,0,1,3] s rfl (by decide);obtain⟨hok,s⟩:=Ms ho s;have s:=ax s;refine ah (lP s 0 rfl (ah (lP s 0 rfl ?_)));have s:=fQ (A:=[_,_,_,_,_,_,_,_]) (B:=[_,_,_,_,_,_,_,_]) [2,3,4,0,1,5,6,7] s rfl (by decide);refine WA s hm.I hm.J ht hm.nh λms' rr ds w I' hf' wE UI hro s=>?_;refine⟨cN s 3 rfl,?_⟩;have kr:=adz (ai (ai s)) rfl;refine U0 s (oq s) kr hro ht hs λsa sn sk w s _=>?_;have s:=ax s;refine ah (lP s 4 rfl (ah (lP s 4 rfl ?_)));refine lI s 6 rfl (lI s 6 rfl (lS s 6 rfl ?_));have s:=fQ (A:=[_,_,_,_,_,_,_,_,_]) (B:=[_,_,_,_,_,_,_,_,_]) [5,0,7,6,8,4,1,2,3] s rfl (by decide);generalize hf:(⟨some (rr,⟨t,m.g.ep,ds⟩),if Mo m.f=some (t,m.g.ep)then m.f.fH else Ta.sat m.f.fH 1⟩:Fy)=f' at s;have s:=s;have Kl:(sI m.g.m t sc).length=sn:=(aL s (i:=1) rfl mT (by decide)).len;have AY:=amF (t:=t) hs;have hu1:Ta.U f'.fH:=by
    rw[<-hf];split
    ·exact hm.J.u
    ·exact Ta.Ft hm.J.u (by unfold Ta.U;omega)
   have J':aas m.g f':=by refine⟨λq e=>?_,hu1⟩;rw[<-hf]at e;cases e;exact⟨Int.le_refl _,λ_=>⟨ht,hro⟩⟩
   have avS:yD m.g sc<=m.g.ep:=by
    unfold yD;split
    ·have hm1:gi m.g.vs sc.toNat∈m.g.vs:=by rw[gi,List.getD_eq_getElem?_getD,List.getElem?_eq_getElem (by omega)];exact List.getElem_mem _
     exact(hm.g.vs _ hm1).2
    ·have:=hm.g.ep;omega
   have hh:(Lr.ke y.k y.x.l (t,sc)).1.2.1=true->∀q,y.x.p.es[(Lr.ke y.k y.x.l (t,sc)).1.1.toNat]? =some q->q.eO=yD m.g sc->q.iq=sI m.g.m t sc->q.ds=FF m.g.m t sc/\q.rs=BJ m.g.m t sc:=λhd q hq hv he=>by obtain⟨_,_,h3⟩:=agM hok.sh hm.right hd hq;have h4:=h3 hv;rw[he]at h4;exact h4
   have avT:∀x':z6,x'.p=BH y.k y.x.p (t,sc) ⟨yD m.g sc,sI m.g.m t sc,FF m.g.m t sc,BJ m.g.m t sc⟩->FE ⟨y.k,x',some ⟨m.g,ms',f'⟩,y.past⟩:=λx' ex=>by
    refine⟨?_,hok.past,λm' e=>?_⟩
    ·rw[ex];exact aoA hok.sh (by show(sI m.g.m t sc).length<2000;omega)
    ·cases e;refine⟨hm.g,I',J',hm.nh,?_⟩;rw[ex];exact amv hok.sh hm.right ⟨avS,hs,λ_=>⟨rfl,rfl⟩⟩
   have hp':∀x':z6,x'.p=BH y.k y.x.p (t,sc) ⟨yD m.g sc,sI m.g.m t sc,FF m.g.m t sc,BJ m.g.m t sc⟩->(fV.mk y.k x' (some ⟨m.g,ms',f'⟩) y.past).p=FG y.p m.p t sc:=λx' ex=>by unfold fV.p FG;simp only[Option.map_some];rw[ex];unfold kj.p;rw[akc hm.g I' hf',wE,UI,aoI,<-hf];rfl
   have cC:∀w',Sep No W w' (akd r m y.past ms' f' tb p6 ta tn tc sa sn sk t sc L)->Sl w' ta tn tc 1 bA (dx m.g.m sc):=λw' s=>aL s (i:=1) rfl cY (by decide);have cX:∀w',Sep No W w' (akd r m y.past ms' f' tb p6 ta tn tc sa sn sk t sc L)->Sl w' sa sn sk 3 fI (sI m.g.m t sc):=λw' s=>aL s (i:=0) rfl mT (by decide);have done:∀{fb:Nat} {v1 v2:Value} {w:World} {sr:U1} {x':z6} {da ra:Option Addr} {dc rc:Nat},sr.p=r.sh.p->x'.p=BH y.k y.x.p (t,sc) ⟨yD m.g sc,sI m.g.m t sc,FF m.g.m t sc,BJ m.g.m t sc⟩->
     Sep No W w (av fb 213 [v1,v2]::aj ra (dx m.g.m sc).length rc 3 1 (flat one (BJ m.g.m t sc))::aj da (dx m.g.m sc).length dc 3 1 (flat one (FF m.g.m t sc))::jG sr y.k x'::akd r m y.past ms' f' tb p6 ta tn tc sa sn sk t sc L)->
     St ((aZ fb).add 0) (.slice da (dx m.g.m sc).length dc) w λw=>St ((aZ fb).add 1) (.slice ra (dx m.g.m sc).length rc) w λw=>jr Q t (aZ p6) (aZ fb) 0 w:=λ{fb v1 v2 w sr x' da ra dc rc} e ex s=>by
    refine aqZ e (avT x' ex) s λr' w' er s=>?_;exact tN ht hs r' _ da dc ra rc w' er (hp' x' ex) s
   have d6:∀{w:World} {A B C D E G:As} {X:List As},Sep No W w (A::B::C::D::E::G::X)->Sep No W w X:=λs=>ai (ai (ai (ai (ai (ai s)))));refine⟨q_ (oq (d6 s)) ?_,?_⟩
   ·refine⟨cN s 3 rfl,cN s 3 rfl,cN s 3 rfl,cN s 5 rfl,?_,?_⟩
    ·refine U4 hok.sh (O6 hmay hs) (YI hmay hs ht) (Nj hs) (by omega) cC cX Mu hh s λsr x' da dc ra rc w e ex s=>?_;refine aY s λfb w s=>?_;refine⟨cN s 6 rfl,cN s 6 rfl,cN s 6 rfl,cN s 8 rfl,cN s 8 rfl,?_⟩;exact done e ex s
    ·refine aY s λfb w s=>?_;refine⟨cN s 4 rfl,cN s 4 rfl,cN s 4 rfl,cN s 6 rfl,cN s 6 rfl,?_⟩;refine U4 hok.sh (O6 hmay hs) (YI hmay hs ht) (Nj hs) (by omega) (λw' s=>cC w' (ai s)) (λw' s=>cX w' (ai s)) Mu hh (jm s) λsr x' da dc ra rc w e ex s=>?_;exact done e ex (pk 4 [3,0,1,2] s)
   ·refine aY s λfb w s=>?_;refine⟨cN s 4 rfl,cN s 4 rfl,cN s 4 rfl,cN s 6 rfl,cN s 6 rfl,?_⟩;apply q_ (oq (d6 (ai s)));refine⟨cN s 4 rfl,cN s 4 rfl,cN s 4 rfl,cN s 6 rfl,?_⟩;refine U4 hok.sh (O6 hmay hs) (YI hmay hs ht) (Nj hs) (by omega) (λw' s=>cC w' (ai s)) (λw' s=>cX w' (ai s)) Mu hh (jm s) λsr x' da dc ra rc w e ex s=>?_;exact done e ex (pk 4 [3,0,1,2] s)
  ·rw[show cH m.g.m t=0 from by unfold cH;rw[if_neg λe=>ht ⟨hm.g.iU,e.1,by rw[<-hmay.len];exact e.2⟩]];exact ag2 hL (fQ (A:=[_,_,_,_]) (B:=[_,_]) [3,2] s rfl (by decide)) λeb w s=>FH (λe=>ht e.1) eb w s
end
end Go.Proofs.YtmegplnmiepfbaaGreatDoor.S
set_option maxRecDepth 20000
namespace Go.Proofs.YtmegplnmiepfbaaGreatDoor.S
open Go.Sx
attribute [local irreducible] af cq bq bf aB bY bT St Bx Al App cu cg b_ bR aK bw aq bP av aj aU mapA
section
variable {W w w0:World}{L:List As}{r:zG}{y:fV}{lg:yK}{t sc ce w1 h1:Int}
def RT {Q:Int->World->Prop}(h:Q 0 w):xY .nilIface w Q:=OG _ _ _ h
def acz {Q:Int->World->Prop}{eb:Nat}(hL:iF W lg)(s:Sep No W w (av eb 275 [ae t,.iface 401 (.pointer (some lg.a3))]::L))(h:Q 7 w):xY (.iface 273 (.pointer (sZ eb))) w Q:=by apply OG;have k:=hL.fr (au s);have hc:=kK s (i:=0) rfl 1 _ rfl;refine sH (lZ k.v2 rfl ?_);obtain⟨c2,t2,h2⟩:=k.b2;obtain⟨c3,t3,h3⟩:=k.b3;apply Rc (.inr rfl) (.inl rfl) hc (λx y K hk=>aax (λe=>k.n23 e.symm) h3 h2 hk);apply lZ k.v3 rfl;apply Rc (.inr rfl) (.inl rfl) hc (λx y K hk=>U6 hk);exact h
def Mv {Q:Option Addr->Nat->Nat->Option Addr->Nat->Nat->Int->World->Prop}{m:kj}(ho:y.o=some m)(hL:iF W lg)(s:Sep No W w (gP r y::L))(ht:bC m.g.m.w m.g.m.h t)(hs:dA m.g.m.w m.g.m.h sc)(Mu:Lr.W2 (t,sc))
  (tN:∀r' y' da dc ra rc w',r'.p=r.p->y'.p=FG y.p m.p t sc->Sep No W w' (aj ra (dx m.g.m sc).length rc 3 1 (flat one (BJ m.g.m t sc))::aj da (dx m.g.m sc).length dc 3 1 (flat one (FF m.g.m t sc))::gP r' y'::L)->Q da (dx m.g.m sc).length dc ra (dx m.g.m sc).length rc 0 w'):
  uO (sZ r.p) t sc w Q:=by
 apply S5;refine aY s λp6 w s=>?_;refine Mt ho hL (jm s) Mu (λe=>(e ⟨ht,hs⟩).elim) λ_ _ r' y' da dc ra rc w er ey s=>?_;refine aY s λfb w s=>?_;refine sT s 0 rfl λw s=>?_;refine az s (i:=0) rfl rfl rfl λw s=>?_;have s:=ax s;refine lS s 0 rfl (lS s 0 rfl ?_);apply RT;refine⟨cN s 0 rfl,cN s 0 rfl,?_⟩;refine sT s 4 rfl λw s=>?_;refine az s (i:=4) rfl rfl rfl λw s=>?_;refine lS s 4 rfl (lS s 4 rfl ?_);exact tN r' y' da dc ra rc w er ey (pk 5 [1,2,3] s)
def amH (hm:iU w1 h1):g_ (aC w1 h1 ce):=by
 have hc:=gz hm.1 hm.2;unfold g_;by_cases h:bC w1 h1 ce
 ·have:=(bQ h).2;omega
 ·unfold aC;grind
def aaD {ys:List Int}{k:Nat}{x:Int}(h:ys[k]? =some x):x=gi ys k:=by unfold gi;grind
def acA {Q:Int->Int->Value->World->Prop}{m:kj}(ho:y.o=some m)(hL:iF W lg)(s:Sep No W w (gP r y::L))(Mu:(Lit.int .i64 t).wf=true)
  (FH:¬(bC m.g.m.w m.g.m.h t/\bC m.g.m.w m.g.m.h ce)->∀eb w',Sep No W w' (av eb 275 [ae t,.iface 401 (.pointer (some lg.a3))]::gP r y::L)->Q 0 0 (.iface 273 (.pointer (sZ eb))) w')
  (tN:bC m.g.m.w m.g.m.h t->bC m.g.m.w m.g.m.h ce->∀r' y' w',r'.p=r.p->y'.p=FG y.p m.p t (cO m.g.m ce)->Sep No W w' (gP r' y'::L)->Q (D m.g.m t ce) (o8 m.g.m t ce) .nilIface w'):
  A8 (sZ r.p) t ce w Q:=by
 apply Um;have k:=r8 s ho;have hm:=k.ok.m m ho;have hmay:=hm.g.may;refine Po s k λw s _=>?_;refine eL s λw s _=>?_;refine Mt ho hL s ⟨Mu,g_.wf (amH hm.g.iU)⟩ (λe eb w s=>?_) λht hs r' y' da dc ra rc w er ey s=>?_
 ·refine aY s λfb w s=>?_;refine sT s 0 rfl λw s=>?_;refine sT s 0 rfl λw s=>?_;exact FH (λh=>e ⟨h.1,bQ h.2⟩) eb w (ai s)
 ·have hc:bC m.g.m.w m.g.m.h ce:=by
   by_cases h:bC m.g.m.w m.g.m.h ce
   ·exact h
   ·unfold aC at hs;rw[if_neg h]at hs;have:=hs.2.1;omega
  have hlr:=jL hc;have WV:=nq hc;have hlen:=Bz (m:=m.g.m) (sc:=aC m.g.m.w m.g.m.h ce);refine aY s λfb w s=>?_;refine sT s 0 rfl λw s=>?_;refine az s (i:=0) rfl rfl rfl λw s=>?_;refine sE s λw s _=>?_;have s:=ax s;apply lS s 0 rfl;have kD:=aL s (i:=2) rfl cj (by decide);have kR:=aL s (i:=1) rfl cj (by decide);have hk:dD m.g.m.w m.g.m.h ce=((dD m.g.m.w m.g.m.h ce).toNat:Int):=by omega
  apply kD.pC hk (by omega);apply lS s 0 rfl;refine kR.El hk (by omega) λp x hx hcell=>?_;have h0:=hcell 0 _ rfl;refine aQ h0 ⟨h0,cN s 0 rfl,?_⟩;have eD:=apQ hmay hs ht hlr;have eR:=apR hmay hs ht hlr;rw[WV]at eD eR;rw[aaD hx,eD,eR];exact tN ht hc r' y' _ er ey (ai (ai (ai s)))
def acB {Q:Int->Int->Int->World->Prop}{m:kj}(ho:y.o=some m)(hL:iF W lg)(s:Sep No W w (gP r y::L))(Mu:(Lit.int .i64 t).wf=true)
  (FH:¬(bC m.g.m.w m.g.m.h t/\bC m.g.m.w m.g.m.h ce)->∀w',Sep No W w' (gP r y::L)->Q 0 0 7 w')
  (tN:bC m.g.m.w m.g.m.h t->bC m.g.m.w m.g.m.h ce->∀r' y' w',r'.p=r.p->y'.p=FG y.p m.p t (cO m.g.m ce)->Sep No W w' (gP r' y'::L)->Q (D m.g.m t ce) (o8 m.g.m t ce) 0 w'):
  A7 (sZ r.p) t ce w Q:=by
 apply Un;refine acA ho hL s Mu (λe eb w s=>?_) λht hc r' y' w er ey s=>?_
 ·exact acz hL s (FH e w (ai s))
 ·exact RT (tN ht hc r' y' w er ey s)
end
def KT (y:sG)(cell goal:Int):sG:=⟨y.most,y.next+1,y.us++[⟨y.next,cell,goal⟩]⟩
section
variable {F:Nat->Prop}{W w w0:World}{L:List As}{r:UR}{y:sG}{cell goal:Int}
def amI {us:List aM}{u:aM}{i:Int}(h:∀v∈us,v.id<u.id):gy (us++[u]) i=if i=u.id then some u else gy us i:=by unfold gy;grind
def amJ {us:List aM}{i:Int}(h:∀v∈us,v.id≠i):gy us i=none:=by unfold gy;grind
def asV {r:UR}{mb':Nat}{a:Option Addr}{n c:Nat}{ms':List (Int×aM)}(h:Q6 r y)(hroom:(y.us.length:Int)<y.most)(hn:y.next<1000000000)(hk:ou ms')(ha:∀i,e_ ms' i=if i=y.next then some ⟨y.next,cell,goal⟩else e_ r.ms i)(hl:ms'.length=if(e_ r.ms y.next).isNone then r.ms.length+1 else r.ms.length):
  Q6 ⟨r.p,mb',a,n,c,ms',r.os++[y.next]⟩ (KT y cell goal):=by
 have hlt:∀v∈y.us,v.id<y.next:=λv hv=>(h.jP v hv).2
 have hg:∀i,gy (KT y cell goal).us i=if i=y.next then some ⟨y.next,cell,goal⟩else gy y.us i:=λi=>amI hlt
 have hno:gy y.us y.next=none:=amJ λv hv=>by grind
 refine⟨h.most,hk,λi=>?_,?_,?_,?_,?_,?_,?_,?_,?_⟩
 ·rw[hg,ha,h.e_]
 ·show ms'.length=(y.us++[_]).length;rw[hl,h.e_,hno,List.length_append,h.len];rfl
 ·show(r.os++[y.next]).filter _=(y.us++[_]).map _;rw[List.filter_append,List.map_append,<-h.ord];congr 1
  ·refine List.filter_congr λi hi=>?_;have:=(h.onx i hi).2;grind
  grind
 ·show(r.os++[_]).length<=2*(y.us++[_]).length;have:=h.agy;grind
 ·show((y.us++[_]).map _).Pairwise _;rw[List.map_append,List.pairwise_append];refine⟨h.Mb,by simp,λa ha b hb=>?_⟩;grind
 ·intro u hu;show 0<=u.id/\u.id<y.next+1
  rcases List.mem_append.1 hu with hu|hu
  ·have:=h.jP u hu;omega
  ·rw[List.mem_singleton]at hu;subst hu;have:=h.Pb;grind
 ·show((y.us++[_]).length:Int)<=y.most;grind
 ·intro i hi;show 0<=i/\i<y.next+1
  rcases List.mem_append.1 hi with hi|hi
  ·have:=h.onx i hi;omega
  ·rw[List.mem_singleton]at hi;have:=h.Pb;omega
 ·have:=h.Pb;show 0<=y.next+1/\y.next+1<=1000000000
  omega
def aaE {Q:Int->Bool->World->Prop}(s:Sep F W w (vk r y::L))(hn:y.next<1000000000)(hroom:(y.us.length:Int)<y.most)
  (h:∀r' w',r'.p=r.p->Sep F W w' (vk r' (KT y cell goal)::L)->Q y.next true w'):xW (sZ r.p) cell goal w Q:=by
 apply Of;obtain⟨hok,s⟩:=tZ (ax s);refine l9 (ah (lM s 0 rfl (ah (lI s 0 rfl ?_))));apply aoq Jh s (i:=1) rfl;refine⟨cN s 0 rfl,?_⟩;rw[hok.len,bp];have Pq:=hok.Pb;refine ah (lI s 0 rfl (ah (lI s 0 rfl ?_)));rw[Gm (g_.wf (by unfold g_;omega))];refine ah (sT s 0 rfl λw s=>?_);refine ah (lM s 0 rfl ?_);refine KC (ms:=r.ms) (a:=⟨y.next,cell,goal⟩) Jh s (i:=1) rfl hok.Eu (by show g_ y.next;unfold g_;omega) λms' w hk ha hl s=>?_;refine ah (lS s 0 rfl ?_);have s:=pk 3 [2,0,1] s;have hol:=hok.agy;have VM:=hok.most;have HL:=(aL s (i:=0) rfl cj (by decide)).len;refine Kb s (by omega) λa' c' w s=>?_;refine ah (az s (i:=1) rfl rfl rfl λw s=>?_);refine h ⟨r.p,r.mb,a',r.on+1,c',ms',r.os++[y.next]⟩ w rfl (DW ?_ (asV hok hroom hn hk ha hl));exact pk 3 [1,2,0] s
end
def uZ (y:sG)(id:Int)(f:aM->aM):sG:=⟨y.most,y.next,y.us.map λv=>if v.id=id then f v else v⟩
section
variable {F:Nat->Prop}{W w w0:World}{L:List As}{r:UR}{y:sG}{cell goal id:Int}{f:aM->aM}
def adF (hf:∀u,(f u).id=u.id){i:Int}:∀{us:List aM},gy (us.map λv=>if v.id=id then f v else v) i=if i=id then(gy us id).map f else gy us i
 |[]=>by simp[gy]
 |u::us=>by have ih:=adF (i:=i) hf (us:=us);unfold gy at ih⊢;grind
def aoK (hf:∀u,(f u).id=u.id){us:List aM}:(us.map λv=>if v.id=id then f v else v).map (·.id)=us.map (·.id):=by rw[List.map_map];refine List.map_congr_left λv _=>?_;grind
def aq0 {u:aM}{ms':List (Int×aM)}(h:Q6 r y)(hf:∀u,(f u).id=u.id)(hu:gy y.us id=some u)(hk:ou ms')(ha:∀i,e_ ms' i=if i=id then some (f u)else e_ r.ms i)(hl:ms'.length=if(e_ r.ms id).isNone then r.ms.length+1 else r.ms.length):
  Q6 ⟨r.p,r.mb,r.oa,r.on,r.oc,ms',r.os⟩ (uZ y id f):=by
 have hg:∀i,gy (uZ y id f).us i=if i=id then(gy y.us id).map f else gy y.us i:=λi=>adF hf
 have IF:(uZ y id f).us.map (·.id)=y.us.map (·.id):=aoK hf;have hlen:(uZ y id f).us.length=y.us.length:=by have:=congrArg List.length IF;grind
 refine⟨h.most,hk,λi=>?_,?_,?_,?_,?_,?_,?_,h.onx,h.Pb⟩
 ·rw[hg,ha,h.e_,hu];rfl
 ·rw[hlen,hl,h.e_,hu,<-h.len];rfl
 ·rw[IF,<-h.ord];grind
 ·rw[hlen];exact h.agy
 ·rw[IF];exact h.Mb
 ·intro v hv;have hm:v.id∈(uZ y id f).us.map (·.id):=List.mem_map.2 ⟨v,hv,rfl⟩;rw[IF]at hm;obtain⟨v',Y7,e⟩:=List.mem_map.1 hm;rw[<-e];exact h.jP v' Y7
 ·rw[hlen];exact h.nh
def Mw {Q:Bool->World->Prop}{Ve:Value}(yW:g_ id)(hf:∀u,(f u).id=u.id)
  (atQ:∀(x:Nat) (w:World) (u:aM) (K:World->Prop),Sep F W w (av x 43 (gW u)::vk r y::L)->(∀w',Sep F W w' (av x 43 (gW (f u))::vk r y::L)->K w')->gQ (cx 25) Ve [.pointer (sZ x)] w λv w'=>dT v λl=>ko l (K w'))
  (s:Sep F W w (vk r y::L))(hno:gy y.us id=none->∀w',Sep F W w' (vk r y::L)->Q false w')
  (hyes:(gy y.us id).isSome=true->∀r' w',r'.p=r.p->Sep F W w' (vk r' (uZ y id f)::L)->Q true w'):rC (sZ r.p) id Ve w Q:=by
 apply Om;refine rO s yW (λhn w s=>?_) λu hu w s=>?_
 ·refine aY s λx w s=>?_;refine sT s 0 rfl λw s=>?_;refine sT s 0 rfl λw s=>?_;refine sT s 0 rfl λw s=>?_;exact hno hn w (ai s)
 ·refine aY s λx w s=>?_;refine sT s 0 rfl λw s=>?_;refine sT s 0 rfl λw s=>?_;refine az s (i:=0) rfl rfl rfl λw s=>?_;refine atQ x w u _ s λw s=>?_;have s:=ax s;obtain⟨hok,s⟩:=tZ (jm s);refine ah (lM s 0 rfl ?_);refine lI s 3 rfl (lI s 3 rfl (lI s 3 rfl ?_));refine KC Jh s (i:=1) rfl hok.Eu yW λms' w hk ha hl s=>?_;refine hyes (by rw[hu];rfl) ⟨r.p,r.mb,r.oa,r.on,r.oc,ms',r.os⟩ w rfl (DW ?_ (aq0 hok hf hu hk ha hl));exact pk 4 [0,1,2] s
def axE:oB 156 fns=true:=by kernel_rfl
def axF:oB 128 fns=true:=by kernel_rfl
def ake {m x b:Nat}{Q:World->Prop}(h:A9 (sZ x) (sZ b) w Q):gQ (cx m) (.func (.func 156) #[] #[.pointer (sZ b)]) [.pointer (sZ x)] w λv w'=>dT v λl=>ko l (Q w'):=by unfold gQ;simp only;exact h
def amK {m x b:Nat}{Q:World->Prop}(h:Cs (sZ x) (sZ b) w Q):gQ (cx m) (.func (.func 128) #[] #[.pointer (sZ b)]) [.pointer (sZ x)] w λv w'=>dT v λl=>ko l (Q w'):=by unfold gQ;simp only;exact h
def YJ {Q:Bool->World->Prop}(yW:g_ id)(s:Sep F W w (vk r y::L))(hno:gy y.us id=none->∀w',Sep F W w' (vk r y::L)->Q false w')
  (hyes:(gy y.us id).isSome=true->∀r' w',r'.p=r.p->Sep F W w' (vk r' (uZ y id λu=>⟨u.id,cell,u.goal⟩)::L)->Q true w'):wX (sZ r.p) id cell w Q:=by
 apply M8;refine aS s λcb w s=>?_;refine Mw (f:=λu=>⟨u.id,cell,u.goal⟩) yW (λu=>rfl) (λx w u K s hK=>?_) (jm s) (λhn w s=>hno hn w (gH s (.cons_cons _ (List.sublist_cons_self _ _)))) (λhs r' w e s=>hyes hs r' w e (gH s (.cons_cons _ (List.sublist_cons_self _ _))));apply ake;apply J7;refine ah (lI s 2 rfl (ah (sT s 0 rfl λw s=>?_)));exact hK w s
def aaF {Q:Bool->World->Prop}(yW:g_ id)(s:Sep F W w (vk r y::L))(hno:gy y.us id=none->∀w',Sep F W w' (vk r y::L)->Q false w')
  (hyes:(gy y.us id).isSome=true->∀r' w',r'.p=r.p->Sep F W w' (vk r' (uZ y id λu=>⟨u.id,u.cell,goal⟩)::L)->Q true w'):xV (sZ r.p) id goal w Q:=by
 apply On;refine aS s λcb w s=>?_;refine Mw (f:=λu=>⟨u.id,u.cell,goal⟩) yW (λu=>rfl) (λx w u K s hK=>?_) (jm s) (λhn w s=>hno hn w (gH s (.cons_cons _ (List.sublist_cons_self _ _)))) (λhs r' w e s=>hyes hs r' w e (gH s (.cons_cons _ (List.sublist_cons_self _ _))));apply amK;apply Lh;refine ah (lI s 2 rfl (ah (sT s 0 rfl λw s=>?_)));exact hK w s
end
section
variable {F:Nat->Prop}{W w w0:World}{L:List As}{r:UR}{y:sG}{cell goal id:Int}{a:Option Addr}{n c:Nat}{us:List aM}
def aoL {x:aM}{K:Option Addr->Nat->Nat->World->Prop}(s:Sep F W w (aj a n c 43 3 (flat gW us)::L))(hn:n<=1000000000)
  (k:∀a' c' w',Sep F W w' (aj a' (n+1) c' 43 3 (flat gW (us++[x]))::L)->K a' (n+1) c' w'):Bx [ae x.id,ae x.cell,ae x.goal] 43 w λp w1=>App P #[39,39] 39 (.slice a n c) (.slice (some p) 1 1) w1 K:=by
 refine aS s λb w s=>?_;have src:Src w (sZ b) 1 3 (gW x):=⟨rfl,amb x,λj u hj=>by rw[cf,Nat.zero_add];exact c9 s (i:=0) rfl rfl hj⟩;refine iH dU s (i:=1) (bytes:=24) rfl rfl rfl rfl rfl rfl (by decide) rfl src (by simp[maxLen];omega) (by omega) (λe=>by cases e) λa1 c1 w1 s1=>?_;have e:flat gW us++gW x=flat gW (us++[x]):=by rw[gG];simp[flat]
 rw[e]at s1;exact k _ _ _ (ai s1)
def VN (h:(us.map (·.id)).Pairwise (·<·)){i:Nat}{u:aM}(hu:us[i]? =some u):gy us u.id=some u:=by
 unfold gy;induction us generalizing i with
 |nil=>simp at hu
 |cons v us ih=>
  rw[List.map_cons,List.pairwise_cons]at h;cases i with
  |zero=>
   grind
  |succ i=>
   have:=h.1 u.id (List.mem_map.2 ⟨u,List.mem_of_getElem? hu,rfl⟩);grind
def aaG {Q:Option Addr->Nat->Nat->World->Prop}(s:Sep F W w (vk r y::L))(h:∀a n c w',Sep F W w' (aj a n c 43 3 (flat gW y.us)::vk r y::L)->Q a n c w'):xR (sZ r.p) w Q:=by
 apply OH;obtain⟨hok,s⟩:=tZ s;have ni:=hok.nh;have VM:=hok.most;have hol:=hok.agy;have Pq:=hok.Pb;apply l9;refine W4 hok.Eu (λi hi=>by have:=hok.onx i hi;unfold g_;omega) (by omega) s λia N ic w s=>?_;have avW:(r.os.filter λi=>(e_ r.ms i).isSome)=y.us.map (·.id):=by rw[<-hok.ord];refine List.filter_congr λi _=>?_;rw[hok.e_]
 rw[avW]at s;have hN:y.us.length=N:=by have:=(aL s (i:=0) rfl cj (by decide)).len;grind
 have loop:∀(j i:Nat) (a:Option Addr) (n c:Nat) (w:World),i+j=N->Sep F W w (aj a n c 43 3 (flat gW (y.us.take i))::aj ia N ic 3 1 (flat one (y.us.map (·.id)))::av r.p 171 (US r y)::fF e9 G7 r.mb r.ms::aj r.oa r.on r.oc 3 1 (flat one r.os)::L)->
   uY Q (j+1) (sZ r.p) a n c ia N ic (N:Int) i w:=by
  intro j;induction j with
  |zero=>
   intro i a n c w hij s;show ql _ _ _ _ _ _ _ _ _ _ _ _;rw[ql,bp];rw[List.take_of_length_le (by omega)]at s;apply h a n c w;have s:=pk 5 [2,3,4,0] s;exact cE (DW s hok) (List.Perm.swap _ _ _)
  |succ j ih=>
   intro i a n c w hij s;show ql _ _ _ _ _ _ _ _ _ _ _ _;rw[ql,bJ];have hi:i<y.us.length:=by omega
   have hn:=(aL s (i:=0) rfl BG (by decide)).len;rw[List.length_take]at hn;obtain⟨u,hu⟩:∃u,y.us[i]? =some u:=⟨_,List.getElem?_eq_getElem hi⟩;have hgi:gi (y.us.map (·.id)) i=u.id:=by unfold gi;grind
   have xq:y.us.take (i+1)=y.us.take i++[u]:=by rw[List.take_add_one,hu];rfl
   have hr:=hok.jP u (List.mem_of_getElem? hu);have hgu:=VN hok.Mb hu;have wr:IntKind.wrap .i64 ((i:Int)+1)=((i+1:Nat):Int):=by rw[Gm (g_.wf (by unfold g_;omega))];omega
   apply(aL s (i:=1) rfl cj (by decide)).pC rfl (by omega);rw[hgi];refine ah (lM s 2 rfl ?_);refine Dt (K:=e9) Jh (YA w) s (i:=3) rfl hok.Eu (by show g_ u.id;unfold g_;omega) (λh=>?_) λv hv=>?_
   ·rw[hok.e_,hgu]at h;cases h
   ·rw[hok.e_,hgu]at hv;cases hv;refine aoL s (by omega) λa' c' w s=>?_;grind
 exact⟨N+1,loop N 0 none 0 0 w (by omega) (bE s 43 3)⟩
end
def kI (y:sG)(id:Int):sG:=⟨y.most,y.next,y.us.filter λv=>!decide (v.id=id)⟩
section
variable {F:Nat->Prop}{W w w0:World}{L:List As}{r:UR}{y:sG}{id:Int}
def amL {us:List aM}{i:Int}:gy (us.filter λv=>!decide (v.id=id)) i=if i=id then none else gy us i:=by unfold gy;grind
def aoM {us:List aM}:(us.filter λv=>!decide (v.id=id)).map (·.id)=(us.map (·.id)).filter λi=>!decide (i=id):=by rw[List.filter_map];rfl
def YK {us:List aM}(h:(us.map (·.id)).Pairwise (·<·))(hu:(gy us id).isSome=true):(us.filter λv=>!decide (v.id=id)).length=us.length-1:=by
 unfold gy at hu;induction us with
 |nil=>simp at hu
 |cons u us ih=>
  rw[List.map_cons,List.pairwise_cons]at h;by_cases e:u.id=id
  ·rw[List.filter_cons_of_neg (by simp[e]),List.length_cons,Nat.add_sub_cancel];refine congrArg List.length (List.filter_eq_self.2 λv hv=>?_);have:=h.1 v.id (List.mem_map.2 ⟨v,hv,rfl⟩);grind
  grind
def aiV {ms':List (Int×aM)}{oa:Option Addr}{on oc:Nat}{os':List Int}(h:Q6 r y)(hu:(gy y.us id).isSome=true)(hk:ou ms')(ha:∀i,e_ ms' i=if i=id then none else e_ r.ms i)(hl:ms'.length=if(e_ r.ms id).isNone then r.ms.length else r.ms.length-1)
  (hos:(os'=r.os/\os'.length<=2*(kI y id).us.length)\/os'=r.os.filter λi=>(e_ ms' i).isSome):Q6 ⟨r.p,r.mb,oa,on,oc,ms',os'⟩ (kI y id):=by
 have hg:∀i,gy (kI y id).us i=if i=id then none else gy y.us i:=λi=>amL
 have IF:(kI y id).us.map (·.id)=(y.us.map (·.id)).filter λi=>!decide (i=id):=aoM;have hlen:(kI y id).us.length=y.us.length-1:=YK h.Mb hu;have hsub:∀v∈(kI y id).us,v∈y.us:=λv hv=>(List.mem_filter.1 hv).1;have UN:∀i,e_ ms' i=gy (kI y id).us i:=λi=>by rw[hg,ha,h.e_]
 have avX:((kI y id).us.map (·.id)).Pairwise (·<·):=by rw[IF];exact h.Mb.filter _
 have aze:r.os.filter (λi=>(gy (kI y id).us i).isSome)=(kI y id).us.map (·.id):=by rw[IF,<-h.ord,List.filter_filter];grind
 have Mx:os'=r.os/\os'.length<=2*(kI y id).us.length\/os'=(kI y id).us.map (·.id):=by grind
 refine⟨h.most,hk,UN,?_,?_,?_,avX,λv hv=>h.jP v (hsub v hv),?_,λi hi=>?_,h.Pb⟩
 ·rw[hlen,hl,h.e_,<-h.len];cases hu':gy y.us id with
  |none=>grind
  |some _=>rfl
 ·rcases Mx with⟨e,_⟩|e
  ·grind
  ·rw[e];refine List.filter_eq_self.2 λi hi=>?_;grind
 ·grind
 ·have:=h.nh;show((kI y id).us.length:Int)<=y.most;omega
 ·rcases Mx with⟨e,_⟩|e
  ·rw[e]at hi;exact h.onx i hi
  ·rw[e]at hi;obtain⟨v,hv,rfl⟩:=List.mem_map.1 hi;exact h.jP v (hsub v hv)
def YL {Q:Bool->World->Prop}(yW:g_ id)(s:Sep F W w (vk r y::L))(hu:(gy y.us id).isSome=true)
  (hyes:∀r' w',r'.p=r.p->Sep F W w' (vk r' (kI y id)::L)->Q true w'):wW (sZ r.p) id w Q:=by
 apply MU;refine rO s yW (λhn w s=>by grind) λu hu' w s=>?_;refine aY s λx w s=>?_;refine sT s 0 rfl λw s=>?_;refine sT s 0 rfl λw s=>?_;refine sT s 0 rfl λw s=>?_;rw[Bool.not_true,cond_false];obtain⟨hok,s⟩:=tZ (ai s);have ni:=hok.nh;have VM:=hok.most;have hol:=hok.agy;have Pq:=hok.Pb;have HL:=(aL s (i:=2) rfl cj (by decide)).len;refine ah (lM s 0 rfl ?_);refine asA (K:=e9) Jh s (i:=1) rfl hok.Eu yW λms' w hk ha hl s=>?_;have s:=ax s;have hml:ms'.length=(kI y id).us.length:=by rw[hl,hok.e_,hu',hok.len];exact(YK hok.Mb hu).symm
 have hdl:(kI y id).us.length=y.us.length-1:=YK hok.Mb hu;refine ah (lS s 0 rfl (ah (lM s 0 rfl ?_)));apply aoq Jh s (i:=1) rfl;refine⟨cN s 0 rfl,?_⟩;rw[Gm (g_.wf (by unfold g_;omega))];by_cases afl:(r.on:Int)>2*((ms'.length:Nat):Int)
 ·rw[bJ afl];refine W4 hk (λi hi=>by have:=hok.onx i hi;unfold g_;omega) (by omega) s λa n c w s=>?_;refine ah (az s (i:=1) rfl rfl rfl λw s=>?_);refine hyes ⟨r.p,r.mb,a,n,c,ms',_⟩ w rfl (DW ?_ (aiV hok hu hk ha hl (.inr rfl)));exact pk 4 [1,2,0] s
 ·rw[bp afl];exact hyes ⟨r.p,r.mb,r.oa,r.on,r.oc,ms',r.os⟩ _ rfl (DW s (aiV hok hu hk ha hl (.inl ⟨rfl,by omega⟩)))
end
def Dw (out:List Int)(u:aM):List Int:=if u.goal∈out then out else out++[u.goal]
def sJ (us:List aM):List Int:=us.foldl Dw []
def amM {us:List aM}:(sJ us).length<=us.length:=by
 have:∀(us:List aM) (out:List Int),(us.foldl Dw out).length<=out.length+us.length:=by
  intro us;induction us with
  |nil=>grind
  |cons u us ih=>
   intro out;have h2:(Dw out u).length<=out.length+1:=by unfold Dw;grind
   grind
 have:=this us [];simpa[sJ]using this
def Ck (b:Bool):Value:=.bool b
def Nk:P.underlying 258=some (.map 3 4):=by kernel_rfl
def YM (w:World):(zeroValue 4).run P w=.ok (Ck false) w:=by kernel_rfl
section
variable {F:Nat->Prop}{W w w0:World}{L:List As}{la:Option Addr}{ln lc:Nat}{us:List aM}
def YN {Q:Option Addr->Nat->Nat->World->Prop}(s0:Sep F W w0 L)(hU:Sl w0 la ln lc 3 gW us)(pI:ln<=1000000)(yW:∀u∈us,g_ u.goal)
  (h:∀a n c w',Sep F W w' (aj a n c 3 1 (flat one (sJ us))::L)->Fr No w0 w'->Q a n c w'):DJ la ln lc w0 Q:=by
 apply X5;have hlen:=hU.len;refine Yz (bt (F:=No)) 258 e9 Ck λmb w s=>?_;have loop:∀(j i:Nat) (a:Option Addr) (n c:Nat) (ms:List (Int×Bool)) (w:World),i+j=ln->n<=i->ou ms->(∀g,e_ ms g=if g∈sJ (us.take i)then some true else none)->Sep No w0 w (aj a n c 3 1 (flat one (sJ (us.take i)))::fF e9 Ck mb ms::[])->
   Ce Q (j+1) a n c (some mb) la ln lc (ln:Int) i w:=by
  intro j;induction j with
  |zero=>
   intro i a n c ms w hij Y3 hk ha s;show yy _ _ _ _ _ _ _ _ _ _ _ _;rw[yy,bp];rw[List.take_of_length_le (by omega)]at s;have s:=cF (L':=[aj a n c 3 1 (flat one (sJ us))]) [0] s rfl (by decide);exact h a n c w (fP s0 s) (au s)
  |succ j ih=>
   intro i a n c ms w hij Y3 hk ha s;show yy _ _ _ _ _ _ _ _ _ _ _ _;rw[yy,bJ];refine(hU.fr (au s)).El rfl (by omega) λp u hu hc=>?_;have hug:=yW u (List.mem_of_getElem? hu);have xq:sJ (us.take (i+1))=Dw (sJ (us.take i)) u:=by unfold sJ;rw[List.take_add_one,hu];grind
   have wr:IntKind.wrap .i64 ((i:Int)+1)=((i+1:Nat):Int):=by rw[Gm (g_.wf (by unfold g_;omega))];omega
   refine aQ (hc 0 _ rfl) (aQ (hc 1 _ rfl) (aQ (hc 2 _ rfl) ?_));refine aY s λx w s=>?_;refine sT s 0 rfl λw s=>?_;refine sT s 0 rfl λw s=>?_;refine az s (i:=0) rfl rfl rfl λw s=>?_;apply lI s 0 rfl;rw[wr];refine Dt (K:=e9) Nk (YM w) s (i:=2) rfl hk hug (λhn=>?_) λb hb=>?_
   ·have hno:u.goal∉sJ (us.take i):=λhm=>by rw[ha,if_pos hm]at hn;cases hn
    apply lI s 0 rfl;refine KC Nk s (i:=2) rfl hk hug λms' w hk' Dg hl' s=>?_;apply lI s 0 rfl;have s:=cF (L':=[_,_,_]) [1,0,2] s rfl (by decide);refine Kb s (by omega) λa' c' w s=>?_;refine ih (i+1) a' (n+1) c' ms' w (by omega) (by omega) hk' (λg=>?_) ?_
    ·rw[Dg,ha,xq];rw[Dw,if_neg hno];by_cases e:g=u.goal
     ·rw[if_pos e,if_pos (by rw[e];simp)]
     ·have:(g∈sJ (us.take i)++[u.goal])↔g∈sJ (us.take i):=by simp[e]
      rw[if_neg e];simp[this]
    ·rw[xq];rw[Dw,if_neg hno];exact cF (L':=[_,_]) [0,2] s rfl (by decide)
   ·have hm:u.goal∈sJ (us.take i):=by
     rw[ha]at hb;split at hb
     ·assumption
     ·cases hb
    rw[ha,if_pos hm]at hb;cases hb;refine ih (i+1) a n c ms w (by omega) (by omega) hk (λg=>?_) ?_
    ·rw[ha,xq];rw[Dw,if_pos hm]
    ·rw[xq];rw[Dw,if_pos hm];exact ai s
 exact⟨ln+1,loop ln 0 none 0 0 [] w (by omega) (by omega) List.Pairwise.nil (λg=>rfl) (bE s 3 1)⟩
end
end Go.Proofs.YtmegplnmiepfbaaGreatDoor.S
namespace Go.Proofs.YtmegplnmiepfbaaGreatDoor.S
open Go.Sx
def adG {F:Nat->Prop}{W w:World}{L:List As}{K:Option Nat->World->Prop}{n:Int}{k' e:TypeId}{P:Program}{t:TypeId}(ht:P.underlying t=some (.map k' e))(s:Sep F W w L)(k:TypeId)(h:∀b w',Sep F W w' (mapA P k b []::L)->K (some b) w'):b_ P t (some (ae n)) w K:=by
 unfold Sx.b_ aK;have e:(Instr.makeMap t (some (ae n))).run P w=.ok (.map (some w.heap.size)) (w.alloc (.map #[] 0)):=by simp[Instr.makeMap,newObj,run_underlying ht,asInt,Result.andThen];rfl
 rw[e];refine h _ _ (Gl s (Fr.alloc Fr.refl _) ?_ λx hx=>?_)
 ·exact⟨#[],0,heap_alloc_new w _,rfl,by simp⟩
 ·have hx:x=w.heap.size:=hx;omega
attribute [local irreducible] af cq bq bf aB bY bT St Bx Al App cu cg b_ bR aK bw aq bP av aj aU mapA
structure nk (w h:Int) (us:List aM):Prop where
 wh:iU w h
 ids:(us.map (·.id)).Pairwise (·<·)
 pos:∀u∈us,0<=u.id
 at_:∀u∈us,bC w h u.cell/\bC w h u.goal
 nd:(us.map (·.cell)).Nodup
section
variable {F:Nat->Prop}{W w w0:World}{L:List As}{la:Option Addr}{ln lc:Nat}{us:List aM}{mw mh:Int}
def zI {c:Int}(h:bC mw mh c):g_ c:=by have:=pZ h.1;have:=h.2;unfold g_;omega
def Pt {Q:Bool->World->Prop}(s0:Sep F W w0 L)(hU:Sl w0 la ln lc 3 gW us)(pI:ln<=1000000)(hm:nk mw mh us)
  (h:∀w',Sep F W w' L->Fr No w0 w'->Q true w'):BW mw mh la ln lc w0 Q:=by
 apply abK;apply o7;rw[decide_eq_true hm.wh,Bool.not_true,cond_false];refine adG Nk (bt (F:=No)) 3 λmb w s=>?_;have s:=s;have loop:∀(j i:Nat) (last:Int) (ms:List (Int×Bool)) (w:World),i+j=ln->(∀u∈us.drop i,last<u.id)->ou ms->(∀g,e_ ms g=if g∈(us.take i).map (·.cell)then some true else none)->Sep No w0 w (fF e9 Ck mb ms::[])->
   Fa Q (j+1) mw mh last (some mb) la ln lc (ln:Int) i w:=by
  intro j;induction j with
  |zero=>
   intro i last ms w hij hl hk ha s;show Bs _ _ _ _ _ _ _ _ _ _ _ _;rw[Bs,bp];exact h w (fP s0 (ai s)) (au s)
  |succ j ih=>
   intro i last ms w hij hl hk ha s;show Bs _ _ _ _ _ _ _ _ _ _ _ _;rw[Bs,bJ];refine(hU.fr (au s)).El rfl (by omega) λp u hu hc=>?_;have hmem:=List.mem_of_getElem? hu;obtain⟨WY,Tu⟩:=hm.at_ u hmem;have hd:us.drop i=u::us.drop (i+1):=by have hi:=(List.getElem?_eq_some_iff.1 hu).1;rw[List.drop_eq_getElem_cons hi];have:=(List.getElem?_eq_some_iff.1 hu).2;rw[this]
   have xq:us.take (i+1)=us.take i++[u]:=by rw[List.take_add_one,hu];rfl
   have hno:u.cell∉(us.take i).map (·.cell):=λhin=>by have hnd:=hm.nd;rw[<-List.take_append_drop i us,hd,List.map_append,List.map_cons,List.nodup_append]at hnd;exact hnd.2.2 _ hin _ (List.mem_cons_self ..) rfl
   have atw:=hl u (by rw[hd];exact List.mem_cons_self ..);have atS:∀v∈us.drop (i+1),u.id<v.id:=λv hv=>by have hp:=hm.ids;rw[<-List.take_append_drop i us,hd,List.map_append,List.map_cons,List.pairwise_append]at hp;exact(List.pairwise_cons.1 hp.2.1).1 v.id (List.mem_map.2 ⟨v,hv,rfl⟩)
   have wr:IntKind.wrap .i64 ((i:Int)+1)=((i+1:Nat):Int):=by rw[Gm (g_.wf (by unfold g_;omega))];omega
   refine aQ (hc 0 _ rfl) (aQ (hc 1 _ rfl) (aQ (hc 2 _ rfl) ?_));refine aY s λx w s=>?_;refine sT s 0 rfl λw s=>?_;refine sT s 0 rfl λw s=>?_;refine az s (i:=0) rfl rfl rfl λw s=>?_;apply lI s 0 rfl;rw[bp];apply lI s 0 rfl;refine eL s λw s _=>?_;have h1:=(bQ WY).2.1;have h2:=(bQ Tu).2.1;rw[bp];apply lI s 0 rfl;refine eL s λw s _=>?_;rw[bp];apply lI s 0 rfl;rw[wr];refine Dt (K:=e9) Nk (YM w) s (i:=1) rfl hk (zI WY) (λhn=>?_) λb hb=>?_
   ·have s:=ax s;refine lI s 0 rfl (lI s 0 rfl ⟨cN s 0 rfl,?_⟩);refine KC Nk s (i:=1) rfl hk (zI WY) λms' w hk' Dg hl' s=>?_;refine ih (i+1) u.id ms' w (by omega) atS hk' (λg=>?_) (ai s);rw[Dg,ha,xq,List.map_append];by_cases e:g=u.cell
    ·rw[if_pos e,if_pos (by rw[e];simp)]
    ·have:(g∈(us.take i).map (·.cell)++[u].map (·.cell))↔g∈(us.take i).map (·.cell):=by simp[e]
     rw[if_neg e];simp only[this]
   ·rw[ha,if_neg hno]at hb;cases hb
 exact⟨ln+1,loop ln 0 (-1) [] w (by omega) (λu hu=>by have:=hm.pos u (List.mem_of_mem_drop hu);omega) List.Pairwise.nil (λg=>rfl) s⟩
end
end Go.Proofs.YtmegplnmiepfbaaGreatDoor.S
namespace Go.Proofs.YtmegplnmiepfbaaGreatDoor.S
open Go.Sx
def stand (us:List aM)(c:Int):Bool:=us.any λv=>decide (v.cell=c)
def mF (w h:Int)(st:List aM)(u:aM)(d:Int):Bool:=decide (0<=aX w h u.cell d)&&!stand st (aX w h u.cell d)
def kX (w h:Int)(u:aM)(d:Int):List aM:=if aX w h u.cell d=u.goal then[]else[⟨u.id,aX w h u.cell d,u.goal⟩]
def cK (w h:Int):List aM->List (aM×Int)->List aM×List (Int×Int)×List Int
 |done,[]=>(done,[],[])
 |done,(u,d)::rest=>
  if mF w h (done++u::rest.map (·.1)) u d=true then
   ((cK w h (done++kX w h u d) rest).1,(u.id,aX w h u.cell d)::(cK w h (done++kX w h u d) rest).2.1,(if aX w h u.cell d=u.goal then[u.id]else[])++(cK w h (done++kX w h u d) rest).2.2)
  else cK w h (done++[u]) rest
section
variable {w h d:Int}{done us:List aM}{u:aM}{rest todo:List (aM×Int)}
def BK (hb:mF w h (done++u::rest.map (·.1)) u d=true):cK w h done ((u,d)::rest)=((cK w h (done++kX w h u d) rest).1,(u.id,aX w h u.cell d)::(cK w h (done++kX w h u d) rest).2.1,(if aX w h u.cell d=u.goal then[u.id]else[])++(cK w h (done++kX w h u d) rest).2.2):=by rw[cK,if_pos hb]
def zJ (hb:mF w h (done++u::rest.map (·.1)) u d=false):cK w h done ((u,d)::rest)=cK w h (done++[u]) rest:=by rw[cK,if_neg (by grind)]
def adH {c:Int}:stand us c=true↔c∈us.map (·.cell):=by unfold stand;grind
def acC:mF w h us u d=true↔0<=aX w h u.cell d/\aX w h u.cell d∉us.map (·.cell):=by rw[mF,Bool.and_eq_true,decide_eq_true_eq,<-adH];grind
def nk.sub {us':List aM}(hm:nk w h us)(hs:us'.Sublist us):nk w h us':=
 ⟨hm.wh,hm.ids.sublist (hs.map _),λv hv=>hm.pos v (hs.subset hv),λv hv=>hm.at_ v (hs.subset hv),hm.nd.sublist (hs.map _)⟩
def nk.Ve {v:aM}{us':List aM}(hm:nk w h (done++u::us'))(yW:v.id=u.id)(hc:bC w h v.cell)(hg:bC w h v.goal)(hn:v.cell∉(done++us').map (·.cell)):nk w h (done++v::us'):=by
 have hmem:∀x∈done++v::us',x=v\/x∈done++u::us':=λx hx=>by grind
 have hu:u∈done++u::us':=by simp
 refine⟨hm.wh,?_,λx hx=>?_,λx hx=>?_,?_⟩
 ·have:=hm.ids;grind
 ·rcases hmem x hx with rfl|hx
  ·rw[yW];exact hm.pos u hu
  ·exact hm.pos x hx
 ·rcases hmem x hx with rfl|hx
  ·grind
  ·exact hm.at_ x hx
 ·have h0:=hm.nd;grind
def ag3 (hb:mF w h us u d=true):bC w h (aX w h u.cell d):=(y8 (acC.1 hb).1).2
def ag4 {us':List aM}(hm:nk w h (done++u::us'))(hb:mF w h (done++u::us') u d=true):nk w h ((done++kX w h u d)++us'):=by
 obtain⟨h0,h1⟩:=acC.1 hb;rw[List.append_assoc];unfold kX;split
 ·exact hm.sub (List.Sublist.append_left (List.sublist_cons_self _ _) _)
 ·refine hm.Ve rfl (ag3 hb) (hm.at_ u (by simp)).2 λhin=>h1 ?_;grind
def Vg:∀(todo:List (aM×Int)) (done:List aM),nk w h (done++todo.map (·.1))->nk w h (cK w h done todo).1
 |[],done,hm=>by simpa[cK]using hm
 |(u,d)::rest,done,hm=>by
  cases hb:mF w h (done++u::rest.map (·.1)) u d with
  |true=>
   rw[BK hb];exact Vg rest _ (ag4 hm hb)
  |false=>
   rw[zJ hb];exact Vg rest _ (by grind)
def aaI:∀(todo:List (aM×Int)) (done:List aM),(cK w h done todo).2.1=[]->(cK w h done todo).1=done++todo.map (·.1)
 |[],done,_=>by simp[cK]
 |(u,d)::rest,done,hm=>by
  cases hb:mF w h (done++u::rest.map (·.1)) u d with
  |true=>rw[BK hb]at hm;cases hm
  |false=>
   rw[zJ hb]at hm⊢;rw[aaI rest _ hm];simp
def aaJ:∀(todo:List (aM×Int)) (done:List aM) {m:Int×Int} {ms:List (Int×Int)},(cK w h done todo).2.1=m::ms->
  ∃done' u d rest,mF w h (done'++u::rest.map (·.1)) u d=true/\done'++u::rest.map (·.1)=done++todo.map (·.1)/\m=(u.id,aX w h u.cell d)/\(cK w h (done'++kX w h u d) rest).2.1=ms/\(cK w h (done'++kX w h u d) rest).1=(cK w h done todo).1
 |[],done,_,_,hm=>by cases hm
 |(u,d)::rest,done,m,ms,hm=>by
  cases hb:mF w h (done++u::rest.map (·.1)) u d with
  |true=>
   rw[BK hb]at hm⊢;grind
  |false=>
   rw[zJ hb]at hm⊢;obtain⟨done',u',d',rest',h1,h2,h3⟩:=aaJ rest _ hm;grind
def My:∀(todo:List (aM×Int)) (done:List aM),(cK w h done todo).1.length+(cK w h done todo).2.2.length=done.length+todo.length/\(cK w h done todo).2.1.length<=todo.length
 |[],done=>by simp[cK]
 |(u,d)::rest,done=>by
  cases hb:mF w h (done++u::rest.map (·.1)) u d with
  |true=>
   rw[BK hb];have:=My rest (done++kX w h u d);have hw:(kX w h u d).length+(if aX w h u.cell d=u.goal then[u.id]else[]).length=1:=by unfold kX;split<;>rfl
   grind
  |false=>
   rw[zJ hb];have:=My rest (done++[u]);grind
end
end Go.Proofs.YtmegplnmiepfbaaGreatDoor.S
namespace Go.Proofs.YtmegplnmiepfbaaGreatDoor.S
open Go.Sx
attribute [local irreducible] af cq bq bf aB bY bT St Bx Al App cu cg b_ bR aK bw aq bP av aj aU mapA
def KU {i:Nat}(h:i<=1000000000):IntKind.wrap .i64 ((i:Int)+1)=((i+1:Nat):Int):=by rw[Gm (g_.wf (by unfold g_;omega))];omega
def kY (x:Int×Int):List Value:=[ae x.1,ae x.2]
def HY (x:Int×Int):(kY x).length=2:=rfl
def amN (x:Int×Int)(u:Value)(h:u∈kY x):u.oneCell'=true:=by unfold kY at h;simp[List.mem_cons,List.not_mem_nil,or_false]at h;rcases h with rfl|rfl<;>rfl
section
variable {F:Nat->Prop}{W w w0:World}{L:List As}{a:Option Addr}{n c:Nat}{mv:List (Int×Int)}
def Vh {K:Addr->World->Prop}{p:Addr}{u:aM}(hc:∀j v,(gW u)[j]? =some v->w.cell? (p.add j)=some v)(s:Sep F W w L)(h:∀x w',Sep F W w' (av x 43 (gW u)::L)->K (aZ x) w'):
  af .i64 (p.add 0) w λa=>af .i64 (p.add 1) w λb=>af .i64 (p.add 2) w λc=>Al T 43 w λx w=>St (x.add 0) (ae a) w λw=>St (x.add 1) (ae b) w λw=>St (x.add 2) (ae c) w λw=>K x w:=by
 refine aQ (hc 0 _ rfl) (aQ (hc 1 _ rfl) (aQ (hc 2 _ rfl) ?_));refine aY s λx w s=>?_;refine sT s 0 rfl λw s=>?_;refine sT s 0 rfl λw s=>?_;refine az s (i:=0) rfl rfl rfl λw s=>?_;exact h x w s
end
def KV (ms:List (Int×Bool))(us:List aM):Prop:=ou ms/\∀c,e_ ms c=if stand us c=true then some true else none
def BL {us vs:List aM}{c:Int}:stand (us++vs) c=(stand us c||stand vs c):=by unfold stand;grind
def Jl {u:aM}{us:List aM}{c:Int}:stand (u::us) c=(decide (u.cell=c)||stand us c):=by unfold stand;grind
def ag5 {us:List aM}{c:Int}:stand us c=false↔c∉us.map (·.cell):=by rw[<-adH];grind
def amO {w h c:Int}(hc:bC w h c):aX w h c 4=c:=by obtain⟨h1,h2,e⟩:=G0 hc;rw[aX,if_pos hc,if_neg (by decide),if_neg (by decide),if_neg (by decide),if_neg (by decide),if_pos rfl,mN hc.1 h1 h2];exact e.symm
def amP {w h c:Int}:aX w h c 5=-1:=by unfold aX;split<;>rfl
abbrev Vi (mw mh:Int)(mb:Nat)(ma:Option Addr)(mn mc:Nat)(ga:Option Addr)(gn gc:Nat):List Value:=[ae mw,ae mh,.map (some mb),.slice ma mn mc,.slice ga gn gc]
section
variable {F:Nat->Prop}{W w w0:World}{L:List As}{ma ga:Option Addr}{mn mc gn gc mb fb ub:Nat}{mv:List (Int×Int)}{gs:List Int}{ms:List (Int×Bool)}{mw mh d:Int}{done us:List aM}{u:aM}
def aq3 {Q:Bool->World->Prop}(hm:nk mw mh (done++u::us))(hS:KV ms (done++u::us))(hmn:mn<=100000000)(F2:gn<=100000000)(s:Sep F W w (av ub 43 (gW u)::av fb 260 (Vi mw mh mb ma mn mc ga gn gc)::fF e9 Ck mb ms::aj ma mn mc 51 2 (flat kY mv)::aj ga gn gc 3 1 (flat one gs)::L))
  (hno:mF mw mh (done++u::us) u d=false->∀w',Sep F W w' (av fb 260 (Vi mw mh mb ma mn mc ga gn gc)::fF e9 Ck mb ms::aj ma mn mc 51 2 (flat kY mv)::aj ga gn gc 3 1 (flat one gs)::av ub 43 (gW u)::L)->Q true w')
  (hyes:mF mw mh (done++u::us) u d=true->∀ms' ma' Vj W8 W9 gc' w',W9<=gn+1->KV ms' ((done++kX mw mh u d)++us)->Sep F W w' (av fb 260 (Vi mw mh mb ma' (mn+1) Vj W8 W9 gc')::fF e9 Ck mb ms'::aj ma' (mn+1) Vj 51 2 (flat kY (mv++[(u.id,aX mw mh u.cell d)]))::aj W8 W9 gc' 3 1 (flat one (gs++if aX mw mh u.cell d=u.goal then[u.id]else[]))::av ub 43 (gW ⟨u.id,aX mw mh u.cell d,u.goal⟩)::L)->Q (!decide (aX mw mh u.cell d=u.goal)) w'):
  j8 Q (sZ fb) (sZ ub) d w:=by
 have hu:=hm.at_ u (by simp);have s:=ax s;refine ah (lI s 1 rfl (ah (lI s 1 rfl (ah (lI s 0 rfl ?_)))));refine j9 s λw s _=>?_;have fin:mF mw mh (done++u::us) u d=false->Q true w:=λhb=>hno hb w (pk 5 [1,2,3,4,0] s);by_cases h0:aX mw mh u.cell d<0
 ·rw[bJ h0];apply fin;unfold mF;grind
 rw[bp h0];have h0:0<=aX mw mh u.cell d:=by omega
 have hto:=(y8 h0).2;refine ah (lM s 1 rfl ?_);refine Dt (K:=e9) Nk (YM w) s (i:=2) rfl hS.1 (zI hto) (λhn=>?_) λb hb=>?_
 ·have hst:stand (done++u::us) (aX mw mh u.cell d)=false:=by
   rw[hS.2]at hn;split at hn
   ·cases hn
   ·exact Bool.eq_false_iff.2 ‹_›
  have hb:mF mw mh (done++u::us) u d=true:=by rw[mF,decide_eq_true h0,hst];rfl
  have hyes:=hyes hb;unfold kX at hyes;generalize aX mw mh u.cell d=to at*;apply acu;have s:=ax s;refine ah (lM s 1 rfl (ah (lI s 0 rfl ?_)));refine asA (K:=e9) Nk s (i:=2) rfl hS.1 (zI hu.1) λms1 w hk1 ha1 _ s=>?_;have hcells:∀c,stand (done++us) c=if c=u.cell then false else stand (done++u::us) c:=λc=>by
   rw[BL,BL,Jl];by_cases e:c=u.cell
   ·rw[if_pos e,e];have:=hm.nd;rw[List.map_append,List.map_cons,List.nodup_append,List.nodup_cons]at this;rw[ag5.2 λh=>this.2.2 _ h _ (List.mem_cons_self ..) rfl,ag5.2 this.2.1.1];rfl
   ·rw[if_neg e,decide_eq_false λh=>e h.symm,Bool.false_or]
  have hS1:KV ms1 (done++us):=⟨hk1,λc=>by
   rw[ha1,hS.2,hcells];by_cases e:c=u.cell
   ·rw[if_pos e,if_pos e];rfl
   ·rw[if_neg e,if_neg e]⟩
  refine ah (sT s 0 rfl λw s=>?_);have s:=ax s;refine ah (lS s 1 rfl (ah (lI s 0 rfl ?_)));have s:=pk 5 [3,0,1,2,4] s;refine aS s λxb w s=>⟨cN s 3 rfl,?_⟩;have src:Src w (sZ xb) 1 2 (kY (u.id,to)):=⟨rfl,amN _,λj v hj=>by rw[cf,Nat.zero_add];exact c9 s (i:=0) rfl rfl hj⟩;refine iH dU s (i:=1) (bytes:=16) rfl rfl rfl rfl rfl rfl (by decide) rfl src (by simp[maxLen];omega) (by omega) (λe=>by cases e) λma' Vj w s=>?_;have e:flat kY mv++kY (u.id,to)=flat kY (mv++[(u.id,to)]):=by rw[gG];simp[flat]
  rw[e]at s;refine ah (az s (i:=3) rfl rfl rfl λw s=>?_);refine ah (lI s 2 rfl ?_);have s:=ai s;by_cases hg:to=u.goal
  ·rw[dK hg,cond_true];have s:=ax s;refine ah (lS s 2 rfl (ah (lI s 1 rfl ?_)));refine aS s λxb w s=>⟨cN s 3 rfl,?_⟩;have src:Src w (sZ xb) 1 1 (one u.id):=⟨rfl,D6 _,λj v hj=>by rw[cf,Nat.zero_add];exact c9 s (i:=0) rfl rfl hj⟩;refine iH dU s (i:=5) (size:=1) (bytes:=8) rfl rfl rfl rfl rfl rfl (by decide) rfl src (by simp[maxLen];omega) (by omega) (λe=>by cases e) λW8 gc' w s=>?_;have e:flat one gs++one u.id=flat one (gs++[u.id]):=by rw[gG];simp[flat]
   rw[e]at s;refine ah (az s (i:=3) rfl rfl rfl λw s=>?_);have s:=pk 6 [3,4,1,5,2] s;have:=hyes ms1 ma' Vj W8 (gn+1) gc' w (Nat.le_refl _) ?_ ?_
   ·rw[decide_eq_true hg]at this;exact this
   ·rw[if_pos hg,List.append_nil];exact hS1
   ·rw[if_pos hg];exact s
  ·rw[cJ hg,cond_false];refine ah (lM s 2 rfl ?_);refine KC (k:=3) (e:=4) (K:=e9) (v:=Ck) (ms:=ms1) (a:=true) (x:=to) Nk s (i:=3) rfl hk1 (zI hto) λms2 w Hs RQ _ s=>?_;have s:=pk 5 [2,3,0,4,1] s;have:=hyes ms2 ma' Vj ga gn gc w (Nat.le_succ _) ?_ ?_
   ·rw[decide_eq_false hg]at this;exact this
   ·rw[if_neg hg];refine⟨Hs,λc=>?_⟩;rw[RQ,hS1.2,BL,BL,BL,Jl];by_cases e:c=to
    ·rw[if_pos e,e,decide_eq_true rfl];simp
    ·rw[if_neg e,decide_eq_false λh=>e h.symm];simp[stand]
   ·rw[if_neg hg,List.append_nil];exact s
 ·have hst:stand (done++u::us) (aX mw mh u.cell d)=true:=by
   rw[hS.2]at hb;split at hb
   ·assumption
   ·cases hb
  rw[hS.2,if_pos hst]at hb;cases hb;apply aj6;apply fin;rw[mF,hst];simp
def YO {Q:Bool->World->Prop}(hd:0<=d/\d<=5)(hm:nk mw mh (done++u::us))(hS:KV ms (done++u::us))(hmn:mn<=100000000)(F2:gn<=100000000)(s:Sep F W w (av ub 43 (gW u)::av fb 260 (Vi mw mh mb ma mn mc ga gn gc)::fF e9 Ck mb ms::aj ma mn mc 51 2 (flat kY mv)::aj ga gn gc 3 1 (flat one gs)::L))
  (hno:mF mw mh (done++u::us) u d=false->∀w',Sep F W w' (av fb 260 (Vi mw mh mb ma mn mc ga gn gc)::fF e9 Ck mb ms::aj ma mn mc 51 2 (flat kY mv)::aj ga gn gc 3 1 (flat one gs)::av ub 43 (gW u)::L)->Q true w')
  (hyes:mF mw mh (done++u::us) u d=true->∀ms' ma' Vj W8 W9 gc' w',W9<=gn+1->KV ms' ((done++kX mw mh u d)++us)->Sep F W w' (av fb 260 (Vi mw mh mb ma' (mn+1) Vj W8 W9 gc')::fF e9 Ck mb ms'::aj ma' (mn+1) Vj 51 2 (flat kY (mv++[(u.id,aX mw mh u.cell d)]))::aj W8 W9 gc' 3 1 (flat one (gs++if aX mw mh u.cell d=u.goal then[u.id]else[]))::av ub 43 (gW ⟨u.id,aX mw mh u.cell d,u.goal⟩)::L)->Q (!decide (aX mw mh u.cell d=u.goal)) w'):
  wY (sZ fb) (sZ ub) d w Q:=by
 apply M7;have hb:¬(4<=d)->j8 Q (sZ fb) (sZ ub) d w:=λ_=>aq3 hm hS hmn F2 s hno hyes;by_cases e0:d=0
 ·grind
 rw[cJ e0,cond_false];by_cases e1:d=1
 ·grind
 rw[cJ e1,cond_false];by_cases e2:d=2
 ·grind
 rw[cJ e2,cond_false];by_cases e3:d=3
 ·grind
 rw[cJ e3,cond_false];refine hno ?_ w (pk 5 [1,2,3,4,0] s);have hu:=(hm.at_ u (by simp)).1;unfold mF;obtain rfl|rfl:d=4\/d=5:=by omega
 ·rw[amO hu,BL,Jl,decide_eq_true rfl];simp
 ·rw[amP];rfl
end
def axG:oB 153 fns=true:=by kernel_rfl
section
variable {F:Nat->Prop}{W w w0:World}{L:List As}{la da:Option Addr}{ln lc dn dc:Nat}{us:List aM}{ds:List Int}{mw mh:Int}
def aoN {Q:Bool->World->Prop}(hD:Sl w da dn dc 1 one ds)(hr:∀d∈ds,0<=d/\d<=5)(hn:dn<=1000000)(h:Q false w):m8 da dn dc (.func (.func 153) #[] #[]) w Q:=by
 apply Da;apply Fb;have hl:=hD.len;have loop:∀(j i:Nat),i+j=dn->jB (λr w=>Q (decide (r≥0)) w) (j+1) da dn dc (.func (.func 153) #[] #[]) (dn:Int) i w:=by
  intro j;induction j with
  |zero=>
   intro i hi;show jA _ _ _ _ _ _ _ _ _;unfold jA;grind
  |succ j ih=>
   intro i hi;show jA _ _ _ _ _ _ _ _ _;rw[jA,bJ];apply hD.pC rfl (by omega);have hd:=hr _ (fy (i:=i) (by omega));unfold gQ;simp only;have hc:JL (gi ds i) w λr w'=>cond r (Q (decide ((i:Int)≥0)) w') (jB (λr w=>Q (decide (r≥0)) w) (j+1) da dn dc (.func (.func 153) #[] #[]) (dn:Int) (IntKind.wrap .i64 ((i:Int)+1)) w'):=by apply X7;rw[bp];show cond (decide (gi ds i>5)) _ _;rw[bp,KU (by omega)];exact ih (i+1) (by omega)
   exact hc
 exact⟨dn+1,loop dn 0 (by omega)⟩
def acD {Q:Option Addr->Nat->Nat->Option Addr->Nat->Nat->Option Addr->Nat->Nat->Int->World->Prop}(s0:Sep F W w0 L)(hU:Sl w0 la ln lc 3 gW us)(hD:Sl w0 da dn dc 1 one ds)(hlen:ds.length=us.length)(pI:ln<=1000000)(hr:∀d∈ds,0<=d/\d<=5)(hm:nk mw mh us)
  (h:∀aa an ac ma mn mc ga gn gc w',Sep F W w' (aj ma mn mc 51 2 (flat kY (cK mw mh [] (us.zip ds)).2.1)::aj ga gn gc 3 1 (flat one (cK mw mh [] (us.zip ds)).2.2)::L)->Fr No w0 w'->Q aa an ac ma mn mc ga gn gc 0 w'):
  Gs mw mh la ln lc da dn dc w0 Q:=by
 apply abN;have hul:=hU.len;have hdl:=hD.len;refine Pt (bt (F:=No)) hU pI hm λw s _=>?_;rw[Bool.not_true,cond_false,wv (by omega),cond_false];apply aoN (hD.fr (au s)) hr (by omega);refine adG Nk s 3 λmb w s=>?_;have s:=s;refine aS s λfb w s=>?_;have asW:(us.zip ds).map (·.1)=us:=by rw[List.map_fst_zip];omega
 have walk:∀(j i:Nat) (done:List aM) (ms:List (Int×Bool)) (mv:List (Int×Int)) (gs:List Int) (aa ma ga:Option Addr) (an ac mn mc gn gc:Nat) (w:World),i+j=ln->mn<=i->gn<=i->an<=i->nk mw mh (done++((us.zip ds).drop i).map (·.1))->KV ms (done++((us.zip ds).drop i).map (·.1))->
   mv++(cK mw mh done ((us.zip ds).drop i)).2.1=(cK mw mh [] (us.zip ds)).2.1->gs++(cK mw mh done ((us.zip ds).drop i)).2.2=(cK mw mh [] (us.zip ds)).2.2->
   Sep No w0 w (av fb 260 (Vi mw mh mb ma mn mc ga gn gc)::fF e9 Ck mb ms::aj ma mn mc 51 2 (flat kY mv)::aj ga gn gc 3 1 (flat one gs)::aj aa an ac 43 3 (flat gW done)::[])->
   Dq Q (j+1) da dn dc aa an ac (aZ fb) la ln lc (ln:Int) i w:=by
  intro j;induction j with
  |zero=>
   intro i done ms mv gs aa ma ga an ac mn mc gn gc w hij hmn F2 han hM hS RU D2 s;show zZ _ _ _ _ _ _ _ _ _ _ _ _ _ _ _;rw[zZ,bp];have s:=ax s;have hz:(us.zip ds).drop i=[]:=List.drop_eq_nil_of_le (by grind);rw[hz]at RU D2;simp[cK,List.append_nil]at RU D2;have c3:=c9 s (i:=0) (j:=3) rfl rfl rfl;have c4:=c9 s (i:=0) (j:=4) rfl rfl rfl;refine lS s 0 rfl (lS s 0 rfl ⟨c4,c3,c4,?_⟩);rw[RU,D2]at s;have s:=cF (L':=[_,_]) [2,3] s rfl (by decide);exact h aa an ac ma mn mc ga gn gc _ (fP s0 s) (au s)
  |succ j ih=>
   intro i done ms mv gs aa ma ga an ac mn mc gn gc w hij hmn F2 han hM hS RU D2 s;show zZ _ _ _ _ _ _ _ _ _ _ _ _ _ _ _;rw[zZ,bJ];refine(hU.fr (au s)).El rfl (by omega) λp u hu hc=>?_;have hdi:ds[i]? =some (gi ds i):=gM (by omega);have hd:=hr _ (List.mem_of_getElem? hdi);have hz:(us.zip ds).drop i=(u,gi ds i)::(us.zip ds).drop (i+1):=by
    have hzi:(us.zip ds)[i]? =some (u,gi ds i):=by rw[List.getElem?_zip_eq_some];exact⟨hu,hdi⟩
    obtain⟨hlt,e⟩:=List.getElem?_eq_some_iff.1 hzi;rw[List.drop_eq_getElem_cons hlt,e]
   rw[hz]at hM hS RU D2;have hM:=hM;have hS:=hS;refine Vh hc s λub w s=>?_;apply(hD.fr (au s)).pC rfl (by omega);generalize gi ds i=d at*;rw[KU (by omega)];refine YO hd hM hS (by omega) (by omega) s (λhb w s=>?_) λhb ms' ma' Vj W8 W9 gc' w azf hS' s=>?_
   ·rw[zJ hb]at RU D2;refine lI s 4 rfl (lI s 4 rfl (lI s 4 rfl ?_));have s:=cF (L':=[_,_,_,_,_]) [5,0,1,2,3] s rfl (by decide);refine aoL s (by omega) λaa' ac' w s=>?_;exact ih (i+1) (done++[u]) ms mv gs aa' ma ga (an+1) ac' mn mc gn gc w (by omega) (by omega) (by omega) (by omega) (by rw[List.append_assoc];exact hM) (by rw[List.append_assoc];exact hS) RU D2 (cF (L':=[_,_,_,_,_]) [1,2,3,4,0] s rfl (by decide))
   ·rw[BK hb]at RU D2;have hM':=ag4 hM hb;by_cases hg:aX mw mh u.cell d=u.goal
    ·rw[decide_eq_true hg,Bool.not_true,cond_false];have ew:kX mw mh u d=[]:=by unfold kX;rw[if_pos hg]
     rw[ew,List.append_nil]at hM' hS' RU D2;exact ih (i+1) done ms' _ _ aa ma' W8 an ac (mn+1) Vj W9 gc' w (by omega) (by omega) (by omega) (by omega) hM' hS' (by rw[List.append_assoc];exact RU) (by rw[List.append_assoc];exact D2) (cF (L':=[_,_,_,_,_]) [0,1,2,3,5] s rfl (by decide))
    ·rw[decide_eq_false hg,Bool.not_false,cond_true];have ew:kX mw mh u d=[⟨u.id,aX mw mh u.cell d,u.goal⟩]:=by unfold kX;rw[if_neg hg]
     rw[ew]at hM' hS' RU D2;rw[if_neg hg,List.append_nil]at s;rw[if_neg hg,List.nil_append]at D2;refine lI s 4 rfl (lI s 4 rfl (lI s 4 rfl ?_));have s:=cF (L':=[_,_,_,_,_]) [5,0,1,2,3] s rfl (by decide);refine aoL s (by omega) λaa' ac' w s=>?_;exact ih (i+1) _ ms' _ gs aa' ma' W8 (an+1) ac' (mn+1) Vj W9 gc' w (by omega) (by omega) (by omega) (by omega) hM' hS' (by rw[List.append_assoc];exact RU) D2 (cF (L':=[_,_,_,_,_]) [1,2,3,4,0] s rfl (by decide))
 have fill:∀(j i:Nat) (ms:List (Int×Bool)) (w:World),i+j=ln->KV ms (us.take i)->Sep No w0 w (av fb 260 (Vi mw mh mb none 0 0 none 0 0)::fF e9 Ck mb ms::[])->
   Fc Q (j+1) la ln lc da dn dc none 0 0 (aZ fb) la ln lc (ln:Int) i w:=by
  intro j;induction j with
  |zero=>
   intro i ms w hij hS s;show Bt _ _ _ _ _ _ _ _ _ _ _ _ _ _ _ _ _ _;rw[Bt,bp];rw[List.take_of_length_le (by omega)]at hS;have s:=bE (bE (bE s 3 1) 51 2) 43 3;have s:=cF (L':=[_,_,_,_,_]) [3,4,1,2,0] s rfl (by decide);refine⟨ln+1,walk ln 0 [] ms [] [] none none none 0 0 0 0 0 0 w (by omega) (by omega) (by omega) (by omega) ?_ ?_ rfl rfl s⟩
   ·rw[List.drop_zero,asW];exact hm
   ·rw[List.drop_zero,asW];exact hS
  |succ j ih=>
   intro i ms w hij hS s;show Bt _ _ _ _ _ _ _ _ _ _ _ _ _ _ _ _ _ _;rw[Bt,bJ];refine(hU.fr (au s)).El rfl (by omega) λp u hu hc=>?_;refine Vh hc s λub w s=>?_;have s:=ax s;refine lM s 1 rfl (lI s 0 rfl ?_);have hcell:=(hm.at_ u (List.mem_of_getElem? hu)).1;refine KC Nk s (i:=2) rfl hS.1 (zI hcell) λms2 w Hs RQ _ s=>?_;rw[KU (by omega)];refine ih (i+1) ms2 w (by omega) ⟨Hs,λc=>?_⟩ (ai s);have xq:us.take (i+1)=us.take i++[u]:=by rw[List.take_add_one,hu];rfl
   rw[RQ,hS.2,xq,BL,Jl];by_cases e:c=u.cell
   ·rw[if_pos e,e,decide_eq_true rfl];simp
   ·rw[if_neg e,decide_eq_false λh=>e h.symm];simp[stand]
 refine⟨ln+1,fill ln 0 [] w (by omega) ⟨List.Pairwise.nil,λc=>rfl⟩ s⟩
end
end Go.Proofs.YtmegplnmiepfbaaGreatDoor.S
