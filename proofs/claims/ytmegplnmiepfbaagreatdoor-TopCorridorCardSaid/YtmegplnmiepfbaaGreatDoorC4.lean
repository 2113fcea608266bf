/- Part 5 of the proof. -/
import Derived.Test.YtmegplnmiepfbaaGreatDoorC3
import Derived.Lib.MakeNoZero
import Derived.Test.YtmegplnmiepfbaaGreatDoorRows
import Derived.LaidLaws
import Derived.LaidHandle
import Derived.ChangeSame
import Derived.JoinedOf
set_option linter.unusedVariables false
set_option linter.unusedSimpArgs false
set_option linter.defProp false
namespace Go.Proofs.YtmegplnmiepfbaaGreatDoor.S
open Go.Sx
attribute [local irreducible] af cq bq bf aB bY bT St Bx Al App cu cg b_ bR aK bw aq bP av aj aU mapA
def atU (us:List aM)(c:Int):Option aM:=us.find? λv=>decide (v.cell=c)
def tQ (us:List aM)(c:Int):Int:=match atU us c with
 |some u=>u.id
 |none=>-1
section
variable {us us':List aM}{u:aM}{c:Int}
def DZ (h:c∉us.map (·.cell)):tQ us c=-1:=by
 have:atU us c=none:=by unfold atU;grind
 rw[tQ,this]
def zK (hn:(us.map (·.cell)).Nodup)(h:u∈us):tQ us u.cell=u.id:=by
 have:atU us u.cell=some u:=by
  unfold atU;induction us with
  |nil=>cases h
  |cons v us ih=>
   grind
 rw[tQ,this]
def YP (hn:(us.map (·.cell)).Nodup)(hn':(us'.map (·.cell)).Nodup)(h:∀v:aM,v.cell=c->(v∈us↔v∈us')):tQ us c=tQ us' c:=by
 by_cases hc:c∈us.map (·.cell)
 ·obtain⟨v,hv,rfl⟩:=List.mem_map.1 hc;rw[zK hn hv,zK hn' ((h v rfl).1 hv)]
 ·rw[DZ hc,DZ λe=>?_];grind
def aq4 {w h:Int}(hm:nk w h us):tQ us c=-1\/0<=tQ us c/\∃u∈us,u.cell=c/\tQ us c=u.id:=by
 by_cases hc:c∈us.map (·.cell)
 ·obtain⟨v,hv,rfl⟩:=List.mem_map.1 hc;rw[zK hm.nd hv];exact .inr ⟨hm.pos v hv,v,hv,rfl,rfl⟩
 ·exact .inl (DZ hc)
end
structure FI (w h:Int) (us:List aM) (ws:List Int):Prop where
 len:(ws.length:Int)=w*h
 at_:∀c,bC w h c->gi ws c.toNat=tQ us c+1
section
variable {us us':List aM}{u:aM}{c v mw mh:Int}{ws:List Int}
def FI.lt (h:FI mw mh us ws)(hc:bC mw mh c):0<=c/\c<ws.length:=by have:=h.len;have:=hc.2;omega
def FI.who (h:FI mw mh us ws)(hc:bC mw mh c):Bw ws c=tQ us c:=by rw[Bw,if_pos (h.lt hc),h.at_ c hc];omega
def FI.free (h:FI mw mh us ws)(hc:bC mw mh c):zB ws c=decide (tQ us c=-1):=by rw[zB,decide_eq_true (h.lt hc),h.at_ c hc,Bool.true_and,Bool.eq_iff_iff,beq_iff_eq,decide_eq_true_eq];omega
def FI.set (h:FI mw mh us ws)(hc:bC mw mh c)(e:∀c',bC mw mh c'->tQ us' c'+1=if c'=c then v else tQ us c'+1):FI mw mh us' (ws.set c.toNat v):=by have hl:=h.lt hc;refine⟨by rw[List.length_set];exact h.len,λc' Aq=>?_⟩;rw[Ts (by omega),e c' Aq,h.at_ c' Aq];have:=Aq.2;omega
def aiW {done:List aM}(hm:nk mw mh (done++u::us))(hf:FI mw mh (done++u::us) ws):FI mw mh (done++us) (ws.set u.cell.toNat 0):=by
 have Db:=hm.sub (us':=done++us) (List.Sublist.append_left (List.sublist_cons_self _ _) _);refine hf.set (hm.at_ u (by simp)).1 λc' _=>?_;have hnd:=hm.nd;by_cases e:c'=u.cell
 ·rw[if_pos e,e,DZ]
  all_goals grind
 ·rw[if_neg e,YP Db.nd hm.nd λv hv=>?_];grind
def amR {done:List aM}(hm:nk mw mh (done++u::us))(hf:FI mw mh (done++us) ws):FI mw mh (done++u::us) (ws.set u.cell.toNat (u.id+1)):=by
 have Db:=hm.sub (us':=done++us) (List.Sublist.append_left (List.sublist_cons_self _ _) _);refine hf.set (hm.at_ u (by simp)).1 λc' _=>?_;by_cases e:c'=u.cell
 ·rw[if_pos e,e,zK hm.nd (by simp)]
 ·rw[if_neg e,YP hm.nd Db.nd λv hv=>?_];grind
end
structure CrR where
 p:Nat
 un:UR
 fl:OX
structure Gb where
 w:Int
 h:Int
 y:sG
 ws:List Int
structure aoO (x:Gb):Prop where
 may:nk x.w x.h x.y.us
 fl:FI x.w x.h x.y.us x.ws
def yL (r:CrR)(x:Gb):List Value:=[ae x.w,ae x.h,ae x.y.most,.pointer (sZ r.un.p),.pointer (sZ r.fl.p)]
noncomputable def aq5 (r:CrR)(x:Gb):List As:=[av r.p 125 (yL r x),vk r.un x.y,uI r.fl x.ws]
noncomputable def fL (r:CrR)(x:Gb):As:=aU (aoO x) (aq5 r x)
def ow (w h:Int)(y:sG)(cell goal:Int):Int:=if¬(bC w h cell/\bC w h goal)then 7 else if tQ y.us cell≠-1 then 10 else if(y.us.length:Int)≥y.most then 11 else if cell=goal then 13 else 0
section
variable {F:Nat->Prop}{W w w0:World}{L:List As}{r:CrR}{x:Gb}{cell goal id:Int}
def qE (s:Sep F W w (fL r x::L)):aoO x/\Sep F W w (av r.p 125 (yL r x)::vk r.un x.y::uI r.fl x.ws::L):=iT s
def xk (s:Sep F W w (av r.p 125 (yL r x)::vk r.un x.y::uI r.fl x.ws::L))(h:aoO x):Sep F W w (fL r x::L):=dW s h
def aiX {u:aM}{us:List aM}{mw mh:Int}(hm:nk mw mh us)(yW:∀v∈us,v.id<u.id)(hp:0<=u.id)(hc:bC mw mh u.cell)(hg:bC mw mh u.goal)(hn:u.cell∉us.map (·.cell)):nk mw mh (us++[u]):=by
 have hm1:∀v∈us++[u],v∈us\/v=u:=λv hv=>by grind
 refine⟨hm.wh,?_,λv hv=>?_,λv hv=>?_,?_⟩
 ·rw[List.map_append,List.pairwise_append];refine⟨hm.ids,by simp,λa ha b hb=>?_⟩;grind
 ·rcases hm1 v hv with hv|rfl
  ·exact hm.pos v hv
  ·exact hp
 ·rcases hm1 v hv with hv|rfl
  ·exact hm.at_ v hv
  grind
 ·rw[List.map_append,List.nodup_append];refine⟨hm.nd,by simp,λa ha b hb=>?_⟩;grind
def aaK {Q:Option Addr->World->Prop}{mw mh most:Int}(hm:iU mw mh)(VM:1<=most/\most<=65536)(s:Sep F W w L)(h:∀r ws w',Sep F W w' (fL r ⟨mw,mh,⟨most,0,[]⟩,ws⟩::L)->Q (sZ r.p) w'):EX mw mh most w Q:=by apply Zx;have hwh:=pZ hm;apply o7;rw[decide_eq_true hm,Bool.not_true,cond_false,bp,bp];refine aai VM s λur w s=>?_;rw[aF,show mw*mh=(((mw*mh).toNat:Nat):Int) by omega];refine ZU s (by omega) λfr w s=>?_;refine aS s λp w s=>?_;have s:=pk 3 [0,2,1] s;refine h ⟨p,ur,fr⟩ _ w (xk s ⟨⟨hm,List.Pairwise.nil,(λu hu=>by cases hu),(λu hu=>by cases hu),List.Pairwise.nil⟩,⟨by grind,λc hc=>?_⟩⟩);have:0<=c/\c<mw*mh:=hc.2;show(List.replicate _ _).getD _ _=_;rw[List.getD_eq_getElem?_getD,List.getElem?_replicate,zP];rfl
def akg {Q:Bool->World->Prop}{c:Int}(s:Sep F W w (fL r x::L))(h:∀w',Sep F W w' (fL r x::L)->Q (decide (bC x.w x.h c)) w'):oL (sZ r.p) c w Q:=by
 apply Ql;have s:=ax s;obtain⟨hok,so⟩:=qE s;refine ah (lI so 0 rfl (ah (lI so 0 rfl ?_)));refine eL s λw s _=>?_;have e:decide (aC x.w x.h c≥0)=decide (bC x.w x.h c):=decide_eq_decide.2 ⟨λh=>by
  by_cases hc:bC x.w x.h c
  ·exact hc
  ·unfold aC at h;grind,λh=>(bQ h).2.1⟩
 grind
def adJ {Q:Int->World->Prop}{c g:Int}(h:Q (if c=g then 13 else 0) w):ng Q c g w:=by unfold ng;grind
def amS {Q:Int->World->Prop}{p:Option Addr}{c g:Int}(h:Q (if c=g then 13 else 0) w):mH p 3 c g w Q:=by apply Cw;exact adJ h
def amT {Q:Int->World->Prop}(s:Sep F W w (fL r x::L))(h:∀w',Sep F W w' (fL r x::L)->Q (ow x.w x.h x.y cell goal) w'):mH (sZ r.p) 0 cell goal w Q:=by
 apply Cw;unfold ow at h;refine akg s λw s=>?_;by_cases hc:bC x.w x.h cell
 ·rw[decide_eq_true hc,Bool.not_true,cond_false];refine akg s λw s=>?_;by_cases hg:bC x.w x.h goal
  ·rw[decide_eq_true hg,Bool.not_true,cond_false];rw[if_neg λe=>e ⟨hc,hg⟩]at h;obtain⟨hok,so⟩:=qE s;refine ah (lP so 0 rfl ?_);apply AD (Fj (ai (ai so)));rw[hok.fl.who hc];by_cases hw:tQ x.y.us cell=-1
   ·rw[wv hw,cond_false];rw[if_neg λe=>e hw]at h;have s:=ax s;have so:=ax so;refine ah (lP so 0 rfl (ah (lI so 0 rfl ?_)));refine aaj (ai so) ⟨cN so 0 rfl,?_⟩;by_cases hl:(x.y.us.length:Int)≥x.y.most
    ·grind
    ·rw[bp hl];rw[if_neg hl]at h;exact adJ (h _ s)
   grind
  grind
 grind
def ah3 {y:sG}{mw mh:Int}(h:ow mw mh y cell goal=0):bC mw mh cell/\bC mw mh goal/\tQ y.us cell=-1/\(y.us.length:Int)<y.most/\cell≠goal:=by unfold ow at h;grind
def aiY {us:List aM}{mw mh c:Int}(hm:nk mw mh us):tQ us c=-1↔c∉us.map (·.cell):=by refine⟨λh e=>?_,DZ⟩;obtain⟨v,hv,rfl⟩:=List.mem_map.1 e;rw[zK hm.nd hv]at h;have:=hm.pos v hv;omega
def WC {Q:Int->Int->World->Prop}(hn:x.y.next<1000000000)(s:Sep F W w (fL r x::L))
  (FH:ow x.w x.h x.y cell goal≠0->∀w',Sep F W w' (fL r x::L)->Q (-1) (ow x.w x.h x.y cell goal) w')
  (hok:ow x.w x.h x.y cell goal=0->∀r' FJ w',r'.p=r.p->Sep F W w' (fL r' ⟨x.w,x.h,KT x.y cell goal,FJ⟩::L)->Q x.y.next 0 w'):vv (sZ r.p) cell goal w Q:=by
 apply Ld;refine l9 (amT s λw s=>?_);by_cases h0:ow x.w x.h x.y cell goal=0
 ·rw[wv h0,cond_false];obtain⟨hc,hg,hw,hl,hne⟩:=ah3 h0;obtain⟨ok,s⟩:=qE s;refine ah (lP s 0 rfl ?_);have CW:=(tZ (ai s)).1;have Pq:=CW.Pb;have s:=pk 3 [1,0,2] s;refine aaE s hn hl λur w eu s=>?_;refine ah (lP s 1 rfl ?_);have s:=pk 3 [2,1,0] s;have hfree:zB x.ws cell=true:=by rw[ok.fl.free hc,hw];rfl
  refine L4 s (by omega) (λe=>by grind) λ_ fH w s=>?_;have hno:=(aiY ok.may).1 hw;have hmay:=aiX (u:=⟨x.y.next,cell,goal⟩) ok.may (λv hv=>(CW.jP v hv).2) Pq.1 hc hg hno;have s:=fQ (A:=[_,_,_]) (B:=[av r.p 125 (yL ⟨r.p,ur,{r.fl with fH:=fH}⟩ ⟨x.w,x.h,KT x.y cell goal,x.ws.set cell.toNat (x.y.next+1)⟩),_,_]) [1,2,0] s (by unfold yL;rw[eu];rfl) (by decide);refine hok h0 ⟨r.p,ur,{r.fl with fH:=fH}⟩ _ w rfl (xk s ⟨hmay,amR hmay (by rw[List.append_nil];exact ok.fl)⟩)
 grind
def amU {done us:List aM}{u:aM}(h:((done++u::us).map (·.id)).Pairwise (·<·)):(∀v∈done,¬v.id=u.id)/\∀v∈us,¬v.id=u.id:=by
 rw[List.map_append,List.map_cons,List.pairwise_append,List.pairwise_cons]at h;refine⟨λv hv e=>?_,λv hv e=>?_⟩
 ·have:=h.2.2 v.id (List.mem_map.2 ⟨v,hv,rfl⟩) u.id (List.mem_cons_self ..);omega
 ·have:=h.2.1.1 v.id (List.mem_map.2 ⟨v,hv,rfl⟩);omega
def YQ {done us:List aM}{u:aM}(h:((done++u::us).map (·.id)).Pairwise (·<·)):((done++u::us).filter λv=>!decide (v.id=u.id))=done++us:=by
 obtain⟨h1,h2⟩:=amU h;rw[List.filter_append,List.filter_cons,decide_eq_true rfl,List.filter_eq_self.2 λv hv=>?_,List.filter_eq_self.2 λv hv=>?_]
 all_goals grind
theorem ag7 {done us:List aM}{u:aM}{f:aM->aM}(h:((done++u::us).map (·.id)).Pairwise (·<·)):((done++u::us).map λv=>if v.id=u.id then f v else v)=done++f u::us:=by
 obtain⟨h1,h2⟩:=amU h;have e:∀l:List aM,(∀v∈l,¬v.id=u.id)->(l.map λv=>if v.id=u.id then f v else v)=l:=λl hl=>by have:=List.map_congr_left (f:=λv=>if v.id=u.id then f v else v) (g:=id) λv hv=>if_neg (hl v hv);rw[this,List.map_id]
 simp_all
def aaL {us:List aM}{u:aM}(h:gy us id=some u):u.id=id/\∃done rest,us=done++u::rest:=by have h1:=List.find?_some h;have h2:=List.mem_of_find?_eq_some h;exact⟨of_decide_eq_true h1,List.append_of_mem h2⟩
def YR {done us:List aM}{u:aM}(h:((done++u::us).map (·.id)).Pairwise (·<·)):gy (done++u::us) u.id=some u:=
 VN h (by rw[List.getElem?_append_right (Nat.le_refl _),Nat.sub_self];rfl)
def D0 {Q:World->Prop}{done us:List aM}{u:aM}(hu:x.y.us=done++u::us)(s:Sep F W w (fL r x::L))
  (h:∀r' FJ w',r'.p=r.p->Sep F W w' (fL r' ⟨x.w,x.h,⟨x.y.most,x.y.next,done++us⟩,FJ⟩::L)->Q w'):m7 (sZ r.p) u.id u.cell u.goal w Q:=by
 apply MW;obtain⟨ok,s⟩:=qE s;have hmay:=ok.may;have hfl:=ok.fl;rw[hu]at hmay hfl;have akh:=hmay.at_ u (by simp);have CW:=(tZ (ai s)).1;have hru:=CW.jP u (by rw[hu];simp);have Pq:=CW.Pb;refine aS s λub w s=>?_;have s:=ax s;refine ah (lP s 1 rfl (lI s 0 rfl ?_));have s:=pk 4 [2,0,1,3] s;refine YL (by unfold g_;omega) s (by rw[hu,YR hmay.ids];rfl) λur w eu s=>?_;have s:=ax s;refine ah (lP s 2 rfl (lI s 1 rfl ?_));have ed:kI x.y u.id=⟨x.y.most,x.y.next,done++us⟩:=by rw[kI,hu,YQ hmay.ids]
 rw[ed]at s;have s:=pk 4 [3,0,2] s;have aoQ:=zK hmay.nd (u:=u) (by simp);have Db:=hmay.sub (us':=done++us) (List.Sublist.append_left (List.sublist_cons_self _ _) _);refine Ki s (λe=>?_) λ_ fH w s=>?_
 ·rw[hfl.who akh.1,aoQ]at e;omega
 ·have s:=fQ (A:=[_,_,_]) (B:=[av r.p 125 (yL ⟨r.p,ur,{r.fl with fH:=fH}⟩ ⟨x.w,x.h,⟨x.y.most,x.y.next,done++us⟩,x.ws.set u.cell.toNat 0⟩),_,_]) [2,1,0] s (by unfold yL;rw[eu];rfl) (by decide);refine h ⟨r.p,ur,{r.fl with fH:=fH}⟩ _ w rfl (xk s ⟨Db,aiW hmay hfl⟩)
def aaM {Q:Int->World->Prop}(hc:bC x.w x.h cell)(s:Sep F W w (fL r x::L))(h:Q (tQ x.y.us cell) w):xU (sZ r.p) cell w Q:=by apply Oc;obtain⟨ok,so⟩:=qE s;refine l9 (ah (lP so 0 rfl ?_));apply AD (Fj (ai (ai so)));rw[ok.fl.who hc];exact h
def CX {Q:Option Addr->Nat->Nat->World->Prop}(s:Sep F W w (fL r x::L))(h:∀a n c w',Sep F W w' (aj a n c 43 3 (flat gW x.y.us)::fL r x::L)->Q a n c w'):mG (sZ r.p) w Q:=by apply Lw;obtain⟨ok,s⟩:=qE s;refine l9 (ah (lP s 0 rfl ?_));refine aaG (jm s) λa n c w s=>?_;have s:=pk 4 [2,1,3,0] s;exact h a n c w (cE (xk s ok) (List.Perm.swap _ _ _))
def Ri {Q:Int->World->Prop}(yW:g_ id)(s:Sep F W w (fL r x::L))(h12:gy x.y.us id=none->∀w',Sep F W w' (fL r x::L)->Q 12 w')
  (h7:∀u,gy x.y.us id=some u->¬bC x.w x.h goal->∀w',Sep F W w' (fL r x::L)->Q 7 w')
  (h13:∀u,gy x.y.us id=some u->bC x.w x.h goal->u.cell=goal->∀r' FJ w',r'.p=r.p->Sep F W w' (fL r' ⟨x.w,x.h,kI x.y id,FJ⟩::L)->Q 13 w')
  (h0:∀u,gy x.y.us id=some u->bC x.w x.h goal->u.cell≠goal->∀r' FJ w',r'.p=r.p->Sep F W w' (fL r' ⟨x.w,x.h,uZ x.y id λu=>⟨u.id,u.cell,goal⟩,FJ⟩::L)->Q 0 w'):rW (sZ r.p) id goal w Q:=by
 apply Iu;obtain⟨ok,s⟩:=qE s;refine l9 (ah (lP s 0 rfl ?_));have cl:∀{w:World} {A:As},Sep F W w (A::vk r.un x.y::av r.p 125 (yL r x)::uI r.fl x.ws::L)->Sep F W w (fL r x::A::L):=λs=>xk (pk 4 [2,1,3,0] s) ok;refine rO (jm s) yW (λhn w s=>?_) λu hu w s=>?_
 ·refine aY s λp w s=>?_;refine sT s 0 rfl λw s=>?_;refine sT s 0 rfl λw s=>?_;refine sT s 0 rfl λw s=>?_;exact h12 hn w (ai (cE (cl s) (List.Perm.swap _ _ _)))
 ·obtain⟨eid,done,rest,F9⟩:=aaL hu;have hmay:=ok.may;rw[F9]at hmay;refine aY s λp w s=>?_;refine sT s 0 rfl λw s=>?_;refine sT s 0 rfl λw s=>?_;refine az s (i:=0) rfl rfl rfl λw s=>?_;refine akg (cl s) λw s=>?_;by_cases hg:bC x.w x.h goal
  ·rw[decide_eq_true hg,Bool.not_true,cond_false];apply lI s 1 rfl;apply amS;by_cases hcg:u.cell=goal
   ·rw[if_pos hcg];refine lI s 1 rfl (lI s 1 rfl (lI s 1 rfl ?_));refine D0 F9 s λr' FJ w e s=>?_;apply h13 u hu hg hcg r' FJ w e;have ed:kI x.y id=⟨x.y.most,x.y.next,done++rest⟩:=by rw[kI,<-eid,F9,YQ hmay.ids]
    rw[ed];exact ai (jm s)
   ·rw[if_neg hcg];obtain⟨ok,s⟩:=qE s;rw[wv rfl,cond_false];refine ah (lP s 0 rfl ?_);have s:=pk 4 [1,0,2] s;refine aaF yW s (λhn=>by rw[hn]at hu;cases hu) λ_ ur w eu s=>?_;have s:=fQ (A:=[_,_,_]) (B:=[av r.p 125 (yL ⟨r.p,ur,r.fl⟩ ⟨x.w,x.h,uZ x.y id λu=>⟨u.id,u.cell,goal⟩,x.ws⟩),_,_]) [1,0,2] s (by unfold yL;rw[eu];rfl) (by decide);have eT:(uZ x.y id λu=>⟨u.id,u.cell,goal⟩).us=done++⟨u.id,u.cell,goal⟩::rest:=by rw[uZ,F9,<-eid];exact ag7 hmay.ids
    have hu1:=hmay.at_ u (by simp);have hnd:=hmay.nd;rw[List.map_append,List.map_cons,List.nodup_append,List.nodup_cons]at hnd;have Db:nk x.w x.h (done++⟨u.id,u.cell,goal⟩::rest):=hmay.Ve rfl hu1.1 hg (by rw[List.map_append,List.mem_append];exact λq=>q.elim (λq=>hnd.2.2 _ q _ (List.mem_cons_self ..) rfl) hnd.2.1.1)
    refine h0 u hu hg hcg ⟨r.p,ur,r.fl⟩ x.ws w rfl (xk s ⟨?_,ok.fl.len,λc hc=>?_⟩)
    ·rw[eT];exact Db
    ·rw[eT,ok.fl.at_ c hc,F9];congr 1;by_cases e:c=u.cell
     ·rw[e,zK hmay.nd (by simp),zK (u:=⟨u.id,u.cell,goal⟩) Db.nd (by simp)]
     ·refine YP hmay.nd Db.nd λv hv=>?_;have:∀z:aM,z.cell=u.cell->v≠z:=λz hz q=>e (by rw[<-hv,q,hz]);simp[this u rfl,this ⟨u.id,u.cell,goal⟩ rfl]
  ·rw[decide_eq_false hg,Bool.not_false,cond_true];exact h7 u hu hg w (ai (jm s))
def S7 {Q:Int->World->Prop}(yW:g_ id)(s:Sep F W w (fL r x::L))(h12:gy x.y.us id=none->∀w',Sep F W w' (fL r x::L)->Q 12 w')
  (h0:∀u,gy x.y.us id=some u->∀r' FJ w',r'.p=r.p->Sep F W w' (fL r' ⟨x.w,x.h,kI x.y id,FJ⟩::L)->Q 0 w'):sV (sZ r.p) id w Q:=by
 apply I0;obtain⟨ok,s⟩:=qE s;refine l9 (ah (lP s 0 rfl ?_));have cl:∀{w:World} {A:As},Sep F W w (A::vk r.un x.y::av r.p 125 (yL r x)::uI r.fl x.ws::L)->Sep F W w (fL r x::A::L):=λs=>xk (pk 4 [2,1,3,0] s) ok;refine rO (jm s) yW (λhn w s=>?_) λu hu w s=>?_
 ·refine aY s λp w s=>?_;refine sT s 0 rfl λw s=>?_;refine sT s 0 rfl λw s=>?_;refine sT s 0 rfl λw s=>?_;exact h12 hn w (ai (cE (cl s) (List.Perm.swap _ _ _)))
 ·obtain⟨eid,done,rest,F9⟩:=aaL hu;have hmay:=ok.may;rw[F9]at hmay;refine aY s λp w s=>?_;refine sT s 0 rfl λw s=>?_;refine sT s 0 rfl λw s=>?_;refine az s (i:=0) rfl rfl rfl λw s=>?_;refine lI s 0 rfl (lI s 0 rfl (lI s 0 rfl ?_));refine D0 F9 (cl s) λr' FJ w e s=>?_;apply h0 u hu r' FJ w e;have ed:kI x.y id=⟨x.y.most,x.y.next,done++rest⟩:=by rw[kI,<-eid,F9,YQ hmay.ids]
  rw[ed];exact ai (jm s)
end
def azg:zc T 51=[ae 0,ae 0]:=rfl
def He (w h:Int)(y:sG)(ds:List Int):sG:=⟨y.most,y.next,(cK w h [] (y.us.zip ds)).1⟩
section
variable {F:Nat->Prop}{W w w0:World}{L:List As}{r:CrR}{x:Gb}{da ma ga ta:Option Addr}{dn dc mn mc gn gc tn tc i mb ub:Nat}{ds:List Int}{tm:Int}
def aoR {P7:Option Addr->Option Addr->Nat->Nat->Option Addr->Nat->Nat->Option Addr->Nat->Nat->Int->Int->World->Prop}{Q:Option Addr->Nat->Nat->Option Addr->Nat->Nat->Int->World->Prop}{done us:List aM}{u:aM}{d:Int}(hi:i<=1000000000)
  (hu:x.y.us=done++u::us)(hb:mF x.w x.h (done++u::us) u d=true)(s:Sep F W w (av ub 43 (gW u)::av mb 51 (kY (u.id,aX x.w x.h u.cell d))::fL r x::L))
  (next:∀r' FJ w',r'.p=r.p->Sep F W w' (fL r' ⟨x.w,x.h,⟨x.y.most,x.y.next,(done++kX x.w x.h u d)++us⟩,FJ⟩::L)->P7 (sZ r.p) ma mn mc ga gn gc ta tn tc tm ((i+1:Nat):Int) w'):
  lC P7 Q (sZ r.p) ma mn mc ga gn gc (aZ mb) (aZ ub) ta tn tc tm i w:=by
 rw[lC,KU hi];refine lI s 1 rfl (lI s 0 rfl ?_);unfold kX at next
 have hto:=ag3 hb;obtain⟨_,hnot⟩:=acC.1 hb;generalize aX x.w x.h u.cell d=to at*;by_cases hg:to=u.goal
 ·rw[dK hg,cond_true];refine lI s 0 rfl (lI s 0 rfl (lI s 0 rfl ?_));refine D0 hu (pk 3 [2] s) λr' FJ w e s=>?_;apply next r' FJ w e
  simp_all
 ·rw[cJ hg,cond_false];rw[if_neg hg]at next
  have s:=ax s;obtain⟨ok,s⟩:=qE (pk 3 [2,0,1] s);have hmay:=ok.may;have hfl:=ok.fl;rw[hu]at hmay hfl;have akh:=hmay.at_ u (by simp);have CW:=(tZ (ai s)).1;have hru:=CW.jP u (by rw[hu];simp);have Pq:=CW.Pb;have aoQ:=zK hmay.nd (u:=u) (by simp);refine ah (lP s 0 rfl (lI s 3 rfl (lI s 4 rfl ?_)));have s:=pk 5 [2,0,1,3,4] s;have hw1:Bw x.ws u.cell=u.id:=by rw[hfl.who akh.1,aoQ]
  have hfree:zB x.ws to=true:=by rw[hfl.free hto,DZ hnot];rfl
  refine Wu s (λe=>?_) λ_ _ fH w s=>?_
  ·rw[hw1,hfree]at e;rcases e with e|e
   ·omega
   ·cases e
  ·have s:=ax s;refine ah (lP s 1 rfl (lI s 4 rfl (lI s 4 rfl ?_)));have s:=pk 5 [2,0,1] s;refine YJ (by unfold g_;omega) s (λhn=>?_) λ_ ur w eu s=>?_
   ·rw[hu,YR hmay.ids]at hn;cases hn
   ·have eT:(uZ x.y u.id λu=>⟨u.id,to,u.goal⟩)=⟨x.y.most,x.y.next,(done++[⟨u.id,to,u.goal⟩])++us⟩:=by rw[uZ,hu,ag7 hmay.ids,List.append_assoc];rfl
    rw[eT,hw1]at s;have Db:nk x.w x.h (done++⟨u.id,to,u.goal⟩::us):=hmay.Ve rfl hto akh.2 λq=>hnot (by rw[List.map_append,List.mem_append]at q⊢;exact q.imp id λq=>by rw[List.map_cons];exact List.mem_cons_of_mem _ q)
    have s:=fQ (A:=[_,_,_]) (B:=[av r.p 125 (yL ⟨r.p,ur,{r.fl with fH:=fH}⟩ ⟨x.w,x.h,⟨x.y.most,x.y.next,(done++[⟨u.id,to,u.goal⟩])++us⟩,(x.ws.set u.cell.toNat 0).set to.toNat (u.id+1)⟩),_,_]) [2,0,1] s (by unfold yL;rw[eu];rfl) (by decide);refine next ⟨r.p,ur,{r.fl with fH:=fH}⟩ _ w rfl (xk s ⟨?_,?_⟩)
    ·rw[List.append_assoc];exact Db
    ·rw[List.append_assoc];exact amR Db (aiW hmay hfl)
def YS {Q:Option Addr->Nat->Nat->Option Addr->Nat->Nat->Int->World->Prop}(hD:∀w',Sep F W w' L->Sl w' da dn dc 1 one ds)(hlen:ds.length=x.y.us.length)(hr:∀d∈ds,0<=d/\d<=5)(s:Sep F W w (fL r x::L))
  (h:∀r' FJ ma mn mc ga gn gc w',r'.p=r.p->Sep F W w' (aj ma mn mc 51 2 (flat kY (cK x.w x.h [] (x.y.us.zip ds)).2.1)::aj ga gn gc 3 1 (flat one (cK x.w x.h [] (x.y.us.zip ds)).2.2)::fL r' ⟨x.w,x.h,He x.w x.h x.y ds,FJ⟩::L)->Q ma mn mc ga gn gc 0 w'):
  wV (sZ r.p) da dn dc w Q:=by
 apply M9;have s:=ax s;obtain⟨ok,so⟩:=qE s;have CW:=(tZ (ai so)).1;have ni:=CW.nh;have VM:=CW.most;refine l9 (ah (lI so 0 rfl (ah (lI so 0 rfl ?_))));refine CX s λua un uc w s=>?_;obtain⟨_,so⟩:=qE (ai s);refine⟨cN so 0 rfl,cN so 0 rfl,?_⟩;have hU:=aL s (i:=0) rfl BG (by decide);have hun:=hU.len;have avY:(x.y.us.zip ds).map (·.1)=x.y.us:=by rw[List.map_fst_zip];omega
 have hml:=(My (w:=x.w) (h:=x.h) (x.y.us.zip ds) []).2;rw[List.length_zip]at hml;refine acD s hU (hD _ (ai (ai s))) hlen (by omega) hr ok.may λaa an ac ma mn mc ga gn gc w s _=>?_;have s:=pk 4 [3,0,1] s;have hmn:=(aL s (i:=1) rfl HY (by decide)).len;have loop:∀(j i:Nat) (r':CrR) (x':Gb) (done:List aM) (todo:List (aM×Int)) (w:World),i+j=mn->r'.p=r.p->x'.w=x.w->x'.h=x.h->x'.y=⟨x.y.most,x.y.next,done++todo.map (·.1)⟩->(cK x.w x.h done todo).2.1=(cK x.w x.h [] (x.y.us.zip ds)).2.1.drop i->(cK x.w x.h done todo).1=(cK x.w x.h [] (x.y.us.zip ds)).1->
   Sep F W w (fL r' x'::aj ma mn mc 51 2 (flat kY (cK x.w x.h [] (x.y.us.zip ds)).2.1)::aj ga gn gc 3 1 (flat one (cK x.w x.h [] (x.y.us.zip ds)).2.2)::L)->
   o6 Q (j+1) (sZ r.p) ma mn mc ga gn gc ma mn mc (mn:Int) i w:=by
  intro j;induction j with
  |zero=>
   intro i r' x' done todo w hij er ew eh ey e1 e2 s;show oZ _ _ _ _ _ _ _ _ _ _ _ _ _ _ _;rw[oZ,bp];rw[List.drop_eq_nil_of_le (by omega)]at e1;have e3:=aaI _ _ e1;obtain⟨w1,h1,y1,ws1⟩:=x';subst ew eh ey;apply h r' ws1 ma mn mc ga gn gc w er;rw[He,<-e2,e3];exact pk 3 [1,2,0] s
  |succ j ih=>
   intro i r' x' done todo w hij er ew eh ey e1 e2 s;show oZ _ _ _ _ _ _ _ _ _ _ _ _ _ _ _;rw[oZ,bJ];refine(aL s (i:=1) rfl HY (by decide)).El rfl (by omega) λp m hm hc=>?_;have hdr:(cK x.w x.h [] (x.y.us.zip ds)).2.1.drop i=m::(cK x.w x.h [] (x.y.us.zip ds)).2.1.drop (i+1):=by obtain⟨hlt,e⟩:=List.getElem?_eq_some_iff.1 hm;rw[List.drop_eq_getElem_cons hlt,e]
   rw[hdr]at e1;obtain⟨done',u,d,rest,hb,hsp,em,e3,e4⟩:=aaJ _ _ e1;have F9:x'.y.us=done'++u::rest.map (·.1):=by rw[ey,hsp]
   rw[<-ew,<-eh]at hb em;refine aQ (hc 0 _ rfl) (aQ (hc 1 _ rfl) ?_);refine aY s λmb w s=>?_;refine sT s 0 rfl λw s=>?_;refine az s (i:=0) rfl rfl rfl λw s=>?_;have s:=s;rw[<-er];obtain⟨ok',s⟩:=qE (pk 4 [1,0,2,3] s);have s:=ax s;have azh:=(tZ (ai s)).1.jP u (by rw[F9];simp);have azi:=(tZ (ai s)).1.Pb;have hgu:gy x'.y.us m.1=some u:=by have:=ok'.may.ids;rw[F9]at this;rw[F9,em];exact YR this
   have yW:g_ m.1:=by rw[em];unfold g_;show _<=u.id/\u.id<_;omega
   have go:∀{ub:Nat} {w:World},Sep F W w (av ub 43 (gW u)::av mb 51 (kY m)::fL r' x'::aj ma mn mc 51 2 (flat kY (cK x.w x.h [] (x.y.us.zip ds)).2.1)::aj ga gn gc 3 1 (flat one (cK x.w x.h [] (x.y.us.zip ds)).2.2)::L)->
     lC (o6 Q (j+1)) Q (sZ r'.p) ma mn mc ga gn gc (aZ mb) (aZ ub) ma mn mc (mn:Int) i w:=λ{ub w} s=>by
    rw[em]at s;refine aoR (by omega) F9 hb s λr2 ws2 w e5 s=>?_;rw[er];refine ih (i+1) r2 ⟨x'.w,x'.h,⟨x'.y.most,x'.y.next,(done'++kX x'.w x'.h u d)++rest.map (·.1)⟩,ws2⟩ (done'++kX x.w x.h u d) rest w (by omega) (e5.trans er) ew eh ?_ e3 (e4.trans e2) s;rw[ew,eh,ey]
   refine ah (lP s 0 rfl (lI s 3 rfl ⟨?_,?_⟩))
   ·have s:=jm s;refine rO s yW (λhn=>by rw[hn]at hgu;cases hgu) λv hv w s=>?_;rw[hgu]at hv;cases hv;refine aY s λub w s=>?_;refine⟨cN s 4 rfl,cN s 2 rfl,?_⟩;refine sT s 0 rfl λw s=>?_;refine sT s 0 rfl λw s=>?_;refine az s (i:=0) rfl rfl rfl λw s=>?_;have s:=xk (pk 7 [2,1,3,0,4,5,6] s) ok';exact go (pk 5 [1,2,0,3,4] s)
   ·refine aY s λub w s=>?_;refine⟨cN s 4 rfl,cN s 1 rfl,?_⟩;have s:=pk 7 [2,0,1,3,4,5,6] s;refine rO s yW (λhn=>by rw[hn]at hgu;cases hgu) λv hv w s=>?_;rw[hgu]at hv;cases hv;refine sT s 1 rfl λw s=>?_;refine sT s 1 rfl λw s=>?_;refine az s (i:=1) rfl rfl rfl λw s=>?_;have s:=xk (pk 7 [2,0,3,1,4,5,6] s) ok';exact go (pk 5 [1,2,0,3,4] s)
 exact⟨mn+1,loop mn 0 r x [] (x.y.us.zip ds) w (by omega) rfl rfl rfl (by rw[avY];rfl) rfl rfl s⟩
end
end Go.Proofs.YtmegplnmiepfbaaGreatDoor.S
namespace Go.Proofs.YtmegplnmiepfbaaGreatDoor.S
open Go.Sx
abbrev zL:=List (Int×List (Int×List Int))
def yM (s id:Int):List (Int×List Int)->List (Int×List Int)
 |[]=>[(s,[id])]
 |q::r=>if q.1=s then(s,q.2++[id])::r else q::yM s id r
def pN (g s id:Int):zL->zL
 |[]=>[(g,[(s,[id])])]
 |q::r=>if q.1=g then(g,yM s id q.2)::r else q::pN g s id r
def Rj (w h:Int)(st:zL)(u:aM):zL:=pN u.goal (aC w h u.cell) u.id st
def aaN (w h:Int)(us:List aM):zL:=us.foldl (Rj w h) []
structure FK where
 g:Int
 s:Int
 ids:List Int
def Cl (st:zL):List FK:=st.flatMap λq=>q.2.map λp=>⟨q.1,p.1,p.2⟩
def l6 (w h:Int)(us:List aM):List FK:=Cl (aaN w h us)
section
variable {g s d w h:Int}{st:zL}{us:List aM}
def aoS {p1 p2:List (Int×List Int)}{ids:List Int}(hn:s∉p1.map (·.1)):yM s d (p1++(s,ids)::p2)=p1++(s,ids++[d])::p2:=by
 induction p1 with
 |nil=>simp[yM]
 |cons q p1 ih=>
  rw[List.map_cons,List.mem_cons,not_or]at hn;rw[List.cons_append,yM,if_neg (λe=>hn.1 e.symm),ih hn.2];rfl
def aoT {l:List (Int×List Int)}(hn:s∉l.map (·.1)):yM s d l=l++[(s,[d])]:=by
 induction l with
 |nil=>rfl
 |cons q p1 ih=>
  rw[List.map_cons,List.mem_cons,not_or]at hn;rw[List.cons_append,yM,if_neg (λe=>hn.1 e.symm),ih hn.2]
def ag8 {g1 g2:zL}{l:List (Int×List Int)}(hn:g∉g1.map (·.1)):pN g s d (g1++(g,l)::g2)=g1++(g,yM s d l)::g2:=by
 induction g1 with
 |nil=>simp[pN]
 |cons q p1 ih=>
  rw[List.map_cons,List.mem_cons,not_or]at hn;rw[List.cons_append,pN,if_neg (λe=>hn.1 e.symm),ih hn.2];rfl
def aoU (hn:g∉st.map (·.1)):pN g s d (st++[(g,[])])=pN g s d st:=by
 induction st with
 |nil=>simp[pN,yM]
 |cons q p1 ih=>
  rw[List.map_cons,List.mem_cons,not_or]at hn;rw[List.cons_append,pN,if_neg (λe=>hn.1 e.symm),ih hn.2,pN,if_neg (λe=>hn.1 e.symm)]
def aki:(pN g s d st).map (·.1)=if g∈st.map (·.1)then st.map (·.1)else st.map (·.1)++[g]:=by
 induction st with
 |nil=>rfl
 |cons q p1 ih=>
  rw[pN];grind
def Rk (us:List aM):(aaN w h us).map (·.1)=sJ us:=by
 have:∀(us:List aM) (st:zL),(us.foldl (Rj w h) st).map (·.1)=us.foldl Dw (st.map (·.1)):=by
  intro us;induction us with
  |nil=>intro st;rfl
  |cons u us ih=>
   intro st;rw[List.foldl_cons,List.foldl_cons,ih];congr 1;exact aki
 exact this us []
def YT {l:List (Int×List Int)}{x i:Int}:(∃p∈yM s d l,p.1=x/\i∈p.2)↔(x=s/\i=d)\/∃p∈l,p.1=x/\i∈p.2:=by
 induction l with
 |nil=>
  simp[yM,List.mem_singleton,exists_eq_left,List.not_mem_nil,false_and,exists_false,or_false];grind
 |cons q l ih=>
  rw[yM];split
  ·rename_i e;subst e;constructor
   ·grind
   ·rintro (⟨rfl,rfl⟩|⟨p,hp,e1,e2⟩)
    ·simp_all
    ·rcases List.mem_cons.1 hp with rfl|hp
     ·simp_all
     grind
  grind
def inG (st:zL)(g s i:Int):Prop:=∃q∈st,q.1=g/\∃p∈q.2,p.1=s/\i∈p.2
def aoV {x y i:Int}:inG (pN g s d st) x y i↔(x=g/\y=s/\i=d)\/inG st x y i:=by
 unfold inG;induction st with
 |nil=>
  simp[pN,List.mem_singleton,exists_eq_left,List.not_mem_nil,false_and,exists_false,or_false];grind
 |cons q st ih=>
  rw[pN];split
  ·rename_i e;subst e;constructor
   ·rintro ⟨p,hp,e1,e2⟩;rcases List.mem_cons.1 hp with rfl|hp
    ·rcases YT.1 e2 with⟨e3,e4⟩|e2
     all_goals grind
    grind
   ·rintro (⟨rfl,e3,e4⟩|⟨p,hp,e1,e2⟩)
    ·exact⟨_,List.mem_cons_self ..,rfl,YT.2 (.inl ⟨e3,e4⟩)⟩
    ·rcases List.mem_cons.1 hp with rfl|hp
     ·exact⟨_,List.mem_cons_self ..,e1,YT.2 (.inr e2)⟩
     grind
  ·constructor
   ·rintro ⟨p,hp,e1,e2⟩;rcases List.mem_cons.1 hp with rfl|hp
    ·grind
    ·exact(ih.1 ⟨p,hp,e1,e2⟩).imp id λ⟨p,hp,e⟩=>⟨p,List.mem_cons_of_mem _ hp,e⟩
   ·rintro (h|⟨p,hp,e1,e2⟩)
    ·simp_all
    ·rcases List.mem_cons.1 hp with rfl|hp
     ·grind
     ·obtain⟨p,hp,e⟩:=ih.2 (.inr ⟨p,hp,e1,e2⟩);grind
def aoW {x y i:Int}:inG (aaN w h us) x y i↔∃u∈us,u.goal=x/\aC w h u.cell=y/\u.id=i:=by
 have:∀(us:List aM) (st:zL),inG (us.foldl (Rj w h) st) x y i↔inG st x y i\/∃u∈us,u.goal=x/\aC w h u.cell=y/\u.id=i:=by
  intro us;induction us with
  |nil=>grind
  |cons u us ih=>
   intro st;rw[List.foldl_cons,ih];rw[Rj,aoV];grind
 have h0:¬inG [] x y i:=λ⟨q,hq,_⟩=>by cases hq
 unfold aaN;grind
def Vk {x y i:Int}:(∃p∈l6 w h us,p.g=x/\p.s=y/\i∈p.ids)↔∃u∈us,u.goal=x/\aC w h u.cell=y/\u.id=i:=by
 rw[<-aoW];unfold l6 Cl inG;constructor
 ·rintro ⟨p,hp,e1,e2,e3⟩;obtain⟨q,hq,hp⟩:=List.mem_flatMap.1 hp;grind
 ·rintro ⟨q,hq,e1,z,hz,e2,e3⟩;exact⟨⟨q.1,z.1,z.2⟩,List.mem_flatMap.2 ⟨q,hq,List.mem_map.2 ⟨z,hz,rfl⟩⟩,e1,e2,e3⟩
def aeZ (st:zL):Prop:=∀q∈st,∀p∈q.2,p.2≠[]
def amW {l:List (Int×List Int)}(h:∀p∈l,p.2≠[]):∀p∈yM s d l,p.2≠[]:=by
 induction l with
 |nil=>intro p hp;simp[yM,List.mem_singleton]at hp;grind
 |cons q l ih=>
  intro p hp;rw[yM]at hp;split at hp
  ·rcases List.mem_cons.1 hp with rfl|hp
   ·simp
   ·exact h p (List.mem_cons_of_mem _ hp)
  grind
def amX (h:aeZ st):aeZ (pN g s d st):=by
 induction st with
 |nil=>
  intro q hq p hp;simp[pN,List.mem_singleton]at hq;grind
 |cons q st ih=>
  intro z hz;rw[pN]at hz;split at hz
  ·rcases List.mem_cons.1 hz with rfl|hz
   ·exact amW (h q (List.mem_cons_self ..))
   ·exact h z (List.mem_cons_of_mem _ hz)
  ·rcases List.mem_cons.1 hz with rfl|hz
   ·exact h z (List.mem_cons_self ..)
   ·exact ih (λq hq=>h q (List.mem_cons_of_mem _ hq)) z hz
def aoX (l:List (Int×List Int)):(yM s d l).length<=l.length+1:=by
 induction l with
 |nil=>exact Nat.le_refl _
 |cons q l ih=>
  rw[yM];grind
def Jm (q:Int×List (Int×List Int)):Cl (q::st)=(q.2.map λp=>⟨q.1,p.1,p.2⟩)++Cl st:=rfl
def aoY (st:zL):(Cl (pN g s d st)).length<=(Cl st).length+1:=by
 induction st with
 |nil=>exact Nat.le_refl _
 |cons q st ih=>
  rw[pN];split
  ·rw[Jm,Jm,List.length_append,List.length_append,List.length_map,List.length_map];have:=aoX (s:=s) (d:=d) q.2;grind
  ·rw[Jm,Jm,List.length_append,List.length_append];omega
def adM (w h:Int)(us:List aM):(l6 w h us).length<=us.length:=by
 have:∀(us:List aM) (st:zL),(Cl (us.foldl (Rj w h) st)).length<=(Cl st).length+us.length:=by
  intro us;induction us with
  |nil=>grind
  |cons u us ih=>
   intro st;rw[List.foldl_cons,List.length_cons];have h1:=ih (Rj w h st u);have h2:=aoY (g:=u.goal) (s:=aC w h u.cell) (d:=u.id) st;have h2:(Cl (Rj w h st u)).length<=(Cl st).length+1:=h2;omega
 have:=this us [];have e:(Cl ([]:zL)).length=0:=rfl;rw[e,Nat.zero_add]at this;exact this
def akj {p:FK}(hp:p∈l6 w h us):p.ids≠[]:=by
 have:∀(us:List aM) (st:zL),aeZ st->aeZ (us.foldl (Rj w h) st):=by
  intro us;induction us with
  |nil=>grind
  |cons u us ih=>intro st h;exact ih _ (amX h)
 obtain⟨q,hq,hp⟩:=List.mem_flatMap.1 hp;obtain⟨z,hz,rfl⟩:=List.mem_map.1 hp;exact this us [] (λq hq=>by cases hq) q hq z hz
def akk {p:FK}(hp:p∈l6 w h us):∃u∈us,u.goal=p.g/\aC w h u.cell=p.s:=by have hf:=akj hp;obtain⟨i,hi⟩:=List.exists_mem_of_ne_nil _ hf;obtain⟨u,hu,e1,e2,_⟩:=Vk.1 ⟨p,hp,rfl,rfl,hi⟩;grind
end
end Go.Proofs.YtmegplnmiepfbaaGreatDoor.S
namespace Go.Proofs.YtmegplnmiepfbaaGreatDoor.S
open Go.Sx
attribute [local irreducible] af cq bq bf aB bY bT St Bx Al App cu cg b_ bR aK bw aq bP av aj aU mapA
structure AM where
 a:Option Addr
 n:Nat
 c:Nat
def RV (q:AM):Value:=.slice q.a q.n q.c
structure z7 where
 g:Int
 s:Int
 q:AM
 ids:List Int
def xL (p:z7):List Value:=[ae p.g,ae p.s,.slice p.q.a p.q.n p.q.c]
def tT (p:z7):(xL p).length=3:=rfl
def amY (x:z7)(u:Value)(h:u∈xL x):u.oneCell'=true:=by unfold xL at h;simp[List.mem_cons,List.not_mem_nil,or_false]at h;rcases h with rfl|rfl|rfl<;>rfl
def aoZ (p:z7):As:=aj p.q.a p.q.n p.q.c 3 1 (flat one p.ids)
structure BM where
 g:Int
 q:AM
 ps:List z7
def gpR (G:BM):As:=aj G.q.a G.q.n G.q.c 211 3 (flat xL G.ps)
def Ao (gs:List BM):As:=aU True (gs.map gpR)
def zM (ps:List z7):As:=aU True (ps.map aoZ)
def jI (gs:List BM):List z7:=gs.flatMap (·.ps)
def Ey (gs:List BM):zL:=gs.map λG=>(G.g,G.ps.map λp=>(p.s,p.ids))
def atT:P.underlying 180=some (.map 253 3):=by kernel_rfl
def ofT:P.underlying 252=some (.map 3 208):=by kernel_rfl
def asZ (w:World):(zeroValue 208).run P w=.ok (RV ⟨none,0,0⟩) w:=by kernel_rfl
section
variable {F:Nat->Prop}{W w w0:World}{L:List As}
def Rl {A B:List As}{X:As}(s:Sep F W w (aU True (A++X::B)::L)):Sep F W w (X::aU True (A++B)::L):=by
 have s:=(iT s).2;have s:=cE (L':=(A++B)++X::L) s (by rw[List.append_assoc,List.append_assoc,List.cons_append];exact List.Perm.append_left _ List.perm_middle.symm)
 have s:=dW s trivial;exact jm s
def KW {A B:List As}{X:As}(s:Sep F W w (X::aU True (A++B)::L)):Sep F W w (aU True (A++X::B)::L):=by have s:=(iT (jm s)).2;refine dW ?_ trivial;apply cE s;rw[List.append_assoc,List.append_assoc,List.cons_append];exact List.Perm.append_left _ List.perm_middle
end
def gOf (ms:List (Int×AM))(g:Int):AM:=(e_ ms g).getD ⟨none,0,0⟩
structure Mz (ms:List (Int×AM)) (m2:List ((Int×Int)×Int)) (gs:List BM):Prop where
 hk:ou ms
 Hs:ou m2
 nd:(gs.map (·.g)).Nodup
 nds:∀G∈gs,(G.ps.map (·.s)).Nodup
 of_:∀G∈gs,gOf ms G.g=G.q
 no:∀g,g∉gs.map (·.g)->e_ ms g=none
 at1:∀g s k,e_ m2 (g,s)=some k->∃G∈gs,G.g=g/\0<=k/\(G.ps[k.toNat]?).map (·.s)=some s
 at2:∀G∈gs,∀p∈G.ps,(e_ m2 (G.g,p.s)).isSome=true
 pg:∀G∈gs,∀p∈G.ps,p.g=G.g
section
variable {F:Nat->Prop}{W w w0:World}{L:List As}{mw mh:Int}{mb Gc:Nat}{ms:List (Int×AM)}{m2:List ((Int×Int)×Int)}{gs g1 g2:List BM}{G:BM}
def aaO {i:Nat}{g:Int}{K:Option Addr->Nat->Nat->World->Prop}(s:Sep F W w L)(hi:L[i]? =some (fF e9 RV mb ms))(hk:ou ms)(hg:g_ g)(h:K (gOf ms g).a (gOf ms g).n (gOf ms g).c w):
  aK P (Instr.lookup 252 (.map (some mb)) (ae g) false) w λv w=>dS v λa n c=>K a n c w:=by
 unfold gOf at h;refine Dt (K:=e9) ofT (asZ w) s hi hk hg (λhn=>?_) λq hq=>?_
 ·rw[hn]at h;exact h
 ·rw[hq]at h;exact h
def Mz.pairs {G':BM}(I:Mz ms m2 (g1++G::g2))(eg:G'.g=G.g)(eq:G'.q=G.q)(es:G'.ps.map (·.s)=G.ps.map (·.s))(ep:∀p∈G'.ps,p.g=G.g):Mz ms m2 (g1++G'::g2):=by
 have hm:∀X,X∈g1++G'::g2->X=G'\/X∈g1++G::g2:=λX hX=>by grind
 have hG:G∈g1++G::g2:=by simp
 have hs:∀k:Nat,(G'.ps[k]?).map (·.s)=(G.ps[k]?).map (·.s):=λk=>by rw[<-List.getElem?_map,<-List.getElem?_map,es]
 have D2:(g1++G'::g2).map (·.g)=(g1++G::g2).map (·.g):=by simp[eg]
 refine⟨I.hk,I.Hs,by rw[D2];exact I.nd,λX hX=>?_,λX hX=>?_,λg hg=>I.no g (by grind),λg s k hk=>?_,λX hX p hp=>?_,λX hX p hp=>?_⟩
 ·rcases hm X hX with rfl|hX
  ·rw[es];exact I.nds G hG
  ·exact I.nds X hX
 ·rcases hm X hX with rfl|hX
  ·rw[eg,eq];exact I.of_ G hG
  ·exact I.of_ X hX
 ·obtain⟨X,hX,e1,e2,e3⟩:=I.at1 g s k hk;grind
 ·rcases hm X hX with rfl|hX
  ·have:p.s∈X.ps.map (·.s):=List.mem_map.2 ⟨p,hp,rfl⟩;rw[es]at this;obtain⟨p',hp',e⟩:=List.mem_map.1 this;rw[eg,<-e];exact I.at2 G hG p' hp'
  ·exact I.at2 X hX p hp
 ·rcases hm X hX with rfl|hX
  ·grind
  ·exact I.pg X hX p hp
def Mz.add {ms':List (Int×AM)}{W_:List ((Int×Int)×Int)}{p:z7}{q:AM}(I:Mz ms m2 (g1++G::g2))(hk:ou ms')(Hs:ou W_)(hm:∀g,e_ ms' g=if g=G.g then some q else e_ ms g)(Db:∀x,e_ W_ x=if x=(G.g,p.s)then some (G.ps.length:Int)else e_ m2 x)
  (ep:p.g=G.g)(hn:p.s∉G.ps.map (·.s)):Mz ms' W_ (g1++⟨G.g,q,G.ps++[p]⟩::g2):=by
 have hG:G∈g1++G::g2:=by simp
 have D2:(g1++⟨G.g,q,G.ps++[p]⟩::g2).map (·.g)=(g1++G::g2).map (·.g):=by simp
 have hnd:=I.nd;have hmem:∀X,X∈g1++(⟨G.g,q,G.ps++[p]⟩:BM)::g2->X=⟨G.g,q,G.ps++[p]⟩\/(X∈g1++G::g2/\X.g≠G.g):=λX hX=>by grind
 refine⟨hk,Hs,by grind,λX hX=>?_,λX hX=>?_,λg hg=>?_,λg s k hs=>?_,λX hX x hx=>?_,λX hX x hx=>?_⟩
 ·rcases hmem X hX with rfl|⟨hX,_⟩
  ·rw[List.map_append,List.nodup_append];refine⟨I.nds G hG,by simp,λa ha b hb=>?_⟩;grind
  ·exact I.nds X hX
 ·unfold gOf;rcases hmem X hX with rfl|⟨hX,hne⟩
  ·grind
  ·rw[hm,if_neg hne];exact I.of_ X hX
 ·rw[D2]at hg;rw[hm,if_neg λe=>hg (by rw[e];exact List.mem_map.2 ⟨G,hG,rfl⟩)];exact I.no g hg
 ·rw[Db]at hs;by_cases e:(g,s)=(G.g,p.s)
  ·rw[if_pos e]at hs;cases hs;cases e;refine⟨⟨G.g,q,G.ps++[p]⟩,by simp,rfl,Int.natCast_nonneg _,?_⟩;simp
  ·rw[if_neg e]at hs;obtain⟨X,hX,e1,e2,e3⟩:=I.at1 g s k hs;rw[List.mem_append,List.mem_cons]at hX;rcases hX with h|rfl|h
   ·exact⟨X,by simp[h],e1,e2,e3⟩
   ·refine⟨⟨X.g,q,X.ps++[p]⟩,by simp,e1,e2,?_⟩;obtain⟨z,hz,_⟩:=Option.map_eq_some_iff.1 e3;rw[List.getElem?_append_left (List.getElem?_eq_some_iff.1 hz).1];exact e3
   ·exact⟨X,by simp[h],e1,e2,e3⟩
 ·rw[Db];split
  ·rfl
  ·rename_i hne;rcases hmem X hX with rfl|⟨hX,_⟩
   ·rcases List.mem_append.1 hx with hx|hx
    ·exact I.at2 G hG x hx
    ·rw[List.mem_singleton]at hx;subst hx;exact(hne rfl).elim
   ·exact I.at2 X hX x hx
 ·rcases hmem X hX with rfl|⟨hX,_⟩
  ·rcases List.mem_append.1 hx with hx|hx
   ·exact I.pg G hG x hx
   ·rw[List.mem_singleton.1 hx];exact ep
  ·exact I.pg X hX x hx
def Mz.group (I:Mz ms m2 gs)(g:Int):∃g1 G g2,G.g=g/\Mz ms m2 (g1++G::g2)/\((gs=g1++G::g2)\/(gs=g1/\g2=[]/\G=⟨g,⟨none,0,0⟩,[]⟩/\g∉gs.map (·.g))):=by
 by_cases h:g∈gs.map (·.g)
 ·obtain⟨G,hG,rfl⟩:=List.mem_map.1 h;obtain⟨g1,g2,rfl⟩:=List.append_of_mem hG;grind
 ·refine⟨gs,⟨g,⟨none,0,0⟩,[]⟩,[],rfl,?_,.inr ⟨rfl,rfl,rfl,h⟩⟩;have hm:∀X,X∈gs++[(⟨g,⟨none,0,0⟩,[]⟩:BM)]->X∈gs\/X=⟨g,⟨none,0,0⟩,[]⟩:=λX hX=>by grind
  refine⟨I.hk,I.Hs,?_,λX hX=>?_,λX hX=>?_,λg' hg=>I.no g' λe=>hg (by grind),λg s k hs=>?_,λX hX x hx=>?_,λX hX x hx=>?_⟩
  ·rw[List.map_append,List.nodup_append];refine⟨I.nd,by simp,λa ha b hb=>?_⟩;grind
  ·rcases hm X hX with hX|rfl
   ·exact I.nds X hX
   grind
  ·rcases hm X hX with hX|rfl
   ·exact I.of_ X hX
   ·rw[gOf,I.no g h];rfl
  ·obtain⟨X,hX,e⟩:=I.at1 g s k hs;grind
  ·rcases hm X hX with hX|rfl
   ·exact I.at2 X hX x hx
   ·cases hx
  ·rcases hm X hX with hX|rfl
   ·exact I.pg X hX x hx
   ·cases hx
end
def YU {g1 g2:List BM}{g:Int}{q:AM}{p1 p2:List z7}{p:z7}:jI (g1++⟨g,q,p1++p::p2⟩::g2)=(jI g1++p1)++p::(p2++jI g2):=by unfold jI;grind
def aq6 {α:Type}{p1 p2:List α}{p p':α}:(p1++p::p2).set p1.length p'=p1++p'::p2:=by grind
def aq7 {α:Type}{p1 p2:List α}{p:α}:(p1++p::p2)[p1.length]? =some p:=by grind
section
variable {F:Nat->Prop}{W w w0:World}{L T:List As}{mw mh:Int}{mb Gc ub:Nat}{ms:List (Int×AM)}{m2:List ((Int×Int)×Int)}{g1 g2:List BM}{g:Int}{q:AM}{p1 p2:List z7}{p:z7}{la ta:Option Addr}{ln lc tn tc i:Nat}{tm:Int}{u:aM}
def adP {P6:Int->Int->Option Addr->Nat->Nat->Option Nat->Option Nat->Option Addr->Nat->Nat->Int->Int->World->Prop}{Q:Option Addr->Nat->Nat->World->Prop}(hi:i<=1000000000)(hk:ou ms)(hq:gOf ms g=q)(hg:u.goal=g)(avZ:g_ g)(IF:p.ids.length<=1000000000)
  (s:Sep F W w (Ao (g1++⟨g,q,p1++p::p2⟩::g2)::zM (jI (g1++⟨g,q,p1++p::p2⟩::g2))::fF e9 RV mb ms::fF Jg vI Gc m2::av ub 43 (gW u)::T))
  (next:∀q' w',Sep F W w' (Ao (g1++⟨g,q,p1++⟨p.g,p.s,q',p.ids++[u.id]⟩::p2⟩::g2)::zM (jI (g1++⟨g,q,p1++⟨p.g,p.s,q',p.ids++[u.id]⟩::p2⟩::g2))::fF e9 RV mb ms::fF Jg vI Gc m2::T)->P6 mw mh la ln lc (some mb) (some Gc) ta tn tc tm ((i+1:Nat):Int) w'):
  oX P6 Q mw mh la ln lc (some mb) (some Gc) (aZ ub) (p1.length:Int) ta tn tc tm i w:=by
 rw[oX,KU hi];apply lI s 4 rfl;rw[hg];apply aaO s (i:=2) rfl hk avZ;rw[hq];rw[YU]at s;unfold Ao zM at s;rw[List.map_append,List.map_cons,List.map_append,List.map_cons]at s;have s:=Rl s;have s:=pk 6 [2,0,1,3,4,5] s;have s:=Rl s;have s:=s;have Z1:=(aL s (i:=0) rfl cj (by decide)).len;have hqn:=(aL s (i:=2) rfl tT (by decide)).len;simp[List.length_append,List.length_cons]at hqn;refine BR s (i:=2) rfl rfl (by omega) λb o ea=>?_;obtain⟨qa,qn,qc⟩:=q;subst ea;have hx:=aq7 (p1:=p1) (p2:=p2) (p:=p);have had:((⟨b,o,none⟩:Addr).add ((p1.length:Int).toNat*3)).add 2=⟨b,o+(p1.length*3+2),none⟩:=by rw[Int.toNat_natCast,dJ]
 rw[had];have s:=ax s;apply GZ tT s (i:=2) rfl hx rfl rfl;apply lI s 6 rfl;refine aS s λxb w s=>⟨?_,?_⟩
 ·exact vG s (i:=3) rfl rfl (by rw[rS tT hx (by decide)];rfl)
 ·have src:Src w (sZ xb) 1 1 (one u.id):=⟨rfl,D6 _,λj v hj=>by rw[cf,Nat.zero_add];exact c9 s (i:=0) rfl rfl hj⟩;refine iH dU s (i:=1) (bytes:=8) rfl rfl rfl rfl rfl rfl (by decide) rfl src (by simp[maxLen];omega) (by omega) (λe=>by cases e) λra rc w s=>?_;have e:flat one p.ids++one u.id=flat one (p.ids++[u.id]):=by rw[gG];simp[flat]
  rw[e]at s;refine dz tT s (i:=3) rfl hx rfl (x':=⟨p.g,p.s,⟨ra,p.q.n+1,rc⟩,p.ids++[u.id]⟩) (by decide) rfl rfl λw s=>?_;rw[aq6]at s;have s:=pk 8 [1,2,3,4,5,6] s;have s:=KW s;have s:=pk 5 [1,2,0,3,4] s;have s:=KW s;apply next ⟨ra,p.q.n+1,rc⟩ w
  unfold Ao zM;rw[YU,List.map_append,List.map_cons,List.map_append,List.map_cons];exact s
end
def KX (p:z7):FK:=⟨p.g,p.s,p.ids⟩
def VO {g1 g2:List BM}{G:BM}:Ey (g1++G::g2)=Ey g1++(G.g,G.ps.map λp=>(p.s,p.ids))::Ey g2:=by unfold Ey;grind
def MA {gs:List BM}:(Ey gs).map (·.1)=gs.map (·.g):=by unfold Ey;simp_all
def aq8 {g1 g2:List BM}{g s d:Int}{q q':AM}{p1 p2:List z7}{p p':z7}(h1:g∉g1.map (·.g))(h2:s∉p1.map (·.s))(e1:p.s=s)(e2:p'.s=s)(e3:p'.ids=p.ids++[d]):
  Ey (g1++⟨g,q',p1++p'::p2⟩::g2)=pN g s d (Ey (g1++⟨g,q,p1++p::p2⟩::g2)):=by
 rw[VO,VO,ag8 (by rw[MA];exact h1)];simp[List.map_append,List.map_cons];rw[e1,aoS (by grind),e2,e3]
def aq9 {g1 g2:List BM}{g s d:Int}{q q':AM}{p1:List z7}{p':z7}(h1:g∉g1.map (·.g))(h2:s∉p1.map (·.s))(e2:p'.s=s)(e3:p'.ids=[d]):
  Ey (g1++⟨g,q',p1++[p']⟩::g2)=pN g s d (Ey (g1++⟨g,q,p1⟩::g2)):=by
 rw[VO,VO,ag8 (by rw[MA];exact h1)];simp[List.map_append,List.map_cons,List.map_nil];rw[aoT (by grind),e2,e3]
section
variable {F:Nat->Prop}{W w w0:World}{L T:List As}{mw mh:Int}{mb Gc ub:Nat}{ms:List (Int×AM)}{m2:List ((Int×Int)×Int)}{g1 g2 gs:List BM}{g sc:Int}{q:AM}{ps p1 p2:List z7}{la ta:Option Addr}{ln lc tn tc i:Nat}{tm:Int}{u:aM}
def Mz.apX {G:BM}(I:Mz ms m2 (g1++G::g2)):G.g∉g1.map (·.g):=λh=>by have:=I.nd;grind
def ag_ {K:Option Addr->Nat->Nat->World->Prop}(hl:ps.length<=1000000000)(s:Sep F W w (av ub 211 [ae g,ae sc,.slice none 0 0]::Ao (g1++⟨g,q,ps⟩::g2)::T))
  (k:∀q' w',Sep F W w' (Ao (g1++⟨g,q',ps++[⟨g,sc,⟨none,0,0⟩,[]⟩]⟩::g2)::T)->K q'.a q'.n q'.c w'):App P #[208,208] 208 (.slice q.a q.n q.c) (.slice (sZ ub) 1 1) w K:=by
 have s:=jm s;unfold Ao at s;rw[List.map_append,List.map_cons]at s;have s:=Rl s;have s:Sep F W w (aj q.a q.n q.c 211 3 (flat xL ps)::_::av ub 211 _::T):=s;have hqn:=(aL s (i:=0) rfl tT (by decide)).len;have src:Src w (sZ ub) 1 3 (xL ⟨g,sc,⟨none,0,0⟩,[]⟩):=⟨rfl,amY _,λj v hj=>by rw[cf,Nat.zero_add];exact c9 s (i:=2) rfl rfl hj⟩;refine iH dU s (i:=0) (bytes:=40) rfl rfl rfl rfl rfl rfl (by decide) rfl src (by simp[maxLen];omega) (by omega) (λe=>by cases e) λra rc w s=>?_;have e:flat xL ps++xL ⟨g,sc,⟨none,0,0⟩,[]⟩=flat xL (ps++[⟨g,sc,⟨none,0,0⟩,[]⟩]):=by rw[gG];simp[flat]
 rw[e]at s;apply k ⟨ra,q.n+1,rc⟩ w;have s:=fQ (A:=[_,_,_]) (B:=[gpR ⟨g,⟨ra,q.n+1,rc⟩,ps++[⟨g,sc,⟨none,0,0⟩,[]⟩]⟩,_]) [0,1] s rfl (by decide);have s:=KW s;unfold Ao;simp_all
def aq_ {q':AM}{p:z7}(s:Sep F W w (Ao gs::zM (jI (g1++⟨g,q,ps⟩::g2))::T))(hp:p.q=⟨none,0,0⟩)(hi:p.ids=[]):Sep F W w (Ao gs::zM (jI (g1++⟨g,q',ps++[p]⟩::g2))::T):=by
 have e1:jI (g1++⟨g,q,ps⟩::g2)=(jI g1++ps)++jI g2:=by unfold jI;grind
 have e2:aoZ p=aj none 0 0 3 1 []:=by unfold aoZ;rw[hp,hi];rfl
 rw[e1]at s;rw[YU];unfold zM at s⊢;rw[List.map_append]at s;rw[List.map_append,List.map_cons,e2];have s:=bE s 3 1;have s:=pk 3 [0,2,1] s;exact cE (KW s) (List.Perm.swap _ _ _)
structure akm (mw mh:Int) (us:List aM) (i:Nat) (ms:List (Int×AM)) (m2:List ((Int×Int)×Int)) (gs:List BM):Prop where
 I:Mz ms m2 gs
 pl:Ey gs=aaN mw mh (us.take i)
 sz:∀G∈gs,G.ps.length<=i/\∀p∈G.ps,p.ids.length<=i
def akm.next {us:List aM}{ms':List (Int×AM)}{W_:List ((Int×Int)×Int)}{q':AM}{p':z7}(S:akm mw mh us i ms m2 gs)(hu:us[i]? =some u)(I':Mz ms' W_ (g1++⟨g,q',p1++p'::p2⟩::g2))(e:Ey (g1++⟨g,q',p1++p'::p2⟩::g2)=pN u.goal (aC mw mh u.cell) u.id (Ey gs))
  (h1:∀G∈g1,G∈gs)(h2:∀G∈g2,G∈gs)(hl:(p1++p'::p2).length<=i+1)(hp:p'.ids.length<=i+1)(hps:∀p,p∈p1\/p∈p2->p.ids.length<=i):akm mw mh us (i+1) ms' W_ (g1++⟨g,q',p1++p'::p2⟩::g2):=by
 refine⟨I',?_,λG hG=>?_⟩
 ·rw[e,S.pl,List.take_add_one,hu];show _=List.foldl _ _ (us.take i++[u]);rw[List.foldl_append];rfl
 ·have up:∀G∈gs,G.ps.length<=i+1/\∀p∈G.ps,p.ids.length<=i+1:=λG hG=>⟨Nat.le_succ_of_le (S.sz G hG).1,λp hp=>Nat.le_succ_of_le ((S.sz G hG).2 p hp)⟩;grind
def ara {gs:List BM}(h:∀G∈gs,∀p∈G.ps,p.g=G.g):(jI gs).map KX=Cl (Ey gs):=by unfold jI Cl Ey;rw[List.map_flatMap,List.flatMap_map];refine congrArg List.flatten ?_|>λe=>(List.flatMap_def ..).trans (e.trans (List.flatMap_def ..).symm);refine List.map_congr_left λG hG=>?_;rw[List.map_map];refine List.map_congr_left λp hp=>?_;show FK.mk _ _ _=FK.mk _ _ _;grind
end
def apY {a:Int}{b:Bool}{K:Int->Bool->Prop}(k:K a b):dT (.tuple #[ae a,.bool b]) λl=>dg l λv0 l0=>dI .i64 v0 λx=>dg l0 λv1 l1=>dB v1 λy=>ko l1 (K x y):=k
section
variable {F:Nat->Prop}{W w w0:World}{L T:List As}{mw mh:Int}{la:Option Addr}{ln lc:Nat}{us:List aM}
def amZ {Q:Option Addr->Nat->Nat->World->Prop}{mb Gc:Nat}{ms:List (Int×AM)}{m2:List ((Int×Int)×Int)}{gs:List BM}{ga:Option Addr}{gn gc:Nat}(I:Mz ms m2 gs)(h64:∀G∈gs,g_ G.g)(vi:(jI gs).length<=1000000)(D2:gs.length<=1000000)
  (h:∀oa on oc w',Sep No w0 w' (aj oa on oc 211 3 (flat xL (jI gs))::zM (jI gs)::[])->Q oa on oc w'):
  ∀(j i:Nat) (oa:Option Addr) (on oc:Nat) (w:World),i+j=gn->gs.length=gn->Sep No w0 w (aj oa on oc 211 3 (flat xL (jI (gs.take i)))::aj ga gn gc 3 1 (flat one (gs.map (·.g)))::Ao gs::zM (jI gs)::fF e9 RV mb ms::[])->
   AA Q (j+1) (some mb) oa on oc ga gn gc (gn:Int) i w:=by
 intro j;induction j with
 |zero=>
  intro i oa on oc w hij F2 s;show wu _ _ _ _ _ _ _ _ _ _ _ _;rw[wu,bp];rw[List.take_of_length_le (by omega)]at s;exact h oa on oc w (cF (L':=[_,_]) [0,3] s rfl (by decide))
 |succ j ih=>
  intro i oa on oc w hij F2 s;show wu _ _ _ _ _ _ _ _ _ _ _ _;rw[wu,bJ];have hi:i<gs.length:=by omega
  obtain⟨G,hG⟩:∃G,gs[i]? =some G:=⟨_,List.getElem?_eq_getElem hi⟩;have hmem:=List.mem_of_getElem? hG;have hgi:gi (gs.map (·.g)) i=G.g:=by unfold gi;grind
  have xq:gs.take (i+1)=gs.take i++[G]:=by rw[List.take_add_one,hG];rfl
  have hall:jI (gs.take (i+1))=jI (gs.take i)++G.ps:=by unfold jI;grind
  have hle:(jI (gs.take (i+1))).length<=(jI gs).length:=by
   have e:jI gs=jI (gs.take (i+1))++jI (gs.drop (i+1)):=by unfold jI;rw[<-List.flatMap_append,List.take_append_drop]
   grind
  have HL:=(aL s (i:=0) rfl tT (by decide)).len;rw[hall,List.length_append]at hle;apply(aL s (i:=1) rfl cj (by decide)).pC rfl (by omega);rw[hgi,KU (by omega)];apply aaO s (i:=4) rfl I.hk (h64 G hmem);rw[I.of_ G hmem];have src:Src w G.q.a G.q.n 3 (flat xL G.ps):=by have s2:=cF (L':=[_]) [2] s rfl (by decide);have s3:=(iT s2).2;exact anG s3 (by rw[List.getElem?_append_left (by rw[List.length_map];exact hi),List.getElem?_map,hG];rfl)
  have hcc:G.q.a=none->G.q.c=0:=by have s2:=cF (L':=[_]) [2] s rfl (by decide);have s3:=(iT s2).2;exact ac0 s3 (by rw[List.getElem?_append_left (by rw[List.length_map];exact hi),List.getElem?_map,hG];rfl)
  have hqn:G.ps.length=G.q.n:=by have:=src.1;rw[iz tT]at this;omega
  refine iH dU s (i:=0) (bytes:=40) rfl rfl rfl rfl rfl rfl (by decide) rfl src (by simp[maxLen];omega) (by omega) hcc λra rc w s=>?_;rw[<-gG,<-hall]at s;grind
def akn {Q:Option Addr->Nat->Nat->World->Prop}{mb Gc:Nat}(hU:Sl w0 la ln lc 3 gW us)(pI:ln<=100000)(hm:nk mw mh us)
  (h:∀oa on oc ps w',ps.map KX=l6 mw mh us->Sep No w0 w' (aj oa on oc 211 3 (flat xL ps)::zM ps::[])->Q oa on oc w'):
  ∀(j i:Nat) (ms:List (Int×AM)) (m2:List ((Int×Int)×Int)) (gs:List BM) (w:World),i+j=ln->akm mw mh us i ms m2 gs->Sep No w0 w (Ao gs::zM (jI gs)::fF e9 RV mb ms::fF Jg vI Gc m2::[])->
   yA Q (j+1) mw mh la ln lc (some mb) (some Gc) la ln lc (ln:Int) i w:=by
 have hlen:=hU.len;intro j;induction j with
 |zero=>
  intro i ms m2 gs w hij S s;show yz _ _ _ _ _ _ _ _ _ _ _ _ _ _ _;rw[yz,bp];have S:=S;have Hj:=S.pl;rw[List.take_of_length_le (by omega)]at Hj;have as0:gs.map (·.g)=sJ us:=by rw[<-Rk,<-Hj,MA]
  have htr:(jI gs).map KX=l6 mw mh us:=by rw[ara S.I.pg,Hj];rfl
  have hal:(jI gs).length<=us.length:=by have e:((jI gs).map KX).length=(jI gs).length:=List.length_map ..;have:=adM mw mh us;grind
  have h64:∀u∈us,g_ u.goal:=λu hu=>zI (hm.at_ u hu).2;refine YN s (hU.fr (au s)) (by omega) h64 λga gn gc w s _=>?_;rw[<-as0]at s;have F2:=(aL s (i:=0) rfl cj (by decide)).len;rw[List.length_map]at F2;have s:=bE s 211 3;refine⟨gn+1,amZ (Gc:=Gc) S.I (λG hG=>?_) (by omega) (by have:=amM (us:=us);grind) (λoa on oc w' s'=>h oa on oc (jI gs) w' htr s') gn 0 none 0 0 w (by omega) F2 (cF (L':=[_,_,_,_,_]) [0,1,2,3,4] s rfl (by decide))⟩;have:G.g∈sJ us:=by grind
  rw[<-Rk (w:=mw) (h:=mh)]at this;obtain⟨q,hq,e⟩:=List.mem_map.1 this;have hf:∃u∈us,u.goal=G.g:=by
   have hg:∀(us:List aM) (out:List Int),G.g∈us.foldl Dw out->G.g∈out\/∃u∈us,u.goal=G.g:=by
    intro us;induction us with
    |nil=>grind
    |cons u us ih=>
     intro out h;rcases ih _ h with h|⟨v,hv,e⟩
     ·unfold Dw at h;grind
     grind
   rw[Rk]at this;exact(hg us [] this).elim (λh=>by cases h) id
  grind
 |succ j ih=>
  intro i ms m2 gs w hij S s;show yz _ _ _ _ _ _ _ _ _ _ _ _ _ _ _;rw[yz,bJ];refine(hU.fr (au s)).El rfl (by omega) λp u hu hc=>?_;have Hl:=hm.at_ u (List.mem_of_getElem? hu);have hsc:=(bQ Hl.1).2;have hcn:=gz hm.wh.1 hm.wh.2;have Vl:g_ u.goal/\g_ (aC mw mh u.cell):=⟨zI Hl.2,by unfold g_;omega⟩;refine Vh hc s λub w s=>?_;apply lI s 0 rfl;refine eL s λw s _=>?_;apply lI s 0 rfl;refine aY s λkb w s=>?_;refine sT s 0 rfl λw s=>?_;refine az s (i:=0) rfl rfl rfl λw s=>?_;refine lI s 0 rfl (lI s 0 rfl ?_);refine Dt (K:=Jg) (x:=(u.goal,aC mw mh u.cell)) atT (aap w) s (i:=5) rfl S.I.Hs Vl (λhn=>?_) λk hk=>?_
  ·apply apY;obtain⟨g1,⟨g,q,ps⟩,g2,eg,I,Mx⟩:=S.I.group u.goal;subst eg;have hnew:aC mw mh u.cell∉ps.map (·.s):=λhin=>by obtain⟨p',hp',e⟩:=List.mem_map.1 hin;have:=I.at2 ⟨u.goal,q,ps⟩ (by simp) p' hp';rw[e,hn]at this;cases this
   have Hj:pN u.goal (aC mw mh u.cell) u.id (Ey (g1++⟨u.goal,q,ps⟩::g2))=pN u.goal (aC mw mh u.cell) u.id (Ey gs):=by
    rcases Mx with e|⟨e1,e2,e3,e4⟩
    ·rw[e]
    ·cases e3;subst e2 e1;have:Ey (gs++[⟨u.goal,⟨none,0,0⟩,[]⟩])=Ey gs++[(u.goal,[])]:=by unfold Ey;simp
     rw[this];exact aoU (by rw[MA];exact e4)
   have hsz:ps.length<=i/\∀p∈ps,p.ids.length<=i:=by
    rcases Mx with e|⟨e1,e2,e3,e4⟩
    ·exact S.sz ⟨u.goal,q,ps⟩ (by rw[e];simp)
    ·cases e3;exact⟨Nat.zero_le _,λp hp=>by cases hp⟩
   have av0:∀G∈g1,G∈gs:=λG hG=>by
    rcases Mx with e|⟨e1,e2,e3,e4⟩
    ·rw[e];exact List.mem_append_left _ hG
    ·rw[e1];exact hG
   have av1:∀G∈g2,G∈gs:=λG hG=>by
    rcases Mx with e|⟨e1,e2,e3,e4⟩
    ·rw[e];exact List.mem_append_right _ (List.mem_cons_of_mem _ hG)
    ·rw[e2]at hG;cases hG
   have s:Sep No w0 w (Ao (g1++⟨u.goal,q,ps⟩::g2)::zM (jI (g1++⟨u.goal,q,ps⟩::g2))::fF e9 RV mb ms::fF Jg vI Gc m2::av ub 43 (gW u)::av kb 253 [ae u.goal,ae (aC mw mh u.cell)]::[]):=by
    have s:=cF (L':=[_,_,_,_,_,_]) [2,3,4,5,1,0] s rfl (by decide);rcases Mx with e|⟨e1,e2,e3,e4⟩
    ·rw[<-e];exact s
    ·cases e3;subst e2 e1;have e:jI (gs++[⟨u.goal,⟨none,0,0⟩,[]⟩])=jI gs:=by unfold jI;simp
     rw[e];unfold Ao at s⊢;have s:=bE s 211 3;rw[List.map_append];apply KW (B:=[]);rw[List.append_nil];exact s
   have hqn:q.n=ps.length:=by have s2:=s;unfold Ao at s2;rw[List.map_append,List.map_cons]at s2;have s2:=Rl s2;exact((aL s2 (i:=0) rfl tT (by decide)).len).symm
   have hq:=I.of_ ⟨u.goal,q,ps⟩ (by simp);apply lI s 4 rfl;apply aaO s (i:=2) rfl I.hk Vl.1;rw[hq];refine lI s 5 rfl (lI s 5 rfl ?_);refine KC (v:=vI) (ms:=m2) (a:=(q.n:Int)) (x:=(u.goal,aC mw mh u.cell)) atT s (i:=3) rfl I.Hs Vl λW_ w av2 RQ _ s=>?_;have s:=ax (cF (L':=[Ao (g1++⟨u.goal,q,ps⟩::g2),zM (jI (g1++⟨u.goal,q,ps⟩::g2)),fF e9 RV mb ms,fF Jg vI Gc W_,av ub 43 (gW u)]) [0,1,2,3,4] s rfl (by decide));rw[hqn]at RQ⊢;have fin:∀(q':AM) (w:World),Sep No w0 w (Ao (g1++⟨u.goal,q',ps++[⟨u.goal,aC mw mh u.cell,⟨none,0,0⟩,[]⟩]⟩::g2)::zM (jI (g1++⟨u.goal,q,ps⟩::g2))::fF e9 RV mb ms::fF Jg vI Gc W_::av ub 43 (gW u)::[])->
     bw P (Instr.mapUpdate 252 (.map (some mb)) (ae u.goal) (.slice q'.a q'.n q'.c)) w λw=>oX (yA Q (j+1)) Q mw mh la ln lc (some mb) (some Gc) (aZ ub) (ps.length:Int) la ln lc (ln:Int) i w:=λq' w s=>by
    refine KC (k:=3) (e:=208) (K:=e9) (v:=RV) (ms:=ms) (a:=q') (x:=u.goal) ofT s (i:=2) rfl I.hk Vl.1 λms' w hk' Dg _ s=>?_;have I2:=I.add (G:=⟨u.goal,q,ps⟩) (p:=⟨u.goal,aC mw mh u.cell,⟨none,0,0⟩,[]⟩) hk' av2 Dg RQ rfl hnew;have s:=aq_ (q':=q') (p:=⟨u.goal,aC mw mh u.cell,⟨none,0,0⟩,[]⟩) s rfl rfl;refine adP (p2:=[]) (by omega) hk' (I2.of_ ⟨u.goal,q',ps++[⟨u.goal,aC mw mh u.cell,⟨none,0,0⟩,[]⟩]⟩ (by simp)) rfl Vl.1 (Nat.zero_le _) s λq2 w s=>?_;refine ih (i+1) ms' W_ _ w (by omega) ?_ s;refine S.next hu (I2.pairs (G':=⟨u.goal,q',ps++[⟨u.goal,aC mw mh u.cell,q2,[]++[u.id]⟩]⟩) rfl rfl (by simp) λp hp=>?_) ?_ av0 av1 (by simp;omega) (by simp) λp hp=>?_
    ·rcases List.mem_append.1 hp with hp|hp
     ·exact I.pg ⟨u.goal,q,ps⟩ (by simp) p hp
     ·rw[List.mem_singleton.1 hp]
    ·rw[<-Hj];exact aq9 I.apX hnew rfl rfl
    ·exact hp.elim (λhp=>hsz.2 p hp) λhp=>by cases hp
   refine lI s 4 rfl (lI s 4 rfl (lI s 4 rfl ⟨?_,?_⟩))
   ·apply aaO s (i:=2) rfl I.hk Vl.1;rw[hq];refine⟨cN s 4 rfl,cN s 4 rfl,?_⟩;refine aS s λxb w s=>⟨cN s 5 rfl,cN s 5 rfl,?_⟩;refine ag_ (by omega) s λq' w s=>⟨cN s 4 rfl,?_⟩;exact fin q' w s
   ·refine aS s λxb w s=>⟨cN s 5 rfl,cN s 5 rfl,?_⟩;apply aaO s (i:=3) rfl I.hk Vl.1;rw[hq];refine⟨cN s 5 rfl,cN s 5 rfl,?_⟩;refine ag_ (by omega) s λq' w s=>⟨cN s 4 rfl,?_⟩;exact fin q' w s
  ·apply apY;rw[Bool.not_true,cond_false];obtain⟨⟨g,q,ps⟩,hG,e1,ET,e3⟩:=S.I.at1 _ _ _ hk;simp only at e1 e3;subst e1;obtain⟨p,hp,e4⟩:=Option.map_eq_some_iff.1 e3;have hkl:=(List.getElem?_eq_some_iff.1 hp).1;have as1:ps=ps.take k.toNat++p::ps.drop (k.toNat+1):=by have:=(List.getElem?_eq_some_iff.1 hp).2;rw[<-this,<-List.drop_eq_getElem_cons hkl,List.take_append_drop]
   have hkp:k=((ps.take k.toNat).length:Nat):=by rw[List.length_take];omega
   generalize ps.take k.toNat=p1 at*;generalize ps.drop (k.toNat+1)=p2 at*;subst as1;obtain⟨g1,g2,e5⟩:=List.append_of_mem hG;subst e5;subst hkp;have hsz:=S.sz _ hG;have hn1:aC mw mh u.cell∉p1.map (·.s):=λh=>by have:=S.I.nds _ hG;simp[List.map_append,List.map_cons]at this;rw[List.nodup_append]at this;exact this.2.2 _ h _ (by rw[<-e4];exact List.mem_cons_self ..) rfl
   have s:=cF (L':=[_,_,_,_,av ub 43 (gW u)]) [2,3,4,5,1] s rfl (by decide);refine adP (by omega) S.I.hk (S.I.of_ _ hG) rfl Vl.1 (by have:=hsz.2 p (by simp);omega) s λq2 w s=>?_;refine ih (i+1) ms m2 _ w (by omega) ?_ s;refine S.next hu (S.I.pairs (G':=⟨u.goal,q,p1++⟨p.g,p.s,q2,p.ids++[u.id]⟩::p2⟩) rfl rfl (by simp) λx hx=>?_) ?_ (λG h=>by simp[h]) (λG h=>by simp[h]) ?_ ?_ λx hx=>?_
   ·rw[List.mem_append,List.mem_cons]at hx;rcases hx with h|rfl|h
    ·exact S.I.pg _ hG x (by simp[h])
    ·exact S.I.pg _ hG p (by simp)
    ·exact S.I.pg _ hG x (by simp[h])
   ·exact aq8 S.I.apX hn1 e4 e4 rfl
   ·have:=hsz.1;simp[List.length_append,List.length_cons]at this⊢;omega
   ·have:=hsz.2 p (by simp);simp[List.length_append,List.length_cons,List.length_nil];omega
   ·exact hsz.2 x (by rcases hx with h|h<;>simp[h])
def YV {Q:Option Addr->Nat->Nat->World->Prop}(s0:Sep F W w0 L)(hU:Sl w0 la ln lc 3 gW us)(pI:ln<=100000)(hm:nk mw mh us)
  (h:∀oa on oc ps w',ps.map KX=l6 mw mh us->Sep F W w' (aj oa on oc 211 3 (flat xL ps)::zM ps::L)->Fr No w0 w'->Q oa on oc w'):DH mw mh la ln lc w0 Q:=by
 apply X6;refine Pt (bt (F:=No)) hU (by omega) hm λw s _=>?_;refine Yz s 252 e9 RV λmb w s=>?_;refine Yz s 180 Jg vI λGc w s=>?_;have s:=dW (Ps:=[]) s trivial;have s:=dW (Ps:=[]) s trivial;have s:=cF (L':=[Ao [],zM (jI []),fF e9 RV mb ([]:List (Int×AM)),fF Jg vI Gc ([]:List ((Int×Int)×Int))]) [0,1,3,2] s rfl (by decide);refine⟨ln+1,akn hU pI hm (λoa on oc ps w' e s'=>h oa on oc ps w' e (fP s0 s') (au s')) ln 0 [] [] [] w (by omega) ⟨⟨List.nodup_nil,List.nodup_nil,List.nodup_nil,(λG h=>by cases h),(λG h=>by cases h),(λg _=>rfl),(λg s k h=>by cases h),(λG h=>by cases h),(λG h=>by cases h)⟩,rfl,λG h=>by cases h⟩ s⟩
end
end Go.Proofs.YtmegplnmiepfbaaGreatDoor.S
set_option maxRecDepth 20000
namespace Go.Proofs.YtmegplnmiepfbaaGreatDoor.S
open Go.Sx
open Go.Extern
def av3 (args:Array Value)(w:World):(callFunc 219 args).run P w=((BytealgMakeNoZero.makeNoZero #[3] #[22] args).run P w).andThen λv w'=>.ok (.value v) w':=run_callFunc_extern Go.Proofs.Tryz.func219 (by kernel_rfl) (by kernel_rfl) (by kernel_rfl) (by kernel_rfl) args w
def aha:P.underlying 22=some (.slice 5):=by kernel_rfl
def aaP:∀(n t:Nat) (acc:Array Value) (xs:List Int),acc.toList=flat bA xs->∃ys:List Int,(BytealgMakeNoZero.digits n t acc).toList=flat bA ys
 |0,_,acc,xs,h=>⟨xs,h⟩
 |n+1,t,acc,xs,h=>by apply aaP n (t/256) _ (xs++[((t%256:Nat):Int)]);rw[Array.toList_push,h,gG];rfl
def arb (n:Nat)(hn:n<=100000)(w:World):∃t,(BytealgMakeNoZero.makeNoZero #[3] #[22] #[ae n]).run P w=.ok (.slice (sZ w.heap.size) n (grownCap w n 0 5)) (w.drew.drew.alloc (.cells (BytealgMakeNoZero.digits (grownCap w n 0 5) t #[]) 5)):=by
 have av4:BytealgMakeNoZero.makeNoZero #[3] #[22] #[ae n]=
  (do
   let .slice elem<-underlying 22|stuck "bytealg.MakeNoZero: slice type expected"
   if(n:Int)<0||(n:Int)>2^48 then runtimePanic (.error "makeslice: len out of range")
   let cap<-choose (.appendCap (n:Int).toNat 0 elem)
   askRoom cap
   let bytes<-choose (.extern "internal/bytealg.MakeNoZero.bytes" 0);let a<-newRow elem (BytealgMakeNoZero.digits cap bytes #[])
   pure (.slice (some a) (n:Int).toNat cap)):=rfl
 have h1:¬(n:Int)<0:=by omega
 have h2:¬(281474976710656:Int)<(n:Int):=by omega
 refine⟨(Question.extern "internal/bytealg.MakeNoZero.bytes" 0).cut (w.tape (w.drawn+1) (.extern "internal/bytealg.MakeNoZero.bytes" 0)),?_⟩;rw[av4];simp[run_underlying aha,h1,h2,Question.forced,newRow,grownCap]
attribute [local irreducible] sK callFunc Sem.run BytealgMakeNoZero.makeNoZero in
theorem as2 {n:Nat}{w w':World}{v:Value}{K:Value->World->Prop}(h:(BytealgMakeNoZero.makeNoZero #[3] #[22] #[ae n]).run P w=.ok v w')(k:K v w'):sK P 219 #[ae n] w K:=
 jH av3 h k
def as3 {F:Nat->Prop}{W w:World}{L:List As}{n:Nat}{K:Value->World->Prop}(hn:1<=n/\n<=100000)(s:Sep F W w L)(h:∀b ys w',ys.length=n->Sep F W w' (aj (sZ b) n n 5 1 (flat bA ys)::L)->K (.slice (sZ b) n n) w'):
  sK P 219 #[ae n] w λv w1=>dS v λa m c=>aK P (Instr.sliceAt 22 (.slice a m c) none (some (ae n)) (some (ae n))) w1 K:=by
 obtain⟨t,ht⟩:=arb n (by omega) w;apply as2 ht;have hge:=grownCap_ge w n 0 5;have hle:=grownCap_le_maxLen w n 0 5 (by simp[maxLen];omega);obtain⟨ys,hys⟩:=aaP (grownCap w n 0 5) t #[] [] rfl;have hlen:ys.length=grownCap w n 0 5:=by have e:=congrArg List.length hys;rw[iz cY,Array.length_toList,Lib.size_digits]at e;grind
 generalize hc:grownCap w n 0 5=c at*;have hcs:(BytealgMakeNoZero.digits c t #[])=(flat bA ys).toArray:=by rw[<-hys]
 rw[hcs];have s:=sO (ax (ax s)) (flat bA ys) 5;have s:Sep F W (w.drew.drew.alloc (.cells (flat bA ys).toArray 5)) (av w.heap.size 5 (flat bA ys)::L):=s;have hone:∀u∈flat bA ys,u.oneCell'=true:=λu hu=>by obtain⟨x,_,hx⟩:=List.mem_flatMap.1 hu;exact z_ x u hx
 have s:=iS s (i:=0) rfl (by rw[iz cY,hlen]) hle hone;simp[List.set_cons_zero]at s;generalize w.drew.drew.alloc (.cells (flat bA ys).toArray 5)=w1 at*;generalize w.heap.size=b at*;have hs:(sizeOf 5).run P w1=.ok 1 w1:=by kernel_rfl
 have hr:(Instr.sliceAt 22 (.slice (sZ b) n c) none (some (ae n)) (some (ae n))).run P w1=.ok (.slice (sZ b) n n) w1:=by rw[run_sliceAt_slice w1 22 _ _ _ _ aha,run_slice_hm w1 22 (sZ b) n c aha .i64 .i64 n n (by omega) (Int.le_refl _) (by omega)];show((sizeOf 5).run P w1).andThen _=_;rw[hs];simp[Result.andThen,sliced,Int.toNat_natCast,Nat.sub_zero];simp[Addr.add]
 apply Aa hr;apply h b (ys.take n) w1 (by grind);refine⟨dN.fr s,λA hA=>?_,?_⟩
 ·rcases List.mem_cons.1 hA with rfl|hA
  ·obtain⟨⟨⟨k1,k2,k3,k4⟩,k5⟩,k6⟩:=dN.ok s _ (List.mem_cons_self ..);refine⟨⟨⟨by rw[iz cY,List.length_take];omega,Nat.le_refl _,by omega,λu hu=>?_⟩,?_⟩,λx hx=>k6 x hx⟩
   ·obtain⟨x,_,hx⟩:=List.mem_flatMap.1 hu;exact z_ x u hx
   ·rcases k5 with⟨h,_⟩|⟨g,o,cur,e1,e2,e3,e4⟩
    ·cases h
    ·refine .inr ⟨g,o,cur,e1,e2,by omega,?_⟩;have:flat bA (ys.take n)=(flat bA ys).take (n*1):=(Tq cY ys n).symm;grind
  ·exact dN.ok s A (List.mem_cons_of_mem _ hA)
 ·have:=dN.apart s;rw[List.pairwise_cons]at this⊢;exact⟨λA hA b hb=>this.1 A hA b hb,this.2⟩
attribute [local irreducible] sK callFunc Sem.run af cq bq bf aB bY bT St Bx Al App cu cg b_ bR aK bw aq bP av aj aU mapA
def am0 {v:Int}{n k:Nat}{Z:List Int}(hk:k<=n)(hZ:k<=Z.length):
  (flat bA (List.replicate n v++Z)).take (n*1)++(flat bA ((List.replicate n v++Z).take n)).take (k*1)++(flat bA (List.replicate n v++Z)).drop ((n+k)*1)=flat bA (List.replicate (n+k) v++Z.drop k):=by
 simp only[Xo,Nat.mul_one];rw[<-List.map_take,<-List.map_take,<-List.map_drop,<-List.map_append,<-List.map_append];congr 1;rw[List.take_left' (by simp),List.take_replicate,Nat.min_eq_left hk,List.replicate_append_replicate,<-List.drop_drop,List.drop_left' (by simp)]
section
variable {F:Nat->Prop}{W w w0:World}{L:List As}{xa:Option Addr}{xc:Nat}{v:Int}
def am1 {Q:Option Addr->Nat->Nat->World->Prop}{b N:Nat}(hN:N<=8192)(h:∀w',Sep No w0 w' (aj (sZ b) N N 5 1 (flat bA (List.replicate N v))::L)->Q (sZ b) N N w'):
  ∀(m n:Nat) (Z:List Int) (w:World),N<=n+m->1<=n->n+Z.length=N->Sep No w0 w (aj (sZ b) N N 5 1 (flat bA (List.replicate n v++Z))::L)->sw Q (m+1) N N (sZ b) N N n w:=by
 have done:∀(R:Int->Int->Option Addr->Nat->Nat->Int->World->Prop) (Z:List Int) (w:World),Z.length=0->Sep No w0 w (aj (sZ b) N N 5 1 (flat bA (List.replicate N v++Z))::L)->sv Q R N N (sZ b) N N N w:=λR Z w hZ s=>by unfold sv;grind
 intro m;induction m with
 |zero=>
  intro n Z w hm h1 h2 s;have:n=N:=by omega
  subst this;exact done _ Z _ (by omega) s
 |succ m ih=>
  intro n Z w hm h1 h2 s;show sv Q (sw Q (m+1)) _ _ _ _ _ _ _;by_cases hn:n=N
  ·grind
  ·rw[sv,bJ];apply Nx rfl (by omega);rw[ru];have em:EH (n:Int) (N:Int)=n:=by unfold EH;omega
   rw[em];apply Nw rfl (by omega);have s:=ax s;have hT:=(aL s (i:=0) rfl cY (by decide)).top (m:=n) (by omega);refine DB (p:=n) dU s rfl rfl rfl rfl (by decide) (i:=0) rfl (hT.src (e:=5) cY z_) (by omega) (by simp[Addr.add];omega) λw s=>?_;rw[am0 (Nat.min_le_left _ _) (by omega)]at s;have e:IntKind.wrap .i64 ((n:Int)+((min n (N-n):Nat):Int))=((n+min n (N-n):Nat):Int):=by rw[aF];omega
   grind
def Rm {N:Nat}{Q:Option Addr->Nat->Nat->World->Prop}(s0:Sep F W w L)(hA:Sl w xa 1 xc 1 bA [v])(hN:1<=N/\N<=8192)
  (h:∀ra w',Sep F W w' (aj ra N N 5 1 (flat bA (List.replicate N v))::L)->Fr No w w'->Q ra N N w'):qV xa 1 xc N w Q:=by
 apply HB;rw[cJ (by omega),cond_false,bp,jT (by decide),jT (by omega)];apply Cg (by decide) (by omega) (by omega);have e1:((1:Nat):Int)*N=N:=by omega
 rw[e1,bp (by decide),bp,cJ (by decide),cond_false,aF,bp];refine as3 (by omega) (bt (F:=No)) λb ys w' hys s=>?_;refine DB (p:=0) dU s rfl rfl rfl rfl (by decide) (i:=0) rfl ((hA.fr (au s)).src (e:=5) cY z_) (by omega) rfl λw' s=>?_;have hm:min 1 N=1:=by omega
 rw[hm]at s⊢;have e2:(flat bA ys).take (0*1)++(flat bA [v]).take (1*1)++(flat bA ys).drop ((0+1)*1)=flat bA (List.replicate 1 v++ys.drop 1):=by simp only[Xo,Nat.zero_mul,List.take_zero,List.nil_append,Nat.mul_one,Nat.zero_add];rw[<-List.map_take,<-List.map_drop,<-List.map_append];rfl
 rw[e2]at s;exact⟨N+1,am1 hN.2 (λw' s=>h _ _ (dX s0 s (i:=0) rfl) (au s)) N 1 (ys.drop 1) w' (by omega) (by omega) (by rw[List.length_drop];omega) s⟩
def ako {N:Nat}{Q:Option Addr->Nat->Nat->World->Prop}(s0:Sep F W w L)(hN:1<=N/\N<=8192)
  (h:∀ra w',Sep F W w' (aj ra 0 0 5 1 (flat bA [])::L)->Fr No w w'->Q ra 0 0 w'):qV Option.none 0 0 N w Q:=by
 apply HB;rw[cJ (by omega),cond_false,bp,jT (by decide),jT (by omega)];apply Cg (by decide) (by omega) (by omega);have e1:((0:Nat):Int)*N=0:=by omega
 rw[e1,bp (by decide),bp,show((((0:Nat):Int))==0)=true from rfl,cond_true];refine aS (bt (F:=No)) λb w' s=>?_;have s:=iS (n:=0) (size:=1) s (i:=0) rfl rfl (by decide) (λu hu=>by cases hu);exact h _ _ (dX s0 s (i:=0) rfl) (au s)
end
end Go.Proofs.YtmegplnmiepfbaaGreatDoor.S
namespace Go.Proofs.YtmegplnmiepfbaaGreatDoor.S
open Go.Sx
attribute [local irreducible] af cq bq bf aB bY bT St Bx Al App cu cg b_ bR aK bw aq bP av aj aU mapA
def axO:oB 242 fns=true:=by kernel_rfl
def Hf (cs:List Int):Bool:=!cs.any λc=>c !=gi cs 0
def FL (f:Nat)(cs:List Int):Option (List Int):=if f=0 then(if Hf cs=true then some [0,gi cs 0]else none)else if f=1 then some (1::cs)else some (sP cs)
abbrev Dx (tw th:Int)(a:Option Addr)(n c:Nat):List Value:=[ae tw,ae th,.slice a n c]
section
variable {F:Nat->Prop}{W w w0:World}{L:List As}{ca:Option Addr}{cn cc tb:Nat}{cs:List Int}{tw th:Int}
def am2 {Q:Bool->World->Prop}(hC:Sl w ca cn cc 1 bA cs)(hn:1<=cn/\cn<=1000)(s:Sep F W w (av tb 84 (Dx tw th ca cn cc)::L))(h:Q (!Hf cs) w):mu ca cn cc (.func (.func 242) #[] #[.pointer (sZ tb)]) w Q:=by
 apply B2;apply DS;have hl:=hC.len;have loop:∀(j i:Nat),i+j=cn->(∀k,k<i->gi cs k=gi cs 0)->iZ (λr w=>Q (decide (r≥0)) w) (j+1) ca cn cc (.func (.func 242) #[] #[.pointer (sZ tb)]) (cn:Int) i w:=by
  intro j;induction j with
  |zero=>
   intro i hi hall;show iY _ _ _ _ _ _ _ _ _;unfold iY;have e:Hf cs=true:=by rw[Hf,Bool.not_eq_true',List.any_eq_false];intro c hc;obtain⟨k,hk⟩:=List.mem_iff_getElem?.1 hc;have hkl:=(List.getElem?_eq_some_iff.1 hk).1;rw[gM hkl]at hk;grind
   grind
  |succ j ih=>
   intro i hi hall;show iY _ _ _ _ _ _ _ _ _;rw[iY,bJ];apply hC.Co rfl (by omega);unfold gQ;simp only;have hc:JS (gi cs i) (sZ tb) w λr w'=>cond r (Q (decide ((i:Int)≥0)) w') (iZ (λr w=>Q (decide (r≥0)) w) (j+1) ca cn cc (.func (.func 242) #[] #[.pointer (sZ tb)]) (cn:Int) (IntKind.wrap .i64 ((i:Int)+1)) w'):=by
    apply XI;refine ah (lS s 0 rfl ?_);apply hC.Co (k:=0) rfl (by omega);by_cases e:gi cs i=gi cs 0
    ·rw[wv e];show cond false _ _;rw[cond_false,KU (by omega)];exact ih (i+1) (by omega) λk hk=>by grind
    ·rw[Fe e];show cond true _ _;rw[cond_true,decide_eq_true (by omega)];have e2:Hf cs=false:=by rw[Hf,Bool.not_eq_false',List.any_eq_true];exact⟨gi cs i,fy (by omega),Fe e⟩
     grind
   exact hc
 exact⟨cn+1,loop cn 0 (by omega) λk hk=>by omega⟩
def af7 {oa:Option Addr}{on oc b k:Nat}{out ns:List Int}{K:Option Addr->Nat->Nat->World->Prop}(s:Sep F W w (aj oa on oc 5 1 (flat bA out)::L))(HL:on<=100000000)(hk:ns.length=k)(Hs:k<=100000){ba:Option Addr}{bc:Nat}(hB:Sl w ba k bc 1 bA ns)
  (h:∀a' c' w',Sep F W w' (aj a' (on+k) c' 5 1 (flat bA (out++ns))::L)->K a' (on+k) c' w'):App P #[22,22] 22 (.slice oa on oc) (.slice ba k bc) w K:=by
 refine iH dU s (i:=0) (bytes:=1) rfl rfl rfl rfl rfl rfl (by decide) rfl (hB.src (e:=5) cY z_) (by simp[maxLen];omega) (by omega) (λe=>hB.nil e) λa1 c1 w1 s1=>?_;rw[<-gG]at s1;grind
def aaQ {ns:List Int}{b:Nat}{i:Nat}(s:Sep F W w L)(hi:L[i]? =some (av b 5 (flat bA ns))):Sl w (sZ b) ns.length ns.length 1 bA ns:=
 ⟨⟨rfl,λj x hx=>⟨_,rfl,λk v hk=>by
  rw[cf,Nat.zero_add,Nat.mul_one];apply c9 s rfl hi;have ET:k=0:=by have:=(List.getElem?_eq_some_iff.1 hk).1;rw[cY]at this;omega
  subst ET;have:=rS cY hx (j:=0) (by decide);grind⟩⟩,Nat.le_refl _,λe=>by cases e⟩
def ao0 {Q:Option Addr->Nat->Nat->World->Prop}{b:Nat}(hA:Sl w0 ca cn cc 1 bA cs)(hn:cn<=1000)(s:Sep No w0 w (aj (sZ b) 1 1 5 1 (flat bA [2])::av tb 84 (Dx tw th ca cn cc)::L))
  (h:∀g o rn rc w',Sep No w0 w' (aj (some ⟨g,o,none⟩) rn rc 5 1 (flat bA (sP cs))::av tb 84 (Dx tw th ca cn cc)::L)->Q (some ⟨g,o,none⟩) rn rc w'):∃k,vM Q k (aZ tb) (sZ b) 1 1 0 w:=by
 have hlen:=hA.len;have inner:∀(P3:Addr->Option Addr->Nat->Nat->Int->World->Prop) (x:Int) (i:Nat) (oa:Option Addr) (on oc:Nat) (out:List Int),cs[i]? =some x->on<=1000000->
   (∀a' c' w',Sep No w0 w' (aj a' (on+2) c' 5 1 (flat bA (out++[((lead x (cs.drop (i+1)):Nat):Int)%256,x]))::av tb 84 (Dx tw th ca cn cc)::L)->P3 (aZ tb) a' (on+2) c' ((i+1+lead x (cs.drop (i+1)):Nat):Int) w')->
   ∀(k r:Nat) (w:World),i+1+r+k=cn->lead x (cs.drop (i+1))=r+lead x (cs.drop (i+1+r))->Sep No w0 w (aj oa on oc 5 1 (flat bA out)::av tb 84 (Dx tw th ca cn cc)::L)->vL P3 Q (k+1) (aZ tb) oa on oc i ((r+1:Nat):Int) w:=by
  intro P3 x i oa on oc out hx HL next
  have hix:i<cn:=by grind
  have hgx:gi cs i=x:=by rw[gM (by omega)]at hx;grind
  have over:∀(r:Nat) (w:World),i+1+r<=cn->lead x (cs.drop (i+1))=r->Sep No w0 w (aj oa on oc 5 1 (flat bA out)::av tb 84 (Dx tw th ca cn cc)::L)->Dm P3 Q (aZ tb) oa on oc i ((r+1:Nat):Int) w:=by
   intro r w hr hl s;apply lS s 1 rfl;apply Sl.Co (hA.fr (au s)) rfl hix;rw[hgx,aF,aF,wrap_u8'];have e0:((r+1:Nat):Int)-1=(r:Int):=by omega
   rw[e0];refine aS s λb w s=>?_;have hB:=aaQ (ns:=[(r:Int)%256,x]) s (i:=0) rfl;refine af7 (k:=2) (b:=0) (jm s) (by omega) rfl (by decide) hB λa1 c1 w1 s1=>?_;rw[hl]at next
   have:=next a1 c1 w1 (gH s1 (.cons_cons _ (List.sublist_cons_self _ _)))
   grind
  intro k;induction k with
  |zero=>
   intro r w hr hl s;show Is P3 Q (vL P3 Q 0) _ _ _ _ _ _ _;have s:=ax s;apply lS s 1 rfl;rw[aF,bp];have e:cs.drop (i+1+r)=[]:=List.drop_eq_nil_of_le (by omega);rw[e]at hl;exact over r _ (by omega) hl s
  |succ k ih=>
   intro r w hr hl s;show Is P3 Q (vL P3 Q (k+1)) _ _ _ _ _ _ _;have ei:(i:Int)+((r+1:Nat):Int)=((i+1+r:Nat):Int):=by push_cast;omega
   have s:=ax s;apply lS s 1 rfl;rw[aF,bJ,ei];have hB:=hA.fr (au s);refine lS s 1 rfl (Sl.Co hB rfl (by omega) ?_);refine lS s 1 rfl (Sl.Co hB rfl hix ?_);have hd:cs.drop (i+1+r)=gi cs (i+1+r)::cs.drop (i+1+r+1):=by rw[List.drop_eq_getElem_cons (by omega)];congr 1;have:=gM (l:=cs) (i:=i+1+r) (by omega);rw[List.getElem?_eq_getElem (by omega)]at this;exact Option.some.inj this
   rw[hd,lead]at hl;rw[hgx];by_cases he:gi cs (i+1+r)=x
   ·rw[dK he,cond_true,aF];rw[if_pos he]at hl;exact ih (r+1) _ (by omega) (by rw[show i+1+(r+1)=i+1+r+1 by omega];omega) s
   ·rw[cJ he,cond_false];rw[if_neg he]at hl;exact over r _ (by omega) hl s
 have outer:∀(k i:Nat) (oa:Option Addr) (on oc:Nat) (out:List Int) (w:World),cn-i<=k->i<=cn->1<=on->on<=1+2*i->out++kT (cn-i) (cs.drop i)=sP cs->Sep No w0 w (aj oa on oc 5 1 (flat bA out)::av tb 84 (Dx tw th ca cn cc)::L)->vM Q (k+1) (aZ tb) oa on oc i w:=by
  have stop:∀R (oa:Option Addr) (on oc:Nat) (out:List Int) (w:World),1<=on->out++kT (cn-cn) (cs.drop cn)=sP cs->Sep No w0 w (aj oa on oc 5 1 (flat bA out)::av tb 84 (Dx tw th ca cn cc)::L)->It Q R (aZ tb) oa on oc cn w:=by intro R oa on oc out w h1 he s;apply lS s 1 rfl;rw[bp];rw[List.drop_eq_nil_of_le (by omega),Nat.sub_self,kT,List.append_nil]at he;rw[he]at s;obtain⟨g,o,rfl⟩:=pB s (i:=0) rfl (by omega);exact h _ _ _ _ _ s
  intro k;induction k with
  |zero=>
   intro i oa on oc out w hk hi h1 HL he s;obtain rfl:i=cn:=by omega
   exact stop _ _ _ _ _ _ h1 he s
  |succ k ih=>
   intro i oa on oc out w hk hi h1 HL he s;by_cases hin:i=cn
   ·subst hin;exact stop _ _ _ _ _ _ h1 he s
   ·show It Q (vM Q (k+1)) _ _ _ _ _ _;apply lS s 1 rfl;rw[bJ];have hx:cs[i]? =some (gi cs i):=gM (by omega);have hd:cs.drop i=gi cs i::cs.drop (i+1):=by obtain⟨h1,h2⟩:=List.getElem?_eq_some_iff.1 hx;rw[List.drop_eq_getElem_cons h1,h2]
    have Mf:=Ny (gi cs i) (cs.drop (i+1));rw[List.length_drop]at Mf;refine⟨cn-(i+1)+1,inner _ (gi cs i) i oa on oc out hx (by omega) (λa' c' w' s'=>?_) (cn-(i+1)) 0 w (by omega) (by rw[Nat.zero_add]) s⟩;refine ih (i+1+lead (gi cs i) (cs.drop (i+1))) a' (on+2) c' _ w' (by omega) (by omega) (by omega) (by omega) ?_ s';rw[<-he,hd,show cn-i=(cn-(i+1))+1 by omega,kT,List.append_assoc,List.drop_drop];congr 1;show _::_::_=_::_::_;congr 2;exact afB _ _ _ (by rw[List.length_drop];omega) (by rw[List.length_drop];omega)
 exact⟨cn+1,outer cn 0 _ 1 1 [2] w (by omega) (by omega) (by omega) (by omega) (by rw[List.drop_zero,Nat.sub_zero,<-hlen];rfl) s⟩
def Cm {Q:Option Addr->Nat->Nat->World->Prop}{f:Nat}(hA:Sl w0 ca cn cc 1 bA cs)(hn:1<=cn/\cn<=1000)(hf:f<=2)
  (hno:FL f cs=none->∀w',Sep No w0 w' []->Q none 0 0 w')(hyes:∀out,FL f cs=some out->∀g o rn rc w',Sep No w0 w' [aj (some ⟨g,o,none⟩) rn rc 5 1 (flat bA out)]->Q (some ⟨g,o,none⟩) rn rc w'):Gv tw th ca cn cc f w0 Q:=by
 apply abp;have hlen:=hA.len;refine aS (bt (F:=No)) λtb w s=>?_;have ew:IntKind.wrap .u8 (f:Int)=f:=by rw[wrap_u8'];omega
 rw[ew];refine aS s λb w s=>?_;have s:Sep No w0 w (av b 5 (flat bA [(f:Int)])::av tb 84 (Dx tw th ca cn cc)::[]):=s;have hC:=hA.fr (au s);have row:Sep No w0 w (aj (sZ b) 1 1 5 1 (flat bA [(f:Int)])::av tb 84 (Dx tw th ca cn cc)::[]):=by have:=iS (size:=1) s (i:=0) rfl rfl (by decide) (λu hu=>by simp[flat,bA]at hu;subst hu;rfl);grind
 by_cases f0:f=0
 ·subst f0;apply lS s 1 rfl;apply am2 hC hn (ai s);cases hs:Hf cs with
  |false=>
   exact hno (by unfold FL;grind) w (ai (ai s))
  |true=>
   apply lS s 1 rfl;apply hC.Co (k:=0) rfl (by omega);refine aS row λxb w s=>?_;have hB:=aaQ (ns:=[gi cs 0]) s (i:=0) rfl;refine af7 (k:=1) (b:=0) (jm s) (by omega) rfl (by decide) hB λa1 c1 w1 s1=>?_;obtain⟨g,o,rfl⟩:=pB s1 (i:=0) rfl (by omega);exact hyes [0,gi cs 0] (by unfold FL;grind) g o _ _ w1 (cF (L':=[_]) [0] s1 rfl (by decide))
 ·rw[cJ (by omega),cond_false];by_cases f1:f=1
  ·subst f1;apply lS s 1 rfl;refine af7 (b:=0) row (by omega) hlen (by omega) hC λa1 c1 w1 s1=>?_;obtain⟨g,o,rfl⟩:=pB s1 (i:=0) rfl (by omega);exact hyes (1::cs) (by unfold FL;grind) g o _ _ w1 (cF (L':=[_]) [0] s1 rfl (by decide))
  ·obtain rfl:f=2:=by omega
   exact ao0 hA (by omega) row λg o rn rc w' s=>hyes (sP cs) (by unfold FL;grind) g o _ _ w' (cF (L':=[_]) [0] s rfl (by decide))
end
def akp (x:Int)(ys:List Int):(sP (x::ys)).length=3+(kT ys.length (ys.drop (lead x ys))).length:=by show(2::_::x::kT ys.length (ys.drop (lead x ys))).length=_;grind
def ahb {x:Int}:∀{ys:List Int},(∀y∈ys,y=x)->lead x ys=ys.length
 |[],_=>rfl
 |y::ys,h=>by rw[lead,if_pos (h y (List.mem_cons_self ..)),ahb λz hz=>h z (List.mem_cons_of_mem _ hz)];rfl
def am4 {cs:List Int}(h:1<=cs.length):3<=(sP cs).length/\(Hf cs=true↔(sP cs).length=3):=by
 match cs,h with
 |x::ys,_=>
  rw[akp];refine⟨by omega,?_⟩;have e0:gi (x::ys) 0=x:=rfl;rw[Hf,e0,Bool.not_eq_true',List.any_eq_false];constructor
  ·intro hs;have:lead x ys=ys.length:=ahb λy hy=>by grind
   rw[this,List.drop_length];cases ys.length<;>rfl
  ·intro hl c hc;have h0:ys.drop (lead x ys)=[]:=by
    cases hd:ys.drop (lead x ys)with
    |nil=>rfl
    |cons z zs=>
     rw[hd]at hl;obtain⟨k,hk⟩:∃k,ys.length=k+1:=by
      cases ys with
      |nil=>simp at hd
      |cons y ys=>simp_all
     rw[hk]at hl;simp only[kT,List.length_cons]at hl;omega
   have h1:lead x ys=ys.length:=by have:=Ny x ys;grind
   have h2:=L7 x ys;grind
section
variable {F:Nat->Prop}{W w w0:World}{L:List As}{ca:Option Addr}{cn cc tb:Nat}{cs:List Int}{tw th:Int}
def adQ {Q:Int->Option Addr->Nat->Nat->World->Prop}{R:Addr->Int->Option Addr->Nat->Nat->Int->World->Prop}{b:Int}{oa:Option Addr}{on oc:Nat}{t:Addr}(h:Q b oa on oc w):jx Q R t b oa on oc 3 w:=by unfold jx;grind
def ah5 {Q:Int->Option Addr->Nat->Nat->World->Prop}(hA:Sl w0 ca cn cc 1 bA cs)(hn:1<=cn/\cn<=1000)(h:∀b g o rn rc w',Sep No w0 w' [aj (some ⟨g,o,none⟩) rn rc 5 1 (flat bA (sQ cs).2)]->Q b (some ⟨g,o,none⟩) rn rc w'):
  DM tw th ca cn cc w0 Q:=by
 apply XJ;have hlen:=hA.len;obtain⟨h3,vi⟩:=am4 (cs:=cs) (by omega);refine aS (bt (F:=No)) λtb w s=>?_;have rd:∀{w:World} {L':List As} {i:Nat} {K:Int->Int->Option Addr->Nat->Nat->Prop},Sep No w0 w L'->L'[i]? =some (av tb 84 (Dx tw th ca cn cc))->K tw th ca cn cc->af .i64 ((aZ tb).add 0) w λa=>af .i64 ((aZ tb).add 1) w λb=>aB ((aZ tb).add 2) w λc d e=>K a b c d e:=λs hi k=>
  eN s rfl hi rfl (eN s rfl hi rfl (iG s rfl hi rfl k))
 have last:∀{best:Int} {g o on oc:Nat} {out:List Int} {w:World},out.length=on->(if(sP cs).length<on then sP cs else out)=(sQ cs).2->Sep No w0 w (aj (some ⟨g,o,none⟩) on oc 5 1 (flat bA out)::av tb 84 (Dx tw th ca cn cc)::[])->nR Q 2 (aZ tb) best (some ⟨g,o,none⟩) on oc 2 w:=λ{best g o on oc out w} hl he s=>by
  show jx Q (nR Q 1) _ _ _ _ _ _ _;unfold jx;apply rd s (i:=1) rfl;refine Cm (hA.fr (au s)) hn (by decide) (λe=>by unfold FL at e;cases e) λro e g2 o2 rn rc w' s'=>?_;unfold FL at e;rw[if_neg (by decide),if_neg (by decide),Option.some.injEq]at e;subst e;have hrn:=(aL s' (i:=0) rfl cY (by decide)).len;have s:=fP s s';show cond true _ _;rw[cond_true];show cond false _ _;rw[cond_false];by_cases hlt:(rn:Int)<(on:Int)
  ·rw[bJ hlt];unfold yg;rw[zP]at he;refine adQ (h _ _ _ _ _ _ ?_);rw[<-he];exact cF (L':=[_]) [0] s rfl (by decide)
  ·rw[bp hlt];rw[ru]at he;refine adQ (h _ _ _ _ _ _ ?_);rw[<-he];exact cF (L':=[_]) [1] s rfl (by decide)
 refine⟨4,?_⟩;show jx Q (nR Q 3) _ _ _ _ _ _ _;unfold jx;apply rd s (i:=0) rfl;refine Cm (hA.fr (au s)) hn (by decide) (λe w' s'=>?_) λro e g o rn rc w' s'=>?_
 ·
  have hs:Hf cs=false:=by unfold FL at e;grind
  have s:=fP s s';show cond false _ _;rw[cond_false];show jx Q (nR Q 2) _ _ _ _ _ _ _;unfold jx;apply rd s (i:=0) rfl;refine Cm (f:=1) (hA.fr (au s)) hn (by decide) (λe=>by unfold FL at e;cases e) λro e g2 o2 rn rc w' s'=>?_;unfold FL at e;rw[if_neg (by decide),if_pos rfl,Option.some.injEq]at e;subst e;have hrn:=(aL s' (i:=0) rfl cY (by decide)).len;have s:=fP s s';show cond true _ _;refine last hrn ?_ s;unfold sQ;grind
 ·unfold FL at e;rw[if_pos rfl]at e;split at e
  ·rename_i hs;rw[Option.some.injEq]at e;subst e;have hrn:2=rn:=(aL s' (i:=0) rfl cY (by decide)).len;subst hrn;have s:=fP s s';show cond true _ _;rw[cond_true];show cond true _ _;rw[cond_true];unfold yg;show jx Q (nR Q 2) _ _ _ _ _ _ _;unfold jx;apply rd s (i:=1) rfl;refine Cm (f:=1) (hA.fr (au s)) hn (by decide) (λe=>by unfold FL at e;cases e) λro e g2 o2 rn rc w' s'=>?_;unfold FL at e;rw[if_neg (by decide),if_pos rfl,Option.some.injEq]at e;subst e;have hrn:=(aL s' (i:=0) rfl cY (by decide)).len;rw[List.length_cons]at hrn;have s:=fP s s';show cond true _ _;rw[cond_true];show cond false _ _;rw[cond_false,bp];refine last rfl ?_ (cF (L':=[_,_]) [1,2] s rfl (by decide));rw[sQ,ru,if_pos (vi.1 hs)]
  ·cases e
def am5 {Q:Option Addr->Nat->Nat->Int->World->Prop}(s0:Sep F W w0 L)(hA:Sl w0 ca cn cc 1 bA cs)(hm:Tl.CQ tw th cs=true)(hn:1<=cn/\cn<=1000)(h:∀g o rn rc w',Sep F W w' (aj (some ⟨g,o,none⟩) rn rc 5 1 (flat bA (sQ cs).2)::L)->Fr No w0 w'->Q (some ⟨g,o,none⟩) rn rc 0 w'):
  Gu tw th ca cn cc w0 Q:=by
 apply abt;refine aS (bt (F:=No)) λtb w s=>?_;refine lI s 0 rfl (lI s 0 rfl (lS s 0 rfl ?_));refine Tl.Cf s (hA.fr (au s)).row λw s _=>?_;rw[hm,Bool.not_true,cond_false];refine lI s 0 rfl (lI s 0 rfl (lS s 0 rfl ?_));refine ah5 (hA.fr (au s)) hn λb g o rn rc w' s'=>?_;have s2:=fP s s';have s3:=cF (L':=[aj (some ⟨g,o,none⟩) rn rc 5 1 (flat bA (sQ cs).2)]) [0] s2 rfl (by decide);exact h g o rn rc w' (fP s0 s3) (au s3)
end
end Go.Proofs.YtmegplnmiepfbaaGreatDoor.S
set_option maxRecDepth 20000
namespace Go.Proofs.YtmegplnmiepfbaaGreatDoor.S.At
open Go.Sx
open Go.Extern
def Ra (v:Value)(w:World):(ReflectliteType.typeOf #[.iface 240 v]).run P w=.ok (.iface 219 (rt 240)) w:=by kernel_rfl
def FB (v:Value)(w:World):(ReflectliteType.typeOf #[.iface 187 v]).run P w=.ok (.iface 219 (rt 187)) w:=by kernel_rfl
def FC (t:Addr)(w:World):(ReflectliteValue.unpack (.iface 188 (.pointer (some t)))).run P w
 =.ok (.agg #[.pointer (some ⟨8,188,none⟩),.pointer (sZ w.heap.size),.int .u64 150]) (w.alloc (.cells #[.pointer (some t)] 188)):=by kernel_rfl
def Dh (n:Int)(w:World):(ReflectliteValue.unpack (.iface 187 (ae n))).run P w
 =.ok (.agg #[.pointer (some ⟨8,187,none⟩),.pointer (sZ w.heap.size),.int .u64 130]) (w.alloc (.cells #[ae n] 187)):=by kernel_rfl
def Pf (a:Addr)(w:World):(ReflectliteValue.methodAny (ReflectliteValue.valueError "reflectlite.Value.Type" 0) (λt _ _ _=>ReflectliteType.toType t) #[.agg #[.pointer (some ⟨8,188,none⟩),.pointer (some a),.int .u64 150]]).run P w
 =.ok (.iface 219 (rt 188)) w:=by kernel_rfl
def KK (w:World):((ReflectliteType.abiMethod λt=>(λa:Nat=>Value.int IntKind.u8 (a:Int))<$>Rtype.kind t) #[.pointer (some ⟨8,188,none⟩)]).run P w=.ok (.int .u8 22) w:=by kernel_rfl
def KM (w:World):((ReflectliteType.abiMethod λt=>(λa:Nat=>Value.int IntKind.u8 (a:Int))<$>Rtype.kind t) #[.pointer (some ⟨8,187,none⟩)]).run P w=.ok (.int .u8 2) w:=by kernel_rfl
def Ph (w:World):(ReflectliteType.method ReflectliteType.elem #[rt 188]).run P w=.ok (.iface 219 (rt 187)) w:=by kernel_rfl
def U5 (w:World):(ReflectliteType.relation "Implements" ReflectliteType.implements_ #[rt 187,.iface 219 (rt 74)]).run P w=.ok (.bool true) w:=by kernel_rfl
def acp (w:World):(ReflectliteType.relation "AssignableTo" ReflectliteType.assignableTo #[rt 240,.iface 219 (rt 187)]).run P w=.ok (.bool false) w:=by kernel_rfl
def Pj (w:World):(ReflectliteType.relation "AssignableTo" ReflectliteType.assignableTo #[rt 187,.iface 219 (rt 187)]).run P w=.ok (.bool true) w:=by kernel_rfl
def acq (v:Value)(w:World):(Go.method (P.types.size+Made.depth) 240 v "Unwrap").run P w=.ok (321,v) w:=by kernel_rfl
abbrev vP (a:Addr):Value:=.agg #[.pointer (some ⟨8,188,none⟩),.pointer (some a),.int .u64 150]
abbrev vR (a:Addr):Value:=.agg #[.pointer (some ⟨8,187,none⟩),.pointer (some a),.int .u64 130]
abbrev vE (a:Addr):Value:=.agg #[.pointer (some ⟨8,187,none⟩),.pointer (some a),.int .u64 386]
def yY (a:Addr)(w:World):(ReflectliteValue.parts (vP a)).run P w=.ok (some (188,a,150)) w:=by kernel_rfl
def HU (a:Addr)(w:World):(ReflectliteValue.parts (vR a)).run P w=.ok (some (187,a,130)) w:=by kernel_rfl
def HV (a:Addr)(w:World):(ReflectliteValue.parts (vE a)).run P w=.ok (some (187,a,386)) w:=by kernel_rfl
def KN (a p:Addr)(w:World)(ha:w.cell? a=some (.pointer (some p))):(ReflectliteValue.method (ReflectliteValue.valueError "reflectlite.Value.IsNil" 0) ReflectliteValue.isNil #[vP a]).run P w=.ok (.bool false) w:=by rw[rlm];simp[Sem.run_bind,yY,Result.andThen];simp[ReflectliteValue.isNil,loadVar,isAgg,underlying,Go.Proofs.Tryz.underlying188,ha,Result.andThen]
def HW (w:World):(Rtype.elem? 188).run P w=.ok (some 187) w:=by kernel_rfl
def aaz (p:Addr)(w:World):(ReflectliteValue.mk 187 p ReflectliteValue.flagAddr).run P w=.ok (vE p) w:=by kernel_rfl
def KO (a p:Addr)(w:World)(ha:w.cell? a=some (.pointer (some p))):(ReflectliteValue.method (ReflectliteValue.valueError "reflectlite.Value.Elem" 0) ReflectliteValue.elem #[vP a]).run P w=.ok (vE p) w:=by rw[rlm];simp[Sem.run_bind,yY,Result.andThen];simp[ReflectliteValue.elem,loadVar,isAgg,underlying,Go.Proofs.Tryz.underlying188,ha,Result.andThen,HW,aaz]
def HX (w:World):(Rtype.directlyAssignable 187 187).run P w=.ok true w:=by kernel_rfl
def U9 (t b:Addr)(n:Int)(old:Value)(w:World)(hb:w.cell? b=some (ae n))(ht:w.cell? t=some old)(hf:w.frozen? t=false):
  (ReflectliteValue.set #[vE t,vR b]).run P w=.ok (.tuple #[]) (w.setCell t (ae n)):=by
 rw[rls];simp[Sem.run_bind,HV,HU,Result.andThen];simp[ReflectliteValue.flagAddr,loadVar,isAgg,underlying,Go.Proofs.Tryz.underlying187,hb,Result.andThen,HX,storeVar,Value.cells,storeCells,Addr.add];rw[run_store P w t _ _ (by rfl)];simp[ht,hf]
def atW {t:Nat}(ht:t=240)(v:Value)(xT:TypeId)(w:World):(Instr.typeAssert (.iface t v) xT 231 true).run P w=.ok (.tuple #[.nilIface,.bool false]) w:=by subst ht;exact run_typeAssert_lacksB Go.Proofs.Tryz.underlying231 (by kernel_rfl) (by kernel_rfl) v xT w
def as4 {t:Nat}(ht:t=240)(v:Value)(xT:TypeId)(w:World):(Instr.typeAssert (.iface t v) xT 224 true).run P w=.ok (.tuple #[.iface t v,.bool true]) w:=by subst ht;exact run_typeAssert_hasB Go.Proofs.Tryz.underlying224 (by kernel_rfl) v xT w
def axQ:oB 321 fns=true:=by kernel_rfl
section
variable {w:World}{p n:Nat}{v:Value}
def aay {Q:Value->World->Prop}(hv:w.cell? ((aZ p).add 1)=some v)(hp:Value.plain v=true)(k:Q v w):xN (cx n) (.iface 240 (.pointer (sZ p))) "Unwrap" [] w λv w=>dV v λr=>Q r w:=by
 refine⟨321,_,acq _ w,?_⟩;unfold gQ;have h:Cu (sZ p) w Q:=by apply LG;refine ah (lZ hv hp ?_);unfold dV;grind
 exact h
end
attribute [local irreducible] sK callFunc Sem.run ReflectliteValue.method ReflectliteValue.set ReflectliteValue.unpack ReflectliteType.relation ReflectliteType.typeOf af cq bq bf aB bY bT St App cu cg b_ bR bw aq bP av aj aU mapA
section
variable {F:Nat->Prop}{W w:World}{L:List As}{p r:Nat}{c v0:Int}
def Pn {b:Addr}{K:Value->World->Prop}(hb:w.cell? b=some (ae c))(h:St (aZ r) (ae c) w λw=>K (.tuple #[]) w):sK P 139 #[vE (aZ r),vR b] w K:=by obtain⟨⟨u,hu⟩,hf,k⟩:=aj9 h;have he:=U9 (aZ r) b c u w hb hu hf;apply jH (w':=w.setCell (aZ r) (ae c)) aoE he;exact k
def U_ {Q:Bool->World->Prop}{k tb:Nat}{a:Nat}(s:Sep F W w (av tb 161 [.pointer (some ⟨8,188,none⟩),.pointer (sZ a),.int .u64 150]::av a 188 [.pointer (sZ r)]::av r 187 [ae v0]::L))
  (hQ:∀w',Sep F W w' (av r 187 [ae c]::L)->Q true w'){target:Value}:iQ Q (k+1) (.iface 187 (ae c)) target (.iface 219 (rt 187)) (aZ tb) w:=by
 show vK Q (iQ Q k) _ _ _ _ _;apply jH x95 (FB _ w);refine mE (Pg _) U7 agT (Pj w) ?_;apply aj6;refine lP s 0 rfl (lP s 0 rfl (lI s 0 rfl ?_));apply jH aoD (KO (aZ a) (aZ r) w (by have:=c9 s (i:=1) (j:=0) rfl rfl rfl;exact this));apply Re;refine jH x97 (Dh c w) ?_;apply Re;have s2:=sO (ai (ai s)) [ae c] 187;have s2:=s2;apply Pn (c:=c) (by simp_all);refine az s2 (i:=1) rfl rfl rfl λw s=>?_;exact hQ w (ai s)
def agY {Q:Bool->World->Prop}{k tb:Nat}{a:Nat}(s:Sep F W w (av tb 161 [.pointer (some ⟨8,188,none⟩),.pointer (sZ a),.int .u64 150]::av a 188 [.pointer (sZ r)]::av r 187 [ae v0]::L))
  (hv:w.cell? ((aZ p).add 1)=some (.iface 187 (ae c)))
  (hQ:∀w',Sep F W w' (av r 187 [ae c]::L)->Q true w'){target:Value}:iQ Q (k+2) (.iface 240 (.pointer (sZ p))) target (.iface 219 (rt 187)) (aZ tb) w:=by
 show vK Q (iQ Q (k+1)) _ _ _ _ _;apply jH x95 (Ra _ w);refine mE (Pg _) U7 agT (acp w) ?_;apply acu;refine Aa (atW rfl _ _ _) (Rb rfl ?_);refine Aa (as4 rfl _ _ _) (Rb rfl ?_);exact aay hv rfl (sH (U_ s hQ))
def KQ {Q:Bool->World->Prop}(s:Sep F W w (av r 187 [ae v0]::L))(hv:∀w',Sep F W w' L->w'.cell? ((aZ p).add 1)=some (.iface 187 (ae c)))
  (h1:∀w',Sep F W w' L->w'.cell? (aZ 1)=some (.iface 219 (rt 74)))
  (hQ:∀w',Sep F W w' (av r 187 [ae c]::L)->Q true w'):
  mR (.iface 240 (.pointer (sZ p))) (.iface 188 (.pointer (sZ r))) w Q:=by
 apply Ay;refine sH (sH ?_);refine jH x97 (FC (aZ r) w) ?_;apply Re;have s:=sO s [.pointer (sZ r)] 188;have s:=s;generalize w.heap.size=a at s⊢;generalize w.alloc (.cells #[.pointer (sZ r)] 188)=w1 at s⊢;refine aY s λvb w s=>?_;refine sT s 0 rfl λw s=>?_;refine sT s 0 rfl λw s=>?_;refine az s (i:=0) rfl rfl rfl λw s=>?_;refine lP s 0 rfl (lP s 0 rfl (lI s 0 rfl ?_));apply jH x98 (Pf (aZ a) w);refine mE (GQ _) Pm acs (KK w) ?_;apply aj8;refine lP s 0 rfl (lP s 0 rfl (lI s 0 rfl ?_));apply jH x99 (KN (aZ a) (aZ r) w (by have:=c9 s (i:=1) (j:=0) rfl rfl rfl;exact this));apply acu;refine mE (YG _) agU aoF (Ph w) ?_;refine mE (GQ _) Pm acs (KM w) ?_;apply apO;apply lZ (h1 w (ai (ai (ai s)))) rfl;refine mE (aco _) agV aoG (U5 w) ?_;apply aj7;refine lP s 0 rfl (lP s 0 rfl (lI s 0 rfl ?_));apply E7;have s:=ai s;refine aS s λtb w s=>?_;exact⟨2,agY s (hv w (ai (ai (ai s)))) hQ⟩
end
end Go.Proofs.YtmegplnmiepfbaaGreatDoor.S.At
set_option maxRecDepth 20000
namespace Go.Proofs.YtmegplnmiepfbaaGreatDoor.S.Pk
open Go.Sx
open Go.Extern
def FB (v:Value)(w:World):(ReflectliteType.typeOf #[.iface 268 v]).run P w=.ok (.iface 219 (rt 268)) w:=by kernel_rfl
def FC (t:Addr)(w:World):(ReflectliteValue.unpack (.iface 269 (.pointer (some t)))).run P w
 =.ok (.agg #[.pointer (some ⟨8,269,none⟩),.pointer (sZ w.heap.size),.int .u64 150]) (w.alloc (.cells #[.pointer (some t)] 269)):=by kernel_rfl
def Dh (n:Option Addr)(w:World):(ReflectliteValue.unpack (.iface 268 (.pointer n))).run P w
 =.ok (.agg #[.pointer (some ⟨8,268,none⟩),.pointer (sZ w.heap.size),.int .u64 150]) (w.alloc (.cells #[.pointer n] 268)):=by kernel_rfl
def Pf (a:Addr)(w:World):(ReflectliteValue.methodAny (ReflectliteValue.valueError "reflectlite.Value.Type" 0) (λt _ _ _=>ReflectliteType.toType t) #[.agg #[.pointer (some ⟨8,269,none⟩),.pointer (some a),.int .u64 150]]).run P w
 =.ok (.iface 219 (rt 269)) w:=by kernel_rfl
def KK (w:World):((ReflectliteType.abiMethod λt=>(λa:Nat=>Value.int IntKind.u8 (a:Int))<$>Rtype.kind t) #[.pointer (some ⟨8,269,none⟩)]).run P w=.ok (.int .u8 22) w:=by kernel_rfl
def KM (w:World):((ReflectliteType.abiMethod λt=>(λa:Nat=>Value.int IntKind.u8 (a:Int))<$>Rtype.kind t) #[.pointer (some ⟨8,268,none⟩)]).run P w=.ok (.int .u8 22) w:=by kernel_rfl
def Ph (w:World):(ReflectliteType.method ReflectliteType.elem #[rt 269]).run P w=.ok (.iface 219 (rt 268)) w:=by kernel_rfl
def U5 (w:World):(ReflectliteType.relation "Implements" ReflectliteType.implements_ #[rt 268,.iface 219 (rt 74)]).run P w=.ok (.bool true) w:=by kernel_rfl
def Pj (w:World):(ReflectliteType.relation "AssignableTo" ReflectliteType.assignableTo #[rt 268,.iface 219 (rt 268)]).run P w=.ok (.bool true) w:=by kernel_rfl
abbrev vP (a:Addr):Value:=.agg #[.pointer (some ⟨8,269,none⟩),.pointer (some a),.int .u64 150]
abbrev vR (a:Addr):Value:=.agg #[.pointer (some ⟨8,268,none⟩),.pointer (some a),.int .u64 150]
abbrev vE (a:Addr):Value:=.agg #[.pointer (some ⟨8,268,none⟩),.pointer (some a),.int .u64 406]
def yY (a:Addr)(w:World):(ReflectliteValue.parts (vP a)).run P w=.ok (some (269,a,150)) w:=by kernel_rfl
def HU (a:Addr)(w:World):(ReflectliteValue.parts (vR a)).run P w=.ok (some (268,a,150)) w:=by kernel_rfl
def HV (a:Addr)(w:World):(ReflectliteValue.parts (vE a)).run P w=.ok (some (268,a,406)) w:=by kernel_rfl
def KN (a p:Addr)(w:World)(ha:w.cell? a=some (.pointer (some p))):(ReflectliteValue.method (ReflectliteValue.valueError "reflectlite.Value.IsNil" 0) ReflectliteValue.isNil #[vP a]).run P w=.ok (.bool false) w:=by rw[rlm];simp[Sem.run_bind,yY,Result.andThen];simp[ReflectliteValue.isNil,loadVar,isAgg,underlying,Go.Proofs.Tryz.underlying269,ha,Result.andThen]
def HW (w:World):(Rtype.elem? 269).run P w=.ok (some 268) w:=by kernel_rfl
def aaz (p:Addr)(w:World):(ReflectliteValue.mk 268 p ReflectliteValue.flagAddr).run P w=.ok (vE p) w:=by kernel_rfl
def KO (a p:Addr)(w:World)(ha:w.cell? a=some (.pointer (some p))):(ReflectliteValue.method (ReflectliteValue.valueError "reflectlite.Value.Elem" 0) ReflectliteValue.elem #[vP a]).run P w=.ok (vE p) w:=by rw[rlm];simp[Sem.run_bind,yY,Result.andThen];simp[ReflectliteValue.elem,loadVar,isAgg,underlying,Go.Proofs.Tryz.underlying269,ha,Result.andThen,HW,aaz]
def HX (w:World):(Rtype.directlyAssignable 268 268).run P w=.ok true w:=by kernel_rfl
def U9 (t b:Addr)(n:Option Addr)(old:Value)(w:World)(hb:w.cell? b=some (.pointer n))(ht:w.cell? t=some old)(hf:w.frozen? t=false):
  (ReflectliteValue.set #[vE t,vR b]).run P w=.ok (.tuple #[]) (w.setCell t (.pointer n)):=by
 rw[rls];simp[Sem.run_bind,HV,HU,Result.andThen];simp[ReflectliteValue.flagAddr,loadVar,isAgg,underlying,Go.Proofs.Tryz.underlying268,hb,Result.andThen,HX,storeVar,Value.cells,storeCells,Addr.add];rw[run_store P w t _ _ (by rfl)];simp[ht,hf]
attribute [local irreducible] sK callFunc Sem.run ReflectliteValue.method ReflectliteValue.set ReflectliteValue.unpack ReflectliteType.relation ReflectliteType.typeOf af cq bq bf aB bY bT St App cu cg b_ bR bw aq bP av aj aU mapA
section
variable {F:Nat->Prop}{W w:World}{L:List As}{p r:Nat}{c v0:Option Addr}
def atX {A B:Prop}(h:A):dI .u8 (.int .u8 22) λr=>cond (r !=20) A B:=h
def Pn {b:Addr}{K:Value->World->Prop}(hb:w.cell? b=some (.pointer c))(h:St (aZ r) (.pointer c) w λw=>K (.tuple #[]) w):sK P 139 #[vE (aZ r),vR b] w K:=by obtain⟨⟨u,hu⟩,hf,k⟩:=aj9 h;have he:=U9 (aZ r) b c u w hb hu hf;apply jH (w':=w.setCell (aZ r) (.pointer c)) aoE he;exact k
def U_ {Q:Bool->World->Prop}{k tb:Nat}{a:Nat}(s:Sep F W w (av tb 161 [.pointer (some ⟨8,269,none⟩),.pointer (sZ a),.int .u64 150]::av a 269 [.pointer (sZ r)]::av r 268 [.pointer v0]::L))
  (hQ:∀w',Sep F W w' (av r 268 [.pointer c]::L)->Q true w'){target:Value}:iQ Q (k+1) (.iface 268 (.pointer c)) target (.iface 219 (rt 268)) (aZ tb) w:=by
 show vK Q (iQ Q k) _ _ _ _ _;apply jH x95 (FB _ w);refine mE (Pg _) U7 agT (Pj w) ?_;apply aj6;refine lP s 0 rfl (lP s 0 rfl (lI s 0 rfl ?_));apply jH aoD (KO (aZ a) (aZ r) w (by have:=c9 s (i:=1) (j:=0) rfl rfl rfl;exact this));apply Re;refine jH x97 (Dh c w) ?_;apply Re;have s2:=sO (ai (ai s)) [.pointer c] 268;have s2:=s2;apply Pn (c:=c) (by simp_all);refine az s2 (i:=1) rfl rfl rfl λw s=>?_;exact hQ w (ai s)
def KQ {Q:Bool->World->Prop}(s:Sep F W w (av r 268 [.pointer v0]::L))
  (h1:∀w',Sep F W w' L->w'.cell? (aZ 1)=some (.iface 219 (rt 74)))
  (hQ:∀w',Sep F W w' (av r 268 [.pointer c]::L)->Q true w'):
  mR (.iface 268 (.pointer c)) (.iface 269 (.pointer (sZ r))) w Q:=by
 apply Ay;refine sH (sH ?_);refine jH x97 (FC (aZ r) w) ?_;apply Re;have s:=sO s [.pointer (sZ r)] 269;have s:=s;generalize w.heap.size=a at s⊢;generalize w.alloc (.cells #[.pointer (sZ r)] 269)=w1 at s⊢;refine aY s λvb w s=>?_;refine sT s 0 rfl λw s=>?_;refine sT s 0 rfl λw s=>?_;refine az s (i:=0) rfl rfl rfl λw s=>?_;refine lP s 0 rfl (lP s 0 rfl (lI s 0 rfl ?_));apply jH x98 (Pf (aZ a) w);refine mE (GQ _) Pm acs (KK w) ?_;apply aj8;refine lP s 0 rfl (lP s 0 rfl (lI s 0 rfl ?_));apply jH x99 (KN (aZ a) (aZ r) w (by have:=c9 s (i:=1) (j:=0) rfl rfl rfl;exact this));apply acu;refine mE (YG _) agU aoF (Ph w) ?_;refine mE (GQ _) Pm acs (KM w) ?_;apply atX;apply lZ (h1 w (ai (ai (ai s)))) rfl;refine mE (aco _) agV aoG (U5 w) ?_;apply aj7;refine lP s 0 rfl (lP s 0 rfl (lI s 0 rfl ?_));apply E7;have s:=ai s;refine aS s λtb w s=>?_;exact⟨1,U_ s hQ⟩
end
end Go.Proofs.YtmegplnmiepfbaaGreatDoor.S.Pk
set_option maxRecDepth 20000
namespace Go.Proofs.YtmegplnmiepfbaaGreatDoor.S
open Go.Sx
attribute [local irreducible] af cq bq bf aB bY bT St Bx Al App cu cg b_ bR aK bw aq bP av aj aU mapA
abbrev r9 (a:Addr):Value:=.iface 401 (.pointer (some a))
attribute [local irreducible] sK xN in
theorem ao1 {w:World}{Q:Bool->World->Prop}{a b:Addr}{c:Bool}(he:∀(x y:Operand) (K:Bool->World->Prop),K c w->bR P .eql 74 x y (r9 a) (r9 b) w K)(hQ:Q c w):oK (r9 a) (r9 b) w Q:=by
 apply LU;refine sH (sH ?_);apply jH x95 (adE _ w);refine mE (agR _) amA asM (aiR w) ?_;have h:vV (r9 a) (r9 b) true w Q:=by apply LS;exact⟨1,aiS (.inl rfl) he hQ⟩
 exact h
def As.nil {w:World}{Q:Bool->World->Prop}{v:Value}(hQ:Q false w):mR .nilIface v w Q:=Ay _ _ _ _ hQ
def as5 {w:World}{Q:Bool->World->Prop}{a b:Option Addr}{n c m d:Nat}{xs ys:List Int}(hA:Sl w a n c 1 bA xs)(hB:Sl w b m d 1 bA ys)(hx:gu xs)(hy:gu ys)(h:Q (decide (xs=ys)) w):CD a n c b m d w Q:=by apply V9;refine WL dU hA.row rfl rfl rfl rfl rfl rfl (aim ?_);refine WL dU hB.row rfl rfl rfl rfl rfl rfl (aim ?_);rw[alb hx hy];exact h
abbrev BN (rb:Nat)(ba:Option Addr)(bn bc:Nat)(at_:Int):As:=av rb 265 [.slice ba bn bc,ae at_]
section
variable {W w w0:World}{L:List As}{lg:yK}{ba:Option Addr}{bn bc rb:Nat}{bs:List Int}{p n:Nat}
def acG {A B:Prop}(h:A):AW .nilIface λb=>cond b A B:=h
def KY {A B:Prop}(h:B):AW .nilIface λb=>cond (!b) A B:=h
def Pu {t:Nat}{v:Value}{A B:Prop}(h:A):AW (.iface t v) λb=>cond (!b) A B:=h
def z8 {a:Addr}{K:Value->Prop}(k:K (r9 a)):dV (r9 a) K:=k
def Rn {Q:Option Addr->Nat->Nat->Value->World->Prop}(hL:iF w0 lg)(hB:Sl w0 ba bn bc 1 bA bs)(Ez:bn<=1000000000)(hp:p<=bn)(hn:n<=100000)(s:Sep No w0 w (BN rb ba bn bc p::L))
  (hno:bn-p<n->∀w',Sep No w0 w' (BN rb ba bn bc p::L)->Q none 0 0 (r9 lg.a6) w')
  (hyes:p+n<=bn->∀a c w',Sl w' a n c 1 bA ((bs.drop p).take n)->Sep No w0 w' (BN rb ba bn bc ((p+n:Nat):Int)::L)->Q a n c .nilIface w'):m9 (sZ rb) n w Q:=by
 apply MN;have s:=ax s;refine ah (lS s 0 rfl (ah (lI s 0 rfl ?_)));rw[aF];by_cases h:bn-p<n
 ·rw[bJ];have s:=ax s;have c6:=Fr.cell (au s) hL.v6 id;exact lZ c6 rfl ⟨c6,z8 (hno h _ s)⟩
 ·rw[bp];refine ah (lI s 0 rfl (ah (az s (i:=0) rfl rfl rfl λw s=>?_)));have e:IntKind.wrap .i64 ((p:Int)+n)=((p+n:Nat):Int):=by rw[aF];omega
  rw[e]at s;have s:=ax s;refine ah (lS s 0 rfl (ah (lI s 0 rfl (ah (lI s 0 rfl ?_)))));rw[aF];refine(hB.fr (au s)).mid (p:=p) (by omega) rfl (by omega) (by omega) λa n' c en hs=>?_;grind
def Xa {Q:Option Addr->Nat->Nat->Value->World->Prop}(hL:iF w0 lg)(hB:Sl w0 ba bn bc 1 bA bs)(Ez:bn<=1000000000)(hp:p<=bn)(hn:n<=100000)(s:Sep No w0 w (BN rb ba bn bc p::L))
  (hno:bn-p<n->∀w',Sep No w0 w' (BN rb ba bn bc p::L)->Q none 0 0 (r9 lg.a6) w')
  (FH:p+n<=bn->0∈(bs.drop p).take n->∀a c w',Sl w' a n c 1 bA ((bs.drop p).take n)->Sep No w0 w' (BN rb ba bn bc ((p+n:Nat):Int)::L)->Q a n c (r9 lg.a5) w')
  (hyes:p+n<=bn->0∉(bs.drop p).take n->∀a c w',Sl w' a n c 1 bA ((bs.drop p).take n)->Sep No w0 w' (BN rb ba bn bc ((p+n:Nat):Int)::L)->Q a n c .nilIface w'):pU (sZ rb) n w Q:=by
 apply Lb;refine Rn hL hB Ez hp hn s (λh w s=>?_) λh a c w hs s=>?_
 ·exact sH (z8 (hno h w s))
 ·apply acG;apply Tl.GI hs.row (by omega);by_cases h0:(0:Int)∈(bs.drop p).take n
  ·rw[bJ h0];have c5:=Fr.cell (au s) hL.v5 id;exact lZ c5 rfl (z8 (FH h h0 a c w hs s))
  ·rw[bp h0];exact hyes h h0 a c w hs s
def VP {Q:Option Addr->Nat->Nat->Value->World->Prop}(hL:iF w0 lg)(s:Sep No w0 w L)(h:∀w',Sep No w0 w' L->Q none 0 0 (r9 lg.a5) w'):bT (aZ 5) w.drew λx=>w.drew.cell? (aZ 5)=some x/\dV x λr=>Q none 0 0 r w.drew:=by have s:=ax s;have c5:=Fr.cell (au s) hL.v5 id;exact lZ c5 rfl ⟨c5,z8 (h _ s)⟩
def am6 {Q:Option Addr->Nat->Nat->Value->World->Prop}(hL:iF w0 lg)(hB:Sl w0 ba bn bc 1 bA bs)(Ez:bn<=1000000000)(hr:gu bs)(hn:n<=256)
  (hno:o9 n (bs.drop 1) [] 1=none->∀e p' w',(e=lg.a5\/e=lg.a6)->Sep No w0 w' (BN rb ba bn bc p'::L)->Q none 0 0 (r9 e) w')
  (hyes:∀cs used,o9 n (bs.drop 1) [] 1=some (cs,used)->∀a m c w',used<=bn->Sep No w0 w' (aj a m c 5 1 (flat bA cs)::BN rb ba bn bc (used:Nat)::L)->Q a m c .nilIface w'):
  ∀(j p:Nat) (oa:Option Addr) (on oc:Nat) (out:List Int) (w:World),n<=on+j->on<=n->p<=bn->o9 n (bs.drop p) out p=o9 n (bs.drop 1) [] 1->Sep No w0 w (aj oa on oc 5 1 (flat bA out)::BN rb ba bn bc p::L)->
   oQ Q (j+1) (sZ rb) n oa on oc w:=by
 have hbl:=hB.len;intro j;induction j with
 |zero=>
  intro p oa on oc out w hj HL hp he s;show oP _ _ _ _ _ _ _ _;unfold oP;have hol:=(aL s (i:=0) rfl cY (by decide)).len;rw[L8 (by omega)]at he;grind
 |succ j ih=>
  intro p oa on oc out w hj HL hp he s;have hol:=(aL s (i:=0) rfl cY (by decide)).len;show oP _ _ _ _ _ _ _ _;unfold oP;by_cases hlt:on<n
  ·rw[bJ];refine Rn (n:=2) hL hB Ez hp (by decide) (jm s) (λh w s=>?_) λh a c w hs s=>?_
   ·refine Pu (z8 ?_);refine hno ?_ lg.a6 p w (.inr rfl) (gH s (.cons_cons _ (List.sublist_cons_self _ _)));rw[<-he];have h2:(bs.drop p).length<2:=by grind
    match hd:bs.drop p,h2 with
    |[],_=>unfold o9;grind
    |[x],_=>unfold o9;grind
   ·apply KY;have s:=ax s;have hs:=hs.drew;obtain⟨x,y,rest,hd⟩:∃x y rest,bs.drop p=x::y::rest:=by
     have h2:2<=(bs.drop p).length:=by rw[List.length_drop];omega
     match hd:bs.drop p,h2 with
     |x::y::rest,_=>exact⟨x,y,rest,rfl⟩
    have atY:rest=bs.drop (p+2):=by rw[<-List.drop_drop,hd];rfl
    have hx:=hr x (List.mem_of_mem_drop (by rw[hd];simp));rw[hd]at hs he;apply hs.Co rfl (by decide);refine hs.El rfl (by decide) λad z hz hc=>?_;have hz':z=y:=by have:([x,y]:List Int)[1]? =some z:=hz;simpa using this.symm
    subst hz';have hc0:=hc 0 _ rfl;refine aQ hc0 ⟨hc0,?_⟩;have e1:gi (List.take 2 (x::z::rest)) 0=x:=rfl;rw[e1];rw[o9,ru]at he;have bad:Dd n out x z=true->∀w',Sep No w0 w' (BN rb ba bn bc ((p+2:Nat):Int)::aj oa on oc 5 1 (flat bA out)::L)->Q none 0 0 (r9 lg.a5) w':=λhb w' s'=>by rw[if_pos hb]at he;exact hno he.symm lg.a5 _ w' (.inl rfl) (gH s' (.cons_cons _ (List.sublist_cons_self _ _)))
    by_cases hz0:z=0
    ·rw[dK hz0,cond_true];exact VP hL s (bad (by unfold Dd;rw[dK hz0];rfl))
    rw[cJ hz0,cond_false,aF (n:=x),aF,aF];by_cases apZ:x+1>(n:Int)-on
    ·rw[bJ apZ];exact VP hL s (bad (by unfold Dd;rw[decide_eq_true (by omega)];simp))
    rw[bp apZ];have go:¬Dd n out x z=true->tC (oQ Q (j+1)) Q (sZ rb) n oa on oc (x+1) z w.drew:=λhb=>by
     rw[if_neg hb]at he;refine aS s λxb w s=>?_;have hX:=aaQ (ns:=[z]) s (i:=0) rfl;have e2:x+1=(((x+1).toNat:Nat):Int):=by omega
     rw[e2];refine Rm s hX (by omega) λra w s _=>?_;have hR:=aL s (i:=0) rfl cY (by decide);have s:=pk 4 [3,2,0] s;refine af7 (b:=0) s (by omega) (by simp) (by omega) hR λa' c' w s=>?_;refine ih (p+2) a' (on+(x+1).toNat) c' _ w (by omega) (by omega) (by omega) ?_ (gH s (.cons_cons _ (.cons_cons _ (List.sublist_cons_self _ _))));rw[<-atY];exact he
    by_cases hpos:0<on
    ·rw[bJ,aF];have hO:=aL s (i:=1) rfl cY (by decide);apply hO.Co (k:=on-1) (by omega) (by omega);by_cases hl:gi out (on-1)=z
     ·rw[dK hl,cond_true];exact VP hL s (bad (by unfold Dd;rw[hol,decide_eq_true hpos,dK hl];simp))
     ·rw[cJ hl,cond_false];apply go;rw[Dd,hol,cJ hl,cJ hz0,decide_eq_false (by omega)];simp
    ·rw[bp];apply go;rw[Dd,hol,cJ hz0,decide_eq_false (by omega),decide_eq_false hpos];simp
  ·rw[bp];rw[L8 (by omega)]at he;exact hyes out p he.symm oa on oc w hp s
def akq {Q:Option Addr->Nat->Nat->Value->World->Prop}(hL:iF w0 lg)(hB:Sl w0 ba bn bc 1 bA bs)(Ez:1<=bn/\bn<=1000000000)(hr:gu bs)(hn:n<=256)(s:Sep No w0 w (BN rb ba bn bc 1::L))
  (hno:o9 n (bs.drop 1) [] 1=none->∀e p' w',(e=lg.a5\/e=lg.a6)->Sep No w0 w' (BN rb ba bn bc p'::L)->Q none 0 0 (r9 e) w')
  (hyes:∀cs used,o9 n (bs.drop 1) [] 1=some (cs,used)->∀a m c w',used<=bn->Sep No w0 w' (aj a m c 5 1 (flat bA cs)::BN rb ba bn bc (used:Nat)::L)->Q a m c .nilIface w'):w_ (sZ rb) n w Q:=by
 apply MO;exact⟨n+1,am6 hL hB Ez.2 hr hn hno hyes n 1 none 0 0 [] w (by omega) (Nat.zero_le _) Ez.1 rfl (bE s 5 1)⟩
end
end Go.Proofs.YtmegplnmiepfbaaGreatDoor.S
set_option maxRecDepth 20000
namespace Go.Proofs.YtmegplnmiepfbaaGreatDoor.S
open Go.Sx
attribute [local irreducible] af cq bq bf aB bY bT St Bx Al App cu cg b_ bR aK bw aq bP av aj aU mapA
def arc {bs cs:List Int}{n used:Nat}(hn:1<=n)(hb:∀x∈bs,0<=x/\x<256)(hB:Jd n bs=some (cs,used)):cs.length=n/\(∀x∈cs,1<=x/\x<256)/\used<=bs.length:=by
 cases bs with
 |nil=>cases hB
 |cons f r=>
  rw[Es]at hB;split at hB
  ·split at hB
   ·cases hB
   ·rename_i h1;cases hB;obtain⟨x,r',rfl⟩:∃x r',r=x::r':=by
     cases r with
     |nil=>grind
     |cons x r'=>grind
    have hx:=hb x (by simp);refine⟨by simp,λy hy=>?_,by simp⟩;rw[List.mem_replicate]at hy;have h3:y=x:=hy.2;omega
  ·split at hB
   ·grind
   ·split at hB
    ·have:=QU n r [] 1 cs used (λx hx=>hb x (by simp[hx])) (by simp) (by simp) hB;grind
    ·cases hB
section
variable {W w w0:World}{L:List As}{lg:yK}{ba:Option Addr}{bn bc rb:Nat}{bs:List Int}{n:Nat}
def akr {Q:Option Addr->Nat->Nat->Value->World->Prop}(hL:iF w0 lg)(hB:Sl w0 ba bn bc 1 bA bs)(Ez:bn<=1000000000)(hr:gu bs)(hn:1<=n/\n<=256)(s:Sep No w0 w (BN rb ba bn bc 0::L))
  (hno:Jd n bs=none->∀a m c ns e p' w',(e=lg.a5\/e=lg.a6)->m<=256->Sl w' a m c 1 bA ns->Sep No w0 w' (BN rb ba bn bc p'::L)->Q a m c (r9 e) w')
  (hyes:∀cs used,Jd n bs=some (cs,used)->∀a c w',used<=bn->Sl w' a n c 1 bA cs->Sep No w0 w' (BN rb ba bn bc (used:Nat)::L)->Q a n c .nilIface w'):w8 (sZ rb) n w Q:=by
 apply MP;have hbl:=hB.len;have s:=s;refine Rn (n:=1) hL hB Ez (Nat.zero_le _) (by decide) s (λh w s=>?_) λh a c w hs s=>?_
 ·have e0:bs=[]:=List.eq_nil_of_length_eq_zero (by omega);exact Pu (z8 (hno (by rw[e0];rfl) none 0 0 [] lg.a6 _ w (.inr rfl) (Nat.zero_le _) tS s))
 ·apply KY;obtain⟨f,r,rfl⟩:∃f r,bs=f::r:=by
   cases bs with
   |nil=>grind
   |cons f r=>grind
  apply hs.Co rfl (by decide);have e1:gi (List.take 1 (List.drop 0 (f::r))) 0=f:=rfl;rw[e1];have s:=s;rw[List.length_cons]at hbl;have hr1:=hr.cons;rw[Es]at hno hyes;by_cases f0:f=0
  ·rw[dK f0,cond_true];rw[if_pos f0]at hno hyes;refine Xa (n:=1) hL hB Ez (by omega) (by decide) s (λh w s=>?_) (λh h0 a c w hs s=>?_) λh h0 a c w hs s=>?_
   ·have er:r=[]:=List.eq_nil_of_length_eq_zero (by omega);refine ako s (by omega) λra w s _=>z8 ?_;have hA:=aL s (i:=0) rfl cY (by decide);exact hno (if_pos (.inl er)) ra 0 0 [] lg.a6 _ w (.inr rfl) (Nat.zero_le _) hA (ai s)
   ·obtain⟨x,r',rfl⟩:∃x r',r=x::r':=by
     cases r with
     |nil=>simp at hbl;omega
     |cons x r'=>exact⟨x,r',rfl⟩
    have hx:x=0:=by have:(0:Int)∈[x]:=h0;exact(List.mem_singleton.1 this).symm
    have hs:=hs;refine Rm s hs (by omega) λra w s _=>z8 ?_;have hA:=aL s (i:=0) rfl cY (by decide);exact hno (if_pos (.inr hx)) ra n n _ lg.a5 _ w (.inl rfl) hn.2 hA (ai s)
   ·obtain⟨x,r',rfl⟩:∃x r',r=x::r':=by
     cases r with
     |nil=>simp at hbl;omega
     |cons x r'=>exact⟨x,r',rfl⟩
    have hx:¬x=0:=λe=>h0 (by rw[e];exact List.mem_cons_self ..);have hs:=hs;refine Rm s hs (by omega) λra w s _=>?_;have hA:=aL s (i:=0) rfl cY (by decide);refine hyes _ 2 (if_neg λe=>e.elim (λe=>by cases e) hx) ra n w h hA (ai s)
  rw[cJ f0,cond_false];rw[if_neg f0]at hno hyes;by_cases f1:f=1
  ·rw[dK f1,cond_true];rw[if_pos f1]at hno hyes;refine Xa hL hB Ez (by omega) (by omega) s (λh w s=>?_) (λh h0 a c w hs s=>?_) λh h0 a c w hs s=>?_
   ·exact z8 (hno (if_pos (.inl (by omega))) none 0 0 [] lg.a6 _ w (.inr rfl) (Nat.zero_le _) tS s)
   ·exact z8 (hno (if_pos (.inr h0)) a n c _ lg.a5 _ w (.inl rfl) hn.2 hs s)
   ·exact hyes _ (1+n) (if_neg λe=>e.elim (λe=>by omega) h0) a c w h hs s
  rw[cJ f1,cond_false];rw[if_neg f1]at hno hyes;by_cases f2:f=2
  ·rw[dK f2,cond_true];rw[if_pos f2]at hno hyes;refine akq hL hB (by omega) hr hn.2 s (λh e p' w he s=>z8 (hno h none 0 0 [] e p' w he (Nat.zero_le _) tS s)) λcs used h a m c w hu s=>?_;have hA:=aL s (i:=0) rfl cY (by decide);have hm:=(QU n r [] 1 cs used (λx hx=>hr1.2 x hx) (by simp) (by simp) h).1;have:m=n:=by rw[<-hA.len,hm]
   subst this;exact hyes cs used h a c w hu hA (ai s)
  ·rw[cJ f2,cond_false];rw[if_neg f2]at hno;exact VP hL s λw' s=>hno rfl none 0 0 [] lg.a5 _ w' (.inl rfl) (Nat.zero_le _) tS s
end
section
variable {W w w0:World}{L:List As}{lg:yK}{ba:Option Addr}{bn bc rb:Nat}{bs:List Int}{n:Nat}{tw th:Int}
def acH {p:Nat}{v0 v1 v2:Value}{a b:Int}{c:Option Addr}{d e:Nat}{F:Nat->Prop}{t:TypeId}{K:Int->Int->Option Addr->Nat->Nat->World->Prop}(s:Sep F W w (av p t [v0,v1,v2]::L))(h:∀w',Sep F W w' L->K a b c d e w'):
  St ((aZ p).add 0) (ae a) w λw=>St ((aZ p).add 1) (ae b) w λw=>St ((aZ p).add 2) (.slice c d e) w λw=>af .i64 ((aZ p).add 0) w λa=>af .i64 ((aZ p).add 1) w λb=>aB ((aZ p).add 2) w λc d e=>K a b c d e w:=by
 refine sT s 0 rfl λw s=>?_;refine sT s 0 rfl λw s=>?_;refine az s (i:=0) rfl rfl rfl λw s=>?_;exact lI s 0 rfl (lI s 0 rfl (lS s 0 rfl (h w (ai s))))
def atZ {a b:Addr}(hb:∃c t,w.heap[b.block]? =some (.cells c t (0,0)))(ha:∃c t,w.heap[a.block]? =some (.cells c t (0,0))):∃c:Bool,(c=true↔a=b)/\∀(x y:Operand) (K:Bool->World->Prop),K c w->bR P .eql 74 x y (r9 a) (r9 b) w K:=by
 by_cases h:a=b
 ·subst h;exact⟨true,by simp,λx y K hk=>U6 hk⟩
 ·obtain⟨c1,t1,h1⟩:=ha;obtain⟨c2,t2,h2⟩:=hb;exact⟨false,by simp[h],λx y K hk=>aax h h1 h2 hk⟩
def aks {Q:Int->Int->Option Addr->Nat->Nat->Value->World->Prop}{p':Int}{t6:Nat}{e:Addr}{t:Addr}{v0 v1 v2:Value}(hL:iF w0 lg)(he:e=lg.a5\/e=lg.a6)(s:Sep No w0 w (BN rb ba bn bc p'::av t6 84 [v0,v1,v2]::L))
  (h:∀fb co w',Sep No w0 w' (av fb 271 [ae p',ae co,r9 e]::BN rb ba bn bc p'::L)->(co=2\/co=3)->Q 0 0 none 0 0 (.iface 268 (.pointer (sZ fb))) w'):
  mA Q (sZ rb) (aZ t6) (r9 e) t w:=by
 refine sH (ah (lI s 0 rfl (z8 ?_)));refine aS s λfb w s=>?_;have k:=hL.fr (au s);apply lZ k.v6 rfl;obtain⟨c,hc,hq⟩:=atZ (a:=e) k.b6 (by rcases he with rfl|rfl;exact k.b5;exact k.b6);apply ao1 hq;cases c with
 |true=>
  refine az s (i:=0) rfl rfl rfl λw s=>?_;exact acH (pk 3 [2,0,1] s) λw s=>h fb 2 w s (.inl rfl)
 |false=>
  exact acH (pk 3 [2,0,1] s) λw s=>h fb 3 w s (.inr rfl)
def akt {Q:Int->Int->Option Addr->Nat->Nat->Value->World->Prop}(hL:iF w0 lg)(hB:Sl w0 ba bn bc 1 bA bs)(Ez:bn<=1000000000)(hr:gu bs)(hw:1<=tw/\tw<=16)(hh:1<=th/\th<=16)(hn:(n:Int)=tw*th)(s:Sep No w0 w (BN rb ba bn bc 0::L))
  (hno:GK bs n=none->∀fb p' co e w',(co=2\/co=3)->Sep No w0 w' (av fb 271 [ae p',ae co,r9 e]::BN rb ba bn bc p'::L)->Q 0 0 none 0 0 (.iface 268 (.pointer (sZ fb))) w')
  (hyes:∀cs used,GK bs n=some (cs,used)->∀ta tn tc w',used<=bn->Sep No w0 w' (aj ta tn tc 5 1 (flat bA cs)::BN rb ba bn bc (used:Nat)::L)->Q tw th ta tn tc .nilIface w'):wZ (sZ rb) tw th w Q:=by
 apply MQ;have q1:=Int.mul_le_mul hw.1 hh.1 (by decide) (by omega);have q2:=Int.mul_le_mul hw.2 hh.2 (by omega) (by decide);rw[aF,<-hn];refine aY s λt6 w s=>?_;have fail:∀{e:Addr} {t:Addr} {p':Int} {w:World},(e=lg.a5\/e=lg.a6)->GK bs n=none->Sep No w0 w (BN rb ba bn bc p'::av t6 84 [ae 0,ae 0,.slice none 0 0]::L)->mA Q (sZ rb) (aZ t6) (r9 e) t w:=λhe hg s=>
  aks hL he s λfb co w' s' To=>hno hg fb _ co _ w' To s'
 refine akr hL hB Ez hr (by omega) (jm s) (λhb a m c ns e p' w he hm hA s=>?_) λcs used hb a c w hu hA s=>?_
 ·refine Ka s hA (by omega) λra rc w s _=>?_;refine aY s λtb w s=>?_;refine sT s 0 rfl λw s=>?_;refine sT s 0 rfl λw s=>?_;refine sT s 0 rfl λw s=>?_;apply sH;refine fail he ?_ (ai (ai s));rw[GK,hb]
 ·obtain⟨k1,k2,k3⟩:=arc (by omega) (λx hx=>hr x hx) hb;refine Ka s hA (by omega) λra rc w s _=>?_;refine aY s λtb w s=>?_;refine sT s 0 rfl λw s=>?_;refine sT s 0 rfl λw s=>?_;refine az s (i:=0) rfl rfl rfl λw s=>?_;apply acG;refine lI s 0 rfl (lI s 0 rfl (lS s 0 rfl ?_));have hC:=aL s (i:=1) rfl cY (by decide);refine am5 s hC (Tl.X_.2 ⟨hw,hh,by omega,λh0=>by grind⟩) (by omega) λg o pn pc w s _=>?_;have s:=ax s;refine ah (lS s 3 rfl (ah (lI s 3 rfl ?_)));refine(hB.fr (au s)).hi rfl hu λb' c' hS=>?_;have hP:=aL s (i:=0) rfl cY (by decide);apply as5 hP hS (afC (λx hx=>by grind) (by omega)) (hr.take used);by_cases e:(sQ cs).2=bs.take used
  ·rw[decide_eq_true e,Bool.not_true,cond_false];apply acG;refine lI s 1 rfl (lI s 1 rfl (lS s 1 rfl ?_));refine acH (pk 5 [4,2,3] s) λw s=>?_;refine hyes cs used ?_ ra n rc w hu s;unfold GK;grind
  ·rw[decide_eq_false e];have c5:=Fr.cell (au s) hL.v5 id;refine lZ c5 rfl (fail (.inl rfl) ?_ (pk 5 [3,4] s));unfold GK;grind
def acI {F:Nat->Prop}{Q:Int->Int->Option Addr->Nat->Nat->Int->Int->World->Prop}(hL:iF w lg)(hB:Sl w ba bn bc 1 bA bs)(Ez:bn<=1000000000)(hr:gu bs)(hw:1<=tw/\tw<=16)(hh:1<=th/\th<=16)(hn:(n:Int)=tw*th)(s0:Sep F W w L)
  (hno:GK bs n=none->∀co w',(co=2\/co=3)->Sep F W w' L->Fr No w w'->Q 0 0 none 0 0 0 co w')
  (hyes:∀cs used,GK bs n=some (cs,used)->∀ta tn tc w',used<=bn->Sep F W w' (aj ta tn tc 5 1 (flat bA cs)::L)->Fr No w w'->Q tw th ta tn tc (used:Nat) 0 w'):Gt ba bn bc tw th w Q:=by
 apply abu;refine aY (bt (F:=No)) λtb w1 s=>?_;rw[bp,bp,bp,bp];refine aS s λrb w1 s=>?_;have c1:∀{w':World} {L':List As},Sep No w w' L'->w'.cell? (aZ 1)=some (.iface 219 (rt 74)):=λs=>(hL.fr (au s)).v1;refine akt hL hB Ez hr hw hh hn s (λhg fb p' co e w1 To s=>?_) λcs used hg ta tn tc w1 hu s=>?_
 ·refine sT s 2 rfl λw1 s=>?_;refine sT s 2 rfl λw1 s=>?_;refine az s (i:=2) rfl rfl rfl λw1 s=>?_;refine aY s λf w1 s=>?_;have s:=s;refine az s (i:=0) rfl rfl rfl λw1 s=>?_;refine Pk.KQ s (λw' s'=>c1 s') λw1 s=>?_;have s:=ax s;refine lP s 0 rfl (ah (lI s 1 rfl ?_));refine sT s 3 rfl λw1 s=>?_;refine sT s 3 rfl λw1 s=>?_;refine az s (i:=3) rfl rfl rfl λw1 s=>?_;refine⟨cN s 1 rfl,cN s 0 rfl,cN s 1 rfl,cN s 0 rfl,?_⟩;refine lI s 3 rfl (lI s 3 rfl (lS s 3 rfl ?_));have s':=cF (L':=[]) [] s rfl (by decide);exact hno hg co w1 To (fP s0 s') (au s')
 ·refine sT s 2 rfl λw1 s=>?_;refine sT s 2 rfl λw1 s=>?_;refine az s (i:=2) rfl rfl rfl λw1 s=>?_;refine aY s λf w1 s=>?_;have s:=s;refine az s (i:=0) rfl rfl rfl λw1 s=>?_;apply As.nil;have s:=ax s;refine lI s 3 rfl (lI s 3 rfl (lS s 3 rfl ?_));apply lI s 2 rfl;refine sT s 3 rfl λw1 s=>?_;refine sT s 3 rfl λw1 s=>?_;refine az s (i:=3) rfl rfl rfl λw1 s=>?_;refine⟨cN s 2 rfl,?_⟩;refine lI s 3 rfl (lI s 3 rfl (lS s 3 rfl ?_));have s':=cF (L':=[aj ta tn tc 5 1 (flat bA cs)]) [1] s rfl (by decide);exact hyes cs used hg ta tn tc w1 hu (fP s0 s') (au s')
end
section
variable {w h sc:Int}{M ts:List Int}{y tw p:Nat}
def ahc (hs:dA w h sc)(hM:(M.length:Int)=w*h){c:Nat}(hc:c<M.length):bC w h c:=⟨hs.1,by omega,by omega⟩
def am8 (hs:dA w h sc)(hM:(M.length:Int)=w*h):DU w h sc M ts 0=M:=by refine Tr Kq λc hc=>?_;rw[Kq]at hc;rw[Vy hc,if_neg];rintro ⟨e,h0⟩;have hC:=ahc hs hM hc;have hl:=(jL hC).1;have:=Int.ediv_nonneg hl (b:=aD w h sc) (by have:=(yE hs).1;omega);omega
def ahd (hs:dA w h sc)(OV:(tw:Int)=aD w h sc)(hy:(y:Int)<bu w h sc)(hp:(p:Int)=bS w h sc (y*aD w h sc)){c:Nat}(hC:bC w h c):
  (aC w h c=sc/\dD w h c/aD w h sc=y)↔(p<=c/\c<p+tw):=by
 have hz:=yE hs;constructor
 ·rintro ⟨e,e2⟩;have hg:=nq hC;have hl:=jL hC;have Ry:=Int.emod_nonneg (dD w h c) (b:=aD w h sc) (by omega);have JB:=Int.emod_lt_of_pos (dD w h c) (b:=aD w h sc) (by omega);have hd:=Int.mul_ediv_add_emod (dD w h c) (aD w h sc);obtain⟨x,hx⟩:∃x:Nat,dD w h c%aD w h sc=x:=⟨(dD w h c%aD w h sc).toNat,by omega⟩;rw[hx]at hd Ry JB;have:=GJ hs (y:=y) JB;grind
 ·rintro ⟨h1,h2⟩;have hx:((c-p:Nat):Int)<aD w h sc:=by omega
  have:=GJ hs (y:=y) hx;have ec:bS w h sc (y*aD w h sc+(c-p:Nat))=c:=by omega
  have hl:0<=(y:Int)*aD w h sc+(c-p:Nat)/\(y:Int)*aD w h sc+(c-p:Nat)<aD w h sc*bu w h sc:=by have a:0<=(y:Int)*aD w h sc:=Int.mul_nonneg (by omega) (by omega);have b:((y:Int)+1)*aD w h sc<=bu w h sc*aD w h sc:=Int.mul_le_mul_of_nonneg_right (by omega) (by omega);grind
  have e1:=iA hs hl;have e2:=ER hs hl;rw[ec]at e1 e2;refine⟨e1,?_⟩;rw[e2];exact(qR ⟨by omega,hx⟩).1
def ao2 (hs:dA w h sc)(hM:(M.length:Int)=w*h)(hts:(ts.length:Int)=aD w h sc*bu w h sc)(OV:(tw:Int)=aD w h sc)(hy:(y:Int)<bu w h sc)(hp:(p:Int)=bS w h sc (y*aD w h sc))(Z1:p+tw<=M.length):
  (DU w h sc M ts y).take p++(ts.drop (y*tw)).take tw++(DU w h sc M ts y).drop (p+tw)=DU w h sc M ts ((y+1:Nat):Int):=by
 have hyt:y*tw+tw<=ts.length:=by have b:((y:Int)+1)*aD w h sc<=bu w h sc*aD w h sc:=Int.mul_le_mul_of_nonneg_right (by omega) (by omega);grind
 have hl:((DU w h sc M ts y).take p++(ts.drop (y*tw)).take tw++(DU w h sc M ts y).drop (p+tw)).length=M.length:=by simp[List.length_append,List.length_take,List.length_drop,Kq];omega
 refine Tr (by rw[hl,Kq]) λc hc=>?_;rw[hl]at hc;have hC:=ahc hs hM hc;have av5:=ahd hs OV hy hp hC;rw[Vy hc];by_cases hin:p<=c/\c<p+tw
 ·obtain⟨e1,e2⟩:=av5.2 hin;have hlr:=jL hC;have hd:=Int.mul_ediv_add_emod (dD w h c) (aD w h sc);rw[e2]at hd;have hg:=nq hC;rw[e1]at hg;have Ry:=Int.emod_nonneg (dD w h c) (b:=aD w h sc) (by omega);have JB:=Int.emod_lt_of_pos (dD w h c) (b:=aD w h sc) (by omega);obtain⟨x,hx⟩:∃x:Nat,dD w h c%aD w h sc=x:=⟨(dD w h c%aD w h sc).toNat,by omega⟩;rw[hx]at hd JB;have hgr:=GJ hs (y:=y) JB;rw[Int.mul_comm,hd,hg,Int.mul_comm (aD w h sc)]at hgr;unfold gi;grind
 ·have e:(aC w h c=sc/\dD w h c/aD w h sc<((y+1:Nat):Int))↔(aC w h c=sc/\dD w h c/aD w h sc<(y:Int)):=by omega
  simp only[e];rw[<-Vy hc];unfold gi;grind
end
section
variable {F:Nat->Prop}{W w w0:World}{L:List As}{mw mh sc:Int}{M ts:List Int}{ta:Option Addr}{tn tc g o mn mc:Nat}
def am9 {Q:World->Prop}(hs:dA mw mh sc)(hM:(M.length:Int)=mw*mh)(hts:(ts.length:Int)=aD mw mh sc*bu mw mh sc)(hT:∀w',Sep F W w' L->Sl w' ta tn tc 1 bA ts)(s:Sep F W w (aj (some ⟨g,o,none⟩) mn mc 5 1 (flat bA M)::L))
  (h:∀w',Sep F W w' (aj (some ⟨g,o,none⟩) mn mc 5 1 (flat bA (age mw mh sc M ts))::L)->Q w'):E2 mw mh (some ⟨g,o,none⟩) mn mc sc (aD mw mh sc) (bu mw mh sc) ta tn tc w Q:=by
 apply Zr;have hz:=yE hs;have hmn:=(aL s (i:=0) rfl cY (by decide)).len;refine aS s λmb w s=>?_;refine aS s λtb w s=>?_;refine lI s 1 rfl (lI s 1 rfl ?_);refine wB s λw s _=>?_;apply lI s 0 rfl;have hz1:0<aD mw mh sc*bu mw mh sc:=Int.mul_pos (by omega) (by omega);have eg:BT mw mh sc 0=bS mw mh sc 0:=if_pos ⟨hs,by omega,hz1⟩;rw[eg];obtain⟨tw,OV⟩:∃tw:Nat,(tw:Int)=aD mw mh sc:=⟨(aD mw mh sc).toNat,by omega⟩;obtain⟨th,hth⟩:∃th:Nat,(th:Int)=bu mw mh sc:=⟨(bu mw mh sc).toNat,by omega⟩;have loop:∀(j y:Nat) (w:World),y+j=th->Sep F W w (av tb 84 [ae (aD mw mh sc),ae (bu mw mh sc),.slice ta tn tc]::av mb 25 [ae mw,ae mh,.slice (some ⟨g,o,none⟩) mn mc]::aj (some ⟨g,o,none⟩) mn mc 5 1 (flat bA (DU mw mh sc M ts y))::L)->
   Dp Q (j+1) (aZ mb) (aZ tb) (bS mw mh sc 0) (bu mw mh sc) y w:=by
  intro j;induction j with
  |zero=>
   intro y w hj s;show zU _ _ _ _ _ _ _ _;rw[zU,bp];have:(y:Int)=bu mw mh sc:=by omega
   rw[this]at s;exact h w (ai (ai s))
  |succ j ih=>
   intro y w hj s;show zU _ _ _ _ _ _ _ _;rw[zU,bJ];have s:=ax s;have b1:((y:Int)+1)*aD mw mh sc<=bu mw mh sc*aD mw mh sc:=Int.mul_le_mul_of_nonneg_right (by omega) (by omega);rw[Int.add_mul,Int.one_mul,Int.mul_comm (bu mw mh sc)]at b1;have b2:0<=(y:Int)*aD mw mh sc:=Int.mul_nonneg (by omega) (by omega);have b3:=Int.mul_le_mul hz.1.2 hz.2.1.2 (by omega) (by decide);have hC:=rU hs ⟨b2,by omega⟩;have hC2:=rU hs (l:=y*aD mw mh sc+((tw-1:Nat):Int)) ⟨by omega,by omega⟩;have hrow:=GJ hs (y:=y) (x:=tw-1) (by omega);obtain⟨p,hp⟩:∃p:Nat,(p:Int)=bS mw mh sc (y*aD mw mh sc):=⟨(bS mw mh sc (y*aD mw mh sc)).toNat,by have:=hC.2;omega⟩;have Z1:p+tw<=M.length:=by have:=hC2.2;omega
   have e0:bS mw mh sc 0+(y:Int)*mw=p:=by rw[hp];unfold bS;obtain⟨e3,e4⟩:=qR (w:=aD mw mh sc) (x:=0) (by omega);rw[Int.add_zero]at e3 e4;rw[e3,e4];simp[Int.zero_ediv,Int.zero_emod,Int.add_zero,Int.add_mul];omega
   have hyw:0<=(y:Int)*mw/\(y:Int)*mw<=16*1024:=⟨Int.mul_nonneg (by omega) (by have:=hs.1.1;omega),Int.mul_le_mul (by omega) hs.1.1.2 (by have:=hs.1.1;omega) (by decide)⟩;have hg0:=Hv (rU hs ⟨by omega,hz1⟩);refine lS s 1 rfl (lI s 1 rfl ?_);rw[aF (n:=(y:Int)*mw),aF,e0];have hcap:=PJ s (i:=2) rfl;apply Nx rfl (by omega);rw[ru];refine lS s 0 rfl (lI s 0 rfl (lI s 0 rfl ?_));rw[KU (by omega),aF,wrap_i64 (by push_cast;rw[Int.add_mul];omega) (by push_cast;rw[Int.add_mul];omega)];have hTs:=hT _ (ai (ai (ai s)));have OU:=hTs.len;have ey:((y*tw:Nat):Int)=(y:Int)*aD mw mh sc:=by push_cast;rw[OV]
   refine hTs.mid (q:=y*tw+tw) ey.symm (by push_cast;rw[Int.add_mul,OV];omega) (by omega) (by omega) λa n' c' en hS=>?_;have en:n'=tw:=by omega
   subst en;rw[show y*n'+n'-y*n'=n' by omega]at hS;refine DB (p:=p) dU s rfl rfl rfl rfl (by decide) (i:=2) rfl (hS.src (e:=5) cY z_) (by omega) (by simp[Addr.add]<;>omega) λw s=>?_;rw[show min n' (mn-p)=n' by omega]at s;have est:(flat bA (DU mw mh sc M ts y)).take (p*1)++(flat bA ((ts.drop (y*n')).take n')).take (n'*1)++(flat bA (DU mw mh sc M ts y)).drop ((p+n')*1)=flat bA (DU mw mh sc M ts ((y+1:Nat):Int)):=by rw[<-ao2 hs hM hts OV (by omega) hp Z1];simp[Xo,Nat.mul_one,List.map_append,List.map_take,List.map_drop];rw[List.take_take,Nat.min_self]
   rw[est]at s;exact ih (y+1) w (by omega) s
 have s:=s;rw[<-am8 hs hM]at s;exact⟨th+1,loop th 0 _ (by omega) s⟩
end
structure FM (bs:List Int):Prop where
 len:4<=bs.length
 wh:iU (AE bs) (AF bs)
 tail:∀bs' M,xh (AE bs) (AF bs) (ej (AE bs) (AF bs)).toNat 0 (bs.drop 4) (List.replicate (AE bs*AF bs).toNat 0)=some (bs',M)->bs'=[]
def FM.get {bs:List Int}(h:FM bs):kJ bs=(xh (AE bs) (AF bs) (ej (AE bs) (AF bs)).toNat 0 (bs.drop 4) (List.replicate (AE bs*AF bs).toNat 0)).map λq=>⟨AE bs,AF bs,q.2⟩:=by
 rw[kJ,if_neg (by have:=h.len;omega),if_pos h.wh];split
 ·rename_i bs' M hT;rw[hT,h.tail _ _ hT,if_pos rfl];rfl
 grind
def av6:zc T 25=[ae 0,ae 0,.slice none 0 0]:=rfl
def YW {w:World}{mw mh:Int}{Q:Int->World->Prop}(hm:iU mw mh)(h:Q (ej mw mh) w):DI mw mh w Q:=by apply XE;apply qm;have:=gz hm.1 hm.2;unfold X9 abP;rw[if_pos hm,if_pos hm];unfold ej at h this;rw[aF];exact h
def _root_.Go.Sx.Sl.Elf {α:Type}{w0:World}{a:Option Addr}{n c size k:Nat}{f:α->List Value}{xs:List α}{idx:Int}{K:Addr->Prop}(h:Sl w0 a n c size f xs)(hk:idx=k)(hn:k<n)
  (hK:∀p x,xs[k]? =some x->(∀w,Fr No w0 w->∀j v,(f x)[j]? =some v->w.cell? ((p.add (idx.toNat*size)).add j)=some v)->K p):aH idx n (wA a K):=
 h.El hk hn λp x hx hc=>hK p x hx λw fr j v hv=>Fr.cell fr (hc j v hv) id
section
variable {W w w0:World}{L:List As}{lg:yK}{ba:Option Addr}{bn bc:Nat}{bs:List Int}
def am_ {Q:Int->Int->Option Addr->Nat->Nat->Value->World->Prop}{mw mh:Int}{mb p2 g o mn mc N:Nat}(hL:iF w0 lg)(hm:iU mw mh)(hN:(N:Int)=ej mw mh){R:Option (List Int×List Int)}(at0:∀bs' M,R=some (bs',M)->bs'=[])
  (hno:R=none->∀tb i co w',Sep No w0 w' (av tb 242 [ae i,.iface 187 (ae co)]::[])->(co=2\/co=3)->Q 0 0 none 0 0 (.iface 240 (.pointer (sZ tb))) w')
  (hyes:∀M,R=some ([],M)->∀w',Sep No w0 w' (aj (some ⟨g,o,none⟩) mn mc 5 1 (flat bA M)::[])->Q mw mh (some ⟨g,o,none⟩) mn mc .nilIface w'):
  ∀(j i:Nat) (a:Option Addr) (n c:Nat) (bs M:List Int) (w:World),i+j=N->Sl w0 a n c 1 bA bs->n<=1000000000->gu bs->(M.length:Int)=mw*mh->xh mw mh j i bs M=R->Sep No w0 w (av mb 25 [ae mw,ae mh,.slice (some ⟨g,o,none⟩) mn mc]::av p2 25 [ae 0,ae 0,.slice none 0 0]::aj (some ⟨g,o,none⟩) mn mc 5 1 (flat bA M)::[])->
   B3 Q (j+1) a n c (aZ p2) (aZ mb) (ej mw mh) i w:=by
 have uK:=gz hm.1 hm.2;intro j;induction j with
 |zero=>
  intro i a n c bs M w hj hB hn hr hM hR s;show yl _ _ _ _ _ _ _ _ _ _;rw[yl,bp];have hR:some (bs,M)=R:=hR;have hb:=at0 bs M hR.symm;have hbl:=hB.len;rw[bp (by grind)];refine lI s 0 rfl (lI s 0 rfl (lS s 0 rfl ?_));refine acH (cF (L':=[_,_]) [1,2] s rfl (by decide)) λw s=>?_;grind
 |succ j ih=>
  intro i a n c bs M w hj hB hn hr hM hR s;show yl _ _ _ _ _ _ _ _ _ _;rw[yl,bJ];have hs:dA mw mh i:=⟨hm,by omega,by omega⟩;have hz:=yE hs;refine lI s 0 rfl (lI s 0 rfl ?_);refine uF s λw s _=>?_;have e1:Xp mw mh i=aD mw mh i:=if_pos hs;have e2:aa8 mw mh i=bu mw mh i:=if_pos hs;rw[e1,e2];have q1:=Int.mul_le_mul hz.1.1 hz.2.1.1 (by decide) (by omega);rw[xh]at hR;have fr:=au s;refine acI (n:=(aD mw mh i*bu mw mh i).toNat) (hL.fr fr) (hB.fr fr) hn hr hz.1 hz.2.1 (by omega) s (λhg co w To s _=>?_) λts used hg ta tn tc w hu s _=>?_
  ·rw[hg]at hR;refine aY s λtb w s=>?_;refine sT s 0 rfl λw s=>?_;refine sT s 0 rfl λw s=>?_;refine sT s 0 rfl λw s=>?_;rw[Fe (by omega),cond_true];refine aS s λeb w s=>?_;refine acH (cF (L':=[_,_]) [3,0] s rfl (by decide)) λw s=>?_;exact hno hR.symm eb i co w s To
  ·rw[hg]at hR;obtain⟨t1,t2,t3⟩:=alD (by omega) (λx hx=>hr x hx) hg;refine aY s λtb w s=>?_;refine sT s 0 rfl λw s=>?_;refine sT s 0 rfl λw s=>?_;refine az s (i:=0) rfl rfl rfl λw s=>?_;refine lI s 2 rfl (lI s 2 rfl (lS s 2 rfl ?_));refine lI s 0 rfl (lI s 0 rfl (lS s 0 rfl ?_));refine am9 hs hM (by omega) (λw' s'=>aL s' (i:=0) rfl cY (by decide)) (cF (L':=[aj (some ⟨g,o,none⟩) mn mc 5 1 (flat bA M),aj ta tn tc 5 1 (flat bA ts),_,_]) [4,1,2,3] s rfl (by decide)) λw s=>?_;refine hB.lo rfl hu λa' n' c' en hB'=>?_;rw[KU (by omega)];refine ih (i+1) a' n' c' _ _ w (by omega) hB' (by omega) (hr.drop used) (by rw[QV];exact hM) ?_ (cF (L':=[_,_,_]) [2,3,0] s rfl (by decide));exact hR
def aku {Q:Int->Int->Option Addr->Nat->Nat->Value->World->Prop}(hL:iF w0 lg)(hB:Sl w0 ba bn bc 1 bA bs)(Ez:bn<=1000000000)(hr:gu bs)(hh:FM bs)
  (hno:kJ bs=none->∀tb i co w',Sep No w0 w' (av tb 242 [ae i,.iface 187 (ae co)]::[])->(co=2\/co=3)->Q 0 0 none 0 0 (.iface 240 (.pointer (sZ tb))) w')
  (hyes:∀m,kJ bs=some m->∀ma mn mc w',Sep No w0 w' (aj ma mn mc 5 1 (flat bA m.cs)::[])->Q m.w m.h ma mn mc .nilIface w'):DG ba bn bc w0 Q:=by
 apply XL;have hbl:=hB.len;have h4:=hh.len;refine aY (bt (F:=No)) λp2 w s=>?_;rw[bp];have s:=ax s;refine hB.Elf (k:=0) rfl (by omega) λd0 x0 hx0 c0=>aQ (c0 _ (au s) 0 _ rfl) ?_;refine hB.Elf (k:=1) rfl (by omega) λd1 x1 Ry c1=>aQ (c1 _ (au s) 0 _ rfl) ?_;refine⟨by decide,?_⟩;refine hB.Elf (k:=2) rfl (by omega) λd2 x2 JB c2=>aQ (c2 _ (au s) 0 _ rfl) ?_;refine hB.Elf (k:=3) rfl (by omega) λd3 x3 hx3 c3=>aQ (c3 _ (au s) 0 _ rfl) ?_;refine⟨by decide,?_⟩;have r0:=hr x0 (List.mem_of_getElem? hx0);have r1:=hr x1 (List.mem_of_getElem? Ry);have r2:=hr x2 (List.mem_of_getElem? JB);have r3:=hr x3 (List.mem_of_getElem? hx3);have eW:AE bs=x0+x1*256:=by rw[AE,<-aaD hx0,<-aaD Ry];omega
 have eH:AF bs=x2+x3*256:=by rw[AF,<-aaD JB,<-aaD hx3];omega
 have i1:ior .i64 (IntKind.wrap .i64 x0) (AV .i64 (IntKind.wrap .i64 x1) 8)=AE bs:=by rw[aF,aF,eW];exact O.abQ (k:=8) (by decide) (by omega) r1
 have i2:ior .i64 (IntKind.wrap .i64 x2) (AV .i64 (IntKind.wrap .i64 x3) 8)=AF bs:=by rw[aF,aF,eH];exact O.abQ (k:=8) (by decide) (by omega) r3
 rw[i1,i2];refine aY s λmb w s=>?_;have fr:=au s;refine⟨c3 _ fr 0 _ rfl,c2 _ fr 0 _ rfl,c1 _ fr 0 _ rfl,c0 _ fr 0 _ rfl,?_⟩;have hwh:=pZ hh.wh;have uK:=gz hh.wh.1 hh.wh.2;refine sT s 0 rfl λw s=>?_;refine sT s 0 rfl λw s=>?_;refine az s (i:=0) rfl rfl rfl λw s=>?_;refine lI s 0 rfl (lI s 0 rfl ?_);apply o7;rw[decide_eq_true hh.wh,Bool.not_true,cond_false];refine hB.lo (m:=4) rfl (by omega) λa4 n4 c4 e4 hB4=>?_;refine lI s 0 rfl (lI s 0 rfl ?_);rw[aF];obtain⟨N,hN⟩:∃N:Nat,AE bs*AF bs=N:=⟨(AE bs*AF bs).toNat,by omega⟩;rw[hN];refine uk (bytes:=1) dU s rfl rfl rfl rfl rfl rfl (by decide) cY rfl (λu hu=>z_ 0 u hu) rfl rfl (Nat.le_refl _) (by omega) (by simp[maxLen];omega) λg w s=>?_;refine az s (i:=1) rfl rfl rfl λw s=>?_;refine lI s 1 rfl (lI s 1 rfl ?_);apply YW hh.wh;have hg:=hh.get;have e0:(AE bs*AF bs).toNat=N:=by omega
 rw[e0]at hg;have ht:=hh.tail;rw[e0]at ht;refine⟨(ej (AE bs) (AF bs)).toNat+1,am_ (N:=(ej (AE bs) (AF bs)).toNat) hL hh.wh (by omega) ht (λhR=>hno (by rw[hg,hR];rfl)) (λM hR w' s'=>hyes ⟨AE bs,AF bs,M⟩ (by rw[hg,hR];rfl) _ _ _ w' s') _ 0 a4 n4 c4 (bs.drop 4) (List.replicate N 0) w (by omega) hB4 (by omega) (hr.drop 4) (by rw[List.length_replicate,hN]) rfl (cF (L':=[_,_,_]) [1,2,0] s rfl (by decide))⟩
def aaR {F:Nat->Prop}{Q:Int->Int->Option Addr->Nat->Nat->Int->World->Prop}(hL:iF w lg)(hB:Sl w ba bn bc 1 bA bs)(Ez:bn<=1000000000)(hr:gu bs)(hh:FM bs)(s0:Sep F W w L)
  (hno:kJ bs=none->∀co w',(co=2\/co=3)->Sep F W w' L->Fr No w w'->Q 0 0 none 0 0 co w')
  (hyes:∀m,kJ bs=some m->∀ma mn mc w',Sep F W w' (aj ma mn mc 5 1 (flat bA m.cs)::L)->Fr No w w'->Q m.w m.h ma mn mc 0 w'):EW ba bn bc w Q:=by
 apply Zs;refine aY (bt (F:=No)) λp2 w1 s=>?_;have fr0:=au s;refine aku (hL.fr fr0) (hB.fr fr0) Ez hr hh (λhg tb i co w1 s' To=>?_) λm hg ma mn mc w1 s'=>?_
 ·have s:=fP s s';refine aY s λmb w1 s=>?_;refine sT s 0 rfl λw1 s=>?_;refine sT s 0 rfl λw1 s=>?_;refine sT s 0 rfl λw1 s=>?_;refine aY s λr w1 s=>?_;have s:=s;refine az s (i:=0) rfl rfl rfl λw1 s=>?_;have s:=cF (L':=[av r 187 [ae 0],av tb 242 [ae i,.iface 187 (ae co)],av p2 25 [ae 0,ae 0,.slice none 0 0]]) [0,2,3] s rfl (by decide);refine At.KQ s (λw' s'=>kK s' (i:=0) rfl 1 _ rfl) (λw' s'=>(hL.fr (au s')).v1) λw1 s=>?_;have s:=ax s;apply lI s 0 rfl;refine sT s 2 rfl λw1 s=>?_;refine sT s 2 rfl λw1 s=>?_;refine az s (i:=2) rfl rfl rfl λw1 s=>?_;refine⟨cN s 0 rfl,?_⟩;refine lI s 2 rfl (lI s 2 rfl (lS s 2 rfl ?_));have s':=cF (L':=[]) [] s rfl (by decide);exact hno hg co w1 To (fP s0 s') (au s')
 ·have s:=fP s s';refine aY s λmb w1 s=>?_;refine sT s 0 rfl λw1 s=>?_;refine sT s 0 rfl λw1 s=>?_;refine az s (i:=0) rfl rfl rfl λw1 s=>?_;refine aY s λr w1 s=>?_;have s:=s;refine az s (i:=0) rfl rfl rfl λw1 s=>?_;apply As.nil;refine lI s 1 rfl (lI s 1 rfl (lS s 1 rfl ?_));refine acH (cF (L':=[av p2 25 [ae 0,ae 0,.slice none 0 0],aj ma mn mc 5 1 (flat bA m.cs)]) [3,2] s rfl (by decide)) λw1 s=>?_;exact hyes m hg ma mn mc w1 (fP s0 s) (au s)
end
end Go.Proofs.YtmegplnmiepfbaaGreatDoor.S
namespace Go.Proofs.YtmegplnmiepfbaaGreatDoor.S
open Go.Sx
def Vm (q:o_):Ex:=match q.o with
 |some m=>⟨m.fH,m.fc,0,0,0,0⟩
 |none=>⟨0,0,0,0,0,0⟩
def pX (q:o_):Ex:=(q.past.add (Vm q)).add ⟨0,0,q.sh.b,q.sh.h,q.sh.st,q.sh.ev⟩
def yZ (q:o_):Int:=match q.o with
 |some m=>m.g.ep
 |none=>0
def as6 (q:o_):RS:=⟨[],[],q.sh.b,q.sh.h,q.sh.st,q.sh.ev⟩
def ldP (q:o_)(mp:bN):o_:=⟨q.k,as6 q,some ⟨Nc mp (yZ q),List.replicate (ej mp.w mp.h).toNat 0,0,0,none,0⟩,q.past.add (Vm q)⟩
def Pv (q:o_):o_:=⟨q.k,as6 q,q.o.map λm=>⟨m.g,m.Rh,m.clean,m.fH,none,m.fc⟩,q.past⟩
def edP (q:o_)(c x:Int):o_:=⟨q.k,q.sh,q.o.map λm=>⟨wF m.g c x,m.Rh,m.clean,m.fH,m.kept,m.fc⟩,q.past⟩
noncomputable def yN (q:o_)(t sc:Int):o_:=match q.o with
 |some m=>FG q m t sc
 |none=>q
noncomputable def FN (q:o_)(ps:List FK):o_:=ps.foldl (λq p=>yN q p.g p.s) q
def fV.ana (y:fV):tP y=Vm y.p:=by unfold tP Vm fV.p;cases y.o<;>rfl
def fV.all_eq (y:fV):Vc y=pX y.p:=by unfold Vc pX;rw[y.ana];rfl
def fV.akv (y:fV):epO y.o=yZ y.p:=by unfold epO yZ fV.p;cases y.o<;>rfl
def fV.at3 (y:fV){x':z6}{mp:bN}(h:x'.p=⟨[],[],y.x.b,y.x.h,y.x.st,y.x.ev⟩):(fV.mk y.k x' (some (aka y.o mp)) (y.past.add (tP y))).p=ldP y.p mp:=by
 unfold ldP fV.p;simp only[Option.map_some];congr 1
 ·congr 1;unfold kj.p aka aeY Mo;rw[y.akv];simp only[List.map_replicate];rfl
 ·rw[y.ana];rfl
def fV.at4 (y:fV){x':z6}{m:kj}(ho:y.o=some m)(h:x'.p=⟨[],[],y.x.b,y.x.h,y.x.st,y.x.ev⟩):(fV.mk y.k x' (some ⟨m.g,m.ms,⟨none,m.f.fH⟩⟩) y.past).p=Pv y.p:=by unfold Pv fV.p;rw[ho,h];rfl
def fV.ard (y:fV){x':z6}(ho:y.o=none)(h:x'.p=⟨[],[],y.x.b,y.x.h,y.x.st,y.x.ev⟩):(fV.mk y.k x' none y.past).p=Pv y.p:=by unfold Pv fV.p;rw[ho,h];rfl
def fV.at5 (y:fV){m:kj}(ho:y.o=some m){c x:Int}:(fV.mk y.k y.x (some ⟨wF m.g c x,m.ms,m.f⟩) y.past).p=edP y.p c x:=by unfold edP fV.p;rw[ho];rfl
def KZ {y:fV}{m:kj}(ho:y.o=some m):y.p.o=some m.p:=by rw[fV.p,ho];rfl
def Ro {y:fV}{mp:zH}(h:y.p.o=some mp):∃m,y.o=some m/\m.p=mp:=by unfold fV.p at h;simp_all
def field_eq {y:fV}{m:kj}(ho:y.o=some m){t sc:Int}:FG y.p m.p t sc=yN y.p t sc:=by rw[yN,KZ ho]
def Hg {q:o_}{mp:zH}(h:q.o=some mp)(t sc:Int):∃RW,(yN q t sc).o=some RW/\RW.g=mp.g:=by rw[yN,h];exact⟨_,rfl,rfl⟩
def FO:∀(ps:List FK) {q:o_} {mp:zH},q.o=some mp->∃RW,(FN q ps).o=some RW/\RW.g=mp.g
 |[],q,mp,h=>⟨mp,h,rfl⟩
 |p::ps,q,mp,h=>by obtain⟨m1,h1,e1⟩:=Hg h p.g p.s;obtain⟨m2,h2,e2⟩:=FO ps h1;exact⟨m2,h2,e2.trans e1⟩
structure iO where
 most:Int
 bX:o_
 us:Option sG
structure YX where
 code:Int
 d:Int
 dir:Int
 id:Int
 FP:List (Int×Int)
 gone:List Int
def oF (c:Int):YX:=⟨c,0,5,-1,[],[]⟩
noncomputable def nA (m:bN)(us:List aM):List Int:=us.map λu=>o8 m u.goal u.cell
noncomputable def RX (q:iO)(m:bN)(y:sG)(o:A1):iO×YX:=
 if o.k=2 then
  if¬bC m.w m.h o.A then(q,oF 7)
  else if o.B<1\/255<o.B then(q,oF 8)
  else if o.B=255/\tQ y.us o.A≠-1 then(q,oF 10)
  else(⟨q.most,edP q.bX o.A o.B,some y⟩,oF 0)
 else if o.k=3 then
  if¬(bC m.w m.h o.A/\bC m.w m.h o.B)then(q,oF 7)
  else if cH m o.A=255 then(q,oF 9)
  else if ow m.w m.h y o.A o.B≠0 then(q,oF (ow m.w m.h y o.A o.B))
  else(⟨q.most,q.bX,some (KT y o.A o.B)⟩,⟨0,0,5,y.next,[],[]⟩)
 else if o.k=4 then
  match gy y.us o.A with
  |none=>(q,oF 12)
  |some u=>if¬bC m.w m.h o.B then(q,oF 7)else if u.cell=o.B then(⟨q.most,q.bX,some (kI y o.A)⟩,oF 13)else(⟨q.most,q.bX,some (uZ y o.A λu=>⟨u.id,u.cell,o.B⟩)⟩,oF 0)
 else if o.k=5 then
  match gy y.us o.A with
  |none=>(q,oF 12)
  |some _=>(⟨q.most,q.bX,some (kI y o.A)⟩,oF 0)
 else if o.k=6 then
  if bC m.w m.h o.A/\bC m.w m.h o.B then(⟨q.most,yN q.bX o.A (cO m o.B),some y⟩,⟨0,D m o.A o.B,o8 m o.A o.B,-1,[],[]⟩)else(q,oF 7)
 else
  (⟨q.most,FN q.bX (l6 m.w m.h y.us),some (He m.w m.h y (nA m y.us))⟩,⟨0,0,5,-1,(cK m.w m.h [] (y.us.zip (nA m y.us))).2.1,(cK m.w m.h [] (y.us.zip (nA m y.us))).2.2⟩)
noncomputable def iP (q:iO)(o:A1):iO×YX:=
 if o.k=0\/DD o=false then(q,oF 5)
 else if o.k=1 then
  match kJ o.m with
  |none=>(q,oF 6)
  |some mp=>(⟨q.most,ldP q.bX mp,some ⟨q.most,0,[]⟩⟩,oF 0)
 else if o.k=8 then(⟨q.most,Pv q.bX,q.us⟩,oF 0)
 else match q.bX.o,q.us with
  |some m,some y=>RX q m.g.m y o
  |_,_=>(q,oF 4)
end Go.Proofs.YtmegplnmiepfbaaGreatDoor.S
set_option maxRecDepth 20000
namespace Go.Proofs.YtmegplnmiepfbaaGreatDoor.S
open Go.Sx
attribute [local irreducible] af cq bq bf aB bY bT St Bx Al App cu cg b_ bR aK bw aq bP av aj aU mapA
def iiT:P.underlying 207=some (.map 3 3):=by kernel_rfl
def azm:zc T 211=[ae 0,ae 0,.slice none 0 0]:=rfl
def ao3 (w h:Int)(ms:List (Int×Int))(us:List aM):Prop:=ou ms/\∀u∈us,e_ ms u.id=some (dD w h u.cell)
structure ahf (m:bN) (us:List aM) (ms:List (Int×Int)):Prop where
 k:ou ms
 v:∀u∈us,∀d,e_ ms u.id=some d->d=o8 m u.goal u.cell
section
variable {W w w0:World}{L:List As}{r:zG}{y:fV}{lg:yK}{la:Option Addr}{ln lc sp lb db:Nat}{us:List aM}{v0 v2:Value}{g:gU}{loc:List (Int×Int)}
def ids_eq {us:List aM}(h:(us.map (·.id)).Pairwise (·<·)){u v:aM}(hu:u∈us)(hv:v∈us)(e:u.id=v.id):u=v:=by obtain⟨i,hi⟩:=List.mem_iff_getElem?.1 hu;obtain⟨j,hj⟩:=List.mem_iff_getElem?.1 hv;have h1:=VN h hi;have h2:=VN h hj;grind
noncomputable abbrev EA (sp:Nat)(v0:Value)(np:Nat)(v2:Value):As:=av sp 72 [v0,.pointer (sZ np),v2]
def ao4 {uu:Option Addr->Option Addr->Nat->Nat->Option Nat->Option Nat->Option Addr->Nat->Nat->Int->Int->World->Prop}{Q:Option Addr->Nat->Nat->Value->World->Prop}{s0:Option Addr}{fb:Nat}{ia pa ra:Option Addr}{iN ic pn pc rn rc i:Nat}{ids:List Int}{d0:Value}{t sc:Int}
  (hmay:c7 g.m)(hm:nk g.m.w g.m.h us)(hL:ao3 g.m.w g.m.h loc us)(hs:dA g.m.w g.m.h sc)(ht:bC g.m.w g.m.h t)(IF:∀x∈ids,∃u∈us,u.id=x/\u.goal=t/\aC g.m.w g.m.h u.cell=sc)(FQ:∀u∈us,g_ u.id)(hi:i<=1000000)(hiN:iN<=1000000)
  (hI:∀w',Sep No W w' L->Sl w' ia iN ic 1 one ids)(hR:∀w',Sep No W w' L->Sl w' ra rn rc 1 one (BJ g.m t sc))(hF:∀w',Sep No W w' L->ri w' fb [d0,.slice ra rn rc])
  {dm0:List (Int×Int)}(next:∀IP w',ahf g.m us IP->(∀x,(e_ dm0 x).isSome=true->(e_ IP x).isSome=true)->(∀x∈ids,(e_ IP x).isSome=true)->Sep No W w' (fF e9 vI lb loc::fF e9 vI db IP::L)->uu s0 la ln lc (some lb) (some db) pa pn pc (pn:Int) ((i+1:Nat):Int) w')
  :∀(j k:Nat) (dm:List (Int×Int)) (w:World),k+j=iN->ahf g.m us dm->(∀x,(e_ dm0 x).isSome=true->(e_ dm x).isSome=true)->(∀x∈ids.take k,(e_ dm x).isSome=true)->Sep No W w (fF e9 vI lb loc::fF e9 vI db dm::L)->
   rL uu Q (j+1) s0 la ln lc (some lb) (some db) (aZ fb) pa pn pc (pn:Int) i ia iN ic (iN:Int) k w:=by
 intro j;induction j with
 |zero=>
  intro k dm w hj hD ET hk s;show n6 uu Q _ _ _ _ _ _ _ _ _ _ _ _ _ _ _ _ _ _ _;rw[n6,bp,KU (by omega)];have hl:=(hI w (ai (ai s))).len;grind
 |succ j ih=>
  intro k dm w hj hD ET hk s;show n6 uu Q _ _ _ _ _ _ _ _ _ _ _ _ _ _ _ _ _ _ _;rw[n6,bJ];have sL:=ai (ai s);have hIw:=hI w sL;have hl:=hIw.len;apply hIw.pC rfl (by omega);have hx:=gM (l:=ids) (i:=k) (by omega);obtain⟨u,hu,e1,e2,e3⟩:=IF _ (List.mem_of_getElem? hx);have xq:ids.take (k+1)=ids.take k++[gi ids k]:=by rw[List.take_add_one,hx];rfl
  generalize gi ids k=x at*;subst e1;have Hl:=hm.at_ u hu;have h64:=FQ u hu;have hlr:=jL Hl.1;have WV:=nq Hl.1;rw[e3]at hlr WV;apply dy (hF w sL 1 _ rfl);refine Dt (K:=e9) iiT (aap w) s (i:=0) rfl hL.1 h64 (λhn=>by rw[hL.2 u hu]at hn;cases hn) λz hz=>?_;rw[hL.2 u hu]at hz;cases hz;apply ZP;have hRw:=hR w sL;have hrl:=hRw.len;have hfl:(BJ g.m t sc).length=(aD g.m.w g.m.h sc*bu g.m.w g.m.h sc).toNat:=by unfold BJ nj;have:=Bz (m:=g.m) (sc:=sc);rw[List.length_map,List.length_range];omega
  apply hRw.pC (k:=(dD g.m.w g.m.h u.cell).toNat) (by omega) (by omega);rw[apR hmay hs ht hlr,WV,KU (by omega)];refine KC (x:=u.id) iiT s (i:=1) rfl hD.k h64 λIP w hk' Dg _ s=>?_;refine ih (k+1) IP w (by omega) ⟨hk',λv hv d hd=>?_⟩ (λx hx=>?_) (λx hx=>?_) s
  ·rw[Dg]at hd;split at hd
   ·rename_i e;have:=ids_eq hm.ids hv hu e;subst this;cases hd;rw[<-e2]
   ·exact hD.v v hv d hd
  ·rw[Dg];split
   ·rfl
   ·exact ET x hx
  ·rw[xq]at hx;rw[Dg];split
   ·rfl
   ·rename_i hne;rcases List.mem_append.1 hx with hx|hx
    ·exact hk x hx
    ·exact(hne (List.mem_singleton.1 hx)).elim
end
def ahg {s d:Int}{N:Nat}:∀{l:List (Int×List Int)},(∀p∈l,p.2.length<=N)->∀p∈yM s d l,p.2.length<=N+1
 |[],_,p,hp=>by simp[yM,List.mem_singleton]at hp;grind
 |q::l,h,p,hp=>by
  have h0:=h q (List.mem_cons_self ..);rw[yM]at hp;split at hp
  ·grind
  ·rcases List.mem_cons.1 hp with rfl|hp
   ·omega
   ·exact ahg (λp hp=>h p (List.mem_cons_of_mem _ hp)) p hp
def ahh {g s d:Int}{N:Nat}:∀{st:zL},(∀q∈st,∀p∈q.2,p.2.length<=N)->∀q∈pN g s d st,∀p∈q.2,p.2.length<=N+1
 |[],_,q,hq,p,hp=>by simp[pN,List.mem_singleton]at hq;grind
 |z::st,h,q,hq,p,hp=>by
  rw[pN]at hq;split at hq
  ·rcases List.mem_cons.1 hq with rfl|hq
   ·exact ahg (h z (List.mem_cons_self ..)) p hp
   grind
  ·rcases List.mem_cons.1 hq with rfl|hq
   ·grind
   ·exact ahh (λq hq=>h q (List.mem_cons_of_mem _ hq)) q hq p hp
def are {w h:Int}{us:List aM}{ps:List z7}{p:z7}(hps:ps.map KX=l6 w h us)(hp:p∈ps):p.ids.length<=us.length:=by
 have key:∀(us:List aM) (st:zL) (N:Nat),(∀q∈st,∀p∈q.2,p.2.length<=N)->∀q∈us.foldl (Rj w h) st,∀p∈q.2,p.2.length<=N+us.length:=by
  intro us;induction us with
  |nil=>simp_all
  |cons u us ih=>
   intro st N h;have:=ih _ _ (ahh (g:=u.goal) (s:=aC w ‹Int› u.cell) (d:=u.id) h);rw[List.length_cons];intro q hq p hp;have:=this q hq p hp;omega
 have h1:KX p∈l6 w h us:=by grind
 obtain⟨q,hq,h2⟩:=List.mem_flatMap.1 h1;obtain⟨z,hz,e⟩:=List.mem_map.1 h2;have h3:=key us [] 0 (λq hq=>by cases hq) q hq z hz;have e2:z.2=p.ids:=congrArg FK.ids e;grind
section
variable {W w w0:World}{L:List As}{r:zG}{y:fV}{lg:yK}{la:Option Addr}{ln lc sp lb db:Nat}{us:List aM}{v0 v2:Value}{g:gU}{loc:List (Int×Int)}
def ahi {F:Nat->Prop}{ps:List z7}{p:z7}{i:Nat}(s:Sep F W w (zM ps::L))(hp:ps[i]? =some p):Sl w p.q.a p.q.n p.q.c 1 one p.ids:=by have s:=(iT s).2;exact aL s (i:=i) (by rw[List.getElem?_append_left (by grind),List.getElem?_map,hp];rfl) cj (by decide)
def ao5 {Q:Option Addr->Nat->Nat->Value->World->Prop}{dm:List (Int×Int)}{L':List As}(hm:nk g.m.w g.m.h us)(FQ:∀u∈us,g_ u.id)(pI:ln<=1000000)(hD:ahf g.m us dm)(hall:∀u∈us,(e_ dm u.id).isSome=true)(hU:∀w',Sep No W w' L'->Sl w' la ln lc 3 gW us)
  (h:∀da dn dc w',Sep No W w' (aj da dn dc 3 1 (flat one (nA g.m us))::L')->Q da dn dc .nilIface w'):
  ∀(j i:Nat) (oa:Option Addr) (on oc:Nat) (w:World),i+j=ln->on<=i->Sep No W w (aj oa on oc 3 1 (flat one (nA g.m (us.take i)))::fF e9 vI db dm::L')->
   rM Q (j+1) (some db) oa on oc la ln lc (ln:Int) i w:=by
 intro j;induction j with
 |zero=>
  intro i oa on oc w hj HL s;show n8 _ _ _ _ _ _ _ _ _ _ _ _;rw[n8,bp];have hl:=(hU w (ai (ai s))).len;rw[List.take_of_length_le (by omega)]at s;exact h oa on oc w (gH s (.cons_cons _ (List.sublist_cons_self _ _)))
 |succ j ih=>
  intro i oa on oc w hj HL s;show n8 _ _ _ _ _ _ _ _ _ _ _ _;rw[n8,bJ];refine(hU w (ai (ai s))).El rfl (by omega) λp u hu hc=>?_;have hmem:=List.mem_of_getElem? hu;refine Vh hc s λub w s=>?_;apply lI s 0 rfl;refine Dt (K:=e9) iiT (aap w) s (i:=2) rfl hD.k (FQ u hmem) (λhn=>by grind) λd hd=>?_;apply ZP;rw[hD.v u hmem d hd,KU (by omega)];have s:=ai s;refine Kb s (by omega) λa' c' w s=>?_;apply ih (i+1) a' (on+1) c' w (by omega) (by omega);have xq:us.take (i+1)=us.take i++[u]:=by rw[List.take_add_one,hu];rfl
  unfold nA at s⊢;grind
def ao6 {Q:Option Addr->Nat->Nat->Value->World->Prop}{ps:List z7}{pa:Option Addr}{pn pc:Nat}(hLd:iF W lg)(hmay:c7 g.m)(hm:nk g.m.w g.m.h us)(FQ:∀u∈us,g_ u.id)(pI:ln<=100000)(av8:ao3 g.m.w g.m.h loc us)(hps:ps.map KX=l6 g.m.w g.m.h us)(hU:∀w',Sep No W w' L->Sl w' la ln lc 3 gW us)
  (h:∀r' y' da dn dc w',r'.p=r.p->y'.p=FN y.p (l6 g.m.w g.m.h us)->Sep No W w' (aj da dn dc 3 1 (flat one (nA g.m us))::gP r' y'::EA sp v0 r.p v2::L)->Q da dn dc .nilIface w'):
  ∀(j i:Nat) (r':zG) (y':fV) (m':kj) (dm:List (Int×Int)) (w:World),i+j=pn->r'.p=r.p->y'.p=FN y.p ((l6 g.m.w g.m.h us).take i)->y'.o=some m'->m'.g=g->ahf g.m us dm->(∀p∈ps.take i,∀x∈p.ids,(e_ dm x).isSome=true)->
   Sep No W w (gP r' y'::EA sp v0 r.p v2::fF e9 vI lb loc::fF e9 vI db dm::aj pa pn pc 211 3 (flat xL ps)::zM ps::L)->
   n_ Q (j+1) (sZ sp) la ln lc (some lb) (some db) pa pn pc (pn:Int) i w:=by
 have Hj:=adM g.m.w g.m.h us;have azn:ps.length=(l6 g.m.w g.m.h us).length:=by grind
 intro j;induction j with
 |zero=>
  intro i r' y' m' dm w hj er ey ho eg hD hd s;show n9 _ _ _ _ _ _ _ _ _ _ _ _ _ _;rw[n9,bp];have Z1:=(aL s (i:=4) rfl tT (by decide)).len;rw[List.take_of_length_le (by omega)]at ey hd;have hUw:=hU w (ai (ai (ai (ai (ai (ai s))))));have s:=pk 6 [3,0,1] s;have s:=bE s 3 1;refine⟨ln+1,ao5 (L':=gP r' y'::EA sp v0 r.p v2::L) hm FQ (by omega) hD (λu hu=>?_) (λw' s'=>hU w' (ai (ai s'))) (λda dn dc w' s'=>h r' y' da dn dc w' er ey s') ln 0 none 0 0 w (by omega) (Nat.zero_le _) s⟩;obtain⟨p,hp,_,_,hx⟩:=Vk.2 ⟨u,hu,rfl,rfl,rfl⟩;rw[<-hps]at hp;obtain⟨q,hq,rfl⟩:=List.mem_map.1 hp;exact hd q hq u.id hx
 |succ j ih=>
  intro i r' y' m' dm w hj er ey ho eg hD hd s;show n9 _ _ _ _ _ _ _ _ _ _ _ _ _ _;rw[n9,bJ];have hP:=aL s (i:=4) rfl tT (by decide);have Z1:=hP.len;have hul:=(hU w (ai (ai (ai (ai (ai (ai s))))))).len;refine hP.El rfl (by omega) λad p hp hc=>?_;have hmem:=List.mem_of_getElem? hp;have htr:(l6 g.m.w g.m.h us)[i]? =some (KX p):=by rw[<-hps,List.getElem?_map,hp];rfl
  have xq:(l6 g.m.w g.m.h us).take (i+1)=(l6 g.m.w g.m.h us).take i++[KX p]:=by rw[List.take_add_one,htr];rfl
  have av9:ps.take (i+1)=ps.take i++[p]:=by rw[List.take_add_one,hp];rfl
  obtain⟨u0,hu0,e1,e2⟩:=akk (List.mem_of_getElem? htr);have Hl:=hm.at_ u0 hu0;have ht:bC g.m.w g.m.h p.g:=by rw[<-show u0.goal=p.g from e1];exact Hl.2
  have hs:dA g.m.w g.m.h p.s:=by rw[<-show aC g.m.w g.m.h u0.cell=p.s from e2];exact bQ Hl.1
  have uK:=gz hm.wh.1 hm.wh.2;have Mu:Lr.W2 (p.g,p.s):=⟨g_.wf (zI ht),g_.wf (by have:=hs.2;unfold g_;omega)⟩;have IF:∀x∈p.ids,∃u∈us,u.id=x/\u.goal=p.g/\aC g.m.w g.m.h u.cell=p.s:=λx hx=>by obtain⟨u,hu,k1,k2,k3⟩:=Vk.1 ⟨KX p,List.mem_of_getElem? htr,rfl,rfl,hx⟩;exact⟨u,hu,k3,k1,k2⟩
  refine aQ (hc 0 _ rfl) (aQ (hc 1 _ rfl) (dy (hc 2 _ rfl) ?_));refine aY s λpb w s=>?_;refine sT s 0 rfl λw s=>?_;refine sT s 0 rfl λw s=>?_;refine az s (i:=0) rfl rfl rfl λw s=>?_;have s:=ax s;subst eg;refine ah (lP s 2 rfl (lI s 0 rfl (lI s 0 rfl ?_)));rw[<-er]at s⊢;have fin:∀{r2:zG} {y2:fV} {da ra:Option Addr} {dc rc fb:Nat} {w:World},r2.p=r'.p->y2.p=FG y'.p m'.p p.g p.s->
    Sep No W w (av fb 213 [.slice da (dx m'.g.m p.s).length dc,.slice ra (dx m'.g.m p.s).length rc]::aj ra (dx m'.g.m p.s).length rc 3 1 (flat one (BJ m'.g.m p.g p.s))::aj da (dx m'.g.m p.s).length dc 3 1 (flat one (FF m'.g.m p.g p.s))::gP r2 y2::av pb 211 [ae p.g,ae p.s,.slice p.q.a p.q.n p.q.c]::EA sp v0 r'.p v2::fF e9 vI lb loc::fF e9 vI db dm::aj pa pn pc 211 3 (flat xL ps)::zM ps::L)->
    n7 (n_ Q (j+1)) Q (sZ sp) la ln lc (some lb) (some db) (aZ pb) (aZ fb) 0 pa pn pc (pn:Int) i w:=λ{r2 y2 da ra dc rc fb w} er2 Pw s=>by
   unfold n7;apply lS s 4 rfl;have hI0:=ahi (pk 10 [9] s) hp;have Hq:=hI0.len;have vi:p.q.n<=1000000:=by rw[<-Hq];exact Nat.le_trans (are hps hmem) (by omega)
   have s:=pk 10 [6,7,0,1,9,8,3,5] s;obtain⟨m2,ho2,em2⟩:=Ro (by rw[Pw];rfl);have eg2:m2.g=m'.g:=by have:=congrArg zH.g em2;exact this
   refine⟨p.q.n+1,ao4
    hmay hm av8 hs ht IF FQ (by omega) vi (λw' s'=>ahi (ai (ai s')) hp) (λw' s'=>aL s' (i:=1) rfl cj (by decide)) (λw' s'=>kK s' (i:=0) rfl) (λIP w' hD' h0 h1 s'=>?_) p.q.n 0 dm w (by omega) hD (λx hx=>hx) (λx hx=>by cases hx) s⟩
   refine ih (i+1) r2 y2 m2 IP w' (by omega) (er2.trans er) ?_ ho2 eg2 hD' (λq hq x hx=>?_) ?_
   ·rw[Pw,xq,field_eq ho,ey];unfold FN;rw[List.foldl_append];rfl
   ·rw[av9]at hq;rcases List.mem_append.1 hq with hq|hq
    ·exact h0 x (hd q hq x hx)
    ·rw[List.mem_singleton.1 hq]at hx;exact h1 x hx
   ·rw[<-er];exact fQ (A:=[_,_,_,_,_,_,_,_]) (B:=[_,_,_,_,_,_]) [6,7,0,1,5,4] s' rfl (by decide)
  constructor
  ·have s:=pk 7 [1,0,2,3,4,5,6] s;refine Mv ho hLd s ht hs Mu λr2 y2 da dc ra rc w er2 Pw s=>?_;refine aY s λfb w s=>?_;refine⟨cN s 4 rfl,cN s 4 rfl,cN s 5 rfl,?_⟩;refine sT s 0 rfl λw s=>?_;refine az s (i:=0) rfl rfl rfl λw s=>?_;exact fin er2 Pw s
  ·refine aY s λfb w s=>?_;refine⟨cN s 1 rfl,cN s 1 rfl,cN s 3 rfl,?_⟩;have s:=pk 8 [2,0,1,3,4,5,6,7] s;refine Mv ho hLd s ht hs Mu λr2 y2 da dc ra rc w er2 Pw s=>?_;have s:=pk 10 [3,0,1,2,4,5,6,7,8,9] s;refine sT s 0 rfl λw s=>?_;refine az s (i:=0) rfl rfl rfl λw s=>?_;exact fin er2 Pw s
end
section
variable {W w w0:World}{L:List As}{r:zG}{y:fV}{lg:yK}{la:Option Addr}{ln lc sp:Nat}{us:List aM}{v0 v2:Value}{m:kj}
def acJ {Q:Option Addr->Nat->Nat->Value->World->Prop}(hLd:iF W lg)(ho:y.o=some m)(hm:nk m.g.m.w m.g.m.h us)(FQ:∀u∈us,g_ u.id)(pI:ln<=100000)(hU:∀w',Sep No W w' L->Sl w' la ln lc 3 gW us)(s:Sep No W w (gP r y::EA sp v0 r.p v2::L))
  (h:∀r' y' da dn dc w',r'.p=r.p->y'.p=FN y.p (l6 m.g.m.w m.g.m.h us)->Sep No W w' (aj da dn dc 3 1 (flat one (nA m.g.m us))::gP r' y'::EA sp v0 r.p v2::L)->Q da dn dc .nilIface w'):
  wU (sZ sp) la ln lc w Q:=by
 apply M6;refine ah (lP s 1 rfl ?_);have k:=r8 s ho;have hg:=(k.ok.m m ho).g;refine Po s k λw s _=>?_;refine Yz s 207 e9 vI λlb w s=>?_;have av_:∀{us:List aM},ahf m.g.m us []:=⟨List.nodup_nil,λu _ d h=>by cases h⟩;have loop:∀(j i:Nat) (loc:List (Int×Int)) (w:World),i+j=ln->ao3 m.g.m.w m.g.m.h loc (us.take i)->Sep No W w (fF e9 vI lb loc::gP r y::EA sp v0 r.p v2::L)->
   tI Q (j+1) (sZ sp) la ln lc m.g.m.w m.g.m.h (some lb) la ln lc (ln:Int) i w:=by
  intro j;induction j with
  |zero=>
   intro i loc w hj hL s;show oY _ _ _ _ _ _ _ _ _ _ _ _ _ _ _;rw[oY,bp];refine Yz s 207 e9 vI λdb w s=>?_;have hUw:=hU w (ai (ai (ai (ai s))));have hl:=hUw.len;rw[List.take_of_length_le (by omega)]at hL;refine YV s hUw (by omega) hm λoa on oc ps w htr s _=>?_;have s:=pk 6 [4,5,3,2,0,1] s;exact⟨on+1,ao6 hLd hg.may hm FQ pI hL htr hU h on 0 r y m [] w (by omega) rfl (by rw[List.take_zero];rfl) ho rfl av_ (λp hp=>by cases hp) s⟩
  |succ j ih=>
   intro i loc w hj hL s;show oY _ _ _ _ _ _ _ _ _ _ _ _ _ _ _;rw[oY,bJ];refine(hU w (ai (ai (ai s)))).El rfl (by omega) λp u hu hc=>?_;have hmem:=List.mem_of_getElem? hu;refine Vh hc s λub w s=>?_;have s:=ax s;refine lI s 0 rfl (lI s 0 rfl ?_);refine sE s λw s _=>⟨cN s 0 rfl,?_⟩;refine KC iiT s (i:=1) rfl hL.1 (FQ u hmem) λloc' w hk' Dg _ s=>?_;rw[KU (by omega)];refine ih (i+1) loc' w (by omega) ⟨hk',λv hv=>?_⟩ (ai s);have xq:us.take (i+1)=us.take i++[u]:=by rw[List.take_add_one,hu];rfl
   rw[xq]at hv;rw[Dg];by_cases e:v.id=u.id
   ·have hvu:v∈us:=by
     rcases List.mem_append.1 hv with hv|hv
     ·exact List.mem_of_mem_take hv
     ·rw[List.mem_singleton.1 hv];exact hmem
    rw[if_pos e,ids_eq hm.ids hvu hmem e]
   ·rw[if_neg e];rcases List.mem_append.1 hv with hv|hv
    ·exact hL.2 v hv
    ·exact(e (by rw[List.mem_singleton.1 hv])).elim
 exact⟨ln+1,loop ln 0 [] w (by omega) ⟨List.nodup_nil,λu hu=>by cases hu⟩ s⟩
end
structure Gd where
 p:Nat
 bX:zG
 cr:CrR
structure AN where
 most:Int
 bX:fV
 cr:Option Gb
def AN.p (y:AN):iO:=⟨y.most,y.bX.p,y.cr.map (·.y)⟩
def crV (r:Gd)(o:Option Gb):Option Addr:=match o with
 |some _=>sZ r.cr.p
 |none=>none
noncomputable def akw (r:Gd)(o:Option Gb):List As:=match o with
 |some x=>[fL r.cr x]
 |none=>[]
noncomputable abbrev ahj (r:Gd)(y:AN):As:=EA r.p (ae y.most) r.bX.p (.pointer (crV r y.cr))
noncomputable def at6 (r:Gd)(y:AN):List As:=ahj r y::gP r.bX y.bX::akw r y.cr
structure ahk (y:AN):Prop where
 most:1<=y.most/\y.most<=65536
 no:y.cr=none↔y.bX.o=none
 cr:∀x m,y.cr=some x->y.bX.o=some m->x.w=m.g.m.w/\x.h=m.g.m.h/\x.y.most=y.most
noncomputable def gX (r:Gd)(y:AN):As:=aU (ahk y) (at6 r y)
section
variable {F:Nat->Prop}{W w:World}{L:List As}{r:Gd}{y:AN}
def Jq (s:Sep F W w (gX r y::L)):ahk y/\Sep F W w (ahj r y::gP r.bX y.bX::(akw r y.cr++L)):=iT s
def ahl (s:Sep F W w (gX r y::L))(h:y.cr=none):ahk y/\y.bX.o=none/\Sep F W w (EA r.p (ae y.most) r.bX.p (.pointer none)::gP r.bX y.bX::L):=by obtain⟨ok,s⟩:=Jq s;refine⟨ok,ok.no.1 h,?_⟩;unfold ahj akw crV at s;grind
def uL {x:Gb}(s:Sep F W w (gX r y::L))(h:y.cr=some x):ahk y/\(∃m,y.bX.o=some m/\x.w=m.g.m.w/\x.h=m.g.m.h/\x.y.most=y.most)/\Sep F W w (EA r.p (ae y.most) r.bX.p (.pointer (sZ r.cr.p))::gP r.bX y.bX::fL r.cr x::L):=by
 obtain⟨ok,s⟩:=Jq s;refine⟨ok,?_,?_⟩
 ·cases hn:y.bX.o with
  |none=>rw[ok.no.2 hn]at h;cases h
  |some m=>exact⟨m,rfl,ok.cr x m h hn⟩
 ·unfold ahj akw crV at s;grind
def y6 {most:Int}{n:fV}{x:Gb}{m:kj}(s:Sep F W w (EA r.p (ae most) r.bX.p (.pointer (sZ r.cr.p))::gP r.bX n::fL r.cr x::L))(hm:1<=most/\most<=65536)(ho:n.o=some m)(hx:x.w=m.g.m.w/\x.h=m.g.m.h/\x.y.most=most):Sep F W w (gX r ⟨most,n,some x⟩::L):=by
 refine dW s ⟨hm,⟨(λe=>by cases e),λe=>?_⟩,λx' m' ex em=>?_⟩
 all_goals grind
def adR {most:Int}{n:fV}(s:Sep F W w (EA r.p (ae most) r.bX.p (.pointer none)::gP r.bX n::L))(hm:1<=most/\most<=65536)(ho:n.o=none):Sep F W w (gX r ⟨most,n,none⟩::L):=
 dW s ⟨hm,⟨λ_=>ho,λ_=>rfl⟩,λx' m' ex em=>by cases ex⟩
def RY {Q:Option Addr->World->Prop}{k most:Int}(hk:1<=k/\k<=100000)(hm:1<=most/\most<=65536)(s:Sep F W w L)
  (h:∀r y w',y.p=⟨most,⟨k,⟨[],[],0,0,0,0⟩,none,⟨0,0,0,0,0,0⟩⟩,none⟩->Sep F W w' (gX r y::L)->Q (sZ r.p) w'):Dl k most w Q:=by
 apply aef;rw[bp,bp,bp];refine aeK hk s λnr x w ex s=>?_;refine aS s λp w s=>?_;refine h ⟨p,nr,⟨0,⟨0,0,none,0,0,[],[]⟩,⟨0,none,0,0,0⟩⟩⟩ ⟨most,⟨k,x,none,⟨0,0,0,0,0,0⟩⟩,none⟩ w ?_ (adR s hm rfl);unfold AN.p fV.p;grind
end
abbrev K0 (c:Int):Value:=.iface 108 (ae c)
def FR (lg:yK)(e:Value)(c:Int):Prop:=(c=0/\e=.nilIface)\/(c≠0/\e=K0 c)\/(c=5/\e=r9 lg.a0)
def aaS {lg:yK}{e:Value}{c:Int}{K:Value->Prop}(h:FR lg e c)(k:K e):dV e K:=by rcases h with⟨_,rfl⟩|⟨_,rfl⟩|⟨_,rfl⟩<;>exact k
def ahm {lg:yK}{w:World}{c:Int}{Q:Value->World->Prop}(h:∀e,FR lg e c->Q e w):fT c w Q:=by
 apply DQ;by_cases e:c=0
 ·rw[dK e,cond_true];exact h _ (.inl ⟨e,rfl⟩)
 ·rw[cJ e,cond_false];exact h _ (.inr (.inl ⟨e,rfl⟩))
def qF {lg:yK}{c:Int}(h:c≠0):FR lg (K0 c) c:=.inr (.inl ⟨h,rfl⟩)
section
variable {W w w0:World}{L:List As}{lg:yK}{r:Gd}{y:AN}{x:Gb}{m:kj}{ob:Nat}{kind c:Int}{e:Value}
def azo:zc T 108=[ae 0]:=rfl
def akx {Q:Int->World->Prop}(hL:iF W lg)(he:FR lg e c)(hc:c≠0)(s:Sep No W w (av ob 80 [ae kind,e]::L))(h:∀w',Sep No W w' (av ob 80 [ae kind,e]::L)->Q c w'):
  BV (.iface 78 (.pointer (sZ ob))) w Q:=by
 apply abO;refine aY s λrb w s=>?_;have k:=hL.fr (au s);apply lZ k.v0 rfl;have hv:=kK s (i:=1) rfl 1 _ rfl;rcases he with⟨h0,_⟩|⟨_,rfl⟩|⟨h5,rfl⟩
 ·grind
 ·apply Rc (.inl rfl) (.inr rfl) hv (λx y K hk=>asN (by decide) hk);refine KQ s (λw' s'=>kK s' (i:=0) rfl 1 _ rfl) (λw' s'=>(hL.fr (au s')).v1) λw s=>?_;exact lI s 0 rfl (h w (ai s))
 ·apply Rc (.inl rfl) (.inl rfl) hv (λx y K hk=>U6 hk);rw[cond_true,<-h5];exact h w (ai s)
def aky {Q:Value->World->Prop}{a:Option Addr}{n c:Nat}{bs:List Int}(hL:iF W lg)(hB:∀w',Sep No W w' L->Sl w' a n c 1 bA bs)(hn:n<=1000000000)(hr:gu bs)(hh:FM bs)(ni:∀mp,kJ bs=some mp->mp.w*mp.h<=1600)(WT:yZ y.p.bX<1000000000)
  (s:Sep No W w (gX r y::L))(hno:kJ bs=none->∀w',Sep No W w' (gX r y::L)->Q (K0 6) w')
  (hyes:∀mp,kJ bs=some mp->∀r' y' w',r'.p=r.p->y'.p=⟨y.most,ldP y.p.bX mp,some ⟨y.most,0,[]⟩⟩->Sep No W w' (gX r' y'::L)->Q .nilIface w'):
  wQ (sZ r.p) a n c w Q:=by
 apply MR;have ok:=(Jq s).1;have hBw:=hB w (ai s);refine aaR (hL.fr (au s)) hBw hn hr hh s (λhg co w To s _=>?_) λmp hg ma mn mc w s _=>?_
 ·refine aY s λmb w s=>?_;refine sT s 0 rfl λw s=>?_;refine sT s 0 rfl λw s=>?_;refine sT s 0 rfl λw s=>?_;rw[Fe (by omega),cond_true];exact hno hg w (ai s)
 ·have hmay:=adk (λx hx=>hr x hx) hg;refine aY s λmb w s=>?_;refine sT s 0 rfl λw s=>?_;refine sT s 0 rfl λw s=>?_;refine az s (i:=0) rfl rfl rfl λw s=>?_;rw[wv rfl,cond_false];have s:=ax s;obtain⟨_,so⟩:=Jq (pk 3 [2,0,1] s);have so:=so;have s:Sep No W _ (gP r.bX y.bX::ahj r y::av mb 25 [ae mp.w,ae mp.h,.slice ma mn mc]::aj ma mn mc 5 1 (flat bA mp.cs)::L):=
   cE (gH so (.cons_cons _ (.cons_cons _ (List.sublist_append_right _ _)))) (List.Perm.swap _ _ _)
  refine ah (lP s 1 rfl ?_);refine lI s 2 rfl (lI s 2 rfl (lS s 2 rfl ?_));refine acy hmay hmay.bytes (ni mp hg) (λw' s'=>aL s' (i:=2) rfl cY (by decide)) (by rw[y.bX.akv];exact WT) s λnr x' w er ex s=>?_;have s:=ax s;refine lI s 2 rfl (lI s 2 rfl (ah (lI s 1 rfl ?_)));refine aaK ⟨hmay.w,hmay.h⟩ ok.most s λcr ws w s=>?_;refine ah (az s (i:=2) rfl rfl rfl λw s=>?_);refine ahm (lg:=lg) λe he=>?_;have he:e=.nilIface:=by
   rcases he with⟨_,h⟩|⟨h,_⟩|⟨h,_⟩
   all_goals grind
  subst he;have s:=fQ (A:=[_,_,_,_,_]) (B:=[EA r.p (ae y.most) nr.p (.pointer (sZ cr.p)),_,_]) [2,1,0] s (by rw[er];rfl) (by decide);refine hyes mp hg ⟨r.p,nr,cr⟩ ⟨y.most,_,some ⟨mp.w,mp.h,⟨y.most,0,[]⟩,ws⟩⟩ w rfl ?_ (y6 s ok.most rfl ⟨rfl,rfl,rfl⟩);show iO.mk _ _ _=iO.mk _ _ _;rw[y.bX.at3 ex];rfl
def GS {x':Gb}{cr:CrR}(ok:ahk y)(hx:x.w=m.g.m.w/\x.h=m.g.m.h/\x.y.most=y.most)(uK:y.cr=some x)(ho:y.bX.o=some m)(hx':x'.w=x.w/\x'.h=x.h/\x'.y.most=x.y.most)(ec:cr.p=r.cr.p)(s:Sep No W w (fL cr x'::EA r.p (ae y.most) r.bX.p (.pointer (sZ r.cr.p))::gP r.bX y.bX::L)):
  Sep No W w (gX ⟨r.p,r.bX,cr⟩ ⟨y.most,y.bX,some x'⟩::L):=by
 have s:=fQ (A:=[_,_,_]) (B:=[EA r.p (ae y.most) r.bX.p (.pointer (sZ cr.p)),_,_]) [1,2,0] s (by rw[ec];rfl) (by decide);exact y6 s ok.most ho ⟨hx'.1.trans hx.1,hx'.2.1.trans hx.2.1,hx'.2.2.trans hx.2.2⟩
end
def Jr {w:World}{Q:Value->World->Prop}(h:Q .nilIface w):fT 0 w Q:=DQ _ _ _ h
def Js {w:World}{c:Int}{Q:Value->World->Prop}(hc:c≠0)(h:Q (K0 c) w):fT c w Q:=by apply DQ;grind
def ae0 {m:bN}(hm:c7 m){c:Int}:cH m c=0↔¬bC m.w m.h c:=by
 constructor
 ·intro h hc;have:=Kn hm hc;omega
 ·intro h;rw[cH,if_neg λe=>h ⟨⟨hm.w,hm.h⟩,e.1,by rw[<-hm.len];exact e.2⟩]
abbrev K1 (d dir id:Int)(ma:Option Addr)(mn mc:Nat)(ga:Option Addr)(gn gc:Nat):List Value:=[ae 0,ae d,ae dir,ae id,.slice ma mn mc,.slice ga gn gc,.int .u64 0,.int .u64 0,.int .u64 0,.int .u64 0,.int .u64 0,.int .u64 0]
abbrev DoK (lg:yK)(W:World)(rp:Nat)(ab:Nat)(L:List As)(Q:Value->World->Prop)(q:iO×YX):Prop:=
 ∀r' y' e ma mn mc ga gn gc w',r'.p=rp->y'.p=q.1->FR lg e q.2.code->Sep No W w' (aj ma mn mc 51 2 (flat kY q.2.FP)::aj ga gn gc 3 1 (flat one q.2.gone)::gX r' y'::av ab 34 (K1 q.2.d q.2.dir q.2.id ma mn mc ga gn gc)::L)->Q e w'
section
variable {W w w0:World}{L:List As}{lg:yK}{r:Gd}{y:AN}{x:Gb}{m:kj}{ab:Nat}{A B k:Int}{e:Value}{a:Option Addr}{n c:Nat}
def Vn {Q:Value->World->Prop}{q:iO×YX}{r':Gd}{y':AN}(h:DoK lg W r.p ab L Q q)(er:r'.p=r.p)(ey:y'.p=q.1)(he:FR lg e q.2.code)(hm:q.2.FP=[])(hg:q.2.gone=[])(s:Sep No W w (gX r' y'::av ab 34 (K1 q.2.d q.2.dir q.2.id none 0 0 none 0 0)::L)):Q e w:=by have s:=bE (bE s 3 1) 51 2;apply h r' y' e none 0 0 none 0 0 w er ey he;rw[hm,hg];exact s
def ahn {Q:Value->World->Prop}{ob:Nat}{v0 v2 v3:Value}(ho:y.bX.o=some m)(uK:y.cr=some x)(s:Sep No W w (av ob 38 [v0,ae A,v2,v3]::gX r y::L))(h7:¬bC m.g.m.w m.g.m.h A->∀w',Sep No W w' (gX r y::L)->Q (K0 7) w')(h0:bC m.g.m.w m.g.m.h A->∀w',Sep No W w' (gX r y::L)->Q .nilIface w'):
  rF Q (sZ r.p) (aZ ob) w:=by
 have s:=ax s;obtain⟨ok,_,so⟩:=uL (ai s) uK;refine ah (lP so 0 rfl (lI s 0 rfl ?_));have kn:=r8 (ai so) ho;have hmay:=(kn.ok.m m ho).g.may;apply GR kn;by_cases hc:bC m.g.m.w m.g.m.h A
 ·rw[cJ (λe=>(ae0 hmay).1 e hc),cond_false];exact h0 hc _ (ai s)
 ·rw[dK ((ae0 hmay).2 hc),cond_true];exact h7 hc _ (ai s)
def ah6 {Q:Value->World->Prop}(hx:k=2\/k=3->∃x m,y.cr=some x/\y.bX.o=some m)(s:Sep No W w (gX r y::L))
  (h7:∀m,y.bX.o=some m->(k=2/\¬bC m.g.m.w m.g.m.h A)\/(k=3/\¬(bC m.g.m.w m.g.m.h A/\bC m.g.m.w m.g.m.h B))->∀w',Sep No W w' (gX r y::L)->Q (K0 7) w')
  (h0:(∀m,y.bX.o=some m->(k=2->bC m.g.m.w m.g.m.h A)/\(k=3->bC m.g.m.w m.g.m.h A/\bC m.g.m.w m.g.m.h B))->∀w',Sep No W w' (gX r y::L)->Q .nilIface w'):
  vo (sZ r.p) k A B a n c w Q:=by
 apply La;refine aS s λob w s=>?_;apply lI s 0 rfl;by_cases k3:k=3
 ·rw[dK k3,cond_true];obtain⟨x,m,uK,ho⟩:=hx (.inr k3);have s:=ax s;obtain⟨ok,_,so⟩:=uL (ai s) uK;refine ah (lP so 0 rfl (lI s 0 rfl ?_));have kn:=r8 (ai so) ho;have hmay:=(kn.ok.m m ho).g.may;apply GR kn;by_cases hc:bC m.g.m.w m.g.m.h B
  ·rw[cJ (λe=>(ae0 hmay).1 e hc),cond_false];refine ahn ho uK s (λhA w s=>h7 m ho (.inr ⟨k3,λe=>hA e.1⟩) w s) λhA w s=>h0 (λm' hm'=>?_) w s;grind
  ·rw[dK ((ae0 hmay).2 hc),cond_true];exact h7 m ho (.inr ⟨k3,λe=>hc e.2⟩) _ (ai s)
 rw[cJ k3,cond_false];by_cases k2:k=2
 ·rw[dK k2,cond_true];obtain⟨x,m,uK,ho⟩:=hx (.inl k2);refine ahn ho uK s (λhA w s=>h7 m ho (.inl ⟨k2,hA⟩) w s) λhA w s=>h0 (λm' hm'=>?_) w s;grind
 ·rw[cJ k2,cond_false];exact h0 (λm' _=>⟨λe=>(k2 e).elim,λe=>(k3 e).elim⟩) _ (ai s)
def akz {Q:Value->World->Prop}(uK:y.cr=some x)(ho:y.bX.o=some m)(hA:bC m.g.m.w m.g.m.h A)(WT:yZ y.p.bX<1000000000)(s:Sep No W w (gX r y::L))
  (h8:B<1\/255<B->∀w',Sep No W w' (gX r y::L)->Q (K0 8) w')(h10:1<=B/\B<=255->B=255/\tQ x.y.us A≠-1->∀w',Sep No W w' (gX r y::L)->Q (K0 10) w')
  (h0:1<=B/\B<=255->¬(B=255/\tQ x.y.us A≠-1)->∀r' y' w',r'.p=r.p->y'.p=⟨y.most,edP y.p.bX A B,some x.y⟩->Sep No W w' (gX r' y'::L)->Q .nilIface w'):wR (sZ r.p) A B w Q:=by
 apply MS;by_cases b1:B<1
 ·grind
 rw[bp b1];by_cases b2:B>255
 ·grind
 rw[bp b2];have hB:1<=B/\B<=255:=by omega
 obtain⟨ok,⟨m',ho',hx⟩,so⟩:=uL s uK;rw[ho]at ho';cases ho';have agq:m.g.ep<1000000000:=by have e:=y.bX.akv;rw[ho]at e;have e:m.g.ep=yZ y.p.bX:=e;omega
 have b5:¬(B=255/\tQ x.y.us A≠-1)->tD Q (sZ r.p) A B w:=λhn=>by refine ah (lP so 0 rfl ?_);refine acw ho agq (jm so) (λe=>(e hA).elim) (λ_ e=>(e hB).elim) λ_ _ w s=>?_;apply Jr;refine h0 hB hn r ⟨y.most,⟨y.bX.k,y.bX.x,some ⟨wF m.g A B,m.ms,m.f⟩,y.bX.past⟩,some x⟩ w rfl ?_ (y6 (pk 3 [1,0,2] s) ok.most rfl hx);show iO.mk _ _ _=iO.mk _ _ _;rw[y.bX.at5 ho];rfl
 by_cases awa:B=255
 ·rw[dK awa,cond_true];refine ah (lP so 0 rfl ?_);have hAx:bC x.w x.h A:=by grind
  have hc:=(qE (ai (ai so))).1;apply aaM hAx (ai (ai so));rcases aq4 hc.may (c:=A)with h1|h1
  all_goals grind
 grind
def ah7 {Q:Int->Value->World->Prop}(uK:y.cr=some x)(ho:y.bX.o=some m)(Pq:x.y.next<1000000000)(s:Sep No W w (gX r y::L))
  (h9:cH m.g.m A=255->∀w',Sep No W w' (gX r y::L)->Q (-1) (K0 9) w')
  (FH:cH m.g.m A≠255->ow m.g.m.w m.g.m.h x.y A B≠0->∀w',Sep No W w' (gX r y::L)->Q (-1) (K0 (ow m.g.m.w m.g.m.h x.y A B)) w')
  (h0:cH m.g.m A≠255->ow m.g.m.w m.g.m.h x.y A B=0->∀r' y' w',r'.p=r.p->y'.p=⟨y.most,y.p.bX,some (KT x.y A B)⟩->Sep No W w' (gX r' y'::L)->Q x.y.next .nilIface w'):vp (sZ r.p) A B w Q:=by
 apply Le;obtain⟨ok,⟨m',ho',hx⟩,so⟩:=uL s uK;rw[ho]at ho';cases ho';refine ah (lP so 0 rfl ?_);apply GR (r8 (ai so) ho);by_cases ao7:cH m.g.m A=255
 ·grind
 rw[cJ ao7,cond_false];refine ah (lP so 0 rfl ?_);rw[<-hx.1,<-hx.2.1]at FH h0;refine WC Pq (pk 3 [2,0,1] so) (λhne w s=>?_) λhz cr ws w ec s=>?_
 ·apply Js hne;apply FH ao7 hne w;have s:=GS ok hx uK ho ⟨rfl,rfl,rfl⟩ rfl s;have e:(⟨y.most,y.bX,some x⟩:AN)=y:=by rw[<-uK]
  simp_all
 ·apply Jr;exact h0 ao7 hz ⟨r.p,r.bX,cr⟩ ⟨y.most,y.bX,some ⟨x.w,x.h,KT x.y A B,ws⟩⟩ w rfl rfl (GS (x':=⟨x.w,x.h,KT x.y A B,ws⟩) ok hx uK ho ⟨rfl,rfl,rfl⟩ ec s)
def ah8 {Q:Value->World->Prop}(hL:iF W lg)(uK:y.cr=some x)(ho:y.bX.o=some m)(Mu:(Lit.int .i64 A).wf=true)(s:Sep No W w (gX r y::av ab 34 (K1 0 5 (-1) none 0 0 none 0 0)::L))
  (FH:¬(bC m.g.m.w m.g.m.h A/\bC m.g.m.w m.g.m.h B)->∀w',Sep No W w' (gX r y::av ab 34 (K1 0 5 (-1) none 0 0 none 0 0)::L)->Q (K0 7) w')
  (h0:bC m.g.m.w m.g.m.h A->bC m.g.m.w m.g.m.h B->∀r' y' w',r'.p=r.p->y'.p=⟨y.most,yN y.p.bX A (cO m.g.m B),some x.y⟩->Sep No W w' (gX r' y'::av ab 34 (K1 (D m.g.m A B) (o8 m.g.m A B) (-1) none 0 0 none 0 0)::L)->Q .nilIface w'):vq (sZ r.p) (sZ ab) A B w Q:=by
 apply Lv;obtain⟨ok,⟨m',ho',hx⟩,so⟩:=uL s uK;rw[ho]at ho';cases ho';refine ah (lP so 0 rfl ?_);refine acB ho hL (jm so) Mu (λhn w s=>?_) λht hc nr ny w er ey s=>?_
 ·apply Js (by decide);have s:=y6 (pk 3 [1,0,2] s) ok.most ho hx;have e:(⟨y.most,y.bX,some x⟩:AN)=y:=by rw[<-uK]
  rw[e]at s;exact FH hn w s
 ·rw[dK rfl,cond_true];refine ah (sT s 3 rfl λw s=>ah (az s (i:=3) rfl rfl rfl λw s=>?_));apply Jr;obtain⟨m2,ho2,em2⟩:=Ro (by rw[ey];rfl);have eg2:m2.g=m.g:=congrArg zH.g em2;have s:=fQ (A:=[_,_,_,_]) (B:=[EA r.p (ae y.most) nr.p (.pointer (sZ r.cr.p)),gP nr ny,fL r.cr x,_]) [1,0,2,3] s (by rw[er];rfl) (by decide);refine h0 ht hc ⟨r.p,nr,r.cr⟩ ⟨y.most,ny,some x⟩ w rfl ?_ (y6 s ok.most ho2 (by grind));show iO.mk _ _ _=iO.mk _ _ _;rw[ey,field_eq ho];rfl
end
def ao8 {m:bN}(hm:c7 m){t x:Int}:0<=o8 m t x/\o8 m t x<=5:=by
 by_cases hD:D m t x<bW
 ·by_cases hx:x=t
  ·unfold o8;omega
  ·have:=(aiy hm hD hx).1;omega
 ·unfold o8;omega
section
variable {W w w0:World}{L:List As}{lg:yK}{r:Gd}{y:AN}{x:Gb}{m:kj}{ab:Nat}{A B k:Int}{e:Value}{a:Option Addr}{n c:Nat}
def akA {Q:Value->World->Prop}(hL:iF W lg)(uK:y.cr=some x)(ho:y.bX.o=some m)(s:Sep No W w (gX r y::av ab 34 (K1 0 5 (-1) none 0 0 none 0 0)::L))
  (h:∀r' y' ma mn mc ga gn gc w',r'.p=r.p->y'.p=⟨y.most,FN y.p.bX (l6 m.g.m.w m.g.m.h x.y.us),some (He m.g.m.w m.g.m.h x.y (nA m.g.m x.y.us))⟩->
   Sep No W w' (aj ma mn mc 51 2 (flat kY (cK m.g.m.w m.g.m.h [] (x.y.us.zip (nA m.g.m x.y.us))).2.1)::aj ga gn gc 3 1 (flat one (cK m.g.m.w m.g.m.h [] (x.y.us.zip (nA m.g.m x.y.us))).2.2)::gX r' y'::av ab 34 (K1 0 5 (-1) ma mn mc ga gn gc)::L)->Q .nilIface w'):
  wS (sZ r.p) (sZ ab) w Q:=by
 apply M_;obtain⟨ok,⟨m',ho',hx⟩,s⟩:=uL s uK;rw[ho]at ho';cases ho';obtain⟨cok,cs⟩:=qE (ai (ai s));have CW:=(tZ (ai cs)).1;have ni:=CW.nh;have VM:=CW.most;have Pq:=CW.Pb;have ap3:=cok.may;rw[hx.1,hx.2.1]at ap3;have hmay:=((r8 (ai s) ho).ok.m m ho).g.may;have FQ:∀u∈x.y.us,g_ u.id:=λu hu=>by have:=CW.jP u hu;unfold g_;omega
 refine ah (lP s 0 rfl ?_);refine CX (pk 4 [2,0,1,3] s) λua un uc w s=>?_;have hun:=(aL s (i:=0) rfl BG (by decide)).len;have s:=pk 5 [3,2,0,1,4] s;refine acJ hL ho ap3 FQ (by omega) (λw' s'=>aL s' (i:=0) rfl BG (by decide)) s λnr ny da dn dc w er ey s=>?_;apply KY;refine ah (lP s 2 rfl ?_);have s:=pk 6 [4,0,1,2,5] s;refine YS (λw' s'=>aL s' (i:=0) rfl cj (by decide)) (by unfold nA;grind) (λd hd=>?_) s λcr ws ma mn mc ga gn gc w ec s=>?_
 ·obtain⟨u,_,rfl⟩:=List.mem_map.1 hd;exact ao8 hmay
 ·refine ah (sT s 6 rfl λw s=>ah (az s (i:=6) rfl rfl rfl λw s=>?_));apply Jr;obtain⟨m2,ho2,em2⟩:∃m2,ny.o=some m2/\m2.g=m.g:=by obtain⟨RW,h1,h2⟩:=FO (l6 m.g.m.w m.g.m.h x.y.us) (KZ ho);rw[<-ey]at h1;obtain⟨m2,ho2,e2⟩:=Ro h1;refine⟨m2,ho2,?_⟩;have:=congrArg zH.g e2;exact this.trans h2
  rw[hx.1,hx.2.1]at s;have s:=fQ (A:=[_,_,_,_,_,_,_]) (B:=[EA r.p (ae y.most) nr.p (.pointer (sZ cr.p)),gP nr ny,fL cr ⟨m.g.m.w,m.g.m.h,He m.g.m.w m.g.m.h x.y (nA m.g.m x.y.us),ws⟩,_,_,_]) [5,4,2,0,1,6] s (by rw[er,ec];rfl) (by decide);have s:=y6 (r:=⟨r.p,nr,cr⟩) s ok.most ho2 (by rw[em2];exact⟨rfl,rfl,hx.2.2⟩);refine h ⟨r.p,nr,cr⟩ ⟨y.most,ny,some ⟨m.g.m.w,m.g.m.h,He m.g.m.w m.g.m.h x.y (nA m.g.m x.y.us),ws⟩⟩ ma mn mc ga gn gc w rfl ?_ (pk 4 [1,2,0,3] s);show iO.mk _ _ _=iO.mk _ _ _;rw[ey];rfl
def arh {o:A1}(h:DD o=true)(hk:o.k≠0):(1<=o.k/\o.k<=8)/\(0<=o.A/\o.A<4294967296)/\(0<=o.B/\o.B<4294967296):=by
 unfold DD at h;rw[if_neg hk]at h;simp[Bool.and_eq_true]at h;obtain⟨h1,h2,h3,_⟩:=h;have h1:=of_decide_eq_true h1;have hA:=JC.1 h2;have hB:=JC.1 h3;have:=anM o.k;have pw:∀s:Nat,s<=4->(256:Int)^s<=4294967296:=λs hs=>by
  match s,hs with
  |0,_=>decide
  |1,_=>decide
  |2,_=>decide
  |3,_=>decide
  |4,_=>decide
 grind
def aho {o:A1}(uK:y.cr=some x)(ho:y.bX.o=some m)(ET:o.k≠0)(hm:DD o=true)(h1:o.k≠1)(h8:o.k≠8):iP y.p o=RX y.p m.g.m x.y o:=by
 have e1:y.p.bX.o=some m.p:=KZ ho;have e2:y.p.us=some x.y:=by show y.cr.map _=_;grind
 rw[iP,if_neg (by grind),if_neg h1,if_neg h8,e1,e2];rfl
def at7 {Q:Value->World->Prop}{o:A1}{ob:Nat}(hL:iF W lg)(ET:o.k≠0)(hmay:DD o=true)(hr:gu o.m)(hn:n<=1000000000)(hM:∀w',Sep No W w' L->Sl w' a n c 1 bA o.m)
  (aua:o.k=1->FM o.m/\∀mp,kJ o.m=some mp->mp.w*mp.h<=1600)(WT:yZ y.p.bX<1000000000)(Pq:∀u,y.p.us=some u->u.next<1000000000)(uK:o.k≠1->o.k≠8->y.cr≠none)
  (s:Sep No W w (av ob 38 [ae o.k,ae o.A,ae o.B,.slice a n c]::gX r y::av ab 34 (K1 0 5 (-1) none 0 0 none 0 0)::L))(h:DoK lg W r.p ab L Q (iP y.p o)):
  oe Q (sZ r.p) (sZ ab) (aZ ob) w:=by
 obtain⟨hk,hA,hB⟩:=arh hmay ET;have ao9:g_ o.A:=by unfold g_;omega
 have akB:o.k≠1->o.k≠8->∃x m,y.cr=some x/\y.bX.o=some m:=λh1 h8=>by
  have hne:=uK h1 h8;cases hc:y.cr with
  |none=>exact(hne hc).elim
  |some x=>
   obtain⟨_,⟨m,hm,_⟩,_⟩:=uL (ai s) hc;exact⟨x,m,rfl,hm⟩
 refine lI s 0 rfl (lI s 0 rfl (lI s 0 rfl (lS s 0 rfl ?_)));have s:=jm s;have b25:∀{e:Value} {cd:Int} {w:World},FR lg e cd->Q e w->fe Q e w:=λhe hq=>by exact aaS he hq
 have e0:FR lg .nilIface 0:=.inl ⟨rfl,rfl⟩;have fin:∀{q:iO×YX} {r':Gd} {y':AN} {e:Value} {w:World},iP y.p o=q->r'.p=r.p->y'.p=q.1->FR lg e q.2.code->q.2.FP=[]->q.2.gone=[]->Sep No W w (gX r' y'::av ob 38 [ae o.k,ae o.A,ae o.B,.slice a n c]::av ab 34 (K1 q.2.d q.2.dir q.2.id none 0 0 none 0 0)::L)->fe Q e w:=λ{q r' y' e w} eq er ey he hm hg s=>by subst eq;exact b25 he (Vn h er ey he hm hg (gH s (.cons_cons _ (List.sublist_cons_self _ _))))
 refine ah6 (λhk=>akB (by omega) (by omega)) s (λm ho hb w s=>?_) λhc w s=>?_
 ·refine Pu (aaS (lg:=lg) (qF (by decide)) ?_);obtain⟨x,m',hx,hm'⟩:=akB (by omega) (by omega);rw[ho]at hm';cases hm';have e:iP y.p o=(y.p,oF 7):=by
   rw[aho hx ho ET hmay (by omega) (by omega)];unfold RX;rcases hb with⟨k2,hA⟩|⟨k3,hAB⟩
   ·rw[if_pos k2,if_pos hA]
   ·rw[ru,if_pos k3,if_pos hAB]
  rw[e]at h;exact Vn h rfl rfl (qF (by decide)) rfl rfl (gH s (.cons_cons _ (List.sublist_cons_self _ _)))
 apply KY;apply lI s 1 rfl;by_cases k1:o.k=1
 ·rw[dK k1,cond_true];obtain⟨hh,ni⟩:=aua k1;apply lS s 1 rfl;have eq:∀q,(match kJ o.m with|none=>(y.p,oF 6)|some mp=>(⟨y.p.most,ldP y.p.bX mp,some ⟨y.p.most,0,[]⟩⟩,oF 0))=q->iP y.p o=q:=λq e=>by rw[iP,if_neg (by rw[hmay];simp[ET]),if_pos k1];exact e
  refine aky hL (λw' s'=>hM w' (ai (ai s'))) hn hr hh ni WT s (λhg w s=>?_) λmp hg r' y' w er ey s=>?_
  ·exact fin (q:=(y.p,oF 6)) (eq _ (by rw[hg])) rfl rfl (qF (by decide)) rfl rfl s
  ·exact fin (eq _ (by rw[hg])) er ey e0 rfl rfl s
 rw[cJ k1,cond_false];by_cases k8:o.k=8
 ·rw[dK k8,cond_true];have eq:iP y.p o=(⟨y.p.most,Pv y.p.bX,y.p.us⟩,oF 0):=by rw[iP,if_neg (by rw[hmay];simp[ET]),if_neg k1,if_pos k8]
  cases CC:y.cr with
  |none=>
   obtain⟨ok,hno,so⟩:=ahl s CC;refine ah (lP so 0 rfl ?_);refine aaB hno (jm so) λnr x' w er ex s=>?_;have s:=fQ (A:=[_,_]) (B:=[EA r.p (ae y.most) nr.p (.pointer none),_]) [1,0] s (by rw[er];rfl) (by decide);refine fin (r':=⟨r.p,nr,r.cr⟩) (y':=⟨y.most,⟨y.bX.k,x',none,y.bX.past⟩,none⟩) eq rfl ?_ e0 rfl rfl (adR s ok.most rfl);show iO.mk _ _ _=iO.mk _ _ _;rw[y.bX.ard hno ex];show iO.mk _ _ _=iO.mk _ _ (y.cr.map _);rw[CC];rfl
  |some x=>
   obtain⟨ok,⟨m,ho,hx⟩,so⟩:=uL s CC;refine ah (lP so 0 rfl ?_);refine aaA ho (jm so) λnr x' w er ex s=>?_;have s:=fQ (A:=[_,_,_]) (B:=[EA r.p (ae y.most) nr.p (.pointer (sZ r.cr.p)),_,_]) [1,0,2] s (by rw[er];rfl) (by decide);refine fin (r':=⟨r.p,nr,r.cr⟩) (y':=⟨y.most,⟨y.bX.k,x',some ⟨m.g,m.ms,⟨none,m.f.fH⟩⟩,y.bX.past⟩,some x⟩) eq rfl ?_ e0 rfl rfl (y6 s ok.most rfl hx);show iO.mk _ _ _=iO.mk _ _ _;rw[y.bX.at4 ho ex];show iO.mk _ _ _=iO.mk _ _ (y.cr.map _);rw[CC];rfl
 rw[cJ k8,cond_false];obtain⟨x,m,CC,ho⟩:=akB k1 k8;have kZ:=aho CC ho ET hmay k1 k8;have F9:y.p.us=some x.y:=by show y.cr.map _=_;rw[CC];rfl
 have Pq:=Pq x.y F9;unfold RX at kZ;by_cases k2:o.k=2
 ·rw[dK k2,cond_true];rw[if_pos k2]at kZ;have hAc:=(hc m ho).1 k2;rw[if_neg (λe=>e hAc)]at kZ;refine lI s 1 rfl (lI s 1 rfl ?_);refine akz CC ho hAc WT s (λhb w s=>?_) (λhb hw w s=>?_) λhb hw r' y' w er ey s=>?_
  ·rw[if_pos hb]at kZ;exact fin kZ rfl rfl (qF (by decide)) rfl rfl s
  ·rw[ru,if_pos hw]at kZ;exact fin kZ rfl rfl (qF (by decide)) rfl rfl s
  ·rw[ru,if_neg hw]at kZ;exact fin kZ er ey e0 rfl rfl s
 rw[cJ k2,cond_false];rw[if_neg k2]at kZ;by_cases k3:o.k=3
 ·rw[dK k3,cond_true];rw[if_pos k3]at kZ;have hAc:=(hc m ho).2 k3;rw[if_neg (λe=>e hAc)]at kZ;refine lI s 1 rfl (lI s 1 rfl ?_);refine ah7 CC ho Pq s (λh9 w s=>?_) (λh9 hb w s=>?_) λh9 hz r' y' w er ey s=>?_
  ·rw[if_pos h9]at kZ;refine ah (sT s 2 rfl λw s=>?_);exact fin kZ rfl rfl (qF (by decide)) rfl rfl s
  ·rw[if_neg h9,if_pos hb]at kZ;refine ah (sT s 2 rfl λw s=>?_);exact fin kZ rfl rfl (qF hb) rfl rfl s
  ·rw[if_neg h9,if_neg (λe=>e hz)]at kZ;refine ah (sT s 2 rfl λw s=>?_);exact fin kZ er ey e0 rfl rfl s
 rw[cJ k3,cond_false];rw[if_neg k3]at kZ;obtain⟨ok,⟨m',ho',hx⟩,so⟩:=uL s CC;rw[ho]at ho';cases ho';have same:∀{w:World} {L:List As},Sep No W w (fL r.cr x::EA r.p (ae y.most) r.bX.p (.pointer (sZ r.cr.p))::gP r.bX y.bX::L)->Sep No W w (gX r y::L):=λs=>by
  have s:=GS ok hx CC ho ⟨rfl,rfl,rfl⟩ rfl s;have e:(⟨y.most,y.bX,some x⟩:AN)=y:=by rw[<-CC]
  rw[e]at s;exact s
 by_cases k4:o.k=4
 ·rw[dK k4,cond_true];rw[if_pos k4]at kZ;have so:=ax so;refine ah (lP so 0 rfl (lI so 3 rfl (lI so 3 rfl ?_)));rw[<-hx.1,<-hx.2.1]at kZ;refine Ri ao9 (pk 3 [2,0,1] so) (λhg w s=>?_) (λu hu hg w s=>?_) (λu hu hg hcg cr ws w ec s=>?_) λu hu hg hcg cr ws w ec s=>?_
  ·rw[hg]at kZ;exact Js (by decide) (fin kZ rfl rfl (qF (by decide)) rfl rfl (same s))
  ·rw[hu]at kZ;simp only at kZ;rw[if_pos hg]at kZ;exact Js (by decide) (fin kZ rfl rfl (qF (by decide)) rfl rfl (same s))
  ·rw[hu]at kZ;simp only at kZ;rw[if_neg (λe=>e hg),if_pos hcg]at kZ;exact Js (by decide) (fin (r':=⟨r.p,r.bX,cr⟩) kZ rfl rfl (qF (by decide)) rfl rfl (GS (x':=⟨x.w,x.h,kI x.y o.A,ws⟩) ok hx CC ho ⟨rfl,rfl,rfl⟩ ec s))
  ·rw[hu]at kZ;simp only at kZ;rw[if_neg (λe=>e hg),if_neg hcg]at kZ;exact Jr (fin (r':=⟨r.p,r.bX,cr⟩) kZ rfl rfl e0 rfl rfl (GS (x':=⟨x.w,x.h,uZ x.y o.A λu=>⟨u.id,u.cell,o.B⟩,ws⟩) ok hx CC ho ⟨rfl,rfl,rfl⟩ ec s))
 rw[cJ k4,cond_false];rw[if_neg k4]at kZ;by_cases k5:o.k=5
 ·rw[dK k5,cond_true];rw[if_pos k5]at kZ;have so:=ax so;refine ah (lP so 0 rfl (lI so 3 rfl ?_));refine S7 ao9 (pk 3 [2,0,1] so) (λhg w s=>?_) λu hu cr ws w ec s=>?_
  ·rw[hg]at kZ;exact Js (by decide) (fin kZ rfl rfl (qF (by decide)) rfl rfl (same s))
  ·rw[hu]at kZ;exact Jr (fin (r':=⟨r.p,r.bX,cr⟩) kZ rfl rfl e0 rfl rfl (GS (x':=⟨x.w,x.h,kI x.y o.A,ws⟩) ok hx CC ho ⟨rfl,rfl,rfl⟩ ec s))
 rw[cJ k5,cond_false];rw[if_neg k5]at kZ;by_cases k6:o.k=6
 ·rw[dK k6,cond_true];rw[if_pos k6]at kZ;refine lI s 1 rfl (lI s 1 rfl ?_);have s:=pk 3 [0,2,1] s;refine ah8 hL CC ho ao9.wf s (λhn w s=>?_) λht hcB r' y' w er ey s=>?_
  ·rw[if_neg hn]at kZ;exact fin kZ rfl rfl (qF (by decide)) rfl rfl (pk 3 [0,2,1] s)
  ·rw[if_pos ⟨ht,hcB⟩]at kZ;exact fin kZ er ey e0 rfl rfl (pk 3 [0,2,1] s)
 rw[cJ k6,cond_false];rw[if_neg k6]at kZ;have k7:o.k=7:=by omega
 rw[dK k7,cond_true];have s:=pk 3 [0,2,1] s;refine akA hL CC ho s λr' y' ma mn mc ga gn gc w er ey s=>?_;rw[kZ]at h;exact b25 e0 (h r' y' _ ma mn mc ga gn gc w er ey e0 (pk 5 [0,1,2,3] s))
end
def azp:zc T 34=[ae 0,ae 0,ae 0,ae 0,.slice none 0 0,.slice none 0 0,.int .u64 0,.int .u64 0,.int .u64 0,.int .u64 0,.int .u64 0,.int .u64 0]:=rfl
structure acK (o:A1):Prop where
 jP:gu o.m
 len:o.m.length<=1100000
 load:o.k=1->FM o.m/\∀mp,kJ o.m=some mp->mp.w*mp.h<=1600
structure akC (q:iO):Prop where
 ep:yZ q.bX<1000000000
 nx:∀u,q.us=some u->u.next<1000000000
section
variable {W w w0:World}{L:List As}{lg:yK}{r:Gd}{y:AN}{x:Gb}{m:kj}{ab:Nat}{o:A1}{a:Option Addr}{n c:Nat}
def ahp {Q:Value->World->Prop}(hL:iF W lg)(ho:acK o)(hM:∀w',Sep No W w' L->Sl w' a n c 1 bA o.m)(vi:akC y.p)(s:Sep No W w (gX r y::av ab 34 (K1 0 5 (-1) none 0 0 none 0 0)::L))(h:DoK lg W r.p ab L Q (iP y.p o)):
  y9 (sZ r.p) o.k o.A o.B a n c (sZ ab) w Q:=by
 apply QH;have hMw:=hM w (ai (ai s));have hn:n<=1100000:=by have:=hMw.len;have:=ho.len;omega
 refine aS s λob w s=>?_;apply lI s 0 rfl;have e5:FR lg (r9 lg.a0) 5:=.inr (.inr ⟨rfl,rfl⟩);have v0:∀{w:World} {L:List As},Sep No W w L->w.cell? (aZ 0)=some (r9 lg.a0):=λs=>Fr.cell (au s) hL.v0 id;have akD:∀{w:World} {A B C:As} {L:List As},Sep No W w (A::B::C::L)->Sep No W w (B::C::L):=λs=>ai s;by_cases k0:o.k=0
 ·rw[dK k0,cond_true];have e:iP y.p o=(y.p,oF 5):=by unfold iP;grind
  rw[e]at h;exact lZ (v0 s) rfl (aaS e5 (Vn h rfl rfl e5 rfl rfl (akD s)))
 rw[cJ k0,cond_false];refine lI s 0 rfl (lI s 0 rfl (lI s 0 rfl (lS s 0 rfl ?_)));refine O.af6 s (hM w (ai (ai (ai s)))) ho.jP (by omega) λw s _=>?_;cases hm:DD o with
 |false=>
  have e:iP y.p o=(y.p,oF 5):=by unfold iP;grind
  rw[e]at h;exact lZ (v0 s) rfl (aaS e5 (Vn h rfl rfl e5 rfl rfl (akD s)))
 |true=>
  rw[Bool.not_true,cond_false];have b5:(o.k≠1->o.k≠8->y.cr≠none)->oe Q (sZ r.p) (sZ ab) (aZ ob) w:=λuK=>
   at7 hL k0 hm ho.jP (by omega) hM ho.load vi.ep vi.nx uK s h
  cases CC:y.cr with
  |none=>
   obtain⟨ok,hno,so⟩:=ahl (ai s) CC;refine ah (lP so 0 rfl ?_);show cond true _ _;apply lI s 0 rfl;by_cases k1:o.k=1
   ·grind
   ·rw[Fe k1,cond_true];apply lI s 0 rfl;by_cases k8:o.k=8
    ·grind
    ·rw[Fe k8,cond_true];have e:iP y.p o=(y.p,oF 4):=by
      have e1:y.p.us=none:=by show y.cr.map _=none;rw[CC];rfl
      unfold iP;grind
     rw[e]at h;exact Vn h rfl rfl (qF (by decide)) rfl rfl (akD s)
  |some x=>
   obtain⟨ok,_,so⟩:=uL (ai s) CC;refine ah (lP so 0 rfl ?_);show cond false _ _;exact b5 λ_ _ e=>by rw[CC]at e;cases e
def aaT {Q:Int->Int->Int->Int->Int->Int->World->Prop}(s:Sep No W w (gX r y::L))(h:∀w',Sep No W w' (gX r y::L)->Q (pX y.p.bX).a (pX y.p.bX).b (pX y.p.bX).c (pX y.p.bX).d (pX y.p.bX).e (pX y.p.bX).f w'):vm (sZ r.p) w Q:=by apply K_;refine aY s λp w s=>?_;obtain⟨ok,so⟩:=Jq (ai s);apply N0;refine l9 (ah (lP so 0 rfl ?_));obtain⟨_,so⟩:=Jq (jm s);have so:=jm so;refine aaC so λw s=>?_;have s:=jm s;have s:Sep No W w (gX r y::av p 32 _::L):=dW s ok;rw[y.bX.all_eq];exact agN (jm s) λw s=>h w (ai s)
def MB {Q:Option Addr->Nat->Nat->World->Prop}(uK:y.cr=some x)(s:Sep No W w (gX r y::L))(h:∀a n c w',Sep No W w' (aj a n c 43 3 (flat gW x.y.us)::gX r y::L)->Q a n c w'):pP (sZ r.p) w Q:=by
 apply LC;obtain⟨ok,⟨m,ho,hx⟩,so⟩:=uL s uK;apply OS;refine l9 (ah (lP so 0 rfl ?_));refine CX (pk 3 [2,0,1] so) λa n c w s=>?_;have s:=y6 (pk 4 [2,3,1,0] s) ok.most ho hx;have e:(⟨y.most,y.bX,some x⟩:AN)=y:=by rw[<-uK]
 rw[e]at s;exact h a n c w (jm s)
end
abbrev Vo (code d dir id:Int)(ma:Option Addr)(mn mc:Nat)(ga:Option Addr)(gn gc:Nat)(q:Ex):List Value:=[ae code,ae d,ae dir,ae id,.slice ma mn mc,.slice ga gn gc]++acv q
section
variable {W w w0:World}{L:List As}{lg:yK}{r:Gd}{y:AN}{x:Gb}{m:kj}{ab pb:Nat}{o:A1}{a:Option Addr}{n c:Nat}
def aub {Q:Int->Int->Int->Int->Option Addr->Nat->Nat->Option Addr->Nat->Nat->Int->Int->Int->Int->Int->Int->World->Prop}{code d dir id:Int}{ma ga:Option Addr}{mn mc gn gc:Nat}
  (s:Sep No W w (gX r y::av ab 34 (Vo code d dir id ma mn mc ga gn gc ⟨0,0,0,0,0,0⟩)::av pb 34 (Vo 0 0 0 0 none 0 0 none 0 0 ⟨0,0,0,0,0,0⟩)::L))
  (h:∀w',Sep No W w' (gX r y::L)->Q code d dir id ma mn mc ga gn gc (pX y.p.bX).a (pX y.p.bX).b (pX y.p.bX).c (pX y.p.bX).d (pX y.p.bX).e (pX y.p.bX).f w'):
  og Q (sZ r.p) (aZ pb) (aZ ab) w:=by
 refine aaT s λw s=>?_;generalize pX y.p.bX=q at h⊢
 iterate 6 refine sT s 1 rfl λw s=>?_
 simp[List.set_cons_zero,List.set_cons_succ,Vo,acv,List.cons_append,List.nil_append]at s;refine lI s 1 rfl (lI s 1 rfl (lI s 1 rfl (lI s 1 rfl (lS s 1 rfl (lS s 1 rfl ?_)))));refine lI s 1 rfl (lI s 1 rfl (lI s 1 rfl (lI s 1 rfl (lI s 1 rfl (lI s 1 rfl ?_)))))
 iterate 12 refine az s (i:=2) rfl rfl rfl λw s=>?_
 simp[List.set_cons_zero,List.set_cons_succ]at s;refine lI s 2 rfl (lI s 2 rfl (lI s 2 rfl (lI s 2 rfl (lS s 2 rfl (lS s 2 rfl ?_)))));refine lI s 2 rfl (lI s 2 rfl (lI s 2 rfl (lI s 2 rfl (lI s 2 rfl (lI s 2 rfl ?_)))));exact h w (gH s (.cons_cons _ (.cons _ (.cons _ (List.Sublist.refl _)))))
def FT {Q:Int->Int->Int->Int->Option Addr->Nat->Nat->Option Addr->Nat->Nat->Int->Int->Int->Int->Int->Int->World->Prop}(hL:iF W lg)(ho:acK o)(hM:∀w',Sep No W w' L->Sl w' a n c 1 bA o.m)(vi:akC y.p)(s:Sep No W w (gX r y::L))
  (h:∀r' y' ma mn mc ga gn gc w',r'.p=r.p->y'.p=(iP y.p o).1->Sep No W w' (aj ma mn mc 51 2 (flat kY (iP y.p o).2.FP)::aj ga gn gc 3 1 (flat one (iP y.p o).2.gone)::gX r' y'::L)->
   Q (iP y.p o).2.code (iP y.p o).2.d (iP y.p o).2.dir (iP y.p o).2.id ma mn mc ga gn gc (pX y'.p.bX).a (pX y'.p.bX).b (pX y'.p.bX).c (pX y'.p.bX).d (pX y'.p.bX).e (pX y'.p.bX).f w'):
  fA (sZ r.p) o.k o.A o.B a n c w Q:=by
 apply QI;refine aS s λob w s=>?_;refine aY s λpb w s=>?_;refine aY s λab w s=>?_
 iterate 12 refine az s (i:=0) rfl rfl rfl λw s=>?_
 apply l9;refine az s (i:=0) rfl rfl rfl λw s=>?_;simp[List.set_cons_zero,List.set_cons_succ]at s;refine lI s 2 rfl (lI s 2 rfl (lI s 2 rfl (lS s 2 rfl ?_)));have s:=pk 4 [3,0,1,2] s;refine ahp hL ho (λw' s'=>hM w' (ai (ai s'))) vi s λr' y' e ma mn mc ga gn gc w er ey he s=>?_;rw[<-er];have ap5:∀{w:World} {cd:Int},cd=(iP y.p o).2.code->Sep No W w (aj ma mn mc 51 2 (flat kY (iP y.p o).2.FP)::aj ga gn gc 3 1 (flat one (iP y.p o).2.gone)::gX r' y'::av ab 34 (Vo cd (iP y.p o).2.d (iP y.p o).2.dir (iP y.p o).2.id ma mn mc ga gn gc ⟨0,0,0,0,0,0⟩)::av pb 34 (Vo 0 0 0 0 none 0 0 none 0 0 ⟨0,0,0,0,0,0⟩)::L)->
   og Q (sZ r'.p) (aZ pb) (aZ ab) w:=λ{w cd} ec s=>by
  subst ec;have s:=pk 5 [2,3,4,0,1] s;refine aub s λw s=>?_;exact h r' y' ma mn mc ga gn gc w er ey (pk 3 [1,2,0] s)
 have tell:∀{e:Value},FR lg e (iP y.p o).2.code->(iP y.p o).2.code≠0->∀{w:World},Sep No W w (aj ma mn mc 51 2 (flat kY (iP y.p o).2.FP)::aj ga gn gc 3 1 (flat one (iP y.p o).2.gone)::gX r' y'::av ab 34 (K1 (iP y.p o).2.d (iP y.p o).2.dir (iP y.p o).2.id ma mn mc ga gn gc)::av pb 34 (Vo 0 0 0 0 none 0 0 none 0 0 ⟨0,0,0,0,0,0⟩)::av ob 38 [ae o.k,ae o.A,ae o.B,.slice a n c]::L)->
   af .i64 (aZ ob) w λk=>dV e λp=>Bx [ae k,p] 80 w λb w=>BV (.iface 78 (.pointer (some b))) w λr w=>St (aZ ab) (ae r) w λw=>og Q (sZ r'.p) (aZ pb) (aZ ab) w:=λ{e} he hne {w} s=>by
  refine lI s 5 rfl (aaS he ?_);refine aS s λb w s=>?_;refine akx hL he hne s λw s=>?_;refine az s (i:=4) rfl rfl rfl λw s=>?_;exact ap5 rfl (pk 7 [1,2,3,4,5] s)
 rcases he with⟨h0,rfl⟩|⟨hne,rfl⟩|⟨h5,rfl⟩
 ·apply KY;exact ap5 h0.symm (pk 6 [0,1,2,3,4] s)
 ·exact Pu (tell (.inr (.inl ⟨hne,rfl⟩)) hne s)
 ·exact Pu (tell (.inr (.inr ⟨h5,rfl⟩)) (by rw[h5];decide) s)
end
end Go.Proofs.YtmegplnmiepfbaaGreatDoor.S
namespace Go.Proofs.YtmegplnmiepfbaaGreatDoor.S.O
open Go.Sx
def ax7:zc T 84=[ae 0,ae 0,.slice none 0 0]:=rfl
attribute [local irreducible] af cq bq bf aB bY bT St Bx Al App cu cg b_ bR aK bw aq bP av aj aU mapA
def ai5 (a b:Int):EH a b=min a b:=by unfold EH;omega
section
variable {F:Nat->Prop}{W w w0:World}{L:List As}{a:Option Addr}{n c:Nat}{cs:List Int}
def akE {mw mh:Int}{Q:Bool->World->Prop}(hw:1<=mw/\mw<=1024)(hh:1<=mh/\mh<=1024)(h:Q true w):wT mw mh w Q:=by apply Na;apply Fh;rw[bJ hw];apply Fh;grind
def GU {mw mh:Int}{Q:Int->Int->World->Prop}(hw:1<=mw/\mw<=1024)(hh:1<=mh/\mh<=1024)(h:Q (cB mw) (cB mh) w):kz mw mh w Q:=by apply Iz;apply akE hw hh;refine⟨by decide,by decide,?_⟩;simp(disch:=omega) only[wrap_i64,Int.tdiv_eq_ediv_of_nonneg];rw[show mw+16-1=mw+15 by omega,show mh+16-1=mh+15 by omega];exact h
def K2 {mw mh:Int}{Q:Int->World->Prop}(hw:1<=mw/\mw<=1024)(hh:1<=mh/\mh<=1024)(h:Q (ej mw mh) w):oJ mw mh w Q:=by apply J8;apply GU hw hh;have:=gz hw hh;unfold ej at this h;rw[aF];exact h
def Xb {mw mh s:Int}{Q:Int->Int->World->Prop}(hw:1<=mw/\mw<=1024)(hh:1<=mh/\mh<=1024)(hs:0<=s/\s<ej mw mh)(h:∀w',Fr No w w'->Q (aD mw mh s) (bu mw mh s) w'):pQ mw mh s w Q:=by apply Lz;have hc:=gz hw hh;have hx:=Ht hw hh hs;have ha:=D7 hw;apply K2 hw hh;rw[aF];apply Fh;rw[decide_eq_true (by omega),Bool.not_true,cond_false];apply GU hw hh;refine⟨by omega,by omega,?_⟩;have:=h w.drew (Fr.refl);rw[Int.tmod_eq_emod_of_nonneg hs.1,Int.tdiv_eq_ediv_of_nonneg hs.1];simp(disch:=omega) only[wrap_i64];rw[ai5,ai5];exact this
def aeM {mw mh s l:Int}{Q:Int->World->Prop}(hw:1<=mw/\mw<=1024)(hh:1<=mh/\mh<=1024)(hs:0<=s/\s<ej mw mh)(hl:0<=l/\l<aD mw mh s*bu mw mh s)(h:∀w',Fr No w w'->Q (bS mw mh s l) w'):
  sW mw mh s l w Q:=by
 apply I8;have hx:=Ht hw hh hs;have ha:=D7 hw;have hz:=qp hw hh hs;have b:=Int.mul_le_mul hz.1.2 hz.2.2 (by omega) (by decide);refine Xb hw hh hs λw f=>?_;rw[aF (n:=aD mw mh s*bu mw mh s),aF];apply Fh;rw[decide_eq_true (by omega),Bool.not_true,cond_false];apply GU hw hh;refine⟨by omega,by omega,by omega,by omega,?_⟩;have:=h w.drew f;have e1:0<=l/aD mw mh s/\l/aD mw mh s<bu mw mh s:=⟨Int.ediv_nonneg hl.1 (by omega),Int.ediv_lt_of_lt_mul (by omega) (by grind)⟩;have e2:=Int.emod_nonneg l (b:=aD mw mh s) (by omega);have e3:=Int.emod_lt_of_pos l (b:=aD mw mh s) (by omega);rw[Int.tmod_eq_emod_of_nonneg hs.1,Int.tdiv_eq_ediv_of_nonneg hs.1,Int.tmod_eq_emod_of_nonneg hl.1,Int.tdiv_eq_ediv_of_nonneg hl.1];have y0:0<=16*(s/cB mw)+l/aD mw mh s/\16*(s/cB mw)+l/aD mw mh s<=1040:=by omega
 have m1:0<=(16*(s/cB mw)+l/aD mw mh s)*mw:=Int.mul_nonneg y0.1 (by omega);have m2:=Int.mul_le_mul y0.2 hw.2 (by omega) (by decide);simp(disch:=omega) only[wrap_i64];exact this
def aeN {m:bN}{si:Nat}{Q:Int->Int->Option Addr->Nat->Nat->World->Prop}(s0:Sep F W w0 L)(hA:Sl w0 a n c 1 bA m.cs)(hm:c7 m)(hs:(si:Int)<ej m.w m.h)
  (h:∀ra rn rc w',Sep F W w' (aj ra rn rc 5 1 (flat bA (pO m si))::L)->Fr No w0 w'->Q (aD m.w m.h si) (bu m.w m.h si) ra rn rc w'):sS m.w m.h a n c si w0 Q:=by
 apply I9;have RL:0<=(si:Int)/\(si:Int)<ej m.w m.h:=⟨by omega,hs⟩;have hz:=qp hm.w hm.h RL;have b1:=Int.mul_le_mul hz.1.1 hz.2.1 (by decide) (by omega);have b2:=Int.mul_le_mul hz.1.2 hz.2.2 (by omega) (by decide);have hlen:=hA.len;have hml:=hm.len;have s:=bt (F:=No) (w:=w0);refine aS s λmb w s=>?_;refine aY s λp4 w s=>?_;apply lI s 1 rfl;apply lI s 1 rfl;refine Xb hm.w hm.h RL λw f=>?_;have s:=bV s f;refine aY s λt w s=>?_;refine sT s 0 rfl λw s=>?_;refine sT s 0 rfl λw s=>?_;refine az s (i:=0) rfl rfl rfl λw s=>?_;have loop:∀(k i rc:Nat) (ra:Option Addr) (w:World),((i+k:Nat):Int)=aD m.w m.h si*bu m.w m.h si->
   Sep No w0 w [aj ra i rc 5 1 (flat bA ((List.range i).map λl:Nat=>gi m.cs (bS m.w m.h si l).toNat)),av t 84 [ae (aD m.w m.h si),ae (bu m.w m.h si),.slice ra i rc],av p4 84 [ae 0,ae 0,.slice none 0 0],av mb 25 [ae m.w,ae m.h,.slice a n c]]->
   jV Q (k+1) si (aZ mb) (aZ p4) (aD m.w m.h si) (bu m.w m.h si) (aZ t) i w:=by
  intro k;induction k with
  |zero=>
   intro i rc ra w hi s;show mK Q (jV Q 0) _ _ _ _ _ _ _ _;rw[mK,aF,bp];apply lI s 1 rfl;apply lI s 1 rfl;apply lS s 1 rfl
   (refine az s (i:=2) rfl rfl rfl λw s=>?_)
   (refine az s (i:=2) rfl rfl rfl λw s=>?_)
   (refine az s (i:=2) rfl rfl rfl λw s=>?_)
   apply lI s 2 rfl;apply lI s 2 rfl;apply lS s 2 rfl;have e:i=(aD m.w m.h si*bu m.w m.h si).toNat:=by omega
   have e2:((List.range i).map λl:Nat=>gi m.cs (bS m.w m.h si l).toNat)=pO m si:=by unfold pO;rw[e]
   rw[e2]at s;exact h _ _ _ _ (dX s0 s (i:=0) rfl) (au s)
  |succ k ih=>
   intro i rc ra w hi s;show mK Q (jV Q (k+1)) _ _ _ _ _ _ _ _;rw[mK,aF,bJ];have s:=ax s;have hl:0<=(i:Int)/\(i:Int)<aD m.w m.h si*bu m.w m.h si:=by omega
   have hg:=EP hm.w hm.h RL hl;apply lS s 1 rfl;apply lS s 3 rfl;apply lI s 3 rfl;apply lI s 3 rfl;refine aeM hm.w hm.h RL hl λw f=>?_;have s:=bV s f;apply And.intro (cN s 3 rfl);apply And.intro (cN s 1 rfl);obtain⟨g,hgk⟩:∃g:Nat,bS m.w m.h si i=g:=⟨(bS m.w m.h si i).toNat,by omega⟩;have heq:gi m.cs g=gi m.cs (bS m.w m.h si i).toNat:=by rw[hgk,Int.toNat_natCast]
   rw[hgk];apply Sl.Co (hA.fr (au s)) rfl (by omega);refine aS s λb w1 s1=>?_;refine⟨cN s1 2 rfl,?_⟩;have src:Src w1 (sZ b) 1 1 [.int .u8 (gi m.cs g)]:=⟨rfl,(λu hu=>by rw[List.mem_singleton.1 hu];rfl),λj u hj=>by rw[cf,Nat.zero_add];exact c9 s1 (i:=0) rfl rfl hj⟩;refine iH dU s1 (i:=1) (bytes:=1) rfl rfl rfl rfl rfl rfl (by decide) rfl src (by simp[maxLen];omega) (by omega) (λe=>by cases e) λa1 c1 w2 s2=>?_;have e:flat bA ((List.range i).map λl:Nat=>gi m.cs (bS m.w m.h si l).toNat)++[.int .u8 (gi m.cs g)]=flat bA ((List.range (i+1)).map λl:Nat=>gi m.cs (bS m.w m.h si l).toNat):=by rw[heq,List.range_succ,List.map_append,gG];rfl
   rw[e]at s2;refine az (ai s2) (i:=1) rfl rfl rfl λw3 s3=>?_;rw[aF];exact ih (i+1) c1 a1 w3 (by omega) s3
 exact⟨(aD m.w m.h si*bu m.w m.h si).toNat+1,loop _ 0 0 none w (by omega) (bE s 5 1)⟩
def ah9 {Q:Option Addr->Nat->Nat->World->Prop}(s0:Sep F W w0 L)(hA:Sl w0 a n c 1 bA cs)(hcs:gu cs)(hn:n<=100000)
  (h:∀ra rn rc w',Sep F W w' (aj ra rn rc 5 1 (flat bA (sP cs))::L)->Fr No w0 w'->Q ra rn rc w'):vr a n c w0 Q:=by
 apply Ly;have hlen:=hA.len;refine aS (bt (F:=No)) λb w s=>?_;have s:=apx s;have inner:∀(P3:Option Addr->Nat->Nat->Option Addr->Nat->Nat->Int->World->Prop) (x:Int) (i:Nat) (oa:Option Addr) (on oc:Nat) (out:List Int),cs[i]? =some x->on<=1000000->
   (∀a' c' w',Sep No w0 w' [aj a' (on+2) c' 5 1 (flat bA (out++[((lead x (cs.drop (i+1)):Nat):Int)%256,x]))]->P3 a n c a' (on+2) c' ((i+1+lead x (cs.drop (i+1)):Nat):Int) w')->
   ∀(k r:Nat) (w:World),i+1+r+k=n->lead x (cs.drop (i+1))=r+lead x (cs.drop (i+1+r))->Sep No w0 w [aj oa on oc 5 1 (flat bA out)]->lD P3 Q (k+1) a n c oa on oc i ((r+1:Nat):Int) w:=by
  intro P3 x i oa on oc out hx HL next
  have hix:i<n:=by grind
  have hgx:gi cs i=x:=by rw[gM (by omega)]at hx;grind
  have over:∀(r:Nat) (w:World),i+1+r<=n->lead x (cs.drop (i+1))=r->Sep No w0 w [aj oa on oc 5 1 (flat bA out)]->rN P3 Q a n c oa on oc i ((r+1:Nat):Int) w:=by
   intro r w hr hl s;apply Sl.Co (hA.fr (au s)) rfl hix;rw[hgx,aF,aF,wrap_u8'];refine aS s λb w s=>?_;have e0:((r+1:Nat):Int)-1=(r:Int):=by omega
   rw[e0]at s;have src:Src w (sZ b) 2 1 [.int .u8 ((r:Int)%256),.int .u8 x]:=⟨rfl,(λu hu=>by simp[List.mem_cons,List.not_mem_nil,or_false]at hu;rcases hu with rfl|rfl<;>rfl),λj u hj=>by rw[cf,Nat.zero_add];exact c9 s (i:=0) rfl rfl hj⟩;refine iH dU s (i:=1) (bytes:=1) rfl rfl rfl rfl rfl rfl (by decide) rfl src (by simp[maxLen];omega) (by omega) (λe=>by cases e) λa1 c1 w1 s1=>?_;have e:flat bA out++[.int .u8 ((r:Int)%256),.int .u8 x]=flat bA (out++[(r:Int)%256,x]):=by rw[gG];rfl
   rw[e]at s1;rw[hl]at next
   have:=next a1 c1 w1 (ai s1)
   grind
  intro k;induction k with
  |zero=>
   intro r w hr hl s;show oh P3 Q (lD P3 Q 0) _ _ _ _ _ _ _ _ _;rw[oh,aF,bp];have e:cs.drop (i+1+r)=[]:=List.drop_eq_nil_of_le (by omega);rw[e]at hl
   first|exact over r w (by omega) hl s|exact over r _ (by omega) hl (ax s)
  |succ k ih=>
   intro r w hr hl s;show oh P3 Q (lD P3 Q (k+1)) _ _ _ _ _ _ _ _ _;unfold oh;have ei:(i:Int)+((r+1:Nat):Int)=((i+1+r:Nat):Int):=by push_cast;omega
   rw[aF,bJ,ei];have s:=ax s;have hB:=hA.fr (au s);apply Sl.Co hB rfl (by omega);apply Sl.Co hB rfl hix;have hd:cs.drop (i+1+r)=gi cs (i+1+r)::cs.drop (i+1+r+1):=by rw[List.drop_eq_getElem_cons (by omega)];congr 1;have:=gM (l:=cs) (i:=i+1+r) (by omega);rw[List.getElem?_eq_getElem (by omega)]at this;exact Option.some.inj this
   rw[hd,lead]at hl;rw[hgx];by_cases he:gi cs (i+1+r)=x
   ·rw[show(gi cs (i+1+r)==x)=true by rw[beq_iff_eq];exact he,cond_true,aF];rw[if_pos he]at hl;have:=ih (r+1) w.drew (by omega) (by rw[show i+1+(r+1)=i+1+r+1 by omega];omega) s;exact this
   ·rw[show(gi cs (i+1+r)==x)=false by rw[beq_eq_false_iff_ne];exact he,cond_false];rw[if_neg he]at hl;exact over r _ (by omega) hl s
 have outer:∀(k i:Nat) (oa:Option Addr) (on oc:Nat) (out:List Int) (w:World),n-i<=k->i<=n->on<=1+2*i->out++kT (n-i) (cs.drop i)=sP cs->Sep No w0 w [aj oa on oc 5 1 (flat bA out)]->oo Q (k+1) a n c oa on oc i w:=by
  have stop:∀R (oa:Option Addr) (on oc:Nat) (out:List Int) (w:World),out++kT (n-n) (cs.drop n)=sP cs->Sep No w0 w [aj oa on oc 5 1 (flat bA out)]->om Q R a n c oa on oc n w:=by intro R oa on oc out w he s;rw[om,bp];rw[List.drop_eq_nil_of_le (by omega),Nat.sub_self,kT,List.append_nil]at he;rw[he]at s;exact h _ _ _ _ (dX s0 s (i:=0) rfl) (au s)
  intro k;induction k with
  |zero=>
   intro i oa on oc out w hk hi HL he s;obtain rfl:i=n:=by omega
   exact stop _ _ _ _ _ _ he s
  |succ k ih=>
   intro i oa on oc out w hk hi HL he s;by_cases hin:i=n
   ·subst hin;exact stop _ _ _ _ _ _ he s
   ·show om Q (oo Q (k+1)) _ _ _ _ _ _ _ _;rw[om,bJ];have hx:cs[i]? =some (gi cs i):=gM (by omega);have hd:cs.drop i=gi cs i::cs.drop (i+1):=by obtain⟨h1,h2⟩:=List.getElem?_eq_some_iff.1 hx;rw[List.drop_eq_getElem_cons h1,h2]
    have Mf:=Ny (gi cs i) (cs.drop (i+1));rw[List.length_drop]at Mf;refine⟨n-(i+1)+1,inner _ (gi cs i) i oa on oc out hx (by omega) (λa' c' w' s'=>?_) (n-(i+1)) 0 w (by omega) (by rw[Nat.zero_add]) s⟩;refine ih (i+1+lead (gi cs i) (cs.drop (i+1))) a' (on+2) c' _ w' (by omega) (by omega) (by omega) ?_ s';rw[<-he,hd,show n-i=(n-(i+1))+1 by omega,kT,List.append_assoc,List.drop_drop];congr 1;show _::_::_=_::_::_;congr 2;exact afB _ _ _ (by rw[List.length_drop];omega) (by rw[List.length_drop];omega)
 exact⟨n+1,outer n 0 _ 1 1 [2] w (by omega) (by omega) (by omega) (by rw[List.drop_zero,Nat.sub_zero,<-hlen];rfl) s⟩
end
end Go.Proofs.YtmegplnmiepfbaaGreatDoor.S.O
namespace Go.Proofs.YtmegplnmiepfbaaGreatDoor.S.O
open Go.Sx
attribute [local irreducible] af cq bq bf aB bY bT St Bx Al App cu cg b_ bR aK bw aq bP av aj aU mapA
section
variable {F:Nat->Prop}{W w w0:World}{L:List As}{a:Option Addr}{n c:Nat}{cs:List Int}
def acL {tw th:Int}{Q:Int->Option Addr->Nat->Nat->World->Prop}(s0:Sep F W w0 L)(hA:Sl w0 a n c 1 bA cs)(hcs:gu cs)(hn:1<=n/\n<=100000)
  (h:∀ra rn rc w',Sep F W w' (aj ra rn rc 5 1 (flat bA (sQ cs).2)::L)->Fr No w0 w'->Q (sQ cs).1 ra rn rc w'):rV tw th a n c w0 Q:=by
 apply IA;have hlen:=hA.len;refine aS (bt (F:=No)) λtb w s=>?_;apply lS s 0 rfl;refine ah9 s (hA.fr (au s)) hcs hn.2 λra rn rc w s _=>?_;have hr:=aL s (i:=0) rfl cY (by decide);have hrl:=hr.len;unfold sQ at h;by_cases h3:(sP cs).length=3
 ·rw[show((rn:Int)==3)=true by grind,cond_true];rw[if_pos h3]at h;have s:=ax s;apply lS s 1 rfl;obtain⟨ad,rfl,hv⟩:=hA.row.2 0 _ (gM (by omega));have hv:=hv 0 _ rfl;refine⟨by decide,by omega,ah ?_⟩;apply aQ (Fr.cell (au s) hv id);have fin:∀(b:Nat) (w':World) (L':List As),Sep No w0 w' (av b 5 [.int .u8 0,.int .u8 (gi cs 0)]::L')->Q 0 (sZ b) 2 2 w':=λb w' L' s=>by have s:=iS (n:=2) (size:=1) s (i:=0) rfl rfl (by decide) (by simp;exact⟨rfl,rfl⟩);have s:=s;exact h _ _ _ _ (dX s0 s (i:=0) rfl) (au s)
  constructor
  ·refine aS s λb w s=>?_;exact⟨Fr.cell (au s) hv id,cN s 2 rfl,fin _ _ _ s⟩
  ·refine⟨Fr.cell (au s) hv id,cN s 1 rfl,?_⟩;refine aS s λb w s=>?_;grind
 ·rw[show((rn:Int)==3)=false by grind,cond_false];rw[if_neg h3]at h;apply lS s 1 rfl;rw[aF];by_cases h4:(sP cs).length<1+cs.length
  ·rw[bJ];rw[if_pos h4]at h;exact h _ _ _ _ (dX s0 s (i:=0) rfl) (au s)
  ·rw[bp];rw[if_neg h4]at h;refine aS s λb w s=>?_;have s:=apx s;apply lS s 2 rfl;refine ajv s (hA.fr (au s)) (by omega) λra rc w s=>?_;exact h _ _ _ _ (dX s0 s (i:=0) rfl) (au s)
def RZ {m:bN}{Q:Option Addr->Nat->Nat->World->Prop}(s0:Sep F W w0 L)(hA:Sl w0 a n c 1 bA m.cs)(hm:c7 m)
  (h:∀ra rn rc w',Sep F W w' (aj ra rn rc 5 1 (flat bA (xQ m))::L)->Fr No w0 w'->Q ra rn rc w'):ox m.w m.h a n c w0 Q:=by
 apply I_;have hc:=gz hm.w hm.h;refine aS (bt (F:=No)) λmb w s=>?_;apply lI s 0 rfl;apply lI s 0 rfl;refine⟨by decide,?_⟩;apply lI s 0 rfl;apply lI s 0 rfl;refine⟨by decide,?_⟩;have e8:∀v:Int,oG .i64 v 8=v/256:=λv=>by rw[oG,show min (8:Int).toNat (IntKind.i64).bits=8 by decide,Int.fdiv_eq_ediv_of_nonneg _ (by decide)];rfl
 rw[e8,e8,wrap_u8',wrap_u8',wrap_u8',wrap_u8'];refine aS s λhb w s=>?_;have s:=iS (n:=4) (size:=1) s (i:=0) rfl rfl (by decide) (by simp;exact⟨rfl,rfl,rfl,rfl⟩);have s:=s;have loop:∀(k i:Nat) (ba:Option Addr) (bn bc:Nat) (w:World),((i+k:Nat):Int)=ej m.w m.h->bn<=4+258*i->
   Sep No w0 w [aj ba bn bc 5 1 (flat bA ([m.w%256,m.w/256%256,m.h%256,m.h/256%256]++Hu m i)),av mb 25 [ae m.w,ae m.h,.slice a n c]]->jW Q (k+1) (aZ mb) ba bn bc i w:=by
  intro k;induction k with
  |zero=>
   intro i ba bn bc w hi Ez s;show vD Q (jW Q 0) _ _ _ _ _ _;apply lI s 1 rfl;apply lI s 1 rfl;apply K2 hm.w hm.h;rw[bp];have e:i=(ej m.w m.h).toNat:=by omega
   rw[e]at s;exact h _ _ _ _ (dX s0 s (i:=0) rfl) (au s)
  |succ k ih=>
   intro i ba bn bc w hi Ez s;show vD Q (jW Q (k+1)) _ _ _ _ _ _;have RL:0<=(i:Int)/\(i:Int)<ej m.w m.h:=by omega
   have htl:=Tw hm RL;have htr:=Tv hm RL;apply lI s 1 rfl;apply lI s 1 rfl;apply K2 hm.w hm.h;rw[bJ];apply lI s 1 rfl;apply lI s 1 rfl;apply lS s 1 rfl;refine aeN s (hA.fr (au s)) hm (by omega) λra rn rc w s _=>?_;have ht:=aL s (i:=0) rfl cY (by decide);have OU:=ht.len;refine acL s ht (λx hx=>by grind) (by omega) λpa pn pc w s _=>?_;have hp:=aL s (i:=0) rfl cY (by decide);have Z1:=hp.len;have Hj:=afD (cs:=pO m i);have s:=cF (L':=[_,_,_,_]) [2,3,0,1] s rfl (by decide);refine ajv s (aL s (i:=2) rfl cY (by decide)) (by omega) λra rc w s=>?_;rw[aF];have s:=cF (L':=[_,_]) [0,1] s rfl (by decide);rw[List.append_assoc,<-WO]at s;grind
 exact⟨(ej m.w m.h).toNat+1,loop _ 0 _ 4 4 w (by omega) (by omega) s⟩
end
end Go.Proofs.YtmegplnmiepfbaaGreatDoor.S.O
set_option maxRecDepth 20000
namespace Go.Proofs.YtmegplnmiepfbaaGreatDoor.S
open Go.Sx
attribute [local irreducible] af cq bq bf aB bY bT St Bx Al App cu cg b_ bR aK bw aq bP av aj aU mapA
section
variable {F:Nat->Prop}{W w:World}{L:List As}{a b:Option Addr}{n c m d:Nat}
def eq2 {a b a' b':Int}:(a==a'&&(b==b'&&true))=decide (a=a'/\b=b'):=by grind
def atc {w:World}{x y:Operand}{a b:Int×Int}{K:Bool->World->Prop}(h:K (!decide (a=b)) w):bR P .neq 51 x y (.agg #[ae a.1,ae a.2]) (.agg #[ae b.1,ae b.2]) w K:=by apply ain (by kernel_rfl);apply alP (r:=a.1==b.1&&(a.2==b.2&&true)) (by kernel_rfl) (by kernel_rfl) (by kernel_rfl);rw[eq2];simp[<-Prod.ext_iff];exact h
def atd {a b:Ex}:(a.a=b.a/\a.b=b.b/\a.c=b.c/\a.d=b.d/\a.e=b.e/\a.f=b.f)↔a=b:=by obtain⟨a1,a2,a3,a4,a5,a6⟩:=a;obtain⟨b1,b2,b3,b4,b5,b6⟩:=b;simp
instance:DecidableEq Ex:=λa b=>decidable_of_iff _ atd
def ah_ {Q:Bool->World->Prop}{xs ys:List (Int×Int)}(hX:Sl w a n c 2 kY xs)(hY:Sl w b m d 2 kY ys)(s0:Sep F W w L)(hn:n<1000000)(h:∀w',Sep F W w' L->Fr No w w'->Q (decide (xs=ys)) w'):
  sU a n c b m d w Q:=by
 apply Ja;have h1:=hX.len;have h2:=hY.len;have fin:∀(r:Bool) (w':World),r=decide (xs=ys)->Sep No w w' []->Q r w':=λr w' e s=>by subst e;exact h w' (bV s0 (au s)) (au s)
 by_cases hl:n=m
 ·subst hl;have loop:∀(k i:Nat) (w1:World),i+k=n->xs.take i=ys.take i->Sep No w w1 []->jX Q (k+1) a n c b n d i w1:=by
   intro k;induction k with
   |zero=>
    intro i w1 hi he s;show mL Q (jX Q 0) _ _ _ _ _ _ _ _;unfold mL;grind
   |succ k ih=>
    intro i w1 hi he s;show mL Q (jX Q (k+1)) _ _ _ _ _ _ _ _;rw[mL,bJ];have s:=ax s;refine(hX.fr (au s)).El rfl (by omega) λp x hx hc=>?_;refine aQ (hc 0 _ rfl) (aQ (hc 1 _ rfl) ?_);refine(hY.fr (au s)).El rfl (by omega) λp y hy hc=>?_;refine aQ (hc 0 _ rfl) (aQ (hc 1 _ rfl) ?_);apply atc;by_cases hxy:x=y
    ·rw[decide_eq_true hxy,Bool.not_true,cond_false,aF];refine ih (i+1) _ (by omega) ?_ s;rw[List.take_add_one,List.take_add_one,hx,hy,he,hxy]
    grind
  rw[bne_self_eq_false,cond_false];exact⟨n+1,loop n 0 w (by omega) (by simp) bt⟩
 ·rw[show((n:Int) !=(m:Int))=true by grind,cond_true];refine fin false _ ?_ bt;grind
def map_eq {a b:bN}:(a.w=b.w/\a.h=b.h/\a.cs=b.cs)↔a=b:=by obtain⟨a1,a2,a3⟩:=a;obtain⟨b1,b2,b3⟩:=b;simp
instance:DecidableEq bN:=λa b=>decidable_of_iff _ map_eq
end
section
variable {F:Nat->Prop}{W w:World}{L:List As}{lg:yK}{r:Gd}{y:AN}{o:A1}{a:Option Addr}{n c:Nat}
def auc {K:Addr->World->Prop}{code d dir id:Int}{ma ga:Option Addr}{mn mc gn gc:Nat}{q0 q1 q2 q3 q4 q5:Int}(s:Sep F W w L)
  (h:∀p w',Sep F W w' (av p 34 (Vo code d dir id ma mn mc ga gn gc ⟨q0,q1,q2,q3,q4,q5⟩)::L)->K (aZ p) w'):
  Al T 34 w λp w=>St (p.add 0) (ae code) w λw=>St (p.add 1) (ae d) w λw=>St (p.add 2) (ae dir) w λw=>St (p.add 3) (ae id) w λw=>
   St (p.add 4) (.slice ma mn mc) w λw=>St (p.add 5) (.slice ga gn gc) w λw=>St (p.add 6) (.int .u64 q0) w λw=>St (p.add 7) (.int .u64 q1) w λw=>St (p.add 8) (.int .u64 q2) w λw=>
   St (p.add 9) (.int .u64 q3) w λw=>St (p.add 10) (.int .u64 q4) w λw=>St (p.add 11) (.int .u64 q5) w λw=>K p w:=by
 refine aY s λp w s=>?_
 iterate 12 refine sT s 0 rfl λw s=>?_
 exact h p w s
def aaU {K:Addr->World->Prop}(hL:iF W lg)(ho:acK o)(hM:∀w',Sep No W w' L->Sl w' a n c 1 bA o.m)(vi:akC y.p)(s:Sep No W w (gX r y::L))
  (h:∀r' y' ma mn mc ga gn gc p w',r'.p=r.p->y'.p=(iP y.p o).1->Sep No W w' (av p 34 (Vo (iP y.p o).2.code (iP y.p o).2.d (iP y.p o).2.dir (iP y.p o).2.id ma mn mc ga gn gc (pX y'.p.bX))::aj ma mn mc 51 2 (flat kY (iP y.p o).2.FP)::aj ga gn gc 3 1 (flat one (iP y.p o).2.gone)::gX r' y'::L)->K (aZ p) w'):
  fA (sZ r.p) o.k o.A o.B a n c w λcode d dir id ma mn mc ga gn gc q0 q1 q2 q3 q4 q5 w=>
   Al T 34 w λp w=>St (p.add 0) (ae code) w λw=>St (p.add 1) (ae d) w λw=>St (p.add 2) (ae dir) w λw=>St (p.add 3) (ae id) w λw=>
   St (p.add 4) (.slice ma mn mc) w λw=>St (p.add 5) (.slice ga gn gc) w λw=>St (p.add 6) (.int .u64 q0) w λw=>St (p.add 7) (.int .u64 q1) w λw=>St (p.add 8) (.int .u64 q2) w λw=>
   St (p.add 9) (.int .u64 q3) w λw=>St (p.add 10) (.int .u64 q4) w λw=>St (p.add 11) (.int .u64 q5) w λw=>K p w:=
 FT hL ho hM vi s λr' y' ma mn mc ga gn gc w er ey s=>auc s λp w s=>h r' y' ma mn mc ga gn gc p w er ey s
end
end Go.Proofs.YtmegplnmiepfbaaGreatDoor.S
namespace Go.Proofs.YtmegplnmiepfbaaGreatDoor.S
open Go.Sx
structure MC (most:Int) (m:bN) (u:sG):Prop where
 may:c7 m
 nh:m.w*m.h<=1600
 us:nk m.w m.h u.us
 nx:0<=u.next
 lt:∀v∈u.us,v.id<u.next
 mst:u.most=most
 len:(u.us.length:Int)<=most
structure Ge (t:Int) (q:iO):Prop where
 ep:yZ q.bX<=t
 tp:0<=t
 mo:1<=q.most/\q.most<=65536
 st:(q.bX.o=none/\q.us=none)\/∃m u,q.bX.o=some m/\q.us=some u/\MC q.most m.g.m u/\u.next<=t
def Ge.sm {t:Int}{q:iO}(h:Ge t q)(ht:t<1000000000):akC q:=by
 refine⟨by have:=h.ep;omega,λu hu=>?_⟩;rcases h.st with⟨_,e⟩|⟨m,u',_,e,_,hn⟩
 all_goals grind
def Ge.mono {t t':Int}{q:iO}(h:Ge t q)(ht:t<=t'):Ge t' q:=by
 refine⟨by have:=h.ep;omega,by have:=h.tp;omega,h.mo,?_⟩;rcases h.st with e|⟨m,u',h1,h2,h3,hn⟩
 all_goals grind
section
variable {most t:Int}{m:bN}{u:sG}{q:iO}{o:A1}
def apa (hm:c7 m){c x:Int}(hx:1<=x/\x<=255):c7 ⟨m.w,m.h,m.cs.set c.toNat x⟩:=by
 refine⟨hm.w,hm.h,?_,λy hy=>?_⟩
 ·rw[List.length_set];exact hm.len
 ·rcases List.mem_or_eq_of_mem_set hy with hy|rfl
  ·exact hm.jP y hy
  ·omega
def MC.drop (h:MC most m u)(id:Int):MC most m (kI u id):=by have hs:(kI u id).us.Sublist u.us:=List.filter_sublist;refine⟨h.may,h.nh,h.us.sub hs,h.nx,λv hv=>h.lt v (hs.subset hv),h.mst,?_⟩;have:=hs.length_le;have:=h.len;omega
def MC.Ve (h:MC most m u)(id:Int){B:Int}(hB:bC m.w m.h B):MC most m (uZ u id λv=>⟨v.id,v.cell,B⟩):=by
 have e1:∀us:List aM,(us.map λv=>if v.id=id then(⟨v.id,v.cell,B⟩:aM)else v).map (·.id)=us.map (·.id):=λus=>by rw[List.map_map];refine List.map_congr_left λv _=>?_;simp[Function.comp];split<;>rfl
 have e2:∀us:List aM,(us.map λv=>if v.id=id then(⟨v.id,v.cell,B⟩:aM)else v).map (·.cell)=us.map (·.cell):=λus=>by rw[List.map_map];refine List.map_congr_left λv _=>?_;simp[Function.comp];split<;>rfl
 have hmem:∀v∈(uZ u id λv=>⟨v.id,v.cell,B⟩).us,∃v'∈u.us,v.id=v'.id/\v.cell=v'.cell/\(v.goal=v'.goal\/v.goal=B):=λv hv=>by
  obtain⟨v',Y7,rfl⟩:=List.mem_map.1 hv;refine⟨v',Y7,?_⟩;split
  ·exact⟨rfl,rfl,.inr rfl⟩
  ·exact⟨rfl,rfl,.inl rfl⟩
 refine⟨h.may,h.nh,⟨h.us.wh,?_,λv hv=>?_,λv hv=>?_,?_⟩,h.nx,λv hv=>?_,h.mst,?_⟩
 ·show List.Pairwise _ (List.map _ (List.map _ _));rw[e1];exact h.us.ids
 ·obtain⟨v',h1,h2,_⟩:=hmem v hv;rw[h2];exact h.us.pos v' h1
 ·obtain⟨v',h1,_,h3,h4⟩:=hmem v hv;have:=h.us.at_ v' h1;refine⟨by rw[h3];exact this.1,?_⟩;rcases h4 with h4|h4
  ·rw[h4];exact this.2
  ·rw[h4];exact hB
 ·show List.Nodup (List.map _ (List.map _ _));rw[e2];exact h.us.nd
 ·obtain⟨v',h1,h2,_⟩:=hmem v hv;rw[h2];exact h.lt v' h1
 ·show((List.map _ _).length:Int)<=most;rw[List.length_map];exact h.len
def MC.add (h:MC most m u){A B:Int}(hs:ow m.w m.h u A B=0):MC most m (KT u A B):=by
 unfold ow at hs;split at hs
 ·omega
 split at hs
 ·omega
 split at hs
 ·omega
 split at hs
 ·omega
 rename_i h1 h2 h3 h4;have h1:=Decidable.not_not.1 h1;have h2:=Decidable.not_not.1 h2;have hl:((u.us++[(⟨u.next,A,B⟩:aM)]).length:Int)=u.us.length+1:=by simp
 have:=h.mst;refine⟨h.may,h.nh,aiX h.us (λv hv=>h.lt v hv) h.nx h1.1 h1.2 ((aiY h.us).1 h2),?_,λv hv=>?_,h.mst,?_⟩
 ·show 0<=u.next+1
  have:=h.nx;omega
 ·show v.id<u.next+1
  rcases List.mem_append.1 hv with hv|hv
  ·have:=h.lt v hv;omega
  grind
 ·show((u.us++[(⟨u.next,A,B⟩:aM)]).length:Int)<=_;omega
def Vp {w h:Int}:∀(todo:List (aM×Int)) (done:List aM),∀v∈(cK w h done todo).1,∃v'∈done++todo.map (·.1),v.id=v'.id/\v.goal=v'.goal
 |[],done,v,hv=>⟨v,by simpa[cK]using hv,rfl,rfl⟩
 |(x,d)::rest,done,v,hv=>by
  cases hb:mF w h (done++x::rest.map (·.1)) x d with
  |true=>
   rw[BK hb]at hv;obtain⟨v',h1,h2,h3⟩:=Vp rest _ v hv;rw[List.append_assoc]at h1;rcases List.mem_append.1 h1 with h1|h1
   ·grind
   ·rcases List.mem_append.1 h1 with h1|h1
    ·unfold kX at h1;grind
    grind
  |false=>
   rw[zJ hb]at hv;obtain⟨v',h1,h2,h3⟩:=Vp rest _ v hv;grind
def zip_fst {α β:Type}{l:List α}(f:α->β):(l.zip (l.map f)).map (·.1)=l:=by rw[List.map_fst_zip];grind
def MC.tick (h:MC most m u):MC most m (He m.w m.h u (nA m u.us)):=by
 have hz:(u.us.zip (nA m u.us)).map (·.1)=u.us:=zip_fst _;refine⟨h.may,h.nh,Vg _ [] (by rw[List.nil_append,hz];exact h.us),h.nx,λv hv=>?_,h.mst,?_⟩
 ·obtain⟨v',h1,h2,_⟩:=Vp _ _ v hv;rw[List.nil_append,hz]at h1;rw[h2];exact h.lt v' h1
 ·have h1:=(My (w:=m.w) (h:=m.h) (u.us.zip (nA m u.us)) []).1;have h2:=congrArg List.length hz;have:=h.len;have e:(He m.w m.h u (nA m u.us)).us=(cK m.w m.h [] (u.us.zip (nA m u.us))).1:=rfl;grind
def anf (q:o_)(t s:Int):yZ (yN q t s)=yZ q:=by
 cases h:q.o with
 |none=>unfold yN;rw[h]
 |some m=>
  obtain⟨m',h1,h2⟩:=Hg h t s;unfold yZ;grind
def apb (q:o_)(ps:List FK):yZ (FN q ps)=yZ q:=by
 cases h:q.o with
 |none=>
  have:FN q ps=q:=by
   unfold FN;induction ps with
   |nil=>rfl
   |cons p ps ih=>rw[List.foldl_cons];unfold yN;rw[h];exact ih
  rw[this]
 |some m=>
  obtain⟨m',h1,h2⟩:=FO ps h;unfold yZ;grind
def aud {mp:zH}(h:Ge t q)(hm:q.bX.o=some mp)(hu:q.us=some u)(hn:MC q.most mp.g.m u)(hx:u.next<=t):Ge (t+1) (RX q mp.g.m u o).1:=by
 have hsame:Ge (t+1) q:=h.mono (by omega);have ht:=h.tp;have WT:=h.ep;have epm:yZ q.bX=mp.g.ep:=by unfold yZ;rw[hm]
 unfold RX;split
 ·split
  ·exact hsame
  ·split
   ·exact hsame
   ·split
    ·exact hsame
    ·have e:(edP q.bX o.A o.B).o=some ⟨wF mp.g o.A o.B,mp.Rh,mp.clean,mp.fH,mp.kept,mp.fc⟩:=by unfold edP;rw[hm];rfl
     refine⟨?_,by omega,h.mo,.inr ⟨_,u,e,rfl,?_,by omega⟩⟩
     ·rw[yZ,e];show mp.g.ep+1<=t+1;omega
     ·exact⟨apa hn.may (by omega),hn.nh,hn.us,hn.nx,hn.lt,hn.mst,hn.len⟩
 ·split
  ·split
   ·exact hsame
   ·split
    ·exact hsame
    ·split
     ·exact hsame
     ·rename_i h1 h2 h3;exact⟨by grind,by omega,h.mo,.inr ⟨mp,_,hm,rfl,hn.add (Decidable.not_not.1 h3),by show u.next+1<=t+1;omega⟩⟩
  ·split
   ·split
    ·exact hsame
    ·split
     ·exact hsame
     ·split
      ·exact⟨by grind,by omega,h.mo,.inr ⟨mp,_,hm,rfl,hn.drop _,by show u.next<=t+1;omega⟩⟩
      ·rename_i h2 _;exact⟨by grind,by omega,h.mo,.inr ⟨mp,_,hm,rfl,hn.Ve _ (Decidable.not_not.1 h2),by show u.next<=t+1;omega⟩⟩
   ·split
    ·split
     ·exact hsame
     ·exact⟨by grind,by omega,h.mo,.inr ⟨mp,_,hm,rfl,hn.drop _,by show u.next<=t+1;omega⟩⟩
    ·split
     ·split
      ·obtain⟨RW,h1,h2⟩:=Hg hm o.A (cO mp.g.m o.B);refine⟨by show yZ (yN _ _ _)<=_;rw[anf];omega,by omega,h.mo,.inr ⟨RW,u,h1,rfl,by grind,by omega⟩⟩
      grind
     ·obtain⟨RW,h1,h2⟩:=FO (l6 mp.g.m.w mp.g.m.h u.us) hm;refine⟨by show yZ (FN _ _)<=_;rw[apb];omega,by omega,h.mo,.inr ⟨RW,_,h1,rfl,by rw[h2];exact hn.tick,by show u.next<=t+1;omega⟩⟩
def VQ (h:Ge t q)(ho:acK o):Ge (t+1) (iP q o).1:=by
 have hsame:Ge (t+1) q:=h.mono (by omega);have ht:=h.tp;have WT:=h.ep;unfold iP;split
 ·exact hsame
 ·split
  ·rename_i k1;split
   ·exact hsame
   ·rename_i mp hg;have hf:=(ho.load k1).2 mp hg;have hm:=adk ho.jP hg;have hmo:=h.mo;refine⟨?_,by omega,h.mo,.inr ⟨_,_,rfl,rfl,⟨hm,hf,⟨⟨hm.w,hm.h⟩,.nil,λv hv=>(by cases hv),λv hv=>(by cases hv),.nil⟩,Int.le_refl _,λv hv=>(by cases hv),rfl,?_⟩,by grind⟩⟩
    ·show yZ q.bX+1<=t+1;omega
    grind
  ·split
   ·rcases h.st with⟨h1,h2⟩|⟨m,u,h1,h2,h3,h4⟩
    ·refine⟨?_,by omega,h.mo,.inl ⟨by show(Pv q.bX).o=none;unfold Pv;rw[h1];rfl,h2⟩⟩;unfold yZ Pv;grind
    ·have e:(Pv q.bX).o=some ⟨m.g,m.Rh,m.clean,m.fH,none,m.fc⟩:=by unfold Pv;rw[h1];rfl
     refine⟨?_,by omega,h.mo,.inr ⟨_,u,e,h2,h3,by omega⟩⟩;show yZ (Pv q.bX)<=_;have:yZ q.bX=yZ (Pv q.bX):=by unfold yZ;rw[e,h1]
     omega
   ·rcases h.st with⟨h1,h2⟩|⟨m,u,h1,h2,h3,h4⟩
    ·grind
    ·rw[h1,h2];exact aud h h1 h2 h3 h4
end
def FM.of {bs:List Int}{m:bN}(h:kJ bs=some m):FM bs:=by
 unfold kJ at h;split at h
 ·cases h
 ·split at h
  ·rename_i h1 h2;refine⟨by omega,h2,λbs' M hT=>?_⟩;grind
  ·cases h
def xl {k A B:Int}(hk:k≠1):acK ⟨k,A,B,[]⟩:=⟨gu.nil,by simp,λe=>(hk e).elim⟩
def ai7 {m:bN}(hm:c7 m)(hf:m.w*m.h<=1600):acK (PM m):=by have h1:=Zb hm;have h2:=ZX hm;refine⟨h1.1,h1.2,λ_=>⟨.of h2,λmp h=>?_⟩⟩;have h:kJ (xQ m)=some mp:=h;grind
def awb (k most:Int):iO:=⟨most,⟨k,⟨[],[],0,0,0,0⟩,none,⟨0,0,0,0,0,0⟩⟩,none⟩
section
variable {q:iO}{o:A1}{t:Int}
def ap6 {k most:Int}(hm:1<=most/\most<=65536):Ge 0 (awb k most):=⟨Int.le_refl _,Int.le_refl _,hm,.inl ⟨rfl,rfl⟩⟩
def ai8 {m:bN}(hm:c7 m):iP q (PM m)=(⟨q.most,ldP q.bX m,some ⟨q.most,0,[]⟩⟩,oF 0):=by have h1:=Zb hm;have e:DD (PM m)=true:=(aqv h1.1 h1.2).may;rw[iP,e,if_neg (by rintro (h|h)<;>cases h),if_pos (show(PM m).k=(1:Int)from rfl)];have e:kJ (PM m).m=some m:=ZX hm;rw[e]
end
def pre (cs:List Int):Nat->Int
 |0=>0
 |k+1=>pre cs k+gi cs k
structure nB (m:bN) (p q:Int):Prop where
 may:c7 m
 op:∀x∈m.cs,x<255
 dir:(m.h=1/\p=1/\q=3)\/(m.w=1/\p=2/\q=0)
section
variable {m:bN}{p q x t s:Int}
def nB.bC (h:nB m p q)(hx:0<=x/\x<m.cs.length):bC m.w m.h x:=⟨⟨h.may.w,h.may.h⟩,hx.1,by rw[<-h.may.len];exact hx.2⟩
def nB.cost (h:nB m p q)(hx:0<=x/\x<m.cs.length):cH m x=gi m.cs x.toNat/\1<=cH m x/\cH m x<=254:=by
 have e:cH m x=gi m.cs x.toNat:=by unfold cH;grind
 have hm:=fy (l:=m.cs) (i:=x.toNat) (by omega);have h1:=h.may.jP _ hm;have h2:=h.op _ hm;omega
def nB.Df (h:nB m p q)(hx:0<=x/\x<m.cs.length):eU m x=true:=by have:=h.cost hx;unfold eU;simp;omega
def nB.step (h:nB m p q)(hx:0<=x/\x<m.cs.length)(hs:0<=s/\s<=3):aX m.w m.h x s=if s=p then(if x+1<m.cs.length then x+1 else-1)else if s=q then x-1 else-1:=by
 have hc:=h.bC hx;have hl:=h.may.len;have hw:=h.may.w;have hh:=h.may.h;rw[aX,if_pos hc];rcases h.dir with⟨e,rfl,rfl⟩|⟨e,rfl,rfl⟩
 ·rw[e]at hl⊢;have e1:x%m.w=x:=Int.emod_eq_of_lt hx.1 (by omega);have e2:x/m.w=0:=Int.ediv_eq_zero_of_lt hx.1 (by omega);rw[e1,e2];obtain rfl|rfl|rfl|rfl:s=0\/s=1\/s=2\/s=3:=by omega
  ·rw[if_pos rfl,rT (by omega)];rfl
  ·rw[if_neg (by decide),if_neg (by decide),if_neg (by decide),if_pos rfl,if_pos rfl];split
   ·rw[mN ⟨hw,by decide⟩ (by omega) (by omega)];omega
   ·rw[rT (by omega)]
  ·rw[if_neg (by decide),if_pos rfl,rT (by omega)];rfl
  ·rw[if_neg (by decide),if_neg (by decide),if_pos rfl,if_neg (by decide),if_pos rfl];by_cases h0:x=0
   ·rw[rT (by omega)];omega
   ·rw[mN ⟨hw,by decide⟩ (by omega) (by omega)];omega
 ·rw[e]at hl⊢;obtain rfl|rfl|rfl|rfl:s=0\/s=1\/s=2\/s=3:=by omega
  ·by_cases h0:x=0
   ·rw[rT (by omega)];omega
   ·rw[mN ⟨by decide,hh⟩ (by omega) (by omega)];omega
  ·rw[if_neg (by decide),if_neg (by decide),if_neg (by decide),if_pos rfl,rT (by omega)];rfl
  ·rw[if_neg (by decide),if_pos rfl,if_pos rfl];split
   ·rw[mN ⟨by decide,hh⟩ (by omega) (by omega)];omega
   ·rw[rT (by omega)]
  ·rw[if_neg (by decide),if_neg (by decide),if_pos rfl,rT (by omega)];rfl
def nB.pq (h:nB m p q):(0<=p/\p<=3)/\(0<=q/\q<=3)/\p≠q:=by rcases h.dir with⟨_,rfl,rfl⟩|⟨_,rfl,rfl⟩<;>decide
def nB.awc (h:nB m p q){n c:Int}(e:fJ m x n c):(0<=x/\x<m.cs.length)/\(0<=n/\n<m.cs.length)/\(n=x+1\/n=x-1)/\c=cH m n:=by
 obtain⟨h1,h2,⟨s,hs,e⟩,hc⟩:=e;have hl:=h.may.len;have hx:=(jE h.may h1).2;have hn:=(jE h.may h2).2;have hx:0<=x/\x<m.cs.length:=by omega
 rw[h.step hx hs]at e;omega
def zN (m:bN)(t x:Int):Int:=if 0<=x/\x<m.cs.length then(if x<=t then pre m.cs (t+1).toNat-pre m.cs (x+1).toNat else pre m.cs x.toNat-pre m.cs t.toNat)else bW
def aaV (h:nB m p q)(hx:0<=x/\x<m.cs.length):pre m.cs (x+1).toNat=pre m.cs x.toNat+cH m x:=by rw[(h.cost hx).1,show(x+1).toNat=x.toNat+1 by omega];rfl
def FU (h:nB m p q):∀k:Nat,k<=m.cs.length->0<=pre m.cs k/\pre m.cs k<=254*k
 |0,_=>by simp[pre]
 |k+1,hk=>by have:=FU h k (by omega);have h1:=(h.cost (x:=k) (by omega));have h2:=h1.1;rw[Int.toNat_natCast]at h2;show 0<=pre m.cs k+gi m.cs k/\pre m.cs k+gi m.cs k<=_;omega
def nB.D (h:nB m p q)(ht:0<=t/\t<m.cs.length)(hx:0<=x/\x<m.cs.length):D m t x=zN m t x:=by
 have hsz:=afE h.may;have small:∀y:Int,0<=y/\y<m.cs.length->zN m t y<bW:=λy hy=>by have h1:=FU h (t+1).toNat (by omega);have h2:=FU h (y+1).toNat (by omega);have h3:=FU h t.toNat (by omega);have h4:=FU h y.toNat (by omega);unfold zN bW;omega
 have on:∀y:Int,0<=y/\y+1<m.cs.length->y<t->zN m t y=zN m t (y+1)+cH m (y+1):=λy hy hyt=>by have:=aaV h (x:=y+1) (by omega);unfold zN;omega
 have back:∀y:Int,0<=y/\y<m.cs.length->t<y->zN m t y=zN m t (y-1)+cH m (y-1):=λy hy hyt=>by have h1:=aaV h (x:=y-1) (by omega);unfold zN;grind
 have zero:zN m t t=0:=by unfold zN;omega
 refine ald (λy k hy=>?_) (λy n c e hn=>?_) (λ_=>?_) (λhn=>(hn (small x hx)).elim)
 ·obtain⟨rfl,_,rfl⟩:=hy;grind
 ·obtain⟨h1,h2,h3,rfl⟩:=h.awc e;refine⟨small y h1,?_⟩;have c1:=(h.cost h1).2;have c2:=(h.cost h2).2;rcases h3 with rfl|rfl
  ·by_cases k:y<t
   ·rw[on y (by omega) k];omega
   ·have:=back (y+1) h2 (by omega);rw[show y+1-1=y by omega]at this;omega
  ·by_cases k:t<y
   ·rw[back y h1 k];omega
   ·have:=on (y-1) (by omega) (by omega);rw[show y-1+1=y by omega]at this;omega
 ·have wy:∀(k:Nat) (y:Int),0<=y/\y<m.cs.length->(y-t).natAbs=k->Wy (fY m t) (fJ m) y (zN m t y):=by
   intro k;induction k with
   |zero=>
    intro y hy hk;obtain rfl:y=t:=by omega
    rw[zero];exact .src ⟨rfl,h.Df ht,rfl⟩
   |succ k ih=>
    intro y hy hk;by_cases l:y<t
    ·rw[on y (by omega) l];refine .go ⟨h.Df hy,h.Df (by omega),⟨p,h.pq.1,?_⟩,rfl⟩ (ih (y+1) (by omega) (by omega));rw[h.step hy h.pq.1,if_pos rfl,zP]
    ·rw[back y hy (by omega)];refine .go ⟨h.Df hy,h.Df (by omega),⟨q,h.pq.2.1,?_⟩,rfl⟩ (ih (y-1) (by omega) (by omega));rw[h.step hy h.pq.2.1,if_neg (λe=>h.pq.2.2 e.symm),if_pos rfl]
  exact wy _ x hx rfl
def nB.o8 (h:nB m p q)(ht:0<=t/\t<m.cs.length)(hx:0<=x/\x<m.cs.length)(hne:x≠t):o8 m t x=if x<t then p else q:=by
 have hD:=h.D ht hx;have hsz:=afE h.may;have hlt:S.D m t x<bW:=by have h1:=FU h (t+1).toNat (by omega);have h2:=FU h (x+1).toNat (by omega);have h3:=FU h t.toNat (by omega);have h4:=FU h x.toNat (by omega);rw[hD];unfold zN bW;omega
 obtain⟨hr,⟨h0,hop,he⟩,_⟩:=aiy h.may hlt hne;have hst:=h.step hx hr;generalize S.o8 m t x=s at*;rw[hst]at h0 he;have c0:=(h.cost hx);by_cases e1:s=p
 ·subst e1;rw[if_pos rfl]at h0 he;split at h0
  ·rename_i hlx;rw[if_pos hlx]at he;split
   ·rfl
   ·exfalso;rw[hD,h.D ht (by omega)]at he;have c1:=h.cost (x:=x+1) (by omega);have p1:=aaV h hx;unfold zN at he;omega
  ·omega
 ·rw[if_neg e1]at h0 he;split at h0
  ·rename_i e2;subst e2;split
   ·exfalso;rw[hD,h.D ht (by omega)]at he;have c1:=h.cost (x:=x-1) (by omega);have p1:=aaV h hx;unfold zN at he;grind
   ·rfl
  ·omega
end
end Go.Proofs.YtmegplnmiepfbaaGreatDoor.S
set_option maxRecDepth 20000
namespace Go.Proofs.YtmegplnmiepfbaaGreatDoor.S
open Go.Sx
attribute [local irreducible] af cq bq bf aB bY bT St Bx Al App cu cg b_ bR aK bw aq bP av aj aU mapA
def HZ:bN:=⟨3,1,[5,2,9]⟩
def K3:nB HZ 1 3:=⟨⟨by decide,by decide,by decide,by decide⟩,by decide,.inl ⟨rfl,rfl,rfl⟩⟩
def akF:D HZ 2 0=11/\o8 HZ 2 0=1:=⟨(K3.D (by decide) (by decide)).trans (by decide),(K3.o8 (by decide) (by decide) (by decide)).trans (by decide)⟩
def aw1 {q:iO}:iP q (PM HZ)=(⟨q.most,ldP q.bX HZ,some ⟨q.most,0,[]⟩⟩,oF 0):=ai8 K3.may
def aaW {q:iO}{o:A1}{mp:zH}{u:sG}(hm:DD o=true)(hk:o.k≠0/\o.k≠1/\o.k≠8)(h1:q.bX.o=some mp)(h2:q.us=some u):iP q o=RX q mp.g.m u o:=by unfold iP;grind
def aw2 {q:iO}{mp:zH}(h1:q.bX.o=some mp)(hg:mp.g.m=HZ)(h2:q.us=some ⟨2,0,[]⟩):iP q ⟨3,0,2,[]⟩=(⟨q.most,q.bX,some ⟨2,1,[⟨0,0,2⟩]⟩⟩,⟨0,0,5,0,[],[]⟩):=by rw[aaW (by decide) (by decide) h1 h2,hg];rfl
def aw3 {q:iO}{mp:zH}{u:sG}(h1:q.bX.o=some mp)(hg:mp.g.m=HZ)(h2:q.us=some u):iP q ⟨6,2,0,[]⟩=(⟨q.most,yN q.bX 2 (cO HZ 0),some u⟩,⟨0,11,1,-1,[],[]⟩):=by
 rw[aaW (by decide) (by decide) h1 h2,hg];have e:RX q HZ u ⟨6,2,0,[]⟩=(⟨q.most,yN q.bX 2 (cO HZ 0),some u⟩,⟨0,D HZ 2 0,o8 HZ 2 0,-1,[],[]⟩):=by rw[RX,if_neg (by decide),if_neg (by decide),if_neg (by decide),if_neg (by decide),if_pos rfl,if_pos (by decide)]
 rw[e,akF.1,akF.2]
def aw4 {q:iO}{mp:zH}(h1:q.bX.o=some mp)(hg:mp.g.m=HZ)(h2:q.us=some ⟨2,1,[⟨0,0,2⟩]⟩):(iP q ⟨7,0,0,[]⟩).1.us=some ⟨2,1,[⟨0,1,2⟩]⟩/\(iP q ⟨7,0,0,[]⟩).2=⟨0,0,5,-1,[(0,1)],[]⟩:=by
 rw[aaW (by decide) (by decide) h1 h2,hg];have e:nA HZ [⟨0,0,2⟩]=[1]:=by show[o8 HZ 2 0]=[1];rw[akF.2]
 rw[RX,e];exact⟨rfl,rfl⟩
section
variable {F:Nat->Prop}{W w:World}{L:List As}{lg:yK}{r:Gd}{y:AN}
def ap7 {u:sG}(h:y.p.us=some u):∃x,y.cr=some x/\x.y=u:=by have h:y.cr.map (·.y)=some u:=h;simp_all
def aia {Q:Bool->World->Prop}(hL:iF w lg)(s0:Sep F W w L)(h:∀w',Sep F W w' L->Fr No w w'->Q true w'):vl w Q:=by
 apply LF;refine RY (by decide) (by decide) (bt (F:=No)) λr y w1 ey s=>?_;have i0:Ge 0 y.p:=by rw[ey];exact ap6 (by decide)
 apply l9;refine aS s λpb w1 s=>?_;refine aY s λmb w1 s=>?_
 iterate 3 refine sT s 0 rfl λw1 s=>?_
 refine lI s 0 rfl (lI s 0 rfl (lS s 0 rfl ?_));have hC:=aaQ (ns:=[5,2,9]) s (i:=1) rfl;refine O.RZ s hC K3.may λra rn rc w1 s _=>?_;have s:=pk 4 [3,0,1,2] s;have o1:=ai7 K3.may (by decide);refine aaU hL o1 (λw' s'=>aL s' (i:=0) rfl cY (by decide)) (i0.sm (by decide)) s λr1 y1 ma mn mc ga gn gc ab w1 er ey1 s=>?_;rw[<-er];have i1:Ge 1 y1.p:=by rw[ey1];exact VQ i0 o1
 obtain⟨mp1,h1,g1,u1⟩:∃mp,y1.p.bX.o=some mp/\mp.g.m=HZ/\y1.p.us=some ⟨2,0,[]⟩:=by rw[ey1,aw1,ey];exact⟨_,rfl,rfl,rfl⟩
 have s:=pk 4 [3,0,1,2] s;refine aaU hL (xl (by decide)) (λw' s'=>tS) (i1.sm (by decide)) s λr2 y2 ma mn mc ga gn gc bb w1 er Pw s=>?_;rw[<-er];have i2:Ge 2 y2.p:=by rw[Pw];exact VQ i1 (xl (by decide))
 rw[aw2 h1 g1 u1]at Pw s;have h2:y2.p.bX.o=some mp1:=by rw[Pw];exact h1
 have u2:y2.p.us=some ⟨2,1,[⟨0,0,2⟩]⟩:=by rw[Pw]
 have s:=pk 4 [3,0,1,2] s;refine aaU hL (xl (by decide)) (λw' s'=>tS) (i2.sm (by decide)) s λr3 y3 ma mn mc ga gn gc cb w1 er ey3 s=>?_;rw[<-er];have i3:Ge 3 y3.p:=by rw[ey3];exact VQ i2 (xl (by decide))
 rw[aw3 h2 g1 u2]at ey3 s;obtain⟨mp3,h3,g3⟩:=Hg h2 2 (cO HZ 0);have h3:y3.p.bX.o=some mp3:=by rw[ey3];exact h3
 have u3:y3.p.us=some ⟨2,1,[⟨0,0,2⟩]⟩:=by rw[ey3]
 rw[<-g3]at g1;have s:=pk 4 [3,0,1,2] s;refine aaU hL (xl (by decide)) (λw' s'=>tS) (i3.sm (by decide)) s λr4 y4 ma mn mc ga gn gc db w1 er ey4 s=>?_;rw[<-er];obtain⟨u4,q4⟩:=aw4 h3 g1 u3;rw[<-ey4]at u4;rw[q4]at s;apply lI s 10 rfl;show cond true _ _;apply lI s 7 rfl;show cond true _ _;apply lI s 4 rfl;show cond true _ _;apply lI s 4 rfl;show cond true _ _;apply lS s 0 rfl;refine aS s λxb w1 s=>?_;have s:Sep No w w1 (aj (sZ xb) 1 1 51 2 (flat kY [(0,1)])::_):=iS s (i:=0) rfl rfl (by decide) (λu hu=>by rcases List.mem_cons.1 hu with rfl|hu;rfl;rcases List.mem_cons.1 hu with rfl|hu;rfl;cases hu);have hX:=aL s (i:=2) rfl HY (by decide);have hY:=aL s (i:=0) rfl HY (by decide);have hl:=hX.len;refine ah_ hX hY s (by simp at hl;omega) λw1 s _=>?_;obtain⟨x,hx,ex⟩:=ap7 u4;have s:=pk 5 [4,0,1,2,3] s;refine MB hx s λua un uc w1 s=>?_;have hU:=(aL s (i:=0) rfl BG (by decide)).len;rw[ex]at hU;have hU:1=un:=hU;rw[dK (show(un:Int)=1 by omega)];exact h w1 (bV s0 (au s)) (au s)
end
section
variable {F:Nat->Prop}{W w w0:World}{L:List As}{lg:yK}{r:Gd}{y:AN}{a ca la:Option Addr}{n c cn cc ln lc:Nat}{m:bN}{u:sG}{k t x:Int}
structure R0 (k:Int) (q:iO) (m:bN) (u:sG):Prop where
 I:Ge k q
 o:∃mp,q.bX.o=some mp/\mp.g.m=m
 us:q.us=some u
end
end Go.Proofs.YtmegplnmiepfbaaGreatDoor.S
namespace Go.Proofs.YtmegplnmiepfbaaGreatDoor.S
open Go.Sx
def ca (q:o_):Int:=q.past.a+(Vm q).a
def cb (q:o_):Int:=q.past.b+(Vm q).b
def cc (q:o_):Int:=q.past.c+q.sh.b
def cd (q:o_):Int:=q.past.d+q.sh.h
structure CtI (B:Int) (q:o_):Prop where
 p:0<=q.past.a/\0<=q.past.b/\0<=q.past.c/\0<=q.past.d
 n:0<=(Vm q).a/\0<=(Vm q).b
 s:0<=q.sh.b/\0<=q.sh.h
 le:ca q<=B/\cb q<=B/\cc q<=B/\cd q<=B
 vs:∀mp,q.o=some mp->(mp.Rh.length:Int)<=ej mp.g.m.w mp.g.m.h/\(mp.g.vs.length:Int)<=ej mp.g.m.w mp.g.m.h
structure Gr (q q':o_) (n p:Int):Prop where
 a:ca q'<=ca q+n
 b:cb q'<=cb q+p
 c:cc q'<=cc q+p
 d:cd q'<=cd q+p
set_option maxRecDepth 20000
section
variable {B t n p:Int}{q:iO}{mp:zH}{u:sG}{o:A1}
structure ayD (B:Int) (q q':o_) (w h d U:Int):Prop where
 c:CtI B q'
 g:Gr q q' (ej w h) (U+1)
 d:0<=d/\(d=bW\/d<=254*(w*h-1))
end
end Go.Proofs.YtmegplnmiepfbaaGreatDoor.S
set_option maxRecDepth 20000
namespace Go.Proofs.YtmegplnmiepfbaaGreatDoor.S
open Go.Sx
attribute [local irreducible] af cq bq bf aB bY bT St Bx Al App cu cg b_ bR aK bw aq bP av aj aU mapA
def gb (ws:List Bool)(k:Nat):Bool:=ws.getD k false
structure awd (w h:Int) (us:List aM) (ws:List Bool) (N:Nat):Prop where
 len:ws.length=N
 at_:∀c,bC w h c->gb ws c.toNat=stand us c
section
variable {W:World}{lg:yK}{r:Gd}{y:AN}{a ua ia ma ga xa:Option Addr}{vb an n c un uc ic mn mc gn gc xn xc:Nat}{fH:Ex}{m:bN}{us:List aM}{M:List (Int×Int)}{G ds:List Int}{tk dd:Int}
structure TkI (m:bN) (us:List aM) (ds:List Int) (M:List (Int×Int)) (G:List Int) (n i:Nat) (done:List aM) (todo:List (aM×Int)) (mv:List (Int×Int)) (gs:List Int) (ws:List Bool):Prop where
 td:todo=(us.zip ds).drop i
 M:M=mv++(cK m.w m.h done todo).2.1
 G:G=gs++(cK m.w m.h done todo).2.2
 U:nk m.w m.h (done++todo.map (·.1))
 W:awd m.w m.h (done++todo.map (·.1)) ws n
 mv:mv.length<=i
 gs:gs.length<=i
end
end Go.Proofs.YtmegplnmiepfbaaGreatDoor.S
namespace Go.Proofs.YtmegplnmiepfbaaGreatDoor.S
open Go.Sx
def nx (q:iO):Int:=match q.us with|some u=>u.next|none=>0
def Rq (q:iO):List Int:=match q.us with|some u=>u.us.map (·.id)|none=>[]
inductive azr (q q':iO) (o:A1) (a:YX):Prop
 |load (hk:o.k=1) (hc:a.code=0) (hm:a.FP=[]) (hg:a.gone=[]) (hn:nx q'=0) (hi:Rq q'=[])
 |spawn (hk:o.k=3) (hc:a.code=0) (yW:a.id=nx q) (hm:a.FP=[]) (hg:a.gone=[]) (hn:nx q'=nx q+1) (hi:Rq q'=Rq q++[nx q])
 |drop (hk:o.k=5/\a.code=0\/o.k=4/\a.code=13) (hm:a.FP=[]) (hg:a.gone=[]) (hn:nx q'=nx q) (hA:o.A∈Rq q) (hi:Rq q'=(Rq q).filter λx=>!decide (x=o.A))
 |none (h1:¬(o.k=1/\a.code=0)) (h3:¬(o.k=3/\a.code=0)) (h5:¬(o.k=5/\a.code=0)) (h4:¬(o.k=4/\a.code=13)) (hm:∀p∈a.FP,p.1∈Rq q) (hn:nx q'=nx q) (hp:(Rq q'++a.gone).Perm (Rq q))
structure ayE (S:List Int) (lv:List Bool):Prop where
 len:lv.length=60
 at_:∀i:Nat,i<60->gb lv i=decide ((i:Int)∈S)
def below (S:List Int)(p:Nat):Nat:=(S.filter λx=>decide (x<(p:Int))).length
end Go.Proofs.YtmegplnmiepfbaaGreatDoor.S
set_option maxRecDepth 20000
namespace Go.Proofs.YtmegplnmiepfbaaGreatDoor.S
open Go.Sx
attribute [local irreducible] af cq bq bf aB bY bT St Bx Al App cu cg b_ bR aK bw aq bP av aj aU mapA
def R0.mono {k k':Int}{q:iO}{m:bN}{u:sG}(h:R0 k q m u)(hk:k<=k'):R0 k' q m u:=⟨h.I.mono hk,h.o,h.us⟩
def arj {k:Int}{q:iO}{m:bN}{u:sG}(h:R0 k q m u):R0 (k+1) (iP q ⟨7,0,0,[]⟩).1 m (He m.w m.h u (nA m u.us))/\(iP q ⟨7,0,0,[]⟩).2=⟨0,0,5,-1,(cK m.w m.h [] (u.us.zip (nA m u.us))).2.1,(cK m.w m.h [] (u.us.zip (nA m u.us))).2.2⟩:=by obtain⟨mp,h1,rfl⟩:=h.o;have hi:=VQ h.I (xl (k:=7) (A:=0) (B:=0) (by decide));rw[aaW (by decide) (by decide) h1 h.us]at hi⊢;unfold RX at hi⊢;rw[if_neg (by decide),if_neg (by decide),if_neg (by decide),if_neg (by decide),if_neg (by decide)]at hi⊢;obtain⟨RW,e1,e2⟩:=FO (l6 mp.g.m.w mp.g.m.h u.us) h1;exact⟨⟨hi,⟨RW,e1,by rw[e2]⟩,rfl⟩,rfl⟩
end Go.Proofs.YtmegplnmiepfbaaGreatDoor.S
namespace Go.Proofs.YtmegplnmiepfbaaGreatDoor.S
open Go.Sx
abbrev two (N c0 c1:Int):List aM:=[⟨0,c0,N-1⟩,⟨1,c1,0⟩]
section
variable {m:bN}{p q c0 c1 N:Int}
def apc (h:nB m p q)(hN:N=m.cs.length)(hc:0<=c0/\c0<c1/\c1<N):nA m (two N c0 c1)=[p,q]:=by show[o8 m (N-1) c0,o8 m 0 c1]=_;rw[h.o8 (by omega) (by omega) (by omega),h.o8 (by omega) (by omega) (by omega),if_pos (by omega),if_neg (by omega)]
def apd (h:nB m p q)(hN:N=m.cs.length)(hc:0<=c0/\c0<c1/\c1<N):
  ∃d0 d1 mv,(0<=d0/\d0<d1/\d1<N)/\cK m.w m.h [] ((two N c0 c1).zip (nA m (two N c0 c1)))=(two N d0 d1,mv,[])/\(c1=c0+1->mv=[])/\(d1=d0+1\/d1-d0<=c1-c0-2):=by
 rw[apc h hN hc];show∃d0 d1 mv,_/\cK m.w m.h [] [(⟨0,c0,N-1⟩,p),(⟨1,c1,0⟩,q)]=_/\_;have hpq:=h.pq;have s0:aX m.w m.h c0 p=c0+1:=by rw[h.step (by omega) hpq.1,if_pos rfl,if_pos (by omega)]
 have s1:aX m.w m.h c1 q=c1-1:=by rw[h.step (by omega) hpq.2.1,if_neg (λe=>hpq.2.2 e.symm),if_pos rfl]
 by_cases g0:c1=c0+1
 ·have b0:mF m.w m.h ([]++(⟨0,c0,N-1⟩:aM)::([(⟨1,c1,0⟩,q)]:List (aM×Int)).map (·.1)) ⟨0,c0,N-1⟩ p=false:=by unfold mF;simp only[s0];simp[stand,g0]
  have b1:mF m.w m.h (([]++[(⟨0,c0,N-1⟩:aM)])++(⟨1,c1,0⟩:aM)::([]:List (aM×Int)).map (·.1)) ⟨1,c1,0⟩ q=false:=by
   unfold mF;simp only[s1];have:c0=c1-1:=by omega
   simp[stand,this]
  rw[zJ b0,zJ b1];exact⟨c0,c1,[],hc,rfl,λ_=>rfl,.inl g0⟩
 ·have b0:mF m.w m.h ([]++(⟨0,c0,N-1⟩:aM)::([(⟨1,c1,0⟩,q)]:List (aM×Int)).map (·.1)) ⟨0,c0,N-1⟩ p=true:=by
   unfold mF;simp only[s0];have:¬c0=c0+1:=by omega
   have:0<=c0+1:=by omega
   simp[stand, *]
  have w0:kX m.w m.h ⟨0,c0,N-1⟩ p=[⟨0,c0+1,N-1⟩]:=by unfold kX;simp only[s0];rw[if_neg (by omega)]
  rw[BK b0,w0,if_neg (by simp only[s0];omega),s0];by_cases g1:c1=c0+2
  ·have b1:mF m.w m.h (([]++[(⟨0,c0+1,N-1⟩:aM)])++(⟨1,c1,0⟩:aM)::([]:List (aM×Int)).map (·.1)) ⟨1,c1,0⟩ q=false:=by
    unfold mF;simp only[s1];have:c0+1=c1-1:=by omega
    simp[stand,this]
   rw[zJ b1];exact⟨c0+1,c1,_,by omega,rfl,λe=>(g0 e).elim,.inl (by omega)⟩
  ·have b1:mF m.w m.h (([]++[(⟨0,c0+1,N-1⟩:aM)])++(⟨1,c1,0⟩:aM)::([]:List (aM×Int)).map (·.1)) ⟨1,c1,0⟩ q=true:=by
    unfold mF;simp only[s1];have h1:¬c0+1=c1-1:=by omega
    have h2:¬c1=c1-1:=by omega
    have h3:1<=c1:=by omega
    simp[stand,h1,h2,h3]
   have w1:kX m.w m.h ⟨1,c1,0⟩ q=[⟨1,c1-1,0⟩]:=by unfold kX;simp only[s1];rw[if_neg (by omega)]
   rw[BK b1,w1,if_neg (by simp only[s1];omega)];exact⟨c0+1,c1-1,_,by omega,rfl,λe=>(g0 e).elim,.inr (by omega)⟩
def ate {k:Int}{v:iO}(h:nB m p q)(hN:N=m.cs.length)(hc:0<=c0/\c0<c1/\c1<N)(hq:R0 k v m ⟨2,2,two N c0 c1⟩):
  ∃d0 d1 mv,(0<=d0/\d0<d1/\d1<N)/\R0 (k+1) (iP v ⟨7,0,0,[]⟩).1 m ⟨2,2,two N d0 d1⟩/\(iP v ⟨7,0,0,[]⟩).2=⟨0,0,5,-1,mv,[]⟩/\(c1=c0+1->mv=[])/\(d1=d0+1\/d1-d0<=c1-c0-2):=by
 obtain⟨d0,d1,mv,h1,h2,h3,h4⟩:=apd h hN hc;obtain⟨t1,t2⟩:=arj hq;rw[h2]at t2;unfold He at t1;rw[h2]at t1;exact⟨d0,d1,mv,h1,t1,t2,h3,h4⟩
def ahr {k A B:Int}{v:iO}{u:sG}(hq:R0 k v m u)(hA:bC m.w m.h A)(hB:bC m.w m.h B)(ho:cH m A≠255)(hs:ow m.w m.h u A B=0):
  R0 (k+1) (iP v ⟨3,A,B,[]⟩).1 m (KT u A B)/\(iP v ⟨3,A,B,[]⟩).2=⟨0,0,5,u.next,[],[]⟩:=by
 obtain⟨mp,h1,rfl⟩:=hq.o;have hi:=VQ hq.I (xl (k:=3) (A:=A) (B:=B) (by decide));have r1:=Hv hA;have r2:=Hv hB;have hm:DD ⟨3,A,B,[]⟩=true:=(anO (by simp) (by omega) (by omega) (λh=>absurd h (by decide)) λh=>absurd h (by decide)).may;rw[aaW hm (show(3:Int)≠0/\(3:Int)≠1/\(3:Int)≠8 by decide) h1 hq.us]at hi⊢;unfold RX at hi⊢;rw[if_neg (show¬(3:Int)=2 by decide),if_pos rfl,if_neg (λh=>h ⟨hA,hB⟩),if_neg ho,if_neg (λh=>h hs)]at hi⊢;exact⟨⟨hi,⟨mp,h1,rfl⟩,rfl⟩,rfl⟩
def ang (h:nB m p q)(hN:N=m.cs.length)(hn:2<=N):ow m.w m.h ⟨2,0,[]⟩ 0 (N-1)=0/\ow m.w m.h ⟨2,1,[⟨0,0,N-1⟩]⟩ (N-1) 0=0/\bC m.w m.h 0/\bC m.w m.h (N-1)/\cH m 0≠255/\cH m (N-1)≠255:=by
 have i0:=h.bC (x:=0) (by omega);have i1:=h.bC (x:=N-1) (by omega);have c0:=h.cost (x:=0) (by omega);have c1:=h.cost (x:=N-1) (by omega);have hw:tQ [(⟨0,0,N-1⟩:aM)] (N-1)=-1:=by refine DZ ?_;simp;omega
 refine⟨?_,?_,i0,i1,by omega,by omega⟩
 ·unfold ow;rw[if_neg (λh=>h ⟨i0,i1⟩),if_neg (λh=>h rfl),if_neg (by decide),if_neg (by omega)]
 ·unfold ow;rw[if_neg (λh=>h ⟨i1,i0⟩),if_neg (λh=>h hw),if_neg (by simp),if_neg (by omega)]
end
end Go.Proofs.YtmegplnmiepfbaaGreatDoor.S
set_option maxRecDepth 20000
namespace Go.Proofs.YtmegplnmiepfbaaGreatDoor.S
open Go.Sx
attribute [local irreducible] af cq bq bf aB bY bT St Bx Al App cu cg b_ bR aK bw aq bP av aj aU mapA
section
variable {W:World}{lg:yK}{m:bN}{p q N kk:Int}{ca la xa a:Option Addr}{cn cc mb n c:Nat}{cs:List Int}{tk:Int}
def anh {Q:Bool->WP}(hL:iF W lg)(h:nB m p q)(hN:N=m.cs.length)(hn:2<=N/\N<=60)(hkk:0<=kk/\kk<=150)(hQ:∀w',Sep No W w' []->Q true w'):
  ∀(j:Nat) (i c0 c1:Int) (w:World) (r:Gd) (y:AN),i+j=kk->0<=i->(0<=c0/\c0<c1/\c1<N)->(c1=c0+1\/c1-c0<=N-1-2*i)->R0 (100+i) y.p m ⟨2,2,two N c0 c1⟩->Sep No W w [gX r y]->
   jD Q (j+1) N (sZ r.p) kk i w:=by
 intro j;induction j with
 |zero=>
  intro i c0 c1 w r y hi h0 hc hg hq s;show jC _ _ _ _ _ _ _;unfold jC;rw[bp];obtain⟨x,hx,ex⟩:=ap7 hq.us;refine MB hx s λua un uc w s=>?_;rw[ex]at s;have hl:=(aL s (i:=0) rfl BG (by decide)).len;have hl:2=un:=hl;subst hl;have s:=ax s;refine aia (hL.fr (au s)) s λw s _=>?_;rw[cond_true,dK (show((2:Nat):Int)=2 from rfl),cond_true];have hU:=aL s (i:=0) rfl BG (by decide);have rd0:∀{K:Int->Prop},K c0->aH (0:Int) (2:Nat) (wA ua λl1=>af .i64 ((l1.add ((0:Int).toNat*3)).add 1) w K):=λg=>
   hU.El (k:=0) rfl (by decide) λp x hx hc=>by cases hx;exact aQ (hc 1 _ rfl) g
  have pC:∀{K:Int->Prop},K c1->aH (1:Int) (2:Nat) (wA ua λl1=>af .i64 ((l1.add ((1:Int).toNat*3)).add 1) w K):=λg=>
   hU.El (k:=1) rfl (by decide) λp x hx hc=>by cases hx;exact aQ (hc 1 _ rfl) g
  refine rd0 (pC ?_);rw[bJ];have s:=bV (bt (F:=No)) (au s);by_cases hk:kk<N
  ·rw[bJ];exact hQ w s
  ·rw[bp];refine rd0 (pC ?_);rw[aF,dK (by omega)];exact hQ w s
 |succ j ih=>
  intro i c0 c1 w r y hi h0 hc hg hq s;show jC _ _ _ _ _ _ _;unfold jC;rw[bJ];obtain⟨d0,d1,mv,h1,h2,h3,h4,h5⟩:=ate h hN hc hq;refine aaU (o:=⟨7,0,0,[]⟩) hL (xl (by decide)) (λw' s'=>tS) (hq.I.sm (by omega)) s λr' y' ma mn mc ga gn gc ab w er ey s=>?_;rw[h3]at s;rw[<-ey]at h2;have hml:=(aL s (i:=1) rfl HY (by decide)).len;have WV:=(aL s (i:=2) rfl cj (by decide)).len;have WV:0=gn:=WV;have hml:mv.length=mn:=hml;refine lI s 0 rfl ?_;rw[wv rfl,cond_false];refine lS s 0 rfl ?_;rw[wv (by omega),cond_false,aF];have fin:jD Q (j+1) N (sZ r.p) kk (i+1) w:=by rw[<-er];refine ih (i+1) d0 d1 w r' y' (by omega) (by omega) h1 (by omega) ?_ (pk 4 [3] s);rw[show 100+(i+1)=100+i+1 by omega];exact h2
  by_cases hiN:i≥N
  ·rw[bJ hiN];refine lS s 0 rfl ?_;have:=congrArg List.length (h4 (by omega));have:mv.length=0:=this;rw[wv (by omega),cond_false];exact fin
  ·rw[bp hiN];exact fin
def adS {Q:Bool->WP}{mw mh:Int}(hL:iF W lg)(atf:(mh=1/\mw=N)\/(mw=1/\mh=N))(hn:2<=N/\N<=60)(hnn:(n:Int)=N)(hC:Sl W ca cn cc 1 bA cs)(hcs:gu cs)(hcn:cn<9223372036854775808)(hQ:∀w',Sep No W w' []->Q true w'):
  ∀(j i:Nat) (ws:List Int) (w:World),i+j=n->ws.length=n->(∀k,k<i->1<=gi ws k/\gi ws k<=254)->Sep No W w [av mb 25 [ae mw,ae mh,.slice xa n c],aj xa n c 5 1 (flat bA ws)]->
   jS Q (j+1) ca cn cc tk N (aZ mb) (i:Int) w:=by
 intro j;induction j with
 |zero=>
  intro i ws w hi hl hw s;show jR _ _ _ _ _ _ _ _ _ _;unfold jR;rw[bp];have hall:∀x∈ws,1<=x/\x<=254:=λx hx=>by obtain⟨k,hk⟩:=List.mem_iff_getElem?.1 hx;have hkl:=(List.getElem?_eq_some_iff.1 hk).1;rw[gM hkl]at hk;cases hk;exact hw k (by omega)
  have hmay:c7 ⟨mw,mh,ws⟩:=by
   refine⟨?_,?_,?_,λx hx=>by have:=hall x hx;omega⟩
   ·show 1<=mw/\mw<=1024;omega
   ·show 1<=mh/\mh<=1024;omega
   ·show(ws.length:Int)=mw*mh;rcases atf with⟨e1,e2⟩|⟨e1,e2⟩
    ·rw[e1,Int.mul_one];omega
    ·rw[e1,Int.one_mul];omega
  obtain⟨p,q,ap8⟩:∃p q,nB ⟨mw,mh,ws⟩ p q:=by
   rcases atf with⟨e1,e2⟩|⟨e1,e2⟩
   ·exact⟨1,3,hmay,λx hx=>by have:=hall x hx;omega,.inl ⟨e1,rfl,rfl⟩⟩
   ·exact⟨2,0,hmay,λx hx=>by have:=hall x hx;omega,.inr ⟨e1,rfl,rfl⟩⟩
  have hN:N=((bN.mk mw mh ws).cs.length:Int):=by show N=(ws.length:Int);omega
  have ni:mw*mh<=1600:=by have:=hmay.len;have:(ws.length:Int)=mw*mh:=this;omega
  have RH:=ai7 hmay ni;refine RY (by decide) (by decide) s λr y w ey s=>l9 ?_;have hI:Ge 0 y.p:=by rw[ey];exact ap6 (k:=3) (by decide)
  refine lI s 1 rfl (lI s 1 rfl (lS s 1 rfl ?_));refine O.RZ (m:=⟨mw,mh,ws⟩) s (aL s (i:=2) rfl cY (by decide)) hmay λra rn rc w s _=>?_;have s:=pk 4 [1,0] s;refine FT (o:=PM ⟨mw,mh,ws⟩) hL RH (λw' s'=>aL s' (i:=0) rfl cY (by decide)) (hI.sm (by decide)) s λr1 y1 ma mn mc ga gn gc w er ey1 s=>?_;have q0:=VQ hI RH;rw[ai8 hmay]at ey1 q0⊢;rw[<-ey1]at q0;have hq:R0 1 y1.p ⟨mw,mh,ws⟩ ⟨2,0,[]⟩:=⟨q0,by rw[ey1];exact⟨_,rfl,rfl⟩,by rw[ey1,ey]⟩;rw[wv (show(oF 0).code=0 from rfl),cond_false,<-er];have hN1:IntKind.wrap .i64 (N-1)=N-1:=aF;rw[hN1];obtain⟨p1,p2,i0,i1,o0,o1⟩:=ang ap8 hN hn.1;obtain⟨a1,a2⟩:=ahr hq i0 i1 o0 p1;have s:=pk 4 [2] s;refine FT (o:=⟨3,0,N-1,[]⟩) hL (xl (by decide)) (λw' s'=>tS) (hq.I.sm (by decide)) s λr2 y2 ma mn mc ga gn gc w er Pw s=>?_;rw[a2,wv rfl,cond_false,<-er];rw[<-Pw]at a1;obtain⟨b1,b2⟩:=ahr (u:=⟨2,1,[⟨0,0,N-1⟩]⟩) a1 i1 i0 o1 p2;have s:=pk 3 [2] s;refine FT (o:=⟨3,N-1,0,[]⟩) hL (xl (by decide)) (λw' s'=>tS) (a1.I.sm (by decide)) s λr3 y3 ma mn mc ga gn gc w er ey3 s=>?_;rw[b2,wv rfl,cond_false,<-er];rw[<-ey3]at b1;have s:=pk 3 [2] s;refine Hp.oz (by decide) (by decide) (by decide) ?_;have h1:=Int.emod_nonneg tk (b:=150-0+1) (by omega);have h2:=Int.emod_lt_of_pos tk (b:=150-0+1) (by omega);exact⟨(0+tk%(150-0+1)).toNat+1,anh hL ap8 hN hn (by omega) hQ (0+tk%(150-0+1)).toNat 0 0 (N-1) w r3 y3 (by omega) (by omega) (by omega) (by omega) (R0.mono b1 (by omega)) s⟩
 |succ j ih=>
  intro i ws w hi hl hw s;show jR _ _ _ _ _ _ _ _ _ _;unfold jR;rw[bJ];refine lS s 0 rfl ?_;refine zz cY s (i:=1) (k:=i) (x':=1) rfl rfl (by omega) rfl rfl λw s=>?_;have hw1:∀(v:Int),1<=v/\v<=254->∀k,k<i+1->1<=gi (ws.set i v) k/\gi (ws.set i v) k<=254:=λv hv k hk=>by
   rw[Ts (by omega)];split
   ·exact hv
   ·exact hw k (by omega)
  by_cases hc:(cn:Int)>0
  ·rw[bJ hc];have s:=ax s;refine lS s 0 rfl ?_;refine⟨by omega,?_⟩;have wE:=hC.len;have e:Int.tmod (i:Int) (cn:Int)=((i%cn:Nat):Int):=(Int.ofNat_tmod i cn).symm;have hlt:i%cn<cn:=Nat.mod_lt _ (by omega);rw[e];refine(hC.fr (au s)).Co (k:=i%cn) rfl hlt ?_;have hr:=hcs _ (fy (l:=cs) (i:=i%cn) (by omega));refine⟨by decide,?_⟩;have e2:Int.tmod (gi cs (i%cn)) 254=gi cs (i%cn)%254:=Int.tmod_eq_emod_of_nonneg hr.1;have e3:IntKind.wrap .u8 (1+Int.tmod (gi cs (i%cn)) 254)=1+gi cs (i%cn)%254:=by rw[e2,wrap_u8 (by omega) (by omega)]
   rw[e3];refine zz cY s (i:=1) (k:=i) (x':=1+gi cs (i%cn)%254) rfl rfl (by rw[List.length_set];omega) rfl rfl λw s=>?_;rw[KU (by omega)];refine ih (i+1) ((ws.set i 1).set i (1+gi cs (i%cn)%254)) w (by omega) (by rw[List.length_set,List.length_set];exact hl) (λk hk=>?_) s;rw[List.set_set];exact hw1 _ (by omega) k hk
  ·rw[bp hc,KU (by omega)];exact ih (i+1) (ws.set i 1) w (by omega) (by rw[List.length_set];exact hl) (hw1 1 (by decide)) s
def WD {Q:Bool->WP}{akG:Int}{down:Bool}(hL:iF W lg)(hC:Sl W ca cn cc 1 bA cs)(hcs:gu cs)(hcn:cn<9223372036854775808)(hQ:∀w',Sep No W w' []->Q true w'):
  xm akG ca cn cc tk down W Q:=by
 refine FZ _ _ _ _ _ _ _ _ ?_;refine Hp.oz (by decide) (by decide) (by decide) ?_;have h1:=Int.emod_nonneg akG (b:=60-2+1) (by omega);have h2:=Int.emod_lt_of_pos akG (b:=60-2+1) (by omega);obtain⟨N,hN⟩:∃N,N=2+akG%(60-2+1):=⟨_,rfl⟩;rw[<-hN];refine uk (f:=bA) (x0:=0) (size:=1) (bytes:=1) (ln:=N.toNat) (cn:=N.toNat) dU (bt (F:=No)) rfl rfl rfl rfl rfl rfl (by decide) cY rfl (λu hu=>by cases List.mem_singleton.1 hu;rfl) (by omega) (by omega) (Nat.le_refl _) (by omega) (by simp only[maxLen];omega) λxb w s=>?_;refine aY s λmb w s=>?_;rw[av6]at s
 iterate 3 refine sT s 0 rfl λw s=>?_
 cases down with
 |true=>
  rw[cond_true]
  iterate 2 refine sT s 0 rfl λw s=>?_
  exact⟨N.toNat+1,adS hL (.inr ⟨rfl,rfl⟩) (by omega) (by omega) hC hcs hcn hQ N.toNat 0 _ w (by omega) List.length_replicate (λk hk=>by omega) s⟩
 |false=>
  rw[cond_false];exact⟨N.toNat+1,adS hL (.inl ⟨rfl,rfl⟩) (by omega) (by omega) hC hcs hcn hQ N.toNat 0 _ w (by omega) List.length_replicate (λk hk=>by omega) s⟩
end
end Go.Proofs.YtmegplnmiepfbaaGreatDoor.S
namespace Go.Sx
open Go.ChangeShapes Go.WideShapes Go.RowKit
def ani (X:World->Prop)(P:Program)(f:FuncId)(Tk:List Sh):Prop:=
 ∀(W:World) (args:List Value),X W->Ar W Tk args->aq P f args.toArray W λv W'=>dB v λr=>r=true/\Below W.heap.size W W'
def atj {H:Type}{enc:TypeId×Value->H}{C:Checked}{os:Os}{f:FuncId}{fn:Func}{s:ChangeSpec}{conds:List PathCond}{ts:List TypeId}{Tk:List Sh}{tb:TypeId}{fuel:Nat}{X:World->Prop}
  (hX:∀w w':World,w.heap=w'.heap->X w->X w')
  (own:ownKnob C.prog.godebug=none)(started:os.Started)(noInit:C.prog.inits.idxOf? f=none)(hfn:C.prog.funcs[f]? =some fn)
  (witness:∃(w:World) (tape:Tape) (i:Input),w.os=os/\(w.forCall tape i).Shaped C.prog/\i.vars=[]/\Input.okWide C.prog (w.forCall tape i) .any w.heap.size f i/\
   ((s.pre enc C.prog fn conds false (w.forCall tape i).memory i.args/\X (w.forCall tape i).memory)/\sizedMet enc C.prog fn (OpenSpec.ofChange s) false (w.forCall tape i).memory i.args)/\({}:Assume).holds C.prog (lone (Frame.enter C.prog f i.args .normal) [] (w.forCall tape i)))
  (hl:laidOutB C.prog=true)(hts:fn.params.toList=ts)(awe:ts.map (JA C.prog fuel)=Tk.map some)(hrd:(ts.all λt=>C.prog.readableRec t&&decide (t<C.prog.types.size))=true)
  (hvars:s.vars=[])(hres:fn.resultTypes=#[tb])(htb:C.prog.underlying tb=some .bool)
  (hspec:∀(ds:List (DataW H)),ds.length=ts.length->s.fn H ds={results:=[.lit (.bool true)],args:=ds})
  (law:ani X C.prog f Tk):
  ReturnsInHanded {} C os f .any (λw args=>(s.pre enc C.prog fn conds false w args/\X w)/\sizedMet enc C.prog fn (OpenSpec.ofChange s) false w args) (s.post enc C.prog fn false true false false):=by
 apply returnsInHanded_of_change_and (λw w' _ hh h=>hX w w' hh h) own started noInit hfn witness;intro W base args ds gs before hval hW _ _ hXW _;have hW':=hW;obtain⟨p,q,hA,hV,rfl,hfz,hnd⟩:=hW;rw[hvars]at hV;obtain⟨rfl,rfl⟩:=trodVars_none hV;rw[hts]at hA;have atg:=afn awe (λj t v ht hv=>hval j t v (by grind) (by grind)) hA;have hlt:∀x∈p,x.block<W.heap.size:=λx hx=>hW'.lt x (by simp[hx]);have hc:=law W args.toList hXW atg;unfold aq at hc;refine hc.mono λe W' he=>?_;cases e with
 |returned v=>
  obtain⟨r,rfl,rfl,bel⟩:=Gf he;have hsp:=hspec ds (Nu hA);refine⟨_,rfl,ds,[],p++[],[],p,[],hW',?_,?_,?_,bel.frame _,λh=>by cases h⟩
  ·rw[List.append_nil,hsp,hres];exact trodAll_mk1 (shut_bool htb _)
  ·rw[List.append_nil,hsp,hts];exact Rw hl bel hrd hA hlt
  ·rw[List.append_nil,hsp,hvars];simp[DataW.TrodVars]
 |_=>exact he.elim
end Go.Sx
namespace Go.Proofs.YtmegplnmiepfbaaGreatDoor.S
open Go.Sx
def ap9: "*"++ "errors.errorString"= "*errors.errorString":=by decide
def awf (u:TypeId)(h:P.typeName? 3 u=some "*errors.errorString"):u=401:=
 typeName_ptr_named (by rw[ap9];kernel_rfl) (by kernel_rfl) (by decide) u (by rw[ap9];exact h)
def ath:P.cellsOf 422=1:=by kernel_rfl
def ape:P.cellsOf 9=1:=by kernel_rfl
def RowsIn (W:World)(ps:List MemPlace):Prop:=∀b off,MemPlace.cell b off∈ps->(∃c t,W.heap[b]? =some (.cells c t (0,0)))/\∀u v,W.cell? ⟨b,off,none⟩=some (.iface u v)->Value.okWide P W .any 0 u v
set_option maxRecDepth 100000 in
theorem GV {W:World}{n:String}{g:Nat}{text:List UInt8}{rest:List (String×DataW Unit)}{ps:List MemPlace}(hg:P.globalNamed n=some g)(ht:(P.globals[g]?).map (·.type)=some 74)
  (h:DataW.LaidVars P W ((n,.iface "*errors.errorString" (.ptr (.agg [.lit (.string text)])))::rest) ps)(hr:RowsIn W ps):
  ∃a q,W.cell? ⟨g,0,none⟩=some (.iface 401 (.pointer (some a)))/\(∃c t,W.heap[a.block]? =some (.cells c t (0,0)))/\DataW.LaidVars P W rest q/\RowsIn W q/\ps=.cell g 0::.cell a.block a.off::q:=by
 obtain⟨g0,t0,cs,f,p,q,hg0,ht0,hv,hd,hq,rfl⟩:=h;obtain rfl:=Option.some.inj (hg.symm.trans hg0);obtain rfl:=Option.some.inj (ht.symm.trans ht0);obtain⟨l⟩:=cs;have ok:∀u v,l=[.iface u v]->Value.okWide P W .any 0 u v:=λu v e=>by subst e;exact(hr g 0 (by simp[MemPlace.row])).2 u v (by simpa using World.var?_cell hg hv 0)
 obtain⟨a,s,rfl,hc,hs,hz,rfl⟩:=errorString_of_trod Go.Proofs.Tryz.underlying74 awf Go.Proofs.Tryz.underlying401 Go.Proofs.Tryz.underlying422 rfl rfl Go.Proofs.Tryz.underlying9 ath ape hd ok;refine⟨a,q,by simpa using World.var?_cell hg hv 0,(hr a.block a.off (by simp[MemPlace.row])).1,hq,λb off hm=>hr b off (by simp[hm]),by simp[MemPlace.row]⟩
def akH:List (String×DataW Unit):=[("errors.errorType",Rows.laid_errors_errorType),("herdsman/pack.errEnd",Rows.laid_herdsman_pack_errEnd),("herdsman/pack.errForm",Rows.laid_herdsman_pack_errForm),("herdsman/nav.errNoMap",Rows.laid_herdsman_nav_errNoMap),("herdsman/nav.errBounds",Rows.laid_herdsman_nav_errBounds),("herdsman/nav.errField",Rows.laid_herdsman_nav_errField),("herdsman/svc.errScript",Rows.laid_herdsman_svc_errScript)]
def g1:P.globalNamed "errors.errorType"=some 1:=by kernel_rfl
def rtT:(P.cutTypes.find? (·.1== "internal/reflectlite.rtype")).map (·.2)=some 219:=by kernel_rfl
def ati:((List.range P.types.size).filter λt=>P.rowNamed t [101,114,114,111,114])=[74]:=by kernel_rfl
set_option maxRecDepth 100000 in
theorem apf {W:World}(h:laidMetH P akH W):∃lg,iF W lg:=by
 have h':laidMet P [("herdsman/pack.errEnd",Rows.laid_herdsman_pack_errEnd),("herdsman/pack.errForm",Rows.laid_herdsman_pack_errForm),("herdsman/nav.errNoMap",Rows.laid_herdsman_nav_errNoMap),("herdsman/nav.errBounds",Rows.laid_herdsman_nav_errBounds),("herdsman/nav.errField",Rows.laid_herdsman_nav_errField),("herdsman/svc.errScript",Rows.laid_herdsman_svc_errScript)] W/\handlesMet P [("errors.errorType",Rows.laid_errors_errorType)] W:=h;obtain⟨⟨ps,hv,hnd,hr⟩,hh⟩:=h';obtain⟨name,u,ty,e1,e2,e3,e4,e5⟩:=hh _ (List.mem_singleton.2 rfl);have en:=(Option.some.inj e1).symm;subst en;obtain rfl:=Option.some.inj (rtT.symm.trans e2);have hm:ty∈(List.range P.types.size).filter λt=>P.rowNamed t [101,114,114,111,114]:=List.mem_filter.2 ⟨List.mem_range.2 e3,e4⟩;rw[ati]at hm;obtain rfl:=List.mem_singleton.1 hm;have ht:typeHandle P 74=.pointer (some ⟨8,74,none⟩):=by kernel_rfl
 rw[ht]at e5;have hr:=hr;obtain⟨a6,q6,v6,b6,hv1,hr1,k6⟩:=GV (g:=6) (by kernel_rfl) (by kernel_rfl) hv hr;obtain⟨a5,q5,v5,b5,hv2,hr2,k5⟩:=GV (g:=5) (by kernel_rfl) (by kernel_rfl) hv1 hr1;obtain⟨a2,q2,v2,b2,hv3,hr3,k2⟩:=GV (g:=2) (by kernel_rfl) (by kernel_rfl) hv2 hr2;obtain⟨a3,q3,v3,b3,hv4,hr4,k3⟩:=GV (g:=3) (by kernel_rfl) (by kernel_rfl) hv3 hr3;obtain⟨a4,q4,v4,b4,hv5,hr5,k4⟩:=GV (g:=4) (by kernel_rfl) (by kernel_rfl) hv4 hr4;obtain⟨a0,q0,v0,b0,hv6,hr6,k0⟩:=GV (g:=0) (by kernel_rfl) (by kernel_rfl) hv5 hr5;subst k0 k4 k3 k2 k5 k6;refine⟨⟨a0,a2,a3,a4,a5,a6⟩,v0,by simpa[rt]using World.var?_cell g1 e5 0,v2,v3,v4,v5,v6,?_,?_,b2,b3,b5,b6⟩
 all_goals grind
end Go.Proofs.YtmegplnmiepfbaaGreatDoor.S
namespace Go.Proofs.YtmegplnmiepfbaaGreatDoor.S
open Go.Sx
def azs:Sh:=.agg 3 [(0,1,.int .i64),(1,1,.int .i64),(2,1,.int .i64)]
def ap_:ani (laidMetH P akH) P 3 [.int .i64,.sl 1 (.int .u8),.int .i64,.bool]:=by intro W args hX h;obtain⟨lg,hL⟩:=apf hX;obtain⟨v0,r,rfl,h0,h⟩:=Ar.cons h;obtain⟨v1,r,rfl,h1,h⟩:=Ar.cons h;obtain⟨v2,r,rfl,h2,h⟩:=Ar.cons h;obtain⟨v3,r,rfl,h3,h⟩:=Ar.cons h;obtain rfl:=Ar.nil h;obtain⟨x0,rfl,_⟩:=aij h0;obtain⟨a,n,c,cs,rfl,q1,q2,q3,q4,q5⟩:=anK h1;obtain⟨x2,rfl,_⟩:=aij h2;obtain⟨x3,rfl⟩:=anF h3;exact WD (Q:=λr W'=>r=true/\Go.RowKit.Below W.heap.size W W') hL ⟨q4,q1,q3⟩ (λx hx=>wf_u8 (q5 x hx)) (by simp only[maxLen]at*;omega) λw' s=>⟨rfl,ak_ s⟩
def acM (l:List UInt8):Obj:=.cells #[.string {data:=l.toArray}] 422 (0,0)
noncomputable def low:Nat:=(World.holding P default ⟨#[],#[],[]⟩).heap.size
def YY (v:Value):Obj->Obj
 |.cells _ t fz=>.cells #[v] t fz
 |o=>o
noncomputable def acN (k:Nat):Value:=.iface 401 (.pointer (some ⟨low+k,0,none⟩))
noncomputable def aue (os:Os):World:=
 let w0:=World.holding P os ⟨#[acM [116,104,101,32,98,121,116,101,115,32,101,110,100],acM [110,111,98,111,100,121,32,119,114,105,116,101,115,32,115,111],acM [116,104,101,114,101,32,105,115,32,110,111,32,109,97,112],
  acM [116,104,101,114,101,32,105,115,32,110,111,32,115,117,99,104,32,99,101,108,108,32,111,114,32,115,101,99,116,111,114],acM [116,104,101,114,101,32,105,115,32,110,111,32,115,117,99,104,32,102,105,101,108,100],acM [110,111,98,111,100,121,32,119,114,105,116,101,115,32,115,111]],#[],[]⟩
 {w0 with heap:=((((((w0.heap.modify 0 (YY (acN 5))).modify 1 (YY (.iface 219 (rt 74)))).modify 2 (YY (acN 2))).modify 3 (YY (acN 3))).modify 4 (YY (acN 4))).modify 5 (YY (acN 1))).modify 6 (YY (acN 0))}
set_option maxRecDepth 100000 in
theorem au7 (os:Os)(args:Array Value):laidMetH P akH ((aue os).forCall (λ_ _=>0) ⟨#[],args,[]⟩).memory:=
 laidMetH_of_parts (laidMet_of_run (ps:=[.cell 6 0,.cell low 0,.cell 5 0,.cell (low+1) 0,.cell 2 0,.cell (low+2) 0,.cell 3 0,.cell (low+3) 0,.cell 4 0,.cell (low+4) 0,.cell 0 0,.cell (low+5) 0]) 8 (by kernel_rfl) (by kernel_rfl) (by kernel_rfl)) (by kernel_rfl)
end Go.Proofs.YtmegplnmiepfbaaGreatDoor.S
