/- Part 6 of the proof. -/
import Derived.Test.YtmegplnmiepfbaaGreatDoorM4
import Derived.Test.YtmegplnmiepfbaaGreatDoorRows
import Derived.LaidLaws
import Derived.LaidHandle
import Derived.ChangeSame
import Derived.JoinedOf
set_option linter.unusedVariables false
set_option linter.unusedSimpArgs false
set_option linter.defProp false
set_option maxRecDepth 20000
namespace Go.Proofs.YtmegplnmiepfbaaGreatDoor.S
open Go.Sx
attribute [local irreducible] af cw bq bg aC cf bX St Bx Al App cA cq cm bT aI bw aq bR av aj aV mapA
def apk {m:bP}(hm:c8 m){t x:Int}:0<=pB m t x/\pB m t x<=5:=by
 by_cases hD:D m t x<bW
 ·by_cases hx:x=t
  ·unfold pB
   omega
  ·have:=(aiI hm hD hx).1
   omega
 ·unfold pB
  omega
section
variable {W w w0:World}{L:List As}{lg:yS}{r:Gs}{y:AU}{x:Gp}{m:kz}{ab:Nat}{A B k:Int}{e:Value}{a:Option Addr}{n c:Nat}
def akO {Q:Value->World->Prop}(hL:iK W lg)(uP:y.cr=some x)(ho:y.b_.o=some m)(s:Sep No W w (g9 r y::av ab 34 (K6 0 5 (-1) none 0 0 none 0 0)::L))
  (h:∀r' y' ma mn mc ga gn gc w',r'.p=r.p->y'.p=⟨y.most,FY y.p.b_ (mq m.g.m.w m.g.m.h x.y.us),some (Hu m.g.m.w m.g.m.h x.y (nK m.g.m x.y.us))⟩->
   Sep No W w' (aj ma mn mc 51 2 (flat k9 (cN m.g.m.w m.g.m.h [] (x.y.us.zip (nK m.g.m x.y.us))).2.1)::aj ga gn gc 3 1 (flat one (cN m.g.m.w m.g.m.h [] (x.y.us.zip (nK m.g.m x.y.us))).2.2)::g9 r' y'::av ab 34 (K6 0 5 (-1) ma mn mc ga gn gc)::L)->Q .nilIface w'):
  wX (sZ r.p) (sZ ab) w Q:=by
 apply Nm
 obtain⟨ok,⟨m',ho',hx⟩,s⟩:=uQ s uP
 rw[ho]at ho'
 cases ho'
 obtain⟨cok,cs⟩:=qJ (ai (ai s))
 have C2:=(uk (ai cs)).1
 have m6:=C2.nF
 have V3:=C2.most
 have PF:=C2.Pu
 have aqe:=cok.may
 rw[hx.1,hx.2.1]at aqe
 have hmay:=((sv (ai s) ho).ok.m m ho).g.may
 have F1:∀u∈x.y.us,ir u.id:=λu hu=>by have:=C2.jR u hu;unfold ir;omega
 refine ah (lP s 0 rfl ?_)
 refine C3 (pk 4 [2,0,1,3] s) λua un uc w s=>?_
 have hun:=(aK s (i:=0) rfl BL (by decide)).len
 have s:=pk 5 [3,2,0,1,4] s
 refine acU hL ho aqe F1 (by omega) (λw' s'=>aK s' (i:=0) rfl BL (by decide)) s λnr ny da dn dc w er ey s=>?_
 apply K3
 refine ah (lP s 2 rfl ?_)
 have s:=pk 6 [4,0,1,2,5] s
 refine Y4 (λw' s'=>aK s' (i:=0) rfl ct (by decide)) (by unfold nK;grind) (λd hd=>?_) s λcr ws ma mn mc ga gn gc w ec s=>?_
 ·obtain⟨u,_,rfl⟩:=List.mem_map.1 hd
  exact apk hmay
 ·refine ah (sT s 6 rfl λw s=>ah (ax s (i:=6) rfl rfl rfl λw s=>?_))
  apply Jz
  obtain⟨m2,ho2,em2⟩:∃m2,ny.o=some m2/\m2.g=m.g:=by
   obtain⟨Sm,h1,h2⟩:=FZ (mq m.g.m.w m.g.m.h x.y.us) (K4 ho)
   rw[<-ey]at h1
   obtain⟨m2,ho2,e2⟩:=RF h1
   refine⟨m2,ho2,?_⟩
   have:=congrArg zP.g e2
   exact this.trans h2
  rw[hx.1,hx.2.1]at s
  have s:=fT (A:=[_,_,_,_,_,_,_]) (B:=[EJ r.p (ae y.most) nr.p (.pointer (sZ cr.p)),gW nr ny,fO cr ⟨m.g.m.w,m.g.m.h,Hu m.g.m.w m.g.m.h x.y (nK m.g.m x.y.us),ws⟩,_,_,_]) [5,4,2,0,1,6] s (by rw[er,ec];rfl) (by decide)
  have s:=zj (r:=⟨r.p,nr,cr⟩) s ok.most ho2 (by rw[em2];exact⟨rfl,rfl,hx.2.2⟩)
  refine h ⟨r.p,nr,cr⟩ ⟨y.most,ny,some ⟨m.g.m.w,m.g.m.h,Hu m.g.m.w m.g.m.h x.y (nK m.g.m x.y.us),ws⟩⟩ ma mn mc ga gn gc w rfl ?_ (pk 4 [1,2,0,3] s)
  show iR.mk _ _ _=iR.mk _ _ _
  rw[ey]
  rfl
def aru {o:A6}(h:DK o=true)(hk:o.k≠0):(1<=o.k/\o.k<=8)/\(0<=o.A/\o.A<4294967296)/\(0<=o.B/\o.B<4294967296):=by
 unfold DK at h
 rw[if_neg hk]at h
 simp[Bool.and_eq_true]at h
 obtain⟨h1,h2,h3,_⟩:=h
 have h1:=of_decide_eq_true h1
 have hA:=JH.1 h2
 have hB:=JH.1 h3
 have:=anX o.k
 have pw:∀s:Nat,s<=4->(256:Int)^s<=4294967296:=λs hs=>by
  match s,hs with
  |0,_=>decide
  |1,_=>decide
  |2,_=>decide
  |3,_=>decide
  |4,_=>decide
 grind
def ahy {o:A6}(uP:y.cr=some x)(ho:y.b_.o=some m)(C8:o.k≠0)(hm:DK o=true)(h1:o.k≠1)(h8:o.k≠8):iS y.p o=Sn y.p m.g.m x.y o:=by
 have e1:y.p.b_.o=some m.p:=K4 ho
 have e2:y.p.us=some x.y:=by
  show y.cr.map _=_
  grind
 rw[iS,if_neg (by grind),if_neg h1,if_neg h8,e1,e2]
 rfl
def aup {Q:Value->World->Prop}{o:A6}{ob:Nat}(hL:iK W lg)(C8:o.k≠0)(hmay:DK o=true)(hr:gA o.m)(hn:n<=1000000000)(hM:∀w',Sep No W w' L->Sl w' a n c 1 bA o.m)
  (auq:o.k=1->FX o.m/\∀mp,kL o.m=some mp->mp.w*mp.h<=1600)(W9:zi y.p.b_<1000000000)(PF:∀u,y.p.us=some u->u.next<1000000000)(uP:o.k≠1->o.k≠8->y.cr≠none)
  (s:Sep No W w (av ob 38 [ae o.k,ae o.A,ae o.B,.slice a n c]::g9 r y::av ab 34 (K6 0 5 (-1) none 0 0 none 0 0)::L))(h:DoK lg W r.p ab L Q (iS y.p o)):
  ox Q (sZ r.p) (sZ ab) (aZ ob) w:=by
 obtain⟨hk,hA,hB⟩:=aru hmay C8
 have apl:ir o.A:=by unfold ir;omega
 have akP:o.k≠1->o.k≠8->∃x m,y.cr=some x/\y.b_.o=some m:=λh1 h8=>by
  have hne:=uP h1 h8
  cases hc:y.cr with
  |none=>exact(hne hc).elim
  |some x=>
   obtain⟨_,⟨m,hm,_⟩,_⟩:=uQ (ai s) hc
   exact⟨x,m,rfl,hm⟩
 refine lI s 0 rfl (lI s 0 rfl (lI s 0 rfl (lS s 0 rfl ?_)))
 have s:=jN s
 have b25:∀{e:Value} {cd:Int} {w:World},F2 lg e cd->Q e w->ff Q e w:=λhe hq=>by
  exact aa5 he hq
 have e0:F2 lg .nilIface 0:=.inl ⟨rfl,rfl⟩
 have fin:∀{q:iR×Y9} {r':Gs} {y':AU} {e:Value} {w:World},iS y.p o=q->r'.p=r.p->y'.p=q.1->F2 lg e q.2.code->q.2.F0=[]->q.2.gone=[]->Sep No W w (g9 r' y'::av ob 38 [ae o.k,ae o.A,ae o.B,.slice a n c]::av ab 34 (K6 q.2.d q.2.dir q.2.id none 0 0 none 0 0)::L)->ff Q e w:=λ{q r' y' e w} eq er ey he hm hg s=>by
  subst eq
  exact b25 he (VF h er ey he hm hg (gL s (.cons_cons _ (List.sublist_cons_self _ _))))
 refine aii (λhk=>akP (by omega) (by omega)) s (λm ho hb w s=>?_) λhc w s=>?_
 ·refine PI (aa5 (lg:=lg) (qK (by decide)) ?_)
  obtain⟨x,m',hx,hm'⟩:=akP (by omega) (by omega)
  rw[ho]at hm'
  cases hm'
  have e:iS y.p o=(y.p,oM 7):=by
   rw[ahy hx ho C8 hmay (by omega) (by omega)]
   unfold Sn
   rcases hb with⟨k2,hA⟩|⟨k3,hAB⟩
   ·rw[if_pos k2,if_pos hA]
   ·rw[vm,if_pos k3,if_pos hAB]
  rw[e]at h
  exact VF h rfl rfl (qK (by decide)) rfl rfl (gL s (.cons_cons _ (List.sublist_cons_self _ _)))
 apply K3
 apply lI s 1 rfl
 by_cases k1:o.k=1
 ·rw[dJ k1,cond_true]
  obtain⟨hh,m6⟩:=auq k1
  apply lS s 1 rfl
  have eq:∀q,(match kL o.m with|none=>(y.p,oM 6)|some mp=>(⟨y.p.most,ldP y.p.b_ mp,some ⟨y.p.most,0,[]⟩⟩,oM 0))=q->iS y.p o=q:=λq e=>by
   rw[iS,if_neg (by rw[hmay];simp[C8]),if_pos k1]
   exact e
  refine akM hL (λw' s'=>hM w' (ai (ai s'))) hn hr hh m6 W9 s (λhg w s=>?_) λmp hg r' y' w er ey s=>?_
  ·exact fin (q:=(y.p,oM 6)) (eq _ (by rw[hg])) rfl rfl (qK (by decide)) rfl rfl s
  ·exact fin (eq _ (by rw[hg])) er ey e0 rfl rfl s
 rw[cM k1,cond_false]
 by_cases k8:o.k=8
 ·rw[dJ k8,cond_true]
  have eq:iS y.p o=(⟨y.p.most,PJ y.p.b_,y.p.us⟩,oM 0):=by
   rw[iS,if_neg (by rw[hmay];simp[C8]),if_neg k1,if_pos k8]
  cases CI:y.cr with
  |none=>
   obtain⟨ok,hno,so⟩:=ahv s CI
   refine ah (lP so 0 rfl ?_)
   refine aaO hno (jN so) λnr x' w er ex s=>?_
   have s:=fT (A:=[_,_]) (B:=[EJ r.p (ae y.most) nr.p (.pointer none),_]) [1,0] s (by rw[er];rfl) (by decide)
   refine fin (r':=⟨r.p,nr,r.cr⟩) (y':=⟨y.most,⟨y.b_.k,x',none,y.b_.past⟩,none⟩) eq rfl ?_ e0 rfl rfl (ad3 s ok.most rfl)
   show iR.mk _ _ _=iR.mk _ _ _
   rw[y.b_.arq hno ex]
   show iR.mk _ _ _=iR.mk _ _ (y.cr.map _)
   rw[CI]
   rfl
  |some x=>
   obtain⟨ok,⟨m,ho,hx⟩,so⟩:=uQ s CI
   refine ah (lP so 0 rfl ?_)
   refine aaN ho (jN so) λnr x' w er ex s=>?_
   have s:=fT (A:=[_,_,_]) (B:=[EJ r.p (ae y.most) nr.p (.pointer (sZ r.cr.p)),_,_]) [1,0,2] s (by rw[er];rfl) (by decide)
   refine fin (r':=⟨r.p,nr,r.cr⟩) (y':=⟨y.most,⟨y.b_.k,x',some ⟨m.g,m.ms,⟨none,m.f.fA⟩⟩,y.b_.past⟩,some x⟩) eq rfl ?_ e0 rfl rfl (zj s ok.most rfl hx)
   show iR.mk _ _ _=iR.mk _ _ _
   rw[y.b_.aum ho ex]
   show iR.mk _ _ _=iR.mk _ _ (y.cr.map _)
   rw[CI]
   rfl
 rw[cM k8,cond_false]
 obtain⟨x,m,CI,ho⟩:=akP k1 k8
 have k_:=ahy CI ho C8 hmay k1 k8
 have Gk:y.p.us=some x.y:=by show y.cr.map _=_;rw[CI];rfl
 have PF:=PF x.y Gk
 unfold Sn at k_
 by_cases k2:o.k=2
 ·rw[dJ k2,cond_true]
  rw[if_pos k2]at k_
  have hAc:=(hc m ho).1 k2
  rw[if_neg (λe=>e hAc)]at k_
  refine lI s 1 rfl (lI s 1 rfl ?_)
  refine akN CI ho hAc W9 s (λhb w s=>?_) (λhb hw w s=>?_) λhb hw r' y' w er ey s=>?_
  ·rw[if_pos hb]at k_
   exact fin k_ rfl rfl (qK (by decide)) rfl rfl s
  ·rw[vm,if_pos hw]at k_
   exact fin k_ rfl rfl (qK (by decide)) rfl rfl s
  ·rw[vm,if_neg hw]at k_
   exact fin k_ er ey e0 rfl rfl s
 rw[cM k2,cond_false]
 rw[if_neg k2]at k_
 by_cases k3:o.k=3
 ·rw[dJ k3,cond_true]
  rw[if_pos k3]at k_
  have hAc:=(hc m ho).2 k3
  rw[if_neg (λe=>e hAc)]at k_
  refine lI s 1 rfl (lI s 1 rfl ?_)
  refine aij CI ho PF s (λh9 w s=>?_) (λh9 hb w s=>?_) λh9 hz r' y' w er ey s=>?_
  ·rw[if_pos h9]at k_
   refine ah (sT s 2 rfl λw s=>?_)
   exact fin k_ rfl rfl (qK (by decide)) rfl rfl s
  ·rw[if_neg h9,if_pos hb]at k_
   refine ah (sT s 2 rfl λw s=>?_)
   exact fin k_ rfl rfl (qK hb) rfl rfl s
  ·rw[if_neg h9,if_neg (λe=>e hz)]at k_
   refine ah (sT s 2 rfl λw s=>?_)
   exact fin k_ er ey e0 rfl rfl s
 rw[cM k3,cond_false]
 rw[if_neg k3]at k_
 obtain⟨ok,⟨m',ho',hx⟩,so⟩:=uQ s CI
 rw[ho]at ho'
 cases ho'
 have same:∀{w:World} {L:List As},Sep No W w (fO r.cr x::EJ r.p (ae y.most) r.b_.p (.pointer (sZ r.cr.p))::gW r.b_ y.b_::L)->Sep No W w (g9 r y::L):=λs=>by
  have s:=G7 ok hx CI ho ⟨rfl,rfl,rfl⟩ rfl s
  have e:(⟨y.most,y.b_,some x⟩:AU)=y:=by rw[<-CI]
  rw[e]at s
  exact s
 by_cases k4:o.k=4
 ·rw[dJ k4,cond_true]
  rw[if_pos k4]at k_
  have so:=ay so
  refine ah (lP so 0 rfl (lI so 3 rfl (lI so 3 rfl ?_)))
  rw[<-hx.1,<-hx.2.1]at k_
  refine Rz apl (pk 3 [2,0,1] so) (λhg w s=>?_) (λu hu hg w s=>?_) (λu hu hg hcg cr ws w ec s=>?_) λu hu hg hcg cr ws w ec s=>?_
  ·rw[hg]at k_
   exact JA (by decide) (fin k_ rfl rfl (qK (by decide)) rfl rfl (same s))
  ·rw[hu]at k_
   simp only at k_
   rw[if_pos hg]at k_
   exact JA (by decide) (fin k_ rfl rfl (qK (by decide)) rfl rfl (same s))
  ·rw[hu]at k_
   simp only at k_
   rw[if_neg (λe=>e hg),if_pos hcg]at k_
   exact JA (by decide) (fin (r':=⟨r.p,r.b_,cr⟩) k_ rfl rfl (qK (by decide)) rfl rfl (G7 (x':=⟨x.w,x.h,kK x.y o.A,ws⟩) ok hx CI ho ⟨rfl,rfl,rfl⟩ ec s))
  ·rw[hu]at k_
   simp only at k_
   rw[if_neg (λe=>e hg),if_neg hcg]at k_
   exact Jz (fin (r':=⟨r.p,r.b_,cr⟩) k_ rfl rfl e0 rfl rfl (G7 (x':=⟨x.w,x.h,vg x.y o.A λu=>⟨u.id,u.cell,o.B⟩,ws⟩) ok hx CI ho ⟨rfl,rfl,rfl⟩ ec s))
 rw[cM k4,cond_false]
 rw[if_neg k4]at k_
 by_cases k5:o.k=5
 ·rw[dJ k5,cond_true]
  rw[if_pos k5]at k_
  have so:=ay so
  refine ah (lP so 0 rfl (lI so 3 rfl ?_))
  refine Tn apl (pk 3 [2,0,1] so) (λhg w s=>?_) λu hu cr ws w ec s=>?_
  ·rw[hg]at k_
   exact JA (by decide) (fin k_ rfl rfl (qK (by decide)) rfl rfl (same s))
  ·rw[hu]at k_
   exact Jz (fin (r':=⟨r.p,r.b_,cr⟩) k_ rfl rfl e0 rfl rfl (G7 (x':=⟨x.w,x.h,kK x.y o.A,ws⟩) ok hx CI ho ⟨rfl,rfl,rfl⟩ ec s))
 rw[cM k5,cond_false]
 rw[if_neg k5]at k_
 by_cases k6:o.k=6
 ·rw[dJ k6,cond_true]
  rw[if_pos k6]at k_
  refine lI s 1 rfl (lI s 1 rfl ?_)
  have s:=pk 3 [0,2,1] s
  refine aik hL CI ho apl.wf s (λhn w s=>?_) λht hcB r' y' w er ey s=>?_
  ·rw[if_neg hn]at k_
   exact fin k_ rfl rfl (qK (by decide)) rfl rfl (pk 3 [0,2,1] s)
  ·rw[if_pos ⟨ht,hcB⟩]at k_
   exact fin k_ er ey e0 rfl rfl (pk 3 [0,2,1] s)
 rw[cM k6,cond_false]
 rw[if_neg k6]at k_
 have k7:o.k=7:=by omega
 rw[dJ k7,cond_true]
 have s:=pk 3 [0,2,1] s
 refine akO hL CI ho s λr' y' ma mn mc ga gn gc w er ey s=>?_
 rw[k_]at h
 exact b25 e0 (h r' y' _ ma mn mc ga gn gc w er ey e0 (pk 5 [0,1,2,3] s))
end
def azB:zc T 34=[ae 0,ae 0,ae 0,ae 0,.slice none 0 0,.slice none 0 0,.int .u64 0,.int .u64 0,.int .u64 0,.int .u64 0,.int .u64 0,.int .u64 0]:=rfl
structure acV (o:A6):Prop where
 jR:gA o.m
 len:o.m.length<=1100000
 load:o.k=1->FX o.m/\∀mp,kL o.m=some mp->mp.w*mp.h<=1600
structure akQ (q:iR):Prop where
 ep:zi q.b_<1000000000
 nx:∀u,q.us=some u->u.next<1000000000
section
variable {W w w0:World}{L:List As}{lg:yS}{r:Gs}{y:AU}{x:Gp}{m:kz}{ab:Nat}{o:A6}{a:Option Addr}{n c:Nat}
def ahz {Q:Value->World->Prop}(hL:iK W lg)(ho:acV o)(hM:∀w',Sep No W w' L->Sl w' a n c 1 bA o.m)(vq:akQ y.p)(s:Sep No W w (g9 r y::av ab 34 (K6 0 5 (-1) none 0 0 none 0 0)::L))(h:DoK lg W r.p ab L Q (iS y.p o)):
  zl (sZ r.p) o.k o.A o.B a n c (sZ ab) w Q:=by
 apply QX
 have hMw:=hM w (ai (ai s))
 have hn:n<=1100000:=by have:=hMw.len;have:=ho.len;omega
 refine aT s λob w s=>?_
 apply lI s 0 rfl
 have e5:F2 lg (sw lg.a0) 5:=.inr (.inr ⟨rfl,rfl⟩)
 have v0:∀{w:World} {L:List As},Sep No W w L->w.cell? (aZ 0)=some (sw lg.a0):=λs=>Fr.cell (au s) hL.v0 id
 have akR:∀{w:World} {A B C:As} {L:List As},Sep No W w (A::B::C::L)->Sep No W w (B::C::L):=λs=>ai s
 by_cases k0:o.k=0
 ·rw[dJ k0,cond_true]
  have e:iS y.p o=(y.p,oM 5):=by unfold iS;grind
  rw[e]at h
  exact mj (v0 s) rfl (aa5 e5 (VF h rfl rfl e5 rfl rfl (akR s)))
 rw[cM k0,cond_false]
 refine lI s 0 rfl (lI s 0 rfl (lI s 0 rfl (lS s 0 rfl ?_)))
 refine O.agh s (hM w (ai (ai (ai s)))) ho.jR (by omega) λw s _=>?_
 cases hm:DK o with
 |false=>
  have e:iS y.p o=(y.p,oM 5):=by unfold iS;grind
  rw[e]at h
  exact mj (v0 s) rfl (aa5 e5 (VF h rfl rfl e5 rfl rfl (akR s)))
 |true=>
  rw[Bool.not_true,cond_false]
  have b5:(o.k≠1->o.k≠8->y.cr≠none)->ox Q (sZ r.p) (sZ ab) (aZ ob) w:=λuP=>
   aup hL k0 hm ho.jR (by omega) hM ho.load vq.ep vq.nx uP s h
  cases CI:y.cr with
  |none=>
   obtain⟨ok,hno,so⟩:=ahv (ai s) CI
   refine ah (lP so 0 rfl ?_)
   show cond true _ _
   apply lI s 0 rfl
   by_cases k1:o.k=1
   ·grind
   ·rw[Fp k1,cond_true]
    apply lI s 0 rfl
    by_cases k8:o.k=8
    ·grind
    ·rw[Fp k8,cond_true]
     have e:iS y.p o=(y.p,oM 4):=by
      have e1:y.p.us=none:=by show y.cr.map _=none;rw[CI];rfl
      unfold iS
      grind
     rw[e]at h
     exact VF h rfl rfl (qK (by decide)) rfl rfl (akR s)
  |some x=>
   obtain⟨ok,_,so⟩:=uQ (ai s) CI
   refine ah (lP so 0 rfl ?_)
   show cond false _ _
   exact b5 λ_ _ e=>by rw[CI]at e;cases e
def aa6 {Q:Int->Int->Int->Int->Int->Int->World->Prop}(s:Sep No W w (g9 r y::L))(h:∀w',Sep No W w' (g9 r y::L)->Q (qe y.p.b_).a (qe y.p.b_).b (qe y.p.b_).c (qe y.p.b_).d (qe y.p.b_).e (qe y.p.b_).f w'):vw (sZ r.p) w Q:=by
 apply Le
 refine a_ s λp w s=>?_
 obtain⟨ok,so⟩:=Jy (ai s)
 apply Oe
 refine mz (ah (lP so 0 rfl ?_))
 obtain⟨_,so⟩:=Jy (jN s)
 have so:=jN so
 refine aaP so λw s=>?_
 have s:=jN s
 have s:Sep No W w (g9 r y::av p 32 _::L):=dX s ok
 rw[y.b_.all_eq]
 exact agX (jN s) λw s=>h w (ai s)
def MM {Q:Option Addr->Nat->Nat->World->Prop}(uP:y.cr=some x)(s:Sep No W w (g9 r y::L))(h:∀a n c w',Sep No W w' (aj a n c 43 3 (flat g8 x.y.us)::g9 r y::L)->Q a n c w'):pW (sZ r.p) w Q:=by
 apply LI
 obtain⟨ok,⟨m,ho,hx⟩,so⟩:=uQ s uP
 apply O6
 refine mz (ah (lP so 0 rfl ?_))
 refine C3 (pk 3 [2,0,1] so) λa n c w s=>?_
 have s:=zj (pk 4 [2,3,1,0] s) ok.most ho hx
 have e:(⟨y.most,y.b_,some x⟩:AU)=y:=by rw[<-uP]
 rw[e]at s
 exact h a n c w (jN s)
end
abbrev VG (code d dir id:Int)(ma:Option Addr)(mn mc:Nat)(ga:Option Addr)(gn gc:Nat)(q:EG):List Value:=[ae code,ae d,ae dir,ae id,.slice ma mn mc,.slice ga gn gc]++acH q
section
variable {W w w0:World}{L:List As}{lg:yS}{r:Gs}{y:AU}{x:Gp}{m:kz}{ab pb:Nat}{o:A6}{a:Option Addr}{n c:Nat}
def aur {Q:Int->Int->Int->Int->Option Addr->Nat->Nat->Option Addr->Nat->Nat->Int->Int->Int->Int->Int->Int->World->Prop}{code d dir id:Int}{ma ga:Option Addr}{mn mc gn gc:Nat}
  (s:Sep No W w (g9 r y::av ab 34 (VG code d dir id ma mn mc ga gn gc ⟨0,0,0,0,0,0⟩)::av pb 34 (VG 0 0 0 0 none 0 0 none 0 0 ⟨0,0,0,0,0,0⟩)::L))
  (h:∀w',Sep No W w' (g9 r y::L)->Q code d dir id ma mn mc ga gn gc (qe y.p.b_).a (qe y.p.b_).b (qe y.p.b_).c (qe y.p.b_).d (qe y.p.b_).e (qe y.p.b_).f w'):
  oy Q (sZ r.p) (aZ pb) (aZ ab) w:=by
 refine aa6 s λw s=>?_
 generalize qe y.p.b_=q at h⊢
 iterate 6 refine sT s 1 rfl λw s=>?_
 simp[List.set_cons_zero,List.set_cons_succ,VG,acH,List.cons_append,List.nil_append]at s
 refine lI s 1 rfl (lI s 1 rfl (lI s 1 rfl (lI s 1 rfl (lS s 1 rfl (lS s 1 rfl ?_)))))
 refine lI s 1 rfl (lI s 1 rfl (lI s 1 rfl (lI s 1 rfl (lI s 1 rfl (lI s 1 rfl ?_)))))
 iterate 12 refine ax s (i:=2) rfl rfl rfl λw s=>?_
 simp[List.set_cons_zero,List.set_cons_succ]at s
 refine lI s 2 rfl (lI s 2 rfl (lI s 2 rfl (lI s 2 rfl (lS s 2 rfl (lS s 2 rfl ?_)))))
 refine lI s 2 rfl (lI s 2 rfl (lI s 2 rfl (lI s 2 rfl (lI s 2 rfl (lI s 2 rfl ?_)))))
 exact h w (gL s (.cons_cons _ (.cons _ (.cons _ (List.Sublist.refl _)))))
def F3 {Q:Int->Int->Int->Int->Option Addr->Nat->Nat->Option Addr->Nat->Nat->Int->Int->Int->Int->Int->Int->World->Prop}(hL:iK W lg)(ho:acV o)(hM:∀w',Sep No W w' L->Sl w' a n c 1 bA o.m)(vq:akQ y.p)(s:Sep No W w (g9 r y::L))
  (h:∀r' y' ma mn mc ga gn gc w',r'.p=r.p->y'.p=(iS y.p o).1->Sep No W w' (aj ma mn mc 51 2 (flat k9 (iS y.p o).2.F0)::aj ga gn gc 3 1 (flat one (iS y.p o).2.gone)::g9 r' y'::L)->
   Q (iS y.p o).2.code (iS y.p o).2.d (iS y.p o).2.dir (iS y.p o).2.id ma mn mc ga gn gc (qe y'.p.b_).a (qe y'.p.b_).b (qe y'.p.b_).c (qe y'.p.b_).d (qe y'.p.b_).e (qe y'.p.b_).f w'):
  fF (sZ r.p) o.k o.A o.B a n c w Q:=by
 apply QY
 refine aT s λob w s=>?_
 refine a_ s λpb w s=>?_
 refine a_ s λab w s=>?_
 iterate 12 refine ax s (i:=0) rfl rfl rfl λw s=>?_
 apply mz
 refine ax s (i:=0) rfl rfl rfl λw s=>?_
 simp[List.set_cons_zero,List.set_cons_succ]at s
 refine lI s 2 rfl (lI s 2 rfl (lI s 2 rfl (lS s 2 rfl ?_)))
 have s:=pk 4 [3,0,1,2] s
 refine ahz hL ho (λw' s'=>hM w' (ai (ai s'))) vq s λr' y' e ma mn mc ga gn gc w er ey he s=>?_
 rw[<-er]
 have aqg:∀{w:World} {cd:Int},cd=(iS y.p o).2.code->Sep No W w (aj ma mn mc 51 2 (flat k9 (iS y.p o).2.F0)::aj ga gn gc 3 1 (flat one (iS y.p o).2.gone)::g9 r' y'::av ab 34 (VG cd (iS y.p o).2.d (iS y.p o).2.dir (iS y.p o).2.id ma mn mc ga gn gc ⟨0,0,0,0,0,0⟩)::av pb 34 (VG 0 0 0 0 none 0 0 none 0 0 ⟨0,0,0,0,0,0⟩)::L)->
   oy Q (sZ r'.p) (aZ pb) (aZ ab) w:=λ{w cd} ec s=>by
  subst ec
  have s:=pk 5 [2,3,4,0,1] s
  refine aur s λw s=>?_
  exact h r' y' ma mn mc ga gn gc w er ey (pk 3 [1,2,0] s)
 have tell:∀{e:Value},F2 lg e (iS y.p o).2.code->(iS y.p o).2.code≠0->∀{w:World},Sep No W w (aj ma mn mc 51 2 (flat k9 (iS y.p o).2.F0)::aj ga gn gc 3 1 (flat one (iS y.p o).2.gone)::g9 r' y'::av ab 34 (K6 (iS y.p o).2.d (iS y.p o).2.dir (iS y.p o).2.id ma mn mc ga gn gc)::av pb 34 (VG 0 0 0 0 none 0 0 none 0 0 ⟨0,0,0,0,0,0⟩)::av ob 38 [ae o.k,ae o.A,ae o.B,.slice a n c]::L)->
   af .i64 (aZ ob) w λk=>dV e λp=>Bx [ae k,p] 80 w λb w=>B0 (.iface 78 (.pointer (some b))) w λr w=>St (aZ ab) (ae r) w λw=>oy Q (sZ r'.p) (aZ pb) (aZ ab) w:=λ{e} he hne {w} s=>by
  refine lI s 5 rfl (aa5 he ?_)
  refine aT s λb w s=>?_
  refine akL hL he hne s λw s=>?_
  refine ax s (i:=4) rfl rfl rfl λw s=>?_
  exact aqg rfl (pk 7 [1,2,3,4,5] s)
 rcases he with⟨h0,rfl⟩|⟨hne,rfl⟩|⟨h5,rfl⟩
 ·apply K3
  exact aqg h0.symm (pk 6 [0,1,2,3,4] s)
 ·exact PI (tell (.inr (.inl ⟨hne,rfl⟩)) hne s)
 ·exact PI (tell (.inr (.inr ⟨h5,rfl⟩)) (by rw[h5];decide) s)
end
end Go.Proofs.YtmegplnmiepfbaaGreatDoor.S
namespace Go.Proofs.YtmegplnmiepfbaaGreatDoor.S.O
open Go.Sx
def ayl:zc T 84=[ae 0,ae 0,.slice none 0 0]:=rfl
attribute [local irreducible] af cw bq bg aC cf bX St Bx Al App cA cq cm bT aI bw aq bR av aj aV mapA
def ajh (a b:Int):EU a b=min a b:=by unfold EU;omega
section
variable {F:Nat->Prop}{W w w0:World}{L:List As}{a:Option Addr}{n c:Nat}{cs:List Int}
def akS {mw mh:Int}{Q:Bool->World->Prop}(hw:1<=mw/\mw<=1024)(hh:1<=mh/\mh<=1024)(h:Q true w):wY mw mh w Q:=by
 apply Nn
 apply Ft
 rw[bY hw]
 apply Ft
 grind
def G8 {mw mh:Int}{Q:Int->Int->World->Prop}(hw:1<=mw/\mw<=1024)(hh:1<=mh/\mh<=1024)(h:Q (cF mw) (cF mh) w):kC mw mh w Q:=by
 apply II
 apply akS hw hh
 refine⟨by decide,by decide,?_⟩
 simp(disch:=omega) only[wrap_i64,Int.tdiv_eq_ediv_of_nonneg]
 rw[show mw+16-1=mw+15 by omega,show mh+16-1=mh+15 by omega]
 exact h
def K7 {mw mh:Int}{Q:Int->World->Prop}(hw:1<=mw/\mw<=1024)(hh:1<=mh/\mh<=1024)(h:Q (d_ mw mh) w):oQ mw mh w Q:=by
 apply Kc
 apply G8 hw hh
 have:=gD hw hh
 unfold d_ at this h
 rw[aJ]
 exact h
def Xo {mw mh s:Int}{Q:Int->Int->World->Prop}(hw:1<=mw/\mw<=1024)(hh:1<=mh/\mh<=1024)(hs:0<=s/\s<d_ mw mh)(h:∀w',Fr No w w'->Q (aD mw mh s) (bu mw mh s) w'):pX mw mh s w Q:=by
 apply LF
 have hc:=gD hw hh
 have hx:=HF hw hh hs
 have ha:=Ef hw
 apply K7 hw hh
 rw[aJ]
 apply Ft
 rw[decide_eq_true (by omega),Bool.not_true,cond_false]
 apply G8 hw hh
 refine⟨by omega,by omega,?_⟩
 have:=h w.drew (Fr.refl)
 rw[Int.tmod_eq_emod_of_nonneg hs.1,Int.tdiv_eq_ediv_of_nonneg hs.1]
 simp(disch:=omega) only[wrap_i64]
 rw[ajh,ajh]
 exact this
def aeY {mw mh s l:Int}{Q:Int->World->Prop}(hw:1<=mw/\mw<=1024)(hh:1<=mh/\mh<=1024)(hs:0<=s/\s<d_ mw mh)(hl:0<=l/\l<aD mw mh s*bu mw mh s)(h:∀w',Fr No w w'->Q (bU mw mh s l) w'):
  tg mw mh s l w Q:=by
 apply Jg
 have hx:=HF hw hh hs
 have ha:=Ef hw
 have hz:=qw hw hh hs
 have b:=Int.mul_le_mul hz.1.2 hz.2.2 (by omega) (by decide)
 refine Xo hw hh hs λw f=>?_
 rw[aJ (n:=aD mw mh s*bu mw mh s),aJ]
 apply Ft
 rw[decide_eq_true (by omega),Bool.not_true,cond_false]
 apply G8 hw hh
 refine⟨by omega,by omega,by omega,by omega,?_⟩
 have:=h w.drew f
 have e1:0<=l/aD mw mh s/\l/aD mw mh s<bu mw mh s:=⟨Int.ediv_nonneg hl.1 (by omega),Int.ediv_lt_of_lt_mul (by omega) (by grind)⟩
 have e2:=Int.emod_nonneg l (b:=aD mw mh s) (by omega)
 have e3:=Int.emod_lt_of_pos l (b:=aD mw mh s) (by omega)
 rw[Int.tmod_eq_emod_of_nonneg hs.1,Int.tdiv_eq_ediv_of_nonneg hs.1,Int.tmod_eq_emod_of_nonneg hl.1,Int.tdiv_eq_ediv_of_nonneg hl.1]
 have y0:0<=16*(s/cF mw)+l/aD mw mh s/\16*(s/cF mw)+l/aD mw mh s<=1040:=by omega
 have m1:0<=(16*(s/cF mw)+l/aD mw mh s)*mw:=Int.mul_nonneg y0.1 (by omega)
 have m2:=Int.mul_le_mul y0.2 hw.2 (by omega) (by decide)
 simp(disch:=omega) only[wrap_i64]
 exact this
def aeZ {m:bP}{si:Nat}{Q:Int->Int->Option Addr->Nat->Nat->World->Prop}(s0:Sep F W w0 L)(hA:Sl w0 a n c 1 bA m.cs)(hm:c8 m)(hs:(si:Int)<d_ m.w m.h)
  (h:∀ra rn rc w',Sep F W w' (aj ra rn rc 5 1 (flat bA (pV m si))::L)->Fr No w0 w'->Q (aD m.w m.h si) (bu m.w m.h si) ra rn rc w'):s9 m.w m.h a n c si w0 Q:=by
 apply Jh
 have Sb:0<=(si:Int)/\(si:Int)<d_ m.w m.h:=⟨by omega,hs⟩
 have hz:=qw hm.w hm.h Sb
 have b1:=Int.mul_le_mul hz.1.1 hz.2.1 (by decide) (by omega)
 have b2:=Int.mul_le_mul hz.1.2 hz.2.2 (by omega) (by decide)
 have hlen:=hA.len
 have hml:=hm.len
 have s:=bt (F:=No) (w:=w0)
 refine aT s λmb w s=>?_
 refine a_ s λp4 w s=>?_
 apply lI s 1 rfl
 apply lI s 1 rfl
 refine Xo hm.w hm.h Sb λw f=>?_
 have s:=b9 s f
 refine a_ s λt w s=>?_
 refine sT s 0 rfl λw s=>?_
 refine sT s 0 rfl λw s=>?_
 refine ax s (i:=0) rfl rfl rfl λw s=>?_
 have loop:∀(k i rc:Nat) (ra:Option Addr) (w:World),((i+k:Nat):Int)=aD m.w m.h si*bu m.w m.h si->
   Sep No w0 w [aj ra i rc 5 1 (flat bA ((List.range i).map λl:Nat=>gi m.cs (bU m.w m.h si l).toNat)),av t 84 [ae (aD m.w m.h si),ae (bu m.w m.h si),.slice ra i rc],av p4 84 [ae 0,ae 0,.slice none 0 0],av mb 25 [ae m.w,ae m.h,.slice a n c]]->
   jX Q (k+1) si (aZ mb) (aZ p4) (aD m.w m.h si) (bu m.w m.h si) (aZ t) i w:=by
  intro k
  induction k with
  |zero=>
   intro i rc ra w hi s
   show mT Q (jX Q 0) _ _ _ _ _ _ _ _
   rw[mT,aJ,bD]
   apply lI s 1 rfl
   apply lI s 1 rfl
   apply lS s 1 rfl
   (refine ax s (i:=2) rfl rfl rfl λw s=>?_)
   (refine ax s (i:=2) rfl rfl rfl λw s=>?_)
   (refine ax s (i:=2) rfl rfl rfl λw s=>?_)
   apply lI s 2 rfl
   apply lI s 2 rfl
   apply lS s 2 rfl
   have e:i=(aD m.w m.h si*bu m.w m.h si).toNat:=by omega
   have e2:((List.range i).map λl:Nat=>gi m.cs (bU m.w m.h si l).toNat)=pV m si:=by unfold pV;rw[e]
   rw[e2]at s
   exact h _ _ _ _ (dY s0 s (i:=0) rfl) (au s)
  |succ k ih=>
   intro i rc ra w hi s
   show mT Q (jX Q (k+1)) _ _ _ _ _ _ _ _
   rw[mT,aJ,bY]
   have s:=ay s
   have hl:0<=(i:Int)/\(i:Int)<aD m.w m.h si*bu m.w m.h si:=by omega
   have hg:=E1 hm.w hm.h Sb hl
   apply lS s 1 rfl
   apply lS s 3 rfl
   apply lI s 3 rfl
   apply lI s 3 rfl
   refine aeY hm.w hm.h Sb hl λw f=>?_
   have s:=b9 s f
   apply And.intro (dg s 3 rfl)
   apply And.intro (dg s 1 rfl)
   obtain⟨g,hgk⟩:∃g:Nat,bU m.w m.h si i=g:=⟨(bU m.w m.h si i).toNat,by omega⟩
   have heq:gi m.cs g=gi m.cs (bU m.w m.h si i).toNat:=by rw[hgk,Int.toNat_natCast]
   rw[hgk]
   apply Sl.Cv (hA.fr (au s)) rfl (by omega)
   refine aT s λb w1 s1=>?_
   refine⟨dg s1 2 rfl,?_⟩
   have src:Src w1 (sZ b) 1 1 [.int .u8 (gi m.cs g)]:=⟨rfl,(λu hu=>by rw[List.mem_singleton.1 hu];rfl),λj u hj=>by rw[bZ,Nat.zero_add];exact cg s1 (i:=0) rfl rfl hj⟩
   refine iL dW s1 (i:=1) (bytes:=1) rfl rfl rfl rfl rfl rfl (by decide) rfl src (by simp[maxLen];omega) (by omega) (λe=>by cases e) λa1 c1 w2 s2=>?_
   have e:flat bA ((List.range i).map λl:Nat=>gi m.cs (bU m.w m.h si l).toNat)++[.int .u8 (gi m.cs g)]=flat bA ((List.range (i+1)).map λl:Nat=>gi m.cs (bU m.w m.h si l).toNat):=by
    rw[heq,List.range_succ,List.map_append,gK];rfl
   rw[e]at s2
   refine ax (ai s2) (i:=1) rfl rfl rfl λw3 s3=>?_
   rw[aJ]
   exact ih (i+1) c1 a1 w3 (by omega) s3
 exact⟨(aD m.w m.h si*bu m.w m.h si).toNat+1,loop _ 0 0 none w (by omega) (bG s 5 1)⟩
def ail {Q:Option Addr->Nat->Nat->World->Prop}(s0:Sep F W w0 L)(hA:Sl w0 a n c 1 bA cs)(hcs:gA cs)(hn:n<=100000)
  (h:∀ra rn rc w',Sep F W w' (aj ra rn rc 5 1 (flat bA (sX cs))::L)->Fr No w0 w'->Q ra rn rc w'):vC a n c w0 Q:=by
 apply LD
 have hlen:=hA.len
 refine aT (bt (F:=No)) λb w s=>?_
 have s:=apK s
 have inner:∀(P3:Option Addr->Nat->Nat->Option Addr->Nat->Nat->Int->World->Prop) (x:Int) (i:Nat) (oa:Option Addr) (on oc:Nat) (out:List Int),cs[i]? =some x->on<=1000000->
   (∀a' c' w',Sep No w0 w' [aj a' (on+2) c' 5 1 (flat bA (out++[((lead x (cs.drop (i+1)):Nat):Int)%256,x]))]->P3 a n c a' (on+2) c' ((i+1+lead x (cs.drop (i+1)):Nat):Int) w')->
   ∀(k r:Nat) (w:World),i+1+r+k=n->lead x (cs.drop (i+1))=r+lead x (cs.drop (i+1+r))->Sep No w0 w [aj oa on oc 5 1 (flat bA out)]->lH P3 Q (k+1) a n c oa on oc i ((r+1:Nat):Int) w:=by
  intro P3 x i oa on oc out hx HW next
  have hix:i<n:=by grind
  have hgx:gi cs i=x:=by rw[gT (by omega)]at hx;grind
  have over:∀(r:Nat) (w:World),i+1+r<=n->lead x (cs.drop (i+1))=r->Sep No w0 w [aj oa on oc 5 1 (flat bA out)]->rT P3 Q a n c oa on oc i ((r+1:Nat):Int) w:=by
   intro r w hr hl s
   apply Sl.Cv (hA.fr (au s)) rfl hix
   rw[hgx,aJ,aJ,wrap_u8']
   refine aT s λb w s=>?_
   have e0:((r+1:Nat):Int)-1=(r:Int):=by omega
   rw[e0]at s
   have src:Src w (sZ b) 2 1 [.int .u8 ((r:Int)%256),.int .u8 x]:=⟨rfl,(λu hu=>by simp[List.mem_cons,List.not_mem_nil,or_false]at hu;rcases hu with rfl|rfl<;>rfl),λj u hj=>by rw[bZ,Nat.zero_add];exact cg s (i:=0) rfl rfl hj⟩
   refine iL dW s (i:=1) (bytes:=1) rfl rfl rfl rfl rfl rfl (by decide) rfl src (by simp[maxLen];omega) (by omega) (λe=>by cases e) λa1 c1 w1 s1=>?_
   have e:flat bA out++[.int .u8 ((r:Int)%256),.int .u8 x]=flat bA (out++[(r:Int)%256,x]):=by rw[gK];rfl
   rw[e]at s1
   rw[hl]at next
   have:=next a1 c1 w1 (ai s1)
   grind
  intro k
  induction k with
  |zero=>
   intro r w hr hl s
   show oz P3 Q (lH P3 Q 0) _ _ _ _ _ _ _ _ _
   rw[oz,aJ,bD]
   have e:cs.drop (i+1+r)=[]:=List.drop_eq_nil_of_le (by omega)
   rw[e]at hl
   first|exact over r w (by omega) hl s|exact over r _ (by omega) hl (ay s)
  |succ k ih=>
   intro r w hr hl s
   show oz P3 Q (lH P3 Q (k+1)) _ _ _ _ _ _ _ _ _
   unfold oz
   have ei:(i:Int)+((r+1:Nat):Int)=((i+1+r:Nat):Int):=by push_cast;omega
   rw[aJ,bY,ei]
   have s:=ay s
   have hB:=hA.fr (au s)
   apply Sl.Cv hB rfl (by omega)
   apply Sl.Cv hB rfl hix
   have hd:cs.drop (i+1+r)=gi cs (i+1+r)::cs.drop (i+1+r+1):=by
    rw[List.drop_eq_getElem_cons (by omega)]
    congr 1
    have:=gT (l:=cs) (i:=i+1+r) (by omega)
    rw[List.getElem?_eq_getElem (by omega)]at this
    exact Option.some.inj this
   rw[hd,lead]at hl
   rw[hgx]
   by_cases he:gi cs (i+1+r)=x
   ·rw[show(gi cs (i+1+r)==x)=true by rw[beq_iff_eq];exact he,cond_true,aJ]
    rw[if_pos he]at hl
    have:=ih (r+1) w.drew (by omega) (by rw[show i+1+(r+1)=i+1+r+1 by omega];omega) s
    exact this
   ·rw[show(gi cs (i+1+r)==x)=false by rw[beq_eq_false_iff_ne];exact he,cond_false]
    rw[if_neg he]at hl
    exact over r _ (by omega) hl s
 have outer:∀(k i:Nat) (oa:Option Addr) (on oc:Nat) (out:List Int) (w:World),n-i<=k->i<=n->on<=1+2*i->out++kV (n-i) (cs.drop i)=sX cs->Sep No w0 w [aj oa on oc 5 1 (flat bA out)]->oB Q (k+1) a n c oa on oc i w:=by
  have stop:∀R (oa:Option Addr) (on oc:Nat) (out:List Int) (w:World),out++kV (n-n) (cs.drop n)=sX cs->Sep No w0 w [aj oa on oc 5 1 (flat bA out)]->oA Q R a n c oa on oc n w:=by
   intro R oa on oc out w he s
   rw[oA,bD]
   rw[List.drop_eq_nil_of_le (by omega),Nat.sub_self,kV,List.append_nil]at he
   rw[he]at s
   exact h _ _ _ _ (dY s0 s (i:=0) rfl) (au s)
  intro k
  induction k with
  |zero=>
   intro i oa on oc out w hk hi HW he s
   obtain rfl:i=n:=by omega
   exact stop _ _ _ _ _ _ he s
  |succ k ih=>
   intro i oa on oc out w hk hi HW he s
   by_cases hin:i=n
   ·subst hin
    exact stop _ _ _ _ _ _ he s
   ·show oA Q (oB Q (k+1)) _ _ _ _ _ _ _ _
    rw[oA,bY]
    have hx:cs[i]? =some (gi cs i):=gT (by omega)
    have hd:cs.drop i=gi cs i::cs.drop (i+1):=by
     obtain⟨h1,h2⟩:=List.getElem?_eq_some_iff.1 hx
     rw[List.drop_eq_getElem_cons h1,h2]
    have Mn:=NN (gi cs i) (cs.drop (i+1))
    rw[List.length_drop]at Mn
    refine⟨n-(i+1)+1,inner _ (gi cs i) i oa on oc out hx (by omega) (λa' c' w' s'=>?_) (n-(i+1)) 0 w (by omega) (by rw[Nat.zero_add]) s⟩
    refine ih (i+1+lead (gi cs i) (cs.drop (i+1))) a' (on+2) c' _ w' (by omega) (by omega) (by omega) ?_ s'
    rw[<-he,hd,show n-i=(n-(i+1))+1 by omega,kV,List.append_assoc,List.drop_drop]
    congr 1
    show _::_::_=_::_::_
    congr 2
    exact afM _ _ _ (by rw[List.length_drop];omega) (by rw[List.length_drop];omega)
 exact⟨n+1,outer n 0 _ 1 1 [2] w (by omega) (by omega) (by omega) (by rw[List.drop_zero,Nat.sub_zero,<-hlen];rfl) s⟩
end
end Go.Proofs.YtmegplnmiepfbaaGreatDoor.S.O
namespace Go.Proofs.YtmegplnmiepfbaaGreatDoor.S.O
open Go.Sx
attribute [local irreducible] af cw bq bg aC cf bX St Bx Al App cA cq cm bT aI bw aq bR av aj aV mapA
section
variable {F:Nat->Prop}{W w w0:World}{L:List As}{a:Option Addr}{n c:Nat}{cs:List Int}
def acW {tw th:Int}{Q:Int->Option Addr->Nat->Nat->World->Prop}(s0:Sep F W w0 L)(hA:Sl w0 a n c 1 bA cs)(hcs:gA cs)(hn:1<=n/\n<=100000)
  (h:∀ra rn rc w',Sep F W w' (aj ra rn rc 5 1 (flat bA (sY cs).2)::L)->Fr No w0 w'->Q (sY cs).1 ra rn rc w'):r8 tw th a n c w0 Q:=by
 apply IJ
 have hlen:=hA.len
 refine aT (bt (F:=No)) λtb w s=>?_
 apply lS s 0 rfl
 refine ail s (hA.fr (au s)) hcs hn.2 λra rn rc w s _=>?_
 have hr:=aK s (i:=0) rfl cZ (by decide)
 have hrl:=hr.len
 unfold sY at h
 by_cases h3:(sX cs).length=3
 ·rw[show((rn:Int)==3)=true by grind,cond_true]
  rw[if_pos h3]at h
  have s:=ay s
  apply lS s 1 rfl
  obtain⟨ad,rfl,hv⟩:=hA.row.2 0 _ (gT (by omega))
  have hv:=hv 0 _ rfl
  refine⟨by decide,by omega,ah ?_⟩
  apply aP (Fr.cell (au s) hv id)
  have fin:∀(b:Nat) (w':World) (L':List As),Sep No w0 w' (av b 5 [.int .u8 0,.int .u8 (gi cs 0)]::L')->Q 0 (sZ b) 2 2 w':=λb w' L' s=>by
   have s:=iV (n:=2) (size:=1) s (i:=0) rfl rfl (by decide) (by simp;exact⟨rfl,rfl⟩)
   have s:=s
   exact h _ _ _ _ (dY s0 s (i:=0) rfl) (au s)
  constructor
  ·refine aT s λb w s=>?_
   exact⟨Fr.cell (au s) hv id,dg s 2 rfl,fin _ _ _ s⟩
  ·refine⟨Fr.cell (au s) hv id,dg s 1 rfl,?_⟩
   refine aT s λb w s=>?_
   grind
 ·rw[show((rn:Int)==3)=false by grind,cond_false]
  rw[if_neg h3]at h
  apply lS s 1 rfl
  rw[aJ]
  by_cases h4:(sX cs).length<1+cs.length
  ·rw[bY]
   rw[if_pos h4]at h
   exact h _ _ _ _ (dY s0 s (i:=0) rfl) (au s)
  ·rw[bD]
   rw[if_neg h4]at h
   refine aT s λb w s=>?_
   have s:=apK s
   apply lS s 2 rfl
   refine ajI s (hA.fr (au s)) (by omega) λra rc w s=>?_
   exact h _ _ _ _ (dY s0 s (i:=0) rfl) (au s)
def Sp {m:bP}{Q:Option Addr->Nat->Nat->World->Prop}(s0:Sep F W w0 L)(hA:Sl w0 a n c 1 bA m.cs)(hm:c8 m)
  (h:∀ra rn rc w',Sep F W w' (aj ra rn rc 5 1 (flat bA (xX m))::L)->Fr No w0 w'->Q ra rn rc w'):oF m.w m.h a n c w0 Q:=by
 apply Ji
 have hc:=gD hm.w hm.h
 refine aT (bt (F:=No)) λmb w s=>?_
 apply lI s 0 rfl
 apply lI s 0 rfl
 refine⟨by decide,?_⟩
 apply lI s 0 rfl
 apply lI s 0 rfl
 refine⟨by decide,?_⟩
 have e8:∀v:Int,oJ .i64 v 8=v/256:=λv=>by
  rw[oJ,show min (8:Int).toNat (IntKind.i64).bits=8 by decide,Int.fdiv_eq_ediv_of_nonneg _ (by decide)]
  rfl
 rw[e8,e8,wrap_u8',wrap_u8',wrap_u8',wrap_u8']
 refine aT s λhb w s=>?_
 have s:=iV (n:=4) (size:=1) s (i:=0) rfl rfl (by decide) (by simp;exact⟨rfl,rfl,rfl,rfl⟩)
 have s:=s
 have loop:∀(k i:Nat) (ba:Option Addr) (bn bc:Nat) (w:World),((i+k:Nat):Int)=d_ m.w m.h->bn<=4+258*i->
   Sep No w0 w [aj ba bn bc 5 1 (flat bA ([m.w%256,m.w/256%256,m.h%256,m.h/256%256]++HG m i)),av mb 25 [ae m.w,ae m.h,.slice a n c]]->jY Q (k+1) (aZ mb) ba bn bc i w:=by
  intro k
  induction k with
  |zero=>
   intro i ba bn bc w hi EI s
   show vM Q (jY Q 0) _ _ _ _ _ _
   apply lI s 1 rfl
   apply lI s 1 rfl
   apply K7 hm.w hm.h
   rw[bD]
   have e:i=(d_ m.w m.h).toNat:=by omega
   rw[e]at s
   exact h _ _ _ _ (dY s0 s (i:=0) rfl) (au s)
  |succ k ih=>
   intro i ba bn bc w hi EI s
   show vM Q (jY Q (k+1)) _ _ _ _ _ _
   have Sb:0<=(i:Int)/\(i:Int)<d_ m.w m.h:=by omega
   have htl:=TO hm Sb
   have htr:=TN hm Sb
   apply lI s 1 rfl
   apply lI s 1 rfl
   apply K7 hm.w hm.h
   rw[bY]
   apply lI s 1 rfl
   apply lI s 1 rfl
   apply lS s 1 rfl
   refine aeZ s (hA.fr (au s)) hm (by omega) λra rn rc w s _=>?_
   have ht:=aK s (i:=0) rfl cZ (by decide)
   have O8:=ht.len
   refine acW s ht (λx hx=>by grind) (by omega) λpa pn pc w s _=>?_
   have hp:=aK s (i:=0) rfl cZ (by decide)
   have hpn:=hp.len
   have Gb:=afO (cs:=pV m i)
   have s:=bH (L':=[_,_,_,_]) [2,3,0,1] s rfl (by decide)
   refine ajI s (aK s (i:=2) rfl cZ (by decide)) (by omega) λra rc w s=>?_
   rw[aJ]
   have s:=bH (L':=[_,_]) [0,1] s rfl (by decide)
   rw[List.append_assoc,<-W5]at s
   grind
 exact⟨(d_ m.w m.h).toNat+1,loop _ 0 _ 4 4 w (by omega) (by omega) s⟩
end
end Go.Proofs.YtmegplnmiepfbaaGreatDoor.S.O
set_option maxRecDepth 20000
namespace Go.Proofs.YtmegplnmiepfbaaGreatDoor.S
open Go.Sx
attribute [local irreducible] af cw bq bg aC cf bX St Bx Al App cA cq cm bT aI bw aq bR av aj aV mapA
section
variable {F:Nat->Prop}{W w:World}{L:List As}{a b:Option Addr}{n c m d:Nat}
def eq2 {a b a' b':Int}:(a==a'&&(b==b'&&true))=decide (a=a'/\b=b'):=by grind
def att {w:World}{x y:Operand}{a b:Int×Int}{K:Bool->World->Prop}(h:K (!decide (a=b)) w):bT P .neq 51 x y (.agg #[ae a.1,ae a.2]) (.agg #[ae b.1,ae b.2]) w K:=by
 apply aiy (by kernel_rfl)
 apply al2 (r:=a.1==b.1&&(a.2==b.2&&true)) (by kernel_rfl) (by kernel_rfl) (by kernel_rfl)
 rw[eq2]
 simp[<-Prod.ext_iff]
 exact h
def atu {a b:EG}:(a.a=b.a/\a.b=b.b/\a.c=b.c/\a.d=b.d/\a.e=b.e/\a.f=b.f)↔a=b:=by
 obtain⟨a1,a2,a3,a4,a5,a6⟩:=a
 obtain⟨b1,b2,b3,b4,b5,b6⟩:=b
 simp
instance:DecidableEq EG:=λa b=>decidable_of_iff _ atu
def aim {Q:Bool->World->Prop}{xs ys:List (Int×Int)}(hX:Sl w a n c 2 k9 xs)(hY:Sl w b m d 2 k9 ys)(s0:Sep F W w L)(hn:n<1000000)(h:∀w',Sep F W w' L->Fr No w w'->Q (decide (xs=ys)) w'):
  s_ a n c b m d w Q:=by
 apply Jj
 have h1:=hX.len
 have h2:=hY.len
 have fin:∀(r:Bool) (w':World),r=decide (xs=ys)->Sep No w w' []->Q r w':=λr w' e s=>by
  subst e
  exact h w' (b9 s0 (au s)) (au s)
 by_cases hl:n=m
 ·subst hl
  have loop:∀(k i:Nat) (w1:World),i+k=n->xs.take i=ys.take i->Sep No w w1 []->jZ Q (k+1) a n c b n d i w1:=by
   intro k
   induction k with
   |zero=>
    intro i w1 hi he s
    show mU Q (jZ Q 0) _ _ _ _ _ _ _ _
    unfold mU
    grind
   |succ k ih=>
    intro i w1 hi he s
    show mU Q (jZ Q (k+1)) _ _ _ _ _ _ _ _
    rw[mU,bY]
    have s:=ay s
    refine(hX.fr (au s)).El rfl (by omega) λp x hx hc=>?_
    refine aP (hc 0 _ rfl) (aP (hc 1 _ rfl) ?_)
    refine(hY.fr (au s)).El rfl (by omega) λp y hy hc=>?_
    refine aP (hc 0 _ rfl) (aP (hc 1 _ rfl) ?_)
    apply att
    by_cases hxy:x=y
    ·rw[decide_eq_true hxy,Bool.not_true,cond_false,aJ]
     refine ih (i+1) _ (by omega) ?_ s
     rw[List.take_add_one,List.take_add_one,hx,hy,he,hxy]
    grind
  rw[bne_self_eq_false,cond_false]
  exact⟨n+1,loop n 0 w (by omega) (by simp) bt⟩
 ·rw[show((n:Int) !=(m:Int))=true by grind,cond_true]
  refine fin false _ ?_ bt
  grind
def map_eq {a b:bP}:(a.w=b.w/\a.h=b.h/\a.cs=b.cs)↔a=b:=by
 obtain⟨a1,a2,a3⟩:=a
 obtain⟨b1,b2,b3⟩:=b
 simp
instance:DecidableEq bP:=λa b=>decidable_of_iff _ map_eq
end
section
variable {F:Nat->Prop}{W w:World}{L:List As}{lg:yS}{r:Gs}{y:AU}{o:A6}{a:Option Addr}{n c:Nat}
def aus {K:Addr->World->Prop}{code d dir id:Int}{ma ga:Option Addr}{mn mc gn gc:Nat}{q0 q1 q2 q3 q4 q5:Int}(s:Sep F W w L)
  (h:∀p w',Sep F W w' (av p 34 (VG code d dir id ma mn mc ga gn gc ⟨q0,q1,q2,q3,q4,q5⟩)::L)->K (aZ p) w'):
  Al T 34 w λp w=>St (p.add 0) (ae code) w λw=>St (p.add 1) (ae d) w λw=>St (p.add 2) (ae dir) w λw=>St (p.add 3) (ae id) w λw=>
   St (p.add 4) (.slice ma mn mc) w λw=>St (p.add 5) (.slice ga gn gc) w λw=>St (p.add 6) (.int .u64 q0) w λw=>St (p.add 7) (.int .u64 q1) w λw=>St (p.add 8) (.int .u64 q2) w λw=>
   St (p.add 9) (.int .u64 q3) w λw=>St (p.add 10) (.int .u64 q4) w λw=>St (p.add 11) (.int .u64 q5) w λw=>K p w:=by
 refine a_ s λp w s=>?_
 iterate 12 refine sT s 0 rfl λw s=>?_
 exact h p w s
def aa7 {K:Addr->World->Prop}(hL:iK W lg)(ho:acV o)(hM:∀w',Sep No W w' L->Sl w' a n c 1 bA o.m)(vq:akQ y.p)(s:Sep No W w (g9 r y::L))
  (h:∀r' y' ma mn mc ga gn gc p w',r'.p=r.p->y'.p=(iS y.p o).1->Sep No W w' (av p 34 (VG (iS y.p o).2.code (iS y.p o).2.d (iS y.p o).2.dir (iS y.p o).2.id ma mn mc ga gn gc (qe y'.p.b_))::aj ma mn mc 51 2 (flat k9 (iS y.p o).2.F0)::aj ga gn gc 3 1 (flat one (iS y.p o).2.gone)::g9 r' y'::L)->K (aZ p) w'):
  fF (sZ r.p) o.k o.A o.B a n c w λcode d dir id ma mn mc ga gn gc q0 q1 q2 q3 q4 q5 w=>
   Al T 34 w λp w=>St (p.add 0) (ae code) w λw=>St (p.add 1) (ae d) w λw=>St (p.add 2) (ae dir) w λw=>St (p.add 3) (ae id) w λw=>
   St (p.add 4) (.slice ma mn mc) w λw=>St (p.add 5) (.slice ga gn gc) w λw=>St (p.add 6) (.int .u64 q0) w λw=>St (p.add 7) (.int .u64 q1) w λw=>St (p.add 8) (.int .u64 q2) w λw=>
   St (p.add 9) (.int .u64 q3) w λw=>St (p.add 10) (.int .u64 q4) w λw=>St (p.add 11) (.int .u64 q5) w λw=>K p w:=
 F3 hL ho hM vq s λr' y' ma mn mc ga gn gc w er ey s=>aus s λp w s=>h r' y' ma mn mc ga gn gc p w er ey s
end
end Go.Proofs.YtmegplnmiepfbaaGreatDoor.S
namespace Go.Proofs.YtmegplnmiepfbaaGreatDoor.S
open Go.Sx
structure MN (most:Int) (m:bP) (u:sP):Prop where
 may:c8 m
 nF:m.w*m.h<=1600
 us:nH m.w m.h u.us
 nx:0<=u.next
 lt:∀v∈u.us,v.id<u.next
 mst:u.most=most
 len:(u.us.length:Int)<=most
structure Gt (t:Int) (q:iR):Prop where
 ep:zi q.b_<=t
 tp:0<=t
 mo:1<=q.most/\q.most<=65536
 st:(q.b_.o=none/\q.us=none)\/∃m u,q.b_.o=some m/\q.us=some u/\MN q.most m.g.m u/\u.next<=t
def Gt.sm {t:Int}{q:iR}(h:Gt t q)(ht:t<1000000000):akQ q:=by
 refine⟨by have:=h.ep;omega,λu hu=>?_⟩
 rcases h.st with⟨_,e⟩|⟨m,u',_,e,_,hn⟩
 all_goals grind
def Gt.mono {t t':Int}{q:iR}(h:Gt t q)(ht:t<=t'):Gt t' q:=by
 refine⟨by have:=h.ep;omega,by have:=h.tp;omega,h.mo,?_⟩
 rcases h.st with e|⟨m,u',h1,h2,h3,hn⟩
 all_goals grind
section
variable {most t:Int}{m:bP}{u:sP}{q:iR}{o:A6}
def apn (hm:c8 m){c x:Int}(hx:1<=x/\x<=255):c8 ⟨m.w,m.h,m.cs.set c.toNat x⟩:=by
 refine⟨hm.w,hm.h,?_,λy hy=>?_⟩
 ·rw[List.length_set]
  exact hm.len
 ·rcases List.mem_or_eq_of_mem_set hy with hy|rfl
  ·exact hm.jR y hy
  ·omega
def MN.drop (h:MN most m u)(id:Int):MN most m (kK u id):=by
 have hs:(kK u id).us.Sublist u.us:=List.filter_sublist
 refine⟨h.may,h.nF,h.us.sub hs,h.nx,λv hv=>h.lt v (hs.subset hv),h.mst,?_⟩
 have:=hs.length_le
 have:=h.len
 omega
def MN.Vw (h:MN most m u)(id:Int){B:Int}(hB:bE m.w m.h B):MN most m (vg u id λv=>⟨v.id,v.cell,B⟩):=by
 have e1:∀us:List aL,(us.map λv=>if v.id=id then(⟨v.id,v.cell,B⟩:aL)else v).map (·.id)=us.map (·.id):=λus=>by
  rw[List.map_map]
  refine List.map_congr_left λv _=>?_
  simp[Function.comp]
  split<;>rfl
 have e2:∀us:List aL,(us.map λv=>if v.id=id then(⟨v.id,v.cell,B⟩:aL)else v).map (·.cell)=us.map (·.cell):=λus=>by
  rw[List.map_map]
  refine List.map_congr_left λv _=>?_
  simp[Function.comp]
  split<;>rfl
 have hmem:∀v∈(vg u id λv=>⟨v.id,v.cell,B⟩).us,∃v'∈u.us,v.id=v'.id/\v.cell=v'.cell/\(v.goal=v'.goal\/v.goal=B):=λv hv=>by
  obtain⟨v',W0,rfl⟩:=List.mem_map.1 hv
  refine⟨v',W0,?_⟩
  split
  ·exact⟨rfl,rfl,.inr rfl⟩
  ·exact⟨rfl,rfl,.inl rfl⟩
 refine⟨h.may,h.nF,⟨h.us.wh,?_,λv hv=>?_,λv hv=>?_,?_⟩,h.nx,λv hv=>?_,h.mst,?_⟩
 ·show List.Pairwise _ (List.map _ (List.map _ _))
  rw[e1]
  exact h.us.ids
 ·obtain⟨v',h1,h2,_⟩:=hmem v hv
  rw[h2]
  exact h.us.pos v' h1
 ·obtain⟨v',h1,_,h3,h4⟩:=hmem v hv
  have:=h.us.at_ v' h1
  refine⟨by rw[h3];exact this.1,?_⟩
  rcases h4 with h4|h4
  ·rw[h4];exact this.2
  ·rw[h4];exact hB
 ·show List.Nodup (List.map _ (List.map _ _))
  rw[e2]
  exact h.us.nd
 ·obtain⟨v',h1,h2,_⟩:=hmem v hv
  rw[h2]
  exact h.lt v' h1
 ·show((List.map _ _).length:Int)<=most
  rw[List.length_map]
  exact h.len
def MN.add (h:MN most m u){A B:Int}(hs:oE m.w m.h u A B=0):MN most m (KY u A B):=by
 unfold oE at hs
 split at hs
 ·omega
 split at hs
 ·omega
 split at hs
 ·omega
 split at hs
 ·omega
 rename_i h1 h2 h3 h4
 have h1:=Decidable.not_not.1 h1
 have h2:=Decidable.not_not.1 h2
 have hl:((u.us++[(⟨u.next,A,B⟩:aL)]).length:Int)=u.us.length+1:=by simp
 have:=h.mst
 refine⟨h.may,h.nF,ai_ h.us (λv hv=>h.lt v hv) h.nx h1.1 h1.2 ((aja h.us).1 h2),?_,λv hv=>?_,h.mst,?_⟩
 ·show 0<=u.next+1
  have:=h.nx
  omega
 ·show v.id<u.next+1
  rcases List.mem_append.1 hv with hv|hv
  ·have:=h.lt v hv;omega
  grind
 ·show((u.us++[(⟨u.next,A,B⟩:aL)]).length:Int)<=_
  omega
def VH {w h:Int}:∀(todo:List (aL×Int)) (done:List aL),∀v∈(cN w h done todo).1,∃v'∈done++todo.map (·.1),v.id=v'.id/\v.goal=v'.goal
 |[],done,v,hv=>⟨v,by simpa[cN]using hv,rfl,rfl⟩
 |(x,d)::rest,done,v,hv=>by
  cases hb:mP w h (done++x::rest.map (·.1)) x d with
  |true=>
   rw[BP hb]at hv
   obtain⟨v',h1,h2,h3⟩:=VH rest _ v hv
   rw[List.append_assoc]at h1
   rcases List.mem_append.1 h1 with h1|h1
   ·grind
   ·rcases List.mem_append.1 h1 with h1|h1
    ·unfold kZ at h1
     grind
    grind
  |false=>
   rw[zR hb]at hv
   obtain⟨v',h1,h2,h3⟩:=VH rest _ v hv
   grind
def zip_fst {α β:Type}{l:List α}(f:α->β):(l.zip (l.map f)).map (·.1)=l:=by
 rw[List.map_fst_zip]
 grind
def MN.tick (h:MN most m u):MN most m (Hu m.w m.h u (nK m u.us)):=by
 have hz:(u.us.zip (nK m u.us)).map (·.1)=u.us:=zip_fst _
 refine⟨h.may,h.nF,Vy _ [] (by rw[List.nil_append,hz];exact h.us),h.nx,λv hv=>?_,h.mst,?_⟩
 ·obtain⟨v',h1,h2,_⟩:=VH _ _ v hv
  rw[List.nil_append,hz]at h1
  rw[h2]
  exact h.lt v' h1
 ·have h1:=(MJ (w:=m.w) (h:=m.h) (u.us.zip (nK m u.us)) []).1
  have h2:=congrArg List.length hz
  have:=h.len
  have e:(Hu m.w m.h u (nK m u.us)).us=(cN m.w m.h [] (u.us.zip (nK m u.us))).1:=rfl
  grind
def anq (q:pD)(t s:Int):zi (yV q t s)=zi q:=by
 cases h:q.o with
 |none=>unfold yV;rw[h]
 |some m=>
  obtain⟨m',h1,h2⟩:=Hw h t s
  unfold zi
  grind
def apo (q:pD)(ps:List FV):zi (FY q ps)=zi q:=by
 cases h:q.o with
 |none=>
  have:FY q ps=q:=by
   unfold FY
   induction ps with
   |nil=>rfl
   |cons p ps ih=>rw[List.foldl_cons];unfold yV;rw[h];exact ih
  rw[this]
 |some m=>
  obtain⟨m',h1,h2⟩:=FZ ps h
  unfold zi
  grind
def aut {mp:zP}(h:Gt t q)(hm:q.b_.o=some mp)(hu:q.us=some u)(hn:MN q.most mp.g.m u)(hx:u.next<=t):Gt (t+1) (Sn q mp.g.m u o).1:=by
 have hsame:Gt (t+1) q:=h.mono (by omega)
 have ht:=h.tp
 have W9:=h.ep
 have epm:zi q.b_=mp.g.ep:=by unfold zi;rw[hm]
 unfold Sn
 split
 ·split
  ·exact hsame
  ·split
   ·exact hsame
   ·split
    ·exact hsame
    ·have e:(edP q.b_ o.A o.B).o=some ⟨wL mp.g o.A o.B,mp.Ry,mp.clean,mp.fA,mp.kept,mp.fc⟩:=by unfold edP;rw[hm];rfl
     refine⟨?_,by omega,h.mo,.inr ⟨_,u,e,rfl,?_,by omega⟩⟩
     ·rw[zi,e]
      show mp.g.ep+1<=t+1
      omega
     ·exact⟨apn hn.may (by omega),hn.nF,hn.us,hn.nx,hn.lt,hn.mst,hn.len⟩
 ·split
  ·split
   ·exact hsame
   ·split
    ·exact hsame
    ·split
     ·exact hsame
     ·rename_i h1 h2 h3
      exact⟨by grind,by omega,h.mo,.inr ⟨mp,_,hm,rfl,hn.add (Decidable.not_not.1 h3),by show u.next+1<=t+1;omega⟩⟩
  ·split
   ·split
    ·exact hsame
    ·split
     ·exact hsame
     ·split
      ·exact⟨by grind,by omega,h.mo,.inr ⟨mp,_,hm,rfl,hn.drop _,by show u.next<=t+1;omega⟩⟩
      ·rename_i h2 _
       exact⟨by grind,by omega,h.mo,.inr ⟨mp,_,hm,rfl,hn.Vw _ (Decidable.not_not.1 h2),by show u.next<=t+1;omega⟩⟩
   ·split
    ·split
     ·exact hsame
     ·exact⟨by grind,by omega,h.mo,.inr ⟨mp,_,hm,rfl,hn.drop _,by show u.next<=t+1;omega⟩⟩
    ·split
     ·split
      ·obtain⟨Sm,h1,h2⟩:=Hw hm o.A (cP mp.g.m o.B)
       refine⟨by show zi (yV _ _ _)<=_;rw[anq];omega,by omega,h.mo,.inr ⟨Sm,u,h1,rfl,by grind,by omega⟩⟩
      grind
     ·obtain⟨Sm,h1,h2⟩:=FZ (mq mp.g.m.w mp.g.m.h u.us) hm
      refine⟨by show zi (FY _ _)<=_;rw[apo];omega,by omega,h.mo,.inr ⟨Sm,_,h1,rfl,by rw[h2];exact hn.tick,by show u.next<=t+1;omega⟩⟩
def V7 (h:Gt t q)(ho:acV o):Gt (t+1) (iS q o).1:=by
 have hsame:Gt (t+1) q:=h.mono (by omega)
 have ht:=h.tp
 have W9:=h.ep
 unfold iS
 split
 ·exact hsame
 ·split
  ·rename_i k1
   split
   ·exact hsame
   ·rename_i mp hg
    have hf:=(ho.load k1).2 mp hg
    have hm:=adw ho.jR hg
    have hmo:=h.mo
    refine⟨?_,by omega,h.mo,.inr ⟨_,_,rfl,rfl,⟨hm,hf,⟨⟨hm.w,hm.h⟩,.nil,λv hv=>(by cases hv),λv hv=>(by cases hv),.nil⟩,Int.le_refl _,λv hv=>(by cases hv),rfl,?_⟩,by grind⟩⟩
    ·show zi q.b_+1<=t+1
     omega
    grind
  ·split
   ·rcases h.st with⟨h1,h2⟩|⟨m,u,h1,h2,h3,h4⟩
    ·refine⟨?_,by omega,h.mo,.inl ⟨by show(PJ q.b_).o=none;unfold PJ;rw[h1];rfl,h2⟩⟩
     unfold zi PJ
     grind
    ·have e:(PJ q.b_).o=some ⟨m.g,m.Ry,m.clean,m.fA,none,m.fc⟩:=by unfold PJ;rw[h1];rfl
     refine⟨?_,by omega,h.mo,.inr ⟨_,u,e,h2,h3,by omega⟩⟩
     show zi (PJ q.b_)<=_
     have:zi q.b_=zi (PJ q.b_):=by unfold zi;rw[e,h1]
     omega
   ·rcases h.st with⟨h1,h2⟩|⟨m,u,h1,h2,h3,h4⟩
    ·grind
    ·rw[h1,h2]
     exact aut h h1 h2 h3 h4
end
def FX.of {bs:List Int}{m:bP}(h:kL bs=some m):FX bs:=by
 unfold kL at h
 split at h
 ·cases h
 ·split at h
  ·rename_i h1 h2
   refine⟨by omega,h2,λbs' M hT=>?_⟩
   grind
  ·cases h
def xw {k A B:Int}(hk:k≠1):acV ⟨k,A,B,[]⟩:=⟨gA.nil,by simp,λe=>(hk e).elim⟩
def ajj {m:bP}(hm:c8 m)(hf:m.w*m.h<=1600):acV (P9 m):=by
 have h1:=Zo hm
 have h2:=aaa hm
 refine⟨h1.1,h1.2,λ_=>⟨.of h2,λmp h=>?_⟩⟩
 have h:kL (xX m)=some mp:=h
 grind
def awr (k most:Int):iR:=⟨most,⟨k,⟨[],[],0,0,0,0⟩,none,⟨0,0,0,0,0,0⟩⟩,none⟩
section
variable {q:iR}{o:A6}{t:Int}
def aqh {k most:Int}(hm:1<=most/\most<=65536):Gt 0 (awr k most):=⟨Int.le_refl _,Int.le_refl _,hm,.inl ⟨rfl,rfl⟩⟩
def ajk {m:bP}(hm:c8 m):iS q (P9 m)=(⟨q.most,ldP q.b_ m,some ⟨q.most,0,[]⟩⟩,oM 0):=by
 have h1:=Zo hm
 have e:DK (P9 m)=true:=(aqG h1.1 h1.2).may
 rw[iS,e,if_neg (by rintro (h|h)<;>cases h),if_pos (show(P9 m).k=(1:Int)from rfl)]
 have e:kL (P9 m).m=some m:=aaa hm
 rw[e]
end
def pre (cs:List Int):Nat->Int
 |0=>0
 |k+1=>pre cs k+gi cs k
structure nL (m:bP) (p q:Int):Prop where
 may:c8 m
 op:∀x∈m.cs,x<255
 dir:(m.h=1/\p=1/\q=3)\/(m.w=1/\p=2/\q=0)
section
variable {m:bP}{p q x t s:Int}
def nL.bE (h:nL m p q)(hx:0<=x/\x<m.cs.length):bE m.w m.h x:=⟨⟨h.may.w,h.may.h⟩,hx.1,by rw[<-h.may.len];exact hx.2⟩
def nL.cost (h:nL m p q)(hx:0<=x/\x<m.cs.length):cE m x=gi m.cs x.toNat/\1<=cE m x/\cE m x<=254:=by
 have e:cE m x=gi m.cs x.toNat:=by unfold cE;grind
 have hm:=fE (l:=m.cs) (i:=x.toNat) (by omega)
 have h1:=h.may.jR _ hm
 have h2:=h.op _ hm
 omega
def nL.Dl (h:nL m p q)(hx:0<=x/\x<m.cs.length):eV m x=true:=by
 have:=h.cost hx
 unfold eV
 simp
 omega
def nL.step (h:nL m p q)(hx:0<=x/\x<m.cs.length)(hs:0<=s/\s<=3):aY m.w m.h x s=if s=p then(if x+1<m.cs.length then x+1 else-1)else if s=q then x-1 else-1:=by
 have hc:=h.bE hx
 have hl:=h.may.len
 have hw:=h.may.w
 have hh:=h.may.h
 rw[aY,if_pos hc]
 rcases h.dir with⟨e,rfl,rfl⟩|⟨e,rfl,rfl⟩
 ·rw[e]at hl⊢
  have e1:x%m.w=x:=Int.emod_eq_of_lt hx.1 (by omega)
  have e2:x/m.w=0:=Int.ediv_eq_zero_of_lt hx.1 (by omega)
  rw[e1,e2]
  obtain rfl|rfl|rfl|rfl:s=0\/s=1\/s=2\/s=3:=by omega
  ·rw[if_pos rfl,r6 (by omega)];rfl
  ·rw[if_neg (by decide),if_neg (by decide),if_neg (by decide),if_pos rfl,if_pos rfl]
   split
   ·rw[mV ⟨hw,by decide⟩ (by omega) (by omega)];omega
   ·rw[r6 (by omega)]
  ·rw[if_neg (by decide),if_pos rfl,r6 (by omega)];rfl
  ·rw[if_neg (by decide),if_neg (by decide),if_pos rfl,if_neg (by decide),if_pos rfl]
   by_cases h0:x=0
   ·rw[r6 (by omega)];omega
   ·rw[mV ⟨hw,by decide⟩ (by omega) (by omega)];omega
 ·rw[e]at hl⊢
  obtain rfl|rfl|rfl|rfl:s=0\/s=1\/s=2\/s=3:=by omega
  ·by_cases h0:x=0
   ·rw[r6 (by omega)];omega
   ·rw[mV ⟨by decide,hh⟩ (by omega) (by omega)];omega
  ·rw[if_neg (by decide),if_neg (by decide),if_neg (by decide),if_pos rfl,r6 (by omega)];rfl
  ·rw[if_neg (by decide),if_pos rfl,if_pos rfl]
   split
   ·rw[mV ⟨by decide,hh⟩ (by omega) (by omega)];omega
   ·rw[r6 (by omega)]
  ·rw[if_neg (by decide),if_neg (by decide),if_pos rfl,r6 (by omega)];rfl
def nL.pq (h:nL m p q):(0<=p/\p<=3)/\(0<=q/\q<=3)/\p≠q:=by
 rcases h.dir with⟨_,rfl,rfl⟩|⟨_,rfl,rfl⟩<;>decide
def nL.aws (h:nL m p q){n c:Int}(e:fI m x n c):(0<=x/\x<m.cs.length)/\(0<=n/\n<m.cs.length)/\(n=x+1\/n=x-1)/\c=cE m n:=by
 obtain⟨h1,h2,⟨s,hs,e⟩,hc⟩:=e
 have hl:=h.may.len
 have hx:=(jF h.may h1).2
 have hn:=(jF h.may h2).2
 have hx:0<=x/\x<m.cs.length:=by omega
 rw[h.step hx hs]at e
 omega
def zV (m:bP)(t x:Int):Int:=if 0<=x/\x<m.cs.length then(if x<=t then pre m.cs (t+1).toNat-pre m.cs (x+1).toNat else pre m.cs x.toNat-pre m.cs t.toNat)else bW
def aa8 (h:nL m p q)(hx:0<=x/\x<m.cs.length):pre m.cs (x+1).toNat=pre m.cs x.toNat+cE m x:=by
 rw[(h.cost hx).1,show(x+1).toNat=x.toNat+1 by omega]
 rfl
def F4 (h:nL m p q):∀k:Nat,k<=m.cs.length->0<=pre m.cs k/\pre m.cs k<=254*k
 |0,_=>by simp[pre]
 |k+1,hk=>by
  have:=F4 h k (by omega)
  have h1:=(h.cost (x:=k) (by omega))
  have h2:=h1.1
  rw[Int.toNat_natCast]at h2
  show 0<=pre m.cs k+gi m.cs k/\pre m.cs k+gi m.cs k<=_
  omega
def nL.D (h:nL m p q)(ht:0<=t/\t<m.cs.length)(hx:0<=x/\x<m.cs.length):D m t x=zV m t x:=by
 have hsz:=afP h.may
 have small:∀y:Int,0<=y/\y<m.cs.length->zV m t y<bW:=λy hy=>by
  have h1:=F4 h (t+1).toNat (by omega)
  have h2:=F4 h (y+1).toNat (by omega)
  have h3:=F4 h t.toNat (by omega)
  have h4:=F4 h y.toNat (by omega)
  unfold zV bW
  omega
 have on:∀y:Int,0<=y/\y+1<m.cs.length->y<t->zV m t y=zV m t (y+1)+cE m (y+1):=λy hy hyt=>by
  have:=aa8 h (x:=y+1) (by omega)
  unfold zV
  omega
 have back:∀y:Int,0<=y/\y<m.cs.length->t<y->zV m t y=zV m t (y-1)+cE m (y-1):=λy hy hyt=>by
  have h1:=aa8 h (x:=y-1) (by omega)
  unfold zV
  grind
 have zero:zV m t t=0:=by
  unfold zV
  omega
 refine alu (λy k hy=>?_) (λy n c e hn=>?_) (λ_=>?_) (λhn=>(hn (small x hx)).elim)
 ·obtain⟨rfl,_,rfl⟩:=hy
  grind
 ·obtain⟨h1,h2,h3,rfl⟩:=h.aws e
  refine⟨small y h1,?_⟩
  have c1:=(h.cost h1).2
  have c2:=(h.cost h2).2
  rcases h3 with rfl|rfl
  ·by_cases k:y<t
   ·rw[on y (by omega) k];omega
   ·have:=back (y+1) h2 (by omega)
    rw[show y+1-1=y by omega]at this
    omega
  ·by_cases k:t<y
   ·rw[back y h1 k];omega
   ·have:=on (y-1) (by omega) (by omega)
    rw[show y-1+1=y by omega]at this
    omega
 ·have wy:∀(k:Nat) (y:Int),0<=y/\y<m.cs.length->(y-t).natAbs=k->Wy (fJ m t) (fI m) y (zV m t y):=by
   intro k
   induction k with
   |zero=>
    intro y hy hk
    obtain rfl:y=t:=by omega
    rw[zero]
    exact .src ⟨rfl,h.Dl ht,rfl⟩
   |succ k ih=>
    intro y hy hk
    by_cases l:y<t
    ·rw[on y (by omega) l]
     refine .go ⟨h.Dl hy,h.Dl (by omega),⟨p,h.pq.1,?_⟩,rfl⟩ (ih (y+1) (by omega) (by omega))
     rw[h.step hy h.pq.1,if_pos rfl,HE]
    ·rw[back y hy (by omega)]
     refine .go ⟨h.Dl hy,h.Dl (by omega),⟨q,h.pq.2.1,?_⟩,rfl⟩ (ih (y-1) (by omega) (by omega))
     rw[h.step hy h.pq.2.1,if_neg (λe=>h.pq.2.2 e.symm),if_pos rfl]
  exact wy _ x hx rfl
def nL.pB (h:nL m p q)(ht:0<=t/\t<m.cs.length)(hx:0<=x/\x<m.cs.length)(hne:x≠t):pB m t x=if x<t then p else q:=by
 have hD:=h.D ht hx
 have hsz:=afP h.may
 have hlt:S.D m t x<bW:=by
  have h1:=F4 h (t+1).toNat (by omega)
  have h2:=F4 h (x+1).toNat (by omega)
  have h3:=F4 h t.toNat (by omega)
  have h4:=F4 h x.toNat (by omega)
  rw[hD]
  unfold zV bW
  omega
 obtain⟨hr,⟨h0,hop,he⟩,_⟩:=aiI h.may hlt hne
 have hst:=h.step hx hr
 generalize S.pB m t x=s at*
 rw[hst]at h0 he
 have c0:=(h.cost hx)
 by_cases e1:s=p
 ·subst e1
  rw[if_pos rfl]at h0 he
  split at h0
  ·rename_i hlx
   rw[if_pos hlx]at he
   split
   ·rfl
   ·exfalso
    rw[hD,h.D ht (by omega)]at he
    have c1:=h.cost (x:=x+1) (by omega)
    have p1:=aa8 h hx
    unfold zV at he
    omega
  ·omega
 ·rw[if_neg e1]at h0 he
  split at h0
  ·rename_i e2
   subst e2
   split
   ·exfalso
    rw[hD,h.D ht (by omega)]at he
    have c1:=h.cost (x:=x-1) (by omega)
    have p1:=aa8 h hx
    unfold zV at he
    grind
   ·rfl
  ·omega
end
end Go.Proofs.YtmegplnmiepfbaaGreatDoor.S
set_option maxRecDepth 20000
namespace Go.Proofs.YtmegplnmiepfbaaGreatDoor.S
open Go.Sx
attribute [local irreducible] af cw bq bg aC cf bX St Bx Al App cA cq cm bT aI bw aq bR av aj aV mapA
def Ii:bP:=⟨3,1,[5,2,9]⟩
def K8:nL Ii 1 3:=⟨⟨by decide,by decide,by decide,by decide⟩,by decide,.inl ⟨rfl,rfl,rfl⟩⟩
def akT:D Ii 2 0=11/\pB Ii 2 0=1:=⟨(K8.D (by decide) (by decide)).trans (by decide),(K8.pB (by decide) (by decide) (by decide)).trans (by decide)⟩
def aw1 {q:iR}:iS q (P9 Ii)=(⟨q.most,ldP q.b_ Ii,some ⟨q.most,0,[]⟩⟩,oM 0):=ajk K8.may
def aa9 {q:iR}{o:A6}{mp:zP}{u:sP}(hm:DK o=true)(hk:o.k≠0/\o.k≠1/\o.k≠8)(h1:q.b_.o=some mp)(h2:q.us=some u):iS q o=Sn q mp.g.m u o:=by
 unfold iS
 grind
def aw2 {q:iR}{mp:zP}(h1:q.b_.o=some mp)(hg:mp.g.m=Ii)(h2:q.us=some ⟨2,0,[]⟩):iS q ⟨3,0,2,[]⟩=(⟨q.most,q.b_,some ⟨2,1,[⟨0,0,2⟩]⟩⟩,⟨0,0,5,0,[],[]⟩):=by
 rw[aa9 (by decide) (by decide) h1 h2,hg]
 rfl
def aw3 {q:iR}{mp:zP}{u:sP}(h1:q.b_.o=some mp)(hg:mp.g.m=Ii)(h2:q.us=some u):iS q ⟨6,2,0,[]⟩=(⟨q.most,yV q.b_ 2 (cP Ii 0),some u⟩,⟨0,11,1,-1,[],[]⟩):=by
 rw[aa9 (by decide) (by decide) h1 h2,hg]
 have e:Sn q Ii u ⟨6,2,0,[]⟩=(⟨q.most,yV q.b_ 2 (cP Ii 0),some u⟩,⟨0,D Ii 2 0,pB Ii 2 0,-1,[],[]⟩):=by
  rw[Sn,if_neg (by decide),if_neg (by decide),if_neg (by decide),if_neg (by decide),if_pos rfl,if_pos (by decide)]
 rw[e,akT.1,akT.2]
def aw4 {q:iR}{mp:zP}(h1:q.b_.o=some mp)(hg:mp.g.m=Ii)(h2:q.us=some ⟨2,1,[⟨0,0,2⟩]⟩):(iS q ⟨7,0,0,[]⟩).1.us=some ⟨2,1,[⟨0,1,2⟩]⟩/\(iS q ⟨7,0,0,[]⟩).2=⟨0,0,5,-1,[(0,1)],[]⟩:=by
 rw[aa9 (by decide) (by decide) h1 h2,hg]
 have e:nK Ii [⟨0,0,2⟩]=[1]:=by
  show[pB Ii 2 0]=[1]
  rw[akT.2]
 rw[Sn,e]
 exact⟨rfl,rfl⟩
section
variable {F:Nat->Prop}{W w:World}{L:List As}{lg:yS}{r:Gs}{y:AU}
def aqi {u:sP}(h:y.p.us=some u):∃x,y.cr=some x/\x.y=u:=by
 have h:y.cr.map (·.y)=some u:=h
 simp_all
def ain {Q:Bool->World->Prop}(hL:iK w lg)(s0:Sep F W w L)(h:∀w',Sep F W w' L->Fr No w w'->Q true w'):vv w Q:=by
 apply LK
 refine So (by decide) (by decide) (bt (F:=No)) λr y w1 ey s=>?_
 have i0:Gt 0 y.p:=by rw[ey];exact aqh (by decide)
 apply mz
 refine aT s λpb w1 s=>?_
 refine a_ s λmb w1 s=>?_
 iterate 3 refine sT s 0 rfl λw1 s=>?_
 refine lI s 0 rfl (lI s 0 rfl (lS s 0 rfl ?_))
 have hC:=aa3 (ns:=[5,2,9]) s (i:=1) rfl
 refine O.Sp s hC K8.may λra rn rc w1 s _=>?_
 have s:=pk 4 [3,0,1,2] s
 have o1:=ajj K8.may (by decide)
 refine aa7 hL o1 (λw' s'=>aK s' (i:=0) rfl cZ (by decide)) (i0.sm (by decide)) s λr1 y1 ma mn mc ga gn gc ab w1 er ey1 s=>?_
 rw[<-er]
 have i1:Gt 1 y1.p:=by rw[ey1];exact V7 i0 o1
 obtain⟨mp1,h1,g1,u1⟩:∃mp,y1.p.b_.o=some mp/\mp.g.m=Ii/\y1.p.us=some ⟨2,0,[]⟩:=by rw[ey1,aw1,ey];exact⟨_,rfl,rfl,rfl⟩
 have s:=pk 4 [3,0,1,2] s
 refine aa7 hL (xw (by decide)) (λw' s'=>tX) (i1.sm (by decide)) s λr2 y2 ma mn mc ga gn gc bb w1 er PK s=>?_
 rw[<-er]
 have i2:Gt 2 y2.p:=by rw[PK];exact V7 i1 (xw (by decide))
 rw[aw2 h1 g1 u1]at PK s
 have h2:y2.p.b_.o=some mp1:=by rw[PK];exact h1
 have u2:y2.p.us=some ⟨2,1,[⟨0,0,2⟩]⟩:=by rw[PK]
 have s:=pk 4 [3,0,1,2] s
 refine aa7 hL (xw (by decide)) (λw' s'=>tX) (i2.sm (by decide)) s λr3 y3 ma mn mc ga gn gc cb w1 er ey3 s=>?_
 rw[<-er]
 have i3:Gt 3 y3.p:=by rw[ey3];exact V7 i2 (xw (by decide))
 rw[aw3 h2 g1 u2]at ey3 s
 obtain⟨mp3,h3,g3⟩:=Hw h2 2 (cP Ii 0)
 have h3:y3.p.b_.o=some mp3:=by rw[ey3];exact h3
 have u3:y3.p.us=some ⟨2,1,[⟨0,0,2⟩]⟩:=by rw[ey3]
 rw[<-g3]at g1
 have s:=pk 4 [3,0,1,2] s
 refine aa7 hL (xw (by decide)) (λw' s'=>tX) (i3.sm (by decide)) s λr4 y4 ma mn mc ga gn gc db w1 er ey4 s=>?_
 rw[<-er]
 obtain⟨u4,q4⟩:=aw4 h3 g1 u3
 rw[<-ey4]at u4
 rw[q4]at s
 apply lI s 10 rfl
 show cond true _ _
 apply lI s 7 rfl
 show cond true _ _
 apply lI s 4 rfl
 show cond true _ _
 apply lI s 4 rfl
 show cond true _ _
 apply lS s 0 rfl
 refine aT s λxb w1 s=>?_
 have s:Sep No w w1 (aj (sZ xb) 1 1 51 2 (flat k9 [(0,1)])::_):=iV s (i:=0) rfl rfl (by decide) (λu hu=>by rcases List.mem_cons.1 hu with rfl|hu;rfl;rcases List.mem_cons.1 hu with rfl|hu;rfl;cases hu)
 have hX:=aK s (i:=2) rfl Ih (by decide)
 have hY:=aK s (i:=0) rfl Ih (by decide)
 have hl:=hX.len
 refine aim hX hY s (by simp at hl;omega) λw1 s _=>?_
 obtain⟨x,hx,ex⟩:=aqi u4
 have s:=pk 5 [4,0,1,2,3] s
 refine MM hx s λua un uc w1 s=>?_
 have hU:=(aK s (i:=0) rfl BL (by decide)).len
 rw[ex]at hU
 have hU:1=un:=hU
 rw[dJ (show(un:Int)=1 by omega)]
 exact h w1 (b9 s0 (au s)) (au s)
end
section
variable {F:Nat->Prop}{W w w0:World}{L:List As}{lg:yS}{r:Gs}{y:AU}{a ca la:Option Addr}{n c cn cc ln lc:Nat}{m:bP}{u:sP}{k t x:Int}
structure Sq (k:Int) (q:iR) (m:bP) (u:sP):Prop where
 I:Gt k q
 o:∃mp,q.b_.o=some mp/\mp.g.m=m
 us:q.us=some u
end
end Go.Proofs.YtmegplnmiepfbaaGreatDoor.S
namespace Go.Proofs.YtmegplnmiepfbaaGreatDoor.S
open Go.Sx
def ca (q:pD):Int:=q.past.a+(VE q).a
def cb (q:pD):Int:=q.past.b+(VE q).b
def cc (q:pD):Int:=q.past.c+q.sh.b
def cd (q:pD):Int:=q.past.d+q.sh.h
structure CtI (B:Int) (q:pD):Prop where
 p:0<=q.past.a/\0<=q.past.b/\0<=q.past.c/\0<=q.past.d
 n:0<=(VE q).a/\0<=(VE q).b
 s:0<=q.sh.b/\0<=q.sh.h
 le:ca q<=B/\cb q<=B/\cc q<=B/\cd q<=B
 vs:∀mp,q.o=some mp->(mp.Ry.length:Int)<=d_ mp.g.m.w mp.g.m.h/\(mp.g.vs.length:Int)<=d_ mp.g.m.w mp.g.m.h
structure Gr (q q':pD) (n p:Int):Prop where
 a:ca q'<=ca q+n
 b:cb q'<=cb q+p
 c:cc q'<=cc q+p
 d:cd q'<=cd q+p
set_option maxRecDepth 20000
section
variable {B t n p:Int}{q:iR}{mp:zP}{u:sP}{o:A6}
structure ayR (B:Int) (q q':pD) (w h d U:Int):Prop where
 c:CtI B q'
 g:Gr q q' (d_ w h) (U+1)
 d:0<=d/\(d=bW\/d<=254*(w*h-1))
end
end Go.Proofs.YtmegplnmiepfbaaGreatDoor.S
set_option maxRecDepth 20000
namespace Go.Proofs.YtmegplnmiepfbaaGreatDoor.S
open Go.Sx
attribute [local irreducible] af cw bq bg aC cf bX St Bx Al App cA cq cm bT aI bw aq bR av aj aV mapA
def gb (ws:List Bool)(k:Nat):Bool:=ws.getD k false
structure awt (w h:Int) (us:List aL) (ws:List Bool) (N:Nat):Prop where
 len:ws.length=N
 at_:∀c,bE w h c->gb ws c.toNat=stand us c
section
variable {W:World}{lg:yS}{r:Gs}{y:AU}{a ua ia ma ga xa:Option Addr}{vb an n c un uc ic mn mc gn gc xn xc:Nat}{fA:EG}{m:bP}{us:List aL}{M:List (Int×Int)}{G ds:List Int}{tk dd:Int}
structure TkI (m:bP) (us:List aL) (ds:List Int) (M:List (Int×Int)) (G:List Int) (n i:Nat) (done:List aL) (todo:List (aL×Int)) (mv:List (Int×Int)) (gs:List Int) (ws:List Bool):Prop where
 td:todo=(us.zip ds).drop i
 M:M=mv++(cN m.w m.h done todo).2.1
 G:G=gs++(cN m.w m.h done todo).2.2
 U:nH m.w m.h (done++todo.map (·.1))
 W:awt m.w m.h (done++todo.map (·.1)) ws n
 mv:mv.length<=i
 gs:gs.length<=i
end
end Go.Proofs.YtmegplnmiepfbaaGreatDoor.S
namespace Go.Proofs.YtmegplnmiepfbaaGreatDoor.S
open Go.Sx
def nx (q:iR):Int:=match q.us with|some u=>u.next|none=>0
def RH (q:iR):List Int:=match q.us with|some u=>u.us.map (·.id)|none=>[]
inductive azD (q q':iR) (o:A6) (a:Y9):Prop
 |load (hk:o.k=1) (hc:a.code=0) (hm:a.F0=[]) (hg:a.gone=[]) (hn:nx q'=0) (hi:RH q'=[])
 |spawn (hk:o.k=3) (hc:a.code=0) (ze:a.id=nx q) (hm:a.F0=[]) (hg:a.gone=[]) (hn:nx q'=nx q+1) (hi:RH q'=RH q++[nx q])
 |drop (hk:o.k=5/\a.code=0\/o.k=4/\a.code=13) (hm:a.F0=[]) (hg:a.gone=[]) (hn:nx q'=nx q) (hA:o.A∈RH q) (hi:RH q'=(RH q).filter λx=>!decide (x=o.A))
 |none (h1:¬(o.k=1/\a.code=0)) (h3:¬(o.k=3/\a.code=0)) (h5:¬(o.k=5/\a.code=0)) (h4:¬(o.k=4/\a.code=13)) (hm:∀p∈a.F0,p.1∈RH q) (hn:nx q'=nx q) (hp:(RH q'++a.gone).Perm (RH q))
structure ayS (S:List Int) (lv:List Bool):Prop where
 len:lv.length=60
 at_:∀i:Nat,i<60->gb lv i=decide ((i:Int)∈S)
def below (S:List Int)(p:Nat):Nat:=(S.filter λx=>decide (x<(p:Int))).length
end Go.Proofs.YtmegplnmiepfbaaGreatDoor.S
set_option maxRecDepth 20000
namespace Go.Proofs.YtmegplnmiepfbaaGreatDoor.S
open Go.Sx
attribute [local irreducible] af cw bq bg aC cf bX St Bx Al App cA cq cm bT aI bw aq bR av aj aV mapA
def Sq.mono {k k':Int}{q:iR}{m:bP}{u:sP}(h:Sq k q m u)(hk:k<=k'):Sq k' q m u:=⟨h.I.mono hk,h.o,h.us⟩
def arw {k:Int}{q:iR}{m:bP}{u:sP}(h:Sq k q m u):Sq (k+1) (iS q ⟨7,0,0,[]⟩).1 m (Hu m.w m.h u (nK m u.us))/\(iS q ⟨7,0,0,[]⟩).2=⟨0,0,5,-1,(cN m.w m.h [] (u.us.zip (nK m u.us))).2.1,(cN m.w m.h [] (u.us.zip (nK m u.us))).2.2⟩:=by
 obtain⟨mp,h1,rfl⟩:=h.o
 have hi:=V7 h.I (xw (k:=7) (A:=0) (B:=0) (by decide))
 rw[aa9 (by decide) (by decide) h1 h.us]at hi⊢
 unfold Sn at hi⊢
 rw[if_neg (by decide),if_neg (by decide),if_neg (by decide),if_neg (by decide),if_neg (by decide)]at hi⊢
 obtain⟨Sm,e1,e2⟩:=FZ (mq mp.g.m.w mp.g.m.h u.us) h1
 exact⟨⟨hi,⟨Sm,e1,by rw[e2]⟩,rfl⟩,rfl⟩
end Go.Proofs.YtmegplnmiepfbaaGreatDoor.S
namespace Go.Proofs.YtmegplnmiepfbaaGreatDoor.S
open Go.Sx
abbrev two (N c0 c1:Int):List aL:=[⟨0,c0,N-1⟩,⟨1,c1,0⟩]
section
variable {m:bP}{p q c0 c1 N:Int}
def apq (h:nL m p q)(hN:N=m.cs.length)(hc:0<=c0/\c0<c1/\c1<N):nK m (two N c0 c1)=[p,q]:=by
 show[pB m (N-1) c0,pB m 0 c1]=_
 rw[h.pB (by omega) (by omega) (by omega),h.pB (by omega) (by omega) (by omega),if_pos (by omega),if_neg (by omega)]
def apr (h:nL m p q)(hN:N=m.cs.length)(hc:0<=c0/\c0<c1/\c1<N):
  ∃d0 d1 mv,(0<=d0/\d0<d1/\d1<N)/\cN m.w m.h [] ((two N c0 c1).zip (nK m (two N c0 c1)))=(two N d0 d1,mv,[])/\(c1=c0+1->mv=[])/\(d1=d0+1\/d1-d0<=c1-c0-2):=by
 rw[apq h hN hc]
 show∃d0 d1 mv,_/\cN m.w m.h [] [(⟨0,c0,N-1⟩,p),(⟨1,c1,0⟩,q)]=_/\_
 have hpq:=h.pq
 have s0:aY m.w m.h c0 p=c0+1:=by rw[h.step (by omega) hpq.1,if_pos rfl,if_pos (by omega)]
 have s1:aY m.w m.h c1 q=c1-1:=by rw[h.step (by omega) hpq.2.1,if_neg (λe=>hpq.2.2 e.symm),if_pos rfl]
 by_cases g0:c1=c0+1
 ·have b0:mP m.w m.h ([]++(⟨0,c0,N-1⟩:aL)::([(⟨1,c1,0⟩,q)]:List (aL×Int)).map (·.1)) ⟨0,c0,N-1⟩ p=false:=by
   unfold mP
   simp only[s0]
   simp[stand,g0]
  have b1:mP m.w m.h (([]++[(⟨0,c0,N-1⟩:aL)])++(⟨1,c1,0⟩:aL)::([]:List (aL×Int)).map (·.1)) ⟨1,c1,0⟩ q=false:=by
   unfold mP
   simp only[s1]
   have:c0=c1-1:=by omega
   simp[stand,this]
  rw[zR b0,zR b1]
  exact⟨c0,c1,[],hc,rfl,λ_=>rfl,.inl g0⟩
 ·have b0:mP m.w m.h ([]++(⟨0,c0,N-1⟩:aL)::([(⟨1,c1,0⟩,q)]:List (aL×Int)).map (·.1)) ⟨0,c0,N-1⟩ p=true:=by
   unfold mP
   simp only[s0]
   have:¬c0=c0+1:=by omega
   have:0<=c0+1:=by omega
   simp[stand, *]
  have w0:kZ m.w m.h ⟨0,c0,N-1⟩ p=[⟨0,c0+1,N-1⟩]:=by
   unfold kZ
   simp only[s0]
   rw[if_neg (by omega)]
  rw[BP b0,w0,if_neg (by simp only[s0];omega),s0]
  by_cases g1:c1=c0+2
  ·have b1:mP m.w m.h (([]++[(⟨0,c0+1,N-1⟩:aL)])++(⟨1,c1,0⟩:aL)::([]:List (aL×Int)).map (·.1)) ⟨1,c1,0⟩ q=false:=by
    unfold mP
    simp only[s1]
    have:c0+1=c1-1:=by omega
    simp[stand,this]
   rw[zR b1]
   exact⟨c0+1,c1,_,by omega,rfl,λe=>(g0 e).elim,.inl (by omega)⟩
  ·have b1:mP m.w m.h (([]++[(⟨0,c0+1,N-1⟩:aL)])++(⟨1,c1,0⟩:aL)::([]:List (aL×Int)).map (·.1)) ⟨1,c1,0⟩ q=true:=by
    unfold mP
    simp only[s1]
    have h1:¬c0+1=c1-1:=by omega
    have h2:¬c1=c1-1:=by omega
    have h3:1<=c1:=by omega
    simp[stand,h1,h2,h3]
   have w1:kZ m.w m.h ⟨1,c1,0⟩ q=[⟨1,c1-1,0⟩]:=by
    unfold kZ
    simp only[s1]
    rw[if_neg (by omega)]
   rw[BP b1,w1,if_neg (by simp only[s1];omega)]
   exact⟨c0+1,c1-1,_,by omega,rfl,λe=>(g0 e).elim,.inr (by omega)⟩
def atv {k:Int}{v:iR}(h:nL m p q)(hN:N=m.cs.length)(hc:0<=c0/\c0<c1/\c1<N)(hq:Sq k v m ⟨2,2,two N c0 c1⟩):
  ∃d0 d1 mv,(0<=d0/\d0<d1/\d1<N)/\Sq (k+1) (iS v ⟨7,0,0,[]⟩).1 m ⟨2,2,two N d0 d1⟩/\(iS v ⟨7,0,0,[]⟩).2=⟨0,0,5,-1,mv,[]⟩/\(c1=c0+1->mv=[])/\(d1=d0+1\/d1-d0<=c1-c0-2):=by
 obtain⟨d0,d1,mv,h1,h2,h3,h4⟩:=apr h hN hc
 obtain⟨t1,t2⟩:=arw hq
 rw[h2]at t2
 unfold Hu at t1
 rw[h2]at t1
 exact⟨d0,d1,mv,h1,t1,t2,h3,h4⟩
def ahB {k A B:Int}{v:iR}{u:sP}(hq:Sq k v m u)(hA:bE m.w m.h A)(hB:bE m.w m.h B)(ho:cE m A≠255)(hs:oE m.w m.h u A B=0):
  Sq (k+1) (iS v ⟨3,A,B,[]⟩).1 m (KY u A B)/\(iS v ⟨3,A,B,[]⟩).2=⟨0,0,5,u.next,[],[]⟩:=by
 obtain⟨mp,h1,rfl⟩:=hq.o
 have hi:=V7 hq.I (xw (k:=3) (A:=A) (B:=B) (by decide))
 have r1:=HH hA
 have r2:=HH hB
 have hm:DK ⟨3,A,B,[]⟩=true:=(anZ (by simp) (by omega) (by omega) (λh=>absurd h (by decide)) λh=>absurd h (by decide)).may
 rw[aa9 hm (show(3:Int)≠0/\(3:Int)≠1/\(3:Int)≠8 by decide) h1 hq.us]at hi⊢
 unfold Sn at hi⊢
 rw[if_neg (show¬(3:Int)=2 by decide),if_pos rfl,if_neg (λh=>h ⟨hA,hB⟩),if_neg ho,if_neg (λh=>h hs)]at hi⊢
 exact⟨⟨hi,⟨mp,h1,rfl⟩,rfl⟩,rfl⟩
def anr (h:nL m p q)(hN:N=m.cs.length)(hn:2<=N):oE m.w m.h ⟨2,0,[]⟩ 0 (N-1)=0/\oE m.w m.h ⟨2,1,[⟨0,0,N-1⟩]⟩ (N-1) 0=0/\bE m.w m.h 0/\bE m.w m.h (N-1)/\cE m 0≠255/\cE m (N-1)≠255:=by
 have i0:=h.bE (x:=0) (by omega)
 have i1:=h.bE (x:=N-1) (by omega)
 have c0:=h.cost (x:=0) (by omega)
 have c1:=h.cost (x:=N-1) (by omega)
 have hw:tV [(⟨0,0,N-1⟩:aL)] (N-1)=-1:=by
  refine D7 ?_
  simp
  omega
 refine⟨?_,?_,i0,i1,by omega,by omega⟩
 ·unfold oE
  rw[if_neg (λh=>h ⟨i0,i1⟩),if_neg (λh=>h rfl),if_neg (by decide),if_neg (by omega)]
 ·unfold oE
  rw[if_neg (λh=>h ⟨i1,i0⟩),if_neg (λh=>h hw),if_neg (by simp),if_neg (by omega)]
end
end Go.Proofs.YtmegplnmiepfbaaGreatDoor.S
set_option maxRecDepth 20000
namespace Go.Proofs.YtmegplnmiepfbaaGreatDoor.S
open Go.Sx
attribute [local irreducible] af cw bq bg aC cf bX St Bx Al App cA cq cm bT aI bw aq bR av aj aV mapA
section
variable {W:World}{lg:yS}{m:bP}{p q N kk:Int}{ca la xa a:Option Addr}{cn cc mb n c:Nat}{cs:List Int}{tk:Int}
def ant {Q:Bool->WP}(hL:iK W lg)(h:nL m p q)(hN:N=m.cs.length)(hn:2<=N/\N<=60)(hkk:0<=kk/\kk<=150)(hQ:∀w',Sep No W w' []->Q true w'):
  ∀(j:Nat) (i c0 c1:Int) (w:World) (r:Gs) (y:AU),i+j=kk->0<=i->(0<=c0/\c0<c1/\c1<N)->(c1=c0+1\/c1-c0<=N-1-2*i)->Sq (100+i) y.p m ⟨2,2,two N c0 c1⟩->Sep No W w [g9 r y]->
   jE Q (j+1) N (sZ r.p) kk i w:=by
 intro j
 induction j with
 |zero=>
  intro i c0 c1 w r y hi h0 hc hg hq s
  show jD _ _ _ _ _ _ _
  unfold jD
  rw[bD]
  obtain⟨x,hx,ex⟩:=aqi hq.us
  refine MM hx s λua un uc w s=>?_
  rw[ex]at s
  have hl:=(aK s (i:=0) rfl BL (by decide)).len
  have hl:2=un:=hl
  subst hl
  have s:=ay s
  refine ain (hL.fr (au s)) s λw s _=>?_
  rw[cond_true,dJ (show((2:Nat):Int)=2 from rfl),cond_true]
  have hU:=aK s (i:=0) rfl BL (by decide)
  have rd0:∀{K:Int->Prop},K c0->aH (0:Int) (2:Nat) (wA ua λl1=>af .i64 ((l1.add ((0:Int).toNat*3)).add 1) w K):=λg=>
   hU.El (k:=0) rfl (by decide) λp x hx hc=>by
    cases hx
    exact aP (hc 1 _ rfl) g
  have pJ:∀{K:Int->Prop},K c1->aH (1:Int) (2:Nat) (wA ua λl1=>af .i64 ((l1.add ((1:Int).toNat*3)).add 1) w K):=λg=>
   hU.El (k:=1) rfl (by decide) λp x hx hc=>by
    cases hx
    exact aP (hc 1 _ rfl) g
  refine rd0 (pJ ?_)
  rw[bY]
  have s:=b9 (bt (F:=No)) (au s)
  by_cases hk:kk<N
  ·rw[bY]
   exact hQ w s
  ·rw[bD]
   refine rd0 (pJ ?_)
   rw[aJ,dJ (by omega)]
   exact hQ w s
 |succ j ih=>
  intro i c0 c1 w r y hi h0 hc hg hq s
  show jD _ _ _ _ _ _ _
  unfold jD
  rw[bY]
  obtain⟨d0,d1,mv,h1,h2,h3,h4,h5⟩:=atv h hN hc hq
  refine aa7 (o:=⟨7,0,0,[]⟩) hL (xw (by decide)) (λw' s'=>tX) (hq.I.sm (by omega)) s λr' y' ma mn mc ga gn gc ab w er ey s=>?_
  rw[h3]at s
  rw[<-ey]at h2
  have hml:=(aK s (i:=1) rfl Ih (by decide)).len
  have Xa:=(aK s (i:=2) rfl ct (by decide)).len
  have Xa:0=gn:=Xa
  have hml:mv.length=mn:=hml
  refine lI s 0 rfl ?_
  rw[wG rfl,cond_false]
  refine lS s 0 rfl ?_
  rw[wG (by omega),cond_false,aJ]
  have fin:jE Q (j+1) N (sZ r.p) kk (i+1) w:=by
   rw[<-er]
   refine ih (i+1) d0 d1 w r' y' (by omega) (by omega) h1 (by omega) ?_ (pk 4 [3] s)
   rw[show 100+(i+1)=100+i+1 by omega]
   exact h2
  by_cases hiN:i≥N
  ·rw[bY hiN]
   refine lS s 0 rfl ?_
   have:=congrArg List.length (h4 (by omega))
   have:mv.length=0:=this
   rw[wG (by omega),cond_false]
   exact fin
  ·rw[bD hiN]
   exact fin
def ad4 {Q:Bool->WP}{mw mh:Int}(hL:iK W lg)(atw:(mh=1/\mw=N)\/(mw=1/\mh=N))(hn:2<=N/\N<=60)(hnn:(n:Int)=N)(hC:Sl W ca cn cc 1 bA cs)(hcs:gA cs)(hcn:cn<9223372036854775808)(hQ:∀w',Sep No W w' []->Q true w'):
  ∀(j i:Nat) (ws:List Int) (w:World),i+j=n->ws.length=n->(∀k,k<i->1<=gi ws k/\gi ws k<=254)->Sep No W w [av mb 25 [ae mw,ae mh,.slice xa n c],aj xa n c 5 1 (flat bA ws)]->
   jU Q (j+1) ca cn cc tk N (aZ mb) (i:Int) w:=by
 intro j
 induction j with
 |zero=>
  intro i ws w hi hl hw s
  show jT _ _ _ _ _ _ _ _ _ _
  unfold jT
  rw[bD]
  have hall:∀x∈ws,1<=x/\x<=254:=λx hx=>by
   obtain⟨k,hk⟩:=List.mem_iff_getElem?.1 hx
   have hkl:=(List.getElem?_eq_some_iff.1 hk).1
   rw[gT hkl]at hk
   cases hk
   exact hw k (by omega)
  have hmay:c8 ⟨mw,mh,ws⟩:=by
   refine⟨?_,?_,?_,λx hx=>by have:=hall x hx;omega⟩
   ·show 1<=mw/\mw<=1024
    omega
   ·show 1<=mh/\mh<=1024
    omega
   ·show(ws.length:Int)=mw*mh
    rcases atw with⟨e1,e2⟩|⟨e1,e2⟩
    ·rw[e1,Int.mul_one];omega
    ·rw[e1,Int.one_mul];omega
  obtain⟨p,q,aqj⟩:∃p q,nL ⟨mw,mh,ws⟩ p q:=by
   rcases atw with⟨e1,e2⟩|⟨e1,e2⟩
   ·exact⟨1,3,hmay,λx hx=>by have:=hall x hx;omega,.inl ⟨e1,rfl,rfl⟩⟩
   ·exact⟨2,0,hmay,λx hx=>by have:=hall x hx;omega,.inr ⟨e1,rfl,rfl⟩⟩
  have hN:N=((bP.mk mw mh ws).cs.length:Int):=by
   show N=(ws.length:Int)
   omega
  have m6:mw*mh<=1600:=by
   have:=hmay.len
   have:(ws.length:Int)=mw*mh:=this
   omega
  have RZ:=ajj hmay m6
  refine So (by decide) (by decide) s λr y w ey s=>mz ?_
  have hI:Gt 0 y.p:=by rw[ey];exact aqh (k:=3) (by decide)
  refine lI s 1 rfl (lI s 1 rfl (lS s 1 rfl ?_))
  refine O.Sp (m:=⟨mw,mh,ws⟩) s (aK s (i:=2) rfl cZ (by decide)) hmay λra rn rc w s _=>?_
  have s:=pk 4 [1,0] s
  refine F3 (o:=P9 ⟨mw,mh,ws⟩) hL RZ (λw' s'=>aK s' (i:=0) rfl cZ (by decide)) (hI.sm (by decide)) s λr1 y1 ma mn mc ga gn gc w er ey1 s=>?_
  have q0:=V7 hI RZ
  rw[ajk hmay]at ey1 q0⊢
  rw[<-ey1]at q0
  have hq:Sq 1 y1.p ⟨mw,mh,ws⟩ ⟨2,0,[]⟩:=⟨q0,by rw[ey1];exact⟨_,rfl,rfl⟩,by rw[ey1,ey]⟩
  rw[wG (show(oM 0).code=0 from rfl),cond_false,<-er]
  have hN1:IntKind.wrap .i64 (N-1)=N-1:=aJ
  rw[hN1]
  obtain⟨p1,p2,i0,i1,o0,o1⟩:=anr aqj hN hn.1
  obtain⟨a1,a2⟩:=ahB hq i0 i1 o0 p1
  have s:=pk 4 [2] s
  refine F3 (o:=⟨3,0,N-1,[]⟩) hL (xw (by decide)) (λw' s'=>tX) (hq.I.sm (by decide)) s λr2 y2 ma mn mc ga gn gc w er PK s=>?_
  rw[a2,wG rfl,cond_false,<-er]
  rw[<-PK]at a1
  obtain⟨b1,b2⟩:=ahB (u:=⟨2,1,[⟨0,0,N-1⟩]⟩) a1 i1 i0 o1 p2
  have s:=pk 3 [2] s
  refine F3 (o:=⟨3,N-1,0,[]⟩) hL (xw (by decide)) (λw' s'=>tX) (a1.I.sm (by decide)) s λr3 y3 ma mn mc ga gn gc w er ey3 s=>?_
  rw[b2,wG rfl,cond_false,<-er]
  rw[<-ey3]at b1
  have s:=pk 3 [2] s
  refine Hp.oH (by decide) (by decide) (by decide) ?_
  have h1:=Int.emod_nonneg tk (b:=150-0+1) (by omega)
  have h2:=Int.emod_lt_of_pos tk (b:=150-0+1) (by omega)
  exact⟨(0+tk%(150-0+1)).toNat+1,ant hL aqj hN hn (by omega) hQ (0+tk%(150-0+1)).toNat 0 0 (N-1) w r3 y3 (by omega) (by omega) (by omega) (by omega) (Sq.mono b1 (by omega)) s⟩
 |succ j ih=>
  intro i ws w hi hl hw s
  show jT _ _ _ _ _ _ _ _ _ _
  unfold jT
  rw[bY]
  refine lS s 0 rfl ?_
  refine zH cZ s (i:=1) (k:=i) (x':=1) rfl rfl (by omega) rfl rfl λw s=>?_
  have hw1:∀(v:Int),1<=v/\v<=254->∀k,k<i+1->1<=gi (ws.set i v) k/\gi (ws.set i v) k<=254:=λv hv k hk=>by
   rw[TL (by omega)]
   split
   ·exact hv
   ·exact hw k (by omega)
  by_cases hc:(cn:Int)>0
  ·rw[bY hc]
   have s:=ay s
   refine lS s 0 rfl ?_
   refine⟨by omega,?_⟩
   have wK:=hC.len
   have e:Int.tmod (i:Int) (cn:Int)=((i%cn:Nat):Int):=(Int.ofNat_tmod i cn).symm
   have hlt:i%cn<cn:=Nat.mod_lt _ (by omega)
   rw[e]
   refine(hC.fr (au s)).Cv (k:=i%cn) rfl hlt ?_
   have hr:=hcs _ (fE (l:=cs) (i:=i%cn) (by omega))
   refine⟨by decide,?_⟩
   have e2:Int.tmod (gi cs (i%cn)) 254=gi cs (i%cn)%254:=Int.tmod_eq_emod_of_nonneg hr.1
   have e3:IntKind.wrap .u8 (1+Int.tmod (gi cs (i%cn)) 254)=1+gi cs (i%cn)%254:=by rw[e2,wrap_u8 (by omega) (by omega)]
   rw[e3]
   refine zH cZ s (i:=1) (k:=i) (x':=1+gi cs (i%cn)%254) rfl rfl (by rw[List.length_set];omega) rfl rfl λw s=>?_
   rw[KZ (by omega)]
   refine ih (i+1) ((ws.set i 1).set i (1+gi cs (i%cn)%254)) w (by omega) (by rw[List.length_set,List.length_set];exact hl) (λk hk=>?_) s
   rw[List.set_set]
   exact hw1 _ (by omega) k hk
  ·rw[bD hc,KZ (by omega)]
   exact ih (i+1) (ws.set i 1) w (by omega) (by rw[List.length_set];exact hl) (hw1 1 (by decide)) s
def WU {Q:Bool->WP}{akU:Int}{down:Bool}(hL:iK W lg)(hC:Sl W ca cn cc 1 bA cs)(hcs:gA cs)(hcn:cn<9223372036854775808)(hQ:∀w',Sep No W w' []->Q true w'):
  xx akU ca cn cc tk down W Q:=by
 refine F9 _ _ _ _ _ _ _ _ ?_
 refine Hp.oH (by decide) (by decide) (by decide) ?_
 have h1:=Int.emod_nonneg akU (b:=60-2+1) (by omega)
 have h2:=Int.emod_lt_of_pos akU (b:=60-2+1) (by omega)
 obtain⟨N,hN⟩:∃N,N=2+akU%(60-2+1):=⟨_,rfl⟩
 rw[<-hN]
 refine uw (f:=bA) (x0:=0) (size:=1) (bytes:=1) (ln:=N.toNat) (cn:=N.toNat) dW (bt (F:=No)) rfl rfl rfl rfl rfl rfl (by decide) cZ rfl (λu hu=>by cases List.mem_singleton.1 hu;rfl) (by omega) (by omega) (Nat.le_refl _) (by omega) (by simp only[maxLen];omega) λxb w s=>?_
 refine a_ s λmb w s=>?_
 rw[awl]at s
 iterate 3 refine sT s 0 rfl λw s=>?_
 cases down with
 |true=>
  rw[cond_true]
  iterate 2 refine sT s 0 rfl λw s=>?_
  exact⟨N.toNat+1,ad4 hL (.inr ⟨rfl,rfl⟩) (by omega) (by omega) hC hcs hcn hQ N.toNat 0 _ w (by omega) List.length_replicate (λk hk=>by omega) s⟩
 |false=>
  rw[cond_false]
  exact⟨N.toNat+1,ad4 hL (.inl ⟨rfl,rfl⟩) (by omega) (by omega) hC hcs hcn hQ N.toNat 0 _ w (by omega) List.length_replicate (λk hk=>by omega) s⟩
end
end Go.Proofs.YtmegplnmiepfbaaGreatDoor.S
namespace Go.Sx
open Go.ChangeShapes Go.WideShapes Go.RowKit
def anu (X:World->Prop)(P:Program)(f:FuncId)(TA:List Sh):Prop:=
 ∀(W:World) (args:List Value),X W->AA W TA args->aq P f args.toArray W λv W'=>dB v λr=>r=true/\Below W.heap.size W W'
def atA {H:Type}{enc:TypeId×Value->H}{C:Checked}{os:Os}{f:FuncId}{fn:Func}{s:ChangeSpec}{conds:List PathCond}{ts:List TypeId}{TA:List Sh}{tb:TypeId}{fuel:Nat}{X:World->Prop}
  (hX:∀w w':World,w.heap=w'.heap->X w->X w')
  (own:ownKnob C.prog.godebug=none)(started:os.Started)(noInit:C.prog.inits.idxOf? f=none)(hfn:C.prog.funcs[f]? =some fn)
  (witness:∃(w:World) (tape:Tape) (i:Input),w.os=os/\(w.forCall tape i).Shaped C.prog/\i.vars=[]/\Input.okWide C.prog (w.forCall tape i) .any w.heap.size f i/\
   ((s.pre enc C.prog fn conds false (w.forCall tape i).memory i.args/\X (w.forCall tape i).memory)/\sizedMet enc C.prog fn (OpenSpec.ofChange s) false (w.forCall tape i).memory i.args)/\({}:Assume).holds C.prog (lone (Frame.enter C.prog f i.args .normal) [] (w.forCall tape i)))
  (hl:laidOutB C.prog=true)(hts:fn.params.toList=ts)(awu:ts.map (JG C.prog fuel)=TA.map some)(hrd:(ts.all λt=>C.prog.readableRec t&&decide (t<C.prog.types.size))=true)
  (hvars:s.vars=[])(hres:fn.resultTypes=#[tb])(htb:C.prog.underlying tb=some .bool)
  (hspec:∀(ds:List (DataW H)),ds.length=ts.length->s.fn H ds={results:=[.lit (.bool true)],args:=ds})
  (law:anu X C.prog f TA):
  ReturnsInHanded {} C os f .any (λw args=>(s.pre enc C.prog fn conds false w args/\X w)/\sizedMet enc C.prog fn (OpenSpec.ofChange s) false w args) (s.post enc C.prog fn false true false false):=by
 apply returnsInHanded_of_change_and (λw w' _ hh h=>hX w w' hh h) own started noInit hfn witness
 intro W base args ds gs before hval hW _ _ hXW _
 have hW':=hW
 obtain⟨p,q,hA,hV,rfl,hfz,hnd⟩:=hW
 rw[hvars]at hV
 obtain⟨rfl,rfl⟩:=trodVars_none hV
 rw[hts]at hA
 have atx:=afy awu (λj t v ht hv=>hval j t v (by grind) (by grind)) hA
 have hlt:∀x∈p,x.block<W.heap.size:=λx hx=>hW'.lt x (by simp[hx])
 have hc:=law W args.toList hXW atx
 unfold aq at hc
 refine hc.mono λe W' he=>?_
 cases e with
 |returned v=>
  obtain⟨r,rfl,rfl,bel⟩:=Gu he
  have hsp:=hspec ds (NI hA)
  refine⟨_,rfl,ds,[],p++[],[],p,[],hW',?_,?_,?_,bel.frame _,λh=>by cases h⟩
  ·rw[List.append_nil,hsp,hres]
   exact trodAll_mk1 (shut_bool htb _)
  ·rw[List.append_nil,hsp,hts]
   exact RP hl bel hrd hA hlt
  ·rw[List.append_nil,hsp,hvars]
   simp[DataW.TrodVars]
 |_=>exact he.elim
end Go.Sx
namespace Go.Proofs.YtmegplnmiepfbaaGreatDoor.S
open Go.Sx
def aqk: "*"++ "errors.errorString"= "*errors.errorString":=by decide
def awv (u:TypeId)(h:P.typeName? 3 u=some "*errors.errorString"):u=401:=
 typeName_ptr_named (by rw[aqk];kernel_rfl) (by kernel_rfl) (by decide) u (by rw[aqk];exact h)
def aty:P.cellsOf 422=1:=by kernel_rfl
def aps:P.cellsOf 9=1:=by kernel_rfl
def RowsIn (W:World)(ps:List MemPlace):Prop:=∀b off,MemPlace.cell b off∈ps->(∃c t,W.heap[b]? =some (.cells c t (0,0)))/\∀u v,W.cell? ⟨b,off,none⟩=some (.iface u v)->Value.okWide P W .any 0 u v
set_option maxRecDepth 100000 in
theorem G9 {W:World}{n:String}{g:Nat}{text:List UInt8}{rest:List (String×DataW Unit)}{ps:List MemPlace}(hg:P.globalNamed n=some g)(ht:(P.globals[g]?).map (·.type)=some 74)
  (h:DataW.LaidVars P W ((n,.iface "*errors.errorString" (.ptr (.agg [.lit (.string text)])))::rest) ps)(hr:RowsIn W ps):
  ∃a q,W.cell? ⟨g,0,none⟩=some (.iface 401 (.pointer (some a)))/\(∃c t,W.heap[a.block]? =some (.cells c t (0,0)))/\DataW.LaidVars P W rest q/\RowsIn W q/\ps=.cell g 0::.cell a.block a.off::q:=by
 obtain⟨g0,t0,cs,f,p,q,hg0,ht0,hv,hd,hq,rfl⟩:=h
 obtain rfl:=Option.some.inj (hg.symm.trans hg0)
 obtain rfl:=Option.some.inj (ht.symm.trans ht0)
 obtain⟨l⟩:=cs
 have ok:∀u v,l=[.iface u v]->Value.okWide P W .any 0 u v:=λu v e=>by
  subst e
  exact(hr g 0 (by simp[MemPlace.row])).2 u v (by simpa using World.var?_cell hg hv 0)
 obtain⟨a,s,rfl,hc,hs,hz,rfl⟩:=errorString_of_trod Go.Proofs.Tryz.underlying74 awv Go.Proofs.Tryz.underlying401 Go.Proofs.Tryz.underlying422 rfl rfl Go.Proofs.Tryz.underlying9 aty aps hd ok
 refine⟨a,q,by simpa using World.var?_cell hg hv 0,(hr a.block a.off (by simp[MemPlace.row])).1,hq,λb off hm=>hr b off (by simp[hm]),by simp[MemPlace.row]⟩
def akV:List (String×DataW Unit):=[("errors.errorType",Rows.laid_errors_errorType),("herdsman/pack.errEnd",Rows.laid_herdsman_pack_errEnd),("herdsman/pack.errForm",Rows.laid_herdsman_pack_errForm),("herdsman/nav.errNoMap",Rows.laid_herdsman_nav_errNoMap),("herdsman/nav.errBounds",Rows.laid_herdsman_nav_errBounds),("herdsman/nav.errField",Rows.laid_herdsman_nav_errField),("herdsman/svc.errScript",Rows.laid_herdsman_svc_errScript)]
def g1:P.globalNamed "errors.errorType"=some 1:=by kernel_rfl
def rtT:(P.cutTypes.find? (·.1== "internal/reflectlite.rtype")).map (·.2)=some 219:=by kernel_rfl
def atz:((List.range P.types.size).filter λt=>P.rowNamed t [101,114,114,111,114])=[74]:=by kernel_rfl
set_option maxRecDepth 100000 in
theorem apt {W:World}(h:laidMetH P akV W):∃lg,iK W lg:=by
 have h':laidMet P [("herdsman/pack.errEnd",Rows.laid_herdsman_pack_errEnd),("herdsman/pack.errForm",Rows.laid_herdsman_pack_errForm),("herdsman/nav.errNoMap",Rows.laid_herdsman_nav_errNoMap),("herdsman/nav.errBounds",Rows.laid_herdsman_nav_errBounds),("herdsman/nav.errField",Rows.laid_herdsman_nav_errField),("herdsman/svc.errScript",Rows.laid_herdsman_svc_errScript)] W/\handlesMet P [("errors.errorType",Rows.laid_errors_errorType)] W:=h
 obtain⟨⟨ps,hv,hnd,hr⟩,hh⟩:=h'
 obtain⟨name,u,ty,e1,e2,e3,e4,e5⟩:=hh _ (List.mem_singleton.2 rfl)
 have en:=(Option.some.inj e1).symm
 subst en
 obtain rfl:=Option.some.inj (rtT.symm.trans e2)
 have hm:ty∈(List.range P.types.size).filter λt=>P.rowNamed t [101,114,114,111,114]:=List.mem_filter.2 ⟨List.mem_range.2 e3,e4⟩
 rw[atz]at hm
 obtain rfl:=List.mem_singleton.1 hm
 have ht:typeHandle P 74=.pointer (some ⟨8,74,none⟩):=by kernel_rfl
 rw[ht]at e5
 have hr:=hr
 obtain⟨a6,q6,v6,b6,hv1,hr1,k6⟩:=G9 (g:=6) (by kernel_rfl) (by kernel_rfl) hv hr
 obtain⟨a5,q5,v5,b5,hv2,hr2,k5⟩:=G9 (g:=5) (by kernel_rfl) (by kernel_rfl) hv1 hr1
 obtain⟨a2,q2,v2,b2,hv3,hr3,k2⟩:=G9 (g:=2) (by kernel_rfl) (by kernel_rfl) hv2 hr2
 obtain⟨a3,q3,v3,b3,hv4,hr4,k3⟩:=G9 (g:=3) (by kernel_rfl) (by kernel_rfl) hv3 hr3
 obtain⟨a4,q4,v4,b4,hv5,hr5,k4⟩:=G9 (g:=4) (by kernel_rfl) (by kernel_rfl) hv4 hr4
 obtain⟨a0,q0,v0,b0,hv6,hr6,k0⟩:=G9 (g:=0) (by kernel_rfl) (by kernel_rfl) hv5 hr5
 subst k0 k4 k3 k2 k5 k6
 refine⟨⟨a0,a2,a3,a4,a5,a6⟩,v0,by simpa[rt]using World.var?_cell g1 e5 0,v2,v3,v4,v5,v6,?_,?_,b2,b3,b5,b6⟩
 all_goals grind
end Go.Proofs.YtmegplnmiepfbaaGreatDoor.S
namespace Go.Proofs.YtmegplnmiepfbaaGreatDoor.S
open Go.Sx
def azE:Sh:=.agg 3 [(0,1,.int .i64),(1,1,.int .i64),(2,1,.int .i64)]
def aql:anu (laidMetH P akV) P 3 [.int .i64,.sl 1 (.int .u8),.int .i64,.bool]:=by
 intro W args hX h
 obtain⟨lg,hL⟩:=apt hX
 obtain⟨v0,r,rfl,h0,h⟩:=AA.cons h
 obtain⟨v1,r,rfl,h1,h⟩:=AA.cons h
 obtain⟨v2,r,rfl,h2,h⟩:=AA.cons h
 obtain⟨v3,r,rfl,h3,h⟩:=AA.cons h
 obtain rfl:=AA.nil h
 obtain⟨x0,rfl,_⟩:=aiv h0
 obtain⟨a,n,c,cs,rfl,q1,q2,q3,q4,q5⟩:=anV h1
 obtain⟨x2,rfl,_⟩:=aiv h2
 obtain⟨x3,rfl⟩:=anQ h3
 exact WU (Q:=λr W'=>r=true/\Go.RowKit.Below W.heap.size W W') hL ⟨q4,q1,q3⟩ (λx hx=>wf_u8 (q5 x hx)) (by simp only[maxLen]at*;omega) λw' s=>⟨rfl,alp s⟩
def acX (l:List UInt8):Obj:=.cells #[.string {data:=l.toArray}] 422 (0,0)
noncomputable def low:Nat:=(World.holding P default ⟨#[],#[],[]⟩).heap.size
def Y_ (v:Value):Obj->Obj
 |.cells _ t fz=>.cells #[v] t fz
 |o=>o
noncomputable def acY (k:Nat):Value:=.iface 401 (.pointer (some ⟨low+k,0,none⟩))
noncomputable def auu (os:Os):World:=
 let w0:=World.holding P os ⟨#[acX [116,104,101,32,98,121,116,101,115,32,101,110,100],acX [110,111,98,111,100,121,32,119,114,105,116,101,115,32,115,111],acX [116,104,101,114,101,32,105,115,32,110,111,32,109,97,112],
  acX [116,104,101,114,101,32,105,115,32,110,111,32,115,117,99,104,32,99,101,108,108,32,111,114,32,115,101,99,116,111,114],acX [116,104,101,114,101,32,105,115,32,110,111,32,115,117,99,104,32,102,105,101,108,100],acX [110,111,98,111,100,121,32,119,114,105,116,101,115,32,115,111]],#[],[]⟩
 {w0 with heap:=((((((w0.heap.modify 0 (Y_ (acY 5))).modify 1 (Y_ (.iface 219 (rt 74)))).modify 2 (Y_ (acY 2))).modify 3 (Y_ (acY 3))).modify 4 (Y_ (acY 4))).modify 5 (Y_ (acY 1))).modify 6 (Y_ (acY 0))}
set_option maxRecDepth 100000 in
theorem avo (os:Os)(args:Array Value):laidMetH P akV ((auu os).forCall (λ_ _=>0) ⟨#[],args,[]⟩).memory:=
 laidMetH_of_parts (laidMet_of_run (ps:=[.cell 6 0,.cell low 0,.cell 5 0,.cell (low+1) 0,.cell 2 0,.cell (low+2) 0,.cell 3 0,.cell (low+3) 0,.cell 4 0,.cell (low+4) 0,.cell 0 0,.cell (low+5) 0]) 8 (by kernel_rfl) (by kernel_rfl) (by kernel_rfl)) (by kernel_rfl)
end Go.Proofs.YtmegplnmiepfbaaGreatDoor.S
