/- Part 4 of the proof. -/
import Derived.Test.YtmegplnmiepfbaaGreatDoorM2
import Derived.Laws.Pointers
set_option linter.unusedVariables false
set_option linter.unusedSimpArgs false
set_option linter.defProp false
namespace Go.Proofs.YtmegplnmiepfbaaGreatDoor.S
open Go.Sx
attribute [local irreducible] af cw bq bg aC cf bX St Bx Al App cA cq cm bT aI bw aq bR av aj aV mapA
section
variable {W w w0:World}{p rp:Nat}{tw th a:Int}{ca ta da:Option Addr}{cn cc tn tc dn dc:Nat}{cs ds:List Int}{xs todo:List bh}{l:List (Int×Int)}{bs:List Rg.Bk}{N:Nat}
def swc (tw th:Int)(ca:Option Addr)(cn cc rp:Nat)(ta:Option Addr)(tn tc:Nat)(da:Option Addr)(dn dc:Nat):List Value:=
 [ae tw,ae th,.slice ca cn cc,.pointer (sZ rp),.slice ta tn tc,.slice da dn dc]
abbrev CH (p rp:Nat)(tw th:Int)(ca:Option Addr)(cn cc:Nat)(a:Int)(l:List (Int×Int))(bs:List Rg.Bk)(N:Nat)(ta:Option Addr)(tn tc:Nat)(todo:List bh)(da:Option Addr)(dn dc:Nat)(ds:List Int):List As:=
 [av p 363 (swc tw th ca cn cc rp ta tn tc da dn dc),Rg.AN rp a l bs N,aj ta tn tc 294 3 (flat fL todo),aj da dn dc 3 1 (flat one ds)]
def al6 {Q:World->Prop}
  (h:∀(l':List (Int×Int)) (N':Nat) (todo':List bh) bs' W7 tn' W8 w',BK tw th cs xs a l' N' todo' ds->(∀x∈todo',a+256<=x.k)->l'.length+todo'.length=l.length+todo.length->(l'=[]->l=[]/\todo'=todo)->Sep No w0 w' (CH p rp tw th ca cn cc a l' bs' N' W7 tn' W8 todo' da dn dc ds)->Q w')(vq:cs.length<=256)(hxs:xs.length<2000):
  ∀(Hq:List bh) (l1:List (Int×Int)) (N1:Nat) (xz:List Rg.Bk) (ta1:Option Addr) (tn1 tc1:Nat) (w:World),BK tw th cs xs a l1 N1 Hq ds->l1.length+Hq.length=l.length+todo.length->(l1=[]->l=[]/\Hq=todo)->
   Sep No w0 w (CH p rp tw th ca cn cc a l1 xz N1 ta1 tn1 tc1 Hq da dn dc ds)->gd Q (Hq.length+1) (sZ p) w:=by
 intro Hq
 induction Hq with
 |nil=>
  intro l1 N1 xz ta1 tn1 tc1 w I hl he s
  show xl Q (gd Q 0) _ _
  have O8:=(aK s (i:=2) rfl m9 (by decide)).len
  refine ah (bC (ay s) (i:=0) rfl rfl rfl ?_)
  subst O8
  exact h l1 N1 [] xz ta1 _ tc1 _ I (by simp) hl he (ay s)
 |cons x Hq ih=>
  intro l1 N1 xz ta1 tn1 tc1 w I hl he s
  show xl Q (gd Q (Hq.length+1)) _ _
  have hX:=aK s (i:=2) rfl m9 (by decide)
  have O8:=hX.len
  have UZ:=I.fA
  simp[List.length_cons]at O8 UZ
  have s:=ay s
  refine ah (lS s 0 rfl ?_)
  rw[bY]
  refine ah (lP s 0 rfl (ah (lS s 0 rfl ?_)))
  refine hX.El (k:=0) rfl (by omega) λq y hy hc=>?_
  have hy:x=y:=by grind
  subst hy
  refine aP (hc 2 _ rfl) (ah (lS s 0 rfl ?_))
  refine hX.El (k:=0) rfl (by omega) λq y hy hc=>?_
  have hy:x=y:=by grind
  subst hy
  have hc0:=hc 0 _ rfl
  refine aP hc0 ?_
  have UW:=I.top (kc x) (by simp)
  have Q1:=I.low x (by simp)
  have hk:(kc x).1=x.k:=rfl
  refine Rg.Pf s (i:=1) rfl (by omega) (by omega) (λhno=>?_) λhyes w Gm s=>?_
  ·refine h l1 N1 (x::Hq) xz ta1 tn1 tc1 _ I (λy hy=>?_) hl he s
   rcases List.mem_cons.1 hy with rfl|hy
   ·omega
   ·have:=(List.pairwise_cons.1 I.Mh).1 y hy
    omega
  ·rw[cond_true]
   refine ah (lS s 0 rfl ?_)
   apply NL (m:=1) rfl (by omega)
   refine ah (sT s 0 rfl λw s=>?_)
   have s:=ad9 (m:=1) s (i:=2) rfl (by omega)
   refine ih (l1++[kc x]) (N1+1) Gm _ _ _ w I.take (by simp[List.length_append,List.length_cons,List.length_nil]at hl⊢;omega) (λe=>by simp at e) s
def aal {Q:World->Prop}(I:BK tw th cs xs a l N todo ds)(vq:cs.length<=256)(hxs:xs.length<2000)(s:Sep No w0 w (CH p rp tw th ca cn cc a l bs N ta tn tc todo da dn dc ds))
  (h:∀(a':Int) (l':List (Int×Int)) (N':Nat) (todo':List bh) bs' W7 tn' W8 w',BK tw th cs xs a' l' N' todo' ds->(∀x∈todo',a'+256<=x.k)->(l'=[]->todo'=[])->l'.length+todo'.length=l.length+todo.length->Sep No w0 w' (CH p rp tw th ca cn cc a' l' bs' N' W7 tn' W8 todo' da dn dc ds)->Q w'):
  jx (sZ p) w Q:=by
 apply J0
 have hX:=aK s (i:=2) rfl m9 (by decide)
 have O8:=hX.len
 refine ah (lS s 0 rfl ?_)
 have go:∀(a1:Int) (xz:List Rg.Bk) (w:World),BK tw th cs xs a1 l N todo ds->(l=[]->∀x∈todo.head?,a1=x.k)->Sep No w0 w (CH p rp tw th ca cn cc a1 l xz N ta tn tc todo da dn dc ds)->∃k',gd Q k' (sZ p) w:=λa1 xz w I he s=>by
  refine⟨todo.length+1,al6 (λl' N' todo' bs' W7 tn' W8 w' I' hf hl hn s'=>?_) vq hxs todo l N xz ta tn tc w I rfl (λe=>⟨e,rfl⟩) s⟩
  refine h a1 l' N' todo' bs' W7 tn' W8 w' I' hf (λe=>?_) hl s'
  obtain⟨e1,e2⟩:=hn e
  cases todo with
  |nil=>exact e2
  |cons y ys=>
   have h1:=he e1 y (by simp)
   grind
 cases Hz:todo with
 |nil=>
  subst Hz
  have O8:=O8
  subst O8
  exact go a bs w I (λ_ x hx=>by simp at hx) s
 |cons x ys=>
  subst Hz
  simp[List.length_cons]at O8
  rw[bY]
  refine ah (lP s 0 rfl ?_)
  apply Rg.Cn s (i:=1) rfl
  by_cases hl:l=[]
  ·subst hl
   rw[dJ (show((([]:List (Int×Int)).length:Nat):Int)=0 from rfl),cond_true]
   have s:=ay s
   refine ah (lP s 0 rfl (ah (lS s 0 rfl ?_)))
   refine hX.El (k:=0) rfl (by omega) λq y hy hc=>?_
   have hy:x=y:=by grind
   subst hy
   refine aP (hc 2 _ rfl) ?_
   have UW:=I.top (kc x) (by simp)
   have hk:(kc x).1=x.k:=rfl
   refine Rg.aad s (i:=1) rfl (λhno=>?_) λ_ w Gm s=>?_
   ·exact(hno ⟨rfl,I.low x (by simp),by omega⟩).elim
   ·exact go x.k Gm w I.jump (λ_ y hy=>by grind) s
  ·rw[cM (by simp_all),cond_false]
   grind
def ah6 {Q:World->Prop}{x key:Int}(hC:Sl w0 ca cn cc 1 bA cs)(hx:0<=x/\x<cs.length)(hds:ds.length=cs.length)(hk:a<=key/\key<a+256/\key<1000000000000)(hN:N+1<1000000)
  (s:Sep No w0 w (CH p rp tw th ca cn cc a l bs N ta tn tc todo da dn dc ds))
  (h:∀bs' w',Sep No w0 w' (CH p rp tw th ca cn cc a (l++if gi cs x.toNat≠255/\gi ds x.toNat=bW then[(key,x)]else[]) bs' (N+(if gi cs x.toNat≠255/\gi ds x.toNat=bW then[(key,x)]else[]).length) ta tn tc todo da dn dc ds)->Q w'):
  g6 (sZ p) x key w Q:=by
 apply Jc
 have hD:=aK s (i:=3) rfl ct (by decide)
 have hcn:=hC.len
 have hdn:=hD.len
 have skip:¬(gi cs x.toNat≠255/\gi ds x.toNat=bW)->Q w:=λhn=>by
  apply h bs w
  grind
 refine ah (lS s 0 rfl ?_)
 apply(hC.fr (au s)).Cv (k:=x.toNat) (by omega) (by omega)
 by_cases h1:gi cs x.toNat=255
 ·grind
 ·rw[show(gi cs x.toNat !=255)=true by grind,cond_true]
  refine ah (lS s 0 rfl ?_)
  apply hD.pJ (k:=x.toNat) (by omega) (by omega)
  by_cases h2:gi ds x.toNat=bW
  ·rw[dJ (show gi ds x.toNat=1099511627776 from h2),cond_true]
   refine ah (lP s 0 rfl ?_)
   refine Rg.Pf s (i:=1) rfl (by omega) (by omega) (λhno=>(hno ⟨hk.1,hk.2.1⟩).elim) λ_ w Gm s=>?_
   apply h Gm w
   grind
  ·rw[cM (show gi ds x.toNat≠1099511627776 from h2),cond_false]
   grind
def agB {Q:World->Prop}{x:Int}(hC:Sl w0 ca cn cc 1 bA cs)(hcs:∀x∈cs,1<=x/\x<256)(hw:1<=tw/\tw<=16)(hh:1<=th/\th<=16)(hlen:(cs.length:Int)=tw*th)(hx:0<=x/\x<cs.length)(Gj:gi cs x.toNat≠255)(hds:ds.length=cs.length)
  (ha:gi ds x.toNat=a)(hab:0<=a/\a<100000000000)(hN:N+4<1000000)(s:Sep No w0 w (CH p rp tw th ca cn cc a l bs N ta tn tc todo da dn dc ds))
  (h:∀bs' w',Sep No w0 w' (CH p rp tw th ca cn cc a (l++kJ tw th cs ds (a+gi cs x.toNat) x 4) bs' (N+(kJ tw th cs ds (a+gi cs x.toNat) x 4).length) ta tn tc todo da dn dc ds)->Q w'):
  r_ (sZ p) x w Q:=by
 apply IE
 have hD:=aK s (i:=3) rfl ct (by decide)
 have hcn:=hC.len
 have hdn:=hD.len
 have hcx:=hcs _ (fE (i:=x.toNat) (by omega))
 have HB:x<257:=by
  have:tw*th<=16*16:=Int.mul_le_mul hw.2 hh.2 (by omega) (by decide)
  omega
 have d0:0<=x/tw:=Int.ediv_nonneg hx.1 (by omega)
 have d1:x/tw<=x:=Int.ediv_le_self _ hx.1
 have s:=ay s
 refine ah (lS s 0 rfl ?_)
 apply hD.drew.pJ (k:=x.toNat) (by omega) (by omega)
 refine ah (lS s 0 rfl ?_)
 apply(hC.fr (au s)).Cv (k:=x.toNat) (by omega) (by omega)
 have s:=ay s
 refine ah (lI s 0 rfl ⟨by omega,ah (lI s 0 rfl ⟨by omega,dg s 0 rfl,?_⟩)⟩)
 rw[ha,Int.tdiv_eq_ediv_of_nonneg hx.1,Int.tmod_eq_emod_of_nonneg hx.1,aJ,aJ (n:=gi cs x.toNat),aJ]
 generalize hkey:a+gi cs x.toNat=key at h
 have hkr:a<=key/\key<a+256/\key<1000000000000:=by omega
 have one:∀{j:Nat} {xz:List Rg.Bk} {w:World} {K:World->Prop} {y:Int},j<4->0<=bN tw th x j->y=bN tw th x j->Sep No w0 w (CH p rp tw th ca cn cc a (l++kJ tw th cs ds key x j) xz (N+(kJ tw th cs ds key x j).length) ta tn tc todo da dn dc ds)->
   (∀Gm w',Sep No w0 w' (CH p rp tw th ca cn cc a (l++kJ tw th cs ds key x (j+1)) Gm (N+(kJ tw th cs ds key x (j+1)).length) ta tn tc todo da dn dc ds)->K w')->g6 (sZ p) y key w K:=λ{j xz w K y} hj h0 hy s hK=>by
  subst hy
  have hr:=Q_ hw.1 hh.1 (by grind) h0
  have Gb:=UU tw th cs ds key x j
  refine ah6 hC ⟨h0,by grind⟩ hds hkr (by omega) s λGm w s=>hK Gm w ?_
  rw[aah]
  unfold aag
  grind
 have none:∀{j:Nat} {xz:List Rg.Bk} {w:World},¬0<=bN tw th x j->Sep No w0 w (CH p rp tw th ca cn cc a (l++kJ tw th cs ds key x j) xz (N+(kJ tw th cs ds key x j).length) ta tn tc todo da dn dc ds)->
   Sep No w0 w (CH p rp tw th ca cn cc a (l++kJ tw th cs ds key x (j+1)) xz (N+(kJ tw th cs ds key x (j+1)).length) ta tn tc todo da dn dc ds):=λ{j xz w} h0 s=>by
  rw[aah]
  unfold aag
  grind
 have n0:bN tw th x ((0:Nat):Int)=if x/tw>0 then x-tw else-1:=by unfold bN;rw[if_pos (by decide)]
 have n1:bN tw th x ((1:Nat):Int)=if x%tw<tw-1 then x+1 else-1:=by unfold bN;rw[if_neg (by decide),if_pos (by decide)]
 have n2:bN tw th x ((2:Nat):Int)=if x/tw<th-1 then x+tw else-1:=by unfold bN;rw[if_neg (by decide),if_neg (by decide),if_pos (by decide)]
 have n3:bN tw th x ((3:Nat):Int)=if x%tw>0 then x-1 else-1:=by unfold bN;rw[if_neg (by decide),if_neg (by decide),if_neg (by decide),if_pos (by decide)]
 have hxe:x=x/tw*tw+x%tw:=by
  have:=Int.mul_ediv_add_emod x tw
  rw[Int.mul_comm]at this
  omega
 have hm0:0<=x%tw:=Int.emod_nonneg _ (by omega)
 have b8:∀(xz:List Rg.Bk) (w:World),Sep No w0 w (CH p rp tw th ca cn cc a (l++kJ tw th cs ds key x 3) xz (N+(kJ tw th cs ds key x 3).length) ta tn tc todo da dn dc ds)->lR Q (some ⟨p,0,Option.none⟩) x key (x%tw) w:=λxz w s=>by
  unfold lR
  by_cases q:x%tw>0
  ·rw[bY q,aJ]
   rw[if_pos q]at n3
   refine one (by decide) (by rw[n3];have:=Int.mul_nonneg d0 (show 0<=tw by omega);omega) n3.symm s λGm w s=>h Gm w s
  ·rw[bD q]
   rw[if_neg q]at n3
   exact h xz w (none (by rw[n3];decide) s)
 have b6:∀(xz:List Rg.Bk) (w:World),Sep No w0 w (CH p rp tw th ca cn cc a (l++kJ tw th cs ds key x 2) xz (N+(kJ tw th cs ds key x 2).length) ta tn tc todo da dn dc ds)->oZ Q (some ⟨p,0,Option.none⟩) x key (x%tw) (x/tw) w:=λxz w s=>by
  refine ah (lI s 0 rfl ?_)
  rw[aJ]
  by_cases q:x/tw<th-1
  ·rw[bY q]
   refine ah (lI s 0 rfl ?_)
   rw[aJ]
   rw[if_pos q]at n2
   exact one (by decide) (by rw[n2];omega) n2.symm s λGm w s=>b8 Gm w s
  ·rw[bD q]
   rw[if_neg q]at n2
   exact b8 xz w (none (by rw[n2];decide) s)
 have b4:∀(xz:List Rg.Bk) (w:World),Sep No w0 w (CH p rp tw th ca cn cc a (l++kJ tw th cs ds key x 1) xz (N+(kJ tw th cs ds key x 1).length) ta tn tc todo da dn dc ds)->o6 Q (some ⟨p,0,Option.none⟩) x key (x%tw) (x/tw) w:=λxz w s=>by
  refine ah (lI s 0 rfl ?_)
  rw[aJ]
  by_cases q:x%tw<tw-1
  ·rw[bY q,aJ]
   rw[if_pos q]at n1
   exact one (by decide) (by rw[n1];omega) n1.symm s λGm w s=>b6 Gm w s
  ·rw[bD q]
   rw[if_neg q]at n1
   exact b6 xz w (none (by rw[n1];decide) s)
 have e0:kJ tw th cs ds key x 0=[]:=rfl
 have s:Sep No w0 w.drew.drew (CH p rp tw th ca cn cc a (l++kJ tw th cs ds key x 0) bs (N+(kJ tw th cs ds key x 0).length) ta tn tc todo da dn dc ds):=by
  rw[e0,List.append_nil]
  exact s
 by_cases q:x/tw>0
 ·rw[bY q]
  refine ah (lI s 0 rfl ?_)
  rw[aJ]
  rw[if_pos q]at n0
  refine one (by decide) ?_ n0.symm s λGm w s=>b4 Gm w s
  have:=Int.mul_le_mul_of_nonneg_right (show 1<=x/tw by omega) (show 0<=tw by omega)
  omega
 grind
def aop {Q:World->Prop}(hC:Sl w0 ca cn cc 1 bA cs)(hcs:∀x∈cs,1<=x/\x<256)(hw:1<=tw/\tw<=16)(hh:1<=th/\th<=16)(hlen:(cs.length:Int)=tw*th)(vq:cs.length<=256)(hxs:xs.length<2000)
  (h:∀a bs N ta tn tc w',Sep No w0 w' (CH p rp tw th ca cn cc a [] bs N ta tn tc [] da dn dc (jg tw th cs xs))->Q w'):
  ∀(f:Nat) (a:Int) (l:List (Int×Int)) (bs:List Rg.Bk) (N:Nat) (ta:Option Addr) (tn tc:Nat) (todo:List bh) (ds:List Int) (w:World),l.length+todo.length+5*FA ds<=f->0<=a->BK tw th cs xs a l N todo ds->(∀x∈todo,a+256<=x.k)->(l=[]->todo=[])->
   Sep No w0 w (CH p rp tw th ca cn cc a l bs N ta tn tc todo da dn dc ds)->jz Q (f+1) (sZ p) w:=by
 intro f
 induction f with
 |zero=>
  intro a l bs N ta tn tc todo ds w hf ha I asp agC s
  obtain rfl:l=[]:=List.eq_nil_of_length_eq_zero (by omega)
  have Hz:=agC rfl
  subst Hz
  show yA Q (jz Q 0) _ _
  refine ah (lP s 0 rfl (Rg.Cn s (i:=1) rfl ?_))
  apply h a bs N ta tn tc w
  rw[<-I.done]
  exact s
 |succ f ih=>
  intro a l bs N ta tn tc todo ds w hf ha I asp agC s
  show yA Q (jz Q (f+1)) _ _
  refine ah (lP s 0 rfl (Rg.Cn s (i:=1) rfl ?_))
  by_cases hl:l=[]
  ·subst hl
   have Hz:=agC rfl
   subst Hz
   apply h a bs N ta tn tc w
   rw[<-I.done]
   exact s
  ·have hl0:=List.length_pos_iff.2 hl
   have avK:=Rg.G1 s (i:=1) rfl
   rw[bY]
   refine ah (lP s 0 rfl ?_)
   refine Rg.ab8 s (i:=1) rfl (λe=>(hl e).elim) λw k l1 x l2 Gm e atS atV sN=>?_
   subst e
   have s:=sN
   have hin:(k,x)∈(l1++(k,x)::l2)++todo.map kc:=by simp
   have Gj:=I.Dl _ hin
   have UW:=I.top _ hin
   simp[List.length_append,List.length_cons]at UW hf
   have hfit:=avK.fit (k,x) (by simp)
   have hmin:∀e∈l1++l2,k<=e.1:=λe he=>by
    rcases List.mem_append.1 he with he|he
    ·have:=atS e he;omega
    ·exact atV e he
   have apS:∀y∈todo,k<=y.k:=λy hy=>by have:=asp y hy;omega
   have hD:=aK s (i:=3) rfl ct (by decide)
   have hdn:=hD.len
   have hdl:=I.len
   have avL:0<=x/\x<cs.length:=⟨Gj.1,Gj.2.1⟩
   apply ah
   apply lS s 0 rfl
   apply hD.pJ (k:=x.toNat) (by omega) (by omega)
   have next:∀{l':List (Int×Int)} {N':Nat} {bs':List Rg.Bk} {ds':List Int} {w:World},BK tw th cs xs k l' N' todo ds'->l'.length+todo.length+5*FA ds'<=f->Sep No w0 w (CH p rp tw th ca cn cc k l' bs' N' ta tn tc todo da dn dc ds')->
     jx (sZ p) w λw'=>jz Q (f+1) (sZ p) w':=λI' hf' s'=>by
    refine aal I' vq hxs s' λa' l' N' todo' bs' W7 tn' W8 w' I2 ajU ajV RZ s2=>?_
    have ajW:=Rg.G1 s2 (i:=1) rfl
    exact ih a' l' bs' N' W7 tn' W8 todo' _ w' (by omega) ajW.nn I2 ajU ajV s2
   by_cases hd:gi ds x.toNat=bW
   ·rw[dJ (show gi ds x.toNat=1099511627776 from hd),cond_true]
    apply ah
    apply lS s 0 rfl
    refine zH ct s (i:=3) (k:=x.toNat) (x':=k) rfl (by omega) (by omega) rfl rfl λw s=>?_
    have Gk:=UT (k:=k) (by unfold bW;omega) (by omega) hd
    have UZ:=I.fA
    have atW:gi (ds.set x.toNat k) x.toNat=k:=by rw[TL (by omega),if_pos rfl]
    refine agB hC hcs hw hh hlen avL Gj.2.2 (by rw[List.length_set];exact hdl) atW ⟨by omega,by omega⟩ (by omega) s λbs' w s=>?_
    have Gb:=UU tw th cs (ds.set x.toNat k) (k+gi cs x.toNat) x 4
    refine next (I.step hcs hw.1 hh.1 hlen vq hd hmin apS rfl) ?_ s
    simp[List.length_append]
    omega
   ·rw[cM (show gi ds x.toNat≠1099511627776 from hd),cond_false]
    refine next (I.skip ?_ apS) (by simp[List.length_append];omega) s
    have hfx:fD ds x=gi ds x.toNat:=by unfold fD;rw[HE]
    by_cases q:fD ds x<bW
    ·exact q
    ·have:=I.dj.none x q
     rw[hfx]at this
     exact(hd this).elim
def al9 {Q:Option Addr->Nat->Nat->Int->World->Prop}(hC:Sl w0 ca cn cc 1 bA cs)(hcs:∀x∈cs,1<=x/\x<256)(hw:1<=tw/\tw<=16)(hh:1<=th/\th<=16)(hlen:(cs.length:Int)=tw*th)(vq:cs.length<=256)(hxs:xs.length<2000)
  (I:BK tw th cs xs 0 [] 0 todo ds)(s:Sep No w0 w (CH p rp tw th ca cn cc 0 [] bs 0 ta tn tc todo da dn dc ds))
  (h:∀da dc w',Sep No w0 w' [aj da cs.length dc 3 1 (flat one (jg tw th cs xs))]->Q da cs.length dc 0 w'):qD Q (aZ p) w:=by
 apply Lu
 refine aal I vq hxs s λa' l' N' todo' bs' W7 tn' W8 w' I2 ajU ajV RZ s2=>?_
 have ajW:=Rg.G1 s2 (i:=1) rfl
 refine⟨_,aop hC hcs hw hh hlen vq hxs (λa bs N ta tn tc w s=>?_) _ a' l' bs' N' W7 tn' W8 todo' ds w' (Nat.le_refl _) ajW.nn I2 ajU ajV s2⟩
 apply lS s 0 rfl
 have hdn:=(aK s (i:=3) rfl ct (by decide)).len
 have e:dn=cs.length:=by rw[<-hdn];simp[jg]
 subst e
 exact h da dc w (ai (ai (ai s)))
end
section
variable {F:Nat->Prop}{W w w0:World}{L:List As}{tw th:Int}{ca la:Option Addr}{cn cc ln lc:Nat}{cs:List Int}{xs:List bh}
def Yy:(jg tw th cs xs).length=cs.length:=by simp[jg]
def ace {b:Nat}{v:Int}(s:Sep F W w (av b 3 [ae v]::L)):Sl w (sZ b) 1 1 1 one [v]:=
 aK (iV s (i:=0) rfl rfl (by decide) (λu hu=>by rw[List.mem_singleton]at hu;rw[hu];rfl)) (i:=0) rfl ct (by decide)
structure rA (tw th:Int) (cs:List Int):Prop where
 w:1<=tw/\tw<=16
 h:1<=th/\th<=16
 len:(cs.length:Int)=tw*th
 jR:∀x∈cs,1<=x/\x<256
def rA.small (h:rA tw th cs):1<=cs.length/\cs.length<=256:=by
 have h1:=Int.mul_le_mul h.w.2 h.h.2 (by have:=h.h;omega) (by decide)
 have h2:=Int.mul_le_mul h.w.1 h.h.1 (by decide) (by have:=h.w;omega)
 have:=h.len
 omega
def U0 {Q:Option Addr->Nat->Nat->Int->World->Prop}(s0:Sep F W w L)(hA:Sl w ca cn cc 1 bA cs)(hX:Sl w la ln lc 3 fL xs)(hT:rA tw th cs)(hok:ry tw th cs xs=true)(hnd:xs.Nodup)(pP:ln<2000)
  (h:∀da dc w',Sep F W w' (aj da cs.length dc 3 1 (flat one (jg tw th cs xs))::L)->Fr No w w'->Q da cs.length dc 0 w'):wq tw th ca cn cc la ln lc w Q:=by
 apply Uo
 have vq:=hT.small
 have hxl:=hX.len
 have wK:=hA.len
 refine aT (bt (F:=No)) λtb w1 s=>?_
 refine lI s 0 rfl (lI s 0 rfl (lS s 0 rfl ?_))
 refine L8 s (hA.fr (au s)) (hX.fr (au s)) (by omega) λw1 s _=>?_
 rw[hok,Bool.not_true,cond_false]
 have s:=ay s
 refine lI s 0 rfl (lI s 0 rfl (lS s 0 rfl (lS s 0 rfl ?_)))
 have fin:∀{p rp:Nat} {bs:List Rg.Bk} {ta da:Option Addr} {tc dn dc:Nat} {w':World},Sep No w w' (CH p rp tw th ca cn cc 0 [] bs 0 ta ln tc (Mb xs) da dn dc (List.replicate cs.length bW))->qD Q (aZ p) w':=λs=>
  al9 hA hT.jR hT.w hT.h hT.len vq.2 (by omega) (alU hok (λx=>aoc) aod ah3) s λda dc w' s'=>h da dc w' (dY s0 s' (i:=0) rfl) (au s')
 have cell:∀{w':World} {L':List As} {i j:Nat} {v:Value},Sep No w w' L'->L'[i]? =some (av tb 84 [ae tw,ae th,.slice ca cn cc])->([ae tw,ae th,.slice ca cn cc]:List Value)[j]? =some v->w'.cell? ((aZ tb).add j)=some v:=λs hi hj=>cg s (by rw[bZ,Nat.zero_add]) hi hj
 have e0:((cn:Nat):Int)=((cs.length:Nat):Int):=by omega
 constructor
 ·refine Rg.Pg s (λe=>by omega) λ_ rp w1 bs s=>?_
  refine⟨cell s (i:=1) rfl rfl,cell s (i:=1) rfl rfl,cell s (i:=1) rfl rfl,cell s (i:=1) rfl rfl,?_,?_⟩
  ·refine zL s (hX.fr (au s)) pP hnd λra rc w1 s _=>?_
   refine⟨cell s (i:=2) rfl rfl,cell s (i:=2) rfl rfl,cell s (i:=2) rfl rfl,cell s (i:=2) rfl rfl,?_⟩
   refine aT s λib w1 s=>?_
   refine⟨cell s (i:=3) rfl rfl,cell s (i:=3) rfl rfl,cell s (i:=3) rfl rfl,cell s (i:=3) rfl rfl,?_⟩
   rw[e0]
   refine Kk s (ace s) (by omega) λda w1 s _=>?_
   refine⟨cell s (i:=4) rfl rfl,cell s (i:=4) rfl rfl,cell s (i:=4) rfl rfl,?_⟩
   refine aT s λpb w1 s=>?_
   exact fin (pk 99 [0,4,3,1] s)
  ·refine aT s λib w1 s=>?_
   refine⟨cell s (i:=2) rfl rfl,cell s (i:=2) rfl rfl,cell s (i:=2) rfl rfl,cell s (i:=2) rfl rfl,?_⟩
   have hI:=ace s
   refine zL s (hX.fr (au s)) pP hnd λra rc w1 s f=>?_
   refine⟨cell s (i:=3) rfl rfl,cell s (i:=3) rfl rfl,cell s (i:=3) rfl rfl,cell s (i:=3) rfl rfl,?_⟩
   rw[e0]
   refine Kk s (hI.fr f) (by omega) λda w1 s _=>?_
   refine⟨cell s (i:=4) rfl rfl,cell s (i:=4) rfl rfl,cell s (i:=4) rfl rfl,?_⟩
   refine aT s λpb w1 s=>?_
   exact fin (pk 99 [0,4,2,1] s)
 ·refine aT s λib w1 s=>?_
  refine⟨cell s (i:=1) rfl rfl,cell s (i:=1) rfl rfl,cell s (i:=1) rfl rfl,cell s (i:=1) rfl rfl,?_⟩
  refine Rg.Pg s (λe=>by omega) λ_ rp w1 bs s=>?_
  refine⟨cell s (i:=2) rfl rfl,cell s (i:=2) rfl rfl,cell s (i:=2) rfl rfl,cell s (i:=2) rfl rfl,?_⟩
  have hI:=ace (ai s)
  refine zL s (hX.fr (au s)) pP hnd λra rc w1 s f=>?_
  refine⟨cell s (i:=3) rfl rfl,cell s (i:=3) rfl rfl,cell s (i:=3) rfl rfl,cell s (i:=3) rfl rfl,?_⟩
  rw[e0]
  refine Kk s (hI.fr f) (by omega) λda w1 s _=>?_
  refine⟨cell s (i:=4) rfl rfl,cell s (i:=4) rfl rfl,cell s (i:=4) rfl (j:=2) rfl,?_⟩
  refine aT s λpb w1 s=>?_
  exact fin (pk 99 [0,3,2,1] s)
end
end Go.Proofs.YtmegplnmiepfbaaGreatDoor.S
namespace Go.Proofs.YtmegplnmiepfbaaGreatDoor.S
open Go.Sx
def asq {cs:List Value}{t:TypeId}{w:World}{R:World->Prop}{K:Addr->World->Prop}(h:Bx cs t w K)(hr:R (w.alloc (.cells cs.toArray t))):Bx cs t w λp w1=>R w1/\K p w1:=⟨hr,h⟩
attribute [local irreducible] af cw bq bg aC cf bX St Bx Al App cA cq cm bT aI bw aq bR av aj aV mapA
section
variable {F:Nat->Prop}{W w w0:World}{L:List As}{p:Nat}{tw th l:Int}{ca la da:Option Addr}{cn cc ln lc dn dc:Nat}{cs ds:List Int}{xs:List bh}
structure VU (w:World) (p:Nat) (tw th:Int) (cs:List Int) (xs:List bh) (ds:List Int):Prop where
 ex:∃ca cn cc la ln lc da dn dc,rz w p [ae tw,ae th,.slice ca cn cc,.slice la ln lc,.slice da dn dc]/\Sl w ca cn cc 1 bA cs/\Sl w la ln lc 3 fL xs/\Sl w da dn dc 1 one ds/\ln<2000
 T:rA tw th cs
 len:ds.length=cs.length
 jR:∀x∈ds,0<=x/\x<=bW
def VU.fr {w':World}(k:VU w p tw th cs xs ds)(f:Fr No w w'):VU w' p tw th cs xs ds:=by
 obtain⟨ca,cn,cc,la,ln,lc,da,dn,dc,h1,h2,h3,h4,h5⟩:=k.ex
 exact⟨⟨ca,cn,cc,la,ln,lc,da,dn,dc,h1.fr f,h2.fr f,h3.fr f,h4.fr f,h5⟩,k.T,k.len,k.jR⟩
def Dx {Q:Bool->World->Prop}{s:Int}(s0:Sep F W w L)(k:VU w p tw th cs xs ds)(hl:0<=l/\l<cs.length)(h:∀w',Sep F W w' L->Fr No w w'->Q (RY tw th cs xs (fD ds) l s) w'):
  ni (sZ p) l s w Q:=by
 apply Tf
 have hT:=k.T
 have vq:=hT.small
 have hdl:=k.len
 obtain⟨ca,cn,cc,la,ln,lc,da,dn,dc,k1,k2,k3,k4,k5⟩:=k.ex
 have hdn:=k4.len
 have hcn:=k2.len
 refine Z_ (bt (F:=No)) k1 hT.w hT.h ⟨hl.1,by omega⟩ λw1 s1 f1=>?_
 unfold RY at h
 have hfl:fD ds l=gi ds l.toNat:=by unfold fD;omega
 by_cases hn:bN tw th l s<0
 ·rw[bY hn]
  rw[if_pos hn,hfl]at h
  have k1:=(k1.fr f1).fr (w':=w1.drew) Fr.refl
  have k4:=(k4.fr f1).drew
  refine ah (dz (k1 3 _ rfl) (ah (dz (k1 4 _ rfl) ?_)))
  refine Sl.El k4 (k:=l.toNat) (by omega) (by omega) λq x hx hc=>?_
  rw[gT (by omega)]at hx
  cases hx
  have hc0:=hc 0 _ rfl
  apply aP hc0
  refine Kq (ay s1) ((k3.fr f1).drew) (by omega) λw2 s2 f2=>?_
  exact⟨Fr.cell f2 hc0 id,(k1.fr f2) 4 _ rfl,h _ (b9 s0 (au s2)) (au s2)⟩
 ·rw[bD hn]
  rw[if_neg hn,hfl]at h
  have hr:=Q_ hT.w.1 hT.h.1 (by rw[<-hT.len];exact hl) (show 0<=bN tw th l s by omega)
  have hnl:bN tw th l s<cs.length:=by rw[hT.len];exact hr.1
  have hfn:fD ds (bN tw th l s)=gi ds (bN tw th l s).toNat:=by unfold fD;omega
  rw[hfn]at h
  have k1:=(k1.fr f1).fr (w':=w1.drew) Fr.refl
  have k2:=(k2.fr f1).drew
  have k4:=(k4.fr f1).drew
  have s1:=ay s1
  have U1:=hT.jR _ (fE (i:=(bN tw th l s).toNat) (by omega))
  have hd1:=k.jR _ (fE (i:=(bN tw th l s).toNat) (by omega))
  refine ah (dz (k1 2 _ rfl) ?_)
  apply k2.Cv (k:=(bN tw th l s).toNat) (by omega) (by omega)
  have h:=h _ (b9 s0 (au s1)) (au s1)
  by_cases h1:gi cs (bN tw th l s).toNat=255
  ·grind
  ·have e:(gi cs (bN tw th l s).toNat !=255)=true:=by grind
   rw[e,Bool.true_and]at h
   rw[e,cond_true]
   refine ah (dz (k1 2 _ rfl) ?_)
   apply k2.Cv (k:=(bN tw th l s).toNat) (by omega) (by omega)
   refine ah (dz (k1 4 _ rfl) ?_)
   apply k4.pJ (k:=(bN tw th l s).toNat) (by omega) (by omega)
   refine ah (dz (k1 4 _ rfl) ?_)
   apply k4.pJ (k:=l.toNat) (by omega) (by omega)
   unfold bW at hd1
   rw[aJ (n:=gi cs (bN tw th l s).toNat),aJ]
   exact h
def acf {Q:Int->World->Prop}(s0:Sep F W w L)(k:VU w p tw th cs xs ds)(hl:0<=l/\l<cs.length)(h:∀w',Sep F W w' L->Fr No w w'->Q (Ys tw th cs xs (fD ds) l) w'):
  zx (sZ p) l w Q:=by
 apply QN
 have hdl:=k.len
 have hfl:fD ds l=gi ds l.toNat:=by unfold fD;omega
 obtain⟨ca,cn,cc,la,ln,lc,da,dn,dc,k1,k2,k3,k4,k5⟩:=k.ex
 have hdn:=k4.len
 refine ah (dz (k1 4 _ rfl) ?_)
 apply k4.pJ (k:=l.toNat) (by omega) (by omega)
 unfold Ys at h
 rw[hfl]at h
 by_cases hI:gi ds l.toNat=bW
 ·rw[if_pos hI]at h
  rw[dJ (show gi ds l.toNat=1099511627776 from hI),cond_true]
  exact h w s0 Fr.refl
 rw[if_neg hI]at h
 rw[cM (show gi ds l.toNat≠1099511627776 from hI),cond_false]
 refine ah (dz (k1 3 _ rfl) ?_)
 refine Kq (bt (F:=No)) k3 (by omega) λw1 s1 f1=>?_
 by_cases hB:Hi xs l 4=gi ds l.toNat
 ·rw[if_pos hB]at h
  rw[dJ hB.symm,cond_true]
  exact h w1 (b9 s0 f1) f1
 rw[if_neg hB]at h
 rw[cM (λe=>hB e.symm),cond_false]
 apply Nh
 unfold tO rP rO
 refine Dx s1 (k.fr f1) hl λw1 s1 _=>?_
 cases h0:RY tw th cs xs (fD ds) l 0 with
 |true=>rw[h0,if_pos rfl]at h;rw[cond_true];exact h w1 (b9 s0 (au s1)) (au s1)
 |false=>
  rw[h0,if_neg (by decide)]at h
  refine Dx s1 (k.fr (au s1)) hl λw1 s1 _=>?_
  cases h0:RY tw th cs xs (fD ds) l 1 with
  |true=>rw[h0,if_pos rfl]at h;rw[cond_true];exact h w1 (b9 s0 (au s1)) (au s1)
  |false=>
   rw[h0,if_neg (by decide)]at h
   refine Dx s1 (k.fr (au s1)) hl λw1 s1 _=>?_
   cases h0:RY tw th cs xs (fD ds) l 2 with
   |true=>rw[h0,if_pos rfl]at h;rw[cond_true];exact h w1 (b9 s0 (au s1)) (au s1)
   |false=>
    rw[h0,if_neg (by decide)]at h
    refine Dx s1 (k.fr (au s1)) hl λw1 s1 _=>?_
    cases h0:RY tw th cs xs (fD ds) l 3 with
    |true=>rw[h0,if_pos rfl]at h;rw[cond_true];exact h w1 (b9 s0 (au s1)) (au s1)
    |false=>rw[h0,if_neg (by decide)]at h;rw[cond_false];exact h w1 (b9 s0 (au s1)) (au s1)
noncomputable def nG (tw th:Int)(cs:List Int)(xs:List bh):List Int:=(List.range cs.length).map λl:Nat=>Ys tw th cs xs (fD (jg tw th cs xs)) l
def aqS (hok:ry tw th cs xs=true)(hT:rA tw th cs):∀x∈jg tw th cs xs,0<=x/\x<=bW:=λx hx=>by
 obtain⟨l,hl,rfl⟩:=List.mem_map.1 hx
 unfold ry at hok
 rw[Bool.and_eq_true,List.all_eq_true]at hok
 have hs:∀x k,Ma xs x k->0<=k/\k<=1073741824:=by
  rintro x k ⟨y,hy,rfl,rfl⟩
  have:=hok.2 y hy
  unfold zI at this
  grind
 have he:∀x n c,Hl tw th cs x n c->1<=c/\c<=254:=λx n c h=>by
  have h1:=hT.jR _ (fE (i:=n.toNat) (by have:=h.2.1;unfold Hj at this;omega))
  have h2:=h.2.1.2.2
  rw[h.2.2.2]
  omega
 have ajX:∀{x d},Wy (Ma xs) (Hl tw th cs) x d->x∈(List.range cs.length).map λl:Nat=>(l:Int):=λhw=>by
  have hm:∀{x:Int},0<=x/\x<cs.length->x∈(List.range cs.length).map λl:Nat=>(l:Int):=λ{x} hx=>List.mem_map.2 ⟨x.toNat,List.mem_range.2 (by omega),by omega⟩
  cases hw with
  |src h=>
   obtain⟨y,hy,rfl,rfl⟩:=h
   have:=hok.2 y hy
   unfold zI at this
   grind
  |go e _=>exact hm ⟨e.1.1,e.1.2.1⟩
 show 0<=fZ _ _ _/\fZ _ _ _<=bW
 by_cases hw:∃d,Wy (Ma xs) (Hl tw th cs) l d
 ·obtain⟨d,hd⟩:=hw
  have h1:=Zq hs he _ (λx d h=>ajX h) hd
  have h2:=mB (λx k h=>(hs x k h).1) (λx n c h=>by grind) (qx (λx k h=>(hs x k h).1) (λx n c h=>by grind) hd).1
  rw[List.length_map,List.length_range]at h1
  have:=hT.small
  unfold bW
  omega
 ·rw[wU λd hd=>hw ⟨d,hd⟩]
  unfold bW
  omega
def atX {a:Option Addr}{n c:Nat}{bs:List Int}{x:Int}{ad:Addr}{v:Value}{K:Option Addr->Nat->Nat->World->Prop}(s:Sep F W w (aj a n c 3 1 (flat one bs)::L))(hn:n<=1000000000)(hc:w.cell? ad=some v)
  (k:∀a' c' w',Sep F W w' (aj a' (n+1) c' 3 1 (flat one (bs++[x]))::L)->K a' (n+1) c' w'):Bx [ae x] 3 w λp w1=>w1.cell? ad=some v/\App P #[29,29] 29 (.slice a n c) (.slice (some p) 1 1) w1 K:=by
 have hB:=Ki s hn k
 exact asq hB (Fr.cell (F:=No) (Fr.alloc Fr.refl _) hc id)
def aor:zc T 213=[.slice none 0 0,.slice none 0 0]:=rfl
def WO {Q:Option Addr->Nat->Nat->Option Addr->Nat->Nat->Int->World->Prop}(s0:Sep F W w L)(hA:Sl w ca cn cc 1 bA cs)(hX:Sl w la ln lc 3 fL xs)(hT:rA tw th cs)(hok:ry tw th cs xs=true)(hnd:xs.Nodup)(pP:ln<2000)
  (h:∀da dc ra rc w',Sep F W w' (aj ra cs.length rc 3 1 (flat one (nG tw th cs xs))::aj da cs.length dc 3 1 (flat one (jg tw th cs xs))::L)->Fr No w w'->Q da cs.length dc ra cs.length rc 0 w'):
  CM tw th ca cn cc la ln lc w Q:=by
 apply WD
 have vq:=hT.small
 refine aT (bt (F:=No)) λtb w1 s=>?_
 refine a_ s λrb w1 s=>?_
 refine lI s 1 rfl (lI s 1 rfl (lS s 1 rfl ?_))
 refine U0 s (hA.fr (au s)) (hX.fr (au s)) hT hok hnd pP λda dc w1 s _=>?_
 refine lI s 2 rfl (lI s 2 rfl (lS s 2 rfl ?_))
 refine aT s λhb w1 s=>?_
 refine a_ s λfb w1 s=>?_
 refine sT s 0 rfl λw1 s=>?_
 refine ax s (i:=0) rfl rfl rfl λw1 s=>?_
 have loop:∀(j i:Nat) (ra:Option Addr) (rc:Nat) (w2:World),i+j=cs.length->
   Sep No w w2 [aj ra i rc 3 1 (flat one ((nG tw th cs xs).take i)),av fb 213 [.slice da cs.length dc,.slice ra i rc],av hb 340 [ae tw,ae th,.slice ca cn cc,.slice la ln lc,.slice da cs.length dc],aj da cs.length dc 3 1 (flat one (jg tw th cs xs)),av rb 213 [.slice none 0 0,.slice none 0 0]]->
   rQ Q (j+1) (aZ rb) (aZ hb) (aZ fb) cs.length i w2:=by
  intro j
  induction j with
  |zero=>
   intro i ra rc w2 hi s
   show wD Q (rQ Q 0) _ _ _ _ _ _
   rw[wD,bD]
   refine lS s 1 rfl (lS s 1 rfl ?_)
   refine sT s 4 rfl λw2 s=>?_
   refine ax s (i:=4) rfl rfl rfl λw2 s=>?_
   refine lS s 4 rfl (lS s 4 rfl ?_)
   obtain rfl:i=cs.length:=by omega
   rw[List.take_of_length_le (by unfold nG;grind)]at s
   have s':Sep No w w2 [aj ra cs.length rc 3 1 (flat one (nG tw th cs xs)),aj da cs.length dc 3 1 (flat one (jg tw th cs xs))]:=pk 99 [0,3] s
   exact h da dc ra rc w2 (fR s0 s') (au s')
  |succ j ih=>
   intro i ra rc w2 hi s
   show wD Q (rQ Q (j+1)) _ _ _ _ _ _
   rw[wD,bY]
   have s:=ay s
   apply lS s 1 rfl
   have hk:VU w2.drew hb tw th cs xs (jg tw th cs xs):=⟨⟨_,_,_,_,_,_,_,_,_,kM s (i:=2) rfl,hA.fr (au s),hX.fr (au s),aK s (i:=3) rfl ct (by decide),pP⟩,hT,Yy,aqS hok hT⟩
   refine acf s hk (by omega) λw3 s _=>?_
   refine⟨dg s 1 rfl,?_⟩
   refine atX s (by omega) (dg s 1 rfl) λra' rc' w3 s=>?_
   refine ax s (i:=1) rfl rfl rfl λw3 s=>?_
   rw[aJ]
   apply ih (i+1) ra' rc' w3 (by omega)
   have e:(nG tw th cs xs).take (i+1)=(nG tw th cs xs).take i++[Ys tw th cs xs (fD (jg tw th cs xs)) i]:=by
    rw[nG,List.take_add_one,List.getElem?_map,List.getElem?_range (by omega)]
    rfl
   rw[e]
   exact s
 have s:=pk 99 [0,1,2,3] s
 exact⟨cs.length+1,loop cs.length 0 none 0 w1 (by omega) (bG s 3 1)⟩
end
end Go.Proofs.YtmegplnmiepfbaaGreatDoor.S
namespace Go.Proofs.YtmegplnmiepfbaaGreatDoor.S
open Go.Sx
attribute [local irreducible] af cw bq bg aC cf bX St Bx Al App cA cq cm bT aI bw aq bR av aj aV mapA
section
variable {F:Nat->Prop}{W w w0:World}{L:List As}{tw th l:Int}{ca la da:Option Addr}{cn cc ln lc dn dc:Nat}{cs ds ls:List Int}{xs:List bh}
def rA.CX (h:rA tw th cs):Tl.CX tw th cs=true:=Tl.Yn.2 ⟨h.w,h.h,h.len,λe=>by have:=h.jR 0 e;omega⟩
def aos (hT:rA tw th cs)(hl:0<=l/\l<cs.length)(ho:gi cs l.toNat≠255):ry tw th cs [⟨l,4,0⟩]=true:=by
 rw[ry,hT.CX,Bool.true_and,List.all_cons,List.all_nil,Bool.and_true]
 rw[zI,decide_eq_true hl,show(gi cs l.toNat !=255)=true by grind]
 rfl
def aot {b:Nat}{x:bh}(s:Sep F W w (av b 294 [ae x.c,ae x.s,ae x.k]::L)):Sl w (sZ b) 1 1 3 fL [x]:=
 aK (iV s (i:=0) rfl rfl (by decide) (λu hu=>UK x u hu)) (i:=0) rfl m9 (by decide)
def acg {Q:Option Addr->Nat->Nat->Int->World->Prop}(s0:Sep F W w L)(hA:Sl w ca cn cc 1 bA cs)(hT:rA tw th cs)(hl:0<=l/\l<cs.length)(ho:gi cs l.toNat≠255)
  (h:∀da dc w',Sep F W w' (aj da cs.length dc 3 1 (flat one (jg tw th cs [⟨l,4,0⟩]))::L)->Fr No w w'->Q da cs.length dc 0 w'):GL tw th ca cn cc l w Q:=by
 apply abP
 refine aT (bt (F:=No)) λtb w1 s=>?_
 refine lI s 0 rfl (lI s 0 rfl (lS s 0 rfl ?_))
 refine aT s λsb w1 s=>?_
 refine U0 s (hA.fr (au s)) (aot s) hT (aos hT hl ho) (by simp) (by decide) λda dc w1 s _=>?_
 exact h da dc w1 (dY s0 s (i:=0) rfl) (au s)
structure ae6 (cs ls:List Int):Prop where
 Dl:∀l∈ls,(0<=l/\l<cs.length)/\gi cs l.toNat≠255
 e7:ls.Pairwise (·<·)
 nF:ls.length<=256
def asr (h:ae6 cs ls){i j:Nat}(hij:i<j)(hj:j<ls.length):gi ls i<gi ls j:=by
 have:=List.pairwise_iff_getElem.1 h.e7 i j (by omega) hj hij
 have e1:=gT (l:=ls) (i:=i) (by omega)
 have e2:=gT hj
 grind
def aan {Q:Bool->World->Prop}(s0:Sep F W w L)(hA:Sl w ca cn cc 1 bA cs)(hL:Sl w la ln lc 1 one ls)(hT:rA tw th cs)(hok:ae6 cs ls)(h:∀w',Sep F W w' L->Fr No w w'->Q true w'):
  Ff tw th ca cn cc la ln lc w Q:=by
 apply ZQ
 have pP:=hL.len
 have m6:=hok.nF
 refine aT (bt (F:=No)) λtb w1 s=>?_
 have loop:∀(j i:Nat) (w1:World),i+j=ln->Sep No w w1 [av tb 84 [ae tw,ae th,.slice ca cn cc]]->vX Q (j+1) la ln lc (aZ tb) la ln lc ln i w1:=by
  intro j
  induction j with
  |zero=>
   intro i w1 hi s
   show z_ Q (vX Q 0) _ _ _ _ _ _ _ _ _ _
   rw[z_,bD]
   refine lI s 0 rfl (lI s 0 rfl (lS s 0 rfl ?_))
   refine Tl.Ck s (hA.fr (au s)).row λw2 s2 _=>?_
   rw[hT.CX]
   exact h w2 (b9 s0 (au s2)) (au s2)
  |succ j ih=>
   intro i w1 hi s
   show z_ Q (vX Q (j+1)) _ _ _ _ _ _ _ _ _ _
   rw[z_,bY]
   apply(hL.fr (au s)).pJ rfl (by omega)
   refine lI s 0 rfl (lI s 0 rfl (lS s 0 rfl ?_))
   have ho:=hok.Dl _ (fE (i:=i) (by omega))
   have hc:=hT.jR _ (fE (i:=(gi ls i).toNat) (by omega))
   refine Tl.aeM s (hA.fr (au s)).row (λx hx=>by have:=hT.jR x hx;omega) λw2 s _=>?_
   have e:Tl.atI tw th cs (gi ls i)=gi cs (gi ls i).toNat:=by
    unfold Tl.atI Tl.isB
    rw[decide_eq_true ho.1,hT.CX]
    rfl
   rw[e,cM (by omega),cond_false,cM ho.2,cond_false,aJ (n:=(i:Int)+1)]
   by_cases h0:i=0
   ·rw[bD]
    exact ih (i+1) w2 (by omega) s
   ·rw[bY,aJ]
    apply(hL.fr (au s)).pJ (k:=i-1) (by omega) (by omega)
    have:=asr hok (i:=i-1) (j:=i) (by omega) (by omega)
    rw[bD]
    exact ih (i+1) w2 (by omega) s
 exact⟨ln+1,loop ln 0 w1 (by omega) s⟩
noncomputable def D2 (tw th:Int)(cs ls:List Int)(i j:Nat):Int:=Ku tw th cs [⟨gi ls j,4,0⟩] (gi ls i)
noncomputable def yM (tw th:Int)(cs ls:List Int):List Int:=(List.range (ls.length*ls.length)).map λk=>D2 tw th cs ls (k/ls.length) (k%ls.length)
def IL {N x:Nat}{g:Nat->Int}{v:Int}:((List.range N).map g).set x v=(List.range N).map λk=>if k=x then v else g k:=by
 apply List.ext_getElem?
 grind
def ajY {n i j:Nat}(hi:i<n)(hj:j<n):i*n+j<n*n:=by
 have:=Nat.mul_le_mul_right n (show i+1<=n by omega)
 grind
def aiQ (hl:0<=l/\l<cs.length):gi (jg tw th cs xs) l.toNat=Ku tw th cs xs l:=by
 unfold gi jg
 grind
def Yz {Q:Option Addr->Nat->Nat->Int->World->Prop}(s0:Sep F W w L)(hA:Sl w ca cn cc 1 bA cs)(hL:Sl w la ln lc 1 one ls)(hT:rA tw th cs)(hok:ae6 cs ls)
  (h:∀oa oc w',Sep F W w' (aj oa (ls.length*ls.length) oc 3 1 (flat one (yM tw th cs ls))::L)->Fr No w w'->Q oa (ls.length*ls.length) oc 0 w'):DW tw th ca cn cc la ln lc w Q:=by
 apply Yc
 have pP:=hL.len
 have m6:=hok.nF
 refine aT (bt (F:=No)) λtb w1 s=>?_
 refine lI s 0 rfl (lI s 0 rfl (lS s 0 rfl ?_))
 refine aan s (hA.fr (au s)) (hL.fr (au s)) hT hok λw1 s _=>?_
 subst pP
 have hsq:ls.length*ls.length<=65536:=by
  have:=Nat.mul_le_mul m6 m6
  omega
 have e1:((ls.length:Nat):Int)*((ls.length:Nat):Int)=((ls.length*ls.length:Nat):Int):=by grind
 rw[e1,aJ]
 generalize hN:ls.length*ls.length=N at*
 refine uw (bytes:=8) dW s rfl rfl rfl rfl rfl rfl (by decide) ct rfl (λu hu=>Ee 0 u hu) rfl rfl (Nat.le_refl _) (by omega) (by simp[maxLen];omega) λob w1 s=>?_
 have outer:∀(k j:Nat) (w1:World),j+k=ls.length->Sep No w w1 [aj (sZ ob) N N 3 1 (flat one ((List.range N).map λq=>if q%ls.length<j then D2 tw th cs ls (q/ls.length) (q%ls.length)else 0)),av tb 84 [ae tw,ae th,.slice ca cn cc]]->
   qE Q (k+1) la ls.length lc (aZ tb) ls.length (sZ ob) N N la ls.length lc ls.length j w1:=by
  intro k
  induction k with
  |zero=>
   intro j w1 hj s
   show yB Q (qE Q 0) _ _ _ _ _ _ _ _ _ _ _ _ _ _
   rw[yB,bD]
   have e:((List.range N).map λq=>if q%ls.length<j then D2 tw th cs ls (q/ls.length) (q%ls.length)else 0)=yM tw th cs ls:=by
    rw[yM,hN]
    refine List.map_congr_left λq hq=>?_
    have hq:=List.mem_range.1 hq
    have Tz:0<ls.length:=by grind
    rw[if_pos (by have:=Nat.mod_lt q Tz;omega)]
   rw[e]at s
   exact h _ _ w1 (dY s0 s (i:=0) rfl) (au s)
  |succ k ih=>
   intro j w1 hj s
   show yB Q (qE Q (k+1)) _ _ _ _ _ _ _ _ _ _ _ _ _ _
   rw[yB,bY]
   apply(hL.fr (au s)).pJ rfl (by omega)
   refine lI s 1 rfl (lI s 1 rfl (lS s 1 rfl ?_))
   have ho:=hok.Dl _ (fE (i:=j) (by omega))
   refine acg s (hA.fr (au s)) hT ho.1 ho.2 λda dc w1 s _=>?_
   have inner:∀(k2 i:Nat) (w1:World),i+k2=ls.length->Sep No w w1 [aj da cs.length dc 3 1 (flat one (jg tw th cs [⟨gi ls j,4,0⟩])),aj (sZ ob) N N 3 1 (flat one ((List.range N).map λq=>if q%ls.length<j\/q%ls.length=j/\q/ls.length<i then D2 tw th cs ls (q/ls.length) (q%ls.length)else 0)),av tb 84 [ae tw,ae th,.slice ca cn cc]]->
     rM (qE Q (k+1)) Q (k2+1) la ls.length lc (aZ tb) ls.length (sZ ob) N N j da cs.length dc la ls.length lc ls.length j la ls.length lc ls.length i w1:=by
    intro k2
    induction k2 with
    |zero=>
     intro i w1 hi s
     show wC _ Q (rM _ Q 0) _ _ _ _ _ _ _ _ _ _ _ _ _ _ _ _ _ _ _ _ _ _ _
     rw[wC,bD,aJ]
     apply ih (j+1) w1 (by omega)
     have e:((List.range N).map λq=>if q%ls.length<j\/q%ls.length=j/\q/ls.length<i then D2 tw th cs ls (q/ls.length) (q%ls.length)else 0)=(List.range N).map λq=>if q%ls.length<j+1 then D2 tw th cs ls (q/ls.length) (q%ls.length)else 0:=by
      refine List.map_congr_left λq hq=>?_
      have hq:=List.mem_range.1 hq
      have hd:q/ls.length<ls.length:=Nat.div_lt_of_lt_mul (by omega)
      by_cases c1:q%ls.length<j+1
      ·rw[if_pos c1,HE]
      ·rw[if_neg c1,vm]
     rw[e]at s
     exact ai s
    |succ k2 ih2=>
     intro i w1 hi s
     show wC _ Q (rM _ Q (k2+1)) _ _ _ _ _ _ _ _ _ _ _ _ _ _ _ _ _ _ _ _ _ _ _
     rw[wC,bY]
     apply(hL.fr (au s)).pJ rfl (by omega)
     have hoi:=hok.Dl _ (fE (i:=i) (by omega))
     apply(aK s (i:=0) rfl ct (by decide)).pJ (k:=(gi ls i).toNat) (by omega) (by omega)
     rw[aiQ hoi.1]
     have hb:=ajY (n:=ls.length) (i:=i) (j:=j) (by omega) (by omega)
     rw[hN]at hb
     have e2:(i:Int)*((ls.length:Nat):Int)=((i*ls.length:Nat):Int):=by rw[Int.natCast_mul]
     rw[e2,aJ (n:=((i*ls.length:Nat):Int)),aJ,aJ]
     refine zH ct s (i:=1) (k:=i*ls.length+j) (x':=Ku tw th cs [⟨gi ls j,4,0⟩] (gi ls i)) rfl (by omega) (by rw[List.length_map,List.length_range];exact hb) rfl rfl λw1 s=>?_
     apply ih2 (i+1) w1 (by omega)
     rw[IL]at s
     have e:((List.range N).map λq=>if q=i*ls.length+j then Ku tw th cs [⟨gi ls j,4,0⟩] (gi ls i)else if q%ls.length<j\/q%ls.length=j/\q/ls.length<i then D2 tw th cs ls (q/ls.length) (q%ls.length)else 0)=
       (List.range N).map λq=>if q%ls.length<j\/q%ls.length=j/\q/ls.length<i+1 then D2 tw th cs ls (q/ls.length) (q%ls.length)else 0:=by
      refine List.map_congr_left λq hq=>?_
      have Tz:0<ls.length:=by omega
      by_cases c1:q=i*ls.length+j
      ·have d1:q/ls.length=i:=by rw[c1,Nat.mul_comm,Nat.mul_add_div Tz,Nat.div_eq_of_lt (by omega),Nat.add_zero]
       have d2:q%ls.length=j:=by rw[c1,Nat.mul_comm,Nat.mul_add_mod,Nat.mod_eq_of_lt (by omega)]
       rw[if_pos c1,HE,d1,d2]
       rfl
      ·rw[if_neg c1]
       have d3:¬(q%ls.length=j/\q/ls.length=i):=λ⟨a,b⟩=>by
        apply c1
        have:=Nat.div_add_mod q ls.length
        rw[a,b,Nat.mul_comm]at this
        omega
       by_cases c2:q%ls.length<j\/q%ls.length=j/\q/ls.length<i
       ·rw[if_pos c2,HE]
       ·rw[if_neg c2,vm]
     rw[e]at s
     exact s
   refine⟨ls.length+1,inner ls.length 0 w1 (by omega) ?_⟩
   have e:((List.range N).map λq=>if q%ls.length<j then D2 tw th cs ls (q/ls.length) (q%ls.length)else 0)=(List.range N).map λq=>if q%ls.length<j\/q%ls.length=j/\q/ls.length<0 then D2 tw th cs ls (q/ls.length) (q%ls.length)else 0:=by
    refine List.map_congr_left λq hq=>?_
    by_cases c1:q%ls.length<j
    ·rw[if_pos c1,if_pos (.inl c1)]
    ·rw[if_neg c1,if_neg (by rintro (h|⟨_,h⟩);exact c1 h;exact Nat.not_lt_zero _ h)]
   rw[e]at s
   exact s
 refine⟨ls.length+1,outer ls.length 0 w1 (by omega) ?_⟩
 have e:((List.range N).map λq=>if q%ls.length<0 then D2 tw th cs ls (q/ls.length) (q%ls.length)else 0)=List.replicate N 0:=by
  rw[List.eq_replicate_iff]
  refine⟨by simp,λx hx=>?_⟩
  obtain⟨q,_,rfl⟩:=List.mem_map.1 hx
  rw[vm]
 grind
end
end Go.Proofs.YtmegplnmiepfbaaGreatDoor.S
namespace Go.Proofs.YtmegplnmiepfbaaGreatDoor.S
open Go.Sx
section
variable {m:bP}{t x n c d s sc l a b:Int}
def iA (m:bP)(sc:Int):List Int:=(aR m sc).map (dA m.w m.h)
def U2 (m:bP)(sc:Int):List Nat:=(List.range (aD m.w m.h sc*bu m.w m.h sc).toNat).filter λl=>xP m.w m.h sc 4 l&&eV m (bU m.w m.h sc l)
def nodes_eq:aR m sc=(U2 m sc).map λl:Nat=>bU m.w m.h sc l:=by
 unfold aR uL U2
 rw[List.filter_map,List.filter_filter]
 grind
def al_ (hs:dG m.w m.h sc):iA m sc=(U2 m sc).map λl:Nat=>(l:Int):=by
 rw[iA,nodes_eq,List.map_map]
 refine List.map_congr_left λl hl=>?_
 have hl:=List.mem_range.1 (List.mem_filter.1 hl).1
 exact E2 hs (by omega)
def aao:(U2 m sc).Pairwise (·<·):=List.Pairwise.filter _ List.pairwise_lt_range
def ama (hs:dG m.w m.h sc){k:Int}(hk:0<=k/\k<l)(hl:l<aD m.w m.h sc*bu m.w m.h sc):bU m.w m.h sc k<bU m.w m.h sc l:=by
 obtain⟨⟨w1,w2⟩,⟨h1,h2⟩,p1,p2,p3,p4⟩:=yK hs
 have hw:aD m.w m.h sc<=m.w-16*(sc%cF m.w):=by unfold aD;omega
 have hk1:=NO hs (l:=k) (by omega)
 have hl1:=NO hs (l:=l) (by omega)
 have ek:=Int.mul_ediv_add_emod k (aD m.w m.h sc)
 have el:=Int.mul_ediv_add_emod l (aD m.w m.h sc)
 unfold bU
 by_cases e:k/aD m.w m.h sc=l/aD m.w m.h sc
 ·grind
 ·have hlt:k/aD m.w m.h sc<=l/aD m.w m.h sc:=Int.ediv_le_ediv (by omega) (by omega)
  have h3:=Int.mul_le_mul_of_nonneg_right (show 16*(sc/cF m.w)+k/aD m.w m.h sc+1<=16*(sc/cF m.w)+l/aD m.w m.h sc by omega) (show 0<=m.w by omega)
  grind
def Mi (hs:dG m.w m.h sc):(aR m sc).Pairwise (·<·):=by
 rw[nodes_eq,List.pairwise_map]
 refine List.Pairwise.imp_of_mem ?_ aao
 intro k l hk hl h
 have hl:=List.mem_range.1 (List.mem_filter.1 hl).1
 exact ama hs ⟨by omega,by omega⟩ (by omega)
def amb (hm:c8 m)(hs:dG m.w m.h sc):ae6 (dx m sc) (iA m sc):=by
 have e:=al_ hs
 refine⟨λl hl=>?_,?_,?_⟩
 ·rw[e]at hl
  obtain⟨k,hk,rfl⟩:=List.mem_map.1 hl
  have h1:=(List.mem_filter.1 hk).2
  have hk:=List.mem_range.1 (List.mem_filter.1 hk).1
  rw[Bool.and_eq_true]at h1
  have h2:=(HY hm hs (by omega)).2 h1.2
  exact⟨⟨h2.1,h2.2.1⟩,h2.2.2⟩
 ·rw[e,List.pairwise_map]
  exact List.Pairwise.imp (λh=>by omega) aao
 ·rw[e,List.length_map]
  obtain⟨⟨w1,w2⟩,⟨h1,h2⟩,_⟩:=yK hs
  have h3:=Int.mul_le_mul w2 h2 (by omega) (by decide)
  have h4:=List.length_filter_le (λl:Nat=>xP m.w m.h sc 4 l&&eV m (bU m.w m.h sc l)) (List.range (aD m.w m.h sc*bu m.w m.h sc).toNat)
  rw[List.length_range]at h4
  unfold U2
  omega
def zf (hs:dG m.w m.h sc):(aR m sc).length<=256:=by
 have:=Z5 hs
 have h1:=List.length_filter_le (eV m) (uL m.w m.h sc)
 unfold aR
 omega
def ah8 (hs:dG m.w m.h sc):(aR m sc).Nodup:=List.Pairwise.imp (λh e=>by omega) (Mi hs)
def Pm (hm:c8 m)(hs:dG m.w m.h sc):rA (aD m.w m.h sc) (bu m.w m.h sc) (dx m sc):=by
 obtain⟨w,h,_⟩:=yK hs
 have h1:=Int.mul_le_mul w.1 h.1 (by decide) (by omega)
 refine⟨w,h,by rw[BG];omega,λx hx=>?_⟩
 obtain⟨l,hl,rfl⟩:=List.mem_map.1 hx
 have hl:=List.mem_range.1 hl
 have:=Kt hm (r7 hs (l:=l) (by omega))
 omega
noncomputable def pT (m:bP)(sc a b:Int):Int:=Ku (aD m.w m.h sc) (bu m.w m.h sc) (dx m sc) [⟨dA m.w m.h b,4,0⟩] (dA m.w m.h a)
def Pn (hm:c8 m)(hs:dG m.w m.h sc)(ha:bE m.w m.h a/\aB m.w m.h a=sc)(hb:bE m.w m.h b/\aB m.w m.h b=sc):pT m sc a b=fZ (E3 b) (s8 (fI m) (cP m) sc) a:=by
 have hla:=jM ha.1
 have hga:=nI ha.1
 have hlb:=jM hb.1
 have hgb:=nI hb.1
 rw[ha.2]at hla hga
 unfold pT Ku
 rw[agq hm hs (S':=E3 b) (λl k hl=>?_) hla,hga]
 unfold Ma E3
 constructor
 ·grind
 ·rintro ⟨h1,rfl⟩
  refine⟨_,List.mem_singleton.2 rfl,?_,rfl⟩
  rw[<-h1]
  exact E2 hs hl
def adB (hm:c8 m)(Sa:eV m b=true){d:Int}(hw:Wy (E3 b) (s8 (fI m) (cP m) sc) a d):0<=fZ (E3 b) (s8 (fI m) (cP m) sc) a/\fZ (E3 b) (s8 (fI m) (cP m) sc) a<=254*(m.w*m.h-1):=by
 have ajX:∀x d,Wy (E3 b) (s8 (fI m) (cP m) sc) x d->x∈jG m:=λx d h=>by
  cases h with
  |src h=>rw[h.1];exact yL hm (jF hm Sa)
  |go e _=>exact yL hm (jF hm e.1.1)
 have h1:=Zq (K:=0) (λx k h=>by rw[h.2];omega) (λx n c h=>Fz h.1) (jG m) ajX hw
 have h2:((jG m).length:Int)=m.w*m.h:=by rw[<-hm.len];simp[jG]
 refine⟨mB (λx k h=>by rw[h.2];grind) (λx n c h=>cU _ _ _ h.1) (qx (λx k h=>by rw[h.2];grind) (λx n c h=>cU _ _ _ h.1) hw).1,by omega⟩
def YA (hm:c8 m)(hs:dG m.w m.h sc)(ha:bE m.w m.h a/\aB m.w m.h a=sc)(hb:bE m.w m.h b/\aB m.w m.h b=sc)(Sa:eV m b=true):
  pT m sc a b≠bW↔∃d,Wy (E3 b) (s8 (fI m) (cP m) sc) a d:=by
 rw[Pn hm hs ha hb]
 constructor
 ·intro h
  refine Classical.byContradiction λk=>h (wU λd hd=>k ⟨d,hd⟩)
 ·rintro ⟨d,hd⟩
  have:=adB hm Sa hd
  have:=oO ⟨hm.w,hm.h⟩
  unfold bW
  omega
def YB (hm:c8 m)(hs:dG m.w m.h sc)(ha:bE m.w m.h a/\aB m.w m.h a=sc)(hb:bE m.w m.h b/\aB m.w m.h b=sc)(Sa:eV m b=true):0<=pT m sc a b/\(pT m sc a b≠bW->pT m sc a b<1000000000)/\pT m sc a b<=bW:=by
 have e:=Pn hm hs ha hb
 by_cases hw:∃d,Wy (E3 b) (s8 (fI m) (cP m) sc) a d
 ·obtain⟨d,hd⟩:=hw
  have h1:=adB hm Sa hd
  have h2:=oO ⟨hm.w,hm.h⟩
  unfold bW
  omega
 ·have h1:pT m sc a b=bW:=by rw[e];exact wU λd hd=>hw ⟨d,hd⟩
  rw[h1]
  exact⟨by decide,λh=>(h rfl).elim,Int.le_refl _⟩
noncomputable def aap (m:bP)(b:Int):List (Int×Int):=(aR m (cP m b)).filterMap λa=>if a≠b/\pT m (cP m b) a b≠bW then some (a,pT m (cP m b) a b)else none
open Classical in
noncomputable def Po (m:bP)(b s:Int):Option (Int×Int):=if 0<=aY m.w m.h b s/\mZ m (aY m.w m.h b s)/\cP m (aY m.w m.h b s)≠cP m b then some (aY m.w m.h b s,cE m b)else none
noncomputable def Rb (m:bP)(b:Int)(j:Nat):List (Int×Int):=(List.range j).filterMap λs:Nat=>Po m b s
noncomputable def FD (m:bP)(b:Int):List (Int×Int):=aap m b++Rb m b 4
def aaq (m:bP)(b:Int)(j:Nat):Rb m b (j+1)=Rb m b j++(Po m b j).toList:=by
 rw[Rb,List.range_succ,List.filterMap_append]
 congr 1
def ast (hm:c8 m)(h:mZ m x)(hx:bE m.w m.h x):eV m x=true:=(l9 (bS hx) h).1
def agD (hm:c8 m)(hb:mZ m b)(hbc:bE m.w m.h b){e:Int×Int}:e∈FD m b↔Ik (fI m) (cP m) (mZ m) e.1 b e.2:=by
 have hs:=bS hbc
 have Sa:=(l9 hs hb).1
 rw[FD,List.mem_append]
 constructor
 ·rintro (h|h)
  ·obtain⟨a,ha,h1⟩:=List.mem_filterMap.1 h
   split at h1
   ·rename_i h2
    cases h1
    obtain⟨a1,a2,a3⟩:=l9 hs ha
    have hn:mZ m a:=by
     show a∈aR m (cP m a)
     rw[show cP m a=cP m b from a3]
     exact ha
    refine⟨hn,hb,.inl ⟨a3,h2.1,(YA hm hs ⟨a2,a3⟩ ⟨hbc,rfl⟩ Sa).1 h2.2,Pn hm hs ⟨a2,a3⟩ ⟨hbc,rfl⟩⟩⟩
   ·cases h1
  ·obtain⟨s,Sb,h1⟩:=List.mem_filterMap.1 h
   have Sb:=List.mem_range.1 Sb
   unfold Po at h1
   split at h1
   ·rename_i h2
    cases h1
    obtain⟨s',hs',ae7⟩:=HX ⟨by omega,by omega⟩ h2.1
    have hac:=(zk h2.1).2
    have hoa:=ast hm h2.2.1 hac
    exact⟨h2.2.1,hb,.inr ⟨h2.2.2,hoa,Sa,⟨s',hs',ae7⟩,rfl⟩⟩
   ·cases h1
 ·rintro ⟨ha,_,⟨h1,h2,h3,h4⟩|⟨h1,h2,h3,⟨s,Sb,h4⟩,h5⟩⟩
  ·left
   have RO:cP m b=aB m.w m.h b:=rfl
   have hac:bE m.w m.h e.1:=by
    have:e.1∈aR m (cP m b):=by rw[<-h1];exact ha
    exact(l9 hs this).2.1
   have e4:=Pn hm hs ⟨hac,h1⟩ ⟨hbc,rfl⟩
   refine List.mem_filterMap.2 ⟨e.1,by rw[<-h1];exact ha,?_⟩
   rw[if_pos ⟨h2,(YA hm hs ⟨hac,h1⟩ ⟨hbc,rfl⟩ Sa).2 h3⟩,RO,e4]
   grind
  ·right
   have hb0:0<=aY m.w m.h e.1 s:=by rw[h4];exact hbc.2.1
   obtain⟨s',hs',ae7⟩:=HX Sb hb0
   rw[h4]at ae7
   refine List.mem_filterMap.2 ⟨s'.toNat,List.mem_range.2 (by omega),?_⟩
   rw[Int.toNat_of_nonneg hs'.1]
   rw[Po,ae7,if_pos ⟨(jF hm h2).2.1,ha,h1⟩]
   grind
end
def aou {P:Program}{t e:TypeId}{inf:TypeInfo}{b i j:Nat}{w:World}(d:Nat)(hu:P.underlying t=some (.pointer e))(hi:P.info? e=some inf)(hs:inf.size≠0):
  (Op.equalIn (d+1) t (.pointer (some ⟨b,i,none⟩)) (.pointer (some ⟨b,j,none⟩))).run P w=.ok (decide (i=j)) w:=by
 simp[Op.equalIn,run_underlying hu,sizeOf,typeInfo,hi,hs,sameAddr]
 grind
def asu {P:Program}{t e:TypeId}{inf:TypeInfo}{x y:Operand}{b i j:Nat}{w:World}{K:Bool->World->Prop}(hu:P.underlying t=some (.pointer e))(hi:P.info? e=some inf)(hs:inf.size≠0)(h:K (!decide (i=j)) w):
  bT P .neq t x y (.pointer (some ⟨b,i,none⟩)) (.pointer (some ⟨b,j,none⟩)) w K:=by
 have h1:(Op.equal t (.pointer (some ⟨b,i,none⟩)) (.pointer (some ⟨b,j,none⟩))).run P w=.ok (decide (i=j)) w:=aou 9999 hu hi hs
 unfold bT aI
 rw[show binOp .neq t (.pointer (some ⟨b,i,none⟩)) (.pointer (some ⟨b,j,none⟩))=(do pure (.bool (!(<-Op.equal t (.pointer (some ⟨b,i,none⟩)) (.pointer (some ⟨b,j,none⟩))))))from rfl]
 simp[eqGuard_at_pointer,Sem.run_bind,Sem.run_pure,Result.andThen_ok,h1]
 exact h
end Go.Proofs.YtmegplnmiepfbaaGreatDoor.S
namespace Go.Proofs.YtmegplnmiepfbaaGreatDoor.S.Ta
open Go.Sx
def U (n:Int):Prop:=0<=n/\n<18446744073709551616
def sat (a b:Int):Int:=if a+b<18446744073709551616 then a+b else 18446744073709551615
def FE {a b:Int}(ha:U a)(hb:U b):U (sat a b):=by
 unfold sat;unfold U at*;omega
def AO {a b:Int}{w:World}{Q:Int->World->Prop}(ha:U a)(hb:U b)(h:Q (sat a b) w):rF a b w Q:=by
 unfold U at ha hb
 apply Zz
 rw[wrap_u64 (by omega) (by omega)]
 unfold sat at h
 by_cases hc:a>18446744073709551615-b
 ·grind
 ·rw[bD hc,wrap_u64 (by omega) (by omega)]
  grind
def U3 {F:Nat->Prop}{W w:World}{L:List As}{a b c d e f:Int}{Q:Int->Int->Int->Int->Int->Int->World->Prop}(s:Sep F W w L)(h:∀w',Sep F W w' L->Q a b c d e f w'):cQ a b c d e f w Q:=by
 apply T8
 refine aT s λb1 w1 s=>?_
 refine a_ s λb2 w2 s=>?_
 apply aU s (i:=1) rfl rfl rfl
 apply aU s (i:=1) rfl rfl rfl
 apply aU s (i:=1) rfl rfl rfl
 apply aU s (i:=1) rfl rfl rfl
 apply aU s (i:=1) rfl rfl rfl
 apply aU s (i:=1) rfl rfl rfl
 refine ax s (i:=0) rfl rfl rfl λw3 s=>?_
 refine ax s (i:=0) rfl rfl rfl λw3 s=>?_
 refine ax s (i:=0) rfl rfl rfl λw3 s=>?_
 refine ax s (i:=0) rfl rfl rfl λw3 s=>?_
 refine ax s (i:=0) rfl rfl rfl λw3 s=>?_
 refine ax s (i:=0) rfl rfl rfl λw3 s=>?_
 apply aU s (i:=0) rfl rfl rfl
 apply aU s (i:=0) rfl rfl rfl
 apply aU s (i:=0) rfl rfl rfl
 apply aU s (i:=0) rfl rfl rfl
 apply aU s (i:=0) rfl rfl rfl
 apply aU s (i:=0) rfl rfl rfl
 exact h _ (ai (ai s))
end Go.Proofs.YtmegplnmiepfbaaGreatDoor.S.Ta
namespace Go.Proofs.YtmegplnmiepfbaaGreatDoor.S.Ta
open Go.Sx
attribute [local irreducible] af cw bq bg aC cf bX St Bx Al App cA cq cm bT aI bw aq bR av
def atY:zc T 175=[.int .u64 0,.int .u64 0,.int .u64 0,.int .u64 0,.int .u64 0,.int .u64 0]:=rfl
def asv:zc T 32=[.int .u64 0,.int .u64 0,.int .u64 0,.int .u64 0,.int .u64 0,.int .u64 0]:=rfl
section
variable {F:Nat->Prop}{W w:World}{L:List As}{Q:Int->Int->Int->Int->Int->Int->World->Prop}
def pQ {r x y:Nat}{tx ty:TypeId}{xs ys:List Value}{i j k n:Nat}{t:Int}{p q:Int}(s:Sep F W w L)(ht:t=n)(hn:n<6)
  (hi:L[i]? =some (av x tx xs))(hj:L[j]? =some (av y ty ys))(hp:xs[n]? =some (.int .u64 p))(hq:ys[n]? =some (.int .u64 q))(up:U p)(uq:U q)(hl:Nat.blt n xs.length=true)
  (h:∀w',Sep F W w' (L.set i (av x tx (xs.set n (.int .u64 (sat p q)))))->pM Q k (aZ r) (aZ x) (aZ y) ((n+1:Nat):Int) w'):pM Q (k+1) (aZ r) (aZ x) (aZ y) t w:=by
 subst ht
 show sq Q (pM Q k) _ _ _ _ _
 rw[sq,bY]
 have e1:((n:Int).toNat*1)=n:=by omega
 have s':Sep F W w.drew L:=s
 rw[e1]
 refine⟨by omega,by omega,?_⟩
 apply aU s' (by rw[bZ,Nat.zero_add]) hi hp
 refine⟨by omega,by omega,?_⟩
 apply aU s' (by rw[bZ,Nat.zero_add]) hj hq
 apply AO up uq
 refine⟨by omega,by omega,?_⟩
 refine ax s' (by rw[bZ,Nat.zero_add]) hi hl λw' s=>?_
 rw[aJ]
 exact h _ s
def asw {r x y:Nat}{tr tx ty:TypeId}{a b c d e f a' b' c' d' e' f':Int}(s:Sep F W w (av x tx [.int .u64 a,.int .u64 b,.int .u64 c,.int .u64 d,.int .u64 e,.int .u64 f]::av y ty [.int .u64 a',.int .u64 b',.int .u64 c',.int .u64 d',.int .u64 e',.int .u64 f']::av r tr (zc T 32)::L))
  (u:(U a/\U b/\U c/\U d/\U e/\U f)/\U a'/\U b'/\U c'/\U d'/\U e'/\U f')
  (h:∀w',Sep F W w' L->Q (sat a a') (sat b b') (sat c c') (sat d d') (sat e e') (sat f f') w'):gM Q (aZ r) (aZ x) (aZ y) w:=by
 obtain⟨⟨ua,ub,uc,ud,ue,uf⟩,va,vb,vc,vd,ve,vf⟩:=u
 refine⟨7,?_⟩
 refine pQ s (n:=0) (i:=0) (j:=1) rfl (by omega) rfl rfl rfl rfl ua va rfl λw s=>?_
 refine pQ s (i:=0) (j:=1) rfl (by omega) rfl rfl rfl rfl ub vb rfl λw s=>?_
 refine pQ s (i:=0) (j:=1) rfl (by omega) rfl rfl rfl rfl uc vc rfl λw s=>?_
 refine pQ s (i:=0) (j:=1) rfl (by omega) rfl rfl rfl rfl ud vd rfl λw s=>?_
 refine pQ s (i:=0) (j:=1) rfl (by omega) rfl rfl rfl rfl ue ve rfl λw s=>?_
 refine pQ s (i:=0) (j:=1) rfl (by omega) rfl rfl rfl rfl uf vf rfl λw s=>?_
 show sq Q (pM Q 0) _ _ _ _ _
 unfold sq
 refine⟨by decide,by decide,?_⟩
 apply lI s 0 rfl
 refine⟨by decide,by decide,?_⟩
 apply lI s 0 rfl
 refine⟨by decide,by decide,?_⟩
 apply lI s 0 rfl
 refine⟨by decide,by decide,?_⟩
 apply lI s 0 rfl
 refine⟨by decide,by decide,?_⟩
 apply lI s 0 rfl
 refine⟨by decide,by decide,?_⟩
 apply lI s 0 rfl
 repeat' first
  |apply lI s 2 rfl
  |(refine ax s (i:=2) rfl rfl rfl λw' s=>?_;simp[Nat.zero_add,List.set_cons_zero,List.set_cons_succ]at s)
 exact h _ (ai (ai (ai s)))
def asx {r x y:Nat}{tr tx ty:TypeId}{a b c d e f a' b' c' d' e' f':Int}(s:Sep F W w (av y ty [.int .u64 a',.int .u64 b',.int .u64 c',.int .u64 d',.int .u64 e',.int .u64 f']::av x tx [.int .u64 a,.int .u64 b,.int .u64 c,.int .u64 d,.int .u64 e,.int .u64 f]::av r tr (zc T 32)::L))
  (u:(U a/\U b/\U c/\U d/\U e/\U f)/\U a'/\U b'/\U c'/\U d'/\U e'/\U f')
  (h:∀w',Sep F W w' L->Q (sat a a') (sat b b') (sat c c') (sat d d') (sat e e') (sat f f') w'):gM Q (aZ r) (aZ x) (aZ y) w:=by
 obtain⟨⟨ua,ub,uc,ud,ue,uf⟩,va,vb,vc,vd,ve,vf⟩:=u
 refine⟨7,?_⟩
 refine pQ s (n:=0) (i:=1) (j:=0) rfl (by omega) rfl rfl rfl rfl ua va rfl λw s=>?_
 refine pQ s (i:=1) (j:=0) rfl (by omega) rfl rfl rfl rfl ub vb rfl λw s=>?_
 refine pQ s (i:=1) (j:=0) rfl (by omega) rfl rfl rfl rfl uc vc rfl λw s=>?_
 refine pQ s (i:=1) (j:=0) rfl (by omega) rfl rfl rfl rfl ud vd rfl λw s=>?_
 refine pQ s (i:=1) (j:=0) rfl (by omega) rfl rfl rfl rfl ue ve rfl λw s=>?_
 refine pQ s (i:=1) (j:=0) rfl (by omega) rfl rfl rfl rfl uf vf rfl λw s=>?_
 show sq Q (pM Q 0) _ _ _ _ _
 unfold sq
 refine⟨by decide,by decide,?_⟩
 apply lI s 1 rfl
 refine⟨by decide,by decide,?_⟩
 apply lI s 1 rfl
 refine⟨by decide,by decide,?_⟩
 apply lI s 1 rfl
 refine⟨by decide,by decide,?_⟩
 apply lI s 1 rfl
 refine⟨by decide,by decide,?_⟩
 apply lI s 1 rfl
 refine⟨by decide,by decide,?_⟩
 apply lI s 1 rfl
 repeat' first
  |apply lI s 2 rfl
  |(refine ax s (i:=2) rfl rfl rfl λw' s=>?_;simp[Nat.zero_add,List.set_cons_zero,List.set_cons_succ]at s)
 exact h _ (ai (ai (ai s)))
end
set_option maxHeartbeats 1000000 in
theorem FF {F:Nat->Prop}{W w:World}{L:List As}{a b c d e f a' b' c' d' e' f':Int}{Q:Int->Int->Int->Int->Int->Int->World->Prop}(s:Sep F W w L)(u:(U a/\U b/\U c/\U d/\U e/\U f)/\U a'/\U b'/\U c'/\U d'/\U e'/\U f')
  (h:∀w',Sep F W w' L->Q (sat a a') (sat b b') (sat c c') (sat d d') (sat e e') (sat f f') w'):v8 a b c d e f a' b' c' d' e' f' w Q:=by
 apply ZA
 refine aT s λb1 w1 s=>?_
 refine aT s λb2 w2 s=>?_
 refine a_ s λb3 w3 s=>?_
 repeat' first
  |apply lI s 0 rfl
  |refine lI s 1 rfl ?_
  |refine lI s 2 rfl ?_
  |apply lI s 3 rfl
  |apply lI s 4 rfl
  |refine⟨dg s 1 rfl,?_⟩
  |refine⟨dg s 2 rfl,?_⟩
  |refine⟨dg s 3 rfl,?_⟩
  |refine⟨dg s 4 rfl,?_⟩
  |(refine ax s (i:=0) rfl rfl rfl λw' s=>?_;simp[Nat.zero_add,List.set_cons_zero,List.set_cons_succ]at s)
  |(refine ax s (i:=1) rfl rfl rfl λw' s=>?_;simp[Nat.zero_add,List.set_cons_zero,List.set_cons_succ]at s)
  |(refine a_ s λb' w' s=>?_;rw[atY]at s)
  |refine U3 s λw' s=>?_
  |exact asw s u λw' s=>h _ (ai (ai s))
  |exact asx s u λw' s=>h _ (ai (ai s))
  |constructor
end Go.Proofs.YtmegplnmiepfbaaGreatDoor.S.Ta
namespace Go.Proofs.YtmegplnmiepfbaaGreatDoor.S
open Go.Sx
def dK {w:World}{x:Option Addr}{ad:Addr}{K:Option Addr->Prop}(h:w.cell? ad=some (.pointer x))(hk:K x):bg ad w K:=⟨x,h,hk⟩
attribute [local irreducible] af cw bq bg aC cf bX St Bx Al App cA cq cm bT aI bw aq bR av aj aV mapA
def Rc {F:Nat->Prop}{W w:World}{A:As}:∀{L:List As} {i:Nat},Sep F W w (A::L)->Sep F W w (L.set i A)
 |[],i,s=>by simp[List.set_nil];exact ai s
 |B::L,0,s=>by
  exact gL s (List.Sublist.cons_cons _ (List.sublist_cons_self _ _))
 |B::L,i+1,s=>by
  rw[List.set_cons_succ]
  have s1:=cz s (List.Perm.swap B A L)
  have s2:=ai s1
  have s3:=Rc (i:=i) s2
  refine⟨dO.fr s,λC hC=>?_,?_⟩
  ·rcases List.mem_cons.1 hC with rfl|hC
   ·exact dO.ok s C (by simp)
   ·exact dO.ok s3 C hC
  ·rw[List.pairwise_cons]
   refine⟨λC hC=>?_,dO.apart s3⟩
   have hp:=List.pairwise_cons.1 (dO.apart s1)
   grind
structure zM where
 eS:Int
 na:Option Addr
 nn:Nat
 nc:Nat
 da:Option Addr
 dn:Nat
 dc:Nat
 nodes:List Int
 IM:List Int
def Cp (x:zM):List Value:=[ae x.eS,.slice x.na x.nn x.nc,.slice x.da x.dn x.dc]
def zg (x:zM):(Cp x).length=3:=rfl
def amc (x:zM)(u:Value)(h:u∈Cp x):u.oneCell'=true:=by
 unfold Cp at h
 simp[List.mem_cons,List.not_mem_nil,or_false]at h
 rcases h with rfl|rfl|rfl<;>rfl
def aar (x:zM):As:=aV True [aj x.na x.nn x.nc 3 1 (flat one x.nodes),aj x.da x.dn x.dc 21 1 (flat mN x.IM)]
structure AP where
 p:Nat
 a:Option Addr
 n:Nat
 c:Nat
structure m_ where
 ps:List zM
 clean:Int
 fA:Int
def Re (r:AP)(gp:Nat)(x:m_):List Value:=[.pointer (sZ gp),.slice r.a r.n r.c,ae x.clean,.int .u64 x.fA]
def Kz (r:AP)(gp:Nat)(x:m_):List As:=av r.p 236 (Re r gp x)::aj r.a r.n r.c 319 3 (flat Cp x.ps)::x.ps.map aar
def qS (r:AP)(gp:Nat)(x:m_):As:=aV True (Kz r gp x)
noncomputable def jm (m:bP)(sc:Int):List Int:=(yM (aD m.w m.h sc) (bu m.w m.h sc) (dx m sc) (iA m sc)).map λd=>if d=bW then-1 else d
structure xQ (g:g7) (x:m_):Prop where
 len:(x.ps.length:Int)=d_ g.m.w g.m.h
 old:x.clean<=g.ep/\∀q∈x.ps,q.eS<=g.ep
 all:x.clean=g.ep->∀i q,x.ps[i]? =some q->q.eS=gi g.vs i
 ok:∀i q,x.ps[i]? =some q->q.eS=gi g.vs i->q.nodes=aR g.m i/\q.IM=jm g.m i
 u:Ta.U x.fA
structure Dy (w:World) (r:AP) (gp:Nat) (x:m_):Prop where
 cell:rz w r.p (Re r gp x)
 row:Sl w r.a r.n r.c 3 Cp x.ps
 part:∀q∈x.ps,Sl w q.na q.nn q.nc 1 one q.nodes/\Sl w q.da q.dn q.dc 1 mN q.IM
 base:0<x.ps.length->∃b o,r.a=some ⟨b,o,none⟩
def Dy.fr {w w':World}{r:AP}{gp:Nat}{x:m_}(k:Dy w r gp x)(f:Fr No w w'):Dy w' r gp x:=
 ⟨k.cell.fr f,k.row.fr f,λq hq=>⟨(k.part q hq).1.fr f,(k.part q hq).2.fr f⟩,k.base⟩
section
variable {F:Nat->Prop}{W w w0:World}{L:List As}{r:AP}{gp:Nat}{x:m_}{gr:tQ}{g:g7}{a:Option Addr}{n c:Nat}{xs:List Int}{v ce:Int}
def adC (s:Sep F W w (qS r gp x::L)):Sep F W w (Kz r gp x++L):=(iW s).2
def aas (s:Sep F W w (Kz r gp x++L)):Sep F W w (qS r gp x::L):=dX s trivial
def amd {q:zM}{i:Nat}(s:Sep F W w L)(hi:L[i]? =some (aar q)):Sl w q.na q.nn q.nc 1 one q.nodes/\Sl w q.da q.dn q.dc 1 mN q.IM:=by
 have s':=HC s hi
 exact⟨aK s' (i:=0) rfl ct (by decide),aK s' (i:=1) rfl uO (by decide)⟩
def Mj (s:Sep F W w (qS r gp x::L)):Dy w r gp x:=by
 have s:=adC s
 have s:Sep F W w (av r.p 236 (Re r gp x)::aj r.a r.n r.c 319 3 (flat Cp x.ps)::(x.ps.map aar++L)):=s
 have hR:=aK s (i:=1) rfl zg (by decide)
 refine⟨kM s (i:=0) rfl,hR,λq hq=>?_,λh=>pI s (i:=1) rfl (by rw[<-hR.len];exact h)⟩
 obtain⟨i,hi⟩:=List.mem_iff_getElem?.1 hq
 apply amd s (i:=i+2)
 rw[List.getElem?_cons_succ,List.getElem?_cons_succ,List.getElem?_append_left (by grind),List.getElem?_map,hi]
 rfl
def half {i j:Nat}(h:i<j)(hj:j<1000000):IntKind.wrap .i64 (oJ .u64 (IntKind.wrap .u64 (IntKind.wrap .i64 ((i:Int)+j))) 1)=(((i+j)/2:Nat):Int):=by
 rw[aJ (n:=(i:Int)+j),jV (by omega)]
 have e:oJ .u64 ((i:Int)+j) 1=((i:Int)+j)/2:=by
  rw[oJ,show(2:Int)^(min (1:Int).toNat (IntKind.u64).bits)=2 from rfl,Int.fdiv_eq_ediv_of_nonneg _ (by decide)]
 rw[e,aJ]
 omega
def Pp (h:xs.Pairwise (·<·)){i j:Nat}(hij:i<j)(hj:j<xs.length):gi xs i<gi xs j:=by
 have:=List.pairwise_iff_getElem.1 h i j (by omega) hj hij
 have e1:=gT (l:=xs) (i:=i) (by omega)
 have e2:=gT hj
 grind
def agE {Q:Int->Bool->World->Prop}(hX:Sl w a n c 1 one xs)(hn:n<1000000)(hs:xs.Pairwise (·<·))(s0:Sep F W w L)
  (hy:∀(i:Nat) w',i<n->gi xs i=v->Sep F W w' L->Fr No w w'->Q i true w')(hno:v∉xs->∀i w',Sep F W w' L->Fr No w w'->Q i false w'):nC a n c v w Q:=by
 apply Dh
 have hl:=hX.len
 have loop:∀(k i j:Nat) (w1:World),j<=i+k->i<=j->j<=n->(∀q,q<i->gi xs q<v)->(∀q,j<=q->q<n->¬gi xs q<v)->Sep No w w1 []->gj Q (k+1) a n c v n i j w1:=by
  have stop:∀(i:Nat) (w1:World),i<=n->(∀q,q<i->gi xs q<v)->(∀q,i<=q->q<n->¬gi xs q<v)->Sep No w w1 []->(cond (decide ((i:Int)<n)) (aH i n<|wA a λp=>af .i64 (p.add ((i:Int).toNat*1)) w1 λy=>cond (y==v) (Q i true w1) (aH i n<|wA a λp=>af .i64 (p.add ((i:Int).toNat*1)) w1 λz=>nD z w1 λr w2=>cond r (nD v w2 λr' w3=>Q i r' w3) (Q i false w2))) (Q i false w1)):=λi w1 hi h1 h2 s=>by
   have ach:gi xs i≠v\/i=n->v∉xs:=λh hv=>by
    obtain⟨q,hq⟩:=List.mem_iff_getElem?.1 hv
    have hql:=(List.getElem?_eq_some_iff.1 hq).1
    rw[gT hql,Option.some.injEq]at hq
    rcases Nat.lt_trichotomy q i with h3|h3|h3
    ·grind
    ·grind
    ·have h4:=h2 i (Nat.le_refl _) (by omega)
     have h5:=Pp hs h3 (by omega)
     omega
   by_cases hin:i<n
   ·rw[bY]
    apply(hX.fr (au s)).pJ rfl hin
    by_cases hv:gi xs i=v
    ·rw[dJ hv,cond_true]
     exact hy i w1 hin hv (b9 s0 (au s)) (au s)
    ·rw[cM hv,cond_false]
     apply(hX.fr (au s)).pJ rfl hin
     apply Nf
     rw[bne_self_eq_false]
     show cond false _ _
     exact hno (ach (.inl hv)) i w1 (b9 s0 (au s)) (au s)
   ·rw[bD]
    exact hno (ach (.inr (by omega))) i w1 (b9 s0 (au s)) (au s)
  intro k
  induction k with
  |zero=>
   intro i j w1 hk hij hj h1 h2 s
   obtain rfl:i=j:=by omega
   show iI Q (gj Q 0) _ _ _ _ _ _ _ _
   unfold iI
   grind
  |succ k ih=>
   intro i j w1 hk hij hj h1 h2 s
   show iI Q (gj Q (k+1)) _ _ _ _ _ _ _ _
   unfold iI
   by_cases hlt:i<j
   ·rw[bY,half hlt (by omega)]
    refine⟨by decide,?_⟩
    apply(hX.fr (au s)).pJ rfl (by omega)
    apply Uw
    apply Ap
    rw[bne_self_eq_false]
    show cond false _ _
    show cond (decide (gi xs ((i+j)/2)<v)) _ _
    have U4:∀q,q<(i+j)/2->gi xs q<gi xs ((i+j)/2):=λq hq=>Pp hs hq (by omega)
    have atZ:∀q,(i+j)/2<q->q<n->gi xs ((i+j)/2)<gi xs q:=λq hq hqn=>Pp hs hq (by omega)
    by_cases hc:gi xs ((i+j)/2)<v
    ·rw[bY hc,aJ]
     refine ih ((i+j)/2+1) j w1 (by omega) (by omega) hj (λq hq=>?_) h2 s
     by_cases e:q=(i+j)/2
     ·rw[e];exact hc
     ·have:=U4 q (by omega);omega
    ·rw[bD hc]
     refine ih i ((i+j)/2) w1 (by omega) (by omega) (by omega) h1 (λq hq hqn=>?_) s
     by_cases e:q=(i+j)/2
     ·rw[e];exact hc
     ·have:=atZ q (by omega) hqn;omega
   ·obtain rfl:i=j:=by omega
    rw[bD (Int.lt_irrefl _)]
    exact stop i w1 hj h1 h2 s
 exact⟨n+1,loop n 0 n w (by omega) (by omega) (Nat.le_refl _) (λq h=>by omega) (λq h1 h2=>by omega) bt⟩
def YC {Q:Int->World->Prop}(k:rz w r.p (Re r gp x))(h:Q x.fA w):rG (sZ r.p) w Q:=by
 apply Es
 exact mz (ah (aP (k 3 _ rfl) h))
def YD {Q:Int->World->Prop}(h:Q 0 w):rG Option.none w Q:=Es _ _ _ h
def YE {Q:Option Addr->Nat->Nat->World->Prop}{i:Nat}{q:zM}(s0:Sep F W w L)(k:Dy w r gp x)(hq:x.ps[i]? =some q)(hql:q.nodes.length<=1000000)(h:∀ra rn rc w',Sep F W w' (aj ra rn rc 3 1 (flat one q.nodes)::L)->Fr No w w'->Q ra rn rc w'):
  yf (sZ r.p) i w Q:=by
 apply OQ
 have hi:=(List.getElem?_eq_some_iff.1 hq).1
 have hl:=k.row.len
 apply mz
 rw[bD]
 refine ah (dz (k.cell 1 _ rfl) ?_)
 rw[bD]
 refine ah (dz (k.cell 1 _ rfl) ?_)
 refine k.row.El rfl (by omega) λp y hy hc=>?_
 rw[hq]at hy
 cases hy
 apply dz (hc 1 _ rfl)
 have hn:=(k.part q (List.mem_of_getElem? hq)).1
 refine Kl s0 hn (by rw[<-hn.len];omega) λra rc w' s f=>h ra _ rc w' s f
def wP (r:AP)(i:Nat):Option Addr:=r.a.map λp=>p.add (i*3)
def Mk {Q:Option Addr->Int->Bool->World->Prop}(s0:Sep F W w L)(k:Dy w r gp x)(kg:nJ w gr g)(hgp:gp=gr.p)(hlen:(x.ps.length:Int)=d_ g.m.w g.m.h)(U4:∀q∈x.ps,q.nodes.Pairwise (·<·)/\q.nodes.length<1000000)
  (hno:¬bE g.m.w g.m.h ce->∀w',Sep F W w' L->Fr No w w'->Q none 0 false w')
  (hy:∀q (i:Nat) w',x.ps[(aB g.m.w g.m.h ce).toNat]? =some q->i<q.nodes.length->gi q.nodes i=ce->Sep F W w' L->Fr No w w'->Q (wP r (aB g.m.w g.m.h ce).toNat) i true w')
  (hn:∀q i w',x.ps[(aB g.m.w g.m.h ce).toNat]? =some q->ce∉q.nodes->Sep F W w' L->Fr No w w'->Q (wP r (aB g.m.w g.m.h ce).toNat) i false w'):tF (sZ r.p) ce w Q:=by
 subst hgp
 apply QJ
 refine mz (ah (dK (k.cell 0 _ rfl) ?_))
 refine je (bt (F:=No)) kg λw1 s1 _=>?_
 refine eN s1 λw1 s1 _=>?_
 have f1:=au s1
 by_cases hc:bE g.m.w g.m.h ce
 ·have hs:=bS hc
  obtain⟨_,h0,h1⟩:=hs
  rw[bD]
  have k:=k.fr f1
  have hl:=k.row.len
  refine ah (dz (k.cell 1 _ rfl) ?_)
  have hrow:=k.row
  obtain⟨p,hp⟩:∃p,r.a=some p:=by
   obtain⟨ad,h2,_⟩:=hrow.row.2 (aB g.m.w g.m.h ce).toNat _ (List.getElem?_eq_getElem (by omega))
   grind
  have hP:wP r (aB g.m.w g.m.h ce).toNat=some (p.add ((aB g.m.w g.m.h ce).toNat*3)):=by unfold wP;rw[hp];rfl
  rw[hP]at hy hn
  obtain⟨ad,had,wK⟩:=hrow.row.2 (aB g.m.w g.m.h ce).toNat _ (List.getElem?_eq_getElem (by omega))
  rw[hp,Option.some.injEq]at had
  subst had
  have hq:x.ps[(aB g.m.w g.m.h ce).toNat]? =some (x.ps[(aB g.m.w g.m.h ce).toNat]'(by omega)):=List.getElem?_eq_getElem (by omega)
  generalize x.ps[(aB g.m.w g.m.h ce).toNat]'(by omega)=q at wK hq
  have hqm:=List.mem_of_getElem? hq
  refine⟨by omega,by omega,?_⟩
  rw[hp]
  apply ah
  apply OR
  refine ah (dz (x:=q.na) (m:=q.nn) (q:=q.nc) ?_ ?_)
  ·rw[add_add]
   exact wK 1 _ rfl
  ·obtain⟨h2,h3⟩:=U4 q hqm
   have hn1:=(k.part q hqm).1
   have hnl:=hn1.len
   refine agE hn1 (by omega) h2 s1 (λi w2 h4 h5 s2 f2=>?_) λh4 i w2 s2 f2=>?_
   ·exact hy q i w2 hq (by omega) h5 (b9 s0 (au s2)) (au s2)
   ·exact hn q i w2 hq h4 (b9 s0 (au s2)) (au s2)
 ·have e:aB g.m.w g.m.h ce=-1:=if_neg hc
  rw[e,bY (by decide)]
  exact hno hc w1 (b9 s0 f1) f1
end
end Go.Proofs.YtmegplnmiepfbaaGreatDoor.S
namespace Go.Proofs.YtmegplnmiepfbaaGreatDoor.S
open Go.Sx
attribute [local irreducible] af cw bq bg aC cf bX St Bx Al App cA cq cm bT aI bw aq bR av aj aV mapA
section
variable {F:Nat->Prop}{W w w0:World}{L:List As}{r:AP}{gp:Nat}{x:m_}{gr:tQ}{g:g7}{m:bP}{sc b:Int}
def Ml (g:g7)(x:m_):Prop:=∀i q,x.ps[i]? =some q->q.eS=gi g.vs i
def G2 (I:xQ g x)(hf:Ml g x){i:Nat}{q:zM}(h:x.ps[i]? =some q):q.nodes=aR g.m i/\q.IM=jm g.m i:=I.ok i q h (hf i q h)
def FG:(iA m sc).length=(aR m sc).length:=by unfold iA;grind
def ame:(jm m sc).length=(aR m sc).length*(aR m sc).length:=by
 unfold jm yM
 rw[List.length_map,List.length_map,List.length_range,FG]
def aov {i j:Nat}(hi:i<(aR m sc).length)(hj:j<(aR m sc).length):gi (jm m sc) (i*(aR m sc).length+j)=if pT m sc (gi (aR m sc) i) (gi (aR m sc) j)=bW then-1 else pT m sc (gi (aR m sc) i) (gi (aR m sc) j):=by
 have Tz:0<(aR m sc).length:=by omega
 have d1:(i*(aR m sc).length+j)/(aR m sc).length=i:=by rw[Nat.mul_comm,Nat.mul_add_div Tz,Nat.div_eq_of_lt hj,Nat.add_zero]
 have d2:(i*(aR m sc).length+j)%(aR m sc).length=j:=by rw[Nat.mul_comm,Nat.mul_add_mod,Nat.mod_eq_of_lt hj]
 have e:∀k,k<(aR m sc).length->gi (iA m sc) k=dA m.w m.h (gi (aR m sc) k):=λk hk=>by
  unfold gi iA
  grind
 have h0:gi (jm m sc) (i*(aR m sc).length+j)=(λd=>if d=bW then-1 else d) (D2 (aD m.w m.h sc) (bu m.w m.h sc) (dx m sc) (iA m sc) i j):=by
  unfold jm yM
  rw[FG]
  show List.getD _ _ _=_
  rw[List.getD_eq_getElem?_getD,List.getElem?_map,List.getElem?_map,List.getElem?_range (ajY hi hj)]
  simp[Option.map_some,Option.getD_some,d1,d2]
 rw[h0]
 unfold D2 pT
 grind
def aeT {Q:Int->World->Prop}{s i j:Nat}{q:zM}(k:Dy w r gp x)(hq:x.ps[s]? =some q)(hm:c8 m)(hs:dG m.w m.h sc)(hc:q.nodes=aR m sc/\q.IM=jm m sc)(hi:i<(aR m sc).length)(hj:j<(aR m sc).length)
  (h:Q (pT m sc (gi (aR m sc) i) (gi (aR m sc) j)) w.drew):vL (wP r s) i j w Q:=by
 apply Lx
 obtain⟨ad,had,wK⟩:=k.row.row.2 s q hq
 have hP:wP r s=some (ad.add (s*3)):=by unfold wP;rw[had];rfl
 obtain⟨k1,k2⟩:=k.part q (List.mem_of_getElem? hq)
 have n1:=k1.len
 have n2:=k2.len
 rw[hc.1]at n1
 rw[hc.2,ame]at n2
 have m6:=zf hs
 have hsq:=ajY hi hj
 have hij:=Nat.mul_le_mul (by omega) m6
 rw[hP]
 refine ah (dz (by rw[add_add];exact wK 2 _ rfl) (ah (dz (by rw[add_add];exact wK 1 _ rfl) ?_)))
 rw[<-n1,show(i:Int)*(((aR m sc).length:Nat):Int)=((i*(aR m sc).length:Nat):Int) by grind,aJ (n:=((i*(aR m sc).length:Nat):Int)),aJ]
 apply E0 k2.drew (k:=i*(aR m sc).length+j) (by omega) (by omega)
 rw[hc.2,aov hi hj]
 have ha:=l9 hs (fE hi)
 have hb:=l9 hs (fE hj)
 have hr:=YB hm hs ha.2 hb.2 hb.1
 by_cases hI:pT m sc (gi (aR m sc) i) (gi (aR m sc) j)=bW
 ·rw[if_pos hI,bne_self_eq_false,cond_false]
  rw[hI]at h
  exact h
 ·rw[if_neg hI,show(pT m sc (gi (aR m sc) i) (gi (aR m sc) j) !=-1)=true by grind,cond_true,aJ]
  exact h
def aqT:∃inf,P.info? 319=some inf/\inf.size≠0:=by
 obtain⟨inf,u,z,k1,k2,k3,k4,k5,k6,k7⟩:=tZ dW (t:=319) rfl
 grind
def asy:P.underlying 354=some (.pointer 319):=by kernel_rfl
def Pq {α β:Type}{f:α->Option β}{l:List α}{i:Nat}{a:α}(h:l[i]? =some a):(l.take (i+1)).filterMap f=(l.take i).filterMap f++(f a).toList:=by
 rw[List.take_add_one,h,List.filterMap_append]
 congr 1
def aat {Q:Option Addr->Nat->Nat->World->Prop}(s0:Sep F W w L)(k:Dy w r gr.p x)(kg:nJ w gr g)(I:xQ g x)(hf:Ml g x)(hb:bE g.m.w g.m.h b)(hn:mZ g.m b)
  (h:∀ra rn rc w',Sep F W w' (aj ra rn rc 292 2 (flat BD (FD g.m b))::L)->Fr No w w'->Q ra rn rc w'):zw (sZ r.p) b w Q:=by
 apply QK
 have hm:=kg.ok.may
 have hs:=bS hb
 have hlen:=I.len
 have hps:∀(i:Nat) (q:zM),x.ps[i]? =some q->dG g.m.w g.m.h i:=λi q h=>⟨⟨hm.w,hm.h⟩,by omega,by have:=(List.getElem?_eq_some_iff.1 h).1;omega⟩
 have U4:∀q∈x.ps,q.nodes.Pairwise (·<·)/\q.nodes.length<1000000:=λq hq=>by
  obtain⟨i,hi⟩:=List.mem_iff_getElem?.1 hq
  rw[(G2 I hf hi).1]
  have:=zf (hps i q hi)
  exact⟨Mi (hps i q hi),by omega⟩
 have e0:=Int.toNat_of_nonneg hs.2.1
 refine Mk (bt (F:=No)) k kg rfl I.len U4 (λe=>(e hb).elim) (λq j w1 hq hj hgj s1 f1=>?_) λq i w1 hq Zg s1 f1=>?_
 rotate_left
 ·have:=(G2 I hf hq).1
  rw[e0]at this
  rw[this]at Zg
  exact(Zg hn).elim
 have hc:=G2 I hf hq
 rw[e0]at hc
 rw[hc.1]at hj hgj
 rw[Bool.not_true,cond_false]
 have k1:=k.fr f1
 obtain⟨ad,had,wK⟩:=k1.row.row.2 _ q hq
 obtain⟨pb,po,hbase⟩:=k1.base (by have:=(List.getElem?_eq_some_iff.1 hq).1;omega)
 have hP:wP r (aB g.m.w g.m.h b).toNat=some (ad.add ((aB g.m.w g.m.h b).toNat*3)):=by unfold wP;rw[had];rfl
 obtain⟨q1,q2⟩:=k1.part q (List.mem_of_getElem? hq)
 have hql:=q1.len
 rw[hc.1]at hql
 have m6:=zf hs
 rw[hP]
 refine ah (dz (by rw[add_add];exact wK 1 _ rfl) ?_)
 rw[<-hql,wrap_i64 (n:=(((aR g.m (aB g.m.w g.m.h b)).length:Nat):Int)+1) (by omega) (by omega)]
 refine uw (x0:=((0:Int),(0:Int))) (bytes:=16) (ln:=0) (cn:=(aR g.m (aB g.m.w g.m.h b)).length+1) dW s1 rfl rfl rfl rfl rfl rfl (by decide) O_ rfl (λu hu=>aiG _ u hu) rfl (by omega) (by omega) (by omega) (by simp[maxLen];omega) λob w1 s1=>?_
 have s1:=s1
 have f1:=au s1
 have k1:=k.fr f1
 obtain⟨ad',asA,agm⟩:=k1.row.row.2 _ q hq
 obtain rfl:ad'=ad:=by rw[had]at asA;cases asA;rfl
 refine ah (dz (by rw[add_add];exact agm 1 _ rfl) ?_)
 rw[<-hP,<-hql]
 have sides:∀(n2 sd:Nat) (oa:Option Addr) (on oc:Nat) (w2:World),sd+n2=4->on<=300+sd->Sep No w w2 [aj oa on oc 292 2 (flat BD (aap g.m b++Rb g.m b sd))]->
   kU Q (n2+1) (sZ r.p) b (wP r (aB g.m.w g.m.h b).toNat) oa on oc g.m.w g.m.h sd w2:=by
  intro n2
  induction n2 with
  |zero=>
   intro sd oa on oc w2 vp ho s
   show ql Q (kU Q 0) _ _ _ _ _ _ _ _ _ _
   unfold ql
   obtain rfl:sd=4:=by omega
   exact h oa on oc w2 (dY s0 s (i:=0) rfl) (au s)
  |succ n2 ih=>
   intro sd oa on oc w2 vp ho s
   show ql Q (kU Q (n2+1)) _ _ _ _ _ _ _ _ _ _
   rw[ql,bY,aJ]
   have skip:∀(w3:World),Sep No w w3 [aj oa on oc 292 2 (flat BD (aap g.m b++Rb g.m b sd))]->¬(0<=aY g.m.w g.m.h b sd/\mZ g.m (aY g.m.w g.m.h b sd)/\cP g.m (aY g.m.w g.m.h b sd)≠cP g.m b)->
     kU Q (n2+1) (sZ r.p) b (wP r (aB g.m.w g.m.h b).toNat) oa on oc g.m.w g.m.h ((sd:Int)+1) w3:=λw3 s hno=>by
    apply ih (sd+1) oa on oc w3 (by omega) (by omega)
    rw[aaq]
    rw[Po,if_neg hno]
    show Sep No w w3 [aj oa on oc 292 2 (flat BD (aap g.m b++(Rb g.m b sd++[])))]
    rw[List.append_nil]
    exact s
   refine kj s λw2 s _=>?_
   refine Mk s (k.fr (au s)) (kg.fr (au s)) rfl I.len U4 (λe w3 s _=>?_) (λq' i' w3 C7 hi' avS s _=>?_) λq' i' w3 C7 asB s _=>?_
   ·exact skip w3 s λe'=>e (zk e'.1).2
   ·have hn':mZ g.m (aY g.m.w g.m.h b sd)/\bE g.m.w g.m.h (aY g.m.w g.m.h b sd):=by
     have h2:=(G2 I hf C7).1
     have h3:aY g.m.w g.m.h b sd∈q'.nodes:=by rw[<-avS];exact fE hi'
     rw[h2]at h3
     have hok:=hps _ _ C7
     have h4:=l9 hok h3
     have e5:=Int.toNat_of_nonneg (bS h4.2.1).2.1
     rw[e5]at h3
     exact⟨h3,h4.2.1⟩
    have hs':=bS hn'.2
    have eP:∀i,wP r i=some ⟨pb,po+i*3,none⟩:=λi=>by unfold wP;rw[hbase];show some (Addr.add ⟨pb,po,none⟩ (i*3))=_;rw[bZ]
    have avT:∀(K:Bool->World->Prop) (x y:Operand) (wz:World),K (!decide (aB g.m.w g.m.h (aY g.m.w g.m.h b sd)=aB g.m.w g.m.h b)) wz->bT P .neq 354 x y (.pointer (wP r (aB g.m.w g.m.h (aY g.m.w g.m.h b sd)).toNat)) (.pointer (wP r (aB g.m.w g.m.h b).toNat)) wz K:=λK x y wz hK=>by
     rw[eP,eP]
     obtain⟨inf,U5,hi2⟩:=aqT
     apply asu asy U5 hi2
     have e6:(po+(aB g.m.w g.m.h (aY g.m.w g.m.h b sd)).toNat*3=po+(aB g.m.w g.m.h b).toNat*3)↔aB g.m.w g.m.h (aY g.m.w g.m.h b sd)=aB g.m.w g.m.h b:=by
      have:=hs'.2.1
      omega
     simp only[e6]
     exact hK
    apply avT
    by_cases Rf:aB g.m.w g.m.h (aY g.m.w g.m.h b sd)=aB g.m.w g.m.h b
    ·rw[decide_eq_true Rf,Bool.not_true,cond_false]
     exact skip w3 s λe'=>e'.2.2 Rf
    ·rw[decide_eq_false Rf,Bool.not_false,cond_true]
     have k3:=k.fr (au s)
     refine ah (dK (k3.cell 0 _ rfl) ?_)
     apply jd (kg.fr (au s))
     refine an5 (x:=(aY g.m.w g.m.h b sd,cE g.m b)) s (by omega) λoa oc w3 s=>?_
     apply ih (sd+1) oa (on+1) oc w3 (by omega) (by omega)
     rw[aaq]
     rw[Po,if_pos ⟨hn'.2.2.1,hn'.1,Rf⟩,<-List.append_assoc]
     exact s
   ·refine skip w3 s λe'=>?_
    have h2:=(G2 I hf C7).1
    have Az:=(zk e'.1).2
    rw[Int.toNat_of_nonneg (bS Az).2.1]at h2
    rw[h2]at asB
    exact asB e'.2.1
 have nodes:∀(n2 i:Nat) (oa:Option Addr) (on oc:Nat) (w2:World),i+n2=(aR g.m (aB g.m.w g.m.h b)).length->on<=i->Sep No w w2 [aj oa on oc 292 2 (flat BD (((aR g.m (aB g.m.w g.m.h b)).take i).filterMap λa=>if a≠b/\pT g.m (cP g.m b) a b≠bW then some (a,pT g.m (cP g.m b) a b)else none))]->
   lX Q (n2+1) (sZ r.p) b (wP r (aB g.m.w g.m.h b).toNat) j oa on oc q.na (aR g.m (aB g.m.w g.m.h b)).length q.nc (aR g.m (aB g.m.w g.m.h b)).length i w2:=by
  intro n2
  induction n2 with
  |zero=>
   intro i oa on oc w2 hi ho s
   show rm Q (lX Q 0) _ _ _ _ _ _ _ _ _ _ _ _ _
   rw[rm,bD]
   have k2:=k.fr (au s)
   refine ah (dK (k2.cell 0 _ rfl) ?_)
   refine je s (kg.fr (au s)) λw2 s _=>?_
   rw[List.take_of_length_le (by omega)]at s
   refine⟨5,sides 4 0 oa on oc w2 rfl (by omega) ?_⟩
   show Sep No w w2 [aj oa on oc 292 2 (flat BD (aap g.m b++[]))]
   rw[List.append_nil]
   exact s
  |succ n2 ih=>
   intro i oa on oc w2 hi ho s
   show rm Q (lX Q (n2+1)) _ _ _ _ _ _ _ _ _ _ _ _ _
   rw[rm,bY,aJ]
   have k2:=k.fr (au s)
   have q1:=(k2.part q (List.mem_of_getElem? hq)).1
   rw[hc.1,<-hql]at q1
   apply q1.pJ rfl (by omega)
   apply aeT k2 hq hm hs hc (by omega) hj
   rw[hgj]
   have s:=ay s
   have ht:=Pq (f:=λa=>if a≠b/\pT g.m (cP g.m b) a b≠bW then some (a,pT g.m (cP g.m b) a b)else none) (gT (l:=aR g.m (aB g.m.w g.m.h b)) (i:=i) (by omega))
   have hne:gi (aR g.m (aB g.m.w g.m.h b)) i≠b↔i≠j:=by
    constructor
    ·rintro h1 rfl
     exact h1 hgj
    ·intro h1 h2
     rcases Nat.lt_or_gt_of_ne h1 with h3|h3
     ·have:=Pp (Mi hs) h3 hj;omega
     ·have:=Pp (Mi hs) h3 (by omega);omega
   have skip:¬(gi (aR g.m (aB g.m.w g.m.h b)) i≠b/\pT g.m (cP g.m b) (gi (aR g.m (aB g.m.w g.m.h b)) i) b≠bW)->lX Q (n2+1) (sZ r.p) b (wP r (aB g.m.w g.m.h b).toNat) j oa on oc q.na (aR g.m (aB g.m.w g.m.h b)).length q.nc (aR g.m (aB g.m.w g.m.h b)).length ((i:Int)+1) w2.drew:=λhno=>by
    apply ih (i+1) oa on oc _ (by omega) (by omega)
    rw[ht,if_neg hno]
    show Sep No w _ [aj oa on oc 292 2 (flat BD (_++[]))]
    rw[List.append_nil]
    exact s
   by_cases hij:i=j
   ·rw[show((i:Int) !=(j:Int))=false by rw[hij];exact bne_self_eq_false _,cond_false]
    exact skip λe=>hne.1 e.1 hij
   ·rw[show((i:Int) !=(j:Int))=true by rw[bne_iff_ne];omega,cond_true]
    by_cases hI:pT g.m (cP g.m b) (gi (aR g.m (aB g.m.w g.m.h b)) i) b=bW
    ·have U6:pT g.m (aB g.m.w g.m.h b) (gi (aR g.m (aB g.m.w g.m.h b)) i) b=1099511627776:=hI
     rw[U6,bne_self_eq_false,cond_false]
     exact skip λe=>e.2 hI
    ·have U6:pT g.m (aB g.m.w g.m.h b) (gi (aR g.m (aB g.m.w g.m.h b)) i) b≠1099511627776:=hI
     rw[show(pT g.m (aB g.m.w g.m.h b) (gi (aR g.m (aB g.m.w g.m.h b)) i) b !=1099511627776)=true by rw[bne_iff_ne];exact U6,cond_true]
     refine an5 (x:=(gi (aR g.m (aB g.m.w g.m.h b)) i,pT g.m (aB g.m.w g.m.h b) (gi (aR g.m (aB g.m.w g.m.h b)) i) b)) s (by omega) λoa oc w3 s=>?_
     apply ih (i+1) oa (on+1) oc w3 (by omega) (by omega)
     rw[ht,if_pos ⟨hne.2 hij,hI⟩]
     exact s
 exact⟨_,nodes (aR g.m (aB g.m.w g.m.h b)).length 0 _ 0 _ w1 (by omega) (by omega) s1⟩
end
section
variable {F:Nat->Prop}{W w w0:World}{L:List As}{r:AP}{gp:Nat}{x:m_}{gr:tQ}{g:g7}{m:bP}{sc b:Int}
def ajZ:zc T 319=[ae 0,.slice none 0 0,.slice none 0 0]:=rfl
def aow (hm:c8 m)(hs:dG m.w m.h sc){d:Int}(h:d∈yM (aD m.w m.h sc) (bu m.w m.h sc) (dx m sc) (iA m sc)):0<=d/\(d≠bW->d<1000000000):=by
 obtain⟨k,hk,rfl⟩:=List.mem_map.1 h
 have hk:=List.mem_range.1 hk
 rw[FG]at hk⊢
 have Tz:0<(aR m sc).length:=by
  rcases Nat.eq_zero_or_pos (aR m sc).length with e|e
  ·rw[e]at hk;omega
  ·exact e
 have hi:k/(aR m sc).length<(aR m sc).length:=Nat.div_lt_of_lt_mul hk
 have hj:k%(aR m sc).length<(aR m sc).length:=Nat.mod_lt _ Tz
 have e:∀k,k<(aR m sc).length->gi (iA m sc) k=dA m.w m.h (gi (aR m sc) k):=λk hk=>by
  unfold gi iA
  rw[List.getD_eq_getElem?_getD,List.getElem?_map,List.getElem?_eq_getElem hk,List.getD_eq_getElem?_getD,List.getElem?_eq_getElem hk]
  rfl
 have ha:=l9 hs (fE hi)
 have hb:=l9 hs (fE hj)
 have hr:=YB hm hs ha.2 hb.2 hb.1
 have e2:D2 (aD m.w m.h sc) (bu m.w m.h sc) (dx m sc) (iA m sc) (k/(aR m sc).length) (k%(aR m sc).length)=pT m sc (gi (aR m sc) (k/(aR m sc).length)) (gi (aR m sc) (k%(aR m sc).length)):=by
  unfold D2 pT
  rw[e _ hi,e _ hj]
 rw[e2]
 exact⟨hr.1,hr.2.1⟩
def aci {Q:Int->Option Addr->Nat->Nat->Option Addr->Nat->Nat->World->Prop}{rb tb pb nn nc tn tc:Nat}{na ta:Option Addr}{eS:Int}(hm:c8 m)(hs:dG m.w m.h sc)
  (s:Sep No w0 w [av pb 319 [ae eS,.slice na nn nc,.slice none 0 0],aj na nn nc 3 1 (flat one (aR m sc)),av tb 84 [ae (aD m.w m.h sc),ae (bu m.w m.h sc),.slice ta tn tc],aj ta tn tc 5 1 (flat bA (dx m sc)),av rb 319 [ae 0,.slice none 0 0,.slice none 0 0]])
  (h:∀da dn dc w',Sep No w0 w' [aj na nn nc 3 1 (flat one (aR m sc)),aj da dn dc 21 1 (flat mN (jm m sc))]->Q eS na nn nc da dn dc w'):n_ Q (aZ rb) m.w m.h (aZ tb) (aZ pb) w:=by
 unfold n_
 have m6:=zf hs
 have hnn:(aR m sc).length=nn:=(aK s (i:=1) rfl ct (by decide)).len
 refine bC s (i:=0) rfl rfl rfl ?_
 have conv:∀(qa:Option Addr) (qc N:Nat) (da:Option Addr) (w1:World),N=nn*nn->Sep No w0 w1 [aj da N N 21 1 (flat mN (List.replicate N 0)),aj qa N qc 3 1 (flat one (yM (aD m.w m.h sc) (bu m.w m.h sc) (dx m sc) (iA m sc))),av pb 319 [ae eS,.slice na nn nc,.slice da N N],aj na nn nc 3 1 (flat one (aR m sc)),av rb 319 [ae 0,.slice none 0 0,.slice none 0 0]]->
   ∃k',kT Q k' (aZ rb) (aZ pb) qa N qc N 0 w1:=λqa qc N da w1 hN s=>by
  have hNb:N<=65536:=by
   have:=Nat.mul_le_mul (show nn<=256 by omega) (show nn<=256 by omega)
   omega
  have htl:(yM (aD m.w m.h sc) (bu m.w m.h sc) (dx m sc) (iA m sc)).length=N:=by
   unfold yM
   rw[List.length_map,List.length_range,FG,hnn,hN]
  have hdl:(jm m sc).length=N:=by unfold jm;rw[List.length_map,htl]
  have hdg:∀i,i<N->gi (jm m sc) i=if gi (yM (aD m.w m.h sc) (bu m.w m.h sc) (dx m sc) (iA m sc)) i=bW then-1 else gi (yM (aD m.w m.h sc) (bu m.w m.h sc) (dx m sc) (iA m sc)) i:=λi hi=>by
   show List.getD _ _ _=_
   unfold jm
   rw[List.getD_eq_getElem?_getD,List.getElem?_map,gT (by omega)]
   rfl
  have loop:∀(k i:Nat) (w1:World),i+k=N->Sep No w0 w1 [aj da N N 21 1 (flat mN ((List.range N).map λq=>if q<i then gi (jm m sc) q else 0)),aj qa N qc 3 1 (flat one (yM (aD m.w m.h sc) (bu m.w m.h sc) (dx m sc) (iA m sc))),av pb 319 [ae eS,.slice na nn nc,.slice da N N],aj na nn nc 3 1 (flat one (aR m sc)),av rb 319 [ae 0,.slice none 0 0,.slice none 0 0]]->
    kT Q (k+1) (aZ rb) (aZ pb) qa N qc N i w1:=by
   intro k
   induction k with
   |zero=>
    intro i w1 hi s
    show qk Q (kT Q 0) _ _ _ _ _ _ _ _
    unfold qk
    rw[decide_eq_false (by omega),cond_false]
    have e:((List.range N).map λq=>if q<i then gi (jm m sc) q else 0)=jm m sc:=by
     refine TK (by rw[List.length_map,List.length_range,hdl]) λq hq=>?_
     rw[List.length_map,List.length_range]at hq
     show List.getD _ _ _=_
     rw[List.getD_eq_getElem?_getD,List.getElem?_map,List.getElem?_range hq]
     show(if q<i then gi (jm m sc) q else 0)=_
     rw[if_pos (by omega)]
    rw[e]at s
    refine aU s (i:=2) rfl rfl rfl (bC s (i:=2) rfl rfl rfl (bC s (i:=2) rfl rfl rfl ?_))
    refine ax s (i:=4) rfl rfl rfl λw1 s=>?_
    refine ax s (i:=4) rfl rfl rfl λw1 s=>?_
    refine ax s (i:=4) rfl rfl rfl λw1 s=>?_
    simp only[List.set_cons_zero,List.set_cons_succ]at s
    refine aU s (i:=4) rfl rfl rfl (bC s (i:=4) rfl rfl rfl (bC s (i:=4) rfl rfl rfl ?_))
    exact h da N N w1 (bH [3,0] s rfl (by decide))
   |succ k ih=>
    intro i w1 hi s
    show qk Q (kT Q (k+1)) _ _ _ _ _ _ _ _
    unfold qk
    rw[decide_eq_true (by omega),cond_true,wrap_i64 (n:=(i:Int)+1) (by omega) (by omega)]
    refine(aK s (i:=1) rfl ct (by decide)).pJ (k:=i) rfl (by omega) ?_
    refine bC s (i:=2) rfl rfl rfl ?_
    refine zH uO s (i:=0) (k:=i) (x':=-1) rfl (by omega) (by rw[List.length_map,List.length_range];omega) rfl rfl λw1 s=>?_
    simp only[List.set_cons_zero,List.set_cons_succ]at s
    have hr:=aow hm hs (fE (l:=yM (aD m.w m.h sc) (bu m.w m.h sc) (dx m sc) (iA m sc)) (i:=i) (by omega))
    have hdi:=hdg i (by omega)
    rw[IL]at s
    by_cases hI:gi (yM (aD m.w m.h sc) (bu m.w m.h sc) (dx m sc) (iA m sc)) i=bW
    ·rw[if_pos hI]at hdi
     have U6:gi (yM (aD m.w m.h sc) (bu m.w m.h sc) (dx m sc) (iA m sc)) i=1099511627776:=hI
     rw[U6,bne_self_eq_false,cond_false]
     refine ih (i+1) w1 (by omega) ?_
     have e:((List.range N).map λq=>if q=i then-1 else if q<i then gi (jm m sc) q else 0)=(List.range N).map λq=>if q<i+1 then gi (jm m sc) q else 0:=by
      refine List.map_congr_left λq _=>?_
      by_cases c1:q=i
      ·rw[if_pos c1,if_pos (by omega),c1,hdi]
      ·rw[if_neg c1]
       by_cases c2:q<i
       ·rw[if_pos c2,if_pos (by omega)]
       ·rw[if_neg c2,if_neg (by omega)]
     rw[e]at s
     exact s
    ·rw[if_neg hI]at hdi
     have U6:gi (yM (aD m.w m.h sc) (bu m.w m.h sc) (dx m sc) (iA m sc)) i≠1099511627776:=hI
     have:=hr.2 hI
     rw[show(gi (yM (aD m.w m.h sc) (bu m.w m.h sc) (dx m sc) (iA m sc)) i !=1099511627776)=true by rw[bne_iff_ne];exact U6,cond_true]
     refine bC s (i:=2) rfl rfl rfl ?_
     rw[adq (by omega)]
     refine zH uO s (i:=0) (k:=i) (x':=gi (yM (aD m.w m.h sc) (bu m.w m.h sc) (dx m sc) (iA m sc)) i) rfl (by omega) (by rw[List.length_map,List.length_range];omega) rfl rfl λw1 s=>?_
     simp only[List.set_cons_zero,List.set_cons_succ]at s
     rw[IL]at s
     refine ih (i+1) w1 (by omega) ?_
     have e:((List.range N).map λq=>if q=i then gi (yM (aD m.w m.h sc) (bu m.w m.h sc) (dx m sc) (iA m sc)) i else if q=i then-1 else if q<i then gi (jm m sc) q else 0)=(List.range N).map λq=>if q<i+1 then gi (jm m sc) q else 0:=by
      refine List.map_congr_left λq _=>?_
      by_cases c1:q=i
      ·rw[if_pos c1,if_pos (by omega),c1,hdi]
      ·rw[if_neg c1,if_neg c1]
       by_cases c2:q<i
       ·rw[if_pos c2,if_pos (by omega)]
       ·rw[if_neg c2,if_neg (by omega)]
     rw[e]at s
     exact s
  refine⟨N+1,loop N 0 w1 (by omega) ?_⟩
  have e:((List.range N).map λq=>if q<0 then gi (jm m sc) q else 0)=List.replicate N 0:=by
   rw[List.eq_replicate_iff]
   refine⟨by simp,λx hx=>?_⟩
   obtain⟨q,_,rfl⟩:=List.mem_map.1 hx
   rw[if_neg (Nat.not_lt_zero _)]
  rw[e]
  exact s
 have loop:∀(k i:Nat) (la:Option Addr) (lc:Nat) (w1:World),i+k=nn->Sep No w0 w1 [aj la i lc 3 1 (flat one ((iA m sc).take i)),av pb 319 [ae eS,.slice na nn nc,.slice none 0 0],aj na nn nc 3 1 (flat one (aR m sc)),av tb 84 [ae (aD m.w m.h sc),ae (bu m.w m.h sc),.slice ta tn tc],aj ta tn tc 5 1 (flat bA (dx m sc)),av rb 319 [ae 0,.slice none 0 0,.slice none 0 0]]->
   n9 Q (k+1) (aZ rb) m.w m.h (aZ tb) (aZ pb) la i lc na nn nc nn i w1:=by
  intro k
  induction k with
  |zero=>
   intro i la lc w1 hi s
   show ri Q (n9 Q 0) _ _ _ _ _ _ _ _ _ _ _ _ _ _
   unfold ri
   rw[decide_eq_false (by omega),cond_false]
   have Mn:(iA m sc).length=nn:=by rw[FG,hnn]
   rw[List.take_of_length_le (by omega)]at s
   refine aU s (i:=3) rfl rfl rfl (aU s (i:=3) rfl rfl rfl (bC s (i:=3) rfl rfl rfl ?_))
   refine Yz s (aK s (i:=4) rfl cZ (by decide)) (aK s (i:=0) rfl ct (by decide)) (Pm hm hs) (amb hm hs) λqa qc w1 s _=>?_
   rw[Mn]at s⊢
   have hNb:nn*nn<=65536:=by
    have:=Nat.mul_le_mul (show nn<=256 by omega) (show nn<=256 by omega)
    omega
   refine uw (f:=mN) (x0:=0) (size:=1) (bytes:=4) (ln:=nn*nn) (cn:=nn*nn) dW s rfl rfl rfl rfl rfl rfl (by decide) uO rfl (λu hu=>by unfold mN at hu;rw[List.mem_singleton]at hu;rw[hu];rfl) rfl rfl (Nat.le_refl _) (by omega) (by simp only[maxLen];omega) λdb w1 s=>?_
   refine ax s (i:=3) rfl rfl rfl λw1 s=>?_
   simp only[List.set_cons_zero,List.set_cons_succ]at s
   exact conv qa qc (nn*nn) (sZ db) w1 rfl (bH [0,1,3,4,7] s rfl (by decide))
  |succ k ih=>
   intro i la lc w1 hi s
   show ri Q (n9 Q (k+1)) _ _ _ _ _ _ _ _ _ _ _ _ _ _
   unfold ri
   rw[decide_eq_true (by omega),cond_true,wrap_i64 (n:=(i:Int)+1) (by omega) (by omega)]
   refine(aK s (i:=2) rfl ct (by decide)).pJ (k:=i) rfl (by omega) ?_
   refine sM s λw1 s _=>?_
   refine Ki s (by omega) λla lc w1 s=>?_
   refine ih (i+1) la lc w1 (by omega) ?_
   have e:(iA m sc).take (i+1)=(iA m sc).take i++[dA m.w m.h (gi (aR m sc) i)]:=by
    unfold iA
    rw[List.take_add_one,List.getElem?_map,gT (by omega)]
    rfl
   rw[e]
   exact s
 exact⟨nn+1,loop nn 0 none 0 w (by omega) (bG s 3 1)⟩
def aav {Q:Int->Option Addr->Nat->Nat->Option Addr->Nat->Nat->World->Prop}{vs:List Value}(s0:Sep F W w L)(k:rz w r.p (.pointer (sZ gr.p)::vs))(kg:nJ w gr g)(hs:dG g.m.w g.m.h sc)
  (h:∀na nn nc da dn dc w',Sep F W w' ([aj na nn nc 3 1 (flat one (aR g.m sc)),aj da dn dc 21 1 (flat mN (jm g.m sc))]++L)->Fr No w w'->Q (yI g sc) na nn nc da dn dc w'):zv (sZ r.p) sc w Q:=by
 refine QG _ _ _ _ ?_
 have hm:=kg.ok.may
 have fin:∀(na:Option Addr) (nn nc:Nat) (da:Option Addr) (dn dc:Nat) (w':World),Sep No w w' [aj na nn nc 3 1 (flat one (aR g.m sc)),aj da dn dc 21 1 (flat mN (jm g.m sc))]->Q (yI g sc) na nn nc da dn dc w':=λna nn nc da dn dc w' s=>h na nn nc da dn dc w' (fR s0 s) (au s)
 refine a_ (bt (F:=No) (w:=w)) λrb w1 s=>?_
 simp only[ajZ]at s
 have kc:∀{w':World} {L':List As},Sep No w w' L'->w'.cell? (aZ r.p)=some (.pointer (sZ gr.p)):=λs=>by
  have:=(k.fr (au s)) 0 _ rfl
  rw[add_zero]at this
  exact this
 refine ah (dK (kc s) ?_)
 refine je s (kg.fr (au s)) λw1 s _=>?_
 refine ah (dK (kc s) ?_)
 refine L5 s (kg.fr (au s)) (λe=>(e hs).elim) λ_ ta tn tc w1 s _=>?_
 rw[agt hm hs]at s
 refine a_ s λtb w1 s=>?_
 simp only[zcT]at s
 refine ax s (i:=0) rfl rfl rfl λw1 s=>?_
 refine ax s (i:=0) rfl rfl rfl λw1 s=>?_
 refine ax s (i:=0) rfl rfl rfl λw1 s=>?_
 simp only[List.set_cons_zero,List.set_cons_succ]at s
 have s:=ay s
 refine ah (dK (kc s) (ah (dK (kc s) ⟨?_,?_⟩)))
 ·refine ru (kg.fr (au s)) ⟨kc s,?_,?_⟩
  ·refine wN s (kg.fr (au s)) hs λna nn nc w1 s _=>?_
   refine a_ s λpb w1 s=>?_
   simp only[ajZ]at s
   refine⟨kc s,kc s,?_⟩
   refine ax s (i:=0) rfl rfl rfl λw1 s=>?_
   refine ax s (i:=0) rfl rfl rfl λw1 s=>?_
   refine ax s (i:=0) rfl rfl rfl λw1 s=>?_
   simp only[List.set_cons_zero,List.set_cons_succ]at s
   exact aci hm hs s λda dn dc w' s=>fin _ _ _ da dn dc w' s
  ·refine a_ s λpb w1 s=>?_
   simp only[ajZ]at s
   refine⟨kc s,kc s,?_⟩
   refine wN s (kg.fr (au s)) hs λna nn nc w1 s _=>?_
   refine ax s (i:=1) rfl rfl rfl λw1 s=>?_
   refine ax s (i:=1) rfl rfl rfl λw1 s=>?_
   refine ax s (i:=1) rfl rfl rfl λw1 s=>?_
   simp only[List.set_cons_zero,List.set_cons_succ]at s
   exact aci hm hs (bH [1,0,2,3,4] s rfl (by decide)) λda dn dc w' s=>fin _ _ _ da dn dc w' s
 ·refine a_ s λpb w1 s=>?_
  simp only[ajZ]at s
  refine⟨kc s,kc s,?_⟩
  refine ru (kg.fr (au s)) ⟨kc s,?_⟩
  refine wN s (kg.fr (au s)) hs λna nn nc w1 s _=>?_
  refine ax s (i:=1) rfl rfl rfl λw1 s=>?_
  refine ax s (i:=1) rfl rfl rfl λw1 s=>?_
  refine ax s (i:=1) rfl rfl rfl λw1 s=>?_
  simp only[List.set_cons_zero,List.set_cons_succ]at s
  exact aci hm hs (bH [1,0,2,3,4] s rfl (by decide)) λda dn dc w' s=>fin _ _ _ da dn dc w' s
end
section
variable {F:Nat->Prop}{W w w0:World}{L:List As}{r:AP}{gp:Nat}{x:m_}{gr:tQ}{g:g7}{m:bP}{sc b:Int}
def Rh (x:m_)(i:Nat):Int:=(x.ps[i]?.map (·.eS)).getD 0
def YF {i:Nat}{q:zM}(h:x.ps[i]? =some q):Rh x i=q.eS:=by unfold Rh;rw[h];rfl
def j6 (g:g7)(x:m_)(j:Nat):List Nat:=(List.range j).filter λi=>Rh x i !=gi g.vs i
def yN (g:g7)(x:m_)(j:Nat):List Int:=(j6 g x j).map λi:Nat=>(i:Int)
def aj0 {j:Nat}:yN g x (j+1)=yN g x j++if Rh x j !=gi g.vs j then[(j:Int)]else[]:=by
 unfold yN j6
 rw[List.range_succ,List.filter_append,List.map_append]
 congr 1
 rw[List.filter_cons]
 split
 ·rfl
 ·rfl
def YG {Q:Option Addr->Nat->Nat->World->Prop}(s0:Sep F W w L)(k:Dy w r gr.p x)(kg:nJ w gr g)(I:xQ g x)
  (h:∀da dn dc w',Sep F W w' (aj da dn dc 3 1 (flat one (yN g x x.ps.length))::L)->Fr No w w'->Q da dn dc w'):ye (sZ r.p) w Q:=by
 refine OI _ _ _ ?_
 have k:=k.fr (w':=w.drew) Fr.refl
 have kg:=kg.fr (w':=w.drew) Fr.refl
 have s0:=ay s0
 have hc:=(gD kg.ok.may.w kg.ok.may.h).2
 have Gb:=I.len
 refine mz (ah (aP (k.cell 2 _ rfl) (ah (dK (k.cell 0 _ rfl) ?_))))
 refine qI kg ⟨k.cell 2 _ rfl,?_⟩
 by_cases wK:x.clean=g.ep
 ·rw[dJ wK,cond_true]
  refine h none 0 0 w.drew ?_ Fr.refl
  have e:yN g x x.ps.length=[]:=by
   unfold yN j6
   rw[List.map_eq_nil_iff,List.filter_eq_nil_iff]
   intro i hi
   have hi:=List.mem_range.1 hi
   have hq:x.ps[i]? =some x.ps[i]:=List.getElem?_eq_getElem hi
   rw[YF hq,I.all wK i _ hq,bne_self_eq_false]
   decide
  rw[e]
  exact bG s0 3 1
 rw[cM wK,cond_false]
 refine ah (dz (k.cell 1 _ rfl) ?_)
 have hn:=k.row.len
 have loop:∀(j i:Nat) (oa:Option Addr) (on oc:Nat) (w1:World),i+j=r.n->on<=i->Sep No w w1 [aj oa on oc 3 1 (flat one (yN g x i))]->nj Q (j+1) (sZ r.p) oa on oc r.n i w1:=by
  intro j
  induction j with
  |zero=>
   intro i oa on oc w1 hi ho s
   show qj Q (nj Q 0) _ _ _ _ _ _ _
   unfold qj
   rw[decide_eq_false (by omega),cond_false]
   obtain rfl:i=x.ps.length:=by omega
   exact h oa on oc w1 (dY s0 s (i:=0) rfl) (au s)
  |succ j ih=>
   intro i oa on oc w1 hi ho s
   show qj Q (nj Q (j+1)) _ _ _ _ _ _ _
   unfold qj
   rw[decide_eq_true (by omega),cond_true,wrap_i64 (n:=(i:Int)+1) (by omega) (by omega)]
   have s:=ay s
   have k1:=k.fr (au s)
   have kg1:=kg.fr (au s)
   refine ah (dz (k1.cell 1 _ rfl) ?_)
   refine k1.row.El (k:=i) rfl (by omega) λp q hq wK=>?_
   have hc0:=wK 0 _ rfl
   rw[add_zero]at hc0
   refine aP hc0 (ah (dK (by have:=k1.cell 0 _ rfl;rw[add_zero]at this;exact this) ?_))
   refine ru kg1 ⟨hc0,k1.cell 1 _ rfl,?_⟩
   have hv:yI g i=gi g.vs i:=by
    have:=kg.ok.len
    unfold yI
    rw[if_pos (by omega),Int.toNat_natCast]
   rw[hv,<-YF hq]
   have hds:=aj0 (g:=g) (x:=x) (j:=i)
   cases hb:Rh x i !=gi g.vs i with
   |true=>
    rw[hb,if_pos rfl]at hds
    rw[cond_true]
    refine Ki s (by omega) λoa oc w1 s=>?_
    refine ih (i+1) oa (on+1) oc w1 (by omega) (by omega) ?_
    rw[hds]
    exact s
   |false=>
    rw[hb,if_neg (by decide),List.append_nil]at hds
    rw[cond_false]
    refine ih (i+1) oa on oc _ (by omega) (by omega) ?_
    rw[hds]
    exact s
 exact⟨r.n+1,loop r.n 0 none 0 0 w.drew (by omega) (by omega) (bG bt 3 1)⟩
def WrP {a:Option Addr}{n c i:Nat}{es:List zM}{idx:Int}{k:Nat}{q:zM}{K:World->Prop}(s:Sep F W w L)(hi:L[i]? =some (aj a n c 319 3 (flat Cp es)))(hk:idx=k)(hn:k<es.length)(h:∀w',Sep F W w' (L.set i (aj a n c 319 3 (flat Cp (es.set k q))))->K w'):
  aH idx n (wA a λp=>St ((p.add (idx.toNat*3)).add 0) (ae q.eS) w λw=>St ((p.add (idx.toNat*3)).add 1) (.slice q.na q.nn q.nc) w λw=>St ((p.add (idx.toNat*3)).add 2) (.slice q.da q.dn q.dc) w λw=>K w):=by
 have hl:es.length=n:=(aK s hi zg (by decide)).len
 subst hk
 have hg:es[k]? =some es[k]:=List.getElem?_eq_getElem hn
 generalize es[k]=e0 at hg
 refine BW s hi rfl (by omega) λg o ha=>?_
 subst ha
 have ad:∀j,(((⟨g,o,none⟩:Addr).add ((k:Int).toNat*3)).add j)=⟨g,o+(k*3+j),none⟩:=λj=>by rw[add_add,bZ,Int.toNat_natCast]
 have Ed:i<L.length:=(List.getElem?_eq_some_iff.1 hi).1
 refine dD (f:=Cp) (k:=k) (j:=0) (x:=e0) (x':=⟨q.eS,e0.na,e0.nn,e0.nc,e0.da,e0.dn,e0.dc,e0.nodes,e0.IM⟩) zg s hi hg (ad 0) (by decide) rfl rfl λw s=>?_
 refine dD (f:=Cp) (k:=k) (j:=1) (x:=⟨q.eS,e0.na,e0.nn,e0.nc,e0.da,e0.dn,e0.dc,e0.nodes,e0.IM⟩) (x':=⟨q.eS,q.na,q.nn,q.nc,e0.da,e0.dn,e0.dc,e0.nodes,e0.IM⟩) zg s (i:=i) (by rw[List.getElem?_set_self Ed]) (by rw[List.getElem?_set_self (by omega)]) (ad 1) (by decide) rfl rfl λw s=>?_
 rw[List.set_set,List.set_set]at s
 refine dD (f:=Cp) (k:=k) (j:=2) (x:=⟨q.eS,q.na,q.nn,q.nc,e0.da,e0.dn,e0.dc,e0.nodes,e0.IM⟩) (x':=q) zg s (i:=i) (by rw[List.getElem?_set_self Ed]) (by rw[List.getElem?_set_self (by omega)]) (ad 2) (by decide) rfl rfl λw s=>?_
 rw[List.set_set,List.set_set]at s
 exact h w s
def acj:Nat->Int->Int
 |0,c=>c
 |k+1,c=>acj k (Ta.sat c 1)
def U7 {Q:Int->World->Prop}(s:Sep F W w (mM gr g::qS r gr.p x::L))(I:xQ g x)
  (h:∀(x':m_) w',xQ g x'->Ml g x'->x'.clean=g.ep->x'.fA=acj (j6 g x x.ps.length).length x.fA->Sep F W w' (mM gr g::qS r gr.p x'::L)->Q ((j6 g x x.ps.length).length:Int) w'):vK (sZ r.p) w Q:=by
 refine Lv _ _ _ ?_
 refine mz ?_
 have kg:=oC s
 have Xa:=kg.ok.len
 have UZ:=(gD kg.ok.may.w kg.ok.may.h).2
 have Gb:=I.len
 refine YG s (Mj (ai s)) kg I λda dn dc w1 s _=>?_
 have hD:=(aK s (i:=0) rfl ct (by decide)).len
 have hds:(j6 g x x.ps.length).length=dn:=by rw[<-hD];unfold yN;rw[List.length_map]
 have hdi:∀i,i<dn->gi (yN g x x.ps.length) i=((j6 g x x.ps.length).getD i 0:Nat):=λi hi=>by
  unfold yN
  show List.getD _ _ _=_
  rw[List.getD_eq_getElem?_getD,List.getElem?_map,List.getD_eq_getElem?_getD,List.getElem?_eq_getElem (by omega)]
  rfl
 have hdm:∀i,i<dn->(j6 g x x.ps.length).getD i 0<x.ps.length:=λi hi=>by
  have:(j6 g x x.ps.length).getD i 0∈j6 g x x.ps.length:=by
   rw[List.getD_eq_getElem?_getD,List.getElem?_eq_getElem (by omega)]
   exact List.getElem_mem _
  exact List.mem_range.1 (List.mem_filter.1 this).1
 have hdn:dn<=x.ps.length:=by
  rw[<-hds]
  have:=List.length_filter_le (λi=>Rh x i !=gi g.vs i) (List.range x.ps.length)
  rw[List.length_range]at this
  exact this
 have loop:∀(j i:Nat) (ps:List zM) (c:Int) (w1:World),i+j=dn->ps.length=x.ps.length->Ta.U c->acj j c=acj dn x.fA->
   (∀k q,ps[k]? =some q->(k∈(j6 g x x.ps.length).take i->q.eS=gi g.vs k/\q.nodes=aR g.m k/\q.IM=jm g.m k)/\(k∉(j6 g x x.ps.length).take i->x.ps[k]? =some q))->
   Sep F W w1 (aj da dn dc 3 1 (flat one (yN g x x.ps.length))::mM gr g::av r.p 236 (Re r gr.p ⟨ps,x.clean,c⟩)::aj r.a r.n r.c 319 3 (flat Cp ps)::(ps.map aar++L))->
   lD Q (j+1) (sZ r.p) da dn dc da dn dc dn i w1:=by
  intro j
  induction j with
  |zero=>
   intro i ps c w1 hi hps hu hc hk s
   show oe Q (lD Q 0) _ _ _ _ _ _ _ _ _ _
   unfold oe
   rw[decide_eq_false (by omega),cond_false]
   have y_:=(aK s (i:=3) rfl zg (by decide)).len
   have kg:=oC (ai s)
   refine ah (PW s (i:=2) rfl rfl rfl ?_)
   refine qI kg ?_
   refine ah (ax s (i:=2) rfl rfl rfl λw1 s=>?_)
   simp only[List.set_cons_zero,List.set_cons_succ,Re]at s
   have hfull:(j6 g x x.ps.length).take i=j6 g x x.ps.length:=List.take_of_length_le (by omega)
   rw[hfull]at hk
   have fresh:∀k q,ps[k]? =some q->q.eS=gi g.vs k/\q.nodes=aR g.m k/\q.IM=jm g.m k:=λk q hq=>by
    by_cases hm:k∈j6 g x x.ps.length
    ·exact(hk k q hq).1 hm
    ·have C7:=(hk k q hq).2 hm
     have hkl:=(List.getElem?_eq_some_iff.1 C7).1
     have hv:q.eS=gi g.vs k:=by
      refine Classical.byContradiction λhne=>hm (List.mem_filter.2 ⟨List.mem_range.2 hkl,?_⟩)
      rw[YF C7,bne_iff_ne]
      exact hne
     exact⟨hv,I.ok k q C7 hv⟩
   have hlen:∀k q,ps[k]? =some q->k<g.vs.length:=λk q hq=>by
    have:=(List.getElem?_eq_some_iff.1 hq).1
    omega
   have I':xQ g ⟨ps,g.ep,c⟩:=⟨by rw[hps];exact Gb,⟨Int.le_refl _,λq hq=>by
     obtain⟨k,hk'⟩:=List.mem_iff_getElem?.1 hq
     rw[(fresh k q hk').1]
     exact(kg.ok.vs _ (fE (hlen k q hk'))).2⟩,λ_ k q hq=>(fresh k q hq).1,λk q hq _=>(fresh k q hq).2,hu⟩
   have s:=ai s
   have s:Sep F W w1 (mM gr g::(Kz r gr.p ⟨ps,g.ep,c⟩++L)):=s
   have s:Sep F W w1 (mM gr g::qS r gr.p ⟨ps,g.ep,c⟩::L):=by
    have s1:=cz s (L':=Kz r gr.p ⟨ps,g.ep,c⟩++mM gr g::L) List.perm_middle.symm
    exact cz (aas s1) (List.Perm.swap _ _ _)
   rw[<-hds]
   refine h ⟨ps,g.ep,c⟩ w1 I' (λk q hq=>(fresh k q hq).1) rfl ?_ s
   rw[hds,<-hc]
   rfl
  |succ j ih=>
   intro i ps c w1 hi hps hu hc hk s
   show oe Q (lD Q (j+1)) _ _ _ _ _ _ _ _ _ _
   unfold oe
   rw[decide_eq_true (by omega),cond_true,wrap_i64 (n:=(i:Int)+1) (by omega) (by omega)]
   refine(aK s (i:=0) rfl ct (by decide)).pJ (k:=i) rfl (by omega) ?_
   have y_:=(aK s (i:=3) rfl zg (by decide)).len
   rw[hdi i (by omega)]
   have hdk:=hdm i (by omega)
   have aiR:(j6 g x x.ps.length).take (i+1)=(j6 g x x.ps.length).take i++[(j6 g x x.ps.length).getD i 0]:=by
    rw[List.take_add_one,List.getD_eq_getElem?_getD,List.getElem?_eq_getElem (by omega)]
    rfl
   generalize hdv:(j6 g x x.ps.length).getD i 0=d at hdk aiR⊢
   have s:=ay s
   refine ah (bC s (i:=2) rfl rfl rfl ?_)
   have kg:=oC (ai s)
   have vp:dG g.m.w g.m.h d:=⟨⟨kg.ok.may.w,kg.ok.may.h⟩,by omega,by omega⟩
   refine aav s (kM s (i:=2) rfl) kg vp λna nn nc KB dn' KC w1 s _=>?_
   refine⟨cg s (i:=4) rfl rfl rfl,?_⟩
   have hv:yI g d=gi g.vs d:=by
    unfold yI
    rw[if_pos (by omega),Int.toNat_natCast]
   rw[hv]
   refine WrP (q:=⟨gi g.vs d,na,nn,nc,KB,dn',KC,aR g.m d,jm g.m d⟩) s (i:=5) rfl rfl (by omega) λw1 s=>?_
   simp only[List.cons_append,List.nil_append,List.set_cons_zero,List.set_cons_succ]at s
   refine ah (aU s (i:=4) rfl rfl rfl ?_)
   refine Ta.AO hu (by unfold Ta.U;omega) ?_
   refine ah (ax s (i:=4) rfl rfl rfl λw1 s=>?_)
   simp only[List.set_cons_zero,List.set_cons_succ,Re]at s
   refine ih (i+1) (ps.set d ⟨gi g.vs d,na,nn,nc,KB,dn',KC,aR g.m d,jm g.m d⟩) (Ta.sat c 1) w1 (by omega) (by rw[List.length_set];exact hps) (Ta.FE hu (by unfold Ta.U;omega)) hc ?_ ?_
   ·intro k q hq
    rw[aiR]
    rw[List.getElem?_set]at hq
    by_cases hkd:d=k
    ·subst hkd
     rw[if_pos rfl,if_pos (by omega)]at hq
     cases hq
     exact⟨λ_=>⟨rfl,rfl,rfl⟩,λhn=>(hn (by simp)).elim⟩
    ·rw[if_neg hkd]at hq
     refine⟨λhm=>(hk k q hq).1 ?_,λhn=>(hk k q hq).2 λhm=>hn (by simp[hm])⟩
     rcases List.mem_append.1 hm with hm|hm
     ·exact hm
     ·rw[List.mem_singleton]at hm
      exact(hkd hm.symm).elim
   ·have s1:=dX (Ps:=[aj na nn nc 3 1 (flat one (aR g.m d)),aj KB dn' KC 21 1 (flat mN (jm g.m d))]) s (φ:=True) trivial
    have s2:=Rc (i:=4+d) s1
    rw[show 4+d=d+1+1+1+1 by omega]at s2
    simp only[List.set_cons_succ]at s2
    rw[List.set_append_left _ _ (by rw[List.length_map];omega)]at s2
    rw[List.map_set]
    exact s2
 have s0:=adC (cz s (L':=qS r gr.p x::aj da dn dc 3 1 (flat one (yN g x x.ps.length))::mM gr g::L) (List.perm_middle (l₁:=[_,_])))
 have s1:=cz s0 (L':=[aj da dn dc 3 1 (flat one (yN g x x.ps.length)),mM gr g]++(Kz r gr.p x++L)) (List.perm_append_comm_assoc _ [_,_] _)
 exact⟨dn+1,loop dn 0 x.ps x.fA w1 (by omega) rfl I.u rfl (λk q hq=>⟨λhm=>by simp at hm,λ_=>hq⟩) s1⟩
def KD:zM:=⟨0,none,0,0,none,0,0,[],[]⟩
def aqU (n:Nat)(s:Sep F W w L):Sep F W w ((List.replicate n KD).map aar++L):=by
 induction n with
 |zero=>exact s
 |succ n ih=>
  have s1:=bG (bG ih 21 1) 3 1
  exact dX (Ps:=[aj none 0 0 3 1 [],aj none 0 0 21 1 []]) s1 trivial
def ack {Q:Option Addr->World->Prop}(s0:Sep F W w L)(kg:nJ w gr g)
  (h:∀r w',Sep F W w' (qS r gr.p ⟨List.replicate (d_ g.m.w g.m.h).toNat KD,0,0⟩::L)->Fr No w w'->Q (sZ r.p) w'):GG (sZ gr.p) w Q:=by
 refine abJ _ _ _ ?_
 refine mz ?_
 refine je (bt (F:=No) (w:=w)) kg λw1 s _=>?_
 refine qt ?_
 have hm:iX g.m.w g.m.h:=⟨kg.ok.may.w,kg.ok.may.h⟩
 have hc:=(gD kg.ok.may.w kg.ok.may.h)
 unfold Ym ab0
 rw[if_pos hm,if_pos hm,wrap_i64 (n:=cF g.m.w*cF g.m.h) (by show _<=d_ _ _;omega) (by show d_ _ _<_;omega)]
 refine uw (f:=Cp) (x0:=KD) (size:=3) (bytes:=56) (ln:=(d_ g.m.w g.m.h).toNat) (cn:=(d_ g.m.w g.m.h).toNat) dW s rfl rfl rfl rfl rfl rfl (by decide) zg rfl (λu hu=>amc _ u hu) (by show d_ _ _=_;omega) (by show d_ _ _=_;omega) (Nat.le_refl _) (by omega) (by simp only[maxLen];omega) λab w1 s=>?_
 refine aT s λmb w1 s=>?_
 have s1:Sep No w w1 (Kz ⟨mb,sZ ab,(d_ g.m.w g.m.h).toNat,(d_ g.m.w g.m.h).toNat⟩ gr.p ⟨List.replicate (d_ g.m.w g.m.h).toNat KD,0,0⟩++[]):=by
  have s2:=aqU (d_ g.m.w g.m.h).toNat s
  have s3:=cz s2 (List.perm_append_comm)
  rw[List.append_nil]
  exact s3
 have s2:=aas s1
 exact h ⟨mb,sZ ab,(d_ g.m.w g.m.h).toNat,(d_ g.m.w g.m.h).toNat⟩ w1 (dY s0 s2 (i:=0) rfl) (au s2)
end
end Go.Proofs.YtmegplnmiepfbaaGreatDoor.S
namespace Go.Proofs.YtmegplnmiepfbaaGreatDoor.S.Lr
open Go.Sx
structure ko where
 a:Int
 b:Int
 nw:Int
 od:Int
def Mo (ss:List ko)(i:Nat):Int:=(ss[i]?.map (·.nw)).getD 0
def Mp (ss:List ko)(i:Nat):Int:=(ss[i]?.map (·.od)).getD 0
def Gn (xs:List Nat)(n:Int):Int:=match xs with|[]=>n|x::_=>x
def Ab (xs:List Nat)(p:Int):Int:=match xs with|[]=>p|x::xs=>Ab xs x
def vr (ss:List ko)(p:Int)(xs:List Nat)(n:Int):Prop:=match xs with
 |[]=>True
 |x::xs=>Mo ss x=p/\Mp ss x=Gn xs n/\vr ss x xs n
def acm (xs ys:List Nat)(n:Int):Gn (xs++ys) n=Gn xs (Gn ys n):=by cases xs<;>rfl
def acn (xs ys:List Nat)(p:Int):Ab (xs++ys) p=Ab ys (Ab xs p):=by
 induction xs generalizing p with
 |nil=>rfl
 |cons x xs ih=>exact ih x
def aco {ss:List ko}{p n:Int}{xs ys:List Nat}:vr ss p (xs++ys) n↔vr ss p xs (Gn ys n)/\vr ss (Ab xs p) ys n:=by
 induction xs generalizing p with
 |nil=>simp[vr,Ab]
 |cons x xs ih=>
  simp only[List.cons_append,vr,ih,acm,Ab]
  exact⟨λ⟨a,b,c,d⟩=>⟨⟨a,b,c⟩,d⟩,λ⟨⟨a,b,c⟩,d⟩=>⟨a,b,c,d⟩⟩
def G3 {ss ss':List ko}{p n:Int}{xs:List Nat}(h:∀x∈xs,Mo ss' x=Mo ss x/\Mp ss' x=Mp ss x)(s:vr ss p xs n):vr ss' p xs n:=by
 induction xs generalizing p with
 |nil=>trivial
 |cons x xs ih=>
  obtain⟨h1,h2,h3⟩:=s
  obtain⟨e1,e2⟩:=h x (by simp)
  exact⟨e1.trans h1,e2.trans h2,ih (λy hy=>h y (by simp[hy])) h3⟩
def tR (ss:List ko)(i:Nat)(v:Int):List ko:=ss.modify i λs=>{s with nw:=v}
def xR (ss:List ko)(i:Nat)(v:Int):List ko:=ss.modify i λs=>{s with od:=v}
def HZ {ss:List ko}{i j:Nat}{v:Int}(h:i<ss.length):Mo (tR ss i v) j=if j=i then v else Mo ss j:=by
 unfold Mo tR
 rw[List.getElem?_modify]
 by_cases e:j=i
 ·subst e;simp[h]
 ·have e':¬i=j:=λh=>e h.symm
  simp[e,e']
def Mq {ss:List ko}{i j:Nat}{v:Int}:Mp (tR ss i v) j=Mp ss j:=by
 unfold Mp tR
 rw[List.getElem?_modify]
 cases ss[j]? with
 |none=>rfl
 |some s=>
  simp only[Option.map_eq_map,Option.map_some,Option.getD_some]
  split<;>rfl
def Mr {ss:List ko}{i j:Nat}{v:Int}(h:i<ss.length):Mp (xR ss i v) j=if j=i then v else Mp ss j:=by
 unfold Mp xR
 rw[List.getElem?_modify]
 by_cases e:j=i
 ·subst e;simp[h]
 ·have e':¬i=j:=λh=>e h.symm
  simp[e,e']
def Ms {ss:List ko}{i j:Nat}{v:Int}:Mo (xR ss i v) j=Mo ss j:=by
 unfold Mo xR
 rw[List.getElem?_modify]
 cases ss[j]? with
 |none=>rfl
 |some s=>
  simp only[Option.map_eq_map,Option.map_some,Option.getD_some]
  split<;>rfl
def amh {ss:List ko}{p n v:Int}{xs:List Nat}{y:Nat}(hy:y<ss.length)(hnd:(xs++[y]).Nodup)(s:vr ss p (xs++[y]) n):vr (xR ss y v) p (xs++[y]) v:=by
 rw[aco]at s⊢
 obtain⟨s1,h1,h2,_⟩:=s
 rw[List.nodup_append]at hnd
 refine⟨G3 (λx hx=>?_) s1,Ms.trans h1,by rw[Mr hy,if_pos rfl];rfl,trivial⟩
 exact⟨Ms,by rw[Mr hy,if_neg (hnd.2.2 x hx y (by simp))]⟩
def adE {ss:List ko}{p n v:Int}{xs:List Nat}{y:Nat}(hy:y<ss.length)(hnd:(y::xs).Nodup)(s:vr ss p (y::xs) n):vr (tR ss y v) v (y::xs) n:=by
 obtain⟨h1,h2,h3⟩:=s
 rw[List.nodup_cons]at hnd
 refine⟨by rw[HZ hy,if_pos rfl],Mq.trans h2,G3 (λx hx=>⟨?_,Mq⟩) h3⟩
 rw[HZ hy,if_neg (λe:x=y=>hnd.1 (by rw[<-e];exact hx))]
def VV {ss:List ko}{p n v:Int}{xs:List Nat}{y:Nat}(hy:y<ss.length)(hx:y∉xs)(s:vr ss p xs n):vr (xR ss y v) p xs n/\vr (tR ss y v) p xs n:=
 ⟨G3 (λx h=>⟨Ms,by rw[Mr hy,if_neg (λe:x=y=>hx (by rw[<-e];exact h))]⟩) s,G3 (λx h=>⟨by rw[HZ hy,if_neg (λe:x=y=>hx (by rw[<-e];exact h))],Mq⟩) s⟩
def YH (xs:List Nat)(y:Nat)(p:Int):Ab (xs++[y]) p=y:=by rw[acn];rfl
abbrev KS:=List ((Int×Int)×Nat)
def VW (l:KS)(key:Int×Int):Int:=match l.find? (λp=>decide (p.1=key))with|some p=>p.2|none=>-1
def ku (k:Int)(l:KS)(key:Int×Int):(Int×Bool×Bool)×KS:=match l.find? (λp=>decide (p.1=key))with
 |some p=>((p.2,true,false),(key,p.2)::l.filter (λq=>!decide (q.1=key)))
 |none=>if(l.length:Int)<k then((l.length,false,false),(key,l.length)::l)else match l.getLast? with
  |some p=>((p.2,false,true),(key,p.2)::l.dropLast)
  |none=>((-1,false,true),l)
structure Good (k:Int) (l:KS):Prop where
 room:(l.length:Int)<=k
 nd:(l.map (·.2)).Nodup
 lt:∀p∈l,p.2<l.length
 ED:(l.map (·.1)).Nodup
def KH {k:Int}(h:0<=k):Good k []:=⟨h,.nil,by simp,.nil⟩
def Ri {l:KS}(h:(l.map (·.1)).Nodup){p q:(Int×Int)×Nat}(hp:p∈l)(hq:q∈l)(e:p.1=q.1):p=q:=by
 induction l with
 |nil=>cases hp
 |cons x l ih=>
  rw[List.map_cons,List.nodup_cons]at h
  rcases List.mem_cons.1 hp with e1|hp'<;>rcases List.mem_cons.1 hq with e2|C7
  ·rw[e1,e2]
  ·exact(h.1 (List.mem_map.2 ⟨q,C7,by rw[<-e,e1]⟩)).elim
  ·exact(h.1 (List.mem_map.2 ⟨p,hp',by rw[e,e2]⟩)).elim
  ·exact ih h.2 hp' C7
def Mt {l:KS}{key:Int×Int}{p:(Int×Int)×Nat}(h:l.find? (λp=>decide (p.1=key))=some p):p.1=key/\p∈l:=by
 have:=List.find?_some h
 exact⟨of_decide_eq_true this,List.mem_of_find?_eq_some h⟩
def Mu {l:KS}{key:Int×Int}(h:l.find? (λp=>decide (p.1=key))=none):∀p∈l,p.1≠key:=λp hp e=>by
 have:=List.find?_eq_none.1 h p hp
 simp[e]at this
def Xd {l:KS}(hnd:(l.map (·.1)).Nodup){p:(Int×Int)×Nat}(hp:p∈l):l.find? (λq=>decide (q.1=p.1))=some p:=by
 cases h:l.find? (λq=>decide (q.1=p.1))with
 |none=>exact(Mu h p hp rfl).elim
 |some q=>
  obtain⟨h1,h2⟩:=Mt h
  rw[Ri hnd h2 hp h1]
def YI {l:KS}(hnd:(l.map (·.1)).Nodup){p:(Int×Int)×Nat}(hp:p∈l):∃pre post,l=pre++p::post/\l.filter (λq=>!decide (q.1=p.1))=pre++post:=by
 obtain⟨pre,post,rfl⟩:=List.append_of_mem hp
 refine⟨pre,post,rfl,?_⟩
 rw[List.map_append,List.map_cons,List.nodup_append,List.nodup_cons]at hnd
 rw[List.filter_append,List.filter_cons_of_neg (by simp),List.filter_eq_self.2,List.filter_eq_self.2]
 ·intro q hq
  have:q.1≠p.1:=λe=>hnd.2.1.1 (List.mem_map.2 ⟨q,hq,e⟩)
  simp[this]
 ·intro q hq
  have:q.1≠p.1:=λe=>hnd.2.2 q.1 (List.mem_map.2 ⟨q,hq,rfl⟩) p.1 (by simp) e
  simp[this]
def VX {l:KS}(hnd:(l.map (·.1)).Nodup){p:(Int×Int)×Nat}(hp:p∈l)(k:Int×Int)(n:Nat):((k,n)::l.filter (λq=>!decide (q.1=p.1))).length=l.length:=by
 obtain⟨pre,post,e1,e2⟩:=YI hnd hp
 rw[e2,e1]
 simp only[List.length_cons,List.length_append]
 omega
def YJ {k:Int}{l:KS}{key:Int×Int}(hk:1<=k)(h:Good k l):Good k (ku k l key).2:=by
 unfold ku
 cases hf:l.find? (λp=>decide (p.1=key))with
 |some p=>
  obtain⟨rfl,hp⟩:=Mt hf
  obtain⟨pre,post,e1,e2⟩:=YI h.ED hp
  simp only
  rw[e2]
  have Nt:List.Perm ((p.1,p.2)::(pre++post)) l:=by rw[e1];exact List.perm_middle.symm
  have hlen:=Nt.length_eq
  exact⟨by rw[hlen];exact h.room,(Nt.map (·.2)).nodup_iff.2 h.nd,λq hq=>by rw[hlen];exact h.lt q (Nt.mem_iff.1 hq),(Nt.map (·.1)).nodup_iff.2 h.ED⟩
 |none=>
  have hn:=Mu hf
  simp only
  by_cases hroom:(l.length:Int)<k
  ·rw[if_pos hroom]
   refine⟨by simp only[List.length_cons];omega,?_,λq hq=>?_,?_⟩
   ·simp only[List.map_cons,List.nodup_cons]
    refine⟨λhm=>?_,h.nd⟩
    obtain⟨q,hq,e⟩:=List.mem_map.1 hm
    have:=h.lt q hq
    omega
   ·simp only[List.length_cons]
    rcases List.mem_cons.1 hq with rfl|hq
    ·simp
    ·have:=h.lt q hq;omega
   ·simp only[List.map_cons,List.nodup_cons]
    refine⟨λhm=>?_,h.ED⟩
    obtain⟨q,hq,e⟩:=List.mem_map.1 hm
    exact hn q hq e
  ·rw[if_neg hroom]
   cases hl:l.getLast? with
   |none=>exact h
   |some p=>
    simp only
    obtain⟨ys,rfl⟩:=List.getLast?_eq_some_iff.1 hl
    rw[List.dropLast_concat]
    have e1:(ys++[p]).length=((key,p.2)::ys).length:=by simp
    have Nt:List.Perm (((key,p.2)::ys).map (·.2)) ((ys++[p]).map (·.2)):=by
     rw[List.map_cons,List.map_append];exact(List.perm_append_singleton _ _).symm
    refine⟨by rw[<-e1];exact h.room,Nt.nodup_iff.2 h.nd,λq hq=>?_,?_⟩
    ·rw[<-e1]
     rcases List.mem_cons.1 hq with rfl|hq
     ·exact h.lt p (by simp)
     ·exact h.lt q (by simp[hq])
    ·simp only[List.map_cons,List.nodup_cons]
     have:=h.ED
     rw[List.map_append,List.nodup_append]at this
     refine⟨λhm=>?_,this.1⟩
     obtain⟨q,hq,e⟩:=List.mem_map.1 hm
     exact hn q (by simp[hq]) e
def dW:vY P T:=DF P rows GD
def ah9:zc T 334=[ae 0,ae 0,ae 0,ae 0]:=rfl
def aj1:zc T 253=[ae 0,ae 0]:=rfl
attribute [local irreducible] af cw bq bg aC cf bX St Bx Al App cA cq cm bT aI bw aq bR av aj aV mapA
def tS (s:ko):List Value:=[ae s.a,ae s.b,ae s.nw,ae s.od]
def kN (s:ko):(tS s).length=4:=rfl
def ami (v:ko)(u:Value)(h:u∈tS v):u.oneCell'=true:=by
 simp only[tS,List.mem_cons,List.not_mem_nil,or_false]at h
 rcases h with rfl|rfl|rfl|rfl<;>rfl
def agH {ss:List ko}{i:Nat}{x:ko}{v:Int}(h:ss[i]? =some x):ss.set i {x with nw:=v}=tR ss i v:=by
 apply List.ext_getElem?
 intro j
 unfold tR
 rw[List.getElem?_modify,List.getElem?_set]
 by_cases e:i=j
 ·subst e
  rw[if_pos rfl,if_pos (List.getElem?_eq_some_iff.1 h).1,h]
  simp
 ·rw[if_neg e];simp[e]
def amj {ss:List ko}{i:Nat}{x:ko}{v:Int}(h:ss[i]? =some x):ss.set i {x with od:=v}=xR ss i v:=by
 apply List.ext_getElem?
 intro j
 unfold xR
 rw[List.getElem?_modify,List.getElem?_set]
 by_cases e:i=j
 ·subst e
  rw[if_pos rfl,if_pos (List.getElem?_eq_some_iff.1 h).1,h]
  simp
 ·rw[if_neg e];simp[e]
def AQ (ss ss':List ko):Prop:=ss'.length=ss.length/\∀i:Nat,(ss'[i]?.map λs=>(s.a,s.b))=ss[i]?.map λs=>(s.a,s.b)
def AQ.refl {ss:List ko}:AQ ss ss:=⟨rfl,λ_=>rfl⟩
def AQ.trans {a b c:List ko}(h:AQ a b)(k:AQ b c):AQ a c:=⟨k.1.trans h.1,λi=>(k.2 i).trans (h.2 i)⟩
def Hr {ss:List ko}{i:Nat}{v:Int}:AQ ss (tR ss i v):=by
 refine⟨by simp[tR],λj=>?_⟩
 unfold tR
 rw[List.getElem?_modify]
 cases ss[j]? with
 |none=>rfl
 |some s=>
  simp only[Option.map_eq_map,Option.map_some]
  split<;>rfl
def Xe {ss:List ko}{i:Nat}{v:Int}:AQ ss (xR ss i v):=by
 refine⟨by simp[xR],λj=>?_⟩
 unfold xR
 rw[List.getElem?_modify]
 cases ss[j]? with
 |none=>rfl
 |some s=>
  simp only[Option.map_eq_map,Option.map_some]
  split<;>rfl
def Pt {ss:List ko}{i:Nat}(h:i<ss.length):∃s,ss[i]? =some s/\s.nw=Mo ss i/\s.od=Mp ss i:=by
 refine⟨ss[i],List.getElem?_eq_getElem h,?_,?_⟩
 ·simp[Mo,h]
 ·simp[Mp,h]
section
variable {F:Nat->Prop}{W w:World}{L:List As}{p:Nat}{sa:Option Addr}{sn sc:Nat}{ss:List ko}{kv mv:Value}{nw od:Int}{Q:World->Prop}
def adF {sb:Nat}{x a b:Int}{pre post:List Nat}{y:Nat}(hs:∀i∈pre++y::post,i<sn)(hnd:(pre++y::post).Nodup)(h1:vr ss (-1) pre (Gn post (-1)))(h2:vr ss y post (-1))
  (KI:od=Ab (pre++y::post) (-1))
  (s:Sep F W w (av sb 334 [ae a,ae b,ae (Ab pre (-1)),ae (Gn post (-1))]::av p 182 [kv,.slice sa sn sc,mv,ae nw,ae od]::aj sa sn sc 334 4 (flat tS ss)::L))
  (h:∀ss' w',AQ ss ss'->vr ss' (-1) (pre++post) (-1)->Sep F W w' (av p 182 [kv,.slice sa sn sc,mv,ae nw,ae (Ab (pre++post) (-1))]::aj sa sn sc 334 4 (flat tS ss')::L)->Q w'):
  rq Q (sZ p) (aZ sb) w:=by
 unfold rq
 have hl:=qL s (i:=2) rfl
 rw[iF kN]at hl
 have hl:ss.length=sn:=by omega
 rw[acn]at KI
 cases post with
 |nil=>
  refine aU s (i:=0) rfl rfl rfl ?_
  rw[show((Gn [] (-1):Int)==-1)=true from rfl,cond_true]
  refine aU s (i:=0) rfl rfl rfl ?_
  refine ah ?_
  refine ax s (i:=1) rfl rfl rfl λw s=>?_
  simp only[List.set_cons_zero,List.set_cons_succ]at s
  refine h ss _ AQ.refl ?_ ?_
  ·rw[List.append_nil];exact h1
  ·rw[List.append_nil];exact ai s
 |cons z post=>
  have hz:z<sn:=hs z (by simp)
  refine aU s (i:=0) rfl rfl rfl ?_
  rw[show((Gn (z::post) (-1):Int)==-1)=false by rw[beq_eq_false_iff_ne];show(z:Int)≠-1;omega,cond_false]
  refine ah ?_
  have s:=ay s
  refine bC s (i:=1) rfl rfl rfl ?_
  refine aU s (i:=0) rfl rfl rfl ?_
  refine aU s (i:=0) rfl rfl rfl ?_
  obtain⟨x,hx,LS,HB⟩:=Pt (ss:=ss) (i:=z) (by omega)
  refine BW s (i:=2) (k:=z) rfl rfl hz λg o e=>?_
  subst e
  refine dD (i:=2) (x':={x with nw:=Ab pre (-1)}) kN s rfl hx (dN _ _ _ _ _) (by decide) rfl rfl λw s=>?_
  simp only[List.set_cons_zero,List.set_cons_succ]at s
  rw[agH hx]at s
  refine h (tR ss z (Ab pre (-1))) _ Hr ?_ ?_
  ·rw[aco]
   have hn2:=(List.nodup_append.1 hnd).2.1
   rw[List.nodup_cons]at hn2
   refine⟨(VV (v:=Ab pre (-1)) (by omega) (λhm=>?_) h1).2,adE (by omega) hn2.2 h2⟩
   exact(List.nodup_append.1 hnd).2.2 z hm z (by simp) rfl
  ·rw[acn]
   have:od=Ab (z::post) (Ab pre (-1)):=KI
   rw[<-this]
   exact ai s
def U8 {pre post:List Nat}{y:Nat}(hs:∀i∈pre++y::post,i<sn)(hnd:(pre++y::post).Nodup)(IN:vr ss (-1) (pre++y::post) (-1))(Sc:nw=Gn (pre++y::post) (-1))(KI:od=Ab (pre++y::post) (-1))
  (s:Sep F W w (av p 182 [kv,.slice sa sn sc,mv,ae nw,ae od]::aj sa sn sc 334 4 (flat tS ss)::L))
  (h:∀ss' w',AQ ss ss'->vr ss' (-1) (pre++post) (-1)->Sep F W w' (av p 182 [kv,.slice sa sn sc,mv,ae (Gn (pre++post) (-1)),ae (Ab (pre++post) (-1))]::aj sa sn sc 334 4 (flat tS ss')::L)->Q w'):
  tE (sZ p) y w Q:=by
 refine QL _ _ _ _ ?_
 have hl:=qL s (i:=1) rfl
 rw[iF kN]at hl
 have hl:ss.length=sn:=by omega
 have hy:y<sn:=hs y (by simp)
 obtain⟨x,hx,LS,HB⟩:=Pt (ss:=ss) (i:=y) (by omega)
 rw[aco]at IN
 obtain⟨h1,h2,h3,h4⟩:=IN
 have h1:vr ss (-1) pre y:=h1
 rw[h2]at LS
 rw[h3]at HB
 refine ah ?_
 refine bC s (i:=0) rfl rfl rfl ?_
 refine BW s (i:=1) (k:=y) rfl rfl hy λg o e=>?_
 subst e
 refine eA (i:=1) kN s rfl hx (dN _ _ _ _ _) rfl ?_
 refine eA (i:=1) kN s rfl hx (dN _ _ _ _ _) rfl ?_
 refine eA (i:=1) kN s rfl hx (dN _ _ _ _ _) rfl ?_
 refine eA (i:=1) kN s rfl hx (dN _ _ _ _ _) rfl ?_
 rw[LS,HB]
 refine a_ s λsb w s=>?_
 simp only[ah9]at s
 refine ax s (i:=0) rfl rfl rfl λw s=>?_
 refine ax s (i:=0) rfl rfl rfl λw s=>?_
 refine ax s (i:=0) rfl rfl rfl λw s=>?_
 refine ax s (i:=0) rfl rfl rfl λw s=>?_
 simp only[List.set_cons_zero,List.set_cons_succ]at s
 refine aU s (i:=0) rfl rfl rfl ?_
 rcases List.eq_nil_or_concat pre with rfl|⟨pre',u,rfl⟩
 ·rw[show((Ab [] (-1):Int)==-1)=true from rfl,cond_true]
  refine aU s (i:=0) rfl rfl rfl ?_
  refine ah ?_
  refine ax s (i:=1) rfl rfl rfl λw s=>?_
  simp only[List.set_cons_zero,List.set_cons_succ]at s
  exact adF (x:=0) hs hnd trivial h4 KI s λss' w' k1 k2 s=>h ss' w' k1 k2 s
 ·simp only[List.concat_eq_append]at*
  have hu:u<sn:=hs u (by simp)
  rw[YH]at s⊢
  rw[show((u:Int)==-1)=false by rw[beq_eq_false_iff_ne];omega,cond_false]
  refine ah ?_
  have s:=ay s
  refine bC s (i:=1) rfl rfl rfl ?_
  refine aU s (i:=0) rfl rfl rfl ?_
  refine aU s (i:=0) rfl rfl rfl ?_
  obtain⟨z,hz,hz1,hz2⟩:=Pt (ss:=ss) (i:=u) (by omega)
  refine BW s (i:=2) (k:=u) rfl rfl hu λg' o' e=>?_
  cases e
  refine dD (i:=2) (x':={z with od:=Gn post (-1)}) kN s rfl hz (dN _ _ _ _ _) (by decide) rfl rfl λw s=>?_
  simp only[List.set_cons_zero,List.set_cons_succ]at s
  rw[amj hz]at s
  have avV:=(List.nodup_append.1 hnd).1
  have avW:=(List.nodup_append.1 hnd).2
  refine adF (x:=0) (y:=y) (pre:=pre'++[u]) (post:=post) hs hnd (amh (by omega) avV h1) ((VV (by omega) (λhm=>avW.2 u (by simp) u (by simp[hm]) rfl) h4).1) KI (by rw[YH];exact s) λss' w' k1 k2 s=>h ss' w' (Xe.trans k1) k2 ?_
  have e:Gn (pre'++[u]++post) (-1)=nw:=by rw[Sc,acm,acm (pre'++[u])];cases pre'<;>rfl
  rw[e]
  exact s
def aiS {y:Nat}(s:Sep F W w (av p 182 [kv,.slice sa sn sc,mv,ae nw,ae od]::aj sa sn sc 334 4 (flat tS ss)::L))
  (h:∀w',Sep F W w' (av p 182 [kv,.slice sa sn sc,mv,ae y,ae od]::aj sa sn sc 334 4 (flat tS ss)::L)->Q w'):uJ Q (sZ p) y w:=by
 unfold uJ
 refine ah ?_
 refine ax s (i:=0) rfl rfl rfl λw s=>?_
 simp only[List.set_cons_zero,List.set_cons_succ]at s
 exact h _ s
def aj2 {xs:List Nat}{y:Nat}(hy:y<sn)(hs:∀i∈xs,i<sn)(hnd:(y::xs).Nodup)(IN:vr ss (-1) xs (-1))(Sc:nw=Gn xs (-1))(KI:od=Ab xs (-1))
  (s:Sep F W w (av p 182 [kv,.slice sa sn sc,mv,ae nw,ae od]::aj sa sn sc 334 4 (flat tS ss)::L))
  (h:∀ss' w',AQ ss ss'->vr ss' (-1) (y::xs) (-1)->Sep F W w' (av p 182 [kv,.slice sa sn sc,mv,ae (Gn (y::xs) (-1)),ae (Ab (y::xs) (-1))]::aj sa sn sc 334 4 (flat tS ss')::L)->Q w'):
  wo (sZ p) y w Q:=by
 refine Uz _ _ _ _ ?_
 have hl:=qL s (i:=1) rfl
 rw[iF kN]at hl
 have hl:ss.length=sn:=by omega
 obtain⟨x,hx,LS,HB⟩:=Pt (ss:=ss) (i:=y) (by omega)
 rw[List.nodup_cons]at hnd
 have s:=ay s
 refine ah ?_
 refine bC s (i:=0) rfl rfl rfl ?_
 refine ah ?_
 refine bC s (i:=0) rfl rfl rfl ?_
 refine ah ?_
 refine aU s (i:=0) rfl rfl rfl ?_
 refine BW s (i:=1) (k:=y) rfl rfl hy λg o e=>?_
 subst e
 refine dD (i:=1) (x':={x with nw:=-1}) kN s rfl hx (dN _ _ _ _ _) (by decide) rfl rfl λw s=>?_
 refine⟨by omega,by omega,ah ?_⟩
 have hx':(ss.set y {x with nw:=-1})[y]? =some {x with nw:=-1}:=List.getElem?_set_self (by omega)
 refine dD (i:=1) (x':={x with nw:=-1,od:=nw}) kN s rfl hx' (dN _ _ _ _ _) (by decide) rfl rfl λw s=>?_
 simp only[List.set_cons_zero,List.set_cons_succ]at s
 rw[agH hx]at hx' s
 rw[show({x with nw:=-1,od:=nw}:ko)={({x with nw:=-1}:ko)with od:=nw}from rfl,amj hx']at s
 have RZ:(tR ss y (-1)).length=ss.length:=Hr.1
 have asH:vr (xR (tR ss y (-1)) y nw) (-1) xs (-1):=(VV (by omega) hnd.1 (VV (by omega) hnd.1 IN).2).1
 have n2:Mo (xR (tR ss y (-1)) y nw) y=-1:=by rw[Ms,HZ (by omega),if_pos rfl]
 have o2:Mp (xR (tR ss y (-1)) y nw) y=nw:=by rw[Mr (by omega),if_pos rfl]
 have k2:AQ ss (xR (tR ss y (-1)) y nw):=Hr.trans Xe
 generalize xR (tR ss y (-1)) y nw=ss2 at s asH n2 o2 k2
 have hl3:=k2.1
 refine ah ?_
 refine aU s (i:=0) rfl rfl rfl ?_
 cases xs with
 |nil=>
  have e:nw=-1:=Sc
  subst e
  rw[show((-1:Int)==-1)=true from rfl,cond_true]
  refine ah ?_
  refine ax s (i:=0) rfl rfl rfl λw s=>?_
  simp only[List.set_cons_zero,List.set_cons_succ]at s
  refine aiS s λw s=>h _ _ k2 ⟨n2,o2,trivial⟩ s
 |cons z xs=>
  have e:nw=(z:Int):=Sc
  subst e
  have hz:z<sn:=hs z (by simp)
  rw[show((z:Int)==-1)=false by rw[beq_eq_false_iff_ne];omega,cond_false]
  have s:=ay s
  refine ah ?_
  refine bC s (i:=0) rfl rfl rfl ?_
  refine ah ?_
  refine aU s (i:=0) rfl rfl rfl ?_
  obtain⟨u,hu,_,_⟩:=Pt (ss:=ss2) (i:=z) (by omega)
  refine⟨by omega,by omega,ah ?_⟩
  refine dD (i:=1) (x':={u with nw:=(y:Int)}) kN s rfl hu (dN _ _ _ _ _) (by decide) rfl rfl λw s=>?_
  simp only[List.set_cons_zero,List.set_cons_succ]at s
  rw[agH hu]at s
  have hne:y≠z:=λe=>hnd.1 (by simp[e])
  refine aiS s λw s=>h (tR ss2 z (y:Int)) _ (k2.trans Hr) ⟨?_,?_,?_⟩ ?_
  ·rw[HZ (by omega),if_neg hne];exact n2
  ·rw[Mq];exact o2
  ·exact adE (by omega) hnd.2 asH
  ·have e2:Ab (y::z::xs) (-1)=od:=by rw[KI];rfl
   rw[e2]
   exact s
end
end Go.Proofs.YtmegplnmiepfbaaGreatDoor.S.Lr
namespace Go.Proofs.YtmegplnmiepfbaaGreatDoor.S.Lr
open Go.Sx
open Go.Maps (Keyed)
open Go.WideMaps (ArrKey keyOf_pair)
def amk:ArrKey P 253 3 2:=⟨by kernel_rfl,by kernel_rfl,by kernel_rfl,by kernel_rfl⟩
def kp:Keyed P 253:=Keyed.of_law amk.law
def aox:P.underlying 180=some (.map 253 3):=by kernel_rfl
set_option maxRecDepth 100000 in
theorem apU (w:World):(zeroValue 3).run P w=.ok (ae 0) w:=rfl
def aoy:∃m,P.types.size=m+1:=⟨P.types.size-1,by have h:0<P.types.size:=of_decide_eq_true (by kernel_rfl);omega⟩
def Xf (k:Int×Int):Prop:=(Lit.int .i64 k.1).wf=true/\(Lit.int .i64 k.2).wf=true
def Rj (k:Int×Int):Value:=.agg #[ae k.1,ae k.2]
def KJ {a b:Int×Int}(h:Rj a=Rj b):a=b:=by
 obtain⟨a1,a2⟩:=a
 obtain⟨b1,b2⟩:=b
 simp[Rj]at h
 rw[h.1,h.2]
def VY {k:Int×Int}(h:Xf k):∃l,keyOf P 253 (Rj k)=some l:=⟨_,keyOf_pair amk (by kernel_rfl) aoy h.1 h.2⟩
attribute [local irreducible] af cw bq bg aC cf bX St Bx Al App cA cq cm bT aI bw aq bR av aj aV mapA
def Sd (p:(Int×Int)×Nat):Value×Value:=(Rj p.1,ae p.2)
structure acp where
 sa:Option Addr
 sn:Nat
 sc:Nat
 mb:Nat
 ss:List ko
 m:List (Value×Value)
 nw:Int
 od:Int
structure aj3 (k:Int) (l:KS) (r:acp):Prop where
 hk:1<=k
 good:Good k l
 sn:r.sn=l.length
 nw:r.nw=Gn (l.map (·.2)) (-1)
 od:r.od=Ab (l.map (·.2)) (-1)
 seg:vr r.ss (-1) (l.map (·.2)) (-1)
 key:∀p∈l,r.ss[p.2]?.map (λs=>(s.a,s.b))=some p.1
 perm:r.m.Perm (l.map Sd)
 wf:∀p∈l,Xf p.1
noncomputable def VZ (p:Nat)(k:Int)(r:acp):List As:=[av p 182 [ae k,.slice r.sa r.sn r.sc,.map (some r.mb),ae r.nw,ae r.od],aj r.sa r.sn r.sc 334 4 (flat tS r.ss),mapA P 253 r.mb r.m]
noncomputable def D3 (p:Nat)(k:Int)(l:KS)(r:acp):As:=aV (aj3 k l r) (VZ p k r)
section
variable {F:Nat->Prop}{W w:World}{L:List As}{p:Nat}{k:Int}{l:KS}{r:acp}
def YK (s:Sep F W w (D3 p k l r::L)):aj3 k l r/\Sep F W w (VZ p k r++L):=iW s
def adG (s:Sep F W w (VZ p k r++L))(h:aj3 k l r):Sep F W w (D3 p k l r::L):=dX s h
def Xg {Q:World->Prop}{v1 v2 v3 v4:Value}(hk:1<=k)(s:Sep F W w (av p 182 [ae k,v1,v2,v3,v4]::L))(h:∀r w',Sep F W w' (D3 p k [] r::L)->Q w'):uS (sZ p) w Q:=by
 refine SQ _ _ _ ?_
 refine afF s P 253 180 λmb w s=>?_
 refine ah ?_
 refine ax s (i:=1) rfl rfl rfl λw s=>?_
 refine ah ?_
 refine ax s (i:=1) rfl rfl rfl λw s=>?_
 refine ah ?_
 refine ax s (i:=1) rfl rfl rfl λw s=>?_
 refine ah ?_
 refine ax s (i:=1) rfl rfl rfl λw s=>?_
 simp only[List.set_cons_zero,List.set_cons_succ]at s
 have s:=cz (bG s 334 4) (List.Perm.trans (List.Perm.cons _ (List.Perm.swap ..)) (List.Perm.trans (List.Perm.swap ..) (List.Perm.refl _)))
 exact h ⟨none,0,0,mb,[],[],-1,-1⟩ w (adG s ⟨hk,KH (by omega),rfl,rfl,rfl,trivial,(λp hp=>by cases hp),List.Perm.nil,(λp hp=>by cases hp)⟩)
def aml {Q:Option Addr->World->Prop}(s:Sep F W w L)(hno:k<1->Q none w)(h:1<=k->∀p r w',Sep F W w' (D3 p k [] r::L)->Q (sZ p) w'):Ip k w Q:=by
 refine aep _ _ _ ?_
 by_cases hk:k<1
 ·rw[decide_eq_true hk,cond_true]
  exact hno hk
 ·rw[decide_eq_false hk,cond_false]
  refine aT s λp w s=>?_
  exact Xg (by omega) s λr w s=>h (by omega) p r w s
def look {K:Value->World->Prop}{key:Int×Int}(s:Sep F W w (VZ p k r++L))(hI:aj3 k l r)(hkey:Xf key)(h0:l.find? (λp=>decide (p.1=key))=none->K (.tuple #[ae 0,.bool false]) w)
  (h1:∀q,l.find? (λp=>decide (p.1=key))=some q->K (.tuple #[ae q.2,.bool true]) w):aI P (Instr.lookup 180 (.map (some r.mb)) (.agg #[ae key.1,ae key.2]) true) w K:=by
 refine ade (c:=true) kp aox (apU w) s (i:=2) rfl (VY hkey) (λh=>?_) (λj v hj=>?_)
 ·refine h0 (List.find?_eq_none.2 λq hq=>?_)
  have:=h (Sd q) (hI.perm.mem_iff.2 (List.mem_map.2 ⟨q,hq,rfl⟩))
  simp only[decide_eq_true_eq]
  exact λe=>this (by rw[<-e];rfl)
 ·have hm:=hI.perm.mem_iff.1 (List.mem_of_getElem? hj)
  obtain⟨q,hq,e⟩:=List.mem_map.1 hm
  have e1:Rj q.1=Rj key:=congrArg Prod.fst e
  have e2:Value.int .i64 (q.2:Int)=v:=congrArg Prod.snd e
  have e1:=KJ e1
  subst e1 e2
  exact h1 q (Xd hI.good.ED hq)
def aj4 (k:Int×Int):List Value:=[ae k.1,ae k.2]
end
end Go.Proofs.YtmegplnmiepfbaaGreatDoor.S.Lr
namespace Go.Proofs.YtmegplnmiepfbaaGreatDoor.S.Lr
open Go.Sx
open Go.Maps (Keyed)
attribute [local irreducible] af cw bq bg aC cf bX St Bx Al App cA cq cm bT aI bw aq bR av aj aV mapA
def Rk {ss ss':List ko}(h:AQ ss ss'){l:KS}(hk:∀p∈l,ss[p.2]?.map (λs=>(s.a,s.b))=some p.1):∀p∈l,ss'[p.2]?.map (λs=>(s.a,s.b))=some p.1:=λp hp=>(h.2 p.2).trans (hk p hp)
def aoz {ss:List ko}{x:ko}{p n:Int}{xs:List Nat}(h:∀i∈xs,i<ss.length)(s:vr ss p xs n):vr (ss++[x]) p xs n:=by
 refine G3 (λi hi=>?_) s
 have:=h i hi
 simp[Mo,Mp,List.getElem?_append_left this]
def aqV {ss:List ko}{i:Nat}{x:ko}{a b:Int}{p n:Int}{xs:List Nat}(hx:ss[i]? =some x)(s:vr ss p xs n):vr (ss.set i {x with a:=a,b:=b}) p xs n:=by
 refine G3 (λj hj=>?_) s
 unfold Mo Mp
 rw[List.getElem?_set]
 split
 ·rename_i e
  subst e
  rw[if_pos (List.getElem?_eq_some_iff.1 hx).1,hx]
  exact⟨rfl,rfl⟩
 ·exact⟨rfl,rfl⟩
def aqW {m:List (Value×Value)}{ys:KS}{q:(Int×Int)×Nat}{j:Nat}{v:Value}(hm:m.Perm ((ys++[q]).map Sd))(hj:m[j]? =some (Rj q.1,v))(hnd:((ys++[q]).map (·.1)).Nodup):(m.eraseIdx j).Perm (ys.map Sd):=by
 have hmem:=hm.mem_iff.1 (List.mem_of_getElem? hj)
 obtain⟨q',C7,e⟩:=List.mem_map.1 hmem
 have e1:q'.1=q.1:=KJ (congrArg Prod.fst e)
 have e2:=Ri hnd C7 (by simp) e1
 subst e2
 obtain⟨TJ,hje⟩:=List.getElem?_eq_some_iff.1 hj
 have h1:m.Perm (Sd q'::m.eraseIdx j):=by
  rw[e,<-hje]
  have e3:m=m.take j++m[j]::m.drop (j+1):=by rw[List.getElem_cons_drop,List.take_append_drop]
  rw[List.eraseIdx_eq_take_drop_succ]
  exact(List.Perm.of_eq e3).trans List.perm_middle
 rw[List.map_append,List.map_singleton]at hm
 exact List.Perm.cons_inv (h1.symm.trans (hm.trans (List.perm_append_singleton _ _)))
section
variable {F:Nat->Prop}{W w:World}{L:List As}{p:Nat}{k:Int}{l:KS}
def acq {Q:Int->Bool->Bool->World->Prop}{kb:Nat}{key:Int×Int}{slot:Nat}{had out:Bool}{rest:KS}{sa:Option Addr}{sn sc mb:Nat}{ss:List ko}{m:List (Value×Value)}{nw od:Int}
  (hk:1<=k)(hg:Good k ((key,slot)::rest))(Kr:sn=rest.length+1)(IN:vr ss (-1) (rest.map (·.2)) (-1))(Sc:nw=Gn (rest.map (·.2)) (-1))(KI:od=Ab (rest.map (·.2)) (-1))
  (hkeys:∀q∈(key,slot)::rest,ss[q.2]?.map (λs=>(s.a,s.b))=some q.1)(hm:m.Perm (((key,slot)::rest).map Sd)\/m.Perm (rest.map Sd))(hwf:∀q∈(key,slot)::rest,Xf q.1)
  (s:Sep F W w (av kb 253 (aj4 key)::av p 182 [ae k,.slice sa sn sc,.map (some mb),ae nw,ae od]::aj sa sn sc 334 4 (flat tS ss)::mapA P 253 mb m::L))
  (h:∀r' w',Sep F W w' (D3 p k ((key,slot)::rest) r'::L)->Q slot had out w'):l6 Q (sZ p) slot had out (aZ kb) w:=by
 unfold l6
 have s:=ay s
 refine ah ?_
 refine GB s (i:=1) rfl rfl rfl ?_
 refine aU s (i:=0) rfl rfl rfl ?_
 refine aU s (i:=0) rfl rfl rfl ?_
 have hlen:((key,slot)::rest).length=sn:=by rw[Kr];rfl
 have fin:∀(m':List (Value×Value)) (w:World),m'.Perm (((key,slot)::rest).map Sd)->Sep F W w (av kb 253 (aj4 key)::av p 182 [ae k,.slice sa sn sc,.map (some mb),ae nw,ae od]::aj sa sn sc 334 4 (flat tS ss)::mapA P 253 mb m'::L)->
   wo (sZ p) slot w λavX=>Q slot had out avX:=by
  intro m' w hm' s
  have hnd:(slot::rest.map (·.2)).Nodup:=hg.nd
  refine aj2 (by have:=hg.lt (key,slot) (by simp);omega) (λi hi=>?_) hnd IN Sc KI (ai s) λss' w hK hS s=>?_
  ·obtain⟨q,hq,rfl⟩:=List.mem_map.1 hi
   have:=hg.lt q (by simp[hq])
   omega
  ·exact h ⟨sa,sn,sc,mb,ss',m',_,_⟩ w (adG s ⟨hk,hg,hlen.symm,rfl,rfl,hS,Rk hK hkeys,hm',hwf⟩)
 refine W3 kp aox s (i:=3) rfl (VY (hwf (key,slot) (by simp))) (λhabs w s=>?_) (λj v0 hj w s=>?_)
 ·simp only[List.set_cons_zero,List.set_cons_succ]at s
  rcases hm with hm|hm
  ·exact(habs (Sd (key,slot)) (hm.mem_iff.2 (by simp)) rfl).elim
  ·refine fin _ w ?_ s
   exact(List.perm_append_singleton _ _).trans (List.Perm.cons _ hm)
 ·simp only[List.set_cons_zero,List.set_cons_succ]at s
  rcases hm with hm|hm
  ·have hmem:=hm.mem_iff.1 (List.mem_of_getElem? hj)
   obtain⟨q,hq,e⟩:=List.mem_map.1 hmem
   have e1:q.1=key:=KJ (congrArg Prod.fst e)
   have e2:=Ri hg.ED hq (q:=(key,slot)) (by simp) e1
   subst e2
   have e3:m.set j (.agg #[ae key.1,ae key.2],ae slot)=m:=by
    have:m[j]? =some (.agg #[ae key.1,ae key.2],ae slot):=by rw[hj,<-e];rfl
    exact qV this
   rw[e3]at s
   exact fin m w hm s
  ·have hmem:=hm.mem_iff.1 (List.mem_of_getElem? hj)
   obtain⟨q,hq,e⟩:=List.mem_map.1 hmem
   have e1:q.1=key:=KJ (congrArg Prod.fst e)
   have:=hg.ED
   simp only[List.map_cons,List.nodup_cons]at this
   exact(this.1 (List.mem_map.2 ⟨q,hq,e1⟩)).elim
attribute [local irreducible] l6 in
theorem amm {r:acp}{key:Int×Int}{Q:Int->Bool->Bool->World->Prop}(s:Sep F W w (D3 p k l r::L))(hkey:Xf key)(Mn:l.length<=1000000)
  (h:∀r' w',Sep F W w' (D3 p k (ku k l key).2 r'::L)->Q (ku k l key).1.1 (ku k l key).1.2.1 (ku k l key).1.2.2 w'):CL (sZ p) key.1 key.2 w Q:=by
 refine WC _ _ _ _ _ ?_
 obtain⟨hI,s⟩:=YK s
 have qd:=YJ (key:=key) hI.hk hI.good
 have hwf':∀q∈(ku k l key).2,Xf q.1:=by
  intro q hq
  unfold ku at hq
  cases hf:l.find? (λp=>decide (p.1=key))with
  |some q0=>
   rw[hf]at hq
   rcases List.mem_cons.1 hq with rfl|hq
   ·exact hkey
   ·exact hI.wf q (List.mem_filter.1 hq).1
  |none=>
   rw[hf]at hq
   simp only at hq
   split at hq
   ·rcases List.mem_cons.1 hq with rfl|hq
    ·exact hkey
    ·exact hI.wf q hq
   ·split at hq
    ·rcases List.mem_cons.1 hq with rfl|hq
     ·exact hkey
     ·exact hI.wf q (List.dropLast_subset l hq)
    ·exact hI.wf q hq
 unfold ku at h qd hwf'
 rw[show(some (aZ p)).isNone=false from rfl,cond_false]
 have y_:=qL s (i:=1) rfl
 rw[iF kN]at y_
 have y_:r.ss.length=r.sn:=by omega
 have Kr:=hI.sn
 have acs:∀i∈l.map (·.2),i<r.sn:=λi hi=>by
  obtain⟨q,hq,rfl⟩:=List.mem_map.1 hi
  have:=hI.good.lt q hq
  omega
 refine a_ s λkb w s=>?_
 simp only[aj1]at s
 refine ax s (i:=0) rfl rfl rfl λw s=>?_
 refine ax s (i:=0) rfl rfl rfl λw s=>?_
 simp only[List.set_cons_zero,List.set_cons_succ]at s
 have s:Sep F W w (av kb 253 (aj4 key)::(VZ p k r++L)):=s
 have s:=ay s
 refine ah ?_
 refine GB s (i:=1) rfl rfl rfl ?_
 refine aU s (i:=0) rfl rfl rfl ?_
 refine aU s (i:=0) rfl rfl rfl ?_
 have s':=cz s (List.perm_middle (l₁:=VZ p k r)).symm
 refine look s' hI hkey (λhf=>?_) (λq hf=>?_)
 ·simp only[dT,c_,dI,dB,j7,cond_false,cond_true,if_pos,show Nat.beq (ET .i64) (ET .i64)=true from rfl]
  rw[hf]at h qd hwf'
  simp only at h qd hwf'
  have hn:=Mu hf
  have s:=ay s
  refine ah ?_
  refine bC s (i:=1) rfl rfl rfl ?_
  refine ah ?_
  refine aU s (i:=1) rfl rfl rfl ?_
  by_cases hroom:(l.length:Int)<k
  ·rw[if_pos hroom]at h qd hwf'
   rw[decide_eq_true (by omega),cond_true]
   refine ah ?_
   refine bC s (i:=1) rfl rfl rfl ?_
   have s:=ay s
   refine ah ?_
   refine bC s (i:=1) rfl rfl rfl ?_
   refine aU s (i:=0) rfl rfl rfl ?_
   refine aU s (i:=0) rfl rfl rfl ?_
   refine aT s λzb w s=>?_
   refine⟨cg s (i:=2) rfl rfl rfl,?_⟩
   have src:Src w (sZ zb) 1 4 (tS ⟨key.1,key.2,0,0⟩):=⟨rfl,ami _,λj u hj=>by rw[bZ,Nat.zero_add];exact cg s (i:=0) rfl rfl hj⟩
   refine iL dW s (i:=3) (size:=4) (bytes:=32) rfl rfl rfl rfl rfl rfl (by decide) rfl src (by simp only[maxLen];omega) (by omega) (λe=>by cases e) λa1 c1 w s=>?_
   simp only[List.set_cons_zero,List.set_cons_succ]at s
   have e:flat tS r.ss++tS ⟨key.1,key.2,0,0⟩=flat tS (r.ss++[⟨key.1,key.2,0,0⟩]):=by rw[gK];simp[flat]
   rw[e]at s
   refine ah ?_
   refine ax s (i:=2) rfl rfl rfl λw s=>?_
   simp only[List.set_cons_zero,List.set_cons_succ]at s
   rw[Kr]at s⊢
   have s:=ai s
   refine acq (key:=key) (slot:=l.length) (rest:=l) hI.hk qd rfl (aoz (λi hi=>by have:=acs i hi;omega) hI.seg) hI.nw hI.od (λq hq=>?_) (.inr hI.perm) hwf' s h
   rcases List.mem_cons.1 hq with rfl|hq
   ·simp only
    rw[List.getElem?_append_right (by omega),show l.length-r.ss.length=0 by omega]
    rfl
   ·have:=hI.good.lt q hq
    rw[List.getElem?_append_left (by omega)]
    exact hI.key q hq
  ·rw[if_neg hroom]at h qd hwf'
   rw[decide_eq_false (by omega),cond_false]
   have hne:l≠[]:=λe=>by rw[e]at hroom;have:=hI.hk;simp at hroom;omega
   have sx:=s
   clear s
   obtain⟨ys,q,rfl⟩:∃ys q,l=ys++[q]:=⟨l.dropLast,l.getLast hne,(List.dropLast_concat_getLast hne).symm⟩
   have s:=sx
   rw[List.getLast?_concat,List.dropLast_concat]at h qd hwf'
   simp only at h qd hwf'
   have avZ:r.od=(q.2:Int):=by rw[hI.od,List.map_append];exact YH _ _ _
   refine ah ?_
   refine aU s (i:=1) rfl rfl rfl ?_
   rw[avZ]
   have s:=cz s (List.Perm.trans (List.Perm.swap ..) (List.Perm.cons _ (List.Perm.swap ..)))
   have hnd:=hI.good.nd
   have IN:=hI.seg
   have Sc:=hI.nw
   have KI:=hI.od
   rw[List.map_append,List.map_singleton]at hnd IN Sc KI acs
   refine U8 (pre:=ys.map (·.2)) (post:=[]) (y:=q.2) acs hnd IN Sc KI s λss' w hK hS s=>?_
   rw[List.append_nil]at s hS
   have hl':ss'.length=r.ss.length:=hK.1
   have hkeys:=Rk hK hI.key
   have s:=ay s
   refine ah ?_
   refine GB s (i:=0) rfl rfl rfl ?_
   refine ah ?_
   refine bC s (i:=0) rfl rfl rfl ?_
   have asJ:q.2<r.sn:=acs q.2 (by simp)
   have hkq:=hkeys q (by simp)
   have hqw:=hI.wf q (by simp)
   refine(aK s (i:=1) rfl kN (by decide)).El (k:=q.2) rfl asJ λpp x hx hc=>?_
   rw[hx]at hkq
   have hxa:x.a=q.1.1:=congrArg Prod.fst (Option.some.inj hkq)
   have hxb:x.b=q.1.2:=congrArg Prod.snd (Option.some.inj hkq)
   refine aP (hc 0 _ rfl) ?_
   refine aP (hc 1 _ rfl) ?_
   rw[hxa,hxb]
   have go:∀(m':List (Value×Value)) (w:World),m'.Perm (ys.map Sd)->Sep F W w (av p 182 [ae k,.slice r.sa r.sn r.sc,.map (some r.mb),ae (Gn (ys.map (·.2)) (-1)),ae (Ab (ys.map (·.2)) (-1))]::aj r.sa r.sn r.sc 334 4 (flat tS ss')::av kb 253 (aj4 key)::mapA P 253 r.mb m'::L)->
     wA (some (aZ p)) λp44=>aC (p44.add 1) w.drew λat4 at5 ayN=>af .i64 ((aZ kb).add 0) w.drew λat6=>af .i64 ((aZ kb).add 1) w.drew λat7=>aH (q.2:Int) at5<|wA at4 λp_1=>
      St ((p_1.add ((q.2:Int).toNat*4)).add 0) (ae at6) w.drew λaua=>St ((p_1.add ((q.2:Int).toNat*4)).add 1) (ae at7) aua λaub=>l6 Q (sZ p) q.2 false true (aZ kb) aub:=by
    intro m' w hm' s
    have s:=ay s
    refine ah ?_
    refine bC s (i:=0) rfl rfl rfl ?_
    refine aU s (i:=2) rfl rfl rfl ?_
    refine aU s (i:=2) rfl rfl rfl ?_
    refine BW s (i:=1) (k:=q.2) rfl rfl asJ λg o e=>?_
    rw[e]at s
    refine dD (i:=1) (x':={x with a:=key.1}) kN s rfl hx (dN _ _ _ _ _) (by decide) rfl rfl λw s=>?_
    have hx':(ss'.set q.2 {x with a:=key.1})[q.2]? =some {x with a:=key.1}:=List.getElem?_set_self (by omega)
    refine dD (i:=1) (x':={x with a:=key.1,b:=key.2}) kN s rfl hx' (dN _ _ _ _ _) (by decide) rfl rfl λw s=>?_
    simp only[List.set_cons_zero,List.set_cons_succ]at s
    rw[List.set_set,<-e]at s
    have s:=cz s (List.Perm.trans (List.Perm.cons _ (List.Perm.swap ..)) (List.Perm.swap ..))
    have aoA:r.sn=ys.length+1:=by rw[Kr];simp
    refine acq (key:=key) (slot:=q.2) (rest:=ys) hI.hk qd aoA (aqV hx hS) rfl rfl (λz hz=>?_) (.inr hm') hwf' s h
    rw[List.getElem?_set]
    rcases List.mem_cons.1 hz with rfl|hz
    ·simp only
     rw[if_pos trivial,if_pos (by omega)]
     rfl
    ·have hne:¬q.2=z.2:=λe=>by
      rw[List.nodup_append]at hnd
      exact hnd.2.2 z.2 (List.mem_map.2 ⟨z,hz,rfl⟩) q.2 (by simp) e.symm
     rw[if_neg hne]
     exact hkeys z (by simp[hz])
   have av0:=hI.good.ED
   refine W4 kp aox s (i:=3) rfl (VY hqw) (λhabs w s=>?_) (λj v0 hj w s=>?_)
   ·exact(habs (Sd q) (hI.perm.mem_iff.2 (List.mem_map.2 ⟨q,by simp,rfl⟩)) rfl).elim
   ·simp only[List.set_cons_zero,List.set_cons_succ]at s
    exact go _ w (aqW hI.perm hj av0) s
 ·simp only[dT,c_,dI,dB,j7,cond_true,if_pos,show Nat.beq (ET .i64) (ET .i64)=true from rfl]
  have sx:=s
  obtain⟨rfl,hq⟩:=Mt hf
  have s:=sx
  rw[hf]at h qd hwf'
  simp only at h qd hwf'
  obtain⟨pre,post,e1,e2⟩:=YI hI.good.ED hq
  rw[e2]at h qd hwf'
  have hnd:=hI.good.nd
  have IN:=hI.seg
  have Sc:=hI.nw
  have KI:=hI.od
  rw[e1,List.map_append,List.map_cons]at hnd IN Sc KI acs
  have s:=cz s (List.Perm.trans (List.Perm.swap ..) (List.Perm.cons _ (List.Perm.swap ..)))
  refine U8 (pre:=pre.map (·.2)) (post:=post.map (·.2)) (y:=q.2) acs hnd IN Sc KI s λss' w hK hS s=>?_
  rw[<-List.map_append]at s hS
  have s:=cz s (List.Perm.trans (List.Perm.cons _ (List.Perm.swap ..)) (List.Perm.swap ..))
  have Nt:List.Perm ((q.1,q.2)::(pre++post)) l:=by rw[e1];exact List.perm_middle.symm
  have aoA:r.sn=(pre++post).length+1:=by rw[Kr,<-Nt.length_eq];rfl
  refine acq (key:=q.1) (slot:=q.2) (rest:=pre++post) hI.hk qd aoA hS rfl rfl (λz hz=>?_) (.inl (hI.perm.trans (Nt.map Sd).symm)) hwf' s h
  exact Rk hK hI.key z (Nt.mem_iff.1 hz)
end
end Go.Proofs.YtmegplnmiepfbaaGreatDoor.S.Lr
namespace Go.Proofs.YtmegplnmiepfbaaGreatDoor.S
open Go.Sx
open Go.RowKit Go.ChangeMaps Go.MapKept
open Go.Maps (Keyed)
structure acu (k:TypeId) (β:Type) where
 enc:β->Value
 ok:β->Prop
 inj:∀a b,enc a=enc b->a=b
 key:∀b,ok b->∃l,keyOf P k (enc b)=some l
 keyed:Keyed P k
def asL:P.underlying 3=some (.int .i64):=by kernel_rfl
def ir (n:Int):Prop:=-9223372036854775808<=n/\n<9223372036854775808
def ir.wf {n:Int}(h:ir n):(Lit.int .i64 n).wf=true:=by
 unfold ir at h
 simp[Lit.wf]
 exact⟨h.1,by omega⟩
noncomputable def eX:acu 3 Int:=⟨λn=>ae n,ir,λa b h=>by cases h;rfl,λb h=>⟨_,Go.Maps.keyOf_int_mk asL h.wf⟩,Go.Maps.int_keyed asL⟩
noncomputable def Jn:acu 253 (Int×Int):=⟨Lr.Rj,λp=>ir p.1/\ir p.2,λa b h=>Lr.KJ h,λb h=>Lr.VY ⟨h.1.wf,h.2.wf⟩,Lr.kp⟩
section
variable {k:TypeId}{α β:Type}{K:acu k β}{v:α->Value}{ms:List (β×α)}
noncomputable def fy (K:acu k β)(v:α->Value)(b:Nat)(ms:List (β×α)):As:=mapA P k b (ms.map λp=>(K.enc p.1,v p.2))
def nN (ms:List (β×α)):Prop:=(ms.map (·.1)).Nodup
def aiT (h:nN ms){i j:Nat}{p q:β×α}(hi:ms[i]? =some p)(hj:ms[j]? =some q)(e:p.1=q.1):i=j:=by
 have h1:(ms.map (·.1))[i]? =some p.1:=by rw[List.getElem?_map,hi];rfl
 have h2:(ms.map (·.1))[j]? =some q.1:=by rw[List.getElem?_map,hj];rfl
 have Ed:=(List.getElem?_eq_some_iff.1 h1).1
 exact(List.getElem?_inj Ed h).1 (by rw[h1,h2,e])
def YL {F:Nat->Prop}{W w:World}{L:List As}{Q:Option Nat->World->Prop}(s:Sep F W w L)(t:TypeId)(K:acu k β)(v:α->Value)(h:∀b w',Sep F W w' (fy K v b ([]:List (β×α))::L)->Q (some b) w'):cm P t none w Q:=afF s P k t h
variable [DecidableEq β]
def e7 (ms:List (β×α))(x:β):Option α:=(ms.find? λp=>decide (p.1=x)).map (·.2)
def Rl {x:β}:e7 ms x=none↔∀p∈ms,p.1≠x:=by
 unfold e7
 rw[Option.map_eq_none_iff,List.find?_eq_none]
 simp
def KK (h:nN ms){x:β}{a:α}:e7 ms x=some a↔(x,a)∈ms:=by
 unfold e7
 induction ms with
 |nil=>simp
 |cons p ms ih=>
  unfold nN at h ih
  rw[List.map_cons,List.nodup_cons]at h
  rw[List.find?_cons]
  by_cases e:p.1=x
  ·rw[decide_eq_true e]
   simp only[Option.map_some,Option.some.injEq,List.mem_cons]
   constructor
   ·rintro rfl
    exact .inl (by rw[<-e])
   ·rintro (rfl|hm)
    ·rfl
    ·exact(h.1 (List.mem_map.2 ⟨_,hm,e.symm⟩)).elim
  ·rw[decide_eq_false e]
   simp only[List.mem_cons]
   rw[ih h.2]
   constructor
   ·exact λhm=>.inr hm
   ·rintro (rfl|hm)
    ·exact(e rfl).elim
    ·exact hm
def agI (h:nN ms){x:β}{a:α}{j:Nat}(hj:ms[j]? =some (x,a)):e7 ms x=some a:=(KK h).2 (List.mem_of_getElem? hj)
def aoB (h:nN ms){x:β}{a:α}(hn:e7 ms x=none):nN (ms++[(x,a)])/\∀y,e7 (ms++[(x,a)]) y=if y=x then some a else e7 ms y:=by
 have hx:=Rl.1 hn
 have hk:nN (ms++[(x,a)]):=by
  unfold nN
  rw[List.map_append,List.nodup_append]
  refine⟨h,by simp,λy hy z hz=>?_⟩
  obtain⟨p,hp,rfl⟩:=List.mem_map.1 hy
  simp only[List.map_cons,List.map_nil,List.mem_singleton]at hz
  rw[hz]
  exact hx p hp
 refine⟨hk,λy=>?_⟩
 unfold e7
 rw[List.find?_append]
 by_cases e:y=x
 ·subst e
  rw[if_pos rfl]
  have:ms.find? (λp=>decide (p.1=y))=none:=by
   unfold e7 at hn
   rwa[Option.map_eq_none_iff]at hn
  rw[this]
  simp
 ·rw[if_neg e]
  cases hf:ms.find? (λp=>decide (p.1=y))with
  |none=>
   simp
   exact λh=>e h.symm
  |some p=>simp
def aqX (h:nN ms){x:β}{a a0:α}{j:Nat}(hj:ms[j]? =some (x,a0)):nN (ms.set j (x,a))/\∀y,e7 (ms.set j (x,a)) y=if y=x then some a else e7 ms y:=by
 have TJ:=(List.getElem?_eq_some_iff.1 hj).1
 have hk:nN (ms.set j (x,a)):=by
  unfold nN
  rw[List.map_set]
  have:(ms.map (·.1)).set j x=ms.map (·.1):=by
   apply List.ext_getElem?
   intro i
   rw[List.getElem?_set]
   split
   ·rename_i e
    subst e
    rw[if_pos (by rw[List.length_map];exact TJ),List.getElem?_map,hj]
    rfl
   ·rfl
  rw[this]
  exact h
 refine⟨hk,λy=>?_⟩
 apply Option.ext
 intro b
 rw[KK hk]
 by_cases e:y=x
 ·subst e
  rw[if_pos rfl]
  constructor
  ·intro hm
   obtain⟨i,hi⟩:=List.mem_iff_getElem?.1 hm
   have hj':(ms.set j (y,a))[j]? =some (y,a):=by rw[List.getElem?_set_self TJ]
   have:=aiT hk hi hj' rfl
   subst this
   rw[hj']at hi
   cases hi
   rfl
  ·intro hb
   cases hb
   exact List.mem_of_getElem? (i:=j) (by rw[List.getElem?_set_self TJ])
 ·rw[if_neg e,KK h]
  constructor
  ·intro hm
   rcases List.mem_or_eq_of_mem_set hm with hm|hm
   ·exact hm
   ·cases hm;exact(e rfl).elim
  ·intro hm
   obtain⟨i,hi⟩:=List.mem_iff_getElem?.1 hm
   refine List.mem_of_getElem? (i:=i) ?_
   rw[List.getElem?_set_ne ?_]
   ·exact hi
   ·rintro rfl
    rw[hj]at hi
    cases hi
    exact e rfl
def aqY (h:nN ms){x:β}{a0:α}{j:Nat}(hj:ms[j]? =some (x,a0)):nN (ms.eraseIdx j)/\∀y,e7 (ms.eraseIdx j) y=if y=x then none else e7 ms y:=by
 have hsub:=List.eraseIdx_sublist ms j
 have hk:nN (ms.eraseIdx j):=List.Nodup.sublist (hsub.map _) h
 refine⟨hk,λy=>?_⟩
 apply Option.ext
 intro b
 rw[KK hk]
 by_cases e:y=x
 ·subst e
  rw[if_pos rfl]
  constructor
  ·intro hm
   rw[List.mem_eraseIdx_iff_getElem?]at hm
   obtain⟨i,hi,hi'⟩:=hm
   exact(hi (aiT h hi' hj rfl)).elim
  ·intro hb;cases hb
 ·rw[if_neg e,KK h]
  constructor
  ·exact λhm=>hsub.subset hm
  ·intro hm
   rw[List.mem_eraseIdx_iff_getElem?]
   obtain⟨i,hi⟩:=List.mem_iff_getElem?.1 hm
   refine⟨i,?_,hi⟩
   rintro rfl
   rw[hj]at hi
   cases hi
   exact e rfl
attribute [local irreducible] af cw bq bg aC cf bX St Bx Al App cA cq cm bT aI bw aq bR av aj aV mapA
variable {F:Nat->Prop}{W w:World}{L:List As}{i b:Nat}{t e:TypeId}{x:β}
def Dz {c:Bool}{z:Value}{Q:Value->World->Prop}(ht:P.underlying t=some (.map k e))(hz:(zeroValue e).run P w=.ok z w)(s:Sep F W w L)(hi:L[i]? =some (fy K v b ms))(hnd:nN ms)(hx:K.ok x)
  (h0:e7 ms x=none->Q (if c then .tuple #[z,.bool false]else z) w)(h1:∀a,e7 ms x=some a->Q (if c then .tuple #[v a,.bool true]else v a) w):aI P (Instr.lookup t (.map (some b)) (K.enc x) c) w Q:=by
 have hi':L[i]? =some (mapA P k b (ms.map λp=>(K.enc p.1,v p.2))):=hi
 refine ade K.keyed ht hz s hi' (K.key x hx) (λh=>h0 (Rl.2 λp hp e=>?_)) λj u hj=>?_
 ·exact h (K.enc p.1,v p.2) (List.mem_map.2 ⟨p,hp,rfl⟩) (by rw[e])
 ·rw[List.getElem?_map]at hj
  cases hm:ms[j]? with
  |none=>rw[hm]at hj;cases hj
  |some p=>
   rw[hm]at hj
   simp only[Option.map_some,Option.some.injEq,Prod.mk.injEq]at hj
   obtain⟨e1,rfl⟩:=hj
   have e1:=K.inj _ _ e1
   exact h1 p.2 (agI (j:=j) hnd (by rw[hm,<-e1]))
def KM {Q:World->Prop}{a:α}(ht:P.underlying t=some (.map k e))(s:Sep F W w L)(hi:L[i]? =some (fy K v b ms))(hnd:nN ms)(hx:K.ok x)
  (h:∀ms' w',nN ms'->(∀y,e7 ms' y=if y=x then some a else e7 ms y)->(ms'.length=if(e7 ms x).isNone then ms.length+1 else ms.length)->Sep F W w' (L.set i (fy K v b ms'))->Q w'):bw P (Instr.mapUpdate t (.map (some b)) (K.enc x) (v a)) w Q:=by
 have hi':L[i]? =some (mapA P k b (ms.map λp=>(K.enc p.1,v p.2))):=hi
 refine W3 K.keyed ht s hi' (K.key x hx) (λh0 w' s'=>?_) λj u hj w' s'=>?_
 ·have hn:e7 ms x=none:=Rl.2 λp hp e=>h0 (K.enc p.1,v p.2) (List.mem_map.2 ⟨p,hp,rfl⟩) (by rw[e])
  obtain⟨k1,k2⟩:=aoB hnd (a:=a) hn
  refine h (ms++[(x,a)]) w' k1 k2 (by rw[hn,List.length_append];rfl) ?_
  unfold fy
  rw[List.map_append]
  exact s'
 ·rw[List.getElem?_map]at hj
  cases hm:ms[j]? with
  |none=>rw[hm]at hj;cases hj
  |some p=>
   rw[hm]at hj
   simp only[Option.map_some,Option.some.injEq,Prod.mk.injEq]at hj
   obtain⟨e1,rfl⟩:=hj
   have e1:=K.inj _ _ e1
   have hm:ms[j]? =some (x,p.2):=by rw[hm,<-e1]
   obtain⟨k1,k2⟩:=aqX hnd (a:=a) hm
   refine h (ms.set j (x,a)) w' k1 k2 (by rw[agI hnd hm,List.length_set];rfl) ?_
   unfold fy
   rw[List.map_set]
   exact s'
def asM {ty:TypeId}{Q:Value->World->Prop}(ht:P.underlying t=some (.map k e))(s:Sep F W w L)(hi:L[i]? =some (fy K v b ms))(hnd:nN ms)(hx:K.ok x)
  (h:∀ms' w',nN ms'->(∀y,e7 ms' y=if y=x then none else e7 ms y)->(ms'.length=if(e7 ms x).isNone then ms.length else ms.length-1)->Sep F W w' (L.set i (fy K v b ms'))->Q (.tuple #[]) w'):aI P (Builtin.delete_ #[t,k] ty [.map (some b),K.enc x].toArray) w Q:=by
 have Ed:i<L.length:=(List.getElem?_eq_some_iff.1 hi).1
 have hi':L[i]? =some (mapA P k b (ms.map λp=>(K.enc p.1,v p.2))):=hi
 refine W4 K.keyed ht s hi' (K.key x hx) (λh0 w' s'=>?_) λj u hj w' s'=>?_
 ·have hn:e7 ms x=none:=Rl.2 λp hp e=>h0 (K.enc p.1,v p.2) (List.mem_map.2 ⟨p,hp,rfl⟩) (by rw[e])
  refine h ms w' hnd (λy=>?_) (by rw[hn];rfl) ?_
  ·by_cases e:y=x
   ·rw[if_pos e,e,hn]
   ·rw[if_neg e]
  ·have:L.set i (fy K v b ms)=L:=by
    apply List.ext_getElem?
    intro q
    rw[List.getElem?_set]
    split
    ·rename_i e
     subst e
     first
      |rw[if_pos Ed,hi]
      |rw[hi]
    ·rfl
   rw[this]
   exact s'
 ·rw[List.getElem?_map]at hj
  cases hm:ms[j]? with
  |none=>rw[hm]at hj;cases hj
  |some p=>
   rw[hm]at hj
   simp only[Option.map_some,Option.some.injEq,Prod.mk.injEq]at hj
   obtain⟨e1,rfl⟩:=hj
   have e1:=K.inj _ _ e1
   have hm:ms[j]? =some (x,p.2):=by rw[hm,<-e1]
   have TJ:=(List.getElem?_eq_some_iff.1 hm).1
   obtain⟨k1,k2⟩:=aqY hnd hm
   refine h (ms.eraseIdx j) w' k1 k2 (by rw[agI hnd hm,List.length_eraseIdx,if_pos TJ];rfl) ?_
   unfold fy
   rw[ChangeMaps.map_eraseIdx]
   exact s'
end
def aiU {α β:Type}:nN ([]:List (β×α)):=List.nodup_nil
end Go.Proofs.YtmegplnmiepfbaaGreatDoor.S
namespace Go.Proofs.YtmegplnmiepfbaaGreatDoor.S
open Go.Sx
def amn {P:Program}{F:Nat->Prop}{W w:World}{L:List As}{t e ty k:TypeId}{b i:Nat}{m:List (Value×Value)}{Q:Value->World->Prop}(ht:P.underlying t=some (.map k e))(s:Sep F W w L)(hi:L[i]? =some (mapA P k b m))(h:Q (ae (m.length:Nat)) w):aI P (Builtin.len_ #[t] ty [.map (some b)].toArray) w Q:=by
 obtain⟨es,clock,hb,hm,_⟩:=fP s hi
 have hb:w.heap[b]? =some (.map es clock):=hb
 have hl:es.size=m.length:=by
  have:=congrArg List.length hm
  simpa using this
 have:(Builtin.len_ #[t] ty [.map (some b)].toArray).run P w=.ok (ae (m.length:Nat)) w:=by
  simp[Builtin.len_,run_underlying ht,MapKept.run_getObj_map hb,Result.andThen,goInt,hl]
 unfold aI
 rw[this]
 exact h
attribute [local irreducible] af cw bq bg aC cf bX St Bx Al App cA cq cm bT aI bw aq bR av aj aV mapA
def aoC {F:Nat->Prop}{W w:World}{L:List As}{t e ty:TypeId}{k:TypeId}{α β:Type}{K:acu k β}{v:α->Value}{ms:List (β×α)}{b i:Nat}{Q:Value->World->Prop}(ht:P.underlying t=some (.map k e))(s:Sep F W w L)(hi:L[i]? =some (fy K v b ms))(h:Q (ae (ms.length:Nat)) w):aI P (Builtin.len_ #[t] ty [.map (some b)].toArray) w Q:=by
 have hi':L[i]? =some (mapA P k b (ms.map λp=>(K.enc p.1,v p.2))):=hi
 refine amn ht s hi' ?_
 rw[List.length_map]
 exact h
structure aL where
 id:Int
 cell:Int
 goal:Int
deriving DecidableEq
def g8 (u:aL):List Value:=[ae u.id,ae u.cell,ae u.goal]
def BL (u:aL):(g8 u).length=3:=rfl
def amo (x:aL)(u:Value)(h:u∈g8 x):u.oneCell'=true:=by
 unfold g8 at h
 simp only[List.mem_cons,List.not_mem_nil,or_false]at h
 rcases h with rfl|rfl|rfl<;>rfl
def DA (u:aL):Value:=.agg #[ae u.id,ae u.cell,ae u.goal]
structure sP where
 most:Int
 next:Int
 us:List aL
structure U9 where
 p:Nat
 mb:Nat
 oa:Option Addr
 on:Nat
 oc:Nat
 ms:List (Int×aL)
 os:List Int
def gC (us:List aL)(i:Int):Option aL:=us.find? λu=>decide (u.id=i)
structure Rm (r:U9) (y:sP):Prop where
 most:1<=y.most/\y.most<=65536
 ED:nN r.ms
 e7:∀i,e7 r.ms i=gC y.us i
 len:r.ms.length=y.us.length
 ord:r.os.filter (λi=>(gC y.us i).isSome)=y.us.map (·.id)
 agJ:r.os.length<=2*y.us.length
 Mh:(y.us.map (·.id)).Pairwise (·<·)
 jR:∀u∈y.us,0<=u.id/\u.id<y.next
 nF:(y.us.length:Int)<=y.most
 onx:∀i∈r.os,0<=i/\i<y.next
 Pu:0<=y.next/\y.next<=1000000000
def U_ (r:U9)(y:sP):List Value:=[ae y.most,ae y.next,.map (some r.mb),.slice r.oa r.on r.oc]
noncomputable def asN (r:U9)(y:sP):List As:=[av r.p 171 (U_ r y),fy eX DA r.mb r.ms,aj r.oa r.on r.oc 3 1 (flat one r.os)]
noncomputable def vu (r:U9)(y:sP):As:=aV (Rm r y) (asN r y)
section
variable {F:Nat->Prop}{W w w0:World}{L:List As}{r:U9}{y:sP}{id:Int}
def uk (s:Sep F W w (vu r y::L)):Rm r y/\Sep F W w (av r.p 171 (U_ r y)::fy eX DA r.mb r.ms::aj r.oa r.on r.oc 3 1 (flat one r.os)::L):=iW s
def D4 (s:Sep F W w (av r.p 171 (U_ r y)::fy eX DA r.mb r.ms::aj r.oa r.on r.oc 3 1 (flat one r.os)::L))(h:Rm r y):Sep F W w (vu r y::L):=dX (Ps:=asN r y) s h
def aaw {Q:Option Addr->World->Prop}{most:Int}(hm:1<=most/\most<=65536)(s:Sep F W w L)(h:∀r w',Sep F W w' (vu r ⟨most,0,[]⟩::L)->Q (sZ r.p) w'):E_ most w Q:=by
 refine ZJ _ _ _ ?_
 rw[decide_eq_false (by omega),cond_false,decide_eq_false (by omega),cond_false]
 refine YL s 169 eX DA λmb w s=>?_
 refine aT s λp w s=>?_
 refine h ⟨p,mb,none,0,0,[],[]⟩ w (D4 (r:=⟨p,mb,none,0,0,[],[]⟩) (y:=⟨most,0,[]⟩) ?_ ?_)
 ·exact cz (bG s 3 1) ((List.Perm.swap _ _ _).trans (List.Perm.cons _ (List.Perm.swap _ _ _)))
 ·exact⟨hm,List.Pairwise.nil,λi=>rfl,rfl,rfl,Nat.le_refl _,List.Pairwise.nil,(λu hu=>by cases hu),by show((0:Nat):Int)<=most;omega,(λi hi=>by cases hi),by show(0:Int)<=0/\(0:Int)<=_;omega⟩
def Jo:P.underlying 169=some (.map 3 43):=by kernel_rfl
def YM (w:World):(zeroValue 43).run P w=.ok (DA ⟨0,0,0⟩) w:=by kernel_rfl
def aoD:zc T 43=[ae 0,ae 0,ae 0]:=rfl
def aax {Q:Int->World->Prop}(s:Sep F W w (vu r y::L))(h:Q (y.us.length:Nat) w):x9 (sZ r.p) w Q:=by
 refine Ov _ _ _ ?_
 obtain⟨hok,s⟩:=uk s
 refine mz (ah (GB s (i:=0) rfl rfl rfl ?_))
 refine aoC Jo s (i:=1) rfl ?_
 rw[hok.len]
 exact h
def rU {Q:Int->Int->Int->Bool->World->Prop}(s0:Sep F W w (vu r y::L))(ze:ir id)
  (hno:gC y.us id=none->∀w',Sep F W w' (vu r y::L)->Q 0 0 0 false w')(hyes:∀u,gC y.us id=some u->∀w',Sep F W w' (vu r y::L)->Q u.id u.cell u.goal true w'):iE (sZ r.p) id w Q:=by
 refine Oz _ _ _ _ ?_
 refine a_ s0 λp w s=>?_
 rw[aoD]at s
 obtain⟨hok,s⟩:=uk (cz s (List.Perm.swap _ _ _))
 refine mz (ah (GB s (i:=0) rfl rfl rfl ?_))
 have fin:∀(u:aL) (b:Bool) (w:World),Sep F W w (av r.p 171 (U_ r y)::fy eX DA r.mb r.ms::aj r.oa r.on r.oc 3 1 (flat one r.os)::av p 43 [ae 0,ae 0,ae 0]::L)->
   (∀w',Sep F W w' (vu r y::L)->Q u.id u.cell u.goal b w')->
   Al T 43 w λx w=>St (x.add 0) (ae u.id) w λw=>St (x.add 1) (ae u.cell) w λw=>St (x.add 2) (ae u.goal) w λw=>
   af .i64 (x.add 0) w λa=>af .i64 (x.add 1) w λc=>af .i64 (x.add 2) w λd=>
   St ((aZ p).add 0) (ae a) w λw=>St ((aZ p).add 1) (ae c) w λw=>St ((aZ p).add 2) (ae d) w λw=>
   af .i64 ((aZ p).add 0) w λa=>af .i64 ((aZ p).add 1) w λc=>af .i64 ((aZ p).add 2) w λd=>Q a c d b w:=λu b w s h=>by
  refine a_ s λx w s=>?_
  rw[aoD]at s
  refine ax s (i:=0) rfl rfl rfl λw s=>?_
  refine ax s (i:=0) rfl rfl rfl λw s=>?_
  refine ax s (i:=0) rfl rfl rfl λw s=>?_
  simp only[List.set_cons_zero,List.set_cons_succ]at s
  refine aU s (i:=0) rfl rfl rfl (aU s (i:=0) rfl rfl rfl (aU s (i:=0) rfl rfl rfl ?_))
  refine ax s (i:=4) rfl rfl rfl λw s=>?_
  refine ax s (i:=4) rfl rfl rfl λw s=>?_
  refine ax s (i:=4) rfl rfl rfl λw s=>?_
  simp only[List.set_cons_zero,List.set_cons_succ]at s
  refine aU s (i:=4) rfl rfl rfl (aU s (i:=4) rfl rfl rfl (aU s (i:=4) rfl rfl rfl ?_))
  exact h w (D4 (gL s (.cons _ (.cons_cons _ (.cons_cons _ (.cons_cons _ (.cons _ (List.Sublist.refl _))))))) hok)
 refine Dz (k:=3) (e:=43) (K:=eX) (v:=DA) (ms:=r.ms) Jo (YM w) s (i:=1) rfl hok.ED ze (λh=>?_) λu h=>?_
 ·exact fin ⟨0,0,0⟩ false w s (hno (by rw[<-hok.e7];exact h))
 ·exact fin u true w s (hyes u (by rw[<-hok.e7];exact h))
end
end Go.Proofs.YtmegplnmiepfbaaGreatDoor.S
namespace Go.Proofs.YtmegplnmiepfbaaGreatDoor.S
open Go.Sx
attribute [local irreducible] af cw bq bg aC cf bX St Bx Al App cA cq cm bT aI bw aq bR av aj aV mapA
section
variable {F:Nat->Prop}{W w w0:World}{L:List As}
def Xh {Q:Option Addr->Nat->Nat->World->Prop}{p mb on oc:Nat}{oa:Option Addr}{most next:Int}{ms:List (Int×aL)}{os:List Int}(hk:nN ms)(ho:∀i∈os,ir i)(hl:os.length<=200000)
  (s:Sep F W w (av p 171 [ae most,ae next,.map (some mb),.slice oa on oc]::fy eX DA mb ms::aj oa on oc 3 1 (flat one os)::L))
  (h:∀a n c w',Sep F W w' (aj a n c 3 1 (flat one (os.filter λi=>(e7 ms i).isSome))::av p 171 [ae most,ae next,.map (some mb),.slice oa on oc]::fy eX DA mb ms::aj oa on oc 3 1 (flat one os)::L)->Q a n c w'):
  p8 (sZ p) w Q:=by
 refine Ln _ _ _ ?_
 refine ah (bC s (i:=0) rfl rfl rfl ?_)
 have hlen:=(aK s (i:=2) rfl ct (by decide)).len
 have loop:∀(j i:Nat) (a:Option Addr) (n c:Nat) (w:World),i+j=on->n<=i->Sep F W w (aj a n c 3 1 (flat one ((os.take i).filter λi=>(e7 ms i).isSome))::av p 171 [ae most,ae next,.map (some mb),.slice oa on oc]::fy eX DA mb ms::aj oa on oc 3 1 (flat one os)::L)->
   lC Q (j+1) (sZ p) a n c oa on oc (on:Int) i w:=by
  intro j
  induction j with
  |zero=>
   intro i a n c w hij Zg s
   show n7 _ _ _ _ _ _ _ _ _ _ _ _
   unfold n7
   rw[decide_eq_false (by omega),cond_false]
   refine h a n c w ?_
   rwa[List.take_of_length_le (by omega)]at s
  |succ j ih=>
   intro i a n c w hij Zg s
   show n7 _ _ _ _ _ _ _ _ _ _ _ _
   unfold n7
   rw[decide_eq_true (by omega),cond_true]
   have hi:i<os.length:=by omega
   refine(aK s (i:=3) rfl ct (by decide)).pJ rfl (by omega) ?_
   have hg:os[i]? =some (gi os i):=by
    unfold gi
    rw[List.getD_eq_getElem?_getD,List.getElem?_eq_getElem hi]
    rfl
   have hx:=ho _ (List.mem_of_getElem? hg)
   have xA:os.take (i+1)=os.take i++[gi os i]:=by rw[List.take_add_one,hg];rfl
   generalize gi os i=x at hg hx xA
   have wr:IntKind.wrap .i64 ((i:Int)+1)=((i+1:Nat):Int):=by
    rw[GC (ir.wf (n:=(i:Int)+1) (by unfold ir;omega))]
    omega
   refine ah (GB s (i:=1) rfl rfl rfl ?_)
   have step:∀(u:aL) (b:Bool),(e7 ms x).isSome=b->Al T 43 w λp6 w=>St (p6.add 0) (ae u.id) w λw=>St (p6.add 1) (ae u.cell) w λw=>St (p6.add 2) (ae u.goal) w λw=>
     cond b (Bx [ae x] 3 w λp29 w=>App P #[29,29] 29 (.slice a n c) (.slice (some p29) 1 1) w λa n c w=>lC Q (j+1) (sZ p) a n c oa on oc (on:Int) (IntKind.wrap .i64 ((i:Int)+1)) w)
      (lC Q (j+1) (sZ p) a n c oa on oc (on:Int) (IntKind.wrap .i64 ((i:Int)+1)) w):=λu b hb=>by
    refine a_ s λp6 w s=>?_
    rw[aoD]at s
    refine ax s (i:=0) rfl rfl rfl λw s=>?_
    refine ax s (i:=0) rfl rfl rfl λw s=>?_
    refine ax s (i:=0) rfl rfl rfl λw s=>?_
    have s:=ai s
    rw[wr]
    cases b with
    |true=>
     rw[cond_true]
     refine Ki s (by omega) λa' c' w s=>?_
     refine ih (i+1) a' (n+1) c' w (by omega) (by omega) ?_
     rw[xA,List.filter_append]
     simp only[List.filter_cons,hb,List.filter_nil,if_true]
     exact s
    |false=>
     rw[cond_false]
     refine ih (i+1) a n c w (by omega) (by omega) ?_
     rw[xA,List.filter_append]
     simp only[List.filter_cons,hb,List.filter_nil,Bool.false_eq_true,if_false,List.append_nil]
     exact s
   refine Dz (k:=3) (e:=43) (K:=eX) (v:=DA) (ms:=ms) Jo (YM w) s (i:=2) rfl hk hx (λh=>?_) λu h=>?_
   ·exact step ⟨0,0,0⟩ false (by rw[h];rfl)
   ·exact step u true (by rw[h];rfl)
 exact⟨on+1,loop on 0 none 0 0 w (by omega) (by omega) (bG s 3 1)⟩
end
end Go.Proofs.YtmegplnmiepfbaaGreatDoor.S
namespace Go.Proofs.YtmegplnmiepfbaaGreatDoor.S.Hp
abbrev E:=Int×Int
def yO (a b:E):Bool:=decide (a.1<b.1)||(a.1==b.1&&decide (a.2<b.2))
def aiW {a b:E}:yO a b=true↔a.1<b.1\/a.1=b.1/\a.2<b.2:=by simp[yO]
def V0 {a b:E}:yO a b=false↔¬(a.1<b.1\/a.1=b.1/\a.2<b.2):=by rw[<-aiW,Bool.not_eq_true]
def Mv {a b:E}(h:yO a b=true):yO b a=false:=by rw[aiW]at h;rw[V0];omega
def FH {a b c:E}(h:yO b a=false)(k:yO c b=false):yO c a=false:=by rw[V0]at*;omega
def YN {a:E}:yO a a=false:=by rw[V0];omega
def g (es:List E)(i:Nat):E:=es.getD i (0,0)
def DB {es:List E}{i:Nat}(h:i<es.length):es[i]? =some (g es i):=by
 rw[g,List.getD_eq_getElem?_getD,List.getElem?_eq_getElem h];rfl
def apV {es:List E}{i j:Nat}{x:E}(h:i<es.length):g (es.set i x) j=if i=j then x else g es j:=by
 unfold g
 rw[List.getD_eq_getElem?_getD,List.getD_eq_getElem?_getD,List.getElem?_set]
 by_cases hij:i=j
 ·rw[if_pos hij,if_pos hij]
  simp[h]
 ·rw[if_neg hij,if_neg hij]
def swap (es:List E)(i p:Nat):List E:=(es.set i (g es p)).set p (g es i)
def qT (es:List E)(i p:Nat):(swap es i p).length=es.length:=by simp[swap]
def H9 {es:List E}{i p j:Nat}(hi:i<es.length)(hp:p<es.length):g (swap es i p) j=if p=j then g es i else if i=j then g es p else g es j:=by
 unfold swap
 rw[apV (by simpa using hp),apV hi]
def swap_perm {es:List E}{i p:Nat}(hi:i<es.length)(hp:p<es.length):(swap es i p).Perm es:=by
 rw[List.perm_iff_count]
 intro a
 unfold swap
 rw[List.count_set (by simpa using hp),List.count_set hi,List.getElem_set]
 have e1:es[i]=g es i:=by have:=DB hi;rw[List.getElem?_eq_getElem hi]at this;exact Option.some.inj this
 have e2:es[p]=g es p:=by have:=DB hp;rw[List.getElem?_eq_getElem hp]at this;exact Option.some.inj this
 rw[e1,e2]
 have c1:(if(g es i==a)=true then 1 else 0)<=List.count a es:=by
  split
  ·rename_i h
   rw[<-e1]at h
   have:a∈es:=by rw[<-eq_of_beq h];exact List.getElem_mem hi
   exact List.count_pos_iff.2 this
  ·omega
 by_cases h:i=p
 ·subst h
  simp only[if_true]
  omega
 ·rw[if_neg h]
  have c2:(if(g es p==a)=true then 1 else 0)<=List.count a es:=by
   split
   ·rename_i h
    rw[<-e2]at h
    have:a∈es:=by rw[<-eq_of_beq h];exact List.getElem_mem hp
    exact List.count_pos_iff.2 this
   ·omega
  omega
def yP (es:List E):Prop:=∀j,0<j->j<es.length->yO (g es j) (g es ((j-1)/2))=false
structure V1 (es:List E) (i:Nat):Prop where
 rest:∀j,0<j->j<es.length->j≠i->yO (g es j) (g es ((j-1)/2))=false
 over:∀j,0<j->j<es.length->(j-1)/2=i->0<i->yO (g es j) (g es ((i-1)/2))=false
def acv {es:List E}{i:Nat}(h:V1 es i)(hs:i=0\/yO (g es i) (g es ((i-1)/2))=false):yP es:=by
 intro j h1 h2
 by_cases hj:j=i
 ·subst hj
  rcases hs with hs|hs
  ·omega
  ·exact hs
 ·exact h.rest j h1 h2 hj
def aqZ {es:List E}{i:Nat}(h:V1 es i)(hi:0<i)(hl:i<es.length)(hs:yO (g es i) (g es ((i-1)/2))=true):V1 (swap es i ((i-1)/2)) ((i-1)/2):=by
 have hp:(i-1)/2<es.length:=by omega
 have hne:(i-1)/2≠i:=by omega
 constructor
 ·intro j h1 h2 hj
  rw[qT]at h2
  rw[H9 hl hp,H9 hl hp,if_neg (Ne.symm hj)]
  by_cases hji:i=j
  ·subst hji
   rw[if_pos rfl,if_pos rfl]
   exact Mv hs
  ·rw[if_neg hji]
   by_cases hpj:(i-1)/2=(j-1)/2
   ·rw[if_pos hpj]
    have:=h.rest j h1 h2 (Ne.symm hji)
    rw[<-hpj]at this
    exact FH (Mv hs) this
   ·rw[if_neg hpj]
    by_cases hij:i=(j-1)/2
    ·rw[if_pos hij]
     exact h.over j h1 h2 hij.symm hi
    ·rw[if_neg hij]
     exact h.rest j h1 h2 (Ne.symm hji)
 ·intro j h1 h2 hj h0
  rw[qT]at h2
  have hj':(i-1)/2≠j:=by omega
  rw[H9 hl hp,H9 hl hp,if_neg hj',if_neg (show(i-1)/2≠((i-1)/2-1)/2 by omega),if_neg (show i≠((i-1)/2-1)/2 by omega)]
  have asP:=h.rest ((i-1)/2) h0 hp hne
  by_cases hji:i=j
  ·rw[if_pos hji]
   exact asP
  ·rw[if_neg hji]
   have:=h.rest j h1 h2 (Ne.symm hji)
   rw[hj]at this
   exact FH asP this
structure Jw (es:List E) (i:Nat):Prop where
 rest:∀j,0<j->j<es.length->(j-1)/2≠i->yO (g es j) (g es ((j-1)/2))=false
 over:∀j,0<j->j<es.length->(j-1)/2=i->0<i->yO (g es j) (g es ((i-1)/2))=false
structure apW (es:List E) (i l k:Nat):Prop where
 lt:l<es.length
 who:l=i\/l=2*i+1\/l=2*i+2
 self:yO (g es i) (g es l)=false
 kids:∀j,2*i+1<=j->j<k->j<es.length->yO (g es j) (g es l)=false
def amq {es:List E}{i:Nat}(h:Jw es i)(hs:∀j,2*i+1<=j->j<=2*i+2->j<es.length->yO (g es j) (g es i)=false):yP es:=by
 intro j h1 h2
 by_cases hj:(j-1)/2=i
 ·rw[hj];exact hs j (by omega) (by omega) h2
 ·exact h.rest j h1 h2 hj
def amr {es:List E}{i l:Nat}(h:Jw es i)(hi:i<es.length)(hl:l<es.length)(hw:l=2*i+1\/l=2*i+2)(hs:yO (g es i) (g es l)=false)
  (hk:∀j,2*i+1<=j->j<=2*i+2->j<es.length->yO (g es j) (g es l)=false):Jw (swap es i l) l:=by
 have hne:l≠i:=by omega
 constructor
 ·intro j h1 h2 hj
  rw[qT]at h2
  rw[H9 hi hl,H9 hi hl,if_neg (show l≠(j-1)/2 from λe=>hj e.symm)]
  by_cases hpi:i=(j-1)/2
  ·rw[if_pos hpi]
   by_cases hlj:l=j
   ·rw[if_pos hlj];exact hs
   ·rw[if_neg hlj,if_neg (show i≠j by omega)]
    exact hk j (by omega) (by omega) h2
  ·rw[if_neg hpi,if_neg (show l≠j by omega)]
   by_cases hij:i=j
   ·subst hij
    rw[if_pos rfl]
    exact h.over l (by omega) hl (by omega) h1
   ·rw[if_neg hij]
    exact h.rest j h1 h2 (Ne.symm hpi)
 ·intro j h1 h2 hj h0
  rw[qT]at h2
  have e:(l-1)/2=i:=by omega
  rw[e,H9 hi hl,H9 hi hl,if_neg (show l≠j by omega),if_neg (show i≠j by omega),if_neg hne,if_pos rfl]
  have:=h.rest j h1 h2 (by omega)
  rw[hj]at this
  exact this
def aj5 {es:List E}(h:yP es):∀j,j<es.length->yO (g es j) (g es 0)=false:=by
 intro j
 induction j using Nat.strongRecOn with
 |_ j ih=>
  intro hj
  by_cases h0:j=0
  ·subst h0;exact YN
  ·exact FH (ih ((j-1)/2) (by omega) (by omega)) (h j (by omega) hj)
def acw {es:List E}(h:yP es){x:E}(hx:x∈es):yO x (g es 0)=false:=by
 obtain⟨j,hj,rfl⟩:=List.getElem_of_mem hx
 have:=aj5 h j hj
 have e:es[j]=g es j:=by have:=DB hj;rw[List.getElem?_eq_getElem hj]at this;exact Option.some.inj this
 rwa[e]
def Se {es:List E}{x:E}{j:Nat}(h:j<es.length):g (es++[x]) j=g es j:=by
 unfold g
 rw[List.getD_eq_getElem?_getD,List.getD_eq_getElem?_getD,List.getElem?_append_left h]
def aoE {es:List E}{x:E}(h:yP es):V1 (es++[x]) es.length:=by
 constructor
 ·intro j h1 h2 hj
  simp only[List.length_append,List.length_cons,List.length_nil]at h2
  rw[Se (by omega),Se (by omega)]
  exact h j h1 (by omega)
 ·intro j h1 h2 hj h0
  simp only[List.length_append,List.length_cons,List.length_nil]at h2
  omega
def aq0 {es:List E}(h:yP es)(h0:0<es.length):Jw ((es.set 0 (g es (es.length-1))).take (es.length-1)) 0:=by
 have hg:∀j,0<j->j<es.length-1->g ((es.set 0 (g es (es.length-1))).take (es.length-1)) j=g es j:=by
  intro j h1 h2
  unfold g
  rw[List.getD_eq_getElem?_getD,List.getD_eq_getElem?_getD,List.getElem?_take,if_pos h2,List.getElem?_set,if_neg (by omega),List.getD_eq_getElem?_getD]
 constructor
 ·intro j h1 h2 hj
  have h2:j<es.length-1:=by simpa using h2
  rw[hg j h1 h2,hg _ (by omega) (by omega)]
  exact h j h1 (by omega)
 ·intro j h1 h2 hj h3
  omega
def aoF {es:List E}(h0:0<es.length):(g es 0::(es.set 0 (g es (es.length-1))).take (es.length-1)).Perm es:=by
 match es,h0 with
 |[x],_=>simp[g]
 |x::y::es,_=>
  have e:g (x::y::es) ((x::y::es).length-1)=(y::es).getLast (by simp):=by
   unfold g
   rw[List.getD_eq_getElem?_getD,List.getElem?_eq_getElem (by simp)]
   simp[List.getLast_eq_getElem]
  rw[e]
  have e2:((x::y::es).set 0 ((y::es).getLast (by simp))).take ((x::y::es).length-1)=(y::es).getLast (by simp)::(y::es).dropLast:=by
   simp[List.dropLast_eq_take]
  rw[e2]
  have e3:g (x::y::es) 0=x:=rfl
  rw[e3]
  refine List.Perm.cons x ?_
  have:=List.dropLast_concat_getLast (l:=y::es) (by simp)
  refine(List.perm_append_singleton _ _).symm.trans ?_
  rw[this]
end Go.Proofs.YtmegplnmiepfbaaGreatDoor.S.Hp
namespace Go.Proofs.YtmegplnmiepfbaaGreatDoor.S.Hp
open Go.Sx
attribute [local irreducible] af cw bq bg aC cf bX St Bx Al App cA cq cm bT aI bw aq bR av aj
def dW:vY P T:=DF P rows GD
def oH {n lo hi:Int}{w:World}{Q:Int->World->Prop}(h1:lo<=hi)(h2:-1099511627776<=lo)(h3:hi<=1099511627776)(h:Q (lo+n%(hi-lo+1)) w):jh n lo hi w Q:=by
 refine tI _ _ _ _ _ ?_
 rw[wrap_i64 (n:=hi-lo) (by omega) (by omega),wrap_i64 (n:=hi-lo+1) (by omega) (by omega)]
 generalize hs:hi-lo+1=s at h
 have h4:=Int.lt_tmod_of_pos n (b:=s) (by omega)
 have h5:=Int.tmod_lt_of_pos n (b:=s) (by omega)
 have h6:=Int.tmod_add_mul_tdiv n s
 refine⟨by omega,?_⟩
 generalize ht:Int.tmod n s=t at*
 have e:n%s=t%s:=by rw[<-h6,Int.add_mul_emod_self_left]
 by_cases hn:t<0
 ·rw[decide_eq_true hn,cond_true,wrap_i64 (n:=t+hi) (by omega) (by omega),wrap_i64 (n:=t+hi-lo) (by omega) (by omega),wrap_i64 (n:=t+hi-lo+1) (by omega) (by omega),wrap_i64 (by omega) (by omega)]
  have e2:t%s=t+s:=by rw[<-Int.add_emod_right,Int.emod_eq_of_lt (by omega) (by omega)]
  rw[e,e2]at h
  have e3:t+hi-lo+1=t+s:=by omega
  rw[e3];exact h
 ·rw[decide_eq_false hn,cond_false,wrap_i64 (by omega) (by omega)]
  rw[e,Int.emod_eq_of_lt (by omega) h5]at h
  exact h
def pr (x:E):List Value:=[ae x.1,ae x.2]
def g_ (x:E):(pr x).length=2:=rfl
def EE {F:Nat->Prop}{W w:World}{L:List As}{a b c d:Int}{Q:Bool->World->Prop}(s:Sep F W w L)(h:∀w',Sep F W w' L->Q (yO (a,b) (c,d)) w'):rK a b c d w Q:=by
 refine OO _ _ _ _ _ _ ?_
 refine aT s λb1 w1 s=>?_
 refine aT s λb2 w2 s=>?_
 refine aU s (i:=1) rfl rfl rfl ?_
 refine aU s (i:=0) rfl rfl rfl ?_
 have hh:=h w2 (ai (ai s))
 unfold yO at hh
 by_cases h1:a<c
 ·rw[decide_eq_true h1,cond_true]
  rw[decide_eq_true h1,Bool.true_or]at hh
  exact hh
 ·rw[decide_eq_false h1,cond_false]
  rw[decide_eq_false h1,Bool.false_or]at hh
  refine aU s (i:=1) rfl rfl rfl ?_
  refine aU s (i:=0) rfl rfl rfl ?_
  cases h2:(a==c)with
  |false=>
   rw[cond_false]
   rw[h2,Bool.false_and]at hh
   exact hh
  |true=>
   rw[cond_true]
   rw[h2,Bool.true_and]at hh
   refine aU s (i:=1) rfl rfl rfl ?_
   refine aU s (i:=0) rfl rfl rfl ?_
   exact hh
section
variable {F:Nat->Prop}{W w:World}{L:List As}{i j p b o n c:Nat}{Q:World->Prop}
def aq1 (hij:i≠j):∀(m q:Nat) (es:List E) (w:World),q<=m->q<es.length->es.length=n->n<=4000000000000->V1 es q->∀L:List As,L[i]? =some (av p 351 [.slice (some ⟨b,o,none⟩) n c])->L[j]? =some (aj (some ⟨b,o,none⟩) n c 353 2 (flat pr es))->Sep F W w L->
  (∀w' es',yP es'->es'.Perm es->Sep F W w' (L.set j (aj (some ⟨b,o,none⟩) n c 353 2 (flat pr es')))->Q w')->qF Q (m+1) (sZ p) q w:=by
 intro m
 induction m with
 |zero=>
  intro q es w hq hl hn KN inv L hi hj s h
  obtain rfl:q=0:=by omega
  show uI Q (qF Q 0) _ _ _
  unfold uI
  rw[decide_eq_false (by decide),cond_false]
  refine h w es (acv inv (.inl rfl)) (.refl _) ?_
  rw[qV hj]
  exact s
 |succ m ih=>
  intro q es w hq hl hn KN inv L hi hj s h
  show uI Q (qF Q (m+1)) _ _ _
  unfold uI
  by_cases h0:q=0
  ·subst h0
   rw[decide_eq_false (by decide),cond_false]
   refine h w es (acv inv (.inl rfl)) (.refl _) ?_
   rw[qV hj]
   exact s
  ·rw[decide_eq_true (by omega),cond_true]
   have e1:IntKind.wrap .i64 (Int.tdiv (IntKind.wrap .i64 ((q:Int)-1)) 2)=(((q-1)/2:Nat):Int):=by
    rw[wrap_i64 (n:=(q:Int)-1) (by omega) (by omega),Int.tdiv_eq_ediv_of_nonneg (by omega),wrap_i64 (by omega) (by omega)]
    omega
   rw[e1]
   have s':Sep F W w.drew L:=s
   have gq:=DB hl
   have hp:(q-1)/2<es.length:=by omega
   have gp:=DB hp
   refine⟨by decide,ah ?_⟩
   refine bC s' rfl hi rfl ?_
   refine⟨by omega,by omega,ah ?_⟩
   rw[show((q:Int)).toNat=q from rfl,show((((q-1)/2:Nat):Int)).toNat=(q-1)/2 from rfl]
   refine eA g_ s' hj gq (j:=0) (dN ..) rfl ?_
   refine eA g_ s' hj gq (j:=1) (dN ..) rfl (ah ?_)
   refine bC s' rfl hi rfl ?_
   refine⟨by omega,by omega,ah ?_⟩
   refine eA g_ s' hj gp (j:=0) (dN ..) rfl ?_
   refine eA g_ s' hj gp (j:=1) (dN ..) rfl ?_
   refine EE s' λw1 s1=>?_
   cases hs:yO (g es q) (g es ((q-1)/2))with
   |false=>
    rw[Bool.not_false,cond_true]
    refine h w1 es (acv inv (.inr hs)) (.refl _) ?_
    rw[qV hj]
    exact s1
   |true=>
    rw[Bool.not_true,cond_false]
    have s2:Sep F W w1.drew L:=s1
    refine ah ?_
    refine bC s2 rfl hi rfl (ah ?_)
    refine bC s2 rfl hi rfl (ah ?_)
    refine bC s2 rfl hi rfl ?_
    refine⟨by omega,by omega,ah ?_⟩
    refine eA g_ s2 hj gp (j:=0) (dN ..) rfl ?_
    refine eA g_ s2 hj gp (j:=1) (dN ..) rfl (ah ?_)
    refine bC s2 rfl hi rfl ?_
    refine⟨by omega,by omega,ah ?_⟩
    refine eA g_ s2 hj gq (j:=0) (dN ..) rfl ?_
    refine eA g_ s2 hj gq (j:=1) (dN ..) rfl ?_
    refine⟨by omega,by omega,ah ?_⟩
    have hjL:j<L.length:=(List.getElem?_eq_some_iff.1 hj).1
    refine dD g_ (j:=0) (x':=((g es ((q-1)/2)).1,(g es q).2)) s2 hj gq (dN ..) (by decide) rfl rfl λw3 s3=>?_
    refine dD g_ (j:=1) (x:=((g es ((q-1)/2)).1,(g es q).2)) (x':=g es ((q-1)/2)) s3 (i:=j) (by rw[List.getElem?_set_self hjL]) (by rw[List.getElem?_set_self hl]) (dN ..) (by decide) rfl rfl λw4 s4=>?_
    rw[gS,gS]at s4
    refine⟨by omega,by omega,ah ?_⟩
    have hne:q≠(q-1)/2:=by omega
    have gp':(es.set q (g es ((q-1)/2)))[(q-1)/2]? =some (g es ((q-1)/2)):=by rw[List.getElem?_set_ne hne];exact gp
    refine dD g_ (j:=0) (x':=((g es q).1,(g es ((q-1)/2)).2)) s4 (i:=j) (by rw[List.getElem?_set_self hjL]) gp' (dN ..) (by decide) rfl rfl λw5 s5=>?_
    refine dD g_ (j:=1) (x:=((g es q).1,(g es ((q-1)/2)).2)) (x':=g es q) s5 (i:=j) (by rw[List.getElem?_set_self (by simpa using hjL)]) (by rw[List.getElem?_set_self (by simpa using hp)]) (dN ..) (by decide) rfl rfl λw6 s6=>?_
    rw[gS,gS,gS]at s6
    have s6:Sep F W w6 (L.set j (aj (some ⟨b,o,none⟩) n c 353 2 (flat pr (swap es q ((q-1)/2))))):=s6
    refine ih ((q-1)/2) (swap es q ((q-1)/2)) w6 (by omega) (by rw[qT];exact hp) (by rw[qT];exact hn) KN (aqZ inv (by omega) hl hs) _ (by rw[List.getElem?_set_ne (Ne.symm hij)];exact hi) (by rw[List.getElem?_set_self hjL]) s6 λw' es' k1 k2 k3=>?_
    rw[gS]at k3
    exact h w' es' k1 (k2.trans (swap_perm hl hp)) k3
end
section
variable {F:Nat->Prop}{W w:World}{L:List As}{i j p b o n c:Nat}{Q:World->Prop}
def aj7 {P1:Option Addr->Int->World->Prop}{es:List E}{q:Nat}(hq:q<es.length)(hn:es.length=n)(KN:n<=4000000000000)
  (hi:L[i]? =some (av p 351 [.slice (some ⟨b,o,none⟩) n c]))(hj:L[j]? =some (aj (some ⟨b,o,none⟩) n c 353 2 (flat pr es)))
  (h:∀w' l,Sep F W w' L->apW es q l (2*q+3)->og P1 Q (sZ p) q l w'):
  ∀(m k l:Nat) (w:World),k+m=2*q+3->2*q+1<=k->Sep F W w L->apW es q l k->lU P1 Q (m+1) (sZ p) q l k w:=by
 intro m
 induction m with
 |zero=>
  intro k l w hk HD s hl
  obtain rfl:k=2*q+3:=by omega
  show lT P1 Q (lU P1 Q 0) _ _ _ _ _
  unfold lT
  rw[wrap_i64 (n:=2*(q:Int)) (by omega) (by omega),wrap_i64 (n:=2*(q:Int)+2) (by omega) (by omega),decide_eq_false (by omega),cond_false]
  exact h w l s hl
 |succ m ih=>
  intro k l w hk HD s hl
  show lT P1 Q (lU P1 Q (m+1)) _ _ _ _ _
  unfold lT
  rw[wrap_i64 (n:=2*(q:Int)) (by omega) (by omega),wrap_i64 (n:=2*(q:Int)+2) (by omega) (by omega),decide_eq_true (by omega),cond_true]
  refine ah ?_
  refine bC s rfl hi rfl ?_
  by_cases hkn:k<n
  ·rw[decide_eq_true (by omega),cond_true]
   have s':Sep F W w.drew L:=s
   have gk:=DB (es:=es) (i:=k) (by omega)
   have gl:=DB hl.lt
   have pP:=hl.lt
   refine ah ?_
   refine bC s' rfl hi rfl ?_
   refine⟨by omega,by omega,ah ?_⟩
   rw[show((k:Int)).toNat=k from rfl,show((l:Int)).toNat=l from rfl]
   refine eA g_ s' hj gk (j:=0) (dN ..) rfl ?_
   refine eA g_ s' hj gk (j:=1) (dN ..) rfl (ah ?_)
   refine bC s' rfl hi rfl ?_
   refine⟨by omega,by omega,ah ?_⟩
   refine eA g_ s' hj gl (j:=0) (dN ..) rfl ?_
   refine eA g_ s' hj gl (j:=1) (dN ..) rfl ?_
   refine EE s' λw1 s1=>?_
   rw[wrap_i64 (n:=(k:Int)+1) (by omega) (by omega)]
   cases hs:yO (g es k) (g es l)with
   |true=>
    rw[cond_true]
    refine ih (k+1) k w1 (by omega) (by omega) s1 ⟨by omega,by omega,FH (Mv hs) hl.self,λx h1 h2 h3=>?_⟩
    by_cases hx:x=k
    ·subst hx;exact YN
    ·exact FH (Mv hs) (hl.kids x h1 (by omega) h3)
   |false=>
    rw[cond_false]
    refine ih (k+1) l w1 (by omega) (by omega) s1 ⟨hl.lt,hl.who,hl.self,λx h1 h2 h3=>?_⟩
    by_cases hx:x=k
    ·subst hx;exact hs
    ·exact hl.kids x h1 (by omega) h3
  ·rw[decide_eq_false (by omega),cond_false]
   exact h w l s ⟨hl.lt,hl.who,hl.self,λx h1 h2 h3=>hl.kids x h1 (by omega) h3⟩
def ams (hij:i≠j):∀(m q:Nat) (es:List E) (w:World),es.length<=q+m->q<es.length->es.length=n->n<=4000000000000->Jw es q->∀L:List As,L[i]? =some (av p 351 [.slice (some ⟨b,o,none⟩) n c])->L[j]? =some (aj (some ⟨b,o,none⟩) n c 353 2 (flat pr es))->Sep F W w L->
  (∀w' es',yP es'->es'.Perm es->Sep F W w' (L.set j (aj (some ⟨b,o,none⟩) n c 353 2 (flat pr es')))->Q w')->lV Q (m+1) (sZ p) q w:=by
 intro m
 induction m with
 |zero=>
  intro q es w hq hl
  omega
 |succ m ih=>
  intro q es w hq hl hn KN inv L hi hj s h
  show rj Q (lV Q (m+1)) _ _ _
  unfold rj
  rw[wrap_i64 (n:=2*(q:Int)) (by omega) (by omega),wrap_i64 (n:=2*(q:Int)+1) (by omega) (by omega)]
  refine⟨3,?_⟩
  have e0:(2*(q:Int)+1)=((2*q+1:Nat):Int):=by omega
  rw[e0]
  refine aj7 (n:=n) (c:=c) (b:=b) (o:=o) (P1:=lV Q (m+1)) (L:=L) (F:=F) (W:=W) hl hn KN hi hj (λw1 l s1 hle=>?_) 2 (2*q+1) q w (by omega) (by omega) s ⟨hl,.inl rfl,YN,λx h1 h2 h3=>by omega⟩
  unfold og
  by_cases hlq:l=q
  ·subst hlq
   rw[beq_self_eq_true,cond_true]
   refine h w1 es (amq inv λx h1 h2 h3=>hle.kids x h1 (by omega) h3) (.refl _) ?_
   rw[qV hj]
   exact s1
  ·rw[show(((l:Int))==(q:Int))=false by rw[beq_eq_false_iff_ne];omega,cond_false]
   have s2:Sep F W w1.drew L:=s1
   have Mn:=hle.lt
   have gq:=DB hl
   have gl:=DB Mn
   have hw:l=2*q+1\/l=2*q+2:=by
    rcases hle.who with h|h
    ·exact absurd h hlq
    ·exact h
   refine ah ?_
   refine bC s2 rfl hi rfl (ah ?_)
   refine bC s2 rfl hi rfl (ah ?_)
   refine bC s2 rfl hi rfl ?_
   refine⟨by omega,by omega,ah ?_⟩
   rw[show((q:Int)).toNat=q from rfl,show((l:Int)).toNat=l from rfl]
   refine eA g_ s2 hj gl (j:=0) (dN ..) rfl ?_
   refine eA g_ s2 hj gl (j:=1) (dN ..) rfl (ah ?_)
   refine bC s2 rfl hi rfl ?_
   refine⟨by omega,by omega,ah ?_⟩
   refine eA g_ s2 hj gq (j:=0) (dN ..) rfl ?_
   refine eA g_ s2 hj gq (j:=1) (dN ..) rfl ?_
   refine⟨by omega,by omega,ah ?_⟩
   have hjL:j<L.length:=(List.getElem?_eq_some_iff.1 hj).1
   refine dD g_ (j:=0) (x':=((g es l).1,(g es q).2)) s2 hj gq (dN ..) (by decide) rfl rfl λw3 s3=>?_
   refine dD g_ (j:=1) (x:=((g es l).1,(g es q).2)) (x':=g es l) s3 (i:=j) (by rw[List.getElem?_set_self hjL]) (by rw[List.getElem?_set_self hl]) (dN ..) (by decide) rfl rfl λw4 s4=>?_
   rw[gS,gS]at s4
   refine⟨by omega,by omega,ah ?_⟩
   have hne:q≠l:=by omega
   have gl':(es.set q (g es l))[l]? =some (g es l):=by rw[List.getElem?_set_ne hne];exact gl
   refine dD g_ (j:=0) (x':=((g es q).1,(g es l).2)) s4 (i:=j) (by rw[List.getElem?_set_self hjL]) gl' (dN ..) (by decide) rfl rfl λw5 s5=>?_
   refine dD g_ (j:=1) (x:=((g es q).1,(g es l).2)) (x':=g es q) s5 (i:=j) (by rw[List.getElem?_set_self (by simpa using hjL)]) (by rw[List.getElem?_set_self (by simpa using Mn)]) (dN ..) (by decide) rfl rfl λw6 s6=>?_
   rw[gS,gS,gS]at s6
   have s6:Sep F W w6 (L.set j (aj (some ⟨b,o,none⟩) n c 353 2 (flat pr (swap es q l)))):=s6
   refine ih l (swap es q l) w6 (by rw[qT];omega) (by rw[qT];exact Mn) (by rw[qT];exact hn) KN (amr inv hl Mn hw hle.self λx h1 h2 h3=>hle.kids x h1 (by omega) h3) _ (by rw[List.getElem?_set_ne (Ne.symm hij)];exact hi) (by rw[List.getElem?_set_self hjL]) s6 λw' es' k1 k2 k3=>?_
   rw[gS]at k3
   exact h w' es' k1 (k2.trans (swap_perm hl Mn)) k3
end
end Go.Proofs.YtmegplnmiepfbaaGreatDoor.S.Hp
namespace Go.Proofs.YtmegplnmiepfbaaGreatDoor.S.Hp
open Go.Sx
def oI (p:Nat)(a:Option Addr)(c:Nat)(es:List E):As where
 fp:=λk=>k=p\/∃x,a=some x/\x.block=k
 ok:=λh=>(av p 351 [.slice a es.length c]).ok h/\(aj a es.length c 353 2 (flat pr es)).ok h/\(∀x,a=some x->x.block≠p)/\yP es
 lt:=λh hb k hk=>by
  rcases hk with rfl|hk
  ·exact As.lt _ h hb.1 _ rfl
  ·exact As.lt _ h hb.2.1 _ hk
 fr:=λh h' hb he=>⟨As.fr _ h h' hb.1 λb hb=>he b (.inl hb),As.fr _ h h' hb.2.1 λb hb=>he b (.inr hb),hb.2.2⟩
section
variable {F:Nat->Prop}{W w w':World}{L:List As}{i p c:Nat}{a:Option Addr}{es:List E}
def EF (s:Sep F W w L)(hi:L[i]? =some (oI p a c es)):Sep (oI p a c es).fp w w [av p 351 [.slice a es.length c],aj a es.length c 353 2 (flat pr es)]:=by
 obtain⟨h1,h2,h3,_⟩:=fP s hi
 refine anU h1 h2 (λb hb=>.inl hb) (λb hb=>.inr hb) λb hb hb'=>?_
 obtain⟨x,hx,rfl⟩:=hb'
 exact h3 x hx hb
def Va (s:Sep F W w L)(hi:L[i]? =some (oI p a c es)):yP es:=(fP s hi).2.2.2
def aaz {a':Option Addr}{c':Nat}{es':List E}(s:Sep F W w L)(hi:L[i]? =some (oI p a c es))(s':Sep (oI p a c es).fp w w' [av p 351 [.slice a' es'.length c'],aj a' es'.length c' 353 2 (flat pr es')])(hh:yP es'):
  Sep F W w' (L.set i (oI p a' c' es')):=by
 refine Zk s hi s' ⟨fP s' (i:=0) rfl,fP s' (i:=1) rfl,λx hx e=>?_,hh⟩ λb hb=>?_
 ·exact alm s' (i:=0) (j:=1) rfl rfl (by decide) p rfl ⟨x,hx,e⟩
 ·rcases hb with hb|hb
  ·exact⟨_,List.mem_cons_self,hb⟩
  ·exact⟨_,List.mem_cons_of_mem _ List.mem_cons_self,hb⟩
def Vb (s:Sep F W w L)(hi:L[i]? =some (oI p a c es))(h0:0<es.length):∃b o,a=some ⟨b,o,none⟩:=pI (EF s hi) (i:=1) rfl h0
def aoH (s:Sep F W w L)(hi:L[i]? =some (oI p a c es)):es.length<=c:=(PY (EF s hi) (i:=1) rfl).1
def aq2 {b:Nat}{t:TypeId}{cs:List Value}{m size:Nat}(s:Sep F W w L)(hi:L[i]? =some (av b t cs))(hl:cs.length=m*size)(h1:∀u∈cs,u.oneCell'=true):Src w (sZ b) m size cs:=
 ⟨hl,h1,λj u hj=>by rw[bZ,Nat.zero_add];exact cg s rfl hi hj⟩
def aj9 {p:Nat}{w:World}(h:(av p 351 [.slice none 0 0]).ok w.heap):(oI p none 0 []).ok w.heap:=
 ⟨h,⟨⟨by simp[flat],Nat.le_refl _,by decide,by simp[flat]⟩,.inl ⟨rfl,rfl⟩⟩,λx hx=>(by cases hx),λj h1 h2=>(by simp at h2)⟩
end
def EC {p:Addr}{A B:Prop}(h:B):cond (some p).isNone A B:=h
attribute [local irreducible] af cw bq bg aC cf bX St Bx Al App cA cq cm bT aI bw aq bR av aj
section
variable {F:Nat->Prop}{W w:World}{L:List As}{i p c:Nat}{a:Option Addr}{es:List E}
def Pv {Q:Option Addr->World->Prop}(s:Sep F W w L)(h:∀p w',Sep F W w' (oI p none 0 []::L)->Q (sZ p) w'):B3 w Q:=by
 refine abR _ _ ?_
 refine aT s λp w1 s=>h p w1 ?_
 exact wS (L:=av p 351 [.slice none 0 0]::L) (i:=0) (A':=oI p none 0 []) s rfl Fr.refl (aj9 (fP s (i:=0) rfl)) λb hb=>.inl (by
  rcases hb with hb|⟨x,hx,_⟩
  ·subst hb
   unfold av
   rfl
  ·cases hx)
def aeU {b o n j:Nat}{Q:World->Prop}(hij:i≠j)(hl:0<es.length)(hn:es.length=n)(KN:n<=4000000000000)(inv:V1 es (n-1))(hi:L[i]? =some (av p 351 [.slice (some ⟨b,o,none⟩) n c]))(hj:L[j]? =some (aj (some ⟨b,o,none⟩) n c 353 2 (flat pr es)))(s:Sep F W w L)
  (h:∀w' es',yP es'->es'.Perm es->Sep F W w' (L.set j (aj (some ⟨b,o,none⟩) n c 353 2 (flat pr es')))->Q w'):Bj (sZ p) w Q:=by
 refine Ur _ _ _ ?_
 refine ah ?_
 refine bC s rfl hi rfl ?_
 rw[wrap_i64 (n:=(n:Int)-1) (by omega) (by omega),show((n:Int)-1)=((n-1:Nat):Int) by omega]
 exact⟨n,aq1 hij (n-1) (n-1) es w (Nat.le_refl _) (by omega) hn KN inv L hi hj s h|>λk=>by rwa[show n-1+1=n by omega]at k⟩
def AR {k x:Int}{Q:World->Prop}(s:Sep F W w L)(hi:L[i]? =some (oI p a c es))(hn:es.length<4000000000000)
  (h:∀w' a' c' es',es'.Perm (es++[(k,x)])->Sep F W w' (L.set i (oI p a' c' es'))->Q w'):mD (sZ p) k x w Q:=by
 refine QH _ _ _ _ _ ?_
 refine EC ?_
 have s0:=EF s hi
 have hh:=Va s hi
 refine ah ?_
 refine bC s0 (i:=0) rfl rfl rfl ?_
 refine aT s0 λbx w1 s1=>?_
 have src:=aq2 (m:=1) (size:=2) s1 (i:=0) rfl rfl (λu hu=>by simp at hu;rcases hu with rfl|rfl<;>rfl)
 refine iL dW s1 (i:=2) (size:=2) (bytes:=16) rfl rfl rfl rfl rfl rfl (by decide) rfl src (by simp only[maxLen];omega) (by omega) (λe=>by cases e) λa' c' w2 s2=>?_
 simp only[List.set_cons_zero,List.set_cons_succ]at s2
 have s2:=ai s2
 have e1:flat pr es++[ae k,ae x]=flat pr (es++[(k,x)]):=by rw[gK];rfl
 rw[e1]at s2
 refine ah ?_
 refine ax s2 (i:=0) rfl rfl rfl λw3 s3=>?_
 simp only[List.set_cons_zero,List.set_cons_succ]at s3
 obtain⟨b,o,rfl⟩:=pI s3 (i:=1) rfl (by omega)
 have hl:(es++[(k,x)]).length=es.length+1:=by simp
 refine aeU (i:=0) (j:=1) (n:=es.length+1) (es:=es++[(k,x)]) (by decide) (by omega) hl (by omega) (by rw[show es.length+1-1=es.length by omega];exact aoE hh) rfl rfl s3 λw4 es' q1 q2 s4=>?_
 have hl':es'.length=es.length+1:=by rw[q2.length_eq,hl]
 refine h w4 (some ⟨b,o,none⟩) c' es' q2 (aaz s hi ?_ q1)
 rw[hl']
 exact s4
def acy {Q:Int->World->Prop}(s:Sep F W w L)(hi:L[i]? =some (oI p a c es))(h:Q (es.length:Int) w):Am (sZ p) w Q:=by
 refine S8 _ _ _ ?_
 refine EC (ah ?_)
 exact bC (EF s hi) (i:=0) rfl rfl rfl h
def acz {Q:Int->Int->Bool->World->Prop}(s:Sep F W w L)(hi:L[i]? =some (oI p a c es))(h0:es=[]->∀w',Sep F W w' L->Q 0 0 false w')(h1:0<es.length->∀w',Sep F W w' L->Q (g es 0).1 (g es 0).2 true w'):Ak (sZ p) w Q:=by
 refine S9 _ _ _ ?_
 refine acy s hi ?_
 by_cases he:es.length=0
 ·rw[he]
  exact h0 (List.eq_nil_of_length_eq_zero he) w s
 ·rw[show((es.length:Int)==0)=false by rw[beq_eq_false_iff_ne];omega,cond_false]
  obtain⟨b,o,rfl⟩:=Vb s hi (by omega)
  have s0:=EF s hi
  have s0:Sep (oI p (some ⟨b,o,none⟩) c es).fp w w.drew _:=s0
  have g0:=DB (es:=es) (i:=0) (by omega)
  refine ah ?_
  refine bC s0 (i:=0) rfl rfl rfl ?_
  refine⟨by omega,by omega,ah ?_⟩
  refine eA g_ s0 (i:=1) rfl g0 (j:=0) (anT ..) rfl (ah ?_)
  refine bC s0 (i:=0) rfl rfl rfl ?_
  refine⟨by omega,by omega,ah ?_⟩
  refine eA g_ s0 (i:=1) rfl g0 (j:=1) (dN ..) rfl ?_
  refine⟨vQ s0 (i:=1) rfl (j:=0*2+1) (dN ..) (by rw[rZ g_ g0 (by decide)];rfl),cg s0 (i:=0) rfl rfl rfl,?_⟩
  exact h1 (by omega) w.drew s
def aaA {b o n j:Nat}{Q:World->Prop}(hij:i≠j)(hn:es.length=n)(KN:n<=4000000000000)(inv:Jw es 0)(hi:L[i]? =some (av p 351 [.slice (some ⟨b,o,none⟩) n c]))(hj:L[j]? =some (aj (some ⟨b,o,none⟩) n c 353 2 (flat pr es)))(s:Sep F W w L)
  (h:∀w' es',yP es'->es'.Perm es->Sep F W w' (L.set j (aj (some ⟨b,o,none⟩) n c 353 2 (flat pr es')))->Q w'):zz (sZ p) w Q:=by
 refine QI _ _ _ ?_
 by_cases h0:es.length=0
 ·have Vc:es=[]:=List.eq_nil_of_length_eq_zero h0
  subst Vc
  obtain rfl:n=0:=by simpa using hn.symm
  refine⟨1,?_⟩
  show rj Q (lV Q 0) _ _ _
  unfold rj
  refine⟨1,?_⟩
  show lT _ Q (lU _ Q 0) _ _ _ _ _
  unfold lT
  rw[show decide (IntKind.wrap .i64 (IntKind.wrap .i64 (2*0)+1)<=IntKind.wrap .i64 (IntKind.wrap .i64 (2*0)+2))=true by decide,cond_true]
  refine ah ?_
  refine bC s rfl hi rfl ?_
  rw[show decide (IntKind.wrap .i64 (IntKind.wrap .i64 (2*0)+1)<((0:Nat):Int))=false by decide,cond_false]
  unfold og
  rw[beq_self_eq_true,cond_true]
  refine h w [] (λj h1 h2=>by simp at h2) (.refl _) ?_
  rw[qV hj]
  exact s
 ·exact⟨es.length+1,ams hij es.length 0 es w (by omega) (by omega) hn KN inv L hi hj s h⟩
def Cq {Q:Int->Int->Bool->World->Prop}(s:Sep F W w L)(hi:L[i]? =some (oI p a c es))(KN:es.length<=4000000000000)(h0:es=[]->∀w',Sep F W w' L->Q 0 0 false w')
  (h1:0<es.length->∀w' a' c' es',(g es 0::es').Perm es->Sep F W w' (L.set i (oI p a' c' es'))->Q (g es 0).1 (g es 0).2 true w'):jr (sZ p) w Q:=by
 refine S_ _ _ _ ?_
 refine acz s hi (λhe w1 s1=>?_) λhpos w1 s=>?_
 ·rw[cond_false]
  unfold sJ
  exact h0 he w1 s1
 ·rw[cond_true]
  obtain⟨b,o,rfl⟩:=Vb s hi hpos
  have hh:=Va s hi
  have hcap:=aoH s hi
  have s0:=EF s hi
  have s1:Sep (oI p (some ⟨b,o,none⟩) c es).fp w1 w1.drew _:=s0
  have e1:IntKind.wrap .i64 ((es.length:Int)-1)=((es.length-1:Nat):Int):=by rw[wrap_i64 (by omega) (by omega)];omega
  have gl:=DB (es:=es) (i:=es.length-1) (by omega)
  have g0:=DB (es:=es) (i:=0) hpos
  refine ah ?_
  refine bC s0 (i:=0) rfl rfl rfl (ah ?_)
  refine bC s1 (i:=0) rfl rfl rfl (ah ?_)
  refine bC s1 (i:=0) rfl rfl rfl ?_
  rw[e1]
  refine⟨by omega,by omega,ah ?_⟩
  rw[show(((es.length-1:Nat):Int)).toNat=es.length-1 from rfl]
  refine eA g_ s1 (i:=1) rfl gl (j:=0) (dN ..) rfl ?_
  refine eA g_ s1 (i:=1) rfl gl (j:=1) (dN ..) rfl ?_
  refine⟨by omega,by omega,ah ?_⟩
  refine dD g_ (j:=0) (k:=0) (x':=((g es (es.length-1)).1,(g es 0).2)) s1 (i:=1) rfl g0 (dN ..) (by decide) rfl rfl λw3 s3=>?_
  simp only[List.set_cons_zero,List.set_cons_succ]at s3
  refine dD g_ (j:=1) (k:=0) (x:=((g es (es.length-1)).1,(g es 0).2)) (x':=g es (es.length-1)) s3 (i:=1) rfl (by rw[List.getElem?_set_self hpos]) (dN ..) (by decide) rfl rfl λw4 s4=>?_
  simp only[List.set_cons_zero,List.set_cons_succ,gS]at s4
  refine ah ?_
  refine bC s4 (i:=0) rfl rfl rfl ?_
  refine NK (m:=es.length-1) rfl (by omega) (ah ?_)
  refine ax s4 (i:=0) rfl rfl rfl λw5 s5=>?_
  have s6:=RQ s5 (i:=1) rfl (m:=es.length-1) (by omega)
  rw[TG g_]at s6
  simp only[List.set_cons_zero,List.set_cons_succ]at s6
  have hl:((es.set 0 (g es (es.length-1))).take (es.length-1)).length=es.length-1:=by simp
  refine aaA (i:=0) (j:=1) (by decide) hl (by omega) (aq0 hh hpos) rfl rfl s6 λw7 es' k1 k2 s7=>?_
  unfold sJ
  have hl':es'.length=es.length-1:=by rw[k2.length_eq,hl]
  refine h1 hpos w7 (some ⟨b,o,none⟩) c es' ((List.Perm.cons _ k2).trans (aoF hpos)) (aaz s hi ?_ k1)
  rw[hl']
  exact s7
end
end Go.Proofs.YtmegplnmiepfbaaGreatDoor.S.Hp
namespace Go.Proofs.YtmegplnmiepfbaaGreatDoor.S
open Go.Sx
section
variable {α:Type}{S:α->Int->Prop}{E:α->α->Int->Prop}{f:α->Int}{Q Q':List (Int×α)}
structure Sf (S:α->Int->Prop) (E:α->α->Int->Prop) (cap:Int) (f:α->Int) (Q:List (Int×α)) (P:α->α->Int->Prop):Prop where
 ways:∀x,f x<cap->Wy S E x (f x)
 top:∀x,f x<=cap
 key:∀e∈Q,f e.2<=e.1
 v7:∀x n c,E x n c->f n<cap->(f n,n)∈Q\/f x<=f n+c\/cap<=f n+c\/P x n c
variable {cap:Int}{P P':α->α->Int->Prop}
def Sf.ae8 [DecidableEq α]{f':α->Int}{y:α}{k:Int}(h:Sf S E cap f Q P)(hk:k<f y)(hw:Wy S E y k)(hf:∀x,f' x=if x=y then k else f x)(hq:∀e,e∈Q'↔e∈Q\/e=(k,y))(hP:∀x n c,P x n c->x=y->(∃d,f n=d/\k<=d+c)\/P' x n c)(hP':∀x n c,P x n c->x≠y->P' x n c)(hy:∀x c,P x y c->False):Sf S E cap f' Q' P' where
 ways x hx:=by
  rw[hf]at hx⊢
  split
  ·rename_i e;rw[e];exact hw
  ·rename_i e
   rw[if_neg e]at hx
   exact h.ways x hx
 top x:=by
  rw[hf]
  have:=h.top y
  split
  ·omega
  ·exact h.top x
 key e he:=by
  rw[hf]
  rcases(hq e).1 he with h1|rfl
  ·have:=h.key e h1
   split
   ·rename_i e2;rw[e2]at this;omega
   ·exact this
  ·rw[if_pos rfl];exact Int.le_refl _
 v7 x n c e hn:=by
  have hle:∀z,f' z<=f z:=λz=>by
   rw[hf]
   split
   ·rename_i e;rw[e];omega
   ·exact Int.le_refl _
  by_cases en:n=y
  ·subst en
   left
   rw[hf,if_pos rfl]
   exact(hq _).2 (.inr rfl)
  ·have efn:f' n=f n:=by rw[hf,if_neg en]
   rw[efn]at hn⊢
   rcases h.v7 x n c e hn with h1|h1|h1|h1
   ·exact .inl ((hq _).2 (.inl h1))
   ·have:=hle x
    exact .inr (.inl (by omega))
   ·exact .inr (.inr (.inl h1))
   ·by_cases ex:x=y
    ·subst ex
     rcases hP x n c h1 rfl with⟨d,h2,h3⟩|h2
     ·refine .inr (.inl ?_)
      rw[hf,if_pos rfl]
      omega
     ·exact .inr (.inr (.inr h2))
    ·exact .inr (.inr (.inr (hP' x n c h1 ex)))
def Sf.weaken (h:Sf S E cap f Q P)(hP:∀x n c,P x n c->E x n c->f n<cap->f x<=f n+c\/cap<=f n+c\/P' x n c):Sf S E cap f Q P' where
 ways:=h.ways
 top:=h.top
 key:=h.key
 v7 x n c e hn:=by
  rcases h.v7 x n c e hn with h1|h1|h1|h1
  ·exact .inl h1
  ·exact .inr (.inl h1)
  ·exact .inr (.inr (.inl h1))
  ·rcases hP x n c h1 e hn with h2|h2|h2
   ·exact .inr (.inl h2)
   ·exact .inr (.inr (.inl h2))
   ·exact .inr (.inr (.inr h2))
def Sf.pop {k:Int}{y:α}(h:Sf S E cap f Q λ_ _ _=>False)(hq:∀e,e∈Q↔e∈Q'\/e=(k,y)):Sf S E cap f Q' λx n c=>n=y/\f y=k/\E x n c where
 ways:=h.ways
 top:=h.top
 key e he:=h.key e ((hq e).2 (.inl he))
 v7 x n c e hn:=by
  rcases h.v7 x n c e hn with h1|h1|h1|h1
  ·rcases(hq _).1 h1 with h2|h2
   ·exact .inl h2
   ·cases h2
    exact .inr (.inr (.inr ⟨rfl,rfl,e⟩))
  ·exact .inr (.inl h1)
  ·exact .inr (.inr (.inl h1))
  ·exact h1.elim
def Sf.lci (h:Sf S E cap f Q λ_ _ _=>False)(hs:∀x k,S x k->f x<=k\/cap<=k):LcI S E cap f Q:=⟨h.ways,h.top,hs,λx n c e hn=>by
 rcases h.v7 x n c e hn with h1|h1|h1|h1
 ·exact .inl h1
 ·exact .inr (.inl h1)
 ·exact .inr (.inr h1)
 ·exact h1.elim⟩
end
def D6 (ds:List Int):Nat:=(ds.map Int.toNat).sum
def YP {k:Int}:∀{ds:List Int} {i:Nat},i<ds.length->D6 (ds.set i k)+(gi ds i).toNat=D6 ds+k.toNat
 |[],i,h=>by simp at h
 |d::ds,0,h=>by
  show(k.toNat+(ds.map Int.toNat).sum)+d.toNat=(d.toNat+(ds.map Int.toNat).sum)+k.toNat
  omega
 |d::ds,i+1,h=>by
  have ih:=YP (k:=k) (ds:=ds) (i:=i) (by simpa using h)
  have ih:D6 (ds.set i k)+(gi (d::ds) (i+1)).toNat=D6 ds+k.toNat:=ih
  show(d.toNat+D6 (ds.set i k))+(gi (d::ds) (i+1)).toNat=(d.toNat+D6 ds)+k.toNat
  omega
def agK (k:Int):∀n:Nat,D6 (List.replicate n k)=n*k.toNat
 |0=>by simp[D6]
 |n+1=>by
  have ih:=agK k n
  show k.toNat+D6 (List.replicate n k)=_
  rw[ih,Nat.add_mul]
  omega
def xB:Int:=2147483647
def fC (ds:List Int)(x:Int):Int:=if 0<=x/\x<ds.length then gi ds x.toNat else xB
def agL {ds:List Int}{x k:Int}(hx:0<=x/\x<ds.length)(y:Int):fC (ds.set x.toNat k) y=if y=x then k else fC ds y:=by
 unfold fC
 rw[List.length_set]
 by_cases hy:0<=y/\y<ds.length
 ·rw[if_pos hy,if_pos hy,TL (by omega)]
  by_cases e:y=x
  ·rw[if_pos e,if_pos (by rw[e])]
  ·rw[if_neg e,if_neg (by omega)]
 ·rw[if_neg hy,if_neg hy,if_neg (by rintro rfl;exact hy hx)]
def asR {ds:List Int}{x:Int}(hx:0<=x/\x<ds.length)(hd:∀y∈ds,y<=xB):atF ds x=if fC ds x<xB then fC ds x else bW:=by
 unfold atF fC
 rw[if_pos hx,if_pos hx]
 have:=hd _ (fE (l:=ds) (i:=x.toNat) (by omega))
 by_cases h:gi ds x.toNat=2147483647
 ·rw[if_pos h,if_neg (by unfold xB;omega)]
 ·rw[if_neg h,if_pos (by unfold xB at*;omega)]
section
variable {m:bP}{t:Int}
def fM (dm:List (Int×Int))(c:Int):Int:=(e7 dm c).getD bW
def unM (m:bP)(dm:List (Int×Int)):Nat:=(jG m).countP λc=>decide (fM dm c=bW)
def xp (m:bP)(t:Int):Int->Int->Int->Prop:=s8 (fI m) (cP m) (cP m t)
structure Xi (m:bP) (t:Int) (dm:List (Int×Int)) (es:List (Int×Int)):Prop where
 dj:NP (fJ m t) (xp m t) (fM dm) es
 Dl:∀e∈es,eV m e.2=true/\cP m e.2=cP m t/\0<=e.1
 top:∀e∈es,e.1+254*(unM m dm:Int)<=254*((jG m).length:Int)
 nd:nN dm
 lt:∀c d,e7 dm c=some d->0<=d/\d<1000000000
 nF:es.length+4*unM m dm<=1+4*(jG m).length
def H_ (m:bP)(t x key s:Int):List (Int×Int):=if 0<=aY m.w m.h x s/\aB m.w m.h (aY m.w m.h x s)=aB m.w m.h t/\cE m (aY m.w m.h x s)≠255 then[(key,aY m.w m.h x s)]else[]
def DC (m:bP)(t x key:Int)(j:Nat):List (Int×Int):=(List.range j).flatMap λs:Nat=>H_ m t x key s
def Rn (x key:Int)(j:Nat):DC m t x key (j+1)=DC m t x key j++H_ m t x key j:=by
 unfold DC
 rw[List.range_succ,List.flatMap_append]
 simp
def aj_ (x key s:Int):(H_ m t x key s).length<=1:=by
 unfold H_
 split<;>simp
def Vd (x key:Int):∀j:Nat,(DC m t x key j).length<=j
 |0=>by simp[DC]
 |j+1=>by
  have:=Vd x key j
  have:=aj_ (m:=m) (t:=t) x key j
  rw[Rn,List.length_append]
  omega
def adH {x key:Int}{e:Int×Int}:e∈DC m t x key 4↔∃s:Int,(0<=s/\s<=3)/\(0<=aY m.w m.h x s/\aB m.w m.h (aY m.w m.h x s)=aB m.w m.h t/\cE m (aY m.w m.h x s)≠255)/\e=(key,aY m.w m.h x s):=by
 unfold DC
 rw[List.mem_flatMap]
 constructor
 ·rintro ⟨s,h1,h2⟩
  have h1:=List.mem_range.1 h1
  unfold H_ at h2
  split at h2
  ·rename_i h3
   rw[List.mem_singleton]at h2
   exact⟨s,by omega,h3,h2⟩
  ·simp at h2
 ·rintro ⟨s,h1,h2,rfl⟩
  refine⟨s.toNat,List.mem_range.2 (by omega),?_⟩
  unfold H_
  rw[Int.toNat_of_nonneg h1.1,if_pos h2]
  simp
variable {dm Ia:List (Int×Int)}{es es':List (Int×Int)}{k x:Int}
def ah_:∀x n c,xp m t x n c->0<=c:=λx n c h=>cU _ _ _ h.1
def Xi.skip (h:Xi m t dm es)(hp:((k,x)::es').Perm es)(hx:e7 dm x≠none):Xi m t dm es':=by
 have hm:∀e∈es',e∈es:=λe he=>hp.mem_iff.1 (by simp[he])
 refine⟨h.dj.skip (k:=k) (x:=x) ?_ hm (λe he=>?_),λe he=>h.Dl e (hm e he),λe he=>h.top e (hm e he),h.nd,h.lt,?_⟩
 ·cases ha:e7 dm x with
  |none=>exact(hx ha).elim
  |some d=>
   have:=h.lt x d ha
   unfold fM
   rw[ha]
   show d<bW
   unfold bW
   omega
 ·rcases List.mem_cons.1 (hp.mem_iff.2 he)with h1|h1
  ·exact .inl h1
  ·exact .inr h1
 ·have h1:=hp.length_eq
  have h2:=h.nF
  simp only[List.length_cons]at h1
  omega
def Xi.step (hm:c8 m)(h:Xi m t dm es)(hp:((k,x)::es').Perm es)(hmin:∀e∈es,k<=e.1)(hx:e7 dm x=none)(hnd:nN Ia)(hd:∀y,e7 Ia y=if y=x then some k else e7 dm y){IY:List (Int×Int)}(hp2:IY.Perm (es'++DC m t x (k+cE m x) 4)):
  Xi m t Ia IY/\IY.length+5*unM m Ia+1<=es.length+5*unM m dm:=by
 have hin:(k,x)∈es:=hp.mem_iff.1 (by simp)
 obtain⟨Gj,hsx,C8⟩:=h.Dl _ hin
 have UW:=h.top _ hin
 simp only at Gj hsx C8 UW
 have hxc:=jF hm Gj
 have hcx:=BF Gj
 have hfx:fM dm x=bW:=by unfold fM;rw[hx];rfl
 have hN:((jG m).length:Int)=m.w*m.h:=by rw[<-hm.len];simp[jG]
 have hN2:=oO ⟨hm.w,hm.h⟩
 have Kx:∀y,fM Ia y=if y=x then k else fM dm y:=λy=>by
  unfold fM
  rw[hd]
  split<;>rfl
 have hkI:k<bW:=by unfold bW;omega
 have hun:unM m Ia+1<=unM m dm:=by
  refine Qb (n:=x) (yL hm hxc) (by rw[decide_eq_true_iff];exact hfx) ?_ λy hy=>?_
  ·rw[decide_eq_false_iff_not,Kx,if_pos rfl]
   omega
  ·rw[decide_eq_true_iff]at hy⊢
   rw[Kx]at hy
   split at hy
   ·omega
   ·exact hy
 have BC:∀e,e∈IY↔e∈es'\/e∈DC m t x (k+cE m x) 4:=λe=>by rw[hp2.mem_iff,List.mem_append]
 have told:∀e∈DC m t x (k+cE m x) 4,eV m e.2=true/\cP m e.2=cP m t/\e.1=k+cE m x/\xp m t e.2 x (cE m x):=λe he=>by
  obtain⟨s,hs,⟨h1,h2,h3⟩,rfl⟩:=adH.1 he
  have hc:=(zk h1).2
  have ho:=(BH hm hc).2 h3
  obtain⟨s',hs',hb⟩:=HX hs h1
  exact⟨ho,h2,rfl,⟨ho,Gj,⟨s',hs',hb⟩,rfl⟩,h2,hsx⟩
 have Vc:∀e∈es',e∈es:=λe he=>hp.mem_iff.1 (by simp[he])
 have hl1:=hp.length_eq
 have RZ:=hp2.length_eq
 have hl3:=Vd (m:=m) (t:=t) x (k+cE m x) 4
 have m6:=h.nF
 simp only[List.length_cons]at hl1
 rw[List.length_append]at RZ
 refine⟨⟨?_,?_,?_,hnd,?_,by omega⟩,by omega⟩
 ·refine h.dj.step ah_ (x:=x) (k:=k) (by rw[hfx];exact Int.lt_irrefl _) hkI hin hmin (by rw[Kx,if_pos rfl]) (λy hy=>by rw[Kx,if_neg hy]) (λe he=>?_) (λe he=>?_) λy c hy=>?_
  ·rcases(BC e).1 he with h1|h1
   ·exact .inl (Vc e h1)
   ·have:=told e h1
    exact .inr ⟨_,this.2.2.2,this.2.2.1⟩
  ·rcases List.mem_cons.1 (hp.mem_iff.2 he)with h1|h1
   ·exact .inl h1
   ·exact .inr ((BC e).2 (.inl h1))
  ·obtain⟨⟨h1,h2,⟨s,hs,h3⟩,rfl⟩,h4,h5⟩:=hy
   refine .inr ⟨k+cE m x,Int.le_refl _,(BC _).2 (.inr (adH.2 ?_))⟩
   obtain⟨s',hs',hb⟩:=HX hs (by rw[h3];exact hxc.2.1)
   rw[h3]at hb
   have IZ:=jF hm h1
   exact⟨s',hs',by rw[hb];exact⟨IZ.2.1,h4,(BH hm IZ).1 h1⟩,by rw[hb]⟩
 ·intro e he
  rcases(BC e).1 he with h1|h1
  ·exact h.Dl e (Vc e h1)
  ·have:=told e h1
   exact⟨this.1,this.2.1,by rw[this.2.2.1];omega⟩
 ·intro e he
  rcases(BC e).1 he with h1|h1
  ·have:=h.top e (Vc e h1)
   omega
  ·have:=(told e h1).2.2.1
   omega
 ·intro c d hcd
  rw[hd]at hcd
  split at hcd
  ·cases hcd
   omega
  ·exact h.lt c d hcd
def amt (hm:c8 m)(ho:eV m t=true):Xi m t [] [(0,t)]:=by
 have hf:∀x,fM [] x=bW:=λx=>rfl
 have hu:unM m []=(jG m).length:=by
  unfold unM
  rw[show(λc=>decide (fM [] c=bW))=λ_:Int=>true from funext λc=>by rw[hf];simp]
  exact congrFun List.countP_true _
 refine⟨⟨?_,?_,λx _=>hf x,?_,?_,?_⟩,?_,?_,aiU,?_,by rw[hu];simp⟩
 ·intro e he
  rw[List.mem_singleton]at he
  subst he
  exact .src ⟨rfl,ho,rfl⟩
 ·intro x hx
  rw[hf]at hx
  exact(Int.lt_irrefl _ hx).elim
 ·rintro x k ⟨rfl,_,rfl⟩
  exact .inr ⟨0,Int.le_refl _,by simp⟩
 ·intro x n c _ hn
  rw[hf]at hn
  exact(Int.lt_irrefl _ hn).elim
 ·intro x hx
  rw[hf]at hx
  exact(Int.lt_irrefl _ hx).elim
 ·intro e he
  rw[List.mem_singleton]at he
  subst he
  exact⟨ho,rfl,Int.le_refl _⟩
 ·intro e he
  rw[List.mem_singleton]at he
  subst he
  rw[hu]
  simp
 ·intro c d h
  cases h
def agN (m:bP)(t:Int)(dm:List (Int×Int)):Prop:=∀c,e7 dm c=(if fZ (fJ m t) (xp m t) c<bW then some (fZ (fJ m t) (xp m t) c)else none)/\(fZ (fJ m t) (xp m t) c<bW->0<=fZ (fJ m t) (xp m t) c/\fZ (fJ m t) (xp m t) c<1000000000)
def Xi.done (h:Xi m t dm []):agN m t dm:=λc=>by
 have h1:=h.dj.done c
 unfold fM at h1
 cases ha:e7 dm c with
 |none=>
  rw[ha]at h1
  have h1:fZ (fJ m t) (xp m t) c=bW:=h1
  rw[h1]
  exact⟨by rw[if_neg (Int.lt_irrefl bW)],λh=>(Int.lt_irrefl bW h).elim⟩
 |some d=>
  have h2:=h.lt c d ha
  rw[ha]at h1
  have h1:fZ (fJ m t) (xp m t) c=d:=h1
  rw[h1]
  exact⟨by rw[if_pos (by unfold bW;omega)],λ_=>h2⟩
def amu (ho:¬eV m t=true):agN m t []:=λc=>by
 have:fZ (fJ m t) (xp m t) c=bW:=wU λd hd=>by
  induction hd with
  |src h=>exact ho h.2.1
  |go _ _ ih=>exact ih
 rw[this]
 exact⟨by rw[if_neg (Int.lt_irrefl bW)];rfl,λh=>(Int.lt_irrefl bW h).elim⟩
end
end Go.Proofs.YtmegplnmiepfbaaGreatDoor.S
namespace Go.Proofs.YtmegplnmiepfbaaGreatDoor.S
open Go.Sx
attribute [local irreducible] af cw bq bg aC cf bX St Bx Al App cA cq cm bT aI bw aq bR av aj aV mapA
def aka:P.underlying 207=some (.map 3 3):=by kernel_rfl
def aaC (w:World):(zeroValue 3).run P w=.ok (ae 0) w:=Lr.apU w
def vI (n:Int):Value:=ae n
def aiY {w h c:Int}(hc:bE w h c):ir c:=by
 have:=HH hc
 unfold ir
 omega
section
variable {F:Nat->Prop}{W w w0:World}{L:List As}{fp hp mb hc:Nat}{ha:Option Addr}{gr:tQ}{g:g7}{t:Int}{dm:List (Int×Int)}{es:List (Int×Int)}{vs:List Value}
noncomputable abbrev wiL (hp:Nat)(ha:Option Addr)(hc mb:Nat)(dm es:List (Int×Int)):List As:=[Hp.oI hp ha hc es,fy eX vI mb dm]
def agO {P8:Option Addr->Int->Int->Int->Option Nat->Option Addr->Int->Int->Bool->World->Prop}{Q:Option Nat->World->Prop}{x k:Int}{v0:Value}(hK:rz w0 fp (v0::.pointer (sZ gr.p)::vs))(kg:nJ w0 gr g)(hx:eV g.m x=true)(hk:0<=k/\k<10000000000)
  {Xj:List (Int×Int)}(Vc:Xj.length<100000000)
  (h:∀es' Dm Az w',es'.Perm (Xj++DC g.m t x (k+cE g.m x) 4)->Sep No w0 w' (wiL hp Dm Az mb dm es')->fS P8 Q (sZ fp) t g.m.w g.m.h (some mb) (sZ hp) w'):
  ∀(n s:Nat) (es:List (Int×Int)) (ha:Option Addr) (hc:Nat) (w:World),s+n=4->es.Perm (Xj++DC g.m t x (k+cE g.m x) s)->Sep No w0 w (wiL hp ha hc mb dm es)->iv P8 Q (n+1) (sZ fp) t g.m.w g.m.h (some mb) (sZ hp) k x s w:=by
 intro n
 induction n with
 |zero=>
  intro s es ha hc w hs hp' sp
  show lW P8 Q (iv P8 Q 0) _ _ _ _ _ _ _ _ _ _
  unfold lW
  rw[decide_eq_false (by omega),cond_false]
  obtain rfl:s=4:=by omega
  exact h es ha hc w hp' sp
 |succ n ih=>
  intro s es ha hc w hs hp' sp
  show lW P8 Q (iv P8 Q (n+1)) _ _ _ _ _ _ _ _ _ _
  unfold lW
  rw[decide_eq_true (by omega),cond_true,wrap_i64 (n:=(s:Int)+1) (by omega) (by omega)]
  have skip:∀(w:World),Sep No w0 w (wiL hp ha hc mb dm es)->¬(0<=aY g.m.w g.m.h x s/\aB g.m.w g.m.h (aY g.m.w g.m.h x s)=aB g.m.w g.m.h t/\cE g.m (aY g.m.w g.m.h x s)≠255)->
    iv P8 Q (n+1) (sZ fp) t g.m.w g.m.h (some mb) (sZ hp) k x ((s:Int)+1) w:=λw sp hno=>by
   refine ih (s+1) es ha hc w (by omega) ?_ sp
   rw[Rn]
   unfold H_
   rw[if_neg hno,List.append_nil]
   exact hp'
  refine kj sp λw sp _=>?_
  by_cases h0:aY g.m.w g.m.h x s<0
  ·rw[decide_eq_true h0,cond_true]
   exact skip w sp λe=>by omega
  rw[decide_eq_false h0,cond_false]
  refine eN sp λw sp _=>eN sp λw sp _=>?_
  by_cases h1:aB g.m.w g.m.h (aY g.m.w g.m.h x s)=aB g.m.w g.m.h t
  ·rw[show(aB g.m.w g.m.h (aY g.m.w g.m.h x s) !=aB g.m.w g.m.h t)=false by rw[h1];exact bne_self_eq_false _,cond_false]
   refine ah (dK ((hK.fr (au sp)) 1 _ rfl) (jd (kg.fr (au sp)) ?_))
   by_cases h2:cE g.m (aY g.m.w g.m.h x s)=255
   ·rw[dJ h2,cond_true]
    exact skip w sp λe=>e.2.2 h2
   rw[cM h2,cond_false]
   refine ah (dK ((hK.fr (au sp)) 1 _ rfl) (jd (kg.fr (au sp)) ?_))
   have hcx:=BF hx
   rw[wrap_i64 (n:=k+cE g.m x) (by omega) (by omega)]
   have hl:=hp'.length_eq
   have htl:=Vd (m:=g.m) (t:=t) x (k+cE g.m x) s
   rw[List.length_append]at hl
   refine Hp.AR sp (i:=0) rfl (by omega) λw ha hc IY hp2 sp=>?_
   simp only[List.set_cons_zero]at sp
   refine ih (s+1) IY ha hc w (by omega) ?_ sp
   rw[Rn]
   unfold H_
   rw[if_pos ⟨by omega,h1,h2⟩,<-List.append_assoc]
   exact hp2.trans (List.Perm.append_right _ hp')
  ·rw[show(aB g.m.w g.m.h (aY g.m.w g.m.h x s) !=aB g.m.w g.m.h t)=true by rw[bne_iff_ne];exact h1,cond_true]
   exact skip w sp λe=>h1 e.2.1
def aoI (s:Sep F W w (Hp.oI hp ha hc es::L)){e0:Int×Int}{es':List (Int×Int)}(hp':(Hp.g es 0::es').Perm es):∀e∈es,(Hp.g es 0).1<=e.1:=λe he=>by
 have:=Hp.acw (Hp.Va s (i:=0) rfl) he
 rw[Hp.V0]at this
 omega
def aia {Q:Option Nat->World->Prop}{v0:Value}(hK:rz w0 fp (v0::.pointer (sZ gr.p)::vs))(kg:nJ w0 gr g)
  (h:∀ha hc dm w',nN dm->agN g.m t dm->Sep No w0 w' (wiL hp ha hc mb dm [])->Q (some mb) w'):
  ∀(f:Nat) (es:List (Int×Int)) (dm:List (Int×Int)) (ha:Option Addr) (hc:Nat) (w:World),es.length+5*unM g.m dm<=f->Xi g.m t dm es->Sep No w0 w (wiL hp ha hc mb dm es)->
   fS (gO Q (f+1)) Q (sZ fp) t g.m.w g.m.h (some mb) (sZ hp) w:=by
 have hm:=kg.ok.may
 have hN:(jG g.m).length<=1048576:=by
  have:=oO ⟨hm.w,hm.h⟩
  have e:((jG g.m).length:Int)=g.m.w*g.m.h:=by rw[<-hm.len];simp[jG]
  omega
 intro f
 induction f with
 |zero=>
  intro es dm ha hc w hf I s
  have m6:=I.nF
  obtain rfl:es=[]:=List.eq_nil_of_length_eq_zero (by omega)
  unfold fS
  refine Hp.Cq s (i:=0) rfl (by simp) (λ_ w s=>?_) λh0=>by simp at h0
  show iP Q (gO Q 0) _ _ _ _ _ _ _ _ _ _
  unfold iP
  rw[cond_false]
  exact h ha hc dm w I.nd I.done s
 |succ f ih=>
  intro es dm ha hc w hf I s
  have m6:=I.nF
  unfold fS
  refine Hp.Cq s (i:=0) rfl (by omega) (λe w s=>?_) λh0 w Dm Az es' hp' sN=>?_
  ·subst e
   show iP Q (gO Q (f+1)) _ _ _ _ _ _ _ _ _ _
   unfold iP
   rw[cond_false]
   exact h ha hc dm w I.nd I.done s
  ·have hmin:=aoI (e0:=(0,0)) s hp'
   simp only[List.set_cons_zero]at sN
   have s:=sN
   generalize hge:Hp.g es 0=e0 at hp' hmin⊢
   obtain⟨k,x⟩:=e0
   have hin:(k,x)∈es:=hp'.mem_iff.1 (by simp)
   obtain⟨Gj,hsx,C8⟩:=I.Dl _ hin
   have UW:=I.top _ hin
   simp only at Gj hsx C8 UW hmin
   show iP Q (gO Q (f+1)) _ _ _ _ _ _ _ _ _ _
   unfold iP
   rw[cond_true]
   have hxI:=aiY (jF hm Gj)
   have hlen:=hp'.length_eq
   simp only[List.length_cons]at hlen
   refine Dz (K:=eX) (v:=vI) (x:=x) (c:=true) aka (aaC w) s (i:=1) rfl I.nd hxI (λhx=>?_) λd hx=>?_
   ·show bw P (Instr.mapUpdate _ _ _ _) _ _
    refine KM (K:=eX) (v:=vI) (x:=x) (a:=k) aka s (i:=1) rfl I.nd hxI λIa w' hnd hd _ s=>?_
    simp only[List.set_cons_zero,List.set_cons_succ]at s
    refine⟨5,agO (Xj:=es') hK kg Gj ⟨C8,by omega⟩ (by omega) (λIY Mw NM w2 hp2 s2=>?_) 4 0 es' Dm Az w' rfl (by show es'.Perm (es'++[]);rw[List.append_nil]) s⟩
    obtain⟨I2,hM⟩:=I.step hm hp' hmin hx hnd hd hp2
    exact ih IY Ia Mw NM w2 (by omega) I2 s2
   ·show fS (gO Q (f+1)) Q _ _ _ _ _ _ _
    exact ih es' dm Dm Az w (by omega) (I.skip hp' (by rw[hx];exact Option.some_ne_none d)) s
def agP {Q:Option Nat->World->Prop}{v0:Value}(s0:Sep F W w L)(hK:rz w fp (v0::.pointer (sZ gr.p)::vs))(kg:nJ w gr g)(ht:bE g.m.w g.m.h t)
  (h:∀mb dm w',nN dm->agN g.m t dm->Sep F W w' (fy eX vI mb dm::L)->Fr No w w'->Q (some mb) w'):tD (sZ fp) t w Q:=by
 refine Jd _ _ _ _ ?_
 have hm:=kg.ok.may
 refine ah (dK (hK 1 _ rfl) ?_)
 refine je (bt (F:=No) (w:=w)) kg λw1 s _=>?_
 refine YL (α:=Int) s _ eX vI λmb w1 s=>?_
 refine ah (dK ((hK.fr (au s)) 1 _ rfl) (jd (kg.fr (au s)) ?_))
 have hop:=BH hm ht
 by_cases hw:cE g.m t=255
 ·rw[dJ hw,cond_true]
  exact h mb [] w1 aiU (amu λe=>(hop.1 e) hw) (dY s0 s (i:=0) rfl) (au s)
 rw[cM hw,cond_false]
 have ho:=hop.2 hw
 refine Hp.Pv s λhp w1 s=>?_
 refine Hp.AR s (i:=0) rfl (by simp) λw1 ha hc es hp' s=>?_
 simp only[List.set_cons_zero]at s
 have e1:es=[(0,t)]:=by
  have:es.Perm [(0,t)]:=hp'
  exact List.perm_singleton.1 this
 subst e1
 have I:=amt hm ho
 have:=aia (Q:=Q) (fp:=fp) (hp:=hp) (mb:=mb) (t:=t) hK kg (λha hc dm w' hnd hin s=>h mb dm w' hnd hin (dY s0 s (i:=1) rfl) (au s)) _ [(0,t)] [] ha hc w1 (Nat.le_refl _) I s
 unfold fS at this
 refine Gf (λa b c w q=>⟨_,q⟩) this
end
def KQ:∀l:List Int,flat mN l=l.map λx=>Value.int .i32 x
 |[]=>rfl
 |x::l=>by
  have:=KQ l
  simp only[flat,List.flatMap_cons,List.map_cons]at this⊢
  rw[this]
  rfl
def YQ (x:Int)(u:Value)(h:u∈mN x):u.oneCell'=true:=by
 simp only[mN,List.mem_singleton]at h
 rw[h]
 rfl
def akb {v z:Int}{n k N:Nat}(hk:k<=n)(hN:n+k<=N):
  (flat mN (List.replicate n v++List.replicate (N-n) z)).take (n*1)++(flat mN ((List.replicate n v++List.replicate (N-n) z).take n)).take (k*1)++(flat mN (List.replicate n v++List.replicate (N-n) z)).drop ((n+k)*1)=flat mN (List.replicate (n+k) v++List.replicate (N-(n+k)) z):=by
 simp only[KQ,Nat.mul_one]
 rw[<-List.map_take,<-List.map_take,<-List.map_drop,<-List.map_append,<-List.map_append]
 congr 1
 rw[List.take_left' (by simp),List.take_replicate,Nat.min_eq_left hk,List.replicate_append_replicate,<-List.drop_drop,List.drop_left' (by simp),List.drop_replicate,Nat.sub_sub]
section
variable {F:Nat->Prop}{W w w0:World}{L:List As}{xa:Option Addr}{xc:Nat}{v:Int}
def aeV {Q:Option Addr->Nat->Nat->World->Prop}{b N:Nat}(hN:N<=1048576)(h:∀w',Sep No w0 w' (aj (sZ b) N N 21 1 (flat mN (List.replicate N v))::L)->Q (sZ b) N N w'):
  ∀(m n:Nat) (w:World),N<=n+m->1<=n->n<=N->Sep No w0 w (aj (sZ b) N N 21 1 (flat mN (List.replicate n v++List.replicate (N-n) 0))::L)->jo Q (m+1) (sZ b) N N n w:=by
 have done:∀(R:Option Addr->Nat->Nat->Int->World->Prop) (w:World),Sep No w0 w (aj (sZ b) N N 21 1 (flat mN (List.replicate N v++List.replicate (N-N) 0))::L)->jn Q R (sZ b) N N N w:=λR w s=>by
  unfold jn
  rw[decide_eq_false (by omega),cond_false]
  rw[Nat.sub_self,List.replicate_zero,List.append_nil]at s
  exact h _ s
 intro m
 induction m with
 |zero=>
  intro n w hm h1 h2 s
  have:n=N:=by omega
  subst this
  exact done _ _ s
 |succ m ih=>
  intro n w hm h1 h2 s
  show jn Q (jo Q (m+1)) _ _ _ _ _
  by_cases hn:n=N
  ·subst hn
   exact done _ _ s
  ·unfold jn
   rw[decide_eq_true (by omega),cond_true]
   refine NL (m:=n) rfl h2 ?_
   rw[if_neg (by omega)]
   refine NK (m:=n) rfl h2 ?_
   have s:=ay s
   have hT:=(aK s (i:=0) rfl uO (by decide)).top h2
   refine DI (size:=1) (p:=n) dW s rfl rfl rfl rfl (by decide) (i:=0) rfl (hT.src (e:=21) uO YQ) (by omega) (by simp[Addr.add];omega) λw s=>?_
   simp only[List.set_cons_zero]at s
   rw[akb (Nat.min_le_left _ _) (by omega)]at s
   have e:IntKind.wrap .i64 ((n:Int)+((min n (N-n):Nat):Int))=((n+min n (N-n):Nat):Int):=by
    rw[wrap_i64 (by omega) (by omega)]
    omega
   rw[e]
   exact ih _ w (by omega) (by omega) (by omega) s
def acA {N:Nat}{Q:Option Addr->Nat->Nat->World->Prop}(s0:Sep F W w L)(hA:Sl w xa 1 xc 1 mN [v])(hN:1<=N/\N<=1048576)
  (h:∀ra w',Sep F W w' (aj ra N N 21 1 (flat mN (List.replicate N v))::L)->Fr No w w'->Q ra N N w'):oL xa 1 xc N w Q:=by
 refine EO _ _ _ _ _ _ ?_
 rw[decide_eq_false (by omega),cond_false,jV (n:=((1:Nat):Int)) (by decide),jV (n:=(N:Int)) (by omega)]
 refine Cm (by decide) (by omega) (by omega) ?_
 have e1:((1:Nat):Int)*N=N:=by omega
 rw[e1,decide_eq_false (by decide),cond_false,decide_eq_false (by omega),cond_false,wrap_i64 (n:=(N:Int)) (by omega) (by omega)]
 refine uw (f:=mN) (x0:=0) (size:=1) (bytes:=4) (ln:=N) (cn:=N) dW (bt (F:=No) (w:=w)) rfl rfl rfl rfl rfl rfl (by decide) uO rfl (λu hu=>YQ 0 u hu) rfl rfl (Nat.le_refl _) (by omega) (by simp only[maxLen];omega) λb w' s=>?_
 refine DI (size:=1) (p:=0) (news:=flat mN [v]) dW s rfl rfl rfl rfl (by decide) (i:=0) rfl ((hA.fr (au s)).src (e:=21) uO YQ) (by omega) rfl λw' s=>?_
 simp only[List.set_cons_zero]at s
 have hm:min 1 N=1:=by omega
 rw[hm]at s⊢
 have e2:(flat mN (List.replicate N 0)).take (0*1)++(flat mN [v]).take (1*1)++(flat mN (List.replicate N 0)).drop ((0+1)*1)=flat mN (List.replicate 1 v++List.replicate (N-1) 0):=by
  simp only[KQ,Nat.zero_mul,List.take_zero,List.nil_append,Nat.mul_one,Nat.zero_add]
  rw[<-List.map_take,<-List.map_drop,<-List.map_append,List.drop_replicate]
  rfl
 rw[e2]at s
 exact⟨N+1,aeV hN.2 (λw' s=>h _ _ (dY s0 s (i:=0) rfl) (au s)) N 1 w' (by omega) (by omega) hN.1 s⟩
end
def SN (m:bP)(t:Int):Int->Int->Prop:=JJ (fJ m t) (fI m) (cP m) (mZ m) t
def EN (m:bP):Int->Int->Int->Prop:=Ik (fI m) (cP m) (mZ m)
structure Mx (m:bP) (t:Int) (M:Nat) (es:List (Int×Int)) (ds:List Int) (P:Int->Int->Int->Prop):Prop where
 lc:Sf (SN m t) (EN m) xB (fC ds) es P
 len:(ds.length:Int)=m.w*m.h
 jR:agp ds
 nod:∀e∈es,mZ m e.2/\bE m.w m.h e.2/\0<=e.1/\e.1<xB
 nF:es.length+D6 ds<=M
section
variable {m:bP}{t:Int}{M:Nat}{es es':List (Int×Int)}{ds:List Int}{P P':Int->Int->Int->Prop}{y k:Int}
def Ro (hy:0<=y/\y<ds.length):fC ds y=gi ds y.toNat:=if_pos hy
def Mx.ae8 (h:Mx m t M es ds P)(hy:mZ m y)(IZ:bE m.w m.h y)(hk:0<=k/\k<gi ds y.toNat)(hw:Wy (SN m t) (EN m) y k)(hp:es'.Perm (es++[(k,y)]))(hP:∀x n c,P x n c->x=y->(∃d,fC ds n=d/\k<=d+c)\/P' x n c)(hP':∀x n c,P x n c->x≠y->P' x n c)(hn:∀x c,P x y c->False):
  Mx m t M es' (ds.set y.toNat k) P':=by
 have R_:0<=y/\y<ds.length:=by rw[h.len];exact IZ.2
 have hfy:=Ro R_
 have hr:=h.jR _ (fE (l:=ds) (i:=y.toNat) (by omega))
 have hq:∀e,e∈es'↔e∈es\/e=(k,y):=λe=>by rw[hp.mem_iff,List.mem_append,List.mem_singleton]
 refine⟨h.lc.ae8 (by rw[hfy];exact hk.2) hw (agL R_) hq hP hP' hn,by rw[List.length_set];exact h.len,λx hx=>?_,λe he=>?_,?_⟩
 ·rcases List.mem_or_eq_of_mem_set hx with hx|rfl
  ·exact h.jR x hx
  ·omega
 ·rcases(hq e).1 he with he|rfl
  ·exact h.nod e he
  ·exact⟨hy,IZ,hk.1,by unfold xB;omega⟩
 ·have h1:=hp.length_eq
  have h2:=YP (k:=k) (ds:=ds) (i:=y.toNat) (by omega)
  have h3:=h.nF
  rw[List.length_append,List.length_singleton]at h1
  omega
def amx:∀x k,SN m t x k->0<=k:=λx k h=>by
 obtain⟨_,_,⟨d,hd⟩,rfl⟩:=h
 exact mB kH (λx n c h=>cU _ _ _ h.1) (qx kH (λx n c h=>cU _ _ _ h.1) hd).1
def adI:∀x n c,EN m x n c->0<=c:=λx n c h=>by
 obtain⟨_,hn2,⟨h1,_,⟨d,hd⟩,rfl⟩|⟨_,h1⟩⟩:=h
 ·exact mB (λx k h=>by rw[h.2];exact Int.le_refl _) (λx n c h=>cU _ _ _ h.1) (qx (λx k h=>by rw[h.2];exact Int.le_refl _) (λx n c h=>cU _ _ _ h.1) hd).1
 ·exact cU _ _ _ h1
def G4 (m:bP)(t:Int)(ds:List Int):Prop:=(ds.length:Int)=m.w*m.h/\∀x,mZ m x->bE m.w m.h x->atF ds x=D m t x
def Mx.done (hm:c8 m)(h:Mx m t M [] ds λ_ _ _=>False)(hs:∀x k,SN m t x k->fC ds x<=k\/xB<=k):G4 m t ds:=by
 refine⟨h.len,λx hx hc=>?_⟩
 have hxr:0<=x/\x<ds.length:=by rw[h.len];exact hc.2
 rw[asR hxr λy hy=>(h.jR y hy).2,<-ar8 hm hx]
 have hN:=oO ⟨hm.w,hm.h⟩
 have hB:∀d,Wy (SN m t) (EN m) x d->fZ (SN m t) (EN m) x<xB:=λd hd=>by
  have h1:fZ (SN m t) (EN m) x=D m t x:=ar8 hm hx
  have h2:=an9 hm (LW Ez cU (qR hm) hd)
  rw[h1]
  unfold xB
  omega
 exact(LcI.done (h.lc.lci hs) amx adI hB (by decide)).symm
def amy (hm:c8 m):Mx m t ((m.w*m.h).toNat*2147483647) [] (List.replicate (m.w*m.h).toNat xB) λ_ _ _=>False:=by
 have hN:=oO ⟨hm.w,hm.h⟩
 have hf:∀x,fC (List.replicate (m.w*m.h).toNat xB) x=xB:=λx=>by
  unfold fC
  split
  ·rename_i h
   rw[List.length_replicate]at h
   unfold gi
   rw[List.getD_eq_getElem?_getD,List.getElem?_replicate,if_pos (by omega)]
   rfl
  ·rfl
 refine⟨⟨λx hx=>?_,λx=>?_,λe he=>by simp at he,λx n c _ hn=>?_⟩,by rw[List.length_replicate];omega,λx hx=>?_,λe he=>by simp at he,?_⟩
 ·rw[hf]at hx
  exact(Int.lt_irrefl _ hx).elim
 ·rw[hf];exact Int.le_refl _
 ·rw[hf]at hn
  exact(Int.lt_irrefl _ hn).elim
 ·rw[List.mem_replicate]at hx
  rw[hx.2]
  unfold xB
  omega
 ·rw[agK]
  show 0+_<=_
  rw[Nat.zero_add]
  exact Nat.le_refl _
end
section
variable {F:Nat->Prop}{W w w0:World}{L:List As}{fp hp mb hc M:Nat}{ha:Option Addr}{rr:wO}{r:AP}{x:m_}{gr:tQ}{g:g7}{t:Int}{dm es:List (Int×Int)}{ds:List Int}{vs:List Value}
abbrev seL (hp:Nat)(ha:Option Addr)(hc:Nat)(es:List (Int×Int))(rr:wO)(t ep:Int)(ds:List Int):List As:=[yJ rr ⟨t,ep,ds⟩,Hp.oI hp ha hc es]
def asS:zc T 292=[ae 0,ae 0]:=rfl
def agS {Q:Option Addr->World->Prop}{sI:Option Addr->Addr->Option Addr->Int->Int->Bool->World->Prop}{k node:Int}(hm:c8 g.m)(hk:0<=k/\k<xB)(hn:mZ g.m node)(hnc:bE g.m.w g.m.h node)(hM:M<4000000000000)
  (h:∀Dm Az es' ds' w',Mx g.m t M es' ds' (λ_ _ _=>False)->(∀x,fC ds' x<=fC ds x)->es'.length+D6 ds'<=es.length+D6 ds->Sep No w0 w' (seL hp Dm Az es' rr t g.ep ds')->gy sI Q (sZ fp) (aZ rr.p) (sZ hp) w'){ea:Option Addr}{en ec:Nat}:
  ∀(n i:Nat) (es1:List (Int×Int)) (My:List Int) (ha1:Option Addr) (U1:Nat) (w:World),i+n=en->Mx g.m t M es1 My (λx n c=>n=node/\(x,c)∈(FD g.m node).drop i)->fC My node=k->(∀x,fC My x<=fC ds x)->es1.length+D6 My<=es.length+D6 ds->
   Sep No w0 w (aj ea en ec 292 2 (flat BD (FD g.m node))::seL hp ha1 U1 es1 rr t g.ep My)->jA sI Q (n+1) (sZ fp) (aZ rr.p) (sZ hp) k ea en ec en i w:=by
 intro n
 induction n with
 |zero=>
  intro i es1 My ha1 U1 w hi I hkn hmono hsum s
  show lY sI Q (jA sI Q 0) _ _ _ _ _ _ _ _ _ _
  unfold lY
  have hen:=(aK s (i:=0) rfl O_ (by decide)).len
  rw[decide_eq_false (by omega),cond_false]
  refine h ha1 U1 es1 My w ⟨I.lc.weaken λx n c hP _ _=>?_,I.len,I.jR,I.nod,I.nF⟩ hmono hsum (ai s)
  rw[List.drop_eq_nil_of_le (by omega)]at hP
  simp at hP
 |succ n ih=>
  intro i es1 My ha1 U1 w hi I hkn hmono hsum s
  show lY sI Q (jA sI Q (n+1)) _ _ _ _ _ _ _ _ _ _
  unfold lY
  have hE:=aK s (i:=0) rfl O_ (by decide)
  have hen:=hE.len
  rw[decide_eq_true (by omega),cond_true,wrap_i64 (n:=(i:Int)+1) (by omega) (by unfold xB at hk;have:=I.nF;have:=hE.le;have:=(PY s (i:=0) rfl).2;simp only[maxLen]at this;omega)]
  refine hE.El (k:=i) rfl (by omega) λp e he wK=>?_
  obtain⟨y,c⟩:=e
  have hem:(y,c)∈FD g.m node:=List.mem_of_getElem? he
  have hE1:=(agD hm hn hnc).1 hem
  have hc0:=adI _ _ _ hE1
  have hyn:mZ g.m y:=hE1.1
  have hne:y≠node:=by
   obtain⟨_,_,⟨_,h2,_⟩|⟨h2,_⟩⟩:=hE1
   ·exact h2
   ·exact λe=>h2 (by rw[e])
  have IZ:bE g.m.w g.m.h y:=by
   obtain⟨_,_,⟨h1,_⟩|⟨_,h1⟩⟩:=hE1
   ·have:y∈aR g.m (cP g.m node):=by
     have h3:mZ g.m y:=hyn
     unfold mZ at h3
     rwa[show cP g.m y=cP g.m node from h1]at h3
    exact(l9 (bS hnc) this).2.1
   ·exact jF hm h1.1
  have hcb:c<1000000000:=by
   obtain⟨_,_,⟨h1,_,hw,h2⟩|⟨_,h1⟩⟩:=hE1
   ·have e1:=Pn hm (bS hnc) (a:=y) (b:=node) ⟨IZ,h1⟩ ⟨hnc,rfl⟩
    have Sa:=(l9 (bS hnc) hn).1
    have h3:=YB hm (bS hnc) (a:=y) (b:=node) ⟨IZ,h1⟩ ⟨hnc,rfl⟩ Sa
    have h4:=(YA hm (bS hnc) (a:=y) (b:=node) ⟨IZ,h1⟩ ⟨hnc,rfl⟩ Sa).2 hw
    have h5:=h3.2.1 h4
    rw[e1]at h5
    have h2:c=fZ (E3 node) (s8 (fI g.m) (cP g.m) (aB g.m.w g.m.h node)) y:=h2
    omega
   ·have:=Fz h1
    omega
  have R_:0<=y/\y<My.length:=by rw[I.len];exact IZ.2
  have aaf:(FD g.m node).drop i=(y,c)::(FD g.m node).drop (i+1):=by
   obtain⟨Ed,hx⟩:=List.getElem?_eq_some_iff.1 he
   rw[List.drop_eq_getElem_cons Ed,hx]
  unfold xB at hk
  refine aP (wK 0 _ rfl) (aP (wK 1 _ rfl) ?_)
  refine a_ s λeb w s=>?_
  simp only[asS]at s
  refine ax s (i:=0) rfl rfl rfl λw s=>?_
  refine ax s (i:=0) rfl rfl rfl λw s=>?_
  simp only[List.set_cons_zero,List.set_cons_succ]at s
  refine aU s (i:=0) rfl rfl rfl (aU s (i:=0) rfl rfl rfl ?_)
  rw[wrap_i64 (n:=k+c) (by omega) (by omega)]
  have s:Sep No w0 w [yJ rr ⟨t,g.ep,My⟩,Hp.oI hp ha1 U1 es1,aj ea en ec 292 2 (flat BD (FD g.m node)),av eb 292 [ae y,ae c]]:=bH [2,3,1,0] s rfl (by decide)
  have hkw:Wy (SN g.m t) (EN g.m) y (k+c):=.go hE1 (by
   have:=I.lc.ways node (by rw[hkn];unfold xB;omega)
   rw[hkn]at this
   exact this)
  have hlen:=I.nF
  refine Ko s (t:=⟨t,g.ep,My⟩) R_ ⟨by omega,by omega⟩ (λhno=>?_) λhyes w s=>?_
  ·rw[cond_false]
   refine ih (i+1) es1 My ha1 U1 w (by omega) ⟨I.lc.weaken λx n2 c2 hP _ _=>?_,I.len,I.jR,I.nod,I.nF⟩ hkn hmono hsum (bH [2,0,1] s rfl (by decide))
   obtain⟨rfl,h2⟩:=hP
   rw[aaf]at h2
   rcases List.mem_cons.1 h2 with h2|h2
   ·simp only[Prod.mk.injEq]at h2
    obtain⟨rfl,rfl⟩:=h2
    left
    rw[hkn,Ro R_]
    exact hno
   ·exact .inr (.inr ⟨rfl,h2⟩)
  ·rw[cond_true]
   simp only at hyes
   refine aU s (i:=3) rfl rfl rfl (aU s (i:=3) rfl rfl rfl ?_)
   rw[wrap_i64 (n:=k+c) (by omega) (by omega)]
   refine Hp.AR s (i:=1) rfl (by omega) λw Mw NM IY hp2 s=>?_
   simp only[List.set_cons_zero,List.set_cons_succ]at s
   have I2:Mx g.m t M IY (My.set y.toNat (k+c)) (λx n c=>n=node/\(x,c)∈(FD g.m node).drop (i+1)):=by
    refine I.ae8 hyn IZ ⟨by omega,hyes⟩ hkw hp2 (λx n2 c2 hP ex=>?_) (λx n2 c2 hP ex=>?_) λx c2 hP=>hne hP.1
    ·obtain⟨rfl,h2⟩:=hP
     rw[aaf]at h2
     rcases List.mem_cons.1 h2 with h2|h2
     ·simp only[Prod.mk.injEq]at h2
      obtain⟨_,rfl⟩:=h2
      exact .inl ⟨_,rfl,by omega⟩
     ·exact .inr ⟨rfl,h2⟩
    ·obtain⟨rfl,h2⟩:=hP
     rw[aaf]at h2
     rcases List.mem_cons.1 h2 with h2|h2
     ·simp only[Prod.mk.injEq]at h2
      exact(ex h2.1).elim
     ·exact⟨rfl,h2⟩
   have Kx:=agL (k:=k+c) R_
   have hss:=YP (k:=k+c) (ds:=My) (i:=y.toNat) (by omega)
   have Gb:=hp2.length_eq
   rw[List.length_append,List.length_singleton]at Gb
   refine ih (i+1) IY _ Mw NM w (by omega) I2 (by rw[Kx,if_neg λe=>hne e.symm];exact hkn) (λz=>?_) (by omega) (bH [2,0,1] s rfl (by decide))
   rw[Kx]
   split
   ·rename_i e
    rw[e]
    have:=hmono y
    rw[Ro R_]at this
    omega
   ·exact hmono z
end
section
variable {F:Nat->Prop}{W w w0:World}{L:List As}{fp hp mb hc M:Nat}{ha:Option Addr}{rr:wO}{r:AP}{x:m_}{gr:tQ}{g:g7}{t:Int}{dm es:List (Int×Int)}{ds:List Int}{vs:List Value}
def aib {Q:Option Addr->World->Prop}(hF:rz w0 fp (.pointer (sZ r.p)::vs))(k:Dy w0 r gr.p x)(kg:nJ w0 gr g)(I:xQ g x)(hf:Ml g x)(hM:M<4000000000000)
  (h:∀ha hc ds w',G4 g.m t ds->Sep No w0 w' (seL hp ha hc [] rr t g.ep ds)->Q (sZ rr.p) w'):
  ∀(f:Nat) (es:List (Int×Int)) (ds:List Int) (ha:Option Addr) (hc:Nat) (w:World),es.length+D6 ds<=f->Mx g.m t M es ds (λ_ _ _=>False)->(∀x k,SN g.m t x k->fC ds x<=k\/xB<=k)->Sep No w0 w (seL hp ha hc es rr t g.ep ds)->
   gy (iy Q (f+1)) Q (sZ fp) (aZ rr.p) (sZ hp) w:=by
 have hm:=kg.ok.may
 intro f
 induction f with
 |zero=>
  intro es ds ha hc w hf' J hs s
  obtain rfl:es=[]:=List.eq_nil_of_length_eq_zero (by omega)
  unfold gy
  refine Hp.Cq s (i:=1) rfl (by simp) (λ_ w s=>?_) λh0=>by simp at h0
  show iw Q (iy Q 0) _ _ _ _ _ _ _
  unfold iw
  rw[cond_false]
  exact h ha hc ds w (J.done hm hs) s
 |succ f ih=>
  intro es ds ha hc w hf' J hs s
  have m6:=J.nF
  unfold gy
  refine Hp.Cq s (i:=1) rfl (by omega) (λe w s=>?_) λh0 w Dm Az es' hp' sN=>?_
  ·subst e
   show iw Q (iy Q (f+1)) _ _ _ _ _ _ _
   unfold iw
   rw[cond_false]
   exact h ha hc ds w (J.done hm hs) s
  ·simp only[List.set_cons_zero,List.set_cons_succ]at sN
   have s:=sN
   generalize hge:Hp.g es 0=e0 at hp'⊢
   obtain⟨key,node⟩:=e0
   have hin:(key,node)∈es:=hp'.mem_iff.1 (by simp)
   obtain⟨hn,hnc,C8,hkC⟩:=J.nod _ hin
   have hle:=J.lc.key _ hin
   simp only at hn hnc C8 hkC hle
   have hnr:0<=node/\node<ds.length:=by rw[J.len];exact hnc.2
   rw[Ro hnr]at hle
   have hl:=hp'.length_eq
   simp only[List.length_cons]at hl
   have hq:∀e,e∈es↔e∈es'\/e=(key,node):=λe=>by
    rw[<-hp'.mem_iff,List.mem_cons]
    exact or_comm
   have J1:Mx g.m t M es' ds (λx n c=>n=node/\fC ds node=key/\EN g.m x n c):=⟨J.lc.pop hq,J.len,J.jR,λe he=>J.nod e ((hq e).2 (.inl he)),by omega⟩
   show iw Q (iy Q (f+1)) _ _ _ _ _ _ _
   unfold iw
   rw[cond_true]
   have hrk:=Q3 s
   have hdr:=J.jR _ (fE (l:=ds) (i:=node.toNat) (by omega))
   refine dz (hrk.cell 2 _ rfl) ?_
   refine E0 hrk.V (k:=node.toNat) (by omega) (by have hvl:ds.length=rr.n:=hrk.V.len;omega) ?_
   rw[wrap_i64 (n:=gi ds node.toNat) (by omega) (by omega)]
   by_cases hgt:key>gi ds node.toNat
   ·rw[decide_eq_true hgt,cond_true]
    refine ih es' ds Dm Az w (by omega) ⟨J1.lc.weaken λx n c hP _ _=>?_,J1.len,J1.jR,J1.nod,J1.nF⟩ hs s
    obtain⟨_,h2,_⟩:=hP
    rw[Ro hnr]at h2
    omega
   ·rw[decide_eq_false hgt,cond_false]
    have hkey:fC ds node=key:=by rw[Ro hnr];omega
    refine ah (dK (by have:=(hF.fr (au s)) 0 _ rfl;rw[add_zero]at this;exact this) ?_)
    refine aat s (k.fr (au s)) (kg.fr (au s)) I hf hnc hn λea en ec w s _=>?_
    have J2:Mx g.m t M es' ds (λx n c=>n=node/\(x,c)∈(FD g.m node).drop 0):=⟨J1.lc.weaken λx n c hP hE _=>by
     obtain⟨rfl,_,_⟩:=hP
     exact .inr (.inr ⟨rfl,by rw[List.drop_zero];exact(agD hm hn hnc (e:=(x,c))).2 hE⟩),J1.len,J1.jR,J1.nod,J1.nF⟩
    refine⟨en+1,agS (es:=es') (ds:=ds) hm ⟨C8,hkC⟩ hn hnc hM (λMw NM IY ds2 w2 J3 hmono hsum s=>?_) en 0 es' ds Dm Az w (by omega) J2 hkey (λ_=>Int.le_refl _) (Nat.le_refl _) s⟩
    refine ih IY ds2 Mw NM w2 (by omega) J3 (λx k hsx=>?_) s
    rcases hs x k hsx with h1|h1
    ·have:=hmono x
     exact .inl (by omega)
    ·exact .inr h1
def agT {Q:Option Addr->World->Prop}(hF:rz w0 fp (.pointer (sZ r.p)::vs))(k:Dy w0 r gr.p x)(kg:nJ w0 gr g)(I:xQ g x)(hf:Ml g x)(hM:M<4000000000000)(ht:bE g.m.w g.m.h t)(hnd:nN dm)(hin:agN g.m t dm)
  (h:∀ha hc ds w',G4 g.m t ds->Sep No w0 w' (seL hp ha hc [] rr t g.ep ds)->Q (sZ rr.p) w'){na:Option Addr}{nn nc:Nat}:
  ∀(n i:Nat) (es:List (Int×Int)) (ds:List Int) (ha:Option Addr) (hc:Nat) (w:World),i+n=nn->Mx g.m t M es ds (λ_ _ _=>False)->(∀x k,SN g.m t x k->x∈(aR g.m (cP g.m t)).take i->fC ds x<=k\/xB<=k)->
   Sep No w0 w (aj na nn nc 3 1 (flat one (aR g.m (cP g.m t)))::fy eX vI mb dm::seL hp ha hc es rr t g.ep ds)->gP Q (n+1) (sZ fp) (aZ rr.p) (sZ hp) (some mb) na nn nc nn i w:=by
 have hm:=kg.ok.may
 have hs0:=bS ht
 have ayO:=zf hs0
 intro n
 induction n with
 |zero=>
  intro i es ds ha hc w hi J hs s
  show mS Q (gP Q 0) _ _ _ _ _ _ _ _ _ _
  unfold mS
  have hnl:=(aK s (i:=0) rfl ct (by decide)).len
  rw[decide_eq_false (by omega),cond_false]
  rw[List.take_of_length_le (by omega)]at hs
  have hs':∀x k,SN g.m t x k->fC ds x<=k\/xB<=k:=λx k hx=>hs x k hx (by
   obtain⟨h1,h2,_⟩:=hx
   have h1:x∈aR g.m (cP g.m x):=h1
   rwa[h2]at h1)
  have:=aib hF k kg I hf hM h _ es ds ha hc w (Nat.le_refl _) J hs' (ai (ai s))
  unfold gy at this
  exact Gf (λa b c w q=>⟨_,q⟩) this
 |succ n ih=>
  intro i es ds ha hc w hi J hs s
  show mS Q (gP Q (n+1)) _ _ _ _ _ _ _ _ _ _
  unfold mS
  have hN:=aK s (i:=0) rfl ct (by decide)
  have hnl:=hN.len
  have anL:(aR g.m (aB g.m.w g.m.h t)).length=nn:=hnl
  rw[decide_eq_true (by omega),cond_true,wrap_i64 (n:=(i:Int)+1) (by omega) (by omega)]
  refine hN.pJ (k:=i) rfl (by omega) ?_
  have hmem:=fE (l:=aR g.m (cP g.m t)) (i:=i) (by omega)
  obtain⟨hyo,IZ,hys⟩:=l9 hs0 hmem
  have hyn:mZ g.m (gi (aR g.m (cP g.m t)) i):=by
   show _∈aR g.m (aB g.m.w g.m.h _)
   rw[hys]
   exact hmem
  have xA:(aR g.m (cP g.m t)).take (i+1)=(aR g.m (cP g.m t)).take i++[gi (aR g.m (cP g.m t)) i]:=by
   rw[List.take_add_one,gT (by omega)]
   rfl
  generalize gi (aR g.m (cP g.m t)) i=y at hyo IZ hys hyn xA⊢
  have R_:0<=y/\y<ds.length:=by rw[J.len];exact IZ.2
  have m6:=J.nF
  obtain⟨U5,hi2⟩:=hin y
  have only:∀k,SN g.m t y k->k=fZ (fJ g.m t) (xp g.m t) y/\fZ (fJ g.m t) (xp g.m t) y<bW:=λk hk=>by
   obtain⟨_,_,⟨d,hd⟩,rfl⟩:=hk
   refine⟨rfl,?_⟩
   have h1:Wy (fJ g.m t) (fI g.m) y (fZ (fJ g.m t) (xp g.m t) y):=Wy.mono (λx k h=>.src h) (λx n c d e h=>.go e.1 h) (qx kH (λx n c h=>cU _ _ _ h.1) hd).1
   refine Classical.byContradiction λhno=>?_
   rw[if_neg hno]at U5
   have hhd:=hin y
   have hl:=Zq (S:=fJ g.m t) (E:=xp g.m t) (K:=0) (λx k h=>Q6 h) (λx n c h=>Fz h.1) (jG g.m) (λx d h=>by
    cases h with
    |src h=>exact yL hm (jF hm (by rw[h.1];exact h.2.1))
    |go e _=>exact yL hm (jF hm e.1.1)) hd
   have h2:((jG g.m).length:Int)=g.m.w*g.m.h:=by rw[<-hm.len];simp[jG]
   have h3:=oO ⟨hm.w,hm.h⟩
   unfold bW at hno
   omega
  have skip:∀(w:World),(∀k,SN g.m t y k->fC ds y<=k\/xB<=k)->Sep No w0 w (aj na nn nc 3 1 (flat one (aR g.m (cP g.m t)))::fy eX vI mb dm::seL hp ha hc es rr t g.ep ds)->
    gP Q (n+1) (sZ fp) (aZ rr.p) (sZ hp) (some mb) na nn nc nn ((i:Int)+1) w:=λw hy s=>by
   refine ih (i+1) es ds ha hc w (by omega) J (λz k hz hzm=>?_) s
   rw[xA]at hzm
   rcases List.mem_append.1 hzm with h1|h1
   ·exact hs z k hz h1
   ·rw[List.mem_singleton]at h1
    subst h1
    exact hy k hz
  refine Dz (K:=eX) (v:=vI) (x:=y) (c:=true) aka (aaC w) s (i:=1) rfl hnd (aiY IZ) (λhx=>?_) λd hx=>?_
  ·show gP Q (n+1) _ _ _ _ _ _ _ _ _ _
   refine skip w (λk hk=>?_) s
   rw[hx]at U5
   rw[if_pos (only k hk).2]at U5
   cases U5
  ·rw[hx]at U5
   have hlt:fZ (fJ g.m t) (xp g.m t) y<bW:=by
    refine Classical.byContradiction λhno=>?_
    rw[if_neg hno]at U5
    cases U5
   rw[if_pos hlt]at U5
   obtain rfl:d=fZ (fJ g.m t) (xp g.m t) y:=Option.some.inj U5
   obtain⟨hd0,hd1⟩:=hi2 hlt
   show nB _ _ _ _ _
   have s2:Sep No w0 w [yJ rr ⟨t,g.ep,ds⟩,Hp.oI hp ha hc es,aj na nn nc 3 1 (flat one (aR g.m (cP g.m t))),fy eX vI mb dm]:=bH [2,3,0,1] s rfl (by decide)
   refine Ko s2 (t:=⟨t,g.ep,ds⟩) R_ ⟨hd0,by omega⟩ (λhno=>?_) λhyes w s=>?_
   ·rw[cond_false]
    refine skip w (λk hk=>.inl ?_) s
    rw[(only k hk).1,Ro R_]
    exact hno
   ·rw[cond_true]
    simp only at hyes
    refine Hp.AR s (i:=1) rfl (by omega) λw Mw NM IY hp2 s=>?_
    simp only[List.set_cons_zero,List.set_cons_succ]at s
    have hsrc:SN g.m t y (fZ (fJ g.m t) (xp g.m t) y):=⟨hyn,hys,by
     refine Classical.byContradiction λhno=>?_
     have:fZ (fJ g.m t) (xp g.m t) y=bW:=wU λd hd=>hno ⟨d,hd⟩
     omega,rfl⟩
    have J2:Mx g.m t M IY (ds.set y.toNat (fZ (fJ g.m t) (xp g.m t) y)) (λ_ _ _=>False):=J.ae8 hyn IZ ⟨hd0,hyes⟩ (.src hsrc) hp2 (λ_ _ _ h=>h.elim) (λ_ _ _ h _=>h) λ_ _ h=>h
    have Kx:=agL (k:=fZ (fJ g.m t) (xp g.m t) y) R_
    refine ih (i+1) IY _ Mw NM w (by omega) J2 (λz k hz hzm=>?_) (bH [2,3,0,1] s rfl (by decide))
    rw[Kx]
    by_cases ez:z=y
    ·subst ez
     rw[if_pos rfl,(only k hz).1]
     exact .inl (Int.le_refl _)
    ·rw[if_neg ez]
     rw[xA]at hzm
     rcases List.mem_append.1 hzm with h1|h1
     ·exact hs z k hz h1
     ·rw[List.mem_singleton]at h1
      exact(ez h1).elim
def aq3 {b:Nat}{v:Int}(s:Sep F W w (av b 21 [.int .i32 v]::L)):Sl w (sZ b) 1 1 1 mN [v]:=
 aK (iV (n:=1) s (i:=0) rfl rfl (by decide) (λu hu=>by rw[List.mem_singleton]at hu;rw[hu];rfl)) (i:=0) rfl uO (by decide)
def agU {Q:Option Addr->World->Prop}(s0:Sep F W w L)(hF:rz w fp (.pointer (sZ r.p)::.pointer (sZ gr.p)::vs))(k:Dy w r gr.p x)(kg:nJ w gr g)(I:xQ g x)(hf:Ml g x)(ht:bE g.m.w g.m.h t)(vq:g.m.w*g.m.h<=1600)
  (h:∀rr ds w',G4 g.m t ds->Sep F W w' (yJ rr ⟨t,g.ep,ds⟩::L)->Fr No w w'->Q (sZ rr.p) w'):tB (sZ fp) t w Q:=by
 refine Je _ _ _ _ ?_
 have hm:=kg.ok.may
 have hN:=oO ⟨hm.w,hm.h⟩
 refine ah (dK (hF 1 _ rfl) ?_)
 refine je (bt (F:=No) (w:=w)) kg λw1 s _=>?_
 refine ah (dK ((hF.fr (au s)) 1 _ rfl) (qI (kg.fr (au s)) ?_))
 refine aT s λib w1 s=>?_
 rw[wrap_i64 (n:=g.m.w*g.m.h) (by omega) (by omega),show g.m.w*g.m.h=(((g.m.w*g.m.h).toNat:Nat):Int) by omega]
 refine acA (v:=xB) s (aq3 s) (by omega) λda w1 s _=>?_
 refine aT s λrb w1 s=>?_
 have akc:=amy (t:=t) hm
 have hMb:(g.m.w*g.m.h).toNat*2147483647<4000000000000:=by omega
 generalize hMe:(g.m.w*g.m.h).toNat*2147483647=M at akc hMb
 have s1:Sep No w w1 [av rb 298 (ago ⟨rb,da,(g.m.w*g.m.h).toNat,(g.m.w*g.m.h).toNat⟩ ⟨t,g.ep,List.replicate (g.m.w*g.m.h).toNat xB⟩),aj da (g.m.w*g.m.h).toNat (g.m.w*g.m.h).toNat 21 1 (flat mN (List.replicate (g.m.w*g.m.h).toNat xB))]:=bH [0,1] s rfl (by decide)
 have s1:Sep No w w1 [yJ ⟨rb,da,(g.m.w*g.m.h).toNat,(g.m.w*g.m.h).toNat⟩ ⟨t,g.ep,List.replicate (g.m.w*g.m.h).toNat xB⟩]:=W_ s1 akc.jR
 refine Hp.Pv s1 λhp w1 s=>?_
 refine agP s (hF.fr (au s)) (kg.fr (au s)) ht λmb dm w1 hnd hin s _=>?_
 have s:=ay s
 have hc0:∀{w':World} {L':List As},Sep No w w' L'->w'.cell? (aZ fp)=some (.pointer (sZ r.p)):=λs=>by
  have:=(hF.fr (au s)) 0 _ rfl
  rw[add_zero]at this
  exact this
 refine ah (dK (hc0 s) ?_)
 refine eN s λw1 s _=>⟨hc0 s,?_⟩
 have hs0:=bS ht
 have hps:x.ps[(aB g.m.w g.m.h t).toNat]? =some (x.ps[(aB g.m.w g.m.h t).toNat]'(by have:=I.len;have:=hs0.2;omega)):=List.getElem?_eq_getElem _
 generalize x.ps[(aB g.m.w g.m.h t).toNat]'(by have:=I.len;have:=hs0.2;omega)=q at hps
 have hc:=(G2 I hf hps).1
 rw[Int.toNat_of_nonneg hs0.2.1]at hc
 have m6:=zf hs0
 rw[show aB g.m.w g.m.h t=(((aB g.m.w g.m.h t).toNat:Nat):Int)from(Int.toNat_of_nonneg hs0.2.1).symm]
 refine YE s (k.fr (au s)) hps (by rw[hc];omega) λna nn nc w1 s _=>?_
 rw[hc]at s
 refine⟨nn+1,agT (rr:=⟨rb,da,(g.m.w*g.m.h).toNat,(g.m.w*g.m.h).toNat⟩) (M:=M) hF k kg I hf hMb ht hnd hin (λha hc ds w' hok s'=>h _ ds w' hok (dY s0 s' (i:=0) rfl) (au s')) nn 0 [] (List.replicate (g.m.w*g.m.h).toNat xB) none 0 w1 (by omega) akc (λx k _ h=>by simp at h) ?_⟩
 exact bH [0,1,3,2] s rfl (by decide)
end
end Go.Proofs.YtmegplnmiepfbaaGreatDoor.S
namespace Go.Proofs.YtmegplnmiepfbaaGreatDoor.S
open Go.Sx
def isS {p:Addr}{A B:Prop}(h:A):cond (!(some p).isNone) A B:=h
attribute [local irreducible] af cw bq bg aC cf bX St Bx Al App cA cq cm bT aI bw aq bR av aj aV mapA
structure FI where
 kept:Option (wO×Fw)
 fA:Int
def apY (k:Option (wO×Fw)):Option Addr:=k.map λq=>(aZ q.1.p)
def Rp (mp gp:Nat)(f:FI):List Value:=[.pointer (sZ mp),.pointer (sZ gp),.pointer (apY f.kept),.int .u64 f.fA]
def aaE (k:Option (wO×Fw)):List As:=match k with
 |some q=>[yJ q.1 q.2]
 |none=>[]
def Ve (fp mp gp:Nat)(f:FI):List As:=av fp 197 (Rp mp gp f)::aaE f.kept
def tT (fp mp gp:Nat)(f:FI):As:=aV True (Ve fp mp gp f)
structure aaF (g:g7) (f:FI):Prop where
 kept:∀q,f.kept=some q->q.2.ep<=g.ep/\(q.2.ep=g.ep->bE g.m.w g.m.h q.2.goal/\G4 g.m q.2.goal q.2.ds)
 u:Ta.U f.fA
def Mz (f:FI):Option (Int×Int):=f.kept.map λq=>(q.2.goal,q.2.ep)
section
variable {F:Nat->Prop}{W w w0:World}{L:List As}{fp:Nat}{rr:wO}{r:AP}{x:m_}{gr:tQ}{g:g7}{t:Int}{f:FI}{mp gp:Nat}
def MA (s:Sep F W w (tT fp mp gp f::L)):Sep F W w (Ve fp mp gp f++L):=(iW s).2
def Rq (s:Sep F W w (Ve fp mp gp f++L)):Sep F W w (tT fp mp gp f::L):=dX s trivial
def aaG {Q:Option Addr->World->Prop}(s:Sep F W w L)(h:∀fp w',Sep F W w' (tT fp mp gp ⟨none,0⟩::L)->Fr No w w'->Q (sZ fp) w'):E9 (sZ mp) (sZ gp) w Q:=by
 refine ZI _ _ _ _ ?_
 refine mz (mz ?_)
 refine aT (bt (F:=No) (w:=w)) λfb w1 s1=>?_
 have s2:Sep No w w1 [tT fb mp gp ⟨none,0⟩]:=Rq s1
 exact h fb w1 (dY s s2 (i:=0) rfl) (au s2)
def MB (s:Sep F W w (tT fp mp gp f::L)):rz w fp (Rp mp gp f):=by
 have s:=MA s
 exact kM (t:=197) s (i:=0) rfl
def adL {q:wO×Fw}(s:Sep F W w (tT fp mp gp f::L))(h:f.kept=some q):Fx w q.1 q.2:=by
 have s:=MA s
 unfold Ve aaE at s
 rw[h]at s
 exact Q3 (ai s)
def Vf {Q:Int->World->Prop}(k:rz w fp (Rp mp gp f))(h:Q f.fA w):oT (sZ fp) w Q:=by
 refine Bl _ _ _ ?_
 exact mz (ah (aP (k 3 _ rfl) h))
def Vg {Q:Int->World->Prop}(h:Q 0 w):oT Option.none w Q:=Bl _ _ _ h
def WQ {Q:World->Prop}(s:Sep F W w (tT fp mp gp f::L))(h:∀w',Sep F W w' (tT fp mp gp ⟨none,f.fA⟩::L)->Q w'):pZ (sZ fp) w Q:=by
 refine CD _ _ _ ?_
 have s:=MA s
 have s:Sep F W w (av fp 197 (Rp mp gp f)::(aaE f.kept++L)):=s
 refine isS (ah (ax s (i:=0) rfl rfl rfl λw s=>?_))
 simp only[List.set_cons_zero,List.set_cons_succ,Rp]at s
 refine h w (Rq (f:=⟨none,f.fA⟩) ?_)
 refine gL s ?_
 exact List.Sublist.cons_cons _ (List.sublist_append_right _ _)
def WR {Q:Option Addr->World->Prop}(s:Sep F W w (mM gr g::qS r gr.p x::tT fp r.p gr.p f::L))(I:xQ g x)(J:aaF g f)(ht:bE g.m.w g.m.h t)(vq:g.m.w*g.m.h<=1600)
  (h:∀(x':m_) rr ds w',xQ g x'->Ml g x'->x'.clean=g.ep->x'.fA=acj (j6 g x x.ps.length).length x.fA->G4 g.m t ds->
   Sep F W w' (mM gr g::qS r gr.p x'::tT fp r.p gr.p ⟨some (rr,⟨t,g.ep,ds⟩),if Mz f=some (t,g.ep)then f.fA else Ta.sat f.fA 1⟩::L)->Q (sZ rr.p) w'):vH (sZ fp) t w Q:=by
 refine Lz _ _ _ _ ?_
 have kg:=oC s
 have hm:=kg.ok.may
 have kf:=MB (ai (ai s))
 have ayP:=Kt hm ht
 refine mz (ah (dK (kf 1 _ rfl) (jd kg ?_)))
 rw[cM (by omega),cond_false]
 refine ah (dK (by have:=kf 0 _ rfl;rw[add_zero]at this;exact this) ?_)
 refine U7 s I λx' w1 I' hfr wK UZ s=>?_
 have s:=ay s
 have kg:=oC s
 have km:=Mj (ai s)
 have kf:=MB (ai (ai s))
 have b5:∀(w2:World),Mz f≠some (t,g.ep)->Sep F W w2 (mM gr g::qS r gr.p x'::tT fp r.p gr.p f::L)->lE Q (sZ fp) t w2:=λw2 hne s=>by
  unfold lE
  refine agU s (MB (ai (ai s))) (Mj (ai s)) (oC s) I' hfr ht vq λrr ds w3 hok s _=>?_
  have s1:=cz s (L':=tT fp r.p gr.p f::yJ rr ⟨t,g.ep,ds⟩::mM gr g::qS r gr.p x'::L) (List.perm_middle (l₁:=[_,_,_]))
  have s1:=MA s1
  have s1:Sep F W w3 (av fp 197 (Rp r.p gr.p f)::(aaE f.kept++yJ rr ⟨t,g.ep,ds⟩::mM gr g::qS r gr.p x'::L)):=s1
  refine ah (ax s1 (i:=0) rfl rfl rfl λw3 s=>?_)
  simp only[List.set_cons_zero,List.set_cons_succ,Rp]at s
  refine ah (aU s (i:=0) rfl rfl rfl ?_)
  refine Ta.AO J.u (by unfold Ta.U;omega) ?_
  refine ah (ax s (i:=0) rfl rfl rfl λw3 s=>?_)
  simp only[List.set_cons_zero,List.set_cons_succ]at s
  unfold oh
  refine ah (PW s (i:=0) rfl rfl rfl ?_)
  refine h x' rr ds w3 I' hfr wK UZ hok ?_
  rw[if_neg hne]
  have s2:Sep F W w3 (Ve fp r.p gr.p ⟨some (rr,⟨t,g.ep,ds⟩),Ta.sat f.fA 1⟩++mM gr g::qS r gr.p x'::L):=gL s (List.Sublist.cons_cons _ (List.sublist_append_right _ _))
  exact cz (Rq s2) (L':=mM gr g::qS r gr.p x'::tT fp r.p gr.p _::L) (List.perm_middle (l₁:=[_,_])).symm
 refine ah (dK (kf 2 _ rfl) ?_)
 cases hk:f.kept with
 |none=>
  show cond true _ _
  rw[cond_true]
  refine b5 _ ?_ s
  unfold Mz
  rw[hk]
  exact λe=>by cases e
 |some q=>
  obtain⟨rr0,t0⟩:=q
  have hP:apY (some (rr0,t0))=sZ rr0.p:=rfl
  rw[hP]
  refine mz ?_
  have kr:=adL (ai (ai s)) hk
  have hcell:w1.drew.cell? ((aZ fp).add 2)=some (.pointer (sZ rr0.p)):=by
   have:=kf 2 _ rfl
   rw[hk]at this
   exact this
  refine ah (dK hcell (ah (aP (by have:=kr.cell 0 _ rfl;rw[add_zero]at this;exact this) ?_)))
  have hkg:Mz f=some (t0.goal,t0.ep):=by unfold Mz;rw[hk];rfl
  by_cases hg:t0.goal=t
  ·rw[show(t0.goal !=t)=false by rw[hg];exact bne_self_eq_false _,cond_false]
   refine ah (dK hcell (ah (aP (kr.cell 1 _ rfl) ?_)))
   refine ah (dK (kf 1 _ rfl) (qI kg ⟨kr.cell 1 _ rfl,hcell,?_⟩))
   by_cases he:t0.ep=g.ep
   ·rw[show(t0.ep !=g.ep)=false by rw[he];exact bne_self_eq_false _,cond_false]
    unfold oh
    refine ah (dK hcell ?_)
    have hq:=(J.kept _ hk).2 he
    simp only at hq
    rw[hg]at hq
    refine h x' rr0 t0.ds _ I' hfr wK UZ hq.2 ?_
    rw[if_pos (by rw[hkg,hg,he])]
    have e:f=⟨some (rr0,⟨t,g.ep,t0.ds⟩),f.fA⟩:=by
     cases f with
     |mk kept fA=>
      simp only at hk
      rw[hk,<-hg,<-he]
    rw[e]at s
    exact s
   ·rw[show(t0.ep !=g.ep)=true by rw[bne_iff_ne];exact he,cond_true]
    exact b5 _ (by rw[hkg];intro e;exact he (congrArg Prod.snd (Option.some.inj e))) s
  ·rw[show(t0.goal !=t)=true by rw[bne_iff_ne];exact hg,cond_true]
   exact b5 _ (by rw[hkg];intro e;exact hg (congrArg Prod.fst (Option.some.inj e))) s
end
end Go.Proofs.YtmegplnmiepfbaaGreatDoor.S
namespace Go.Proofs.YtmegplnmiepfbaaGreatDoor.S
open Go.Sx
attribute [local irreducible] af cw bq bg aC cf bX St Bx Al App cA cq cm bT aI bw aq bR av aj aV mapA
section
variable {m:bP}{t sc c:Int}{ds:List Int}
def ake (hm:c8 m){e:Int×Int}(h:e∈uM m c):mZ m e.1/\bE m.w m.h e.1/\mZ m c/\bE m.w m.h c/\0<e.2/\e.2<255:=by
 obtain⟨ho,s,hs,h1,h2,rfl⟩:=UR.1 h
 obtain⟨h3,h4⟩:=BI h1
 have hst:fI m c (gf m.w m.h c s) (cE m (gf m.w m.h c s)):=⟨ho,h2,⟨s,hs,h3.symm⟩,rfl⟩
 have hne:cP m c≠cP m (gf m.w m.h c s):=λe=>h4 (by rw[<-h3];exact e.symm)
 have hn:=qR hm _ _ _ hst hne
 exact⟨hn.2,jF hm h2,hn.1,jF hm ho,BF h2⟩
def Jp {at_:Int->Int}:(Ho m at_ c).Pairwise (λa b=>a.s<b.s)/\∀x∈Ho m at_ c,x.c=dA m.w m.h c/\0<=x.s/\x.s<=3/\eV m c=true:=by
 unfold Ho uM
 split
 ·rename_i ho
  unfold Fu
  rw[List.filterMap_filterMap]
  have side:∀(a:Nat),a<4->∀x,(Ey m c a).bind (λe=>if at_ e.1=bW then none else some (⟨dA m.w m.h c,xO m.w m.h c e.1,e.2+at_ e.1⟩:bh))=some x->x.s=a/\x.c=dA m.w m.h c:=λa ha x h=>by
   unfold Ey at h
   split at h
   ·rename_i h4
    simp only[Option.bind_some]at h
    split at h
    ·cases h
    ·cases h
     obtain⟨h5,_⟩:=BI h4.1
     refine⟨?_,rfl⟩
     show xO m.w m.h c (gf m.w m.h c a)=a
     rw[h5]
     exact UQ ⟨by omega,by omega⟩ (by rw[<-h5];exact h4.1)
   ·simp at h
  constructor
  ·rw[List.pairwise_filterMap]
   refine List.Pairwise.imp_of_mem ?_ List.pairwise_lt_range
   intro a b ha hb hab x hx y hy
   have ha:=List.mem_range.1 ha
   have hb:=List.mem_range.1 hb
   have h1:=(side a ha x hx).1
   have h2:=(side b hb y hy).1
   omega
  ·intro x hx
   obtain⟨a,ha,h1⟩:=List.mem_filterMap.1 hx
   have ha:=List.mem_range.1 ha
   obtain⟨h2,h3⟩:=side a ha x h1
   exact⟨h3,by omega,by omega,ho⟩
 ·exact⟨List.Pairwise.nil,λx hx=>by simp at hx⟩
def amC {at_:Int->Int}:(Ho m at_ c).length<=4:=by
 unfold Ho uM
 split
 ·unfold Fu
  refine Nat.le_trans (List.length_filterMap_le _ _) (Nat.le_trans (List.length_filterMap_le _ _) ?_)
  simp
 ·simp
def agV {α β:Type}{f:α->List β}{k:Nat}:∀{l:List α},(∀a∈l,(f a).length<=k)->(l.flatMap f).length<=l.length*k
 |[],_=>by simp
 |a::l,h=>by
  have h1:=h a (by simp)
  have h2:=agV (f:=f) (l:=l) λb hb=>h b (by simp[hb])
  rw[List.flatMap_cons,List.length_append,List.length_cons,Nat.add_mul,Nat.one_mul]
  omega
def Vh {at_:Int->Int}(hs:dG m.w m.h sc):(D0 m at_ t sc).Nodup/\(D0 m at_ t sc).length<=1025:=by
 have m6:=zf hs
 constructor
 ·unfold D0
  rw[List.nodup_append]
  refine⟨?_,by split<;>simp,?_⟩
  ·show List.Pairwise _ _
   rw[List.pairwise_flatMap]
   refine⟨λc _=>List.Pairwise.imp (λh e=>by rw[e]at h;omega) Jp.1,?_⟩
   refine List.Pairwise.imp_of_mem ?_ (ah8 hs)
   intro c c' hc Az hne x hx y hy e
   have h1:=(Jp.2 x hx).1
   have h2:=(Jp.2 y hy).1
   rw[e,h2]at h1
   obtain⟨_,c1,c2⟩:=l9 hs hc
   obtain⟨_,c3,c4⟩:=l9 hs Az
   have g1:=nI c1
   have g2:=nI c3
   rw[c2]at g1
   rw[c4,h1]at g2
   exact hne (g1.symm.trans g2)
  ·intro x hx y hy e
   obtain⟨c,hc,hx⟩:=List.mem_flatMap.1 hx
   have h1:=(Jp.2 x hx).2
   split at hy
   ·rw[List.mem_singleton]at hy
    rw[e,hy]at h1
    have h3:(4:Int)<=3:=h1.2.1
    omega
   ·simp at hy
 ·unfold D0
  have h1:=agV (f:=Ho m at_) (k:=4) (l:=aR m sc) λc _=>amC
  rw[List.length_append]
  have h2:(if aB m.w m.h t=sc/\cE m t≠255 then[(⟨dA m.w m.h t,4,0⟩:bh)]else[]).length<=1:=by split<;>simp
  omega
end
section
variable {F:Nat->Prop}{W w w0:World}{L:List As}{rr:wO}{gr:tQ}{g:g7}{t sc:Int}{ds:List Int}{a:Option Addr}{n c:Nat}{es:List bh}
def asW {x:bh}{K:Option Addr->Nat->Nat->World->Prop}(s:Sep F W w (aj a n c 294 3 (flat fL es)::L))(hn:n<=1000000000)
  (k:∀a' c' w',Sep F W w' (aj a' (n+1) c' 294 3 (flat fL (es++[x]))::L)->K a' (n+1) c' w'):Bx [ae x.c,ae x.s,ae x.k] 294 w λp w1=>App P #[278,278] 278 (.slice a n c) (.slice (some p) 1 1) w1 K:=by
 refine aT s λb w s=>?_
 have src:Src w (sZ b) 1 3 (fL x):=⟨rfl,UK x,λj u hj=>by rw[bZ,Nat.zero_add];exact cg s (i:=0) rfl rfl hj⟩
 refine iL dW s (i:=1) (size:=3) (bytes:=24) rfl rfl rfl rfl rfl rfl (by decide) rfl src (by simp only[maxLen];omega) (by omega) (λe=>by cases e) λa1 c1 w1 s1=>?_
 simp only[List.set_cons_zero,List.set_cons_succ]at s1
 have e:flat fL es++fL x=flat fL (es++[x]):=by rw[gK];simp[flat]
 rw[e]at s1
 exact k _ _ _ (ai s1)
def Vi {Q:Option Addr->Nat->Nat->World->Prop}(s0:Sep F W w L)(kg:nJ w gr g)(kr:Fx w rr ⟨t,g.ep,ds⟩)(hok:G4 g.m t ds)(ht:bE g.m.w g.m.h t)(hs:dG g.m.w g.m.h sc)
  (h:∀ra rn rc w',Sep F W w' (aj ra rn rc 294 3 (flat fL (Mb (D0 g.m (D g.m t) t sc)))::L)->Fr No w w'->Q ra rn rc w'):Be (sZ gr.p) (sZ rr.p) sc w Q:=by
 refine Un _ _ _ _ _ ?_
 have hm:=kg.ok.may
 have m6:=zf hs
 obtain⟨hnd,hlen⟩:=Vh (m:=g.m) (t:=t) (at_:=D g.m t) hs
 have hN:=oO ⟨hm.w,hm.h⟩
 refine je (bt (F:=No) (w:=w)) kg λw1 s _=>?_
 refine mz ?_
 refine WM (kr.fr (au s)) (qI (kg.fr (au s)) ?_)
 rw[bne_self_eq_false,cond_false]
 refine wN s (kg.fr (au s)) hs λna nn nc w1 s _=>?_
 have hnl:=(aK s (i:=0) rfl ct (by decide)).len
 have fin:∀(oa:Option Addr) (on oc:Nat) (w2:World),Sep No w w2 [aj oa on oc 294 3 (flat fL (D0 g.m (D g.m t) t sc))]->j8 oa on oc w2 λra rn rc w3=>Q ra rn rc w3:=λoa on oc w2 s=>by
  have hS:=aK s (i:=0) rfl m9 (by decide)
  have:=hS.len
  refine zL s hS (by omega) hnd λra rc w3 s _=>?_
  exact h ra on rc w3 (dY s0 s (i:=0) rfl) (au s)
 have nodes:∀(k i:Nat) (oa:Option Addr) (on oc:Nat) (w2:World),i+k=nn->on<=4*i->Sep No w w2 [aj oa on oc 294 3 (flat fL (((aR g.m sc).take i).flatMap (Ho g.m (D g.m t)))),aj na nn nc 3 1 (flat one (aR g.m sc))]->
   nT Q (k+1) (sZ gr.p) (sZ rr.p) sc g.m.w g.m.h oa on oc na nn nc nn i w2:=by
  intro k
  induction k with
  |zero=>
   intro i oa on oc w2 hi ho s
   show uH Q (nT Q 0) _ _ _ _ _ _ _ _ _ _ _ _ _ _
   unfold uH
   rw[decide_eq_false (by omega),cond_false]
   rw[List.take_of_length_le (by omega)]at s
   refine Yr (kr.fr (au s)) ?_
   refine eN s λw2 s _=>?_
   unfold D0 at fin
   by_cases Rf:aB g.m.w g.m.h t=sc
   ·rw[dJ Rf,cond_true]
    refine jd (kg.fr (au s)) ?_
    by_cases hw:cE g.m t=255
    ·rw[hw,bne_self_eq_false,cond_false]
     rw[if_neg λe=>e.2 hw,List.append_nil]at fin
     exact fin oa on oc w2 (bH [0] s rfl (by decide))
    ·rw[show(cE g.m t !=255)=true by rw[bne_iff_ne];exact hw,cond_true]
     rw[if_pos ⟨Rf,hw⟩]at fin
     refine sM s λw2 s _=>?_
     refine asW (x:=⟨dA g.m.w g.m.h t,4,0⟩) s (by omega) λoa oc w2 s=>?_
     exact fin oa _ oc w2 (bH [0] s rfl (by decide))
   ·rw[cM Rf,cond_false]
    rw[if_neg λe=>Rf e.1,List.append_nil]at fin
    exact fin oa on oc w2 (bH [0] s rfl (by decide))
  |succ k ih=>
   intro i oa on oc w2 hi ho s
   show uH Q (nT Q (k+1)) _ _ _ _ _ _ _ _ _ _ _ _ _ _
   unfold uH
   rw[decide_eq_true (by omega),cond_true]
   refine(aK s (i:=1) rfl ct (by decide)).pJ (k:=i) rfl (by omega) ?_
   have xA:(aR g.m sc).take (i+1)=(aR g.m sc).take i++[gi (aR g.m sc) i]:=by
    rw[List.take_add_one,gT (by omega)]
    rfl
   generalize gi (aR g.m sc) i=c at xA⊢
   refine UJ s (kg.fr (au s)) λea en ec w2 s _=>?_
   have wK:=(aK s (i:=0) rfl O_ (by decide)).len
   have hc4:(uM g.m c).length<=4:=by
    unfold uM
    split
    ·exact Nat.le_trans (List.length_filterMap_le _ _) (by simp)
    ·simp
   have v7:∀(k2 j:Nat) (oa:Option Addr) (on oc:Nat) (w2:World),j+k2=en->on<=4*i+j->Sep No w w2 [aj oa on oc 294 3 (flat fL (((aR g.m sc).take i).flatMap (Ho g.m (D g.m t))++((uM g.m c).take j).filterMap λe=>if D g.m t e.1=bW then none else some ⟨dA g.m.w g.m.h c,xO g.m.w g.m.h c e.1,e.2+D g.m t e.1⟩)),aj ea en ec 292 2 (flat BD (uM g.m c)),aj na nn nc 3 1 (flat one (aR g.m sc))]->
     qC (nT Q (k+1)) Q (k2+1) (sZ gr.p) (sZ rr.p) sc g.m.w g.m.h oa on oc c na nn nc nn i ea en ec en j w2:=by
    intro k2
    induction k2 with
    |zero=>
     intro j oa on oc w2 hj ho s
     show uG _ Q (qC _ Q 0) _ _ _ _ _ _ _ _ _ _ _ _ _ _ _ _ _ _ _ _
     unfold uG
     rw[decide_eq_false (by omega),cond_false,wrap_i64 (n:=(i:Int)+1) (by omega) (by omega)]
     rw[List.take_of_length_le (l:=uM g.m c) (by omega)]at s
     refine ih (i+1) oa on oc w2 (by omega) (by omega) ?_
     rw[xA,List.flatMap_append,List.flatMap_singleton]
     exact bH [0,2] s rfl (by decide)
    |succ k2 ih2=>
     intro j oa on oc w2 hj ho s
     show uG _ Q (qC _ Q (k2+1)) _ _ _ _ _ _ _ _ _ _ _ _ _ _ _ _ _ _ _ _
     unfold uG
     rw[decide_eq_true (by omega),cond_true,wrap_i64 (n:=(j:Int)+1) (by omega) (by omega)]
     refine(aK s (i:=1) rfl O_ (by decide)).El (k:=j) rfl (by omega) λp e he agm=>?_
     have asX:=Pq (f:=λe:Int×Int=>if D g.m t e.1=bW then none else some (⟨dA g.m.w g.m.h c,xO g.m.w g.m.h c e.1,e.2+D g.m t e.1⟩:bh)) he
     obtain⟨h1,h2,h3,h4,h5,h6⟩:=ake hm (List.mem_of_getElem? he)
     have Hy:=hok.2 _ h1 h2
     refine aP (agm 0 _ rfl) (aP (agm 1 _ rfl) ?_)
     refine a_ s λeb w2 s=>?_
     simp only[asS]at s
     refine ax s (i:=0) rfl rfl rfl λw2 s=>?_
     refine ax s (i:=0) rfl rfl rfl λw2 s=>?_
     simp only[List.set_cons_zero,List.set_cons_succ]at s
     refine aU s (i:=0) rfl rfl rfl ?_
     refine ab5 (kr.fr (au s)) ?_
     simp only
     rw[Hy]
     by_cases hI:D g.m t e.1=bW
     ·have U6:D g.m t e.1=1099511627776:=hI
      rw[U6,bne_self_eq_false,cond_false]
      refine ih2 (j+1) oa on oc w2 (by omega) (by omega) ?_
      rw[asX,if_pos hI]
      show Sep No w w2 [aj oa on oc 294 3 (flat fL (_++(_++[]))),_,_]
      rw[List.append_nil]
      exact ai s
     ·have U6:D g.m t e.1≠1099511627776:=hI
      rw[show(D g.m t e.1 !=1099511627776)=true by rw[bne_iff_ne];exact U6,cond_true]
      have hDl:D g.m t e.1<bW:=by
       by_cases q:∃d,Wy (fJ g.m t) (fI g.m) e.1 d
       ·exact(Jk hm).2 q
       ·exact(hI (ae5 q)).elim
      obtain⟨d,hd⟩:=(Jk hm).1 hDl
      have hDb:=an8 hm hd
      have s:=ay s
      refine aU s (i:=0) rfl rfl rfl (aU s (i:=0) rfl rfl rfl ?_)
      refine sM s λw2 s _=>?_
      refine⟨cg s (i:=0) rfl rfl rfl,cg s (i:=0) rfl rfl rfl,?_⟩
      refine Yl s λw2 s _=>⟨cg s (i:=0) rfl rfl rfl,?_⟩
      rw[wrap_i64 (n:=e.2+D g.m t e.1) (by omega) (by omega)]
      refine asW (x:=⟨dA g.m.w g.m.h c,xO g.m.w g.m.h c e.1,e.2+D g.m t e.1⟩) (ai s) (by omega) λoa oc w2 s=>?_
      refine ih2 (j+1) oa (on+1) oc w2 (by omega) (by omega) ?_
      rw[asX,if_neg hI,<-List.append_assoc]
      exact s
   have s':Sep No w w2 [aj oa on oc 294 3 (flat fL (((aR g.m sc).take i).flatMap (Ho g.m (D g.m t))++((uM g.m c).take 0).filterMap λe=>if D g.m t e.1=bW then none else some ⟨dA g.m.w g.m.h c,xO g.m.w g.m.h c e.1,e.2+D g.m t e.1⟩)),aj ea en ec 292 2 (flat BD (uM g.m c)),aj na nn nc 3 1 (flat one (aR g.m sc))]:=by
    rw[List.take_zero,List.filterMap_nil,List.append_nil]
    exact bH [1,0,2] s rfl (by decide)
   exact⟨en+1,v7 en 0 oa on oc w2 (by omega) (by omega) s'⟩
 exact⟨nn+1,nodes nn 0 none 0 0 w1 (by omega) (by omega) (bG s 294 3)⟩
end
structure yQ where
 eS:Int
 sa:Option Addr
 sn:Nat
 sc:Nat
 da:Option Addr
 dn:Nat
 dc:Nat
 ra:Option Addr
 rn:Nat
 rc:Nat
 iC:List bh
 ds:List Int
 rs:List Int
def yR (x:yQ):List Value:=[ae x.eS,.slice x.sa x.sn x.sc,.slice x.da x.dn x.dc,.slice x.ra x.rn x.rc]
def xq (x:yQ):(yR x).length=4:=rfl
def aoJ (x:yQ)(u:Value)(h:u∈yR x):u.oneCell'=true:=by
 unfold yR at h
 simp only[List.mem_cons,List.not_mem_nil,or_false]at h
 rcases h with rfl|rfl|rfl|rfl<;>rfl
noncomputable def zN (x:yQ):As:=aV True [aj x.sa x.sn x.sc 294 3 (flat fL x.iC),aj x.da x.dn x.dc 3 1 (flat one x.ds),aj x.ra x.rn x.rc 3 1 (flat one x.rs)]
def FJ:yQ:=⟨0,none,0,0,none,0,0,none,0,0,[],[],[]⟩
structure Vj where
 p:Nat
 lp:Nat
 lr:Lr.acp
 a:Option Addr
 n:Nat
 c:Nat
structure Ac where
 l:Lr.KS
 es:List yQ
 b:Int
 h:Int
 st:Int
 ev:Int
def qu (r:Vj)(x:Ac):List Value:=[.pointer (sZ r.lp),.slice r.a r.n r.c,.int .u64 0,.int .u64 0,.int .u64 x.b,.int .u64 x.h,.int .u64 x.st,.int .u64 x.ev]
noncomputable def Jx (r:Vj)(k:Int)(x:Ac):List As:=av r.p 135 (qu r x)::Lr.D3 r.lp k x.l r.lr::aj r.a r.n r.c 303 4 (flat yR x.es)::x.es.map zN
noncomputable def jH (r:Vj)(k:Int)(x:Ac):As:=aV True (Jx r k x)
section
variable {F:Nat->Prop}{W w w0:World}{L:List As}{r:Vj}{k:Int}{x:Ac}{tw th:Int}{ca la:Option Addr}{cn cc ln lc:Nat}{cs:List Int}{xs:List bh}
def fT {A B T:List As}(is:List Nat)(s:Sep F W w (A++T))(h:is.map (λi=>A[i]?)=B.map some)(hn:is.Nodup):Sep F W w (B++T):=by
 have s1:Sep F W w (aV True T::A):=dX (cz s List.perm_append_comm) trivial
 have s2:Sep F W w (aV True T::B):=by
  refine bH (0::is.map (·+1)) s1 ?_ ?_
  ·rw[List.map_cons,List.map_cons,List.map_map]
   congr 1
  ·refine List.nodup_cons.2 ⟨λhm=>?_,?_⟩
   ·obtain⟨a,_,h⟩:=List.mem_map.1 hm
    omega
   ·refine List.pairwise_map.2 (hn.imp λh e=>h (by omega))
 exact cz (iW s2).2 List.perm_append_comm
def akf {Z T:List As}{a b:As}(h:T=a::b::(Z++L)):T.Perm (Z++a::b::L):=by
 subst h
 exact(List.Perm.cons _ List.perm_middle.symm).trans List.perm_middle.symm
def aaH (s:Sep F W w (jH r k x::L)):Sep F W w (Jx r k x++L):=(iW s).2
def Hs (s:Sep F W w (Jx r k x++L)):Sep F W w (jH r k x::L):=dX s trivial
def aoK {q:yQ}{i:Nat}(s:Sep F W w L)(hi:L[i]? =some (zN q)):Sl w q.sa q.sn q.sc 3 fL q.iC/\Sl w q.da q.dn q.dc 1 one q.ds/\Sl w q.ra q.rn q.rc 1 one q.rs:=by
 have s':=HC s hi
 exact⟨aK s' (i:=0) rfl m9 (by decide),aK s' (i:=1) rfl ct (by decide),aK s' (i:=2) rfl ct (by decide)⟩
def AS {Q:World->Prop}{p i j:Nat}{t:TypeId}{cs:List Value}{v:Int}(s:Sep F W w L)(hi:L[i]? =some (av p t cs))(hj:cs[j]? =some (.int .u64 v))(hu:Ta.U v)
  (h:∀w',Sep F W w' (L.set i (av p t (cs.set j (.int .u64 (Ta.sat v 1)))))->Q w'):rJ (some ⟨p,j,none⟩) w Q:=by
 refine ZU _ _ _ ?_
 refine ah (aU s rfl hi hj ?_)
 refine Ta.AO hu (by unfold Ta.U;omega) ?_
 refine ah (ax s rfl hi ?_ λw' s'=>h w' s')
 rw[Nat.blt_eq]
 exact(List.getElem?_eq_some_iff.1 hj).1
def MC {Q:Option Addr->Nat->Nat->Option Addr->Nat->Nat->World->Prop}{da ra:Option Addr}{dn dc rn rc:Nat}{ds rs:List Int}(s0:Sep F W w L)(hD:Sl w da dn dc 1 one ds)(hR:Sl w ra rn rc 1 one rs)(hn:dn<=1000000)(hm:rn<=1000000)
  (h:∀KB KC ra' rc' w',Sep F W w' (aj ra' rn rc' 3 1 (flat one rs)::aj KB dn KC 3 1 (flat one ds)::L)->Fr No w w'->Q KB dn KC ra' rn rc' w'):AF da dn dc ra rn rc w Q:=by
 refine ZV _ _ _ _ _ _ _ _ ?_
 refine aT (bt (F:=No) (w:=w)) λfb w1 s=>?_
 refine a_ s λrb w1 s=>?_
 simp only[aor]at s
 have s:=ay s
 refine bC s (i:=1) rfl rfl rfl (bC s (i:=1) rfl rfl rfl ?_)
 refine Kl s (hD.fr (au s)) (by omega) λKB KC w1 s _=>⟨cg s (i:=2) rfl rfl rfl,?_⟩
 refine Kl s (hR.fr (au s)) (by omega) λra' rc' w1 s _=>?_
 refine ax s (i:=2) rfl rfl rfl λw1 s=>?_
 refine ax s (i:=2) rfl rfl rfl λw1 s=>?_
 simp only[List.set_cons_zero,List.set_cons_succ]at s
 refine bC s (i:=2) rfl rfl rfl (bC s (i:=2) rfl rfl rfl ?_)
 have s':Sep No w w1 [aj ra' rn rc' 3 1 (flat one rs),aj KB dn KC 3 1 (flat one ds)]:=bH [0,1] s rfl (by decide)
 exact h KB KC ra' rc' w1 (fR s0 s') (au s')
def WrE {n c i:Nat}{es:List yQ}{j:Nat}{q:yQ}{g o:Nat}{K:World->Prop}(s:Sep F W w L)(hi:L[i]? =some (aj (some ⟨g,o,none⟩) n c 303 4 (flat yR es)))(hn:j<es.length)(h:∀w',Sep F W w' (L.set i (aj (some ⟨g,o,none⟩) n c 303 4 (flat yR (es.set j q))))->K w'):
  St ((⟨g,o+j*4,none⟩:Addr).add 0) (ae q.eS) w λw=>St ((⟨g,o+j*4,none⟩:Addr).add 1) (.slice q.sa q.sn q.sc) w λw=>St ((⟨g,o+j*4,none⟩:Addr).add 2) (.slice q.da q.dn q.dc) w λw=>St ((⟨g,o+j*4,none⟩:Addr).add 3) (.slice q.ra q.rn q.rc) w λw=>K w:=by
 have hg:es[j]? =some es[j]:=List.getElem?_eq_getElem hn
 generalize es[j]=e0 at hg
 have ad:∀i,((⟨g,o+j*4,none⟩:Addr).add i)=⟨g,o+(j*4+i),none⟩:=λi=>by rw[bZ,Nat.add_assoc]
 have Ed:i<L.length:=(List.getElem?_eq_some_iff.1 hi).1
 refine dD (f:=yR) (k:=j) (j:=0) (x:=e0) (x':=⟨q.eS,e0.sa,e0.sn,e0.sc,e0.da,e0.dn,e0.dc,e0.ra,e0.rn,e0.rc,e0.iC,e0.ds,e0.rs⟩) xq s hi hg (ad 0) (by decide) rfl rfl λw s=>?_
 refine dD (f:=yR) (k:=j) (j:=1) (x:=⟨q.eS,e0.sa,e0.sn,e0.sc,e0.da,e0.dn,e0.dc,e0.ra,e0.rn,e0.rc,e0.iC,e0.ds,e0.rs⟩) (x':=⟨q.eS,q.sa,q.sn,q.sc,e0.da,e0.dn,e0.dc,e0.ra,e0.rn,e0.rc,e0.iC,e0.ds,e0.rs⟩) xq s (i:=i) (by rw[List.getElem?_set_self Ed]) (by rw[List.getElem?_set_self (by omega)]) (ad 1) (by decide) rfl rfl λw s=>?_
 rw[List.set_set,List.set_set]at s
 refine dD (f:=yR) (k:=j) (j:=2) (x:=⟨q.eS,q.sa,q.sn,q.sc,e0.da,e0.dn,e0.dc,e0.ra,e0.rn,e0.rc,e0.iC,e0.ds,e0.rs⟩) (x':=⟨q.eS,q.sa,q.sn,q.sc,q.da,q.dn,q.dc,e0.ra,e0.rn,e0.rc,e0.iC,e0.ds,e0.rs⟩) xq s (i:=i) (by rw[List.getElem?_set_self Ed]) (by rw[List.getElem?_set_self (by omega)]) (ad 2) (by decide) rfl rfl λw s=>?_
 rw[List.set_set,List.set_set]at s
 refine dD (f:=yR) (k:=j) (j:=3) (x:=⟨q.eS,q.sa,q.sn,q.sc,q.da,q.dn,q.dc,e0.ra,e0.rn,e0.rc,e0.iC,e0.ds,e0.rs⟩) (x':=q) xq s (i:=i) (by rw[List.getElem?_set_self Ed]) (by rw[List.getElem?_set_self (by omega)]) (ad 3) (by decide) rfl rfl λw s=>?_
 rw[List.set_set,List.set_set]at s
 exact h w s
structure ShU (x:Ac):Prop where
 b:Ta.U x.b
 h:Ta.U x.h
 st:Ta.U x.st
 ev:Ta.U x.ev
end
structure C1 where
 eS:Int
 iC:List bh
 ds:List Int
 rs:List Int
def yQ.p (q:yQ):C1:=⟨q.eS,q.iC,q.ds,q.rs⟩
structure Sg where
 l:Lr.KS
 es:List C1
 b:Int
 h:Int
 st:Int
 ev:Int
def Ac.p (x:Ac):Sg:=⟨x.l,x.es.map yQ.p,x.b,x.h,x.st,x.ev⟩
def bump (c:Bool)(v:Int):Int:=if c=true then Ta.sat v 1 else v
def YR:C1:=⟨0,[],[],[]⟩
def Vk (es:List C1)(slot:Nat)(had:Bool)(eS:Int)(xs:List bh):Bool:=had&&(match es[slot]? with|some q=>q.eS==eS&&decide (q.iC=xs)|none=>false)
def BM (k:Int)(y:Sg)(key:Int×Int)(q:C1):Sg:=
 let u:=Lr.ku k y.l key
 let Xj:=if u.1.1=(y.es.length:Int)then y.es++[YR]else y.es
 if Vk Xj u.1.1.toNat u.1.2.1 q.eS q.iC=true then⟨u.2,Xj,y.b,Ta.sat y.h 1,y.st,y.ev⟩
 else⟨u.2,Xj.set u.1.1.toNat q,Ta.sat y.b 1,y.h,bump u.1.2.1 y.st,bump u.1.2.2 y.ev⟩
section
variable {F:Nat->Prop}{W w w0:World}{L:List As}{r:Vj}{k:Int}{x:Ac}{tw th:Int}{ca la:Option Addr}{cn cc ln lc:Nat}{cs:List Int}{xs:List bh}
noncomputable abbrev Nu (r:Vj)(k:Int)(x:Ac)(rb tb:Nat)(tw th:Int)(ca:Option Addr)(cn cc:Nat)(L:List As):List As:=
 Lr.D3 r.lp k x.l r.lr::av rb 213 [.slice none 0 0,.slice none 0 0]::av tb 84 [ae tw,ae th,.slice ca cn cc]::av r.p 135 (qu r x)::aj r.a r.n r.c 303 4 (flat yR x.es)::(x.es.map zN++L)
def aoL {A B:As}(s:Sep F W w (A::B::jH r k x::L)):Sep F W w (Lr.D3 r.lp k x.l r.lr::A::B::av r.p 135 (qu r x)::aj r.a r.n r.c 303 4 (flat yR x.es)::(x.es.map zN++L)):=by
 have s1:=aaH (cz s ((List.Perm.cons _ (List.Perm.swap _ _ _)).trans (List.Perm.swap _ _ _)))
 have s2:Sep F W w (A::B::(Jx r k x++L)):=cz s1 (akf rfl).symm
 exact fT (A:=[_,_,_,_,_]) (T:=x.es.map zN++L) (B:=[_,_,_,_,_]) [3,0,1,2,4] s2 rfl (by decide)
def aoM {A B:As}(s:Sep F W w (A::B::av r.p 135 (qu r x)::Lr.D3 r.lp k x.l r.lr::aj r.a r.n r.c 303 4 (flat yR x.es)::(x.es.map zN++L))):Sep F W w (A::B::jH r k x::L):=
 cz (Hs (cz s (akf (Z:=Jx r k x) rfl))) ((List.Perm.swap _ _ _).trans (List.Perm.cons _ (List.Perm.swap _ _ _)))
def Pw {A B C D E:As}{es:List yQ}(s:Sep F W w (A::B::C::D::E::(es.map zN++L))):Sep F W w L:=
 gL s (.cons _ (.cons _ (.cons _ (.cons _ (.cons _ (List.sublist_append_right _ _))))))
def ai1 {Q:Option Addr->Nat->Nat->Option Addr->Nat->Nat->Int->World->Prop}{rb tb slot g o:Nat}{eS:Int}(hT:rA tw th cs)(hok:ry tw th cs xs=true)(hnd:xs.Nodup)(pP:ln<2000)(hC:∀w',Sep F W w' L->Sl w' ca cn cc 1 bA cs)(hX:∀w',Sep F W w' L->Sl w' la ln lc 3 fL xs)(y_:slot<x.es.length)(hu:Ta.U x.b)(ha:r.a=some ⟨g,o,none⟩)
  (s:Sep F W w (Nu r k x rb tb tw th ca cn cc L))
  (h:∀q da dc ra rc w',q.eS=eS->q.iC=xs->q.ds=jg tw th cs xs->q.rs=nG tw th cs xs->Sep F W w' (aj ra cs.length rc 3 1 (flat one (nG tw th cs xs))::aj da cs.length dc 3 1 (flat one (jg tw th cs xs))::jH r k {x with es:=x.es.set slot q,b:=Ta.sat x.b 1}::L)->Q da cs.length dc ra cs.length rc 0 w'):
  mK Q (sZ r.p) eS la ln lc (aZ tb) (aZ rb) ⟨g,o+slot*4,none⟩ w:=by
 unfold mK
 have vq:=hT.small
 have hxl:=(hX _ (Pw s)).len
 refine ah ?_
 rw[add_add,bZ,Nat.zero_add]
 refine AS s (i:=3) rfl (j:=4) rfl hu λw s=>?_
 simp only[List.set_cons_zero,List.set_cons_succ,qu]at s
 refine aU s (i:=2) rfl rfl rfl (aU s (i:=2) rfl rfl rfl (bC s (i:=2) rfl rfl rfl ?_))
 refine WO s (hC _ (Pw s)) (hX _ (Pw s)) hT hok hnd pP λda dc ra rc w s _=>?_
 refine a_ s λfb w s=>?_
 simp only[aor]at s
 refine ax s (i:=0) rfl rfl rfl λw s=>?_
 refine ax s (i:=0) rfl rfl rfl λw s=>?_
 simp only[List.set_cons_zero,List.set_cons_succ]at s
 have s:=ay s
 refine bC s (i:=0) rfl rfl rfl (bC s (i:=0) rfl rfl rfl ?_)
 refine UN s (hX _ (Pw (ai (ai (ai s))))) (by omega) λsa sc w s _=>?_
 refine⟨cg s (i:=1) rfl rfl rfl,cg s (i:=1) rfl rfl rfl,?_⟩
 rw[ha]at s
 refine WrE (q:=⟨eS,sa,ln,sc,da,cs.length,dc,ra,cs.length,rc,xs,jg tw th cs xs,nG tw th cs xs⟩) s (i:=8) rfl y_ λw s=>?_
 simp only[List.set_cons_zero,List.set_cons_succ]at s
 refine bC s (i:=1) rfl rfl rfl (bC s (i:=1) rfl rfl rfl ?_)
 refine MC s (aK s (i:=3) rfl ct (by decide)) (aK s (i:=2) rfl ct (by decide)) (by omega) (by omega) λKB KC ra' rc' w s _=>?_
 refine ax s (i:=7) rfl rfl rfl λw s=>?_
 refine ax s (i:=7) rfl rfl rfl λw s=>?_
 simp only[List.set_cons_zero,List.set_cons_succ]at s
 refine bC s (i:=7) rfl rfl rfl (bC s (i:=7) rfl rfl rfl ?_)
 refine h ⟨eS,sa,ln,sc,da,cs.length,dc,ra,cs.length,rc,xs,jg tw th cs xs,nG tw th cs xs⟩ KB KC ra' rc' w rfl rfl rfl rfl ?_
 rw[<-ha]at s
 have s1:=fT (A:=[_,_,_,_,_,_,_,_,_,_,_]) (T:=x.es.map zN++L) (B:=[aj sa ln sc 294 3 (flat fL xs),aj da cs.length dc 3 1 (flat one (jg tw th cs xs)),aj ra cs.length rc 3 1 (flat one (nG tw th cs xs)),aj ra' cs.length rc' 3 1 (flat one (nG tw th cs xs)),aj KB cs.length KC 3 1 (flat one (jg tw th cs xs)),av r.p 135 (qu r {x with b:=Ta.sat x.b 1}),Lr.D3 r.lp k x.l r.lr,aj r.a r.n r.c 303 4 (flat yR (x.es.set slot ⟨eS,sa,ln,sc,da,cs.length,dc,ra,cs.length,rc,xs,jg tw th cs xs,nG tw th cs xs⟩))]) [2,5,4,0,1,9,6,10] s ?_ (by decide)
 ·have s2:=dX (Ps:=[_,_,_]) s1 trivial
  simp only[List.append_eq,List.cons_append,List.nil_append]at s2
  have s3:=Rc (i:=5+slot) s2
  have e:∀(A B C D E G:As),(A::B::C::D::E::(x.es.map zN++L)).set (5+slot) G=A::B::C::D::E::((x.es.map zN).set slot G++L):=λA B C D E G=>by
   rw[Nat.add_comm 5 slot]
   simp only[List.set_cons_succ]
   rw[List.set_append_left _ _ (by rw[List.length_map];exact y_)]
  rw[e]at s3
  rw[show(x.es.map zN).set slot (aV True [aj sa ln sc 294 3 (flat fL xs),aj da cs.length dc 3 1 (flat one (jg tw th cs xs)),aj ra cs.length rc 3 1 (flat one (nG tw th cs xs))])=(x.es.set slot ⟨eS,sa,ln,sc,da,cs.length,dc,ra,cs.length,rc,xs,jg tw th cs xs,nG tw th cs xs⟩).map zN from by rw[List.map_set];rfl]at s3
  have s4:=Hs (cz s3 (L':=Jx r k ⟨x.l,x.es.set slot ⟨eS,sa,ln,sc,da,cs.length,dc,ra,cs.length,rc,xs,jg tw th cs xs,nG tw th cs xs⟩,Ta.sat x.b 1,x.h,x.st,x.ev⟩++(aj ra' cs.length rc' 3 1 (flat one (nG tw th cs xs))::aj KB cs.length KC 3 1 (flat one (jg tw th cs xs))::L)) ?_)
  ·exact cz s4 ((List.Perm.swap _ _ _).trans (List.Perm.cons _ (List.Perm.swap _ _ _)))
  ·exact akf rfl
 ·rfl
def amD {c:Bool}{v:Int}(h:Ta.U v):Ta.U (bump c v):=by
 unfold bump
 split
 ·exact Ta.FE h (by unfold Ta.U;omega)
 ·exact h
attribute [local irreducible] mK in
theorem aq4 {Q:Option Addr->Nat->Nat->Option Addr->Nat->Nat->Int->World->Prop}{rb tb slot g o:Nat}{eS:Int}{had out:Bool}(hT:rA tw th cs)(hok:ry tw th cs xs=true)(hnd:xs.Nodup)(pP:ln<2000)(hC:∀w',Sep F W w' L->Sl w' ca cn cc 1 bA cs)(hX:∀w',Sep F W w' L->Sl w' la ln lc 3 fL xs)(y_:slot<x.es.length)(hu:ShU x)(ha:r.a=some ⟨g,o,none⟩)
  (s:Sep F W w (Nu r k x rb tb tw th ca cn cc L))
  (h:∀q da dc ra rc w',q.eS=eS->q.iC=xs->q.ds=jg tw th cs xs->q.rs=nG tw th cs xs->Sep F W w' (aj ra cs.length rc 3 1 (flat one (nG tw th cs xs))::aj da cs.length dc 3 1 (flat one (jg tw th cs xs))::jH r k ⟨x.l,x.es.set slot q,Ta.sat x.b 1,x.h,bump had x.st,bump out x.ev⟩::L)->Q da cs.length dc ra cs.length rc 0 w'):
  jc Q (sZ r.p) eS la ln lc (aZ tb) (aZ rb) had out ⟨g,o+slot*4,none⟩ w:=by
 have hb:=hu.b
 have b12:∀(x':Ac) (w:World),x'.l=x.l->x'.es=x.es->x'.b=x.b->x'.h=x.h->x'.st=bump had x.st->x'.ev=x.ev->Sep F W w (Nu r k x' rb tb tw th ca cn cc L)->o8 Q (sZ r.p) eS la ln lc (aZ tb) (aZ rb) out ⟨g,o+slot*4,none⟩ w:=by
  rintro ⟨l',es',b',h',st',ev'⟩ w e1 e2 e3 e4 e5 e6 s
  simp only at e1 e2 e3 e4 e5 e6
  subst e1 e2 e3 e4 e5 e6
  unfold o8
  cases out with
  |true=>
   rw[cond_true]
   refine ah ?_
   rw[add_add,bZ,Nat.zero_add]
   refine AS s (i:=3) rfl (j:=7) rfl hu.ev λw s=>?_
   simp only[List.set_cons_zero,List.set_cons_succ,qu]at s
   exact ai1 (x:=⟨x.l,x.es,x.b,x.h,bump had x.st,Ta.sat x.ev 1⟩) hT hok hnd pP hC hX y_ hb ha s h
  |false=>exact ai1 (x:=⟨x.l,x.es,x.b,x.h,bump had x.st,x.ev⟩) hT hok hnd pP hC hX y_ hb ha s h
 unfold jc
 cases had with
 |true=>
  rw[cond_true]
  refine ah ?_
  rw[add_add,bZ,Nat.zero_add]
  refine AS s (i:=3) rfl (j:=6) rfl hu.st λw s=>?_
  simp only[List.set_cons_zero,List.set_cons_succ,qu]at s
  exact b12 ⟨x.l,x.es,x.b,x.h,Ta.sat x.st 1,x.ev⟩ w rfl rfl rfl rfl rfl rfl s
 |false=>exact b12 x w rfl rfl rfl rfl rfl rfl s
attribute [local irreducible] jc in
theorem amE {Q:Option Addr->Nat->Nat->Option Addr->Nat->Nat->Int->World->Prop}{rb tb slot:Nat}{eS:Int}{had out:Bool}(hT:rA tw th cs)(hok:ry tw th cs xs=true)(hnd:xs.Nodup)(pP:ln<2000)(hC:∀w',Sep F W w' L->Sl w' ca cn cc 1 bA cs)(hX:∀w',Sep F W w' L->Sl w' la ln lc 3 fL xs)(y_:slot<x.es.length)(hu:ShU x)
  (hh:had=true->∀q,x.es[slot]? =some q->q.eS=eS->q.iC=xs->q.ds=jg tw th cs xs/\q.rs=nG tw th cs xs)(Kr:∀q∈x.es,q.iC.length<2000)
  (s:Sep F W w (Nu r k x rb tb tw th ca cn cc L))
  (h:∀x' da dc ra rc w',x'.l=x.l->x'.p=(if Vk x.p.es slot had eS xs=true then⟨x.l,x.p.es,x.b,Ta.sat x.h 1,x.st,x.ev⟩else⟨x.l,x.p.es.set slot ⟨eS,xs,jg tw th cs xs,nG tw th cs xs⟩,Ta.sat x.b 1,x.h,bump had x.st,bump out x.ev⟩)->Sep F W w' (aj ra cs.length rc 3 1 (flat one (nG tw th cs xs))::aj da cs.length dc 3 1 (flat one (jg tw th cs xs))::jH r k x'::L)->Q da cs.length dc ra cs.length rc 0 w'):
  nk Q (sZ r.p) eS la ln lc (aZ tb) (aZ rb) slot had out w:=by
 have kes:=aK s (i:=4) rfl xq (by decide)
 obtain⟨q0,hq0⟩:∃q,x.es[slot]? =some q:=⟨_,List.getElem?_eq_getElem y_⟩
 have hp0:x.p.es[slot]? =some q0.p:=by
  show(x.es.map yQ.p)[slot]? =_
  rw[List.getElem?_map,hq0]
  rfl
 have ach:∀w g o,r.a=some ⟨g,o,none⟩->Vk x.p.es slot had eS xs=false->Sep F W w (Nu r k x rb tb tw th ca cn cc L)->jc Q (sZ r.p) eS la ln lc (aZ tb) (aZ rb) had out ⟨g,o+slot*4,none⟩ w:=λw g o ha av3 s=>by
  refine aq4 hT hok hnd pP hC hX y_ hu ha s λq da dc ra rc w' e1 e2 e3 e4 s=>?_
  refine h ⟨x.l,x.es.set slot q,Ta.sat x.b 1,x.h,bump had x.st,bump out x.ev⟩ da dc ra rc w' rfl ?_ s
  rw[av3,if_neg (by decide)]
  have:q.p=⟨eS,xs,jg tw th cs xs,nG tw th cs xs⟩:=by
   unfold yQ.p
   rw[e1,e2,e3,e4]
  rw[<-this]
  unfold Ac.p
  simp only[List.map_set]
 unfold nk
 refine ah (bC s (i:=3) rfl rfl rfl ?_)
 have hn:=kes.len
 have hqs:=Kr q0 (List.mem_of_getElem? hq0)
 refine BW s (i:=4) rfl rfl (by omega) λg o ha=>?_
 rw[bZ,Int.toNat_natCast]
 have rd:∀{w:World} {x':Ac},x'.es=x.es->Sep F W w (Nu r k x' rb tb tw th ca cn cc L)->Sep F W w (Lr.D3 r.lp k x'.l r.lr::av rb 213 [.slice none 0 0,.slice none 0 0]::av tb 84 [ae tw,ae th,.slice ca cn cc]::av r.p 135 (qu r x')::aj (some ⟨g,o,none⟩) r.n r.c 303 4 (flat yR x.es)::(x.es.map zN++L)):=λe s=>by rw[<-ha,<-e];exact s
 have ad:∀j,(⟨g,o+slot*4,none⟩:Addr).add j=⟨g,o+(slot*4+j),none⟩:=λj=>by rw[bZ,Nat.add_assoc]
 have kq:∀{w:World} {x':Ac},x'.es=x.es->Sep F W w (Nu r k x' rb tb tw th ca cn cc L)->Sl w q0.sa q0.sn q0.sc 3 fL q0.iC/\Sl w q0.da q0.dn q0.dc 1 one q0.ds/\Sl w q0.ra q0.rn q0.rc 1 one q0.rs:=λ{w x'} e s=>by
  refine aoK (i:=5+slot) s ?_
  rw[Nat.add_comm 5 slot]
  simp only[List.getElem?_cons_succ]
  rw[List.getElem?_append_left (by rw[List.length_map,e];exact y_),List.getElem?_map,e,hq0]
  rfl
 cases had with
 |false=>
  rw[cond_false]
  exact ach _ g o ha rfl s
 |true=>
  rw[cond_true]
  refine eA xq (rd rfl s) (i:=4) rfl hq0 (j:=0) (ad 0) rfl ?_
  by_cases hv:q0.eS=eS
  ·rw[show(q0.eS==eS)=true from beq_iff_eq.2 hv,cond_true]
   refine Hg xq (rd rfl s) (i:=4) rfl hq0 (j:=1) (ad 1) rfl ?_
   have kq0:=(kq rfl s).1
   refine Yx kq0 (hX _ (Pw s)) s (by have:=kq0.len;omega) (by omega) λw s _=>?_
   by_cases he:q0.iC=xs
   ·rw[decide_eq_true he,cond_true]
    refine ah ?_
    rw[add_add,bZ,Nat.zero_add]
    refine AS s (i:=3) rfl (j:=5) rfl hu.h λw s=>?_
    simp only[List.set_cons_zero,List.set_cons_succ,qu]at s
    have s:Sep F W w (Nu r k ⟨x.l,x.es,x.b,Ta.sat x.h 1,x.st,x.ev⟩ rb tb tw th ca cn cc L):=s
    have kq1:=(kq (x':=⟨x.l,x.es,x.b,Ta.sat x.h 1,x.st,x.ev⟩) rfl s).2
    obtain⟨hd,hr⟩:=hh rfl q0 hq0 hv he
    have hdl:q0.dn=cs.length:=by rw[<-kq1.1.len,hd];exact Yy
    have hrl:q0.rn=cs.length:=by rw[<-kq1.2.len,hr];simp[nG]
    have vq:=hT.small
    refine Hg xq (rd (x':=⟨x.l,x.es,x.b,Ta.sat x.h 1,x.st,x.ev⟩) rfl s) (i:=4) rfl hq0 (j:=2) (by rw[add_add,ad]) rfl ?_
    refine Hg xq (rd (x':=⟨x.l,x.es,x.b,Ta.sat x.h 1,x.st,x.ev⟩) rfl s) (i:=4) rfl hq0 (j:=3) (by rw[add_add,ad]) rfl ?_
    refine MC s kq1.1 kq1.2 (by omega) (by omega) λKB KC ra' rc' w s _=>?_
    refine ax s (i:=3) rfl rfl rfl λw s=>?_
    refine ax s (i:=3) rfl rfl rfl λw s=>?_
    simp only[List.set_cons_zero,List.set_cons_succ]at s
    refine bC s (i:=3) rfl rfl rfl (bC s (i:=3) rfl rfl rfl ?_)
    rw[hdl,hrl]at s⊢
    refine h ⟨x.l,x.es,x.b,Ta.sat x.h 1,x.st,x.ev⟩ KB KC ra' rc' w rfl ?_ ?_
    ·have:Vk x.p.es slot true eS xs=true:=by
      unfold Vk
      rw[hp0]
      show(true&&(q0.eS==eS&&decide (q0.iC=xs)))=true
      rw[hv,he]
      simp
     rw[this,if_pos rfl]
     rfl
    ·rw[hd,hr]at s
     exact aoM (x:=⟨x.l,x.es,x.b,Ta.sat x.h 1,x.st,x.ev⟩) (fT (A:=[_,_,_,_,_,_,_]) (T:=x.es.map zN++L) (B:=[_,_,_,_,_]) [0,1,5,2,6] s rfl (by decide))
   ·rw[decide_eq_false he,cond_false]
    refine ach _ g o ha ?_ s
    unfold Vk
    rw[hp0]
    show(true&&(q0.eS==eS&&decide (q0.iC=xs)))=false
    rw[decide_eq_false he,Bool.and_false,Bool.and_false]
  ·rw[show(q0.eS==eS)=false from beq_eq_false_iff_ne.2 hv,cond_false]
   refine ach _ g o ha ?_ s
   unfold Vk
   rw[hp0]
   show(true&&(q0.eS==eS&&decide (q0.iC=xs)))=false
   rw[show(q0.eS==eS)=false from beq_eq_false_iff_ne.2 hv,Bool.false_and,Bool.and_false]
end
structure acB (k:Int) (y:Sg):Prop where
 one:1<=k
 room:k<=100000
 good:Lr.Good k y.l
 len:y.es.length=y.l.length
 b:Ta.U y.b
 h:Ta.U y.h
 st:Ta.U y.st
 ev:Ta.U y.ev
 nF:∀q∈y.es,q.iC.length<2000
def VX {k:Int}{l:Lr.KS}{key:Int×Int}(hk:1<=k)(hg:Lr.Good k l):∃m:Nat,(Lr.ku k l key).1.1=m/\((m=l.length/\(Lr.ku k l key).1.2.1=false/\(Lr.ku k l key).1.2.2=false/\(Lr.ku k l key).2.length=l.length+1)\/(m<l.length/\(Lr.ku k l key).2.length=l.length)):=by
 unfold Lr.ku
 cases hf:l.find? (λp=>decide (p.1=key))with
 |some p=>
  have hp:=List.mem_of_find?_eq_some hf
  have he:p.1=key:=by simpa using List.find?_some hf
  refine⟨p.2,rfl,.inr ⟨hg.lt p hp,?_⟩⟩
  simp only[List.length_cons]
  have:∀{l:Lr.KS},(l.map (·.1)).Nodup->p∈l->(l.filter λq=>!decide (q.1=key)).length+1=l.length:=by
   intro l
   induction l with
   |nil=>intro _ h;cases h
   |cons a l ih=>
    intro hn hp
    rw[List.map_cons,List.nodup_cons]at hn
    rcases List.mem_cons.1 hp with rfl|hp
    ·rw[List.filter_cons_of_neg (by simp[he]),List.length_cons]
     congr 1
     refine congrArg List.length (List.filter_eq_self.2 λb hb=>?_)
     have:b.1≠key:=λe=>hn.1 (List.mem_map.2 ⟨b,hb,by rw[e,he]⟩)
     simpa using this
    ·have:a.1≠key:=λe=>hn.1 (List.mem_map.2 ⟨p,hp,by rw[e,he]⟩)
     rw[List.filter_cons_of_pos (by simpa using this),List.length_cons,List.length_cons,ih hn.2 hp]
  exact this hg.ED hp
 |none=>
  simp only
  split
  ·exact⟨l.length,rfl,.inl ⟨rfl,rfl,rfl,rfl⟩⟩
  ·rename_i hlt
   have hr:=hg.room
   cases hl:l.getLast? with
   |none=>
    rw[List.getLast?_eq_none_iff]at hl
    subst hl
    simp at hlt
    omega
   |some p=>
    have hp:=List.mem_of_getLast? hl
    refine⟨p.2,rfl,.inr ⟨hg.lt p hp,?_⟩⟩
    simp only[List.length_cons,List.length_dropLast]
    have:0<l.length:=List.length_pos_of_mem hp
    omega
def aoN {k:Int}{y:Sg}{key:Int×Int}{q:C1}(h:acB k y)(hq:q.iC.length<2000):acB k (BM k y key q):=by
 obtain⟨m,hm,hc⟩:=VX (key:=key) h.one h.good
 have hg:=Lr.YJ (key:=key) h.one h.good
 have m6:∀e∈(if(Lr.ku k y.l key).1.1=(y.es.length:Int)then y.es++[YR]else y.es),e.iC.length<2000:=by
  intro e he
  split at he
  ·rcases List.mem_append.1 he with he|he
   ·exact h.nF e he
   ·rw[List.mem_singleton]at he
    rw[he]
    exact Nat.zero_lt_succ _
  ·exact h.nF e he
 have hlen:(if(Lr.ku k y.l key).1.1=(y.es.length:Int)then y.es++[YR]else y.es).length=(Lr.ku k y.l key).2.length:=by
  rw[hm,h.len]
  rcases hc with⟨h1,_,_,h2⟩|⟨h1,h2⟩
  ·rw[if_pos (by omega),List.length_append,h2,h.len]
   rfl
  ·rw[if_neg (by omega),h2,h.len]
 unfold BM
 simp only
 generalize (if(Lr.ku k y.l key).1.1=(y.es.length:Int)then y.es++[YR]else y.es)=Xj at m6 hlen⊢
 split
 ·exact⟨h.one,h.room,hg,hlen,h.b,Ta.FE h.h (by unfold Ta.U;omega),h.st,h.ev,m6⟩
 ·refine⟨h.one,h.room,hg,by rw[List.length_set];exact hlen,Ta.FE h.b (by unfold Ta.U;omega),h.h,amD h.st,amD h.ev,λe he=>?_⟩
  rcases List.mem_or_eq_of_mem_set he with he|rfl
  ·exact m6 e he
  ·exact hq
section
variable {F:Nat->Prop}{W w w0:World}{L:List As}{r:Vj}{k:Int}{x:Ac}{tw th:Int}{ca la:Option Addr}{cn cc ln lc:Nat}{cs:List Int}{xs:List bh}
def aq5 (s:Sep F W w L):Sep F W w (zN FJ::L):=by
 have s1:=bG (bG (bG s 3 1) 3 1) 294 3
 exact dX (Ps:=[_,_,_]) s1 trivial
attribute [local irreducible] nk in
theorem Vl {Q:Option Addr->Nat->Nat->Option Addr->Nat->Nat->Int->World->Prop}{goal FK eS:Int}(hx:acB k x.p)(hT:rA tw th cs)(hok:ry tw th cs xs=true)(hnd:xs.Nodup)(pP:ln<2000)(hC:∀w',Sep F W w' L->Sl w' ca cn cc 1 bA cs)(hX:∀w',Sep F W w' L->Sl w' la ln lc 3 fL xs)(hkey:Lr.Xf (goal,FK))
  (hh:(Lr.ku k x.l (goal,FK)).1.2.1=true->∀q,x.p.es[(Lr.ku k x.l (goal,FK)).1.1.toNat]? =some q->q.eS=eS->q.iC=xs->q.ds=jg tw th cs xs/\q.rs=nG tw th cs xs)
  (s:Sep F W w (jH r k x::L))
  (h:∀r' x' da dc ra rc w',r'.p=r.p->x'.p=BM k x.p (goal,FK) ⟨eS,xs,jg tw th cs xs,nG tw th cs xs⟩->Sep F W w' (aj ra cs.length rc 3 1 (flat one (nG tw th cs xs))::aj da cs.length dc 3 1 (flat one (jg tw th cs xs))::jH r' k x'::L)->Q da cs.length dc ra cs.length rc 0 w'):
  nW (sZ r.p) goal FK eS tw th ca cn cc la ln lc w Q:=by
 refine OU _ _ _ _ _ _ _ _ _ _ _ _ _ _ ?_
 refine aT s λtb w s=>?_
 refine a_ s λrb w s=>?_
 simp only[aor]at s
 rw[Option.isNone_some,cond_false]
 refine aU s (i:=1) rfl rfl rfl (aU s (i:=1) rfl rfl rfl (bC s (i:=1) rfl rfl rfl ?_))
 have tl:∀{w:World} {A B C:As},Sep F W w (A::B::C::L)->Sep F W w L:=λs=>ai (ai (ai s))
 refine L8 s (hC _ (tl s)) (hX _ (tl s)) (by omega) λw s _=>?_
 rw[hok,Bool.not_true,cond_false]
 have s:=aoL s
 have hg:=(Lr.YK s).1
 refine ah (PW s (i:=3) rfl rfl rfl ?_)
 have Mn:x.l.length<=1000000:=by
  have h1:=hx.good.room
  have h2:=hx.room
  have h3:x.p.l=x.l:=rfl
  rw[h3]at h1
  omega
 refine Lr.amm (key:=(goal,FK)) s hkey Mn λlr' w s=>?_
 have hlen:x.es.length=x.l.length:=by
  have:=hx.len
  show _=x.p.l.length
  rw[<-this]
  show _=(x.es.map yQ.p).length
  rw[List.length_map]
 obtain⟨m,hm,hc⟩:=VX (key:=(goal,FK)) hx.one hx.good
 have hxl:x.p.l=x.l:=rfl
 rw[hxl]at hm hc
 have hp:(x.p.es.length:Int)=x.es.length:=by
  show((x.es.map yQ.p).length:Int)=_
  rw[List.length_map]
 have hu:ShU ⟨(Lr.ku k x.l (goal,FK)).2,x.es,x.b,x.h,x.st,x.ev⟩:=⟨hx.b,hx.h,hx.st,hx.ev⟩
 have Kr:∀q∈x.es,q.iC.length<2000:=λq hq=>hx.nF q.p (List.mem_map.2 ⟨q,hq,rfl⟩)
 generalize hu2:Lr.ku k x.l (goal,FK)=u at s hm hc hh h hu⊢
 obtain⟨⟨slot,had,out⟩,l'⟩:=u
 simp only at hm hc hh s hu⊢
 subst hm
 have s:Sep F W w (Nu ⟨r.p,r.lp,lr',r.a,r.n,r.c⟩ k ⟨l',x.es,x.b,x.h,x.st,x.ev⟩ rb tb tw th ca cn cc L):=s
 have kl:x.es.length=r.n:=(aK s (i:=4) rfl xq (by decide)).len
 refine ah (bC s (i:=3) rfl rfl rfl ?_)
 by_cases hm:m=x.l.length
 ·obtain⟨_,e1,e2,e3⟩:m=x.l.length/\had=false/\out=false/\l'.length=x.l.length+1:=by
   rcases hc with hc|hc
   ·exact hc
   ·omega
  subst e1 e2
  rw[show((m:Int)==(r.n:Int))=true from beq_iff_eq.2 (by rw[hm,<-hlen,<-kl]),cond_true]
  refine ah (bC s (i:=3) rfl rfl rfl ?_)
  refine aT s λb w s=>?_
  have src:Src w (sZ b) 1 4 (yR FJ):=⟨rfl,aoJ _,λj u hj=>by rw[bZ,Nat.zero_add];exact cg s (i:=0) rfl rfl hj⟩
  refine iL dW s (i:=5) (size:=4) (bytes:=80) rfl rfl rfl rfl rfl rfl (by decide) rfl src (by simp only[maxLen];omega) (by show(r.n+1)*80<=_;omega) (λe=>by cases e) λa1 c1 w s=>?_
  simp only[List.set_cons_zero,List.set_cons_succ]at s
  rw[show flat yR x.es++yR FJ=flat yR (x.es++[FJ])from by rw[gK];simp[flat]]at s
  refine ah (ax s (i:=4) rfl rfl rfl λw s=>?_)
  simp only[List.set_cons_zero,List.set_cons_succ,qu]at s
  have s:=aq5 (ai s)
  have s:Sep F W w (Nu ⟨r.p,r.lp,lr',a1,r.n+1,c1⟩ k ⟨l',x.es++[FJ],x.b,x.h,x.st,x.ev⟩ rb tb tw th ca cn cc L):=by
   refine cz s ?_
   show List.Perm _ (_::_::_::_::_::((x.es++[FJ]).map zN++L))
   rw[List.map_append,List.append_assoc]
   exact(List.perm_middle (a:=zN FJ) (l₁:=[_,_,_,_,_]++x.es.map zN) (l₂:=L)).symm
  refine amE (r:=⟨r.p,r.lp,lr',a1,r.n+1,c1⟩) (x:=⟨l',x.es++[FJ],x.b,x.h,x.st,x.ev⟩) hT hok hnd pP hC hX (by show m<(x.es++[FJ]).length;rw[List.length_append];simp;omega) ⟨hx.b,hx.h,hx.st,hx.ev⟩ (λe=>by cases e) ?_ s ?_
  ·intro q hq
   rcases List.mem_append.1 hq with hq|hq
   ·exact Kr q hq
   ·rw[List.mem_singleton]at hq
    rw[hq]
    exact Nat.zero_lt_succ _
  ·intro x' da dc ra rc w' e1 e2 s
   refine h ⟨r.p,r.lp,lr',a1,r.n+1,c1⟩ x' da dc ra rc w' rfl ?_ s
   rw[e2]
   unfold BM
   rw[hxl,hu2]
   simp only
   have e3:(m:Int)=(x.p.es.length:Int):=by rw[hp];omega
   rw[if_pos e3]
   have:(x.p.es++[YR])=Sg.es (Ac.p ⟨l',x.es++[FJ],x.b,x.h,x.st,x.ev⟩):=by
    show(x.es.map yQ.p)++_=(x.es++[FJ]).map yQ.p
    rw[List.map_append]
    rfl
   rw[this]
   rfl
 ·obtain⟨hlt,hl'⟩:m<x.l.length/\l'.length=x.l.length:=by
   rcases hc with hc|hc
   ·exact(hm hc.1).elim
   ·exact hc
  rw[show((m:Int)==(r.n:Int))=false from beq_eq_false_iff_ne.2 (by omega),cond_false]
  refine amE (r:=⟨r.p,r.lp,lr',r.a,r.n,r.c⟩) (x:=⟨l',x.es,x.b,x.h,x.st,x.ev⟩) hT hok hnd pP hC hX (by show m<x.es.length;omega) hu ?_ Kr s ?_
  ·intro e q hq e1 e2
   have:=hh e q.p (by
    show(x.es.map yQ.p)[m]? =_
    rw[List.getElem?_map,hq]
    rfl) e1 e2
   exact this
  ·intro x' da dc ra rc w' e1 e2 s
   refine h ⟨r.p,r.lp,lr',r.a,r.n,r.c⟩ x' da dc ra rc w' rfl ?_ s
   rw[e2]
   unfold BM
   rw[hxl,hu2]
   simp only
   have e3:¬(m:Int)=(x.p.es.length:Int):=by rw[hp];omega
   rw[if_neg e3]
   rfl
end
end Go.Proofs.YtmegplnmiepfbaaGreatDoor.S
namespace Go.Proofs.YtmegplnmiepfbaaGreatDoor.S.Lr
open Go.Sx
def amF {l:KS}(hnd:(l.map (·.1)).Nodup){p:(Int×Int)×Nat}(hp:p∈l):VW l p.1=p.2:=by
 unfold VW
 rw[Xd hnd hp]
def aoO {l:KS}{key:Int×Int}(h:∀p∈l,p.1≠key):VW l key=-1:=by
 unfold VW
 rw[List.find?_eq_none.2 λp hp=>by simpa using h p hp]
def adN {l:KS}(h:(l.map (·.2)).Nodup){p q:(Int×Int)×Nat}(hp:p∈l)(hq:q∈l)(e:p.2=q.2):p=q:=by
 induction l with
 |nil=>cases hp
 |cons x l ih=>
  rw[List.map_cons,List.nodup_cons]at h
  rcases List.mem_cons.1 hp with e1|hp'<;>rcases List.mem_cons.1 hq with e2|C7
  ·rw[e1,e2]
  ·exact(h.1 (List.mem_map.2 ⟨q,C7,by rw[<-e,e1]⟩)).elim
  ·exact(h.1 (List.mem_map.2 ⟨p,hp',by rw[e,e2]⟩)).elim
  ·exact ih h.2 hp' C7
structure Used (l l':KS) (key:Int×Int) (k:Int) (s:Int) (had out:Bool):Prop where
 good:Good k l'
 slot:∃m:Nat,s=m/\(key,m)∈l'
 av4:had=decide (VW l key≥0)
 hit:had=true->s=VW l key/\out=false
 mem:∀p:(Int×Int)×Nat,p.1≠key->(p∈l'↔p∈l/\(out=true->(p.2:Int)≠s))
 off:∀p∈l,p.1≠key->(p.2:Int)=s->out=true
def used {k:Int}{l:KS}{key:Int×Int}(hk:1<=k)(h:Good k l):Used l (ku k l key).2 key k (ku k l key).1.1 (ku k l key).1.2.1 (ku k l key).1.2.2:=by
 have hg:=YJ (key:=key) hk h
 unfold ku at hg⊢
 cases hf:l.find? (λp=>decide (p.1=key))with
 |some q=>
  rw[hf]at hg
  obtain⟨rfl,hq⟩:=Mt hf
  simp only at hg⊢
  have hfq:=amF h.ED hq
  refine⟨hg,⟨q.2,rfl,List.mem_cons_self⟩,by rw[hfq,decide_eq_true (by omega)],λ_=>⟨hfq.symm,rfl⟩,λp hp=>?_,λp hp hne e=>?_⟩
  ·rw[List.mem_cons,List.mem_filter]
   constructor
   ·rintro (e|⟨h1,_⟩)
    ·exact(hp (by rw[e])).elim
    ·exact⟨h1,λh=>by cases h⟩
   ·rintro ⟨h1,_⟩
    exact .inr ⟨h1,by simp[hp]⟩
  ·exact(hne (by rw[adN h.nd hp hq (by omega)])).elim
 |none=>
  have hn:=Mu hf
  have hfn:=aoO hn
  rw[hf]at hg
  simp only at hg⊢
  by_cases hroom:(l.length:Int)<k
  ·rw[if_pos hroom]at hg⊢
   refine⟨hg,⟨l.length,rfl,List.mem_cons_self⟩,by rw[hfn];rfl,(λh=>by cases h),λp hp=>?_,λp hp hne e=>?_⟩
   ·rw[List.mem_cons]
    constructor
    ·rintro (e|h1)
     ·exact(hp (by rw[e])).elim
     ·exact⟨h1,λh=>by cases h⟩
    ·rintro ⟨h1,_⟩
     exact .inr h1
   ·have:=h.lt p hp
    have e:(p.2:Int)=(l.length:Int):=e
    omega
  ·rw[if_neg hroom]at hg⊢
   have hne:l≠[]:=λe=>by rw[e]at hroom;simp at hroom;omega
   obtain⟨ys,q,rfl⟩:∃ys q,l=ys++[q]:=⟨l.dropLast,l.getLast hne,(List.dropLast_concat_getLast hne).symm⟩
   rw[List.getLast?_concat,List.dropLast_concat]at hg⊢
   simp only at hg⊢
   refine⟨hg,⟨q.2,rfl,List.mem_cons_self⟩,by rw[hfn];rfl,(λh=>by cases h),λp hp=>?_,λp hp hne e=>rfl⟩
   rw[List.mem_cons]
   constructor
   ·rintro (e|h1)
    ·exact(hp (by rw[e])).elim
    ·refine⟨by simp[h1],λ_ e=>?_⟩
     have e1:=adN h.nd (p:=p) (q:=q) (by simp[h1]) (by simp) (by omega)
     subst e1
     have:=h.ED
     rw[List.map_append,List.nodup_append]at this
     exact this.2.2 p.1 (List.mem_map.2 ⟨p,h1,rfl⟩) p.1 (by simp) rfl
   ·rintro ⟨h1,h2⟩
    rcases List.mem_append.1 h1 with h1|h1
    ·exact .inr h1
    ·rw[List.mem_singleton.1 h1]at h2
     exact(h2 rfl rfl).elim
end Go.Proofs.YtmegplnmiepfbaaGreatDoor.S.Lr
