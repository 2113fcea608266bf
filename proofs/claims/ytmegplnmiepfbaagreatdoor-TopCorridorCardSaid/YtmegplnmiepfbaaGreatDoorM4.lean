/- Part 5 of the proof. -/
import Derived.Test.YtmegplnmiepfbaaGreatDoorM3
import Derived.Laws.Externs
import Derived.LaidEql
import Derived.Stop.Asserts
import Derived.Lib.MakeNoZero
set_option linter.unusedVariables false
set_option linter.unusedSimpArgs false
set_option linter.defProp false
namespace Go.Proofs.YtmegplnmiepfbaaGreatDoor.S
open Go.Sx
attribute [local irreducible] af cw bq bg aC cf bX St Bx Al App cA cq cm bT aI bw aq bR av aj aV mapA
def Rs (V:Int×Int->C1->Prop)(y:Sg):Prop:=∀key i q,(key,i)∈y.l->y.es[i]? =some q->V key q
def adO {V:Int×Int->C1->Prop}{b h st ev:Int}:Rs V ⟨[],[],b,h,st,ev⟩:=λ_ _ _ h=>by cases h
def akg {V V':Int×Int->C1->Prop}{y:Sg}(h:Rs V y)(hv:∀key q,V key q->V' key q):Rs V' y:=λkey i q h1 h2=>hv _ _ (h key i q h1 h2)
def agW {k:Int}{y:Sg}{key:Int×Int}{V:Int×Int->C1->Prop}(h:acB k y)(hr:Rs V y){q:C1}(hh:(Lr.ku k y.l key).1.2.1=true)(hq:y.es[(Lr.ku k y.l key).1.1.toNat]? =some q):V key q:=by
 have hu:=Lr.used (key:=key) h.one h.good
 obtain⟨h1,_⟩:=hu.hit hh
 have h2:=hu.av4
 rw[hh]at h2
 have h2:=of_decide_eq_true h2.symm
 obtain⟨m,hm,hl⟩:=hu.slot
 rw[hm]at hq
 refine hr key m q ?_ (by simpa using hq)
 unfold Lr.ku at hm hh
 cases hf:y.l.find? (λp=>decide (p.1=key))with
 |some p=>
  rw[hf]at hm
  simp only at hm
  have hp:=List.mem_of_find?_eq_some hf
  have he:p.1=key:=by simpa using List.find?_some hf
  have:p.2=m:=by omega
  rw[<-he,<-this]
  exact hp
 |none=>
  rw[hf]at hh
  simp only at hh
  split at hh
  ·cases hh
  ·split at hh<;>cases hh
def amG {k:Int}{y:Sg}{key:Int×Int}{V:Int×Int->C1->Prop}{q:C1}(h:acB k y)(hr:Rs V y)(hv:V key q):Rs V (BM k y key q):=by
 have hu:=Lr.used (key:=key) h.one h.good
 obtain⟨m,hm,hc⟩:=VX (key:=key) h.one h.good
 have hlen:=h.len
 have Vc:∀(i:Nat) (e:C1),i≠m\/(Lr.ku k y.l key).1.2.1=true->i<y.l.length->(if(Lr.ku k y.l key).1.1=(y.es.length:Int)then y.es++[YR]else y.es)[i]? =some e->y.es[i]? =some e:=by
  intro i e hi Ed he
  split at he
  ·rwa[List.getElem?_append_left (by omega)]at he
  ·exact he
 have other:∀key' i,key'≠key->(key',i)∈(Lr.ku k y.l key).2->(key',i)∈y.l/\i≠m/\i<y.l.length:=by
  intro key' i hne hmem
  have h1:=(hu.mem (key',i) hne).1 hmem
  refine⟨h1.1,λe=>?_,h.good.lt _ h1.1⟩
  subst e
  have h2:=hu.off _ h1.1 hne (by rw[hm])
  exact h1.2 h2 (by rw[hm])
 have same:∀i,(key,i)∈(Lr.ku k y.l key).2->i=m:=by
  intro i hmem
  obtain⟨m',h1,h2⟩:=hu.slot
  have:=Lr.Ri hu.good.ED hmem h2 rfl
  have:=congrArg Prod.snd this
  simp only at this
  omega
 unfold BM
 simp only
 generalize (if(Lr.ku k y.l key).1.1=(y.es.length:Int)then y.es++[YR]else y.es)=Xj at Vc⊢
 split
 ·rename_i hit
  unfold Vk at hit
  rw[Bool.and_eq_true]at hit
  intro key' i e hmem he
  simp only at hmem he
  by_cases hk:key'=key
  ·subst hk
   have hi:=same i hmem
   subst hi
   have hlt:i<y.l.length:=by
    rcases hc with hc|hc
    ·rw[hc.2.1]at hit
     exact absurd hit.1 (by decide)
    ·exact hc.1
   have h1:=Vc i e (.inr hit.1) hlt he
   exact agW h hr hit.1 (by rw[hm];simpa using h1)
  ·obtain⟨h1,h2,h3⟩:=other key' i hk hmem
   exact hr key' i e h1 (Vc i e (.inl h2) h3 he)
 ·intro key' i e hmem he
  simp only at hmem he
  rw[hm,Int.toNat_natCast]at he
  by_cases hk:key'=key
  ·subst hk
   have hi:=same i hmem
   subst hi
   rw[List.getElem?_set]at he
   split at he
   ·split at he
    ·cases he
     exact hv
    ·cases he
   ·rename_i hne
    exact(hne rfl).elim
  ·obtain⟨h1,h2,h3⟩:=other key' i hk hmem
   rw[List.getElem?_set_ne (λe=>h2 e.symm)]at he
   exact hr key' i e h1 (Vc i e (.inl h2) h3 he)
section
variable {F:Nat->Prop}{W w w0:World}{L:List As}{r:Vj}{k:Int}{x:Ac}
def aaI {Q:Option Addr->World->Prop}(s:Sep F W w L)(hno:k<1->Q none w)(h:1<=k->∀r w',Sep F W w' (jH r k ⟨[],[],0,0,0,0⟩::L)->Q (sZ r.p) w'):E4 k w Q:=by
 refine Zy _ _ _ ?_
 by_cases hk:k<1
 ·rw[decide_eq_true hk,cond_true]
  exact hno hk
 ·rw[decide_eq_false hk,cond_false]
  refine Lr.aml s (λe=>(hk e).elim) λ_ lp lr w s=>?_
  refine aT s λp w s=>?_
  refine h (by omega) ⟨p,lp,lr,none,0,0⟩ w (Hs (x:=⟨[],[],0,0,0,0⟩) ?_)
  exact cz (bG s 303 4) ((List.Perm.swap _ _ _).trans (List.Perm.cons _ (List.Perm.swap _ _ _)))
def Nv {Q:World->Prop}(hk:1<=k)(s:Sep F W w (jH r k x::L))(h:∀r' w',r'.p=r.p->Sep F W w' (jH r' k ⟨[],[],x.b,x.h,x.st,x.ev⟩::L)->Q w'):pY (sZ r.p) w Q:=by
 refine Lj _ _ _ ?_
 have s:=aaH s
 have s:Sep F W w (av r.p 135 (qu r x)::Lr.D3 r.lp k x.l r.lr::aj r.a r.n r.c 303 4 (flat yR x.es)::(x.es.map zN++L)):=s
 refine isS (ah (PW s (i:=0) rfl rfl rfl ?_))
 have s:Sep F W w (av r.p 135 (qu r x)::Lr.D3 r.lp k x.l r.lr::L):=gL s (.cons_cons _ (.cons_cons _ (.cons _ (List.sublist_append_right _ _))))
 have s:=(Lr.YK (cz s (List.Perm.swap _ _ _))).2
 have s:Sep F W w (av r.lp 182 [ae k,.slice r.lr.sa r.lr.sn r.lr.sc,.map (some r.lr.mb),ae r.lr.nw,ae r.lr.od]::av r.p 135 (qu r x)::L):=gL s (.cons_cons _ (.cons _ (.cons _ (List.Sublist.refl _))))
 refine Lr.Xg hk s λlr w s=>?_
 refine ah (ax s (i:=1) rfl rfl rfl λw s=>?_)
 simp only[List.set_cons_zero,List.set_cons_succ,qu]at s
 refine h ⟨r.p,r.lp,lr,none,0,0⟩ w rfl (Hs (x:=⟨[],[],x.b,x.h,x.st,x.ev⟩) ?_)
 exact cz (bG s 303 4) ((List.Perm.cons _ (List.Perm.swap _ _ _)).trans ((List.Perm.swap _ _ _).trans (List.Perm.cons _ (List.Perm.swap _ _ _))))
def akh {i:Nat}(s:Sep F W w L)(hi:L[i]? =some (jH r k x)):rz w r.p (qu r x):=kM (t:=135) (HC s hi) (i:=0) rfl
def av5:zc T 32=[.int .u64 0,.int .u64 0,.int .u64 0,.int .u64 0,.int .u64 0,.int .u64 0]:=rfl
def agX {p:Nat}{v0 v1 v2 v3 v4 v5:Value}{a b c d e f:Int}{Q:Int->Int->Int->Int->Int->Int->World->Prop}(s:Sep F W w (av p 32 [v0,v1,v2,v3,v4,v5]::L))(h:∀w',Sep F W w' (av p 32 [.int .u64 a,.int .u64 b,.int .u64 c,.int .u64 d,.int .u64 e,.int .u64 f]::L)->Q a b c d e f w'):
  St ((aZ p).add 0) (.int .u64 a) w λw=>St ((aZ p).add 1) (.int .u64 b) w λw=>St ((aZ p).add 2) (.int .u64 c) w λw=>St ((aZ p).add 3) (.int .u64 d) w λw=>St ((aZ p).add 4) (.int .u64 e) w λw=>St ((aZ p).add 5) (.int .u64 f) w λw=>
   af .u64 ((aZ p).add 0) w λa=>af .u64 ((aZ p).add 1) w λb=>af .u64 ((aZ p).add 2) w λc=>af .u64 ((aZ p).add 3) w λd=>af .u64 ((aZ p).add 4) w λe=>af .u64 ((aZ p).add 5) w λf=>Q a b c d e f w:=by
 refine ax s (i:=0) rfl rfl rfl λw s=>?_
 refine ax s (i:=0) rfl rfl rfl λw s=>?_
 refine ax s (i:=0) rfl rfl rfl λw s=>?_
 refine ax s (i:=0) rfl rfl rfl λw s=>?_
 refine ax s (i:=0) rfl rfl rfl λw s=>?_
 refine ax s (i:=0) rfl rfl rfl λw s=>?_
 simp only[List.set_cons_zero,List.set_cons_succ]at s
 exact aU s (i:=0) rfl rfl rfl (aU s (i:=0) rfl rfl rfl (aU s (i:=0) rfl rfl rfl (aU s (i:=0) rfl rfl rfl (aU s (i:=0) rfl rfl rfl (aU s (i:=0) rfl rfl rfl (h w s))))))
def aid {Q:Int->Int->Int->Int->Int->Int->World->Prop}(s0:Sep F W w L)(kb:rz w r.p (qu r x))(h:∀w',Sep F W w' L->Fr No w w'->Q 0 0 x.b x.h x.st x.ev w'):vD (sZ r.p) w Q:=by
 refine Ld _ _ _ ?_
 refine a_ (bt (F:=No) (w:=w)) λp w1 s1=>?_
 rw[av5]at s1
 have kb1:=kb.fr (au s1)
 refine mz (ah ?_)
 simp only[add_add]
 refine aP (kb1 2 _ rfl) (aP (kb1 3 _ rfl) (aP (kb1 4 _ rfl) (aP (kb1 5 _ rfl) (aP (kb1 6 _ rfl) (aP (kb1 7 _ rfl) ?_)))))
 exact agX s1 λw' s'=>h w' (fR s0 (ai s')) (au s')
end
end Go.Proofs.YtmegplnmiepfbaaGreatDoor.S
namespace Go.Proofs.YtmegplnmiepfbaaGreatDoor.S
open Go.Sx
def Jq (m:bP)(c x:Int):bP:=⟨m.w,m.h,m.cs.set c.toNat x⟩
section
variable {m:bP}{g:g7}{ce x c sc:Int}
def amH (hc:0<=ce/\ce<m.cs.length):cE (Jq m ce x) c=if c=ce then x else cE m c:=by
 unfold cE Jq
 simp[List.length_set]
 by_cases e:c=ce
 ·subst e
  unfold gi
  grind
 ·by_cases h:0<=c/\c<m.cs.length
  ·unfold gi
   grind
  grind
def aoP (hm:c8 m)(hc:bE m.w m.h ce):0<=ce/\ce<m.cs.length:=⟨hc.2.1,by have:=hm.len;have:=hc.2.2;omega⟩
def agY (hm:c8 m)(hc:bE m.w m.h ce)(hne:cP m c≠cP m ce):cE (Jq m ce x) c=cE m c:=by
 rw[amH (aoP hm hc),if_neg λe=>hne (by rw[e])]
def adP (hm:c8 m)(hs:dG m.w m.h sc)(hc:bE m.w m.h ce)(hne:sc≠cP m ce):dx (Jq m ce x) sc=dx m sc:=by
 refine List.map_congr_left λl hl=>?_
 have hl:=List.mem_range.1 hl
 have hl:(0:Int)<=(l:Int)/\(l:Int)<aD m.w m.h sc*bu m.w m.h sc:=by
  have e:(Jq m ce x).w=m.w/\(Jq m ce x).h=m.h:=⟨rfl,rfl⟩
  grind
 exact agY hm hc (by show aB m.w m.h (bU m.w m.h sc l)≠_;rw[iG hs hl];exact hne)
def aaJ (hm:c8 m)(hs:dG m.w m.h sc)(hc:bE m.w m.h ce)(hne:sc≠cP m ce):aR (Jq m ce x) sc=aR m sc:=by
 rw[nodes_eq,nodes_eq]
 congr 1
 show((List.range (aD m.w m.h sc*bu m.w m.h sc).toNat).filter λl=>xP m.w m.h sc 4 l&&eV (Jq m ce x) (bU m.w m.h sc l))=_
 refine List.filter_congr λl hl=>?_
 have hl:=List.mem_range.1 hl
 have hl:(0:Int)<=(l:Int)/\(l:Int)<aD m.w m.h sc*bu m.w m.h sc:=by omega
 unfold eV
 rw[agY hm hc (by show aB m.w m.h (bU m.w m.h sc l)≠_;rw[iG hs hl];exact hne)]
def amI (hm:c8 m)(hs:dG m.w m.h sc)(hc:bE m.w m.h ce)(hne:sc≠cP m ce):jm (Jq m ce x) sc=jm m sc:=by
 unfold jm iA
 rw[adP hm hs hc hne,aaJ hm hs hc hne]
 rfl
def agZ (hg:wJ g)(hc:bE g.m.w g.m.h ce){i:Nat}:gi (wL g ce x).vs i=if(i:Int)=cP g.m ce then g.ep+1 else gi g.vs i:=by
 have hr:=bS hc
 have hl:=hg.len
 unfold wL gi cP
 by_cases e:(i:Int)=aB g.m.w g.m.h ce
 ·have e1:(aB g.m.w g.m.h ce).toNat=i:=by omega
  have e2:(aB g.m.w g.m.h ce).toNat<g.vs.length:=by have:=hr.2;omega
  grind
 ·have e1:¬(aB g.m.w g.m.h ce).toNat=i:=by have:=hr.2.1;omega
  grind
def amJ {ms:m_}(hg:wJ g)(hc:bE g.m.w g.m.h ce)(I:xQ g ms):xQ (wL g ce x) ms:=by
 have hlen:=I.len
 refine⟨I.len,⟨by have:=I.old.1;show _<=g.ep+1;omega,λq hq=>by have:=I.old.2 q hq;show _<=g.ep+1;omega⟩,λe=>by have:=I.old.1;have e:ms.clean=g.ep+1:=e;omega,λi q hq hv=>?_,I.u⟩
 rw[agZ hg hc]at hv
 have hqe:=I.old.2 q (List.mem_of_getElem? hq)
 split at hv
 ·omega
 ·rename_i hne
  have hi:=(List.getElem?_eq_some_iff.1 hq).1
  have hs:dG g.m.w g.m.h i:=⟨hg.iX,by omega,by omega⟩
  have h:=I.ok i q hq hv
  have e1:aR (wL g ce x).m i=aR g.m i:=aaJ hg.may hs hc hne
  have e2:jm (wL g ce x).m i=jm g.m i:=amI hg.may hs hc hne
  grind
def amK {f:FI}(J:aaF g f):aaF (wL g ce x) f:=
 ⟨λq hq=>⟨by have:=(J.kept q hq).1;show _<=g.ep+1;omega,λe=>by have:=(J.kept q hq).1;have e:q.2.ep=g.ep+1:=e;omega⟩,J.u⟩
def ag0 (g:g7)(key:Int×Int)(q:C1):Prop:=q.eS<=g.ep/\dG g.m.w g.m.h key.2/\(q.eS=yI g key.2->q.ds=jg (aD g.m.w g.m.h key.2) (bu g.m.w g.m.h key.2) (dx g.m key.2) q.iC/\q.rs=nG (aD g.m.w g.m.h key.2) (bu g.m.w g.m.h key.2) (dx g.m key.2) q.iC)
def aki (hg:wJ g)(hc:bE g.m.w g.m.h ce){key:Int×Int}{q:C1}(h:ag0 g key q):ag0 (wL g ce x) key q:=by
 obtain⟨h1,h2,h3⟩:=h
 refine⟨by show _<=g.ep+1;omega,h2,λhv=>?_⟩
 have hl:=hg.len
 have hk:=h2.2
 have e:yI (wL g ce x) key.2=gi (wL g ce x).vs key.2.toNat:=by
  rw[yI,if_pos]
  refine⟨hk.1,?_⟩
  show key.2<((g.vs.set _ _).length:Int)
  grind
 have e':yI g key.2=gi g.vs key.2.toNat:=by
  unfold yI
  omega
 rw[e,agZ hg hc]at hv
 split at hv
 ·omega
 ·rw[<-e']at hv
  have h4:=h3 hv
  have et:dx (wL g ce x).m key.2=dx g.m key.2:=adP hg.may h2 hc (by omega)
  rw[et]
  exact h4
end
end Go.Proofs.YtmegplnmiepfbaaGreatDoor.S
namespace Go.Proofs.YtmegplnmiepfbaaGreatDoor.S
open Go.Sx
open Go.Extern
section
variable {w:World}
def rt (n:Nat):Value:=.agg #[.pointer (some ⟨8,n,none⟩)]
def adQ (v:Value)(w:World):(ReflectliteType.typeOf #[.iface 401 v]).run P w=.ok (.iface 219 (rt 401)) w:=by kernel_rfl
def ai4 (w:World):((ReflectliteType.method λt=>do Rtype.noPackHeld "Comparable" t;pure (.bool (<-typeInfo t).comparable)) #[rt 401]).run P w=.ok (.bool true) w:=by kernel_rfl
def ag1 (v:Value)(w:World):(Go.method (P.types.size+Made.depth) 219 v "Comparable").run P w=.ok (311,v) w:=by kernel_rfl
def Rt (v:Value)(w:World):(ReflectliteType.typeOf #[.iface 78 v]).run P w=.ok (.iface 219 (rt 78)) w:=by kernel_rfl
def FL (v:Value)(w:World):(ReflectliteType.typeOf #[.iface 108 v]).run P w=.ok (.iface 219 (rt 108)) w:=by kernel_rfl
def FM (t:Addr)(w:World):(ReflectliteValue.unpack (.iface 120 (.pointer (some t)))).run P w
 =.ok (.agg #[.pointer (some ⟨8,120,none⟩),.pointer (sZ w.heap.size),.int .u64 150]) (w.alloc (.cells #[.pointer (some t)] 120)):=by kernel_rfl
def Dn (n:Int)(w:World):(ReflectliteValue.unpack (.iface 108 (ae n))).run P w
 =.ok (.agg #[.pointer (some ⟨8,108,none⟩),.pointer (sZ w.heap.size),.int .u64 130]) (w.alloc (.cells #[ae n] 108)):=by kernel_rfl
def Px (a:Addr)(w:World):(ReflectliteValue.methodAny (ReflectliteValue.valueError "reflectlite.Value.Type" 0) (λt _ _ _=>ReflectliteType.toType t) #[.agg #[.pointer (some ⟨8,120,none⟩),.pointer (some a),.int .u64 150]]).run P w
 =.ok (.iface 219 (rt 120)) w:=by kernel_rfl
def G5 (h:Value)(w:World):(Go.method (P.types.size+Made.depth) 219 (.agg #[h]) "Kind").run P w=.ok (297,h) w:=by kernel_rfl
def KR (w:World):((ReflectliteType.abiMethod λt=>(λa:Nat=>Value.int IntKind.u8 (a:Int))<$>Rtype.kind t) #[.pointer (some ⟨8,120,none⟩)]).run P w=.ok (.int .u8 22) w:=by kernel_rfl
def KT (w:World):((ReflectliteType.abiMethod λt=>(λa:Nat=>Value.int IntKind.u8 (a:Int))<$>Rtype.kind t) #[.pointer (some ⟨8,108,none⟩)]).run P w=.ok (.int .u8 2) w:=by kernel_rfl
def YS (h:Value)(w:World):(Go.method (P.types.size+Made.depth) 219 (.agg #[h]) "Elem").run P w=.ok (312,.agg #[h]) w:=by kernel_rfl
def acC (h:Value)(w:World):(Go.method (P.types.size+Made.depth) 219 (.agg #[h]) "Implements").run P w=.ok (313,.agg #[h]) w:=by kernel_rfl
def Py (h:Value)(w:World):(Go.method (P.types.size+Made.depth) 219 (.agg #[h]) "AssignableTo").run P w=.ok (310,.agg #[h]) w:=by kernel_rfl
def Pz (w:World):(ReflectliteType.method ReflectliteType.elem #[rt 120]).run P w=.ok (.iface 219 (rt 108)) w:=by kernel_rfl
def Vm (w:World):(ReflectliteType.relation "Implements" ReflectliteType.implements_ #[rt 108,.iface 219 (rt 74)]).run P w=.ok (.bool true) w:=by kernel_rfl
def acD (w:World):(ReflectliteType.relation "AssignableTo" ReflectliteType.assignableTo #[rt 78,.iface 219 (rt 108)]).run P w=.ok (.bool false) w:=by kernel_rfl
def PA (w:World):(ReflectliteType.relation "AssignableTo" ReflectliteType.assignableTo #[rt 108,.iface 219 (rt 108)]).run P w=.ok (.bool true) w:=by kernel_rfl
def acE (v:Value)(w:World):(Go.method (P.types.size+Made.depth) 78 v "Unwrap").run P w=.ok (302,v) w:=by kernel_rfl
def aq6 (v:Value)(w:World):(Go.method (P.types.size+Made.depth) 273 v "Unwrap").run P w=.ok (325,v) w:=by kernel_rfl
end
set_option maxRecDepth 20000
def jI {f:Nat}{e:Array Value->Sem Value}{args:Array Value}{w w':World}{v:Value}{K:Value->World->Prop}(h:∀args w,(callFunc f args).run P w=((e args).run P w).andThen λv w'=>.ok (.value v) w')(he:(e args).run P w=.ok v w')(k:K v w'):sU P f args w K:=by
 unfold sU
 simp_all
def cxP (n:Nat):(cx n).P=P:=rfl
def mO {n f:Nat}{e:Array Value->Sem Value}{t:TypeId}{v rv:Value}{name:String}{args:List Value}{w w':World}{r:Value}{K:Value->World->Prop}(hm:∀w,(Go.method (P.types.size+Made.depth) t v name).run P w=.ok (f,rv) w)(hf:oK f fns=false)
  (h:∀args w,(callFunc f args).run P w=((e args).run P w).andThen λv w'=>.ok (.value v) w')(he:(e (#[].toList++(rv::args)++#[].toList).toArray).run P w=.ok r w')(k:K r w'):xV (cx n) (.iface t v) name args w K:=by
 refine⟨f,rv,hm w,?_⟩
 unfold gX
 simp only[cxF,cxP,hf,cond_false]
 exact jI h he k
def x95 (args:Array Value)(w:World):(callFunc 95 args).run P w=((ReflectliteType.typeOf args).run P w).andThen λv w'=>.ok (.value v) w':=run_callFunc_extern Go.Proofs.Tryz.func95 (by kernel_rfl) (by kernel_rfl) (by kernel_rfl) (by kernel_rfl) args w
def as1 (args:Array Value)(w:World):(callFunc 311 args).run P w=((ReflectliteType.method (λt=>do Rtype.noPackHeld "Comparable" t;pure (.bool (<-typeInfo t).comparable)) args).run P w).andThen λv w'=>.ok (.value v) w':=run_callFunc_extern Go.Proofs.Tryz.func311 (by kernel_rfl) (by kernel_rfl) (by kernel_rfl) (by kernel_rfl) args w
def amL:oK 311 fns=false:=by kernel_rfl
def amM:(P.info? 401).map (·.comparable)=some true:=by kernel_rfl
def amN:(P.info? 422).map (·.size)=some 1:=by kernel_rfl
def as2 {tx ty:Nat}{vx vy:Value}{x y:Operand}{w:World}{K:Bool->World->Prop}(hne:tx≠ty)(h:K false w):bT P .eql 74 x y (.iface tx vx) (.iface ty vy) w K:=by
 unfold bT aI
 rw[show(eqGuard .eql 74 x y (.iface tx vx) (.iface ty vy))=pure ()from rfl]
 simp[Sem.run_bind,Sem.run_pure,Result.andThen_ok,run_eql_iface_types tx ty vx vy Go.Proofs.Tryz.underlying74 hne w]
 exact h
def Vn {a:Addr}{x y:Operand}{w:World}{K:Bool->World->Prop}(h:K true w):bT P .eql 74 x y (.iface 401 (.pointer (some a))) (.iface 401 (.pointer (some a))) w K:=by
 obtain⟨i,hi,hcmp⟩:=Option.map_eq_some_iff.1 amM
 obtain⟨j,hj,hjs⟩:=Option.map_eq_some_iff.1 amN
 unfold bT aI
 rw[show(eqGuard .eql 74 x y (.iface 401 (.pointer (some a))) (.iface 401 (.pointer (some a))))=pure ()from rfl]
 simp[Sem.run_bind,Sem.run_pure,Result.andThen_ok,run_eql_iface_ptr_same w a Go.Proofs.Tryz.underlying74 Go.Proofs.Tryz.underlying401 hi hcmp hj]
 exact h
def aaK {a b:Addr}{ca cb:Array Value}{ta tb:TypeId}{x y:Operand}{w:World}{K:Bool->World->Prop}(hne:a≠b)(ha:w.heap[a.block]? =some (.cells ca ta (0,0)))(hb:w.heap[b.block]? =some (.cells cb tb (0,0)))(h:K false w):bT P .eql 74 x y (.iface 401 (.pointer (some a))) (.iface 401 (.pointer (some b))) w K:=by
 obtain⟨i,hi,hcmp⟩:=Option.map_eq_some_iff.1 amM
 obtain⟨j,hj,hjs⟩:=Option.map_eq_some_iff.1 amN
 unfold bT aI
 rw[show(eqGuard .eql 74 x y (.iface 401 (.pointer (some a))) (.iface 401 (.pointer (some b))))=pure ()from rfl]
 simp[Sem.run_bind,Sem.run_pure,Result.andThen_ok,run_eql_iface_ptr_other w Go.Proofs.Tryz.underlying74 Go.Proofs.Tryz.underlying401 hi hcmp hj (by omega) hne ha hb]
 exact h
def as3 {t:Nat}(ht:t=401\/t=78\/t=108\/t=273)(v:Value)(xT:TypeId)(w:World):(Instr.typeAssert (.iface t v) xT 221 true).run P w=.ok (.tuple #[.nilIface,.bool false]) w:=by
 rcases ht with rfl|rfl|rfl|rfl
 ·exact run_typeAssert_lacksB Go.Proofs.Tryz.underlying221 (by kernel_rfl) (by kernel_rfl) v xT w
 ·exact run_typeAssert_lacksB Go.Proofs.Tryz.underlying221 (by kernel_rfl) (by kernel_rfl) v xT w
 ·exact run_typeAssert_lacksB Go.Proofs.Tryz.underlying221 (by kernel_rfl) (by kernel_rfl) v xT w
 ·exact run_typeAssert_lacksB Go.Proofs.Tryz.underlying221 (by kernel_rfl) (by kernel_rfl) v xT w
def av6 {t:Nat}(ht:t=78\/t=108)(v:Value)(xT:TypeId)(w:World):(Instr.typeAssert (.iface t v) xT 231 true).run P w=.ok (.tuple #[.nilIface,.bool false]) w:=by
 rcases ht with rfl|rfl
 ·exact run_typeAssert_lacksB Go.Proofs.Tryz.underlying231 (by kernel_rfl) (by kernel_rfl) v xT w
 ·exact run_typeAssert_lacksB Go.Proofs.Tryz.underlying231 (by kernel_rfl) (by kernel_rfl) v xT w
def av7 {t:Nat}(ht:t=401\/t=108)(v:Value)(xT:TypeId)(w:World):(Instr.typeAssert (.iface t v) xT 224 true).run P w=.ok (.tuple #[.nilIface,.bool false]) w:=by
 rcases ht with rfl|rfl
 ·exact run_typeAssert_lacksB Go.Proofs.Tryz.underlying224 (by kernel_rfl) (by kernel_rfl) v xT w
 ·exact run_typeAssert_lacksB Go.Proofs.Tryz.underlying224 (by kernel_rfl) (by kernel_rfl) v xT w
def auc {t:Nat}(ht:t=401\/t=108)(v:Value)(xT:TypeId)(w:World):(Instr.typeAssert (.iface t v) xT 226 true).run P w=.ok (.tuple #[.nilIface,.bool false]) w:=by
 rcases ht with rfl|rfl
 ·exact run_typeAssert_lacksB Go.Proofs.Tryz.underlying226 (by kernel_rfl) (by kernel_rfl) v xT w
 ·exact run_typeAssert_lacksB Go.Proofs.Tryz.underlying226 (by kernel_rfl) (by kernel_rfl) v xT w
def ap0 {t:Nat}(ht:t=78\/t=273)(v:Value)(xT:TypeId)(w:World):(Instr.typeAssert (.iface t v) xT 224 true).run P w=.ok (.tuple #[.iface t v,.bool true]) w:=by
 rcases ht with rfl|rfl
 ·exact run_typeAssert_hasB Go.Proofs.Tryz.underlying224 (by kernel_rfl) v xT w
 ·exact run_typeAssert_hasB Go.Proofs.Tryz.underlying224 (by kernel_rfl) v xT w
end Go.Proofs.YtmegplnmiepfbaaGreatDoor.S
set_option maxRecDepth 20000
namespace Go.Proofs.YtmegplnmiepfbaaGreatDoor.S
open Go.Sx
open Go.Extern
attribute [local irreducible] af cw bq bg aC cf bX St Bx Al App cA cq cm bT bw aq bR av aj aV mapA
def axP:oK 302 fns=true:=by kernel_rfl
def axQ:oK 325 fns=true:=by kernel_rfl
def Ah {s:Sem Value}{w w':World}{v:Value}{K:Value->World->Prop}(h:s.run P w=.ok v w')(k:K v w'):aI P s w K:=by
 unfold aI
 grind
section
variable {w:World}{p n:Nat}{v:Value}
def mj {ad:Addr}{K:Value->Prop}(h:w.cell? ad=some v)(hp:Value.plain v=true)(k:K v):bX ad w K:=by
 unfold bX
 grind
def sQ {t:Nat}{A B:Prop}(h:B):A2 (.iface t v) λb=>cond b A B:=h
def Ru {b:Bool}{K:Value->Bool->Prop}(hp:Value.plain v=true)(k:K v b):dT (.tuple #[v,.bool b]) λl=>c_ l λv0 l0=>dV v0 λx0=>c_ l0 λv1 l1=>dB v1 λx1=>j7 l1 (K x0 x1):=by
 show dV v λx0=>K x0 b
 unfold dV
 grind
def aaL {Q:Value->World->Prop}(hv:w.cell? ((aZ p).add 1)=some v)(hp:Value.plain v=true)(k:Q v w):xV (cx n) (.iface 78 (.pointer (sZ p))) "Unwrap" [] w λv w=>dV v λr=>Q r w:=by
 refine⟨302,_,acE _ w,?_⟩
 unfold gX
 have h:Fg (sZ p) w Q:=by
  apply QZ
  refine ah (mj hv hp ?_)
  unfold dV
  grind
 exact h
def aq7 {Q:Value->World->Prop}(hv:w.cell? ((aZ p).add 1)=some v)(hp:Value.plain v=true)(k:Q v w):xV (cx n) (.iface 273 (.pointer (sZ p))) "Unwrap" [] w λv w=>dV v λr=>Q r w:=by
 refine⟨325,_,aq6 _ w,?_⟩
 unfold gX
 have h:Er (sZ p) w Q:=by
  apply O7
  refine ah (mj hv hp ?_)
  unfold dV
  grind
 exact h
def ai5 {Q:Bool->World->Prop}{t:Nat}{u target:Value}{c:Bool}(ht:t=401\/t=108){k:Nat}
  (he:∀(x y:Operand) (K:Bool->World->Prop),K c w->bT P .eql 74 x y (.iface t u) target w K)(hQ:Q c w):pN Q (k+1) (.iface t u) target true w:=by
 show z0 Q (pN Q k) _ _ _ _
 unfold z0
 apply he
 cases c with
 |true=>exact hQ
 |false=>
  refine Ah (as3 (by grind) _ _ _) (Ru rfl ?_)
  refine Ah (av7 ht _ _ _) (Ru rfl ?_)
  refine Ah (auc ht _ _ _) (Ru rfl ?_)
  grind
def aq8 {Q:Bool->World->Prop}{tw:Nat}{target:Value}{k tt:Nat}{tv:Value}(O9:tw=78\/tw=273)(htg:target=.iface 401 tv)(hv:w.cell? ((aZ p).add 1)=some (.iface tt v))
  (h:pN Q k (.iface tt v) target true w):pN Q (k+1) (.iface tw (.pointer (sZ p))) target true w:=by
 show z0 Q (pN Q k) _ _ _ _
 unfold z0
 subst htg
 apply as2 (by grind)
 refine Ah (as3 (by grind) _ _ _) (Ru rfl ?_)
 refine Ah (ap0 O9 _ _ _) (Ru rfl ?_)
 rcases O9 with rfl|rfl
 ·exact aaL hv rfl h
 ·exact aq7 hv rfl h
def Rv {Q:Bool->World->Prop}{tw tt:Nat}{b:Addr}{c:Bool}(O9:tw=78\/tw=273)(ht:tt=401\/tt=108)(hv:w.cell? ((aZ p).add 1)=some (.iface tt v))
  (he:∀(x y:Operand) (K:Bool->World->Prop),K c w->bT P .eql 74 x y (.iface tt v) (.iface 401 (.pointer (some b))) w K)(hQ:Q c w):
  oR (.iface tw (.pointer (sZ p))) (.iface 401 (.pointer (some b))) w Q:=by
 apply L0
 refine sQ (sQ ?_)
 apply jI x95 (adQ _ w)
 refine mO (ag1 _) amL as1 (ai4 w) ?_
 have h:v_ (.iface tw (.pointer (sZ p))) (.iface 401 (.pointer (some b))) true w Q:=by
  apply LZ
  exact⟨2,aq8 O9 rfl hv (ai5 ht he hQ)⟩
 exact h
end
end Go.Proofs.YtmegplnmiepfbaaGreatDoor.S
set_option maxRecDepth 20000
namespace Go.Proofs.YtmegplnmiepfbaaGreatDoor.S
open Go.Sx
open Go.Extern
def x97 (args:Array Value)(w:World):(callFunc 97 args).run P w=((ReflectliteValue.unpack (args.getD 0 (.tuple #[]))).run P w).andThen λv w'=>.ok (.value v) w':=run_callFunc_extern (e:=λargs=>ReflectliteValue.unpack (args.getD 0 (.tuple #[]))) Go.Proofs.Tryz.func97 (by kernel_rfl) (by kernel_rfl) (by kernel_rfl) (by kernel_rfl) args w
def x98 (args:Array Value)(w:World):(callFunc 98 args).run P w=((ReflectliteValue.methodAny (ReflectliteValue.valueError "reflectlite.Value.Type" 0) (λt _ _ _=>ReflectliteType.toType t) args).run P w).andThen λv w'=>.ok (.value v) w':=run_callFunc_extern Go.Proofs.Tryz.func98 (by kernel_rfl) (by kernel_rfl) (by kernel_rfl) (by kernel_rfl) args w
def x99 (args:Array Value)(w:World):(callFunc 99 args).run P w=((ReflectliteValue.method (ReflectliteValue.valueError "reflectlite.Value.IsNil" 0) ReflectliteValue.isNil args).run P w).andThen λv w'=>.ok (.value v) w':=run_callFunc_extern Go.Proofs.Tryz.func99 (by kernel_rfl) (by kernel_rfl) (by kernel_rfl) (by kernel_rfl) args w
def aoQ (args:Array Value)(w:World):(callFunc 138 args).run P w=((ReflectliteValue.method (ReflectliteValue.valueError "reflectlite.Value.Elem" 0) ReflectliteValue.elem args).run P w).andThen λv w'=>.ok (.value v) w':=run_callFunc_extern Go.Proofs.Tryz.func138 (by kernel_rfl) (by kernel_rfl) (by kernel_rfl) (by kernel_rfl) args w
def aoR (args:Array Value)(w:World):(callFunc 139 args).run P w=((ReflectliteValue.set args).run P w).andThen λv w'=>.ok (.value v) w':=run_callFunc_extern Go.Proofs.Tryz.func139 (by kernel_rfl) (by kernel_rfl) (by kernel_rfl) (by kernel_rfl) args w
def acF (args:Array Value)(w:World):(callFunc 297 args).run P w=((ReflectliteType.abiMethod (λt=>do pure (.int .u8 (<-Rtype.kind t))) args).run P w).andThen λv w'=>.ok (.value v) w':=run_callFunc_extern Go.Proofs.Tryz.func297 (by kernel_rfl) (by kernel_rfl) (by kernel_rfl) (by kernel_rfl) args w
def aoS (args:Array Value)(w:World):(callFunc 312 args).run P w=((ReflectliteType.method ReflectliteType.elem args).run P w).andThen λv w'=>.ok (.value v) w':=run_callFunc_extern Go.Proofs.Tryz.func312 (by kernel_rfl) (by kernel_rfl) (by kernel_rfl) (by kernel_rfl) args w
def aoT (args:Array Value)(w:World):(callFunc 313 args).run P w=((ReflectliteType.relation "Implements" ReflectliteType.implements_ args).run P w).andThen λv w'=>.ok (.value v) w':=run_callFunc_extern Go.Proofs.Tryz.func313 (by kernel_rfl) (by kernel_rfl) (by kernel_rfl) (by kernel_rfl) args w
def ag3 (args:Array Value)(w:World):(callFunc 310 args).run P w=((ReflectliteType.relation "AssignableTo" ReflectliteType.assignableTo args).run P w).andThen λv w'=>.ok (.value v) w':=run_callFunc_extern Go.Proofs.Tryz.func310 (by kernel_rfl) (by kernel_rfl) (by kernel_rfl) (by kernel_rfl) args w
def PB:oK 297 fns=false:=by kernel_rfl
def ag4:oK 312 fns=false:=by kernel_rfl
def ag5:oK 313 fns=false:=by kernel_rfl
def Vo:oK 310 fns=false:=by kernel_rfl
abbrev vP (a:Addr):Value:=.agg #[.pointer (some ⟨8,120,none⟩),.pointer (some a),.int .u64 150]
abbrev vR (a:Addr):Value:=.agg #[.pointer (some ⟨8,108,none⟩),.pointer (some a),.int .u64 130]
abbrev vE (a:Addr):Value:=.agg #[.pointer (some ⟨8,108,none⟩),.pointer (some a),.int .u64 386]
def rlm (z:Sem Value)(f:TypeId->Addr->Nat->Nat->Sem Value)(v:Value):
 ReflectliteValue.method z f #[v]=(do match<-ReflectliteValue.parts v with|none=>z|some (t,a,fl)=>f t a fl (fl%32)):=rfl
def zh (a:Addr)(w:World):(ReflectliteValue.parts (vP a)).run P w=.ok (some (120,a,150)) w:=by kernel_rfl
def Ib (a:Addr)(w:World):(ReflectliteValue.parts (vR a)).run P w=.ok (some (108,a,130)) w:=by kernel_rfl
def Ic (a:Addr)(w:World):(ReflectliteValue.parts (vE a)).run P w=.ok (some (108,a,386)) w:=by kernel_rfl
def KU (a p:Addr)(w:World)(ha:w.cell? a=some (.pointer (some p))):(ReflectliteValue.method (ReflectliteValue.valueError "reflectlite.Value.IsNil" 0) ReflectliteValue.isNil #[vP a]).run P w=.ok (.bool false) w:=by
 rw[rlm]
 simp[Sem.run_bind,zh,Result.andThen]
 simp[ReflectliteValue.isNil,loadVar,isAgg,underlying,Go.Proofs.Tryz.underlying120,ha,Result.andThen]
def Ie (w:World):(Rtype.elem? 120).run P w=.ok (some 108) w:=by kernel_rfl
def aaM (p:Addr)(w:World):(ReflectliteValue.mk 108 p ReflectliteValue.flagAddr).run P w=.ok (vE p) w:=by kernel_rfl
def KV (a p:Addr)(w:World)(ha:w.cell? a=some (.pointer (some p))):(ReflectliteValue.method (ReflectliteValue.valueError "reflectlite.Value.Elem" 0) ReflectliteValue.elem #[vP a]).run P w=.ok (vE p) w:=by
 rw[rlm]
 simp[Sem.run_bind,zh,Result.andThen]
 simp[ReflectliteValue.elem,loadVar,isAgg,underlying,Go.Proofs.Tryz.underlying120,ha,Result.andThen,Ie,aaM]
def rls (v x:Value):ReflectliteValue.set #[v,x]=(do
 let(some (dst,a,fl),some (src,b,_)):=(<-ReflectliteValue.parts v,<-ReflectliteValue.parts x)
  |unsupported (.noEntry "extern/(internal/reflectlite.Value).Set.zeroValue")
 if fl/ReflectliteValue.flagAddr%2==0 then unsupported (.noEntry "extern/(internal/reflectlite.Value).Set.unaddressable")
 let val<-loadVar src b
 if<-Rtype.directlyAssignable dst src then storeVar dst a val
 else if<-Rtype.implements dst src then
  if(<-Rtype.kind src)==20 then
   match val with
   |.nilIface=>unsupported (.noEntry "extern/reflectlite: a nil value of one interface type handed on as a value of another")
   |_=>storeVar dst a val
  else storeVar dst a (.iface src val)
 else panicString ("reflectlite.Set: value of type "++(<-Rtype.spelt src)++ " is not assignable to type "++(<-Rtype.spelt dst))
 pure (.tuple #[])):=rfl
def Ig (w:World):(Rtype.directlyAssignable 108 108).run P w=.ok true w:=by kernel_rfl
def Vq (t b:Addr)(n:Int)(old:Value)(w:World)(hb:w.cell? b=some (ae n))(ht:w.cell? t=some old)(hf:w.frozen? t=false):
  (ReflectliteValue.set #[vE t,vR b]).run P w=.ok (.tuple #[]) (w.setCell t (ae n)):=by
 rw[rls]
 simp[Sem.run_bind,Ic,Ib,Result.andThen]
 simp[ReflectliteValue.flagAddr,loadVar,isAgg,underlying,Go.Proofs.Tryz.underlying108,hb,Result.andThen,Ig,storeVar,Value.cells,storeCells,Addr.add]
 rw[run_store P w t _ _ (by rfl)]
 simp[ht,hf]
end Go.Proofs.YtmegplnmiepfbaaGreatDoor.S
set_option maxRecDepth 20000
namespace Go.Proofs.YtmegplnmiepfbaaGreatDoor.S
open Go.Sx
open Go.Extern
attribute [local irreducible] sU callFunc Sem.run ReflectliteValue.method ReflectliteValue.set ReflectliteValue.unpack ReflectliteType.relation ReflectliteType.typeOf af cw bq bg aC cf bX St App cA cq cm bT bw aq bR av aj aV mapA
section
variable {F:Nat->Prop}{W w:World}{L:List As}{p r:Nat}{c v0:Int}
def Rw {a b:Option Addr}{f:Int}{K:Option Addr->Option Addr->Int->Prop}(k:K a b f):dL (.agg #[.pointer a,.pointer b,.int .u64 f]) λl=>c_ l λv0 l0=>dP v0 λa=>c_ l0 λv1 l1=>dP v1 λb=>c_ l1 λv2 l2=>dI .u64 v2 λf=>j7 l2 (K a b f):=k
def akj {A B:Prop}(h:A):dB (.bool true) λb=>cond b A B:=h
def acG {A B:Prop}(h:B):dB (.bool false) λb=>cond b A B:=h
def akk {A B:Prop}(h:B):dB (.bool true) λb=>cond (!b) A B:=h
def akl {A B:Prop}(h:B):dI .u8 (.int .u8 22) λr=>cond (r !=22) A B:=h
def ap1 {A B:Prop}(h:A):dI .u8 (.int .u8 2) λr=>cond (r !=20) A B:=h
def ayQ:zc T 161=[.pointer none,.pointer none,.int .u64 0]:=rfl
def akm {ad:Addr}{v:Value}{K:World->Prop}(h:St ad v w K):(∃u,w.cell? ad=some u)/\w.frozen? ad=false/\K (w.setCell ad v):=by
 unfold St at h
 exact h
def PC {b:Addr}{K:Value->World->Prop}(hb:w.cell? b=some (ae c))(h:St (aZ r) (ae c) w λw=>K (.tuple #[]) w):sU P 139 #[vE (aZ r),vR b] w K:=by
 obtain⟨⟨u,hu⟩,hf,k⟩:=akm h
 have he:=Vq (aZ r) b c u w hb hu hf
 apply jI (w':=w.setCell (aZ r) (ae c)) aoR he
 exact k
def Vr {Q:Bool->World->Prop}{k tb:Nat}{a:Nat}(s:Sep F W w (av tb 161 [.pointer (some ⟨8,120,none⟩),.pointer (sZ a),.int .u64 150]::av a 120 [.pointer (sZ r)]::av r 108 [ae v0]::L))
  (hQ:∀w',Sep F W w' (av r 108 [ae c]::L)->Q true w'){target:Value}:iT Q (k+1) (.iface 108 (ae c)) target (.iface 219 (rt 108)) (aZ tb) w:=by
 show vU Q (iT Q k) _ _ _ _ _
 apply jI x95 (FL _ w)
 refine mO (Py _) Vo ag3 (PA w) ?_
 apply akj
 refine lP s 0 rfl (lP s 0 rfl (lI s 0 rfl ?_))
 apply jI aoQ (KV (aZ a) (aZ r) w (by have:=cg s (i:=1) (j:=0) rfl rfl rfl;exact this))
 apply Rw
 refine jI x97 (Dn c w) ?_
 apply Rw
 have s2:=sW (ai (ai s)) [ae c] 108
 have s2:=s2
 apply PC (c:=c) (by simp_all)
 refine ax s2 (i:=1) rfl rfl rfl λw s=>?_
 exact hQ w (ai s)
def ag8 {Q:Bool->World->Prop}{k tb:Nat}{a:Nat}(s:Sep F W w (av tb 161 [.pointer (some ⟨8,120,none⟩),.pointer (sZ a),.int .u64 150]::av a 120 [.pointer (sZ r)]::av r 108 [ae v0]::L))
  (hv:w.cell? ((aZ p).add 1)=some (.iface 108 (ae c)))
  (hQ:∀w',Sep F W w' (av r 108 [ae c]::L)->Q true w'){target:Value}:iT Q (k+2) (.iface 78 (.pointer (sZ p))) target (.iface 219 (rt 108)) (aZ tb) w:=by
 show vU Q (iT Q (k+1)) _ _ _ _ _
 apply jI x95 (Rt _ w)
 refine mO (Py _) Vo ag3 (acD w) ?_
 apply acG
 refine Ah (av6 (.inl rfl) _ _ _) (Ru rfl ?_)
 refine Ah (ap0 (.inl rfl) _ _ _) (Ru rfl ?_)
 exact aaL hv rfl (sQ (Vr s hQ))
def KW {Q:Bool->World->Prop}(s:Sep F W w (av r 108 [ae v0]::L))(hv:∀w',Sep F W w' L->w'.cell? ((aZ p).add 1)=some (.iface 108 (ae c)))
  (h1:∀w',Sep F W w' L->w'.cell? (aZ 1)=some (.iface 219 (rt 74)))
  (hQ:∀w',Sep F W w' (av r 108 [ae c]::L)->Q true w'):
  m7 (.iface 78 (.pointer (sZ p))) (.iface 120 (.pointer (sZ r))) w Q:=by
 apply AG
 refine sQ (sQ ?_)
 refine jI x97 (FM (aZ r) w) ?_
 apply Rw
 have s:=sW s [.pointer (sZ r)] 120
 have s:=s
 generalize w.heap.size=a at s⊢
 generalize w.alloc (.cells #[.pointer (sZ r)] 120)=w1 at s⊢
 refine a_ s λvb w s=>?_
 refine sT s 0 rfl λw s=>?_
 refine sT s 0 rfl λw s=>?_
 refine ax s (i:=0) rfl rfl rfl λw s=>?_
 refine lP s 0 rfl (lP s 0 rfl (lI s 0 rfl ?_))
 apply jI x98 (Px (aZ a) w)
 refine mO (G5 _) PB acF (KR w) ?_
 apply akl
 refine lP s 0 rfl (lP s 0 rfl (lI s 0 rfl ?_))
 apply jI x99 (KU (aZ a) (aZ r) w (by have:=cg s (i:=1) (j:=0) rfl rfl rfl;exact this))
 apply acG
 refine mO (YS _) ag4 aoS (Pz w) ?_
 refine mO (G5 _) PB acF (KT w) ?_
 apply ap1
 apply mj (h1 w (ai (ai (ai s)))) rfl
 refine mO (acC _) ag5 aoT (Vm w) ?_
 apply akk
 refine lP s 0 rfl (lP s 0 rfl (lI s 0 rfl ?_))
 apply Fh
 have s:=ai s
 refine aT s λtb w s=>?_
 exact⟨2,ag8 s (hv w (ai (ai (ai s)))) hQ⟩
end
end Go.Proofs.YtmegplnmiepfbaaGreatDoor.S
namespace Go.Proofs.YtmegplnmiepfbaaGreatDoor.S
open Go.Sx
attribute [local irreducible] af cw bq bg aC cf bX St Bx Al App cA cq cm bT aI bw aq bR av aj aV mapA
structure yS where
 a0:Addr
 a2:Addr
 a3:Addr
 a4:Addr
 a5:Addr
 a6:Addr
structure iK (w:World) (g:yS):Prop where
 v0:w.cell? (aZ 0)=some (.iface 401 (.pointer (some g.a0)))
 v1:w.cell? (aZ 1)=some (.iface 219 (rt 74))
 v2:w.cell? (aZ 2)=some (.iface 401 (.pointer (some g.a2)))
 v3:w.cell? (aZ 3)=some (.iface 401 (.pointer (some g.a3)))
 v4:w.cell? (aZ 4)=some (.iface 401 (.pointer (some g.a4)))
 v5:w.cell? (aZ 5)=some (.iface 401 (.pointer (some g.a5)))
 v6:w.cell? (aZ 6)=some (.iface 401 (.pointer (some g.a6)))
 n23:g.a2≠g.a3
 n56:g.a5≠g.a6
 b2:∃c t,w.heap[g.a2.block]? =some (.cells c t (0,0))
 b3:∃c t,w.heap[g.a3.block]? =some (.cells c t (0,0))
 b5:∃c t,w.heap[g.a5.block]? =some (.cells c t (0,0))
 b6:∃c t,w.heap[g.a6.block]? =some (.cells c t (0,0))
def V2 {w w':World}{k:Nat}{o:Obj}(f:Fr No w w')(h:w.heap[k]? =some o):w'.heap[k]? =some o:=by
 rw[Fr.block f k (Array.getElem?_eq_some_iff.1 h).1 id]
 exact h
def iK.fr {w w':World}{g:yS}(k:iK w g)(f:Fr No w w'):iK w' g where
 v0:=Fr.cell f k.v0 id
 v1:=Fr.cell f k.v1 id
 v2:=Fr.cell f k.v2 id
 v3:=Fr.cell f k.v3 id
 v4:=Fr.cell f k.v4 id
 v5:=Fr.cell f k.v5 id
 v6:=Fr.cell f k.v6 id
 n23:=k.n23
 n56:=k.n56
 b2:=let⟨c,t,h⟩:=k.b2;⟨c,t,V2 f h⟩
 b3:=let⟨c,t,h⟩:=k.b3;⟨c,t,V2 f h⟩
 b5:=let⟨c,t,h⟩:=k.b5;⟨c,t,V2 f h⟩
 b6:=let⟨c,t,h⟩:=k.b6;⟨c,t,V2 f h⟩
structure EG where
 a:Int
 b:Int
 c:Int
 d:Int
 e:Int
 f:Int
structure Vs (x:EG):Prop where
 a:Ta.U x.a
 b:Ta.U x.b
 c:Ta.U x.c
 d:Ta.U x.d
 e:Ta.U x.e
 f:Ta.U x.f
def EG.add (x y:EG):EG:=⟨Ta.sat x.a y.a,Ta.sat x.b y.b,Ta.sat x.c y.c,Ta.sat x.d y.d,Ta.sat x.e y.e,Ta.sat x.f y.f⟩
def Vs.add {x y:EG}(hx:Vs x)(hy:Vs y):Vs (x.add y):=⟨Ta.FE hx.a hy.a,Ta.FE hx.b hy.b,Ta.FE hx.c hy.c,Ta.FE hx.d hy.d,Ta.FE hx.e hy.e,Ta.FE hx.f hy.f⟩
def acH (x:EG):List Value:=[.int .u64 x.a,.int .u64 x.b,.int .u64 x.c,.int .u64 x.d,.int .u64 x.e,.int .u64 x.f]
structure zO where
 p:Nat
 sh:Vj
 gr:tQ
 mr:AP
 fp:Nat
structure kz where
 g:g7
 ms:m_
 f:FI
structure fY where
 k:Int
 x:Ac
 o:Option kz
 past:EG
def FN (r:zO)(y:fY):List Value:=match y.o with
 |some _=>[.pointer (sZ r.gr.p),.pointer (sZ r.mr.p),.pointer (sZ r.fp),.pointer (sZ r.sh.p)]++acH y.past
 |none=>[.pointer none,.pointer none,.pointer none,.pointer (sZ r.sh.p)]++acH y.past
noncomputable def Ht (r:zO)(o:Option kz):List As:=match o with
 |some m=>[mM r.gr m.g,qS r.mr r.gr.p m.ms,tT r.fp r.mr.p r.gr.p m.f]
 |none=>[]
noncomputable def akn (r:zO)(y:fY):List As:=av r.p 106 (FN r y)::jH r.sh y.k y.x::Ht r y.o
structure as7 (y:fY) (m:kz):Prop where
 g:wJ m.g
 I:xQ m.g m.ms
 J:aaF m.g m.f
 nF:m.g.m.w*m.g.m.h<=1600
 right:Rs (ag0 m.g) y.x.p
structure FO (y:fY):Prop where
 sh:acB y.k y.x.p
 past:Vs y.past
 m:∀m,y.o=some m->as7 y m
noncomputable def gW (r:zO)(y:fY):As:=aV (FO y) (akn r y)
section
variable {F:Nat->Prop}{W w w0:World}{L:List As}{r:zO}{y:fY}
def BN (s:Sep F W w (gW r y::L)):FO y/\Sep F W w (akn r y++L):=iW s
def Vt (s:Sep F W w (akn r y++L))(h:FO y):Sep F W w (gW r y::L):=dX s h
noncomputable abbrev YT (r:zO)(past:EG):As:=av r.p 106 [.pointer (sZ r.gr.p),.pointer (sZ r.mr.p),.pointer (sZ r.fp),.pointer (sZ r.sh.p),.int .u64 past.a,.int .u64 past.b,.int .u64 past.c,.int .u64 past.d,.int .u64 past.e,.int .u64 past.f]
def MD {m:kz}(ho:y.o=some m)(s:Sep F W w (gW r y::L)):FO y/\Sep F W w (YT r y.past::jH r.sh y.k y.x::mM r.gr m.g::qS r.mr r.gr.p m.ms::tT r.fp r.mr.p r.gr.p m.f::L):=by
 obtain⟨h,s⟩:=BN s
 have s:Sep F W w (av r.p 106 (FN r y)::jH r.sh y.k y.x::(Ht r y.o++L)):=s
 unfold FN at s
 rw[ho]at s
 exact⟨h,s⟩
def Jr {m:kz}{k:Int}{x:Ac}{past:EG}(s:Sep F W w (YT r past::jH r.sh k x::mM r.gr m.g::qS r.mr r.gr.p m.ms::tT r.fp r.mr.p r.gr.p m.f::L))(h:FO ⟨k,x,some m,past⟩):Sep F W w (gW r ⟨k,x,some m,past⟩::L):=
 Vt s h
def aeW {Q:Option Addr->World->Prop}{k:Int}(hk:1<=k/\k<=100000)(s:Sep F W w L)
  (h:∀r x w',x.p=⟨[],[],0,0,0,0⟩->Sep F W w' (gW r ⟨k,x,none,⟨0,0,0,0,0,0⟩⟩::L)->Q (sZ r.p) w'):Il k w Q:=by
 apply aeq
 rw[bD]
 refine aaI s (λe=>by omega) λ_ sr w s=>?_
 refine aT s λp w s=>?_
 have u0:Ta.U 0:=by unfold Ta.U;omega
 refine h ⟨p,sr,⟨0,none,0,0,none,0,0⟩,⟨0,none,0,0⟩,0⟩ _ w rfl (Vt s ⟨⟨hk.1,hk.2,Lr.KH (k:=k) (by omega),rfl,u0,u0,u0,u0,(λq hq=>by cases hq)⟩,⟨u0,u0,u0,u0,u0,u0⟩,λm e=>by cases e⟩)
structure ag9 (w:World) (r:zO) (y:fY) (m:kz):Prop where
 ok:FO y
 o:y.o=some m
 cell:rz w r.p (FN r y)
 g:nJ w r.gr m.g
def sv {m:kz}(s:Sep F W w (gW r y::L))(ho:y.o=some m):ag9 w r y m:=by
 obtain⟨h,s⟩:=BN s
 refine⟨h,ho,kM s (i:=0) rfl,?_⟩
 have s:Sep F W w (av r.p 106 (FN r y)::jH r.sh y.k y.x::(Ht r y.o++L)):=s
 rw[ho]at s
 exact oC (ai (ai s))
def ag9.c0 {m:kz}(k:ag9 w r y m){j:Nat}{v:Value}(h:([.pointer (sZ r.gr.p),.pointer (sZ r.mr.p),.pointer (sZ r.fp),.pointer (sZ r.sh.p)]++acH y.past)[j]? =some v):w.cell? ((aZ r.p).add j)=some v:=by
 apply k.cell j v
 rw[FN,k.o]
 exact h
def G6 {Q:Int->World->Prop}{m:kz}{c:Int}(k:ag9 w r y m)(h:Q (cE m.g.m c) w):qZ (sZ r.p) c w Q:=by
 apply T_
 have h0:=k.c0 (j:=0) rfl
 exact mz (ah (dK h0 (jd k.g h)))
def PD {Q:Int->Int->World->Prop}{m:kz}(s0:Sep F W w L)(k:ag9 w r y m)(h:∀w',Sep F W w' L->Fr No w w'->Q m.g.m.w m.g.m.h w'):wc (sZ r.p) w Q:=by
 apply Uf
 have h0:=k.c0 (j:=0) rfl
 exact mz (ah (dK h0 (je s0 k.g h)))
def acI {Q:Int->World->Prop}{m:kz}{ce x:Int}(ho:y.o=some m)(he:m.g.ep<1000000000)(s:Sep F W w (gW r y::L))
  (h7:¬bE m.g.m.w m.g.m.h ce->Q 7 w)(h8:bE m.g.m.w m.g.m.h ce->¬(1<=x/\x<=255)->Q 8 w)
  (h0:bE m.g.m.w m.g.m.h ce->1<=x/\x<=255->∀w',Sep F W w' (gW r ⟨y.k,y.x,some ⟨wL m.g ce x,m.ms,m.f⟩,y.past⟩::L)->Q 0 w'):Ba (sZ r.p) ce x w Q:=by
 apply Ue
 have k:=sv s ho
 obtain⟨hok,s⟩:=MD ho s
 have hm:=hok.m m ho
 have c0:=k.c0 (j:=0) rfl
 refine mz (ah (dK c0 ?_))
 have s:=pk 5 [2,0,1,3,4] s
 refine Z2 s (by omega) h7 h8 λhc hx w s=>?_
 refine h0 hc hx w (Jr (pk 5 [1,2,0,3,4] s) ⟨hok.sh,hok.past,λm' e=>?_⟩)
 cases e
 exact⟨agj hm.g hx (by omega),amJ hm.g hc hm.I,amK hm.J,hm.nF,akg hm.right λkey q=>aki hm.g hc⟩
def aaN {Q:World->Prop}{m:kz}(ho:y.o=some m)(s:Sep F W w (gW r y::L))
  (h:∀r' x' w',r'.p=r.p->x'.p=⟨[],[],y.x.b,y.x.h,y.x.st,y.x.ev⟩->Sep F W w' (gW r' ⟨y.k,x',some ⟨m.g,m.ms,⟨none,m.f.fA⟩⟩,y.past⟩::L)->Q w'):uR (sZ r.p) w Q:=by
 apply Gg
 have k:=sv s ho
 obtain⟨hok,s⟩:=MD ho s
 have hm:=hok.m m ho
 refine isS (ah (dK (k.c0 rfl) ?_))
 have s:=jN s
 refine Nv hok.sh.one s λsr w e s=>?_
 refine ah (lP s 1 rfl ?_)
 have s:=pk 5 [4,0,1,2,3] s
 refine WQ s λw s=>?_
 have s:=fT (A:=[_,_,_,_,_]) (B:=[YT ⟨r.p,sr,r.gr,r.mr,r.fp⟩ y.past,jH sr y.k ⟨[],[],y.x.b,y.x.h,y.x.st,y.x.ev⟩,mM r.gr m.g,qS r.mr r.gr.p m.ms,tT r.fp r.mr.p r.gr.p ⟨none,m.f.fA⟩]) [2,1,3,4,0] s (by unfold YT;rw[e];rfl) (by decide)
 refine h ⟨r.p,sr,r.gr,r.mr,r.fp⟩ ⟨[],[],y.x.b,y.x.h,y.x.st,y.x.ev⟩ w rfl rfl (Jr s ⟨?_,hok.past,λm' e=>?_⟩)
 ·exact⟨hok.sh.one,hok.sh.room,Lr.KH (k:=y.k) (by have:=hok.sh.one;omega),rfl,hok.sh.b,hok.sh.h,hok.sh.st,hok.sh.ev,λq hq=>by cases hq⟩
 ·cases e
  exact⟨hm.g,hm.I,⟨(λq e=>by cases e),hm.J.u⟩,hm.nF,adO⟩
def WS {Q:World->Prop}(h:Q w):pZ Option.none w Q:=CD _ _ _ h
def aaO {Q:World->Prop}(ho:y.o=Option.none)(s:Sep F W w (gW r y::L))
  (h:∀r' x' w',r'.p=r.p->x'.p=⟨[],[],y.x.b,y.x.h,y.x.st,y.x.ev⟩->Sep F W w' (gW r' ⟨y.k,x',Option.none,y.past⟩::L)->Q w'):uR (some ⟨r.p,0,Option.none⟩) w Q:=by
 apply Gg
 obtain⟨hok,s⟩:=BN s
 have s:Sep F W w (av r.p 106 (FN r y)::jH r.sh y.k y.x::(Ht r y.o++L)):=s
 unfold FN at s
 rw[ho]at s
 have s:=s
 refine isS (ah (lP s 0 rfl ?_))
 have s:=jN s
 refine Nv hok.sh.one s λsr w e s=>?_
 refine ah (lP s 1 rfl ?_)
 apply WS
 have s:=jN s
 rw[<-e]at s
 refine h ⟨r.p,sr,r.gr,r.mr,r.fp⟩ ⟨[],[],y.x.b,y.x.h,y.x.st,y.x.ev⟩ w rfl rfl (Vt s ⟨?_,hok.past,λm' e=>by cases e⟩)
 exact⟨hok.sh.one,hok.sh.room,Lr.KH (k:=y.k) (by have:=hok.sh.one;omega),rfl,hok.sh.b,hok.sh.h,hok.sh.st,hok.sh.ev,λq hq=>by cases hq⟩
def tU (y:fY):EG:=match y.o with
 |some m=>⟨m.ms.fA,m.f.fA,0,0,0,0⟩
 |none=>⟨0,0,0,0,0,0⟩
def amO (h:FO y):Vs (tU y):=by
 have u0:Ta.U 0:=by unfold Ta.U;omega
 unfold tU
 cases hy:y.o with
 |none=>exact⟨u0,u0,u0,u0,u0,u0⟩
 |some m=>exact⟨(h.m m hy).I.u,(h.m m hy).J.u,u0,u0,u0,u0⟩
def KX {Q:Int->Int->Int->Int->Int->Int->World->Prop}(s:Sep F W w (gW r y::L))(h:∀w',Sep F W w' (gW r y::L)->Fr No w w'->Q (tU y).a (tU y).b (tU y).c (tU y).d (tU y).e (tU y).f w'):tj (some ⟨r.p,0,Option.none⟩) w Q:=by
 apply Qp
 refine a_ (bt (F:=No)) λp w1 s1=>?_
 have fin:∀w',Sep No w w' []->Q (tU y).a (tU y).b (tU y).c (tU y).d (tU y).e (tU y).f w':=λw' s'=>h w' (fR s s') (au s')
 apply ah
 cases hy:y.o with
 |some m=>
  obtain⟨hok,so⟩:=MD hy s
  have k:=sv s hy
  have km:=(Mj (ai (ai (ai so)))).cell.fr (au s1)
  have kf:=(MB (ai (ai (ai (ai so))))).fr (au s1)
  have e:tU y=⟨m.ms.fA,m.f.fA,0,0,0,0⟩:=by unfold tU;rw[hy]
  rw[e]at fin
  have c1:=Fr.cell (au s1) (k.c0 (j:=1) rfl) id
  have c2:=Fr.cell (au s1) (k.c0 (j:=2) rfl) id
  refine dK c1 (ah (dK c2 ?_))
  refine YC km ⟨c2,?_⟩
  apply Vf (w:=w1.drew) kf
  exact agX (ay s1) λw' s'=>fin w' (ai s')
 |none=>
  obtain⟨hok,so⟩:=BN s
  have so:Sep F W w (av r.p 106 (FN r y)::jH r.sh y.k y.x::(Ht r y.o++L)):=so
  unfold FN at so
  rw[hy]at so
  have kb:=kM so (i:=0) rfl
  have e:tU y=⟨0,0,0,0,0,0⟩:=by unfold tU;rw[hy]
  rw[e]at fin
  have c1:=Fr.cell (au s1) (kb 1 _ rfl) id
  have c2:=Fr.cell (au s1) (kb 2 _ rfl) id
  refine dK c1 (ah (dK c2 ?_))
  refine YD ⟨c2,?_⟩
  apply Vg
  exact agX (ay s1) λw' s'=>fin w' (ai s')
def PE (s:Sep F W w (gW r y::L)):rz w r.sh.p (qu r.sh y.x)/\w.cell? ((⟨r.p,0,Option.none⟩:Addr).add 3)=some (.pointer (some ⟨r.sh.p,0,Option.none⟩))/\(∀j v,(acH y.past)[j]? =some v->w.cell? ((⟨r.p,0,Option.none⟩:Addr).add (4+j))=some v):=by
 obtain⟨hok,so⟩:=BN s
 have so:=so
 have kb:=kM so (i:=0) rfl
 refine⟨akh so (i:=1) rfl,?_,λj v hj=>?_⟩
 ·apply kb 3
  unfold FN
  grind
 ·apply kb (4+j) v
  unfold FN
  grind
def Vu (y:fY):EG:=(y.past.add (tU y)).add ⟨0,0,y.x.b,y.x.h,y.x.st,y.x.ev⟩
def aaP {Q:Int->Int->Int->Int->Int->Int->World->Prop}(s:Sep F W w (gW r y::L))(h:∀w',Sep F W w' (gW r y::L)->Q (Vu y).a (Vu y).b (Vu y).c (Vu y).d (Vu y).e (Vu y).f w'):Aj (some ⟨r.p,0,Option.none⟩) w Q:=by
 apply SS
 refine a_ s λp w1 s1=>?_
 have s1:=ay (jN s1)
 obtain⟨k1,k2,k3⟩:=PE s1
 have hok:=(BN s1).1
 have hu:=hok.past
 have hn:=amO hok
 have u0:Ta.U 0:=by unfold Ta.U;omega
 refine mz (ah ?_)
 refine aP (k3 0 _ rfl) (aP (k3 1 _ rfl) (aP (k3 2 _ rfl) (aP (k3 3 _ rfl) (aP (k3 4 _ rfl) (aP (k3 5 _ rfl) ?_)))))
 refine ah (dK k2 ?_)
 refine KX s1 λw2 s2 f2=>?_
 obtain⟨q1,q2,q3⟩:=PE s2
 refine⟨q2,q3 0 _ rfl,q3 1 _ rfl,q3 2 _ rfl,q3 3 _ rfl,q3 4 _ rfl,q3 5 _ rfl,?_⟩
 refine Ta.FF s2 ⟨⟨hu.a,hu.b,hu.c,hu.d,hu.e,hu.f⟩,hn.a,hn.b,hn.c,hn.d,hn.e,hn.f⟩ λw3 s3=>?_
 obtain⟨q1,q2,q3⟩:=PE s3
 refine⟨q2,?_⟩
 refine aid s3 q1 λw4 s4 _=>?_
 have ha:=Vs.add hu hn
 refine Ta.FF s4 ⟨⟨ha.a,ha.b,ha.c,ha.d,ha.e,ha.f⟩,u0,u0,hok.sh.b,hok.sh.h,hok.sh.st,hok.sh.ev⟩ λw5 s5=>?_
 exact agX (jN s5) λw6 s6=>h w6 (ai s6)
end
def epO (o:Option kz):Int:=match o with
 |some m=>m.g.ep
 |none=>0
def ae9 (m:bP):m_:=⟨List.replicate (d_ m.w m.h).toNat KD,0,0⟩
def ako (o:Option kz)(mp:bP):kz:=⟨Nq mp (epO o),ae9 mp,⟨none,0⟩⟩
def aoU {mp:bP}{e:Int}(hm:c8 mp)(he:0<=e):xQ (Nq mp e) (ae9 mp):=by
 have hc:=gD hm.w hm.h
 have hv:∀q∈(ae9 mp).ps,q=KD:=λq hq=>(List.mem_replicate.1 hq).2
 have u0:Ta.U 0:=by unfold Ta.U;omega
 refine⟨?_,⟨by show(0:Int)<=e+1;omega,λq hq=>?_⟩,λe'=>?_,λi q hq W0=>?_,u0⟩
 ·show((List.replicate _ _).length:Int)=d_ mp.w mp.h
  grind
 ·rw[hv q hq]
  show(0:Int)<=e+1
  omega
 ·have e':(0:Int)=e+1:=e'
  omega
 ·rw[hv q (List.mem_of_getElem? hq)]at W0
  have hi:=(List.getElem?_eq_some_iff.1 hq).1
  have hi:i<(List.replicate (d_ mp.w mp.h).toNat KD).length:=hi
  have e1:gi (Nq mp e).vs i=e+1:=by
   show(List.replicate (d_ mp.w mp.h).toNat (e+1)).getD i 0=e+1
   grind
  rw[e1]at W0
  have W0:(0:Int)=e+1:=W0
  omega
section
variable {F:Nat->Prop}{W w w0:World}{L:List As}{r:zO}{y:fY}{mp:bP}{a:Option Addr}{n c:Nat}
def akp (h:FO y):0<=epO y.o:=by
 unfold epO
 cases hy:y.o with
 |none=>grind
 |some m=>have:=(h.m m hy).g.ep;grind
noncomputable abbrev ap2 (p sp:Nat)(v0 v1 v2:Value)(q:EG):As:=av p 106 [v0,v1,v2,.pointer (sZ sp),.int .u64 q.a,.int .u64 q.b,.int .u64 q.c,.int .u64 q.d,.int .u64 q.e,.int .u64 q.f]
def gpO (r:zO)(o:Option kz):Option Addr:=match o with
 |some _=>sZ r.gr.p
 |none=>none
def aq9 (s:Sep F W w (gW r y::L)):∃v1 v2,Sep F W w (ap2 r.p r.sh.p (.pointer (gpO r y.o)) v1 v2 y.past::jH r.sh y.k y.x::(Ht r y.o++L)):=by
 obtain⟨hok,so⟩:=BN s
 have so:Sep F W w (av r.p 106 (FN r y)::jH r.sh y.k y.x::(Ht r y.o++L)):=so
 unfold FN at so
 cases hy:y.o with
 |none=>
  rw[hy]at so
  exact⟨_,_,so⟩
 |some m=>
  rw[hy]at so
  exact⟨_,_,so⟩
def amP {Q:Int->World->Prop}{A B:As}(hok:FO y)(s:Sep F W w (A::B::(Ht r y.o++L)))(h:Q (epO y.o) w):fQ (gpO r y.o) w Q:=by
 cases hy:y.o with
 |none=>
  rw[hy]at h
  exact Yo h
 |some m=>
  rw[hy]at h s
  have s:=s
  exact qI (oC (ai (ai s))) h
def acJ {Q:Int->World->Prop}(hm:c8 mp)(hr:gA mp.cs)(m6:mp.w*mp.h<=1600)(hC:∀w',Sep F W w' L->Sl w' a n c 1 bA mp.cs)(he:epO y.o<1000000000)(s:Sep F W w (gW r y::L))
  (h:∀r' x' w',r'.p=r.p->x'.p=⟨[],[],y.x.b,y.x.h,y.x.st,y.x.ev⟩->Sep F W w' (gW r' ⟨y.k,x',some (ako y.o mp),y.past.add (tU y)⟩::L)->Q 0 w'):A_ (sZ r.p) mp.w mp.h a n c w Q:=by
 apply Uc
 have hok:=(BN s).1
 have W9:=akp hok
 have hu:=hok.past
 have hn:=amO hok
 refine aT s λmb w s=>mz ?_
 refine lI s 0 rfl (lI s 0 rfl (lS s 0 rfl ?_))
 refine L6 s (hC _ (ai (ai s))) λw s _=>?_
 rw[(UG hr).2 hm,Bool.not_true,cond_false]
 apply ah
 have s:=ay (jN s)
 obtain⟨k1,k2,k3⟩:=PE s
 refine aP (k3 0 _ rfl) (aP (k3 1 _ rfl) (aP (k3 2 _ rfl) (aP (k3 3 _ rfl) (aP (k3 4 _ rfl) (aP (k3 5 _ rfl) ?_)))))
 refine KX s λw s _=>?_
 obtain⟨q1,q2,q3⟩:=PE s
 refine⟨q3 0 _ rfl,q3 1 _ rfl,q3 2 _ rfl,q3 3 _ rfl,q3 4 _ rfl,q3 5 _ rfl,?_⟩
 refine Ta.FF s ⟨⟨hu.a,hu.b,hu.c,hu.d,hu.e,hu.f⟩,hn.a,hn.b,hn.c,hn.d,hn.e,hn.f⟩ λw s=>?_
 obtain⟨v1,v2,s⟩:=aq9 s
 apply ah
 refine sT s 0 rfl λw s=>?_
 refine sT s 0 rfl λw s=>?_
 refine sT s 0 rfl λw s=>?_
 refine sT s 0 rfl λw s=>?_
 refine sT s 0 rfl λw s=>?_
 refine ax s (i:=0) rfl rfl rfl λw s=>?_
 have s:=cz s (L':=av mb 25 [ae mp.w,ae mp.h,.slice a n c]::ap2 r.p r.sh.p (.pointer (gpO r y.o)) v1 v2 (y.past.add (tU y))::jH r.sh y.k y.x::(Ht r y.o++L)) (List.perm_middle (l₁:=_::_::Ht r y.o))
 have s:=ay s
 refine lI s 0 rfl (lI s 0 rfl (lS s 0 rfl ?_))
 refine ah (lP s 1 rfl ?_)
 apply amP hok (ai s)
 refine⟨dg s 0 rfl,dg s 0 rfl,dg s 0 rfl,?_⟩
 have s:=gL (ai s) (.cons_cons _ (.cons_cons _ (List.sublist_append_right _ _)))
 refine ab2 s (hC _ (ai (ai s))) hr (by omega) (λe=>(e hm).elim) λ_ gr w s _=>?_
 refine ah (ax s (i:=1) rfl rfl rfl λw s=>?_)
 refine ah (lP s 1 rfl ?_)
 refine ack s (oC s) λmr w s _=>?_
 refine ah (ax s (i:=2) rfl rfl rfl λw s=>?_)
 have s:=ay s
 refine ah (lP s 2 rfl (ah (lP s 2 rfl ?_)))
 refine aaG s λfp w s _=>?_
 refine ah (ax s (i:=3) rfl rfl rfl λw s=>?_)
 refine ah (lP s 3 rfl ?_)
 have s:=pk 5 [4,3,2,1,0] s
 refine Nv hok.sh.one s λsr w e s=>?_
 rw[<-e]at s
 have s:=pk 5 [1,0,2,3,4] s
 refine h ⟨r.p,sr,gr,mr,fp⟩ ⟨[],[],y.x.b,y.x.h,y.x.st,y.x.ev⟩ w rfl rfl (Jr s ⟨?_,Vs.add hu hn,λm' e=>?_⟩)
 ·exact⟨hok.sh.one,hok.sh.room,Lr.KH (k:=y.k) (by have:=hok.sh.one;omega),rfl,hok.sh.b,hok.sh.h,hok.sh.st,hok.sh.ev,λq hq=>by cases hq⟩
 ·cases e
  have u0:Ta.U 0:=by unfold Ta.U;omega
  exact⟨aiE hm (by omega),aoU hm W9,⟨(λq e=>by cases e),u0⟩,m6,adO⟩
end
section
variable {m:bP}{t sc l:Int}
noncomputable def sR (m:bP)(t sc:Int):List bh:=Mb (D0 m (D m t) t sc)
noncomputable def FP (m:bP)(t sc:Int):List Int:=jg (aD m.w m.h sc) (bu m.w m.h sc) (dx m sc) (sR m t sc)
noncomputable def BO (m:bP)(t sc:Int):List Int:=nG (aD m.w m.h sc) (bu m.w m.h sc) (dx m sc) (sR m t sc)
def Rx (xs:List bh):(Mb xs).Perm xs:=List.mergeSort_perm _ _
def Vv (x:bh):x∈sR m t sc↔x∈D0 m (D m t) t sc:=(Rx _).mem_iff
def Nx (hs:dG m.w m.h sc):(sR m t sc).Nodup:=(Rx _).nodup_iff.2 (Vh hs).1
def amQ (hs:dG m.w m.h sc):(sR m t sc).length<=1025:=by
 rw[sR,(Rx _).length_eq]
 exact(Vh hs).2
def YU (hm:c8 m)(hs:dG m.w m.h sc)(ht:bE m.w m.h t):ry (aD m.w m.h sc) (bu m.w m.h sc) (dx m sc) (sR m t sc)=true:=by
 rw[ry,Bool.and_eq_true]
 exact⟨(Pm hm hs).CX,List.all_eq_true.2 λx hx=>asa hm hs ht ((Vv x).1 hx)⟩
def ap3 (hm:c8 m)(hs:dG m.w m.h sc)(ht:bE m.w m.h t)(hl:0<=l/\l<aD m.w m.h sc*bu m.w m.h sc):gi (FP m t sc) l.toNat=D m t (bU m.w m.h sc l):=by
 have hlen:=BG (m:=m) (sc:=sc)
 rw[FP,aiQ ⟨hl.1,by omega⟩]
 exact ar9 hm hs ht Vv hl
def ap4 (hm:c8 m)(hs:dG m.w m.h sc)(ht:bE m.w m.h t)(hl:0<=l/\l<aD m.w m.h sc*bu m.w m.h sc):gi (BO m t sc) l.toNat=pB m t (bU m.w m.h sc l):=by
 have hlen:=BG (m:=m) (sc:=sc)
 unfold BO nG gi
 rw[List.getD_eq_getElem?_getD,List.getElem?_map,List.getElem?_range (by omega)]
 show Ys _ _ _ _ _ ((l.toNat:Nat):Int)=_
 rw[Int.toNat_of_nonneg hl.1]
 refine dir_eq hm hs ht Vv (λl' hl'=>?_) hl
 rw[fD,if_pos ⟨hl'.1,by show l'<((jg _ _ _ _).length:Int);rw[Yy];omega⟩]
 exact ap3 hm hs ht hl'
end
structure zP where
 g:g7
 Ry:List Int
 clean:Int
 fA:Int
 kept:Option (Int×Int)
 fc:Int
def kz.p (m:kz):zP:=⟨m.g,m.ms.ps.map (·.eS),m.ms.clean,m.ms.fA,Mz m.f,m.f.fA⟩
structure pD where
 k:Int
 sh:Sg
 o:Option zP
 past:EG
def fY.p (y:fY):pD:=⟨y.k,y.x.p,y.o.map kz.p,y.past⟩
def aha (g:g7)(Ry:List Int):Nat:=((List.range Ry.length).filter λi=>gi Ry i !=gi g.vs i).length
noncomputable def FQ (q:pD)(m:zP)(t sc:Int):pD:=⟨q.k,BM q.k q.sh (t,sc) ⟨yI m.g sc,sR m.g.m t sc,FP m.g.m t sc,BO m.g.m t sc⟩,some ⟨m.g,m.g.vs,m.g.ep,acj (aha m.g m.Ry) m.fA,some (t,m.g.ep),if m.kept=some (t,m.g.ep)then m.fc else Ta.sat m.fc 1⟩,q.past⟩
def aoV {g:g7}{x:m_}:aha g (x.ps.map (·.eS))=(j6 g x x.ps.length).length:=by
 unfold aha j6
 rw[List.length_map]
 refine congrArg List.length (List.filter_congr λi hi=>?_)
 unfold Rh gi
 grind
def akq {g:g7}{x:m_}(hg:wJ g)(I:xQ g x)(hf:Ml g x):x.ps.map (·.eS)=g.vs:=by
 have h1:=I.len
 have h2:=hg.len
 refine List.ext_getElem? λi=>?_
 rw[List.getElem?_map]
 by_cases hi:i<x.ps.length
 ·have e1:=List.getElem?_eq_getElem hi
  have e2:g.vs[i]? =some g.vs[i]:=List.getElem?_eq_getElem (by omega)
  have:=hf i _ e1
  rw[e1,e2]
  show some x.ps[i].eS=_
  rw[this]
  unfold gi
  grind
 grind
section
variable {W w w0:World}{L:List As}{r:zO}{y:fY}{lg:yS}{t sc:Int}
def ahb {Q:Option Addr->Nat->Nat->Option Addr->Nat->Nat->Value->World->Prop}{fb:Nat}(hL:iK W lg)(s:Sep No W w (av fb 213 [.slice none 0 0,.slice none 0 0]::L))
  (h:∀eb w',Sep No W w' (av eb 275 [ae t,.iface 401 (.pointer (some lg.a3))]::L)->Q none 0 0 none 0 0 (.iface 273 (.pointer (sZ eb))) w'):sK Q t (aZ fb) w:=by
 have s:=ay s
 have v3:∀{w L},Sep No W w L->w.cell? (aZ 3)=some (.iface 401 (.pointer (some lg.a3))):=λs=>Fr.cell (au s) hL.v3 id
 apply mj (v3 s) rfl
 constructor
 ·refine aT s λeb w s=>?_
  refine sT s 1 rfl λw s=>?_
  refine ax s (i:=1) rfl rfl rfl λw s=>?_
  refine⟨v3 s,?_⟩
  refine lS s 1 rfl (lS s 1 rfl ?_)
  exact h eb w (gL s (.cons_cons _ (.cons _ (List.Sublist.refl _))))
 ·refine sT s 0 rfl λw s=>?_
  refine ax s (i:=0) rfl rfl rfl λw s=>?_
  refine⟨v3 s,?_⟩
  refine aT s λeb w s=>?_
  refine lS s 1 rfl (lS s 1 rfl ?_)
  exact h eb w (gL s (.cons_cons _ (.cons _ (List.Sublist.refl _))))
def aoW {Q:Option Addr->Nat->Nat->Option Addr->Nat->Nat->Value->World->Prop}{b6 f:Nat}{da ra:Option Addr}{dn dc rn rc:Nat}{A:List As}{v1 v2:Value}(s:Sep No W w (av f 213 [.slice da dn dc,.slice ra rn rc]::av b6 213 [v1,v2]::L))
  (h:∀w',Sep No W w' L->Q da dn dc ra rn rc .nilIface w'):ju Q t (aZ b6) (aZ f) 0 w:=by
 unfold ju
 refine lS s 0 rfl (lS s 0 rfl ?_)
 refine sT s 1 rfl λw s=>?_
 refine ax s (i:=1) rfl rfl rfl λw s=>?_
 refine lS s 1 rfl (lS s 1 rfl ?_)
 exact h w (ai (ai s))
end
section
variable {W w w0:World}{L:List As}{r:zO}{y:fY}{lg:yS}{t sc:Int}
def azm:zc T 84=[ae 0,ae 0,.slice none 0 0]:=rfl
noncomputable abbrev akr (r:zO)(m:kz)(past:EG)(ms:m_)(f:FI)(tb p6:Nat)(ta:Option Addr)(tn tc:Nat)(sa:Option Addr)(sn sk:Nat)(t sc:Int)(L:List As):List As:=
 aj sa sn sk 294 3 (flat fL (sR m.g.m t sc))::aj ta tn tc 5 1 (flat bA (dx m.g.m sc))::av tb 84 [ae (aD m.g.m.w m.g.m.h sc),ae (bu m.g.m.w m.g.m.h sc),.slice ta tn tc]::av p6 213 [.slice none 0 0,.slice none 0 0]::YT r past::mM r.gr m.g::qS r.mr r.gr.p ms::tT r.fp r.mr.p r.gr.p f::L
def aq_ {Q:Option Addr->Nat->Nat->Option Addr->Nat->Nat->Value->World->Prop}{m:kz}{ms:m_}{f:FI}{tb p6 fb:Nat}{ta sa da ra:Option Addr}{tn tc sn sk n dc rc:Nat}{x':Ac}{sr:Vj}{v1 v2:Value}(e:sr.p=r.sh.p)(hok:FO ⟨y.k,x',some ⟨m.g,ms,f⟩,y.past⟩)
  (s:Sep No W w (av fb 213 [v1,v2]::aj ra n rc 3 1 (flat one (BO m.g.m t sc))::aj da n dc 3 1 (flat one (FP m.g.m t sc))::jH sr y.k x'::akr r m y.past ms f tb p6 ta tn tc sa sn sk t sc L))
  (qd:∀r' w',r'.p=r.p->Sep No W w' (aj ra n rc 3 1 (flat one (BO m.g.m t sc))::aj da n dc 3 1 (flat one (FP m.g.m t sc))::gW r' ⟨y.k,x',some ⟨m.g,ms,f⟩,y.past⟩::L)->Q da n dc ra n rc .nilIface w'):
  St ((aZ fb).add 0) (.slice da n dc) w λw=>St ((aZ fb).add 1) (.slice ra n rc) w λw=>ju Q t (aZ p6) (aZ fb) 0 w:=by
 refine sT s 0 rfl λw s=>?_
 refine ax s (i:=0) rfl rfl rfl λw s=>?_
 have s:=fT (A:=[_,_,_,_,_,_,_,_,_,_,_,_]) (B:=[_,_,_,_,_,_,_,_,_]) [0,7,8,3,9,10,11,1,2] s rfl (by decide)
 refine aoW (A:=[]) s λw s=>?_
 have s:Sep No W w (YT ⟨r.p,sr,r.gr,r.mr,r.fp⟩ y.past::jH sr y.k x'::mM r.gr m.g::qS r.mr r.gr.p ms::tT r.fp r.mr.p r.gr.p f::aj ra n rc 3 1 (flat one (BO m.g.m t sc))::aj da n dc 3 1 (flat one (FP m.g.m t sc))::L):=by
  unfold YT
  simp_all
 have s:=Jr s hok
 have s:=fT (A:=[_,_,_]) (B:=[_,_,_]) [1,2,0] s rfl (by decide)
 grind
attribute [local irreducible] sK ju xN in
theorem ME {Q:Option Addr->Nat->Nat->Option Addr->Nat->Nat->Value->World->Prop}{m:kz}(ho:y.o=some m)(hL:iK W lg)(s:Sep No W w (gW r y::L))(MF:Lr.Xf (t,sc))
  (FR:¬(bE m.g.m.w m.g.m.h t/\dG m.g.m.w m.g.m.h sc)->∀eb w',Sep No W w' (av eb 275 [ae t,.iface 401 (.pointer (some lg.a3))]::gW r y::L)->Q none 0 0 none 0 0 (.iface 273 (.pointer (sZ eb))) w')
  (qd:bE m.g.m.w m.g.m.h t->dG m.g.m.w m.g.m.h sc->∀r' y' da dc ra rc w',r'.p=r.p->y'.p=FQ y.p m.p t sc->Sep No W w' (aj ra (dx m.g.m sc).length rc 3 1 (flat one (BO m.g.m t sc))::aj da (dx m.g.m sc).length dc 3 1 (flat one (FP m.g.m t sc))::gW r' y'::L)->Q da (dx m.g.m sc).length dc ra (dx m.g.m sc).length rc .nilIface w'):
  uU (sZ r.p) t sc w Q:=by
 apply Ti
 refine a_ s λp6 w s=>?_
 have s:=jN s
 have k:=sv s ho
 have c0:=k.c0 (j:=0) rfl
 refine mz (ah (dK c0 (mz (ah (dK c0 ?_)))))
 have hm:=(k.ok.m m ho)
 have hmay:=hm.g.may
 refine L5 s k.g (λhs w s _=>?_) λhs ta tn tc w s _=>?_
 ·
  refine a_ s λtb w s=>?_
  refine sT s 0 rfl λw s=>?_
  refine sT s 0 rfl λw s=>?_
  refine sT s 0 rfl λw s=>?_
  have s:=ai s
  have k:=sv s ho
  have c0:=k.c0 (j:=0) rfl
  refine ah (dK c0 (jd k.g ?_))
  have fin:=ahb hL (jN s) λeb w s=>FR (λe=>hs e.2) eb w s
  grind
 ·rw[agt hmay hs]at s
  refine a_ s λtb w s=>?_
  refine sT s 0 rfl λw s=>?_
  refine sT s 0 rfl λw s=>?_
  refine ax s (i:=0) rfl rfl rfl λw s=>?_
  have k:=sv (ai (ai s)) ho
  have c0:=k.c0 (j:=0) rfl
  refine ah (dK c0 (jd k.g ?_))
  by_cases ht:bE m.g.m.w m.g.m.h t
  ·have uP:=Kt hmay ht
   rw[cM (by omega),cond_false,Bool.not_true,cond_false]
   have s:=fT (A:=[_,_,_,_]) (B:=[_,_,_,_]) [2,0,1,3] s rfl (by decide)
   obtain⟨hok,s⟩:=MD ho s
   have s:=ay s
   refine ah (lP s 0 rfl (ah (lP s 0 rfl ?_)))
   have s:=fT (A:=[_,_,_,_,_,_,_,_]) (B:=[_,_,_,_,_,_,_,_]) [2,3,4,0,1,5,6,7] s rfl (by decide)
   refine WR s hm.I hm.J ht hm.nF λms' rr ds w I' hf' wK UZ hro s=>?_
   refine⟨dg s 3 rfl,?_⟩
   have kr:=adL (ai (ai s)) rfl
   refine Vi s (oC s) kr hro ht hs λsa sn sk w s _=>?_
   have s:=ay s
   refine ah (lP s 4 rfl (ah (lP s 4 rfl ?_)))
   refine lI s 6 rfl (lI s 6 rfl (lS s 6 rfl ?_))
   have s:=fT (A:=[_,_,_,_,_,_,_,_,_]) (B:=[_,_,_,_,_,_,_,_,_]) [5,0,7,6,8,4,1,2,3] s rfl (by decide)
   generalize hf:(⟨some (rr,⟨t,m.g.ep,ds⟩),if Mz m.f=some (t,m.g.ep)then m.f.fA else Ta.sat m.f.fA 1⟩:FI)=f' at s
   have s:=s
   have Kr:(sR m.g.m t sc).length=sn:=(aK s (i:=1) rfl m9 (by decide)).len
   have y_:=amQ (t:=t) hs
   have hu1:Ta.U f'.fA:=by
    rw[<-hf]
    split
    ·exact hm.J.u
    ·exact Ta.FE hm.J.u (by unfold Ta.U;omega)
   have J':aaF m.g f':=by
    refine⟨λq e=>?_,hu1⟩
    rw[<-hf]at e
    cases e
    exact⟨Int.le_refl _,λ_=>⟨ht,hro⟩⟩
   have av8:yI m.g sc<=m.g.ep:=by
    unfold yI
    split
    ·have hm1:gi m.g.vs sc.toNat∈m.g.vs:=by
      rw[gi,List.getD_eq_getElem?_getD,List.getElem?_eq_getElem (by omega)]
      exact List.getElem_mem _
     exact(hm.g.vs _ hm1).2
    ·have:=hm.g.ep
     omega
   have hh:(Lr.ku y.k y.x.l (t,sc)).1.2.1=true->∀q,y.x.p.es[(Lr.ku y.k y.x.l (t,sc)).1.1.toNat]? =some q->q.eS=yI m.g sc->q.iC=sR m.g.m t sc->q.ds=FP m.g.m t sc/\q.rs=BO m.g.m t sc:=λhd q hq hv he=>by
    obtain⟨_,_,h3⟩:=agW hok.sh hm.right hd hq
    have h4:=h3 hv
    rw[he]at h4
    exact h4
   have av9:∀x':Ac,x'.p=BM y.k y.x.p (t,sc) ⟨yI m.g sc,sR m.g.m t sc,FP m.g.m t sc,BO m.g.m t sc⟩->FO ⟨y.k,x',some ⟨m.g,ms',f'⟩,y.past⟩:=λx' ex=>by
    refine⟨?_,hok.past,λm' e=>?_⟩
    ·rw[ex]
     exact aoN hok.sh (by show(sR m.g.m t sc).length<2000;omega)
    ·cases e
     refine⟨hm.g,I',J',hm.nF,?_⟩
     rw[ex]
     exact amG hok.sh hm.right ⟨av8,hs,λ_=>⟨rfl,rfl⟩⟩
   have hp':∀x':Ac,x'.p=BM y.k y.x.p (t,sc) ⟨yI m.g sc,sR m.g.m t sc,FP m.g.m t sc,BO m.g.m t sc⟩->(fY.mk y.k x' (some ⟨m.g,ms',f'⟩) y.past).p=FQ y.p m.p t sc:=λx' ex=>by
    unfold fY.p FQ
    simp only[Option.map_some]
    rw[ex]
    unfold kz.p
    rw[akq hm.g I' hf',wK,UZ,aoV,<-hf]
    rfl
   have cC:∀w',Sep No W w' (akr r m y.past ms' f' tb p6 ta tn tc sa sn sk t sc L)->Sl w' ta tn tc 1 bA (dx m.g.m sc):=λw' s=>aK s (i:=1) rfl cZ (by decide)
   have cX:∀w',Sep No W w' (akr r m y.past ms' f' tb p6 ta tn tc sa sn sk t sc L)->Sl w' sa sn sk 3 fL (sR m.g.m t sc):=λw' s=>aK s (i:=0) rfl m9 (by decide)
   have done:∀{fb:Nat} {v1 v2:Value} {w:World} {sr:Vj} {x':Ac} {da ra:Option Addr} {dc rc:Nat},sr.p=r.sh.p->x'.p=BM y.k y.x.p (t,sc) ⟨yI m.g sc,sR m.g.m t sc,FP m.g.m t sc,BO m.g.m t sc⟩->
     Sep No W w (av fb 213 [v1,v2]::aj ra (dx m.g.m sc).length rc 3 1 (flat one (BO m.g.m t sc))::aj da (dx m.g.m sc).length dc 3 1 (flat one (FP m.g.m t sc))::jH sr y.k x'::akr r m y.past ms' f' tb p6 ta tn tc sa sn sk t sc L)->
     St ((aZ fb).add 0) (.slice da (dx m.g.m sc).length dc) w λw=>St ((aZ fb).add 1) (.slice ra (dx m.g.m sc).length rc) w λw=>ju Q t (aZ p6) (aZ fb) 0 w:=λ{fb v1 v2 w sr x' da ra dc rc} e ex s=>by
    refine aq_ e (av9 x' ex) s λr' w' er s=>?_
    exact qd ht hs r' _ da dc ra rc w' er (hp' x' ex) s
   have d6:∀{w:World} {A B C D E G:As} {X:List As},Sep No W w (A::B::C::D::E::G::X)->Sep No W w X:=λs=>ai (ai (ai (ai (ai (ai s)))))
   refine⟨ru (oC (d6 s)) ?_,?_⟩
   ·refine⟨dg s 3 rfl,dg s 3 rfl,dg s 3 rfl,dg s 5 rfl,?_,?_⟩
    ·refine Vl hok.sh (Pm hmay hs) (YU hmay hs ht) (Nx hs) (by omega) cC cX MF hh s λsr x' da dc ra rc w e ex s=>?_
     refine a_ s λfb w s=>?_
     refine⟨dg s 6 rfl,dg s 6 rfl,dg s 6 rfl,dg s 8 rfl,dg s 8 rfl,?_⟩
     exact done e ex s
    ·refine a_ s λfb w s=>?_
     refine⟨dg s 4 rfl,dg s 4 rfl,dg s 4 rfl,dg s 6 rfl,dg s 6 rfl,?_⟩
     refine Vl hok.sh (Pm hmay hs) (YU hmay hs ht) (Nx hs) (by omega) (λw' s=>cC w' (ai s)) (λw' s=>cX w' (ai s)) MF hh (jN s) λsr x' da dc ra rc w e ex s=>?_
     exact done e ex (pk 4 [3,0,1,2] s)
   ·refine a_ s λfb w s=>?_
    refine⟨dg s 4 rfl,dg s 4 rfl,dg s 4 rfl,dg s 6 rfl,dg s 6 rfl,?_⟩
    apply ru (oC (d6 (ai s)))
    refine⟨dg s 4 rfl,dg s 4 rfl,dg s 4 rfl,dg s 6 rfl,?_⟩
    refine Vl hok.sh (Pm hmay hs) (YU hmay hs ht) (Nx hs) (by omega) (λw' s=>cC w' (ai s)) (λw' s=>cX w' (ai s)) MF hh (jN s) λsr x' da dc ra rc w e ex s=>?_
    exact done e ex (pk 4 [3,0,1,2] s)
  ·rw[show cE m.g.m t=0 from by unfold cE;rw[if_neg λe=>ht ⟨hm.g.iX,e.1,by rw[<-hmay.len];exact e.2⟩]]
   exact ahb hL (fT (A:=[_,_,_,_]) (B:=[_,_]) [3,2] s rfl (by decide)) λeb w s=>FR (λe=>ht e.1) eb w s
end
end Go.Proofs.YtmegplnmiepfbaaGreatDoor.S
set_option maxRecDepth 20000
namespace Go.Proofs.YtmegplnmiepfbaaGreatDoor.S
open Go.Sx
attribute [local irreducible] af cw bq bg aC cf bX St Bx Al App cA cq cm bT aI bw aq bR av aj aV mapA
section
variable {W w w0:World}{L:List As}{r:zO}{y:fY}{lg:yS}{t sc ce w1 h1:Int}
def Si {Q:Int->World->Prop}(h:Q 0 w):x_ .nilIface w Q:=OV _ _ _ h
def acK {Q:Int->World->Prop}{eb:Nat}(hL:iK W lg)(s:Sep No W w (av eb 275 [ae t,.iface 401 (.pointer (some lg.a3))]::L))(h:Q 7 w):x_ (.iface 273 (.pointer (sZ eb))) w Q:=by
 apply OV
 have k:=hL.fr (au s)
 have hc:=kM s (i:=0) rfl 1 _ rfl
 refine sQ (mj k.v2 rfl ?_)
 obtain⟨c2,t2,h2⟩:=k.b2
 obtain⟨c3,t3,h3⟩:=k.b3
 apply Rv (.inr rfl) (.inl rfl) hc (λx y K hk=>aaK (λe=>k.n23 e.symm) h3 h2 hk)
 apply mj k.v3 rfl
 apply Rv (.inr rfl) (.inl rfl) hc (λx y K hk=>Vn hk)
 exact h
def MG {Q:Option Addr->Nat->Nat->Option Addr->Nat->Nat->Int->World->Prop}{m:kz}(ho:y.o=some m)(hL:iK W lg)(s:Sep No W w (gW r y::L))(ht:bE m.g.m.w m.g.m.h t)(hs:dG m.g.m.w m.g.m.h sc)(MF:Lr.Xf (t,sc))
  (qd:∀r' y' da dc ra rc w',r'.p=r.p->y'.p=FQ y.p m.p t sc->Sep No W w' (aj ra (dx m.g.m sc).length rc 3 1 (flat one (BO m.g.m t sc))::aj da (dx m.g.m sc).length dc 3 1 (flat one (FP m.g.m t sc))::gW r' y'::L)->Q da (dx m.g.m sc).length dc ra (dx m.g.m sc).length rc 0 w'):
  uT (sZ r.p) t sc w Q:=by
 apply Tk
 refine a_ s λp6 w s=>?_
 refine ME ho hL (jN s) MF (λe=>(e ⟨ht,hs⟩).elim) λ_ _ r' y' da dc ra rc w er ey s=>?_
 refine a_ s λfb w s=>?_
 refine sT s 0 rfl λw s=>?_
 refine ax s (i:=0) rfl rfl rfl λw s=>?_
 have s:=ay s
 refine lS s 0 rfl (lS s 0 rfl ?_)
 apply Si
 refine⟨dg s 0 rfl,dg s 0 rfl,?_⟩
 refine sT s 4 rfl λw s=>?_
 refine ax s (i:=4) rfl rfl rfl λw s=>?_
 refine lS s 4 rfl (lS s 4 rfl ?_)
 exact qd r' y' da dc ra rc w er ey (pk 5 [1,2,3] s)
def amS (hm:iX w1 h1):ir (aB w1 h1 ce):=by
 have hc:=gD hm.1 hm.2
 unfold ir
 by_cases h:bE w1 h1 ce
 ·have:=(bS h).2
  omega
 ·unfold aB
  grind
def aaQ {ys:List Int}{k:Nat}{x:Int}(h:ys[k]? =some x):x=gi ys k:=by
 unfold gi
 grind
def acL {Q:Int->Int->Value->World->Prop}{m:kz}(ho:y.o=some m)(hL:iK W lg)(s:Sep No W w (gW r y::L))(MF:(Lit.int .i64 t).wf=true)
  (FR:¬(bE m.g.m.w m.g.m.h t/\bE m.g.m.w m.g.m.h ce)->∀eb w',Sep No W w' (av eb 275 [ae t,.iface 401 (.pointer (some lg.a3))]::gW r y::L)->Q 0 0 (.iface 273 (.pointer (sZ eb))) w')
  (qd:bE m.g.m.w m.g.m.h t->bE m.g.m.w m.g.m.h ce->∀r' y' w',r'.p=r.p->y'.p=FQ y.p m.p t (cP m.g.m ce)->Sep No W w' (gW r' y'::L)->Q (D m.g.m t ce) (pB m.g.m t ce) .nilIface w'):
  Bc (sZ r.p) t ce w Q:=by
 apply UB
 have k:=sv s ho
 have hm:=k.ok.m m ho
 have hmay:=hm.g.may
 refine PD s k λw s _=>?_
 refine eN s λw s _=>?_
 refine ME ho hL s ⟨MF,ir.wf (amS hm.g.iX)⟩ (λe eb w s=>?_) λht hs r' y' da dc ra rc w er ey s=>?_
 ·refine a_ s λfb w s=>?_
  refine sT s 0 rfl λw s=>?_
  refine sT s 0 rfl λw s=>?_
  exact FR (λh=>e ⟨h.1,bS h.2⟩) eb w (ai s)
 ·have hc:bE m.g.m.w m.g.m.h ce:=by
   by_cases h:bE m.g.m.w m.g.m.h ce
   ·exact h
   ·unfold aB at hs
    rw[if_neg h]at hs
    have:=hs.2.1
    omega
  have hlr:=jM hc
  have Xa:=nI hc
  have hlen:=BG (m:=m.g.m) (sc:=aB m.g.m.w m.g.m.h ce)
  refine a_ s λfb w s=>?_
  refine sT s 0 rfl λw s=>?_
  refine ax s (i:=0) rfl rfl rfl λw s=>?_
  refine sM s λw s _=>?_
  have s:=ay s
  apply lS s 0 rfl
  have kD:=aK s (i:=2) rfl ct (by decide)
  have kR:=aK s (i:=1) rfl ct (by decide)
  have hk:dA m.g.m.w m.g.m.h ce=((dA m.g.m.w m.g.m.h ce).toNat:Int):=by omega
  apply kD.pJ hk (by omega)
  apply lS s 0 rfl
  refine kR.El hk (by omega) λp x hx hcell=>?_
  have h0:=hcell 0 _ rfl
  refine aP h0 ⟨h0,dg s 0 rfl,?_⟩
  have eD:=ap3 hmay hs ht hlr
  have eR:=ap4 hmay hs ht hlr
  rw[Xa]at eD eR
  rw[aaQ hx,eD,eR]
  exact qd ht hc r' y' _ er ey (ai (ai (ai s)))
def acM {Q:Int->Int->Int->World->Prop}{m:kz}(ho:y.o=some m)(hL:iK W lg)(s:Sep No W w (gW r y::L))(MF:(Lit.int .i64 t).wf=true)
  (FR:¬(bE m.g.m.w m.g.m.h t/\bE m.g.m.w m.g.m.h ce)->∀w',Sep No W w' (gW r y::L)->Q 0 0 7 w')
  (qd:bE m.g.m.w m.g.m.h t->bE m.g.m.w m.g.m.h ce->∀r' y' w',r'.p=r.p->y'.p=FQ y.p m.p t (cP m.g.m ce)->Sep No W w' (gW r' y'::L)->Q (D m.g.m t ce) (pB m.g.m t ce) 0 w'):
  Bb (sZ r.p) t ce w Q:=by
 apply UC
 refine acL ho hL s MF (λe eb w s=>?_) λht hc r' y' w er ey s=>?_
 ·exact acK hL s (FR e w (ai s))
 ·exact Si (qd ht hc r' y' w er ey s)
end
def KY (y:sP)(cell goal:Int):sP:=⟨y.most,y.next+1,y.us++[⟨y.next,cell,goal⟩]⟩
section
variable {F:Nat->Prop}{W w w0:World}{L:List As}{r:U9}{y:sP}{cell goal:Int}
def amT {us:List aL}{u:aL}{i:Int}(h:∀v∈us,v.id<u.id):gC (us++[u]) i=if i=u.id then some u else gC us i:=by
 unfold gC
 grind
def amU {us:List aL}{i:Int}(h:∀v∈us,v.id≠i):gC us i=none:=by
 unfold gC
 grind
def as_ {r:U9}{mb':Nat}{a:Option Addr}{n c:Nat}{ms':List (Int×aL)}(h:Rm r y)(hroom:(y.us.length:Int)<y.most)(hn:y.next<1000000000)(hk:nN ms')(ha:∀i,e7 ms' i=if i=y.next then some ⟨y.next,cell,goal⟩else e7 r.ms i)(hl:ms'.length=if(e7 r.ms y.next).isNone then r.ms.length+1 else r.ms.length):
  Rm ⟨r.p,mb',a,n,c,ms',r.os++[y.next]⟩ (KY y cell goal):=by
 have hlt:∀v∈y.us,v.id<y.next:=λv hv=>(h.jR v hv).2
 have hg:∀i,gC (KY y cell goal).us i=if i=y.next then some ⟨y.next,cell,goal⟩else gC y.us i:=λi=>amT hlt
 have hno:gC y.us y.next=none:=amU λv hv=>by grind
 refine⟨h.most,hk,λi=>?_,?_,?_,?_,?_,?_,?_,?_,?_⟩
 ·rw[hg,ha,h.e7]
 ·show ms'.length=(y.us++[_]).length
  rw[hl,h.e7,hno,List.length_append,h.len]
  rfl
 ·show(r.os++[y.next]).filter _=(y.us++[_]).map _
  rw[List.filter_append,List.map_append,<-h.ord]
  congr 1
  ·refine List.filter_congr λi hi=>?_
   have:=(h.onx i hi).2
   grind
  grind
 ·show(r.os++[_]).length<=2*(y.us++[_]).length
  have:=h.agJ
  grind
 ·show((y.us++[_]).map _).Pairwise _
  rw[List.map_append,List.pairwise_append]
  refine⟨h.Mh,by simp,λa ha b hb=>?_⟩
  grind
 ·intro u hu
  show 0<=u.id/\u.id<y.next+1
  rcases List.mem_append.1 hu with hu|hu
  ·have:=h.jR u hu
   omega
  ·rw[List.mem_singleton]at hu
   subst hu
   have:=h.Pu
   grind
 ·show((y.us++[_]).length:Int)<=y.most
  grind
 ·intro i hi
  show 0<=i/\i<y.next+1
  rcases List.mem_append.1 hi with hi|hi
  ·have:=h.onx i hi
   omega
  ·rw[List.mem_singleton]at hi
   have:=h.Pu
   omega
 ·have:=h.Pu
  show 0<=y.next+1/\y.next+1<=1000000000
  omega
def aaR {Q:Int->Bool->World->Prop}(s:Sep F W w (vu r y::L))(hn:y.next<1000000000)(hroom:(y.us.length:Int)<y.most)
  (h:∀r' w',r'.p=r.p->Sep F W w' (vu r' (KY y cell goal)::L)->Q y.next true w'):x8 (sZ r.p) cell goal w Q:=by
 apply Ox
 obtain⟨hok,s⟩:=uk (ay s)
 refine mz (ah (lM s 0 rfl (ah (lI s 0 rfl ?_))))
 apply aoC Jo s (i:=1) rfl
 refine⟨dg s 0 rfl,?_⟩
 rw[hok.len,bD]
 have PF:=hok.Pu
 refine ah (lI s 0 rfl (ah (lI s 0 rfl ?_)))
 rw[GC (ir.wf (by unfold ir;omega))]
 refine ah (sT s 0 rfl λw s=>?_)
 refine ah (lM s 0 rfl ?_)
 refine KM (ms:=r.ms) (a:=⟨y.next,cell,goal⟩) Jo s (i:=1) rfl hok.ED (by show ir y.next;unfold ir;omega) λms' w hk ha hl s=>?_
 refine ah (lS s 0 rfl ?_)
 have s:=pk 3 [2,0,1] s
 have hol:=hok.agJ
 have V3:=hok.most
 have HW:=(aK s (i:=0) rfl ct (by decide)).len
 refine Ki s (by omega) λa' c' w s=>?_
 refine ah (ax s (i:=1) rfl rfl rfl λw s=>?_)
 refine h ⟨r.p,r.mb,a',r.on+1,c',ms',r.os++[y.next]⟩ w rfl (D4 ?_ (as_ hok hroom hn hk ha hl))
 exact pk 3 [1,2,0] s
end
def vg (y:sP)(id:Int)(f:aL->aL):sP:=⟨y.most,y.next,y.us.map λv=>if v.id=id then f v else v⟩
section
variable {F:Nat->Prop}{W w w0:World}{L:List As}{r:U9}{y:sP}{cell goal id:Int}{f:aL->aL}
def adR (hf:∀u,(f u).id=u.id){i:Int}:∀{us:List aL},gC (us.map λv=>if v.id=id then f v else v) i=if i=id then(gC us id).map f else gC us i
 |[]=>by simp[gC]
 |u::us=>by
  have ih:=adR (i:=i) hf (us:=us)
  unfold gC at ih⊢
  grind
def aoX (hf:∀u,(f u).id=u.id){us:List aL}:(us.map λv=>if v.id=id then f v else v).map (·.id)=us.map (·.id):=by
 rw[List.map_map]
 refine List.map_congr_left λv _=>?_
 grind
def ara {u:aL}{ms':List (Int×aL)}(h:Rm r y)(hf:∀u,(f u).id=u.id)(hu:gC y.us id=some u)(hk:nN ms')(ha:∀i,e7 ms' i=if i=id then some (f u)else e7 r.ms i)(hl:ms'.length=if(e7 r.ms id).isNone then r.ms.length+1 else r.ms.length):
  Rm ⟨r.p,r.mb,r.oa,r.on,r.oc,ms',r.os⟩ (vg y id f):=by
 have hg:∀i,gC (vg y id f).us i=if i=id then(gC y.us id).map f else gC y.us i:=λi=>adR hf
 have IP:(vg y id f).us.map (·.id)=y.us.map (·.id):=aoX hf
 have hlen:(vg y id f).us.length=y.us.length:=by
  have:=congrArg List.length IP
  grind
 refine⟨h.most,hk,λi=>?_,?_,?_,?_,?_,?_,?_,h.onx,h.Pu⟩
 ·rw[hg,ha,h.e7,hu]
  rfl
 ·rw[hlen,hl,h.e7,hu,<-h.len]
  rfl
 ·rw[IP,<-h.ord]
  grind
 ·rw[hlen]
  exact h.agJ
 ·rw[IP]
  exact h.Mh
 ·intro v hv
  have hm:v.id∈(vg y id f).us.map (·.id):=List.mem_map.2 ⟨v,hv,rfl⟩
  rw[IP]at hm
  obtain⟨v',W0,e⟩:=List.mem_map.1 hm
  rw[<-e]
  exact h.jR v' W0
 ·rw[hlen]
  exact h.nF
def MH {Q:Bool->World->Prop}{Vw:Value}(ze:ir id)(hf:∀u,(f u).id=u.id)
  (aud:∀(x:Nat) (w:World) (u:aL) (K:World->Prop),Sep F W w (av x 43 (g8 u)::vu r y::L)->(∀w',Sep F W w' (av x 43 (g8 (f u))::vu r y::L)->K w')->gX (cx 25) Vw [.pointer (sZ x)] w λv w'=>dT v λl=>j7 l (K w'))
  (s:Sep F W w (vu r y::L))(hno:gC y.us id=none->∀w',Sep F W w' (vu r y::L)->Q false w')
  (hyes:(gC y.us id).isSome=true->∀r' w',r'.p=r.p->Sep F W w' (vu r' (vg y id f)::L)->Q true w'):rI (sZ r.p) id Vw w Q:=by
 apply OE
 refine rU s ze (λhn w s=>?_) λu hu w s=>?_
 ·refine a_ s λx w s=>?_
  refine sT s 0 rfl λw s=>?_
  refine sT s 0 rfl λw s=>?_
  refine sT s 0 rfl λw s=>?_
  exact hno hn w (ai s)
 ·refine a_ s λx w s=>?_
  refine sT s 0 rfl λw s=>?_
  refine sT s 0 rfl λw s=>?_
  refine ax s (i:=0) rfl rfl rfl λw s=>?_
  refine aud x w u _ s λw s=>?_
  have s:=ay s
  obtain⟨hok,s⟩:=uk (jN s)
  refine ah (lM s 0 rfl ?_)
  refine lI s 3 rfl (lI s 3 rfl (lI s 3 rfl ?_))
  refine KM Jo s (i:=1) rfl hok.ED ze λms' w hk ha hl s=>?_
  refine hyes (by rw[hu];rfl) ⟨r.p,r.mb,r.oa,r.on,r.oc,ms',r.os⟩ w rfl (D4 ?_ (ara hok hf hu hk ha hl))
  exact pk 4 [0,1,2] s
def axU:oK 156 fns=true:=by kernel_rfl
def axV:oK 128 fns=true:=by kernel_rfl
def aks {m x b:Nat}{Q:World->Prop}(h:Bd (sZ x) (sZ b) w Q):gX (cx m) (.func (.func 156) #[] #[.pointer (sZ b)]) [.pointer (sZ x)] w λv w'=>dT v λl=>j7 l (Q w'):=by
 unfold gX
 simp only
 exact h
def amV {m x b:Nat}{Q:World->Prop}(h:CA (sZ x) (sZ b) w Q):gX (cx m) (.func (.func 128) #[] #[.pointer (sZ b)]) [.pointer (sZ x)] w λv w'=>dT v λl=>j7 l (Q w'):=by
 unfold gX
 simp only
 exact h
def YV {Q:Bool->World->Prop}(ze:ir id)(s:Sep F W w (vu r y::L))(hno:gC y.us id=none->∀w',Sep F W w' (vu r y::L)->Q false w')
  (hyes:(gC y.us id).isSome=true->∀r' w',r'.p=r.p->Sep F W w' (vu r' (vg y id λu=>⟨u.id,cell,u.goal⟩)::L)->Q true w'):w_ (sZ r.p) id cell w Q:=by
 apply Nk
 refine aT s λcb w s=>?_
 refine MH (f:=λu=>⟨u.id,cell,u.goal⟩) ze (λu=>rfl) (λx w u K s hK=>?_) (jN s) (λhn w s=>hno hn w (gL s (.cons_cons _ (List.sublist_cons_self _ _)))) (λhs r' w e s=>hyes hs r' w e (gL s (.cons_cons _ (List.sublist_cons_self _ _))))
 apply aks
 apply Kb
 refine ah (lI s 2 rfl (ah (sT s 0 rfl λw s=>?_)))
 exact hK w s
def aaS {Q:Bool->World->Prop}(ze:ir id)(s:Sep F W w (vu r y::L))(hno:gC y.us id=none->∀w',Sep F W w' (vu r y::L)->Q false w')
  (hyes:(gC y.us id).isSome=true->∀r' w',r'.p=r.p->Sep F W w' (vu r' (vg y id λu=>⟨u.id,u.cell,goal⟩)::L)->Q true w'):x7 (sZ r.p) id goal w Q:=by
 apply OF
 refine aT s λcb w s=>?_
 refine MH (f:=λu=>⟨u.id,u.cell,goal⟩) ze (λu=>rfl) (λx w u K s hK=>?_) (jN s) (λhn w s=>hno hn w (gL s (.cons_cons _ (List.sublist_cons_self _ _)))) (λhs r' w e s=>hyes hs r' w e (gL s (.cons_cons _ (List.sublist_cons_self _ _))))
 apply amV
 apply Lo
 refine ah (lI s 2 rfl (ah (sT s 0 rfl λw s=>?_)))
 exact hK w s
end
section
variable {F:Nat->Prop}{W w w0:World}{L:List As}{r:U9}{y:sP}{cell goal id:Int}{a:Option Addr}{n c:Nat}{us:List aL}
def aoY {x:aL}{K:Option Addr->Nat->Nat->World->Prop}(s:Sep F W w (aj a n c 43 3 (flat g8 us)::L))(hn:n<=1000000000)
  (k:∀a' c' w',Sep F W w' (aj a' (n+1) c' 43 3 (flat g8 (us++[x]))::L)->K a' (n+1) c' w'):Bx [ae x.id,ae x.cell,ae x.goal] 43 w λp w1=>App P #[39,39] 39 (.slice a n c) (.slice (some p) 1 1) w1 K:=by
 refine aT s λb w s=>?_
 have src:Src w (sZ b) 1 3 (g8 x):=⟨rfl,amo x,λj u hj=>by rw[bZ,Nat.zero_add];exact cg s (i:=0) rfl rfl hj⟩
 refine iL dW s (i:=1) (bytes:=24) rfl rfl rfl rfl rfl rfl (by decide) rfl src (by simp[maxLen];omega) (by omega) (λe=>by cases e) λa1 c1 w1 s1=>?_
 have e:flat g8 us++g8 x=flat g8 (us++[x]):=by rw[gK];simp[flat]
 rw[e]at s1
 exact k _ _ _ (ai s1)
def V4 (h:(us.map (·.id)).Pairwise (·<·)){i:Nat}{u:aL}(hu:us[i]? =some u):gC us u.id=some u:=by
 unfold gC
 induction us generalizing i with
 |nil=>simp at hu
 |cons v us ih=>
  rw[List.map_cons,List.pairwise_cons]at h
  cases i with
  |zero=>
   grind
  |succ i=>
   have:=h.1 u.id (List.mem_map.2 ⟨u,List.mem_of_getElem? hu,rfl⟩)
   grind
def aaT {Q:Option Addr->Nat->Nat->World->Prop}(s:Sep F W w (vu r y::L))(h:∀a n c w',Sep F W w' (aj a n c 43 3 (flat g8 y.us)::vu r y::L)->Q a n c w'):xY (sZ r.p) w Q:=by
 apply OW
 obtain⟨hok,s⟩:=uk s
 have m6:=hok.nF
 have V3:=hok.most
 have hol:=hok.agJ
 have PF:=hok.Pu
 apply mz
 refine Xh hok.ED (λi hi=>by have:=hok.onx i hi;unfold ir;omega) (by omega) s λia N ic w s=>?_
 have awb:(r.os.filter λi=>(e7 r.ms i).isSome)=y.us.map (·.id):=by
  rw[<-hok.ord]
  refine List.filter_congr λi _=>?_
  rw[hok.e7]
 rw[awb]at s
 have hN:y.us.length=N:=by
  have:=(aK s (i:=0) rfl ct (by decide)).len
  grind
 have loop:∀(j i:Nat) (a:Option Addr) (n c:Nat) (w:World),i+j=N->Sep F W w (aj a n c 43 3 (flat g8 (y.us.take i))::aj ia N ic 3 1 (flat one (y.us.map (·.id)))::av r.p 171 (U_ r y)::fy eX DA r.mb r.ms::aj r.oa r.on r.oc 3 1 (flat one r.os)::L)->
   u_ Q (j+1) (sZ r.p) a n c ia N ic (N:Int) i w:=by
  intro j
  induction j with
  |zero=>
   intro i a n c w hij s
   show qq _ _ _ _ _ _ _ _ _ _ _ _
   rw[qq,bD]
   rw[List.take_of_length_le (by omega)]at s
   apply h a n c w
   have s:=pk 5 [2,3,4,0] s
   exact cz (D4 s hok) (List.Perm.swap _ _ _)
  |succ j ih=>
   intro i a n c w hij s
   show qq _ _ _ _ _ _ _ _ _ _ _ _
   rw[qq,bY]
   have hi:i<y.us.length:=by omega
   have hn:=(aK s (i:=0) rfl BL (by decide)).len
   rw[List.length_take]at hn
   obtain⟨u,hu⟩:∃u,y.us[i]? =some u:=⟨_,List.getElem?_eq_getElem hi⟩
   have hgi:gi (y.us.map (·.id)) i=u.id:=by
    unfold gi
    grind
   have xA:y.us.take (i+1)=y.us.take i++[u]:=by rw[List.take_add_one,hu];rfl
   have hr:=hok.jR u (List.mem_of_getElem? hu)
   have hgu:=V4 hok.Mh hu
   have wr:IntKind.wrap .i64 ((i:Int)+1)=((i+1:Nat):Int):=by
    rw[GC (ir.wf (by unfold ir;omega))]
    omega
   apply(aK s (i:=1) rfl ct (by decide)).pJ rfl (by omega)
   rw[hgi]
   refine ah (lM s 2 rfl ?_)
   refine Dz (K:=eX) Jo (YM w) s (i:=3) rfl hok.ED (by show ir u.id;unfold ir;omega) (λh=>?_) λv hv=>?_
   ·rw[hok.e7,hgu]at h
    cases h
   ·rw[hok.e7,hgu]at hv
    cases hv
    refine aoY s (by omega) λa' c' w s=>?_
    grind
 exact⟨N+1,loop N 0 none 0 0 w (by omega) (bG s 43 3)⟩
end
def kK (y:sP)(id:Int):sP:=⟨y.most,y.next,y.us.filter λv=>!decide (v.id=id)⟩
section
variable {F:Nat->Prop}{W w w0:World}{L:List As}{r:U9}{y:sP}{id:Int}
def amW {us:List aL}{i:Int}:gC (us.filter λv=>!decide (v.id=id)) i=if i=id then none else gC us i:=by
 unfold gC
 grind
def aoZ {us:List aL}:(us.filter λv=>!decide (v.id=id)).map (·.id)=(us.map (·.id)).filter λi=>!decide (i=id):=by
 rw[List.filter_map]
 rfl
def YW {us:List aL}(h:(us.map (·.id)).Pairwise (·<·))(hu:(gC us id).isSome=true):(us.filter λv=>!decide (v.id=id)).length=us.length-1:=by
 unfold gC at hu
 induction us with
 |nil=>simp at hu
 |cons u us ih=>
  rw[List.map_cons,List.pairwise_cons]at h
  by_cases e:u.id=id
  ·rw[List.filter_cons_of_neg (by simp[e]),List.length_cons,Nat.add_sub_cancel]
   refine congrArg List.length (List.filter_eq_self.2 λv hv=>?_)
   have:=h.1 v.id (List.mem_map.2 ⟨v,hv,rfl⟩)
   grind
  grind
def ai8 {ms':List (Int×aL)}{oa:Option Addr}{on oc:Nat}{os':List Int}(h:Rm r y)(hu:(gC y.us id).isSome=true)(hk:nN ms')(ha:∀i,e7 ms' i=if i=id then none else e7 r.ms i)(hl:ms'.length=if(e7 r.ms id).isNone then r.ms.length else r.ms.length-1)
  (hos:(os'=r.os/\os'.length<=2*(kK y id).us.length)\/os'=r.os.filter λi=>(e7 ms' i).isSome):Rm ⟨r.p,r.mb,oa,on,oc,ms',os'⟩ (kK y id):=by
 have hg:∀i,gC (kK y id).us i=if i=id then none else gC y.us i:=λi=>amW
 have IP:(kK y id).us.map (·.id)=(y.us.map (·.id)).filter λi=>!decide (i=id):=aoZ
 have hlen:(kK y id).us.length=y.us.length-1:=YW h.Mh hu
 have hsub:∀v∈(kK y id).us,v∈y.us:=λv hv=>(List.mem_filter.1 hv).1
 have U4:∀i,e7 ms' i=gC (kK y id).us i:=λi=>by rw[hg,ha,h.e7]
 have awc:((kK y id).us.map (·.id)).Pairwise (·<·):=by
  rw[IP]
  exact h.Mh.filter _
 have azq:r.os.filter (λi=>(gC (kK y id).us i).isSome)=(kK y id).us.map (·.id):=by
  rw[IP,<-h.ord,List.filter_filter]
  grind
 have MI:os'=r.os/\os'.length<=2*(kK y id).us.length\/os'=(kK y id).us.map (·.id):=by grind
 refine⟨h.most,hk,U4,?_,?_,?_,awc,λv hv=>h.jR v (hsub v hv),?_,λi hi=>?_,h.Pu⟩
 ·rw[hlen,hl,h.e7,<-h.len]
  cases hu':gC y.us id with
  |none=>grind
  |some _=>rfl
 ·rcases MI with⟨e,_⟩|e
  ·grind
  ·rw[e]
   refine List.filter_eq_self.2 λi hi=>?_
   grind
 ·grind
 ·have:=h.nF
  show((kK y id).us.length:Int)<=y.most
  omega
 ·rcases MI with⟨e,_⟩|e
  ·rw[e]at hi
   exact h.onx i hi
  ·rw[e]at hi
   obtain⟨v,hv,rfl⟩:=List.mem_map.1 hi
   exact h.jR v (hsub v hv)
def YX {Q:Bool->World->Prop}(ze:ir id)(s:Sep F W w (vu r y::L))(hu:(gC y.us id).isSome=true)
  (hyes:∀r' w',r'.p=r.p->Sep F W w' (vu r' (kK y id)::L)->Q true w'):w9 (sZ r.p) id w Q:=by
 apply M7
 refine rU s ze (λhn w s=>by grind) λu hu' w s=>?_
 refine a_ s λx w s=>?_
 refine sT s 0 rfl λw s=>?_
 refine sT s 0 rfl λw s=>?_
 refine sT s 0 rfl λw s=>?_
 rw[Bool.not_true,cond_false]
 obtain⟨hok,s⟩:=uk (ai s)
 have m6:=hok.nF
 have V3:=hok.most
 have hol:=hok.agJ
 have PF:=hok.Pu
 have HW:=(aK s (i:=2) rfl ct (by decide)).len
 refine ah (lM s 0 rfl ?_)
 refine asM (K:=eX) Jo s (i:=1) rfl hok.ED ze λms' w hk ha hl s=>?_
 have s:=ay s
 have hml:ms'.length=(kK y id).us.length:=by
  rw[hl,hok.e7,hu',hok.len]
  exact(YW hok.Mh hu).symm
 have hdl:(kK y id).us.length=y.us.length-1:=YW hok.Mh hu
 refine ah (lS s 0 rfl (ah (lM s 0 rfl ?_)))
 apply aoC Jo s (i:=1) rfl
 refine⟨dg s 0 rfl,?_⟩
 rw[GC (ir.wf (by unfold ir;omega))]
 by_cases afv:(r.on:Int)>2*((ms'.length:Nat):Int)
 ·rw[bY afv]
  refine Xh hk (λi hi=>by have:=hok.onx i hi;unfold ir;omega) (by omega) s λa n c w s=>?_
  refine ah (ax s (i:=1) rfl rfl rfl λw s=>?_)
  refine hyes ⟨r.p,r.mb,a,n,c,ms',_⟩ w rfl (D4 ?_ (ai8 hok hu hk ha hl (.inr rfl)))
  exact pk 4 [1,2,0] s
 ·rw[bD afv]
  exact hyes ⟨r.p,r.mb,r.oa,r.on,r.oc,ms',r.os⟩ _ rfl (D4 s (ai8 hok hu hk ha hl (.inl ⟨rfl,by omega⟩)))
end
def DD (out:List Int)(u:aL):List Int:=if u.goal∈out then out else out++[u.goal]
def sS (us:List aL):List Int:=us.foldl DD []
def amX {us:List aL}:(sS us).length<=us.length:=by
 have:∀(us:List aL) (out:List Int),(us.foldl DD out).length<=out.length+us.length:=by
  intro us
  induction us with
  |nil=>grind
  |cons u us ih=>
   intro out
   have h2:(DD out u).length<=out.length+1:=by
    unfold DD
    grind
   grind
 have:=this us []
 simpa[sS]using this
def Cr (b:Bool):Value:=.bool b
def Ny:P.underlying 258=some (.map 3 4):=by kernel_rfl
def YY (w:World):(zeroValue 4).run P w=.ok (Cr false) w:=by kernel_rfl
section
variable {F:Nat->Prop}{W w w0:World}{L:List As}{la:Option Addr}{ln lc:Nat}{us:List aL}
def YZ {Q:Option Addr->Nat->Nat->World->Prop}(s0:Sep F W w0 L)(hU:Sl w0 la ln lc 3 g8 us)(pP:ln<=1000000)(ze:∀u∈us,ir u.goal)
  (h:∀a n c w',Sep F W w' (aj a n c 3 1 (flat one (sS us))::L)->Fr No w0 w'->Q a n c w'):DQ la ln lc w0 Q:=by
 apply Yi
 have hlen:=hU.len
 refine YL (bt (F:=No)) 258 eX Cr λmb w s=>?_
 have loop:∀(j i:Nat) (a:Option Addr) (n c:Nat) (ms:List (Int×Bool)) (w:World),i+j=ln->n<=i->nN ms->(∀g,e7 ms g=if g∈sS (us.take i)then some true else none)->Sep No w0 w (aj a n c 3 1 (flat one (sS (us.take i)))::fy eX Cr mb ms::[])->
   Cj Q (j+1) a n c (some mb) la ln lc (ln:Int) i w:=by
  intro j
  induction j with
  |zero=>
   intro i a n c ms w hij Zg hk ha s
   show yD _ _ _ _ _ _ _ _ _ _ _ _
   rw[yD,bD]
   rw[List.take_of_length_le (by omega)]at s
   have s:=bH (L':=[aj a n c 3 1 (flat one (sS us))]) [0] s rfl (by decide)
   exact h a n c w (fR s0 s) (au s)
  |succ j ih=>
   intro i a n c ms w hij Zg hk ha s
   show yD _ _ _ _ _ _ _ _ _ _ _ _
   rw[yD,bY]
   refine(hU.fr (au s)).El rfl (by omega) λp u hu hc=>?_
   have hug:=ze u (List.mem_of_getElem? hu)
   have xA:sS (us.take (i+1))=DD (sS (us.take i)) u:=by
    unfold sS
    rw[List.take_add_one,hu]
    grind
   have wr:IntKind.wrap .i64 ((i:Int)+1)=((i+1:Nat):Int):=by
    rw[GC (ir.wf (by unfold ir;omega))]
    omega
   refine aP (hc 0 _ rfl) (aP (hc 1 _ rfl) (aP (hc 2 _ rfl) ?_))
   refine a_ s λx w s=>?_
   refine sT s 0 rfl λw s=>?_
   refine sT s 0 rfl λw s=>?_
   refine ax s (i:=0) rfl rfl rfl λw s=>?_
   apply lI s 0 rfl
   rw[wr]
   refine Dz (K:=eX) Ny (YY w) s (i:=2) rfl hk hug (λhn=>?_) λb hb=>?_
   ·have hno:u.goal∉sS (us.take i):=λhm=>by rw[ha,if_pos hm]at hn;cases hn
    apply lI s 0 rfl
    refine KM Ny s (i:=2) rfl hk hug λms' w hk' Dm hl' s=>?_
    apply lI s 0 rfl
    have s:=bH (L':=[_,_,_]) [1,0,2] s rfl (by decide)
    refine Ki s (by omega) λa' c' w s=>?_
    refine ih (i+1) a' (n+1) c' ms' w (by omega) (by omega) hk' (λg=>?_) ?_
    ·rw[Dm,ha,xA]
     rw[DD,if_neg hno]
     by_cases e:g=u.goal
     ·rw[if_pos e,if_pos (by rw[e];simp)]
     ·have:(g∈sS (us.take i)++[u.goal])↔g∈sS (us.take i):=by simp[e]
      rw[if_neg e]
      simp[this]
    ·rw[xA]
     rw[DD,if_neg hno]
     exact bH (L':=[_,_]) [0,2] s rfl (by decide)
   ·have hm:u.goal∈sS (us.take i):=by
     rw[ha]at hb
     split at hb
     ·assumption
     ·cases hb
    rw[ha,if_pos hm]at hb
    cases hb
    refine ih (i+1) a n c ms w (by omega) (by omega) hk (λg=>?_) ?_
    ·rw[ha,xA]
     rw[DD,if_pos hm]
    ·rw[xA]
     rw[DD,if_pos hm]
     exact ai s
 exact⟨ln+1,loop ln 0 none 0 0 [] w (by omega) (by omega) List.Pairwise.nil (λg=>rfl) (bG s 3 1)⟩
end
end Go.Proofs.YtmegplnmiepfbaaGreatDoor.S
namespace Go.Proofs.YtmegplnmiepfbaaGreatDoor.S
open Go.Sx
def adS {F:Nat->Prop}{W w:World}{L:List As}{K:Option Nat->World->Prop}{n:Int}{k' e:TypeId}{P:Program}{t:TypeId}(ht:P.underlying t=some (.map k' e))(s:Sep F W w L)(k:TypeId)(h:∀b w',Sep F W w' (mapA P k b []::L)->K (some b) w'):cm P t (some (ae n)) w K:=by
 unfold Sx.cm aI
 have e:(Instr.makeMap t (some (ae n))).run P w=.ok (.map (some w.heap.size)) (w.alloc (.map #[] 0)):=by
  simp[Instr.makeMap,newObj,run_underlying ht,asInt,Result.andThen]
  rfl
 rw[e]
 refine h _ _ (GA s (Fr.alloc Fr.refl _) ?_ λx hx=>?_)
 ·exact⟨#[],0,heap_alloc_new w _,rfl,by simp⟩
 ·have hx:x=w.heap.size:=hx
  omega
attribute [local irreducible] af cw bq bg aC cf bX St Bx Al App cA cq cm bT aI bw aq bR av aj aV mapA
structure nH (w h:Int) (us:List aL):Prop where
 wh:iX w h
 ids:(us.map (·.id)).Pairwise (·<·)
 pos:∀u∈us,0<=u.id
 at_:∀u∈us,bE w h u.cell/\bE w h u.goal
 nd:(us.map (·.cell)).Nodup
section
variable {F:Nat->Prop}{W w w0:World}{L:List As}{la:Option Addr}{ln lc:Nat}{us:List aL}{mw mh:Int}
def zQ {c:Int}(h:bE mw mh c):ir c:=by
 have:=oO h.1
 have:=h.2
 unfold ir
 omega
def PG {Q:Bool->World->Prop}(s0:Sep F W w0 L)(hU:Sl w0 la ln lc 3 g8 us)(pP:ln<=1000000)(hm:nH mw mh us)
  (h:∀w',Sep F W w' L->Fr No w0 w'->Q true w'):B1 mw mh la ln lc w0 Q:=by
 apply abV
 apply pA
 rw[decide_eq_true hm.wh,Bool.not_true,cond_false]
 refine adS Ny (bt (F:=No)) 3 λmb w s=>?_
 have s:=s
 have loop:∀(j i:Nat) (last:Int) (ms:List (Int×Bool)) (w:World),i+j=ln->(∀u∈us.drop i,last<u.id)->nN ms->(∀g,e7 ms g=if g∈(us.take i).map (·.cell)then some true else none)->Sep No w0 w (fy eX Cr mb ms::[])->
   Fl Q (j+1) mw mh last (some mb) la ln lc (ln:Int) i w:=by
  intro j
  induction j with
  |zero=>
   intro i last ms w hij hl hk ha s
   show By _ _ _ _ _ _ _ _ _ _ _ _
   rw[By,bD]
   exact h w (fR s0 (ai s)) (au s)
  |succ j ih=>
   intro i last ms w hij hl hk ha s
   show By _ _ _ _ _ _ _ _ _ _ _ _
   rw[By,bY]
   refine(hU.fr (au s)).El rfl (by omega) λp u hu hc=>?_
   have hmem:=List.mem_of_getElem? hu
   obtain⟨U1,NM⟩:=hm.at_ u hmem
   have hd:us.drop i=u::us.drop (i+1):=by
    have hi:=(List.getElem?_eq_some_iff.1 hu).1
    rw[List.drop_eq_getElem_cons hi]
    have:=(List.getElem?_eq_some_iff.1 hu).2
    rw[this]
   have xA:us.take (i+1)=us.take i++[u]:=by rw[List.take_add_one,hu];rfl
   have hno:u.cell∉(us.take i).map (·.cell):=λhin=>by
    have hnd:=hm.nd
    rw[<-List.take_append_drop i us,hd,List.map_append,List.map_cons,List.nodup_append]at hnd
    exact hnd.2.2 _ hin _ (List.mem_cons_self ..) rfl
   have atO:=hl u (by rw[hd];exact List.mem_cons_self ..)
   have aue:∀v∈us.drop (i+1),u.id<v.id:=λv hv=>by
    have hp:=hm.ids
    rw[<-List.take_append_drop i us,hd,List.map_append,List.map_cons,List.pairwise_append]at hp
    exact(List.pairwise_cons.1 hp.2.1).1 v.id (List.mem_map.2 ⟨v,hv,rfl⟩)
   have wr:IntKind.wrap .i64 ((i:Int)+1)=((i+1:Nat):Int):=by
    rw[GC (ir.wf (by unfold ir;omega))]
    omega
   refine aP (hc 0 _ rfl) (aP (hc 1 _ rfl) (aP (hc 2 _ rfl) ?_))
   refine a_ s λx w s=>?_
   refine sT s 0 rfl λw s=>?_
   refine sT s 0 rfl λw s=>?_
   refine ax s (i:=0) rfl rfl rfl λw s=>?_
   apply lI s 0 rfl
   rw[bD]
   apply lI s 0 rfl
   refine eN s λw s _=>?_
   have h1:=(bS U1).2.1
   have h2:=(bS NM).2.1
   rw[bD]
   apply lI s 0 rfl
   refine eN s λw s _=>?_
   rw[bD]
   apply lI s 0 rfl
   rw[wr]
   refine Dz (K:=eX) Ny (YY w) s (i:=1) rfl hk (zQ U1) (λhn=>?_) λb hb=>?_
   ·have s:=ay s
    refine lI s 0 rfl (lI s 0 rfl ⟨dg s 0 rfl,?_⟩)
    refine KM Ny s (i:=1) rfl hk (zQ U1) λms' w hk' Dm hl' s=>?_
    refine ih (i+1) u.id ms' w (by omega) aue hk' (λg=>?_) (ai s)
    rw[Dm,ha,xA,List.map_append]
    by_cases e:g=u.cell
    ·rw[if_pos e,if_pos (by rw[e];simp)]
    ·have:(g∈(us.take i).map (·.cell)++[u].map (·.cell))↔g∈(us.take i).map (·.cell):=by simp[e]
     rw[if_neg e]
     simp only[this]
   ·rw[ha,if_neg hno]at hb
    cases hb
 exact⟨ln+1,loop ln 0 (-1) [] w (by omega) (λu hu=>by have:=hm.pos u (List.mem_of_mem_drop hu);omega) List.Pairwise.nil (λg=>rfl) s⟩
end
end Go.Proofs.YtmegplnmiepfbaaGreatDoor.S
namespace Go.Proofs.YtmegplnmiepfbaaGreatDoor.S
open Go.Sx
def stand (us:List aL)(c:Int):Bool:=us.any λv=>decide (v.cell=c)
def mP (w h:Int)(st:List aL)(u:aL)(d:Int):Bool:=decide (0<=aY w h u.cell d)&&!stand st (aY w h u.cell d)
def kZ (w h:Int)(u:aL)(d:Int):List aL:=if aY w h u.cell d=u.goal then[]else[⟨u.id,aY w h u.cell d,u.goal⟩]
def cN (w h:Int):List aL->List (aL×Int)->List aL×List (Int×Int)×List Int
 |done,[]=>(done,[],[])
 |done,(u,d)::rest=>
  if mP w h (done++u::rest.map (·.1)) u d=true then
   ((cN w h (done++kZ w h u d) rest).1,(u.id,aY w h u.cell d)::(cN w h (done++kZ w h u d) rest).2.1,(if aY w h u.cell d=u.goal then[u.id]else[])++(cN w h (done++kZ w h u d) rest).2.2)
  else cN w h (done++[u]) rest
section
variable {w h d:Int}{done us:List aL}{u:aL}{rest todo:List (aL×Int)}
def BP (hb:mP w h (done++u::rest.map (·.1)) u d=true):cN w h done ((u,d)::rest)=((cN w h (done++kZ w h u d) rest).1,(u.id,aY w h u.cell d)::(cN w h (done++kZ w h u d) rest).2.1,(if aY w h u.cell d=u.goal then[u.id]else[])++(cN w h (done++kZ w h u d) rest).2.2):=by
 rw[cN,if_pos hb]
def zR (hb:mP w h (done++u::rest.map (·.1)) u d=false):cN w h done ((u,d)::rest)=cN w h (done++[u]) rest:=by
 rw[cN,if_neg (by grind)]
def adT {c:Int}:stand us c=true↔c∈us.map (·.cell):=by
 unfold stand
 grind
def acN:mP w h us u d=true↔0<=aY w h u.cell d/\aY w h u.cell d∉us.map (·.cell):=by
 rw[mP,Bool.and_eq_true,decide_eq_true_eq,<-adT]
 grind
def nH.sub {us':List aL}(hm:nH w h us)(hs:us'.Sublist us):nH w h us':=
 ⟨hm.wh,hm.ids.sublist (hs.map _),λv hv=>hm.pos v (hs.subset hv),λv hv=>hm.at_ v (hs.subset hv),hm.nd.sublist (hs.map _)⟩
def nH.Vw {v:aL}{us':List aL}(hm:nH w h (done++u::us'))(ze:v.id=u.id)(hc:bE w h v.cell)(hg:bE w h v.goal)(hn:v.cell∉(done++us').map (·.cell)):nH w h (done++v::us'):=by
 have hmem:∀x∈done++v::us',x=v\/x∈done++u::us':=λx hx=>by
  grind
 have hu:u∈done++u::us':=by simp
 refine⟨hm.wh,?_,λx hx=>?_,λx hx=>?_,?_⟩
 ·have:=hm.ids
  grind
 ·rcases hmem x hx with rfl|hx
  ·rw[ze];exact hm.pos u hu
  ·exact hm.pos x hx
 ·rcases hmem x hx with rfl|hx
  ·grind
  ·exact hm.at_ x hx
 ·have h0:=hm.nd
  grind
def ahc (hb:mP w h us u d=true):bE w h (aY w h u.cell d):=(zk (acN.1 hb).1).2
def ahd {us':List aL}(hm:nH w h (done++u::us'))(hb:mP w h (done++u::us') u d=true):nH w h ((done++kZ w h u d)++us'):=by
 obtain⟨h0,h1⟩:=acN.1 hb
 rw[List.append_assoc]
 unfold kZ
 split
 ·exact hm.sub (List.Sublist.append_left (List.sublist_cons_self _ _) _)
 ·refine hm.Vw rfl (ahc hb) (hm.at_ u (by simp)).2 λhin=>h1 ?_
  grind
def Vy:∀(todo:List (aL×Int)) (done:List aL),nH w h (done++todo.map (·.1))->nH w h (cN w h done todo).1
 |[],done,hm=>by simpa[cN]using hm
 |(u,d)::rest,done,hm=>by
  cases hb:mP w h (done++u::rest.map (·.1)) u d with
  |true=>
   rw[BP hb]
   exact Vy rest _ (ahd hm hb)
  |false=>
   rw[zR hb]
   exact Vy rest _ (by grind)
def aaV:∀(todo:List (aL×Int)) (done:List aL),(cN w h done todo).2.1=[]->(cN w h done todo).1=done++todo.map (·.1)
 |[],done,_=>by simp[cN]
 |(u,d)::rest,done,hm=>by
  cases hb:mP w h (done++u::rest.map (·.1)) u d with
  |true=>rw[BP hb]at hm;cases hm
  |false=>
   rw[zR hb]at hm⊢
   rw[aaV rest _ hm]
   simp
def aaW:∀(todo:List (aL×Int)) (done:List aL) {m:Int×Int} {ms:List (Int×Int)},(cN w h done todo).2.1=m::ms->
  ∃done' u d rest,mP w h (done'++u::rest.map (·.1)) u d=true/\done'++u::rest.map (·.1)=done++todo.map (·.1)/\m=(u.id,aY w h u.cell d)/\(cN w h (done'++kZ w h u d) rest).2.1=ms/\(cN w h (done'++kZ w h u d) rest).1=(cN w h done todo).1
 |[],done,_,_,hm=>by cases hm
 |(u,d)::rest,done,m,ms,hm=>by
  cases hb:mP w h (done++u::rest.map (·.1)) u d with
  |true=>
   rw[BP hb]at hm⊢
   grind
  |false=>
   rw[zR hb]at hm⊢
   obtain⟨done',u',d',rest',h1,h2,h3⟩:=aaW rest _ hm
   grind
def MJ:∀(todo:List (aL×Int)) (done:List aL),(cN w h done todo).1.length+(cN w h done todo).2.2.length=done.length+todo.length/\(cN w h done todo).2.1.length<=todo.length
 |[],done=>by simp[cN]
 |(u,d)::rest,done=>by
  cases hb:mP w h (done++u::rest.map (·.1)) u d with
  |true=>
   rw[BP hb]
   have:=MJ rest (done++kZ w h u d)
   have hw:(kZ w h u d).length+(if aY w h u.cell d=u.goal then[u.id]else[]).length=1:=by unfold kZ;split<;>rfl
   grind
  |false=>
   rw[zR hb]
   have:=MJ rest (done++[u])
   grind
end
end Go.Proofs.YtmegplnmiepfbaaGreatDoor.S
namespace Go.Proofs.YtmegplnmiepfbaaGreatDoor.S
open Go.Sx
attribute [local irreducible] af cw bq bg aC cf bX St Bx Al App cA cq cm bT aI bw aq bR av aj aV mapA
def KZ {i:Nat}(h:i<=1000000000):IntKind.wrap .i64 ((i:Int)+1)=((i+1:Nat):Int):=by
 rw[GC (ir.wf (by unfold ir;omega))]
 omega
def k9 (x:Int×Int):List Value:=[ae x.1,ae x.2]
def Ih (x:Int×Int):(k9 x).length=2:=rfl
def amY (x:Int×Int)(u:Value)(h:u∈k9 x):u.oneCell'=true:=by
 unfold k9 at h
 simp[List.mem_cons,List.not_mem_nil,or_false]at h
 rcases h with rfl|rfl<;>rfl
section
variable {F:Nat->Prop}{W w w0:World}{L:List As}{a:Option Addr}{n c:Nat}{mv:List (Int×Int)}
def Vz {K:Addr->World->Prop}{p:Addr}{u:aL}(hc:∀j v,(g8 u)[j]? =some v->w.cell? (p.add j)=some v)(s:Sep F W w L)(h:∀x w',Sep F W w' (av x 43 (g8 u)::L)->K (aZ x) w'):
  af .i64 (p.add 0) w λa=>af .i64 (p.add 1) w λb=>af .i64 (p.add 2) w λc=>Al T 43 w λx w=>St (x.add 0) (ae a) w λw=>St (x.add 1) (ae b) w λw=>St (x.add 2) (ae c) w λw=>K x w:=by
 refine aP (hc 0 _ rfl) (aP (hc 1 _ rfl) (aP (hc 2 _ rfl) ?_))
 refine a_ s λx w s=>?_
 refine sT s 0 rfl λw s=>?_
 refine sT s 0 rfl λw s=>?_
 refine ax s (i:=0) rfl rfl rfl λw s=>?_
 exact h x w s
end
def K0 (ms:List (Int×Bool))(us:List aL):Prop:=nN ms/\∀c,e7 ms c=if stand us c=true then some true else none
def BQ {us vs:List aL}{c:Int}:stand (us++vs) c=(stand us c||stand vs c):=by unfold stand;grind
def Js {u:aL}{us:List aL}{c:Int}:stand (u::us) c=(decide (u.cell=c)||stand us c):=by unfold stand;grind
def ahe {us:List aL}{c:Int}:stand us c=false↔c∉us.map (·.cell):=by
 rw[<-adT]
 grind
def amZ {w h c:Int}(hc:bE w h c):aY w h c 4=c:=by
 obtain⟨h1,h2,e⟩:=Hh hc
 rw[aY,if_pos hc,if_neg (by decide),if_neg (by decide),if_neg (by decide),if_neg (by decide),if_pos rfl,mV hc.1 h1 h2]
 exact e.symm
def am0 {w h c:Int}:aY w h c 5=-1:=by
 unfold aY
 split<;>rfl
abbrev VA (mw mh:Int)(mb:Nat)(ma:Option Addr)(mn mc:Nat)(ga:Option Addr)(gn gc:Nat):List Value:=[ae mw,ae mh,.map (some mb),.slice ma mn mc,.slice ga gn gc]
section
variable {F:Nat->Prop}{W w w0:World}{L:List As}{ma ga:Option Addr}{mn mc gn gc mb fb ub:Nat}{mv:List (Int×Int)}{gs:List Int}{ms:List (Int×Bool)}{mw mh d:Int}{done us:List aL}{u:aL}
def ard {Q:Bool->World->Prop}(hm:nH mw mh (done++u::us))(hS:K0 ms (done++u::us))(hmn:mn<=100000000)(Gc:gn<=100000000)(s:Sep F W w (av ub 43 (g8 u)::av fb 260 (VA mw mh mb ma mn mc ga gn gc)::fy eX Cr mb ms::aj ma mn mc 51 2 (flat k9 mv)::aj ga gn gc 3 1 (flat one gs)::L))
  (hno:mP mw mh (done++u::us) u d=false->∀w',Sep F W w' (av fb 260 (VA mw mh mb ma mn mc ga gn gc)::fy eX Cr mb ms::aj ma mn mc 51 2 (flat k9 mv)::aj ga gn gc 3 1 (flat one gs)::av ub 43 (g8 u)::L)->Q true w')
  (hyes:mP mw mh (done++u::us) u d=true->∀ms' ma' VB Xk Xl gc' w',Xl<=gn+1->K0 ms' ((done++kZ mw mh u d)++us)->Sep F W w' (av fb 260 (VA mw mh mb ma' (mn+1) VB Xk Xl gc')::fy eX Cr mb ms'::aj ma' (mn+1) VB 51 2 (flat k9 (mv++[(u.id,aY mw mh u.cell d)]))::aj Xk Xl gc' 3 1 (flat one (gs++if aY mw mh u.cell d=u.goal then[u.id]else[]))::av ub 43 (g8 ⟨u.id,aY mw mh u.cell d,u.goal⟩)::L)->Q (!decide (aY mw mh u.cell d=u.goal)) w'):
  ke Q (sZ fb) (sZ ub) d w:=by
 have hu:=hm.at_ u (by simp)
 have s:=ay s
 refine ah (lI s 1 rfl (ah (lI s 1 rfl (ah (lI s 0 rfl ?_)))))
 refine kj s λw s _=>?_
 have fin:mP mw mh (done++u::us) u d=false->Q true w:=λhb=>hno hb w (pk 5 [1,2,3,4,0] s)
 by_cases h0:aY mw mh u.cell d<0
 ·rw[bY h0]
  apply fin
  unfold mP
  grind
 rw[bD h0]
 have h0:0<=aY mw mh u.cell d:=by omega
 have hto:=(zk h0).2
 refine ah (lM s 1 rfl ?_)
 refine Dz (K:=eX) Ny (YY w) s (i:=2) rfl hS.1 (zQ hto) (λhn=>?_) λb hb=>?_
 ·have hst:stand (done++u::us) (aY mw mh u.cell d)=false:=by
   rw[hS.2]at hn
   split at hn
   ·cases hn
   ·exact Bool.eq_false_iff.2 ‹_›
  have hb:mP mw mh (done++u::us) u d=true:=by
   rw[mP,decide_eq_true h0,hst]
   rfl
  have hyes:=hyes hb
  unfold kZ at hyes
  generalize aY mw mh u.cell d=to at*
  apply acG
  have s:=ay s
  refine ah (lM s 1 rfl (ah (lI s 0 rfl ?_)))
  refine asM (K:=eX) Ny s (i:=2) rfl hS.1 (zQ hu.1) λms1 w hk1 ha1 _ s=>?_
  have hcells:∀c,stand (done++us) c=if c=u.cell then false else stand (done++u::us) c:=λc=>by
   rw[BQ,BQ,Js]
   by_cases e:c=u.cell
   ·rw[if_pos e,e]
    have:=hm.nd
    rw[List.map_append,List.map_cons,List.nodup_append,List.nodup_cons]at this
    rw[ahe.2 λh=>this.2.2 _ h _ (List.mem_cons_self ..) rfl,ahe.2 this.2.1.1]
    rfl
   ·rw[if_neg e,decide_eq_false λh=>e h.symm,Bool.false_or]
  have hS1:K0 ms1 (done++us):=⟨hk1,λc=>by
   rw[ha1,hS.2,hcells]
   by_cases e:c=u.cell
   ·rw[if_pos e,if_pos e];rfl
   ·rw[if_neg e,if_neg e]⟩
  refine ah (sT s 0 rfl λw s=>?_)
  have s:=ay s
  refine ah (lS s 1 rfl (ah (lI s 0 rfl ?_)))
  have s:=pk 5 [3,0,1,2,4] s
  refine aT s λxb w s=>⟨dg s 3 rfl,?_⟩
  have src:Src w (sZ xb) 1 2 (k9 (u.id,to)):=⟨rfl,amY _,λj v hj=>by rw[bZ,Nat.zero_add];exact cg s (i:=0) rfl rfl hj⟩
  refine iL dW s (i:=1) (bytes:=16) rfl rfl rfl rfl rfl rfl (by decide) rfl src (by simp[maxLen];omega) (by omega) (λe=>by cases e) λma' VB w s=>?_
  have e:flat k9 mv++k9 (u.id,to)=flat k9 (mv++[(u.id,to)]):=by rw[gK];simp[flat]
  rw[e]at s
  refine ah (ax s (i:=3) rfl rfl rfl λw s=>?_)
  refine ah (lI s 2 rfl ?_)
  have s:=ai s
  by_cases hg:to=u.goal
  ·rw[dJ hg,cond_true]
   have s:=ay s
   refine ah (lS s 2 rfl (ah (lI s 1 rfl ?_)))
   refine aT s λxb w s=>⟨dg s 3 rfl,?_⟩
   have src:Src w (sZ xb) 1 1 (one u.id):=⟨rfl,Ee _,λj v hj=>by rw[bZ,Nat.zero_add];exact cg s (i:=0) rfl rfl hj⟩
   refine iL dW s (i:=5) (size:=1) (bytes:=8) rfl rfl rfl rfl rfl rfl (by decide) rfl src (by simp[maxLen];omega) (by omega) (λe=>by cases e) λXk gc' w s=>?_
   have e:flat one gs++one u.id=flat one (gs++[u.id]):=by rw[gK];simp[flat]
   rw[e]at s
   refine ah (ax s (i:=3) rfl rfl rfl λw s=>?_)
   have s:=pk 6 [3,4,1,5,2] s
   have:=hyes ms1 ma' VB Xk (gn+1) gc' w (Nat.le_refl _) ?_ ?_
   ·rw[decide_eq_true hg]at this
    exact this
   ·rw[if_pos hg,List.append_nil]
    exact hS1
   ·rw[if_pos hg]
    exact s
  ·rw[cM hg,cond_false]
   refine ah (lM s 2 rfl ?_)
   refine KM (k:=3) (e:=4) (K:=eX) (v:=Cr) (ms:=ms1) (a:=true) (x:=to) Ny s (i:=3) rfl hk1 (zQ hto) λms2 w HD Mw _ s=>?_
   have s:=pk 5 [2,3,0,4,1] s
   have:=hyes ms2 ma' VB ga gn gc w (Nat.le_succ _) ?_ ?_
   ·rw[decide_eq_false hg]at this
    exact this
   ·rw[if_neg hg]
    refine⟨HD,λc=>?_⟩
    rw[Mw,hS1.2,BQ,BQ,BQ,Js]
    by_cases e:c=to
    ·rw[if_pos e,e,decide_eq_true rfl]
     simp
    ·rw[if_neg e,decide_eq_false λh=>e h.symm]
     simp[stand]
   ·rw[if_neg hg,List.append_nil]
    exact s
 ·have hst:stand (done++u::us) (aY mw mh u.cell d)=true:=by
   rw[hS.2]at hb
   split at hb
   ·assumption
   ·cases hb
  rw[hS.2,if_pos hst]at hb
  cases hb
  apply akj
  apply fin
  rw[mP,hst]
  simp
def Y0 {Q:Bool->World->Prop}(hd:0<=d/\d<=5)(hm:nH mw mh (done++u::us))(hS:K0 ms (done++u::us))(hmn:mn<=100000000)(Gc:gn<=100000000)(s:Sep F W w (av ub 43 (g8 u)::av fb 260 (VA mw mh mb ma mn mc ga gn gc)::fy eX Cr mb ms::aj ma mn mc 51 2 (flat k9 mv)::aj ga gn gc 3 1 (flat one gs)::L))
  (hno:mP mw mh (done++u::us) u d=false->∀w',Sep F W w' (av fb 260 (VA mw mh mb ma mn mc ga gn gc)::fy eX Cr mb ms::aj ma mn mc 51 2 (flat k9 mv)::aj ga gn gc 3 1 (flat one gs)::av ub 43 (g8 u)::L)->Q true w')
  (hyes:mP mw mh (done++u::us) u d=true->∀ms' ma' VB Xk Xl gc' w',Xl<=gn+1->K0 ms' ((done++kZ mw mh u d)++us)->Sep F W w' (av fb 260 (VA mw mh mb ma' (mn+1) VB Xk Xl gc')::fy eX Cr mb ms'::aj ma' (mn+1) VB 51 2 (flat k9 (mv++[(u.id,aY mw mh u.cell d)]))::aj Xk Xl gc' 3 1 (flat one (gs++if aY mw mh u.cell d=u.goal then[u.id]else[]))::av ub 43 (g8 ⟨u.id,aY mw mh u.cell d,u.goal⟩)::L)->Q (!decide (aY mw mh u.cell d=u.goal)) w'):
  xd (sZ fb) (sZ ub) d w Q:=by
 apply Nj
 have hb:¬(4<=d)->ke Q (sZ fb) (sZ ub) d w:=λ_=>ard hm hS hmn Gc s hno hyes
 by_cases e0:d=0
 ·grind
 rw[cM e0,cond_false]
 by_cases e1:d=1
 ·grind
 rw[cM e1,cond_false]
 by_cases e2:d=2
 ·grind
 rw[cM e2,cond_false]
 by_cases e3:d=3
 ·grind
 rw[cM e3,cond_false]
 refine hno ?_ w (pk 5 [1,2,3,4,0] s)
 have hu:=(hm.at_ u (by simp)).1
 unfold mP
 obtain rfl|rfl:d=4\/d=5:=by omega
 ·rw[amZ hu,BQ,Js,decide_eq_true rfl]
  simp
 ·rw[am0]
  rfl
end
def axW:oK 153 fns=true:=by kernel_rfl
section
variable {F:Nat->Prop}{W w w0:World}{L:List As}{la da:Option Addr}{ln lc dn dc:Nat}{us:List aL}{ds:List Int}{mw mh:Int}
def ao0 {Q:Bool->World->Prop}(hD:Sl w da dn dc 1 one ds)(hr:∀d∈ds,0<=d/\d<=5)(hn:dn<=1000000)(h:Q false w):nv da dn dc (.func (.func 153) #[] #[]) w Q:=by
 apply Di
 apply Fm
 have hl:=hD.len
 have loop:∀(j i:Nat),i+j=dn->jC (λr w=>Q (decide (r≥0)) w) (j+1) da dn dc (.func (.func 153) #[] #[]) (dn:Int) i w:=by
  intro j
  induction j with
  |zero=>
   intro i hi
   show jB _ _ _ _ _ _ _ _ _
   unfold jB
   grind
  |succ j ih=>
   intro i hi
   show jB _ _ _ _ _ _ _ _ _
   rw[jB,bY]
   apply hD.pJ rfl (by omega)
   have hd:=hr _ (fE (i:=i) (by omega))
   unfold gX
   simp only
   have hc:JQ (gi ds i) w λr w'=>cond r (Q (decide ((i:Int)≥0)) w') (jC (λr w=>Q (decide (r≥0)) w) (j+1) da dn dc (.func (.func 153) #[] #[]) (dn:Int) (IntKind.wrap .i64 ((i:Int)+1)) w'):=by
    apply Yk
    rw[bD]
    show cond (decide (gi ds i>5)) _ _
    rw[bD,KZ (by omega)]
    exact ih (i+1) (by omega)
   exact hc
 exact⟨dn+1,loop dn 0 (by omega)⟩
def acO {Q:Option Addr->Nat->Nat->Option Addr->Nat->Nat->Option Addr->Nat->Nat->Int->World->Prop}(s0:Sep F W w0 L)(hU:Sl w0 la ln lc 3 g8 us)(hD:Sl w0 da dn dc 1 one ds)(hlen:ds.length=us.length)(pP:ln<=1000000)(hr:∀d∈ds,0<=d/\d<=5)(hm:nH mw mh us)
  (h:∀aa an ac ma mn mc ga gn gc w',Sep F W w' (aj ma mn mc 51 2 (flat k9 (cN mw mh [] (us.zip ds)).2.1)::aj ga gn gc 3 1 (flat one (cN mw mh [] (us.zip ds)).2.2)::L)->Fr No w0 w'->Q aa an ac ma mn mc ga gn gc 0 w'):
  GH mw mh la ln lc da dn dc w0 Q:=by
 apply abY
 have hul:=hU.len
 have hdl:=hD.len
 refine PG (bt (F:=No)) hU pP hm λw s _=>?_
 rw[Bool.not_true,cond_false,wG (by omega),cond_false]
 apply ao0 (hD.fr (au s)) hr (by omega)
 refine adS Ny s 3 λmb w s=>?_
 have s:=s
 refine aT s λfb w s=>?_
 have ata:(us.zip ds).map (·.1)=us:=by
  rw[List.map_fst_zip]
  omega
 have walk:∀(j i:Nat) (done:List aL) (ms:List (Int×Bool)) (mv:List (Int×Int)) (gs:List Int) (aa ma ga:Option Addr) (an ac mn mc gn gc:Nat) (w:World),i+j=ln->mn<=i->gn<=i->an<=i->nH mw mh (done++((us.zip ds).drop i).map (·.1))->K0 ms (done++((us.zip ds).drop i).map (·.1))->
   mv++(cN mw mh done ((us.zip ds).drop i)).2.1=(cN mw mh [] (us.zip ds)).2.1->gs++(cN mw mh done ((us.zip ds).drop i)).2.2=(cN mw mh [] (us.zip ds)).2.2->
   Sep No w0 w (av fb 260 (VA mw mh mb ma mn mc ga gn gc)::fy eX Cr mb ms::aj ma mn mc 51 2 (flat k9 mv)::aj ga gn gc 3 1 (flat one gs)::aj aa an ac 43 3 (flat g8 done)::[])->
   Dw Q (j+1) da dn dc aa an ac (aZ fb) la ln lc (ln:Int) i w:=by
  intro j
  induction j with
  |zero=>
   intro i done ms mv gs aa ma ga an ac mn mc gn gc w hij hmn Gc han hM hS Sj D_ s
   show Aa _ _ _ _ _ _ _ _ _ _ _ _ _ _ _
   rw[Aa,bD]
   have s:=ay s
   have hz:(us.zip ds).drop i=[]:=List.drop_eq_nil_of_le (by grind)
   rw[hz]at Sj D_
   simp[cN,List.append_nil]at Sj D_
   have c3:=cg s (i:=0) (j:=3) rfl rfl rfl
   have c4:=cg s (i:=0) (j:=4) rfl rfl rfl
   refine lS s 0 rfl (lS s 0 rfl ⟨c4,c3,c4,?_⟩)
   rw[Sj,D_]at s
   have s:=bH (L':=[_,_]) [2,3] s rfl (by decide)
   exact h aa an ac ma mn mc ga gn gc _ (fR s0 s) (au s)
  |succ j ih=>
   intro i done ms mv gs aa ma ga an ac mn mc gn gc w hij hmn Gc han hM hS Sj D_ s
   show Aa _ _ _ _ _ _ _ _ _ _ _ _ _ _ _
   rw[Aa,bY]
   refine(hU.fr (au s)).El rfl (by omega) λp u hu hc=>?_
   have hdi:ds[i]? =some (gi ds i):=gT (by omega)
   have hd:=hr _ (List.mem_of_getElem? hdi)
   have hz:(us.zip ds).drop i=(u,gi ds i)::(us.zip ds).drop (i+1):=by
    have hzi:(us.zip ds)[i]? =some (u,gi ds i):=by rw[List.getElem?_zip_eq_some];exact⟨hu,hdi⟩
    obtain⟨hlt,e⟩:=List.getElem?_eq_some_iff.1 hzi
    rw[List.drop_eq_getElem_cons hlt,e]
   rw[hz]at hM hS Sj D_
   have hM:=hM
   have hS:=hS
   refine Vz hc s λub w s=>?_
   apply(hD.fr (au s)).pJ rfl (by omega)
   generalize gi ds i=d at*
   rw[KZ (by omega)]
   refine Y0 hd hM hS (by omega) (by omega) s (λhb w s=>?_) λhb ms' ma' VB Xk Xl gc' w azr hS' s=>?_
   ·rw[zR hb]at Sj D_
    refine lI s 4 rfl (lI s 4 rfl (lI s 4 rfl ?_))
    have s:=bH (L':=[_,_,_,_,_]) [5,0,1,2,3] s rfl (by decide)
    refine aoY s (by omega) λaa' ac' w s=>?_
    exact ih (i+1) (done++[u]) ms mv gs aa' ma ga (an+1) ac' mn mc gn gc w (by omega) (by omega) (by omega) (by omega) (by rw[List.append_assoc];exact hM) (by rw[List.append_assoc];exact hS) Sj D_ (bH (L':=[_,_,_,_,_]) [1,2,3,4,0] s rfl (by decide))
   ·rw[BP hb]at Sj D_
    have hM':=ahd hM hb
    by_cases hg:aY mw mh u.cell d=u.goal
    ·rw[decide_eq_true hg,Bool.not_true,cond_false]
     have ew:kZ mw mh u d=[]:=by unfold kZ;rw[if_pos hg]
     rw[ew,List.append_nil]at hM' hS' Sj D_
     exact ih (i+1) done ms' _ _ aa ma' Xk an ac (mn+1) VB Xl gc' w (by omega) (by omega) (by omega) (by omega) hM' hS' (by rw[List.append_assoc];exact Sj) (by rw[List.append_assoc];exact D_) (bH (L':=[_,_,_,_,_]) [0,1,2,3,5] s rfl (by decide))
    ·rw[decide_eq_false hg,Bool.not_false,cond_true]
     have ew:kZ mw mh u d=[⟨u.id,aY mw mh u.cell d,u.goal⟩]:=by unfold kZ;rw[if_neg hg]
     rw[ew]at hM' hS' Sj D_
     rw[if_neg hg,List.append_nil]at s
     rw[if_neg hg,List.nil_append]at D_
     refine lI s 4 rfl (lI s 4 rfl (lI s 4 rfl ?_))
     have s:=bH (L':=[_,_,_,_,_]) [5,0,1,2,3] s rfl (by decide)
     refine aoY s (by omega) λaa' ac' w s=>?_
     exact ih (i+1) _ ms' _ gs aa' ma' Xk (an+1) ac' (mn+1) VB Xl gc' w (by omega) (by omega) (by omega) (by omega) hM' hS' (by rw[List.append_assoc];exact Sj) D_ (bH (L':=[_,_,_,_,_]) [1,2,3,4,0] s rfl (by decide))
 have fill:∀(j i:Nat) (ms:List (Int×Bool)) (w:World),i+j=ln->K0 ms (us.take i)->Sep No w0 w (av fb 260 (VA mw mh mb none 0 0 none 0 0)::fy eX Cr mb ms::[])->
   Fo Q (j+1) la ln lc da dn dc none 0 0 (aZ fb) la ln lc (ln:Int) i w:=by
  intro j
  induction j with
  |zero=>
   intro i ms w hij hS s
   show Bz _ _ _ _ _ _ _ _ _ _ _ _ _ _ _ _ _ _
   rw[Bz,bD]
   rw[List.take_of_length_le (by omega)]at hS
   have s:=bG (bG (bG s 3 1) 51 2) 43 3
   have s:=bH (L':=[_,_,_,_,_]) [3,4,1,2,0] s rfl (by decide)
   refine⟨ln+1,walk ln 0 [] ms [] [] none none none 0 0 0 0 0 0 w (by omega) (by omega) (by omega) (by omega) ?_ ?_ rfl rfl s⟩
   ·rw[List.drop_zero,ata];exact hm
   ·rw[List.drop_zero,ata];exact hS
  |succ j ih=>
   intro i ms w hij hS s
   show Bz _ _ _ _ _ _ _ _ _ _ _ _ _ _ _ _ _ _
   rw[Bz,bY]
   refine(hU.fr (au s)).El rfl (by omega) λp u hu hc=>?_
   refine Vz hc s λub w s=>?_
   have s:=ay s
   refine lM s 1 rfl (lI s 0 rfl ?_)
   have hcell:=(hm.at_ u (List.mem_of_getElem? hu)).1
   refine KM Ny s (i:=2) rfl hS.1 (zQ hcell) λms2 w HD Mw _ s=>?_
   rw[KZ (by omega)]
   refine ih (i+1) ms2 w (by omega) ⟨HD,λc=>?_⟩ (ai s)
   have xA:us.take (i+1)=us.take i++[u]:=by rw[List.take_add_one,hu];rfl
   rw[Mw,hS.2,xA,BQ,Js]
   by_cases e:c=u.cell
   ·rw[if_pos e,e,decide_eq_true rfl]
    simp
   ·rw[if_neg e,decide_eq_false λh=>e h.symm]
    simp[stand]
 refine⟨ln+1,fill ln 0 [] w (by omega) ⟨List.Pairwise.nil,λc=>rfl⟩ s⟩
end
def atU (us:List aL)(c:Int):Option aL:=us.find? λv=>decide (v.cell=c)
def tV (us:List aL)(c:Int):Int:=match atU us c with
 |some u=>u.id
 |none=>-1
section
variable {us us':List aL}{u:aL}{c:Int}
def D7 (h:c∉us.map (·.cell)):tV us c=-1:=by
 have:atU us c=none:=by
  unfold atU
  grind
 rw[tV,this]
def zS (hn:(us.map (·.cell)).Nodup)(h:u∈us):tV us u.cell=u.id:=by
 have:atU us u.cell=some u:=by
  unfold atU
  induction us with
  |nil=>cases h
  |cons v us ih=>
   grind
 rw[tV,this]
def Y1 (hn:(us.map (·.cell)).Nodup)(hn':(us'.map (·.cell)).Nodup)(h:∀v:aL,v.cell=c->(v∈us↔v∈us')):tV us c=tV us' c:=by
 by_cases hc:c∈us.map (·.cell)
 ·obtain⟨v,hv,rfl⟩:=List.mem_map.1 hc
  rw[zS hn hv,zS hn' ((h v rfl).1 hv)]
 ·rw[D7 hc,D7 λe=>?_]
  grind
def are {w h:Int}(hm:nH w h us):tV us c=-1\/0<=tV us c/\∃u∈us,u.cell=c/\tV us c=u.id:=by
 by_cases hc:c∈us.map (·.cell)
 ·obtain⟨v,hv,rfl⟩:=List.mem_map.1 hc
  rw[zS hm.nd hv]
  exact .inr ⟨hm.pos v hv,v,hv,rfl,rfl⟩
 ·exact .inl (D7 hc)
end
structure FT (w h:Int) (us:List aL) (ws:List Int):Prop where
 len:(ws.length:Int)=w*h
 at_:∀c,bE w h c->gi ws c.toNat=tV us c+1
section
variable {us us':List aL}{u:aL}{c v mw mh:Int}{ws:List Int}
def FT.lt (h:FT mw mh us ws)(hc:bE mw mh c):0<=c/\c<ws.length:=by
 have:=h.len
 have:=hc.2
 omega
def FT.who (h:FT mw mh us ws)(hc:bE mw mh c):BE ws c=tV us c:=by
 rw[BE,if_pos (h.lt hc),h.at_ c hc]
 omega
def FT.free (h:FT mw mh us ws)(hc:bE mw mh c):zJ ws c=decide (tV us c=-1):=by
 rw[zJ,decide_eq_true (h.lt hc),h.at_ c hc,Bool.true_and,Bool.eq_iff_iff,beq_iff_eq,decide_eq_true_eq]
 omega
def FT.set (h:FT mw mh us ws)(hc:bE mw mh c)(e:∀c',bE mw mh c'->tV us' c'+1=if c'=c then v else tV us c'+1):FT mw mh us' (ws.set c.toNat v):=by
 have hl:=h.lt hc
 refine⟨by rw[List.length_set];exact h.len,λc' Az=>?_⟩
 rw[TL (by omega),e c' Az,h.at_ c' Az]
 have:=Az.2
 omega
def ai9 {done:List aL}(hm:nH mw mh (done++u::us))(hf:FT mw mh (done++u::us) ws):FT mw mh (done++us) (ws.set u.cell.toNat 0):=by
 have BC:=hm.sub (us':=done++us) (List.Sublist.append_left (List.sublist_cons_self _ _) _)
 refine hf.set (hm.at_ u (by simp)).1 λc' _=>?_
 have hnd:=hm.nd
 by_cases e:c'=u.cell
 ·rw[if_pos e,e,D7]
  all_goals grind
 ·rw[if_neg e,Y1 BC.nd hm.nd λv hv=>?_]
  grind
def am2 {done:List aL}(hm:nH mw mh (done++u::us))(hf:FT mw mh (done++us) ws):FT mw mh (done++u::us) (ws.set u.cell.toNat (u.id+1)):=by
 have BC:=hm.sub (us':=done++us) (List.Sublist.append_left (List.sublist_cons_self _ _) _)
 refine hf.set (hm.at_ u (by simp)).1 λc' _=>?_
 by_cases e:c'=u.cell
 ·rw[if_pos e,e,zS hm.nd (by simp)]
 ·rw[if_neg e,Y1 hm.nd BC.nd λv hv=>?_]
  grind
end
structure CrR where
 p:Nat
 un:U9
 fl:Pa
structure Gp where
 w:Int
 h:Int
 y:sP
 ws:List Int
structure ao1 (x:Gp):Prop where
 may:nH x.w x.h x.y.us
 fl:FT x.w x.h x.y.us x.ws
def yT (r:CrR)(x:Gp):List Value:=[ae x.w,ae x.h,ae x.y.most,.pointer (sZ r.un.p),.pointer (sZ r.fl.p)]
noncomputable def arf (r:CrR)(x:Gp):List As:=[av r.p 125 (yT r x),vu r.un x.y,uN r.fl x.ws]
noncomputable def fO (r:CrR)(x:Gp):As:=aV (ao1 x) (arf r x)
def oE (w h:Int)(y:sP)(cell goal:Int):Int:=if¬(bE w h cell/\bE w h goal)then 7 else if tV y.us cell≠-1 then 10 else if(y.us.length:Int)≥y.most then 11 else if cell=goal then 13 else 0
section
variable {F:Nat->Prop}{W w w0:World}{L:List As}{r:CrR}{x:Gp}{cell goal id:Int}
def qJ (s:Sep F W w (fO r x::L)):ao1 x/\Sep F W w (av r.p 125 (yT r x)::vu r.un x.y::uN r.fl x.ws::L):=iW s
def xu (s:Sep F W w (av r.p 125 (yT r x)::vu r.un x.y::uN r.fl x.ws::L))(h:ao1 x):Sep F W w (fO r x::L):=dX s h
def ai_ {u:aL}{us:List aL}{mw mh:Int}(hm:nH mw mh us)(ze:∀v∈us,v.id<u.id)(hp:0<=u.id)(hc:bE mw mh u.cell)(hg:bE mw mh u.goal)(hn:u.cell∉us.map (·.cell)):nH mw mh (us++[u]):=by
 have hm1:∀v∈us++[u],v∈us\/v=u:=λv hv=>by grind
 refine⟨hm.wh,?_,λv hv=>?_,λv hv=>?_,?_⟩
 ·rw[List.map_append,List.pairwise_append]
  refine⟨hm.ids,by simp,λa ha b hb=>?_⟩
  grind
 ·rcases hm1 v hv with hv|rfl
  ·exact hm.pos v hv
  ·exact hp
 ·rcases hm1 v hv with hv|rfl
  ·exact hm.at_ v hv
  grind
 ·rw[List.map_append,List.nodup_append]
  refine⟨hm.nd,by simp,λa ha b hb=>?_⟩
  grind
def aaX {Q:Option Addr->World->Prop}{mw mh most:Int}(hm:iX mw mh)(V3:1<=most/\most<=65536)(s:Sep F W w L)(h:∀r ws w',Sep F W w' (fO r ⟨mw,mh,⟨most,0,[]⟩,ws⟩::L)->Q (sZ r.p) w'):E7 mw mh most w Q:=by
 apply ZL
 have hwh:=oO hm
 apply pA
 rw[decide_eq_true hm,Bool.not_true,cond_false,bD,bD]
 refine aaw V3 s λur w s=>?_
 rw[aJ,show mw*mh=(((mw*mh).toNat:Nat):Int) by omega]
 refine Z8 s (by omega) λfr w s=>?_
 refine aT s λp w s=>?_
 have s:=pk 3 [0,2,1] s
 refine h ⟨p,ur,fr⟩ _ w (xu s ⟨⟨hm,List.Pairwise.nil,(λu hu=>by cases hu),(λu hu=>by cases hu),List.Pairwise.nil⟩,⟨by grind,λc hc=>?_⟩⟩)
 have:0<=c/\c<mw*mh:=hc.2
 show(List.replicate _ _).getD _ _=_
 rw[List.getD_eq_getElem?_getD,List.getElem?_replicate,HE]
 rfl
def aku {Q:Bool->World->Prop}{c:Int}(s:Sep F W w (fO r x::L))(h:∀w',Sep F W w' (fO r x::L)->Q (decide (bE x.w x.h c)) w'):oS (sZ r.p) c w Q:=by
 apply Qy
 have s:=ay s
 obtain⟨hok,so⟩:=qJ s
 refine ah (lI so 0 rfl (ah (lI so 0 rfl ?_)))
 refine eN s λw s _=>?_
 have e:decide (aB x.w x.h c≥0)=decide (bE x.w x.h c):=decide_eq_decide.2 ⟨λh=>by
  by_cases hc:bE x.w x.h c
  ·exact hc
  ·unfold aB at h
   grind,λh=>(bS h).2.1⟩
 grind
def adV {Q:Int->World->Prop}{c g:Int}(h:Q (if c=g then 13 else 0) w):nE Q c g w:=by
 unfold nE
 grind
def am3 {Q:Int->World->Prop}{p:Option Addr}{c g:Int}(h:Q (if c=g then 13 else 0) w):mR p 3 c g w Q:=by
 apply CE
 exact adV h
def am4 {Q:Int->World->Prop}(s:Sep F W w (fO r x::L))(h:∀w',Sep F W w' (fO r x::L)->Q (oE x.w x.h x.y cell goal) w'):mR (sZ r.p) 0 cell goal w Q:=by
 apply CE
 unfold oE at h
 refine aku s λw s=>?_
 by_cases hc:bE x.w x.h cell
 ·rw[decide_eq_true hc,Bool.not_true,cond_false]
  refine aku s λw s=>?_
  by_cases hg:bE x.w x.h goal
  ·rw[decide_eq_true hg,Bool.not_true,cond_false]
   rw[if_neg λe=>e ⟨hc,hg⟩]at h
   obtain⟨hok,so⟩:=qJ s
   refine ah (lP so 0 rfl ?_)
   apply AK (Fv (ai (ai so)))
   rw[hok.fl.who hc]
   by_cases hw:tV x.y.us cell=-1
   ·rw[wG hw,cond_false]
    rw[if_neg λe=>e hw]at h
    have s:=ay s
    have so:=ay so
    refine ah (lP so 0 rfl (ah (lI so 0 rfl ?_)))
    refine aax (ai so) ⟨dg so 0 rfl,?_⟩
    by_cases hl:(x.y.us.length:Int)≥x.y.most
    ·grind
    ·rw[bD hl]
     rw[if_neg hl]at h
     exact adV (h _ s)
   grind
  grind
 grind
def aie {y:sP}{mw mh:Int}(h:oE mw mh y cell goal=0):bE mw mh cell/\bE mw mh goal/\tV y.us cell=-1/\(y.us.length:Int)<y.most/\cell≠goal:=by
 unfold oE at h
 grind
def aja {us:List aL}{mw mh c:Int}(hm:nH mw mh us):tV us c=-1↔c∉us.map (·.cell):=by
 refine⟨λh e=>?_,D7⟩
 obtain⟨v,hv,rfl⟩:=List.mem_map.1 e
 rw[zS hm.nd hv]at h
 have:=hm.pos v hv
 omega
def WT {Q:Int->Int->World->Prop}(hn:x.y.next<1000000000)(s:Sep F W w (fO r x::L))
  (FR:oE x.w x.h x.y cell goal≠0->∀w',Sep F W w' (fO r x::L)->Q (-1) (oE x.w x.h x.y cell goal) w')
  (hok:oE x.w x.h x.y cell goal=0->∀r' FU w',r'.p=r.p->Sep F W w' (fO r' ⟨x.w,x.h,KY x.y cell goal,FU⟩::L)->Q x.y.next 0 w'):vF (sZ r.p) cell goal w Q:=by
 apply Ll
 refine mz (am4 s λw s=>?_)
 by_cases h0:oE x.w x.h x.y cell goal=0
 ·rw[wG h0,cond_false]
  obtain⟨hc,hg,hw,hl,hne⟩:=aie h0
  obtain⟨ok,s⟩:=qJ s
  refine ah (lP s 0 rfl ?_)
  have C2:=(uk (ai s)).1
  have PF:=C2.Pu
  have s:=pk 3 [1,0,2] s
  refine aaR s hn hl λur w eu s=>?_
  refine ah (lP s 1 rfl ?_)
  have s:=pk 3 [2,1,0] s
  have hfree:zJ x.ws cell=true:=by rw[ok.fl.free hc,hw];rfl
  refine L_ s (by omega) (λe=>by grind) λ_ fA w s=>?_
  have hno:=(aja ok.may).1 hw
  have hmay:=ai_ (u:=⟨x.y.next,cell,goal⟩) ok.may (λv hv=>(C2.jR v hv).2) PF.1 hc hg hno
  have s:=fT (A:=[_,_,_]) (B:=[av r.p 125 (yT ⟨r.p,ur,{r.fl with fA:=fA}⟩ ⟨x.w,x.h,KY x.y cell goal,x.ws.set cell.toNat (x.y.next+1)⟩),_,_]) [1,2,0] s (by unfold yT;rw[eu];rfl) (by decide)
  refine hok h0 ⟨r.p,ur,{r.fl with fA:=fA}⟩ _ w rfl (xu s ⟨hmay,am2 hmay (by rw[List.append_nil];exact ok.fl)⟩)
 grind
def am5 {done us:List aL}{u:aL}(h:((done++u::us).map (·.id)).Pairwise (·<·)):(∀v∈done,¬v.id=u.id)/\∀v∈us,¬v.id=u.id:=by
 rw[List.map_append,List.map_cons,List.pairwise_append,List.pairwise_cons]at h
 refine⟨λv hv e=>?_,λv hv e=>?_⟩
 ·have:=h.2.2 v.id (List.mem_map.2 ⟨v,hv,rfl⟩) u.id (List.mem_cons_self ..)
  omega
 ·have:=h.2.1.1 v.id (List.mem_map.2 ⟨v,hv,rfl⟩)
  omega
def Y2 {done us:List aL}{u:aL}(h:((done++u::us).map (·.id)).Pairwise (·<·)):((done++u::us).filter λv=>!decide (v.id=u.id))=done++us:=by
 obtain⟨h1,h2⟩:=am5 h
 rw[List.filter_append,List.filter_cons,decide_eq_true rfl,List.filter_eq_self.2 λv hv=>?_,List.filter_eq_self.2 λv hv=>?_]
 all_goals grind
theorem ahg {done us:List aL}{u:aL}{f:aL->aL}(h:((done++u::us).map (·.id)).Pairwise (·<·)):((done++u::us).map λv=>if v.id=u.id then f v else v)=done++f u::us:=by
 obtain⟨h1,h2⟩:=am5 h
 have e:∀l:List aL,(∀v∈l,¬v.id=u.id)->(l.map λv=>if v.id=u.id then f v else v)=l:=λl hl=>by
  have:=List.map_congr_left (f:=λv=>if v.id=u.id then f v else v) (g:=id) λv hv=>if_neg (hl v hv)
  rw[this,List.map_id]
 simp_all
def aaY {us:List aL}{u:aL}(h:gC us id=some u):u.id=id/\∃done rest,us=done++u::rest:=by
 have h1:=List.find?_some h
 have h2:=List.mem_of_find?_eq_some h
 exact⟨of_decide_eq_true h1,List.append_of_mem h2⟩
def Y3 {done us:List aL}{u:aL}(h:((done++u::us).map (·.id)).Pairwise (·<·)):gC (done++u::us) u.id=some u:=
 V4 h (by rw[List.getElem?_append_right (Nat.le_refl _),Nat.sub_self];rfl)
def D8 {Q:World->Prop}{done us:List aL}{u:aL}(hu:x.y.us=done++u::us)(s:Sep F W w (fO r x::L))
  (h:∀r' FU w',r'.p=r.p->Sep F W w' (fO r' ⟨x.w,x.h,⟨x.y.most,x.y.next,done++us⟩,FU⟩::L)->Q w'):nu (sZ r.p) u.id u.cell u.goal w Q:=by
 apply M9
 obtain⟨ok,s⟩:=qJ s
 have hmay:=ok.may
 have hfl:=ok.fl
 rw[hu]at hmay hfl
 have akv:=hmay.at_ u (by simp)
 have C2:=(uk (ai s)).1
 have hru:=C2.jR u (by rw[hu];simp)
 have PF:=C2.Pu
 refine aT s λub w s=>?_
 have s:=ay s
 refine ah (lP s 1 rfl (lI s 0 rfl ?_))
 have s:=pk 4 [2,0,1,3] s
 refine YX (by unfold ir;omega) s (by rw[hu,Y3 hmay.ids];rfl) λur w eu s=>?_
 have s:=ay s
 refine ah (lP s 2 rfl (lI s 1 rfl ?_))
 have ed:kK x.y u.id=⟨x.y.most,x.y.next,done++us⟩:=by
  rw[kK,hu,Y2 hmay.ids]
 rw[ed]at s
 have s:=pk 4 [3,0,2] s
 have ao3:=zS hmay.nd (u:=u) (by simp)
 have BC:=hmay.sub (us':=done++us) (List.Sublist.append_left (List.sublist_cons_self _ _) _)
 refine Kn s (λe=>?_) λ_ fA w s=>?_
 ·rw[hfl.who akv.1,ao3]at e
  omega
 ·have s:=fT (A:=[_,_,_]) (B:=[av r.p 125 (yT ⟨r.p,ur,{r.fl with fA:=fA}⟩ ⟨x.w,x.h,⟨x.y.most,x.y.next,done++us⟩,x.ws.set u.cell.toNat 0⟩),_,_]) [2,1,0] s (by unfold yT;rw[eu];rfl) (by decide)
  refine h ⟨r.p,ur,{r.fl with fA:=fA}⟩ _ w rfl (xu s ⟨BC,ai9 hmay hfl⟩)
def aaZ {Q:Int->World->Prop}(hc:bE x.w x.h cell)(s:Sep F W w (fO r x::L))(h:Q (tV x.y.us cell) w):x6 (sZ r.p) cell w Q:=by
 apply Ou
 obtain⟨ok,so⟩:=qJ s
 refine mz (ah (lP so 0 rfl ?_))
 apply AK (Fv (ai (ai so)))
 rw[ok.fl.who hc]
 exact h
def C3 {Q:Option Addr->Nat->Nat->World->Prop}(s:Sep F W w (fO r x::L))(h:∀a n c w',Sep F W w' (aj a n c 43 3 (flat g8 x.y.us)::fO r x::L)->Q a n c w'):mQ (sZ r.p) w Q:=by
 apply LB
 obtain⟨ok,s⟩:=qJ s
 refine mz (ah (lP s 0 rfl ?_))
 refine aaT (jN s) λa n c w s=>?_
 have s:=pk 4 [2,1,3,0] s
 exact h a n c w (cz (xu s ok) (List.Perm.swap _ _ _))
def Rz {Q:Int->World->Prop}(ze:ir id)(s:Sep F W w (fO r x::L))(h12:gC x.y.us id=none->∀w',Sep F W w' (fO r x::L)->Q 12 w')
  (h7:∀u,gC x.y.us id=some u->¬bE x.w x.h goal->∀w',Sep F W w' (fO r x::L)->Q 7 w')
  (h13:∀u,gC x.y.us id=some u->bE x.w x.h goal->u.cell=goal->∀r' FU w',r'.p=r.p->Sep F W w' (fO r' ⟨x.w,x.h,kK x.y id,FU⟩::L)->Q 13 w')
  (h0:∀u,gC x.y.us id=some u->bE x.w x.h goal->u.cell≠goal->∀r' FU w',r'.p=r.p->Sep F W w' (fO r' ⟨x.w,x.h,vg x.y id λu=>⟨u.id,u.cell,goal⟩,FU⟩::L)->Q 0 w'):r9 (sZ r.p) id goal w Q:=by
 apply IC
 obtain⟨ok,s⟩:=qJ s
 refine mz (ah (lP s 0 rfl ?_))
 have cl:∀{w:World} {A:As},Sep F W w (A::vu r.un x.y::av r.p 125 (yT r x)::uN r.fl x.ws::L)->Sep F W w (fO r x::A::L):=λs=>xu (pk 4 [2,1,3,0] s) ok
 refine rU (jN s) ze (λhn w s=>?_) λu hu w s=>?_
 ·refine a_ s λp w s=>?_
  refine sT s 0 rfl λw s=>?_
  refine sT s 0 rfl λw s=>?_
  refine sT s 0 rfl λw s=>?_
  exact h12 hn w (ai (cz (cl s) (List.Perm.swap _ _ _)))
 ·obtain⟨eid,done,rest,Gk⟩:=aaY hu
  have hmay:=ok.may
  rw[Gk]at hmay
  refine a_ s λp w s=>?_
  refine sT s 0 rfl λw s=>?_
  refine sT s 0 rfl λw s=>?_
  refine ax s (i:=0) rfl rfl rfl λw s=>?_
  refine aku (cl s) λw s=>?_
  by_cases hg:bE x.w x.h goal
  ·rw[decide_eq_true hg,Bool.not_true,cond_false]
   apply lI s 1 rfl
   apply am3
   by_cases hcg:u.cell=goal
   ·rw[if_pos hcg]
    refine lI s 1 rfl (lI s 1 rfl (lI s 1 rfl ?_))
    refine D8 Gk s λr' FU w e s=>?_
    apply h13 u hu hg hcg r' FU w e
    have ed:kK x.y id=⟨x.y.most,x.y.next,done++rest⟩:=by
     rw[kK,<-eid,Gk,Y2 hmay.ids]
    rw[ed]
    exact ai (jN s)
   ·rw[if_neg hcg]
    obtain⟨ok,s⟩:=qJ s
    rw[wG rfl,cond_false]
    refine ah (lP s 0 rfl ?_)
    have s:=pk 4 [1,0,2] s
    refine aaS ze s (λhn=>by rw[hn]at hu;cases hu) λ_ ur w eu s=>?_
    have s:=fT (A:=[_,_,_]) (B:=[av r.p 125 (yT ⟨r.p,ur,r.fl⟩ ⟨x.w,x.h,vg x.y id λu=>⟨u.id,u.cell,goal⟩,x.ws⟩),_,_]) [1,0,2] s (by unfold yT;rw[eu];rfl) (by decide)
    have eT:(vg x.y id λu=>⟨u.id,u.cell,goal⟩).us=done++⟨u.id,u.cell,goal⟩::rest:=by
     rw[vg,Gk,<-eid]
     exact ahg hmay.ids
    have hu1:=hmay.at_ u (by simp)
    have hnd:=hmay.nd
    rw[List.map_append,List.map_cons,List.nodup_append,List.nodup_cons]at hnd
    have BC:nH x.w x.h (done++⟨u.id,u.cell,goal⟩::rest):=hmay.Vw rfl hu1.1 hg (by
     rw[List.map_append,List.mem_append]
     exact λq=>q.elim (λq=>hnd.2.2 _ q _ (List.mem_cons_self ..) rfl) hnd.2.1.1)
    refine h0 u hu hg hcg ⟨r.p,ur,r.fl⟩ x.ws w rfl (xu s ⟨?_,ok.fl.len,λc hc=>?_⟩)
    ·rw[eT]
     exact BC
    ·rw[eT,ok.fl.at_ c hc,Gk]
     congr 1
     by_cases e:c=u.cell
     ·rw[e,zS hmay.nd (by simp),zS (u:=⟨u.id,u.cell,goal⟩) BC.nd (by simp)]
     ·refine Y1 hmay.nd BC.nd λv hv=>?_
      have:∀z:aL,z.cell=u.cell->v≠z:=λz hz q=>e (by rw[<-hv,q,hz])
      simp[this u rfl,this ⟨u.id,u.cell,goal⟩ rfl]
  ·rw[decide_eq_false hg,Bool.not_false,cond_true]
   exact h7 u hu hg w (ai (jN s))
def Tn {Q:Int->World->Prop}(ze:ir id)(s:Sep F W w (fO r x::L))(h12:gC x.y.us id=none->∀w',Sep F W w' (fO r x::L)->Q 12 w')
  (h0:∀u,gC x.y.us id=some u->∀r' FU w',r'.p=r.p->Sep F W w' (fO r' ⟨x.w,x.h,kK x.y id,FU⟩::L)->Q 0 w'):tf (sZ r.p) id w Q:=by
 apply I_
 obtain⟨ok,s⟩:=qJ s
 refine mz (ah (lP s 0 rfl ?_))
 have cl:∀{w:World} {A:As},Sep F W w (A::vu r.un x.y::av r.p 125 (yT r x)::uN r.fl x.ws::L)->Sep F W w (fO r x::A::L):=λs=>xu (pk 4 [2,1,3,0] s) ok
 refine rU (jN s) ze (λhn w s=>?_) λu hu w s=>?_
 ·refine a_ s λp w s=>?_
  refine sT s 0 rfl λw s=>?_
  refine sT s 0 rfl λw s=>?_
  refine sT s 0 rfl λw s=>?_
  exact h12 hn w (ai (cz (cl s) (List.Perm.swap _ _ _)))
 ·obtain⟨eid,done,rest,Gk⟩:=aaY hu
  have hmay:=ok.may
  rw[Gk]at hmay
  refine a_ s λp w s=>?_
  refine sT s 0 rfl λw s=>?_
  refine sT s 0 rfl λw s=>?_
  refine ax s (i:=0) rfl rfl rfl λw s=>?_
  refine lI s 0 rfl (lI s 0 rfl (lI s 0 rfl ?_))
  refine D8 Gk (cl s) λr' FU w e s=>?_
  apply h0 u hu r' FU w e
  have ed:kK x.y id=⟨x.y.most,x.y.next,done++rest⟩:=by
   rw[kK,<-eid,Gk,Y2 hmay.ids]
  rw[ed]
  exact ai (jN s)
end
def azs:zc T 51=[ae 0,ae 0]:=rfl
def Hu (w h:Int)(y:sP)(ds:List Int):sP:=⟨y.most,y.next,(cN w h [] (y.us.zip ds)).1⟩
section
variable {F:Nat->Prop}{W w w0:World}{L:List As}{r:CrR}{x:Gp}{da ma ga ta:Option Addr}{dn dc mn mc gn gc tn tc i mb ub:Nat}{ds:List Int}{tm:Int}
def ao4 {P7:Option Addr->Option Addr->Nat->Nat->Option Addr->Nat->Nat->Option Addr->Nat->Nat->Int->Int->World->Prop}{Q:Option Addr->Nat->Nat->Option Addr->Nat->Nat->Int->World->Prop}{done us:List aL}{u:aL}{d:Int}(hi:i<=1000000000)
  (hu:x.y.us=done++u::us)(hb:mP x.w x.h (done++u::us) u d=true)(s:Sep F W w (av ub 43 (g8 u)::av mb 51 (k9 (u.id,aY x.w x.h u.cell d))::fO r x::L))
  (next:∀r' FU w',r'.p=r.p->Sep F W w' (fO r' ⟨x.w,x.h,⟨x.y.most,x.y.next,(done++kZ x.w x.h u d)++us⟩,FU⟩::L)->P7 (sZ r.p) ma mn mc ga gn gc ta tn tc tm ((i+1:Nat):Int) w'):
  lG P7 Q (sZ r.p) ma mn mc ga gn gc (aZ mb) (aZ ub) ta tn tc tm i w:=by
 rw[lG,KZ hi]
 refine lI s 1 rfl (lI s 0 rfl ?_)
 unfold kZ at next
 have hto:=ahc hb
 obtain⟨_,hnot⟩:=acN.1 hb
 generalize aY x.w x.h u.cell d=to at*
 by_cases hg:to=u.goal
 ·rw[dJ hg,cond_true]
  refine lI s 0 rfl (lI s 0 rfl (lI s 0 rfl ?_))
  refine D8 hu (pk 3 [2] s) λr' FU w e s=>?_
  apply next r' FU w e
  simp_all
 ·rw[cM hg,cond_false]
  rw[if_neg hg]at next
  have s:=ay s
  obtain⟨ok,s⟩:=qJ (pk 3 [2,0,1] s)
  have hmay:=ok.may
  have hfl:=ok.fl
  rw[hu]at hmay hfl
  have akv:=hmay.at_ u (by simp)
  have C2:=(uk (ai s)).1
  have hru:=C2.jR u (by rw[hu];simp)
  have PF:=C2.Pu
  have ao3:=zS hmay.nd (u:=u) (by simp)
  refine ah (lP s 0 rfl (lI s 3 rfl (lI s 4 rfl ?_)))
  have s:=pk 5 [2,0,1,3,4] s
  have hw1:BE x.ws u.cell=u.id:=by rw[hfl.who akv.1,ao3]
  have hfree:zJ x.ws to=true:=by rw[hfl.free hto,D7 hnot];rfl
  refine WL s (λe=>?_) λ_ _ fA w s=>?_
  ·rw[hw1,hfree]at e
   rcases e with e|e
   ·omega
   ·cases e
  ·have s:=ay s
   refine ah (lP s 1 rfl (lI s 4 rfl (lI s 4 rfl ?_)))
   have s:=pk 5 [2,0,1] s
   refine YV (by unfold ir;omega) s (λhn=>?_) λ_ ur w eu s=>?_
   ·rw[hu,Y3 hmay.ids]at hn
    cases hn
   ·have eT:(vg x.y u.id λu=>⟨u.id,to,u.goal⟩)=⟨x.y.most,x.y.next,(done++[⟨u.id,to,u.goal⟩])++us⟩:=by
     rw[vg,hu,ahg hmay.ids,List.append_assoc]
     rfl
    rw[eT,hw1]at s
    have BC:nH x.w x.h (done++⟨u.id,to,u.goal⟩::us):=hmay.Vw rfl hto akv.2 λq=>hnot (by
     rw[List.map_append,List.mem_append]at q⊢
     exact q.imp id λq=>by rw[List.map_cons];exact List.mem_cons_of_mem _ q)
    have s:=fT (A:=[_,_,_]) (B:=[av r.p 125 (yT ⟨r.p,ur,{r.fl with fA:=fA}⟩ ⟨x.w,x.h,⟨x.y.most,x.y.next,(done++[⟨u.id,to,u.goal⟩])++us⟩,(x.ws.set u.cell.toNat 0).set to.toNat (u.id+1)⟩),_,_]) [2,0,1] s (by unfold yT;rw[eu];rfl) (by decide)
    refine next ⟨r.p,ur,{r.fl with fA:=fA}⟩ _ w rfl (xu s ⟨?_,?_⟩)
    ·rw[List.append_assoc]
     exact BC
    ·rw[List.append_assoc]
     exact am2 BC (ai9 hmay hfl)
def Y4 {Q:Option Addr->Nat->Nat->Option Addr->Nat->Nat->Int->World->Prop}(hD:∀w',Sep F W w' L->Sl w' da dn dc 1 one ds)(hlen:ds.length=x.y.us.length)(hr:∀d∈ds,0<=d/\d<=5)(s:Sep F W w (fO r x::L))
  (h:∀r' FU ma mn mc ga gn gc w',r'.p=r.p->Sep F W w' (aj ma mn mc 51 2 (flat k9 (cN x.w x.h [] (x.y.us.zip ds)).2.1)::aj ga gn gc 3 1 (flat one (cN x.w x.h [] (x.y.us.zip ds)).2.2)::fO r' ⟨x.w,x.h,Hu x.w x.h x.y ds,FU⟩::L)->Q ma mn mc ga gn gc 0 w'):
  w8 (sZ r.p) da dn dc w Q:=by
 apply Nl
 have s:=ay s
 obtain⟨ok,so⟩:=qJ s
 have C2:=(uk (ai so)).1
 have m6:=C2.nF
 have V3:=C2.most
 refine mz (ah (lI so 0 rfl (ah (lI so 0 rfl ?_))))
 refine C3 s λua un uc w s=>?_
 obtain⟨_,so⟩:=qJ (ai s)
 refine⟨dg so 0 rfl,dg so 0 rfl,?_⟩
 have hU:=aK s (i:=0) rfl BL (by decide)
 have hun:=hU.len
 have awd:(x.y.us.zip ds).map (·.1)=x.y.us:=by
  rw[List.map_fst_zip]
  omega
 have hml:=(MJ (w:=x.w) (h:=x.h) (x.y.us.zip ds) []).2
 rw[List.length_zip]at hml
 refine acO s hU (hD _ (ai (ai s))) hlen (by omega) hr ok.may λaa an ac ma mn mc ga gn gc w s _=>?_
 have s:=pk 4 [3,0,1] s
 have hmn:=(aK s (i:=1) rfl Ih (by decide)).len
 have loop:∀(j i:Nat) (r':CrR) (x':Gp) (done:List aL) (todo:List (aL×Int)) (w:World),i+j=mn->r'.p=r.p->x'.w=x.w->x'.h=x.h->x'.y=⟨x.y.most,x.y.next,done++todo.map (·.1)⟩->(cN x.w x.h done todo).2.1=(cN x.w x.h [] (x.y.us.zip ds)).2.1.drop i->(cN x.w x.h done todo).1=(cN x.w x.h [] (x.y.us.zip ds)).1->
   Sep F W w (fO r' x'::aj ma mn mc 51 2 (flat k9 (cN x.w x.h [] (x.y.us.zip ds)).2.1)::aj ga gn gc 3 1 (flat one (cN x.w x.h [] (x.y.us.zip ds)).2.2)::L)->
   pz Q (j+1) (sZ r.p) ma mn mc ga gn gc ma mn mc (mn:Int) i w:=by
  intro j
  induction j with
  |zero=>
   intro i r' x' done todo w hij er ew eh ey e1 e2 s
   show pe _ _ _ _ _ _ _ _ _ _ _ _ _ _ _
   rw[pe,bD]
   rw[List.drop_eq_nil_of_le (by omega)]at e1
   have e3:=aaV _ _ e1
   obtain⟨w1,h1,y1,ws1⟩:=x'
   subst ew eh ey
   apply h r' ws1 ma mn mc ga gn gc w er
   rw[Hu,<-e2,e3]
   exact pk 3 [1,2,0] s
  |succ j ih=>
   intro i r' x' done todo w hij er ew eh ey e1 e2 s
   show pe _ _ _ _ _ _ _ _ _ _ _ _ _ _ _
   rw[pe,bY]
   refine(aK s (i:=1) rfl Ih (by decide)).El rfl (by omega) λp m hm hc=>?_
   have hdr:(cN x.w x.h [] (x.y.us.zip ds)).2.1.drop i=m::(cN x.w x.h [] (x.y.us.zip ds)).2.1.drop (i+1):=by
    obtain⟨hlt,e⟩:=List.getElem?_eq_some_iff.1 hm
    rw[List.drop_eq_getElem_cons hlt,e]
   rw[hdr]at e1
   obtain⟨done',u,d,rest,hb,hsp,em,e3,e4⟩:=aaW _ _ e1
   have Gk:x'.y.us=done'++u::rest.map (·.1):=by rw[ey,hsp]
   rw[<-ew,<-eh]at hb em
   refine aP (hc 0 _ rfl) (aP (hc 1 _ rfl) ?_)
   refine a_ s λmb w s=>?_
   refine sT s 0 rfl λw s=>?_
   refine ax s (i:=0) rfl rfl rfl λw s=>?_
   have s:=s
   rw[<-er]
   obtain⟨ok',s⟩:=qJ (pk 4 [1,0,2,3] s)
   have s:=ay s
   have azt:=(uk (ai s)).1.jR u (by rw[Gk];simp)
   have azu:=(uk (ai s)).1.Pu
   have hgu:gC x'.y.us m.1=some u:=by
    have:=ok'.may.ids
    rw[Gk]at this
    rw[Gk,em]
    exact Y3 this
   have ze:ir m.1:=by rw[em];unfold ir;show _<=u.id/\u.id<_;omega
   have go:∀{ub:Nat} {w:World},Sep F W w (av ub 43 (g8 u)::av mb 51 (k9 m)::fO r' x'::aj ma mn mc 51 2 (flat k9 (cN x.w x.h [] (x.y.us.zip ds)).2.1)::aj ga gn gc 3 1 (flat one (cN x.w x.h [] (x.y.us.zip ds)).2.2)::L)->
     lG (pz Q (j+1)) Q (sZ r'.p) ma mn mc ga gn gc (aZ mb) (aZ ub) ma mn mc (mn:Int) i w:=λ{ub w} s=>by
    rw[em]at s
    refine ao4 (by omega) Gk hb s λr2 ws2 w e5 s=>?_
    rw[er]
    refine ih (i+1) r2 ⟨x'.w,x'.h,⟨x'.y.most,x'.y.next,(done'++kZ x'.w x'.h u d)++rest.map (·.1)⟩,ws2⟩ (done'++kZ x.w x.h u d) rest w (by omega) (e5.trans er) ew eh ?_ e3 (e4.trans e2) s
    rw[ew,eh,ey]
   refine ah (lP s 0 rfl (lI s 3 rfl ⟨?_,?_⟩))
   ·have s:=jN s
    refine rU s ze (λhn=>by rw[hn]at hgu;cases hgu) λv hv w s=>?_
    rw[hgu]at hv
    cases hv
    refine a_ s λub w s=>?_
    refine⟨dg s 4 rfl,dg s 2 rfl,?_⟩
    refine sT s 0 rfl λw s=>?_
    refine sT s 0 rfl λw s=>?_
    refine ax s (i:=0) rfl rfl rfl λw s=>?_
    have s:=xu (pk 7 [2,1,3,0,4,5,6] s) ok'
    exact go (pk 5 [1,2,0,3,4] s)
   ·refine a_ s λub w s=>?_
    refine⟨dg s 4 rfl,dg s 1 rfl,?_⟩
    have s:=pk 7 [2,0,1,3,4,5,6] s
    refine rU s ze (λhn=>by rw[hn]at hgu;cases hgu) λv hv w s=>?_
    rw[hgu]at hv
    cases hv
    refine sT s 1 rfl λw s=>?_
    refine sT s 1 rfl λw s=>?_
    refine ax s (i:=1) rfl rfl rfl λw s=>?_
    have s:=xu (pk 7 [2,0,3,1,4,5,6] s) ok'
    exact go (pk 5 [1,2,0,3,4] s)
 exact⟨mn+1,loop mn 0 r x [] (x.y.us.zip ds) w (by omega) rfl rfl rfl (by rw[awd];rfl) rfl rfl s⟩
end
end Go.Proofs.YtmegplnmiepfbaaGreatDoor.S
namespace Go.Proofs.YtmegplnmiepfbaaGreatDoor.S
open Go.Sx
abbrev zT:=List (Int×List (Int×List Int))
def yU (s id:Int):List (Int×List Int)->List (Int×List Int)
 |[]=>[(s,[id])]
 |q::r=>if q.1=s then(s,q.2++[id])::r else q::yU s id r
def pU (g s id:Int):zT->zT
 |[]=>[(g,[(s,[id])])]
 |q::r=>if q.1=g then(g,yU s id q.2)::r else q::pU g s id r
def RA (w h:Int)(st:zT)(u:aL):zT:=pU u.goal (aB w h u.cell) u.id st
def aa0 (w h:Int)(us:List aL):zT:=us.foldl (RA w h) []
structure FV where
 g:Int
 s:Int
 ids:List Int
def Cs (st:zT):List FV:=st.flatMap λq=>q.2.map λp=>⟨q.1,p.1,p.2⟩
def mq (w h:Int)(us:List aL):List FV:=Cs (aa0 w h us)
section
variable {g s d w h:Int}{st:zT}{us:List aL}
def ao5 {p1 p2:List (Int×List Int)}{ids:List Int}(hn:s∉p1.map (·.1)):yU s d (p1++(s,ids)::p2)=p1++(s,ids++[d])::p2:=by
 induction p1 with
 |nil=>simp[yU]
 |cons q p1 ih=>
  rw[List.map_cons,List.mem_cons,not_or]at hn
  rw[List.cons_append,yU,if_neg (λe=>hn.1 e.symm),ih hn.2]
  rfl
def ao6 {l:List (Int×List Int)}(hn:s∉l.map (·.1)):yU s d l=l++[(s,[d])]:=by
 induction l with
 |nil=>rfl
 |cons q p1 ih=>
  rw[List.map_cons,List.mem_cons,not_or]at hn
  rw[List.cons_append,yU,if_neg (λe=>hn.1 e.symm),ih hn.2]
def ahh {g1 g2:zT}{l:List (Int×List Int)}(hn:g∉g1.map (·.1)):pU g s d (g1++(g,l)::g2)=g1++(g,yU s d l)::g2:=by
 induction g1 with
 |nil=>simp[pU]
 |cons q p1 ih=>
  rw[List.map_cons,List.mem_cons,not_or]at hn
  rw[List.cons_append,pU,if_neg (λe=>hn.1 e.symm),ih hn.2]
  rfl
def ao7 (hn:g∉st.map (·.1)):pU g s d (st++[(g,[])])=pU g s d st:=by
 induction st with
 |nil=>simp[pU,yU]
 |cons q p1 ih=>
  rw[List.map_cons,List.mem_cons,not_or]at hn
  rw[List.cons_append,pU,if_neg (λe=>hn.1 e.symm),ih hn.2,pU,if_neg (λe=>hn.1 e.symm)]
def akw:(pU g s d st).map (·.1)=if g∈st.map (·.1)then st.map (·.1)else st.map (·.1)++[g]:=by
 induction st with
 |nil=>rfl
 |cons q p1 ih=>
  rw[pU]
  grind
def RB (us:List aL):(aa0 w h us).map (·.1)=sS us:=by
 have:∀(us:List aL) (st:zT),(us.foldl (RA w h) st).map (·.1)=us.foldl DD (st.map (·.1)):=by
  intro us
  induction us with
  |nil=>intro st;rfl
  |cons u us ih=>
   intro st
   rw[List.foldl_cons,List.foldl_cons,ih]
   congr 1
   exact akw
 exact this us []
def Y5 {l:List (Int×List Int)}{x i:Int}:(∃p∈yU s d l,p.1=x/\i∈p.2)↔(x=s/\i=d)\/∃p∈l,p.1=x/\i∈p.2:=by
 induction l with
 |nil=>
  simp[yU,List.mem_singleton,exists_eq_left,List.not_mem_nil,false_and,exists_false,or_false]
  grind
 |cons q l ih=>
  rw[yU]
  split
  ·rename_i e
   subst e
   constructor
   ·grind
   ·rintro (⟨rfl,rfl⟩|⟨p,hp,e1,e2⟩)
    ·simp_all
    ·rcases List.mem_cons.1 hp with rfl|hp
     ·simp_all
     grind
  grind
def inG (st:zT)(g s i:Int):Prop:=∃q∈st,q.1=g/\∃p∈q.2,p.1=s/\i∈p.2
def ao8 {x y i:Int}:inG (pU g s d st) x y i↔(x=g/\y=s/\i=d)\/inG st x y i:=by
 unfold inG
 induction st with
 |nil=>
  simp[pU,List.mem_singleton,exists_eq_left,List.not_mem_nil,false_and,exists_false,or_false]
  grind
 |cons q st ih=>
  rw[pU]
  split
  ·rename_i e
   subst e
   constructor
   ·rintro ⟨p,hp,e1,e2⟩
    rcases List.mem_cons.1 hp with rfl|hp
    ·rcases Y5.1 e2 with⟨e3,e4⟩|e2
     all_goals grind
    grind
   ·rintro (⟨rfl,e3,e4⟩|⟨p,hp,e1,e2⟩)
    ·exact⟨_,List.mem_cons_self ..,rfl,Y5.2 (.inl ⟨e3,e4⟩)⟩
    ·rcases List.mem_cons.1 hp with rfl|hp
     ·exact⟨_,List.mem_cons_self ..,e1,Y5.2 (.inr e2)⟩
     grind
  ·constructor
   ·rintro ⟨p,hp,e1,e2⟩
    rcases List.mem_cons.1 hp with rfl|hp
    ·grind
    ·exact(ih.1 ⟨p,hp,e1,e2⟩).imp id λ⟨p,hp,e⟩=>⟨p,List.mem_cons_of_mem _ hp,e⟩
   ·rintro (h|⟨p,hp,e1,e2⟩)
    ·simp_all
    ·rcases List.mem_cons.1 hp with rfl|hp
     ·grind
     ·obtain⟨p,hp,e⟩:=ih.2 (.inr ⟨p,hp,e1,e2⟩)
      grind
def ao9 {x y i:Int}:inG (aa0 w h us) x y i↔∃u∈us,u.goal=x/\aB w h u.cell=y/\u.id=i:=by
 have:∀(us:List aL) (st:zT),inG (us.foldl (RA w h) st) x y i↔inG st x y i\/∃u∈us,u.goal=x/\aB w h u.cell=y/\u.id=i:=by
  intro us
  induction us with
  |nil=>grind
  |cons u us ih=>
   intro st
   rw[List.foldl_cons,ih]
   rw[RA,ao8]
   grind
 have h0:¬inG [] x y i:=λ⟨q,hq,_⟩=>by cases hq
 unfold aa0
 grind
def VC {x y i:Int}:(∃p∈mq w h us,p.g=x/\p.s=y/\i∈p.ids)↔∃u∈us,u.goal=x/\aB w h u.cell=y/\u.id=i:=by
 rw[<-ao9]
 unfold mq Cs inG
 constructor
 ·rintro ⟨p,hp,e1,e2,e3⟩
  obtain⟨q,hq,hp⟩:=List.mem_flatMap.1 hp
  grind
 ·rintro ⟨q,hq,e1,z,hz,e2,e3⟩
  exact⟨⟨q.1,z.1,z.2⟩,List.mem_flatMap.2 ⟨q,hq,List.mem_map.2 ⟨z,hz,rfl⟩⟩,e1,e2,e3⟩
def ae_ (st:zT):Prop:=∀q∈st,∀p∈q.2,p.2≠[]
def am7 {l:List (Int×List Int)}(h:∀p∈l,p.2≠[]):∀p∈yU s d l,p.2≠[]:=by
 induction l with
 |nil=>intro p hp;simp[yU,List.mem_singleton]at hp;grind
 |cons q l ih=>
  intro p hp
  rw[yU]at hp
  split at hp
  ·rcases List.mem_cons.1 hp with rfl|hp
   ·simp
   ·exact h p (List.mem_cons_of_mem _ hp)
  grind
def am8 (h:ae_ st):ae_ (pU g s d st):=by
 induction st with
 |nil=>
  intro q hq p hp
  simp[pU,List.mem_singleton]at hq
  grind
 |cons q st ih=>
  intro z hz
  rw[pU]at hz
  split at hz
  ·rcases List.mem_cons.1 hz with rfl|hz
   ·exact am7 (h q (List.mem_cons_self ..))
   ·exact h z (List.mem_cons_of_mem _ hz)
  ·rcases List.mem_cons.1 hz with rfl|hz
   ·exact h z (List.mem_cons_self ..)
   ·exact ih (λq hq=>h q (List.mem_cons_of_mem _ hq)) z hz
def ao_ (l:List (Int×List Int)):(yU s d l).length<=l.length+1:=by
 induction l with
 |nil=>exact Nat.le_refl _
 |cons q l ih=>
  rw[yU]
  grind
def Jt (q:Int×List (Int×List Int)):Cs (q::st)=(q.2.map λp=>⟨q.1,p.1,p.2⟩)++Cs st:=rfl
def apa (st:zT):(Cs (pU g s d st)).length<=(Cs st).length+1:=by
 induction st with
 |nil=>exact Nat.le_refl _
 |cons q st ih=>
  rw[pU]
  split
  ·rw[Jt,Jt,List.length_append,List.length_append,List.length_map,List.length_map]
   have:=ao_ (s:=s) (d:=d) q.2
   grind
  ·rw[Jt,Jt,List.length_append,List.length_append]
   omega
def adY (w h:Int)(us:List aL):(mq w h us).length<=us.length:=by
 have:∀(us:List aL) (st:zT),(Cs (us.foldl (RA w h) st)).length<=(Cs st).length+us.length:=by
  intro us
  induction us with
  |nil=>grind
  |cons u us ih=>
   intro st
   rw[List.foldl_cons,List.length_cons]
   have h1:=ih (RA w h st u)
   have h2:=apa (g:=u.goal) (s:=aB w h u.cell) (d:=u.id) st
   have h2:(Cs (RA w h st u)).length<=(Cs st).length+1:=h2
   omega
 have:=this us []
 have e:(Cs ([]:zT)).length=0:=rfl
 rw[e,Nat.zero_add]at this
 exact this
def akx {p:FV}(hp:p∈mq w h us):p.ids≠[]:=by
 have:∀(us:List aL) (st:zT),ae_ st->ae_ (us.foldl (RA w h) st):=by
  intro us
  induction us with
  |nil=>grind
  |cons u us ih=>intro st h;exact ih _ (am8 h)
 obtain⟨q,hq,hp⟩:=List.mem_flatMap.1 hp
 obtain⟨z,hz,rfl⟩:=List.mem_map.1 hp
 exact this us [] (λq hq=>by cases hq) q hq z hz
def aky {p:FV}(hp:p∈mq w h us):∃u∈us,u.goal=p.g/\aB w h u.cell=p.s:=by
 have hf:=akx hp
 obtain⟨i,hi⟩:=List.exists_mem_of_ne_nil _ hf
 obtain⟨u,hu,e1,e2,_⟩:=VC.1 ⟨p,hp,rfl,rfl,hi⟩
 grind
end
end Go.Proofs.YtmegplnmiepfbaaGreatDoor.S
namespace Go.Proofs.YtmegplnmiepfbaaGreatDoor.S
open Go.Sx
attribute [local irreducible] af cw bq bg aC cf bX St Bx Al App cA cq cm bT aI bw aq bR av aj aV mapA
structure AT where
 a:Option Addr
 n:Nat
 c:Nat
def Sk (q:AT):Value:=.slice q.a q.n q.c
structure Ad where
 g:Int
 s:Int
 q:AT
 ids:List Int
def xS (p:Ad):List Value:=[ae p.g,ae p.s,.slice p.q.a p.q.n p.q.c]
def tY (p:Ad):(xS p).length=3:=rfl
def am9 (x:Ad)(u:Value)(h:u∈xS x):u.oneCell'=true:=by
 unfold xS at h
 simp[List.mem_cons,List.not_mem_nil,or_false]at h
 rcases h with rfl|rfl|rfl<;>rfl
def apb (p:Ad):As:=aj p.q.a p.q.n p.q.c 3 1 (flat one p.ids)
structure BR where
 g:Int
 q:AT
 ps:List Ad
def gpR (G:BR):As:=aj G.q.a G.q.n G.q.c 211 3 (flat xS G.ps)
def Ax (gs:List BR):As:=aV True (gs.map gpR)
def zU (ps:List Ad):As:=aV True (ps.map apb)
def jJ (gs:List BR):List Ad:=gs.flatMap (·.ps)
def EH (gs:List BR):zT:=gs.map λG=>(G.g,G.ps.map λp=>(p.s,p.ids))
def atT:P.underlying 180=some (.map 253 3):=by kernel_rfl
def ofT:P.underlying 252=some (.map 3 208):=by kernel_rfl
def atd (w:World):(zeroValue 208).run P w=.ok (Sk ⟨none,0,0⟩) w:=by kernel_rfl
section
variable {F:Nat->Prop}{W w w0:World}{L:List As}
def RC {A B:List As}{X:As}(s:Sep F W w (aV True (A++X::B)::L)):Sep F W w (X::aV True (A++B)::L):=by
 have s:=(iW s).2
 have s:=cz (L':=(A++B)++X::L) s (by
  rw[List.append_assoc,List.append_assoc,List.cons_append]
  exact List.Perm.append_left _ List.perm_middle.symm)
 have s:=dX s trivial
 exact jN s
def K1 {A B:List As}{X:As}(s:Sep F W w (X::aV True (A++B)::L)):Sep F W w (aV True (A++X::B)::L):=by
 have s:=(iW (jN s)).2
 refine dX ?_ trivial
 apply cz s
 rw[List.append_assoc,List.append_assoc,List.cons_append]
 exact List.Perm.append_left _ List.perm_middle
end
def gOf (ms:List (Int×AT))(g:Int):AT:=(e7 ms g).getD ⟨none,0,0⟩
structure MK (ms:List (Int×AT)) (m2:List ((Int×Int)×Int)) (gs:List BR):Prop where
 hk:nN ms
 HD:nN m2
 nd:(gs.map (·.g)).Nodup
 nds:∀G∈gs,(G.ps.map (·.s)).Nodup
 of_:∀G∈gs,gOf ms G.g=G.q
 no:∀g,g∉gs.map (·.g)->e7 ms g=none
 at1:∀g s k,e7 m2 (g,s)=some k->∃G∈gs,G.g=g/\0<=k/\(G.ps[k.toNat]?).map (·.s)=some s
 at2:∀G∈gs,∀p∈G.ps,(e7 m2 (G.g,p.s)).isSome=true
 pg:∀G∈gs,∀p∈G.ps,p.g=G.g
section
variable {F:Nat->Prop}{W w w0:World}{L:List As}{mw mh:Int}{mb Gq:Nat}{ms:List (Int×AT)}{m2:List ((Int×Int)×Int)}{gs g1 g2:List BR}{G:BR}
def aa1 {i:Nat}{g:Int}{K:Option Addr->Nat->Nat->World->Prop}(s:Sep F W w L)(hi:L[i]? =some (fy eX Sk mb ms))(hk:nN ms)(hg:ir g)(h:K (gOf ms g).a (gOf ms g).n (gOf ms g).c w):
  aI P (Instr.lookup 252 (.map (some mb)) (ae g) false) w λv w=>dS v λa n c=>K a n c w:=by
 unfold gOf at h
 refine Dz (K:=eX) ofT (atd w) s hi hk hg (λhn=>?_) λq hq=>?_
 ·rw[hn]at h
  exact h
 ·rw[hq]at h
  exact h
def MK.pairs {G':BR}(I:MK ms m2 (g1++G::g2))(eg:G'.g=G.g)(eq:G'.q=G.q)(es:G'.ps.map (·.s)=G.ps.map (·.s))(ep:∀p∈G'.ps,p.g=G.g):MK ms m2 (g1++G'::g2):=by
 have hm:∀X,X∈g1++G'::g2->X=G'\/X∈g1++G::g2:=λX hX=>by
  grind
 have hG:G∈g1++G::g2:=by simp
 have hs:∀k:Nat,(G'.ps[k]?).map (·.s)=(G.ps[k]?).map (·.s):=λk=>by rw[<-List.getElem?_map,<-List.getElem?_map,es]
 have D_:(g1++G'::g2).map (·.g)=(g1++G::g2).map (·.g):=by simp[eg]
 refine⟨I.hk,I.HD,by rw[D_];exact I.nd,λX hX=>?_,λX hX=>?_,λg hg=>I.no g (by grind),λg s k hk=>?_,λX hX p hp=>?_,λX hX p hp=>?_⟩
 ·rcases hm X hX with rfl|hX
  ·rw[es];exact I.nds G hG
  ·exact I.nds X hX
 ·rcases hm X hX with rfl|hX
  ·rw[eg,eq];exact I.of_ G hG
  ·exact I.of_ X hX
 ·obtain⟨X,hX,e1,e2,e3⟩:=I.at1 g s k hk
  grind
 ·rcases hm X hX with rfl|hX
  ·have:p.s∈X.ps.map (·.s):=List.mem_map.2 ⟨p,hp,rfl⟩
   rw[es]at this
   obtain⟨p',hp',e⟩:=List.mem_map.1 this
   rw[eg,<-e]
   exact I.at2 G hG p' hp'
  ·exact I.at2 X hX p hp
 ·rcases hm X hX with rfl|hX
  ·grind
  ·exact I.pg X hX p hp
def MK.add {ms':List (Int×AT)}{Xm:List ((Int×Int)×Int)}{p:Ad}{q:AT}(I:MK ms m2 (g1++G::g2))(hk:nN ms')(HD:nN Xm)(hm:∀g,e7 ms' g=if g=G.g then some q else e7 ms g)(BC:∀x,e7 Xm x=if x=(G.g,p.s)then some (G.ps.length:Int)else e7 m2 x)
  (ep:p.g=G.g)(hn:p.s∉G.ps.map (·.s)):MK ms' Xm (g1++⟨G.g,q,G.ps++[p]⟩::g2):=by
 have hG:G∈g1++G::g2:=by simp
 have D_:(g1++⟨G.g,q,G.ps++[p]⟩::g2).map (·.g)=(g1++G::g2).map (·.g):=by simp
 have hnd:=I.nd
 have hmem:∀X,X∈g1++(⟨G.g,q,G.ps++[p]⟩:BR)::g2->X=⟨G.g,q,G.ps++[p]⟩\/(X∈g1++G::g2/\X.g≠G.g):=λX hX=>by
  grind
 refine⟨hk,HD,by grind,λX hX=>?_,λX hX=>?_,λg hg=>?_,λg s k hs=>?_,λX hX x hx=>?_,λX hX x hx=>?_⟩
 ·rcases hmem X hX with rfl|⟨hX,_⟩
  ·rw[List.map_append,List.nodup_append]
   refine⟨I.nds G hG,by simp,λa ha b hb=>?_⟩
   grind
  ·exact I.nds X hX
 ·unfold gOf
  rcases hmem X hX with rfl|⟨hX,hne⟩
  ·grind
  ·rw[hm,if_neg hne];exact I.of_ X hX
 ·rw[D_]at hg
  rw[hm,if_neg λe=>hg (by rw[e];exact List.mem_map.2 ⟨G,hG,rfl⟩)]
  exact I.no g hg
 ·rw[BC]at hs
  by_cases e:(g,s)=(G.g,p.s)
  ·rw[if_pos e]at hs
   cases hs
   cases e
   refine⟨⟨G.g,q,G.ps++[p]⟩,by simp,rfl,Int.natCast_nonneg _,?_⟩
   simp
  ·rw[if_neg e]at hs
   obtain⟨X,hX,e1,e2,e3⟩:=I.at1 g s k hs
   rw[List.mem_append,List.mem_cons]at hX
   rcases hX with h|rfl|h
   ·exact⟨X,by simp[h],e1,e2,e3⟩
   ·refine⟨⟨X.g,q,X.ps++[p]⟩,by simp,e1,e2,?_⟩
    obtain⟨z,hz,_⟩:=Option.map_eq_some_iff.1 e3
    rw[List.getElem?_append_left (List.getElem?_eq_some_iff.1 hz).1]
    exact e3
   ·exact⟨X,by simp[h],e1,e2,e3⟩
 ·rw[BC]
  split
  ·rfl
  ·rename_i hne
   rcases hmem X hX with rfl|⟨hX,_⟩
   ·rcases List.mem_append.1 hx with hx|hx
    ·exact I.at2 G hG x hx
    ·rw[List.mem_singleton]at hx
     subst hx
     exact(hne rfl).elim
   ·exact I.at2 X hX x hx
 ·rcases hmem X hX with rfl|⟨hX,_⟩
  ·rcases List.mem_append.1 hx with hx|hx
   ·exact I.pg G hG x hx
   ·rw[List.mem_singleton.1 hx];exact ep
  ·exact I.pg X hX x hx
def MK.group (I:MK ms m2 gs)(g:Int):∃g1 G g2,G.g=g/\MK ms m2 (g1++G::g2)/\((gs=g1++G::g2)\/(gs=g1/\g2=[]/\G=⟨g,⟨none,0,0⟩,[]⟩/\g∉gs.map (·.g))):=by
 by_cases h:g∈gs.map (·.g)
 ·obtain⟨G,hG,rfl⟩:=List.mem_map.1 h
  obtain⟨g1,g2,rfl⟩:=List.append_of_mem hG
  grind
 ·refine⟨gs,⟨g,⟨none,0,0⟩,[]⟩,[],rfl,?_,.inr ⟨rfl,rfl,rfl,h⟩⟩
  have hm:∀X,X∈gs++[(⟨g,⟨none,0,0⟩,[]⟩:BR)]->X∈gs\/X=⟨g,⟨none,0,0⟩,[]⟩:=λX hX=>by grind
  refine⟨I.hk,I.HD,?_,λX hX=>?_,λX hX=>?_,λg' hg=>I.no g' λe=>hg (by grind),λg s k hs=>?_,λX hX x hx=>?_,λX hX x hx=>?_⟩
  ·rw[List.map_append,List.nodup_append]
   refine⟨I.nd,by simp,λa ha b hb=>?_⟩
   grind
  ·rcases hm X hX with hX|rfl
   ·exact I.nds X hX
   grind
  ·rcases hm X hX with hX|rfl
   ·exact I.of_ X hX
   ·rw[gOf,I.no g h]
    rfl
  ·obtain⟨X,hX,e⟩:=I.at1 g s k hs
   grind
  ·rcases hm X hX with hX|rfl
   ·exact I.at2 X hX x hx
   ·cases hx
  ·rcases hm X hX with hX|rfl
   ·exact I.pg X hX x hx
   ·cases hx
end
def Y6 {g1 g2:List BR}{g:Int}{q:AT}{p1 p2:List Ad}{p:Ad}:jJ (g1++⟨g,q,p1++p::p2⟩::g2)=(jJ g1++p1)++p::(p2++jJ g2):=by
 unfold jJ
 grind
def arh {α:Type}{p1 p2:List α}{p p':α}:(p1++p::p2).set p1.length p'=p1++p'::p2:=by grind
def ari {α:Type}{p1 p2:List α}{p:α}:(p1++p::p2)[p1.length]? =some p:=by grind
section
variable {F:Nat->Prop}{W w w0:World}{L T:List As}{mw mh:Int}{mb Gq ub:Nat}{ms:List (Int×AT)}{m2:List ((Int×Int)×Int)}{g1 g2:List BR}{g:Int}{q:AT}{p1 p2:List Ad}{p:Ad}{la ta:Option Addr}{ln lc tn tc i:Nat}{tm:Int}{u:aL}
def ad1 {P6:Int->Int->Option Addr->Nat->Nat->Option Nat->Option Nat->Option Addr->Nat->Nat->Int->Int->World->Prop}{Q:Option Addr->Nat->Nat->World->Prop}(hi:i<=1000000000)(hk:nN ms)(hq:gOf ms g=q)(hg:u.goal=g)(awe:ir g)(IP:p.ids.length<=1000000000)
  (s:Sep F W w (Ax (g1++⟨g,q,p1++p::p2⟩::g2)::zU (jJ (g1++⟨g,q,p1++p::p2⟩::g2))::fy eX Sk mb ms::fy Jn vI Gq m2::av ub 43 (g8 u)::T))
  (next:∀q' w',Sep F W w' (Ax (g1++⟨g,q,p1++⟨p.g,p.s,q',p.ids++[u.id]⟩::p2⟩::g2)::zU (jJ (g1++⟨g,q,p1++⟨p.g,p.s,q',p.ids++[u.id]⟩::p2⟩::g2))::fy eX Sk mb ms::fy Jn vI Gq m2::T)->P6 mw mh la ln lc (some mb) (some Gq) ta tn tc tm ((i+1:Nat):Int) w'):
  o9 P6 Q mw mh la ln lc (some mb) (some Gq) (aZ ub) (p1.length:Int) ta tn tc tm i w:=by
 rw[o9,KZ hi]
 apply lI s 4 rfl
 rw[hg]
 apply aa1 s (i:=2) rfl hk awe
 rw[hq]
 rw[Y6]at s
 unfold Ax zU at s
 rw[List.map_append,List.map_cons,List.map_append,List.map_cons]at s
 have s:=RC s
 have s:=pk 6 [2,0,1,3,4,5] s
 have s:=RC s
 have s:=s
 have hpn:=(aK s (i:=0) rfl ct (by decide)).len
 have hqn:=(aK s (i:=2) rfl tY (by decide)).len
 simp[List.length_append,List.length_cons]at hqn
 refine BW s (i:=2) rfl rfl (by omega) λb o ea=>?_
 obtain⟨qa,qn,qc⟩:=q
 subst ea
 have hx:=ari (p1:=p1) (p2:=p2) (p:=p)
 have had:((⟨b,o,none⟩:Addr).add ((p1.length:Int).toNat*3)).add 2=⟨b,o+(p1.length*3+2),none⟩:=by rw[Int.toNat_natCast,dN]
 rw[had]
 have s:=ay s
 apply Hg tY s (i:=2) rfl hx rfl rfl
 apply lI s 6 rfl
 refine aT s λxb w s=>⟨?_,?_⟩
 ·exact vQ s (i:=3) rfl rfl (by rw[rZ tY hx (by decide)];rfl)
 ·have src:Src w (sZ xb) 1 1 (one u.id):=⟨rfl,Ee _,λj v hj=>by rw[bZ,Nat.zero_add];exact cg s (i:=0) rfl rfl hj⟩
  refine iL dW s (i:=1) (bytes:=8) rfl rfl rfl rfl rfl rfl (by decide) rfl src (by simp[maxLen];omega) (by omega) (λe=>by cases e) λra rc w s=>?_
  have e:flat one p.ids++one u.id=flat one (p.ids++[u.id]):=by rw[gK];simp[flat]
  rw[e]at s
  refine dD tY s (i:=3) rfl hx rfl (x':=⟨p.g,p.s,⟨ra,p.q.n+1,rc⟩,p.ids++[u.id]⟩) (by decide) rfl rfl λw s=>?_
  rw[arh]at s
  have s:=pk 8 [1,2,3,4,5,6] s
  have s:=K1 s
  have s:=pk 5 [1,2,0,3,4] s
  have s:=K1 s
  apply next ⟨ra,p.q.n+1,rc⟩ w
  unfold Ax zU
  rw[Y6,List.map_append,List.map_cons,List.map_append,List.map_cons]
  exact s
end
def K2 (p:Ad):FV:=⟨p.g,p.s,p.ids⟩
def V5 {g1 g2:List BR}{G:BR}:EH (g1++G::g2)=EH g1++(G.g,G.ps.map λp=>(p.s,p.ids))::EH g2:=by
 unfold EH
 grind
def ML {gs:List BR}:(EH gs).map (·.1)=gs.map (·.g):=by
 unfold EH
 simp_all
def arj {g1 g2:List BR}{g s d:Int}{q q':AT}{p1 p2:List Ad}{p p':Ad}(h1:g∉g1.map (·.g))(h2:s∉p1.map (·.s))(e1:p.s=s)(e2:p'.s=s)(e3:p'.ids=p.ids++[d]):
  EH (g1++⟨g,q',p1++p'::p2⟩::g2)=pU g s d (EH (g1++⟨g,q,p1++p::p2⟩::g2)):=by
 rw[V5,V5,ahh (by rw[ML];exact h1)]
 simp[List.map_append,List.map_cons]
 rw[e1,ao5 (by grind),e2,e3]
def ark {g1 g2:List BR}{g s d:Int}{q q':AT}{p1:List Ad}{p':Ad}(h1:g∉g1.map (·.g))(h2:s∉p1.map (·.s))(e2:p'.s=s)(e3:p'.ids=[d]):
  EH (g1++⟨g,q',p1++[p']⟩::g2)=pU g s d (EH (g1++⟨g,q,p1⟩::g2)):=by
 rw[V5,V5,ahh (by rw[ML];exact h1)]
 simp[List.map_append,List.map_cons,List.map_nil]
 rw[ao6 (by grind),e2,e3]
section
variable {F:Nat->Prop}{W w w0:World}{L T:List As}{mw mh:Int}{mb Gq ub:Nat}{ms:List (Int×AT)}{m2:List ((Int×Int)×Int)}{g1 g2 gs:List BR}{g sc:Int}{q:AT}{ps p1 p2:List Ad}{la ta:Option Addr}{ln lc tn tc i:Nat}{tm:Int}{u:aL}
def MK.ap_ {G:BR}(I:MK ms m2 (g1++G::g2)):G.g∉g1.map (·.g):=λh=>by
 have:=I.nd
 grind
def ahj {K:Option Addr->Nat->Nat->World->Prop}(hl:ps.length<=1000000000)(s:Sep F W w (av ub 211 [ae g,ae sc,.slice none 0 0]::Ax (g1++⟨g,q,ps⟩::g2)::T))
  (k:∀q' w',Sep F W w' (Ax (g1++⟨g,q',ps++[⟨g,sc,⟨none,0,0⟩,[]⟩]⟩::g2)::T)->K q'.a q'.n q'.c w'):App P #[208,208] 208 (.slice q.a q.n q.c) (.slice (sZ ub) 1 1) w K:=by
 have s:=jN s
 unfold Ax at s
 rw[List.map_append,List.map_cons]at s
 have s:=RC s
 have s:Sep F W w (aj q.a q.n q.c 211 3 (flat xS ps)::_::av ub 211 _::T):=s
 have hqn:=(aK s (i:=0) rfl tY (by decide)).len
 have src:Src w (sZ ub) 1 3 (xS ⟨g,sc,⟨none,0,0⟩,[]⟩):=⟨rfl,am9 _,λj v hj=>by rw[bZ,Nat.zero_add];exact cg s (i:=2) rfl rfl hj⟩
 refine iL dW s (i:=0) (bytes:=40) rfl rfl rfl rfl rfl rfl (by decide) rfl src (by simp[maxLen];omega) (by omega) (λe=>by cases e) λra rc w s=>?_
 have e:flat xS ps++xS ⟨g,sc,⟨none,0,0⟩,[]⟩=flat xS (ps++[⟨g,sc,⟨none,0,0⟩,[]⟩]):=by rw[gK];simp[flat]
 rw[e]at s
 apply k ⟨ra,q.n+1,rc⟩ w
 have s:=fT (A:=[_,_,_]) (B:=[gpR ⟨g,⟨ra,q.n+1,rc⟩,ps++[⟨g,sc,⟨none,0,0⟩,[]⟩]⟩,_]) [0,1] s rfl (by decide)
 have s:=K1 s
 unfold Ax
 simp_all
def arl {q':AT}{p:Ad}(s:Sep F W w (Ax gs::zU (jJ (g1++⟨g,q,ps⟩::g2))::T))(hp:p.q=⟨none,0,0⟩)(hi:p.ids=[]):Sep F W w (Ax gs::zU (jJ (g1++⟨g,q',ps++[p]⟩::g2))::T):=by
 have e1:jJ (g1++⟨g,q,ps⟩::g2)=(jJ g1++ps)++jJ g2:=by
  unfold jJ
  grind
 have e2:apb p=aj none 0 0 3 1 []:=by unfold apb;rw[hp,hi];rfl
 rw[e1]at s
 rw[Y6]
 unfold zU at s⊢
 rw[List.map_append]at s
 rw[List.map_append,List.map_cons,e2]
 have s:=bG s 3 1
 have s:=pk 3 [0,2,1] s
 exact cz (K1 s) (List.Perm.swap _ _ _)
structure akA (mw mh:Int) (us:List aL) (i:Nat) (ms:List (Int×AT)) (m2:List ((Int×Int)×Int)) (gs:List BR):Prop where
 I:MK ms m2 gs
 pl:EH gs=aa0 mw mh (us.take i)
 sz:∀G∈gs,G.ps.length<=i/\∀p∈G.ps,p.ids.length<=i
def akA.next {us:List aL}{ms':List (Int×AT)}{Xm:List ((Int×Int)×Int)}{q':AT}{p':Ad}(S:akA mw mh us i ms m2 gs)(hu:us[i]? =some u)(I':MK ms' Xm (g1++⟨g,q',p1++p'::p2⟩::g2))(e:EH (g1++⟨g,q',p1++p'::p2⟩::g2)=pU u.goal (aB mw mh u.cell) u.id (EH gs))
  (h1:∀G∈g1,G∈gs)(h2:∀G∈g2,G∈gs)(hl:(p1++p'::p2).length<=i+1)(hp:p'.ids.length<=i+1)(hps:∀p,p∈p1\/p∈p2->p.ids.length<=i):akA mw mh us (i+1) ms' Xm (g1++⟨g,q',p1++p'::p2⟩::g2):=by
 refine⟨I',?_,λG hG=>?_⟩
 ·rw[e,S.pl,List.take_add_one,hu]
  show _=List.foldl _ _ (us.take i++[u])
  rw[List.foldl_append]
  rfl
 ·have up:∀G∈gs,G.ps.length<=i+1/\∀p∈G.ps,p.ids.length<=i+1:=λG hG=>⟨Nat.le_succ_of_le (S.sz G hG).1,λp hp=>Nat.le_succ_of_le ((S.sz G hG).2 p hp)⟩
  grind
def arn {gs:List BR}(h:∀G∈gs,∀p∈G.ps,p.g=G.g):(jJ gs).map K2=Cs (EH gs):=by
 unfold jJ Cs EH
 rw[List.map_flatMap,List.flatMap_map]
 refine congrArg List.flatten ?_|>λe=>(List.flatMap_def ..).trans (e.trans (List.flatMap_def ..).symm)
 refine List.map_congr_left λG hG=>?_
 rw[List.map_map]
 refine List.map_congr_left λp hp=>?_
 show FV.mk _ _ _=FV.mk _ _ _
 grind
end
def aqa {a:Int}{b:Bool}{K:Int->Bool->Prop}(k:K a b):dT (.tuple #[ae a,.bool b]) λl=>c_ l λv0 l0=>dI .i64 v0 λx=>c_ l0 λv1 l1=>dB v1 λy=>j7 l1 (K x y):=k
section
variable {F:Nat->Prop}{W w w0:World}{L T:List As}{mw mh:Int}{la:Option Addr}{ln lc:Nat}{us:List aL}
def am_ {Q:Option Addr->Nat->Nat->World->Prop}{mb Gq:Nat}{ms:List (Int×AT)}{m2:List ((Int×Int)×Int)}{gs:List BR}{ga:Option Addr}{gn gc:Nat}(I:MK ms m2 gs)(h64:∀G∈gs,ir G.g)(vq:(jJ gs).length<=1000000)(D_:gs.length<=1000000)
  (h:∀oa on oc w',Sep No w0 w' (aj oa on oc 211 3 (flat xS (jJ gs))::zU (jJ gs)::[])->Q oa on oc w'):
  ∀(j i:Nat) (oa:Option Addr) (on oc:Nat) (w:World),i+j=gn->gs.length=gn->Sep No w0 w (aj oa on oc 211 3 (flat xS (jJ (gs.take i)))::aj ga gn gc 3 1 (flat one (gs.map (·.g)))::Ax gs::zU (jJ gs)::fy eX Sk mb ms::[])->
   AI Q (j+1) (some mb) oa on oc ga gn gc (gn:Int) i w:=by
 intro j
 induction j with
 |zero=>
  intro i oa on oc w hij Gc s
  show wF _ _ _ _ _ _ _ _ _ _ _ _
  rw[wF,bD]
  rw[List.take_of_length_le (by omega)]at s
  exact h oa on oc w (bH (L':=[_,_]) [0,3] s rfl (by decide))
 |succ j ih=>
  intro i oa on oc w hij Gc s
  show wF _ _ _ _ _ _ _ _ _ _ _ _
  rw[wF,bY]
  have hi:i<gs.length:=by omega
  obtain⟨G,hG⟩:∃G,gs[i]? =some G:=⟨_,List.getElem?_eq_getElem hi⟩
  have hmem:=List.mem_of_getElem? hG
  have hgi:gi (gs.map (·.g)) i=G.g:=by
   unfold gi
   grind
  have xA:gs.take (i+1)=gs.take i++[G]:=by rw[List.take_add_one,hG];rfl
  have hall:jJ (gs.take (i+1))=jJ (gs.take i)++G.ps:=by
   unfold jJ
   grind
  have hle:(jJ (gs.take (i+1))).length<=(jJ gs).length:=by
   have e:jJ gs=jJ (gs.take (i+1))++jJ (gs.drop (i+1)):=by
    unfold jJ
    rw[<-List.flatMap_append,List.take_append_drop]
   grind
  have HW:=(aK s (i:=0) rfl tY (by decide)).len
  rw[hall,List.length_append]at hle
  apply(aK s (i:=1) rfl ct (by decide)).pJ rfl (by omega)
  rw[hgi,KZ (by omega)]
  apply aa1 s (i:=4) rfl I.hk (h64 G hmem)
  rw[I.of_ G hmem]
  have src:Src w G.q.a G.q.n 3 (flat xS G.ps):=by
   have s2:=bH (L':=[_]) [2] s rfl (by decide)
   have s3:=(iW s2).2
   exact anR s3 (by rw[List.getElem?_append_left (by rw[List.length_map];exact hi),List.getElem?_map,hG];rfl)
  have hcc:G.q.a=none->G.q.c=0:=by
   have s2:=bH (L':=[_]) [2] s rfl (by decide)
   have s3:=(iW s2).2
   exact ada s3 (by rw[List.getElem?_append_left (by rw[List.length_map];exact hi),List.getElem?_map,hG];rfl)
  have hqn:G.ps.length=G.q.n:=by
   have:=src.1
   rw[iF tY]at this
   omega
  refine iL dW s (i:=0) (bytes:=40) rfl rfl rfl rfl rfl rfl (by decide) rfl src (by simp[maxLen];omega) (by omega) hcc λra rc w s=>?_
  rw[<-gK,<-hall]at s
  grind
def akB {Q:Option Addr->Nat->Nat->World->Prop}{mb Gq:Nat}(hU:Sl w0 la ln lc 3 g8 us)(pP:ln<=100000)(hm:nH mw mh us)
  (h:∀oa on oc ps w',ps.map K2=mq mw mh us->Sep No w0 w' (aj oa on oc 211 3 (flat xS ps)::zU ps::[])->Q oa on oc w'):
  ∀(j i:Nat) (ms:List (Int×AT)) (m2:List ((Int×Int)×Int)) (gs:List BR) (w:World),i+j=ln->akA mw mh us i ms m2 gs->Sep No w0 w (Ax gs::zU (jJ gs)::fy eX Sk mb ms::fy Jn vI Gq m2::[])->
   yF Q (j+1) mw mh la ln lc (some mb) (some Gq) la ln lc (ln:Int) i w:=by
 have hlen:=hU.len
 intro j
 induction j with
 |zero=>
  intro i ms m2 gs w hij S s
  show yE _ _ _ _ _ _ _ _ _ _ _ _ _ _ _
  rw[yE,bD]
  have S:=S
  have Gb:=S.pl
  rw[List.take_of_length_le (by omega)]at Gb
  have ate:gs.map (·.g)=sS us:=by
   rw[<-RB,<-Gb,ML]
  have htr:(jJ gs).map K2=mq mw mh us:=by
   rw[arn S.I.pg,Gb]
   rfl
  have hal:(jJ gs).length<=us.length:=by
   have e:((jJ gs).map K2).length=(jJ gs).length:=List.length_map ..
   have:=adY mw mh us
   grind
  have h64:∀u∈us,ir u.goal:=λu hu=>zQ (hm.at_ u hu).2
  refine YZ s (hU.fr (au s)) (by omega) h64 λga gn gc w s _=>?_
  rw[<-ate]at s
  have Gc:=(aK s (i:=0) rfl ct (by decide)).len
  rw[List.length_map]at Gc
  have s:=bG s 211 3
  refine⟨gn+1,am_ (Gq:=Gq) S.I (λG hG=>?_) (by omega) (by have:=amX (us:=us);grind) (λoa on oc w' s'=>h oa on oc (jJ gs) w' htr s') gn 0 none 0 0 w (by omega) Gc (bH (L':=[_,_,_,_,_]) [0,1,2,3,4] s rfl (by decide))⟩
  have:G.g∈sS us:=by grind
  rw[<-RB (w:=mw) (h:=mh)]at this
  obtain⟨q,hq,e⟩:=List.mem_map.1 this
  have hf:∃u∈us,u.goal=G.g:=by
   have hg:∀(us:List aL) (out:List Int),G.g∈us.foldl DD out->G.g∈out\/∃u∈us,u.goal=G.g:=by
    intro us
    induction us with
    |nil=>grind
    |cons u us ih=>
     intro out h
     rcases ih _ h with h|⟨v,hv,e⟩
     ·unfold DD at h
      grind
     grind
   rw[RB]at this
   exact(hg us [] this).elim (λh=>by cases h) id
  grind
 |succ j ih=>
  intro i ms m2 gs w hij S s
  show yE _ _ _ _ _ _ _ _ _ _ _ _ _ _ _
  rw[yE,bY]
  refine(hU.fr (au s)).El rfl (by omega) λp u hu hc=>?_
  have Hy:=hm.at_ u (List.mem_of_getElem? hu)
  have hsc:=(bS Hy.1).2
  have hcn:=gD hm.wh.1 hm.wh.2
  have VD:ir u.goal/\ir (aB mw mh u.cell):=⟨zQ Hy.2,by unfold ir;omega⟩
  refine Vz hc s λub w s=>?_
  apply lI s 0 rfl
  refine eN s λw s _=>?_
  apply lI s 0 rfl
  refine a_ s λkb w s=>?_
  refine sT s 0 rfl λw s=>?_
  refine ax s (i:=0) rfl rfl rfl λw s=>?_
  refine lI s 0 rfl (lI s 0 rfl ?_)
  refine Dz (K:=Jn) (x:=(u.goal,aB mw mh u.cell)) atT (aaC w) s (i:=5) rfl S.I.HD VD (λhn=>?_) λk hk=>?_
  ·apply aqa
   obtain⟨g1,⟨g,q,ps⟩,g2,eg,I,MI⟩:=S.I.group u.goal
   subst eg
   have hnew:aB mw mh u.cell∉ps.map (·.s):=λhin=>by
    obtain⟨p',hp',e⟩:=List.mem_map.1 hin
    have:=I.at2 ⟨u.goal,q,ps⟩ (by simp) p' hp'
    rw[e,hn]at this
    cases this
   have Gb:pU u.goal (aB mw mh u.cell) u.id (EH (g1++⟨u.goal,q,ps⟩::g2))=pU u.goal (aB mw mh u.cell) u.id (EH gs):=by
    rcases MI with e|⟨e1,e2,e3,e4⟩
    ·rw[e]
    ·cases e3
     subst e2 e1
     have:EH (gs++[⟨u.goal,⟨none,0,0⟩,[]⟩])=EH gs++[(u.goal,[])]:=by unfold EH;simp
     rw[this]
     exact ao7 (by rw[ML];exact e4)
   have hsz:ps.length<=i/\∀p∈ps,p.ids.length<=i:=by
    rcases MI with e|⟨e1,e2,e3,e4⟩
    ·exact S.sz ⟨u.goal,q,ps⟩ (by rw[e];simp)
    ·cases e3
     exact⟨Nat.zero_le _,λp hp=>by cases hp⟩
   have awf:∀G∈g1,G∈gs:=λG hG=>by
    rcases MI with e|⟨e1,e2,e3,e4⟩
    ·rw[e];exact List.mem_append_left _ hG
    ·rw[e1];exact hG
   have awg:∀G∈g2,G∈gs:=λG hG=>by
    rcases MI with e|⟨e1,e2,e3,e4⟩
    ·rw[e];exact List.mem_append_right _ (List.mem_cons_of_mem _ hG)
    ·rw[e2]at hG;cases hG
   have s:Sep No w0 w (Ax (g1++⟨u.goal,q,ps⟩::g2)::zU (jJ (g1++⟨u.goal,q,ps⟩::g2))::fy eX Sk mb ms::fy Jn vI Gq m2::av ub 43 (g8 u)::av kb 253 [ae u.goal,ae (aB mw mh u.cell)]::[]):=by
    have s:=bH (L':=[_,_,_,_,_,_]) [2,3,4,5,1,0] s rfl (by decide)
    rcases MI with e|⟨e1,e2,e3,e4⟩
    ·rw[<-e];exact s
    ·cases e3
     subst e2 e1
     have e:jJ (gs++[⟨u.goal,⟨none,0,0⟩,[]⟩])=jJ gs:=by unfold jJ;simp
     rw[e]
     unfold Ax at s⊢
     have s:=bG s 211 3
     rw[List.map_append]
     apply K1 (B:=[])
     rw[List.append_nil]
     exact s
   have hqn:q.n=ps.length:=by
    have s2:=s
    unfold Ax at s2
    rw[List.map_append,List.map_cons]at s2
    have s2:=RC s2
    exact((aK s2 (i:=0) rfl tY (by decide)).len).symm
   have hq:=I.of_ ⟨u.goal,q,ps⟩ (by simp)
   apply lI s 4 rfl
   apply aa1 s (i:=2) rfl I.hk VD.1
   rw[hq]
   refine lI s 5 rfl (lI s 5 rfl ?_)
   refine KM (v:=vI) (ms:=m2) (a:=(q.n:Int)) (x:=(u.goal,aB mw mh u.cell)) atT s (i:=3) rfl I.HD VD λXm w awh Mw _ s=>?_
   have s:=ay (bH (L':=[Ax (g1++⟨u.goal,q,ps⟩::g2),zU (jJ (g1++⟨u.goal,q,ps⟩::g2)),fy eX Sk mb ms,fy Jn vI Gq Xm,av ub 43 (g8 u)]) [0,1,2,3,4] s rfl (by decide))
   rw[hqn]at Mw⊢
   have fin:∀(q':AT) (w:World),Sep No w0 w (Ax (g1++⟨u.goal,q',ps++[⟨u.goal,aB mw mh u.cell,⟨none,0,0⟩,[]⟩]⟩::g2)::zU (jJ (g1++⟨u.goal,q,ps⟩::g2))::fy eX Sk mb ms::fy Jn vI Gq Xm::av ub 43 (g8 u)::[])->
     bw P (Instr.mapUpdate 252 (.map (some mb)) (ae u.goal) (.slice q'.a q'.n q'.c)) w λw=>o9 (yF Q (j+1)) Q mw mh la ln lc (some mb) (some Gq) (aZ ub) (ps.length:Int) la ln lc (ln:Int) i w:=λq' w s=>by
    refine KM (k:=3) (e:=208) (K:=eX) (v:=Sk) (ms:=ms) (a:=q') (x:=u.goal) ofT s (i:=2) rfl I.hk VD.1 λms' w hk' Dm _ s=>?_
    have I2:=I.add (G:=⟨u.goal,q,ps⟩) (p:=⟨u.goal,aB mw mh u.cell,⟨none,0,0⟩,[]⟩) hk' awh Dm Mw rfl hnew
    have s:=arl (q':=q') (p:=⟨u.goal,aB mw mh u.cell,⟨none,0,0⟩,[]⟩) s rfl rfl
    refine ad1 (p2:=[]) (by omega) hk' (I2.of_ ⟨u.goal,q',ps++[⟨u.goal,aB mw mh u.cell,⟨none,0,0⟩,[]⟩]⟩ (by simp)) rfl VD.1 (Nat.zero_le _) s λq2 w s=>?_
    refine ih (i+1) ms' Xm _ w (by omega) ?_ s
    refine S.next hu (I2.pairs (G':=⟨u.goal,q',ps++[⟨u.goal,aB mw mh u.cell,q2,[]++[u.id]⟩]⟩) rfl rfl (by simp) λp hp=>?_) ?_ awf awg (by simp;omega) (by simp) λp hp=>?_
    ·rcases List.mem_append.1 hp with hp|hp
     ·exact I.pg ⟨u.goal,q,ps⟩ (by simp) p hp
     ·rw[List.mem_singleton.1 hp]
    ·rw[<-Gb]
     exact ark I.ap_ hnew rfl rfl
    ·exact hp.elim (λhp=>hsz.2 p hp) λhp=>by cases hp
   refine lI s 4 rfl (lI s 4 rfl (lI s 4 rfl ⟨?_,?_⟩))
   ·apply aa1 s (i:=2) rfl I.hk VD.1
    rw[hq]
    refine⟨dg s 4 rfl,dg s 4 rfl,?_⟩
    refine aT s λxb w s=>⟨dg s 5 rfl,dg s 5 rfl,?_⟩
    refine ahj (by omega) s λq' w s=>⟨dg s 4 rfl,?_⟩
    exact fin q' w s
   ·refine aT s λxb w s=>⟨dg s 5 rfl,dg s 5 rfl,?_⟩
    apply aa1 s (i:=3) rfl I.hk VD.1
    rw[hq]
    refine⟨dg s 5 rfl,dg s 5 rfl,?_⟩
    refine ahj (by omega) s λq' w s=>⟨dg s 4 rfl,?_⟩
    exact fin q' w s
  ·apply aqa
   rw[Bool.not_true,cond_false]
   obtain⟨⟨g,q,ps⟩,hG,e1,C8,e3⟩:=S.I.at1 _ _ _ hk
   simp only at e1 e3
   subst e1
   obtain⟨p,hp,e4⟩:=Option.map_eq_some_iff.1 e3
   have hkl:=(List.getElem?_eq_some_iff.1 hp).1
   have atf:ps=ps.take k.toNat++p::ps.drop (k.toNat+1):=by
    have:=(List.getElem?_eq_some_iff.1 hp).2
    rw[<-this,<-List.drop_eq_getElem_cons hkl,List.take_append_drop]
   have hkp:k=((ps.take k.toNat).length:Nat):=by rw[List.length_take];omega
   generalize ps.take k.toNat=p1 at*
   generalize ps.drop (k.toNat+1)=p2 at*
   subst atf
   obtain⟨g1,g2,e5⟩:=List.append_of_mem hG
   subst e5
   subst hkp
   have hsz:=S.sz _ hG
   have hn1:aB mw mh u.cell∉p1.map (·.s):=λh=>by
    have:=S.I.nds _ hG
    simp[List.map_append,List.map_cons]at this
    rw[List.nodup_append]at this
    exact this.2.2 _ h _ (by rw[<-e4];exact List.mem_cons_self ..) rfl
   have s:=bH (L':=[_,_,_,_,av ub 43 (g8 u)]) [2,3,4,5,1] s rfl (by decide)
   refine ad1 (by omega) S.I.hk (S.I.of_ _ hG) rfl VD.1 (by have:=hsz.2 p (by simp);omega) s λq2 w s=>?_
   refine ih (i+1) ms m2 _ w (by omega) ?_ s
   refine S.next hu (S.I.pairs (G':=⟨u.goal,q,p1++⟨p.g,p.s,q2,p.ids++[u.id]⟩::p2⟩) rfl rfl (by simp) λx hx=>?_) ?_ (λG h=>by simp[h]) (λG h=>by simp[h]) ?_ ?_ λx hx=>?_
   ·rw[List.mem_append,List.mem_cons]at hx
    rcases hx with h|rfl|h
    ·exact S.I.pg _ hG x (by simp[h])
    ·exact S.I.pg _ hG p (by simp)
    ·exact S.I.pg _ hG x (by simp[h])
   ·exact arj S.I.ap_ hn1 e4 e4 rfl
   ·have:=hsz.1
    simp[List.length_append,List.length_cons]at this⊢
    omega
   ·have:=hsz.2 p (by simp)
    simp[List.length_append,List.length_cons,List.length_nil]
    omega
   ·exact hsz.2 x (by rcases hx with h|h<;>simp[h])
def Y7 {Q:Option Addr->Nat->Nat->World->Prop}(s0:Sep F W w0 L)(hU:Sl w0 la ln lc 3 g8 us)(pP:ln<=100000)(hm:nH mw mh us)
  (h:∀oa on oc ps w',ps.map K2=mq mw mh us->Sep F W w' (aj oa on oc 211 3 (flat xS ps)::zU ps::L)->Fr No w0 w'->Q oa on oc w'):DO mw mh la ln lc w0 Q:=by
 apply Yj
 refine PG (bt (F:=No)) hU (by omega) hm λw s _=>?_
 refine YL s 252 eX Sk λmb w s=>?_
 refine YL s 180 Jn vI λGq w s=>?_
 have s:=dX (Ps:=[]) s trivial
 have s:=dX (Ps:=[]) s trivial
 have s:=bH (L':=[Ax [],zU (jJ []),fy eX Sk mb ([]:List (Int×AT)),fy Jn vI Gq ([]:List ((Int×Int)×Int))]) [0,1,3,2] s rfl (by decide)
 refine⟨ln+1,akB hU pP hm (λoa on oc ps w' e s'=>h oa on oc ps w' e (fR s0 s') (au s')) ln 0 [] [] [] w (by omega) ⟨⟨List.nodup_nil,List.nodup_nil,List.nodup_nil,(λG h=>by cases h),(λG h=>by cases h),(λg _=>rfl),(λg s k h=>by cases h),(λG h=>by cases h),(λG h=>by cases h)⟩,rfl,λG h=>by cases h⟩ s⟩
end
end Go.Proofs.YtmegplnmiepfbaaGreatDoor.S
set_option maxRecDepth 20000
namespace Go.Proofs.YtmegplnmiepfbaaGreatDoor.S
open Go.Sx
open Go.Extern
def awi (args:Array Value)(w:World):(callFunc 219 args).run P w=((BytealgMakeNoZero.makeNoZero #[3] #[22] args).run P w).andThen λv w'=>.ok (.value v) w':=run_callFunc_extern Go.Proofs.Tryz.func219 (by kernel_rfl) (by kernel_rfl) (by kernel_rfl) (by kernel_rfl) args w
def ahk:P.underlying 22=some (.slice 5):=by kernel_rfl
def aa2:∀(n t:Nat) (acc:Array Value) (xs:List Int),acc.toList=flat bA xs->∃ys:List Int,(BytealgMakeNoZero.digits n t acc).toList=flat bA ys
 |0,_,acc,xs,h=>⟨xs,h⟩
 |n+1,t,acc,xs,h=>by
  apply aa2 n (t/256) _ (xs++[((t%256:Nat):Int)])
  rw[Array.toList_push,h,gK]
  rfl
def aro (n:Nat)(hn:n<=100000)(w:World):∃t,(BytealgMakeNoZero.makeNoZero #[3] #[22] #[ae n]).run P w=.ok (.slice (sZ w.heap.size) n (grownCap w n 0 5)) (w.drew.drew.alloc (.cells (BytealgMakeNoZero.digits (grownCap w n 0 5) t #[]) 5)):=by
 have awj:BytealgMakeNoZero.makeNoZero #[3] #[22] #[ae n]=
  (do
   let .slice elem<-underlying 22|stuck "bytealg.MakeNoZero: slice type expected"
   if(n:Int)<0||(n:Int)>2^48 then runtimePanic (.error "makeslice: len out of range")
   let cap<-choose (.appendCap (n:Int).toNat 0 elem)
   askRoom cap
   let bytes<-choose (.extern "internal/bytealg.MakeNoZero.bytes" 0)
   let a<-newRow elem (BytealgMakeNoZero.digits cap bytes #[])
   pure (.slice (some a) (n:Int).toNat cap)):=rfl
 have h1:¬(n:Int)<0:=by omega
 have h2:¬(281474976710656:Int)<(n:Int):=by omega
 refine⟨(Question.extern "internal/bytealg.MakeNoZero.bytes" 0).cut (w.tape (w.drawn+1) (.extern "internal/bytealg.MakeNoZero.bytes" 0)),?_⟩
 rw[awj]
 simp[run_underlying ahk,h1,h2,Question.forced,newRow,grownCap]
attribute [local irreducible] sU callFunc Sem.run BytealgMakeNoZero.makeNoZero in
theorem atg {n:Nat}{w w':World}{v:Value}{K:Value->World->Prop}(h:(BytealgMakeNoZero.makeNoZero #[3] #[22] #[ae n]).run P w=.ok v w')(k:K v w'):sU P 219 #[ae n] w K:=
 jI awi h k
def ath {F:Nat->Prop}{W w:World}{L:List As}{n:Nat}{K:Value->World->Prop}(hn:1<=n/\n<=100000)(s:Sep F W w L)(h:∀b ys w',ys.length=n->Sep F W w' (aj (sZ b) n n 5 1 (flat bA ys)::L)->K (.slice (sZ b) n n) w'):
  sU P 219 #[ae n] w λv w1=>dS v λa m c=>aI P (Instr.sliceAt 22 (.slice a m c) none (some (ae n)) (some (ae n))) w1 K:=by
 obtain⟨t,ht⟩:=aro n (by omega) w
 apply atg ht
 have hge:=grownCap_ge w n 0 5
 have hle:=grownCap_le_maxLen w n 0 5 (by simp[maxLen];omega)
 obtain⟨ys,hys⟩:=aa2 (grownCap w n 0 5) t #[] [] rfl
 have hlen:ys.length=grownCap w n 0 5:=by
  have e:=congrArg List.length hys
  rw[iF cZ,Array.length_toList,Lib.size_digits]at e
  grind
 generalize hc:grownCap w n 0 5=c at*
 have hcs:(BytealgMakeNoZero.digits c t #[])=(flat bA ys).toArray:=by rw[<-hys]
 rw[hcs]
 have s:=sW (ay (ay s)) (flat bA ys) 5
 have s:Sep F W (w.drew.drew.alloc (.cells (flat bA ys).toArray 5)) (av w.heap.size 5 (flat bA ys)::L):=s
 have hone:∀u∈flat bA ys,u.oneCell'=true:=λu hu=>by
  obtain⟨x,_,hx⟩:=List.mem_flatMap.1 hu
  exact Ag x u hx
 have s:=iV s (i:=0) rfl (by rw[iF cZ,hlen]) hle hone
 simp[List.set_cons_zero]at s
 generalize w.drew.drew.alloc (.cells (flat bA ys).toArray 5)=w1 at*
 generalize w.heap.size=b at*
 have hs:(sizeOf 5).run P w1=.ok 1 w1:=by kernel_rfl
 have hr:(Instr.sliceAt 22 (.slice (sZ b) n c) none (some (ae n)) (some (ae n))).run P w1=.ok (.slice (sZ b) n n) w1:=by
  rw[run_sliceAt_slice w1 22 _ _ _ _ ahk,run_slice_hm w1 22 (sZ b) n c ahk .i64 .i64 n n (by omega) (Int.le_refl _) (by omega)]
  show((sizeOf 5).run P w1).andThen _=_
  rw[hs]
  simp[Result.andThen,sliced,Int.toNat_natCast,Nat.sub_zero]
  simp[Addr.add]
 apply Ah hr
 apply h b (ys.take n) w1 (by grind)
 refine⟨dO.fr s,λA hA=>?_,?_⟩
 ·rcases List.mem_cons.1 hA with rfl|hA
  ·obtain⟨⟨⟨k1,k2,k3,k4⟩,k5⟩,k6⟩:=dO.ok s _ (List.mem_cons_self ..)
   refine⟨⟨⟨by rw[iF cZ,List.length_take];omega,Nat.le_refl _,by omega,λu hu=>?_⟩,?_⟩,λx hx=>k6 x hx⟩
   ·obtain⟨x,_,hx⟩:=List.mem_flatMap.1 hu
    exact Ag x u hx
   ·rcases k5 with⟨h,_⟩|⟨g,o,cur,e1,e2,e3,e4⟩
    ·cases h
    ·refine .inr ⟨g,o,cur,e1,e2,by omega,?_⟩
     have:flat bA (ys.take n)=(flat bA ys).take (n*1):=(TG cZ ys n).symm
     grind
  ·exact dO.ok s A (List.mem_cons_of_mem _ hA)
 ·have:=dO.apart s
  rw[List.pairwise_cons]at this⊢
  exact⟨λA hA b hb=>this.1 A hA b hb,this.2⟩
attribute [local irreducible] sU callFunc Sem.run af cw bq bg aC cf bX St Bx Al App cA cq cm bT aI bw aq bR av aj aV mapA
def ana {v:Int}{n k:Nat}{Z:List Int}(hk:k<=n)(hZ:k<=Z.length):
  (flat bA (List.replicate n v++Z)).take (n*1)++(flat bA ((List.replicate n v++Z).take n)).take (k*1)++(flat bA (List.replicate n v++Z)).drop ((n+k)*1)=flat bA (List.replicate (n+k) v++Z.drop k):=by
 simp only[XC,Nat.mul_one]
 rw[<-List.map_take,<-List.map_take,<-List.map_drop,<-List.map_append,<-List.map_append]
 congr 1
 rw[List.take_left' (by simp),List.take_replicate,Nat.min_eq_left hk,List.replicate_append_replicate,<-List.drop_drop,List.drop_left' (by simp)]
section
variable {F:Nat->Prop}{W w w0:World}{L:List As}{xa:Option Addr}{xc:Nat}{v:Int}
def anb {Q:Option Addr->Nat->Nat->World->Prop}{b N:Nat}(hN:N<=8192)(h:∀w',Sep No w0 w' (aj (sZ b) N N 5 1 (flat bA (List.replicate N v))::L)->Q (sZ b) N N w'):
  ∀(m n:Nat) (Z:List Int) (w:World),N<=n+m->1<=n->n+Z.length=N->Sep No w0 w (aj (sZ b) N N 5 1 (flat bA (List.replicate n v++Z))::L)->sE Q (m+1) N N (sZ b) N N n w:=by
 have done:∀(R:Int->Int->Option Addr->Nat->Nat->Int->World->Prop) (Z:List Int) (w:World),Z.length=0->Sep No w0 w (aj (sZ b) N N 5 1 (flat bA (List.replicate N v++Z))::L)->sD Q R N N (sZ b) N N N w:=λR Z w hZ s=>by
  unfold sD
  grind
 intro m
 induction m with
 |zero=>
  intro n Z w hm h1 h2 s
  have:n=N:=by omega
  subst this
  exact done _ Z _ (by omega) s
 |succ m ih=>
  intro n Z w hm h1 h2 s
  show sD Q (sE Q (m+1)) _ _ _ _ _ _ _
  by_cases hn:n=N
  ·grind
  ·rw[sD,bY]
   apply NL rfl (by omega)
   rw[vm]
   have em:EU (n:Int) (N:Int)=n:=by unfold EU;omega
   rw[em]
   apply NK rfl (by omega)
   have s:=ay s
   have hT:=(aK s (i:=0) rfl cZ (by decide)).top (m:=n) (by omega)
   refine DI (p:=n) dW s rfl rfl rfl rfl (by decide) (i:=0) rfl (hT.src (e:=5) cZ Ag) (by omega) (by simp[Addr.add];omega) λw s=>?_
   rw[ana (Nat.min_le_left _ _) (by omega)]at s
   have e:IntKind.wrap .i64 ((n:Int)+((min n (N-n):Nat):Int))=((n+min n (N-n):Nat):Int):=by
    rw[aJ]
    omega
   grind
def RD {N:Nat}{Q:Option Addr->Nat->Nat->World->Prop}(s0:Sep F W w L)(hA:Sl w xa 1 xc 1 bA [v])(hN:1<=N/\N<=8192)
  (h:∀ra w',Sep F W w' (aj ra N N 5 1 (flat bA (List.replicate N v))::L)->Fr No w w'->Q ra N N w'):q8 xa 1 xc N w Q:=by
 apply HM
 rw[cM (by omega),cond_false,bD,jV (by decide),jV (by omega)]
 apply Cm (by decide) (by omega) (by omega)
 have e1:((1:Nat):Int)*N=N:=by omega
 rw[e1,bD (by decide),bD,cM (by decide),cond_false,aJ,bD]
 refine ath (by omega) (bt (F:=No)) λb ys w' hys s=>?_
 refine DI (p:=0) dW s rfl rfl rfl rfl (by decide) (i:=0) rfl ((hA.fr (au s)).src (e:=5) cZ Ag) (by omega) rfl λw' s=>?_
 have hm:min 1 N=1:=by omega
 rw[hm]at s⊢
 have e2:(flat bA ys).take (0*1)++(flat bA [v]).take (1*1)++(flat bA ys).drop ((0+1)*1)=flat bA (List.replicate 1 v++ys.drop 1):=by
  simp only[XC,Nat.zero_mul,List.take_zero,List.nil_append,Nat.mul_one,Nat.zero_add]
  rw[<-List.map_take,<-List.map_drop,<-List.map_append]
  rfl
 rw[e2]at s
 exact⟨N+1,anb hN.2 (λw' s=>h _ _ (dY s0 s (i:=0) rfl) (au s)) N 1 (ys.drop 1) w' (by omega) (by omega) (by rw[List.length_drop];omega) s⟩
def akC {N:Nat}{Q:Option Addr->Nat->Nat->World->Prop}(s0:Sep F W w L)(hN:1<=N/\N<=8192)
  (h:∀ra w',Sep F W w' (aj ra 0 0 5 1 (flat bA [])::L)->Fr No w w'->Q ra 0 0 w'):q8 Option.none 0 0 N w Q:=by
 apply HM
 rw[cM (by omega),cond_false,bD,jV (by decide),jV (by omega)]
 apply Cm (by decide) (by omega) (by omega)
 have e1:((0:Nat):Int)*N=0:=by omega
 rw[e1,bD (by decide),bD,show((((0:Nat):Int))==0)=true from rfl,cond_true]
 refine aT (bt (F:=No)) λb w' s=>?_
 have s:=iV (n:=0) (size:=1) s (i:=0) rfl rfl (by decide) (λu hu=>by cases hu)
 exact h _ _ (dY s0 s (i:=0) rfl) (au s)
end
end Go.Proofs.YtmegplnmiepfbaaGreatDoor.S
namespace Go.Proofs.YtmegplnmiepfbaaGreatDoor.S
open Go.Sx
attribute [local irreducible] af cw bq bg aC cf bX St Bx Al App cA cq cm bT aI bw aq bR av aj aV mapA
def ax4:oK 242 fns=true:=by kernel_rfl
def Hv (cs:List Int):Bool:=!cs.any λc=>c !=gi cs 0
def FW (f:Nat)(cs:List Int):Option (List Int):=if f=0 then(if Hv cs=true then some [0,gi cs 0]else none)else if f=1 then some (1::cs)else some (sX cs)
abbrev DE (tw th:Int)(a:Option Addr)(n c:Nat):List Value:=[ae tw,ae th,.slice a n c]
section
variable {F:Nat->Prop}{W w w0:World}{L:List As}{ca:Option Addr}{cn cc tb:Nat}{cs:List Int}{tw th:Int}
def ane {Q:Bool->World->Prop}(hC:Sl w ca cn cc 1 bA cs)(hn:1<=cn/\cn<=1000)(s:Sep F W w (av tb 84 (DE tw th ca cn cc)::L))(h:Q (!Hv cs) w):mE ca cn cc (.func (.func 242) #[] #[.pointer (sZ tb)]) w Q:=by
 apply B7
 apply DZ
 have hl:=hC.len
 have loop:∀(j i:Nat),i+j=cn->(∀k,k<i->gi cs k=gi cs 0)->jb (λr w=>Q (decide (r≥0)) w) (j+1) ca cn cc (.func (.func 242) #[] #[.pointer (sZ tb)]) (cn:Int) i w:=by
  intro j
  induction j with
  |zero=>
   intro i hi hall
   show ja _ _ _ _ _ _ _ _ _
   unfold ja
   have e:Hv cs=true:=by
    rw[Hv,Bool.not_eq_true',List.any_eq_false]
    intro c hc
    obtain⟨k,hk⟩:=List.mem_iff_getElem?.1 hc
    have hkl:=(List.getElem?_eq_some_iff.1 hk).1
    rw[gT hkl]at hk
    grind
   grind
  |succ j ih=>
   intro i hi hall
   show ja _ _ _ _ _ _ _ _ _
   rw[ja,bY]
   apply hC.Cv rfl (by omega)
   unfold gX
   simp only
   have hc:JX (gi cs i) (sZ tb) w λr w'=>cond r (Q (decide ((i:Int)≥0)) w') (jb (λr w=>Q (decide (r≥0)) w) (j+1) ca cn cc (.func (.func 242) #[] #[.pointer (sZ tb)]) (cn:Int) (IntKind.wrap .i64 ((i:Int)+1)) w'):=by
    apply XW
    refine ah (lS s 0 rfl ?_)
    apply hC.Cv (k:=0) rfl (by omega)
    by_cases e:gi cs i=gi cs 0
    ·rw[wG e]
     show cond false _ _
     rw[cond_false,KZ (by omega)]
     exact ih (i+1) (by omega) λk hk=>by
      grind
    ·rw[Fp e]
     show cond true _ _
     rw[cond_true,decide_eq_true (by omega)]
     have e2:Hv cs=false:=by
      rw[Hv,Bool.not_eq_false',List.any_eq_true]
      exact⟨gi cs i,fE (by omega),Fp e⟩
     grind
   exact hc
 exact⟨cn+1,loop cn 0 (by omega) λk hk=>by omega⟩
def agi {oa:Option Addr}{on oc b k:Nat}{out ns:List Int}{K:Option Addr->Nat->Nat->World->Prop}(s:Sep F W w (aj oa on oc 5 1 (flat bA out)::L))(HW:on<=100000000)(hk:ns.length=k)(HD:k<=100000){ba:Option Addr}{bc:Nat}(hB:Sl w ba k bc 1 bA ns)
  (h:∀a' c' w',Sep F W w' (aj a' (on+k) c' 5 1 (flat bA (out++ns))::L)->K a' (on+k) c' w'):App P #[22,22] 22 (.slice oa on oc) (.slice ba k bc) w K:=by
 refine iL dW s (i:=0) (bytes:=1) rfl rfl rfl rfl rfl rfl (by decide) rfl (hB.src (e:=5) cZ Ag) (by simp[maxLen];omega) (by omega) (λe=>hB.nil e) λa1 c1 w1 s1=>?_
 rw[<-gK]at s1
 grind
def aa3 {ns:List Int}{b:Nat}{i:Nat}(s:Sep F W w L)(hi:L[i]? =some (av b 5 (flat bA ns))):Sl w (sZ b) ns.length ns.length 1 bA ns:=
 ⟨⟨rfl,λj x hx=>⟨_,rfl,λk v hk=>by
  rw[bZ,Nat.zero_add,Nat.mul_one]
  apply cg s rfl hi
  have C8:k=0:=by
   have:=(List.getElem?_eq_some_iff.1 hk).1
   rw[cZ]at this
   omega
  subst C8
  have:=rZ cZ hx (j:=0) (by decide)
  grind⟩⟩,Nat.le_refl _,λe=>by cases e⟩
def apc {Q:Option Addr->Nat->Nat->World->Prop}{b:Nat}(hA:Sl w0 ca cn cc 1 bA cs)(hn:cn<=1000)(s:Sep No w0 w (aj (sZ b) 1 1 5 1 (flat bA [2])::av tb 84 (DE tw th ca cn cc)::L))
  (h:∀g o rn rc w',Sep No w0 w' (aj (some ⟨g,o,none⟩) rn rc 5 1 (flat bA (sX cs))::av tb 84 (DE tw th ca cn cc)::L)->Q (some ⟨g,o,none⟩) rn rc w'):∃k,vW Q k (aZ tb) (sZ b) 1 1 0 w:=by
 have hlen:=hA.len
 have inner:∀(P3:Addr->Option Addr->Nat->Nat->Int->World->Prop) (x:Int) (i:Nat) (oa:Option Addr) (on oc:Nat) (out:List Int),cs[i]? =some x->on<=1000000->
   (∀a' c' w',Sep No w0 w' (aj a' (on+2) c' 5 1 (flat bA (out++[((lead x (cs.drop (i+1)):Nat):Int)%256,x]))::av tb 84 (DE tw th ca cn cc)::L)->P3 (aZ tb) a' (on+2) c' ((i+1+lead x (cs.drop (i+1)):Nat):Int) w')->
   ∀(k r:Nat) (w:World),i+1+r+k=cn->lead x (cs.drop (i+1))=r+lead x (cs.drop (i+1+r))->Sep No w0 w (aj oa on oc 5 1 (flat bA out)::av tb 84 (DE tw th ca cn cc)::L)->vV P3 Q (k+1) (aZ tb) oa on oc i ((r+1:Nat):Int) w:=by
  intro P3 x i oa on oc out hx HW next
  have hix:i<cn:=by grind
  have hgx:gi cs i=x:=by rw[gT (by omega)]at hx;grind
  have over:∀(r:Nat) (w:World),i+1+r<=cn->lead x (cs.drop (i+1))=r->Sep No w0 w (aj oa on oc 5 1 (flat bA out)::av tb 84 (DE tw th ca cn cc)::L)->Dt P3 Q (aZ tb) oa on oc i ((r+1:Nat):Int) w:=by
   intro r w hr hl s
   apply lS s 1 rfl
   apply Sl.Cv (hA.fr (au s)) rfl hix
   rw[hgx,aJ,aJ,wrap_u8']
   have e0:((r+1:Nat):Int)-1=(r:Int):=by omega
   rw[e0]
   refine aT s λb w s=>?_
   have hB:=aa3 (ns:=[(r:Int)%256,x]) s (i:=0) rfl
   refine agi (k:=2) (b:=0) (jN s) (by omega) rfl (by decide) hB λa1 c1 w1 s1=>?_
   rw[hl]at next
   have:=next a1 c1 w1 (gL s1 (.cons_cons _ (List.sublist_cons_self _ _)))
   grind
  intro k
  induction k with
  |zero=>
   intro r w hr hl s
   show IA P3 Q (vV P3 Q 0) _ _ _ _ _ _ _
   have s:=ay s
   apply lS s 1 rfl
   rw[aJ,bD]
   have e:cs.drop (i+1+r)=[]:=List.drop_eq_nil_of_le (by omega)
   rw[e]at hl
   exact over r _ (by omega) hl s
  |succ k ih=>
   intro r w hr hl s
   show IA P3 Q (vV P3 Q (k+1)) _ _ _ _ _ _ _
   have ei:(i:Int)+((r+1:Nat):Int)=((i+1+r:Nat):Int):=by push_cast;omega
   have s:=ay s
   apply lS s 1 rfl
   rw[aJ,bY,ei]
   have hB:=hA.fr (au s)
   refine lS s 1 rfl (Sl.Cv hB rfl (by omega) ?_)
   refine lS s 1 rfl (Sl.Cv hB rfl hix ?_)
   have hd:cs.drop (i+1+r)=gi cs (i+1+r)::cs.drop (i+1+r+1):=by
    rw[List.drop_eq_getElem_cons (by omega)]
    congr 1
    have:=gT (l:=cs) (i:=i+1+r) (by omega)
    rw[List.getElem?_eq_getElem (by omega)]at this
    exact Option.some.inj this
   rw[hd,lead]at hl
   rw[hgx]
   by_cases he:gi cs (i+1+r)=x
   ·rw[dJ he,cond_true,aJ]
    rw[if_pos he]at hl
    exact ih (r+1) _ (by omega) (by rw[show i+1+(r+1)=i+1+r+1 by omega];omega) s
   ·rw[cM he,cond_false]
    rw[if_neg he]at hl
    exact over r _ (by omega) hl s
 have outer:∀(k i:Nat) (oa:Option Addr) (on oc:Nat) (out:List Int) (w:World),cn-i<=k->i<=cn->1<=on->on<=1+2*i->out++kV (cn-i) (cs.drop i)=sX cs->Sep No w0 w (aj oa on oc 5 1 (flat bA out)::av tb 84 (DE tw th ca cn cc)::L)->vW Q (k+1) (aZ tb) oa on oc i w:=by
  have stop:∀R (oa:Option Addr) (on oc:Nat) (out:List Int) (w:World),1<=on->out++kV (cn-cn) (cs.drop cn)=sX cs->Sep No w0 w (aj oa on oc 5 1 (flat bA out)::av tb 84 (DE tw th ca cn cc)::L)->IB Q R (aZ tb) oa on oc cn w:=by
   intro R oa on oc out w h1 he s
   apply lS s 1 rfl
   rw[bD]
   rw[List.drop_eq_nil_of_le (by omega),Nat.sub_self,kV,List.append_nil]at he
   rw[he]at s
   obtain⟨g,o,rfl⟩:=pI s (i:=0) rfl (by omega)
   exact h _ _ _ _ _ s
  intro k
  induction k with
  |zero=>
   intro i oa on oc out w hk hi h1 HW he s
   obtain rfl:i=cn:=by omega
   exact stop _ _ _ _ _ _ h1 he s
  |succ k ih=>
   intro i oa on oc out w hk hi h1 HW he s
   by_cases hin:i=cn
   ·subst hin
    exact stop _ _ _ _ _ _ h1 he s
   ·show IB Q (vW Q (k+1)) _ _ _ _ _ _
    apply lS s 1 rfl
    rw[bY]
    have hx:cs[i]? =some (gi cs i):=gT (by omega)
    have hd:cs.drop i=gi cs i::cs.drop (i+1):=by
     obtain⟨h1,h2⟩:=List.getElem?_eq_some_iff.1 hx
     rw[List.drop_eq_getElem_cons h1,h2]
    have Mn:=NN (gi cs i) (cs.drop (i+1))
    rw[List.length_drop]at Mn
    refine⟨cn-(i+1)+1,inner _ (gi cs i) i oa on oc out hx (by omega) (λa' c' w' s'=>?_) (cn-(i+1)) 0 w (by omega) (by rw[Nat.zero_add]) s⟩
    refine ih (i+1+lead (gi cs i) (cs.drop (i+1))) a' (on+2) c' _ w' (by omega) (by omega) (by omega) (by omega) ?_ s'
    rw[<-he,hd,show cn-i=(cn-(i+1))+1 by omega,kV,List.append_assoc,List.drop_drop]
    congr 1
    show _::_::_=_::_::_
    congr 2
    exact afM _ _ _ (by rw[List.length_drop];omega) (by rw[List.length_drop];omega)
 exact⟨cn+1,outer cn 0 _ 1 1 [2] w (by omega) (by omega) (by omega) (by omega) (by rw[List.drop_zero,Nat.sub_zero,<-hlen];rfl) s⟩
def Ct {Q:Option Addr->Nat->Nat->World->Prop}{f:Nat}(hA:Sl w0 ca cn cc 1 bA cs)(hn:1<=cn/\cn<=1000)(hf:f<=2)
  (hno:FW f cs=none->∀w',Sep No w0 w' []->Q none 0 0 w')(hyes:∀out,FW f cs=some out->∀g o rn rc w',Sep No w0 w' [aj (some ⟨g,o,none⟩) rn rc 5 1 (flat bA out)]->Q (some ⟨g,o,none⟩) rn rc w'):GK tw th ca cn cc f w0 Q:=by
 apply abB
 have hlen:=hA.len
 refine aT (bt (F:=No)) λtb w s=>?_
 have ew:IntKind.wrap .u8 (f:Int)=f:=by rw[wrap_u8'];omega
 rw[ew]
 refine aT s λb w s=>?_
 have s:Sep No w0 w (av b 5 (flat bA [(f:Int)])::av tb 84 (DE tw th ca cn cc)::[]):=s
 have hC:=hA.fr (au s)
 have row:Sep No w0 w (aj (sZ b) 1 1 5 1 (flat bA [(f:Int)])::av tb 84 (DE tw th ca cn cc)::[]):=by
  have:=iV (size:=1) s (i:=0) rfl rfl (by decide) (λu hu=>by simp[flat,bA]at hu;subst hu;rfl)
  grind
 by_cases f0:f=0
 ·subst f0
  apply lS s 1 rfl
  apply ane hC hn (ai s)
  cases hs:Hv cs with
  |false=>
   exact hno (by unfold FW;grind) w (ai (ai s))
  |true=>
   apply lS s 1 rfl
   apply hC.Cv (k:=0) rfl (by omega)
   refine aT row λxb w s=>?_
   have hB:=aa3 (ns:=[gi cs 0]) s (i:=0) rfl
   refine agi (k:=1) (b:=0) (jN s) (by omega) rfl (by decide) hB λa1 c1 w1 s1=>?_
   obtain⟨g,o,rfl⟩:=pI s1 (i:=0) rfl (by omega)
   exact hyes [0,gi cs 0] (by unfold FW;grind) g o _ _ w1 (bH (L':=[_]) [0] s1 rfl (by decide))
 ·rw[cM (by omega),cond_false]
  by_cases f1:f=1
  ·subst f1
   apply lS s 1 rfl
   refine agi (b:=0) row (by omega) hlen (by omega) hC λa1 c1 w1 s1=>?_
   obtain⟨g,o,rfl⟩:=pI s1 (i:=0) rfl (by omega)
   exact hyes (1::cs) (by unfold FW;grind) g o _ _ w1 (bH (L':=[_]) [0] s1 rfl (by decide))
  ·obtain rfl:f=2:=by omega
   exact apc hA (by omega) row λg o rn rc w' s=>hyes (sX cs) (by unfold FW;grind) g o _ _ w' (bH (L':=[_]) [0] s rfl (by decide))
end
def akD (x:Int)(ys:List Int):(sX (x::ys)).length=3+(kV ys.length (ys.drop (lead x ys))).length:=by
 show(2::_::x::kV ys.length (ys.drop (lead x ys))).length=_
 grind
def ahl {x:Int}:∀{ys:List Int},(∀y∈ys,y=x)->lead x ys=ys.length
 |[],_=>rfl
 |y::ys,h=>by
  rw[lead,if_pos (h y (List.mem_cons_self ..)),ahl λz hz=>h z (List.mem_cons_of_mem _ hz)]
  rfl
def ang {cs:List Int}(h:1<=cs.length):3<=(sX cs).length/\(Hv cs=true↔(sX cs).length=3):=by
 match cs,h with
 |x::ys,_=>
  rw[akD]
  refine⟨by omega,?_⟩
  have e0:gi (x::ys) 0=x:=rfl
  rw[Hv,e0,Bool.not_eq_true',List.any_eq_false]
  constructor
  ·intro hs
   have:lead x ys=ys.length:=ahl λy hy=>by grind
   rw[this,List.drop_length]
   cases ys.length<;>rfl
  ·intro hl c hc
   have h0:ys.drop (lead x ys)=[]:=by
    cases hd:ys.drop (lead x ys)with
    |nil=>rfl
    |cons z zs=>
     rw[hd]at hl
     obtain⟨k,hk⟩:∃k,ys.length=k+1:=by
      cases ys with
      |nil=>simp at hd
      |cons y ys=>simp_all
     rw[hk]at hl
     simp only[kV,List.length_cons]at hl
     omega
   have h1:lead x ys=ys.length:=by
    have:=NN x ys
    grind
   have h2:=Mc x ys
   grind
section
variable {F:Nat->Prop}{W w w0:World}{L:List As}{ca:Option Addr}{cn cc tb:Nat}{cs:List Int}{tw th:Int}
def ad2 {Q:Int->Option Addr->Nat->Nat->World->Prop}{R:Addr->Int->Option Addr->Nat->Nat->Int->World->Prop}{b:Int}{oa:Option Addr}{on oc:Nat}{t:Addr}(h:Q b oa on oc w):jy Q R t b oa on oc 3 w:=by
 unfold jy
 grind
def aih {Q:Int->Option Addr->Nat->Nat->World->Prop}(hA:Sl w0 ca cn cc 1 bA cs)(hn:1<=cn/\cn<=1000)(h:∀b g o rn rc w',Sep No w0 w' [aj (some ⟨g,o,none⟩) rn rc 5 1 (flat bA (sY cs).2)]->Q b (some ⟨g,o,none⟩) rn rc w'):
  DT tw th ca cn cc w0 Q:=by
 apply XX
 have hlen:=hA.len
 obtain⟨h3,vq⟩:=ang (cs:=cs) (by omega)
 refine aT (bt (F:=No)) λtb w s=>?_
 have rd:∀{w:World} {L':List As} {i:Nat} {K:Int->Int->Option Addr->Nat->Nat->Prop},Sep No w0 w L'->L'[i]? =some (av tb 84 (DE tw th ca cn cc))->K tw th ca cn cc->af .i64 ((aZ tb).add 0) w λa=>af .i64 ((aZ tb).add 1) w λb=>aC ((aZ tb).add 2) w λc d e=>K a b c d e:=λs hi k=>
  aU s rfl hi rfl (aU s rfl hi rfl (bC s rfl hi rfl k))
 have last:∀{best:Int} {g o on oc:Nat} {out:List Int} {w:World},out.length=on->(if(sX cs).length<on then sX cs else out)=(sY cs).2->Sep No w0 w (aj (some ⟨g,o,none⟩) on oc 5 1 (flat bA out)::av tb 84 (DE tw th ca cn cc)::[])->n6 Q 2 (aZ tb) best (some ⟨g,o,none⟩) on oc 2 w:=λ{best g o on oc out w} hl he s=>by
  show jy Q (n6 Q 1) _ _ _ _ _ _ _
  unfold jy
  apply rd s (i:=1) rfl
  refine Ct (hA.fr (au s)) hn (by decide) (λe=>by unfold FW at e;cases e) λro e g2 o2 rn rc w' s'=>?_
  unfold FW at e
  rw[if_neg (by decide),if_neg (by decide),Option.some.injEq]at e
  subst e
  have hrn:=(aK s' (i:=0) rfl cZ (by decide)).len
  have s:=fR s s'
  show cond true _ _
  rw[cond_true]
  show cond false _ _
  rw[cond_false]
  by_cases hlt:(rn:Int)<(on:Int)
  ·rw[bY hlt]
   unfold yo
   rw[HE]at he
   refine ad2 (h _ _ _ _ _ _ ?_)
   rw[<-he]
   exact bH (L':=[_]) [0] s rfl (by decide)
  ·rw[bD hlt]
   rw[vm]at he
   refine ad2 (h _ _ _ _ _ _ ?_)
   rw[<-he]
   exact bH (L':=[_]) [1] s rfl (by decide)
 refine⟨4,?_⟩
 show jy Q (n6 Q 3) _ _ _ _ _ _ _
 unfold jy
 apply rd s (i:=0) rfl
 refine Ct (hA.fr (au s)) hn (by decide) (λe w' s'=>?_) λro e g o rn rc w' s'=>?_
 ·
  have hs:Hv cs=false:=by
   unfold FW at e
   grind
  have s:=fR s s'
  show cond false _ _
  rw[cond_false]
  show jy Q (n6 Q 2) _ _ _ _ _ _ _
  unfold jy
  apply rd s (i:=0) rfl
  refine Ct (f:=1) (hA.fr (au s)) hn (by decide) (λe=>by unfold FW at e;cases e) λro e g2 o2 rn rc w' s'=>?_
  unfold FW at e
  rw[if_neg (by decide),if_pos rfl,Option.some.injEq]at e
  subst e
  have hrn:=(aK s' (i:=0) rfl cZ (by decide)).len
  have s:=fR s s'
  show cond true _ _
  refine last hrn ?_ s
  unfold sY
  grind
 ·unfold FW at e
  rw[if_pos rfl]at e
  split at e
  ·rename_i hs
   rw[Option.some.injEq]at e
   subst e
   have hrn:2=rn:=(aK s' (i:=0) rfl cZ (by decide)).len
   subst hrn
   have s:=fR s s'
   show cond true _ _
   rw[cond_true]
   show cond true _ _
   rw[cond_true]
   unfold yo
   show jy Q (n6 Q 2) _ _ _ _ _ _ _
   unfold jy
   apply rd s (i:=1) rfl
   refine Ct (f:=1) (hA.fr (au s)) hn (by decide) (λe=>by unfold FW at e;cases e) λro e g2 o2 rn rc w' s'=>?_
   unfold FW at e
   rw[if_neg (by decide),if_pos rfl,Option.some.injEq]at e
   subst e
   have hrn:=(aK s' (i:=0) rfl cZ (by decide)).len
   rw[List.length_cons]at hrn
   have s:=fR s s'
   show cond true _ _
   rw[cond_true]
   show cond false _ _
   rw[cond_false,bD]
   refine last rfl ?_ (bH (L':=[_,_]) [1,2] s rfl (by decide))
   rw[sY,vm,if_pos (vq.1 hs)]
  ·cases e
def anh {Q:Option Addr->Nat->Nat->Int->World->Prop}(s0:Sep F W w0 L)(hA:Sl w0 ca cn cc 1 bA cs)(hm:Tl.CX tw th cs=true)(hn:1<=cn/\cn<=1000)(h:∀g o rn rc w',Sep F W w' (aj (some ⟨g,o,none⟩) rn rc 5 1 (flat bA (sY cs).2)::L)->Fr No w0 w'->Q (some ⟨g,o,none⟩) rn rc 0 w'):
  GJ tw th ca cn cc w0 Q:=by
 apply abE
 refine aT (bt (F:=No)) λtb w s=>?_
 refine lI s 0 rfl (lI s 0 rfl (lS s 0 rfl ?_))
 refine Tl.Ck s (hA.fr (au s)).row λw s _=>?_
 rw[hm,Bool.not_true,cond_false]
 refine lI s 0 rfl (lI s 0 rfl (lS s 0 rfl ?_))
 refine aih (hA.fr (au s)) hn λb g o rn rc w' s'=>?_
 have s2:=fR s s'
 have s3:=bH (L':=[aj (some ⟨g,o,none⟩) rn rc 5 1 (flat bA (sY cs).2)]) [0] s2 rfl (by decide)
 exact h g o rn rc w' (fR s0 s3) (au s3)
end
end Go.Proofs.YtmegplnmiepfbaaGreatDoor.S
set_option maxRecDepth 20000
namespace Go.Proofs.YtmegplnmiepfbaaGreatDoor.S.At
open Go.Sx
open Go.Extern
def Rt (v:Value)(w:World):(ReflectliteType.typeOf #[.iface 240 v]).run P w=.ok (.iface 219 (rt 240)) w:=by kernel_rfl
def FL (v:Value)(w:World):(ReflectliteType.typeOf #[.iface 187 v]).run P w=.ok (.iface 219 (rt 187)) w:=by kernel_rfl
def FM (t:Addr)(w:World):(ReflectliteValue.unpack (.iface 188 (.pointer (some t)))).run P w
 =.ok (.agg #[.pointer (some ⟨8,188,none⟩),.pointer (sZ w.heap.size),.int .u64 150]) (w.alloc (.cells #[.pointer (some t)] 188)):=by kernel_rfl
def Dn (n:Int)(w:World):(ReflectliteValue.unpack (.iface 187 (ae n))).run P w
 =.ok (.agg #[.pointer (some ⟨8,187,none⟩),.pointer (sZ w.heap.size),.int .u64 130]) (w.alloc (.cells #[ae n] 187)):=by kernel_rfl
def Px (a:Addr)(w:World):(ReflectliteValue.methodAny (ReflectliteValue.valueError "reflectlite.Value.Type" 0) (λt _ _ _=>ReflectliteType.toType t) #[.agg #[.pointer (some ⟨8,188,none⟩),.pointer (some a),.int .u64 150]]).run P w
 =.ok (.iface 219 (rt 188)) w:=by kernel_rfl
def KR (w:World):((ReflectliteType.abiMethod λt=>(λa:Nat=>Value.int IntKind.u8 (a:Int))<$>Rtype.kind t) #[.pointer (some ⟨8,188,none⟩)]).run P w=.ok (.int .u8 22) w:=by kernel_rfl
def KT (w:World):((ReflectliteType.abiMethod λt=>(λa:Nat=>Value.int IntKind.u8 (a:Int))<$>Rtype.kind t) #[.pointer (some ⟨8,187,none⟩)]).run P w=.ok (.int .u8 2) w:=by kernel_rfl
def Pz (w:World):(ReflectliteType.method ReflectliteType.elem #[rt 188]).run P w=.ok (.iface 219 (rt 187)) w:=by kernel_rfl
def Vm (w:World):(ReflectliteType.relation "Implements" ReflectliteType.implements_ #[rt 187,.iface 219 (rt 74)]).run P w=.ok (.bool true) w:=by kernel_rfl
def acD (w:World):(ReflectliteType.relation "AssignableTo" ReflectliteType.assignableTo #[rt 240,.iface 219 (rt 187)]).run P w=.ok (.bool false) w:=by kernel_rfl
def PA (w:World):(ReflectliteType.relation "AssignableTo" ReflectliteType.assignableTo #[rt 187,.iface 219 (rt 187)]).run P w=.ok (.bool true) w:=by kernel_rfl
def acE (v:Value)(w:World):(Go.method (P.types.size+Made.depth) 240 v "Unwrap").run P w=.ok (321,v) w:=by kernel_rfl
abbrev vP (a:Addr):Value:=.agg #[.pointer (some ⟨8,188,none⟩),.pointer (some a),.int .u64 150]
abbrev vR (a:Addr):Value:=.agg #[.pointer (some ⟨8,187,none⟩),.pointer (some a),.int .u64 130]
abbrev vE (a:Addr):Value:=.agg #[.pointer (some ⟨8,187,none⟩),.pointer (some a),.int .u64 386]
def zh (a:Addr)(w:World):(ReflectliteValue.parts (vP a)).run P w=.ok (some (188,a,150)) w:=by kernel_rfl
def Ib (a:Addr)(w:World):(ReflectliteValue.parts (vR a)).run P w=.ok (some (187,a,130)) w:=by kernel_rfl
def Ic (a:Addr)(w:World):(ReflectliteValue.parts (vE a)).run P w=.ok (some (187,a,386)) w:=by kernel_rfl
def KU (a p:Addr)(w:World)(ha:w.cell? a=some (.pointer (some p))):(ReflectliteValue.method (ReflectliteValue.valueError "reflectlite.Value.IsNil" 0) ReflectliteValue.isNil #[vP a]).run P w=.ok (.bool false) w:=by
 rw[rlm]
 simp[Sem.run_bind,zh,Result.andThen]
 simp[ReflectliteValue.isNil,loadVar,isAgg,underlying,Go.Proofs.Tryz.underlying188,ha,Result.andThen]
def Ie (w:World):(Rtype.elem? 188).run P w=.ok (some 187) w:=by kernel_rfl
def aaM (p:Addr)(w:World):(ReflectliteValue.mk 187 p ReflectliteValue.flagAddr).run P w=.ok (vE p) w:=by kernel_rfl
def KV (a p:Addr)(w:World)(ha:w.cell? a=some (.pointer (some p))):(ReflectliteValue.method (ReflectliteValue.valueError "reflectlite.Value.Elem" 0) ReflectliteValue.elem #[vP a]).run P w=.ok (vE p) w:=by
 rw[rlm]
 simp[Sem.run_bind,zh,Result.andThen]
 simp[ReflectliteValue.elem,loadVar,isAgg,underlying,Go.Proofs.Tryz.underlying188,ha,Result.andThen,Ie,aaM]
def Ig (w:World):(Rtype.directlyAssignable 187 187).run P w=.ok true w:=by kernel_rfl
def Vq (t b:Addr)(n:Int)(old:Value)(w:World)(hb:w.cell? b=some (ae n))(ht:w.cell? t=some old)(hf:w.frozen? t=false):
  (ReflectliteValue.set #[vE t,vR b]).run P w=.ok (.tuple #[]) (w.setCell t (ae n)):=by
 rw[rls]
 simp[Sem.run_bind,Ic,Ib,Result.andThen]
 simp[ReflectliteValue.flagAddr,loadVar,isAgg,underlying,Go.Proofs.Tryz.underlying187,hb,Result.andThen,Ig,storeVar,Value.cells,storeCells,Addr.add]
 rw[run_store P w t _ _ (by rfl)]
 simp[ht,hf]
def aug {t:Nat}(ht:t=240)(v:Value)(xT:TypeId)(w:World):(Instr.typeAssert (.iface t v) xT 231 true).run P w=.ok (.tuple #[.nilIface,.bool false]) w:=by
 subst ht
 exact run_typeAssert_lacksB Go.Proofs.Tryz.underlying231 (by kernel_rfl) (by kernel_rfl) v xT w
def ati {t:Nat}(ht:t=240)(v:Value)(xT:TypeId)(w:World):(Instr.typeAssert (.iface t v) xT 224 true).run P w=.ok (.tuple #[.iface t v,.bool true]) w:=by
 subst ht
 exact run_typeAssert_hasB Go.Proofs.Tryz.underlying224 (by kernel_rfl) v xT w
def ax6:oK 321 fns=true:=by kernel_rfl
section
variable {w:World}{p n:Nat}{v:Value}
def aaL {Q:Value->World->Prop}(hv:w.cell? ((aZ p).add 1)=some v)(hp:Value.plain v=true)(k:Q v w):xV (cx n) (.iface 240 (.pointer (sZ p))) "Unwrap" [] w λv w=>dV v λr=>Q r w:=by
 refine⟨321,_,acE _ w,?_⟩
 unfold gX
 have h:CC (sZ p) w Q:=by
  apply LL
  refine ah (mj hv hp ?_)
  unfold dV
  grind
 exact h
end
attribute [local irreducible] sU callFunc Sem.run ReflectliteValue.method ReflectliteValue.set ReflectliteValue.unpack ReflectliteType.relation ReflectliteType.typeOf af cw bq bg aC cf bX St App cA cq cm bT bw aq bR av aj aV mapA
section
variable {F:Nat->Prop}{W w:World}{L:List As}{p r:Nat}{c v0:Int}
def PC {b:Addr}{K:Value->World->Prop}(hb:w.cell? b=some (ae c))(h:St (aZ r) (ae c) w λw=>K (.tuple #[]) w):sU P 139 #[vE (aZ r),vR b] w K:=by
 obtain⟨⟨u,hu⟩,hf,k⟩:=akm h
 have he:=Vq (aZ r) b c u w hb hu hf
 apply jI (w':=w.setCell (aZ r) (ae c)) aoR he
 exact k
def Vr {Q:Bool->World->Prop}{k tb:Nat}{a:Nat}(s:Sep F W w (av tb 161 [.pointer (some ⟨8,188,none⟩),.pointer (sZ a),.int .u64 150]::av a 188 [.pointer (sZ r)]::av r 187 [ae v0]::L))
  (hQ:∀w',Sep F W w' (av r 187 [ae c]::L)->Q true w'){target:Value}:iT Q (k+1) (.iface 187 (ae c)) target (.iface 219 (rt 187)) (aZ tb) w:=by
 show vU Q (iT Q k) _ _ _ _ _
 apply jI x95 (FL _ w)
 refine mO (Py _) Vo ag3 (PA w) ?_
 apply akj
 refine lP s 0 rfl (lP s 0 rfl (lI s 0 rfl ?_))
 apply jI aoQ (KV (aZ a) (aZ r) w (by have:=cg s (i:=1) (j:=0) rfl rfl rfl;exact this))
 apply Rw
 refine jI x97 (Dn c w) ?_
 apply Rw
 have s2:=sW (ai (ai s)) [ae c] 187
 have s2:=s2
 apply PC (c:=c) (by simp_all)
 refine ax s2 (i:=1) rfl rfl rfl λw s=>?_
 exact hQ w (ai s)
def ag8 {Q:Bool->World->Prop}{k tb:Nat}{a:Nat}(s:Sep F W w (av tb 161 [.pointer (some ⟨8,188,none⟩),.pointer (sZ a),.int .u64 150]::av a 188 [.pointer (sZ r)]::av r 187 [ae v0]::L))
  (hv:w.cell? ((aZ p).add 1)=some (.iface 187 (ae c)))
  (hQ:∀w',Sep F W w' (av r 187 [ae c]::L)->Q true w'){target:Value}:iT Q (k+2) (.iface 240 (.pointer (sZ p))) target (.iface 219 (rt 187)) (aZ tb) w:=by
 show vU Q (iT Q (k+1)) _ _ _ _ _
 apply jI x95 (Rt _ w)
 refine mO (Py _) Vo ag3 (acD w) ?_
 apply acG
 refine Ah (aug rfl _ _ _) (Ru rfl ?_)
 refine Ah (ati rfl _ _ _) (Ru rfl ?_)
 exact aaL hv rfl (sQ (Vr s hQ))
def KW {Q:Bool->World->Prop}(s:Sep F W w (av r 187 [ae v0]::L))(hv:∀w',Sep F W w' L->w'.cell? ((aZ p).add 1)=some (.iface 187 (ae c)))
  (h1:∀w',Sep F W w' L->w'.cell? (aZ 1)=some (.iface 219 (rt 74)))
  (hQ:∀w',Sep F W w' (av r 187 [ae c]::L)->Q true w'):
  m7 (.iface 240 (.pointer (sZ p))) (.iface 188 (.pointer (sZ r))) w Q:=by
 apply AG
 refine sQ (sQ ?_)
 refine jI x97 (FM (aZ r) w) ?_
 apply Rw
 have s:=sW s [.pointer (sZ r)] 188
 have s:=s
 generalize w.heap.size=a at s⊢
 generalize w.alloc (.cells #[.pointer (sZ r)] 188)=w1 at s⊢
 refine a_ s λvb w s=>?_
 refine sT s 0 rfl λw s=>?_
 refine sT s 0 rfl λw s=>?_
 refine ax s (i:=0) rfl rfl rfl λw s=>?_
 refine lP s 0 rfl (lP s 0 rfl (lI s 0 rfl ?_))
 apply jI x98 (Px (aZ a) w)
 refine mO (G5 _) PB acF (KR w) ?_
 apply akl
 refine lP s 0 rfl (lP s 0 rfl (lI s 0 rfl ?_))
 apply jI x99 (KU (aZ a) (aZ r) w (by have:=cg s (i:=1) (j:=0) rfl rfl rfl;exact this))
 apply acG
 refine mO (YS _) ag4 aoS (Pz w) ?_
 refine mO (G5 _) PB acF (KT w) ?_
 apply ap1
 apply mj (h1 w (ai (ai (ai s)))) rfl
 refine mO (acC _) ag5 aoT (Vm w) ?_
 apply akk
 refine lP s 0 rfl (lP s 0 rfl (lI s 0 rfl ?_))
 apply Fh
 have s:=ai s
 refine aT s λtb w s=>?_
 exact⟨2,ag8 s (hv w (ai (ai (ai s)))) hQ⟩
end
end Go.Proofs.YtmegplnmiepfbaaGreatDoor.S.At
set_option maxRecDepth 20000
namespace Go.Proofs.YtmegplnmiepfbaaGreatDoor.S.Pk
open Go.Sx
open Go.Extern
def FL (v:Value)(w:World):(ReflectliteType.typeOf #[.iface 268 v]).run P w=.ok (.iface 219 (rt 268)) w:=by kernel_rfl
def FM (t:Addr)(w:World):(ReflectliteValue.unpack (.iface 269 (.pointer (some t)))).run P w
 =.ok (.agg #[.pointer (some ⟨8,269,none⟩),.pointer (sZ w.heap.size),.int .u64 150]) (w.alloc (.cells #[.pointer (some t)] 269)):=by kernel_rfl
def Dn (n:Option Addr)(w:World):(ReflectliteValue.unpack (.iface 268 (.pointer n))).run P w
 =.ok (.agg #[.pointer (some ⟨8,268,none⟩),.pointer (sZ w.heap.size),.int .u64 150]) (w.alloc (.cells #[.pointer n] 268)):=by kernel_rfl
def Px (a:Addr)(w:World):(ReflectliteValue.methodAny (ReflectliteValue.valueError "reflectlite.Value.Type" 0) (λt _ _ _=>ReflectliteType.toType t) #[.agg #[.pointer (some ⟨8,269,none⟩),.pointer (some a),.int .u64 150]]).run P w
 =.ok (.iface 219 (rt 269)) w:=by kernel_rfl
def KR (w:World):((ReflectliteType.abiMethod λt=>(λa:Nat=>Value.int IntKind.u8 (a:Int))<$>Rtype.kind t) #[.pointer (some ⟨8,269,none⟩)]).run P w=.ok (.int .u8 22) w:=by kernel_rfl
def KT (w:World):((ReflectliteType.abiMethod λt=>(λa:Nat=>Value.int IntKind.u8 (a:Int))<$>Rtype.kind t) #[.pointer (some ⟨8,268,none⟩)]).run P w=.ok (.int .u8 22) w:=by kernel_rfl
def Pz (w:World):(ReflectliteType.method ReflectliteType.elem #[rt 269]).run P w=.ok (.iface 219 (rt 268)) w:=by kernel_rfl
def Vm (w:World):(ReflectliteType.relation "Implements" ReflectliteType.implements_ #[rt 268,.iface 219 (rt 74)]).run P w=.ok (.bool true) w:=by kernel_rfl
def PA (w:World):(ReflectliteType.relation "AssignableTo" ReflectliteType.assignableTo #[rt 268,.iface 219 (rt 268)]).run P w=.ok (.bool true) w:=by kernel_rfl
abbrev vP (a:Addr):Value:=.agg #[.pointer (some ⟨8,269,none⟩),.pointer (some a),.int .u64 150]
abbrev vR (a:Addr):Value:=.agg #[.pointer (some ⟨8,268,none⟩),.pointer (some a),.int .u64 150]
abbrev vE (a:Addr):Value:=.agg #[.pointer (some ⟨8,268,none⟩),.pointer (some a),.int .u64 406]
def zh (a:Addr)(w:World):(ReflectliteValue.parts (vP a)).run P w=.ok (some (269,a,150)) w:=by kernel_rfl
def Ib (a:Addr)(w:World):(ReflectliteValue.parts (vR a)).run P w=.ok (some (268,a,150)) w:=by kernel_rfl
def Ic (a:Addr)(w:World):(ReflectliteValue.parts (vE a)).run P w=.ok (some (268,a,406)) w:=by kernel_rfl
def KU (a p:Addr)(w:World)(ha:w.cell? a=some (.pointer (some p))):(ReflectliteValue.method (ReflectliteValue.valueError "reflectlite.Value.IsNil" 0) ReflectliteValue.isNil #[vP a]).run P w=.ok (.bool false) w:=by
 rw[rlm]
 simp[Sem.run_bind,zh,Result.andThen]
 simp[ReflectliteValue.isNil,loadVar,isAgg,underlying,Go.Proofs.Tryz.underlying269,ha,Result.andThen]
def Ie (w:World):(Rtype.elem? 269).run P w=.ok (some 268) w:=by kernel_rfl
def aaM (p:Addr)(w:World):(ReflectliteValue.mk 268 p ReflectliteValue.flagAddr).run P w=.ok (vE p) w:=by kernel_rfl
def KV (a p:Addr)(w:World)(ha:w.cell? a=some (.pointer (some p))):(ReflectliteValue.method (ReflectliteValue.valueError "reflectlite.Value.Elem" 0) ReflectliteValue.elem #[vP a]).run P w=.ok (vE p) w:=by
 rw[rlm]
 simp[Sem.run_bind,zh,Result.andThen]
 simp[ReflectliteValue.elem,loadVar,isAgg,underlying,Go.Proofs.Tryz.underlying269,ha,Result.andThen,Ie,aaM]
def Ig (w:World):(Rtype.directlyAssignable 268 268).run P w=.ok true w:=by kernel_rfl
def Vq (t b:Addr)(n:Option Addr)(old:Value)(w:World)(hb:w.cell? b=some (.pointer n))(ht:w.cell? t=some old)(hf:w.frozen? t=false):
  (ReflectliteValue.set #[vE t,vR b]).run P w=.ok (.tuple #[]) (w.setCell t (.pointer n)):=by
 rw[rls]
 simp[Sem.run_bind,Ic,Ib,Result.andThen]
 simp[ReflectliteValue.flagAddr,loadVar,isAgg,underlying,Go.Proofs.Tryz.underlying268,hb,Result.andThen,Ig,storeVar,Value.cells,storeCells,Addr.add]
 rw[run_store P w t _ _ (by rfl)]
 simp[ht,hf]
attribute [local irreducible] sU callFunc Sem.run ReflectliteValue.method ReflectliteValue.set ReflectliteValue.unpack ReflectliteType.relation ReflectliteType.typeOf af cw bq bg aC cf bX St App cA cq cm bT bw aq bR av aj aV mapA
section
variable {F:Nat->Prop}{W w:World}{L:List As}{p r:Nat}{c v0:Option Addr}
def auh {A B:Prop}(h:A):dI .u8 (.int .u8 22) λr=>cond (r !=20) A B:=h
def PC {b:Addr}{K:Value->World->Prop}(hb:w.cell? b=some (.pointer c))(h:St (aZ r) (.pointer c) w λw=>K (.tuple #[]) w):sU P 139 #[vE (aZ r),vR b] w K:=by
 obtain⟨⟨u,hu⟩,hf,k⟩:=akm h
 have he:=Vq (aZ r) b c u w hb hu hf
 apply jI (w':=w.setCell (aZ r) (.pointer c)) aoR he
 exact k
def Vr {Q:Bool->World->Prop}{k tb:Nat}{a:Nat}(s:Sep F W w (av tb 161 [.pointer (some ⟨8,269,none⟩),.pointer (sZ a),.int .u64 150]::av a 269 [.pointer (sZ r)]::av r 268 [.pointer v0]::L))
  (hQ:∀w',Sep F W w' (av r 268 [.pointer c]::L)->Q true w'){target:Value}:iT Q (k+1) (.iface 268 (.pointer c)) target (.iface 219 (rt 268)) (aZ tb) w:=by
 show vU Q (iT Q k) _ _ _ _ _
 apply jI x95 (FL _ w)
 refine mO (Py _) Vo ag3 (PA w) ?_
 apply akj
 refine lP s 0 rfl (lP s 0 rfl (lI s 0 rfl ?_))
 apply jI aoQ (KV (aZ a) (aZ r) w (by have:=cg s (i:=1) (j:=0) rfl rfl rfl;exact this))
 apply Rw
 refine jI x97 (Dn c w) ?_
 apply Rw
 have s2:=sW (ai (ai s)) [.pointer c] 268
 have s2:=s2
 apply PC (c:=c) (by simp_all)
 refine ax s2 (i:=1) rfl rfl rfl λw s=>?_
 exact hQ w (ai s)
def KW {Q:Bool->World->Prop}(s:Sep F W w (av r 268 [.pointer v0]::L))
  (h1:∀w',Sep F W w' L->w'.cell? (aZ 1)=some (.iface 219 (rt 74)))
  (hQ:∀w',Sep F W w' (av r 268 [.pointer c]::L)->Q true w'):
  m7 (.iface 268 (.pointer c)) (.iface 269 (.pointer (sZ r))) w Q:=by
 apply AG
 refine sQ (sQ ?_)
 refine jI x97 (FM (aZ r) w) ?_
 apply Rw
 have s:=sW s [.pointer (sZ r)] 269
 have s:=s
 generalize w.heap.size=a at s⊢
 generalize w.alloc (.cells #[.pointer (sZ r)] 269)=w1 at s⊢
 refine a_ s λvb w s=>?_
 refine sT s 0 rfl λw s=>?_
 refine sT s 0 rfl λw s=>?_
 refine ax s (i:=0) rfl rfl rfl λw s=>?_
 refine lP s 0 rfl (lP s 0 rfl (lI s 0 rfl ?_))
 apply jI x98 (Px (aZ a) w)
 refine mO (G5 _) PB acF (KR w) ?_
 apply akl
 refine lP s 0 rfl (lP s 0 rfl (lI s 0 rfl ?_))
 apply jI x99 (KU (aZ a) (aZ r) w (by have:=cg s (i:=1) (j:=0) rfl rfl rfl;exact this))
 apply acG
 refine mO (YS _) ag4 aoS (Pz w) ?_
 refine mO (G5 _) PB acF (KT w) ?_
 apply auh
 apply mj (h1 w (ai (ai (ai s)))) rfl
 refine mO (acC _) ag5 aoT (Vm w) ?_
 apply akk
 refine lP s 0 rfl (lP s 0 rfl (lI s 0 rfl ?_))
 apply Fh
 have s:=ai s
 refine aT s λtb w s=>?_
 exact⟨1,Vr s hQ⟩
end
end Go.Proofs.YtmegplnmiepfbaaGreatDoor.S.Pk
set_option maxRecDepth 20000
namespace Go.Proofs.YtmegplnmiepfbaaGreatDoor.S
open Go.Sx
attribute [local irreducible] af cw bq bg aC cf bX St Bx Al App cA cq cm bT aI bw aq bR av aj aV mapA
abbrev sw (a:Addr):Value:=.iface 401 (.pointer (some a))
attribute [local irreducible] sU xV in
theorem apd {w:World}{Q:Bool->World->Prop}{a b:Addr}{c:Bool}(he:∀(x y:Operand) (K:Bool->World->Prop),K c w->bT P .eql 74 x y (sw a) (sw b) w K)(hQ:Q c w):oR (sw a) (sw b) w Q:=by
 apply L0
 refine sQ (sQ ?_)
 apply jI x95 (adQ _ w)
 refine mO (ag1 _) amL as1 (ai4 w) ?_
 have h:v_ (sw a) (sw b) true w Q:=by
  apply LZ
  exact⟨1,ai5 (.inl rfl) he hQ⟩
 exact h
def As.nil {w:World}{Q:Bool->World->Prop}{v:Value}(hQ:Q false w):m7 .nilIface v w Q:=AG _ _ _ _ hQ
def atj {w:World}{Q:Bool->World->Prop}{a b:Option Addr}{n c m d:Nat}{xs ys:List Int}(hA:Sl w a n c 1 bA xs)(hB:Sl w b m d 1 bA ys)(hx:gA xs)(hy:gA ys)(h:Q (decide (xs=ys)) w):CK a n c b m d w Q:=by
 apply Wn
 refine W2 dW hA.row rfl rfl rfl rfl rfl rfl (aix ?_)
 refine W2 dW hB.row rfl rfl rfl rfl rfl rfl (aix ?_)
 rw[alr hx hy]
 exact h
abbrev BS (rb:Nat)(ba:Option Addr)(bn bc:Nat)(at_:Int):As:=av rb 265 [.slice ba bn bc,ae at_]
section
variable {W w w0:World}{L:List As}{lg:yS}{ba:Option Addr}{bn bc rb:Nat}{bs:List Int}{p n:Nat}
def acR {A B:Prop}(h:A):A2 .nilIface λb=>cond b A B:=h
def K3 {A B:Prop}(h:B):A2 .nilIface λb=>cond (!b) A B:=h
def PI {t:Nat}{v:Value}{A B:Prop}(h:A):A2 (.iface t v) λb=>cond (!b) A B:=h
def Ae {a:Addr}{K:Value->Prop}(k:K (sw a)):dV (sw a) K:=k
def RE {Q:Option Addr->Nat->Nat->Value->World->Prop}(hL:iK w0 lg)(hB:Sl w0 ba bn bc 1 bA bs)(EI:bn<=1000000000)(hp:p<=bn)(hn:n<=100000)(s:Sep No w0 w (BS rb ba bn bc p::L))
  (hno:bn-p<n->∀w',Sep No w0 w' (BS rb ba bn bc p::L)->Q none 0 0 (sw lg.a6) w')
  (hyes:p+n<=bn->∀a c w',Sl w' a n c 1 bA ((bs.drop p).take n)->Sep No w0 w' (BS rb ba bn bc ((p+n:Nat):Int)::L)->Q a n c .nilIface w'):nA (sZ rb) n w Q:=by
 apply MZ
 have s:=ay s
 refine ah (lS s 0 rfl (ah (lI s 0 rfl ?_)))
 rw[aJ]
 by_cases h:bn-p<n
 ·rw[bY]
  have s:=ay s
  have c6:=Fr.cell (au s) hL.v6 id
  exact mj c6 rfl ⟨c6,Ae (hno h _ s)⟩
 ·rw[bD]
  refine ah (lI s 0 rfl (ah (ax s (i:=0) rfl rfl rfl λw s=>?_)))
  have e:IntKind.wrap .i64 ((p:Int)+n)=((p+n:Nat):Int):=by
   rw[aJ]
   omega
  rw[e]at s
  have s:=ay s
  refine ah (lS s 0 rfl (ah (lI s 0 rfl (ah (lI s 0 rfl ?_)))))
  rw[aJ]
  refine(hB.fr (au s)).mid (p:=p) (by omega) rfl (by omega) (by omega) λa n' c en hs=>?_
  grind
def Xn {Q:Option Addr->Nat->Nat->Value->World->Prop}(hL:iK w0 lg)(hB:Sl w0 ba bn bc 1 bA bs)(EI:bn<=1000000000)(hp:p<=bn)(hn:n<=100000)(s:Sep No w0 w (BS rb ba bn bc p::L))
  (hno:bn-p<n->∀w',Sep No w0 w' (BS rb ba bn bc p::L)->Q none 0 0 (sw lg.a6) w')
  (FR:p+n<=bn->0∈(bs.drop p).take n->∀a c w',Sl w' a n c 1 bA ((bs.drop p).take n)->Sep No w0 w' (BS rb ba bn bc ((p+n:Nat):Int)::L)->Q a n c (sw lg.a5) w')
  (hyes:p+n<=bn->0∉(bs.drop p).take n->∀a c w',Sl w' a n c 1 bA ((bs.drop p).take n)->Sep No w0 w' (BS rb ba bn bc ((p+n:Nat):Int)::L)->Q a n c .nilIface w'):p9 (sZ rb) n w Q:=by
 apply Lh
 refine RE hL hB EI hp hn s (λh w s=>?_) λh a c w hs s=>?_
 ·exact sQ (Ae (hno h w s))
 ·apply acR
  apply Tl.GY hs.row (by omega)
  by_cases h0:(0:Int)∈(bs.drop p).take n
  ·rw[bY h0]
   have c5:=Fr.cell (au s) hL.v5 id
   exact mj c5 rfl (Ae (FR h h0 a c w hs s))
  ·rw[bD h0]
   exact hyes h h0 a c w hs s
def V6 {Q:Option Addr->Nat->Nat->Value->World->Prop}(hL:iK w0 lg)(s:Sep No w0 w L)(h:∀w',Sep No w0 w' L->Q none 0 0 (sw lg.a5) w'):bX (aZ 5) w.drew λx=>w.drew.cell? (aZ 5)=some x/\dV x λr=>Q none 0 0 r w.drew:=by
 have s:=ay s
 have c5:=Fr.cell (au s) hL.v5 id
 exact mj c5 rfl ⟨c5,Ae (h _ s)⟩
def ani {Q:Option Addr->Nat->Nat->Value->World->Prop}(hL:iK w0 lg)(hB:Sl w0 ba bn bc 1 bA bs)(EI:bn<=1000000000)(hr:gA bs)(hn:n<=256)
  (hno:pC n (bs.drop 1) [] 1=none->∀e p' w',(e=lg.a5\/e=lg.a6)->Sep No w0 w' (BS rb ba bn bc p'::L)->Q none 0 0 (sw e) w')
  (hyes:∀cs used,pC n (bs.drop 1) [] 1=some (cs,used)->∀a m c w',used<=bn->Sep No w0 w' (aj a m c 5 1 (flat bA cs)::BS rb ba bn bc (used:Nat)::L)->Q a m c .nilIface w'):
  ∀(j p:Nat) (oa:Option Addr) (on oc:Nat) (out:List Int) (w:World),n<=on+j->on<=n->p<=bn->pC n (bs.drop p) out p=pC n (bs.drop 1) [] 1->Sep No w0 w (aj oa on oc 5 1 (flat bA out)::BS rb ba bn bc p::L)->
   oX Q (j+1) (sZ rb) n oa on oc w:=by
 have hbl:=hB.len
 intro j
 induction j with
 |zero=>
  intro p oa on oc out w hj HW hp he s
  show oW _ _ _ _ _ _ _ _
  unfold oW
  have hol:=(aK s (i:=0) rfl cZ (by decide)).len
  rw[Md (by omega)]at he
  grind
 |succ j ih=>
  intro p oa on oc out w hj HW hp he s
  have hol:=(aK s (i:=0) rfl cZ (by decide)).len
  show oW _ _ _ _ _ _ _ _
  unfold oW
  by_cases hlt:on<n
  ·rw[bY]
   refine RE (n:=2) hL hB EI hp (by decide) (jN s) (λh w s=>?_) λh a c w hs s=>?_
   ·refine PI (Ae ?_)
    refine hno ?_ lg.a6 p w (.inr rfl) (gL s (.cons_cons _ (List.sublist_cons_self _ _)))
    rw[<-he]
    have h2:(bs.drop p).length<2:=by grind
    match hd:bs.drop p,h2 with
    |[],_=>unfold pC;grind
    |[x],_=>unfold pC;grind
   ·apply K3
    have s:=ay s
    have hs:=hs.drew
    obtain⟨x,y,rest,hd⟩:∃x y rest,bs.drop p=x::y::rest:=by
     have h2:2<=(bs.drop p).length:=by rw[List.length_drop];omega
     match hd:bs.drop p,h2 with
     |x::y::rest,_=>exact⟨x,y,rest,rfl⟩
    have aui:rest=bs.drop (p+2):=by
     rw[<-List.drop_drop,hd]
     rfl
    have hx:=hr x (List.mem_of_mem_drop (by rw[hd];simp))
    rw[hd]at hs he
    apply hs.Cv rfl (by decide)
    refine hs.El rfl (by decide) λad z hz hc=>?_
    have hz':z=y:=by
     have:([x,y]:List Int)[1]? =some z:=hz
     simpa using this.symm
    subst hz'
    have hc0:=hc 0 _ rfl
    refine aP hc0 ⟨hc0,?_⟩
    have e1:gi (List.take 2 (x::z::rest)) 0=x:=rfl
    rw[e1]
    rw[pC,vm]at he
    have bad:Dj n out x z=true->∀w',Sep No w0 w' (BS rb ba bn bc ((p+2:Nat):Int)::aj oa on oc 5 1 (flat bA out)::L)->Q none 0 0 (sw lg.a5) w':=λhb w' s'=>by
     rw[if_pos hb]at he
     exact hno he.symm lg.a5 _ w' (.inl rfl) (gL s' (.cons_cons _ (List.sublist_cons_self _ _)))
    by_cases hz0:z=0
    ·rw[dJ hz0,cond_true]
     exact V6 hL s (bad (by unfold Dj;rw[dJ hz0];rfl))
    rw[cM hz0,cond_false,aJ (n:=x),aJ,aJ]
    by_cases aqb:x+1>(n:Int)-on
    ·rw[bY aqb]
     exact V6 hL s (bad (by unfold Dj;rw[decide_eq_true (by omega)];simp))
    rw[bD aqb]
    have go:¬Dj n out x z=true->tJ (oX Q (j+1)) Q (sZ rb) n oa on oc (x+1) z w.drew:=λhb=>by
     rw[if_neg hb]at he
     refine aT s λxb w s=>?_
     have hX:=aa3 (ns:=[z]) s (i:=0) rfl
     have e2:x+1=(((x+1).toNat:Nat):Int):=by omega
     rw[e2]
     refine RD s hX (by omega) λra w s _=>?_
     have hR:=aK s (i:=0) rfl cZ (by decide)
     have s:=pk 4 [3,2,0] s
     refine agi (b:=0) s (by omega) (by simp) (by omega) hR λa' c' w s=>?_
     refine ih (p+2) a' (on+(x+1).toNat) c' _ w (by omega) (by omega) (by omega) ?_ (gL s (.cons_cons _ (.cons_cons _ (List.sublist_cons_self _ _))))
     rw[<-aui]
     exact he
    by_cases hpos:0<on
    ·rw[bY,aJ]
     have hO:=aK s (i:=1) rfl cZ (by decide)
     apply hO.Cv (k:=on-1) (by omega) (by omega)
     by_cases hl:gi out (on-1)=z
     ·rw[dJ hl,cond_true]
      exact V6 hL s (bad (by unfold Dj;rw[hol,decide_eq_true hpos,dJ hl];simp))
     ·rw[cM hl,cond_false]
      apply go
      rw[Dj,hol,cM hl,cM hz0,decide_eq_false (by omega)]
      simp
    ·rw[bD]
     apply go
     rw[Dj,hol,cM hz0,decide_eq_false (by omega),decide_eq_false hpos]
     simp
  ·rw[bD]
   rw[Md (by omega)]at he
   exact hyes out p he.symm oa on oc w hp s
def akE {Q:Option Addr->Nat->Nat->Value->World->Prop}(hL:iK w0 lg)(hB:Sl w0 ba bn bc 1 bA bs)(EI:1<=bn/\bn<=1000000000)(hr:gA bs)(hn:n<=256)(s:Sep No w0 w (BS rb ba bn bc 1::L))
  (hno:pC n (bs.drop 1) [] 1=none->∀e p' w',(e=lg.a5\/e=lg.a6)->Sep No w0 w' (BS rb ba bn bc p'::L)->Q none 0 0 (sw e) w')
  (hyes:∀cs used,pC n (bs.drop 1) [] 1=some (cs,used)->∀a m c w',used<=bn->Sep No w0 w' (aj a m c 5 1 (flat bA cs)::BS rb ba bn bc (used:Nat)::L)->Q a m c .nilIface w'):xj (sZ rb) n w Q:=by
 apply M0
 exact⟨n+1,ani hL hB EI.2 hr hn hno hyes n 1 none 0 0 [] w (by omega) (Nat.zero_le _) EI.1 rfl (bG s 5 1)⟩
end
end Go.Proofs.YtmegplnmiepfbaaGreatDoor.S
set_option maxRecDepth 20000
namespace Go.Proofs.YtmegplnmiepfbaaGreatDoor.S
open Go.Sx
attribute [local irreducible] af cw bq bg aC cf bX St Bx Al App cA cq cm bT aI bw aq bR av aj aV mapA
def arp {bs cs:List Int}{n used:Nat}(hn:1<=n)(hb:∀x∈bs,0<=x/\x<256)(hB:Jm n bs=some (cs,used)):cs.length=n/\(∀x∈cs,1<=x/\x<256)/\used<=bs.length:=by
 cases bs with
 |nil=>cases hB
 |cons f r=>
  rw[EB]at hB
  split at hB
  ·split at hB
   ·cases hB
   ·rename_i h1
    cases hB
    obtain⟨x,r',rfl⟩:∃x r',r=x::r':=by
     cases r with
     |nil=>grind
     |cons x r'=>grind
    have hx:=hb x (by simp)
    refine⟨by simp,λy hy=>?_,by simp⟩
    rw[List.mem_replicate]at hy
    have h3:y=x:=hy.2
    omega
  ·split at hB
   ·grind
   ·split at hB
    ·have:=Q7 n r [] 1 cs used (λx hx=>hb x (by simp[hx])) (by simp) (by simp) hB
     grind
    ·cases hB
section
variable {W w w0:World}{L:List As}{lg:yS}{ba:Option Addr}{bn bc rb:Nat}{bs:List Int}{n:Nat}
def akF {Q:Option Addr->Nat->Nat->Value->World->Prop}(hL:iK w0 lg)(hB:Sl w0 ba bn bc 1 bA bs)(EI:bn<=1000000000)(hr:gA bs)(hn:1<=n/\n<=256)(s:Sep No w0 w (BS rb ba bn bc 0::L))
  (hno:Jm n bs=none->∀a m c ns e p' w',(e=lg.a5\/e=lg.a6)->m<=256->Sl w' a m c 1 bA ns->Sep No w0 w' (BS rb ba bn bc p'::L)->Q a m c (sw e) w')
  (hyes:∀cs used,Jm n bs=some (cs,used)->∀a c w',used<=bn->Sl w' a n c 1 bA cs->Sep No w0 w' (BS rb ba bn bc (used:Nat)::L)->Q a n c .nilIface w'):xg (sZ rb) n w Q:=by
 apply M1
 have hbl:=hB.len
 have s:=s
 refine RE (n:=1) hL hB EI (Nat.zero_le _) (by decide) s (λh w s=>?_) λh a c w hs s=>?_
 ·have e0:bs=[]:=List.eq_nil_of_length_eq_zero (by omega)
  exact PI (Ae (hno (by rw[e0];rfl) none 0 0 [] lg.a6 _ w (.inr rfl) (Nat.zero_le _) tX s))
 ·apply K3
  obtain⟨f,r,rfl⟩:∃f r,bs=f::r:=by
   cases bs with
   |nil=>grind
   |cons f r=>grind
  apply hs.Cv rfl (by decide)
  have e1:gi (List.take 1 (List.drop 0 (f::r))) 0=f:=rfl
  rw[e1]
  have s:=s
  rw[List.length_cons]at hbl
  have hr1:=hr.cons
  rw[EB]at hno hyes
  by_cases f0:f=0
  ·rw[dJ f0,cond_true]
   rw[if_pos f0]at hno hyes
   refine Xn (n:=1) hL hB EI (by omega) (by decide) s (λh w s=>?_) (λh h0 a c w hs s=>?_) λh h0 a c w hs s=>?_
   ·have er:r=[]:=List.eq_nil_of_length_eq_zero (by omega)
    refine akC s (by omega) λra w s _=>Ae ?_
    have hA:=aK s (i:=0) rfl cZ (by decide)
    exact hno (if_pos (.inl er)) ra 0 0 [] lg.a6 _ w (.inr rfl) (Nat.zero_le _) hA (ai s)
   ·obtain⟨x,r',rfl⟩:∃x r',r=x::r':=by
     cases r with
     |nil=>simp at hbl;omega
     |cons x r'=>exact⟨x,r',rfl⟩
    have hx:x=0:=by
     have:(0:Int)∈[x]:=h0
     exact(List.mem_singleton.1 this).symm
    have hs:=hs
    refine RD s hs (by omega) λra w s _=>Ae ?_
    have hA:=aK s (i:=0) rfl cZ (by decide)
    exact hno (if_pos (.inr hx)) ra n n _ lg.a5 _ w (.inl rfl) hn.2 hA (ai s)
   ·obtain⟨x,r',rfl⟩:∃x r',r=x::r':=by
     cases r with
     |nil=>simp at hbl;omega
     |cons x r'=>exact⟨x,r',rfl⟩
    have hx:¬x=0:=λe=>h0 (by rw[e];exact List.mem_cons_self ..)
    have hs:=hs
    refine RD s hs (by omega) λra w s _=>?_
    have hA:=aK s (i:=0) rfl cZ (by decide)
    refine hyes _ 2 (if_neg λe=>e.elim (λe=>by cases e) hx) ra n w h hA (ai s)
  rw[cM f0,cond_false]
  rw[if_neg f0]at hno hyes
  by_cases f1:f=1
  ·rw[dJ f1,cond_true]
   rw[if_pos f1]at hno hyes
   refine Xn hL hB EI (by omega) (by omega) s (λh w s=>?_) (λh h0 a c w hs s=>?_) λh h0 a c w hs s=>?_
   ·exact Ae (hno (if_pos (.inl (by omega))) none 0 0 [] lg.a6 _ w (.inr rfl) (Nat.zero_le _) tX s)
   ·exact Ae (hno (if_pos (.inr h0)) a n c _ lg.a5 _ w (.inl rfl) hn.2 hs s)
   ·exact hyes _ (1+n) (if_neg λe=>e.elim (λe=>by omega) h0) a c w h hs s
  rw[cM f1,cond_false]
  rw[if_neg f1]at hno hyes
  by_cases f2:f=2
  ·rw[dJ f2,cond_true]
   rw[if_pos f2]at hno hyes
   refine akE hL hB (by omega) hr hn.2 s (λh e p' w he s=>Ae (hno h none 0 0 [] e p' w he (Nat.zero_le _) tX s)) λcs used h a m c w hu s=>?_
   have hA:=aK s (i:=0) rfl cZ (by decide)
   have hm:=(Q7 n r [] 1 cs used (λx hx=>hr1.2 x hx) (by simp) (by simp) h).1
   have:m=n:=by rw[<-hA.len,hm]
   subst this
   exact hyes cs used h a c w hu hA (ai s)
  ·rw[cM f2,cond_false]
   rw[if_neg f2]at hno
   exact V6 hL s λw' s=>hno rfl none 0 0 [] lg.a5 _ w' (.inl rfl) (Nat.zero_le _) tX s
end
section
variable {W w w0:World}{L:List As}{lg:yS}{ba:Option Addr}{bn bc rb:Nat}{bs:List Int}{n:Nat}{tw th:Int}
def acS {p:Nat}{v0 v1 v2:Value}{a b:Int}{c:Option Addr}{d e:Nat}{F:Nat->Prop}{t:TypeId}{K:Int->Int->Option Addr->Nat->Nat->World->Prop}(s:Sep F W w (av p t [v0,v1,v2]::L))(h:∀w',Sep F W w' L->K a b c d e w'):
  St ((aZ p).add 0) (ae a) w λw=>St ((aZ p).add 1) (ae b) w λw=>St ((aZ p).add 2) (.slice c d e) w λw=>af .i64 ((aZ p).add 0) w λa=>af .i64 ((aZ p).add 1) w λb=>aC ((aZ p).add 2) w λc d e=>K a b c d e w:=by
 refine sT s 0 rfl λw s=>?_
 refine sT s 0 rfl λw s=>?_
 refine ax s (i:=0) rfl rfl rfl λw s=>?_
 exact lI s 0 rfl (lI s 0 rfl (lS s 0 rfl (h w (ai s))))
def auj {a b:Addr}(hb:∃c t,w.heap[b.block]? =some (.cells c t (0,0)))(ha:∃c t,w.heap[a.block]? =some (.cells c t (0,0))):∃c:Bool,(c=true↔a=b)/\∀(x y:Operand) (K:Bool->World->Prop),K c w->bT P .eql 74 x y (sw a) (sw b) w K:=by
 by_cases h:a=b
 ·subst h
  exact⟨true,by simp,λx y K hk=>Vn hk⟩
 ·obtain⟨c1,t1,h1⟩:=ha
  obtain⟨c2,t2,h2⟩:=hb
  exact⟨false,by simp[h],λx y K hk=>aaK h h1 h2 hk⟩
def akG {Q:Int->Int->Option Addr->Nat->Nat->Value->World->Prop}{p':Int}{t6:Nat}{e:Addr}{t:Addr}{v0 v1 v2:Value}(hL:iK w0 lg)(he:e=lg.a5\/e=lg.a6)(s:Sep No w0 w (BS rb ba bn bc p'::av t6 84 [v0,v1,v2]::L))
  (h:∀fb co w',Sep No w0 w' (av fb 271 [ae p',ae co,sw e]::BS rb ba bn bc p'::L)->(co=2\/co=3)->Q 0 0 none 0 0 (.iface 268 (.pointer (sZ fb))) w'):
  mH Q (sZ rb) (aZ t6) (sw e) t w:=by
 refine sQ (ah (lI s 0 rfl (Ae ?_)))
 refine aT s λfb w s=>?_
 have k:=hL.fr (au s)
 apply mj k.v6 rfl
 obtain⟨c,hc,hq⟩:=auj (a:=e) k.b6 (by rcases he with rfl|rfl;exact k.b5;exact k.b6)
 apply apd hq
 cases c with
 |true=>
  refine ax s (i:=0) rfl rfl rfl λw s=>?_
  exact acS (pk 3 [2,0,1] s) λw s=>h fb 2 w s (.inl rfl)
 |false=>
  exact acS (pk 3 [2,0,1] s) λw s=>h fb 3 w s (.inr rfl)
def akH {Q:Int->Int->Option Addr->Nat->Nat->Value->World->Prop}(hL:iK w0 lg)(hB:Sl w0 ba bn bc 1 bA bs)(EI:bn<=1000000000)(hr:gA bs)(hw:1<=tw/\tw<=16)(hh:1<=th/\th<=16)(hn:(n:Int)=tw*th)(s:Sep No w0 w (BS rb ba bn bc 0::L))
  (hno:G0 bs n=none->∀fb p' co e w',(co=2\/co=3)->Sep No w0 w' (av fb 271 [ae p',ae co,sw e]::BS rb ba bn bc p'::L)->Q 0 0 none 0 0 (.iface 268 (.pointer (sZ fb))) w')
  (hyes:∀cs used,G0 bs n=some (cs,used)->∀ta tn tc w',used<=bn->Sep No w0 w' (aj ta tn tc 5 1 (flat bA cs)::BS rb ba bn bc (used:Nat)::L)->Q tw th ta tn tc .nilIface w'):xe (sZ rb) tw th w Q:=by
 apply M3
 have q1:=Int.mul_le_mul hw.1 hh.1 (by decide) (by omega)
 have q2:=Int.mul_le_mul hw.2 hh.2 (by omega) (by decide)
 rw[aJ,<-hn]
 refine a_ s λt6 w s=>?_
 have fail:∀{e:Addr} {t:Addr} {p':Int} {w:World},(e=lg.a5\/e=lg.a6)->G0 bs n=none->Sep No w0 w (BS rb ba bn bc p'::av t6 84 [ae 0,ae 0,.slice none 0 0]::L)->mH Q (sZ rb) (aZ t6) (sw e) t w:=λhe hg s=>
  akG hL he s λfb co w' s' TE=>hno hg fb _ co _ w' TE s'
 refine akF hL hB EI hr (by omega) (jN s) (λhb a m c ns e p' w he hm hA s=>?_) λcs used hb a c w hu hA s=>?_
 ·refine Kh s hA (by omega) λra rc w s _=>?_
  refine a_ s λtb w s=>?_
  refine sT s 0 rfl λw s=>?_
  refine sT s 0 rfl λw s=>?_
  refine sT s 0 rfl λw s=>?_
  apply sQ
  refine fail he ?_ (ai (ai s))
  rw[G0,hb]
 ·obtain⟨k1,k2,k3⟩:=arp (by omega) (λx hx=>hr x hx) hb
  refine Kh s hA (by omega) λra rc w s _=>?_
  refine a_ s λtb w s=>?_
  refine sT s 0 rfl λw s=>?_
  refine sT s 0 rfl λw s=>?_
  refine ax s (i:=0) rfl rfl rfl λw s=>?_
  apply acR
  refine lI s 0 rfl (lI s 0 rfl (lS s 0 rfl ?_))
  have hC:=aK s (i:=1) rfl cZ (by decide)
  refine anh s hC (Tl.Yn.2 ⟨hw,hh,by omega,λh0=>by grind⟩) (by omega) λg o pn pc w s _=>?_
  have s:=ay s
  refine ah (lS s 3 rfl (ah (lI s 3 rfl ?_)))
  refine(hB.fr (au s)).hi rfl hu λb' c' hS=>?_
  have hP:=aK s (i:=0) rfl cZ (by decide)
  apply atj hP hS (afN (λx hx=>by grind) (by omega)) (hr.take used)
  by_cases e:(sY cs).2=bs.take used
  ·rw[decide_eq_true e,Bool.not_true,cond_false]
   apply acR
   refine lI s 1 rfl (lI s 1 rfl (lS s 1 rfl ?_))
   refine acS (pk 5 [4,2,3] s) λw s=>?_
   refine hyes cs used ?_ ra n rc w hu s
   unfold G0
   grind
  ·rw[decide_eq_false e]
   have c5:=Fr.cell (au s) hL.v5 id
   refine mj c5 rfl (fail (.inl rfl) ?_ (pk 5 [3,4] s))
   unfold G0
   grind
def acT {F:Nat->Prop}{Q:Int->Int->Option Addr->Nat->Nat->Int->Int->World->Prop}(hL:iK w lg)(hB:Sl w ba bn bc 1 bA bs)(EI:bn<=1000000000)(hr:gA bs)(hw:1<=tw/\tw<=16)(hh:1<=th/\th<=16)(hn:(n:Int)=tw*th)(s0:Sep F W w L)
  (hno:G0 bs n=none->∀co w',(co=2\/co=3)->Sep F W w' L->Fr No w w'->Q 0 0 none 0 0 0 co w')
  (hyes:∀cs used,G0 bs n=some (cs,used)->∀ta tn tc w',used<=bn->Sep F W w' (aj ta tn tc 5 1 (flat bA cs)::L)->Fr No w w'->Q tw th ta tn tc (used:Nat) 0 w'):GI ba bn bc tw th w Q:=by
 apply abF
 refine a_ (bt (F:=No)) λtb w1 s=>?_
 rw[bD,bD,bD,bD]
 refine aT s λrb w1 s=>?_
 have c1:∀{w':World} {L':List As},Sep No w w' L'->w'.cell? (aZ 1)=some (.iface 219 (rt 74)):=λs=>(hL.fr (au s)).v1
 refine akH hL hB EI hr hw hh hn s (λhg fb p' co e w1 TE s=>?_) λcs used hg ta tn tc w1 hu s=>?_
 ·refine sT s 2 rfl λw1 s=>?_
  refine sT s 2 rfl λw1 s=>?_
  refine ax s (i:=2) rfl rfl rfl λw1 s=>?_
  refine a_ s λf w1 s=>?_
  have s:=s
  refine ax s (i:=0) rfl rfl rfl λw1 s=>?_
  refine Pk.KW s (λw' s'=>c1 s') λw1 s=>?_
  have s:=ay s
  refine lP s 0 rfl (ah (lI s 1 rfl ?_))
  refine sT s 3 rfl λw1 s=>?_
  refine sT s 3 rfl λw1 s=>?_
  refine ax s (i:=3) rfl rfl rfl λw1 s=>?_
  refine⟨dg s 1 rfl,dg s 0 rfl,dg s 1 rfl,dg s 0 rfl,?_⟩
  refine lI s 3 rfl (lI s 3 rfl (lS s 3 rfl ?_))
  have s':=bH (L':=[]) [] s rfl (by decide)
  exact hno hg co w1 TE (fR s0 s') (au s')
 ·refine sT s 2 rfl λw1 s=>?_
  refine sT s 2 rfl λw1 s=>?_
  refine ax s (i:=2) rfl rfl rfl λw1 s=>?_
  refine a_ s λf w1 s=>?_
  have s:=s
  refine ax s (i:=0) rfl rfl rfl λw1 s=>?_
  apply As.nil
  have s:=ay s
  refine lI s 3 rfl (lI s 3 rfl (lS s 3 rfl ?_))
  apply lI s 2 rfl
  refine sT s 3 rfl λw1 s=>?_
  refine sT s 3 rfl λw1 s=>?_
  refine ax s (i:=3) rfl rfl rfl λw1 s=>?_
  refine⟨dg s 2 rfl,?_⟩
  refine lI s 3 rfl (lI s 3 rfl (lS s 3 rfl ?_))
  have s':=bH (L':=[aj ta tn tc 5 1 (flat bA cs)]) [1] s rfl (by decide)
  exact hyes cs used hg ta tn tc w1 hu (fR s0 s') (au s')
end
section
variable {w h sc:Int}{M ts:List Int}{y tw p:Nat}
def ahm (hs:dG w h sc)(hM:(M.length:Int)=w*h){c:Nat}(hc:c<M.length):bE w h c:=⟨hs.1,by omega,by omega⟩
def ank (hs:dG w h sc)(hM:(M.length:Int)=w*h):D1 w h sc M ts 0=M:=by
 refine TK Kv λc hc=>?_
 rw[Kv]at hc
 rw[VQ hc,if_neg]
 rintro ⟨e,h0⟩
 have hC:=ahm hs hM hc
 have hl:=(jM hC).1
 have:=Int.ediv_nonneg hl (b:=aD w h sc) (by have:=(yK hs).1;omega)
 omega
def ahn (hs:dG w h sc)(O9:(tw:Int)=aD w h sc)(hy:(y:Int)<bu w h sc)(hp:(p:Int)=bU w h sc (y*aD w h sc)){c:Nat}(hC:bE w h c):
  (aB w h c=sc/\dA w h c/aD w h sc=y)↔(p<=c/\c<p+tw):=by
 have hz:=yK hs
 constructor
 ·rintro ⟨e,e2⟩
  have hg:=nI hC
  have hl:=jM hC
  have LS:=Int.emod_nonneg (dA w h c) (b:=aD w h sc) (by omega)
  have HB:=Int.emod_lt_of_pos (dA w h c) (b:=aD w h sc) (by omega)
  have hd:=Int.mul_ediv_add_emod (dA w h c) (aD w h sc)
  obtain⟨x,hx⟩:∃x:Nat,dA w h c%aD w h sc=x:=⟨(dA w h c%aD w h sc).toNat,by omega⟩
  rw[hx]at hd LS HB
  have:=GZ hs (y:=y) HB
  grind
 ·rintro ⟨h1,h2⟩
  have hx:((c-p:Nat):Int)<aD w h sc:=by omega
  have:=GZ hs (y:=y) hx
  have ec:bU w h sc (y*aD w h sc+(c-p:Nat))=c:=by omega
  have hl:0<=(y:Int)*aD w h sc+(c-p:Nat)/\(y:Int)*aD w h sc+(c-p:Nat)<aD w h sc*bu w h sc:=by
   have a:0<=(y:Int)*aD w h sc:=Int.mul_nonneg (by omega) (by omega)
   have b:((y:Int)+1)*aD w h sc<=bu w h sc*aD w h sc:=Int.mul_le_mul_of_nonneg_right (by omega) (by omega)
   grind
  have e1:=iG hs hl
  have e2:=E2 hs hl
  rw[ec]at e1 e2
  refine⟨e1,?_⟩
  rw[e2]
  exact(qW ⟨by omega,hx⟩).1
def ape (hs:dG w h sc)(hM:(M.length:Int)=w*h)(hts:(ts.length:Int)=aD w h sc*bu w h sc)(O9:(tw:Int)=aD w h sc)(hy:(y:Int)<bu w h sc)(hp:(p:Int)=bU w h sc (y*aD w h sc))(hpn:p+tw<=M.length):
  (D1 w h sc M ts y).take p++(ts.drop (y*tw)).take tw++(D1 w h sc M ts y).drop (p+tw)=D1 w h sc M ts ((y+1:Nat):Int):=by
 have hyt:y*tw+tw<=ts.length:=by
  have b:((y:Int)+1)*aD w h sc<=bu w h sc*aD w h sc:=Int.mul_le_mul_of_nonneg_right (by omega) (by omega)
  grind
 have hl:((D1 w h sc M ts y).take p++(ts.drop (y*tw)).take tw++(D1 w h sc M ts y).drop (p+tw)).length=M.length:=by
  simp[List.length_append,List.length_take,List.length_drop,Kv]
  omega
 refine TK (by rw[hl,Kv]) λc hc=>?_
 rw[hl]at hc
 have hC:=ahm hs hM hc
 have awk:=ahn hs O9 hy hp hC
 rw[VQ hc]
 by_cases hin:p<=c/\c<p+tw
 ·obtain⟨e1,e2⟩:=awk.2 hin
  have hlr:=jM hC
  have hd:=Int.mul_ediv_add_emod (dA w h c) (aD w h sc)
  rw[e2]at hd
  have hg:=nI hC
  rw[e1]at hg
  have LS:=Int.emod_nonneg (dA w h c) (b:=aD w h sc) (by omega)
  have HB:=Int.emod_lt_of_pos (dA w h c) (b:=aD w h sc) (by omega)
  obtain⟨x,hx⟩:∃x:Nat,dA w h c%aD w h sc=x:=⟨(dA w h c%aD w h sc).toNat,by omega⟩
  rw[hx]at hd HB
  have hgr:=GZ hs (y:=y) HB
  rw[Int.mul_comm,hd,hg,Int.mul_comm (aD w h sc)]at hgr
  unfold gi
  grind
 ·have e:(aB w h c=sc/\dA w h c/aD w h sc<((y+1:Nat):Int))↔(aB w h c=sc/\dA w h c/aD w h sc<(y:Int)):=by omega
  simp only[e]
  rw[<-VQ hc]
  unfold gi
  grind
end
section
variable {F:Nat->Prop}{W w w0:World}{L:List As}{mw mh sc:Int}{M ts:List Int}{ta:Option Addr}{tn tc g o mn mc:Nat}
def anl {Q:World->Prop}(hs:dG mw mh sc)(hM:(M.length:Int)=mw*mh)(hts:(ts.length:Int)=aD mw mh sc*bu mw mh sc)(hT:∀w',Sep F W w' L->Sl w' ta tn tc 1 bA ts)(s:Sep F W w (aj (some ⟨g,o,none⟩) mn mc 5 1 (flat bA M)::L))
  (h:∀w',Sep F W w' (aj (some ⟨g,o,none⟩) mn mc 5 1 (flat bA (agr mw mh sc M ts))::L)->Q w'):Fb mw mh (some ⟨g,o,none⟩) mn mc sc (aD mw mh sc) (bu mw mh sc) ta tn tc w Q:=by
 apply ZF
 have hz:=yK hs
 have hmn:=(aK s (i:=0) rfl cZ (by decide)).len
 refine aT s λmb w s=>?_
 refine aT s λtb w s=>?_
 refine lI s 1 rfl (lI s 1 rfl ?_)
 refine wH s λw s _=>?_
 apply lI s 0 rfl
 have hz1:0<aD mw mh sc*bu mw mh sc:=Int.mul_pos (by omega) (by omega)
 have eg:BY mw mh sc 0=bU mw mh sc 0:=if_pos ⟨hs,by omega,hz1⟩
 rw[eg]
 obtain⟨tw,O9⟩:∃tw:Nat,(tw:Int)=aD mw mh sc:=⟨(aD mw mh sc).toNat,by omega⟩
 obtain⟨th,hth⟩:∃th:Nat,(th:Int)=bu mw mh sc:=⟨(bu mw mh sc).toNat,by omega⟩
 have loop:∀(j y:Nat) (w:World),y+j=th->Sep F W w (av tb 84 [ae (aD mw mh sc),ae (bu mw mh sc),.slice ta tn tc]::av mb 25 [ae mw,ae mh,.slice (some ⟨g,o,none⟩) mn mc]::aj (some ⟨g,o,none⟩) mn mc 5 1 (flat bA (D1 mw mh sc M ts y))::L)->
   Dv Q (j+1) (aZ mb) (aZ tb) (bU mw mh sc 0) (bu mw mh sc) y w:=by
  intro j
  induction j with
  |zero=>
   intro y w hj s
   show z6 _ _ _ _ _ _ _ _
   rw[z6,bD]
   have:(y:Int)=bu mw mh sc:=by omega
   rw[this]at s
   exact h w (ai (ai s))
  |succ j ih=>
   intro y w hj s
   show z6 _ _ _ _ _ _ _ _
   rw[z6,bY]
   have s:=ay s
   have b1:((y:Int)+1)*aD mw mh sc<=bu mw mh sc*aD mw mh sc:=Int.mul_le_mul_of_nonneg_right (by omega) (by omega)
   rw[Int.add_mul,Int.one_mul,Int.mul_comm (bu mw mh sc)]at b1
   have b2:0<=(y:Int)*aD mw mh sc:=Int.mul_nonneg (by omega) (by omega)
   have b3:=Int.mul_le_mul hz.1.2 hz.2.1.2 (by omega) (by decide)
   have hC:=r7 hs ⟨b2,by omega⟩
   have hC2:=r7 hs (l:=y*aD mw mh sc+((tw-1:Nat):Int)) ⟨by omega,by omega⟩
   have hrow:=GZ hs (y:=y) (x:=tw-1) (by omega)
   obtain⟨p,hp⟩:∃p:Nat,(p:Int)=bU mw mh sc (y*aD mw mh sc):=⟨(bU mw mh sc (y*aD mw mh sc)).toNat,by have:=hC.2;omega⟩
   have hpn:p+tw<=M.length:=by have:=hC2.2;omega
   have e0:bU mw mh sc 0+(y:Int)*mw=p:=by
    rw[hp]
    unfold bU
    obtain⟨e3,e4⟩:=qW (w:=aD mw mh sc) (x:=0) (by omega)
    rw[Int.add_zero]at e3 e4
    rw[e3,e4]
    simp[Int.zero_ediv,Int.zero_emod,Int.add_zero,Int.add_mul]
    omega
   have hyw:0<=(y:Int)*mw/\(y:Int)*mw<=16*1024:=⟨Int.mul_nonneg (by omega) (by have:=hs.1.1;omega),Int.mul_le_mul (by omega) hs.1.1.2 (by have:=hs.1.1;omega) (by decide)⟩
   have hg0:=HH (r7 hs ⟨by omega,hz1⟩)
   refine lS s 1 rfl (lI s 1 rfl ?_)
   rw[aJ (n:=(y:Int)*mw),aJ,e0]
   have hcap:=PY s (i:=2) rfl
   apply NL rfl (by omega)
   rw[vm]
   refine lS s 0 rfl (lI s 0 rfl (lI s 0 rfl ?_))
   rw[KZ (by omega),aJ,wrap_i64 (by push_cast;rw[Int.add_mul];omega) (by push_cast;rw[Int.add_mul];omega)]
   have hTs:=hT _ (ai (ai (ai s)))
   have O8:=hTs.len
   have ey:((y*tw:Nat):Int)=(y:Int)*aD mw mh sc:=by push_cast;rw[O9]
   refine hTs.mid (q:=y*tw+tw) ey.symm (by push_cast;rw[Int.add_mul,O9];omega) (by omega) (by omega) λa n' c' en hS=>?_
   have en:n'=tw:=by omega
   subst en
   rw[show y*n'+n'-y*n'=n' by omega]at hS
   refine DI (p:=p) dW s rfl rfl rfl rfl (by decide) (i:=2) rfl (hS.src (e:=5) cZ Ag) (by omega) (by simp[Addr.add]<;>omega) λw s=>?_
   rw[show min n' (mn-p)=n' by omega]at s
   have est:(flat bA (D1 mw mh sc M ts y)).take (p*1)++(flat bA ((ts.drop (y*n')).take n')).take (n'*1)++(flat bA (D1 mw mh sc M ts y)).drop ((p+n')*1)=flat bA (D1 mw mh sc M ts ((y+1:Nat):Int)):=by
    rw[<-ape hs hM hts O9 (by omega) hp hpn]
    simp[XC,Nat.mul_one,List.map_append,List.map_take,List.map_drop]
    rw[List.take_take,Nat.min_self]
   rw[est]at s
   exact ih (y+1) w (by omega) s
 have s:=s
 rw[<-ank hs hM]at s
 exact⟨th+1,loop th 0 _ (by omega) s⟩
end
structure FX (bs:List Int):Prop where
 len:4<=bs.length
 wh:iX (AL bs) (AM bs)
 tail:∀bs' M,xo (AL bs) (AM bs) (d_ (AL bs) (AM bs)).toNat 0 (bs.drop 4) (List.replicate (AL bs*AM bs).toNat 0)=some (bs',M)->bs'=[]
def FX.get {bs:List Int}(h:FX bs):kL bs=(xo (AL bs) (AM bs) (d_ (AL bs) (AM bs)).toNat 0 (bs.drop 4) (List.replicate (AL bs*AM bs).toNat 0)).map λq=>⟨AL bs,AM bs,q.2⟩:=by
 rw[kL,if_neg (by have:=h.len;omega),if_pos h.wh]
 split
 ·rename_i bs' M hT
  rw[hT,h.tail _ _ hT,if_pos rfl]
  rfl
 grind
theorem _root_.Go.Sx.Sl.Elf{α:Type}{w0:World}{a:Option Addr}{n c size k:Nat}{f:α->List Value}{xs:List α}{idx:Int}{K:Addr->Prop}(h:Sl w0 a n c size f xs)(hk:idx=k)(hn:k<n)(hK:∀p x,xs[k]? =some x->(∀w,Fr No w0 w->∀j v,(f x)[j]? =some v->w.cell? ((p.add (idx.toNat*size)).add j)=some v)->K p):aH idx n (wA a K):=h.El hk hn λp x hx hc=>hK p x hx λw fr j v hv=>Fr.cell fr (hc j v hv) id
def awl:zc T 25=[ae 0,ae 0,.slice none 0 0]:=rfl
def Y8 {w:World}{mw mh:Int}{Q:Int->World->Prop}(hm:iX mw mh)(h:Q (d_ mw mh) w):DP mw mh w Q:=by
 apply XS
 apply qt
 have:=gD hm.1 hm.2
 unfold Ym ab0
 rw[if_pos hm,if_pos hm]
 unfold d_ at h this
 rw[aJ]
 exact h
section
variable {W w w0:World}{L:List As}{lg:yS}{ba:Option Addr}{bn bc:Nat}{bs:List Int}
def anm {Q:Int->Int->Option Addr->Nat->Nat->Value->World->Prop}{mw mh:Int}{mb p2 g o mn mc N:Nat}(hL:iK w0 lg)(hm:iX mw mh)(hN:(N:Int)=d_ mw mh){R:Option (List Int×List Int)}(auk:∀bs' M,R=some (bs',M)->bs'=[])
  (hno:R=none->∀tb i co w',Sep No w0 w' (av tb 242 [ae i,.iface 187 (ae co)]::[])->(co=2\/co=3)->Q 0 0 none 0 0 (.iface 240 (.pointer (sZ tb))) w')
  (hyes:∀M,R=some ([],M)->∀w',Sep No w0 w' (aj (some ⟨g,o,none⟩) mn mc 5 1 (flat bA M)::[])->Q mw mh (some ⟨g,o,none⟩) mn mc .nilIface w'):
  ∀(j i:Nat) (a:Option Addr) (n c:Nat) (bs M:List Int) (w:World),i+j=N->Sl w0 a n c 1 bA bs->n<=1000000000->gA bs->(M.length:Int)=mw*mh->xo mw mh j i bs M=R->Sep No w0 w (av mb 25 [ae mw,ae mh,.slice (some ⟨g,o,none⟩) mn mc]::av p2 25 [ae 0,ae 0,.slice none 0 0]::aj (some ⟨g,o,none⟩) mn mc 5 1 (flat bA M)::[])->
   B8 Q (j+1) a n c (aZ p2) (aZ mb) (d_ mw mh) i w:=by
 have uP:=gD hm.1 hm.2
 intro j
 induction j with
 |zero=>
  intro i a n c bs M w hj hB hn hr hM hR s
  show yu _ _ _ _ _ _ _ _ _ _
  rw[yu,bD]
  have hR:some (bs,M)=R:=hR
  have hb:=auk bs M hR.symm
  have hbl:=hB.len
  rw[bD (by grind)]
  refine lI s 0 rfl (lI s 0 rfl (lS s 0 rfl ?_))
  refine acS (bH (L':=[_,_]) [1,2] s rfl (by decide)) λw s=>?_
  grind
 |succ j ih=>
  intro i a n c bs M w hj hB hn hr hM hR s
  show yu _ _ _ _ _ _ _ _ _ _
  rw[yu,bY]
  have hs:dG mw mh i:=⟨hm,by omega,by omega⟩
  have hz:=yK hs
  refine lI s 0 rfl (lI s 0 rfl ?_)
  refine uK s λw s _=>?_
  have e1:XD mw mh i=aD mw mh i:=if_pos hs
  have e2:abj mw mh i=bu mw mh i:=if_pos hs
  rw[e1,e2]
  have q1:=Int.mul_le_mul hz.1.1 hz.2.1.1 (by decide) (by omega)
  rw[xo]at hR
  have fr:=au s
  refine acT (n:=(aD mw mh i*bu mw mh i).toNat) (hL.fr fr) (hB.fr fr) hn hr hz.1 hz.2.1 (by omega) s (λhg co w TE s _=>?_) λts used hg ta tn tc w hu s _=>?_
  ·rw[hg]at hR
   refine a_ s λtb w s=>?_
   refine sT s 0 rfl λw s=>?_
   refine sT s 0 rfl λw s=>?_
   refine sT s 0 rfl λw s=>?_
   rw[Fp (by omega),cond_true]
   refine aT s λeb w s=>?_
   refine acS (bH (L':=[_,_]) [3,0] s rfl (by decide)) λw s=>?_
   exact hno hR.symm eb i co w s TE
  ·rw[hg]at hR
   obtain⟨t1,t2,t3⟩:=alR (by omega) (λx hx=>hr x hx) hg
   refine a_ s λtb w s=>?_
   refine sT s 0 rfl λw s=>?_
   refine sT s 0 rfl λw s=>?_
   refine ax s (i:=0) rfl rfl rfl λw s=>?_
   refine lI s 2 rfl (lI s 2 rfl (lS s 2 rfl ?_))
   refine lI s 0 rfl (lI s 0 rfl (lS s 0 rfl ?_))
   refine anl hs hM (by omega) (λw' s'=>aK s' (i:=0) rfl cZ (by decide)) (bH (L':=[aj (some ⟨g,o,none⟩) mn mc 5 1 (flat bA M),aj ta tn tc 5 1 (flat bA ts),_,_]) [4,1,2,3] s rfl (by decide)) λw s=>?_
   refine hB.lo rfl hu λa' n' c' en hB'=>?_
   rw[KZ (by omega)]
   refine ih (i+1) a' n' c' _ _ w (by omega) hB' (by omega) (hr.drop used) (by rw[Q8];exact hM) ?_ (bH (L':=[_,_,_]) [2,3,0] s rfl (by decide))
   exact hR
def akI {Q:Int->Int->Option Addr->Nat->Nat->Value->World->Prop}(hL:iK w0 lg)(hB:Sl w0 ba bn bc 1 bA bs)(EI:bn<=1000000000)(hr:gA bs)(hh:FX bs)
  (hno:kL bs=none->∀tb i co w',Sep No w0 w' (av tb 242 [ae i,.iface 187 (ae co)]::[])->(co=2\/co=3)->Q 0 0 none 0 0 (.iface 240 (.pointer (sZ tb))) w')
  (hyes:∀m,kL bs=some m->∀ma mn mc w',Sep No w0 w' (aj ma mn mc 5 1 (flat bA m.cs)::[])->Q m.w m.h ma mn mc .nilIface w'):DN ba bn bc w0 Q:=by
 apply XZ
 have hbl:=hB.len
 have h4:=hh.len
 refine a_ (bt (F:=No)) λp2 w s=>?_
 rw[bD]
 have s:=ay s
 refine hB.Elf (k:=0) rfl (by omega) λd0 x0 hx0 c0=>aP (c0 _ (au s) 0 _ rfl) ?_
 refine hB.Elf (k:=1) rfl (by omega) λd1 x1 LS c1=>aP (c1 _ (au s) 0 _ rfl) ?_
 refine⟨by decide,?_⟩
 refine hB.Elf (k:=2) rfl (by omega) λd2 x2 HB c2=>aP (c2 _ (au s) 0 _ rfl) ?_
 refine hB.Elf (k:=3) rfl (by omega) λd3 x3 hx3 c3=>aP (c3 _ (au s) 0 _ rfl) ?_
 refine⟨by decide,?_⟩
 have r0:=hr x0 (List.mem_of_getElem? hx0)
 have r1:=hr x1 (List.mem_of_getElem? LS)
 have r2:=hr x2 (List.mem_of_getElem? HB)
 have r3:=hr x3 (List.mem_of_getElem? hx3)
 have eW:AL bs=x0+x1*256:=by
  rw[AL,<-aaQ hx0,<-aaQ LS]
  omega
 have eH:AM bs=x2+x3*256:=by
  rw[AM,<-aaQ HB,<-aaQ hx3]
  omega
 have i1:ior .i64 (IntKind.wrap .i64 x0) (Ai .i64 (IntKind.wrap .i64 x1) 8)=AL bs:=by
  rw[aJ,aJ,eW]
  exact O.ab1 (k:=8) (by decide) (by omega) r1
 have i2:ior .i64 (IntKind.wrap .i64 x2) (Ai .i64 (IntKind.wrap .i64 x3) 8)=AM bs:=by
  rw[aJ,aJ,eH]
  exact O.ab1 (k:=8) (by decide) (by omega) r3
 rw[i1,i2]
 refine a_ s λmb w s=>?_
 have fr:=au s
 refine⟨c3 _ fr 0 _ rfl,c2 _ fr 0 _ rfl,c1 _ fr 0 _ rfl,c0 _ fr 0 _ rfl,?_⟩
 have hwh:=oO hh.wh
 have uP:=gD hh.wh.1 hh.wh.2
 refine sT s 0 rfl λw s=>?_
 refine sT s 0 rfl λw s=>?_
 refine ax s (i:=0) rfl rfl rfl λw s=>?_
 refine lI s 0 rfl (lI s 0 rfl ?_)
 apply pA
 rw[decide_eq_true hh.wh,Bool.not_true,cond_false]
 refine hB.lo (m:=4) rfl (by omega) λa4 n4 c4 e4 hB4=>?_
 refine lI s 0 rfl (lI s 0 rfl ?_)
 rw[aJ]
 obtain⟨N,hN⟩:∃N:Nat,AL bs*AM bs=N:=⟨(AL bs*AM bs).toNat,by omega⟩
 rw[hN]
 refine uw (bytes:=1) dW s rfl rfl rfl rfl rfl rfl (by decide) cZ rfl (λu hu=>Ag 0 u hu) rfl rfl (Nat.le_refl _) (by omega) (by simp[maxLen];omega) λg w s=>?_
 refine ax s (i:=1) rfl rfl rfl λw s=>?_
 refine lI s 1 rfl (lI s 1 rfl ?_)
 apply Y8 hh.wh
 have hg:=hh.get
 have e0:(AL bs*AM bs).toNat=N:=by omega
 rw[e0]at hg
 have ht:=hh.tail
 rw[e0]at ht
 refine⟨(d_ (AL bs) (AM bs)).toNat+1,anm (N:=(d_ (AL bs) (AM bs)).toNat) hL hh.wh (by omega) ht (λhR=>hno (by rw[hg,hR];rfl)) (λM hR w' s'=>hyes ⟨AL bs,AM bs,M⟩ (by rw[hg,hR];rfl) _ _ _ w' s') _ 0 a4 n4 c4 (bs.drop 4) (List.replicate N 0) w (by omega) hB4 (by omega) (hr.drop 4) (by rw[List.length_replicate,hN]) rfl (bH (L':=[_,_,_]) [1,2,0] s rfl (by decide))⟩
def aa4 {F:Nat->Prop}{Q:Int->Int->Option Addr->Nat->Nat->Int->World->Prop}(hL:iK w lg)(hB:Sl w ba bn bc 1 bA bs)(EI:bn<=1000000000)(hr:gA bs)(hh:FX bs)(s0:Sep F W w L)
  (hno:kL bs=none->∀co w',(co=2\/co=3)->Sep F W w' L->Fr No w w'->Q 0 0 none 0 0 co w')
  (hyes:∀m,kL bs=some m->∀ma mn mc w',Sep F W w' (aj ma mn mc 5 1 (flat bA m.cs)::L)->Fr No w w'->Q m.w m.h ma mn mc 0 w'):E6 ba bn bc w Q:=by
 apply ZG
 refine a_ (bt (F:=No)) λp2 w1 s=>?_
 have fr0:=au s
 refine akI (hL.fr fr0) (hB.fr fr0) EI hr hh (λhg tb i co w1 s' TE=>?_) λm hg ma mn mc w1 s'=>?_
 ·have s:=fR s s'
  refine a_ s λmb w1 s=>?_
  refine sT s 0 rfl λw1 s=>?_
  refine sT s 0 rfl λw1 s=>?_
  refine sT s 0 rfl λw1 s=>?_
  refine a_ s λr w1 s=>?_
  have s:=s
  refine ax s (i:=0) rfl rfl rfl λw1 s=>?_
  have s:=bH (L':=[av r 187 [ae 0],av tb 242 [ae i,.iface 187 (ae co)],av p2 25 [ae 0,ae 0,.slice none 0 0]]) [0,2,3] s rfl (by decide)
  refine At.KW s (λw' s'=>kM s' (i:=0) rfl 1 _ rfl) (λw' s'=>(hL.fr (au s')).v1) λw1 s=>?_
  have s:=ay s
  apply lI s 0 rfl
  refine sT s 2 rfl λw1 s=>?_
  refine sT s 2 rfl λw1 s=>?_
  refine ax s (i:=2) rfl rfl rfl λw1 s=>?_
  refine⟨dg s 0 rfl,?_⟩
  refine lI s 2 rfl (lI s 2 rfl (lS s 2 rfl ?_))
  have s':=bH (L':=[]) [] s rfl (by decide)
  exact hno hg co w1 TE (fR s0 s') (au s')
 ·have s:=fR s s'
  refine a_ s λmb w1 s=>?_
  refine sT s 0 rfl λw1 s=>?_
  refine sT s 0 rfl λw1 s=>?_
  refine ax s (i:=0) rfl rfl rfl λw1 s=>?_
  refine a_ s λr w1 s=>?_
  have s:=s
  refine ax s (i:=0) rfl rfl rfl λw1 s=>?_
  apply As.nil
  refine lI s 1 rfl (lI s 1 rfl (lS s 1 rfl ?_))
  refine acS (bH (L':=[av p2 25 [ae 0,ae 0,.slice none 0 0],aj ma mn mc 5 1 (flat bA m.cs)]) [3,2] s rfl (by decide)) λw1 s=>?_
  exact hyes m hg ma mn mc w1 (fR s0 s) (au s)
end
end Go.Proofs.YtmegplnmiepfbaaGreatDoor.S
namespace Go.Proofs.YtmegplnmiepfbaaGreatDoor.S
open Go.Sx
def VE (q:pD):EG:=match q.o with
 |some m=>⟨m.fA,m.fc,0,0,0,0⟩
 |none=>⟨0,0,0,0,0,0⟩
def qe (q:pD):EG:=(q.past.add (VE q)).add ⟨0,0,q.sh.b,q.sh.h,q.sh.st,q.sh.ev⟩
def zi (q:pD):Int:=match q.o with
 |some m=>m.g.ep
 |none=>0
def atl (q:pD):Sg:=⟨[],[],q.sh.b,q.sh.h,q.sh.st,q.sh.ev⟩
def ldP (q:pD)(mp:bP):pD:=⟨q.k,atl q,some ⟨Nq mp (zi q),List.replicate (d_ mp.w mp.h).toNat 0,0,0,none,0⟩,q.past.add (VE q)⟩
def PJ (q:pD):pD:=⟨q.k,atl q,q.o.map λm=>⟨m.g,m.Ry,m.clean,m.fA,none,m.fc⟩,q.past⟩
def edP (q:pD)(c x:Int):pD:=⟨q.k,q.sh,q.o.map λm=>⟨wL m.g c x,m.Ry,m.clean,m.fA,m.kept,m.fc⟩,q.past⟩
noncomputable def yV (q:pD)(t sc:Int):pD:=match q.o with
 |some m=>FQ q m t sc
 |none=>q
noncomputable def FY (q:pD)(ps:List FV):pD:=ps.foldl (λq p=>yV q p.g p.s) q
def fY.ann (y:fY):tU y=VE y.p:=by
 unfold tU VE fY.p
 cases y.o<;>rfl
def fY.all_eq (y:fY):Vu y=qe y.p:=by
 unfold Vu qe
 rw[y.ann]
 rfl
def fY.akJ (y:fY):epO y.o=zi y.p:=by
 unfold epO zi fY.p
 cases y.o<;>rfl
def fY.aul (y:fY){x':Ac}{mp:bP}(h:x'.p=⟨[],[],y.x.b,y.x.h,y.x.st,y.x.ev⟩):(fY.mk y.k x' (some (ako y.o mp)) (y.past.add (tU y))).p=ldP y.p mp:=by
 unfold ldP fY.p
 simp only[Option.map_some]
 congr 1
 ·congr 1
  unfold kz.p ako ae9 Mz
  rw[y.akJ]
  simp only[List.map_replicate]
  rfl
 ·rw[y.ann]
  rfl
def fY.aum (y:fY){x':Ac}{m:kz}(ho:y.o=some m)(h:x'.p=⟨[],[],y.x.b,y.x.h,y.x.st,y.x.ev⟩):(fY.mk y.k x' (some ⟨m.g,m.ms,⟨none,m.f.fA⟩⟩) y.past).p=PJ y.p:=by
 unfold PJ fY.p
 rw[ho,h]
 rfl
def fY.arq (y:fY){x':Ac}(ho:y.o=none)(h:x'.p=⟨[],[],y.x.b,y.x.h,y.x.st,y.x.ev⟩):(fY.mk y.k x' none y.past).p=PJ y.p:=by
 unfold PJ fY.p
 rw[ho,h]
 rfl
def fY.aun (y:fY){m:kz}(ho:y.o=some m){c x:Int}:(fY.mk y.k y.x (some ⟨wL m.g c x,m.ms,m.f⟩) y.past).p=edP y.p c x:=by
 unfold edP fY.p
 rw[ho]
 rfl
def K4 {y:fY}{m:kz}(ho:y.o=some m):y.p.o=some m.p:=by
 rw[fY.p,ho]
 rfl
def RF {y:fY}{mp:zP}(h:y.p.o=some mp):∃m,y.o=some m/\m.p=mp:=by
 unfold fY.p at h
 simp_all
def field_eq {y:fY}{m:kz}(ho:y.o=some m){t sc:Int}:FQ y.p m.p t sc=yV y.p t sc:=by
 rw[yV,K4 ho]
def Hw {q:pD}{mp:zP}(h:q.o=some mp)(t sc:Int):∃Sm,(yV q t sc).o=some Sm/\Sm.g=mp.g:=by
 rw[yV,h]
 exact⟨_,rfl,rfl⟩
def FZ:∀(ps:List FV) {q:pD} {mp:zP},q.o=some mp->∃Sm,(FY q ps).o=some Sm/\Sm.g=mp.g
 |[],q,mp,h=>⟨mp,h,rfl⟩
 |p::ps,q,mp,h=>by
  obtain⟨m1,h1,e1⟩:=Hw h p.g p.s
  obtain⟨m2,h2,e2⟩:=FZ ps h1
  exact⟨m2,h2,e2.trans e1⟩
structure iR where
 most:Int
 b_:pD
 us:Option sP
structure Y9 where
 code:Int
 d:Int
 dir:Int
 id:Int
 F0:List (Int×Int)
 gone:List Int
def oM (c:Int):Y9:=⟨c,0,5,-1,[],[]⟩
noncomputable def nK (m:bP)(us:List aL):List Int:=us.map λu=>pB m u.goal u.cell
noncomputable def Sn (q:iR)(m:bP)(y:sP)(o:A6):iR×Y9:=
 if o.k=2 then
  if¬bE m.w m.h o.A then(q,oM 7)
  else if o.B<1\/255<o.B then(q,oM 8)
  else if o.B=255/\tV y.us o.A≠-1 then(q,oM 10)
  else(⟨q.most,edP q.b_ o.A o.B,some y⟩,oM 0)
 else if o.k=3 then
  if¬(bE m.w m.h o.A/\bE m.w m.h o.B)then(q,oM 7)
  else if cE m o.A=255 then(q,oM 9)
  else if oE m.w m.h y o.A o.B≠0 then(q,oM (oE m.w m.h y o.A o.B))
  else(⟨q.most,q.b_,some (KY y o.A o.B)⟩,⟨0,0,5,y.next,[],[]⟩)
 else if o.k=4 then
  match gC y.us o.A with
  |none=>(q,oM 12)
  |some u=>if¬bE m.w m.h o.B then(q,oM 7)else if u.cell=o.B then(⟨q.most,q.b_,some (kK y o.A)⟩,oM 13)else(⟨q.most,q.b_,some (vg y o.A λu=>⟨u.id,u.cell,o.B⟩)⟩,oM 0)
 else if o.k=5 then
  match gC y.us o.A with
  |none=>(q,oM 12)
  |some _=>(⟨q.most,q.b_,some (kK y o.A)⟩,oM 0)
 else if o.k=6 then
  if bE m.w m.h o.A/\bE m.w m.h o.B then(⟨q.most,yV q.b_ o.A (cP m o.B),some y⟩,⟨0,D m o.A o.B,pB m o.A o.B,-1,[],[]⟩)else(q,oM 7)
 else
  (⟨q.most,FY q.b_ (mq m.w m.h y.us),some (Hu m.w m.h y (nK m y.us))⟩,⟨0,0,5,-1,(cN m.w m.h [] (y.us.zip (nK m y.us))).2.1,(cN m.w m.h [] (y.us.zip (nK m y.us))).2.2⟩)
noncomputable def iS (q:iR)(o:A6):iR×Y9:=
 if o.k=0\/DK o=false then(q,oM 5)
 else if o.k=1 then
  match kL o.m with
  |none=>(q,oM 6)
  |some mp=>(⟨q.most,ldP q.b_ mp,some ⟨q.most,0,[]⟩⟩,oM 0)
 else if o.k=8 then(⟨q.most,PJ q.b_,q.us⟩,oM 0)
 else match q.b_.o,q.us with
  |some m,some y=>Sn q m.g.m y o
  |_,_=>(q,oM 4)
end Go.Proofs.YtmegplnmiepfbaaGreatDoor.S
set_option maxRecDepth 20000
namespace Go.Proofs.YtmegplnmiepfbaaGreatDoor.S
open Go.Sx
attribute [local irreducible] af cw bq bg aC cf bX St Bx Al App cA cq cm bT aI bw aq bR av aj aV mapA
def iiT:P.underlying 207=some (.map 3 3):=by kernel_rfl
def azy:zc T 211=[ae 0,ae 0,.slice none 0 0]:=rfl
def apf (w h:Int)(ms:List (Int×Int))(us:List aL):Prop:=nN ms/\∀u∈us,e7 ms u.id=some (dA w h u.cell)
structure ahp (m:bP) (us:List aL) (ms:List (Int×Int)):Prop where
 k:nN ms
 v:∀u∈us,∀d,e7 ms u.id=some d->d=pB m u.goal u.cell
section
variable {W w w0:World}{L:List As}{r:zO}{y:fY}{lg:yS}{la:Option Addr}{ln lc sp lb db:Nat}{us:List aL}{v0 v2:Value}{g:g7}{loc:List (Int×Int)}
def ids_eq {us:List aL}(h:(us.map (·.id)).Pairwise (·<·)){u v:aL}(hu:u∈us)(hv:v∈us)(e:u.id=v.id):u=v:=by
 obtain⟨i,hi⟩:=List.mem_iff_getElem?.1 hu
 obtain⟨j,hj⟩:=List.mem_iff_getElem?.1 hv
 have h1:=V4 h hi
 have h2:=V4 h hj
 grind
noncomputable abbrev EJ (sp:Nat)(v0:Value)(np:Nat)(v2:Value):As:=av sp 72 [v0,.pointer (sZ np),v2]
def apg {uz:Option Addr->Option Addr->Nat->Nat->Option Nat->Option Nat->Option Addr->Nat->Nat->Int->Int->World->Prop}{Q:Option Addr->Nat->Nat->Value->World->Prop}{s0:Option Addr}{fb:Nat}{ia pa ra:Option Addr}{iN ic pn pc rn rc i:Nat}{ids:List Int}{d0:Value}{t sc:Int}
  (hmay:c8 g.m)(hm:nH g.m.w g.m.h us)(hL:apf g.m.w g.m.h loc us)(hs:dG g.m.w g.m.h sc)(ht:bE g.m.w g.m.h t)(IP:∀x∈ids,∃u∈us,u.id=x/\u.goal=t/\aB g.m.w g.m.h u.cell=sc)(F1:∀u∈us,ir u.id)(hi:i<=1000000)(hiN:iN<=1000000)
  (hI:∀w',Sep No W w' L->Sl w' ia iN ic 1 one ids)(hR:∀w',Sep No W w' L->Sl w' ra rn rc 1 one (BO g.m t sc))(hF:∀w',Sep No W w' L->rz w' fb [d0,.slice ra rn rc])
  {dm0:List (Int×Int)}(next:∀Ia w',ahp g.m us Ia->(∀x,(e7 dm0 x).isSome=true->(e7 Ia x).isSome=true)->(∀x∈ids,(e7 Ia x).isSome=true)->Sep No W w' (fy eX vI lb loc::fy eX vI db Ia::L)->uz s0 la ln lc (some lb) (some db) pa pn pc (pn:Int) ((i+1:Nat):Int) w')
  :∀(j k:Nat) (dm:List (Int×Int)) (w:World),k+j=iN->ahp g.m us dm->(∀x,(e7 dm0 x).isSome=true->(e7 dm x).isSome=true)->(∀x∈ids.take k,(e7 dm x).isSome=true)->Sep No W w (fy eX vI lb loc::fy eX vI db dm::L)->
   rR uz Q (j+1) s0 la ln lc (some lb) (some db) (aZ fb) pa pn pc (pn:Int) i ia iN ic (iN:Int) k w:=by
 intro j
 induction j with
 |zero=>
  intro k dm w hj hD C8 hk s
  show oo uz Q _ _ _ _ _ _ _ _ _ _ _ _ _ _ _ _ _ _ _
  rw[oo,bD,KZ (by omega)]
  have hl:=(hI w (ai (ai s))).len
  grind
 |succ j ih=>
  intro k dm w hj hD C8 hk s
  show oo uz Q _ _ _ _ _ _ _ _ _ _ _ _ _ _ _ _ _ _ _
  rw[oo,bY]
  have sL:=ai (ai s)
  have hIw:=hI w sL
  have hl:=hIw.len
  apply hIw.pJ rfl (by omega)
  have hx:=gT (l:=ids) (i:=k) (by omega)
  obtain⟨u,hu,e1,e2,e3⟩:=IP _ (List.mem_of_getElem? hx)
  have xA:ids.take (k+1)=ids.take k++[gi ids k]:=by rw[List.take_add_one,hx];rfl
  generalize gi ids k=x at*
  subst e1
  have Hy:=hm.at_ u hu
  have h64:=F1 u hu
  have hlr:=jM Hy.1
  have Xa:=nI Hy.1
  rw[e3]at hlr Xa
  apply dz (hF w sL 1 _ rfl)
  refine Dz (K:=eX) iiT (aaC w) s (i:=0) rfl hL.1 h64 (λhn=>by rw[hL.2 u hu]at hn;cases hn) λz hz=>?_
  rw[hL.2 u hu]at hz
  cases hz
  apply Z3
  have hRw:=hR w sL
  have hrl:=hRw.len
  have hfl:(BO g.m t sc).length=(aD g.m.w g.m.h sc*bu g.m.w g.m.h sc).toNat:=by
   unfold BO nG
   have:=BG (m:=g.m) (sc:=sc)
   rw[List.length_map,List.length_range]
   omega
  apply hRw.pJ (k:=(dA g.m.w g.m.h u.cell).toNat) (by omega) (by omega)
  rw[ap4 hmay hs ht hlr,Xa,KZ (by omega)]
  refine KM (x:=u.id) iiT s (i:=1) rfl hD.k h64 λIa w hk' Dm _ s=>?_
  refine ih (k+1) Ia w (by omega) ⟨hk',λv hv d hd=>?_⟩ (λx hx=>?_) (λx hx=>?_) s
  ·rw[Dm]at hd
   split at hd
   ·rename_i e
    have:=ids_eq hm.ids hv hu e
    subst this
    cases hd
    rw[<-e2]
   ·exact hD.v v hv d hd
  ·rw[Dm]
   split
   ·rfl
   ·exact C8 x hx
  ·rw[xA]at hx
   rw[Dm]
   split
   ·rfl
   ·rename_i hne
    rcases List.mem_append.1 hx with hx|hx
    ·exact hk x hx
    ·exact(hne (List.mem_singleton.1 hx)).elim
end
def ahq {s d:Int}{N:Nat}:∀{l:List (Int×List Int)},(∀p∈l,p.2.length<=N)->∀p∈yU s d l,p.2.length<=N+1
 |[],_,p,hp=>by
  simp[yU,List.mem_singleton]at hp
  grind
 |q::l,h,p,hp=>by
  have h0:=h q (List.mem_cons_self ..)
  rw[yU]at hp
  split at hp
  ·grind
  ·rcases List.mem_cons.1 hp with rfl|hp
   ·omega
   ·exact ahq (λp hp=>h p (List.mem_cons_of_mem _ hp)) p hp
def ahr {g s d:Int}{N:Nat}:∀{st:zT},(∀q∈st,∀p∈q.2,p.2.length<=N)->∀q∈pU g s d st,∀p∈q.2,p.2.length<=N+1
 |[],_,q,hq,p,hp=>by
  simp[pU,List.mem_singleton]at hq
  grind
 |z::st,h,q,hq,p,hp=>by
  rw[pU]at hq
  split at hq
  ·rcases List.mem_cons.1 hq with rfl|hq
   ·exact ahq (h z (List.mem_cons_self ..)) p hp
   grind
  ·rcases List.mem_cons.1 hq with rfl|hq
   ·grind
   ·exact ahr (λq hq=>h q (List.mem_cons_of_mem _ hq)) q hq p hp
def ars {w h:Int}{us:List aL}{ps:List Ad}{p:Ad}(hps:ps.map K2=mq w h us)(hp:p∈ps):p.ids.length<=us.length:=by
 have key:∀(us:List aL) (st:zT) (N:Nat),(∀q∈st,∀p∈q.2,p.2.length<=N)->∀q∈us.foldl (RA w h) st,∀p∈q.2,p.2.length<=N+us.length:=by
  intro us
  induction us with
  |nil=>simp_all
  |cons u us ih=>
   intro st N h
   have:=ih _ _ (ahr (g:=u.goal) (s:=aB w ‹Int› u.cell) (d:=u.id) h)
   rw[List.length_cons]
   intro q hq p hp
   have:=this q hq p hp
   omega
 have h1:K2 p∈mq w h us:=by grind
 obtain⟨q,hq,h2⟩:=List.mem_flatMap.1 h1
 obtain⟨z,hz,e⟩:=List.mem_map.1 h2
 have h3:=key us [] 0 (λq hq=>by cases hq) q hq z hz
 have e2:z.2=p.ids:=congrArg FV.ids e
 grind
section
variable {W w w0:World}{L:List As}{r:zO}{y:fY}{lg:yS}{la:Option Addr}{ln lc sp lb db:Nat}{us:List aL}{v0 v2:Value}{g:g7}{loc:List (Int×Int)}
def ahs {F:Nat->Prop}{ps:List Ad}{p:Ad}{i:Nat}(s:Sep F W w (zU ps::L))(hp:ps[i]? =some p):Sl w p.q.a p.q.n p.q.c 1 one p.ids:=by
 have s:=(iW s).2
 exact aK s (i:=i) (by rw[List.getElem?_append_left (by grind),List.getElem?_map,hp];rfl) ct (by decide)
def aph {Q:Option Addr->Nat->Nat->Value->World->Prop}{dm:List (Int×Int)}{L':List As}(hm:nH g.m.w g.m.h us)(F1:∀u∈us,ir u.id)(pP:ln<=1000000)(hD:ahp g.m us dm)(hall:∀u∈us,(e7 dm u.id).isSome=true)(hU:∀w',Sep No W w' L'->Sl w' la ln lc 3 g8 us)
  (h:∀da dn dc w',Sep No W w' (aj da dn dc 3 1 (flat one (nK g.m us))::L')->Q da dn dc .nilIface w'):
  ∀(j i:Nat) (oa:Option Addr) (on oc:Nat) (w:World),i+j=ln->on<=i->Sep No W w (aj oa on oc 3 1 (flat one (nK g.m (us.take i)))::fy eX vI db dm::L')->
   rS Q (j+1) (some db) oa on oc la ln lc (ln:Int) i w:=by
 intro j
 induction j with
 |zero=>
  intro i oa on oc w hj HW s
  show ot _ _ _ _ _ _ _ _ _ _ _ _
  rw[ot,bD]
  have hl:=(hU w (ai (ai s))).len
  rw[List.take_of_length_le (by omega)]at s
  exact h oa on oc w (gL s (.cons_cons _ (List.sublist_cons_self _ _)))
 |succ j ih=>
  intro i oa on oc w hj HW s
  show ot _ _ _ _ _ _ _ _ _ _ _ _
  rw[ot,bY]
  refine(hU w (ai (ai s))).El rfl (by omega) λp u hu hc=>?_
  have hmem:=List.mem_of_getElem? hu
  refine Vz hc s λub w s=>?_
  apply lI s 0 rfl
  refine Dz (K:=eX) iiT (aaC w) s (i:=2) rfl hD.k (F1 u hmem) (λhn=>by grind) λd hd=>?_
  apply Z3
  rw[hD.v u hmem d hd,KZ (by omega)]
  have s:=ai s
  refine Ki s (by omega) λa' c' w s=>?_
  apply ih (i+1) a' (on+1) c' w (by omega) (by omega)
  have xA:us.take (i+1)=us.take i++[u]:=by rw[List.take_add_one,hu];rfl
  unfold nK at s⊢
  grind
def api {Q:Option Addr->Nat->Nat->Value->World->Prop}{ps:List Ad}{pa:Option Addr}{pn pc:Nat}(hLd:iK W lg)(hmay:c8 g.m)(hm:nH g.m.w g.m.h us)(F1:∀u∈us,ir u.id)(pP:ln<=100000)(awn:apf g.m.w g.m.h loc us)(hps:ps.map K2=mq g.m.w g.m.h us)(hU:∀w',Sep No W w' L->Sl w' la ln lc 3 g8 us)
  (h:∀r' y' da dn dc w',r'.p=r.p->y'.p=FY y.p (mq g.m.w g.m.h us)->Sep No W w' (aj da dn dc 3 1 (flat one (nK g.m us))::gW r' y'::EJ sp v0 r.p v2::L)->Q da dn dc .nilIface w'):
  ∀(j i:Nat) (r':zO) (y':fY) (m':kz) (dm:List (Int×Int)) (w:World),i+j=pn->r'.p=r.p->y'.p=FY y.p ((mq g.m.w g.m.h us).take i)->y'.o=some m'->m'.g=g->ahp g.m us dm->(∀p∈ps.take i,∀x∈p.ids,(e7 dm x).isSome=true)->
   Sep No W w (gW r' y'::EJ sp v0 r.p v2::fy eX vI lb loc::fy eX vI db dm::aj pa pn pc 211 3 (flat xS ps)::zU ps::L)->
   ow Q (j+1) (sZ sp) la ln lc (some lb) (some db) pa pn pc (pn:Int) i w:=by
 have Gb:=adY g.m.w g.m.h us
 have azz:ps.length=(mq g.m.w g.m.h us).length:=by grind
 intro j
 induction j with
 |zero=>
  intro i r' y' m' dm w hj er ey ho eg hD hd s
  show ou _ _ _ _ _ _ _ _ _ _ _ _ _ _
  rw[ou,bD]
  have hpn:=(aK s (i:=4) rfl tY (by decide)).len
  rw[List.take_of_length_le (by omega)]at ey hd
  have hUw:=hU w (ai (ai (ai (ai (ai (ai s))))))
  have s:=pk 6 [3,0,1] s
  have s:=bG s 3 1
  refine⟨ln+1,aph (L':=gW r' y'::EJ sp v0 r.p v2::L) hm F1 (by omega) hD (λu hu=>?_) (λw' s'=>hU w' (ai (ai s'))) (λda dn dc w' s'=>h r' y' da dn dc w' er ey s') ln 0 none 0 0 w (by omega) (Nat.zero_le _) s⟩
  obtain⟨p,hp,_,_,hx⟩:=VC.2 ⟨u,hu,rfl,rfl,rfl⟩
  rw[<-hps]at hp
  obtain⟨q,hq,rfl⟩:=List.mem_map.1 hp
  exact hd q hq u.id hx
 |succ j ih=>
  intro i r' y' m' dm w hj er ey ho eg hD hd s
  show ou _ _ _ _ _ _ _ _ _ _ _ _ _ _
  rw[ou,bY]
  have hP:=aK s (i:=4) rfl tY (by decide)
  have hpn:=hP.len
  have hul:=(hU w (ai (ai (ai (ai (ai (ai s))))))).len
  refine hP.El rfl (by omega) λad p hp hc=>?_
  have hmem:=List.mem_of_getElem? hp
  have htr:(mq g.m.w g.m.h us)[i]? =some (K2 p):=by rw[<-hps,List.getElem?_map,hp];rfl
  have xA:(mq g.m.w g.m.h us).take (i+1)=(mq g.m.w g.m.h us).take i++[K2 p]:=by rw[List.take_add_one,htr];rfl
  have awo:ps.take (i+1)=ps.take i++[p]:=by rw[List.take_add_one,hp];rfl
  obtain⟨u0,hu0,e1,e2⟩:=aky (List.mem_of_getElem? htr)
  have Hy:=hm.at_ u0 hu0
  have ht:bE g.m.w g.m.h p.g:=by rw[<-show u0.goal=p.g from e1];exact Hy.2
  have hs:dG g.m.w g.m.h p.s:=by rw[<-show aB g.m.w g.m.h u0.cell=p.s from e2];exact bS Hy.1
  have uP:=gD hm.wh.1 hm.wh.2
  have MF:Lr.Xf (p.g,p.s):=⟨ir.wf (zQ ht),ir.wf (by have:=hs.2;unfold ir;omega)⟩
  have IP:∀x∈p.ids,∃u∈us,u.id=x/\u.goal=p.g/\aB g.m.w g.m.h u.cell=p.s:=λx hx=>by
   obtain⟨u,hu,k1,k2,k3⟩:=VC.1 ⟨K2 p,List.mem_of_getElem? htr,rfl,rfl,hx⟩
   exact⟨u,hu,k3,k1,k2⟩
  refine aP (hc 0 _ rfl) (aP (hc 1 _ rfl) (dz (hc 2 _ rfl) ?_))
  refine a_ s λpb w s=>?_
  refine sT s 0 rfl λw s=>?_
  refine sT s 0 rfl λw s=>?_
  refine ax s (i:=0) rfl rfl rfl λw s=>?_
  have s:=ay s
  subst eg
  refine ah (lP s 2 rfl (lI s 0 rfl (lI s 0 rfl ?_)))
  rw[<-er]at s⊢
  have fin:∀{r2:zO} {y2:fY} {da ra:Option Addr} {dc rc fb:Nat} {w:World},r2.p=r'.p->y2.p=FQ y'.p m'.p p.g p.s->
    Sep No W w (av fb 213 [.slice da (dx m'.g.m p.s).length dc,.slice ra (dx m'.g.m p.s).length rc]::aj ra (dx m'.g.m p.s).length rc 3 1 (flat one (BO m'.g.m p.g p.s))::aj da (dx m'.g.m p.s).length dc 3 1 (flat one (FP m'.g.m p.g p.s))::gW r2 y2::av pb 211 [ae p.g,ae p.s,.slice p.q.a p.q.n p.q.c]::EJ sp v0 r'.p v2::fy eX vI lb loc::fy eX vI db dm::aj pa pn pc 211 3 (flat xS ps)::zU ps::L)->
    oq (ow Q (j+1)) Q (sZ sp) la ln lc (some lb) (some db) (aZ pb) (aZ fb) 0 pa pn pc (pn:Int) i w:=λ{r2 y2 da ra dc rc fb w} er2 PK s=>by
   unfold oq
   apply lS s 4 rfl
   have hI0:=ahs (pk 10 [9] s) hp
   have Ed:=hI0.len
   have vq:p.q.n<=1000000:=by
    rw[<-Ed]
    exact Nat.le_trans (ars hps hmem) (by omega)
   have s:=pk 10 [6,7,0,1,9,8,3,5] s
   obtain⟨m2,ho2,em2⟩:=RF (by rw[PK];rfl)
   have eg2:m2.g=m'.g:=by
    have:=congrArg zP.g em2
    exact this
   refine⟨p.q.n+1,apg
    hmay hm awn hs ht IP F1 (by omega) vq (λw' s'=>ahs (ai (ai s')) hp) (λw' s'=>aK s' (i:=1) rfl ct (by decide)) (λw' s'=>kM s' (i:=0) rfl) (λIa w' hD' h0 h1 s'=>?_) p.q.n 0 dm w (by omega) hD (λx hx=>hx) (λx hx=>by cases hx) s⟩
   refine ih (i+1) r2 y2 m2 Ia w' (by omega) (er2.trans er) ?_ ho2 eg2 hD' (λq hq x hx=>?_) ?_
   ·rw[PK,xA,field_eq ho,ey]
    unfold FY
    rw[List.foldl_append]
    rfl
   ·rw[awo]at hq
    rcases List.mem_append.1 hq with hq|hq
    ·exact h0 x (hd q hq x hx)
    ·rw[List.mem_singleton.1 hq]at hx
     exact h1 x hx
   ·rw[<-er]
    exact fT (A:=[_,_,_,_,_,_,_,_]) (B:=[_,_,_,_,_,_]) [6,7,0,1,5,4] s' rfl (by decide)
  constructor
  ·have s:=pk 7 [1,0,2,3,4,5,6] s
   refine MG ho hLd s ht hs MF λr2 y2 da dc ra rc w er2 PK s=>?_
   refine a_ s λfb w s=>?_
   refine⟨dg s 4 rfl,dg s 4 rfl,dg s 5 rfl,?_⟩
   refine sT s 0 rfl λw s=>?_
   refine ax s (i:=0) rfl rfl rfl λw s=>?_
   exact fin er2 PK s
  ·refine a_ s λfb w s=>?_
   refine⟨dg s 1 rfl,dg s 1 rfl,dg s 3 rfl,?_⟩
   have s:=pk 8 [2,0,1,3,4,5,6,7] s
   refine MG ho hLd s ht hs MF λr2 y2 da dc ra rc w er2 PK s=>?_
   have s:=pk 10 [3,0,1,2,4,5,6,7,8,9] s
   refine sT s 0 rfl λw s=>?_
   refine ax s (i:=0) rfl rfl rfl λw s=>?_
   exact fin er2 PK s
end
section
variable {W w w0:World}{L:List As}{r:zO}{y:fY}{lg:yS}{la:Option Addr}{ln lc sp:Nat}{us:List aL}{v0 v2:Value}{m:kz}
def acU {Q:Option Addr->Nat->Nat->Value->World->Prop}(hLd:iK W lg)(ho:y.o=some m)(hm:nH m.g.m.w m.g.m.h us)(F1:∀u∈us,ir u.id)(pP:ln<=100000)(hU:∀w',Sep No W w' L->Sl w' la ln lc 3 g8 us)(s:Sep No W w (gW r y::EJ sp v0 r.p v2::L))
  (h:∀r' y' da dn dc w',r'.p=r.p->y'.p=FY y.p (mq m.g.m.w m.g.m.h us)->Sep No W w' (aj da dn dc 3 1 (flat one (nK m.g.m us))::gW r' y'::EJ sp v0 r.p v2::L)->Q da dn dc .nilIface w'):
  wZ (sZ sp) la ln lc w Q:=by
 apply Ni
 refine ah (lP s 1 rfl ?_)
 have k:=sv s ho
 have hg:=(k.ok.m m ho).g
 refine PD s k λw s _=>?_
 refine YL s 207 eX vI λlb w s=>?_
 have awp:∀{us:List aL},ahp m.g.m us []:=⟨List.nodup_nil,λu _ d h=>by cases h⟩
 have loop:∀(j i:Nat) (loc:List (Int×Int)) (w:World),i+j=ln->apf m.g.m.w m.g.m.h loc (us.take i)->Sep No W w (fy eX vI lb loc::gW r y::EJ sp v0 r.p v2::L)->
   tP Q (j+1) (sZ sp) la ln lc m.g.m.w m.g.m.h (some lb) la ln lc (ln:Int) i w:=by
  intro j
  induction j with
  |zero=>
   intro i loc w hj hL s
   show o_ _ _ _ _ _ _ _ _ _ _ _ _ _ _ _
   rw[o_,bD]
   refine YL s 207 eX vI λdb w s=>?_
   have hUw:=hU w (ai (ai (ai (ai s))))
   have hl:=hUw.len
   rw[List.take_of_length_le (by omega)]at hL
   refine Y7 s hUw (by omega) hm λoa on oc ps w htr s _=>?_
   have s:=pk 6 [4,5,3,2,0,1] s
   exact⟨on+1,api hLd hg.may hm F1 pP hL htr hU h on 0 r y m [] w (by omega) rfl (by rw[List.take_zero];rfl) ho rfl awp (λp hp=>by cases hp) s⟩
  |succ j ih=>
   intro i loc w hj hL s
   show o_ _ _ _ _ _ _ _ _ _ _ _ _ _ _ _
   rw[o_,bY]
   refine(hU w (ai (ai (ai s)))).El rfl (by omega) λp u hu hc=>?_
   have hmem:=List.mem_of_getElem? hu
   refine Vz hc s λub w s=>?_
   have s:=ay s
   refine lI s 0 rfl (lI s 0 rfl ?_)
   refine sM s λw s _=>⟨dg s 0 rfl,?_⟩
   refine KM iiT s (i:=1) rfl hL.1 (F1 u hmem) λloc' w hk' Dm _ s=>?_
   rw[KZ (by omega)]
   refine ih (i+1) loc' w (by omega) ⟨hk',λv hv=>?_⟩ (ai s)
   have xA:us.take (i+1)=us.take i++[u]:=by rw[List.take_add_one,hu];rfl
   rw[xA]at hv
   rw[Dm]
   by_cases e:v.id=u.id
   ·have hvu:v∈us:=by
     rcases List.mem_append.1 hv with hv|hv
     ·exact List.mem_of_mem_take hv
     ·rw[List.mem_singleton.1 hv];exact hmem
    rw[if_pos e,ids_eq hm.ids hvu hmem e]
   ·rw[if_neg e]
    rcases List.mem_append.1 hv with hv|hv
    ·exact hL.2 v hv
    ·exact(e (by rw[List.mem_singleton.1 hv])).elim
 exact⟨ln+1,loop ln 0 [] w (by omega) ⟨List.nodup_nil,λu hu=>by cases hu⟩ s⟩
end
structure Gs where
 p:Nat
 b_:zO
 cr:CrR
structure AU where
 most:Int
 b_:fY
 cr:Option Gp
def AU.p (y:AU):iR:=⟨y.most,y.b_.p,y.cr.map (·.y)⟩
def crV (r:Gs)(o:Option Gp):Option Addr:=match o with
 |some _=>sZ r.cr.p
 |none=>none
noncomputable def akK (r:Gs)(o:Option Gp):List As:=match o with
 |some x=>[fO r.cr x]
 |none=>[]
noncomputable abbrev aht (r:Gs)(y:AU):As:=EJ r.p (ae y.most) r.b_.p (.pointer (crV r y.cr))
noncomputable def auo (r:Gs)(y:AU):List As:=aht r y::gW r.b_ y.b_::akK r y.cr
structure ahu (y:AU):Prop where
 most:1<=y.most/\y.most<=65536
 no:y.cr=none↔y.b_.o=none
 cr:∀x m,y.cr=some x->y.b_.o=some m->x.w=m.g.m.w/\x.h=m.g.m.h/\x.y.most=y.most
noncomputable def g9 (r:Gs)(y:AU):As:=aV (ahu y) (auo r y)
section
variable {F:Nat->Prop}{W w:World}{L:List As}{r:Gs}{y:AU}
def Jy (s:Sep F W w (g9 r y::L)):ahu y/\Sep F W w (aht r y::gW r.b_ y.b_::(akK r y.cr++L)):=iW s
def ahv (s:Sep F W w (g9 r y::L))(h:y.cr=none):ahu y/\y.b_.o=none/\Sep F W w (EJ r.p (ae y.most) r.b_.p (.pointer none)::gW r.b_ y.b_::L):=by
 obtain⟨ok,s⟩:=Jy s
 refine⟨ok,ok.no.1 h,?_⟩
 unfold aht akK crV at s
 grind
def uQ {x:Gp}(s:Sep F W w (g9 r y::L))(h:y.cr=some x):ahu y/\(∃m,y.b_.o=some m/\x.w=m.g.m.w/\x.h=m.g.m.h/\x.y.most=y.most)/\Sep F W w (EJ r.p (ae y.most) r.b_.p (.pointer (sZ r.cr.p))::gW r.b_ y.b_::fO r.cr x::L):=by
 obtain⟨ok,s⟩:=Jy s
 refine⟨ok,?_,?_⟩
 ·cases hn:y.b_.o with
  |none=>rw[ok.no.2 hn]at h;cases h
  |some m=>exact⟨m,rfl,ok.cr x m h hn⟩
 ·unfold aht akK crV at s
  grind
def zj {most:Int}{n:fY}{x:Gp}{m:kz}(s:Sep F W w (EJ r.p (ae most) r.b_.p (.pointer (sZ r.cr.p))::gW r.b_ n::fO r.cr x::L))(hm:1<=most/\most<=65536)(ho:n.o=some m)(hx:x.w=m.g.m.w/\x.h=m.g.m.h/\x.y.most=most):Sep F W w (g9 r ⟨most,n,some x⟩::L):=by
 refine dX s ⟨hm,⟨(λe=>by cases e),λe=>?_⟩,λx' m' ex em=>?_⟩
 all_goals grind
def ad3 {most:Int}{n:fY}(s:Sep F W w (EJ r.p (ae most) r.b_.p (.pointer none)::gW r.b_ n::L))(hm:1<=most/\most<=65536)(ho:n.o=none):Sep F W w (g9 r ⟨most,n,none⟩::L):=
 dX s ⟨hm,⟨λ_=>ho,λ_=>rfl⟩,λx' m' ex em=>by cases ex⟩
def So {Q:Option Addr->World->Prop}{k most:Int}(hk:1<=k/\k<=100000)(hm:1<=most/\most<=65536)(s:Sep F W w L)
  (h:∀r y w',y.p=⟨most,⟨k,⟨[],[],0,0,0,0⟩,none,⟨0,0,0,0,0,0⟩⟩,none⟩->Sep F W w' (g9 r y::L)->Q (sZ r.p) w'):Ds k most w Q:=by
 apply aer
 rw[bD,bD,bD]
 refine aeW hk s λnr x w ex s=>?_
 refine aT s λp w s=>?_
 refine h ⟨p,nr,⟨0,⟨0,0,none,0,0,[],[]⟩,⟨0,none,0,0,0⟩⟩⟩ ⟨most,⟨k,x,none,⟨0,0,0,0,0,0⟩⟩,none⟩ w ?_ (ad3 s hm rfl)
 unfold AU.p fY.p
 grind
end
abbrev K5 (c:Int):Value:=.iface 108 (ae c)
def F2 (lg:yS)(e:Value)(c:Int):Prop:=(c=0/\e=.nilIface)\/(c≠0/\e=K5 c)\/(c=5/\e=sw lg.a0)
def aa5 {lg:yS}{e:Value}{c:Int}{K:Value->Prop}(h:F2 lg e c)(k:K e):dV e K:=by
 rcases h with⟨_,rfl⟩|⟨_,rfl⟩|⟨_,rfl⟩<;>exact k
def ahw {lg:yS}{w:World}{c:Int}{Q:Value->World->Prop}(h:∀e,F2 lg e c->Q e w):fW c w Q:=by
 apply DX
 by_cases e:c=0
 ·rw[dJ e,cond_true]
  exact h _ (.inl ⟨e,rfl⟩)
 ·rw[cM e,cond_false]
  exact h _ (.inr (.inl ⟨e,rfl⟩))
def qK {lg:yS}{c:Int}(h:c≠0):F2 lg (K5 c) c:=.inr (.inl ⟨h,rfl⟩)
section
variable {W w w0:World}{L:List As}{lg:yS}{r:Gs}{y:AU}{x:Gp}{m:kz}{ob:Nat}{kind c:Int}{e:Value}
def azA:zc T 108=[ae 0]:=rfl
def akL {Q:Int->World->Prop}(hL:iK W lg)(he:F2 lg e c)(hc:c≠0)(s:Sep No W w (av ob 80 [ae kind,e]::L))(h:∀w',Sep No W w' (av ob 80 [ae kind,e]::L)->Q c w'):
  B0 (.iface 78 (.pointer (sZ ob))) w Q:=by
 apply abZ
 refine a_ s λrb w s=>?_
 have k:=hL.fr (au s)
 apply mj k.v0 rfl
 have hv:=kM s (i:=1) rfl 1 _ rfl
 rcases he with⟨h0,_⟩|⟨_,rfl⟩|⟨h5,rfl⟩
 ·grind
 ·apply Rv (.inl rfl) (.inr rfl) hv (λx y K hk=>as2 (by decide) hk)
  refine KW s (λw' s'=>kM s' (i:=0) rfl 1 _ rfl) (λw' s'=>(hL.fr (au s')).v1) λw s=>?_
  exact lI s 0 rfl (h w (ai s))
 ·apply Rv (.inl rfl) (.inl rfl) hv (λx y K hk=>Vn hk)
  rw[cond_true,<-h5]
  exact h w (ai s)
def akM {Q:Value->World->Prop}{a:Option Addr}{n c:Nat}{bs:List Int}(hL:iK W lg)(hB:∀w',Sep No W w' L->Sl w' a n c 1 bA bs)(hn:n<=1000000000)(hr:gA bs)(hh:FX bs)(m6:∀mp,kL bs=some mp->mp.w*mp.h<=1600)(W9:zi y.p.b_<1000000000)
  (s:Sep No W w (g9 r y::L))(hno:kL bs=none->∀w',Sep No W w' (g9 r y::L)->Q (K5 6) w')
  (hyes:∀mp,kL bs=some mp->∀r' y' w',r'.p=r.p->y'.p=⟨y.most,ldP y.p.b_ mp,some ⟨y.most,0,[]⟩⟩->Sep No W w' (g9 r' y'::L)->Q .nilIface w'):
  wV (sZ r.p) a n c w Q:=by
 apply M4
 have ok:=(Jy s).1
 have hBw:=hB w (ai s)
 refine aa4 (hL.fr (au s)) hBw hn hr hh s (λhg co w TE s _=>?_) λmp hg ma mn mc w s _=>?_
 ·refine a_ s λmb w s=>?_
  refine sT s 0 rfl λw s=>?_
  refine sT s 0 rfl λw s=>?_
  refine sT s 0 rfl λw s=>?_
  rw[Fp (by omega),cond_true]
  exact hno hg w (ai s)
 ·have hmay:=adw (λx hx=>hr x hx) hg
  refine a_ s λmb w s=>?_
  refine sT s 0 rfl λw s=>?_
  refine sT s 0 rfl λw s=>?_
  refine ax s (i:=0) rfl rfl rfl λw s=>?_
  rw[wG rfl,cond_false]
  have s:=ay s
  obtain⟨_,so⟩:=Jy (pk 3 [2,0,1] s)
  have so:=so
  have s:Sep No W _ (gW r.b_ y.b_::aht r y::av mb 25 [ae mp.w,ae mp.h,.slice ma mn mc]::aj ma mn mc 5 1 (flat bA mp.cs)::L):=
   cz (gL so (.cons_cons _ (.cons_cons _ (List.sublist_append_right _ _)))) (List.Perm.swap _ _ _)
  refine ah (lP s 1 rfl ?_)
  refine lI s 2 rfl (lI s 2 rfl (lS s 2 rfl ?_))
  refine acJ hmay hmay.bytes (m6 mp hg) (λw' s'=>aK s' (i:=2) rfl cZ (by decide)) (by rw[y.b_.akJ];exact W9) s λnr x' w er ex s=>?_
  have s:=ay s
  refine lI s 2 rfl (lI s 2 rfl (ah (lI s 1 rfl ?_)))
  refine aaX ⟨hmay.w,hmay.h⟩ ok.most s λcr ws w s=>?_
  refine ah (ax s (i:=2) rfl rfl rfl λw s=>?_)
  refine ahw (lg:=lg) λe he=>?_
  have he:e=.nilIface:=by
   rcases he with⟨_,h⟩|⟨h,_⟩|⟨h,_⟩
   all_goals grind
  subst he
  have s:=fT (A:=[_,_,_,_,_]) (B:=[EJ r.p (ae y.most) nr.p (.pointer (sZ cr.p)),_,_]) [2,1,0] s (by rw[er];rfl) (by decide)
  refine hyes mp hg ⟨r.p,nr,cr⟩ ⟨y.most,_,some ⟨mp.w,mp.h,⟨y.most,0,[]⟩,ws⟩⟩ w rfl ?_ (zj s ok.most rfl ⟨rfl,rfl,rfl⟩)
  show iR.mk _ _ _=iR.mk _ _ _
  rw[y.b_.aul ex]
  rfl
def G7 {x':Gp}{cr:CrR}(ok:ahu y)(hx:x.w=m.g.m.w/\x.h=m.g.m.h/\x.y.most=y.most)(uP:y.cr=some x)(ho:y.b_.o=some m)(hx':x'.w=x.w/\x'.h=x.h/\x'.y.most=x.y.most)(ec:cr.p=r.cr.p)(s:Sep No W w (fO cr x'::EJ r.p (ae y.most) r.b_.p (.pointer (sZ r.cr.p))::gW r.b_ y.b_::L)):
  Sep No W w (g9 ⟨r.p,r.b_,cr⟩ ⟨y.most,y.b_,some x'⟩::L):=by
 have s:=fT (A:=[_,_,_]) (B:=[EJ r.p (ae y.most) r.b_.p (.pointer (sZ cr.p)),_,_]) [1,2,0] s (by rw[ec];rfl) (by decide)
 exact zj s ok.most ho ⟨hx'.1.trans hx.1,hx'.2.1.trans hx.2.1,hx'.2.2.trans hx.2.2⟩
end
def Jz {w:World}{Q:Value->World->Prop}(h:Q .nilIface w):fW 0 w Q:=DX _ _ _ h
def JA {w:World}{c:Int}{Q:Value->World->Prop}(hc:c≠0)(h:Q (K5 c) w):fW c w Q:=by
 apply DX
 grind
def afa {m:bP}(hm:c8 m){c:Int}:cE m c=0↔¬bE m.w m.h c:=by
 constructor
 ·intro h hc
  have:=Kt hm hc
  omega
 ·intro h
  rw[cE,if_neg λe=>h ⟨⟨hm.w,hm.h⟩,e.1,by rw[<-hm.len];exact e.2⟩]
abbrev K6 (d dir id:Int)(ma:Option Addr)(mn mc:Nat)(ga:Option Addr)(gn gc:Nat):List Value:=[ae 0,ae d,ae dir,ae id,.slice ma mn mc,.slice ga gn gc,.int .u64 0,.int .u64 0,.int .u64 0,.int .u64 0,.int .u64 0,.int .u64 0]
abbrev DoK (lg:yS)(W:World)(rp:Nat)(ab:Nat)(L:List As)(Q:Value->World->Prop)(q:iR×Y9):Prop:=
 ∀r' y' e ma mn mc ga gn gc w',r'.p=rp->y'.p=q.1->F2 lg e q.2.code->Sep No W w' (aj ma mn mc 51 2 (flat k9 q.2.F0)::aj ga gn gc 3 1 (flat one q.2.gone)::g9 r' y'::av ab 34 (K6 q.2.d q.2.dir q.2.id ma mn mc ga gn gc)::L)->Q e w'
section
variable {W w w0:World}{L:List As}{lg:yS}{r:Gs}{y:AU}{x:Gp}{m:kz}{ab:Nat}{A B k:Int}{e:Value}{a:Option Addr}{n c:Nat}
def VF {Q:Value->World->Prop}{q:iR×Y9}{r':Gs}{y':AU}(h:DoK lg W r.p ab L Q q)(er:r'.p=r.p)(ey:y'.p=q.1)(he:F2 lg e q.2.code)(hm:q.2.F0=[])(hg:q.2.gone=[])(s:Sep No W w (g9 r' y'::av ab 34 (K6 q.2.d q.2.dir q.2.id none 0 0 none 0 0)::L)):Q e w:=by
 have s:=bG (bG s 3 1) 51 2
 apply h r' y' e none 0 0 none 0 0 w er ey he
 rw[hm,hg]
 exact s
def ahx {Q:Value->World->Prop}{ob:Nat}{v0 v2 v3:Value}(ho:y.b_.o=some m)(uP:y.cr=some x)(s:Sep No W w (av ob 38 [v0,ae A,v2,v3]::g9 r y::L))(h7:¬bE m.g.m.w m.g.m.h A->∀w',Sep No W w' (g9 r y::L)->Q (K5 7) w')(h0:bE m.g.m.w m.g.m.h A->∀w',Sep No W w' (g9 r y::L)->Q .nilIface w'):
  rL Q (sZ r.p) (aZ ob) w:=by
 have s:=ay s
 obtain⟨ok,_,so⟩:=uQ (ai s) uP
 refine ah (lP so 0 rfl (lI s 0 rfl ?_))
 have kn:=sv (ai so) ho
 have hmay:=(kn.ok.m m ho).g.may
 apply G6 kn
 by_cases hc:bE m.g.m.w m.g.m.h A
 ·rw[cM (λe=>(afa hmay).1 e hc),cond_false]
  exact h0 hc _ (ai s)
 ·rw[dJ ((afa hmay).2 hc),cond_true]
  exact h7 hc _ (ai s)
def aii {Q:Value->World->Prop}(hx:k=2\/k=3->∃x m,y.cr=some x/\y.b_.o=some m)(s:Sep No W w (g9 r y::L))
  (h7:∀m,y.b_.o=some m->(k=2/\¬bE m.g.m.w m.g.m.h A)\/(k=3/\¬(bE m.g.m.w m.g.m.h A/\bE m.g.m.w m.g.m.h B))->∀w',Sep No W w' (g9 r y::L)->Q (K5 7) w')
  (h0:(∀m,y.b_.o=some m->(k=2->bE m.g.m.w m.g.m.h A)/\(k=3->bE m.g.m.w m.g.m.h A/\bE m.g.m.w m.g.m.h B))->∀w',Sep No W w' (g9 r y::L)->Q .nilIface w'):
  vz (sZ r.p) k A B a n c w Q:=by
 apply Lg
 refine aT s λob w s=>?_
 apply lI s 0 rfl
 by_cases k3:k=3
 ·rw[dJ k3,cond_true]
  obtain⟨x,m,uP,ho⟩:=hx (.inr k3)
  have s:=ay s
  obtain⟨ok,_,so⟩:=uQ (ai s) uP
  refine ah (lP so 0 rfl (lI s 0 rfl ?_))
  have kn:=sv (ai so) ho
  have hmay:=(kn.ok.m m ho).g.may
  apply G6 kn
  by_cases hc:bE m.g.m.w m.g.m.h B
  ·rw[cM (λe=>(afa hmay).1 e hc),cond_false]
   refine ahx ho uP s (λhA w s=>h7 m ho (.inr ⟨k3,λe=>hA e.1⟩) w s) λhA w s=>h0 (λm' hm'=>?_) w s
   grind
  ·rw[dJ ((afa hmay).2 hc),cond_true]
   exact h7 m ho (.inr ⟨k3,λe=>hc e.2⟩) _ (ai s)
 rw[cM k3,cond_false]
 by_cases k2:k=2
 ·rw[dJ k2,cond_true]
  obtain⟨x,m,uP,ho⟩:=hx (.inl k2)
  refine ahx ho uP s (λhA w s=>h7 m ho (.inl ⟨k2,hA⟩) w s) λhA w s=>h0 (λm' hm'=>?_) w s
  grind
 ·rw[cM k2,cond_false]
  exact h0 (λm' _=>⟨λe=>(k2 e).elim,λe=>(k3 e).elim⟩) _ (ai s)
def akN {Q:Value->World->Prop}(uP:y.cr=some x)(ho:y.b_.o=some m)(hA:bE m.g.m.w m.g.m.h A)(W9:zi y.p.b_<1000000000)(s:Sep No W w (g9 r y::L))
  (h8:B<1\/255<B->∀w',Sep No W w' (g9 r y::L)->Q (K5 8) w')(h10:1<=B/\B<=255->B=255/\tV x.y.us A≠-1->∀w',Sep No W w' (g9 r y::L)->Q (K5 10) w')
  (h0:1<=B/\B<=255->¬(B=255/\tV x.y.us A≠-1)->∀r' y' w',r'.p=r.p->y'.p=⟨y.most,edP y.p.b_ A B,some x.y⟩->Sep No W w' (g9 r' y'::L)->Q .nilIface w'):wW (sZ r.p) A B w Q:=by
 apply M5
 by_cases b1:B<1
 ·grind
 rw[bD b1]
 by_cases b2:B>255
 ·grind
 rw[bD b2]
 have hB:1<=B/\B<=255:=by omega
 obtain⟨ok,⟨m',ho',hx⟩,so⟩:=uQ s uP
 rw[ho]at ho'
 cases ho'
 have agC:m.g.ep<1000000000:=by
  have e:=y.b_.akJ
  rw[ho]at e
  have e:m.g.ep=zi y.p.b_:=e
  omega
 have b5:¬(B=255/\tV x.y.us A≠-1)->tK Q (sZ r.p) A B w:=λhn=>by
  refine ah (lP so 0 rfl ?_)
  refine acI ho agC (jN so) (λe=>(e hA).elim) (λ_ e=>(e hB).elim) λ_ _ w s=>?_
  apply Jz
  refine h0 hB hn r ⟨y.most,⟨y.b_.k,y.b_.x,some ⟨wL m.g A B,m.ms,m.f⟩,y.b_.past⟩,some x⟩ w rfl ?_ (zj (pk 3 [1,0,2] s) ok.most rfl hx)
  show iR.mk _ _ _=iR.mk _ _ _
  rw[y.b_.aun ho]
  rfl
 by_cases awq:B=255
 ·rw[dJ awq,cond_true]
  refine ah (lP so 0 rfl ?_)
  have hAx:bE x.w x.h A:=by grind
  have hc:=(qJ (ai (ai so))).1
  apply aaZ hAx (ai (ai so))
  rcases are hc.may (c:=A)with h1|h1
  all_goals grind
 grind
def aij {Q:Int->Value->World->Prop}(uP:y.cr=some x)(ho:y.b_.o=some m)(PF:x.y.next<1000000000)(s:Sep No W w (g9 r y::L))
  (h9:cE m.g.m A=255->∀w',Sep No W w' (g9 r y::L)->Q (-1) (K5 9) w')
  (FR:cE m.g.m A≠255->oE m.g.m.w m.g.m.h x.y A B≠0->∀w',Sep No W w' (g9 r y::L)->Q (-1) (K5 (oE m.g.m.w m.g.m.h x.y A B)) w')
  (h0:cE m.g.m A≠255->oE m.g.m.w m.g.m.h x.y A B=0->∀r' y' w',r'.p=r.p->y'.p=⟨y.most,y.p.b_,some (KY x.y A B)⟩->Sep No W w' (g9 r' y'::L)->Q x.y.next .nilIface w'):vA (sZ r.p) A B w Q:=by
 apply Lm
 obtain⟨ok,⟨m',ho',hx⟩,so⟩:=uQ s uP
 rw[ho]at ho'
 cases ho'
 refine ah (lP so 0 rfl ?_)
 apply G6 (sv (ai so) ho)
 by_cases apj:cE m.g.m A=255
 ·grind
 rw[cM apj,cond_false]
 refine ah (lP so 0 rfl ?_)
 rw[<-hx.1,<-hx.2.1]at FR h0
 refine WT PF (pk 3 [2,0,1] so) (λhne w s=>?_) λhz cr ws w ec s=>?_
 ·apply JA hne
  apply FR apj hne w
  have s:=G7 ok hx uP ho ⟨rfl,rfl,rfl⟩ rfl s
  have e:(⟨y.most,y.b_,some x⟩:AU)=y:=by rw[<-uP]
  simp_all
 ·apply Jz
  exact h0 apj hz ⟨r.p,r.b_,cr⟩ ⟨y.most,y.b_,some ⟨x.w,x.h,KY x.y A B,ws⟩⟩ w rfl rfl (G7 (x':=⟨x.w,x.h,KY x.y A B,ws⟩) ok hx uP ho ⟨rfl,rfl,rfl⟩ ec s)
def aik {Q:Value->World->Prop}(hL:iK W lg)(uP:y.cr=some x)(ho:y.b_.o=some m)(MF:(Lit.int .i64 A).wf=true)(s:Sep No W w (g9 r y::av ab 34 (K6 0 5 (-1) none 0 0 none 0 0)::L))
  (FR:¬(bE m.g.m.w m.g.m.h A/\bE m.g.m.w m.g.m.h B)->∀w',Sep No W w' (g9 r y::av ab 34 (K6 0 5 (-1) none 0 0 none 0 0)::L)->Q (K5 7) w')
  (h0:bE m.g.m.w m.g.m.h A->bE m.g.m.w m.g.m.h B->∀r' y' w',r'.p=r.p->y'.p=⟨y.most,yV y.p.b_ A (cP m.g.m B),some x.y⟩->Sep No W w' (g9 r' y'::av ab 34 (K6 (D m.g.m A B) (pB m.g.m A B) (-1) none 0 0 none 0 0)::L)->Q .nilIface w'):vB (sZ r.p) (sZ ab) A B w Q:=by
 apply LA
 obtain⟨ok,⟨m',ho',hx⟩,so⟩:=uQ s uP
 rw[ho]at ho'
 cases ho'
 refine ah (lP so 0 rfl ?_)
 refine acM ho hL (jN so) MF (λhn w s=>?_) λht hc nr ny w er ey s=>?_
 ·apply JA (by decide)
  have s:=zj (pk 3 [1,0,2] s) ok.most ho hx
  have e:(⟨y.most,y.b_,some x⟩:AU)=y:=by rw[<-uP]
  rw[e]at s
  exact FR hn w s
 ·rw[dJ rfl,cond_true]
  refine ah (sT s 3 rfl λw s=>ah (ax s (i:=3) rfl rfl rfl λw s=>?_))
  apply Jz
  obtain⟨m2,ho2,em2⟩:=RF (by rw[ey];rfl)
  have eg2:m2.g=m.g:=congrArg zP.g em2
  have s:=fT (A:=[_,_,_,_]) (B:=[EJ r.p (ae y.most) nr.p (.pointer (sZ r.cr.p)),gW nr ny,fO r.cr x,_]) [1,0,2,3] s (by rw[er];rfl) (by decide)
  refine h0 ht hc ⟨r.p,nr,r.cr⟩ ⟨y.most,ny,some x⟩ w rfl ?_ (zj s ok.most ho2 (by grind))
  show iR.mk _ _ _=iR.mk _ _ _
  rw[ey,field_eq ho]
  rfl
end
end Go.Proofs.YtmegplnmiepfbaaGreatDoor.S
