/- Part 3 of the proof. -/
import Derived.Test.YtmegplnmiepfbaaGreatDoorC1
import Derived.Sort.LotA
import Derived.Sort.LotB
import Derived.Sort.LotC
import Derived.Sort.LotD3
import Derived.Laws.Pointers
set_option linter.unusedVariables false
set_option linter.unusedSimpArgs false
set_option linter.defProp false
namespace Go.Proofs.YtmegplnmiepfbaaGreatDoor.S.O
open Go.Sx
def dU:vO P T:=Dy P rows Gn
def wC:zc T 38=[ae 0,ae 0,ae 0,.slice none 0 0]:=rfl
def qM:zc T 137=[ae 0,ae 0,.bool false]:=rfl
attribute [local irreducible] af cq bq bf aB bY bT St Bx Al App cu cg b_ bR aK bw aq bP av aj aU
def Ff {F:Nat->Prop}{W w:World}{L:List As}{k:Int}{Q:Int->Int->Bool->Bool->World->Prop}(s0:Sep F W w L)(h:∀w',Sep F W w' L->Fr No w w'->Q (vQ k) (A2 k) (shL k) (DC k) w'):vU k w Q:=by
 apply Zo;have s:=bt (F:=No) (w:=w);by_cases hk:1<=k/\k<=8
 ·have hk':k=1\/k=2\/k=3\/k=4\/k=5\/k=6\/k=7\/k=8:=by omega
  rcases hk' with rfl|rfl|rfl|rfl|rfl|rfl|rfl|rfl
  all_goals
   repeat' first
    |apply lI s 0 rfl
    |apply lS s 0 rfl
    |apply lB s 0 rfl
    |apply lP s 0 rfl
    |apply And.intro (cN s 0 rfl)
    |apply lI s 1 rfl
    |apply lS s 1 rfl
    |apply lB s 1 rfl
    |apply lP s 1 rfl
    |apply And.intro (cN s 1 rfl)
    |(refine sT s 0 rfl λw s=>?_)
    |(refine sT s 1 rfl λw s=>?_)
    |refine aS s λb w s=>?_
    |(refine aY s λb w s=>?_;simp[wC,qM]at s)
    |unfold tX
    |unfold mz
    |(replace s:=ax s;first
     |apply lI s 0 rfl
     |apply lS s 0 rfl
     |apply lB s 0 rfl
     |apply lP s 0 rfl
     |apply And.intro (cN s 0 rfl)
     |apply lI s 1 rfl
     |apply lS s 1 rfl
     |apply lB s 1 rfl
     |apply lP s 1 rfl
     |apply And.intro (cN s 1 rfl)
     |(refine az s (i:=0) rfl rfl rfl λw s=>?_)
     |(refine az s (i:=1) rfl rfl rfl λw s=>?_;simp[List.set_cons_zero,List.set_cons_succ]at s)
     |refine aS s λb w s=>?_
     |(refine aY s λb w s=>?_;simp[wC,qM]at s)
     |unfold tX
     |unfold mz)
  all_goals exact h _ (bV s0 (au s)) (au s)
 ·have e:∀j:Int,1<=j/\j<=8->(k==j)=false:=λj hj=>by grind
  rw[e 1 (by decide),e 2 (by decide),e 3 (by decide),e 4 (by decide),e 5 (by decide),e 6 (by decide),e 7 (by decide),e 8 (by decide)]
  (refine aY s λb w s=>?_;simp[wC,qM]at s)
  (refine aY s λb w s=>?_;simp[wC,qM]at s)
  (refine az s (i:=1) rfl rfl rfl λw s=>?_)
  (refine az s (i:=1) rfl rfl rfl λw s=>?_)
  (refine az s (i:=1) rfl rfl rfl λw s=>?_)
  apply lI s 1 rfl;apply lI s 1 rfl;apply lB s 1 rfl;have:=h _ (bV s0 (au s)) (au s);rw[show vQ k=0 by unfold vQ;grind,show A2 k=0 by unfold A2;grind,show shL k=false from decide_eq_false (by omega),show DC k=false from decide_eq_false (by omega)]at this;exact this
def IB {w:World}{n:Int}{sz:Nat}{Q:Bool->World->Prop}(hs:sz<=4)(h:Q (Dk n sz) w):zQ n sz w Q:=by
 apply aek;unfold Dk at h;by_cases h0:n≥0
 ·rw[bJ h0];have e:AV .i64 1 (IntKind.wrap .i64 (8*(sz:Int)))=256^sz/\0<=IntKind.wrap .i64 (8*(sz:Int)):=by
   have hs':sz=0\/sz=1\/sz=2\/sz=3\/sz=4:=by omega
   rcases hs' with rfl|rfl|rfl|rfl|rfl<;>decide
  refine⟨e.2,?_⟩;grind
 grind
def abQ {a b:Int}{k:Nat}(hk:k<=24)(ha:0<=a/\a<2^k)(hb:0<=b/\b<256):ior .i64 a (AV .i64 b (k:Int))=a+b*2^k:=by
 obtain⟨m,rfl⟩:∃m:Nat,a=m:=⟨a.toNat,by omega⟩;obtain⟨p,rfl⟩:∃p:Nat,b=p:=⟨b.toNat,by omega⟩;have hm:m<2^k:=by grind
 have Hs:(2:Nat)^k<=2^24:=Nat.pow_le_pow_right (by decide) hk;have hp:p*2^k<=255*2^24:=Nat.mul_le_mul (by omega) Hs;have e1:AV .i64 (p:Int) (k:Int)=((p*2^k:Nat):Int):=by
  unfold AV;have e:min ((k:Nat):Int).toNat (IntKind.i64).bits=k:=by simp[IntKind.bits];omega
  rw[e,show(p:Int)*2^k=((p*2^k:Nat):Int) by grind,aF]
 rw[e1];rw[ior,BitVec.ofInt_natCast,BitVec.ofInt_natCast,BitVec.toNat_or,BitVec.toNat_ofNat,BitVec.toNat_ofNat];have b64:(IntKind.i64).bits=64:=rfl;rw[b64,Nat.mod_eq_of_lt (by omega),Nat.mod_eq_of_lt (by omega),Nat.or_comm,Nat.mul_comm p,<-Nat.two_pow_add_eq_or_of_lt hm];rw[Nat.mul_comm]at hp;rw[aF];grind
def anR (l:List Int)(x:Int):oH (l++[x])=oH l+x*2^(8*l.length):=by
 induction l with
 |nil=>simp[oH]
 |cons y l ih=>
  simp[List.cons_append,oH,ih,List.length_cons];grind
def alo {l:List Int}{i:Nat}(h:i<l.length):l.take (i+1)=l.take i++[gi l i]:=by rw[List.take_add_one,gM h];rfl
section
variable {F:Nat->Prop}{W w:World}{L:List As}{a:Option Addr}{n c:Nat}{bs:List Int}
def Fg {Q:Int->World->Prop}(hA:Sl w a n c 1 bA bs)(hr:gu bs)(hn:n<=4)(h:Q (oH bs) w):vX a n c w Q:=by
 apply Zp;have loop:∀(m i:Nat),i+m=n->vJ Q (m+1) (oH (bs.take i)) a n c n i w:=by
  intro m;induction m with
  |zero=>
   intro i hi;show zS Q (vJ Q 0) _ _ _ _ _ _ _;rw[zS,bp,List.take_of_length_le (by rw[hA.len];omega)];exact h
  |succ m ih=>
   intro i hi;show zS Q (vJ Q (m+1)) _ _ _ _ _ _ _;rw[zS,bJ];apply Sl.Co hA rfl (by omega);have hv:=hr _ (fy (i:=i) (by rw[hA.len];omega));rw[aF,aF,aF];refine⟨by omega,?_⟩;have li:(bs.take i).length=i:=by rw[List.length_take,hA.len];omega
   have e:=Za (hr.take i);have e2:(256:Int)^i=2^(8*i):=by rw[Int.pow_mul];rfl
   rw[show 8*(i:Int)=((8*i:Nat):Int) by grind,abQ (by omega) (by grind) hv];have:=ih (i+1) (by omega);rw[alo (by rw[hA.len];omega),anR,li]at this;exact this
 have:=loop n 0 (by omega);exact⟨n+1,this⟩
end
end Go.Proofs.YtmegplnmiepfbaaGreatDoor.S.O
namespace Go.Proofs.YtmegplnmiepfbaaGreatDoor.S.O
open Go.Sx
attribute [local irreducible] af cq bq bf aB bY bT St Bx Al App cu cg b_ bR aK bw aq bP av aj aU
section
variable {F:Nat->Prop}{W w:World}{L:List As}{a:Option Addr}{n c:Nat}{bs:List Int}
def clone {K:Option Addr->Nat->Nat->World->Prop}(s:Sep F W w L)(h:Sl w a n c 1 bA bs)(hn:n<=1000000000000)(k:∀ra rc w',Sep F W w' (aj ra n rc 5 1 (flat bA bs)::L)->K ra n rc w'):
  App P #[22,22] 22 (.slice none 0 0) (.slice a n c) w K:=by
 have src:=h.src (e:=5) cY z_;refine iH dU (bE s 5 1) (i:=0) (bytes:=1) rfl rfl rfl rfl rfl rfl (by decide) rfl src (by simp[maxLen];omega) (by omega) h.nil λa1 c1 w1 s1=>?_;grind
def arP {K:Option Addr->Nat->Nat->World->Prop}{b:Nat}(s:Sep F W w (av b 5 []::L))(h:Sl w a n c 1 bA bs)(hn:n<=1000000000000)(k:∀ra rc w',Sep F W w' (aj ra n rc 5 1 (flat bA bs)::L)->K ra n rc w'):
  App P #[22,22] 22 (.slice (sZ b) 0 0) (.slice a n c) w K:=by
 have src:=h.src (e:=5) cY z_;have s:=iS (n:=0) (size:=1) s (i:=0) rfl rfl (by decide) (by simp);refine iH dU s (i:=0) (bytes:=1) rfl rfl rfl rfl rfl rfl (by decide) rfl src (by simp[maxLen];omega) (by omega) h.nil λa1 c1 w1 s1=>?_;grind
def aeB {w0:World}{Q:Int->Int->Int->Option Addr->Nat->Nat->Int->World->Prop}(s0:Sep F W w0 L)(hA:Sl w0 a n c 1 bA bs)(hr:gu bs)(hn:0<n)(hn2:n<=1000000000000)
  (h:∀ra rn rc w',rn=(Au bs).1.m.length->Sep F W w' (aj ra rn rc 5 1 (flat bA (Au bs).1.m)::L)->Fr No w0 w'->Q (Au bs).1.k (Au bs).1.A (Au bs).1.B ra rn rc ((Au bs).2:Nat) w'):Ij a n c w0 Q:=by
 apply aej;have hl:=hA.len;cases bs with
 |nil=>grind
 |cons x r=>
  obtain⟨hx,hr⟩:=hr.cons;rw[List.length_cons]at hl;have s:=bt (F:=No) (w:=w0);have rr:=hr
  (refine aY s λb w s=>?_;simp[wC,qM]at s)
  apply Sl.Co (hA.fr (au s)).drew rfl (by omega);have g0:gi (x::r) 0=x:=rfl;rw[g0,aF];refine hA.lo (m:=1) rfl (by omega) λta tn tc OU hT=>?_;have hT:Sl w0 ta tn tc 1 bA r:=hT;refine Ff (ax s) λw s k=>?_
  (refine aY s λb w s=>?_;simp[wC,qM]at s)
  (refine az s (i:=0) rfl rfl rfl λw s=>?_)
  (refine az s (i:=0) rfl rfl rfl λw s=>?_)
  (refine az s (i:=0) rfl rfl rfl λw s=>?_)
  have short:Au (x::r)=(⟨0,0,0,[]⟩,0)->∀w',Fr No w0 w'->Q 0 0 0 none 0 0 0 w':=λe w' f=>by rw[e]at h;exact h none 0 0 w' rfl (bE (bV s0 f) 5 1) f
  cases hk:DC x with
  |false=>
   have e:Au (x::r)=(⟨0,x,0,[]⟩,1):=by rw[BS,if_neg (by grind)]
   rw[e]at h
   (refine az s (i:=1) rfl rfl rfl λw s=>?_)
   (refine az s (i:=1) rfl rfl rfl λw s=>?_)
   (refine az s (i:=1) rfl rfl rfl λw s=>?_)
   (refine az s (i:=1) rfl rfl rfl λw s=>?_)
   apply lI s 1 rfl;apply lI s 1 rfl;apply lI s 1 rfl;apply lS s 1 rfl;exact h none 0 0 _ rfl (bE (bV s0 (au s)) 5 1) (au s)
  |true=>
   apply lB s 0 rfl;cases hL:shL x with
   |true=>
    by_cases h4:tn<4
    ·rw[bJ]
     (refine az s (i:=1) rfl rfl rfl λw s=>?_)
     (refine az s (i:=1) rfl rfl rfl λw s=>?_)
     (refine az s (i:=1) rfl rfl rfl λw s=>?_)
     (refine az s (i:=1) rfl rfl rfl λw s=>?_)
     apply lI s 1 rfl;apply lI s 1 rfl;apply lI s 1 rfl;apply lS s 1 rfl;exact short (by rw[BS,if_pos hk,if_pos hL,zP]) _ (au s)
    ·rw[bp];refine hT.hi (m:=4) rfl (by omega) λua uc hU=>?_;apply Fg (hU.fr (au s)) (rr.take 4) (by decide);have l4:(r.take 4).length=4:=by grind
     have rg:=Za (rr.take 4);rw[aF];by_cases h5:(tn:Int)-4<oH (r.take 4)
     ·rw[bJ h5]
      (refine az s (i:=1) rfl rfl rfl λw s=>?_)
      (refine az s (i:=1) rfl rfl rfl λw s=>?_)
      (refine az s (i:=1) rfl rfl rfl λw s=>?_)
      (refine az s (i:=1) rfl rfl rfl λw s=>?_)
      apply lI s 1 rfl;apply lI s 1 rfl;apply lI s 1 rfl;apply lS s 1 rfl;exact short (by rw[BS,if_pos hk,if_pos hL,ru,zP]) _ (au s)
     ·rw[bp h5,aF,aF];have e:Au (x::r)=(⟨x,0,0,(r.drop 4).take (oH (r.take 4)).toNat⟩,5+(oH (r.take 4)).toNat):=by rw[BS,if_pos hk,if_pos hL,ru,ru]
      rw[e]at h;refine hT.mid (p:=4) (q:=4+(oH (r.take 4)).toNat) rfl (by omega) (by omega) (by omega) λva vn vc hvn hV=>?_;rw[show 4+(oH (r.take 4)).toNat-4=(oH (r.take 4)).toNat by omega]at hvn hV;refine clone s (hV.fr (au s)) (by omega) λra rc w s=>?_
      (refine az s (i:=2) rfl rfl rfl λw s=>?_)
      (refine az s (i:=2) rfl rfl rfl λw s=>?_)
      (refine az s (i:=2) rfl rfl rfl λw s=>?_)
      (refine az s (i:=2) rfl rfl rfl λw s=>?_)
      apply lI s 2 rfl;apply lI s 2 rfl;apply lI s 2 rfl;apply lS s 2 rfl;have hq:=h ra vn rc _ (by grind) (dX s0 s (i:=0) rfl) (au s);grind
   |false=>
    apply lI s 0 rfl;apply lI s 0 rfl;have hab:=anM x;rw[aF];by_cases h5:tn<vQ x+A2 x
    ·rw[bJ]
     (refine az s (i:=1) rfl rfl rfl λw s=>?_)
     (refine az s (i:=1) rfl rfl rfl λw s=>?_)
     (refine az s (i:=1) rfl rfl rfl λw s=>?_)
     (refine az s (i:=1) rfl rfl rfl λw s=>?_)
     apply lI s 1 rfl;apply lI s 1 rfl;apply lI s 1 rfl;apply lS s 1 rfl;exact short (by rw[BS,if_pos hk,if_neg (by grind),zP]) _ (au s)
    ·rw[bp];have e:Au (x::r)=(⟨x,oH (r.take (vQ x)),oH ((r.drop (vQ x)).take (A2 x)),[]⟩,1+vQ x+A2 x):=by rw[BS,if_pos hk,if_neg (by grind),ru]
     rw[e]at h;have s:=ax s;apply lI s 0 rfl;refine hT.hi (m:=vQ x) rfl (by omega) λua uc hU=>?_;apply lI s 0 rfl;apply lI s 0 rfl;apply lI s 0 rfl;rw[aF];refine hT.mid (p:=vQ x) (q:=vQ x+A2 x) rfl (by omega) (by omega) (by omega) λva vn vc hvn hV=>?_;apply lI s 0 rfl;apply lI s 0 rfl;apply Fg (hU.fr (au s)) (rr.take _) (by omega);apply And.intro (cN s 0 rfl);apply And.intro (cN s 0 rfl);apply And.intro (cN s 0 rfl);apply And.intro (cN s 0 rfl);apply And.intro (cN s 0 rfl);apply Fg (hV.fr (au s)) ((rr.drop _).take _) (by omega);apply And.intro (cN s 0 rfl);apply And.intro (cN s 0 rfl)
     (refine az s (i:=1) rfl rfl rfl λw s=>?_)
     (refine az s (i:=1) rfl rfl rfl λw s=>?_)
     (refine az s (i:=1) rfl rfl rfl λw s=>?_)
     (refine az s (i:=1) rfl rfl rfl λw s=>?_)
     apply And.intro (cN s 0 rfl);apply And.intro (cN s 0 rfl);apply lI s 1 rfl;apply lI s 1 rfl;apply lI s 1 rfl;apply lS s 1 rfl;rw[aF (n:=(1:Int)+(vQ x:Int)),aF];have hq:=h none 0 0 _ rfl (bE (bV s0 (au s)) 5 1) (au s);grind
def af5 {Q:Bool->World->Prop}(s0:Sep F W w L)(hA:Sl w a n c 1 bA bs)(hr:gu bs)(hn2:n<=1000000000000)(h:∀w',Sep F W w' L->Fr No w w'->Q (anN bs) w'):JJ a n c w Q:=by
 apply afW;have hl:=hA.len;by_cases h0:n=0
 ·subst h0;have:bs=[]:=List.eq_nil_of_length_eq_zero hl;subst this;have:=h w s0 Fr.refl;exact this
 ·rw[show((n:Int)==0)=false by grind,cond_false];have s:=bt (F:=No) (w:=w);refine aeB s hA hr (by omega) hn2 λra rn rc w _ s _=>?_
  (refine aY s λb w s=>?_;simp[wC,qM]at s)
  (refine az s (i:=0) rfl rfl rfl λw s=>?_)
  (refine az s (i:=0) rfl rfl rfl λw s=>?_)
  (refine az s (i:=0) rfl rfl rfl λw s=>?_)
  (refine az s (i:=0) rfl rfl rfl λw s=>?_)
  have hq:=h _ (bV s0 (au s)) (au s);have hne:bs≠[]:=λe=>by grind
  unfold anN at hq;rw[decide_eq_true hne,Bool.true_and]at hq;rw[show(((Au bs).2:Int)==0)=decide ((Au bs).2=0) by grind];exact hq
end
def af6 {F:Nat->Prop}{W w0:World}{L:List As}{a:Option Addr}{n c:Nat}{o:A1}{Q:Bool->World->Prop}(s0:Sep F W w0 L)(hA:Sl w0 a n c 1 bA o.m)(hr:gu o.m)(hn2:n<=1000000000000)(h:∀w',Sep F W w' L->Fr No w0 w'->Q (DD o) w'):JH o.k o.A o.B a n c w0 Q:=by
 apply afX;obtain⟨k,A,B,m⟩:=o;simp only at hA hr h⊢;have hl:=hA.len;have hm0:((n:Int)==0)=decide (m=[]):=by
  rw[Bool.eq_iff_iff,beq_iff_eq,decide_eq_true_eq];constructor
  ·intro e;simp_all
  grind
 have s:=bt (F:=No) (w:=w0);have hh:∀w' Ls,Sep No w0 w' Ls->Q (DD ⟨k,A,B,m⟩) w':=λw' Ls s=>h w' (bV s0 (au s)) (au s);unfold DD at hh;refine aS s λb w s=>?_;apply lI s 0 rfl;by_cases hk:k=0
 ·rw[show(k==0)=true by grind,cond_true];apply lI s 0 rfl;by_cases hA1:A=-1
  ·rw[show(A==-1)=true by grind,cond_true];apply lI s 0 rfl;by_cases hB:B=0
   ·rw[show(B==0)=true by grind,cond_true];apply lS s 0 rfl;refine af5 s (hA.fr (au s)) hr hn2 λw s _=>?_;grind
   grind
  ·rw[show(A==-1)=false by grind,cond_false];apply lI s 0 rfl;refine Ff s λw s _=>?_
   (refine aY s λb w s=>?_;simp[wC,qM]at s)
   (refine az s (i:=0) rfl rfl rfl λw s=>?_)
   (refine az s (i:=0) rfl rfl rfl λw s=>?_)
   (refine az s (i:=0) rfl rfl rfl λw s=>?_)
   apply lI s 1 rfl;apply IB (by decide);cases hf:Dk A 1 with
   |false=>
    grind
   |true=>
    cases hs:DC A with
    |true=>
     grind
    |false=>
     apply lI s 1 rfl;by_cases hB:B=0
     ·rw[show(B==0)=true by grind,cond_true];apply lS s 1 rfl;grind
     grind
 ·simp[if_neg hk]at hh;rw[show(k==0)=false by grind,cond_false];apply lI s 0 rfl;refine Ff s λw s _=>?_
  (refine aY s λb w s=>?_;simp[wC,qM]at s)
  (refine az s (i:=0) rfl rfl rfl λw s=>?_)
  (refine az s (i:=0) rfl rfl rfl λw s=>?_)
  (refine az s (i:=0) rfl rfl rfl λw s=>?_)
  cases hs:DC k with
  |false=>
   grind
  |true=>
   have hab:=anM k;apply lI s 1 rfl;apply lI s 0 rfl;apply IB hab.1;cases hf:Dk A (vQ k)with
   |false=>
    grind
   |true=>
    apply lI s 1 rfl;apply lI s 0 rfl;apply IB hab.2;cases hg:Dk B (A2 k)with
    |false=>
     grind
    |true=>
     apply lS s 1 rfl;rw[hm0];by_cases hm:m=[]
     ·grind
     ·rw[bp hm];apply lB s 0 rfl;have:=hh _ _ s;cases hL:shL k with
      |false=>grind
      |true=>
       apply lS s 1 rfl;rw[hs,hf,hg,decide_eq_false hm,Bool.false_or,Bool.true_and,Bool.true_and,Bool.true_and,hL,Bool.true_and]at this;rwa[show decide ((n:Int)<=4294967295)=decide (m.length<=4294967295)from decide_eq_decide.2 (by omega)]
structure OpR where
 k:Int
 A:Int
 B:Int
 a:Option Addr
 n:Nat
 c:Nat
structure OpV (w:World) (v:OpR) (o:A1):Prop where
 k:v.k=o.k
 A:v.A=o.A
 B:v.B=o.B
 m:Sl w v.a v.n v.c 1 bA o.m
 jP:gu o.m
structure ayw (e:OpR×A1):Prop where
 k:e.1.k=e.2.k
 A:e.1.A=e.2.A
 B:e.1.B=e.2.B
 jP:gu e.2.m
def oz {n lo hi:Int}{w:World}{Q:Int->World->Prop}(h1:lo<=hi)(h2:-1099511627776<=lo)(h3:hi<=1099511627776)(h:Q (lo+n%(hi-lo+1)) w):je n lo hi w Q:=by
 apply tB;rw[aF (n:=hi-lo),aF];generalize hs:hi-lo+1=s at h;have h4:=Int.lt_tmod_of_pos n (b:=s) (by omega);have h5:=Int.tmod_lt_of_pos n (b:=s) (by omega);have h6:=Int.tmod_add_mul_tdiv n s;refine⟨by omega,?_⟩;generalize ht:Int.tmod n s=t at*;have e:n%s=t%s:=by rw[<-h6,Int.add_mul_emod_self_left]
 by_cases hn:t<0
 ·rw[bJ hn,aF (n:=t+hi),aF (n:=t+hi-lo),aF (n:=t+hi-lo+1),aF];have e2:t%s=t+s:=by rw[<-Int.add_emod_right,Int.emod_eq_of_lt (by omega) (by omega)]
  grind
 ·rw[bp hn,aF];rw[e,Int.emod_eq_of_lt (by omega) h5]at h;exact h
def Fh {w:World}{m lo hi:Int}{Q:Bool->World->Prop}(h:Q (decide (lo<=m/\m<=hi)) w):lj m lo hi w Q:=by apply OO;grind
section
variable {F:Nat->Prop}{W w w0:World}{L:List As}{a a' b:Option Addr}{n c n' c' m q:Nat}{bs cs:List Int}
def af7 {x:Int}{K:Option Addr->Nat->Nat->World->Prop}(s:Sep F W w (aj a n c 5 1 (flat bA bs)::L))(hn:n<=2000000000000)
  (k:∀a' c' w',Sep F W w' (aj a' (n+1) c' 5 1 (flat bA (bs++[x]))::L)->K a' (n+1) c' w'):Bx [.int .u8 x] 5 w λp w1=>App P #[22,22] 22 (.slice a n c) (.slice (some p) 1 1) w1 K:=by
 refine aS s λb w s=>?_;have src:Src w (sZ b) 1 1 [.int .u8 x]:=⟨rfl,(λu hu=>by rw[List.mem_singleton.1 hu];rfl),λj u hj=>by rw[cf,Nat.zero_add];exact c9 s (i:=0) rfl rfl hj⟩;refine iH dU s (i:=1) (bytes:=1) rfl rfl rfl rfl rfl rfl (by decide) rfl src (by simp[maxLen];omega) (by omega) (λe=>by cases e) λa1 c1 w1 s1=>?_;have e:flat bA bs++[.int .u8 x]=flat bA (bs++[x]):=by rw[gG];rfl
 rw[e]at s1;exact k _ _ _ (ai s1)
def ajv {K:Option Addr->Nat->Nat->World->Prop}(s:Sep F W w (aj a n c 5 1 (flat bA bs)::L))(h:Sl w b m q 1 bA cs)(hn:n+m<=2000000000000)
  (k:∀a' c' w',Sep F W w' (aj a' (n+m) c' 5 1 (flat bA (bs++cs))::L)->K a' (n+m) c' w'):App P #[22,22] 22 (.slice a n c) (.slice b m q) w K:=by
 have src:=h.src (e:=5) cY z_;refine iH dU s (i:=0) (bytes:=1) rfl rfl rfl rfl rfl rfl (by decide) rfl src (by simp[maxLen];omega) (by omega) h.nil λa1 c1 w1 s1=>?_;rw[<-gG]at s1;grind
end
section
variable {F:Nat->Prop}{W w w0:World}{L:List As}
def apx {b:Nat}{x:Int}(s:Sep F W w (av b 5 [.int .u8 x]::L)):Sep F W w (aj (sZ b) 1 1 5 1 (flat bA [x])::L):=
 iS s (i:=0) rfl rfl (by decide) (λu hu=>by have hu:u∈[Value.int .u8 x]:=hu;rw[List.mem_singleton]at hu;rw[hu];rfl)
end
end Go.Proofs.YtmegplnmiepfbaaGreatDoor.S.O
namespace Go.Proofs.YtmegplnmiepfbaaGreatDoor.S
open Go.Sx
attribute [local irreducible] af cq bq bf aB bY bT St Bx Al App cu cg b_ bR aK bw aq bP av aj aU mapA
def l9 {p:Addr}{A B:Prop}(h:B):cond (some p).isNone A B:=h
structure gU where
 m:bN
 ep:Int
 vs:List Int
structure wD (g:gU):Prop where
 may:c7 g.m
 len:(g.vs.length:Int)=ej g.m.w g.m.h
 ep:1<=g.ep/\g.ep<4611686018427387904
 vs:∀v∈g.vs,1<=v/\v<=g.ep
structure tJ where
 p:Nat
 ca:Option Addr
 cn:Nat
 cc:Nat
 va:Option Addr
 vn:Nat
 vc:Nat
def ajw (r:tJ)(g:gU):List Value:=[ae g.m.w,ae g.m.h,.slice r.ca r.cn r.cc,ae g.ep,.slice r.va r.vn r.vc]
def ZL (r:tJ)(g:gU):List As:=[av r.p 174 (ajw r g),aj r.ca r.cn r.cc 5 1 (flat bA g.m.cs),aj r.va r.vn r.vc 2 1 (flat one g.vs)]
def nu (r:tJ)(g:gU):As:=aU (wD g) (ZL r g)
structure nv (w:World) (r:tJ) (g:gU):Prop where
 ok:wD g
 cell:∀(j:Nat) v,(ajw r g)[j]? =some v->w.cell? ((aZ r.p).add j)=some v
 C:Sl w r.ca r.cn r.cc 1 bA g.m.cs
 V:Sl w r.va r.vn r.vc 1 one g.vs
def wD.iU {g:gU}(h:wD g):iU g.m.w g.m.h:=⟨h.may.w,h.may.h⟩
section
variable {F:Nat->Prop}{W w w0:World}{L:List As}{r:tJ}{g:gU}
def nv.fr {w':World}(k:nv w r g)(f:Fr No w w'):nv w' r g:=⟨k.ok,λj v h=>Fr.cell f (k.cell j v h) id,k.C.fr f,k.V.fr f⟩
def ac8 (s:Sep F W w (nu r g::L)):wD g/\Sep F W w (ZL r g++L):=iT s
def ZM (s:Sep F W w (ZL r g++L))(h:wD g):Sep F W w (nu r g::L):=dW s h
def oq (s:Sep F W w (nu r g::L)):nv w r g:=by obtain⟨h,s⟩:=ac8 s;exact⟨h,λj v hj=>by rw[cf,Nat.zero_add];exact c9 s (i:=0) rfl rfl hj,aL s (i:=1) rfl cY (by decide),aL s (i:=2) rfl cj (by decide)⟩
def cH (m:bN)(c:Int):Int:=if 0<=c/\c<m.cs.length then gi m.cs c.toNat else 0
def ja {c:Int}{Q:Int->World->Prop}(k:nv w r g)(h:Q (cH g.m c) w):eS (sZ r.p) c w Q:=by
 apply Qd;apply l9;have hl:=k.C.len;unfold cH at h;by_cases h0:c<0
 ·grind
 rw[bp h0];refine ah (dy (k.cell 2 _ rfl) ?_);by_cases h1:c≥(r.cn:Int)
 ·grind
 rw[bp h1];refine ah (dy (k.cell 2 _ rfl) ?_);rw[zP]at h;have hb:=k.ok.may.jP _ (fy (i:=c.toNat) (by omega));apply k.C.Co (k:=c.toNat) (by omega) (by omega);rw[aF];exact h
def qD {Q:Int->World->Prop}(k:nv w r g)(h:Q g.ep w):fO (sZ r.p) w Q:=by apply Ei;exact l9 (ah (aQ (k.cell 3 _ rfl) h))
def Ya {Q:Int->World->Prop}(h:Q 0 w):fO none w Q:=Ei _ _ _ h
def jb {Q:Int->Int->World->Prop}(s0:Sep F W w L)(k:nv w r g)(h:∀w',Sep F W w' L->Fr No w w'->Q g.m.w g.m.h w'):eE (sZ r.p) w Q:=by apply Qh;have k:=k.fr (w':=w.drew) Fr.refl;exact l9 (ah (aQ (k.cell 0 _ rfl) (ah (aQ (k.cell 1 _ rfl) ⟨k.cell 1 _ rfl,h _ (ax s0) Fr.refl⟩))))
def yD (g:gU)(s:Int):Int:=if 0<=s/\s<g.vs.length then gi g.vs s.toNat else 0
def q_ {c:Int}{Q:Int->World->Prop}(k:nv w r g)(h:Q (yD g c) w):iI (sZ r.p) c w Q:=by
 apply Ll;apply l9;have hl:=k.V.len;unfold yD at h;by_cases h0:c<0
 ·grind
 rw[bp h0];refine ah (dy (k.cell 4 _ rfl) ?_);by_cases h1:c≥(r.vn:Int)
 ·grind
 rw[bp h1];refine ah (dy (k.cell 4 _ rfl) ?_);rw[zP]at h;exact k.V.pC (by omega) (by omega) h
def GJ {w h s:Int}(hs:dA w h s){y x:Nat}(hx:(x:Int)<aD w h s):bS w h s (y*aD w h s+x)=bS w h s (y*aD w h s)+x:=by obtain⟨e1,e2⟩:=qR (w:=aD w h s) (x:=(x:Int)) (y:=(y:Int)) (by omega);obtain⟨e3,e4⟩:=qR (w:=aD w h s) (x:=0) (y:=(y:Int)) (by omega);unfold bS;grind
def alp {m:bN}{s:Int}(hm:c7 m)(hs:dA m.w m.h s){y tw:Nat}(hw:(tw:Int)=aD m.w m.h s)(hy:(y:Int)<bu m.w m.h s){f:Nat}(hf:(f:Int)=bS m.w m.h s (y*aD m.w m.h s)):
  f+tw<=m.cs.length/\((List.range (y*tw)).map λl:Nat=>gi m.cs (bS m.w m.h s l).toNat)++(m.cs.drop f).take tw=(List.range ((y+1)*tw)).map λl:Nat=>gi m.cs (bS m.w m.h s l).toNat:=by
 have hz:=qp hs.1.1 hs.1.2 hs.2;have hl:=hm.len;have hin:∀x:Nat,x<tw->0<=bS m.w m.h s (y*aD m.w m.h s)+x/\bS m.w m.h s (y*aD m.w m.h s)+x<m.w*m.h:=λx hx=>by
  rw[<-GJ hs (by omega)];refine EP hs.1.1 hs.1.2 hs.2 ⟨?_,?_⟩
  ·have:0<=(y:Int)*aD m.w m.h s:=Int.mul_nonneg (by omega) (by omega);omega
  ·have:((y:Int)+1)*aD m.w m.h s<=bu m.w m.h s*aD m.w m.h s:=Int.mul_le_mul_of_nonneg_right (by omega) (by omega);grind
 have atw:=hin (tw-1) (by omega);refine⟨by omega,?_⟩;rw[Nat.add_mul,Nat.one_mul,List.range_add,List.map_append,List.map_map];congr 1;refine List.ext_getElem (by simp;omega) λi h1 h2=>?_;simp[List.length_map,List.length_range]at h2;simp only[List.getElem_take,List.getElem_drop,List.getElem_map,List.getElem_range,Function.comp];have e:((y*tw+i:Nat):Int)=y*aD m.w m.h s+i:=by grind
 rw[e,GJ hs (by omega)];have e2:(bS m.w m.h s (y*aD m.w m.h s)+(i:Int)).toNat=f+i:=by omega
 have:=gM (l:=m.cs) (i:=f+i) (by omega);grind
def LW {sc:Int}{Q:Int->Int->Option Addr->Nat->Nat->Bool->World->Prop}(s0:Sep F W w0 L)(k:nv w0 r g)
  (hno:¬dA g.m.w g.m.h sc->∀w',Sep F W w' L->Fr No w0 w'->Q 0 0 none 0 0 false w')
  (hyes:dA g.m.w g.m.h sc->∀ta tn tc w',Sep F W w' (aj ta tn tc 5 1 (flat bA (pO g.m sc))::L)->Fr No w0 w'->Q (aD g.m.w g.m.h sc) (bu g.m.w g.m.h sc) ta tn tc true w'):s9 (sZ r.p) sc w0 Q:=by
 apply Qo;have s:=bt (F:=No) (w:=w0);refine aY s λqb w s=>?_;refine jb s (k.fr (au s)) λw s _=>?_;refine uF s λw s _=>?_;unfold Xp aa8;have hm:=k.ok.may;have hC:=k.C;have wE:=hC.len;have hmul:=pZ k.ok.iU;by_cases hs:dA g.m.w g.m.h sc
 ·have hz:=qp hs.1.1 hs.1.2 hs.2;rw[if_pos hs,if_pos hs,cJ (by omega),cond_false];obtain⟨tw,OV⟩:∃n:Nat,(n:Int)=aD g.m.w g.m.h sc:=⟨(aD g.m.w g.m.h sc).toNat,by omega⟩;obtain⟨th,hth⟩:∃n:Nat,(n:Int)=bu g.m.w g.m.h sc:=⟨(bu g.m.w g.m.h sc).toNat,by omega⟩;refine aY s λtb w s=>?_;refine az s (i:=0) rfl rfl rfl λw s=>?_;refine az s (i:=0) rfl rfl rfl λw s=>?_;refine az s (i:=0) rfl rfl rfl λw s=>?_;have s:=cE (bE s 5 1) (List.Perm.refl _);have loop:∀(j y:Nat) (ta:Option Addr) (tn tc:Nat) (w:World),y+j=th->tn=y*tw->
    Sep No w0 w [aj ta tn tc 5 1 (flat bA ((List.range (y*tw)).map λl:Nat=>gi g.m.cs (bS g.m.w g.m.h sc l).toNat)),av tb 84 [ae (aD g.m.w g.m.h sc),ae (bu g.m.w g.m.h sc),.slice ta tn tc],av qb 84 [ae 0,ae 0,.slice none 0 0]]->
    nT Q (j+1) (sZ r.p) sc (aZ qb) g.m.w g.m.h (aD g.m.w g.m.h sc) (aZ tb) (bu g.m.w g.m.h sc) y w:=by
   intro j;induction j with
   |zero=>
    intro y ta tn tc w hy OU s;show qX Q (nT Q 0) _ _ _ _ _ _ _ _ _ _;rw[qX,bp];apply lI s 1 rfl;apply lI s 1 rfl;apply lS s 1 rfl
    (refine az s (i:=2) rfl rfl rfl λw s=>?_)
    (refine az s (i:=2) rfl rfl rfl λw s=>?_)
    (refine az s (i:=2) rfl rfl rfl λw s=>?_)
    apply lI s 2 rfl;apply lI s 2 rfl;apply lS s 2 rfl;refine hyes hs _ _ _ _ (dX s0 s (i:=0) ?_) (au s);unfold pO;grind
   |succ j ih=>
    intro y ta tn tc w hy OU s;show qX Q (nT Q (j+1)) _ _ _ _ _ _ _ _ _ _;unfold qX;have hyl:(y:Int)*aD g.m.w g.m.h sc+aD g.m.w g.m.h sc<=aD g.m.w g.m.h sc*bu g.m.w g.m.h sc:=by have:((y:Int)+1)*aD g.m.w g.m.h sc<=bu g.m.w g.m.h sc*aD g.m.w g.m.h sc:=Int.mul_le_mul_of_nonneg_right (by omega) (by omega);grind
    have hy0:0<=(y:Int)*aD g.m.w g.m.h sc:=Int.mul_nonneg (by omega) (by omega);have ha:=Int.mul_le_mul hz.1.2 hz.2.2 (by omega) (by decide);rw[bJ,aF];refine wB s λw s _=>?_;rw[BT,if_pos ⟨hs,by omega,by omega⟩];have hg:=EP hs.1.1 hs.1.2 hs.2 (l:=(y:Int)*aD g.m.w g.m.h sc) (by omega);obtain⟨f,hf⟩:∃n:Nat,(n:Int)=bS g.m.w g.m.h sc (y*aD g.m.w g.m.h sc):=⟨(bS g.m.w g.m.h sc (y*aD g.m.w g.m.h sc)).toNat,by omega⟩;obtain⟨hin,hrow⟩:=alp hm hs OV (by omega) hf;rw[<-hf,aF];have s:=ax s;apply lS s 1 rfl;have k':=k.fr (au s);refine ah (dy (k'.cell 2 _ rfl) ?_);refine k'.C.mid (q:=f+tw) rfl (by omega) (by omega) (by omega) λa' n' c' hn' hS=>?_;rw[show f+tw-f=tw by omega]at hS hn';have hyt:((y*tw:Nat):Int)=(y:Int)*aD g.m.w g.m.h sc:=by grind
    refine O.ajv s hS (by omega) λWR WS w s=>?_;refine az s (i:=1) rfl rfl rfl λw s=>?_;rw[aF];grind
  refine⟨th+1,loop th 0 none 0 0 w (by omega) (by omega) ?_⟩;rw[Nat.zero_mul];exact s
 ·rw[if_neg hs,if_neg hs,dK rfl,cond_true]
  (refine az s (i:=0) rfl rfl rfl λw s=>?_)
  (refine az s (i:=0) rfl rfl rfl λw s=>?_)
  (refine az s (i:=0) rfl rfl rfl λw s=>?_)
  apply lI s 0 rfl;apply lI s 0 rfl;apply lS s 0 rfl;exact hno hs _ (bV s0 (au s)) (au s)
end
section
variable {F:Nat->Prop}{W w w0:World}{L:List As}{r:tJ}{g:gU}{a:Option Addr}{n c:Nat}{bs:List Int}
def zz {f:Int->List Value}{es:List Int}{e:TypeId}{i k:Nat}{x' idx:Int}{v:Value}{K:World->Prop}(hf:∀x,(f x).length=1)(s:Sep F W w L)(hi:L[i]? =some (aj a n c e 1 (flat f es)))(hk:idx=k)(hkn:k<es.length)(hx':f x'=[v])(hv:v.oneCell'=true)
  (h:∀w',Sep F W w' (L.set i (aj a n c e 1 (flat f (es.set k x'))))->K w'):aH idx n (wA a λp=>St (p.add (idx.toNat*1)) v w K):=by
 have hn:=qG s hi;rw[iz hf,Nat.mul_one,Nat.mul_one]at hn;obtain⟨b,o,rfl⟩:=pB s hi (by omega);subst hk;refine⟨by omega,by omega,ah ?_⟩;obtain⟨x,hx⟩:∃x,es[k]? =some x:=⟨_,List.getElem?_eq_getElem hkn⟩;have h1:=hf x;refine dz hf s hi hx (j:=0) (by simp[Addr.add]) (by decide) ?_ hv h;rw[hx']
 match hfx:f x,h1 with
 |[y],_=>rfl
def Ka {Q:Option Addr->Nat->Nat->World->Prop}(s:Sep F W w L)(hA:Sl w a n c 1 bA bs)(hn:n<=1000000000000)(h:∀ra rc w',Sep F W w' (aj ra n rc 5 1 (flat bA bs)::L)->Fr No w w'->Q ra n rc w'):mj a n c w Q:=by
 apply GC;cases a with
 |none=>
  have hl:=hA.len;have:=hA.nil rfl;have h0:n=0:=by have:=hA.le;omega
  subst h0;have hb:=List.eq_nil_of_length_eq_zero hl;subst hb;exact h _ _ _ (bE s 5 1) Fr.refl
 |some p=>
  apply l9;refine aS (bt (F:=No)) λb w' s'=>?_;refine O.arP s' (hA.fr (au s')) hn λra rc w' s'=>?_;exact h _ _ _ (dX s s' (i:=0) rfl) (au s')
def Vv (m:bN):Bool:=decide (iU m.w m.h)&&(decide ((m.cs.length:Int)=m.w*m.h)&&!decide ((0:Int)∈m.cs))
def Ur {m:bN}(hr:gu m.cs):Vv m=true↔c7 m:=by
 simp[Vv,Bool.and_eq_true,decide_eq_true_eq,Bool.not_eq_true',decide_eq_false_iff_not];constructor
 ·rintro ⟨h1,h2,h3⟩;refine⟨h1.1,h1.2,h2,λx hx=>?_⟩;have:=hr x hx;grind
 ·intro h;exact⟨⟨h.w,h.h⟩,h.len,λh0=>by have:=h.jP _ h0;omega⟩
def LX {m:bN}{Q:Bool->World->Prop}(s0:Sep F W w L)(hA:Sl w a n c 1 bA m.cs)(h:∀w',Sep F W w' L->Fr No w w'->Q (Vv m) w'):Av m.w m.h a n c w Q:=by
 apply Zt;refine aS (bt (F:=No)) λmb w s=>?_;apply lI s 0 rfl;apply lI s 0 rfl;apply o7;have hA:=hA.fr (au s);have hl:=hA.len;have h:=h w (bV s0 (au s)) (au s);unfold Vv at h;by_cases hm:iU m.w m.h
 ·have hmul:=pZ hm;rw[bJ hm];rw[decide_eq_true hm,Bool.true_and]at h;apply lS s 0 rfl;apply lI s 0 rfl;apply lI s 0 rfl;rw[aF];by_cases hc:(m.cs.length:Int)=m.w*m.h
  ·rw[dK (by omega),cond_true];rw[decide_eq_true hc,Bool.true_and]at h;apply lS s 0 rfl;exact Tl.GI hA.row (by omega) h
  grind
 grind
def Nc (m:bN)(e:Int):gU:=⟨m,e+1,List.replicate (ej m.w m.h).toNat (e+1)⟩
def aiu {m:bN}{e:Int}(hm:c7 m)(he:0<=e/\e<2305843009213693952):wD (Nc m e):=by
 have hc:=gz hm.w hm.h;refine⟨hm,?_,by show 1<=e+1/\e+1<_;omega,λv hv=>?_⟩
 ·show((List.replicate _ _).length:Int)=_;rw[List.length_replicate];show((ej m.w m.h).toNat:Int)=ej m.w m.h;omega
 ·rw[List.eq_of_mem_replicate hv];show 1<=e+1/\e+1<=e+1;omega
def abR {m:bN}{e:Int}{Q:Option Addr->World->Prop}(s0:Sep F W w0 L)(hA:Sl w0 a n c 1 bA m.cs)(hr:gu m.cs)(he:0<=e/\e<2305843009213693952)
  (hno:¬c7 m->∀w',Sep F W w' L->Fr No w0 w'->Q none w')(hyes:c7 m->∀r w',Sep F W w' (nu r (Nc m e)::L)->Fr No w0 w'->Q (sZ r.p) w'):Gp m.w m.h a n c e w0 Q:=by
 apply abx;refine aS (bt (F:=No)) λmb w s=>?_;apply lI s 0 rfl;apply lI s 0 rfl;apply lS s 0 rfl;refine LX s (hA.fr (au s)) λw s _=>?_;by_cases hm:c7 m
 ·have hmul:=pZ ⟨hm.w,hm.h⟩;have hl:=hA.len;have hlen:=hm.len;have hcn:=gz hm.w hm.h;rw[(Ur hr).2 hm,Bool.not_true,cond_false,bp,bp];apply lS s 0 rfl;refine Ka s (hA.fr (au s)) (by omega) λca cc w s _=>?_;refine az s (i:=1) rfl rfl rfl λw s=>?_;apply lI s 1 rfl;apply lI s 1 rfl;apply qm;unfold X9 abP;rw[if_pos ⟨hm.w,hm.h⟩,if_pos ⟨hm.w,hm.h⟩];have s:=ax s;apply lI s 1 rfl;apply lI s 1 rfl;apply lS s 1 rfl;rw[show cB m.w*cB m.h=ej m.w m.h from rfl,aF,aF];obtain⟨N,hN⟩:∃N:Nat,ej m.w m.h=N:=⟨(ej m.w m.h).toNat,by omega⟩;rw[hN];refine uk (bytes:=8) dU s rfl rfl rfl rfl rfl rfl (by decide) cj rfl (λu hu=>by simp[one]at hu;subst hu;rfl) rfl rfl (Nat.le_refl _) (by omega) (by simp[maxLen];omega) λvb w s=>?_;refine⟨cN s 2 rfl,cN s 2 rfl,cN s 2 rfl,?_⟩;refine aS s λgb w s=>?_;apply lS s 0 rfl;have loop:∀(j i:Nat) (w:World),i+j=N->Sep No w0 w (av gb 174 [ae m.w,ae m.h,.slice ca n cc,ae (e+1),.slice (sZ vb) N N]::aj (sZ vb) N N 2 1 (flat one (List.replicate i (e+1)++List.replicate j 0))::aj ca n cc 5 1 (flat bA m.cs)::av mb 25 [ae m.w,ae m.h,.slice ca n cc]::[])->
    ym Q (j+1) (aZ gb) N i w:=by
   intro j;induction j with
   |zero=>
    intro i w hi s;show Bh Q (ym Q 0) _ _ _ _;rw[Bh,bp];have hi:i=N:=by omega
    subst hi;have s:=cF (L':=[_,_,_]) [0,2,1] s rfl (by decide);have s:Sep No w0 w (ZL ⟨gb,ca,n,cc,sZ vb,i,i⟩ (Nc m e)++[]):=by
     have e1:(Nc m e).vs=List.replicate i (e+1)++List.replicate 0 0:=by show List.replicate (ej m.w m.h).toNat (e+1)=_;grind
     show Sep No w0 w [av gb 174 (ajw ⟨gb,ca,n,cc,sZ vb,i,i⟩ (Nc m e)),aj ca n cc 5 1 (flat bA m.cs),aj (sZ vb) i i 2 1 (flat one (Nc m e).vs)];rw[e1];exact s
    have s:=ZM s (aiu hm he);exact hyes hm ⟨gb,ca,n,cc,sZ vb,i,i⟩ _ (dX s0 s (i:=0) rfl) (au s)
   |succ j ih=>
    intro i w hi s;show Bh Q (ym Q (j+1)) _ _ _ _;rw[Bh,bJ];have s:=ax s;apply lS s 0 rfl;apply lI s 0 rfl;refine zz (x':=e+1) cj s (i:=1) rfl rfl (by simp) rfl rfl λw s=>?_;rw[aF];apply ih (i+1) w (by omega);have e1:(List.replicate i (e+1)++List.replicate (j+1) 0).set i (e+1)=List.replicate (i+1) (e+1)++List.replicate j 0:=by rw[List.set_append_right _ _ (by simp),List.length_replicate,Nat.sub_self,List.replicate_succ,List.set_cons_zero,List.replicate_succ',List.append_assoc];rfl
    grind
  exact⟨N+1,loop N 0 w (by omega) s⟩
 ·have hb:Vv m=false:=by
   cases hb:Vv m with
   |false=>rfl
   |true=>exact(hm ((Ur hr).1 hb)).elim
  rw[hb,Bool.not_false,cond_true];exact hno hm _ (bV s0 (au s)) (au s)
def wF (g:gU)(c x:Int):gU:=⟨⟨g.m.w,g.m.h,g.m.cs.set c.toNat x⟩,g.ep+1,g.vs.set (aC g.m.w g.m.h c).toNat (g.ep+1)⟩
def af8 {g:gU}(hg:wD g){c x:Int}(hx:1<=x/\x<=255)(he:g.ep<2305843009213693952):wD (wF g c x):=by
 refine⟨⟨hg.may.w,hg.may.h,?_,λy hy=>?_⟩,?_,?_,λv hv=>?_⟩
 ·show((g.m.cs.set c.toNat x).length:Int)=_;rw[List.length_set];exact hg.may.len
 ·rcases List.mem_or_eq_of_mem_set hy with hy|rfl
  ·exact hg.may.jP y hy
  ·omega
 ·show((g.vs.set _ _).length:Int)=_;rw[List.length_set];exact hg.len
 ·have:=hg.ep;show 1<=g.ep+1/\g.ep+1<_;omega
 ·have:=hg.ep;show 1<=v/\v<=g.ep+1;rcases List.mem_or_eq_of_mem_set hv with hv|rfl
  ·have:=hg.vs v hv;omega
  ·omega
def ZO {ce x:Int}{Q:Int->World->Prop}(s:Sep F W w (nu r g::L))(he:g.ep<2305843009213693952)
  (h7:¬bC g.m.w g.m.h ce->Q 7 w)(h8:bC g.m.w g.m.h ce->¬(1<=x/\x<=255)->Q 8 w)
  (h0:bC g.m.w g.m.h ce->1<=x/\x<=255->∀w',Sep F W w' (nu r (wF g ce x)::L)->Q 0 w'):za (sZ r.p) ce x w Q:=by
 apply Qj;apply l9;have k:=oq s;obtain⟨hg,s⟩:=ac8 s;have s:=s;have hl:=k.C.len;have hlen:=hg.may.len;by_cases h1:ce<0
 ·rw[bJ h1];exact h7 λe=>by have:=e.2;omega
 rw[bp h1];apply ah;apply lS s 0 rfl;by_cases h2:ce≥(r.cn:Int)
 ·rw[bJ h2];exact h7 λe=>by have:=e.2;omega
 rw[bp h2];have hc:bC g.m.w g.m.h ce:=⟨hg.iU,by omega,by omega⟩;by_cases h3:x<1
 ·grind
 rw[bp h3];by_cases h4:x>255
 ·grind
 rw[bp h4];have WT:=hg.ep;apply ah;apply lS s 0 rfl;rw[wrap_u8',Int.emod_eq_of_lt (by omega) (by omega)];refine zz (k:=ce.toNat) (x':=x) cY s (i:=1) rfl (by omega) (by omega) rfl rfl λw s=>?_;apply ah;apply lI s 0 rfl;apply ah;rw[aF];refine az s (i:=0) rfl rfl rfl λw s=>?_;have s:=ax s;apply ah;apply lS s 0 rfl;apply ah;apply lI s 0 rfl;apply ah;apply lI s 0 rfl;apply ah;apply lI s 0 rfl;refine eL s λw s _=>?_;refine⟨cN s 0 rfl,cN s 0 rfl,?_⟩;have hs:=bQ hc;have hvl:=hg.len;refine zz (k:=(aC g.m.w g.m.h ce).toNat) (x':=g.ep+1) cj s (i:=2) rfl (by have:=hs.2;omega) (by have:=hs.2;omega) rfl rfl λw s=>?_;exact h0 hc (by omega) _ (ZM s (af8 hg (by omega) he))
end
def gm (w h c s:Int):Int:=if aX w h c s<0 then-1 else if aC w h (aX w h c s)=aC w h c then-1 else aX w h c s
def eU (m:bN)(c:Int):Bool:=decide (0<cH m c/\cH m c<255)
def lW (n:Int)(f:Int->Int):List Int:=(List.range n.toNat).map λi:Nat=>f i
def lX (tw th s:Int):List Int:=
 if s=2 then lW tw λx=>(th-1)*tw+x
 else if s=0 then lW tw λx=>0+x
 else if s=1 then lW th λy=>tw-1+y*tw
 else if s=3 then lW th λy=>0+y*tw
 else[]
def ZP {k:IntKind}{n:Int}{K:Int->Prop}(h:K n):dI k (.int k n) K:=by cases k<;>exact h
def arR {K:Value->Prop}{a b c d:Int}{j:Nat}{x:Int}(hj:j=0/\x=a\/j=1/\x=b\/j=2/\x=c\/j=3/\x=d)(h:K (ae x)):IxV [ae a,ae b,ae c,ae d] j K:=by rcases hj with⟨rfl,rfl⟩|⟨rfl,rfl⟩|⟨rfl,rfl⟩|⟨rfl,rfl⟩<;>exact⟨_,rfl,h⟩
section
variable {F:Nat->Prop}{W w w0:World}{L:List As}{r:tJ}{g:gU}{a:Option Addr}{n c:Nat}{bs:List Int}{mw mh ce:Int}
def Kb {x:Int}{K:Option Addr->Nat->Nat->World->Prop}(s:Sep F W w (aj a n c 3 1 (flat one bs)::L))(hn:n<=1000000000)
  (k:∀a' c' w',Sep F W w' (aj a' (n+1) c' 3 1 (flat one (bs++[x]))::L)->K a' (n+1) c' w'):Bx [ae x] 3 w λp w1=>App P #[29,29] 29 (.slice a n c) (.slice (some p) 1 1) w1 K:=by
 refine aS s λb w s=>?_;have src:Src w (sZ b) 1 1 [ae x]:=⟨rfl,(λu hu=>by rw[List.mem_singleton.1 hu];rfl),λj u hj=>by rw[cf,Nat.zero_add];exact c9 s (i:=0) rfl rfl hj⟩;refine iH dU s (i:=1) (bytes:=8) rfl rfl rfl rfl rfl rfl (by decide) rfl src (by simp[maxLen];omega) (by omega) (λe=>by cases e) λa1 c1 w1 s1=>?_;have e:flat one bs++[ae x]=flat one (bs++[x]):=by rw[gG];rfl
 rw[e]at s1;exact k _ _ _ (ai s1)
def HJ {Q:Int->Int->Int->Int->World->Prop}(s0:Sep F W w L)(h:∀w',Sep F W w' L->Fr No w w'->Q 0 1 2 3 w'):v7 w Q:=by
 apply T3;refine aY (bt (F:=No)) λb w s=>?_
 (refine az s (i:=0) rfl rfl rfl λw s=>?_)
 (refine az s (i:=0) rfl rfl rfl λw s=>?_)
 (refine az s (i:=0) rfl rfl rfl λw s=>?_)
 (refine az s (i:=0) rfl rfl rfl λw s=>?_)
 apply lI s 0 rfl;apply lI s 0 rfl;apply lI s 0 rfl;apply lI s 0 rfl;exact h _ (bV s0 (au s)) (au s)
def IN {sd:Int}{Q:Int->World->Prop}(s0:Sep F W w L)(h:∀w',Sep F W w' L->Fr No w w'->Q (gm mw mh ce sd) w'):xD mw mh ce sd w Q:=by
 apply Wd;refine j9 (bt (F:=No)) λw s _=>?_;have fin:∀w',Sep No _ w' []->Q (gm mw mh ce sd) w':=λw' s=>h w' (bV s0 (au s)) (au s);unfold gm at fin;by_cases h1:aX mw mh ce sd<0
 ·grind
 rw[bp h1];refine eL s λw s _=>?_;refine eL s λw s _=>?_;grind
def CR {Q:Bool->World->Prop}(k:nv w r g)(h:Q (eU g.m ce) w):sq (sZ r.p) ce w Q:=by apply Wh;apply ja k;unfold eU at h;grind
def ZQ (n:Nat)(f:Int->Int):lW ((n+1:Nat):Int) f=lW n f++[f n]:=by unfold lW;rw[Int.toNat_natCast,Int.toNat_natCast,List.range_succ,List.map_append];rfl
def ac_ {Q:Option Addr->Nat->Nat->World->Prop}{f0:Int}{N:Nat}(hf:0<=f0/\f0<=100000)(hN:N<=16)(h:∀ra rc w',Sep F W w' (aj ra N rc 3 1 (flat one (lW N λx=>f0+x))::L)->Q ra N rc w'):
  ∀(j i:Nat) (la:Option Addr) (lc:Nat) (w:World),i+j=N->Sep F W w (aj la i lc 3 1 (flat one (lW i λx=>f0+x))::L)->mP Q (j+1) la i lc f0 N i w:=by
 intro j;induction j with
 |zero=>
  intro i la lc w hi s;show sy Q (mP Q 0) _ _ _ _ _ _ _;unfold sy;grind
 |succ j ih=>
  intro i la lc w hi s;show sy Q (mP Q (j+1)) _ _ _ _ _ _ _;rw[sy,bJ,aF];refine Kb s (by omega) λla lc w s=>?_;rw[aF];rw[<-ZQ i λx=>f0+x]at s;exact ih (i+1) la lc w (by omega) s
def ada {Q:Option Addr->Nat->Nat->World->Prop}{f0 tw:Int}{N:Nat}(hf:0<=f0/\f0<=100000)(ht:0<=tw/\tw<=16)(hN:N<=16)(h:∀ra rc w',Sep F W w' (aj ra N rc 3 1 (flat one (lW N λy=>f0+y*tw))::L)->Q ra N rc w'):
  ∀(j i:Nat) (la:Option Addr) (lc:Nat) (w:World),i+j=N->Sep F W w (aj la i lc 3 1 (flat one (lW i λy=>f0+y*tw))::L)->mQ Q (j+1) tw la i lc f0 N i w:=by
 intro j;induction j with
 |zero=>
  intro i la lc w hi s;show sA Q (mQ Q 0) _ _ _ _ _ _ _ _;unfold sA;grind
 |succ j ih=>
  intro i la lc w hi s;show sA Q (mQ Q (j+1)) _ _ _ _ _ _ _ _;unfold sA;have h1:0<=(i:Int)*tw:=Int.mul_nonneg (by omega) ht.1;have h2:(i:Int)*tw<=16*16:=Int.mul_le_mul (by omega) ht.2 ht.1 (by decide);rw[bJ,aF (n:=(i:Int)*tw),aF];refine Kb s (by omega) λla lc w s=>?_;rw[aF];rw[<-ZQ i λy=>f0+y*tw]at s;exact ih (i+1) la lc w (by omega) s
def Us {tw th sd:Int}{Q:Option Addr->Nat->Nat->World->Prop}(s0:Sep F W w L)(ht:1<=tw/\tw<=16)(hh:1<=th/\th<=16)
  (h:∀ra rn rc w',Sep F W w' (aj ra rn rc 3 1 (flat one (lX tw th sd))::L)->Q ra rn rc w'):Bd tw th sd w Q:=by
 apply T4;have s:=bE s0 3 1;obtain⟨TW,rfl⟩:∃N:Nat,tw=N:=⟨tw.toNat,by omega⟩;obtain⟨TH,rfl⟩:∃N:Nat,th=N:=⟨th.toNat,by omega⟩;unfold lX at h;by_cases k2:sd=2
 ·rw[dK k2,cond_true];rw[if_pos k2]at h;have h1:0<=((TH:Int)-1)*TW:=Int.mul_nonneg (by omega) (by omega);have h2:((TH:Int)-1)*TW<=16*16:=Int.mul_le_mul (by omega) (by omega) (by omega) (by decide);rw[aF (n:=(TH:Int)-1),aF];exact⟨TW+1,ac_ (by omega) (by omega) (λra rc w' s=>h ra TW rc w' s) TW 0 none 0 w (by omega) s⟩
 rw[cJ k2,cond_false];rw[if_neg k2]at h;by_cases k0:sd=0
 ·rw[dK k0,cond_true];rw[if_pos k0]at h;exact⟨TW+1,ac_ (by omega) (by omega) (λra rc w' s=>h ra TW rc w' s) TW 0 none 0 w (by omega) s⟩
 rw[cJ k0,cond_false];rw[if_neg k0]at h;by_cases k1:sd=1
 ·rw[dK k1,cond_true];rw[if_pos k1]at h;rw[aF];exact⟨TH+1,ada (by omega) (by omega) (by omega) (λra rc w' s=>h ra TH rc w' s) TH 0 none 0 w (by omega) s⟩
 rw[cJ k1,cond_false];rw[if_neg k1]at h;by_cases k3:sd=3
 ·rw[dK k3,cond_true];rw[if_pos k3]at h;exact⟨TH+1,ada (by omega) (by omega) (by omega) (λra rc w' s=>h ra TH rc w' s) TH 0 none 0 w (by omega) s⟩
 rw[cJ k3,cond_false];rw[if_neg k3]at h;exact h _ _ _ _ s
end
def bl (b:Bool):List Value:=[.bool b]
def af9 (b:Bool):(bl b).length=1:=rfl
def HK (w h sc s:Int):Bool:=decide (0<=gm w h (BT w h sc (gi (lX (aD w h sc) (bu w h sc) s) 0)) s)
def xI (w h sc:Int)(j:Nat)(l:Nat):Bool:=(List.range j).any λs:Nat=>HK w h sc s&&decide ((l:Int)∈lX (aD w h sc) (bu w h sc) s)
def uG (w h sc:Int):List Int:=((List.range (aD w h sc*bu w h sc).toNat).filter (xI w h sc 4)).map λl:Nat=>bS w h sc l
def ajz (w h sc:Int)(j l:Nat):xI w h sc (j+1) l=(xI w h sc j l||(HK w h sc j&&decide ((l:Int)∈lX (aD w h sc) (bu w h sc) j))):=by unfold xI;grind
def mem_range {n x:Int}{f:Int->Int}(h:x∈lW n f):∃i:Nat,(i:Int)<n/\x=f i:=by unfold lW at h;grind
def wG (n:Int)(f:Int->Int):(lW n f).length=n.toNat:=by unfold lW;simp
def af_ {tw th sd:Int}(ht:1<=tw/\tw<=16)(hh:1<=th/\th<=16):(lX tw th sd).length<=16/\(0<=sd/\sd<=3->0<(lX tw th sd).length)/\∀x∈lX tw th sd,0<=x/\x<tw*th:=by
 have m1:∀y:Int,0<=y->y<th->0<=y*tw/\y*tw+tw<=tw*th:=λy h1 h2=>by have a:0<=y*tw:=Int.mul_nonneg h1 (by omega);have b:(y+1)*tw<=th*tw:=Int.mul_le_mul_of_nonneg_right (by omega) (by omega);grind
 unfold lX;split
 ·refine⟨by rw[wG];omega,λ_=>by rw[wG];omega,λx hx=>?_⟩;obtain⟨i,hi,rfl⟩:=mem_range hx;have:=m1 (th-1) (by omega) (by omega);omega
 ·split
  ·refine⟨by rw[wG];omega,λ_=>by rw[wG];omega,λx hx=>?_⟩;obtain⟨i,hi,rfl⟩:=mem_range hx;have:=m1 0 (by omega) (by omega);omega
  ·split
   ·refine⟨by rw[wG];omega,λ_=>by rw[wG];omega,λx hx=>?_⟩;obtain⟨i,hi,rfl⟩:=mem_range hx;grind
   ·split
    ·refine⟨by rw[wG];omega,λ_=>by rw[wG];omega,λx hx=>?_⟩;obtain⟨i,hi,rfl⟩:=mem_range hx;grind
    grind
def alr {N x:Nat}{E:Nat->Bool}:((List.range N).map E).set x true=(List.range N).map λl=>E l||decide (l=x):=by refine List.ext_getElem (by simp) λi h1 h2=>?_;grind
section
variable {F:Nat->Prop}{W w w0:World}{L:List As}{r:tJ}{g:gU}{a:Option Addr}{n c:Nat}{bs:List Int}{mw mh ce sc:Int}
def LY {α:Type}{f:α->List Value}{es:List α}{e:TypeId}{i k:Nat}{x':α}{idx:Int}{v:Value}{K:World->Prop}(hf:∀x,(f x).length=1)(s:Sep F W w L)(hi:L[i]? =some (aj a n c e 1 (flat f es)))(hk:idx=k)(hkn:k<es.length)(hx':f x'=[v])(hv:v.oneCell'=true)
  (h:∀w',Sep F W w' (L.set i (aj a n c e 1 (flat f (es.set k x'))))->K w'):aH idx n (wA a λp=>St (p.add (idx.toNat*1)) v w K):=by
 have hn:=qG s hi;rw[iz hf,Nat.mul_one,Nat.mul_one]at hn;obtain⟨b,o,rfl⟩:=pB s hi (by omega);subst hk;refine⟨by omega,by omega,ah ?_⟩;obtain⟨x,hx⟩:∃x,es[k]? =some x:=⟨_,List.getElem?_eq_getElem hkn⟩;have h1:=hf x;refine dz hf s hi hx (j:=0) (by simp[Addr.add]) (by decide) ?_ hv h;rw[hx']
 match hfx:f x,h1 with
 |[y],_=>rfl
def als {P4:Int->Int->Int->Int->Int->Option Addr->Nat->Nat->Int->Int->Int->Int->Int->World->Prop}{Q:Option Addr->Nat->Nat->World->Prop}{tw th sd:Int}{ea la:Option Addr}{N ec ln lc:Nat}{xs:List Int}{E:Nat->Bool}(vh:0<=sd/\sd<=3)(hl:xs.length=ln)(pI:ln<=16)(hx:∀x∈xs,0<=x/\x<N)
  (next:∀w',Sep No w0 w' (aj ea N ec 4 1 (flat bl ((List.range N).map λl=>E l||decide ((l:Int)∈xs)))::aj la ln lc 3 1 (flat one xs)::L)->P4 mw mh sc tw th ea N ec 0 1 2 3 (sd+1) w'):
  ∀(j i:Nat) (w:World),i+j=ln->Sep No w0 w (aj ea N ec 4 1 (flat bl ((List.range N).map λl=>E l||decide ((l:Int)∈xs.take i)))::aj la ln lc 3 1 (flat one xs)::L)->
   qt P4 Q (j+1) mw mh sc tw th ea N ec 0 1 2 3 sd la ln lc ln i w:=by
 intro j;induction j with
 |zero=>
  intro i w hi s;show uw P4 Q (qt P4 Q 0) _ _ _ _ _ _ _ _ _ _ _ _ _ _ _ _ _ _ _;rw[uw,bp,aF];grind
 |succ j ih=>
  intro i w hi s;show uw P4 Q (qt P4 Q (j+1)) _ _ _ _ _ _ _ _ _ _ _ _ _ _ _ _ _ _ _;rw[uw,bJ];have hX:=aL s (i:=1) rfl cj (by decide);apply hX.pC rfl (by omega);have hxi:=hx _ (fy (i:=i) (by omega));obtain⟨x,hxe⟩:∃x:Nat,gi xs i=x:=⟨(gi xs i).toNat,by omega⟩;rw[hxe]at hxi⊢;refine LY (x':=true) af9 s (i:=0) rfl rfl (by simp;omega) rfl rfl λw s=>?_;rw[aF];apply ih (i+1) w (by omega);rw[alr]at s;have e:(λl:Nat=>(E l||decide ((l:Int)∈xs.take i))||decide (l=x))=λl:Nat=>E l||decide ((l:Int)∈xs.take (i+1)):=by
   funext l;rw[Bool.or_assoc];congr 1;have ht:xs.take (i+1)=xs.take i++[(x:Int)]:=by rw[List.take_add_one,gM (by omega),hxe];rfl
   grind
  grind
def alu {Q:Option Addr->Nat->Nat->World->Prop}{ea:Option Addr}{N ec:Nat}{E:Nat->Bool}(hs:dA mw mh sc)(hN:(N:Int)=aD mw mh sc*bu mw mh sc)(hN2:N<=256)
  (h:∀ra rn rc w',Sep No w0 w' (aj ra rn rc 3 1 (flat one (((List.range N).filter E).map λl:Nat=>bS mw mh sc l))::aj ea N ec 4 1 (flat bl ((List.range N).map E))::L)->Q ra rn rc w'):
  ∀(j i:Nat) (oa:Option Addr) (on oc:Nat) (w:World),i+j=N->on<=i->Sep No w0 w (aj oa on oc 3 1 (flat one (((List.range i).filter E).map λl:Nat=>bS mw mh sc l))::aj ea N ec 4 1 (flat bl ((List.range N).map E))::L)->
   pe Q (j+1) mw mh sc oa on oc ea N ec N i w:=by
 intro j;induction j with
 |zero=>
  intro i oa on oc w hi ho s;show sB Q (pe Q 0) _ _ _ _ _ _ _ _ _ _ _ _;unfold sB;grind
 |succ j ih=>
  intro i oa on oc w hi ho s;show sB Q (pe Q (j+1)) _ _ _ _ _ _ _ _ _ _ _ _;rw[sB,bJ];obtain⟨b,o,rfl⟩:=pB s (i:=1) rfl (by omega);refine⟨by omega,by omega,ah ?_⟩;apply ahD af9 s (i:=1) (k:=i) (j:=0) rfl (x:=E i) (by grind) (by simp[Addr.add]) rfl;have hf:(List.range (i+1)).filter E=(List.range i).filter E++(if E i=true then[i]else[]):=by rw[List.range_succ,List.filter_append];grind
  cases hE:E i with
  |true=>
   refine wB s λw s _=>?_;unfold BT;refine Kb s (by omega) λoa oc w s=>?_;rw[aF];apply ih (i+1) oa (on+1) oc w (by omega) (by omega);grind
  |false=>
   rw[cond_false,aF];grind
def Ut {Q:Option Addr->Nat->Nat->World->Prop}(s0:Sep F W w L)(hs:dA mw mh sc)(h:∀ra rn rc w',Sep F W w' (aj ra rn rc 3 1 (flat one (uG mw mh sc))::L)->Fr No w w'->Q ra rn rc w'):Bb mw mh sc w Q:=by
 apply T5;have hz:=qp hs.1.1 hs.1.2 hs.2;have hmx:=Int.mul_le_mul hz.1.2 hz.2.2 (by omega) (by decide);have hmn:=Int.mul_le_mul hz.1.1 hz.2.1 (by decide) (by omega);obtain⟨N,hN⟩:∃N:Nat,aD mw mh sc*bu mw mh sc=N:=⟨(aD mw mh sc*bu mw mh sc).toNat,by omega⟩;refine uF (bt (F:=No)) λw1 s _=>?_;unfold Xp aa8;rw[if_pos hs,if_pos hs,aF,hN];refine uk (bytes:=1) dU s rfl rfl rfl rfl rfl rfl (by decide) af9 rfl (λu hu=>by simp[bl]at hu;subst hu;rfl) rfl rfl (Nat.le_refl _) (by omega) (by simp[maxLen];omega) λeb w1 s=>?_;refine HJ s λw1 s _=>?_;have anr:List.replicate N false=(List.range N).map (xI mw mh sc 0):=by refine List.ext_getElem (by simp) λi h1 h2=>?_;simp[xI]
 rw[anr]at s;have loop:∀(j i:Nat) (w1:World) (L':List As),i+j=4->Sep No w w1 (aj (sZ eb) N N 4 1 (flat bl ((List.range N).map (xI mw mh sc i)))::L')->
   qu Q (j+1) mw mh sc (aD mw mh sc) (bu mw mh sc) (sZ eb) N N 0 1 2 3 i w1:=by
  intro j;induction j with
  |zero=>
   intro i w1 L' hi s;show ux Q (qu Q 0) _ _ _ _ _ _ _ _ _ _ _ _ _ _;unfold ux;have hi:i=4:=by omega
   subst hi;have s:=bE s 3 1;refine⟨N+1,alu hs hN.symm (by omega) (λra rn rc w' s=>?_) N 0 none 0 0 w1 (by omega) (by omega) s⟩;refine h _ _ _ _ (dX s0 s (i:=0) ?_) (au s);unfold uG;grind
  |succ j ih=>
   intro i w1 L' hi s;show ux Q (qu Q (j+1)) _ _ _ _ _ _ _ _ _ _ _ _ _ _;rw[ux,bJ];refine⟨by omega,by omega,?_⟩;refine arR (x:=(i:Int)) (by omega) (ZP ?_);obtain⟨o1,o2,o3⟩:=af_ (sd:=(i:Int)) hz.1 hz.2;refine Us s hz.1 hz.2 λra rn rc w1 s=>?_;have hX:=aL s (i:=0) rfl cj (by decide);have hXl:=hX.len;rw[cJ (by omega),cond_false];apply hX.pC (k:=0) rfl (by omega);refine wB s λw1 s _=>?_;refine IN s λw1 s _=>?_;have hnew:=ajz mw mh sc i;by_cases hov:gm mw mh (BT mw mh sc (gi (lX (aD mw mh sc) (bu mw mh sc) i) 0)) i<0
   ·rw[bJ hov,aF];have ay2:HK mw mh sc i=false:=by unfold HK;grind
    have e:xI mw mh sc i=xI mw mh sc (i+1):=by funext l;simp_all
    rw[e]at s;exact ih (i+1) w1 _ (by omega) (ai s)
   ·rw[bp hov];have HL:HK mw mh sc i=true:=by unfold HK;grind
    have s:=cE s (List.Perm.swap ..);refine⟨rn+1,als (w0:=w) (L:=L') (E:=xI mw mh sc i) (by omega) hXl (by omega) (λx hx=>by grind) (λw' s=>?_) rn 0 w1 (by omega) ?_⟩
    ·have e:(λl:Nat=>xI mw mh sc i l||decide ((l:Int)∈lX (aD mw mh sc) (bu mw mh sc) i))=xI mw mh sc (i+1):=by grind
     grind
    simp_all
 exact⟨5,loop 4 0 w1 _ (by omega) s⟩
def aT (m:bN)(sc:Int):List Int:=(uG m.w m.h sc).filter (eU m)
def ZR (hs:dA mw mh sc):(uG mw mh sc).length<=256:=by have hz:=qp hs.1.1 hs.1.2 hs.2;have hmx:=Int.mul_le_mul hz.1.2 hz.2.2 (by omega) (by decide);unfold uG;grind
def wH {Q:Option Addr->Nat->Nat->World->Prop}(s0:Sep F W w L)(k:nv w r g)(hs:dA g.m.w g.m.h sc)(h:∀ra rn rc w',Sep F W w' (aj ra rn rc 3 1 (flat one (aT g.m sc))::L)->Fr No w w'->Q ra rn rc w'):nO (sZ r.p) sc w Q:=by
 apply T6;refine jb (bt (F:=No)) k λw1 s _=>?_;refine Ut s hs λca cn cc w1 s _=>?_;have wE:=(aL s (i:=0) rfl cj (by decide)).len;have aga:=ZR hs;have loop:∀(j i:Nat) (oa:Option Addr) (on oc:Nat) (w1:World),i+j=cn->on<=i->Sep No w w1 [aj oa on oc 3 1 (flat one (((uG g.m.w g.m.h sc).take i).filter (eU g.m))),aj ca cn cc 3 1 (flat one (uG g.m.w g.m.h sc))]->
   qv Q (j+1) (sZ r.p) oa on oc ca cn cc cn i w1:=by
  intro j;induction j with
  |zero=>
   intro i oa on oc w1 hi ho s;show uy Q (qv Q 0) _ _ _ _ _ _ _ _ _ _;rw[uy,bp];rw[List.take_of_length_le (by omega)]at s;exact h _ _ _ _ (dX s0 s (i:=0) rfl) (au s)
  |succ j ih=>
   intro i oa on oc w1 hi ho s;show uy Q (qv Q (j+1)) _ _ _ _ _ _ _ _ _ _;rw[uy,bJ];apply(aL s (i:=1) rfl cj (by decide)).pC rfl (by omega);apply CR (k.fr (au s));have ht:(uG g.m.w g.m.h sc).take (i+1)=(uG g.m.w g.m.h sc).take i++[gi (uG g.m.w g.m.h sc) i]:=by rw[List.take_add_one,gM (by omega)];rfl
   cases ho2:eU g.m (gi (uG g.m.w g.m.h sc) i)with
   |true=>
    refine Kb s (by omega) λoa oc w1 s=>?_;rw[aF];apply ih (i+1) oa (on+1) oc w1 (by omega) (by omega);grind
   |false=>
    rw[cond_false,aF];apply ih (i+1) oa on oc w1 (by omega) (by omega);grind
 exact⟨cn+1,loop cn 0 none 0 0 w1 (by omega) (by omega) (bE s 3 1)⟩
end
def CA (e:Int×Int):List Value:=[ae e.1,ae e.2]
def OW (e:Int×Int):(CA e).length=2:=rfl
def aiw (e:Int×Int)(u:Value)(h:u∈CA e):u.oneCell'=true:=by simp[CA,List.mem_cons,List.not_mem_nil,or_false]at h;rcases h with rfl|rfl<;>rfl
def Eo (m:bN)(c s:Int):Option (Int×Int):=if 0<=gm m.w m.h c s/\eU m (gm m.w m.h c s)=true then some (gm m.w m.h c s,cH m (gm m.w m.h c s))else none
def Fi (m:bN)(c:Int)(j:Nat):List (Int×Int):=(List.range j).filterMap λs:Nat=>Eo m c s
def uH (m:bN)(c:Int):List (Int×Int):=if eU m c=true then Fi m c 4 else[]
def ahP (m:bN)(c:Int)(j:Nat):Fi m c (j+1)=Fi m c j++(Eo m c j).toList:=by rw[Fi,List.range_succ,List.filterMap_append];congr 1
section
variable {F:Nat->Prop}{W w w0:World}{L:List As}{r:tJ}{g:gU}{a:Option Addr}{n c:Nat}{es:List (Int×Int)}{ce:Int}
def anU {x:Int×Int}{K:Option Addr->Nat->Nat->World->Prop}(s:Sep F W w (aj a n c 292 2 (flat CA es)::L))(hn:n<=1000000000)
  (k:∀a' c' w',Sep F W w' (aj a' (n+1) c' 292 2 (flat CA (es++[x]))::L)->K a' (n+1) c' w'):Bx [ae x.1,ae x.2] 292 w λp w1=>App P #[289,289] 289 (.slice a n c) (.slice (some p) 1 1) w1 K:=by
 refine aS s λb w s=>?_;have src:Src w (sZ b) 1 2 (CA x):=⟨rfl,aiw x,λj u hj=>by rw[cf,Nat.zero_add];exact c9 s (i:=0) rfl rfl hj⟩;refine iH dU s (i:=1) (bytes:=16) rfl rfl rfl rfl rfl rfl (by decide) rfl src (by simp[maxLen];omega) (by omega) (λe=>by cases e) λa1 c1 w1 s1=>?_;have e:flat CA es++CA x=flat CA (es++[x]):=by rw[gG];simp[flat]
 rw[e]at s1;exact k _ _ _ (ai s1)
def Uu {Q:Option Addr->Nat->Nat->World->Prop}(s0:Sep F W w L)(k:nv w r g)(h:∀ra rn rc w',Sep F W w' (aj ra rn rc 292 2 (flat CA (uH g.m ce))::L)->Fr No w w'->Q ra rn rc w'):Ba (sZ r.p) ce w Q:=by
 apply T7;refine jb (bt (F:=No)) k λw1 s _=>?_;apply CR (k.fr (au s));unfold uH at h;cases ho:eU g.m ce with
 |false=>
  rw[ho,if_neg (by decide)]at h;exact h _ _ _ _ (bE (bV s0 (au s)) 292 2) (au s)
 |true=>
  rw[ho,if_pos rfl]at h;refine HJ s λw1 s _=>?_;have loop:∀(j i:Nat) (oa:Option Addr) (on oc:Nat) (w1:World) (L':List As),i+j=4->on<=i->Sep No w w1 (aj oa on oc 292 2 (flat CA (Fi g.m ce i))::L')->
    nI Q (j+1) (sZ r.p) ce g.m.w g.m.h oa on oc 0 1 2 3 i w1:=by
   intro j;induction j with
   |zero=>
    intro i oa on oc w1 L' hi HL s;show uz Q (nI Q 0) _ _ _ _ _ _ _ _ _ _ _ _ _;unfold uz;have hi:i=4:=by omega
    subst hi;exact h _ _ _ _ (dX s0 s (i:=0) rfl) (au s)
   |succ j ih=>
    intro i oa on oc w1 L' hi HL s;show uz Q (nI Q (j+1)) _ _ _ _ _ _ _ _ _ _ _ _ _;rw[uz,bJ];refine⟨by omega,by omega,?_⟩;refine arR (x:=(i:Int)) (by omega) (ZP ?_);refine IN s λw1 s _=>?_;have hsu:=ahP g.m ce i;have skip:Eo g.m ce i=none->∀w1,Sep No w w1 (aj oa on oc 292 2 (flat CA (Fi g.m ce i))::L')->nI Q (j+1) (sZ r.p) ce g.m.w g.m.h oa on oc 0 1 2 3 (IntKind.wrap .i64 ((i:Int)+1)) w1:=λhn w1 s=>by rw[aF];grind
    by_cases h1:gm g.m.w g.m.h ce i≥0
    ·rw[bJ h1];apply CR (k.fr (au s));cases h2:eU g.m (gm g.m.w g.m.h ce i)with
     |true=>
      apply ja (k.fr (au s));have Hl:Eo g.m ce i=some (gm g.m.w g.m.h ce i,cH g.m (gm g.m.w g.m.h ce i)):=if_pos ⟨h1,h2⟩;refine anU (x:=(gm g.m.w g.m.h ce i,cH g.m (gm g.m.w g.m.h ce i))) s (by omega) λoa oc w1 s=>?_;rw[aF];grind
     |false=>
      exact skip (if_neg (by rw[h2];simp)) _ s
    ·rw[bp h1];exact skip (ru) _ s
  exact⟨5,loop 4 0 none 0 0 w1 _ (by omega) (by omega) (bE s 292 2)⟩
end
structure bg where
 c:Int
 s:Int
 k:Int
deriving DecidableEq,Inhabited
def fI (x:bg):List Value:=[ae x.c,ae x.s,ae x.k]
def mT (x:bg):(fI x).length=3:=rfl
def Uv (x:bg)(u:Value)(h:u∈fI x):u.oneCell'=true:=by simp[fI,List.mem_cons,List.not_mem_nil,or_false]at h;rcases h with rfl|rfl|rfl<;>rfl
def Uw (x y:Int):Int:=if x<y then-1 else if x>y then 1 else 0
def agb (a b:bg):Int:=if Uw a.k b.k≠0 then Uw a.k b.k else if Uw a.c b.c≠0 then Uw a.c b.c else Uw a.s b.s
section
variable {F:Nat->Prop}{W w w0:World}{L:List As}
def CT {x y:Int}{Q:Int->World->Prop}(h:Q (Uw x y) w):nP x y w Q:=by apply Oq;apply Ag;rw[wv rfl];apply Ag;rw[wv rfl];show cond false _ (cond false _ _);unfold Uw at h;grind
def aeD {a:Option Addr}{n c:Nat}{x y z:Int}{Q:Int->World->Prop}(hA:Sl w a n c 1 one [x,y,z])(h:Q (if x≠0 then x else if y≠0 then y else z) w):DO a n c w Q:=by
 have hl:n=3:=hA.len.symm;subst hl;apply XT;refine⟨4,?_⟩;show mC Q (qw Q 3) _ _ _ _ _ _ _;unfold mC;apply hA.pC (k:=0) rfl (by omega);show cond (x !=0) _ _;by_cases hx:x=0
 ·rw[wv hx,cond_false,wrap_i64 (by decide) (by decide)];rw[if_neg (λe=>e hx)]at h;show mC Q (qw Q 2) _ _ _ _ _ _ _;unfold mC;apply hA.pC (k:=1) rfl (by omega);show cond (y !=0) _ _;by_cases hy:y=0
  ·rw[wv hy,cond_false,wrap_i64 (by decide) (by decide)];rw[if_neg (λe=>e hy)]at h;show mC Q (qw Q 1) _ _ _ _ _ _ _;unfold mC;apply hA.pC (k:=2) rfl (by omega);show cond (z !=0) _ _;by_cases hz:z=0
   ·rw[wv hz,cond_false,wrap_i64 (by decide) (by decide)];show mC Q (qw Q 0) _ _ _ _ _ _ _;unfold mC;grind
   ·rw[Fe hz,cond_true];exact h
  ·rw[Fe hy,cond_true];rw[if_pos hy]at h;exact h
 ·rw[Fe hx,cond_true];rw[if_pos hx]at h;exact h
def Ws {x y:bg}{Q:Int->World->Prop}(s0:Sep F W w L)(h:∀w',Sep F W w' L->Fr No w w'->Q (agb x y) w'):CH x.c x.s x.k y.c y.s y.k w Q:=by apply Wi;refine aS (bt (F:=No)) λab w s=>?_;refine aS s λbb w s=>?_;have s:=ax s;apply lI s 1 rfl;apply lI s 0 rfl;apply lI s 1 rfl;apply lI s 0 rfl;apply lI s 1 rfl;apply lI s 0 rfl;apply CT;refine⟨cN s 0 rfl,cN s 1 rfl,cN s 0 rfl,cN s 1 rfl,?_⟩;apply CT;refine⟨cN s 0 rfl,cN s 1 rfl,?_⟩;apply CT;refine aS s λpb w s=>?_;have s:=iS (n:=3) (size:=1) s (i:=0) rfl rfl (by decide) (λu hu=>by simp[List.mem_cons,List.not_mem_nil,or_false]at hu;rcases hu with rfl|rfl|rfl<;>rfl);have s:=s;apply aeD (aL s (i:=0) rfl cj (by decide));exact h _ (bV s0 (au s)) (au s)
def cxF (m f:Nat):(cx m).F f=oB f fns:=rfl
def awg:oB 197 fns=true:=by kernel_rfl
def ahQ {m:Nat}{x y:bg}{Q:Int->World->Prop}(h:CH x.c x.s x.k y.c y.s y.k w Q):gQ (cx m) (.func (.func 197) #[] #[]) [.agg #[ae x.c,ae x.s,ae x.k],.agg #[ae y.c,ae y.s,ae y.k]] w λv w'=>dI .i64 v λr=>Q r w':=by unfold gQ;simp only;exact h
end
def Yb (tw th c s:Int):Bool:=if s=0 then c/tw==0 else if s=1 then c%tw==tw-1 else if s=2 then c/tw==th-1 else if s=3 then c%tw==0 else s==4
def zA (tw th:Int)(cs:List Int)(x:bg):Bool:=decide (0<=x.c/\x.c<cs.length)&&(gi cs x.c.toNat !=255&&(decide (0<=x.k/\x.k<=1073741824)&&Yb tw th x.c x.s))
def rf (tw th:Int)(cs:List Int)(xs:List bg):Bool:=Tl.CQ tw th cs&&xs.all (zA tw th cs)
section
variable {F:Nat->Prop}{W w w0:World}{L:List As}{a la:Option Addr}{n c ln lc tb:Nat}{cs:List Int}{tw th:Int}{xs:List bg}
def ZS {ce sd:Int}{Q:Bool->World->Prop}(s0:Sep F W w L)(hw:1<=tw/\tw<=16)(hh:1<=th/\th<=16)(hc:0<=ce/\ce<1000000)(h:∀w',Sep F W w' L->Fr No w w'->Q (Yb tw th ce sd) w'):E4 tw th a n c ce sd w Q:=by
 apply ZD;refine aS (bt (F:=No)) λtb w s=>?_;have s:=ax s;apply lI s 0 rfl;refine⟨by omega,?_⟩;apply lI s 0 rfl;refine⟨by omega,cN s 0 rfl,?_⟩;have h:=h _ (bV s0 (au s)) (au s);have d0:0<=ce/tw:=Int.ediv_nonneg hc.1 (by omega);have d1:ce/tw<=ce:=Int.ediv_le_self _ hc.1;rw[Int.tdiv_eq_ediv_of_nonneg hc.1,Int.tmod_eq_emod_of_nonneg hc.1,aF];unfold Yb at h;by_cases k0:sd=0
 ·grind
 rw[cJ k0,cond_false];rw[if_neg k0]at h;by_cases k1:sd=1
 ·rw[dK k1,cond_true];rw[if_pos k1]at h;apply lI s 0 rfl;rw[aF];exact h
 rw[cJ k1,cond_false];rw[if_neg k1]at h;by_cases k2:sd=2
 ·rw[dK k2,cond_true];rw[if_pos k2]at h;apply lI s 0 rfl;rw[aF];exact h
 grind
def ri (w:World)(b:Nat)(vs:List Value):Prop:=∀(j:Nat) v,vs[j]? =some v->w.cell? ((aZ b).add j)=some v
def ri.fr {w':World}{b:Nat}{vs:List Value}(k:ri w b vs)(f:Fr No w w'):ri w' b vs:=λj v h=>Fr.cell f (k j v h) id
def kK {b i:Nat}{t:TypeId}{vs:List Value}(s:Sep F W w L)(hi:L[i]? =some (av b t vs)):ri w b vs:=λj v hj=>by rw[cf,Nat.zero_add];exact c9 s rfl hi hj
def Wt {x:bg}{Q:Bool->World->Prop}(s0:Sep F W w L)(hK:ri w tb [ae tw,ae th,.slice a n c])(hA:Sl w a n c 1 bA cs)(hm:Tl.CQ tw th cs=true)
  (h:∀w',Sep F W w' L->Fr No w w'->Q (!zA tw th cs x) w'):CJ x.c x.s x.k (sZ tb) w Q:=by
 apply Wj;obtain⟨h1,h2,h3,_⟩:=Tl.X_.1 hm;have hl:=hA.len;have hmx:=Int.mul_le_mul h1.2 h2.2 (by omega) (by decide);refine aS (bt (F:=No)) λsb w1 s=>?_;have K:=hK.fr (au s);have A:=hA.fr (au s);have no:zA tw th cs x=false->Q true w1:=λe=>by have:=h _ (bV s0 (au s)) (au s);grind
 unfold zA at no h;apply lI s 0 rfl;by_cases k1:x.c<0
 ·grind
 rw[bp k1];apply lI s 0 rfl;refine ah (dy (K 2 _ rfl) ?_);by_cases k2:x.c≥(n:Int)
 ·grind
 rw[bp k2];rw[decide_eq_true (show 0<=x.c/\x.c<cs.length by omega),Bool.true_and]at no h;refine ah (dy (K 2 _ rfl) ?_);apply lI s 0 rfl;apply A.Co (k:=x.c.toNat) (by omega) (by omega);by_cases k3:gi cs x.c.toNat=255
 ·grind
 rw[cJ k3,cond_false];rw[Fe k3,Bool.true_and]at no h;apply lI s 0 rfl;by_cases k4:x.k<0
 ·grind
 rw[bp k4];apply lI s 0 rfl;by_cases k5:x.k>1073741824
 ·grind
 rw[bp k5];rw[decide_eq_true (show 0<=x.k/\x.k<=1073741824 by omega),Bool.true_and]at h;refine ah (aQ (K 0 _ rfl) (aQ (K 1 _ rfl) (dy (K 2 _ rfl) ?_)));apply lI s 0 rfl;apply lI s 0 rfl;refine ZS s h1 h2 (by omega) λw1 s _=>?_;exact h _ (bV s0 (au s)) (au s)
def ayx:oB 210 fns=true:=by kernel_rfl
def alv {m p:Nat}{x:bg}{Q:Bool->World->Prop}(h:CJ x.c x.s x.k (sZ p) w Q):gQ (cx m) (.func (.func 210) #[] #[.pointer (sZ p)]) [.agg #[ae x.c,ae x.s,ae x.k]] w λv w'=>dB v λr=>Q r w':=by unfold gQ;simp only;exact h
def anV {Q:Int->World->Prop}(hK:ri w0 tb [ae tw,ae th,.slice a n c])(hA:Sl w0 a n c 1 bA cs)(hm:Tl.CQ tw th cs=true)(hX:Sl w0 la ln lc 3 fI xs)(pI:ln<=1000000)
  (hy:xs.all (zA tw th cs)=true->∀w',Sep No w0 w' []->Q (-1) w')(hno:xs.all (zA tw th cs)=false->∀(i:Nat) w',Sep No w0 w' []->Q i w'):
  ∀(j i:Nat) (w:World),i+j=ln->(xs.take i).all (zA tw th cs)=true->Sep No w0 w []->eM Q (j+1) la ln lc (.func (.func 210) #[] #[.pointer (sZ tb)]) ln i w:=by
 have hl:=hX.len;intro j;induction j with
 |zero=>
  intro i w hi ha s;show fS Q (eM Q 0) _ _ _ _ _ _ _;unfold fS;grind
 |succ j ih=>
  intro i w hi ha s;show fS Q (eM Q (j+1)) _ _ _ _ _ _ _;rw[fS,bJ];refine(hX.fr (au s)).El rfl (by omega) λp x hx hc=>?_;refine aQ (hc 0 _ rfl) (aQ (hc 1 _ rfl) (aQ (hc 2 _ rfl) ?_));refine alv (Wt s (hK.fr (au s)) (hA.fr (au s)) hm λw s _=>?_);cases hb:zA tw th cs x with
  |false=>
   grind
  |true=>
   rw[Bool.not_true,cond_false,aF];refine ih (i+1) w (by omega) ?_ s;rw[List.take_add_one,hx,List.all_append,ha];simp[hb]
def LZ {Q:Bool->World->Prop}(s0:Sep F W w L)(hA:Sl w a n c 1 bA cs)(hX:Sl w la ln lc 3 fI xs)(pI:ln<=1000000)(h:∀w',Sep F W w' L->Fr No w w'->Q (rf tw th cs xs) w'):Aw tw th a n c la ln lc w Q:=by
 apply ZE;refine aS (bt (F:=No)) λtb w1 s=>?_;apply lI s 0 rfl;apply lI s 0 rfl;apply lS s 0 rfl;refine Tl.Cf s (hA.fr (au s)).row λw1 s _=>?_;have fin:∀(r:Bool) (w':World),rf tw th cs xs=r->Fr No w w'->Q r w':=λr w' e f=>by subst e;exact h _ (bV s0 f) f
 unfold rf at fin;cases hm:Tl.CQ tw th cs with
 |false=>
  rw[hm,Bool.false_and]at fin;exact fin _ _ rfl (au s)
 |true=>
  rw[hm,Bool.true_and]at fin;have f1:=au s;apply xy;apply zw;refine⟨ln+1,anV (kK s (i:=0) rfl) (hA.fr f1) hm (hX.fr f1) pI (λha w' s'=>?_) (λha i w' s'=>?_) ln 0 w1 (by omega) rfl bt⟩
  ·exact fin _ _ ha (f1.trans (au s') (λ_ _=>id))
  ·exact fin _ _ ha (f1.trans (au s') (λ_ _=>id))
end
end Go.Proofs.YtmegplnmiepfbaaGreatDoor.S
namespace Go.Proofs.YtmegplnmiepfbaaGreatDoor.S
open Go.Sx
def jT {n:Int}(h:0<=n/\n<18446744073709551616):IntKind.wrap .u64 n=n:=by
 have:IntKind.wrap .u64 n=n%18446744073709551616:=by simp[IntKind.wrap,IntKind.bits,IntKind.signed]
 grind
def L0 {x:Int}(h:0<=x/\x<4294967296):oG .u64 x 32=0:=by show x.fdiv (2^32)=0;grind
def Ux {x:Int}(h:0<=x/\x<4294967296):AU .u64 x 4294967295=x:=by
 obtain⟨n,rfl⟩:∃n:Nat,x=n:=⟨x.toNat,by omega⟩;have e:(BitVec.ofInt 64 (n:Int)&&&BitVec.ofInt 64 4294967295).toNat=n:=by
  rw[BitVec.toNat_and];have e1:(BitVec.ofInt 64 (n:Int)).toNat=n:=by grind
  have e2:(BitVec.ofInt 64 4294967295).toNat=2^32-1:=by decide
  rw[e1,e2,Nat.and_two_pow_sub_one_eq_mod];omega
 show IntKind.wrap .u64 ((BitVec.ofInt 64 (n:Int)&&&BitVec.ofInt 64 4294967295).toNat:Nat)=_;rw[e];exact jT (by omega)
def arS {x y:Int}(hx:0<=x/\x<1048577)(hy:0<=y/\y<1048577):0<=x*y/\x*y<2000000000000:=by have a:=Int.mul_nonneg hx.1 hy.1;have b:x*y<=1048576*1048576:=Int.mul_le_mul (by omega) (by omega) hy.1 (by decide);omega
def Cg {w:World}{x y:Int}{Q:Int->Int->World->Prop}(hx:0<=x/\x<1048577)(hy:0<=y/\y<1048577)(hxy:x*y<4294967296)(h:Q 0 (x*y) w):p8 x y w Q:=by have hm:=arS hx hy;apply SF;apply N7;refine⟨by decide,by decide,by decide,by decide,by decide,?_⟩;rw[L0 (by omega),L0 (by omega),Ux (by omega),Ux (by omega)];simp[Int.zero_mul,Int.mul_zero,Int.zero_add,Int.add_zero,jT (n:=0) (by decide),jT (n:=x*y) (by omega),L0 (x:=x*y) (by omega),L0 (x:=0) (by decide),Ux (x:=0) (by decide)];exact h
end Go.Proofs.YtmegplnmiepfbaaGreatDoor.S
namespace Go.Proofs.YtmegplnmiepfbaaGreatDoor.S
open Go.Sx
attribute [local irreducible] af cq bq bf aB bY bT St Bx Al App cu cg b_ bR aK bw aq bP av aj aU mapA
def Kc:∀l:List Int,flat one l=l.map λx=>Value.int .i64 x
 |[]=>rfl
 |x::l=>by have:=Kc l;simp[flat,List.flatMap_cons,List.map_cons]at this⊢;rw[this];rfl
def D6 (x:Int)(u:Value)(h:u∈one x):u.oneCell'=true:=by simp[one,List.mem_singleton]at h;rw[h];rfl
def anW {v z:Int}{n k N:Nat}(hk:k<=n)(hN:n+k<=N):
  (flat one (List.replicate n v++List.replicate (N-n) z)).take (n*1)++(flat one ((List.replicate n v++List.replicate (N-n) z).take n)).take (k*1)++(flat one (List.replicate n v++List.replicate (N-n) z)).drop ((n+k)*1)=flat one (List.replicate (n+k) v++List.replicate (N-(n+k)) z):=by
 simp only[Kc,Nat.mul_one];rw[<-List.map_take,<-List.map_take,<-List.map_drop,<-List.map_append,<-List.map_append];congr 1;rw[List.take_left' (by simp),List.take_replicate,Nat.min_eq_left hk,List.replicate_append_replicate,<-List.drop_drop,List.drop_left' (by simp),List.drop_replicate,Nat.sub_sub]
section
variable {F:Nat->Prop}{W w w0:World}{L:List As}{xa:Option Addr}{xc:Nat}{v:Int}
def ahR {Q:Option Addr->Nat->Nat->World->Prop}{b N:Nat}(hN:N<=1048576)(h:∀w',Sep No w0 w' (aj (sZ b) N N 3 1 (flat one (List.replicate N v))::L)->Q (sZ b) N N w'):
  ∀(m n:Nat) (w:World),N<=n+m->1<=n->n<=N->Sep No w0 w (aj (sZ b) N N 3 1 (flat one (List.replicate n v++List.replicate (N-n) 0))::L)->kW Q (m+1) (sZ b) N N n w:=by
 have done:∀(R:Option Addr->Nat->Nat->Int->World->Prop) (w:World),Sep No w0 w (aj (sZ b) N N 3 1 (flat one (List.replicate N v++List.replicate (N-N) 0))::L)->kV Q R (sZ b) N N N w:=λR w s=>by unfold kV;grind
 intro m;induction m with
 |zero=>
  intro n w hm h1 h2 s;have:n=N:=by omega
  subst this;exact done _ _ s
 |succ m ih=>
  intro n w hm h1 h2 s;show kV Q (kW Q (m+1)) _ _ _ _ _;by_cases hn:n=N
  ·grind
  ·rw[kV,bJ];apply Nx rfl h2;rw[ru];apply Nw rfl h2;have s:=ax s;have hT:=(aL s (i:=0) rfl cj (by decide)).top h2;refine DB (p:=n) dU s rfl rfl rfl rfl (by decide) (i:=0) rfl (hT.src (e:=3) cj D6) (by omega) (by simp[Addr.add];omega) λw s=>?_;rw[anW (Nat.min_le_left _ _) (by omega)]at s;have e:IntKind.wrap .i64 ((n:Int)+((min n (N-n):Nat):Int))=((n+min n (N-n):Nat):Int):=by rw[aF];omega
   grind
def Kf {N:Nat}{Q:Option Addr->Nat->Nat->World->Prop}(s0:Sep F W w L)(hA:Sl w xa 1 xc 1 one [v])(hN:1<=N/\N<=1048576)
  (h:∀ra w',Sep F W w' (aj ra N N 3 1 (flat one (List.replicate N v))::L)->Fr No w w'->Q ra N N w'):jQ xa 1 xc N w Q:=by
 apply HE;rw[bp,jT (by decide),jT (by omega)];apply Cg (by decide) (by omega) (by omega);have e1:((1:Nat):Int)*N=N:=by omega
 rw[e1,bp (by decide),bp,aF];refine uk (bytes:=8) dU (bt (F:=No)) rfl rfl rfl rfl rfl rfl (by decide) cj rfl (λu hu=>D6 0 u hu) rfl rfl (Nat.le_refl _) (by omega) (by simp[maxLen];omega) λb w' s=>?_;refine DB (p:=0) dU s rfl rfl rfl rfl (by decide) (i:=0) rfl ((hA.fr (au s)).src (e:=3) cj D6) (by omega) rfl λw' s=>?_;have hm:min 1 N=1:=by omega
 rw[hm]at s⊢;have e2:(flat one (List.replicate N 0)).take (0*1)++(flat one [v]).take (1*1)++(flat one (List.replicate N 0)).drop ((0+1)*1)=flat one (List.replicate 1 v++List.replicate (N-1) 0):=by simp only[Kc,Nat.zero_mul,List.take_zero,List.nil_append,Nat.mul_one,Nat.zero_add];simp_all
 rw[e2]at s;exact⟨N+1,ahR hN.2 (λw' s=>h _ _ (dX s0 s (i:=0) rfl) (au s)) N 1 w' (by omega) (by omega) hN.1 s⟩
end
section
variable {F:Nat->Prop}{W w w0:World}{L:List As}{a:Option Addr}{n c:Nat}{xs:List bg}{bs:List Int}
def Uy {Q:Option Addr->Nat->Nat->World->Prop}(s:Sep F W w L)(hA:Sl w a n c 3 fI xs)(hn:n<=1000000000)(h:∀ra rc w',Sep F W w' (aj ra n rc 294 3 (flat fI xs)::L)->Fr No w w'->Q ra n rc w'):iW a n c w Q:=by
 apply Bi;cases a with
 |none=>
  have hl:=hA.len;have:=hA.nil rfl;have h0:n=0:=by have:=hA.le;omega
  subst h0;have hb:=List.eq_nil_of_length_eq_zero hl;subst hb;exact h _ _ _ (bE s 294 3) Fr.refl
 |some p=>
  apply l9;refine aS (bt (F:=No)) λb w' s'=>?_;have src:=(hA.fr (au s')).src (e:=294) mT Uv;have s':=iS (n:=0) (size:=3) s' (i:=0) rfl rfl (by decide) (by simp);refine iH dU s' (i:=0) (bytes:=24) rfl rfl rfl rfl rfl rfl (by decide) rfl src (by simp[maxLen];omega) (by omega) (hA.fr (au s')).nil λa1 c1 w1 s1=>?_;simp[List.set_cons_zero,List.nil_append,Nat.zero_add]at s1⊢;exact h _ _ _ (dX s s1 (i:=0) rfl) (au s1)
def Kg {Q:Option Addr->Nat->Nat->World->Prop}(s:Sep F W w L)(hA:Sl w a n c 1 one bs)(hn:n<=1000000000)(h:∀ra rc w',Sep F W w' (aj ra n rc 3 1 (flat one bs)::L)->Fr No w w'->Q ra n rc w'):kB a n c w Q:=by
 apply Ix;cases a with
 |none=>
  have hl:=hA.len;have:=hA.nil rfl;have h0:n=0:=by have:=hA.le;omega
  subst h0;have hb:=List.eq_nil_of_length_eq_zero hl;subst hb;exact h _ _ _ (bE s 3 1) Fr.refl
 |some p=>
  apply l9;refine aS (bt (F:=No)) λb w' s'=>?_;have src:=(hA.fr (au s')).src (e:=3) cj D6;have s':=iS (n:=0) (size:=1) s' (i:=0) rfl rfl (by decide) (by simp);refine iH dU s' (i:=0) (bytes:=8) rfl rfl rfl rfl rfl rfl (by decide) rfl src (by simp[maxLen];omega) (by omega) (hA.fr (au s')).nil λa1 c1 w1 s1=>?_;simp[List.set_cons_zero,List.nil_append,Nat.zero_add]at s1⊢;exact h _ _ _ (dX s s1 (i:=0) rfl) (au s1)
end
def w32 (x:Int):List Value:=[.int .u32 x]
def Vw (x:Int):(w32 x).length=1:=rfl
structure OX where
 p:Nat
 a:Option Addr
 n:Nat
 c:Nat
 fH:Int
def Vx (ws:List Int):Prop:=∀x∈ws,0<=x/\x<4294967296
def abS (r:OX)(ws:List Int):List As:=[av r.p 247 [.slice r.a r.n r.c,ae r.fH],aj r.a r.n r.c 248 1 (flat w32 ws)]
def uI (r:OX)(ws:List Int):As:=aU (Vx ws) (abS r ws)
def wrap_u32' {n:Int}(h:0<=n/\n<4294967296):IntKind.wrap .u32 n=n:=by
 have:IntKind.wrap .u32 n=n%4294967296:=by simp[IntKind.wrap,IntKind.bits,IntKind.signed]
 grind
section
variable {F:Nat->Prop}{W w w0:World}{L:List As}{r:OX}{ws:List Int}{ce id:Int}
def QM (s:Sep F W w (uI r ws::L)):Vx ws/\Sep F W w (abS r ws++L):=iT s
def Nd (s:Sep F W w (abS r ws++L))(h:Vx ws):Sep F W w (uI r ws::L):=dW s h
structure ZT (w:World) (r:OX) (ws:List Int):Prop where
 ok:Vx ws
 cell:ri w r.p [.slice r.a r.n r.c,ae r.fH]
 V:Sl w r.a r.n r.c 1 w32 ws
def Fj (s:Sep F W w (uI r ws::L)):ZT w r ws:=by obtain⟨h,s⟩:=QM s;exact⟨h,kK s (i:=0) rfl,aL s (i:=1) rfl Vw (by decide)⟩
def Bw (ws:List Int)(c:Int):Int:=if 0<=c/\c<ws.length then gi ws c.toNat-1 else-1
def zB (ws:List Int)(c:Int):Bool:=decide (0<=c/\c<ws.length)&&gi ws c.toNat==0
def OY {Q:Bool->World->Prop}(k:ZT w r ws)(h:Q (decide (0<=ce/\ce<ws.length)) w):s8 (sZ r.p) ce w Q:=by
 apply Qi;have hl:=k.V.len;show cond true _ _;rw[cond_true];by_cases h0:ce≥0
 ·rw[bJ h0];refine ah (dy (k.cell 0 _ rfl) ?_);grind
 grind
def Kh {Q:Bool->World->Prop}(k:ZT w r ws)(h:Q (zB ws ce) w):qI (sZ r.p) ce w Q:=by
 apply MT;apply OY k;have hl:=k.V.len;unfold zB at h;by_cases h0:0<=ce/\ce<ws.length
 ·rw[bJ h0];rw[decide_eq_true h0,Bool.true_and]at h;refine ah (dy (k.cell 0 _ rfl) ?_);exact EO k.V (by omega) (by omega) h
 grind
def AD {Q:Int->World->Prop}(k:ZT w r ws)(h:Q (Bw ws ce) w):lq (sZ r.p) ce w Q:=by
 apply Ob;apply OY k;have hl:=k.V.len;unfold Bw at h;by_cases h0:0<=ce/\ce<ws.length
 ·rw[decide_eq_true h0,Bool.not_true,cond_false];rw[if_pos h0]at h;refine ah (dy (k.cell 0 _ rfl) ?_);apply EO k.V (k:=ce.toNat) (by omega) (by omega);have hb:=k.ok _ (fy (i:=ce.toNat) (by omega));rw[aF (n:=gi ws ce.toNat),aF];exact h
 grind
def L4 {Q:Bool->World->Prop}(s:Sep F W w (uI r ws::L))(yW:0<=id/\id<4294967295)(hno:zB ws ce=false->Q false w)
  (hyes:zB ws ce=true->∀fH w',Sep F W w' (uI {r with fH:=fH} (ws.set ce.toNat (id+1))::L)->Q true w'):rB (sZ r.p) ce id w Q:=by
 apply Og;have k:=Fj s;apply Kh k;cases hf:zB ws ce with
 |false=>exact hno hf
 |true=>
  rw[Bool.not_true,cond_false,bp,bp];have h0:0<=ce/\ce<ws.length:=by unfold zB at hf;grind
  obtain⟨hok,s⟩:=QM s;have s:=s;apply ah;apply lS s 0 rfl;rw[aF,wrap_u32' (by omega)];refine LY (k:=ce.toNat) (x':=id+1) Vw s (i:=1) rfl (by omega) (by omega) rfl rfl λw s=>?_;apply ah;apply lI s 0 rfl;apply ah;refine az s (i:=0) rfl rfl rfl λw s=>?_;refine hyes hf (IntKind.wrap .i64 (r.fH+1)) _ (Nd s λx hx=>?_);rcases List.mem_or_eq_of_mem_set hx with hx|rfl
  ·exact hok x hx
  ·omega
end
section
variable {F:Nat->Prop}{W w w0:World}{L:List As}{r:OX}{ws:List Int}{ce id:Int}
def Ki {Q:Int->World->Prop}(s:Sep F W w (uI r ws::L))(hno:Bw ws ce=-1->Q (-1) w)
  (hyes:Bw ws ce≠-1->∀fH w',Sep F W w' (uI {r with fH:=fH} (ws.set ce.toNat 0)::L)->Q (Bw ws ce) w'):qH (sZ r.p) ce w Q:=by
 apply MV;have k:=Fj s;apply AD k;by_cases hf:Bw ws ce=-1
 ·grind
 ·rw[Fe hf,cond_true];have h0:0<=ce/\ce<ws.length:=by unfold Bw at hf;grind
  obtain⟨hok,s⟩:=QM s;have s:=s;apply ah;apply lS s 0 rfl;refine LY (k:=ce.toNat) (x':=0) Vw s (i:=1) rfl (by omega) (by omega) rfl rfl λw s=>?_;apply ah;apply lI s 0 rfl;apply ah;refine az s (i:=0) rfl rfl rfl λw s=>?_;refine hyes hf (IntKind.wrap .i64 (r.fH-1)) _ (Nd s λx hx=>?_);rcases List.mem_or_eq_of_mem_set hx with hx|rfl
  ·exact hok x hx
  ·omega
def ZU {N:Nat}{Q:Option Addr->World->Prop}(s:Sep F W w L)(hN:1<=N/\N<=1048576)(h:∀r w',Sep F W w' (uI r (List.replicate N 0)::L)->Q (sZ r.p) w'):E1 N w Q:=by apply Zw;rw[bp,bp];refine uk (bytes:=4) dU s rfl rfl rfl rfl rfl rfl (by decide) Vw rfl (λu hu=>by simp[w32]at hu;subst hu;rfl) rfl rfl (Nat.le_refl _) (by omega) (by simp[maxLen];omega) λb w' s=>?_;refine aS s λp w' s=>?_;refine h ⟨p,sZ b,N,N,0⟩ _ (Nd s λx hx=>?_);grind
def Wu {fr to:Int}{Q:Bool->World->Prop}(s:Sep F W w (uI r ws::L))(hno:Bw ws fr=-1\/zB ws to=false->Q false w)
  (hyes:Bw ws fr≠-1->zB ws to=true->∀fH w',Sep F W w' (uI {r with fH:=fH} ((ws.set fr.toNat 0).set to.toNat (Bw ws fr+1))::L)->Q true w'):vw (sZ r.p) fr to w Q:=by
 apply Lx;have k:=Fj s;apply AD k;by_cases hf:Bw ws fr=-1
 ·grind
 rw[cJ hf,cond_false];apply Kh k;cases ht:zB ws to with
 |false=>
  grind
 |true=>
  refine Ki s (λe=>(hf e).elim) λ_ fH w s=>?_;have hw:0<=Bw ws fr/\Bw ws fr<4294967295:=by
   unfold Bw at hf⊢;split at hf
   ·rename_i h0;have:=k.ok _ (fy (i:=fr.toNat) (by omega));omega
   grind
  have hfree:zB (ws.set fr.toNat 0) to=true:=by unfold zB at ht⊢;simp[Bool.and_eq_true,decide_eq_true_eq,List.length_set,beq_iff_eq]at ht⊢;refine⟨ht.1,?_⟩;unfold gi at ht⊢;grind
  refine L4 (r:={r with fH:=fH}) s (by omega) (λe=>by grind) λ_ ay3 w s=>?_;grind
end
def oD (x:Int):List Value:=[.int .i32 x]
def uJ (x:Int):(oD x).length=1:=rfl
def ade {n:Int}(h:-2147483648<=n/\n<2147483648):IntKind.wrap .i32 n=n:=by simp only[IntKind.wrap,IntKind.bits,IntKind.signed];simp;omega
structure Fk where
 goal:Int
 ep:Int
 ds:List Int
structure wI where
 p:Nat
 a:Option Addr
 n:Nat
 c:Nat
def alw (r:wI)(t:Fk):List Value:=[ae t.goal,ae t.ep,.slice r.a r.n r.c]
def agc (ds:List Int):Prop:=∀x∈ds,0<=x/\x<=2147483647
def abT (r:wI)(t:Fk):List As:=[av r.p 298 (alw r t),aj r.a r.n r.c 21 1 (flat oD t.ds)]
def Dc (r:wI)(t:Fk):As:=aU (agc t.ds) (abT r t)
structure Fl (w:World) (r:wI) (t:Fk):Prop where
 ok:agc t.ds
 cell:ri w r.p (alw r t)
 V:Sl w r.a r.n r.c 1 oD t.ds
section
variable {F:Nat->Prop}{W w w0:World}{L:List As}{r:wI}{t:Fk}{ce key:Int}
def Fl.fr {w':World}(k:Fl w r t)(f:Fr No w w'):Fl w' r t:=⟨k.ok,k.cell.fr f,k.V.fr f⟩
def ZV (s:Sep F W w (Dc r t::L)):agc t.ds/\Sep F W w (abT r t++L):=iT s
def WU (s:Sep F W w (abT r t++L))(h:agc t.ds):Sep F W w (Dc r t::L):=dW s h
def QN (s:Sep F W w (Dc r t::L)):Fl w r t:=by obtain⟨h,s⟩:=ZV s;exact⟨h,kK s (i:=0) rfl,aL s (i:=1) rfl uJ (by decide)⟩
def atF (ds:List Int)(c:Int):Int:=if 0<=c/\c<ds.length then(if gi ds c.toNat=2147483647 then bW else gi ds c.toNat)else bW
def abU {Q:Int->World->Prop}(k:Fl w r t)(h:Q (atF t.ds ce) w):zg (sZ r.p) ce w Q:=by
 apply Qp;apply l9;have hl:=k.V.len;unfold atF at h;by_cases h0:ce<0
 ·rw[bJ h0];rw[ru]at h;exact h
 rw[bp h0];refine ah (dy (k.cell 2 _ rfl) ?_);by_cases h1:ce≥(r.n:Int)
 ·rw[bJ h1];rw[ru]at h;exact h
 rw[bp h1];rw[zP]at h;refine ah (dy (k.cell 2 _ rfl) ?_);apply EO k.V (k:=ce.toNat) (by omega) (by omega);have hb:=k.ok _ (fy (i:=ce.toNat) (by omega));by_cases h2:gi t.ds ce.toNat=2147483647
 ·rw[dK h2,cond_true];rw[if_pos h2]at h;exact h
 rw[cJ h2,cond_false];rw[if_neg h2]at h;refine ah (dy (k.cell 2 _ rfl) ?_);apply EO k.V (k:=ce.toNat) (by omega) (by omega);rw[aF];exact h
def Yc {Q:Int->World->Prop}(k:Fl w r t)(h:Q t.goal w):w9 (sZ r.p) w Q:=by apply MY;exact l9 (ah (aQ (k.cell 0 _ rfl) h))
def Wv {Q:Int->World->Prop}(k:Fl w r t)(h:Q t.ep w):vA (sZ r.p) w Q:=by apply Lj;exact l9 (ah (aQ (k.cell 1 _ rfl) h))
def Kj {Q:Bool->World->Prop}(s:Sep F W w (Dc r t::L))(hc:0<=ce/\ce<t.ds.length)(hk:0<=key/\key<4000000000)(hno:key≥gi t.ds ce.toNat->Q false w)
  (hyes:key<gi t.ds ce.toNat->∀w',Sep F W w' (Dc r ⟨t.goal,t.ep,t.ds.set ce.toNat key⟩::L)->Q true w'):qJ (sZ r.p) ce key w Q:=by
 apply M1;have k:=QN s;have hl:=k.V.len;have hb:=k.ok _ (fy (i:=ce.toNat) (by omega));refine ah (dy (k.cell 2 _ rfl) ?_);apply EO k.V (k:=ce.toNat) (by omega) (by omega);rw[aF];by_cases h1:key≥gi t.ds ce.toNat
 ·grind
 rw[bp h1];refine ah (dy (k.cell 2 _ rfl) ?_);obtain⟨hok,s⟩:=ZV s;have s:=s;rw[ade (by omega)];refine LY (k:=ce.toNat) (x':=key) uJ s (i:=1) rfl (by omega) (by omega) rfl rfl λw s=>?_;refine hyes (by omega) _ (WU s λx hx=>?_);rcases List.mem_or_eq_of_mem_set hx with hx|rfl
 ·exact hok x hx
 ·omega
end
def QO (c s:Int)(st:Int×Bool)(x:bg):Int×Bool:=if x.c=c/\x.s=s/\(st.2=false\/x.k<st.1)then(x.k,true)else st
def G1 (xs:List bg)(c s:Int):Int:=(xs.foldl (QO c s) (bW,false)).1
section
variable {F:Nat->Prop}{W w w0:World}{L:List As}{la:Option Addr}{ln lc:Nat}{xs:List bg}{ce sd:Int}
def aly {Q:Int->World->Prop}(hX:Sl w0 la ln lc 3 fI xs)(pI:ln<=1000000)(h:∀w',Sep No w0 w' []->Q (G1 xs ce sd) w'):
  ∀(j i:Nat) (b:Int) (q:Bool) (w:World),i+j=ln->(xs.drop i).foldl (QO ce sd) (b,q)=xs.foldl (QO ce sd) (bW,false)->Sep No w0 w []->nZ Q (j+1) ce sd b q la ln lc ln i w:=by
 have hl:=hX.len;intro j;induction j with
 |zero=>
  intro i b q w hi he s;show yx Q (nZ Q 0) _ _ _ _ _ _ _ _ _ _;unfold yx;have:=h w s;unfold G1 at this;grind
 |succ j ih=>
  intro i b q w hi he s;show yx Q (nZ Q (j+1)) _ _ _ _ _ _ _ _ _ _;rw[yx,bJ];refine(hX.fr (au s)).El rfl (by omega) λp x hx hc=>?_;refine aQ (hc 0 _ rfl) (aQ (hc 1 _ rfl) (aQ (hc 2 _ rfl) ?_));obtain⟨Hq,hx'⟩:=List.getElem?_eq_some_iff.1 hx;rw[List.drop_eq_getElem_cons Hq,hx',List.foldl_cons]at he;refine aY s λsb w s=>?_;refine az s (i:=0) rfl rfl rfl λw s=>?_;refine az s (i:=0) rfl rfl rfl λw s=>?_;refine az s (i:=0) rfl rfl rfl λw s=>?_;have skip:¬(x.c=ce/\x.s=sd/\(q=false\/x.k<b))->nZ Q (j+1) ce sd b q la ln lc ln (IntKind.wrap .i64 ((i:Int)+1)) w:=λhn=>by rw[aF];refine ih (i+1) b q w (by omega) ?_ (ai s);have e:QO ce sd (b,q) x=(b,q):=if_neg hn;grind
  have take:x.c=ce/\x.s=sd/\(q=false\/x.k<b)->Cd (nZ Q (j+1)) Q ce sd (aZ sb) la ln lc ln i w:=λhy=>by apply lI s 0 rfl;rw[aF];refine ih (i+1) x.k true w (by omega) ?_ (ai s);have e:QO ce sd (b,q) x=(x.k,true):=if_pos hy;grind
  apply lI s 0 rfl;by_cases k1:x.c=ce
  ·rw[dK k1,cond_true];apply lI s 0 rfl;by_cases k2:x.s=sd
   ·rw[dK k2,cond_true];cases q with
    |false=>
     grind
    |true=>
     apply lI s 0 rfl;grind
   grind
  grind
def Kk {Q:Int->World->Prop}(s0:Sep F W w L)(hX:Sl w la ln lc 3 fI xs)(pI:ln<=1000000)(h:∀w',Sep F W w' L->Fr No w w'->Q (G1 xs ce sd) w'):zn la ln lc ce sd w Q:=by apply X4;exact⟨ln+1,aly hX pI (λw' s=>h _ (bV s0 (au s)) (au s)) ln 0 bW false w (by omega) (by grind) bt⟩
end
def bK (tw th l s:Int):Int:=
 if s=0 then(if l/tw>0 then l-tw else-1)
 else if s=1 then(if l%tw<tw-1 then l+1 else-1)
 else if s=2 then(if l/tw<th-1 then l+tw else-1)
 else if s=3 then(if l%tw>0 then l-1 else-1)
 else-1
section
variable {F:Nat->Prop}{W w w0:World}{L:List As}{p:Nat}{tw th l sd:Int}{vs:List Value}
def ZW {Q:Int->World->Prop}(s0:Sep F W w L)(k:ri w p (ae tw::ae th::vs))(hw:1<=tw/\tw<=16)(hh:1<=th/\th<=16)(hl:0<=l/\l<1000000)
  (h:∀w',Sep F W w' L->Fr No w w'->Q (bK tw th l sd) w'):yc (sZ p) l sd w Q:=by
 apply OE;have k:=k.fr (w':=w.drew) Fr.refl;have h:=h _ (ax s0) Fr.refl;have d0:0<=l/tw:=Int.ediv_nonneg hl.1 (by omega);have d1:l/tw<=l:=Int.ediv_le_self _ hl.1;refine ah (aQ (k 0 _ rfl) ⟨by omega,ah (aQ (k 0 _ rfl) ⟨by omega,k 0 _ rfl,?_⟩)⟩);rw[Int.tdiv_eq_ediv_of_nonneg hl.1,Int.tmod_eq_emod_of_nonneg hl.1,aF];unfold bK at h;have b8:(if sd=3 then(if l%tw>0 then l-1 else-1)else-1:Int)=bK tw th l sd->qh Q l sd (l%tw) w.drew:=λe=>by
  unfold bK at e;unfold qh;by_cases k3:sd=3
  ·by_cases q:l%tw>0
   ·rw[bJ q,aF];grind
   grind
  grind
 have b6:(sd≠0->sd≠1->True)->(sd=0\/sd=1->bK tw th l sd=-1)->qi Q (sZ p) l sd (l%tw) (l/tw) w.drew:=λ_ e=>by
  unfold qi;by_cases k2:sd=2
  ·rw[dK k2,cond_true];rw[ru,ru,if_pos k2]at h;refine ah (aQ (k 1 _ rfl) ?_);rw[aF];by_cases q:l/tw<th-1
   ·rw[bJ q];rw[if_pos q]at h;refine ah (aQ (k 0 _ rfl) ?_);rw[aF];exact h
   ·rw[bp q];apply b8;unfold bK;omega
  ·rw[cJ k2,cond_false];apply b8;by_cases k01:sd=0\/sd=1
   ·omega
   ·unfold bK;omega
 have b4:(sd=0->bK tw th l sd=-1)->qj Q (sZ p) l sd (l%tw) (l/tw) w.drew:=λe=>by
  unfold qj;by_cases k1:sd=1
  ·rw[dK k1,cond_true];refine ah (aQ (k 0 _ rfl) ?_);rw[aF];by_cases q:l%tw<tw-1
   ·rw[bJ q,aF];grind
   ·rw[bp q];refine b6 (λ_ _=>trivial) λ_=>?_;unfold bK;omega
  grind
 by_cases k0:sd=0
 ·rw[dK k0,cond_true];by_cases q:l/tw>0
  ·rw[bJ q];rw[if_pos k0,if_pos q]at h;refine ah (aQ (k 0 _ rfl) ?_);rw[aF];exact h
  ·rw[bp q];refine b4 λ_=>?_;unfold bK;grind
 grind
end
end Go.Proofs.YtmegplnmiepfbaaGreatDoor.S
namespace Go.Proofs.YtmegplnmiepfbaaGreatDoor.S
open Go.Sx
section
variable {w h sc l s c x y:Int}
def Fm (hm:iU w h)(hx:0<=x/\x<w)(hy:0<=y/\y<h):aC w h (y*w+x)/cB w=y/16/\aC w h (y*w+x)%cB w=x/16:=by obtain⟨e1,e2⟩:=qR (y:=y) hx;have:=Tx (Zc hm hx hy);grind
def yE (hs:dA w h sc):(1<=aD w h sc/\aD w h sc<=16)/\(1<=bu w h sc/\bu w h sc<=16)/\0<=sc%cB w/\0<=sc/cB w/\16*(sc%cB w)<w/\16*(sc/cB w)<h:=by
 obtain⟨hm,h0,h1⟩:=hs;have ha:1<=cB w:=by unfold cB;have:=hm.1;omega
 have m0:=Int.emod_nonneg sc (show cB w≠0 by omega);have m1:=Int.emod_lt_of_pos sc (show 0<cB w by omega);have d0:0<=sc/cB w:=Int.ediv_nonneg h0 (by omega);have d1:sc/cB w<cB h:=Int.ediv_lt_of_lt_mul (by omega) (by unfold ej at h1;grind);have a1:16*(sc%cB w)<w:=by unfold cB at*;omega
 have a2:16*(sc/cB w)<h:=by have:cB h=(h+15)/16:=rfl;omega
 unfold aD bu;omega
def OZ (hs:dA w h sc)(hl:0<=l/\l<aD w h sc*bu w h sc)(vh:0<=s/\s<=3)(hn:0<=bK (aD w h sc) (bu w h sc) l s):
  (0<=bK (aD w h sc) (bu w h sc) l s/\bK (aD w h sc) (bu w h sc) l s<aD w h sc*bu w h sc)/\aX w h (bS w h sc l) s=bS w h sc (bK (aD w h sc) (bu w h sc) l s):=by
 obtain⟨⟨w1,w2⟩,⟨h1,h2⟩,p1,p2,p3,p4⟩:=yE hs;have hw:aD w h sc<=w-16*(sc%cB w):=by unfold aD;omega
 have hh:bu w h sc<=h-16*(sc/cB w):=by unfold bu;omega
 obtain⟨i0,i1⟩:0<=l%aD w h sc/\l%aD w h sc<aD w h sc:=⟨Int.emod_nonneg _ (by omega),Int.emod_lt_of_pos _ (by omega)⟩;obtain⟨j0,j1⟩:0<=l/aD w h sc/\l/aD w h sc<bu w h sc:=⟨Int.ediv_nonneg hl.1 (by omega),Int.ediv_lt_of_lt_mul (by omega) (by rw[Int.mul_comm];exact hl.2)⟩;have hle:l=l/aD w h sc*aD w h sc+l%aD w h sc:=by have:=Int.mul_ediv_add_emod l (aD w h sc);rw[Int.mul_comm]at this;omega
 have hg:∀i j,0<=i/\i<aD w h sc->bS w h sc (j*aD w h sc+i)=(16*(sc/cB w)+j)*w+(16*(sc%cB w)+i):=λi j hi=>by obtain⟨e1,e2⟩:=qR hi;rw[bS,e1,e2];omega
 have key:∀i j i' j',l=j*aD w h sc+i->0<=i/\i<aD w h sc->0<=i'/\i'<aD w h sc->0<=j'/\j'<bu w h sc->bK (aD w h sc) (bu w h sc) l s=j'*aD w h sc+i'->
   (0<=j/\j<bu w h sc)->aX w h ((16*(sc/cB w)+j)*w+(16*(sc%cB w)+i)) s=gK w h (16*(sc%cB w)+i') (16*(sc/cB w)+j')->
   (0<=bK (aD w h sc) (bu w h sc) l s/\bK (aD w h sc) (bu w h sc) l s<aD w h sc*bu w h sc)/\aX w h (bS w h sc l) s=bS w h sc (bK (aD w h sc) (bu w h sc) l s):=by
  intro i j i' j' el hi hi' hj' en hj es;rw[en,el,hg _ _ hi,hg _ _ hi',es,mN hs.1 (by omega) (by omega)];refine⟨⟨by have:=Int.mul_nonneg hj'.1 (show 0<=aD w h sc by omega);omega,?_⟩,rfl⟩;have:=Int.mul_le_mul_of_nonneg_right (show j'+1<=bu w h sc by omega) (show 0<=aD w h sc by omega);rw[Int.add_mul,Int.one_mul,Int.mul_comm (bu w h sc)]at this;omega
 have hst:=DE (s:=s) hs.1 (x:=16*(sc%cB w)+l%aD w h sc) (y:=16*(sc/cB w)+l/aD w h sc) (by omega) (by omega);unfold bK at hn;obtain rfl|rfl|rfl|rfl:s=0\/s=1\/s=2\/s=3:=by omega
 ·by_cases q:l/aD w h sc>0
  ·refine key _ _ (l%aD w h sc) (l/aD w h sc-1) hle ⟨i0,i1⟩ ⟨i0,i1⟩ (by omega) ?_ ⟨j0,j1⟩ ?_
   ·rw[bK,if_pos rfl,if_pos q,Int.sub_mul,Int.one_mul];omega
   ·rw[hst,if_pos rfl];congr 1;omega
  ·omega
 ·by_cases q:l%aD w h sc<aD w h sc-1
  ·refine key _ _ (l%aD w h sc+1) (l/aD w h sc) hle ⟨i0,i1⟩ (by omega) (by omega) ?_ ⟨j0,j1⟩ ?_
   ·unfold bK;omega
   ·rw[hst,if_neg (by decide),if_neg (by decide),if_neg (by decide),if_pos rfl];congr 1;omega
  ·omega
 ·by_cases q:l/aD w h sc<bu w h sc-1
  ·refine key _ _ (l%aD w h sc) (l/aD w h sc+1) hle ⟨i0,i1⟩ ⟨i0,i1⟩ (by omega) ?_ ⟨j0,j1⟩ ?_
   ·rw[bK,if_neg (by decide),if_neg (by decide),if_pos rfl,if_pos q,Int.add_mul,Int.one_mul];omega
   ·rw[hst,if_neg (by decide),if_pos rfl];congr 1;omega
  ·omega
 ·by_cases q:l%aD w h sc>0
  ·refine key _ _ (l%aD w h sc-1) (l/aD w h sc) hle ⟨i0,i1⟩ (by omega) (by omega) ?_ ⟨j0,j1⟩ ?_
   ·unfold bK;omega
   ·rw[hst,if_neg (by decide),if_neg (by decide),if_pos rfl];congr 1;omega
  ·omega
def QS (hs:dA w h sc)(hl:0<=l/\l<aD w h sc*bu w h sc)(vh:0<=s/\s<=3)(hn:¬0<=bK (aD w h sc) (bu w h sc) l s):
  (0<=aX w h (bS w h sc l) s->aC w h (aX w h (bS w h sc l) s)≠sc)/\l∈lX (aD w h sc) (bu w h sc) s/\
  (0<=aX w h (bS w h sc l) s->0<=aX w h (bS w h sc (gi (lX (aD w h sc) (bu w h sc) s) 0)) s):=by
 obtain⟨⟨w1,w2⟩,⟨h1,h2⟩,p1,p2,p3,p4⟩:=yE hs;have hw:aD w h sc=min 16 (w-16*(sc%cB w)):=rfl;have hh:bu w h sc=min 16 (h-16*(sc/cB w)):=rfl;obtain⟨i0,i1⟩:0<=l%aD w h sc/\l%aD w h sc<aD w h sc:=⟨Int.emod_nonneg _ (by omega),Int.emod_lt_of_pos _ (by omega)⟩;obtain⟨j0,j1⟩:0<=l/aD w h sc/\l/aD w h sc<bu w h sc:=⟨Int.ediv_nonneg hl.1 (by omega),Int.ediv_lt_of_lt_mul (by omega) (by rw[Int.mul_comm];exact hl.2)⟩;have hle:l=l/aD w h sc*aD w h sc+l%aD w h sc:=by have:=Int.mul_ediv_add_emod l (aD w h sc);rw[Int.mul_comm]at this;omega
 have hg:∀i j,0<=i/\i<aD w h sc->bS w h sc (j*aD w h sc+i)=(16*(sc/cB w)+j)*w+(16*(sc%cB w)+i):=λi j hi=>by obtain⟨e1,e2⟩:=qR hi;rw[bS,e1,e2];omega
 have hst:=DE (s:=s) hs.1 (x:=16*(sc%cB w)+l%aD w h sc) (y:=16*(sc/cB w)+l/aD w h sc) (by omega) (by omega);have WV:bS w h sc l=(16*(sc/cB w)+l/aD w h sc)*w+(16*(sc%cB w)+l%aD w h sc):=by have:=hg (l%aD w h sc) (l/aD w h sc) ⟨i0,i1⟩;rw[<-hle]at this;exact this
 rw[<-WV]at hst;have first:∀i j,0<=i/\i<aD w h sc->0<=j/\j<bu w h sc->aX w h (bS w h sc (j*aD w h sc+i)) s=if s=0 then gK w h (16*(sc%cB w)+i) (16*(sc/cB w)+j-1)else if s=2 then gK w h (16*(sc%cB w)+i) (16*(sc/cB w)+j+1)else if s=3 then gK w h (16*(sc%cB w)+i-1) (16*(sc/cB w)+j)else if s=1 then gK w h (16*(sc%cB w)+i+1) (16*(sc/cB w)+j)else if s=4 then gK w h (16*(sc%cB w)+i) (16*(sc/cB w)+j)else-1:=λi j hi hj=>by rw[hg i j hi];exact DE hs.1 (by omega) (by omega)
 have ok:∀{x y:Int},0<=gK w h x y->(0<=x/\x<w)/\(0<=y/\y<h)/\gK w h x y=y*w+x:=λh0=>by obtain⟨a,b,_⟩:=A3 h0;exact⟨a,b,mN hs.1 a b⟩
 have pos:∀{x y:Int},0<=x/\x<w->0<=y/\y<h->0<=gK w h x y:=λhx hy=>by rw[mN hs.1 hx hy];have:=Int.mul_nonneg hy.1 (show 0<=w by omega);omega
 have head:∀(n:Int) (f:Int->Int),0<n->gi (lW n f) 0=f 0:=λn f hn=>by unfold gi lW;rw[List.getD_eq_getElem?_getD,List.getElem?_map,List.getElem?_range (by omega)];rfl
 have mem:∀(n:Int) (f:Int->Int) (k:Int),0<=k/\k<n->f k∈lW n f:=λn f k hk=>by refine List.mem_map.2 ⟨k.toNat,List.mem_range.2 (by omega),?_⟩;rw[Int.toNat_of_nonneg hk.1]
 unfold bK at hn;obtain rfl|rfl|rfl|rfl:s=0\/s=1\/s=2\/s=3:=by omega
 ·rw[hst,if_pos rfl];have q:¬l/aD w h sc>0:=λq=>by have:=Int.mul_le_mul_of_nonneg_right (show 1<=l/aD w h sc by omega) (show 0<=aD w h sc by omega);omega
  have hj:l/aD w h sc=0:=by omega
  have ha:lX (aD w h sc) (bu w h sc) 0=lW (aD w h sc) λx=>0+x:=by unfold lX;rw[if_neg (by decide),if_pos rfl]
  rw[ha];refine⟨λh0 e=>?_,?_,λh0=>?_⟩
  ·obtain⟨a,b,e1⟩:=ok h0;rw[e1]at e;have:=(Fm hs.1 a b).1;rw[e]at this;omega
  ·have:=mem (aD w h sc) (λx=>0+x) l (by rw[hj,Int.zero_mul]at hle;omega);simpa using this
  ·rw[head _ _ (by omega)];have:=first 0 0 (by omega) (by omega)
   rw[Int.zero_mul]at this;rw[this,if_pos rfl];obtain⟨a,b,_⟩:=ok h0;exact pos (by omega) (by omega)
 ·rw[hst,if_neg (by decide),if_neg (by decide),if_neg (by decide),if_pos rfl];have q:¬l%aD w h sc<aD w h sc-1:=λq=>by omega
  have ha:lX (aD w h sc) (bu w h sc) 1=lW (bu w h sc) λy=>aD w h sc-1+y*aD w h sc:=by unfold lX;rw[if_neg (by decide),if_neg (by decide),if_pos rfl]
  rw[ha];refine⟨λh0 e=>?_,?_,λh0=>?_⟩
  ·obtain⟨a,b,e1⟩:=ok h0;rw[e1]at e;have:=(Fm hs.1 a b).2;rw[e]at this;omega
  ·have:=mem (bu w h sc) (λy=>aD w h sc-1+y*aD w h sc) (l/aD w h sc) ⟨j0,j1⟩;rwa[show aD w h sc-1+l/aD w h sc*aD w h sc=l by omega]at this
  ·rw[head _ _ (by omega)];have:=first (aD w h sc-1) 0 (by omega) (by omega)
   rw[Int.zero_mul,Int.zero_add]at this;rw[Int.zero_mul,Int.add_zero,this,if_neg (by decide),if_neg (by decide),if_neg (by decide),if_pos rfl];obtain⟨a,b,_⟩:=ok h0;exact pos (by omega) (by omega)
 ·rw[hst,if_neg (by decide),if_pos rfl];have q:¬l/aD w h sc<bu w h sc-1:=λq=>by omega
  have ha:lX (aD w h sc) (bu w h sc) 2=lW (aD w h sc) λx=>(bu w h sc-1)*aD w h sc+x:=by unfold lX;rw[if_pos rfl]
  rw[ha];have hj:l/aD w h sc=bu w h sc-1:=by omega
  refine⟨λh0 e=>?_,?_,λh0=>?_⟩
  ·obtain⟨a,b,e1⟩:=ok h0;rw[e1]at e;have:=(Fm hs.1 a b).1;rw[e]at this;omega
  ·have:=mem (aD w h sc) (λx=>(bu w h sc-1)*aD w h sc+x) (l%aD w h sc) ⟨i0,i1⟩;rwa[show(bu w h sc-1)*aD w h sc+l%aD w h sc=l by rw[<-hj];omega]at this
  ·rw[head _ _ (by omega)];have:=first 0 (bu w h sc-1) (by omega) (by omega)
   rw[this,if_neg (by decide),if_pos rfl];obtain⟨a,b,_⟩:=ok h0;exact pos (by omega) (by omega)
 ·rw[hst,if_neg (by decide),if_neg (by decide),if_pos rfl];have q:¬l%aD w h sc>0:=λq=>by have:=Int.mul_nonneg j0 (show 0<=aD w h sc by omega);omega
  have ha:lX (aD w h sc) (bu w h sc) 3=lW (bu w h sc) λy=>0+y*aD w h sc:=by unfold lX;rw[if_neg (by decide),if_neg (by decide),if_neg (by decide),if_pos rfl]
  rw[ha];refine⟨λh0 e=>?_,?_,λh0=>?_⟩
  ·obtain⟨a,b,e1⟩:=ok h0;rw[e1]at e;have:=(Fm hs.1 a b).2;rw[e]at this;omega
  ·have:=mem (bu w h sc) (λy=>0+y*aD w h sc) (l/aD w h sc) ⟨j0,j1⟩;rwa[show 0+l/aD w h sc*aD w h sc=l by omega]at this
  ·rw[head _ _ (by omega),Int.zero_mul,Int.add_zero];have:=first 0 0 (by omega) (by omega)
   rw[Int.zero_mul,Int.add_zero]at this;rw[this,if_neg (by decide),if_neg (by decide),if_pos rfl];obtain⟨a,b,_⟩:=ok h0;exact pos (by omega) (by omega)
end
def fJ (m:bN)(x n c:Int):Prop:=eU m x=true/\eU m n=true/\(∃s:Int,(0<=s/\s<=3)/\aX m.w m.h x s=n)/\c=cH m n
def fY (m:bN)(t x k:Int):Prop:=x=t/\eU m t=true/\k=0
noncomputable def D (m:bN)(t x:Int):Int:=gw (fY m t) (fJ m) x
def cO (m:bN)(x:Int):Int:=aC m.w m.h x
def nL (m:bN)(x:Int):Prop:=x∈aT m (cO m x)
section
variable {m:bN}{t x n c d s sc l:Int}
def By (h:eU m x=true):0<cH m x/\cH m x<255:=by unfold eU at h;simpa using h
def jE (hm:c7 m)(h:eU m x=true):bC m.w m.h x:=by
 have:=(By h).1;unfold cH at this;split at this
 ·rename_i hx;rw[hm.len]at hx;exact⟨⟨hm.w,hm.h⟩,hx⟩
 ·omega
def Fo (h:fJ m x n c):1<=c/\c<=254:=by have:=By h.2.1;rw[h.2.2.2];omega
def QT {k:Int}(h:fY m t x k):0<=k/\k<=0:=by rw[h.2.2];omega
def cT:∀x n c,fJ m x n c->0<=c:=λx n c h=>by have:=Fo h;omega
def kE:∀x k,fY m t x k->0<=k:=λx k h=>(QT h).1
def aix (h:Wy (fY m t) (fJ m) x d):eU m x=true/\eU m t=true:=by
 induction h with
 |src h=>exact⟨by rw[h.1];exact h.2.1,h.2.1⟩
 |go e _ ih=>exact⟨e.1,ih.2⟩
def jF (m:bN):List Int:=(List.range m.cs.length).map λi:Nat=>(i:Int)
def yF (hm:c7 m)(hx:bC m.w m.h x):x∈jF m:=by have h1:=hx.2;have h2:=hm.len;exact List.mem_map.2 ⟨x.toNat,List.mem_range.2 (by omega),by omega⟩
def anX (hm:c7 m)(hw:Wy (fY m t) (fJ m) x d):0<=D m t x/\D m t x<=254*(m.w*m.h-1):=by
 have h1:=Zd (S:=fY m t) (E:=fJ m) (λx k h=>QT h) (λx n c h=>Fo h) (jF m) (λx d h=>yF hm (jE hm (aix h).1)) hw;have h2:((jF m).length:Int)=m.w*m.h:=by rw[<-hm.len];simp[jF]
 refine⟨mg kE cT (qq kE cT hw).1,?_⟩;show gw (fY m t) (fJ m) x<=_;omega
def anY (hm:c7 m)(hw:Wy (fY m t) (fJ m) x d):D m t x<1000000000:=by have:=anX hm hw;have:=pZ ⟨hm.w,hm.h⟩;omega
def aeT (h:¬∃d,Wy (fY m t) (fJ m) x d):D m t x=bW:=wP λd hd=>h ⟨d,hd⟩
def Jb (hm:c7 m):D m t x<bW↔∃d,Wy (fY m t) (fJ m) x d:=by
 constructor
 ·intro h;refine Classical.byContradiction λk=>?_;rw[aeT k]at h;grind
 ·rintro ⟨d,hd⟩;have:=anY hm hd;unfold bW;omega
def apz (hw:Wy (fY m t) (fJ m) x d):Wy (fY m t) (fJ m) x (D m t x)/\∀e,Wy (fY m t) (fJ m) x e->D m t x<=e:=qq kE cT hw
def arU (h:eU m t=true):D m t t=0:=JD (.src ⟨rfl,h,rfl⟩) λe he=>mg kE cT he
def Jc (m:bN)(t x s:Int):Prop:=0<=aX m.w m.h x s/\eU m (aX m.w m.h x s)=true/\cH m (aX m.w m.h x s)+D m t (aX m.w m.h x s)=D m t x
open Classical in
noncomputable def o8 (m:bN)(t x:Int):Int:=
 if D m t x=bW then 5 else if x=t then 4 else if Jc m t x 0 then 0 else if Jc m t x 1 then 1 else if Jc m t x 2 then 2 else if Jc m t x 3 then 3 else 5
def anZ (hm:c7 m)(hD:D m t x<bW)(hx:x≠t):∃s,(0<=s/\s<=3)/\Jc m t x s:=by
 obtain⟨d,hw⟩:=(Jb hm).1 hD;rcases PO kE cT hw with h1|⟨n,c,h1,h2,d',h3⟩
 ·exact(hx h1.1).elim
 ·obtain⟨ho,hn,⟨s,hs,rfl⟩,rfl⟩:=h1;refine⟨s,hs,(jE hm hn).2.1,hn,?_⟩;show cH m _+gw (fY m t) (fJ m) _=gw (fY m t) (fJ m) x;omega
def aiy (hm:c7 m)(hD:D m t x<bW)(hx:x≠t):(0<=o8 m t x/\o8 m t x<=3)/\Jc m t x (o8 m t x)/\∀s,0<=s->s<o8 m t x->¬Jc m t x s:=by obtain⟨s,hs,hd⟩:=anZ hm hD hx;rw[o8,ru,if_neg hx];grind
def HM {w h:Int}(hs:0<=s/\s<=3)(h0:0<=aX w h x s):∃s',(0<=s'/\s'<=3)/\aX w h (aX w h x s) s'=x:=by
 obtain⟨c1,c2⟩:=y8 h0;obtain⟨q1,q2,q3⟩:=G0 c1;have hst:aX w h x s=if s=0 then gK w h (x%w) (x/w-1)else if s=2 then gK w h (x%w) (x/w+1)else if s=3 then gK w h (x%w-1) (x/w)else if s=1 then gK w h (x%w+1) (x/w)else if s=4 then gK w h (x%w) (x/w)else-1:=by unfold aX;grind
 have ok:∀{a b:Int},0<=gK w h a b->(0<=a/\a<w)/\(0<=b/\b<h)/\gK w h a b=b*w+a:=λh0=>by obtain⟨a,b,_⟩:=A3 h0;exact⟨a,b,mN c1.1 a b⟩
 rw[hst]at h0⊢;obtain rfl|rfl|rfl|rfl:s=0\/s=1\/s=2\/s=3:=by omega
 ·rw[if_pos rfl]at h0⊢;obtain⟨a,b,e⟩:=ok h0;rw[e];refine⟨2,by decide,?_⟩;rw[DE c1.1 a b,if_neg (by decide),if_pos rfl,mN c1.1 (by omega) (by omega),Int.sub_add_cancel];exact q3.symm
 ·rw[if_neg (by decide),if_neg (by decide),if_neg (by decide),if_pos rfl]at h0⊢;obtain⟨a,b,e⟩:=ok h0;rw[e];refine⟨3,by decide,?_⟩;rw[DE c1.1 a b,if_neg (by decide),if_neg (by decide),if_pos rfl,mN c1.1 (by omega) (by omega)];omega
 ·rw[if_neg (by decide),if_pos rfl]at h0⊢;obtain⟨a,b,e⟩:=ok h0;rw[e];refine⟨0,by decide,?_⟩;rw[DE c1.1 a b,if_pos rfl,mN c1.1 (by omega) (by omega),Int.add_sub_cancel];exact q3.symm
 ·rw[if_neg (by decide),if_neg (by decide),if_pos rfl]at h0⊢;obtain⟨a,b,e⟩:=ok h0;rw[e];refine⟨1,by decide,?_⟩;rw[DE c1.1 a b,if_neg (by decide),if_neg (by decide),if_neg (by decide),if_pos rfl,mN c1.1 (by omega) (by omega)];omega
def alz {tw th:Int}(ht:1<=tw)(hh:1<=th)(vh:0<=s/\s<=3)(h:l∈lX tw th s):¬0<=bK tw th l s:=by
 have mem:∀{n:Int} {f:Int->Int},l∈lW n f->∃k:Int,(0<=k/\k<n)/\l=f k:=λh=>by obtain⟨i,h1,h2⟩:=mem_range h;grind
 unfold lX at h;unfold bK;obtain rfl|rfl|rfl|rfl:s=0\/s=1\/s=2\/s=3:=by omega
 ·grind
 ·rw[if_neg (by decide),if_neg (by decide),if_pos rfl]at h;obtain⟨k,h1,rfl⟩:=mem h;have:=(qR (w:=tw) (x:=tw-1) (y:=k) (by omega)).2;grind
 ·obtain⟨k,h1,rfl⟩:=mem h;have:=(qR (y:=th-1) (by omega)).1;omega
 ·rw[if_neg (by decide),if_neg (by decide),if_neg (by decide),if_pos rfl]at h;obtain⟨k,h1,rfl⟩:=mem h;simp_all
def alA {w h:Int}(hc:bC w h c)(vh:0<=s/\s<=3)(ho:0<=gm w h c s):c∈uG w h (aC w h c):=by
 have hs:=bQ hc;have hl:=jL hc;have hg:=nq hc;obtain⟨⟨w1,w2⟩,⟨h1,h2⟩,_⟩:=yE hs;have hst:0<=aX w h c s/\aC w h (aX w h c s)≠aC w h c:=by unfold gm at ho;omega
 have hout:¬0<=bK (aD w h (aC w h c)) (bu w h (aC w h c)) (dD w h c) s:=λk=>by obtain⟨k1,k2⟩:=OZ hs hl vh k;rw[hg]at k2;apply hst.2;rw[k2];exact iA hs k1
 obtain⟨o1,o2,o3⟩:=QS hs hl vh hout;rw[hg]at o1 o3;have o3:=o3 hst.1;have ok:=af_ (sd:=s) ⟨w1,w2⟩ ⟨h1,h2⟩;have h0:=fy (ok.2.1 vh);have hr0:=ok.2.2 _ h0;have HL:HK w h (aC w h c) s=true:=by
  rw[HK,decide_eq_true_iff];rw[BT,if_pos ⟨hs,hr0⟩];rw[gm,ru,if_neg]
  ·exact o3
  ·rw[iA hs hr0];exact(QS hs hr0 vh (alz w1 h1 vh h0)).1 o3
 refine List.mem_map.2 ⟨(dD w h c).toNat,List.mem_filter.2 ⟨List.mem_range.2 (by omega),?_⟩,?_⟩
 ·rw[xI,List.any_eq_true];refine⟨s.toNat,List.mem_range.2 (by omega),?_⟩;grind
 grind
def alB {w h:Int}(hs:dA w h sc)(h1:c∈uG w h sc):bC w h c/\aC w h c=sc:=by obtain⟨l,h2,rfl⟩:=List.mem_map.1 h1;have h3:=List.mem_range.1 (List.mem_filter.1 h2).1;exact⟨rU hs (by omega),iA hs (by omega)⟩
def lY (hs:dA m.w m.h sc)(h1:c∈aT m sc):eU m c=true/\bC m.w m.h c/\aC m.w m.h c=sc:=by obtain⟨h2,h3⟩:=List.mem_filter.1 h1;exact⟨h3,alB hs h2⟩
def Uz (hm:c7 m)(ho:eU m c=true)(vh:0<=s/\s<=3)(h:0<=gm m.w m.h c s):nL m c:=by exact List.mem_filter.2 ⟨alA (jE hm ho) vh h,ho⟩
def qN (hm:c7 m):∀x n c,fJ m x n c->cO m x≠cO m n->nL m x/\nL m n:=by
 rintro x n c ⟨h1,h2,⟨s,hs,rfl⟩,_⟩ hne;have Tj:=(jE hm h2).2.1;obtain⟨s',hs',hb⟩:=HM hs Tj;refine⟨Uz hm h1 hs ?_,Uz hm h2 hs' ?_⟩
 ·rw[gm,ru,if_neg λe=>hne e.symm];exact Tj
 ·have hx0:=(jE hm h1).2.1;rw[gm,hb,ru,if_neg (show¬aC m.w m.h x=aC m.w m.h (aX m.w m.h x s)from hne)];exact hx0
end
section
variable {m:bN}{t x n c d s sc l:Int}
noncomputable def R (m:bN)(t x:Int):Int:=gw (JE (fY m t) (fJ m) (cO m) (nL m) t) (Ia (fJ m) (cO m) (nL m)) x
def ajA (m:bN)(t s x k:Int):Prop:=cO m x=s/\(fY m t x k\/∃n c,fJ m x n c/\cO m n≠s/\D m t n<bW/\k=D m t n+c)
def Ep:∀x k,fY m t x k->x=t/\k=0:=λx k h=>⟨h.1,h.2.2⟩
def atx (hm:c7 m)(hx:nL m x)(h:D m t x<bW):Wy (JE (fY m t) (fJ m) (cO m) (nL m) t) (Ia (fJ m) (cO m) (nL m)) x (D m t x):=by obtain⟨d,hw⟩:=(Jb hm).1 h;have h1:=apz hw;obtain⟨e,h2,h3⟩:=afH Ep cT (qN hm) hx h1.1;have h4:=h1.2 _ (LP Ep cT (qN hm) h3);grind
def arW (hm:c7 m)(hx:nL m x):R m t x=D m t x:=
 Xq (λd hd=>mg kE cT hd) (λd hd=>afH Ep cT (qN hm) hx hd) λd hd=>LP Ep cT (qN hm) hd
def aqA (hm:c7 m)(hx:cO m x=s):gw (ajA m t s) (sR (fJ m) (cO m) s) x=D m t x:=by
 subst hx;have Kl:=@LP Int (fY m t) (fJ m) (cO m) (nL m) t Ep cT (qN hm);have e1:gw (afF (fY m t) (fJ m) (cO m) (cO m x) (Wy (JE (fY m t) (fJ m) (cO m) (nL m) t) (Ia (fJ m) (cO m) (nL m)))) (sR (fJ m) (cO m) (cO m x)) x=D m t x:=
  Xq (λd hd=>mg kE cT hd) (λd hd=>afG Ep cT (qN hm) hd)
   λd hd=>alg Ep cT (qN hm) (λn d hn=>Kl hn) hd
 rw[<-e1];refine aqx ?_ (λx n c h=>cT _ _ _ h.1) ?_ ?_
 ·rintro x k ⟨_,h|⟨n,c,d,h1,_,h2,rfl⟩⟩
  ·exact kE _ _ h
  ·have:=cT _ _ _ h1;have:=mg kE cT (Kl h2);omega
 ·rintro x k ⟨h0,h|⟨n,c,d,h1,h3,h2,rfl⟩⟩
  ·exact⟨k,Int.le_refl _,h0,.inl h⟩
  ·have h4:=Kl h2;have h5:=apz h4;have h6:=h5.2 _ h4;exact⟨D m t n+c,by omega,h0,.inr ⟨n,c,h1,h3,(Jb hm).2 ⟨d,h4⟩,rfl⟩⟩
 ·rintro x k ⟨h0,h|⟨n,c,h1,h3,h4,rfl⟩⟩
  ·exact⟨h0,.inl h⟩
  ·exact⟨h0,.inr ⟨n,c,_,h1,h3,atx hm (qN hm _ _ _ h1 (by grind)).2 h4,rfl⟩⟩
def G2 (cs:List Int)(l:Int):Prop:=0<=l/\l<cs.length/\gi cs l.toNat≠255
def G3 (tw th:Int)(cs:List Int)(x n c:Int):Prop:=G2 cs x/\G2 cs n/\(∃s:Int,(0<=s/\s<=3)/\bK tw th x s=n)/\c=gi cs n.toNat
def an0 {α β:Type}{S:α->Int->Prop}{E:α->α->Int->Prop}{S':β->Int->Prop}{E':β->β->Int->Prop}{φ:α->β}{G:α->Prop}
  (h1:∀x k,G x->(S x k↔S' (φ x) k))(h2:∀x n c,G x->E x n c->G n/\E' (φ x) (φ n) c)(h3:∀x y c,G x->E' (φ x) y c->∃n,G n/\y=φ n/\E x n c){x:α}(hx:G x):gw S E x=gw S' E' (φ x):=by
 have a:∀{x d},Wy S E x d->G x->Wy S' E' (φ x) d:=λh=>by
  induction h with
  |src h=>exact λg=>.src ((h1 _ _ g).1 h)
  |go e _ ih=>exact λg=>.go (h2 _ _ _ g e).2 (ih (h2 _ _ _ g e).1)
 have b:∀{y d},Wy S' E' y d->∀x,G x->y=φ x->Wy S E x d:=λh=>by
  induction h with
  |src h=>rintro x g rfl;exact .src ((h1 _ _ g).2 h)
  |go e _ ih=>
   rintro x g rfl;obtain⟨n,h4,h5,h6⟩:=h3 _ _ _ g e;exact .go h6 (ih n h4 h5)
 have e:∀d,Wy S E x d↔Wy S' E' (φ x) d:=λd=>⟨λh=>a h hx,λh=>b h x hx rfl⟩;by_cases h:∃d,Wy S E x d/\∀e,Wy S E x e->d<=e
 ·obtain⟨d,p,q⟩:=h;rw[JD p q,JD ((e d).1 p) λe' he'=>q _ ((e e').2 he')]
 ·unfold gw;grind
def dx (m:bN)(sc:Int):List Int:=(List.range (aD m.w m.h sc*bu m.w m.h sc).toNat).map λl:Nat=>cH m (bS m.w m.h sc l)
def Bz:((dx m sc).length:Int)=(aD m.w m.h sc*bu m.w m.h sc).toNat:=by simp[dx]
def Km (hl:0<=l/\l<aD m.w m.h sc*bu m.w m.h sc):gi (dx m sc) l.toNat=cH m (bS m.w m.h sc l):=by unfold gi dx;grind
def Kn (hm:c7 m)(hc:bC m.w m.h c):1<=cH m c/\cH m c<=255:=by have h1:=hc.2;have h2:=hm.len;unfold cH;have:=hm.jP _ (fy (i:=c.toNat) (by omega));omega
def BA (hm:c7 m)(hc:bC m.w m.h c):eU m c=true↔cH m c≠255:=by have:=Kn hm hc;unfold eU;grind
def HN (hm:c7 m)(hs:dA m.w m.h sc)(hl:0<=l/\l<aD m.w m.h sc*bu m.w m.h sc):G2 (dx m sc) l↔eU m (bS m.w m.h sc l)=true:=by rw[BA hm (rU hs hl)];rw[G2,Km hl,Bz];omega
def agd (hm:c7 m)(hs:dA m.w m.h sc){S S':Int->Int->Prop}(hS:∀l k,0<=l/\l<aD m.w m.h sc*bu m.w m.h sc->(S l k↔S' (bS m.w m.h sc l) k))(hl:0<=l/\l<aD m.w m.h sc*bu m.w m.h sc):
  gw S (G3 (aD m.w m.h sc) (bu m.w m.h sc) (dx m sc)) l=gw S' (sR (fJ m) (cO m) sc) (bS m.w m.h sc l):=by
 refine an0 (λx k g=>hS x k g) ?_ ?_ hl
 ·rintro x n c g ⟨h1,h2,⟨s,vh,rfl⟩,rfl⟩;have h3:=OZ hs g vh h2.1;refine⟨h3.1,⟨(HN hm hs g).1 h1,(HN hm hs h3.1).1 h2,⟨s,vh,h3.2⟩,?_⟩,iA hs g,iA hs h3.1⟩;exact Km h3.1
 ·rintro x y c g ⟨⟨h1,h2,⟨s,vh,rfl⟩,rfl⟩,h3,h4⟩;have h0:=(jE hm h2).2.1;by_cases hn:0<=bK (aD m.w m.h sc) (bu m.w m.h sc) x s
  ·have h5:=OZ hs g vh hn;refine⟨_,h5.1,h5.2,(HN hm hs g).2 h1,(HN hm hs h5.1).2 (by grind),⟨s,vh,rfl⟩,?_⟩;rw[h5.2];exact(Km h5.1).symm
  ·exact((QS hs g vh hn).1 h0 h4).elim
def alC (hm:c7 m)(hs:dA m.w m.h sc)(hl:0<=l/\l<aD m.w m.h sc*bu m.w m.h sc){S:Int->Int->Prop}(hS:∀l k,0<=l/\l<aD m.w m.h sc*bu m.w m.h sc->(S l k↔ajA m t sc (bS m.w m.h sc l) k)):
  gw S (G3 (aD m.w m.h sc) (bu m.w m.h sc) (dx m sc)) l=D m t (bS m.w m.h sc l):=by
 rw[agd hm hs hS hl];exact aqA hm (iA hs hl)
end
section
variable {m:bN}{t x n c d s sc l k:Int}{xs ys:List bg}
def adf (h:∀x∈xs,x.c=c->x.s=s->x.k=k):∀st:Int×Bool,(st.2=true->st.1=k)->(xs.foldl (QO c s) st).1=if∃x∈xs,x.c=c/\x.s=s then k else st.1:=by
 induction xs with
 |nil=>grind
 |cons a xs ih=>
  intro st hst;rw[List.foldl_cons];have ih:=ih (λx hx=>h x (by simp[hx]));unfold QO at ih⊢;by_cases ha:a.c=c/\a.s=s
  ·have hk:=h a (by simp) ha.1 ha.2;by_cases hb:st.2=false\/a.k<st.1
   ·rw[if_pos ⟨ha.1,ha.2,hb⟩,ih _ λ_=>hk,if_pos (c:=∃x∈a::xs,x.c=c/\x.s=s) ⟨a,by simp,ha⟩];split
    ·rfl
    ·exact hk
   ·rw[if_neg λe=>hb e.2.2,ih _ hst,if_pos (c:=∃x∈a::xs,x.c=c/\x.s=s) ⟨a,by simp,ha⟩];split
    ·rfl
    ·apply hst;rcases h2:st.2 with _|_
     ·exact(hb (.inl h2)).elim
     ·rfl
  ·rw[if_neg λe=>ha ⟨e.1,e.2.1⟩,ih _ hst];have:(∃x∈a::xs,x.c=c/\x.s=s)↔∃x∈xs,x.c=c/\x.s=s:=by
    constructor
    ·rintro ⟨x,hx,h1⟩;rcases List.mem_cons.1 hx with rfl|hx
     ·exact(ha h1).elim
     ·exact⟨x,hx,h1⟩
    ·rintro ⟨x,hx,h1⟩;exact⟨x,by simp[hx],h1⟩
   by_cases q:∃x∈xs,x.c=c/\x.s=s
   ·rw[if_pos q,if_pos (this.2 q)]
   ·rw[if_neg q,if_neg λe=>q (this.1 e)]
def adg (h:∀x∈xs,x.c=c->x.s=s->x.k=k)(he:∃x∈xs,x.c=c/\x.s=s):G1 xs c s=k:=by rw[G1,adf h (bW,false) (by simp),if_pos he]
def UA (h:∀x∈xs,¬(x.c=c/\x.s=s)):G1 xs c s=bW:=by rw[G1,adf (k:=0) (λx hx h1 h2=>(h x hx ⟨h1,h2⟩).elim) (bW,false) (by simp),if_neg λ⟨x,hx,h1⟩=>h x hx h1]
def L5 (xs:List bg)(l k:Int):Prop:=∃x∈xs,x.c=l/\x.k=k
def G4 (m:bN)(at_:Int->Int)(c:Int):List bg:=(uH m c).filterMap λe=>if at_ e.1=bW then none else some ⟨dD m.w m.h c,zy m.w m.h c e.1,e.2+at_ e.1⟩
def DT (m:bN)(at_:Int->Int)(t sc:Int):List bg:=(aT m sc).flatMap (G4 m at_)++if aC m.w m.h t=sc/\cH m t≠255 then[⟨dD m.w m.h t,4,0⟩]else[]
def aqB {w h s':Int}(hs:0<=s/\s<=3)(hs':0<=s'/\s'<=4)(h0:0<=aX w h x s)(e:aX w h x s'=aX w h x s):s'=s:=by
 obtain⟨c1,c2⟩:=y8 h0;have hst:∀s,aX w h x s=if s=0 then gK w h (x%w) (x/w-1)else if s=2 then gK w h (x%w) (x/w+1)else if s=3 then gK w h (x%w-1) (x/w)else if s=1 then gK w h (x%w+1) (x/w)else if s=4 then gK w h (x%w) (x/w)else-1:=λs=>by unfold aX;grind
 have ok:∀{a b:Int},0<=gK w h a b->(0<=a/\a<w)/\(0<=b/\b<h)/\gK w h a b=b*w+a:=λh0=>by obtain⟨a,b,_⟩:=A3 h0;exact⟨a,b,mN c1.1 a b⟩
 grind
def UB {w h:Int}(hs:0<=s/\s<=3)(h0:0<=aX w h x s):zy w h x (aX w h x s)=s:=by
 obtain⟨c1,c2⟩:=y8 h0;unfold zy;have k:∀s',0<=s'/\s'<=4->s'≠s->¬aX w h x s'=aX w h x s:=λs' h1 h2 e=>h2 (aqB hs h1 h0 e);obtain rfl|rfl|rfl|rfl:s=0\/s=1\/s=2\/s=3:=by omega
 all_goals grind
def BB {w h:Int}(h0:0<=gm w h c s):gm w h c s=aX w h c s/\aC w h (aX w h c s)≠aC w h c:=by unfold gm at h0⊢;omega
def UC {e:Int×Int}:e∈uH m c↔eU m c=true/\∃s:Int,(0<=s/\s<=3)/\0<=gm m.w m.h c s/\eU m (gm m.w m.h c s)=true/\e=(gm m.w m.h c s,cH m (gm m.w m.h c s)):=by
 unfold uH;by_cases ho:eU m c=true
 ·rw[if_pos ho];rw[Fi,List.mem_filterMap];constructor
  ·rintro ⟨s,h1,h2⟩;have h1:=List.mem_range.1 h1;unfold Eo at h2;grind
  ·rintro ⟨_,s,h1,h2,h3,rfl⟩;refine⟨s.toNat,List.mem_range.2 (by omega),?_⟩;unfold Eo;grind
 grind
def O0 (hm:c7 m)(hs:dA m.w m.h sc)(ht:bC m.w m.h t){x:bg}:x∈DT m (D m t) t sc↔
  ((0<=x.c/\x.c<aD m.w m.h sc*bu m.w m.h sc)/\(0<=x.s/\x.s<=3)/\eU m (bS m.w m.h sc x.c)=true/\0<=gm m.w m.h (bS m.w m.h sc x.c) x.s/\eU m (gm m.w m.h (bS m.w m.h sc x.c) x.s)=true/\
   D m t (gm m.w m.h (bS m.w m.h sc x.c) x.s)<bW/\x.k=cH m (gm m.w m.h (bS m.w m.h sc x.c) x.s)+D m t (gm m.w m.h (bS m.w m.h sc x.c) x.s))\/
  ((0<=x.c/\x.c<aD m.w m.h sc*bu m.w m.h sc)/\bS m.w m.h sc x.c=t/\eU m t=true/\x.s=4/\x.k=0):=by
 have avo:∀z,D m t z≠bW↔D m t z<bW:=λz=>by
  constructor
  ·intro h;by_cases q:∃d,Wy (fY m t) (fJ m) z d
   ·exact(Jb hm).2 q
   ·exact(h (aeT q)).elim
  omega
 rw[DT,List.mem_append,List.mem_flatMap];refine or_congr ⟨?_,?_⟩ ⟨?_,?_⟩
 ·rintro ⟨c,h1,h2⟩;obtain⟨ho,hc,hsc⟩:=lY hs h1;obtain⟨e,h3,h4⟩:=List.mem_filterMap.1 h2;split at h4
  ·cases h4
  rename_i h5;cases h4;obtain⟨_,s,h6,h7,h8,rfl⟩:=UC.1 h3;have hl:=jL hc;have hg:=nq hc;obtain⟨h9,h10⟩:=BB h7;have vh:zy m.w m.h c (gm m.w m.h c s)=s:=by rw[h9];exact UB h6 (by grind)
  grind
 ·rintro ⟨h1,h2,h3,h4,h5,h6,h7⟩;have hsc:=iA hs h1;refine⟨bS m.w m.h sc x.c,?_,?_⟩
  ·have:=Uz hm h3 h2 h4;unfold nL cO at this;grind
  ·refine List.mem_filterMap.2 ⟨_,UC.2 ⟨h3,x.s,h2,h4,h5,rfl⟩,?_⟩;obtain⟨h9,h10⟩:=BB h4;rw[if_neg ((avo _).2 h6),ER hs h1];have vh:zy m.w m.h (bS m.w m.h sc x.c) (gm m.w m.h (bS m.w m.h sc x.c) x.s)=x.s:=by rw[h9];exact UB h2 (by grind)
   rw[vh,<-h7]
 ·intro h;split at h
  ·rename_i h1;rw[List.mem_singleton]at h;subst h;have hl:=jL ht;have hg:=nq ht;rw[h1.1]at hl hg;exact⟨hl,hg,(BA hm ht).2 h1.2,rfl,rfl⟩
  ·simp at h
 ·rintro ⟨h1,h2,h3,h4,h5⟩;have hsc:=iA hs h1;rw[h2]at hsc;rw[if_pos ⟨hsc,(BA hm ht).1 h3⟩,List.mem_singleton];have h6:=ER hs h1;rw[h2]at h6;rw[h6,<-h4,<-h5]
def an1 (hm:c7 m)(hs:dA m.w m.h sc)(ht:bC m.w m.h t)(hxs:∀x,x∈xs↔x∈DT m (D m t) t sc)(hl:0<=l/\l<aD m.w m.h sc*bu m.w m.h sc):L5 xs l k↔ajA m t sc (bS m.w m.h sc l) k:=by
 have hsc:=iA hs hl;constructor
 ·rintro ⟨x,h1,rfl,rfl⟩;rcases(O0 hm hs ht).1 ((hxs x).1 h1)with⟨_,h2,h3,h4,h5,h6,h7⟩|⟨_,h2,h3,h4,h5⟩
  ·obtain⟨h9,h10⟩:=BB h4;refine⟨hsc,.inr ⟨_,_,⟨h3,h5,⟨x.s,h2,h9.symm⟩,rfl⟩,?_,h6,by omega⟩⟩;rw[h9];rw[hsc]at h10;exact h10
  ·exact⟨hsc,.inl ⟨h2,h3,h5⟩⟩
 ·rintro ⟨_,⟨h1,h2,h3⟩|⟨n,c,⟨h1,h2,⟨s,h3,rfl⟩,rfl⟩,h4,h5,rfl⟩⟩
  ·exact⟨⟨l,4,k⟩,(hxs _).2 ((O0 hm hs ht).2 (.inr ⟨hl,h1,h2,rfl,h3⟩)),rfl,rfl⟩
  ·have h0:=(jE hm h2).2.1;have ho:gm m.w m.h (bS m.w m.h sc l) s=aX m.w m.h (bS m.w m.h sc l) s:=by rw[gm,ru,if_neg (by rw[hsc];exact h4)]
   refine⟨⟨l,s,_⟩,(hxs _).2 ((O0 hm hs ht).2 (.inl ⟨hl,h3,h1,by grind,by grind,by grind,by rw[ho]⟩)),rfl,?_⟩;grind
noncomputable def Ko (tw th:Int)(cs:List Int)(xs:List bg)(l:Int):Int:=gw (L5 xs) (G3 tw th cs) l
def RG (tw th:Int)(cs:List Int)(xs:List bg)(f:Int->Int)(l s:Int):Bool:=
 if bK tw th l s<0 then G1 xs l s==f l else gi cs (bK tw th l s).toNat !=255&&(gi cs (bK tw th l s).toNat+f (bK tw th l s)==f l)
def Yd (tw th:Int)(cs:List Int)(xs:List bg)(f:Int->Int)(l:Int):Int:=
 if f l=bW then 5 else if G1 xs l 4=f l then 4 else if RG tw th cs xs f l 0 then 0 else if RG tw th cs xs f l 1 then 1 else if RG tw th cs xs f l 2 then 2 else if RG tw th cs xs f l 3 then 3 else 5
def arX (hm:c7 m)(hs:dA m.w m.h sc)(ht:bC m.w m.h t)(hxs:∀x,x∈xs↔x∈DT m (D m t) t sc)(hl:0<=l/\l<aD m.w m.h sc*bu m.w m.h sc):
  Ko (aD m.w m.h sc) (bu m.w m.h sc) (dx m sc) xs l=D m t (bS m.w m.h sc l):=
 alC hm hs hl λl k h=>an1 hm hs ht hxs h
def dir_eq (hm:c7 m)(hs:dA m.w m.h sc)(ht:bC m.w m.h t)(hxs:∀x,x∈xs↔x∈DT m (D m t) t sc){f:Int->Int}(hf:∀l,0<=l/\l<aD m.w m.h sc*bu m.w m.h sc->f l=D m t (bS m.w m.h sc l))(hl:0<=l/\l<aD m.w m.h sc*bu m.w m.h sc):
  Yd (aD m.w m.h sc) (bu m.w m.h sc) (dx m sc) xs f l=o8 m t (bS m.w m.h sc l):=by
 have hsc:=iA hs hl;have hmem:=λx=>(hxs x).trans (O0 hm hs ht);unfold Yd o8;rw[hf l hl];by_cases hI:D m t (bS m.w m.h sc l)=bW
 ·grind
 rw[if_neg hI,if_neg hI];have hDl:D m t (bS m.w m.h sc l)<bW:=by
  by_cases q:∃d,Wy (fY m t) (fJ m) (bS m.w m.h sc l) d
  ·exact(Jb hm).2 q
  ·exact(hI (aeT q)).elim
 have hop:eU m (bS m.w m.h sc l)=true/\eU m t=true:=by obtain⟨d,hd⟩:=(Jb hm).1 hDl;exact aix hd
 by_cases hT:bS m.w m.h sc l=t
 ·rw[if_pos hT,if_pos];rw[hT,arU hop.2];refine adg (λx hx h1 h2=>?_) ⟨⟨l,4,0⟩,(hmem _).2 (.inr ⟨hl,hT,hop.2,rfl,rfl⟩),rfl,rfl⟩;grind
 rw[if_neg hT,if_neg]
 ·have key:∀s,0<=s/\s<=3->(RG (aD m.w m.h sc) (bu m.w m.h sc) (dx m sc) xs f l s=true↔Jc m t (bS m.w m.h sc l) s):=λs vh=>by
   unfold RG Jc;rw[hf l hl];by_cases hn:0<=bK (aD m.w m.h sc) (bu m.w m.h sc) l s
   ·obtain⟨h1,h2⟩:=OZ hs hl vh hn;rw[ru,h2,Km h1,hf _ h1,BA hm (rU hs h1),Bool.and_eq_true,bne_iff_ne,beq_iff_eq];exact⟨λh=>⟨(rU hs h1).2.1,h⟩,λh=>h.2⟩
   ·obtain⟨h1,_⟩:=QS hs hl vh hn;rw[zP,beq_iff_eq];by_cases h0:0<=aX m.w m.h (bS m.w m.h sc l) s
    ·have ho:gm m.w m.h (bS m.w m.h sc l) s=aX m.w m.h (bS m.w m.h sc l) s:=by unfold gm;omega
     by_cases h2:eU m (aX m.w m.h (bS m.w m.h sc l) s)=true/\D m t (aX m.w m.h (bS m.w m.h sc l) s)<bW
     ·rw[adg (k:=cH m (aX m.w m.h (bS m.w m.h sc l) s)+D m t (aX m.w m.h (bS m.w m.h sc l) s)) (λx hx h3 h4=>?_) ⟨⟨l,s,_⟩,(hmem _).2 (.inl ⟨hl,vh,hop.1,by grind,by grind,by grind,by rw[ho]⟩),rfl,rfl⟩]
      all_goals grind
     ·rw[UA λx hx h3=>?_]
      ·constructor
       ·omega
       ·rintro ⟨_,h3,h4⟩;have h5:=By h3;exact(h2 ⟨h3,by omega⟩).elim
      grind
    ·rw[UA λx hx h3=>?_]
     ·constructor
      ·intro h;omega
      ·exact λh=>(h0 h.1).elim
     ·rcases(hmem x).1 hx with⟨_,_,_,h4,_⟩|⟨_,_,_,h5,_⟩
      ·rw[h3.1,h3.2]at h4;have h5:=(BB h4).1;exact h0 (by rw[<-h5];exact h4)
      ·omega
  grind
 ·rw[UA λx hx h3=>?_]
  ·exact λh=>hI h.symm
  ·rcases(hmem x).1 hx with⟨_,h4,_⟩|⟨_,h4,_⟩
   ·omega
   ·rw[h3.1]at h4;exact hT h4
def arZ (hm:c7 m)(hs:dA m.w m.h sc)(ht:bC m.w m.h t){x:bg}(hx:x∈DT m (D m t) t sc):zA (aD m.w m.h sc) (bu m.w m.h sc) (dx m sc) x=true:=by
 have hlen:((dx m sc).length:Int)=aD m.w m.h sc*bu m.w m.h sc\/aD m.w m.h sc*bu m.w m.h sc<0:=by rw[Bz];omega
 obtain⟨⟨w1,w2⟩,⟨h1,h2⟩,_⟩:=yE hs;have out:∀l s,0<=s/\s<=3->¬0<=bK (aD m.w m.h sc) (bu m.w m.h sc) l s->0<=l/\l<aD m.w m.h sc*bu m.w m.h sc->Yb (aD m.w m.h sc) (bu m.w m.h sc) l s=true:=λl s vh hn hl=>by
  obtain⟨i0,i1⟩:0<=l%aD m.w m.h sc/\l%aD m.w m.h sc<aD m.w m.h sc:=⟨Int.emod_nonneg _ (by omega),Int.emod_lt_of_pos _ (by omega)⟩;obtain⟨j0,j1⟩:0<=l/aD m.w m.h sc/\l/aD m.w m.h sc<bu m.w m.h sc:=⟨Int.ediv_nonneg hl.1 (by omega),Int.ediv_lt_of_lt_mul (by omega) (by grind)⟩;have hle:l=l/aD m.w m.h sc*aD m.w m.h sc+l%aD m.w m.h sc:=by have:=Int.mul_ediv_add_emod l (aD m.w m.h sc);grind
  unfold bK at hn;unfold Yb;obtain rfl|rfl|rfl|rfl:s=0\/s=1\/s=2\/s=3:=by omega
  ·by_cases q:l/aD m.w m.h sc>0
   ·have:=Int.mul_le_mul_of_nonneg_right (show 1<=l/aD m.w m.h sc by omega) (show 0<=aD m.w m.h sc by omega);omega
   grind
  ·grind
  ·grind
  ·by_cases q:l%aD m.w m.h sc>0
   ·have:=Int.mul_nonneg j0 (show 0<=aD m.w m.h sc by omega);omega
   grind
 have fin:(0<=x.c/\x.c<aD m.w m.h sc*bu m.w m.h sc)->eU m (bS m.w m.h sc x.c)=true->(0<=x.k/\x.k<=1073741824)->Yb (aD m.w m.h sc) (bu m.w m.h sc) x.c x.s=true->zA (aD m.w m.h sc) (bu m.w m.h sc) (dx m sc) x=true:=λhl ho hk hout=>by rw[zA,Km hl,decide_eq_true (show 0<=x.c/\x.c<((dx m sc).length:Int) by omega),decide_eq_true hk,hout,Bool.true_and,Bool.true_and,Bool.and_true,bne_iff_ne];exact(BA hm (rU hs hl)).1 ho
 rcases(O0 hm hs ht).1 hx with⟨a1,a2,a3,a4,a5,a6,a7⟩|⟨a1,a2,a3,a4,a5⟩
 ·obtain⟨d,hd⟩:=(Jb hm).1 a6;have b1:=anY hm hd;have b2:=anX hm hd;have b3:=By a5;refine fin a1 a3 (by omega) (out _ _ a2 (λk=>?_) a1);obtain⟨o1,o2⟩:=OZ hs a1 a2 k;obtain⟨q1,q2⟩:=BB a4;rw[o2,iA hs o1,iA hs a1]at q2;exact q2 rfl
 ·apply fin a1 (by grind) (by omega);unfold Yb;grind
end
def cD (a b:bg):Bool:=decide (agb a b<0)
def abW {a b:bg}:cD a b=true↔a.k<b.k\/a.k=b.k/\(a.c<b.c\/a.c=b.c/\a.s<b.s):=by unfold cD agb Uw;grind
def O1 {a b:bg}:cD a b=false↔¬(a.k<b.k\/a.k=b.k/\(a.c<b.c\/a.c=b.c/\a.s<b.s)):=by rw[<-abW,Bool.not_eq_true]
def Er:Go.Sort.SWO cD where
 irrefl x:=by rw[O1];omega
 trans x y z h k:=by rw[abW]at*;omega
 ntrans x y z h k:=by rw[O1]at*;omega
def ar0 {x y:bg}(h:cD x y=false)(k:cD y x=false):x=y:=by rw[O1]at h k;obtain⟨c,s,q⟩:=x;obtain⟨c',s',q'⟩:=y;grind
def Ye (xs:List bg):List bg:=xs.mergeSort λx y=>!cD y x
def L6 (xs:List bg):List bg:=Ye xs
def aqC {xs:List bg}{x:bg}:x∈Ye xs↔x∈xs:=List.mem_mergeSort
def aqD {xs:List bg}:(Ye xs).length=xs.length:=List.length_mergeSort _
def an2 {xs:List bg}{x:bg}:x∈L6 xs↔x∈xs:=aqC
def an3 {xs:List bg}:(L6 xs).length=xs.length:=aqD
def ajB {xs:List bg}:(Ye xs).Pairwise λa b=>a.k<=b.k:=by
 have h:=List.pairwise_mergeSort (le:=λx y=>!cD y x) (λa b c h k=>by
  simp[Bool.not_eq_true']at*;exact Er.ntrans _ _ _ k h) (λa b=>by
  simp[Bool.or_eq_true,Bool.not_eq_true'];by_cases q:cD b a=true
  ·right;rw[abW]at q;rw[O1];omega
  grind) xs
 refine List.Pairwise.imp ?_ h;intro a b h;simp[Bool.not_eq_true']at h;rw[O1]at h;omega
def ahS {xs:List bg}:(L6 xs).Pairwise λa b=>a.k<=b.k:=ajB
def Dd (n:Nat)(out:List Int)(a c:Int):Bool:=c==0||(decide ((n:Int)-out.length<a+1)||(decide (0<out.length)&&gi out (out.length-1)==c))
def o9 (n:Nat):List Int->List Int->Nat->Option (List Int×Nat)
 |a::c::r,out,used=>if n<=out.length then some (out,used)else if Dd n out a c then none else o9 n r (out++List.replicate (a+1).toNat c) (used+2)
 |_,out,used=>if n<=out.length then some (out,used)else none
def Jd (n:Nat):List Int->Option (List Int×Nat)
 |[]=>none
 |f::r=>if f=0 then(if r=[]\/gi r 0=0 then none else some (List.replicate n (gi r 0),2))
  else if f=1 then(if r.length<n\/0∈r.take n then none else some (r.take n,1+n))
  else if f=2 then o9 n r [] 1
  else none
def Es (n:Nat)(f:Int)(r:List Int):Jd n (f::r)=if f=0 then(if r=[]\/gi r 0=0 then none else some (List.replicate n (gi r 0),2))
 else if f=1 then(if r.length<n\/0∈r.take n then none else some (r.take n,1+n))
 else if f=2 then o9 n r [] 1
 else none:=rfl
def GK (bs:List Int)(n:Nat):Option (List Int×Nat):=match Jd n bs with
 |some (cs,used)=>if(sQ cs).2=bs.take used then some (cs,used)else none
 |none=>none
def L7 (x:Int):∀l:List Int,l.take (lead x l)=List.replicate (lead x l) x
 |[]=>rfl
 |y::ys=>by
  unfold lead;split
  ·rename_i h;subst h;rw[List.take_succ_cons,List.replicate_succ,L7]
  ·rfl
def adh (x:Int):∀l:List Int,∀y ys,l.drop (lead x l)=y::ys->y≠x
 |[],y,ys,h=>by grind
 |z::zs,y,ys,h=>by
  unfold lead at h;split at h
  ·exact adh x zs y ys h
  grind
def L8 {n:Nat}{out:List Int}{used:Nat}(h:n<=out.length):∀bs,o9 n bs out used=some (out,used)
 |[]=>by simp[o9,h]
 |[a]=>by simp[o9,h]
 |a::c::r=>by rw[o9,if_pos h]
def adi (n:Nat):∀(f:Nat) (cs out rest:List Int) (used:Nat),cs.length<=f->cs.length<=256->(∀x∈cs,1<=x/\x<256)->n=out.length+cs.length->(0<out.length->∀y ys,cs=y::ys->gi out (out.length-1)≠y)->
  o9 n (kT f cs++rest) out used=some (out++cs,used+(kT f cs).length)
 |0,cs,out,rest,used,hf,an4,hr,hn,hl=>by have:cs=[]:=List.eq_nil_of_length_eq_zero (by omega);subst this;rw[L8 (by omega)];simp[kT]
 |f+1,[],out,rest,used,hf,an4,hr,hn,hl=>by rw[L8 (by grind)];simp[kT]
 |f+1,x::ys,out,rest,used,hf,an4,hr,hn,hl=>by
  have hk:=Ny x ys;simp[List.length_cons]at hf an4 hn;have hx:=hr x (by simp);have e:((lead x ys:Nat):Int)%256=lead x ys:=Int.emod_eq_of_lt (by omega) (by omega);have ey:List.replicate (lead x ys+1) x++ys.drop (lead x ys)=x::ys:=by rw[List.replicate_succ,<-L7,List.cons_append,List.take_append_drop]
  show o9 n (((lead x ys:Nat):Int)%256::x::(kT f (ys.drop (lead x ys))++rest)) out used=_;rw[e,o9,ru,if_neg]
  ·have:=adi n f (ys.drop (lead x ys)) (out++List.replicate (lead x ys+1) x) rest (used+2) (by grind) (by grind) (λz hz=>hr z (by grind)) (by grind) (λ_ y zs hy=>by have h1:=adh x ys y zs hy;intro h2;apply h1;rw[<-h2];unfold gi;grind)
   rw[show((lead x ys:Nat)+1:Int).toNat=lead x ys+1 by omega,this,List.append_assoc,ey];congr 2;show _=used+(((lead x ys:Nat):Int)%256::x::kT f (ys.drop (lead x ys))).length;grind
  ·unfold Dd;grind
def an5 {cs rest:List Int}(hr:∀x∈cs,1<=x/\x<256)(h1:1<=cs.length/\cs.length<=256):Jd cs.length ((sQ cs).2++rest)=some (cs,(sQ cs).2.length):=by
 have hb:=adi cs.length cs.length cs [] rest 1 (Nat.le_refl _) h1.2 hr (by simp) (by simp);rw[List.nil_append]at hb;unfold sQ;split
 ·rename_i h3;obtain⟨x,ys,rfl⟩:∃x ys,cs=x::ys:=by
   cases cs with
   |nil=>simp at h1
   |cons x ys=>grind
  have h4:(kT (x::ys).length (x::ys)).length=2:=by unfold sP at h3;grind
  have h5:kT ys.length (ys.drop (lead x ys))=[]:=by apply List.eq_nil_of_length_eq_zero;have:(kT (x::ys).length (x::ys)).length=(kT ys.length (ys.drop (lead x ys))).length+2:=rfl;omega
  have h6:ys.drop (lead x ys)=[]:=by
   cases hd:ys.drop (lead x ys)with
   |nil=>rfl
   |cons z zs=>
    rw[hd]at h5;have h7:0<ys.length:=by grind
    obtain⟨k,hk⟩:∃k,ys.length=k+1:=⟨ys.length-1,by omega⟩;rw[hk]at h5;cases h5
  have h7:lead x ys=ys.length:=by
   have:=Ny x ys;have h8:(ys.drop (lead x ys)).length=0:=by rw[h6];rfl
   grind
  have h8:ys=List.replicate ys.length x:=by have:=L7 x ys;grind
  have hx:=hr x (by simp);show Jd _ (0::x::rest)=some (x::ys,2);rw[Es,if_pos rfl,if_neg]
  ·show some (List.replicate (ys.length+1) x,2)=some (x::ys,2);grind
  ·rintro (h|h)
   ·cases h
   ·have:x=0:=h;omega
 ·split
  ·show Jd _ (2::(kT cs.length cs++rest))=some (cs,(2::kT cs.length cs).length);rw[Es,if_neg (by decide),if_neg (by decide),if_pos rfl,hb,List.length_cons,Nat.add_comm]
  ·show Jd _ (1::(cs++rest))=some (cs,(1::cs).length);rw[Es,if_neg (by decide),if_pos rfl,if_neg,List.take_left,List.length_cons,Nat.add_comm];grind
def aqE {cs rest:List Int}(hr:∀x∈cs,1<=x/\x<256)(h1:1<=cs.length/\cs.length<=256):GK ((sQ cs).2++rest) cs.length=some (cs,(sQ cs).2.length):=by rw[GK,an5 hr h1];grind
def QU (n:Nat):∀(bs out:List Int) (used:Nat) (cs:List Int) (u:Nat),(∀x∈bs,0<=x/\x<256)->(∀x∈out,1<=x/\x<256)->out.length<=n->o9 n bs out used=some (cs,u)->cs.length=n/\(∀x∈cs,1<=x/\x<256)/\u<=used+bs.length
 |[],out,used,cs,u,hb,ho,hn,h=>by unfold o9 at h;grind
 |[a],out,used,cs,u,hb,ho,hn,h=>by unfold o9 at h;grind
 |a::c::r,out,used,cs,u,hb,ho,hn,h=>by
  unfold o9 at h;split at h
  ·grind
  ·split at h
   ·cases h
   ·rename_i h1 h2;unfold Dd at h2;have:=QU n r _ (used+2) cs u (λx hx=>hb x (by simp[hx])) (λx hx=>by grind) (by grind) h
    grind
def alD {bs cs:List Int}{n used:Nat}(hn:1<=n)(hb:∀x∈bs,0<=x/\x<256)(h:GK bs n=some (cs,used)):cs.length=n/\(∀x∈cs,1<=x/\x<256)/\used<=bs.length:=by
 unfold GK at h;split at h
 ·rename_i cs' used' hB;split at h
  ·cases h;cases bs with
   |nil=>cases hB
   |cons f r=>
    rw[Es]at hB;split at hB
    ·split at hB
     ·cases hB
     ·rename_i h1;cases hB;obtain⟨x,r',rfl⟩:∃x r',r=x::r':=by
       cases r with
       |nil=>grind
       |cons x r'=>grind
      have hx:=hb x (by simp);refine⟨by simp,λy hy=>?_,by simp⟩;rw[List.mem_replicate]at hy;have h3:y=x:=hy.2;omega
    ·split at hB
     ·grind
     ·split at hB
      ·have:=QU n r [] 1 cs used (λx hx=>hb x (by simp[hx])) (by simp) (by simp) hB;grind
      ·cases hB
  ·cases h
 ·cases h
def DU (w h sc:Int)(M ts:List Int)(y:Int):List Int:=(List.range M.length).map λc:Nat=>if aC w h c=sc/\dD w h c/aD w h sc<y then gi ts (dD w h c).toNat else gi M c
def age (w h sc:Int)(M ts:List Int):List Int:=DU w h sc M ts (bu w h sc)
def xh (w h:Int):Nat->Int->List Int->List Int->Option (List Int×List Int)
 |0,_,bs,M=>some (bs,M)
 |k+1,i,bs,M=>match GK bs (aD w h i*bu w h i).toNat with
  |none=>none
  |some (ts,used)=>xh w h k (i+1) (bs.drop used) (age w h i M ts)
def AE (bs:List Int):Int:=gi bs 0+256*gi bs 1
def AF (bs:List Int):Int:=gi bs 2+256*gi bs 3
def kJ (bs:List Int):Option bN:=
 if bs.length<4 then none else if iU (AE bs) (AF bs)then
  match xh (AE bs) (AF bs) (ej (AE bs) (AF bs)).toNat 0 (bs.drop 4) (List.replicate (AE bs*AF bs).toNat 0)with
  |some (bs',M)=>if bs'=[]then some ⟨AE bs,AF bs,M⟩else none
  |none=>none
 else none
section
variable {w h sc y:Int}{M ts:List Int}{c:Nat}
def Kq:(DU w h sc M ts y).length=M.length:=by simp[DU]
def QV:(age w h sc M ts).length=M.length:=Kq
def Vy (hc:c<M.length):gi (DU w h sc M ts y) c=if aC w h c=sc/\dD w h c/aD w h sc<y then gi ts (dD w h c).toNat else gi M c:=by unfold gi DU;rw[List.getD_eq_getElem?_getD,List.getElem?_map,List.getElem?_range hc];rfl
def aiz (hc:c<M.length)(hC:bC w h c):gi (age w h sc M ts) c=if aC w h c=sc then gi ts (dD w h c).toNat else gi M c:=by
 rw[age,Vy hc];by_cases e:aC w h c=sc
 ·rw[if_pos e,if_pos];refine⟨e,?_⟩;have hl:=jL hC;have hs:=bQ hC;rw[e]at hl hs;obtain⟨⟨w1,w2⟩,⟨h1,h2⟩,_⟩:=yE hs;exact Int.ediv_lt_of_lt_mul (by omega) (by grind)
 grind
def agf {a:Int}(h:1<=a/\a<=1024):a%256+256*(a/256%256)=a:=by omega
def an6 {m:bN}(hm:c7 m){s:Int}(hs:dA m.w m.h s):(pO m s).length=(aD m.w m.h s*bu m.w m.h s).toNat:=by unfold pO;grind
def an7 {m:bN}{l:Int}(hl:0<=l/\l<aD m.w m.h sc*bu m.w m.h sc):gi (pO m sc) l.toNat=gi m.cs (bS m.w m.h sc l).toNat:=by show(pO m sc).getD l.toNat 0=_;unfold pO;grind
def agh {m:bN}(hm:c7 m)(hs:dA m.w m.h sc):pO m sc=dx m sc:=by refine List.map_congr_left λl hl=>?_;have hl:=List.mem_range.1 hl;have hg:=rU hs (l:=l) (by omega);have:=hm.len;have:=hg.2;unfold cH;omega
def adj {m:bN}(hm:c7 m):∀(k:Nat) (i:Nat) (M:List Int),(i:Int)+k=ej m.w m.h->M.length=m.cs.length->(∀c:Nat,c<m.cs.length->aC m.w m.h c<i->gi M c=gi m.cs c)->
  xh m.w m.h k i ((List.range' i k).flatMap λs:Nat=>(sQ (pO m s)).2) M=some ([],m.cs)
 |0,i,M,hk,hl,hM=>by show some ([],M)=some ([],m.cs);congr 2;refine Tr hl λc hc=>hM c (by omega) ?_;have hC:bC m.w m.h c:=⟨⟨hm.w,hm.h⟩,by omega,by rw[<-hm.len];omega⟩;have:=(bQ hC).2.2;omega
 |k+1,i,M,hk,hl,hM=>by
  have hs:dA m.w m.h i:=⟨⟨hm.w,hm.h⟩,by omega,by omega⟩;have hlen:=Tw hm hs.2;have e:=an6 hm hs;rw[List.range'_succ,List.flatMap_cons,xh,<-e,aqE (Tv hm hs.2) hlen.2];simp only;rw[List.drop_left,show((i:Int)+1)=((i+1:Nat):Int) by omega];refine adj hm k (i+1) _ (by omega) (by rw[QV,hl]) λc hc hsc=>?_;have hC:bC m.w m.h c:=⟨⟨hm.w,hm.h⟩,by omega,by rw[<-hm.len];omega⟩;rw[aiz (by omega) hC];by_cases q:aC m.w m.h c=i
  ·rw[if_pos q];have RH:=jL hC;have hg:=nq hC;rw[q]at RH hg;rw[an7 RH,hg];rfl
  grind
def ZX {m:bN}(hm:c7 m):kJ (xQ m)=some m:=by
 have e1:AE (xQ m)=m.w:=agf hm.w;have e2:AF (xQ m)=m.h:=agf hm.h;rw[kJ,e1,e2,if_neg (by unfold xQ;simp),if_pos ⟨hm.w,hm.h⟩];have:=adj hm (ej m.w m.h).toNat 0 (List.replicate (m.w*m.h).toNat 0) (by have:=(gz hm.w hm.h).1;omega) (by have:=hm.len;simp;omega) (λc hc h=>by have hC:bC m.w m.h c:=⟨⟨hm.w,hm.h⟩,by omega,by rw[<-hm.len];omega⟩;have:=(bQ hC).2.1;omega)
 rw[<-List.range_eq_range']at this;have e3:(xQ m).drop 4=(List.range (ej m.w m.h).toNat).flatMap λs:Nat=>(sQ (pO m s)).2:=by rfl
 simp_all
def agi (hm:iU w h):∀(k:Nat) (i:Nat) (bs M bs' M':List Int),(i:Int)+k=ej w h->(M.length:Int)=w*h->(∀x∈bs,0<=x/\x<256)->(∀c:Nat,c<M.length->aC w h c<i->1<=gi M c/\gi M c<256)->
  xh w h k i bs M=some (bs',M')->(M'.length:Int)=w*h/\∀x∈M',1<=x/\x<256
 |0,i,bs,M,bs',M',hk,hl,hb,hM,h=>by cases h;refine⟨hl,λx hx=>?_⟩;obtain⟨c,hc⟩:=List.mem_iff_getElem?.1 hx;have wE:=(List.getElem?_eq_some_iff.1 hc).1;have hC:bC w h c:=⟨hm,by omega,by omega⟩;have:=hM c wE (by have:=(bQ hC).2.2;omega);rw[gM wE]at hc;grind
 |k+1,i,bs,M,bs',M',hk,hl,hb,hM,hg=>by
  have hs:dA w h i:=⟨hm,by omega,by omega⟩;obtain⟨⟨w1,w2⟩,⟨h1,h2⟩,_⟩:=yE hs;have h11:1<=aD w h i*bu w h i:=by have:=Int.mul_le_mul w1 h1 (by decide) (by omega);omega
  rw[xh]at hg;split at hg
  ·cases hg
  ·rename_i ts used hT;obtain⟨t1,t2,t3⟩:=alD (by omega) hb hT;refine agi hm k (i+1) _ _ bs' M' (by omega) (by rw[QV];exact hl) (λx hx=>hb x (List.mem_of_mem_drop hx)) (λc hc hsc=>?_) hg;rw[QV]at hc;have hC:bC w h c:=⟨hm,by omega,by omega⟩;rw[aiz hc hC];by_cases q:aC w h c=i
   ·rw[if_pos q];have RH:=jL hC;rw[q]at RH;exact t2 _ (fy (by omega))
   grind
def adk {bs:List Int}{m:bN}(hb:∀x∈bs,0<=x/\x<256)(h:kJ bs=some m):c7 m:=by
 unfold kJ at h;split at h
 ·cases h
 ·split at h
  ·rename_i hm;split at h
   ·rename_i bs' M hT;split at h
    ·cases h;have hwh:=pZ hm;obtain⟨a,b⟩:=agi hm _ 0 _ _ _ _ (by have:=(gz hm.1 hm.2).1;omega) (by grind) (λx hx=>hb x (List.mem_of_mem_drop hx)) (λc hc hsc=>by rw[List.length_replicate]at hc;have hC:bC (AE bs) (AF bs) c:=⟨hm,by omega,by omega⟩;have:=(bQ hC).2.1;omega) hT
     exact⟨hm.1,hm.2,a,b⟩
    ·cases h
   ·cases h
  ·cases h
end
end Go.Proofs.YtmegplnmiepfbaaGreatDoor.S
namespace Go.Proofs.YtmegplnmiepfbaaGreatDoor.S.Rg
abbrev E:=Int×Int
def WW (j:Nat)(e:E):Bool:=decide (e.1%256=(j:Int))
def sM (l:List E)(j:Nat):List Int:=(l.filter (WW j)).map (·.2)
def Fit (a:Int)(l:List E):Prop:=∀e∈l,a<=e.1/\e.1<a+256
def alE (l:List E)(e:E)(j:Nat):sM (l++[e]) j=if e.1%256=(j:Int)then sM l j++[e.2]else sM l j:=by
 unfold sM;by_cases h:e.1%256=(j:Int)
 ·simp[WW,h]
 ·simp[WW,h]
def an8 {a:Int}{l:List E}{e:E}(h:Fit a l)(h1:a<=e.1)(h2:e.1<a+256):Fit a (l++[e]):=by
 intro x hx;rcases List.mem_append.1 hx with hx|hx
 ·exact h x hx
 grind
def adl {k:Int}:∀{l:List E},(∃e∈l,e.1=k)->∃l1 x l2,l=l1++(k,x)::l2/\∀e∈l1,e.1≠k
 |[],h=>by grind
 |y::l,h=>by
  by_cases hy:y.1=k
  ·exact⟨[],y.2,l,by subst hy;rfl,by simp⟩
  ·obtain⟨l1,x,l2,h1,h2⟩:=adl (k:=k) (l:=l) (by grind)
   grind
def Vz {a k:Int}{l:List E}{j:Nat}(h:Fit a l)(hk:a<=k/\k<a+256)(hj:k%256=(j:Int)){e:E}(he:e∈l):WW j e=true↔e.1=k:=by have:=h e he;unfold WW;grind
def alF {a k:Int}{l:List E}{j:Nat}(h:Fit a l)(hk:a<=k/\k<a+256)(hj:k%256=(j:Int))(QL:∀e∈l,k<=e.1)(hne:sM l j≠[]):
  ∃l1 x l2,l=l1++(k,x)::l2/\(∀e∈l1,k<e.1)/\(∀e∈l2,k<=e.1)/\sM l j=x::sM (l1++l2) j/\(∀j',j'≠j->sM (l1++l2) j'=sM l j')/\Fit k (l1++l2):=by
 have hex:∃e∈l,e.1=k:=by
  unfold sM at hne;cases hf:l.filter (WW j)with
  |nil=>grind
  |cons e r=>
   have:e∈l.filter (WW j):=by rw[hf];simp
   obtain⟨h1,h2⟩:=List.mem_filter.1 this;exact⟨e,h1,(Vz h hk hj h1).1 h2⟩
 obtain⟨l1,x,l2,rfl,hl1⟩:=adl hex;refine⟨l1,x,l2,rfl,λe he=>?_,λe he=>QL e (by simp[he]),?_,λj' hj'=>?_,λe he=>?_⟩
 ·grind
 ·unfold sM;have h1:l1.filter (WW j)=[]:=by rw[List.filter_eq_nil_iff];intro e he hb;exact hl1 e he ((Vz h hk hj (by simp[he])).1 hb)
  rw[List.filter_append,List.filter_append,h1,List.filter_cons_of_pos (by unfold WW;grind)];rfl
 ·unfold sM;rw[List.filter_append,List.filter_append,List.filter_cons_of_neg (by unfold WW;grind)]
 ·have h1:e∈l1++(k,x)::l2:=by grind
  have:=h e h1;grind
def ahT {a:Int}{l:List E}(h:Fit a l)(hne:l≠[]):∃d:Nat,d<256/\(∀e∈l,a+d<=e.1)/\∃e∈l,e.1=a+d:=by
 have key:∀n:Nat,(∃e∈l,e.1<a+n)->∃d:Nat,d<n/\(∀e∈l,a+d<=e.1)/\∃e∈l,e.1=a+d:=by
  intro n;induction n with
  |zero=>
   rintro ⟨e,he,hlt⟩;have:=h e he;omega
  |succ n ih=>
   rintro ⟨e,he,hlt⟩;by_cases hn:∃e∈l,e.1<a+n
   all_goals grind
 obtain⟨e,he⟩:=List.exists_mem_of_ne_nil l hne;exact key 256 ⟨e,he,(h e he).2⟩
def ZY {a k:Int}{l:List E}{j:Nat}(h:Fit a l)(hk:a<=k/\k<a+256)(hj:k%256=(j:Int)):sM l j=[]↔∀e∈l,e.1≠k:=by
 rw[sM,List.map_eq_nil_iff,List.filter_eq_nil_iff];constructor
 ·intro h1 e he hk';exact h1 e he ((Vz h hk hj he).2 hk')
 ·intro h1 e he hb;exact h1 e he ((Vz h hk hj he).1 hb)
end Go.Proofs.YtmegplnmiepfbaaGreatDoor.S.Rg
namespace Go.Proofs.YtmegplnmiepfbaaGreatDoor.S.Rg
open Go.Sx
def dU:vO P T:=Dy P rows Gn
def oz {n lo hi:Int}{w:World}{Q:Int->World->Prop}(h1:lo<=hi)(h2:-1099511627776<=lo)(h3:hi<=1099511627776)(h:Q (lo+n%(hi-lo+1)) w):je n lo hi w Q:=by
 apply tB;rw[aF (n:=hi-lo),aF];generalize hs:hi-lo+1=s at h;have h4:=Int.lt_tmod_of_pos n (b:=s) (by omega);have h5:=Int.tmod_lt_of_pos n (b:=s) (by omega);have h6:=Int.tmod_add_mul_tdiv n s;refine⟨by omega,?_⟩;generalize ht:Int.tmod n s=t at*;have e:n%s=t%s:=by rw[<-h6,Int.add_mul_emod_self_left]
 by_cases hn:t<0
 ·rw[bJ hn,aF (n:=t+hi),aF (n:=t+hi-lo),aF (n:=t+hi-lo+1),aF];have e2:t%s=t+s:=by rw[<-Int.add_emod_right,Int.emod_eq_of_lt (by omega) (by omega)]
  grind
 ·rw[bp hn,aF];rw[e,Int.emod_eq_of_lt (by omega) h5]at h;exact h
structure Bk where
 a:Option Addr
 c:Nat
 xs:List Int
 gone:Nat
def ints (l:List Int):List Value:=l.map (.int .i64)
def UD (b:Bk):List Value:=[.slice b.a b.xs.length b.c,ae b.gone]
def VA (b:Bk):(UD b).length=2:=rfl
def Am (b:Bk):As:=aj b.a b.xs.length b.c 3 1 (ints b.xs)
def sF (a len:Int)(bs:List Bk):List Value:=ae a::ae len::flat UD bs
def QW (p:Nat)(a len:Int)(bs:List Bk):List As:=av p 388 (sF a len bs)::bs.map Am
structure Rel (a:Int) (l:List E) (bs:List Bk) (N:Nat):Prop where
 n:bs.length=256
 fit:Fit a l
 nn:0<=a
 big:a+256*(l.length:Int)<=1099511627776+256*(N:Int)
 nh:l.length<=N
 room:N<1000000
 bk:∀(j:Nat) b,bs[j]? =some b->b.xs.drop b.gone=sM l j/\b.gone<=b.xs.length/\b.xs.length<=N
def AG (p:Nat)(a:Int)(l:List E)(bs:List Bk)(N:Nat):As:=aU (Rel a l bs N) (QW p a l.length bs)
attribute [local irreducible] af cq bq bf aB bY bT St Bx Al App cu cg b_ bR aK bw aq bP av aj
section
variable {F:Nat->Prop}{W w:World}{L:List As}{i j p o n c:Nat}{t:TypeId}{cs:List Value}{a:Option Addr}{xs:List Int}
def Yf {x:Int}{Q:World->Prop}(s:Sep F W w L)(hi:L[i]? =some (av p t cs))(ho:cs[o]? =some (.slice a n c))(hj:L[j]? =some (aj a n c 3 1 (ints xs)))(hij:i≠j)(hn:n<1000000)
  (h:∀w' a' c',Sep F W w' ((L.set j (aj a' (n+1) c' 3 1 (ints (xs++[x])))).set i (av p t (cs.set o (.slice a' (n+1) c'))))->Q w'):yd (some ⟨p,o,none⟩) x w Q:=by
 apply Ou;apply ah;apply iG s rfl hi ho;refine aS s λbx w1 s=>?_;have src:Src w1 (sZ bx) 1 1 [ae x]:=⟨rfl,λu hu=>by rw[List.mem_singleton.1 hu];rfl,λj u hj=>by rw[cf,Nat.zero_add];exact c9 s (i:=0) rfl rfl hj⟩;refine iH dU s (bytes:=8) rfl rfl rfl rfl rfl rfl (by decide) (by rw[List.getElem?_cons_succ];exact hj) src (by simp[maxLen];omega) (by omega) (λe=>by cases e) λa' c' w2 s=>?_;have s:=ai s;have e1:ints xs++[ae x]=ints (xs++[x]):=by simp[ints]
 apply ah;have ho':=(List.getElem?_eq_some_iff.1 ho).1;refine az s rfl (by rw[List.getElem?_set_ne (Ne.symm hij)];exact hi) (by simp_all) λw3 s=>?_;grind
def BC {g:Int}{Q:Bool->World->Prop}(s:Sep F W w L)(hi:L[i]? =some (av p t cs))(ho:cs[o]? =some (.slice a n c))(ho':cs[o+1]? =some (ae g))(h:Q (g==(n:Int)) w.drew):pV (some ⟨p,o,none⟩) w Q:=by apply Lm;have s':Sep F W w.drew L:=s;apply ah;refine eN s' (by rw[cf]) hi ho' (ah ?_);exact iG s' rfl hi ho h
def Yg {g:Nat}{x:Int}{Q:Int->World->Prop}(s:Sep F W w L)(hi:L[i]? =some (av p t cs))(ho:cs[o]? =some (.slice a n c))(ho':cs[o+1]? =some (ae g))(hj:L[j]? =some (aj a n c 3 1 (ints xs)))(hij:i≠j)(hn:n<1000000)(hx:xs[g]? =some x)
  (h1:g+1<n->∀w',Sep F W w' (L.set i (av p t (cs.set (o+1) (ae ((g+1:Nat):Int)))))->Q x w')
  (h2:g+1=n->∀w',Sep F W w' ((L.set i (av p t ((cs.set o (.slice a 0 c)).set (o+1) (ae ((0:Nat):Int))))).set j (aj a 0 c 3 1 []))->Q x w'):yb (some ⟨p,o,none⟩) w Q:=by
 apply Ov;have hiL:=(List.getElem?_eq_some_iff.1 hi).1;have hol:=(List.getElem?_eq_some_iff.1 ho).1;have avp:=(List.getElem?_eq_some_iff.1 ho').1;have hxl:=(List.getElem?_eq_some_iff.1 hx).1;have hl:xs.length=n:=by have:=qG s hj;simpa[ints]using this
 obtain⟨b,ob,rfl⟩:=pB s hj (by omega);have s0:Sep F W w.drew L:=s;apply ah;refine iG s0 rfl hi ho (ah ?_);apply eN s0 (by rw[cf]) hi ho';refine⟨by omega,by omega,ah ?_⟩;rw[show((g:Int)).toNat*1=g by omega];refine Tn s0 hj (by rw[cf]) (by rw[ints,List.getElem?_map,hx];rfl) (ah ?_);refine eN s0 (by rw[cf]) hi ho' (ah ?_);rw[aF,show((g:Int)+1)=((g+1:Nat):Int) by omega];refine az s0 (by rw[cf]) hi (by simp_all) λw1 s1=>?_;apply BC (a:=some ⟨b,ob,none⟩) (n:=n) (c:=c) s1 (List.getElem?_set_self hiL) (by grind) (List.getElem?_set_self avp);have s2:Sep F W w1.drew _:=s1;by_cases he:g+1=n
 ·rw[he,beq_self_eq_true,cond_true];apply ah;apply iG s2 rfl (List.getElem?_set_self hiL) (by rw[List.getElem?_set_ne (by omega)];exact ho);refine Nw (m:=0) rfl (by omega) (ah ?_);refine az s2 rfl (List.getElem?_set_self hiL) (by simp_all) λw3 s3=>?_;rw[gL]at s3;apply ah;refine az s3 (by rw[cf]) (List.getElem?_set_self hiL) (by simp_all) λw4 s4=>?_;rw[gL]at s4;have s5:=Rx s4 (by rw[List.getElem?_set_ne hij];exact hj) (Nat.zero_le _);apply h2 he w4;have ec:((cs.set (o+1) (ae ((n:Nat):Int))).set o (.slice (some ⟨b,ob,none⟩) 0 c)).set (o+1) (ae 0)=(cs.set o (.slice (some ⟨b,ob,none⟩) 0 c)).set (o+1) (ae ((0:Nat):Int)):=by have e3:(cs.set (o+1) (ae ((n:Nat):Int))).set o (.slice (some ⟨b,ob,none⟩) 0 c)=(cs.set o (.slice (some ⟨b,ob,none⟩) 0 c)).set (o+1) (ae ((n:Nat):Int)):=List.set_comm _ _ (by omega);simp_all
  grind
 grind
end
end Go.Proofs.YtmegplnmiepfbaaGreatDoor.S.Rg
namespace Go.Proofs.YtmegplnmiepfbaaGreatDoor.S.Rg
open Go.Sx
def Et {p:Addr}{A B:Prop}(h:B):cond (some p).isNone A B:=h
def Kr {bs:List Bk}{j:Nat}{b:Bk}(h:bs[j]? =some b):(bs.map Am)[j]? =some (Am b):=by grind
def L9 {a len:Int}{bs:List Bk}{j:Nat}{b:Bk}(h:bs[j]? =some b):(sF a len bs)[j*2+2]? =some (.slice b.a b.xs.length b.c):=by show(flat UD bs)[j*2+0]? =_;rw[rS VA h (by decide)];rfl
def Nf {a len:Int}{bs:List Bk}{j:Nat}{b:Bk}(h:bs[j]? =some b):(sF a len bs)[j*2+2+1]? =some (ae b.gone):=by show(flat UD bs)[j*2+1]? =_;rw[rS VA h (by decide)];rfl
def RI {a len:Int}{bs:List Bk}{j:Nat}{b b':Bk}{v:Value}(h:bs[j]? =some b)(hv:UD b'=(UD b).set 0 v):(sF a len bs).set (j*2+2) v=sF a len (bs.set j b'):=by show _::_::(flat UD bs).set (j*2+0) v=_;rw[PK VA h (by decide) hv];rfl
def L_ {a len:Int}{bs:List Bk}{j:Nat}{b b':Bk}{v:Value}(h:bs[j]? =some b)(hv:UD b'=(UD b).set 1 v):(sF a len bs).set (j*2+2+1) v=sF a len (bs.set j b'):=by show _::_::(flat UD bs).set (j*2+1) v=_;rw[PK VA h (by decide) hv];rfl
attribute [local irreducible] af cq bq bf aB bY bT St Bx Al App cu cg b_ bR aK bw aq bP av aj aU
section
variable {F:Nat->Prop}{W w:World}{L:List As}{i p:Nat}{a:Int}{l:List E}{bs:List Bk}{N:Nat}
def GL (s:Sep F W w L)(hi:L[i]? =some (AG p a l bs N)):Rel a l bs N:=ac1 s hi
def Ma (s:Sep F W w L)(hi:L[i]? =some (AG p a l bs N)):Sep (AG p a l bs N).fp w w (QW p a l.length bs):=Hr s hi
def Ch {Q:Int->World->Prop}(s:Sep F W w L)(hi:L[i]? =some (AG p a l bs N))(h:Q (l.length:Int) w):qd (sZ p) w Q:=by apply SO;refine Et (ah ?_);exact eN (Ma s hi) (i:=0) rfl rfl rfl h
def O2 {k x:Int}{Q:Bool->World->Prop}(s:Sep F W w L)(hi:L[i]? =some (AG p a l bs N))(hk:k<9223372036854775808)(ni:N+1<1000000)
  (hno:¬(a<=k/\k<a+256)->Q false w)(hyes:a<=k/\k<a+256->∀w' bs',Sep F W w' (L.set i (AG p a (l++[(k,x)]) bs' (N+1)))->Q true w'):uS (sZ p) k x w Q:=by
 apply SP;have hr:=GL s hi;have s0:=Ma s hi;have hnn:=hr.nn;refine Et (ah ?_);apply eN s0 (i:=0) rfl rfl rfl;by_cases h1:k<a
 ·grind
 ·rw[bp h1];apply ah;apply eN s0 (i:=0) rfl rfl rfl;rw[aF];by_cases h2:k-a≥256
  ·grind
  ·rw[bp h2];have hkk:a<=k/\k<a+256:=by omega
   rw[Int.tmod_eq_emod_of_nonneg (by omega)];obtain⟨j,hj⟩:∃j:Nat,k%256=(j:Int):=⟨(k%256).toNat,by omega⟩;have ZZ:j<256:=by omega
   obtain⟨b,hb⟩:∃b,bs[j]? =some b:=⟨_,List.getElem?_eq_getElem (by rw[hr.n];exact ZZ)⟩;have hbk:=hr.bk j b hb;rw[hj];refine⟨by decide,ah ⟨by omega,by omega,?_⟩⟩;have ea:((aZ p).add 2).add (((j:Int)).toNat*2)=⟨p,j*2+2,none⟩:=by rw[cf,cf,show((j:Int)).toNat=j from rfl];grind
   rw[ea];refine Yf s0 (i:=0) (j:=j+1) rfl (L9 hb) (by show(bs.map Am)[j]? =_;exact Kr hb) (by omega) (by omega) λw1 a' c' s1=>?_;have e1:aj a' (b.xs.length+1) c' 3 1 (ints (b.xs++[x]))=Am ⟨a',c',b.xs++[x],b.gone⟩:=by unfold Am;grind
   have e2:(sF a l.length bs).set (j*2+2) (.slice a' (b.xs.length+1) c')=sF a l.length (bs.set j ⟨a',c',b.xs++[x],b.gone⟩):=RI hb (by unfold UD;grind);rw[e1,e2]at s1;have s1:Sep (AG p a l bs N).fp w w1 (av p 388 (sF a l.length (bs.set j ⟨a',c',b.xs++[x],b.gone⟩))::(bs.map Am).set j (Am ⟨a',c',b.xs++[x],b.gone⟩)):=s1;rw[<-List.map_set]at s1;apply ah;refine eN s1 (i:=0) rfl rfl rfl (ah ?_);have hfl:=hr.nh;rw[aF];refine az s1 (i:=0) rfl rfl rfl λw2 s2=>?_;have hlen:((l.length:Int)+1)=((l++[(k,x)]).length:Int):=by simp
   rw[hlen]at s2;refine hyes hkk w2 (bs.set j ⟨a',c',b.xs++[x],b.gone⟩) (PL s hi s2 ?_);refine⟨by simp[hr.n],an8 hr.fit hkk.1 hkk.2,hr.nn,(by have:=hr.big;simp;omega),(by omega),ni,λj' b' hb'=>?_⟩;rw[alE];by_cases hjj:j=j'
   ·grind
   ·rw[List.getElem?_set_ne hjj]at hb';have:=hr.bk j' b' hb';grind
end
end Go.Proofs.YtmegplnmiepfbaaGreatDoor.S.Rg
namespace Go.Proofs.YtmegplnmiepfbaaGreatDoor.S.Rg
open Go.Sx
attribute [local irreducible] af cq bq bf aB bY bT St Bx Al App cu cg b_ bR aK bw aq bP av aj aU
section
variable {F:Nat->Prop}{W w:World}{L:List As}{i p:Nat}{a:Int}{l:List E}{bs:List Bk}{N:Nat}
def Z0 {k:Int}{Q:Bool->World->Prop}(s:Sep F W w L)(hi:L[i]? =some (AG p a l bs N))
  (hno:¬(l=[]/\a<=k/\k<=1099511627776)->Q false w)(hyes:l=[]/\a<=k/\k<=1099511627776->∀w' bs',Sep F W w' (L.set i (AG p k [] bs' N))->Q true w'):zo (sZ p) k w Q:=by
 apply Qr;have hr:=GL s hi;have s0:=Ma s hi;have hnn:=hr.nn;refine Et (ah ?_);apply eN s0 (i:=0) rfl rfl rfl;by_cases h0:l=[]
 ·subst h0;rw[bp (by simp)];apply ah;apply eN s0 (i:=0) rfl rfl rfl;by_cases h1:k<a
  ·grind
  ·rw[bp h1];by_cases h2:k>1099511627776
   ·grind
   ·rw[bp h2];apply ah;refine az s0 (i:=0) rfl rfl rfl λw1 s1=>?_;have s1:=s1;exact hyes ⟨rfl,by omega,by omega⟩ w1 bs (PL s hi s1 ⟨hr.n,(λe he=>by cases he),by omega,(by simp;omega),hr.nh,hr.room,hr.bk⟩)
 simp_all
def aeE {Q:Int->Int->Bool->World->Prop}(hr:Rel a l bs N){d:Nat}(hd:d<256)(QL:∀e∈l,a+d<=e.1)(hex:∃e∈l,e.1=a+d){w0:World}{G:Nat->Prop}
  (h:∀w' l1 x l2 bs',l=l1++(a+d,x)::l2->(∀e∈l1,a+d<e.1)->(∀e∈l2,a+d<=e.1)->Rel (a+d) (l1++l2) bs' N->Sep G w0 w' (QW p (a+d) (l1++l2).length bs')->Q (a+d) x true w'):
  ∀(m e:Nat) (w:World),e+m=d->Sep G w0 w (QW p (a+e) l.length bs)->pz Q (m+1) (sZ p) w:=by
 have hnn:=hr.nn;have afl:=hr.big;have ayy:=hr.nh;have awU:=hr.room;intro m;induction m with
 |zero=>
  intro e w he s;obtain rfl:e=d:=by omega
  show CN Q (pz Q 0) _ _;obtain⟨j,hj⟩:∃j:Nat,(a+e)%256=(j:Int):=⟨((a+e)%256).toNat,by omega⟩;have ZZ:j<256:=by omega
  obtain⟨b,hb⟩:∃b,bs[j]? =some b:=⟨_,List.getElem?_eq_getElem (by rw[hr.n];exact ZZ)⟩;have hbk:=hr.bk j b hb;have hroom:=hr.room;have hkk:a<=a+e/\a+e<a+256:=by omega
  have Z1:sM l j≠[]:=λh0=>by obtain⟨x,hx,hxe⟩:=hex;exact(ZY hr.fit hkk hj).1 h0 x hx hxe
  obtain⟨l1,x,l2,hl,g1,g2,g3,g4,g5⟩:=alF hr.fit hkk hj QL Z1;have hlt:b.gone<b.xs.length:=by grind
  have ea:((aZ p).add 2).add (((j:Int)).toNat*2)=⟨p,j*2+2,none⟩:=by rw[cf,cf,show((j:Int)).toNat=j from rfl];grind
  have em:Int.tmod (a+e) 256=(j:Int):=by grind
  have s0:Sep G w0 w.drew _:=s;apply ah;apply eN s0 (i:=0) rfl rfl rfl;rw[em];refine⟨by decide,ah ⟨by omega,by omega,?_⟩⟩;rw[ea];apply BC s0 (i:=0) rfl (L9 hb) (Nf hb);rw[show(((b.gone:Int))==(b.xs.length:Int))=false by grind,cond_false];have s1:=s;apply ah;refine eN s1 (i:=0) rfl rfl rfl (ah ?_);refine az s1 (i:=0) rfl rfl rfl λw3 s3=>?_;have el:IntKind.wrap .i64 ((l.length:Int)-1)=((l1++l2).length:Int):=by rw[aF];grind
  rw[el]at s3;have s3:=s3;have s4:Sep G w0 w3.drew (QW p (a+e) (l1++l2).length bs):=s3;apply ah;refine eN s4 (i:=0) rfl rfl rfl (ah ?_);apply eN s4 (i:=0) rfl rfl rfl;rw[em];refine⟨by decide,ah ⟨by omega,by omega,?_⟩⟩;rw[ea];have hx:b.xs[b.gone]? =some x:=by have:=congrArg (λq=>q[0]?) (hbk.1.trans g3);grind
  have Z2:b.xs.drop (b.gone+1)=sM (l1++l2) j:=by have:=congrArg (List.drop 1) (hbk.1.trans g3);simpa[List.drop_drop]using this
  have rel:∀b':Bk,b'.xs.drop b'.gone=sM (l1++l2) j->b'.gone<=b'.xs.length->b'.xs.length<=N->Rel (a+e) (l1++l2) (bs.set j b') N:=by
   intro b' q1 q2 q3;refine⟨by simp[hr.n],g5,by omega,?_,?_,hroom,λj' b2 hb2=>?_⟩
   ·grind
   ·grind
   ·by_cases hjj:j=j'
    ·grind
    ·rw[List.getElem?_set_ne hjj]at hb2;rw[g4 j' (Ne.symm hjj)];exact hr.bk j' b2 hb2
  refine Yg s4 (i:=0) (j:=j+1) rfl (L9 hb) (Nf hb) (by show(bs.map Am)[j]? =_;exact Kr hb) (by omega) (by omega) hx (λhg w5 s5=>?_) λhg w5 s5=>?_
  ·have e2:(sF (a+e) (l1++l2).length bs).set (j*2+2+1) (ae ((b.gone+1:Nat):Int))=sF (a+e) (l1++l2).length (bs.set j {b with gone:=b.gone+1}):=L_ hb rfl;rw[e2]at s5;have e3:bs.map Am=(bs.set j {b with gone:=b.gone+1}).map Am:=by rw[List.map_set,show Am {b with gone:=b.gone+1}=Am b from rfl,qQ (Kr hb)]
   have s5:Sep G w0 w5 (av p 388 (sF (a+e) (l1++l2).length (bs.set j {b with gone:=b.gone+1}))::bs.map Am):=s5;rw[e3]at s5;refine⟨c9 s5 (i:=0) rfl rfl rfl,?_⟩;exact h w5 l1 x l2 _ hl g1 g2 (rel {b with gone:=b.gone+1} Z2 (show b.gone+1<=b.xs.length by omega) hbk.2.2) s5
  ·have e2:((sF (a+e) (l1++l2).length bs).set (j*2+2) (.slice b.a 0 b.c)).set (j*2+2+1) (ae ((0:Nat):Int))=sF (a+e) (l1++l2).length (bs.set j ⟨b.a,b.c,[],0⟩):=by
    have hjl:j<bs.length:=by grind
    rw[RI (b':=⟨b.a,b.c,[],b.gone⟩) (v:=.slice b.a 0 b.c) hb rfl,L_ (b:=⟨b.a,b.c,[],b.gone⟩) (b':=⟨b.a,b.c,[],0⟩) (List.getElem?_set_self hjl) rfl,gL]
   rw[e2]at s5;have e3:aj b.a 0 b.c 3 1 []=Am ⟨b.a,b.c,[],0⟩:=rfl;have s5:Sep G w0 w5 (av p 388 (sF (a+e) (l1++l2).length (bs.set j ⟨b.a,b.c,[],0⟩))::(bs.map Am).set j (Am ⟨b.a,b.c,[],0⟩)):=s5;rw[<-List.map_set]at s5;refine⟨c9 s5 (i:=0) rfl rfl rfl,?_⟩;refine h w5 l1 x l2 _ hl g1 g2 (rel _ ?_ (by simp) (by simp)) s5;grind
 |succ m ih=>
  intro e w he s;show CN Q (pz Q (m+1)) _ _;obtain⟨j,hj⟩:∃j:Nat,(a+e)%256=(j:Int):=⟨((a+e)%256).toNat,by omega⟩;have ZZ:j<256:=by omega
  obtain⟨b,hb⟩:∃b,bs[j]? =some b:=⟨_,List.getElem?_eq_getElem (by rw[hr.n];exact ZZ)⟩;have hbk:=hr.bk j b hb;have hkk:a<=a+e/\a+e<a+256:=by omega
  have Z1:=(ZY hr.fit hkk hj).2 λx hx hxe=>by grind
  have aty:b.gone=b.xs.length:=by have:=congrArg List.length hbk.1;grind
  have ea:((aZ p).add 2).add (((j:Int)).toNat*2)=⟨p,j*2+2,none⟩:=by rw[cf,cf,show((j:Int)).toNat=j from rfl];grind
  have em:Int.tmod (a+e) 256=(j:Int):=by grind
  have s0:Sep G w0 w.drew _:=s;apply ah;apply eN s0 (i:=0) rfl rfl rfl;rw[em];refine⟨by decide,ah ⟨by omega,by omega,?_⟩⟩;rw[ea];apply BC s0 (i:=0) rfl (L9 hb) (Nf hb);rw[aty,beq_self_eq_true,cond_true];have s1:=s;apply ah;refine eN s1 (i:=0) (j:=0) rfl rfl rfl (ah ?_);refine az s1 (i:=0) (j:=0) rfl rfl rfl λw3 s3=>?_;rw[aF,show a+(e:Int)+1=a+((e+1:Nat):Int) by omega]at s3;exact ih (e+1) w3 (by omega) s3
def abX {Q:Int->Int->Bool->World->Prop}(s:Sep F W w L)(hi:L[i]? =some (AG p a l bs N))(h0:l=[]->Q 0 0 false w)
  (h1:∀w' k l1 x l2 bs',l=l1++(k,x)::l2->(∀e∈l1,k<e.1)->(∀e∈l2,k<=e.1)->Sep F W w' (L.set i (AG p k (l1++l2) bs' N))->Q k x true w'):Ae (sZ p) w Q:=by
 apply SQ;apply Ch s hi;have hr:=GL s hi;by_cases hl:l=[]
 ·grind
 ·have hpos:=List.length_pos_iff.2 hl;rw[show(((l.length:Int))==0)=false by grind,cond_false];obtain⟨d,hd,QL,hex⟩:=ahT hr.fit hl;have s0:=Ma s hi;refine⟨d+1,aeE (G:=(AG p a l bs N).fp) (w0:=w) hr hd QL hex (λw' l1 x l2 bs' q1 q2 q3 q4 s'=>?_) d 0 w (by omega) (by grind)⟩;exact h1 w' (a+d) l1 x l2 bs' q1 q2 q3 (PL s hi s' q4)
def agj:Bk:=⟨none,0,[],0⟩
def O3 {f:Int}{Q:Option Addr->World->Prop}(s:Sep F W w L)(hno:f<0\/f>1099511627776->Q none w)(hyes:0<=f/\f<=1099511627776->∀p w' bs,Sep F W w' (AG p f [] bs 0::L)->Q (sZ p) w'):B0 f w Q:=by
 apply abD;by_cases h1:f<0
 ·rw[bJ h1];grind
 ·rw[bp h1];by_cases h2:f>1099511627776
  ·rw[bJ h2];grind
  ·rw[bp h2];refine aS s λp w1 s=>?_;have s2:=Rz s 3 1 256;have s3:=cE s2 List.perm_middle;have rel:Rel f [] (List.replicate 256 agj) 0:=by refine⟨List.length_replicate,(λe he=>by cases he),by omega,(by simp[List.length_nil];omega),Nat.le_refl _,by decide,λj b hb=>?_⟩;have:b=agj:=List.eq_of_mem_replicate (List.mem_of_getElem? hb);subst this;exact⟨rfl,Nat.le_refl _,Nat.le_refl _⟩
   have e1:(List.replicate 256 agj).map Am=List.replicate 256 (aj none 0 0 3 1 []):=by rw[List.map_replicate];rfl
   apply hyes (by omega) p w1 (List.replicate 256 agj);have s4:Sep F W w1 (QW p f ([]:List E).length (List.replicate 256 agj)++L):=by unfold QW;exact atn s3 (by kernel_rfl)
   exact dW s4 rel
end
end Go.Proofs.YtmegplnmiepfbaaGreatDoor.S.Rg
namespace Go.Proofs.YtmegplnmiepfbaaGreatDoor.S
open Go.Sx
def fD (ds:List Int)(l:Int):Int:=if 0<=l/\l<ds.length then gi ds l.toNat else bW
def Fp (ds:List Int):Nat:=ds.countP λd=>d==bW
def kc (x:bg):Int×Int:=(x.k,x.c)
def UE {k:Int}(hk:k≠bW):∀{ds:List Int} {i:Nat},i<ds.length->gi ds i=bW->Fp (ds.set i k)+1=Fp ds
 |[],i,h,_=>by simp at h
 |d::ds,0,h,hd=>by have hd:d=bW:=hd;unfold Fp;grind
 |d::ds,i+1,h,hd=>by have ih:=UE hk (i:=i) (by simpa using h) hd;unfold Fp at ih⊢;grind
def avq (ds:List Int):Fp ds<=ds.length:=List.countP_le_length
def ar1 {ds:List Int}{x k:Int}(hx:0<=x/\x<ds.length)(y:Int):fD (ds.set x.toNat k) y=if y=x then k else fD ds y:=by
 unfold fD;rw[List.length_set];by_cases hy:0<=y/\y<ds.length
 ·rw[if_pos hy,if_pos hy,Ts (by omega)];omega
 grind
def QX {tw th l s:Int}(ht:1<=tw)(hh:1<=th)(hl:0<=l/\l<tw*th)(h0:0<=bK tw th l s):bK tw th l s<tw*th/\∃s',(0<=s'/\s'<=3)/\bK tw th (bK tw th l s) s'=l:=by
 obtain⟨i0,i1⟩:0<=l%tw/\l%tw<tw:=⟨Int.emod_nonneg _ (by omega),Int.emod_lt_of_pos _ (by omega)⟩;obtain⟨j0,j1⟩:0<=l/tw/\l/tw<th:=⟨Int.ediv_nonneg hl.1 (by omega),Int.ediv_lt_of_lt_mul (by omega) (by grind)⟩;have hle:l=l/tw*tw+l%tw:=by have:=Int.mul_ediv_add_emod l tw;grind
 have jP:∀i j,0<=i/\i<tw->0<=j/\j<th->j*tw+i<tw*th:=λi j hi hj=>by have:=Int.mul_le_mul_of_nonneg_right (show j+1<=th by omega) (show 0<=tw by omega);grind
 unfold bK at h0;by_cases s0:s=0
 ·subst s0;by_cases q:l/tw>0
  ·have e:bK tw th l 0=(l/tw-1)*tw+l%tw:=by unfold bK;grind
   rw[e];refine⟨jP _ _ ⟨i0,i1⟩ (by omega),2,by decide,?_⟩;obtain⟨d1,d2⟩:=qR (y:=l/tw-1) ⟨i0,i1⟩;unfold bK;grind
  omega
 by_cases s1:s=1
 ·subst s1;by_cases q:l%tw<tw-1
  ·have e:bK tw th l 1=l/tw*tw+(l%tw+1):=by unfold bK;omega
   rw[e];refine⟨jP _ _ (by omega) ⟨j0,j1⟩,3,by decide,?_⟩;obtain⟨d1,d2⟩:=qR (x:=l%tw+1) (w:=tw) (y:=l/tw) (by omega);unfold bK;omega
  omega
 by_cases s2:s=2
 ·subst s2;by_cases q:l/tw<th-1
  ·have e:bK tw th l 2=(l/tw+1)*tw+l%tw:=by unfold bK;grind
   rw[e];refine⟨jP _ _ ⟨i0,i1⟩ (by omega),0,by decide,?_⟩;obtain⟨d1,d2⟩:=qR (y:=l/tw+1) ⟨i0,i1⟩;unfold bK;grind
  omega
 by_cases s3:s=3
 ·subst s3;by_cases q:l%tw>0
  ·have e:bK tw th l 3=l/tw*tw+(l%tw-1):=by unfold bK;omega
   rw[e];refine⟨jP _ _ (by omega) ⟨j0,j1⟩,1,by decide,?_⟩;obtain⟨d1,d2⟩:=qR (x:=l%tw-1) (w:=tw) (y:=l/tw) (by omega);unfold bK;omega
  omega
 omega
def kH (tw th:Int)(cs ds:List Int)(key x:Int)(j:Nat):List (Int×Int):=(List.range j).filterMap λs:Nat=>
 if 0<=bK tw th x s/\gi cs (bK tw th x s).toNat≠255/\gi ds (bK tw th x s).toNat=bW then some (key,bK tw th x s)else none
def Z3 (tw th:Int)(cs ds:List Int)(key x s:Int):List (Int×Int):=if 0<=bK tw th x s/\gi cs (bK tw th x s).toNat≠255/\gi ds (bK tw th x s).toNat=bW then[(key,bK tw th x s)]else[]
def Z4 (tw th:Int)(cs ds:List Int)(key x:Int)(j:Nat):kH tw th cs ds key x (j+1)=kH tw th cs ds key x j++Z3 tw th cs ds key x j:=by unfold kH Z3;rw[List.range_succ,List.filterMap_append];grind
def UF (tw th:Int)(cs ds:List Int)(key x:Int)(j:Nat):(kH tw th cs ds key x j).length<=j:=by have:=List.length_filterMap_le (λs:Nat=>if 0<=bK tw th x s/\gi cs (bK tw th x s).toNat≠255/\gi ds (bK tw th x s).toNat=bW then some (key,bK tw th x s)else none) (List.range j);rw[List.length_range]at this;exact this
def adn {tw th:Int}{cs ds:List Int}{key x:Int}{e:Int×Int}:e∈kH tw th cs ds key x 4↔∃s:Int,(0<=s/\s<=3)/\(0<=bK tw th x s/\gi cs (bK tw th x s).toNat≠255/\gi ds (bK tw th x s).toNat=bW)/\e=(key,bK tw th x s):=by
 rw[kH,List.mem_filterMap];constructor
 ·grind
 ·rintro ⟨s,h1,h2,rfl⟩;refine⟨s.toNat,List.mem_range.2 (by omega),?_⟩;grind
structure BD (tw th:Int) (cs:List Int) (xs:List bg) (a:Int) (l:List (Int×Int)) (N:Nat) (todo:List bg) (ds:List Int):Prop where
 len:ds.length=cs.length
 dj:NA (L5 xs) (G3 tw th cs) (fD ds) (l++todo.map kc)
 Df:∀e∈l++todo.map kc,G2 cs e.2
 top:∀e∈l++todo.map kc,e.1+254*(Fp ds:Int)<=1073741824+254*(cs.length:Int)
 Mb:todo.Pairwise λa b=>a.k<=b.k
 low:∀x∈todo,a<=x.k
 fH:N+todo.length+4*Fp ds<=xs.length+4*cs.length
section
variable {tw th:Int}{cs ds:List Int}{xs todo:List bg}{a:Int}{l:List (Int×Int)}{N:Nat}
def agl (hcs:∀x∈cs,1<=x/\x<256):∀x n c,G3 tw th cs x n c->0<=c:=λx n c h=>by rw[h.2.2.2];have:=hcs _ (fy (i:=n.toNat) (by have:=h.2.1;unfold G2 at this;omega));omega
def BD.take {x:bg}(h:BD tw th cs xs a l N (x::todo) ds):BD tw th cs xs a (l++[kc x]) (N+1) todo ds:=by
 have e:l++(x::todo).map kc=(l++[kc x])++todo.map kc:=by simp
 have h1:=h.dj;have h2:=h.Df;have h3:=h.top;have h4:=h.fH;rw[e]at h1 h2 h3;simp[List.length_cons]at h4;exact⟨h.len,h1,h2,h3,(List.pairwise_cons.1 h.Mb).2,λy hy=>h.low y (by simp[hy]),by omega⟩
def BD.jump {x:bg}(h:BD tw th cs xs a l N (x::todo) ds):BD tw th cs xs x.k l N (x::todo) ds:=
 ⟨h.len,h.dj,h.Df,h.top,h.Mb,λy hy=>by
  rcases List.mem_cons.1 hy with rfl|hy
  ·grind
  ·exact(List.pairwise_cons.1 h.Mb).1 y hy,h.fH⟩
def BD.skip {k x:Int}{l1 l2:List (Int×Int)}(h:BD tw th cs xs a (l1++(k,x)::l2) N todo ds)(hx:fD ds x<bW)(hk:∀y∈todo,k<=y.k):BD tw th cs xs k (l1++l2) N todo ds:=by
 have hm:∀e∈(l1++l2)++todo.map kc,e∈(l1++(k,x)::l2)++todo.map kc:=λe he=>by grind
 exact⟨h.len,h.dj.skip (k:=k) hx hm λe he=>by grind,λe he=>h.Df e (hm e he),λe he=>h.top e (hm e he),h.Mb,hk,h.fH⟩
def BD.step {k x:Int}{l1 l2:List (Int×Int)}{M:Nat}(hcs:∀x∈cs,1<=x/\x<256)(hw:1<=tw)(hh:1<=th)(hlen:(cs.length:Int)=tw*th)(vi:cs.length<=256)(h:BD tw th cs xs a (l1++(k,x)::l2) N todo ds)(hx:gi ds x.toNat=bW)
  (hmin:∀e∈l1++l2,k<=e.1)(hk:∀y∈todo,k<=y.k)(hM:M=N+(kH tw th cs (ds.set x.toNat k) (k+gi cs x.toNat) x 4).length):
  BD tw th cs xs k ((l1++l2)++kH tw th cs (ds.set x.toNat k) (k+gi cs x.toNat) x 4) M todo (ds.set x.toNat k):=by
 have hin:(k,x)∈(l1++(k,x)::l2)++todo.map kc:=by simp
 have HO:=h.Df _ hin;have hxr:0<=x/\x<ds.length:=by rw[h.len];exact⟨HO.1,HO.2.1⟩
 have Yh:=h.top _ hin;have hkI:k<bW:=by unfold bW;omega
 have Yi:∀y,fD (ds.set x.toNat k) y=if y=x then k else fD ds y:=ar1 hxr
 have F9:=UE (k:=k) (by omega) (by omega) hx;have hbound:∀e∈(l1++(k,x)::l2)++todo.map kc,k<=e.1:=λe he=>by
  simp only[List.mem_append,List.mem_cons,List.mem_map]at he;rcases he with(he|rfl|he)|⟨y,hy,rfl⟩
  ·grind
  ·grind
  ·grind
  ·exact hk y hy
 have hcx:=hcs _ (fy (i:=x.toNat) (by rw[<-h.len];omega));have hfx:¬fD ds x<bW:=by unfold fD;grind
 have ar3:∀e∈((l1++l2)++kH tw th cs (ds.set x.toNat k) (k+gi cs x.toNat) x 4)++todo.map kc,e∈(l1++(k,x)::l2)++todo.map kc\/e∈kH tw th cs (ds.set x.toNat k) (k+gi cs x.toNat) x 4:=λe he=>by grind
 have avr:∀e∈kH tw th cs (ds.set x.toNat k) (k+gi cs x.toNat) x 4,G2 cs e.2/\e.1=k+gi cs x.toNat/\G3 tw th cs e.2 x (gi cs x.toNat):=λe he=>by obtain⟨s,hs,⟨h1,h2,h3⟩,rfl⟩:=adn.1 he;have hr:=QX hw hh (by rw[<-hlen,<-h.len];exact hxr) h1;have ho:G2 cs (bK tw th x s):=⟨h1,by grind,h2⟩;exact⟨ho,rfl,ho,HO,hr.2,rfl⟩
 refine⟨by rw[List.length_set];exact h.len,?_,?_,?_,h.Mb,hk,?_⟩
 ·refine h.dj.step (agl hcs) hfx hkI hin hbound (by grind) (λy hy=>by grind) ?_ ?_ ?_
  ·grind
  ·grind
  ·rintro y c ⟨h1,h2,⟨s,hs,h3⟩,rfl⟩;by_cases hy:fD (ds.set x.toNat k) y<bW
   ·exact .inl hy
   ·refine .inr ⟨k+gi cs x.toNat,Int.le_refl _,?_⟩;have hr:=QX (s:=s) hw hh (by rw[<-hlen];exact⟨h1.1,h1.2.1⟩) (by grind);rw[h3]at hr;obtain⟨s',hs',h4⟩:=hr.2;rw[List.mem_append,List.mem_append];refine .inl (.inr (adn.2 ⟨s',hs',?_,by rw[h4]⟩));rw[h4];refine⟨h1.1,h1.2.2,?_⟩;have RJ:0<=y/\y<(ds.set x.toNat k).length:=by rw[List.length_set,h.len];exact⟨h1.1,h1.2.1⟩
    have hz:fD (ds.set x.toNat k) y=bW:=by
     rw[Yi]at hy⊢;by_cases e:y=x
     ·omega
     ·rw[if_neg e]at hy⊢;exact h.dj.none y hy
    unfold fD at hz;grind
 ·intro e he;rcases ar3 e he with h1|h1
  ·exact h.Df e h1
  grind
 ·intro e he;rcases ar3 e he with h1|h1
  ·have:=h.top e h1;omega
  ·have:=(avr e h1).2.1;have:gi cs x.toNat≠255:=HO.2.2;omega
 ·have h1:=UF tw th cs (ds.set x.toNat k) (k+gi cs x.toNat) x 4;have h2:=h.fH;omega
def alH (hok:rf tw th cs xs=true){zs:List bg}(hz:∀x,x∈zs↔x∈xs)(hzl:zs.length=xs.length)(hzs:zs.Pairwise λa b=>a.k<=b.k):BD tw th cs xs 0 [] 0 zs (List.replicate cs.length bW):=by
 have hf:∀x,fD (List.replicate cs.length bW) x=bW:=λx=>by
  unfold fD;split
  ·rename_i h;unfold gi;grind
  ·rfl
 have hu:Fp (List.replicate cs.length bW)=cs.length:=by rw[Fp,List.countP_replicate,if_pos (by decide)]
 unfold rf at hok;rw[Bool.and_eq_true,List.all_eq_true]at hok;have ajD:∀x∈zs,G2 cs x.c/\0<=x.k/\x.k<=1073741824:=λx hx=>by have:=hok.2 x ((hz x).1 hx);unfold zA at this;simp[Bool.and_eq_true,decide_eq_true_iff,bne_iff_ne]at this;exact⟨⟨this.1.1,this.1.2,this.2.1⟩,this.2.2.1⟩
 refine⟨by simp,⟨?_,?_,?_,?_,?_,?_⟩,?_,?_,hzs,λx hx=>(ajD x hx).2.1,by omega⟩
 ·intro e he;obtain⟨y,hy,rfl⟩:=List.mem_map.1 he;exact .src ⟨y,(hz y).1 hy,rfl,rfl⟩
 ·grind
 ·grind
 ·rintro x k ⟨y,hy,rfl,rfl⟩;exact .inr ⟨y.k,Int.le_refl _,by rw[List.nil_append];exact List.mem_map.2 ⟨y,(hz y).2 hy,rfl⟩⟩
 ·grind
 ·grind
 ·intro e he;obtain⟨y,hy,rfl⟩:=List.mem_map.1 he;exact(ajD y hy).1
 ·intro e he;obtain⟨y,hy,rfl⟩:=List.mem_map.1 he;have:=(ajD y hy).2;show y.k+_<=_;omega
noncomputable def jd (tw th:Int)(cs:List Int)(xs:List bg):List Int:=(List.range cs.length).map λl:Nat=>Ko tw th cs xs l
def BD.done (h:BD tw th cs xs a [] N [] ds):ds=jd tw th cs xs:=by
 have h1:=h.dj;have h2:∀x,gw (L5 xs) (G3 tw th cs) x=fD ds x:=λx=>NA.done (by grind) x;refine Tr (by unfold jd;rw[List.length_map,List.length_range,h.len]) λi hi=>?_;rw[jd,show gi ((List.range cs.length).map λl:Nat=>Ko tw th cs xs l) i=Ko tw th cs xs i from ?_]
 ·rw[Ko,h2];unfold fD;grind
 ·rw[gi,List.getD_eq_getElem?_getD,List.getElem?_map,List.getElem?_range (by rw[<-h.len];exact hi)];rfl
end
end Go.Proofs.YtmegplnmiepfbaaGreatDoor.S
namespace Go.Proofs.YtmegplnmiepfbaaGreatDoor.S
open Go.Sx
open Go.Sort (swp)
attribute [local irreducible] af cq bq bf aB bY bT St Bx Al App cu cg b_ bR aK bw aq bP av aj aU mapA
noncomputable abbrev ik:Value:=.func (.func 197) #[] #[]
abbrev cU (a:Option Addr)(n c:Nat)(d:Array bg):As:=aj a n c 294 3 (flat fI d.toList)
section
variable {F:Nat->Prop}{W w w0:World}{L:List As}{a:Option Addr}{n c:Nat}{d:Array bg}
def fU (s:Sep F W w (cU a n c d::L)):d.size=n:=by have:=(aL s (i:=0) rfl mT (by decide)).len;grind
def VB {k:Nat}(h:k<d.size):d.toList[k]? =some d[k]!:=by grind
def RdS {idx:Int}{k:Nat}{K:Int->Int->Int->Prop}(s:Sep F W w (cU a n c d::L))(hk:idx=k)(hn:k<d.size)(h:K d[k]!.c d[k]!.s d[k]!.k):
  aH idx n (wA a λp=>af .i64 ((p.add (idx.toNat*3)).add 0) w λx=>af .i64 ((p.add (idx.toNat*3)).add 1) w λy=>af .i64 ((p.add (idx.toNat*3)).add 2) w λz=>K x y z):=
 (aL s (i:=0) rfl mT (by decide)).El hk (by rw[<-fU s];exact hn) λp x hx hc=>by rw[VB hn]at hx;cases hx;exact aQ (hc 0 _ rfl) (aQ (hc 1 _ rfl) (aQ (hc 2 _ rfl) h))
def WrS {idx:Int}{k:Nat}{x:bg}{K:World->Prop}(s:Sep F W w (cU a n c d::L))(hk:idx=k)(hn:k<d.size)(h:∀w',Sep F W w' (cU a n c (d.setIfInBounds k x)::L)->K w'):
  aH idx n (wA a λp=>St ((p.add (idx.toNat*3)).add 0) (ae x.c) w λw=>St ((p.add (idx.toNat*3)).add 1) (ae x.s) w λw=>St ((p.add (idx.toNat*3)).add 2) (ae x.k) w λw=>K w):=by
 have hsz:=fU s;subst hk;have hg:=VB hn;refine BR s (i:=0) rfl rfl (by omega) λg o ha=>?_;subst ha;have ad:∀j,(((⟨g,o,none⟩:Addr).add ((k:Int).toNat*3)).add j)=⟨g,o+(k*3+j),none⟩:=λj=>by rw[add_add,cf,Int.toNat_natCast]
 refine dz (x':=⟨x.c,d[k]!.s,d[k]!.k⟩) mT s (i:=0) rfl hg (ad 0) (by decide) rfl rfl λw s=>?_;refine dz (x:=⟨x.c,d[k]!.s,d[k]!.k⟩) (x':=⟨x.c,x.s,d[k]!.k⟩) mT s (i:=0) rfl (by grind) (ad 1) (by decide) rfl rfl λw s=>?_;refine dz (x:=⟨x.c,x.s,d[k]!.k⟩) (x':=x) mT s (i:=0) rfl (by grind) (ad 2) (by decide) rfl rfl λw s=>?_;simp[List.set_cons_zero,List.set_set]at s;grind
def Fq {m:Nat}{i j:Int}{p q:Nat}{K:Int->World->Prop}(s:Sep F W w (cU a n c d::L))(hi:i=p)(hp:p<d.size)(hj:j=q)(hq:q<d.size)(h:∀w',Sep F W w' (cU a n c d::L)->K (agb d[p]! d[q]!) w'):
  aH i n (wA a λp=>af .i64 ((p.add (i.toNat*3)).add 0) w λx=>af .i64 ((p.add (i.toNat*3)).add 1) w λy=>af .i64 ((p.add (i.toNat*3)).add 2) w λz=>
  aH j n (wA a λp=>af .i64 ((p.add (j.toNat*3)).add 0) w λx'=>af .i64 ((p.add (j.toNat*3)).add 1) w λy'=>af .i64 ((p.add (j.toNat*3)).add 2) w λz'=>
  gQ (cx m) ik [.agg #[ae x,ae y,ae z],.agg #[ae x',ae y',ae z']] w λv w'=>dI .i64 v λr=>K r w')):=
 RdS (K:=λx y z=>aH j n (wA a λp=>af .i64 ((p.add (j.toNat*3)).add 0) w λx'=>af .i64 ((p.add (j.toNat*3)).add 1) w λy'=>af .i64 ((p.add (j.toNat*3)).add 2) w λz'=>
  gQ (cx m) ik [.agg #[ae x,ae y,ae z],.agg #[ae x',ae y',ae z']] w λv w'=>dI .i64 v λr=>K r w')) s hi hp
  (RdS s hj hq
   (ahQ (Ws s λw' s' _=>h w' s')))
def CU {i j:Int}{p q:Nat}{K:World->Prop}(s:Sep F W w (cU a n c d::L))(hi:i=p)(hp:p<d.size)(hj:j=q)(hq:q<d.size)(h:∀w',Sep F W w' (cU a n c (swp d p q)::L)->K w'):
  aH j n (wA a λp=>af .i64 ((p.add (j.toNat*3)).add 0) w λx=>af .i64 ((p.add (j.toNat*3)).add 1) w λy=>af .i64 ((p.add (j.toNat*3)).add 2) w λz=>
  aH i n (wA a λp=>af .i64 ((p.add (i.toNat*3)).add 0) w λx'=>af .i64 ((p.add (i.toNat*3)).add 1) w λy'=>af .i64 ((p.add (i.toNat*3)).add 2) w λz'=>
  aH i n (wA a λp=>St ((p.add (i.toNat*3)).add 0) (ae x) w λw=>St ((p.add (i.toNat*3)).add 1) (ae y) w λw=>St ((p.add (i.toNat*3)).add 2) (ae z) w λw=>
  aH j n (wA a λp=>St ((p.add (j.toNat*3)).add 0) (ae x') w λw=>St ((p.add (j.toNat*3)).add 1) (ae y') w λw=>St ((p.add (j.toNat*3)).add 2) (ae z') w λw=>K w)))):=by
 refine RdS (K:=λx y z=>aH i n (wA a λp=>af .i64 ((p.add (i.toNat*3)).add 0) w λx'=>af .i64 ((p.add (i.toNat*3)).add 1) w λy'=>af .i64 ((p.add (i.toNat*3)).add 2) w λz'=>
  aH i n (wA a λp=>St ((p.add (i.toNat*3)).add 0) (ae x) w λw=>St ((p.add (i.toNat*3)).add 1) (ae y) w λw=>St ((p.add (i.toNat*3)).add 2) (ae z) w λw=>
  aH j n (wA a λp=>St ((p.add (j.toNat*3)).add 0) (ae x') w λw=>St ((p.add (j.toNat*3)).add 1) (ae y') w λw=>St ((p.add (j.toNat*3)).add 2) (ae z') w λw=>K w)))) s hj hq ?_
 refine RdS (K:=λx' y' z'=>aH i n (wA a λp=>St ((p.add (i.toNat*3)).add 0) (ae d[q]!.c) w λw=>St ((p.add (i.toNat*3)).add 1) (ae d[q]!.s) w λw=>St ((p.add (i.toNat*3)).add 2) (ae d[q]!.k) w λw=>
  aH j n (wA a λp=>St ((p.add (j.toNat*3)).add 0) (ae x') w λw=>St ((p.add (j.toNat*3)).add 1) (ae y') w λw=>St ((p.add (j.toNat*3)).add 2) (ae z') w λw=>K w))) s hi hp ?_
 refine WrS (K:=λw=>aH j n (wA a λp_1=>St ((p_1.add (j.toNat*3)).add 0) (ae d[p]!.c) w λw=>St ((p_1.add (j.toNat*3)).add 1) (ae d[p]!.s) w λw=>St ((p_1.add (j.toNat*3)).add 2) (ae d[p]!.k) w λw=>K w)) s hi hp λw s=>?_;exact WrS s hj (by grind) h
end
end Go.Proofs.YtmegplnmiepfbaaGreatDoor.S
namespace Go.Proofs.YtmegplnmiepfbaaGreatDoor.S
open Go.Sx
open Go.Sort (swp insInner insOuter insertionSort siftDown heapBuild heapPop heapSort)
attribute [local irreducible] af cq bq bf aB bY bT St Bx Al App cu cg b_ bR aK bw aq bP av aj aU mapA
section
variable {F:Nat->Prop}{W w w0:World}{L:List As}{a:Option Addr}{n c:Nat}{d:Array bg}
def alI {P1:Option Addr->Nat->Nat->Int->Int->Value->Int->World->Prop}{Q:World->Prop}{lo:Nat}{b:Int}{i:Nat}(hn:n<1000000)(hi:i<1000000)
  (h:∀d' w',d'.size=n->Sep F W w' (cU a n c d'::L)->(d'=insInner cD lo i d)->P1 a n c lo b ik ((i+1:Nat):Int) w'):
  ∀(j:Nat) (d1:Array bg) (w:World),j<n->insInner cD lo j d1=insInner cD lo i d->Sep F W w (cU a n c d1::L)->eF P1 Q (j+1) a n c lo b ik i j w:=by
 intro j;induction j with
 |zero=>
  intro d1 w hj he s;show fB P1 Q (eF P1 Q 0) _ _ _ _ _ _ _ _ _;rw[fB,bp,aF];exact h d1 _ (fU s) (ax s) he
 |succ j ih=>
  intro d1 w hj he s;have hsz:=fU s;show fB P1 Q (eF P1 Q (j+1)) _ _ _ _ _ _ _ _ _;unfold fB;rw[insInner]at he;by_cases hl:j+1>lo
  ·rw[bJ (show((j+1:Nat):Int)>lo by omega),aF];rw[decide_eq_true hl,Bool.true_and]at he;refine Fq (q:=j) (ax s) rfl (by omega) (by omega) (by omega) λw s=>?_;show cond (cD d1[j+1]! d1[j]!) _ _;by_cases hc:cD d1[j+1]! d1[j]! =true
   ·rw[hc,cond_true];refine CU (q:=j) (ax s) rfl (by omega) (by omega) (by omega) λw s=>?_;grind
   ·rw[Bool.not_eq_true]at hc;rw[hc,cond_false,aF];grind
  ·rw[bp (show¬((j+1:Nat):Int)>lo by omega),aF];rw[decide_eq_false hl,Bool.false_and,if_neg (by decide)]at he;exact h d1 _ hsz (ax s) he
def alJ {Q:World->Prop}{lo b:Nat}(hn:n<1000000)(hb:b<=n)(h:∀w',Sep F W w' (cU a n c (insertionSort cD d lo b)::L)->Q w'):
  ∀(j i:Nat) (d1:Array bg) (w:World),i+j=b+1\/b<i/\j=0->insOuter cD lo b i d1=insertionSort cD d lo b->Sep F W w (cU a n c d1::L)->eG Q (j+1) a n c lo b ik i w:=by
 intro j;induction j with
 |zero=>
  intro i d1 w hi he s;show fE Q (eG Q 0) _ _ _ _ _ _ _ _;unfold fE;rw[insOuter,ru]at he;grind
 |succ j ih=>
  intro i d1 w hi he s;show fE Q (eG Q (j+1)) _ _ _ _ _ _ _ _;unfold fE;rw[insOuter]at he;by_cases hib:i<b
  ·rw[bJ];rw[if_pos hib]at he;refine⟨i+1,alI hn (by omega) (λd' w' hs' s' e=>?_) i d1 w (by omega) rfl s⟩;subst e;exact ih (i+1) _ w' (by omega) he s'
  grind
def F_ {Q:World->Prop}{lo b:Nat}(s:Sep F W w (cU a n c d::L))(hn:n<1000000)(hlo:lo<=b)(hb:b<=n)(h:∀w',Sep F W w' (cU a n c (insertionSort cD d lo b)::L)->Q w'):
  ju a n c lo b ik w Q:=by
 apply yo;rw[aF];exact⟨b-lo+1,alJ hn hb h (b-lo) (lo+1) d w (by omega) rfl s⟩
def alK {Q:World->Prop}{hi first:Nat}(hn:n<1000000)(hh:first+hi<=n){d0:Array bg}(h:∀w',Sep F W w' (cU a n c d0::L)->Q w'):
  ∀(j root:Nat) (d1:Array bg) (w:World),hi<=root+j->root<n->siftDown cD hi first root d1=d0->Sep F W w (cU a n c d1::L)->eI Q (j+1) a n c hi first ik root w:=by
 intro j;induction j with
 |zero=>
  intro root d1 w hj hr he s;show gB Q (eI Q 0) _ _ _ _ _ _ _ _;rw[gB,aF (n:=2*(root:Int)),aF,bJ];rw[siftDown,dif_pos (by omega)]at he;grind
 |succ j ih=>
  intro root d1 w hj hr he s;have hsz:=fU s;show gB Q (eI Q (j+1)) _ _ _ _ _ _ _ _;rw[gB,aF (n:=2*(root:Int)),aF];rw[siftDown]at he;by_cases h1:2*root+1≥hi
  ·grind
  rw[bp,aF,aF,aF];rw[dif_neg h1]at he;have b5:∀(ch:Nat) (w:World),root<ch->ch<hi->Sep F W w (cU a n c d1::L)->(if(!cD d1[first+root]! d1[first+ch]!)=true then d1 else siftDown cD hi first ch (swp d1 (first+root) (first+ch)))=d0->
    fk (eI Q (j+1)) Q a n c hi first ik root ch w:=λch w ay4 hch s he=>by
   rw[fk,aF,aF];refine Fq (p:=first+root) (q:=first+ch) (ax s) (by omega) (by omega) (by omega) (by omega) λw s=>?_;show cond (!cD d1[first+root]! d1[first+ch]!) _ _;by_cases hc:cD d1[first+root]! d1[first+ch]! =true
   ·rw[hc,Bool.not_true,cond_false];refine CU (p:=first+root) (q:=first+ch) (ax s) (by omega) (by omega) (by omega) (by omega) λw s=>?_;grind
   grind
  have e1:(2*(root:Int)+1)=((2*root+1:Nat):Int):=by omega
  have e2:(2*(root:Int)+1+1)=((2*root+2:Nat):Int):=by omega
  rw[e2];by_cases h2:2*root+2<hi
  ·rw[bJ (show((2*root+2:Nat):Int)<hi by omega)];refine Fq (p:=first+(2*root+1)) (q:=first+(2*root+1)+1) (ax s) (by omega) (by omega) (by omega) (by omega) λw s=>?_;show cond (cD d1[first+(2*root+1)]! d1[first+(2*root+1)+1]!) _ _;by_cases hc:cD d1[first+(2*root+1)]! d1[first+(2*root+1)+1]! =true
   ·rw[hc,cond_true];apply b5 (2*root+2) w (by omega) h2 s;grind
   ·rw[Bool.not_eq_true]at hc;rw[hc,cond_false,e1];rw[if_neg (by grind)]at he;exact b5 (2*root+1) w (by omega) (by omega) s he
  ·rw[bp (show¬((2*root+2:Nat):Int)<hi by omega),e1];rw[if_neg (by grind)]at he;exact b5 (2*root+1) _ (by omega) (by omega) (ax s) he
def O4 {Q:World->Prop}{lo hi first:Nat}(s:Sep F W w (cU a n c d::L))(hn:n<1000000)(hh:first+hi<=n)(hlo:lo<n)(h:∀w',Sep F W w' (cU a n c (siftDown cD hi first lo d)::L)->Q w'):
  iE a n c lo hi first ik w Q:=by
 apply AP;exact⟨hi+1,alK hn hh h hi lo d w (by omega) hlo rfl s⟩
def an_ {Q:World->Prop}{first:Nat}(hn:n<1000000){d0:Array bg}(h:∀w',Sep F W w' (cU a n c d0::L)->Q w'):
  ∀(k:Nat) (d1:Array bg) (w:World),first+k<=n->heapPop cD first k d1=d0->Sep F W w (cU a n c d1::L)->fm Q (k+1) a n c ik first 0 ((k:Int)-1) w:=by
 intro k;induction k with
 |zero=>
  intro d1 w hk he s;show gC Q (fm Q 0) _ _ _ _ _ _ _ _;unfold gC;rw[heapPop]at he;grind
 |succ k ih=>
  intro d1 w hk he s;have hsz:=fU s;show gC Q (fm Q (k+1)) _ _ _ _ _ _ _ _;rw[gC,show((k+1:Nat):Int)-1=(k:Int) by omega,bJ,aF,aF];rw[heapPop]at he;refine CU (p:=first) (q:=first+k) (ax s) (by omega) (by omega) (by omega) (by omega) λw s=>?_;refine O4 (lo:=0) s hn (by omega) (by omega) λw s=>?_;grind
def ajE {Q:World->Prop}{first hi:Nat}(hn:n<1000000)(hh:first+hi<=n){d0:Array bg}(h:∀w',Sep F W w' (cU a n c d0::L)->Q w'):
  ∀(k:Nat) (d1:Array bg) (w:World),k<=hi->heapPop cD first hi (heapBuild cD hi first k d1)=d0->Sep F W w (cU a n c d1::L)->fo Q (k+1) a n c ik first 0 hi ((k:Int)-1) w:=by
 intro k;induction k with
 |zero=>
  intro d1 w hk he s;show gD Q (fo Q 0) _ _ _ _ _ _ _ _ _;rw[gD,bp,aF];exact⟨hi+1,an_ hn h hi d1 w hh he s⟩
 |succ k ih=>
  intro d1 w hk he s;show gD Q (fo Q (k+1)) _ _ _ _ _ _ _ _ _;rw[gD,show((k+1:Nat):Int)-1=(k:Int) by omega,bJ,aF];rw[heapBuild]at he;refine O4 s hn hh (by omega) λw s=>?_;grind
def abY {Q:World->Prop}{lo b:Nat}(s:Sep F W w (cU a n c d::L))(hn:n<1000000)(hlo:lo<b)(hb:b<=n)(h:∀w',Sep F W w' (cU a n c (heapSort cD d lo b)::L)->Q w'):
  k9 a n c lo b ik w Q:=by
 apply AQ;refine⟨by decide,?_⟩;rw[aF,aF (n:=(b:Int)-lo-1),Int.tdiv_eq_ediv_of_nonneg (by omega),aF,
  show(b:Int)-lo=((b-lo:Nat):Int) by omega]
 have:=ajE hn (by omega) h ((b-lo-1)/2+1) d w (by omega) rfl s;grind
end
end Go.Proofs.YtmegplnmiepfbaaGreatDoor.S
namespace Go.Proofs.YtmegplnmiepfbaaGreatDoor.S
open Go.Sx
open Go.Sort (swp scanUp scanDown partLoop partition partEqLoop partitionEqual)
attribute [local irreducible] af cq bq bf aB bY bT St Bx Al App cu cg b_ bR aK bw aq bP av aj aU mapA
section
variable {F:Nat->Prop}{W w w0:World}{L:List As}{a:Option Addr}{n c:Nat}{d:Array bg}
def ot {α:Type}(A B:α):(if false=true then A else B)=B:=rfl
def UG {α:Type}(A B:α):(if true=true then A else B)=A:=rfl
def up_eq (p:bg->Bool)(d:Array bg)(j i:Nat):scanUp p d j i=if(decide (i<=j)&&p d[i]!)=true then scanUp p d j (i+1)else i:=by rw[scanUp]
def down_eq (p:bg->Bool)(d:Array bg)(i j:Nat)(hi:1<=i):scanDown p d i j=if(decide (i<=j)&&p d[j]!)=true then scanDown p d i (j-1)else j:=by
 cases j with
 |zero=>rw[scanDown,decide_eq_false (by omega),Bool.false_and,ot]
 |succ j=>rw[scanDown];rfl
def alL {Q:Int->Bool->World->Prop}{lo:Nat}(hn:n<1000000){R:Nat×Array bg}(h:∀w',R.1<n->Sep F W w' (cU a n c (swp R.2 R.1 lo)::L)->Q R.1 false w'):
  ∀(f i j:Nat) (d:Array bg) (w:World),j+1<=i+f->lo<i->lo<=j->j<n->i<=n->partLoop cD lo i j d=R->Sep F W w (cU a n c d::L)->cW Q (f+1) a n c lo ik i j w:=by
 intro f;induction f with
 |zero=>
  intro i j d w hf hlo hj0 hj hi hR s;have hsz:=fU s;rw[Go.Sort.partLoop_eq]at hR;rw[up_eq,decide_eq_false (by omega),Bool.false_and,ot,down_eq _ _ _ _ (by omega),decide_eq_false (by omega),Bool.false_and,ot,zP]at hR;subst hR;show fW Q (cW Q 0) _ _ _ _ _ _ _ _;rw[fW,bp];refine⟨1,?_⟩;show dO _ Q (cV _ Q 0) _ _ _ _ _ _ _ _;rw[dO,bp];rw[eV,bJ];exact CU (ax (ax (ax s))) rfl (by omega) rfl (by omega) λw s=>h w hj s
 |succ f ih=>
  intro i j d w hf hlo hj0 hj hi hR s;have hsz:=fU s;show fW Q (cW Q (f+1)) _ _ _ _ _ _ _ _;unfold fW;rw[Go.Sort.partLoop_eq]at hR;have down:∀(k j':Nat) (w:World),j'=lo+k->j'<=j->Sep F W w (cU a n c d::L)->
    (if i>scanDown (λx=>!cD x d[lo]!) d i j' then(scanDown (λx=>!cD x d[lo]!) d i j',d)else partLoop cD lo (i+1) (scanDown (λx=>!cD x d[lo]!) d i j'-1) (swp d i (scanDown (λx=>!cD x d[lo]!) d i j')))=R->
    cV (cW Q (f+1)) Q (k+1) a n c lo ik i j' w:=by
   have WX:∀(j':Nat) (w:World),lo<=j'->j'<=j->Sep F W w (cU a n c d::L)->(if i>j' then(j',d)else partLoop cD lo (i+1) (j'-1) (swp d i j'))=R->
     eV (cW Q (f+1)) Q a n c lo ik i j' w:=λj' w h1 h2 s hR=>by
    unfold eV;by_cases hij:i>j'
    ·rw[if_pos hij]at hR;subst hR;rw[bJ];exact CU (ax s) rfl (by omega) rfl (by omega) λw s=>h w (show j'<n by omega) s
    ·rw[if_neg hij]at hR;rw[bp,aF,aF];refine CU (ax s) rfl (by omega) rfl (by omega) λw s=>?_;rw[show(i:Int)+1=((i+1:Nat):Int) by omega,show(j':Int)-1=((j'-1:Nat):Int) by omega];exact ih (i+1) (j'-1) _ w (by omega) (by omega) (by omega) (by omega) (by omega) hR s
   intro k;induction k with
   |zero=>
    intro j' w hk hj' s hR;rw[down_eq _ _ _ _ (by omega),decide_eq_false (by omega),Bool.false_and,ot]at hR;show dO _ Q (cV _ Q 0) _ _ _ _ _ _ _ _;rw[dO,bp];exact WX j' _ (by omega) hj' (ax s) hR
   |succ k ih2=>
    intro j' w hk hj' s hR;rw[down_eq _ _ _ _ (by omega)]at hR;show dO _ Q (cV _ Q (k+1)) _ _ _ _ _ _ _ _;unfold dO;by_cases hij:i<=j'
    ·rw[bJ];refine Fq (ax s) rfl (by omega) rfl (by omega) λw s=>?_;show cond (!cD d[j']! d[lo]!) _ _;rw[decide_eq_true hij,Bool.true_and]at hR;cases hc:cD d[j']! d[lo]! with
     |false=>
      rw[Bool.not_false,cond_true,aF,show(j':Int)-1=((j'-1:Nat):Int) by omega];grind
     |true=>
      grind
    ·rw[bp];rw[decide_eq_false hij,Bool.false_and,ot]at hR;exact WX j' _ (by omega) hj' (ax s) hR
  by_cases hij:i<=j
  ·rw[bJ];refine Fq (ax s) rfl (by omega) rfl (by omega) λw s=>?_;show cond (cD d[i]! d[lo]!) _ _;cases hc:cD d[i]! d[lo]! with
   |true=>
    rw[cond_true,aF];rw[up_eq,hc,decide_eq_true hij,Bool.true_and,UG,<-Go.Sort.partLoop_eq]at hR;exact ih (i+1) j d w (by omega) (by omega) hj0 hj (by omega) hR s
   |false=>
    rw[up_eq,hc,Bool.and_false,ot]at hR;exact⟨j-lo+1,down (j-lo) j w (by omega) (Nat.le_refl _) s hR⟩
  ·rw[bp];rw[up_eq,decide_eq_false hij,Bool.false_and,ot]at hR;exact⟨j-lo+1,down (j-lo) j _ (by omega) (Nat.le_refl _) (ax s) hR⟩
def Z5 {Q:Int->Bool->World->Prop}{lo b pv:Nat}(s:Sep F W w (cU a n c d::L))(hn:n<1000000)(hlo:lo<=pv/\pv<b)(hb:b<=n)
  (h:∀w',Sep F W w' (cU a n c (partition cD d lo b pv).2.2::L)->Q (partition cD d lo b pv).1 (partition cD d lo b pv).2.1 w'):
  kP a n c lo b pv ik w Q:=by
 apply Af;have hsz:=fU s;refine CU (ax s) rfl (by omega) rfl (by omega) λw s=>?_;rw[aF,aF];unfold partition at h;simp only at h;generalize swp d lo pv=d1 at h s;have hsz:=fU s;have b7:∀(i j':Nat) (w:World),lo<i->i<=b->lo<=j'->j'<b->scanUp (λx=>cD x d1[lo]!) d1 (b-1) (lo+1)=i->scanDown (λx=>!cD x d1[lo]!) d1 i (b-1)=j'->Sep F W w (cU a n c d1::L)->
   gf Q a n c lo ik i j' w:=λi j' w h1 h1' h2 h3 hI hJ s=>by
  rw[hI,hJ]at h;unfold gf;by_cases hij:i>j'
  ·rw[bJ];rw[if_pos hij]at h;exact CU (ax s) rfl (by omega) rfl (by omega) λw s=>h w s
  ·rw[bp,aF,aF];rw[if_neg hij]at h;refine CU (ax s) rfl (by omega) rfl (by omega) λw s=>?_;rw[show(i:Int)+1=((i+1:Nat):Int) by omega,show(j':Int)-1=((j'-1:Nat):Int) by omega];exact⟨j'+1,alL hn (λw' _ s=>h w' s) j' (i+1) (j'-1) _ w (by omega) (by omega) (by omega) (by omega) (by omega) rfl s⟩
 have b5:∀(i:Nat),lo<i->i<=b->scanUp (λx=>cD x d1[lo]!) d1 (b-1) (lo+1)=i->∀(k j':Nat) (w:World),j'=lo+k->j'<b->scanDown (λx=>!cD x d1[lo]!) d1 i (b-1)=scanDown (λx=>!cD x d1[lo]!) d1 i j'->Sep F W w (cU a n c d1::L)->
   c_ Q (k+1) a n c lo ik i j' w:=λi h1 h1' hI k=>by
  induction k with
  |zero=>
   intro j' w hk hj' hJ s;rw[down_eq _ _ _ j' (by omega),decide_eq_false (by omega),Bool.false_and,ot]at hJ;show gg Q (c_ Q 0) _ _ _ _ _ _ _ _;rw[gg,bp];exact b7 i j' _ h1 h1' (by omega) hj' hI hJ (ax s)
  |succ k ih2=>
   intro j' w hk hj' hJ s;rw[down_eq _ _ _ j' (by omega)]at hJ;show gg Q (c_ Q (k+1)) _ _ _ _ _ _ _ _;unfold gg;by_cases hij:i<=j'
   ·rw[bJ];refine Fq (ax s) rfl (by omega) rfl (by omega) λw s=>?_;show cond (!cD d1[j']! d1[lo]!) _ _;rw[decide_eq_true hij,Bool.true_and]at hJ;cases hc:cD d1[j']! d1[lo]! with
    |false=>
     rw[Bool.not_false,cond_true,aF,show(j':Int)-1=((j'-1:Nat):Int) by omega];grind
    |true=>
     grind
   ·rw[bp];rw[decide_eq_false hij,Bool.false_and,ot]at hJ;exact b7 i j' _ h1 h1' (by omega) hj' hI hJ (ax s)
 have b3:∀(k i:Nat) (w:World),i+k=b->lo<i->scanUp (λx=>cD x d1[lo]!) d1 (b-1) (lo+1)=scanUp (λx=>cD x d1[lo]!) d1 (b-1) i->Sep F W w (cU a n c d1::L)->
   eZ Q (k+1) a n c lo ik i ((b-1:Nat):Int) w:=λk=>by
  have go5:∀(i:Nat) (w:World),lo<i->i<=b->scanUp (λx=>cD x d1[lo]!) d1 (b-1) (lo+1)=i->Sep F W w (cU a n c d1::L)->∃k',c_ Q k' a n c lo ik i ((b-1:Nat):Int) w:=
   λi w h1 h2 hI s=>⟨b-1-lo+1,b5 i h1 h2 hI (b-1-lo) (b-1) w (by omega) (by omega) rfl s⟩
  induction k with
  |zero=>
   intro i w hk hi hI s;rw[up_eq _ _ _ i,decide_eq_false (by omega),Bool.false_and,ot]at hI;show gh Q (eZ Q 0) _ _ _ _ _ _ _ _;rw[gh,bp];exact go5 i _ hi (by omega) hI (ax s)
  |succ k ih2=>
   intro i w hk hi hI s;rw[up_eq _ _ _ i]at hI;show gh Q (eZ Q (k+1)) _ _ _ _ _ _ _ _;rw[gh,bJ];refine Fq (ax s) rfl (by omega) rfl (by omega) λw s=>?_;show cond (cD d1[i]! d1[lo]!) _ _;rw[decide_eq_true (show i<=b-1 by omega),Bool.true_and]at hI;cases hc:cD d1[i]! d1[lo]! with
   |true=>
    rw[hc,UG]at hI;rw[cond_true,aF];exact ih2 (i+1) w (by omega) (by omega) hI s
   |false=>
    grind
 have:=b3 (b-(lo+1)) (lo+1) w (by omega) (by omega) rfl s;grind
def ahU {Q:Int->World->Prop}{lo:Nat}(hn:n<1000000){R:Nat×Array bg}(h:∀w',R.1<=n->Sep F W w' (cU a n c R.2::L)->Q R.1 w'):
  ∀(f i j:Nat) (d:Array bg) (w:World),j+1<=i+f->lo<i->lo<=j->j<n->i<=n->partEqLoop cD lo i j d=R->Sep F W w (cU a n c d::L)->cz Q (f+1) a n c lo ik i j w:=by
 intro f;induction f with
 |zero=>
  intro i j d w hf hlo hj0 hj hi hR s;have hsz:=fU s;rw[Go.Sort.partEqLoop_eq]at hR;rw[up_eq,decide_eq_false (by omega),Bool.false_and,ot,down_eq _ _ _ _ (by omega),decide_eq_false (by omega),Bool.false_and,ot,zP]at hR;subst hR;show fg Q (cz Q 0) _ _ _ _ _ _ _ _;rw[fg,bp];refine⟨1,?_⟩;show c8 _ Q (cy _ Q 0) _ _ _ _ _ _ _ _;rw[c8,bp];rw[ee,bJ];exact h _ hi (ax (ax s))
 |succ f ih=>
  intro i j d w hf hlo hj0 hj hi hR s;have hsz:=fU s;show fg Q (cz Q (f+1)) _ _ _ _ _ _ _ _;unfold fg;rw[Go.Sort.partEqLoop_eq]at hR;have down:∀(k j':Nat) (w:World),j'=lo+k->j'<=j->Sep F W w (cU a n c d::L)->
    (if i>scanDown (λx=>cD d[lo]! x) d i j' then(i,d)else partEqLoop cD lo (i+1) (scanDown (λx=>cD d[lo]! x) d i j'-1) (swp d i (scanDown (λx=>cD d[lo]! x) d i j')))=R->
    cy (cz Q (f+1)) Q (k+1) a n c lo ik i j' w:=by
   have b7:∀(j':Nat) (w:World),lo<=j'->j'<=j->Sep F W w (cU a n c d::L)->(if i>j' then(i,d)else partEqLoop cD lo (i+1) (j'-1) (swp d i j'))=R->
     ee (cz Q (f+1)) Q a n c lo ik i j' w:=λj' w h1 h2 s hR=>by
    unfold ee;by_cases hij:i>j'
    ·grind
    ·rw[if_neg hij]at hR;rw[bp,aF,aF];refine CU (ax s) rfl (by omega) rfl (by omega) λw s=>?_;rw[show(i:Int)+1=((i+1:Nat):Int) by omega,show(j':Int)-1=((j'-1:Nat):Int) by omega];exact ih (i+1) (j'-1) _ w (by omega) (by omega) (by omega) (by omega) (by omega) hR s
   intro k;induction k with
   |zero=>
    intro j' w hk hj' s hR;rw[down_eq _ _ _ _ (by omega),decide_eq_false (by omega),Bool.false_and,ot]at hR;show c8 _ Q (cy _ Q 0) _ _ _ _ _ _ _ _;rw[c8,bp];exact b7 j' _ (by omega) hj' (ax s) hR
   |succ k ih2=>
    intro j' w hk hj' s hR;rw[down_eq _ _ _ _ (by omega)]at hR;show c8 _ Q (cy _ Q (k+1)) _ _ _ _ _ _ _ _;unfold c8;by_cases hij:i<=j'
    ·rw[bJ];refine Fq (ax s) rfl (by omega) rfl (by omega) λw s=>?_;show cond (cD d[lo]! d[j']!) _ _;rw[decide_eq_true hij,Bool.true_and]at hR;cases hc:cD d[lo]! d[j']! with
     |true=>
      rw[cond_true,aF,show(j':Int)-1=((j'-1:Nat):Int) by omega];grind
     |false=>
      grind
    ·rw[bp];rw[decide_eq_false hij,Bool.false_and,ot]at hR;exact b7 j' _ (by omega) hj' (ax s) hR
  by_cases hij:i<=j
  ·rw[bJ];refine Fq (ax s) rfl (by omega) rfl (by omega) λw s=>?_;show cond (!cD d[lo]! d[i]!) _ _;cases hc:cD d[lo]! d[i]! with
   |false=>
    rw[Bool.not_false,cond_true,aF];rw[up_eq,hc,decide_eq_true hij,Bool.true_and,Bool.not_false,UG,<-Go.Sort.partEqLoop_eq]at hR;exact ih (i+1) j d w (by omega) (by omega) hj0 hj (by omega) hR s
   |true=>
    rw[up_eq,hc,Bool.not_true,Bool.and_false,ot]at hR;exact⟨j-lo+1,down (j-lo) j w (by omega) (Nat.le_refl _) s hR⟩
  ·rw[bp];rw[up_eq,decide_eq_false hij,Bool.false_and,ot]at hR;exact⟨j-lo+1,down (j-lo) j _ (by omega) (Nat.le_refl _) (ax s) hR⟩
def QY {Q:Int->World->Prop}{lo b pv:Nat}(s:Sep F W w (cU a n c d::L))(hn:n<1000000)(hlo:lo<=pv/\pv<b)(hb:b<=n)
  (h:∀w',Sep F W w' (cU a n c (partitionEqual cD d lo b pv).2::L)->Q (partitionEqual cD d lo b pv).1 w'):
  jn a n c lo b pv ik w Q:=by
 apply xx;have hsz:=fU s;refine CU (ax s) rfl (by omega) rfl (by omega) λw s=>?_;rw[aF,aF,show(b:Int)-1=((b-1:Nat):Int) by omega];exact⟨b+1,ahU hn (λw' _ s=>h w' s) b (lo+1) (b-1) _ w (by omega) (by omega) (by omega) (by omega) (by omega) rfl s⟩
end
end Go.Proofs.YtmegplnmiepfbaaGreatDoor.S
namespace Go.Proofs.YtmegplnmiepfbaaGreatDoor.S
open Go.Sx
open Go.Sort (swp scanSorted shiftDown shiftUp partialIns partialInsertionSort PermIn)
attribute [local irreducible] af cq bq bf aB bY bT St Bx Al App cu cg b_ bR aK bw aq bP av aj aU mapA
section
variable {F:Nat->Prop}{W w w0:World}{L:List As}{a:Option Addr}{n c:Nat}{d:Array bg}
def aoa {Q:Bool->World->Prop}{lo b:Nat}(hn:n<1000000)(hb:b<=n)(hlo:lo<b){R:Array bg×Bool}(h:∀w',Sep F W w' (cU a n c R.1::L)->Q R.2 w'):
  ∀(f i:Nat) (d:Array bg) (w:World),f<=5->lo<i->i<=b->partialIns cD lo b f i d=R->Sep F W w (cU a n c d::L)->bj Q (f+1) a n c lo b ik i (5-f:Int) w:=by
 intro f;induction f with
 |zero=>
  intro i d w hf hi hib hR s;rw[partialIns]at hR;subst hR;show eB Q (bj Q 0) _ _ _ _ _ _ _ _ _;unfold eB;grind
 |succ f ih=>
  intro i d w hf hi hib hR s;show eB Q (bj Q (f+1)) _ _ _ _ _ _ _ _ _;rw[eB,bJ];have next:∀(i:Nat) (d:Array bg) (w:World),lo<i->i<=b->partialIns cD lo b f i d=R->Sep F W w (cU a n c d::L)->bj Q (f+1) a n c lo b ik i (IntKind.wrap .i64 ((5-(f+1:Nat):Int)+1)) w:=λi d w h1 h2 h3 s=>by rw[aF,show(5-(f+1:Nat):Int)+1=5-f by omega];grind
  have up:∀(i:Nat) (d':Array bg),lo<i->i<=b->partialIns cD lo b f i d'=R->∀(k j:Nat) (d:Array bg) (w:World),j+k=b->lo<j->shiftUp cD b j d=d'->Sep F W w (cU a n c d::L)->
    cQ (bj Q (f+1)) Q (k+1) a n c lo b ik i (5-(f+1:Nat):Int) j w:=by
   intro i d' h1 h2 h3 k;induction k with
   |zero=>
    intro j d w hj hj0 hS s;rw[shiftUp,ru]at hS;subst hS;show dY _ Q (cQ _ Q 0) _ _ _ _ _ _ _ _ _ _;unfold dY;grind
   |succ k ih2=>
    intro j d w hj hj0 hS s;have hsz:=fU s;rw[shiftUp,zP]at hS;show dY _ Q (cQ _ Q (k+1)) _ _ _ _ _ _ _ _ _ _;rw[dY,bJ,aF];refine Fq (q:=j-1) (ax s) rfl (by omega) (by omega) (by omega) λw s=>?_;show cond (!cD d[j]! d[j-1]!) _ _;cases hc:cD d[j]! d[j-1]! with
    |false=>
     grind
    |true=>
     rw[hc,Bool.not_true,ot]at hS;rw[Bool.not_true,cond_false,aF];refine CU (q:=j-1) (ax s) rfl (by omega) (by omega) (by omega) λw s=>?_;exact ih2 (j+1) _ w (by omega) (by omega) hS s
  have b18:∀(i:Nat) (d:Array bg) (w:World),lo<i->i<b->partialIns cD lo b f i (if b-i≥2 then shiftUp cD b (i+1) d else d)=R->Sep F W w (cU a n c d::L)->
    cR (bj Q (f+1)) Q a n c lo b ik i (5-(f+1:Nat):Int) w:=λi d w h1 h2 h3 s=>by
   rw[cR,aF];by_cases h4:b-i≥2
   ·rw[if_pos h4]at h3;rw[bJ,aF];exact⟨_,up i _ h1 (by omega) h3 (b-(i+1)) (i+1) d w (by omega) (by omega) rfl s⟩
   ·rw[if_neg h4]at h3;rw[bp];exact next i d _ h1 (by omega) h3 s
  have down:∀(i:Nat) (d':Array bg),lo<i->i<b->partialIns cD lo b f i (if b-i≥2 then shiftUp cD b (i+1) d' else d')=R->∀(j:Nat) (d:Array bg) (w:World),j<b->shiftDown cD j d=d'->Sep F W w (cU a n c d::L)->
    cS (bj Q (f+1)) Q (j+1) a n c lo b ik i (5-(f+1:Nat):Int) j w:=by
   intro i d' h1 h2 h3 j;induction j with
   |zero=>
    intro d w hj hS s;subst hS;show dZ _ Q (cS _ Q 0) _ _ _ _ _ _ _ _ _ _;unfold dZ;exact b18 i d _ h1 h2 h3 s
   |succ j ih2=>
    intro d w hj hS s;have hsz:=fU s;rw[shiftDown]at hS;show dZ _ Q (cS _ Q (j+1)) _ _ _ _ _ _ _ _ _ _;rw[dZ,bJ,aF];refine Fq (q:=j) (ax s) rfl (by omega) (by omega) (by omega) λw s=>?_;show cond (!cD d[j+1]! d[j]!) _ _;cases hc:cD d[j+1]! d[j]! with
    |false=>
     rw[hc,Bool.not_false,UG]at hS;subst hS;exact b18 i d w h1 h2 h3 s
    |true=>
     rw[hc,Bool.not_true,ot]at hS;rw[Bool.not_true,cond_false,show((j+1:Nat):Int)-1=(j:Int) by omega];refine CU (q:=j) (ax s) rfl (by omega) (by omega) (by omega) λw s=>?_;exact ih2 _ w (by omega) hS s
  have scan:∀(k i:Nat) (w:World),i+k=b->lo<i->Sep F W w (cU a n c d::L)->(if scanSorted cD d b i=b then(d,true)else if b-lo<50 then(d,false)else
     partialIns cD lo b f (scanSorted cD d b i) (if b-scanSorted cD d b i≥2 then shiftUp cD b (scanSorted cD d b i+1) (if scanSorted cD d b i-lo≥2 then shiftDown cD (scanSorted cD d b i-1) (swp d (scanSorted cD d b i) (scanSorted cD d b i-1))else swp d (scanSorted cD d b i) (scanSorted cD d b i-1))
      else(if scanSorted cD d b i-lo≥2 then shiftDown cD (scanSorted cD d b i-1) (swp d (scanSorted cD d b i) (scanSorted cD d b i-1))else swp d (scanSorted cD d b i) (scanSorted cD d b i-1))))=R->
    cZ (bj Q (f+1)) Q (k+1) a n c lo b ik i (5-(f+1:Nat):Int) w:=by
   have b7:∀(i:Nat) (w:World),lo<i->i<=b->Sep F W w (cU a n c d::L)->(if i=b then(d,true)else if b-lo<50 then(d,false)else
     partialIns cD lo b f i (if b-i≥2 then shiftUp cD b (i+1) (if i-lo≥2 then shiftDown cD (i-1) (swp d i (i-1))else swp d i (i-1))else(if i-lo≥2 then shiftDown cD (i-1) (swp d i (i-1))else swp d i (i-1))))=R->
     eo (bj Q (f+1)) Q a n c lo b ik i (5-(f+1:Nat):Int) w:=λi w h1 h2 s hR=>by
    have hsz:=fU s;unfold eo;by_cases h3:i=b
    ·rw[if_pos h3]at hR;subst hR;rw[dK (by omega),cond_true];exact h _ s
    ·rw[if_neg h3]at hR;rw[cJ (by omega),cond_false,aF];by_cases h4:b-lo<50
     ·rw[if_pos h4]at hR;subst hR;rw[bJ];exact h _ s
     ·rw[if_neg h4]at hR;rw[bp,aF,aF];refine CU (q:=i-1) (ax s) rfl (by omega) (by omega) (by omega) λw s=>?_;by_cases h5:i-lo≥2
      ·rw[if_pos h5]at hR;rw[bJ,show(i:Int)-1=((i-1:Nat):Int) by omega];exact⟨_,down i _ h1 (by omega) hR (i-1) _ w (by omega) rfl s⟩
      ·rw[if_neg h5]at hR;rw[bp];exact b18 i _ w h1 (by omega) hR s
   intro k;induction k with
   |zero=>
    intro i w hk hi s hR;rw[scanSorted,decide_eq_false (by omega),Bool.false_and,ot]at hR;show eA _ Q (cZ _ Q 0) _ _ _ _ _ _ _ _ _;rw[eA,bp];exact b7 i _ hi (by omega) (ax s) hR
   |succ k ih2=>
    intro i w hk hi s hR;have hsz:=fU s;rw[scanSorted,decide_eq_true (by omega),Bool.true_and]at hR;show eA _ Q (cZ _ Q (k+1)) _ _ _ _ _ _ _ _ _;rw[eA,bJ,aF];refine Fq (q:=i-1) (ax s) rfl (by omega) (by omega) (by omega) λw s=>?_;show cond (!cD d[i]! d[i-1]!) _ _;cases hc:cD d[i]! d[i-1]! with
    |false=>
     rw[hc,Bool.not_false,UG]at hR;rw[Bool.not_false,cond_true,aF];exact ih2 (i+1) w (by omega) (by omega) s hR
    |true=>
     rw[hc,Bool.not_true,ot]at hR;exact b7 i w hi (by omega) s hR
  exact⟨_,scan (b-i) i w (by omega) hi s hR⟩
def Yj {Q:Bool->World->Prop}{lo b:Nat}(s:Sep F W w (cU a n c d::L))(hn:n<1000000)(hlo:lo<b)(hb:b<=n)(h:∀w',Sep F W w' (cU a n c (partialInsertionSort cD d lo b).1::L)->Q (partialInsertionSort cD d lo b).2 w'):
  g6 a n c lo b ik w Q:=by
 apply tY;rw[aF];exact⟨_,aoa hn hb hlo h 5 (lo+1) d w (by decide) (by omega) (by omega) rfl s⟩
def aiD {lo b i j:Nat}{d d':Array bg}(h:PermIn lo b d d')(hb:b<=d'.size)(hi:lo<=i/\i<b)(hj:lo<=j/\j<b):PermIn lo b d (swp d' i j):=
 Go.Sort.permIn_trans _ _ _ _ _ h (Go.Sort.swp_permIn _ _ _ _ _ hi.1 hi.2 hj.1 hj.2 hb)
def aeF {Q:World->Prop}{lo b:Nat}(s:Sep F W w (cU a n c d::L))(hn:n<1000000)(hlo:lo<b)(hb:b<=n)(h:∀d' w',PermIn lo b d d'->Sep F W w' (cU a n c d'::L)->Q w'):
  jM a n c lo b ik w Q:=by
 apply yR;rw[aF];have loop:∀(k i j:Nat) (d':Array bg) (w:World),j<=i+k->lo<=i->j<b->i<=b->PermIn lo b d d'->Sep F W w (cU a n c d'::L)->eK Q (k+1) a n c i j w:=by
  intro k;induction k with
  |zero=>
   intro i j d' w hk hi hj hib hp s;show fK Q (eK Q 0) _ _ _ _ _ _;unfold fK;grind
  |succ k ih=>
   intro i j d' w hk hi hj hib hp s;have hsz:=fU s;show fK Q (eK Q (k+1)) _ _ _ _ _ _;unfold fK;by_cases hij:i<j
   ·rw[bJ,aF,aF];refine CU (ax s) rfl (by omega) rfl (by omega) λw s=>?_;rw[show(j:Int)-1=((j-1:Nat):Int) by omega];exact ih (i+1) (j-1) _ w (by omega) (by omega) (by omega) (by omega) (aiD hp (by omega) (by omega) (by omega)) s
   grind
 have:=loop b lo (b-1) d w (by omega) (Nat.le_refl _) (by omega) (by omega) (Go.Sort.permIn_refl _ _ _) s;grind
def Ks {Q:Int->Int->World->Prop}{i j sp:Nat}{k:Int}{t:TypeId}(s:Sep F W w (cU a n c d::av sp t [ae k]::L))(hi:i<n)(hj:j<n)
  (h:∀(x y:Nat) k' w',(x=i/\y=j\/x=j/\y=i)->Sep F W w' (cU a n c d::av sp t [ae k']::L)->Q x y w'):gA a n c i j (sZ sp) ik w Q:=by
 apply B8;have hsz:=fU s;refine Fq (ax s) rfl (by omega) rfl (by omega) λw s=>?_;cases hc:decide (agb d[j]! d[i]! <0)with
 |true=>
  rw[cond_true];refine ah (lI s 1 rfl (ah ?_));refine sT s 1 rfl λw s=>?_;grind
 |false=>
  grind
def UH {Q:Int->World->Prop}{i j l sp:Nat}{k:Int}{t:TypeId}(s:Sep F W w (cU a n c d::av sp t [ae k]::L))(hi:i<n)(hj:j<n)(hl:l<n)
  (h:∀(x:Nat) k' w',(x=i\/x=j\/x=l)->Sep F W w' (cU a n c d::av sp t [ae k']::L)->Q x w'):jg a n c i j l (sZ sp) ik w Q:=by
 apply B9;refine Ks s hi hj λx y k w e s=>?_;refine Ks s (show y<n by omega) hl λx' y' k w e' s=>?_;refine Ks s (show x<n by omega) (show x'<n by omega) λx2 y2 k w e2 s=>?_;grind
def Fs {Q:Int->World->Prop}{i sp:Nat}{k:Int}{t:TypeId}(s:Sep F W w (cU a n c d::av sp t [ae k]::L))(hn:n<1000000)(hi:1<=i/\i+1<n)
  (h:∀(x:Nat) k' w',(i<=x+1/\x<=i+1)->Sep F W w' (cU a n c d::av sp t [ae k']::L)->Q x w'):eX a n c i (sZ sp) ik w Q:=by
 apply xw;rw[aF,aF,show(i:Int)-1=((i-1:Nat):Int) by omega,show(i:Int)+1=((i+1:Nat):Int) by omega];exact UH s (by omega) (by omega) (by omega) λx k w e s=>h x k w (by omega) s
def Ww {Q:Int->Int->World->Prop}{lo b:Nat}(s:Sep F W w (cU a n c d::L))(hn:n<1000000)(hlo:lo<b)(hb:b<=n)
  (h:∀(x:Nat) (hint:Int) w',lo<=x/\x<b->Sep F W w' (cU a n c d::L)->Q x hint w'):j6 a n c lo b ik w Q:=by
 apply zv;refine aY s λsp w s=>⟨by decide,by decide,by decide,?_⟩;have s:=jm s;have b12:∀(x:Nat) (k:Int) (w:World),lo<=x/\x<b->Sep F W w (cU a n c d::av sp 3 [ae k]::L)->g8 Q (aZ sp) x w:=λx k w hx s=>by apply lI s 1 rfl;have s':Sep F W w (cU a n c d::L):=gH s (List.Sublist.cons_cons _ (List.sublist_cons_self _ _));grind
 have b11:∀(i j l:Nat) (k:Int) (w:World),lo<=i/\i<b->lo<=j/\j<b->lo<=l/\l<b->Sep F W w (cU a n c d::av sp 3 [ae k]::L)->g9 Q a n c ik (aZ sp) i j l w:=λi j l k w hi hj hl s=>by exact UH s (by omega) (by omega) (by omega) λx k w e s=>b12 x k w (by omega) s
 rw[aF,Int.tdiv_eq_ediv_of_nonneg (by omega),aF (n:=((b:Int)-lo)/4),
  aF (n:=((b:Int)-lo)/4*1),aF (n:=((b:Int)-lo)/4*2),aF (n:=((b:Int)-lo)/4*3),
  aF,aF,aF]
 have e1:(lo:Int)+((b:Int)-lo)/4*1=((lo+(b-lo)/4*1:Nat):Int):=by omega
 have e2:(lo:Int)+((b:Int)-lo)/4*2=((lo+(b-lo)/4*2:Nat):Int):=by omega
 have e3:(lo:Int)+((b:Int)-lo)/4*3=((lo+(b-lo)/4*3:Nat):Int):=by omega
 rw[e1,e2,e3];by_cases h8:b-lo≥8
 ·rw[bJ (show(b:Int)-lo≥8 by omega)];by_cases h50:b-lo≥50
  ·rw[bJ (show(b:Int)-lo≥50 by omega)];refine Fs s hn (by omega) λx k w e s=>?_;refine Fs s hn (by omega) λy k w e' s=>?_;refine Fs s hn (by omega) λz k w e2 s=>?_;grind
  ·rw[bp (show¬(b:Int)-lo≥50 by omega)];exact b11 _ _ _ _ w (by omega) (by omega) (by omega) s
 ·rw[bp (show¬(b:Int)-lo≥8 by omega)];exact b12 _ _ w (by omega) s
end
end Go.Proofs.YtmegplnmiepfbaaGreatDoor.S
namespace Go.Proofs.YtmegplnmiepfbaaGreatDoor.S
open Go.Sx
open Go.Sort (swp PermIn SortedIn Below)
attribute [local irreducible] af cq bq bf aB bY bT St Bx Al App cu cg b_ bR aK bw aq bP av aj aU mapA
section
variable {F:Nat->Prop}{W w w0:World}{L:List As}{a:Option Addr}{n c:Nat}{d:Array bg}
def ajG (T:ByteArray):Bool:=(List.range 256).all λx=>decide (0<=sb T x/\sb T x<=8/\(x:Int)<2^(sb T x).toNat/\(1<=x->(2:Int)^(sb T x).toNat<=2*x))
def avs:∃T:ByteArray,T.size=256/\ajG T=true/\∀Q x k w,tE Q x k w=(aH (IntKind.wrap .u8 x) T.size<|Q (IntKind.wrap .i64 (k+IntKind.wrap .i64 (sb T (IntKind.wrap .u8 x).toNat))) w):=by
 refine⟨_,?_,?_,λ_ _ _ _=>rfl⟩
 ·kernel_rfl
 ·kernel_rfl
def aiE {T:ByteArray}(h2:ajG T=true){x:Nat}(hx:x<256):0<=sb T x/\sb T x<=8/\(x:Int)<2^(sb T x).toNat/\(1<=x->(2:Int)^(sb T x).toNat<=2*x):=by unfold ajG at h2;grind
def O5 {x:Nat}{Q:Int->World->Prop}(hx:x<65536)(h:∀v:Nat,v<=16->(x:Int)<2^v->(8<=x->(2:Int)^v<=2*x)->Q v w):uQ x w Q:=by
 apply SL;apply Oo;unfold uV uU;rw[bp,bp];obtain⟨T,h1,h2,h3⟩:=avs;by_cases hs:x<256
 ·rw[bp,h3,h1,wrap_u8' x,Int.emod_eq_of_lt (by omega) (by omega)];refine⟨by omega,by omega,?_⟩;obtain⟨a1,a2,a3,a4⟩:=aiE h2 hs;rw[Int.toNat_natCast,aF (n:=sb T x),aF,Int.zero_add];grind
 ·rw[bJ];refine⟨by decide,?_⟩;have e:oG .u64 (x:Int) 8=((x/256:Nat):Int):=by rw[oG,show(2:Int)^(min (8:Int).toNat (IntKind.u64).bits)=256 from rfl,Int.fdiv_eq_ediv_of_nonneg _ (by decide)];omega
  rw[e,wrap_i64 (by decide) (by decide),h3,h1,wrap_u8' ((x/256:Nat):Int),Int.emod_eq_of_lt (by omega) (by omega)];refine⟨by omega,by omega,?_⟩;obtain⟨a1,a2,a3,a4⟩:=aiE h2 (x:=x/256) (by omega);rw[Int.toNat_natCast,aF (n:=sb T (x/256)),aF];have e2:(2:Int)^(8+(sb T (x/256)).toNat)=256*2^(sb T (x/256)).toNat:=by grind
  grind
def ar5 {x m:Int}(hm:0<=m/\m<1000000):0<=AU .u64 x m/\AU .u64 x m<=m:=by
 unfold AU;have h1:(BitVec.ofInt 64 x&&&BitVec.ofInt 64 m).toNat<=m.toNat:=by apply Nat.le_trans Nat.and_le_right;grind
 have h1:(BitVec.ofInt (IntKind.u64).bits x&&&BitVec.ofInt (IntKind.u64).bits m).toNat<=m.toNat:=h1;rw[jT (by omega)];omega
def abZ {Q:Int->World->Prop}{sp:Nat}{k:Int}{t:TypeId}(s:Sep F W w (cU a n c d::av sp t [.int .u64 k]::L))
  (h:∀r k' w',Sep F W w' (cU a n c d::av sp t [.int .u64 k']::L)->Q r w'):rY (sZ sp) w Q:=by
 apply Iv;refine ah (lI s 1 rfl (ah (lI s 1 rfl ⟨by decide,ah ?_⟩)));refine sT s 1 rfl λw s=>?_;refine ah (lI s 1 rfl (ah (lI s 1 rfl ⟨by decide,ah ?_⟩)));refine sT s 1 rfl λw s=>?_;refine ah (lI s 1 rfl (ah (lI s 1 rfl ⟨by decide,ah ?_⟩)));refine sT s 1 rfl λw s=>?_;refine ah (lI s 1 rfl ?_);grind
def agn {Q:World->Prop}{lo b:Nat}(s:Sep F W w (cU a n c d::L))(hn:n<2000)(hlo:lo<b)(hb:b<=n)(h:∀d' w',PermIn lo b d d'->Sep F W w' (cU a n c d'::L)->Q w'):
  jv a n c lo b ik w Q:=by
 apply yp;rw[aF];by_cases h8:b-lo≥8
 ·rw[bJ (show(b:Int)-lo≥8 by omega)];refine aY s λsp w s=>?_;refine az s (i:=0) rfl rfl rfl λw s=>?_;have s:=jm s;apply HD;rw[jT (by omega),show(b:Int)-lo=((b-lo:Nat):Int) by omega];refine O5 (by omega) λv hv h1 h2=>⟨by omega,by decide,?_⟩;have h2:=h2 h8;have hsh:AV .u64 1 (v:Int)=(2:Int)^v:=by rw[AV,Int.toNat_natCast,Int.one_mul,show min v (IntKind.u64).bits=v by simp[IntKind.bits];omega];exact jT (by omega)
  rw[hsh];generalize (2:Int)^v=M at h1 h2;rw[Int.tdiv_eq_ediv_of_nonneg (by omega),aF (n:=((b-lo:Nat):Int)/4),aF (n:=((b-lo:Nat):Int)/4*2),aF (n:=(lo:Int)+((b-lo:Nat):Int)/4*2),
   aF]
  have loop:∀(k idx:Nat) (d':Array bg) (r:Int) (t:TypeId) (w:World),idx+k=lo+(b-lo)/4*2+2->lo<=idx->PermIn lo b d d'->Sep F W w (cU a n c d'::av sp t [.int .u64 r]::L)->
    dh Q (k+1) a n c lo ((b-lo:Nat):Int) (aZ sp) M idx w:=by
   intro k;induction k with
   |zero=>
    intro idx d' r t w hk hi hp s;show j7 Q (dh Q 0) _ _ _ _ _ _ _ _ _;refine⟨by decide,?_⟩;rw[Int.tdiv_eq_ediv_of_nonneg (by omega),aF (n:=((b-lo:Nat):Int)/4),aF (n:=((b-lo:Nat):Int)/4*2),aF (n:=(lo:Int)+((b-lo:Nat):Int)/4*2),
     aF,bp]
    exact h d' w hp (gH s (List.Sublist.cons_cons _ (List.sublist_cons_self _ _)))
   |succ k ih=>
    intro idx d' r t w hk hi hp s;show j7 Q (dh Q (k+1)) _ _ _ _ _ _ _ _ _;refine⟨by decide,?_⟩;rw[Int.tdiv_eq_ediv_of_nonneg (by omega),aF (n:=((b-lo:Nat):Int)/4),aF (n:=((b-lo:Nat):Int)/4*2),aF (n:=(lo:Int)+((b-lo:Nat):Int)/4*2),
     aF,bJ]
    refine abZ s λrr r w s=>?_;have hsz:=fU s;have b10:∀(o:Nat) (w:World),o<b-lo->Sep F W w (cU a n c d'::av sp t [.int .u64 r]::L)->ff (dh Q (k+1)) Q a n c lo ((b-lo:Nat):Int) (aZ sp) M idx o w:=λo w ho s=>by rw[ff,aF,aF];refine CU (q:=lo+o) (ax s) rfl (by omega) (by omega) (by omega) λw s=>?_;exact ih (idx+1) _ r t w (by omega) (by omega) (aiD hp (by omega) (by omega) (by omega)) s
    rw[jT (by omega)];have ha:=ar5 (x:=rr) (m:=M-1) (by omega);generalize AU .u64 rr (M-1)=q at ha;rw[aF];by_cases hq:q≥((b-lo:Nat):Int)
    ·rw[bJ hq,aF];have:=b10 (q-((b-lo:Nat):Int)).toNat w (by omega) s;grind
    ·have:=b10 q.toNat w (by omega) s;grind
  have:=loop 3 (lo+(b-lo)/4*2-1) d _ _ w (by omega) (by omega) (Go.Sort.permIn_refl _ _ _) s;grind
 ·rw[bp (show¬(b:Int)-lo≥8 by omega)];exact h d w (Go.Sort.permIn_refl _ _ _) s
end
end Go.Proofs.YtmegplnmiepfbaaGreatDoor.S
namespace Go.Proofs.YtmegplnmiepfbaaGreatDoor.S
open Go.Sx
def ar6 (P:Program)(t:TypeId)(xs ys:Array Value):Option Bool:=match P.underlying t with
 |some (.struct fs)=>afp P xs ys fs.toList
 |_=>none
def alP {P:Program}{t:TypeId}{xs ys:Array Value}{x y:Operand}{r:Bool}{w:World}{K:Bool->World->Prop}(hp:P.stoodInHeld t=false)(hg:P.eqGuardType P.depth t=false)(hr:ar6 P t xs ys=some r)(h:K r w):bR P .eql t x y (.agg xs) (.agg ys) w K:=by
 unfold ar6 at hr;split at hr
 ·rename_i fs hu;exact arF hu hp hg hr h
 ·cases hr
def eq3 {a b c a' b' c':Int}:(a==a'&&(b==b'&&(c==c'&&true)))=decide (a=a'/\b=b'/\c=c'):=by grind
def aqG {a b:bg}:(a.c=b.c/\a.s=b.s/\a.k=b.k)↔a=b:=by obtain⟨a1,a2,a3⟩:=a;obtain⟨b1,b2,b3⟩:=b;simp
attribute [local irreducible] bR
def alQ {w:World}{x y:Operand}{a b:bg}{K:Bool->World->Prop}(h:K (decide (a=b)) w):bR P .eql 294 x y (.agg #[ae a.c,ae a.s,ae a.k]) (.agg #[ae b.c,ae b.s,ae b.k]) w K:=by apply alP (r:=a.c==b.c&&(a.s==b.s&&(a.k==b.k&&true))) (by kernel_rfl) (by kernel_rfl) (by kernel_rfl);rw[eq3];simp[aqG];exact h
def ar7 {w:World}{x y:Operand}{a b:bg}{K:Bool->World->Prop}(h:K (!decide (a=b)) w):bR P .neq 294 x y (.agg #[ae a.c,ae a.s,ae a.k]) (.agg #[ae b.c,ae b.s,ae b.k]) w K:=
 ain (by kernel_rfl) (alQ h)
end Go.Proofs.YtmegplnmiepfbaaGreatDoor.S
namespace Go.Proofs.YtmegplnmiepfbaaGreatDoor.S
open Go.Sx
open Go.Sort (swp PermIn SortedIn Below)
attribute [local irreducible] af cq bq bf aB bY bT St Bx Al App cu cg b_ bR aK bw aq bP av aj aU mapA
section
variable {F:Nat->Prop}{W w w0:World}{L:List As}{a:Option Addr}{n c:Nat}{d:Array bg}
def ago (lo b:Nat)(d d':Array bg):Prop:=PermIn lo b d d'/\SortedIn cD lo b d'
def aob (hn:n<2000):∀(N:Nat) (lo b:Nat) (limit:Int) (wb wp:Bool) (d:Array bg) (w:World) (Q:World->Prop) (f:Nat),b-lo<=N->N<f->lo<=b->b<=n->Below cD lo b d->0<=limit/\limit<1000->Sep F W w (cU a n c d::L)->
   (∀d' w',ago lo b d d'->Sep F W w' (cU a n c d'::L)->Q w')->cw Q f a n c lo b limit ik wb wp w:=by
 intro N;induction N with
 |zero=>
  intro lo b limit wb wp d w Q f h1 hf h2 h3 hB zC s h;obtain⟨f,rfl⟩:∃g,f=g+1:=⟨f-1,by omega⟩;show gN Q (cw Q f) _ _ _ _ _ _ _ _ _ _;unfold gN;have hsz:=fU s;rw[aF,bJ];refine F_ s (by omega) h2 h3 λw s=>h _ w ?_ s;exact Go.Sort.insertionSort_holds Er d lo b h2 (by omega)
 |succ N ih=>
  have call:∀(lo b:Nat) (limit:Int) (d:Array bg) (w:World) (Q:World->Prop),b-lo<=N->lo<=b->b<=n->Below cD lo b d->0<=limit/\limit<1000->Sep F W w (cU a n c d::L)->
    (∀d' w',ago lo b d d'->Sep F W w' (cU a n c d'::L)->Q w')->eY a n c lo b limit ik w Q:=λlo b limit d w Q h1 h2 h3 h4 h5 s h=>by
   apply qY;exact⟨N+1,ih lo b limit true true d w Q (N+1) h1 (Nat.lt_succ_self N) h2 h3 h4 h5 s h⟩
  intro lo b limit wb wp d w Q f h1 hf h2 h3 hB zC s h;obtain⟨f,rfl⟩:∃g,f=g+1:=⟨f-1,by omega⟩;show gN Q (cw Q f) _ _ _ _ _ _ _ _ _ _;unfold gN;have hsz:=fU s;rw[aF];by_cases h12:b-lo<=12
  ·rw[bJ];refine F_ s (by omega) h2 h3 λw s=>h _ w ?_ s;exact Go.Sort.insertionSort_holds Er d lo b h2 (by omega)
  rw[bp];by_cases hl0:limit=0
  ·rw[dK hl0,cond_true];refine abY s (by omega) (by omega) h3 λw s=>h _ w ?_ s;exact Go.Sort.heapSort_holds Er d lo b h2 (by omega)
  rw[cJ hl0,cond_false];have via:∀{d1 d':Array bg},PermIn lo b d d1->ago lo b d1 d'->ago lo b d d':=λh1 h2=>⟨Go.Sort.permIn_trans _ _ _ _ _ h1 h2.1,h2.2⟩;have b20:∀(limit:Int) (pv:Nat) (d1:Array bg) (w:World),0<=limit/\limit<1000->lo<=pv/\pv<b->PermIn lo b d d1->Sep F W w (cU a n c d1::L)->
    jh (cw Q f) Q a n c lo b limit ik ((b:Int)-lo) pv w:=λlimit pv d1 w zC hp hP s=>by
   have ar9:=fU s;rcases hx:Go.Sort.partition cD d1 lo b pv with⟨mid,ap,d4⟩;obtain⟨p1,p2,p3,p4,p5,p6,p7⟩:=Go.Sort.round_part Er (Go.Sort.partition_holds cD) hp.1 hp.2 (by omega) (Go.Sort.Below.perm hB (by omega) hP) hx;refine Z5 s (by omega) hp h3 λw s=>⟨by decide,?_⟩;rw[hx]at s⊢;rw[aF,aF,aF];by_cases hm:(mid:Int)-lo<b-mid
   ·rw[bJ hm];refine call lo mid limit d4 w _ (by omega) (by omega) (by omega) p4 zC s λd5 w hS s=>?_;obtain⟨q1,q2⟩:=p6 d5 hS.1 hS.2;exact ih (mid+1) b limit _ _ d5 w Q f (by omega) (by omega) (by omega) h3 q1 zC s λd6 w hS2 s=>h d6 w (via hP (q2 d6 hS2.1 hS2.2)) s
   ·rw[bp hm];refine call (mid+1) b limit d4 w _ (by omega) (by omega) (by omega) p5 zC s λd5 w hS s=>?_;obtain⟨q1,q2⟩:=p7 d5 hS.1 hS.2;exact ih lo mid limit _ _ d5 w Q f (by omega) (by omega) (by omega) (by omega) q1 zC s λd6 w hS2 s=>h d6 w (via hP (q2 d6 hS2.1 hS2.2)) s
  have WX:∀(limit:Int) (pv:Nat) (d1:Array bg) (w:World),0<=limit/\limit<1000->lo<=pv/\pv<b->PermIn lo b d d1->Sep F W w (cU a n c d1::L)->
    eJ (cw Q f) Q a n c lo b limit ik wb wp ((b:Int)-lo) pv w:=λlimit pv d1 w zC hp hP s=>by
   have ar9:=fU s;unfold eJ;by_cases h0:lo>0
   ·rw[bJ,aF];refine Fq (p:=lo-1) (ax s) (by omega) (by omega) rfl (by omega) λw s=>?_;show cond (!cD d1[lo-1]! d1[pv]!) _ _;cases hc:cD d1[lo-1]! d1[pv]! with
    |false=>
     rcases hx:Go.Sort.partitionEqual cD d1 lo b pv with⟨mid,d4⟩;obtain⟨p1,p2,p3,p4,p5⟩:=Go.Sort.round_eq Er (Go.Sort.partitionEqual_holds cD) h0 hp.1 hp.2 (by omega) (Go.Sort.Below.perm hB (by omega) hP) hc hx;refine QY s (by omega) hp h3 λw s=>?_;rw[hx]at s⊢;exact ih mid b limit _ _ _ w Q f (by omega) (by omega) p2 h3 p4 zC s λd6 w hS2 s=>h d6 w (via hP (p5 d6 hS2.1 hS2.2)) s
    |true=>
     exact b20 limit pv d1 w zC hp hP s
   ·rw[bp];exact b20 limit pv d1 _ zC hp hP (ax s)
  have b15:∀(limit:Int) (pv:Nat) (hint:Int) (d1:Array bg) (w:World),0<=limit/\limit<1000->lo<=pv/\pv<b->PermIn lo b d d1->Sep F W w (cU a n c d1::L)->
    gF (cw Q f) Q a n c lo b limit ik wb wp ((b:Int)-lo) pv hint w:=λlimit pv hint d1 w zC hp hP s=>by
   have ar9:=fU s;unfold gF;cases hwb:wb with
   |false=>rw[cond_false];rw[hwb]at WX;exact WX limit pv d1 w zC hp hP s
   |true=>
    cases hwp:wp with
    |false=>rw[cond_false];rw[hwb,hwp]at WX;exact WX limit pv d1 w zC hp hP s
    |true=>
     rw[hwb,hwp]at WX;cases hint==1 with
     |false=>rw[cond_false];exact WX limit pv d1 w zC hp hP s
     |true=>
      have hpi:=Go.Sort.partialInsertionSort_holds Er d1 lo b (by omega) (by omega) (Go.Sort.Below.perm hB (by omega) hP);refine Yj s (by omega) (by omega) h3 λw s=>?_;cases hr:(Go.Sort.partialInsertionSort cD d1 lo b).2 with
      |true=>
       exact h _ w (via hP ⟨hpi.1,hpi.2 hr⟩) s
      |false=>
       exact WX limit pv _ w zC hp (Go.Sort.permIn_trans _ _ _ _ _ hP hpi.1) s
  have b10:∀(limit:Int) (d1:Array bg) (w:World),0<=limit/\limit<1000->PermIn lo b d d1->Sep F W w (cU a n c d1::L)->
    ji (cw Q f) Q a n c lo b limit ik wb wp ((b:Int)-lo) w:=λlimit d1 w zC hP s=>by
   refine Ww s (by omega) (by omega) h3 λpv hint w hp s=>?_;cases hint==2 with
   |true=>
    refine aeF s (by omega) (by omega) h3 λd2 w hP2 s=>?_;rw[aF (n:=(b:Int)-1),aF (n:=(pv:Int)-lo),aF,show(b:Int)-1-(pv-lo)=((b-1-(pv-lo):Nat):Int) by omega];exact b15 limit _ 1 d2 w zC (by omega) (Go.Sort.permIn_trans _ _ _ _ _ hP hP2) s
   |false=>
    exact b15 limit pv hint d1 w zC hp hP s
  cases wb with
  |false=>
   refine agn s hn (by omega) h3 λd1 w hP s=>?_;rw[aF];exact b10 (limit-1) d1 w (by omega) hP s
  |true=>
   exact b10 limit d w zC (Go.Sort.permIn_refl _ _ _) s
def alR (hn:n<2000){lo b:Nat}{limit:Int}{Q:World->Prop}(h2:lo<=b)(h3:b<=n)(h4:Below cD lo b d)(h5:0<=limit/\limit<1000)(s:Sep F W w (cU a n c d::L))
  (h:∀d' w',ago lo b d d'->Sep F W w' (cU a n c d'::L)->Q w'):eY a n c lo b limit ik w Q:=by
 apply qY;exact⟨b-lo+1,aob hn (b-lo) lo b limit true true d w Q (b-lo+1) (Nat.le_refl _) (by omega) h2 h3 h4 h5 s h⟩
def ab0 {Q:World->Prop}{xs:List bg}(s:Sep F W w (aj a n c 294 3 (flat fI xs)::L))(hn:n<2000)(h:∀w',Sep F W w' (aj a n c 294 3 (flat fI (Ye xs))::L)->Q w'):
  kA a n c ik w Q:=by
 have s:=s;have hsz:=fU s;apply zX;rw[jT (by omega)];refine O5 (by omega) λv hv _ _=>?_;refine alR hn (Nat.zero_le _) (Nat.le_refl _) (.inl rfl) (by omega) s λd' w hS s=>h w ?_;have:=Go.Sort.sorted_unique_holds Er (λx y h k=>ar0 h k) xs.toArray d' (by rw[hsz];exact hS.1) (by rw[hsz];exact hS.2);unfold Ye;grind
def aeG {Q:Option Addr->Nat->Nat->World->Prop}{xs:List bg}(s:Sep F W w (aj a n c 294 3 (flat fI xs)::L))(hn:n<1000000)(hnd:xs.Nodup)(h:∀w',Sep F W w' (aj a n c 294 3 (flat fI xs)::L)->Q a n c w'):
  kN a n c w Q:=by
 have s:Sep F W w (cU a n c xs.toArray::L):=s;have hsz:=fU s;have hl:xs.length=n:=by grind
 apply Ah;by_cases h2:n<2
 ·grind
 ·rw[bp];have loop:∀(k i:Nat) (w:World),i+k=n->0<i->Sep F W w (cU a n c xs.toArray::L)->e7 Q (k+1) a n c i w:=by
   intro k;induction k with
   |zero=>
    intro i w hi h0 s;show gj Q (e7 Q 0) _ _ _ _ _;unfold gj;grind
   |succ k ih=>
    intro i w hi h0 s;show gj Q (e7 Q (k+1)) _ _ _ _ _;rw[gj,bJ,aF];apply RdS (ax s) rfl (by omega);apply RdS (k:=i-1) (ax s) (by omega) (by omega);have hne:xs.toArray[i]!≠xs.toArray[i-1]!:=λe=>by have e1:=VB (d:=xs.toArray) (k:=i) (by omega);have e2:=VB (d:=xs.toArray) (k:=i-1) (by omega);rw[e,<-e2]at e1;have e1:=e1;have:=(List.getElem?_inj (by omega) hnd).1 e1;omega
    apply alQ;rw[bp hne,aF];exact ih (i+1) _ (by omega) (by omega) (ax s)
  exact⟨n-1+1,loop (n-1) 1 w (by omega) (by omega) s⟩
def alS {xs:List bg}(h:xs.Nodup):(Ye xs).Nodup:=(List.mergeSort_perm xs _).nodup_iff.2 h
def zD {Q:Option Addr->Nat->Nat->World->Prop}{xs:List bg}(s0:Sep F W w L)(hX:Sl w a n c 3 fI xs)(hn:n<2000)(hnd:xs.Nodup)(h:∀ra rc w',Sep F W w' (aj ra n rc 294 3 (flat fI (L6 xs))::L)->Fr No w w'->Q ra n rc w'):
  jZ a n c w Q:=by
 apply XV;refine Uy (bt (F:=No)) hX (by omega) λra rc w1 s _=>?_;refine ab0 s hn λw1 s=>?_;refine aeG s (by omega) (alS hnd) λw1 s=>?_;exact h ra rc w1 (dX s0 s (i:=0) rfl) (au s)
def Yk {Q:Bool->World->Prop}{xs ys:List bg}{b:Option Addr}{m e:Nat}(hX:Sl w a n c 3 fI xs)(hY:Sl w b m e 3 fI ys)(s0:Sep F W w L)(hn:n<1000000)(hm:m<1000000)(h:∀w',Sep F W w' L->Fr No w w'->Q (decide (xs=ys)) w'):
  DL a n c b m e w Q:=by
 apply X3;apply Br;have h1:=hX.len;have h2:=hY.len;have fin:∀(r:Bool) (w':World),r=decide (xs=ys)->Sep No w w' []->Q r w':=λr w' e s=>by subst e;exact h w' (bV s0 (au s)) (au s)
 by_cases hl:n=m
 ·subst hl;have loop:∀(k i:Nat) (w1:World),i+k=n->xs.take i=ys.take i->Sep No w w1 []->fG Q (k+1) a n c b n e n i w1:=by
   intro k;induction k with
   |zero=>
    intro i w1 hi he s;show gO Q (fG Q 0) _ _ _ _ _ _ _ _ _;unfold gO;grind
   |succ k ih=>
    intro i w1 hi he s;show gO Q (fG Q (k+1)) _ _ _ _ _ _ _ _ _;rw[gO,bJ];have s:=ax s;refine(hX.fr (au s)).El rfl (by omega) λp x hx hc=>?_;refine aQ (hc 0 _ rfl) (aQ (hc 1 _ rfl) (aQ (hc 2 _ rfl) ?_));refine(hY.fr (au s)).El rfl (by omega) λp y hy hc=>?_;refine aQ (hc 0 _ rfl) (aQ (hc 1 _ rfl) (aQ (hc 2 _ rfl) ?_));apply ar7;by_cases hxy:x=y
    ·rw[decide_eq_true hxy,Bool.not_true,cond_false,aF];refine ih (i+1) _ (by omega) ?_ s;rw[List.take_add_one,List.take_add_one,hx,hy,he,hxy]
    grind
  rw[bne_self_eq_false,cond_false];exact⟨n+1,loop n 0 w (by omega) (by simp) bt⟩
 ·rw[show((n:Int) !=(m:Int))=true by grind,cond_true];refine fin false _ ?_ bt;grind
end
end Go.Proofs.YtmegplnmiepfbaaGreatDoor.S
namespace Go.Proofs.YtmegplnmiepfbaaGreatDoor.S
open Go.Sx
attribute [local irreducible] af cq bq bf aB bY bT St Bx Al App cu cg b_ bR aK bw aq bP av aj aU mapA
section
variable {W w w0:World}{p rp:Nat}{tw th a:Int}{ca ta da:Option Addr}{cn cc tn tc dn dc:Nat}{cs ds:List Int}{xs todo:List bg}{l:List (Int×Int)}{bs:List Rg.Bk}{N:Nat}
def swc (tw th:Int)(ca:Option Addr)(cn cc rp:Nat)(ta:Option Addr)(tn tc:Nat)(da:Option Addr)(dn dc:Nat):List Value:=
 [ae tw,ae th,.slice ca cn cc,.pointer (sZ rp),.slice ta tn tc,.slice da dn dc]
abbrev CB (p rp:Nat)(tw th:Int)(ca:Option Addr)(cn cc:Nat)(a:Int)(l:List (Int×Int))(bs:List Rg.Bk)(N:Nat)(ta:Option Addr)(tn tc:Nat)(todo:List bg)(da:Option Addr)(dn dc:Nat)(ds:List Int):List As:=
 [av p 363 (swc tw th ca cn cc rp ta tn tc da dn dc),Rg.AG rp a l bs N,aj ta tn tc 294 3 (flat fI todo),aj da dn dc 3 1 (flat one ds)]
def alT {Q:World->Prop}
  (h:∀(l':List (Int×Int)) (N':Nat) (todo':List bg) bs' WR Z7 WS w',BD tw th cs xs a l' N' todo' ds->(∀x∈todo',a+256<=x.k)->l'.length+todo'.length=l.length+todo.length->(l'=[]->l=[]/\todo'=todo)->Sep No w0 w' (CB p rp tw th ca cn cc a l' bs' N' WR Z7 WS todo' da dn dc ds)->Q w')(vi:cs.length<=256)(hxs:xs.length<2000):
  ∀(G5:List bg) (l1:List (Int×Int)) (N1:Nat) (xp:List Rg.Bk) (ta1:Option Addr) (tn1 tc1:Nat) (w:World),BD tw th cs xs a l1 N1 G5 ds->l1.length+G5.length=l.length+todo.length->(l1=[]->l=[]/\G5=todo)->
   Sep No w0 w (CB p rp tw th ca cn cc a l1 xp N1 ta1 tn1 tc1 G5 da dn dc ds)->fX Q (G5.length+1) (sZ p) w:=by
 intro G5;induction G5 with
 |nil=>
  intro l1 N1 xp ta1 tn1 tc1 w I hl he s;show xe Q (fX Q 0) _ _;have OU:=(aL s (i:=2) rfl mT (by decide)).len;refine ah (iG (ax s) (i:=0) rfl rfl rfl ?_);subst OU;exact h l1 N1 [] xp ta1 _ tc1 _ I (by simp) hl he (ax s)
 |cons x G5 ih=>
  intro l1 N1 xp ta1 tn1 tc1 w I hl he s;show xe Q (fX Q (G5.length+1)) _ _;have hX:=aL s (i:=2) rfl mT (by decide);have OU:=hX.len;have UI:=I.fH;simp[List.length_cons]at OU UI;have s:=ax s;refine ah (lS s 0 rfl ?_);rw[bJ];refine ah (lP s 0 rfl (ah (lS s 0 rfl ?_)));refine hX.El (k:=0) rfl (by omega) λq y hy hc=>?_;have hy:x=y:=by grind
  subst hy;refine aQ (hc 2 _ rfl) (ah (lS s 0 rfl ?_));refine hX.El (k:=0) rfl (by omega) λq y hy hc=>?_;have hy:x=y:=by grind
  subst hy;have hc0:=hc 0 _ rfl;refine aQ hc0 ?_;have Yh:=I.top (kc x) (by simp);have QL:=I.low x (by simp);have hk:(kc x).1=x.k:=rfl;refine Rg.O2 s (i:=1) rfl (by omega) (by omega) (λhno=>?_) λhyes w Ga s=>?_
  ·refine h l1 N1 (x::G5) xp ta1 tn1 tc1 _ I (λy hy=>?_) hl he s;rcases List.mem_cons.1 hy with rfl|hy
   ·omega
   ·have:=(List.pairwise_cons.1 I.Mb).1 y hy;omega
  ·rw[cond_true];refine ah (lS s 0 rfl ?_);apply Nx (m:=1) rfl (by omega);refine ah (sT s 0 rfl λw s=>?_);have s:=adX (m:=1) s (i:=2) rfl (by omega);refine ih (l1++[kc x]) (N1+1) Ga _ _ _ w I.take (by simp[List.length_append,List.length_cons,List.length_nil]at hl⊢;omega) (λe=>by simp at e) s
def Z8 {Q:World->Prop}(I:BD tw th cs xs a l N todo ds)(vi:cs.length<=256)(hxs:xs.length<2000)(s:Sep No w0 w (CB p rp tw th ca cn cc a l bs N ta tn tc todo da dn dc ds))
  (h:∀(a':Int) (l':List (Int×Int)) (N':Nat) (todo':List bg) bs' WR Z7 WS w',BD tw th cs xs a' l' N' todo' ds->(∀x∈todo',a'+256<=x.k)->(l'=[]->todo'=[])->l'.length+todo'.length=l.length+todo.length->Sep No w0 w' (CB p rp tw th ca cn cc a' l' bs' N' WR Z7 WS todo' da dn dc ds)->Q w'):
  jw (sZ p) w Q:=by
 apply JV;have hX:=aL s (i:=2) rfl mT (by decide);have OU:=hX.len;refine ah (lS s 0 rfl ?_);have go:∀(a1:Int) (xp:List Rg.Bk) (w:World),BD tw th cs xs a1 l N todo ds->(l=[]->∀x∈todo.head?,a1=x.k)->Sep No w0 w (CB p rp tw th ca cn cc a1 l xp N ta tn tc todo da dn dc ds)->∃k',fX Q k' (sZ p) w:=λa1 xp w I he s=>by
  refine⟨todo.length+1,alT (λl' N' todo' bs' WR Z7 WS w' I' hf hl hn s'=>?_) vi hxs todo l N xp ta tn tc w I rfl (λe=>⟨e,rfl⟩) s⟩;refine h a1 l' N' todo' bs' WR Z7 WS w' I' hf (λe=>?_) hl s';obtain⟨e1,e2⟩:=hn e;cases todo with
  |nil=>exact e2
  |cons y ys=>
   have h1:=he e1 y (by simp);grind
 cases Jx:todo with
 |nil=>
  subst Jx;have OU:=OU;subst OU;exact go a bs w I (λ_ x hx=>by simp at hx) s
 |cons x ys=>
  subst Jx;simp[List.length_cons]at OU;rw[bJ];refine ah (lP s 0 rfl ?_);apply Rg.Ch s (i:=1) rfl;by_cases hl:l=[]
  ·subst hl;rw[dK (show((([]:List (Int×Int)).length:Nat):Int)=0 from rfl),cond_true];have s:=ax s;refine ah (lP s 0 rfl (ah (lS s 0 rfl ?_)));refine hX.El (k:=0) rfl (by omega) λq y hy hc=>?_;have hy:x=y:=by grind
   subst hy;refine aQ (hc 2 _ rfl) ?_;have Yh:=I.top (kc x) (by simp);have hk:(kc x).1=x.k:=rfl;refine Rg.Z0 s (i:=1) rfl (λhno=>?_) λ_ w Ga s=>?_
   ·exact(hno ⟨rfl,I.low x (by simp),by omega⟩).elim
   ·exact go x.k Ga w I.jump (λ_ y hy=>by grind) s
  ·rw[cJ (by simp_all),cond_false];grind
def ahV {Q:World->Prop}{x key:Int}(hC:Sl w0 ca cn cc 1 bA cs)(hx:0<=x/\x<cs.length)(hds:ds.length=cs.length)(hk:a<=key/\key<a+256/\key<1000000000000)(hN:N+1<1000000)
  (s:Sep No w0 w (CB p rp tw th ca cn cc a l bs N ta tn tc todo da dn dc ds))
  (h:∀bs' w',Sep No w0 w' (CB p rp tw th ca cn cc a (l++if gi cs x.toNat≠255/\gi ds x.toNat=bW then[(key,x)]else[]) bs' (N+(if gi cs x.toNat≠255/\gi ds x.toNat=bW then[(key,x)]else[]).length) ta tn tc todo da dn dc ds)->Q w'):
  gT (sZ p) x key w Q:=by
 apply I4;have hD:=aL s (i:=3) rfl cj (by decide);have hcn:=hC.len;have hdn:=hD.len;have skip:¬(gi cs x.toNat≠255/\gi ds x.toNat=bW)->Q w:=λhn=>by apply h bs w;grind
 refine ah (lS s 0 rfl ?_);apply(hC.fr (au s)).Co (k:=x.toNat) (by omega) (by omega);by_cases h1:gi cs x.toNat=255
 ·grind
 ·rw[show(gi cs x.toNat !=255)=true by grind,cond_true];refine ah (lS s 0 rfl ?_);apply hD.pC (k:=x.toNat) (by omega) (by omega);by_cases h2:gi ds x.toNat=bW
  ·rw[dK (show gi ds x.toNat=1099511627776 from h2),cond_true];refine ah (lP s 0 rfl ?_);refine Rg.O2 s (i:=1) rfl (by omega) (by omega) (λhno=>(hno ⟨hk.1,hk.2.1⟩).elim) λ_ w Ga s=>?_;apply h Ga w;grind
  ·rw[cJ (show gi ds x.toNat≠1099511627776 from h2),cond_false];grind
def agp {Q:World->Prop}{x:Int}(hC:Sl w0 ca cn cc 1 bA cs)(hcs:∀x∈cs,1<=x/\x<256)(hw:1<=tw/\tw<=16)(hh:1<=th/\th<=16)(hlen:(cs.length:Int)=tw*th)(hx:0<=x/\x<cs.length)(HO:gi cs x.toNat≠255)(hds:ds.length=cs.length)
  (ha:gi ds x.toNat=a)(hab:0<=a/\a<100000000000)(hN:N+4<1000000)(s:Sep No w0 w (CB p rp tw th ca cn cc a l bs N ta tn tc todo da dn dc ds))
  (h:∀bs' w',Sep No w0 w' (CB p rp tw th ca cn cc a (l++kH tw th cs ds (a+gi cs x.toNat) x 4) bs' (N+(kH tw th cs ds (a+gi cs x.toNat) x 4).length) ta tn tc todo da dn dc ds)->Q w'):
  rX (sZ p) x w Q:=by
 apply Iw;have hD:=aL s (i:=3) rfl cj (by decide);have hcn:=hC.len;have hdn:=hD.len;have hcx:=hcs _ (fy (i:=x.toNat) (by omega));have JB:x<257:=by have:tw*th<=16*16:=Int.mul_le_mul hw.2 hh.2 (by omega) (by decide);omega
 have d0:0<=x/tw:=Int.ediv_nonneg hx.1 (by omega);have d1:x/tw<=x:=Int.ediv_le_self _ hx.1;have s:=ax s;refine ah (lS s 0 rfl ?_);apply hD.drew.pC (k:=x.toNat) (by omega) (by omega);refine ah (lS s 0 rfl ?_);apply(hC.fr (au s)).Co (k:=x.toNat) (by omega) (by omega);have s:=ax s;refine ah (lI s 0 rfl ⟨by omega,ah (lI s 0 rfl ⟨by omega,cN s 0 rfl,?_⟩)⟩);rw[ha,Int.tdiv_eq_ediv_of_nonneg hx.1,Int.tmod_eq_emod_of_nonneg hx.1,aF,aF (n:=gi cs x.toNat),aF];generalize hkey:a+gi cs x.toNat=key at h;have hkr:a<=key/\key<a+256/\key<1000000000000:=by omega
 have one:∀{j:Nat} {xp:List Rg.Bk} {w:World} {K:World->Prop} {y:Int},j<4->0<=bK tw th x j->y=bK tw th x j->Sep No w0 w (CB p rp tw th ca cn cc a (l++kH tw th cs ds key x j) xp (N+(kH tw th cs ds key x j).length) ta tn tc todo da dn dc ds)->
   (∀Ga w',Sep No w0 w' (CB p rp tw th ca cn cc a (l++kH tw th cs ds key x (j+1)) Ga (N+(kH tw th cs ds key x (j+1)).length) ta tn tc todo da dn dc ds)->K w')->gT (sZ p) y key w K:=λ{j xp w K y} hj h0 hy s hK=>by
  subst hy;have hr:=QX hw.1 hh.1 (by grind) h0;have Hj:=UF tw th cs ds key x j;refine ahV hC ⟨h0,by grind⟩ hds hkr (by omega) s λGa w s=>hK Ga w ?_;rw[Z4];unfold Z3;grind
 have none:∀{j:Nat} {xp:List Rg.Bk} {w:World},¬0<=bK tw th x j->Sep No w0 w (CB p rp tw th ca cn cc a (l++kH tw th cs ds key x j) xp (N+(kH tw th cs ds key x j).length) ta tn tc todo da dn dc ds)->
   Sep No w0 w (CB p rp tw th ca cn cc a (l++kH tw th cs ds key x (j+1)) xp (N+(kH tw th cs ds key x (j+1)).length) ta tn tc todo da dn dc ds):=λ{j xp w} h0 s=>by
  rw[Z4];unfold Z3;grind
 have n0:bK tw th x ((0:Nat):Int)=if x/tw>0 then x-tw else-1:=by unfold bK;rw[if_pos (by decide)]
 have n1:bK tw th x ((1:Nat):Int)=if x%tw<tw-1 then x+1 else-1:=by unfold bK;rw[if_neg (by decide),if_pos (by decide)]
 have n2:bK tw th x ((2:Nat):Int)=if x/tw<th-1 then x+tw else-1:=by unfold bK;rw[if_neg (by decide),if_neg (by decide),if_pos (by decide)]
 have n3:bK tw th x ((3:Nat):Int)=if x%tw>0 then x-1 else-1:=by unfold bK;rw[if_neg (by decide),if_neg (by decide),if_neg (by decide),if_pos (by decide)]
 have hxe:x=x/tw*tw+x%tw:=by have:=Int.mul_ediv_add_emod x tw;rw[Int.mul_comm]at this;omega
 have hm0:0<=x%tw:=Int.emod_nonneg _ (by omega);have b8:∀(xp:List Rg.Bk) (w:World),Sep No w0 w (CB p rp tw th ca cn cc a (l++kH tw th cs ds key x 3) xp (N+(kH tw th cs ds key x 3).length) ta tn tc todo da dn dc ds)->lK Q (some ⟨p,0,Option.none⟩) x key (x%tw) w:=λxp w s=>by
  unfold lK;by_cases q:x%tw>0
  ·rw[bJ q,aF];rw[if_pos q]at n3;refine one (by decide) (by rw[n3];have:=Int.mul_nonneg d0 (show 0<=tw by omega);omega) n3.symm s λGa w s=>h Ga w s
  ·rw[bp q];rw[if_neg q]at n3;exact h xp w (none (by rw[n3];decide) s)
 have b6:∀(xp:List Rg.Bk) (w:World),Sep No w0 w (CB p rp tw th ca cn cc a (l++kH tw th cs ds key x 2) xp (N+(kH tw th cs ds key x 2).length) ta tn tc todo da dn dc ds)->oS Q (some ⟨p,0,Option.none⟩) x key (x%tw) (x/tw) w:=λxp w s=>by
  refine ah (lI s 0 rfl ?_);rw[aF];by_cases q:x/tw<th-1
  ·rw[bJ q];refine ah (lI s 0 rfl ?_);rw[aF];rw[if_pos q]at n2;exact one (by decide) (by rw[n2];omega) n2.symm s λGa w s=>b8 Ga w s
  ·rw[bp q];rw[if_neg q]at n2;exact b8 xp w (none (by rw[n2];decide) s)
 have b4:∀(xp:List Rg.Bk) (w:World),Sep No w0 w (CB p rp tw th ca cn cc a (l++kH tw th cs ds key x 1) xp (N+(kH tw th cs ds key x 1).length) ta tn tc todo da dn dc ds)->oT Q (some ⟨p,0,Option.none⟩) x key (x%tw) (x/tw) w:=λxp w s=>by
  refine ah (lI s 0 rfl ?_);rw[aF];by_cases q:x%tw<tw-1
  ·rw[bJ q,aF];rw[if_pos q]at n1;exact one (by decide) (by rw[n1];omega) n1.symm s λGa w s=>b6 Ga w s
  ·rw[bp q];rw[if_neg q]at n1;exact b6 xp w (none (by rw[n1];decide) s)
 have e0:kH tw th cs ds key x 0=[]:=rfl;have s:Sep No w0 w.drew.drew (CB p rp tw th ca cn cc a (l++kH tw th cs ds key x 0) bs (N+(kH tw th cs ds key x 0).length) ta tn tc todo da dn dc ds):=by rw[e0,List.append_nil];exact s
 by_cases q:x/tw>0
 ·rw[bJ q];refine ah (lI s 0 rfl ?_);rw[aF];rw[if_pos q]at n0;refine one (by decide) ?_ n0.symm s λGa w s=>b4 Ga w s;have:=Int.mul_le_mul_of_nonneg_right (show 1<=x/tw by omega) (show 0<=tw by omega);omega
 grind
def aoe {Q:World->Prop}(hC:Sl w0 ca cn cc 1 bA cs)(hcs:∀x∈cs,1<=x/\x<256)(hw:1<=tw/\tw<=16)(hh:1<=th/\th<=16)(hlen:(cs.length:Int)=tw*th)(vi:cs.length<=256)(hxs:xs.length<2000)
  (h:∀a bs N ta tn tc w',Sep No w0 w' (CB p rp tw th ca cn cc a [] bs N ta tn tc [] da dn dc (jd tw th cs xs))->Q w'):
  ∀(f:Nat) (a:Int) (l:List (Int×Int)) (bs:List Rg.Bk) (N:Nat) (ta:Option Addr) (tn tc:Nat) (todo:List bg) (ds:List Int) (w:World),l.length+todo.length+5*Fp ds<=f->0<=a->BD tw th cs xs a l N todo ds->(∀x∈todo,a+256<=x.k)->(l=[]->todo=[])->
   Sep No w0 w (CB p rp tw th ca cn cc a l bs N ta tn tc todo da dn dc ds)->jy Q (f+1) (sZ p) w:=by
 intro f;induction f with
 |zero=>
  intro a l bs N ta tn tc todo ds w hf ha I asa agq s;obtain rfl:l=[]:=List.eq_nil_of_length_eq_zero (by omega);have Jx:=agq rfl;subst Jx;show yq Q (jy Q 0) _ _;refine ah (lP s 0 rfl (Rg.Ch s (i:=1) rfl ?_));apply h a bs N ta tn tc w;rw[<-I.done];exact s
 |succ f ih=>
  intro a l bs N ta tn tc todo ds w hf ha I asa agq s;show yq Q (jy Q (f+1)) _ _;refine ah (lP s 0 rfl (Rg.Ch s (i:=1) rfl ?_));by_cases hl:l=[]
  ·subst hl;have Jx:=agq rfl;subst Jx;apply h a bs N ta tn tc w;rw[<-I.done];exact s
  ·have hl0:=List.length_pos_iff.2 hl;have avt:=Rg.GL s (i:=1) rfl;rw[bJ];refine ah (lP s 0 rfl ?_);refine Rg.abX s (i:=1) rfl (λe=>(hl e).elim) λw k l1 x l2 Ga e atz atA sN=>?_;subst e;have s:=sN;have hin:(k,x)∈(l1++(k,x)::l2)++todo.map kc:=by simp
   have HO:=I.Df _ hin;have Yh:=I.top _ hin;simp[List.length_append,List.length_cons]at Yh hf;have hfit:=avt.fit (k,x) (by simp);have hmin:∀e∈l1++l2,k<=e.1:=λe he=>by
    rcases List.mem_append.1 he with he|he
    ·have:=atz e he;omega
    ·exact atA e he
   have apF:∀y∈todo,k<=y.k:=λy hy=>by have:=asa y hy;omega
   have hD:=aL s (i:=3) rfl cj (by decide);have hdn:=hD.len;have hdl:=I.len;have avu:0<=x/\x<cs.length:=⟨HO.1,HO.2.1⟩;apply ah;apply lS s 0 rfl;apply hD.pC (k:=x.toNat) (by omega) (by omega);have next:∀{l':List (Int×Int)} {N':Nat} {bs':List Rg.Bk} {ds':List Int} {w:World},BD tw th cs xs k l' N' todo ds'->l'.length+todo.length+5*Fp ds'<=f->Sep No w0 w (CB p rp tw th ca cn cc k l' bs' N' ta tn tc todo da dn dc ds')->
     jw (sZ p) w λw'=>jy Q (f+1) (sZ p) w':=λI' hf' s'=>by
    refine Z8 I' vi hxs s' λa' l' N' todo' bs' WR Z7 WS w' I2 ajI ajJ RH s2=>?_;have ajK:=Rg.GL s2 (i:=1) rfl;exact ih a' l' bs' N' WR Z7 WS todo' _ w' (by omega) ajK.nn I2 ajI ajJ s2
   by_cases hd:gi ds x.toNat=bW
   ·rw[dK (show gi ds x.toNat=1099511627776 from hd),cond_true];apply ah;apply lS s 0 rfl;refine zz cj s (i:=3) (k:=x.toNat) (x':=k) rfl (by omega) (by omega) rfl rfl λw s=>?_;have F9:=UE (k:=k) (by unfold bW;omega) (by omega) hd;have UI:=I.fH;have atB:gi (ds.set x.toNat k) x.toNat=k:=by rw[Ts (by omega),if_pos rfl]
    refine agp hC hcs hw hh hlen avu HO.2.2 (by rw[List.length_set];exact hdl) atB ⟨by omega,by omega⟩ (by omega) s λbs' w s=>?_;have Hj:=UF tw th cs (ds.set x.toNat k) (k+gi cs x.toNat) x 4;refine next (I.step hcs hw.1 hh.1 hlen vi hd hmin apF rfl) ?_ s
    simp[List.length_append];omega
   ·rw[cJ (show gi ds x.toNat≠1099511627776 from hd),cond_false];refine next (I.skip ?_ apF) (by simp[List.length_append];omega) s
    have hfx:fD ds x=gi ds x.toNat:=by unfold fD;rw[zP]
    by_cases q:fD ds x<bW
    ·exact q
    ·have:=I.dj.none x q;rw[hfx]at this;exact(hd this).elim
def alW {Q:Option Addr->Nat->Nat->Int->World->Prop}(hC:Sl w0 ca cn cc 1 bA cs)(hcs:∀x∈cs,1<=x/\x<256)(hw:1<=tw/\tw<=16)(hh:1<=th/\th<=16)(hlen:(cs.length:Int)=tw*th)(vi:cs.length<=256)(hxs:xs.length<2000)
  (I:BD tw th cs xs 0 [] 0 todo ds)(s:Sep No w0 w (CB p rp tw th ca cn cc 0 [] bs 0 ta tn tc todo da dn dc ds))
  (h:∀da dc w',Sep No w0 w' [aj da cs.length dc 3 1 (flat one (jd tw th cs xs))]->Q da cs.length dc 0 w'):qy Q (aZ p) w:=by
 apply Ln;refine Z8 I vi hxs s λa' l' N' todo' bs' WR Z7 WS w' I2 ajI ajJ RH s2=>?_;have ajK:=Rg.GL s2 (i:=1) rfl;refine⟨_,aoe hC hcs hw hh hlen vi hxs (λa bs N ta tn tc w s=>?_) _ a' l' bs' N' WR Z7 WS todo' ds w' (Nat.le_refl _) ajK.nn I2 ajI ajJ s2⟩;apply lS s 0 rfl;have hdn:=(aL s (i:=3) rfl cj (by decide)).len;have e:dn=cs.length:=by rw[<-hdn];simp[jd]
 subst e;exact h da dc w (ai (ai (ai s)))
end
section
variable {F:Nat->Prop}{W w w0:World}{L:List As}{tw th:Int}{ca la:Option Addr}{cn cc ln lc:Nat}{cs:List Int}{xs:List bg}
def Yl:(jd tw th cs xs).length=cs.length:=by simp[jd]
def ab1 {b:Nat}{v:Int}(s:Sep F W w (av b 3 [ae v]::L)):Sl w (sZ b) 1 1 1 one [v]:=
 aL (iS s (i:=0) rfl rfl (by decide) (λu hu=>by rw[List.mem_singleton]at hu;rw[hu];rfl)) (i:=0) rfl cj (by decide)
structure rj (tw th:Int) (cs:List Int):Prop where
 w:1<=tw/\tw<=16
 h:1<=th/\th<=16
 len:(cs.length:Int)=tw*th
 jP:∀x∈cs,1<=x/\x<256
def rj.small (h:rj tw th cs):1<=cs.length/\cs.length<=256:=by have h1:=Int.mul_le_mul h.w.2 h.h.2 (by have:=h.h;omega) (by decide);have h2:=Int.mul_le_mul h.w.1 h.h.1 (by decide) (by have:=h.w;omega);have:=h.len;omega
def UJ {Q:Option Addr->Nat->Nat->Int->World->Prop}(s0:Sep F W w L)(hA:Sl w ca cn cc 1 bA cs)(hX:Sl w la ln lc 3 fI xs)(hT:rj tw th cs)(hok:rf tw th cs xs=true)(hnd:xs.Nodup)(pI:ln<2000)
  (h:∀da dc w',Sep F W w' (aj da cs.length dc 3 1 (flat one (jd tw th cs xs))::L)->Fr No w w'->Q da cs.length dc 0 w'):v_ tw th ca cn cc la ln lc w Q:=by
 apply T_;have vi:=hT.small;have hxl:=hX.len;have wE:=hA.len;refine aS (bt (F:=No)) λtb w1 s=>?_;refine lI s 0 rfl (lI s 0 rfl (lS s 0 rfl ?_));refine LZ s (hA.fr (au s)) (hX.fr (au s)) (by omega) λw1 s _=>?_;rw[hok,Bool.not_true,cond_false];have s:=ax s;refine lI s 0 rfl (lI s 0 rfl (lS s 0 rfl (lS s 0 rfl ?_)));have fin:∀{p rp:Nat} {bs:List Rg.Bk} {ta da:Option Addr} {tc dn dc:Nat} {w':World},Sep No w w' (CB p rp tw th ca cn cc 0 [] bs 0 ta ln tc (L6 xs) da dn dc (List.replicate cs.length bW))->qy Q (aZ p) w':=λs=>
  alW hA hT.jP hT.w hT.h hT.len vi.2 (by omega) (alH hok (λx=>an2) an3 ahS) s λda dc w' s'=>h da dc w' (dX s0 s' (i:=0) rfl) (au s')
 have cell:∀{w':World} {L':List As} {i j:Nat} {v:Value},Sep No w w' L'->L'[i]? =some (av tb 84 [ae tw,ae th,.slice ca cn cc])->([ae tw,ae th,.slice ca cn cc]:List Value)[j]? =some v->w'.cell? ((aZ tb).add j)=some v:=λs hi hj=>c9 s (by rw[cf,Nat.zero_add]) hi hj;have e0:((cn:Nat):Int)=((cs.length:Nat):Int):=by omega
 constructor
 ·refine Rg.O3 s (λe=>by omega) λ_ rp w1 bs s=>?_;refine⟨cell s (i:=1) rfl rfl,cell s (i:=1) rfl rfl,cell s (i:=1) rfl rfl,cell s (i:=1) rfl rfl,?_,?_⟩
  ·refine zD s (hX.fr (au s)) pI hnd λra rc w1 s _=>?_;refine⟨cell s (i:=2) rfl rfl,cell s (i:=2) rfl rfl,cell s (i:=2) rfl rfl,cell s (i:=2) rfl rfl,?_⟩;refine aS s λib w1 s=>?_;refine⟨cell s (i:=3) rfl rfl,cell s (i:=3) rfl rfl,cell s (i:=3) rfl rfl,cell s (i:=3) rfl rfl,?_⟩;rw[e0];refine Kf s (ab1 s) (by omega) λda w1 s _=>?_;refine⟨cell s (i:=4) rfl rfl,cell s (i:=4) rfl rfl,cell s (i:=4) rfl rfl,?_⟩;refine aS s λpb w1 s=>?_;exact fin (pk 99 [0,4,3,1] s)
  ·refine aS s λib w1 s=>?_;refine⟨cell s (i:=2) rfl rfl,cell s (i:=2) rfl rfl,cell s (i:=2) rfl rfl,cell s (i:=2) rfl rfl,?_⟩;have hI:=ab1 s;refine zD s (hX.fr (au s)) pI hnd λra rc w1 s f=>?_;refine⟨cell s (i:=3) rfl rfl,cell s (i:=3) rfl rfl,cell s (i:=3) rfl rfl,cell s (i:=3) rfl rfl,?_⟩;rw[e0];refine Kf s (hI.fr f) (by omega) λda w1 s _=>?_;refine⟨cell s (i:=4) rfl rfl,cell s (i:=4) rfl rfl,cell s (i:=4) rfl rfl,?_⟩;refine aS s λpb w1 s=>?_;exact fin (pk 99 [0,4,2,1] s)
 ·refine aS s λib w1 s=>?_;refine⟨cell s (i:=1) rfl rfl,cell s (i:=1) rfl rfl,cell s (i:=1) rfl rfl,cell s (i:=1) rfl rfl,?_⟩;refine Rg.O3 s (λe=>by omega) λ_ rp w1 bs s=>?_;refine⟨cell s (i:=2) rfl rfl,cell s (i:=2) rfl rfl,cell s (i:=2) rfl rfl,cell s (i:=2) rfl rfl,?_⟩;have hI:=ab1 (ai s);refine zD s (hX.fr (au s)) pI hnd λra rc w1 s f=>?_;refine⟨cell s (i:=3) rfl rfl,cell s (i:=3) rfl rfl,cell s (i:=3) rfl rfl,cell s (i:=3) rfl rfl,?_⟩;rw[e0];refine Kf s (hI.fr f) (by omega) λda w1 s _=>?_;refine⟨cell s (i:=4) rfl rfl,cell s (i:=4) rfl rfl,cell s (i:=4) rfl (j:=2) rfl,?_⟩;refine aS s λpb w1 s=>?_;exact fin (pk 99 [0,3,2,1] s)
end
end Go.Proofs.YtmegplnmiepfbaaGreatDoor.S
namespace Go.Proofs.YtmegplnmiepfbaaGreatDoor.S
open Go.Sx
def asd {cs:List Value}{t:TypeId}{w:World}{R:World->Prop}{K:Addr->World->Prop}(h:Bx cs t w K)(hr:R (w.alloc (.cells cs.toArray t))):Bx cs t w λp w1=>R w1/\K p w1:=⟨hr,h⟩
attribute [local irreducible] af cq bq bf aB bY bT St Bx Al App cu cg b_ bR aK bw aq bP av aj aU mapA
section
variable {F:Nat->Prop}{W w w0:World}{L:List As}{p:Nat}{tw th l:Int}{ca la da:Option Addr}{cn cc ln lc dn dc:Nat}{cs ds:List Int}{xs:List bg}
structure VC (w:World) (p:Nat) (tw th:Int) (cs:List Int) (xs:List bg) (ds:List Int):Prop where
 ex:∃ca cn cc la ln lc da dn dc,ri w p [ae tw,ae th,.slice ca cn cc,.slice la ln lc,.slice da dn dc]/\Sl w ca cn cc 1 bA cs/\Sl w la ln lc 3 fI xs/\Sl w da dn dc 1 one ds/\ln<2000
 T:rj tw th cs
 len:ds.length=cs.length
 jP:∀x∈ds,0<=x/\x<=bW
def VC.fr {w':World}(k:VC w p tw th cs xs ds)(f:Fr No w w'):VC w' p tw th cs xs ds:=by obtain⟨ca,cn,cc,la,ln,lc,da,dn,dc,h1,h2,h3,h4,h5⟩:=k.ex;exact⟨⟨ca,cn,cc,la,ln,lc,da,dn,dc,h1.fr f,h2.fr f,h3.fr f,h4.fr f,h5⟩,k.T,k.len,k.jP⟩
def Dr {Q:Bool->World->Prop}{s:Int}(s0:Sep F W w L)(k:VC w p tw th cs xs ds)(hl:0<=l/\l<cs.length)(h:∀w',Sep F W w' L->Fr No w w'->Q (RG tw th cs xs (fD ds) l s) w'):
  mX (sZ p) l s w Q:=by
 apply S0;have hT:=k.T;have vi:=hT.small;have hdl:=k.len;obtain⟨ca,cn,cc,la,ln,lc,da,dn,dc,k1,k2,k3,k4,k5⟩:=k.ex;have hdn:=k4.len;have hcn:=k2.len;refine ZW (bt (F:=No)) k1 hT.w hT.h ⟨hl.1,by omega⟩ λw1 s1 f1=>?_;unfold RG at h;have hfl:fD ds l=gi ds l.toNat:=by unfold fD;omega
 by_cases hn:bK tw th l s<0
 ·rw[bJ hn];rw[if_pos hn,hfl]at h;have k1:=(k1.fr f1).fr (w':=w1.drew) Fr.refl;have k4:=(k4.fr f1).drew;refine ah (dy (k1 3 _ rfl) (ah (dy (k1 4 _ rfl) ?_)));refine Sl.El k4 (k:=l.toNat) (by omega) (by omega) λq x hx hc=>?_;rw[gM (by omega)]at hx;cases hx;have hc0:=hc 0 _ rfl;apply aQ hc0;refine Kk (ax s1) ((k3.fr f1).drew) (by omega) λw2 s2 f2=>?_;exact⟨Fr.cell f2 hc0 id,(k1.fr f2) 4 _ rfl,h _ (bV s0 (au s2)) (au s2)⟩
 ·rw[bp hn];rw[if_neg hn,hfl]at h;have hr:=QX hT.w.1 hT.h.1 (by rw[<-hT.len];exact hl) (show 0<=bK tw th l s by omega);have hnl:bK tw th l s<cs.length:=by rw[hT.len];exact hr.1
  have hfn:fD ds (bK tw th l s)=gi ds (bK tw th l s).toNat:=by unfold fD;omega
  rw[hfn]at h;have k1:=(k1.fr f1).fr (w':=w1.drew) Fr.refl;have k2:=(k2.fr f1).drew;have k4:=(k4.fr f1).drew;have s1:=ax s1;have WY:=hT.jP _ (fy (i:=(bK tw th l s).toNat) (by omega));have hd1:=k.jP _ (fy (i:=(bK tw th l s).toNat) (by omega));refine ah (dy (k1 2 _ rfl) ?_);apply k2.Co (k:=(bK tw th l s).toNat) (by omega) (by omega);have h:=h _ (bV s0 (au s1)) (au s1);by_cases h1:gi cs (bK tw th l s).toNat=255
  ·grind
  ·have e:(gi cs (bK tw th l s).toNat !=255)=true:=by grind
   rw[e,Bool.true_and]at h;rw[e,cond_true];refine ah (dy (k1 2 _ rfl) ?_);apply k2.Co (k:=(bK tw th l s).toNat) (by omega) (by omega);refine ah (dy (k1 4 _ rfl) ?_);apply k4.pC (k:=(bK tw th l s).toNat) (by omega) (by omega);refine ah (dy (k1 4 _ rfl) ?_);apply k4.pC (k:=l.toNat) (by omega) (by omega);unfold bW at hd1;rw[aF (n:=gi cs (bK tw th l s).toNat),aF];exact h
def ab2 {Q:Int->World->Prop}(s0:Sep F W w L)(k:VC w p tw th cs xs ds)(hl:0<=l/\l<cs.length)(h:∀w',Sep F W w' L->Fr No w w'->Q (Yd tw th cs xs (fD ds) l) w'):
  zk (sZ p) l w Q:=by
 apply QA;have hdl:=k.len;have hfl:fD ds l=gi ds l.toNat:=by unfold fD;omega
 obtain⟨ca,cn,cc,la,ln,lc,da,dn,dc,k1,k2,k3,k4,k5⟩:=k.ex;have hdn:=k4.len;refine ah (dy (k1 4 _ rfl) ?_);apply k4.pC (k:=l.toNat) (by omega) (by omega);unfold Yd at h;rw[hfl]at h;by_cases hI:gi ds l.toNat=bW
 ·rw[if_pos hI]at h;rw[dK (show gi ds l.toNat=1099511627776 from hI),cond_true];exact h w s0 Fr.refl
 rw[if_neg hI]at h;rw[cJ (show gi ds l.toNat≠1099511627776 from hI),cond_false];refine ah (dy (k1 3 _ rfl) ?_);refine Kk (bt (F:=No)) k3 (by omega) λw1 s1 f1=>?_;by_cases hB:G1 xs l 4=gi ds l.toNat
 ·rw[if_pos hB]at h;rw[dK hB.symm,cond_true];exact h w1 (bV s0 f1) f1
 rw[if_neg hB]at h;rw[cJ (λe=>hB e.symm),cond_false];apply M5;unfold tH rJ rI;refine Dr s1 (k.fr f1) hl λw1 s1 _=>?_;cases h0:RG tw th cs xs (fD ds) l 0 with
 |true=>rw[h0,if_pos rfl]at h;rw[cond_true];exact h w1 (bV s0 (au s1)) (au s1)
 |false=>
  rw[h0,if_neg (by decide)]at h;refine Dr s1 (k.fr (au s1)) hl λw1 s1 _=>?_;cases h0:RG tw th cs xs (fD ds) l 1 with
  |true=>rw[h0,if_pos rfl]at h;rw[cond_true];exact h w1 (bV s0 (au s1)) (au s1)
  |false=>
   rw[h0,if_neg (by decide)]at h;refine Dr s1 (k.fr (au s1)) hl λw1 s1 _=>?_;cases h0:RG tw th cs xs (fD ds) l 2 with
   |true=>rw[h0,if_pos rfl]at h;rw[cond_true];exact h w1 (bV s0 (au s1)) (au s1)
   |false=>
    rw[h0,if_neg (by decide)]at h;refine Dr s1 (k.fr (au s1)) hl λw1 s1 _=>?_;cases h0:RG tw th cs xs (fD ds) l 3 with
    |true=>rw[h0,if_pos rfl]at h;rw[cond_true];exact h w1 (bV s0 (au s1)) (au s1)
    |false=>rw[h0,if_neg (by decide)]at h;rw[cond_false];exact h w1 (bV s0 (au s1)) (au s1)
noncomputable def nj (tw th:Int)(cs:List Int)(xs:List bg):List Int:=(List.range cs.length).map λl:Nat=>Yd tw th cs xs (fD (jd tw th cs xs)) l
def aqH (hok:rf tw th cs xs=true)(hT:rj tw th cs):∀x∈jd tw th cs xs,0<=x/\x<=bW:=λx hx=>by
 obtain⟨l,hl,rfl⟩:=List.mem_map.1 hx;unfold rf at hok;rw[Bool.and_eq_true,List.all_eq_true]at hok;have hs:∀x k,L5 xs x k->0<=k/\k<=1073741824:=by rintro x k ⟨y,hy,rfl,rfl⟩;have:=hok.2 y hy;unfold zA at this;grind
 have he:∀x n c,G3 tw th cs x n c->1<=c/\c<=254:=λx n c h=>by have h1:=hT.jP _ (fy (i:=n.toNat) (by have:=h.2.1;unfold G2 at this;omega));have h2:=h.2.1.2.2;rw[h.2.2.2];omega
 have ajL:∀{x d},Wy (L5 xs) (G3 tw th cs) x d->x∈(List.range cs.length).map λl:Nat=>(l:Int):=λhw=>by
  have hm:∀{x:Int},0<=x/\x<cs.length->x∈(List.range cs.length).map λl:Nat=>(l:Int):=λ{x} hx=>List.mem_map.2 ⟨x.toNat,List.mem_range.2 (by omega),by omega⟩;cases hw with
  |src h=>
   obtain⟨y,hy,rfl,rfl⟩:=h;have:=hok.2 y hy;unfold zA at this;grind
  |go e _=>exact hm ⟨e.1.1,e.1.2.1⟩
 show 0<=gw _ _ _/\gw _ _ _<=bW;by_cases hw:∃d,Wy (L5 xs) (G3 tw th cs) l d
 ·obtain⟨d,hd⟩:=hw;have h1:=Zd hs he _ (λx d h=>ajL h) hd;have h2:=mg (λx k h=>(hs x k h).1) (λx n c h=>by grind) (qq (λx k h=>(hs x k h).1) (λx n c h=>by grind) hd).1;rw[List.length_map,List.length_range]at h1;have:=hT.small;unfold bW;omega
 ·rw[wP λd hd=>hw ⟨d,hd⟩];unfold bW;omega
def atC {a:Option Addr}{n c:Nat}{bs:List Int}{x:Int}{ad:Addr}{v:Value}{K:Option Addr->Nat->Nat->World->Prop}(s:Sep F W w (aj a n c 3 1 (flat one bs)::L))(hn:n<=1000000000)(hc:w.cell? ad=some v)
  (k:∀a' c' w',Sep F W w' (aj a' (n+1) c' 3 1 (flat one (bs++[x]))::L)->K a' (n+1) c' w'):Bx [ae x] 3 w λp w1=>w1.cell? ad=some v/\App P #[29,29] 29 (.slice a n c) (.slice (some p) 1 1) w1 K:=by
 have hB:=Kb s hn k;exact asd hB (Fr.cell (F:=No) (Fr.alloc Fr.refl _) hc id)
def Wx {Q:Option Addr->Nat->Nat->Option Addr->Nat->Nat->Int->World->Prop}(s0:Sep F W w L)(hA:Sl w ca cn cc 1 bA cs)(hX:Sl w la ln lc 3 fI xs)(hT:rj tw th cs)(hok:rf tw th cs xs=true)(hnd:xs.Nodup)(pI:ln<2000)
  (h:∀da dc ra rc w',Sep F W w' (aj ra cs.length rc 3 1 (flat one (nj tw th cs xs))::aj da cs.length dc 3 1 (flat one (jd tw th cs xs))::L)->Fr No w w'->Q da cs.length dc ra cs.length rc 0 w'):
  CF tw th ca cn cc la ln lc w Q:=by
 apply Wn;have vi:=hT.small;refine aS (bt (F:=No)) λtb w1 s=>?_;refine aY s λrb w1 s=>?_;refine lI s 1 rfl (lI s 1 rfl (lS s 1 rfl ?_));refine UJ s (hA.fr (au s)) (hX.fr (au s)) hT hok hnd pI λda dc w1 s _=>?_;refine lI s 2 rfl (lI s 2 rfl (lS s 2 rfl ?_));refine aS s λhb w1 s=>?_;refine aY s λfb w1 s=>?_;refine sT s 0 rfl λw1 s=>?_;refine az s (i:=0) rfl rfl rfl λw1 s=>?_;have loop:∀(j i:Nat) (ra:Option Addr) (rc:Nat) (w2:World),i+j=cs.length->
   Sep No w w2 [aj ra i rc 3 1 (flat one ((nj tw th cs xs).take i)),av fb 213 [.slice da cs.length dc,.slice ra i rc],av hb 340 [ae tw,ae th,.slice ca cn cc,.slice la ln lc,.slice da cs.length dc],aj da cs.length dc 3 1 (flat one (jd tw th cs xs)),av rb 213 [.slice none 0 0,.slice none 0 0]]->
   rK Q (j+1) (aZ rb) (aZ hb) (aZ fb) cs.length i w2:=by
  intro j;induction j with
  |zero=>
   intro i ra rc w2 hi s;show wo Q (rK Q 0) _ _ _ _ _ _;rw[wo,bp];refine lS s 1 rfl (lS s 1 rfl ?_);refine sT s 4 rfl λw2 s=>?_;refine az s (i:=4) rfl rfl rfl λw2 s=>?_;refine lS s 4 rfl (lS s 4 rfl ?_);obtain rfl:i=cs.length:=by omega
   rw[List.take_of_length_le (by unfold nj;grind)]at s;have s':Sep No w w2 [aj ra cs.length rc 3 1 (flat one (nj tw th cs xs)),aj da cs.length dc 3 1 (flat one (jd tw th cs xs))]:=pk 99 [0,3] s;exact h da dc ra rc w2 (fP s0 s') (au s')
  |succ j ih=>
   intro i ra rc w2 hi s;show wo Q (rK Q (j+1)) _ _ _ _ _ _;rw[wo,bJ];have s:=ax s;apply lS s 1 rfl;have hk:VC w2.drew hb tw th cs xs (jd tw th cs xs):=⟨⟨_,_,_,_,_,_,_,_,_,kK s (i:=2) rfl,hA.fr (au s),hX.fr (au s),aL s (i:=3) rfl cj (by decide),pI⟩,hT,Yl,aqH hok hT⟩;refine ab2 s hk (by omega) λw3 s _=>?_;refine⟨cN s 1 rfl,?_⟩;refine atC s (by omega) (cN s 1 rfl) λra' rc' w3 s=>?_;refine az s (i:=1) rfl rfl rfl λw3 s=>?_;rw[aF];apply ih (i+1) ra' rc' w3 (by omega);have e:(nj tw th cs xs).take (i+1)=(nj tw th cs xs).take i++[Yd tw th cs xs (fD (jd tw th cs xs)) i]:=by rw[nj,List.take_add_one,List.getElem?_map,List.getElem?_range (by omega)];rfl
   rw[e];exact s
 have s:=pk 99 [0,1,2,3] s;exact⟨cs.length+1,loop cs.length 0 none 0 w1 (by omega) (bE s 3 1)⟩
end
end Go.Proofs.YtmegplnmiepfbaaGreatDoor.S
namespace Go.Proofs.YtmegplnmiepfbaaGreatDoor.S
open Go.Sx
attribute [local irreducible] af cq bq bf aB bY bT St Bx Al App cu cg b_ bR aK bw aq bP av aj aU mapA
section
variable {F:Nat->Prop}{W w w0:World}{L:List As}{tw th l:Int}{ca la da:Option Addr}{cn cc ln lc dn dc:Nat}{cs ds ls:List Int}{xs:List bg}
def rj.CQ (h:rj tw th cs):Tl.CQ tw th cs=true:=Tl.X_.2 ⟨h.w,h.h,h.len,λe=>by have:=h.jP 0 e;omega⟩
def aof (hT:rj tw th cs)(hl:0<=l/\l<cs.length)(ho:gi cs l.toNat≠255):rf tw th cs [⟨l,4,0⟩]=true:=by rw[rf,hT.CQ,Bool.true_and,List.all_cons,List.all_nil,Bool.and_true];rw[zA,decide_eq_true hl,show(gi cs l.toNat !=255)=true by grind];rfl
def aog {b:Nat}{x:bg}(s:Sep F W w (av b 294 [ae x.c,ae x.s,ae x.k]::L)):Sl w (sZ b) 1 1 3 fI [x]:=
 aL (iS s (i:=0) rfl rfl (by decide) (λu hu=>Uv x u hu)) (i:=0) rfl mT (by decide)
def ab3 {Q:Option Addr->Nat->Nat->Int->World->Prop}(s0:Sep F W w L)(hA:Sl w ca cn cc 1 bA cs)(hT:rj tw th cs)(hl:0<=l/\l<cs.length)(ho:gi cs l.toNat≠255)
  (h:∀da dc w',Sep F W w' (aj da cs.length dc 3 1 (flat one (jd tw th cs [⟨l,4,0⟩]))::L)->Fr No w w'->Q da cs.length dc 0 w'):Gw tw th ca cn cc l w Q:=by
 apply abE;refine aS (bt (F:=No)) λtb w1 s=>?_;refine lI s 0 rfl (lI s 0 rfl (lS s 0 rfl ?_));refine aS s λsb w1 s=>?_;refine UJ s (hA.fr (au s)) (aog s) hT (aof hT hl ho) (by simp) (by decide) λda dc w1 s _=>?_;exact h da dc w1 (dX s0 s (i:=0) rfl) (au s)
structure aeU (cs ls:List Int):Prop where
 Df:∀l∈ls,(0<=l/\l<cs.length)/\gi cs l.toNat≠255
 e_:ls.Pairwise (·<·)
 nh:ls.length<=256
def ase (h:aeU cs ls){i j:Nat}(hij:i<j)(hj:j<ls.length):gi ls i<gi ls j:=by have:=List.pairwise_iff_getElem.1 h.e_ i j (by omega) hj hij;have e1:=gM (l:=ls) (i:=i) (by omega);have e2:=gM hj;grind
def Z9 {Q:Bool->World->Prop}(s0:Sep F W w L)(hA:Sl w ca cn cc 1 bA cs)(hL:Sl w la ln lc 1 one ls)(hT:rj tw th cs)(hok:aeU cs ls)(h:∀w',Sep F W w' L->Fr No w w'->Q true w'):
  E5 tw th ca cn cc la ln lc w Q:=by
 apply ZC;have pI:=hL.len;have ni:=hok.nh;refine aS (bt (F:=No)) λtb w1 s=>?_;have loop:∀(j i:Nat) (w1:World),i+j=ln->Sep No w w1 [av tb 84 [ae tw,ae th,.slice ca cn cc]]->vN Q (j+1) la ln lc (aZ tb) la ln lc ln i w1:=by
  intro j;induction j with
  |zero=>
   intro i w1 hi s;show zY Q (vN Q 0) _ _ _ _ _ _ _ _ _ _;rw[zY,bp];refine lI s 0 rfl (lI s 0 rfl (lS s 0 rfl ?_));refine Tl.Cf s (hA.fr (au s)).row λw2 s2 _=>?_;rw[hT.CQ];exact h w2 (bV s0 (au s2)) (au s2)
  |succ j ih=>
   intro i w1 hi s;show zY Q (vN Q (j+1)) _ _ _ _ _ _ _ _ _ _;rw[zY,bJ];apply(hL.fr (au s)).pC rfl (by omega);refine lI s 0 rfl (lI s 0 rfl (lS s 0 rfl ?_));have ho:=hok.Df _ (fy (i:=i) (by omega));have hc:=hT.jP _ (fy (i:=(gi ls i).toNat) (by omega));refine Tl.aeA s (hA.fr (au s)).row (λx hx=>by have:=hT.jP x hx;omega) λw2 s _=>?_;have e:Tl.atI tw th cs (gi ls i)=gi cs (gi ls i).toNat:=by unfold Tl.atI Tl.isB;rw[decide_eq_true ho.1,hT.CQ];rfl
   rw[e,cJ (by omega),cond_false,cJ ho.2,cond_false,aF (n:=(i:Int)+1)];by_cases h0:i=0
   ·rw[bp];exact ih (i+1) w2 (by omega) s
   ·rw[bJ,aF];apply(hL.fr (au s)).pC (k:=i-1) (by omega) (by omega);have:=ase hok (i:=i-1) (j:=i) (by omega) (by omega);rw[bp];exact ih (i+1) w2 (by omega) s
 exact⟨ln+1,loop ln 0 w1 (by omega) s⟩
noncomputable def DV (tw th:Int)(cs ls:List Int)(i j:Nat):Int:=Ko tw th cs [⟨gi ls j,4,0⟩] (gi ls i)
noncomputable def zE (tw th:Int)(cs ls:List Int):List Int:=(List.range (ls.length*ls.length)).map λk=>DV tw th cs ls (k/ls.length) (k%ls.length)
def IC {N x:Nat}{g:Nat->Int}{v:Int}:((List.range N).map g).set x v=(List.range N).map λk=>if k=x then v else g k:=by apply List.ext_getElem?;grind
def ajM {n i j:Nat}(hi:i<n)(hj:j<n):i*n+j<n*n:=by have:=Nat.mul_le_mul_right n (show i+1<=n by omega);grind
def aiF (hl:0<=l/\l<cs.length):gi (jd tw th cs xs) l.toNat=Ko tw th cs xs l:=by unfold gi jd;grind
def Ym {Q:Option Addr->Nat->Nat->Int->World->Prop}(s0:Sep F W w L)(hA:Sl w ca cn cc 1 bA cs)(hL:Sl w la ln lc 1 one ls)(hT:rj tw th cs)(hok:aeU cs ls)
  (h:∀oa oc w',Sep F W w' (aj oa (ls.length*ls.length) oc 3 1 (flat one (zE tw th cs ls))::L)->Fr No w w'->Q oa (ls.length*ls.length) oc 0 w'):DP tw th ca cn cc la ln lc w Q:=by
 apply XZ;have pI:=hL.len;have ni:=hok.nh;refine aS (bt (F:=No)) λtb w1 s=>?_;refine lI s 0 rfl (lI s 0 rfl (lS s 0 rfl ?_));refine Z9 s (hA.fr (au s)) (hL.fr (au s)) hT hok λw1 s _=>?_;subst pI;have hsq:ls.length*ls.length<=65536:=by have:=Nat.mul_le_mul ni ni;omega
 have e1:((ls.length:Nat):Int)*((ls.length:Nat):Int)=((ls.length*ls.length:Nat):Int):=by grind
 rw[e1,aF];generalize hN:ls.length*ls.length=N at*;refine uk (bytes:=8) dU s rfl rfl rfl rfl rfl rfl (by decide) cj rfl (λu hu=>D6 0 u hu) rfl rfl (Nat.le_refl _) (by omega) (by simp[maxLen];omega) λob w1 s=>?_;have outer:∀(k j:Nat) (w1:World),j+k=ls.length->Sep No w w1 [aj (sZ ob) N N 3 1 (flat one ((List.range N).map λq=>if q%ls.length<j then DV tw th cs ls (q/ls.length) (q%ls.length)else 0)),av tb 84 [ae tw,ae th,.slice ca cn cc]]->
   qz Q (k+1) la ls.length lc (aZ tb) ls.length (sZ ob) N N la ls.length lc ls.length j w1:=by
  intro k;induction k with
  |zero=>
   intro j w1 hj s;show yu Q (qz Q 0) _ _ _ _ _ _ _ _ _ _ _ _ _ _;rw[yu,bp];have e:((List.range N).map λq=>if q%ls.length<j then DV tw th cs ls (q/ls.length) (q%ls.length)else 0)=zE tw th cs ls:=by
    rw[zE,hN];refine List.map_congr_left λq hq=>?_;have hq:=List.mem_range.1 hq;have Tj:0<ls.length:=by grind
    rw[if_pos (by have:=Nat.mod_lt q Tj;omega)]
   rw[e]at s;exact h _ _ w1 (dX s0 s (i:=0) rfl) (au s)
  |succ k ih=>
   intro j w1 hj s;show yu Q (qz Q (k+1)) _ _ _ _ _ _ _ _ _ _ _ _ _ _;rw[yu,bJ];apply(hL.fr (au s)).pC rfl (by omega);refine lI s 1 rfl (lI s 1 rfl (lS s 1 rfl ?_));have ho:=hok.Df _ (fy (i:=j) (by omega));refine ab3 s (hA.fr (au s)) hT ho.1 ho.2 λda dc w1 s _=>?_;have inner:∀(k2 i:Nat) (w1:World),i+k2=ls.length->Sep No w w1 [aj da cs.length dc 3 1 (flat one (jd tw th cs [⟨gi ls j,4,0⟩])),aj (sZ ob) N N 3 1 (flat one ((List.range N).map λq=>if q%ls.length<j\/q%ls.length=j/\q/ls.length<i then DV tw th cs ls (q/ls.length) (q%ls.length)else 0)),av tb 84 [ae tw,ae th,.slice ca cn cc]]->
     rG (qz Q (k+1)) Q (k2+1) la ls.length lc (aZ tb) ls.length (sZ ob) N N j da cs.length dc la ls.length lc ls.length j la ls.length lc ls.length i w1:=by
    intro k2;induction k2 with
    |zero=>
     intro i w1 hi s;show wj _ Q (rG _ Q 0) _ _ _ _ _ _ _ _ _ _ _ _ _ _ _ _ _ _ _ _ _ _ _;rw[wj,bp,aF];apply ih (j+1) w1 (by omega);have e:((List.range N).map λq=>if q%ls.length<j\/q%ls.length=j/\q/ls.length<i then DV tw th cs ls (q/ls.length) (q%ls.length)else 0)=(List.range N).map λq=>if q%ls.length<j+1 then DV tw th cs ls (q/ls.length) (q%ls.length)else 0:=by
      refine List.map_congr_left λq hq=>?_;have hq:=List.mem_range.1 hq;have hd:q/ls.length<ls.length:=Nat.div_lt_of_lt_mul (by omega);by_cases c1:q%ls.length<j+1
      ·rw[if_pos c1,zP]
      ·rw[if_neg c1,ru]
     rw[e]at s;exact ai s
    |succ k2 ih2=>
     intro i w1 hi s;show wj _ Q (rG _ Q (k2+1)) _ _ _ _ _ _ _ _ _ _ _ _ _ _ _ _ _ _ _ _ _ _ _;rw[wj,bJ];apply(hL.fr (au s)).pC rfl (by omega);have hoi:=hok.Df _ (fy (i:=i) (by omega));apply(aL s (i:=0) rfl cj (by decide)).pC (k:=(gi ls i).toNat) (by omega) (by omega);rw[aiF hoi.1];have hb:=ajM (n:=ls.length) (i:=i) (j:=j) (by omega) (by omega);rw[hN]at hb;have e2:(i:Int)*((ls.length:Nat):Int)=((i*ls.length:Nat):Int):=by rw[Int.natCast_mul]
     rw[e2,aF (n:=((i*ls.length:Nat):Int)),aF,aF];refine zz cj s (i:=1) (k:=i*ls.length+j) (x':=Ko tw th cs [⟨gi ls j,4,0⟩] (gi ls i)) rfl (by omega) (by rw[List.length_map,List.length_range];exact hb) rfl rfl λw1 s=>?_;apply ih2 (i+1) w1 (by omega);rw[IC]at s;have e:((List.range N).map λq=>if q=i*ls.length+j then Ko tw th cs [⟨gi ls j,4,0⟩] (gi ls i)else if q%ls.length<j\/q%ls.length=j/\q/ls.length<i then DV tw th cs ls (q/ls.length) (q%ls.length)else 0)=
       (List.range N).map λq=>if q%ls.length<j\/q%ls.length=j/\q/ls.length<i+1 then DV tw th cs ls (q/ls.length) (q%ls.length)else 0:=by
      refine List.map_congr_left λq hq=>?_;have Tj:0<ls.length:=by omega
      by_cases c1:q=i*ls.length+j
      ·have d1:q/ls.length=i:=by rw[c1,Nat.mul_comm,Nat.mul_add_div Tj,Nat.div_eq_of_lt (by omega),Nat.add_zero]
       have d2:q%ls.length=j:=by rw[c1,Nat.mul_comm,Nat.mul_add_mod,Nat.mod_eq_of_lt (by omega)]
       rw[if_pos c1,zP,d1,d2];rfl
      ·rw[if_neg c1];have d3:¬(q%ls.length=j/\q/ls.length=i):=λ⟨a,b⟩=>by apply c1;have:=Nat.div_add_mod q ls.length;rw[a,b,Nat.mul_comm]at this;omega
       by_cases c2:q%ls.length<j\/q%ls.length=j/\q/ls.length<i
       ·rw[if_pos c2,zP]
       ·rw[if_neg c2,ru]
     rw[e]at s;exact s
   refine⟨ls.length+1,inner ls.length 0 w1 (by omega) ?_⟩;have e:((List.range N).map λq=>if q%ls.length<j then DV tw th cs ls (q/ls.length) (q%ls.length)else 0)=(List.range N).map λq=>if q%ls.length<j\/q%ls.length=j/\q/ls.length<0 then DV tw th cs ls (q/ls.length) (q%ls.length)else 0:=by
    refine List.map_congr_left λq hq=>?_;by_cases c1:q%ls.length<j
    ·rw[if_pos c1,if_pos (.inl c1)]
    ·rw[if_neg c1,if_neg (by rintro (h|⟨_,h⟩);exact c1 h;exact Nat.not_lt_zero _ h)]
   rw[e]at s;exact s
 refine⟨ls.length+1,outer ls.length 0 w1 (by omega) ?_⟩;have e:((List.range N).map λq=>if q%ls.length<0 then DV tw th cs ls (q/ls.length) (q%ls.length)else 0)=List.replicate N 0:=by rw[List.eq_replicate_iff];refine⟨by simp,λx hx=>?_⟩;obtain⟨q,_,rfl⟩:=List.mem_map.1 hx;rw[ru]
 grind
end
end Go.Proofs.YtmegplnmiepfbaaGreatDoor.S
namespace Go.Proofs.YtmegplnmiepfbaaGreatDoor.S
open Go.Sx
section
variable {m:bN}{t x n c d s sc l a b:Int}
def iD (m:bN)(sc:Int):List Int:=(aT m sc).map (dD m.w m.h)
def UK (m:bN)(sc:Int):List Nat:=(List.range (aD m.w m.h sc*bu m.w m.h sc).toNat).filter λl=>xI m.w m.h sc 4 l&&eU m (bS m.w m.h sc l)
def nodes_eq:aT m sc=(UK m sc).map λl:Nat=>bS m.w m.h sc l:=by unfold aT uG UK;rw[List.filter_map,List.filter_filter];grind
def alX (hs:dA m.w m.h sc):iD m sc=(UK m sc).map λl:Nat=>(l:Int):=by rw[iD,nodes_eq,List.map_map];refine List.map_congr_left λl hl=>?_;have hl:=List.mem_range.1 (List.mem_filter.1 hl).1;exact ER hs (by omega)
def Z_:(UK m sc).Pairwise (·<·):=List.Pairwise.filter _ List.pairwise_lt_range
def alY (hs:dA m.w m.h sc){k:Int}(hk:0<=k/\k<l)(hl:l<aD m.w m.h sc*bu m.w m.h sc):bS m.w m.h sc k<bS m.w m.h sc l:=by
 obtain⟨⟨w1,w2⟩,⟨h1,h2⟩,p1,p2,p3,p4⟩:=yE hs;have hw:aD m.w m.h sc<=m.w-16*(sc%cB m.w):=by unfold aD;omega
 have hk1:=Nz hs (l:=k) (by omega);have hl1:=Nz hs (l:=l) (by omega);have ek:=Int.mul_ediv_add_emod k (aD m.w m.h sc);have el:=Int.mul_ediv_add_emod l (aD m.w m.h sc);unfold bS;by_cases e:k/aD m.w m.h sc=l/aD m.w m.h sc
 ·grind
 ·have hlt:k/aD m.w m.h sc<=l/aD m.w m.h sc:=Int.ediv_le_ediv (by omega) (by omega);have h3:=Int.mul_le_mul_of_nonneg_right (show 16*(sc/cB m.w)+k/aD m.w m.h sc+1<=16*(sc/cB m.w)+l/aD m.w m.h sc by omega) (show 0<=m.w by omega);grind
def Mc (hs:dA m.w m.h sc):(aT m sc).Pairwise (·<·):=by rw[nodes_eq,List.pairwise_map];refine List.Pairwise.imp_of_mem ?_ Z_;intro k l hk hl h;have hl:=List.mem_range.1 (List.mem_filter.1 hl).1;exact alY hs ⟨by omega,by omega⟩ (by omega)
def alZ (hm:c7 m)(hs:dA m.w m.h sc):aeU (dx m sc) (iD m sc):=by
 have e:=alX hs;refine⟨λl hl=>?_,?_,?_⟩
 ·rw[e]at hl;obtain⟨k,hk,rfl⟩:=List.mem_map.1 hl;have h1:=(List.mem_filter.1 hk).2;have hk:=List.mem_range.1 (List.mem_filter.1 hk).1;rw[Bool.and_eq_true]at h1;have h2:=(HN hm hs (by omega)).2 h1.2;exact⟨⟨h2.1,h2.2.1⟩,h2.2.2⟩
 ·rw[e,List.pairwise_map];exact List.Pairwise.imp (λh=>by omega) Z_
 ·rw[e,List.length_map];obtain⟨⟨w1,w2⟩,⟨h1,h2⟩,_⟩:=yE hs;have h3:=Int.mul_le_mul w2 h2 (by omega) (by decide);have h4:=List.length_filter_le (λl:Nat=>xI m.w m.h sc 4 l&&eU m (bS m.w m.h sc l)) (List.range (aD m.w m.h sc*bu m.w m.h sc).toNat);rw[List.length_range]at h4;unfold UK;omega
def yX (hs:dA m.w m.h sc):(aT m sc).length<=256:=by have:=ZR hs;have h1:=List.length_filter_le (eU m) (uG m.w m.h sc);unfold aT;omega
def ahW (hs:dA m.w m.h sc):(aT m sc).Nodup:=List.Pairwise.imp (λh e=>by omega) (Mc hs)
def O6 (hm:c7 m)(hs:dA m.w m.h sc):rj (aD m.w m.h sc) (bu m.w m.h sc) (dx m sc):=by obtain⟨w,h,_⟩:=yE hs;have h1:=Int.mul_le_mul w.1 h.1 (by decide) (by omega);refine⟨w,h,by rw[Bz];omega,λx hx=>?_⟩;obtain⟨l,hl,rfl⟩:=List.mem_map.1 hx;have hl:=List.mem_range.1 hl;have:=Kn hm (rU hs (l:=l) (by omega));omega
noncomputable def pM (m:bN)(sc a b:Int):Int:=Ko (aD m.w m.h sc) (bu m.w m.h sc) (dx m sc) [⟨dD m.w m.h b,4,0⟩] (dD m.w m.h a)
def O7 (hm:c7 m)(hs:dA m.w m.h sc)(ha:bC m.w m.h a/\aC m.w m.h a=sc)(hb:bC m.w m.h b/\aC m.w m.h b=sc):pM m sc a b=gw (ES b) (sR (fJ m) (cO m) sc) a:=by
 have hla:=jL ha.1;have hga:=nq ha.1;have hlb:=jL hb.1;have hgb:=nq hb.1;rw[ha.2]at hla hga;unfold pM Ko;rw[agd hm hs (S':=ES b) (λl k hl=>?_) hla,hga];unfold L5 ES;constructor
 ·grind
 ·rintro ⟨h1,rfl⟩;refine⟨_,List.mem_singleton.2 rfl,?_,rfl⟩;rw[<-h1];exact ER hs hl
def adq (hm:c7 m)(RK:eU m b=true){d:Int}(hw:Wy (ES b) (sR (fJ m) (cO m) sc) a d):0<=gw (ES b) (sR (fJ m) (cO m) sc) a/\gw (ES b) (sR (fJ m) (cO m) sc) a<=254*(m.w*m.h-1):=by
 have ajL:∀x d,Wy (ES b) (sR (fJ m) (cO m) sc) x d->x∈jF m:=λx d h=>by
  cases h with
  |src h=>rw[h.1];exact yF hm (jE hm RK)
  |go e _=>exact yF hm (jE hm e.1.1)
 have h1:=Zd (K:=0) (λx k h=>by rw[h.2];omega) (λx n c h=>Fo h.1) (jF m) ajL hw;have h2:((jF m).length:Int)=m.w*m.h:=by rw[<-hm.len];simp[jF]
 refine⟨mg (λx k h=>by rw[h.2];grind) (λx n c h=>cT _ _ _ h.1) (qq (λx k h=>by rw[h.2];grind) (λx n c h=>cT _ _ _ h.1) hw).1,by omega⟩
def Yn (hm:c7 m)(hs:dA m.w m.h sc)(ha:bC m.w m.h a/\aC m.w m.h a=sc)(hb:bC m.w m.h b/\aC m.w m.h b=sc)(RK:eU m b=true):
  pM m sc a b≠bW↔∃d,Wy (ES b) (sR (fJ m) (cO m) sc) a d:=by
 rw[O7 hm hs ha hb];constructor
 ·intro h;refine Classical.byContradiction λk=>h (wP λd hd=>k ⟨d,hd⟩)
 ·rintro ⟨d,hd⟩;have:=adq hm RK hd;have:=pZ ⟨hm.w,hm.h⟩;unfold bW;omega
def Yo (hm:c7 m)(hs:dA m.w m.h sc)(ha:bC m.w m.h a/\aC m.w m.h a=sc)(hb:bC m.w m.h b/\aC m.w m.h b=sc)(RK:eU m b=true):0<=pM m sc a b/\(pM m sc a b≠bW->pM m sc a b<1000000000)/\pM m sc a b<=bW:=by
 have e:=O7 hm hs ha hb;by_cases hw:∃d,Wy (ES b) (sR (fJ m) (cO m) sc) a d
 ·obtain⟨d,hd⟩:=hw;have h1:=adq hm RK hd;have h2:=pZ ⟨hm.w,hm.h⟩;unfold bW;omega
 ·have h1:pM m sc a b=bW:=by rw[e];exact wP λd hd=>hw ⟨d,hd⟩
  rw[h1];exact⟨by decide,λh=>(h rfl).elim,Int.le_refl _⟩
noncomputable def aaa (m:bN)(b:Int):List (Int×Int):=(aT m (cO m b)).filterMap λa=>if a≠b/\pM m (cO m b) a b≠bW then some (a,pM m (cO m b) a b)else none
open Classical in
noncomputable def O8 (m:bN)(b s:Int):Option (Int×Int):=if 0<=aX m.w m.h b s/\nL m (aX m.w m.h b s)/\cO m (aX m.w m.h b s)≠cO m b then some (aX m.w m.h b s,cH m b)else none
noncomputable def QZ (m:bN)(b:Int)(j:Nat):List (Int×Int):=(List.range j).filterMap λs:Nat=>O8 m b s
noncomputable def Je (m:bN)(b:Int):List (Int×Int):=aaa m b++QZ m b 4
def aab (m:bN)(b:Int)(j:Nat):QZ m b (j+1)=QZ m b j++(O8 m b j).toList:=by rw[QZ,List.range_succ,List.filterMap_append];congr 1
def asg (hm:c7 m)(h:nL m x)(hx:bC m.w m.h x):eU m x=true:=(lY (bQ hx) h).1
def agr (hm:c7 m)(hb:nL m b)(hbc:bC m.w m.h b){e:Int×Int}:e∈Je m b↔Ia (fJ m) (cO m) (nL m) e.1 b e.2:=by
 have hs:=bQ hbc;have RK:=(lY hs hb).1;rw[Je,List.mem_append];constructor
 ·rintro (h|h)
  ·obtain⟨a,ha,h1⟩:=List.mem_filterMap.1 h;split at h1
   ·rename_i h2;cases h1;obtain⟨a1,a2,a3⟩:=lY hs ha;have hn:nL m a:=by show a∈aT m (cO m a);rw[show cO m a=cO m b from a3];exact ha
    refine⟨hn,hb,.inl ⟨a3,h2.1,(Yn hm hs ⟨a2,a3⟩ ⟨hbc,rfl⟩ RK).1 h2.2,O7 hm hs ⟨a2,a3⟩ ⟨hbc,rfl⟩⟩⟩
   ·cases h1
  ·obtain⟨s,RL,h1⟩:=List.mem_filterMap.1 h;have RL:=List.mem_range.1 RL;unfold O8 at h1;split at h1
   ·rename_i h2;cases h1;obtain⟨s',hs',aeV⟩:=HM ⟨by omega,by omega⟩ h2.1;have hac:=(y8 h2.1).2;have hoa:=asg hm h2.2.1 hac;exact⟨h2.2.1,hb,.inr ⟨h2.2.2,hoa,RK,⟨s',hs',aeV⟩,rfl⟩⟩
   ·cases h1
 ·rintro ⟨ha,_,⟨h1,h2,h3,h4⟩|⟨h1,h2,h3,⟨s,RL,h4⟩,h5⟩⟩
  ·left;have hb2:cO m b=aC m.w m.h b:=rfl;have hac:bC m.w m.h e.1:=by
    have:e.1∈aT m (cO m b):=by rw[<-h1];exact ha
    exact(lY hs this).2.1
   have e4:=O7 hm hs ⟨hac,h1⟩ ⟨hbc,rfl⟩;refine List.mem_filterMap.2 ⟨e.1,by rw[<-h1];exact ha,?_⟩;rw[if_pos ⟨h2,(Yn hm hs ⟨hac,h1⟩ ⟨hbc,rfl⟩ RK).2 h3⟩,hb2,e4];grind
  ·right;have hb0:0<=aX m.w m.h e.1 s:=by rw[h4];exact hbc.2.1
   obtain⟨s',hs',aeV⟩:=HM RL hb0;rw[h4]at aeV;refine List.mem_filterMap.2 ⟨s'.toNat,List.mem_range.2 (by omega),?_⟩;rw[Int.toNat_of_nonneg hs'.1];rw[O8,aeV,if_pos ⟨(jE hm h2).2.1,ha,h1⟩];grind
end
def aoh {P:Program}{t e:TypeId}{inf:TypeInfo}{b i j:Nat}{w:World}(d:Nat)(hu:P.underlying t=some (.pointer e))(hi:P.info? e=some inf)(hs:inf.size≠0):
  (Op.equalIn (d+1) t (.pointer (some ⟨b,i,none⟩)) (.pointer (some ⟨b,j,none⟩))).run P w=.ok (decide (i=j)) w:=by
 simp[Op.equalIn,run_underlying hu,sizeOf,typeInfo,hi,hs,sameAddr];grind
def ash {P:Program}{t e:TypeId}{inf:TypeInfo}{x y:Operand}{b i j:Nat}{w:World}{K:Bool->World->Prop}(hu:P.underlying t=some (.pointer e))(hi:P.info? e=some inf)(hs:inf.size≠0)(h:K (!decide (i=j)) w):
  bR P .neq t x y (.pointer (some ⟨b,i,none⟩)) (.pointer (some ⟨b,j,none⟩)) w K:=by
 have h1:(Op.equal t (.pointer (some ⟨b,i,none⟩)) (.pointer (some ⟨b,j,none⟩))).run P w=.ok (decide (i=j)) w:=aoh 9999 hu hi hs;unfold bR aK;rw[show binOp .neq t (.pointer (some ⟨b,i,none⟩)) (.pointer (some ⟨b,j,none⟩))=(do pure (.bool (!(<-Op.equal t (.pointer (some ⟨b,i,none⟩)) (.pointer (some ⟨b,j,none⟩))))))from rfl];simp[eqGuard_at_pointer,Sem.run_bind,Sem.run_pure,Result.andThen_ok,h1];exact h
end Go.Proofs.YtmegplnmiepfbaaGreatDoor.S
namespace Go.Proofs.YtmegplnmiepfbaaGreatDoor.S.Ta
open Go.Sx
def U (n:Int):Prop:=0<=n/\n<18446744073709551616
def sat (a b:Int):Int:=if a+b<18446744073709551616 then a+b else 18446744073709551615
def Ft {a b:Int}(ha:U a)(hb:U b):U (sat a b):=by unfold sat;unfold U at*;omega
def AH {a b:Int}{w:World}{Q:Int->World->Prop}(ha:U a)(hb:U b)(h:Q (sat a b) w):rz a b w Q:=by
 unfold U at ha hb;apply Zm;rw[wrap_u64 (by omega) (by omega)];unfold sat at h;by_cases hc:a>18446744073709551615-b
 ·grind
 ·rw[bp hc,wrap_u64 (by omega) (by omega)];grind
def UL {F:Nat->Prop}{W w:World}{L:List As}{a b c d e f:Int}{Q:Int->Int->Int->Int->Int->Int->World->Prop}(s:Sep F W w L)(h:∀w',Sep F W w' L->Q a b c d e f w'):cP a b c d e f w Q:=by apply TS;refine aS s λb1 w1 s=>?_;refine aY s λb2 w2 s=>?_;apply eN s (i:=1) rfl rfl rfl;apply eN s (i:=1) rfl rfl rfl;apply eN s (i:=1) rfl rfl rfl;apply eN s (i:=1) rfl rfl rfl;apply eN s (i:=1) rfl rfl rfl;apply eN s (i:=1) rfl rfl rfl;refine az s (i:=0) rfl rfl rfl λw3 s=>?_;refine az s (i:=0) rfl rfl rfl λw3 s=>?_;refine az s (i:=0) rfl rfl rfl λw3 s=>?_;refine az s (i:=0) rfl rfl rfl λw3 s=>?_;refine az s (i:=0) rfl rfl rfl λw3 s=>?_;refine az s (i:=0) rfl rfl rfl λw3 s=>?_;apply eN s (i:=0) rfl rfl rfl;apply eN s (i:=0) rfl rfl rfl;apply eN s (i:=0) rfl rfl rfl;apply eN s (i:=0) rfl rfl rfl;apply eN s (i:=0) rfl rfl rfl;apply eN s (i:=0) rfl rfl rfl;exact h _ (ai (ai s))
end Go.Proofs.YtmegplnmiepfbaaGreatDoor.S.Ta
namespace Go.Proofs.YtmegplnmiepfbaaGreatDoor.S.Ta
open Go.Sx
attribute [local irreducible] af cq bq bf aB bY bT St Bx Al App cu cg b_ bR aK bw aq bP av
def atD:zc T 175=[.int .u64 0,.int .u64 0,.int .u64 0,.int .u64 0,.int .u64 0,.int .u64 0]:=rfl
def asi:zc T 32=[.int .u64 0,.int .u64 0,.int .u64 0,.int .u64 0,.int .u64 0,.int .u64 0]:=rfl
section
variable {F:Nat->Prop}{W w:World}{L:List As}{Q:Int->Int->Int->Int->Int->Int->World->Prop}
def pJ {r x y:Nat}{tx ty:TypeId}{xs ys:List Value}{i j k n:Nat}{t:Int}{p q:Int}(s:Sep F W w L)(ht:t=n)(hn:n<6)
  (hi:L[i]? =some (av x tx xs))(hj:L[j]? =some (av y ty ys))(hp:xs[n]? =some (.int .u64 p))(hq:ys[n]? =some (.int .u64 q))(up:U p)(uq:U q)(hl:Nat.blt n xs.length=true)
  (h:∀w',Sep F W w' (L.set i (av x tx (xs.set n (.int .u64 (sat p q)))))->pF Q k (aZ r) (aZ x) (aZ y) ((n+1:Nat):Int) w'):pF Q (k+1) (aZ r) (aZ x) (aZ y) t w:=by
 subst ht;show rZ Q (pF Q k) _ _ _ _ _;rw[rZ,bJ];have e1:((n:Int).toNat*1)=n:=by omega
 have s':Sep F W w.drew L:=s;rw[e1];refine⟨by omega,by omega,?_⟩;apply eN s' (by rw[cf,Nat.zero_add]) hi hp;refine⟨by omega,by omega,?_⟩;apply eN s' (by rw[cf,Nat.zero_add]) hj hq;apply AH up uq;refine⟨by omega,by omega,?_⟩;refine az s' (by rw[cf,Nat.zero_add]) hi hl λw' s=>?_;rw[aF];exact h _ s
def asj {r x y:Nat}{tr tx ty:TypeId}{a b c d e f a' b' c' d' e' f':Int}(s:Sep F W w (av x tx [.int .u64 a,.int .u64 b,.int .u64 c,.int .u64 d,.int .u64 e,.int .u64 f]::av y ty [.int .u64 a',.int .u64 b',.int .u64 c',.int .u64 d',.int .u64 e',.int .u64 f']::av r tr (zc T 32)::L))
  (u:(U a/\U b/\U c/\U d/\U e/\U f)/\U a'/\U b'/\U c'/\U d'/\U e'/\U f')
  (h:∀w',Sep F W w' L->Q (sat a a') (sat b b') (sat c c') (sat d d') (sat e e') (sat f f') w'):gI Q (aZ r) (aZ x) (aZ y) w:=by
 obtain⟨⟨ua,ub,uc,ud,ue,uf⟩,va,vb,vc,vd,ve,vf⟩:=u;refine⟨7,?_⟩;refine pJ s (n:=0) (i:=0) (j:=1) rfl (by omega) rfl rfl rfl rfl ua va rfl λw s=>?_;refine pJ s (i:=0) (j:=1) rfl (by omega) rfl rfl rfl rfl ub vb rfl λw s=>?_;refine pJ s (i:=0) (j:=1) rfl (by omega) rfl rfl rfl rfl uc vc rfl λw s=>?_;refine pJ s (i:=0) (j:=1) rfl (by omega) rfl rfl rfl rfl ud vd rfl λw s=>?_;refine pJ s (i:=0) (j:=1) rfl (by omega) rfl rfl rfl rfl ue ve rfl λw s=>?_;refine pJ s (i:=0) (j:=1) rfl (by omega) rfl rfl rfl rfl uf vf rfl λw s=>?_;show rZ Q (pF Q 0) _ _ _ _ _;unfold rZ;refine⟨by decide,by decide,?_⟩;apply lI s 0 rfl;refine⟨by decide,by decide,?_⟩;apply lI s 0 rfl;refine⟨by decide,by decide,?_⟩;apply lI s 0 rfl;refine⟨by decide,by decide,?_⟩;apply lI s 0 rfl;refine⟨by decide,by decide,?_⟩;apply lI s 0 rfl;refine⟨by decide,by decide,?_⟩;apply lI s 0 rfl
 repeat' first
  |apply lI s 2 rfl
  |(refine az s (i:=2) rfl rfl rfl λw' s=>?_;simp[Nat.zero_add,List.set_cons_zero,List.set_cons_succ]at s)
 exact h _ (ai (ai (ai s)))
def asl {r x y:Nat}{tr tx ty:TypeId}{a b c d e f a' b' c' d' e' f':Int}(s:Sep F W w (av y ty [.int .u64 a',.int .u64 b',.int .u64 c',.int .u64 d',.int .u64 e',.int .u64 f']::av x tx [.int .u64 a,.int .u64 b,.int .u64 c,.int .u64 d,.int .u64 e,.int .u64 f]::av r tr (zc T 32)::L))
  (u:(U a/\U b/\U c/\U d/\U e/\U f)/\U a'/\U b'/\U c'/\U d'/\U e'/\U f')
  (h:∀w',Sep F W w' L->Q (sat a a') (sat b b') (sat c c') (sat d d') (sat e e') (sat f f') w'):gI Q (aZ r) (aZ x) (aZ y) w:=by
 obtain⟨⟨ua,ub,uc,ud,ue,uf⟩,va,vb,vc,vd,ve,vf⟩:=u;refine⟨7,?_⟩;refine pJ s (n:=0) (i:=1) (j:=0) rfl (by omega) rfl rfl rfl rfl ua va rfl λw s=>?_;refine pJ s (i:=1) (j:=0) rfl (by omega) rfl rfl rfl rfl ub vb rfl λw s=>?_;refine pJ s (i:=1) (j:=0) rfl (by omega) rfl rfl rfl rfl uc vc rfl λw s=>?_;refine pJ s (i:=1) (j:=0) rfl (by omega) rfl rfl rfl rfl ud vd rfl λw s=>?_;refine pJ s (i:=1) (j:=0) rfl (by omega) rfl rfl rfl rfl ue ve rfl λw s=>?_;refine pJ s (i:=1) (j:=0) rfl (by omega) rfl rfl rfl rfl uf vf rfl λw s=>?_;show rZ Q (pF Q 0) _ _ _ _ _;unfold rZ;refine⟨by decide,by decide,?_⟩;apply lI s 1 rfl;refine⟨by decide,by decide,?_⟩;apply lI s 1 rfl;refine⟨by decide,by decide,?_⟩;apply lI s 1 rfl;refine⟨by decide,by decide,?_⟩;apply lI s 1 rfl;refine⟨by decide,by decide,?_⟩;apply lI s 1 rfl;refine⟨by decide,by decide,?_⟩;apply lI s 1 rfl
 repeat' first
  |apply lI s 2 rfl
  |(refine az s (i:=2) rfl rfl rfl λw' s=>?_;simp[Nat.zero_add,List.set_cons_zero,List.set_cons_succ]at s)
 exact h _ (ai (ai (ai s)))
end
set_option maxHeartbeats 1000000 in
theorem Fu {F:Nat->Prop}{W w:World}{L:List As}{a b c d e f a' b' c' d' e' f':Int}{Q:Int->Int->Int->Int->Int->Int->World->Prop}(s:Sep F W w L)(u:(U a/\U b/\U c/\U d/\U e/\U f)/\U a'/\U b'/\U c'/\U d'/\U e'/\U f')
  (h:∀w',Sep F W w' L->Q (sat a a') (sat b b') (sat c c') (sat d d') (sat e e') (sat f f') w'):vT a b c d e f a' b' c' d' e' f' w Q:=by
 apply Zn;refine aS s λb1 w1 s=>?_;refine aS s λb2 w2 s=>?_;refine aY s λb3 w3 s=>?_
 repeat' first
  |apply lI s 0 rfl
  |refine lI s 1 rfl ?_
  |refine lI s 2 rfl ?_
  |apply lI s 3 rfl
  |apply lI s 4 rfl
  |refine⟨cN s 1 rfl,?_⟩
  |refine⟨cN s 2 rfl,?_⟩
  |refine⟨cN s 3 rfl,?_⟩
  |refine⟨cN s 4 rfl,?_⟩
  |(refine az s (i:=0) rfl rfl rfl λw' s=>?_;simp[Nat.zero_add,List.set_cons_zero,List.set_cons_succ]at s)
  |(refine az s (i:=1) rfl rfl rfl λw' s=>?_;simp[Nat.zero_add,List.set_cons_zero,List.set_cons_succ]at s)
  |(refine aY s λb' w' s=>?_;rw[atD]at s)
  |refine UL s λw' s=>?_
  |exact asj s u λw' s=>h _ (ai (ai s))
  |exact asl s u λw' s=>h _ (ai (ai s))
  |constructor
end Go.Proofs.YtmegplnmiepfbaaGreatDoor.S.Ta
namespace Go.Proofs.YtmegplnmiepfbaaGreatDoor.S
open Go.Sx
def dH {w:World}{x:Option Addr}{ad:Addr}{K:Option Addr->Prop}(h:w.cell? ad=some (.pointer x))(hk:K x):bf ad w K:=⟨x,h,hk⟩
attribute [local irreducible] af cq bq bf aB bY bT St Bx Al App cu cg b_ bR aK bw aq bP av aj aU mapA
def Q0 {F:Nat->Prop}{W w:World}{A:As}:∀{L:List As} {i:Nat},Sep F W w (A::L)->Sep F W w (L.set i A)
 |[],i,s=>by simp[List.set_nil];exact ai s
 |B::L,0,s=>by exact gH s (List.Sublist.cons_cons _ (List.sublist_cons_self _ _))
 |B::L,i+1,s=>by
  rw[List.set_cons_succ];have s1:=cE s (List.Perm.swap B A L);have s2:=ai s1;have s3:=Q0 (i:=i) s2;refine⟨dN.fr s,λC hC=>?_,?_⟩
  ·rcases List.mem_cons.1 hC with rfl|hC
   ·exact dN.ok s C (by simp)
   ·exact dN.ok s3 C hC
  ·rw[List.pairwise_cons];refine⟨λC hC=>?_,dN.apart s3⟩;have hp:=List.pairwise_cons.1 (dN.apart s1);grind
structure zF where
 eO:Int
 na:Option Addr
 nn:Nat
 nc:Nat
 da:Option Addr
 dn:Nat
 dc:Nat
 nodes:List Int
 ID:List Int
def Jf (x:zF):List Value:=[ae x.eO,.slice x.na x.nn x.nc,.slice x.da x.dn x.dc]
def BE (x:zF):(Jf x).length=3:=rfl
def al0 (x:zF)(u:Value)(h:u∈Jf x):u.oneCell'=true:=by unfold Jf at h;simp[List.mem_cons,List.not_mem_nil,or_false]at h;rcases h with rfl|rfl|rfl<;>rfl
def aac (x:zF):As:=aU True [aj x.na x.nn x.nc 3 1 (flat one x.nodes),aj x.da x.dn x.dc 21 1 (flat oD x.ID)]
structure AI where
 p:Nat
 a:Option Addr
 n:Nat
 c:Nat
structure mU where
 ps:List zF
 clean:Int
 fH:Int
def aad (r:AI)(gp:Nat)(x:mU):List Value:=[.pointer (sZ gp),.slice r.a r.n r.c,ae x.clean,.int .u64 x.fH]
def Kt (r:AI)(gp:Nat)(x:mU):List As:=av r.p 236 (aad r gp x)::aj r.a r.n r.c 319 3 (flat Jf x.ps)::x.ps.map aac
def tK (r:AI)(gp:Nat)(x:mU):As:=aU True (Kt r gp x)
noncomputable def jt (m:bN)(sc:Int):List Int:=(zE (aD m.w m.h sc) (bu m.w m.h sc) (dx m sc) (iD m sc)).map λd=>if d=bW then-1 else d
structure xJ (g:gU) (x:mU):Prop where
 len:(x.ps.length:Int)=ej g.m.w g.m.h
 old:x.clean<=g.ep/\∀q∈x.ps,q.eO<=g.ep
 all:x.clean=g.ep->∀i q,x.ps[i]? =some q->q.eO=gi g.vs i
 ok:∀i q,x.ps[i]? =some q->q.eO=gi g.vs i->q.nodes=aT g.m i/\q.ID=jt g.m i
 u:Ta.U x.fH
structure Ds (w:World) (r:AI) (gp:Nat) (x:mU):Prop where
 cell:ri w r.p (aad r gp x)
 row:Sl w r.a r.n r.c 3 Jf x.ps
 part:∀q∈x.ps,Sl w q.na q.nn q.nc 1 one q.nodes/\Sl w q.da q.dn q.dc 1 oD q.ID
 base:0<x.ps.length->∃b o,r.a=some ⟨b,o,none⟩
def Ds.fr {w w':World}{r:AI}{gp:Nat}{x:mU}(k:Ds w r gp x)(f:Fr No w w'):Ds w' r gp x:=
 ⟨k.cell.fr f,k.row.fr f,λq hq=>⟨(k.part q hq).1.fr f,(k.part q hq).2.fr f⟩,k.base⟩
section
variable {F:Nat->Prop}{W w w0:World}{L:List As}{r:AI}{gp:Nat}{x:mU}{gr:tJ}{g:gU}{a:Option Addr}{n c:Nat}{xs:List Int}{v ce:Int}
def adr (s:Sep F W w (tK r gp x::L)):Sep F W w (Kt r gp x++L):=(iT s).2
def aae (s:Sep F W w (Kt r gp x++L)):Sep F W w (tK r gp x::L):=dW s trivial
def al1 {q:zF}{i:Nat}(s:Sep F W w L)(hi:L[i]? =some (aac q)):Sl w q.na q.nn q.nc 1 one q.nodes/\Sl w q.da q.dn q.dc 1 oD q.ID:=by have s':=Hr s hi;exact⟨aL s' (i:=0) rfl cj (by decide),aL s' (i:=1) rfl uJ (by decide)⟩
def UM (s:Sep F W w (tK r gp x::L)):Ds w r gp x:=by have s:=adr s;have s:Sep F W w (av r.p 236 (aad r gp x)::aj r.a r.n r.c 319 3 (flat Jf x.ps)::(x.ps.map aac++L)):=s;have hR:=aL s (i:=1) rfl BE (by decide);refine⟨kK s (i:=0) rfl,hR,λq hq=>?_,λh=>pB s (i:=1) rfl (by rw[<-hR.len];exact h)⟩;obtain⟨i,hi⟩:=List.mem_iff_getElem?.1 hq;apply al1 s (i:=i+2);rw[List.getElem?_cons_succ,List.getElem?_cons_succ,List.getElem?_append_left (by grind),List.getElem?_map,hi];rfl
def half {i j:Nat}(h:i<j)(hj:j<1000000):IntKind.wrap .i64 (oG .u64 (IntKind.wrap .u64 (IntKind.wrap .i64 ((i:Int)+j))) 1)=(((i+j)/2:Nat):Int):=by
 rw[aF (n:=(i:Int)+j),jT (by omega)];have e:oG .u64 ((i:Int)+j) 1=((i:Int)+j)/2:=by rw[oG,show(2:Int)^(min (1:Int).toNat (IntKind.u64).bits)=2 from rfl,Int.fdiv_eq_ediv_of_nonneg _ (by decide)]
 rw[e,aF];omega
def O9 (h:xs.Pairwise (·<·)){i j:Nat}(hij:i<j)(hj:j<xs.length):gi xs i<gi xs j:=by have:=List.pairwise_iff_getElem.1 h i j (by omega) hj hij;have e1:=gM (l:=xs) (i:=i) (by omega);have e2:=gM hj;grind
def ags {Q:Int->Bool->World->Prop}(hX:Sl w a n c 1 one xs)(hn:n<1000000)(hs:xs.Pairwise (·<·))(s0:Sep F W w L)
  (hy:∀(i:Nat) w',i<n->gi xs i=v->Sep F W w' L->Fr No w w'->Q i true w')(hno:v∉xs->∀i w',Sep F W w' L->Fr No w w'->Q i false w'):m_ a n c v w Q:=by
 apply C_;have hl:=hX.len;have loop:∀(k i j:Nat) (w1:World),j<=i+k->i<=j->j<=n->(∀q,q<i->gi xs q<v)->(∀q,j<=q->q<n->¬gi xs q<v)->Sep No w w1 []->gd Q (k+1) a n c v n i j w1:=by
  have stop:∀(i:Nat) (w1:World),i<=n->(∀q,q<i->gi xs q<v)->(∀q,i<=q->q<n->¬gi xs q<v)->Sep No w w1 []->(cond (decide ((i:Int)<n)) (aH i n<|wA a λp=>af .i64 (p.add ((i:Int).toNat*1)) w1 λy=>cond (y==v) (Q i true w1) (aH i n<|wA a λp=>af .i64 (p.add ((i:Int).toNat*1)) w1 λz=>nf z w1 λr w2=>cond r (nf v w2 λr' w3=>Q i r' w3) (Q i false w2))) (Q i false w1)):=λi w1 hi h1 h2 s=>by
   have ab4:gi xs i≠v\/i=n->v∉xs:=λh hv=>by
    obtain⟨q,hq⟩:=List.mem_iff_getElem?.1 hv;have hql:=(List.getElem?_eq_some_iff.1 hq).1;rw[gM hql,Option.some.injEq]at hq;rcases Nat.lt_trichotomy q i with h3|h3|h3
    ·grind
    ·grind
    ·have h4:=h2 i (Nat.le_refl _) (by omega);have h5:=O9 hs h3 (by omega);omega
   by_cases hin:i<n
   ·rw[bJ];apply(hX.fr (au s)).pC rfl hin;by_cases hv:gi xs i=v
    ·rw[dK hv,cond_true];exact hy i w1 hin hv (bV s0 (au s)) (au s)
    ·rw[cJ hv,cond_false];apply(hX.fr (au s)).pC rfl hin;apply M3;rw[bne_self_eq_false];show cond false _ _;exact hno (ab4 (.inl hv)) i w1 (bV s0 (au s)) (au s)
   ·rw[bp];exact hno (ab4 (.inr (by omega))) i w1 (bV s0 (au s)) (au s)
  intro k;induction k with
  |zero=>
   intro i j w1 hk hij hj h1 h2 s;obtain rfl:i=j:=by omega
   show iC Q (gd Q 0) _ _ _ _ _ _ _ _;unfold iC;grind
  |succ k ih=>
   intro i j w1 hk hij hj h1 h2 s;show iC Q (gd Q (k+1)) _ _ _ _ _ _ _ _;unfold iC;by_cases hlt:i<j
   ·rw[bJ,half hlt (by omega)];refine⟨by decide,?_⟩;apply(hX.fr (au s)).pC rfl (by omega);apply Uh;apply Ag;rw[bne_self_eq_false];show cond false _ _;show cond (decide (gi xs ((i+j)/2)<v)) _ _;have UN:∀q,q<(i+j)/2->gi xs q<gi xs ((i+j)/2):=λq hq=>O9 hs hq (by omega);have atE:∀q,(i+j)/2<q->q<n->gi xs ((i+j)/2)<gi xs q:=λq hq hqn=>O9 hs hq (by omega);by_cases hc:gi xs ((i+j)/2)<v
    ·rw[bJ hc,aF];refine ih ((i+j)/2+1) j w1 (by omega) (by omega) hj (λq hq=>?_) h2 s;by_cases e:q=(i+j)/2
     ·rw[e];exact hc
     ·have:=UN q (by omega);omega
    ·rw[bp hc];refine ih i ((i+j)/2) w1 (by omega) (by omega) (by omega) h1 (λq hq hqn=>?_) s;by_cases e:q=(i+j)/2
     ·rw[e];exact hc
     ·have:=atE q (by omega) hqn;omega
   ·obtain rfl:i=j:=by omega
    rw[bp (Int.lt_irrefl _)];exact stop i w1 hj h1 h2 s
 exact⟨n+1,loop n 0 n w (by omega) (by omega) (Nat.le_refl _) (λq h=>by omega) (λq h1 h2=>by omega) bt⟩
def Yp {Q:Int->World->Prop}(k:ri w r.p (aad r gp x))(h:Q x.fH w):rA (sZ r.p) w Q:=by apply Eh;exact l9 (ah (aQ (k 3 _ rfl) h))
def Yr {Q:Int->World->Prop}(h:Q 0 w):rA Option.none w Q:=Eh _ _ _ h
def Ys {Q:Option Addr->Nat->Nat->World->Prop}{i:Nat}{q:zF}(s0:Sep F W w L)(k:Ds w r gp x)(hq:x.ps[i]? =some q)(hql:q.nodes.length<=1000000)(h:∀ra rn rc w',Sep F W w' (aj ra rn rc 3 1 (flat one q.nodes)::L)->Fr No w w'->Q ra rn rc w'):
  x_ (sZ r.p) i w Q:=by
 apply OB;have hi:=(List.getElem?_eq_some_iff.1 hq).1;have hl:=k.row.len;apply l9;rw[bp];refine ah (dy (k.cell 1 _ rfl) ?_);rw[bp];refine ah (dy (k.cell 1 _ rfl) ?_);refine k.row.El rfl (by omega) λp y hy hc=>?_;rw[hq]at hy;cases hy;apply dy (hc 1 _ rfl);have hn:=(k.part q (List.mem_of_getElem? hq)).1;refine Kg s0 hn (by rw[<-hn.len];omega) λra rc w' s f=>h ra _ rc w' s f
def wJ (r:AI)(i:Nat):Option Addr:=r.a.map λp=>p.add (i*3)
def Md {Q:Option Addr->Int->Bool->World->Prop}(s0:Sep F W w L)(k:Ds w r gp x)(kg:nv w gr g)(hgp:gp=gr.p)(hlen:(x.ps.length:Int)=ej g.m.w g.m.h)(UN:∀q∈x.ps,q.nodes.Pairwise (·<·)/\q.nodes.length<1000000)
  (hno:¬bC g.m.w g.m.h ce->∀w',Sep F W w' L->Fr No w w'->Q none 0 false w')
  (hy:∀q (i:Nat) w',x.ps[(aC g.m.w g.m.h ce).toNat]? =some q->i<q.nodes.length->gi q.nodes i=ce->Sep F W w' L->Fr No w w'->Q (wJ r (aC g.m.w g.m.h ce).toNat) i true w')
  (hn:∀q i w',x.ps[(aC g.m.w g.m.h ce).toNat]? =some q->ce∉q.nodes->Sep F W w' L->Fr No w w'->Q (wJ r (aC g.m.w g.m.h ce).toNat) i false w'):tq (sZ r.p) ce w Q:=by
 subst hgp;apply Qw;refine l9 (ah (dH (k.cell 0 _ rfl) ?_));refine jb (bt (F:=No)) kg λw1 s1 _=>?_;refine eL s1 λw1 s1 _=>?_;have f1:=au s1;by_cases hc:bC g.m.w g.m.h ce
 ·have hs:=bQ hc;obtain⟨_,h0,h1⟩:=hs;rw[bp];have k:=k.fr f1;have hl:=k.row.len;refine ah (dy (k.cell 1 _ rfl) ?_);have hrow:=k.row;obtain⟨p,hp⟩:∃p,r.a=some p:=by obtain⟨ad,h2,_⟩:=hrow.row.2 (aC g.m.w g.m.h ce).toNat _ (List.getElem?_eq_getElem (by omega));grind
  have hP:wJ r (aC g.m.w g.m.h ce).toNat=some (p.add ((aC g.m.w g.m.h ce).toNat*3)):=by unfold wJ;rw[hp];rfl
  rw[hP]at hy hn;obtain⟨ad,had,wE⟩:=hrow.row.2 (aC g.m.w g.m.h ce).toNat _ (List.getElem?_eq_getElem (by omega));rw[hp,Option.some.injEq]at had;subst had;have hq:x.ps[(aC g.m.w g.m.h ce).toNat]? =some (x.ps[(aC g.m.w g.m.h ce).toNat]'(by omega)):=List.getElem?_eq_getElem (by omega);generalize x.ps[(aC g.m.w g.m.h ce).toNat]'(by omega)=q at wE hq;have hqm:=List.mem_of_getElem? hq;refine⟨by omega,by omega,?_⟩;rw[hp];apply ah;apply OC;refine ah (dy (x:=q.na) (m:=q.nn) (q:=q.nc) ?_ ?_)
  ·rw[add_add];exact wE 1 _ rfl
  ·obtain⟨h2,h3⟩:=UN q hqm;have hn1:=(k.part q hqm).1;have hnl:=hn1.len;refine ags hn1 (by omega) h2 s1 (λi w2 h4 h5 s2 f2=>?_) λh4 i w2 s2 f2=>?_
   ·exact hy q i w2 hq (by omega) h5 (bV s0 (au s2)) (au s2)
   ·exact hn q i w2 hq h4 (bV s0 (au s2)) (au s2)
 ·have e:aC g.m.w g.m.h ce=-1:=if_neg hc;rw[e,bJ (by decide)];exact hno hc w1 (bV s0 f1) f1
end
end Go.Proofs.YtmegplnmiepfbaaGreatDoor.S
namespace Go.Proofs.YtmegplnmiepfbaaGreatDoor.S
open Go.Sx
attribute [local irreducible] af cq bq bf aB bY bT St Bx Al App cu cg b_ bR aK bw aq bP av aj aU mapA
section
variable {F:Nat->Prop}{W w w0:World}{L:List As}{r:AI}{gp:Nat}{x:mU}{gr:tJ}{g:gU}{m:bN}{sc b:Int}
def Me (g:gU)(x:mU):Prop:=∀i q,x.ps[i]? =some q->q.eO=gi g.vs i
def GM (I:xJ g x)(hf:Me g x){i:Nat}{q:zF}(h:x.ps[i]? =some q):q.nodes=aT g.m i/\q.ID=jt g.m i:=I.ok i q h (hf i q h)
def Fv:(iD m sc).length=(aT m sc).length:=by unfold iD;grind
def al2:(jt m sc).length=(aT m sc).length*(aT m sc).length:=by unfold jt zE;rw[List.length_map,List.length_map,List.length_range,Fv]
def aoi {i j:Nat}(hi:i<(aT m sc).length)(hj:j<(aT m sc).length):gi (jt m sc) (i*(aT m sc).length+j)=if pM m sc (gi (aT m sc) i) (gi (aT m sc) j)=bW then-1 else pM m sc (gi (aT m sc) i) (gi (aT m sc) j):=by
 have Tj:0<(aT m sc).length:=by omega
 have d1:(i*(aT m sc).length+j)/(aT m sc).length=i:=by rw[Nat.mul_comm,Nat.mul_add_div Tj,Nat.div_eq_of_lt hj,Nat.add_zero]
 have d2:(i*(aT m sc).length+j)%(aT m sc).length=j:=by rw[Nat.mul_comm,Nat.mul_add_mod,Nat.mod_eq_of_lt hj]
 have e:∀k,k<(aT m sc).length->gi (iD m sc) k=dD m.w m.h (gi (aT m sc) k):=λk hk=>by unfold gi iD;grind
 have h0:gi (jt m sc) (i*(aT m sc).length+j)=(λd=>if d=bW then-1 else d) (DV (aD m.w m.h sc) (bu m.w m.h sc) (dx m sc) (iD m sc) i j):=by unfold jt zE;rw[Fv];show List.getD _ _ _=_;rw[List.getD_eq_getElem?_getD,List.getElem?_map,List.getElem?_map,List.getElem?_range (ajM hi hj)];simp[Option.map_some,Option.getD_some,d1,d2]
 rw[h0];unfold DV pM;grind
def aeH {Q:Int->World->Prop}{s i j:Nat}{q:zF}(k:Ds w r gp x)(hq:x.ps[s]? =some q)(hm:c7 m)(hs:dA m.w m.h sc)(hc:q.nodes=aT m sc/\q.ID=jt m sc)(hi:i<(aT m sc).length)(hj:j<(aT m sc).length)
  (h:Q (pM m sc (gi (aT m sc) i) (gi (aT m sc) j)) w.drew):vC (wJ r s) i j w Q:=by
 apply Lq;obtain⟨ad,had,wE⟩:=k.row.row.2 s q hq;have hP:wJ r s=some (ad.add (s*3)):=by unfold wJ;rw[had];rfl
 obtain⟨k1,k2⟩:=k.part q (List.mem_of_getElem? hq);have n1:=k1.len;have n2:=k2.len;rw[hc.1]at n1;rw[hc.2,al2]at n2;have ni:=yX hs;have hsq:=ajM hi hj;have hij:=Nat.mul_le_mul (by omega) ni;rw[hP];refine ah (dy (by rw[add_add];exact wE 2 _ rfl) (ah (dy (by rw[add_add];exact wE 1 _ rfl) ?_)));rw[<-n1,show(i:Int)*(((aT m sc).length:Nat):Int)=((i*(aT m sc).length:Nat):Int) by grind,aF (n:=((i*(aT m sc).length:Nat):Int)),aF];apply EO k2.drew (k:=i*(aT m sc).length+j) (by omega) (by omega);rw[hc.2,aoi hi hj];have ha:=lY hs (fy hi);have hb:=lY hs (fy hj);have hr:=Yo hm hs ha.2 hb.2 hb.1;by_cases hI:pM m sc (gi (aT m sc) i) (gi (aT m sc) j)=bW
 ·rw[if_pos hI,bne_self_eq_false,cond_false];rw[hI]at h;exact h
 ·rw[if_neg hI,show(pM m sc (gi (aT m sc) i) (gi (aT m sc) j) !=-1)=true by grind,cond_true,aF];exact h
def aqI:∃inf,P.info? 319=some inf/\inf.size≠0:=by obtain⟨inf,u,z,k1,k2,k3,k4,k5,k6,k7⟩:=tU dU (t:=319) rfl;grind
def asn:P.underlying 354=some (.pointer 319):=by kernel_rfl
def O_ {α β:Type}{f:α->Option β}{l:List α}{i:Nat}{a:α}(h:l[i]? =some a):(l.take (i+1)).filterMap f=(l.take i).filterMap f++(f a).toList:=by rw[List.take_add_one,h,List.filterMap_append];congr 1
def aaf {Q:Option Addr->Nat->Nat->World->Prop}(s0:Sep F W w L)(k:Ds w r gr.p x)(kg:nv w gr g)(I:xJ g x)(hf:Me g x)(hb:bC g.m.w g.m.h b)(hn:nL g.m b)
  (h:∀ra rn rc w',Sep F W w' (aj ra rn rc 292 2 (flat CA (Je g.m b))::L)->Fr No w w'->Q ra rn rc w'):zj (sZ r.p) b w Q:=by
 apply Qx;have hm:=kg.ok.may;have hs:=bQ hb;have hlen:=I.len;have hps:∀(i:Nat) (q:zF),x.ps[i]? =some q->dA g.m.w g.m.h i:=λi q h=>⟨⟨hm.w,hm.h⟩,by omega,by have:=(List.getElem?_eq_some_iff.1 h).1;omega⟩;have UN:∀q∈x.ps,q.nodes.Pairwise (·<·)/\q.nodes.length<1000000:=λq hq=>by obtain⟨i,hi⟩:=List.mem_iff_getElem?.1 hq;rw[(GM I hf hi).1];have:=yX (hps i q hi);exact⟨Mc (hps i q hi),by omega⟩
 have e0:=Int.toNat_of_nonneg hs.2.1;refine Md (bt (F:=No)) k kg rfl I.len UN (λe=>(e hb).elim) (λq j w1 hq hj hgj s1 f1=>?_) λq i w1 hq Y3 s1 f1=>?_
 rotate_left
 ·have:=(GM I hf hq).1;rw[e0]at this;rw[this]at Y3;exact(Y3 hn).elim
 have hc:=GM I hf hq;rw[e0]at hc;rw[hc.1]at hj hgj;rw[Bool.not_true,cond_false];have k1:=k.fr f1;obtain⟨ad,had,wE⟩:=k1.row.row.2 _ q hq;obtain⟨pb,po,hbase⟩:=k1.base (by have:=(List.getElem?_eq_some_iff.1 hq).1;omega);have hP:wJ r (aC g.m.w g.m.h b).toNat=some (ad.add ((aC g.m.w g.m.h b).toNat*3)):=by unfold wJ;rw[had];rfl
 obtain⟨q1,q2⟩:=k1.part q (List.mem_of_getElem? hq);have hql:=q1.len;rw[hc.1]at hql;have ni:=yX hs;rw[hP];refine ah (dy (by rw[add_add];exact wE 1 _ rfl) ?_);rw[<-hql,wrap_i64 (n:=(((aT g.m (aC g.m.w g.m.h b)).length:Nat):Int)+1) (by omega) (by omega)];refine uk (x0:=((0:Int),(0:Int))) (bytes:=16) (ln:=0) (cn:=(aT g.m (aC g.m.w g.m.h b)).length+1) dU s1 rfl rfl rfl rfl rfl rfl (by decide) OW rfl (λu hu=>aiw _ u hu) rfl (by omega) (by omega) (by omega) (by simp[maxLen];omega) λob w1 s1=>?_;have s1:=s1;have f1:=au s1;have k1:=k.fr f1;obtain⟨ad',asp,aga⟩:=k1.row.row.2 _ q hq;obtain rfl:ad'=ad:=by rw[had]at asp;cases asp;rfl
 refine ah (dy (by rw[add_add];exact aga 1 _ rfl) ?_);rw[<-hP,<-hql];have sides:∀(n2 sd:Nat) (oa:Option Addr) (on oc:Nat) (w2:World),sd+n2=4->on<=300+sd->Sep No w w2 [aj oa on oc 292 2 (flat CA (aaa g.m b++QZ g.m b sd))]->
   kS Q (n2+1) (sZ r.p) b (wJ r (aC g.m.w g.m.h b).toNat) oa on oc g.m.w g.m.h sd w2:=by
  intro n2;induction n2 with
  |zero=>
   intro sd oa on oc w2 vh ho s;show qg Q (kS Q 0) _ _ _ _ _ _ _ _ _ _;unfold qg;obtain rfl:sd=4:=by omega
   exact h oa on oc w2 (dX s0 s (i:=0) rfl) (au s)
  |succ n2 ih=>
   intro sd oa on oc w2 vh ho s;show qg Q (kS Q (n2+1)) _ _ _ _ _ _ _ _ _ _;rw[qg,bJ,aF];have skip:∀(w3:World),Sep No w w3 [aj oa on oc 292 2 (flat CA (aaa g.m b++QZ g.m b sd))]->¬(0<=aX g.m.w g.m.h b sd/\nL g.m (aX g.m.w g.m.h b sd)/\cO g.m (aX g.m.w g.m.h b sd)≠cO g.m b)->
     kS Q (n2+1) (sZ r.p) b (wJ r (aC g.m.w g.m.h b).toNat) oa on oc g.m.w g.m.h ((sd:Int)+1) w3:=λw3 s hno=>by
    apply ih (sd+1) oa on oc w3 (by omega) (by omega);rw[aab];rw[O8,if_neg hno];show Sep No w w3 [aj oa on oc 292 2 (flat CA (aaa g.m b++(QZ g.m b sd++[])))];rw[List.append_nil];exact s
   refine j9 s λw2 s _=>?_;refine Md s (k.fr (au s)) (kg.fr (au s)) rfl I.len UN (λe w3 s _=>?_) (λq' i' w3 Jv hi' avB s _=>?_) λq' i' w3 Jv asq s _=>?_
   ·exact skip w3 s λe'=>e (y8 e'.1).2
   ·have hn':nL g.m (aX g.m.w g.m.h b sd)/\bC g.m.w g.m.h (aX g.m.w g.m.h b sd):=by
     have h2:=(GM I hf Jv).1;have h3:aX g.m.w g.m.h b sd∈q'.nodes:=by rw[<-avB];exact fy hi'
     rw[h2]at h3;have hok:=hps _ _ Jv;have h4:=lY hok h3;have e5:=Int.toNat_of_nonneg (bQ h4.2.1).2.1;rw[e5]at h3;exact⟨h3,h4.2.1⟩
    have hs':=bQ hn'.2;have eP:∀i,wJ r i=some ⟨pb,po+i*3,none⟩:=λi=>by unfold wJ;rw[hbase];show some (Addr.add ⟨pb,po,none⟩ (i*3))=_;rw[cf]
    have avC:∀(K:Bool->World->Prop) (x y:Operand) (wz:World),K (!decide (aC g.m.w g.m.h (aX g.m.w g.m.h b sd)=aC g.m.w g.m.h b)) wz->bR P .neq 354 x y (.pointer (wJ r (aC g.m.w g.m.h (aX g.m.w g.m.h b sd)).toNat)) (.pointer (wJ r (aC g.m.w g.m.h b).toNat)) wz K:=λK x y wz hK=>by
     rw[eP,eP];obtain⟨inf,WZ,hi2⟩:=aqI;apply ash asn WZ hi2;have e6:(po+(aC g.m.w g.m.h (aX g.m.w g.m.h b sd)).toNat*3=po+(aC g.m.w g.m.h b).toNat*3)↔aC g.m.w g.m.h (aX g.m.w g.m.h b sd)=aC g.m.w g.m.h b:=by have:=hs'.2.1;omega
     simp only[e6];exact hK
    apply avC;by_cases Q1:aC g.m.w g.m.h (aX g.m.w g.m.h b sd)=aC g.m.w g.m.h b
    ·rw[decide_eq_true Q1,Bool.not_true,cond_false];exact skip w3 s λe'=>e'.2.2 Q1
    ·rw[decide_eq_false Q1,Bool.not_false,cond_true];have k3:=k.fr (au s);refine ah (dH (k3.cell 0 _ rfl) ?_);apply ja (kg.fr (au s));refine anU (x:=(aX g.m.w g.m.h b sd,cH g.m b)) s (by omega) λoa oc w3 s=>?_;apply ih (sd+1) oa (on+1) oc w3 (by omega) (by omega);rw[aab];rw[O8,if_pos ⟨hn'.2.2.1,hn'.1,Q1⟩,<-List.append_assoc];exact s
   ·refine skip w3 s λe'=>?_;have h2:=(GM I hf Jv).1;have Aq:=(y8 e'.1).2;rw[Int.toNat_of_nonneg (bQ Aq).2.1]at h2;rw[h2]at asq;exact asq e'.2.1
 have nodes:∀(n2 i:Nat) (oa:Option Addr) (on oc:Nat) (w2:World),i+n2=(aT g.m (aC g.m.w g.m.h b)).length->on<=i->Sep No w w2 [aj oa on oc 292 2 (flat CA (((aT g.m (aC g.m.w g.m.h b)).take i).filterMap λa=>if a≠b/\pM g.m (cO g.m b) a b≠bW then some (a,pM g.m (cO g.m b) a b)else none))]->
   lR Q (n2+1) (sZ r.p) b (wJ r (aC g.m.w g.m.h b).toNat) j oa on oc q.na (aT g.m (aC g.m.w g.m.h b)).length q.nc (aT g.m (aC g.m.w g.m.h b)).length i w2:=by
  intro n2;induction n2 with
  |zero=>
   intro i oa on oc w2 hi ho s;show q9 Q (lR Q 0) _ _ _ _ _ _ _ _ _ _ _ _ _;rw[q9,bp];have k2:=k.fr (au s);refine ah (dH (k2.cell 0 _ rfl) ?_);refine jb s (kg.fr (au s)) λw2 s _=>?_;rw[List.take_of_length_le (by omega)]at s;refine⟨5,sides 4 0 oa on oc w2 rfl (by omega) ?_⟩;show Sep No w w2 [aj oa on oc 292 2 (flat CA (aaa g.m b++[]))];rw[List.append_nil];exact s
  |succ n2 ih=>
   intro i oa on oc w2 hi ho s;show q9 Q (lR Q (n2+1)) _ _ _ _ _ _ _ _ _ _ _ _ _;rw[q9,bJ,aF];have k2:=k.fr (au s);have q1:=(k2.part q (List.mem_of_getElem? hq)).1;rw[hc.1,<-hql]at q1;apply q1.pC rfl (by omega);apply aeH k2 hq hm hs hc (by omega) hj;rw[hgj];have s:=ax s;have ht:=O_ (f:=λa=>if a≠b/\pM g.m (cO g.m b) a b≠bW then some (a,pM g.m (cO g.m b) a b)else none) (gM (l:=aT g.m (aC g.m.w g.m.h b)) (i:=i) (by omega));have hne:gi (aT g.m (aC g.m.w g.m.h b)) i≠b↔i≠j:=by
    constructor
    ·rintro h1 rfl;exact h1 hgj
    ·intro h1 h2;rcases Nat.lt_or_gt_of_ne h1 with h3|h3
     ·have:=O9 (Mc hs) h3 hj;omega
     ·have:=O9 (Mc hs) h3 (by omega);omega
   have skip:¬(gi (aT g.m (aC g.m.w g.m.h b)) i≠b/\pM g.m (cO g.m b) (gi (aT g.m (aC g.m.w g.m.h b)) i) b≠bW)->lR Q (n2+1) (sZ r.p) b (wJ r (aC g.m.w g.m.h b).toNat) j oa on oc q.na (aT g.m (aC g.m.w g.m.h b)).length q.nc (aT g.m (aC g.m.w g.m.h b)).length ((i:Int)+1) w2.drew:=λhno=>by apply ih (i+1) oa on oc _ (by omega) (by omega);rw[ht,if_neg hno];show Sep No w _ [aj oa on oc 292 2 (flat CA (_++[]))];rw[List.append_nil];exact s
   by_cases hij:i=j
   ·rw[show((i:Int) !=(j:Int))=false by rw[hij];exact bne_self_eq_false _,cond_false];exact skip λe=>hne.1 e.1 hij
   ·rw[show((i:Int) !=(j:Int))=true by rw[bne_iff_ne];omega,cond_true];by_cases hI:pM g.m (cO g.m b) (gi (aT g.m (aC g.m.w g.m.h b)) i) b=bW
    ·have UO:pM g.m (aC g.m.w g.m.h b) (gi (aT g.m (aC g.m.w g.m.h b)) i) b=1099511627776:=hI;rw[UO,bne_self_eq_false,cond_false];exact skip λe=>e.2 hI
    ·have UO:pM g.m (aC g.m.w g.m.h b) (gi (aT g.m (aC g.m.w g.m.h b)) i) b≠1099511627776:=hI;rw[show(pM g.m (aC g.m.w g.m.h b) (gi (aT g.m (aC g.m.w g.m.h b)) i) b !=1099511627776)=true by rw[bne_iff_ne];exact UO,cond_true];refine anU (x:=(gi (aT g.m (aC g.m.w g.m.h b)) i,pM g.m (aC g.m.w g.m.h b) (gi (aT g.m (aC g.m.w g.m.h b)) i) b)) s (by omega) λoa oc w3 s=>?_;apply ih (i+1) oa (on+1) oc w3 (by omega) (by omega);rw[ht,if_pos ⟨hne.2 hij,hI⟩];exact s
 exact⟨_,nodes (aT g.m (aC g.m.w g.m.h b)).length 0 _ 0 _ w1 (by omega) (by omega) s1⟩
end
end Go.Proofs.YtmegplnmiepfbaaGreatDoor.S
