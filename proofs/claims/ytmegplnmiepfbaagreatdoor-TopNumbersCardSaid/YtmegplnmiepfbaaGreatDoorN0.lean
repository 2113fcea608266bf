/- Part 1 of the proof. -/
import Derived.WalkKit
import Derived.Deep.Quiet
import Derived.KernelRfl
import Derived.Below
import Derived.Laws.AppendOwn
import Derived.OpenShut
import Derived.ProofKit
import Derived.ShutString
import Derived.ChangeOld
import Derived.SizedLaws
import Derived.Laws.StructEq
import Derived.ChangeKeysEq
import Derived.Laws.BytesArg
import Derived.ChangeSlices
import Derived.Laws.MakeOwn
import Derived.Maps.Keyed
import Derived.Carry
import Derived.WideKeyPair
set_option linter.unusedVariables false
set_option linter.unusedSimpArgs false
set_option linter.defProp false
namespace Go.Sx
abbrev Env:=Nat->Value
def put (ρ:Env)(d:Option Nat)(v:Value):Env:=
 match d with
 |some t=>λs=>cond (Nat.beq s t) v (ρ s)
 |none=>ρ
def ev (ρ:Env):Operand->Value
 |.tmp t=>ρ t
 |.const v=>v
 |.global g=>.pointer (some ⟨g,0,none⟩)
 |.func f=>.func (.func f) #[] #[]
def nth:List Value->Nat->Value
 |[],_=>undef
 |v::_,0=>v
 |_::l,i+1=>nth l i
def OS (l:List Value):Env:=λt=>nth l t
inductive Lf where
 |int (k:IntKind)|bool|str|ptr|sl|map|any
inductive TD where
 |int (k:IntKind)|bool|str|ptr|map|iface|func|other
 |slice (e:TypeId)
 |arr (n:Nat) (e:TypeId)
 |struct (fs:List (Nat×TypeId))
 |uR (ts:List TypeId)
structure TI where
 d:TD
 size:Nat
 bytes:Nat
 zero:List Value
 lf:List Lf
abbrev uJ:=TypeId->Option TI
def aay:List (Nat×TI)->uJ
 |[],_=>none
 |p::l,t=>cond (Nat.beq t p.1) (some p.2) (aay l t)
def nY:TypeDesc->TD
 |.int k=>.int k
 |.bool=>.bool
 |.string=>.str
 |.pointer _=>.ptr
 |.map _ _=>.map
 |.interface _=>.iface
 |.func _ _ _=>.func
 |.slice e=>.slice e
 |.array n e=>.arr n e
 |.struct fs=>.struct (fs.toList.map λf=>(f.offset,f.type))
 |.tuple ts=>.uR ts.toList
 |_=>.other
def Uz (P:Program)(t:TypeId):Option (TD×Nat×Nat×List Value):=
 match P.info? t,P.underlying t with
 |some i,some u=>match i.zero with
  |some z=>some (nY u,i.size,i.bytes,z.cells.toList)
  |none=>none
 |_,_=>none
def wP (P:Program)(T:uJ):Prop:=∀t i,T t=some i->Uz P t=some (i.d,i.size,i.bytes,i.zero)
def EF (P:Program)(l:List (Nat×TI))(h:l.map (λp=>Uz P p.1)=l.map (λp=>some (p.2.d,p.2.size,p.2.bytes,p.2.zero))):wP P (aay l):=by
 induction l with
 |nil=>intro t i h;cases h
 |cons p l ih=>
  simp only[List.map_cons,List.cons.injEq]at h;intro t i ht;simp only[aay]at ht;cases hb:Nat.beq t p.1 with
  |true=>
   simp_all
  |false=>
   rw[hb]at ht;exact ih h.2 t i ht
def TI.agg (i:TI):Bool:=match i.d with|.arr _ _=>true|.struct _=>true|_=>false
def zc (T:uJ)(t:TypeId):List Value:=match T t with|some i=>i.zero|none=>[]
def IE:IntKind->Nat
 |.i8=>0|.i16=>1|.i32=>2|.i64=>3|.u8=>4|.u16=>5|.u32=>6|.u64=>7
def dI (k:IntKind)(v:Value)(K:Int->Prop):Prop:=match v with|.int k' n=>cond (Nat.beq (IE k') (IE k)) (K n) False|_=>False
def dB (v:Value)(K:Bool->Prop):Prop:=match v with|.bool b=>K b|_=>False
def YD (v:Value)(K:ByteArray->Prop):Prop:=match v with|.string b=>K b|_=>False
def dP (v:Value)(K:Option Addr->Prop):Prop:=match v with|.pointer p=>K p|_=>False
def dS (v:Value)(K:Option Addr->Nat->Nat->Prop):Prop:=match v with|.slice a n c=>K a n c|_=>False
def dM (v:Value)(K:Option Nat->Prop):Prop:=match v with|.map r=>K r|_=>False
def dL (v:Value)(K:List Value->Prop):Prop:=match v with|.agg cs=>K cs.toList|_=>False
def dT (v:Value)(K:List Value->Prop):Prop:=match v with|.tuple cs=>K cs.toList|_=>False
def dK (l:List Value)(K:Value->List Value->Prop):Prop:=match l with|v::r=>K v r|[]=>False
def kL (l:List Value)(K:Prop):Prop:=match l with|[]=>K|_::_=>False
def Value.plain:Value->Bool|.agg _=>false|.tuple _=>false|_=>true
def dV (v:Value)(K:Value->Prop):Prop:=cond (Value.plain v) (K v) False
def X6 (l:Lf)(v:Value)(K:Value->Prop):Prop:=match l with
 |.int k=>dI k v λn=>K (.int k n)
 |.bool=>dB v λb=>K (.bool b)
 |.str=>YD v λs=>K (.string s)
 |.ptr=>dP v λp=>K (.pointer p)
 |.sl=>dS v λa n c=>K (.slice a n c)
 |.map=>dM v λr=>K (.map r)
 |.any=>dV v K
def apt:List Lf->List Value->(List Value->Prop)->Prop
 |[],l,K=>kL l (K [])
 |f::fs,l,K=>dK l λv r=>X6 f v λv'=>apt fs r λvs=>K (v'::vs)
def d1 (T:uJ)(t:TypeId)(v:Value)(K:Value->Prop):Prop:=match T t with
 |some i=>match i.agg with
  |true=>dL v λl=>apt i.lf l λvs=>K (.agg vs.toArray)
  |false=>match i.lf with
   |f::_=>X6 f v K
   |[]=>False
 |none=>False
def dTs (T:uJ):List TypeId->List Value->(List Value->Prop)->Prop
 |[],l,K=>kL l (K [])
 |t::ts,l,K=>dK l λv r=>d1 T t v λv'=>dTs T ts r λvs=>K (v'::vs)
def dR (T:uJ)(t:TypeId)(v:Value)(K:Value->Prop):Prop:=match T t with
 |some i=>match i.d with
  |.uR ts=>dT v λl=>dTs T ts l λvs=>K (.tuple vs.toArray)
  |_=>d1 T t v K
 |none=>False
def CA {k:IntKind}{v:Value}{K:Int->Prop}(h:dI k v K):∃n,v=.int k n/\K n:=by
 cases v with
 |int k' n=>
  simp only[dI]at h;cases hb:Nat.beq (IE k') (IE k)with
  |true=>
   have:k'=k:=by cases k'<;>cases k<;>first|rfl|(exact absurd hb (by decide))
   grind
  |false=>grind
 |_=>exact h.elim
def Ht {v:Value}{K:Bool->Prop}(h:dB v K):∃b,v=.bool b/\K b:=by cases v<;>first|exact⟨_,rfl,h⟩|exact h.elim
def IF {v:Value}{K:ByteArray->Prop}(h:YD v K):∃b,v=.string b/\K b:=by cases v<;>first|exact⟨_,rfl,h⟩|exact h.elim
def Hu {v:Value}{K:Option Addr->Prop}(h:dP v K):∃b,v=.pointer b/\K b:=by cases v<;>first|exact⟨_,rfl,h⟩|exact h.elim
def yA {v:Value}{K:Option Addr->Nat->Nat->Prop}(h:dS v K):∃a n c,v=.slice a n c/\K a n c:=by cases v<;>first|exact⟨_,_,_,rfl,h⟩|exact h.elim
def Hv {v:Value}{K:Option Nat->Prop}(h:dM v K):∃b,v=.map b/\K b:=by cases v<;>first|exact⟨_,rfl,h⟩|exact h.elim
def aj8 {v:Value}{K:List Value->Prop}(h:dL v K):∃l,v=.agg l.toArray/\K l:=by cases v<;>first|exact⟨_,rfl,h⟩|exact h.elim
def acJ {v:Value}{K:List Value->Prop}(h:dT v K):∃l,v=.tuple l.toArray/\K l:=by cases v<;>first|exact⟨_,rfl,h⟩|exact h.elim
def jE {l:List Value}{K:Value->List Value->Prop}(h:dK l K):∃v r,l=v::r/\K v r:=by cases l<;>first|exact⟨_,_,rfl,h⟩|exact h.elim
def rE {l:List Value}{K:Prop}(h:kL l K):l=[]/\K:=by cases l<;>first|exact⟨rfl,h⟩|exact h.elim
def acK {v:Value}{K:Value->Prop}(h:dV v K):Value.plain v=true/\K v:=by unfold dV at h;grind
def Rb {f:Lf}{v:Value}{K:Value->Prop}(h:X6 f v K):Value.plain v=true/\K v:=by
 cases f with
 |int k=>obtain⟨n,rfl,h'⟩:=CA h;exact⟨rfl,h'⟩
 |bool=>obtain⟨n,rfl,h'⟩:=Ht h;exact⟨rfl,h'⟩
 |str=>obtain⟨n,rfl,h'⟩:=IF h;exact⟨rfl,h'⟩
 |ptr=>obtain⟨n,rfl,h'⟩:=Hu h;exact⟨rfl,h'⟩
 |sl=>obtain⟨a,n,c,rfl,h'⟩:=yA h;exact⟨rfl,h'⟩
 |map=>obtain⟨n,rfl,h'⟩:=Hv h;exact⟨rfl,h'⟩
 |any=>exact acK h
def aex:∀{fs:List Lf} {l:List Value} {K:List Value->Prop},apt fs l K->K l
 |[],l,K,h=>by obtain⟨rfl,h'⟩:=rE h;exact h'
 |f::fs,l,K,h=>by obtain⟨v,r,rfl,h'⟩:=jE h;exact aex (K:=λvs=>K (v::vs)) (Rb h').2
def KD {T:uJ}{t:TypeId}{v:Value}{K:Value->Prop}(h:d1 T t v K):K v:=by
 unfold d1 at h;split at h
 ·split at h
  ·obtain⟨l,rfl,h'⟩:=aj8 h;exact aex h'
  ·split at h
   ·exact(Rb h).2
   grind
 grind
def agM {T:uJ}:∀{ts:List TypeId} {l:List Value} {K:List Value->Prop},dTs T ts l K->K l
 |[],l,K,h=>by obtain⟨rfl,h'⟩:=rE h;exact h'
 |t::ts,l,K,h=>by obtain⟨v,r,rfl,h'⟩:=jE h;exact agM (K:=λvs=>K (v::vs)) (KD h')
def Hw {T:uJ}{t:TypeId}{v:Value}{K:Value->Prop}(h:dR T t v K):K v:=by
 unfold dR at h;split at h
 ·split at h
  ·obtain⟨l,rfl,h'⟩:=acJ h;exact agM h'
  ·exact KD h
 grind
def af (k:IntKind)(a:Addr)(w:World)(K:Int->Prop):Prop:=∃n,w.cell? a=some (.int k n)/\K n
def cA (a:Addr)(w:World)(K:Bool->Prop):Prop:=∃b,w.cell? a=some (.bool b)/\K b
def bw (a:Addr)(w:World)(K:ByteArray->Prop):Prop:=∃b,w.cell? a=some (.string b)/\K b
def bg (a:Addr)(w:World)(K:Option Addr->Prop):Prop:=∃b,w.cell? a=some (.pointer b)/\K b
def aA (a:Addr)(w:World)(K:Option Addr->Nat->Nat->Prop):Prop:=∃b n c,w.cell? a=some (.slice b n c)/\K b n c
def cq (a:Addr)(w:World)(K:Option Nat->Prop):Prop:=∃b,w.cell? a=some (.map b)/\K b
def bY (a:Addr)(w:World)(K:Value->Prop):Prop:=∃v,w.cell? a=some v/\Value.plain v=true/\K v
def ld1 (l:Lf)(a:Addr)(w:World)(K:Value->Prop):Prop:=match l with
 |.int k=>af k a w λn=>K (.int k n)
 |.bool=>cA a w λb=>K (.bool b)
 |.str=>bw a w λs=>K (.string s)
 |.ptr=>bg a w λp=>K (.pointer p)
 |.sl=>aA a w λb n c=>K (.slice b n c)
 |.map=>cq a w λr=>K (.map r)
 |.any=>bY a w K
def OT:List Lf->Addr->Nat->World->(List Value->Prop)->Prop
 |[],_,_,_,K=>K []
 |l::r,a,i,w,K=>ld1 l (a.add i) w λv=>OT r a (i+1) w λvs=>K (v::vs)
def ldT (T:uJ)(t:TypeId)(a:Addr)(w:World)(K:Value->Prop):Prop:=match T t with
 |some i=>match i.agg with
  |true=>cond (Nat.beq i.lf.length i.size) (OT i.lf a 0 w λvs=>K (.agg vs.toArray)) False
  |false=>match i.lf with
   |f::_=>ld1 f a w K
   |[]=>False
 |none=>False
def St (a:Addr)(v:Value)(w:World)(K:World->Prop):Prop:=(∃u,w.cell? a=some u)/\w.frozen? a=false/\K (w.setCell a v)
def OU:List Value->Addr->Nat->World->(World->Prop)->Prop
 |[],_,_,w,K=>K w
 |v::r,a,i,w,K=>cond (Value.plain v) (St (a.add i) v w λw'=>OU r a (i+1) w' K) False
def stT (T:uJ)(t:TypeId)(a:Addr)(v:Value)(w:World)(K:World->Prop):Prop:=match T t with
 |some i=>match i.agg with
  |true=>match v with
   |.agg cs=>cond (Nat.beq cs.toList.length i.size) (OU cs.toList a 0 w K) False
   |_=>False
  |false=>cond (Nat.beq 1 i.size) (cond (Value.plain v) (St a v w K) False) False
 |none=>False
def wA (p:Option Addr)(K:Addr->Prop):Prop:=match p with|some a=>K a|none=>False
def aK (i:Int)(n:Nat)(K:Prop):Prop:=0<=i/\i<(n:Int)/\K
def NZ (b:Int)(K:Prop):Prop:=b≠0/\K
def bR (A:Option Addr)(n c size:Nat)(lo hi:Option Int)(K:Option Addr->Nat->Nat->Prop):Prop:=
 (∀h,hi=some h->0<=h/\h<=(c:Int))/\(∀l,lo=some l->0<=l/\l<=(((hi.map Int.toNat).getD n:Nat):Int))/\
  K (if c=(lo.map Int.toNat).getD 0 then A else A.map (·.add ((lo.map Int.toNat).getD 0*size))) ((hi.map Int.toNat).getD n-(lo.map Int.toNat).getD 0) (c-(lo.map Int.toNat).getD 0)
def aL (P:Program)(s:Sem Value)(w:World)(K:Value->World->Prop):Prop:=match s.run P w with
 |.ok v w'=>K v w'
 |.halt _ _=>False
def bC (P:Program)(s:Sem Unit)(w:World)(K:World->Prop):Prop:=match s.run P w with
 |.ok _ w'=>K w'
 |.halt _ _=>False
def aq (P:Program)(f:FuncId)(args:Array Value)(w:World)(K:Value->World->Prop):Prop:=
 Calls P f args w λe w'=>match e with|.returned v=>K v w'|_=>False
def BC (k:IntKind)(a b:Int):Int:=k.wrap (BitVec.ofInt k.bits a&&&BitVec.ofInt k.bits b).toNat
def ior (k:IntKind)(a b:Int):Int:=k.wrap (BitVec.ofInt k.bits a|||BitVec.ofInt k.bits b).toNat
def agN (k:IntKind)(a b:Int):Int:=k.wrap (BitVec.ofInt k.bits a^^^BitVec.ofInt k.bits b).toNat
def BD (k:IntKind)(a b:Int):Int:=k.wrap (a*2^(min b.toNat k.bits))
def o6 (k:IntKind)(a b:Int):Int:=a.fdiv (2^(min b.toNat k.bits))
def DT (b:Int)(K:Prop):Prop:=0<=b/\K
def arith (op:BinOp)(k:IntKind)(a b:Int)(K:Value->Prop):Prop:=match op with
 |.add=>K (.int k (k.wrap (a+b)))
 |.sub=>K (.int k (k.wrap (a-b)))
 |.mul=>K (.int k (k.wrap (a*b)))
 |.quo=>NZ b (K (.int k (k.wrap (a.tdiv b))))
 |.rem=>NZ b (K (.int k (a.tmod b)))
 |.and=>K (.int k (BC k a b))
 |.or=>K (.int k (ior k a b))
 |.xor=>K (.int k (agN k a b))
 |.eql=>K (.bool (a==b))
 |.neq=>K (.bool (a !=b))
 |.lss=>K (.bool (decide (a<b)))
 |.leq=>K (.bool (decide (a<=b)))
 |.gtr=>K (.bool (decide (a>b)))
 |.geq=>K (.bool (decide (a≥b)))
 |_=>False
def DU (d:TD):Operand->Bool
 |.const v=>match d with
  |.ptr=>match v with|.pointer p=>p.isNone|_=>false
  |.slice _=>match v with|.slice p n c=>p.isNone&&Nat.beq n 0&&Nat.beq c 0|_=>false
  |.map=>match v with|.map p=>p.isNone|_=>false
  |.iface=>match v with|.nilIface=>true|_=>false
  |.func=>match v with|.nilFunc=>true|_=>false
  |_=>false
 |_=>false
def BE (v:Value)(K:Bool->Prop):Prop:=match v with|.nilIface=>K true|.iface _ _=>K false|_=>False
def dFn (v:Value)(K:Bool->Prop):Prop:=match v with|.nilFunc=>K true|.func _ _ _=>K false|_=>False
def Rc (d:TD)(v:Value)(K:Bool->Prop):Prop:=match d with
 |.ptr=>dP v λp=>K p.isNone
 |.slice _=>dS v λp _ _=>K p.isNone
 |.map=>dM v λp=>K p.isNone
 |.iface=>BE v K
 |.func=>dFn v K
 |_=>False
def S3 (op:BinOp)(r:Bool)(K:Bool->Prop):Prop:=match op with
 |.eql=>K r
 |.neq=>K (!r)
 |_=>False
def ak7 (P:Program)(d:TD)(op:BinOp)(t:TypeId)(x y:Operand)(a b:Value)(w:World)(K:Value->World->Prop):Prop:=
 match d with
 |.int _=>match a with
  |.int k a=>match b with
   |.int k' b=>match op with
    |.shl=>DT b (K (.int k (BD k a b)) w)
    |.shr=>DT b (K (.int k (o6 k a b)) w)
    |_=>cond (Nat.beq (IE k) (IE k')) (arith op k a b λv=>K v w) False
   |_=>False
  |_=>False
 |.str=>match a with
  |.string a=>match b with
   |.string b=>match op with
    |.eql=>K (.bool (a.toList==b.toList)) w
    |.neq=>K (.bool (!(a.toList==b.toList))) w
    |_=>False
   |_=>False
  |_=>False
 |.bool=>match a with
  |.bool a=>match b with
   |.bool b=>S3 op (a==b) λr=>K (.bool r) w
   |_=>False
  |_=>False
 |d=>match DU d y with
  |true=>Rc d a λr=>S3 op r λr=>K (.bool r) w
  |false=>match DU d x with
   |true=>Rc d b λr=>S3 op r λr=>K (.bool r) w
   |false=>aL P (do eqGuard op t x y a b;binOp op t a b) w λv w'=>dB v λr=>K (.bool r) w'
def Re:List (Nat×TypeId)->Nat->Option (Nat×TypeId)
 |[],_=>none
 |x::_,0=>some x
 |_::l,i+1=>Re l i
def UA:List Value->Nat->Option Value
 |[],_=>none
 |v::_,0=>some v
 |_::l,i+1=>UA l i
def Rf (T:uJ)(t:TypeId)(cs:Array Value)(off:Nat)(K:Value->Prop):Prop:=match T t with
 |some i=>match i.agg with
  |true=>K (.agg (cs.extract off (off+i.size)))
  |false=>match UA cs.toList off with
   |some v=>K v
   |none=>False
 |none=>False
def OV (T:uJ):List (Nat×TypeId)->Option (List (Nat×Nat))
 |[]=>some []
 |p::l=>match T p.2 with
  |some q=>match OV T l with
   |some r=>some ((p.1,q.size)::r)
   |none=>none
  |none=>none
def YE:List (Nat×Nat)->Nat->Option (Nat×Nat)
 |[],_=>none
 |x::_,0=>some x
 |_::l,i+1=>YE l i
def place (T:uJ)(t:TypeId):Option (Nat->Option (Nat×Nat)):=match T t with
 |some i=>match i.d with
  |.struct fs=>match OV T fs with
   |some l=>some (YE l)
   |none=>none
  |.arr _ e=>match T e with
   |some q=>some λj=>some (j*q.size,q.size)
   |none=>none
  |_=>none
 |none=>none
def qM:List Value->Nat->List Value->List Value
 |[],_,_=>[]
 |c::cs,0,[]=>c::cs
 |_::cs,0,v::vs=>v::qM cs 0 vs
 |c::cs,n+1,vs=>c::qM cs n vs
def J6 (place:Nat->Option (Nat×Nat)):List Value->List (Nat×Value)->Option (List Value)
 |cells,[]=>some cells
 |cells,(i,v)::r=>match place i with
  |none=>none
  |some p=>cond (Nat.beq v.cells.toList.length p.2) (cond (Nat.ble (p.1+v.cells.toList.length) cells.length) (J6 place (qM cells p.1 v.cells.toList) r) none) none
def isAny (T:uJ)(t:TypeId):Bool:=match T t with
 |some i=>match i.d with|.iface=>true|.func=>true|_=>false
 |none=>false
def atx (T:uJ):List (Nat×TypeId)->Nat->Bool
 |[],_=>false
 |p::_,0=>isAny T p.2
 |_::l,i+1=>atx T l i
def avI (T:uJ)(t:TypeId)(i:Nat):Bool:=match T t with
 |some q=>match q.d with
  |.struct fs=>atx T fs i
  |.arr _ e=>isAny T e
  |_=>false
 |none=>false
def J7 (any:Nat->Bool):List (Nat×Value)->(List (Nat×List Value)->Prop)->Prop
 |[],K=>K []
 |p::l,K=>cond (any p.1) (dV p.2 λv=>J7 any l λr=>K ((p.1,[v])::r)) (J7 any l λr=>K ((p.1,p.2.cells.toList)::r))
def agx (place:Nat->Option (Nat×Nat)):List Value->List (Nat×List Value)->Option (List Value)
 |cells,[]=>some cells
 |cells,(i,c)::r=>match place i with
  |none=>none
  |some p=>cond (Nat.beq c.length p.2) (cond (Nat.ble (p.1+c.length) cells.length) (agx place (qM cells p.1 c) r) none) none
def agO (place:Nat->Option (Nat×Nat)):∀(ps:List (Nat×Value)) (cells:List Value),agx place cells (ps.map λp=>(p.1,p.2.cells.toList))=J6 place cells ps
 |[],_=>rfl
 |(i,v)::r,cells=>by
  simp only[List.map_cons,agx,J6];split
  ·rfl
  ·rw[agO place r]
def ak8 (any:Nat->Bool)(ps:List (Nat×Value)):Prop:=∀p∈ps,any p.1=true->Value.plain p.2=true
def J8 {any:Nat->Bool}:∀{ps:List (Nat×Value)} {K:List (Nat×List Value)->Prop},J7 any ps K->ak8 any ps/\K (ps.map λp=>(p.1,p.2.cells.toList))
 |[],K,h=>⟨λp hp=>(List.not_mem_nil hp).elim,h⟩
 |p::l,K,h=>by
  unfold J7 at h;cases ha:any p.1 with
  |false=>
   rw[ha]at h;obtain⟨h1,h2⟩:=J8 (ps:=l) h;refine⟨λq hq e=>?_,h2⟩;rcases List.mem_cons.1 hq with rfl|hq
   ·grind
   ·exact h1 q hq e
  |true=>
   rw[ha]at h;have h:cond (Value.plain p.2) (J7 any l λr=>K ((p.1,[p.2])::r)) False:=h;cases hp:Value.plain p.2 with
   |false=>grind
   |true=>
    rw[hp]at h;obtain⟨h1,h2⟩:=J8 (ps:=l) h;have e:p.2.cells.toList=[p.2]:=by cases hv:p.2<;>rw[hv]at hp<;>first|rfl|cases hp
    refine⟨λq hq e=>?_,?_⟩
    ·rcases List.mem_cons.1 hq with rfl|hq
     ·exact hp
     ·exact h1 q hq e
    grind
def N3 {any:Nat->Bool}:∀{ps:List (Nat×Value)} {K:List (Nat×List Value)->Prop},ak8 any ps->K (ps.map λp=>(p.1,p.2.cells.toList))->J7 any ps K
 |[],K,_,h=>h
 |p::l,K,h1,h=>by
  unfold J7;have h2:ak8 any l:=λq hq=>h1 q (by simp[hq]);cases ha:any p.1 with
  |false=>exact N3 (ps:=l) h2 h
  |true=>
   have hp:=h1 p (by simp) ha;show cond (Value.plain p.2) (J7 any l λr=>K ((p.1,[p.2])::r)) False;rw[hp];have e:p.2.cells.toList=[p.2]:=by cases hv:p.2<;>rw[hv]at hp<;>first|rfl|cases hp
   rw[List.map_cons,e]at h;exact N3 (ps:=l) h2 h
def OW (ρ:Env):List (Nat×Operand)->List (Nat×Value)
 |[]=>[]
 |p::l=>(p.1,ev ρ p.2)::OW ρ l
def DV (ρ:Env):List Operand->List Value
 |[]=>[]
 |x::l=>ev ρ x::DV ρ l
def acL (z:List Value):Nat->List Value
 |0=>[]
 |n+1=>z++acL z n
def agy (P:Program)(T:uJ)(i:TI)(src dst:TypeId)(x:Value)(w:World)(K:Value->World->Prop):Prop:=match i.d with
 |.int _=>match T dst with
  |some j=>match j.d with
   |.int k=>match x with
    |.int _ n=>K (.int k (k.wrap n)) w
    |_=>False
   |_=>aL P (convert src dst x) w λv w'=>d1 T dst v λv'=>K v' w'
  |none=>False
 |_=>aL P (convert src dst x) w λv w'=>d1 T dst v λv'=>K v' w'
structure Cx where
 P:Program
 T:uJ
 F:FuncId->Bool
 n:Nat
def sb (s:ByteArray)(j:Nat):Int:=match s[j]? with|some b=>(b.toNat:Int)|none=>0
def IxV (l:List Value)(i:Nat)(K:Value->Prop):Prop:=∃v,UA l i=some v/\K v
def axz (k:IntKind)(n:Int):Int:=agN k (if k.signed then-1 else k.max) n
def tH (P:Program)(g:FuncId)(args:Array Value)(w:World)(K:Value->World->Prop):Prop:=match (callFunc g args).run P w with
 |.ok (.value v) w'=>K v w'
 |_=>False
def iv (C:Cx)(f:Value)(args:List Value)(w:World)(K:Value->World->Prop):Prop:=match f with
 |.func fn first cap=>match fn with
  |.func g=>cond (C.F g) (aq C.P g (first.toList++args++cap.toList).toArray w K) (tH C.P g (first.toList++args++cap.toList).toArray w K)
  |_=>False
 |_=>False
def yB (C:Cx)(recv:Value)(name:String)(args:List Value)(w:World)(K:Value->World->Prop):Prop:=match recv with
 |.iface t v=>∃g rv,(method (C.P.types.size+Made.depth) t v name).run C.P w=.ok (g,rv) w/\iv C (.func (.func g) #[] #[]) (rv::args) w K
 |_=>False
def Dt (x y:Int):Int:=if y<x then y else x
def imax (x y:Int):Int:=if y>x then y else x
def two (l:List Value)(K:Value->Value->Prop):Prop:=dK l λa r=>dK r λb r'=>kL r' (K a b)
def dI2 (x y:Value)(K:IntKind->Int->Int->Prop):Prop:=match x with
 |.int k a=>match y with
  |.int _ b=>K k a b
  |_=>False
 |_=>False
def acM (C:Cx)(b:Builtin)(ats:Array TypeId)(ty:TypeId)(args:List Value)(w:World)(K:Value->World->Prop):Prop:=match b with
 |.append=>aL C.P (Builtin.append_ ats ty args.toArray) w λv w'=>dS v λa n c=>K (.slice a n c) w'
 |.copy=>aL C.P (Builtin.copy_ ats ty args.toArray) w λv w'=>dI .i64 v λn=>K (.int .i64 n) w'
 |.delete=>aL C.P (Builtin.delete_ ats ty args.toArray) w λv w'=>K v w'
 |.clear=>aL C.P (Builtin.clear_ ats ty args.toArray) w λv w'=>K v w'
 |.min=>two args λx y=>dI2 x y λk x y=>K (.int k (Dt x y)) w
 |.max=>two args λx y=>dI2 x y λk x y=>K (.int k (imax x y)) w
 |.len=>match ats.toList with
  |t::_=>match args with
   |v::_=>match C.T t with
    |some i=>match i.d with
     |.slice _=>dS v λ_ n _=>K (.int .i64 n) w
     |.str=>YD v λs=>K (.int .i64 s.size) w
     |_=>aL C.P (Builtin.len_ ats ty args.toArray) w λv w'=>dI .i64 v λn=>K (.int .i64 n) w'
    |none=>False
   |[]=>False
  |[]=>False
 |.cap=>aL C.P (Builtin.cap_ ats ty args.toArray) w λv w'=>dI .i64 v λn=>K (.int .i64 n) w'
 |_=>False
def acN (v:Option Value)(K:Option Int->Prop):Prop:=match v with
 |none=>K none
 |some v=>match v with
  |.int _ n=>K (some n)
  |_=>False
def MY (ρ:Env)(x:Option Operand):Option Value:=match x with|none=>none|some x=>some (ev ρ x)
def xF (C:Cx)(o:Oper)(ρ:Env)(w:World)(K:Value->World->Prop):Prop:=
 match o.op with
 |.move x=>K (ev ρ x) w
 |.assign x=>K (ev ρ x) w
 |.pick c a b=>match ev ρ c with
  |.bool t=>cond t (K (ev ρ a) w) (K (ev ρ b) w)
  |_=>False
 |.alloc t=>match C.T t with
  |some i=>cond (Nat.beq i.zero.length i.size) (K (.pointer (some ⟨w.heap.size,0,none⟩)) (w.alloc (.cells (zc C.T t).toArray t))) False
  |none=>False
 |.box t x=>K (.pointer (some ⟨w.heap.size,0,none⟩)) (w.alloc (.cells (ev ρ x).cells t))
 |.build t ps=>match place C.T t with
  |some pl=>J7 (avI C.T t) (OW ρ ps.toList) λl=>match agx pl (zc C.T t) l with
   |some cs=>K (.agg cs.toArray) w
   |none=>False
  |none=>False
 |.buildSlice t len ps=>match C.T t with
  |some i=>match i.d with
   |.slice e=>match C.T e with
    |some q=>cond (Nat.ble (len*q.size) 16777216) (cond (Nat.beq q.zero.length q.size) (match J6 (λj=>some (j*q.size,q.size)) (acL q.zero len) (OW ρ ps.toList)with
     |some cs=>K (.slice (some ⟨w.heap.size,0,none⟩) len len) (w.alloc (.cells cs.toArray e))
     |none=>False) False) False
    |none=>False
   |_=>False
  |none=>False
 |.load t x=>match ev ρ x with
  |.pointer p=>wA p λa=>ldT C.T t a w λv=>K v w
  |_=>False
 |.store t x y=>match ev ρ x with
  |.pointer p=>wA p λa=>stT C.T t a (ev ρ y) w λw'=>K undef w'
  |_=>False
 |.nilCheck x=>match ev ρ x with
  |.pointer p=>wA p λa=>K (.pointer (some a)) w
  |_=>False
 |.binOp op t x y _=>match C.T t with
  |some i=>ak7 C.P i.d op t x y (ev ρ x) (ev ρ y) w K
  |none=>False
 |.unOp op _ x=>match op,ev ρ x with
  |.not,.bool b=>K (.bool (!b)) w
  |.neg,.int k m=>K (.int k (k.wrap (0-m))) w
  |.xor,.int k m=>K (.int k (axz k m)) w
  |_,_=>False
 |.convert src dst x=>match C.T src with
  |some i=>agy C.P C.T i src dst (ev ρ x) w K
  |none=>False
 |.makeInterface t x=>match C.T t with
  |some i=>match i.d with
   |.iface=>False
   |.other=>False
   |_=>K (.iface t (ev ρ x)) w
  |none=>False
 |.makeFunc fn first captured=>K (.func fn (DV ρ first.toList).toArray (DV ρ captured.toList).toArray) w
 |.makeMap t r=>aL C.P (Instr.makeMap t (MY ρ r)) w λv w'=>dM v λm=>K (.map m) w'
 |.makeSlice t l c=>aL C.P (Instr.makeSlice t (ev ρ l) (ev ρ c)) w λv w'=>dS v λa n c=>K (.slice a n c) w'
 |.slice t x lo hi mx=>match mx with
  |some m=>aL C.P (Instr.sliceAt t (ev ρ x) (MY ρ lo) (MY ρ hi) (some (ev ρ m))) w λv w'=>dS v λa n c=>K (.slice a n c) w'
  |none=>match C.T t with
   |some i=>match i.d with
    |.slice e=>match ev ρ x with
     |.slice a n c=>match C.T e with
      |some q=>acN (MY ρ lo) λl=>acN (MY ρ hi) λh=>bR a n c q.size l h λa' n' c'=>K (.slice a' n' c') w
      |none=>False
     |_=>False
    |_=>aL C.P (Instr.sliceAt t (ev ρ x) (MY ρ lo) (MY ρ hi) none) w λv w'=>X6 (match i.d with|.str=>.str|_=>.sl) v λv'=>K v' w'
   |none=>False
 |.fieldAddr t x f=>match C.T t with
  |some i=>match i.d with
   |.struct fs=>match Re fs f with
    |some p=>match C.T p.2 with
     |some q=>cond (Nat.beq q.size 0) False (match ev ρ x with
      |.pointer p'=>wA p' λa=>K (.pointer (some (a.add p.1))) w
      |_=>False)
     |none=>False
    |none=>False
   |_=>False
  |none=>False
 |.field t x f=>match C.T t with
  |some i=>match i.d with
   |.struct fs=>match Re fs f with
    |some p=>match ev ρ x with
     |.agg cs=>Rf C.T p.2 cs p.1 λv=>K v w
     |_=>False
    |none=>False
   |_=>False
  |none=>False
 |.indexAddr t x ix=>match C.T t with
  |some i=>match ev ρ ix with
   |.int _ j=>match i.d with
    |.slice e=>match C.T e with
     |some q=>match ev ρ x with
      |.slice a n _=>aK j n (wA a λa=>K (.pointer (some (a.add (j.toNat*q.size)))) w)
      |_=>False
     |none=>False
    |.arr n e=>match C.T e with
     |some q=>match ev ρ x with
      |.pointer p=>wA p λa=>aK j n (K (.pointer (some (a.add (j.toNat*q.size)))) w)
      |_=>False
     |none=>False
    |_=>False
   |_=>False
  |none=>False
 |.index t x ix=>match C.T t with
  |some i=>match ev ρ ix with
   |.int _ j=>match i.d with
    |.str=>match ev ρ x with
     |.string s=>aK j s.size (K (.int .u8 (sb s j.toNat)) w)
     |_=>False
    |.arr n e=>match C.T e with
     |some q=>match q.agg with
      |true=>False
      |false=>match q.lf with
       |f::_=>match ev ρ x with
        |.agg cs=>aK j n (cond (Nat.beq q.size 1) (IxV cs.toList j.toNat λv=>X6 f v λv'=>K v' w) False)
        |_=>False
       |[]=>False
     |none=>False
    |_=>False
   |_=>False
  |none=>False
 |.lookup t x ix ok=>aL C.P (Instr.lookup t (ev ρ x) (ev ρ ix) ok) w λv w'=>dR C.T o.type v λv'=>K v' w'
 |.mapUpdate t m k x=>bC C.P (Instr.mapUpdate t (ev ρ m) (ev ρ k) (ev ρ x)) w λw'=>K undef w'
 |.insert t m k x=>bC C.P (Instr.mapUpdate t (ev ρ m) (ev ρ k) (ev ρ x)) w λw'=>K undef w'
 |.typeAssert x xt t ok=>aL C.P (Instr.typeAssert (ev ρ x) xt t ok) w λv w'=>cond ok (dT v λl=>dK l λc0 l1=>d1 C.T t c0 λc0'=>dK l1 λc1 l2=>dB c1 λb=>kL l2 (K (.tuple #[c0',.bool b]) w')) (d1 C.T t v λv'=>K v' w')
 |.extract x i=>match ev ρ x with
  |.tuple vs=>match UA vs.toList i with
   |some v=>K v w
   |none=>False
  |_=>False
 |.call c=>match c.callee with
  |.builtin b=>acM C b c.argTypes o.type (DV ρ c.args.toList) w K
  |.value f=>iv C (ev ρ f) (DV ρ c.args.toList) w λv w'=>dR C.T o.type v λv'=>K v' w'
  |.invoke recv name=>yB C (ev ρ recv) name (DV ρ c.args.toList) w λv w'=>dR C.T o.type v λv'=>K v' w'
 |_=>False
def yh:List Oper->Nat->Option Nat
 |[],_=>none
 |o::_,0=>o.dst
 |_::l,i+1=>yh l i
def Il (n:Nat)(d:Option Nat):Bool:=match d with|some d=>Nat.blt d n|none=>true
def Im (C:Cx)(all:List Oper):List Oper->Env->World->(Env->World->Prop)->Prop
 |[],ρ,w,K=>K ρ w
 |o::r,ρ,w,K=>cond (Il C.n o.dst) (match o.guard with
  |none=>xF C o ρ w λv w'=>Im C all r (put ρ o.dst v) w' K
  |some p=>match yh all p.1 with
   |none=>False
   |some d=>cond (Nat.blt d C.n) (match ρ d with
    |.bool b=>match p.2 with
     |true=>cond b (xF C o (put ρ (some d) (.bool true)) w λv w'=>Im C all r (put (put ρ (some d) (.bool true)) o.dst v) w' K) (Im C all r (put (put ρ (some d) (.bool false)) o.dst undef) w K)
     |false=>cond b (Im C all r (put (put ρ (some d) (.bool true)) o.dst undef) w K) (xF C o (put ρ (some d) (.bool false)) w λv w'=>Im C all r (put (put ρ (some d) (.bool false)) o.dst v) w' K)
    |.tuple _=>Im C all r (put ρ o.dst undef) w K
    |_=>False) False) False
abbrev YF:=List (Nat×(Env->World->Prop))
def cutAt:YF->Nat->Option (Env->World->Prop)
 |[],_=>none
 |p::l,i=>cond (Nat.beq i p.1) (some p.2) (cutAt l i)
def apu (ρ:Env)(x:Operand)(v:Value):Env:=match x with|.tmp t=>put ρ (some t) v|_=>ρ
def WS (id:Nat):List Item->Option (List Item)
 |[]=>none
 |it::k=>match it with
  |.inBlock i=>cond (Nat.beq i id) (some k) (WS id k)
  |_=>WS id k
def aty (C:Cx)(D:Nat->List Oper->Env->World->(Env->World->Prop)->Prop)(id:Nat)(ops:Array Oper)(dr:Bool)(ρ:Env)(w:World)(K:Env->World->Prop):Prop:=match dr with
 |false=>Im C ops.toList ops.toList ρ w K
 |true=>D id ops.toList ρ w K
def G7 (C:Cx)(L:YF)(R:Env->World->Prop)(D:Nat->List Oper->Env->World->(Env->World->Prop)->Prop):Nat->Bool->List Item->Env->World->Prop
 |0,_,_,_,_=>False
 |_+1,_,[],ρ,w=>R ρ w
 |f+1,fst,it::k,ρ,w=>match it with
  |.inBlock _=>G7 C L R D f fst k ρ w
  |.inLoop c=>G7 C L R D f fst (.code c::.inLoop c::k) ρ w
  |.code c=>match c with
   |.skip=>G7 C L R D f fst k ρ w
   |.seq a b=>G7 C L R D f fst (.code a::.code b::k) ρ w
   |.block id c=>G7 C L R D f fst (.code c::.inBlock id::k) ρ w
   |.loop c=>G7 C L R D f fst (.code c::.inLoop c::k) ρ w
   |.exit id=>match WS id k with
    |some k'=>G7 C L R D f fst k' ρ w
    |none=>False
   |.ret=>R ρ w
   |.cond x a b=>match ev ρ x with
    |.bool t=>cond t (G7 C L R D f fst (.code a::k) (apu ρ x (.bool true)) w) (G7 C L R D f fst (.code b::k) (apu ρ x (.bool false)) w)
    |_=>False
   |.region id ops dr=>match (match fst with|true=>none|false=>cutAt L id)with
    |some q=>q ρ w
    |none=>aty C D id ops dr ρ w λρ' w'=>G7 C L R D f false k ρ' w'
   |_=>False
  |_=>False
def leaves (ids:List Nat):Nat->Bool->List Item->List (Nat×List Item)
 |0,_,_=>[]
 |_+1,_,[]=>[]
 |f+1,fst,it::k=>match it with
  |.inBlock _=>leaves ids f fst k
  |.inLoop c=>leaves ids f fst (.code c::.inLoop c::k)
  |.code c=>match c with
   |.skip=>leaves ids f fst k
   |.seq a b=>leaves ids f fst (.code a::.code b::k)
   |.block id c=>leaves ids f fst (.code c::.inBlock id::k)
   |.loop c=>leaves ids f fst (.code c::.inLoop c::k)
   |.exit id=>match WS id k with
    |some k'=>leaves ids f fst k'
    |none=>[]
   |.ret=>[]
   |.cond x a b=>leaves ids f fst (.code a::k)++leaves ids f fst (.code b::k)
   |.region id ops dr=>match (match fst with|true=>false|false=>ids.contains id)with
    |true=>[(id,it::k)]
    |false=>leaves ids f false k
   |_=>[]
  |_=>[]
structure mJ (C:Cx):Prop where
 uT:wP C.P C.T
 fns:∀f,C.F f=true->∃fn,C.P.funcs[f]? =some fn/\fn.body.isSome=true/\(fn.name== "runtime.NumGoroutine")=false
 mixed:C.P.follows .mixedOrders=true
structure Rel (n:Nat) (ρ:Env) (a:Act):Prop where
 defers:a.defers=[]
 size:a.tmps.size=n
 get:∀t,a.tmps.getD t undef=ρ t
def Rel.eval {n:Nat}{ρ:Env}{a:Act}(h:Rel n ρ a):a.eval=ev ρ:=by
 funext x;cases x with
 |tmp t=>exact h.get t
 |_=>rfl
def Rel.put {n:Nat}{ρ:Env}{a:Act}(h:Rel n ρ a){d:Option Nat}(v:Value)(hd:Il n d=true):Rel n (put ρ d v) (a.put d v):=by
 cases d with
 |none=>exact h
 |some t=>
  have ht:t<n:=by simpa[Il,Nat.blt_eq]using hd
  refine⟨h.defers,by simpa[Act.put]using h.size,λs=>?_⟩;simp only[Act.put,Sx.put];have hs:=h.get s;cases hb:Nat.beq s t with
  |true=>
   have:=Nat.eq_of_beq_eq_true hb;subst this;simp[Array.getD_eq_getD_getElem?,Array.getElem?_setIfInBounds,h.size,ht]
  |false=>
   have hne:t≠s:=λe=>by simp_all
   simp_all
def Rel.KM {n:Nat}{ρ:Env}{a:Act}(h:Rel n ρ a){t:Nat}{v:Value}(hv:ρ t=v):Rel n (Sx.put ρ (some t) v) a:=by
 refine⟨h.defers,h.size,λs=>?_⟩;simp only[Sx.put];cases hb:Nat.beq s t with
 |true=>
  have:=Nat.eq_of_beq_eq_true hb;subst this;rw[h.get,hv];rfl
 |false=>exact h.get s
section
variable {P:Program}{T:uJ}(hT:wP P T) include hT
def uL {t:TypeId}{i:TI}(h:T t=some i):∃inf u z,P.info? t=some inf/\P.underlying t=some u/\nY u=i.d/\inf.size=i.size/\inf.bytes=i.bytes/\
  inf.zero=some z/\z.cells.toList=i.zero:=by
 have h:=hT t i h;unfold Uz at h;grind
def yC {t:TypeId}{i:TI}(h:T t=some i)(w:World):(sizeOf t).run P w=.ok i.size w:=by obtain⟨inf,u,z,h1,h2,h3,h4,h5,h6,h7⟩:=uL hT h;simp[sizeOf,typeInfo,h1,h4]
def uU {t:TypeId}{i:TI}(h:T t=some i):∃u,P.underlying t=some u/\nY u=i.d/\∀w,(underlying t).run P w=.ok u w:=by obtain⟨inf,u,z,h1,h2,h3,h4,h5,h6,h7⟩:=uL hT h;exact⟨u,h2,h3,λw=>by simp[underlying,h2]⟩
end
def acO {P:Program}{T:uJ}(hT:wP P T){t:TypeId}{i:TI}(h:T t=some i):∃z,z.cells.toList=i.zero/\∀w,(zeroValue t).run P w=.ok z w:=by obtain⟨inf,u,z,h1,h2,h3,h4,h5,h6,h7⟩:=uL hT h;exact⟨z,h7,λw=>by simp[zeroValue,typeInfo,h1,h6]⟩
def J9 {u:TypeDesc}{e:TypeId}(h:nY u=.slice e):u=.slice e:=by cases u<;>simp[nY]at h;subst h;rfl
def YG {u:TypeDesc}{n:Nat}{e:TypeId}(h:nY u=.arr n e):u=.array n e:=by cases u<;>simp[nY]at h;grind
def N4 {u:TypeDesc}{fs:List (Nat×TypeId)}(h:nY u=.struct fs):∃l,u=.struct l/\l.toList.map (λf=>(f.offset,f.type))=fs:=by cases u<;>simp[nY]at h;grind
def apv {u:TypeDesc}{k:IntKind}(h:nY u=.int k):u=.int k:=by cases u<;>simp[nY]at h;subst h;rfl
def agP {u:TypeDesc}(h:nY u=.str):u=.string:=by cases u<;>simp[nY]at h;rfl
def agQ {P:Program}{T:uJ}(hT:wP P T){t:TypeId}{i:TI}(h:T t=some i)(w:World):(isAgg t).run P w=.ok i.agg w:=by obtain⟨u,hu,hd,hr⟩:=uU hT h;simp only[isAgg,Sem.run_bind,hr,Result.andThen_ok];unfold TI.agg;rw[<-hd];cases u<;>rfl
def afz {P:Program}{w:World}{a:Addr}{v:Value}(h:w.cell? a=some v):(load a).run P w=.ok v w:=by simp[h]
def agR {l:Lf}{a:Addr}{w:World}{K:Value->Prop}(h:ld1 l a w K):∃v,w.cell? a=some v/\K v:=by
 cases l with
 |int k=>obtain⟨n,h1,h2⟩:=h;grind
 |bool=>obtain⟨n,h1,h2⟩:=h;grind
 |str=>obtain⟨n,h1,h2⟩:=h;grind
 |ptr=>obtain⟨n,h1,h2⟩:=h;grind
 |sl=>obtain⟨b,n,c,h1,h2⟩:=h;grind
 |map=>obtain⟨n,h1,h2⟩:=h;grind
 |any=>obtain⟨v,h1,_,h2⟩:=h;grind
def UB {P:Program}:∀{ls:List Lf} {a:Addr} {i:Nat} {w:World} {K:List Value->Prop} (acc:Array Value),OT ls a i w K->
  ∃vs,(loadCellsFrom a i ls.length acc).run P w=.ok (acc++vs.toArray) w/\vs.length=ls.length/\K vs
 |[],a,i,w,K,acc,h=>⟨[],by simp[loadCellsFrom],rfl,h⟩
 |l::ls,a,i,w,K,acc,h=>by obtain⟨v,hc,h⟩:=agR h;obtain⟨vs,hr,hl,hk⟩:=UB (P:=P) (acc.push v) h;refine⟨v::vs,?_,by simp[hl],hk⟩;simp only[List.length_cons,loadCellsFrom,Sem.run_bind,afz hc,Result.andThen_ok,hr];simp_all
def agS {P:Program}{T:uJ}(hT:wP P T){t:TypeId}{a:Addr}{w:World}{K:Value->Prop}(h:ldT T t a w K):∃v,(loadVar t a).run P w=.ok v w/\K v:=by
 unfold ldT at h;split at h
 ·rename_i i hi;have ha:=agQ hT hi w;have hs:=yC hT hi w;split at h
  ·rename_i hag;rw[hag]at ha;cases hb:Nat.beq i.lf.length i.size with
   |false=>grind
   |true=>
    rw[hb]at h;obtain⟨vs,hr,hl,hk⟩:=UB (P:=P) #[] h;refine⟨.agg vs.toArray,?_,hk⟩;have hn:=Nat.eq_of_beq_eq_true hb;rw[hn]at hr;simp[loadVar,ha,hs,loadCells,hr]
  ·rename_i hag;rw[hag]at ha;split at h
   ·obtain⟨v,hc,hk⟩:=agR h;exact⟨v,by simp[loadVar,ha,hc],hk⟩
   grind
 grind
def amP {v:Value}(h:Value.plain v=true):v.oneCell'=true:=by cases v<;>first|rfl|(simp[Value.plain]at h)
def ajl {v:Value}(h:Value.plain v=true):v.cells=#[v]:=by cases v<;>first|rfl|(simp[Value.plain]at h)
def aj_ {P:Program}{a:Addr}{v:Value}{w:World}{K:World->Prop}(hv:Value.plain v=true)(h:St a v w K):(store a v).run P w=.ok () (w.setCell a v)/\K (w.setCell a v):=by obtain⟨⟨u,hu⟩,hf,hk⟩:=h;refine⟨?_,hk⟩;rw[run_store P w a v .plain (amP hv)];simp[hu,hf]
def UC {P:Program}:∀{vs:List Value} {a:Addr} {i:Nat} {w:World} {K:World->Prop},OU vs a i w K->∃w',(storeCells a vs i).run P w=.ok () w'/\K w'
 |[],a,i,w,K,h=>⟨w,by simp[storeCells],h⟩
 |v::vs,a,i,w,K,h=>by
  simp only[OU]at h;cases hp:Value.plain v with
  |false=>grind
  |true=>
   rw[hp]at h;have h1:St (a.add i) v w (λw'=>OU vs a (i+1) w' K):=h;obtain⟨hr,h2⟩:=aj_ (P:=P) hp h1;obtain⟨w',hr',hk⟩:=UC (P:=P) h2;exact⟨w',by simp only[storeCells,Sem.run_bind,hr,Result.andThen_ok,hr'],hk⟩
def apw {P:Program}{T:uJ}(hT:wP P T){t:TypeId}{a:Addr}{v:Value}{w:World}{K:World->Prop}(h:stT T t a v w K):∃w',(storeVar t a v).run P w=.ok () w'/\K w':=by
 unfold stT at h;split at h
 ·rename_i i hi;have hs:=yC hT hi w;split at h
  ·split at h
   ·rename_i cs;cases hb:Nat.beq cs.toList.length i.size with
    |false=>grind
    |true=>
     rw[hb]at h;obtain⟨w',hr,hk⟩:=UC (P:=P) h;have hn:=Nat.eq_of_beq_eq_true hb;refine⟨w',?_,hk⟩;simp only[Array.length_toList]at hn;simp[storeVar,hs,Value.cells,hn,hr]
   grind
  ·cases hb:Nat.beq 1 i.size with
   |false=>grind
   |true=>
    rw[hb]at h;cases hp:Value.plain v with
    |false=>grind
    |true=>
     rw[hp]at h;obtain⟨hr,hk⟩:=aj_ (P:=P) hp h;have hn:=Nat.eq_of_beq_eq_true hb;refine⟨_,?_,hk⟩;have hr':(store (a.add 0) v).run P w=.ok () (w.setCell a v):=by simpa[Addr.add]using hr
     simp[storeVar,hs,ajl hp,hn,storeCells,hr']
 grind
def uM {p:Option Addr}{K:Addr->Prop}(h:wA p K):∃a,p=some a/\K a:=by
 cases p with
 |some a=>exact⟨a,rfl,h⟩
 |none=>exact h.elim
def aeA {P:Program}{s:Sem Value}{w:World}{K:Value->World->Prop}(h:aL P s w K):∃v w',s.run P w=.ok v w'/\K v w':=by unfold aL at h;grind
def amQ {P:Program}{s:Sem Unit}{w:World}{K:World->Prop}(h:bC P s w K):∃w',s.run P w=.ok () w'/\K w':=by unfold bC at h;grind
def rW (P:Program)(r:Result Next)(K:Value->World->Prop):Prop:=match r with
 |.ok (.value v) w=>K v w
 |.ok .skip w=>K undef w
 |.ok (.enter f args) w=>aq P f args w K
 |_=>False
def rW.wp {P:Program}{o:Oper}{a:Act}{w:World}{K:Value->World->Prop}{next:Act->World->Prop}{Q:Exit->Act->World->Prop}
  (h:rW P ((execOp a.eval o).run P w) K)(hn:∀v w',K v w'->next (a.put o.dst v) w'):o.wp P a w next Q:=by
 unfold Oper.wp;generalize (execOp a.eval o).run P w=r at*;cases r with
 |ok x w'=>
  cases x<;>simp[rW]at h<;>simp[Oper.upon]
  case value v=>grind
  case skip=>grind
  case enter f args=>
   refine h.mono λe w'' he=>?_;grind
 |halt x w'=>simp[rW]at h
def MZ (ρ:Env)(l:List Operand):DV ρ l=l.map (ev ρ):=by
 induction l with
 |nil=>rfl
 |cons x l ih=>simp[DV,ih]
def aaz (ρ:Env)(l:List (Nat×Operand)):OW ρ l=l.map (λp=>(p.1,ev ρ p.2)):=by
 induction l with
 |nil=>rfl
 |cons x l ih=>simp[OW,ih]
def YH (ρ:Env)(x:Option Operand):MY ρ x=x.map (ev ρ):=by cases x<;>rfl
def WT:∀(l:List Value) (i:Nat),UA l i=l[i]?
 |[],i=>by simp[UA]
 |v::l,0=>by simp[UA]
 |v::l,i+1=>by simp[UA,WT l i]
def acP:∀(l:List (Nat×TypeId)) (i:Nat),Re l i=l[i]?
 |[],i=>by simp[Re]
 |v::l,0=>by simp[Re]
 |v::l,i+1=>by simp[Re,acP l i]
def aka:∀(l:List (Nat×Nat)) (i:Nat),YE l i=l[i]?
 |[],i=>by simp[YE]
 |v::l,0=>by simp[YE]
 |v::l,i+1=>by simp[YE,aka l i]
def akb (z:List Value):∀n,acL z n=(List.replicate n z).flatten
 |0=>rfl
 |n+1=>by simp[acL,List.replicate_succ,akb z n]
def asl {k k':IntKind}(h:Nat.beq (IE k) (IE k')=true):k=k':=by cases k<;>cases k'<;>first|rfl|(exact absurd h (by decide))
section
variable {C:Cx}{w:World}{K:Value->World->Prop}
def apx (hC:mJ C){t:TypeId}{i:TI}(hi:C.T t=some i)(h:K (.pointer (some ⟨w.heap.size,0,none⟩)) (w.alloc (.cells (zc C.T t).toArray t))):
  rW C.P ((do pure (Next.value (<-Instr.alloc t true (.tuple #[])))).run C.P w) K:=by
 obtain⟨z,hz,hr⟩:=acO hC.uT hi;have hz':zc C.T t=z.cells.toList:=by simp[zc,hi,hz]
 rw[hz',Array.toArray_toList]at h;simp[Instr.alloc,Sem.run_bind,hr,Result.andThen_ok,newVar,newRow,run_newObj,Sem.run_pure];exact h
def atz {t:TypeId}{v:Value}(h:K (.pointer (some ⟨w.heap.size,0,none⟩)) (w.alloc (.cells v.cells t))):
  rW C.P ((do pure (Next.value (<-Instr.box t v))).run C.P w) K:=by
 exact h
def asn (hC:mJ C){t:TypeId}{p:Option Addr}(h:wA p λa=>ldT C.T t a w λv=>K v w):
  rW C.P ((do pure (Next.value (<-Instr.loadAt t (.pointer p)))).run C.P w) K:=by
 obtain⟨a,rfl,h'⟩:=uM h;obtain⟨v,hr,hk⟩:=agS hC.uT h';simp[Instr.loadAt,Instr.sureAddr,Sem.run_bind,Sem.run_pure,Result.andThen_ok,hr];exact hk
def apy (hC:mJ C){t:TypeId}{p:Option Addr}{v:Value}(h:wA p λa=>stT C.T t a v w λw'=>K undef w'):
  rW C.P ((do Instr.storeAt t (.pointer p) v;pure Next.skip).run C.P w) K:=by
 obtain⟨a,rfl,h'⟩:=uM h;obtain⟨w',hr,hk⟩:=apw hC.uT h';simp[Instr.storeAt,Instr.sureAddr,Sem.run_bind,Sem.run_pure,Result.andThen_ok,hr];exact hk
def gD {s:Sem Value}(h:aL C.P s w K):rW C.P ((do pure (Next.value (<-s))).run C.P w) K:=by obtain⟨v,w',hr,hk⟩:=aeA h;simp[Sem.run_bind,hr,Result.andThen_ok,Sem.run_pure];exact hk
def akc {s:Sem Unit}(h:bC C.P s w λw'=>K undef w'):rW C.P ((do s;pure Next.skip).run C.P w) K:=by obtain⟨w',hr,hk⟩:=amQ h;simp[Sem.run_bind,hr,Result.andThen_ok,Sem.run_pure];exact hk
end
def aL.mono {P:Program}{s:Sem Value}{w:World}{K K':Value->World->Prop}(hk:∀v w',K v w'->K' v w')(h:aL P s w K):aL P s w K':=by unfold aL at*;grind
def aL.of {P:Program}{s:Sem Value}{w w':World}{v:Value}{K:Value->World->Prop}(hr:s.run P w=.ok v w')(h:K v w'):aL P s w K:=by unfold aL;grind
def apz {P:Program}{op:BinOp}{k:IntKind}{a b:Int}{w:World}{K:Value->Prop}(t:TypeId)(h1:op≠.shl)(h2:op≠.shr)(h:arith op k a b K):
  aL P (binOp op t (.int k a) (.int k b)) w λv w'=>w'=w/\K v:=by
 cases op<;>simp[arith]at h<;>first|exact(h1 rfl).elim|exact(h2 rfl).elim|exact h.elim|skip
 case quo=>exact .of (w':=w) (by simp[binOp,Op.intDiv,h.1]) ⟨rfl,h.2⟩
 case rem=>exact .of (w':=w) (by simp[binOp,Op.intDiv,h.1]) ⟨rfl,h.2⟩
 all_goals exact .of (by simp only[binOp,ne_eq,not_true_eq_false,ite_false,Op.intArith,Op.intBits,Op.intCmp];rfl) ⟨rfl,h⟩
def ajm {P:Program}{op:BinOp}{t:TypeId}{x y:Operand}{k k':IntKind}{a b:Int}{w:World}:(eqGuard op t x y (.int k a) (.int k' b)).run P w=.ok () w:=by cases op<;>rfl
def ajn {P:Program}{op:BinOp}{t:TypeId}{x y:Operand}{a b:ByteArray}{w:World}:(eqGuard op t x y (.string a) (.string b)).run P w=.ok () w:=by cases op<;>rfl
def agT {P:Program}{op:BinOp}{t:TypeId}{x y:Operand}{a b:Bool}{w:World}:(eqGuard op t x y (.bool a) (.bool b)).run P w=.ok () w:=by cases op<;>rfl
def YI {op:BinOp}{r:Bool}{K:Bool->Prop}(h:S3 op r K):(op=.eql/\K r)\/(op=.neq/\K (!r)):=by cases op<;>simp[S3]at h<;>first|exact h.elim|grind|grind
def YJ {v:Value}{K:Bool->Prop}(h:BE v K):(v=.nilIface/\K true)\/(∃t x,v=.iface t x/\K false):=by cases v<;>first|exact .inl ⟨rfl,h⟩|exact .inr ⟨_,_,rfl,h⟩|exact h.elim
def YK {v:Value}{K:Bool->Prop}(h:dFn v K):(v=.nilFunc/\K true)\/(∃f x y,v=.func f x y/\K false):=by cases v<;>first|exact .inl ⟨rfl,h⟩|exact .inr ⟨_,_,_,rfl,h⟩|exact h.elim
def nil_eq {P:Program}{d:TD}{u:TypeDesc}{t:TypeId}{x y:Operand}{a b:Value}{w:World}{K:Bool->Prop}(hu:∀w,(underlying t).run P w=.ok u w)(hd:nY u=d)
  (hc:(DU d y=true/\(∀v,y=.const v->b=v)/\Rc d a K)\/(DU d x=true/\(∀v,x=.const v->a=v)/\Rc d b K)):
  ∃r,K r/\(Op.equal t a b).run P w=.ok r w/\(∀op,(eqGuard op t x y a b).run P w=.ok () w)/\(∀op,op=.eql\/op=.neq->binOp op t a b=match op with|.eql=>(do pure (.bool (<-Op.equal t a b)))|_=>(do pure (.bool (!(<-Op.equal t a b))))):=by
 have he:∀x y,Op.equal t x y=Op.equalIn (9999+1) t x y:=λ_ _=>rfl;rcases hc with⟨h1,h2,h3⟩|⟨h1,h2,h3⟩
 ·cases y with
  |const v=>
   obtain rfl:=(h2 v rfl);simp[DU]at h1;split at h1
   ·split at h1
    ·rename_i p;obtain⟨q,rfl,hk⟩:=Hu h3;cases p with
     |some _=>cases h1
     |none=>
      refine⟨_,hk,?_,λop=>by cases op<;>rfl,λop ho=>by rcases ho with rfl|rfl<;>rfl⟩;rw[he,Op.equalIn];simp[Sem.run_bind,hu,Result.andThen_ok];cases u<;>simp[nY]at hd;cases q<;>rfl
    ·cases h1
   ·split at h1
    ·rename_i p n c;obtain⟨q,m,k,rfl,hk⟩:=yA h3;simp[Bool.and_eq_true]at h1;cases p with
     |some _=>cases h1.1.1
     |none=>
      refine⟨_,hk,?_,λop=>by cases op<;>rfl,λop ho=>by rcases ho with rfl|rfl<;>rfl⟩;rw[he,Op.equalIn];simp[Sem.run_bind,hu,Result.andThen_ok];cases u<;>simp[nY]at hd;cases q<;>rfl
    ·cases h1
   ·split at h1
    ·rename_i p;obtain⟨q,rfl,hk⟩:=Hv h3;cases p with
     |some _=>cases h1
     |none=>
      refine⟨_,hk,?_,λop=>by cases op<;>rfl,λop ho=>by rcases ho with rfl|rfl<;>rfl⟩;rw[he,Op.equalIn];simp[Sem.run_bind,hu,Result.andThen_ok];cases u<;>simp[nY]at hd;cases q<;>rfl
    ·cases h1
   ·split at h1
    ·rcases YJ h3 with⟨rfl,hk⟩|⟨_,_,rfl,hk⟩
     all_goals
      refine⟨_,hk,?_,λop=>by cases op<;>first|rfl|(unfold eqGuard;simp),λop ho=>by rcases ho with rfl|rfl<;>rfl⟩;rw[he,Op.equalIn];simp[Sem.run_bind,hu,Result.andThen_ok];cases u<;>simp[nY]at hd;rfl
    ·cases h1
   ·split at h1
    ·rcases YK h3 with⟨rfl,hk⟩|⟨_,_,_,rfl,hk⟩
     all_goals
      refine⟨_,hk,?_,λop=>by cases op<;>rfl,λop ho=>by rcases ho with rfl|rfl<;>rfl⟩;rw[he,Op.equalIn];simp[Sem.run_bind,hu,Result.andThen_ok];cases u<;>simp[nY]at hd;rfl
    ·cases h1
   ·cases h1
  |_=>cases h1
 ·cases x with
  |const v=>
   obtain rfl:=(h2 v rfl);simp[DU]at h1;split at h1
   ·split at h1
    ·rename_i p;obtain⟨q,rfl,hk⟩:=Hu h3;cases p with
     |some _=>cases h1
     |none=>
      refine⟨_,hk,?_,λop=>by cases op<;>rfl,λop ho=>by rcases ho with rfl|rfl<;>rfl⟩;rw[he,Op.equalIn];simp[Sem.run_bind,hu,Result.andThen_ok];cases u<;>simp[nY]at hd;cases q<;>rfl
    ·cases h1
   ·split at h1
    ·rename_i p n c;obtain⟨q,m,k,rfl,hk⟩:=yA h3;simp[Bool.and_eq_true]at h1;cases p with
     |some _=>cases h1.1.1
     |none=>
      refine⟨_,hk,?_,λop=>by cases op<;>rfl,λop ho=>by rcases ho with rfl|rfl<;>rfl⟩;rw[he,Op.equalIn];simp[Sem.run_bind,hu,Result.andThen_ok];cases u<;>simp[nY]at hd;cases q<;>rfl
    ·cases h1
   ·split at h1
    ·rename_i p;obtain⟨q,rfl,hk⟩:=Hv h3;cases p with
     |some _=>cases h1
     |none=>
      refine⟨_,hk,?_,λop=>by cases op<;>rfl,λop ho=>by rcases ho with rfl|rfl<;>rfl⟩;rw[he,Op.equalIn];simp[Sem.run_bind,hu,Result.andThen_ok];cases u<;>simp[nY]at hd;cases q<;>rfl
    ·cases h1
   ·split at h1
    ·rcases YJ h3 with⟨rfl,hk⟩|⟨_,_,rfl,hk⟩
     all_goals
      refine⟨_,hk,?_,λop=>by cases op<;>first|rfl|(unfold eqGuard;simp),λop ho=>by rcases ho with rfl|rfl<;>rfl⟩;rw[he,Op.equalIn];simp[Sem.run_bind,hu,Result.andThen_ok];cases u<;>simp[nY]at hd;rfl
    ·cases h1
   ·split at h1
    ·rcases YK h3 with⟨rfl,hk⟩|⟨_,_,_,rfl,hk⟩
     all_goals
      refine⟨_,hk,?_,λop=>by cases op<;>rfl,λop ho=>by rcases ho with rfl|rfl<;>rfl⟩;rw[he,Op.equalIn];simp[Sem.run_bind,hu,Result.andThen_ok];cases u<;>simp[nY]at hd;rfl
    ·cases h1
   ·cases h1
  |_=>cases h1
def aso {C:Cx}(hC:mJ C){op:BinOp}{t:TypeId}{i:TI}{x y:Operand}{a b:Value}{w:World}{K:Value->World->Prop}(hi:C.T t=some i)
  (hx:∀v,x=.const v->a=v)(hy:∀v,y=.const v->b=v)(h:ak7 C.P i.d op t x y a b w K):aL C.P (do eqGuard op t x y a b;binOp op t a b) w K:=by
 obtain⟨u,hu,hd,hr⟩:=uU hC.uT hi;unfold ak7 at h;split at h
 ·split at h
  ·rename_i k a;split at h
   ·rename_i k' b;have hg:(eqGuard op t x y (.int k a) (.int k' b)).run C.P w=.ok () w:=ajm;have go:∀{K:Value->World->Prop},aL C.P (binOp op t (.int k a) (.int k' b)) w K->aL C.P (do eqGuard op t x y (.int k a) (.int k' b);binOp op t (.int k a) (.int k' b)) w K:=by intro K h;obtain⟨v,w',hr,hk⟩:=aeA h;exact .of (by simp_all) hk
    apply go;split at h
    ·exact .of (w':=w) (by simp[binOp,Op.shift,h.1,Int.not_lt.mpr h.1,BD]) h.2
    ·exact .of (w':=w) (by simp[binOp,Op.shift,h.1,Int.not_lt.mpr h.1,o6]) h.2
    ·rename_i h1 h2;cases hb:Nat.beq (IE k) (IE k')with
     |false=>grind
     |true=>
      rw[hb]at h;obtain rfl:=asl hb;exact(apz (K:=λv=>K v w) t h1 h2 h).mono (by grind)
   grind
  grind
 ·split at h
  ·rename_i a;split at h
   ·rename_i b;have hg:(eqGuard op t x y (.string a) (.string b)).run C.P w=.ok () w:=ajn;split at h
    ·exact .of (w':=w) (by simp only[Sem.run_bind,hg,Result.andThen_ok,binOp,Op.stringOp];rfl) h
    ·exact .of (w':=w) (by simp only[Sem.run_bind,hg,Result.andThen_ok,binOp,Op.stringOp];rfl) h
    grind
   grind
  grind
 ·rename_i hdd;rw[hdd]at hd;have hub:u=.bool:=by cases u<;>simp[nY]at hd;rfl
  subst hub;split at h
  ·rename_i a;split at h
   ·rename_i b;have hg:(eqGuard op t x y (.bool a) (.bool b)).run C.P w=.ok () w:=agT;have he:(Op.equal t (.bool a) (.bool b)).run C.P w=.ok (a==b) w:=by show(Op.equalIn (9999+1) t (.bool a) (.bool b)).run C.P w=_;rw[Op.equalIn];simp_all
    rcases YI h with⟨rfl,hk⟩|⟨rfl,hk⟩
    ·exact .of (w':=w) (by simp[Sem.run_bind,hg,Result.andThen_ok,binOp,he,Sem.run_pure]) hk
    ·exact .of (w':=w) (by simp[Sem.run_bind,hg,Result.andThen_ok,binOp,he,Sem.run_pure]) hk
   grind
  grind
 ·split at h
  ·rename_i hn;have:∃r,S3 op r (λr=>K (.bool r) w)/\_:=nil_eq (x:=x) (w:=w) hr hd (.inl ⟨hn,hy,h⟩);obtain⟨r,hk,h1,h2,h3⟩:=this;rcases YI hk with⟨rfl,hk⟩|⟨rfl,hk⟩
   ·exact .of (w':=w) (by simp_all) hk
   ·exact .of (w':=w) (by simp_all) hk
  ·split at h
   ·rename_i hn;have:∃r,S3 op r (λr=>K (.bool r) w)/\_:=nil_eq (y:=y) (w:=w) hr hd (.inr ⟨hn,hx,h⟩);obtain⟨r,hk,h1,h2,h3⟩:=this;rcases YI hk with⟨rfl,hk⟩|⟨rfl,hk⟩
    ·exact .of (w':=w) (by simp_all) hk
    ·exact .of (w':=w) (by simp_all) hk
   ·exact h.mono (by intro v w' h;obtain⟨r,rfl,hk⟩:=Ht h;exact hk)
def KN:∀(cs:List Value) (n:Nat),qM cs n []=cs
 |[],_=>rfl
 |c::cs,0=>rfl
 |c::cs,n+1=>by simp[qM,KN cs n]
def S4:∀(cs:List Value) (n:Nat) (v:Value) (vs:List Value),qM cs n (v::vs)=qM (cs.set n v) (n+1) vs
 |[],_,_,_=>by simp[qM]
 |c::cs,0,v,[]=>by simp[qM,KN]
 |c::cs,0,v,u::vs=>by simp[qM]
 |c::cs,n+1,v,vs=>by simp[qM,S4 cs n v vs]
def aeB (off:Nat):∀(vs:List Value) (k:Nat) (cs:Array Value),
  ((vs.zipIdx k).foldl (λcs (p:Value×Nat)=>cs.setIfInBounds (off+p.2) p.1) cs)=(qM cs.toList (off+k) vs).toArray
 |[],k,cs=>by simp[KN]
 |v::vs,k,cs=>by simp only[List.zipIdx_cons,List.foldl_cons];rw[aeB off vs (k+1),S4];grind
def fill_eq (place:Nat->Option (Nat×Nat)):∀(ps:List (Nat×Value)) (cells cs:List Value),J6 place cells ps=some cs->Instr.fill place cells.toArray ps=some cs.toArray
 |[],cells,cs,h=>by simp only[J6,Option.some.injEq]at h;subst h;rfl
 |(i,v)::ps,cells,cs,h=>by
  simp only[J6]at h;cases hp:place i with
  |none=>grind
  |some p=>
   rw[hp]at h;simp only at h;cases hb:Nat.beq v.cells.toList.length p.2 with
   |false=>grind
   |true=>
    rw[hb]at h;cases hl:Nat.ble (p.1+v.cells.toList.length) cells.length with
    |false=>grind
    |true=>
     rw[hl]at h;have h1:=Nat.eq_of_beq_eq_true hb;have h2:=Nat.le_of_ble_eq_true hl;have:=fill_eq place ps _ cs h;simp only[Array.length_toList]at h1 h2;simp only[Instr.fill,hp];rw[if_neg (by simp;omega)];rw[<-this];congr 1;have hf:=aeB p.1 v.cells.toList 0 cells.toArray;simp only[Nat.add_zero]at hf;rw[<-hf];rw[<-Array.foldl_toList,Array.toList_zipIdx]
section
variable {C:Cx}{w:World}{K:Value->World->Prop}
def aeC (hC:mJ C):∀{l:List Field} {pls:List (Nat×Nat)},OV C.T (l.map λf=>(f.offset,f.type))=some pls->∀w,
  (l.mapM λf=>do pure (f.offset,<-sizeOf f.type):Sem (List (Nat×Nat))).run C.P w=.ok pls w
 |[],pls,h,w=>by simp only[List.map_nil,OV,Option.some.injEq]at h;subst h;rfl
 |f::l,pls,h,w=>by
  simp only[List.map_cons,OV]at h;split at h
  ·rename_i q hq;split at h
   ·rename_i r hr;simp only[Option.some.injEq]at h;have ih:=aeC hC hr w;have hs:=yC hC.uT hq w;simp_all
   ·cases h
  ·cases h
def apA (hC:mJ C){t:TypeId}{pl:Nat->Option (Nat×Nat)}{ps:List (Nat×Value)}{cs:List Value}(hp:place C.T t=some pl)(hf:J6 pl (zc C.T t) ps=some cs):
  (Instr.build t ps.toArray).run C.P w=.ok (.agg cs.toArray) w:=by
 unfold place at hp;split at hp
 ·rename_i i hi;obtain⟨u,hu,hd,hr⟩:=uU hC.uT hi;obtain⟨z,hz,hzr⟩:=acO hC.uT hi;have hz':zc C.T t=z.cells.toList:=by simp[zc,hi,hz]
  rw[hz']at hf;split at hp
  ·rename_i fs hfs;rw[hfs]at hd;obtain⟨l,rfl,hl⟩:=N4 hd;split at hp
   ·rename_i pls axA;simp only[Option.some.injEq]at hp;have hm:=aeC hC (l:=l.toList) (by rw[hl];exact axA) w;have agz:=fill_eq _ ps _ cs hf;rw[Array.toArray_toList]at agz;have hfun:(λx=>pls.toArray[x]?)=YE pls:=by funext x;simp[aka]
    obtain⟨ll⟩:=l;simp only[Instr.build,Sem.run_bind,hzr,hr,Result.andThen_ok,List.mapM_toArray,Sem.run_map,hm];simp_all
   ·cases hp
  ·rename_i n e he;rw[he]at hd;obtain rfl:=YG hd;split at hp
   ·rename_i q hq;simp only[Option.some.injEq]at hp;subst hp;have hs:=yC hC.uT hq w;have:=fill_eq _ ps _ cs hf;simp[Instr.build,hzr,hr,hs,this]
   ·cases hp
  ·cases hp
 ·cases hp
end
def amS (z:List Value):∀(n:Nat),((Array.range (n*z.length)).map (z.toArray[·%z.toArray.size]!)).toList=(List.replicate n z).flatten:=by
 intro n;apply List.ext_getElem?;intro i;by_cases hz:z.length=0
 ·simp_all
 ·have hl:((List.replicate n z).flatten).length=n*z.length:=by simp
  by_cases hi:i<n*z.length
  ·have h1:((Array.range (n*z.length)).map (z.toArray[·%z.toArray.size]!)).toList[i]? =some (z.toArray[i%z.toArray.size]!):=by simp[hi]
   have h2:∀(n i:Nat),i<n*z.length->(List.replicate n z).flatten[i]? =some (z.toArray[i%z.toArray.size]!):=by
    intro n;induction n with
    |zero=>grind
    |succ n ih=>
     intro i h;rw[List.replicate_succ,List.flatten_cons,List.getElem?_append];by_cases hlt:i<z.length
     ·simp[Nat.mod_eq_of_lt hlt,hlt]
     ·rw[if_neg hlt];rw[ih (i-z.length) (by grind)];have:(i-z.length)%z.length=i%z.length:=by
       conv=>rhs;rw[show i=(i-z.length)+z.length by omega]
       simp
      simp[this]
   grind
  grind
section
variable {C:Cx}{w:World}{K:Value->World->Prop}
def afA (hC:mJ C){t e:TypeId}{i q:TI}{len:Nat}{ps:List (Nat×Value)}{cs:List Value}(hi:C.T t=some i)(hd:i.d=.slice e)(hq:C.T e=some q)
  (hn:Nat.ble (len*q.size) 16777216=true)(hz:q.zero.length=q.size)(hf:J6 (λj=>some (j*q.size,q.size)) (acL q.zero len) ps=some cs):
  (Instr.buildSlice t len ps.toArray).run C.P w=.ok (.slice (some ⟨w.heap.size,0,none⟩) len len) (w.alloc (.cells cs.toArray e)):=by
 obtain⟨u,hu,BF,hr⟩:=uU hC.uT hi;rw[hd]at BF;obtain rfl:=J9 BF;have hs:=yC hC.uT hq w;obtain⟨z,hzz,hzr⟩:=acO hC.uT hq;have hn:=Nat.le_of_ble_eq_true hn;have agz:=fill_eq _ ps _ cs hf;have apB:(acL q.zero len).toArray=(Array.range (len*q.size)).map (z.cells[·%z.cells.size]!):=by rw[akb,<-amS q.zero len,Array.toArray_toList,hz,<-hzz]
 rw[apB]at agz;simp only[Instr.buildSlice,Sem.run_bind,hr,Result.andThen_ok,hs];rw[if_neg (by omega)];by_cases h0:len*q.size=0
 ·have amT:Instr.fill (λi=>some (i*q.size,q.size)) ((Array.range (len*q.size)).map (λx=>(#[]:Array Value)[x%(#[]:Array Value).size]!)) ps=some cs.toArray:=by grind
  simp only[h0,if_true]at amT⊢;simp only[Sem.run_pure,Result.andThen_ok,amT,newRow,Sem.run_bind,run_newObj];rfl
 ·rw[if_neg h0];simp only[Sem.run_bind,hzr,Sem.run_pure,Result.andThen_ok,agz,newRow,run_newObj];rfl
def apC (hC:mJ C){src dst:TypeId}{x:Value}{i:TI}(hi:C.T src=some i)(h:agy C.P C.T i src dst x w K):aL C.P (convert src dst x) w K:=by
 unfold agy at h;split at h
 ·split at h
  ·rename_i k n j hj;obtain⟨u,hu,hd,hr⟩:=uU hC.uT hj;obtain⟨u',hu',hd',hr'⟩:=uU hC.uT hi;split at h
   ·rename_i k' hk;rw[hk]at hd;obtain rfl:=apv hd;split at h
    ·rename_i k0 n;refine .of (w':=w) (v:=.int k' (k'.wrap n)) ?_ h;simp only[convert,Sem.run_bind,hr',hr,Result.andThen_ok];cases u'<;>rfl
    grind
   ·exact h.mono (by intro v w' h;exact KD h)
  grind
 ·exact h.mono (by intro v w' h;exact KD h)
def asp (hC:mJ C){t:TypeId}{cs:Array Value}{off:Nat}{K:Value->Prop}(h:Rf C.T t cs off K):∃v,(part t cs off).run C.P w=.ok v w/\K v:=by
 unfold Rf at h;split at h
 ·rename_i i hi;have ha:=agQ hC.uT hi w;have hs:=yC hC.uT hi w;split at h
  ·rename_i hag;rw[hag]at ha;exact⟨_,by simp[part,ha,hs],h⟩
  ·rename_i hag;rw[hag]at ha;split at h
   ·rename_i v hv;rw[WT,Array.getElem?_toList]at hv;exact⟨v,by simp[part,ha,hv],h⟩
   grind
 grind
def WU {P:Program}{x:Option Value}{Kp:Option Int->Prop}(h:acN x Kp):∃l,Kp l/\((x=none/\l=none)\/∃k n,x=some (.int k n)/\l=some n):=by unfold acN at h;grind
def Jl {P:Program}{k:IntKind}{n:Int}{y:Nat}{code:BoundsCode}{w:World}(h0:0<=n)(h1:n<=(y:Int)):(Instr.sliceBound (.int k n) y code).run P w=.ok n.toNat w:=by simp[Instr.sliceBound,asIntOf,h0,h1]
def apD (hC:mJ C){t e:TypeId}{i q:TI}{a:Option Addr}{n c:Nat}{lo hi:Option Value}(hi':C.T t=some i)(hd:i.d=.slice e)(hq:C.T e=some q)
  (h:acN lo λl=>acN hi λh=>bR a n c q.size l h λa' n' c'=>K (.slice a' n' c') w):aL C.P (Instr.sliceAt t (.slice a n c) lo hi none) w K:=by
 obtain⟨u,hu,BF,hr⟩:=uU hC.uT hi';rw[hd]at BF;obtain rfl:=J9 BF;have hs:=yC hC.uT hq w;obtain⟨l,h,hl⟩:=WU (P:=C.P) h;obtain⟨hh,h,hhi⟩:=WU (P:=C.P) h;obtain⟨b1,b2,h⟩:=h;have hb:(Instr.sliceBounds true n c lo hi none).run C.P w=.ok ((l.map Int.toNat).getD 0,(hh.map Int.toNat).getD n,c) w:=by
  rcases hhi with⟨rfl,rfl⟩|⟨k,m,rfl,rfl⟩
  ·rcases hl with⟨rfl,rfl⟩|⟨k',m',rfl,rfl⟩
   ·simp[Instr.sliceBounds]
   ·have:=b2 m' rfl;simp only[Option.map_none,Option.getD_none]at this;simp[Instr.sliceBounds,Jl this.1 this.2]
  ·have hm:=b1 m rfl;have e1:=Jl (P:=C.P) (k:=k) (code:=.sliceAcap) (w:=w) hm.1 hm.2;rcases hl with⟨rfl,rfl⟩|⟨k',m',rfl,rfl⟩
   ·simp[Instr.sliceBounds,e1]
   ·have:=b2 m' rfl;simp only[Option.map_some,Option.getD_some]at this;have e2:=Jl (P:=C.P) (k:=k') (code:=.sliceB) (w:=w) this.1 this.2;simp[Instr.sliceBounds,e1,e2]
 refine .of ?_ h;simp only[Instr.sliceAt,Instr.slice,Sem.run_bind,hr,Result.andThen_ok,hb,hs,Sem.run_pure]
def agW (hC:mJ C){t:TypeId}{i q:TI}{fs:List (Nat×TypeId)}{f:Nat}{p:Nat×TypeId}{a:Addr}(hi:C.T t=some i)(hd:i.d=.struct fs)(hp:Re fs f=some p)
  (hq:C.T p.2=some q)(hz:Nat.beq q.size 0=false):(Instr.fieldAt t (.pointer (some a)) f).run C.P w=.ok (.pointer (some (a.add p.1))) w:=by
 obtain⟨u,hu,BF,hr⟩:=uU hC.uT hi;rw[hd]at BF;obtain⟨l,rfl,hl⟩:=N4 BF;rw[acP,<-hl,List.getElem?_map]at hp;have hs:=yC hC.uT hq w;cases hf:l.toList[f]? with
 |none=>grind
 |some fl=>
  rw[hf]at hp;simp only[Option.map_some,Option.some.injEq]at hp;subst hp;rw[Array.getElem?_toList]at hf;have hne:q.size≠0:=λe=>by simp_all
  simp[Instr.fieldAt,hr,hf,Instr.sureAddr,fieldPlace,hs,hne]
def apE (hC:mJ C){t:TypeId}{i:TI}{fs:List (Nat×TypeId)}{f:Nat}{p:Nat×TypeId}{cs:Array Value}(hi:C.T t=some i)(hd:i.d=.struct fs)(hp:Re fs f=some p)
  (h:Rf C.T p.2 cs p.1 λv=>K v w):aL C.P (Instr.field t (.agg cs) f) w K:=by
 obtain⟨u,hu,BF,hr⟩:=uU hC.uT hi;rw[hd]at BF;obtain⟨l,rfl,hl⟩:=N4 BF;rw[acP,<-hl,List.getElem?_map]at hp;obtain⟨v,hv,hk⟩:=asp (w:=w) hC h;cases hf:l.toList[f]? with
 |none=>grind
 |some fl=>
  rw[hf]at hp;simp only[Option.map_some,Option.some.injEq]at hp;subst hp;rw[Array.getElem?_toList]at hf;exact .of (w':=w) (by simp[Instr.field,hr,hf,asAgg,hv]) hk
def ak_ (hC:mJ C){t e:TypeId}{i q:TI}{a:Option Addr}{n c:Nat}{k:IntKind}{j:Int}(hi:C.T t=some i)(hd:i.d=.slice e)(hq:C.T e=some q)
  (h:aK j n (wA a λa=>K (.pointer (some (a.add (j.toNat*q.size)))) w)):aL C.P (Instr.indexAt t (.slice a n c) (.int k j)) w K:=by
 obtain⟨u,hu,BF,hr⟩:=uU hC.uT hi;rw[hd]at BF;obtain rfl:=J9 BF;have hs:=yC hC.uT hq w;obtain⟨h0,h1,h⟩:=h;obtain⟨ad,rfl,h'⟩:=uM h;exact .of (w':=w) (by simp[Instr.indexAt,asIntOf,hr,hs,h0,h1]) h'
def ajo (hC:mJ C){t e:TypeId}{i q:TI}{p:Option Addr}{n:Nat}{k:IntKind}{j:Int}(hi:C.T t=some i)(hd:i.d=.arr n e)(hq:C.T e=some q)
  (h:wA p λa=>aK j n (K (.pointer (some (a.add (j.toNat*q.size)))) w)):aL C.P (Instr.indexAt t (.pointer p) (.int k j)) w K:=by
 obtain⟨u,hu,BF,hr⟩:=uU hC.uT hi;rw[hd]at BF;obtain rfl:=YG BF;have hs:=yC hC.uT hq w;obtain⟨a,rfl,h'⟩:=uM h;obtain⟨h0,h1,h⟩:=h';exact .of (w':=w) (by simp[Instr.indexAt,asIntOf,hr,hs,h0,h1,Instr.sureAddr]) h
def ajp (hC:mJ C){t e:TypeId}{i q:TI}{cs:Array Value}{n:Nat}{k:IntKind}{j:Int}(hi:C.T t=some i)(hd:i.d=.arr n e)(hq:C.T e=some q)(hag:q.agg=false){f:Lf}
  (h:aK j n (cond (Nat.beq q.size 1) (IxV cs.toList j.toNat λv=>X6 f v λv'=>K v' w) False)):aL C.P (Instr.index t (.agg cs) (.int k j)) w K:=by
 obtain⟨u,hu,BF,hr⟩:=uU hC.uT hi;rw[hd]at BF;obtain rfl:=YG BF;have hs:=yC hC.uT hq w;have ha:=agQ hC.uT hq w;rw[hag]at ha;obtain⟨h0,h1,h⟩:=h;cases hb:Nat.beq q.size 1 with
 |false=>grind
 |true=>
  rw[hb]at h;have h1':=Nat.eq_of_beq_eq_true hb;obtain⟨v,hv,h⟩:=h;rw[WT,Array.getElem?_toList]at hv;exact .of (w':=w) (by simp[Instr.index,asIntOf,hr,hs,h0,h1,part,ha,h1',hv]) (Rb h).2
def ajq (hC:mJ C){t:TypeId}{i:TI}{s:ByteArray}{k:IntKind}{j:Int}(hi:C.T t=some i)(hd:i.d=.str)
  (h:aK j s.size (K (.int .u8 (sb s j.toNat)) w)):aL C.P (Instr.index t (.string s) (.int k j)) w K:=by
 obtain⟨u,hu,BF,hr⟩:=uU hC.uT hi;rw[hd]at BF;obtain rfl:=agP BF;obtain⟨h0,h1,h⟩:=h;refine .of (w':=w) ?_ h;have hlt:j.toNat<s.size:=by omega
 have hg:s[j.toNat]? =some s[j.toNat]:=by simp[hlt]
 simp[Instr.index,asIntOf,hr,h0,hg,sb]
end
def aq.mono {P:Program}{f:FuncId}{args:Array Value}{w:World}{K K':Value->World->Prop}(hk:∀v w',K v w'->K' v w')(h:aq P f args w K):aq P f args w K':=
 Calls.mono h λe w' he=>by grind
section
variable {C:Cx}{w:World}{K:Value->World->Prop}
def agX (hC:mJ C){f:Value}{args:List Value}(h:iv C f args w K):
  ∃d,(Deferred.ofValue f args.toArray).run C.P w=.ok d w/\rW C.P ((invoke d.target d.args).run C.P w) K:=by
 unfold iv at h;split at h
 ·rename_i fn first cap
  split at h
  ·rename_i g;have hargs:first++args.toArray++cap=(first.toList++args++cap.toList).toArray:=by grind
   cases hb:C.F g with
   |false=>
    rw[hb]at h;refine⟨{target:=.fn (.func g) cap,args:=first++args.toArray},rfl,?_⟩;have:(invoke (.fn (.func g) cap) (first++args.toArray)).run C.P w=(callFunc g (first.toList++args++cap.toList).toArray).run C.P w:=by simp only[invoke];rw[hargs]
    unfold tH at h;unfold rW;grind
   |true=>
    rw[hb]at h;obtain⟨fn,h1,h2,h3⟩:=hC.fns g hb;refine⟨{target:=.fn (.func g) cap,args:=first++args.toArray},rfl,?_⟩;have hn:fn.body.isNone=false:=by simp_all
    have:(invoke (.fn (.func g) cap) (first++args.toArray)).run C.P w=.ok (.enter g (first.toList++args++cap.toList).toArray) w:=by simp only[invoke,callFunc,Sem.run_bind,run_program,Result.andThen_ok,h1];rw[if_neg (by grind),if_neg (by simp[hn])];simp_all
    rw[this];exact h
  grind
 grind
def asq (hC:mJ C){recv:Value}{name:String}{args:List Value}(h:yB C recv name args w K):
  rW C.P ((invoke (.fn (.method name) #[]) (#[recv]++args.toArray)).run C.P w) K:=by
 unfold yB at h;split at h
 ·rename_i t v;obtain⟨g,rv,hm,hk⟩:=h;obtain⟨d,hd,hk⟩:=agX hC hk;have e0:(#[Value.iface t v]++args.toArray)[0]? =some (.iface t v):=by simp
  have e1:(#[Value.iface t v]++args.toArray).extract 1 (#[Value.iface t v]++args.toArray).size=args.toArray:=by grind
  have hd':d={target:=.fn (.func g) #[],args:=#[]++(rv::args).toArray}:=by have:(Deferred.ofValue (.func (.func g) #[] #[]) (rv::args).toArray).run C.P w=.ok {target:=.fn (.func g) #[],args:=#[]++(rv::args).toArray} w:=rfl;grind
  have e2:(invoke (.fn (.method name) #[]) (#[.iface t v]++args.toArray)).run C.P w=(callFunc g (#[rv]++args.toArray)).run C.P w:=by simp only[invoke,e0,e1,callMethod,Sem.run_bind,run_program,Result.andThen_ok,hm]
  have e3:(invoke (.fn (.func g) #[]) (#[]++(rv::args).toArray)).run C.P w=(callFunc g (#[rv]++args.toArray)).run C.P w:=by simp only[invoke];grind
  grind
 grind
def atB (hC:mJ C){b:Builtin}{ats:Array TypeId}{ty:TypeId}{cs:Array Bool}{args:List Value}(h:acM C b ats ty args w K):
  rW C.P ((builtin b ats ty cs args.toArray).run C.P w) K:=by
 unfold acM at h;split at h
 ·exact gD (h.mono (by intro v w' h;obtain⟨a,n,c,rfl,hk⟩:=yA h;exact hk))
 ·exact gD (h.mono (by intro v w' h;obtain⟨n,rfl,hk⟩:=CA h;exact hk))
 ·exact gD h
 ·exact gD h
 ·obtain⟨x,r,rfl,h1⟩:=jE h;obtain⟨y,r',rfl,h2⟩:=jE h1;obtain⟨rfl,h3⟩:=rE h2;have h:=h3;unfold dI2 at h;split at h
  ·split at h
   ·exact gD (.of (w':=w) (by simp only[Builtin.min_,List.toList_toArray,List.foldlM_cons,List.foldlM_nil,Builtin.min2,Sem.run_bind,Sem.run_pure,Result.andThen_ok];rfl) h)
   grind
  grind
 ·obtain⟨x,r,rfl,h1⟩:=jE h;obtain⟨y,r',rfl,h2⟩:=jE h1;obtain⟨rfl,h3⟩:=rE h2;have h:=h3;unfold dI2 at h;split at h
  ·split at h
   ·exact gD (.of (w':=w) (by simp only[Builtin.max_,List.toList_toArray,List.foldlM_cons,List.foldlM_nil,Builtin.max2,Sem.run_bind,Sem.run_pure,Result.andThen_ok];rfl) h)
   grind
  grind
 ·split at h
  ·rename_i t ts hts;split at h
   ·split at h
    ·rename_i i hi;obtain⟨u,hu,hd,hr⟩:=uU hC.uT hi;have hg:ats[0]? =some t:=by rw[<-Array.getElem?_toList,hts];rfl
     split at h
     ·rename_i e he;rw[he]at hd;obtain rfl:=J9 hd;obtain⟨a,n,c,rfl,h⟩:=yA h;refine gD (.of (w':=w) (v:=.int .i64 n) ?_ h);simp[Builtin.len_,hg,hr,goInt]
     ·rename_i he;rw[he]at hd;obtain rfl:=agP hd;obtain⟨s,rfl,h⟩:=IF h;refine gD (.of (w':=w) (v:=.int .i64 s.size) ?_ h);simp[Builtin.len_,hg,hr,goInt]
     ·exact gD (h.mono (by intro v w' h;obtain⟨n,rfl,hk⟩:=CA h;exact hk))
    grind
   grind
  grind
 ·exact gD (h.mono (by intro v w' h;obtain⟨n,rfl,hk⟩:=CA h;exact hk))
 grind
end
def pU {b:Bool}{p:Prop}(h:cond b p False):b=true/\p:=by grind
def Rh {C:Cx}(hC:mJ C){o:Oper}{ρ:Env}{w:World}{K:Value->World->Prop}(h:xF C o ρ w K):rW C.P ((execOp (ev ρ) o).run C.P w) K:=by
 unfold xF at h;unfold execOp;cases hop:o.op<;>simp only[hop]at h⊢<;>try exact h.elim
 case move x=>exact h
 case assign x=>exact h
 case pick c a b=>
  split at h
  ·rename_i t ht;rw[ht];cases t
   ·exact h
   ·exact h
  grind
 case alloc t=>
  split at h
  ·rename_i i hi;exact apx hC hi (pU h).2
  grind
 case box t x=>exact atz h
 case build t ps=>
  split at h
  ·rename_i pl IG;obtain⟨_,h⟩:=J8 h;rw[agO]at h;split at h
   ·rename_i cs hcs;rw[aaz]at hcs;refine gD (.of (w':=w) (v:=.agg cs.toArray) ?_ h);have:=apA (w:=w) hC IG hcs;rw[<-this];congr 2;grind
   grind
  grind
 case buildSlice t len ps=>
  split at h
  ·rename_i i hi;split at h
   ·rename_i e he;split at h
    ·rename_i q hq;obtain⟨h1,h⟩:=pU h;obtain⟨h2,h⟩:=pU h;split at h
     ·rename_i cs hcs;rw[aaz]at hcs;have:=afA (w:=w) hC hi he hq h1 (Nat.eq_of_beq_eq_true h2) hcs;refine gD (.of (w':=w.alloc (.cells cs.toArray e)) (v:=.slice (some ⟨w.heap.size,0,none⟩) len len) ?_ h);rw[<-this];congr 2;grind
     grind
    grind
   grind
  grind
 case load t x=>
  split at h
  ·rename_i p hp;rw[hp];exact asn hC h
  grind
 case store t x y=>
  split at h
  ·rename_i p hp;rw[hp];exact apy hC h
  grind
 case nilCheck x=>
  split at h
  ·rename_i p hp;obtain⟨a,rfl,h'⟩:=uM h;rw[hp];exact h'
  grind
 case binOp op t x y yt=>
  split at h
  ·rename_i i hi;exact gD (aso hC hi (by rintro v rfl;rfl) (by rintro v rfl;rfl) h)
  grind
 case unOp op t x=>
  split at h
  ·rename_i b hb;rw[hb];exact h
  ·rename_i k m hb;rw[hb];exact h
  ·rename_i k m hb;rw[hb];exact h
  grind
 case convert src dst x=>
  split at h
  ·rename_i i hi;exact gD (apC hC hi h)
  grind
 case makeInterface t x=>
  split at h
  ·rename_i i hi;obtain⟨u,hu,hd,hr⟩:=uU hC.uT hi;split at h
   ·exact h.elim
   ·exact h.elim
   ·rename_i h1 h2;refine gD (.of (w':=w) (v:=.iface t (ev ρ x)) ?_ h);simp only[Instr.makeInterface,Sem.run_bind,hr,Result.andThen_ok];split
    ·rename_i ms;exact(h1 hd.symm).elim
    ·rfl
  grind
 case makeFunc fn first captured=>
  refine gD (.of (w':=w) (v:=.func fn (DV ρ first.toList).toArray (DV ρ captured.toList).toArray) ?_ h);simp only[Instr.makeFunc,Sem.run_pure,MZ];congr 2<;>(grind)
 case makeMap t r=>exact gD (by rw[YH]at h;exact h.mono (by intro v w' h;obtain⟨n,rfl,hk⟩:=Hv h;exact hk))
 case makeSlice t l c=>exact gD (h.mono (by intro v w' h;obtain⟨a,n,c,rfl,hk⟩:=yA h;exact hk))
 case slice t x lo hi mx=>
  split at h
  ·simp only[YH]at h;exact gD (h.mono (by intro v w' h;obtain⟨a,n,c,rfl,hk⟩:=yA h;exact hk))
  ·split at h
   ·rename_i i hi';simp only[YH]at h;split at h
    ·rename_i e he;split at h
     ·rename_i a n c hx;split at h
      ·rename_i q hq;rw[hx];exact gD (apD hC hi' he hq h)
      grind
     grind
    ·exact gD (h.mono (by intro v w' h;exact(Rb h).2))
   grind
 case fieldAddr t x f=>
  split at h
  ·rename_i i hi;split at h
   ·rename_i fs hfs;split at h
    ·rename_i p hp;split at h
     ·rename_i q hq;cases hz:Nat.beq q.size 0 with
      |true=>grind
      |false=>
       rw[hz]at h;split at h
       ·rename_i p' hp';obtain⟨a,rfl,h'⟩:=uM h;rw[hp'];exact gD (.of (agW hC hi hfs hp hq hz) h')
       grind
     grind
    grind
   grind
  grind
 case field t x f=>
  split at h
  ·rename_i i hi;split at h
   ·rename_i fs hfs;split at h
    ·rename_i p hp;split at h
     ·rename_i cs hcs;rw[hcs];exact gD (apE hC hi hfs hp h)
     grind
    grind
   grind
  grind
 case indexAddr t x ix=>
  split at h
  ·rename_i i hi;split at h
   ·rename_i k j hj;split at h
    ·rename_i e he;split at h
     ·rename_i q hq;split at h
      ·rename_i a n c hx;rw[hx,hj];exact gD (ak_ hC hi he hq h)
      grind
     grind
    ·rename_i n e he;split at h
     ·rename_i q hq;split at h
      ·rename_i p hx;rw[hx,hj];exact gD (ajo hC hi he hq h)
      grind
     grind
    grind
   grind
  grind
 case index t x ix=>
  split at h
  ·rename_i i hi;split at h
   ·rename_i k j hj;split at h
    ·rename_i he;split at h
     ·rename_i s hx;rw[hx,hj];exact gD (ajq hC hi he h)
     grind
    ·rename_i n e he;split at h
     ·rename_i q hq;split at h
      ·exact h.elim
      ·rename_i hag;split at h
       ·split at h
        ·rename_i cs hx;rw[hx,hj];exact gD (ajp hC hi he hq hag h)
        grind
       grind
     grind
    grind
   grind
  grind
 case lookup t x ix ok=>exact gD (h.mono (by intro v w' h;exact Hw h))
 case mapUpdate t m k x=>exact akc h
 case insert t m k x=>exact akc h
 case typeAssert x xt t ok=>
  refine gD (h.mono ?_);intro v w' h;cases ok with
  |true=>
   simp only[cond_true]at h;obtain⟨l,rfl,h1⟩:=acJ h;obtain⟨c0,l1,rfl,h2⟩:=jE h1;obtain⟨c1,l2,rfl,h3⟩:=jE (KD h2);obtain⟨b,rfl,h4⟩:=Ht h3;obtain⟨rfl,h5⟩:=rE h4;exact h5
  |false=>
   simp only[cond_false]at h;exact KD h
 case extract x i=>
  split at h
  ·rename_i vs hx;split at h
   ·rename_i v hv;rw[WT,Array.getElem?_toList]at hv;rw[hx];exact gD (.of (w':=w) (v:=v) (by simp[Instr.extract,hv]) h)
   grind
  grind
 case call c=>
  split at h
  ·rename_i b hb;have:=atB (cs:=c.args.map λ|.const _=>true|_=>false) hC h;simp only[resolve,hb,Sem.run_bind,Sem.run_pure,Result.andThen_ok,invoke];rw[MZ]at this;have e:(List.map (ev ρ) c.args.toList).toArray=c.args.map (ev ρ):=by grind
   grind
  ·rename_i f hf;obtain⟨d,hd,hk⟩:=agX hC h;rw[MZ]at hd;have e:(List.map (ev ρ) c.args.toList).toArray=c.args.map (ev ρ):=by grind
   rw[e]at hd;simp only[resolve,hf,Sem.run_bind,hd,Result.andThen_ok];unfold rW at hk⊢;split at hk
   ·exact Hw hk
   ·exact Hw hk
   ·exact hk.mono (by intro v w' h;exact Hw h)
   grind
  ·rename_i recv name hf;have hk:=asq hC h;rw[MZ]at hk;have e:(List.map (ev ρ) c.args.toList).toArray=c.args.map (ev ρ):=by grind
   rw[e]at hk;simp only[resolve,hf,Sem.run_bind,Sem.run_pure,Result.andThen_ok];unfold rW at hk⊢;split at hk
   ·exact Hw hk
   ·exact Hw hk
   ·exact hk.mono (by intro v w' h;exact Hw h)
   grind
def YL:∀(l:List Oper) (i:Nat),yh l i=(l[i]?).bind (·.dst)
 |[],i=>by simp[yh]
 |v::l,0=>by simp[yh]
 |v::l,i+1=>by simp[yh,YL l i]
def ala {n:Nat}{ρ:Env}{a:Act}(hr:Rel n ρ a){ops:Array Oper}{j d:Nat}(hd:yh ops.toList j=some d)(hn:d<n):yielded ops a.tmps j=match ρ d with|.bool b=>some b|_=>none:=by
 rw[YL,Array.getElem?_toList]at hd;have hs:=hr.size;have hg:=hr.get d;have h1:a.tmps[d]? =some (ρ d):=by simp_all
 unfold yielded;grind
def E_ (n:Nat)(K:Env->World->Prop)(e:Exit)(a:Act)(w:World):Prop:=e=.normal/\∃ρ,Rel n ρ a/\K ρ w
def N5 {C:Cx}(hC:mJ C){ops:Array Oper}{K:Env->World->Prop}:∀{r:List Oper} {ρ:Env} {w:World} {a:Act},Rel C.n ρ a->Im C ops.toList r ρ w K->
  wpList C.P ops (E_ C.n K) r a w
 |[],ρ,w,a,hr,h=>wpList_nil ⟨rfl,ρ,hr,h⟩
 |o::r,ρ,w,a,hr,h=>by
  obtain⟨hd,h⟩:=pU h;have run:∀{ρ:Env},Rel C.n ρ a->(xF C o ρ w λv w'=>Im C ops.toList r (put ρ o.dst v) w' K)->Region.wanted o (yielded ops a.tmps)=true->wpList C.P ops (E_ C.n K) (o::r) a w:=by intro ρ hr h hw;unfold wpList;rw[if_pos hw];have:=Rh hC h;rw[<-hr.eval]at this;exact .inl (this.wp λv w' hk=>N5 hC (hr.put v hd) hk)
  have pass:∀{ρ:Env},Rel C.n ρ a->Im C ops.toList r (put ρ o.dst undef) w K->Region.wanted o (yielded ops a.tmps)=false->wpList C.P ops (E_ C.n K) (o::r) a w:=by intro ρ hr h hw;unfold wpList;rw[if_neg (by rw[hw];simp)];exact N5 hC (hr.put undef hd) h
  cases hg:o.guard with
  |none=>
   simp only[hg]at h;exact run hr h (by simp[Region.wanted,hg])
  |some p=>
   simp only[hg]at h;split at h
   ·exact h.elim
   ·rename_i d Fa;obtain⟨hn,h⟩:=pU h;have hn':d<C.n:=by simp_all
    have hy:=ala hr Fa hn';split at h
    ·rename_i b hb;rw[hb]at hy;obtain⟨j,want⟩:=p;cases want<;>cases b<;>simp only[cond_true,cond_false]at h
     ·exact run (hr.KM hb) h (by simp[Region.wanted,hg,hy])
     ·exact pass (hr.KM hb) h (by simp[Region.wanted,hg,hy])
     ·exact pass (hr.KM hb) h (by simp[Region.wanted,hg,hy])
     ·exact run (hr.KM hb) h (by simp[Region.wanted,hg,hy])
    ·rename_i vs hb;rw[hb]at hy;exact pass hr h (by simp[Region.wanted,hg,hy])
    grind
def Fin (C:Cx)(todo:List Item)(ρ:Env)(w:World)(R:Env->World->Prop):Prop:=
 ∀(a:Act) (b:Frame) (cs:List Frame),Rel C.n ρ a->∃ρ' a' w' todo',Rel C.n ρ' a'/\R ρ' w'/\Steps C.P (lone (b.at a todo) cs w) (lone {b.at a' todo' with mode:=.returning} cs w')
def Fin.step {C:Cx}{todo todo':List Item}{ρ ρ':Env}{w w':World}{R:Env->World->Prop}(h:Fin C todo' ρ' w' R)
  (hs:∀(a:Act) (b:Frame) (cs:List Frame),Rel C.n ρ a->∃a',Rel C.n ρ' a'/\Steps C.P (lone (b.at a todo) cs w) (lone (b.at a' todo') cs w')):Fin C todo ρ w R:=by
 intro a b cs hr;obtain⟨a',hr',s⟩:=hs a b cs hr;obtain⟨ρ2,a2,w2,t2,h1,h2,h3⟩:=h a' b cs hr';exact⟨ρ2,a2,w2,t2,h1,h2,s.trans h3⟩
def Fin.same {C:Cx}{todo todo':List Item}{ρ:Env}{w:World}{R:Env->World->Prop}(h:Fin C todo' ρ w R)
  (hs:∀(a:Act) (b:Frame) (cs:List Frame),Go.step C.P (lone (b.at a todo) cs w)=.next (lone (b.at a todo') cs w)):Fin C todo ρ w R:=
 h.step λa b cs hr=>⟨a,hr,.one (hs a b cs)⟩
def Fin.ret {C:Cx}{k:List Item}{ρ:Env}{w:World}{R:Env->World->Prop}(h:R ρ w):Fin C (.code .ret::k) ρ w R:=
 λa b cs hr=>⟨ρ,a,w,_,hr,h,.one step_ret⟩
def Fin.nil {C:Cx}{ρ:Env}{w:World}{R:Env->World->Prop}(h:R ρ w):Fin C [] ρ w R:=
 λa b cs hr=>⟨ρ,a,w,_,hr,h,.one step_end⟩
def Fin.wp {C:Cx}{c:Code}{k:List Item}{ρ:Env}{w:World}{R:Env->World->Prop}{K:Env->World->Prop}(hk:∀ρ' w',K ρ' w'->Fin C k ρ' w' R)
  (h:∀a,Rel C.n ρ a->c.wp C.P (E_ C.n K) a w):Fin C (.code c::k) ρ w R:=by
 intro a b cs hr;obtain⟨e,a1,w1,⟨rfl,ρ1,hr1,hK⟩,axB⟩:=h a hr b k cs;obtain⟨ρ2,a2,w2,t2,h1,h2,h3⟩:=hk ρ1 w1 hK a1 b cs hr1;exact⟨ρ2,a2,w2,t2,h1,h2,Steps.trans axB h3⟩
def agY (id:Nat):∀(k:List Item),WS id k=exitTo id k
 |[]=>rfl
 |it::k=>by have ih:=agY id k;cases it<;>simp only[WS,exitTo,ih];simp_all
def amV (C:Cx)(D:Nat->List Oper->Env->World->(Env->World->Prop)->Prop):Prop:=
 ∀id (ops:Array Oper) ρ w K,D id ops.toList ρ w K->∀a,Rel C.n ρ a->(Code.region id ops true).wp C.P (E_ C.n K) a w
def aeD {C:Cx}(hC:mJ C){L:YF}{R:Env->World->Prop}{D:Nat->List Oper->Env->World->(Env->World->Prop)->Prop}(hD:amV C D):
  ∀(f:Nat) {fst:Bool} {todo:List Item} {ρ:Env} {w:World},(∀p∈leaves (L.map (·.1)) f fst todo,∀q,cutAt L p.1=some q->∀ρ w,q ρ w->Fin C p.2 ρ w R)->
   G7 C L R D f fst todo ρ w->Fin C todo ρ w R:=by
 intro f;induction f with
 |zero=>intro fst todo ρ w _ h;exact h.elim
 |succ f ih=>
  intro fst todo ρ w hL h;cases todo with
  |nil=>exact Fin.nil h
  |cons it k=>
   cases it with
   |inBlock id=>exact(ih hL h).same λa b cs=>step_inBlock
   |inLoop c=>exact(ih hL h).same λa b cs=>step_inLoop
   |code c=>
    cases c with
    |skip=>exact(ih hL h).same λa b cs=>step_skip
    |seq x y=>exact(ih hL h).same λa b cs=>step_seq
    |block id c=>exact(ih hL h).same λa b cs=>step_block
    |loop c=>exact(ih hL h).same λa b cs=>step_loop
    |exit id=>
     simp only[G7]at h;simp only[leaves]at hL;split at h
     ·rename_i k' hk';rw[hk']at hL;rw[agY]at hk';exact(ih hL h).same λa b cs=>step_exit hk'
     grind
    |ret=>exact Fin.ret h
    |cond x thn els=>
     simp only[G7]at h;simp only[leaves,List.mem_append]at hL;split at h
     ·rename_i t ht;have hput:∀a,Rel C.n ρ a->Rel C.n (apu ρ x (.bool t)) a:=by
       intro a hr;cases x with
       |tmp s=>exact hr.KM ht
       |_=>exact hr
      cases t with
      |true=>
       refine(ih (λp hp=>hL p (.inl hp)) h).step λa b cs hr=>⟨a,hput a hr,.one ?_⟩;exact step_cond (t:=true) (by rw[hr.eval];exact ht)
      |false=>
       refine(ih (λp hp=>hL p (.inr hp)) h).step λa b cs hr=>⟨a,hput a hr,.one ?_⟩;exact step_cond (t:=false) (by rw[hr.eval];exact ht)
     grind
    |region id ops dr=>
     simp only[G7]at h;simp only[leaves]at hL;have go:(aty C D id ops dr ρ w λρ' w'=>G7 C L R D f false k ρ' w')->
       (∀p∈leaves (L.map (·.1)) f false k,∀q,cutAt L p.1=some q->∀ρ w,q ρ w->Fin C p.2 ρ w R)->Fin C (.code (.region id ops dr)::k) ρ w R:=by
      intro h' hL';cases dr with
      |false=>
       refine Fin.wp (λρ' w' hk=>ih hL' hk) λa hr=>?_;exact wp_region_list (N5 hC hr h')
      |true=>exact Fin.wp (λρ' w' hk=>ih hL' hk) λa hr=>hD id ops ρ w _ h' a hr
     cases fst with
     |true=>exact go h hL
     |false=>
      have hc:∀(L:YF),(cutAt L id).isSome=(L.map (·.1)).contains id:=by
       intro L;induction L with
       |nil=>rfl
       |cons p L ihL=>
        simp only[cutAt,List.map_cons,List.contains_cons];cases hb:Nat.beq id p.1 with
        |true=>
         have:=Nat.eq_of_beq_eq_true hb;rw[this];simp
        |false=>
         have hne:(id==p.1)=false:=by rw[beq_eq_false_iff_ne];intro e;rw[e]at hb;simp[Nat.beq_refl]at hb
         grind
      cases hq:cutAt L id with
      |some q=>
       have:=hc L;rw[hq]at this;simp only[hq]at h;simp only[<-this]at hL;exact hL (id,.code (.region id ops dr)::k) (by simp) q hq ρ w h
      |none=>
       have:=hc L;rw[hq]at this;simp only[hq]at h;simp only[<-this]at hL;exact go h hL
    |_=>exact h.elim
   |_=>exact h.elim
def isInt (C:Cx)(t:TypeId):Bool:=match C.T t with
 |some i=>match i.d with|.int _=>true|_=>false
 |none=>false
def atD (C:Cx)(t:TypeId):Bool:=match C.T t with
 |some i=>match i.d with|.slice _=>true|_=>false
 |none=>false
def isLen (C:Cx)(t:TypeId):Bool:=match C.T t with
 |some i=>match i.d with|.slice _=>true|.str=>true|_=>false
 |none=>false
def Da (C:Cx)(o:Oper):Bool:=match o.op with
 |.move _=>true
 |.pick _ _ _=>true
 |.load _ _=>true
 |.nilCheck _=>true
 |.unOp _ _ _=>true
 |.makeInterface _ _=>true
 |.makeFunc _ _ _=>true
 |.build _ _=>true
 |.fieldAddr _ _ _=>true
 |.field _ _ _=>true
 |.indexAddr _ _ _=>true
 |.index _ _ _=>true
 |.extract _ _=>true
 |.binOp _ t x y _=>match C.T t with
  |some i=>match i.d with
   |.int _=>true
   |.str=>true
   |.bool=>true
   |d=>DU d y||DU d x
  |none=>false
 |.convert s t _=>isInt C s&&isInt C t
 |.slice t _ _ _ mx=>match mx with|some _=>false|none=>atD C t
 |.call c=>match c.callee with
  |.builtin b=>match b with
   |.len=>match c.argTypes.toList with
    |t::_=>isLen C t
    |[]=>false
   |.min=>true
   |.max=>true
   |_=>false
  |_=>false
 |_=>false
def YM (a:Addr):Nat->List Value->List (Addr×Value)
 |_,[]=>[]
 |i,v::l=>(a.add i,v)::YM a (i+1) l
def OX:Value->List Value|.agg cs=>cs.toList|_=>[]
def wH (C:Cx)(o:Oper)(ρ:Env)(v:Value):List (Addr×Value):=match o.op with
 |.load t x=>match ev ρ x with
  |.pointer p=>match p with
   |some a=>match C.T t with
    |some i=>match i.agg with
     |true=>YM a 0 (OX v)
     |false=>[(a,v)]
    |none=>[]
   |none=>[]
  |_=>[]
 |_=>[]
def yj:List (Addr×Value)->World->Prop
 |[],_=>True
 |p::l,w=>w.cell? p.1=some p.2/\yj l w
def aeE {l:Lf}{a:Addr}{w:World}{K:Value->Prop}(h:ld1 l a w K):∃v,K v/\w.cell? a=some v/\∀w',w'.cell? a=some v->∀K':Value->Prop,K' v->ld1 l a w' K':=by
 cases l with
 |int k=>obtain⟨n,h1,h2⟩:=h;exact⟨_,h2,h1,λw' h K' hk=>⟨n,h,hk⟩⟩
 |bool=>obtain⟨n,h1,h2⟩:=h;exact⟨_,h2,h1,λw' h K' hk=>⟨n,h,hk⟩⟩
 |str=>obtain⟨n,h1,h2⟩:=h;exact⟨_,h2,h1,λw' h K' hk=>⟨n,h,hk⟩⟩
 |ptr=>obtain⟨n,h1,h2⟩:=h;exact⟨_,h2,h1,λw' h K' hk=>⟨n,h,hk⟩⟩
 |sl=>obtain⟨b,n,c,h1,h2⟩:=h;exact⟨_,h2,h1,λw' h K' hk=>⟨b,n,c,h,hk⟩⟩
 |map=>obtain⟨n,h1,h2⟩:=h;exact⟨_,h2,h1,λw' h K' hk=>⟨n,h,hk⟩⟩
 |any=>obtain⟨v,h1,h3,h2⟩:=h;exact⟨_,h2,h1,λw' h K' hk=>⟨v,h,h3,hk⟩⟩
def S5:∀{ls:List Lf} {a:Addr} {i:Nat} {w:World} {K:List Value->Prop},OT ls a i w K->
  ∃vs,K vs/\yj (YM a i vs) w/\∀w',yj (YM a i vs) w'->∀K':List Value->Prop,K' vs->OT ls a i w' K'
 |[],a,i,w,K,h=>⟨[],h,trivial,λw' _ K' hk=>hk⟩
 |l::ls,a,i,w,K,h=>by obtain⟨v,h,hc,hv⟩:=aeE h;obtain⟨vs,hk,hh,hvs⟩:=S5 h;exact⟨v::vs,hk,⟨hc,hh⟩,λw' hw K' hk'=>hv w' hw.1 _ (hvs w' hw.2 _ hk')⟩
def ajr {op:BinOp}{k:IntKind}{a b:Int}{K:Value->Prop}(h:arith op k a b K):∃v,K v/\∀K':Value->Prop,K' v->arith op k a b K':=by
 cases op<;>simp[arith]at h⊢<;>first
  |grind
  |(obtain⟨h1,h2⟩:=h;exact⟨_,h2,λK' hk=>⟨h1,hk⟩⟩)
def Fb {op:BinOp}{r:Bool}{K:Value->Prop}(h:S3 op r λr=>K (.bool r)):∃v,K v/\∀K':Value->Prop,K' v->S3 op r λr=>K' (.bool r):=by cases op<;>simp[S3]at h⊢<;>exact⟨_,h,λK' hk=>hk⟩
def X7 {d:TD}{op:BinOp}{a:Value}{K:Value->Prop}(h:Rc d a λr=>S3 op r λr=>K (.bool r)):∃v,K v/\∀K':Value->Prop,K' v->Rc d a λr=>S3 op r λr=>K' (.bool r):=by
 cases d<;>simp[Rc]at h⊢
 ·obtain⟨p,rfl,h⟩:=Hu h;exact Fb h
 ·obtain⟨p,rfl,h⟩:=Hv h;exact Fb h
 ·rcases YJ h with⟨rfl,h⟩|⟨_,_,rfl,h⟩<;>exact Fb h
 ·rcases YK h with⟨rfl,h⟩|⟨_,_,_,rfl,h⟩<;>exact Fb h
 ·obtain⟨p,n,c,rfl,h⟩:=yA h;exact Fb h
def amW {l:Lf}{v:Value}{K:Value->Prop}(h:X6 l v K):∃u,K u/\∀K':Value->Prop,K' u->X6 l v K':=by
 cases l with
 |int k=>obtain⟨n,rfl,h'⟩:=CA h;exact⟨_,h',λK' hk=>by simp[X6,dI,Nat.beq_refl,cond_true];exact hk⟩
 |bool=>obtain⟨n,rfl,h'⟩:=Ht h;exact⟨_,h',λK' hk=>hk⟩
 |str=>obtain⟨n,rfl,h'⟩:=IF h;exact⟨_,h',λK' hk=>hk⟩
 |ptr=>obtain⟨n,rfl,h'⟩:=Hu h;exact⟨_,h',λK' hk=>hk⟩
 |sl=>obtain⟨b,n,c,rfl,h'⟩:=yA h;exact⟨_,h',λK' hk=>hk⟩
 |map=>obtain⟨n,rfl,h'⟩:=Hv h;exact⟨_,h',λK' hk=>hk⟩
 |any=>obtain⟨h1,h'⟩:=acK h;exact⟨_,h',λK' hk=>by simp[X6,dV,h1,cond_true];exact hk⟩
def ajs {T:uJ}{t:TypeId}{cs:Array Value}{off:Nat}{K:Value->Prop}(h:Rf T t cs off K):∃v,K v/\∀K':Value->Prop,K' v->Rf T t cs off K':=by
 unfold Rf at*;split at h
 all_goals grind
def amX {C:Cx}{t:TypeId}{a:Addr}{w:World}{K:Value->Prop}(h:ldT C.T t a w K):
  ∃v i,K v/\C.T t=some i/\yj (match i.agg with|true=>YM a 0 (OX v)|false=>[(a,v)]) w/\∀w',yj (match i.agg with|true=>YM a 0 (OX v)|false=>[(a,v)]) w'->∀K':Value->Prop,K' v->ldT C.T t a w' K':=by
 unfold ldT at h⊢;cases hi:C.T t with
 |none=>grind
 |some i=>
  rw[hi]at h;simp only at h;cases hag:i.agg with
  |true=>
   rw[hag]at h;obtain⟨hl,h⟩:=pU h;obtain⟨vs,hk,hh,hv⟩:=S5 h;refine⟨_,i,hk,rfl,?_,λw' hw K' hk'=>?_⟩
   ·rw[hag];simpa[OX]using hh
   ·rw[hag]at hw;simp[hag,hl,cond_true];exact hv w' (by simpa[OX]using hw) _ hk'
  |false=>
   rw[hag]at h;cases hf:i.lf with
   |nil=>grind
   |cons f fs=>
    rw[hf]at h;obtain⟨v,hk,hc,hv⟩:=aeE h;refine⟨v,i,hk,rfl,?_,λw' hw K' hk'=>?_⟩
    ·rw[hag];exact⟨hc,trivial⟩
    ·rw[hag]at hw;simp[hag,hf];exact hv w' hw.1 _ hk'
def alb {C:Cx}{o:Oper}{ρ:Env}{w:World}{K:Value->World->Prop}(hq:Da C o=true)(h:xF C o ρ w K):
  ∃v,K v w/\yj (wH C o ρ v) w/\∀w',yj (wH C o ρ v) w'->∀K':Value->World->Prop,K' v w'->xF C o ρ w' K':=by
 have pure:(∀v,wH C o ρ v=[])->(∃v,K v w/\∀w' (K':Value->World->Prop),K' v w'->xF C o ρ w' K')->
   ∃v,K v w/\yj (wH C o ρ v) w/\∀w',yj (wH C o ρ v) w'->∀K':Value->World->Prop,K' v w'->xF C o ρ w' K':=by
  rintro h0 ⟨v,h1,h2⟩;exact⟨v,h1,by rw[h0];trivial,λw' _=>h2 w'⟩
 unfold Da at hq;cases hop:o.op<;>simp only[hop,Bool.false_eq_true]at hq
 case load t x=>
  unfold xF at h;simp[hop]at h;split at h
  ·rename_i p hp;obtain⟨a,rfl,h'⟩:=uM h;obtain⟨v,i,hk,hi,hh,hf⟩:=amX h';have hff:wH C o ρ v=(match i.agg with|true=>YM a 0 (OX v)|false=>[(a,v)]):=by simp[wH,hop,hp,hi]
   refine⟨v,hk,by grind,λw' hw K' hk'=>?_⟩;rw[hff]at hw;unfold xF;simp[hop,hp];exact hf w' hw (λv=>K' v w') hk'
  grind
 all_goals apply pure (λv=>by simp[wH,hop])
 all_goals unfold xF at h⊢;simp only[hop]at h⊢
 case move x=>grind
 case pick c a b=>
  grind
 case build t ps=>
  split at h
  ·obtain⟨ha,h⟩:=J8 h;split at h
   ·try simp[IG]
    exact⟨_,h,λw' K' hk=>N3 ha (by grind)⟩
   grind
  grind
 case nilCheck x=>
  split at h
  ·obtain⟨a,rfl,h'⟩:=uM h;exact⟨_,h',λw' K' hk=>hk⟩
  grind
 case binOp op t x y yt=>
  split at h
  ·rename_i i hi;simp[hi]at hq⊢;unfold ak7 at h⊢;split at h
   ·try simp[hd]
    split at h
    ·split at h
     ·try simp[ha,hb]
      split at h
      ·exact⟨_,h.2,λw' K' hk=>⟨h.1,hk⟩⟩
      ·exact⟨_,h.2,λw' K' hk=>⟨h.1,hk⟩⟩
      ·obtain⟨hk,h⟩:=pU h;obtain⟨v,hv,ha⟩:=ajr h;refine⟨v,hv,λw' K' hk'=>?_⟩;rw[hk];exact ha (λv=>K' v w') hk'
     ·exact h.elim
    ·exact h.elim
   ·try simp[hd]
    split at h
    ·split at h
     ·try simp[ha,hb]
      split at h
      ·exact⟨_,h,λw' K' hk=>hk⟩
      ·exact⟨_,h,λw' K' hk=>hk⟩
      ·exact h.elim
     ·exact h.elim
    ·exact h.elim
   ·try simp[hd]
    split at h
    ·split at h
     ·try simp[ha,hb]
      obtain⟨v,hv,ha⟩:=Fb (K:=λv=>K v w) h;exact⟨v,hv,λw' K' hk=>ha (λv=>K' v w') hk⟩
     ·exact h.elim
    ·exact h.elim
   ·rename_i d h1 h2 h3;have KO:(DU i.d y||DU i.d x)=true:=by
     split at hq
     ·rename_i k hk;exact(h1 k hk).elim
     ·rename_i hk;exact(h2 hk).elim
     ·rename_i hk;exact(h3 hk).elim
     ·exact hq
    split at h
    ·obtain⟨v,hv,ha⟩:=X7 (K:=λv=>K v w) h;refine⟨v,hv,λw' K' hk=>?_⟩;exact ha (λv=>K' v w') hk
    ·rename_i hn;split at h
     ·obtain⟨v,hv,ha⟩:=X7 (K:=λv=>K v w) h;refine⟨v,hv,λw' K' hk=>?_⟩;exact ha (λv=>K' v w') hk
     ·rename_i hn';rw[hn,hn']at KO;exact absurd KO (by simp)
  grind
 case unOp op t x=>
  split at h
  ·exact⟨_,h,λw' K' hk=>hk⟩
  ·exact⟨_,h,λw' K' hk=>hk⟩
  ·exact⟨_,h,λw' K' hk=>hk⟩
  ·exact h.elim
 case convert s t x=>
  simp[Bool.and_eq_true]at hq;split at h
  ·rename_i i hi
   try simp[hi]
   unfold agy at h⊢;have h1:=hq.1;unfold isInt at h1;simp[hi]at h1;split at h
   ·try simp[hk]
    split at h
    ·rename_i j hj;have h2:=hq.2;unfold isInt at h2;simp[hj]at h2⊢;split at h
     ·try simp[hk']
      split at h
      ·try simp[hn]
       exact⟨_,h,λw' K' hk=>hk⟩
      ·exact h.elim
     ·rename_i hno;split at h2
      ·rename_i k' hk';exact(hno k' hk').elim
      ·cases h2
    ·exact h.elim
   ·rename_i hno;split at h1
    ·rename_i k' hk';exact(hno k' hk').elim
    ·cases h1
  ·exact h.elim
 case makeInterface t x=>
  split at h
  ·split at h
   ·exact h.elim
   ·exact h.elim
   ·exact⟨_,h,λw' K' hk=>hk⟩
  ·exact h.elim
 case makeFunc fn first captured=>exact⟨_,h,λw' K' hk=>hk⟩
 case slice t x lo hi mx=>
  split at h
  ·cases hq
  ·split at h
   ·rename_i i hi';unfold atD at hq;simp[hi']at hq⊢;split at h
    ·split at h
     ·split at h
      ·try simp[hx,hqq]
       obtain⟨l,h,hl⟩:=WU (P:=C.P) h;obtain⟨hh,h,hhi⟩:=WU (P:=C.P) h;obtain⟨b1,b2,h⟩:=h;refine⟨_,h,λw' K' hk=>?_⟩;rcases hl with⟨e1,rfl⟩|⟨k1,n1,e1,rfl⟩<;>rcases hhi with⟨e2,rfl⟩|⟨k2,n2,e2,rfl⟩<;>rw[e1,e2]<;>exact⟨b1,b2,hk⟩
      ·exact h.elim
     ·exact h.elim
    ·rename_i hno;split at hq
     ·rename_i e he;exact(hno e he).elim
     ·cases hq
   ·exact h.elim
 case fieldAddr t x f=>
  split at h
  ·split at h
   ·split at h
    ·split at h
     ·rename_i q hqq
      try simp[hi,hfs,hp,hqq]
      cases hz:Nat.beq q.size 0 with
      |true=>rw[hz]at h;exact h.elim
      |false=>
       rw[hz]at h;split at h
       ·obtain⟨a,rfl,h'⟩:=uM h;exact⟨_,h',λw' K' hk=>hk⟩
       ·exact h.elim
     ·exact h.elim
    ·exact h.elim
   ·exact h.elim
  ·exact h.elim
 case field t x f=>
  split at h
  ·split at h
   ·split at h
    ·split at h
     ·try simp[hi,hfs,hp,hcs]
      obtain⟨v,hv,ha⟩:=ajs h;exact⟨v,hv,λw' K' hk=>ha (λv=>K' v w') hk⟩
     ·exact h.elim
    ·exact h.elim
   ·exact h.elim
  ·exact h.elim
 case indexAddr t x ix=>
  split at h
  ·split at h
   ·split at h
    ·split at h
     ·split at h
      ·obtain⟨h0,h1,h⟩:=h;obtain⟨ad,rfl,h'⟩:=uM h
       try simp[hi,hj,he,hqq,hx]
       exact⟨_,h',λw' K' hk=>⟨h0,h1,hk⟩⟩
      ·exact h.elim
     ·exact h.elim
    ·split at h
     ·split at h
      ·obtain⟨ad,rfl,h'⟩:=uM h;obtain⟨h0,h1,h⟩:=h'
       try simp[hi,hj,he,hqq,hx]
       exact⟨_,h,λw' K' hk=>⟨h0,h1,hk⟩⟩
      ·exact h.elim
     ·exact h.elim
    ·exact h.elim
   ·exact h.elim
  ·exact h.elim
 case index t x ix=>
  split at h
  ·split at h
   ·split at h
    ·split at h
     ·obtain⟨h0,h1,h⟩:=h
      try simp[hi,hj,he,hx]
      exact⟨_,h,λw' K' hk=>⟨h0,h1,hk⟩⟩
     ·exact h.elim
    ·split at h
     ·split at h
      ·exact h.elim
      ·split at h
       ·split at h
        ·obtain⟨h0,h1,h⟩:=h;obtain⟨hb,h⟩:=pU h;obtain⟨v,hv,h⟩:=h;obtain⟨u,hu,h⟩:=amW h
         try simp[hi,hj,he,hqq,hag,hf,hx]
         exact⟨u,hu,λw' K' hk=>⟨h0,h1,by rw[hb];exact⟨v,hv,h (λv=>K' v w') hk⟩⟩⟩
        ·exact h.elim
       ·exact h.elim
     ·exact h.elim
    ·exact h.elim
   ·exact h.elim
  ·exact h.elim
 case extract x i=>
  split at h
  ·split at h
   ·try simp[hx,hv]
    exact⟨_,h,λw' K' hk=>hk⟩
   ·exact h.elim
  ·exact h.elim
 case call c=>
  split at h
  ·rename_i b hb;simp[hb]at hq⊢;cases b<;>simp[Bool.false_eq_true]at hq
   case len=>
    unfold acM at h⊢;simp only at h⊢;split at h
    ·rename_i t ts hts;simp[hts]at hq⊢;split at h
     ·rename_i v vs hvs
      try simp[hvs]
      split at h
      ·rename_i i hi;unfold isLen at hq;simp[hi]at hq⊢;split at h
       ·rename_i e he
        try simp[he]
        obtain⟨a,n,c,rfl,h⟩:=yA h;exact⟨_,h,λw' K' hk=>hk⟩
       ·rename_i he
        try simp[he]
        obtain⟨s,rfl,h⟩:=IF h;exact⟨_,h,λw' K' hk=>hk⟩
       ·rename_i h1 h2;split at hq
        ·rename_i e he;exact(h1 e he).elim
        ·rename_i he;exact(h2 he).elim
        ·cases hq
      ·exact h.elim
     ·exact h.elim
    ·exact h.elim
   case max=>
    unfold acM at h⊢;simp only at h⊢;obtain⟨x,r,e1,h⟩:=jE h;obtain⟨y,r',e2,h⟩:=jE h;obtain⟨e3,h⟩:=rE h
    try simp[e1,e2,e3]
    unfold dI2 at h;split at h
    ·split at h
     ·exact⟨_,h,λw' K' hk=>hk⟩
     ·exact h.elim
    ·exact h.elim
   case min=>
    unfold acM at h⊢;simp only at h⊢;obtain⟨x,r,e1,h⟩:=jE h;obtain⟨y,r',e2,h⟩:=jE h;obtain⟨e3,h⟩:=rE h
    try simp[e1,e2,e3]
    unfold dI2 at h;split at h
    ·split at h
     ·exact⟨_,h,λw' K' hk=>hk⟩
     ·exact h.elim
    ·exact h.elim
  ·exact absurd hq (by simp[*])
  ·exact absurd hq (by simp[*])
inductive JU where
 |done
 |op (i:Nat) (s:JU)
 |br (a b:JU)
def KQ:List Oper->Nat->Option Oper
 |[],_=>none
 |o::_,0=>some o
 |_::l,i+1=>KQ l i
def KH:∀(l:List Oper) (i:Nat),KQ l i=l[i]?
 |[],i=>by simp[KQ]
 |v::l,0=>by simp[KQ]
 |v::l,i+1=>by simp[KQ,KH l i]
def N6:List Nat->Nat->Nat
 |[],_=>0
 |v::_,0=>v
 |_::l,i+1=>N6 l i
def M0 (acc:List Nat):List Edge->Nat
 |[]=>0
 |e::l=>cond (Region.binds .any e) (2^e.on|||N6 acc e.on|||M0 acc l) (M0 acc l)
def M1:List Oper->List Nat->List Nat
 |[],acc=>acc
 |o::r,acc=>M1 r (acc++[M0 acc o.after.toList])
def Az (m:List Nat)(i j:Nat):Bool:=(N6 m i).testBit j
abbrev Hx:=List (Nat×List (Addr×Value))
def alc:List (Addr×Value)->World->Prop->Prop
 |[],_,K=>K
 |p::l,w,K=>w.cell? p.1=some p.2/\alc l w K
def J_ (m:List Nat)(i:Nat):Hx->World->Prop->Prop
 |[],_,K=>K
 |p::H,w,K=>cond (Az m i p.1) (J_ m i H w K) (alc p.2 w (J_ m i H w K))
def CB (all:List Oper)(o:Oper)(ρ:Env):Option Bool:=match o.guard with
 |none=>some true
 |some p=>match yh all p.1 with
  |none=>none
  |some d=>match ρ d with
   |.bool b=>some (b==p.2)
   |.tuple _=>some false
   |_=>none
def A_ (C:Cx)(all:List Oper)(m:List Nat):JU->Hx->Env->World->(Env->World->Prop)->Prop
 |.done,_,ρ,w,K=>K ρ w
 |.br a b,H,ρ,w,K=>A_ C all m a H ρ w K/\A_ C all m b H ρ w K
 |.op i s,H,ρ,w,K=>match KQ all i with
  |none=>False
  |some o=>cond (Il C.n o.dst) (match o.guard with
   |none=>cond (Da C o) (xF C o ρ w λv w'=>A_ C all m s ((i,wH C o ρ v)::H) (put ρ o.dst v) w' K)
     (xF C o ρ w λv w'=>J_ m i H w' (A_ C all m s H (put ρ o.dst v) w' K))
   |some p=>match yh all p.1 with
    |none=>False
    |some d=>cond (Nat.blt d C.n) (match ρ d with
     |.bool b=>match p.2 with
      |true=>cond b
       (cond (Da C o) (xF C o (put ρ (some d) (.bool true)) w λv w'=>A_ C all m s ((i,wH C o (put ρ (some d) (.bool true)) v)::H) (put (put ρ (some d) (.bool true)) o.dst v) w' K)
        (xF C o (put ρ (some d) (.bool true)) w λv w'=>J_ m i H w' (A_ C all m s H (put (put ρ (some d) (.bool true)) o.dst v) w' K)))
       (A_ C all m s H (put (put ρ (some d) (.bool false)) o.dst undef) w K)
      |false=>cond b
       (A_ C all m s H (put (put ρ (some d) (.bool true)) o.dst undef) w K)
       (cond (Da C o) (xF C o (put ρ (some d) (.bool false)) w λv w'=>A_ C all m s ((i,wH C o (put ρ (some d) (.bool false)) v)::H) (put (put ρ (some d) (.bool false)) o.dst v) w' K)
        (xF C o (put ρ (some d) (.bool false)) w λv w'=>J_ m i H w' (A_ C all m s H (put (put ρ (some d) (.bool false)) o.dst v) w' K)))
     |.tuple _=>A_ C all m s H (put ρ o.dst undef) w K
     |_=>False) False) False
def oT:Nat->List Nat->Bool
 |_,[]=>false
 |i,j::l=>cond (Nat.beq i j) true (oT i l)
def Hy (ex:List Nat):List Edge->Bool
 |[]=>true
 |e::l=>cond (Region.binds .any e) (oT e.on ex&&Hy ex l) (Hy ex l)
def Fc (i:Nat):List Edge->Bool
 |[]=>true
 |e::l=>cond (Region.binds .any e) (Nat.blt e.on i&&Fc i l) (Fc i l)
def FV:JU->List Nat
 |.done=>[]
 |.op i _=>[i]
 |.br a b=>FV a++FV b
def CC (C:Cx)(ex hs:List Nat):Nat->List Oper->Bool
 |_,[]=>true
 |j,o::r=>(oT j ex||!Hy ex o.after.toList||(!Da C o&&oT j hs))&&CC C ex hs (j+1) r
def ald (ex:List Nat):Nat->List Oper->Bool
 |_,[]=>true
 |j,_::r=>oT j ex&&ald ex (j+1) r
def atE (C:Cx)(all:List Oper):List Nat->Bool
 |[]=>true
 |i::l=>(match KQ all i with|some o=>!Da C o|none=>false)&&atE C all l
def dX (C:Cx)(all:List Oper):Bool->JU->List Nat->Bool
 |_,.done,ex=>ald ex 0 all
 |top,.op i s,ex=>match KQ all i with
  |none=>false
  |some o=>!oT i ex&&Hy ex o.after.toList&&(Da C o||!top||CC C ex [i] 0 all)&&dX C all true s (i::ex)
 |top,.br a b,ex=>(!top||(CC C ex (FV a++FV b) 0 all&&atE C all (FV a++FV b)))&&dX C all false a ex&&dX C all false b ex
def looks (all:List Oper)(o:Oper):List Nat:=(o.op.operands.toList.filterMap λ|.tmp t=>some t|_=>none)++(match o.guard with|some p=>(match yh all p.1 with|some d=>[d]|none=>[])|none=>[])
def WV (C:Cx)(all:List Oper)(m:List Nat)(i:Nat)(o:Oper):Nat->List Oper->Bool
 |_,[]=>true
 |j,q::r=>(Nat.beq i j||(
  (match o.dst with
   |none=>true
   |some d=>(match q.dst with|some e=>!Nat.beq d e|none=>true)&&(!oT d (looks all q)||Az m j i))&&
  (match q.dst with
   |none=>true
   |some e=>!oT e (looks all o)||Az m i j||(Az m j i&&!Da C q))))&&WV C all m i o (j+1) r
def OY (C:Cx)(all:List Oper)(m:List Nat):Nat->List Oper->Bool
 |_,[]=>true
 |i,o::r=>(!Da C o||(WV C all m i o 0 all&&!(match o.dst with|some d=>oT d (looks all o)|none=>false)))&&Fc i o.after.toList&&OY C all m (i+1) r
def aaA:List Oper->Bool
 |[]=>true
 |o::r=>(match o.op with|.select _ _=>false|_=>true)&&aaA r
def YN (C:Cx)(all:List Oper)(m:List Nat)(s:JU):Bool:=dX C all true s []&&OY C all m 0 all&&aaA all
def sI {i:Nat}:∀{l:List Nat},oT i l=true↔i∈l
 |[]=>by simp[oT]
 |j::l=>by have ih:=@sI i l;simp only[oT];simp_all
def Io {ex:List Nat}:∀{l:List Edge},Hy ex l=true↔∀e∈l,Region.binds .any e=true->e.on∈ex
 |[]=>by simp[Hy]
 |e::l=>by
  have ih:=@Io ex l;simp only[Hy];cases hb:Region.binds .any e with
  |true=>simp[sI,ih,hb]
  |false=>simp[ih,hb]
def S6 {i:Nat}:∀{l:List Edge},Fc i l=true↔∀e∈l,Region.binds .any e=true->e.on<i
 |[]=>by simp[Fc]
 |e::l=>by
  have ih:=@S6 i l;simp only[Fc];cases hb:Region.binds .any e with
  |true=>simp_all
  |false=>simp[ih,hb]
def UD {C:Cx}{ex hs:List Nat}:∀{l:List Oper} {k:Nat},CC C ex hs k l=true->∀j o,l[j]? =some o->(k+j)∈ex\/(¬∀e∈o.after.toList,Region.binds .any e=true->e.on∈ex)\/(Da C o=false/\(k+j)∈hs)
 |[],_,_,_,_,h=>by simp at h
 |o::l,k,h,0,q,hq=>by
  simp only[CC,Bool.and_eq_true,Bool.or_eq_true]at h;simp at hq;rcases h.1 with(h1|h1)|h1
  ·exact .inl (by simpa[sI]using h1)
  ·refine .inr (.inl ?_);intro hall;have:=Io.2 hall;grind
  ·exact .inr (.inr ⟨by grind,by simpa[sI]using h1.2⟩)
 |o::l,k,h,j+1,q,hq=>by simp only[CC,Bool.and_eq_true]at h;have:=UD h.2 j q (by grind);grind
def agZ (all:List Oper)(L:Nat->Prop):Prop:=∀i o,all[i]? =some o->L i->∀e∈o.after.toList,Region.binds .any e=true->L e.on
def Good (all:List Oper)(m:List Nat):Prop:=∀i o,all[i]? =some o->∀j,Az m i j=true->∀L:Nat->Prop,agZ all L->(∀e∈o.after.toList,Region.binds .any e=true->L e.on)->L j
def X8 (acc:List Nat)(x i:Nat):N6 (acc++[x]) i=if i<acc.length then N6 acc i else if i=acc.length then x else 0:=by
 induction acc generalizing i with
 |nil=>cases i<;>simp[N6]
 |cons a acc ih=>
  cases i with
  |zero=>simp[N6]
  |succ i=>simp[N6,ih]
def Ri {acc:List Nat}{j:Nat}:∀{l:List Edge},(M0 acc l).testBit j=true->∃e∈l,Region.binds .any e=true/\(e.on=j\/(N6 acc e.on).testBit j=true)
 |[],h=>by simp[M0]at h
 |e::l,h=>by
  simp only[M0]at h;cases hb:Region.binds .any e with
  |true=>
   rw[hb]at h;simp only[cond_true,Nat.testBit_or,Bool.or_eq_true]at h;rcases h with(h|h)|h
   ·grind
   ·grind
   ·obtain⟨e',h1,h2⟩:=Ri h;grind
  |false=>
   rw[hb]at h;obtain⟨e',h1,h2⟩:=Ri h;grind
def aaB (all:List Oper):∀(r:List Oper) (pre:List Oper) (acc:List Nat),all=pre++r->acc.length=pre.length->
  (∀i o,pre[i]? =some o->∀j,Az acc i j=true->∀L:Nat->Prop,agZ all L->(∀e∈o.after.toList,Region.binds .any e=true->L e.on)->L j)->(∀i,pre.length<=i->∀j,Az acc i j=false)->Good all (M1 r acc)
 |[],pre,acc,he,hl,hg,h0=>by intro i o hi;simp only[M1];grind
 |o::r,pre,acc,he,hl,hg,h0=>by
  refine aaB all r (pre++[o]) _ (by rw[he];simp) (by simp[hl]) ?_ ?_
  ·intro i q hi j ha L hL hd;have II:∀i j,Az (acc++[M0 acc o.after.toList]) i j=if i<acc.length then Az acc i j else if i=acc.length then(M0 acc o.after.toList).testBit j else false:=by intro i j;unfold Az;rw[X8];grind
   rw[II]at ha;by_cases hlt:i<pre.length
   ·grind
   ·by_cases heq:i=pre.length
    ·rw[if_neg (by omega),if_pos (by omega)]at ha;subst heq;simp at hi;subst hi;obtain⟨e,h1,h2,h3⟩:=Ri ha;rcases h3 with rfl|h3
     ·grind
     ·have hLe:=hd e h1 h2;by_cases axC:e.on<pre.length
      ·have hsome:∃q,pre[e.on]? =some q:=⟨pre[e.on],by simp[axC]⟩;obtain⟨q,hq⟩:=hsome;refine hg e.on q hq j h3 L hL (hL e.on q ?_ hLe);grind
      ·have:=h0 e.on (by omega) j;unfold Az at this;grind
    grind
  ·intro i hi j;unfold Az;rw[X8];grind
def apF (all:List Oper):Good all (M1 all []):=
 aaB all all [] [] rfl rfl (by intro i o h;simp at h) (by intro i _ j;simp[Az,N6])
structure WW (C:Cx) (all:List Oper) (m:List Nat):Prop where
 down:∀(i:Nat) (o:Oper),all[i]? =some o->∀e∈o.after.toList,Region.binds .any e=true->e.on<i
 self:∀(i:Nat) (o:Oper),all[i]? =some o->Da C o=true->∀d,o.dst=some d->d∉looks all o
 dst:∀(i:Nat) (o:Oper),all[i]? =some o->Da C o=true->∀(j:Nat) (q:Oper),all[j]? =some q->i≠j->∀d,o.dst=some d->q.dst≠some d
 look:∀(i:Nat) (o:Oper),all[i]? =some o->Da C o=true->∀(j:Nat) (q:Oper),all[j]? =some q->i≠j->∀d,o.dst=some d->d∈looks all q->Az m j i=true
 write:∀(i:Nat) (o:Oper),all[i]? =some o->Da C o=true->∀(j:Nat) (q:Oper),all[j]? =some q->i≠j->∀e,q.dst=some e->e∈looks all o->Az m i j=true\/(Az m j i=true/\Da C q=false)
def Ka {C:Cx}{all:List Oper}{m:List Nat}{i:Nat}{o:Oper}:∀{l:List Oper} {k:Nat},WV C all m i o k l=true->∀j q,l[j]? =some q->i≠k+j->
  (∀d,o.dst=some d->q.dst≠some d/\(d∈looks all q->Az m (k+j) i=true))/\(∀e,q.dst=some e->e∈looks all o->Az m i (k+j)=true\/(Az m (k+j) i=true/\Da C q=false))
 |[],_,_,_,_,h=>by simp at h
 |p::l,k,h,0,q,hq=>by
  intro hne;simp at hq;subst hq;simp only[WV,Bool.and_eq_true,Bool.or_eq_true]at h;rcases h.1 with h1|⟨h1,h2⟩
  ·simp_all
  ·refine⟨?_,?_⟩
   ·intro d hd;rw[hd]at h1;simp only[Bool.and_eq_true,Bool.or_eq_true]at h1;refine⟨?_,λhm=>?_⟩
    ·intro hp;simp_all
    ·rcases h1.2 with h3|h3
     ·rw[(sI).2 hm]at h3;cases h3
     grind
   ·intro e he hm;rw[he]at h2;simp only[Bool.or_eq_true,Bool.and_eq_true]at h2;rcases h2 with(h3|h3)|h3
    ·rw[(sI).2 hm]at h3;cases h3
    all_goals grind
 |p::l,k,h,j+1,q,hq=>by intro hne;simp only[WV,Bool.and_eq_true]at h;have:=Ka h.2 j q (by grind) (by omega);grind
def AS {C:Cx}{all:List Oper}{m:List Nat}:∀{l:List Oper} {k:Nat},OY C all m k l=true->∀i o,l[i]? =some o->
  (∀e∈o.after.toList,Region.binds .any e=true->e.on<k+i)/\(Da C o=true->WV C all m (k+i) o 0 all=true/\∀d,o.dst=some d->d∉looks all o)
 |[],_,_,_,_,h=>by simp at h
 |p::l,k,h,0,q,hq=>by
  simp at hq;subst hq;simp only[OY,Bool.and_eq_true,Bool.or_eq_true]at h;obtain⟨⟨h1,h2⟩,h3⟩:=h;refine⟨S6.1 h2,λhQ=>?_⟩;rcases h1 with h1|⟨h1,h4⟩
  ·grind
  ·refine⟨h1,λd hd hm=>?_⟩;rw[hd]at h4;simp only[(sI).2 hm]at h4;cases h4
 |p::l,k,h,i+1,q,hq=>by simp only[OY,Bool.and_eq_true]at h;have:=AS h.2 i q (by grind);grind
def apG {C:Cx}{all:List Oper}{m:List Nat}(h:OY C all m 0 all=true):WW C all m where
 down i o hi:=by simpa using (AS h i o hi).1
 self i o hi hq:=((AS h i o hi).2 hq).2
 dst i o hi hq j q hj hne d hd:=((Ka (by simpa using ((AS h i o hi).2 hq).1) j q hj (by omega)).1 d hd).1
 look i o hi hq j q hj hne d hd hm:=by have:=((Ka (by simpa using ((AS h i o hi).2 hq).1) j q hj (by omega)).1 d hd).2 hm;grind
 write i o hi hq j q hj hne e he hm:=by have:=(Ka (by simpa using ((AS h i o hi).2 hq).1) j q hj (by omega)).2 e he hm;grind
def X9:∀{l:List Oper},aaA l=true->∀o∈l,∀cs b,o.op≠.select cs b
 |[],_,o,h=>by simp at h
 |p::l,h,o,ho=>by
  simp only[aaA,Bool.and_eq_true]at h;rcases List.mem_cons.1 ho with rfl|ho
  ·grind
  ·exact X9 h.2 o ho
def Rj {m:List Nat}{i:Nat}{K:Prop}{w:World}:∀{H:Hx},J_ m i H w K->K/\∀j fs,(j,fs)∈H->Az m i j=false->yj fs w
 |[],h=>⟨h,by grind⟩
 |(k,gs)::H,h=>by
  have ale:∀{l:List (Addr×Value)} {K:Prop},alc l w K->K/\yj l w:=by
   intro l;induction l with
   |nil=>intro K h;exact⟨h,trivial⟩
   |cons p l ih=>intro K h;exact⟨(ih h.2).1,h.1,(ih h.2).2⟩
  simp only[J_]at h;cases ha:Az m i k with
  |true=>
   rw[ha]at h;obtain⟨h1,h2⟩:=Rj (H:=H) h;grind
  |false=>
   rw[ha]at h;obtain⟨h0,h3⟩:=ale h;obtain⟨h1,h2⟩:=Rj (H:=H) h0;grind
def Yq (C:Cx)(all:List Oper)(o:Oper)(ρ:Env)(v:Value)(fs:List (Addr×Value)):Prop:=
 (CB all o ρ=some true/\∀w',yj fs w'->rW C.P ((execOp (ev ρ) o).run C.P w') λu w''=>u=v/\w''=w')\/(CB all o ρ=some false/\v=undef)
def amZ (C:Cx)(all:List Oper)(o:Oper):Prop:=Il C.n o.dst=true/\∀p,o.guard=some p->∀d,yh all p.1=some d->d<C.n
def Li (listed:Array Bool)(i:Nat):Prop:=listed.getD i false=true
structure Inv (C:Cx) (ops:Array Oper) (m:List Nat) (ex:List Nat) (H:Hx) (ρ:Env) (w:World) (listed:Array Bool) (a:Act):Prop where
 defers:a.defers=[]
 size:a.tmps.size=C.n
 lsize:listed.size=ops.size
 shut:agZ ops.toList (Li listed)
 UE:agZ ops.toList (·∈ex)
 acQ:∀i∈ex,i<ops.size
 sub:∀i,Li listed i->i∈ex
 tI:∀i∈ex,¬Li listed i->∃o v fs,ops[i]? =some o/\Da C o=true/\amZ C ops.toList o/\(fs=[]\/(i,fs)∈H)/\yj fs w/\(∀d,o.dst=some d->ρ d=v)/\Yq C ops.toList o ρ v fs
 get:∀t,(∀i∈ex,¬Li listed i->∀o,ops[i]? =some o->o.dst≠some t)->a.tmps.getD t undef=ρ t
def ajt {all:List Oper}{o:Oper}{ρ ρ':Env}(h:∀t∈looks all o,ρ t=ρ' t):CB all o ρ=CB all o ρ':=by
 unfold CB;cases hg:o.guard with
 |none=>rfl
 |some p=>
  simp only;cases hs:yh all p.1 with
  |none=>rfl
  |some d=>
   have:ρ d=ρ' d:=h d (by simp[looks,hg,hs]);grind
def ag0 {all:List Oper}{o:Oper}{ρ ρ':Env}(h:∀t∈looks all o,ρ t=ρ' t):∀x∈o.op.operands,ev ρ x=ev ρ' x:=by
 intro x hx;cases x with
 |tmp t=>
  refine h t ?_;refine List.mem_append_left _ (List.mem_filterMap.2 ⟨.tmp t,by grind,rfl⟩)
 |_=>rfl
def am0 {C:Cx}{ops:Array Oper}{m:List Nat}{ex:List Nat}{H:Hx}{ρ:Env}{w:World}{listed:Array Bool}{a:Act}(hP:WW C ops.toList m)(hG:Good ops.toList m)
  (inv:Inv C ops m ex H ρ w listed a){j:Nat}{q:Oper}(hj:ops[j]? =some q)(atH:∀e∈q.after.toList,Region.binds .any e=true->Li listed e.on):
  ∀t∈looks ops.toList q,a.tmps.getD t undef=ρ t:=by
 intro t ht;refine inv.get t λi hi hni o ho hd=>?_;have ho':ops.toList[i]? =some o:=by grind
 have hj':ops.toList[j]? =some q:=by grind
 obtain⟨o',v,fs,h1,h2,h3⟩:=inv.tI i hi hni;have e1:o=o':=by grind
 rw[<-e1]at h2;by_cases hij:i=j
 ·have e2:o=q:=by grind
  rw[<-e2]at ht;exact hP.self i o ho' h2 t hd ht
 ·have:=hP.look i o ho' h2 j q hj' hij t hd ht;exact hni (hG j q hj' i this (Li listed) inv.shut atH)
def M3 {C:Cx}{ops:Array Oper}{o:Oper}{ρ:Env}{a:Act}(hs:a.tmps.size=C.n)(hg:∀t∈looks ops.toList o,a.tmps.getD t undef=ρ t){b:Bool}(h:CB ops.toList o ρ=some b)
  (hd:∀p,o.guard=some p->∀d,yh ops.toList p.1=some d->d<C.n):Region.wanted o (yielded ops a.tmps)=b:=by
 unfold CB at h;unfold Region.wanted;cases hgd:o.guard with
 |none=>grind
 |some p=>
  rw[hgd]at h;obtain⟨j,want⟩:=p;simp only at h⊢;cases BG:yh ops.toList j with
  |none=>grind
  |some d=>
   rw[BG]at h;simp only at h;have hdn:=hd _ hgd d BG;have hgt:=hg d (by simp[looks,hgd,BG]);rw[YL,Array.getElem?_toList]at BG;have h1:a.tmps[d]? =some (ρ d):=by simp_all
   unfold yielded;cases hr:ρ d<;>rw[hr]at h<;>simp only[reduceCtorEq,Option.some.injEq]at h
   all_goals simp_all
def left (listed:Array Bool):Nat:=listed.toList.countP (λb=>!b)
def apH {listed:Array Bool}{j:Nat}(hj:j<listed.size)(h:listed.getD j false=false):left (listed.setIfInBounds j true)+1=left listed:=by
 unfold left;obtain⟨l⟩:=listed;have:l.getD j false=false:=by simp_all
 grind
def UF {listed:Array Bool}(h:left listed=0):∀i,i<listed.size->Li listed i:=by intro i hi;unfold left at h;rw[List.countP_eq_zero]at h;have:=h (listed[i]) (by simp);unfold Li;simp_all
section
variable {C:Cx}{ops:Array Oper}{m:List Nat}{K:Env->World->Prop}
def am1 {i:Nat}{s:JU}{H:Hx}{ρ:Env}{w:World}{o:Oper}(ho:ops.toList[i]? =some o)(h:A_ C ops.toList m (.op i s) H ρ w K):
  Il C.n o.dst=true/\(∀p,o.guard=some p->∀d,yh ops.toList p.1=some d->d<C.n)/\∃ρ':Env,(∀t,ρ' t=ρ t)/\
   ((CB ops.toList o ρ=some true/\cond (Da C o) (xF C o ρ' w λv w'=>A_ C ops.toList m s ((i,wH C o ρ' v)::H) (put ρ' o.dst v) w' K)
      (xF C o ρ' w λv w'=>J_ m i H w' (A_ C ops.toList m s H (put ρ' o.dst v) w' K)))\/
    (CB ops.toList o ρ=some false/\A_ C ops.toList m s H (put ρ' o.dst undef) w K)):=by
 simp only[A_,KH,ho]at h;obtain⟨hd,h⟩:=pU h;refine⟨hd,?_⟩;cases hg:o.guard with
 |none=>
  simp only[hg]at h;exact⟨(by grind),ρ,λ_=>rfl,.inl ⟨by simp[CB,hg],h⟩⟩
 |some p=>
  simp only[hg]at h;obtain⟨j,want⟩:=p;cases BG:yh ops.toList j with
  |none=>grind
  |some d=>
   rw[BG]at h;obtain⟨hn,h⟩:=pU h;have hn':d<C.n:=by simpa[Nat.blt_eq]using hn
   refine⟨(by rintro p ⟨⟩ d' hd';rw[BG]at hd';cases hd';exact hn'),?_⟩;have same:∀b,ρ d=.bool b->∀t,put ρ (some d) (.bool b) t=ρ t:=by
     intro b hb t;simp[put];cases he:Nat.beq t d with
     |true=>have:=Nat.eq_of_beq_eq_true he;rw[this,hb];rfl
     |false=>rfl
   cases hr:ρ d<;>rw[hr]at h<;>try exact h.elim
   rotate_left
   ·exact⟨ρ,λ_=>rfl,.inr ⟨by simp[CB,hg,BG,hr],h⟩⟩
   rename_i b;have hw:CB ops.toList o ρ=some (b==want):=by simp[CB,hg,BG,hr]
   cases want<;>cases b<;>simp only[cond_true,cond_false]at h
   ·exact⟨_,same false hr,.inl ⟨by rw[hw];rfl,h⟩⟩
   ·exact⟨_,same true hr,.inr ⟨by rw[hw];rfl,h⟩⟩
   ·exact⟨_,same false hr,.inr ⟨by rw[hw];rfl,h⟩⟩
   ·exact⟨_,same true hr,.inl ⟨by rw[hw];rfl,h⟩⟩
def UG {all:List Oper}(S7:∀o∈all,∀cs b,o.op≠.select cs b){o:Oper}(ho:o∈all){ρ ρ':Env}{v:Value}{fs:List (Addr×Value)}(h:∀t∈looks all o,ρ t=ρ' t)(hy:Yq C all o ρ v fs):Yq C all o ρ' v fs:=by unfold Yq at*;rw[<-ajt h,<-execOp_congr o (S7 o ho) (ag0 h)];exact hy
def BH {ρ:Env}{d:Option Nat}{v:Value}{t:Nat}(h:d≠some t):put ρ d v t=ρ t:=by
 cases d with
 |none=>rfl
 |some s=>
  simp[put];cases hb:Nat.beq t s with
  |true=>simp_all
  |false=>rfl
def ag1 {ρ:Env}{v:Value}{t:Nat}:put ρ (some t) v t=v:=by simp[put,Nat.beq_refl]
def aeF {a:Act}{d:Option Nat}{v:Value}{t:Nat}(h:d≠some t):(a.put d v).tmps.getD t undef=a.tmps.getD t undef:=by
 cases d with
 |none=>rfl
 |some s=>
  have hne:s≠t:=λe=>h (by rw[e]);simp[Act.put,Array.getD_eq_getD_getElem?,Array.getElem?_setIfInBounds_ne hne]
def ag2 {a:Act}{v:Value}{t:Nat}(h:t<a.tmps.size):(a.put (some t) v).tmps.getD t undef=v:=by simp[Act.put,Array.getD_eq_getD_getElem?,Array.getElem?_setIfInBounds,h]
def aaD {a:Act}{d:Option Nat}{v:Value}:(a.put d v).defers=a.defers:=by cases d<;>rfl
def ag3 {a:Act}{d:Option Nat}{v:Value}:(a.put d v).tmps.size=a.tmps.size:=by cases d<;>simp[Act.put]
def arq (hG:Good ops.toList m){ex:List Nat}(hs:agZ ops.toList (·∈ex)){i j:Nat}{o:Oper}(ho:ops.toList[i]? =some o)(hi:i∈ex)(h:Az m i j=true):j∈ex:=
 hG i o ho j h (·∈ex) hs (hs i o ho hi)
def Inv.ahead (hP:WW C ops.toList m)(hG:Good ops.toList m)(S7:∀o∈ops.toList,∀cs b,o.op≠.select cs b){ex:List Nat}{H H':Hx}{ρ:Env}{w:World}{listed:Array Bool}{a:Act}
  (inv:Inv C ops m ex H ρ w listed a){i:Nat}{o:Oper}{v:Value}{fs:List (Addr×Value)}(ho:ops[i]? =some o)(hq:Da C o=true)(hd:amZ C ops.toList o)(hi:i∉ex)
  (he:∀e∈o.after.toList,Region.binds .any e=true->e.on∈ex)(hf:fs=[]\/(i,fs)∈H')(hH:∀p∈H,p∈H')(hh:yj fs w)(hy:Yq C ops.toList o ρ v fs):
  Inv C ops m (i::ex) H' (put ρ o.dst v) w listed a:=by
 have hi':i<ops.size:=by grind
 have ho':ops.toList[i]? =some o:=by grind
 have hom:=List.mem_of_getElem? ho';refine⟨inv.defers,inv.size,inv.lsize,inv.shut,?_,?_,λj hj=>List.mem_cons_of_mem _ (inv.sub j hj),?_,?_⟩
 ·intro j q hj hm e he' hb;rcases List.mem_cons.1 hm with rfl|hm
  ·grind
  ·exact List.mem_cons_of_mem _ (inv.UE j q hj hm e he' hb)
 ·intro j hj;rcases List.mem_cons.1 hj with rfl|hj
  ·exact hi'
  ·exact inv.acQ j hj
 ·intro j hj hnl;by_cases hji:j=i
  ·subst hji;refine⟨o,v,fs,ho,hq,hd,hf,hh,?_,?_⟩
   ·intro d hd';rw[hd'];exact ag1
   ·refine UG S7 hom (λt ht=>?_) hy;refine(BH λe=>?_).symm;exact hP.self j o ho' hq t e ht
  ·have hjm:=(List.mem_cons.1 hj).resolve_left hji;obtain⟨q,u,gs,h1,h2,h3,h4,h5,h6,h7⟩:=inv.tI j hjm hnl;have h1':ops.toList[j]? =some q:=by grind
   refine⟨q,u,gs,h1,h2,h3,h4.imp id (hH _),h5,?_,?_⟩
   ·intro d hd';rw[BH]
    ·grind
    ·intro e;exact hP.dst i o ho' hq j q h1' (Ne.symm hji) d e hd'
   ·refine UG S7 (List.mem_of_getElem? h1') (λt ht=>?_) h7;refine(BH λe=>?_).symm;have:=hP.look i o ho' hq j q h1' (Ne.symm hji) t e ht;exact hi (arq hG inv.UE h1' hjm this)
 ·intro t ht;have hne:=ht i (List.mem_cons_self ..) (λhl=>hi (inv.sub i hl)) o ho;rw[BH hne];exact inv.get t λj hj hnl q KO=>ht j (List.mem_cons_of_mem _ hj) hnl q KO
def OZ {listed:Array Bool}{i j:Nat}(h:Li listed i):Li (listed.setIfInBounds j true) i:=by
 unfold Li at*;by_cases hij:j=i
 ·subst hij;have:j<listed.size:=by grind
  simp_all
 simp_all
def asr {listed:Array Bool}{j:Nat}(h:j<listed.size):Li (listed.setIfInBounds j true) j:=by unfold Li;simp_all
def Fe {listed:Array Bool}{i j:Nat}(hij:i≠j)(h:Li (listed.setIfInBounds j true) i):Li listed i:=by unfold Li at*;simpa[Array.getD_eq_getD_getElem?,Array.getElem?_setIfInBounds_ne (Ne.symm hij)]using h
def Inv.up (hP:WW C ops.toList m){ex:List Nat}{H:Hx}{ρ:Env}{w:World}{listed:Array Bool}{a:Act}
  (inv:Inv C ops m ex H ρ w listed a){j:Nat}{o:Oper}{v:Value}(ho:ops[j]? =some o)(hj:j∈ex)(hd:Il C.n o.dst=true)(hr:∀e∈o.after.toList,Region.binds .any e=true->Li listed e.on)
  (hv:∀d,o.dst=some d->ρ d=v):Inv C ops m ex H ρ w (listed.setIfInBounds j true) (a.put o.dst v):=by
 have ho':ops.toList[j]? =some o:=by grind
 refine⟨by rw[aaD];exact inv.defers,by rw[ag3];exact inv.size,by simpa using inv.lsize,?_,inv.UE,inv.acQ,?_,?_,?_⟩
 ·intro i q hi hl e he hb;by_cases hij:i=j
  ·subst hij;rw[ho']at hi;cases hi;exact OZ (hr e he hb)
  ·exact OZ (inv.shut i q hi (Fe hij hl) e he hb)
 ·intro i hl;by_cases hij:i=j
  ·grind
  ·exact inv.sub i (Fe hij hl)
 ·intro i hi hnl;exact inv.tI i hi λhl=>hnl (OZ hl)
 ·intro t ht;by_cases KR:o.dst=some t
  ·rw[KR,ag2]
   ·grind
   ·rw[inv.size];rw[KR]at hd;simpa[Il,Nat.blt_eq]using hd
  ·rw[aeF KR];refine inv.get t λi hi hnl q hq=>?_;by_cases hij:i=j
   ·grind
   ·exact ht i hi (λhl=>hnl (Fe hij hl)) q hq
def Inv.atK (hP:WW C ops.toList m)(hG:Good ops.toList m)(S7:∀o∈ops.toList,∀cs b,o.op≠.select cs b){ex:List Nat}{H:Hx}{ρ:Env}{w w':World}{listed:Array Bool}{a:Act}
  (inv:Inv C ops m ex H ρ w listed a){j:Nat}{o:Oper}{v:Value}(ho:ops[j]? =some o)(hj:j∉ex)(hd:Il C.n o.dst=true)(hr:∀e∈o.after.toList,Region.binds .any e=true->Li listed e.on)
  (hh:∀i fs,(i,fs)∈H->Az m j i=false->yj fs w->yj fs w'):Inv C ops m (j::ex) H (put ρ o.dst v) w' (listed.setIfInBounds j true) (a.put o.dst v):=by
 have hj':j<ops.size:=by grind
 have ho':ops.toList[j]? =some o:=by grind
 refine⟨by rw[aaD];exact inv.defers,by rw[ag3];exact inv.size,by simpa using inv.lsize,?_,?_,?_,?_,?_,?_⟩
 ·intro i q hi hl e he hb;by_cases hij:i=j
  ·subst hij;rw[ho']at hi;cases hi;exact OZ (hr e he hb)
  ·exact OZ (inv.shut i q hi (Fe hij hl) e he hb)
 ·intro i q hi hm e he hb;rcases List.mem_cons.1 hm with rfl|hm
  ·rw[ho']at hi;cases hi;exact List.mem_cons_of_mem _ (inv.sub _ (hr e he hb))
  ·exact List.mem_cons_of_mem _ (inv.UE i q hi hm e he hb)
 ·intro i hi;rcases List.mem_cons.1 hi with rfl|hi
  ·exact hj'
  ·exact inv.acQ i hi
 ·intro i hl;by_cases hij:i=j
  ·grind
  ·exact List.mem_cons_of_mem _ (inv.sub i (Fe hij hl))
 ·intro i hi hnl;have hij:i≠j:=by rintro rfl;exact hnl (asr (by rw[inv.lsize];exact hj'))
  have him:=(List.mem_cons.1 hi).resolve_left hij;have apI:¬Li listed i:=λhl=>hnl (OZ hl);obtain⟨q,u,gs,h1,h2,h3,h4,h5,h6,h7⟩:=inv.tI i him apI;have h1':ops.toList[i]? =some q:=by grind
  have aA7:Az m j i=false:=by
   cases ha:Az m j i with
   |false=>rfl
   |true=>exact(apI (hG j o ho' i ha (Li listed) inv.shut hr)).elim
  refine⟨q,u,gs,h1,h2,h3,h4,?_,?_,?_⟩
  ·rcases h4 with rfl|h4
   ·trivial
   grind
  ·intro d hd';rw[BH]
   ·grind
   ·exact λe=>hP.dst i q h1' h2 j o ho' hij d hd' e
  ·refine UG S7 (List.mem_of_getElem? h1') (λt ht=>?_) h7;refine(BH λe=>?_).symm;rcases hP.write i q h1' h2 j o ho' hij t e ht with h|⟨h,_⟩
   ·exact hj (arq hG inv.UE h1' him h)
   grind
 ·intro t ht;by_cases KR:o.dst=some t
  ·rw[KR,ag2,ag1];rw[inv.size];rw[KR]at hd;simpa[Il,Nat.blt_eq]using hd
  ·rw[aeF KR,BH KR];refine inv.get t λi hi hnl q hq=>?_;have hij:i≠j:=λe=>hj (e▸hi);exact ht i (List.mem_cons_of_mem _ hi) (λhl=>hnl (Fe hij hl)) q hq
end
section
variable {C:Cx}{ops:Array Oper}{m:List Nat}{K:Env->World->Prop}
def Rk {ex:List Nat}(hall:∀i,i<ops.size->i∈ex):∀{s:JU} {top:Bool} {H:Hx} {ρ:Env} {w:World},dX C ops.toList top s ex=true->A_ C ops.toList m s H ρ w K->K ρ w
 |.done,top,H,ρ,w,_,h=>h
 |.br a b,top,H,ρ,w,hs,h=>by simp[dX,Bool.and_eq_true]at hs;exact Rk hall hs.1.2 h.1
 |.op i s,top,H,ρ,w,hs,h=>by
  simp[dX]at hs;cases ho:KQ ops.toList i with
  |none=>grind
  |some o=>
   rw[ho]at hs;simp[Bool.and_eq_true]at hs;have hi:i<ops.size:=by rw[KH,Array.getElem?_toList]at ho;grind
   have:=hs.1.1.1;rw[(sI).2 (hall i hi)]at this;cases this
def YO {ex:List Nat}{j:Nat}:∀{s:JU} {top:Bool} {H:Hx} {ρ:Env} {w:World},j∈FV s->dX C ops.toList top s ex=true->A_ C ops.toList m s H ρ w K->
  ∃s' top',dX C ops.toList top' (.op j s') ex=true/\A_ C ops.toList m (.op j s') H ρ w K
 |.done,top,H,ρ,w,hj,_,_=>by cases hj
 |.br a b,top,H,ρ,w,hj,hs,h=>by
  simp[dX,Bool.and_eq_true]at hs;simp[FV,List.mem_append]at hj;rcases hj with hj|hj
  ·exact YO hj hs.1.2 h.1
  ·exact YO hj hs.2 h.2
 |.op i s,top,H,ρ,w,hj,hs,h=>by simp[FV,List.mem_singleton]at hj;grind
def am2 (hC:mJ C)(hP:WW C ops.toList m)(hG:Good ops.toList m)(S7:∀o∈ops.toList,∀cs b,o.op≠.select cs b):
  ∀(fuel:Nat) (s:JU) {ex:List Nat} {H:Hx} {ρ:Env} {w:World} {listed:Array Bool} {a:Act},dX C ops.toList true s ex=true->Inv C ops m ex H ρ w listed a->left listed<=fuel->
   A_ C ops.toList m s H ρ w K->wpAny C.P .any ops (E_ C.n K) fuel listed a w:=by
 intro fuel;induction fuel with
 |zero=>
  intro s;induction s with
  |done=>
   intro ex H ρ w listed a hs inv hl h;have hall:=UF (Nat.le_zero.1 hl);have hin:∀i,i<ops.size->i∈ex:=λi hi=>inv.sub i (hall i (by rw[inv.lsize];exact hi));refine⟨?_,rfl,ρ,⟨inv.defers,inv.size,λt=>inv.get t λi hi hnl=>(hnl (hall i (by rw[inv.lsize];exact inv.acQ i hi))).elim⟩,Rk hin hs h⟩;rw[List.eq_nil_iff_forall_not_mem];intro i hi;obtain⟨h1,o,h2,h3⟩:=mem_ready.1 hi;have hi':i<ops.size:=by grind
   have:=hall i (by grind);unfold Li at this;grind
  |br x y _ _=>
   intro ex H ρ w listed a hs inv hl h;have hall:=UF (Nat.le_zero.1 hl);have hin:∀i,i<ops.size->i∈ex:=λi hi=>inv.sub i (hall i (by rw[inv.lsize];exact hi));refine⟨?_,rfl,ρ,⟨inv.defers,inv.size,λt=>inv.get t λi hi hnl=>(hnl (hall i (by rw[inv.lsize];exact inv.acQ i hi))).elim⟩,Rk hin hs h⟩;rw[List.eq_nil_iff_forall_not_mem];intro i hi;obtain⟨h1,o,h2,h3⟩:=mem_ready.1 hi;have hi':i<ops.size:=by grind
   have:=hall i (by grind);unfold Li at this;grind
  |op i s _=>
   intro ex H ρ w listed a hs inv hl h;have hall:=UF (Nat.le_zero.1 hl);simp[dX]at hs;cases ho:KQ ops.toList i with
   |none=>grind
   |some o=>
    rw[ho]at hs;simp[Bool.and_eq_true]at hs;have hi:i<ops.size:=by rw[KH,Array.getElem?_toList]at ho;grind
    have hx:=inv.sub i (hall i (by rw[inv.lsize];exact hi));have:=hs.1.1.1;rw[(sI).2 hx]at this;cases this
 |succ fuel ih=>
  intro s;have real:∀{s:JU} {ex:List Nat} {H:Hx} {ρ:Env} {w:World} {listed:Array Bool} {a:Act},dX C ops.toList true s ex=true->CC C ex (FV s) 0 ops.toList=true->Inv C ops m ex H ρ w listed a->left listed<=fuel+1->
    A_ C ops.toList m s H ρ w K->wpAny C.P .any ops (E_ C.n K) (fuel+1) listed a w:=by
   intro s ex H ρ w listed a hs hc inv hl h;refine⟨λhr=>?_,λj hj=>?_⟩
   ·
    have hall:∀i,i<ops.size->Li listed i:=by
     intro i;induction i using Nat.strongRecOn with
     |_ i ihi=>
      intro hi;unfold Li;cases hli:listed.getD i false with
      |true=>rfl
      |false=>
       exfalso;have ho:ops[i]? =some ops[i]:=by simp[hi]
       have ho':ops.toList[i]? =some ops[i]:=by grind
       have:i∈Region.ready .any ops listed:=by
        refine mem_ready.2 ⟨?_,ops[i],ho,?_⟩
        ·have hsz:i<listed.size:=by rw[inv.lsize];exact hi
         grind
        ·intro e he hb;exact ihi e.on (hP.down i _ ho' e (by grind) hb) (by have:=hP.down i _ ho' e (by grind) hb;omega)
       grind
    have hin:∀i,i<ops.size->i∈ex:=λi hi=>inv.sub i (hall i hi);exact⟨rfl,ρ,⟨inv.defers,inv.size,λt=>inv.get t λi hi hnl=>(hnl (hall i (inv.acQ i hi))).elim⟩,Rk hin hs h⟩
   ·obtain⟨h1,o,ho,h3⟩:=mem_ready.1 hj;have hr:∀e∈o.after.toList,Region.binds .any e=true->Li listed e.on:=λe he hb=>h3 e (by grind) hb;have ho':ops.toList[j]? =some o:=by grind
    have hom:=List.mem_of_getElem? ho';have hjs:j<listed.size:=by grind
    have h1':listed.getD j false=false:=by grind
    have hnl:¬Li listed j:=by unfold Li;grind
    have hleft:=apH hjs h1';have aaE:=am0 hP hG inv ho hr;have avJ:execOp a.eval o=execOp (ev ρ) o:=execOp_congr o (S7 o hom) (λx hx=>by have:=ag0 (ρ':=ρ) aaE x hx;rw[<-this];cases x<;>rfl)
    rw[wpOp,ho];simp only;by_cases hjx:j∈ex
    ·obtain⟨q,v,fs,q1,q2,q3,q4,q5,q6,q7⟩:=inv.tI j hjx hnl;have e1:o=q:=by grind
     subst e1;have inv':=inv.up hP ho hjx q3.1 hr q6;have G8:=q3.2;rcases q7 with⟨hw,hv⟩|⟨hw,rfl⟩
     ·rw[if_pos (M3 inv.size aaE hw G8)];refine .inl (rW.wp (K:=λu w''=>u=v/\w''=w) ?_ ?_)
      all_goals grind
     ·rw[if_neg (by rw[M3 inv.size aaE hw G8];simp)];exact ih s hs inv' (by omega) h
    ·have Ba:=UD hc j o ho';rw[Nat.zero_add]at Ba;rcases Ba with Ba|Ba|⟨hQ,hhd⟩
     ·exact(hjx Ba).elim
     ·exact(Ba λe he hb=>inv.sub _ (hr e he hb)).elim
     ·obtain⟨s',top',hs',h'⟩:=YO hhd hs h;obtain⟨hd,G8,ρ',hρ,h'⟩:=am1 ho' h';have apJ:=funext hρ;subst apJ;simp[dX,KH,ho',Bool.and_eq_true]at hs';rcases h' with⟨hw,h'⟩|⟨hw,h'⟩
      ·rw[if_pos (M3 inv.size aaE hw G8)];rw[hQ]at h';simp[cond_false]at h';refine .inl (rW.wp (K:=λv w'=>J_ m j H w' (A_ C ops.toList m s' H (put ρ' o.dst v) w' K)) ?_ ?_)
       ·rw[avJ];exact Rh hC h'
       ·intro v w' hk;obtain⟨hk,avK⟩:=Rj hk;exact ih s' hs'.2 (inv.atK hP hG S7 ho hjx hd hr λi fs hm ha _=>avK i fs hm ha) (by omega) hk
      ·rw[if_neg (by rw[M3 inv.size aaE hw G8];simp)];exact ih s' hs'.2 (inv.atK hP hG S7 ho hjx hd hr λi fs hm ha hw=>hw) (by omega) h'
  induction s with
  |done=>
   intro ex H ρ w listed a hs inv hl h;have alf:∀{l:List Oper} {k:Nat},ald ex k l=true->CC C ex [] k l=true:=by
    intro l;induction l with
    |nil=>intro k _;rfl
    |cons o l ihl=>
     intro k hk;simp[ald,Bool.and_eq_true]at hk;simp[CC,Bool.and_eq_true,Bool.or_eq_true];exact⟨.inl (.inl hk.1),ihl hk.2⟩
   exact real hs (alf (by simpa[dX]using hs)) inv hl h
  |br x y _ _=>
   intro ex H ρ w listed a hs inv hl h;have hs':=hs;simp[dX,Bool.not_true,Bool.false_or,Bool.and_eq_true]at hs';exact real hs hs'.1.1.1 inv hl h
  |op i s ihs=>
   intro ex H ρ w listed a hs inv hl h;have hs':=hs;simp[dX]at hs';cases ho:KQ ops.toList i with
   |none=>rw[ho]at hs';cases hs'
   |some o=>
    rw[ho]at hs';simp[Bool.and_eq_true,Bool.or_eq_true,Bool.not_true,Bool.false_eq_true,or_false]at hs';obtain⟨⟨⟨h1,h2⟩,h3⟩,h4⟩:=hs';have hix:i∉ex:=λhm=>by rw[(sI).2 hm]at h1;cases h1
    rw[KH]at ho;have ho':ops[i]? =some o:=by rw[<-Array.getElem?_toList];exact ho
    cases hQ:Da C o with
    |false=>
     rw[hQ]at h3;exact real hs (by simpa[FV]using h3) inv hl h
    |true=>
     obtain⟨hd,G8,ρ',hρ,h⟩:=am1 ho h;have apJ:=funext hρ;subst apJ;rcases h with⟨hw,h⟩|⟨hw,h⟩
     ·rw[hQ]at h;simp[cond_true]at h;obtain⟨v,hk,hh,hv⟩:=alb hQ h;refine ihs h4 (inv.ahead hP hG S7 ho' hQ ⟨hd,G8⟩ hix (Io.1 h2) (.inr (List.mem_cons_self ..)) (λp hp=>List.mem_cons_of_mem _ hp) hh (.inl ⟨hw,λw' hw'=>?_⟩)) hl hk;exact Rh hC (hv w' hw' _ ⟨rfl,rfl⟩)
     ·exact ihs h4 (inv.ahead hP hG S7 ho' hQ ⟨hd,G8⟩ hix (Io.1 h2) (.inl rfl) (λp hp=>hp) trivial (.inr ⟨hw,rfl⟩)) hl h
def ag4 (hC:mJ C){id:Nat}{s:JU}(hok:YN C ops.toList (M1 ops.toList []) s=true){ρ:Env}{w:World}{a:Act}(hr:Rel C.n ρ a)
  (h:A_ C ops.toList (M1 ops.toList []) s [] ρ w.drew K):(Code.region id ops true).wp C.P (E_ C.n K) a w:=by
 simp[YN,Bool.and_eq_true]at hok;refine wp_region_any hC.mixed (am2 hC (apG hok.1.2) (apF _) (X9 hok.2) _ s hok.1.1 ?_ ?_ h)
 ·refine⟨hr.defers,hr.size,by simp,?_,?_,?_,?_,?_,λt _=>hr.get t⟩
  ·intro i o hi hl;unfold Li at hl;simp[Array.getD_eq_getD_getElem?,Array.getElem?_replicate]at hl;grind
  ·intro i o hi hm;cases hm
  ·grind
  ·intro i hl;unfold Li at hl;simp[Array.getD_eq_getD_getElem?,Array.getElem?_replicate]at hl;grind
  grind
 ·unfold left;have:=List.countP_le_length (p:=λb=>!b) (l:=(Array.replicate ops.size false).toList);grind
end
abbrev cv:=List (Nat×JU)
def ars:cv->Nat->Option JU
 |[],_=>none
 |p::l,i=>cond (Nat.beq i p.1) (some p.2) (ars l i)
def aaF (C:Cx)(S:cv)(id:Nat)(all:List Oper)(ρ:Env)(w:World)(K:Env->World->Prop):Prop:=match ars S id with
 |some s=>cond (YN C all (M1 all []) s) (A_ C all (M1 all []) s [] ρ w.drew K) False
 |none=>False
def X_ {C:Cx}(hC:mJ C)(S:cv):amV C (aaF C S):=by
 intro id ops ρ w K h a hr;unfold aaF at h;split at h
 ·obtain⟨h1,h2⟩:=pU h;exact ag4 hC h1 hr h2
 grind
def M4 (C:Cx):List ResultVar->Env->World->(List Value->Prop)->Prop
 |[],_,_,K=>K []
 |.tmp t::l,ρ,w,K=>M4 C l ρ w λvs=>K (ρ t::vs)
 |.cell a t::l,ρ,w,K=>match ρ a with
  |.pointer p=>wA p λad=>ldT C.T t ad w λv=>M4 C l ρ w λvs=>K (v::vs)
  |_=>False
def ag5:List Value->Value
 |[v]=>v
 |l=>.tuple l.toArray
def IJ (tmps:Array Value):ResultVar->Sem Value
 |.tmp t=>pure (tmps.getD t undef)
 |.cell b t=>do loadVar t (<-asAddr (tmps.getD b undef))
def Rl {C:Cx}(hC:mJ C){ρ:Env}{w:World}{a:Act}(hr:Rel C.n ρ a):∀{l:List ResultVar} {K:List Value->Prop},M4 C l ρ w K->
  ∃vs,(l.mapM (IJ a.tmps)).run C.P w=.ok vs w/\vs.length=l.length/\K vs
 |[],K,h=>⟨[],rfl,rfl,h⟩
 |.tmp t::l,K,h=>by
  obtain⟨vs,h1,h2,h3⟩:=Rl hC hr (K:=λvs=>K (ρ t::vs)) h;refine⟨ρ t::vs,?_,by simp[h2],h3⟩;have h0:(IJ a.tmps (.tmp t)).run C.P w=.ok (ρ t) w:=by simp[IJ,hr.get]
  simp_all
 |.cell b t::l,K,h=>by
  simp[M4]at h;split at h
  ·rename_i p hp;obtain⟨ad,rfl,h'⟩:=uM h;obtain⟨v,hv,hk⟩:=agS hC.uT h';obtain⟨vs,h1,h2,h3⟩:=Rl hC hr hk;refine⟨v::vs,?_,by simp[h2],h3⟩;have h0:(IJ a.tmps (.cell b t)).run C.P w=.ok v w:=by simp[IJ,hr.get,hp,asAddr,Sem.run_bind,Sem.run_pure,Result.andThen_ok,hv]
   simp_all
  grind
def am5 {C:Cx}(hC:mJ C){ρ:Env}{w:World}{a:Act}(hr:Rel C.n ρ a){fn:Func}{K:Value->Prop}(h:M4 C fn.results.toList ρ w λvs=>K (ag5 vs)):
  ∃v,(results fn a.tmps).run C.P w=.ok v w/\K v:=by
 obtain⟨vs,h1,h2,h3⟩:=Rl hC hr h;refine⟨_,?_,h3⟩;have hm:(fn.results.mapM (IJ a.tmps)).run C.P w=.ok vs.toArray w:=by
  rw[<-Array.toArray_toList (xs:=fn.results),List.mapM_toArray,Sem.run_map,h1]
  try rfl
 have he:results fn a.tmps=(do let vs<-fn.results.mapM (IJ a.tmps);pure (if h:vs.size=1 then vs[0]else .tuple vs)):=by
  have hf:(λ|.tmp t=>pure (a.tmps.getD t undef)|.cell b t=>do loadVar t (<-asAddr (a.tmps.getD b undef)):ResultVar->Sem Value)=IJ a.tmps:=by funext r;cases r<;>rfl
  rfl
 rw[he];simp[Sem.run_bind,hm,Result.andThen_ok,Sem.run_pure]
 match vs with
 |[]=>rfl
 |[v]=>rfl
 |v::u::vs=>simp[ag5]
def ast {C:Cx}(hC:mJ C){f:FuncId}{fn:Func}{c:Code}{args:List Value}{w:World}{K:Value->World->Prop}(hf:C.P.funcs[f]? =some fn)(hb:fn.body=some c)(hn:fn.ntmps=C.n)
  (ha:Nat.ble args.length C.n=true)(h:Fin C [.code c] (OS args) w λρ w'=>M4 C fn.results.toList ρ w' λvs=>K (ag5 vs) w'):aq C.P f args.toArray w K:=by
 have ha:=Nat.le_of_ble_eq_true ha;intro cs;let b:Frame:={(default:Frame)with fn:=f,kind:=.normal};let a:Act:={tmps:=args.toArray++Array.replicate (fn.ntmps-args.toArray.size) undef,defers:=[]};have atM:Frame.enter C.P f args.toArray .normal=b.at a [.code c]:=by simp[Frame.enter,Frame.at,hf,hb,b,a]
 have axD:∀(l:List Value) (t:Nat),nth l t=(l[t]?).getD undef:=by
  intro l;induction l with
  |nil=>intro t;simp[nth]
  |cons v l ih=>intro t;cases t<;>simp[nth,ih]
 have hr:Rel C.n (OS args) a:=by refine⟨rfl,by grind,λt=>?_⟩;simp[OS,axD,a,Array.getD_eq_getD_getElem?];grind
 obtain⟨ρ',a',w',todo',hr',hR,hs⟩:=h a b cs hr;obtain⟨v,hv,hk⟩:=am5 hC hr' (K:=λv=>K v w') hR;refine⟨.returned v,w',{b.at a' todo' with mode:=.returning},hk,?_,rfl,rfl,hr'.defers,rfl,fn,hf,hv⟩;rw[atM];exact hs
def atN {ρ:Env}{t:Nat}{v:Value}(h:ρ t=v):put ρ (some t) v=ρ:=by
 funext s;simp[put];cases hb:Nat.beq s t with
 |true=>simp_all
 |false=>rfl
def KT:Code->Nat->List Item->Option (List Item)
 |.region i ops d,id,k=>cond (Nat.beq i id) (some (.code (.region i ops d)::k)) none
 |.seq a b,id,k=>match KT a id (.code b::k)with
  |some r=>some r
  |none=>KT b id k
 |.cond _ a b,id,k=>match KT a id k with
  |some r=>some r
  |none=>KT b id k
 |.block i c,id,k=>KT c id (.inBlock i::k)
 |.loop c,id,k=>KT c id (.inLoop c::k)
 |_,_,_=>none
def BI (fn:Func)(id:Nat):List Item:=match fn.body with
 |some c=>match KT c id []with
  |some t=>t
  |none=>[]
 |none=>[]
def FX (fn:Func):List Item:=match fn.body with
 |some c=>[.code c]
 |none=>[]
def avL {p q:Prop}(h:p)(e:p=q):q:=e▸h
def asu {C:Cx}(hC:mJ C){f:FuncId}{fn:Func}{args:List Value}{w:World}{K:Value->World->Prop}(hf:C.P.funcs[f]? =some fn)(hb:fn.body.isSome=true)(hn:Nat.beq fn.ntmps C.n=true)
  (ha:Nat.ble args.length C.n=true)(h:Fin C (FX fn) (OS args) w λρ w'=>M4 C fn.results.toList ρ w' λvs=>K (ag5 vs) w'):aq C.P f args.toArray w K:=by
 cases hbb:fn.body with
 |none=>grind
 |some c=>
  have:FX fn=[.code c]:=by simp[FX,hbb]
  rw[this]at h;exact ast hC hf hbb (Nat.eq_of_beq_eq_true hn) ha h
def apK (C:Cx)(fn:Func)(R:Env->World->Prop):YF->Prop
 |[]=>True
 |p::l=>(∀ρ w,p.2 ρ w->Fin C (BI fn p.1) ρ w R)/\apK C fn R l
def asv {C:Cx}{fn:Func}{R:Env->World->Prop}{L:YF}{ids:List Nat}{f:Nat}{todo:List Item}(js:List Nat)(hl:leaves ids f true todo=js.map λj=>(j,BI fn j))(hall:apK C fn R L):
  ∀p∈leaves ids f true todo,∀q,cutAt L p.1=some q->∀ρ w,q ρ w->Fin C p.2 ρ w R:=by
 intro p hp q hq ρ w h;rw[hl]at hp;obtain⟨j,hj,rfl⟩:=List.mem_map.1 hp;induction L with
 |nil=>cases hq
 |cons p l ih=>
  simp[cutAt]at hq;cases hb:Nat.beq j p.1 with
  |true=>
   rw[hb]at hq;simp[cond_true,Option.some.injEq]at hq;subst hq;rw[Nat.eq_of_beq_eq_true hb];exact hall.1 ρ w h
  |false=>
   rw[hb]at hq;exact ih hall.2 hq
def Al (T:uJ)(t:TypeId)(w:World)(K:Addr->World->Prop):Prop:=K ⟨w.heap.size,0,none⟩ (w.alloc (.cells (zc T t).toArray t))
def Bx (cs:List Value)(t:TypeId)(w:World)(K:Addr->World->Prop):Prop:=K ⟨w.heap.size,0,none⟩ (w.alloc (.cells cs.toArray t))
def App (P:Program)(ats:Array TypeId)(ty:TypeId)(s x:Value)(w:World)(K:Option Addr->Nat->Nat->World->Prop):Prop:=
 aL P (Builtin.append_ ats ty [s,x].toArray) w λv w'=>dS v λa n c=>K a n c w'
def cD (P:Program)(ats:Array TypeId)(ty:TypeId)(s x:Value)(w:World)(K:Int->World->Prop):Prop:=
 aL P (Builtin.copy_ ats ty [s,x].toArray) w λv w'=>dI .i64 v λn=>K n w'
def cy (P:Program)(t:TypeId)(l c:Value)(w:World)(K:Option Addr->Nat->Nat->World->Prop):Prop:=
 aL P (Instr.makeSlice t l c) w λv w'=>dS v λa n c=>K a n c w'
def cw (P:Program)(t:TypeId)(r:Option Value)(w:World)(K:Option Nat->World->Prop):Prop:=
 aL P (Instr.makeMap t r) w λv w'=>dM v λm=>K m w'
def bT (P:Program)(op:BinOp)(t:TypeId)(x y:Operand)(a b:Value)(w:World)(K:Bool->World->Prop):Prop:=
 aL P (do eqGuard op t x y a b;binOp op t a b) w λv w'=>dB v λr=>K r w'
def dF (g:Nat)(v:Value)(K:Prop):Prop:=match v with
 |.func fn f c=>match fn with
  |.func g'=>cond (Nat.beq g' g) (kL f.toList (kL c.toList K)) False
  |_=>False
 |_=>False
def asx {g:Nat}{v:Value}{K:Prop}(h:dF g v K):v=.func (.func g) #[] #[]/\K:=by
 cases v with
 |func fn f c=>
  cases fn with
  |func g'=>
   obtain⟨hb,h3⟩:=pU h;obtain⟨h1,h4⟩:=rE h3;obtain⟨h2,h5⟩:=rE h4;simp_all
  |_=>exact h.elim
 |_=>exact h.elim
def alg (P:Program):List Nat->Bool
 |[]=>true
 |f::l=>(match P.funcs[f]? with|some fn=>fn.body.isSome&&!(fn.name== "runtime.NumGoroutine")|none=>false)&&alg P l
def asy {P:Program}{l:List (Nat×TI)}{fs:List Nat}(h1:l.map (λp=>Uz P p.1)=l.map (λp=>some (p.2.d,p.2.size,p.2.bytes,p.2.zero)))(h2:alg P fs=true)(h3:P.follows .mixedOrders=true)(n:Nat):
  mJ ⟨P,aay l,λf=>oT f fs,n⟩:=by
 refine⟨EF P l h1,?_,h3⟩;intro f hf;have hf:=sI.1 hf;induction fs with
 |nil=>cases hf
 |cons g fs ih=>
  simp[alg,Bool.and_eq_true]at h2;rcases List.mem_cons.1 hf with rfl|hf
  ·grind
  ·exact ih h2.2 (sI.2 hf) hf
end Go.Sx
namespace Go.Sx
open Go.RowKit
structure Mm where
 os:Os
 tape:Tape
 output:Array (Nat×ByteArray)
 heap:Array Obj
def mm (w:World):Mm:=⟨w.os,w.tape,w.output,w.heap⟩
structure FY (F:Nat->Prop) (w w':Mm):Prop where
 os:w'.os=w.os
 tape:w'.tape=w.tape
 output:w'.output=w.output
 size:w.heap.size<=w'.heap.size
 block:∀k,k<w.heap.size->¬F k->w'.heap[k]? =w.heap[k]?
abbrev Fr (F:Nat->Prop)(w w':World):Prop:=FY F (mm w) (mm w')
def No:Nat->Prop:=λ_=>False
def Fr.refl {F:Nat->Prop}{w:World}:Fr F w w:=⟨rfl,rfl,rfl,Nat.le_refl _,λ_ _ _=>rfl⟩
def Fr.size {F:Nat->Prop}{a b:World}(h:Fr F a b):a.heap.size<=b.heap.size:=FY.size h
def Fr.block {F:Nat->Prop}{a b:World}(h:Fr F a b)(k:Nat)(hk:k<a.heap.size)(hf:¬F k):b.heap[k]? =a.heap[k]?:=FY.block h k hk hf
def Fr.trans {F G:Nat->Prop}{a b c:World}(h:Fr F a b)(k:Fr G b c)(hg:∀i,i<a.heap.size->G i->F i):Fr F a c:=
 ⟨(FY.os k).trans (FY.os h),(FY.tape k).trans (FY.tape h),(FY.output k).trans (FY.output h),Nat.le_trans (FY.size h) (FY.size k),λi hi hf=>(k.block i (Nat.lt_of_lt_of_le hi h.size) λhgi=>hf (hg i hi hgi)).trans (h.block i hi hf)⟩
def Fr.alloc {F:Nat->Prop}{a w:World}(h:Fr F a w)(o:Obj):Fr F a (w.alloc o):=
 Fr.trans (G:=No) h ⟨rfl,rfl,rfl,by show w.heap.size<=(w.alloc o).heap.size;simp,λk hk _=>Below.heap_alloc _ _ _ hk⟩ λ_ _ h=>h.elim
def Fr.setCell {F:Nat->Prop}{a w:World}(h:Fr F a w){p:Addr}(hp:p.block<a.heap.size->F p.block)(u:Value):Fr F a (w.setCell p u):=
 Fr.trans h ⟨rfl,rfl,rfl,by show w.heap.size<=(w.setCell p u).heap.size;simp,λk hk hf=>Below.heap_setCell _ _ _ _ hf⟩ λi hi e=>by grind
def am7 {F:Nat->Prop}{w w':World}(h:Fr F w w')(hf:∀k,k<w.heap.size->¬F k):Below w.heap.size w w':=
 ⟨FY.os h,FY.tape h,FY.output h,FY.size h,λk hk=>h.block k hk (hf k hk)⟩
def Fr.cell {F:Nat->Prop}{w w':World}(h:Fr F w w'){p:Addr}{v:Value}(hv:w.cell? p=some v)(hf:¬F p.block):w'.cell? p=some v:=
 (World.cell?_of_block (h.block p.block (World.block_lt_of_cell? w p hv) hf)).trans hv
def apL (h:Array Obj)(b:Nat)(t:TypeId)(cs:List Value):Prop:=h[b]? =some (.cells cs.toArray t (0,0))
abbrev UH (w:World)(b:Nat)(t:TypeId)(cs:List Value):Prop:=apL w.heap b t cs
def apM {w:World}{t:TypeId}{cs:List Value}:UH (w.alloc (.cells cs.toArray t)) w.heap.size t cs:=heap_alloc_new w _
def UH.cell {w:World}{b:Nat}{t:TypeId}{cs:List Value}(h:UH w b t cs)(i:Nat):w.cell? ⟨b,i,none⟩=cs[i]?:=by rw[cell_of_row w b i _ _ _ h];simp
def afB {w:World}{b:Nat}{t:TypeId}{cs:List Value}(h:UH w b t cs)(p:Addr)(hp:p.block=b):w.frozen? p=false:=by subst hp;have h:w.heap[p.block]? =some (.cells cs.toArray t (0,0)):=h;simp[World.frozen?,h]
def UH.set {w:World}{b:Nat}{t:TypeId}{cs:List Value}(h:UH w b t cs)(i:Nat)(v:Value):UH (w.setCell ⟨b,i,none⟩ v) b t (cs.set i v):=by have h:w.heap[b]? =some (.cells cs.toArray t (0,0)):=h;simp[UH,apL,World.setCell,Array.getElem?_modify,h]
structure As where
 fp:Nat->Prop
 ok:Array Obj->Prop
 lt:∀h,ok h->∀b,fp b->b<h.size
 fr:∀h h',ok h->(∀b,fp b->h'[b]? =h[b]?)->ok h'
def av (b:Nat)(t:TypeId)(cs:List Value):As where
 fp:=λk=>k=b
 ok:=λh=>apL h b t cs
 lt:=λh hb k hk=>by subst hk;exact(Array.getElem?_eq_some_iff.1 hb).1
 fr:=λh h' hb he=>(he b rfl).trans hb
structure eo (F:Nat->Prop) (W w:Mm) (L:List As):Prop where
 fr:FY F W w
 ok:∀A∈L,A.ok w.heap/\∀b,A.fp b->F b\/W.heap.size<=b
 apart:L.Pairwise λA B=>∀b,A.fp b->¬B.fp b
abbrev Sep (F:Nat->Prop)(W w:World)(L:List As):Prop:=eo F (mm W) (mm w) L
def bh {F:Nat->Prop}{w:World}:Sep F w w []:=⟨Fr.refl,by simp,.nil⟩
def Rm {L:List As}{i:Nat}{A:As}(h:L[i]? =some A):A∈L:=List.mem_of_getElem? h
section
variable {F:Nat->Prop}{W w w':World}{L:List As}{i:Nat}{A A':As}
def fY (s:Sep F W w L)(h:L[i]? =some A):A.ok w.heap:=(eo.ok s A (Rm h)).1
def KU {R:As->As->Prop}(hs:∀a b,R a b->R b a):∀{L:List As} {i j:Nat} {A B:As},L.Pairwise R->L[i]? =some A->L[j]? =some B->i≠j->R A B
 |[],i,j,A,B,h,hi,hj,hn=>by simp at hi
 |C::L,0,0,A,B,h,hi,hj,hn=>(hn rfl).elim
 |C::L,0,j+1,A,B,h,hi,hj,hn=>by simp[List.getElem?_cons_zero,Option.some.injEq,List.getElem?_cons_succ]at hi hj;subst hi;exact(List.pairwise_cons.1 h).1 B (List.mem_of_getElem? hj)
 |C::L,i+1,0,A,B,h,hi,hj,hn=>by simp[List.getElem?_cons_zero,Option.some.injEq,List.getElem?_cons_succ]at hi hj;subst hj;exact hs _ _ ((List.pairwise_cons.1 h).1 A (List.mem_of_getElem? hi))
 |C::L,i+1,j+1,A,B,h,hi,hj,hn=>by exact KU hs (List.pairwise_cons.1 h).2 hi hj (by omega)
def xG (s:Sep F W w L)(hi:L[i]? =some A)(f:Fr A.fp w w')(ho:A'.ok w'.heap)(hf:∀b,A'.fp b->A.fp b\/w.heap.size<=b):Sep F W w' (L.set i A'):=by
 have hA:=eo.ok s A (Rm hi);have hW:W.heap.size<=w.heap.size:=FY.size (eo.fr s);have hfp:∀b,A'.fp b->F b\/W.heap.size<=b:=λb hb=>by
  rcases hf b hb with h|h
  ·exact hA.2 b h
  grind
 refine⟨Fr.trans (eo.fr s) f λk hk hA'=>?_,λB hB=>?_,?_⟩
 ·rcases hA.2 k hA' with h|h
  ·exact h
  ·have h:W.heap.size<=k:=h;omega
 ·rcases List.getElem?_of_mem hB with⟨j,hj⟩;rw[List.getElem?_set]at hj;split at hj
  ·split at hj
   ·cases hj;exact⟨ho,hfp⟩
   ·cases hj
  ·rename_i hne;have UI:=eo.ok s B (List.mem_of_getElem? hj);have hap:=KU (λa b h x hx hy=>h x hy hx) (eo.apart s) hi hj hne;exact⟨B.fr _ _ UI.1 λb hb=>f.block b (B.lt _ UI.1 b hb) λhab=>hap b hab hb,UI.2⟩
 ·have ag6:∀B∈L,∀b,B.fp b->b<w.heap.size:=λB hB b hb=>B.lt _ (eo.ok s B hB).1 b hb;have key:∀{L:List As} {i:Nat},L.Pairwise (λA B=>∀b,A.fp b->¬B.fp b)->(∀B∈L,∀b,B.fp b->b<w.heap.size)->L[i]? =some A->(L.set i A').Pairwise λA B=>∀b,A.fp b->¬B.fp b:=by
   intro L;induction L with
   |nil=>grind
   |cons B L ih=>
    intro i h hb hi;rw[List.pairwise_cons]at h;cases i with
    |zero=>
     simp[List.getElem?_cons_zero,Option.some.injEq]at hi;subst hi;simp[List.set_cons_zero,List.pairwise_cons];grind
    |succ i=>
     simp[List.set_cons_succ,List.pairwise_cons];grind
  exact key (eo.apart s) ag6 hi
def bV (s:Sep F W w L)(f:Fr No w w'):Sep F W w' L:=by refine⟨Fr.trans (eo.fr s) f λ_ _ h=>h.elim,λB hB=>?_,eo.apart s⟩;have UI:=eo.ok s B hB;exact⟨B.fr _ _ UI.1 λb hb=>f.block b (B.lt _ UI.1 b hb) id,UI.2⟩
def Hz (s:Sep F W w L)(f:Fr No w w')(ho:A.ok w'.heap)(hf:∀b,A.fp b->w.heap.size<=b):Sep F W w' (A::L):=by
 have s':=bV s f;have hW:=FY.size (eo.fr s);refine⟨eo.fr s',λB hB=>?_,?_⟩
 ·rcases List.mem_cons.1 hB with rfl|hB
  ·exact⟨ho,λb hb=>.inr (Nat.le_trans hW (hf b hb))⟩
  ·exact eo.ok s' B hB
 ·rw[List.pairwise_cons];refine⟨λB hB b hb1 hb2=>?_,eo.apart s⟩;have:=B.lt _ (eo.ok s B hB).1 b hb2;have:=hf b hb1;simp[mm]at*;omega
def aju (s:Sep F W w L)(Ls:List As)(L1 L2:List As)(hL:L=L1++A::L2)(ho:A.ok w.heap->(∀B∈Ls,B.ok w.heap)/\(∀B∈Ls,∀b,B.fp b->A.fp b)/\Ls.Pairwise λA B=>∀b,A.fp b->¬B.fp b):Sep F W w (L1++Ls++L2):=by
 subst hL;have hA:=eo.ok s A (by simp);obtain⟨h1,h2,h3⟩:=ho hA.1;have hap:=eo.apart s;refine⟨eo.fr s,λB hB=>?_,?_⟩
 ·rcases List.mem_append.1 hB with hB|hB
  ·rcases List.mem_append.1 hB with hB|hB
   ·exact eo.ok s B (by simp[hB])
   ·exact⟨h1 B hB,λb hb=>hA.2 b (h2 B hB b hb)⟩
  ·exact eo.ok s B (by simp[hB])
 grind
def ai (s:Sep F W w (A::L)):Sep F W w L:=⟨eo.fr s,λB hB=>eo.ok s B (by simp[hB]),(List.pairwise_cons.1 (eo.apart s)).2⟩
end
section
variable {F:Nat->Prop}{W w:World}{L:List As}{a:Addr}{b i j:Nat}{t:TypeId}{cs:List Value}
def cK {v:Value}(s:Sep F W w L)(ha:a=⟨b,j,none⟩)(hi:L[i]? =some (av b t cs))(hj:cs[j]? =some v):w.cell? a=some v:=by rw[ha,UH.cell (fY s hi)];exact hj
def dw {k:IntKind}{n:Int}{K:Int->Prop}(s:Sep F W w L)(ha:a=⟨b,j,none⟩)(hi:L[i]? =some (av b t cs))(hj:cs[j]? =some (.int k n))(h:K n):af k a w K:=⟨n,cK s ha hi hj,h⟩
def axF {n:Bool}{K:Bool->Prop}(s:Sep F W w L)(ha:a=⟨b,j,none⟩)(hi:L[i]? =some (av b t cs))(hj:cs[j]? =some (.bool n))(h:K n):cA a w K:=⟨n,cK s ha hi hj,h⟩
def axG {n:Option Addr}{K:Option Addr->Prop}(s:Sep F W w L)(ha:a=⟨b,j,none⟩)(hi:L[i]? =some (av b t cs))(hj:cs[j]? =some (.pointer n))(h:K n):bg a w K:=⟨n,cK s ha hi hj,h⟩
def axH {n:Option Nat}{K:Option Nat->Prop}(s:Sep F W w L)(ha:a=⟨b,j,none⟩)(hi:L[i]? =some (av b t cs))(hj:cs[j]? =some (.map n))(h:K n):cq a w K:=⟨n,cK s ha hi hj,h⟩
def gX {x:Option Addr}{n c:Nat}{K:Option Addr->Nat->Nat->Prop}(s:Sep F W w L)(ha:a=⟨b,j,none⟩)(hi:L[i]? =some (av b t cs))(hj:cs[j]? =some (.slice x n c))(h:K x n c):aA a w K:=⟨x,n,c,cK s ha hi hj,h⟩
def Sep.set (s:Sep F W w L)(hi:L[i]? =some (av b t cs))(v:Value):Sep F W (w.setCell ⟨b,j,none⟩ v) (L.set i (av b t (cs.set j v))):=
 xG s hi (Fr.setCell (p:=⟨b,j,none⟩) (F:=(av b t cs).fp) Fr.refl (λ_=>rfl) v) (UH.set (fY s hi) j v) λb h=>.inl h
def ax {v:Value}{K:World->Prop}(s:Sep F W w L)(ha:a=⟨b,j,none⟩)(hi:L[i]? =some (av b t cs))(hj':Nat.blt j cs.length=true)(h:∀w',Sep F W w' (L.set i (av b t (cs.set j v)))->K w'):St a v w K:=by
 subst ha;have hj:j<cs.length:=by simp_all
 have hb:=fY s hi;exact⟨⟨cs[j],by rw[UH.cell hb];simp[hj]⟩,afB hb _ rfl,h _ (Sep.set s hi v)⟩
def tK (s:Sep F W w L)(cs:List Value)(t:TypeId):Sep F W (w.alloc (.cells cs.toArray t)) (av w.heap.size t cs::L):=
 Hz s (Fr.alloc Fr.refl _) apM λb hb=>Nat.le_of_eq hb.symm
def aN {K:Addr->World->Prop}(s:Sep F W w L)(h:∀b w',Sep F W w' (av b t cs::L)->K ⟨b,0,none⟩ w'):Bx cs t w K:=h _ _ (tK s cs t)
def aS {T:uJ}{K:Addr->World->Prop}(s:Sep F W w L)(h:∀b w',Sep F W w' (av b t (zc T t)::L)->K ⟨b,0,none⟩ w'):Al T t w K:=h _ _ (tK s (zc T t) t)
end
def cm (b o i:Nat):(⟨b,o,none⟩:Addr).add i=⟨b,o+i,none⟩:=by unfold Addr.add;grind
def aeI (a:Addr)(i:Nat):(a.add i).block=a.block:=by unfold Addr.add;split<;>rfl
def add_add (a:Addr)(i j:Nat):(a.add i).add j=a.add (i+j):=by unfold Addr.add;grind
def add_zero (a:Addr):a.add 0=a:=by simp[Addr.add]
end Go.Sx
namespace Go.Sx
open Go.RowKit Go.ChangeShapes Go.WideShapes
inductive Sh where
 |int (k:IntKind)|bool
 |agg (n:Nat) (fs:List (Nat×Nat×Sh))
 |sl (n:Nat) (e:Sh)
mutual
def Rd (w:World):Sh->List Value->Prop
 |.int k,cs=>∃n,cs=[.int k n]/\(Lit.int k n).wf=true
 |.bool,cs=>∃b,cs=[.bool b]
 |.agg n fs,cs=>cs.length=n/\RdF w fs cs
 |.sl n e,cs=>cs=[.slice none 0 0]\/∃a len cap,cs=[.slice (some a) len cap]/\len<=cap/\cap<=maxLen/\(0<cap*n->a.block<w.heap.size)/\
  ∀i,i<cap->∃es:List Value,es.length=n/\(∀j v,es[j]? =some v->w.cell? (a.add (i*n+j))=some v)/\Rd w e es
def RdF (w:World):List (Nat×Nat×Sh)->List Value->Prop
 |[],_=>True
 |f::fs,cs=>Rd w f.2.2 ((cs.drop f.1).take f.2.1)/\RdF w fs cs
end
def KV (P:Program):Nat->TypeId->Option Sh
 |0,_=>none
 |f+1,t=>match P.underlying t with
  |some (.int k)=>some (.int k)
  |some .bool=>some .bool
  |some (.slice e)=>(KV P f e).map (.sl (P.cellsOf e))
  |some (.struct fs)=>(fs.toList.mapM λx=>(KV P f x.type).map λs=>(x.offset,P.cellsOf x.type,s)).map (.agg (P.cellsOf t))
  |some (.array n e)=>(KV P f e).map λs=>.agg (P.cellsOf t) ((List.range n).map λi=>(i*P.cellsOf e,P.cellsOf e,s))
  |_=>none
def ag8 {w:World}:∀{fs:List (Nat×Nat×Sh)} {cs:List Value},(∀f∈fs,Rd w f.2.2 ((cs.drop f.1).take f.2.1))->RdF w fs cs
 |[],_,_=>by simp[RdF]
 |f::fs,cs,h=>by exact⟨h f (by simp),ag8 λg hg=>h g (by simp[hg])⟩
def cells?_some {w:World}{a:Addr}{n:Nat}{es:List Value}(h:w.cells? 0 a n=some es):es.length=n/\∀j v,es[j]? =some v->w.cell? (a.add j)=some v:=by
 unfold World.cells? at h;have hl:=mapM_some_length h;simp[List.length_range]at hl;refine⟨hl,λj v hv=>?_⟩;have hj:j<n:=by grind
 have:=mapM_some_get h j j (by simp[hj]);rw[this,hv]
def agA {H:Type}{enc:TypeId×Value->H}{P:Program}{w:World}{held:Bool}:∀{fuel:Nat} {t:TypeId} {sh:Sh} {cs:List Value} {m:Nat} {x:DataW H×List MemPlace},
  KV P fuel t=some sh->DataW.trod enc P w 0 (λ_=>true) held m t cs=some x->Rd w sh cs
 |0,_,_,_,_,_,h,_=>by simp[KV]at h
 |fuel+1,t,sh,cs,m,x,h,hd=>by
  unfold KV at h;split at h
  ·rename_i k hu;cases h;obtain⟨n,h1,_,h3⟩:=DataW.trod_int hu hd;unfold Rd;grind
  ·cases h;unfold Rd;cases m with
   |zero=>simp[DataW.trod]at hd
   |succ m=>
    unfold DataW.trod at hd;grind
  ·rename_i e hu;obtain⟨s,hs,rfl⟩:=Option.map_eq_some_iff.1 h;rcases DataW.trod_slice hu hd with⟨h1,_⟩|⟨a,len,cap,elems,rest,n,_,rfl,_,_,h2,h3,h4,h5,h6,_⟩
   ·exact .inl h1
   ·have hel:∀i,i<cap->∃es:List Value,es.length=P.cellsOf e/\(∀j v,es[j]? =some v->w.cell? (a.add (i*P.cellsOf e+j))=some v)/\Rd w s es:=by
     intro i hi;have key:∃y,(w.cells? 0 (a.add (i*P.cellsOf e)) (P.cellsOf e)).bind (DataW.trod enc P w 0 (λ_=>true) held n e)=some y:=by
      rcases Nat.lt_or_ge i len with hl|hl
      ·grind
      ·obtain⟨h61,h62⟩:=h6 rfl;have:=h62 (i-len) (by omega);grind
     obtain⟨y,hy⟩:=key;obtain⟨es,he,hy⟩:=Option.bind_eq_some_iff.1 hy;obtain⟨hl,hc⟩:=cells?_some he;exact⟨es,hl,λj v hv=>by rw[<-add_add];grind,agA hs hy⟩
    refine .inr ⟨a,len,cap,rfl,h2,h3,λhpos=>?_,hel⟩;have hc0:=Nat.pos_of_mul_pos_right hpos;have O0:=Nat.pos_of_mul_pos_left hpos;obtain⟨es,hl,hc,_⟩:=hel 0 hc0;have:=hc 0 (es[0]'(by omega)) (by simp);have:=World.block_lt_of_cell? w _ this;rwa[aeI]at this
  ·rename_i fs hu;obtain⟨ss,hs,rfl⟩:=Option.map_eq_some_iff.1 h;obtain⟨xs,n,_,_,h1,h2,h3⟩:=DataW.trod_struct hu hd;refine⟨h1,ag8 λf hf=>?_⟩;obtain⟨i,hi,rfl⟩:=List.getElem_of_mem hf;have IK:i<fs.size:=by have:=mapM_some_length hs;grind
   have h4:=mapM_some_get hs i fs[i] (by simp[IK]);have h5:=h3 i fs[i] (by simp[IK]);rw[List.getElem?_eq_getElem hi]at h4;obtain⟨s,hs1,hs2⟩:=Option.map_eq_some_iff.1 h4;rw[<-hs2];rw[List.getElem?_eq_getElem (by omega)]at h5;exact agA hs1 h5
  ·rename_i n e hu;obtain⟨s,hs,rfl⟩:=Option.map_eq_some_iff.1 h;obtain⟨xs,q,_,_,h1,h2,h3⟩:=DataW.trod_array hu hd;refine⟨h1,ag8 λf hf=>?_⟩;obtain⟨i,hi,rfl⟩:=List.mem_map.1 hf;have h4:=h3 i (by grind);rw[List.getElem?_eq_getElem (by grind)]at h4;exact agA hs h4
  ·cases h
def RdV (w:World)(sh:Sh)(v:Value):Prop:=match sh with
 |.agg _ _=>∃cs:List Value,v=.agg cs.toArray/\Rd w sh cs
 |_=>Rd w sh [v]
def Bb (w:World):List Sh->List Value->Prop
 |[],[]=>True
 |s::ss,v::vs=>RdV w s v/\Bb w ss vs
 |_,_=>False
def atO {H:Type}{enc:TypeId×Value->H}{P:Program}{w:World}{held:Bool}{fuel:Nat}{t:TypeId}{sh:Sh}{v:Value}{d:DataW H}{ps:List MemPlace}{b0:Nat}
  (h:KV P fuel t=some sh)(hval:Value.okWide P w .any b0 t v)(hd:DataW.Trod enc P w 0 (λ_=>true) held t v d ps):RdV w sh v:=by
 obtain⟨m,hd⟩:=hd;have hr:=agA h hd;cases fuel with
 |zero=>simp[KV]at h
 |succ fuel=>
  unfold KV at h;split at h
  ·rename_i k hu;cases h;obtain⟨n,rfl⟩:=okWide_int hu hval;exact hr
  ·rename_i hu;cases h;obtain⟨n,rfl⟩:=okWide_bool hu hval;exact hr
  ·rename_i e hu;obtain⟨s,hs,rfl⟩:=Option.map_eq_some_iff.1 h;obtain⟨a,len,cap,rfl⟩:=okWide_slice hu hval;exact hr
  ·rename_i fs hu;obtain⟨s,hs,rfl⟩:=Option.map_eq_some_iff.1 h;simp[Value.okWide,hu]at hval;obtain⟨cs,rfl,_⟩:=hval;exact⟨cs.toList,by simp,hr⟩
  ·rename_i n e hu;obtain⟨s,hs,rfl⟩:=Option.map_eq_some_iff.1 h;simp[Value.okWide,hu]at hval;obtain⟨cs,rfl,_⟩:=hval;exact⟨cs.toList,by simp,hr⟩
  ·cases h
def ag9 {H:Type}{enc:TypeId×Value->H}{P:Program}{w:World}{held:Bool}{fuel b0:Nat}:∀{ts:List TypeId} {UJ:List Sh} {vs:List Value} {ds:List (DataW H)} {ps:List MemPlace},
  ts.map (KV P fuel)=UJ.map some->(∀(j:Nat) t v,ts[j]? =some t->vs[j]? =some v->Value.okWide P w .any b0 t v)->DataW.TrodAll enc P w 0 (λ_=>true) held ts vs ds ps->Bb w UJ vs
 |[],UJ,vs,ds,ps,h,hv,hd=>by
  obtain⟨rfl,_,_⟩:=trodAll_nil hd;cases UJ with
  |nil=>simp[Bb]
  |cons=>simp at h
 |t::ts,UJ,vs,ds,ps,h,hv,hd=>by
  obtain⟨v,vs',d,ds',p,q,rfl,_,_,h1,h2⟩:=trodAll_cons hd;cases UJ with
  |nil=>simp at h
  |cons s ss=>
   simp[List.map_cons,List.cons.injEq]at h;exact⟨atO h.1 (hv 0 t v rfl rfl) h1,ag9 h.2 (λj t' v' ht hv'=>hv (j+1) t' v' (by grind) (by grind)) h2⟩
def S8 {H:Type}{enc:TypeId×Value->H}{P:Program}(hl:laidOutB P=true){W W':World}(hb:Below W.heap.size W W'):∀{ts:List TypeId} {vs:List Value} {ds:List (DataW H)} {ps:List MemPlace},
  (ts.all λt=>P.readableRec t&&decide (t<P.types.size))=true->DataW.TrodAll enc P W 0 (λ_=>true) true ts vs ds ps->(∀x∈ps,x.block<W.heap.size)->
  DataW.TrodAll enc P W' 0 (λb=>decide (b<W.heap.size)) true ts vs ds ps
 |[],vs,ds,ps,hr,hd,hlt=>by obtain⟨rfl,rfl,rfl⟩:=trodAll_nil hd;exact trodAll_mk0
 |t::ts,vs,ds,ps,hr,hd,hlt=>by obtain⟨v,vs',d,ds',p,q,rfl,rfl,rfl,h1,h2⟩:=trodAll_cons hd;simp only[List.all_cons,Bool.and_eq_true,decide_eq_true_eq]at hr;exact trodAll_cons_mk (Below.trod hl hr.1.1 hr.1.2 h1 hb λx hx=>hlt x (by simp[hx])) (S8 hl hb hr.2 h2 λx hx=>hlt x (by simp[hx]))
def O1 {H:Type}{enc:TypeId×Value->H}{P:Program}{W:World}{base:Nat}{sp:Nat->Bool}{held:Bool}:∀{ts:List TypeId} {vs:List Value} {ds:List (DataW H)} {ps:List MemPlace},
  DataW.TrodAll enc P W base sp held ts vs ds ps->ds.length=ts.length
 |[],vs,ds,ps,hd=>by obtain⟨_,rfl,_⟩:=trodAll_nil hd;rfl
 |t::ts,vs,ds,ps,hd=>by obtain⟨v,vs',d,ds',p,q,_,rfl,_,_,h2⟩:=trodAll_cons hd;simp[O1 h2]
def Bb.nil {w:World}{vs:List Value}(h:Bb w [] vs):vs=[]:=by
 cases vs with
 |nil=>rfl
 |cons=>exact h.elim
def Bb.cons {w:World}{s:Sh}{ss:List Sh}{vs:List Value}(h:Bb w (s::ss) vs):∃v vs',vs=v::vs'/\RdV w s v/\Bb w ss vs':=by
 cases vs with
 |nil=>exact h.elim
 |cons v vs=>exact⟨v,vs,rfl,h⟩
def UK {w:World}{k:IntKind}{v:Value}(h:Rd w (.int k) [v]):∃n,v=.int k n/\(Lit.int k n).wf=true:=by unfold Rd at h;grind
def atP {w:World}{n:Nat}{fs:List (Nat×Nat×Sh)}{cs:List Value}(h:Rd w (.agg n fs) cs):cs.length=n/\RdF w fs cs:=by exact h
def YQ {w:World}{f:Nat×Nat×Sh}{fs:List (Nat×Nat×Sh)}{cs:List Value}(h:RdF w (f::fs) cs):Rd w f.2.2 ((cs.drop f.1).take f.2.1)/\RdF w fs cs:=by exact h
def avM {w:World}{n:Nat}{e:Sh}{v:Value}(h:Rd w (.sl n e) [v]):v=.slice none 0 0\/∃a len cap,v=.slice (some a) len cap/\len<=cap/\cap<=maxLen/\(0<cap*n->a.block<w.heap.size)/\
  ∀i,i<cap->∃es:List Value,es.length=n/\(∀j v,es[j]? =some v->w.cell? (a.add (i*n+j))=some v)/\Rd w e es:=by
 unfold Rd at h;grind
def akd {w:World}{k:IntKind}{v:Value}(h:RdV w (.int k) v):∃n,v=.int k n/\(Lit.int k n).wf=true:=UK (w:=w) h
def atQ {w:World}{n:Nat}{e:Sh}{v:Value}(h:RdV w (.sl n e) v):v=.slice none 0 0\/∃a len cap,v=.slice (some a) len cap/\len<=cap/\cap<=maxLen/\(0<cap*n->a.block<w.heap.size)/\
 ∀i,i<cap->∃es:List Value,es.length=n/\(∀j v,es[j]? =some v->w.cell? (a.add (i*n+j))=some v)/\Rd w e es:=avM h
end Go.Sx
namespace Go.Sx
def ag_ (d:Option TypeDesc)(a b:Option Value):Option Bool:=match d with
 |some (.int _)=>match a with
  |some (.int k x)=>match b with
   |some (.int l y)=>cond (Nat.beq (IE k) (IE l)) (some (x==y)) none
   |_=>none
  |_=>none
 |some .bool=>match a with
  |some (.bool x)=>match b with
   |some (.bool y)=>some (x==y)
   |_=>none
  |_=>none
 |_=>none
def aha (P:Program)(xs ys:Array Value):List Field->Option Bool
 |[]=>some true
 |f::fs=>match f.name== "_" with
  |true=>none
  |false=>match ag_ (P.underlying f.type) xs[f.offset]? ys[f.offset]? with
   |some r=>match aha P xs ys fs with
    |some s=>some (r&&s)
    |none=>none
   |none=>none
def alh {P:Program}{t:TypeId}{d:Nat}{xs ys:Array Value}{i:Nat}{r:Bool}{w:World}(h:ag_ (P.underlying t) xs[i]? ys[i]? =some r):
  ∃a b,(part t xs i).run P w=.ok a w/\(part t ys i).run P w=.ok b w/\(Op.equalIn (d+1) t a b).run P w=.ok r w:=by
 unfold ag_ at h;split at h
 ·rename_i k hu;split at h
  ·rename_i kx x hx;split at h
   ·rename_i ky y hy;cases hk:Nat.beq (IE kx) (IE ky)with
    |false=>grind
    |true=>
     rw[hk]at h;cases h;obtain rfl:kx=ky:=by revert hk;cases kx<;>cases ky<;>simp[IE]
     exact⟨_,_,run_part_plain w (by simp[Program.plainKey,hu]) hx,run_part_plain w (by simp[Program.plainKey,hu]) hy,run_equalIn_int w d t _ _ x y hu⟩
   ·cases h
  ·cases h
 ·rename_i hu;split at h
  ·rename_i x hx;split at h
   ·rename_i y hy;cases h;exact⟨_,_,run_part_plain w (by simp[Program.plainKey,hu]) hx,run_part_plain w (by simp[Program.plainKey,hu]) hy,run_equalIn_bool w d t x y hu⟩
   ·cases h
  ·cases h
 ·cases h
def ahb {P:Program}{d:Nat}{xs ys:Array Value}{w:World}:∀{fs:List Field} {r:Bool},aha P xs ys fs=some r->(Op.eqFields (d+1) xs ys fs).run P w=.ok r w
 |[],r,h=>by cases h;simp[Op.eqFields]
 |f::fs,r,h=>by
  unfold aha at h;split at h
  ·cases h
  ·split at h
   ·rename_i r1 h1;split at h
    ·rename_i s h2;cases h;obtain⟨a,b,ha,hb,he⟩:=alh (d:=d) (w:=w) h1;have hn':f.name≠ "_":=by grind
     rw[Op.eqFields];simp[if_pos hn',Sem.run_bind,ha,hb,he,Result.andThen_ok];cases r1
     ·simp
     ·simpa using ahb h2
    ·cases h
   ·cases h
def atS {P:Program}{t:TypeId}{fs:Array Field}{xs ys:Array Value}{x y:Operand}{r:Bool}{w:World}{K:Bool->World->Prop}(hu:P.underlying t=some (.struct fs))(hp:P.stoodInHeld t=false)(hg:P.eqGuardType P.depth t=false)
  (hr:aha P xs ys fs.toList=some r)(h:K r w):bT P .eql t x y (.agg xs) (.agg ys) w K:=by
 have hf:P.fieldsOf t=fs:=by simp[Program.fieldsOf,hu]
 have h1:(Op.equalIn 10000 t (.agg xs) (.agg ys)).run P w=.ok r w:=by rw[run_equalIn_struct w 9999 t xs ys (by grind) hp,hf];exact ahb hr
 unfold bT aL;simp[Sem.run_bind,run_eqGuard_agg w .eql t x y xs ys hg,Result.andThen_ok,run_eql_struct,h1];exact h
def HA {k:IntKind}{n:Int}(h:(Lit.int k n).wf=true):k.wrap n=n:=by cases k<;>simp[Lit.wf,IntKind.wrap,IntKind.min,IntKind.max,IntKind.signed,IntKind.bits]at h⊢<;>(try split)<;>omega
def wrap_u64 {n:Int}(h1:0<=n)(h2:n<18446744073709551616):IntKind.wrap .u64 n=n:=by simp[IntKind.wrap,IntKind.signed,IntKind.bits];omega
def wrap_i64 {n:Int}(h1:-9223372036854775808<=n)(h2:n<9223372036854775808):IntKind.wrap .i64 n=n:=by simp[IntKind.wrap,IntKind.signed,IntKind.bits];omega
def wrap_u8 {n:Int}(h1:0<=n)(h2:n<256):IntKind.wrap .u8 n=n:=by simp[IntKind.wrap,IntKind.signed,IntKind.bits];omega
def wf_u8 {n:Int}(h:(Lit.int .u8 n).wf=true):0<=n/\n<256:=by simp[Lit.wf,IntKind.min,IntKind.max,IntKind.signed,IntKind.bits]at h;omega
def ak (a:Option Addr)(n c:Nat)(e:TypeId)(size:Nat)(xs:List Value):As where
 fp:=λk=>∃x,a=some x/\x.block=k
 ok:=λh=>(xs.length=n*size/\n<=c/\c<=maxLen/\∀u∈xs,u.oneCell'=true)/\((a=none/\c=0)\/
  ∃g o cur,a=some ⟨g,o,none⟩/\h[g]? =some (.cells cur e (0,0))/\o+c*size<=cur.size/\(cur.toList.drop o).take (n*size)=xs)
 lt:=λh hb k hk=>by grind
 fr:=λh h' hb he=>by grind
def Src (w:World)(b:Option Addr)(m size:Nat)(news:List Value):Prop:=
 news.length=m*size/\(∀u∈news,u.oneCell'=true)/\match b with|none=>m=0|some ad=>∀j u,news[j]? =some u->w.cell? (ad.add j)=some u
section
variable {F:Nat->Prop}{W w w':World}{L:List As}{i j n c size:Nat}{a:Option Addr}{e:TypeId}{xs:List Value}
def pV (s:Sep F W w L)(hi:L[i]? =some (ak a n c e size xs))(hn:0<n):∃g o,a=some ⟨g,o,none⟩:=by obtain⟨h0,h⟩:=fY s hi;grind
def rf (s:Sep F W w L)(hi:L[i]? =some (ak a n c e size xs)):xs.length=n*size:=(fY s hi).1.1
def Rn (s:Sep F W w L)(hi:L[i]? =some (ak a n c e size xs)):n<=c/\c<=maxLen:=⟨(fY s hi).1.2.1,(fY s hi).1.2.2.1⟩
def UL {h:World}{g o:Nat}{v:Value}(hh:(ak (some ⟨g,o,none⟩) n c e size xs).ok h.heap)(hj:xs[j]? =some v):h.cell? ⟨g,o+j,none⟩=some v:=by
 rcases hh.2 with⟨h,_⟩|⟨g',o',cur,h1,h2,h3,h4⟩
 ·cases h
 ·cases h1;rw[cell_of_row h g (o+j) cur e (0,0) h2];grind
def wI {g o:Nat}{v:Value}{ad:Addr}(s:Sep F W w L)(hi:L[i]? =some (ak (some ⟨g,o,none⟩) n c e size xs))(ha:ad=⟨g,o+j,none⟩)(hj:xs[j]? =some v):w.cell? ad=some v:=by rw[ha];exact UL (fY s hi) hj
def apN (s:Sep F W w L)(hi:L[i]? =some (ak a n c e size xs)):Src w a n size xs:=by
 have h:=fY s hi;refine⟨h.1.1,h.1.2.2.2,?_⟩;cases a with
 |none=>
  rcases h.2 with⟨_,h2⟩|⟨_,_,_,h2,_⟩
  ·have:=h.1.2.1;omega
  ·cases h2
 |some ad=>
  intro j u hj;rcases h.2 with⟨h2,_⟩|⟨g,o,cur,h2,_⟩
  ·cases h2
  ·cases h2;rw[cm];exact UL h hj
def UM {g o:Nat}{k:IntKind}{m:Int}{ad:Addr}{K:Int->Prop}(s:Sep F W w L)(hi:L[i]? =some (ak (some ⟨g,o,none⟩) n c e size xs))(ha:ad=⟨g,o+j,none⟩)(hj:xs[j]? =some (.int k m))(h:K m):Sx.af k ad w K:=
 ⟨m,wI s hi ha hj,h⟩
def ahc {g o:Nat}{x:Option Addr}{m q:Nat}{ad:Addr}{K:Option Addr->Nat->Nat->Prop}(s:Sep F W w L)(hi:L[i]? =some (ak (some ⟨g,o,none⟩) n c e size xs))(ha:ad=⟨g,o+j,none⟩)(hj:xs[j]? =some (.slice x m q))(h:K x m q):Sx.aA ad w K:=
 ⟨x,m,q,wI s hi ha hj,h⟩
def ahd {g o:Nat}{m:Bool}{ad:Addr}{K:Bool->Prop}(s:Sep F W w L)(hi:L[i]? =some (ak (some ⟨g,o,none⟩) n c e size xs))(ha:ad=⟨g,o+j,none⟩)(hj:xs[j]? =some (.bool m))(h:K m):Sx.cA ad w K:=
 ⟨m,wI s hi ha hj,h⟩
def asA (l:List Value)(o j k:Nat)(v:Value):((l.set (o+j) v).drop o).take k=((l.drop o).take k).set j v:=by congr 1;apply List.ext_getElem?;grind
def ajv {g o:Nat}{v:Value}{ad:Addr}{K:World->Prop}(s:Sep F W w L)(hi:L[i]? =some (ak (some ⟨g,o,none⟩) n c e size xs))(ha:ad=⟨g,o+j,none⟩)(hj:j<n*size)(hv:v.oneCell'=true)
  (h:∀w',Sep F W w' (L.set i (ak (some ⟨g,o,none⟩) n c e size (xs.set j v)))->K w'):Sx.St ad v w K:=by
 subst ha;obtain⟨h0,hh⟩:=fY s hi;rcases hh with⟨hh,_⟩|⟨g',o',cur,hh,h2,h5,h6⟩
 ·cases hh
 ·cases hh;have hnc:n*size<=c*size:=Nat.mul_le_mul_right _ h0.2.1;have hjc:o+j<cur.size:=by omega
  have hw:=h2;refine⟨⟨cur[o+j],?_⟩,?_,h _ (xG s hi (Fr.setCell Fr.refl (λ_=>⟨_,rfl,rfl⟩) v) ?_ λb h=>.inl h)⟩
  ·rw[cell_of_row w g (o+j) cur e (0,0) hw];simp[hjc]
  ·simp[World.frozen?,hw]
  ·refine⟨⟨by simp[h0.1],h0.2.1,h0.2.2.1,λu hu=>?_⟩,.inr ⟨g,o,cur.setIfInBounds (o+j) v,rfl,?_,by grind,?_⟩⟩
   ·grind
   ·simp[World.setCell,Array.getElem?_modify,hw]
   ·rw[Array.toList_setIfInBounds,asA,h6]
def bD (s:Sep F W w L)(e:TypeId)(size:Nat):Sep F W w (ak none 0 0 e size []::L):=
 Hz s Fr.refl ⟨⟨by simp,Nat.le_refl _,by decide,by simp⟩,.inl ⟨rfl,rfl⟩⟩ λb hb=>by obtain⟨x,hx,_⟩:=hb;cases hx
def asB {w:World}{b:Nat}{cs:List Value}(h:(av b e cs).ok w.heap)(hl:cs.length=n*size)(hm:n<=maxLen)(h1:∀u∈cs,u.oneCell'=true):(ak (some ⟨b,0,none⟩) n n e size cs).ok w.heap:=by have h:=h;refine⟨⟨hl,Nat.le_refl _,hm,h1⟩,.inr ⟨b,0,_,rfl,h,by simp[hl],?_⟩⟩;grind
def g9 {b:Nat}{cs:List Value}(s:Sep F W w L)(hi:L[i]? =some (av b e cs))(hl:cs.length=n*size)(hm:n<=maxLen)(h1:∀u∈cs,u.oneCell'=true):Sep F W w (L.set i (ak (some ⟨b,0,none⟩) n n e size cs)):=
 xG s hi Fr.refl (Sx.asB (fY s hi) hl hm h1) λk hk=>by obtain⟨x,hx,rfl⟩:=hk;cases hx;exact .inl rfl
def S9 {m:Nat}(s:Sep F W w L)(hi:L[i]? =some (ak a n c e size xs))(hm:m<=n):Sep F W w (L.set i (ak a m c e size (xs.take (m*size)))):=by
 refine xG s hi Fr.refl ?_ λb h=>.inl h;obtain⟨h0,hh⟩:=fY s hi;refine⟨⟨by simp_all,by omega,h0.2.2.1,λu hu=>h0.2.2.2 u (List.mem_of_mem_take hu)⟩,?_⟩;rcases hh with h1|⟨g,o,cur,h1,h2,h5,h6⟩
 ·exact .inl h1
 ·exact .inr ⟨g,o,cur,h1,h2,h5,by rw[<-h6,List.take_take,Nat.min_eq_left (Nat.mul_le_mul_right _ hm)]⟩
def afD {m:Nat}(s:Sep F W w L)(hi:L[i]? =some (ak a n c e size xs))(hm:m<=n):Sep F W w (L.set i (ak (if c=m then a else a.map (·.add (m*size))) (n-m) (c-m) e size (xs.drop (m*size)))):=by
 refine xG s hi Fr.refl ?_ λb h=>?_
 ·obtain⟨h0,hh⟩:=fY s hi;refine⟨⟨by rw[List.length_drop,h0.1,Nat.sub_mul],by omega,by omega,λu hu=>h0.2.2.2 u (List.mem_of_mem_drop hu)⟩,?_⟩;rcases hh with⟨h1,h2⟩|⟨g,o,cur,h1,h2,h5,h6⟩
  ·grind
  ·subst h1;right;split
   ·rename_i hc;subst hc;have hn:n=c:=by omega
    subst hn;grind
   ·refine⟨g,o+m*size,cur,by simp[cm],h2,?_,?_⟩
    ·have:m*size+(c-m)*size=c*size:=by rw[<-Nat.add_mul];grind
     omega
    ·rw[<-h6,List.drop_take,List.drop_drop,Nat.sub_mul]
 ·left;obtain⟨x,hx,rfl⟩:=h;split at hx
  ·exact⟨x,hx,rfl⟩
  ·obtain⟨y,hy,rfl⟩:=Option.map_eq_some_iff.1 hx;exact⟨y,hy,(aeI _ _).symm⟩
def ali {P:Program}{t ty:TypeId}{inf:TypeInfo}{z:Value}{b:Option Addr}{m cc:Nat}{news:List Value}(ht:P.underlying t=some (.slice e))(hi:P.info? e=some inf)(hz:inf.zero=some z)(hzs:z.cells.size=inf.size)(hsz:0<inf.size)
  (hr:(ak a n c e inf.size xs).ok w.heap)(hs:Src w b m inf.size news)(h63:n+m<=maxLen)(hbytes:(n+m)*inf.bytes<=140737488355328)(hcc:b=none->cc=0):
  ∃a' c' w',(Builtin.append_ #[t,t] ty #[.slice a n c,.slice b m cc]).run P w=.ok (.slice a' (n+m) c') w'/\(ak a' (n+m) c' e inf.size (xs++news)).ok w'.heap/\Fr (ak a n c e inf.size xs).fp w w'/\
   ∀x,a'=some x->(∃y,a=some y/\y.block=x.block)\/w.heap.size<=x.block:=by
 obtain⟨⟨r1,r2,r3,r4⟩,r5⟩:=hr;obtain⟨s1,s2,s3⟩:=hs;have ay4:n+m<=9223372036854775807:=by simp[maxLen]at h63;omega
 have hlen:(xs++news).length=(n+m)*inf.size:=by grind
 have hone:∀u∈xs++news,u.oneCell'=true:=λu hu=>by grind
 cases b with
 |none=>
  have hm:=s3;subst hm;have axJ:=hcc rfl;subst axJ;have hn:news=[]:=List.eq_nil_of_length_eq_zero (by grind);subst hn;refine⟨a,c,w,?_,?_,Fr.refl,λx hx=>.inl ⟨x,hx,rfl⟩⟩
  ·cases a with
   |none=>
    rcases r5 with⟨_,h⟩|⟨_,_,_,h,_⟩
    ·subst h;obtain rfl:n=0:=by omega
     simp[Builtin.append_,run_underlying ht,sizeOf,typeInfo,hi,Builtin.lenOf,Builtin.firstCells]
    ·cases h
   |some ad=>simp[Builtin.append_,run_underlying ht,sizeOf,typeInfo,hi,Builtin.lenOf,Builtin.firstCells,r2,storeCells]
  ·simp[Nat.add_zero,List.append_nil];exact⟨⟨r1,r2,r3,r4⟩,r5⟩
 |some ad=>
  have grown:∀old,(ak (some ⟨w.heap.size,0,none⟩) (n+m) (grownCap w (n+m) old e) e inf.size (xs++news)).ok (w.drew.alloc (.cells (xs.toArray++news.toArray++Builtin.zeroCells z.cells (grownCap w (n+m) old e-(n+m))) e)).heap:=by
   intro old;have hge:=grownCap_ge w (n+m) old e;refine⟨⟨hlen,hge,grownCap_le_maxLen w (n+m) old e h63,hone⟩,.inr ⟨w.heap.size,0,_,rfl,heap_alloc_new w.drew _,?_,?_⟩⟩
   ·have hsum:(n+m)*inf.size+(grownCap w (n+m) old e-(n+m))*inf.size=grownCap w (n+m) old e*inf.size:=by rw[<-Nat.add_mul];congr 1;omega
    simp[Array.size_append,List.size_toArray,size_zeroCells,hzs,r1,s1];rw[<-hsum,Nat.add_mul];omega
   ·simp only[Array.toList_append];rw[<-hlen];exact List.take_left
  have hfr:∀o:Obj,Fr (ak a n c e inf.size xs).fp w (w.drew.alloc o):=λo=>Fr.alloc Fr.refl o;rcases r5 with⟨rfl,rfl⟩|⟨g,o,cur,rfl,hg,UN,ahe⟩
  ·obtain rfl:n=0:=by omega
   have hx:=List.eq_nil_of_length_eq_zero (by simpa using r1);subst hx;by_cases hm:m=0
   ·subst hm;have hn:=List.eq_nil_of_length_eq_zero (by simpa using s1);subst hn;refine⟨none,0,w,?_,⟨⟨by simp,by simp,by decide,by simp⟩,.inl ⟨rfl,rfl⟩⟩,Fr.refl,λx hx=>by cases hx⟩;simp[Builtin.append_,run_underlying ht,sizeOf,typeInfo,hi,Builtin.lenOf,Builtin.firstCells,loadCells,loadCellsFrom]
   ·have hr:=run_append_nil w t ty e inf z ht hi hz ad m cc news s1 s3 (by omega) (by omega) (by have hb:=hbytes;simp[Nat.zero_add]at hb;omega);have hgr:=grown 0;simp only[Nat.zero_add,List.nil_append,Array.empty_append]at hgr⊢;exact⟨_,_,_,hr,hgr,hfr _,λx hx=>by cases hx;exact .inr (Nat.le_refl _)⟩
  ·by_cases hroom:n+m<=c
   ·have hnm:(n+m)*inf.size<=c*inf.size:=Nat.mul_le_mul_right _ hroom;rw[Nat.add_mul]at hnm;have hf:=run_firstCells_some (P:=P) w inf.size m ad m cc news s1 s3;have hst:=run_storeCells_at P g (o+n*inf.size) e news 0 cur w hg (by omega) s2;refine⟨some ⟨g,o,none⟩,c,w.setRow g (cur.toList.take (o+n*inf.size)++news++cur.toList.drop (o+n*inf.size+news.length)).toArray,?_,?_,?_,λx hx=>by cases hx;exact .inl ⟨_,rfl,rfl⟩⟩
    ·simp[Builtin.append_,run_underlying ht,sizeOf,typeInfo,hi,Builtin.lenOf,hroom,hf,cm,hst]
    ·refine⟨⟨hlen,hroom,r3,hone⟩,.inr ⟨g,o,_,rfl,setRow_heap w g cur _ e _ hg,?_,?_⟩⟩
     ·simp[List.size_toArray,List.length_append,List.length_take,List.length_drop,Array.length_toList];omega
     ·have e1:(cur.toList.take (o+n*inf.size)++news++cur.toList.drop (o+n*inf.size+news.length)).drop o=xs++(news++cur.toList.drop (o+n*inf.size+news.length)):=by rw[List.append_assoc,List.drop_append_of_le_length (by rw[List.length_take,Array.length_toList];omega),List.drop_take,Nat.add_sub_cancel_left,ahe]
      rw[e1,<-List.append_assoc,<-hlen];exact List.take_left
    ·exact⟨rfl,rfl,rfl,by show w.heap.size<=(w.setRow g _).heap.size;simp[World.setRow],λk _ hk=>setRow_other w g k _ (λe=>hk ⟨_,rfl,e.symm⟩)⟩
   ·have holds:∀j u,xs[j]? =some u->w.cell? ((⟨g,o,none⟩:Addr).add j)=some u:=λj u hj=>by rw[cm];exact UL ⟨⟨r1,r2,r3,r4⟩,.inr ⟨g,o,cur,rfl,hg,UN,ahe⟩⟩ hj
    have hr:=run_append_grow w t ty e inf z ht hi hz ⟨g,o,none⟩ n c xs r1 holds ad m cc news s1 s3 (by omega) (by omega) (growslice_fits (by omega) hbytes);exact⟨_,_,_,hr,grown c,hfr _,λx hx=>by cases hx;exact .inr (Nat.le_refl _)⟩
def iw {P:Program}{T:uJ}{t ty:TypeId}{ti ei:TI}{b:Option Addr}{m cc bytes:Nat}{news:List Value}{K:Option Addr->Nat->Nat->World->Prop}(hT:wP P T)(s:Sep F W w L)
  (ht:T t=some ti)(hd:ti.d=.slice e)(he:T e=some ei)(hs:ei.size=size)(hb:ei.bytes=bytes)(hz:ei.zero.length=size)(hsz:0<size)
  (hi:L[i]? =some (ak a n c e size xs))(hsrc:Src w b m size news)(h63:n+m<=maxLen)(hbytes:(n+m)*bytes<=140737488355328)(hcc:b=none->cc=0)
  (h:∀a' c' w',Sep F W w' (L.set i (ak a' (n+m) c' e size (xs++news)))->K a' (n+m) c' w'):
  Sx.App P #[t,t] ty (.slice a n c) (.slice b m cc) w K:=by
 obtain⟨inf,u,z,k1,k2,k3,k4,k5,k6,k7⟩:=uL hT ht;obtain⟨yD,u',z',q1,q2,q3,q4,q5,q6,q7⟩:=uL hT he;have hu:u=.slice e:=by rw[hd]at k3;cases u<;>simp[nY]at k3;rw[k3]
 subst hu;obtain rfl:yD.size=size:=q4.trans hs;obtain rfl:yD.bytes=bytes:=q5.trans hb;obtain⟨a',c',w',r1,r2,r3,r4⟩:=ali k2 q1 q6 (by grind) hsz (fY s hi) hsrc h63 hbytes hcc;unfold Sx.App aL;rw[r1];refine h a' c' w' (xG s hi r3 r2 λb hb=>?_);obtain⟨x,hx,rfl⟩:=hb;rcases r4 x hx with⟨y,h1,h2⟩|h2
 ·exact .inl ⟨y,h1,h2⟩
 grind
def O3 {A:Option Addr}{n c size:Nat}{h:Int}{m:Nat}{K:Option Addr->Nat->Nat->Prop}(hh:h=m)(hm:m<=c)(k:K A m c):bR A n c size none (some h) K:=by subst hh;refine⟨λh' e=>(by grind),λl e=>(by cases e),?_⟩;simpa[add_zero]using k
def O4 {A:Option Addr}{n c size:Nat}{l:Int}{m:Nat}{K:Option Addr->Nat->Nat->Prop}(hl:l=m)(hm:m<=n)(k:K (if c=m then A else A.map (·.add (m*size))) (n-m) (c-m)):bR A n c size (some l) none K:=by subst hl;refine⟨λh' e=>(by cases e),λl e=>(by grind),?_⟩;simpa using k
end
def flat {α:Type}(f:α->List Value)(es:List α):List Value:=es.flatMap f
section
variable {α:Type}{f:α->List Value}{size:Nat}
def iT (hf:∀x,(f x).length=size)(es:List α):(flat f es).length=es.length*size:=by
 induction es with
 |nil=>simp[flat]
 |cons x es ih=>
  have:(flat f (x::es)).length=(f x).length+(flat f es).length:=by simp[flat]
  grind
def fZ (es es':List α):flat f (es++es')=flat f es++flat f es':=by simp[flat]
def sK (hf:∀x,(f x).length=size):∀{es:List α} {k j:Nat} {x:α},es[k]? =some x->j<size->(flat f es)[k*size+j]? =(f x)[j]?
 |[],k,j,x,h,hj=>by simp at h
 |y::es,0,j,x,h,hj=>by simp[List.getElem?_cons_zero,Option.some.injEq]at h;subst h;show(f y++flat f es)[0*size+j]? =_;grind
 |y::es,k+1,j,x,h,hj=>by
  simp[List.getElem?_cons_succ]at h;show(f y++flat f es)[(k+1)*size+j]? =_;have e:(k+1)*size+j=size+(k*size+j):=by grind
  rw[e,List.getElem?_append_right (by grind),hf,Nat.add_sub_cancel_left,sK hf h hj]
def Ro (hf:∀x,(f x).length=size):∀{es:List α} {k j:Nat} {x x':α} {v:Value},es[k]? =some x->j<size->f x'=(f x).set j v->(flat f es).set (k*size+j) v=flat f (es.set k x')
 |[],k,j,x,x',v,h,hj,hx=>by simp at h
 |y::es,0,j,x,x',v,h,hj,hx=>by simp[List.getElem?_cons_zero,Option.some.injEq]at h;subst h;show(f y++flat f es).set (0*size+j) v=f x'++flat f es;grind
 |y::es,k+1,j,x,x',v,h,hj,hx=>by
  simp[List.getElem?_cons_succ]at h;show(f y++flat f es).set ((k+1)*size+j) v=f y++flat f (es.set k x');have e:(k+1)*size+j=size+(k*size+j):=by grind
  rw[e,List.set_append_right _ _ (by grind),hf,Nat.add_sub_cancel_left,Ro hf h hj hx]
def UP (hf:∀x,(f x).length=size):∀(es:List α) (m:Nat),(flat f es).take (m*size)=flat f (es.take m)
 |[],m=>by simp[flat]
 |x::es,0=>by simp[flat]
 |x::es,m+1=>by
  show(f x++flat f es).take ((m+1)*size)=f x++flat f (es.take m);have e:(m+1)*size=(f x).length+m*size:=by grind
  rw[e,List.take_length_add_append,UP hf]
end
section
variable {F:Nat->Prop}{W w w':World}{L:List As}{i j k n c size g o:Nat}{e:TypeId}{α:Type}{f:α->List Value}{es:List α}{x x':α}{ad:Addr}
def d_ (b o i size j:Nat):((⟨b,o,none⟩:Addr).add (i*size)).add j=⟨b,o+(i*size+j),none⟩:=by rw[cm,cm,Nat.add_assoc]
def apP (b o i size:Nat):(⟨b,o,none⟩:Addr).add (i*size)=⟨b,o+(i*size+0),none⟩:=by rw[cm,Nat.add_zero]
def eJ {kd:IntKind}{m:Int}{K:Int->Prop}(hf:∀x,(f x).length=size)(s:Sep F W w L)(hi:L[i]? =some (ak (some ⟨g,o,none⟩) n c e size (flat f es)))(hx:es[k]? =some x)(ha:ad=⟨g,o+(k*size+j),none⟩)(hj:(f x)[j]? =some (.int kd m))(h:K m):
 Sx.af kd ad w K:=UM s hi ha (by rw[sK hf hx (by have:=(List.getElem?_eq_some_iff.1 hj).1;rwa[hf]at this)];exact hj) h
def Ip {b:Option Addr}{m q:Nat}{K:Option Addr->Nat->Nat->Prop}(hf:∀x,(f x).length=size)(s:Sep F W w L)(hi:L[i]? =some (ak (some ⟨g,o,none⟩) n c e size (flat f es)))(hx:es[k]? =some x)(ha:ad=⟨g,o+(k*size+j),none⟩)(hj:(f x)[j]? =some (.slice b m q))(h:K b m q):
 Sx.aA ad w K:=ahc s hi ha (by rw[sK hf hx (by have:=(List.getElem?_eq_some_iff.1 hj).1;rwa[hf]at this)];exact hj) h
def ajx {m:Bool}{K:Bool->Prop}(hf:∀x,(f x).length=size)(s:Sep F W w L)(hi:L[i]? =some (ak (some ⟨g,o,none⟩) n c e size (flat f es)))(hx:es[k]? =some x)(ha:ad=⟨g,o+(k*size+j),none⟩)(hj:(f x)[j]? =some (.bool m))(h:K m):
 Sx.cA ad w K:=ahd s hi ha (by rw[sK hf hx (by have:=(List.getElem?_eq_some_iff.1 hj).1;rwa[hf]at this)];exact hj) h
def dW {v:Value}{K:World->Prop}(hf:∀x,(f x).length=size)(s:Sep F W w L)(hi:L[i]? =some (ak (some ⟨g,o,none⟩) n c e size (flat f es)))(hx:es[k]? =some x)(ha:ad=⟨g,o+(k*size+j),none⟩)(hj:j<size)(hx':f x'=(f x).set j v)(hv:v.oneCell'=true)
  (h:∀w',Sep F W w' (L.set i (ak (some ⟨g,o,none⟩) n c e size (flat f (es.set k x'))))->K w'):Sx.St ad v w K:=by
 refine ajv s hi ha ?_ hv λw' s=>h w' (by rwa[Ro hf hx hj hx']at s);have h1:=rf s hi;rw[<-h1,iT hf];have h2:=(List.getElem?_eq_some_iff.1 hx).1;have h3:(k+1)*size<=es.length*size:=Nat.mul_le_mul_right _ h2;grind
def aaH {A A':As}{Ps:List As}(s:Sep F W w L)(hi:L[i]? =some A)(s':Sep A.fp w w' Ps)(ho:A'.ok w'.heap)(hf:∀b,A'.fp b->∃B∈Ps,B.fp b):Sep F W w' (L.set i A'):=
 xG s hi (eo.fr s') ho λb hb=>by obtain⟨B,hB,h⟩:=hf b hb;exact(eo.ok s' B hB).2 b h
def apQ {A:As}{B C:As}(h1:B.ok w.heap)(h2:C.ok w.heap)(h3:∀b,B.fp b->A.fp b)(h4:∀b,C.fp b->A.fp b)(h5:∀b,B.fp b->¬C.fp b):Sep A.fp w w [B,C]:=by
 refine⟨Fr.refl,λD hD=>?_,by grind⟩;rcases List.mem_cons.1 hD with rfl|hD
 ·exact⟨h1,λb hb=>.inl (h3 b hb)⟩
 ·rcases List.mem_cons.1 hD with rfl|hD
  ·exact⟨h2,λb hb=>.inl (h4 b hb)⟩
  ·cases hD
def am9 {A B:As}(s:Sep F W w L)(hi:L[i]? =some A)(hj:L[j]? =some B)(hn:i≠j):∀b,A.fp b->¬B.fp b:=
 KU (λa b h x hx hy=>h x hy hx) (eo.apart s) hi hj hn
def rF {β:Type}{l:List β}{i:Nat}{x:β}(h:l[i]? =some x):l.set i x=l:=by obtain⟨hl,rfl⟩:=List.getElem?_eq_some_iff.1 h;simp_all
def g_ {β:Type}(l:List β)(i:Nat)(a b:β):(l.set i a).set i b=l.set i b:=by simp
def ah {p:Addr}{K:Addr->Prop}(h:K p):wA (some p) K:=h
end
def Ya {α:Type}{G:Nat->α->Prop}:∀(n:Nat),(∀i,i<n->∃x,G i x)->∃xs:List α,xs.length=n/\∀i x,xs[i]? =some x->G i x
 |0,_=>⟨[],rfl,λi x h=>by simp at h⟩
 |n+1,h=>by obtain⟨xs,h1,h2⟩:=Ya n λi hi=>h i (by omega);obtain⟨y,hy⟩:=h n (by omega);refine⟨xs++[y],by simp[h1],λi x hx=>?_⟩;grind
def l7 {α:Type}(W:World)(a:Option Addr)(n size:Nat)(f:α->List Value)(xs:List α):Prop:=
 xs.length=n/\∀i x,xs[i]? =some x->∃ad,a=some ad/\∀j v,(f x)[j]? =some v->W.cell? (ad.add (i*size+j))=some v
def ake {α:Type}{W:World}{size:Nat}{e:Sh}{v:Value}{f:α->List Value}{Pr:α->Prop}(he:∀es:List Value,es.length=size->Rd W e es->∃x,es=f x/\Pr x)(h:RdV W (.sl size e) v):
  ∃a n c xs,v=.slice a n c/\n<=c/\c<=maxLen/\(a=none->c=0)/\l7 W a n size f xs/\∀x∈xs,Pr x:=by
 rcases atQ h with rfl|⟨a,n,c,rfl,h1,h2,_,h4⟩
 ·exact⟨none,0,0,[],rfl,Nat.le_refl _,by decide,λ_=>rfl,⟨rfl,λi x hx=>(by simp at hx)⟩,by simp⟩
 ·obtain⟨xs,k1,k2⟩:=Ya (G:=λi x=>(∀j v,(f x)[j]? =some v->W.cell? (a.add (i*size+j))=some v)/\Pr x) n λi hi=>by obtain⟨es,q1,q2,q3⟩:=h4 i (by omega);grind
  refine⟨some a,n,c,xs,rfl,h1,h2,λe=>(by cases e),⟨k1,λi x hx=>⟨a,rfl,(k2 i x hx).1⟩⟩,λx hx=>?_⟩;obtain⟨i,hi,rfl⟩:=List.getElem_of_mem hx;exact(k2 i _ (List.getElem?_eq_getElem hi)).2
def apR {W:World}{k:IntKind}{v:Value}(h:RdV W (.sl 1 (.int k)) v):
  ∃a n c xs,v=.slice a n c/\n<=c/\c<=maxLen/\(a=none->c=0)/\l7 W a n 1 (λx:Int=>[.int k x]) xs/\∀x∈xs,(Lit.int k x).wf=true:=
 ake (λes h1 h2=>by
  match es,h1 with
  |[v],_=>
   obtain⟨n,rfl,hn⟩:=UK h2;grind) h
section
variable {α:Type}{W w:World}{L:List As}{a:Option Addr}{n size:Nat}{f:α->List Value}{xs:List α}
def l7.take (h:l7 W a n size f xs){m:Nat}(hm:m<=n):l7 W a m size f (xs.take m):=
 ⟨by rw[List.length_take,h.1];omega,λi x hx=>h.2 i x (by
  rw[List.getElem?_take]at hx;split at hx
  ·exact hx
  ·cases hx)⟩
def l7.src {e:TypeId}(h:l7 W a n size f xs)(s:Sep No W w L)(hf:∀x,(f x).length=size)(h1:∀x u,u∈f x->u.oneCell'=true):Src w a n size (flat f xs):=by
 refine⟨by rw[iT hf,h.1],λu hu=>?_,?_⟩
 ·obtain⟨x,_,hx⟩:=List.mem_flatMap.1 hu;grind
 ·cases a with
  |none=>
   rw[<-h.1];cases xs with
   |nil=>rfl
   |cons x xs=>obtain⟨ad,e,_⟩:=h.2 0 x rfl;cases e
  |some ad=>
   intro j u hj;have hjl:=(List.getElem?_eq_some_iff.1 hj).1;rw[iT hf]at hjl;have hs:0<size:=by grind
   have hd:j/size<xs.length:=Nat.div_lt_of_lt_mul (by grind);have hx:=List.getElem?_eq_getElem hd;obtain⟨ad',e,hc⟩:=h.2 _ _ hx;cases e;have hje:j/size*size+j%size=j:=by rw[Nat.mul_comm];exact Nat.div_add_mod j size
   rw[<-hje,sK hf hx (Nat.mod_lt _ hs)]at hj;have:=hc _ _ hj;rw[hje]at this;exact Fr.cell (eo.fr s) this id
end
def am_ {α:Type}{f:α->List Value}{x0:α}{z:Array Value}{l c:Nat}(hf:∀x,(f x).length=z.size)(hx:f x0=z.toList)(hz:0<z.size)(hlc:l<=c):(madeCells z (c*z.size)).toList.take (l*z.size)=flat f (List.replicate l x0):=by
 apply List.ext_getElem?;intro i;have hm:l*z.size<=c*z.size:=Nat.mul_le_mul_right _ hlc;rw[List.getElem?_take];split
 ·have hd:i/z.size<l:=Nat.div_lt_of_lt_mul (by grind);have hje:i/z.size*z.size+i%z.size=i:=by rw[Nat.mul_comm];exact Nat.div_add_mod i z.size
  have hr:(List.replicate l x0)[i/z.size]? =some x0:=by grind
  have:=sK hf hr (Nat.mod_lt i hz);rw[hje]at this;have aA8:=Nat.mod_lt i hz;simp[madeCells,Array.toList_map,Array.toList_range,List.getElem?_map];grind
 ·rw[List.getElem?_eq_none];rw[iT hf,List.length_replicate];omega
def xH {α:Type}{f:α->List Value}{x0:α}{P:Program}{T:uJ}{F:Nat->Prop}{W w:World}{L:List As}{t e:TypeId}{ti ei:TI}{size bytes ln cn:Nat}{l c:Int}{K:Option Addr->Nat->Nat->World->Prop}(hT:wP P T)(s:Sep F W w L)
  (ht:T t=some ti)(hd:ti.d=.slice e)(he:T e=some ei)(hs:ei.size=size)(hb:ei.bytes=bytes)(hz:ei.zero.length=size)(hsz:0<size)(hf:∀x,(f x).length=size)(hx:f x0=ei.zero)(h1:∀u∈f x0,u.oneCell'=true)
  (hl:l=ln)(hc:c=cn)(hlc:ln<=cn)(hbytes:bytes*cn<=281474976710656)(h63:cn<=maxLen)(h:∀b w',Sep F W w' (ak (some ⟨b,0,none⟩) ln cn e size (flat f (List.replicate ln x0))::L)->K (some ⟨b,0,none⟩) ln cn w'):
  Sx.cy P t (.int .i64 l) (.int .i64 c) w K:=by
 subst hl;subst hc;obtain⟨inf,u,z,k1,k2,k3,k4,k5,k6,k7⟩:=uL hT ht;obtain⟨yD,u',z',q1,q2,q3,q4,q5,q6,q7⟩:=uL hT he;have hu:u=.slice e:=by rw[hd]at k3;cases u<;>simp[nY]at k3;rw[k3]
 subst hu;have hzs:z'.cells.size=size:=by grind
 subst hzs;obtain rfl:yD.bytes=bytes:=q5.trans hb;have aA9:cn<=9223372036854775807:=by simp[maxLen]at h63;omega
 have hb':(yD.bytes:Int)*(cn:Int)<=281474976710656:=by omega
 have hr:=run_make w t e yD z' k2 q1 q6 .i64 .i64 (ln:Int) (cn:Int) (by omega) (by omega) hb' (by omega);rw[q4.trans hs]at hr;unfold Sx.cy aL;rw[hr];refine h w.heap.size _ (Hz s (Fr.alloc Fr.refl _) ?_ λb hb=>?_)
 ·refine⟨⟨by rw[iT hf,List.length_replicate],hlc,h63,λu hu=>?_⟩,.inr ⟨w.heap.size,0,_,rfl,heap_alloc_new w _,?_,?_⟩⟩
  ·obtain⟨x,M5,KW⟩:=List.mem_flatMap.1 hu;grind
  ·rw[size_madeCells];grind
  ·exact am_ hf (hx.trans q7.symm) hsz hlc
 ·obtain⟨x,M5,rfl⟩:=hb;grind
def gF {F:Nat->Prop}{W w:World}{L L':List As}(s:Sep F W w L)(h:L'.Sublist L):Sep F W w L':=
 ⟨eo.fr s,λA hA=>eo.ok s A (h.subset hA),(eo.apart s).sublist h⟩
def aeK {F:Nat->Prop}{W w:World}{L:List As}{i n c size:Nat}{a:Option Addr}{e:TypeId}{xs:List Value}(s:Sep F W w L)(hi:L[i]? =some (ak a n c e size xs))(ha:a=none):c=0:=by
 subst ha;rcases(fY s hi).2 with⟨_,h⟩|⟨_,_,_,h,_⟩
 all_goals grind
def aV (φ:Prop)(Ps:List As):As where
 fp:=λk=>∃A∈Ps,A.fp k
 ok:=λh=>(φ/\Ps.Pairwise λ(A B:As)=>∀b:Nat,A.fp b->¬B.fp b)/\∀A∈Ps,A.ok h
 lt:=λh hb k hk=>by obtain⟨A,hA,hk⟩:=hk;exact A.lt h (hb.2 A hA) k hk
 fr:=λh h' hb he=>⟨hb.1,λA hA=>A.fr h h' (hb.2 A hA) λb hb=>he b ⟨A,hA,hb⟩⟩
section
variable {F:Nat->Prop}{W w w':World}{L Ps Ps':List As}{i:Nat}{φ ψ:Prop}
def aeL (s:Sep F W w L)(hi:L[i]? =some (aV φ Ps)):φ:=(fY s hi).1.1
def IL (s:Sep F W w L)(hi:L[i]? =some (aV φ Ps)):Sep (aV φ Ps).fp w w Ps:=by have h:=fY s hi;exact⟨Fr.refl,λA hA=>⟨h.2 A hA,λb hb=>.inl ⟨A,hA,hb⟩⟩,h.1.2⟩
def Rp (s:Sep F W w L)(hi:L[i]? =some (aV φ Ps))(s':Sep (aV φ Ps).fp w w' Ps')(hψ:ψ):Sep F W w' (L.set i (aV ψ Ps')):=
 aaH s hi s' ⟨⟨hψ,eo.apart s'⟩,λA hA=>(eo.ok s' A hA).1⟩ λb hb=>hb
def ana (n:Nat)(s:Sep F W w L)(hφ:φ):Sep F W w (aV φ (L.take n)::L.drop n):=by
 have hap:=eo.apart s;rw[<-List.take_append_drop n L,List.pairwise_append]at hap;refine⟨eo.fr s,λA hA=>?_,?_⟩
 ·rcases List.mem_cons.1 hA with rfl|hA
  ·refine⟨⟨⟨hφ,hap.1⟩,λA hA=>(eo.ok s A (List.mem_of_mem_take hA)).1⟩,λb hb=>?_⟩;obtain⟨A,hA,hb⟩:=hb;exact(eo.ok s A (List.mem_of_mem_take hA)).2 b hb
  ·exact eo.ok s A (List.mem_of_mem_drop hA)
 ·rw[List.pairwise_cons];refine⟨λB hB b hb hb'=>?_,hap.2.1⟩;obtain⟨A,hA,hb⟩:=hb;grind
end
def cg {F:Nat->Prop}{W w:World}{L L':List As}(s:Sep F W w L)(h:L.Perm L'):Sep F W w L':=
 ⟨eo.fr s,λA hA=>eo.ok s A (h.mem_iff.2 hA),(h.pairwise_iff λh b hb hb'=>h b hb' hb).1 (eo.apart s)⟩
def S_ {F:Nat->Prop}{W w:World}{L:List As}(s:Sep F W w L)(e:TypeId)(size:Nat):∀n:Nat,Sep F W w (List.replicate n (ak none 0 0 e size [])++L)
 |0=>s
 |n+1=>bD (S_ s e size n) e size
def dA {F:Nat->Prop}{W w:World}{Ps R:List As}{φ:Prop}(s:Sep F W w (Ps++R))(hφ:φ):Sep F W w (aV φ Ps::R):=by have:=ana Ps.length s hφ;grind
def l7.fr {α:Type}{W W':World}{a:Option Addr}{n size:Nat}{f:α->List Value}{xs:List α}(h:l7 W a n size f xs)(k:Fr No W W'):l7 W' a n size f xs:=
 ⟨h.1,λi x hx=>by obtain⟨ad,e,hc⟩:=h.2 i x hx;exact⟨ad,e,λj v hv=>Fr.cell k (hc j v hv) id⟩⟩
def ajy {α:Type}{F:Nat->Prop}{W w:World}{L:List As}{i n c size:Nat}{a:Option Addr}{e:TypeId}{f:α->List Value}{xs:List α}(s:Sep F W w L)(hi:L[i]? =some (ak a n c e size (flat f xs)))(hf:∀x,(f x).length=size)(hsz:0<size):l7 w a n size f xs:=by have hl:=rf s hi;rw[iT hf]at hl;have hn:=Nat.eq_of_mul_eq_mul_right hsz hl;refine⟨hn,λj x hx=>?_⟩;have hj:=(List.getElem?_eq_some_iff.1 hx).1;obtain⟨g,o,rfl⟩:=pV s hi (by omega);refine⟨_,rfl,λk v hv=>?_⟩;have hk:=(List.getElem?_eq_some_iff.1 hv).1;rw[hf]at hk;exact wI s hi (by rw[cm]) (by rw[sK hf hx hk];exact hv)
def au {w w':World}{L:List As}(s:Sep No w w' L):Fr No w w':=eo.fr s
end Go.Sx
namespace Go.Sx
open Go.RowKit
def bu (x:Int):List Value:=[.int .u8 x]
def dJ (x:Int):(bu x).length=1:=rfl
def AT (x:Int)(u:Value)(h:u∈bu x):u.oneCell'=true:=by rw[bu,List.mem_singleton]at h;rw[h];rfl
def one (x:Int):List Value:=[.int .i64 x]
def cB (x:Int):(one x).length=1:=rfl
def Ff (x:Int)(u:Value)(h:u∈one x):u.oneCell'=true:=by rw[one,List.mem_singleton]at h;rw[h];rfl
def YR (xs:List Int):flat bu xs=xs.map (.int .u8):=by
 induction xs with
 |nil=>rfl
 |cons x xs ih=>rw[List.map_cons,<-ih];rfl
def gi (l:List Int)(i:Nat):Int:=l.getD i 0
def iD {l:List Int}{i:Nat}(h:i<l.length):l[i]? =some (gi l i):=by rw[gi,List.getD_eq_getElem?_getD,List.getElem?_eq_getElem h];rfl
def fE {l:List Int}{i:Nat}(h:i<l.length):gi l i∈l:=List.mem_of_getElem? (iD h)
def UQ {xs ys:List Int}(hl:xs.length=ys.length)(h:∀i,i<xs.length->gi xs i=gi ys i):xs=ys:=by
 apply List.ext_getElem?;intro j;by_cases hj:j<xs.length
 ·rw[iD hj,iD (by omega),h j hj]
 grind
def aaI {l:List Int}{i j:Nat}{v:Int}(h:i<l.length):gi (l.set i v) j=if j=i then v else gi l j:=by simp[gi,List.getD_eq_getElem?_getD];grind
section
variable {F:Nat->Prop}{W w w':World}{L Ls:List As}{A:As}{i:Nat}
def ay (s:Sep F W w L):Sep F W w.drew L:=s
def dD (s:Sep F W w L)(s':Sep No w w' Ls)(hi:Ls[i]? =some A):Sep F W w' (A::L):=
 Hz s (au s') (fY s' hi) λb hb=>by
  rcases(eo.ok s' _ (Rm hi)).2 b hb with h1|h1
  ·exact h1.elim
  ·exact h1
def fy (s:Sep F W w L)(s':Sep No w w' Ls):Sep F W w' (Ls++L):=by
 have f:=au s';refine⟨Fr.trans (eo.fr s) f λ_ _ h=>h.elim,λB hB=>?_,?_⟩
 ·rcases List.mem_append.1 hB with hB|hB
  ·have hW:=FY.size (eo.fr s);refine⟨(eo.ok s' B hB).1,λb hb=>.inr ?_⟩;rcases(eo.ok s' B hB).2 b hb with h|h
   ·exact h.elim
   ·exact Nat.le_trans hW h
  ·have UI:=eo.ok s B hB;exact⟨B.fr _ _ UI.1 λb hb=>f.block b (B.lt _ UI.1 b hb) id,UI.2⟩
 ·rw[List.pairwise_append];refine⟨eo.apart s',eo.apart s,λB hB C hC b hb hc=>?_⟩;have h1:=C.lt _ (eo.ok s C hC).1 b hc;rcases(eo.ok s' B hB).2 b hb with h|h
  ·exact h.elim
  omega
def b_ {L':List As}(is:List Nat)(s:Sep F W w L)(h:is.map (λi=>L[i]?)=L'.map some)(hn:is.Nodup):Sep F W w L':=by
 have II:∀(j:Nat) (B:As),L'[j]? =some B->∃i,is[j]? =some i/\L[i]? =some B:=λj B hB=>by have e:=congrArg (λl=>l[j]?) h;grind
 refine⟨eo.fr s,λB hB=>?_,?_⟩
 ·obtain⟨j,hj⟩:=List.getElem?_of_mem hB;obtain⟨i,_,hi⟩:=II j B hj;exact eo.ok s B (List.mem_of_getElem? hi)
 ·rw[List.pairwise_iff_getElem];intro j k hj hk hlt;obtain⟨i,h1,h2⟩:=II j _ (List.getElem?_eq_getElem hj);obtain⟨i',h3,h4⟩:=II k _ (List.getElem?_eq_getElem hk);refine KU (λa b h x hx hy=>h x hy hx) (eo.apart s) h2 h4 λe=>?_;subst e;obtain⟨hj',e1⟩:=List.getElem?_eq_some_iff.1 h1;obtain⟨hk',e2⟩:=List.getElem?_eq_some_iff.1 h3;exact List.pairwise_iff_getElem.1 hn j k hj' hk' hlt (e1.trans e2.symm)
def anb (s:Sep No W w L):Go.RowKit.Below W.heap.size W w:=am7 (eo.fr s) λ_ _ h=>h
end
def akh {b:ByteArray}{K:ByteArray->Prop}(h:K b):YD (.string b) K:=h
def UR (xs:List Int):(strOfNums xs).toList=xs.map λn=>UInt8.ofNat n.toNat:=by rw[ByteArray.toList_eq];rfl
def ane {xs ys:List Int}(hx:∀x∈xs,0<=x/\x<256)(hy:∀x∈ys,0<=x/\x<256)(h:(xs.map λn=>UInt8.ofNat n.toNat)=ys.map λn=>UInt8.ofNat n.toNat):xs=ys:=by
 induction xs generalizing ys with
 |nil=>simp_all
 |cons x xs ih=>cases ys with
  |nil=>simp at h
  |cons y ys=>
   simp[List.map_cons,List.cons.injEq]at h;have h1:=hx x (by simp);have h2:=hy y (by simp);have e:=congrArg UInt8.toNat h.1;simp[UInt8.toNat_ofNat']at e;rw[ih (λz hz=>hx z (by simp[hz])) (λz hz=>hy z (by simp[hz])) h.2,show x=y by omega]
def anf {xs ys:List Int}(hx:∀x∈xs,0<=x/\x<256)(hy:∀x∈ys,0<=x/\x<256):((strOfNums xs).toList==(strOfNums ys).toList)=decide (xs=ys):=by rw[Bool.eq_iff_iff,beq_iff_eq,UR,UR,decide_eq_true_eq];exact⟨ane hx hy,λe=>by rw[e]⟩
def Yb {P:Program}{T:uJ}{t d e:TypeId}{ti ei di:TI}{ns:List Int}{w:World}{a:Option Addr}{n c:Nat}{K:Value->World->Prop}(hT:wP P T)(hA:l7 w a n 1 bu ns)
  (ht:T t=some ti)(hd:ti.d=.slice e)(he:T e=some ei)(hk:ei.d=.int .u8)(hd':T d=some di)(hds:di.d=.str)
  (h:K (.string (strOfNums ns)) w):aL P (convert t d (.slice a n c)) w K:=by
 obtain⟨inf,u,z,k1,k2,k3,k4,k5,k6,k7⟩:=uL hT ht;obtain⟨yD,u',z',q1,q2,q3,q4,q5,q6,q7⟩:=uL hT he;obtain⟨aA_,u2,z2,p1,p2,p3,p4,p5,p6,p7⟩:=uL hT hd';rw[hd]at k3;rw[hk]at q3;rw[hds]at p3;obtain rfl:u=.slice e:=by cases u<;>simp[nY]at k3;rw[k3]
 obtain rfl:u'=.int .u8:=by cases u'<;>simp[nY]at q3;rw[q3]
 obtain rfl:u2=.string:=by cases u2<;>simp[nY]at p3;rfl
 cases a with
 |none=>
  have hn:ns=[]:=by
   cases ns with
   |nil=>rfl
   |cons x xs=>
    obtain⟨ad,e1,_⟩:=hA.2 0 x rfl;cases e1
  subst hn;rw[aL,run_convert_bytes_nil w t e k2 q2 n c d p2];exact h
 |some ad=>
  have hlen:=hA.1;have hl:(loadCells ad n).run P w=.ok (ns.map (Value.int .u8)).toArray w:=by
   have:=run_loadCells_list (P:=P) w ad (ns.map (Value.int .u8)) (λj v hj=>by rw[List.getElem?_map]at hj;obtain⟨x,hx,rfl⟩:=Option.map_eq_some_iff.1 hj;obtain⟨ad',e1,hc⟩:=hA.2 j x hx;cases e1;have:=hc 0 _ rfl;grind)
   grind
  unfold aL;have e:(convert t d (.slice (some ad) n c)).run P w=.ok (.string (strOfNums ns)) w:=by rw[run_convert_bytes_string w t d e _ n c k2 q2 p2,run_bytesToString w _ n c ns hl,foldl_push_bytes];simp[strOfNums,ByteArray.empty,ByteArray.emptyWithCapacity];rfl
  grind
section
variable {F:Nat->Prop}{W w:World}{L:List As}{i n c size:Nat}{a:Option Addr}{e:TypeId}{xs:List Value}
def CD {idx:Int}{k:Nat}{K:Addr->Prop}(s:Sep F W w L)(hi:L[i]? =some (ak a n c e size xs))(hk:idx=k)(hn:k<n)(h:∀g o,a=some ⟨g,o,none⟩->K ⟨g,o,none⟩):aK idx n (wA a K):=by obtain⟨g,o,rfl⟩:=pV s hi (by omega);exact⟨by omega,by omega,h g o rfl⟩
end
end Go.Sx
namespace Go.Sx
def wrap_u8' (n:Int):IntKind.wrap .u8 n=n%256:=by simp[IntKind.wrap,IntKind.signed,IntKind.bits]
def aR {w:World}{k:IntKind}{m:Int}{ad:Addr}{K:Int->Prop}(h:w.cell? ad=some (.int k m))(hk:K m):af k ad w K:=⟨m,h,hk⟩
def dx {w:World}{x:Option Addr}{m q:Nat}{ad:Addr}{K:Option Addr->Nat->Nat->Prop}(h:w.cell? ad=some (.slice x m q))(hk:K x m q):aA ad w K:=⟨x,m,q,h,hk⟩
def asC {A:Option Addr}{n c size:Nat}{l h:Int}{p q:Nat}{K:Option Addr->Nat->Nat->Prop}(hl:l=p)(hh:h=q)(hpq:p<=q)(hq:q<=c)(k:K (if c=p then A else A.map (·.add (p*size))) (q-p) (c-p)):bR A n c size (some l) (some h) K:=by subst hl hh;refine⟨λh' e=>(by grind),λl e=>(by grind),?_⟩;simpa using k
structure Sl {α:Type} (w:World) (a:Option Addr) (n c size:Nat) (f:α->List Value) (xs:List α):Prop where
 row:l7 w a n size f xs
 le:n<=c
 nil:a=none->c=0
section
variable {α:Type}{w w':World}{a:Option Addr}{n c size:Nat}{f:α->List Value}{xs:List α}
def Sl.fr (h:Sl w a n c size f xs)(k:Fr No w w'):Sl w' a n c size f xs:=⟨h.row.fr k,h.le,h.nil⟩
def Sl.drew (h:Sl w a n c size f xs):Sl w.drew a n c size f xs:=⟨h.row,h.le,h.nil⟩
def Sl.len (h:Sl w a n c size f xs):xs.length=n:=h.row.1
def BK:Sl w none 0 0 size f []:=⟨⟨rfl,λi x hx=>by simp at hx⟩,Nat.le_refl _,λ_=>rfl⟩
def l7.drop (h:l7 w a n size f xs){m:Nat}(hm:m<=n)(hc:n<=c):l7 w (if c=m then a else a.map (·.add (m*size))) (n-m) size f (xs.drop m):=by refine⟨by rw[List.length_drop,h.1],λi x hx=>?_⟩;have hi:=(List.getElem?_eq_some_iff.1 hx).1;rw[List.length_drop,h.1]at hi;rw[if_neg (by omega)];rw[List.getElem?_drop]at hx;obtain⟨ad,rfl,hv⟩:=h.2 (m+i) x hx;refine⟨ad.add (m*size),rfl,λj v hj=>?_⟩;rw[add_add,show m*size+(i*size+j)=(m+i)*size+j by grind];grind
def Sl.cut (h:Sl w a n c size f xs){m:Nat}(hm:m<=n):Sl w (if c=m then a else a.map (·.add (m*size))) (n-m) (c-m) size f (xs.drop m):=by
 refine⟨h.row.drop hm h.le,by have:=h.le;omega,λe=>?_⟩;split at e
 ·omega
 ·rw[Option.map_eq_none_iff]at e;have:=h.nil e;omega
def Sl.top (h:Sl w a n c size f xs){m:Nat}(hm:m<=n):Sl w a m c size f (xs.take m):=⟨h.row.take hm,by have:=h.le;omega,h.nil⟩
def Sl.lo {l:Int}{m:Nat}{K:Option Addr->Nat->Nat->Prop}(h:Sl w a n c size f xs)(hl:l=m)(hm:m<=n)(k:∀a' n' c',n'=n-m->Sl w a' n' c' size f (xs.drop m)->K a' n' c'):bR a n c size (some l) none K:=
 O4 hl hm (k _ _ _ rfl (h.cut hm))
def Sl.hi {l:Int}{m:Nat}{K:Option Addr->Nat->Nat->Prop}(h:Sl w a n c size f xs)(hl:l=m)(hm:m<=n)(k:∀a' c',Sl w a' m c' size f (xs.take m)->K a' m c'):bR a n c size none (some l) K:=
 O3 hl (Nat.le_trans hm h.le) (k _ _ (h.top hm))
def Sl.mid {l t:Int}{p q:Nat}{K:Option Addr->Nat->Nat->Prop}(h:Sl w a n c size f xs)(hl:l=p)(ht:t=q)(hpq:p<=q)(hq:q<=n)(k:∀a' n' c',n'=q-p->Sl w a' n' c' size f ((xs.drop p).take (q-p))->K a' n' c'):bR a n c size (some l) (some t) K:=by refine asC hl ht hpq (Nat.le_trans hq h.le) (k _ _ _ rfl ?_);have:=h.cut (show p<=n by omega);exact this.top (show q-p<=n-p by omega)
def Sl.El {idx:Int}{k:Nat}{K:Addr->Prop}(h:Sl w a n c size f xs)(hk:idx=k)(hn:k<n)(hK:∀p x,xs[k]? =some x->(∀j v,(f x)[j]? =some v->w.cell? ((p.add (idx.toNat*size)).add j)=some v)->K p):aK idx n (wA a K):=by subst hk;obtain⟨x,hx⟩:∃x,xs[k]? =some x:=⟨xs[k]'(by rw[h.len];exact hn),List.getElem?_eq_getElem _⟩;obtain⟨ad,rfl,hv⟩:=h.row.2 k x hx;refine⟨by omega,by omega,hK ad x hx λj v hj=>?_⟩;rw[add_add,Int.toNat_natCast];grind
def FZ {idx:Int}{k:Nat}{kd:IntKind}{ys:List Int}{K:Int->Prop}(h:Sl w a n c 1 (λx=>[.int kd x]) ys)(hk:idx=k)(hn:k<n)(hK:K (gi ys k)):aK idx n (wA a λp=>af kd (p.add (idx.toNat*1)) w K):=
 Sl.El h hk hn λp x hx hc=>by rw[iD (by grind)]at hx;cases hx;have:=hc 0 _ rfl;exact aR this hK
def Sl.Db {idx:Int}{k:Nat}{ys:List Int}{K:Int->Prop}(h:Sl w a n c 1 bu ys)(hk:idx=k)(hn:k<n)(hK:K (gi ys k)):aK idx n (wA a λp=>af .u8 (p.add (idx.toNat*1)) w K):=FZ h hk hn hK
def Sl.rG {idx:Int}{k:Nat}{ys:List Int}{K:Int->Prop}(h:Sl w a n c 1 one ys)(hk:idx=k)(hn:k<n)(hK:K (gi ys k)):aK idx n (wA a λp=>af .i64 (p.add (idx.toNat*1)) w K):=FZ h hk hn hK
def aO {F:Nat->Prop}{W:World}{L:List As}{i:Nat}{e:TypeId}(s:Sep F W w L)(hi:L[i]? =some (ak a n c e size (flat f xs)))(hf:∀x,(f x).length=size)(hsz:0<size):Sl w a n c size f xs:=
 ⟨ajy s hi hf hsz,(Rn s hi).1,aeK s hi⟩
def Sl.src (h:Sl w a n c size f xs){e:TypeId}(hf:∀x,(f x).length=size)(h1:∀x u,u∈f x->u.oneCell'=true):Src w a n size (flat f xs):=l7.src (e:=e) h.row bh hf h1
def gP {F:Nat->Prop}{W:World}{L Ps:List As}{φ:Prop}(s:Sep F W w (aV φ Ps::L)):φ/\Sep F W w (Ps++L):=by
 refine⟨aeL s (i:=0) rfl,?_⟩;have:=aju s Ps [] L rfl λho=>?_
 ·grind
 ·have k:=IL s (i:=0) rfl;refine⟨λB hB=>(eo.ok k B hB).1,λB hB b hb=>?_,eo.apart k⟩;rcases(eo.ok k B hB).2 b hb with h|h
  ·exact h
  ·have h2:=B.lt _ (eo.ok k B hB).1 b hb;omega
end
end Go.Sx
namespace Go.Sx
open Go.RowKit Go.ChangeMaps Go.MapKept
open Go.Maps (Keyed)
def aki {P:Program}{t:TypeId}{xs ys:Array Value}{x y:Operand}{w:World}{K:Bool->World->Prop}(hg:P.eqGuardType P.depth t=false)(h:bT P .eql t x y (.agg xs) (.agg ys) w λr w'=>K (!r) w'):bT P .neq t x y (.agg xs) (.agg ys) w K:=by
 unfold bT aL at h⊢;simp[Sem.run_bind,run_eqGuard_agg w .eql t x y xs ys hg,run_eqGuard_agg w .neq t x y xs ys hg,Result.andThen_ok,run_eql_struct,run_neq_struct]at h⊢;cases hr:(Op.equalIn 10000 t (.agg xs) (.agg ys)).run P w with
 |ok b w'=>rw[hr]at h;exact h
 |halt e w'=>simp_all
def mapA (P:Program)(k:TypeId)(b:Nat)(m:List (Value×Value)):As where
 fp:=λx=>x=b
 ok:=λh=>∃es clock,h[b]? =some (.map es clock)/\es.toList.map (λe=>(e.key,e.val))=m/\∀p∈m,∃l,keyOf P k p.1=some l
 lt:=λh hb x hx=>by grind
 fr:=λh h' hb he=>by grind
section
variable {P:Program}{k e t:TypeId}{b:Nat}{m:List (Value×Value)}{F:Nat->Prop}{W w:World}{L:List As}{i:Nat}{key val:Value}
def Em (s:Sep F W w L){A:As}(hi:L[i]? =some A)(hA:A.fp b){o:Obj}{A':As}(ho:A'.ok (ChangeMaps.setBlock w b o).heap)(hf:∀x,A'.fp x->A.fp x):Sep F W (ChangeMaps.setBlock w b o) (L.set i A'):=by refine xG s hi ⟨rfl,rfl,rfl,by simp[mm,ChangeMaps.setBlock],λx hx hne=>?_⟩ ho λx hx=>.inl (hf x hx);show(w.heap.setIfInBounds b o)[x]? =w.heap[x]?;grind
def M6 {w:World}{b:Nat}{o o':Obj}(h:w.heap[b]? =some o):(ChangeMaps.setBlock w b o').heap[b]? =some o':=by have:=(Array.getElem?_eq_some_iff.1 h).1;simp[ChangeMaps.setBlock,this]
def ahf {K:Option Nat->World->Prop}(s:Sep F W w L)(P:Program)(k t:TypeId)(h:∀b w',Sep F W w' (mapA P k b []::L)->K (some b) w'):cw P t none w K:=by
 unfold Sx.cw aL;have e:(Instr.makeMap t none).run P w=.ok (.map (some w.heap.size)) (w.alloc (.map #[] 0)):=by simp[Instr.makeMap,newObj,Sem.run,Result.andThen]
 refine h _ _ (Hz s (Fr.alloc Fr.refl _) ?_ λx hx=>?_)
 ·exact⟨#[],0,heap_alloc_new w _,rfl,by simp⟩
 ·have hx:x=w.heap.size:=hx;omega
def aeM {c:Bool}{z:Value}{K:Value->World->Prop}(KP:Keyed P k)(ht:P.underlying t=some (.map k e))(hz:(zeroValue e).run P w=.ok z w)(s:Sep F W w L)(hi:L[i]? =some (mapA P k b m))(hkey:∃l,keyOf P k key=some l)
  (h0:(∀p∈m,p.1≠key)->K (if c then .tuple #[z,.bool false]else z) w)(h1:∀(j:Nat) v,m[j]? =some (key,v)->K (if c then .tuple #[v,.bool true]else v) w):aL P (Instr.lookup t (.map (some b)) key c) w K:=by
 obtain⟨es,clock,hb,hm,hk⟩:=fY s hi;obtain⟨l,hkey⟩:=hkey;have hks:∀x∈es.toList,∃l,keyOf P k x.key=some l:=λx hx=>hk (x.key,x.val) (by grind);unfold aL;rcases KP.find w hkey es.toList hks with⟨q1,q2⟩|⟨j,e0,q1,q2,q3⟩
 ·have:(Instr.lookup t (.map (some b)) key c).run P w=.ok (if c then .tuple #[z,.bool false]else z) w:=by simp[Instr.lookup,run_underlying ht,MapKept.run_getObj_map hb,KP.check w _ hkey,q1,hz,Result.andThen]
  grind
 ·have:(Instr.lookup t (.map (some b)) key c).run P w=.ok (if c then .tuple #[e0.val,.bool true]else e0.val) w:=by simp[Instr.lookup,run_underlying ht,MapKept.run_getObj_map hb,KP.check w _ hkey,q1,Result.andThen]
  rw[this];exact h1 j e0.val (by grind)
def Yc {K:World->Prop}(KP:Keyed P k)(ht:P.underlying t=some (.map k e))(s:Sep F W w L)(hi:L[i]? =some (mapA P k b m))(hkey:∃l,keyOf P k key=some l)
  (h0:(∀p∈m,p.1≠key)->∀w',Sep F W w' (L.set i (mapA P k b (m++[(key,val)])))->K w')(h1:∀(j:Nat) v0,m[j]? =some (key,v0)->∀w',Sep F W w' (L.set i (mapA P k b (m.set j (key,val))))->K w'):
  bC P (Instr.mapUpdate t (.map (some b)) key val) w K:=by
 obtain⟨es,clock,hb,hm,hk⟩:=fY s hi;have hb:=hb;obtain⟨l,hkey⟩:=hkey;have hks:∀x∈es.toList,∃l,keyOf P k x.key=some l:=λx hx=>hk (x.key,x.val) (by grind);unfold bC;rcases KP.find w hkey es.toList hks with⟨q1,q2⟩|⟨j,e0,q1,q2,q3⟩
 ·have:(Instr.mapUpdate t (.map (some b)) key val).run P w=.ok () (ChangeMaps.setBlock w b (.map (es.push ⟨key,val,clock⟩) (clock+1))):=by simp[Instr.mapUpdate,run_underlying ht,MapKept.run_getObj_map hb,KP.check w false hkey,q1,MapKept.run_setObj_map _ hb,Result.andThen,ChangeMaps.setBlock]
  rw[this];refine h0 (λp hp=>?_) _ (Em s hi rfl ⟨_,_,M6 hb,?_,λp hp=>?_⟩ λx hx=>hx)
  all_goals grind
 ·have hj:es[j]? =some e0:=by grind
  have:(Instr.mapUpdate t (.map (some b)) key val).run P w=.ok () (ChangeMaps.setBlock w b (.map (es.modify j (λe'=>{e' with key:=key,val:=val})) clock)):=by simp[Instr.mapUpdate,run_underlying ht,MapKept.run_getObj_map hb,KP.check w false hkey,q1,hj,q3,KP.stays w hkey,MapKept.run_setObj_map _ hb,Result.andThen,ChangeMaps.setBlock]
  rw[this];have aAY:(es.modify j (λe'=>{e' with key:=key,val:=val})).toList=es.toList.set j {e0 with key:=key,val:=val}:=by rw[Array.toList_modify,modify_eq_set _ _ _ _ q2]
  refine h1 j e0.val (by grind) _ (Em s hi rfl ⟨_,_,M6 hb,?_,λp hp=>?_⟩ λx hx=>hx)
  ·simp_all
  grind
def Yd {ty:TypeId}{K:Value->World->Prop}(KP:Keyed P k)(ht:P.underlying t=some (.map k e))(s:Sep F W w L)(hi:L[i]? =some (mapA P k b m))(hkey:∃l,keyOf P k key=some l)
  (h0:(∀p∈m,p.1≠key)->∀w',Sep F W w' L->K (.tuple #[]) w')(h1:∀(j:Nat) v0,m[j]? =some (key,v0)->∀w',Sep F W w' (L.set i (mapA P k b (m.eraseIdx j)))->K (.tuple #[]) w'):
  aL P (Builtin.delete_ #[t,k] ty [.map (some b),key].toArray) w K:=by
 obtain⟨es,clock,hb,hm,hk⟩:=fY s hi;have hb:=hb;obtain⟨l,hkey⟩:=hkey;have hks:∀x∈es.toList,∃l,keyOf P k x.key=some l:=λx hx=>hk (x.key,x.val) (by grind);unfold aL;rcases KP.find w hkey es.toList hks with⟨q1,q2⟩|⟨j,e0,q1,q2,q3⟩
 ·have:(Builtin.delete_ #[t,k] ty [.map (some b),key].toArray).run P w=.ok (.tuple #[]) (ChangeMaps.setBlock w b (.map es clock)):=by simp[Builtin.delete_,run_underlying ht,MapKept.run_getObj_map hb,KP.check w _ hkey,q1,MapKept.run_setObj_map _ hb,Result.andThen,ChangeMaps.setBlock]
  rw[this];refine h0 (λp hp=>?_) _ ?_
  ·grind
  ·have:=Em s hi (o:=.map es clock) (A':=mapA P k b m) rfl ⟨_,_,M6 hb,hm,hk⟩ λx hx=>hx;rwa[rF hi]at this
 ·have hsub:(es.eraseIdxIfInBounds j).toList=es.toList.eraseIdx j:=by simp_all
  have:(Builtin.delete_ #[t,k] ty [.map (some b),key].toArray).run P w=.ok (.tuple #[]) (ChangeMaps.setBlock w b (.map (es.eraseIdxIfInBounds j) clock)):=by simp[Builtin.delete_,run_underlying ht,MapKept.run_getObj_map hb,KP.check w _ hkey,q1,MapKept.run_setObj_map _ hb,Result.andThen,ChangeMaps.setBlock]
  rw[this];refine h1 j e0.val (by grind) _ (Em s hi rfl ⟨_,_,M6 hb,?_,λp hp=>?_⟩ λx hx=>hx)
  ·rw[hsub,ChangeMaps.map_eraseIdx,hm]
  ·exact hk p ((List.eraseIdx_sublist _ _).subset hp)
end
end Go.Sx
namespace Go.Sx
section
variable {F:Nat->Prop}{W w w':World}{L:List As}{i n c size:Nat}{e:TypeId}{xs:List Value}
def asD {P:Program}{g o p:Nat}{news:List Value}(s:Sep F W w L)(hi:L[i]? =some (ak (some ⟨g,o,none⟩) n c e size xs))(hp:p+news.length<=n*size)(h1:∀u∈news,u.oneCell'=true):
  ∃w',(storeCells ⟨g,o+p,none⟩ news).run P w=.ok () w'/\Sep F W w' (L.set i (ak (some ⟨g,o,none⟩) n c e size (xs.take p++news++xs.drop (p+news.length)))):=by
 obtain⟨⟨r1,r2,r3,r4⟩,r5⟩:=fY s hi;rcases r5 with⟨h,_⟩|⟨g',o',cur,h,hg,UN,ahe⟩
 ·cases h
 ·cases h;have hnc:n*size<=c*size:=Nat.mul_le_mul_right _ r2;have hst:=run_storeCells_at (P:=P) g (o+p) e news 0 cur w hg (by omega) h1;simp only[Nat.add_zero]at hst;refine⟨_,hst,xG s hi (A':=ak (some ⟨g,o,none⟩) n c e size (xs.take p++news++xs.drop (p+news.length))) ?_ ?_ ?_⟩
  ·exact⟨rfl,rfl,rfl,by show w.heap.size<=(w.setRow g _).heap.size;simp[World.setRow],λk _ hk=>setRow_other w g k _ (λe=>hk ⟨_,rfl,e.symm⟩)⟩
  ·have hl:(xs.take p++news++xs.drop (p+news.length)).length=n*size:=by simp[List.length_append,List.length_take,List.length_drop,r1];omega
   refine⟨⟨hl,r2,r3,λu hu=>?_⟩,.inr ⟨g,o,_,rfl,setRow_heap w g cur _ e _ hg,?_,?_⟩⟩
   ·rcases List.mem_append.1 hu with hu|hu
    ·rcases List.mem_append.1 hu with hu|hu
     ·exact r4 u (List.mem_of_mem_take hu)
     ·exact h1 u hu
    ·exact r4 u (List.mem_of_mem_drop hu)
   ·simp[List.size_toArray,List.length_append,List.length_take,List.length_drop,Array.length_toList];omega
   ·have US:cur.toList.length=cur.size:=Array.length_toList;have e1:(cur.toList.take (o+p)++news++cur.toList.drop (o+p+news.length)).drop o=(cur.toList.drop o).take p++(news++(cur.toList.drop o).drop (p+news.length)):=by rw[List.append_assoc,List.drop_append_of_le_length (by rw[List.length_take];omega),List.drop_take,Nat.add_sub_cancel_left,List.drop_drop];congr 3;omega
    have hX:((cur.toList.drop o).take (n*size)).length=n*size:=by rw[ahe];exact r1
    rw[e1,<-ahe,List.take_take,Nat.min_eq_left (by omega),<-List.append_assoc];have e2:(cur.toList.drop o).drop (p+news.length)=((cur.toList.drop o).take (n*size)).drop (p+news.length)++(cur.toList.drop o).drop (n*size):=by
     rw[List.drop_take];have:(cur.toList.drop o).drop (n*size)=((cur.toList.drop o).drop (p+news.length)).drop (n*size-(p+news.length)):=by generalize cur.toList.drop o=D;rw[List.drop_drop];congr 1;omega
     rw[this,List.take_append_drop]
    rw[e2,<-List.append_assoc];have hD:n*size<=(cur.toList.drop o).length:=by rw[List.length_take]at hX;omega
    have hL:((cur.toList.drop o).take p++news++((cur.toList.drop o).take (n*size)).drop (p+news.length)).length=n*size:=by rw[List.length_append,List.length_append,List.length_drop,hX,List.length_take];omega
    rw[List.take_append_of_le_length (by rw[hL];exact Nat.le_refl _)];exact List.take_of_length_le (by rw[hL];exact Nat.le_refl _)
  ·rintro b ⟨x,hx,rfl⟩;cases hx;exact .inl ⟨_,rfl,rfl⟩
def EH {P:Program}{T:uJ}{t ty:TypeId}{ti ei:TI}{b da:Option Addr}{m cc dn dc g o p:Nat}{news:List Value}{K:Int->World->Prop}(hT:wP P T)(s:Sep F W w L)
  (ht:T t=some ti)(hd:ti.d=.slice e)(he:T e=some ei)(hs:ei.size=size)(hsz:0<size)
  (hi:L[i]? =some (ak (some ⟨g,o,none⟩) n c e size xs))(hsrc:Src w b m size news)(hp:p+dn<=n)(hda:da=some ⟨g,o+p*size,none⟩)
  (h:∀w',Sep F W w' (L.set i (ak (some ⟨g,o,none⟩) n c e size (xs.take (p*size)++news.take (min m dn*size)++xs.drop ((p+min m dn)*size))))->K ((min m dn:Nat):Int) w'):
  Sx.cD P #[t,t] ty (.slice da dn dc) (.slice b m cc) w K:=by
 subst hda;obtain⟨inf,u,z,k1,k2,k3,k4,k5,k6,k7⟩:=uL hT ht;obtain⟨yD,u',z',q1,q2,q3,q4,q5,q6,q7⟩:=uL hT he;have hu:u=.slice e:=by rw[hd]at k3;cases u<;>simp[nY]at k3;rw[k3]
 subst hu;obtain rfl:yD.size=size:=q4.trans hs;obtain⟨s1,s2,s3⟩:=hsrc;have hk:min m dn*yD.size<=m*yD.size:=Nat.mul_le_mul_right _ (Nat.min_le_left _ _);have IM:(p+min m dn)*yD.size<=n*yD.size:=Nat.mul_le_mul_right _ (by omega);rw[Nat.add_mul]at IM;have hlen:(news.take (min m dn*yD.size)).length=min m dn*yD.size:=by grind
 obtain⟨w',hst,sp⟩:=asD (P:=P) (p:=p*yD.size) (news:=news.take (min m dn*yD.size)) s hi (by omega) λu hu=>s2 u (List.mem_of_mem_take hu);rw[hlen,<-Nat.add_mul]at sp;have hf:(Builtin.firstCells yD.size (min m dn) (.slice b m cc)).run P w=.ok (news.take (min m dn*yD.size)).toArray w:=by
  cases b with
  |none=>
   have hm:=s3;subst hm;simp[Builtin.firstCells]
  |some ad=>
   refine run_firstCells_some w _ _ _ _ _ _ hlen λj v hj=>s3 j v ?_;grind
 have hmn:Nat.min m dn=min m dn:=rfl;unfold Sx.cD aL;have hr:(Builtin.copy_ #[t,t] ty [.slice (some ⟨g,o+p*yD.size,none⟩) dn dc,.slice b m cc].toArray).run P w=.ok (.int .i64 ((min m dn:Nat):Int)) w':=by
  simp[Builtin.copy_,run_underlying k2,sizeOf,typeInfo,q1,Builtin.lenOf,hmn,hf,hst,goInt]
  try omega
 rw[hr];exact h w' sp
end
section
variable {α:Type}{p:Prop}[Decidable p]{x y:α}
def bN (h:p:=by omega):cond (decide p) x y=x:=by rw[decide_eq_true h];rfl
def bp (h:¬p:=by omega):cond (decide p) x y=y:=by rw[decide_eq_false h];rfl
def AA (h:p:=by omega):ite p x y=x:=if_pos h
def fS (h:¬p:=by omega):ite p x y=y:=if_neg h
end
def aG {n:Int}(h1:-9223372036854775808<=n:=by omega)(h2:n<9223372036854775808:=by omega):IntKind.wrap .i64 n=n:=wrap_i64 h1 h2
section
variable {F:Nat->Prop}{W w:World}{L:List As}{a:Addr}{b j:Nat}{t:TypeId}{cs:List Value}
def cj {v:Value}(s:Sep F W w L)(i:Nat)(h:(a,L[i]?,cs[j]?)=(⟨b,j,none⟩,some (av b t cs),some v)):w.cell? a=some v:=by simp only[Prod.mk.injEq]at h;exact cK s h.1 h.2.1 h.2.2
def lI {k:IntKind}{n:Int}{K:Int->Prop}(s:Sep F W w L)(i:Nat)(h:(a,L[i]?,cs[j]?)=(⟨b,j,none⟩,some (av b t cs),some (.int k n)))(g:K n):af k a w K:=⟨n,cj s i h,g⟩
def lB {n:Bool}{K:Bool->Prop}(s:Sep F W w L)(i:Nat)(h:(a,L[i]?,cs[j]?)=(⟨b,j,none⟩,some (av b t cs),some (.bool n)))(g:K n):cA a w K:=⟨n,cj s i h,g⟩
def lP {n:Option Addr}{K:Option Addr->Prop}(s:Sep F W w L)(i:Nat)(h:(a,L[i]?,cs[j]?)=(⟨b,j,none⟩,some (av b t cs),some (.pointer n)))(g:K n):bg a w K:=⟨n,cj s i h,g⟩
def lM {n:Option Nat}{K:Option Nat->Prop}(s:Sep F W w L)(i:Nat)(h:(a,L[i]?,cs[j]?)=(⟨b,j,none⟩,some (av b t cs),some (.map n)))(g:K n):cq a w K:=⟨n,cj s i h,g⟩
def lS {x:Option Addr}{n c:Nat}{K:Option Addr->Nat->Nat->Prop}(s:Sep F W w L)(i:Nat)(h:(a,L[i]?,cs[j]?)=(⟨b,j,none⟩,some (av b t cs),some (.slice x n c)))(g:K x n c):aA a w K:=⟨x,n,c,cj s i h,g⟩
def sT {v:Value}{K:World->Prop}{L':List As}(s:Sep F W w L)(i:Nat)(h:(a,L[i]?,Nat.blt j cs.length)=(⟨b,j,none⟩,some (av b t cs),true))(g:∀w',Sep F W w' L'->K w')(e:L.set i (av b t (cs.set j v))=L':=by(simp only[List.set_cons_zero,List.set_cons_succ];try rfl)):St a v w K:=by simp only[Prod.mk.injEq]at h;subst e;exact ax s h.1 h.2.1 h.2.2 g
def iZ {A B:As}(s:Sep F W w (A::B::L)):Sep F W w (B::A::L):=cg s (List.Perm.swap _ _ _)
def pkN:List As->Nat->List As->List As
 |[],_,r=>r
 |A::_,0,r=>A::r
 |_::L,i+1,r=>pkN L i r
def pkL (L:List As):List Nat->List As->List As
 |[],r=>r
 |i::is,r=>pkN L i (pkL L is r)
def pkD:Nat->List As->List As
 |0,L=>L
 |_+1,[]=>[]
 |k+1,_::L=>pkD k L
def pkI:Nat->List Nat->Bool
 |_,[]=>true
 |k,i::is=>Nat.blt i k&&!is.contains i&&pkI k is
def ahh:∀{L:List As} {i:Nat} {r:List As},pkN L i r=(match L[i]? with|some A=>[A]|none=>[])++r
 |[],i,r=>by simp[pkN]
 |A::L,0,r=>by simp[pkN]
 |A::L,i+1,r=>by simp[pkN,ahh (L:=L)]
def ahi:∀{k:Nat} {L:List As},pkD k L=L.drop k
 |0,L=>by simp[pkD]
 |k+1,[]=>by simp[pkD]
 |k+1,A::L=>by simp[pkD,ahi (k:=k)]
def ahj {k:Nat}:∀{is:List Nat} {B:As},B∈pkL L is (pkD k L)->∃j,L[j]? =some B/\(j∈is\/k<=j)
 |[],B,h=>by rw[pkL,ahi]at h;obtain⟨j,hj⟩:=List.getElem?_of_mem h;rw[List.getElem?_drop]at hj;exact⟨_,hj,.inr (Nat.le_add_right ..)⟩
 |i::is,B,h=>by
  rw[pkL,ahh,List.mem_append]at h;rcases h with h|h
  ·split at h
   ·rename_i hA;cases List.mem_singleton.1 h;exact⟨i,hA,.inl (List.mem_cons_self ..)⟩
   ·cases h
  ·obtain⟨j,h1,h2⟩:=ahj h;exact⟨j,h1,h2.imp (List.mem_cons_of_mem _) id⟩
def ahk {R:As->As->Prop}(hs:∀a b,R a b->R b a){k:Nat}(hp:L.Pairwise R):∀{is:List Nat},pkI k is=true->(pkL L is (pkD k L)).Pairwise R
 |[],h=>by rw[pkL,ahi];exact hp.sublist (List.drop_sublist ..)
 |i::is,h=>by
  simp only[pkI,Bool.and_eq_true,Bool.not_eq_true',Nat.blt_eq]at h;rw[pkL,ahh];have ih:=ahk hs hp h.2;split
  ·rename_i A hA;rw[List.singleton_append,List.pairwise_cons];refine⟨λB hB=>?_,ih⟩;obtain⟨j,hj,hk⟩:=ahj hB;refine KU hs hp hA hj λe=>?_;subst e;rcases hk with hk|hk
   ·have:=h.1.2;simp[hk]at this
   ·omega
  ·exact ih
def pk {L':List As}(k:Nat)(is:List Nat)(s:Sep F W w L)(e:pkL L is (pkD k L)=L':=by(simp only[pkL,pkN,pkD];try rfl))(h:pkI k is=true:=by decide):Sep F W w L':=by subst e;refine⟨eo.fr s,λB hB=>?_,ahk (λa b h x hx hy=>h x hy hx) (eo.apart s) h⟩;obtain⟨j,hj,_⟩:=ahj hB;exact eo.ok s B (List.mem_of_getElem? hj)
end
end Go.Sx
namespace Go.Proofs.YtmegplnmiepfbaaGreatDoor.S
open Go.Sx
structure k_ where
 k:Int
 A:Int
 B:Int
 m:List Int
deriving DecidableEq
def ee (l:List Int):Prop:=∀x∈l,0<=x/\x<256
def ee.nil:ee []:=λx hx=>by cases hx
def ee.cons {x:Int}{l:List Int}(h:ee (x::l)):(0<=x/\x<256)/\ee l:=⟨h x (by simp),λy hy=>h y (by simp[hy])⟩
def ee.mk {x:Int}{l:List Int}(h:0<=x/\x<256)(h':ee l):ee (x::l):=λy hy=>by
 rcases List.mem_cons.1 hy with rfl|hy
 ·exact h
 ·exact h' y hy
def ahl {l m:List Int}(h:ee l)(h':ee m):ee (l++m):=λx hx=>by
 rcases List.mem_append.1 hx with hx|hx
 ·exact h x hx
 ·exact h' x hx
def ee.take {l:List Int}(h:ee l)(n:Nat):ee (l.take n):=λx hx=>h x (List.mem_of_mem_take hx)
def ee.drop {l:List Int}(h:ee l)(n:Nat):ee (l.drop n):=λx hx=>h x (List.mem_of_mem_drop hx)
def o8:List Int->Int
 |[]=>0
 |x::xs=>x+256*o8 xs
def aaM {l:List Int}(h:ee l):0<=o8 l/\o8 l<256^l.length:=by
 induction l with
 |nil=>simp[o8]
 |cons x l ih=>
  have h1:=h.cons;have h2:=ih h1.2;simp[o8,List.length_cons];omega
def wQ (k:Int):Nat:=if k=2\/k=3\/k=4\/k=5\/k=6 then 4 else 0
def BL (k:Int):Nat:=if k=2 then 1 else if k=3\/k=4\/k=6 then 4 else 0
def shL (k:Int):Bool:=decide (k=1)
def Dv (k:Int):Bool:=decide (1<=k/\k<=8)
def apS (k:Int):wQ k<=4/\BL k<=4:=by unfold wQ BL;grind
def Bc:List Int->k_×Nat
 |[]=>(⟨0,0,0,[]⟩,0)
 |x::r=>
  if Dv x=true then
   if shL x=true then
    if r.length<4 then(⟨0,0,0,[]⟩,0)
    else if(r.length:Int)-4<o8 (r.take 4)then(⟨0,0,0,[]⟩,0)
    else(⟨x,0,0,(r.drop 4).take (o8 (r.take 4)).toNat⟩,5+(o8 (r.take 4)).toNat)
   else if r.length<wQ x+BL x then(⟨0,0,0,[]⟩,0)
   else(⟨x,o8 (r.take (wQ x)),o8 ((r.drop (wQ x)).take (BL x)),[]⟩,1+wQ x+BL x)
  else(⟨0,x,0,[]⟩,1)
def CE (x:Int)(r:List Int):Bc (x::r)=
 if Dv x=true then
  if shL x=true then
   if r.length<4 then(⟨0,0,0,[]⟩,0)
   else if(r.length:Int)-4<o8 (r.take 4)then(⟨0,0,0,[]⟩,0)
   else(⟨x,0,0,(r.drop 4).take (o8 (r.take 4)).toNat⟩,5+(o8 (r.take 4)).toNat)
  else if r.length<wQ x+BL x then(⟨0,0,0,[]⟩,0)
  else(⟨x,o8 (r.take (wQ x)),o8 ((r.drop (wQ x)).take (BL x)),[]⟩,1+wQ x+BL x)
 else(⟨0,x,0,[]⟩,1):=rfl
def apT (m:List Int):Bool:=decide (m≠[])&&decide ((Bc m).2=0)
def En (n:Int)(s:Nat):Bool:=decide (0<=n/\n<256^s)
def EI (o:k_):Bool:=
 if o.k=0 then
  if o.A=-1 then decide (o.B=0)&&apT o.m
  else En o.A 1&&(!Dv o.A&&(decide (o.B=0)&&decide (o.m=[])))
 else Dv o.k&&(En o.A (wQ o.k)&&(En o.B (BL o.k)&&(decide (o.m=[])||(shL o.k&&decide (o.m.length<=4294967295)))))
def arv (o:k_):Prop:=o.k=0/\o.A=-1
instance (o:k_):Decidable (arv o):=inferInstanceAs (Decidable (_/\_))
def HB {n:Int}{s:Nat}:En n s=true↔0<=n/\n<256^s:=by simp[En]
def gg (n lo hi:Int):Int:=lo+n%(hi-lo+1)
def j9 {n lo hi:Int}(h:lo<=hi):lo<=gg n lo hi/\gg n lo hi<=hi:=by unfold gg;have h1:=Int.emod_nonneg n (b:=hi-lo+1) (by omega);have h2:=Int.emod_lt_of_pos n (b:=hi-lo+1) (by omega);omega
structure bJ where
 w:Int
 h:Int
 cs:List Int
def Kb (x:Int):Int:=if x%8=7 then 255 else if x<160 then 1+x%4 else x
def Iq {x:Int}(h:0<=x/\x<256):1<=Kb x/\Kb x<256:=by unfold Kb;omega
def F0 (c:List Int)(i:Nat):Int:=if c=[]then Kb 1 else Kb (gi c ((i+i/c.length*5)%c.length))
def ahm {c:List Int}(h:ee c)(i:Nat):1<=F0 c i/\F0 c i<256:=by
 unfold F0;split
 ·exact Iq (by decide)
 ·rename_i hc;have:=List.length_pos_iff.2 hc;exact Iq (h _ (fE (Nat.mod_lt _ this)))
def M7 (n:Nat)(c:List Int):List Int:=(List.range n).map (F0 c)
def vz (w h:Int)(c:List Int):bJ:=⟨gg w 1 40,gg h 1 40,M7 (gg w 1 40*gg h 1 40).toNat c⟩
structure cR (m:bJ):Prop where
 w:1<=m.w/\m.w<=1024
 h:1<=m.h/\m.h<=1024
 len:(m.cs.length:Int)=m.w*m.h
 jC:∀x∈m.cs,1<=x/\x<256
def cR.bytes {m:bJ}(h:cR m):ee m.cs:=λx hx=>by have:=h.jC x hx;omega
def EJ {w h:Int}{c:List Int}(hc:ee c):cR (vz w h c):=by
 have h1:=j9 (n:=w) (lo:=1) (hi:=40) (by decide);have h2:=j9 (n:=h) (lo:=1) (hi:=40) (by decide);have h3:0<=gg w 1 40*gg h 1 40:=Int.mul_nonneg (by omega) (by omega);refine⟨⟨h1.1,by show gg w 1 40<=1024;omega⟩,⟨h2.1,by show gg h 1 40<=1024;omega⟩,?_,λx hx=>?_⟩
 ·show((M7 _ c).length:Int)=_;rw[M7,List.length_map,List.length_range];show((gg w 1 40*gg h 1 40).toNat:Int)=gg w 1 40*gg h 1 40;omega
 ·obtain⟨i,_,rfl⟩:=List.mem_map.1 hx;exact ahm hc i
def cE (w:Int):Int:=(w+15)/16
def dy (w h:Int):Int:=cE w*cE h
def aD (w h s:Int):Int:=min 16 (w-16*(s%cE w))
def bz (w h s:Int):Int:=min 16 (h-16*(s/cE w))
def bU (w h s l:Int):Int:=(16*(s/cE w)+l/aD w h s)*w+16*(s%cE w)+l%aD w h s
def Fg {w:Int}(h:1<=w/\w<=1024):1<=cE w/\cE w<=64:=by unfold cE;omega
def e_ {w h:Int}(hw:1<=w/\w<=1024)(hh:1<=h/\h<=1024):1<=dy w h/\dy w h<=4096:=by have h1:=Fg hw;have h2:=Fg hh;unfold dy;have a:=Int.mul_le_mul h1.1 h2.1 (by decide) (by omega);have b:=Int.mul_le_mul h1.2 h2.2 (by omega) (by decide);omega
def IN {w h s:Int}(hw:1<=w/\w<=1024)(hh:1<=h/\h<=1024)(hs:0<=s/\s<dy w h):
  0<=s%cE w/\0<=s/cE w/\16*(s%cE w)<=w-1/\16*(s/cE w)<=h-1:=by
 have h1:=Fg hw;have a:=Int.emod_nonneg s (b:=cE w) (by omega);have b:=Int.emod_lt_of_pos s (b:=cE w) (by omega);have c:s/cE w<cE h:=Int.ediv_lt_of_lt_mul (by omega) (by rw[Int.mul_comm];exact hs.2);have d:0<=s/cE w:=Int.ediv_nonneg hs.1 (by omega);refine⟨a,d,?_,?_⟩
 ·have e:cE w=(w+15)/16:=rfl;omega
 ·have e:cE h=(h+15)/16:=rfl;omega
def qN {w h s:Int}(hw:1<=w/\w<=1024)(hh:1<=h/\h<=1024)(hs:0<=s/\s<dy w h):(1<=aD w h s/\aD w h s<=16)/\1<=bz w h s/\bz w h s<=16:=by have:=IN hw hh hs;unfold aD bz;omega
def F1 {w h s l:Int}(hw:1<=w/\w<=1024)(hh:1<=h/\h<=1024)(hs:0<=s/\s<dy w h)(hl:0<=l/\l<aD w h s*bz w h s):
  0<=bU w h s l/\bU w h s l<w*h:=by
 have h1:=IN hw hh hs;have h2:=qN hw hh hs;have a:=Int.emod_nonneg l (b:=aD w h s) (by omega);have b:=Int.emod_lt_of_pos l (b:=aD w h s) (by omega);have c:l/aD w h s<bz w h s:=Int.ediv_lt_of_lt_mul (by omega) (by grind);have d:0<=l/aD w h s:=Int.ediv_nonneg hl.1 (by omega);have e1:16*(s%cE w)+l%aD w h s<w:=by
  have:aD w h s<=w-16*(s%cE w):=by unfold aD;omega
  omega
 have e2:16*(s/cE w)+l/aD w h s<h:=by
  have:bz w h s<=h-16*(s/cE w):=by unfold bz;omega
  omega
 unfold bU;have hy:0<=16*(s/cE w)+l/aD w h s:=by omega
 generalize 16*(s/cE w)+l/aD w h s=y at*;have f1:0<=y*w:=Int.mul_nonneg hy (by omega);have f2:(y+1)*w<=h*w:=Int.mul_le_mul_of_nonneg_right (by omega) (by omega);grind
def qj (m:bJ)(s:Int):List Int:=(List.range (aD m.w m.h s*bz m.w m.h s).toNat).map λl:Nat=>gi m.cs (bU m.w m.h s l).toNat
def UU {m:bJ}(h:cR m){s:Int}(hs:0<=s/\s<dy m.w m.h):∀x∈qj m s,1<=x/\x<256:=λx hx=>by obtain⟨l,hl,rfl⟩:=List.mem_map.1 hx;rw[List.mem_range]at hl;have:=F1 h.w h.h hs (l:=l) (by omega);have hlen:=h.len;exact h.jC _ (fE (by omega))
def UW {m:bJ}{s:Int}(h:cR m)(hs:0<=s/\s<dy m.w m.h):((qj m s).length:Int)=aD m.w m.h s*bz m.w m.h s/\1<=(qj m s).length/\(qj m s).length<=256:=by have h2:=qN h.w h.h hs;have a:=Int.mul_le_mul h2.1.1 h2.2.1 (by decide) (by omega);have b:=Int.mul_le_mul h2.1.2 h2.2.2 (by omega) (by decide);unfold qj;grind
def lead (x:Int):List Int->Nat
 |[]=>0
 |y::ys=>if y=x then lead x ys+1 else 0
def O5 (x:Int)(l:List Int):lead x l<=l.length:=by
 induction l with
 |nil=>exact Nat.le_refl _
 |cons y ys ih=>unfold lead;grind
def lF:Nat->List Int->List Int
 |0,_=>[]
 |_+1,[]=>[]
 |f+1,x::cs=>((lead x cs:Nat):Int)%256::x::lF f (cs.drop (lead x cs))
def ahn:∀(f g:Nat) (l:List Int),l.length<=f->l.length<=g->lF f l=lF g l:=by
 intro f;induction f with
 |zero=>
  intro g l hf hg;have:l=[]:=List.eq_nil_of_length_eq_zero (by omega);subst this;cases g<;>rfl
 |succ f ih=>
  intro g l hf hg;cases l with
  |nil=>grind
  |cons x cs=>
   cases g with
   |zero=>simp at hg
   |succ g=>
    unfold lF;grind
def tL (l:List Int):List Int:=2::lF l.length l
def aeO:∀(f:Nat) {l:List Int},ee l->ee (lF f l)
 |0,_,_=>ee.nil
 |_+1,[],_=>ee.nil
 |f+1,x::cs,h=>ee.mk (by omega) (ee.mk h.cons.1 (aeO f (h.cons.2.drop _)))
def tM (cs:List Int):Int×List Int:=
 if(tL cs).length=3 then(0,[0,gi cs 0])else if(tL cs).length<1+cs.length then(2,tL cs)else(1,1::cs)
def aho {cs:List Int}(h:ee cs)(hl:1<=cs.length):ee (tM cs).2:=by
 unfold tM;split
 ·exact ee.mk (by decide) (ee.mk (h _ (fE (by omega))) ee.nil)
 ·split
  ·exact ee.mk (by decide) (aeO _ h)
  ·exact ee.mk (by decide) h
def ahp {cs:List Int}:(tM cs).2.length<=2+cs.length:=by unfold tM;grind
def IP (m:bJ)(k:Nat):List Int:=(List.range k).flatMap λs:Nat=>(tM (qj m s)).2
def yE (m:bJ):List Int:=[m.w%256,m.w/256%256,m.h%256,m.h/256%256]++IP m (dy m.w m.h).toNat
def Ye (m:bJ)(k:Nat):IP m (k+1)=IP m k++(tM (qj m k)).2:=by unfold IP;rw[List.range_succ,List.flatMap_append];simp
def aeP {m:bJ}(h:cR m):∀(k:Nat),(k:Int)<=dy m.w m.h->ee (IP m k)/\(IP m k).length<=258*k
 |0,_=>⟨ee.nil,by simp[IP]⟩
 |k+1,hk=>by
  obtain⟨h1,h2⟩:=aeP h k (by omega);have hs:0<=(k:Int)/\(k:Int)<dy m.w m.h:=by omega
  have hl:=UW h hs;have hr:=UU h hs;rw[Ye];refine⟨ahl h1 (aho (λx hx=>by grind) hl.2.1),?_⟩;rw[List.length_append];have:=ahp (cs:=qj m k);omega
def F2 {m:bJ}(h:cR m):ee (yE m)/\(yE m).length<=1100000:=by have hc:=e_ h.w h.h;obtain⟨h1,h2⟩:=aeP h (dy m.w m.h).toNat (by omega);unfold yE;refine⟨ahl (ee.mk (by omega) (ee.mk (by omega) (ee.mk (by omega) (ee.mk (by omega) ee.nil)))) h1,?_⟩;grind
structure yF where
 k:Int
 a:Int
 b:Int
def KX (x:yF)(n:Int):k_:=
 let k:=gg x.b 1 6
 if k=1 then⟨1,0,0,[2,0,1,0,1,x.a%256,x.b%256]⟩
 else if k=2 then⟨2,gg x.a 0 (n-1),gg x.a 0 1*255,[]⟩
 else if k=5 then⟨5,n+gg x.a 0 5,0,[]⟩
 else⟨k,n+gg x.a 0 5,gg x.a 0 9,[]⟩
def Eo (m:bJ):k_:=⟨1,0,0,yE m⟩
def v9 (w h:Int)(c:List Int)(m:bJ)(x:yF):k_×bJ:=
 let n:Int:=m.cs.length;let A:=gg x.a 0 (n-1);let B:=gg x.b 0 (n-1);let k:=gg x.k 0 15
 if k=0\/k=1\/k=2 then(⟨3,A,B,[]⟩,m)
 else if k=3 then(⟨4,gg x.a 0 9,B,[]⟩,m)
 else if k=4 then(⟨5,gg x.a 0 9,0,[]⟩,m)
 else if k=5\/k=6 then(⟨2,A,Kb (x.b%256),[]⟩,m)
 else if k=7\/k=8 then(⟨6,A,B,[]⟩,m)
 else if k=9 then(⟨8,0,0,[]⟩,m)
 else if k=10 then
  if Int.tmod x.a 4=0 then
   let m':=vz (IntKind.wrap .i64 (w+IntKind.wrap .i64 (Int.tdiv x.a 4))) (IntKind.wrap .i64 (h+x.b)) c
   (Eo m',m')
  else(⟨0,9+gg x.b 0 200,0,[]⟩,m)
 else if k=11 then(KX x n,m)
 else(⟨7,0,0,[]⟩,m)
def M8 (w h:Int)(c:List Int):bJ->List yF->List k_
 |_,[]=>[]
 |m,x::xs=>(v9 w h c m x).1::M8 w h c (v9 w h c m x).2 xs
def Fh (w h:Int)(c:List Int)(xs:List yF):List k_:=Eo (vz w h c)::M8 w h c (vz w h c) (xs.take 60)
structure acS (o:k_):Prop where
 may:EI o=true
 whole:¬arv o
 jC:ee o.m
 len:o.m.length<=1100000
def M9 {n:Int}(h:0<=n/\n<=4000000):En n 4=true:=HB.2 (by omega)
def BM {k A B:Int}(hk:k=2\/k=3\/k=4\/k=5\/k=6)(hA:0<=A/\A<=4000000)(hB:0<=B/\B<=4000000)(h2:k=2->B<=255)(h5:k=5->B=0):acS ⟨k,A,B,[]⟩:=by
 refine⟨?_,λh=>by have:=h.1;grind,ee.nil,by simp⟩;unfold EI;simp only;rcases hk with rfl|rfl|rfl|rfl|rfl
 ·simp[Dv,wQ,BL,M9 hA];exact HB.2 (by omega)
 ·simp[Dv,wQ,BL,M9 hA,M9 hB]
 ·simp[Dv,wQ,BL,M9 hA,M9 hB]
 ·simp[Dv,wQ,BL,M9 hA];exact HB.2 (by omega)
 ·simp[Dv,wQ,BL,M9 hA,M9 hB]
def ok_none {k:Int}(hk:k=7\/k=8):acS ⟨k,0,0,[]⟩:=by refine⟨?_,λh=>by have:=h.1;grind,ee.nil,by simp⟩;rcases hk with rfl|rfl<;>decide
def acT {bs:List Int}(h:ee bs)(hl:bs.length<=1100000):acS ⟨1,0,0,bs⟩:=by refine⟨?_,λh=>by have:=h.1;grind,h,hl⟩;unfold EI;simp[Dv,wQ,BL,shL,En];omega
def ang {x:yF}{n:Int}(hn:1<=n/\n<=2000000):acS (KX x n):=by
 have h1:=j9 (n:=x.b) (lo:=1) (hi:=6) (by decide);have h2:=j9 (n:=x.a) (lo:=0) (hi:=n-1) (by omega);have h3:=j9 (n:=x.a) (lo:=0) (hi:=1) (by decide);have h4:=j9 (n:=x.a) (lo:=0) (hi:=5) (by decide);have h5:=j9 (n:=x.a) (lo:=0) (hi:=9) (by decide);unfold KX;simp only;split
 ·exact acT (ee.mk (by decide) (ee.mk (by decide) (ee.mk (by decide) (ee.mk (by decide) (ee.mk (by decide) (ee.mk (by omega) (ee.mk (by omega) ee.nil))))))) (by simp)
 ·split
  ·exact BM (.inl rfl) (by omega) (by omega) (by omega) (by omega)
  ·split
   ·exact BM (by omega) (by omega) (by omega) (by omega) (by omega)
   ·exact BM (by omega) (by omega) (by omega) (by omega) (by omega)
def KY {m:bJ}(h:cR m):1<=m.cs.length/\m.cs.length<=1048576:=by have h1:=h.len;have a:=Int.mul_le_mul h.w.1 h.h.1 (by decide) (by have:=h.w;omega);have b:=Int.mul_le_mul h.w.2 h.h.2 (by have:=h.h;omega) (by decide);omega
def atW {w h:Int}{c:List Int}(hc:ee c){m:bJ}(hm:cR m)(x:yF):acS (v9 w h c m x).1/\cR (v9 w h c m x).2:=by
 have hn:=KY hm;have hA:=j9 (n:=x.a) (lo:=0) (hi:=(m.cs.length:Int)-1) (by omega);have hB:=j9 (n:=x.b) (lo:=0) (hi:=(m.cs.length:Int)-1) (by omega);have h9:=j9 (n:=x.a) (lo:=0) (hi:=9) (by decide);have h20:=j9 (n:=x.b) (lo:=0) (hi:=200) (by decide);have arw:=Iq (x:=x.b%256) (by omega);have hl:∀w h,acS (Eo (vz w h c)):=λw h=>by have:=F2 (EJ (w:=w) (h:=h) hc);exact acT this.1 this.2
 unfold v9;simp only;split
 ·exact⟨BM (by omega) (by omega) (by omega) (by omega) (by omega),hm⟩
 ·split
  ·exact⟨BM (by omega) (by omega) (by omega) (by omega) (by omega),hm⟩
  ·split
   ·exact⟨BM (by omega) (by omega) (by omega) (by omega) (by omega),hm⟩
   ·split
    ·exact⟨BM (by omega) (by omega) (by omega) (by omega) (by omega),hm⟩
    ·split
     ·exact⟨BM (by omega) (by omega) (by omega) (by omega) (by omega),hm⟩
     ·split
      ·exact⟨ok_none (by omega),hm⟩
      ·split
       ·split
        ·exact⟨hl _ _,EJ hc⟩
        ·refine⟨⟨?_,λh=>?_,ee.nil,by simp⟩,hm⟩
         ·unfold EI;simp only;rw[if_pos trivial,fS,HB.2 (by omega),show Dv (9+gg x.b 0 200)=false from decide_eq_false (by omega)];simp
         ·have:=h.2;grind
       ·split
        ·exact⟨ang (by omega),hm⟩
        ·exact⟨ok_none (by omega),hm⟩
def alj (w h:Int)(c:List Int)(xs:List yF):(Fh w h c xs).length<=61:=by
 unfold Fh;have:∀(xs:List yF) (m:bJ),(M8 w h c m xs).length=xs.length:=by
  intro xs;induction xs with
  |nil=>intro m;rfl
  |cons x xs ih=>intro m;simp[M8,ih]
 grind
def gz (w h:Int):Prop:=(1<=w/\w<=1024)/\(1<=h/\h<=1024)
instance (w h:Int):Decidable (gz w h):=inferInstanceAs (Decidable (_/\_))
def bK (w h c:Int):Prop:=gz w h/\0<=c/\c<w*h
instance (w h c:Int):Decidable (bK w h c):=inferInstanceAs (Decidable (_/\_))
def dX (w h s:Int):Prop:=gz w h/\0<=s/\s<dy w h
instance (w h s:Int):Decidable (dX w h s):=inferInstanceAs (Decidable (_/\_))
def g8 (w h x y:Int):Int:=if gz w h/\(0<=x/\x<w)/\(0<=y/\y<h)then y*w+x else-1
def bf (w h c s:Int):Int:=
 if bK w h c then
  if s=0 then g8 w h (c%w) (c/w-1)
  else if s=2 then g8 w h (c%w) (c/w+1)
  else if s=3 then g8 w h (c%w-1) (c/w)
  else if s=1 then g8 w h (c%w+1) (c/w)
  else if s=4 then g8 w h (c%w) (c/w)
  else-1
 else-1
def aC (w h c:Int):Int:=if bK w h c then c/w/16*cE w+c%w/16 else-1
def YS (w h s:Int):Int:=if dX w h s then aD w h s else 0
def acU (w h s:Int):Int:=if dX w h s then bz w h s else 0
def dY (w h c:Int):Int:=if bK w h c then c/w%16*aD w h (aC w h c)+c%w%16 else-1
def CF (w h s l:Int):Int:=if dX w h s/\0<=l/\l<aD w h s*bz w h s then bU w h s l else-1
def mV {w h:Int}(hm:gz w h):1<=w*h/\w*h<=1048576:=by obtain⟨h1,h2⟩:=hm;have a:=Int.mul_le_mul h1.1 h2.1 (by decide) (by omega);have b:=Int.mul_le_mul h1.2 h2.2 (by omega) (by decide);omega
def UX {w h c:Int}(hc:bK w h c):0<=c/\c<1048576:=by have:=mV hc.1;have:=hc.2;omega
def Ir {w h c:Int}(hc:bK w h c):(0<=c%w/\c%w<w)/\(0<=c/w/\c/w<h)/\c=c/w*w+c%w:=by obtain⟨⟨h1,h2⟩,h3,h4⟩:=hc;refine⟨⟨Int.emod_nonneg _ (by omega),Int.emod_lt_of_pos _ (by omega)⟩,⟨Int.ediv_nonneg h3 (by omega),Int.ediv_lt_of_lt_mul (by omega) (by grind)⟩,?_⟩;have:=Int.mul_ediv_add_emod c w;grind
def rH {w x y:Int}(hx:0<=x/\x<w):(y*w+x)/w=y/\(y*w+x)%w=x:=by
 have hw:w≠0:=by omega
 constructor
 ·rw[Int.add_comm,Int.add_mul_ediv_right _ _ hw,Int.ediv_eq_zero_of_lt hx.1 hx.2,Int.zero_add]
 ·rw[Int.add_comm,Int.add_mul_emod_self_right,Int.emod_eq_of_lt hx.1 hx.2]
def aaN {w h x y:Int}(hm:gz w h)(hx:0<=x/\x<w)(hy:0<=y/\y<h):bK w h (y*w+x):=by
 refine⟨hm,?_,?_⟩
 ·have:0<=y*w:=Int.mul_nonneg hy.1 (by omega);omega
 ·have f2:(y+1)*w<=h*w:=Int.mul_le_mul_of_nonneg_right (by omega) (by omega);grind
def ng {w h x y:Int}(hm:gz w h)(hx:0<=x/\x<w)(hy:0<=y/\y<h):g8 w h x y=y*w+x:=if_pos ⟨hm,hx,hy⟩
def sM {w h x y:Int}(hn:¬((0<=x/\x<w)/\(0<=y/\y<h))):g8 w h x y=-1:=if_neg λe=>hn e.2
def BN {w h x y:Int}(h0:0<=g8 w h x y):(0<=x/\x<w)/\(0<=y/\y<h)/\bK w h (g8 w h x y):=by
 unfold g8 at h0⊢;split at h0
 ·rename_i hq;rw[if_pos hq];exact⟨hq.2.1,hq.2.2,aaN hq.1 hq.2.1 hq.2.2⟩
 ·omega
def zR {w h c s:Int}(h0:0<=bf w h c s):bK w h c/\bK w h (bf w h c s):=by
 unfold bf at h0⊢;split at h0
 ·rename_i hc;rw[if_pos hc];refine⟨hc,?_⟩;split at h0
  ·rename_i h1;rw[if_pos h1];exact(BN h0).2.2
  ·rename_i h1;rw[if_neg h1];split at h0
   ·rename_i h1;rw[if_pos h1];exact(BN h0).2.2
   ·rename_i h1;rw[if_neg h1];split at h0
    ·rename_i h1;rw[if_pos h1];exact(BN h0).2.2
    ·rename_i h1;rw[if_neg h1];split at h0
     ·rename_i h1;rw[if_pos h1];exact(BN h0).2.2
     ·rename_i h1;rw[if_neg h1];split at h0
      ·rename_i h1;rw[if_pos h1];exact(BN h0).2.2
      ·omega
 ·omega
def EK {w h x y s:Int}(hm:gz w h)(hx:0<=x/\x<w)(hy:0<=y/\y<h):
  bf w h (y*w+x) s=if s=0 then g8 w h x (y-1)else if s=2 then g8 w h x (y+1)else if s=3 then g8 w h (x-1) y else if s=1 then g8 w h (x+1) y else if s=4 then g8 w h x y else-1:=by
 obtain⟨e1,e2⟩:=rH hx;rw[bf,if_pos (aaN hm hx hy),e1,e2]
def bS {w h c:Int}(hc:bK w h c):dX w h (aC w h c):=by have h1:=Ir hc;have ha:=Fg hc.1.1;rw[aC,if_pos hc];have a:0<=c/w/16*cE w:=Int.mul_nonneg (by omega) (by omega);refine⟨hc.1,by omega,?_⟩;unfold dy;have e:cE w=(w+15)/16:=rfl;have e':cE h=(h+15)/16:=rfl;have b:(c/w/16+1)*cE w<=cE h*cE w:=Int.mul_le_mul_of_nonneg_right (by omega) (by omega);grind
def UY {w h c:Int}(hc:bK w h c):aC w h c/cE w=c/w/16/\aC w h c%cE w=c%w/16:=by have h1:=Ir hc;rw[aC,if_pos hc];exact rH (by have e:cE w=(w+15)/16:=rfl;omega)
def jY {w h c:Int}(hc:bK w h c):0<=dY w h c/\dY w h c<aD w h (aC w h c)*bz w h (aC w h c):=by
 have h1:=Ir hc;obtain⟨e1,e2⟩:=UY hc;have hs:=bS hc;unfold dY;have hw:c%w%16<aD w h (aC w h c):=by unfold aD;omega
 have hh:c/w%16<bz w h (aC w h c):=by unfold bz;omega
 generalize aC w h c=S at*;have a:0<=c/w%16*aD w h S:=Int.mul_nonneg (by omega) (by omega);have b:(c/w%16+1)*aD w h S<=bz w h S*aD w h S:=Int.mul_le_mul_of_nonneg_right (by omega) (by omega);grind
def nT {w h c:Int}(hc:bK w h c):bU w h (aC w h c) (dY w h c)=c:=by
 have h1:=Ir hc;obtain⟨e1,e2⟩:=UY hc;have hs:=bS hc;have hw:c%w%16<aD w h (aC w h c):=by unfold aD;omega
 have el:dY w h c=c/w%16*aD w h (aC w h c)+c%w%16:=if_pos hc;obtain⟨d1,d2⟩:=rH (w:=aD w h (aC w h c)) (x:=c%w%16) (y:=c/w%16) (by omega);unfold bU;grind
def sO {w h s l:Int}(hs:dX w h s)(hl:0<=l/\l<aD w h s*bz w h s):bK w h (bU w h s l):=
 ⟨hs.1,F1 hs.1.1 hs.1.2 hs.2 hl⟩
def O6 {w h s l:Int}(hs:dX w h s)(hl:0<=l/\l<aD w h s*bz w h s):
  (0<=l%aD w h s/\l%aD w h s<aD w h s)/\(0<=l/aD w h s/\l/aD w h s<bz w h s):=by
 have hz:=qN hs.1.1 hs.1.2 hs.2;exact⟨⟨Int.emod_nonneg _ (by omega),Int.emod_lt_of_pos _ (by omega)⟩,⟨Int.ediv_nonneg hl.1 (by omega),Int.ediv_lt_of_lt_mul (by omega) (by grind)⟩⟩
def akj {w h s l:Int}(hs:dX w h s)(hl:0<=l/\l<aD w h s*bz w h s):
  bU w h s l/w=16*(s/cE w)+l/aD w h s/\bU w h s l%w=16*(s%cE w)+l%aD w h s:=by
 have h1:=IN hs.1.1 hs.1.2 hs.2;have h2:=O6 hs hl;have e1:16*(s%cE w)+l%aD w h s<w:=by
  have:aD w h s<=w-16*(s%cE w):=by unfold aD;omega
  omega
 rw[bU,Int.add_assoc];exact rH (by omega)
def iU {w h s l:Int}(hs:dX w h s)(hl:0<=l/\l<aD w h s*bz w h s):aC w h (bU w h s l)=s:=by
 obtain⟨e1,e2⟩:=akj hs hl;have hz:=qN hs.1.1 hs.1.2 hs.2;have h2:=O6 hs hl;rw[aC,if_pos (sO hs hl),e1,e2];have q1:(16*(s/cE w)+l/aD w h s)/16=s/cE w:=by omega
 have q2:(16*(s%cE w)+l%aD w h s)/16=s%cE w:=by omega
 rw[q1,q2,Int.mul_comm];have:=Int.mul_ediv_add_emod s (cE w);omega
def F3 {w h s l:Int}(hs:dX w h s)(hl:0<=l/\l<aD w h s*bz w h s):dY w h (bU w h s l)=l:=by
 obtain⟨e1,e2⟩:=akj hs hl;have hz:=qN hs.1.1 hs.1.2 hs.2;have h2:=O6 hs hl;rw[dY,if_pos (sO hs hl),iU hs hl,e1,e2];have q1:(16*(s/cE w)+l/aD w h s)%16=l/aD w h s:=by omega
 have q2:(16*(s%cE w)+l%aD w h s)%16=l%aD w h s:=by omega
 rw[q1,q2,Int.mul_comm];have:=Int.mul_ediv_add_emod l (aD w h s);omega
inductive Wy {α:Type} (S:α->Int->Prop) (E:α->α->Int->Prop):α->Int->Prop
 |src {x:α} {k:Int}:S x k->Wy S E x k
 |go {x n:α} {c d:Int}:E x n c->Wy S E n d->Wy S E x (d+c)
def bW:Int:=1099511627776
section
variable {α:Type}{S:α->Int->Prop}{E:α->α->Int->Prop}
open Classical in
noncomputable def gL (S:α->Int->Prop)(E:α->α->Int->Prop)(x:α):Int:=if h:∃d,Wy S E x d/\∀e,Wy S E x e->d<=e then h.choose else bW
def KZ {x:α}{d:Int}(h:Wy S E x d)(hl:∀e,Wy S E x e->d<=e):gL S E x=d:=by have hx:∃d,Wy S E x d/\∀e,Wy S E x e->d<=e:=⟨d,h,hl⟩;rw[gL,dif_pos hx];grind
def xI {x:α}(h:∀d,¬Wy S E x d):gL S E x=bW:=by unfold gL;grind
def anh {f:α->Int}(hs:∀x k,S x k->f x<bW/\f x<=k)(he:∀x n c,E x n c->f n<bW->f x<bW/\f x<=f n+c){x:α}{d:Int}(h:Wy S E x d):f x<bW/\f x<=d:=by
 induction h with
 |src h=>grind
 |go e _ ih=>
  grind
def ani {f:α->Int}(hs:∀x k,S x k->f x<bW/\f x<=k)(he:∀x n c,E x n c->f n<bW->f x<bW/\f x<=f n+c){x:α}(ha:f x<bW->Wy S E x (f x))(hi:¬f x<bW->f x=bW):gL S E x=f x:=by
 by_cases h:f x<bW
 ·exact KZ (ha h) λe he'=>(anh hs he he').2
 ·rw[hi h];exact xI λd hd=>h (anh hs he hd).1
def Wy.mono {S':α->Int->Prop}{E':α->α->Int->Prop}(hs:∀x k,S x k->Wy S' E' x k)(he:∀x n c d,E x n c->Wy S' E' n d->Wy S' E' x (d+c)){x:α}{d:Int}(h:Wy S E x d):Wy S' E' x d:=by
 induction h with
 |src h=>grind
 |go e _ ih=>grind
def mK (hs:∀x k,S x k->0<=k)(he:∀x n c,E x n c->0<=c){x:α}{d:Int}(h:Wy S E x d):0<=d:=by
 induction h with
 |src h=>grind
 |go e _ ih=>
  grind
def UZ {P:Int->Prop}(h0:∀d,P d->0<=d):∀(k:Nat) (d:Int),d<=k->P d->∃e,P e/\∀d',P d'->e<=d'
 |0,d,hk,h=>⟨d,h,λd' h'=>by grind⟩
 |k+1,d,hk,h=>by
  by_cases hx:∃d',P d'/\d'<=k
  ·obtain⟨d',h',hk'⟩:=hx;exact UZ h0 k d' hk' h'
  grind
def qO (hs:∀x k,S x k->0<=k)(he:∀x n c,E x n c->0<=c){x:α}{d:Int}(h:Wy S E x d):Wy S E x (gL S E x)/\∀e,Wy S E x e->gL S E x<=e:=by obtain⟨e,h1,h2⟩:=UZ (λd hd=>mK hs he hd) d.toNat d (by omega) h;rw[KZ h1 h2];grind
end
section
variable {α:Type}{S:α->Int->Prop}{E:α->α->Int->Prop}{f f':α->Int}{Q Q':List (Int×α)}
structure O7 (S:α->Int->Prop) (E:α->α->Int->Prop) (f:α->Int) (Q:List (Int×α)):Prop where
 ways:∀e∈Q,Wy S E e.2 e.1
 Rq:∀x,f x<bW->Wy S E x (f x)/\∀e,Wy S E x e->f x<=e
 none:∀x,¬f x<bW->f x=bW
 iQ:∀x k,S x k->f x<bW\/∃k',k'<=k/\(k',x)∈Q
 wR:∀x n c,E x n c->f n<bW->f x<bW\/∃k',k'<=f n+c/\(k',x)∈Q
 mono:∀x,f x<bW->∀e∈Q,f x<=e.1
def O7.least (h:O7 S E f Q)(he:∀x n c,E x n c->0<=c){k:Int}(hk:∀e∈Q,k<=e.1){y:α}{d:Int}(hw:Wy S E y d):(if f y<bW then f y else k)<=d:=by
 induction hw with
 |@src x k' hs=>
  split
  ·rename_i hx;exact(h.Rq x hx).2 _ (.src hs)
  ·rcases h.iQ x k' hs with h1|⟨k2,h2,h3⟩
   all_goals grind
 |@go x n c d e hn ih=>
  have hc:=he _ _ _ e;split
  ·rename_i hx;exact(h.Rq x hx).2 _ (.go e hn)
  ·by_cases hfn:f n<bW
   ·rcases h.wR x n c e hfn with h1|⟨k2,h2,h3⟩
    all_goals grind
   omega
def O7.skip (h:O7 S E f Q){k:Int}{x:α}(hx:f x<bW)(h1:∀e∈Q',e∈Q)(h2:∀e∈Q,e=(k,x)\/e∈Q'):O7 S E f Q' where
 ways e he:=h.ways e (h1 e he)
 Rq:=h.Rq
 none:=h.none
 iQ y k' hs:=by
  rcases h.iQ y k' hs with h3|⟨k2,h3,h4⟩
  all_goals grind
 wR y n c e hn:=by
  rcases h.wR y n c e hn with h3|⟨k2,h3,h4⟩
  all_goals grind
 mono y hy e he:=h.mono y hy e (h1 e he)
def O7.step (h:O7 S E f Q)(he:∀x n c,E x n c->0<=c){k:Int}{x:α}(hx:¬f x<bW)(hkI:k<bW)(hin:(k,x)∈Q)(hk:∀e∈Q,k<=e.1)
  (hf':f' x=k)(hf:∀y,y≠x->f' y=f y)
  (h1:∀e∈Q',e∈Q\/∃c,E e.2 x c/\e.1=k+c)(h2:∀e∈Q,e=(k,x)\/e∈Q')(h3:∀y c,E y x c->f' y<bW\/∃k',k'<=k+c/\(k',y)∈Q'):O7 S E f' Q':=by
 have hxw:=h.ways _ hin;have hkey:∀y,f y<bW->f' y=f y:=λy hy=>by grind
 constructor
 ·intro e hq;rcases h1 e hq with h4|⟨c,h4,h5⟩
  ·exact h.ways e h4
  ·rw[h5];exact .go h4 hxw
 ·intro y hy;by_cases e:y=x
  ·subst e;rw[hf'];refine⟨hxw,λd hd=>?_⟩;have:=h.least he hk hd;grind
  ·rw[hf y e]at hy⊢;exact h.Rq y hy
 ·intro y hy;by_cases e:y=x
  ·grind
  ·rw[hf y e]at hy⊢;exact h.none y hy
 ·intro y k' hs;rcases h.iQ y k' hs with h4|⟨k2,h4,h5⟩
  all_goals grind
 ·intro y n c e hn;by_cases en:n=x
  ·grind
  ·rw[hf n en]at hn⊢;rcases h.wR y n c e hn with h4|⟨k2,h4,h5⟩
   all_goals grind
 ·intro y hy e hq;have hyk:f' y<=k:=by
   by_cases ey:y=x
   ·grind
   ·rw[hf y ey]at hy⊢;exact h.mono y hy _ hin
  grind
def O7.done (h:O7 S E f [])(x:α):gL S E x=f x:=by
 refine ani (λy k hs=>?_) (λy n c e hn=>?_) (λhx=>(h.Rq x hx).1) (h.none x)
 ·rcases h.iQ y k hs with h1|⟨_,_,h1⟩
  ·exact⟨h1,(h.Rq y h1).2 _ (.src hs)⟩
  ·simp at h1
 ·rcases h.wR y n c e hn with h1|⟨_,_,h1⟩
  ·exact⟨h1,(h.Rq y h1).2 _ (.go e (h.Rq n hn).1)⟩
  ·simp at h1
structure LcI (S:α->Int->Prop) (E:α->α->Int->Prop) (cap:Int) (f:α->Int) (Q:List (Int×α)):Prop where
 ways:∀x,f x<cap->Wy S E x (f x)
 top:∀x,f x<=cap
 iQ:∀x k,S x k->f x<=k\/cap<=k
 wR:∀x n c,E x n c->f n<cap->(f n,n)∈Q\/f x<=f n+c\/cap<=f n+c
def LcI.low {cap:Int}(h:LcI S E cap f [])(he:∀x n c,E x n c->0<=c){x:α}{d:Int}(hw:Wy S E x d):d<cap->f x<=d:=by
 induction hw with
 |@src x k hs=>
  intro hd;rcases h.iQ x k hs with h1|h1
  all_goals omega
 |@go x n c d e hn ih=>
  intro hd;have hc:=he _ _ _ e;rcases h.wR x n c e (by omega)with h1|h1|h1
  all_goals grind
def LcI.done {cap:Int}(h:LcI S E cap f [])(hs:∀x k,S x k->0<=k)(he:∀x n c,E x n c->0<=c){x:α}(hB:∀d,Wy S E x d->gL S E x<cap)(hcap:cap<=bW):gL S E x=if f x<cap then f x else bW:=by
 by_cases hx:∃d,Wy S E x d
 ·obtain⟨d,hd⟩:=hx;have h1:=qO hs he hd;have h2:=hB d hd;have h3:=h.low he h1.1 h2;have h4:=h1.2 _ (h.ways x (by omega));omega
 ·rw[xI λd hd=>hx ⟨d,hd⟩,if_neg λh1=>hx ⟨_,h.ways x h1⟩]
def Rr (hs:∀x k,S x k->0<=k)(he:∀x n c,E x n c->0<=c){x:α}{d:Int}(h:Wy S E x d):S x (gL S E x)\/∃n c,E x n c/\gL S E x=gL S E n+c/\∃d,Wy S E n d:=by
 obtain⟨hw,hl⟩:=qO hs he h;generalize gL S E x=q at*;cases hw with
 |src h=>exact .inl h
 |@go _ n c d e hn=>
  refine .inr ⟨n,c,e,?_,d,hn⟩;have h2:=qO hs he hn;have h3:=hl _ (.go e h2.1);grind
def Rs {l:List α}{p q:α->Bool}{n:α}(hn:n∈l)(hq:q n=true)(hp:p n=false)(h:∀y,p y=true->q y=true):l.countP p+1<=l.countP q:=by
 induction l with
 |nil=>simp at hn
 |cons a l ih=>
  have mono:l.countP p<=l.countP q:=List.countP_mono_left λy _=>h y;grind
def anj {K:Int}(hs:∀x k,S x k->0<=k/\k<=K)(he:∀x n c,E x n c->1<=c/\c<=254)(l:List α)(hl:∀x d,Wy S E x d->x∈l):
  ∀(k:Nat) (x:α) (d:Int),Wy S E x d->gL S E x<=k->gL S E x<=K+254*((l.countP λy=>decide (gL S E y<gL S E x):Nat):Int):=by
 have hs0:∀x k,S x k->0<=k:=λx k h=>(hs x k h).1;have he0:∀x n c,E x n c->0<=c:=λx n c h=>by grind
 intro k;induction k with
 |zero=>
  intro x d hw hk;rcases Rr hs0 he0 hw with h1|⟨n,c,h1,h2,dn,hn⟩
  ·grind
  ·have hc:=he _ _ _ h1;have h0:=mK hs0 he0 (qO hs0 he0 hn).1;omega
 |succ k ih=>
  intro x d hw hk;rcases Rr hs0 he0 hw with h1|⟨n,c,h1,h2,dn,hn⟩
  ·grind
  ·have hc:=he _ _ _ h1;have ih:=ih n dn hn (by omega);have ay8:(l.countP λy=>decide (gL S E y<gL S E n))+1<=l.countP λy=>decide (gL S E y<gL S E x):=
    Rs (hl n dn hn) (by simp;omega) (by simp) λy hy=>by grind
   omega
def aaO {K:Int}(hs:∀x k,S x k->0<=k/\k<=K)(he:∀x n c,E x n c->1<=c/\c<=254)(l:List α)(hl:∀x d,Wy S E x d->x∈l){x:α}{d:Int}(hw:Wy S E x d):gL S E x<=K+254*((l.length:Int)-1):=by
 have hs0:∀x k,S x k->0<=k:=λx k h=>(hs x k h).1;have he0:∀x n c,E x n c->0<=c:=λx n c h=>by grind
 have h1:=anj hs he l hl (gL S E x).toNat x d hw (by omega);have h2:(l.countP λy=>decide (gL S E y<gL S E x))+1<=l.countP λ_=>true:=Rs (hl x d hw) rfl (by simp) λ_ _=>rfl;grind
end
section
variable {α:Type}{S:α->Int->Prop}{E:α->α->Int->Prop}{sec:α->Int}
def Wy.comp {E':α->α->Int->Prop}{x n:α}{c d:Int}(h:Wy (λy k=>y=n/\k=0) E' x c)(hE:∀x n c,E' x n c->E x n c)(hn:Wy S E n d):Wy S E x (d+c):=by
 induction h with
 |src h=>grind
 |go e _ ih=>rw[<-Int.add_assoc];exact .go (hE _ _ _ e) ih
def tN (E:α->α->Int->Prop)(sec:α->Int)(s:Int)(x n:α)(c:Int):Prop:=E x n c/\sec x=s/\sec n=s
def F4 (n:α)(y:α)(k:Int):Prop:=y=n/\k=0
def K0 (S:α->Int->Prop)(E:α->α->Int->Prop)(sec:α->Int)(N:α->Prop)(t:α)(x:α)(k:Int):Prop:=N x/\sec x=sec t/\(∃d,Wy S (tN E sec (sec t)) x d)/\k=gL S (tN E sec (sec t)) x
def Jn (E:α->α->Int->Prop)(sec:α->Int)(N:α->Prop)(x n:α)(c:Int):Prop:=
 N x/\N n/\(sec x=sec n/\x≠n/\(∃d,Wy (F4 n) (tN E sec (sec n)) x d)/\c=gL (F4 n) (tN E sec (sec n)) x\/sec x≠sec n/\E x n c)
def ahq (S:α->Int->Prop)(E:α->α->Int->Prop)(sec:α->Int)(s:Int)(R:α->Int->Prop)(x:α)(k:Int):Prop:=sec x=s/\(S x k\/∃n c d,E x n c/\sec n≠s/\R n d/\k=d+c)
variable {N:α->Prop}{t:α}
def asE {s:Int}:∀x n c,tN E sec s x n c->E x n c:=λ_ _ _ h=>h.1
def M_ (hS:∀x k,S x k->x=t/\k=0)(hE:∀x n c,E x n c->0<=c)(hN:∀x n c,E x n c->sec x≠sec n->N x/\N n){x:α}{d:Int}(h:Wy (K0 S E sec N t) (Jn E sec N) x d):Wy S E x d:=by
 have hs0:∀x k,S x k->0<=k:=λx k h=>by grind
 refine Wy.mono (λx k hs=>?_) (λx n c d he hn=>?_) h
 ·obtain⟨_,_,⟨e,he⟩,rfl⟩:=hs;exact Wy.mono (λx k h=>.src h) (λx n c d e h=>.go e.1 h) (qO hs0 (λx n c h=>hE x n c h.1) he).1
 ·obtain⟨_,_,⟨_,_,⟨e,hw⟩,rfl⟩|⟨_,he⟩⟩:=he
  ·have h1:=qO (λx k h=>by rw[h.2];grind) (λx n c h=>hE x n c h.1) hw;exact Wy.comp h1.1 asE hn
  ·exact .go he hn
def anl (hS:∀x k,S x k->x=t/\k=0)(hE:∀x n c,E x n c->0<=c)(hN:∀x n c,E x n c->sec x≠sec n->N x/\N n){R:α->Int->Prop}(hR:∀n d,R n d->Wy S E n d){s:Int}{x:α}{d:Int}(h:Wy (ahq S E sec s R) (tN E sec s) x d):Wy S E x d:=by
 refine Wy.mono (λx k hs=>?_) (λx n c d he hn=>.go he.1 hn) h;obtain⟨_,hs|⟨n,c,d,he,_,hr,rfl⟩⟩:=hs
 ·exact .src hs
 ·exact .go he (hR _ _ hr)
def akm (hS:∀x k,S x k->x=t/\k=0)(hE:∀x n c,E x n c->0<=c)(hN:∀x n c,E x n c->sec x≠sec n->N x/\N n){n:α}(hn:N n){d:Int}(h:Wy (ahq S E sec (sec n) (Wy (K0 S E sec N t) (Jn E sec N))) (tN E sec (sec n)) n d):∃e,e<=d/\Wy (K0 S E sec N t) (Jn E sec N) n e:=by
 have hs0:∀x k,S x k->0<=k:=λx k h=>by grind
 have key:∀{x:α} {d:Int},Wy (ahq S E sec (sec n) (Wy (K0 S E sec N t) (Jn E sec N))) (tN E sec (sec n)) x d->
   (∃k,Wy S (tN E sec (sec n)) x k/\sec t=sec n/\k<=d)\/∃y c z e k,Wy (F4 y) (tN E sec (sec n)) x k/\sec y=sec n/\E y z c/\sec z≠sec n/\Wy (K0 S E sec N t) (Jn E sec N) z e/\k+(e+c)<=d:=by
  intro x d hw;induction hw with
  |@src x k hs=>
   obtain⟨h1,h2|⟨z,c,e,h3,h4,h5,rfl⟩⟩:=hs
   ·exact .inl ⟨k,.src h2,by grind,Int.le_refl _⟩
   ·exact .inr ⟨x,c,z,e,0,.src ⟨rfl,rfl⟩,h1,h3,h4,h5,by omega⟩
  |@go x y c d e hy ih=>
   rcases ih with⟨k,h1,h2,h3⟩|⟨y',c',z,e',k,h1,h2,h3,h4,h5,h6⟩
   ·exact .inl ⟨k+c,.go e h1,h2,by omega⟩
   ·exact .inr ⟨y',c',z,e',k+c,.go e h1,h2,h3,h4,h5,by omega⟩
 rcases key h with⟨k,h1,h2,h3⟩|⟨y,c,z,e,k,h1,h2,h3,h4,h5,h6⟩
 ·rw[<-h2]at h1;have h4:=qO hs0 (λx n c h=>hE x n c h.1) h1;refine⟨_,?_,.src ⟨hn,h2.symm,⟨k,h1⟩,rfl⟩⟩;grind
 ·have hyz:=hN y z c h3 (by grind);by_cases e1:n=y
  ·subst e1;have F5:=mK (λx k h=>by rw[h.2];grind) (λx n c h=>hE x n c h.1) h1;exact⟨e+c,by omega,.go ⟨hn,hyz.2,.inr ⟨λe=>h4 e.symm,h3⟩⟩ h5⟩
  ·rw[<-h2]at h1;have h7:=qO (λx k h=>by rw[h.2];grind) (λx n c h=>hE x n c h.1) h1;have h8:=h7.2 _ h1;refine⟨(e+c)+gL (F4 y) (tN E sec (sec y)) n,by omega,.go ⟨hn,hyz.1,.inl ⟨h2.symm,e1,⟨k,h1⟩,rfl⟩⟩ (.go ⟨hyz.1,hyz.2,.inr ⟨by grind,h3⟩⟩ h5)⟩
def ahr (hS:∀x k,S x k->x=t/\k=0)(hE:∀x n c,E x n c->0<=c)(hN:∀x n c,E x n c->sec x≠sec n->N x/\N n){x:α}{d:Int}(h:Wy S E x d):∃e,e<=d/\Wy (ahq S E sec (sec x) (Wy (K0 S E sec N t) (Jn E sec N))) (tN E sec (sec x)) x e:=by
 induction h with
 |src h=>exact⟨_,Int.le_refl _,.src ⟨rfl,.inl h⟩⟩
 |@go x n c d e hn ih=>
  obtain⟨d',h1,h2⟩:=ih;by_cases hx:sec x=sec n
  ·rw[hx];exact⟨d'+c,by omega,.go ⟨e,hx,rfl⟩ h2⟩
  ·obtain⟨e',h3,h4⟩:=akm hS hE hN (hN _ _ _ e hx).2 h2;exact⟨e'+c,by omega,.src ⟨rfl,.inr ⟨n,c,e',e,λh=>hx h.symm,h4,rfl⟩⟩⟩
def ahs (hS:∀x k,S x k->x=t/\k=0)(hE:∀x n c,E x n c->0<=c)(hN:∀x n c,E x n c->sec x≠sec n->N x/\N n){x:α}(hx:N x){d:Int}(h:Wy S E x d):∃e,e<=d/\Wy (K0 S E sec N t) (Jn E sec N) x e:=by obtain⟨e,h1,h2⟩:=ahr hS hE hN h;obtain⟨e',h3,h4⟩:=akm hS hE hN hx h2;grind
end
def YT {α:Type}{S S':α->Int->Prop}{E E':α->α->Int->Prop}{x:α}(h0:∀d,Wy S E x d->0<=d)(h1:∀d,Wy S E x d->∃e,e<=d/\Wy S' E' x e)(h2:∀d,Wy S' E' x d->Wy S E x d):gL S' E' x=gL S E x:=by
 by_cases hx:∃d,Wy S E x d
 ·obtain⟨d,hd⟩:=hx;obtain⟨e,he1,he2⟩:=UZ h0 d.toNat d (by omega) hd;obtain⟨e',h3,h4⟩:=h1 e he1;have h5:=he2 _ (h2 _ h4);obtain rfl:e'=e:=by omega
  rw[KZ h4 λd hd=>he2 _ (h2 _ hd),KZ he1 he2]
 ·rw[xI λd hd=>hx ⟨d,hd⟩,xI λd hd=>hx ⟨d,h2 d hd⟩]
def asF {α:Type}{S S':α->Int->Prop}{E:α->α->Int->Prop}{x:α}(h0:∀x k,S x k->0<=k)(hE:∀x n c,E x n c->0<=c)(h1:∀x k,S x k->∃k',k'<=k/\S' x k')(h2:∀x k,S' x k->S x k):gL S' E x=gL S E x:=by
 refine YT (λd hd=>mK h0 hE hd) (λd hd=>?_) λd hd=>Wy.mono (λx k h=>.src (h2 x k h)) (λx n c d e h=>.go e h) hd;induction hd with
 |src h=>
  obtain⟨k',h3,h4⟩:=h1 _ _ h;exact⟨k',h3,.src h4⟩
 |@go x n c d e _ ih=>
  obtain⟨e',h3,h4⟩:=ih;exact⟨e'+c,by omega,.go e h4⟩
end Go.Proofs.YtmegplnmiepfbaaGreatDoor.S
namespace Go.Sx
abbrev OA:=Option Addr
abbrev ON:=Option Nat
abbrev WP:=World->Prop
abbrev L3 (R:Type):=Option Addr->Nat->Nat->R
inductive Kd where
 |i (k:IntKind)|b|s|p|a|l|m|v|w|f (g:Nat)|g (ks:List IntKind)
def KG:List IntKind->Type->Type
 |[],R=>R
 |_::ks,R=>Int->KG ks R
def KA:Kd->Type->Type
 |.i _,R=>Int->R
 |.b,R=>Bool->R
 |.s,R=>ByteArray->R
 |.p,R=>Option Addr->R
 |.a,R=>Addr->R
 |.l,R=>Option Addr->Nat->Nat->R
 |.m,R=>Option Nat->R
 |.v,R=>Value->R
 |.w,R=>Value->R
 |.f _,R=>R
 |.g ks,R=>KG ks R
def KF:List (Nat×Kd)->Type->Type
 |[],R=>R
 |q::l,R=>KA q.2 (KF l R)
abbrev KP (l:List (Nat×Kd)):Type:=KF l (World->Prop)
def rdG {R:Type}:(ks:List IntKind)->KG ks R->List Value->(R->Prop)->Prop
 |[],K,l,c=>kL l (c K)
 |k::ks,K,l,c=>dK l λv r=>dI k v λx=>rdG ks (K x) r c
def rdA {R:Type}(v:Value):(k:Kd)->KA k R->(R->Prop)->Prop
 |.i k,K,c=>dI k v λx=>c (K x)
 |.b,K,c=>dB v λx=>c (K x)
 |.s,K,c=>YD v λx=>c (K x)
 |.p,K,c=>dP v λx=>c (K x)
 |.a,K,c=>dP v λx=>wA x λx=>c (K x)
 |.l,K,c=>dS v λa n d=>c (K a n d)
 |.m,K,c=>dM v λx=>c (K x)
 |.v,K,c=>c (K v)
 |.w,K,c=>dV v λx=>c (K x)
 |.f g,K,c=>dF g v (c K)
 |.g ks,K,c=>dL v λl=>rdG ks K l c
inductive Ke where|o (k:Kd)|g (ks:List Kd)
def KS:List Kd->Type->Type
 |[],R=>R
 |k::ks,R=>KA k (KS ks R)
def KE:Ke->Type->Type
 |.o k,R=>KA k R
 |.g ks,R=>KS ks R
def KL:List Ke->Type->Type
 |[],R=>R
 |k::ks,R=>KE k (KL ks R)
def rdS {R:Type}:(ks:List Kd)->KS ks R->List Value->(R->Prop)->Prop
 |[],K,l,c=>kL l (c K)
 |k::ks,K,l,c=>dK l λv r=>rdA v k K λK'=>rdS ks K' r c
def rdE {R:Type}(v:Value):(k:Ke)->KE k R->(R->Prop)->Prop
 |.o k,K,c=>rdA v k K c
 |.g ks,K,c=>dL v λl=>rdS ks K l c
def rdL {R:Type}:(ks:List Ke)->KL ks R->List Value->(R->Prop)->Prop
 |[],K,l,c=>kL l (c K)
 |k::ks,K,l,c=>dK l λv r=>rdE v k K λK'=>rdL ks K' r c
def bE (k:Ke)(Q:KE k WP)(v:Value)(w:World):Prop:=rdE v k Q λK=>K w
def gh (ks:List Ke)(Q:KL ks WP)(v:Value)(w:World):Prop:=dT v λl=>rdL ks Q l λK=>K w
def rdK:(l:List (Nat×Kd))->KP l->Env->World->Prop
 |[],K,_,w=>K w
 |q::l,K,ρ,w=>rdA (ρ q.1) q.2 K λK'=>rdK l K' ρ w
def apU {R:Type}:(ks:List IntKind)->List Value->(List Value->R)->KG ks R
 |[],p,c=>c p
 |k::ks,p,c=>λx=>apU ks (p++[.int k x]) c
def atZ {R:Type}:(k:Kd)->(Value->R)->KA k R
 |.i k,c=>λx=>c (.int k x)
 |.b,c=>λx=>c (.bool x)
 |.s,c=>λx=>c (.string x)
 |.p,c=>λx=>c (.pointer x)
 |.a,c=>λx=>c (.pointer (some x))
 |.l,c=>λa n d=>c (.slice a n d)
 |.m,c=>λx=>c (.map x)
 |.v,c=>λx=>c x
 |.w,c=>λx=>c x
 |.f g,c=>c (.func (.func g) #[] #[])
 |.g ks,c=>apU ks [] λl=>c (.agg l.toArray)
def alk:(l:List (Nat×Kd))->Env->(Env->World->Prop)->KP l
 |[],ρ,E=>E ρ
 |q::l,ρ,E=>atZ q.2 λv=>alk l (put ρ (some q.1) v) E
def akn {R:Type}{c:R->Prop}{f:List Value->R}:∀{ks:List IntKind} {p l:List Value},rdG ks (apU ks p f) l c->c (f (p++l))
 |[],p,l,h=>by obtain⟨rfl,h⟩:=rE h;rw[List.append_nil];exact h
 |k::ks,p,l,h=>by obtain⟨v,r,rfl,h⟩:=jE h;obtain⟨x,rfl,h'⟩:=CA h;have:=akn h';simpa using this
def asH {R:Type}{c:R->Prop}{f:Value->R}{v:Value}:∀{k:Kd},rdA v k (atZ k f) c->c (f v)
 |.i k,h=>by obtain⟨x,rfl,h'⟩:=CA h;exact h'
 |.b,h=>by obtain⟨x,rfl,h⟩:=Ht h;exact h
 |.s,h=>by obtain⟨x,rfl,h⟩:=IF h;exact h
 |.p,h=>by obtain⟨x,rfl,h⟩:=Hu h;exact h
 |.a,h=>by obtain⟨x,rfl,h⟩:=Hu h;obtain⟨y,rfl,h⟩:=uM h;exact h
 |.l,h=>by obtain⟨a,n,d,rfl,h⟩:=yA h;exact h
 |.m,h=>by obtain⟨x,rfl,h⟩:=Hv h;exact h
 |.v,h=>h
 |.w,h=>(acK (v:=v) (K:=λx=>c (f x)) h).2
 |.f g,h=>by obtain⟨rfl,h'⟩:=asx h;exact h'
 |.g ks,h=>by obtain⟨l,rfl,h'⟩:=aj8 (K:=λl=>rdG ks _ l c) h;exact akn (p:=[]) h'
def acV {w:World}{E:Env->World->Prop}{ρ:Env}:∀{l:List (Nat×Kd)},rdK l (alk l ρ E) ρ w->E ρ w
 |[],h=>h
 |q::l,h=>by have h:=asH h;rw[atN rfl]at h;exact acV h
def aht (C:Cx)(fn:Func)(K:Value->World->Prop):Env->World->Prop:=λρ w=>M4 C fn.results.toList ρ w λvs=>K (ag5 vs) w
structure U0 (C:Cx) (fn:Func) (R:Env->World->Prop) where
 j:Nat
 q:Env->World->Prop
 h:∀ρ w,q ρ w->Fin C (BI fn j) ρ w R
section
variable {C:Cx}{fn:Func}{R:Env->World->Prop}{l:List (Nat×Kd)}{j:Nat}
def sY:List (U0 C fn R)->YF
 |[]=>[]
 |c::cs=>(c.j,c.q)::sY cs
def ahu:∀cs:List (U0 C fn R),apK C fn R (sY cs)
 |[]=>trivial
 |c::cs=>⟨c.h,ahu cs⟩
abbrev YU (C:Cx)(fn:Func)(R:Env->World->Prop)(j:Nat)(l:List (Nat×Kd))(B:KP l):Prop:=∀ρ w,rdK l B ρ w->Fin C (BI fn j) ρ w R
def aM {B:KP l}(h:YU C fn R j l B):U0 C fn R:=⟨j,rdK l B,h⟩
def cu {B:Nat->KP l}(h:∀k,YU C fn R j l (B k)):U0 C fn R:=⟨j,λρ w=>∃k,rdK l (B k) ρ w,λρ w ⟨k,h'⟩=>h k ρ w h'⟩
def ann {cs:List (U0 C fn R)}{todo:List Item}(h:leaves ((sY cs).map (·.1)) 600 true todo=(leaves ((sY cs).map (·.1)) 600 true todo).map λp=>(p.1,BI fn p.1)):∀p∈leaves ((sY cs).map (·.1)) 600 true todo,∀q,cutAt (sY cs) p.1=some q->∀ρ w,q ρ w->Fin C p.2 ρ w R:=
 asv ((leaves ((sY cs).map (·.1)) 600 true todo).map (·.1)) (by rw[List.map_map];exact h) (ahu cs)
def aT (hC:mJ C)(S:cv)(cs:List (U0 C fn R)){B:KP l}(hl:leaves ((sY cs).map (·.1)) 600 true (BI fn j)=(leaves ((sY cs).map (·.1)) 600 true (BI fn j)).map λp=>(p.1,BI fn p.1):=by kernel_rfl)(hb:∀ρ,B=alk l ρ (G7 C (sY cs) R (aaF C S) 600 true (BI fn j)):=by intro _;kernel_rfl):YU C fn R j l B:=λρ w h=>by rw[hb ρ]at h;exact aeD hC (X_ hC S) 600 (ann hl) (acV h)
def bM {B:Nat->KP l}(hs:∀k,YU C fn R j l (B k)->YU C fn R j l (B (k+1)))(h0:∀ρ,B 0=alk l ρ λ_ _=>False:=by intro _;kernel_rfl):∀k,YU C fn R j l (B k)
 |0=>λρ w h=>by rw[h0 ρ]at h;exact(acV h).elim
 |k+1=>hs k (bM hs h0 k)
def avP (hC:mJ C)(S:cv){f:FuncId}{args:List Value}{w:World}{K:Value->World->Prop}{sh:Prop}(cs:List (U0 C fn (aht C fn K)))(hf:C.P.funcs[f]? =some fn)(h:sh)
  (hn:(fn.body.isSome&&(Nat.beq fn.ntmps C.n&&Nat.ble args.length C.n))=true:=by kernel_rfl)(hl:leaves ((sY cs).map (·.1)) 600 true (FX fn)=(leaves ((sY cs).map (·.1)) 600 true (FX fn)).map λp=>(p.1,BI fn p.1):=by kernel_rfl)(he:sh=G7 C (sY cs) (aht C fn K) (aaF C S) 600 true (FX fn) (OS args) w:=by kernel_rfl):aq C.P f args.toArray w K:=by
 simp only[Bool.and_eq_true]at hn;rw[he]at h;exact asu hC hf hn.1 hn.2.1 hn.2.2 (aeD hC (X_ hC S) 600 (ann hl) h)
def bB (c sh:Prop)(hC:mJ C)(S:cv){f:FuncId}{args:List Value}{w:World}{K:Value->World->Prop}(cs:List (U0 C fn (aht C fn K)))(hf:C.P.funcs[f]? =some fn)(hc:aq C.P f args.toArray w K=c:=by rfl)
 (hn:(fn.body.isSome&&(Nat.beq fn.ntmps C.n&&Nat.ble args.length C.n))=true:=by kernel_rfl)(hl:leaves ((sY cs).map (·.1)) 600 true (FX fn)=(leaves ((sY cs).map (·.1)) 600 true (FX fn)).map λp=>(p.1,BI fn p.1):=by kernel_rfl)(he:sh=G7 C (sY cs) (aht C fn K) (aaF C S) 600 true (FX fn) (OS args) w:=by kernel_rfl):sh->c:=λh=>hc▸avP hC S cs hf h hn hl he
end
def sp:Nat->Nat->JU->JU
 |_,0,x=>x
 |a,n+1,x=>.op a (sp (a+1) n x)
abbrev ae (x:Int):Value:=.int .i64 x
abbrev aZ (b:Nat):Addr:=⟨b,0,none⟩
abbrev sZ (b:Nat):Option Addr:=some ⟨b,0,none⟩
end Go.Sx
