/- Part 1 of the proof. -/
import Derived.WalkKit
import Derived.Deep.Quiet
import Derived.KernelRfl
import Derived.Below
import Derived.Laws.AppendOwn
import Derived.OpenShut
import Derived.ProofKit
import Derived.ShutString
import Derived.ChangeOld
import Derived.SizedLaws
import Derived.Laws.StructEq
import Derived.ChangeKeysEq
import Derived.Laws.BytesArg
import Derived.ChangeSlices
import Derived.Laws.MakeOwn
import Derived.Maps.Keyed
import Derived.Carry
import Derived.WideKeyPair
import Derived.Test.YtmegplnmiepfbaaGreatDoorProg
set_option linter.unusedVariables false
set_option linter.unusedSimpArgs false
set_option linter.defProp false
namespace Go.Sx
abbrev Env:=Nat->Value
def put (ρ:Env)(d:Option Nat)(v:Value):Env:=
 match d with
 |some t=>λs=>cond (Nat.beq s t) v (ρ s)
 |none=>ρ
def ev (ρ:Env):Operand->Value
 |.tmp t=>ρ t
 |.const v=>v
 |.global g=>.pointer (some ⟨g,0,none⟩)
 |.func f=>.func (.func f) #[] #[]
def nth:List Value->Nat->Value
 |[],_=>undef
 |v::_,0=>v
 |_::l,i+1=>nth l i
def Nl (l:List Value):Env:=λt=>nth l t
inductive Lf where
 |int (k:IntKind)|bool|str|ptr|sl|map|any
inductive TD where
 |int (k:IntKind)|bool|str|ptr|map|iface|func|other
 |slice (e:TypeId)
 |arr (n:Nat) (e:TypeId)
 |struct (fs:List (Nat×TypeId))
 |t_ (ts:List TypeId)
structure TI where
 d:TD
 size:Nat
 bytes:Nat
 zero:List Value
 lf:List Lf
abbrev tR:=TypeId->Option TI
def YZ:List (Nat×TI)->tR
 |[],_=>none
 |p::l,t=>cond (Nat.beq t p.1) (some p.2) (YZ l t)
def nD:TypeDesc->TD
 |.int k=>.int k
 |.bool=>.bool
 |.string=>.str
 |.pointer _=>.ptr
 |.map _ _=>.map
 |.interface _=>.iface
 |.func _ _ _=>.func
 |.slice e=>.slice e
 |.array n e=>.arr n e
 |.struct fs=>.struct (fs.toList.map λf=>(f.offset,f.type))
 |.tuple ts=>.t_ ts.toList
 |_=>.other
def S9 (P:Program)(t:TypeId):Option (TD×Nat×Nat×List Value):=
 match P.info? t,P.underlying t with
 |some i,some u=>match i.zero with
  |some z=>some (nD u,i.size,i.bytes,z.cells.toList)
  |none=>none
 |_,_=>none
def vO (P:Program)(T:tR):Prop:=∀t i,T t=some i->S9 P t=some (i.d,i.size,i.bytes,i.zero)
def Dy (P:Program)(l:List (Nat×TI))(h:l.map (λp=>S9 P p.1)=l.map (λp=>some (p.2.d,p.2.size,p.2.bytes,p.2.zero))):vO P (YZ l):=by
 induction l with
 |nil=>intro t i h;cases h
 |cons p l ih=>
  simp only[List.map_cons,List.cons.injEq]at h;intro t i ht;simp only[YZ]at ht;cases hb:Nat.beq t p.1 with
  |true=>
   simp_all
  |false=>
   rw[hb]at ht;exact ih h.2 t i ht
def TI.agg (i:TI):Bool:=match i.d with|.arr _ _=>true|.struct _=>true|_=>false
def zc (T:tR)(t:TypeId):List Value:=match T t with|some i=>i.zero|none=>[]
def Hh:IntKind->Nat
 |.i8=>0|.i16=>1|.i32=>2|.i64=>3|.u8=>4|.u16=>5|.u32=>6|.u64=>7
def dI (k:IntKind)(v:Value)(K:Int->Prop):Prop:=match v with|.int k' n=>cond (Nat.beq (Hh k') (Hh k)) (K n) False|_=>False
def dB (v:Value)(K:Bool->Prop):Prop:=match v with|.bool b=>K b|_=>False
def Xc (v:Value)(K:ByteArray->Prop):Prop:=match v with|.string b=>K b|_=>False
def dP (v:Value)(K:Option Addr->Prop):Prop:=match v with|.pointer p=>K p|_=>False
def dS (v:Value)(K:Option Addr->Nat->Nat->Prop):Prop:=match v with|.slice a n c=>K a n c|_=>False
def dM (v:Value)(K:Option Nat->Prop):Prop:=match v with|.map r=>K r|_=>False
def dL (v:Value)(K:List Value->Prop):Prop:=match v with|.agg cs=>K cs.toList|_=>False
def dT (v:Value)(K:List Value->Prop):Prop:=match v with|.tuple cs=>K cs.toList|_=>False
def dg (l:List Value)(K:Value->List Value->Prop):Prop:=match l with|v::r=>K v r|[]=>False
def ko (l:List Value)(K:Prop):Prop:=match l with|[]=>K|_::_=>False
def Value.plain:Value->Bool|.agg _=>false|.tuple _=>false|_=>true
def dV (v:Value)(K:Value->Prop):Prop:=cond (Value.plain v) (K v) False
def WE (l:Lf)(v:Value)(K:Value->Prop):Prop:=match l with
 |.int k=>dI k v λn=>K (.int k n)
 |.bool=>dB v λb=>K (.bool b)
 |.str=>Xc v λs=>K (.string s)
 |.ptr=>dP v λp=>K (.pointer p)
 |.sl=>dS v λa n c=>K (.slice a n c)
 |.map=>dM v λr=>K (.map r)
 |.any=>dV v K
def anj:List Lf->List Value->(List Value->Prop)->Prop
 |[],l,K=>ko l (K [])
 |f::fs,l,K=>dg l λv r=>WE f v λv'=>anj fs r λvs=>K (v'::vs)
def d1 (T:tR)(t:TypeId)(v:Value)(K:Value->Prop):Prop:=match T t with
 |some i=>match i.agg with
  |true=>dL v λl=>anj i.lf l λvs=>K (.agg vs.toArray)
  |false=>match i.lf with
   |f::_=>WE f v K
   |[]=>False
 |none=>False
def dTs (T:tR):List TypeId->List Value->(List Value->Prop)->Prop
 |[],l,K=>ko l (K [])
 |t::ts,l,K=>dg l λv r=>d1 T t v λv'=>dTs T ts r λvs=>K (v'::vs)
def dR (T:tR)(t:TypeId)(v:Value)(K:Value->Prop):Prop:=match T t with
 |some i=>match i.d with
  |.t_ ts=>dT v λl=>dTs T ts l λvs=>K (.tuple vs.toArray)
  |_=>d1 T t v K
 |none=>False
def BO {k:IntKind}{v:Value}{K:Int->Prop}(h:dI k v K):∃n,v=.int k n/\K n:=by
 cases v with
 |int k' n=>
  simp only[dI]at h;cases hb:Nat.beq (Hh k') (Hh k)with
  |true=>
   have:k'=k:=by cases k'<;>cases k<;>first|rfl|(exact absurd hb (by decide))
   grind
  |false=>grind
 |_=>exact h.elim
def Gf {v:Value}{K:Bool->Prop}(h:dB v K):∃b,v=.bool b/\K b:=by cases v<;>first|exact⟨_,rfl,h⟩|exact h.elim
def Hi {v:Value}{K:ByteArray->Prop}(h:Xc v K):∃b,v=.string b/\K b:=by cases v<;>first|exact⟨_,rfl,h⟩|exact h.elim
def Gg {v:Value}{K:Option Addr->Prop}(h:dP v K):∃b,v=.pointer b/\K b:=by cases v<;>first|exact⟨_,rfl,h⟩|exact h.elim
def xM {v:Value}{K:Option Addr->Nat->Nat->Prop}(h:dS v K):∃a n c,v=.slice a n c/\K a n c:=by cases v<;>first|exact⟨_,_,_,rfl,h⟩|exact h.elim
def Gh {v:Value}{K:Option Nat->Prop}(h:dM v K):∃b,v=.map b/\K b:=by cases v<;>first|exact⟨_,rfl,h⟩|exact h.elim
def aib {v:Value}{K:List Value->Prop}(h:dL v K):∃l,v=.agg l.toArray/\K l:=by cases v<;>first|exact⟨_,rfl,h⟩|exact h.elim
def aaZ {v:Value}{K:List Value->Prop}(h:dT v K):∃l,v=.tuple l.toArray/\K l:=by cases v<;>first|exact⟨_,rfl,h⟩|exact h.elim
def jq {l:List Value}{K:Value->List Value->Prop}(h:dg l K):∃v r,l=v::r/\K v r:=by cases l<;>first|exact⟨_,_,rfl,h⟩|exact h.elim
def qP {l:List Value}{K:Prop}(h:ko l K):l=[]/\K:=by cases l<;>first|exact⟨rfl,h⟩|exact h.elim
def aa0 {v:Value}{K:Value->Prop}(h:dV v K):Value.plain v=true/\K v:=by unfold dV at h;grind
def Px {f:Lf}{v:Value}{K:Value->Prop}(h:WE f v K):Value.plain v=true/\K v:=by
 cases f with
 |int k=>obtain⟨n,rfl,h'⟩:=BO h;exact⟨rfl,h'⟩
 |bool=>obtain⟨n,rfl,h'⟩:=Gf h;exact⟨rfl,h'⟩
 |str=>obtain⟨n,rfl,h'⟩:=Hi h;exact⟨rfl,h'⟩
 |ptr=>obtain⟨n,rfl,h'⟩:=Gg h;exact⟨rfl,h'⟩
 |sl=>obtain⟨a,n,c,rfl,h'⟩:=xM h;exact⟨rfl,h'⟩
 |map=>obtain⟨n,rfl,h'⟩:=Gh h;exact⟨rfl,h'⟩
 |any=>exact aa0 h
def acO:∀{fs:List Lf} {l:List Value} {K:List Value->Prop},anj fs l K->K l
 |[],l,K,h=>by obtain⟨rfl,h'⟩:=qP h;exact h'
 |f::fs,l,K,h=>by obtain⟨v,r,rfl,h'⟩:=jq h;exact acO (K:=λvs=>K (v::vs)) (Px h').2
def Jn {T:tR}{t:TypeId}{v:Value}{K:Value->Prop}(h:d1 T t v K):K v:=by
 unfold d1 at h;split at h
 ·split at h
  ·obtain⟨l,rfl,h'⟩:=aib h;exact acO h'
  ·split at h
   ·exact(Px h).2
   grind
 grind
def ae2 {T:tR}:∀{ts:List TypeId} {l:List Value} {K:List Value->Prop},dTs T ts l K->K l
 |[],l,K,h=>by obtain⟨rfl,h'⟩:=qP h;exact h'
 |t::ts,l,K,h=>by obtain⟨v,r,rfl,h'⟩:=jq h;exact ae2 (K:=λvs=>K (v::vs)) (Jn h')
def Gi {T:tR}{t:TypeId}{v:Value}{K:Value->Prop}(h:dR T t v K):K v:=by
 unfold dR at h;split at h
 ·split at h
  ·obtain⟨l,rfl,h'⟩:=aaZ h;exact ae2 h'
  ·exact Jn h
 grind
def af (k:IntKind)(a:Addr)(w:World)(K:Int->Prop):Prop:=∃n,w.cell? a=some (.int k n)/\K n
def cq (a:Addr)(w:World)(K:Bool->Prop):Prop:=∃b,w.cell? a=some (.bool b)/\K b
def bq (a:Addr)(w:World)(K:ByteArray->Prop):Prop:=∃b,w.cell? a=some (.string b)/\K b
def bf (a:Addr)(w:World)(K:Option Addr->Prop):Prop:=∃b,w.cell? a=some (.pointer b)/\K b
def aB (a:Addr)(w:World)(K:Option Addr->Nat->Nat->Prop):Prop:=∃b n c,w.cell? a=some (.slice b n c)/\K b n c
def bY (a:Addr)(w:World)(K:Option Nat->Prop):Prop:=∃b,w.cell? a=some (.map b)/\K b
def bT (a:Addr)(w:World)(K:Value->Prop):Prop:=∃v,w.cell? a=some v/\Value.plain v=true/\K v
def ld1 (l:Lf)(a:Addr)(w:World)(K:Value->Prop):Prop:=match l with
 |.int k=>af k a w λn=>K (.int k n)
 |.bool=>cq a w λb=>K (.bool b)
 |.str=>bq a w λs=>K (.string s)
 |.ptr=>bf a w λp=>K (.pointer p)
 |.sl=>aB a w λb n c=>K (.slice b n c)
 |.map=>bY a w λr=>K (.map r)
 |.any=>bT a w K
def Nm:List Lf->Addr->Nat->World->(List Value->Prop)->Prop
 |[],_,_,_,K=>K []
 |l::r,a,i,w,K=>ld1 l (a.add i) w λv=>Nm r a (i+1) w λvs=>K (v::vs)
def ldT (T:tR)(t:TypeId)(a:Addr)(w:World)(K:Value->Prop):Prop:=match T t with
 |some i=>match i.agg with
  |true=>cond (Nat.beq i.lf.length i.size) (Nm i.lf a 0 w λvs=>K (.agg vs.toArray)) False
  |false=>match i.lf with
   |f::_=>ld1 f a w K
   |[]=>False
 |none=>False
def St (a:Addr)(v:Value)(w:World)(K:World->Prop):Prop:=(∃u,w.cell? a=some u)/\w.frozen? a=false/\K (w.setCell a v)
def Nn:List Value->Addr->Nat->World->(World->Prop)->Prop
 |[],_,_,w,K=>K w
 |v::r,a,i,w,K=>cond (Value.plain v) (St (a.add i) v w λw'=>Nn r a (i+1) w' K) False
def stT (T:tR)(t:TypeId)(a:Addr)(v:Value)(w:World)(K:World->Prop):Prop:=match T t with
 |some i=>match i.agg with
  |true=>match v with
   |.agg cs=>cond (Nat.beq cs.toList.length i.size) (Nn cs.toList a 0 w K) False
   |_=>False
  |false=>cond (Nat.beq 1 i.size) (cond (Value.plain v) (St a v w K) False) False
 |none=>False
def wA (p:Option Addr)(K:Addr->Prop):Prop:=match p with|some a=>K a|none=>False
def aH (i:Int)(n:Nat)(K:Prop):Prop:=0<=i/\i<(n:Int)/\K
def NZ (b:Int)(K:Prop):Prop:=b≠0/\K
def bP (A:Option Addr)(n c size:Nat)(lo hi:Option Int)(K:Option Addr->Nat->Nat->Prop):Prop:=
 (∀h,hi=some h->0<=h/\h<=(c:Int))/\(∀l,lo=some l->0<=l/\l<=(((hi.map Int.toNat).getD n:Nat):Int))/\
  K (if c=(lo.map Int.toNat).getD 0 then A else A.map (·.add ((lo.map Int.toNat).getD 0*size))) ((hi.map Int.toNat).getD n-(lo.map Int.toNat).getD 0) (c-(lo.map Int.toNat).getD 0)
def aK (P:Program)(s:Sem Value)(w:World)(K:Value->World->Prop):Prop:=match s.run P w with
 |.ok v w'=>K v w'
 |.halt _ _=>False
def bw (P:Program)(s:Sem Unit)(w:World)(K:World->Prop):Prop:=match s.run P w with
 |.ok _ w'=>K w'
 |.halt _ _=>False
def aq (P:Program)(f:FuncId)(args:Array Value)(w:World)(K:Value->World->Prop):Prop:=
 Calls P f args w λe w'=>match e with|.returned v=>K v w'|_=>False
def AU (k:IntKind)(a b:Int):Int:=k.wrap (BitVec.ofInt k.bits a&&&BitVec.ofInt k.bits b).toNat
def ior (k:IntKind)(a b:Int):Int:=k.wrap (BitVec.ofInt k.bits a|||BitVec.ofInt k.bits b).toNat
def ae3 (k:IntKind)(a b:Int):Int:=k.wrap (BitVec.ofInt k.bits a^^^BitVec.ofInt k.bits b).toNat
def AV (k:IntKind)(a b:Int):Int:=k.wrap (a*2^(min b.toNat k.bits))
def oG (k:IntKind)(a b:Int):Int:=a.fdiv (2^(min b.toNat k.bits))
def CY (b:Int)(K:Prop):Prop:=0<=b/\K
def arith (op:BinOp)(k:IntKind)(a b:Int)(K:Value->Prop):Prop:=match op with
 |.add=>K (.int k (k.wrap (a+b)))
 |.sub=>K (.int k (k.wrap (a-b)))
 |.mul=>K (.int k (k.wrap (a*b)))
 |.quo=>NZ b (K (.int k (k.wrap (a.tdiv b))))
 |.rem=>NZ b (K (.int k (a.tmod b)))
 |.and=>K (.int k (AU k a b))
 |.or=>K (.int k (ior k a b))
 |.xor=>K (.int k (ae3 k a b))
 |.eql=>K (.bool (a==b))
 |.neq=>K (.bool (a !=b))
 |.lss=>K (.bool (decide (a<b)))
 |.leq=>K (.bool (decide (a<=b)))
 |.gtr=>K (.bool (decide (a>b)))
 |.geq=>K (.bool (decide (a≥b)))
 |_=>False
def CZ (d:TD):Operand->Bool
 |.const v=>match d with
  |.ptr=>match v with|.pointer p=>p.isNone|_=>false
  |.slice _=>match v with|.slice p n c=>p.isNone&&Nat.beq n 0&&Nat.beq c 0|_=>false
  |.map=>match v with|.map p=>p.isNone|_=>false
  |.iface=>match v with|.nilIface=>true|_=>false
  |.func=>match v with|.nilFunc=>true|_=>false
  |_=>false
 |_=>false
def AW (v:Value)(K:Bool->Prop):Prop:=match v with|.nilIface=>K true|.iface _ _=>K false|_=>False
def dFn (v:Value)(K:Bool->Prop):Prop:=match v with|.nilFunc=>K true|.func _ _ _=>K false|_=>False
def Py (d:TD)(v:Value)(K:Bool->Prop):Prop:=match d with
 |.ptr=>dP v λp=>K p.isNone
 |.slice _=>dS v λp _ _=>K p.isNone
 |.map=>dM v λp=>K p.isNone
 |.iface=>AW v K
 |.func=>dFn v K
 |_=>False
def Rr (op:BinOp)(r:Bool)(K:Bool->Prop):Prop:=match op with
 |.eql=>K r
 |.neq=>K (!r)
 |_=>False
def ai_ (P:Program)(d:TD)(op:BinOp)(t:TypeId)(x y:Operand)(a b:Value)(w:World)(K:Value->World->Prop):Prop:=
 match d with
 |.int _=>match a with
  |.int k a=>match b with
   |.int k' b=>match op with
    |.shl=>CY b (K (.int k (AV k a b)) w)
    |.shr=>CY b (K (.int k (oG k a b)) w)
    |_=>cond (Nat.beq (Hh k) (Hh k')) (arith op k a b λv=>K v w) False
   |_=>False
  |_=>False
 |.str=>match a with
  |.string a=>match b with
   |.string b=>match op with
    |.eql=>K (.bool (a.toList==b.toList)) w
    |.neq=>K (.bool (!(a.toList==b.toList))) w
    |_=>False
   |_=>False
  |_=>False
 |.bool=>match a with
  |.bool a=>match b with
   |.bool b=>Rr op (a==b) λr=>K (.bool r) w
   |_=>False
  |_=>False
 |d=>match CZ d y with
  |true=>Py d a λr=>Rr op r λr=>K (.bool r) w
  |false=>match CZ d x with
   |true=>Py d b λr=>Rr op r λr=>K (.bool r) w
   |false=>aK P (do eqGuard op t x y a b;binOp op t a b) w λv w'=>dB v λr=>K (.bool r) w'
def Pz:List (Nat×TypeId)->Nat->Option (Nat×TypeId)
 |[],_=>none
 |x::_,0=>some x
 |_::l,i+1=>Pz l i
def S_:List Value->Nat->Option Value
 |[],_=>none
 |v::_,0=>some v
 |_::l,i+1=>S_ l i
def PA (T:tR)(t:TypeId)(cs:Array Value)(off:Nat)(K:Value->Prop):Prop:=match T t with
 |some i=>match i.agg with
  |true=>K (.agg (cs.extract off (off+i.size)))
  |false=>match S_ cs.toList off with
   |some v=>K v
   |none=>False
 |none=>False
def Np (T:tR):List (Nat×TypeId)->Option (List (Nat×Nat))
 |[]=>some []
 |p::l=>match T p.2 with
  |some q=>match Np T l with
   |some r=>some ((p.1,q.size)::r)
   |none=>none
  |none=>none
def Xd:List (Nat×Nat)->Nat->Option (Nat×Nat)
 |[],_=>none
 |x::_,0=>some x
 |_::l,i+1=>Xd l i
def place (T:tR)(t:TypeId):Option (Nat->Option (Nat×Nat)):=match T t with
 |some i=>match i.d with
  |.struct fs=>match Np T fs with
   |some l=>some (Xd l)
   |none=>none
  |.arr _ e=>match T e with
   |some q=>some λj=>some (j*q.size,q.size)
   |none=>none
  |_=>none
 |none=>none
def qo:List Value->Nat->List Value->List Value
 |[],_,_=>[]
 |c::cs,0,[]=>c::cs
 |_::cs,0,v::vs=>v::qo cs 0 vs
 |c::cs,n+1,vs=>c::qo cs n vs
def IS (place:Nat->Option (Nat×Nat)):List Value->List (Nat×Value)->Option (List Value)
 |cells,[]=>some cells
 |cells,(i,v)::r=>match place i with
  |none=>none
  |some p=>cond (Nat.beq v.cells.toList.length p.2) (cond (Nat.ble (p.1+v.cells.toList.length) cells.length) (IS place (qo cells p.1 v.cells.toList) r) none) none
def isAny (T:tR)(t:TypeId):Bool:=match T t with
 |some i=>match i.d with|.iface=>true|.func=>true|_=>false
 |none=>false
def arn (T:tR):List (Nat×TypeId)->Nat->Bool
 |[],_=>false
 |p::_,0=>isAny T p.2
 |_::l,i+1=>arn T l i
def atk (T:tR)(t:TypeId)(i:Nat):Bool:=match T t with
 |some q=>match q.d with
  |.struct fs=>arn T fs i
  |.arr _ e=>isAny T e
  |_=>false
 |none=>false
def IT (any:Nat->Bool):List (Nat×Value)->(List (Nat×List Value)->Prop)->Prop
 |[],K=>K []
 |p::l,K=>cond (any p.1) (dV p.2 λv=>IT any l λr=>K ((p.1,[v])::r)) (IT any l λr=>K ((p.1,p.2.cells.toList)::r))
def aeP (place:Nat->Option (Nat×Nat)):List Value->List (Nat×List Value)->Option (List Value)
 |cells,[]=>some cells
 |cells,(i,c)::r=>match place i with
  |none=>none
  |some p=>cond (Nat.beq c.length p.2) (cond (Nat.ble (p.1+c.length) cells.length) (aeP place (qo cells p.1 c) r) none) none
def ae4 (place:Nat->Option (Nat×Nat)):∀(ps:List (Nat×Value)) (cells:List Value),aeP place cells (ps.map λp=>(p.1,p.2.cells.toList))=IS place cells ps
 |[],_=>rfl
 |(i,v)::r,cells=>by
  simp only[List.map_cons,aeP,IS];split
  ·rfl
  ·rw[ae4 place r]
def aja (any:Nat->Bool)(ps:List (Nat×Value)):Prop:=∀p∈ps,any p.1=true->Value.plain p.2=true
def IU {any:Nat->Bool}:∀{ps:List (Nat×Value)} {K:List (Nat×List Value)->Prop},IT any ps K->aja any ps/\K (ps.map λp=>(p.1,p.2.cells.toList))
 |[],K,h=>⟨λp hp=>(List.not_mem_nil hp).elim,h⟩
 |p::l,K,h=>by
  unfold IT at h;cases ha:any p.1 with
  |false=>
   rw[ha]at h;obtain⟨h1,h2⟩:=IU (ps:=l) h;refine⟨λq hq e=>?_,h2⟩;rcases List.mem_cons.1 hq with rfl|hq
   ·grind
   ·exact h1 q hq e
  |true=>
   rw[ha]at h;have h:cond (Value.plain p.2) (IT any l λr=>K ((p.1,[p.2])::r)) False:=h;cases hp:Value.plain p.2 with
   |false=>grind
   |true=>
    rw[hp]at h;obtain⟨h1,h2⟩:=IU (ps:=l) h;have e:p.2.cells.toList=[p.2]:=by cases hv:p.2<;>rw[hv]at hp<;>first|rfl|cases hp
    refine⟨λq hq e=>?_,?_⟩
    ·rcases List.mem_cons.1 hq with rfl|hq
     ·exact hp
     ·exact h1 q hq e
    grind
def ME {any:Nat->Bool}:∀{ps:List (Nat×Value)} {K:List (Nat×List Value)->Prop},aja any ps->K (ps.map λp=>(p.1,p.2.cells.toList))->IT any ps K
 |[],K,_,h=>h
 |p::l,K,h1,h=>by
  unfold IT;have h2:aja any l:=λq hq=>h1 q (by simp[hq]);cases ha:any p.1 with
  |false=>exact ME (ps:=l) h2 h
  |true=>
   have hp:=h1 p (by simp) ha;show cond (Value.plain p.2) (IT any l λr=>K ((p.1,[p.2])::r)) False;rw[hp];have e:p.2.cells.toList=[p.2]:=by cases hv:p.2<;>rw[hv]at hp<;>first|rfl|cases hp
   rw[List.map_cons,e]at h;exact ME (ps:=l) h2 h
def Nq (ρ:Env):List (Nat×Operand)->List (Nat×Value)
 |[]=>[]
 |p::l=>(p.1,ev ρ p.2)::Nq ρ l
def C0 (ρ:Env):List Operand->List Value
 |[]=>[]
 |x::l=>ev ρ x::C0 ρ l
def aa1 (z:List Value):Nat->List Value
 |0=>[]
 |n+1=>z++aa1 z n
def aeQ (P:Program)(T:tR)(i:TI)(src dst:TypeId)(x:Value)(w:World)(K:Value->World->Prop):Prop:=match i.d with
 |.int _=>match T dst with
  |some j=>match j.d with
   |.int k=>match x with
    |.int _ n=>K (.int k (k.wrap n)) w
    |_=>False
   |_=>aK P (convert src dst x) w λv w'=>d1 T dst v λv'=>K v' w'
  |none=>False
 |_=>aK P (convert src dst x) w λv w'=>d1 T dst v λv'=>K v' w'
structure Cx where
 P:Program
 T:tR
 F:FuncId->Bool
 n:Nat
def sb (s:ByteArray)(j:Nat):Int:=match s[j]? with|some b=>(b.toNat:Int)|none=>0
def IxV (l:List Value)(i:Nat)(K:Value->Prop):Prop:=∃v,S_ l i=some v/\K v
def au8 (k:IntKind)(n:Int):Int:=ae3 k (if k.signed then-1 else k.max) n
def sK (P:Program)(g:FuncId)(args:Array Value)(w:World)(K:Value->World->Prop):Prop:=match (callFunc g args).run P w with
 |.ok (.value v) w'=>K v w'
 |_=>False
def gQ (C:Cx)(f:Value)(args:List Value)(w:World)(K:Value->World->Prop):Prop:=match f with
 |.func fn first cap=>match fn with
  |.func g=>cond (C.F g) (aq C.P g (first.toList++args++cap.toList).toArray w K) (sK C.P g (first.toList++args++cap.toList).toArray w K)
  |_=>False
 |_=>False
def xN (C:Cx)(recv:Value)(name:String)(args:List Value)(w:World)(K:Value->World->Prop):Prop:=match recv with
 |.iface t v=>∃g rv,(method (C.P.types.size+Made.depth) t v name).run C.P w=.ok (g,rv) w/\gQ C (.func (.func g) #[] #[]) (rv::args) w K
 |_=>False
def EH (x y:Int):Int:=if y<x then y else x
def imax (x y:Int):Int:=if y>x then y else x
def two (l:List Value)(K:Value->Value->Prop):Prop:=dg l λa r=>dg r λb r'=>ko r' (K a b)
def dI2 (x y:Value)(K:IntKind->Int->Int->Prop):Prop:=match x with
 |.int k a=>match y with
  |.int _ b=>K k a b
  |_=>False
 |_=>False
def aa2 (C:Cx)(b:Builtin)(ats:Array TypeId)(ty:TypeId)(args:List Value)(w:World)(K:Value->World->Prop):Prop:=match b with
 |.append=>aK C.P (Builtin.append_ ats ty args.toArray) w λv w'=>dS v λa n c=>K (.slice a n c) w'
 |.copy=>aK C.P (Builtin.copy_ ats ty args.toArray) w λv w'=>dI .i64 v λn=>K (.int .i64 n) w'
 |.delete=>aK C.P (Builtin.delete_ ats ty args.toArray) w λv w'=>K v w'
 |.clear=>aK C.P (Builtin.clear_ ats ty args.toArray) w λv w'=>K v w'
 |.min=>two args λx y=>dI2 x y λk x y=>K (.int k (EH x y)) w
 |.max=>two args λx y=>dI2 x y λk x y=>K (.int k (imax x y)) w
 |.len=>match ats.toList with
  |t::_=>match args with
   |v::_=>match C.T t with
    |some i=>match i.d with
     |.slice _=>dS v λ_ n _=>K (.int .i64 n) w
     |.str=>Xc v λs=>K (.int .i64 s.size) w
     |_=>aK C.P (Builtin.len_ ats ty args.toArray) w λv w'=>dI .i64 v λn=>K (.int .i64 n) w'
    |none=>False
   |[]=>False
  |[]=>False
 |.cap=>aK C.P (Builtin.cap_ ats ty args.toArray) w λv w'=>dI .i64 v λn=>K (.int .i64 n) w'
 |_=>False
def aa3 (v:Option Value)(K:Option Int->Prop):Prop:=match v with
 |none=>K none
 |some v=>match v with
  |.int _ n=>K (some n)
  |_=>False
def LH (ρ:Env)(x:Option Operand):Option Value:=match x with|none=>none|some x=>some (ev ρ x)
def wN (C:Cx)(o:Oper)(ρ:Env)(w:World)(K:Value->World->Prop):Prop:=
 match o.op with
 |.move x=>K (ev ρ x) w
 |.assign x=>K (ev ρ x) w
 |.pick c a b=>match ev ρ c with
  |.bool t=>cond t (K (ev ρ a) w) (K (ev ρ b) w)
  |_=>False
 |.alloc t=>match C.T t with
  |some i=>cond (Nat.beq i.zero.length i.size) (K (.pointer (some ⟨w.heap.size,0,none⟩)) (w.alloc (.cells (zc C.T t).toArray t))) False
  |none=>False
 |.box t x=>K (.pointer (some ⟨w.heap.size,0,none⟩)) (w.alloc (.cells (ev ρ x).cells t))
 |.build t ps=>match place C.T t with
  |some pl=>IT (atk C.T t) (Nq ρ ps.toList) λl=>match aeP pl (zc C.T t) l with
   |some cs=>K (.agg cs.toArray) w
   |none=>False
  |none=>False
 |.buildSlice t len ps=>match C.T t with
  |some i=>match i.d with
   |.slice e=>match C.T e with
    |some q=>cond (Nat.ble (len*q.size) 16777216) (cond (Nat.beq q.zero.length q.size) (match IS (λj=>some (j*q.size,q.size)) (aa1 q.zero len) (Nq ρ ps.toList)with
     |some cs=>K (.slice (some ⟨w.heap.size,0,none⟩) len len) (w.alloc (.cells cs.toArray e))
     |none=>False) False) False
    |none=>False
   |_=>False
  |none=>False
 |.load t x=>match ev ρ x with
  |.pointer p=>wA p λa=>ldT C.T t a w λv=>K v w
  |_=>False
 |.store t x y=>match ev ρ x with
  |.pointer p=>wA p λa=>stT C.T t a (ev ρ y) w λw'=>K undef w'
  |_=>False
 |.nilCheck x=>match ev ρ x with
  |.pointer p=>wA p λa=>K (.pointer (some a)) w
  |_=>False
 |.binOp op t x y _=>match C.T t with
  |some i=>ai_ C.P i.d op t x y (ev ρ x) (ev ρ y) w K
  |none=>False
 |.unOp op _ x=>match op,ev ρ x with
  |.not,.bool b=>K (.bool (!b)) w
  |.neg,.int k m=>K (.int k (k.wrap (0-m))) w
  |.xor,.int k m=>K (.int k (au8 k m)) w
  |_,_=>False
 |.convert src dst x=>match C.T src with
  |some i=>aeQ C.P C.T i src dst (ev ρ x) w K
  |none=>False
 |.makeInterface t x=>match C.T t with
  |some i=>match i.d with
   |.iface=>False
   |.other=>False
   |_=>K (.iface t (ev ρ x)) w
  |none=>False
 |.makeFunc fn first captured=>K (.func fn (C0 ρ first.toList).toArray (C0 ρ captured.toList).toArray) w
 |.makeMap t r=>aK C.P (Instr.makeMap t (LH ρ r)) w λv w'=>dM v λm=>K (.map m) w'
 |.makeSlice t l c=>aK C.P (Instr.makeSlice t (ev ρ l) (ev ρ c)) w λv w'=>dS v λa n c=>K (.slice a n c) w'
 |.slice t x lo hi mx=>match mx with
  |some m=>aK C.P (Instr.sliceAt t (ev ρ x) (LH ρ lo) (LH ρ hi) (some (ev ρ m))) w λv w'=>dS v λa n c=>K (.slice a n c) w'
  |none=>match C.T t with
   |some i=>match i.d with
    |.slice e=>match ev ρ x with
     |.slice a n c=>match C.T e with
      |some q=>aa3 (LH ρ lo) λl=>aa3 (LH ρ hi) λh=>bP a n c q.size l h λa' n' c'=>K (.slice a' n' c') w
      |none=>False
     |_=>False
    |_=>aK C.P (Instr.sliceAt t (ev ρ x) (LH ρ lo) (LH ρ hi) none) w λv w'=>WE (match i.d with|.str=>.str|_=>.sl) v λv'=>K v' w'
   |none=>False
 |.fieldAddr t x f=>match C.T t with
  |some i=>match i.d with
   |.struct fs=>match Pz fs f with
    |some p=>match C.T p.2 with
     |some q=>cond (Nat.beq q.size 0) False (match ev ρ x with
      |.pointer p'=>wA p' λa=>K (.pointer (some (a.add p.1))) w
      |_=>False)
     |none=>False
    |none=>False
   |_=>False
  |none=>False
 |.field t x f=>match C.T t with
  |some i=>match i.d with
   |.struct fs=>match Pz fs f with
    |some p=>match ev ρ x with
     |.agg cs=>PA C.T p.2 cs p.1 λv=>K v w
     |_=>False
    |none=>False
   |_=>False
  |none=>False
 |.indexAddr t x ix=>match C.T t with
  |some i=>match ev ρ ix with
   |.int _ j=>match i.d with
    |.slice e=>match C.T e with
     |some q=>match ev ρ x with
      |.slice a n _=>aH j n (wA a λa=>K (.pointer (some (a.add (j.toNat*q.size)))) w)
      |_=>False
     |none=>False
    |.arr n e=>match C.T e with
     |some q=>match ev ρ x with
      |.pointer p=>wA p λa=>aH j n (K (.pointer (some (a.add (j.toNat*q.size)))) w)
      |_=>False
     |none=>False
    |_=>False
   |_=>False
  |none=>False
 |.index t x ix=>match C.T t with
  |some i=>match ev ρ ix with
   |.int _ j=>match i.d with
    |.str=>match ev ρ x with
     |.string s=>aH j s.size (K (.int .u8 (sb s j.toNat)) w)
     |_=>False
    |.arr n e=>match C.T e with
     |some q=>match q.agg with
      |true=>False
      |false=>match q.lf with
       |f::_=>match ev ρ x with
        |.agg cs=>aH j n (cond (Nat.beq q.size 1) (IxV cs.toList j.toNat λv=>WE f v λv'=>K v' w) False)
        |_=>False
       |[]=>False
     |none=>False
    |_=>False
   |_=>False
  |none=>False
 |.lookup t x ix ok=>aK C.P (Instr.lookup t (ev ρ x) (ev ρ ix) ok) w λv w'=>dR C.T o.type v λv'=>K v' w'
 |.mapUpdate t m k x=>bw C.P (Instr.mapUpdate t (ev ρ m) (ev ρ k) (ev ρ x)) w λw'=>K undef w'
 |.insert t m k x=>bw C.P (Instr.mapUpdate t (ev ρ m) (ev ρ k) (ev ρ x)) w λw'=>K undef w'
 |.typeAssert x xt t ok=>aK C.P (Instr.typeAssert (ev ρ x) xt t ok) w λv w'=>cond ok (dT v λl=>dg l λc0 l1=>d1 C.T t c0 λc0'=>dg l1 λc1 l2=>dB c1 λb=>ko l2 (K (.tuple #[c0',.bool b]) w')) (d1 C.T t v λv'=>K v' w')
 |.extract x i=>match ev ρ x with
  |.tuple vs=>match S_ vs.toList i with
   |some v=>K v w
   |none=>False
  |_=>False
 |.call c=>match c.callee with
  |.builtin b=>aa2 C b c.argTypes o.type (C0 ρ c.args.toList) w K
  |.value f=>gQ C (ev ρ f) (C0 ρ c.args.toList) w λv w'=>dR C.T o.type v λv'=>K v' w'
  |.invoke recv name=>xN C (ev ρ recv) name (C0 ρ c.args.toList) w λv w'=>dR C.T o.type v λv'=>K v' w'
 |_=>False
def xA:List Oper->Nat->Option Nat
 |[],_=>none
 |o::_,0=>o.dst
 |_::l,i+1=>xA l i
def GW (n:Nat)(d:Option Nat):Bool:=match d with|some d=>Nat.blt d n|none=>true
def GX (C:Cx)(all:List Oper):List Oper->Env->World->(Env->World->Prop)->Prop
 |[],ρ,w,K=>K ρ w
 |o::r,ρ,w,K=>cond (GW C.n o.dst) (match o.guard with
  |none=>wN C o ρ w λv w'=>GX C all r (put ρ o.dst v) w' K
  |some p=>match xA all p.1 with
   |none=>False
   |some d=>cond (Nat.blt d C.n) (match ρ d with
    |.bool b=>match p.2 with
     |true=>cond b (wN C o (put ρ (some d) (.bool true)) w λv w'=>GX C all r (put (put ρ (some d) (.bool true)) o.dst v) w' K) (GX C all r (put (put ρ (some d) (.bool false)) o.dst undef) w K)
     |false=>cond b (GX C all r (put (put ρ (some d) (.bool true)) o.dst undef) w K) (wN C o (put ρ (some d) (.bool false)) w λv w'=>GX C all r (put (put ρ (some d) (.bool false)) o.dst v) w' K)
    |.tuple _=>GX C all r (put ρ o.dst undef) w K
    |_=>False) False) False
abbrev Xe:=List (Nat×(Env->World->Prop))
def cutAt:Xe->Nat->Option (Env->World->Prop)
 |[],_=>none
 |p::l,i=>cond (Nat.beq i p.1) (some p.2) (cutAt l i)
def ank (ρ:Env)(x:Operand)(v:Value):Env:=match x with|.tmp t=>put ρ (some t) v|_=>ρ
def Vq (id:Nat):List Item->Option (List Item)
 |[]=>none
 |it::k=>match it with
  |.inBlock i=>cond (Nat.beq i id) (some k) (Vq id k)
  |_=>Vq id k
def aro (C:Cx)(D:Nat->List Oper->Env->World->(Env->World->Prop)->Prop)(id:Nat)(ops:Array Oper)(dr:Bool)(ρ:Env)(w:World)(K:Env->World->Prop):Prop:=match dr with
 |false=>GX C ops.toList ops.toList ρ w K
 |true=>D id ops.toList ρ w K
def F1 (C:Cx)(L:Xe)(R:Env->World->Prop)(D:Nat->List Oper->Env->World->(Env->World->Prop)->Prop):Nat->Bool->List Item->Env->World->Prop
 |0,_,_,_,_=>False
 |_+1,_,[],ρ,w=>R ρ w
 |f+1,fst,it::k,ρ,w=>match it with
  |.inBlock _=>F1 C L R D f fst k ρ w
  |.inLoop c=>F1 C L R D f fst (.code c::.inLoop c::k) ρ w
  |.code c=>match c with
   |.skip=>F1 C L R D f fst k ρ w
   |.seq a b=>F1 C L R D f fst (.code a::.code b::k) ρ w
   |.block id c=>F1 C L R D f fst (.code c::.inBlock id::k) ρ w
   |.loop c=>F1 C L R D f fst (.code c::.inLoop c::k) ρ w
   |.exit id=>match Vq id k with
    |some k'=>F1 C L R D f fst k' ρ w
    |none=>False
   |.ret=>R ρ w
   |.cond x a b=>match ev ρ x with
    |.bool t=>cond t (F1 C L R D f fst (.code a::k) (ank ρ x (.bool true)) w) (F1 C L R D f fst (.code b::k) (ank ρ x (.bool false)) w)
    |_=>False
   |.region id ops dr=>match (match fst with|true=>none|false=>cutAt L id)with
    |some q=>q ρ w
    |none=>aro C D id ops dr ρ w λρ' w'=>F1 C L R D f false k ρ' w'
   |_=>False
  |_=>False
def leaves (ids:List Nat):Nat->Bool->List Item->List (Nat×List Item)
 |0,_,_=>[]
 |_+1,_,[]=>[]
 |f+1,fst,it::k=>match it with
  |.inBlock _=>leaves ids f fst k
  |.inLoop c=>leaves ids f fst (.code c::.inLoop c::k)
  |.code c=>match c with
   |.skip=>leaves ids f fst k
   |.seq a b=>leaves ids f fst (.code a::.code b::k)
   |.block id c=>leaves ids f fst (.code c::.inBlock id::k)
   |.loop c=>leaves ids f fst (.code c::.inLoop c::k)
   |.exit id=>match Vq id k with
    |some k'=>leaves ids f fst k'
    |none=>[]
   |.ret=>[]
   |.cond x a b=>leaves ids f fst (.code a::k)++leaves ids f fst (.code b::k)
   |.region id ops dr=>match (match fst with|true=>false|false=>ids.contains id)with
    |true=>[(id,it::k)]
    |false=>leaves ids f false k
   |_=>[]
  |_=>[]
structure l_ (C:Cx):Prop where
 ug:vO C.P C.T
 fns:∀f,C.F f=true->∃fn,C.P.funcs[f]? =some fn/\fn.body.isSome=true/\(fn.name== "runtime.NumGoroutine")=false
 mixed:C.P.follows .mixedOrders=true
structure Rel (n:Nat) (ρ:Env) (a:Act):Prop where
 defers:a.defers=[]
 size:a.tmps.size=n
 get:∀t,a.tmps.getD t undef=ρ t
def Rel.eval {n:Nat}{ρ:Env}{a:Act}(h:Rel n ρ a):a.eval=ev ρ:=by
 funext x;cases x with
 |tmp t=>exact h.get t
 |_=>rfl
def Rel.put {n:Nat}{ρ:Env}{a:Act}(h:Rel n ρ a){d:Option Nat}(v:Value)(hd:GW n d=true):Rel n (put ρ d v) (a.put d v):=by
 cases d with
 |none=>exact h
 |some t=>
  have ht:t<n:=by simpa[GW,Nat.blt_eq]using hd
  refine⟨h.defers,by simpa[Act.put]using h.size,λs=>?_⟩;simp only[Act.put,Sx.put];have hs:=h.get s;cases hb:Nat.beq s t with
  |true=>
   have:=Nat.eq_of_beq_eq_true hb;subst this;simp[Array.getD_eq_getD_getElem?,Array.getElem?_setIfInBounds,h.size,ht]
  |false=>
   have hne:t≠s:=λe=>by simp_all
   simp_all
def Rel.Jt {n:Nat}{ρ:Env}{a:Act}(h:Rel n ρ a){t:Nat}{v:Value}(hv:ρ t=v):Rel n (Sx.put ρ (some t) v) a:=by
 refine⟨h.defers,h.size,λs=>?_⟩;simp only[Sx.put];cases hb:Nat.beq s t with
 |true=>
  have:=Nat.eq_of_beq_eq_true hb;subst this;rw[h.get,hv];rfl
 |false=>exact h.get s
section
variable {P:Program}{T:tR}(hT:vO P T) include hT
def tU {t:TypeId}{i:TI}(h:T t=some i):∃inf u z,P.info? t=some inf/\P.underlying t=some u/\nD u=i.d/\inf.size=i.size/\inf.bytes=i.bytes/\
  inf.zero=some z/\z.cells.toList=i.zero:=by
 have h:=hT t i h;unfold S9 at h;grind
def xO {t:TypeId}{i:TI}(h:T t=some i)(w:World):(sizeOf t).run P w=.ok i.size w:=by obtain⟨inf,u,z,h1,h2,h3,h4,h5,h6,h7⟩:=tU hT h;simp[sizeOf,typeInfo,h1,h4]
def uh {t:TypeId}{i:TI}(h:T t=some i):∃u,P.underlying t=some u/\nD u=i.d/\∀w,(underlying t).run P w=.ok u w:=by obtain⟨inf,u,z,h1,h2,h3,h4,h5,h6,h7⟩:=tU hT h;exact⟨u,h2,h3,λw=>by simp[underlying,h2]⟩
end
def aa4 {P:Program}{T:tR}(hT:vO P T){t:TypeId}{i:TI}(h:T t=some i):∃z,z.cells.toList=i.zero/\∀w,(zeroValue t).run P w=.ok z w:=by obtain⟨inf,u,z,h1,h2,h3,h4,h5,h6,h7⟩:=tU hT h;exact⟨z,h7,λw=>by simp[zeroValue,typeInfo,h1,h6]⟩
def IV {u:TypeDesc}{e:TypeId}(h:nD u=.slice e):u=.slice e:=by cases u<;>simp[nD]at h;subst h;rfl
def Xf {u:TypeDesc}{n:Nat}{e:TypeId}(h:nD u=.arr n e):u=.array n e:=by cases u<;>simp[nD]at h;grind
def MF {u:TypeDesc}{fs:List (Nat×TypeId)}(h:nD u=.struct fs):∃l,u=.struct l/\l.toList.map (λf=>(f.offset,f.type))=fs:=by cases u<;>simp[nD]at h;grind
def anl {u:TypeDesc}{k:IntKind}(h:nD u=.int k):u=.int k:=by cases u<;>simp[nD]at h;subst h;rfl
def ae5 {u:TypeDesc}(h:nD u=.str):u=.string:=by cases u<;>simp[nD]at h;rfl
def ae6 {P:Program}{T:tR}(hT:vO P T){t:TypeId}{i:TI}(h:T t=some i)(w:World):(isAgg t).run P w=.ok i.agg w:=by obtain⟨u,hu,hd,hr⟩:=uh hT h;simp only[isAgg,Sem.run_bind,hr,Result.andThen_ok];unfold TI.agg;rw[<-hd];cases u<;>rfl
def adT {P:Program}{w:World}{a:Addr}{v:Value}(h:w.cell? a=some v):(load a).run P w=.ok v w:=by simp[h]
def ae7 {l:Lf}{a:Addr}{w:World}{K:Value->Prop}(h:ld1 l a w K):∃v,w.cell? a=some v/\K v:=by
 cases l with
 |int k=>obtain⟨n,h1,h2⟩:=h;grind
 |bool=>obtain⟨n,h1,h2⟩:=h;grind
 |str=>obtain⟨n,h1,h2⟩:=h;grind
 |ptr=>obtain⟨n,h1,h2⟩:=h;grind
 |sl=>obtain⟨b,n,c,h1,h2⟩:=h;grind
 |map=>obtain⟨n,h1,h2⟩:=h;grind
 |any=>obtain⟨v,h1,_,h2⟩:=h;grind
def Tb {P:Program}:∀{ls:List Lf} {a:Addr} {i:Nat} {w:World} {K:List Value->Prop} (acc:Array Value),Nm ls a i w K->
  ∃vs,(loadCellsFrom a i ls.length acc).run P w=.ok (acc++vs.toArray) w/\vs.length=ls.length/\K vs
 |[],a,i,w,K,acc,h=>⟨[],by simp[loadCellsFrom],rfl,h⟩
 |l::ls,a,i,w,K,acc,h=>by obtain⟨v,hc,h⟩:=ae7 h;obtain⟨vs,hr,hl,hk⟩:=Tb (P:=P) (acc.push v) h;refine⟨v::vs,?_,by simp[hl],hk⟩;simp only[List.length_cons,loadCellsFrom,Sem.run_bind,adT hc,Result.andThen_ok,hr];simp_all
def ae8 {P:Program}{T:tR}(hT:vO P T){t:TypeId}{a:Addr}{w:World}{K:Value->Prop}(h:ldT T t a w K):∃v,(loadVar t a).run P w=.ok v w/\K v:=by
 unfold ldT at h;split at h
 ·rename_i i hi;have ha:=ae6 hT hi w;have hs:=xO hT hi w;split at h
  ·rename_i hag;rw[hag]at ha;cases hb:Nat.beq i.lf.length i.size with
   |false=>grind
   |true=>
    rw[hb]at h;obtain⟨vs,hr,hl,hk⟩:=Tb (P:=P) #[] h;refine⟨.agg vs.toArray,?_,hk⟩;have hn:=Nat.eq_of_beq_eq_true hb;rw[hn]at hr;simp[loadVar,ha,hs,loadCells,hr]
  ·rename_i hag;rw[hag]at ha;split at h
   ·obtain⟨v,hc,hk⟩:=ae7 h;exact⟨v,by simp[loadVar,ha,hc],hk⟩
   grind
 grind
def akM {v:Value}(h:Value.plain v=true):v.oneCell'=true:=by cases v<;>first|rfl|(simp[Value.plain]at h)
def ahs {v:Value}(h:Value.plain v=true):v.cells=#[v]:=by cases v<;>first|rfl|(simp[Value.plain]at h)
def aid {P:Program}{a:Addr}{v:Value}{w:World}{K:World->Prop}(hv:Value.plain v=true)(h:St a v w K):(store a v).run P w=.ok () (w.setCell a v)/\K (w.setCell a v):=by obtain⟨⟨u,hu⟩,hf,hk⟩:=h;refine⟨?_,hk⟩;rw[run_store P w a v .plain (akM hv)];simp[hu,hf]
def Tc {P:Program}:∀{vs:List Value} {a:Addr} {i:Nat} {w:World} {K:World->Prop},Nn vs a i w K->∃w',(storeCells a vs i).run P w=.ok () w'/\K w'
 |[],a,i,w,K,h=>⟨w,by simp[storeCells],h⟩
 |v::vs,a,i,w,K,h=>by
  simp only[Nn]at h;cases hp:Value.plain v with
  |false=>grind
  |true=>
   rw[hp]at h;have h1:St (a.add i) v w (λw'=>Nn vs a (i+1) w' K):=h;obtain⟨hr,h2⟩:=aid (P:=P) hp h1;obtain⟨w',hr',hk⟩:=Tc (P:=P) h2;exact⟨w',by simp only[storeCells,Sem.run_bind,hr,Result.andThen_ok,hr'],hk⟩
def anm {P:Program}{T:tR}(hT:vO P T){t:TypeId}{a:Addr}{v:Value}{w:World}{K:World->Prop}(h:stT T t a v w K):∃w',(storeVar t a v).run P w=.ok () w'/\K w':=by
 unfold stT at h;split at h
 ·rename_i i hi;have hs:=xO hT hi w;split at h
  ·split at h
   ·rename_i cs;cases hb:Nat.beq cs.toList.length i.size with
    |false=>grind
    |true=>
     rw[hb]at h;obtain⟨w',hr,hk⟩:=Tc (P:=P) h;have hn:=Nat.eq_of_beq_eq_true hb;refine⟨w',?_,hk⟩;simp only[Array.length_toList]at hn;simp[storeVar,hs,Value.cells,hn,hr]
   grind
  ·cases hb:Nat.beq 1 i.size with
   |false=>grind
   |true=>
    rw[hb]at h;cases hp:Value.plain v with
    |false=>grind
    |true=>
     rw[hp]at h;obtain⟨hr,hk⟩:=aid (P:=P) hp h;have hn:=Nat.eq_of_beq_eq_true hb;refine⟨_,?_,hk⟩;have hr':(store (a.add 0) v).run P w=.ok () (w.setCell a v):=by simpa[Addr.add]using hr
     simp[storeVar,hs,ahs hp,hn,storeCells,hr']
 grind
def tV {p:Option Addr}{K:Addr->Prop}(h:wA p K):∃a,p=some a/\K a:=by
 cases p with
 |some a=>exact⟨a,rfl,h⟩
 |none=>exact h.elim
def acR {P:Program}{s:Sem Value}{w:World}{K:Value->World->Prop}(h:aK P s w K):∃v w',s.run P w=.ok v w'/\K v w':=by unfold aK at h;grind
def akN {P:Program}{s:Sem Unit}{w:World}{K:World->Prop}(h:bw P s w K):∃w',s.run P w=.ok () w'/\K w':=by unfold bw at h;grind
def rq (P:Program)(r:Result Next)(K:Value->World->Prop):Prop:=match r with
 |.ok (.value v) w=>K v w
 |.ok .skip w=>K undef w
 |.ok (.enter f args) w=>aq P f args w K
 |_=>False
def rq.wp {P:Program}{o:Oper}{a:Act}{w:World}{K:Value->World->Prop}{next:Act->World->Prop}{Q:Exit->Act->World->Prop}
  (h:rq P ((execOp a.eval o).run P w) K)(hn:∀v w',K v w'->next (a.put o.dst v) w'):o.wp P a w next Q:=by
 unfold Oper.wp;generalize (execOp a.eval o).run P w=r at*;cases r with
 |ok x w'=>
  cases x<;>simp[rq]at h<;>simp[Oper.upon]
  case value v=>grind
  case skip=>grind
  case enter f args=>
   refine h.mono λe w'' he=>?_;grind
 |halt x w'=>simp[rq]at h
def LI (ρ:Env)(l:List Operand):C0 ρ l=l.map (ev ρ):=by
 induction l with
 |nil=>rfl
 |cons x l ih=>simp[C0,ih]
def Y0 (ρ:Env)(l:List (Nat×Operand)):Nq ρ l=l.map (λp=>(p.1,ev ρ p.2)):=by
 induction l with
 |nil=>rfl
 |cons x l ih=>simp[Nq,ih]
def Xg (ρ:Env)(x:Option Operand):LH ρ x=x.map (ev ρ):=by cases x<;>rfl
def Vr:∀(l:List Value) (i:Nat),S_ l i=l[i]?
 |[],i=>by simp[S_]
 |v::l,0=>by simp[S_]
 |v::l,i+1=>by simp[S_,Vr l i]
def aa5:∀(l:List (Nat×TypeId)) (i:Nat),Pz l i=l[i]?
 |[],i=>by simp[Pz]
 |v::l,0=>by simp[Pz]
 |v::l,i+1=>by simp[Pz,aa5 l i]
def aie:∀(l:List (Nat×Nat)) (i:Nat),Xd l i=l[i]?
 |[],i=>by simp[Xd]
 |v::l,0=>by simp[Xd]
 |v::l,i+1=>by simp[Xd,aie l i]
def aif (z:List Value):∀n,aa1 z n=(List.replicate n z).flatten
 |0=>rfl
 |n+1=>by simp[aa1,List.replicate_succ,aif z n]
def aqb {k k':IntKind}(h:Nat.beq (Hh k) (Hh k')=true):k=k':=by cases k<;>cases k'<;>first|rfl|(exact absurd h (by decide))
section
variable {C:Cx}{w:World}{K:Value->World->Prop}
def ann (hC:l_ C){t:TypeId}{i:TI}(hi:C.T t=some i)(h:K (.pointer (some ⟨w.heap.size,0,none⟩)) (w.alloc (.cells (zc C.T t).toArray t))):
  rq C.P ((do pure (Next.value (<-Instr.alloc t true (.tuple #[])))).run C.P w) K:=by
 obtain⟨z,hz,hr⟩:=aa4 hC.ug hi;have hz':zc C.T t=z.cells.toList:=by simp[zc,hi,hz]
 rw[hz',Array.toArray_toList]at h;simp[Instr.alloc,Sem.run_bind,hr,Result.andThen_ok,newVar,newRow,run_newObj,Sem.run_pure];exact h
def arp {t:TypeId}{v:Value}(h:K (.pointer (some ⟨w.heap.size,0,none⟩)) (w.alloc (.cells v.cells t))):
  rq C.P ((do pure (Next.value (<-Instr.box t v))).run C.P w) K:=by
 exact h
def aqc (hC:l_ C){t:TypeId}{p:Option Addr}(h:wA p λa=>ldT C.T t a w λv=>K v w):
  rq C.P ((do pure (Next.value (<-Instr.loadAt t (.pointer p)))).run C.P w) K:=by
 obtain⟨a,rfl,h'⟩:=tV h;obtain⟨v,hr,hk⟩:=ae8 hC.ug h';simp[Instr.loadAt,Instr.sureAddr,Sem.run_bind,Sem.run_pure,Result.andThen_ok,hr];exact hk
def ano (hC:l_ C){t:TypeId}{p:Option Addr}{v:Value}(h:wA p λa=>stT C.T t a v w λw'=>K undef w'):
  rq C.P ((do Instr.storeAt t (.pointer p) v;pure Next.skip).run C.P w) K:=by
 obtain⟨a,rfl,h'⟩:=tV h;obtain⟨w',hr,hk⟩:=anm hC.ug h';simp[Instr.storeAt,Instr.sureAddr,Sem.run_bind,Sem.run_pure,Result.andThen_ok,hr];exact hk
def f_ {s:Sem Value}(h:aK C.P s w K):rq C.P ((do pure (Next.value (<-s))).run C.P w) K:=by obtain⟨v,w',hr,hk⟩:=acR h;simp[Sem.run_bind,hr,Result.andThen_ok,Sem.run_pure];exact hk
def aih {s:Sem Unit}(h:bw C.P s w λw'=>K undef w'):rq C.P ((do s;pure Next.skip).run C.P w) K:=by obtain⟨w',hr,hk⟩:=akN h;simp[Sem.run_bind,hr,Result.andThen_ok,Sem.run_pure];exact hk
end
def aK.mono {P:Program}{s:Sem Value}{w:World}{K K':Value->World->Prop}(hk:∀v w',K v w'->K' v w')(h:aK P s w K):aK P s w K':=by unfold aK at*;grind
def aK.of {P:Program}{s:Sem Value}{w w':World}{v:Value}{K:Value->World->Prop}(hr:s.run P w=.ok v w')(h:K v w'):aK P s w K:=by unfold aK;grind
def anp {P:Program}{op:BinOp}{k:IntKind}{a b:Int}{w:World}{K:Value->Prop}(t:TypeId)(h1:op≠.shl)(h2:op≠.shr)(h:arith op k a b K):
  aK P (binOp op t (.int k a) (.int k b)) w λv w'=>w'=w/\K v:=by
 cases op<;>simp[arith]at h<;>first|exact(h1 rfl).elim|exact(h2 rfl).elim|exact h.elim|skip
 case quo=>exact .of (w':=w) (by simp[binOp,Op.intDiv,h.1]) ⟨rfl,h.2⟩
 case rem=>exact .of (w':=w) (by simp[binOp,Op.intDiv,h.1]) ⟨rfl,h.2⟩
 all_goals exact .of (by simp only[binOp,ne_eq,not_true_eq_false,ite_false,Op.intArith,Op.intBits,Op.intCmp];rfl) ⟨rfl,h⟩
def aht {P:Program}{op:BinOp}{t:TypeId}{x y:Operand}{k k':IntKind}{a b:Int}{w:World}:(eqGuard op t x y (.int k a) (.int k' b)).run P w=.ok () w:=by cases op<;>rfl
def ahu {P:Program}{op:BinOp}{t:TypeId}{x y:Operand}{a b:ByteArray}{w:World}:(eqGuard op t x y (.string a) (.string b)).run P w=.ok () w:=by cases op<;>rfl
def ae9 {P:Program}{op:BinOp}{t:TypeId}{x y:Operand}{a b:Bool}{w:World}:(eqGuard op t x y (.bool a) (.bool b)).run P w=.ok () w:=by cases op<;>rfl
def Xh {op:BinOp}{r:Bool}{K:Bool->Prop}(h:Rr op r K):(op=.eql/\K r)\/(op=.neq/\K (!r)):=by cases op<;>simp[Rr]at h<;>first|exact h.elim|grind|grind
def Xi {v:Value}{K:Bool->Prop}(h:AW v K):(v=.nilIface/\K true)\/(∃t x,v=.iface t x/\K false):=by cases v<;>first|exact .inl ⟨rfl,h⟩|exact .inr ⟨_,_,rfl,h⟩|exact h.elim
def Xj {v:Value}{K:Bool->Prop}(h:dFn v K):(v=.nilFunc/\K true)\/(∃f x y,v=.func f x y/\K false):=by cases v<;>first|exact .inl ⟨rfl,h⟩|exact .inr ⟨_,_,_,rfl,h⟩|exact h.elim
def nil_eq {P:Program}{d:TD}{u:TypeDesc}{t:TypeId}{x y:Operand}{a b:Value}{w:World}{K:Bool->Prop}(hu:∀w,(underlying t).run P w=.ok u w)(hd:nD u=d)
  (hc:(CZ d y=true/\(∀v,y=.const v->b=v)/\Py d a K)\/(CZ d x=true/\(∀v,x=.const v->a=v)/\Py d b K)):
  ∃r,K r/\(Op.equal t a b).run P w=.ok r w/\(∀op,(eqGuard op t x y a b).run P w=.ok () w)/\(∀op,op=.eql\/op=.neq->binOp op t a b=match op with|.eql=>(do pure (.bool (<-Op.equal t a b)))|_=>(do pure (.bool (!(<-Op.equal t a b))))):=by
 have he:∀x y,Op.equal t x y=Op.equalIn (9999+1) t x y:=λ_ _=>rfl;rcases hc with⟨h1,h2,h3⟩|⟨h1,h2,h3⟩
 ·cases y with
  |const v=>
   obtain rfl:=(h2 v rfl);simp[CZ]at h1;split at h1
   ·split at h1
    ·rename_i p;obtain⟨q,rfl,hk⟩:=Gg h3;cases p with
     |some _=>cases h1
     |none=>
      refine⟨_,hk,?_,λop=>by cases op<;>rfl,λop ho=>by rcases ho with rfl|rfl<;>rfl⟩;rw[he,Op.equalIn];simp[Sem.run_bind,hu,Result.andThen_ok];cases u<;>simp[nD]at hd;cases q<;>rfl
    ·cases h1
   ·split at h1
    ·rename_i p n c;obtain⟨q,m,k,rfl,hk⟩:=xM h3;simp[Bool.and_eq_true]at h1;cases p with
     |some _=>cases h1.1.1
     |none=>
      refine⟨_,hk,?_,λop=>by cases op<;>rfl,λop ho=>by rcases ho with rfl|rfl<;>rfl⟩;rw[he,Op.equalIn];simp[Sem.run_bind,hu,Result.andThen_ok];cases u<;>simp[nD]at hd;cases q<;>rfl
    ·cases h1
   ·split at h1
    ·rename_i p;obtain⟨q,rfl,hk⟩:=Gh h3;cases p with
     |some _=>cases h1
     |none=>
      refine⟨_,hk,?_,λop=>by cases op<;>rfl,λop ho=>by rcases ho with rfl|rfl<;>rfl⟩;rw[he,Op.equalIn];simp[Sem.run_bind,hu,Result.andThen_ok];cases u<;>simp[nD]at hd;cases q<;>rfl
    ·cases h1
   ·split at h1
    ·rcases Xi h3 with⟨rfl,hk⟩|⟨_,_,rfl,hk⟩
     all_goals
      refine⟨_,hk,?_,λop=>by cases op<;>first|rfl|(unfold eqGuard;simp),λop ho=>by rcases ho with rfl|rfl<;>rfl⟩;rw[he,Op.equalIn];simp[Sem.run_bind,hu,Result.andThen_ok];cases u<;>simp[nD]at hd;rfl
    ·cases h1
   ·split at h1
    ·rcases Xj h3 with⟨rfl,hk⟩|⟨_,_,_,rfl,hk⟩
     all_goals
      refine⟨_,hk,?_,λop=>by cases op<;>rfl,λop ho=>by rcases ho with rfl|rfl<;>rfl⟩;rw[he,Op.equalIn];simp[Sem.run_bind,hu,Result.andThen_ok];cases u<;>simp[nD]at hd;rfl
    ·cases h1
   ·cases h1
  |_=>cases h1
 ·cases x with
  |const v=>
   obtain rfl:=(h2 v rfl);simp[CZ]at h1;split at h1
   ·split at h1
    ·rename_i p;obtain⟨q,rfl,hk⟩:=Gg h3;cases p with
     |some _=>cases h1
     |none=>
      refine⟨_,hk,?_,λop=>by cases op<;>rfl,λop ho=>by rcases ho with rfl|rfl<;>rfl⟩;rw[he,Op.equalIn];simp[Sem.run_bind,hu,Result.andThen_ok];cases u<;>simp[nD]at hd;cases q<;>rfl
    ·cases h1
   ·split at h1
    ·rename_i p n c;obtain⟨q,m,k,rfl,hk⟩:=xM h3;simp[Bool.and_eq_true]at h1;cases p with
     |some _=>cases h1.1.1
     |none=>
      refine⟨_,hk,?_,λop=>by cases op<;>rfl,λop ho=>by rcases ho with rfl|rfl<;>rfl⟩;rw[he,Op.equalIn];simp[Sem.run_bind,hu,Result.andThen_ok];cases u<;>simp[nD]at hd;cases q<;>rfl
    ·cases h1
   ·split at h1
    ·rename_i p;obtain⟨q,rfl,hk⟩:=Gh h3;cases p with
     |some _=>cases h1
     |none=>
      refine⟨_,hk,?_,λop=>by cases op<;>rfl,λop ho=>by rcases ho with rfl|rfl<;>rfl⟩;rw[he,Op.equalIn];simp[Sem.run_bind,hu,Result.andThen_ok];cases u<;>simp[nD]at hd;cases q<;>rfl
    ·cases h1
   ·split at h1
    ·rcases Xi h3 with⟨rfl,hk⟩|⟨_,_,rfl,hk⟩
     all_goals
      refine⟨_,hk,?_,λop=>by cases op<;>first|rfl|(unfold eqGuard;simp),λop ho=>by rcases ho with rfl|rfl<;>rfl⟩;rw[he,Op.equalIn];simp[Sem.run_bind,hu,Result.andThen_ok];cases u<;>simp[nD]at hd;rfl
    ·cases h1
   ·split at h1
    ·rcases Xj h3 with⟨rfl,hk⟩|⟨_,_,_,rfl,hk⟩
     all_goals
      refine⟨_,hk,?_,λop=>by cases op<;>rfl,λop ho=>by rcases ho with rfl|rfl<;>rfl⟩;rw[he,Op.equalIn];simp[Sem.run_bind,hu,Result.andThen_ok];cases u<;>simp[nD]at hd;rfl
    ·cases h1
   ·cases h1
  |_=>cases h1
def aqd {C:Cx}(hC:l_ C){op:BinOp}{t:TypeId}{i:TI}{x y:Operand}{a b:Value}{w:World}{K:Value->World->Prop}(hi:C.T t=some i)
  (hx:∀v,x=.const v->a=v)(hy:∀v,y=.const v->b=v)(h:ai_ C.P i.d op t x y a b w K):aK C.P (do eqGuard op t x y a b;binOp op t a b) w K:=by
 obtain⟨u,hu,hd,hr⟩:=uh hC.ug hi;unfold ai_ at h;split at h
 ·split at h
  ·rename_i k a;split at h
   ·rename_i k' b;have hg:(eqGuard op t x y (.int k a) (.int k' b)).run C.P w=.ok () w:=aht;have go:∀{K:Value->World->Prop},aK C.P (binOp op t (.int k a) (.int k' b)) w K->aK C.P (do eqGuard op t x y (.int k a) (.int k' b);binOp op t (.int k a) (.int k' b)) w K:=by intro K h;obtain⟨v,w',hr,hk⟩:=acR h;exact .of (by simp_all) hk
    apply go;split at h
    ·exact .of (w':=w) (by simp[binOp,Op.shift,h.1,Int.not_lt.mpr h.1,AV]) h.2
    ·exact .of (w':=w) (by simp[binOp,Op.shift,h.1,Int.not_lt.mpr h.1,oG]) h.2
    ·rename_i h1 h2;cases hb:Nat.beq (Hh k) (Hh k')with
     |false=>grind
     |true=>
      rw[hb]at h;obtain rfl:=aqb hb;exact(anp (K:=λv=>K v w) t h1 h2 h).mono (by grind)
   grind
  grind
 ·split at h
  ·rename_i a;split at h
   ·rename_i b;have hg:(eqGuard op t x y (.string a) (.string b)).run C.P w=.ok () w:=ahu;split at h
    ·exact .of (w':=w) (by simp only[Sem.run_bind,hg,Result.andThen_ok,binOp,Op.stringOp];rfl) h
    ·exact .of (w':=w) (by simp only[Sem.run_bind,hg,Result.andThen_ok,binOp,Op.stringOp];rfl) h
    grind
   grind
  grind
 ·rename_i hdd;rw[hdd]at hd;have hub:u=.bool:=by cases u<;>simp[nD]at hd;rfl
  subst hub;split at h
  ·rename_i a;split at h
   ·rename_i b;have hg:(eqGuard op t x y (.bool a) (.bool b)).run C.P w=.ok () w:=ae9;have he:(Op.equal t (.bool a) (.bool b)).run C.P w=.ok (a==b) w:=by show(Op.equalIn (9999+1) t (.bool a) (.bool b)).run C.P w=_;rw[Op.equalIn];simp_all
    rcases Xh h with⟨rfl,hk⟩|⟨rfl,hk⟩
    ·exact .of (w':=w) (by simp[Sem.run_bind,hg,Result.andThen_ok,binOp,he,Sem.run_pure]) hk
    ·exact .of (w':=w) (by simp[Sem.run_bind,hg,Result.andThen_ok,binOp,he,Sem.run_pure]) hk
   grind
  grind
 ·split at h
  ·rename_i hn;have:∃r,Rr op r (λr=>K (.bool r) w)/\_:=nil_eq (x:=x) (w:=w) hr hd (.inl ⟨hn,hy,h⟩);obtain⟨r,hk,h1,h2,h3⟩:=this;rcases Xh hk with⟨rfl,hk⟩|⟨rfl,hk⟩
   ·exact .of (w':=w) (by simp_all) hk
   ·exact .of (w':=w) (by simp_all) hk
  ·split at h
   ·rename_i hn;have:∃r,Rr op r (λr=>K (.bool r) w)/\_:=nil_eq (y:=y) (w:=w) hr hd (.inr ⟨hn,hx,h⟩);obtain⟨r,hk,h1,h2,h3⟩:=this;rcases Xh hk with⟨rfl,hk⟩|⟨rfl,hk⟩
    ·exact .of (w':=w) (by simp_all) hk
    ·exact .of (w':=w) (by simp_all) hk
   ·exact h.mono (by intro v w' h;obtain⟨r,rfl,hk⟩:=Gf h;exact hk)
def Ju:∀(cs:List Value) (n:Nat),qo cs n []=cs
 |[],_=>rfl
 |c::cs,0=>rfl
 |c::cs,n+1=>by simp[qo,Ju cs n]
def Rs:∀(cs:List Value) (n:Nat) (v:Value) (vs:List Value),qo cs n (v::vs)=qo (cs.set n v) (n+1) vs
 |[],_,_,_=>by simp[qo]
 |c::cs,0,v,[]=>by simp[qo,Ju]
 |c::cs,0,v,u::vs=>by simp[qo]
 |c::cs,n+1,v,vs=>by simp[qo,Rs cs n v vs]
def acS (off:Nat):∀(vs:List Value) (k:Nat) (cs:Array Value),
  ((vs.zipIdx k).foldl (λcs (p:Value×Nat)=>cs.setIfInBounds (off+p.2) p.1) cs)=(qo cs.toList (off+k) vs).toArray
 |[],k,cs=>by simp[Ju]
 |v::vs,k,cs=>by simp only[List.zipIdx_cons,List.foldl_cons];rw[acS off vs (k+1),Rs];grind
def fill_eq (place:Nat->Option (Nat×Nat)):∀(ps:List (Nat×Value)) (cells cs:List Value),IS place cells ps=some cs->Instr.fill place cells.toArray ps=some cs.toArray
 |[],cells,cs,h=>by simp only[IS,Option.some.injEq]at h;subst h;rfl
 |(i,v)::ps,cells,cs,h=>by
  simp only[IS]at h;cases hp:place i with
  |none=>grind
  |some p=>
   rw[hp]at h;simp only at h;cases hb:Nat.beq v.cells.toList.length p.2 with
   |false=>grind
   |true=>
    rw[hb]at h;cases hl:Nat.ble (p.1+v.cells.toList.length) cells.length with
    |false=>grind
    |true=>
     rw[hl]at h;have h1:=Nat.eq_of_beq_eq_true hb;have h2:=Nat.le_of_ble_eq_true hl;have:=fill_eq place ps _ cs h;simp only[Array.length_toList]at h1 h2;simp only[Instr.fill,hp];rw[if_neg (by simp;omega)];rw[<-this];congr 1;have hf:=acS p.1 v.cells.toList 0 cells.toArray;simp only[Nat.add_zero]at hf;rw[<-hf];rw[<-Array.foldl_toList,Array.toList_zipIdx]
section
variable {C:Cx}{w:World}{K:Value->World->Prop}
def acT (hC:l_ C):∀{l:List Field} {pls:List (Nat×Nat)},Np C.T (l.map λf=>(f.offset,f.type))=some pls->∀w,
  (l.mapM λf=>do pure (f.offset,<-sizeOf f.type):Sem (List (Nat×Nat))).run C.P w=.ok pls w
 |[],pls,h,w=>by simp only[List.map_nil,Np,Option.some.injEq]at h;subst h;rfl
 |f::l,pls,h,w=>by
  simp only[List.map_cons,Np]at h;split at h
  ·rename_i q hq;split at h
   ·rename_i r hr;simp only[Option.some.injEq]at h;have ih:=acT hC hr w;have hs:=xO hC.ug hq w;simp_all
   ·cases h
  ·cases h
def anq (hC:l_ C){t:TypeId}{pl:Nat->Option (Nat×Nat)}{ps:List (Nat×Value)}{cs:List Value}(hp:place C.T t=some pl)(hf:IS pl (zc C.T t) ps=some cs):
  (Instr.build t ps.toArray).run C.P w=.ok (.agg cs.toArray) w:=by
 unfold place at hp;split at hp
 ·rename_i i hi;obtain⟨u,hu,hd,hr⟩:=uh hC.ug hi;obtain⟨z,hz,hzr⟩:=aa4 hC.ug hi;have hz':zc C.T t=z.cells.toList:=by simp[zc,hi,hz]
  rw[hz']at hf;split at hp
  ·rename_i fs hfs;rw[hfs]at hd;obtain⟨l,rfl,hl⟩:=MF hd;split at hp
   ·rename_i pls au9;simp only[Option.some.injEq]at hp;have hm:=acT hC (l:=l.toList) (by rw[hl];exact au9) w;have aeR:=fill_eq _ ps _ cs hf;rw[Array.toArray_toList]at aeR;have hfun:(λx=>pls.toArray[x]?)=Xd pls:=by funext x;simp[aie]
    obtain⟨ll⟩:=l;simp only[Instr.build,Sem.run_bind,hzr,hr,Result.andThen_ok,List.mapM_toArray,Sem.run_map,hm];simp_all
   ·cases hp
  ·rename_i n e he;rw[he]at hd;obtain rfl:=Xf hd;split at hp
   ·rename_i q hq;simp only[Option.some.injEq]at hp;subst hp;have hs:=xO hC.ug hq w;have:=fill_eq _ ps _ cs hf;simp[Instr.build,hzr,hr,hs,this]
   ·cases hp
  ·cases hp
 ·cases hp
end
def akP (z:List Value):∀(n:Nat),((Array.range (n*z.length)).map (z.toArray[·%z.toArray.size]!)).toList=(List.replicate n z).flatten:=by
 intro n;apply List.ext_getElem?;intro i;by_cases hz:z.length=0
 ·simp_all
 ·have hl:((List.replicate n z).flatten).length=n*z.length:=by simp
  by_cases hi:i<n*z.length
  ·have h1:((Array.range (n*z.length)).map (z.toArray[·%z.toArray.size]!)).toList[i]? =some (z.toArray[i%z.toArray.size]!):=by simp[hi]
   have h2:∀(n i:Nat),i<n*z.length->(List.replicate n z).flatten[i]? =some (z.toArray[i%z.toArray.size]!):=by
    intro n;induction n with
    |zero=>grind
    |succ n ih=>
     intro i h;rw[List.replicate_succ,List.flatten_cons,List.getElem?_append];by_cases hlt:i<z.length
     ·simp[Nat.mod_eq_of_lt hlt,hlt]
     ·rw[if_neg hlt];rw[ih (i-z.length) (by grind)];have:(i-z.length)%z.length=i%z.length:=by
       conv=>rhs;rw[show i=(i-z.length)+z.length by omega]
       simp
      simp[this]
   grind
  grind
section
variable {C:Cx}{w:World}{K:Value->World->Prop}
def adU (hC:l_ C){t e:TypeId}{i q:TI}{len:Nat}{ps:List (Nat×Value)}{cs:List Value}(hi:C.T t=some i)(hd:i.d=.slice e)(hq:C.T e=some q)
  (hn:Nat.ble (len*q.size) 16777216=true)(hz:q.zero.length=q.size)(hf:IS (λj=>some (j*q.size,q.size)) (aa1 q.zero len) ps=some cs):
  (Instr.buildSlice t len ps.toArray).run C.P w=.ok (.slice (some ⟨w.heap.size,0,none⟩) len len) (w.alloc (.cells cs.toArray e)):=by
 obtain⟨u,hu,AX,hr⟩:=uh hC.ug hi;rw[hd]at AX;obtain rfl:=IV AX;have hs:=xO hC.ug hq w;obtain⟨z,hzz,hzr⟩:=aa4 hC.ug hq;have hn:=Nat.le_of_ble_eq_true hn;have aeR:=fill_eq _ ps _ cs hf;have anr:(aa1 q.zero len).toArray=(Array.range (len*q.size)).map (z.cells[·%z.cells.size]!):=by rw[aif,<-akP q.zero len,Array.toArray_toList,hz,<-hzz]
 rw[anr]at aeR;simp only[Instr.buildSlice,Sem.run_bind,hr,Result.andThen_ok,hs];rw[if_neg (by omega)];by_cases h0:len*q.size=0
 ·have akQ:Instr.fill (λi=>some (i*q.size,q.size)) ((Array.range (len*q.size)).map (λx=>(#[]:Array Value)[x%(#[]:Array Value).size]!)) ps=some cs.toArray:=by grind
  simp only[h0,if_true]at akQ⊢;simp only[Sem.run_pure,Result.andThen_ok,akQ,newRow,Sem.run_bind,run_newObj];rfl
 ·rw[if_neg h0];simp only[Sem.run_bind,hzr,Sem.run_pure,Result.andThen_ok,aeR,newRow,run_newObj];rfl
def ant (hC:l_ C){src dst:TypeId}{x:Value}{i:TI}(hi:C.T src=some i)(h:aeQ C.P C.T i src dst x w K):aK C.P (convert src dst x) w K:=by
 unfold aeQ at h;split at h
 ·split at h
  ·rename_i k n j hj;obtain⟨u,hu,hd,hr⟩:=uh hC.ug hj;obtain⟨u',hu',hd',hr'⟩:=uh hC.ug hi;split at h
   ·rename_i k' hk;rw[hk]at hd;obtain rfl:=anl hd;split at h
    ·rename_i k0 n;refine .of (w':=w) (v:=.int k' (k'.wrap n)) ?_ h;simp only[convert,Sem.run_bind,hr',hr,Result.andThen_ok];cases u'<;>rfl
    grind
   ·exact h.mono (by intro v w' h;exact Jn h)
  grind
 ·exact h.mono (by intro v w' h;exact Jn h)
def aqe (hC:l_ C){t:TypeId}{cs:Array Value}{off:Nat}{K:Value->Prop}(h:PA C.T t cs off K):∃v,(part t cs off).run C.P w=.ok v w/\K v:=by
 unfold PA at h;split at h
 ·rename_i i hi;have ha:=ae6 hC.ug hi w;have hs:=xO hC.ug hi w;split at h
  ·rename_i hag;rw[hag]at ha;exact⟨_,by simp[part,ha,hs],h⟩
  ·rename_i hag;rw[hag]at ha;split at h
   ·rename_i v hv;rw[Vr,Array.getElem?_toList]at hv;exact⟨v,by simp[part,ha,hv],h⟩
   grind
 grind
def Vs {P:Program}{x:Option Value}{Kp:Option Int->Prop}(h:aa3 x Kp):∃l,Kp l/\((x=none/\l=none)\/∃k n,x=some (.int k n)/\l=some n):=by unfold aa3 at h;grind
def H9 {P:Program}{k:IntKind}{n:Int}{y:Nat}{code:BoundsCode}{w:World}(h0:0<=n)(h1:n<=(y:Int)):(Instr.sliceBound (.int k n) y code).run P w=.ok n.toNat w:=by simp[Instr.sliceBound,asIntOf,h0,h1]
def anu (hC:l_ C){t e:TypeId}{i q:TI}{a:Option Addr}{n c:Nat}{lo hi:Option Value}(hi':C.T t=some i)(hd:i.d=.slice e)(hq:C.T e=some q)
  (h:aa3 lo λl=>aa3 hi λh=>bP a n c q.size l h λa' n' c'=>K (.slice a' n' c') w):aK C.P (Instr.sliceAt t (.slice a n c) lo hi none) w K:=by
 obtain⟨u,hu,AX,hr⟩:=uh hC.ug hi';rw[hd]at AX;obtain rfl:=IV AX;have hs:=xO hC.ug hq w;obtain⟨l,h,hl⟩:=Vs (P:=C.P) h;obtain⟨hh,h,hhi⟩:=Vs (P:=C.P) h;obtain⟨b1,b2,h⟩:=h;have hb:(Instr.sliceBounds true n c lo hi none).run C.P w=.ok ((l.map Int.toNat).getD 0,(hh.map Int.toNat).getD n,c) w:=by
  rcases hhi with⟨rfl,rfl⟩|⟨k,m,rfl,rfl⟩
  ·rcases hl with⟨rfl,rfl⟩|⟨k',m',rfl,rfl⟩
   ·simp[Instr.sliceBounds]
   ·have:=b2 m' rfl;simp only[Option.map_none,Option.getD_none]at this;simp[Instr.sliceBounds,H9 this.1 this.2]
  ·have hm:=b1 m rfl;have e1:=H9 (P:=C.P) (k:=k) (code:=.sliceAcap) (w:=w) hm.1 hm.2;rcases hl with⟨rfl,rfl⟩|⟨k',m',rfl,rfl⟩
   ·simp[Instr.sliceBounds,e1]
   ·have:=b2 m' rfl;simp only[Option.map_some,Option.getD_some]at this;have e2:=H9 (P:=C.P) (k:=k') (code:=.sliceB) (w:=w) this.1 this.2;simp[Instr.sliceBounds,e1,e2]
 refine .of ?_ h;simp only[Instr.sliceAt,Instr.slice,Sem.run_bind,hr,Result.andThen_ok,hb,hs,Sem.run_pure]
def afb (hC:l_ C){t:TypeId}{i q:TI}{fs:List (Nat×TypeId)}{f:Nat}{p:Nat×TypeId}{a:Addr}(hi:C.T t=some i)(hd:i.d=.struct fs)(hp:Pz fs f=some p)
  (hq:C.T p.2=some q)(hz:Nat.beq q.size 0=false):(Instr.fieldAt t (.pointer (some a)) f).run C.P w=.ok (.pointer (some (a.add p.1))) w:=by
 obtain⟨u,hu,AX,hr⟩:=uh hC.ug hi;rw[hd]at AX;obtain⟨l,rfl,hl⟩:=MF AX;rw[aa5,<-hl,List.getElem?_map]at hp;have hs:=xO hC.ug hq w;cases hf:l.toList[f]? with
 |none=>grind
 |some fl=>
  rw[hf]at hp;simp only[Option.map_some,Option.some.injEq]at hp;subst hp;rw[Array.getElem?_toList]at hf;have hne:q.size≠0:=λe=>by simp_all
  simp[Instr.fieldAt,hr,hf,Instr.sureAddr,fieldPlace,hs,hne]
def anv (hC:l_ C){t:TypeId}{i:TI}{fs:List (Nat×TypeId)}{f:Nat}{p:Nat×TypeId}{cs:Array Value}(hi:C.T t=some i)(hd:i.d=.struct fs)(hp:Pz fs f=some p)
  (h:PA C.T p.2 cs p.1 λv=>K v w):aK C.P (Instr.field t (.agg cs) f) w K:=by
 obtain⟨u,hu,AX,hr⟩:=uh hC.ug hi;rw[hd]at AX;obtain⟨l,rfl,hl⟩:=MF AX;rw[aa5,<-hl,List.getElem?_map]at hp;obtain⟨v,hv,hk⟩:=aqe (w:=w) hC h;cases hf:l.toList[f]? with
 |none=>grind
 |some fl=>
  rw[hf]at hp;simp only[Option.map_some,Option.some.injEq]at hp;subst hp;rw[Array.getElem?_toList]at hf;exact .of (w':=w) (by simp[Instr.field,hr,hf,asAgg,hv]) hk
def ajc (hC:l_ C){t e:TypeId}{i q:TI}{a:Option Addr}{n c:Nat}{k:IntKind}{j:Int}(hi:C.T t=some i)(hd:i.d=.slice e)(hq:C.T e=some q)
  (h:aH j n (wA a λa=>K (.pointer (some (a.add (j.toNat*q.size)))) w)):aK C.P (Instr.indexAt t (.slice a n c) (.int k j)) w K:=by
 obtain⟨u,hu,AX,hr⟩:=uh hC.ug hi;rw[hd]at AX;obtain rfl:=IV AX;have hs:=xO hC.ug hq w;obtain⟨h0,h1,h⟩:=h;obtain⟨ad,rfl,h'⟩:=tV h;exact .of (w':=w) (by simp[Instr.indexAt,asIntOf,hr,hs,h0,h1]) h'
def ahv (hC:l_ C){t e:TypeId}{i q:TI}{p:Option Addr}{n:Nat}{k:IntKind}{j:Int}(hi:C.T t=some i)(hd:i.d=.arr n e)(hq:C.T e=some q)
  (h:wA p λa=>aH j n (K (.pointer (some (a.add (j.toNat*q.size)))) w)):aK C.P (Instr.indexAt t (.pointer p) (.int k j)) w K:=by
 obtain⟨u,hu,AX,hr⟩:=uh hC.ug hi;rw[hd]at AX;obtain rfl:=Xf AX;have hs:=xO hC.ug hq w;obtain⟨a,rfl,h'⟩:=tV h;obtain⟨h0,h1,h⟩:=h';exact .of (w':=w) (by simp[Instr.indexAt,asIntOf,hr,hs,h0,h1,Instr.sureAddr]) h
def ahw (hC:l_ C){t e:TypeId}{i q:TI}{cs:Array Value}{n:Nat}{k:IntKind}{j:Int}(hi:C.T t=some i)(hd:i.d=.arr n e)(hq:C.T e=some q)(hag:q.agg=false){f:Lf}
  (h:aH j n (cond (Nat.beq q.size 1) (IxV cs.toList j.toNat λv=>WE f v λv'=>K v' w) False)):aK C.P (Instr.index t (.agg cs) (.int k j)) w K:=by
 obtain⟨u,hu,AX,hr⟩:=uh hC.ug hi;rw[hd]at AX;obtain rfl:=Xf AX;have hs:=xO hC.ug hq w;have ha:=ae6 hC.ug hq w;rw[hag]at ha;obtain⟨h0,h1,h⟩:=h;cases hb:Nat.beq q.size 1 with
 |false=>grind
 |true=>
  rw[hb]at h;have h1':=Nat.eq_of_beq_eq_true hb;obtain⟨v,hv,h⟩:=h;rw[Vr,Array.getElem?_toList]at hv;exact .of (w':=w) (by simp[Instr.index,asIntOf,hr,hs,h0,h1,part,ha,h1',hv]) (Px h).2
def ahx (hC:l_ C){t:TypeId}{i:TI}{s:ByteArray}{k:IntKind}{j:Int}(hi:C.T t=some i)(hd:i.d=.str)
  (h:aH j s.size (K (.int .u8 (sb s j.toNat)) w)):aK C.P (Instr.index t (.string s) (.int k j)) w K:=by
 obtain⟨u,hu,AX,hr⟩:=uh hC.ug hi;rw[hd]at AX;obtain rfl:=ae5 AX;obtain⟨h0,h1,h⟩:=h;refine .of (w':=w) ?_ h;have hlt:j.toNat<s.size:=by omega
 have hg:s[j.toNat]? =some s[j.toNat]:=by simp[hlt]
 simp[Instr.index,asIntOf,hr,h0,hg,sb]
end
def aq.mono {P:Program}{f:FuncId}{args:Array Value}{w:World}{K K':Value->World->Prop}(hk:∀v w',K v w'->K' v w')(h:aq P f args w K):aq P f args w K':=
 Calls.mono h λe w' he=>by grind
section
variable {C:Cx}{w:World}{K:Value->World->Prop}
def afc (hC:l_ C){f:Value}{args:List Value}(h:gQ C f args w K):
  ∃d,(Deferred.ofValue f args.toArray).run C.P w=.ok d w/\rq C.P ((invoke d.target d.args).run C.P w) K:=by
 unfold gQ at h;split at h
 ·rename_i fn first cap
  split at h
  ·rename_i g;have hargs:first++args.toArray++cap=(first.toList++args++cap.toList).toArray:=by grind
   cases hb:C.F g with
   |false=>
    rw[hb]at h;refine⟨{target:=.fn (.func g) cap,args:=first++args.toArray},rfl,?_⟩;have:(invoke (.fn (.func g) cap) (first++args.toArray)).run C.P w=(callFunc g (first.toList++args++cap.toList).toArray).run C.P w:=by simp only[invoke];rw[hargs]
    unfold sK at h;unfold rq;grind
   |true=>
    rw[hb]at h;obtain⟨fn,h1,h2,h3⟩:=hC.fns g hb;refine⟨{target:=.fn (.func g) cap,args:=first++args.toArray},rfl,?_⟩;have hn:fn.body.isNone=false:=by simp_all
    have:(invoke (.fn (.func g) cap) (first++args.toArray)).run C.P w=.ok (.enter g (first.toList++args++cap.toList).toArray) w:=by simp only[invoke,callFunc,Sem.run_bind,run_program,Result.andThen_ok,h1];rw[if_neg (by grind),if_neg (by simp[hn])];simp_all
    rw[this];exact h
  grind
 grind
def aqf (hC:l_ C){recv:Value}{name:String}{args:List Value}(h:xN C recv name args w K):
  rq C.P ((invoke (.fn (.method name) #[]) (#[recv]++args.toArray)).run C.P w) K:=by
 unfold xN at h;split at h
 ·rename_i t v;obtain⟨g,rv,hm,hk⟩:=h;obtain⟨d,hd,hk⟩:=afc hC hk;have e0:(#[Value.iface t v]++args.toArray)[0]? =some (.iface t v):=by simp
  have e1:(#[Value.iface t v]++args.toArray).extract 1 (#[Value.iface t v]++args.toArray).size=args.toArray:=by grind
  have hd':d={target:=.fn (.func g) #[],args:=#[]++(rv::args).toArray}:=by have:(Deferred.ofValue (.func (.func g) #[] #[]) (rv::args).toArray).run C.P w=.ok {target:=.fn (.func g) #[],args:=#[]++(rv::args).toArray} w:=rfl;grind
  have e2:(invoke (.fn (.method name) #[]) (#[.iface t v]++args.toArray)).run C.P w=(callFunc g (#[rv]++args.toArray)).run C.P w:=by simp only[invoke,e0,e1,callMethod,Sem.run_bind,run_program,Result.andThen_ok,hm]
  have e3:(invoke (.fn (.func g) #[]) (#[]++(rv::args).toArray)).run C.P w=(callFunc g (#[rv]++args.toArray)).run C.P w:=by simp only[invoke];grind
  grind
 grind
def ars (hC:l_ C){b:Builtin}{ats:Array TypeId}{ty:TypeId}{cs:Array Bool}{args:List Value}(h:aa2 C b ats ty args w K):
  rq C.P ((builtin b ats ty cs args.toArray).run C.P w) K:=by
 unfold aa2 at h;split at h
 ·exact f_ (h.mono (by intro v w' h;obtain⟨a,n,c,rfl,hk⟩:=xM h;exact hk))
 ·exact f_ (h.mono (by intro v w' h;obtain⟨n,rfl,hk⟩:=BO h;exact hk))
 ·exact f_ h
 ·exact f_ h
 ·obtain⟨x,r,rfl,h1⟩:=jq h;obtain⟨y,r',rfl,h2⟩:=jq h1;obtain⟨rfl,h3⟩:=qP h2;have h:=h3;unfold dI2 at h;split at h
  ·split at h
   ·exact f_ (.of (w':=w) (by simp only[Builtin.min_,List.toList_toArray,List.foldlM_cons,List.foldlM_nil,Builtin.min2,Sem.run_bind,Sem.run_pure,Result.andThen_ok];rfl) h)
   grind
  grind
 ·obtain⟨x,r,rfl,h1⟩:=jq h;obtain⟨y,r',rfl,h2⟩:=jq h1;obtain⟨rfl,h3⟩:=qP h2;have h:=h3;unfold dI2 at h;split at h
  ·split at h
   ·exact f_ (.of (w':=w) (by simp only[Builtin.max_,List.toList_toArray,List.foldlM_cons,List.foldlM_nil,Builtin.max2,Sem.run_bind,Sem.run_pure,Result.andThen_ok];rfl) h)
   grind
  grind
 ·split at h
  ·rename_i t ts hts;split at h
   ·split at h
    ·rename_i i hi;obtain⟨u,hu,hd,hr⟩:=uh hC.ug hi;have hg:ats[0]? =some t:=by rw[<-Array.getElem?_toList,hts];rfl
     split at h
     ·rename_i e he;rw[he]at hd;obtain rfl:=IV hd;obtain⟨a,n,c,rfl,h⟩:=xM h;refine f_ (.of (w':=w) (v:=.int .i64 n) ?_ h);simp[Builtin.len_,hg,hr,goInt]
     ·rename_i he;rw[he]at hd;obtain rfl:=ae5 hd;obtain⟨s,rfl,h⟩:=Hi h;refine f_ (.of (w':=w) (v:=.int .i64 s.size) ?_ h);simp[Builtin.len_,hg,hr,goInt]
     ·exact f_ (h.mono (by intro v w' h;obtain⟨n,rfl,hk⟩:=BO h;exact hk))
    grind
   grind
  grind
 ·exact f_ (h.mono (by intro v w' h;obtain⟨n,rfl,hk⟩:=BO h;exact hk))
 grind
end
def pA {b:Bool}{p:Prop}(h:cond b p False):b=true/\p:=by grind
def PB {C:Cx}(hC:l_ C){o:Oper}{ρ:Env}{w:World}{K:Value->World->Prop}(h:wN C o ρ w K):rq C.P ((execOp (ev ρ) o).run C.P w) K:=by
 unfold wN at h;unfold execOp;cases hop:o.op<;>simp only[hop]at h⊢<;>try exact h.elim
 case move x=>exact h
 case assign x=>exact h
 case pick c a b=>
  split at h
  ·rename_i t ht;rw[ht];cases t
   ·exact h
   ·exact h
  grind
 case alloc t=>
  split at h
  ·rename_i i hi;exact ann hC hi (pA h).2
  grind
 case box t x=>exact arp h
 case build t ps=>
  split at h
  ·rename_i pl Hj;obtain⟨_,h⟩:=IU h;rw[ae4]at h;split at h
   ·rename_i cs hcs;rw[Y0]at hcs;refine f_ (.of (w':=w) (v:=.agg cs.toArray) ?_ h);have:=anq (w:=w) hC Hj hcs;rw[<-this];congr 2;grind
   grind
  grind
 case buildSlice t len ps=>
  split at h
  ·rename_i i hi;split at h
   ·rename_i e he;split at h
    ·rename_i q hq;obtain⟨h1,h⟩:=pA h;obtain⟨h2,h⟩:=pA h;split at h
     ·rename_i cs hcs;rw[Y0]at hcs;have:=adU (w:=w) hC hi he hq h1 (Nat.eq_of_beq_eq_true h2) hcs;refine f_ (.of (w':=w.alloc (.cells cs.toArray e)) (v:=.slice (some ⟨w.heap.size,0,none⟩) len len) ?_ h);rw[<-this];congr 2;grind
     grind
    grind
   grind
  grind
 case load t x=>
  split at h
  ·rename_i p hp;rw[hp];exact aqc hC h
  grind
 case store t x y=>
  split at h
  ·rename_i p hp;rw[hp];exact ano hC h
  grind
 case nilCheck x=>
  split at h
  ·rename_i p hp;obtain⟨a,rfl,h'⟩:=tV h;rw[hp];exact h'
  grind
 case binOp op t x y yt=>
  split at h
  ·rename_i i hi;exact f_ (aqd hC hi (by rintro v rfl;rfl) (by rintro v rfl;rfl) h)
  grind
 case unOp op t x=>
  split at h
  ·rename_i b hb;rw[hb];exact h
  ·rename_i k m hb;rw[hb];exact h
  ·rename_i k m hb;rw[hb];exact h
  grind
 case convert src dst x=>
  split at h
  ·rename_i i hi;exact f_ (ant hC hi h)
  grind
 case makeInterface t x=>
  split at h
  ·rename_i i hi;obtain⟨u,hu,hd,hr⟩:=uh hC.ug hi;split at h
   ·exact h.elim
   ·exact h.elim
   ·rename_i h1 h2;refine f_ (.of (w':=w) (v:=.iface t (ev ρ x)) ?_ h);simp only[Instr.makeInterface,Sem.run_bind,hr,Result.andThen_ok];split
    ·rename_i ms;exact(h1 hd.symm).elim
    ·rfl
  grind
 case makeFunc fn first captured=>
  refine f_ (.of (w':=w) (v:=.func fn (C0 ρ first.toList).toArray (C0 ρ captured.toList).toArray) ?_ h);simp only[Instr.makeFunc,Sem.run_pure,LI];congr 2<;>(grind)
 case makeMap t r=>exact f_ (by rw[Xg]at h;exact h.mono (by intro v w' h;obtain⟨n,rfl,hk⟩:=Gh h;exact hk))
 case makeSlice t l c=>exact f_ (h.mono (by intro v w' h;obtain⟨a,n,c,rfl,hk⟩:=xM h;exact hk))
 case slice t x lo hi mx=>
  split at h
  ·simp only[Xg]at h;exact f_ (h.mono (by intro v w' h;obtain⟨a,n,c,rfl,hk⟩:=xM h;exact hk))
  ·split at h
   ·rename_i i hi';simp only[Xg]at h;split at h
    ·rename_i e he;split at h
     ·rename_i a n c hx;split at h
      ·rename_i q hq;rw[hx];exact f_ (anu hC hi' he hq h)
      grind
     grind
    ·exact f_ (h.mono (by intro v w' h;exact(Px h).2))
   grind
 case fieldAddr t x f=>
  split at h
  ·rename_i i hi;split at h
   ·rename_i fs hfs;split at h
    ·rename_i p hp;split at h
     ·rename_i q hq;cases hz:Nat.beq q.size 0 with
      |true=>grind
      |false=>
       rw[hz]at h;split at h
       ·rename_i p' hp';obtain⟨a,rfl,h'⟩:=tV h;rw[hp'];exact f_ (.of (afb hC hi hfs hp hq hz) h')
       grind
     grind
    grind
   grind
  grind
 case field t x f=>
  split at h
  ·rename_i i hi;split at h
   ·rename_i fs hfs;split at h
    ·rename_i p hp;split at h
     ·rename_i cs hcs;rw[hcs];exact f_ (anv hC hi hfs hp h)
     grind
    grind
   grind
  grind
 case indexAddr t x ix=>
  split at h
  ·rename_i i hi;split at h
   ·rename_i k j hj;split at h
    ·rename_i e he;split at h
     ·rename_i q hq;split at h
      ·rename_i a n c hx;rw[hx,hj];exact f_ (ajc hC hi he hq h)
      grind
     grind
    ·rename_i n e he;split at h
     ·rename_i q hq;split at h
      ·rename_i p hx;rw[hx,hj];exact f_ (ahv hC hi he hq h)
      grind
     grind
    grind
   grind
  grind
 case index t x ix=>
  split at h
  ·rename_i i hi;split at h
   ·rename_i k j hj;split at h
    ·rename_i he;split at h
     ·rename_i s hx;rw[hx,hj];exact f_ (ahx hC hi he h)
     grind
    ·rename_i n e he;split at h
     ·rename_i q hq;split at h
      ·exact h.elim
      ·rename_i hag;split at h
       ·split at h
        ·rename_i cs hx;rw[hx,hj];exact f_ (ahw hC hi he hq hag h)
        grind
       grind
     grind
    grind
   grind
  grind
 case lookup t x ix ok=>exact f_ (h.mono (by intro v w' h;exact Gi h))
 case mapUpdate t m k x=>exact aih h
 case insert t m k x=>exact aih h
 case typeAssert x xt t ok=>
  refine f_ (h.mono ?_);intro v w' h;cases ok with
  |true=>
   simp only[cond_true]at h;obtain⟨l,rfl,h1⟩:=aaZ h;obtain⟨c0,l1,rfl,h2⟩:=jq h1;obtain⟨c1,l2,rfl,h3⟩:=jq (Jn h2);obtain⟨b,rfl,h4⟩:=Gf h3;obtain⟨rfl,h5⟩:=qP h4;exact h5
  |false=>
   simp only[cond_false]at h;exact Jn h
 case extract x i=>
  split at h
  ·rename_i vs hx;split at h
   ·rename_i v hv;rw[Vr,Array.getElem?_toList]at hv;rw[hx];exact f_ (.of (w':=w) (v:=v) (by simp[Instr.extract,hv]) h)
   grind
  grind
 case call c=>
  split at h
  ·rename_i b hb;have:=ars (cs:=c.args.map λ|.const _=>true|_=>false) hC h;simp only[resolve,hb,Sem.run_bind,Sem.run_pure,Result.andThen_ok,invoke];rw[LI]at this;have e:(List.map (ev ρ) c.args.toList).toArray=c.args.map (ev ρ):=by grind
   grind
  ·rename_i f hf;obtain⟨d,hd,hk⟩:=afc hC h;rw[LI]at hd;have e:(List.map (ev ρ) c.args.toList).toArray=c.args.map (ev ρ):=by grind
   rw[e]at hd;simp only[resolve,hf,Sem.run_bind,hd,Result.andThen_ok];unfold rq at hk⊢;split at hk
   ·exact Gi hk
   ·exact Gi hk
   ·exact hk.mono (by intro v w' h;exact Gi h)
   grind
  ·rename_i recv name hf;have hk:=aqf hC h;rw[LI]at hk;have e:(List.map (ev ρ) c.args.toList).toArray=c.args.map (ev ρ):=by grind
   rw[e]at hk;simp only[resolve,hf,Sem.run_bind,Sem.run_pure,Result.andThen_ok];unfold rq at hk⊢;split at hk
   ·exact Gi hk
   ·exact Gi hk
   ·exact hk.mono (by intro v w' h;exact Gi h)
   grind
def Xk:∀(l:List Oper) (i:Nat),xA l i=(l[i]?).bind (·.dst)
 |[],i=>by simp[xA]
 |v::l,0=>by simp[xA]
 |v::l,i+1=>by simp[xA,Xk l i]
def ajd {n:Nat}{ρ:Env}{a:Act}(hr:Rel n ρ a){ops:Array Oper}{j d:Nat}(hd:xA ops.toList j=some d)(hn:d<n):yielded ops a.tmps j=match ρ d with|.bool b=>some b|_=>none:=by
 rw[Xk,Array.getElem?_toList]at hd;have hs:=hr.size;have hg:=hr.get d;have h1:a.tmps[d]? =some (ρ d):=by simp_all
 unfold yielded;grind
def D1 (n:Nat)(K:Env->World->Prop)(e:Exit)(a:Act)(w:World):Prop:=e=.normal/\∃ρ,Rel n ρ a/\K ρ w
def MG {C:Cx}(hC:l_ C){ops:Array Oper}{K:Env->World->Prop}:∀{r:List Oper} {ρ:Env} {w:World} {a:Act},Rel C.n ρ a->GX C ops.toList r ρ w K->
  wpList C.P ops (D1 C.n K) r a w
 |[],ρ,w,a,hr,h=>wpList_nil ⟨rfl,ρ,hr,h⟩
 |o::r,ρ,w,a,hr,h=>by
  obtain⟨hd,h⟩:=pA h;have run:∀{ρ:Env},Rel C.n ρ a->(wN C o ρ w λv w'=>GX C ops.toList r (put ρ o.dst v) w' K)->Region.wanted o (yielded ops a.tmps)=true->wpList C.P ops (D1 C.n K) (o::r) a w:=by intro ρ hr h hw;unfold wpList;rw[if_pos hw];have:=PB hC h;rw[<-hr.eval]at this;exact .inl (this.wp λv w' hk=>MG hC (hr.put v hd) hk)
  have pass:∀{ρ:Env},Rel C.n ρ a->GX C ops.toList r (put ρ o.dst undef) w K->Region.wanted o (yielded ops a.tmps)=false->wpList C.P ops (D1 C.n K) (o::r) a w:=by intro ρ hr h hw;unfold wpList;rw[if_neg (by rw[hw];simp)];exact MG hC (hr.put undef hd) h
  cases hg:o.guard with
  |none=>
   simp only[hg]at h;exact run hr h (by simp[Region.wanted,hg])
  |some p=>
   simp only[hg]at h;split at h
   ·exact h.elim
   ·rename_i d D2;obtain⟨hn,h⟩:=pA h;have hn':d<C.n:=by simp_all
    have hy:=ajd hr D2 hn';split at h
    ·rename_i b hb;rw[hb]at hy;obtain⟨j,want⟩:=p;cases want<;>cases b<;>simp only[cond_true,cond_false]at h
     ·exact run (hr.Jt hb) h (by simp[Region.wanted,hg,hy])
     ·exact pass (hr.Jt hb) h (by simp[Region.wanted,hg,hy])
     ·exact pass (hr.Jt hb) h (by simp[Region.wanted,hg,hy])
     ·exact run (hr.Jt hb) h (by simp[Region.wanted,hg,hy])
    ·rename_i vs hb;rw[hb]at hy;exact pass hr h (by simp[Region.wanted,hg,hy])
    grind
def Fin (C:Cx)(todo:List Item)(ρ:Env)(w:World)(R:Env->World->Prop):Prop:=
 ∀(a:Act) (b:Frame) (cs:List Frame),Rel C.n ρ a->∃ρ' a' w' todo',Rel C.n ρ' a'/\R ρ' w'/\Steps C.P (lone (b.at a todo) cs w) (lone {b.at a' todo' with mode:=.returning} cs w')
def Fin.step {C:Cx}{todo todo':List Item}{ρ ρ':Env}{w w':World}{R:Env->World->Prop}(h:Fin C todo' ρ' w' R)
  (hs:∀(a:Act) (b:Frame) (cs:List Frame),Rel C.n ρ a->∃a',Rel C.n ρ' a'/\Steps C.P (lone (b.at a todo) cs w) (lone (b.at a' todo') cs w')):Fin C todo ρ w R:=by
 intro a b cs hr;obtain⟨a',hr',s⟩:=hs a b cs hr;obtain⟨ρ2,a2,w2,t2,h1,h2,h3⟩:=h a' b cs hr';exact⟨ρ2,a2,w2,t2,h1,h2,s.trans h3⟩
def Fin.same {C:Cx}{todo todo':List Item}{ρ:Env}{w:World}{R:Env->World->Prop}(h:Fin C todo' ρ w R)
  (hs:∀(a:Act) (b:Frame) (cs:List Frame),Go.step C.P (lone (b.at a todo) cs w)=.next (lone (b.at a todo') cs w)):Fin C todo ρ w R:=
 h.step λa b cs hr=>⟨a,hr,.one (hs a b cs)⟩
def Fin.ret {C:Cx}{k:List Item}{ρ:Env}{w:World}{R:Env->World->Prop}(h:R ρ w):Fin C (.code .ret::k) ρ w R:=
 λa b cs hr=>⟨ρ,a,w,_,hr,h,.one step_ret⟩
def Fin.nil {C:Cx}{ρ:Env}{w:World}{R:Env->World->Prop}(h:R ρ w):Fin C [] ρ w R:=
 λa b cs hr=>⟨ρ,a,w,_,hr,h,.one step_end⟩
def Fin.wp {C:Cx}{c:Code}{k:List Item}{ρ:Env}{w:World}{R:Env->World->Prop}{K:Env->World->Prop}(hk:∀ρ' w',K ρ' w'->Fin C k ρ' w' R)
  (h:∀a,Rel C.n ρ a->c.wp C.P (D1 C.n K) a w):Fin C (.code c::k) ρ w R:=by
 intro a b cs hr;obtain⟨e,a1,w1,⟨rfl,ρ1,hr1,hK⟩,au_⟩:=h a hr b k cs;obtain⟨ρ2,a2,w2,t2,h1,h2,h3⟩:=hk ρ1 w1 hK a1 b cs hr1;exact⟨ρ2,a2,w2,t2,h1,h2,Steps.trans au_ h3⟩
def afd (id:Nat):∀(k:List Item),Vq id k=exitTo id k
 |[]=>rfl
 |it::k=>by have ih:=afd id k;cases it<;>simp only[Vq,exitTo,ih];simp_all
def akS (C:Cx)(D:Nat->List Oper->Env->World->(Env->World->Prop)->Prop):Prop:=
 ∀id (ops:Array Oper) ρ w K,D id ops.toList ρ w K->∀a,Rel C.n ρ a->(Code.region id ops true).wp C.P (D1 C.n K) a w
def acU {C:Cx}(hC:l_ C){L:Xe}{R:Env->World->Prop}{D:Nat->List Oper->Env->World->(Env->World->Prop)->Prop}(hD:akS C D):
  ∀(f:Nat) {fst:Bool} {todo:List Item} {ρ:Env} {w:World},(∀p∈leaves (L.map (·.1)) f fst todo,∀q,cutAt L p.1=some q->∀ρ w,q ρ w->Fin C p.2 ρ w R)->
   F1 C L R D f fst todo ρ w->Fin C todo ρ w R:=by
 intro f;induction f with
 |zero=>intro fst todo ρ w _ h;exact h.elim
 |succ f ih=>
  intro fst todo ρ w hL h;cases todo with
  |nil=>exact Fin.nil h
  |cons it k=>
   cases it with
   |inBlock id=>exact(ih hL h).same λa b cs=>step_inBlock
   |inLoop c=>exact(ih hL h).same λa b cs=>step_inLoop
   |code c=>
    cases c with
    |skip=>exact(ih hL h).same λa b cs=>step_skip
    |seq x y=>exact(ih hL h).same λa b cs=>step_seq
    |block id c=>exact(ih hL h).same λa b cs=>step_block
    |loop c=>exact(ih hL h).same λa b cs=>step_loop
    |exit id=>
     simp only[F1]at h;simp only[leaves]at hL;split at h
     ·rename_i k' hk';rw[hk']at hL;rw[afd]at hk';exact(ih hL h).same λa b cs=>step_exit hk'
     grind
    |ret=>exact Fin.ret h
    |cond x thn els=>
     simp only[F1]at h;simp only[leaves,List.mem_append]at hL;split at h
     ·rename_i t ht;have hput:∀a,Rel C.n ρ a->Rel C.n (ank ρ x (.bool t)) a:=by
       intro a hr;cases x with
       |tmp s=>exact hr.Jt ht
       |_=>exact hr
      cases t with
      |true=>
       refine(ih (λp hp=>hL p (.inl hp)) h).step λa b cs hr=>⟨a,hput a hr,.one ?_⟩;exact step_cond (t:=true) (by rw[hr.eval];exact ht)
      |false=>
       refine(ih (λp hp=>hL p (.inr hp)) h).step λa b cs hr=>⟨a,hput a hr,.one ?_⟩;exact step_cond (t:=false) (by rw[hr.eval];exact ht)
     grind
    |region id ops dr=>
     simp only[F1]at h;simp only[leaves]at hL;have go:(aro C D id ops dr ρ w λρ' w'=>F1 C L R D f false k ρ' w')->
       (∀p∈leaves (L.map (·.1)) f false k,∀q,cutAt L p.1=some q->∀ρ w,q ρ w->Fin C p.2 ρ w R)->Fin C (.code (.region id ops dr)::k) ρ w R:=by
      intro h' hL';cases dr with
      |false=>
       refine Fin.wp (λρ' w' hk=>ih hL' hk) λa hr=>?_;exact wp_region_list (MG hC hr h')
      |true=>exact Fin.wp (λρ' w' hk=>ih hL' hk) λa hr=>hD id ops ρ w _ h' a hr
     cases fst with
     |true=>exact go h hL
     |false=>
      have hc:∀(L:Xe),(cutAt L id).isSome=(L.map (·.1)).contains id:=by
       intro L;induction L with
       |nil=>rfl
       |cons p L ihL=>
        simp only[cutAt,List.map_cons,List.contains_cons];cases hb:Nat.beq id p.1 with
        |true=>
         have:=Nat.eq_of_beq_eq_true hb;rw[this];simp
        |false=>
         have hne:(id==p.1)=false:=by rw[beq_eq_false_iff_ne];intro e;rw[e]at hb;simp[Nat.beq_refl]at hb
         grind
      cases hq:cutAt L id with
      |some q=>
       have:=hc L;rw[hq]at this;simp only[hq]at h;simp only[<-this]at hL;exact hL (id,.code (.region id ops dr)::k) (by simp) q hq ρ w h
      |none=>
       have:=hc L;rw[hq]at this;simp only[hq]at h;simp only[<-this]at hL;exact go h hL
    |_=>exact h.elim
   |_=>exact h.elim
def isInt (C:Cx)(t:TypeId):Bool:=match C.T t with
 |some i=>match i.d with|.int _=>true|_=>false
 |none=>false
def aru (C:Cx)(t:TypeId):Bool:=match C.T t with
 |some i=>match i.d with|.slice _=>true|_=>false
 |none=>false
def isLen (C:Cx)(t:TypeId):Bool:=match C.T t with
 |some i=>match i.d with|.slice _=>true|.str=>true|_=>false
 |none=>false
def Cn (C:Cx)(o:Oper):Bool:=match o.op with
 |.move _=>true
 |.pick _ _ _=>true
 |.load _ _=>true
 |.nilCheck _=>true
 |.unOp _ _ _=>true
 |.makeInterface _ _=>true
 |.makeFunc _ _ _=>true
 |.build _ _=>true
 |.fieldAddr _ _ _=>true
 |.field _ _ _=>true
 |.indexAddr _ _ _=>true
 |.index _ _ _=>true
 |.extract _ _=>true
 |.binOp _ t x y _=>match C.T t with
  |some i=>match i.d with
   |.int _=>true
   |.str=>true
   |.bool=>true
   |d=>CZ d y||CZ d x
  |none=>false
 |.convert s t _=>isInt C s&&isInt C t
 |.slice t _ _ _ mx=>match mx with|some _=>false|none=>aru C t
 |.call c=>match c.callee with
  |.builtin b=>match b with
   |.len=>match c.argTypes.toList with
    |t::_=>isLen C t
    |[]=>false
   |.min=>true
   |.max=>true
   |_=>false
  |_=>false
 |_=>false
def Xl (a:Addr):Nat->List Value->List (Addr×Value)
 |_,[]=>[]
 |i,v::l=>(a.add i,v)::Xl a (i+1) l
def Nr:Value->List Value|.agg cs=>cs.toList|_=>[]
def vF (C:Cx)(o:Oper)(ρ:Env)(v:Value):List (Addr×Value):=match o.op with
 |.load t x=>match ev ρ x with
  |.pointer p=>match p with
   |some a=>match C.T t with
    |some i=>match i.agg with
     |true=>Xl a 0 (Nr v)
     |false=>[(a,v)]
    |none=>[]
   |none=>[]
  |_=>[]
 |_=>[]
def xB:List (Addr×Value)->World->Prop
 |[],_=>True
 |p::l,w=>w.cell? p.1=some p.2/\xB l w
def acV {l:Lf}{a:Addr}{w:World}{K:Value->Prop}(h:ld1 l a w K):∃v,K v/\w.cell? a=some v/\∀w',w'.cell? a=some v->∀K':Value->Prop,K' v->ld1 l a w' K':=by
 cases l with
 |int k=>obtain⟨n,h1,h2⟩:=h;exact⟨_,h2,h1,λw' h K' hk=>⟨n,h,hk⟩⟩
 |bool=>obtain⟨n,h1,h2⟩:=h;exact⟨_,h2,h1,λw' h K' hk=>⟨n,h,hk⟩⟩
 |str=>obtain⟨n,h1,h2⟩:=h;exact⟨_,h2,h1,λw' h K' hk=>⟨n,h,hk⟩⟩
 |ptr=>obtain⟨n,h1,h2⟩:=h;exact⟨_,h2,h1,λw' h K' hk=>⟨n,h,hk⟩⟩
 |sl=>obtain⟨b,n,c,h1,h2⟩:=h;exact⟨_,h2,h1,λw' h K' hk=>⟨b,n,c,h,hk⟩⟩
 |map=>obtain⟨n,h1,h2⟩:=h;exact⟨_,h2,h1,λw' h K' hk=>⟨n,h,hk⟩⟩
 |any=>obtain⟨v,h1,h3,h2⟩:=h;exact⟨_,h2,h1,λw' h K' hk=>⟨v,h,h3,hk⟩⟩
def Rt:∀{ls:List Lf} {a:Addr} {i:Nat} {w:World} {K:List Value->Prop},Nm ls a i w K->
  ∃vs,K vs/\xB (Xl a i vs) w/\∀w',xB (Xl a i vs) w'->∀K':List Value->Prop,K' vs->Nm ls a i w' K'
 |[],a,i,w,K,h=>⟨[],h,trivial,λw' _ K' hk=>hk⟩
 |l::ls,a,i,w,K,h=>by obtain⟨v,h,hc,hv⟩:=acV h;obtain⟨vs,hk,hh,hvs⟩:=Rt h;exact⟨v::vs,hk,⟨hc,hh⟩,λw' hw K' hk'=>hv w' hw.1 _ (hvs w' hw.2 _ hk')⟩
def ahy {op:BinOp}{k:IntKind}{a b:Int}{K:Value->Prop}(h:arith op k a b K):∃v,K v/\∀K':Value->Prop,K' v->arith op k a b K':=by
 cases op<;>simp[arith]at h⊢<;>first
  |grind
  |(obtain⟨h1,h2⟩:=h;exact⟨_,h2,λK' hk=>⟨h1,hk⟩⟩)
def D3 {op:BinOp}{r:Bool}{K:Value->Prop}(h:Rr op r λr=>K (.bool r)):∃v,K v/\∀K':Value->Prop,K' v->Rr op r λr=>K' (.bool r):=by cases op<;>simp[Rr]at h⊢<;>exact⟨_,h,λK' hk=>hk⟩
def WG {d:TD}{op:BinOp}{a:Value}{K:Value->Prop}(h:Py d a λr=>Rr op r λr=>K (.bool r)):∃v,K v/\∀K':Value->Prop,K' v->Py d a λr=>Rr op r λr=>K' (.bool r):=by
 cases d<;>simp[Py]at h⊢
 ·obtain⟨p,rfl,h⟩:=Gg h;exact D3 h
 ·obtain⟨p,rfl,h⟩:=Gh h;exact D3 h
 ·rcases Xi h with⟨rfl,h⟩|⟨_,_,rfl,h⟩<;>exact D3 h
 ·rcases Xj h with⟨rfl,h⟩|⟨_,_,_,rfl,h⟩<;>exact D3 h
 ·obtain⟨p,n,c,rfl,h⟩:=xM h;exact D3 h
def akT {l:Lf}{v:Value}{K:Value->Prop}(h:WE l v K):∃u,K u/\∀K':Value->Prop,K' u->WE l v K':=by
 cases l with
 |int k=>obtain⟨n,rfl,h'⟩:=BO h;exact⟨_,h',λK' hk=>by simp[WE,dI,Nat.beq_refl,cond_true];exact hk⟩
 |bool=>obtain⟨n,rfl,h'⟩:=Gf h;exact⟨_,h',λK' hk=>hk⟩
 |str=>obtain⟨n,rfl,h'⟩:=Hi h;exact⟨_,h',λK' hk=>hk⟩
 |ptr=>obtain⟨n,rfl,h'⟩:=Gg h;exact⟨_,h',λK' hk=>hk⟩
 |sl=>obtain⟨b,n,c,rfl,h'⟩:=xM h;exact⟨_,h',λK' hk=>hk⟩
 |map=>obtain⟨n,rfl,h'⟩:=Gh h;exact⟨_,h',λK' hk=>hk⟩
 |any=>obtain⟨h1,h'⟩:=aa0 h;exact⟨_,h',λK' hk=>by simp[WE,dV,h1,cond_true];exact hk⟩
def ahz {T:tR}{t:TypeId}{cs:Array Value}{off:Nat}{K:Value->Prop}(h:PA T t cs off K):∃v,K v/\∀K':Value->Prop,K' v->PA T t cs off K':=by
 unfold PA at*;split at h
 all_goals grind
def akU {C:Cx}{t:TypeId}{a:Addr}{w:World}{K:Value->Prop}(h:ldT C.T t a w K):
  ∃v i,K v/\C.T t=some i/\xB (match i.agg with|true=>Xl a 0 (Nr v)|false=>[(a,v)]) w/\∀w',xB (match i.agg with|true=>Xl a 0 (Nr v)|false=>[(a,v)]) w'->∀K':Value->Prop,K' v->ldT C.T t a w' K':=by
 unfold ldT at h⊢;cases hi:C.T t with
 |none=>grind
 |some i=>
  rw[hi]at h;simp only at h;cases hag:i.agg with
  |true=>
   rw[hag]at h;obtain⟨hl,h⟩:=pA h;obtain⟨vs,hk,hh,hv⟩:=Rt h;refine⟨_,i,hk,rfl,?_,λw' hw K' hk'=>?_⟩
   ·rw[hag];simpa[Nr]using hh
   ·rw[hag]at hw;simp[hag,hl,cond_true];exact hv w' (by simpa[Nr]using hw) _ hk'
  |false=>
   rw[hag]at h;cases hf:i.lf with
   |nil=>grind
   |cons f fs=>
    rw[hf]at h;obtain⟨v,hk,hc,hv⟩:=acV h;refine⟨v,i,hk,rfl,?_,λw' hw K' hk'=>?_⟩
    ·rw[hag];exact⟨hc,trivial⟩
    ·rw[hag]at hw;simp[hag,hf];exact hv w' hw.1 _ hk'
def aje {C:Cx}{o:Oper}{ρ:Env}{w:World}{K:Value->World->Prop}(hq:Cn C o=true)(h:wN C o ρ w K):
  ∃v,K v w/\xB (vF C o ρ v) w/\∀w',xB (vF C o ρ v) w'->∀K':Value->World->Prop,K' v w'->wN C o ρ w' K':=by
 have pure:(∀v,vF C o ρ v=[])->(∃v,K v w/\∀w' (K':Value->World->Prop),K' v w'->wN C o ρ w' K')->
   ∃v,K v w/\xB (vF C o ρ v) w/\∀w',xB (vF C o ρ v) w'->∀K':Value->World->Prop,K' v w'->wN C o ρ w' K':=by
  rintro h0 ⟨v,h1,h2⟩;exact⟨v,h1,by rw[h0];trivial,λw' _=>h2 w'⟩
 unfold Cn at hq;cases hop:o.op<;>simp only[hop,Bool.false_eq_true]at hq
 case load t x=>
  unfold wN at h;simp[hop]at h;split at h
  ·rename_i p hp;obtain⟨a,rfl,h'⟩:=tV h;obtain⟨v,i,hk,hi,hh,hf⟩:=akU h';have hff:vF C o ρ v=(match i.agg with|true=>Xl a 0 (Nr v)|false=>[(a,v)]):=by simp[vF,hop,hp,hi]
   refine⟨v,hk,by grind,λw' hw K' hk'=>?_⟩;rw[hff]at hw;unfold wN;simp[hop,hp];exact hf w' hw (λv=>K' v w') hk'
  grind
 all_goals apply pure (λv=>by simp[vF,hop])
 all_goals unfold wN at h⊢;simp only[hop]at h⊢
 case move x=>grind
 case pick c a b=>
  grind
 case build t ps=>
  split at h
  ·obtain⟨ha,h⟩:=IU h;split at h
   ·try simp[Hj]
    exact⟨_,h,λw' K' hk=>ME ha (by grind)⟩
   grind
  grind
 case nilCheck x=>
  split at h
  ·obtain⟨a,rfl,h'⟩:=tV h;exact⟨_,h',λw' K' hk=>hk⟩
  grind
 case binOp op t x y yt=>
  split at h
  ·rename_i i hi;simp[hi]at hq⊢;unfold ai_ at h⊢;split at h
   ·try simp[hd]
    split at h
    ·split at h
     ·try simp[ha,hb]
      split at h
      ·exact⟨_,h.2,λw' K' hk=>⟨h.1,hk⟩⟩
      ·exact⟨_,h.2,λw' K' hk=>⟨h.1,hk⟩⟩
      ·obtain⟨hk,h⟩:=pA h;obtain⟨v,hv,ha⟩:=ahy h;refine⟨v,hv,λw' K' hk'=>?_⟩;rw[hk];exact ha (λv=>K' v w') hk'
     ·exact h.elim
    ·exact h.elim
   ·try simp[hd]
    split at h
    ·split at h
     ·try simp[ha,hb]
      split at h
      ·exact⟨_,h,λw' K' hk=>hk⟩
      ·exact⟨_,h,λw' K' hk=>hk⟩
      ·exact h.elim
     ·exact h.elim
    ·exact h.elim
   ·try simp[hd]
    split at h
    ·split at h
     ·try simp[ha,hb]
      obtain⟨v,hv,ha⟩:=D3 (K:=λv=>K v w) h;exact⟨v,hv,λw' K' hk=>ha (λv=>K' v w') hk⟩
     ·exact h.elim
    ·exact h.elim
   ·rename_i d h1 h2 h3;have Jv:(CZ i.d y||CZ i.d x)=true:=by
     split at hq
     ·rename_i k hk;exact(h1 k hk).elim
     ·rename_i hk;exact(h2 hk).elim
     ·rename_i hk;exact(h3 hk).elim
     ·exact hq
    split at h
    ·obtain⟨v,hv,ha⟩:=WG (K:=λv=>K v w) h;refine⟨v,hv,λw' K' hk=>?_⟩;exact ha (λv=>K' v w') hk
    ·rename_i hn;split at h
     ·obtain⟨v,hv,ha⟩:=WG (K:=λv=>K v w) h;refine⟨v,hv,λw' K' hk=>?_⟩;exact ha (λv=>K' v w') hk
     ·rename_i hn';rw[hn,hn']at Jv;exact absurd Jv (by simp)
  grind
 case unOp op t x=>
  split at h
  ·exact⟨_,h,λw' K' hk=>hk⟩
  ·exact⟨_,h,λw' K' hk=>hk⟩
  ·exact⟨_,h,λw' K' hk=>hk⟩
  ·exact h.elim
 case convert s t x=>
  simp[Bool.and_eq_true]at hq;split at h
  ·rename_i i hi
   try simp[hi]
   unfold aeQ at h⊢;have h1:=hq.1;unfold isInt at h1;simp[hi]at h1;split at h
   ·try simp[hk]
    split at h
    ·rename_i j hj;have h2:=hq.2;unfold isInt at h2;simp[hj]at h2⊢;split at h
     ·try simp[hk']
      split at h
      ·try simp[hn]
       exact⟨_,h,λw' K' hk=>hk⟩
      ·exact h.elim
     ·rename_i hno;split at h2
      ·rename_i k' hk';exact(hno k' hk').elim
      ·cases h2
    ·exact h.elim
   ·rename_i hno;split at h1
    ·rename_i k' hk';exact(hno k' hk').elim
    ·cases h1
  ·exact h.elim
 case makeInterface t x=>
  split at h
  ·split at h
   ·exact h.elim
   ·exact h.elim
   ·exact⟨_,h,λw' K' hk=>hk⟩
  ·exact h.elim
 case makeFunc fn first captured=>exact⟨_,h,λw' K' hk=>hk⟩
 case slice t x lo hi mx=>
  split at h
  ·cases hq
  ·split at h
   ·rename_i i hi';unfold aru at hq;simp[hi']at hq⊢;split at h
    ·split at h
     ·split at h
      ·try simp[hx,hqq]
       obtain⟨l,h,hl⟩:=Vs (P:=C.P) h;obtain⟨hh,h,hhi⟩:=Vs (P:=C.P) h;obtain⟨b1,b2,h⟩:=h;refine⟨_,h,λw' K' hk=>?_⟩;rcases hl with⟨e1,rfl⟩|⟨k1,n1,e1,rfl⟩<;>rcases hhi with⟨e2,rfl⟩|⟨k2,n2,e2,rfl⟩<;>rw[e1,e2]<;>exact⟨b1,b2,hk⟩
      ·exact h.elim
     ·exact h.elim
    ·rename_i hno;split at hq
     ·rename_i e he;exact(hno e he).elim
     ·cases hq
   ·exact h.elim
 case fieldAddr t x f=>
  split at h
  ·split at h
   ·split at h
    ·split at h
     ·rename_i q hqq
      try simp[hi,hfs,hp,hqq]
      cases hz:Nat.beq q.size 0 with
      |true=>rw[hz]at h;exact h.elim
      |false=>
       rw[hz]at h;split at h
       ·obtain⟨a,rfl,h'⟩:=tV h;exact⟨_,h',λw' K' hk=>hk⟩
       ·exact h.elim
     ·exact h.elim
    ·exact h.elim
   ·exact h.elim
  ·exact h.elim
 case field t x f=>
  split at h
  ·split at h
   ·split at h
    ·split at h
     ·try simp[hi,hfs,hp,hcs]
      obtain⟨v,hv,ha⟩:=ahz h;exact⟨v,hv,λw' K' hk=>ha (λv=>K' v w') hk⟩
     ·exact h.elim
    ·exact h.elim
   ·exact h.elim
  ·exact h.elim
 case indexAddr t x ix=>
  split at h
  ·split at h
   ·split at h
    ·split at h
     ·split at h
      ·obtain⟨h0,h1,h⟩:=h;obtain⟨ad,rfl,h'⟩:=tV h
       try simp[hi,hj,he,hqq,hx]
       exact⟨_,h',λw' K' hk=>⟨h0,h1,hk⟩⟩
      ·exact h.elim
     ·exact h.elim
    ·split at h
     ·split at h
      ·obtain⟨ad,rfl,h'⟩:=tV h;obtain⟨h0,h1,h⟩:=h'
       try simp[hi,hj,he,hqq,hx]
       exact⟨_,h,λw' K' hk=>⟨h0,h1,hk⟩⟩
      ·exact h.elim
     ·exact h.elim
    ·exact h.elim
   ·exact h.elim
  ·exact h.elim
 case index t x ix=>
  split at h
  ·split at h
   ·split at h
    ·split at h
     ·obtain⟨h0,h1,h⟩:=h
      try simp[hi,hj,he,hx]
      exact⟨_,h,λw' K' hk=>⟨h0,h1,hk⟩⟩
     ·exact h.elim
    ·split at h
     ·split at h
      ·exact h.elim
      ·split at h
       ·split at h
        ·obtain⟨h0,h1,h⟩:=h;obtain⟨hb,h⟩:=pA h;obtain⟨v,hv,h⟩:=h;obtain⟨u,hu,h⟩:=akT h
         try simp[hi,hj,he,hqq,hag,hf,hx]
         exact⟨u,hu,λw' K' hk=>⟨h0,h1,by rw[hb];exact⟨v,hv,h (λv=>K' v w') hk⟩⟩⟩
        ·exact h.elim
       ·exact h.elim
     ·exact h.elim
    ·exact h.elim
   ·exact h.elim
  ·exact h.elim
 case extract x i=>
  split at h
  ·split at h
   ·try simp[hx,hv]
    exact⟨_,h,λw' K' hk=>hk⟩
   ·exact h.elim
  ·exact h.elim
 case call c=>
  split at h
  ·rename_i b hb;simp[hb]at hq⊢;cases b<;>simp[Bool.false_eq_true]at hq
   case len=>
    unfold aa2 at h⊢;simp only at h⊢;split at h
    ·rename_i t ts hts;simp[hts]at hq⊢;split at h
     ·rename_i v vs hvs
      try simp[hvs]
      split at h
      ·rename_i i hi;unfold isLen at hq;simp[hi]at hq⊢;split at h
       ·rename_i e he
        try simp[he]
        obtain⟨a,n,c,rfl,h⟩:=xM h;exact⟨_,h,λw' K' hk=>hk⟩
       ·rename_i he
        try simp[he]
        obtain⟨s,rfl,h⟩:=Hi h;exact⟨_,h,λw' K' hk=>hk⟩
       ·rename_i h1 h2;split at hq
        ·rename_i e he;exact(h1 e he).elim
        ·rename_i he;exact(h2 he).elim
        ·cases hq
      ·exact h.elim
     ·exact h.elim
    ·exact h.elim
   case max=>
    unfold aa2 at h⊢;simp only at h⊢;obtain⟨x,r,e1,h⟩:=jq h;obtain⟨y,r',e2,h⟩:=jq h;obtain⟨e3,h⟩:=qP h
    try simp[e1,e2,e3]
    unfold dI2 at h;split at h
    ·split at h
     ·exact⟨_,h,λw' K' hk=>hk⟩
     ·exact h.elim
    ·exact h.elim
   case min=>
    unfold aa2 at h⊢;simp only at h⊢;obtain⟨x,r,e1,h⟩:=jq h;obtain⟨y,r',e2,h⟩:=jq h;obtain⟨e3,h⟩:=qP h
    try simp[e1,e2,e3]
    unfold dI2 at h;split at h
    ·split at h
     ·exact⟨_,h,λw' K' hk=>hk⟩
     ·exact h.elim
    ·exact h.elim
  ·exact absurd hq (by simp[*])
  ·exact absurd hq (by simp[*])
inductive IG where
 |done
 |op (i:Nat) (s:IG)
 |br (a b:IG)
def Jw:List Oper->Nat->Option Oper
 |[],_=>none
 |o::_,0=>some o
 |_::l,i+1=>Jw l i
def Jo:∀(l:List Oper) (i:Nat),Jw l i=l[i]?
 |[],i=>by simp[Jw]
 |v::l,0=>by simp[Jw]
 |v::l,i+1=>by simp[Jw,Jo l i]
def MH:List Nat->Nat->Nat
 |[],_=>0
 |v::_,0=>v
 |_::l,i+1=>MH l i
def LJ (acc:List Nat):List Edge->Nat
 |[]=>0
 |e::l=>cond (Region.binds .any e) (2^e.on|||MH acc e.on|||LJ acc l) (LJ acc l)
def LK:List Oper->List Nat->List Nat
 |[],acc=>acc
 |o::r,acc=>LK r (acc++[LJ acc o.after.toList])
def zO (m:List Nat)(i j:Nat):Bool:=(MH m i).testBit j
abbrev Gj:=List (Nat×List (Addr×Value))
def ajf:List (Addr×Value)->World->Prop->Prop
 |[],_,K=>K
 |p::l,w,K=>w.cell? p.1=some p.2/\ajf l w K
def IW (m:List Nat)(i:Nat):Gj->World->Prop->Prop
 |[],_,K=>K
 |p::H,w,K=>cond (zO m i p.1) (IW m i H w K) (ajf p.2 w (IW m i H w K))
def BP (all:List Oper)(o:Oper)(ρ:Env):Option Bool:=match o.guard with
 |none=>some true
 |some p=>match xA all p.1 with
  |none=>none
  |some d=>match ρ d with
   |.bool b=>some (b==p.2)
   |.tuple _=>some false
   |_=>none
def Ap (C:Cx)(all:List Oper)(m:List Nat):IG->Gj->Env->World->(Env->World->Prop)->Prop
 |.done,_,ρ,w,K=>K ρ w
 |.br a b,H,ρ,w,K=>Ap C all m a H ρ w K/\Ap C all m b H ρ w K
 |.op i s,H,ρ,w,K=>match Jw all i with
  |none=>False
  |some o=>cond (GW C.n o.dst) (match o.guard with
   |none=>cond (Cn C o) (wN C o ρ w λv w'=>Ap C all m s ((i,vF C o ρ v)::H) (put ρ o.dst v) w' K)
     (wN C o ρ w λv w'=>IW m i H w' (Ap C all m s H (put ρ o.dst v) w' K))
   |some p=>match xA all p.1 with
    |none=>False
    |some d=>cond (Nat.blt d C.n) (match ρ d with
     |.bool b=>match p.2 with
      |true=>cond b
       (cond (Cn C o) (wN C o (put ρ (some d) (.bool true)) w λv w'=>Ap C all m s ((i,vF C o (put ρ (some d) (.bool true)) v)::H) (put (put ρ (some d) (.bool true)) o.dst v) w' K)
        (wN C o (put ρ (some d) (.bool true)) w λv w'=>IW m i H w' (Ap C all m s H (put (put ρ (some d) (.bool true)) o.dst v) w' K)))
       (Ap C all m s H (put (put ρ (some d) (.bool false)) o.dst undef) w K)
      |false=>cond b
       (Ap C all m s H (put (put ρ (some d) (.bool true)) o.dst undef) w K)
       (cond (Cn C o) (wN C o (put ρ (some d) (.bool false)) w λv w'=>Ap C all m s ((i,vF C o (put ρ (some d) (.bool false)) v)::H) (put (put ρ (some d) (.bool false)) o.dst v) w' K)
        (wN C o (put ρ (some d) (.bool false)) w λv w'=>IW m i H w' (Ap C all m s H (put (put ρ (some d) (.bool false)) o.dst v) w' K)))
     |.tuple _=>Ap C all m s H (put ρ o.dst undef) w K
     |_=>False) False) False
def oB:Nat->List Nat->Bool
 |_,[]=>false
 |i,j::l=>cond (Nat.beq i j) true (oB i l)
def Gk (ex:List Nat):List Edge->Bool
 |[]=>true
 |e::l=>cond (Region.binds .any e) (oB e.on ex&&Gk ex l) (Gk ex l)
def D4 (i:Nat):List Edge->Bool
 |[]=>true
 |e::l=>cond (Region.binds .any e) (Nat.blt e.on i&&D4 i l) (D4 i l)
def EI:IG->List Nat
 |.done=>[]
 |.op i _=>[i]
 |.br a b=>EI a++EI b
def BQ (C:Cx)(ex hs:List Nat):Nat->List Oper->Bool
 |_,[]=>true
 |j,o::r=>(oB j ex||!Gk ex o.after.toList||(!Cn C o&&oB j hs))&&BQ C ex hs (j+1) r
def ajg (ex:List Nat):Nat->List Oper->Bool
 |_,[]=>true
 |j,_::r=>oB j ex&&ajg ex (j+1) r
def arv (C:Cx)(all:List Oper):List Nat->Bool
 |[]=>true
 |i::l=>(match Jw all i with|some o=>!Cn C o|none=>false)&&arv C all l
def dA (C:Cx)(all:List Oper):Bool->IG->List Nat->Bool
 |_,.done,ex=>ajg ex 0 all
 |top,.op i s,ex=>match Jw all i with
  |none=>false
  |some o=>!oB i ex&&Gk ex o.after.toList&&(Cn C o||!top||BQ C ex [i] 0 all)&&dA C all true s (i::ex)
 |top,.br a b,ex=>(!top||(BQ C ex (EI a++EI b) 0 all&&arv C all (EI a++EI b)))&&dA C all false a ex&&dA C all false b ex
def looks (all:List Oper)(o:Oper):List Nat:=(o.op.operands.toList.filterMap λ|.tmp t=>some t|_=>none)++(match o.guard with|some p=>(match xA all p.1 with|some d=>[d]|none=>[])|none=>[])
def Vt (C:Cx)(all:List Oper)(m:List Nat)(i:Nat)(o:Oper):Nat->List Oper->Bool
 |_,[]=>true
 |j,q::r=>(Nat.beq i j||(
  (match o.dst with
   |none=>true
   |some d=>(match q.dst with|some e=>!Nat.beq d e|none=>true)&&(!oB d (looks all q)||zO m j i))&&
  (match q.dst with
   |none=>true
   |some e=>!oB e (looks all o)||zO m i j||(zO m j i&&!Cn C q))))&&Vt C all m i o (j+1) r
def Ns (C:Cx)(all:List Oper)(m:List Nat):Nat->List Oper->Bool
 |_,[]=>true
 |i,o::r=>(!Cn C o||(Vt C all m i o 0 all&&!(match o.dst with|some d=>oB d (looks all o)|none=>false)))&&D4 i o.after.toList&&Ns C all m (i+1) r
def Y1:List Oper->Bool
 |[]=>true
 |o::r=>(match o.op with|.select _ _=>false|_=>true)&&Y1 r
def Xm (C:Cx)(all:List Oper)(m:List Nat)(s:IG):Bool:=dA C all true s []&&Ns C all m 0 all&&Y1 all
def rQ {i:Nat}:∀{l:List Nat},oB i l=true↔i∈l
 |[]=>by simp[oB]
 |j::l=>by have ih:=@rQ i l;simp only[oB];simp_all
def GY {ex:List Nat}:∀{l:List Edge},Gk ex l=true↔∀e∈l,Region.binds .any e=true->e.on∈ex
 |[]=>by simp[Gk]
 |e::l=>by
  have ih:=@GY ex l;simp only[Gk];cases hb:Region.binds .any e with
  |true=>simp[rQ,ih,hb]
  |false=>simp[ih,hb]
def Ru {i:Nat}:∀{l:List Edge},D4 i l=true↔∀e∈l,Region.binds .any e=true->e.on<i
 |[]=>by simp[D4]
 |e::l=>by
  have ih:=@Ru i l;simp only[D4];cases hb:Region.binds .any e with
  |true=>simp_all
  |false=>simp[ih,hb]
def Td {C:Cx}{ex hs:List Nat}:∀{l:List Oper} {k:Nat},BQ C ex hs k l=true->∀j o,l[j]? =some o->(k+j)∈ex\/(¬∀e∈o.after.toList,Region.binds .any e=true->e.on∈ex)\/(Cn C o=false/\(k+j)∈hs)
 |[],_,_,_,_,h=>by simp at h
 |o::l,k,h,0,q,hq=>by
  simp only[BQ,Bool.and_eq_true,Bool.or_eq_true]at h;simp at hq;rcases h.1 with(h1|h1)|h1
  ·exact .inl (by simpa[rQ]using h1)
  ·refine .inr (.inl ?_);intro hall;have:=GY.2 hall;grind
  ·exact .inr (.inr ⟨by grind,by simpa[rQ]using h1.2⟩)
 |o::l,k,h,j+1,q,hq=>by simp only[BQ,Bool.and_eq_true]at h;have:=Td h.2 j q (by grind);grind
def afe (all:List Oper)(L:Nat->Prop):Prop:=∀i o,all[i]? =some o->L i->∀e∈o.after.toList,Region.binds .any e=true->L e.on
def Good (all:List Oper)(m:List Nat):Prop:=∀i o,all[i]? =some o->∀j,zO m i j=true->∀L:Nat->Prop,afe all L->(∀e∈o.after.toList,Region.binds .any e=true->L e.on)->L j
def WH (acc:List Nat)(x i:Nat):MH (acc++[x]) i=if i<acc.length then MH acc i else if i=acc.length then x else 0:=by
 induction acc generalizing i with
 |nil=>cases i<;>simp[MH]
 |cons a acc ih=>
  cases i with
  |zero=>simp[MH]
  |succ i=>simp[MH,ih]
def PC {acc:List Nat}{j:Nat}:∀{l:List Edge},(LJ acc l).testBit j=true->∃e∈l,Region.binds .any e=true/\(e.on=j\/(MH acc e.on).testBit j=true)
 |[],h=>by simp[LJ]at h
 |e::l,h=>by
  simp only[LJ]at h;cases hb:Region.binds .any e with
  |true=>
   rw[hb]at h;simp only[cond_true,Nat.testBit_or,Bool.or_eq_true]at h;rcases h with(h|h)|h
   ·grind
   ·grind
   ·obtain⟨e',h1,h2⟩:=PC h;grind
  |false=>
   rw[hb]at h;obtain⟨e',h1,h2⟩:=PC h;grind
def Y2 (all:List Oper):∀(r:List Oper) (pre:List Oper) (acc:List Nat),all=pre++r->acc.length=pre.length->
  (∀i o,pre[i]? =some o->∀j,zO acc i j=true->∀L:Nat->Prop,afe all L->(∀e∈o.after.toList,Region.binds .any e=true->L e.on)->L j)->(∀i,pre.length<=i->∀j,zO acc i j=false)->Good all (LK r acc)
 |[],pre,acc,he,hl,hg,h0=>by intro i o hi;simp only[LK];grind
 |o::r,pre,acc,he,hl,hg,h0=>by
  refine Y2 all r (pre++[o]) _ (by rw[he];simp) (by simp[hl]) ?_ ?_
  ·intro i q hi j ha L hL hd;have Hl:∀i j,zO (acc++[LJ acc o.after.toList]) i j=if i<acc.length then zO acc i j else if i=acc.length then(LJ acc o.after.toList).testBit j else false:=by intro i j;unfold zO;rw[WH];grind
   rw[Hl]at ha;by_cases hlt:i<pre.length
   ·grind
   ·by_cases heq:i=pre.length
    ·rw[if_neg (by omega),if_pos (by omega)]at ha;subst heq;simp at hi;subst hi;obtain⟨e,h1,h2,h3⟩:=PC ha;rcases h3 with rfl|h3
     ·grind
     ·have hLe:=hd e h1 h2;by_cases ava:e.on<pre.length
      ·have hsome:∃q,pre[e.on]? =some q:=⟨pre[e.on],by simp[ava]⟩;obtain⟨q,hq⟩:=hsome;refine hg e.on q hq j h3 L hL (hL e.on q ?_ hLe);grind
      ·have:=h0 e.on (by omega) j;unfold zO at this;grind
    grind
  ·intro i hi j;unfold zO;rw[WH];grind
def anw (all:List Oper):Good all (LK all []):=
 Y2 all all [] [] rfl rfl (by intro i o h;simp at h) (by intro i _ j;simp[zO,MH])
structure Vu (C:Cx) (all:List Oper) (m:List Nat):Prop where
 down:∀(i:Nat) (o:Oper),all[i]? =some o->∀e∈o.after.toList,Region.binds .any e=true->e.on<i
 self:∀(i:Nat) (o:Oper),all[i]? =some o->Cn C o=true->∀d,o.dst=some d->d∉looks all o
 dst:∀(i:Nat) (o:Oper),all[i]? =some o->Cn C o=true->∀(j:Nat) (q:Oper),all[j]? =some q->i≠j->∀d,o.dst=some d->q.dst≠some d
 look:∀(i:Nat) (o:Oper),all[i]? =some o->Cn C o=true->∀(j:Nat) (q:Oper),all[j]? =some q->i≠j->∀d,o.dst=some d->d∈looks all q->zO m j i=true
 write:∀(i:Nat) (o:Oper),all[i]? =some o->Cn C o=true->∀(j:Nat) (q:Oper),all[j]? =some q->i≠j->∀e,q.dst=some e->e∈looks all o->zO m i j=true\/(zO m j i=true/\Cn C q=false)
def IX {C:Cx}{all:List Oper}{m:List Nat}{i:Nat}{o:Oper}:∀{l:List Oper} {k:Nat},Vt C all m i o k l=true->∀j q,l[j]? =some q->i≠k+j->
  (∀d,o.dst=some d->q.dst≠some d/\(d∈looks all q->zO m (k+j) i=true))/\(∀e,q.dst=some e->e∈looks all o->zO m i (k+j)=true\/(zO m (k+j) i=true/\Cn C q=false))
 |[],_,_,_,_,h=>by simp at h
 |p::l,k,h,0,q,hq=>by
  intro hne;simp at hq;subst hq;simp only[Vt,Bool.and_eq_true,Bool.or_eq_true]at h;rcases h.1 with h1|⟨h1,h2⟩
  ·simp_all
  ·refine⟨?_,?_⟩
   ·intro d hd;rw[hd]at h1;simp only[Bool.and_eq_true,Bool.or_eq_true]at h1;refine⟨?_,λhm=>?_⟩
    ·intro hp;simp_all
    ·rcases h1.2 with h3|h3
     ·rw[(rQ).2 hm]at h3;cases h3
     grind
   ·intro e he hm;rw[he]at h2;simp only[Bool.or_eq_true,Bool.and_eq_true]at h2;rcases h2 with(h3|h3)|h3
    ·rw[(rQ).2 hm]at h3;cases h3
    all_goals grind
 |p::l,k,h,j+1,q,hq=>by intro hne;simp only[Vt,Bool.and_eq_true]at h;have:=IX h.2 j q (by grind) (by omega);grind
def z9 {C:Cx}{all:List Oper}{m:List Nat}:∀{l:List Oper} {k:Nat},Ns C all m k l=true->∀i o,l[i]? =some o->
  (∀e∈o.after.toList,Region.binds .any e=true->e.on<k+i)/\(Cn C o=true->Vt C all m (k+i) o 0 all=true/\∀d,o.dst=some d->d∉looks all o)
 |[],_,_,_,_,h=>by simp at h
 |p::l,k,h,0,q,hq=>by
  simp at hq;subst hq;simp only[Ns,Bool.and_eq_true,Bool.or_eq_true]at h;obtain⟨⟨h1,h2⟩,h3⟩:=h;refine⟨Ru.1 h2,λhQ=>?_⟩;rcases h1 with h1|⟨h1,h4⟩
  ·grind
  ·refine⟨h1,λd hd hm=>?_⟩;rw[hd]at h4;simp only[(rQ).2 hm]at h4;cases h4
 |p::l,k,h,i+1,q,hq=>by simp only[Ns,Bool.and_eq_true]at h;have:=z9 h.2 i q (by grind);grind
def anx {C:Cx}{all:List Oper}{m:List Nat}(h:Ns C all m 0 all=true):Vu C all m where
 down i o hi:=by simpa using (z9 h i o hi).1
 self i o hi hq:=((z9 h i o hi).2 hq).2
 dst i o hi hq j q hj hne d hd:=((IX (by simpa using ((z9 h i o hi).2 hq).1) j q hj (by omega)).1 d hd).1
 look i o hi hq j q hj hne d hd hm:=by have:=((IX (by simpa using ((z9 h i o hi).2 hq).1) j q hj (by omega)).1 d hd).2 hm;grind
 write i o hi hq j q hj hne e he hm:=by have:=(IX (by simpa using ((z9 h i o hi).2 hq).1) j q hj (by omega)).2 e he hm;grind
def WI:∀{l:List Oper},Y1 l=true->∀o∈l,∀cs b,o.op≠.select cs b
 |[],_,o,h=>by simp at h
 |p::l,h,o,ho=>by
  simp only[Y1,Bool.and_eq_true]at h;rcases List.mem_cons.1 ho with rfl|ho
  ·grind
  ·exact WI h.2 o ho
def PD {m:List Nat}{i:Nat}{K:Prop}{w:World}:∀{H:Gj},IW m i H w K->K/\∀j fs,(j,fs)∈H->zO m i j=false->xB fs w
 |[],h=>⟨h,by grind⟩
 |(k,gs)::H,h=>by
  have ajh:∀{l:List (Addr×Value)} {K:Prop},ajf l w K->K/\xB l w:=by
   intro l;induction l with
   |nil=>intro K h;exact⟨h,trivial⟩
   |cons p l ih=>intro K h;exact⟨(ih h.2).1,h.1,(ih h.2).2⟩
  simp only[IW]at h;cases ha:zO m i k with
  |true=>
   rw[ha]at h;obtain⟨h1,h2⟩:=PD (H:=H) h;grind
  |false=>
   rw[ha]at h;obtain⟨h0,h3⟩:=ajh h;obtain⟨h1,h2⟩:=PD (H:=H) h0;grind
def Yq (C:Cx)(all:List Oper)(o:Oper)(ρ:Env)(v:Value)(fs:List (Addr×Value)):Prop:=
 (BP all o ρ=some true/\∀w',xB fs w'->rq C.P ((execOp (ev ρ) o).run C.P w') λu w''=>u=v/\w''=w')\/(BP all o ρ=some false/\v=undef)
def akW (C:Cx)(all:List Oper)(o:Oper):Prop:=GW C.n o.dst=true/\∀p,o.guard=some p->∀d,xA all p.1=some d->d<C.n
def Li (listed:Array Bool)(i:Nat):Prop:=listed.getD i false=true
structure Inv (C:Cx) (ops:Array Oper) (m:List Nat) (ex:List Nat) (H:Gj) (ρ:Env) (w:World) (listed:Array Bool) (a:Act):Prop where
 defers:a.defers=[]
 size:a.tmps.size=C.n
 lsize:listed.size=ops.size
 shut:afe ops.toList (Li listed)
 Te:afe ops.toList (·∈ex)
 aa6:∀i∈ex,i<ops.size
 sub:∀i,Li listed i->i∈ex
 sM:∀i∈ex,¬Li listed i->∃o v fs,ops[i]? =some o/\Cn C o=true/\akW C ops.toList o/\(fs=[]\/(i,fs)∈H)/\xB fs w/\(∀d,o.dst=some d->ρ d=v)/\Yq C ops.toList o ρ v fs
 get:∀t,(∀i∈ex,¬Li listed i->∀o,ops[i]? =some o->o.dst≠some t)->a.tmps.getD t undef=ρ t
def ahA {all:List Oper}{o:Oper}{ρ ρ':Env}(h:∀t∈looks all o,ρ t=ρ' t):BP all o ρ=BP all o ρ':=by
 unfold BP;cases hg:o.guard with
 |none=>rfl
 |some p=>
  simp only;cases hs:xA all p.1 with
  |none=>rfl
  |some d=>
   have:ρ d=ρ' d:=h d (by simp[looks,hg,hs]);grind
def aff {all:List Oper}{o:Oper}{ρ ρ':Env}(h:∀t∈looks all o,ρ t=ρ' t):∀x∈o.op.operands,ev ρ x=ev ρ' x:=by
 intro x hx;cases x with
 |tmp t=>
  refine h t ?_;refine List.mem_append_left _ (List.mem_filterMap.2 ⟨.tmp t,by grind,rfl⟩)
 |_=>rfl
def akX {C:Cx}{ops:Array Oper}{m:List Nat}{ex:List Nat}{H:Gj}{ρ:Env}{w:World}{listed:Array Bool}{a:Act}(hP:Vu C ops.toList m)(hG:Good ops.toList m)
  (inv:Inv C ops m ex H ρ w listed a){j:Nat}{q:Oper}(hj:ops[j]? =some q)(arx:∀e∈q.after.toList,Region.binds .any e=true->Li listed e.on):
  ∀t∈looks ops.toList q,a.tmps.getD t undef=ρ t:=by
 intro t ht;refine inv.get t λi hi Y3 o ho hd=>?_;have ho':ops.toList[i]? =some o:=by grind
 have hj':ops.toList[j]? =some q:=by grind
 obtain⟨o',v,fs,h1,h2,h3⟩:=inv.sM i hi Y3;have e1:o=o':=by grind
 rw[<-e1]at h2;by_cases hij:i=j
 ·have e2:o=q:=by grind
  rw[<-e2]at ht;exact hP.self i o ho' h2 t hd ht
 ·have:=hP.look i o ho' h2 j q hj' hij t hd ht;exact Y3 (hG j q hj' i this (Li listed) inv.shut arx)
def LL {C:Cx}{ops:Array Oper}{o:Oper}{ρ:Env}{a:Act}(hs:a.tmps.size=C.n)(hg:∀t∈looks ops.toList o,a.tmps.getD t undef=ρ t){b:Bool}(h:BP ops.toList o ρ=some b)
  (hd:∀p,o.guard=some p->∀d,xA ops.toList p.1=some d->d<C.n):Region.wanted o (yielded ops a.tmps)=b:=by
 unfold BP at h;unfold Region.wanted;cases hgd:o.guard with
 |none=>grind
 |some p=>
  rw[hgd]at h;obtain⟨j,want⟩:=p;simp only at h⊢;cases AY:xA ops.toList j with
  |none=>grind
  |some d=>
   rw[AY]at h;simp only at h;have hdn:=hd _ hgd d AY;have hgt:=hg d (by simp[looks,hgd,AY]);rw[Xk,Array.getElem?_toList]at AY;have h1:a.tmps[d]? =some (ρ d):=by simp_all
   unfold yielded;cases hr:ρ d<;>rw[hr]at h<;>simp only[reduceCtorEq,Option.some.injEq]at h
   all_goals simp_all
def left (listed:Array Bool):Nat:=listed.toList.countP (λb=>!b)
def anz {listed:Array Bool}{j:Nat}(hj:j<listed.size)(h:listed.getD j false=false):left (listed.setIfInBounds j true)+1=left listed:=by
 unfold left;obtain⟨l⟩:=listed;have:l.getD j false=false:=by simp_all
 grind
def Tf {listed:Array Bool}(h:left listed=0):∀i,i<listed.size->Li listed i:=by intro i hi;unfold left at h;rw[List.countP_eq_zero]at h;have:=h (listed[i]) (by simp);unfold Li;simp_all
section
variable {C:Cx}{ops:Array Oper}{m:List Nat}{K:Env->World->Prop}
def akY {i:Nat}{s:IG}{H:Gj}{ρ:Env}{w:World}{o:Oper}(ho:ops.toList[i]? =some o)(h:Ap C ops.toList m (.op i s) H ρ w K):
  GW C.n o.dst=true/\(∀p,o.guard=some p->∀d,xA ops.toList p.1=some d->d<C.n)/\∃ρ':Env,(∀t,ρ' t=ρ t)/\
   ((BP ops.toList o ρ=some true/\cond (Cn C o) (wN C o ρ' w λv w'=>Ap C ops.toList m s ((i,vF C o ρ' v)::H) (put ρ' o.dst v) w' K)
      (wN C o ρ' w λv w'=>IW m i H w' (Ap C ops.toList m s H (put ρ' o.dst v) w' K)))\/
    (BP ops.toList o ρ=some false/\Ap C ops.toList m s H (put ρ' o.dst undef) w K)):=by
 simp only[Ap,Jo,ho]at h;obtain⟨hd,h⟩:=pA h;refine⟨hd,?_⟩;cases hg:o.guard with
 |none=>
  simp only[hg]at h;exact⟨(by grind),ρ,λ_=>rfl,.inl ⟨by simp[BP,hg],h⟩⟩
 |some p=>
  simp only[hg]at h;obtain⟨j,want⟩:=p;cases AY:xA ops.toList j with
  |none=>grind
  |some d=>
   rw[AY]at h;obtain⟨hn,h⟩:=pA h;have hn':d<C.n:=by simpa[Nat.blt_eq]using hn
   refine⟨(by rintro p ⟨⟩ d' hd';rw[AY]at hd';cases hd';exact hn'),?_⟩;have same:∀b,ρ d=.bool b->∀t,put ρ (some d) (.bool b) t=ρ t:=by
     intro b hb t;simp[put];cases he:Nat.beq t d with
     |true=>have:=Nat.eq_of_beq_eq_true he;rw[this,hb];rfl
     |false=>rfl
   cases hr:ρ d<;>rw[hr]at h<;>try exact h.elim
   rotate_left
   ·exact⟨ρ,λ_=>rfl,.inr ⟨by simp[BP,hg,AY,hr],h⟩⟩
   rename_i b;have hw:BP ops.toList o ρ=some (b==want):=by simp[BP,hg,AY,hr]
   cases want<;>cases b<;>simp only[cond_true,cond_false]at h
   ·exact⟨_,same false hr,.inl ⟨by rw[hw];rfl,h⟩⟩
   ·exact⟨_,same true hr,.inr ⟨by rw[hw];rfl,h⟩⟩
   ·exact⟨_,same false hr,.inr ⟨by rw[hw];rfl,h⟩⟩
   ·exact⟨_,same true hr,.inl ⟨by rw[hw];rfl,h⟩⟩
def Tg {all:List Oper}(Rv:∀o∈all,∀cs b,o.op≠.select cs b){o:Oper}(ho:o∈all){ρ ρ':Env}{v:Value}{fs:List (Addr×Value)}(h:∀t∈looks all o,ρ t=ρ' t)(hy:Yq C all o ρ v fs):Yq C all o ρ' v fs:=by unfold Yq at*;rw[<-ahA h,<-execOp_congr o (Rv o ho) (aff h)];exact hy
def AZ {ρ:Env}{d:Option Nat}{v:Value}{t:Nat}(h:d≠some t):put ρ d v t=ρ t:=by
 cases d with
 |none=>rfl
 |some s=>
  simp[put];cases hb:Nat.beq t s with
  |true=>simp_all
  |false=>rfl
def afg {ρ:Env}{v:Value}{t:Nat}:put ρ (some t) v t=v:=by simp[put,Nat.beq_refl]
def acW {a:Act}{d:Option Nat}{v:Value}{t:Nat}(h:d≠some t):(a.put d v).tmps.getD t undef=a.tmps.getD t undef:=by
 cases d with
 |none=>rfl
 |some s=>
  have hne:s≠t:=λe=>h (by rw[e]);simp[Act.put,Array.getD_eq_getD_getElem?,Array.getElem?_setIfInBounds_ne hne]
def afh {a:Act}{v:Value}{t:Nat}(h:t<a.tmps.size):(a.put (some t) v).tmps.getD t undef=v:=by simp[Act.put,Array.getD_eq_getD_getElem?,Array.getElem?_setIfInBounds,h]
def Y4 {a:Act}{d:Option Nat}{v:Value}:(a.put d v).defers=a.defers:=by cases d<;>rfl
def afi {a:Act}{d:Option Nat}{v:Value}:(a.put d v).tmps.size=a.tmps.size:=by cases d<;>simp[Act.put]
def api (hG:Good ops.toList m){ex:List Nat}(hs:afe ops.toList (·∈ex)){i j:Nat}{o:Oper}(ho:ops.toList[i]? =some o)(hi:i∈ex)(h:zO m i j=true):j∈ex:=
 hG i o ho j h (·∈ex) hs (hs i o ho hi)
def Inv.ahead (hP:Vu C ops.toList m)(hG:Good ops.toList m)(Rv:∀o∈ops.toList,∀cs b,o.op≠.select cs b){ex:List Nat}{H H':Gj}{ρ:Env}{w:World}{listed:Array Bool}{a:Act}
  (inv:Inv C ops m ex H ρ w listed a){i:Nat}{o:Oper}{v:Value}{fs:List (Addr×Value)}(ho:ops[i]? =some o)(hq:Cn C o=true)(hd:akW C ops.toList o)(hi:i∉ex)
  (he:∀e∈o.after.toList,Region.binds .any e=true->e.on∈ex)(hf:fs=[]\/(i,fs)∈H')(hH:∀p∈H,p∈H')(hh:xB fs w)(hy:Yq C ops.toList o ρ v fs):
  Inv C ops m (i::ex) H' (put ρ o.dst v) w listed a:=by
 have hi':i<ops.size:=by grind
 have ho':ops.toList[i]? =some o:=by grind
 have hom:=List.mem_of_getElem? ho';refine⟨inv.defers,inv.size,inv.lsize,inv.shut,?_,?_,λj hj=>List.mem_cons_of_mem _ (inv.sub j hj),?_,?_⟩
 ·intro j q hj hm e he' hb;rcases List.mem_cons.1 hm with rfl|hm
  ·grind
  ·exact List.mem_cons_of_mem _ (inv.Te j q hj hm e he' hb)
 ·intro j hj;rcases List.mem_cons.1 hj with rfl|hj
  ·exact hi'
  ·exact inv.aa6 j hj
 ·intro j hj hnl;by_cases hji:j=i
  ·subst hji;refine⟨o,v,fs,ho,hq,hd,hf,hh,?_,?_⟩
   ·intro d hd';rw[hd'];exact afg
   ·refine Tg Rv hom (λt ht=>?_) hy;refine(AZ λe=>?_).symm;exact hP.self j o ho' hq t e ht
  ·have hjm:=(List.mem_cons.1 hj).resolve_left hji;obtain⟨q,u,gs,h1,h2,h3,h4,h5,h6,h7⟩:=inv.sM j hjm hnl;have h1':ops.toList[j]? =some q:=by grind
   refine⟨q,u,gs,h1,h2,h3,h4.imp id (hH _),h5,?_,?_⟩
   ·intro d hd';rw[AZ]
    ·grind
    ·intro e;exact hP.dst i o ho' hq j q h1' (Ne.symm hji) d e hd'
   ·refine Tg Rv (List.mem_of_getElem? h1') (λt ht=>?_) h7;refine(AZ λe=>?_).symm;have:=hP.look i o ho' hq j q h1' (Ne.symm hji) t e ht;exact hi (api hG inv.Te h1' hjm this)
 ·intro t ht;have hne:=ht i (List.mem_cons_self ..) (λhl=>hi (inv.sub i hl)) o ho;rw[AZ hne];exact inv.get t λj hj hnl q Jv=>ht j (List.mem_cons_of_mem _ hj) hnl q Jv
def Nt {listed:Array Bool}{i j:Nat}(h:Li listed i):Li (listed.setIfInBounds j true) i:=by
 unfold Li at*;by_cases hij:j=i
 ·subst hij;have:j<listed.size:=by grind
  simp_all
 simp_all
def aqg {listed:Array Bool}{j:Nat}(h:j<listed.size):Li (listed.setIfInBounds j true) j:=by unfold Li;simp_all
def D5 {listed:Array Bool}{i j:Nat}(hij:i≠j)(h:Li (listed.setIfInBounds j true) i):Li listed i:=by unfold Li at*;simpa[Array.getD_eq_getD_getElem?,Array.getElem?_setIfInBounds_ne (Ne.symm hij)]using h
def Inv.up (hP:Vu C ops.toList m){ex:List Nat}{H:Gj}{ρ:Env}{w:World}{listed:Array Bool}{a:Act}
  (inv:Inv C ops m ex H ρ w listed a){j:Nat}{o:Oper}{v:Value}(ho:ops[j]? =some o)(hj:j∈ex)(hd:GW C.n o.dst=true)(hr:∀e∈o.after.toList,Region.binds .any e=true->Li listed e.on)
  (hv:∀d,o.dst=some d->ρ d=v):Inv C ops m ex H ρ w (listed.setIfInBounds j true) (a.put o.dst v):=by
 have ho':ops.toList[j]? =some o:=by grind
 refine⟨by rw[Y4];exact inv.defers,by rw[afi];exact inv.size,by simpa using inv.lsize,?_,inv.Te,inv.aa6,?_,?_,?_⟩
 ·intro i q hi hl e he hb;by_cases hij:i=j
  ·subst hij;rw[ho']at hi;cases hi;exact Nt (hr e he hb)
  ·exact Nt (inv.shut i q hi (D5 hij hl) e he hb)
 ·intro i hl;by_cases hij:i=j
  ·grind
  ·exact inv.sub i (D5 hij hl)
 ·intro i hi hnl;exact inv.sM i hi λhl=>hnl (Nt hl)
 ·intro t ht;by_cases Jx:o.dst=some t
  ·rw[Jx,afh]
   ·grind
   ·rw[inv.size];rw[Jx]at hd;simpa[GW,Nat.blt_eq]using hd
  ·rw[acW Jx];refine inv.get t λi hi hnl q hq=>?_;by_cases hij:i=j
   ·grind
   ·exact ht i hi (λhl=>hnl (D5 hij hl)) q hq
def Inv.arz (hP:Vu C ops.toList m)(hG:Good ops.toList m)(Rv:∀o∈ops.toList,∀cs b,o.op≠.select cs b){ex:List Nat}{H:Gj}{ρ:Env}{w w':World}{listed:Array Bool}{a:Act}
  (inv:Inv C ops m ex H ρ w listed a){j:Nat}{o:Oper}{v:Value}(ho:ops[j]? =some o)(hj:j∉ex)(hd:GW C.n o.dst=true)(hr:∀e∈o.after.toList,Region.binds .any e=true->Li listed e.on)
  (hh:∀i fs,(i,fs)∈H->zO m j i=false->xB fs w->xB fs w'):Inv C ops m (j::ex) H (put ρ o.dst v) w' (listed.setIfInBounds j true) (a.put o.dst v):=by
 have hj':j<ops.size:=by grind
 have ho':ops.toList[j]? =some o:=by grind
 refine⟨by rw[Y4];exact inv.defers,by rw[afi];exact inv.size,by simpa using inv.lsize,?_,?_,?_,?_,?_,?_⟩
 ·intro i q hi hl e he hb;by_cases hij:i=j
  ·subst hij;rw[ho']at hi;cases hi;exact Nt (hr e he hb)
  ·exact Nt (inv.shut i q hi (D5 hij hl) e he hb)
 ·intro i q hi hm e he hb;rcases List.mem_cons.1 hm with rfl|hm
  ·rw[ho']at hi;cases hi;exact List.mem_cons_of_mem _ (inv.sub _ (hr e he hb))
  ·exact List.mem_cons_of_mem _ (inv.Te i q hi hm e he hb)
 ·intro i hi;rcases List.mem_cons.1 hi with rfl|hi
  ·exact hj'
  ·exact inv.aa6 i hi
 ·intro i hl;by_cases hij:i=j
  ·grind
  ·exact List.mem_cons_of_mem _ (inv.sub i (D5 hij hl))
 ·intro i hi hnl;have hij:i≠j:=by rintro rfl;exact hnl (aqg (by rw[inv.lsize];exact hj'))
  have him:=(List.mem_cons.1 hi).resolve_left hij;have anA:¬Li listed i:=λhl=>hnl (Nt hl);obtain⟨q,u,gs,h1,h2,h3,h4,h5,h6,h7⟩:=inv.sM i him anA;have h1':ops.toList[i]? =some q:=by grind
  have ayH:zO m j i=false:=by
   cases ha:zO m j i with
   |false=>rfl
   |true=>exact(anA (hG j o ho' i ha (Li listed) inv.shut hr)).elim
  refine⟨q,u,gs,h1,h2,h3,h4,?_,?_,?_⟩
  ·rcases h4 with rfl|h4
   ·trivial
   grind
  ·intro d hd';rw[AZ]
   ·grind
   ·exact λe=>hP.dst i q h1' h2 j o ho' hij d hd' e
  ·refine Tg Rv (List.mem_of_getElem? h1') (λt ht=>?_) h7;refine(AZ λe=>?_).symm;rcases hP.write i q h1' h2 j o ho' hij t e ht with h|⟨h,_⟩
   ·exact hj (api hG inv.Te h1' him h)
   grind
 ·intro t ht;by_cases Jx:o.dst=some t
  ·rw[Jx,afh,afg];rw[inv.size];rw[Jx]at hd;simpa[GW,Nat.blt_eq]using hd
  ·rw[acW Jx,AZ Jx];refine inv.get t λi hi hnl q hq=>?_;have hij:i≠j:=λe=>hj (e▸hi);exact ht i (List.mem_cons_of_mem _ hi) (λhl=>hnl (D5 hij hl)) q hq
end
section
variable {C:Cx}{ops:Array Oper}{m:List Nat}{K:Env->World->Prop}
def PE {ex:List Nat}(hall:∀i,i<ops.size->i∈ex):∀{s:IG} {top:Bool} {H:Gj} {ρ:Env} {w:World},dA C ops.toList top s ex=true->Ap C ops.toList m s H ρ w K->K ρ w
 |.done,top,H,ρ,w,_,h=>h
 |.br a b,top,H,ρ,w,hs,h=>by simp[dA,Bool.and_eq_true]at hs;exact PE hall hs.1.2 h.1
 |.op i s,top,H,ρ,w,hs,h=>by
  simp[dA]at hs;cases ho:Jw ops.toList i with
  |none=>grind
  |some o=>
   rw[ho]at hs;simp[Bool.and_eq_true]at hs;have hi:i<ops.size:=by rw[Jo,Array.getElem?_toList]at ho;grind
   have:=hs.1.1.1;rw[(rQ).2 (hall i hi)]at this;cases this
def Xn {ex:List Nat}{j:Nat}:∀{s:IG} {top:Bool} {H:Gj} {ρ:Env} {w:World},j∈EI s->dA C ops.toList top s ex=true->Ap C ops.toList m s H ρ w K->
  ∃s' top',dA C ops.toList top' (.op j s') ex=true/\Ap C ops.toList m (.op j s') H ρ w K
 |.done,top,H,ρ,w,hj,_,_=>by cases hj
 |.br a b,top,H,ρ,w,hj,hs,h=>by
  simp[dA,Bool.and_eq_true]at hs;simp[EI,List.mem_append]at hj;rcases hj with hj|hj
  ·exact Xn hj hs.1.2 h.1
  ·exact Xn hj hs.2 h.2
 |.op i s,top,H,ρ,w,hj,hs,h=>by simp[EI,List.mem_singleton]at hj;grind
def akZ (hC:l_ C)(hP:Vu C ops.toList m)(hG:Good ops.toList m)(Rv:∀o∈ops.toList,∀cs b,o.op≠.select cs b):
  ∀(fuel:Nat) (s:IG) {ex:List Nat} {H:Gj} {ρ:Env} {w:World} {listed:Array Bool} {a:Act},dA C ops.toList true s ex=true->Inv C ops m ex H ρ w listed a->left listed<=fuel->
   Ap C ops.toList m s H ρ w K->wpAny C.P .any ops (D1 C.n K) fuel listed a w:=by
 intro fuel;induction fuel with
 |zero=>
  intro s;induction s with
  |done=>
   intro ex H ρ w listed a hs inv hl h;have hall:=Tf (Nat.le_zero.1 hl);have hin:∀i,i<ops.size->i∈ex:=λi hi=>inv.sub i (hall i (by rw[inv.lsize];exact hi));refine⟨?_,rfl,ρ,⟨inv.defers,inv.size,λt=>inv.get t λi hi hnl=>(hnl (hall i (by rw[inv.lsize];exact inv.aa6 i hi))).elim⟩,PE hin hs h⟩;rw[List.eq_nil_iff_forall_not_mem];intro i hi;obtain⟨h1,o,h2,h3⟩:=mem_ready.1 hi;have hi':i<ops.size:=by grind
   have:=hall i (by grind);unfold Li at this;grind
  |br x y _ _=>
   intro ex H ρ w listed a hs inv hl h;have hall:=Tf (Nat.le_zero.1 hl);have hin:∀i,i<ops.size->i∈ex:=λi hi=>inv.sub i (hall i (by rw[inv.lsize];exact hi));refine⟨?_,rfl,ρ,⟨inv.defers,inv.size,λt=>inv.get t λi hi hnl=>(hnl (hall i (by rw[inv.lsize];exact inv.aa6 i hi))).elim⟩,PE hin hs h⟩;rw[List.eq_nil_iff_forall_not_mem];intro i hi;obtain⟨h1,o,h2,h3⟩:=mem_ready.1 hi;have hi':i<ops.size:=by grind
   have:=hall i (by grind);unfold Li at this;grind
  |op i s _=>
   intro ex H ρ w listed a hs inv hl h;have hall:=Tf (Nat.le_zero.1 hl);simp[dA]at hs;cases ho:Jw ops.toList i with
   |none=>grind
   |some o=>
    rw[ho]at hs;simp[Bool.and_eq_true]at hs;have hi:i<ops.size:=by rw[Jo,Array.getElem?_toList]at ho;grind
    have hx:=inv.sub i (hall i (by rw[inv.lsize];exact hi));have:=hs.1.1.1;rw[(rQ).2 hx]at this;cases this
 |succ fuel ih=>
  intro s;have real:∀{s:IG} {ex:List Nat} {H:Gj} {ρ:Env} {w:World} {listed:Array Bool} {a:Act},dA C ops.toList true s ex=true->BQ C ex (EI s) 0 ops.toList=true->Inv C ops m ex H ρ w listed a->left listed<=fuel+1->
    Ap C ops.toList m s H ρ w K->wpAny C.P .any ops (D1 C.n K) (fuel+1) listed a w:=by
   intro s ex H ρ w listed a hs hc inv hl h;refine⟨λhr=>?_,λj hj=>?_⟩
   ·
    have hall:∀i,i<ops.size->Li listed i:=by
     intro i;induction i using Nat.strongRecOn with
     |_ i ihi=>
      intro hi;unfold Li;cases hli:listed.getD i false with
      |true=>rfl
      |false=>
       exfalso;have ho:ops[i]? =some ops[i]:=by simp[hi]
       have ho':ops.toList[i]? =some ops[i]:=by grind
       have:i∈Region.ready .any ops listed:=by
        refine mem_ready.2 ⟨?_,ops[i],ho,?_⟩
        ·have hsz:i<listed.size:=by rw[inv.lsize];exact hi
         grind
        ·intro e he hb;exact ihi e.on (hP.down i _ ho' e (by grind) hb) (by have:=hP.down i _ ho' e (by grind) hb;omega)
       grind
    have hin:∀i,i<ops.size->i∈ex:=λi hi=>inv.sub i (hall i hi);exact⟨rfl,ρ,⟨inv.defers,inv.size,λt=>inv.get t λi hi hnl=>(hnl (hall i (inv.aa6 i hi))).elim⟩,PE hin hs h⟩
   ·obtain⟨h1,o,ho,h3⟩:=mem_ready.1 hj;have hr:∀e∈o.after.toList,Region.binds .any e=true->Li listed e.on:=λe he hb=>h3 e (by grind) hb;have ho':ops.toList[j]? =some o:=by grind
    have hom:=List.mem_of_getElem? ho';have hjs:j<listed.size:=by grind
    have h1':listed.getD j false=false:=by grind
    have hnl:¬Li listed j:=by unfold Li;grind
    have hleft:=anz hjs h1';have Y5:=akX hP hG inv ho hr;have atl:execOp a.eval o=execOp (ev ρ) o:=execOp_congr o (Rv o hom) (λx hx=>by have:=aff (ρ':=ρ) Y5 x hx;rw[<-this];cases x<;>rfl)
    rw[wpOp,ho];simp only;by_cases hjx:j∈ex
    ·obtain⟨q,v,fs,q1,q2,q3,q4,q5,q6,q7⟩:=inv.sM j hjx hnl;have e1:o=q:=by grind
     subst e1;have inv':=inv.up hP ho hjx q3.1 hr q6;have F2:=q3.2;rcases q7 with⟨hw,hv⟩|⟨hw,rfl⟩
     ·rw[if_pos (LL inv.size Y5 hw F2)];refine .inl (rq.wp (K:=λu w''=>u=v/\w''=w) ?_ ?_)
      all_goals grind
     ·rw[if_neg (by rw[LL inv.size Y5 hw F2];simp)];exact ih s hs inv' (by omega) h
    ·have Aq:=Td hc j o ho';rw[Nat.zero_add]at Aq;rcases Aq with Aq|Aq|⟨hQ,hhd⟩
     ·exact(hjx Aq).elim
     ·exact(Aq λe he hb=>inv.sub _ (hr e he hb)).elim
     ·obtain⟨s',top',hs',h'⟩:=Xn hhd hs h;obtain⟨hd,F2,ρ',hρ,h'⟩:=akY ho' h';have anB:=funext hρ;subst anB;simp[dA,Jo,ho',Bool.and_eq_true]at hs';rcases h' with⟨hw,h'⟩|⟨hw,h'⟩
      ·rw[if_pos (LL inv.size Y5 hw F2)];rw[hQ]at h';simp[cond_false]at h';refine .inl (rq.wp (K:=λv w'=>IW m j H w' (Ap C ops.toList m s' H (put ρ' o.dst v) w' K)) ?_ ?_)
       ·rw[atl];exact PB hC h'
       ·intro v w' hk;obtain⟨hk,atm⟩:=PD hk;exact ih s' hs'.2 (inv.arz hP hG Rv ho hjx hd hr λi fs hm ha _=>atm i fs hm ha) (by omega) hk
      ·rw[if_neg (by rw[LL inv.size Y5 hw F2];simp)];exact ih s' hs'.2 (inv.arz hP hG Rv ho hjx hd hr λi fs hm ha hw=>hw) (by omega) h'
  induction s with
  |done=>
   intro ex H ρ w listed a hs inv hl h;have aji:∀{l:List Oper} {k:Nat},ajg ex k l=true->BQ C ex [] k l=true:=by
    intro l;induction l with
    |nil=>intro k _;rfl
    |cons o l ihl=>
     intro k hk;simp[ajg,Bool.and_eq_true]at hk;simp[BQ,Bool.and_eq_true,Bool.or_eq_true];exact⟨.inl (.inl hk.1),ihl hk.2⟩
   exact real hs (aji (by simpa[dA]using hs)) inv hl h
  |br x y _ _=>
   intro ex H ρ w listed a hs inv hl h;have hs':=hs;simp[dA,Bool.not_true,Bool.false_or,Bool.and_eq_true]at hs';exact real hs hs'.1.1.1 inv hl h
  |op i s ihs=>
   intro ex H ρ w listed a hs inv hl h;have hs':=hs;simp[dA]at hs';cases ho:Jw ops.toList i with
   |none=>rw[ho]at hs';cases hs'
   |some o=>
    rw[ho]at hs';simp[Bool.and_eq_true,Bool.or_eq_true,Bool.not_true,Bool.false_eq_true,or_false]at hs';obtain⟨⟨⟨h1,h2⟩,h3⟩,h4⟩:=hs';have hix:i∉ex:=λhm=>by rw[(rQ).2 hm]at h1;cases h1
    rw[Jo]at ho;have ho':ops[i]? =some o:=by rw[<-Array.getElem?_toList];exact ho
    cases hQ:Cn C o with
    |false=>
     rw[hQ]at h3;exact real hs (by simpa[EI]using h3) inv hl h
    |true=>
     obtain⟨hd,F2,ρ',hρ,h⟩:=akY ho h;have anB:=funext hρ;subst anB;rcases h with⟨hw,h⟩|⟨hw,h⟩
     ·rw[hQ]at h;simp[cond_true]at h;obtain⟨v,hk,hh,hv⟩:=aje hQ h;refine ihs h4 (inv.ahead hP hG Rv ho' hQ ⟨hd,F2⟩ hix (GY.1 h2) (.inr (List.mem_cons_self ..)) (λp hp=>List.mem_cons_of_mem _ hp) hh (.inl ⟨hw,λw' hw'=>?_⟩)) hl hk;exact PB hC (hv w' hw' _ ⟨rfl,rfl⟩)
     ·exact ihs h4 (inv.ahead hP hG Rv ho' hQ ⟨hd,F2⟩ hix (GY.1 h2) (.inl rfl) (λp hp=>hp) trivial (.inr ⟨hw,rfl⟩)) hl h
def afj (hC:l_ C){id:Nat}{s:IG}(hok:Xm C ops.toList (LK ops.toList []) s=true){ρ:Env}{w:World}{a:Act}(hr:Rel C.n ρ a)
  (h:Ap C ops.toList (LK ops.toList []) s [] ρ w.drew K):(Code.region id ops true).wp C.P (D1 C.n K) a w:=by
 simp[Xm,Bool.and_eq_true]at hok;refine wp_region_any hC.mixed (akZ hC (anx hok.1.2) (anw _) (WI hok.2) _ s hok.1.1 ?_ ?_ h)
 ·refine⟨hr.defers,hr.size,by simp,?_,?_,?_,?_,?_,λt _=>hr.get t⟩
  ·intro i o hi hl;unfold Li at hl;simp[Array.getD_eq_getD_getElem?,Array.getElem?_replicate]at hl;grind
  ·intro i o hi hm;cases hm
  ·grind
  ·intro i hl;unfold Li at hl;simp[Array.getD_eq_getD_getElem?,Array.getElem?_replicate]at hl;grind
  grind
 ·unfold left;have:=List.countP_le_length (p:=λb=>!b) (l:=(Array.replicate ops.size false).toList);grind
end
abbrev ck:=List (Nat×IG)
def apj:ck->Nat->Option IG
 |[],_=>none
 |p::l,i=>cond (Nat.beq i p.1) (some p.2) (apj l i)
def Y6 (C:Cx)(S:ck)(id:Nat)(all:List Oper)(ρ:Env)(w:World)(K:Env->World->Prop):Prop:=match apj S id with
 |some s=>cond (Xm C all (LK all []) s) (Ap C all (LK all []) s [] ρ w.drew K) False
 |none=>False
def WJ {C:Cx}(hC:l_ C)(S:ck):akS C (Y6 C S):=by
 intro id ops ρ w K h a hr;unfold Y6 at h;split at h
 ·obtain⟨h1,h2⟩:=pA h;exact afj hC h1 hr h2
 grind
def LM (C:Cx):List ResultVar->Env->World->(List Value->Prop)->Prop
 |[],_,_,K=>K []
 |.tmp t::l,ρ,w,K=>LM C l ρ w λvs=>K (ρ t::vs)
 |.cell a t::l,ρ,w,K=>match ρ a with
  |.pointer p=>wA p λad=>ldT C.T t ad w λv=>LM C l ρ w λvs=>K (v::vs)
  |_=>False
def afk:List Value->Value
 |[v]=>v
 |l=>.tuple l.toArray
def Ho (tmps:Array Value):ResultVar->Sem Value
 |.tmp t=>pure (tmps.getD t undef)
 |.cell b t=>do loadVar t (<-asAddr (tmps.getD b undef))
def PF {C:Cx}(hC:l_ C){ρ:Env}{w:World}{a:Act}(hr:Rel C.n ρ a):∀{l:List ResultVar} {K:List Value->Prop},LM C l ρ w K->
  ∃vs,(l.mapM (Ho a.tmps)).run C.P w=.ok vs w/\vs.length=l.length/\K vs
 |[],K,h=>⟨[],rfl,rfl,h⟩
 |.tmp t::l,K,h=>by
  obtain⟨vs,h1,h2,h3⟩:=PF hC hr (K:=λvs=>K (ρ t::vs)) h;refine⟨ρ t::vs,?_,by simp[h2],h3⟩;have h0:(Ho a.tmps (.tmp t)).run C.P w=.ok (ρ t) w:=by simp[Ho,hr.get]
  simp_all
 |.cell b t::l,K,h=>by
  simp[LM]at h;split at h
  ·rename_i p hp;obtain⟨ad,rfl,h'⟩:=tV h;obtain⟨v,hv,hk⟩:=ae8 hC.ug h';obtain⟨vs,h1,h2,h3⟩:=PF hC hr hk;refine⟨v::vs,?_,by simp[h2],h3⟩;have h0:(Ho a.tmps (.cell b t)).run C.P w=.ok v w:=by simp[Ho,hr.get,hp,asAddr,Sem.run_bind,Sem.run_pure,Result.andThen_ok,hv]
   simp_all
  grind
def ak2 {C:Cx}(hC:l_ C){ρ:Env}{w:World}{a:Act}(hr:Rel C.n ρ a){fn:Func}{K:Value->Prop}(h:LM C fn.results.toList ρ w λvs=>K (afk vs)):
  ∃v,(results fn a.tmps).run C.P w=.ok v w/\K v:=by
 obtain⟨vs,h1,h2,h3⟩:=PF hC hr h;refine⟨_,?_,h3⟩;have hm:(fn.results.mapM (Ho a.tmps)).run C.P w=.ok vs.toArray w:=by
  rw[<-Array.toArray_toList (xs:=fn.results),List.mapM_toArray,Sem.run_map,h1]
  try rfl
 have he:results fn a.tmps=(do let vs<-fn.results.mapM (Ho a.tmps);pure (if h:vs.size=1 then vs[0]else .tuple vs)):=by
  have hf:(λ|.tmp t=>pure (a.tmps.getD t undef)|.cell b t=>do loadVar t (<-asAddr (a.tmps.getD b undef)):ResultVar->Sem Value)=Ho a.tmps:=by funext r;cases r<;>rfl
  rfl
 rw[he];simp[Sem.run_bind,hm,Result.andThen_ok,Sem.run_pure]
 match vs with
 |[]=>rfl
 |[v]=>rfl
 |v::u::vs=>simp[afk]
def aqi {C:Cx}(hC:l_ C){f:FuncId}{fn:Func}{c:Code}{args:List Value}{w:World}{K:Value->World->Prop}(hf:C.P.funcs[f]? =some fn)(hb:fn.body=some c)(hn:fn.ntmps=C.n)
  (ha:Nat.ble args.length C.n=true)(h:Fin C [.code c] (Nl args) w λρ w'=>LM C fn.results.toList ρ w' λvs=>K (afk vs) w'):aq C.P f args.toArray w K:=by
 have ha:=Nat.le_of_ble_eq_true ha;intro cs;let b:Frame:={(default:Frame)with fn:=f,kind:=.normal};let a:Act:={tmps:=args.toArray++Array.replicate (fn.ntmps-args.toArray.size) undef,defers:=[]};have arB:Frame.enter C.P f args.toArray .normal=b.at a [.code c]:=by simp[Frame.enter,Frame.at,hf,hb,b,a]
 have avb:∀(l:List Value) (t:Nat),nth l t=(l[t]?).getD undef:=by
  intro l;induction l with
  |nil=>intro t;simp[nth]
  |cons v l ih=>intro t;cases t<;>simp[nth,ih]
 have hr:Rel C.n (Nl args) a:=by refine⟨rfl,by grind,λt=>?_⟩;simp[Nl,avb,a,Array.getD_eq_getD_getElem?];grind
 obtain⟨ρ',a',w',todo',hr',hR,hs⟩:=h a b cs hr;obtain⟨v,hv,hk⟩:=ak2 hC hr' (K:=λv=>K v w') hR;refine⟨.returned v,w',{b.at a' todo' with mode:=.returning},hk,?_,rfl,rfl,hr'.defers,rfl,fn,hf,hv⟩;rw[arB];exact hs
def arC {ρ:Env}{t:Nat}{v:Value}(h:ρ t=v):put ρ (some t) v=ρ:=by
 funext s;simp[put];cases hb:Nat.beq s t with
 |true=>simp_all
 |false=>rfl
def Jy:Code->Nat->List Item->Option (List Item)
 |.region i ops d,id,k=>cond (Nat.beq i id) (some (.code (.region i ops d)::k)) none
 |.seq a b,id,k=>match Jy a id (.code b::k)with
  |some r=>some r
  |none=>Jy b id k
 |.cond _ a b,id,k=>match Jy a id k with
  |some r=>some r
  |none=>Jy b id k
 |.block i c,id,k=>Jy c id (.inBlock i::k)
 |.loop c,id,k=>Jy c id (.inLoop c::k)
 |_,_,_=>none
def A0 (fn:Func)(id:Nat):List Item:=match fn.body with
 |some c=>match Jy c id []with
  |some t=>t
  |none=>[]
 |none=>[]
def EK (fn:Func):List Item:=match fn.body with
 |some c=>[.code c]
 |none=>[]
def atn {p q:Prop}(h:p)(e:p=q):q:=e▸h
def aqj {C:Cx}(hC:l_ C){f:FuncId}{fn:Func}{args:List Value}{w:World}{K:Value->World->Prop}(hf:C.P.funcs[f]? =some fn)(hb:fn.body.isSome=true)(hn:Nat.beq fn.ntmps C.n=true)
  (ha:Nat.ble args.length C.n=true)(h:Fin C (EK fn) (Nl args) w λρ w'=>LM C fn.results.toList ρ w' λvs=>K (afk vs) w'):aq C.P f args.toArray w K:=by
 cases hbb:fn.body with
 |none=>grind
 |some c=>
  have:EK fn=[.code c]:=by simp[EK,hbb]
  rw[this]at h;exact aqi hC hf hbb (Nat.eq_of_beq_eq_true hn) ha h
def anC (C:Cx)(fn:Func)(R:Env->World->Prop):Xe->Prop
 |[]=>True
 |p::l=>(∀ρ w,p.2 ρ w->Fin C (A0 fn p.1) ρ w R)/\anC C fn R l
def aqk {C:Cx}{fn:Func}{R:Env->World->Prop}{L:Xe}{ids:List Nat}{f:Nat}{todo:List Item}(js:List Nat)(hl:leaves ids f true todo=js.map λj=>(j,A0 fn j))(hall:anC C fn R L):
  ∀p∈leaves ids f true todo,∀q,cutAt L p.1=some q->∀ρ w,q ρ w->Fin C p.2 ρ w R:=by
 intro p hp q hq ρ w h;rw[hl]at hp;obtain⟨j,hj,rfl⟩:=List.mem_map.1 hp;induction L with
 |nil=>cases hq
 |cons p l ih=>
  simp[cutAt]at hq;cases hb:Nat.beq j p.1 with
  |true=>
   rw[hb]at hq;simp[cond_true,Option.some.injEq]at hq;subst hq;rw[Nat.eq_of_beq_eq_true hb];exact hall.1 ρ w h
  |false=>
   rw[hb]at hq;exact ih hall.2 hq
def Al (T:tR)(t:TypeId)(w:World)(K:Addr->World->Prop):Prop:=K ⟨w.heap.size,0,none⟩ (w.alloc (.cells (zc T t).toArray t))
def Bx (cs:List Value)(t:TypeId)(w:World)(K:Addr->World->Prop):Prop:=K ⟨w.heap.size,0,none⟩ (w.alloc (.cells cs.toArray t))
def App (P:Program)(ats:Array TypeId)(ty:TypeId)(s x:Value)(w:World)(K:Option Addr->Nat->Nat->World->Prop):Prop:=
 aK P (Builtin.append_ ats ty [s,x].toArray) w λv w'=>dS v λa n c=>K a n c w'
def cu (P:Program)(ats:Array TypeId)(ty:TypeId)(s x:Value)(w:World)(K:Int->World->Prop):Prop:=
 aK P (Builtin.copy_ ats ty [s,x].toArray) w λv w'=>dI .i64 v λn=>K n w'
def cg (P:Program)(t:TypeId)(l c:Value)(w:World)(K:Option Addr->Nat->Nat->World->Prop):Prop:=
 aK P (Instr.makeSlice t l c) w λv w'=>dS v λa n c=>K a n c w'
def b_ (P:Program)(t:TypeId)(r:Option Value)(w:World)(K:Option Nat->World->Prop):Prop:=
 aK P (Instr.makeMap t r) w λv w'=>dM v λm=>K m w'
def bR (P:Program)(op:BinOp)(t:TypeId)(x y:Operand)(a b:Value)(w:World)(K:Bool->World->Prop):Prop:=
 aK P (do eqGuard op t x y a b;binOp op t a b) w λv w'=>dB v λr=>K r w'
def dF (g:Nat)(v:Value)(K:Prop):Prop:=match v with
 |.func fn f c=>match fn with
  |.func g'=>cond (Nat.beq g' g) (ko f.toList (ko c.toList K)) False
  |_=>False
 |_=>False
def aql {g:Nat}{v:Value}{K:Prop}(h:dF g v K):v=.func (.func g) #[] #[]/\K:=by
 cases v with
 |func fn f c=>
  cases fn with
  |func g'=>
   obtain⟨hb,h3⟩:=pA h;obtain⟨h1,h4⟩:=qP h3;obtain⟨h2,h5⟩:=qP h4;simp_all
  |_=>exact h.elim
 |_=>exact h.elim
def ajj (P:Program):List Nat->Bool
 |[]=>true
 |f::l=>(match P.funcs[f]? with|some fn=>fn.body.isSome&&!(fn.name== "runtime.NumGoroutine")|none=>false)&&ajj P l
def aqm {P:Program}{l:List (Nat×TI)}{fs:List Nat}(h1:l.map (λp=>S9 P p.1)=l.map (λp=>some (p.2.d,p.2.size,p.2.bytes,p.2.zero)))(h2:ajj P fs=true)(h3:P.follows .mixedOrders=true)(n:Nat):
  l_ ⟨P,YZ l,λf=>oB f fs,n⟩:=by
 refine⟨Dy P l h1,?_,h3⟩;intro f hf;have hf:=rQ.1 hf;induction fs with
 |nil=>cases hf
 |cons g fs ih=>
  simp[ajj,Bool.and_eq_true]at h2;rcases List.mem_cons.1 hf with rfl|hf
  ·grind
  ·exact ih h2.2 (rQ.2 hf) hf
end Go.Sx
namespace Go.Sx
open Go.RowKit
structure Mm where
 os:Os
 tape:Tape
 output:Array (Nat×ByteArray)
 heap:Array Obj
def mm (w:World):Mm:=⟨w.os,w.tape,w.output,w.heap⟩
structure EL (F:Nat->Prop) (w w':Mm):Prop where
 os:w'.os=w.os
 tape:w'.tape=w.tape
 output:w'.output=w.output
 size:w.heap.size<=w'.heap.size
 block:∀k,k<w.heap.size->¬F k->w'.heap[k]? =w.heap[k]?
abbrev Fr (F:Nat->Prop)(w w':World):Prop:=EL F (mm w) (mm w')
def No:Nat->Prop:=λ_=>False
def Fr.refl {F:Nat->Prop}{w:World}:Fr F w w:=⟨rfl,rfl,rfl,Nat.le_refl _,λ_ _ _=>rfl⟩
def Fr.size {F:Nat->Prop}{a b:World}(h:Fr F a b):a.heap.size<=b.heap.size:=EL.size h
def Fr.block {F:Nat->Prop}{a b:World}(h:Fr F a b)(k:Nat)(hk:k<a.heap.size)(hf:¬F k):b.heap[k]? =a.heap[k]?:=EL.block h k hk hf
def Fr.trans {F G:Nat->Prop}{a b c:World}(h:Fr F a b)(k:Fr G b c)(hg:∀i,i<a.heap.size->G i->F i):Fr F a c:=
 ⟨(EL.os k).trans (EL.os h),(EL.tape k).trans (EL.tape h),(EL.output k).trans (EL.output h),Nat.le_trans (EL.size h) (EL.size k),λi hi hf=>(k.block i (Nat.lt_of_lt_of_le hi h.size) λhgi=>hf (hg i hi hgi)).trans (h.block i hi hf)⟩
def Fr.alloc {F:Nat->Prop}{a w:World}(h:Fr F a w)(o:Obj):Fr F a (w.alloc o):=
 Fr.trans (G:=No) h ⟨rfl,rfl,rfl,by show w.heap.size<=(w.alloc o).heap.size;simp,λk hk _=>Below.heap_alloc _ _ _ hk⟩ λ_ _ h=>h.elim
def Fr.setCell {F:Nat->Prop}{a w:World}(h:Fr F a w){p:Addr}(hp:p.block<a.heap.size->F p.block)(u:Value):Fr F a (w.setCell p u):=
 Fr.trans h ⟨rfl,rfl,rfl,by show w.heap.size<=(w.setCell p u).heap.size;simp,λk hk hf=>Below.heap_setCell _ _ _ _ hf⟩ λi hi e=>by grind
def ak4 {F:Nat->Prop}{w w':World}(h:Fr F w w')(hf:∀k,k<w.heap.size->¬F k):Below w.heap.size w w':=
 ⟨EL.os h,EL.tape h,EL.output h,EL.size h,λk hk=>h.block k hk (hf k hk)⟩
def Fr.cell {F:Nat->Prop}{w w':World}(h:Fr F w w'){p:Addr}{v:Value}(hv:w.cell? p=some v)(hf:¬F p.block):w'.cell? p=some v:=
 (World.cell?_of_block (h.block p.block (World.block_lt_of_cell? w p hv) hf)).trans hv
def anD (h:Array Obj)(b:Nat)(t:TypeId)(cs:List Value):Prop:=h[b]? =some (.cells cs.toArray t (0,0))
abbrev Th (w:World)(b:Nat)(t:TypeId)(cs:List Value):Prop:=anD w.heap b t cs
def anE {w:World}{t:TypeId}{cs:List Value}:Th (w.alloc (.cells cs.toArray t)) w.heap.size t cs:=heap_alloc_new w _
def Th.cell {w:World}{b:Nat}{t:TypeId}{cs:List Value}(h:Th w b t cs)(i:Nat):w.cell? ⟨b,i,none⟩=cs[i]?:=by rw[cell_of_row w b i _ _ _ h];simp
def adV {w:World}{b:Nat}{t:TypeId}{cs:List Value}(h:Th w b t cs)(p:Addr)(hp:p.block=b):w.frozen? p=false:=by subst hp;have h:w.heap[p.block]? =some (.cells cs.toArray t (0,0)):=h;simp[World.frozen?,h]
def Th.set {w:World}{b:Nat}{t:TypeId}{cs:List Value}(h:Th w b t cs)(i:Nat)(v:Value):Th (w.setCell ⟨b,i,none⟩ v) b t (cs.set i v):=by have h:w.heap[b]? =some (.cells cs.toArray t (0,0)):=h;simp[Th,anD,World.setCell,Array.getElem?_modify,h]
structure As where
 fp:Nat->Prop
 ok:Array Obj->Prop
 lt:∀h,ok h->∀b,fp b->b<h.size
 fr:∀h h',ok h->(∀b,fp b->h'[b]? =h[b]?)->ok h'
def av (b:Nat)(t:TypeId)(cs:List Value):As where
 fp:=λk=>k=b
 ok:=λh=>anD h b t cs
 lt:=λh hb k hk=>by subst hk;exact(Array.getElem?_eq_some_iff.1 hb).1
 fr:=λh h' hb he=>(he b rfl).trans hb
structure dN (F:Nat->Prop) (W w:Mm) (L:List As):Prop where
 fr:EL F W w
 ok:∀A∈L,A.ok w.heap/\∀b,A.fp b->F b\/W.heap.size<=b
 apart:L.Pairwise λA B=>∀b,A.fp b->¬B.fp b
abbrev Sep (F:Nat->Prop)(W w:World)(L:List As):Prop:=dN F (mm W) (mm w) L
def bt {F:Nat->Prop}{w:World}:Sep F w w []:=⟨Fr.refl,by simp,.nil⟩
def PG {L:List As}{i:Nat}{A:As}(h:L[i]? =some A):A∈L:=List.mem_of_getElem? h
section
variable {F:Nat->Prop}{W w w':World}{L:List As}{i:Nat}{A A':As}
def fN (s:Sep F W w L)(h:L[i]? =some A):A.ok w.heap:=(dN.ok s A (PG h)).1
def Jz {R:As->As->Prop}(hs:∀a b,R a b->R b a):∀{L:List As} {i j:Nat} {A B:As},L.Pairwise R->L[i]? =some A->L[j]? =some B->i≠j->R A B
 |[],i,j,A,B,h,hi,hj,hn=>by simp at hi
 |C::L,0,0,A,B,h,hi,hj,hn=>(hn rfl).elim
 |C::L,0,j+1,A,B,h,hi,hj,hn=>by simp[List.getElem?_cons_zero,Option.some.injEq,List.getElem?_cons_succ]at hi hj;subst hi;exact(List.pairwise_cons.1 h).1 B (List.mem_of_getElem? hj)
 |C::L,i+1,0,A,B,h,hi,hj,hn=>by simp[List.getElem?_cons_zero,Option.some.injEq,List.getElem?_cons_succ]at hi hj;subst hj;exact hs _ _ ((List.pairwise_cons.1 h).1 A (List.mem_of_getElem? hi))
 |C::L,i+1,j+1,A,B,h,hi,hj,hn=>by exact Jz hs (List.pairwise_cons.1 h).2 hi hj (by omega)
def wO (s:Sep F W w L)(hi:L[i]? =some A)(f:Fr A.fp w w')(ho:A'.ok w'.heap)(hf:∀b,A'.fp b->A.fp b\/w.heap.size<=b):Sep F W w' (L.set i A'):=by
 have hA:=dN.ok s A (PG hi);have hW:W.heap.size<=w.heap.size:=EL.size (dN.fr s);have hfp:∀b,A'.fp b->F b\/W.heap.size<=b:=λb hb=>by
  rcases hf b hb with h|h
  ·exact hA.2 b h
  grind
 refine⟨Fr.trans (dN.fr s) f λk hk hA'=>?_,λB hB=>?_,?_⟩
 ·rcases hA.2 k hA' with h|h
  ·exact h
  ·have h:W.heap.size<=k:=h;omega
 ·rcases List.getElem?_of_mem hB with⟨j,hj⟩;rw[List.getElem?_set]at hj;split at hj
  ·split at hj
   ·cases hj;exact⟨ho,hfp⟩
   ·cases hj
  ·rename_i hne;have Ti:=dN.ok s B (List.mem_of_getElem? hj);have hap:=Jz (λa b h x hx hy=>h x hy hx) (dN.apart s) hi hj hne;exact⟨B.fr _ _ Ti.1 λb hb=>f.block b (B.lt _ Ti.1 b hb) λhab=>hap b hab hb,Ti.2⟩
 ·have afl:∀B∈L,∀b,B.fp b->b<w.heap.size:=λB hB b hb=>B.lt _ (dN.ok s B hB).1 b hb;have key:∀{L:List As} {i:Nat},L.Pairwise (λA B=>∀b,A.fp b->¬B.fp b)->(∀B∈L,∀b,B.fp b->b<w.heap.size)->L[i]? =some A->(L.set i A').Pairwise λA B=>∀b,A.fp b->¬B.fp b:=by
   intro L;induction L with
   |nil=>grind
   |cons B L ih=>
    intro i h hb hi;rw[List.pairwise_cons]at h;cases i with
    |zero=>
     simp[List.getElem?_cons_zero,Option.some.injEq]at hi;subst hi;simp[List.set_cons_zero,List.pairwise_cons];grind
    |succ i=>
     simp[List.set_cons_succ,List.pairwise_cons];grind
  exact key (dN.apart s) afl hi
def bV (s:Sep F W w L)(f:Fr No w w'):Sep F W w' L:=by refine⟨Fr.trans (dN.fr s) f λ_ _ h=>h.elim,λB hB=>?_,dN.apart s⟩;have Ti:=dN.ok s B hB;exact⟨B.fr _ _ Ti.1 λb hb=>f.block b (B.lt _ Ti.1 b hb) id,Ti.2⟩
def Gl (s:Sep F W w L)(f:Fr No w w')(ho:A.ok w'.heap)(hf:∀b,A.fp b->w.heap.size<=b):Sep F W w' (A::L):=by
 have s':=bV s f;have hW:=EL.size (dN.fr s);refine⟨dN.fr s',λB hB=>?_,?_⟩
 ·rcases List.mem_cons.1 hB with rfl|hB
  ·exact⟨ho,λb hb=>.inr (Nat.le_trans hW (hf b hb))⟩
  ·exact dN.ok s' B hB
 ·rw[List.pairwise_cons];refine⟨λB hB b hb1 hb2=>?_,dN.apart s⟩;have:=B.lt _ (dN.ok s B hB).1 b hb2;have:=hf b hb1;simp[mm]at*;omega
def ahB (s:Sep F W w L)(Ls:List As)(L1 L2:List As)(hL:L=L1++A::L2)(ho:A.ok w.heap->(∀B∈Ls,B.ok w.heap)/\(∀B∈Ls,∀b,B.fp b->A.fp b)/\Ls.Pairwise λA B=>∀b,A.fp b->¬B.fp b):Sep F W w (L1++Ls++L2):=by
 subst hL;have hA:=dN.ok s A (by simp);obtain⟨h1,h2,h3⟩:=ho hA.1;have hap:=dN.apart s;refine⟨dN.fr s,λB hB=>?_,?_⟩
 ·rcases List.mem_append.1 hB with hB|hB
  ·rcases List.mem_append.1 hB with hB|hB
   ·exact dN.ok s B (by simp[hB])
   ·exact⟨h1 B hB,λb hb=>hA.2 b (h2 B hB b hb)⟩
  ·exact dN.ok s B (by simp[hB])
 grind
def ai (s:Sep F W w (A::L)):Sep F W w L:=⟨dN.fr s,λB hB=>dN.ok s B (by simp[hB]),(List.pairwise_cons.1 (dN.apart s)).2⟩
end
section
variable {F:Nat->Prop}{W w:World}{L:List As}{a:Addr}{b i j:Nat}{t:TypeId}{cs:List Value}
def c9 {v:Value}(s:Sep F W w L)(ha:a=⟨b,j,none⟩)(hi:L[i]? =some (av b t cs))(hj:cs[j]? =some v):w.cell? a=some v:=by rw[ha,Th.cell (fN s hi)];exact hj
def eN {k:IntKind}{n:Int}{K:Int->Prop}(s:Sep F W w L)(ha:a=⟨b,j,none⟩)(hi:L[i]? =some (av b t cs))(hj:cs[j]? =some (.int k n))(h:K n):af k a w K:=⟨n,c9 s ha hi hj,h⟩
def avd {n:Bool}{K:Bool->Prop}(s:Sep F W w L)(ha:a=⟨b,j,none⟩)(hi:L[i]? =some (av b t cs))(hj:cs[j]? =some (.bool n))(h:K n):cq a w K:=⟨n,c9 s ha hi hj,h⟩
def ave {n:Option Addr}{K:Option Addr->Prop}(s:Sep F W w L)(ha:a=⟨b,j,none⟩)(hi:L[i]? =some (av b t cs))(hj:cs[j]? =some (.pointer n))(h:K n):bf a w K:=⟨n,c9 s ha hi hj,h⟩
def avf {n:Option Nat}{K:Option Nat->Prop}(s:Sep F W w L)(ha:a=⟨b,j,none⟩)(hi:L[i]? =some (av b t cs))(hj:cs[j]? =some (.map n))(h:K n):bY a w K:=⟨n,c9 s ha hi hj,h⟩
def iG {x:Option Addr}{n c:Nat}{K:Option Addr->Nat->Nat->Prop}(s:Sep F W w L)(ha:a=⟨b,j,none⟩)(hi:L[i]? =some (av b t cs))(hj:cs[j]? =some (.slice x n c))(h:K x n c):aB a w K:=⟨x,n,c,c9 s ha hi hj,h⟩
def Sep.set (s:Sep F W w L)(hi:L[i]? =some (av b t cs))(v:Value):Sep F W (w.setCell ⟨b,j,none⟩ v) (L.set i (av b t (cs.set j v))):=
 wO s hi (Fr.setCell (p:=⟨b,j,none⟩) (F:=(av b t cs).fp) Fr.refl (λ_=>rfl) v) (Th.set (fN s hi) j v) λb h=>.inl h
def az {v:Value}{K:World->Prop}(s:Sep F W w L)(ha:a=⟨b,j,none⟩)(hi:L[i]? =some (av b t cs))(hj':Nat.blt j cs.length=true)(h:∀w',Sep F W w' (L.set i (av b t (cs.set j v)))->K w'):St a v w K:=by
 subst ha;have hj:j<cs.length:=by simp_all
 have hb:=fN s hi;exact⟨⟨cs[j],by rw[Th.cell hb];simp[hj]⟩,adV hb _ rfl,h _ (Sep.set s hi v)⟩
def sO (s:Sep F W w L)(cs:List Value)(t:TypeId):Sep F W (w.alloc (.cells cs.toArray t)) (av w.heap.size t cs::L):=
 Gl s (Fr.alloc Fr.refl _) anE λb hb=>Nat.le_of_eq hb.symm
def aS {K:Addr->World->Prop}(s:Sep F W w L)(h:∀b w',Sep F W w' (av b t cs::L)->K ⟨b,0,none⟩ w'):Bx cs t w K:=h _ _ (sO s cs t)
def aY {T:tR}{K:Addr->World->Prop}(s:Sep F W w L)(h:∀b w',Sep F W w' (av b t (zc T t)::L)->K ⟨b,0,none⟩ w'):Al T t w K:=h _ _ (sO s (zc T t) t)
end
def cf (b o i:Nat):(⟨b,o,none⟩:Addr).add i=⟨b,o+i,none⟩:=by unfold Addr.add;grind
def acY (a:Addr)(i:Nat):(a.add i).block=a.block:=by unfold Addr.add;split<;>rfl
def add_add (a:Addr)(i j:Nat):(a.add i).add j=a.add (i+j):=by unfold Addr.add;grind
def add_zero (a:Addr):a.add 0=a:=by simp[Addr.add]
end Go.Sx
namespace Go.Sx
open Go.RowKit Go.ChangeShapes Go.WideShapes
inductive Sh where
 |int (k:IntKind)|bool
 |agg (n:Nat) (fs:List (Nat×Nat×Sh))
 |sl (n:Nat) (e:Sh)
mutual
def Rd (w:World):Sh->List Value->Prop
 |.int k,cs=>∃n,cs=[.int k n]/\(Lit.int k n).wf=true
 |.bool,cs=>∃b,cs=[.bool b]
 |.agg n fs,cs=>cs.length=n/\RdF w fs cs
 |.sl n e,cs=>cs=[.slice none 0 0]\/∃a len cap,cs=[.slice (some a) len cap]/\len<=cap/\cap<=maxLen/\(0<cap*n->a.block<w.heap.size)/\
  ∀i,i<cap->∃es:List Value,es.length=n/\(∀j v,es[j]? =some v->w.cell? (a.add (i*n+j))=some v)/\Rd w e es
def RdF (w:World):List (Nat×Nat×Sh)->List Value->Prop
 |[],_=>True
 |f::fs,cs=>Rd w f.2.2 ((cs.drop f.1).take f.2.1)/\RdF w fs cs
end
def JA (P:Program):Nat->TypeId->Option Sh
 |0,_=>none
 |f+1,t=>match P.underlying t with
  |some (.int k)=>some (.int k)
  |some .bool=>some .bool
  |some (.slice e)=>(JA P f e).map (.sl (P.cellsOf e))
  |some (.struct fs)=>(fs.toList.mapM λx=>(JA P f x.type).map λs=>(x.offset,P.cellsOf x.type,s)).map (.agg (P.cellsOf t))
  |some (.array n e)=>(JA P f e).map λs=>.agg (P.cellsOf t) ((List.range n).map λi=>(i*P.cellsOf e,P.cellsOf e,s))
  |_=>none
def afm {w:World}:∀{fs:List (Nat×Nat×Sh)} {cs:List Value},(∀f∈fs,Rd w f.2.2 ((cs.drop f.1).take f.2.1))->RdF w fs cs
 |[],_,_=>by simp[RdF]
 |f::fs,cs,h=>by exact⟨h f (by simp),afm λg hg=>h g (by simp[hg])⟩
def cells?_some {w:World}{a:Addr}{n:Nat}{es:List Value}(h:w.cells? 0 a n=some es):es.length=n/\∀j v,es[j]? =some v->w.cell? (a.add j)=some v:=by
 unfold World.cells? at h;have hl:=mapM_some_length h;simp[List.length_range]at hl;refine⟨hl,λj v hv=>?_⟩;have hj:j<n:=by grind
 have:=mapM_some_get h j j (by simp[hj]);rw[this,hv]
def aeS {H:Type}{enc:TypeId×Value->H}{P:Program}{w:World}{held:Bool}:∀{fuel:Nat} {t:TypeId} {sh:Sh} {cs:List Value} {m:Nat} {x:DataW H×List MemPlace},
  JA P fuel t=some sh->DataW.trod enc P w 0 (λ_=>true) held m t cs=some x->Rd w sh cs
 |0,_,_,_,_,_,h,_=>by simp[JA]at h
 |fuel+1,t,sh,cs,m,x,h,hd=>by
  unfold JA at h;split at h
  ·rename_i k hu;cases h;obtain⟨n,h1,_,h3⟩:=DataW.trod_int hu hd;unfold Rd;grind
  ·cases h;unfold Rd;cases m with
   |zero=>simp[DataW.trod]at hd
   |succ m=>
    unfold DataW.trod at hd;grind
  ·rename_i e hu;obtain⟨s,hs,rfl⟩:=Option.map_eq_some_iff.1 h;rcases DataW.trod_slice hu hd with⟨h1,_⟩|⟨a,len,cap,elems,rest,n,_,rfl,_,_,h2,h3,h4,h5,h6,_⟩
   ·exact .inl h1
   ·have hel:∀i,i<cap->∃es:List Value,es.length=P.cellsOf e/\(∀j v,es[j]? =some v->w.cell? (a.add (i*P.cellsOf e+j))=some v)/\Rd w s es:=by
     intro i hi;have key:∃y,(w.cells? 0 (a.add (i*P.cellsOf e)) (P.cellsOf e)).bind (DataW.trod enc P w 0 (λ_=>true) held n e)=some y:=by
      rcases Nat.lt_or_ge i len with hl|hl
      ·grind
      ·obtain⟨h61,h62⟩:=h6 rfl;have:=h62 (i-len) (by omega);grind
     obtain⟨y,hy⟩:=key;obtain⟨es,he,hy⟩:=Option.bind_eq_some_iff.1 hy;obtain⟨hl,hc⟩:=cells?_some he;exact⟨es,hl,λj v hv=>by rw[<-add_add];grind,aeS hs hy⟩
    refine .inr ⟨a,len,cap,rfl,h2,h3,λhpos=>?_,hel⟩;have hc0:=Nat.pos_of_mul_pos_right hpos;have Tj:=Nat.pos_of_mul_pos_left hpos;obtain⟨es,hl,hc,_⟩:=hel 0 hc0;have:=hc 0 (es[0]'(by omega)) (by simp);have:=World.block_lt_of_cell? w _ this;rwa[acY]at this
  ·rename_i fs hu;obtain⟨ss,hs,rfl⟩:=Option.map_eq_some_iff.1 h;obtain⟨xs,n,_,_,h1,h2,h3⟩:=DataW.trod_struct hu hd;refine⟨h1,afm λf hf=>?_⟩;obtain⟨i,hi,rfl⟩:=List.getElem_of_mem hf;have Hq:i<fs.size:=by have:=mapM_some_length hs;grind
   have h4:=mapM_some_get hs i fs[i] (by simp[Hq]);have h5:=h3 i fs[i] (by simp[Hq]);rw[List.getElem?_eq_getElem hi]at h4;obtain⟨s,hs1,hs2⟩:=Option.map_eq_some_iff.1 h4;rw[<-hs2];rw[List.getElem?_eq_getElem (by omega)]at h5;exact aeS hs1 h5
  ·rename_i n e hu;obtain⟨s,hs,rfl⟩:=Option.map_eq_some_iff.1 h;obtain⟨xs,q,_,_,h1,h2,h3⟩:=DataW.trod_array hu hd;refine⟨h1,afm λf hf=>?_⟩;obtain⟨i,hi,rfl⟩:=List.mem_map.1 hf;have h4:=h3 i (by grind);rw[List.getElem?_eq_getElem (by grind)]at h4;exact aeS hs h4
  ·cases h
def RdV (w:World)(sh:Sh)(v:Value):Prop:=match sh with
 |.agg _ _=>∃cs:List Value,v=.agg cs.toArray/\Rd w sh cs
 |_=>Rd w sh [v]
def Ar (w:World):List Sh->List Value->Prop
 |[],[]=>True
 |s::ss,v::vs=>RdV w s v/\Ar w ss vs
 |_,_=>False
def arD {H:Type}{enc:TypeId×Value->H}{P:Program}{w:World}{held:Bool}{fuel:Nat}{t:TypeId}{sh:Sh}{v:Value}{d:DataW H}{ps:List MemPlace}{b0:Nat}
  (h:JA P fuel t=some sh)(hval:Value.okWide P w .any b0 t v)(hd:DataW.Trod enc P w 0 (λ_=>true) held t v d ps):RdV w sh v:=by
 obtain⟨m,hd⟩:=hd;have hr:=aeS h hd;cases fuel with
 |zero=>simp[JA]at h
 |succ fuel=>
  unfold JA at h;split at h
  ·rename_i k hu;cases h;obtain⟨n,rfl⟩:=okWide_int hu hval;exact hr
  ·rename_i hu;cases h;obtain⟨n,rfl⟩:=okWide_bool hu hval;exact hr
  ·rename_i e hu;obtain⟨s,hs,rfl⟩:=Option.map_eq_some_iff.1 h;obtain⟨a,len,cap,rfl⟩:=okWide_slice hu hval;exact hr
  ·rename_i fs hu;obtain⟨s,hs,rfl⟩:=Option.map_eq_some_iff.1 h;simp[Value.okWide,hu]at hval;obtain⟨cs,rfl,_⟩:=hval;exact⟨cs.toList,by simp,hr⟩
  ·rename_i n e hu;obtain⟨s,hs,rfl⟩:=Option.map_eq_some_iff.1 h;simp[Value.okWide,hu]at hval;obtain⟨cs,rfl,_⟩:=hval;exact⟨cs.toList,by simp,hr⟩
  ·cases h
def afn {H:Type}{enc:TypeId×Value->H}{P:Program}{w:World}{held:Bool}{fuel b0:Nat}:∀{ts:List TypeId} {Tk:List Sh} {vs:List Value} {ds:List (DataW H)} {ps:List MemPlace},
  ts.map (JA P fuel)=Tk.map some->(∀(j:Nat) t v,ts[j]? =some t->vs[j]? =some v->Value.okWide P w .any b0 t v)->DataW.TrodAll enc P w 0 (λ_=>true) held ts vs ds ps->Ar w Tk vs
 |[],Tk,vs,ds,ps,h,hv,hd=>by
  obtain⟨rfl,_,_⟩:=trodAll_nil hd;cases Tk with
  |nil=>simp[Ar]
  |cons=>simp at h
 |t::ts,Tk,vs,ds,ps,h,hv,hd=>by
  obtain⟨v,vs',d,ds',p,q,rfl,_,_,h1,h2⟩:=trodAll_cons hd;cases Tk with
  |nil=>simp at h
  |cons s ss=>
   simp[List.map_cons,List.cons.injEq]at h;exact⟨arD h.1 (hv 0 t v rfl rfl) h1,afn h.2 (λj t' v' ht Y7=>hv (j+1) t' v' (by grind) (by grind)) h2⟩
def Rw {H:Type}{enc:TypeId×Value->H}{P:Program}(hl:laidOutB P=true){W W':World}(hb:Below W.heap.size W W'):∀{ts:List TypeId} {vs:List Value} {ds:List (DataW H)} {ps:List MemPlace},
  (ts.all λt=>P.readableRec t&&decide (t<P.types.size))=true->DataW.TrodAll enc P W 0 (λ_=>true) true ts vs ds ps->(∀x∈ps,x.block<W.heap.size)->
  DataW.TrodAll enc P W' 0 (λb=>decide (b<W.heap.size)) true ts vs ds ps
 |[],vs,ds,ps,hr,hd,hlt=>by obtain⟨rfl,rfl,rfl⟩:=trodAll_nil hd;exact trodAll_mk0
 |t::ts,vs,ds,ps,hr,hd,hlt=>by obtain⟨v,vs',d,ds',p,q,rfl,rfl,rfl,h1,h2⟩:=trodAll_cons hd;simp only[List.all_cons,Bool.and_eq_true,decide_eq_true_eq]at hr;exact trodAll_cons_mk (Below.trod hl hr.1.1 hr.1.2 h1 hb λx hx=>hlt x (by simp[hx])) (Rw hl hb hr.2 h2 λx hx=>hlt x (by simp[hx]))
def Nu {H:Type}{enc:TypeId×Value->H}{P:Program}{W:World}{base:Nat}{sp:Nat->Bool}{held:Bool}:∀{ts:List TypeId} {vs:List Value} {ds:List (DataW H)} {ps:List MemPlace},
  DataW.TrodAll enc P W base sp held ts vs ds ps->ds.length=ts.length
 |[],vs,ds,ps,hd=>by obtain⟨_,rfl,_⟩:=trodAll_nil hd;rfl
 |t::ts,vs,ds,ps,hd=>by obtain⟨v,vs',d,ds',p,q,_,rfl,_,_,h2⟩:=trodAll_cons hd;simp[Nu h2]
def Ar.nil {w:World}{vs:List Value}(h:Ar w [] vs):vs=[]:=by
 cases vs with
 |nil=>rfl
 |cons=>exact h.elim
def Ar.cons {w:World}{s:Sh}{ss:List Sh}{vs:List Value}(h:Ar w (s::ss) vs):∃v vs',vs=v::vs'/\RdV w s v/\Ar w ss vs':=by
 cases vs with
 |nil=>exact h.elim
 |cons v vs=>exact⟨v,vs,rfl,h⟩
def ak5 {w:World}{k:IntKind}{v:Value}(h:Rd w (.int k) [v]):∃n,v=.int k n/\(Lit.int k n).wf=true:=by unfold Rd at h;grind
def aqo {w:World}{v:Value}(h:Rd w .bool [v]):∃b,v=.bool b:=by unfold Rd at h;grind
def ato {w:World}{n:Nat}{e:Sh}{v:Value}(h:Rd w (.sl n e) [v]):v=.slice none 0 0\/∃a len cap,v=.slice (some a) len cap/\len<=cap/\cap<=maxLen/\(0<cap*n->a.block<w.heap.size)/\
  ∀i,i<cap->∃es:List Value,es.length=n/\(∀j v,es[j]? =some v->w.cell? (a.add (i*n+j))=some v)/\Rd w e es:=by
 unfold Rd at h;grind
def aij {w:World}{k:IntKind}{v:Value}(h:RdV w (.int k) v):∃n,v=.int k n/\(Lit.int k n).wf=true:=ak5 (w:=w) h
def anF {w:World}{v:Value}(h:RdV w .bool v):∃b,v=.bool b:=aqo (w:=w) h
def arE {w:World}{n:Nat}{e:Sh}{v:Value}(h:RdV w (.sl n e) v):v=.slice none 0 0\/∃a len cap,v=.slice (some a) len cap/\len<=cap/\cap<=maxLen/\(0<cap*n->a.block<w.heap.size)/\
 ∀i,i<cap->∃es:List Value,es.length=n/\(∀j v,es[j]? =some v->w.cell? (a.add (i*n+j))=some v)/\Rd w e es:=ato h
end Go.Sx
namespace Go.Sx
def afo (d:Option TypeDesc)(a b:Option Value):Option Bool:=match d with
 |some (.int _)=>match a with
  |some (.int k x)=>match b with
   |some (.int l y)=>cond (Nat.beq (Hh k) (Hh l)) (some (x==y)) none
   |_=>none
  |_=>none
 |some .bool=>match a with
  |some (.bool x)=>match b with
   |some (.bool y)=>some (x==y)
   |_=>none
  |_=>none
 |_=>none
def afp (P:Program)(xs ys:Array Value):List Field->Option Bool
 |[]=>some true
 |f::fs=>match f.name== "_" with
  |true=>none
  |false=>match afo (P.underlying f.type) xs[f.offset]? ys[f.offset]? with
   |some r=>match afp P xs ys fs with
    |some s=>some (r&&s)
    |none=>none
   |none=>none
def ajk {P:Program}{t:TypeId}{d:Nat}{xs ys:Array Value}{i:Nat}{r:Bool}{w:World}(h:afo (P.underlying t) xs[i]? ys[i]? =some r):
  ∃a b,(part t xs i).run P w=.ok a w/\(part t ys i).run P w=.ok b w/\(Op.equalIn (d+1) t a b).run P w=.ok r w:=by
 unfold afo at h;split at h
 ·rename_i k hu;split at h
  ·rename_i kx x hx;split at h
   ·rename_i ky y hy;cases hk:Nat.beq (Hh kx) (Hh ky)with
    |false=>grind
    |true=>
     rw[hk]at h;cases h;obtain rfl:kx=ky:=by revert hk;cases kx<;>cases ky<;>simp[Hh]
     exact⟨_,_,run_part_plain w (by simp[Program.plainKey,hu]) hx,run_part_plain w (by simp[Program.plainKey,hu]) hy,run_equalIn_int w d t _ _ x y hu⟩
   ·cases h
  ·cases h
 ·rename_i hu;split at h
  ·rename_i x hx;split at h
   ·rename_i y hy;cases h;exact⟨_,_,run_part_plain w (by simp[Program.plainKey,hu]) hx,run_part_plain w (by simp[Program.plainKey,hu]) hy,run_equalIn_bool w d t x y hu⟩
   ·cases h
  ·cases h
 ·cases h
def afq {P:Program}{d:Nat}{xs ys:Array Value}{w:World}:∀{fs:List Field} {r:Bool},afp P xs ys fs=some r->(Op.eqFields (d+1) xs ys fs).run P w=.ok r w
 |[],r,h=>by cases h;simp[Op.eqFields]
 |f::fs,r,h=>by
  unfold afp at h;split at h
  ·cases h
  ·split at h
   ·rename_i r1 h1;split at h
    ·rename_i s h2;cases h;obtain⟨a,b,ha,hb,he⟩:=ajk (d:=d) (w:=w) h1;have hn':f.name≠ "_":=by grind
     rw[Op.eqFields];simp[if_pos hn',Sem.run_bind,ha,hb,he,Result.andThen_ok];cases r1
     ·simp
     ·simpa using afq h2
    ·cases h
   ·cases h
def arF {P:Program}{t:TypeId}{fs:Array Field}{xs ys:Array Value}{x y:Operand}{r:Bool}{w:World}{K:Bool->World->Prop}(hu:P.underlying t=some (.struct fs))(hp:P.stoodInHeld t=false)(hg:P.eqGuardType P.depth t=false)
  (hr:afp P xs ys fs.toList=some r)(h:K r w):bR P .eql t x y (.agg xs) (.agg ys) w K:=by
 have hf:P.fieldsOf t=fs:=by simp[Program.fieldsOf,hu]
 have h1:(Op.equalIn 10000 t (.agg xs) (.agg ys)).run P w=.ok r w:=by rw[run_equalIn_struct w 9999 t xs ys (by grind) hp,hf];exact afq hr
 unfold bR aK;simp[Sem.run_bind,run_eqGuard_agg w .eql t x y xs ys hg,Result.andThen_ok,run_eql_struct,h1];exact h
def Gm {k:IntKind}{n:Int}(h:(Lit.int k n).wf=true):k.wrap n=n:=by cases k<;>simp[Lit.wf,IntKind.wrap,IntKind.min,IntKind.max,IntKind.signed,IntKind.bits]at h⊢<;>(try split)<;>omega
def wrap_u64 {n:Int}(h1:0<=n)(h2:n<18446744073709551616):IntKind.wrap .u64 n=n:=by simp[IntKind.wrap,IntKind.signed,IntKind.bits];omega
def wrap_i64 {n:Int}(h1:-9223372036854775808<=n)(h2:n<9223372036854775808):IntKind.wrap .i64 n=n:=by simp[IntKind.wrap,IntKind.signed,IntKind.bits];omega
def wrap_u8 {n:Int}(h1:0<=n)(h2:n<256):IntKind.wrap .u8 n=n:=by simp[IntKind.wrap,IntKind.signed,IntKind.bits];omega
def wf_u8 {n:Int}(h:(Lit.int .u8 n).wf=true):0<=n/\n<256:=by simp[Lit.wf,IntKind.min,IntKind.max,IntKind.signed,IntKind.bits]at h;omega
def aj (a:Option Addr)(n c:Nat)(e:TypeId)(size:Nat)(xs:List Value):As where
 fp:=λk=>∃x,a=some x/\x.block=k
 ok:=λh=>(xs.length=n*size/\n<=c/\c<=maxLen/\∀u∈xs,u.oneCell'=true)/\((a=none/\c=0)\/
  ∃g o cur,a=some ⟨g,o,none⟩/\h[g]? =some (.cells cur e (0,0))/\o+c*size<=cur.size/\(cur.toList.drop o).take (n*size)=xs)
 lt:=λh hb k hk=>by grind
 fr:=λh h' hb he=>by grind
def Src (w:World)(b:Option Addr)(m size:Nat)(news:List Value):Prop:=
 news.length=m*size/\(∀u∈news,u.oneCell'=true)/\match b with|none=>m=0|some ad=>∀j u,news[j]? =some u->w.cell? (ad.add j)=some u
section
variable {F:Nat->Prop}{W w w':World}{L:List As}{i j n c size:Nat}{a:Option Addr}{e:TypeId}{xs:List Value}
def pB (s:Sep F W w L)(hi:L[i]? =some (aj a n c e size xs))(hn:0<n):∃g o,a=some ⟨g,o,none⟩:=by obtain⟨h0,h⟩:=fN s hi;grind
def qG (s:Sep F W w L)(hi:L[i]? =some (aj a n c e size xs)):xs.length=n*size:=(fN s hi).1.1
def PJ (s:Sep F W w L)(hi:L[i]? =some (aj a n c e size xs)):n<=c/\c<=maxLen:=⟨(fN s hi).1.2.1,(fN s hi).1.2.2.1⟩
def Tm {h:World}{g o:Nat}{v:Value}(hh:(aj (some ⟨g,o,none⟩) n c e size xs).ok h.heap)(hj:xs[j]? =some v):h.cell? ⟨g,o+j,none⟩=some v:=by
 rcases hh.2 with⟨h,_⟩|⟨g',o',cur,h1,h2,h3,h4⟩
 ·cases h
 ·cases h1;rw[cell_of_row h g (o+j) cur e (0,0) h2];grind
def vG {g o:Nat}{v:Value}{ad:Addr}(s:Sep F W w L)(hi:L[i]? =some (aj (some ⟨g,o,none⟩) n c e size xs))(ha:ad=⟨g,o+j,none⟩)(hj:xs[j]? =some v):w.cell? ad=some v:=by rw[ha];exact Tm (fN s hi) hj
def anG (s:Sep F W w L)(hi:L[i]? =some (aj a n c e size xs)):Src w a n size xs:=by
 have h:=fN s hi;refine⟨h.1.1,h.1.2.2.2,?_⟩;cases a with
 |none=>
  rcases h.2 with⟨_,h2⟩|⟨_,_,_,h2,_⟩
  ·have:=h.1.2.1;omega
  ·cases h2
 |some ad=>
  intro j u hj;rcases h.2 with⟨h2,_⟩|⟨g,o,cur,h2,_⟩
  ·cases h2
  ·cases h2;rw[cf];exact Tm h hj
def Tn {g o:Nat}{k:IntKind}{m:Int}{ad:Addr}{K:Int->Prop}(s:Sep F W w L)(hi:L[i]? =some (aj (some ⟨g,o,none⟩) n c e size xs))(ha:ad=⟨g,o+j,none⟩)(hj:xs[j]? =some (.int k m))(h:K m):Sx.af k ad w K:=
 ⟨m,vG s hi ha hj,h⟩
def afr {g o:Nat}{x:Option Addr}{m q:Nat}{ad:Addr}{K:Option Addr->Nat->Nat->Prop}(s:Sep F W w L)(hi:L[i]? =some (aj (some ⟨g,o,none⟩) n c e size xs))(ha:ad=⟨g,o+j,none⟩)(hj:xs[j]? =some (.slice x m q))(h:K x m q):Sx.aB ad w K:=
 ⟨x,m,q,vG s hi ha hj,h⟩
def afs {g o:Nat}{m:Bool}{ad:Addr}{K:Bool->Prop}(s:Sep F W w L)(hi:L[i]? =some (aj (some ⟨g,o,none⟩) n c e size xs))(ha:ad=⟨g,o+j,none⟩)(hj:xs[j]? =some (.bool m))(h:K m):Sx.cq ad w K:=
 ⟨m,vG s hi ha hj,h⟩
def aqp (l:List Value)(o j k:Nat)(v:Value):((l.set (o+j) v).drop o).take k=((l.drop o).take k).set j v:=by congr 1;apply List.ext_getElem?;grind
def ahC {g o:Nat}{v:Value}{ad:Addr}{K:World->Prop}(s:Sep F W w L)(hi:L[i]? =some (aj (some ⟨g,o,none⟩) n c e size xs))(ha:ad=⟨g,o+j,none⟩)(hj:j<n*size)(hv:v.oneCell'=true)
  (h:∀w',Sep F W w' (L.set i (aj (some ⟨g,o,none⟩) n c e size (xs.set j v)))->K w'):Sx.St ad v w K:=by
 subst ha;obtain⟨h0,hh⟩:=fN s hi;rcases hh with⟨hh,_⟩|⟨g',o',cur,hh,h2,h5,h6⟩
 ·cases hh
 ·cases hh;have hnc:n*size<=c*size:=Nat.mul_le_mul_right _ h0.2.1;have hjc:o+j<cur.size:=by omega
  have hw:=h2;refine⟨⟨cur[o+j],?_⟩,?_,h _ (wO s hi (Fr.setCell Fr.refl (λ_=>⟨_,rfl,rfl⟩) v) ?_ λb h=>.inl h)⟩
  ·rw[cell_of_row w g (o+j) cur e (0,0) hw];simp[hjc]
  ·simp[World.frozen?,hw]
  ·refine⟨⟨by simp[h0.1],h0.2.1,h0.2.2.1,λu hu=>?_⟩,.inr ⟨g,o,cur.setIfInBounds (o+j) v,rfl,?_,by grind,?_⟩⟩
   ·grind
   ·simp[World.setCell,Array.getElem?_modify,hw]
   ·rw[Array.toList_setIfInBounds,aqp,h6]
def bE (s:Sep F W w L)(e:TypeId)(size:Nat):Sep F W w (aj none 0 0 e size []::L):=
 Gl s Fr.refl ⟨⟨by simp,Nat.le_refl _,by decide,by simp⟩,.inl ⟨rfl,rfl⟩⟩ λb hb=>by obtain⟨x,hx,_⟩:=hb;cases hx
def aqq {w:World}{b:Nat}{cs:List Value}(h:(av b e cs).ok w.heap)(hl:cs.length=n*size)(hm:n<=maxLen)(h1:∀u∈cs,u.oneCell'=true):(aj (some ⟨b,0,none⟩) n n e size cs).ok w.heap:=by have h:=h;refine⟨⟨hl,Nat.le_refl _,hm,h1⟩,.inr ⟨b,0,_,rfl,h,by simp[hl],?_⟩⟩;grind
def iS {b:Nat}{cs:List Value}(s:Sep F W w L)(hi:L[i]? =some (av b e cs))(hl:cs.length=n*size)(hm:n<=maxLen)(h1:∀u∈cs,u.oneCell'=true):Sep F W w (L.set i (aj (some ⟨b,0,none⟩) n n e size cs)):=
 wO s hi Fr.refl (Sx.aqq (fN s hi) hl hm h1) λk hk=>by obtain⟨x,hx,rfl⟩:=hk;cases hx;exact .inl rfl
def Rx {m:Nat}(s:Sep F W w L)(hi:L[i]? =some (aj a n c e size xs))(hm:m<=n):Sep F W w (L.set i (aj a m c e size (xs.take (m*size)))):=by
 refine wO s hi Fr.refl ?_ λb h=>.inl h;obtain⟨h0,hh⟩:=fN s hi;refine⟨⟨by simp_all,by omega,h0.2.2.1,λu hu=>h0.2.2.2 u (List.mem_of_mem_take hu)⟩,?_⟩;rcases hh with h1|⟨g,o,cur,h1,h2,h5,h6⟩
 ·exact .inl h1
 ·exact .inr ⟨g,o,cur,h1,h2,h5,by rw[<-h6,List.take_take,Nat.min_eq_left (Nat.mul_le_mul_right _ hm)]⟩
def adX {m:Nat}(s:Sep F W w L)(hi:L[i]? =some (aj a n c e size xs))(hm:m<=n):Sep F W w (L.set i (aj (if c=m then a else a.map (·.add (m*size))) (n-m) (c-m) e size (xs.drop (m*size)))):=by
 refine wO s hi Fr.refl ?_ λb h=>?_
 ·obtain⟨h0,hh⟩:=fN s hi;refine⟨⟨by rw[List.length_drop,h0.1,Nat.sub_mul],by omega,by omega,λu hu=>h0.2.2.2 u (List.mem_of_mem_drop hu)⟩,?_⟩;rcases hh with⟨h1,h2⟩|⟨g,o,cur,h1,h2,h5,h6⟩
  ·grind
  ·subst h1;right;split
   ·rename_i hc;subst hc;have hn:n=c:=by omega
    subst hn;grind
   ·refine⟨g,o+m*size,cur,by simp[cf],h2,?_,?_⟩
    ·have:m*size+(c-m)*size=c*size:=by rw[<-Nat.add_mul];grind
     omega
    ·rw[<-h6,List.drop_take,List.drop_drop,Nat.sub_mul]
 ·left;obtain⟨x,hx,rfl⟩:=h;split at hx
  ·exact⟨x,hx,rfl⟩
  ·obtain⟨y,hy,rfl⟩:=Option.map_eq_some_iff.1 hx;exact⟨y,hy,(acY _ _).symm⟩
def ajl {P:Program}{t ty:TypeId}{inf:TypeInfo}{z:Value}{b:Option Addr}{m cc:Nat}{news:List Value}(ht:P.underlying t=some (.slice e))(hi:P.info? e=some inf)(hz:inf.zero=some z)(hzs:z.cells.size=inf.size)(hsz:0<inf.size)
  (hr:(aj a n c e inf.size xs).ok w.heap)(hs:Src w b m inf.size news)(h63:n+m<=maxLen)(hbytes:(n+m)*inf.bytes<=140737488355328)(hcc:b=none->cc=0):
  ∃a' c' w',(Builtin.append_ #[t,t] ty #[.slice a n c,.slice b m cc]).run P w=.ok (.slice a' (n+m) c') w'/\(aj a' (n+m) c' e inf.size (xs++news)).ok w'.heap/\Fr (aj a n c e inf.size xs).fp w w'/\
   ∀x,a'=some x->(∃y,a=some y/\y.block=x.block)\/w.heap.size<=x.block:=by
 obtain⟨⟨r1,r2,r3,r4⟩,r5⟩:=hr;obtain⟨s1,s2,s3⟩:=hs;have awB:n+m<=9223372036854775807:=by simp[maxLen]at h63;omega
 have hlen:(xs++news).length=(n+m)*inf.size:=by grind
 have hone:∀u∈xs++news,u.oneCell'=true:=λu hu=>by grind
 cases b with
 |none=>
  have hm:=s3;subst hm;have avh:=hcc rfl;subst avh;have hn:news=[]:=List.eq_nil_of_length_eq_zero (by grind);subst hn;refine⟨a,c,w,?_,?_,Fr.refl,λx hx=>.inl ⟨x,hx,rfl⟩⟩
  ·cases a with
   |none=>
    rcases r5 with⟨_,h⟩|⟨_,_,_,h,_⟩
    ·subst h;obtain rfl:n=0:=by omega
     simp[Builtin.append_,run_underlying ht,sizeOf,typeInfo,hi,Builtin.lenOf,Builtin.firstCells]
    ·cases h
   |some ad=>simp[Builtin.append_,run_underlying ht,sizeOf,typeInfo,hi,Builtin.lenOf,Builtin.firstCells,r2,storeCells]
  ·simp[Nat.add_zero,List.append_nil];exact⟨⟨r1,r2,r3,r4⟩,r5⟩
 |some ad=>
  have grown:∀old,(aj (some ⟨w.heap.size,0,none⟩) (n+m) (grownCap w (n+m) old e) e inf.size (xs++news)).ok (w.drew.alloc (.cells (xs.toArray++news.toArray++Builtin.zeroCells z.cells (grownCap w (n+m) old e-(n+m))) e)).heap:=by
   intro old;have hge:=grownCap_ge w (n+m) old e;refine⟨⟨hlen,hge,grownCap_le_maxLen w (n+m) old e h63,hone⟩,.inr ⟨w.heap.size,0,_,rfl,heap_alloc_new w.drew _,?_,?_⟩⟩
   ·have hsum:(n+m)*inf.size+(grownCap w (n+m) old e-(n+m))*inf.size=grownCap w (n+m) old e*inf.size:=by rw[<-Nat.add_mul];congr 1;omega
    simp[Array.size_append,List.size_toArray,size_zeroCells,hzs,r1,s1];rw[<-hsum,Nat.add_mul];omega
   ·simp only[Array.toList_append];rw[<-hlen];exact List.take_left
  have hfr:∀o:Obj,Fr (aj a n c e inf.size xs).fp w (w.drew.alloc o):=λo=>Fr.alloc Fr.refl o;rcases r5 with⟨rfl,rfl⟩|⟨g,o,cur,rfl,hg,To,aft⟩
  ·obtain rfl:n=0:=by omega
   have hx:=List.eq_nil_of_length_eq_zero (by simpa using r1);subst hx;by_cases hm:m=0
   ·subst hm;have hn:=List.eq_nil_of_length_eq_zero (by simpa using s1);subst hn;refine⟨none,0,w,?_,⟨⟨by simp,by simp,by decide,by simp⟩,.inl ⟨rfl,rfl⟩⟩,Fr.refl,λx hx=>by cases hx⟩;simp[Builtin.append_,run_underlying ht,sizeOf,typeInfo,hi,Builtin.lenOf,Builtin.firstCells,loadCells,loadCellsFrom]
   ·have hr:=run_append_nil w t ty e inf z ht hi hz ad m cc news s1 s3 (by omega) (by omega) (by have hb:=hbytes;simp[Nat.zero_add]at hb;omega);have hgr:=grown 0;simp only[Nat.zero_add,List.nil_append,Array.empty_append]at hgr⊢;exact⟨_,_,_,hr,hgr,hfr _,λx hx=>by cases hx;exact .inr (Nat.le_refl _)⟩
  ·by_cases hroom:n+m<=c
   ·have hnm:(n+m)*inf.size<=c*inf.size:=Nat.mul_le_mul_right _ hroom;rw[Nat.add_mul]at hnm;have hf:=run_firstCells_some (P:=P) w inf.size m ad m cc news s1 s3;have hst:=run_storeCells_at P g (o+n*inf.size) e news 0 cur w hg (by omega) s2;refine⟨some ⟨g,o,none⟩,c,w.setRow g (cur.toList.take (o+n*inf.size)++news++cur.toList.drop (o+n*inf.size+news.length)).toArray,?_,?_,?_,λx hx=>by cases hx;exact .inl ⟨_,rfl,rfl⟩⟩
    ·simp[Builtin.append_,run_underlying ht,sizeOf,typeInfo,hi,Builtin.lenOf,hroom,hf,cf,hst]
    ·refine⟨⟨hlen,hroom,r3,hone⟩,.inr ⟨g,o,_,rfl,setRow_heap w g cur _ e _ hg,?_,?_⟩⟩
     ·simp[List.size_toArray,List.length_append,List.length_take,List.length_drop,Array.length_toList];omega
     ·have e1:(cur.toList.take (o+n*inf.size)++news++cur.toList.drop (o+n*inf.size+news.length)).drop o=xs++(news++cur.toList.drop (o+n*inf.size+news.length)):=by rw[List.append_assoc,List.drop_append_of_le_length (by rw[List.length_take,Array.length_toList];omega),List.drop_take,Nat.add_sub_cancel_left,aft]
      rw[e1,<-List.append_assoc,<-hlen];exact List.take_left
    ·exact⟨rfl,rfl,rfl,by show w.heap.size<=(w.setRow g _).heap.size;simp[World.setRow],λk _ hk=>setRow_other w g k _ (λe=>hk ⟨_,rfl,e.symm⟩)⟩
   ·have holds:∀j u,xs[j]? =some u->w.cell? ((⟨g,o,none⟩:Addr).add j)=some u:=λj u hj=>by rw[cf];exact Tm ⟨⟨r1,r2,r3,r4⟩,.inr ⟨g,o,cur,rfl,hg,To,aft⟩⟩ hj
    have hr:=run_append_grow w t ty e inf z ht hi hz ⟨g,o,none⟩ n c xs r1 holds ad m cc news s1 s3 (by omega) (by omega) (growslice_fits (by omega) hbytes);exact⟨_,_,_,hr,grown c,hfr _,λx hx=>by cases hx;exact .inr (Nat.le_refl _)⟩
def iH {P:Program}{T:tR}{t ty:TypeId}{ti ei:TI}{b:Option Addr}{m cc bytes:Nat}{news:List Value}{K:Option Addr->Nat->Nat->World->Prop}(hT:vO P T)(s:Sep F W w L)
  (ht:T t=some ti)(hd:ti.d=.slice e)(he:T e=some ei)(hs:ei.size=size)(hb:ei.bytes=bytes)(hz:ei.zero.length=size)(hsz:0<size)
  (hi:L[i]? =some (aj a n c e size xs))(hsrc:Src w b m size news)(h63:n+m<=maxLen)(hbytes:(n+m)*bytes<=140737488355328)(hcc:b=none->cc=0)
  (h:∀a' c' w',Sep F W w' (L.set i (aj a' (n+m) c' e size (xs++news)))->K a' (n+m) c' w'):
  Sx.App P #[t,t] ty (.slice a n c) (.slice b m cc) w K:=by
 obtain⟨inf,u,z,k1,k2,k3,k4,k5,k6,k7⟩:=tU hT ht;obtain⟨xP,u',z',q1,q2,q3,q4,q5,q6,q7⟩:=tU hT he;have hu:u=.slice e:=by rw[hd]at k3;cases u<;>simp[nD]at k3;rw[k3]
 subst hu;obtain rfl:xP.size=size:=q4.trans hs;obtain rfl:xP.bytes=bytes:=q5.trans hb;obtain⟨a',c',w',r1,r2,r3,r4⟩:=ajl k2 q1 q6 (by grind) hsz (fN s hi) hsrc h63 hbytes hcc;unfold Sx.App aK;rw[r1];refine h a' c' w' (wO s hi r3 r2 λb hb=>?_);obtain⟨x,hx,rfl⟩:=hb;rcases r4 x hx with⟨y,h1,h2⟩|h2
 ·exact .inl ⟨y,h1,h2⟩
 grind
def Nw {A:Option Addr}{n c size:Nat}{h:Int}{m:Nat}{K:Option Addr->Nat->Nat->Prop}(hh:h=m)(hm:m<=c)(k:K A m c):bP A n c size none (some h) K:=by subst hh;refine⟨λh' e=>(by grind),λl e=>(by cases e),?_⟩;simpa[add_zero]using k
def Nx {A:Option Addr}{n c size:Nat}{l:Int}{m:Nat}{K:Option Addr->Nat->Nat->Prop}(hl:l=m)(hm:m<=n)(k:K (if c=m then A else A.map (·.add (m*size))) (n-m) (c-m)):bP A n c size (some l) none K:=by subst hl;refine⟨λh' e=>(by cases e),λl e=>(by grind),?_⟩;simpa using k
end
def flat {α:Type}(f:α->List Value)(es:List α):List Value:=es.flatMap f
section
variable {α:Type}{f:α->List Value}{size:Nat}
def iz (hf:∀x,(f x).length=size)(es:List α):(flat f es).length=es.length*size:=by
 induction es with
 |nil=>simp[flat]
 |cons x es ih=>
  have:(flat f (x::es)).length=(f x).length+(flat f es).length:=by simp[flat]
  grind
def gG (es es':List α):flat f (es++es')=flat f es++flat f es':=by simp[flat]
def rS (hf:∀x,(f x).length=size):∀{es:List α} {k j:Nat} {x:α},es[k]? =some x->j<size->(flat f es)[k*size+j]? =(f x)[j]?
 |[],k,j,x,h,hj=>by simp at h
 |y::es,0,j,x,h,hj=>by simp[List.getElem?_cons_zero,Option.some.injEq]at h;subst h;show(f y++flat f es)[0*size+j]? =_;grind
 |y::es,k+1,j,x,h,hj=>by
  simp[List.getElem?_cons_succ]at h;show(f y++flat f es)[(k+1)*size+j]? =_;have e:(k+1)*size+j=size+(k*size+j):=by grind
  rw[e,List.getElem?_append_right (by grind),hf,Nat.add_sub_cancel_left,rS hf h hj]
def PK (hf:∀x,(f x).length=size):∀{es:List α} {k j:Nat} {x x':α} {v:Value},es[k]? =some x->j<size->f x'=(f x).set j v->(flat f es).set (k*size+j) v=flat f (es.set k x')
 |[],k,j,x,x',v,h,hj,hx=>by simp at h
 |y::es,0,j,x,x',v,h,hj,hx=>by simp[List.getElem?_cons_zero,Option.some.injEq]at h;subst h;show(f y++flat f es).set (0*size+j) v=f x'++flat f es;grind
 |y::es,k+1,j,x,x',v,h,hj,hx=>by
  simp[List.getElem?_cons_succ]at h;show(f y++flat f es).set ((k+1)*size+j) v=f y++flat f (es.set k x');have e:(k+1)*size+j=size+(k*size+j):=by grind
  rw[e,List.set_append_right _ _ (by grind),hf,Nat.add_sub_cancel_left,PK hf h hj hx]
def Tq (hf:∀x,(f x).length=size):∀(es:List α) (m:Nat),(flat f es).take (m*size)=flat f (es.take m)
 |[],m=>by simp[flat]
 |x::es,0=>by simp[flat]
 |x::es,m+1=>by
  show(f x++flat f es).take ((m+1)*size)=f x++flat f (es.take m);have e:(m+1)*size=(f x).length+m*size:=by grind
  rw[e,List.take_length_add_append,Tq hf]
end
section
variable {F:Nat->Prop}{W w w':World}{L:List As}{i j k n c size g o:Nat}{e:TypeId}{α:Type}{f:α->List Value}{es:List α}{x x':α}{ad:Addr}
def dJ (b o i size j:Nat):((⟨b,o,none⟩:Addr).add (i*size)).add j=⟨b,o+(i*size+j),none⟩:=by rw[cf,cf,Nat.add_assoc]
def anI (b o i size:Nat):(⟨b,o,none⟩:Addr).add (i*size)=⟨b,o+(i*size+0),none⟩:=by rw[cf,Nat.add_zero]
def ef {kd:IntKind}{m:Int}{K:Int->Prop}(hf:∀x,(f x).length=size)(s:Sep F W w L)(hi:L[i]? =some (aj (some ⟨g,o,none⟩) n c e size (flat f es)))(hx:es[k]? =some x)(ha:ad=⟨g,o+(k*size+j),none⟩)(hj:(f x)[j]? =some (.int kd m))(h:K m):
 Sx.af kd ad w K:=Tn s hi ha (by rw[rS hf hx (by have:=(List.getElem?_eq_some_iff.1 hj).1;rwa[hf]at this)];exact hj) h
def GZ {b:Option Addr}{m q:Nat}{K:Option Addr->Nat->Nat->Prop}(hf:∀x,(f x).length=size)(s:Sep F W w L)(hi:L[i]? =some (aj (some ⟨g,o,none⟩) n c e size (flat f es)))(hx:es[k]? =some x)(ha:ad=⟨g,o+(k*size+j),none⟩)(hj:(f x)[j]? =some (.slice b m q))(h:K b m q):
 Sx.aB ad w K:=afr s hi ha (by rw[rS hf hx (by have:=(List.getElem?_eq_some_iff.1 hj).1;rwa[hf]at this)];exact hj) h
def ahD {m:Bool}{K:Bool->Prop}(hf:∀x,(f x).length=size)(s:Sep F W w L)(hi:L[i]? =some (aj (some ⟨g,o,none⟩) n c e size (flat f es)))(hx:es[k]? =some x)(ha:ad=⟨g,o+(k*size+j),none⟩)(hj:(f x)[j]? =some (.bool m))(h:K m):
 Sx.cq ad w K:=afs s hi ha (by rw[rS hf hx (by have:=(List.getElem?_eq_some_iff.1 hj).1;rwa[hf]at this)];exact hj) h
def dz {v:Value}{K:World->Prop}(hf:∀x,(f x).length=size)(s:Sep F W w L)(hi:L[i]? =some (aj (some ⟨g,o,none⟩) n c e size (flat f es)))(hx:es[k]? =some x)(ha:ad=⟨g,o+(k*size+j),none⟩)(hj:j<size)(hx':f x'=(f x).set j v)(hv:v.oneCell'=true)
  (h:∀w',Sep F W w' (L.set i (aj (some ⟨g,o,none⟩) n c e size (flat f (es.set k x'))))->K w'):Sx.St ad v w K:=by
 refine ahC s hi ha ?_ hv λw' s=>h w' (by rwa[PK hf hx hj hx']at s);have h1:=qG s hi;rw[<-h1,iz hf];have h2:=(List.getElem?_eq_some_iff.1 hx).1;have h3:(k+1)*size<=es.length*size:=Nat.mul_le_mul_right _ h2;grind
def Y8 {A A':As}{Ps:List As}(s:Sep F W w L)(hi:L[i]? =some A)(s':Sep A.fp w w' Ps)(ho:A'.ok w'.heap)(hf:∀b,A'.fp b->∃B∈Ps,B.fp b):Sep F W w' (L.set i A'):=
 wO s hi (dN.fr s') ho λb hb=>by obtain⟨B,hB,h⟩:=hf b hb;exact(dN.ok s' B hB).2 b h
def anJ {A:As}{B C:As}(h1:B.ok w.heap)(h2:C.ok w.heap)(h3:∀b,B.fp b->A.fp b)(h4:∀b,C.fp b->A.fp b)(h5:∀b,B.fp b->¬C.fp b):Sep A.fp w w [B,C]:=by
 refine⟨Fr.refl,λD hD=>?_,by grind⟩;rcases List.mem_cons.1 hD with rfl|hD
 ·exact⟨h1,λb hb=>.inl (h3 b hb)⟩
 ·rcases List.mem_cons.1 hD with rfl|hD
  ·exact⟨h2,λb hb=>.inl (h4 b hb)⟩
  ·cases hD
def ak7 {A B:As}(s:Sep F W w L)(hi:L[i]? =some A)(hj:L[j]? =some B)(hn:i≠j):∀b,A.fp b->¬B.fp b:=
 Jz (λa b h x hx hy=>h x hy hx) (dN.apart s) hi hj hn
def qQ {β:Type}{l:List β}{i:Nat}{x:β}(h:l[i]? =some x):l.set i x=l:=by obtain⟨hl,rfl⟩:=List.getElem?_eq_some_iff.1 h;simp_all
def gL {β:Type}(l:List β)(i:Nat)(a b:β):(l.set i a).set i b=l.set i b:=by simp
def ah {p:Addr}{K:Addr->Prop}(h:K p):wA (some p) K:=h
end
def WK {α:Type}{G:Nat->α->Prop}:∀(n:Nat),(∀i,i<n->∃x,G i x)->∃xs:List α,xs.length=n/\∀i x,xs[i]? =some x->G i x
 |0,_=>⟨[],rfl,λi x h=>by simp at h⟩
 |n+1,h=>by obtain⟨xs,h1,h2⟩:=WK n λi hi=>h i (by omega);obtain⟨y,hy⟩:=h n (by omega);refine⟨xs++[y],by simp[h1],λi x hx=>?_⟩;grind
def lE {α:Type}(W:World)(a:Option Addr)(n size:Nat)(f:α->List Value)(xs:List α):Prop:=
 xs.length=n/\∀i x,xs[i]? =some x->∃ad,a=some ad/\∀j v,(f x)[j]? =some v->W.cell? (ad.add (i*size+j))=some v
def aqs {α:Type}{W:World}{size:Nat}{e:Sh}{v:Value}{f:α->List Value}{Pr:α->Prop}(he:∀es:List Value,es.length=size->Rd W e es->∃x,es=f x/\Pr x)(h:RdV W (.sl size e) v):
  ∃a n c xs,v=.slice a n c/\n<=c/\c<=maxLen/\(a=none->c=0)/\lE W a n size f xs/\∀x∈xs,Pr x:=by
 rcases arE h with rfl|⟨a,n,c,rfl,h1,h2,_,h4⟩
 ·exact⟨none,0,0,[],rfl,Nat.le_refl _,by decide,λ_=>rfl,⟨rfl,λi x hx=>(by simp at hx)⟩,by simp⟩
 ·obtain⟨xs,k1,k2⟩:=WK (G:=λi x=>(∀j v,(f x)[j]? =some v->W.cell? (a.add (i*size+j))=some v)/\Pr x) n λi hi=>by obtain⟨es,q1,q2,q3⟩:=h4 i (by omega);grind
  refine⟨some a,n,c,xs,rfl,h1,h2,λe=>(by cases e),⟨k1,λi x hx=>⟨a,rfl,(k2 i x hx).1⟩⟩,λx hx=>?_⟩;obtain⟨i,hi,rfl⟩:=List.getElem_of_mem hx;exact(k2 i _ (List.getElem?_eq_getElem hi)).2
def anK {W:World}{k:IntKind}{v:Value}(h:RdV W (.sl 1 (.int k)) v):
  ∃a n c xs,v=.slice a n c/\n<=c/\c<=maxLen/\(a=none->c=0)/\lE W a n 1 (λx:Int=>[.int k x]) xs/\∀x∈xs,(Lit.int k x).wf=true:=
 aqs (λes h1 h2=>by
  match es,h1 with
  |[v],_=>
   obtain⟨n,rfl,hn⟩:=ak5 h2;grind) h
section
variable {α:Type}{W w:World}{L:List As}{a:Option Addr}{n size:Nat}{f:α->List Value}{xs:List α}
def lE.take (h:lE W a n size f xs){m:Nat}(hm:m<=n):lE W a m size f (xs.take m):=
 ⟨by rw[List.length_take,h.1];omega,λi x hx=>h.2 i x (by
  rw[List.getElem?_take]at hx;split at hx
  ·exact hx
  ·cases hx)⟩
def lE.src {e:TypeId}(h:lE W a n size f xs)(s:Sep No W w L)(hf:∀x,(f x).length=size)(h1:∀x u,u∈f x->u.oneCell'=true):Src w a n size (flat f xs):=by
 refine⟨by rw[iz hf,h.1],λu hu=>?_,?_⟩
 ·obtain⟨x,_,hx⟩:=List.mem_flatMap.1 hu;grind
 ·cases a with
  |none=>
   rw[<-h.1];cases xs with
   |nil=>rfl
   |cons x xs=>obtain⟨ad,e,_⟩:=h.2 0 x rfl;cases e
  |some ad=>
   intro j u hj;have hjl:=(List.getElem?_eq_some_iff.1 hj).1;rw[iz hf]at hjl;have hs:0<size:=by grind
   have hd:j/size<xs.length:=Nat.div_lt_of_lt_mul (by grind);have hx:=List.getElem?_eq_getElem hd;obtain⟨ad',e,hc⟩:=h.2 _ _ hx;cases e;have hje:j/size*size+j%size=j:=by rw[Nat.mul_comm];exact Nat.div_add_mod j size
   rw[<-hje,rS hf hx (Nat.mod_lt _ hs)]at hj;have:=hc _ _ hj;rw[hje]at this;exact Fr.cell (dN.fr s) this id
end
def ak8 {α:Type}{f:α->List Value}{x0:α}{z:Array Value}{l c:Nat}(hf:∀x,(f x).length=z.size)(hx:f x0=z.toList)(hz:0<z.size)(hlc:l<=c):(madeCells z (c*z.size)).toList.take (l*z.size)=flat f (List.replicate l x0):=by
 apply List.ext_getElem?;intro i;have hm:l*z.size<=c*z.size:=Nat.mul_le_mul_right _ hlc;rw[List.getElem?_take];split
 ·have hd:i/z.size<l:=Nat.div_lt_of_lt_mul (by grind);have hje:i/z.size*z.size+i%z.size=i:=by rw[Nat.mul_comm];exact Nat.div_add_mod i z.size
  have hr:(List.replicate l x0)[i/z.size]? =some x0:=by grind
  have:=rS hf hr (Nat.mod_lt i hz);rw[hje]at this;have ayJ:=Nat.mod_lt i hz;simp[madeCells,Array.toList_map,Array.toList_range,List.getElem?_map];grind
 ·rw[List.getElem?_eq_none];rw[iz hf,List.length_replicate];omega
def uk {α:Type}{f:α->List Value}{x0:α}{P:Program}{T:tR}{F:Nat->Prop}{W w:World}{L:List As}{t e:TypeId}{ti ei:TI}{size bytes ln cn:Nat}{l c:Int}{K:Option Addr->Nat->Nat->World->Prop}(hT:vO P T)(s:Sep F W w L)
  (ht:T t=some ti)(hd:ti.d=.slice e)(he:T e=some ei)(hs:ei.size=size)(hb:ei.bytes=bytes)(hz:ei.zero.length=size)(hsz:0<size)(hf:∀x,(f x).length=size)(hx:f x0=ei.zero)(h1:∀u∈f x0,u.oneCell'=true)
  (hl:l=ln)(hc:c=cn)(hlc:ln<=cn)(hbytes:bytes*cn<=281474976710656)(h63:cn<=maxLen)(h:∀b w',Sep F W w' (aj (some ⟨b,0,none⟩) ln cn e size (flat f (List.replicate ln x0))::L)->K (some ⟨b,0,none⟩) ln cn w'):
  Sx.cg P t (.int .i64 l) (.int .i64 c) w K:=by
 subst hl;subst hc;obtain⟨inf,u,z,k1,k2,k3,k4,k5,k6,k7⟩:=tU hT ht;obtain⟨xP,u',z',q1,q2,q3,q4,q5,q6,q7⟩:=tU hT he;have hu:u=.slice e:=by rw[hd]at k3;cases u<;>simp[nD]at k3;rw[k3]
 subst hu;have hzs:z'.cells.size=size:=by grind
 subst hzs;obtain rfl:xP.bytes=bytes:=q5.trans hb;have ayK:cn<=9223372036854775807:=by simp[maxLen]at h63;omega
 have hb':(xP.bytes:Int)*(cn:Int)<=281474976710656:=by omega
 have hr:=run_make w t e xP z' k2 q1 q6 .i64 .i64 (ln:Int) (cn:Int) (by omega) (by omega) hb' (by omega);rw[q4.trans hs]at hr;unfold Sx.cg aK;rw[hr];refine h w.heap.size _ (Gl s (Fr.alloc Fr.refl _) ?_ λb hb=>?_)
 ·refine⟨⟨by rw[iz hf,List.length_replicate],hlc,h63,λu hu=>?_⟩,.inr ⟨w.heap.size,0,_,rfl,heap_alloc_new w _,?_,?_⟩⟩
  ·obtain⟨x,Ry,JB⟩:=List.mem_flatMap.1 hu;grind
  ·rw[size_madeCells];grind
  ·exact ak8 hf (hx.trans q7.symm) hsz hlc
 ·obtain⟨x,Ry,rfl⟩:=hb;grind
def gH {F:Nat->Prop}{W w:World}{L L':List As}(s:Sep F W w L)(h:L'.Sublist L):Sep F W w L':=
 ⟨dN.fr s,λA hA=>dN.ok s A (h.subset hA),(dN.apart s).sublist h⟩
def ac0 {F:Nat->Prop}{W w:World}{L:List As}{i n c size:Nat}{a:Option Addr}{e:TypeId}{xs:List Value}(s:Sep F W w L)(hi:L[i]? =some (aj a n c e size xs))(ha:a=none):c=0:=by
 subst ha;rcases(fN s hi).2 with⟨_,h⟩|⟨_,_,_,h,_⟩
 all_goals grind
def aU (φ:Prop)(Ps:List As):As where
 fp:=λk=>∃A∈Ps,A.fp k
 ok:=λh=>(φ/\Ps.Pairwise λ(A B:As)=>∀b:Nat,A.fp b->¬B.fp b)/\∀A∈Ps,A.ok h
 lt:=λh hb k hk=>by obtain⟨A,hA,hk⟩:=hk;exact A.lt h (hb.2 A hA) k hk
 fr:=λh h' hb he=>⟨hb.1,λA hA=>A.fr h h' (hb.2 A hA) λb hb=>he b ⟨A,hA,hb⟩⟩
section
variable {F:Nat->Prop}{W w w':World}{L Ps Ps':List As}{i:Nat}{φ ψ:Prop}
def ac1 (s:Sep F W w L)(hi:L[i]? =some (aU φ Ps)):φ:=(fN s hi).1.1
def Hr (s:Sep F W w L)(hi:L[i]? =some (aU φ Ps)):Sep (aU φ Ps).fp w w Ps:=by have h:=fN s hi;exact⟨Fr.refl,λA hA=>⟨h.2 A hA,λb hb=>.inl ⟨A,hA,hb⟩⟩,h.1.2⟩
def PL (s:Sep F W w L)(hi:L[i]? =some (aU φ Ps))(s':Sep (aU φ Ps).fp w w' Ps')(hψ:ψ):Sep F W w' (L.set i (aU ψ Ps')):=
 Y8 s hi s' ⟨⟨hψ,dN.apart s'⟩,λA hA=>(dN.ok s' A hA).1⟩ λb hb=>hb
def ak9 (n:Nat)(s:Sep F W w L)(hφ:φ):Sep F W w (aU φ (L.take n)::L.drop n):=by
 have hap:=dN.apart s;rw[<-List.take_append_drop n L,List.pairwise_append]at hap;refine⟨dN.fr s,λA hA=>?_,?_⟩
 ·rcases List.mem_cons.1 hA with rfl|hA
  ·refine⟨⟨⟨hφ,hap.1⟩,λA hA=>(dN.ok s A (List.mem_of_mem_take hA)).1⟩,λb hb=>?_⟩;obtain⟨A,hA,hb⟩:=hb;exact(dN.ok s A (List.mem_of_mem_take hA)).2 b hb
  ·exact dN.ok s A (List.mem_of_mem_drop hA)
 ·rw[List.pairwise_cons];refine⟨λB hB b hb hb'=>?_,hap.2.1⟩;obtain⟨A,hA,hb⟩:=hb;grind
end
def cE {F:Nat->Prop}{W w:World}{L L':List As}(s:Sep F W w L)(h:L.Perm L'):Sep F W w L':=
 ⟨dN.fr s,λA hA=>dN.ok s A (h.mem_iff.2 hA),(h.pairwise_iff λh b hb hb'=>h b hb' hb).1 (dN.apart s)⟩
def Rz {F:Nat->Prop}{W w:World}{L:List As}(s:Sep F W w L)(e:TypeId)(size:Nat):∀n:Nat,Sep F W w (List.replicate n (aj none 0 0 e size [])++L)
 |0=>s
 |n+1=>bE (Rz s e size n) e size
def dW {F:Nat->Prop}{W w:World}{Ps R:List As}{φ:Prop}(s:Sep F W w (Ps++R))(hφ:φ):Sep F W w (aU φ Ps::R):=by have:=ak9 Ps.length s hφ;grind
def lE.fr {α:Type}{W W':World}{a:Option Addr}{n size:Nat}{f:α->List Value}{xs:List α}(h:lE W a n size f xs)(k:Fr No W W'):lE W' a n size f xs:=
 ⟨h.1,λi x hx=>by obtain⟨ad,e,hc⟩:=h.2 i x hx;exact⟨ad,e,λj v hv=>Fr.cell k (hc j v hv) id⟩⟩
def ahE {α:Type}{F:Nat->Prop}{W w:World}{L:List As}{i n c size:Nat}{a:Option Addr}{e:TypeId}{f:α->List Value}{xs:List α}(s:Sep F W w L)(hi:L[i]? =some (aj a n c e size (flat f xs)))(hf:∀x,(f x).length=size)(hsz:0<size):lE w a n size f xs:=by have hl:=qG s hi;rw[iz hf]at hl;have hn:=Nat.eq_of_mul_eq_mul_right hsz hl;refine⟨hn,λj x hx=>?_⟩;have hj:=(List.getElem?_eq_some_iff.1 hx).1;obtain⟨g,o,rfl⟩:=pB s hi (by omega);refine⟨_,rfl,λk v hv=>?_⟩;have hk:=(List.getElem?_eq_some_iff.1 hv).1;rw[hf]at hk;exact vG s hi (by rw[cf]) (by rw[rS hf hx hk];exact hv)
def au {w w':World}{L:List As}(s:Sep No w w' L):Fr No w w':=dN.fr s
end Go.Sx
namespace Go.Sx
open Go.RowKit
def bA (x:Int):List Value:=[.int .u8 x]
def cY (x:Int):(bA x).length=1:=rfl
def z_ (x:Int)(u:Value)(h:u∈bA x):u.oneCell'=true:=by rw[bA,List.mem_singleton]at h;rw[h];rfl
def one (x:Int):List Value:=[.int .i64 x]
def cj (x:Int):(one x).length=1:=rfl
def D6 (x:Int)(u:Value)(h:u∈one x):u.oneCell'=true:=by rw[one,List.mem_singleton]at h;rw[h];rfl
def Xo (xs:List Int):flat bA xs=xs.map (.int .u8):=by
 induction xs with
 |nil=>rfl
 |cons x xs ih=>rw[List.map_cons,<-ih];rfl
def gi (l:List Int)(i:Nat):Int:=l.getD i 0
def gM {l:List Int}{i:Nat}(h:i<l.length):l[i]? =some (gi l i):=by rw[gi,List.getD_eq_getElem?_getD,List.getElem?_eq_getElem h];rfl
def fy {l:List Int}{i:Nat}(h:i<l.length):gi l i∈l:=List.mem_of_getElem? (gM h)
def Tr {xs ys:List Int}(hl:xs.length=ys.length)(h:∀i,i<xs.length->gi xs i=gi ys i):xs=ys:=by
 apply List.ext_getElem?;intro j;by_cases hj:j<xs.length
 ·rw[gM hj,gM (by omega),h j hj]
 grind
def Ts {l:List Int}{i j:Nat}{v:Int}(h:i<l.length):gi (l.set i v) j=if j=i then v else gi l j:=by simp[gi,List.getD_eq_getElem?_getD];grind
section
variable {F:Nat->Prop}{W w w':World}{L Ls:List As}{A:As}{i:Nat}
def ax (s:Sep F W w L):Sep F W w.drew L:=s
def dX (s:Sep F W w L)(s':Sep No w w' Ls)(hi:Ls[i]? =some A):Sep F W w' (A::L):=
 Gl s (au s') (fN s' hi) λb hb=>by
  rcases(dN.ok s' _ (PG hi)).2 b hb with h1|h1
  ·exact h1.elim
  ·exact h1
def fP (s:Sep F W w L)(s':Sep No w w' Ls):Sep F W w' (Ls++L):=by
 have f:=au s';refine⟨Fr.trans (dN.fr s) f λ_ _ h=>h.elim,λB hB=>?_,?_⟩
 ·rcases List.mem_append.1 hB with hB|hB
  ·have hW:=EL.size (dN.fr s);refine⟨(dN.ok s' B hB).1,λb hb=>.inr ?_⟩;rcases(dN.ok s' B hB).2 b hb with h|h
   ·exact h.elim
   ·exact Nat.le_trans hW h
  ·have Ti:=dN.ok s B hB;exact⟨B.fr _ _ Ti.1 λb hb=>f.block b (B.lt _ Ti.1 b hb) id,Ti.2⟩
 ·rw[List.pairwise_append];refine⟨dN.apart s',dN.apart s,λB hB C hC b hb hc=>?_⟩;have h1:=C.lt _ (dN.ok s C hC).1 b hc;rcases(dN.ok s' B hB).2 b hb with h|h
  ·exact h.elim
  omega
def cF {L':List As}(is:List Nat)(s:Sep F W w L)(h:is.map (λi=>L[i]?)=L'.map some)(hn:is.Nodup):Sep F W w L':=by
 have Hl:∀(j:Nat) (B:As),L'[j]? =some B->∃i,is[j]? =some i/\L[i]? =some B:=λj B hB=>by have e:=congrArg (λl=>l[j]?) h;grind
 refine⟨dN.fr s,λB hB=>?_,?_⟩
 ·obtain⟨j,hj⟩:=List.getElem?_of_mem hB;obtain⟨i,_,hi⟩:=Hl j B hj;exact dN.ok s B (List.mem_of_getElem? hi)
 ·rw[List.pairwise_iff_getElem];intro j k hj hk hlt;obtain⟨i,h1,h2⟩:=Hl j _ (List.getElem?_eq_getElem hj);obtain⟨i',h3,h4⟩:=Hl k _ (List.getElem?_eq_getElem hk);refine Jz (λa b h x hx hy=>h x hy hx) (dN.apart s) h2 h4 λe=>?_;subst e;obtain⟨hj',e1⟩:=List.getElem?_eq_some_iff.1 h1;obtain⟨hk',e2⟩:=List.getElem?_eq_some_iff.1 h3;exact List.pairwise_iff_getElem.1 hn j k hj' hk' hlt (e1.trans e2.symm)
def ak_ (s:Sep No W w L):Go.RowKit.Below W.heap.size W w:=ak4 (dN.fr s) λ_ _ h=>h
end
def aim {b:ByteArray}{K:ByteArray->Prop}(h:K b):Xc (.string b) K:=h
def Tt (xs:List Int):(strOfNums xs).toList=xs.map λn=>UInt8.ofNat n.toNat:=by rw[ByteArray.toList_eq];rfl
def ala {xs ys:List Int}(hx:∀x∈xs,0<=x/\x<256)(hy:∀x∈ys,0<=x/\x<256)(h:(xs.map λn=>UInt8.ofNat n.toNat)=ys.map λn=>UInt8.ofNat n.toNat):xs=ys:=by
 induction xs generalizing ys with
 |nil=>simp_all
 |cons x xs ih=>cases ys with
  |nil=>simp at h
  |cons y ys=>
   simp[List.map_cons,List.cons.injEq]at h;have h1:=hx x (by simp);have h2:=hy y (by simp);have e:=congrArg UInt8.toNat h.1;simp[UInt8.toNat_ofNat']at e;rw[ih (λz hz=>hx z (by simp[hz])) (λz hz=>hy z (by simp[hz])) h.2,show x=y by omega]
def alb {xs ys:List Int}(hx:∀x∈xs,0<=x/\x<256)(hy:∀x∈ys,0<=x/\x<256):((strOfNums xs).toList==(strOfNums ys).toList)=decide (xs=ys):=by rw[Bool.eq_iff_iff,beq_iff_eq,Tt,Tt,decide_eq_true_eq];exact⟨ala hx hy,λe=>by rw[e]⟩
def WL {P:Program}{T:tR}{t d e:TypeId}{ti ei di:TI}{ns:List Int}{w:World}{a:Option Addr}{n c:Nat}{K:Value->World->Prop}(hT:vO P T)(hA:lE w a n 1 bA ns)
  (ht:T t=some ti)(hd:ti.d=.slice e)(he:T e=some ei)(hk:ei.d=.int .u8)(hd':T d=some di)(hds:di.d=.str)
  (h:K (.string (strOfNums ns)) w):aK P (convert t d (.slice a n c)) w K:=by
 obtain⟨inf,u,z,k1,k2,k3,k4,k5,k6,k7⟩:=tU hT ht;obtain⟨xP,u',z',q1,q2,q3,q4,q5,q6,q7⟩:=tU hT he;obtain⟨ayL,u2,z2,p1,p2,p3,p4,p5,p6,p7⟩:=tU hT hd';rw[hd]at k3;rw[hk]at q3;rw[hds]at p3;obtain rfl:u=.slice e:=by cases u<;>simp[nD]at k3;rw[k3]
 obtain rfl:u'=.int .u8:=by cases u'<;>simp[nD]at q3;rw[q3]
 obtain rfl:u2=.string:=by cases u2<;>simp[nD]at p3;rfl
 cases a with
 |none=>
  have hn:ns=[]:=by
   cases ns with
   |nil=>rfl
   |cons x xs=>
    obtain⟨ad,e1,_⟩:=hA.2 0 x rfl;cases e1
  subst hn;rw[aK,run_convert_bytes_nil w t e k2 q2 n c d p2];exact h
 |some ad=>
  have hlen:=hA.1;have hl:(loadCells ad n).run P w=.ok (ns.map (Value.int .u8)).toArray w:=by
   have:=run_loadCells_list (P:=P) w ad (ns.map (Value.int .u8)) (λj v hj=>by rw[List.getElem?_map]at hj;obtain⟨x,hx,rfl⟩:=Option.map_eq_some_iff.1 hj;obtain⟨ad',e1,hc⟩:=hA.2 j x hx;cases e1;have:=hc 0 _ rfl;grind)
   grind
  unfold aK;have e:(convert t d (.slice (some ad) n c)).run P w=.ok (.string (strOfNums ns)) w:=by rw[run_convert_bytes_string w t d e _ n c k2 q2 p2,run_bytesToString w _ n c ns hl,foldl_push_bytes];simp[strOfNums,ByteArray.empty,ByteArray.emptyWithCapacity];rfl
  grind
section
variable {F:Nat->Prop}{W w:World}{L:List As}{i n c size:Nat}{a:Option Addr}{e:TypeId}{xs:List Value}
def BR {idx:Int}{k:Nat}{K:Addr->Prop}(s:Sep F W w L)(hi:L[i]? =some (aj a n c e size xs))(hk:idx=k)(hn:k<n)(h:∀g o,a=some ⟨g,o,none⟩->K ⟨g,o,none⟩):aH idx n (wA a K):=by obtain⟨g,o,rfl⟩:=pB s hi (by omega);exact⟨by omega,by omega,h g o rfl⟩
end
end Go.Sx
namespace Go.Sx
def wrap_u8' (n:Int):IntKind.wrap .u8 n=n%256:=by simp[IntKind.wrap,IntKind.signed,IntKind.bits]
def aQ {w:World}{k:IntKind}{m:Int}{ad:Addr}{K:Int->Prop}(h:w.cell? ad=some (.int k m))(hk:K m):af k ad w K:=⟨m,h,hk⟩
def dy {w:World}{x:Option Addr}{m q:Nat}{ad:Addr}{K:Option Addr->Nat->Nat->Prop}(h:w.cell? ad=some (.slice x m q))(hk:K x m q):aB ad w K:=⟨x,m,q,h,hk⟩
def aqt {A:Option Addr}{n c size:Nat}{l h:Int}{p q:Nat}{K:Option Addr->Nat->Nat->Prop}(hl:l=p)(hh:h=q)(hpq:p<=q)(hq:q<=c)(k:K (if c=p then A else A.map (·.add (p*size))) (q-p) (c-p)):bP A n c size (some l) (some h) K:=by subst hl hh;refine⟨λh' e=>(by grind),λl e=>(by grind),?_⟩;simpa using k
structure Sl {α:Type} (w:World) (a:Option Addr) (n c size:Nat) (f:α->List Value) (xs:List α):Prop where
 row:lE w a n size f xs
 le:n<=c
 nil:a=none->c=0
section
variable {α:Type}{w w':World}{a:Option Addr}{n c size:Nat}{f:α->List Value}{xs:List α}
def Sl.fr (h:Sl w a n c size f xs)(k:Fr No w w'):Sl w' a n c size f xs:=⟨h.row.fr k,h.le,h.nil⟩
def Sl.drew (h:Sl w a n c size f xs):Sl w.drew a n c size f xs:=⟨h.row,h.le,h.nil⟩
def Sl.len (h:Sl w a n c size f xs):xs.length=n:=h.row.1
def tS:Sl w none 0 0 size f []:=⟨⟨rfl,λi x hx=>by simp at hx⟩,Nat.le_refl _,λ_=>rfl⟩
def lE.drop (h:lE w a n size f xs){m:Nat}(hm:m<=n)(hc:n<=c):lE w (if c=m then a else a.map (·.add (m*size))) (n-m) size f (xs.drop m):=by refine⟨by rw[List.length_drop,h.1],λi x hx=>?_⟩;have hi:=(List.getElem?_eq_some_iff.1 hx).1;rw[List.length_drop,h.1]at hi;rw[if_neg (by omega)];rw[List.getElem?_drop]at hx;obtain⟨ad,rfl,hv⟩:=h.2 (m+i) x hx;refine⟨ad.add (m*size),rfl,λj v hj=>?_⟩;rw[add_add,show m*size+(i*size+j)=(m+i)*size+j by grind];grind
def Sl.cut (h:Sl w a n c size f xs){m:Nat}(hm:m<=n):Sl w (if c=m then a else a.map (·.add (m*size))) (n-m) (c-m) size f (xs.drop m):=by
 refine⟨h.row.drop hm h.le,by have:=h.le;omega,λe=>?_⟩;split at e
 ·omega
 ·rw[Option.map_eq_none_iff]at e;have:=h.nil e;omega
def Sl.top (h:Sl w a n c size f xs){m:Nat}(hm:m<=n):Sl w a m c size f (xs.take m):=⟨h.row.take hm,by have:=h.le;omega,h.nil⟩
def Sl.lo {l:Int}{m:Nat}{K:Option Addr->Nat->Nat->Prop}(h:Sl w a n c size f xs)(hl:l=m)(hm:m<=n)(k:∀a' n' c',n'=n-m->Sl w a' n' c' size f (xs.drop m)->K a' n' c'):bP a n c size (some l) none K:=
 Nx hl hm (k _ _ _ rfl (h.cut hm))
def Sl.hi {l:Int}{m:Nat}{K:Option Addr->Nat->Nat->Prop}(h:Sl w a n c size f xs)(hl:l=m)(hm:m<=n)(k:∀a' c',Sl w a' m c' size f (xs.take m)->K a' m c'):bP a n c size none (some l) K:=
 Nw hl (Nat.le_trans hm h.le) (k _ _ (h.top hm))
def Sl.mid {l t:Int}{p q:Nat}{K:Option Addr->Nat->Nat->Prop}(h:Sl w a n c size f xs)(hl:l=p)(ht:t=q)(hpq:p<=q)(hq:q<=n)(k:∀a' n' c',n'=q-p->Sl w a' n' c' size f ((xs.drop p).take (q-p))->K a' n' c'):bP a n c size (some l) (some t) K:=by refine aqt hl ht hpq (Nat.le_trans hq h.le) (k _ _ _ rfl ?_);have:=h.cut (show p<=n by omega);exact this.top (show q-p<=n-p by omega)
def Sl.El {idx:Int}{k:Nat}{K:Addr->Prop}(h:Sl w a n c size f xs)(hk:idx=k)(hn:k<n)(hK:∀p x,xs[k]? =some x->(∀j v,(f x)[j]? =some v->w.cell? ((p.add (idx.toNat*size)).add j)=some v)->K p):aH idx n (wA a K):=by subst hk;obtain⟨x,hx⟩:∃x,xs[k]? =some x:=⟨xs[k]'(by rw[h.len];exact hn),List.getElem?_eq_getElem _⟩;obtain⟨ad,rfl,hv⟩:=h.row.2 k x hx;refine⟨by omega,by omega,hK ad x hx λj v hj=>?_⟩;rw[add_add,Int.toNat_natCast];grind
def EO {idx:Int}{k:Nat}{kd:IntKind}{ys:List Int}{K:Int->Prop}(h:Sl w a n c 1 (λx=>[.int kd x]) ys)(hk:idx=k)(hn:k<n)(hK:K (gi ys k)):aH idx n (wA a λp=>af kd (p.add (idx.toNat*1)) w K):=
 Sl.El h hk hn λp x hx hc=>by rw[gM (by grind)]at hx;cases hx;have:=hc 0 _ rfl;exact aQ this hK
def Sl.Co {idx:Int}{k:Nat}{ys:List Int}{K:Int->Prop}(h:Sl w a n c 1 bA ys)(hk:idx=k)(hn:k<n)(hK:K (gi ys k)):aH idx n (wA a λp=>af .u8 (p.add (idx.toNat*1)) w K):=EO h hk hn hK
def Sl.pC {idx:Int}{k:Nat}{ys:List Int}{K:Int->Prop}(h:Sl w a n c 1 one ys)(hk:idx=k)(hn:k<n)(hK:K (gi ys k)):aH idx n (wA a λp=>af .i64 (p.add (idx.toNat*1)) w K):=EO h hk hn hK
def aL {F:Nat->Prop}{W:World}{L:List As}{i:Nat}{e:TypeId}(s:Sep F W w L)(hi:L[i]? =some (aj a n c e size (flat f xs)))(hf:∀x,(f x).length=size)(hsz:0<size):Sl w a n c size f xs:=
 ⟨ahE s hi hf hsz,(PJ s hi).1,ac0 s hi⟩
def Sl.src (h:Sl w a n c size f xs){e:TypeId}(hf:∀x,(f x).length=size)(h1:∀x u,u∈f x->u.oneCell'=true):Src w a n size (flat f xs):=lE.src (e:=e) h.row bt hf h1
def iT {F:Nat->Prop}{W:World}{L Ps:List As}{φ:Prop}(s:Sep F W w (aU φ Ps::L)):φ/\Sep F W w (Ps++L):=by
 refine⟨ac1 s (i:=0) rfl,?_⟩;have:=ahB s Ps [] L rfl λho=>?_
 ·grind
 ·have k:=Hr s (i:=0) rfl;refine⟨λB hB=>(dN.ok k B hB).1,λB hB b hb=>?_,dN.apart k⟩;rcases(dN.ok k B hB).2 b hb with h|h
  ·exact h
  ·have h2:=B.lt _ (dN.ok k B hB).1 b hb;omega
end
end Go.Sx
namespace Go.Sx
open Go.RowKit Go.ChangeMaps Go.MapKept
open Go.Maps (Keyed)
def ain {P:Program}{t:TypeId}{xs ys:Array Value}{x y:Operand}{w:World}{K:Bool->World->Prop}(hg:P.eqGuardType P.depth t=false)(h:bR P .eql t x y (.agg xs) (.agg ys) w λr w'=>K (!r) w'):bR P .neq t x y (.agg xs) (.agg ys) w K:=by
 unfold bR aK at h⊢;simp[Sem.run_bind,run_eqGuard_agg w .eql t x y xs ys hg,run_eqGuard_agg w .neq t x y xs ys hg,Result.andThen_ok,run_eql_struct,run_neq_struct]at h⊢;cases hr:(Op.equalIn 10000 t (.agg xs) (.agg ys)).run P w with
 |ok b w'=>rw[hr]at h;exact h
 |halt e w'=>simp_all
def mapA (P:Program)(k:TypeId)(b:Nat)(m:List (Value×Value)):As where
 fp:=λx=>x=b
 ok:=λh=>∃es clock,h[b]? =some (.map es clock)/\es.toList.map (λe=>(e.key,e.val))=m/\∀p∈m,∃l,keyOf P k p.1=some l
 lt:=λh hb x hx=>by grind
 fr:=λh h' hb he=>by grind
section
variable {P:Program}{k e t:TypeId}{b:Nat}{m:List (Value×Value)}{F:Nat->Prop}{W w:World}{L:List As}{i:Nat}{key val:Value}
def Dj (s:Sep F W w L){A:As}(hi:L[i]? =some A)(hA:A.fp b){o:Obj}{A':As}(ho:A'.ok (ChangeMaps.setBlock w b o).heap)(hf:∀x,A'.fp x->A.fp x):Sep F W (ChangeMaps.setBlock w b o) (L.set i A'):=by refine wO s hi ⟨rfl,rfl,rfl,by simp[mm,ChangeMaps.setBlock],λx hx hne=>?_⟩ ho λx hx=>.inl (hf x hx);show(w.heap.setIfInBounds b o)[x]? =w.heap[x]?;grind
def LN {w:World}{b:Nat}{o o':Obj}(h:w.heap[b]? =some o):(ChangeMaps.setBlock w b o').heap[b]? =some o':=by have:=(Array.getElem?_eq_some_iff.1 h).1;simp[ChangeMaps.setBlock,this]
def afu {K:Option Nat->World->Prop}(s:Sep F W w L)(P:Program)(k t:TypeId)(h:∀b w',Sep F W w' (mapA P k b []::L)->K (some b) w'):b_ P t none w K:=by
 unfold Sx.b_ aK;have e:(Instr.makeMap t none).run P w=.ok (.map (some w.heap.size)) (w.alloc (.map #[] 0)):=by simp[Instr.makeMap,newObj,Sem.run,Result.andThen]
 refine h _ _ (Gl s (Fr.alloc Fr.refl _) ?_ λx hx=>?_)
 ·exact⟨#[],0,heap_alloc_new w _,rfl,by simp⟩
 ·have hx:x=w.heap.size:=hx;omega
def ac2 {c:Bool}{z:Value}{K:Value->World->Prop}(KP:Keyed P k)(ht:P.underlying t=some (.map k e))(hz:(zeroValue e).run P w=.ok z w)(s:Sep F W w L)(hi:L[i]? =some (mapA P k b m))(hkey:∃l,keyOf P k key=some l)
  (h0:(∀p∈m,p.1≠key)->K (if c then .tuple #[z,.bool false]else z) w)(h1:∀(j:Nat) v,m[j]? =some (key,v)->K (if c then .tuple #[v,.bool true]else v) w):aK P (Instr.lookup t (.map (some b)) key c) w K:=by
 obtain⟨es,clock,hb,hm,hk⟩:=fN s hi;obtain⟨l,hkey⟩:=hkey;have hks:∀x∈es.toList,∃l,keyOf P k x.key=some l:=λx hx=>hk (x.key,x.val) (by grind);unfold aK;rcases KP.find w hkey es.toList hks with⟨q1,q2⟩|⟨j,e0,q1,q2,q3⟩
 ·have:(Instr.lookup t (.map (some b)) key c).run P w=.ok (if c then .tuple #[z,.bool false]else z) w:=by simp[Instr.lookup,run_underlying ht,MapKept.run_getObj_map hb,KP.check w _ hkey,q1,hz,Result.andThen]
  grind
 ·have:(Instr.lookup t (.map (some b)) key c).run P w=.ok (if c then .tuple #[e0.val,.bool true]else e0.val) w:=by simp[Instr.lookup,run_underlying ht,MapKept.run_getObj_map hb,KP.check w _ hkey,q1,Result.andThen]
  rw[this];exact h1 j e0.val (by grind)
def WM {K:World->Prop}(KP:Keyed P k)(ht:P.underlying t=some (.map k e))(s:Sep F W w L)(hi:L[i]? =some (mapA P k b m))(hkey:∃l,keyOf P k key=some l)
  (h0:(∀p∈m,p.1≠key)->∀w',Sep F W w' (L.set i (mapA P k b (m++[(key,val)])))->K w')(h1:∀(j:Nat) v0,m[j]? =some (key,v0)->∀w',Sep F W w' (L.set i (mapA P k b (m.set j (key,val))))->K w'):
  bw P (Instr.mapUpdate t (.map (some b)) key val) w K:=by
 obtain⟨es,clock,hb,hm,hk⟩:=fN s hi;have hb:=hb;obtain⟨l,hkey⟩:=hkey;have hks:∀x∈es.toList,∃l,keyOf P k x.key=some l:=λx hx=>hk (x.key,x.val) (by grind);unfold bw;rcases KP.find w hkey es.toList hks with⟨q1,q2⟩|⟨j,e0,q1,q2,q3⟩
 ·have:(Instr.mapUpdate t (.map (some b)) key val).run P w=.ok () (ChangeMaps.setBlock w b (.map (es.push ⟨key,val,clock⟩) (clock+1))):=by simp[Instr.mapUpdate,run_underlying ht,MapKept.run_getObj_map hb,KP.check w false hkey,q1,MapKept.run_setObj_map _ hb,Result.andThen,ChangeMaps.setBlock]
  rw[this];refine h0 (λp hp=>?_) _ (Dj s hi rfl ⟨_,_,LN hb,?_,λp hp=>?_⟩ λx hx=>hx)
  all_goals grind
 ·have hj:es[j]? =some e0:=by grind
  have:(Instr.mapUpdate t (.map (some b)) key val).run P w=.ok () (ChangeMaps.setBlock w b (.map (es.modify j (λe'=>{e' with key:=key,val:=val})) clock)):=by simp[Instr.mapUpdate,run_underlying ht,MapKept.run_getObj_map hb,KP.check w false hkey,q1,hj,q3,KP.stays w hkey,MapKept.run_setObj_map _ hb,Result.andThen,ChangeMaps.setBlock]
  rw[this];have ayv:(es.modify j (λe'=>{e' with key:=key,val:=val})).toList=es.toList.set j {e0 with key:=key,val:=val}:=by rw[Array.toList_modify,modify_eq_set _ _ _ _ q2]
  refine h1 j e0.val (by grind) _ (Dj s hi rfl ⟨_,_,LN hb,?_,λp hp=>?_⟩ λx hx=>hx)
  ·simp_all
  grind
def WN {ty:TypeId}{K:Value->World->Prop}(KP:Keyed P k)(ht:P.underlying t=some (.map k e))(s:Sep F W w L)(hi:L[i]? =some (mapA P k b m))(hkey:∃l,keyOf P k key=some l)
  (h0:(∀p∈m,p.1≠key)->∀w',Sep F W w' L->K (.tuple #[]) w')(h1:∀(j:Nat) v0,m[j]? =some (key,v0)->∀w',Sep F W w' (L.set i (mapA P k b (m.eraseIdx j)))->K (.tuple #[]) w'):
  aK P (Builtin.delete_ #[t,k] ty [.map (some b),key].toArray) w K:=by
 obtain⟨es,clock,hb,hm,hk⟩:=fN s hi;have hb:=hb;obtain⟨l,hkey⟩:=hkey;have hks:∀x∈es.toList,∃l,keyOf P k x.key=some l:=λx hx=>hk (x.key,x.val) (by grind);unfold aK;rcases KP.find w hkey es.toList hks with⟨q1,q2⟩|⟨j,e0,q1,q2,q3⟩
 ·have:(Builtin.delete_ #[t,k] ty [.map (some b),key].toArray).run P w=.ok (.tuple #[]) (ChangeMaps.setBlock w b (.map es clock)):=by simp[Builtin.delete_,run_underlying ht,MapKept.run_getObj_map hb,KP.check w _ hkey,q1,MapKept.run_setObj_map _ hb,Result.andThen,ChangeMaps.setBlock]
  rw[this];refine h0 (λp hp=>?_) _ ?_
  ·grind
  ·have:=Dj s hi (o:=.map es clock) (A':=mapA P k b m) rfl ⟨_,_,LN hb,hm,hk⟩ λx hx=>hx;rwa[qQ hi]at this
 ·have hsub:(es.eraseIdxIfInBounds j).toList=es.toList.eraseIdx j:=by simp_all
  have:(Builtin.delete_ #[t,k] ty [.map (some b),key].toArray).run P w=.ok (.tuple #[]) (ChangeMaps.setBlock w b (.map (es.eraseIdxIfInBounds j) clock)):=by simp[Builtin.delete_,run_underlying ht,MapKept.run_getObj_map hb,KP.check w _ hkey,q1,MapKept.run_setObj_map _ hb,Result.andThen,ChangeMaps.setBlock]
  rw[this];refine h1 j e0.val (by grind) _ (Dj s hi rfl ⟨_,_,LN hb,?_,λp hp=>?_⟩ λx hx=>hx)
  ·rw[hsub,ChangeMaps.map_eraseIdx,hm]
  ·exact hk p ((List.eraseIdx_sublist _ _).subset hp)
end
end Go.Sx
namespace Go.Sx
section
variable {F:Nat->Prop}{W w w':World}{L:List As}{i n c size:Nat}{e:TypeId}{xs:List Value}
def aqu {P:Program}{g o p:Nat}{news:List Value}(s:Sep F W w L)(hi:L[i]? =some (aj (some ⟨g,o,none⟩) n c e size xs))(hp:p+news.length<=n*size)(h1:∀u∈news,u.oneCell'=true):
  ∃w',(storeCells ⟨g,o+p,none⟩ news).run P w=.ok () w'/\Sep F W w' (L.set i (aj (some ⟨g,o,none⟩) n c e size (xs.take p++news++xs.drop (p+news.length)))):=by
 obtain⟨⟨r1,r2,r3,r4⟩,r5⟩:=fN s hi;rcases r5 with⟨h,_⟩|⟨g',o',cur,h,hg,To,aft⟩
 ·cases h
 ·cases h;have hnc:n*size<=c*size:=Nat.mul_le_mul_right _ r2;have hst:=run_storeCells_at (P:=P) g (o+p) e news 0 cur w hg (by omega) h1;simp only[Nat.add_zero]at hst;refine⟨_,hst,wO s hi (A':=aj (some ⟨g,o,none⟩) n c e size (xs.take p++news++xs.drop (p+news.length))) ?_ ?_ ?_⟩
  ·exact⟨rfl,rfl,rfl,by show w.heap.size<=(w.setRow g _).heap.size;simp[World.setRow],λk _ hk=>setRow_other w g k _ (λe=>hk ⟨_,rfl,e.symm⟩)⟩
  ·have hl:(xs.take p++news++xs.drop (p+news.length)).length=n*size:=by simp[List.length_append,List.length_take,List.length_drop,r1];omega
   refine⟨⟨hl,r2,r3,λu hu=>?_⟩,.inr ⟨g,o,_,rfl,setRow_heap w g cur _ e _ hg,?_,?_⟩⟩
   ·rcases List.mem_append.1 hu with hu|hu
    ·rcases List.mem_append.1 hu with hu|hu
     ·exact r4 u (List.mem_of_mem_take hu)
     ·exact h1 u hu
    ·exact r4 u (List.mem_of_mem_drop hu)
   ·simp[List.size_toArray,List.length_append,List.length_take,List.length_drop,Array.length_toList];omega
   ·have Tu:cur.toList.length=cur.size:=Array.length_toList;have e1:(cur.toList.take (o+p)++news++cur.toList.drop (o+p+news.length)).drop o=(cur.toList.drop o).take p++(news++(cur.toList.drop o).drop (p+news.length)):=by rw[List.append_assoc,List.drop_append_of_le_length (by rw[List.length_take];omega),List.drop_take,Nat.add_sub_cancel_left,List.drop_drop];congr 3;omega
    have hX:((cur.toList.drop o).take (n*size)).length=n*size:=by rw[aft];exact r1
    rw[e1,<-aft,List.take_take,Nat.min_eq_left (by omega),<-List.append_assoc];have e2:(cur.toList.drop o).drop (p+news.length)=((cur.toList.drop o).take (n*size)).drop (p+news.length)++(cur.toList.drop o).drop (n*size):=by
     rw[List.drop_take];have:(cur.toList.drop o).drop (n*size)=((cur.toList.drop o).drop (p+news.length)).drop (n*size-(p+news.length)):=by generalize cur.toList.drop o=D;rw[List.drop_drop];congr 1;omega
     rw[this,List.take_append_drop]
    rw[e2,<-List.append_assoc];have hD:n*size<=(cur.toList.drop o).length:=by rw[List.length_take]at hX;omega
    have hL:((cur.toList.drop o).take p++news++((cur.toList.drop o).take (n*size)).drop (p+news.length)).length=n*size:=by rw[List.length_append,List.length_append,List.length_drop,hX,List.length_take];omega
    rw[List.take_append_of_le_length (by rw[hL];exact Nat.le_refl _)];exact List.take_of_length_le (by rw[hL];exact Nat.le_refl _)
  ·rintro b ⟨x,hx,rfl⟩;cases hx;exact .inl ⟨_,rfl,rfl⟩
def DB {P:Program}{T:tR}{t ty:TypeId}{ti ei:TI}{b da:Option Addr}{m cc dn dc g o p:Nat}{news:List Value}{K:Int->World->Prop}(hT:vO P T)(s:Sep F W w L)
  (ht:T t=some ti)(hd:ti.d=.slice e)(he:T e=some ei)(hs:ei.size=size)(hsz:0<size)
  (hi:L[i]? =some (aj (some ⟨g,o,none⟩) n c e size xs))(hsrc:Src w b m size news)(hp:p+dn<=n)(hda:da=some ⟨g,o+p*size,none⟩)
  (h:∀w',Sep F W w' (L.set i (aj (some ⟨g,o,none⟩) n c e size (xs.take (p*size)++news.take (min m dn*size)++xs.drop ((p+min m dn)*size))))->K ((min m dn:Nat):Int) w'):
  Sx.cu P #[t,t] ty (.slice da dn dc) (.slice b m cc) w K:=by
 subst hda;obtain⟨inf,u,z,k1,k2,k3,k4,k5,k6,k7⟩:=tU hT ht;obtain⟨xP,u',z',q1,q2,q3,q4,q5,q6,q7⟩:=tU hT he;have hu:u=.slice e:=by rw[hd]at k3;cases u<;>simp[nD]at k3;rw[k3]
 subst hu;obtain rfl:xP.size=size:=q4.trans hs;obtain⟨s1,s2,s3⟩:=hsrc;have hk:min m dn*xP.size<=m*xP.size:=Nat.mul_le_mul_right _ (Nat.min_le_left _ _);have Hs:(p+min m dn)*xP.size<=n*xP.size:=Nat.mul_le_mul_right _ (by omega);rw[Nat.add_mul]at Hs;have hlen:(news.take (min m dn*xP.size)).length=min m dn*xP.size:=by grind
 obtain⟨w',hst,sp⟩:=aqu (P:=P) (p:=p*xP.size) (news:=news.take (min m dn*xP.size)) s hi (by omega) λu hu=>s2 u (List.mem_of_mem_take hu);rw[hlen,<-Nat.add_mul]at sp;have hf:(Builtin.firstCells xP.size (min m dn) (.slice b m cc)).run P w=.ok (news.take (min m dn*xP.size)).toArray w:=by
  cases b with
  |none=>
   have hm:=s3;subst hm;simp[Builtin.firstCells]
  |some ad=>
   refine run_firstCells_some w _ _ _ _ _ _ hlen λj v hj=>s3 j v ?_;grind
 have hmn:Nat.min m dn=min m dn:=rfl;unfold Sx.cu aK;have hr:(Builtin.copy_ #[t,t] ty [.slice (some ⟨g,o+p*xP.size,none⟩) dn dc,.slice b m cc].toArray).run P w=.ok (.int .i64 ((min m dn:Nat):Int)) w':=by
  simp[Builtin.copy_,run_underlying k2,sizeOf,typeInfo,q1,Builtin.lenOf,hmn,hf,hst,goInt]
  try omega
 rw[hr];exact h w' sp
end
section
variable {α:Type}{p:Prop}[Decidable p]{x y:α}
def bJ (h:p:=by omega):cond (decide p) x y=x:=by rw[decide_eq_true h];rfl
def bp (h:¬p:=by omega):cond (decide p) x y=y:=by rw[decide_eq_false h];rfl
def zP (h:p:=by omega):ite p x y=x:=if_pos h
def ru (h:¬p:=by omega):ite p x y=y:=if_neg h
end
def aF {n:Int}(h1:-9223372036854775808<=n:=by omega)(h2:n<9223372036854775808:=by omega):IntKind.wrap .i64 n=n:=wrap_i64 h1 h2
section
variable {F:Nat->Prop}{W w:World}{L:List As}{a:Addr}{b j:Nat}{t:TypeId}{cs:List Value}
def cN {v:Value}(s:Sep F W w L)(i:Nat)(h:(a,L[i]?,cs[j]?)=(⟨b,j,none⟩,some (av b t cs),some v)):w.cell? a=some v:=by simp only[Prod.mk.injEq]at h;exact c9 s h.1 h.2.1 h.2.2
def lI {k:IntKind}{n:Int}{K:Int->Prop}(s:Sep F W w L)(i:Nat)(h:(a,L[i]?,cs[j]?)=(⟨b,j,none⟩,some (av b t cs),some (.int k n)))(g:K n):af k a w K:=⟨n,cN s i h,g⟩
def lB {n:Bool}{K:Bool->Prop}(s:Sep F W w L)(i:Nat)(h:(a,L[i]?,cs[j]?)=(⟨b,j,none⟩,some (av b t cs),some (.bool n)))(g:K n):cq a w K:=⟨n,cN s i h,g⟩
def lP {n:Option Addr}{K:Option Addr->Prop}(s:Sep F W w L)(i:Nat)(h:(a,L[i]?,cs[j]?)=(⟨b,j,none⟩,some (av b t cs),some (.pointer n)))(g:K n):bf a w K:=⟨n,cN s i h,g⟩
def lM {n:Option Nat}{K:Option Nat->Prop}(s:Sep F W w L)(i:Nat)(h:(a,L[i]?,cs[j]?)=(⟨b,j,none⟩,some (av b t cs),some (.map n)))(g:K n):bY a w K:=⟨n,cN s i h,g⟩
def lS {x:Option Addr}{n c:Nat}{K:Option Addr->Nat->Nat->Prop}(s:Sep F W w L)(i:Nat)(h:(a,L[i]?,cs[j]?)=(⟨b,j,none⟩,some (av b t cs),some (.slice x n c)))(g:K x n c):aB a w K:=⟨x,n,c,cN s i h,g⟩
def sT {v:Value}{K:World->Prop}{L':List As}(s:Sep F W w L)(i:Nat)(h:(a,L[i]?,Nat.blt j cs.length)=(⟨b,j,none⟩,some (av b t cs),true))(g:∀w',Sep F W w' L'->K w')(e:L.set i (av b t (cs.set j v))=L':=by(simp only[List.set_cons_zero,List.set_cons_succ];try rfl)):St a v w K:=by simp only[Prod.mk.injEq]at h;subst e;exact az s h.1 h.2.1 h.2.2 g
def jm {A B:As}(s:Sep F W w (A::B::L)):Sep F W w (B::A::L):=cE s (List.Perm.swap _ _ _)
def pkN:List As->Nat->List As->List As
 |[],_,r=>r
 |A::_,0,r=>A::r
 |_::L,i+1,r=>pkN L i r
def Y9 (L:List As):List Nat->List As->List As
 |[],r=>r
 |i::is,r=>pkN L i (Y9 L is r)
def Y_:Nat->List As->List As
 |0,L=>L
 |_+1,[]=>[]
 |k+1,_::L=>Y_ k L
def pkI:Nat->List Nat->Bool
 |_,[]=>true
 |k,i::is=>Nat.blt i k&&!is.contains i&&pkI k is
def afw:∀{L:List As} {i:Nat} {r:List As},pkN L i r=(match L[i]? with|some A=>[A]|none=>[])++r
 |[],i,r=>by simp[pkN]
 |A::L,0,r=>by simp[pkN]
 |A::L,i+1,r=>by simp[pkN,afw (L:=L)]
def afx:∀{k:Nat} {L:List As},Y_ k L=L.drop k
 |0,L=>by simp[Y_]
 |k+1,[]=>by simp[Y_]
 |k+1,A::L=>by simp[Y_,afx (k:=k)]
def afy {k:Nat}:∀{is:List Nat} {B:As},B∈Y9 L is (Y_ k L)->∃j,L[j]? =some B/\(j∈is\/k<=j)
 |[],B,h=>by rw[Y9,afx]at h;obtain⟨j,hj⟩:=List.getElem?_of_mem h;rw[List.getElem?_drop]at hj;exact⟨_,hj,.inr (Nat.le_add_right ..)⟩
 |i::is,B,h=>by
  rw[Y9,afw,List.mem_append]at h;rcases h with h|h
  ·split at h
   ·rename_i hA;cases List.mem_singleton.1 h;exact⟨i,hA,.inl (List.mem_cons_self ..)⟩
   ·cases h
  ·obtain⟨j,h1,h2⟩:=afy h;exact⟨j,h1,h2.imp (List.mem_cons_of_mem _) id⟩
def afz {R:As->As->Prop}(hs:∀a b,R a b->R b a){k:Nat}(hp:L.Pairwise R):∀{is:List Nat},pkI k is=true->(Y9 L is (Y_ k L)).Pairwise R
 |[],h=>by rw[Y9,afx];exact hp.sublist (List.drop_sublist ..)
 |i::is,h=>by
  simp only[pkI,Bool.and_eq_true,Bool.not_eq_true',Nat.blt_eq]at h;rw[Y9,afw];have ih:=afz hs hp h.2;split
  ·rename_i A hA;rw[List.singleton_append,List.pairwise_cons];refine⟨λB hB=>?_,ih⟩;obtain⟨j,hj,hk⟩:=afy hB;refine Jz hs hp hA hj λe=>?_;subst e;rcases hk with hk|hk
   ·have:=h.1.2;simp[hk]at this
   ·omega
  ·exact ih
def pk {L':List As}(k:Nat)(is:List Nat)(s:Sep F W w L)(e:Y9 L is (Y_ k L)=L':=by(simp only[Y9,pkN,Y_];try rfl))(h:pkI k is=true:=by decide):Sep F W w L':=by subst e;refine⟨dN.fr s,λB hB=>?_,afz (λa b h x hx hy=>h x hy hx) (dN.apart s) h⟩;obtain⟨j,hj,_⟩:=afy hB;exact dN.ok s B (List.mem_of_getElem? hj)
end
end Go.Sx
namespace Go.Proofs.YtmegplnmiepfbaaGreatDoor.S
open Go.Sx
structure A1 where
 k:Int
 A:Int
 B:Int
 m:List Int
deriving DecidableEq
def gu (l:List Int):Prop:=∀x∈l,0<=x/\x<256
def gu.nil:gu []:=λx hx=>by cases hx
def gu.cons {x:Int}{l:List Int}(h:gu (x::l)):(0<=x/\x<256)/\gu l:=⟨h x (by simp),λy hy=>h y (by simp[hy])⟩
def gu.mk {x:Int}{l:List Int}(h:0<=x/\x<256)(h':gu l):gu (x::l):=λy hy=>by
 rcases List.mem_cons.1 hy with rfl|hy
 ·exact h
 ·exact h' y hy
def afA {l m:List Int}(h:gu l)(h':gu m):gu (l++m):=λx hx=>by
 rcases List.mem_append.1 hx with hx|hx
 ·exact h x hx
 ·exact h' x hx
def gu.take {l:List Int}(h:gu l)(n:Nat):gu (l.take n):=λx hx=>h x (List.mem_of_mem_take hx)
def gu.drop {l:List Int}(h:gu l)(n:Nat):gu (l.drop n):=λx hx=>h x (List.mem_of_mem_drop hx)
def oH:List Int->Int
 |[]=>0
 |x::xs=>x+256*oH xs
def Za {l:List Int}(h:gu l):0<=oH l/\oH l<256^l.length:=by
 induction l with
 |nil=>simp[oH]
 |cons x l ih=>
  have h1:=h.cons;have h2:=ih h1.2;simp[oH,List.length_cons];omega
def vQ (k:Int):Nat:=if k=2\/k=3\/k=4\/k=5\/k=6 then 4 else 0
def A2 (k:Int):Nat:=if k=2 then 1 else if k=3\/k=4\/k=6 then 4 else 0
def shL (k:Int):Bool:=decide (k=1)
def DC (k:Int):Bool:=decide (1<=k/\k<=8)
def anM (k:Int):vQ k<=4/\A2 k<=4:=by unfold vQ A2;grind
def Au:List Int->A1×Nat
 |[]=>(⟨0,0,0,[]⟩,0)
 |x::r=>
  if DC x=true then
   if shL x=true then
    if r.length<4 then(⟨0,0,0,[]⟩,0)
    else if(r.length:Int)-4<oH (r.take 4)then(⟨0,0,0,[]⟩,0)
    else(⟨x,0,0,(r.drop 4).take (oH (r.take 4)).toNat⟩,5+(oH (r.take 4)).toNat)
   else if r.length<vQ x+A2 x then(⟨0,0,0,[]⟩,0)
   else(⟨x,oH (r.take (vQ x)),oH ((r.drop (vQ x)).take (A2 x)),[]⟩,1+vQ x+A2 x)
  else(⟨0,x,0,[]⟩,1)
def BS (x:Int)(r:List Int):Au (x::r)=
 if DC x=true then
  if shL x=true then
   if r.length<4 then(⟨0,0,0,[]⟩,0)
   else if(r.length:Int)-4<oH (r.take 4)then(⟨0,0,0,[]⟩,0)
   else(⟨x,0,0,(r.drop 4).take (oH (r.take 4)).toNat⟩,5+(oH (r.take 4)).toNat)
  else if r.length<vQ x+A2 x then(⟨0,0,0,[]⟩,0)
  else(⟨x,oH (r.take (vQ x)),oH ((r.drop (vQ x)).take (A2 x)),[]⟩,1+vQ x+A2 x)
 else(⟨0,x,0,[]⟩,1):=rfl
def anN (m:List Int):Bool:=decide (m≠[])&&decide ((Au m).2=0)
def Dk (n:Int)(s:Nat):Bool:=decide (0<=n/\n<256^s)
def DD (o:A1):Bool:=
 if o.k=0 then
  if o.A=-1 then decide (o.B=0)&&anN o.m
  else Dk o.A 1&&(!DC o.A&&(decide (o.B=0)&&decide (o.m=[])))
 else DC o.k&&(Dk o.A (vQ o.k)&&(Dk o.B (A2 o.k)&&(decide (o.m=[])||(shL o.k&&decide (o.m.length<=4294967295)))))
def apn (o:A1):Prop:=o.k=0/\o.A=-1
instance (o:A1):Decidable (apn o):=inferInstanceAs (Decidable (_/\_))
def JC {n:Int}{s:Nat}:Dk n s=true↔0<=n/\n<256^s:=by simp[Dk]
structure bN where
 w:Int
 h:Int
 cs:List Int
structure c7 (m:bN):Prop where
 w:1<=m.w/\m.w<=1024
 h:1<=m.h/\m.h<=1024
 len:(m.cs.length:Int)=m.w*m.h
 jP:∀x∈m.cs,1<=x/\x<256
def c7.bytes {m:bN}(h:c7 m):gu m.cs:=λx hx=>by have:=h.jP x hx;omega
def cB (w:Int):Int:=(w+15)/16
def ej (w h:Int):Int:=cB w*cB h
def aD (w h s:Int):Int:=min 16 (w-16*(s%cB w))
def bu (w h s:Int):Int:=min 16 (h-16*(s/cB w))
def bS (w h s l:Int):Int:=(16*(s/cB w)+l/aD w h s)*w+16*(s%cB w)+l%aD w h s
def D7 {w:Int}(h:1<=w/\w<=1024):1<=cB w/\cB w<=64:=by unfold cB;omega
def gz {w h:Int}(hw:1<=w/\w<=1024)(hh:1<=h/\h<=1024):1<=ej w h/\ej w h<=4096:=by have h1:=D7 hw;have h2:=D7 hh;unfold ej;have a:=Int.mul_le_mul h1.1 h2.1 (by decide) (by omega);have b:=Int.mul_le_mul h1.2 h2.2 (by omega) (by decide);omega
def Ht {w h s:Int}(hw:1<=w/\w<=1024)(hh:1<=h/\h<=1024)(hs:0<=s/\s<ej w h):
  0<=s%cB w/\0<=s/cB w/\16*(s%cB w)<=w-1/\16*(s/cB w)<=h-1:=by
 have h1:=D7 hw;have a:=Int.emod_nonneg s (b:=cB w) (by omega);have b:=Int.emod_lt_of_pos s (b:=cB w) (by omega);have c:s/cB w<cB h:=Int.ediv_lt_of_lt_mul (by omega) (by rw[Int.mul_comm];exact hs.2);have d:0<=s/cB w:=Int.ediv_nonneg hs.1 (by omega);refine⟨a,d,?_,?_⟩
 ·have e:cB w=(w+15)/16:=rfl;omega
 ·have e:cB h=(h+15)/16:=rfl;omega
def qp {w h s:Int}(hw:1<=w/\w<=1024)(hh:1<=h/\h<=1024)(hs:0<=s/\s<ej w h):(1<=aD w h s/\aD w h s<=16)/\1<=bu w h s/\bu w h s<=16:=by have:=Ht hw hh hs;unfold aD bu;omega
def EP {w h s l:Int}(hw:1<=w/\w<=1024)(hh:1<=h/\h<=1024)(hs:0<=s/\s<ej w h)(hl:0<=l/\l<aD w h s*bu w h s):
  0<=bS w h s l/\bS w h s l<w*h:=by
 have h1:=Ht hw hh hs;have h2:=qp hw hh hs;have a:=Int.emod_nonneg l (b:=aD w h s) (by omega);have b:=Int.emod_lt_of_pos l (b:=aD w h s) (by omega);have c:l/aD w h s<bu w h s:=Int.ediv_lt_of_lt_mul (by omega) (by grind);have d:0<=l/aD w h s:=Int.ediv_nonneg hl.1 (by omega);have e1:16*(s%cB w)+l%aD w h s<w:=by
  have:aD w h s<=w-16*(s%cB w):=by unfold aD;omega
  omega
 have e2:16*(s/cB w)+l/aD w h s<h:=by
  have:bu w h s<=h-16*(s/cB w):=by unfold bu;omega
  omega
 unfold bS;have hy:0<=16*(s/cB w)+l/aD w h s:=by omega
 generalize 16*(s/cB w)+l/aD w h s=y at*;have f1:0<=y*w:=Int.mul_nonneg hy (by omega);have f2:(y+1)*w<=h*w:=Int.mul_le_mul_of_nonneg_right (by omega) (by omega);grind
def pO (m:bN)(s:Int):List Int:=(List.range (aD m.w m.h s*bu m.w m.h s).toNat).map λl:Nat=>gi m.cs (bS m.w m.h s l).toNat
def Tv {m:bN}(h:c7 m){s:Int}(hs:0<=s/\s<ej m.w m.h):∀x∈pO m s,1<=x/\x<256:=λx hx=>by obtain⟨l,hl,rfl⟩:=List.mem_map.1 hx;rw[List.mem_range]at hl;have:=EP h.w h.h hs (l:=l) (by omega);have hlen:=h.len;exact h.jP _ (fy (by omega))
def Tw {m:bN}{s:Int}(h:c7 m)(hs:0<=s/\s<ej m.w m.h):((pO m s).length:Int)=aD m.w m.h s*bu m.w m.h s/\1<=(pO m s).length/\(pO m s).length<=256:=by have h2:=qp h.w h.h hs;have a:=Int.mul_le_mul h2.1.1 h2.2.1 (by decide) (by omega);have b:=Int.mul_le_mul h2.1.2 h2.2.2 (by omega) (by decide);unfold pO;grind
def lead (x:Int):List Int->Nat
 |[]=>0
 |y::ys=>if y=x then lead x ys+1 else 0
def Ny (x:Int)(l:List Int):lead x l<=l.length:=by
 induction l with
 |nil=>exact Nat.le_refl _
 |cons y ys ih=>unfold lead;grind
def kT:Nat->List Int->List Int
 |0,_=>[]
 |_+1,[]=>[]
 |f+1,x::cs=>((lead x cs:Nat):Int)%256::x::kT f (cs.drop (lead x cs))
def afB:∀(f g:Nat) (l:List Int),l.length<=f->l.length<=g->kT f l=kT g l:=by
 intro f;induction f with
 |zero=>
  intro g l hf hg;have:l=[]:=List.eq_nil_of_length_eq_zero (by omega);subst this;cases g<;>rfl
 |succ f ih=>
  intro g l hf hg;cases l with
  |nil=>grind
  |cons x cs=>
   cases g with
   |zero=>simp at hg
   |succ g=>
    unfold kT;grind
def sP (l:List Int):List Int:=2::kT l.length l
def ac4:∀(f:Nat) {l:List Int},gu l->gu (kT f l)
 |0,_,_=>gu.nil
 |_+1,[],_=>gu.nil
 |f+1,x::cs,h=>gu.mk (by omega) (gu.mk h.cons.1 (ac4 f (h.cons.2.drop _)))
def sQ (cs:List Int):Int×List Int:=
 if(sP cs).length=3 then(0,[0,gi cs 0])else if(sP cs).length<1+cs.length then(2,sP cs)else(1,1::cs)
def afC {cs:List Int}(h:gu cs)(hl:1<=cs.length):gu (sQ cs).2:=by
 unfold sQ;split
 ·exact gu.mk (by decide) (gu.mk (h _ (fy (by omega))) gu.nil)
 ·split
  ·exact gu.mk (by decide) (ac4 _ h)
  ·exact gu.mk (by decide) h
def afD {cs:List Int}:(sQ cs).2.length<=2+cs.length:=by unfold sQ;grind
def Hu (m:bN)(k:Nat):List Int:=(List.range k).flatMap λs:Nat=>(sQ (pO m s)).2
def xQ (m:bN):List Int:=[m.w%256,m.w/256%256,m.h%256,m.h/256%256]++Hu m (ej m.w m.h).toNat
def WO (m:bN)(k:Nat):Hu m (k+1)=Hu m k++(sQ (pO m k)).2:=by unfold Hu;rw[List.range_succ,List.flatMap_append];simp
def ac5 {m:bN}(h:c7 m):∀(k:Nat),(k:Int)<=ej m.w m.h->gu (Hu m k)/\(Hu m k).length<=258*k
 |0,_=>⟨gu.nil,by simp[Hu]⟩
 |k+1,hk=>by
  obtain⟨h1,h2⟩:=ac5 h k (by omega);have hs:0<=(k:Int)/\(k:Int)<ej m.w m.h:=by omega
  have hl:=Tw h hs;have hr:=Tv h hs;rw[WO];refine⟨afA h1 (afC (λx hx=>by grind) hl.2.1),?_⟩;rw[List.length_append];have:=afD (cs:=pO m k);omega
def Zb {m:bN}(h:c7 m):gu (xQ m)/\(xQ m).length<=1100000:=by have hc:=gz h.w h.h;obtain⟨h1,h2⟩:=ac5 h (ej m.w m.h).toNat (by omega);unfold xQ;refine⟨afA (gu.mk (by omega) (gu.mk (by omega) (gu.mk (by omega) (gu.mk (by omega) gu.nil)))) h1,?_⟩;grind
structure ayM where
 k:Int
 a:Int
 b:Int
def PM (m:bN):A1:=⟨1,0,0,xQ m⟩
structure arH (o:A1):Prop where
 may:DD o=true
 whole:¬apn o
 jP:gu o.m
 len:o.m.length<=1100000
def LO {n:Int}(h:0<=n/\n<=4000000):Dk n 4=true:=JC.2 (by omega)
def anO {k A B:Int}(hk:k=2\/k=3\/k=4\/k=5\/k=6)(hA:0<=A/\A<=4000000)(hB:0<=B/\B<=4000000)(h2:k=2->B<=255)(h5:k=5->B=0):arH ⟨k,A,B,[]⟩:=by
 refine⟨?_,λh=>by have:=h.1;grind,gu.nil,by simp⟩;unfold DD;simp only;rcases hk with rfl|rfl|rfl|rfl|rfl
 ·simp[DC,vQ,A2,LO hA];exact JC.2 (by omega)
 ·simp[DC,vQ,A2,LO hA,LO hB]
 ·simp[DC,vQ,A2,LO hA,LO hB]
 ·simp[DC,vQ,A2,LO hA];exact JC.2 (by omega)
 ·simp[DC,vQ,A2,LO hA,LO hB]
def aqv {bs:List Int}(h:gu bs)(hl:bs.length<=1100000):arH ⟨1,0,0,bs⟩:=by refine⟨?_,λh=>by have:=h.1;grind,h,hl⟩;unfold DD;simp[DC,vQ,A2,shL,Dk];omega
def afE {m:bN}(h:c7 m):1<=m.cs.length/\m.cs.length<=1048576:=by have h1:=h.len;have a:=Int.mul_le_mul h.w.1 h.h.1 (by decide) (by have:=h.w;omega);have b:=Int.mul_le_mul h.w.2 h.h.2 (by have:=h.h;omega) (by decide);omega
def iU (w h:Int):Prop:=(1<=w/\w<=1024)/\(1<=h/\h<=1024)
instance (w h:Int):Decidable (iU w h):=inferInstanceAs (Decidable (_/\_))
def bC (w h c:Int):Prop:=iU w h/\0<=c/\c<w*h
instance (w h c:Int):Decidable (bC w h c):=inferInstanceAs (Decidable (_/\_))
def dA (w h s:Int):Prop:=iU w h/\0<=s/\s<ej w h
instance (w h s:Int):Decidable (dA w h s):=inferInstanceAs (Decidable (_/\_))
def gK (w h x y:Int):Int:=if iU w h/\(0<=x/\x<w)/\(0<=y/\y<h)then y*w+x else-1
def aX (w h c s:Int):Int:=
 if bC w h c then
  if s=0 then gK w h (c%w) (c/w-1)
  else if s=2 then gK w h (c%w) (c/w+1)
  else if s=3 then gK w h (c%w-1) (c/w)
  else if s=1 then gK w h (c%w+1) (c/w)
  else if s=4 then gK w h (c%w) (c/w)
  else-1
 else-1
def aC (w h c:Int):Int:=if bC w h c then c/w/16*cB w+c%w/16 else-1
def Xp (w h s:Int):Int:=if dA w h s then aD w h s else 0
def aa8 (w h s:Int):Int:=if dA w h s then bu w h s else 0
def dD (w h c:Int):Int:=if bC w h c then c/w%16*aD w h (aC w h c)+c%w%16 else-1
def BT (w h s l:Int):Int:=if dA w h s/\0<=l/\l<aD w h s*bu w h s then bS w h s l else-1
def pZ {w h:Int}(hm:iU w h):1<=w*h/\w*h<=1048576:=by obtain⟨h1,h2⟩:=hm;have a:=Int.mul_le_mul h1.1 h2.1 (by decide) (by omega);have b:=Int.mul_le_mul h1.2 h2.2 (by omega) (by decide);omega
def Hv {w h c:Int}(hc:bC w h c):0<=c/\c<1048576:=by have:=pZ hc.1;have:=hc.2;omega
def G0 {w h c:Int}(hc:bC w h c):(0<=c%w/\c%w<w)/\(0<=c/w/\c/w<h)/\c=c/w*w+c%w:=by obtain⟨⟨h1,h2⟩,h3,h4⟩:=hc;refine⟨⟨Int.emod_nonneg _ (by omega),Int.emod_lt_of_pos _ (by omega)⟩,⟨Int.ediv_nonneg h3 (by omega),Int.ediv_lt_of_lt_mul (by omega) (by grind)⟩,?_⟩;have:=Int.mul_ediv_add_emod c w;grind
def qR {w x y:Int}(hx:0<=x/\x<w):(y*w+x)/w=y/\(y*w+x)%w=x:=by
 have hw:w≠0:=by omega
 constructor
 ·rw[Int.add_comm,Int.add_mul_ediv_right _ _ hw,Int.ediv_eq_zero_of_lt hx.1 hx.2,Int.zero_add]
 ·rw[Int.add_comm,Int.add_mul_emod_self_right,Int.emod_eq_of_lt hx.1 hx.2]
def Zc {w h x y:Int}(hm:iU w h)(hx:0<=x/\x<w)(hy:0<=y/\y<h):bC w h (y*w+x):=by
 refine⟨hm,?_,?_⟩
 ·have:0<=y*w:=Int.mul_nonneg hy.1 (by omega);omega
 ·have f2:(y+1)*w<=h*w:=Int.mul_le_mul_of_nonneg_right (by omega) (by omega);grind
def mN {w h x y:Int}(hm:iU w h)(hx:0<=x/\x<w)(hy:0<=y/\y<h):gK w h x y=y*w+x:=if_pos ⟨hm,hx,hy⟩
def rT {w h x y:Int}(hn:¬((0<=x/\x<w)/\(0<=y/\y<h))):gK w h x y=-1:=if_neg λe=>hn e.2
def A3 {w h x y:Int}(h0:0<=gK w h x y):(0<=x/\x<w)/\(0<=y/\y<h)/\bC w h (gK w h x y):=by
 unfold gK at h0⊢;split at h0
 ·rename_i hq;rw[if_pos hq];exact⟨hq.2.1,hq.2.2,Zc hq.1 hq.2.1 hq.2.2⟩
 ·omega
def y8 {w h c s:Int}(h0:0<=aX w h c s):bC w h c/\bC w h (aX w h c s):=by
 unfold aX at h0⊢;split at h0
 ·rename_i hc;rw[if_pos hc];refine⟨hc,?_⟩;split at h0
  ·rename_i h1;rw[if_pos h1];exact(A3 h0).2.2
  ·rename_i h1;rw[if_neg h1];split at h0
   ·rename_i h1;rw[if_pos h1];exact(A3 h0).2.2
   ·rename_i h1;rw[if_neg h1];split at h0
    ·rename_i h1;rw[if_pos h1];exact(A3 h0).2.2
    ·rename_i h1;rw[if_neg h1];split at h0
     ·rename_i h1;rw[if_pos h1];exact(A3 h0).2.2
     ·rename_i h1;rw[if_neg h1];split at h0
      ·rename_i h1;rw[if_pos h1];exact(A3 h0).2.2
      ·omega
 ·omega
def DE {w h x y s:Int}(hm:iU w h)(hx:0<=x/\x<w)(hy:0<=y/\y<h):
  aX w h (y*w+x) s=if s=0 then gK w h x (y-1)else if s=2 then gK w h x (y+1)else if s=3 then gK w h (x-1) y else if s=1 then gK w h (x+1) y else if s=4 then gK w h x y else-1:=by
 obtain⟨e1,e2⟩:=qR hx;rw[aX,if_pos (Zc hm hx hy),e1,e2]
def bQ {w h c:Int}(hc:bC w h c):dA w h (aC w h c):=by have h1:=G0 hc;have ha:=D7 hc.1.1;rw[aC,if_pos hc];have a:0<=c/w/16*cB w:=Int.mul_nonneg (by omega) (by omega);refine⟨hc.1,by omega,?_⟩;unfold ej;have e:cB w=(w+15)/16:=rfl;have e':cB h=(h+15)/16:=rfl;have b:(c/w/16+1)*cB w<=cB h*cB w:=Int.mul_le_mul_of_nonneg_right (by omega) (by omega);grind
def Tx {w h c:Int}(hc:bC w h c):aC w h c/cB w=c/w/16/\aC w h c%cB w=c%w/16:=by have h1:=G0 hc;rw[aC,if_pos hc];exact qR (by have e:cB w=(w+15)/16:=rfl;omega)
def jL {w h c:Int}(hc:bC w h c):0<=dD w h c/\dD w h c<aD w h (aC w h c)*bu w h (aC w h c):=by
 have h1:=G0 hc;obtain⟨e1,e2⟩:=Tx hc;have hs:=bQ hc;unfold dD;have hw:c%w%16<aD w h (aC w h c):=by unfold aD;omega
 have hh:c/w%16<bu w h (aC w h c):=by unfold bu;omega
 generalize aC w h c=S at*;have a:0<=c/w%16*aD w h S:=Int.mul_nonneg (by omega) (by omega);have b:(c/w%16+1)*aD w h S<=bu w h S*aD w h S:=Int.mul_le_mul_of_nonneg_right (by omega) (by omega);grind
def nq {w h c:Int}(hc:bC w h c):bS w h (aC w h c) (dD w h c)=c:=by
 have h1:=G0 hc;obtain⟨e1,e2⟩:=Tx hc;have hs:=bQ hc;have hw:c%w%16<aD w h (aC w h c):=by unfold aD;omega
 have el:dD w h c=c/w%16*aD w h (aC w h c)+c%w%16:=if_pos hc;obtain⟨d1,d2⟩:=qR (w:=aD w h (aC w h c)) (x:=c%w%16) (y:=c/w%16) (by omega);unfold bS;grind
def rU {w h s l:Int}(hs:dA w h s)(hl:0<=l/\l<aD w h s*bu w h s):bC w h (bS w h s l):=
 ⟨hs.1,EP hs.1.1 hs.1.2 hs.2 hl⟩
def Nz {w h s l:Int}(hs:dA w h s)(hl:0<=l/\l<aD w h s*bu w h s):
  (0<=l%aD w h s/\l%aD w h s<aD w h s)/\(0<=l/aD w h s/\l/aD w h s<bu w h s):=by
 have hz:=qp hs.1.1 hs.1.2 hs.2;exact⟨⟨Int.emod_nonneg _ (by omega),Int.emod_lt_of_pos _ (by omega)⟩,⟨Int.ediv_nonneg hl.1 (by omega),Int.ediv_lt_of_lt_mul (by omega) (by grind)⟩⟩
def aio {w h s l:Int}(hs:dA w h s)(hl:0<=l/\l<aD w h s*bu w h s):
  bS w h s l/w=16*(s/cB w)+l/aD w h s/\bS w h s l%w=16*(s%cB w)+l%aD w h s:=by
 have h1:=Ht hs.1.1 hs.1.2 hs.2;have h2:=Nz hs hl;have e1:16*(s%cB w)+l%aD w h s<w:=by
  have:aD w h s<=w-16*(s%cB w):=by unfold aD;omega
  omega
 rw[bS,Int.add_assoc];exact qR (by omega)
def iA {w h s l:Int}(hs:dA w h s)(hl:0<=l/\l<aD w h s*bu w h s):aC w h (bS w h s l)=s:=by
 obtain⟨e1,e2⟩:=aio hs hl;have hz:=qp hs.1.1 hs.1.2 hs.2;have h2:=Nz hs hl;rw[aC,if_pos (rU hs hl),e1,e2];have q1:(16*(s/cB w)+l/aD w h s)/16=s/cB w:=by omega
 have q2:(16*(s%cB w)+l%aD w h s)/16=s%cB w:=by omega
 rw[q1,q2,Int.mul_comm];have:=Int.mul_ediv_add_emod s (cB w);omega
def ER {w h s l:Int}(hs:dA w h s)(hl:0<=l/\l<aD w h s*bu w h s):dD w h (bS w h s l)=l:=by
 obtain⟨e1,e2⟩:=aio hs hl;have hz:=qp hs.1.1 hs.1.2 hs.2;have h2:=Nz hs hl;rw[dD,if_pos (rU hs hl),iA hs hl,e1,e2];have q1:(16*(s/cB w)+l/aD w h s)%16=l/aD w h s:=by omega
 have q2:(16*(s%cB w)+l%aD w h s)%16=l%aD w h s:=by omega
 rw[q1,q2,Int.mul_comm];have:=Int.mul_ediv_add_emod l (aD w h s);omega
inductive Wy {α:Type} (S:α->Int->Prop) (E:α->α->Int->Prop):α->Int->Prop
 |src {x:α} {k:Int}:S x k->Wy S E x k
 |go {x n:α} {c d:Int}:E x n c->Wy S E n d->Wy S E x (d+c)
def bW:Int:=1099511627776
section
variable {α:Type}{S:α->Int->Prop}{E:α->α->Int->Prop}
open Classical in
noncomputable def gw (S:α->Int->Prop)(E:α->α->Int->Prop)(x:α):Int:=if h:∃d,Wy S E x d/\∀e,Wy S E x e->d<=e then h.choose else bW
def JD {x:α}{d:Int}(h:Wy S E x d)(hl:∀e,Wy S E x e->d<=e):gw S E x=d:=by have hx:∃d,Wy S E x d/\∀e,Wy S E x e->d<=e:=⟨d,h,hl⟩;rw[gw,dif_pos hx];grind
def wP {x:α}(h:∀d,¬Wy S E x d):gw S E x=bW:=by unfold gw;grind
def alc {f:α->Int}(hs:∀x k,S x k->f x<bW/\f x<=k)(he:∀x n c,E x n c->f n<bW->f x<bW/\f x<=f n+c){x:α}{d:Int}(h:Wy S E x d):f x<bW/\f x<=d:=by
 induction h with
 |src h=>grind
 |go e _ ih=>
  grind
def ald {f:α->Int}(hs:∀x k,S x k->f x<bW/\f x<=k)(he:∀x n c,E x n c->f n<bW->f x<bW/\f x<=f n+c){x:α}(ha:f x<bW->Wy S E x (f x))(hi:¬f x<bW->f x=bW):gw S E x=f x:=by
 by_cases h:f x<bW
 ·exact JD (ha h) λe he'=>(alc hs he he').2
 ·rw[hi h];exact wP λd hd=>h (alc hs he hd).1
def Wy.mono {S':α->Int->Prop}{E':α->α->Int->Prop}(hs:∀x k,S x k->Wy S' E' x k)(he:∀x n c d,E x n c->Wy S' E' n d->Wy S' E' x (d+c)){x:α}{d:Int}(h:Wy S E x d):Wy S' E' x d:=by
 induction h with
 |src h=>grind
 |go e _ ih=>grind
def mg (hs:∀x k,S x k->0<=k)(he:∀x n c,E x n c->0<=c){x:α}{d:Int}(h:Wy S E x d):0<=d:=by
 induction h with
 |src h=>grind
 |go e _ ih=>
  grind
def Ty {P:Int->Prop}(h0:∀d,P d->0<=d):∀(k:Nat) (d:Int),d<=k->P d->∃e,P e/\∀d',P d'->e<=d'
 |0,d,hk,h=>⟨d,h,λd' h'=>by grind⟩
 |k+1,d,hk,h=>by
  by_cases hx:∃d',P d'/\d'<=k
  ·obtain⟨d',h',hk'⟩:=hx;exact Ty h0 k d' hk' h'
  grind
def qq (hs:∀x k,S x k->0<=k)(he:∀x n c,E x n c->0<=c){x:α}{d:Int}(h:Wy S E x d):Wy S E x (gw S E x)/\∀e,Wy S E x e->gw S E x<=e:=by obtain⟨e,h1,h2⟩:=Ty (λd hd=>mg hs he hd) d.toNat d (by omega) h;rw[JD h1 h2];grind
end
section
variable {α:Type}{S:α->Int->Prop}{E:α->α->Int->Prop}{f f':α->Int}{Q Q':List (Int×α)}
structure NA (S:α->Int->Prop) (E:α->α->Int->Prop) (f:α->Int) (Q:List (Int×α)):Prop where
 ways:∀e∈Q,Wy S E e.2 e.1
 PN:∀x,f x<bW->Wy S E x (f x)/\∀e,Wy S E x e->f x<=e
 none:∀x,¬f x<bW->f x=bW
 iq:∀x k,S x k->f x<bW\/∃k',k'<=k/\(k',x)∈Q
 vS:∀x n c,E x n c->f n<bW->f x<bW\/∃k',k'<=f n+c/\(k',x)∈Q
 mono:∀x,f x<bW->∀e∈Q,f x<=e.1
def NA.least (h:NA S E f Q)(he:∀x n c,E x n c->0<=c){k:Int}(hk:∀e∈Q,k<=e.1){y:α}{d:Int}(hw:Wy S E y d):(if f y<bW then f y else k)<=d:=by
 induction hw with
 |@src x k' hs=>
  split
  ·rename_i hx;exact(h.PN x hx).2 _ (.src hs)
  ·rcases h.iq x k' hs with h1|⟨k2,h2,h3⟩
   all_goals grind
 |@go x n c d e hn ih=>
  have hc:=he _ _ _ e;split
  ·rename_i hx;exact(h.PN x hx).2 _ (.go e hn)
  ·by_cases hfn:f n<bW
   ·rcases h.vS x n c e hfn with h1|⟨k2,h2,h3⟩
    all_goals grind
   omega
def NA.skip (h:NA S E f Q){k:Int}{x:α}(hx:f x<bW)(h1:∀e∈Q',e∈Q)(h2:∀e∈Q,e=(k,x)\/e∈Q'):NA S E f Q' where
 ways e he:=h.ways e (h1 e he)
 PN:=h.PN
 none:=h.none
 iq y k' hs:=by
  rcases h.iq y k' hs with h3|⟨k2,h3,h4⟩
  all_goals grind
 vS y n c e hn:=by
  rcases h.vS y n c e hn with h3|⟨k2,h3,h4⟩
  all_goals grind
 mono y hy e he:=h.mono y hy e (h1 e he)
def NA.step (h:NA S E f Q)(he:∀x n c,E x n c->0<=c){k:Int}{x:α}(hx:¬f x<bW)(hkI:k<bW)(hin:(k,x)∈Q)(hk:∀e∈Q,k<=e.1)
  (hf':f' x=k)(hf:∀y,y≠x->f' y=f y)
  (h1:∀e∈Q',e∈Q\/∃c,E e.2 x c/\e.1=k+c)(h2:∀e∈Q,e=(k,x)\/e∈Q')(h3:∀y c,E y x c->f' y<bW\/∃k',k'<=k+c/\(k',y)∈Q'):NA S E f' Q':=by
 have hxw:=h.ways _ hin;have hkey:∀y,f y<bW->f' y=f y:=λy hy=>by grind
 constructor
 ·intro e hq;rcases h1 e hq with h4|⟨c,h4,h5⟩
  ·exact h.ways e h4
  ·rw[h5];exact .go h4 hxw
 ·intro y hy;by_cases e:y=x
  ·subst e;rw[hf'];refine⟨hxw,λd hd=>?_⟩;have:=h.least he hk hd;grind
  ·rw[hf y e]at hy⊢;exact h.PN y hy
 ·intro y hy;by_cases e:y=x
  ·grind
  ·rw[hf y e]at hy⊢;exact h.none y hy
 ·intro y k' hs;rcases h.iq y k' hs with h4|⟨k2,h4,h5⟩
  all_goals grind
 ·intro y n c e hn;by_cases en:n=x
  ·grind
  ·rw[hf n en]at hn⊢;rcases h.vS y n c e hn with h4|⟨k2,h4,h5⟩
   all_goals grind
 ·intro y hy e hq;have hyk:f' y<=k:=by
   by_cases ey:y=x
   ·grind
   ·rw[hf y ey]at hy⊢;exact h.mono y hy _ hin
  grind
def NA.done (h:NA S E f [])(x:α):gw S E x=f x:=by
 refine ald (λy k hs=>?_) (λy n c e hn=>?_) (λhx=>(h.PN x hx).1) (h.none x)
 ·rcases h.iq y k hs with h1|⟨_,_,h1⟩
  ·exact⟨h1,(h.PN y h1).2 _ (.src hs)⟩
  ·simp at h1
 ·rcases h.vS y n c e hn with h1|⟨_,_,h1⟩
  ·exact⟨h1,(h.PN y h1).2 _ (.go e (h.PN n hn).1)⟩
  ·simp at h1
structure LcI (S:α->Int->Prop) (E:α->α->Int->Prop) (cap:Int) (f:α->Int) (Q:List (Int×α)):Prop where
 ways:∀x,f x<cap->Wy S E x (f x)
 top:∀x,f x<=cap
 iq:∀x k,S x k->f x<=k\/cap<=k
 vS:∀x n c,E x n c->f n<cap->(f n,n)∈Q\/f x<=f n+c\/cap<=f n+c
def LcI.low {cap:Int}(h:LcI S E cap f [])(he:∀x n c,E x n c->0<=c){x:α}{d:Int}(hw:Wy S E x d):d<cap->f x<=d:=by
 induction hw with
 |@src x k hs=>
  intro hd;rcases h.iq x k hs with h1|h1
  all_goals omega
 |@go x n c d e hn ih=>
  intro hd;have hc:=he _ _ _ e;rcases h.vS x n c e (by omega)with h1|h1|h1
  all_goals grind
def LcI.done {cap:Int}(h:LcI S E cap f [])(hs:∀x k,S x k->0<=k)(he:∀x n c,E x n c->0<=c){x:α}(hB:∀d,Wy S E x d->gw S E x<cap)(hcap:cap<=bW):gw S E x=if f x<cap then f x else bW:=by
 by_cases hx:∃d,Wy S E x d
 ·obtain⟨d,hd⟩:=hx;have h1:=qq hs he hd;have h2:=hB d hd;have h3:=h.low he h1.1 h2;have h4:=h1.2 _ (h.ways x (by omega));omega
 ·rw[wP λd hd=>hx ⟨d,hd⟩,if_neg λh1=>hx ⟨_,h.ways x h1⟩]
def PO (hs:∀x k,S x k->0<=k)(he:∀x n c,E x n c->0<=c){x:α}{d:Int}(h:Wy S E x d):S x (gw S E x)\/∃n c,E x n c/\gw S E x=gw S E n+c/\∃d,Wy S E n d:=by
 obtain⟨hw,hl⟩:=qq hs he h;generalize gw S E x=q at*;cases hw with
 |src h=>exact .inl h
 |@go _ n c d e hn=>
  refine .inr ⟨n,c,e,?_,d,hn⟩;have h2:=qq hs he hn;have h3:=hl _ (.go e h2.1);grind
def PR {l:List α}{p q:α->Bool}{n:α}(hn:n∈l)(hq:q n=true)(hp:p n=false)(h:∀y,p y=true->q y=true):l.countP p+1<=l.countP q:=by
 induction l with
 |nil=>simp at hn
 |cons a l ih=>
  have mono:l.countP p<=l.countP q:=List.countP_mono_left λy _=>h y;grind
def ale {K:Int}(hs:∀x k,S x k->0<=k/\k<=K)(he:∀x n c,E x n c->1<=c/\c<=254)(l:List α)(hl:∀x d,Wy S E x d->x∈l):
  ∀(k:Nat) (x:α) (d:Int),Wy S E x d->gw S E x<=k->gw S E x<=K+254*((l.countP λy=>decide (gw S E y<gw S E x):Nat):Int):=by
 have hs0:∀x k,S x k->0<=k:=λx k h=>(hs x k h).1;have he0:∀x n c,E x n c->0<=c:=λx n c h=>by grind
 intro k;induction k with
 |zero=>
  intro x d hw hk;rcases PO hs0 he0 hw with h1|⟨n,c,h1,h2,dn,hn⟩
  ·grind
  ·have hc:=he _ _ _ h1;have h0:=mg hs0 he0 (qq hs0 he0 hn).1;omega
 |succ k ih=>
  intro x d hw hk;rcases PO hs0 he0 hw with h1|⟨n,c,h1,h2,dn,hn⟩
  ·grind
  ·have hc:=he _ _ _ h1;have ih:=ih n dn hn (by omega);have awF:(l.countP λy=>decide (gw S E y<gw S E n))+1<=l.countP λy=>decide (gw S E y<gw S E x):=
    PR (hl n dn hn) (by simp;omega) (by simp) λy hy=>by grind
   omega
def Zd {K:Int}(hs:∀x k,S x k->0<=k/\k<=K)(he:∀x n c,E x n c->1<=c/\c<=254)(l:List α)(hl:∀x d,Wy S E x d->x∈l){x:α}{d:Int}(hw:Wy S E x d):gw S E x<=K+254*((l.length:Int)-1):=by
 have hs0:∀x k,S x k->0<=k:=λx k h=>(hs x k h).1;have he0:∀x n c,E x n c->0<=c:=λx n c h=>by grind
 have h1:=ale hs he l hl (gw S E x).toNat x d hw (by omega);have h2:(l.countP λy=>decide (gw S E y<gw S E x))+1<=l.countP λ_=>true:=PR (hl x d hw) rfl (by simp) λ_ _=>rfl;grind
end
section
variable {α:Type}{S:α->Int->Prop}{E:α->α->Int->Prop}{sec:α->Int}
def Wy.comp {E':α->α->Int->Prop}{x n:α}{c d:Int}(h:Wy (λy k=>y=n/\k=0) E' x c)(hE:∀x n c,E' x n c->E x n c)(hn:Wy S E n d):Wy S E x (d+c):=by
 induction h with
 |src h=>grind
 |go e _ ih=>rw[<-Int.add_assoc];exact .go (hE _ _ _ e) ih
def sR (E:α->α->Int->Prop)(sec:α->Int)(s:Int)(x n:α)(c:Int):Prop:=E x n c/\sec x=s/\sec n=s
def ES (n:α)(y:α)(k:Int):Prop:=y=n/\k=0
def JE (S:α->Int->Prop)(E:α->α->Int->Prop)(sec:α->Int)(N:α->Prop)(t:α)(x:α)(k:Int):Prop:=N x/\sec x=sec t/\(∃d,Wy S (sR E sec (sec t)) x d)/\k=gw S (sR E sec (sec t)) x
def Ia (E:α->α->Int->Prop)(sec:α->Int)(N:α->Prop)(x n:α)(c:Int):Prop:=
 N x/\N n/\(sec x=sec n/\x≠n/\(∃d,Wy (ES n) (sR E sec (sec n)) x d)/\c=gw (ES n) (sR E sec (sec n)) x\/sec x≠sec n/\E x n c)
def afF (S:α->Int->Prop)(E:α->α->Int->Prop)(sec:α->Int)(s:Int)(R:α->Int->Prop)(x:α)(k:Int):Prop:=sec x=s/\(S x k\/∃n c d,E x n c/\sec n≠s/\R n d/\k=d+c)
variable {N:α->Prop}{t:α}
def aqw {s:Int}:∀x n c,sR E sec s x n c->E x n c:=λ_ _ _ h=>h.1
def LP (hS:∀x k,S x k->x=t/\k=0)(hE:∀x n c,E x n c->0<=c)(hN:∀x n c,E x n c->sec x≠sec n->N x/\N n){x:α}{d:Int}(h:Wy (JE S E sec N t) (Ia E sec N) x d):Wy S E x d:=by
 have hs0:∀x k,S x k->0<=k:=λx k h=>by grind
 refine Wy.mono (λx k hs=>?_) (λx n c d he hn=>?_) h
 ·obtain⟨_,_,⟨e,he⟩,rfl⟩:=hs;exact Wy.mono (λx k h=>.src h) (λx n c d e h=>.go e.1 h) (qq hs0 (λx n c h=>hE x n c h.1) he).1
 ·obtain⟨_,_,⟨_,_,⟨e,hw⟩,rfl⟩|⟨_,he⟩⟩:=he
  ·have h1:=qq (λx k h=>by rw[h.2];grind) (λx n c h=>hE x n c h.1) hw;exact Wy.comp h1.1 aqw hn
  ·exact .go he hn
def alg (hS:∀x k,S x k->x=t/\k=0)(hE:∀x n c,E x n c->0<=c)(hN:∀x n c,E x n c->sec x≠sec n->N x/\N n){R:α->Int->Prop}(hR:∀n d,R n d->Wy S E n d){s:Int}{x:α}{d:Int}(h:Wy (afF S E sec s R) (sR E sec s) x d):Wy S E x d:=by
 refine Wy.mono (λx k hs=>?_) (λx n c d he hn=>.go he.1 hn) h;obtain⟨_,hs|⟨n,c,d,he,_,hr,rfl⟩⟩:=hs
 ·exact .src hs
 ·exact .go he (hR _ _ hr)
def air (hS:∀x k,S x k->x=t/\k=0)(hE:∀x n c,E x n c->0<=c)(hN:∀x n c,E x n c->sec x≠sec n->N x/\N n){n:α}(hn:N n){d:Int}(h:Wy (afF S E sec (sec n) (Wy (JE S E sec N t) (Ia E sec N))) (sR E sec (sec n)) n d):∃e,e<=d/\Wy (JE S E sec N t) (Ia E sec N) n e:=by
 have hs0:∀x k,S x k->0<=k:=λx k h=>by grind
 have key:∀{x:α} {d:Int},Wy (afF S E sec (sec n) (Wy (JE S E sec N t) (Ia E sec N))) (sR E sec (sec n)) x d->
   (∃k,Wy S (sR E sec (sec n)) x k/\sec t=sec n/\k<=d)\/∃y c z e k,Wy (ES y) (sR E sec (sec n)) x k/\sec y=sec n/\E y z c/\sec z≠sec n/\Wy (JE S E sec N t) (Ia E sec N) z e/\k+(e+c)<=d:=by
  intro x d hw;induction hw with
  |@src x k hs=>
   obtain⟨h1,h2|⟨z,c,e,h3,h4,h5,rfl⟩⟩:=hs
   ·exact .inl ⟨k,.src h2,by grind,Int.le_refl _⟩
   ·exact .inr ⟨x,c,z,e,0,.src ⟨rfl,rfl⟩,h1,h3,h4,h5,by omega⟩
  |@go x y c d e hy ih=>
   rcases ih with⟨k,h1,h2,h3⟩|⟨y',c',z,e',k,h1,h2,h3,h4,h5,h6⟩
   ·exact .inl ⟨k+c,.go e h1,h2,by omega⟩
   ·exact .inr ⟨y',c',z,e',k+c,.go e h1,h2,h3,h4,h5,by omega⟩
 rcases key h with⟨k,h1,h2,h3⟩|⟨y,c,z,e,k,h1,h2,h3,h4,h5,h6⟩
 ·rw[<-h2]at h1;have h4:=qq hs0 (λx n c h=>hE x n c h.1) h1;refine⟨_,?_,.src ⟨hn,h2.symm,⟨k,h1⟩,rfl⟩⟩;grind
 ·have hyz:=hN y z c h3 (by grind);by_cases e1:n=y
  ·subst e1;have ET:=mg (λx k h=>by rw[h.2];grind) (λx n c h=>hE x n c h.1) h1;exact⟨e+c,by omega,.go ⟨hn,hyz.2,.inr ⟨λe=>h4 e.symm,h3⟩⟩ h5⟩
  ·rw[<-h2]at h1;have h7:=qq (λx k h=>by rw[h.2];grind) (λx n c h=>hE x n c h.1) h1;have h8:=h7.2 _ h1;refine⟨(e+c)+gw (ES y) (sR E sec (sec y)) n,by omega,.go ⟨hn,hyz.1,.inl ⟨h2.symm,e1,⟨k,h1⟩,rfl⟩⟩ (.go ⟨hyz.1,hyz.2,.inr ⟨by grind,h3⟩⟩ h5)⟩
def afG (hS:∀x k,S x k->x=t/\k=0)(hE:∀x n c,E x n c->0<=c)(hN:∀x n c,E x n c->sec x≠sec n->N x/\N n){x:α}{d:Int}(h:Wy S E x d):∃e,e<=d/\Wy (afF S E sec (sec x) (Wy (JE S E sec N t) (Ia E sec N))) (sR E sec (sec x)) x e:=by
 induction h with
 |src h=>exact⟨_,Int.le_refl _,.src ⟨rfl,.inl h⟩⟩
 |@go x n c d e hn ih=>
  obtain⟨d',h1,h2⟩:=ih;by_cases hx:sec x=sec n
  ·rw[hx];exact⟨d'+c,by omega,.go ⟨e,hx,rfl⟩ h2⟩
  ·obtain⟨e',h3,h4⟩:=air hS hE hN (hN _ _ _ e hx).2 h2;exact⟨e'+c,by omega,.src ⟨rfl,.inr ⟨n,c,e',e,λh=>hx h.symm,h4,rfl⟩⟩⟩
def afH (hS:∀x k,S x k->x=t/\k=0)(hE:∀x n c,E x n c->0<=c)(hN:∀x n c,E x n c->sec x≠sec n->N x/\N n){x:α}(hx:N x){d:Int}(h:Wy S E x d):∃e,e<=d/\Wy (JE S E sec N t) (Ia E sec N) x e:=by obtain⟨e,h1,h2⟩:=afG hS hE hN h;obtain⟨e',h3,h4⟩:=air hS hE hN hx h2;grind
end
def Xq {α:Type}{S S':α->Int->Prop}{E E':α->α->Int->Prop}{x:α}(h0:∀d,Wy S E x d->0<=d)(h1:∀d,Wy S E x d->∃e,e<=d/\Wy S' E' x e)(h2:∀d,Wy S' E' x d->Wy S E x d):gw S' E' x=gw S E x:=by
 by_cases hx:∃d,Wy S E x d
 ·obtain⟨d,hd⟩:=hx;obtain⟨e,he1,he2⟩:=Ty h0 d.toNat d (by omega) hd;obtain⟨e',h3,h4⟩:=h1 e he1;have h5:=he2 _ (h2 _ h4);obtain rfl:e'=e:=by omega
  rw[JD h4 λd hd=>he2 _ (h2 _ hd),JD he1 he2]
 ·rw[wP λd hd=>hx ⟨d,hd⟩,wP λd hd=>hx ⟨d,h2 d hd⟩]
def aqx {α:Type}{S S':α->Int->Prop}{E:α->α->Int->Prop}{x:α}(h0:∀x k,S x k->0<=k)(hE:∀x n c,E x n c->0<=c)(h1:∀x k,S x k->∃k',k'<=k/\S' x k')(h2:∀x k,S' x k->S x k):gw S' E x=gw S E x:=by
 refine Xq (λd hd=>mg h0 hE hd) (λd hd=>?_) λd hd=>Wy.mono (λx k h=>.src (h2 x k h)) (λx n c d e h=>.go e h) hd;induction hd with
 |src h=>
  obtain⟨k',h3,h4⟩:=h1 _ _ h;exact⟨k',h3,.src h4⟩
 |@go x n c d e _ ih=>
  obtain⟨e',h3,h4⟩:=ih;exact⟨e'+c,by omega,.go e h4⟩
end Go.Proofs.YtmegplnmiepfbaaGreatDoor.S
namespace Go.Sx
abbrev OA:=Option Addr
abbrev ON:=Option Nat
abbrev WP:=World->Prop
abbrev L3 (R:Type):=Option Addr->Nat->Nat->R
inductive Kd where
 |i (k:IntKind)|b|s|p|a|l|m|v|w|f (g:Nat)|g (ks:List IntKind)
def KG:List IntKind->Type->Type
 |[],R=>R
 |_::ks,R=>Int->KG ks R
def KA:Kd->Type->Type
 |.i _,R=>Int->R
 |.b,R=>Bool->R
 |.s,R=>ByteArray->R
 |.p,R=>Option Addr->R
 |.a,R=>Addr->R
 |.l,R=>Option Addr->Nat->Nat->R
 |.m,R=>Option Nat->R
 |.v,R=>Value->R
 |.w,R=>Value->R
 |.f _,R=>R
 |.g ks,R=>KG ks R
def KF:List (Nat×Kd)->Type->Type
 |[],R=>R
 |q::l,R=>KA q.2 (KF l R)
abbrev KP (l:List (Nat×Kd)):Type:=KF l (World->Prop)
def rdG {R:Type}:(ks:List IntKind)->KG ks R->List Value->(R->Prop)->Prop
 |[],K,l,c=>ko l (c K)
 |k::ks,K,l,c=>dg l λv r=>dI k v λx=>rdG ks (K x) r c
def rdA {R:Type}(v:Value):(k:Kd)->KA k R->(R->Prop)->Prop
 |.i k,K,c=>dI k v λx=>c (K x)
 |.b,K,c=>dB v λx=>c (K x)
 |.s,K,c=>Xc v λx=>c (K x)
 |.p,K,c=>dP v λx=>c (K x)
 |.a,K,c=>dP v λx=>wA x λx=>c (K x)
 |.l,K,c=>dS v λa n d=>c (K a n d)
 |.m,K,c=>dM v λx=>c (K x)
 |.v,K,c=>c (K v)
 |.w,K,c=>dV v λx=>c (K x)
 |.f g,K,c=>dF g v (c K)
 |.g ks,K,c=>dL v λl=>rdG ks K l c
inductive Ke where|o (k:Kd)|g (ks:List Kd)
def KS:List Kd->Type->Type
 |[],R=>R
 |k::ks,R=>KA k (KS ks R)
def KE:Ke->Type->Type
 |.o k,R=>KA k R
 |.g ks,R=>KS ks R
def KL:List Ke->Type->Type
 |[],R=>R
 |k::ks,R=>KE k (KL ks R)
def rdS {R:Type}:(ks:List Kd)->KS ks R->List Value->(R->Prop)->Prop
 |[],K,l,c=>ko l (c K)
 |k::ks,K,l,c=>dg l λv r=>rdA v k K λK'=>rdS ks K' r c
def rdE {R:Type}(v:Value):(k:Ke)->KE k R->(R->Prop)->Prop
 |.o k,K,c=>rdA v k K c
 |.g ks,K,c=>dL v λl=>rdS ks K l c
def rdL {R:Type}:(ks:List Ke)->KL ks R->List Value->(R->Prop)->Prop
 |[],K,l,c=>ko l (c K)
 |k::ks,K,l,c=>dg l λv r=>rdE v k K λK'=>rdL ks K' r c
def bD (k:Ke)(Q:KE k WP)(v:Value)(w:World):Prop:=rdE v k Q λK=>K w
def fR (ks:List Ke)(Q:KL ks WP)(v:Value)(w:World):Prop:=dT v λl=>rdL ks Q l λK=>K w
def rdK:(l:List (Nat×Kd))->KP l->Env->World->Prop
 |[],K,_,w=>K w
 |q::l,K,ρ,w=>rdA (ρ q.1) q.2 K λK'=>rdK l K' ρ w
def anP {R:Type}:(ks:List IntKind)->List Value->(List Value->R)->KG ks R
 |[],p,c=>c p
 |k::ks,p,c=>λx=>anP ks (p++[.int k x]) c
def arK {R:Type}:(k:Kd)->(Value->R)->KA k R
 |.i k,c=>λx=>c (.int k x)
 |.b,c=>λx=>c (.bool x)
 |.s,c=>λx=>c (.string x)
 |.p,c=>λx=>c (.pointer x)
 |.a,c=>λx=>c (.pointer (some x))
 |.l,c=>λa n d=>c (.slice a n d)
 |.m,c=>λx=>c (.map x)
 |.v,c=>λx=>c x
 |.w,c=>λx=>c x
 |.f g,c=>c (.func (.func g) #[] #[])
 |.g ks,c=>anP ks [] λl=>c (.agg l.toArray)
def ajm:(l:List (Nat×Kd))->Env->(Env->World->Prop)->KP l
 |[],ρ,E=>E ρ
 |q::l,ρ,E=>arK q.2 λv=>ajm l (put ρ (some q.1) v) E
def ais {R:Type}{c:R->Prop}{f:List Value->R}:∀{ks:List IntKind} {p l:List Value},rdG ks (anP ks p f) l c->c (f (p++l))
 |[],p,l,h=>by obtain⟨rfl,h⟩:=qP h;rw[List.append_nil];exact h
 |k::ks,p,l,h=>by obtain⟨v,r,rfl,h⟩:=jq h;obtain⟨x,rfl,h'⟩:=BO h;have:=ais h';simpa using this
def aqz {R:Type}{c:R->Prop}{f:Value->R}{v:Value}:∀{k:Kd},rdA v k (arK k f) c->c (f v)
 |.i k,h=>by obtain⟨x,rfl,h'⟩:=BO h;exact h'
 |.b,h=>by obtain⟨x,rfl,h⟩:=Gf h;exact h
 |.s,h=>by obtain⟨x,rfl,h⟩:=Hi h;exact h
 |.p,h=>by obtain⟨x,rfl,h⟩:=Gg h;exact h
 |.a,h=>by obtain⟨x,rfl,h⟩:=Gg h;obtain⟨y,rfl,h⟩:=tV h;exact h
 |.l,h=>by obtain⟨a,n,d,rfl,h⟩:=xM h;exact h
 |.m,h=>by obtain⟨x,rfl,h⟩:=Gh h;exact h
 |.v,h=>h
 |.w,h=>(aa0 (v:=v) (K:=λx=>c (f x)) h).2
 |.f g,h=>by obtain⟨rfl,h'⟩:=aql h;exact h'
 |.g ks,h=>by obtain⟨l,rfl,h'⟩:=aib (K:=λl=>rdG ks _ l c) h;exact ais (p:=[]) h'
def aa9 {w:World}{E:Env->World->Prop}{ρ:Env}:∀{l:List (Nat×Kd)},rdK l (ajm l ρ E) ρ w->E ρ w
 |[],h=>h
 |q::l,h=>by have h:=aqz h;rw[arC rfl]at h;exact aa9 h
def afI (C:Cx)(fn:Func)(K:Value->World->Prop):Env->World->Prop:=λρ w=>LM C fn.results.toList ρ w λvs=>K (afk vs) w
structure Tz (C:Cx) (fn:Func) (R:Env->World->Prop) where
 j:Nat
 q:Env->World->Prop
 h:∀ρ w,q ρ w->Fin C (A0 fn j) ρ w R
section
variable {C:Cx}{fn:Func}{R:Env->World->Prop}{l:List (Nat×Kd)}{j:Nat}
def r_:List (Tz C fn R)->Xe
 |[]=>[]
 |c::cs=>(c.j,c.q)::r_ cs
def afJ:∀cs:List (Tz C fn R),anC C fn R (r_ cs)
 |[]=>trivial
 |c::cs=>⟨c.h,afJ cs⟩
abbrev Xr (C:Cx)(fn:Func)(R:Env->World->Prop)(j:Nat)(l:List (Nat×Kd))(B:KP l):Prop:=∀ρ w,rdK l B ρ w->Fin C (A0 fn j) ρ w R
def aO {B:KP l}(h:Xr C fn R j l B):Tz C fn R:=⟨j,rdK l B,h⟩
def b9 {B:Nat->KP l}(h:∀k,Xr C fn R j l (B k)):Tz C fn R:=⟨j,λρ w=>∃k,rdK l (B k) ρ w,λρ w ⟨k,h'⟩=>h k ρ w h'⟩
def ali {cs:List (Tz C fn R)}{todo:List Item}(h:leaves ((r_ cs).map (·.1)) 600 true todo=(leaves ((r_ cs).map (·.1)) 600 true todo).map λp=>(p.1,A0 fn p.1)):∀p∈leaves ((r_ cs).map (·.1)) 600 true todo,∀q,cutAt (r_ cs) p.1=some q->∀ρ w,q ρ w->Fin C p.2 ρ w R:=
 aqk ((leaves ((r_ cs).map (·.1)) 600 true todo).map (·.1)) (by rw[List.map_map];exact h) (afJ cs)
def aV (hC:l_ C)(S:ck)(cs:List (Tz C fn R)){B:KP l}(hl:leaves ((r_ cs).map (·.1)) 600 true (A0 fn j)=(leaves ((r_ cs).map (·.1)) 600 true (A0 fn j)).map λp=>(p.1,A0 fn p.1):=by kernel_rfl)(hb:∀ρ,B=ajm l ρ (F1 C (r_ cs) R (Y6 C S) 600 true (A0 fn j)):=by intro _;kernel_rfl):Xr C fn R j l B:=λρ w h=>by rw[hb ρ]at h;exact acU hC (WJ hC S) 600 (ali hl) (aa9 h)
def bH {B:Nat->KP l}(hs:∀k,Xr C fn R j l (B k)->Xr C fn R j l (B (k+1)))(h0:∀ρ,B 0=ajm l ρ λ_ _=>False:=by intro _;kernel_rfl):∀k,Xr C fn R j l (B k)
 |0=>λρ w h=>by rw[h0 ρ]at h;exact(aa9 h).elim
 |k+1=>hs k (bH hs h0 k)
def atq (hC:l_ C)(S:ck){f:FuncId}{args:List Value}{w:World}{K:Value->World->Prop}{sh:Prop}(cs:List (Tz C fn (afI C fn K)))(hf:C.P.funcs[f]? =some fn)(h:sh)
  (hn:(fn.body.isSome&&(Nat.beq fn.ntmps C.n&&Nat.ble args.length C.n))=true:=by kernel_rfl)(hl:leaves ((r_ cs).map (·.1)) 600 true (EK fn)=(leaves ((r_ cs).map (·.1)) 600 true (EK fn)).map λp=>(p.1,A0 fn p.1):=by kernel_rfl)(he:sh=F1 C (r_ cs) (afI C fn K) (Y6 C S) 600 true (EK fn) (Nl args) w:=by kernel_rfl):aq C.P f args.toArray w K:=by
 simp only[Bool.and_eq_true]at hn;rw[he]at h;exact aqj hC hf hn.1 hn.2.1 hn.2.2 (acU hC (WJ hC S) 600 (ali hl) h)
def bB (c sh:Prop)(hC:l_ C)(S:ck){f:FuncId}{args:List Value}{w:World}{K:Value->World->Prop}(cs:List (Tz C fn (afI C fn K)))(hf:C.P.funcs[f]? =some fn)(hc:aq C.P f args.toArray w K=c:=by rfl)
 (hn:(fn.body.isSome&&(Nat.beq fn.ntmps C.n&&Nat.ble args.length C.n))=true:=by kernel_rfl)(hl:leaves ((r_ cs).map (·.1)) 600 true (EK fn)=(leaves ((r_ cs).map (·.1)) 600 true (EK fn)).map λp=>(p.1,A0 fn p.1):=by kernel_rfl)(he:sh=F1 C (r_ cs) (afI C fn K) (Y6 C S) 600 true (EK fn) (Nl args) w:=by kernel_rfl):sh->c:=λh=>hc▸atq hC S cs hf h hn hl he
end
def sp:Nat->Nat->IG->IG
 |_,0,x=>x
 |a,n+1,x=>.op a (sp (a+1) n x)
abbrev ae (x:Int):Value:=.int .i64 x
abbrev aZ (b:Nat):Addr:=⟨b,0,none⟩
abbrev sZ (b:Nat):Option Addr:=some ⟨b,0,none⟩
end Go.Sx
set_option maxRecDepth 100000
namespace Go.Proofs.YtmegplnmiepfbaaGreatDoor.S
open Go.Sx
noncomputable abbrev P:Program:=Go.Proofs.Tryz.prog
noncomputable def rows:List (Nat×TI):=[(0,⟨.t_ [],1,0,[.tuple #[]],[]⟩),
 (2,⟨.int .i64,1,8,[.int .i64 0],[.int .i64]⟩),
 (3,⟨.int .i64,1,8,[.int .i64 0],[.int .i64]⟩),
 (4,⟨.bool,1,1,[.bool false],[.bool]⟩),
 (5,⟨.int .u8,1,1,[.int .u8 0],[.int .u8]⟩),
 (9,⟨.str,1,16,[.string .empty],[.str]⟩),
 (17,⟨.ptr,1,8,[.pointer none],[.ptr]⟩),
 (20,⟨.iface,1,16,[.nilIface],[.any]⟩),
 (21,⟨.int .i32,1,4,[.int .i32 0],[.int .i32]⟩),
 (22,⟨.slice 5,1,24,[.slice none 0 0],[.sl]⟩),
 (25,⟨.struct [(0,3),(1,3),(2,22)],3,40,[.int .i64 0,.int .i64 0,.slice none 0 0],[.int .i64,.int .i64,.sl]⟩),
 (26,⟨.ptr,1,8,[.pointer none],[.ptr]⟩),
 (28,⟨.slice 51,1,24,[.slice none 0 0],[.sl]⟩),
 (29,⟨.slice 3,1,24,[.slice none 0 0],[.sl]⟩),
 (30,⟨.int .u64,1,8,[.int .u64 0],[.int .u64]⟩),
 (32,⟨.struct [(0,30),(1,30),(2,30),(3,30),(4,30),(5,30)],6,48,[.int .u64 0,.int .u64 0,.int .u64 0,.int .u64 0,.int .u64 0,.int .u64 0],[.int .u64,.int .u64,.int .u64,.int .u64,.int .u64,.int .u64]⟩),
 (34,⟨.struct [(0,3),(1,3),(2,3),(3,3),(4,28),(5,29),(6,32)],12,128,[.int .i64 0,.int .i64 0,.int .i64 0,.int .i64 0,.slice none 0 0,.slice none 0 0,.int .u64 0,.int .u64 0,.int .u64 0,.int .u64 0,.int .u64 0,.int .u64 0],[.int .i64,.int .i64,.int .i64,.int .i64,.sl,.sl,.int .u64,.int .u64,.int .u64,.int .u64,.int .u64,.int .u64]⟩),
 (38,⟨.struct [(0,3),(1,3),(2,3),(3,22)],4,48,[.int .i64 0,.int .i64 0,.int .i64 0,.slice none 0 0],[.int .i64,.int .i64,.int .i64,.sl]⟩),
 (39,⟨.slice 43,1,24,[.slice none 0 0],[.sl]⟩),
 (43,⟨.struct [(0,3),(1,3),(2,3)],3,24,[.int .i64 0,.int .i64 0,.int .i64 0],[.int .i64,.int .i64,.int .i64]⟩),
 (45,⟨.slice 90,1,24,[.slice none 0 0],[.sl]⟩),
 (46,⟨.slice 38,1,24,[.slice none 0 0],[.sl]⟩),
 (49,⟨.slice 4,1,24,[.slice none 0 0],[.sl]⟩),
 (51,⟨.struct [(0,3),(1,3)],2,16,[.int .i64 0,.int .i64 0],[.int .i64,.int .i64]⟩),
 (55,⟨.t_ [3,3,4],1,0,[.tuple #[.int .i64 0,.int .i64 0,.bool false]],[]⟩),
 (64,⟨.slice 34,1,24,[.slice none 0 0],[.sl]⟩),
 (68,⟨.ptr,1,8,[.pointer none],[.ptr]⟩),
 (70,⟨.ptr,1,8,[.pointer none],[.ptr]⟩),
 (72,⟨.struct [(0,3),(1,68),(2,70)],3,24,[.int .i64 0,.pointer none,.pointer none],[.int .i64,.ptr,.ptr]⟩),
 (74,⟨.iface,1,16,[.nilIface],[.any]⟩),
 (76,⟨.ptr,1,8,[.pointer none],[.ptr]⟩),
 (78,⟨.ptr,1,8,[.pointer none],[.ptr]⟩),
 (80,⟨.struct [(0,3),(1,74)],2,24,[.int .i64 0,.nilIface],[.int .i64,.any]⟩),
 (81,⟨.int .u64,1,8,[.int .u64 0],[.int .u64]⟩),
 (82,⟨.t_ [3,22],1,0,[.tuple #[.int .i64 0,.slice none 0 0]],[]⟩),
 (84,⟨.struct [(0,3),(1,3),(2,22)],3,40,[.int .i64 0,.int .i64 0,.slice none 0 0],[.int .i64,.int .i64,.sl]⟩),
 (90,⟨.struct [(0,3),(1,3),(2,3)],3,24,[.int .i64 0,.int .i64 0,.int .i64 0],[.int .i64,.int .i64,.int .i64]⟩),
 (95,⟨.t_ [3,3],1,0,[.tuple #[.int .i64 0,.int .i64 0]],[]⟩),
 (100,⟨.ptr,1,8,[.pointer none],[.ptr]⟩),
 (102,⟨.ptr,1,8,[.pointer none],[.ptr]⟩),
 (103,⟨.ptr,1,8,[.pointer none],[.ptr]⟩),
 (104,⟨.ptr,1,8,[.pointer none],[.ptr]⟩),
 (106,⟨.struct [(0,102),(1,103),(2,104),(3,100),(4,32)],10,80,[.pointer none,.pointer none,.pointer none,.pointer none,.int .u64 0,.int .u64 0,.int .u64 0,.int .u64 0,.int .u64 0,.int .u64 0],[.ptr,.ptr,.ptr,.ptr,.int .u64,.int .u64,.int .u64,.int .u64,.int .u64,.int .u64]⟩),
 (108,⟨.int .i64,1,8,[.int .i64 0],[.int .i64]⟩),
 (112,⟨.t_ [3,74],1,0,[.tuple #[.int .i64 0,.nilIface]],[]⟩),
 (120,⟨.ptr,1,8,[.pointer none],[.ptr]⟩),
 (122,⟨.ptr,1,8,[.pointer none],[.ptr]⟩),
 (123,⟨.ptr,1,8,[.pointer none],[.ptr]⟩),
 (125,⟨.struct [(0,3),(1,3),(2,3),(3,122),(4,123)],5,40,[.int .i64 0,.int .i64 0,.int .i64 0,.pointer none,.pointer none],[.int .i64,.int .i64,.int .i64,.ptr,.ptr]⟩),
 (131,⟨.ptr,1,8,[.pointer none],[.ptr]⟩),
 (133,⟨.slice 303,1,24,[.slice none 0 0],[.sl]⟩),
 (135,⟨.struct [(0,131),(1,133),(2,32)],8,80,[.pointer none,.slice none 0 0,.int .u64 0,.int .u64 0,.int .u64 0,.int .u64 0,.int .u64 0,.int .u64 0],[.ptr,.sl,.int .u64,.int .u64,.int .u64,.int .u64,.int .u64,.int .u64]⟩),
 (137,⟨.struct [(0,3),(1,3),(2,4)],3,24,[.int .i64 0,.int .i64 0,.bool false],[.int .i64,.int .i64,.bool]⟩),
 (138,⟨.t_ [137,4],1,0,[.tuple #[.agg #[.int .i64 0,.int .i64 0,.bool false],.bool false]],[]⟩),
 (140,⟨.t_ [25,3],1,0,[.tuple #[.agg #[.int .i64 0,.int .i64 0,.slice none 0 0],.int .i64 0]],[]⟩),
 (144,⟨.t_ [43,4],1,0,[.tuple #[.agg #[.int .i64 0,.int .i64 0,.int .i64 0],.bool false]],[]⟩),
 (146,⟨.func,1,8,[.nilFunc],[.any]⟩),
 (148,⟨.t_ [3,3,3],1,0,[.tuple #[.int .i64 0,.int .i64 0,.int .i64 0]],[]⟩),
 (150,⟨.t_ [29,74],1,0,[.tuple #[.slice none 0 0,.nilIface]],[]⟩),
 (152,⟨.t_ [28,29,3],1,0,[.tuple #[.slice none 0 0,.slice none 0 0,.int .i64 0]],[]⟩),
 (155,⟨.iface,1,16,[.nilIface],[.any]⟩),
 (158,⟨.other,1,8,[.pointer none],[.ptr]⟩),
 (159,⟨.int .u64,1,8,[.int .u64 0],[.int .u64]⟩),
 (161,⟨.struct [(0,17),(1,158),(2,159)],3,24,[.pointer none,.pointer none,.int .u64 0],[.ptr,.ptr,.int .u64]⟩),
 (164,⟨.int .u8,1,1,[.int .u8 0],[.int .u8]⟩),
 (169,⟨.map,1,8,[.map none],[.map]⟩),
 (171,⟨.struct [(0,3),(1,3),(2,169),(3,29)],4,48,[.int .i64 0,.int .i64 0,.map none,.slice none 0 0],[.int .i64,.int .i64,.map,.sl]⟩),
 (172,⟨.slice 2,1,24,[.slice none 0 0],[.sl]⟩),
 (174,⟨.struct [(0,25),(3,2),(4,172)],5,72,[.int .i64 0,.int .i64 0,.slice none 0 0,.int .i64 0,.slice none 0 0],[.int .i64,.int .i64,.sl,.int .i64,.sl]⟩),
 (175,⟨.arr 6 30,6,48,[.int .u64 0,.int .u64 0,.int .u64 0,.int .u64 0,.int .u64 0,.int .u64 0],[.int .u64,.int .u64,.int .u64,.int .u64,.int .u64,.int .u64]⟩),
 (179,⟨.slice 334,1,24,[.slice none 0 0],[.sl]⟩),
 (180,⟨.map,1,8,[.map none],[.map]⟩),
 (182,⟨.struct [(0,3),(1,179),(2,180),(3,3),(4,3)],5,56,[.int .i64 0,.slice none 0 0,.map none,.int .i64 0,.int .i64 0],[.int .i64,.sl,.map,.int .i64,.int .i64]⟩),
 (183,⟨.t_ [38,3],1,0,[.tuple #[.agg #[.int .i64 0,.int .i64 0,.int .i64 0,.slice none 0 0],.int .i64 0]],[]⟩),
 (185,⟨.t_ [25,74],1,0,[.tuple #[.agg #[.int .i64 0,.int .i64 0,.slice none 0 0],.nilIface]],[]⟩),
 (187,⟨.int .i64,1,8,[.int .i64 0],[.int .i64]⟩),
 (188,⟨.ptr,1,8,[.pointer none],[.ptr]⟩),
 (195,⟨.ptr,1,8,[.pointer none],[.ptr]⟩),
 (197,⟨.struct [(0,103),(1,102),(2,195),(3,30)],4,32,[.pointer none,.pointer none,.pointer none,.int .u64 0],[.ptr,.ptr,.ptr,.int .u64]⟩),
 (198,⟨.t_ [3,4],1,0,[.tuple #[.int .i64 0,.bool false]],[]⟩),
 (202,⟨.ptr,1,8,[.pointer none],[.ptr]⟩),
 (203,⟨.func,1,8,[.nilFunc],[.any]⟩),
 (204,⟨.t_ [3,3,74],1,0,[.tuple #[.int .i64 0,.int .i64 0,.nilIface]],[]⟩),
 (207,⟨.map,1,8,[.map none],[.map]⟩),
 (208,⟨.slice 211,1,24,[.slice none 0 0],[.sl]⟩),
 (211,⟨.struct [(0,3),(1,3),(2,29)],3,40,[.int .i64 0,.int .i64 0,.slice none 0 0],[.int .i64,.int .i64,.sl]⟩),
 (213,⟨.struct [(0,29),(1,29)],2,48,[.slice none 0 0,.slice none 0 0],[.sl,.sl]⟩),
 (214,⟨.t_ [213,3],1,0,[.tuple #[.agg #[.slice none 0 0,.slice none 0 0],.int .i64 0]],[]⟩),
 (216,⟨.t_ [39,28,29,3],1,0,[.tuple #[.slice none 0 0,.slice none 0 0,.slice none 0 0,.int .i64 0]],[]⟩),
 (221,⟨.iface,1,16,[.nilIface],[.any]⟩),
 (224,⟨.iface,1,16,[.nilIface],[.any]⟩),
 (226,⟨.iface,1,16,[.nilIface],[.any]⟩),
 (227,⟨.slice 74,1,24,[.slice none 0 0],[.sl]⟩),
 (231,⟨.iface,1,16,[.nilIface],[.any]⟩),
 (234,⟨.slice 319,1,24,[.slice none 0 0],[.sl]⟩),
 (236,⟨.struct [(0,102),(1,234),(2,2),(3,30)],4,48,[.pointer none,.slice none 0 0,.int .i64 0,.int .u64 0],[.ptr,.sl,.int .i64,.int .u64]⟩),
 (238,⟨.t_ [84,3,3],1,0,[.tuple #[.agg #[.int .i64 0,.int .i64 0,.slice none 0 0],.int .i64 0,.int .i64 0]],[]⟩),
 (240,⟨.ptr,1,8,[.pointer none],[.ptr]⟩),
 (242,⟨.struct [(0,3),(1,74)],2,24,[.int .i64 0,.nilIface],[.int .i64,.any]⟩),
 (245,⟨.slice 248,1,24,[.slice none 0 0],[.sl]⟩),
 (247,⟨.struct [(0,245),(1,3)],2,32,[.slice none 0 0,.int .i64 0],[.sl,.int .i64]⟩),
 (248,⟨.int .u32,1,4,[.int .u32 0],[.int .u32]⟩),
 (249,⟨.t_ [213,74],1,0,[.tuple #[.agg #[.slice none 0 0,.slice none 0 0],.nilIface]],[]⟩),
 (253,⟨.arr 2 3,2,16,[.int .i64 0,.int .i64 0],[.int .i64,.int .i64]⟩),
 (257,⟨.ptr,1,8,[.pointer none],[.ptr]⟩),
 (258,⟨.map,1,8,[.map none],[.map]⟩),
 (260,⟨.struct [(0,3),(1,3),(2,258),(3,28),(4,29)],5,72,[.int .i64 0,.int .i64 0,.map none,.slice none 0 0,.slice none 0 0],[.int .i64,.int .i64,.map,.sl,.sl]⟩),
 (263,⟨.ptr,1,8,[.pointer none],[.ptr]⟩),
 (265,⟨.struct [(0,22),(1,3)],2,32,[.slice none 0 0,.int .i64 0],[.sl,.int .i64]⟩),
 (266,⟨.t_ [84,74],1,0,[.tuple #[.agg #[.int .i64 0,.int .i64 0,.slice none 0 0],.nilIface]],[]⟩),
 (268,⟨.ptr,1,8,[.pointer none],[.ptr]⟩),
 (269,⟨.ptr,1,8,[.pointer none],[.ptr]⟩),
 (271,⟨.struct [(0,3),(1,3),(2,74)],3,32,[.int .i64 0,.int .i64 0,.nilIface],[.int .i64,.int .i64,.any]⟩),
 (273,⟨.ptr,1,8,[.pointer none],[.ptr]⟩),
 (275,⟨.struct [(0,3),(1,74)],2,24,[.int .i64 0,.nilIface],[.int .i64,.any]⟩),
 (276,⟨.t_ [84,4],1,0,[.tuple #[.agg #[.int .i64 0,.int .i64 0,.slice none 0 0],.bool false]],[]⟩),
 (278,⟨.slice 294,1,24,[.slice none 0 0],[.sl]⟩),
 (284,⟨.t_ [22,74],1,0,[.tuple #[.slice none 0 0,.nilIface]],[]⟩),
 (286,⟨.t_ [22,3],1,0,[.tuple #[.slice none 0 0,.int .i64 0]],[]⟩),
 (289,⟨.slice 292,1,24,[.slice none 0 0],[.sl]⟩),
 (292,⟨.struct [(0,3),(1,3)],2,16,[.int .i64 0,.int .i64 0],[.int .i64,.int .i64]⟩),
 (294,⟨.struct [(0,3),(1,3),(2,3)],3,24,[.int .i64 0,.int .i64 0,.int .i64 0],[.int .i64,.int .i64,.int .i64]⟩),
 (296,⟨.slice 21,1,24,[.slice none 0 0],[.sl]⟩),
 (298,⟨.struct [(0,3),(1,2),(2,296)],3,40,[.int .i64 0,.int .i64 0,.slice none 0 0],[.int .i64,.int .i64,.sl]⟩),
 (300,⟨.t_ [3,4,4],1,0,[.tuple #[.int .i64 0,.bool false,.bool false]],[]⟩),
 (303,⟨.struct [(0,2),(1,278),(2,213)],4,80,[.int .i64 0,.slice none 0 0,.slice none 0 0,.slice none 0 0],[.int .i64,.sl,.sl,.sl]⟩),
 (307,⟨.ptr,1,8,[.pointer none],[.ptr]⟩),
 (314,⟨.arr 4 3,4,32,[.int .i64 0,.int .i64 0,.int .i64 0,.int .i64 0],[.int .i64,.int .i64,.int .i64,.int .i64]⟩),
 (317,⟨.func,1,8,[.nilFunc],[.any]⟩),
 (319,⟨.struct [(0,2),(1,29),(2,296)],3,56,[.int .i64 0,.slice none 0 0,.slice none 0 0],[.int .i64,.sl,.sl]⟩),
 (322,⟨.ptr,1,8,[.pointer none],[.ptr]⟩),
 (331,⟨.func,1,8,[.nilFunc],[.any]⟩),
 (334,⟨.struct [(0,253),(2,3),(3,3)],4,32,[.int .i64 0,.int .i64 0,.int .i64 0,.int .i64 0],[.int .i64,.int .i64,.int .i64,.int .i64]⟩),
 (336,⟨.t_ [29,3],1,0,[.tuple #[.slice none 0 0,.int .i64 0]],[]⟩),
 (338,⟨.ptr,1,8,[.pointer none],[.ptr]⟩),
 (340,⟨.struct [(0,84),(3,278),(4,29)],5,88,[.int .i64 0,.int .i64 0,.slice none 0 0,.slice none 0 0,.slice none 0 0],[.int .i64,.int .i64,.sl,.sl,.sl]⟩),
 (341,⟨.t_ [81,81],1,0,[.tuple #[.int .u64 0,.int .u64 0]],[]⟩),
 (349,⟨.slice 353,1,24,[.slice none 0 0],[.sl]⟩),
 (351,⟨.struct [(0,349)],1,24,[.slice none 0 0],[.sl]⟩),
 (353,⟨.struct [(0,3),(1,3)],2,16,[.int .i64 0,.int .i64 0],[.int .i64,.int .i64]⟩),
 (354,⟨.ptr,1,8,[.pointer none],[.ptr]⟩),
 (355,⟨.t_ [354,3,4],1,0,[.tuple #[.pointer none,.int .i64 0,.bool false]],[]⟩),
 (358,⟨.ptr,1,8,[.pointer none],[.ptr]⟩),
 (359,⟨.ptr,1,8,[.pointer none],[.ptr]⟩),
 (363,⟨.struct [(0,84),(3,359),(4,278),(5,29)],6,96,[.int .i64 0,.int .i64 0,.slice none 0 0,.pointer none,.slice none 0 0,.slice none 0 0],[.int .i64,.int .i64,.sl,.ptr,.sl,.sl]⟩),
 (367,⟨.t_ [30,30],1,0,[.tuple #[.int .u64 0,.int .u64 0]],[]⟩),
 (370,⟨.func,1,8,[.nilFunc],[.any]⟩),
 (372,⟨.int .i64,1,8,[.int .i64 0],[.int .i64]⟩),
 (373,⟨.t_ [3,372],1,0,[.tuple #[.int .i64 0,.int .i64 0]],[]⟩),
 (385,⟨.struct [(0,29),(1,3)],2,32,[.slice none 0 0,.int .i64 0],[.sl,.int .i64]⟩),
 (386,⟨.arr 256 385,512,8192,([]++(List.replicate 256 [.slice none 0 0,.int .i64 0]).flatten),([]++(List.replicate 256 [.sl,.int .i64]).flatten)⟩),
 (388,⟨.struct [(0,3),(1,3),(2,386)],514,8208,([.int .i64 0,.int .i64 0]++(List.replicate 256 [.slice none 0 0,.int .i64 0]).flatten),([.int .i64,.int .i64]++(List.replicate 256 [.sl,.int .i64]).flatten)⟩),
 (390,⟨.int .u64,1,8,[.int .u64 0],[.int .u64]⟩),
 (393,⟨.ptr,1,8,[.pointer none],[.ptr]⟩),
 (397,⟨.ptr,1,8,[.pointer none],[.ptr]⟩),
 (400,⟨.ptr,1,8,[.pointer none],[.ptr]⟩)]
noncomputable def T:tR:=YZ rows
noncomputable def fns:List Nat:=[3,4,5,6,7,8,9,10,11,12,13,14,15,16,17,18,19,20,21,22,23,24,25,26,27,28,29,30,31,32,33,34,35,36,37,38,39,40,41,42,43,44,45,46,47,48,49,50,51,52,53,54,55,56,57,58,59,60,61,62,63,64,65,66,67,68,69,70,71,72,73,74,75,76,77,78,79,80,81,82,83,84,85,86,87,88,89,90,91,92,93,94,96,100,101,102,103,104,105,106,107,108,109,110,111,112,113,114,115,116,117,118,119,120,121,122,123,124,125,126,127,128,129,130,131,132,133,134,135,136,137,140,141,142,143,144,145,146,147,148,149,150,151,152,153,154,155,156,157,158,159,160,161,162,163,164,165,166,167,168,169,170,171,172,173,174,175,176,177,178,179,180,181,182,183,184,185,186,187,188,189,190,191,192,193,194,195,196,197,198,199,200,201,202,203,204,205,206,207,208,209,210,211,212,213,214,215,216,217,218,220,221,222,223,224,225,226,227,228,229,230,231,232,233,234,235,236,237,238,240,241,242,243,244,245,246,247,248,249,250,252,253,254,255,256,257,258,259,260,261,262,263,264,265,266,267,268,269,270,271,272,273,274,275,276,277,278,279,280,281,282,302,321,323,325]
noncomputable def cx (n:Nat):Cx:=⟨P,T,λf=>oB f fns,n⟩
def Gn:rows.map (λp=>S9 P p.1)=rows.map (λp=>some (p.2.d,p.2.size,p.2.bytes,p.2.zero)):=by kernel_rfl
def arL:ajj P fns=true:=by kernel_rfl
def anQ:P.follows .mixedOrders=true:=by kernel_rfl
def ok (n:Nat):l_ (cx n):=aqm Gn arL anQ n
abbrev Bk (n:Nat)(fn:Func)(K:Value->World->Prop)(j:Nat)(l:List (Nat×Kd))(B:KP l):Prop:=Xr (cx n) fn (afI (cx n) fn K) j l B
def qT:=bD (.o .b)
def xm:=λb c d e f g w (Q:Bool->WP)=>aq P 3 #[ae b,.slice c d e,ae f,.bool g] w (qT Q)
def K5:=bD (.o (.i .i64))
def je:=λb c d w (Q:Int->WP)=>aq P 10 #[ae b,ae c,ae d] w (K5 Q)
def ahG:=bD (.o .p)
def Dl:=λb c w (Q:OA->WP)=>aq P 11 #[ae b,ae c] w (ahG Q)
def Hw:=bD (.g [.i .i64,.i .i64,.i .i64,.i .i64,.l,.l,.i .u64,.i .u64,.i .u64,.i .u64,.i .u64,.i .u64])
def fA:=λb c d e f g i w (Q:Int->Int->Int->Int->L3 (L3 (Int->Int->Int->Int->Int->Int->WP)))=>aq P 12 #[.pointer b,.agg #[ae c,ae d,ae e,.slice f g i]] w (Hw Q)
def Cp:=bD (.o .l)
def ox:=λb c d e f w (Q:L3 WP)=>aq P 13 #[.agg #[ae b,ae c,.slice d e f]] w (Cp Q)
def NB:=bD (.o .l)
def pP:=λb w (Q:L3 WP)=>aq P 14 #[.pointer b] w (NB Q)
def NC:=bD (.o .b)
def vl:=λw (Q:Bool->WP)=>aq P 15 #[] w (NC Q)
def BU:=bD (.o (.i .i64))
def nG:=λb c d e w (Q:Int->WP)=>aq P 21 #[ae b,ae c,ae d,ae e] w (BU Q)
def ND:=bD (.g [.i .u64,.i .u64,.i .u64,.i .u64,.i .u64,.i .u64])
def vm:=λb w (Q:Int->Int->Int->Int->Int->Int->WP)=>aq P 22 #[.pointer b] w (ND Q)
def MK:=bD (.o (.i .i64))
def oJ:=λb c w (Q:Int->WP)=>aq P 23 #[ae b,ae c] w (MK Q)
def ahH:=bD (.o .p)
def Ib:=λb w (Q:OA->WP)=>aq P 27 #[ae b] w (ahH Q)
def A4:=bD (.o .w)
def y9:=λb c d e f g i j w (Q:Value->WP)=>aq P 28 #[.pointer b,.agg #[ae c,ae d,ae e,.slice f g i],.pointer j] w (A4 Q)
def afK:=bD (.o (.i .i64))
def BV:=λb w (Q:Int->WP)=>aq P 29 #[b] w (afK Q)
def JF:=fR [.o (.i .i64),.o .l]
def rV:=λb c d e f w (Q:Int->L3 WP)=>aq P 30 #[.agg #[ae b,ae c,.slice d e f]] w (JF Q)
def Cq:=bD (.g [.i .i64,.i .i64,.l])
def sS:=λb c d e f g w (Q:Int->Int->L3 WP)=>aq P 31 #[.agg #[ae b,ae c,.slice d e f],ae g] w (Cq Q)
def Sb:=bD (.o .p)
def D8:=λb w (Q:OA->WP)=>aq P 32 #[.pointer b] w (Sb Q)
def NF:=bD (.o .l)
def mG:=λb w (Q:L3 WP)=>aq P 33 #[.pointer b] w (NF Q)
def Cr:=bD (.o .b)
def sU:=λb c d e f g w (Q:Bool->WP)=>aq P 34 #[.slice b c d,.slice e f g] w (Cr Q)
def Sc:=bD (.o .p)
def D9:=λb w (Q:OA->WP)=>aq P 39 #[.pointer b] w (Sc Q)
def Ze:=fR [.o (.i .i64),.o (.i .i64)]
def sj:=λb c d w (Q:Int->Int->WP)=>aq P 41 #[ae b,ae c,ae d] w (Ze Q)
def aa_:=bD (.o (.i .i64))
def y_:=λb c d e w (Q:Int->WP)=>aq P 42 #[ae b,ae c,ae d,ae e] w (aa_ Q)
def VU:=bD (.g [.i .u64,.i .u64,.i .u64,.i .u64,.i .u64,.i .u64])
def Ab:=λb w (Q:Int->Int->Int->Int->Int->Int->WP)=>aq P 43 #[.pointer b] w (VU Q)
def JG:=fR [.o (.i .i64),.o (.i .i64)]
def kz:=λb c w (Q:Int->Int->WP)=>aq P 44 #[ae b,ae c] w (JG Q)
def ad0:=bD (.o .p)
def EU:=λb w (Q:OA->WP)=>aq P 47 #[ae b] w (ad0 Q)
def ajn:=bD (.o .b)
def JH:=λb c d e f g w (Q:Bool->WP)=>aq P 48 #[.agg #[ae b,ae c,ae d,.slice e f g]] w (ajn Q)
def D_:=bD (.o .w)
def vo:=λb c d e f g i w (Q:Value->WP)=>aq P 49 #[.pointer b,.agg #[ae c,ae d,ae e,.slice f g i]] w (D_ Q)
def PS:=bD (.o .w)
def wQ:=λb c d e w (Q:Value->WP)=>aq P 50 #[.pointer b,.slice c d e] w (PS Q)
def VV:=fR []
def uM:=λb w (Q:WP)=>aq P 51 #[.pointer b] w (VV Q)
def EV:=bD (.o .w)
def wR:=λb c d w (Q:Value->WP)=>aq P 52 #[.pointer b,ae c,ae d] w (EV Q)
def NG:=fR [.o (.i .i64),.o .w]
def vp:=λb c d w (Q:Int->Value->WP)=>aq P 53 #[.pointer b,ae c,ae d] w (NG Q)
def aba:=bD (.o .w)
def fT:=λb w (Q:Value->WP)=>aq P 54 #[ae b] w (aba Q)
def JI:=bD (.o (.i .i64))
def rW:=λb c d w (Q:Int->WP)=>aq P 55 #[.pointer b,ae c,ae d] w (JI Q)
def K6:=bD (.o (.i .i64))
def sV:=λb c w (Q:Int->WP)=>aq P 56 #[.pointer b,ae c] w (K6 Q)
def NH:=bD (.o .w)
def vq:=λb c d e w (Q:Value->WP)=>aq P 57 #[.pointer b,.pointer c,ae d,ae e] w (NH Q)
def PT:=bD (.o .w)
def wS:=λb c w (Q:Value->WP)=>aq P 58 #[.pointer b,.pointer c] w (PT Q)
def ad1:=bD (.o .b)
def oK:=λb c w (Q:Bool->WP)=>aq P 59 #[b,c] w (ad1 Q)
def Ic:=bD (.o .b)
def mR:=λb c w (Q:Bool->WP)=>aq P 60 #[b,c] w (Ic Q)
def ld:=bD (.o .l)
def vr:=λb c d w (Q:L3 WP)=>aq P 61 #[.slice b c d] w (ld Q)
def NI:=fR [.o (.i .i64),.o (.i .i64)]
def pQ:=λb c d w (Q:Int->Int->WP)=>aq P 62 #[ae b,ae c,ae d] w (NI Q)
def K7:=bD (.o (.i .i64))
def sW:=λb c d e w (Q:Int->WP)=>aq P 63 #[ae b,ae c,ae d,ae e] w (K7 Q)
def F3:=bD (.o .l)
def xR:=λb w (Q:L3 WP)=>aq P 64 #[.pointer b] w (F3 Q)
def PU:=bD (.o .b)
def wT:=λb c w (Q:Bool->WP)=>aq P 65 #[ae b,ae c] w (PU Q)
def afL:=bD (.o .b)
def xS:=λb c d w (Q:Bool->WP)=>aq P 68 #[ae b,ae c,ae d] w (afL Q)
def ad2:=bD (.o .b)
def kU:=λb c w (Q:Bool->WP)=>aq P 69 #[ae b,ae c] w (ad2 Q)
def Ie:=bD (.g [.i .u64,.i .u64,.i .u64,.i .u64,.i .u64,.i .u64])
def vT:=λb c d e f g i j l m n o w (Q:Int->Int->Int->Int->Int->Int->WP)=>aq P 70 #[.agg #[.int .u64 b,.int .u64 c,.int .u64 d,.int .u64 e,.int .u64 f,.int .u64 g],.agg #[.int .u64 i,.int .u64 j,.int .u64 l,.int .u64 m,.int .u64 n,.int .u64 o]] w (Ie Q)
def TA:=bD (.g [.i .u64,.i .u64,.i .u64,.i .u64,.i .u64,.i .u64])
def sX:=λb w (Q:Int->Int->Int->Int->Int->Int->WP)=>aq P 71 #[.pointer b] w (TA Q)
def NJ:=bD (.g [.i .u64,.i .u64,.i .u64,.i .u64,.i .u64,.i .u64])
def vu:=λb w (Q:Int->Int->Int->Int->Int->Int->WP)=>aq P 72 #[.pointer b] w (NJ Q)
def ahI:=bD (.o .p)
def Ig:=λb w (Q:OA->WP)=>aq P 74 #[ae b] w (ahI Q)
def ajo:=bD (.o .b)
def JJ:=λb c d w (Q:Bool->WP)=>aq P 75 #[.slice b c d] w (ajo Q)
def Ih:=fR [.g [.i .i64,.i .i64,.b],.o .b]
def vU:=λb w (Q:Int->Int->Bool->Bool->WP)=>aq P 76 #[ae b] w (Ih Q)
def ahJ:=bD (.o .b)
def zQ:=λb c w (Q:Bool->WP)=>aq P 77 #[ae b,ae c] w (ahJ Q)
def Xs:=bD (.o (.i .i64))
def qU:=λb c w (Q:Int->WP)=>aq P 78 #[.pointer b,ae c] w (Xs Q)
def ad3:=fR [.g [.i .i64,.i .i64,.l],.o (.i .i64)]
def EW:=λb c d w (Q:Int->Int->L3 (Int->WP))=>aq P 79 #[.slice b c d] w (ad3 Q)
def Xt:=bD (.o (.i .i64))
def A5:=λb c d e f g w (Q:Int->WP)=>aq P 80 #[.pointer b,.agg #[ae c,ae d,.slice e f g]] w (Xt Q)
def ad4:=bD (.o .p)
def EX:=λb c d w (Q:OA->WP)=>aq P 81 #[ae b,ae c,ae d] w (ad4 Q)
def NK:=fR []
def pR:=λb w (Q:WP)=>aq P 82 #[.pointer b] w (NK Q)
def NL:=fR []
def pS:=λb w (Q:WP)=>aq P 83 #[.pointer b] w (NL Q)
def Sd:=bD (.o (.i .i64))
def xU:=λb c w (Q:Int->WP)=>aq P 84 #[.pointer b,ae c] w (Sd Q)
def Xu:=bD (.o (.i .i64))
def A6:=λb c d w (Q:Int->WP)=>aq P 85 #[.pointer b,ae c,ae d] w (Xu Q)
def NM:=fR [.o (.i .i64),.o (.i .i64)]
def vv:=λb c d w (Q:Int->Int->WP)=>aq P 86 #[.pointer b,ae c,ae d] w (NM Q)
def Se:=fR [.g [.i .i64,.i .i64,.i .i64],.o .b]
def iv:=λb c w (Q:Int->Int->Int->Bool->WP)=>aq P 87 #[.pointer b,ae c] w (Se Q)
def TB:=bD (.o .b)
def oL:=λb c w (Q:Bool->WP)=>aq P 88 #[.pointer b,ae c] w (TB Q)
def ry:=bD (.o (.i .i64))
def mH:=λb c d e w (Q:Int->WP)=>aq P 89 #[.pointer b,ae c,ae d,ae e] w (ry Q)
def PV:=fR []
def m7:=λb c d e w (Q:WP)=>aq P 90 #[.pointer b,.agg #[ae c,ae d,ae e]] w (PV Q)
def Sf:=bD (.o .b)
def xV:=λb c d w (Q:Bool->WP)=>aq P 91 #[.pointer b,ae c,ae d] w (Sf Q)
def Xv:=fR [.o (.i .i64),.o (.i .i64),.o (.i .i64)]
def A7:=λb c d w (Q:Int->Int->Int->WP)=>aq P 92 #[.pointer b,ae c,ae d] w (Xv Q)
def iV:=fR [.o .l,.o .w]
def wU:=λb c d e w (Q:L3 (Value->WP))=>aq P 93 #[.pointer b,.slice c d e] w (iV Q)
def sY:=fR [.o .l,.o .l,.o (.i .i64)]
def wV:=λb c d e w (Q:L3 (L3 (Int->WP)))=>aq P 94 #[.pointer b,.slice c d e] w (sY Q)
def pD:=bD (.o .b)
def vV:=λb c d w (Q:Bool->WP)=>aq P 96 #[b,c,.bool d] w (pD Q)
def vH:=bD (.o .b)
def EY:=λb c d e f g w (Q:Bool->WP)=>aq P 100 #[b,c,.agg #[.pointer d,.pointer e,.int .u64 f],g] w (vH Q)
def Sg:=bD (.o .b)
def lj:=λb c d w (Q:Bool->WP)=>aq P 101 #[ae b,ae c,ae d] w (Sg Q)
def Ea:=bD (.o .l)
def pT:=λb w (Q:L3 WP)=>aq P 102 #[.pointer b] w (Ea Q)
def Ii:=bD (.o .l)
def mj:=λb c d w (Q:L3 WP)=>aq P 103 #[.slice b c d] w (Ii Q)
def Xw:=bD (.g [.i .u64,.i .u64,.i .u64,.i .u64,.i .u64,.i .u64])
def cP:=λb c d e f g w (Q:Int->Int->Int->Int->Int->Int->WP)=>aq P 104 #[.agg #[.int .u64 b,.int .u64 c,.int .u64 d,.int .u64 e,.int .u64 f,.int .u64 g]] w (Xw Q)
def ad5:=bD (.o (.i .u64))
def rz:=λb c w (Q:Int->WP)=>aq P 105 #[.int .u64 b,.int .u64 c] w (ad5 Q)
def Si:=bD (.o (.i .u64))
def rA:=λb w (Q:Int->WP)=>aq P 106 #[.pointer b] w (Si Q)
def ML:=bD (.o (.i .u64))
def oM:=λb w (Q:Int->WP)=>aq P 107 #[.pointer b] w (ML Q)
def VW:=fR []
def uN:=λb w (Q:WP)=>aq P 108 #[.pointer b] w (VW Q)
def ahK:=fR [.g [.i .i64,.i .i64,.i .i64,.l],.o (.i .i64)]
def Ij:=λb c d w (Q:Int->Int->Int->L3 (Int->WP))=>aq P 109 #[.slice b c d] w (ahK Q)
def TC:=bD (.o (.i .i64))
def eS:=λb c w (Q:Int->WP)=>aq P 110 #[.pointer b,ae c] w (TC Q)
def NN:=fR [.g [.i .i64,.i .i64,.l],.o .w]
def DG:=λb c d w (Q:Int->Int->L3 (Value->WP))=>aq P 111 #[.slice b c d] w (NN Q)
def ad6:=bD (.o .b)
def Av:=λb c d e f w (Q:Bool->WP)=>aq P 112 #[.agg #[ae b,ae c,.slice d e f]] w (ad6 Q)
def TE:=bD (.o .p)
def Gp:=λb c d e f g w (Q:OA->WP)=>aq P 113 #[.agg #[ae b,ae c,.slice d e f],ae g] w (TE Q)
def Sj:=bD (.o (.i .i64))
def fO:=λb w (Q:Int->WP)=>aq P 114 #[.pointer b] w (Sj Q)
def afM:=bD (.o .p)
def Gq:=λb w (Q:OA->WP)=>aq P 115 #[.pointer b] w (afM Q)
def ad7:=bD (.o .p)
def EZ:=λb c w (Q:OA->WP)=>aq P 116 #[.pointer b,.pointer c] w (ad7 Q)
def ad8:=bD (.o .p)
def E0:=λb w (Q:OA->WP)=>aq P 117 #[ae b] w (ad8 Q)
def ad9:=bD (.o .p)
def E1:=λb w (Q:OA->WP)=>aq P 118 #[ae b] w (ad9 Q)
def Sk:=bD (.o (.i .i64))
def lq:=λb c w (Q:Int->WP)=>aq P 119 #[.pointer b,ae c] w (Sk Q)
def TF:=bD (.o (.i .i64))
def za:=λb c d w (Q:Int->WP)=>aq P 120 #[.pointer b,ae c,ae d] w (TF Q)
def Sm:=fR [.o (.i .i64),.o .b]
def xW:=λb c d w (Q:Int->Bool->WP)=>aq P 121 #[.pointer b,ae c,ae d] w (Sm Q)
def Sn:=bD (.o .b)
def rB:=λb c d w (Q:Bool->WP)=>aq P 122 #[.pointer b,ae c,ae d] w (Sn Q)
def Xx:=bD (.o (.i .i64))
def dG:=λb c d w (Q:Int->WP)=>aq P 123 #[ae b,ae c,ae d] w (Xx Q)
def So:=bD (.o (.i .i64))
def xX:=λb w (Q:Int->WP)=>aq P 124 #[.pointer b] w (So Q)
def PW:=bD (.o .b)
def wW:=λb c w (Q:Bool->WP)=>aq P 125 #[.pointer b,ae c] w (PW Q)
def PX:=bD (.o (.i .i64))
def qH:=λb c w (Q:Int->WP)=>aq P 126 #[.pointer b,ae c] w (PX Q)
def Sp:=bD (.o .b)
def rC:=λb c d w (Q:Bool->WP)=>aq P 127 #[.pointer b,ae c,d] w (Sp Q)
def NO:=fR []
def Cs:=λb c w (Q:WP)=>aq P 128 #[.pointer b,.pointer c] w (NO Q)
def Xy:=fR [.o (.i .i64),.o (.i .i64),.o .w]
def A8:=λb c d w (Q:Int->Int->Value->WP)=>aq P 129 #[.pointer b,ae c,ae d] w (Xy Q)
def afN:=bD (.o (.i .i64))
def xY:=λb w (Q:Int->WP)=>aq P 130 #[b] w (afN Q)
def Xz:=fR [.o (.i .i64),.o (.i .i64)]
def vW:=λb w (Q:Int->Int->WP)=>aq P 131 #[.pointer b] w (Xz Q)
def Zf:=bD (.o (.i .i64))
def mO:=λb c d w (Q:Int->WP)=>aq P 132 #[ae b,ae c,ae d] w (Zf Q)
def xZ:=bD (.o .l)
def DH:=λb c d e f w (Q:L3 WP)=>aq P 133 #[ae b,ae c,.slice d e f] w (xZ Q)
def VX:=fR [.g [.l,.l],.o (.i .i64)]
def uO:=λb c d w (Q:L3 (L3 (Int->WP)))=>aq P 134 #[.pointer b,ae c,ae d] w (VX Q)
def JK:=fR [.o .l,.o .l,.o .l,.o (.i .i64)]
def Gs:=λb c d e f g i j w (Q:L3 (L3 (L3 (Int->WP))))=>aq P 135 #[ae b,ae c,.slice d e f,.slice g i j] w (JK Q)
def NP:=bD (.o .b)
def vw:=λb c d w (Q:Bool->WP)=>aq P 136 #[.pointer b,ae c,ae d] w (NP Q)
def PY:=bD (.o .b)
def wX:=λb c d w (Q:Bool->WP)=>aq P 137 #[.pointer b,ae c,ae d] w (PY Q)
def RA:=bD (.o (.i .i64))
def vX:=λb c d w (Q:Int->WP)=>aq P 140 #[.slice b c d] w (RA Q)
def abb:=bD (.o (.i .i64))
def DI:=λb c w (Q:Int->WP)=>aq P 141 #[ae b,ae c] w (abb Q)
def abc:=fR [.o (.i .i64),.o (.i .i64)]
def nH:=λb c d w (Q:Int->Int->WP)=>aq P 142 #[ae b,ae c,ae d] w (abc Q)
def TG:=fR [.g [.i .i64,.i .i64,.l],.o (.i .i64),.o (.i .i64)]
def Gt:=λb c d e f w (Q:Int->Int->L3 (Int->Int->WP))=>aq P 143 #[.slice b c d,ae e,ae f] w (TG Q)
def RB:=fR []
def E2:=λb c d e f g i j l m n w (Q:WP)=>aq P 144 #[.agg #[ae b,ae c,.slice d e f],ae g,.agg #[ae i,ae j,.slice l m n]] w (RB Q)
def FW:=bD (.o .b)
def iB:=λb c d e w (Q:Bool->WP)=>aq P 145 #[.slice b c d,.int .u8 e] w (FW Q)
def VY:=fR [.o (.i .i64),.o (.i .i64)]
def kM:=λb c w (Q:Int->Int->WP)=>aq P 146 #[ae b,ae c] w (VY Q)
def TJ:=fR [.o (.i .i64),.o (.i .i64)]
def eE:=λb w (Q:Int->Int->WP)=>aq P 147 #[.pointer b] w (TJ Q)
def TK:=bD (.o .b)
def s8:=λb c w (Q:Bool->WP)=>aq P 148 #[.pointer b,ae c] w (TK Q)
def PZ:=bD (.o .b)
def qI:=λb c w (Q:Bool->WP)=>aq P 149 #[.pointer b,ae c] w (PZ Q)
def xC:=fR [.g [.l,.l],.o .w]
def uP:=λb c d w (Q:L3 (L3 (Value->WP)))=>aq P 150 #[.pointer b,ae c,ae d] w (xC Q)
def TL:=bD (.o .b)
def BW:=λb c d e f w (Q:Bool->WP)=>aq P 151 #[ae b,ae c,.slice d e f] w (TL Q)
def NQ:=bD (.o .l)
def DJ:=λb c d w (Q:L3 WP)=>aq P 152 #[.slice b c d] w (NQ Q)
def abd:=bD (.o .b)
def JL:=λb w (Q:Bool->WP)=>aq P 153 #[ae b] w (abd Q)
def EC:=bD (.o .b)
def m8:=λb c d e w (Q:Bool->WP)=>aq P 154 #[.slice b c d,e] w (EC Q)
def E3:=bD (.o .b)
def wY:=λb c d w (Q:Bool->WP)=>aq P 155 #[.pointer b,.pointer c,ae d] w (E3 Q)
def MM:=fR []
def A9:=λb c w (Q:WP)=>aq P 156 #[.pointer b,.pointer c] w (MM Q)
def XA:=fR [.o (.i .i64),.o (.i .i64),.o .b]
def vY:=λb c d w (Q:Int->Int->Bool->WP)=>aq P 157 #[ae b,ae c,ae d] w (XA Q)
def ze:=fR [.g [.i .i64,.i .i64,.l],.o .w]
def wZ:=λb c d w (Q:Int->Int->L3 (Value->WP))=>aq P 158 #[.pointer b,ae c,ae d] w (ze Q)
def XB:=bD (.o (.i .i64))
def nM:=λb c d e w (Q:Int->WP)=>aq P 159 #[ae b,ae c,ae d,ae e] w (XB Q)
def zR:=bD (.o (.i .i64))
def x6:=λb c d e w (Q:Int->WP)=>aq P 160 #[.slice b c d,.int .u8 e] w (zR Q)
def Hx:=fR [.g [.i .i64,.i .i64,.l],.o .b]
def s9:=λb c w (Q:Int->Int->L3 (Bool->WP))=>aq P 161 #[.pointer b,ae c] w (Hx Q)
def zf:=bD (.o .l)
def A_:=λb c d w (Q:L3 WP)=>aq P 162 #[.pointer b,.pointer c,ae d] w (zf Q)
def x7:=bD (.o .p)
def vz:=λb c w (Q:OA->WP)=>aq P 163 #[.pointer b,ae c] w (x7 Q)
def mW:=fR [.g [.l,.l],.o (.i .i64)]
def nN:=λb c d e f g i j l m n o w (Q:L3 (L3 (Int->WP)))=>aq P 164 #[.pointer b,ae c,ae d,ae e,.agg #[ae f,ae g,.slice i j l],.slice m n o] w (mW Q)
def NR:=bD (.o (.i .i64))
def iI:=λb c w (Q:Int->WP)=>aq P 165 #[.pointer b,ae c] w (NR Q)
def x8:=bD (.o (.i .i64))
def vZ:=λb c d e w (Q:Int->WP)=>aq P 166 #[.slice b c d,e] w (x8 Q)
def P0:=fR [.o .l,.o .w]
def w8:=λb c w (Q:L3 (Value->WP))=>aq P 167 #[.pointer b,ae c] w (P0 Q)
def afO:=fR [.o .l,.o (.i .i64)]
def Gu:=λb c d e f w (Q:L3 (Int->WP))=>aq P 168 #[.agg #[ae b,ae c,.slice d e f]] w (afO Q)
def Zg:=bD (.o .b)
def CD:=λb c d e f g w (Q:Bool->WP)=>aq P 169 #[.slice b c d,.slice e f g] w (Zg Q)
def NS:=bD (.o (.i .i64))
def vA:=λb w (Q:Int->WP)=>aq P 170 #[.pointer b] w (NS Q)
def JM:=bD (.o .l)
def nO:=λb c w (Q:L3 WP)=>aq P 171 #[.pointer b,ae c] w (JM Q)
def JN:=bD (.o .l)
def Ba:=λb c w (Q:L3 WP)=>aq P 172 #[.pointer b,ae c] w (JN Q)
def TM:=bD (.o (.i .i64))
def zg:=λb c w (Q:Int->WP)=>aq P 173 #[.pointer b,ae c] w (TM Q)
def NT:=bD (.o (.i .i64))
def DK:=λb c d e w (Q:Int->WP)=>aq P 174 #[ae b,ae c,ae d,ae e] w (NT Q)
def P9:=bD (.o (.i .i64))
def w9:=λb w (Q:Int->WP)=>aq P 175 #[.pointer b] w (P9 Q)
def abe:=bD (.o .l)
def jZ:=λb c d w (Q:L3 WP)=>aq P 176 #[.slice b c d] w (abe Q)
def Eb:=bD (.o (.i .i64))
def vB:=λb w (Q:Int->WP)=>aq P 177 #[.pointer b] w (Eb Q)
def iJ:=bD (.o .p)
def s_:=λb c w (Q:OA->WP)=>aq P 178 #[.pointer b,ae c] w (iJ Q)
def ad_:=bD (.o .b)
def Aw:=λb c d e f g i j w (Q:Bool->WP)=>aq P 179 #[.agg #[ae b,ae c,.slice d e f],.slice g i j] w (ad_ Q)
def LQ:=fR [.o (.i .i64),.o .b,.o .b]
def CE:=λb c d w (Q:Int->Bool->Bool->WP)=>aq P 180 #[.pointer b,ae c,ae d] w (LQ Q)
def abf:=bD (.o .b)
def DL:=λb c d e f g w (Q:Bool->WP)=>aq P 181 #[.slice b c d,.slice e f g] w (abf Q)
def aea:=fR []
def rD:=λb w (Q:WP)=>aq P 182 #[.pointer b] w (aea Q)
def aeb:=bD (.g [.l,.l])
def Ax:=λb c d e f g w (Q:L3 (L3 WP))=>aq P 183 #[.agg #[.slice b c d,.slice e f g]] w (aeb Q)
def LR:=fR [.g [.l,.l],.o (.i .i64)]
def CF:=λb c d e f g i j w (Q:L3 (L3 (Int->WP)))=>aq P 184 #[.agg #[ae b,ae c,.slice d e f],.slice g i j] w (LR Q)
def CG:=bD (.o .l)
def iW:=λb c d w (Q:L3 WP)=>aq P 185 #[.slice b c d] w (CG Q)
def P_:=fR [.o .l,.o .w]
def m9:=λb c w (Q:L3 (Value->WP))=>aq P 186 #[.pointer b,ae c] w (P_ Q)
def NU:=fR [.o .l,.o .w]
def pU:=λb c w (Q:L3 (Value->WP))=>aq P 187 #[.pointer b,ae c] w (NU Q)
def zh:=bD (.o .l)
def qV:=λb c d e w (Q:L3 WP)=>aq P 188 #[.slice b c d,ae e] w (zh Q)
def tf:=fR [.o .l,.o .w]
def w_:=λb c w (Q:L3 (Value->WP))=>aq P 189 #[.pointer b,ae c] w (tf Q)
def afP:=bD (.o .b)
def tW:=λb c d e f w (Q:Bool->WP)=>aq P 190 #[.agg #[ae b,ae c,.slice d e f]] w (afP Q)
def BX:=fR [.o (.i .i64),.o .l]
def DM:=λb c d e f w (Q:Int->L3 WP)=>aq P 191 #[.agg #[ae b,ae c,.slice d e f]] w (BX Q)
def um:=bD (.o .l)
def Bb:=λb c d w (Q:L3 WP)=>aq P 192 #[ae b,ae c,ae d] w (um Q)
def Zh:=bD (.o .b)
def sq:=λb c w (Q:Bool->WP)=>aq P 193 #[.pointer b,ae c] w (Zh Q)
def XC:=bD (.g [.i .i64,.i .i64,.i .i64,.i .i64])
def v7:=λw (Q:Int->Int->Int->Int->WP)=>aq P 194 #[] w (XC Q)
def Zi:=bD (.o (.i .i64))
def xD:=λb c d e w (Q:Int->WP)=>aq P 195 #[ae b,ae c,ae d,ae e] w (Zi Q)
def AO:=fR []
def kA:=λb c d e w (Q:WP)=>aq P 196 #[.slice b c d,e] w (AO Q)
def Zj:=bD (.o (.i .i64))
def CH:=λb c d e f g w (Q:Int->WP)=>aq P 197 #[.agg #[ae b,ae c,ae d],.agg #[ae e,ae f,ae g]] w (Zj Q)
def iX:=bD (.o .l)
def kN:=λb c d w (Q:L3 WP)=>aq P 198 #[.slice b c d] w (iX Q)
def F4:=bD (.o .l)
def x9:=λb w (Q:L3 WP)=>aq P 199 #[.pointer b] w (F4 Q)
def v8:=bD (.g [.i .i64,.l,.l])
def zi:=λb c w (Q:Int->L3 (L3 WP))=>aq P 200 #[.pointer b,ae c] w (v8 Q)
def pK:=bD (.o .l)
def oC:=λb c d e w (Q:L3 WP)=>aq P 201 #[.slice b c d,ae e] w (pK Q)
def afQ:=bD (.o .p)
def BY:=λw (Q:OA->WP)=>aq P 202 #[] w (afQ Q)
def jU:=bD (.o .m)
def tg:=λb c w (Q:ON->WP)=>aq P 203 #[.pointer b,ae c] w (jU Q)
def Sq:=bD (.o .l)
def x_:=λb c w (Q:L3 WP)=>aq P 204 #[.pointer b,ae c] w (Sq Q)
def Qa:=bD (.o .b)
def qJ:=λb c d w (Q:Bool->WP)=>aq P 205 #[.pointer b,ae c,ae d] w (Qa Q)
def TN:=fR []
def mq:=λb c d w (Q:WP)=>aq P 206 #[.pointer b,ae c,ae d] w (TN Q)
def CI (Q:Int->Int->Bool->World->Prop)(v:Value)(w:World):Prop:=
 dT v λc=>dg c λd e=>dI .i64 d λf=>dg e λg i=>dI .i64 g λj=>dg i λl m=>dB l λn=>ko m<|Q f j n w
def jo:=λb w (Q:Int->Int->Bool->WP)=>aq P 207 #[.pointer b] w (CI Q)
def F5 {b:Option Addr}{w:World}{Q Q':Int->Int->Bool->World->Prop}(hq:∀a b c w,Q a b c w->Q' a b c w)(h:jo b w Q):jo b w Q':=by
 refine aq.mono ?_ h
 intro v w' h0
 unfold CI at h0⊢
 obtain⟨c,rfl,h1⟩:=aaZ h0
 obtain⟨d,e,rfl,h2⟩:=jq h1
 obtain⟨f,rfl,h3⟩:=BO h2
 obtain⟨g,i,rfl,h4⟩:=jq h3
 obtain⟨j,rfl,h5⟩:=BO h4
 obtain⟨l,m,rfl,h6⟩:=jq h5
 obtain⟨n,rfl,h7⟩:=Gf h6
 obtain⟨rfl,h8⟩:=qP h7
 exact hq _ _ _ w' h8
def Bc:=bD (.o .l)
def zj:=λb c w (Q:L3 WP)=>aq P 208 #[.pointer b,ae c] w (Bc Q)
def yO:=bD (.o .b)
def nC:=λb c d e w (Q:Bool->WP)=>aq P 209 #[.slice b c d,e] w (yO Q)
def Zk:=bD (.o .b)
def CJ:=λb c d e w (Q:Bool->WP)=>aq P 210 #[.agg #[ae b,ae c,ae d],.pointer e] w (Zk Q)
def aec:=bD (.o .b)
def E4:=λb c d e f g i w (Q:Bool->WP)=>aq P 211 #[.agg #[ae b,ae c,.slice d e f],ae g,ae i] w (aec Q)
def Hy:=fR []
def tj:=λb c w (Q:WP)=>aq P 212 #[.pointer b,ae c] w (Hy Q)
def JO:=fR []
def v9:=λb c w (Q:WP)=>aq P 213 #[.pointer b,ae c] w (JO Q)
def su:=bD (.o .b)
def qW:=λb c d e f g w (Q:Bool->WP)=>aq P 214 #[.slice b c d,.slice e f g] w (su Q)
def JP:=bD (.o .l)
def kB:=λb c d w (Q:L3 WP)=>aq P 215 #[.slice b c d] w (JP Q)
def JQ:=fR [.o .l,.o (.i .i64)]
def v_:=λb c d e f g i j w (Q:L3 (Int->WP))=>aq P 216 #[.agg #[ae b,ae c,.slice d e f],.slice g i j] w (JQ Q)
def TO:=bD (.o (.i .i64))
def zk:=λb c w (Q:Int->WP)=>aq P 217 #[.pointer b,ae c] w (TO Q)
def VZ:=fR [.o (.i .u64),.o (.i .u64)]
def p8:=λb c w (Q:Int->Int->WP)=>aq P 218 #[.int .u64 b,.int .u64 c] w (VZ Q)
def abg:=bD (.o .b)
def zl:=λb w (Q:Bool->WP)=>aq P 220 #[ae b] w (abg Q)
def ya:=bD (.o .l)
def Gv:=λb c d e f g w (Q:L3 WP)=>aq P 221 #[.agg #[ae b,ae c,.slice d e f],ae g] w (ya Q)
def DN:=bD (.o .l)
def Bd:=λb c d w (Q:L3 WP)=>aq P 222 #[ae b,ae c,ae d] w (DN Q)
def cv:=fR []
def eY:=λb c d e f g i w (Q:WP)=>aq P 223 #[.slice b c d,ae e,ae f,ae g,i] w (cv Q)
def V0:=bD (.o (.i .i64))
def uQ:=λb w (Q:Int->WP)=>aq P 224 #[.int .u64 b] w (V0 Q)
def NV:=bD (.o (.i .i64))
def DO:=λb c d w (Q:Int->WP)=>aq P 225 #[.slice b c d] w (NV Q)
def Sr:=bD (.o (.i .i64))
def nP:=λb c w (Q:Int->WP)=>aq P 226 #[ae b,ae c] w (Sr Q)
def BZ:=fR [.o .l,.o (.i .i64)]
def DP:=λb c d e f g i j w (Q:L3 (Int->WP))=>aq P 227 #[.agg #[ae b,ae c,.slice d e f],.slice g i j] w (BZ Q)
def JR:=fR []
def Be:=λb w (Q:WP)=>aq P 228 #[.pointer b] w (JR Q)
def V1:=fR [.o (.i .i64),.o (.i .i64),.o .b]
def Ac:=λb w (Q:Int->Int->Bool->WP)=>aq P 229 #[.pointer b] w (V1 Q)
def nQ:=fR []
def zm:=λb w (Q:WP)=>aq P 230 #[.pointer b] w (nQ Q)
def TP:=fR [.o .p,.o (.i .i64),.o .b]
def tq:=λb c w (Q:OA->Int->Bool->WP)=>aq P 231 #[.pointer b,ae c] w (TP Q)
def NW:=bD (.o (.i .i64))
def vC:=λb c d w (Q:Int->WP)=>aq P 232 #[.pointer b,ae c,ae d] w (NW Q)
def p9:=bD (.o (.i .i64))
def oN:=λb c d e w (Q:Int->WP)=>aq P 233 #[.slice b c d,e] w (p9 Q)
def afR:=bD (.o .p)
def B0:=λb w (Q:OA->WP)=>aq P 234 #[ae b] w (afR Q)
def tu:=bD (.o .l)
def jQ:=λb c d e w (Q:L3 WP)=>aq P 235 #[.slice b c d,ae e] w (tu Q)
def Ec:=fR []
def Ct:=λb w (Q:WP)=>aq P 236 #[.pointer b] w (Ec Q)
def B1:=bD (.o (.i .i64))
def zn:=λb c d e f w (Q:Int->WP)=>aq P 237 #[.slice b c d,ae e,ae f] w (B1 Q)
def tA:=bD (.o (.i .i64))
def C1:=λb c d w (Q:Int->WP)=>aq P 238 #[.pointer b,ae c,ae d] w (tA Q)
def Ss:=fR [.o (.i .u64),.o (.i .u64)]
def Ed:=λb c w (Q:Int->Int->WP)=>aq P 240 #[.int .u64 b,.int .u64 c] w (Ss Q)
def C2:=bD (.o .b)
def mu:=λb c d e w (Q:Bool->WP)=>aq P 241 #[.slice b c d,e] w (C2 Q)
def abh:=bD (.o .b)
def JS:=λb c w (Q:Bool->WP)=>aq P 242 #[.int .u8 b,.pointer c] w (abh Q)
def gR:=fR []
def ju:=λb c d e f g w (Q:WP)=>aq P 243 #[.slice b c d,ae e,ae f,g] w (gR Q)
def my:=fR []
def k9:=λb c d e f g w (Q:WP)=>aq P 244 #[.slice b c d,ae e,ae f,g] w (my Q)
def gS:=fR []
def jv:=λb c d e f g w (Q:WP)=>aq P 245 #[.slice b c d,ae e,ae f,g] w (gS Q)
def kO:=fR [.o (.i .i64),.o (.i .i64)]
def j6:=λb c d e f g w (Q:Int->Int->WP)=>aq P 246 #[.slice b c d,ae e,ae f,g] w (kO Q)
def pE:=fR []
def jM:=λb c d e f g w (Q:WP)=>aq P 247 #[.slice b c d,ae e,ae f,g] w (pE Q)
def bh:=bD (.o .b)
def g6:=λb c d e f g w (Q:Bool->WP)=>aq P 248 #[.slice b c d,ae e,ae f,g] w (bh Q)
def d_:=bD (.o (.i .i64))
def jn:=λb c d e f g i w (Q:Int->WP)=>aq P 249 #[.slice b c d,ae e,ae f,ae g,i] w (d_ Q)
def cG:=fR [.o (.i .i64),.o .b]
def kP:=λb c d e f g i w (Q:Int->Bool->WP)=>aq P 250 #[.slice b c d,ae e,ae f,ae g,i] w (cG Q)
def uR:=bD (.o (.i .i64))
def Ee:=λb w (Q:Int->WP)=>aq P 252 #[.int .u64 b] w (uR Q)
def V2:=bD (.o .b)
def p_:=λb w (Q:Bool->WP)=>aq P 253 #[ae b] w (V2 Q)
def RC:=bD (.o .b)
def E5:=λb c d e f g i j w (Q:Bool->WP)=>aq P 254 #[.agg #[ae b,ae c,.slice d e f],.slice g i j] w (RC Q)
def afS:=fR [.o .l,.o (.i .i64)]
def Gw:=λb c d e f g w (Q:L3 (Int->WP))=>aq P 255 #[.agg #[ae b,ae c,.slice d e f],ae g] w (afS Q)
def Su:=bD (.o .b)
def rE:=λb c d e w (Q:Bool->WP)=>aq P 256 #[.agg #[ae b,ae c],.agg #[ae d,ae e]] w (Su Q)
def V3:=bD (.o (.i .i64))
def Ad:=λb w (Q:Int->WP)=>aq P 257 #[.pointer b] w (V3 Q)
def Sv:=fR [.o (.i .i64),.o .b]
def Ef:=λb c w (Q:Int->Bool->WP)=>aq P 258 #[.pointer b,ae c] w (Sv Q)
def C3:=fR []
def jw:=λb w (Q:WP)=>aq P 259 #[.pointer b] w (C3 Q)
def V4:=bD (.o (.i .i64))
def qd:=λb w (Q:Int->WP)=>aq P 260 #[.pointer b] w (V4 Q)
def II:=fR [.o (.i .i64),.o (.i .i64),.o .b]
def Ae:=λb w (Q:Int->Int->Bool->WP)=>aq P 261 #[.pointer b] w (II Q)
def oO:=fR []
def rX:=λb c w (Q:WP)=>aq P 262 #[.pointer b,ae c] w (oO Q)
def V5:=bD (.o .b)
def mX:=λb c d w (Q:Bool->WP)=>aq P 263 #[.pointer b,ae c,ae d] w (V5 Q)
def wc:=bD (.o (.i .i64))
def uo:=λb c d e w (Q:Int->WP)=>aq P 264 #[.slice b c d,e] w (wc Q)
def jf:=fR []
def iE:=λb c d e f g i w (Q:WP)=>aq P 265 #[.slice b c d,ae e,ae f,ae g,i] w (jf Q)
def IY:=bD (.o (.i .u64))
def yV:=λb w (Q:Int->WP)=>aq P 266 #[ae b] w (IY Q)
def JT:=bD (.o (.i .u64))
def rY:=λb w (Q:Int->WP)=>aq P 267 #[.pointer b] w (JT Q)
def yP:=bD (.o (.i .i64))
def eX:=λb c d e f g w (Q:Int->WP)=>aq P 268 #[.slice b c d,ae e,.pointer f,g] w (yP Q)
def C4:=bD (.o (.i .i64))
def jg:=λb c d e f g i j w (Q:Int->WP)=>aq P 269 #[.slice b c d,ae e,ae f,ae g,.pointer i,j] w (C4 Q)
def ahL:=bD (.o (.i .i64))
def Ik:=λb c d e f g w (Q:Int->WP)=>aq P 270 #[.agg #[ae b,ae c,.slice d e f],ae g] w (ahL Q)
def vg:=fR [.o (.i .i64),.o .b]
def m_:=λb c d e w (Q:Int->Bool->WP)=>aq P 271 #[.slice b c d,ae e] w (vg Q)
def TQ:=bD (.o .b)
def zo:=λb c w (Q:Bool->WP)=>aq P 272 #[.pointer b,ae c] w (TQ Q)
def V6:=bD (.o .b)
def uS:=λb c d w (Q:Bool->WP)=>aq P 273 #[.pointer b,ae c,ae d] w (V6 Q)
def NX:=bD (.o .b)
def pV:=λb w (Q:Bool->WP)=>aq P 274 #[.pointer b] w (NX Q)
def Sw:=bD (.o (.i .i64))
def yb:=λb w (Q:Int->WP)=>aq P 275 #[.pointer b] w (Sw Q)
def K8:=fR []
def gT:=λb c d w (Q:WP)=>aq P 276 #[.pointer b,ae c,ae d] w (K8 Q)
def uT:=bD (.o (.i .i64))
def yc:=λb c d w (Q:Int->WP)=>aq P 277 #[.pointer b,ae c,ae d] w (uT Q)
def C5:=fR [.o (.i .i64),.o (.i .i64)]
def gA:=λb c d e f g i w (Q:Int->Int->WP)=>aq P 278 #[.slice b c d,ae e,ae f,.pointer g,i] w (C5 Q)
def ahM:=bD (.o .b)
def Il:=λb c d e f g w (Q:Bool->WP)=>aq P 279 #[.agg #[ae b,ae c,.slice d e f],ae g] w (ahM Q)
def XD:=bD (.o .b)
def Hz:=λb c w (Q:Bool->WP)=>aq P 280 #[ae b,ae c] w (XD Q)
def Qb:=bD (.o .b)
def nf:=λb w (Q:Bool->WP)=>aq P 281 #[ae b] w (Qb Q)
def Sy:=fR []
def yd:=λb c w (Q:WP)=>aq P 282 #[.pointer b,ae c] w (Sy Q)
def TR:=bD (.o .w)
def E6:=λb w (Q:Value->WP)=>aq P 302 #[.pointer b] w (TR Q)
def NY:=bD (.o .w)
def Cu:=λb w (Q:Value->WP)=>aq P 321 #[.pointer b] w (NY Q)
def Sz:=bD (.o .w)
def Eg:=λb w (Q:Value->WP)=>aq P 325 #[.pointer b] w (Sz Q)
end Go.Proofs.YtmegplnmiepfbaaGreatDoor.S
