/- The reading of an operation, of a region's operations, of a body: what they ask, as far as the next cut. -/
import Derived.Test.YtjndgflalbcngaaSx
set_option linter.unusedVariables false
set_option linter.unusedSimpArgs false
namespace Go.Sx

/-- The program, its types' table, the functions that have bodies, the number of slots. -/
structure Cx where
  P : Program
  T : Tab
  F : FuncId → Bool
  n : Nat

def sb (s : ByteArray) (j : Nat) : Int := match s[j]? with | some b => (b.toNat : Int) | none => 0
def IxV (l : List Value) (i : Nat) (K : Value → Prop) : Prop := ∃ v, nthV l i = some v ∧ K v
def inot (k : IntKind) (n : Int) : Int := ixor k (if k.signed then -1 else k.max) n
def CallV (C : Cx) (f : Value) (args : List Value) (w : World) (K : Value → World → Prop) : Prop := match f with
  | .func fn first cap => match fn with
    | .func g => cond (C.F g) (CallK C.P g (first.toList ++ args ++ cap.toList).toArray w K) False
    | _ => False
  | _ => False
def imin (x y : Int) : Int := if y < x then y else x
def imax (x y : Int) : Int := if y > x then y else x
def two (l : List Value) (K : Value → Value → Prop) : Prop := dCons l fun a r => dCons r fun b r' => dNil r' (K a b)
def dI2 (x y : Value) (K : IntKind → Int → Int → Prop) : Prop := match x with
  | .int k a => match y with
    | .int _ b => K k a b
    | _ => False
  | _ => False
def bltK (C : Cx) (b : Builtin) (ats : Array TypeId) (ty : TypeId) (args : List Value) (w : World) (K : Value → World → Prop) : Prop := match b with
  | .append => RunK C.P (Builtin.append_ ats ty args.toArray) w fun v w' => dS v fun a n c => K (.slice a n c) w'
  | .copy => RunK C.P (Builtin.copy_ ats ty args.toArray) w fun v w' => dI .i64 v fun n => K (.int .i64 n) w'
  | .delete => RunK C.P (Builtin.delete_ ats ty args.toArray) w fun v w' => K v w'
  | .min => two args fun x y => dI2 x y fun k x y => K (.int k (imin x y)) w
  | .max => two args fun x y => dI2 x y fun k x y => K (.int k (imax x y)) w
  | .len => match ats.toList with
    | t :: _ => match args with
      | v :: _ => match C.T t with
        | some i => match i.d with
          | .slice _ => dS v fun _ n _ => K (.int .i64 n) w
          | .str => dStr v fun s => K (.int .i64 s.size) w
          | _ => RunK C.P (Builtin.len_ ats ty args.toArray) w fun v w' => dI .i64 v fun n => K (.int .i64 n) w'
        | none => False
      | [] => False
    | [] => False
  | .cap => RunK C.P (Builtin.cap_ ats ty args.toArray) w fun v w' => dI .i64 v fun n => K (.int .i64 n) w'
  | _ => False
def optI (v : Option Value) (K : Option Int → Prop) : Prop := match v with
  | none => K none
  | some v => match v with
    | .int _ n => K (some n)
    | _ => False
def optEv (ρ : Env) (x : Option Operand) : Option Value := match x with | none => none | some x => some (ev ρ x)

def evOp (C : Cx) (o : Oper) (ρ : Env) (w : World) (K : Value → World → Prop) : Prop :=
  match o.op with
  | .move x => K (ev ρ x) w
  | .assign x => K (ev ρ x) w
  | .pick c a b => match ev ρ c with
    | .bool t => cond t (K (ev ρ a) w) (K (ev ρ b) w)
    | _ => False
  | .alloc t => match C.T t with
    | some i => cond (Nat.beq i.zero.length i.size) (K (.pointer (some ⟨w.heap.size, 0, none⟩)) (w.alloc (.cells (zc C.T t).toArray t))) False
    | none => False
  | .box t x => K (.pointer (some ⟨w.heap.size, 0, none⟩)) (w.alloc (.cells (ev ρ x).cells t))
  | .build t ps => match place C.T t with
    | some pl => match fillL pl (zc C.T t) (evParts ρ ps.toList) with
      | some cs => K (.agg cs.toArray) w
      | none => False
    | none => False
  | .buildSlice t len ps => match C.T t with
    | some i => match i.d with
      | .slice e => match C.T e with
        | some q => cond (Nat.ble (len * q.size) 16777216) (cond (Nat.beq q.zero.length q.size) (match fillL (fun j => some (j * q.size, q.size)) (reps q.zero len) (evParts ρ ps.toList) with
          | some cs => K (.slice (some ⟨w.heap.size, 0, none⟩) len len) (w.alloc (.cells cs.toArray e))
          | none => False) False) False
        | none => False
      | _ => False
    | none => False
  | .load t x => match ev ρ x with
    | .pointer p => wA p fun a => ldT C.T t a w fun v => K v w
    | _ => False
  | .store t x y => match ev ρ x with
    | .pointer p => wA p fun a => stT C.T t a (ev ρ y) w fun w' => K undef w'
    | _ => False
  | .nilCheck x => match ev ρ x with
    | .pointer p => wA p fun a => K (.pointer (some a)) w
    | _ => False
  | .binOp op t x y _ => match C.T t with
    | some i => binK C.P i.d op t x y (ev ρ x) (ev ρ y) w K
    | none => False
  | .unOp op _ x => match op, ev ρ x with
    | .not, .bool b => K (.bool (!b)) w
    | .neg, .int k m => K (.int k (k.wrap (0 - m))) w
    | .xor, .int k m => K (.int k (inot k m)) w
    | _, _ => False
  | .convert src dst x => match C.T src with
    | some i => convK C.P C.T i src dst (ev ρ x) w K
    | none => False
  | .makeInterface t x => match C.T t with
    | some i => match i.d with
      | .iface => False
      | .other => False
      | _ => K (.iface t (ev ρ x)) w
    | none => False
  | .makeFunc fn first captured => K (.func fn (evArgs ρ first.toList).toArray (evArgs ρ captured.toList).toArray) w
  | .makeMap t r => RunK C.P (Instr.makeMap t (optEv ρ r)) w fun v w' => dM v fun m => K (.map m) w'
  | .makeSlice t l c => RunK C.P (Instr.makeSlice t (ev ρ l) (ev ρ c)) w fun v w' => dS v fun a n c => K (.slice a n c) w'
  | .slice t x lo hi mx => match mx with
    | some _ => False
    | none => match C.T t with
      | some i => match i.d with
        | .slice e => match ev ρ x with
          | .slice a n c => match C.T e with
            | some q => optI (optEv ρ lo) fun l => optI (optEv ρ hi) fun h => SlK a n c q.size l h fun a' n' c' => K (.slice a' n' c') w
            | none => False
          | _ => False
        | _ => RunK C.P (Instr.sliceAt t (ev ρ x) (optEv ρ lo) (optEv ρ hi) none) w fun v w' => dLf (match i.d with | .str => .str | _ => .sl) v fun v' => K v' w'
      | none => False
  | .fieldAddr t x f => match C.T t with
    | some i => match i.d with
      | .struct fs => match nthF fs f with
        | some p => match C.T p.2 with
          | some q => cond (Nat.beq q.size 0) False (match ev ρ x with
            | .pointer p' => wA p' fun a => K (.pointer (some (a.add p.1))) w
            | _ => False)
          | none => False
        | none => False
      | _ => False
    | none => False
  | .field t x f => match C.T t with
    | some i => match i.d with
      | .struct fs => match nthF fs f with
        | some p => match ev ρ x with
          | .agg cs => partK C.T p.2 cs p.1 fun v => K v w
          | _ => False
        | none => False
      | _ => False
    | none => False
  | .indexAddr t x ix => match C.T t with
    | some i => match ev ρ ix with
      | .int _ j => match i.d with
        | .slice e => match C.T e with
          | some q => match ev ρ x with
            | .slice a n _ => InB j n (wA a fun a => K (.pointer (some (a.add (j.toNat * q.size)))) w)
            | _ => False
          | none => False
        | .arr n e => match C.T e with
          | some q => match ev ρ x with
            | .pointer p => wA p fun a => InB j n (K (.pointer (some (a.add (j.toNat * q.size)))) w)
            | _ => False
          | none => False
        | _ => False
      | _ => False
    | none => False
  | .index t x ix => match C.T t with
    | some i => match ev ρ ix with
      | .int _ j => match i.d with
        | .str => match ev ρ x with
          | .string s => InB j s.size (K (.int .u8 (sb s j.toNat)) w)
          | _ => False
        | .arr n e => match C.T e with
          | some q => match q.agg with
            | true => False
            | false => match q.lf with
              | f :: _ => match ev ρ x with
                | .agg cs => InB j n (cond (Nat.beq q.size 1) (IxV cs.toList j.toNat fun v => dLf f v fun v' => K v' w) False)
                | _ => False
              | [] => False
          | none => False
        | _ => False
      | _ => False
    | none => False
  | .lookup t x ix ok => RunK C.P (Instr.lookup t (ev ρ x) (ev ρ ix) ok) w fun v w' => dR C.T o.type v fun v' => K v' w'
  | .mapUpdate t m k x => RunU C.P (Instr.mapUpdate t (ev ρ m) (ev ρ k) (ev ρ x)) w fun w' => K undef w'
  | .insert t m k x => RunU C.P (Instr.mapUpdate t (ev ρ m) (ev ρ k) (ev ρ x)) w fun w' => K undef w'
  | .typeAssert x xt t ok => RunK C.P (Instr.typeAssert (ev ρ x) xt t ok) w fun v w' => cond ok (dT v fun l => dCons l fun c0 l1 => d1 C.T t c0 fun c0' => dCons l1 fun c1 l2 => dB c1 fun b => dNil l2 (K (.tuple #[c0', .bool b]) w')) (d1 C.T t v fun v' => K v' w')
  | .extract x i => match ev ρ x with
    | .tuple vs => match nthV vs.toList i with
      | some v => K v w
      | none => False
    | _ => False
  | .call c => match c.callee with
    | .builtin b => bltK C b c.argTypes o.type (evArgs ρ c.args.toList) w K
    | .value f => CallV C (ev ρ f) (evArgs ρ c.args.toList) w fun v w' => dR C.T o.type v fun v' => K v' w'
    | .invoke _ _ => False
  | _ => False

def gslot : List Oper → Nat → Option Nat
  | [], _ => none
  | o :: _, 0 => o.dst
  | _ :: l, i + 1 => gslot l i
def dstOk (n : Nat) (d : Option Nat) : Bool := match d with | some d => Nat.blt d n | none => true
/-- What a region's operations ask, in the order of the text. -/
def evOps (C : Cx) (all : List Oper) : List Oper → Env → World → (Env → World → Prop) → Prop
  | [], ρ, w, K => K ρ w
  | o :: r, ρ, w, K => cond (dstOk C.n o.dst) (match o.guard with
    | none => evOp C o ρ w fun v w' => evOps C all r (put ρ o.dst v) w' K
    | some p => match gslot all p.1 with
      | none => False
      | some d => cond (Nat.blt d C.n) (match ρ d with
        | .bool b => match p.2 with
          | true => cond b (evOp C o (put ρ (some d) (.bool true)) w fun v w' => evOps C all r (put (put ρ (some d) (.bool true)) o.dst v) w' K) (evOps C all r (put (put ρ (some d) (.bool false)) o.dst undef) w K)
          | false => cond b (evOps C all r (put (put ρ (some d) (.bool true)) o.dst undef) w K) (evOp C o (put ρ (some d) (.bool false)) w fun v w' => evOps C all r (put (put ρ (some d) (.bool false)) o.dst v) w' K)
        | .tuple _ => evOps C all r (put ρ o.dst undef) w K
        | _ => False) False) False

/-- What may be cut at: the regions' numbers, and what must hold where one of them begins. -/
abbrev Cuts := List (Nat × (Env → World → Prop))
def cutAt : Cuts → Nat → Option (Env → World → Prop)
  | [], _ => none
  | p :: l, i => cond (Nat.beq i p.1) (some p.2) (cutAt l i)
def putO (ρ : Env) (x : Operand) (v : Value) : Env := match x with | .tmp t => put ρ (some t) v | _ => ρ
def exitK (id : Nat) : List Item → Option (List Item)
  | [] => none
  | it :: k => match it with
    | .inBlock i => cond (Nat.beq i id) (some k) (exitK id k)
    | _ => exitK id k
def regK (C : Cx) (D : Nat → List Oper → Env → World → (Env → World → Prop) → Prop) (id : Nat) (ops : Array Oper) (dr : Bool) (ρ : Env) (w : World) (K : Env → World → Prop) : Prop := match dr with
  | false => evOps C ops.toList ops.toList ρ w K
  | true => D id ops.toList ρ w K
/-- What the code ahead asks, as far as the next cut. -/
def evT (C : Cx) (L : Cuts) (R : Env → World → Prop) (D : Nat → List Oper → Env → World → (Env → World → Prop) → Prop) : Nat → Bool → List Item → Env → World → Prop
  | 0, _, _, _, _ => False
  | _ + 1, _, [], ρ, w => R ρ w
  | f + 1, fst, it :: k, ρ, w => match it with
    | .inBlock _ => evT C L R D f fst k ρ w
    | .inLoop c => evT C L R D f fst (.code c :: .inLoop c :: k) ρ w
    | .code c => match c with
      | .skip => evT C L R D f fst k ρ w
      | .seq a b => evT C L R D f fst (.code a :: .code b :: k) ρ w
      | .block id c => evT C L R D f fst (.code c :: .inBlock id :: k) ρ w
      | .loop c => evT C L R D f fst (.code c :: .inLoop c :: k) ρ w
      | .exit id => match exitK id k with
        | some k' => evT C L R D f fst k' ρ w
        | none => False
      | .ret => R ρ w
      | .cond x a b => match ev ρ x with
        | .bool t => cond t (evT C L R D f fst (.code a :: k) (putO ρ x (.bool true)) w) (evT C L R D f fst (.code b :: k) (putO ρ x (.bool false)) w)
        | _ => False
      | .region id ops dr => match (match fst with | true => none | false => cutAt L id) with
        | some q => q ρ w
        | none => regK C D id ops dr ρ w fun ρ' w' => evT C L R D f false k ρ' w'
      | _ => False
    | _ => False

/-- Where the ways from here reach a cut: the region's number, and what stands there. -/
def leaves (ids : List Nat) : Nat → Bool → List Item → List (Nat × List Item)
  | 0, _, _ => []
  | _ + 1, _, [] => []
  | f + 1, fst, it :: k => match it with
    | .inBlock _ => leaves ids f fst k
    | .inLoop c => leaves ids f fst (.code c :: .inLoop c :: k)
    | .code c => match c with
      | .skip => leaves ids f fst k
      | .seq a b => leaves ids f fst (.code a :: .code b :: k)
      | .block id c => leaves ids f fst (.code c :: .inBlock id :: k)
      | .loop c => leaves ids f fst (.code c :: .inLoop c :: k)
      | .exit id => match exitK id k with
        | some k' => leaves ids f fst k'
        | none => []
      | .ret => []
      | .cond x a b => leaves ids f fst (.code a :: k) ++ leaves ids f fst (.code b :: k)
      | .region id ops dr => match (match fst with | true => false | false => ids.contains id) with
        | true => [(id, it :: k)]
        | false => leaves ids f false k
      | _ => []
    | _ => []
end Go.Sx
