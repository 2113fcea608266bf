/- A big-step reading of a function's code: what must hold of the memory for each way through a body; sound for the machine's own steps. It speaks of no one program. -/
import Derived.WalkKit
import Derived.Deep.Quiet
import Derived.KernelRfl
set_option linter.unusedVariables false
set_option linter.unusedSimpArgs false
namespace Go.Sx

/-! ### Slots -/
abbrev Env := Nat → Value
def put (ρ : Env) (d : Option Nat) (v : Value) : Env :=
  match d with
  | some t => fun s => cond (Nat.beq s t) v (ρ s)
  | none => ρ
def ev (ρ : Env) : Operand → Value
  | .tmp t => ρ t
  | .const v => v
  | .global g => .pointer (some ⟨g, 0, none⟩)
  | .func f => .func (.func f) #[] #[]
def nth : List Value → Nat → Value
  | [], _ => undef
  | v :: _, 0 => v
  | _ :: l, i + 1 => nth l i
def argEnv (l : List Value) : Env := fun t => nth l t

/-! ### What is known of the types -/
inductive Lf where
  | int (k : IntKind) | bool | str | ptr | sl | map | any
inductive TD where
  | int (k : IntKind) | bool | str | ptr | map | iface | func | other
  | slice (e : TypeId)
  | arr (n : Nat) (e : TypeId)
  | struct (fs : List (Nat × TypeId))
  | tup (ts : List TypeId)
structure TI where
  d : TD
  size : Nat
  bytes : Nat
  zero : List Value
  lf : List Lf
abbrev Tab := TypeId → Option TI
def tabOf : List (Nat × TI) → Tab
  | [], _ => none
  | p :: l, t => cond (Nat.beq t p.1) (some p.2) (tabOf l t)
def mkTD : TypeDesc → TD
  | .int k => .int k
  | .bool => .bool
  | .string => .str
  | .pointer _ => .ptr
  | .map _ _ => .map
  | .interface _ => .iface
  | .func _ _ _ => .func
  | .slice e => .slice e
  | .array n e => .arr n e
  | .struct fs => .struct (fs.toList.map fun f => (f.offset, f.type))
  | .tuple ts => .tup ts.toList
  | _ => .other
def viewTI (P : Program) (t : TypeId) : Option (TD × Nat × Nat × List Value) :=
  match P.info? t, P.underlying t with
  | some i, some u => match i.zero with
    | some z => some (mkTD u, i.size, i.bytes, z.cells.toList)
    | none => none
  | _, _ => none
def OkTab (P : Program) (T : Tab) : Prop := ∀ t i, T t = some i → viewTI P t = some (i.d, i.size, i.bytes, i.zero)
theorem okTab_of (P : Program) (l : List (Nat × TI)) (h : l.map (fun p => viewTI P p.1) = l.map (fun p => some (p.2.d, p.2.size, p.2.bytes, p.2.zero))) : OkTab P (tabOf l) := by
  induction l with
  | nil => intro t i h; cases h
  | cons p l ih =>
    simp only [List.map_cons, List.cons.injEq] at h
    intro t i ht
    simp only [tabOf] at ht
    cases hb : Nat.beq t p.1 with
    | true =>
      rw [hb] at ht
      simp only [cond_true, Option.some.injEq] at ht
      subst ht
      rw [Nat.eq_of_beq_eq_true hb]
      exact h.1
    | false =>
      rw [hb] at ht
      exact ih h.2 t i ht
def TI.agg (i : TI) : Bool := match i.d with | .arr _ _ => true | .struct _ => true | _ => false
def zc (T : Tab) (t : TypeId) : List Value := match T t with | some i => i.zero | none => []

/-! ### Values taken apart -/
def ikN : IntKind → Nat
  | .i8 => 0 | .i16 => 1 | .i32 => 2 | .i64 => 3 | .u8 => 4 | .u16 => 5 | .u32 => 6 | .u64 => 7
def dI (k : IntKind) (v : Value) (K : Int → Prop) : Prop := match v with | .int k' n => cond (Nat.beq (ikN k') (ikN k)) (K n) False | _ => False
def dB (v : Value) (K : Bool → Prop) : Prop := match v with | .bool b => K b | _ => False
def dStr (v : Value) (K : ByteArray → Prop) : Prop := match v with | .string b => K b | _ => False
def dP (v : Value) (K : Option Addr → Prop) : Prop := match v with | .pointer p => K p | _ => False
def dS (v : Value) (K : Option Addr → Nat → Nat → Prop) : Prop := match v with | .slice a n c => K a n c | _ => False
def dM (v : Value) (K : Option Nat → Prop) : Prop := match v with | .map r => K r | _ => False
def dL (v : Value) (K : List Value → Prop) : Prop := match v with | .agg cs => K cs.toList | _ => False
def dT (v : Value) (K : List Value → Prop) : Prop := match v with | .tuple cs => K cs.toList | _ => False
def dCons (l : List Value) (K : Value → List Value → Prop) : Prop := match l with | v :: r => K v r | [] => False
def dNil (l : List Value) (K : Prop) : Prop := match l with | [] => K | _ :: _ => False
def Value.plain : Value → Bool | .agg _ => false | .tuple _ => false | _ => true
def dV (v : Value) (K : Value → Prop) : Prop := cond (Value.plain v) (K v) False
def dLf (l : Lf) (v : Value) (K : Value → Prop) : Prop := match l with
  | .int k => dI k v fun n => K (.int k n)
  | .bool => dB v fun b => K (.bool b)
  | .str => dStr v fun s => K (.string s)
  | .ptr => dP v fun p => K (.pointer p)
  | .sl => dS v fun a n c => K (.slice a n c)
  | .map => dM v fun r => K (.map r)
  | .any => dV v K
def dLfs : List Lf → List Value → (List Value → Prop) → Prop
  | [], l, K => dNil l (K [])
  | f :: fs, l, K => dCons l fun v r => dLf f v fun v' => dLfs fs r fun vs => K (v' :: vs)
/-- A value of a type that is no tuple. -/
def d1 (T : Tab) (t : TypeId) (v : Value) (K : Value → Prop) : Prop := match T t with
  | some i => match i.agg with
    | true => dL v fun l => dLfs i.lf l fun vs => K (.agg vs.toArray)
    | false => match i.lf with
      | f :: _ => dLf f v K
      | [] => False
  | none => False
def dTs (T : Tab) : List TypeId → List Value → (List Value → Prop) → Prop
  | [], l, K => dNil l (K [])
  | t :: ts, l, K => dCons l fun v r => d1 T t v fun v' => dTs T ts r fun vs => K (v' :: vs)
/-- What a call hands back. -/
def dR (T : Tab) (t : TypeId) (v : Value) (K : Value → Prop) : Prop := match T t with
  | some i => match i.d with
    | .tup ts => dT v fun l => dTs T ts l fun vs => K (.tuple vs.toArray)
    | _ => d1 T t v K
  | none => False

theorem dI_elim {k : IntKind} {v : Value} {K : Int → Prop} (h : dI k v K) : ∃ n, v = .int k n ∧ K n := by
  cases v with
  | int k' n =>
    simp only [dI] at h
    cases hb : Nat.beq (ikN k') (ikN k) with
    | true =>
      rw [hb] at h
      have : k' = k := by cases k' <;> cases k <;> first | rfl | (exact absurd hb (by decide))
      subst this
      exact ⟨n, rfl, h⟩
    | false => rw [hb] at h; exact h.elim
  | _ => exact h.elim
theorem dB_elim {v : Value} {K : Bool → Prop} (h : dB v K) : ∃ b, v = .bool b ∧ K b := by
  cases v <;> first | exact ⟨_, rfl, h⟩ | exact h.elim
theorem dStr_elim {v : Value} {K : ByteArray → Prop} (h : dStr v K) : ∃ b, v = .string b ∧ K b := by
  cases v <;> first | exact ⟨_, rfl, h⟩ | exact h.elim
theorem dP_elim {v : Value} {K : Option Addr → Prop} (h : dP v K) : ∃ b, v = .pointer b ∧ K b := by
  cases v <;> first | exact ⟨_, rfl, h⟩ | exact h.elim
theorem dS_elim {v : Value} {K : Option Addr → Nat → Nat → Prop} (h : dS v K) : ∃ a n c, v = .slice a n c ∧ K a n c := by
  cases v <;> first | exact ⟨_, _, _, rfl, h⟩ | exact h.elim
theorem dM_elim {v : Value} {K : Option Nat → Prop} (h : dM v K) : ∃ b, v = .map b ∧ K b := by
  cases v <;> first | exact ⟨_, rfl, h⟩ | exact h.elim
theorem dL_elim {v : Value} {K : List Value → Prop} (h : dL v K) : ∃ l, v = .agg l.toArray ∧ K l := by
  cases v <;> first | exact ⟨_, rfl, h⟩ | exact h.elim
theorem dT_elim {v : Value} {K : List Value → Prop} (h : dT v K) : ∃ l, v = .tuple l.toArray ∧ K l := by
  cases v <;> first | exact ⟨_, rfl, h⟩ | exact h.elim
theorem dCons_elim {l : List Value} {K : Value → List Value → Prop} (h : dCons l K) : ∃ v r, l = v :: r ∧ K v r := by
  cases l <;> first | exact ⟨_, _, rfl, h⟩ | exact h.elim
theorem dNil_elim {l : List Value} {K : Prop} (h : dNil l K) : l = [] ∧ K := by
  cases l <;> first | exact ⟨rfl, h⟩ | exact h.elim
theorem dV_elim {v : Value} {K : Value → Prop} (h : dV v K) : Value.plain v = true ∧ K v := by
  unfold dV at h
  cases hp : Value.plain v with
  | true => rw [hp] at h; exact ⟨rfl, h⟩
  | false => rw [hp] at h; exact h.elim
theorem dLf_elim {f : Lf} {v : Value} {K : Value → Prop} (h : dLf f v K) : Value.plain v = true ∧ K v := by
  cases f with
  | int k => obtain ⟨n, rfl, h'⟩ := dI_elim h; exact ⟨rfl, h'⟩
  | bool => obtain ⟨n, rfl, h'⟩ := dB_elim h; exact ⟨rfl, h'⟩
  | str => obtain ⟨n, rfl, h'⟩ := dStr_elim h; exact ⟨rfl, h'⟩
  | ptr => obtain ⟨n, rfl, h'⟩ := dP_elim h; exact ⟨rfl, h'⟩
  | sl => obtain ⟨a, n, c, rfl, h'⟩ := dS_elim h; exact ⟨rfl, h'⟩
  | map => obtain ⟨n, rfl, h'⟩ := dM_elim h; exact ⟨rfl, h'⟩
  | any => exact dV_elim h
theorem dLfs_elim : ∀ {fs : List Lf} {l : List Value} {K : List Value → Prop}, dLfs fs l K → K l
  | [], l, K, h => by obtain ⟨rfl, h'⟩ := dNil_elim h; exact h'
  | f :: fs, l, K, h => by
    obtain ⟨v, r, rfl, h'⟩ := dCons_elim h
    exact dLfs_elim (K := fun vs => K (v :: vs)) (dLf_elim h').2
theorem d1_elim {T : Tab} {t : TypeId} {v : Value} {K : Value → Prop} (h : d1 T t v K) : K v := by
  unfold d1 at h
  split at h
  · split at h
    · obtain ⟨l, rfl, h'⟩ := dL_elim h; exact dLfs_elim h'
    · split at h
      · exact (dLf_elim h).2
      · exact h.elim
  · exact h.elim
theorem dTs_elim {T : Tab} : ∀ {ts : List TypeId} {l : List Value} {K : List Value → Prop}, dTs T ts l K → K l
  | [], l, K, h => by obtain ⟨rfl, h'⟩ := dNil_elim h; exact h'
  | t :: ts, l, K, h => by
    obtain ⟨v, r, rfl, h'⟩ := dCons_elim h
    exact dTs_elim (K := fun vs => K (v :: vs)) (d1_elim h')
theorem dR_elim {T : Tab} {t : TypeId} {v : Value} {K : Value → Prop} (h : dR T t v K) : K v := by
  unfold dR at h
  split at h
  · split at h
    · obtain ⟨l, rfl, h'⟩ := dT_elim h; exact dTs_elim h'
    · exact d1_elim h
  · exact h.elim

/-! ### Memory -/
def LdI (k : IntKind) (a : Addr) (w : World) (K : Int → Prop) : Prop := ∃ n, w.cell? a = some (.int k n) ∧ K n
def LdB (a : Addr) (w : World) (K : Bool → Prop) : Prop := ∃ b, w.cell? a = some (.bool b) ∧ K b
def LdStr (a : Addr) (w : World) (K : ByteArray → Prop) : Prop := ∃ b, w.cell? a = some (.string b) ∧ K b
def LdP (a : Addr) (w : World) (K : Option Addr → Prop) : Prop := ∃ b, w.cell? a = some (.pointer b) ∧ K b
def LdS (a : Addr) (w : World) (K : Option Addr → Nat → Nat → Prop) : Prop := ∃ b n c, w.cell? a = some (.slice b n c) ∧ K b n c
def LdM (a : Addr) (w : World) (K : Option Nat → Prop) : Prop := ∃ b, w.cell? a = some (.map b) ∧ K b
def LdV (a : Addr) (w : World) (K : Value → Prop) : Prop := ∃ v, w.cell? a = some v ∧ Value.plain v = true ∧ K v
def ld1 (l : Lf) (a : Addr) (w : World) (K : Value → Prop) : Prop := match l with
  | .int k => LdI k a w fun n => K (.int k n)
  | .bool => LdB a w fun b => K (.bool b)
  | .str => LdStr a w fun s => K (.string s)
  | .ptr => LdP a w fun p => K (.pointer p)
  | .sl => LdS a w fun b n c => K (.slice b n c)
  | .map => LdM a w fun r => K (.map r)
  | .any => LdV a w K
def ldCells : List Lf → Addr → Nat → World → (List Value → Prop) → Prop
  | [], _, _, _, K => K []
  | l :: r, a, i, w, K => ld1 l (a.add i) w fun v => ldCells r a (i + 1) w fun vs => K (v :: vs)
def ldT (T : Tab) (t : TypeId) (a : Addr) (w : World) (K : Value → Prop) : Prop := match T t with
  | some i => match i.agg with
    | true => cond (Nat.beq i.lf.length i.size) (ldCells i.lf a 0 w fun vs => K (.agg vs.toArray)) False
    | false => match i.lf with
      | f :: _ => ld1 f a w K
      | [] => False
  | none => False
def St (a : Addr) (v : Value) (w : World) (K : World → Prop) : Prop := (∃ u, w.cell? a = some u) ∧ w.frozen? a = false ∧ K (w.setCell a v)
def stCells : List Value → Addr → Nat → World → (World → Prop) → Prop
  | [], _, _, w, K => K w
  | v :: r, a, i, w, K => cond (Value.plain v) (St (a.add i) v w fun w' => stCells r a (i + 1) w' K) False
def stT (T : Tab) (t : TypeId) (a : Addr) (v : Value) (w : World) (K : World → Prop) : Prop := match T t with
  | some i => match i.agg with
    | true => match v with
      | .agg cs => cond (Nat.beq cs.toList.length i.size) (stCells cs.toList a 0 w K) False
      | _ => False
    | false => cond (Nat.beq 1 i.size) (cond (Value.plain v) (St a v w K) False) False
  | none => False
def wA (p : Option Addr) (K : Addr → Prop) : Prop := match p with | some a => K a | none => False
/-- An index that is checked. -/
def InB (i : Int) (n : Nat) (K : Prop) : Prop := 0 ≤ i ∧ i < (n : Int) ∧ K
def NZ (b : Int) (K : Prop) : Prop := b ≠ 0 ∧ K
def SlK (A : Option Addr) (n c size : Nat) (lo hi : Option Int) (K : Option Addr → Nat → Nat → Prop) : Prop :=
  (∀ h, hi = some h → 0 ≤ h ∧ h ≤ (c : Int)) ∧ (∀ l, lo = some l → 0 ≤ l ∧ l ≤ (((hi.map Int.toNat).getD n : Nat) : Int)) ∧
    K (if c = (lo.map Int.toNat).getD 0 then A else A.map (·.add ((lo.map Int.toNat).getD 0 * size))) ((hi.map Int.toNat).getD n - (lo.map Int.toNat).getD 0) (c - (lo.map Int.toNat).getD 0)
def RunK (P : Program) (s : Sem Value) (w : World) (K : Value → World → Prop) : Prop := match s.run P w with
  | .ok v w' => K v w'
  | .halt _ _ => False
def RunU (P : Program) (s : Sem Unit) (w : World) (K : World → Prop) : Prop := match s.run P w with
  | .ok _ w' => K w'
  | .halt _ _ => False
def CallK (P : Program) (f : FuncId) (args : Array Value) (w : World) (K : Value → World → Prop) : Prop :=
  Calls P f args w fun e w' => match e with | .returned v => K v w' | _ => False

/-! ### One operation -/
def iand (k : IntKind) (a b : Int) : Int := k.wrap (BitVec.ofInt k.bits a &&& BitVec.ofInt k.bits b).toNat
def ior (k : IntKind) (a b : Int) : Int := k.wrap (BitVec.ofInt k.bits a ||| BitVec.ofInt k.bits b).toNat
def ixor (k : IntKind) (a b : Int) : Int := k.wrap (BitVec.ofInt k.bits a ^^^ BitVec.ofInt k.bits b).toNat
def ishl (k : IntKind) (a b : Int) : Int := k.wrap (a * 2 ^ (min b.toNat k.bits))
def ishr (k : IntKind) (a b : Int) : Int := a.fdiv (2 ^ (min b.toNat k.bits))
def NNg (b : Int) (K : Prop) : Prop := 0 ≤ b ∧ K
def arith (op : BinOp) (k : IntKind) (a b : Int) (K : Value → Prop) : Prop := match op with
  | .add => K (.int k (k.wrap (a + b)))
  | .sub => K (.int k (k.wrap (a - b)))
  | .mul => K (.int k (k.wrap (a * b)))
  | .quo => NZ b (K (.int k (k.wrap (a.tdiv b))))
  | .rem => NZ b (K (.int k (a.tmod b)))
  | .and => K (.int k (iand k a b))
  | .or => K (.int k (ior k a b))
  | .xor => K (.int k (ixor k a b))
  | .eql => K (.bool (a == b))
  | .neq => K (.bool (a != b))
  | .lss => K (.bool (decide (a < b)))
  | .leq => K (.bool (decide (a ≤ b)))
  | .gtr => K (.bool (decide (a > b)))
  | .geq => K (.bool (decide (a ≥ b)))
  | _ => False
def sliceNil (A : Option Addr) : Bool := A.isNone
/-- '==' of two values. -/
def eqK (P : Program) (t : TypeId) (x y : Value) (w : World) (K : Bool → World → Prop) : Prop :=
  match (Op.equal t x y).run P w with
  | .ok b w' => K b w'
  | .halt _ _ => False
def isNilI : Value → Bool | .nilIface => true | _ => false
/-- Is this operand the constant nil of such a type? -/
def isNilC (d : TD) : Operand → Bool
  | .const v => match d with
    | .ptr => match v with | .pointer p => p.isNone | _ => false
    | .slice _ => match v with | .slice p n c => p.isNone && Nat.beq n 0 && Nat.beq c 0 | _ => false
    | .map => match v with | .map p => p.isNone | _ => false
    | .iface => match v with | .nilIface => true | _ => false
    | .func => match v with | .nilFunc => true | _ => false
    | _ => false
  | _ => false
def dIf (v : Value) (K : Bool → Prop) : Prop := match v with | .nilIface => K true | .iface _ _ => K false | _ => False
def dFn (v : Value) (K : Bool → Prop) : Prop := match v with | .nilFunc => K true | .func _ _ _ => K false | _ => False
/-- Is a value of such a type nil? -/
def dNilV (d : TD) (v : Value) (K : Bool → Prop) : Prop := match d with
  | .ptr => dP v fun p => K p.isNone
  | .slice _ => dS v fun p _ _ => K p.isNone
  | .map => dM v fun p => K p.isNone
  | .iface => dIf v K
  | .func => dFn v K
  | _ => False
def eqR (op : BinOp) (r : Bool) (K : Bool → Prop) : Prop := match op with
  | .eql => K r
  | .neq => K (!r)
  | _ => False
def binK (P : Program) (d : TD) (op : BinOp) (t : TypeId) (x y : Operand) (a b : Value) (w : World) (K : Value → World → Prop) : Prop :=
  match d with
  | .int _ => match a with
    | .int k a => match b with
      | .int k' b => match op with
        | .shl => NNg b (K (.int k (ishl k a b)) w)
        | .shr => NNg b (K (.int k (ishr k a b)) w)
        | _ => cond (Nat.beq (ikN k) (ikN k')) (arith op k a b fun v => K v w) False
      | _ => False
    | _ => False
  | .str => match a with
    | .string a => match b with
      | .string b => match op with
        | .eql => K (.bool (a.toList == b.toList)) w
        | .neq => K (.bool (!(a.toList == b.toList))) w
        | _ => False
      | _ => False
    | _ => False
  | .bool => match a with
    | .bool a => match b with
      | .bool b => eqR op (a == b) fun r => K (.bool r) w
      | _ => False
    | _ => False
  | d => match isNilC d y with
    | true => dNilV d a fun r => eqR op r fun r => K (.bool r) w
    | false => match isNilC d x with
      | true => dNilV d b fun r => eqR op r fun r => K (.bool r) w
      | false => RunK P (do eqGuard op t x y a b; binOp op t a b) w fun v w' => dB v fun r => K (.bool r) w'
def nthF : List (Nat × TypeId) → Nat → Option (Nat × TypeId)
  | [], _ => none
  | x :: _, 0 => some x
  | _ :: l, i + 1 => nthF l i
def nthV : List Value → Nat → Option Value
  | [], _ => none
  | v :: _, 0 => some v
  | _ :: l, i + 1 => nthV l i
/-- A part of a struct's or an array's cells. -/
def partK (T : Tab) (t : TypeId) (cs : Array Value) (off : Nat) (K : Value → Prop) : Prop := match T t with
  | some i => match i.agg with
    | true => K (.agg (cs.extract off (off + i.size)))
    | false => match nthV cs.toList off with
      | some v => K v
      | none => False
  | none => False
def placesL (T : Tab) : List (Nat × TypeId) → Option (List (Nat × Nat))
  | [] => some []
  | p :: l => match T p.2 with
    | some q => match placesL T l with
      | some r => some ((p.1, q.size) :: r)
      | none => none
    | none => none
def nthP : List (Nat × Nat) → Nat → Option (Nat × Nat)
  | [], _ => none
  | x :: _, 0 => some x
  | _ :: l, i + 1 => nthP l i
def place (T : Tab) (t : TypeId) : Option (Nat → Option (Nat × Nat)) := match T t with
  | some i => match i.d with
    | .struct fs => match placesL T fs with
      | some l => some (nthP l)
      | none => none
    | .arr _ e => match T e with
      | some q => some fun j => some (j * q.size, q.size)
      | none => none
    | _ => none
  | none => none
/-- Parts laid into cells. -/
def putCells : List Value → Nat → List Value → List Value
  | [], _, _ => []
  | c :: cs, 0, [] => c :: cs
  | _ :: cs, 0, v :: vs => v :: putCells cs 0 vs
  | c :: cs, n + 1, vs => c :: putCells cs n vs
def fillL (place : Nat → Option (Nat × Nat)) : List Value → List (Nat × Value) → Option (List Value)
  | cells, [] => some cells
  | cells, (i, v) :: r => match place i with
    | none => none
    | some p => cond (Nat.beq v.cells.toList.length p.2) (cond (Nat.ble (p.1 + v.cells.toList.length) cells.length) (fillL place (putCells cells p.1 v.cells.toList) r) none) none
def evParts (ρ : Env) : List (Nat × Operand) → List (Nat × Value)
  | [] => []
  | p :: l => (p.1, ev ρ p.2) :: evParts ρ l
def evArgs (ρ : Env) : List Operand → List Value
  | [] => []
  | x :: l => ev ρ x :: evArgs ρ l
def reps (z : List Value) : Nat → List Value
  | 0 => []
  | n + 1 => z ++ reps z n
def convK (P : Program) (T : Tab) (i : TI) (src dst : TypeId) (x : Value) (w : World) (K : Value → World → Prop) : Prop := match i.d with
  | .int _ => match T dst with
    | some j => match j.d with
      | .int k => match x with
        | .int _ n => K (.int k (k.wrap n)) w
        | _ => False
      | _ => RunK P (convert src dst x) w fun v w' => d1 T dst v fun v' => K v' w'
    | none => False
  | _ => RunK P (convert src dst x) w fun v w' => d1 T dst v fun v' => K v' w'
end Go.Sx
