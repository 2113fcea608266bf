/- A region that draws its order: the reading along a script, and its soundness for every order. -/
import Derived.Test.YtjndgflalbcngaaSx9
set_option linter.unusedVariables false
set_option linter.unusedSimpArgs false
namespace Go.Sx

inductive Scr where
  | done
  | op (i : Nat) (s : Scr)
  | br (a b : Scr)
def nthO : List Oper → Nat → Option Oper
  | [], _ => none
  | o :: _, 0 => some o
  | _ :: l, i + 1 => nthO l i
theorem nthO_eq : ∀ (l : List Oper) (i : Nat), nthO l i = l[i]?
  | [], i => by simp [nthO]
  | v :: l, 0 => by simp [nthO]
  | v :: l, i + 1 => by simp [nthO, nthO_eq l i]
def nthN : List Nat → Nat → Nat
  | [], _ => 0
  | v :: _, 0 => v
  | _ :: l, i + 1 => nthN l i
/-- Whom an operation waits for, at once or through others: a number whose bits are places. -/
def maskE (acc : List Nat) : List Edge → Nat
  | [] => 0
  | e :: l => cond (Region.binds .any e) (2 ^ e.on ||| nthN acc e.on ||| maskE acc l) (maskE acc l)
def masks : List Oper → List Nat → List Nat
  | [], acc => acc
  | o :: r, acc => masks r (acc ++ [maskE acc o.after.toList])
def anc (m : List Nat) (i j : Nat) : Bool := (nthN m i).testBit j
abbrev Held := List (Nat × List (Addr × Value))
def heldK : List (Addr × Value) → World → Prop → Prop
  | [], _, K => K
  | p :: l, w, K => w.cell? p.1 = some p.2 ∧ heldK l w K
def heldH (m : List Nat) (i : Nat) : Held → World → Prop → Prop
  | [], _, K => K
  | p :: H, w, K => cond (anc m i p.1) (heldH m i H w K) (heldK p.2 w (heldH m i H w K))
def wantE (all : List Oper) (o : Oper) (ρ : Env) : Option Bool := match o.guard with
  | none => some true
  | some p => match gslot all p.1 with
    | none => none
    | some d => match ρ d with
      | .bool b => some (b == p.2)
      | .tuple _ => some false
      | _ => none
/-- The reading along a script. -/
def evD (C : Cx) (all : List Oper) (m : List Nat) : Scr → Held → Env → World → (Env → World → Prop) → Prop
  | .done, _, ρ, w, K => K ρ w
  | .br a b, H, ρ, w, K => evD C all m a H ρ w K ∧ evD C all m b H ρ w K
  | .op i s, H, ρ, w, K => match nthO all i with
    | none => False
    | some o => cond (dstOk C.n o.dst) (match o.guard with
      | none => cond (isQ C o) (evOp C o ρ w fun v w' => evD C all m s ((i, factsOf C o ρ v) :: H) (put ρ o.dst v) w' K)
          (evOp C o ρ w fun v w' => heldH m i H w' (evD C all m s H (put ρ o.dst v) w' K))
      | some p => match gslot all p.1 with
        | none => False
        | some d => cond (Nat.blt d C.n) (match ρ d with
          | .bool b => match p.2 with
            | true => cond b
              (cond (isQ C o) (evOp C o (put ρ (some d) (.bool true)) w fun v w' => evD C all m s ((i, factsOf C o (put ρ (some d) (.bool true)) v) :: H) (put (put ρ (some d) (.bool true)) o.dst v) w' K)
                (evOp C o (put ρ (some d) (.bool true)) w fun v w' => heldH m i H w' (evD C all m s H (put (put ρ (some d) (.bool true)) o.dst v) w' K)))
              (evD C all m s H (put (put ρ (some d) (.bool false)) o.dst undef) w K)
            | false => cond b
              (evD C all m s H (put (put ρ (some d) (.bool true)) o.dst undef) w K)
              (cond (isQ C o) (evOp C o (put ρ (some d) (.bool false)) w fun v w' => evD C all m s ((i, factsOf C o (put ρ (some d) (.bool false)) v) :: H) (put (put ρ (some d) (.bool false)) o.dst v) w' K)
                (evOp C o (put ρ (some d) (.bool false)) w fun v w' => heldH m i H w' (evD C all m s H (put (put ρ (some d) (.bool false)) o.dst v) w' K)))
          | .tuple _ => evD C all m s H (put ρ o.dst undef) w K
          | _ => False) False) False

/-! ### What is asked of the script -/
def memN : Nat → List Nat → Bool
  | _, [] => false
  | i, j :: l => cond (Nat.beq i j) true (memN i l)
def edgesIn (ex : List Nat) : List Edge → Bool
  | [] => true
  | e :: l => cond (Region.binds .any e) (memN e.on ex && edgesIn ex l) (edgesIn ex l)
def edgesDown (i : Nat) : List Edge → Bool
  | [] => true
  | e :: l => cond (Region.binds .any e) (Nat.blt e.on i && edgesDown i l) (edgesDown i l)
def heads : Scr → List Nat
  | .done => []
  | .op i _ => [i]
  | .br a b => heads a ++ heads b
/-- Nobody may come up now but these, who act. -/
def closedB (C : Cx) (ex hs : List Nat) : Nat → List Oper → Bool
  | _, [] => true
  | j, o :: r => (memN j ex || !edgesIn ex o.after.toList || (!isQ C o && memN j hs)) && closedB C ex hs (j + 1) r
def allB (ex : List Nat) : Nat → List Oper → Bool
  | _, [] => true
  | j, _ :: r => memN j ex && allB ex (j + 1) r
def actB (C : Cx) (all : List Oper) : List Nat → Bool
  | [] => true
  | i :: l => (match nthO all i with | some o => !isQ C o | none => false) && actB C all l
def okS (C : Cx) (all : List Oper) : Bool → Scr → List Nat → Bool
  | _, .done, ex => allB ex 0 all
  | top, .op i s, ex => match nthO all i with
    | none => false
    | some o => !memN i ex && edgesIn ex o.after.toList && (isQ C o || !top || closedB C ex [i] 0 all) && okS C all true s (i :: ex)
  | top, .br a b, ex => (!top || (closedB C ex (heads a ++ heads b) 0 all && actB C all (heads a ++ heads b))) && okS C all false a ex && okS C all false b ex
def looks (all : List Oper) (o : Oper) : List Nat := (o.op.operands.toList.filterMap fun | .tmp t => some t | _ => none) ++ (match o.guard with | some p => (match gslot all p.1 with | some d => [d] | none => []) | none => [])
/-- Operation i only computes or reads: nobody else writes its slot; who looks at its slot waits for it; who writes a slot that it looks at waits for it, or it waits for him. -/
def pairB (C : Cx) (all : List Oper) (m : List Nat) (i : Nat) (o : Oper) : Nat → List Oper → Bool
  | _, [] => true
  | j, q :: r => (Nat.beq i j || (
      (match o.dst with
        | none => true
        | some d => (match q.dst with | some e => !Nat.beq d e | none => true) && (!memN d (looks all q) || anc m j i)) &&
      (match q.dst with
        | none => true
        | some e => !memN e (looks all o) || anc m i j || (anc m j i && !isQ C q)))) && pairB C all m i o (j + 1) r
def pairsB (C : Cx) (all : List Oper) (m : List Nat) : Nat → List Oper → Bool
  | _, [] => true
  | i, o :: r => (!isQ C o || (pairB C all m i o 0 all && !(match o.dst with | some d => memN d (looks all o) | none => false))) && edgesDown i o.after.toList && pairsB C all m (i + 1) r
def noSelB : List Oper → Bool
  | [] => true
  | o :: r => (match o.op with | .select _ _ => false | _ => true) && noSelB r
def okRegion (C : Cx) (all : List Oper) (m : List Nat) (s : Scr) : Bool := okS C all true s [] && pairsB C all m 0 all && noSelB all
end Go.Sx
