/- Layer 6: TallyOrder answers true. -/
import Derived.Test.YthelhikocaeecaaYC
set_option linter.unusedVariables false
set_option linter.unusedSimpArgs false
namespace Go.Proofs.Ythelhikocaeecaa.S
open Go.Sx

def eq6 (a b c d e f a' b' c' d' e' f' : Int) : Bool := (a == a') && ((b == b') && ((c == c') && ((d == d') && ((e == e') && ((f == f') && true)))))
theorem eq6_le {a b c d e f a' b' c' d' e' f' : Int} : eq6 a b c d e f a' b' c' d' e' f' = (le6 a b c d e f a' b' c' d' e' f' && le6 a' b' c' d' e' f' a b c d e f) := by
  unfold eq6 le6
  rw [Bool.eq_iff_iff]
  simp only [Bool.and_eq_true, beq_iff_eq, decide_eq_true_eq, and_true]
  omega
theorem le6_self {a b c d e f : Int} : le6 a b c d e f a b c d e f = true := by simp [le6]
theorem eql28 {x y : Operand} {a b c d e f a' b' c' d' e' f' : Int} {w : World} {K : Bool → World → Prop} (h : K (eq6 a b c d e f a' b' c' d' e' f') w) :
    EqK P .eql 28 x y (.agg #[.int .u64 a, .int .u64 b, .int .u64 c, .int .u64 d, .int .u64 e, .int .u64 f]) (.agg #[.int .u64 a', .int .u64 b', .int .u64 c', .int .u64 d', .int .u64 e', .int .u64 f']) w K :=
  EqK_of Try.underlying28 (by kernel_rfl) (by kernel_rfl) (by kernel_rfl) h
attribute [local irreducible] LdI LdB LdStr LdP LdS LdM LdV St Bx Al App Cpy MkS MkM EqK RunK RunU CallK SlK blkA
section
variable {F : Nat → Prop} {W w : World} {L : List As} {Q : Bool → World → Prop} {x y i j : Nat} {tx ty : TypeId} {a b c d e f a' b' c' d' e' f' : Int} {want : Bool}
set_option maxHeartbeats 2000000 in
theorem Order_b16 (s : Sep F W w L)
    (hi : L[i]? = some (blkA x tx [.int .u64 a, .int .u64 b, .int .u64 c, .int .u64 d, .int .u64 e, .int .u64 f]))
    (hj : L[j]? = some (blkA y ty [.int .u64 a', .int .u64 b', .int .u64 c', .int .u64 d', .int .u64 e', .int .u64 f']))
    (hw : want = le6 a b c d e f a' b' c' d' e' f') (h : ∀ w', Sep F W w' L → Q true w') : herdsmanlaw6_TallyOrder.b16 Q ⟨x, 0, none⟩ ⟨y, 0, none⟩ want w := by
  subst hw
  unfold herdsmanlaw6_TallyOrder.b16
  refine herdsmanlaw6_told.spec ?_
  have hz := @eq6_le a b c d e f a' b' c' d' e' f'
  have ha := @le6_self a b c d e f
  rw [cond_true]
  cases hx : le6 a b c d e f a' b' c' d' e' f' <;> cases hy : le6 a' b' c' d' e' f' a b c d e f <;> rw [hx, hy] at hz <;>
  repeat' first
    | refine Sep.LdI s rfl hi rfl ?_
    | refine Sep.LdI s rfl hj rfl ?_
    | refine ⟨Sep.cell s rfl hi rfl, ?_⟩
    | refine ⟨Sep.cell s rfl hj rfl, ?_⟩
    | refine tally_Below.spec s fun w' s => ?_
    | refine eql28 ?_
    | exact h _ s
    | rw [hx]
    | rw [hy]
    | rw [hz]
    | rw [ha]
    | rw [cond_true]
    | rw [cond_false]
    | rw [Bool.and_true]
    | rw [beq_self_eq_true]
    | refine ⟨?_, ?_⟩
end
end Go.Proofs.Ythelhikocaeecaa.S
