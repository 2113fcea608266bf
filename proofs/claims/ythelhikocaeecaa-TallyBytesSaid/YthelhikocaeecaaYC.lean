/- Layer 6: Below, and TallyOrder answers true. -/
import Derived.Test.YthelhikocaeecaaYA
set_option linter.unusedVariables false
set_option linter.unusedSimpArgs false
namespace Go.Proofs.Ythelhikocaeecaa.S
open Go.Sx

def le6 (a b c d e f a' b' c' d' e' f' : Int) : Bool := decide (a ≤ a' ∧ b ≤ b' ∧ c ≤ c' ∧ d ≤ d' ∧ e ≤ e' ∧ f ≤ f')
section
variable {F : Nat → Prop} {W w : World} {L : List As} {Q : Bool → World → Prop}
theorem Below_round {bx y : Nat} {tx ty : TypeId} {xs ys : List Value} {i j k n : Nat} {t : Int} {p q : Int} (s : Sep F W w L) (ht : t = n) (hn : n < 6)
    (hi : L[i]? = some (blkA bx tx xs)) (hj : L[j]? = some (blkA y ty ys)) (hp : xs[n]? = some (.int .u64 p)) (hq : ys[n]? = some (.int .u64 q))
    (hf : q < p → Q false w.drew) (h : p ≤ q → tally_Below.b3 Q k ⟨bx, 0, none⟩ ⟨y, 0, none⟩ ((n + 1 : Nat) : Int) w.drew) : tally_Below.b3 Q (k + 1) ⟨bx, 0, none⟩ ⟨y, 0, none⟩ t w := by
  subst ht
  show tally_Below.s3 Q (tally_Below.b3 Q k) _ _ _ _
  unfold tally_Below.s3
  rw [decide_eq_true (by omega), cond_true]
  refine ⟨by omega, by omega, ?_⟩
  have e1 : ((n : Int).toNat * 1) = n := by omega
  rw [e1]
  have s' : Sep F W w.drew L := s
  refine Sep.LdI s' (by rw [add_flat, Nat.zero_add]) hi hp ?_
  refine ⟨by omega, by omega, ?_⟩
  refine Sep.LdI s' (by rw [add_flat, Nat.zero_add]) hj hq ?_
  by_cases hc : p > q
  · rw [decide_eq_true hc, cond_true]
    exact hf hc
  · rw [decide_eq_false hc, cond_false, wrap_i64 (by omega) (by omega)]
    exact h (by omega)
theorem Below_b2 {bx y : Nat} {tx ty : TypeId} {i j : Nat} {a b c d e f a' b' c' d' e' f' : Int} (s : Sep F W w L)
    (hi : L[i]? = some (blkA bx tx [.int .u64 a, .int .u64 b, .int .u64 c, .int .u64 d, .int .u64 e, .int .u64 f]))
    (hj : L[j]? = some (blkA y ty [.int .u64 a', .int .u64 b', .int .u64 c', .int .u64 d', .int .u64 e', .int .u64 f'])) (h : ∀ w', Sep F W w' L → Q (le6 a b c d e f a' b' c' d' e' f') w') :
    tally_Below.b2 Q ⟨bx, 0, none⟩ ⟨y, 0, none⟩ w := by
  have no : ∀ w', Sep F W w' L → ¬ (a ≤ a' ∧ b ≤ b' ∧ c ≤ c' ∧ d ≤ d' ∧ e ≤ e' ∧ f ≤ f') → Q false w' := fun w' s' hn => by
    have := h w' s'
    unfold le6 at this
    rwa [decide_eq_false hn] at this
  unfold tally_Below.b2
  refine ⟨7, ?_⟩
  refine Below_round s (n := 0) rfl (by omega) hi hj rfl rfl (fun hc => no _ s (by omega)) fun h0 => ?_
  refine Below_round (w := w.drew) s (n := 1) rfl (by omega) hi hj rfl rfl (fun hc => no _ s (by omega)) fun h1 => ?_
  refine Below_round (w := w.drew.drew) s (n := 2) rfl (by omega) hi hj rfl rfl (fun hc => no _ s (by omega)) fun h2 => ?_
  refine Below_round (w := w.drew.drew.drew) s (n := 3) rfl (by omega) hi hj rfl rfl (fun hc => no _ s (by omega)) fun h3 => ?_
  refine Below_round (w := w.drew.drew.drew.drew) s (n := 4) rfl (by omega) hi hj rfl rfl (fun hc => no _ s (by omega)) fun h4 => ?_
  refine Below_round (w := w.drew.drew.drew.drew.drew) s (n := 5) rfl (by omega) hi hj rfl rfl (fun hc => no _ s (by omega)) fun h5 => ?_
  show tally_Below.s3 Q (tally_Below.b3 Q 0) _ _ _ _
  unfold tally_Below.s3
  rw [decide_eq_false (by decide), cond_false]
  have := h w.drew.drew.drew.drew.drew.drew s
  unfold le6 at this
  rwa [decide_eq_true ⟨h0, h1, h2, h3, h4, h5⟩] at this
end
theorem zc33 : zc T 33 = [.int .u64 0, .int .u64 0, .int .u64 0, .int .u64 0, .int .u64 0, .int .u64 0] := rfl
attribute [local irreducible] LdI LdB LdStr LdP LdS LdM LdV St Bx Al App Cpy MkS MkM EqK RunK RunU CallK SlK blkA
set_option maxHeartbeats 1000000 in
theorem tally_Below.spec {F : Nat → Prop} {W w : World} {L : List As} {a b c d e f a' b' c' d' e' f' : Int} {Q : Bool → World → Prop} (s : Sep F W w L) (h : ∀ w', Sep F W w' L → Q (le6 a b c d e f a' b' c' d' e' f') w') :
    tally_Below.call a b c d e f a' b' c' d' e' f' w Q := by
  refine tally_Below.body _ _ _ _ _ _ _ _ _ _ _ _ _ _ ?_
  unfold tally_Below.sh
  refine Sep.Bx s fun b1 w1 s => ?_
  refine Sep.Bx s fun b2 w2 s => ?_
  repeat' first
    | refine Sep.LdI s (i := 0) rfl rfl rfl ?_
    | refine Sep.LdI s (i := 1) rfl rfl rfl ?_
    | refine Sep.LdI s (i := 2) rfl rfl rfl ?_
    | refine Sep.LdI s (i := 3) rfl rfl rfl ?_
    | refine ⟨Sep.cell s (i := 0) rfl rfl rfl, ?_⟩
    | refine ⟨Sep.cell s (i := 1) rfl rfl rfl, ?_⟩
    | refine ⟨Sep.cell s (i := 2) rfl rfl rfl, ?_⟩
    | refine ⟨Sep.cell s (i := 3) rfl rfl rfl, ?_⟩
    | (refine Sep.St s (i := 0) rfl rfl rfl fun w' s => ?_; simp only [Nat.zero_add, List.set_cons_zero, List.set_cons_succ] at s)
    | (refine Sep.St s (i := 1) rfl rfl rfl fun w' s => ?_; simp only [Nat.zero_add, List.set_cons_zero, List.set_cons_succ] at s)
    | (refine Sep.Al s fun b' w' s => ?_; rw [zc33] at s)
    | refine tally_counts.spec s fun w' s => ?_
    | exact Below_b2 s (i := 0) (j := 1) rfl rfl fun w' s => h _ (Sep.drop (Sep.drop (Sep.drop (Sep.drop s))))
    | exact Below_b2 s (i := 1) (j := 0) rfl rfl fun w' s => h _ (Sep.drop (Sep.drop (Sep.drop (Sep.drop s))))
    | refine ⟨?_, ?_⟩
end Go.Proofs.Ythelhikocaeecaa.S
