/- Layer 6: TallyOrder answers true: the whole of it. -/
import Derived.Test.YthelhikocaeecaaYD
import Derived.Test.YthelhikocaeecaaYB
set_option linter.unusedVariables false
set_option linter.unusedSimpArgs false
namespace Go.Proofs.Ythelhikocaeecaa.S
open Go.Sx
attribute [local irreducible] LdI LdB LdStr LdP LdS LdM LdV St Bx Al App Cpy MkS MkM EqK RunK RunU CallK SlK blkA
section
variable {F : Nat → Prop} {W w : World} {L : List As} {Q : Bool → World → Prop} {x y i j : Nat} {tx ty : TypeId} {a b c d e f a' b' c' d' e' f' : Int} {want : Bool}
theorem Order_b15 (s : Sep F W w L)
    (hi : L[i]? = some (blkA x tx [.int .u64 a, .int .u64 b, .int .u64 c, .int .u64 d, .int .u64 e, .int .u64 f]))
    (hj : L[j]? = some (blkA y ty [.int .u64 a', .int .u64 b', .int .u64 c', .int .u64 d', .int .u64 e', .int .u64 f']))
    (h : ∀ w', Sep F W w' L → Q true w') : herdsmanlaw6_TallyOrder.b15 Q ⟨x, 0, none⟩ ⟨y, 0, none⟩ w := by
  unfold herdsmanlaw6_TallyOrder.b15
  have no : ¬ (a ≤ a' ∧ b ≤ b' ∧ c ≤ c' ∧ d ≤ d' ∧ e ≤ e' ∧ f ≤ f') → false = le6 a b c d e f a' b' c' d' e' f' := fun hn => by
    unfold le6; rw [decide_eq_false hn]
  refine Sep.LdI s rfl hi rfl ?_
  refine Sep.LdI s rfl hj rfl ?_
  by_cases h0 : a ≤ a'
  · rw [decide_eq_true h0, cond_true]
    refine Sep.LdI s rfl hi rfl ?_
    refine Sep.LdI s rfl hj rfl ?_
    by_cases h1 : b ≤ b'
    · rw [decide_eq_true h1, cond_true]
      refine Sep.LdI s rfl hi rfl ?_
      refine Sep.LdI s rfl hj rfl ?_
      by_cases h2 : c ≤ c'
      · rw [decide_eq_true h2, cond_true]
        refine Sep.LdI s rfl hi rfl ?_
        refine Sep.LdI s rfl hj rfl ?_
        by_cases h3 : d ≤ d'
        · rw [decide_eq_true h3, cond_true]
          refine Sep.LdI s rfl hi rfl ?_
          refine Sep.LdI s rfl hj rfl ?_
          by_cases h4 : e ≤ e'
          · rw [decide_eq_true h4, cond_true]
            refine Sep.LdI s rfl hi rfl ?_
            refine Sep.LdI s rfl hj rfl ?_
            exact Order_b16 s hi hj (by unfold le6; exact decide_eq_decide.2 (by omega)) h
          · rw [decide_eq_false h4, cond_false]; exact Order_b16 s hi hj (no (by omega)) h
        · rw [decide_eq_false h3, cond_false]; exact Order_b16 s hi hj (no (by omega)) h
      · rw [decide_eq_false h2, cond_false]; exact Order_b16 s hi hj (no (by omega)) h
    · rw [decide_eq_false h1, cond_false]; exact Order_b16 s hi hj (no (by omega)) h
  · rw [decide_eq_false h0, cond_false]; exact Order_b16 s hi hj (no (by omega)) h
end
theorem herdsmanlaw6_TallyOrder.spec {F : Nat → Prop} {W w : World} {L : List As} {a b c d e f a' b' c' d' e' f' at0 by0 : Int} {one : Bool} {Q : Bool → World → Prop} (s : Sep F W w L) (h : ∀ w', Sep F W w' L → Q true w') :
    herdsmanlaw6_TallyOrder.call a b c d e f a' b' c' d' e' f' at0 by0 one w Q := by
  refine herdsmanlaw6_TallyOrder.body _ _ _ _ _ _ _ _ _ _ _ _ _ _ _ _ _ ?_
  unfold herdsmanlaw6_TallyOrder.sh
  refine Sep.Bx s fun b1 w1 s => ?_
  refine Sep.Bx s fun b2 w2 s => ?_
  cases one with
  | false =>
    rw [cond_false]
    exact Order_b15 s (i := 1) (j := 0) rfl rfl fun w' s => h _ (Sep.drop (Sep.drop s))
  | true =>
    rw [cond_true]
    repeat' first
      | refine Sep.LdI s (i := 1) rfl rfl rfl ?_
      | (refine Sep.St s (i := 0) rfl rfl rfl fun w' s => ?_; simp only [Nat.zero_add, List.set_cons_zero, List.set_cons_succ] at s)
    generalize (iand .i64 at0 7 == 0) = c0
    generalize (iand .i64 at0 7 == 1) = c1
    generalize (iand .i64 at0 7 == 2) = c2
    generalize (iand .i64 at0 7 == 3) = c3
    generalize (iand .i64 at0 7 == 4) = c4
    cases c0 with
    | true =>
      rw [cond_true]
      refine Sep.LdI s (i := 0) rfl rfl rfl ?_
      refine Sep.St s (i := 0) rfl rfl rfl fun w' s => ?_
      exact Order_b15 s (i := 1) (j := 0) rfl rfl fun w' s => h _ (Sep.drop (Sep.drop s))
    | false =>
      rw [cond_false]
      cases c1 with
      | true =>
        rw [cond_true]
        refine Sep.LdI s (i := 0) rfl rfl rfl ?_
        refine Sep.St s (i := 0) rfl rfl rfl fun w' s => ?_
        exact Order_b15 s (i := 1) (j := 0) rfl rfl fun w' s => h _ (Sep.drop (Sep.drop s))
      | false =>
        rw [cond_false]
        cases c2 with
        | true =>
          rw [cond_true]
          refine Sep.LdI s (i := 0) rfl rfl rfl ?_
          refine Sep.St s (i := 0) rfl rfl rfl fun w' s => ?_
          exact Order_b15 s (i := 1) (j := 0) rfl rfl fun w' s => h _ (Sep.drop (Sep.drop s))
        | false =>
          rw [cond_false]
          cases c3 with
          | true =>
            rw [cond_true]
            refine Sep.LdI s (i := 0) rfl rfl rfl ?_
            refine Sep.St s (i := 0) rfl rfl rfl fun w' s => ?_
            exact Order_b15 s (i := 1) (j := 0) rfl rfl fun w' s => h _ (Sep.drop (Sep.drop s))
          | false =>
            rw [cond_false]
            cases c4 with
            | true =>
              rw [cond_true]
              refine Sep.LdI s (i := 0) rfl rfl rfl ?_
              refine Sep.St s (i := 0) rfl rfl rfl fun w' s => ?_
              exact Order_b15 s (i := 1) (j := 0) rfl rfl fun w' s => h _ (Sep.drop (Sep.drop s))
            | false =>
              rw [cond_false]
              refine Sep.LdI s (i := 0) rfl rfl rfl ?_
              refine Sep.St s (i := 0) rfl rfl rfl fun w' s => ?_
              exact Order_b15 s (i := 1) (j := 0) rfl rfl fun w' s => h _ (Sep.drop (Sep.drop s))
theorem sep_below {W w : World} {L : List As} (s : Sep No W w L) : Go.RowKit.Below W.heap.size W w := Fr.below (F := No) (SepM.fr s) fun _ _ h => h
def stats : Sh := .agg 6 [(0, 1, .int .u64), (1, 1, .int .u64), (2, 1, .int .u64), (3, 1, .int .u64), (4, 1, .int .u64), (5, 1, .int .u64)]
theorem rdV_stats {w : World} {v : Value} (h : RdV w stats v) : ∃ a b c d e f, v = .agg #[.int .u64 a, .int .u64 b, .int .u64 c, .int .u64 d, .int .u64 e, .int .u64 f] ∧ U a ∧ U b ∧ U c ∧ U d ∧ U e ∧ U f := by
  obtain ⟨cs, rfl, hl, h0⟩ := rdV_agg h
  match cs, hl with
  | [v0, v1, v2, v3, v4, v5], _ =>
    obtain ⟨k0, h0⟩ := rdF_cons h0
    obtain ⟨k1, h0⟩ := rdF_cons h0
    obtain ⟨k2, h0⟩ := rdF_cons h0
    obtain ⟨k3, h0⟩ := rdF_cons h0
    obtain ⟨k4, h0⟩ := rdF_cons h0
    obtain ⟨k5, h0⟩ := rdF_cons h0
    obtain ⟨a, rfl, u0⟩ := rd_int k0
    obtain ⟨b, rfl, u1⟩ := rd_int k1
    obtain ⟨c, rfl, u2⟩ := rd_int k2
    obtain ⟨d, rfl, u3⟩ := rd_int k3
    obtain ⟨e, rfl, u4⟩ := rd_int k4
    obtain ⟨f, rfl, u5⟩ := rd_int k5
    exact ⟨a, b, c, d, e, f, rfl, wf_u64 u0, wf_u64 u1, wf_u64 u2, wf_u64 u3, wf_u64 u4, wf_u64 u5⟩
theorem TallyOrder_law : LawOk P 5 [stats, stats, .int .i64, .int .u64, .bool] := by
  intro W args h
  obtain ⟨v0, r, rfl, h0, h⟩ := RdAll.cons h
  obtain ⟨v1, r, rfl, h1, h⟩ := RdAll.cons h
  obtain ⟨v2, r, rfl, h2, h⟩ := RdAll.cons h
  obtain ⟨v3, r, rfl, h3, h⟩ := RdAll.cons h
  obtain ⟨v4, r, rfl, h4, h⟩ := RdAll.cons h
  obtain rfl := RdAll.nil h
  obtain ⟨a, b, c, d, e, f, rfl, _⟩ := rdV_stats h0
  obtain ⟨a', b', c', d', e', f', rfl, _⟩ := rdV_stats h1
  obtain ⟨p, rfl, _⟩ := rdV_int h2
  obtain ⟨q, rfl, _⟩ := rdV_int h3
  obtain ⟨o, rfl⟩ := rdV_bool h4
  exact herdsmanlaw6_TallyOrder.spec (Q := fun r W' => r = true ∧ Go.RowKit.Below W.heap.size W W') (F := No) (L := []) Sep.nil fun w' s => ⟨rfl, sep_below s⟩
end Go.Proofs.Ythelhikocaeecaa.S
