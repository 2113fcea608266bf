/- Layer 6: what Add, told, counts, Below answer, whatever else the memory holds. -/
import Derived.Test.YthelhikocaeecaaXF0
import Derived.Test.YthelhikocaeecaaSxH
set_option linter.unusedVariables false
set_option linter.unusedSimpArgs false
namespace Go.Proofs.Ythelhikocaeecaa.S
open Go.Sx

def U (n : Int) : Prop := 0 ≤ n ∧ n < 18446744073709551616
def sat (a b : Int) : Int := if a + b < 18446744073709551616 then a + b else 18446744073709551615
theorem sat_U {a b : Int} (ha : U a) (hb : U b) : U (sat a b) := by
  unfold sat; unfold U at *; split <;> omega
theorem tally_Add.spec {a b : Int} {w : World} {Q : Int → World → Prop} (ha : U a) (hb : U b) (h : Q (sat a b) w) : tally_Add.call a b w Q := by
  unfold U at ha hb
  refine tally_Add.body _ _ _ _ ?_
  unfold tally_Add.sh
  rw [wrap_u64 (n := 18446744073709551615 - b) (by omega) (by omega)]
  unfold sat at h
  by_cases hc : a > 18446744073709551615 - b
  · rw [decide_eq_true hc, cond_true]
    rw [if_neg (by omega)] at h
    exact h
  · rw [decide_eq_false hc, cond_false, wrap_u64 (by omega) (by omega)]
    rw [if_pos (by omega)] at h
    exact h
theorem herdsmanlaw6_told.spec {w : World} {Q : Bool → World → Prop} (h : Q true w) : herdsmanlaw6_told.call w Q := by
  refine herdsmanlaw6_told.body _ _ ?_
  unfold herdsmanlaw6_told.sh
  refine tally_Add.spec ⟨by decide, by decide⟩ ⟨by decide, by decide⟩ ?_
  rw [show (sat 18446744073709551615 5 == 18446744073709551615) = true by decide, cond_true]
  refine tally_Add.spec ⟨by decide, by decide⟩ ⟨by decide, by decide⟩ ?_
  rw [show (sat 2 3 == 5) = true by decide]
  exact h
theorem herdsmanlaw6_TallyAdds.spec {a b : Int} {w : World} {Q : Bool → World → Prop} (ha : U a) (hb : U b) (h : Q true w) : herdsmanlaw6_TallyAdds.call a b w Q := by
  refine herdsmanlaw6_TallyAdds.body _ _ _ _ ?_
  unfold herdsmanlaw6_TallyAdds.sh
  refine tally_Add.spec ha hb ?_
  unfold U at ha hb
  rw [inot_u64 hb.1 hb.2]
  by_cases hc : a ≤ 18446744073709551615 - b
  · rw [decide_eq_true hc, cond_true]
    refine herdsmanlaw6_told.spec ?_
    rw [cond_true, wrap_u64 (by omega) (by omega), show sat a b = a + b by unfold sat; rw [if_pos (by omega)], beq_self_eq_true]
    exact h
  · rw [decide_eq_false hc, cond_false]
    refine herdsmanlaw6_told.spec ?_
    rw [cond_true, show sat a b = 18446744073709551615 by unfold sat; rw [if_neg (by omega)], beq_self_eq_true]
    exact h
theorem herdsmanlaw6_TallyThree.spec {a b c : Int} {w : World} {Q : Bool → World → Prop} (ha : U a) (hb : U b) (hc : U c) (h : Q true w) : herdsmanlaw6_TallyThree.call a b c w Q := by
  refine herdsmanlaw6_TallyThree.body _ _ _ _ _ ?_
  unfold herdsmanlaw6_TallyThree.sh
  refine tally_Add.spec ha hb ?_
  refine tally_Add.spec (sat_U ha hb) hc ?_
  refine herdsmanlaw6_told.spec ?_
  rw [cond_true]
  refine tally_Add.spec hb hc ?_
  refine tally_Add.spec ha (sat_U hb hc) ?_
  have e1 : sat (sat a b) c = sat a (sat b c) := by
    unfold sat; unfold U at *; split <;> split <;> split <;> split <;> omega
  have e2 : sat (sat a b) c = sat (sat c a) b := by
    unfold sat; unfold U at *; split <;> split <;> split <;> split <;> omega
  have e3 : sat (sat a b) c ≥ a := by
    unfold sat; unfold U at *; split <;> split <;> omega
  have e4 : sat (sat a b) c ≥ b := by
    unfold sat; unfold U at *; split <;> split <;> omega
  have e5 : sat (sat a b) c ≥ c := by
    unfold sat; unfold U at *; split <;> split <;> omega
  have e6 : sat a 0 = a := by
    unfold sat; unfold U at *; split <;> omega
  rw [← e1, beq_self_eq_true, cond_true]
  refine tally_Add.spec hc ha ?_
  refine tally_Add.spec (sat_U hc ha) hb ?_
  rw [← e2, beq_self_eq_true, cond_true, decide_eq_true e3, cond_true, decide_eq_true e4, cond_true, decide_eq_true e5, cond_true]
  refine tally_Add.spec ha ⟨by decide, by decide⟩ ?_
  rw [e6, beq_self_eq_true]
  exact h
theorem tally_counts.spec {F : Nat → Prop} {W w : World} {L : List As} {a b c d e f : Int} {Q : Int → Int → Int → Int → Int → Int → World → Prop} (s : Sep F W w L) (h : ∀ w', Sep F W w' L → Q a b c d e f w') : tally_counts.call a b c d e f w Q := by
  refine tally_counts.body _ _ _ _ _ _ _ _ ?_
  unfold tally_counts.sh
  refine Sep.Bx s fun b1 w1 s => ?_
  refine Sep.Al s fun b2 w2 s => ?_
  refine Sep.LdI s (i := 1) (j := 0) rfl rfl rfl ?_
  refine Sep.LdI s (i := 1) (j := 1) rfl rfl rfl ?_
  refine Sep.LdI s (i := 1) (j := 2) rfl rfl rfl ?_
  refine Sep.LdI s (i := 1) (j := 3) rfl rfl rfl ?_
  refine Sep.LdI s (i := 1) (j := 4) rfl rfl rfl ?_
  refine Sep.LdI s (i := 1) (j := 5) rfl rfl rfl ?_
  refine Sep.St s (i := 0) (j := 0) rfl rfl rfl fun w3 s => ?_
  refine Sep.St s (i := 0) (j := 1) rfl rfl rfl fun w3 s => ?_
  refine Sep.St s (i := 0) (j := 2) rfl rfl rfl fun w3 s => ?_
  refine Sep.St s (i := 0) (j := 3) rfl rfl rfl fun w3 s => ?_
  refine Sep.St s (i := 0) (j := 4) rfl rfl rfl fun w3 s => ?_
  refine Sep.St s (i := 0) (j := 5) rfl rfl rfl fun w3 s => ?_
  refine Sep.LdI s (i := 0) (j := 0) rfl rfl rfl ?_
  refine Sep.LdI s (i := 0) (j := 1) rfl rfl rfl ?_
  refine Sep.LdI s (i := 0) (j := 2) rfl rfl rfl ?_
  refine Sep.LdI s (i := 0) (j := 3) rfl rfl rfl ?_
  refine Sep.LdI s (i := 0) (j := 4) rfl rfl rfl ?_
  refine Sep.LdI s (i := 0) (j := 5) rfl rfl rfl ?_
  exact h _ (Sep.drop (Sep.drop s))
end Go.Proofs.Ythelhikocaeecaa.S
