/- Layer 7: the document's ring: what its functions do. -/
import Derived.Test.YtfmhpmpfkmhgpaaRG
set_option linter.unusedVariables false
set_option linter.unusedSimpArgs false
namespace Go.Proofs.Ytfmhpmpfkmhgpaa.S
open Go.Sx
def pr (x : E) : List Value := [.int .i64 x.1, .int .i64 x.2]
theorem pr_len (x : E) : (pr x).length = 2 := rfl
theorem zc50 : zc T 50 = [.int .i64 0, .int .i64 0] := rfl
theorem zc39 : zc T 39 = [.int .i64 0, .int .i64 0, .int .i64 0] := rfl
def refA (q : Nat) (a : Int) (l : List E) (la : Option Addr) (c : Nat) : As := joinA (l.length ≤ 1000) [blkA q 37 [.int .i64 a, .slice la l.length c], rowA la l.length c 50 2 (flat pr l)]
attribute [local irreducible] LdI LdB LdStr LdP LdS LdM LdV St Bx Al App Cpy MkS MkM EqK RunK RunU CallK SlK blkA rowA joinA ringA
section
variable {F : Nat → Prop} {W w : World} {L : List As} {i q c : Nat} {a : Int} {l : List E} {la : Option Addr}
theorem ref_Put.spec {k x : Int} {Q : Bool → World → Prop} (s : Sep F W w L) (hi : L[i]? = some (refA q a l la c)) (ha : 0 ≤ a) (hk : k < 9223372036854775808) (hl : l.length < 1000)
    (hno : ¬ (a ≤ k ∧ k < a + 256) → Q false w) (hyes : a ≤ k ∧ k < a + 256 → ∀ w' la' c', Sep F W w' (L.set i (refA q a (l ++ [(k, x)]) la' c')) → Q true w') : herdsmanref7_Ring_Put.call (some ⟨q, 0, none⟩) k x w Q := by
  refine herdsmanref7_Ring_Put.body _ _ _ _ _ ?_
  unfold herdsmanref7_Ring_Put.sh
  have s0 := join_open s hi
  have sA := s
  refine wA_some ?_
  refine Sep.LdI s0 (i := 0) (j := 0) rfl rfl rfl ?_
  by_cases h1 : k < a
  · rw [decide_eq_true h1, cond_true]
    exact hno (by omega)
  · rw [decide_eq_false h1, cond_false]
    refine wA_some ?_
    refine Sep.LdI s0 (i := 0) (j := 0) rfl rfl rfl ?_
    rw [wrap_i64 (n := k - a) (by omega) (by omega)]
    by_cases h2 : k - a ≥ 256
    · rw [decide_eq_true h2, cond_true]
      exact hno (by omega)
    · rw [decide_eq_false h2, cond_false]
      refine Sep.Bx s0 fun b1 w1 s => wA_some ?_
      refine Sep.LdS s (i := 1) (j := 1) rfl rfl rfl ?_
      have s := Sep.blk_row (n := 0) (size := 2) s (i := 0) rfl rfl (by decide) (by simp)
      simp only [List.set_cons_zero] at s
      have src := Sep.src s (i := 2) rfl
      have hnone := fun e => rowA_none s (i := 2) rfl e
      refine Sep.App tab_ok s (i := 0) (size := 2) (bytes := 16) rfl rfl rfl rfl rfl rfl (by decide) rfl src (by simp only [maxLen]; omega) (by omega) hnone fun a1 c1 w2 s => ?_
      simp only [List.set_cons_zero, List.nil_append] at s
      refine Sep.Bx s fun b2 w3 s => ?_
      have src : Src w3 (some ⟨b2, 0, none⟩) 1 2 [.int .i64 k, .int .i64 x] := ⟨rfl, (fun u hu => by simp at hu; rcases hu with rfl | rfl <;> rfl), fun j u hj => by rw [add_flat, Nat.zero_add]; exact Sep.cell s (i := 0) rfl rfl hj⟩
      refine Sep.App tab_ok s (i := 1) (size := 2) (bytes := 16) rfl rfl rfl rfl rfl rfl (by decide) rfl src (by simp only [maxLen]; omega) (by omega) (fun e => by cases e) fun a2 c2 w4 s => ?_
      simp only [List.set_cons_zero, List.set_cons_succ] at s
      have e1 : flat pr l ++ [.int .i64 k, .int .i64 x] = flat pr (l ++ [(k, x)]) := by rw [flat_append]; rfl
      rw [e1] at s
      refine wA_some ?_
      refine Sep.St s (i := 2) (j := 1) rfl rfl rfl fun w5 s => ?_
      simp only [List.set_cons_zero, List.set_cons_succ] at s
      have en : 0 + l.length + 1 = (l ++ [(k, x)]).length := by simp
      rw [en] at s
      have s := Sep.drop s
      have s := Sep.perm s (List.Perm.swap ..)
      have s := Sep.sub (L' := [blkA q 37 [.int .i64 a, .slice a2 (l ++ [(k, x)]).length c2], rowA a2 (l ++ [(k, x)]).length c2 50 2 (flat pr (l ++ [(k, x)]))]) s (.cons_cons _ (.cons_cons _ (.cons _ .slnil)))
      exact hyes (by omega) w5 a2 c2 (join_close sA hi s (by simp; omega))
theorem ref_Jump.spec {k : Int} {Q : Bool → World → Prop} (s : Sep F W w L) (hi : L[i]? = some (refA q a l la c))
    (hno : ¬ (l = [] ∧ a ≤ k ∧ k ≤ 1099511627776) → Q false w) (hyes : l = [] ∧ a ≤ k ∧ k ≤ 1099511627776 → ∀ w', Sep F W w' (L.set i (refA q k [] la c)) → Q true w') : herdsmanref7_Ring_Jump.call (some ⟨q, 0, none⟩) k w Q := by
  refine herdsmanref7_Ring_Jump.body _ _ _ _ ?_
  unfold herdsmanref7_Ring_Jump.sh
  have s0 := join_open s hi
  refine wA_some ?_
  refine Sep.LdS s0 (i := 0) (j := 1) rfl rfl rfl ?_
  by_cases h0 : l = []
  · subst h0
    rw [decide_eq_false (by simp), cond_false]
    refine wA_some ?_
    refine Sep.LdI s0 (i := 0) (j := 0) rfl rfl rfl ?_
    by_cases h1 : k < a
    · rw [decide_eq_true h1, cond_true]
      exact hno (by omega)
    · rw [decide_eq_false h1, cond_false]
      by_cases h2 : k > 1099511627776
      · rw [decide_eq_true h2, cond_true]
        exact hno (by omega)
      · rw [decide_eq_false h2, cond_false]
        refine wA_some ?_
        refine Sep.St s0 (i := 0) (j := 0) rfl rfl rfl fun w1 s1 => ?_
        exact hyes ⟨rfl, by omega, by omega⟩ w1 (join_close s hi s1 (by simp))
  · have : 0 < l.length := List.length_pos_iff.2 h0
    rw [decide_eq_true (by omega), cond_true]
    exact hno (fun h => h0 h.1)
end
end Go.Proofs.Ytfmhpmpfkmhgpaa.S
