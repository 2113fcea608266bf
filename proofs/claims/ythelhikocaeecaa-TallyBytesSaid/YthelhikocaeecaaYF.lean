/- Layer 6: Sum adds each count by itself, and TallySums answers true. -/
import Derived.Test.YthelhikocaeecaaYE
import Derived.Test.YthelhikocaeecaaXF2
import Derived.Test.YthelhikocaeecaaXF1
set_option linter.unusedVariables false
set_option linter.unusedSimpArgs false
namespace Go.Proofs.Ythelhikocaeecaa.S
open Go.Sx
attribute [local irreducible] LdI LdB LdStr LdP LdS LdM LdV St Bx Al App Cpy MkS MkM EqK RunK RunU CallK SlK blkA
theorem zc28 : zc T 28 = [.int .u64 0, .int .u64 0, .int .u64 0, .int .u64 0, .int .u64 0, .int .u64 0] := rfl
section
variable {F : Nat → Prop} {W w : World} {L : List As} {Q : Int → Int → Int → Int → Int → Int → World → Prop}
theorem Sum_round {r x y : Nat} {tx ty : TypeId} {xs ys : List Value} {i j k n : Nat} {t : Int} {p q : Int} (s : Sep F W w L) (ht : t = n) (hn : n < 6)
    (hi : L[i]? = some (blkA x tx xs)) (hj : L[j]? = some (blkA y ty ys)) (hp : xs[n]? = some (.int .u64 p)) (hq : ys[n]? = some (.int .u64 q)) (up : U p) (uq : U q) (hl : Nat.blt n xs.length = true)
    (h : ∀ w', Sep F W w' (L.set i (blkA x tx (xs.set n (.int .u64 (sat p q))))) → tally_Sum.b3 Q k ⟨r, 0, none⟩ ⟨x, 0, none⟩ ⟨y, 0, none⟩ ((n + 1 : Nat) : Int) w') : tally_Sum.b3 Q (k + 1) ⟨r, 0, none⟩ ⟨x, 0, none⟩ ⟨y, 0, none⟩ t w := by
  subst ht
  show tally_Sum.s3 Q (tally_Sum.b3 Q k) _ _ _ _ _
  unfold tally_Sum.s3
  rw [decide_eq_true (by omega), cond_true]
  have e1 : ((n : Int).toNat * 1) = n := by omega
  have s' : Sep F W w.drew L := s
  rw [e1]
  refine ⟨by omega, by omega, ?_⟩
  refine Sep.LdI s' (by rw [add_flat, Nat.zero_add]) hi hp ?_
  refine ⟨by omega, by omega, ?_⟩
  refine Sep.LdI s' (by rw [add_flat, Nat.zero_add]) hj hq ?_
  refine tally_Add.spec up uq ?_
  refine ⟨by omega, by omega, ?_⟩
  refine Sep.St s' (by rw [add_flat, Nat.zero_add]) hi hl fun w' s => ?_
  rw [wrap_i64 (by omega) (by omega)]
  exact h _ s
theorem Sum_xy {r x y : Nat} {tr tx ty : TypeId} {a b c d e f a' b' c' d' e' f' : Int} (s : Sep F W w (blkA x tx [.int .u64 a, .int .u64 b, .int .u64 c, .int .u64 d, .int .u64 e, .int .u64 f] :: blkA y ty [.int .u64 a', .int .u64 b', .int .u64 c', .int .u64 d', .int .u64 e', .int .u64 f'] :: blkA r tr (zc T 28) :: L))
    (u : (U a ∧ U b ∧ U c ∧ U d ∧ U e ∧ U f) ∧ U a' ∧ U b' ∧ U c' ∧ U d' ∧ U e' ∧ U f')
    (h : ∀ w', Sep F W w' L → Q (sat a a') (sat b b') (sat c c') (sat d d') (sat e e') (sat f f') w') : tally_Sum.b2 Q ⟨r, 0, none⟩ ⟨x, 0, none⟩ ⟨y, 0, none⟩ w := by
  obtain ⟨⟨ua, ub, uc, ud, ue, uf⟩, va, vb, vc, vd, ve, vf⟩ := u
  rw [zc28] at s
  unfold tally_Sum.b2
  refine ⟨7, ?_⟩
  refine Sum_round s (n := 0) (i := 0) (j := 1) rfl (by omega) rfl rfl rfl rfl ua va rfl fun w s => ?_
  simp only [List.set_cons_zero, List.set_cons_succ] at s
  refine Sum_round s (n := 1) (i := 0) (j := 1) rfl (by omega) rfl rfl rfl rfl ub vb rfl fun w s => ?_
  simp only [List.set_cons_zero, List.set_cons_succ] at s
  refine Sum_round s (n := 2) (i := 0) (j := 1) rfl (by omega) rfl rfl rfl rfl uc vc rfl fun w s => ?_
  simp only [List.set_cons_zero, List.set_cons_succ] at s
  refine Sum_round s (n := 3) (i := 0) (j := 1) rfl (by omega) rfl rfl rfl rfl ud vd rfl fun w s => ?_
  simp only [List.set_cons_zero, List.set_cons_succ] at s
  refine Sum_round s (n := 4) (i := 0) (j := 1) rfl (by omega) rfl rfl rfl rfl ue ve rfl fun w s => ?_
  simp only [List.set_cons_zero, List.set_cons_succ] at s
  refine Sum_round s (n := 5) (i := 0) (j := 1) rfl (by omega) rfl rfl rfl rfl uf vf rfl fun w s => ?_
  simp only [List.set_cons_zero, List.set_cons_succ] at s
  show tally_Sum.s3 Q (tally_Sum.b3 Q 0) _ _ _ _ _
  unfold tally_Sum.s3
  rw [decide_eq_false (by decide), cond_false]
  refine ⟨by decide, by decide, ?_⟩
  refine Sep.LdI s (i := 0) rfl rfl rfl ?_
  refine ⟨by decide, by decide, ?_⟩
  refine Sep.LdI s (i := 0) rfl rfl rfl ?_
  refine ⟨by decide, by decide, ?_⟩
  refine Sep.LdI s (i := 0) rfl rfl rfl ?_
  refine ⟨by decide, by decide, ?_⟩
  refine Sep.LdI s (i := 0) rfl rfl rfl ?_
  refine ⟨by decide, by decide, ?_⟩
  refine Sep.LdI s (i := 0) rfl rfl rfl ?_
  refine ⟨by decide, by decide, ?_⟩
  refine Sep.LdI s (i := 0) rfl rfl rfl ?_
  repeat' first
    | refine Sep.LdI s (i := 2) rfl rfl rfl ?_
    | (refine Sep.St s (i := 2) rfl rfl rfl fun w' s => ?_; simp only [Nat.zero_add, List.set_cons_zero, List.set_cons_succ] at s)
  exact h _ (Sep.drop (Sep.drop (Sep.drop s)))
theorem Sum_yx {r x y : Nat} {tr tx ty : TypeId} {a b c d e f a' b' c' d' e' f' : Int} (s : Sep F W w (blkA y ty [.int .u64 a', .int .u64 b', .int .u64 c', .int .u64 d', .int .u64 e', .int .u64 f'] :: blkA x tx [.int .u64 a, .int .u64 b, .int .u64 c, .int .u64 d, .int .u64 e, .int .u64 f] :: blkA r tr (zc T 28) :: L))
    (u : (U a ∧ U b ∧ U c ∧ U d ∧ U e ∧ U f) ∧ U a' ∧ U b' ∧ U c' ∧ U d' ∧ U e' ∧ U f')
    (h : ∀ w', Sep F W w' L → Q (sat a a') (sat b b') (sat c c') (sat d d') (sat e e') (sat f f') w') : tally_Sum.b2 Q ⟨r, 0, none⟩ ⟨x, 0, none⟩ ⟨y, 0, none⟩ w := by
  obtain ⟨⟨ua, ub, uc, ud, ue, uf⟩, va, vb, vc, vd, ve, vf⟩ := u
  rw [zc28] at s
  unfold tally_Sum.b2
  refine ⟨7, ?_⟩
  refine Sum_round s (n := 0) (i := 1) (j := 0) rfl (by omega) rfl rfl rfl rfl ua va rfl fun w s => ?_
  simp only [List.set_cons_zero, List.set_cons_succ] at s
  refine Sum_round s (n := 1) (i := 1) (j := 0) rfl (by omega) rfl rfl rfl rfl ub vb rfl fun w s => ?_
  simp only [List.set_cons_zero, List.set_cons_succ] at s
  refine Sum_round s (n := 2) (i := 1) (j := 0) rfl (by omega) rfl rfl rfl rfl uc vc rfl fun w s => ?_
  simp only [List.set_cons_zero, List.set_cons_succ] at s
  refine Sum_round s (n := 3) (i := 1) (j := 0) rfl (by omega) rfl rfl rfl rfl ud vd rfl fun w s => ?_
  simp only [List.set_cons_zero, List.set_cons_succ] at s
  refine Sum_round s (n := 4) (i := 1) (j := 0) rfl (by omega) rfl rfl rfl rfl ue ve rfl fun w s => ?_
  simp only [List.set_cons_zero, List.set_cons_succ] at s
  refine Sum_round s (n := 5) (i := 1) (j := 0) rfl (by omega) rfl rfl rfl rfl uf vf rfl fun w s => ?_
  simp only [List.set_cons_zero, List.set_cons_succ] at s
  show tally_Sum.s3 Q (tally_Sum.b3 Q 0) _ _ _ _ _
  unfold tally_Sum.s3
  rw [decide_eq_false (by decide), cond_false]
  refine ⟨by decide, by decide, ?_⟩
  refine Sep.LdI s (i := 1) rfl rfl rfl ?_
  refine ⟨by decide, by decide, ?_⟩
  refine Sep.LdI s (i := 1) rfl rfl rfl ?_
  refine ⟨by decide, by decide, ?_⟩
  refine Sep.LdI s (i := 1) rfl rfl rfl ?_
  refine ⟨by decide, by decide, ?_⟩
  refine Sep.LdI s (i := 1) rfl rfl rfl ?_
  refine ⟨by decide, by decide, ?_⟩
  refine Sep.LdI s (i := 1) rfl rfl rfl ?_
  refine ⟨by decide, by decide, ?_⟩
  refine Sep.LdI s (i := 1) rfl rfl rfl ?_
  repeat' first
    | refine Sep.LdI s (i := 2) rfl rfl rfl ?_
    | (refine Sep.St s (i := 2) rfl rfl rfl fun w' s => ?_; simp only [Nat.zero_add, List.set_cons_zero, List.set_cons_succ] at s)
  exact h _ (Sep.drop (Sep.drop (Sep.drop s)))
end
set_option maxHeartbeats 1000000 in
theorem tally_Sum.spec {F : Nat → Prop} {W w : World} {L : List As} {a b c d e f a' b' c' d' e' f' : Int} {Q : Int → Int → Int → Int → Int → Int → World → Prop} (s : Sep F W w L) (u : (U a ∧ U b ∧ U c ∧ U d ∧ U e ∧ U f) ∧ U a' ∧ U b' ∧ U c' ∧ U d' ∧ U e' ∧ U f')
    (h : ∀ w', Sep F W w' L → Q (sat a a') (sat b b') (sat c c') (sat d d') (sat e e') (sat f f') w') : tally_Sum.call a b c d e f a' b' c' d' e' f' w Q := by
  refine tally_Sum.body _ _ _ _ _ _ _ _ _ _ _ _ _ _ ?_
  unfold tally_Sum.sh
  refine Sep.Bx s fun b1 w1 s => ?_
  refine Sep.Bx s fun b2 w2 s => ?_
  refine Sep.Al s fun b3 w3 s => ?_
  repeat' first
    | refine Sep.LdI s (i := 0) rfl rfl rfl ?_
    | refine Sep.LdI s (i := 1) rfl rfl rfl ?_
    | refine Sep.LdI s (i := 2) rfl rfl rfl ?_
    | refine Sep.LdI s (i := 3) rfl rfl rfl ?_
    | refine Sep.LdI s (i := 4) rfl rfl rfl ?_
    | refine ⟨Sep.cell s (i := 1) rfl rfl rfl, ?_⟩
    | refine ⟨Sep.cell s (i := 2) rfl rfl rfl, ?_⟩
    | refine ⟨Sep.cell s (i := 3) rfl rfl rfl, ?_⟩
    | refine ⟨Sep.cell s (i := 4) rfl rfl rfl, ?_⟩
    | (refine Sep.St s (i := 0) rfl rfl rfl fun w' s => ?_; simp only [Nat.zero_add, List.set_cons_zero, List.set_cons_succ] at s)
    | (refine Sep.St s (i := 1) rfl rfl rfl fun w' s => ?_; simp only [Nat.zero_add, List.set_cons_zero, List.set_cons_succ] at s)
    | (refine Sep.Al s fun b' w' s => ?_; rw [zc33] at s)
    | refine tally_counts.spec s fun w' s => ?_
    | exact Sum_xy s u fun w' s => h _ (Sep.drop (Sep.drop s))
    | exact Sum_yx s u fun w' s => h _ (Sep.drop (Sep.drop s))
    | refine ⟨?_, ?_⟩
theorem sat_comm (a b : Int) : sat a b = sat b a := by unfold sat; rw [Int.add_comm]
theorem le_sat {a b : Int} (ha : U a) (hb : U b) : a ≤ sat a b := by unfold sat; unfold U at *; split <;> omega
set_option maxHeartbeats 1000000 in
theorem herdsmanlaw6_TallySums.spec {F : Nat → Prop} {W w : World} {L : List As} {a b c d e f a' b' c' d' e' f' : Int} {Q : Bool → World → Prop} (s : Sep F W w L) (u : (U a ∧ U b ∧ U c ∧ U d ∧ U e ∧ U f) ∧ U a' ∧ U b' ∧ U c' ∧ U d' ∧ U e' ∧ U f')
    (h : ∀ w', Sep F W w' L → Q true w') : herdsmanlaw6_TallySums.call a b c d e f a' b' c' d' e' f' w Q := by
  have v : (U a' ∧ U b' ∧ U c' ∧ U d' ∧ U e' ∧ U f') ∧ U a ∧ U b ∧ U c ∧ U d ∧ U e ∧ U f := ⟨u.2, u.1⟩
  have h1 : le6 a b c d e f (sat a a') (sat b b') (sat c c') (sat d d') (sat e e') (sat f f') = true := by
    obtain ⟨⟨ua, ub, uc, ud, ue, uf⟩, va, vb, vc, vd, ve, vf⟩ := u
    unfold le6
    exact decide_eq_true ⟨le_sat ua va, le_sat ub vb, le_sat uc vc, le_sat ud vd, le_sat ue ve, le_sat uf vf⟩
  have h2 : le6 a' b' c' d' e' f' (sat a a') (sat b b') (sat c c') (sat d d') (sat e e') (sat f f') = true := by
    obtain ⟨⟨ua, ub, uc, ud, ue, uf⟩, va, vb, vc, vd, ve, vf⟩ := u
    rw [sat_comm a, sat_comm b, sat_comm c, sat_comm d, sat_comm e, sat_comm f]
    unfold le6
    exact decide_eq_true ⟨le_sat va ua, le_sat vb ub, le_sat vc uc, le_sat vd ud, le_sat ve ue, le_sat vf uf⟩
  have h3 : eq6 (sat a a') (sat b b') (sat c c') (sat d d') (sat e e') (sat f f') (sat a' a) (sat b' b) (sat c' c) (sat d' d) (sat e' e) (sat f' f) = true := by
    rw [sat_comm a, sat_comm b, sat_comm c, sat_comm d, sat_comm e, sat_comm f]
    simp [eq6]
  refine herdsmanlaw6_TallySums.body _ _ _ _ _ _ _ _ _ _ _ _ _ _ ?_
  unfold herdsmanlaw6_TallySums.sh
  refine Sep.Bx s fun b1 w1 s => ?_
  refine Sep.Bx s fun b2 w2 s => ?_
  repeat' first
    | refine Sep.LdI s (i := 0) rfl rfl rfl ?_
    | refine Sep.LdI s (i := 1) rfl rfl rfl ?_
    | refine Sep.LdI s (i := 2) rfl rfl rfl ?_
    | refine ⟨Sep.cell s (i := 0) rfl rfl rfl, ?_⟩
    | refine ⟨Sep.cell s (i := 1) rfl rfl rfl, ?_⟩
    | refine ⟨Sep.cell s (i := 2) rfl rfl rfl, ?_⟩
    | (refine Sep.St s (i := 0) rfl rfl rfl fun w' s => ?_; simp only [Nat.zero_add, List.set_cons_zero, List.set_cons_succ] at s)
    | (refine Sep.Al s fun b' w' s => ?_; rw [zc28] at s)
    | refine tally_Sum.spec s u fun w' s => ?_
    | refine tally_Sum.spec s v fun w' s => ?_
    | refine herdsmanlaw6_told.spec ?_
    | refine tally_Add.spec u.1.1 u.2.1 ?_
    | refine tally_Add.spec u.1.2.1 u.2.2.1 ?_
    | refine tally_Add.spec u.1.2.2.1 u.2.2.2.1 ?_
    | refine tally_Add.spec u.1.2.2.2.1 u.2.2.2.2.1 ?_
    | refine tally_Add.spec u.1.2.2.2.2.1 u.2.2.2.2.2.1 ?_
    | refine tally_Add.spec u.1.2.2.2.2.2 u.2.2.2.2.2.2 ?_
    | refine tally_Below.spec s fun w' s => ?_
    | refine eql28 ?_
    | exact h _ (Sep.drop (Sep.drop (Sep.drop s)))
    | rw [cond_true]
    | rw [h1]
    | rw [h2]
    | rw [h3]
    | rw [beq_self_eq_true]
theorem TallySums_law : LawOk P 7 [stats, stats] := by
  intro W args h
  obtain ⟨v0, r, rfl, h0, h⟩ := RdAll.cons h
  obtain ⟨v1, r, rfl, h1, h⟩ := RdAll.cons h
  obtain rfl := RdAll.nil h
  obtain ⟨a, b, c, d, e, f, rfl, u⟩ := rdV_stats h0
  obtain ⟨a', b', c', d', e', f', rfl, u'⟩ := rdV_stats h1
  exact herdsmanlaw6_TallySums.spec (Q := fun r W' => r = true ∧ Go.RowKit.Below W.heap.size W W') (F := No) (L := []) Sep.nil ⟨u, u'⟩ fun w' s => ⟨rfl, sep_below s⟩
end Go.Proofs.Ythelhikocaeecaa.S
