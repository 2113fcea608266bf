/- Layer 7: told; RingNone, RingJumps, RingRound answer true. -/
import Derived.Test.YtfmhpmpfkmhgpaaRD
import Derived.Test.YtfmhpmpfkmhgpaaXF1
set_option linter.unusedVariables false
set_option linter.unusedSimpArgs false
namespace Go.Proofs.Ytfmhpmpfkmhgpaa.S
open Go.Sx
theorem sep_below {W w : World} {L : List As} (s : Sep No W w L) : Go.RowKit.Below W.heap.size W w := Fr.below (F := No) (SepM.fr s) fun _ _ h => h
attribute [local irreducible] LdI LdB LdStr LdP LdS LdM LdV St Bx Al App Cpy MkS MkM EqK RunK RunU CallK SlK blkA rowA joinA ringA
section
variable {F : Nat → Prop} {W w : World} {L : List As}
theorem ring_Put.none {k x : Int} {Q : Bool → World → Prop} (h : Q false w) : ring_Ring_Put.call none k x w Q := ring_Ring_Put.body _ _ _ _ _ h
theorem ring_Len.none {Q : Int → World → Prop} (h : Q 0 w) : ring_Ring_Len.call none w Q := ring_Ring_Len.body _ _ _ h
theorem ring_At.none {Q : Int → World → Prop} (h : Q 0 w) : ring_Ring_At.call none w Q := ring_Ring_At.body _ _ _ h
theorem ring_Jump.none {k : Int} {Q : Bool → World → Prop} (h : Q false w) : ring_Ring_Jump.call none k w Q := ring_Ring_Jump.body _ _ _ _ h
theorem ring_Pop.none {Q : Int → Int → Bool → World → Prop} (h : Q 0 0 false w) : ring_Ring_Pop.call none w Q := ring_Ring_Pop.body _ _ _ (ring_Len.none h)
theorem herdsmanlaw7_told.spec {Q : Bool → World → Prop} (s : Sep F W w L) (h : ∀ w', Sep F W w' L → Q true w') : herdsmanlaw7_told.call w Q := by
  refine herdsmanlaw7_told.body _ _ ?_
  unfold herdsmanlaw7_told.sh
  refine ring_New.spec s (fun h => by omega) fun _ p w1 bs1 s => isNone_pt ?_
  refine ring_Put.spec s (i := 0) rfl (by decide) (by decide) (fun h => by omega) fun _ w2 bs2 s => ?_
  rw [Bool.not_true, cond_false]
  simp only [List.set_cons_zero, List.nil_append] at s
  refine ring_Put.spec s (i := 0) rfl (by decide) (by decide) (fun h => by omega) fun _ w3 bs3 s => ?_
  rw [Bool.not_true, cond_false]
  simp only [List.set_cons_zero, List.cons_append, List.nil_append] at s
  refine ring_Put.spec s (i := 0) rfl (by decide) (by decide) (fun h => by omega) fun _ w4 bs4 s => ?_
  rw [Bool.not_true, cond_false]
  simp only [List.set_cons_zero, List.cons_append, List.nil_append] at s
  refine ring_Put.spec s (i := 0) rfl (by decide) (by decide) (fun _ => ?_) (fun h => by omega)
  rw [cond_false]
  refine ring_Pop.spec s (i := 0) rfl (fun h => by cases h) fun w5 k l1 x l2 bs5 hl h1 h2 s => ?_
  have key : k = 10 ∧ x = 2 ∧ (l1 ++ l2).length = 2 := by
    match l1, hl with
    | [], hl =>
      simp only [List.nil_append, List.cons.injEq, Prod.mk.injEq] at hl
      obtain ⟨⟨rfl, rfl⟩, rfl⟩ := hl
      have := h2 (10, 2) (by simp)
      simp at this
    | [y], hl =>
      simp only [List.cons_append, List.nil_append, List.cons.injEq, Prod.mk.injEq] at hl
      obtain ⟨rfl, ⟨rfl, rfl⟩, rfl⟩ := hl
      exact ⟨rfl, rfl, rfl⟩
    | [y, z], hl =>
      simp only [List.cons_append, List.nil_append, List.cons.injEq, Prod.mk.injEq] at hl
      obtain ⟨rfl, rfl, ⟨rfl, rfl⟩, rfl⟩ := hl
      have := h1 (10, 2) (by simp)
      simp at this
    | y :: z :: v :: r, hl =>
      have := congrArg List.length hl
      simp at this
  obtain ⟨rfl, rfl, hlen⟩ := key
  simp only [List.set_cons_zero] at s
  rw [show ((10 : Int) == 10) = true from rfl, cond_true, show ((2 : Int) == 2) = true from rfl, cond_true, cond_true]
  refine ring_Len.spec s (i := 0) rfl ?_
  rw [hlen]
  exact h w5 (Sep.drop s)
theorem herdsmanlaw7_RingNone.spec {k x : Int} {Q : Bool → World → Prop} (s : Sep F W w L) (h : ∀ w', Sep F W w' L → Q true w') : herdsmanlaw7_RingNone.call k x w Q := by
  refine herdsmanlaw7_RingNone.body _ _ _ _ ?_
  unfold herdsmanlaw7_RingNone.sh
  refine ring_Pop.none ?_
  refine ring_New.spec s (fun h => by omega) fun _ p w1 bs1 s => ?_
  refine ring_New.spec s (fun h => by omega) fun _ p2 w2 bs2 s => isNone_pt (isNone_pt ?_)
  refine ring_Put.spec s (i := 1) rfl (by decide) (by decide) (fun h => by omega) fun _ w3 bs3 s => ?_
  rw [Bool.not_true, cond_false]
  simp only [List.set_cons_zero, List.set_cons_succ, List.nil_append] at s
  refine herdsmanlaw7_told.spec s fun w4 s => ?_
  rw [cond_true, show ((0 : Int) == 0) = true from rfl, cond_true, cond_true, Bool.not_false, cond_true]
  refine ring_Put.none ?_
  rw [Bool.not_false, cond_true]
  refine ring_Jump.none ?_
  rw [Bool.not_false, cond_true]
  refine ring_At.none ?_
  rw [show ((0 : Int) == 0) = true from rfl, cond_true]
  refine ring_Len.none ?_
  rw [show ((0 : Int) == 0) = true from rfl, cond_true]
  refine ring_Len.spec s (i := 0) rfl ?_
  rw [show ((([] : List E).length : Int) == 0) = true from rfl, cond_true]
  refine ring_Len.spec s (i := 1) rfl ?_
  exact h w4 (Sep.drop (Sep.drop s))
theorem Jumps_b6 {f t : Int} {p : Nat} {l : List E} {bs : List Bk} {N : Nat} {may : Bool} {Q : Bool → World → Prop} (hf : 0 ≤ f ∧ f ≤ 34359738368) (ht : 0 ≤ t ∧ t ≤ 68719476736) (hN : N < 1000) (hmay : may = decide (l = [] ∧ f ≤ t)) (s : Sep F W w (ringA p f l bs N :: L)) (h : ∀ w', Sep F W w' L → Q true w') :
    herdsmanlaw7_RingJumps.b6 Q f t (some ⟨p, 0, none⟩) may w := by
  unfold herdsmanlaw7_RingJumps.b6
  refine ring_Jump.spec s (i := 0) rfl (fun hno => ?_) fun hyes w1 bs1 s => ?_
  · have : may = false := by rw [hmay]; exact decide_eq_false fun h => hno ⟨h.1, h.2, by omega⟩
    subst this
    rw [beq_self_eq_true, Bool.not_true, cond_false, Bool.not_false, cond_true]
    refine herdsmanlaw7_told.spec s fun w2 s => ?_
    rw [cond_true]
    refine ring_At.spec s (i := 0) rfl ?_
    rw [beq_self_eq_true, cond_true]
    refine ring_Jump.spec s (i := 0) rfl (fun _ => h w2 (Sep.drop s)) fun hyes => by omega
  · have : may = true := by rw [hmay]; exact decide_eq_true ⟨hyes.1, hyes.2.1⟩
    subst this
    simp only [List.set_cons_zero] at s
    rw [beq_self_eq_true, Bool.not_true, cond_false, cond_false]
    refine herdsmanlaw7_told.spec s fun w2 s => ?_
    rw [cond_true]
    refine ring_At.spec s (i := 0) rfl ?_
    rw [beq_self_eq_true, cond_true, wrap_i64 (n := t + 255) (by omega) (by omega), wrap_i64 (n := t + 256) (by omega) (by omega)]
    refine ring_Put.spec s (i := 0) rfl (by omega) (by omega) (fun h => by omega) fun _ w3 bs3 s => ?_
    simp only [List.set_cons_zero, List.nil_append] at s
    rw [cond_true]
    refine ring_Put.spec s (i := 0) rfl (by omega) (by omega) (fun _ => ?_) (fun h => by omega)
    rw [Bool.not_false, cond_true]
    refine ring_Len.spec s (i := 0) rfl ?_
    exact h w3 (Sep.drop s)
theorem herdsmanlaw7_RingJumps.spec {f0 t0 : Int} {full : Bool} {Q : Bool → World → Prop} (s : Sep F W w L) (h : ∀ w', Sep F W w' L → Q true w') : herdsmanlaw7_RingJumps.call f0 t0 full w Q := by
  refine herdsmanlaw7_RingJumps.body _ _ _ _ _ ?_
  unfold herdsmanlaw7_RingJumps.sh
  refine herdsmanref1_Within.spec (by decide) (by decide) (by decide) ?_
  have r1 := within_range (n := f0) (lo := 0) (hi := 34359738368) (by decide)
  generalize (0 + f0 % (34359738368 - 0 + 1)) = f at r1
  refine herdsmanref1_Within.spec (by decide) (by decide) (by decide) ?_
  have r2 := within_range (n := t0) (lo := 0) (hi := 68719476736) (by decide)
  generalize (0 + t0 % (68719476736 - 0 + 1)) = t at r2
  refine ring_New.spec s (fun h => by omega) fun _ p w1 bs1 s => isNone_pt ?_
  cases full with
  | true =>
    rw [cond_true, wrap_i64 (n := f + 3) (by omega) (by omega)]
    refine ring_Put.spec s (i := 0) rfl (by omega) (by decide) (fun h => by omega) fun _ w2 bs2 s => ?_
    simp only [List.set_cons_zero, List.nil_append] at s
    rw [Bool.not_true, cond_false]
    unfold herdsmanlaw7_RingJumps.b5
    rw [Bool.not_true, cond_false]
    exact Jumps_b6 r1 r2 (by decide) (decide_eq_false (by simp)).symm s h
  | false =>
    rw [cond_false]
    unfold herdsmanlaw7_RingJumps.b5
    rw [Bool.not_false, cond_true]
    exact Jumps_b6 r1 r2 (by decide) (decide_eq_decide.2 ⟨fun h => ⟨rfl, h⟩, fun h => h.2⟩) s h
end
theorem RingNone_law : LawOk P 7 [.int .i64, .int .i64] := by
  intro W args h
  obtain ⟨v0, r, rfl, h0, h⟩ := RdAll.cons h
  obtain ⟨v1, r, rfl, h1, h⟩ := RdAll.cons h
  obtain rfl := RdAll.nil h
  obtain ⟨p, rfl, _⟩ := rdV_int h0
  obtain ⟨q, rfl, _⟩ := rdV_int h1
  exact herdsmanlaw7_RingNone.spec (Q := fun r W' => r = true ∧ Go.RowKit.Below W.heap.size W W') (F := No) (L := []) Sep.nil fun w' s => ⟨rfl, sep_below s⟩
theorem RingJumps_law : LawOk P 6 [.int .i64, .int .i64, .bool] := by
  intro W args h
  obtain ⟨v0, r, rfl, h0, h⟩ := RdAll.cons h
  obtain ⟨v1, r, rfl, h1, h⟩ := RdAll.cons h
  obtain ⟨v2, r, rfl, h2, h⟩ := RdAll.cons h
  obtain rfl := RdAll.nil h
  obtain ⟨p, rfl, _⟩ := rdV_int h0
  obtain ⟨q, rfl, _⟩ := rdV_int h1
  obtain ⟨b, rfl⟩ := rdV_bool h2
  exact herdsmanlaw7_RingJumps.spec (Q := fun r W' => r = true ∧ Go.RowKit.Below W.heap.size W W') (F := No) (L := []) Sep.nil fun w' s => ⟨rfl, sep_below s⟩
end Go.Proofs.Ytfmhpmpfkmhgpaa.S
