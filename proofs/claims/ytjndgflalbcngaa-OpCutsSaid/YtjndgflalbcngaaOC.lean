/- Layer 26: May; rows of ops; Decode. -/
import Derived.Test.YtjndgflalbcngaaOB
set_option linter.unusedVariables false
set_option linter.unusedSimpArgs false
namespace Go.Proofs.Ytjndgflalbcngaa.S
open Go.Sx
attribute [local irreducible] LdI LdB LdStr LdP LdS LdM LdV St Bx Al App Cpy MkS MkM EqK RunK RunU CallK SlK blkA rowA joinA
theorem op_May.spec {F : Nat → Prop} {W w0 : World} {L : List As} {a : Option Addr} {n c : Nat} {o : OpP} {Q : Bool → World → Prop} (s0 : Sep F W w0 L) (hA : Sl w0 a n c 1 by8 o.m) (hr : Rng o.m) (hn2 : n ≤ 1000000000000) (h : ∀ w', Sep F W w' L → Fr No w0 w' → Q (mayP o) w') : op_May.call o.k o.A o.B a n c w0 Q := by
  refine op_May.body _ _ _ _ _ _ _ _ ?_
  unfold op_May.sh
  obtain ⟨k, A, B, m⟩ := o
  simp only at hA hr h ⊢
  have hl := hA.len
  have hm0 : ((n : Int) == 0) = decide (m = []) := by
    rw [Bool.eq_iff_iff, beq_iff_eq, decide_eq_true_eq]
    constructor
    · intro e; exact List.eq_nil_of_length_eq_zero (by omega)
    · rintro rfl; simp at hl; omega
  have s := Sep.nil (F := No) (w := w0)
  have hh : ∀ w' Ls, Sep No w0 w' Ls → Q (mayP ⟨k, A, B, m⟩) w' := fun w' Ls s => h w' (Sep.call s0 (sep_fr s)) (sep_fr s)
  unfold mayP at hh
  simp only at hh
  repeat' first
    | refine Sep.LdI s (i := 0) rfl rfl rfl ?_
    | refine Sep.LdS s (i := 0) rfl rfl rfl ?_
    | refine Sep.LdB s (i := 0) rfl rfl rfl ?_
    | refine Sep.LdP s (i := 0) rfl rfl rfl ?_
    | refine And.intro (Sep.cell s (i := 0) rfl rfl rfl) ?_
    | (refine Sep.St s (i := 0) rfl rfl rfl fun w s => ?_; simp only [List.set_cons_zero, List.set_cons_succ] at s)
    | refine Sep.Bx s fun b w s => ?_
    | (refine Sep.Al s fun b w s => ?_; simp only [zc30, zc47] at s)
    | (replace s := Sep.drew s; first
      | refine Sep.LdI s (i := 0) rfl rfl rfl ?_
      | refine Sep.LdS s (i := 0) rfl rfl rfl ?_
      | refine Sep.LdB s (i := 0) rfl rfl rfl ?_
      | refine Sep.LdP s (i := 0) rfl rfl rfl ?_
      | refine And.intro (Sep.cell s (i := 0) rfl rfl rfl) ?_
      | (refine Sep.St s (i := 0) rfl rfl rfl fun w s => ?_; simp only [List.set_cons_zero, List.set_cons_succ] at s)
      | refine Sep.Bx s fun b w s => ?_
      | (refine Sep.Al s fun b w s => ?_; simp only [zc30, zc47] at s))
  by_cases hk : k = 0
  · simp only [if_pos hk] at hh
    rw [show (k == 0) = true by rw [beq_iff_eq]; exact hk, cond_true]
    repeat' first
      | refine Sep.LdI s (i := 0) rfl rfl rfl ?_
      | refine Sep.LdS s (i := 0) rfl rfl rfl ?_
      | refine Sep.LdB s (i := 0) rfl rfl rfl ?_
      | refine Sep.LdP s (i := 0) rfl rfl rfl ?_
      | refine And.intro (Sep.cell s (i := 0) rfl rfl rfl) ?_
      | (refine Sep.St s (i := 0) rfl rfl rfl fun w s => ?_; simp only [List.set_cons_zero, List.set_cons_succ] at s)
      | refine Sep.Bx s fun b w s => ?_
      | (refine Sep.Al s fun b w s => ?_; simp only [zc30, zc47] at s)
      | (replace s := Sep.drew s; first
        | refine Sep.LdI s (i := 0) rfl rfl rfl ?_
        | refine Sep.LdS s (i := 0) rfl rfl rfl ?_
        | refine Sep.LdB s (i := 0) rfl rfl rfl ?_
        | refine Sep.LdP s (i := 0) rfl rfl rfl ?_
        | refine And.intro (Sep.cell s (i := 0) rfl rfl rfl) ?_
        | (refine Sep.St s (i := 0) rfl rfl rfl fun w s => ?_; simp only [List.set_cons_zero, List.set_cons_succ] at s)
        | refine Sep.Bx s fun b w s => ?_
        | (refine Sep.Al s fun b w s => ?_; simp only [zc30, zc47] at s))
    by_cases hA1 : A = -1
    · simp only [if_pos hA1] at hh
      rw [show (A == -1) = true by rw [beq_iff_eq]; exact hA1, cond_true]
      repeat' first
        | refine Sep.LdI s (i := 0) rfl rfl rfl ?_
        | refine Sep.LdS s (i := 0) rfl rfl rfl ?_
        | refine Sep.LdB s (i := 0) rfl rfl rfl ?_
        | refine Sep.LdP s (i := 0) rfl rfl rfl ?_
        | refine And.intro (Sep.cell s (i := 0) rfl rfl rfl) ?_
        | (refine Sep.St s (i := 0) rfl rfl rfl fun w s => ?_; simp only [List.set_cons_zero, List.set_cons_succ] at s)
        | refine Sep.Bx s fun b w s => ?_
        | (refine Sep.Al s fun b w s => ?_; simp only [zc30, zc47] at s)
        | (replace s := Sep.drew s; first
          | refine Sep.LdI s (i := 0) rfl rfl rfl ?_
          | refine Sep.LdS s (i := 0) rfl rfl rfl ?_
          | refine Sep.LdB s (i := 0) rfl rfl rfl ?_
          | refine Sep.LdP s (i := 0) rfl rfl rfl ?_
          | refine And.intro (Sep.cell s (i := 0) rfl rfl rfl) ?_
          | (refine Sep.St s (i := 0) rfl rfl rfl fun w s => ?_; simp only [List.set_cons_zero, List.set_cons_succ] at s)
          | refine Sep.Bx s fun b w s => ?_
          | (refine Sep.Al s fun b w s => ?_; simp only [zc30, zc47] at s))
      by_cases hB : B = 0
      · rw [show (B == 0) = true by rw [beq_iff_eq]; exact hB, cond_true]
        repeat' first
          | refine Sep.LdI s (i := 0) rfl rfl rfl ?_
          | refine Sep.LdS s (i := 0) rfl rfl rfl ?_
          | refine Sep.LdB s (i := 0) rfl rfl rfl ?_
          | refine Sep.LdP s (i := 0) rfl rfl rfl ?_
          | refine And.intro (Sep.cell s (i := 0) rfl rfl rfl) ?_
          | (refine Sep.St s (i := 0) rfl rfl rfl fun w s => ?_; simp only [List.set_cons_zero, List.set_cons_succ] at s)
          | refine Sep.Bx s fun b w s => ?_
          | (refine Sep.Al s fun b w s => ?_; simp only [zc30, zc47] at s)
          | (replace s := Sep.drew s; first
            | refine Sep.LdI s (i := 0) rfl rfl rfl ?_
            | refine Sep.LdS s (i := 0) rfl rfl rfl ?_
            | refine Sep.LdB s (i := 0) rfl rfl rfl ?_
            | refine Sep.LdP s (i := 0) rfl rfl rfl ?_
            | refine And.intro (Sep.cell s (i := 0) rfl rfl rfl) ?_
            | (refine Sep.St s (i := 0) rfl rfl rfl fun w s => ?_; simp only [List.set_cons_zero, List.set_cons_succ] at s)
            | refine Sep.Bx s fun b w s => ?_
            | (refine Sep.Al s fun b w s => ?_; simp only [zc30, zc47] at s))
        refine op_cut.spec s (hA.fr (sep_fr s)) hr hn2 fun w s _ => ?_
        have := hh _ _ s
        rwa [decide_eq_true hB, Bool.true_and] at this
      · rw [show (B == 0) = false by rw [beq_eq_false_iff_ne]; exact hB, cond_false]
        have := hh _ _ s
        rwa [decide_eq_false hB, Bool.false_and] at this
    · simp only [if_neg hA1] at hh
      rw [show (A == -1) = false by rw [beq_eq_false_iff_ne]; exact hA1, cond_false]
      repeat' first
        | refine Sep.LdI s (i := 0) rfl rfl rfl ?_
        | refine Sep.LdS s (i := 0) rfl rfl rfl ?_
        | refine Sep.LdB s (i := 0) rfl rfl rfl ?_
        | refine Sep.LdP s (i := 0) rfl rfl rfl ?_
        | refine And.intro (Sep.cell s (i := 0) rfl rfl rfl) ?_
        | (refine Sep.St s (i := 0) rfl rfl rfl fun w s => ?_; simp only [List.set_cons_zero, List.set_cons_succ] at s)
        | refine Sep.Bx s fun b w s => ?_
        | (refine Sep.Al s fun b w s => ?_; simp only [zc30, zc47] at s)
        | (replace s := Sep.drew s; first
          | refine Sep.LdI s (i := 0) rfl rfl rfl ?_
          | refine Sep.LdS s (i := 0) rfl rfl rfl ?_
          | refine Sep.LdB s (i := 0) rfl rfl rfl ?_
          | refine Sep.LdP s (i := 0) rfl rfl rfl ?_
          | refine And.intro (Sep.cell s (i := 0) rfl rfl rfl) ?_
          | (refine Sep.St s (i := 0) rfl rfl rfl fun w s => ?_; simp only [List.set_cons_zero, List.set_cons_succ] at s)
          | refine Sep.Bx s fun b w s => ?_
          | (refine Sep.Al s fun b w s => ?_; simp only [zc30, zc47] at s))
      refine op_shaped.spec s fun w s _ => ?_
      repeat' first
        | refine Sep.LdI s (i := 0) rfl rfl rfl ?_
        | refine Sep.LdS s (i := 0) rfl rfl rfl ?_
        | refine Sep.LdB s (i := 0) rfl rfl rfl ?_
        | refine Sep.LdP s (i := 0) rfl rfl rfl ?_
        | refine And.intro (Sep.cell s (i := 0) rfl rfl rfl) ?_
        | refine Sep.LdI s (i := 1) rfl rfl rfl ?_
        | refine Sep.LdS s (i := 1) rfl rfl rfl ?_
        | refine Sep.LdB s (i := 1) rfl rfl rfl ?_
        | refine Sep.LdP s (i := 1) rfl rfl rfl ?_
        | refine And.intro (Sep.cell s (i := 1) rfl rfl rfl) ?_
        | (refine Sep.St s (i := 0) rfl rfl rfl fun w s => ?_; simp only [List.set_cons_zero, List.set_cons_succ] at s)
        | (refine Sep.St s (i := 1) rfl rfl rfl fun w s => ?_; simp only [List.set_cons_zero, List.set_cons_succ] at s)
        | refine Sep.Bx s fun b w s => ?_
        | (refine Sep.Al s fun b w s => ?_; simp only [zc30, zc47] at s)
        | (replace s := Sep.drew s; first
          | refine Sep.LdI s (i := 0) rfl rfl rfl ?_
          | refine Sep.LdS s (i := 0) rfl rfl rfl ?_
          | refine Sep.LdB s (i := 0) rfl rfl rfl ?_
          | refine Sep.LdP s (i := 0) rfl rfl rfl ?_
          | refine And.intro (Sep.cell s (i := 0) rfl rfl rfl) ?_
          | refine Sep.LdI s (i := 1) rfl rfl rfl ?_
          | refine Sep.LdS s (i := 1) rfl rfl rfl ?_
          | refine Sep.LdB s (i := 1) rfl rfl rfl ?_
          | refine Sep.LdP s (i := 1) rfl rfl rfl ?_
          | refine And.intro (Sep.cell s (i := 1) rfl rfl rfl) ?_
          | (refine Sep.St s (i := 0) rfl rfl rfl fun w s => ?_; simp only [List.set_cons_zero, List.set_cons_succ] at s)
          | (refine Sep.St s (i := 1) rfl rfl rfl fun w s => ?_; simp only [List.set_cons_zero, List.set_cons_succ] at s)
          | refine Sep.Bx s fun b w s => ?_
          | (refine Sep.Al s fun b w s => ?_; simp only [zc30, zc47] at s))
      refine op_fits.spec (sz := 1) (by decide) ?_
      cases hf : fitsP A 1 with
      | false =>
        have := hh _ _ s
        rwa [hf, Bool.false_and] at this
      | true =>
        rw [cond_true]
        cases hs : shOk A with
        | true =>
          have := hh _ _ s
          rwa [hf, hs, Bool.not_true, Bool.false_and, Bool.and_false] at this
        | false =>
          rw [Bool.not_false, cond_true]
          repeat' first
            | refine Sep.LdI s (i := 0) rfl rfl rfl ?_
            | refine Sep.LdS s (i := 0) rfl rfl rfl ?_
            | refine Sep.LdB s (i := 0) rfl rfl rfl ?_
            | refine Sep.LdP s (i := 0) rfl rfl rfl ?_
            | refine And.intro (Sep.cell s (i := 0) rfl rfl rfl) ?_
            | refine Sep.LdI s (i := 1) rfl rfl rfl ?_
            | refine Sep.LdS s (i := 1) rfl rfl rfl ?_
            | refine Sep.LdB s (i := 1) rfl rfl rfl ?_
            | refine Sep.LdP s (i := 1) rfl rfl rfl ?_
            | refine And.intro (Sep.cell s (i := 1) rfl rfl rfl) ?_
            | (refine Sep.St s (i := 0) rfl rfl rfl fun w s => ?_; simp only [List.set_cons_zero, List.set_cons_succ] at s)
            | (refine Sep.St s (i := 1) rfl rfl rfl fun w s => ?_; simp only [List.set_cons_zero, List.set_cons_succ] at s)
            | refine Sep.Bx s fun b w s => ?_
            | (refine Sep.Al s fun b w s => ?_; simp only [zc30, zc47] at s)
            | (replace s := Sep.drew s; first
              | refine Sep.LdI s (i := 0) rfl rfl rfl ?_
              | refine Sep.LdS s (i := 0) rfl rfl rfl ?_
              | refine Sep.LdB s (i := 0) rfl rfl rfl ?_
              | refine Sep.LdP s (i := 0) rfl rfl rfl ?_
              | refine And.intro (Sep.cell s (i := 0) rfl rfl rfl) ?_
              | refine Sep.LdI s (i := 1) rfl rfl rfl ?_
              | refine Sep.LdS s (i := 1) rfl rfl rfl ?_
              | refine Sep.LdB s (i := 1) rfl rfl rfl ?_
              | refine Sep.LdP s (i := 1) rfl rfl rfl ?_
              | refine And.intro (Sep.cell s (i := 1) rfl rfl rfl) ?_
              | (refine Sep.St s (i := 0) rfl rfl rfl fun w s => ?_; simp only [List.set_cons_zero, List.set_cons_succ] at s)
              | (refine Sep.St s (i := 1) rfl rfl rfl fun w s => ?_; simp only [List.set_cons_zero, List.set_cons_succ] at s)
              | refine Sep.Bx s fun b w s => ?_
              | (refine Sep.Al s fun b w s => ?_; simp only [zc30, zc47] at s))
          by_cases hB : B = 0
          · rw [show (B == 0) = true by rw [beq_iff_eq]; exact hB, cond_true]
            repeat' first
              | refine Sep.LdI s (i := 0) rfl rfl rfl ?_
              | refine Sep.LdS s (i := 0) rfl rfl rfl ?_
              | refine Sep.LdB s (i := 0) rfl rfl rfl ?_
              | refine Sep.LdP s (i := 0) rfl rfl rfl ?_
              | refine And.intro (Sep.cell s (i := 0) rfl rfl rfl) ?_
              | refine Sep.LdI s (i := 1) rfl rfl rfl ?_
              | refine Sep.LdS s (i := 1) rfl rfl rfl ?_
              | refine Sep.LdB s (i := 1) rfl rfl rfl ?_
              | refine Sep.LdP s (i := 1) rfl rfl rfl ?_
              | refine And.intro (Sep.cell s (i := 1) rfl rfl rfl) ?_
              | (refine Sep.St s (i := 0) rfl rfl rfl fun w s => ?_; simp only [List.set_cons_zero, List.set_cons_succ] at s)
              | (refine Sep.St s (i := 1) rfl rfl rfl fun w s => ?_; simp only [List.set_cons_zero, List.set_cons_succ] at s)
              | refine Sep.Bx s fun b w s => ?_
              | (refine Sep.Al s fun b w s => ?_; simp only [zc30, zc47] at s)
              | (replace s := Sep.drew s; first
                | refine Sep.LdI s (i := 0) rfl rfl rfl ?_
                | refine Sep.LdS s (i := 0) rfl rfl rfl ?_
                | refine Sep.LdB s (i := 0) rfl rfl rfl ?_
                | refine Sep.LdP s (i := 0) rfl rfl rfl ?_
                | refine And.intro (Sep.cell s (i := 0) rfl rfl rfl) ?_
                | refine Sep.LdI s (i := 1) rfl rfl rfl ?_
                | refine Sep.LdS s (i := 1) rfl rfl rfl ?_
                | refine Sep.LdB s (i := 1) rfl rfl rfl ?_
                | refine Sep.LdP s (i := 1) rfl rfl rfl ?_
                | refine And.intro (Sep.cell s (i := 1) rfl rfl rfl) ?_
                | (refine Sep.St s (i := 0) rfl rfl rfl fun w s => ?_; simp only [List.set_cons_zero, List.set_cons_succ] at s)
                | (refine Sep.St s (i := 1) rfl rfl rfl fun w s => ?_; simp only [List.set_cons_zero, List.set_cons_succ] at s)
                | refine Sep.Bx s fun b w s => ?_
                | (refine Sep.Al s fun b w s => ?_; simp only [zc30, zc47] at s))
            have := hh _ _ s
            rw [hm0]
            rwa [hf, hs, decide_eq_true hB, Bool.not_false, Bool.true_and, Bool.true_and, Bool.true_and] at this
          · rw [show (B == 0) = false by rw [beq_eq_false_iff_ne]; exact hB, cond_false]
            have := hh _ _ s
            rwa [decide_eq_false hB, Bool.false_and, Bool.and_false, Bool.and_false] at this
  · simp only [if_neg hk] at hh
    rw [show (k == 0) = false by rw [beq_eq_false_iff_ne]; exact hk, cond_false]
    repeat' first
      | refine Sep.LdI s (i := 0) rfl rfl rfl ?_
      | refine Sep.LdS s (i := 0) rfl rfl rfl ?_
      | refine Sep.LdB s (i := 0) rfl rfl rfl ?_
      | refine Sep.LdP s (i := 0) rfl rfl rfl ?_
      | refine And.intro (Sep.cell s (i := 0) rfl rfl rfl) ?_
      | (refine Sep.St s (i := 0) rfl rfl rfl fun w s => ?_; simp only [List.set_cons_zero, List.set_cons_succ] at s)
      | refine Sep.Bx s fun b w s => ?_
      | (refine Sep.Al s fun b w s => ?_; simp only [zc30, zc47] at s)
      | (replace s := Sep.drew s; first
        | refine Sep.LdI s (i := 0) rfl rfl rfl ?_
        | refine Sep.LdS s (i := 0) rfl rfl rfl ?_
        | refine Sep.LdB s (i := 0) rfl rfl rfl ?_
        | refine Sep.LdP s (i := 0) rfl rfl rfl ?_
        | refine And.intro (Sep.cell s (i := 0) rfl rfl rfl) ?_
        | (refine Sep.St s (i := 0) rfl rfl rfl fun w s => ?_; simp only [List.set_cons_zero, List.set_cons_succ] at s)
        | refine Sep.Bx s fun b w s => ?_
        | (refine Sep.Al s fun b w s => ?_; simp only [zc30, zc47] at s))
    refine op_shaped.spec s fun w s _ => ?_
    repeat' first
      | refine Sep.LdI s (i := 0) rfl rfl rfl ?_
      | refine Sep.LdS s (i := 0) rfl rfl rfl ?_
      | refine Sep.LdB s (i := 0) rfl rfl rfl ?_
      | refine Sep.LdP s (i := 0) rfl rfl rfl ?_
      | refine And.intro (Sep.cell s (i := 0) rfl rfl rfl) ?_
      | refine Sep.LdI s (i := 1) rfl rfl rfl ?_
      | refine Sep.LdS s (i := 1) rfl rfl rfl ?_
      | refine Sep.LdB s (i := 1) rfl rfl rfl ?_
      | refine Sep.LdP s (i := 1) rfl rfl rfl ?_
      | refine And.intro (Sep.cell s (i := 1) rfl rfl rfl) ?_
      | (refine Sep.St s (i := 0) rfl rfl rfl fun w s => ?_; simp only [List.set_cons_zero, List.set_cons_succ] at s)
      | (refine Sep.St s (i := 1) rfl rfl rfl fun w s => ?_; simp only [List.set_cons_zero, List.set_cons_succ] at s)
      | refine Sep.Bx s fun b w s => ?_
      | (refine Sep.Al s fun b w s => ?_; simp only [zc30, zc47] at s)
      | (replace s := Sep.drew s; first
        | refine Sep.LdI s (i := 0) rfl rfl rfl ?_
        | refine Sep.LdS s (i := 0) rfl rfl rfl ?_
        | refine Sep.LdB s (i := 0) rfl rfl rfl ?_
        | refine Sep.LdP s (i := 0) rfl rfl rfl ?_
        | refine And.intro (Sep.cell s (i := 0) rfl rfl rfl) ?_
        | refine Sep.LdI s (i := 1) rfl rfl rfl ?_
        | refine Sep.LdS s (i := 1) rfl rfl rfl ?_
        | refine Sep.LdB s (i := 1) rfl rfl rfl ?_
        | refine Sep.LdP s (i := 1) rfl rfl rfl ?_
        | refine And.intro (Sep.cell s (i := 1) rfl rfl rfl) ?_
        | (refine Sep.St s (i := 0) rfl rfl rfl fun w s => ?_; simp only [List.set_cons_zero, List.set_cons_succ] at s)
        | (refine Sep.St s (i := 1) rfl rfl rfl fun w s => ?_; simp only [List.set_cons_zero, List.set_cons_succ] at s)
        | refine Sep.Bx s fun b w s => ?_
        | (refine Sep.Al s fun b w s => ?_; simp only [zc30, zc47] at s))
    cases hs : shOk k with
    | false =>
      have := hh _ _ s
      rwa [hs, Bool.false_and] at this
    | true =>
      rw [cond_true]
      have hab := shAB k
      repeat' first
        | refine Sep.LdI s (i := 0) rfl rfl rfl ?_
        | refine Sep.LdS s (i := 0) rfl rfl rfl ?_
        | refine Sep.LdB s (i := 0) rfl rfl rfl ?_
        | refine Sep.LdP s (i := 0) rfl rfl rfl ?_
        | refine And.intro (Sep.cell s (i := 0) rfl rfl rfl) ?_
        | refine Sep.LdI s (i := 1) rfl rfl rfl ?_
        | refine Sep.LdS s (i := 1) rfl rfl rfl ?_
        | refine Sep.LdB s (i := 1) rfl rfl rfl ?_
        | refine Sep.LdP s (i := 1) rfl rfl rfl ?_
        | refine And.intro (Sep.cell s (i := 1) rfl rfl rfl) ?_
        | (refine Sep.St s (i := 0) rfl rfl rfl fun w s => ?_; simp only [List.set_cons_zero, List.set_cons_succ] at s)
        | (refine Sep.St s (i := 1) rfl rfl rfl fun w s => ?_; simp only [List.set_cons_zero, List.set_cons_succ] at s)
        | refine Sep.Bx s fun b w s => ?_
        | (refine Sep.Al s fun b w s => ?_; simp only [zc30, zc47] at s)
        | (replace s := Sep.drew s; first
          | refine Sep.LdI s (i := 0) rfl rfl rfl ?_
          | refine Sep.LdS s (i := 0) rfl rfl rfl ?_
          | refine Sep.LdB s (i := 0) rfl rfl rfl ?_
          | refine Sep.LdP s (i := 0) rfl rfl rfl ?_
          | refine And.intro (Sep.cell s (i := 0) rfl rfl rfl) ?_
          | refine Sep.LdI s (i := 1) rfl rfl rfl ?_
          | refine Sep.LdS s (i := 1) rfl rfl rfl ?_
          | refine Sep.LdB s (i := 1) rfl rfl rfl ?_
          | refine Sep.LdP s (i := 1) rfl rfl rfl ?_
          | refine And.intro (Sep.cell s (i := 1) rfl rfl rfl) ?_
          | (refine Sep.St s (i := 0) rfl rfl rfl fun w s => ?_; simp only [List.set_cons_zero, List.set_cons_succ] at s)
          | (refine Sep.St s (i := 1) rfl rfl rfl fun w s => ?_; simp only [List.set_cons_zero, List.set_cons_succ] at s)
          | refine Sep.Bx s fun b w s => ?_
          | (refine Sep.Al s fun b w s => ?_; simp only [zc30, zc47] at s))
      refine op_fits.spec hab.1 ?_
      cases hf : fitsP A (shA k) with
      | false =>
        have := hh _ _ s
        rwa [hf, Bool.false_and, Bool.and_false] at this
      | true =>
        rw [cond_true]
        repeat' first
          | refine Sep.LdI s (i := 0) rfl rfl rfl ?_
          | refine Sep.LdS s (i := 0) rfl rfl rfl ?_
          | refine Sep.LdB s (i := 0) rfl rfl rfl ?_
          | refine Sep.LdP s (i := 0) rfl rfl rfl ?_
          | refine And.intro (Sep.cell s (i := 0) rfl rfl rfl) ?_
          | refine Sep.LdI s (i := 1) rfl rfl rfl ?_
          | refine Sep.LdS s (i := 1) rfl rfl rfl ?_
          | refine Sep.LdB s (i := 1) rfl rfl rfl ?_
          | refine Sep.LdP s (i := 1) rfl rfl rfl ?_
          | refine And.intro (Sep.cell s (i := 1) rfl rfl rfl) ?_
          | (refine Sep.St s (i := 0) rfl rfl rfl fun w s => ?_; simp only [List.set_cons_zero, List.set_cons_succ] at s)
          | (refine Sep.St s (i := 1) rfl rfl rfl fun w s => ?_; simp only [List.set_cons_zero, List.set_cons_succ] at s)
          | refine Sep.Bx s fun b w s => ?_
          | (refine Sep.Al s fun b w s => ?_; simp only [zc30, zc47] at s)
          | (replace s := Sep.drew s; first
            | refine Sep.LdI s (i := 0) rfl rfl rfl ?_
            | refine Sep.LdS s (i := 0) rfl rfl rfl ?_
            | refine Sep.LdB s (i := 0) rfl rfl rfl ?_
            | refine Sep.LdP s (i := 0) rfl rfl rfl ?_
            | refine And.intro (Sep.cell s (i := 0) rfl rfl rfl) ?_
            | refine Sep.LdI s (i := 1) rfl rfl rfl ?_
            | refine Sep.LdS s (i := 1) rfl rfl rfl ?_
            | refine Sep.LdB s (i := 1) rfl rfl rfl ?_
            | refine Sep.LdP s (i := 1) rfl rfl rfl ?_
            | refine And.intro (Sep.cell s (i := 1) rfl rfl rfl) ?_
            | (refine Sep.St s (i := 0) rfl rfl rfl fun w s => ?_; simp only [List.set_cons_zero, List.set_cons_succ] at s)
            | (refine Sep.St s (i := 1) rfl rfl rfl fun w s => ?_; simp only [List.set_cons_zero, List.set_cons_succ] at s)
            | refine Sep.Bx s fun b w s => ?_
            | (refine Sep.Al s fun b w s => ?_; simp only [zc30, zc47] at s))
        refine op_fits.spec hab.2 ?_
        cases hg : fitsP B (shB k) with
        | false =>
          have := hh _ _ s
          rwa [hg, Bool.false_and, Bool.and_false, Bool.and_false] at this
        | true =>
          rw [cond_true]
          repeat' first
            | refine Sep.LdI s (i := 0) rfl rfl rfl ?_
            | refine Sep.LdS s (i := 0) rfl rfl rfl ?_
            | refine Sep.LdB s (i := 0) rfl rfl rfl ?_
            | refine Sep.LdP s (i := 0) rfl rfl rfl ?_
            | refine And.intro (Sep.cell s (i := 0) rfl rfl rfl) ?_
            | refine Sep.LdI s (i := 1) rfl rfl rfl ?_
            | refine Sep.LdS s (i := 1) rfl rfl rfl ?_
            | refine Sep.LdB s (i := 1) rfl rfl rfl ?_
            | refine Sep.LdP s (i := 1) rfl rfl rfl ?_
            | refine And.intro (Sep.cell s (i := 1) rfl rfl rfl) ?_
            | (refine Sep.St s (i := 0) rfl rfl rfl fun w s => ?_; simp only [List.set_cons_zero, List.set_cons_succ] at s)
            | (refine Sep.St s (i := 1) rfl rfl rfl fun w s => ?_; simp only [List.set_cons_zero, List.set_cons_succ] at s)
            | refine Sep.Bx s fun b w s => ?_
            | (refine Sep.Al s fun b w s => ?_; simp only [zc30, zc47] at s)
            | (replace s := Sep.drew s; first
              | refine Sep.LdI s (i := 0) rfl rfl rfl ?_
              | refine Sep.LdS s (i := 0) rfl rfl rfl ?_
              | refine Sep.LdB s (i := 0) rfl rfl rfl ?_
              | refine Sep.LdP s (i := 0) rfl rfl rfl ?_
              | refine And.intro (Sep.cell s (i := 0) rfl rfl rfl) ?_
              | refine Sep.LdI s (i := 1) rfl rfl rfl ?_
              | refine Sep.LdS s (i := 1) rfl rfl rfl ?_
              | refine Sep.LdB s (i := 1) rfl rfl rfl ?_
              | refine Sep.LdP s (i := 1) rfl rfl rfl ?_
              | refine And.intro (Sep.cell s (i := 1) rfl rfl rfl) ?_
              | (refine Sep.St s (i := 0) rfl rfl rfl fun w s => ?_; simp only [List.set_cons_zero, List.set_cons_succ] at s)
              | (refine Sep.St s (i := 1) rfl rfl rfl fun w s => ?_; simp only [List.set_cons_zero, List.set_cons_succ] at s)
              | refine Sep.Bx s fun b w s => ?_
              | (refine Sep.Al s fun b w s => ?_; simp only [zc30, zc47] at s))
          rw [hm0]
          by_cases hm : m = []
          · rw [decide_eq_true hm, cond_true]
            have := hh _ _ s
            rwa [hs, hf, hg, decide_eq_true hm, Bool.true_or] at this
          · rw [decide_eq_false hm, cond_false]
            repeat' first
              | refine Sep.LdI s (i := 0) rfl rfl rfl ?_
              | refine Sep.LdS s (i := 0) rfl rfl rfl ?_
              | refine Sep.LdB s (i := 0) rfl rfl rfl ?_
              | refine Sep.LdP s (i := 0) rfl rfl rfl ?_
              | refine And.intro (Sep.cell s (i := 0) rfl rfl rfl) ?_
              | refine Sep.LdI s (i := 1) rfl rfl rfl ?_
              | refine Sep.LdS s (i := 1) rfl rfl rfl ?_
              | refine Sep.LdB s (i := 1) rfl rfl rfl ?_
              | refine Sep.LdP s (i := 1) rfl rfl rfl ?_
              | refine And.intro (Sep.cell s (i := 1) rfl rfl rfl) ?_
              | (refine Sep.St s (i := 0) rfl rfl rfl fun w s => ?_; simp only [List.set_cons_zero, List.set_cons_succ] at s)
              | (refine Sep.St s (i := 1) rfl rfl rfl fun w s => ?_; simp only [List.set_cons_zero, List.set_cons_succ] at s)
              | refine Sep.Bx s fun b w s => ?_
              | (refine Sep.Al s fun b w s => ?_; simp only [zc30, zc47] at s)
              | (replace s := Sep.drew s; first
                | refine Sep.LdI s (i := 0) rfl rfl rfl ?_
                | refine Sep.LdS s (i := 0) rfl rfl rfl ?_
                | refine Sep.LdB s (i := 0) rfl rfl rfl ?_
                | refine Sep.LdP s (i := 0) rfl rfl rfl ?_
                | refine And.intro (Sep.cell s (i := 0) rfl rfl rfl) ?_
                | refine Sep.LdI s (i := 1) rfl rfl rfl ?_
                | refine Sep.LdS s (i := 1) rfl rfl rfl ?_
                | refine Sep.LdB s (i := 1) rfl rfl rfl ?_
                | refine Sep.LdP s (i := 1) rfl rfl rfl ?_
                | refine And.intro (Sep.cell s (i := 1) rfl rfl rfl) ?_
                | (refine Sep.St s (i := 0) rfl rfl rfl fun w s => ?_; simp only [List.set_cons_zero, List.set_cons_succ] at s)
                | (refine Sep.St s (i := 1) rfl rfl rfl fun w s => ?_; simp only [List.set_cons_zero, List.set_cons_succ] at s)
                | refine Sep.Bx s fun b w s => ?_
                | (refine Sep.Al s fun b w s => ?_; simp only [zc30, zc47] at s))
            have := hh _ _ s
            rw [hs, hf, hg, decide_eq_false hm, Bool.false_or, Bool.true_and, Bool.true_and, Bool.true_and] at this
            cases hL : shL k with
            | false => rwa [hL, Bool.false_and] at this
            | true =>
              rw [cond_true]
              repeat' first
                | refine Sep.LdI s (i := 0) rfl rfl rfl ?_
                | refine Sep.LdS s (i := 0) rfl rfl rfl ?_
                | refine Sep.LdB s (i := 0) rfl rfl rfl ?_
                | refine Sep.LdP s (i := 0) rfl rfl rfl ?_
                | refine And.intro (Sep.cell s (i := 0) rfl rfl rfl) ?_
                | refine Sep.LdI s (i := 1) rfl rfl rfl ?_
                | refine Sep.LdS s (i := 1) rfl rfl rfl ?_
                | refine Sep.LdB s (i := 1) rfl rfl rfl ?_
                | refine Sep.LdP s (i := 1) rfl rfl rfl ?_
                | refine And.intro (Sep.cell s (i := 1) rfl rfl rfl) ?_
                | (refine Sep.St s (i := 0) rfl rfl rfl fun w s => ?_; simp only [List.set_cons_zero, List.set_cons_succ] at s)
                | (refine Sep.St s (i := 1) rfl rfl rfl fun w s => ?_; simp only [List.set_cons_zero, List.set_cons_succ] at s)
                | refine Sep.Bx s fun b w s => ?_
                | (refine Sep.Al s fun b w s => ?_; simp only [zc30, zc47] at s)
                | (replace s := Sep.drew s; first
                  | refine Sep.LdI s (i := 0) rfl rfl rfl ?_
                  | refine Sep.LdS s (i := 0) rfl rfl rfl ?_
                  | refine Sep.LdB s (i := 0) rfl rfl rfl ?_
                  | refine Sep.LdP s (i := 0) rfl rfl rfl ?_
                  | refine And.intro (Sep.cell s (i := 0) rfl rfl rfl) ?_
                  | refine Sep.LdI s (i := 1) rfl rfl rfl ?_
                  | refine Sep.LdS s (i := 1) rfl rfl rfl ?_
                  | refine Sep.LdB s (i := 1) rfl rfl rfl ?_
                  | refine Sep.LdP s (i := 1) rfl rfl rfl ?_
                  | refine And.intro (Sep.cell s (i := 1) rfl rfl rfl) ?_
                  | (refine Sep.St s (i := 0) rfl rfl rfl fun w s => ?_; simp only [List.set_cons_zero, List.set_cons_succ] at s)
                  | (refine Sep.St s (i := 1) rfl rfl rfl fun w s => ?_; simp only [List.set_cons_zero, List.set_cons_succ] at s)
                  | refine Sep.Bx s fun b w s => ?_
                  | (refine Sep.Al s fun b w s => ?_; simp only [zc30, zc47] at s))
              have := hh _ _ s
              rw [hs, hf, hg, decide_eq_false hm, Bool.false_or, Bool.true_and, Bool.true_and, Bool.true_and, hL, Bool.true_and] at this
              rwa [show decide ((n : Int) ≤ 4294967295) = decide (m.length ≤ 4294967295) from decide_eq_decide.2 (by omega)]
/-! Rows of ops. -/
structure OpR where
  k : Int
  A : Int
  B : Int
  a : Option Addr
  n : Nat
  c : Nat
def opc (v : OpR) : List Value := [.int .i64 v.k, .int .i64 v.A, .int .i64 v.B, .slice v.a v.n v.c]
theorem opc_len (v : OpR) : (opc v).length = 4 := rfl
theorem opc_one (v : OpR) (u : Value) (h : u ∈ opc v) : u.oneCell' = true := by
  simp only [opc, List.mem_cons, List.not_mem_nil, or_false] at h
  rcases h with rfl | rfl | rfl | rfl <;> rfl
structure OpV (w : World) (v : OpR) (o : OpP) : Prop where
  k : v.k = o.k
  A : v.A = o.A
  B : v.B = o.B
  m : Sl w v.a v.n v.c 1 by8 o.m
  rng : Rng o.m
theorem OpV.fr {w w' : World} {v : OpR} {o : OpP} (h : OpV w v o) (f : Fr No w w') : OpV w' v o := ⟨h.k, h.A, h.B, h.m.fr f, h.rng⟩
/-- A slice of ops that is known, with what they hold. -/
def Ops (w : World) (a : Option Addr) (n c : Nat) (os : List OpP) : Prop := ∃ vs : List OpR, Sl w a n c 4 opc vs ∧ os.length = n ∧ ∀ (i : Nat) (v : OpR) (o : OpP), vs[i]? = some v → os[i]? = some o → OpV w v o
theorem Ops.fr {w w' : World} {a : Option Addr} {n c : Nat} {os : List OpP} (h : Ops w a n c os) (f : Fr No w w') : Ops w' a n c os := by
  obtain ⟨vs, h1, h2, h3⟩ := h
  exact ⟨vs, h1.fr f, h2, fun i v o hv ho => (h3 i v o hv ho).fr f⟩
theorem Ops.drew {w : World} {a : Option Addr} {n c : Nat} {os : List OpP} (h : Ops w a n c os) : Ops w.drew a n c os := h.fr (Fr.refl (w := w))
theorem Ops.len {w : World} {a : Option Addr} {n c : Nat} {os : List OpP} (h : Ops w a n c os) : os.length = n := h.elim fun _ h => h.2.1
theorem Ops.none0 {w : World} : Ops w none 0 0 [] := ⟨[], Sl.none0, rfl, fun i v o h => by simp at h⟩
theorem Ops.El {w : World} {a : Option Addr} {n c : Nat} {os : List OpP} {idx : Int} {k : Nat} {K : Addr → Prop} (h : Ops w a n c os) (hk : idx = k) (hn : k < n)
    (hK : ∀ p v o, os[k]? = some o → OpV w v o → (∀ j u, (opc v)[j]? = some u → w.cell? ((p.add (idx.toNat * 4)).add j) = some u) → K p) : InB idx n (wA a K) := by
  obtain ⟨vs, h1, h2, h3⟩ := h
  refine h1.El hk hn fun p v hv hc => ?_
  have ho : os[k]? = some (os[k]'(by omega)) := List.getElem?_eq_getElem _
  exact hK p v _ ho (h3 k v _ hv ho) hc
theorem Ops.Elf {w0 w : World} {a : Option Addr} {n c : Nat} {os : List OpP} {idx : Int} {k : Nat} {K : Addr → Prop} (h : Ops w0 a n c os) (f : Fr No w0 w) (hk : idx = k) (hn : k < n)
    (hK : ∀ p (o : OpP) va vn vc, os[k]? = some o → Sl w0 va vn vc 1 by8 o.m → Rng o.m → (∀ (j : Nat) u, (opc ⟨o.k, o.A, o.B, va, vn, vc⟩)[j]? = some u → w.cell? ((p.add (idx.toNat * 4)).add j) = some u) → K p) : InB idx n (wA a K) :=
  h.El hk hn fun p v o ho hv hc => by
    obtain ⟨k1, A1, B1, va, vn, vc⟩ := v
    obtain ⟨h1, h2, h3, h4, h5⟩ := hv
    simp only at h1 h2 h3 h4
    subst h1 h2 h3
    exact hK p o va vn vc ho h4 h5 fun j u hj => Fr.cell f (hc j u hj) id
structure Agree (e : OpR × OpP) : Prop where
  k : e.1.k = e.2.k
  A : e.1.A = e.2.A
  B : e.1.B = e.2.B
  rng : Rng e.2.m
def mapsA (es : List (OpR × OpP)) : As := joinA (∀ e ∈ es, Agree e) (es.map fun e => rowA e.1.a e.1.n e.1.c 5 1 (flat by8 e.2.m))
section
variable {F : Nat → Prop} {W w : World} {L : List As} {oa : Option Addr} {on oc : Nat} {es : List (OpR × OpP)}
theorem mapsA_nil (s : Sep F W w L) : Sep F W w (mapsA [] :: L) := by
  unfold mapsA
  exact Sep.joinApp (Ps := []) s (by simp)
theorem mapsA_add {v : OpR} {o : OpP} (s : Sep F W w (mapsA es :: rowA v.a v.n v.c 5 1 (flat by8 o.m) :: L)) (ha : Agree (v, o)) : Sep F W w (mapsA (es ++ [(v, o)]) :: L) := by
  unfold mapsA at s ⊢
  obtain ⟨h1, s⟩ := Sep.openJ s
  rw [List.map_append]
  refine Sep.joinApp ?_ fun e he => ?_
  · rw [List.map_singleton, List.append_assoc, List.singleton_append]
    exact s
  · rcases List.mem_append.1 he with he | he
    · exact h1 e he
    · rw [List.mem_singleton.1 he]; exact ha
theorem maps_know (s : Sep F W w (rowA oa on oc 30 4 (flat opc (es.map (·.1))) :: mapsA es :: L)) : Ops w oa on oc (es.map (·.2)) := by
  have h1 := Sep.sl s (i := 0) rfl opc_len (by decide)
  have hl := h1.len
  rw [List.length_map] at hl
  refine ⟨_, h1, by rw [List.length_map, hl], fun i v o hv ho => ?_⟩
  unfold mapsA at s
  obtain ⟨h2, s2⟩ := Sep.openJ (Sep.drop s)
  rw [List.getElem?_map] at hv ho
  obtain ⟨e, he, rfl⟩ := Option.map_eq_some_iff.1 hv
  rw [he] at ho
  cases ho
  have ha := h2 e (List.mem_of_getElem? he)
  have hi : i < es.length := (List.getElem?_eq_some_iff.1 he).1
  exact ⟨ha.k, ha.A, ha.B, Sep.sl s2 (i := i) (by rw [List.getElem?_append_left (by rw [List.length_map]; exact hi), List.getElem?_map, he]; rfl) by8_len (by decide), ha.rng⟩
theorem addOp {v : OpR} {o : OpP} {K : Option Addr → Nat → Nat → World → Prop} (s : Sep F W w (rowA oa on oc 30 4 (flat opc (es.map (·.1))) :: mapsA es :: rowA v.a v.n v.c 5 1 (flat by8 o.m) :: L)) (ha : Agree (v, o)) (hon : on ≤ 1000000000)
    (k : ∀ a' c' w', Sep F W w' (rowA a' (on + 1) c' 30 4 (flat opc ((es ++ [(v, o)]).map (·.1))) :: mapsA (es ++ [(v, o)]) :: L) → K a' (on + 1) c' w') :
    Bx [.int .i64 v.k, .int .i64 v.A, .int .i64 v.B, .slice v.a v.n v.c] 30 w fun p w1 => App P #[25, 25] 25 (.slice oa on oc) (.slice (some p) 1 1) w1 K := by
  refine Sep.Bx s fun b w1 s1 => ?_
  have src : Src w1 (some ⟨b, 0, none⟩) 1 4 (opc v) := ⟨rfl, opc_one v, fun j u hj => by rw [add_flat, Nat.zero_add]; exact Sep.cell s1 (i := 0) rfl rfl hj⟩
  refine Sep.App tab_ok s1 (i := 1) (size := 4) (bytes := 48) rfl rfl rfl rfl rfl rfl (by decide) rfl src (by simp only [maxLen]; omega) (by omega) (fun e => by cases e) fun a1 c1 w2 s2 => ?_
  simp only [List.set_cons_zero, List.set_cons_succ] at s2
  have e : flat opc (es.map (·.1)) ++ opc v = flat opc ((es ++ [(v, o)]).map (·.1)) := by rw [List.map_append, flat_append]; simp [flat]
  rw [e] at s2
  refine k a1 c1 w2 ?_
  have s4 := Sep.perm (Sep.drop s2) (List.Perm.trans (List.Perm.swap ..) (List.Perm.cons _ (List.Perm.swap ..)))
  exact Sep.perm (mapsA_add s4 ha) (List.Perm.swap ..)
/-- The op that Decode puts behind the others. -/
theorem Decode_b6 {P2 : Option Addr → Nat → Nat → Option Addr → Nat → Nat → World → Prop} {Q : Option Addr → Nat → Nat → World → Prop} {ba : Option Addr} {bn bc ob u : Nat} {bs : List Int} {v : OpR} {o : OpP} {w0 : World}
    (hA : Sl w0 ba bn bc 1 by8 bs) (hu : u ≤ bn)
    (s : Sep No w0 w (rowA oa on oc 30 4 (flat opc (es.map (·.1))) :: mapsA es :: rowA v.a v.n v.c 5 1 (flat by8 o.m) :: blkA ob 30 (opc v) :: L)) (ha : Agree (v, o)) (hon : on ≤ 1000000000)
    (k : ∀ ba' bn' bc' a' c' w', bn' = bn - u → Sl w0 ba' bn' bc' 1 by8 (bs.drop u) → Sep No w0 w' (rowA a' (on + 1) c' 30 4 (flat opc ((es ++ [(v, o)]).map (·.1))) :: mapsA (es ++ [(v, o)]) :: blkA ob 30 (opc v) :: L) → P2 ba' bn' bc' a' (on + 1) c' w') :
    op_Decode.b6 P2 Q ba bn bc oa on oc ⟨ob, 0, none⟩ u w := by
  unfold op_Decode.b6
  unfold opc at s
  repeat' first
    | refine Sep.LdI s (i := 0) rfl rfl rfl ?_
    | refine Sep.LdS s (i := 0) rfl rfl rfl ?_
    | refine Sep.LdB s (i := 0) rfl rfl rfl ?_
    | refine Sep.LdP s (i := 0) rfl rfl rfl ?_
    | refine And.intro (Sep.cell s (i := 0) rfl rfl rfl) ?_
    | refine Sep.LdI s (i := 1) rfl rfl rfl ?_
    | refine Sep.LdS s (i := 1) rfl rfl rfl ?_
    | refine Sep.LdB s (i := 1) rfl rfl rfl ?_
    | refine Sep.LdP s (i := 1) rfl rfl rfl ?_
    | refine And.intro (Sep.cell s (i := 1) rfl rfl rfl) ?_
    | refine Sep.LdI s (i := 2) rfl rfl rfl ?_
    | refine Sep.LdS s (i := 2) rfl rfl rfl ?_
    | refine Sep.LdB s (i := 2) rfl rfl rfl ?_
    | refine Sep.LdP s (i := 2) rfl rfl rfl ?_
    | refine And.intro (Sep.cell s (i := 2) rfl rfl rfl) ?_
    | refine Sep.LdI s (i := 3) rfl rfl rfl ?_
    | refine Sep.LdS s (i := 3) rfl rfl rfl ?_
    | refine Sep.LdB s (i := 3) rfl rfl rfl ?_
    | refine Sep.LdP s (i := 3) rfl rfl rfl ?_
    | refine And.intro (Sep.cell s (i := 3) rfl rfl rfl) ?_
    | (replace s := Sep.drew s; first
      | refine Sep.LdI s (i := 0) rfl rfl rfl ?_
      | refine Sep.LdS s (i := 0) rfl rfl rfl ?_
      | refine Sep.LdB s (i := 0) rfl rfl rfl ?_
      | refine Sep.LdP s (i := 0) rfl rfl rfl ?_
      | refine And.intro (Sep.cell s (i := 0) rfl rfl rfl) ?_
      | refine Sep.LdI s (i := 1) rfl rfl rfl ?_
      | refine Sep.LdS s (i := 1) rfl rfl rfl ?_
      | refine Sep.LdB s (i := 1) rfl rfl rfl ?_
      | refine Sep.LdP s (i := 1) rfl rfl rfl ?_
      | refine And.intro (Sep.cell s (i := 1) rfl rfl rfl) ?_
      | refine Sep.LdI s (i := 2) rfl rfl rfl ?_
      | refine Sep.LdS s (i := 2) rfl rfl rfl ?_
      | refine Sep.LdB s (i := 2) rfl rfl rfl ?_
      | refine Sep.LdP s (i := 2) rfl rfl rfl ?_
      | refine And.intro (Sep.cell s (i := 2) rfl rfl rfl) ?_
      | refine Sep.LdI s (i := 3) rfl rfl rfl ?_
      | refine Sep.LdS s (i := 3) rfl rfl rfl ?_
      | refine Sep.LdB s (i := 3) rfl rfl rfl ?_
      | refine Sep.LdP s (i := 3) rfl rfl rfl ?_
      | refine And.intro (Sep.cell s (i := 3) rfl rfl rfl) ?_)
  refine addOp (v := v) (o := o) s ha hon fun a' c' w s => ?_
  exact hA.lo rfl hu fun ba' bn' bc' hbn hB => k _ _ _ _ _ _ hbn hB s
attribute [local irreducible] op_Decode.b6 in
theorem op_Decode.spec {w0 : World} {a : Option Addr} {n c : Nat} {bs : List Int} {Q : Option Addr → Nat → Nat → World → Prop} (s0 : Sep F W w0 L) (hA : Sl w0 a n c 1 by8 bs) (hr : Rng bs) (hn : n ≤ 1000000000)
    (h : ∀ oa on oc w', Sep F W w' L → Fr No w0 w' → Ops w' oa on oc (dec bs) → Q oa on oc w') : op_Decode.call a n c w0 Q := by
  refine op_Decode.body _ _ _ _ _ ?_
  unfold op_Decode.sh
  have loop : ∀ (m : Nat) (a : Option Addr) (n c : Nat) (bs : List Int) (oa : Option Addr) (on oc : Nat) (es : List (OpR × OpP)) (w : World) (L : List As), n ≤ m → on + n ≤ 1000000000 → Sl w0 a n c 1 by8 bs → Rng bs →
      Sep No w0 w (rowA oa on oc 30 4 (flat opc (es.map (·.1))) :: mapsA es :: L) →
      (∀ oa on oc es' w' L', Sep No w0 w' (rowA oa on oc 30 4 (flat opc (es'.map (·.1))) :: mapsA es' :: L') → es'.map (·.2) = es.map (·.2) ++ dec bs → Q oa on oc w') → op_Decode.b2 Q (m + 1) a n c oa on oc w := by
    intro m
    induction m with
    | zero =>
      intro a n c bs oa on oc es w L hm hon hA hr s h
      obtain rfl : n = 0 := by omega
      have hb : bs = [] := List.eq_nil_of_length_eq_zero hA.len
      subst hb
      show op_Decode.s2 Q (op_Decode.b2 Q 0) _ _ _ _ _ _ _
      unfold op_Decode.s2
      rw [decide_eq_false (by decide), cond_false]
      exact h _ _ _ es _ _ s (by rw [dec_nil, List.append_nil])
    | succ m ih =>
      intro a n c bs oa on oc es w L hm hon hA hr s h
      show op_Decode.s2 Q (op_Decode.b2 Q (m + 1)) _ _ _ _ _ _ _
      unfold op_Decode.s2
      by_cases h0 : n = 0
      · subst h0
        have hb : bs = [] := List.eq_nil_of_length_eq_zero hA.len
        subst hb
        rw [decide_eq_false (by decide), cond_false]
        exact h _ _ _ es _ _ s (by rw [dec_nil, List.append_nil])
      · rw [decide_eq_true (by omega), cond_true]
        have hne : bs ≠ [] := fun e => by have := hA.len; rw [e] at this; exact h0 this.symm
        refine op_read.spec s (hA.fr (sep_fr s)) hr (by omega) (by omega) fun ra rn rc w hrn s _ => ?_
        repeat' first
          | refine Sep.LdI s (i := 0) rfl rfl rfl ?_
          | refine Sep.LdS s (i := 0) rfl rfl rfl ?_
          | refine Sep.LdB s (i := 0) rfl rfl rfl ?_
          | refine Sep.LdP s (i := 0) rfl rfl rfl ?_
          | refine And.intro (Sep.cell s (i := 0) rfl rfl rfl) ?_
          | (refine Sep.St s (i := 0) rfl rfl rfl fun w s => ?_; simp only [List.set_cons_zero, List.set_cons_succ] at s)
          | refine Sep.Bx s fun b w s => ?_
          | (refine Sep.Al s fun b w s => ?_; simp only [zc30, zc47] at s)
          | (replace s := Sep.drew s; first
            | refine Sep.LdI s (i := 0) rfl rfl rfl ?_
            | refine Sep.LdS s (i := 0) rfl rfl rfl ?_
            | refine Sep.LdB s (i := 0) rfl rfl rfl ?_
            | refine Sep.LdP s (i := 0) rfl rfl rfl ?_
            | refine And.intro (Sep.cell s (i := 0) rfl rfl rfl) ?_
            | (refine Sep.St s (i := 0) rfl rfl rfl fun w s => ?_; simp only [List.set_cons_zero, List.set_cons_succ] at s)
            | refine Sep.Bx s fun b w s => ?_
            | (refine Sep.Al s fun b w s => ?_; simp only [zc30, zc47] at s))
        by_cases hu : (readP bs).2 = 0
        · rw [show (((readP bs).2 : Int) == 0) = true by rw [beq_iff_eq]; omega, cond_true]
          refine clone s (hA.fr (sep_fr s)) (by omega) fun ra rc w s => ?_
          repeat' first
            | refine Sep.LdI s (i := 0) rfl rfl rfl ?_
            | refine Sep.LdS s (i := 0) rfl rfl rfl ?_
            | refine Sep.LdB s (i := 0) rfl rfl rfl ?_
            | refine Sep.LdP s (i := 0) rfl rfl rfl ?_
            | refine And.intro (Sep.cell s (i := 0) rfl rfl rfl) ?_
            | refine Sep.LdI s (i := 1) rfl rfl rfl ?_
            | refine Sep.LdS s (i := 1) rfl rfl rfl ?_
            | refine Sep.LdB s (i := 1) rfl rfl rfl ?_
            | refine Sep.LdP s (i := 1) rfl rfl rfl ?_
            | refine And.intro (Sep.cell s (i := 1) rfl rfl rfl) ?_
            | (refine Sep.St s (i := 0) rfl rfl rfl fun w s => ?_; simp only [List.set_cons_zero, List.set_cons_succ] at s)
            | (refine Sep.St s (i := 1) rfl rfl rfl fun w s => ?_; simp only [List.set_cons_zero, List.set_cons_succ] at s)
            | refine Sep.Bx s fun b w s => ?_
            | (refine Sep.Al s fun b w s => ?_; simp only [zc30, zc47] at s)
            | (replace s := Sep.drew s; first
              | refine Sep.LdI s (i := 0) rfl rfl rfl ?_
              | refine Sep.LdS s (i := 0) rfl rfl rfl ?_
              | refine Sep.LdB s (i := 0) rfl rfl rfl ?_
              | refine Sep.LdP s (i := 0) rfl rfl rfl ?_
              | refine And.intro (Sep.cell s (i := 0) rfl rfl rfl) ?_
              | refine Sep.LdI s (i := 1) rfl rfl rfl ?_
              | refine Sep.LdS s (i := 1) rfl rfl rfl ?_
              | refine Sep.LdB s (i := 1) rfl rfl rfl ?_
              | refine Sep.LdP s (i := 1) rfl rfl rfl ?_
              | refine And.intro (Sep.cell s (i := 1) rfl rfl rfl) ?_
              | (refine Sep.St s (i := 0) rfl rfl rfl fun w s => ?_; simp only [List.set_cons_zero, List.set_cons_succ] at s)
              | (refine Sep.St s (i := 1) rfl rfl rfl fun w s => ?_; simp only [List.set_cons_zero, List.set_cons_succ] at s)
              | refine Sep.Bx s fun b w s => ?_
              | (refine Sep.Al s fun b w s => ?_; simp only [zc30, zc47] at s))
          have s := Sep.pick (L' := [_, _, _, _]) [3, 4, 0, 1] s rfl (by decide)
          refine Decode_b6 (v := ⟨0, -1, 0, ra, n, rc⟩) (o := ⟨0, -1, 0, bs⟩) (L := []) hA (Nat.le_refl n) s ⟨rfl, rfl, rfl, hr⟩ (by omega) fun ba' bn' bc' a' c' w hbn hB s => ?_
          have e : bs.drop n = [] := List.drop_eq_nil_of_le (by rw [hA.len]; exact Nat.le_refl n)
          rw [e] at hB
          refine ih ba' bn' bc' [] a' (on + 1) c' _ w _ (by omega) (by omega) hB Rng.nil s fun oa on oc es' w' L' s' he => h _ _ _ es' _ _ s' ?_
          rw [he, dec_cut hne hu, dec_nil, List.map_append, List.append_nil]
          rfl
        · rw [show (((readP bs).2 : Int) == 0) = false by rw [beq_eq_false_iff_ne]; omega, cond_false]
          obtain ⟨_, _, _, hu2, hr2⟩ := wr_read hr hu
          have s := Sep.pick (L' := [_, _, _, _]) [2, 3, 1, 0] s rfl (by decide)
          refine Decode_b6 (v := ⟨(readP bs).1.k, (readP bs).1.A, (readP bs).1.B, ra, rn, rc⟩) (o := (readP bs).1) (L := []) hA (by rw [← hA.len]; exact hu2) s ⟨rfl, rfl, rfl, hr2⟩ (by omega) fun ba' bn' bc' a' c' w hbn hB s => ?_
          refine ih ba' bn' bc' _ a' (on + 1) c' _ w _ (by omega) (by omega) hB (hr.drop _) s fun oa on oc es' w' L' s' he => h _ _ _ es' _ _ s' ?_
          rw [he, dec_cons hne hu, List.map_append, List.append_assoc]
          rfl
  have s := Sep.row_nil (mapsA_nil (Sep.nil (F := No) (w := w0))) 30 4
  refine ⟨n + 1, loop n a n c bs none 0 0 [] w0 _ (Nat.le_refl n) (by omega) hA hr s fun oa on oc es' w' L' s' he => ?_⟩
  have k := maps_know s'
  rw [he] at k
  exact h oa on oc w' (Sep.call s0 (sep_fr s')) (sep_fr s') k
end
end Go.Proofs.Ytjndgflalbcngaa.S
