/- Layer 26: read, cut; rows of ops. -/
import Derived.Test.YtjndgflalbcngaaOA
set_option linter.unusedVariables false
set_option linter.unusedSimpArgs false
namespace Go.Proofs.Ytjndgflalbcngaa.S
open Go.Sx
attribute [local irreducible] LdI LdB LdStr LdP LdS LdM LdV St Bx Al App Cpy MkS MkM EqK RunK RunU CallK SlK blkA rowA joinA
section
variable {F : Nat → Prop} {W w : World} {L : List As} {a : Option Addr} {n c : Nat} {bs : List Int}
theorem clone {K : Option Addr → Nat → Nat → World → Prop} (s : Sep F W w L) (h : Sl w a n c 1 by8 bs) (hn : n ≤ 1000000000000) (k : ∀ ra rc w', Sep F W w' (rowA ra n rc 5 1 (flat by8 bs) :: L) → K ra n rc w') :
    App P #[22, 22] 22 (.slice none 0 0) (.slice a n c) w K := by
  have src := h.src (e := 5) by8_len by8_one
  refine Sep.App tab_ok (Sep.row_nil s 5 1) (i := 0) (size := 1) (bytes := 1) rfl rfl rfl rfl rfl rfl (by decide) rfl src (by simp only [maxLen]; omega) (by omega) h.nil fun a1 c1 w1 s1 => ?_
  simp only [List.set_cons_zero, List.nil_append, Nat.zero_add] at s1 ⊢
  exact k a1 c1 w1 s1
theorem clone0 {K : Option Addr → Nat → Nat → World → Prop} {b : Nat} (s : Sep F W w (blkA b 5 [] :: L)) (h : Sl w a n c 1 by8 bs) (hn : n ≤ 1000000000000) (k : ∀ ra rc w', Sep F W w' (rowA ra n rc 5 1 (flat by8 bs) :: L) → K ra n rc w') :
    App P #[22, 22] 22 (.slice (some ⟨b, 0, none⟩) 0 0) (.slice a n c) w K := by
  have src := h.src (e := 5) by8_len by8_one
  have s := Sep.blk_row (n := 0) (size := 1) s (i := 0) rfl rfl (by decide) (by simp)
  simp only [List.set_cons_zero] at s
  refine Sep.App tab_ok s (i := 0) (size := 1) (bytes := 1) rfl rfl rfl rfl rfl rfl (by decide) rfl src (by simp only [maxLen]; omega) (by omega) h.nil fun a1 c1 w1 s1 => ?_
  simp only [List.set_cons_zero, List.nil_append, Nat.zero_add] at s1 ⊢
  exact k a1 c1 w1 s1
theorem op_read.spec {w0 : World} {Q : Int → Int → Int → Option Addr → Nat → Nat → Int → World → Prop} (s0 : Sep F W w0 L) (hA : Sl w0 a n c 1 by8 bs) (hr : Rng bs) (hn : 0 < n) (hn2 : n ≤ 1000000000000)
    (h : ∀ ra rn rc w', rn = (readP bs).1.m.length → Sep F W w' (rowA ra rn rc 5 1 (flat by8 (readP bs).1.m) :: L) → Fr No w0 w' → Q (readP bs).1.k (readP bs).1.A (readP bs).1.B ra rn rc ((readP bs).2 : Nat) w') : op_read.call a n c w0 Q := by
  refine op_read.body _ _ _ _ _ ?_
  unfold op_read.sh
  have hl := hA.len
  cases bs with
  | nil => simp at hl; omega
  | cons x r =>
    obtain ⟨hx, hr⟩ := hr.cons
    rw [List.length_cons] at hl
    have s := Sep.nil (F := No) (w := w0)
    have rr := hr
    repeat' first
      | refine Sep.LdI s (i := 0) rfl rfl rfl ?_
      | refine Sep.LdS s (i := 0) rfl rfl rfl ?_
      | refine Sep.LdB s (i := 0) rfl rfl rfl ?_
      | refine Sep.LdP s (i := 0) rfl rfl rfl ?_
      | refine And.intro (Sep.cell s (i := 0) rfl rfl rfl) ?_
      | (refine Sep.St s (i := 0) rfl rfl rfl fun w s => ?_; simp only [List.set_cons_zero, List.set_cons_succ] at s)
      | refine Sep.Bx s fun b w s => ?_
      | (refine Sep.Al s fun b w s => ?_; simp only [zc30, zc47] at s)
      | (replace s := Sep.drew s; first
        | refine Sep.LdI s (i := 0) rfl rfl rfl ?_
        | refine Sep.LdS s (i := 0) rfl rfl rfl ?_
        | refine Sep.LdB s (i := 0) rfl rfl rfl ?_
        | refine Sep.LdP s (i := 0) rfl rfl rfl ?_
        | refine And.intro (Sep.cell s (i := 0) rfl rfl rfl) ?_
        | (refine Sep.St s (i := 0) rfl rfl rfl fun w s => ?_; simp only [List.set_cons_zero, List.set_cons_succ] at s)
        | refine Sep.Bx s fun b w s => ?_
        | (refine Sep.Al s fun b w s => ?_; simp only [zc30, zc47] at s))
    refine Sl.rd8 (hA.fr (sep_fr s)).drew (k := 0) rfl (by omega) ?_
    have g0 : gi (x :: r) 0 = x := rfl
    rw [g0, wrap_i64 (n := x) (by omega) (by omega)]
    refine hA.lo (m := 1) rfl (by omega) fun ta tn tc htn hT => ?_
    have hT : Sl w0 ta tn tc 1 by8 r := hT
    have htn' : tn = r.length := by omega
    refine op_shaped.spec (Sep.drew s) fun w s k => ?_
    repeat' first
      | refine Sep.LdI s (i := 0) rfl rfl rfl ?_
      | refine Sep.LdS s (i := 0) rfl rfl rfl ?_
      | refine Sep.LdB s (i := 0) rfl rfl rfl ?_
      | refine Sep.LdP s (i := 0) rfl rfl rfl ?_
      | refine And.intro (Sep.cell s (i := 0) rfl rfl rfl) ?_
      | refine Sep.LdI s (i := 1) rfl rfl rfl ?_
      | refine Sep.LdS s (i := 1) rfl rfl rfl ?_
      | refine Sep.LdB s (i := 1) rfl rfl rfl ?_
      | refine Sep.LdP s (i := 1) rfl rfl rfl ?_
      | refine And.intro (Sep.cell s (i := 1) rfl rfl rfl) ?_
      | (refine Sep.St s (i := 0) rfl rfl rfl fun w s => ?_; simp only [List.set_cons_zero, List.set_cons_succ] at s)
      | (refine Sep.St s (i := 1) rfl rfl rfl fun w s => ?_; simp only [List.set_cons_zero, List.set_cons_succ] at s)
      | refine Sep.Bx s fun b w s => ?_
      | (refine Sep.Al s fun b w s => ?_; simp only [zc30, zc47] at s)
      | (replace s := Sep.drew s; first
        | refine Sep.LdI s (i := 0) rfl rfl rfl ?_
        | refine Sep.LdS s (i := 0) rfl rfl rfl ?_
        | refine Sep.LdB s (i := 0) rfl rfl rfl ?_
        | refine Sep.LdP s (i := 0) rfl rfl rfl ?_
        | refine And.intro (Sep.cell s (i := 0) rfl rfl rfl) ?_
        | refine Sep.LdI s (i := 1) rfl rfl rfl ?_
        | refine Sep.LdS s (i := 1) rfl rfl rfl ?_
        | refine Sep.LdB s (i := 1) rfl rfl rfl ?_
        | refine Sep.LdP s (i := 1) rfl rfl rfl ?_
        | refine And.intro (Sep.cell s (i := 1) rfl rfl rfl) ?_
        | (refine Sep.St s (i := 0) rfl rfl rfl fun w s => ?_; simp only [List.set_cons_zero, List.set_cons_succ] at s)
        | (refine Sep.St s (i := 1) rfl rfl rfl fun w s => ?_; simp only [List.set_cons_zero, List.set_cons_succ] at s)
        | refine Sep.Bx s fun b w s => ?_
        | (refine Sep.Al s fun b w s => ?_; simp only [zc30, zc47] at s))
    have short : readP (x :: r) = (⟨0, 0, 0, []⟩, 0) → ∀ w', Fr No w0 w' → Q 0 0 0 none 0 0 0 w' := fun e w' f => by
      rw [e] at h
      exact h none 0 0 w' rfl (Sep.row_nil (Sep.call s0 f) 5 1) f
    cases hk : shOk x with
    | false =>
      rw [Bool.not_false, cond_true]
      have e : readP (x :: r) = (⟨0, x, 0, []⟩, 1) := by rw [readP_cons, if_neg (by rw [hk]; decide)]
      rw [e] at h
      repeat' first
        | refine Sep.LdI s (i := 0) rfl rfl rfl ?_
        | refine Sep.LdS s (i := 0) rfl rfl rfl ?_
        | refine Sep.LdB s (i := 0) rfl rfl rfl ?_
        | refine Sep.LdP s (i := 0) rfl rfl rfl ?_
        | refine And.intro (Sep.cell s (i := 0) rfl rfl rfl) ?_
        | refine Sep.LdI s (i := 1) rfl rfl rfl ?_
        | refine Sep.LdS s (i := 1) rfl rfl rfl ?_
        | refine Sep.LdB s (i := 1) rfl rfl rfl ?_
        | refine Sep.LdP s (i := 1) rfl rfl rfl ?_
        | refine And.intro (Sep.cell s (i := 1) rfl rfl rfl) ?_
        | (refine Sep.St s (i := 0) rfl rfl rfl fun w s => ?_; simp only [List.set_cons_zero, List.set_cons_succ] at s)
        | (refine Sep.St s (i := 1) rfl rfl rfl fun w s => ?_; simp only [List.set_cons_zero, List.set_cons_succ] at s)
        | refine Sep.Bx s fun b w s => ?_
        | (refine Sep.Al s fun b w s => ?_; simp only [zc30, zc47] at s)
        | (replace s := Sep.drew s; first
          | refine Sep.LdI s (i := 0) rfl rfl rfl ?_
          | refine Sep.LdS s (i := 0) rfl rfl rfl ?_
          | refine Sep.LdB s (i := 0) rfl rfl rfl ?_
          | refine Sep.LdP s (i := 0) rfl rfl rfl ?_
          | refine And.intro (Sep.cell s (i := 0) rfl rfl rfl) ?_
          | refine Sep.LdI s (i := 1) rfl rfl rfl ?_
          | refine Sep.LdS s (i := 1) rfl rfl rfl ?_
          | refine Sep.LdB s (i := 1) rfl rfl rfl ?_
          | refine Sep.LdP s (i := 1) rfl rfl rfl ?_
          | refine And.intro (Sep.cell s (i := 1) rfl rfl rfl) ?_
          | (refine Sep.St s (i := 0) rfl rfl rfl fun w s => ?_; simp only [List.set_cons_zero, List.set_cons_succ] at s)
          | (refine Sep.St s (i := 1) rfl rfl rfl fun w s => ?_; simp only [List.set_cons_zero, List.set_cons_succ] at s)
          | refine Sep.Bx s fun b w s => ?_
          | (refine Sep.Al s fun b w s => ?_; simp only [zc30, zc47] at s))
      exact h none 0 0 _ rfl (Sep.row_nil (Sep.call s0 (sep_fr s)) 5 1) (sep_fr s)
    | true =>
      rw [Bool.not_true, cond_false]
      repeat' first
        | refine Sep.LdI s (i := 0) rfl rfl rfl ?_
        | refine Sep.LdS s (i := 0) rfl rfl rfl ?_
        | refine Sep.LdB s (i := 0) rfl rfl rfl ?_
        | refine Sep.LdP s (i := 0) rfl rfl rfl ?_
        | refine And.intro (Sep.cell s (i := 0) rfl rfl rfl) ?_
        | refine Sep.LdI s (i := 1) rfl rfl rfl ?_
        | refine Sep.LdS s (i := 1) rfl rfl rfl ?_
        | refine Sep.LdB s (i := 1) rfl rfl rfl ?_
        | refine Sep.LdP s (i := 1) rfl rfl rfl ?_
        | refine And.intro (Sep.cell s (i := 1) rfl rfl rfl) ?_
        | (refine Sep.St s (i := 0) rfl rfl rfl fun w s => ?_; simp only [List.set_cons_zero, List.set_cons_succ] at s)
        | (refine Sep.St s (i := 1) rfl rfl rfl fun w s => ?_; simp only [List.set_cons_zero, List.set_cons_succ] at s)
        | refine Sep.Bx s fun b w s => ?_
        | (refine Sep.Al s fun b w s => ?_; simp only [zc30, zc47] at s)
        | (replace s := Sep.drew s; first
          | refine Sep.LdI s (i := 0) rfl rfl rfl ?_
          | refine Sep.LdS s (i := 0) rfl rfl rfl ?_
          | refine Sep.LdB s (i := 0) rfl rfl rfl ?_
          | refine Sep.LdP s (i := 0) rfl rfl rfl ?_
          | refine And.intro (Sep.cell s (i := 0) rfl rfl rfl) ?_
          | refine Sep.LdI s (i := 1) rfl rfl rfl ?_
          | refine Sep.LdS s (i := 1) rfl rfl rfl ?_
          | refine Sep.LdB s (i := 1) rfl rfl rfl ?_
          | refine Sep.LdP s (i := 1) rfl rfl rfl ?_
          | refine And.intro (Sep.cell s (i := 1) rfl rfl rfl) ?_
          | (refine Sep.St s (i := 0) rfl rfl rfl fun w s => ?_; simp only [List.set_cons_zero, List.set_cons_succ] at s)
          | (refine Sep.St s (i := 1) rfl rfl rfl fun w s => ?_; simp only [List.set_cons_zero, List.set_cons_succ] at s)
          | refine Sep.Bx s fun b w s => ?_
          | (refine Sep.Al s fun b w s => ?_; simp only [zc30, zc47] at s))
      cases hL : shL x with
      | true =>
        rw [cond_true]
        by_cases h4 : tn < 4
        · rw [decide_eq_true (by omega), cond_true]
          repeat' first
            | refine Sep.LdI s (i := 0) rfl rfl rfl ?_
            | refine Sep.LdS s (i := 0) rfl rfl rfl ?_
            | refine Sep.LdB s (i := 0) rfl rfl rfl ?_
            | refine Sep.LdP s (i := 0) rfl rfl rfl ?_
            | refine And.intro (Sep.cell s (i := 0) rfl rfl rfl) ?_
            | refine Sep.LdI s (i := 1) rfl rfl rfl ?_
            | refine Sep.LdS s (i := 1) rfl rfl rfl ?_
            | refine Sep.LdB s (i := 1) rfl rfl rfl ?_
            | refine Sep.LdP s (i := 1) rfl rfl rfl ?_
            | refine And.intro (Sep.cell s (i := 1) rfl rfl rfl) ?_
            | (refine Sep.St s (i := 0) rfl rfl rfl fun w s => ?_; simp only [List.set_cons_zero, List.set_cons_succ] at s)
            | (refine Sep.St s (i := 1) rfl rfl rfl fun w s => ?_; simp only [List.set_cons_zero, List.set_cons_succ] at s)
            | refine Sep.Bx s fun b w s => ?_
            | (refine Sep.Al s fun b w s => ?_; simp only [zc30, zc47] at s)
            | (replace s := Sep.drew s; first
              | refine Sep.LdI s (i := 0) rfl rfl rfl ?_
              | refine Sep.LdS s (i := 0) rfl rfl rfl ?_
              | refine Sep.LdB s (i := 0) rfl rfl rfl ?_
              | refine Sep.LdP s (i := 0) rfl rfl rfl ?_
              | refine And.intro (Sep.cell s (i := 0) rfl rfl rfl) ?_
              | refine Sep.LdI s (i := 1) rfl rfl rfl ?_
              | refine Sep.LdS s (i := 1) rfl rfl rfl ?_
              | refine Sep.LdB s (i := 1) rfl rfl rfl ?_
              | refine Sep.LdP s (i := 1) rfl rfl rfl ?_
              | refine And.intro (Sep.cell s (i := 1) rfl rfl rfl) ?_
              | (refine Sep.St s (i := 0) rfl rfl rfl fun w s => ?_; simp only [List.set_cons_zero, List.set_cons_succ] at s)
              | (refine Sep.St s (i := 1) rfl rfl rfl fun w s => ?_; simp only [List.set_cons_zero, List.set_cons_succ] at s)
              | refine Sep.Bx s fun b w s => ?_
              | (refine Sep.Al s fun b w s => ?_; simp only [zc30, zc47] at s))
          exact short (by rw [readP_cons, if_pos hk, if_pos hL, if_pos (by omega)]) _ (sep_fr s)
        · rw [decide_eq_false (by omega), cond_false]
          refine hT.hi (m := 4) rfl (by omega) fun ua uc hU => ?_
          refine op_number.spec (hU.fr (sep_fr s)) (rr.take 4) (by decide) ?_
          have l4 : (r.take 4).length = 4 := by rw [List.length_take]; omega
          have rg := numI_range (rr.take 4)
          rw [l4] at rg
          rw [wrap_i64 (n := (tn : Int) - 4) (by omega) (by omega)]
          by_cases h5 : (tn : Int) - 4 < numI (r.take 4)
          · rw [decide_eq_true h5, cond_true]
            repeat' first
              | refine Sep.LdI s (i := 0) rfl rfl rfl ?_
              | refine Sep.LdS s (i := 0) rfl rfl rfl ?_
              | refine Sep.LdB s (i := 0) rfl rfl rfl ?_
              | refine Sep.LdP s (i := 0) rfl rfl rfl ?_
              | refine And.intro (Sep.cell s (i := 0) rfl rfl rfl) ?_
              | refine Sep.LdI s (i := 1) rfl rfl rfl ?_
              | refine Sep.LdS s (i := 1) rfl rfl rfl ?_
              | refine Sep.LdB s (i := 1) rfl rfl rfl ?_
              | refine Sep.LdP s (i := 1) rfl rfl rfl ?_
              | refine And.intro (Sep.cell s (i := 1) rfl rfl rfl) ?_
              | (refine Sep.St s (i := 0) rfl rfl rfl fun w s => ?_; simp only [List.set_cons_zero, List.set_cons_succ] at s)
              | (refine Sep.St s (i := 1) rfl rfl rfl fun w s => ?_; simp only [List.set_cons_zero, List.set_cons_succ] at s)
              | refine Sep.Bx s fun b w s => ?_
              | (refine Sep.Al s fun b w s => ?_; simp only [zc30, zc47] at s)
              | (replace s := Sep.drew s; first
                | refine Sep.LdI s (i := 0) rfl rfl rfl ?_
                | refine Sep.LdS s (i := 0) rfl rfl rfl ?_
                | refine Sep.LdB s (i := 0) rfl rfl rfl ?_
                | refine Sep.LdP s (i := 0) rfl rfl rfl ?_
                | refine And.intro (Sep.cell s (i := 0) rfl rfl rfl) ?_
                | refine Sep.LdI s (i := 1) rfl rfl rfl ?_
                | refine Sep.LdS s (i := 1) rfl rfl rfl ?_
                | refine Sep.LdB s (i := 1) rfl rfl rfl ?_
                | refine Sep.LdP s (i := 1) rfl rfl rfl ?_
                | refine And.intro (Sep.cell s (i := 1) rfl rfl rfl) ?_
                | (refine Sep.St s (i := 0) rfl rfl rfl fun w s => ?_; simp only [List.set_cons_zero, List.set_cons_succ] at s)
                | (refine Sep.St s (i := 1) rfl rfl rfl fun w s => ?_; simp only [List.set_cons_zero, List.set_cons_succ] at s)
                | refine Sep.Bx s fun b w s => ?_
                | (refine Sep.Al s fun b w s => ?_; simp only [zc30, zc47] at s))
            exact short (by rw [readP_cons, if_pos hk, if_pos hL, if_neg (by omega), if_pos (by omega)]) _ (sep_fr s)
          · rw [decide_eq_false h5, cond_false, wrap_i64 (n := 4 + numI (r.take 4)) (by omega) (by omega), wrap_i64 (n := 5 + numI (r.take 4)) (by omega) (by omega)]
            have e : readP (x :: r) = (⟨x, 0, 0, (r.drop 4).take (numI (r.take 4)).toNat⟩, 5 + (numI (r.take 4)).toNat) := by rw [readP_cons, if_pos hk, if_pos hL, if_neg (by omega), if_neg (by omega)]
            rw [e] at h
            refine hT.mid (p := 4) (q := 4 + (numI (r.take 4)).toNat) rfl (by omega) (by omega) (by omega) fun va vn vc hvn hV => ?_
            rw [show 4 + (numI (r.take 4)).toNat - 4 = (numI (r.take 4)).toNat by omega] at hvn hV
            refine clone s (hV.fr (sep_fr s)) (by omega) fun ra rc w s => ?_
            repeat' first
              | refine Sep.LdI s (i := 0) rfl rfl rfl ?_
              | refine Sep.LdS s (i := 0) rfl rfl rfl ?_
              | refine Sep.LdB s (i := 0) rfl rfl rfl ?_
              | refine Sep.LdP s (i := 0) rfl rfl rfl ?_
              | refine And.intro (Sep.cell s (i := 0) rfl rfl rfl) ?_
              | refine Sep.LdI s (i := 1) rfl rfl rfl ?_
              | refine Sep.LdS s (i := 1) rfl rfl rfl ?_
              | refine Sep.LdB s (i := 1) rfl rfl rfl ?_
              | refine Sep.LdP s (i := 1) rfl rfl rfl ?_
              | refine And.intro (Sep.cell s (i := 1) rfl rfl rfl) ?_
              | refine Sep.LdI s (i := 2) rfl rfl rfl ?_
              | refine Sep.LdS s (i := 2) rfl rfl rfl ?_
              | refine Sep.LdB s (i := 2) rfl rfl rfl ?_
              | refine Sep.LdP s (i := 2) rfl rfl rfl ?_
              | refine And.intro (Sep.cell s (i := 2) rfl rfl rfl) ?_
              | (refine Sep.St s (i := 0) rfl rfl rfl fun w s => ?_; simp only [List.set_cons_zero, List.set_cons_succ] at s)
              | (refine Sep.St s (i := 1) rfl rfl rfl fun w s => ?_; simp only [List.set_cons_zero, List.set_cons_succ] at s)
              | (refine Sep.St s (i := 2) rfl rfl rfl fun w s => ?_; simp only [List.set_cons_zero, List.set_cons_succ] at s)
              | refine Sep.Bx s fun b w s => ?_
              | (refine Sep.Al s fun b w s => ?_; simp only [zc30, zc47] at s)
              | (replace s := Sep.drew s; first
                | refine Sep.LdI s (i := 0) rfl rfl rfl ?_
                | refine Sep.LdS s (i := 0) rfl rfl rfl ?_
                | refine Sep.LdB s (i := 0) rfl rfl rfl ?_
                | refine Sep.LdP s (i := 0) rfl rfl rfl ?_
                | refine And.intro (Sep.cell s (i := 0) rfl rfl rfl) ?_
                | refine Sep.LdI s (i := 1) rfl rfl rfl ?_
                | refine Sep.LdS s (i := 1) rfl rfl rfl ?_
                | refine Sep.LdB s (i := 1) rfl rfl rfl ?_
                | refine Sep.LdP s (i := 1) rfl rfl rfl ?_
                | refine And.intro (Sep.cell s (i := 1) rfl rfl rfl) ?_
                | refine Sep.LdI s (i := 2) rfl rfl rfl ?_
                | refine Sep.LdS s (i := 2) rfl rfl rfl ?_
                | refine Sep.LdB s (i := 2) rfl rfl rfl ?_
                | refine Sep.LdP s (i := 2) rfl rfl rfl ?_
                | refine And.intro (Sep.cell s (i := 2) rfl rfl rfl) ?_
                | (refine Sep.St s (i := 0) rfl rfl rfl fun w s => ?_; simp only [List.set_cons_zero, List.set_cons_succ] at s)
                | (refine Sep.St s (i := 1) rfl rfl rfl fun w s => ?_; simp only [List.set_cons_zero, List.set_cons_succ] at s)
                | (refine Sep.St s (i := 2) rfl rfl rfl fun w s => ?_; simp only [List.set_cons_zero, List.set_cons_succ] at s)
                | refine Sep.Bx s fun b w s => ?_
                | (refine Sep.Al s fun b w s => ?_; simp only [zc30, zc47] at s))
            have hq := h ra vn rc _ (by simp only [List.length_take, List.length_drop]; omega) (Sep.gain s0 s (i := 0) rfl) (sep_fr s)
            rw [show ((5 + (numI (r.take 4)).toNat : Nat) : Int) = 5 + numI (r.take 4) by omega] at hq
            exact hq
      | false =>
        rw [cond_false]
        repeat' first
          | refine Sep.LdI s (i := 0) rfl rfl rfl ?_
          | refine Sep.LdS s (i := 0) rfl rfl rfl ?_
          | refine Sep.LdB s (i := 0) rfl rfl rfl ?_
          | refine Sep.LdP s (i := 0) rfl rfl rfl ?_
          | refine And.intro (Sep.cell s (i := 0) rfl rfl rfl) ?_
          | refine Sep.LdI s (i := 1) rfl rfl rfl ?_
          | refine Sep.LdS s (i := 1) rfl rfl rfl ?_
          | refine Sep.LdB s (i := 1) rfl rfl rfl ?_
          | refine Sep.LdP s (i := 1) rfl rfl rfl ?_
          | refine And.intro (Sep.cell s (i := 1) rfl rfl rfl) ?_
          | (refine Sep.St s (i := 0) rfl rfl rfl fun w s => ?_; simp only [List.set_cons_zero, List.set_cons_succ] at s)
          | (refine Sep.St s (i := 1) rfl rfl rfl fun w s => ?_; simp only [List.set_cons_zero, List.set_cons_succ] at s)
          | refine Sep.Bx s fun b w s => ?_
          | (refine Sep.Al s fun b w s => ?_; simp only [zc30, zc47] at s)
          | (replace s := Sep.drew s; first
            | refine Sep.LdI s (i := 0) rfl rfl rfl ?_
            | refine Sep.LdS s (i := 0) rfl rfl rfl ?_
            | refine Sep.LdB s (i := 0) rfl rfl rfl ?_
            | refine Sep.LdP s (i := 0) rfl rfl rfl ?_
            | refine And.intro (Sep.cell s (i := 0) rfl rfl rfl) ?_
            | refine Sep.LdI s (i := 1) rfl rfl rfl ?_
            | refine Sep.LdS s (i := 1) rfl rfl rfl ?_
            | refine Sep.LdB s (i := 1) rfl rfl rfl ?_
            | refine Sep.LdP s (i := 1) rfl rfl rfl ?_
            | refine And.intro (Sep.cell s (i := 1) rfl rfl rfl) ?_
            | (refine Sep.St s (i := 0) rfl rfl rfl fun w s => ?_; simp only [List.set_cons_zero, List.set_cons_succ] at s)
            | (refine Sep.St s (i := 1) rfl rfl rfl fun w s => ?_; simp only [List.set_cons_zero, List.set_cons_succ] at s)
            | refine Sep.Bx s fun b w s => ?_
            | (refine Sep.Al s fun b w s => ?_; simp only [zc30, zc47] at s))
        have hab := shAB x
        rw [wrap_i64 (n := (shA x : Int) + (shB x : Int)) (by omega) (by omega)]
        by_cases h5 : tn < shA x + shB x
        · rw [decide_eq_true (by omega), cond_true]
          repeat' first
            | refine Sep.LdI s (i := 0) rfl rfl rfl ?_
            | refine Sep.LdS s (i := 0) rfl rfl rfl ?_
            | refine Sep.LdB s (i := 0) rfl rfl rfl ?_
            | refine Sep.LdP s (i := 0) rfl rfl rfl ?_
            | refine And.intro (Sep.cell s (i := 0) rfl rfl rfl) ?_
            | refine Sep.LdI s (i := 1) rfl rfl rfl ?_
            | refine Sep.LdS s (i := 1) rfl rfl rfl ?_
            | refine Sep.LdB s (i := 1) rfl rfl rfl ?_
            | refine Sep.LdP s (i := 1) rfl rfl rfl ?_
            | refine And.intro (Sep.cell s (i := 1) rfl rfl rfl) ?_
            | (refine Sep.St s (i := 0) rfl rfl rfl fun w s => ?_; simp only [List.set_cons_zero, List.set_cons_succ] at s)
            | (refine Sep.St s (i := 1) rfl rfl rfl fun w s => ?_; simp only [List.set_cons_zero, List.set_cons_succ] at s)
            | refine Sep.Bx s fun b w s => ?_
            | (refine Sep.Al s fun b w s => ?_; simp only [zc30, zc47] at s)
            | (replace s := Sep.drew s; first
              | refine Sep.LdI s (i := 0) rfl rfl rfl ?_
              | refine Sep.LdS s (i := 0) rfl rfl rfl ?_
              | refine Sep.LdB s (i := 0) rfl rfl rfl ?_
              | refine Sep.LdP s (i := 0) rfl rfl rfl ?_
              | refine And.intro (Sep.cell s (i := 0) rfl rfl rfl) ?_
              | refine Sep.LdI s (i := 1) rfl rfl rfl ?_
              | refine Sep.LdS s (i := 1) rfl rfl rfl ?_
              | refine Sep.LdB s (i := 1) rfl rfl rfl ?_
              | refine Sep.LdP s (i := 1) rfl rfl rfl ?_
              | refine And.intro (Sep.cell s (i := 1) rfl rfl rfl) ?_
              | (refine Sep.St s (i := 0) rfl rfl rfl fun w s => ?_; simp only [List.set_cons_zero, List.set_cons_succ] at s)
              | (refine Sep.St s (i := 1) rfl rfl rfl fun w s => ?_; simp only [List.set_cons_zero, List.set_cons_succ] at s)
              | refine Sep.Bx s fun b w s => ?_
              | (refine Sep.Al s fun b w s => ?_; simp only [zc30, zc47] at s))
          exact short (by rw [readP_cons, if_pos hk, if_neg (by rw [hL]; decide), if_pos (by omega)]) _ (sep_fr s)
        · rw [decide_eq_false (by omega), cond_false]
          have e : readP (x :: r) = (⟨x, numI (r.take (shA x)), numI ((r.drop (shA x)).take (shB x)), []⟩, 1 + shA x + shB x) := by rw [readP_cons, if_pos hk, if_neg (by rw [hL]; decide), if_neg (by omega)]
          rw [e] at h
          have s := Sep.drew s
          repeat' first
            | refine Sep.LdI s (i := 0) rfl rfl rfl ?_
            | refine Sep.LdS s (i := 0) rfl rfl rfl ?_
            | refine Sep.LdB s (i := 0) rfl rfl rfl ?_
            | refine Sep.LdP s (i := 0) rfl rfl rfl ?_
            | refine And.intro (Sep.cell s (i := 0) rfl rfl rfl) ?_
            | refine Sep.LdI s (i := 1) rfl rfl rfl ?_
            | refine Sep.LdS s (i := 1) rfl rfl rfl ?_
            | refine Sep.LdB s (i := 1) rfl rfl rfl ?_
            | refine Sep.LdP s (i := 1) rfl rfl rfl ?_
            | refine And.intro (Sep.cell s (i := 1) rfl rfl rfl) ?_
            | (refine Sep.St s (i := 0) rfl rfl rfl fun w s => ?_; simp only [List.set_cons_zero, List.set_cons_succ] at s)
            | (refine Sep.St s (i := 1) rfl rfl rfl fun w s => ?_; simp only [List.set_cons_zero, List.set_cons_succ] at s)
            | refine Sep.Bx s fun b w s => ?_
            | (refine Sep.Al s fun b w s => ?_; simp only [zc30, zc47] at s)
            | (replace s := Sep.drew s; first
              | refine Sep.LdI s (i := 0) rfl rfl rfl ?_
              | refine Sep.LdS s (i := 0) rfl rfl rfl ?_
              | refine Sep.LdB s (i := 0) rfl rfl rfl ?_
              | refine Sep.LdP s (i := 0) rfl rfl rfl ?_
              | refine And.intro (Sep.cell s (i := 0) rfl rfl rfl) ?_
              | refine Sep.LdI s (i := 1) rfl rfl rfl ?_
              | refine Sep.LdS s (i := 1) rfl rfl rfl ?_
              | refine Sep.LdB s (i := 1) rfl rfl rfl ?_
              | refine Sep.LdP s (i := 1) rfl rfl rfl ?_
              | refine And.intro (Sep.cell s (i := 1) rfl rfl rfl) ?_
              | (refine Sep.St s (i := 0) rfl rfl rfl fun w s => ?_; simp only [List.set_cons_zero, List.set_cons_succ] at s)
              | (refine Sep.St s (i := 1) rfl rfl rfl fun w s => ?_; simp only [List.set_cons_zero, List.set_cons_succ] at s)
              | refine Sep.Bx s fun b w s => ?_
              | (refine Sep.Al s fun b w s => ?_; simp only [zc30, zc47] at s))
          refine hT.hi (m := shA x) rfl (by omega) fun ua uc hU => ?_
          repeat' first
            | refine Sep.LdI s (i := 0) rfl rfl rfl ?_
            | refine Sep.LdS s (i := 0) rfl rfl rfl ?_
            | refine Sep.LdB s (i := 0) rfl rfl rfl ?_
            | refine Sep.LdP s (i := 0) rfl rfl rfl ?_
            | refine And.intro (Sep.cell s (i := 0) rfl rfl rfl) ?_
            | refine Sep.LdI s (i := 1) rfl rfl rfl ?_
            | refine Sep.LdS s (i := 1) rfl rfl rfl ?_
            | refine Sep.LdB s (i := 1) rfl rfl rfl ?_
            | refine Sep.LdP s (i := 1) rfl rfl rfl ?_
            | refine And.intro (Sep.cell s (i := 1) rfl rfl rfl) ?_
            | (refine Sep.St s (i := 0) rfl rfl rfl fun w s => ?_; simp only [List.set_cons_zero, List.set_cons_succ] at s)
            | (refine Sep.St s (i := 1) rfl rfl rfl fun w s => ?_; simp only [List.set_cons_zero, List.set_cons_succ] at s)
            | refine Sep.Bx s fun b w s => ?_
            | (refine Sep.Al s fun b w s => ?_; simp only [zc30, zc47] at s)
            | (replace s := Sep.drew s; first
              | refine Sep.LdI s (i := 0) rfl rfl rfl ?_
              | refine Sep.LdS s (i := 0) rfl rfl rfl ?_
              | refine Sep.LdB s (i := 0) rfl rfl rfl ?_
              | refine Sep.LdP s (i := 0) rfl rfl rfl ?_
              | refine And.intro (Sep.cell s (i := 0) rfl rfl rfl) ?_
              | refine Sep.LdI s (i := 1) rfl rfl rfl ?_
              | refine Sep.LdS s (i := 1) rfl rfl rfl ?_
              | refine Sep.LdB s (i := 1) rfl rfl rfl ?_
              | refine Sep.LdP s (i := 1) rfl rfl rfl ?_
              | refine And.intro (Sep.cell s (i := 1) rfl rfl rfl) ?_
              | (refine Sep.St s (i := 0) rfl rfl rfl fun w s => ?_; simp only [List.set_cons_zero, List.set_cons_succ] at s)
              | (refine Sep.St s (i := 1) rfl rfl rfl fun w s => ?_; simp only [List.set_cons_zero, List.set_cons_succ] at s)
              | refine Sep.Bx s fun b w s => ?_
              | (refine Sep.Al s fun b w s => ?_; simp only [zc30, zc47] at s))
          rw [wrap_i64 (n := (shA x : Int) + (shB x : Int)) (by omega) (by omega)]
          refine hT.mid (p := shA x) (q := shA x + shB x) rfl (by omega) (by omega) (by omega) fun va vn vc hvn hV => ?_
          rw [show shA x + shB x - shA x = shB x by omega] at hvn hV
          repeat' first
            | refine Sep.LdI s (i := 0) rfl rfl rfl ?_
            | refine Sep.LdS s (i := 0) rfl rfl rfl ?_
            | refine Sep.LdB s (i := 0) rfl rfl rfl ?_
            | refine Sep.LdP s (i := 0) rfl rfl rfl ?_
            | refine And.intro (Sep.cell s (i := 0) rfl rfl rfl) ?_
            | refine Sep.LdI s (i := 1) rfl rfl rfl ?_
            | refine Sep.LdS s (i := 1) rfl rfl rfl ?_
            | refine Sep.LdB s (i := 1) rfl rfl rfl ?_
            | refine Sep.LdP s (i := 1) rfl rfl rfl ?_
            | refine And.intro (Sep.cell s (i := 1) rfl rfl rfl) ?_
            | (refine Sep.St s (i := 0) rfl rfl rfl fun w s => ?_; simp only [List.set_cons_zero, List.set_cons_succ] at s)
            | (refine Sep.St s (i := 1) rfl rfl rfl fun w s => ?_; simp only [List.set_cons_zero, List.set_cons_succ] at s)
            | refine Sep.Bx s fun b w s => ?_
            | (refine Sep.Al s fun b w s => ?_; simp only [zc30, zc47] at s)
            | (replace s := Sep.drew s; first
              | refine Sep.LdI s (i := 0) rfl rfl rfl ?_
              | refine Sep.LdS s (i := 0) rfl rfl rfl ?_
              | refine Sep.LdB s (i := 0) rfl rfl rfl ?_
              | refine Sep.LdP s (i := 0) rfl rfl rfl ?_
              | refine And.intro (Sep.cell s (i := 0) rfl rfl rfl) ?_
              | refine Sep.LdI s (i := 1) rfl rfl rfl ?_
              | refine Sep.LdS s (i := 1) rfl rfl rfl ?_
              | refine Sep.LdB s (i := 1) rfl rfl rfl ?_
              | refine Sep.LdP s (i := 1) rfl rfl rfl ?_
              | refine And.intro (Sep.cell s (i := 1) rfl rfl rfl) ?_
              | (refine Sep.St s (i := 0) rfl rfl rfl fun w s => ?_; simp only [List.set_cons_zero, List.set_cons_succ] at s)
              | (refine Sep.St s (i := 1) rfl rfl rfl fun w s => ?_; simp only [List.set_cons_zero, List.set_cons_succ] at s)
              | refine Sep.Bx s fun b w s => ?_
              | (refine Sep.Al s fun b w s => ?_; simp only [zc30, zc47] at s))
          refine op_number.spec (hU.fr (sep_fr s)) (rr.take _) (by omega) ?_
          repeat' first
            | refine Sep.LdI s (i := 0) rfl rfl rfl ?_
            | refine Sep.LdS s (i := 0) rfl rfl rfl ?_
            | refine Sep.LdB s (i := 0) rfl rfl rfl ?_
            | refine Sep.LdP s (i := 0) rfl rfl rfl ?_
            | refine And.intro (Sep.cell s (i := 0) rfl rfl rfl) ?_
            | refine Sep.LdI s (i := 1) rfl rfl rfl ?_
            | refine Sep.LdS s (i := 1) rfl rfl rfl ?_
            | refine Sep.LdB s (i := 1) rfl rfl rfl ?_
            | refine Sep.LdP s (i := 1) rfl rfl rfl ?_
            | refine And.intro (Sep.cell s (i := 1) rfl rfl rfl) ?_
            | (refine Sep.St s (i := 0) rfl rfl rfl fun w s => ?_; simp only [List.set_cons_zero, List.set_cons_succ] at s)
            | (refine Sep.St s (i := 1) rfl rfl rfl fun w s => ?_; simp only [List.set_cons_zero, List.set_cons_succ] at s)
            | refine Sep.Bx s fun b w s => ?_
            | (refine Sep.Al s fun b w s => ?_; simp only [zc30, zc47] at s)
            | (replace s := Sep.drew s; first
              | refine Sep.LdI s (i := 0) rfl rfl rfl ?_
              | refine Sep.LdS s (i := 0) rfl rfl rfl ?_
              | refine Sep.LdB s (i := 0) rfl rfl rfl ?_
              | refine Sep.LdP s (i := 0) rfl rfl rfl ?_
              | refine And.intro (Sep.cell s (i := 0) rfl rfl rfl) ?_
              | refine Sep.LdI s (i := 1) rfl rfl rfl ?_
              | refine Sep.LdS s (i := 1) rfl rfl rfl ?_
              | refine Sep.LdB s (i := 1) rfl rfl rfl ?_
              | refine Sep.LdP s (i := 1) rfl rfl rfl ?_
              | refine And.intro (Sep.cell s (i := 1) rfl rfl rfl) ?_
              | (refine Sep.St s (i := 0) rfl rfl rfl fun w s => ?_; simp only [List.set_cons_zero, List.set_cons_succ] at s)
              | (refine Sep.St s (i := 1) rfl rfl rfl fun w s => ?_; simp only [List.set_cons_zero, List.set_cons_succ] at s)
              | refine Sep.Bx s fun b w s => ?_
              | (refine Sep.Al s fun b w s => ?_; simp only [zc30, zc47] at s))
          refine op_number.spec (hV.fr (sep_fr s)) ((rr.drop _).take _) (by omega) ?_
          repeat' first
            | refine Sep.LdI s (i := 0) rfl rfl rfl ?_
            | refine Sep.LdS s (i := 0) rfl rfl rfl ?_
            | refine Sep.LdB s (i := 0) rfl rfl rfl ?_
            | refine Sep.LdP s (i := 0) rfl rfl rfl ?_
            | refine And.intro (Sep.cell s (i := 0) rfl rfl rfl) ?_
            | refine Sep.LdI s (i := 1) rfl rfl rfl ?_
            | refine Sep.LdS s (i := 1) rfl rfl rfl ?_
            | refine Sep.LdB s (i := 1) rfl rfl rfl ?_
            | refine Sep.LdP s (i := 1) rfl rfl rfl ?_
            | refine And.intro (Sep.cell s (i := 1) rfl rfl rfl) ?_
            | (refine Sep.St s (i := 0) rfl rfl rfl fun w s => ?_; simp only [List.set_cons_zero, List.set_cons_succ] at s)
            | (refine Sep.St s (i := 1) rfl rfl rfl fun w s => ?_; simp only [List.set_cons_zero, List.set_cons_succ] at s)
            | refine Sep.Bx s fun b w s => ?_
            | (refine Sep.Al s fun b w s => ?_; simp only [zc30, zc47] at s)
            | (replace s := Sep.drew s; first
              | refine Sep.LdI s (i := 0) rfl rfl rfl ?_
              | refine Sep.LdS s (i := 0) rfl rfl rfl ?_
              | refine Sep.LdB s (i := 0) rfl rfl rfl ?_
              | refine Sep.LdP s (i := 0) rfl rfl rfl ?_
              | refine And.intro (Sep.cell s (i := 0) rfl rfl rfl) ?_
              | refine Sep.LdI s (i := 1) rfl rfl rfl ?_
              | refine Sep.LdS s (i := 1) rfl rfl rfl ?_
              | refine Sep.LdB s (i := 1) rfl rfl rfl ?_
              | refine Sep.LdP s (i := 1) rfl rfl rfl ?_
              | refine And.intro (Sep.cell s (i := 1) rfl rfl rfl) ?_
              | (refine Sep.St s (i := 0) rfl rfl rfl fun w s => ?_; simp only [List.set_cons_zero, List.set_cons_succ] at s)
              | (refine Sep.St s (i := 1) rfl rfl rfl fun w s => ?_; simp only [List.set_cons_zero, List.set_cons_succ] at s)
              | refine Sep.Bx s fun b w s => ?_
              | (refine Sep.Al s fun b w s => ?_; simp only [zc30, zc47] at s))
          rw [wrap_i64 (n := (1 : Int) + (shA x : Int)) (by omega) (by omega), wrap_i64 (n := (1 : Int) + (shA x : Int) + (shB x : Int)) (by omega) (by omega)]
          have hq := h none 0 0 _ rfl (Sep.row_nil (Sep.call s0 (sep_fr s)) 5 1) (sep_fr s)
          rw [show ((1 + shA x + shB x : Nat) : Int) = 1 + (shA x : Int) + (shB x : Int) by omega] at hq
          exact hq
theorem op_cut.spec {Q : Bool → World → Prop} (s0 : Sep F W w L) (hA : Sl w a n c 1 by8 bs) (hr : Rng bs) (hn2 : n ≤ 1000000000000) (h : ∀ w', Sep F W w' L → Fr No w w' → Q (cutP bs) w') : op_cut.call a n c w Q := by
  refine op_cut.body _ _ _ _ _ ?_
  unfold op_cut.sh
  have hl := hA.len
  by_cases h0 : n = 0
  · subst h0
    have : bs = [] := List.eq_nil_of_length_eq_zero hl
    subst this
    have := h w s0 Fr.refl
    exact this
  · rw [show ((n : Int) == 0) = false by rw [beq_eq_false_iff_ne]; omega, cond_false]
    have s := Sep.nil (F := No) (w := w)
    refine op_read.spec s hA hr (by omega) hn2 fun ra rn rc w _ s _ => ?_
    repeat' first
      | refine Sep.LdI s (i := 0) rfl rfl rfl ?_
      | refine Sep.LdS s (i := 0) rfl rfl rfl ?_
      | refine Sep.LdB s (i := 0) rfl rfl rfl ?_
      | refine Sep.LdP s (i := 0) rfl rfl rfl ?_
      | refine And.intro (Sep.cell s (i := 0) rfl rfl rfl) ?_
      | refine Sep.LdI s (i := 1) rfl rfl rfl ?_
      | refine Sep.LdS s (i := 1) rfl rfl rfl ?_
      | refine Sep.LdB s (i := 1) rfl rfl rfl ?_
      | refine Sep.LdP s (i := 1) rfl rfl rfl ?_
      | refine And.intro (Sep.cell s (i := 1) rfl rfl rfl) ?_
      | (refine Sep.St s (i := 0) rfl rfl rfl fun w s => ?_; simp only [List.set_cons_zero, List.set_cons_succ] at s)
      | (refine Sep.St s (i := 1) rfl rfl rfl fun w s => ?_; simp only [List.set_cons_zero, List.set_cons_succ] at s)
      | refine Sep.Bx s fun b w s => ?_
      | (refine Sep.Al s fun b w s => ?_; simp only [zc30, zc47] at s)
      | (replace s := Sep.drew s; first
        | refine Sep.LdI s (i := 0) rfl rfl rfl ?_
        | refine Sep.LdS s (i := 0) rfl rfl rfl ?_
        | refine Sep.LdB s (i := 0) rfl rfl rfl ?_
        | refine Sep.LdP s (i := 0) rfl rfl rfl ?_
        | refine And.intro (Sep.cell s (i := 0) rfl rfl rfl) ?_
        | refine Sep.LdI s (i := 1) rfl rfl rfl ?_
        | refine Sep.LdS s (i := 1) rfl rfl rfl ?_
        | refine Sep.LdB s (i := 1) rfl rfl rfl ?_
        | refine Sep.LdP s (i := 1) rfl rfl rfl ?_
        | refine And.intro (Sep.cell s (i := 1) rfl rfl rfl) ?_
        | (refine Sep.St s (i := 0) rfl rfl rfl fun w s => ?_; simp only [List.set_cons_zero, List.set_cons_succ] at s)
        | (refine Sep.St s (i := 1) rfl rfl rfl fun w s => ?_; simp only [List.set_cons_zero, List.set_cons_succ] at s)
        | refine Sep.Bx s fun b w s => ?_
        | (refine Sep.Al s fun b w s => ?_; simp only [zc30, zc47] at s))
    have hq := h _ (Sep.call s0 (sep_fr s)) (sep_fr s)
    have hne : bs ≠ [] := fun e => by rw [e] at hl; exact h0 hl.symm
    unfold cutP at hq
    rw [decide_eq_true hne, Bool.true_and] at hq
    rw [show (((readP bs).2 : Int) == 0) = decide ((readP bs).2 = 0) by rw [Bool.eq_iff_iff, beq_iff_eq, decide_eq_true_eq]; omega]
    exact hq
end
end Go.Proofs.Ytjndgflalbcngaa.S
