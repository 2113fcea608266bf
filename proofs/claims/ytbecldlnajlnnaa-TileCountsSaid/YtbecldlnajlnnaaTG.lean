/- Layer 2: With; Same, the document's SameTile. -/
import Derived.Test.YtbecldlnajlnnaaTF
set_option linter.unusedVariables false
set_option linter.unusedSimpArgs false
namespace Go.Proofs.Ytbecldlnajlnnaa.S
open Go.Sx
attribute [local irreducible] LdI LdB LdStr LdP LdS LdM LdV St Bx Al App Cpy MkS MkM EqK RunK RunU CallK SlK blkA rowA joinA
def sameB (tw th : Int) (cs : List Int) (tw' th' : Int) (cs' : List Int) : Bool := tw == tw' && (th == th' && decide (cs = cs'))
theorem sameB_self {tw th : Int} {cs : List Int} : sameB tw th cs tw th cs = true := by simp [sameB]
theorem sameB_comm {tw th tw' th' : Int} {cs cs' : List Int} : sameB tw th cs tw' th' cs' = sameB tw' th' cs' tw th cs := by
  unfold sameB
  rw [Bool.eq_iff_iff]
  simp only [Bool.and_eq_true, beq_iff_eq, decide_eq_true_eq]
  constructor <;> rintro ⟨h1, h2, h3⟩ <;> exact ⟨h1.symm, h2.symm, h3.symm⟩
section
variable {F : Nat → Prop} {W w : World} {L : List As} {a a' : Option Addr} {n c n' c' : Nat} {cs cs' : List Int}
theorem Equal.spec {Q : Bool → World → Prop} (hA : ArgRow w a n 1 by8 cs) (hB : ArgRow w a' n' 1 by8 cs') (hcs : ∀ x ∈ cs, 0 ≤ x ∧ x < 256) (hcs' : ∀ x ∈ cs', 0 ≤ x ∧ x < 256) (h : Q (decide (cs = cs')) w) : bytes_Equal.call a n c a' n' c' w Q := by
  refine bytes_Equal.body _ _ _ _ _ _ _ _ ?_
  unfold bytes_Equal.sh
  refine ArgRow.Str tab_ok hA rfl rfl rfl rfl rfl rfl (dStr_mk ?_)
  refine ArgRow.Str tab_ok hB rfl rfl rfl rfl rfl rfl (dStr_mk ?_)
  rw [strOf_beq hcs hcs']
  exact h
theorem ref_Bytes.spec {Q : Bool → World → Prop} (hA : ArgRow w a n 1 by8 cs) (hB : ArgRow w a' n' 1 by8 cs') (hcs : ∀ x ∈ cs, 0 ≤ x ∧ x < 256) (hcs' : ∀ x ∈ cs', 0 ≤ x ∧ x < 256) (h : Q (decide (cs = cs')) w) : herdsmanref1_Bytes.call a n c a' n' c' w Q := by
  refine herdsmanref1_Bytes.body _ _ _ _ _ _ _ _ ?_
  unfold herdsmanref1_Bytes.sh
  refine ArgRow.Str tab_ok hA rfl rfl rfl rfl rfl rfl (dStr_mk ?_)
  refine ArgRow.Str tab_ok hB rfl rfl rfl rfl rfl rfl (dStr_mk ?_)
  rw [strOf_beq hcs hcs']
  exact h
theorem tile_Same.spec {tw th tw' th' : Int} {Q : Bool → World → Prop} (s : Sep F W w L) (hA : ArgRow w a n 1 by8 cs) (hB : ArgRow w a' n' 1 by8 cs') (hcs : ∀ x ∈ cs, 0 ≤ x ∧ x < 256) (hcs' : ∀ x ∈ cs', 0 ≤ x ∧ x < 256)
    (h : ∀ w', Sep F W w' L → Fr No w w' → Q (sameB tw th cs tw' th' cs') w') : tile_Same.call tw th a n c tw' th' a' n' c' w Q := by
  refine tile_Same.body _ _ _ _ _ _ _ _ _ _ _ _ ?_
  unfold tile_Same.sh
  have s0 := s
  have s := Sep.nil (F := No) (w := w)
  repeat' first
    | refine Sep.LdI s (i := 0) rfl rfl rfl ?_
    | refine Sep.LdS s (i := 0) rfl rfl rfl ?_
    | refine Sep.LdB s (i := 0) rfl rfl rfl ?_
    | refine Sep.LdP s (i := 0) rfl rfl rfl ?_
    | refine And.intro (Sep.cell s (i := 0) rfl rfl rfl) ?_
    | refine Sep.LdI s (i := 1) rfl rfl rfl ?_
    | refine Sep.LdS s (i := 1) rfl rfl rfl ?_
    | refine Sep.LdB s (i := 1) rfl rfl rfl ?_
    | refine Sep.LdP s (i := 1) rfl rfl rfl ?_
    | refine And.intro (Sep.cell s (i := 1) rfl rfl rfl) ?_
    | refine Sep.LdI s (i := 2) rfl rfl rfl ?_
    | refine Sep.LdS s (i := 2) rfl rfl rfl ?_
    | refine Sep.LdB s (i := 2) rfl rfl rfl ?_
    | refine Sep.LdP s (i := 2) rfl rfl rfl ?_
    | refine And.intro (Sep.cell s (i := 2) rfl rfl rfl) ?_
    | refine Sep.LdI s (i := 3) rfl rfl rfl ?_
    | refine Sep.LdS s (i := 3) rfl rfl rfl ?_
    | refine Sep.LdB s (i := 3) rfl rfl rfl ?_
    | refine Sep.LdP s (i := 3) rfl rfl rfl ?_
    | refine And.intro (Sep.cell s (i := 3) rfl rfl rfl) ?_
    | refine Sep.LdI s (i := 4) rfl rfl rfl ?_
    | refine Sep.LdS s (i := 4) rfl rfl rfl ?_
    | refine Sep.LdB s (i := 4) rfl rfl rfl ?_
    | refine Sep.LdP s (i := 4) rfl rfl rfl ?_
    | refine And.intro (Sep.cell s (i := 4) rfl rfl rfl) ?_
    | refine Sep.LdI s (i := 5) rfl rfl rfl ?_
    | refine Sep.LdS s (i := 5) rfl rfl rfl ?_
    | refine Sep.LdB s (i := 5) rfl rfl rfl ?_
    | refine Sep.LdP s (i := 5) rfl rfl rfl ?_
    | refine And.intro (Sep.cell s (i := 5) rfl rfl rfl) ?_
    | (refine Sep.St s (i := 0) rfl rfl rfl fun w s => ?_; simp only [List.set_cons_zero, List.set_cons_succ] at s)
    | (refine Sep.St s (i := 1) rfl rfl rfl fun w s => ?_; simp only [List.set_cons_zero, List.set_cons_succ] at s)
    | (refine Sep.St s (i := 2) rfl rfl rfl fun w s => ?_; simp only [List.set_cons_zero, List.set_cons_succ] at s)
    | (refine Sep.St s (i := 3) rfl rfl rfl fun w s => ?_; simp only [List.set_cons_zero, List.set_cons_succ] at s)
    | (refine Sep.St s (i := 4) rfl rfl rfl fun w s => ?_; simp only [List.set_cons_zero, List.set_cons_succ] at s)
    | (refine Sep.St s (i := 5) rfl rfl rfl fun w s => ?_; simp only [List.set_cons_zero, List.set_cons_succ] at s)
    | refine Sep.Bx s fun b w s => ?_
    | (refine Sep.Al s fun b w s => ?_; simp only [zc24] at s)
    | (replace s := Sep.drew s; first
      | refine Sep.LdI s (i := 0) rfl rfl rfl ?_
      | refine Sep.LdS s (i := 0) rfl rfl rfl ?_
      | refine Sep.LdB s (i := 0) rfl rfl rfl ?_
      | refine Sep.LdP s (i := 0) rfl rfl rfl ?_
      | refine And.intro (Sep.cell s (i := 0) rfl rfl rfl) ?_
      | refine Sep.LdI s (i := 1) rfl rfl rfl ?_
      | refine Sep.LdS s (i := 1) rfl rfl rfl ?_
      | refine Sep.LdB s (i := 1) rfl rfl rfl ?_
      | refine Sep.LdP s (i := 1) rfl rfl rfl ?_
      | refine And.intro (Sep.cell s (i := 1) rfl rfl rfl) ?_
      | refine Sep.LdI s (i := 2) rfl rfl rfl ?_
      | refine Sep.LdS s (i := 2) rfl rfl rfl ?_
      | refine Sep.LdB s (i := 2) rfl rfl rfl ?_
      | refine Sep.LdP s (i := 2) rfl rfl rfl ?_
      | refine And.intro (Sep.cell s (i := 2) rfl rfl rfl) ?_
      | refine Sep.LdI s (i := 3) rfl rfl rfl ?_
      | refine Sep.LdS s (i := 3) rfl rfl rfl ?_
      | refine Sep.LdB s (i := 3) rfl rfl rfl ?_
      | refine Sep.LdP s (i := 3) rfl rfl rfl ?_
      | refine And.intro (Sep.cell s (i := 3) rfl rfl rfl) ?_
      | refine Sep.LdI s (i := 4) rfl rfl rfl ?_
      | refine Sep.LdS s (i := 4) rfl rfl rfl ?_
      | refine Sep.LdB s (i := 4) rfl rfl rfl ?_
      | refine Sep.LdP s (i := 4) rfl rfl rfl ?_
      | refine And.intro (Sep.cell s (i := 4) rfl rfl rfl) ?_
      | refine Sep.LdI s (i := 5) rfl rfl rfl ?_
      | refine Sep.LdS s (i := 5) rfl rfl rfl ?_
      | refine Sep.LdB s (i := 5) rfl rfl rfl ?_
      | refine Sep.LdP s (i := 5) rfl rfl rfl ?_
      | refine And.intro (Sep.cell s (i := 5) rfl rfl rfl) ?_
      | (refine Sep.St s (i := 0) rfl rfl rfl fun w s => ?_; simp only [List.set_cons_zero, List.set_cons_succ] at s)
      | (refine Sep.St s (i := 1) rfl rfl rfl fun w s => ?_; simp only [List.set_cons_zero, List.set_cons_succ] at s)
      | (refine Sep.St s (i := 2) rfl rfl rfl fun w s => ?_; simp only [List.set_cons_zero, List.set_cons_succ] at s)
      | (refine Sep.St s (i := 3) rfl rfl rfl fun w s => ?_; simp only [List.set_cons_zero, List.set_cons_succ] at s)
      | (refine Sep.St s (i := 4) rfl rfl rfl fun w s => ?_; simp only [List.set_cons_zero, List.set_cons_succ] at s)
      | (refine Sep.St s (i := 5) rfl rfl rfl fun w s => ?_; simp only [List.set_cons_zero, List.set_cons_succ] at s)
      | refine Sep.Bx s fun b w s => ?_
      | (refine Sep.Al s fun b w s => ?_; simp only [zc24] at s))
  have hh := h _ (Sep.call s0 (sep_fr s)) (sep_fr s)
  unfold sameB at hh
  cases h1 : (tw == tw') with
  | false => rwa [h1, Bool.false_and] at hh
  | true =>
    rw [h1, Bool.true_and] at hh
    rw [cond_true]
    repeat' first
      | refine Sep.LdI s (i := 0) rfl rfl rfl ?_
      | refine Sep.LdS s (i := 0) rfl rfl rfl ?_
      | refine Sep.LdB s (i := 0) rfl rfl rfl ?_
      | refine Sep.LdP s (i := 0) rfl rfl rfl ?_
      | refine And.intro (Sep.cell s (i := 0) rfl rfl rfl) ?_
      | refine Sep.LdI s (i := 1) rfl rfl rfl ?_
      | refine Sep.LdS s (i := 1) rfl rfl rfl ?_
      | refine Sep.LdB s (i := 1) rfl rfl rfl ?_
      | refine Sep.LdP s (i := 1) rfl rfl rfl ?_
      | refine And.intro (Sep.cell s (i := 1) rfl rfl rfl) ?_
      | refine Sep.LdI s (i := 2) rfl rfl rfl ?_
      | refine Sep.LdS s (i := 2) rfl rfl rfl ?_
      | refine Sep.LdB s (i := 2) rfl rfl rfl ?_
      | refine Sep.LdP s (i := 2) rfl rfl rfl ?_
      | refine And.intro (Sep.cell s (i := 2) rfl rfl rfl) ?_
      | refine Sep.LdI s (i := 3) rfl rfl rfl ?_
      | refine Sep.LdS s (i := 3) rfl rfl rfl ?_
      | refine Sep.LdB s (i := 3) rfl rfl rfl ?_
      | refine Sep.LdP s (i := 3) rfl rfl rfl ?_
      | refine And.intro (Sep.cell s (i := 3) rfl rfl rfl) ?_
      | refine Sep.LdI s (i := 4) rfl rfl rfl ?_
      | refine Sep.LdS s (i := 4) rfl rfl rfl ?_
      | refine Sep.LdB s (i := 4) rfl rfl rfl ?_
      | refine Sep.LdP s (i := 4) rfl rfl rfl ?_
      | refine And.intro (Sep.cell s (i := 4) rfl rfl rfl) ?_
      | refine Sep.LdI s (i := 5) rfl rfl rfl ?_
      | refine Sep.LdS s (i := 5) rfl rfl rfl ?_
      | refine Sep.LdB s (i := 5) rfl rfl rfl ?_
      | refine Sep.LdP s (i := 5) rfl rfl rfl ?_
      | refine And.intro (Sep.cell s (i := 5) rfl rfl rfl) ?_
      | (refine Sep.St s (i := 0) rfl rfl rfl fun w s => ?_; simp only [List.set_cons_zero, List.set_cons_succ] at s)
      | (refine Sep.St s (i := 1) rfl rfl rfl fun w s => ?_; simp only [List.set_cons_zero, List.set_cons_succ] at s)
      | (refine Sep.St s (i := 2) rfl rfl rfl fun w s => ?_; simp only [List.set_cons_zero, List.set_cons_succ] at s)
      | (refine Sep.St s (i := 3) rfl rfl rfl fun w s => ?_; simp only [List.set_cons_zero, List.set_cons_succ] at s)
      | (refine Sep.St s (i := 4) rfl rfl rfl fun w s => ?_; simp only [List.set_cons_zero, List.set_cons_succ] at s)
      | (refine Sep.St s (i := 5) rfl rfl rfl fun w s => ?_; simp only [List.set_cons_zero, List.set_cons_succ] at s)
      | refine Sep.Bx s fun b w s => ?_
      | (refine Sep.Al s fun b w s => ?_; simp only [zc24] at s)
      | (replace s := Sep.drew s; first
        | refine Sep.LdI s (i := 0) rfl rfl rfl ?_
        | refine Sep.LdS s (i := 0) rfl rfl rfl ?_
        | refine Sep.LdB s (i := 0) rfl rfl rfl ?_
        | refine Sep.LdP s (i := 0) rfl rfl rfl ?_
        | refine And.intro (Sep.cell s (i := 0) rfl rfl rfl) ?_
        | refine Sep.LdI s (i := 1) rfl rfl rfl ?_
        | refine Sep.LdS s (i := 1) rfl rfl rfl ?_
        | refine Sep.LdB s (i := 1) rfl rfl rfl ?_
        | refine Sep.LdP s (i := 1) rfl rfl rfl ?_
        | refine And.intro (Sep.cell s (i := 1) rfl rfl rfl) ?_
        | refine Sep.LdI s (i := 2) rfl rfl rfl ?_
        | refine Sep.LdS s (i := 2) rfl rfl rfl ?_
        | refine Sep.LdB s (i := 2) rfl rfl rfl ?_
        | refine Sep.LdP s (i := 2) rfl rfl rfl ?_
        | refine And.intro (Sep.cell s (i := 2) rfl rfl rfl) ?_
        | refine Sep.LdI s (i := 3) rfl rfl rfl ?_
        | refine Sep.LdS s (i := 3) rfl rfl rfl ?_
        | refine Sep.LdB s (i := 3) rfl rfl rfl ?_
        | refine Sep.LdP s (i := 3) rfl rfl rfl ?_
        | refine And.intro (Sep.cell s (i := 3) rfl rfl rfl) ?_
        | refine Sep.LdI s (i := 4) rfl rfl rfl ?_
        | refine Sep.LdS s (i := 4) rfl rfl rfl ?_
        | refine Sep.LdB s (i := 4) rfl rfl rfl ?_
        | refine Sep.LdP s (i := 4) rfl rfl rfl ?_
        | refine And.intro (Sep.cell s (i := 4) rfl rfl rfl) ?_
        | refine Sep.LdI s (i := 5) rfl rfl rfl ?_
        | refine Sep.LdS s (i := 5) rfl rfl rfl ?_
        | refine Sep.LdB s (i := 5) rfl rfl rfl ?_
        | refine Sep.LdP s (i := 5) rfl rfl rfl ?_
        | refine And.intro (Sep.cell s (i := 5) rfl rfl rfl) ?_
        | (refine Sep.St s (i := 0) rfl rfl rfl fun w s => ?_; simp only [List.set_cons_zero, List.set_cons_succ] at s)
        | (refine Sep.St s (i := 1) rfl rfl rfl fun w s => ?_; simp only [List.set_cons_zero, List.set_cons_succ] at s)
        | (refine Sep.St s (i := 2) rfl rfl rfl fun w s => ?_; simp only [List.set_cons_zero, List.set_cons_succ] at s)
        | (refine Sep.St s (i := 3) rfl rfl rfl fun w s => ?_; simp only [List.set_cons_zero, List.set_cons_succ] at s)
        | (refine Sep.St s (i := 4) rfl rfl rfl fun w s => ?_; simp only [List.set_cons_zero, List.set_cons_succ] at s)
        | (refine Sep.St s (i := 5) rfl rfl rfl fun w s => ?_; simp only [List.set_cons_zero, List.set_cons_succ] at s)
        | refine Sep.Bx s fun b w s => ?_
        | (refine Sep.Al s fun b w s => ?_; simp only [zc24] at s))
    cases h2 : (th == th') with
    | false => rwa [h2, Bool.false_and] at hh
    | true =>
      rw [h2, Bool.true_and] at hh
      rw [cond_true]
      repeat' first
        | refine Sep.LdI s (i := 0) rfl rfl rfl ?_
        | refine Sep.LdS s (i := 0) rfl rfl rfl ?_
        | refine Sep.LdB s (i := 0) rfl rfl rfl ?_
        | refine Sep.LdP s (i := 0) rfl rfl rfl ?_
        | refine And.intro (Sep.cell s (i := 0) rfl rfl rfl) ?_
        | refine Sep.LdI s (i := 1) rfl rfl rfl ?_
        | refine Sep.LdS s (i := 1) rfl rfl rfl ?_
        | refine Sep.LdB s (i := 1) rfl rfl rfl ?_
        | refine Sep.LdP s (i := 1) rfl rfl rfl ?_
        | refine And.intro (Sep.cell s (i := 1) rfl rfl rfl) ?_
        | refine Sep.LdI s (i := 2) rfl rfl rfl ?_
        | refine Sep.LdS s (i := 2) rfl rfl rfl ?_
        | refine Sep.LdB s (i := 2) rfl rfl rfl ?_
        | refine Sep.LdP s (i := 2) rfl rfl rfl ?_
        | refine And.intro (Sep.cell s (i := 2) rfl rfl rfl) ?_
        | refine Sep.LdI s (i := 3) rfl rfl rfl ?_
        | refine Sep.LdS s (i := 3) rfl rfl rfl ?_
        | refine Sep.LdB s (i := 3) rfl rfl rfl ?_
        | refine Sep.LdP s (i := 3) rfl rfl rfl ?_
        | refine And.intro (Sep.cell s (i := 3) rfl rfl rfl) ?_
        | refine Sep.LdI s (i := 4) rfl rfl rfl ?_
        | refine Sep.LdS s (i := 4) rfl rfl rfl ?_
        | refine Sep.LdB s (i := 4) rfl rfl rfl ?_
        | refine Sep.LdP s (i := 4) rfl rfl rfl ?_
        | refine And.intro (Sep.cell s (i := 4) rfl rfl rfl) ?_
        | refine Sep.LdI s (i := 5) rfl rfl rfl ?_
        | refine Sep.LdS s (i := 5) rfl rfl rfl ?_
        | refine Sep.LdB s (i := 5) rfl rfl rfl ?_
        | refine Sep.LdP s (i := 5) rfl rfl rfl ?_
        | refine And.intro (Sep.cell s (i := 5) rfl rfl rfl) ?_
        | (refine Sep.St s (i := 0) rfl rfl rfl fun w s => ?_; simp only [List.set_cons_zero, List.set_cons_succ] at s)
        | (refine Sep.St s (i := 1) rfl rfl rfl fun w s => ?_; simp only [List.set_cons_zero, List.set_cons_succ] at s)
        | (refine Sep.St s (i := 2) rfl rfl rfl fun w s => ?_; simp only [List.set_cons_zero, List.set_cons_succ] at s)
        | (refine Sep.St s (i := 3) rfl rfl rfl fun w s => ?_; simp only [List.set_cons_zero, List.set_cons_succ] at s)
        | (refine Sep.St s (i := 4) rfl rfl rfl fun w s => ?_; simp only [List.set_cons_zero, List.set_cons_succ] at s)
        | (refine Sep.St s (i := 5) rfl rfl rfl fun w s => ?_; simp only [List.set_cons_zero, List.set_cons_succ] at s)
        | refine Sep.Bx s fun b w s => ?_
        | (refine Sep.Al s fun b w s => ?_; simp only [zc24] at s)
        | (replace s := Sep.drew s; first
          | refine Sep.LdI s (i := 0) rfl rfl rfl ?_
          | refine Sep.LdS s (i := 0) rfl rfl rfl ?_
          | refine Sep.LdB s (i := 0) rfl rfl rfl ?_
          | refine Sep.LdP s (i := 0) rfl rfl rfl ?_
          | refine And.intro (Sep.cell s (i := 0) rfl rfl rfl) ?_
          | refine Sep.LdI s (i := 1) rfl rfl rfl ?_
          | refine Sep.LdS s (i := 1) rfl rfl rfl ?_
          | refine Sep.LdB s (i := 1) rfl rfl rfl ?_
          | refine Sep.LdP s (i := 1) rfl rfl rfl ?_
          | refine And.intro (Sep.cell s (i := 1) rfl rfl rfl) ?_
          | refine Sep.LdI s (i := 2) rfl rfl rfl ?_
          | refine Sep.LdS s (i := 2) rfl rfl rfl ?_
          | refine Sep.LdB s (i := 2) rfl rfl rfl ?_
          | refine Sep.LdP s (i := 2) rfl rfl rfl ?_
          | refine And.intro (Sep.cell s (i := 2) rfl rfl rfl) ?_
          | refine Sep.LdI s (i := 3) rfl rfl rfl ?_
          | refine Sep.LdS s (i := 3) rfl rfl rfl ?_
          | refine Sep.LdB s (i := 3) rfl rfl rfl ?_
          | refine Sep.LdP s (i := 3) rfl rfl rfl ?_
          | refine And.intro (Sep.cell s (i := 3) rfl rfl rfl) ?_
          | refine Sep.LdI s (i := 4) rfl rfl rfl ?_
          | refine Sep.LdS s (i := 4) rfl rfl rfl ?_
          | refine Sep.LdB s (i := 4) rfl rfl rfl ?_
          | refine Sep.LdP s (i := 4) rfl rfl rfl ?_
          | refine And.intro (Sep.cell s (i := 4) rfl rfl rfl) ?_
          | refine Sep.LdI s (i := 5) rfl rfl rfl ?_
          | refine Sep.LdS s (i := 5) rfl rfl rfl ?_
          | refine Sep.LdB s (i := 5) rfl rfl rfl ?_
          | refine Sep.LdP s (i := 5) rfl rfl rfl ?_
          | refine And.intro (Sep.cell s (i := 5) rfl rfl rfl) ?_
          | (refine Sep.St s (i := 0) rfl rfl rfl fun w s => ?_; simp only [List.set_cons_zero, List.set_cons_succ] at s)
          | (refine Sep.St s (i := 1) rfl rfl rfl fun w s => ?_; simp only [List.set_cons_zero, List.set_cons_succ] at s)
          | (refine Sep.St s (i := 2) rfl rfl rfl fun w s => ?_; simp only [List.set_cons_zero, List.set_cons_succ] at s)
          | (refine Sep.St s (i := 3) rfl rfl rfl fun w s => ?_; simp only [List.set_cons_zero, List.set_cons_succ] at s)
          | (refine Sep.St s (i := 4) rfl rfl rfl fun w s => ?_; simp only [List.set_cons_zero, List.set_cons_succ] at s)
          | (refine Sep.St s (i := 5) rfl rfl rfl fun w s => ?_; simp only [List.set_cons_zero, List.set_cons_succ] at s)
          | refine Sep.Bx s fun b w s => ?_
          | (refine Sep.Al s fun b w s => ?_; simp only [zc24] at s))
      exact Equal.spec (hA.fr (sep_fr s)) (hB.fr (sep_fr s)) hcs hcs' hh
theorem ref_SameTile.spec {tw th tw' th' : Int} {Q : Bool → World → Prop} (s : Sep F W w L) (hA : ArgRow w a n 1 by8 cs) (hB : ArgRow w a' n' 1 by8 cs') (hcs : ∀ x ∈ cs, 0 ≤ x ∧ x < 256) (hcs' : ∀ x ∈ cs', 0 ≤ x ∧ x < 256)
    (h : ∀ w', Sep F W w' L → Fr No w w' → Q (sameB tw th cs tw' th' cs') w') : herdsmanref1_SameTile.call tw th a n c tw' th' a' n' c' w Q := by
  refine herdsmanref1_SameTile.body _ _ _ _ _ _ _ _ _ _ _ _ ?_
  unfold herdsmanref1_SameTile.sh
  have s0 := s
  have s := Sep.nil (F := No) (w := w)
  repeat' first
    | refine Sep.LdI s (i := 0) rfl rfl rfl ?_
    | refine Sep.LdS s (i := 0) rfl rfl rfl ?_
    | refine Sep.LdB s (i := 0) rfl rfl rfl ?_
    | refine Sep.LdP s (i := 0) rfl rfl rfl ?_
    | refine And.intro (Sep.cell s (i := 0) rfl rfl rfl) ?_
    | refine Sep.LdI s (i := 1) rfl rfl rfl ?_
    | refine Sep.LdS s (i := 1) rfl rfl rfl ?_
    | refine Sep.LdB s (i := 1) rfl rfl rfl ?_
    | refine Sep.LdP s (i := 1) rfl rfl rfl ?_
    | refine And.intro (Sep.cell s (i := 1) rfl rfl rfl) ?_
    | refine Sep.LdI s (i := 2) rfl rfl rfl ?_
    | refine Sep.LdS s (i := 2) rfl rfl rfl ?_
    | refine Sep.LdB s (i := 2) rfl rfl rfl ?_
    | refine Sep.LdP s (i := 2) rfl rfl rfl ?_
    | refine And.intro (Sep.cell s (i := 2) rfl rfl rfl) ?_
    | refine Sep.LdI s (i := 3) rfl rfl rfl ?_
    | refine Sep.LdS s (i := 3) rfl rfl rfl ?_
    | refine Sep.LdB s (i := 3) rfl rfl rfl ?_
    | refine Sep.LdP s (i := 3) rfl rfl rfl ?_
    | refine And.intro (Sep.cell s (i := 3) rfl rfl rfl) ?_
    | refine Sep.LdI s (i := 4) rfl rfl rfl ?_
    | refine Sep.LdS s (i := 4) rfl rfl rfl ?_
    | refine Sep.LdB s (i := 4) rfl rfl rfl ?_
    | refine Sep.LdP s (i := 4) rfl rfl rfl ?_
    | refine And.intro (Sep.cell s (i := 4) rfl rfl rfl) ?_
    | refine Sep.LdI s (i := 5) rfl rfl rfl ?_
    | refine Sep.LdS s (i := 5) rfl rfl rfl ?_
    | refine Sep.LdB s (i := 5) rfl rfl rfl ?_
    | refine Sep.LdP s (i := 5) rfl rfl rfl ?_
    | refine And.intro (Sep.cell s (i := 5) rfl rfl rfl) ?_
    | (refine Sep.St s (i := 0) rfl rfl rfl fun w s => ?_; simp only [List.set_cons_zero, List.set_cons_succ] at s)
    | (refine Sep.St s (i := 1) rfl rfl rfl fun w s => ?_; simp only [List.set_cons_zero, List.set_cons_succ] at s)
    | (refine Sep.St s (i := 2) rfl rfl rfl fun w s => ?_; simp only [List.set_cons_zero, List.set_cons_succ] at s)
    | (refine Sep.St s (i := 3) rfl rfl rfl fun w s => ?_; simp only [List.set_cons_zero, List.set_cons_succ] at s)
    | (refine Sep.St s (i := 4) rfl rfl rfl fun w s => ?_; simp only [List.set_cons_zero, List.set_cons_succ] at s)
    | (refine Sep.St s (i := 5) rfl rfl rfl fun w s => ?_; simp only [List.set_cons_zero, List.set_cons_succ] at s)
    | refine Sep.Bx s fun b w s => ?_
    | (refine Sep.Al s fun b w s => ?_; simp only [zc24] at s)
    | (replace s := Sep.drew s; first
      | refine Sep.LdI s (i := 0) rfl rfl rfl ?_
      | refine Sep.LdS s (i := 0) rfl rfl rfl ?_
      | refine Sep.LdB s (i := 0) rfl rfl rfl ?_
      | refine Sep.LdP s (i := 0) rfl rfl rfl ?_
      | refine And.intro (Sep.cell s (i := 0) rfl rfl rfl) ?_
      | refine Sep.LdI s (i := 1) rfl rfl rfl ?_
      | refine Sep.LdS s (i := 1) rfl rfl rfl ?_
      | refine Sep.LdB s (i := 1) rfl rfl rfl ?_
      | refine Sep.LdP s (i := 1) rfl rfl rfl ?_
      | refine And.intro (Sep.cell s (i := 1) rfl rfl rfl) ?_
      | refine Sep.LdI s (i := 2) rfl rfl rfl ?_
      | refine Sep.LdS s (i := 2) rfl rfl rfl ?_
      | refine Sep.LdB s (i := 2) rfl rfl rfl ?_
      | refine Sep.LdP s (i := 2) rfl rfl rfl ?_
      | refine And.intro (Sep.cell s (i := 2) rfl rfl rfl) ?_
      | refine Sep.LdI s (i := 3) rfl rfl rfl ?_
      | refine Sep.LdS s (i := 3) rfl rfl rfl ?_
      | refine Sep.LdB s (i := 3) rfl rfl rfl ?_
      | refine Sep.LdP s (i := 3) rfl rfl rfl ?_
      | refine And.intro (Sep.cell s (i := 3) rfl rfl rfl) ?_
      | refine Sep.LdI s (i := 4) rfl rfl rfl ?_
      | refine Sep.LdS s (i := 4) rfl rfl rfl ?_
      | refine Sep.LdB s (i := 4) rfl rfl rfl ?_
      | refine Sep.LdP s (i := 4) rfl rfl rfl ?_
      | refine And.intro (Sep.cell s (i := 4) rfl rfl rfl) ?_
      | refine Sep.LdI s (i := 5) rfl rfl rfl ?_
      | refine Sep.LdS s (i := 5) rfl rfl rfl ?_
      | refine Sep.LdB s (i := 5) rfl rfl rfl ?_
      | refine Sep.LdP s (i := 5) rfl rfl rfl ?_
      | refine And.intro (Sep.cell s (i := 5) rfl rfl rfl) ?_
      | (refine Sep.St s (i := 0) rfl rfl rfl fun w s => ?_; simp only [List.set_cons_zero, List.set_cons_succ] at s)
      | (refine Sep.St s (i := 1) rfl rfl rfl fun w s => ?_; simp only [List.set_cons_zero, List.set_cons_succ] at s)
      | (refine Sep.St s (i := 2) rfl rfl rfl fun w s => ?_; simp only [List.set_cons_zero, List.set_cons_succ] at s)
      | (refine Sep.St s (i := 3) rfl rfl rfl fun w s => ?_; simp only [List.set_cons_zero, List.set_cons_succ] at s)
      | (refine Sep.St s (i := 4) rfl rfl rfl fun w s => ?_; simp only [List.set_cons_zero, List.set_cons_succ] at s)
      | (refine Sep.St s (i := 5) rfl rfl rfl fun w s => ?_; simp only [List.set_cons_zero, List.set_cons_succ] at s)
      | refine Sep.Bx s fun b w s => ?_
      | (refine Sep.Al s fun b w s => ?_; simp only [zc24] at s))
  have hh := h _ (Sep.call s0 (sep_fr s)) (sep_fr s)
  unfold sameB at hh
  cases h1 : (tw == tw') with
  | false => rwa [h1, Bool.false_and] at hh
  | true =>
    rw [h1, Bool.true_and] at hh
    rw [cond_true]
    repeat' first
      | refine Sep.LdI s (i := 0) rfl rfl rfl ?_
      | refine Sep.LdS s (i := 0) rfl rfl rfl ?_
      | refine Sep.LdB s (i := 0) rfl rfl rfl ?_
      | refine Sep.LdP s (i := 0) rfl rfl rfl ?_
      | refine And.intro (Sep.cell s (i := 0) rfl rfl rfl) ?_
      | refine Sep.LdI s (i := 1) rfl rfl rfl ?_
      | refine Sep.LdS s (i := 1) rfl rfl rfl ?_
      | refine Sep.LdB s (i := 1) rfl rfl rfl ?_
      | refine Sep.LdP s (i := 1) rfl rfl rfl ?_
      | refine And.intro (Sep.cell s (i := 1) rfl rfl rfl) ?_
      | refine Sep.LdI s (i := 2) rfl rfl rfl ?_
      | refine Sep.LdS s (i := 2) rfl rfl rfl ?_
      | refine Sep.LdB s (i := 2) rfl rfl rfl ?_
      | refine Sep.LdP s (i := 2) rfl rfl rfl ?_
      | refine And.intro (Sep.cell s (i := 2) rfl rfl rfl) ?_
      | refine Sep.LdI s (i := 3) rfl rfl rfl ?_
      | refine Sep.LdS s (i := 3) rfl rfl rfl ?_
      | refine Sep.LdB s (i := 3) rfl rfl rfl ?_
      | refine Sep.LdP s (i := 3) rfl rfl rfl ?_
      | refine And.intro (Sep.cell s (i := 3) rfl rfl rfl) ?_
      | refine Sep.LdI s (i := 4) rfl rfl rfl ?_
      | refine Sep.LdS s (i := 4) rfl rfl rfl ?_
      | refine Sep.LdB s (i := 4) rfl rfl rfl ?_
      | refine Sep.LdP s (i := 4) rfl rfl rfl ?_
      | refine And.intro (Sep.cell s (i := 4) rfl rfl rfl) ?_
      | refine Sep.LdI s (i := 5) rfl rfl rfl ?_
      | refine Sep.LdS s (i := 5) rfl rfl rfl ?_
      | refine Sep.LdB s (i := 5) rfl rfl rfl ?_
      | refine Sep.LdP s (i := 5) rfl rfl rfl ?_
      | refine And.intro (Sep.cell s (i := 5) rfl rfl rfl) ?_
      | (refine Sep.St s (i := 0) rfl rfl rfl fun w s => ?_; simp only [List.set_cons_zero, List.set_cons_succ] at s)
      | (refine Sep.St s (i := 1) rfl rfl rfl fun w s => ?_; simp only [List.set_cons_zero, List.set_cons_succ] at s)
      | (refine Sep.St s (i := 2) rfl rfl rfl fun w s => ?_; simp only [List.set_cons_zero, List.set_cons_succ] at s)
      | (refine Sep.St s (i := 3) rfl rfl rfl fun w s => ?_; simp only [List.set_cons_zero, List.set_cons_succ] at s)
      | (refine Sep.St s (i := 4) rfl rfl rfl fun w s => ?_; simp only [List.set_cons_zero, List.set_cons_succ] at s)
      | (refine Sep.St s (i := 5) rfl rfl rfl fun w s => ?_; simp only [List.set_cons_zero, List.set_cons_succ] at s)
      | refine Sep.Bx s fun b w s => ?_
      | (refine Sep.Al s fun b w s => ?_; simp only [zc24] at s)
      | (replace s := Sep.drew s; first
        | refine Sep.LdI s (i := 0) rfl rfl rfl ?_
        | refine Sep.LdS s (i := 0) rfl rfl rfl ?_
        | refine Sep.LdB s (i := 0) rfl rfl rfl ?_
        | refine Sep.LdP s (i := 0) rfl rfl rfl ?_
        | refine And.intro (Sep.cell s (i := 0) rfl rfl rfl) ?_
        | refine Sep.LdI s (i := 1) rfl rfl rfl ?_
        | refine Sep.LdS s (i := 1) rfl rfl rfl ?_
        | refine Sep.LdB s (i := 1) rfl rfl rfl ?_
        | refine Sep.LdP s (i := 1) rfl rfl rfl ?_
        | refine And.intro (Sep.cell s (i := 1) rfl rfl rfl) ?_
        | refine Sep.LdI s (i := 2) rfl rfl rfl ?_
        | refine Sep.LdS s (i := 2) rfl rfl rfl ?_
        | refine Sep.LdB s (i := 2) rfl rfl rfl ?_
        | refine Sep.LdP s (i := 2) rfl rfl rfl ?_
        | refine And.intro (Sep.cell s (i := 2) rfl rfl rfl) ?_
        | refine Sep.LdI s (i := 3) rfl rfl rfl ?_
        | refine Sep.LdS s (i := 3) rfl rfl rfl ?_
        | refine Sep.LdB s (i := 3) rfl rfl rfl ?_
        | refine Sep.LdP s (i := 3) rfl rfl rfl ?_
        | refine And.intro (Sep.cell s (i := 3) rfl rfl rfl) ?_
        | refine Sep.LdI s (i := 4) rfl rfl rfl ?_
        | refine Sep.LdS s (i := 4) rfl rfl rfl ?_
        | refine Sep.LdB s (i := 4) rfl rfl rfl ?_
        | refine Sep.LdP s (i := 4) rfl rfl rfl ?_
        | refine And.intro (Sep.cell s (i := 4) rfl rfl rfl) ?_
        | refine Sep.LdI s (i := 5) rfl rfl rfl ?_
        | refine Sep.LdS s (i := 5) rfl rfl rfl ?_
        | refine Sep.LdB s (i := 5) rfl rfl rfl ?_
        | refine Sep.LdP s (i := 5) rfl rfl rfl ?_
        | refine And.intro (Sep.cell s (i := 5) rfl rfl rfl) ?_
        | (refine Sep.St s (i := 0) rfl rfl rfl fun w s => ?_; simp only [List.set_cons_zero, List.set_cons_succ] at s)
        | (refine Sep.St s (i := 1) rfl rfl rfl fun w s => ?_; simp only [List.set_cons_zero, List.set_cons_succ] at s)
        | (refine Sep.St s (i := 2) rfl rfl rfl fun w s => ?_; simp only [List.set_cons_zero, List.set_cons_succ] at s)
        | (refine Sep.St s (i := 3) rfl rfl rfl fun w s => ?_; simp only [List.set_cons_zero, List.set_cons_succ] at s)
        | (refine Sep.St s (i := 4) rfl rfl rfl fun w s => ?_; simp only [List.set_cons_zero, List.set_cons_succ] at s)
        | (refine Sep.St s (i := 5) rfl rfl rfl fun w s => ?_; simp only [List.set_cons_zero, List.set_cons_succ] at s)
        | refine Sep.Bx s fun b w s => ?_
        | (refine Sep.Al s fun b w s => ?_; simp only [zc24] at s))
    cases h2 : (th == th') with
    | false => rwa [h2, Bool.false_and] at hh
    | true =>
      rw [h2, Bool.true_and] at hh
      rw [cond_true]
      repeat' first
        | refine Sep.LdI s (i := 0) rfl rfl rfl ?_
        | refine Sep.LdS s (i := 0) rfl rfl rfl ?_
        | refine Sep.LdB s (i := 0) rfl rfl rfl ?_
        | refine Sep.LdP s (i := 0) rfl rfl rfl ?_
        | refine And.intro (Sep.cell s (i := 0) rfl rfl rfl) ?_
        | refine Sep.LdI s (i := 1) rfl rfl rfl ?_
        | refine Sep.LdS s (i := 1) rfl rfl rfl ?_
        | refine Sep.LdB s (i := 1) rfl rfl rfl ?_
        | refine Sep.LdP s (i := 1) rfl rfl rfl ?_
        | refine And.intro (Sep.cell s (i := 1) rfl rfl rfl) ?_
        | refine Sep.LdI s (i := 2) rfl rfl rfl ?_
        | refine Sep.LdS s (i := 2) rfl rfl rfl ?_
        | refine Sep.LdB s (i := 2) rfl rfl rfl ?_
        | refine Sep.LdP s (i := 2) rfl rfl rfl ?_
        | refine And.intro (Sep.cell s (i := 2) rfl rfl rfl) ?_
        | refine Sep.LdI s (i := 3) rfl rfl rfl ?_
        | refine Sep.LdS s (i := 3) rfl rfl rfl ?_
        | refine Sep.LdB s (i := 3) rfl rfl rfl ?_
        | refine Sep.LdP s (i := 3) rfl rfl rfl ?_
        | refine And.intro (Sep.cell s (i := 3) rfl rfl rfl) ?_
        | refine Sep.LdI s (i := 4) rfl rfl rfl ?_
        | refine Sep.LdS s (i := 4) rfl rfl rfl ?_
        | refine Sep.LdB s (i := 4) rfl rfl rfl ?_
        | refine Sep.LdP s (i := 4) rfl rfl rfl ?_
        | refine And.intro (Sep.cell s (i := 4) rfl rfl rfl) ?_
        | refine Sep.LdI s (i := 5) rfl rfl rfl ?_
        | refine Sep.LdS s (i := 5) rfl rfl rfl ?_
        | refine Sep.LdB s (i := 5) rfl rfl rfl ?_
        | refine Sep.LdP s (i := 5) rfl rfl rfl ?_
        | refine And.intro (Sep.cell s (i := 5) rfl rfl rfl) ?_
        | (refine Sep.St s (i := 0) rfl rfl rfl fun w s => ?_; simp only [List.set_cons_zero, List.set_cons_succ] at s)
        | (refine Sep.St s (i := 1) rfl rfl rfl fun w s => ?_; simp only [List.set_cons_zero, List.set_cons_succ] at s)
        | (refine Sep.St s (i := 2) rfl rfl rfl fun w s => ?_; simp only [List.set_cons_zero, List.set_cons_succ] at s)
        | (refine Sep.St s (i := 3) rfl rfl rfl fun w s => ?_; simp only [List.set_cons_zero, List.set_cons_succ] at s)
        | (refine Sep.St s (i := 4) rfl rfl rfl fun w s => ?_; simp only [List.set_cons_zero, List.set_cons_succ] at s)
        | (refine Sep.St s (i := 5) rfl rfl rfl fun w s => ?_; simp only [List.set_cons_zero, List.set_cons_succ] at s)
        | refine Sep.Bx s fun b w s => ?_
        | (refine Sep.Al s fun b w s => ?_; simp only [zc24] at s)
        | (replace s := Sep.drew s; first
          | refine Sep.LdI s (i := 0) rfl rfl rfl ?_
          | refine Sep.LdS s (i := 0) rfl rfl rfl ?_
          | refine Sep.LdB s (i := 0) rfl rfl rfl ?_
          | refine Sep.LdP s (i := 0) rfl rfl rfl ?_
          | refine And.intro (Sep.cell s (i := 0) rfl rfl rfl) ?_
          | refine Sep.LdI s (i := 1) rfl rfl rfl ?_
          | refine Sep.LdS s (i := 1) rfl rfl rfl ?_
          | refine Sep.LdB s (i := 1) rfl rfl rfl ?_
          | refine Sep.LdP s (i := 1) rfl rfl rfl ?_
          | refine And.intro (Sep.cell s (i := 1) rfl rfl rfl) ?_
          | refine Sep.LdI s (i := 2) rfl rfl rfl ?_
          | refine Sep.LdS s (i := 2) rfl rfl rfl ?_
          | refine Sep.LdB s (i := 2) rfl rfl rfl ?_
          | refine Sep.LdP s (i := 2) rfl rfl rfl ?_
          | refine And.intro (Sep.cell s (i := 2) rfl rfl rfl) ?_
          | refine Sep.LdI s (i := 3) rfl rfl rfl ?_
          | refine Sep.LdS s (i := 3) rfl rfl rfl ?_
          | refine Sep.LdB s (i := 3) rfl rfl rfl ?_
          | refine Sep.LdP s (i := 3) rfl rfl rfl ?_
          | refine And.intro (Sep.cell s (i := 3) rfl rfl rfl) ?_
          | refine Sep.LdI s (i := 4) rfl rfl rfl ?_
          | refine Sep.LdS s (i := 4) rfl rfl rfl ?_
          | refine Sep.LdB s (i := 4) rfl rfl rfl ?_
          | refine Sep.LdP s (i := 4) rfl rfl rfl ?_
          | refine And.intro (Sep.cell s (i := 4) rfl rfl rfl) ?_
          | refine Sep.LdI s (i := 5) rfl rfl rfl ?_
          | refine Sep.LdS s (i := 5) rfl rfl rfl ?_
          | refine Sep.LdB s (i := 5) rfl rfl rfl ?_
          | refine Sep.LdP s (i := 5) rfl rfl rfl ?_
          | refine And.intro (Sep.cell s (i := 5) rfl rfl rfl) ?_
          | (refine Sep.St s (i := 0) rfl rfl rfl fun w s => ?_; simp only [List.set_cons_zero, List.set_cons_succ] at s)
          | (refine Sep.St s (i := 1) rfl rfl rfl fun w s => ?_; simp only [List.set_cons_zero, List.set_cons_succ] at s)
          | (refine Sep.St s (i := 2) rfl rfl rfl fun w s => ?_; simp only [List.set_cons_zero, List.set_cons_succ] at s)
          | (refine Sep.St s (i := 3) rfl rfl rfl fun w s => ?_; simp only [List.set_cons_zero, List.set_cons_succ] at s)
          | (refine Sep.St s (i := 4) rfl rfl rfl fun w s => ?_; simp only [List.set_cons_zero, List.set_cons_succ] at s)
          | (refine Sep.St s (i := 5) rfl rfl rfl fun w s => ?_; simp only [List.set_cons_zero, List.set_cons_succ] at s)
          | refine Sep.Bx s fun b w s => ?_
          | (refine Sep.Al s fun b w s => ?_; simp only [zc24] at s))
      exact ref_Bytes.spec (hA.fr (sep_fr s)) (hB.fr (sep_fr s)) hcs hcs' hh
theorem Clone.spec {Q : Option Addr → Nat → Nat → World → Prop} (s : Sep F W w L) (hA : ArgRow w a n 1 by8 cs) (hn : n ≤ 100000) (hac : a = none → c = 0)
    (h : ∀ ra rc w', Sep F W w' (rowA ra n rc 5 1 (flat by8 cs) :: L) → Fr No w w' → Q ra n rc w') : slices_Clone_byte_byte.call a n c w Q := by
  refine slices_Clone_byte_byte.body _ _ _ _ _ ?_
  unfold slices_Clone_byte_byte.sh
  have hl := hA.1
  have s0 := s
  have s := Sep.nil (F := No) (w := w)
  cases a with
  | none =>
    rw [show (none : Option Addr).isNone = true from rfl, cond_true]
    have e : cs = [] := by
      cases cs with
      | nil => rfl
      | cons x xs =>
        obtain ⟨ad, e1, _⟩ := hA.2 0 x rfl
        cases e1
    subst e
    obtain rfl : n = 0 := hl.symm
    exact h none 0 w (Sep.row_nil s0 5 1) Fr.refl
  | some ad =>
    rw [show (some ad : Option Addr).isNone = false from rfl, cond_false]
    repeat' first
      | refine Sep.LdI s (i := 0) rfl rfl rfl ?_
      | refine Sep.LdS s (i := 0) rfl rfl rfl ?_
      | refine Sep.LdB s (i := 0) rfl rfl rfl ?_
      | refine Sep.LdP s (i := 0) rfl rfl rfl ?_
      | refine And.intro (Sep.cell s (i := 0) rfl rfl rfl) ?_
      | refine Sep.LdI s (i := 1) rfl rfl rfl ?_
      | refine Sep.LdS s (i := 1) rfl rfl rfl ?_
      | refine Sep.LdB s (i := 1) rfl rfl rfl ?_
      | refine Sep.LdP s (i := 1) rfl rfl rfl ?_
      | refine And.intro (Sep.cell s (i := 1) rfl rfl rfl) ?_
      | refine Sep.LdI s (i := 2) rfl rfl rfl ?_
      | refine Sep.LdS s (i := 2) rfl rfl rfl ?_
      | refine Sep.LdB s (i := 2) rfl rfl rfl ?_
      | refine Sep.LdP s (i := 2) rfl rfl rfl ?_
      | refine And.intro (Sep.cell s (i := 2) rfl rfl rfl) ?_
      | refine Sep.LdI s (i := 3) rfl rfl rfl ?_
      | refine Sep.LdS s (i := 3) rfl rfl rfl ?_
      | refine Sep.LdB s (i := 3) rfl rfl rfl ?_
      | refine Sep.LdP s (i := 3) rfl rfl rfl ?_
      | refine And.intro (Sep.cell s (i := 3) rfl rfl rfl) ?_
      | refine Sep.LdI s (i := 4) rfl rfl rfl ?_
      | refine Sep.LdS s (i := 4) rfl rfl rfl ?_
      | refine Sep.LdB s (i := 4) rfl rfl rfl ?_
      | refine Sep.LdP s (i := 4) rfl rfl rfl ?_
      | refine And.intro (Sep.cell s (i := 4) rfl rfl rfl) ?_
      | refine Sep.LdI s (i := 5) rfl rfl rfl ?_
      | refine Sep.LdS s (i := 5) rfl rfl rfl ?_
      | refine Sep.LdB s (i := 5) rfl rfl rfl ?_
      | refine Sep.LdP s (i := 5) rfl rfl rfl ?_
      | refine And.intro (Sep.cell s (i := 5) rfl rfl rfl) ?_
      | (refine Sep.St s (i := 0) rfl rfl rfl fun w s => ?_; simp only [List.set_cons_zero, List.set_cons_succ] at s)
      | (refine Sep.St s (i := 1) rfl rfl rfl fun w s => ?_; simp only [List.set_cons_zero, List.set_cons_succ] at s)
      | (refine Sep.St s (i := 2) rfl rfl rfl fun w s => ?_; simp only [List.set_cons_zero, List.set_cons_succ] at s)
      | (refine Sep.St s (i := 3) rfl rfl rfl fun w s => ?_; simp only [List.set_cons_zero, List.set_cons_succ] at s)
      | (refine Sep.St s (i := 4) rfl rfl rfl fun w s => ?_; simp only [List.set_cons_zero, List.set_cons_succ] at s)
      | (refine Sep.St s (i := 5) rfl rfl rfl fun w s => ?_; simp only [List.set_cons_zero, List.set_cons_succ] at s)
      | refine Sep.Bx s fun b w s => ?_
      | (refine Sep.Al s fun b w s => ?_; simp only [zc24] at s)
      | (replace s := Sep.drew s; first
        | refine Sep.LdI s (i := 0) rfl rfl rfl ?_
        | refine Sep.LdS s (i := 0) rfl rfl rfl ?_
        | refine Sep.LdB s (i := 0) rfl rfl rfl ?_
        | refine Sep.LdP s (i := 0) rfl rfl rfl ?_
        | refine And.intro (Sep.cell s (i := 0) rfl rfl rfl) ?_
        | refine Sep.LdI s (i := 1) rfl rfl rfl ?_
        | refine Sep.LdS s (i := 1) rfl rfl rfl ?_
        | refine Sep.LdB s (i := 1) rfl rfl rfl ?_
        | refine Sep.LdP s (i := 1) rfl rfl rfl ?_
        | refine And.intro (Sep.cell s (i := 1) rfl rfl rfl) ?_
        | refine Sep.LdI s (i := 2) rfl rfl rfl ?_
        | refine Sep.LdS s (i := 2) rfl rfl rfl ?_
        | refine Sep.LdB s (i := 2) rfl rfl rfl ?_
        | refine Sep.LdP s (i := 2) rfl rfl rfl ?_
        | refine And.intro (Sep.cell s (i := 2) rfl rfl rfl) ?_
        | refine Sep.LdI s (i := 3) rfl rfl rfl ?_
        | refine Sep.LdS s (i := 3) rfl rfl rfl ?_
        | refine Sep.LdB s (i := 3) rfl rfl rfl ?_
        | refine Sep.LdP s (i := 3) rfl rfl rfl ?_
        | refine And.intro (Sep.cell s (i := 3) rfl rfl rfl) ?_
        | refine Sep.LdI s (i := 4) rfl rfl rfl ?_
        | refine Sep.LdS s (i := 4) rfl rfl rfl ?_
        | refine Sep.LdB s (i := 4) rfl rfl rfl ?_
        | refine Sep.LdP s (i := 4) rfl rfl rfl ?_
        | refine And.intro (Sep.cell s (i := 4) rfl rfl rfl) ?_
        | refine Sep.LdI s (i := 5) rfl rfl rfl ?_
        | refine Sep.LdS s (i := 5) rfl rfl rfl ?_
        | refine Sep.LdB s (i := 5) rfl rfl rfl ?_
        | refine Sep.LdP s (i := 5) rfl rfl rfl ?_
        | refine And.intro (Sep.cell s (i := 5) rfl rfl rfl) ?_
        | (refine Sep.St s (i := 0) rfl rfl rfl fun w s => ?_; simp only [List.set_cons_zero, List.set_cons_succ] at s)
        | (refine Sep.St s (i := 1) rfl rfl rfl fun w s => ?_; simp only [List.set_cons_zero, List.set_cons_succ] at s)
        | (refine Sep.St s (i := 2) rfl rfl rfl fun w s => ?_; simp only [List.set_cons_zero, List.set_cons_succ] at s)
        | (refine Sep.St s (i := 3) rfl rfl rfl fun w s => ?_; simp only [List.set_cons_zero, List.set_cons_succ] at s)
        | (refine Sep.St s (i := 4) rfl rfl rfl fun w s => ?_; simp only [List.set_cons_zero, List.set_cons_succ] at s)
        | (refine Sep.St s (i := 5) rfl rfl rfl fun w s => ?_; simp only [List.set_cons_zero, List.set_cons_succ] at s)
        | refine Sep.Bx s fun b w s => ?_
        | (refine Sep.Al s fun b w s => ?_; simp only [zc24] at s))
    have src := ArgRow.src (e := 5) (hA.fr (sep_fr s)) (Sep.nil) by8_len by8_one
    have s := Sep.blk_row (n := 0) (size := 1) s (i := 0) rfl rfl (by decide) (by simp)
    simp only [List.set_cons_zero] at s
    refine Sep.App tab_ok s (i := 0) (size := 1) (bytes := 1) rfl rfl rfl rfl rfl rfl (by decide) rfl src (by simp only [maxLen]; omega) (by omega) hac fun a1 c1 w5 s5 => ?_
    simp only [List.set_cons_zero, List.nil_append, Nat.zero_add] at s5 ⊢
    exact h a1 c1 w5 (Sep.gain s0 s5 (i := 0) rfl) (sep_fr s5)
def withB (tw th : Int) (cs : List Int) (l cost : Int) : Bool := isB tw th cs l && decide (1 ≤ cost ∧ cost ≤ 255)
theorem With_b2 {Q : Int → Int → Option Addr → Nat → Nat → Bool → World → Prop} {b : Nat} {cs : List Value} (hl : cs.length = 3) {w0 : World} {L' : List As} (s : Sep No w0 w (blkA b 24 cs :: L'))
    (h : ∀ w', Fr No w0 w' → Q 0 0 none 0 0 false w') : tile_With.b2 Q ⟨b, 0, none⟩ w := by
  unfold tile_With.b2
  obtain ⟨x, y, z, rfl⟩ : ∃ x y z, cs = [x, y, z] := by
    match cs, hl with
    | [x, y, z], _ => exact ⟨x, y, z, rfl⟩
  repeat' first
    | refine Sep.LdI s (i := 0) rfl rfl rfl ?_
    | refine Sep.LdS s (i := 0) rfl rfl rfl ?_
    | refine Sep.LdB s (i := 0) rfl rfl rfl ?_
    | refine Sep.LdP s (i := 0) rfl rfl rfl ?_
    | refine And.intro (Sep.cell s (i := 0) rfl rfl rfl) ?_
    | refine Sep.LdI s (i := 1) rfl rfl rfl ?_
    | refine Sep.LdS s (i := 1) rfl rfl rfl ?_
    | refine Sep.LdB s (i := 1) rfl rfl rfl ?_
    | refine Sep.LdP s (i := 1) rfl rfl rfl ?_
    | refine And.intro (Sep.cell s (i := 1) rfl rfl rfl) ?_
    | refine Sep.LdI s (i := 2) rfl rfl rfl ?_
    | refine Sep.LdS s (i := 2) rfl rfl rfl ?_
    | refine Sep.LdB s (i := 2) rfl rfl rfl ?_
    | refine Sep.LdP s (i := 2) rfl rfl rfl ?_
    | refine And.intro (Sep.cell s (i := 2) rfl rfl rfl) ?_
    | refine Sep.LdI s (i := 3) rfl rfl rfl ?_
    | refine Sep.LdS s (i := 3) rfl rfl rfl ?_
    | refine Sep.LdB s (i := 3) rfl rfl rfl ?_
    | refine Sep.LdP s (i := 3) rfl rfl rfl ?_
    | refine And.intro (Sep.cell s (i := 3) rfl rfl rfl) ?_
    | refine Sep.LdI s (i := 4) rfl rfl rfl ?_
    | refine Sep.LdS s (i := 4) rfl rfl rfl ?_
    | refine Sep.LdB s (i := 4) rfl rfl rfl ?_
    | refine Sep.LdP s (i := 4) rfl rfl rfl ?_
    | refine And.intro (Sep.cell s (i := 4) rfl rfl rfl) ?_
    | refine Sep.LdI s (i := 5) rfl rfl rfl ?_
    | refine Sep.LdS s (i := 5) rfl rfl rfl ?_
    | refine Sep.LdB s (i := 5) rfl rfl rfl ?_
    | refine Sep.LdP s (i := 5) rfl rfl rfl ?_
    | refine And.intro (Sep.cell s (i := 5) rfl rfl rfl) ?_
    | (refine Sep.St s (i := 0) rfl rfl rfl fun w s => ?_; simp only [List.set_cons_zero, List.set_cons_succ] at s)
    | (refine Sep.St s (i := 1) rfl rfl rfl fun w s => ?_; simp only [List.set_cons_zero, List.set_cons_succ] at s)
    | (refine Sep.St s (i := 2) rfl rfl rfl fun w s => ?_; simp only [List.set_cons_zero, List.set_cons_succ] at s)
    | (refine Sep.St s (i := 3) rfl rfl rfl fun w s => ?_; simp only [List.set_cons_zero, List.set_cons_succ] at s)
    | (refine Sep.St s (i := 4) rfl rfl rfl fun w s => ?_; simp only [List.set_cons_zero, List.set_cons_succ] at s)
    | (refine Sep.St s (i := 5) rfl rfl rfl fun w s => ?_; simp only [List.set_cons_zero, List.set_cons_succ] at s)
    | refine Sep.Bx s fun b w s => ?_
    | (refine Sep.Al s fun b w s => ?_; simp only [zc24] at s)
    | (replace s := Sep.drew s; first
      | refine Sep.LdI s (i := 0) rfl rfl rfl ?_
      | refine Sep.LdS s (i := 0) rfl rfl rfl ?_
      | refine Sep.LdB s (i := 0) rfl rfl rfl ?_
      | refine Sep.LdP s (i := 0) rfl rfl rfl ?_
      | refine And.intro (Sep.cell s (i := 0) rfl rfl rfl) ?_
      | refine Sep.LdI s (i := 1) rfl rfl rfl ?_
      | refine Sep.LdS s (i := 1) rfl rfl rfl ?_
      | refine Sep.LdB s (i := 1) rfl rfl rfl ?_
      | refine Sep.LdP s (i := 1) rfl rfl rfl ?_
      | refine And.intro (Sep.cell s (i := 1) rfl rfl rfl) ?_
      | refine Sep.LdI s (i := 2) rfl rfl rfl ?_
      | refine Sep.LdS s (i := 2) rfl rfl rfl ?_
      | refine Sep.LdB s (i := 2) rfl rfl rfl ?_
      | refine Sep.LdP s (i := 2) rfl rfl rfl ?_
      | refine And.intro (Sep.cell s (i := 2) rfl rfl rfl) ?_
      | refine Sep.LdI s (i := 3) rfl rfl rfl ?_
      | refine Sep.LdS s (i := 3) rfl rfl rfl ?_
      | refine Sep.LdB s (i := 3) rfl rfl rfl ?_
      | refine Sep.LdP s (i := 3) rfl rfl rfl ?_
      | refine And.intro (Sep.cell s (i := 3) rfl rfl rfl) ?_
      | refine Sep.LdI s (i := 4) rfl rfl rfl ?_
      | refine Sep.LdS s (i := 4) rfl rfl rfl ?_
      | refine Sep.LdB s (i := 4) rfl rfl rfl ?_
      | refine Sep.LdP s (i := 4) rfl rfl rfl ?_
      | refine And.intro (Sep.cell s (i := 4) rfl rfl rfl) ?_
      | refine Sep.LdI s (i := 5) rfl rfl rfl ?_
      | refine Sep.LdS s (i := 5) rfl rfl rfl ?_
      | refine Sep.LdB s (i := 5) rfl rfl rfl ?_
      | refine Sep.LdP s (i := 5) rfl rfl rfl ?_
      | refine And.intro (Sep.cell s (i := 5) rfl rfl rfl) ?_
      | (refine Sep.St s (i := 0) rfl rfl rfl fun w s => ?_; simp only [List.set_cons_zero, List.set_cons_succ] at s)
      | (refine Sep.St s (i := 1) rfl rfl rfl fun w s => ?_; simp only [List.set_cons_zero, List.set_cons_succ] at s)
      | (refine Sep.St s (i := 2) rfl rfl rfl fun w s => ?_; simp only [List.set_cons_zero, List.set_cons_succ] at s)
      | (refine Sep.St s (i := 3) rfl rfl rfl fun w s => ?_; simp only [List.set_cons_zero, List.set_cons_succ] at s)
      | (refine Sep.St s (i := 4) rfl rfl rfl fun w s => ?_; simp only [List.set_cons_zero, List.set_cons_succ] at s)
      | (refine Sep.St s (i := 5) rfl rfl rfl fun w s => ?_; simp only [List.set_cons_zero, List.set_cons_succ] at s)
      | refine Sep.Bx s fun b w s => ?_
      | (refine Sep.Al s fun b w s => ?_; simp only [zc24] at s))
  exact h _ (sep_fr s)
theorem tile_With.spec {tw th l cost : Int} {Q : Int → Int → Option Addr → Nat → Nat → Bool → World → Prop} (s : Sep F W w L) (hA : ArgRow w a n 1 by8 cs) (hn : n ≤ 100000) (hac : a = none → c = 0)
    (hyes : withB tw th cs l cost = true → ∀ ra rc w', Sep F W w' (rowA ra n rc 5 1 (flat by8 (cs.set l.toNat cost)) :: L) → Fr No w w' → Q tw th ra n rc true w')
    (hno : withB tw th cs l cost = false → ∀ w', Sep F W w' L → Fr No w w' → Q 0 0 none 0 0 false w') : tile_With.call tw th a n c l cost w Q := by
  refine tile_With.body _ _ _ _ _ _ _ _ _ ?_
  unfold tile_With.sh
  have hl := hA.1
  have s0 := s
  have s := Sep.nil (F := No) (w := w)
  repeat' first
    | refine Sep.LdI s (i := 0) rfl rfl rfl ?_
    | refine Sep.LdS s (i := 0) rfl rfl rfl ?_
    | refine Sep.LdB s (i := 0) rfl rfl rfl ?_
    | refine Sep.LdP s (i := 0) rfl rfl rfl ?_
    | refine And.intro (Sep.cell s (i := 0) rfl rfl rfl) ?_
    | refine Sep.LdI s (i := 1) rfl rfl rfl ?_
    | refine Sep.LdS s (i := 1) rfl rfl rfl ?_
    | refine Sep.LdB s (i := 1) rfl rfl rfl ?_
    | refine Sep.LdP s (i := 1) rfl rfl rfl ?_
    | refine And.intro (Sep.cell s (i := 1) rfl rfl rfl) ?_
    | refine Sep.LdI s (i := 2) rfl rfl rfl ?_
    | refine Sep.LdS s (i := 2) rfl rfl rfl ?_
    | refine Sep.LdB s (i := 2) rfl rfl rfl ?_
    | refine Sep.LdP s (i := 2) rfl rfl rfl ?_
    | refine And.intro (Sep.cell s (i := 2) rfl rfl rfl) ?_
    | refine Sep.LdI s (i := 3) rfl rfl rfl ?_
    | refine Sep.LdS s (i := 3) rfl rfl rfl ?_
    | refine Sep.LdB s (i := 3) rfl rfl rfl ?_
    | refine Sep.LdP s (i := 3) rfl rfl rfl ?_
    | refine And.intro (Sep.cell s (i := 3) rfl rfl rfl) ?_
    | refine Sep.LdI s (i := 4) rfl rfl rfl ?_
    | refine Sep.LdS s (i := 4) rfl rfl rfl ?_
    | refine Sep.LdB s (i := 4) rfl rfl rfl ?_
    | refine Sep.LdP s (i := 4) rfl rfl rfl ?_
    | refine And.intro (Sep.cell s (i := 4) rfl rfl rfl) ?_
    | refine Sep.LdI s (i := 5) rfl rfl rfl ?_
    | refine Sep.LdS s (i := 5) rfl rfl rfl ?_
    | refine Sep.LdB s (i := 5) rfl rfl rfl ?_
    | refine Sep.LdP s (i := 5) rfl rfl rfl ?_
    | refine And.intro (Sep.cell s (i := 5) rfl rfl rfl) ?_
    | (refine Sep.St s (i := 0) rfl rfl rfl fun w s => ?_; simp only [List.set_cons_zero, List.set_cons_succ] at s)
    | (refine Sep.St s (i := 1) rfl rfl rfl fun w s => ?_; simp only [List.set_cons_zero, List.set_cons_succ] at s)
    | (refine Sep.St s (i := 2) rfl rfl rfl fun w s => ?_; simp only [List.set_cons_zero, List.set_cons_succ] at s)
    | (refine Sep.St s (i := 3) rfl rfl rfl fun w s => ?_; simp only [List.set_cons_zero, List.set_cons_succ] at s)
    | (refine Sep.St s (i := 4) rfl rfl rfl fun w s => ?_; simp only [List.set_cons_zero, List.set_cons_succ] at s)
    | (refine Sep.St s (i := 5) rfl rfl rfl fun w s => ?_; simp only [List.set_cons_zero, List.set_cons_succ] at s)
    | refine Sep.Bx s fun b w s => ?_
    | (refine Sep.Al s fun b w s => ?_; simp only [zc24] at s)
    | (replace s := Sep.drew s; first
      | refine Sep.LdI s (i := 0) rfl rfl rfl ?_
      | refine Sep.LdS s (i := 0) rfl rfl rfl ?_
      | refine Sep.LdB s (i := 0) rfl rfl rfl ?_
      | refine Sep.LdP s (i := 0) rfl rfl rfl ?_
      | refine And.intro (Sep.cell s (i := 0) rfl rfl rfl) ?_
      | refine Sep.LdI s (i := 1) rfl rfl rfl ?_
      | refine Sep.LdS s (i := 1) rfl rfl rfl ?_
      | refine Sep.LdB s (i := 1) rfl rfl rfl ?_
      | refine Sep.LdP s (i := 1) rfl rfl rfl ?_
      | refine And.intro (Sep.cell s (i := 1) rfl rfl rfl) ?_
      | refine Sep.LdI s (i := 2) rfl rfl rfl ?_
      | refine Sep.LdS s (i := 2) rfl rfl rfl ?_
      | refine Sep.LdB s (i := 2) rfl rfl rfl ?_
      | refine Sep.LdP s (i := 2) rfl rfl rfl ?_
      | refine And.intro (Sep.cell s (i := 2) rfl rfl rfl) ?_
      | refine Sep.LdI s (i := 3) rfl rfl rfl ?_
      | refine Sep.LdS s (i := 3) rfl rfl rfl ?_
      | refine Sep.LdB s (i := 3) rfl rfl rfl ?_
      | refine Sep.LdP s (i := 3) rfl rfl rfl ?_
      | refine And.intro (Sep.cell s (i := 3) rfl rfl rfl) ?_
      | refine Sep.LdI s (i := 4) rfl rfl rfl ?_
      | refine Sep.LdS s (i := 4) rfl rfl rfl ?_
      | refine Sep.LdB s (i := 4) rfl rfl rfl ?_
      | refine Sep.LdP s (i := 4) rfl rfl rfl ?_
      | refine And.intro (Sep.cell s (i := 4) rfl rfl rfl) ?_
      | refine Sep.LdI s (i := 5) rfl rfl rfl ?_
      | refine Sep.LdS s (i := 5) rfl rfl rfl ?_
      | refine Sep.LdB s (i := 5) rfl rfl rfl ?_
      | refine Sep.LdP s (i := 5) rfl rfl rfl ?_
      | refine And.intro (Sep.cell s (i := 5) rfl rfl rfl) ?_
      | (refine Sep.St s (i := 0) rfl rfl rfl fun w s => ?_; simp only [List.set_cons_zero, List.set_cons_succ] at s)
      | (refine Sep.St s (i := 1) rfl rfl rfl fun w s => ?_; simp only [List.set_cons_zero, List.set_cons_succ] at s)
      | (refine Sep.St s (i := 2) rfl rfl rfl fun w s => ?_; simp only [List.set_cons_zero, List.set_cons_succ] at s)
      | (refine Sep.St s (i := 3) rfl rfl rfl fun w s => ?_; simp only [List.set_cons_zero, List.set_cons_succ] at s)
      | (refine Sep.St s (i := 4) rfl rfl rfl fun w s => ?_; simp only [List.set_cons_zero, List.set_cons_succ] at s)
      | (refine Sep.St s (i := 5) rfl rfl rfl fun w s => ?_; simp only [List.set_cons_zero, List.set_cons_succ] at s)
      | refine Sep.Bx s fun b w s => ?_
      | (refine Sep.Al s fun b w s => ?_; simp only [zc24] at s))
  refine tile_is.spec s (hA.fr (sep_fr s)) fun w s _ => ?_
  have no : withB tw th cs l cost = false → ∀ w', Fr No w w' → Q 0 0 none 0 0 false w' := fun e w' f => hno e w' (Sep.call s0 ((sep_fr s).then f)) ((sep_fr s).then f)
  cases hb : isB tw th cs l with
  | false =>
    rw [Bool.not_false, cond_true]
    refine With_b2 rfl s fun w' f => hno (by unfold withB; rw [hb]; rfl) w' (Sep.call s0 f) f
  | true =>
    rw [Bool.not_true, cond_false]
    by_cases h1 : cost < 1
    · rw [decide_eq_true h1, cond_true]
      refine With_b2 rfl s fun w' f => hno (by unfold withB; rw [decide_eq_false (by omega), Bool.and_false]) w' (Sep.call s0 f) f
    · rw [decide_eq_false h1, cond_false]
      by_cases h2 : cost > 255
      · rw [decide_eq_true h2, cond_true]
        refine With_b2 rfl s fun w' f => hno (by unfold withB; rw [decide_eq_false (by omega), Bool.and_false]) w' (Sep.call s0 f) f
      · rw [decide_eq_false h2, cond_false]
        have hy := hyes (by unfold withB; rw [hb, decide_eq_true (by omega)]; rfl)
        obtain ⟨hr, _⟩ := isB_iff.1 hb
        repeat' first
          | refine Sep.LdI s (i := 0) rfl rfl rfl ?_
          | refine Sep.LdS s (i := 0) rfl rfl rfl ?_
          | refine Sep.LdB s (i := 0) rfl rfl rfl ?_
          | refine Sep.LdP s (i := 0) rfl rfl rfl ?_
          | refine And.intro (Sep.cell s (i := 0) rfl rfl rfl) ?_
          | refine Sep.LdI s (i := 1) rfl rfl rfl ?_
          | refine Sep.LdS s (i := 1) rfl rfl rfl ?_
          | refine Sep.LdB s (i := 1) rfl rfl rfl ?_
          | refine Sep.LdP s (i := 1) rfl rfl rfl ?_
          | refine And.intro (Sep.cell s (i := 1) rfl rfl rfl) ?_
          | refine Sep.LdI s (i := 2) rfl rfl rfl ?_
          | refine Sep.LdS s (i := 2) rfl rfl rfl ?_
          | refine Sep.LdB s (i := 2) rfl rfl rfl ?_
          | refine Sep.LdP s (i := 2) rfl rfl rfl ?_
          | refine And.intro (Sep.cell s (i := 2) rfl rfl rfl) ?_
          | refine Sep.LdI s (i := 3) rfl rfl rfl ?_
          | refine Sep.LdS s (i := 3) rfl rfl rfl ?_
          | refine Sep.LdB s (i := 3) rfl rfl rfl ?_
          | refine Sep.LdP s (i := 3) rfl rfl rfl ?_
          | refine And.intro (Sep.cell s (i := 3) rfl rfl rfl) ?_
          | refine Sep.LdI s (i := 4) rfl rfl rfl ?_
          | refine Sep.LdS s (i := 4) rfl rfl rfl ?_
          | refine Sep.LdB s (i := 4) rfl rfl rfl ?_
          | refine Sep.LdP s (i := 4) rfl rfl rfl ?_
          | refine And.intro (Sep.cell s (i := 4) rfl rfl rfl) ?_
          | refine Sep.LdI s (i := 5) rfl rfl rfl ?_
          | refine Sep.LdS s (i := 5) rfl rfl rfl ?_
          | refine Sep.LdB s (i := 5) rfl rfl rfl ?_
          | refine Sep.LdP s (i := 5) rfl rfl rfl ?_
          | refine And.intro (Sep.cell s (i := 5) rfl rfl rfl) ?_
          | (refine Sep.St s (i := 0) rfl rfl rfl fun w s => ?_; simp only [List.set_cons_zero, List.set_cons_succ] at s)
          | (refine Sep.St s (i := 1) rfl rfl rfl fun w s => ?_; simp only [List.set_cons_zero, List.set_cons_succ] at s)
          | (refine Sep.St s (i := 2) rfl rfl rfl fun w s => ?_; simp only [List.set_cons_zero, List.set_cons_succ] at s)
          | (refine Sep.St s (i := 3) rfl rfl rfl fun w s => ?_; simp only [List.set_cons_zero, List.set_cons_succ] at s)
          | (refine Sep.St s (i := 4) rfl rfl rfl fun w s => ?_; simp only [List.set_cons_zero, List.set_cons_succ] at s)
          | (refine Sep.St s (i := 5) rfl rfl rfl fun w s => ?_; simp only [List.set_cons_zero, List.set_cons_succ] at s)
          | refine Sep.Bx s fun b w s => ?_
          | (refine Sep.Al s fun b w s => ?_; simp only [zc24] at s)
          | (replace s := Sep.drew s; first
            | refine Sep.LdI s (i := 0) rfl rfl rfl ?_
            | refine Sep.LdS s (i := 0) rfl rfl rfl ?_
            | refine Sep.LdB s (i := 0) rfl rfl rfl ?_
            | refine Sep.LdP s (i := 0) rfl rfl rfl ?_
            | refine And.intro (Sep.cell s (i := 0) rfl rfl rfl) ?_
            | refine Sep.LdI s (i := 1) rfl rfl rfl ?_
            | refine Sep.LdS s (i := 1) rfl rfl rfl ?_
            | refine Sep.LdB s (i := 1) rfl rfl rfl ?_
            | refine Sep.LdP s (i := 1) rfl rfl rfl ?_
            | refine And.intro (Sep.cell s (i := 1) rfl rfl rfl) ?_
            | refine Sep.LdI s (i := 2) rfl rfl rfl ?_
            | refine Sep.LdS s (i := 2) rfl rfl rfl ?_
            | refine Sep.LdB s (i := 2) rfl rfl rfl ?_
            | refine Sep.LdP s (i := 2) rfl rfl rfl ?_
            | refine And.intro (Sep.cell s (i := 2) rfl rfl rfl) ?_
            | refine Sep.LdI s (i := 3) rfl rfl rfl ?_
            | refine Sep.LdS s (i := 3) rfl rfl rfl ?_
            | refine Sep.LdB s (i := 3) rfl rfl rfl ?_
            | refine Sep.LdP s (i := 3) rfl rfl rfl ?_
            | refine And.intro (Sep.cell s (i := 3) rfl rfl rfl) ?_
            | refine Sep.LdI s (i := 4) rfl rfl rfl ?_
            | refine Sep.LdS s (i := 4) rfl rfl rfl ?_
            | refine Sep.LdB s (i := 4) rfl rfl rfl ?_
            | refine Sep.LdP s (i := 4) rfl rfl rfl ?_
            | refine And.intro (Sep.cell s (i := 4) rfl rfl rfl) ?_
            | refine Sep.LdI s (i := 5) rfl rfl rfl ?_
            | refine Sep.LdS s (i := 5) rfl rfl rfl ?_
            | refine Sep.LdB s (i := 5) rfl rfl rfl ?_
            | refine Sep.LdP s (i := 5) rfl rfl rfl ?_
            | refine And.intro (Sep.cell s (i := 5) rfl rfl rfl) ?_
            | (refine Sep.St s (i := 0) rfl rfl rfl fun w s => ?_; simp only [List.set_cons_zero, List.set_cons_succ] at s)
            | (refine Sep.St s (i := 1) rfl rfl rfl fun w s => ?_; simp only [List.set_cons_zero, List.set_cons_succ] at s)
            | (refine Sep.St s (i := 2) rfl rfl rfl fun w s => ?_; simp only [List.set_cons_zero, List.set_cons_succ] at s)
            | (refine Sep.St s (i := 3) rfl rfl rfl fun w s => ?_; simp only [List.set_cons_zero, List.set_cons_succ] at s)
            | (refine Sep.St s (i := 4) rfl rfl rfl fun w s => ?_; simp only [List.set_cons_zero, List.set_cons_succ] at s)
            | (refine Sep.St s (i := 5) rfl rfl rfl fun w s => ?_; simp only [List.set_cons_zero, List.set_cons_succ] at s)
            | refine Sep.Bx s fun b w s => ?_
            | (refine Sep.Al s fun b w s => ?_; simp only [zc24] at s))
        refine Clone.spec s (hA.fr (sep_fr s)) hn hac fun ra rc w s _ => ?_
        repeat' first
          | refine Sep.LdI s (i := 0) rfl rfl rfl ?_
          | refine Sep.LdS s (i := 0) rfl rfl rfl ?_
          | refine Sep.LdB s (i := 0) rfl rfl rfl ?_
          | refine Sep.LdP s (i := 0) rfl rfl rfl ?_
          | refine And.intro (Sep.cell s (i := 0) rfl rfl rfl) ?_
          | refine Sep.LdI s (i := 1) rfl rfl rfl ?_
          | refine Sep.LdS s (i := 1) rfl rfl rfl ?_
          | refine Sep.LdB s (i := 1) rfl rfl rfl ?_
          | refine Sep.LdP s (i := 1) rfl rfl rfl ?_
          | refine And.intro (Sep.cell s (i := 1) rfl rfl rfl) ?_
          | refine Sep.LdI s (i := 2) rfl rfl rfl ?_
          | refine Sep.LdS s (i := 2) rfl rfl rfl ?_
          | refine Sep.LdB s (i := 2) rfl rfl rfl ?_
          | refine Sep.LdP s (i := 2) rfl rfl rfl ?_
          | refine And.intro (Sep.cell s (i := 2) rfl rfl rfl) ?_
          | refine Sep.LdI s (i := 3) rfl rfl rfl ?_
          | refine Sep.LdS s (i := 3) rfl rfl rfl ?_
          | refine Sep.LdB s (i := 3) rfl rfl rfl ?_
          | refine Sep.LdP s (i := 3) rfl rfl rfl ?_
          | refine And.intro (Sep.cell s (i := 3) rfl rfl rfl) ?_
          | refine Sep.LdI s (i := 4) rfl rfl rfl ?_
          | refine Sep.LdS s (i := 4) rfl rfl rfl ?_
          | refine Sep.LdB s (i := 4) rfl rfl rfl ?_
          | refine Sep.LdP s (i := 4) rfl rfl rfl ?_
          | refine And.intro (Sep.cell s (i := 4) rfl rfl rfl) ?_
          | refine Sep.LdI s (i := 5) rfl rfl rfl ?_
          | refine Sep.LdS s (i := 5) rfl rfl rfl ?_
          | refine Sep.LdB s (i := 5) rfl rfl rfl ?_
          | refine Sep.LdP s (i := 5) rfl rfl rfl ?_
          | refine And.intro (Sep.cell s (i := 5) rfl rfl rfl) ?_
          | (refine Sep.St s (i := 0) rfl rfl rfl fun w s => ?_; simp only [List.set_cons_zero, List.set_cons_succ] at s)
          | (refine Sep.St s (i := 1) rfl rfl rfl fun w s => ?_; simp only [List.set_cons_zero, List.set_cons_succ] at s)
          | (refine Sep.St s (i := 2) rfl rfl rfl fun w s => ?_; simp only [List.set_cons_zero, List.set_cons_succ] at s)
          | (refine Sep.St s (i := 3) rfl rfl rfl fun w s => ?_; simp only [List.set_cons_zero, List.set_cons_succ] at s)
          | (refine Sep.St s (i := 4) rfl rfl rfl fun w s => ?_; simp only [List.set_cons_zero, List.set_cons_succ] at s)
          | (refine Sep.St s (i := 5) rfl rfl rfl fun w s => ?_; simp only [List.set_cons_zero, List.set_cons_succ] at s)
          | refine Sep.Bx s fun b w s => ?_
          | (refine Sep.Al s fun b w s => ?_; simp only [zc24] at s)
          | (replace s := Sep.drew s; first
            | refine Sep.LdI s (i := 0) rfl rfl rfl ?_
            | refine Sep.LdS s (i := 0) rfl rfl rfl ?_
            | refine Sep.LdB s (i := 0) rfl rfl rfl ?_
            | refine Sep.LdP s (i := 0) rfl rfl rfl ?_
            | refine And.intro (Sep.cell s (i := 0) rfl rfl rfl) ?_
            | refine Sep.LdI s (i := 1) rfl rfl rfl ?_
            | refine Sep.LdS s (i := 1) rfl rfl rfl ?_
            | refine Sep.LdB s (i := 1) rfl rfl rfl ?_
            | refine Sep.LdP s (i := 1) rfl rfl rfl ?_
            | refine And.intro (Sep.cell s (i := 1) rfl rfl rfl) ?_
            | refine Sep.LdI s (i := 2) rfl rfl rfl ?_
            | refine Sep.LdS s (i := 2) rfl rfl rfl ?_
            | refine Sep.LdB s (i := 2) rfl rfl rfl ?_
            | refine Sep.LdP s (i := 2) rfl rfl rfl ?_
            | refine And.intro (Sep.cell s (i := 2) rfl rfl rfl) ?_
            | refine Sep.LdI s (i := 3) rfl rfl rfl ?_
            | refine Sep.LdS s (i := 3) rfl rfl rfl ?_
            | refine Sep.LdB s (i := 3) rfl rfl rfl ?_
            | refine Sep.LdP s (i := 3) rfl rfl rfl ?_
            | refine And.intro (Sep.cell s (i := 3) rfl rfl rfl) ?_
            | refine Sep.LdI s (i := 4) rfl rfl rfl ?_
            | refine Sep.LdS s (i := 4) rfl rfl rfl ?_
            | refine Sep.LdB s (i := 4) rfl rfl rfl ?_
            | refine Sep.LdP s (i := 4) rfl rfl rfl ?_
            | refine And.intro (Sep.cell s (i := 4) rfl rfl rfl) ?_
            | refine Sep.LdI s (i := 5) rfl rfl rfl ?_
            | refine Sep.LdS s (i := 5) rfl rfl rfl ?_
            | refine Sep.LdB s (i := 5) rfl rfl rfl ?_
            | refine Sep.LdP s (i := 5) rfl rfl rfl ?_
            | refine And.intro (Sep.cell s (i := 5) rfl rfl rfl) ?_
            | (refine Sep.St s (i := 0) rfl rfl rfl fun w s => ?_; simp only [List.set_cons_zero, List.set_cons_succ] at s)
            | (refine Sep.St s (i := 1) rfl rfl rfl fun w s => ?_; simp only [List.set_cons_zero, List.set_cons_succ] at s)
            | (refine Sep.St s (i := 2) rfl rfl rfl fun w s => ?_; simp only [List.set_cons_zero, List.set_cons_succ] at s)
            | (refine Sep.St s (i := 3) rfl rfl rfl fun w s => ?_; simp only [List.set_cons_zero, List.set_cons_succ] at s)
            | (refine Sep.St s (i := 4) rfl rfl rfl fun w s => ?_; simp only [List.set_cons_zero, List.set_cons_succ] at s)
            | (refine Sep.St s (i := 5) rfl rfl rfl fun w s => ?_; simp only [List.set_cons_zero, List.set_cons_succ] at s)
            | refine Sep.Bx s fun b w s => ?_
            | (refine Sep.Al s fun b w s => ?_; simp only [zc24] at s))
        obtain ⟨i, rfl⟩ : ∃ i : Nat, l = i := ⟨l.toNat, by omega⟩
        refine Sep.El s (i := 0) (k := i) rfl rfl (by omega) fun g o e => ?_
        subst e
        rw [wrap_u8 (by omega) (by omega)]
        refine Sep.St_el (i := 0) (j := 0) (x' := cost) by8_len s rfl (gi_get (l := cs) (i := i) (by omega)) (by rw [add_flat]; congr 1) (by decide) rfl rfl fun w s => ?_
        simp only [List.set_cons_zero] at s
        repeat' first
          | refine Sep.LdI s (i := 0) rfl rfl rfl ?_
          | refine Sep.LdS s (i := 0) rfl rfl rfl ?_
          | refine Sep.LdB s (i := 0) rfl rfl rfl ?_
          | refine Sep.LdP s (i := 0) rfl rfl rfl ?_
          | refine And.intro (Sep.cell s (i := 0) rfl rfl rfl) ?_
          | refine Sep.LdI s (i := 1) rfl rfl rfl ?_
          | refine Sep.LdS s (i := 1) rfl rfl rfl ?_
          | refine Sep.LdB s (i := 1) rfl rfl rfl ?_
          | refine Sep.LdP s (i := 1) rfl rfl rfl ?_
          | refine And.intro (Sep.cell s (i := 1) rfl rfl rfl) ?_
          | refine Sep.LdI s (i := 2) rfl rfl rfl ?_
          | refine Sep.LdS s (i := 2) rfl rfl rfl ?_
          | refine Sep.LdB s (i := 2) rfl rfl rfl ?_
          | refine Sep.LdP s (i := 2) rfl rfl rfl ?_
          | refine And.intro (Sep.cell s (i := 2) rfl rfl rfl) ?_
          | refine Sep.LdI s (i := 3) rfl rfl rfl ?_
          | refine Sep.LdS s (i := 3) rfl rfl rfl ?_
          | refine Sep.LdB s (i := 3) rfl rfl rfl ?_
          | refine Sep.LdP s (i := 3) rfl rfl rfl ?_
          | refine And.intro (Sep.cell s (i := 3) rfl rfl rfl) ?_
          | refine Sep.LdI s (i := 4) rfl rfl rfl ?_
          | refine Sep.LdS s (i := 4) rfl rfl rfl ?_
          | refine Sep.LdB s (i := 4) rfl rfl rfl ?_
          | refine Sep.LdP s (i := 4) rfl rfl rfl ?_
          | refine And.intro (Sep.cell s (i := 4) rfl rfl rfl) ?_
          | refine Sep.LdI s (i := 5) rfl rfl rfl ?_
          | refine Sep.LdS s (i := 5) rfl rfl rfl ?_
          | refine Sep.LdB s (i := 5) rfl rfl rfl ?_
          | refine Sep.LdP s (i := 5) rfl rfl rfl ?_
          | refine And.intro (Sep.cell s (i := 5) rfl rfl rfl) ?_
          | (refine Sep.St s (i := 0) rfl rfl rfl fun w s => ?_; simp only [List.set_cons_zero, List.set_cons_succ] at s)
          | (refine Sep.St s (i := 1) rfl rfl rfl fun w s => ?_; simp only [List.set_cons_zero, List.set_cons_succ] at s)
          | (refine Sep.St s (i := 2) rfl rfl rfl fun w s => ?_; simp only [List.set_cons_zero, List.set_cons_succ] at s)
          | (refine Sep.St s (i := 3) rfl rfl rfl fun w s => ?_; simp only [List.set_cons_zero, List.set_cons_succ] at s)
          | (refine Sep.St s (i := 4) rfl rfl rfl fun w s => ?_; simp only [List.set_cons_zero, List.set_cons_succ] at s)
          | (refine Sep.St s (i := 5) rfl rfl rfl fun w s => ?_; simp only [List.set_cons_zero, List.set_cons_succ] at s)
          | refine Sep.Bx s fun b w s => ?_
          | (refine Sep.Al s fun b w s => ?_; simp only [zc24] at s)
          | (replace s := Sep.drew s; first
            | refine Sep.LdI s (i := 0) rfl rfl rfl ?_
            | refine Sep.LdS s (i := 0) rfl rfl rfl ?_
            | refine Sep.LdB s (i := 0) rfl rfl rfl ?_
            | refine Sep.LdP s (i := 0) rfl rfl rfl ?_
            | refine And.intro (Sep.cell s (i := 0) rfl rfl rfl) ?_
            | refine Sep.LdI s (i := 1) rfl rfl rfl ?_
            | refine Sep.LdS s (i := 1) rfl rfl rfl ?_
            | refine Sep.LdB s (i := 1) rfl rfl rfl ?_
            | refine Sep.LdP s (i := 1) rfl rfl rfl ?_
            | refine And.intro (Sep.cell s (i := 1) rfl rfl rfl) ?_
            | refine Sep.LdI s (i := 2) rfl rfl rfl ?_
            | refine Sep.LdS s (i := 2) rfl rfl rfl ?_
            | refine Sep.LdB s (i := 2) rfl rfl rfl ?_
            | refine Sep.LdP s (i := 2) rfl rfl rfl ?_
            | refine And.intro (Sep.cell s (i := 2) rfl rfl rfl) ?_
            | refine Sep.LdI s (i := 3) rfl rfl rfl ?_
            | refine Sep.LdS s (i := 3) rfl rfl rfl ?_
            | refine Sep.LdB s (i := 3) rfl rfl rfl ?_
            | refine Sep.LdP s (i := 3) rfl rfl rfl ?_
            | refine And.intro (Sep.cell s (i := 3) rfl rfl rfl) ?_
            | refine Sep.LdI s (i := 4) rfl rfl rfl ?_
            | refine Sep.LdS s (i := 4) rfl rfl rfl ?_
            | refine Sep.LdB s (i := 4) rfl rfl rfl ?_
            | refine Sep.LdP s (i := 4) rfl rfl rfl ?_
            | refine And.intro (Sep.cell s (i := 4) rfl rfl rfl) ?_
            | refine Sep.LdI s (i := 5) rfl rfl rfl ?_
            | refine Sep.LdS s (i := 5) rfl rfl rfl ?_
            | refine Sep.LdB s (i := 5) rfl rfl rfl ?_
            | refine Sep.LdP s (i := 5) rfl rfl rfl ?_
            | refine And.intro (Sep.cell s (i := 5) rfl rfl rfl) ?_
            | (refine Sep.St s (i := 0) rfl rfl rfl fun w s => ?_; simp only [List.set_cons_zero, List.set_cons_succ] at s)
            | (refine Sep.St s (i := 1) rfl rfl rfl fun w s => ?_; simp only [List.set_cons_zero, List.set_cons_succ] at s)
            | (refine Sep.St s (i := 2) rfl rfl rfl fun w s => ?_; simp only [List.set_cons_zero, List.set_cons_succ] at s)
            | (refine Sep.St s (i := 3) rfl rfl rfl fun w s => ?_; simp only [List.set_cons_zero, List.set_cons_succ] at s)
            | (refine Sep.St s (i := 4) rfl rfl rfl fun w s => ?_; simp only [List.set_cons_zero, List.set_cons_succ] at s)
            | (refine Sep.St s (i := 5) rfl rfl rfl fun w s => ?_; simp only [List.set_cons_zero, List.set_cons_succ] at s)
            | refine Sep.Bx s fun b w s => ?_
            | (refine Sep.Al s fun b w s => ?_; simp only [zc24] at s))
        exact hy _ _ _ (Sep.gain s0 s (i := 0) rfl) (sep_fr s)
end
end Go.Proofs.Ytbecldlnajlnnaa.S
