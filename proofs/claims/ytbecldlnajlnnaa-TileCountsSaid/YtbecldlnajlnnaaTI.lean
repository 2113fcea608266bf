/- Layer 2: TileSame answers true. -/
import Derived.Test.YtbecldlnajlnnaaTG
set_option linter.unusedVariables false
set_option linter.unusedSimpArgs false
namespace Go.Proofs.Ytbecldlnajlnnaa.S
open Go.Sx
attribute [local irreducible] LdI LdB LdStr LdP LdS LdM LdV St Bx Al App Cpy MkS MkM EqK RunK RunU CallK SlK blkA rowA joinA
theorem range_set' {cs : List Int} {i : Nat} {v : Int} (h : ∀ x ∈ cs, 0 ≤ x ∧ x < 256) (hv : 0 ≤ v ∧ v < 256) : ∀ x ∈ cs.set i v, 0 ≤ x ∧ x < 256 := fun x hx => by
  rcases List.mem_or_eq_of_mem_set hx with h1 | rfl
  · exact h x h1
  · exact hv
section
variable {W w : World} {L : List As} {Q : Bool → World → Prop} {tw th tw' th' : Int} {n n' : Nat} {ra rb : Option Addr} {rn rc rn' rc' px py pa : Nat} {xs ys cs : List Int}
theorem Same_b8 (hx : ∀ x ∈ xs, 0 ≤ x ∧ x < 256) (hy : ∀ x ∈ ys, 0 ≤ x ∧ x < 256) (hQ : ∀ w', Sep No W w' [] → Q true w')
    (s : Sep No W w [blkA px 24 (tl tw th ra rn rc), rowA ra rn rc 5 1 (flat by8 xs), blkA py 24 (tl tw' th' rb rn' rc'), rowA rb rn' rc' 5 1 (flat by8 ys)]) :
    herdsmanlaw2_TileSame.b8 Q ⟨px, 0, none⟩ ⟨py, 0, none⟩ w := by
  unfold herdsmanlaw2_TileSame.b8
  unfold tl at s
  refine herdsmanlaw2_told.spec (Sep.drew s) fun w s _ => ?_
  rw [cond_true]
  repeat' first
    | refine Sep.LdI s (i := 0) rfl rfl rfl ?_
    | refine Sep.LdS s (i := 0) rfl rfl rfl ?_
    | refine Sep.LdB s (i := 0) rfl rfl rfl ?_
    | refine Sep.LdP s (i := 0) rfl rfl rfl ?_
    | refine And.intro (Sep.cell s (i := 0) rfl rfl rfl) ?_
    | refine Sep.LdI s (i := 1) rfl rfl rfl ?_
    | refine Sep.LdS s (i := 1) rfl rfl rfl ?_
    | refine Sep.LdB s (i := 1) rfl rfl rfl ?_
    | refine Sep.LdP s (i := 1) rfl rfl rfl ?_
    | refine And.intro (Sep.cell s (i := 1) rfl rfl rfl) ?_
    | refine Sep.LdI s (i := 2) rfl rfl rfl ?_
    | refine Sep.LdS s (i := 2) rfl rfl rfl ?_
    | refine Sep.LdB s (i := 2) rfl rfl rfl ?_
    | refine Sep.LdP s (i := 2) rfl rfl rfl ?_
    | refine And.intro (Sep.cell s (i := 2) rfl rfl rfl) ?_
    | refine Sep.LdI s (i := 3) rfl rfl rfl ?_
    | refine Sep.LdS s (i := 3) rfl rfl rfl ?_
    | refine Sep.LdB s (i := 3) rfl rfl rfl ?_
    | refine Sep.LdP s (i := 3) rfl rfl rfl ?_
    | refine And.intro (Sep.cell s (i := 3) rfl rfl rfl) ?_
    | (replace s := Sep.drew s; first
      | refine Sep.LdI s (i := 0) rfl rfl rfl ?_
      | refine Sep.LdS s (i := 0) rfl rfl rfl ?_
      | refine Sep.LdB s (i := 0) rfl rfl rfl ?_
      | refine Sep.LdP s (i := 0) rfl rfl rfl ?_
      | refine And.intro (Sep.cell s (i := 0) rfl rfl rfl) ?_
      | refine Sep.LdI s (i := 1) rfl rfl rfl ?_
      | refine Sep.LdS s (i := 1) rfl rfl rfl ?_
      | refine Sep.LdB s (i := 1) rfl rfl rfl ?_
      | refine Sep.LdP s (i := 1) rfl rfl rfl ?_
      | refine And.intro (Sep.cell s (i := 1) rfl rfl rfl) ?_
      | refine Sep.LdI s (i := 2) rfl rfl rfl ?_
      | refine Sep.LdS s (i := 2) rfl rfl rfl ?_
      | refine Sep.LdB s (i := 2) rfl rfl rfl ?_
      | refine Sep.LdP s (i := 2) rfl rfl rfl ?_
      | refine And.intro (Sep.cell s (i := 2) rfl rfl rfl) ?_
      | refine Sep.LdI s (i := 3) rfl rfl rfl ?_
      | refine Sep.LdS s (i := 3) rfl rfl rfl ?_
      | refine Sep.LdB s (i := 3) rfl rfl rfl ?_
      | refine Sep.LdP s (i := 3) rfl rfl rfl ?_
      | refine And.intro (Sep.cell s (i := 3) rfl rfl rfl) ?_)
  refine tile_Same.spec s (Sep.argrow s (i := 1) rfl by8_len (by decide)) (Sep.argrow s (i := 3) rfl by8_len (by decide)) hx hy fun w s _ => ?_
  repeat' first
    | refine Sep.LdI s (i := 0) rfl rfl rfl ?_
    | refine Sep.LdS s (i := 0) rfl rfl rfl ?_
    | refine Sep.LdB s (i := 0) rfl rfl rfl ?_
    | refine Sep.LdP s (i := 0) rfl rfl rfl ?_
    | refine And.intro (Sep.cell s (i := 0) rfl rfl rfl) ?_
    | refine Sep.LdI s (i := 1) rfl rfl rfl ?_
    | refine Sep.LdS s (i := 1) rfl rfl rfl ?_
    | refine Sep.LdB s (i := 1) rfl rfl rfl ?_
    | refine Sep.LdP s (i := 1) rfl rfl rfl ?_
    | refine And.intro (Sep.cell s (i := 1) rfl rfl rfl) ?_
    | refine Sep.LdI s (i := 2) rfl rfl rfl ?_
    | refine Sep.LdS s (i := 2) rfl rfl rfl ?_
    | refine Sep.LdB s (i := 2) rfl rfl rfl ?_
    | refine Sep.LdP s (i := 2) rfl rfl rfl ?_
    | refine And.intro (Sep.cell s (i := 2) rfl rfl rfl) ?_
    | refine Sep.LdI s (i := 3) rfl rfl rfl ?_
    | refine Sep.LdS s (i := 3) rfl rfl rfl ?_
    | refine Sep.LdB s (i := 3) rfl rfl rfl ?_
    | refine Sep.LdP s (i := 3) rfl rfl rfl ?_
    | refine And.intro (Sep.cell s (i := 3) rfl rfl rfl) ?_
    | (replace s := Sep.drew s; first
      | refine Sep.LdI s (i := 0) rfl rfl rfl ?_
      | refine Sep.LdS s (i := 0) rfl rfl rfl ?_
      | refine Sep.LdB s (i := 0) rfl rfl rfl ?_
      | refine Sep.LdP s (i := 0) rfl rfl rfl ?_
      | refine And.intro (Sep.cell s (i := 0) rfl rfl rfl) ?_
      | refine Sep.LdI s (i := 1) rfl rfl rfl ?_
      | refine Sep.LdS s (i := 1) rfl rfl rfl ?_
      | refine Sep.LdB s (i := 1) rfl rfl rfl ?_
      | refine Sep.LdP s (i := 1) rfl rfl rfl ?_
      | refine And.intro (Sep.cell s (i := 1) rfl rfl rfl) ?_
      | refine Sep.LdI s (i := 2) rfl rfl rfl ?_
      | refine Sep.LdS s (i := 2) rfl rfl rfl ?_
      | refine Sep.LdB s (i := 2) rfl rfl rfl ?_
      | refine Sep.LdP s (i := 2) rfl rfl rfl ?_
      | refine And.intro (Sep.cell s (i := 2) rfl rfl rfl) ?_
      | refine Sep.LdI s (i := 3) rfl rfl rfl ?_
      | refine Sep.LdS s (i := 3) rfl rfl rfl ?_
      | refine Sep.LdB s (i := 3) rfl rfl rfl ?_
      | refine Sep.LdP s (i := 3) rfl rfl rfl ?_
      | refine And.intro (Sep.cell s (i := 3) rfl rfl rfl) ?_)
  refine ref_SameTile.spec s (Sep.argrow s (i := 1) rfl by8_len (by decide)) (Sep.argrow s (i := 3) rfl by8_len (by decide)) hx hy fun w s _ => ?_
  rw [beq_self_eq_true, cond_true]
  repeat' first
    | refine Sep.LdI s (i := 0) rfl rfl rfl ?_
    | refine Sep.LdS s (i := 0) rfl rfl rfl ?_
    | refine Sep.LdB s (i := 0) rfl rfl rfl ?_
    | refine Sep.LdP s (i := 0) rfl rfl rfl ?_
    | refine And.intro (Sep.cell s (i := 0) rfl rfl rfl) ?_
    | refine Sep.LdI s (i := 1) rfl rfl rfl ?_
    | refine Sep.LdS s (i := 1) rfl rfl rfl ?_
    | refine Sep.LdB s (i := 1) rfl rfl rfl ?_
    | refine Sep.LdP s (i := 1) rfl rfl rfl ?_
    | refine And.intro (Sep.cell s (i := 1) rfl rfl rfl) ?_
    | refine Sep.LdI s (i := 2) rfl rfl rfl ?_
    | refine Sep.LdS s (i := 2) rfl rfl rfl ?_
    | refine Sep.LdB s (i := 2) rfl rfl rfl ?_
    | refine Sep.LdP s (i := 2) rfl rfl rfl ?_
    | refine And.intro (Sep.cell s (i := 2) rfl rfl rfl) ?_
    | refine Sep.LdI s (i := 3) rfl rfl rfl ?_
    | refine Sep.LdS s (i := 3) rfl rfl rfl ?_
    | refine Sep.LdB s (i := 3) rfl rfl rfl ?_
    | refine Sep.LdP s (i := 3) rfl rfl rfl ?_
    | refine And.intro (Sep.cell s (i := 3) rfl rfl rfl) ?_
    | (replace s := Sep.drew s; first
      | refine Sep.LdI s (i := 0) rfl rfl rfl ?_
      | refine Sep.LdS s (i := 0) rfl rfl rfl ?_
      | refine Sep.LdB s (i := 0) rfl rfl rfl ?_
      | refine Sep.LdP s (i := 0) rfl rfl rfl ?_
      | refine And.intro (Sep.cell s (i := 0) rfl rfl rfl) ?_
      | refine Sep.LdI s (i := 1) rfl rfl rfl ?_
      | refine Sep.LdS s (i := 1) rfl rfl rfl ?_
      | refine Sep.LdB s (i := 1) rfl rfl rfl ?_
      | refine Sep.LdP s (i := 1) rfl rfl rfl ?_
      | refine And.intro (Sep.cell s (i := 1) rfl rfl rfl) ?_
      | refine Sep.LdI s (i := 2) rfl rfl rfl ?_
      | refine Sep.LdS s (i := 2) rfl rfl rfl ?_
      | refine Sep.LdB s (i := 2) rfl rfl rfl ?_
      | refine Sep.LdP s (i := 2) rfl rfl rfl ?_
      | refine And.intro (Sep.cell s (i := 2) rfl rfl rfl) ?_
      | refine Sep.LdI s (i := 3) rfl rfl rfl ?_
      | refine Sep.LdS s (i := 3) rfl rfl rfl ?_
      | refine Sep.LdB s (i := 3) rfl rfl rfl ?_
      | refine Sep.LdP s (i := 3) rfl rfl rfl ?_
      | refine And.intro (Sep.cell s (i := 3) rfl rfl rfl) ?_)
  refine tile_Same.spec s (Sep.argrow s (i := 3) rfl by8_len (by decide)) (Sep.argrow s (i := 1) rfl by8_len (by decide)) hy hx fun w s _ => ?_
  repeat' first
    | refine Sep.LdI s (i := 0) rfl rfl rfl ?_
    | refine Sep.LdS s (i := 0) rfl rfl rfl ?_
    | refine Sep.LdB s (i := 0) rfl rfl rfl ?_
    | refine Sep.LdP s (i := 0) rfl rfl rfl ?_
    | refine And.intro (Sep.cell s (i := 0) rfl rfl rfl) ?_
    | refine Sep.LdI s (i := 1) rfl rfl rfl ?_
    | refine Sep.LdS s (i := 1) rfl rfl rfl ?_
    | refine Sep.LdB s (i := 1) rfl rfl rfl ?_
    | refine Sep.LdP s (i := 1) rfl rfl rfl ?_
    | refine And.intro (Sep.cell s (i := 1) rfl rfl rfl) ?_
    | refine Sep.LdI s (i := 2) rfl rfl rfl ?_
    | refine Sep.LdS s (i := 2) rfl rfl rfl ?_
    | refine Sep.LdB s (i := 2) rfl rfl rfl ?_
    | refine Sep.LdP s (i := 2) rfl rfl rfl ?_
    | refine And.intro (Sep.cell s (i := 2) rfl rfl rfl) ?_
    | refine Sep.LdI s (i := 3) rfl rfl rfl ?_
    | refine Sep.LdS s (i := 3) rfl rfl rfl ?_
    | refine Sep.LdB s (i := 3) rfl rfl rfl ?_
    | refine Sep.LdP s (i := 3) rfl rfl rfl ?_
    | refine And.intro (Sep.cell s (i := 3) rfl rfl rfl) ?_
    | (replace s := Sep.drew s; first
      | refine Sep.LdI s (i := 0) rfl rfl rfl ?_
      | refine Sep.LdS s (i := 0) rfl rfl rfl ?_
      | refine Sep.LdB s (i := 0) rfl rfl rfl ?_
      | refine Sep.LdP s (i := 0) rfl rfl rfl ?_
      | refine And.intro (Sep.cell s (i := 0) rfl rfl rfl) ?_
      | refine Sep.LdI s (i := 1) rfl rfl rfl ?_
      | refine Sep.LdS s (i := 1) rfl rfl rfl ?_
      | refine Sep.LdB s (i := 1) rfl rfl rfl ?_
      | refine Sep.LdP s (i := 1) rfl rfl rfl ?_
      | refine And.intro (Sep.cell s (i := 1) rfl rfl rfl) ?_
      | refine Sep.LdI s (i := 2) rfl rfl rfl ?_
      | refine Sep.LdS s (i := 2) rfl rfl rfl ?_
      | refine Sep.LdB s (i := 2) rfl rfl rfl ?_
      | refine Sep.LdP s (i := 2) rfl rfl rfl ?_
      | refine And.intro (Sep.cell s (i := 2) rfl rfl rfl) ?_
      | refine Sep.LdI s (i := 3) rfl rfl rfl ?_
      | refine Sep.LdS s (i := 3) rfl rfl rfl ?_
      | refine Sep.LdB s (i := 3) rfl rfl rfl ?_
      | refine Sep.LdP s (i := 3) rfl rfl rfl ?_
      | refine And.intro (Sep.cell s (i := 3) rfl rfl rfl) ?_)
  refine tile_Same.spec s (Sep.argrow s (i := 1) rfl by8_len (by decide)) (Sep.argrow s (i := 3) rfl by8_len (by decide)) hx hy fun w s _ => ?_
  rw [sameB_comm, beq_self_eq_true, cond_true]
  repeat' first
    | refine Sep.LdI s (i := 0) rfl rfl rfl ?_
    | refine Sep.LdS s (i := 0) rfl rfl rfl ?_
    | refine Sep.LdB s (i := 0) rfl rfl rfl ?_
    | refine Sep.LdP s (i := 0) rfl rfl rfl ?_
    | refine And.intro (Sep.cell s (i := 0) rfl rfl rfl) ?_
    | refine Sep.LdI s (i := 1) rfl rfl rfl ?_
    | refine Sep.LdS s (i := 1) rfl rfl rfl ?_
    | refine Sep.LdB s (i := 1) rfl rfl rfl ?_
    | refine Sep.LdP s (i := 1) rfl rfl rfl ?_
    | refine And.intro (Sep.cell s (i := 1) rfl rfl rfl) ?_
    | refine Sep.LdI s (i := 2) rfl rfl rfl ?_
    | refine Sep.LdS s (i := 2) rfl rfl rfl ?_
    | refine Sep.LdB s (i := 2) rfl rfl rfl ?_
    | refine Sep.LdP s (i := 2) rfl rfl rfl ?_
    | refine And.intro (Sep.cell s (i := 2) rfl rfl rfl) ?_
    | refine Sep.LdI s (i := 3) rfl rfl rfl ?_
    | refine Sep.LdS s (i := 3) rfl rfl rfl ?_
    | refine Sep.LdB s (i := 3) rfl rfl rfl ?_
    | refine Sep.LdP s (i := 3) rfl rfl rfl ?_
    | refine And.intro (Sep.cell s (i := 3) rfl rfl rfl) ?_
    | (replace s := Sep.drew s; first
      | refine Sep.LdI s (i := 0) rfl rfl rfl ?_
      | refine Sep.LdS s (i := 0) rfl rfl rfl ?_
      | refine Sep.LdB s (i := 0) rfl rfl rfl ?_
      | refine Sep.LdP s (i := 0) rfl rfl rfl ?_
      | refine And.intro (Sep.cell s (i := 0) rfl rfl rfl) ?_
      | refine Sep.LdI s (i := 1) rfl rfl rfl ?_
      | refine Sep.LdS s (i := 1) rfl rfl rfl ?_
      | refine Sep.LdB s (i := 1) rfl rfl rfl ?_
      | refine Sep.LdP s (i := 1) rfl rfl rfl ?_
      | refine And.intro (Sep.cell s (i := 1) rfl rfl rfl) ?_
      | refine Sep.LdI s (i := 2) rfl rfl rfl ?_
      | refine Sep.LdS s (i := 2) rfl rfl rfl ?_
      | refine Sep.LdB s (i := 2) rfl rfl rfl ?_
      | refine Sep.LdP s (i := 2) rfl rfl rfl ?_
      | refine And.intro (Sep.cell s (i := 2) rfl rfl rfl) ?_
      | refine Sep.LdI s (i := 3) rfl rfl rfl ?_
      | refine Sep.LdS s (i := 3) rfl rfl rfl ?_
      | refine Sep.LdB s (i := 3) rfl rfl rfl ?_
      | refine Sep.LdP s (i := 3) rfl rfl rfl ?_
      | refine And.intro (Sep.cell s (i := 3) rfl rfl rfl) ?_)
  refine tile_Same.spec s (Sep.argrow s (i := 1) rfl by8_len (by decide)) (Sep.argrow s (i := 1) rfl by8_len (by decide)) hx hx fun w s _ => ?_
  rw [sameB_self]
  exact hQ _ (Sep.pick [] s rfl (by decide))
theorem Same_b4 {at0 by0 : Int} {one : Bool} {a : Option Addr} {c : Nat} (hn : n ≤ 600) (hA : ArgRow W a n 1 by8 cs) (hcs : ∀ x ∈ cs, 0 ≤ x ∧ x < 256) (hac : a = none → c = 0) (hy : ∀ x ∈ ys, 0 ≤ x ∧ x < 256) (hQ : ∀ w', Sep No W w' [] → Q true w')
    (s : Sep No W w [blkA px 24 (tl tw th ra n rc), rowA ra n rc 5 1 (flat by8 cs), blkA py 24 (tl tw' th' rb rn' rc'), rowA rb rn' rc' 5 1 (flat by8 ys), blkA pa 24 (tl tw th a n c)]) :
    herdsmanlaw2_TileSame.b4 Q at0 by0 one ⟨pa, 0, none⟩ ⟨px, 0, none⟩ ⟨py, 0, none⟩ w := by
  unfold herdsmanlaw2_TileSame.b4
  unfold tl at s
  have hl := hA.1
  cases one with
  | false =>
    rw [cond_false]
    exact Same_b8 hcs hy hQ (Sep.pick [0, 1, 2, 3] s rfl (by decide))
  | true =>
    rw [cond_true]
    repeat' first
      | refine Sep.LdI s (i := 0) rfl rfl rfl ?_
      | refine Sep.LdS s (i := 0) rfl rfl rfl ?_
      | refine Sep.LdB s (i := 0) rfl rfl rfl ?_
      | refine Sep.LdP s (i := 0) rfl rfl rfl ?_
      | refine And.intro (Sep.cell s (i := 0) rfl rfl rfl) ?_
      | refine Sep.LdI s (i := 1) rfl rfl rfl ?_
      | refine Sep.LdS s (i := 1) rfl rfl rfl ?_
      | refine Sep.LdB s (i := 1) rfl rfl rfl ?_
      | refine Sep.LdP s (i := 1) rfl rfl rfl ?_
      | refine And.intro (Sep.cell s (i := 1) rfl rfl rfl) ?_
      | refine Sep.LdI s (i := 2) rfl rfl rfl ?_
      | refine Sep.LdS s (i := 2) rfl rfl rfl ?_
      | refine Sep.LdB s (i := 2) rfl rfl rfl ?_
      | refine Sep.LdP s (i := 2) rfl rfl rfl ?_
      | refine And.intro (Sep.cell s (i := 2) rfl rfl rfl) ?_
      | refine Sep.LdI s (i := 3) rfl rfl rfl ?_
      | refine Sep.LdS s (i := 3) rfl rfl rfl ?_
      | refine Sep.LdB s (i := 3) rfl rfl rfl ?_
      | refine Sep.LdP s (i := 3) rfl rfl rfl ?_
      | refine And.intro (Sep.cell s (i := 3) rfl rfl rfl) ?_
      | refine Sep.LdI s (i := 4) rfl rfl rfl ?_
      | refine Sep.LdS s (i := 4) rfl rfl rfl ?_
      | refine Sep.LdB s (i := 4) rfl rfl rfl ?_
      | refine Sep.LdP s (i := 4) rfl rfl rfl ?_
      | refine And.intro (Sep.cell s (i := 4) rfl rfl rfl) ?_
      | (replace s := Sep.drew s; first
        | refine Sep.LdI s (i := 0) rfl rfl rfl ?_
        | refine Sep.LdS s (i := 0) rfl rfl rfl ?_
        | refine Sep.LdB s (i := 0) rfl rfl rfl ?_
        | refine Sep.LdP s (i := 0) rfl rfl rfl ?_
        | refine And.intro (Sep.cell s (i := 0) rfl rfl rfl) ?_
        | refine Sep.LdI s (i := 1) rfl rfl rfl ?_
        | refine Sep.LdS s (i := 1) rfl rfl rfl ?_
        | refine Sep.LdB s (i := 1) rfl rfl rfl ?_
        | refine Sep.LdP s (i := 1) rfl rfl rfl ?_
        | refine And.intro (Sep.cell s (i := 1) rfl rfl rfl) ?_
        | refine Sep.LdI s (i := 2) rfl rfl rfl ?_
        | refine Sep.LdS s (i := 2) rfl rfl rfl ?_
        | refine Sep.LdB s (i := 2) rfl rfl rfl ?_
        | refine Sep.LdP s (i := 2) rfl rfl rfl ?_
        | refine And.intro (Sep.cell s (i := 2) rfl rfl rfl) ?_
        | refine Sep.LdI s (i := 3) rfl rfl rfl ?_
        | refine Sep.LdS s (i := 3) rfl rfl rfl ?_
        | refine Sep.LdB s (i := 3) rfl rfl rfl ?_
        | refine Sep.LdP s (i := 3) rfl rfl rfl ?_
        | refine And.intro (Sep.cell s (i := 3) rfl rfl rfl) ?_
        | refine Sep.LdI s (i := 4) rfl rfl rfl ?_
        | refine Sep.LdS s (i := 4) rfl rfl rfl ?_
        | refine Sep.LdB s (i := 4) rfl rfl rfl ?_
        | refine Sep.LdP s (i := 4) rfl rfl rfl ?_
        | refine And.intro (Sep.cell s (i := 4) rfl rfl rfl) ?_)
    refine ref_OwnTile.spec s (hA.fr (sep_fr s)) (by omega) hac fun wa wc w s _ => ?_
    repeat' first
      | refine Sep.LdI s (i := 0) rfl rfl rfl ?_
      | refine Sep.LdS s (i := 0) rfl rfl rfl ?_
      | refine Sep.LdB s (i := 0) rfl rfl rfl ?_
      | refine Sep.LdP s (i := 0) rfl rfl rfl ?_
      | refine And.intro (Sep.cell s (i := 0) rfl rfl rfl) ?_
      | refine Sep.LdI s (i := 1) rfl rfl rfl ?_
      | refine Sep.LdS s (i := 1) rfl rfl rfl ?_
      | refine Sep.LdB s (i := 1) rfl rfl rfl ?_
      | refine Sep.LdP s (i := 1) rfl rfl rfl ?_
      | refine And.intro (Sep.cell s (i := 1) rfl rfl rfl) ?_
      | refine Sep.LdI s (i := 2) rfl rfl rfl ?_
      | refine Sep.LdS s (i := 2) rfl rfl rfl ?_
      | refine Sep.LdB s (i := 2) rfl rfl rfl ?_
      | refine Sep.LdP s (i := 2) rfl rfl rfl ?_
      | refine And.intro (Sep.cell s (i := 2) rfl rfl rfl) ?_
      | refine Sep.LdI s (i := 3) rfl rfl rfl ?_
      | refine Sep.LdS s (i := 3) rfl rfl rfl ?_
      | refine Sep.LdB s (i := 3) rfl rfl rfl ?_
      | refine Sep.LdP s (i := 3) rfl rfl rfl ?_
      | refine And.intro (Sep.cell s (i := 3) rfl rfl rfl) ?_
      | refine Sep.LdI s (i := 4) rfl rfl rfl ?_
      | refine Sep.LdS s (i := 4) rfl rfl rfl ?_
      | refine Sep.LdB s (i := 4) rfl rfl rfl ?_
      | refine Sep.LdP s (i := 4) rfl rfl rfl ?_
      | refine And.intro (Sep.cell s (i := 4) rfl rfl rfl) ?_
      | (refine Sep.St s (i := 0) rfl rfl rfl fun w s => ?_; simp only [List.set_cons_zero, List.set_cons_succ] at s)
      | (refine Sep.St s (i := 1) rfl rfl rfl fun w s => ?_; simp only [List.set_cons_zero, List.set_cons_succ] at s)
      | (refine Sep.St s (i := 2) rfl rfl rfl fun w s => ?_; simp only [List.set_cons_zero, List.set_cons_succ] at s)
      | (refine Sep.St s (i := 3) rfl rfl rfl fun w s => ?_; simp only [List.set_cons_zero, List.set_cons_succ] at s)
      | (refine Sep.St s (i := 4) rfl rfl rfl fun w s => ?_; simp only [List.set_cons_zero, List.set_cons_succ] at s)
      | refine Sep.Bx s fun b w s => ?_
      | (refine Sep.Al s fun b w s => ?_; simp only [zc24] at s)
      | (replace s := Sep.drew s; first
        | refine Sep.LdI s (i := 0) rfl rfl rfl ?_
        | refine Sep.LdS s (i := 0) rfl rfl rfl ?_
        | refine Sep.LdB s (i := 0) rfl rfl rfl ?_
        | refine Sep.LdP s (i := 0) rfl rfl rfl ?_
        | refine And.intro (Sep.cell s (i := 0) rfl rfl rfl) ?_
        | refine Sep.LdI s (i := 1) rfl rfl rfl ?_
        | refine Sep.LdS s (i := 1) rfl rfl rfl ?_
        | refine Sep.LdB s (i := 1) rfl rfl rfl ?_
        | refine Sep.LdP s (i := 1) rfl rfl rfl ?_
        | refine And.intro (Sep.cell s (i := 1) rfl rfl rfl) ?_
        | refine Sep.LdI s (i := 2) rfl rfl rfl ?_
        | refine Sep.LdS s (i := 2) rfl rfl rfl ?_
        | refine Sep.LdB s (i := 2) rfl rfl rfl ?_
        | refine Sep.LdP s (i := 2) rfl rfl rfl ?_
        | refine And.intro (Sep.cell s (i := 2) rfl rfl rfl) ?_
        | refine Sep.LdI s (i := 3) rfl rfl rfl ?_
        | refine Sep.LdS s (i := 3) rfl rfl rfl ?_
        | refine Sep.LdB s (i := 3) rfl rfl rfl ?_
        | refine Sep.LdP s (i := 3) rfl rfl rfl ?_
        | refine And.intro (Sep.cell s (i := 3) rfl rfl rfl) ?_
        | refine Sep.LdI s (i := 4) rfl rfl rfl ?_
        | refine Sep.LdS s (i := 4) rfl rfl rfl ?_
        | refine Sep.LdB s (i := 4) rfl rfl rfl ?_
        | refine Sep.LdP s (i := 4) rfl rfl rfl ?_
        | refine And.intro (Sep.cell s (i := 4) rfl rfl rfl) ?_
        | (refine Sep.St s (i := 0) rfl rfl rfl fun w s => ?_; simp only [List.set_cons_zero, List.set_cons_succ] at s)
        | (refine Sep.St s (i := 1) rfl rfl rfl fun w s => ?_; simp only [List.set_cons_zero, List.set_cons_succ] at s)
        | (refine Sep.St s (i := 2) rfl rfl rfl fun w s => ?_; simp only [List.set_cons_zero, List.set_cons_succ] at s)
        | (refine Sep.St s (i := 3) rfl rfl rfl fun w s => ?_; simp only [List.set_cons_zero, List.set_cons_succ] at s)
        | (refine Sep.St s (i := 4) rfl rfl rfl fun w s => ?_; simp only [List.set_cons_zero, List.set_cons_succ] at s)
        | refine Sep.Bx s fun b w s => ?_
        | (refine Sep.Al s fun b w s => ?_; simp only [zc24] at s))
    by_cases h0 : (n : Int) > 0
    · rw [decide_eq_true h0, cond_true]
      repeat' first
        | refine Sep.LdI s (i := 0) rfl rfl rfl ?_
        | refine Sep.LdS s (i := 0) rfl rfl rfl ?_
        | refine Sep.LdB s (i := 0) rfl rfl rfl ?_
        | refine Sep.LdP s (i := 0) rfl rfl rfl ?_
        | refine And.intro (Sep.cell s (i := 0) rfl rfl rfl) ?_
        | refine Sep.LdI s (i := 1) rfl rfl rfl ?_
        | refine Sep.LdS s (i := 1) rfl rfl rfl ?_
        | refine Sep.LdB s (i := 1) rfl rfl rfl ?_
        | refine Sep.LdP s (i := 1) rfl rfl rfl ?_
        | refine And.intro (Sep.cell s (i := 1) rfl rfl rfl) ?_
        | refine Sep.LdI s (i := 2) rfl rfl rfl ?_
        | refine Sep.LdS s (i := 2) rfl rfl rfl ?_
        | refine Sep.LdB s (i := 2) rfl rfl rfl ?_
        | refine Sep.LdP s (i := 2) rfl rfl rfl ?_
        | refine And.intro (Sep.cell s (i := 2) rfl rfl rfl) ?_
        | refine Sep.LdI s (i := 3) rfl rfl rfl ?_
        | refine Sep.LdS s (i := 3) rfl rfl rfl ?_
        | refine Sep.LdB s (i := 3) rfl rfl rfl ?_
        | refine Sep.LdP s (i := 3) rfl rfl rfl ?_
        | refine And.intro (Sep.cell s (i := 3) rfl rfl rfl) ?_
        | refine Sep.LdI s (i := 4) rfl rfl rfl ?_
        | refine Sep.LdS s (i := 4) rfl rfl rfl ?_
        | refine Sep.LdB s (i := 4) rfl rfl rfl ?_
        | refine Sep.LdP s (i := 4) rfl rfl rfl ?_
        | refine And.intro (Sep.cell s (i := 4) rfl rfl rfl) ?_
        | (replace s := Sep.drew s; first
          | refine Sep.LdI s (i := 0) rfl rfl rfl ?_
          | refine Sep.LdS s (i := 0) rfl rfl rfl ?_
          | refine Sep.LdB s (i := 0) rfl rfl rfl ?_
          | refine Sep.LdP s (i := 0) rfl rfl rfl ?_
          | refine And.intro (Sep.cell s (i := 0) rfl rfl rfl) ?_
          | refine Sep.LdI s (i := 1) rfl rfl rfl ?_
          | refine Sep.LdS s (i := 1) rfl rfl rfl ?_
          | refine Sep.LdB s (i := 1) rfl rfl rfl ?_
          | refine Sep.LdP s (i := 1) rfl rfl rfl ?_
          | refine And.intro (Sep.cell s (i := 1) rfl rfl rfl) ?_
          | refine Sep.LdI s (i := 2) rfl rfl rfl ?_
          | refine Sep.LdS s (i := 2) rfl rfl rfl ?_
          | refine Sep.LdB s (i := 2) rfl rfl rfl ?_
          | refine Sep.LdP s (i := 2) rfl rfl rfl ?_
          | refine And.intro (Sep.cell s (i := 2) rfl rfl rfl) ?_
          | refine Sep.LdI s (i := 3) rfl rfl rfl ?_
          | refine Sep.LdS s (i := 3) rfl rfl rfl ?_
          | refine Sep.LdB s (i := 3) rfl rfl rfl ?_
          | refine Sep.LdP s (i := 3) rfl rfl rfl ?_
          | refine And.intro (Sep.cell s (i := 3) rfl rfl rfl) ?_
          | refine Sep.LdI s (i := 4) rfl rfl rfl ?_
          | refine Sep.LdS s (i := 4) rfl rfl rfl ?_
          | refine Sep.LdB s (i := 4) rfl rfl rfl ?_
          | refine Sep.LdP s (i := 4) rfl rfl rfl ?_
          | refine And.intro (Sep.cell s (i := 4) rfl rfl rfl) ?_)
      rw [wrap_i64 (by omega) (by omega)]
      refine herdsmanref1_Within.spec (by omega) (by decide) (by omega) ?_
      have r1 := within_range (n := at0) (lo := 0) (hi := (n : Int) - 1) (by omega)
      generalize (0 + at0 % ((n : Int) - 1 - 0 + 1)) = i at r1
      obtain ⟨i, rfl⟩ : ∃ k : Nat, i = k := ⟨i.toNat, by omega⟩
      repeat' first
        | refine Sep.LdI s (i := 0) rfl rfl rfl ?_
        | refine Sep.LdS s (i := 0) rfl rfl rfl ?_
        | refine Sep.LdB s (i := 0) rfl rfl rfl ?_
        | refine Sep.LdP s (i := 0) rfl rfl rfl ?_
        | refine And.intro (Sep.cell s (i := 0) rfl rfl rfl) ?_
        | refine Sep.LdI s (i := 1) rfl rfl rfl ?_
        | refine Sep.LdS s (i := 1) rfl rfl rfl ?_
        | refine Sep.LdB s (i := 1) rfl rfl rfl ?_
        | refine Sep.LdP s (i := 1) rfl rfl rfl ?_
        | refine And.intro (Sep.cell s (i := 1) rfl rfl rfl) ?_
        | refine Sep.LdI s (i := 2) rfl rfl rfl ?_
        | refine Sep.LdS s (i := 2) rfl rfl rfl ?_
        | refine Sep.LdB s (i := 2) rfl rfl rfl ?_
        | refine Sep.LdP s (i := 2) rfl rfl rfl ?_
        | refine And.intro (Sep.cell s (i := 2) rfl rfl rfl) ?_
        | refine Sep.LdI s (i := 3) rfl rfl rfl ?_
        | refine Sep.LdS s (i := 3) rfl rfl rfl ?_
        | refine Sep.LdB s (i := 3) rfl rfl rfl ?_
        | refine Sep.LdP s (i := 3) rfl rfl rfl ?_
        | refine And.intro (Sep.cell s (i := 3) rfl rfl rfl) ?_
        | refine Sep.LdI s (i := 4) rfl rfl rfl ?_
        | refine Sep.LdS s (i := 4) rfl rfl rfl ?_
        | refine Sep.LdB s (i := 4) rfl rfl rfl ?_
        | refine Sep.LdP s (i := 4) rfl rfl rfl ?_
        | refine And.intro (Sep.cell s (i := 4) rfl rfl rfl) ?_
        | (replace s := Sep.drew s; first
          | refine Sep.LdI s (i := 0) rfl rfl rfl ?_
          | refine Sep.LdS s (i := 0) rfl rfl rfl ?_
          | refine Sep.LdB s (i := 0) rfl rfl rfl ?_
          | refine Sep.LdP s (i := 0) rfl rfl rfl ?_
          | refine And.intro (Sep.cell s (i := 0) rfl rfl rfl) ?_
          | refine Sep.LdI s (i := 1) rfl rfl rfl ?_
          | refine Sep.LdS s (i := 1) rfl rfl rfl ?_
          | refine Sep.LdB s (i := 1) rfl rfl rfl ?_
          | refine Sep.LdP s (i := 1) rfl rfl rfl ?_
          | refine And.intro (Sep.cell s (i := 1) rfl rfl rfl) ?_
          | refine Sep.LdI s (i := 2) rfl rfl rfl ?_
          | refine Sep.LdS s (i := 2) rfl rfl rfl ?_
          | refine Sep.LdB s (i := 2) rfl rfl rfl ?_
          | refine Sep.LdP s (i := 2) rfl rfl rfl ?_
          | refine And.intro (Sep.cell s (i := 2) rfl rfl rfl) ?_
          | refine Sep.LdI s (i := 3) rfl rfl rfl ?_
          | refine Sep.LdS s (i := 3) rfl rfl rfl ?_
          | refine Sep.LdB s (i := 3) rfl rfl rfl ?_
          | refine Sep.LdP s (i := 3) rfl rfl rfl ?_
          | refine And.intro (Sep.cell s (i := 3) rfl rfl rfl) ?_
          | refine Sep.LdI s (i := 4) rfl rfl rfl ?_
          | refine Sep.LdS s (i := 4) rfl rfl rfl ?_
          | refine Sep.LdB s (i := 4) rfl rfl rfl ?_
          | refine Sep.LdP s (i := 4) rfl rfl rfl ?_
          | refine And.intro (Sep.cell s (i := 4) rfl rfl rfl) ?_)
      refine Sep.El (Sep.drew s) (i := 0) (k := i) rfl rfl (by omega) fun g o e => ?_
      subst e
      have s := Sep.drew s
      have hi := gi_get (l := cs) (i := i) (by omega)
      refine Sep.LdI_el (i := 0) (j := 0) by8_len s rfl hi (by rw [add_flat]; congr 1) rfl ?_
      refine ⟨by omega, by omega, wA_some ?_⟩
      refine Sep.St_el (i := 0) (j := 0) (x' := ixor .u8 (gi cs i) by0) by8_len s rfl hi (by rw [add_flat]; congr 1) (by decide) rfl rfl fun w s => ?_
      simp only [List.set_cons_zero] at s
      have hv := wf_u8 (bits_wf .u8 ((BitVec.ofInt (IntKind.u8).bits (gi cs i) ^^^ BitVec.ofInt (IntKind.u8).bits by0).toNat : Int))
      exact Same_b8 hcs (range_set' hcs hv) hQ (Sep.pick [1, 2, 3, 0] s rfl (by decide))
    · rw [decide_eq_false h0, cond_false]
      exact Same_b8 hcs hcs hQ (Sep.pick [1, 2, 3, 0] s rfl (by decide))
set_option maxHeartbeats 4000000 in
theorem herdsmanlaw2_TileSame.spec {a b : Option Addr} {n c m d : Nat} {cs ds : List Int} {at0 by0 : Int} {one : Bool} (hA : ArgRow W a n 1 by8 cs) (hcs : ∀ x ∈ cs, 0 ≤ x ∧ x < 256) (hac : a = none → c = 0)
    (hB : ArgRow W b m 1 by8 ds) (hds : ∀ x ∈ ds, 0 ≤ x ∧ x < 256) (hbd : b = none → d = 0) (hQ : ∀ w', Sep No W w' [] → Q true w') :
    herdsmanlaw2_TileSame.call tw th a n c tw' th' b m d at0 by0 one W Q := by
  refine herdsmanlaw2_TileSame.body _ _ _ _ _ _ _ _ _ _ _ _ _ _ _ ?_
  unfold herdsmanlaw2_TileSame.sh
  have s := Sep.nil (F := No) (w := W)
  repeat' first
    | refine Sep.LdI s (i := 0) rfl rfl rfl ?_
    | refine Sep.LdS s (i := 0) rfl rfl rfl ?_
    | refine Sep.LdB s (i := 0) rfl rfl rfl ?_
    | refine Sep.LdP s (i := 0) rfl rfl rfl ?_
    | refine And.intro (Sep.cell s (i := 0) rfl rfl rfl) ?_
    | refine Sep.LdI s (i := 1) rfl rfl rfl ?_
    | refine Sep.LdS s (i := 1) rfl rfl rfl ?_
    | refine Sep.LdB s (i := 1) rfl rfl rfl ?_
    | refine Sep.LdP s (i := 1) rfl rfl rfl ?_
    | refine And.intro (Sep.cell s (i := 1) rfl rfl rfl) ?_
    | (refine Sep.St s (i := 0) rfl rfl rfl fun w s => ?_; simp only [List.set_cons_zero, List.set_cons_succ] at s)
    | (refine Sep.St s (i := 1) rfl rfl rfl fun w s => ?_; simp only [List.set_cons_zero, List.set_cons_succ] at s)
    | refine Sep.Bx s fun b w s => ?_
    | (refine Sep.Al s fun b w s => ?_; simp only [zc24] at s)
    | (replace s := Sep.drew s; first
      | refine Sep.LdI s (i := 0) rfl rfl rfl ?_
      | refine Sep.LdS s (i := 0) rfl rfl rfl ?_
      | refine Sep.LdB s (i := 0) rfl rfl rfl ?_
      | refine Sep.LdP s (i := 0) rfl rfl rfl ?_
      | refine And.intro (Sep.cell s (i := 0) rfl rfl rfl) ?_
      | refine Sep.LdI s (i := 1) rfl rfl rfl ?_
      | refine Sep.LdS s (i := 1) rfl rfl rfl ?_
      | refine Sep.LdB s (i := 1) rfl rfl rfl ?_
      | refine Sep.LdP s (i := 1) rfl rfl rfl ?_
      | refine And.intro (Sep.cell s (i := 1) rfl rfl rfl) ?_
      | (refine Sep.St s (i := 0) rfl rfl rfl fun w s => ?_; simp only [List.set_cons_zero, List.set_cons_succ] at s)
      | (refine Sep.St s (i := 1) rfl rfl rfl fun w s => ?_; simp only [List.set_cons_zero, List.set_cons_succ] at s)
      | refine Sep.Bx s fun b w s => ?_
      | (refine Sep.Al s fun b w s => ?_; simp only [zc24] at s))
  by_cases hn : (n : Int) > 600
  · rw [decide_eq_true hn, cond_true]
    exact herdsmanlaw2_told.spec s fun w2 s2 _ => hQ w2 (Sep.pick [] s2 rfl (by decide))
  · rw [decide_eq_false hn, cond_false]
    repeat' first
      | refine Sep.LdI s (i := 0) rfl rfl rfl ?_
      | refine Sep.LdS s (i := 0) rfl rfl rfl ?_
      | refine Sep.LdB s (i := 0) rfl rfl rfl ?_
      | refine Sep.LdP s (i := 0) rfl rfl rfl ?_
      | refine And.intro (Sep.cell s (i := 0) rfl rfl rfl) ?_
      | refine Sep.LdI s (i := 1) rfl rfl rfl ?_
      | refine Sep.LdS s (i := 1) rfl rfl rfl ?_
      | refine Sep.LdB s (i := 1) rfl rfl rfl ?_
      | refine Sep.LdP s (i := 1) rfl rfl rfl ?_
      | refine And.intro (Sep.cell s (i := 1) rfl rfl rfl) ?_
      | (replace s := Sep.drew s; first
        | refine Sep.LdI s (i := 0) rfl rfl rfl ?_
        | refine Sep.LdS s (i := 0) rfl rfl rfl ?_
        | refine Sep.LdB s (i := 0) rfl rfl rfl ?_
        | refine Sep.LdP s (i := 0) rfl rfl rfl ?_
        | refine And.intro (Sep.cell s (i := 0) rfl rfl rfl) ?_
        | refine Sep.LdI s (i := 1) rfl rfl rfl ?_
        | refine Sep.LdS s (i := 1) rfl rfl rfl ?_
        | refine Sep.LdB s (i := 1) rfl rfl rfl ?_
        | refine Sep.LdP s (i := 1) rfl rfl rfl ?_
        | refine And.intro (Sep.cell s (i := 1) rfl rfl rfl) ?_)
    by_cases hm : (m : Int) > 600
    · rw [decide_eq_true hm, cond_true]
      exact herdsmanlaw2_told.spec s fun w2 s2 _ => hQ w2 (Sep.pick [] s2 rfl (by decide))
    · rw [decide_eq_false hm, cond_false]
      have k1 : n ≤ 600 := by omega
      have k2 : m ≤ 600 := by omega
      have k1' : n ≤ 100000 := by omega
      have k2' : m ≤ 100000 := by omega
      repeat' first
        | refine Sep.LdI s (i := 0) rfl rfl rfl ?_
        | refine Sep.LdS s (i := 0) rfl rfl rfl ?_
        | refine Sep.LdB s (i := 0) rfl rfl rfl ?_
        | refine Sep.LdP s (i := 0) rfl rfl rfl ?_
        | refine And.intro (Sep.cell s (i := 0) rfl rfl rfl) ?_
        | refine Sep.LdI s (i := 1) rfl rfl rfl ?_
        | refine Sep.LdS s (i := 1) rfl rfl rfl ?_
        | refine Sep.LdB s (i := 1) rfl rfl rfl ?_
        | refine Sep.LdP s (i := 1) rfl rfl rfl ?_
        | refine And.intro (Sep.cell s (i := 1) rfl rfl rfl) ?_
        | refine Sep.LdI s (i := 2) rfl rfl rfl ?_
        | refine Sep.LdS s (i := 2) rfl rfl rfl ?_
        | refine Sep.LdB s (i := 2) rfl rfl rfl ?_
        | refine Sep.LdP s (i := 2) rfl rfl rfl ?_
        | refine And.intro (Sep.cell s (i := 2) rfl rfl rfl) ?_
        | refine Sep.LdI s (i := 3) rfl rfl rfl ?_
        | refine Sep.LdS s (i := 3) rfl rfl rfl ?_
        | refine Sep.LdB s (i := 3) rfl rfl rfl ?_
        | refine Sep.LdP s (i := 3) rfl rfl rfl ?_
        | refine And.intro (Sep.cell s (i := 3) rfl rfl rfl) ?_
        | refine Sep.LdI s (i := 4) rfl rfl rfl ?_
        | refine Sep.LdS s (i := 4) rfl rfl rfl ?_
        | refine Sep.LdB s (i := 4) rfl rfl rfl ?_
        | refine Sep.LdP s (i := 4) rfl rfl rfl ?_
        | refine And.intro (Sep.cell s (i := 4) rfl rfl rfl) ?_
        | refine Sep.LdI s (i := 5) rfl rfl rfl ?_
        | refine Sep.LdS s (i := 5) rfl rfl rfl ?_
        | refine Sep.LdB s (i := 5) rfl rfl rfl ?_
        | refine Sep.LdP s (i := 5) rfl rfl rfl ?_
        | refine And.intro (Sep.cell s (i := 5) rfl rfl rfl) ?_
        | refine Sep.LdI s (i := 6) rfl rfl rfl ?_
        | refine Sep.LdS s (i := 6) rfl rfl rfl ?_
        | refine Sep.LdB s (i := 6) rfl rfl rfl ?_
        | refine Sep.LdP s (i := 6) rfl rfl rfl ?_
        | refine And.intro (Sep.cell s (i := 6) rfl rfl rfl) ?_
        | refine Sep.LdI s (i := 7) rfl rfl rfl ?_
        | refine Sep.LdS s (i := 7) rfl rfl rfl ?_
        | refine Sep.LdB s (i := 7) rfl rfl rfl ?_
        | refine Sep.LdP s (i := 7) rfl rfl rfl ?_
        | refine And.intro (Sep.cell s (i := 7) rfl rfl rfl) ?_
        | (refine Sep.St s (i := 0) rfl rfl rfl fun w s => ?_; simp only [List.set_cons_zero, List.set_cons_succ] at s)
        | (refine Sep.St s (i := 1) rfl rfl rfl fun w s => ?_; simp only [List.set_cons_zero, List.set_cons_succ] at s)
        | (refine Sep.St s (i := 2) rfl rfl rfl fun w s => ?_; simp only [List.set_cons_zero, List.set_cons_succ] at s)
        | (refine Sep.St s (i := 3) rfl rfl rfl fun w s => ?_; simp only [List.set_cons_zero, List.set_cons_succ] at s)
        | (refine Sep.St s (i := 4) rfl rfl rfl fun w s => ?_; simp only [List.set_cons_zero, List.set_cons_succ] at s)
        | (refine Sep.St s (i := 5) rfl rfl rfl fun w s => ?_; simp only [List.set_cons_zero, List.set_cons_succ] at s)
        | (refine Sep.St s (i := 6) rfl rfl rfl fun w s => ?_; simp only [List.set_cons_zero, List.set_cons_succ] at s)
        | (refine Sep.St s (i := 7) rfl rfl rfl fun w s => ?_; simp only [List.set_cons_zero, List.set_cons_succ] at s)
        | refine Sep.Bx s fun b w s => ?_
        | (refine Sep.Al s fun b w s => ?_; simp only [zc24] at s)
        | exact Same_b4 k1 hA hcs hac hds hQ (Sep.pick [0, 1, 2, 3, 5] s rfl (by decide))
        | exact Same_b4 k1 hA hcs hac hds hQ (Sep.pick [0, 1, 3, 2, 5] s rfl (by decide))
        | exact Same_b4 k1 hA hcs hac hds hQ (Sep.pick [0, 2, 1, 3, 5] s rfl (by decide))
        | exact Same_b4 k1 hA hcs hac hds hQ (Sep.pick [0, 2, 3, 1, 5] s rfl (by decide))
        | exact Same_b4 k1 hA hcs hac hds hQ (Sep.pick [0, 3, 1, 2, 5] s rfl (by decide))
        | exact Same_b4 k1 hA hcs hac hds hQ (Sep.pick [0, 3, 2, 1, 5] s rfl (by decide))
        | exact Same_b4 k1 hA hcs hac hds hQ (Sep.pick [1, 0, 2, 3, 5] s rfl (by decide))
        | exact Same_b4 k1 hA hcs hac hds hQ (Sep.pick [1, 0, 3, 2, 5] s rfl (by decide))
        | exact Same_b4 k1 hA hcs hac hds hQ (Sep.pick [1, 2, 0, 3, 5] s rfl (by decide))
        | exact Same_b4 k1 hA hcs hac hds hQ (Sep.pick [1, 2, 3, 0, 5] s rfl (by decide))
        | exact Same_b4 k1 hA hcs hac hds hQ (Sep.pick [1, 3, 0, 2, 5] s rfl (by decide))
        | exact Same_b4 k1 hA hcs hac hds hQ (Sep.pick [1, 3, 2, 0, 5] s rfl (by decide))
        | exact Same_b4 k1 hA hcs hac hds hQ (Sep.pick [2, 0, 1, 3, 5] s rfl (by decide))
        | exact Same_b4 k1 hA hcs hac hds hQ (Sep.pick [2, 0, 3, 1, 5] s rfl (by decide))
        | exact Same_b4 k1 hA hcs hac hds hQ (Sep.pick [2, 1, 0, 3, 5] s rfl (by decide))
        | exact Same_b4 k1 hA hcs hac hds hQ (Sep.pick [2, 1, 3, 0, 5] s rfl (by decide))
        | exact Same_b4 k1 hA hcs hac hds hQ (Sep.pick [2, 3, 0, 1, 5] s rfl (by decide))
        | exact Same_b4 k1 hA hcs hac hds hQ (Sep.pick [2, 3, 1, 0, 5] s rfl (by decide))
        | exact Same_b4 k1 hA hcs hac hds hQ (Sep.pick [3, 0, 1, 2, 5] s rfl (by decide))
        | exact Same_b4 k1 hA hcs hac hds hQ (Sep.pick [3, 0, 2, 1, 5] s rfl (by decide))
        | exact Same_b4 k1 hA hcs hac hds hQ (Sep.pick [3, 1, 0, 2, 5] s rfl (by decide))
        | exact Same_b4 k1 hA hcs hac hds hQ (Sep.pick [3, 1, 2, 0, 5] s rfl (by decide))
        | exact Same_b4 k1 hA hcs hac hds hQ (Sep.pick [3, 2, 0, 1, 5] s rfl (by decide))
        | exact Same_b4 k1 hA hcs hac hds hQ (Sep.pick [3, 2, 1, 0, 5] s rfl (by decide))
        | refine ref_OwnTile.spec s (hA.fr (sep_fr s)) k1' hac fun ra rc w s _ => ?_
        | refine ref_OwnTile.spec s (hB.fr (sep_fr s)) k2' hbd fun rb rc' w s _ => ?_
        | refine And.intro ?_ ?_
        | (replace s := Sep.drew s; first
          | refine Sep.LdI s (i := 0) rfl rfl rfl ?_
          | refine Sep.LdS s (i := 0) rfl rfl rfl ?_
          | refine Sep.LdB s (i := 0) rfl rfl rfl ?_
          | refine Sep.LdP s (i := 0) rfl rfl rfl ?_
          | refine And.intro (Sep.cell s (i := 0) rfl rfl rfl) ?_
          | refine Sep.LdI s (i := 1) rfl rfl rfl ?_
          | refine Sep.LdS s (i := 1) rfl rfl rfl ?_
          | refine Sep.LdB s (i := 1) rfl rfl rfl ?_
          | refine Sep.LdP s (i := 1) rfl rfl rfl ?_
          | refine And.intro (Sep.cell s (i := 1) rfl rfl rfl) ?_
          | refine Sep.LdI s (i := 2) rfl rfl rfl ?_
          | refine Sep.LdS s (i := 2) rfl rfl rfl ?_
          | refine Sep.LdB s (i := 2) rfl rfl rfl ?_
          | refine Sep.LdP s (i := 2) rfl rfl rfl ?_
          | refine And.intro (Sep.cell s (i := 2) rfl rfl rfl) ?_
          | refine Sep.LdI s (i := 3) rfl rfl rfl ?_
          | refine Sep.LdS s (i := 3) rfl rfl rfl ?_
          | refine Sep.LdB s (i := 3) rfl rfl rfl ?_
          | refine Sep.LdP s (i := 3) rfl rfl rfl ?_
          | refine And.intro (Sep.cell s (i := 3) rfl rfl rfl) ?_
          | refine Sep.LdI s (i := 4) rfl rfl rfl ?_
          | refine Sep.LdS s (i := 4) rfl rfl rfl ?_
          | refine Sep.LdB s (i := 4) rfl rfl rfl ?_
          | refine Sep.LdP s (i := 4) rfl rfl rfl ?_
          | refine And.intro (Sep.cell s (i := 4) rfl rfl rfl) ?_
          | refine Sep.LdI s (i := 5) rfl rfl rfl ?_
          | refine Sep.LdS s (i := 5) rfl rfl rfl ?_
          | refine Sep.LdB s (i := 5) rfl rfl rfl ?_
          | refine Sep.LdP s (i := 5) rfl rfl rfl ?_
          | refine And.intro (Sep.cell s (i := 5) rfl rfl rfl) ?_
          | refine Sep.LdI s (i := 6) rfl rfl rfl ?_
          | refine Sep.LdS s (i := 6) rfl rfl rfl ?_
          | refine Sep.LdB s (i := 6) rfl rfl rfl ?_
          | refine Sep.LdP s (i := 6) rfl rfl rfl ?_
          | refine And.intro (Sep.cell s (i := 6) rfl rfl rfl) ?_
          | refine Sep.LdI s (i := 7) rfl rfl rfl ?_
          | refine Sep.LdS s (i := 7) rfl rfl rfl ?_
          | refine Sep.LdB s (i := 7) rfl rfl rfl ?_
          | refine Sep.LdP s (i := 7) rfl rfl rfl ?_
          | refine And.intro (Sep.cell s (i := 7) rfl rfl rfl) ?_
          | (refine Sep.St s (i := 0) rfl rfl rfl fun w s => ?_; simp only [List.set_cons_zero, List.set_cons_succ] at s)
          | (refine Sep.St s (i := 1) rfl rfl rfl fun w s => ?_; simp only [List.set_cons_zero, List.set_cons_succ] at s)
          | (refine Sep.St s (i := 2) rfl rfl rfl fun w s => ?_; simp only [List.set_cons_zero, List.set_cons_succ] at s)
          | (refine Sep.St s (i := 3) rfl rfl rfl fun w s => ?_; simp only [List.set_cons_zero, List.set_cons_succ] at s)
          | (refine Sep.St s (i := 4) rfl rfl rfl fun w s => ?_; simp only [List.set_cons_zero, List.set_cons_succ] at s)
          | (refine Sep.St s (i := 5) rfl rfl rfl fun w s => ?_; simp only [List.set_cons_zero, List.set_cons_succ] at s)
          | (refine Sep.St s (i := 6) rfl rfl rfl fun w s => ?_; simp only [List.set_cons_zero, List.set_cons_succ] at s)
          | (refine Sep.St s (i := 7) rfl rfl rfl fun w s => ?_; simp only [List.set_cons_zero, List.set_cons_succ] at s)
          | refine Sep.Bx s fun b w s => ?_
          | (refine Sep.Al s fun b w s => ?_; simp only [zc24] at s)
          | exact Same_b4 k1 hA hcs hac hds hQ (Sep.pick [0, 1, 2, 3, 5] s rfl (by decide))
          | exact Same_b4 k1 hA hcs hac hds hQ (Sep.pick [0, 1, 3, 2, 5] s rfl (by decide))
          | exact Same_b4 k1 hA hcs hac hds hQ (Sep.pick [0, 2, 1, 3, 5] s rfl (by decide))
          | exact Same_b4 k1 hA hcs hac hds hQ (Sep.pick [0, 2, 3, 1, 5] s rfl (by decide))
          | exact Same_b4 k1 hA hcs hac hds hQ (Sep.pick [0, 3, 1, 2, 5] s rfl (by decide))
          | exact Same_b4 k1 hA hcs hac hds hQ (Sep.pick [0, 3, 2, 1, 5] s rfl (by decide))
          | exact Same_b4 k1 hA hcs hac hds hQ (Sep.pick [1, 0, 2, 3, 5] s rfl (by decide))
          | exact Same_b4 k1 hA hcs hac hds hQ (Sep.pick [1, 0, 3, 2, 5] s rfl (by decide))
          | exact Same_b4 k1 hA hcs hac hds hQ (Sep.pick [1, 2, 0, 3, 5] s rfl (by decide))
          | exact Same_b4 k1 hA hcs hac hds hQ (Sep.pick [1, 2, 3, 0, 5] s rfl (by decide))
          | exact Same_b4 k1 hA hcs hac hds hQ (Sep.pick [1, 3, 0, 2, 5] s rfl (by decide))
          | exact Same_b4 k1 hA hcs hac hds hQ (Sep.pick [1, 3, 2, 0, 5] s rfl (by decide))
          | exact Same_b4 k1 hA hcs hac hds hQ (Sep.pick [2, 0, 1, 3, 5] s rfl (by decide))
          | exact Same_b4 k1 hA hcs hac hds hQ (Sep.pick [2, 0, 3, 1, 5] s rfl (by decide))
          | exact Same_b4 k1 hA hcs hac hds hQ (Sep.pick [2, 1, 0, 3, 5] s rfl (by decide))
          | exact Same_b4 k1 hA hcs hac hds hQ (Sep.pick [2, 1, 3, 0, 5] s rfl (by decide))
          | exact Same_b4 k1 hA hcs hac hds hQ (Sep.pick [2, 3, 0, 1, 5] s rfl (by decide))
          | exact Same_b4 k1 hA hcs hac hds hQ (Sep.pick [2, 3, 1, 0, 5] s rfl (by decide))
          | exact Same_b4 k1 hA hcs hac hds hQ (Sep.pick [3, 0, 1, 2, 5] s rfl (by decide))
          | exact Same_b4 k1 hA hcs hac hds hQ (Sep.pick [3, 0, 2, 1, 5] s rfl (by decide))
          | exact Same_b4 k1 hA hcs hac hds hQ (Sep.pick [3, 1, 0, 2, 5] s rfl (by decide))
          | exact Same_b4 k1 hA hcs hac hds hQ (Sep.pick [3, 1, 2, 0, 5] s rfl (by decide))
          | exact Same_b4 k1 hA hcs hac hds hQ (Sep.pick [3, 2, 0, 1, 5] s rfl (by decide))
          | exact Same_b4 k1 hA hcs hac hds hQ (Sep.pick [3, 2, 1, 0, 5] s rfl (by decide))
          | refine ref_OwnTile.spec s (hA.fr (sep_fr s)) k1' hac fun ra rc w s _ => ?_
          | refine ref_OwnTile.spec s (hB.fr (sep_fr s)) k2' hbd fun rb rc' w s _ => ?_
          | refine And.intro ?_ ?_)
end
end Go.Proofs.Ytbecldlnajlnnaa.S
