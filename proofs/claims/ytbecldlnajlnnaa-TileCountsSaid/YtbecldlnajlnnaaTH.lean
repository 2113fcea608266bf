/- Layer 2: TileLays answers true. -/
import Derived.Test.YtbecldlnajlnnaaTG
set_option linter.unusedVariables false
set_option linter.unusedSimpArgs false
namespace Go.Proofs.Ytbecldlnajlnnaa.S
open Go.Sx
attribute [local irreducible] LdI LdB LdStr LdP LdS LdM LdV St Bx Al App Cpy MkS MkM EqK RunK RunU CallK SlK blkA rowA joinA
theorem mayB_set {tw th cost : Int} {cs : List Int} {i : Nat} (h : mayB tw th cs = true) (hc : 1 ≤ cost) : mayB tw th (cs.set i cost) = true := by
  obtain ⟨h1, h2, h3, h4⟩ := mayB_iff.1 h
  refine mayB_iff.2 ⟨h1, h2, by rw [List.length_set]; exact h3, fun hm => ?_⟩
  rcases List.mem_or_eq_of_mem_set hm with h | h
  · exact h4 h
  · omega
theorem atI_eq {tw th l : Int} {cs : List Int} (h : mayB tw th cs = true) (h1 : 0 ≤ l) (h2 : l < cs.length) : atI tw th cs l = gi cs l.toNat := by
  unfold atI
  rw [isB_iff.2 ⟨⟨h1, h2⟩, h⟩, cond_true]
theorem range_set {cs : List Int} {i : Nat} {v : Int} (h : ∀ x ∈ cs, 0 ≤ x ∧ x < 256) (hv : 0 ≤ v ∧ v < 256) : ∀ x ∈ cs.set i v, 0 ≤ x ∧ x < 256 := fun x hx => by
  rcases List.mem_or_eq_of_mem_set hx with h1 | rfl
  · exact h x h1
  · exact hv
section
variable {W w : World} {L : List As} {Q : Bool → World → Prop} {tw th cost : Int} {l rn rc yc wc px py pw : Nat} {ra ya wa : Option Addr} {ys : List Int}
theorem Lays_b9_no {l cost : Int} (hys : ∀ x ∈ ys, 0 ≤ x ∧ x < 256) (hQ : ∀ w', Sep No W w' [] → Q true w')
    (s : Sep No W w [blkA py 24 [.int .i64 0, .int .i64 0, .slice none 0 0], blkA pw 24 (tl tw th wa rn wc), rowA wa rn wc 5 1 (flat by8 ys), blkA px 24 (tl tw th ra rn rc), rowA ra rn rc 5 1 (flat by8 ys)]) :
    herdsmanlaw2_TileLays.b9 Q l cost ⟨px, 0, none⟩ ⟨pw, 0, none⟩ ⟨py, 0, none⟩ false false w := by
  unfold herdsmanlaw2_TileLays.b9
  rw [show (!(false == false)) = false from rfl, cond_false]
  unfold tl at s
  repeat' first
    | refine Sep.LdI s (i := 0) rfl rfl rfl ?_
    | refine Sep.LdS s (i := 0) rfl rfl rfl ?_
    | refine Sep.LdB s (i := 0) rfl rfl rfl ?_
    | refine Sep.LdP s (i := 0) rfl rfl rfl ?_
    | refine And.intro (Sep.cell s (i := 0) rfl rfl rfl) ?_
    | refine Sep.LdI s (i := 1) rfl rfl rfl ?_
    | refine Sep.LdS s (i := 1) rfl rfl rfl ?_
    | refine Sep.LdB s (i := 1) rfl rfl rfl ?_
    | refine Sep.LdP s (i := 1) rfl rfl rfl ?_
    | refine And.intro (Sep.cell s (i := 1) rfl rfl rfl) ?_
    | refine Sep.LdI s (i := 2) rfl rfl rfl ?_
    | refine Sep.LdS s (i := 2) rfl rfl rfl ?_
    | refine Sep.LdB s (i := 2) rfl rfl rfl ?_
    | refine Sep.LdP s (i := 2) rfl rfl rfl ?_
    | refine And.intro (Sep.cell s (i := 2) rfl rfl rfl) ?_
    | refine Sep.LdI s (i := 3) rfl rfl rfl ?_
    | refine Sep.LdS s (i := 3) rfl rfl rfl ?_
    | refine Sep.LdB s (i := 3) rfl rfl rfl ?_
    | refine Sep.LdP s (i := 3) rfl rfl rfl ?_
    | refine And.intro (Sep.cell s (i := 3) rfl rfl rfl) ?_
    | refine Sep.LdI s (i := 4) rfl rfl rfl ?_
    | refine Sep.LdS s (i := 4) rfl rfl rfl ?_
    | refine Sep.LdB s (i := 4) rfl rfl rfl ?_
    | refine Sep.LdP s (i := 4) rfl rfl rfl ?_
    | refine And.intro (Sep.cell s (i := 4) rfl rfl rfl) ?_
    | refine Sep.LdI s (i := 5) rfl rfl rfl ?_
    | refine Sep.LdS s (i := 5) rfl rfl rfl ?_
    | refine Sep.LdB s (i := 5) rfl rfl rfl ?_
    | refine Sep.LdP s (i := 5) rfl rfl rfl ?_
    | refine And.intro (Sep.cell s (i := 5) rfl rfl rfl) ?_
    | (replace s := Sep.drew s; first
      | refine Sep.LdI s (i := 0) rfl rfl rfl ?_
      | refine Sep.LdS s (i := 0) rfl rfl rfl ?_
      | refine Sep.LdB s (i := 0) rfl rfl rfl ?_
      | refine Sep.LdP s (i := 0) rfl rfl rfl ?_
      | refine And.intro (Sep.cell s (i := 0) rfl rfl rfl) ?_
      | refine Sep.LdI s (i := 1) rfl rfl rfl ?_
      | refine Sep.LdS s (i := 1) rfl rfl rfl ?_
      | refine Sep.LdB s (i := 1) rfl rfl rfl ?_
      | refine Sep.LdP s (i := 1) rfl rfl rfl ?_
      | refine And.intro (Sep.cell s (i := 1) rfl rfl rfl) ?_
      | refine Sep.LdI s (i := 2) rfl rfl rfl ?_
      | refine Sep.LdS s (i := 2) rfl rfl rfl ?_
      | refine Sep.LdB s (i := 2) rfl rfl rfl ?_
      | refine Sep.LdP s (i := 2) rfl rfl rfl ?_
      | refine And.intro (Sep.cell s (i := 2) rfl rfl rfl) ?_
      | refine Sep.LdI s (i := 3) rfl rfl rfl ?_
      | refine Sep.LdS s (i := 3) rfl rfl rfl ?_
      | refine Sep.LdB s (i := 3) rfl rfl rfl ?_
      | refine Sep.LdP s (i := 3) rfl rfl rfl ?_
      | refine And.intro (Sep.cell s (i := 3) rfl rfl rfl) ?_
      | refine Sep.LdI s (i := 4) rfl rfl rfl ?_
      | refine Sep.LdS s (i := 4) rfl rfl rfl ?_
      | refine Sep.LdB s (i := 4) rfl rfl rfl ?_
      | refine Sep.LdP s (i := 4) rfl rfl rfl ?_
      | refine And.intro (Sep.cell s (i := 4) rfl rfl rfl) ?_
      | refine Sep.LdI s (i := 5) rfl rfl rfl ?_
      | refine Sep.LdS s (i := 5) rfl rfl rfl ?_
      | refine Sep.LdB s (i := 5) rfl rfl rfl ?_
      | refine Sep.LdP s (i := 5) rfl rfl rfl ?_
      | refine And.intro (Sep.cell s (i := 5) rfl rfl rfl) ?_)
  refine ref_SameTile.spec s (Sep.argrow s (i := 4) rfl by8_len (by decide)) (Sep.argrow s (i := 2) rfl by8_len (by decide)) hys hys fun w s _ => ?_
  rw [sameB_self, show (!true) = false from rfl, cond_false, show (!false) = true from rfl, cond_true]
  refine herdsmanlaw2_told.spec s fun w s _ => ?_
  rw [cond_true]
  repeat' first
    | refine Sep.LdI s (i := 0) rfl rfl rfl ?_
    | refine Sep.LdS s (i := 0) rfl rfl rfl ?_
    | refine Sep.LdB s (i := 0) rfl rfl rfl ?_
    | refine Sep.LdP s (i := 0) rfl rfl rfl ?_
    | refine And.intro (Sep.cell s (i := 0) rfl rfl rfl) ?_
    | refine Sep.LdI s (i := 1) rfl rfl rfl ?_
    | refine Sep.LdS s (i := 1) rfl rfl rfl ?_
    | refine Sep.LdB s (i := 1) rfl rfl rfl ?_
    | refine Sep.LdP s (i := 1) rfl rfl rfl ?_
    | refine And.intro (Sep.cell s (i := 1) rfl rfl rfl) ?_
    | refine Sep.LdI s (i := 2) rfl rfl rfl ?_
    | refine Sep.LdS s (i := 2) rfl rfl rfl ?_
    | refine Sep.LdB s (i := 2) rfl rfl rfl ?_
    | refine Sep.LdP s (i := 2) rfl rfl rfl ?_
    | refine And.intro (Sep.cell s (i := 2) rfl rfl rfl) ?_
    | refine Sep.LdI s (i := 3) rfl rfl rfl ?_
    | refine Sep.LdS s (i := 3) rfl rfl rfl ?_
    | refine Sep.LdB s (i := 3) rfl rfl rfl ?_
    | refine Sep.LdP s (i := 3) rfl rfl rfl ?_
    | refine And.intro (Sep.cell s (i := 3) rfl rfl rfl) ?_
    | refine Sep.LdI s (i := 4) rfl rfl rfl ?_
    | refine Sep.LdS s (i := 4) rfl rfl rfl ?_
    | refine Sep.LdB s (i := 4) rfl rfl rfl ?_
    | refine Sep.LdP s (i := 4) rfl rfl rfl ?_
    | refine And.intro (Sep.cell s (i := 4) rfl rfl rfl) ?_
    | refine Sep.LdI s (i := 5) rfl rfl rfl ?_
    | refine Sep.LdS s (i := 5) rfl rfl rfl ?_
    | refine Sep.LdB s (i := 5) rfl rfl rfl ?_
    | refine Sep.LdP s (i := 5) rfl rfl rfl ?_
    | refine And.intro (Sep.cell s (i := 5) rfl rfl rfl) ?_
    | (replace s := Sep.drew s; first
      | refine Sep.LdI s (i := 0) rfl rfl rfl ?_
      | refine Sep.LdS s (i := 0) rfl rfl rfl ?_
      | refine Sep.LdB s (i := 0) rfl rfl rfl ?_
      | refine Sep.LdP s (i := 0) rfl rfl rfl ?_
      | refine And.intro (Sep.cell s (i := 0) rfl rfl rfl) ?_
      | refine Sep.LdI s (i := 1) rfl rfl rfl ?_
      | refine Sep.LdS s (i := 1) rfl rfl rfl ?_
      | refine Sep.LdB s (i := 1) rfl rfl rfl ?_
      | refine Sep.LdP s (i := 1) rfl rfl rfl ?_
      | refine And.intro (Sep.cell s (i := 1) rfl rfl rfl) ?_
      | refine Sep.LdI s (i := 2) rfl rfl rfl ?_
      | refine Sep.LdS s (i := 2) rfl rfl rfl ?_
      | refine Sep.LdB s (i := 2) rfl rfl rfl ?_
      | refine Sep.LdP s (i := 2) rfl rfl rfl ?_
      | refine And.intro (Sep.cell s (i := 2) rfl rfl rfl) ?_
      | refine Sep.LdI s (i := 3) rfl rfl rfl ?_
      | refine Sep.LdS s (i := 3) rfl rfl rfl ?_
      | refine Sep.LdB s (i := 3) rfl rfl rfl ?_
      | refine Sep.LdP s (i := 3) rfl rfl rfl ?_
      | refine And.intro (Sep.cell s (i := 3) rfl rfl rfl) ?_
      | refine Sep.LdI s (i := 4) rfl rfl rfl ?_
      | refine Sep.LdS s (i := 4) rfl rfl rfl ?_
      | refine Sep.LdB s (i := 4) rfl rfl rfl ?_
      | refine Sep.LdP s (i := 4) rfl rfl rfl ?_
      | refine And.intro (Sep.cell s (i := 4) rfl rfl rfl) ?_
      | refine Sep.LdI s (i := 5) rfl rfl rfl ?_
      | refine Sep.LdS s (i := 5) rfl rfl rfl ?_
      | refine Sep.LdB s (i := 5) rfl rfl rfl ?_
      | refine Sep.LdP s (i := 5) rfl rfl rfl ?_
      | refine And.intro (Sep.cell s (i := 5) rfl rfl rfl) ?_)
  exact hQ _ (Sep.pick [] s rfl (by decide))
theorem Lays_loop (hl : l < rn) (hn : rn ≤ 600) (hlen : ys.length = rn) (hys : ∀ x ∈ ys, 0 ≤ x ∧ x < 256) (hm : mayB tw th ys = true) (hc : 1 ≤ cost ∧ cost ≤ 255) (hQ : ∀ w', Sep No W w' [] → Q true w') :
    ∀ (m i : Nat) (w : World), i + m = rn →
      Sep No W w [blkA py 24 (tl tw th ya rn yc), rowA ya rn yc 5 1 (flat by8 (ys.set l cost)), blkA px 24 (tl tw th ra rn rc), rowA ra rn rc 5 1 (flat by8 ys)] →
      herdsmanlaw2_TileLays.b14 Q (m + 1) l cost ⟨px, 0, none⟩ ⟨py, 0, none⟩ i w := by
  have hm' := mayB_set (i := l) hm hc.1
  have hr' := range_set (i := l) hys (show 0 ≤ cost ∧ cost < 256 by omega)
  intro m
  induction m with
  | zero =>
    intro i w hi s
    show herdsmanlaw2_TileLays.s14 Q (herdsmanlaw2_TileLays.b14 Q 0) _ _ _ _ _ _
    unfold herdsmanlaw2_TileLays.s14
    unfold tl at s
    repeat' first
      | refine Sep.LdI s (i := 0) rfl rfl rfl ?_
      | refine Sep.LdS s (i := 0) rfl rfl rfl ?_
      | refine Sep.LdB s (i := 0) rfl rfl rfl ?_
      | refine Sep.LdP s (i := 0) rfl rfl rfl ?_
      | refine And.intro (Sep.cell s (i := 0) rfl rfl rfl) ?_
      | refine Sep.LdI s (i := 1) rfl rfl rfl ?_
      | refine Sep.LdS s (i := 1) rfl rfl rfl ?_
      | refine Sep.LdB s (i := 1) rfl rfl rfl ?_
      | refine Sep.LdP s (i := 1) rfl rfl rfl ?_
      | refine And.intro (Sep.cell s (i := 1) rfl rfl rfl) ?_
      | refine Sep.LdI s (i := 2) rfl rfl rfl ?_
      | refine Sep.LdS s (i := 2) rfl rfl rfl ?_
      | refine Sep.LdB s (i := 2) rfl rfl rfl ?_
      | refine Sep.LdP s (i := 2) rfl rfl rfl ?_
      | refine And.intro (Sep.cell s (i := 2) rfl rfl rfl) ?_
      | refine Sep.LdI s (i := 3) rfl rfl rfl ?_
      | refine Sep.LdS s (i := 3) rfl rfl rfl ?_
      | refine Sep.LdB s (i := 3) rfl rfl rfl ?_
      | refine Sep.LdP s (i := 3) rfl rfl rfl ?_
      | refine And.intro (Sep.cell s (i := 3) rfl rfl rfl) ?_
      | refine Sep.LdI s (i := 4) rfl rfl rfl ?_
      | refine Sep.LdS s (i := 4) rfl rfl rfl ?_
      | refine Sep.LdB s (i := 4) rfl rfl rfl ?_
      | refine Sep.LdP s (i := 4) rfl rfl rfl ?_
      | refine And.intro (Sep.cell s (i := 4) rfl rfl rfl) ?_
      | refine Sep.LdI s (i := 5) rfl rfl rfl ?_
      | refine Sep.LdS s (i := 5) rfl rfl rfl ?_
      | refine Sep.LdB s (i := 5) rfl rfl rfl ?_
      | refine Sep.LdP s (i := 5) rfl rfl rfl ?_
      | refine And.intro (Sep.cell s (i := 5) rfl rfl rfl) ?_
      | (replace s := Sep.drew s; first
        | refine Sep.LdI s (i := 0) rfl rfl rfl ?_
        | refine Sep.LdS s (i := 0) rfl rfl rfl ?_
        | refine Sep.LdB s (i := 0) rfl rfl rfl ?_
        | refine Sep.LdP s (i := 0) rfl rfl rfl ?_
        | refine And.intro (Sep.cell s (i := 0) rfl rfl rfl) ?_
        | refine Sep.LdI s (i := 1) rfl rfl rfl ?_
        | refine Sep.LdS s (i := 1) rfl rfl rfl ?_
        | refine Sep.LdB s (i := 1) rfl rfl rfl ?_
        | refine Sep.LdP s (i := 1) rfl rfl rfl ?_
        | refine And.intro (Sep.cell s (i := 1) rfl rfl rfl) ?_
        | refine Sep.LdI s (i := 2) rfl rfl rfl ?_
        | refine Sep.LdS s (i := 2) rfl rfl rfl ?_
        | refine Sep.LdB s (i := 2) rfl rfl rfl ?_
        | refine Sep.LdP s (i := 2) rfl rfl rfl ?_
        | refine And.intro (Sep.cell s (i := 2) rfl rfl rfl) ?_
        | refine Sep.LdI s (i := 3) rfl rfl rfl ?_
        | refine Sep.LdS s (i := 3) rfl rfl rfl ?_
        | refine Sep.LdB s (i := 3) rfl rfl rfl ?_
        | refine Sep.LdP s (i := 3) rfl rfl rfl ?_
        | refine And.intro (Sep.cell s (i := 3) rfl rfl rfl) ?_
        | refine Sep.LdI s (i := 4) rfl rfl rfl ?_
        | refine Sep.LdS s (i := 4) rfl rfl rfl ?_
        | refine Sep.LdB s (i := 4) rfl rfl rfl ?_
        | refine Sep.LdP s (i := 4) rfl rfl rfl ?_
        | refine And.intro (Sep.cell s (i := 4) rfl rfl rfl) ?_
        | refine Sep.LdI s (i := 5) rfl rfl rfl ?_
        | refine Sep.LdS s (i := 5) rfl rfl rfl ?_
        | refine Sep.LdB s (i := 5) rfl rfl rfl ?_
        | refine Sep.LdP s (i := 5) rfl rfl rfl ?_
        | refine And.intro (Sep.cell s (i := 5) rfl rfl rfl) ?_)
    rw [decide_eq_false (by omega), cond_false]
    refine herdsmanlaw2_told.spec s fun w s _ => ?_
    rw [cond_true]
    repeat' first
      | refine Sep.LdI s (i := 0) rfl rfl rfl ?_
      | refine Sep.LdS s (i := 0) rfl rfl rfl ?_
      | refine Sep.LdB s (i := 0) rfl rfl rfl ?_
      | refine Sep.LdP s (i := 0) rfl rfl rfl ?_
      | refine And.intro (Sep.cell s (i := 0) rfl rfl rfl) ?_
      | refine Sep.LdI s (i := 1) rfl rfl rfl ?_
      | refine Sep.LdS s (i := 1) rfl rfl rfl ?_
      | refine Sep.LdB s (i := 1) rfl rfl rfl ?_
      | refine Sep.LdP s (i := 1) rfl rfl rfl ?_
      | refine And.intro (Sep.cell s (i := 1) rfl rfl rfl) ?_
      | refine Sep.LdI s (i := 2) rfl rfl rfl ?_
      | refine Sep.LdS s (i := 2) rfl rfl rfl ?_
      | refine Sep.LdB s (i := 2) rfl rfl rfl ?_
      | refine Sep.LdP s (i := 2) rfl rfl rfl ?_
      | refine And.intro (Sep.cell s (i := 2) rfl rfl rfl) ?_
      | refine Sep.LdI s (i := 3) rfl rfl rfl ?_
      | refine Sep.LdS s (i := 3) rfl rfl rfl ?_
      | refine Sep.LdB s (i := 3) rfl rfl rfl ?_
      | refine Sep.LdP s (i := 3) rfl rfl rfl ?_
      | refine And.intro (Sep.cell s (i := 3) rfl rfl rfl) ?_
      | refine Sep.LdI s (i := 4) rfl rfl rfl ?_
      | refine Sep.LdS s (i := 4) rfl rfl rfl ?_
      | refine Sep.LdB s (i := 4) rfl rfl rfl ?_
      | refine Sep.LdP s (i := 4) rfl rfl rfl ?_
      | refine And.intro (Sep.cell s (i := 4) rfl rfl rfl) ?_
      | refine Sep.LdI s (i := 5) rfl rfl rfl ?_
      | refine Sep.LdS s (i := 5) rfl rfl rfl ?_
      | refine Sep.LdB s (i := 5) rfl rfl rfl ?_
      | refine Sep.LdP s (i := 5) rfl rfl rfl ?_
      | refine And.intro (Sep.cell s (i := 5) rfl rfl rfl) ?_
      | (replace s := Sep.drew s; first
        | refine Sep.LdI s (i := 0) rfl rfl rfl ?_
        | refine Sep.LdS s (i := 0) rfl rfl rfl ?_
        | refine Sep.LdB s (i := 0) rfl rfl rfl ?_
        | refine Sep.LdP s (i := 0) rfl rfl rfl ?_
        | refine And.intro (Sep.cell s (i := 0) rfl rfl rfl) ?_
        | refine Sep.LdI s (i := 1) rfl rfl rfl ?_
        | refine Sep.LdS s (i := 1) rfl rfl rfl ?_
        | refine Sep.LdB s (i := 1) rfl rfl rfl ?_
        | refine Sep.LdP s (i := 1) rfl rfl rfl ?_
        | refine And.intro (Sep.cell s (i := 1) rfl rfl rfl) ?_
        | refine Sep.LdI s (i := 2) rfl rfl rfl ?_
        | refine Sep.LdS s (i := 2) rfl rfl rfl ?_
        | refine Sep.LdB s (i := 2) rfl rfl rfl ?_
        | refine Sep.LdP s (i := 2) rfl rfl rfl ?_
        | refine And.intro (Sep.cell s (i := 2) rfl rfl rfl) ?_
        | refine Sep.LdI s (i := 3) rfl rfl rfl ?_
        | refine Sep.LdS s (i := 3) rfl rfl rfl ?_
        | refine Sep.LdB s (i := 3) rfl rfl rfl ?_
        | refine Sep.LdP s (i := 3) rfl rfl rfl ?_
        | refine And.intro (Sep.cell s (i := 3) rfl rfl rfl) ?_
        | refine Sep.LdI s (i := 4) rfl rfl rfl ?_
        | refine Sep.LdS s (i := 4) rfl rfl rfl ?_
        | refine Sep.LdB s (i := 4) rfl rfl rfl ?_
        | refine Sep.LdP s (i := 4) rfl rfl rfl ?_
        | refine And.intro (Sep.cell s (i := 4) rfl rfl rfl) ?_
        | refine Sep.LdI s (i := 5) rfl rfl rfl ?_
        | refine Sep.LdS s (i := 5) rfl rfl rfl ?_
        | refine Sep.LdB s (i := 5) rfl rfl rfl ?_
        | refine Sep.LdP s (i := 5) rfl rfl rfl ?_
        | refine And.intro (Sep.cell s (i := 5) rfl rfl rfl) ?_)
    refine tile_May.spec s (Sep.argrow s (i := 1) rfl by8_len (by decide)) fun w s _ => ?_
    rw [hm', cond_true]
    repeat' first
      | refine Sep.LdI s (i := 0) rfl rfl rfl ?_
      | refine Sep.LdS s (i := 0) rfl rfl rfl ?_
      | refine Sep.LdB s (i := 0) rfl rfl rfl ?_
      | refine Sep.LdP s (i := 0) rfl rfl rfl ?_
      | refine And.intro (Sep.cell s (i := 0) rfl rfl rfl) ?_
      | refine Sep.LdI s (i := 1) rfl rfl rfl ?_
      | refine Sep.LdS s (i := 1) rfl rfl rfl ?_
      | refine Sep.LdB s (i := 1) rfl rfl rfl ?_
      | refine Sep.LdP s (i := 1) rfl rfl rfl ?_
      | refine And.intro (Sep.cell s (i := 1) rfl rfl rfl) ?_
      | refine Sep.LdI s (i := 2) rfl rfl rfl ?_
      | refine Sep.LdS s (i := 2) rfl rfl rfl ?_
      | refine Sep.LdB s (i := 2) rfl rfl rfl ?_
      | refine Sep.LdP s (i := 2) rfl rfl rfl ?_
      | refine And.intro (Sep.cell s (i := 2) rfl rfl rfl) ?_
      | refine Sep.LdI s (i := 3) rfl rfl rfl ?_
      | refine Sep.LdS s (i := 3) rfl rfl rfl ?_
      | refine Sep.LdB s (i := 3) rfl rfl rfl ?_
      | refine Sep.LdP s (i := 3) rfl rfl rfl ?_
      | refine And.intro (Sep.cell s (i := 3) rfl rfl rfl) ?_
      | refine Sep.LdI s (i := 4) rfl rfl rfl ?_
      | refine Sep.LdS s (i := 4) rfl rfl rfl ?_
      | refine Sep.LdB s (i := 4) rfl rfl rfl ?_
      | refine Sep.LdP s (i := 4) rfl rfl rfl ?_
      | refine And.intro (Sep.cell s (i := 4) rfl rfl rfl) ?_
      | refine Sep.LdI s (i := 5) rfl rfl rfl ?_
      | refine Sep.LdS s (i := 5) rfl rfl rfl ?_
      | refine Sep.LdB s (i := 5) rfl rfl rfl ?_
      | refine Sep.LdP s (i := 5) rfl rfl rfl ?_
      | refine And.intro (Sep.cell s (i := 5) rfl rfl rfl) ?_
      | (replace s := Sep.drew s; first
        | refine Sep.LdI s (i := 0) rfl rfl rfl ?_
        | refine Sep.LdS s (i := 0) rfl rfl rfl ?_
        | refine Sep.LdB s (i := 0) rfl rfl rfl ?_
        | refine Sep.LdP s (i := 0) rfl rfl rfl ?_
        | refine And.intro (Sep.cell s (i := 0) rfl rfl rfl) ?_
        | refine Sep.LdI s (i := 1) rfl rfl rfl ?_
        | refine Sep.LdS s (i := 1) rfl rfl rfl ?_
        | refine Sep.LdB s (i := 1) rfl rfl rfl ?_
        | refine Sep.LdP s (i := 1) rfl rfl rfl ?_
        | refine And.intro (Sep.cell s (i := 1) rfl rfl rfl) ?_
        | refine Sep.LdI s (i := 2) rfl rfl rfl ?_
        | refine Sep.LdS s (i := 2) rfl rfl rfl ?_
        | refine Sep.LdB s (i := 2) rfl rfl rfl ?_
        | refine Sep.LdP s (i := 2) rfl rfl rfl ?_
        | refine And.intro (Sep.cell s (i := 2) rfl rfl rfl) ?_
        | refine Sep.LdI s (i := 3) rfl rfl rfl ?_
        | refine Sep.LdS s (i := 3) rfl rfl rfl ?_
        | refine Sep.LdB s (i := 3) rfl rfl rfl ?_
        | refine Sep.LdP s (i := 3) rfl rfl rfl ?_
        | refine And.intro (Sep.cell s (i := 3) rfl rfl rfl) ?_
        | refine Sep.LdI s (i := 4) rfl rfl rfl ?_
        | refine Sep.LdS s (i := 4) rfl rfl rfl ?_
        | refine Sep.LdB s (i := 4) rfl rfl rfl ?_
        | refine Sep.LdP s (i := 4) rfl rfl rfl ?_
        | refine And.intro (Sep.cell s (i := 4) rfl rfl rfl) ?_
        | refine Sep.LdI s (i := 5) rfl rfl rfl ?_
        | refine Sep.LdS s (i := 5) rfl rfl rfl ?_
        | refine Sep.LdB s (i := 5) rfl rfl rfl ?_
        | refine Sep.LdP s (i := 5) rfl rfl rfl ?_
        | refine And.intro (Sep.cell s (i := 5) rfl rfl rfl) ?_)
    rw [beq_self_eq_true, cond_true]
    repeat' first
      | refine Sep.LdI s (i := 0) rfl rfl rfl ?_
      | refine Sep.LdS s (i := 0) rfl rfl rfl ?_
      | refine Sep.LdB s (i := 0) rfl rfl rfl ?_
      | refine Sep.LdP s (i := 0) rfl rfl rfl ?_
      | refine And.intro (Sep.cell s (i := 0) rfl rfl rfl) ?_
      | refine Sep.LdI s (i := 1) rfl rfl rfl ?_
      | refine Sep.LdS s (i := 1) rfl rfl rfl ?_
      | refine Sep.LdB s (i := 1) rfl rfl rfl ?_
      | refine Sep.LdP s (i := 1) rfl rfl rfl ?_
      | refine And.intro (Sep.cell s (i := 1) rfl rfl rfl) ?_
      | refine Sep.LdI s (i := 2) rfl rfl rfl ?_
      | refine Sep.LdS s (i := 2) rfl rfl rfl ?_
      | refine Sep.LdB s (i := 2) rfl rfl rfl ?_
      | refine Sep.LdP s (i := 2) rfl rfl rfl ?_
      | refine And.intro (Sep.cell s (i := 2) rfl rfl rfl) ?_
      | refine Sep.LdI s (i := 3) rfl rfl rfl ?_
      | refine Sep.LdS s (i := 3) rfl rfl rfl ?_
      | refine Sep.LdB s (i := 3) rfl rfl rfl ?_
      | refine Sep.LdP s (i := 3) rfl rfl rfl ?_
      | refine And.intro (Sep.cell s (i := 3) rfl rfl rfl) ?_
      | refine Sep.LdI s (i := 4) rfl rfl rfl ?_
      | refine Sep.LdS s (i := 4) rfl rfl rfl ?_
      | refine Sep.LdB s (i := 4) rfl rfl rfl ?_
      | refine Sep.LdP s (i := 4) rfl rfl rfl ?_
      | refine And.intro (Sep.cell s (i := 4) rfl rfl rfl) ?_
      | refine Sep.LdI s (i := 5) rfl rfl rfl ?_
      | refine Sep.LdS s (i := 5) rfl rfl rfl ?_
      | refine Sep.LdB s (i := 5) rfl rfl rfl ?_
      | refine Sep.LdP s (i := 5) rfl rfl rfl ?_
      | refine And.intro (Sep.cell s (i := 5) rfl rfl rfl) ?_
      | (replace s := Sep.drew s; first
        | refine Sep.LdI s (i := 0) rfl rfl rfl ?_
        | refine Sep.LdS s (i := 0) rfl rfl rfl ?_
        | refine Sep.LdB s (i := 0) rfl rfl rfl ?_
        | refine Sep.LdP s (i := 0) rfl rfl rfl ?_
        | refine And.intro (Sep.cell s (i := 0) rfl rfl rfl) ?_
        | refine Sep.LdI s (i := 1) rfl rfl rfl ?_
        | refine Sep.LdS s (i := 1) rfl rfl rfl ?_
        | refine Sep.LdB s (i := 1) rfl rfl rfl ?_
        | refine Sep.LdP s (i := 1) rfl rfl rfl ?_
        | refine And.intro (Sep.cell s (i := 1) rfl rfl rfl) ?_
        | refine Sep.LdI s (i := 2) rfl rfl rfl ?_
        | refine Sep.LdS s (i := 2) rfl rfl rfl ?_
        | refine Sep.LdB s (i := 2) rfl rfl rfl ?_
        | refine Sep.LdP s (i := 2) rfl rfl rfl ?_
        | refine And.intro (Sep.cell s (i := 2) rfl rfl rfl) ?_
        | refine Sep.LdI s (i := 3) rfl rfl rfl ?_
        | refine Sep.LdS s (i := 3) rfl rfl rfl ?_
        | refine Sep.LdB s (i := 3) rfl rfl rfl ?_
        | refine Sep.LdP s (i := 3) rfl rfl rfl ?_
        | refine And.intro (Sep.cell s (i := 3) rfl rfl rfl) ?_
        | refine Sep.LdI s (i := 4) rfl rfl rfl ?_
        | refine Sep.LdS s (i := 4) rfl rfl rfl ?_
        | refine Sep.LdB s (i := 4) rfl rfl rfl ?_
        | refine Sep.LdP s (i := 4) rfl rfl rfl ?_
        | refine And.intro (Sep.cell s (i := 4) rfl rfl rfl) ?_
        | refine Sep.LdI s (i := 5) rfl rfl rfl ?_
        | refine Sep.LdS s (i := 5) rfl rfl rfl ?_
        | refine Sep.LdB s (i := 5) rfl rfl rfl ?_
        | refine Sep.LdP s (i := 5) rfl rfl rfl ?_
        | refine And.intro (Sep.cell s (i := 5) rfl rfl rfl) ?_)
    rw [beq_self_eq_true, cond_true]
    repeat' first
      | refine Sep.LdI s (i := 0) rfl rfl rfl ?_
      | refine Sep.LdS s (i := 0) rfl rfl rfl ?_
      | refine Sep.LdB s (i := 0) rfl rfl rfl ?_
      | refine Sep.LdP s (i := 0) rfl rfl rfl ?_
      | refine And.intro (Sep.cell s (i := 0) rfl rfl rfl) ?_
      | refine Sep.LdI s (i := 1) rfl rfl rfl ?_
      | refine Sep.LdS s (i := 1) rfl rfl rfl ?_
      | refine Sep.LdB s (i := 1) rfl rfl rfl ?_
      | refine Sep.LdP s (i := 1) rfl rfl rfl ?_
      | refine And.intro (Sep.cell s (i := 1) rfl rfl rfl) ?_
      | refine Sep.LdI s (i := 2) rfl rfl rfl ?_
      | refine Sep.LdS s (i := 2) rfl rfl rfl ?_
      | refine Sep.LdB s (i := 2) rfl rfl rfl ?_
      | refine Sep.LdP s (i := 2) rfl rfl rfl ?_
      | refine And.intro (Sep.cell s (i := 2) rfl rfl rfl) ?_
      | refine Sep.LdI s (i := 3) rfl rfl rfl ?_
      | refine Sep.LdS s (i := 3) rfl rfl rfl ?_
      | refine Sep.LdB s (i := 3) rfl rfl rfl ?_
      | refine Sep.LdP s (i := 3) rfl rfl rfl ?_
      | refine And.intro (Sep.cell s (i := 3) rfl rfl rfl) ?_
      | refine Sep.LdI s (i := 4) rfl rfl rfl ?_
      | refine Sep.LdS s (i := 4) rfl rfl rfl ?_
      | refine Sep.LdB s (i := 4) rfl rfl rfl ?_
      | refine Sep.LdP s (i := 4) rfl rfl rfl ?_
      | refine And.intro (Sep.cell s (i := 4) rfl rfl rfl) ?_
      | refine Sep.LdI s (i := 5) rfl rfl rfl ?_
      | refine Sep.LdS s (i := 5) rfl rfl rfl ?_
      | refine Sep.LdB s (i := 5) rfl rfl rfl ?_
      | refine Sep.LdP s (i := 5) rfl rfl rfl ?_
      | refine And.intro (Sep.cell s (i := 5) rfl rfl rfl) ?_
      | (replace s := Sep.drew s; first
        | refine Sep.LdI s (i := 0) rfl rfl rfl ?_
        | refine Sep.LdS s (i := 0) rfl rfl rfl ?_
        | refine Sep.LdB s (i := 0) rfl rfl rfl ?_
        | refine Sep.LdP s (i := 0) rfl rfl rfl ?_
        | refine And.intro (Sep.cell s (i := 0) rfl rfl rfl) ?_
        | refine Sep.LdI s (i := 1) rfl rfl rfl ?_
        | refine Sep.LdS s (i := 1) rfl rfl rfl ?_
        | refine Sep.LdB s (i := 1) rfl rfl rfl ?_
        | refine Sep.LdP s (i := 1) rfl rfl rfl ?_
        | refine And.intro (Sep.cell s (i := 1) rfl rfl rfl) ?_
        | refine Sep.LdI s (i := 2) rfl rfl rfl ?_
        | refine Sep.LdS s (i := 2) rfl rfl rfl ?_
        | refine Sep.LdB s (i := 2) rfl rfl rfl ?_
        | refine Sep.LdP s (i := 2) rfl rfl rfl ?_
        | refine And.intro (Sep.cell s (i := 2) rfl rfl rfl) ?_
        | refine Sep.LdI s (i := 3) rfl rfl rfl ?_
        | refine Sep.LdS s (i := 3) rfl rfl rfl ?_
        | refine Sep.LdB s (i := 3) rfl rfl rfl ?_
        | refine Sep.LdP s (i := 3) rfl rfl rfl ?_
        | refine And.intro (Sep.cell s (i := 3) rfl rfl rfl) ?_
        | refine Sep.LdI s (i := 4) rfl rfl rfl ?_
        | refine Sep.LdS s (i := 4) rfl rfl rfl ?_
        | refine Sep.LdB s (i := 4) rfl rfl rfl ?_
        | refine Sep.LdP s (i := 4) rfl rfl rfl ?_
        | refine And.intro (Sep.cell s (i := 4) rfl rfl rfl) ?_
        | refine Sep.LdI s (i := 5) rfl rfl rfl ?_
        | refine Sep.LdS s (i := 5) rfl rfl rfl ?_
        | refine Sep.LdB s (i := 5) rfl rfl rfl ?_
        | refine Sep.LdP s (i := 5) rfl rfl rfl ?_
        | refine And.intro (Sep.cell s (i := 5) rfl rfl rfl) ?_)
    refine tile_At.spec s (Sep.argrow s (i := 1) rfl by8_len (by decide)) hr' fun w s _ => ?_
    rw [atI_eq hm' (by omega) (by rw [List.length_set]; omega), Int.toNat_natCast, gi_set (by omega), if_pos rfl, beq_self_eq_true]
    exact hQ _ (Sep.pick [] s rfl (by decide))
  | succ m ih =>
    intro i w hi s
    show herdsmanlaw2_TileLays.s14 Q (herdsmanlaw2_TileLays.b14 Q (m + 1)) _ _ _ _ _ _
    unfold herdsmanlaw2_TileLays.s14
    unfold tl at s
    repeat' first
      | refine Sep.LdI s (i := 0) rfl rfl rfl ?_
      | refine Sep.LdS s (i := 0) rfl rfl rfl ?_
      | refine Sep.LdB s (i := 0) rfl rfl rfl ?_
      | refine Sep.LdP s (i := 0) rfl rfl rfl ?_
      | refine And.intro (Sep.cell s (i := 0) rfl rfl rfl) ?_
      | refine Sep.LdI s (i := 1) rfl rfl rfl ?_
      | refine Sep.LdS s (i := 1) rfl rfl rfl ?_
      | refine Sep.LdB s (i := 1) rfl rfl rfl ?_
      | refine Sep.LdP s (i := 1) rfl rfl rfl ?_
      | refine And.intro (Sep.cell s (i := 1) rfl rfl rfl) ?_
      | refine Sep.LdI s (i := 2) rfl rfl rfl ?_
      | refine Sep.LdS s (i := 2) rfl rfl rfl ?_
      | refine Sep.LdB s (i := 2) rfl rfl rfl ?_
      | refine Sep.LdP s (i := 2) rfl rfl rfl ?_
      | refine And.intro (Sep.cell s (i := 2) rfl rfl rfl) ?_
      | refine Sep.LdI s (i := 3) rfl rfl rfl ?_
      | refine Sep.LdS s (i := 3) rfl rfl rfl ?_
      | refine Sep.LdB s (i := 3) rfl rfl rfl ?_
      | refine Sep.LdP s (i := 3) rfl rfl rfl ?_
      | refine And.intro (Sep.cell s (i := 3) rfl rfl rfl) ?_
      | refine Sep.LdI s (i := 4) rfl rfl rfl ?_
      | refine Sep.LdS s (i := 4) rfl rfl rfl ?_
      | refine Sep.LdB s (i := 4) rfl rfl rfl ?_
      | refine Sep.LdP s (i := 4) rfl rfl rfl ?_
      | refine And.intro (Sep.cell s (i := 4) rfl rfl rfl) ?_
      | refine Sep.LdI s (i := 5) rfl rfl rfl ?_
      | refine Sep.LdS s (i := 5) rfl rfl rfl ?_
      | refine Sep.LdB s (i := 5) rfl rfl rfl ?_
      | refine Sep.LdP s (i := 5) rfl rfl rfl ?_
      | refine And.intro (Sep.cell s (i := 5) rfl rfl rfl) ?_
      | (replace s := Sep.drew s; first
        | refine Sep.LdI s (i := 0) rfl rfl rfl ?_
        | refine Sep.LdS s (i := 0) rfl rfl rfl ?_
        | refine Sep.LdB s (i := 0) rfl rfl rfl ?_
        | refine Sep.LdP s (i := 0) rfl rfl rfl ?_
        | refine And.intro (Sep.cell s (i := 0) rfl rfl rfl) ?_
        | refine Sep.LdI s (i := 1) rfl rfl rfl ?_
        | refine Sep.LdS s (i := 1) rfl rfl rfl ?_
        | refine Sep.LdB s (i := 1) rfl rfl rfl ?_
        | refine Sep.LdP s (i := 1) rfl rfl rfl ?_
        | refine And.intro (Sep.cell s (i := 1) rfl rfl rfl) ?_
        | refine Sep.LdI s (i := 2) rfl rfl rfl ?_
        | refine Sep.LdS s (i := 2) rfl rfl rfl ?_
        | refine Sep.LdB s (i := 2) rfl rfl rfl ?_
        | refine Sep.LdP s (i := 2) rfl rfl rfl ?_
        | refine And.intro (Sep.cell s (i := 2) rfl rfl rfl) ?_
        | refine Sep.LdI s (i := 3) rfl rfl rfl ?_
        | refine Sep.LdS s (i := 3) rfl rfl rfl ?_
        | refine Sep.LdB s (i := 3) rfl rfl rfl ?_
        | refine Sep.LdP s (i := 3) rfl rfl rfl ?_
        | refine And.intro (Sep.cell s (i := 3) rfl rfl rfl) ?_
        | refine Sep.LdI s (i := 4) rfl rfl rfl ?_
        | refine Sep.LdS s (i := 4) rfl rfl rfl ?_
        | refine Sep.LdB s (i := 4) rfl rfl rfl ?_
        | refine Sep.LdP s (i := 4) rfl rfl rfl ?_
        | refine And.intro (Sep.cell s (i := 4) rfl rfl rfl) ?_
        | refine Sep.LdI s (i := 5) rfl rfl rfl ?_
        | refine Sep.LdS s (i := 5) rfl rfl rfl ?_
        | refine Sep.LdB s (i := 5) rfl rfl rfl ?_
        | refine Sep.LdP s (i := 5) rfl rfl rfl ?_
        | refine And.intro (Sep.cell s (i := 5) rfl rfl rfl) ?_)
    rw [decide_eq_true (by omega), cond_true, wrap_i64 (n := (i : Int) + 1) (by omega) (by omega)]
    by_cases he : i = l
    · subst he
      rw [bne_self_eq_false, cond_false]
      exact ih (i + 1) _ (by omega) s
    · rw [show ((i : Int) != (l : Int)) = true by rw [bne_iff_ne]; omega, cond_true]
      repeat' first
        | refine Sep.LdI s (i := 0) rfl rfl rfl ?_
        | refine Sep.LdS s (i := 0) rfl rfl rfl ?_
        | refine Sep.LdB s (i := 0) rfl rfl rfl ?_
        | refine Sep.LdP s (i := 0) rfl rfl rfl ?_
        | refine And.intro (Sep.cell s (i := 0) rfl rfl rfl) ?_
        | refine Sep.LdI s (i := 1) rfl rfl rfl ?_
        | refine Sep.LdS s (i := 1) rfl rfl rfl ?_
        | refine Sep.LdB s (i := 1) rfl rfl rfl ?_
        | refine Sep.LdP s (i := 1) rfl rfl rfl ?_
        | refine And.intro (Sep.cell s (i := 1) rfl rfl rfl) ?_
        | refine Sep.LdI s (i := 2) rfl rfl rfl ?_
        | refine Sep.LdS s (i := 2) rfl rfl rfl ?_
        | refine Sep.LdB s (i := 2) rfl rfl rfl ?_
        | refine Sep.LdP s (i := 2) rfl rfl rfl ?_
        | refine And.intro (Sep.cell s (i := 2) rfl rfl rfl) ?_
        | refine Sep.LdI s (i := 3) rfl rfl rfl ?_
        | refine Sep.LdS s (i := 3) rfl rfl rfl ?_
        | refine Sep.LdB s (i := 3) rfl rfl rfl ?_
        | refine Sep.LdP s (i := 3) rfl rfl rfl ?_
        | refine And.intro (Sep.cell s (i := 3) rfl rfl rfl) ?_
        | refine Sep.LdI s (i := 4) rfl rfl rfl ?_
        | refine Sep.LdS s (i := 4) rfl rfl rfl ?_
        | refine Sep.LdB s (i := 4) rfl rfl rfl ?_
        | refine Sep.LdP s (i := 4) rfl rfl rfl ?_
        | refine And.intro (Sep.cell s (i := 4) rfl rfl rfl) ?_
        | refine Sep.LdI s (i := 5) rfl rfl rfl ?_
        | refine Sep.LdS s (i := 5) rfl rfl rfl ?_
        | refine Sep.LdB s (i := 5) rfl rfl rfl ?_
        | refine Sep.LdP s (i := 5) rfl rfl rfl ?_
        | refine And.intro (Sep.cell s (i := 5) rfl rfl rfl) ?_
        | (replace s := Sep.drew s; first
          | refine Sep.LdI s (i := 0) rfl rfl rfl ?_
          | refine Sep.LdS s (i := 0) rfl rfl rfl ?_
          | refine Sep.LdB s (i := 0) rfl rfl rfl ?_
          | refine Sep.LdP s (i := 0) rfl rfl rfl ?_
          | refine And.intro (Sep.cell s (i := 0) rfl rfl rfl) ?_
          | refine Sep.LdI s (i := 1) rfl rfl rfl ?_
          | refine Sep.LdS s (i := 1) rfl rfl rfl ?_
          | refine Sep.LdB s (i := 1) rfl rfl rfl ?_
          | refine Sep.LdP s (i := 1) rfl rfl rfl ?_
          | refine And.intro (Sep.cell s (i := 1) rfl rfl rfl) ?_
          | refine Sep.LdI s (i := 2) rfl rfl rfl ?_
          | refine Sep.LdS s (i := 2) rfl rfl rfl ?_
          | refine Sep.LdB s (i := 2) rfl rfl rfl ?_
          | refine Sep.LdP s (i := 2) rfl rfl rfl ?_
          | refine And.intro (Sep.cell s (i := 2) rfl rfl rfl) ?_
          | refine Sep.LdI s (i := 3) rfl rfl rfl ?_
          | refine Sep.LdS s (i := 3) rfl rfl rfl ?_
          | refine Sep.LdB s (i := 3) rfl rfl rfl ?_
          | refine Sep.LdP s (i := 3) rfl rfl rfl ?_
          | refine And.intro (Sep.cell s (i := 3) rfl rfl rfl) ?_
          | refine Sep.LdI s (i := 4) rfl rfl rfl ?_
          | refine Sep.LdS s (i := 4) rfl rfl rfl ?_
          | refine Sep.LdB s (i := 4) rfl rfl rfl ?_
          | refine Sep.LdP s (i := 4) rfl rfl rfl ?_
          | refine And.intro (Sep.cell s (i := 4) rfl rfl rfl) ?_
          | refine Sep.LdI s (i := 5) rfl rfl rfl ?_
          | refine Sep.LdS s (i := 5) rfl rfl rfl ?_
          | refine Sep.LdB s (i := 5) rfl rfl rfl ?_
          | refine Sep.LdP s (i := 5) rfl rfl rfl ?_
          | refine And.intro (Sep.cell s (i := 5) rfl rfl rfl) ?_)
      refine tile_At.spec (Sep.drew s) (Sep.argrow (Sep.drew s) (i := 1) rfl by8_len (by decide)) hr' fun w s _ => ?_
      repeat' first
        | refine Sep.LdI s (i := 0) rfl rfl rfl ?_
        | refine Sep.LdS s (i := 0) rfl rfl rfl ?_
        | refine Sep.LdB s (i := 0) rfl rfl rfl ?_
        | refine Sep.LdP s (i := 0) rfl rfl rfl ?_
        | refine And.intro (Sep.cell s (i := 0) rfl rfl rfl) ?_
        | refine Sep.LdI s (i := 1) rfl rfl rfl ?_
        | refine Sep.LdS s (i := 1) rfl rfl rfl ?_
        | refine Sep.LdB s (i := 1) rfl rfl rfl ?_
        | refine Sep.LdP s (i := 1) rfl rfl rfl ?_
        | refine And.intro (Sep.cell s (i := 1) rfl rfl rfl) ?_
        | refine Sep.LdI s (i := 2) rfl rfl rfl ?_
        | refine Sep.LdS s (i := 2) rfl rfl rfl ?_
        | refine Sep.LdB s (i := 2) rfl rfl rfl ?_
        | refine Sep.LdP s (i := 2) rfl rfl rfl ?_
        | refine And.intro (Sep.cell s (i := 2) rfl rfl rfl) ?_
        | refine Sep.LdI s (i := 3) rfl rfl rfl ?_
        | refine Sep.LdS s (i := 3) rfl rfl rfl ?_
        | refine Sep.LdB s (i := 3) rfl rfl rfl ?_
        | refine Sep.LdP s (i := 3) rfl rfl rfl ?_
        | refine And.intro (Sep.cell s (i := 3) rfl rfl rfl) ?_
        | refine Sep.LdI s (i := 4) rfl rfl rfl ?_
        | refine Sep.LdS s (i := 4) rfl rfl rfl ?_
        | refine Sep.LdB s (i := 4) rfl rfl rfl ?_
        | refine Sep.LdP s (i := 4) rfl rfl rfl ?_
        | refine And.intro (Sep.cell s (i := 4) rfl rfl rfl) ?_
        | refine Sep.LdI s (i := 5) rfl rfl rfl ?_
        | refine Sep.LdS s (i := 5) rfl rfl rfl ?_
        | refine Sep.LdB s (i := 5) rfl rfl rfl ?_
        | refine Sep.LdP s (i := 5) rfl rfl rfl ?_
        | refine And.intro (Sep.cell s (i := 5) rfl rfl rfl) ?_
        | (replace s := Sep.drew s; first
          | refine Sep.LdI s (i := 0) rfl rfl rfl ?_
          | refine Sep.LdS s (i := 0) rfl rfl rfl ?_
          | refine Sep.LdB s (i := 0) rfl rfl rfl ?_
          | refine Sep.LdP s (i := 0) rfl rfl rfl ?_
          | refine And.intro (Sep.cell s (i := 0) rfl rfl rfl) ?_
          | refine Sep.LdI s (i := 1) rfl rfl rfl ?_
          | refine Sep.LdS s (i := 1) rfl rfl rfl ?_
          | refine Sep.LdB s (i := 1) rfl rfl rfl ?_
          | refine Sep.LdP s (i := 1) rfl rfl rfl ?_
          | refine And.intro (Sep.cell s (i := 1) rfl rfl rfl) ?_
          | refine Sep.LdI s (i := 2) rfl rfl rfl ?_
          | refine Sep.LdS s (i := 2) rfl rfl rfl ?_
          | refine Sep.LdB s (i := 2) rfl rfl rfl ?_
          | refine Sep.LdP s (i := 2) rfl rfl rfl ?_
          | refine And.intro (Sep.cell s (i := 2) rfl rfl rfl) ?_
          | refine Sep.LdI s (i := 3) rfl rfl rfl ?_
          | refine Sep.LdS s (i := 3) rfl rfl rfl ?_
          | refine Sep.LdB s (i := 3) rfl rfl rfl ?_
          | refine Sep.LdP s (i := 3) rfl rfl rfl ?_
          | refine And.intro (Sep.cell s (i := 3) rfl rfl rfl) ?_
          | refine Sep.LdI s (i := 4) rfl rfl rfl ?_
          | refine Sep.LdS s (i := 4) rfl rfl rfl ?_
          | refine Sep.LdB s (i := 4) rfl rfl rfl ?_
          | refine Sep.LdP s (i := 4) rfl rfl rfl ?_
          | refine And.intro (Sep.cell s (i := 4) rfl rfl rfl) ?_
          | refine Sep.LdI s (i := 5) rfl rfl rfl ?_
          | refine Sep.LdS s (i := 5) rfl rfl rfl ?_
          | refine Sep.LdB s (i := 5) rfl rfl rfl ?_
          | refine Sep.LdP s (i := 5) rfl rfl rfl ?_
          | refine And.intro (Sep.cell s (i := 5) rfl rfl rfl) ?_)
      refine tile_At.spec s (Sep.argrow s (i := 3) rfl by8_len (by decide)) hys fun w s _ => ?_
      rw [atI_eq hm' (by omega) (by rw [List.length_set]; omega), atI_eq hm (by omega) (by omega), Int.toNat_natCast, gi_set (by omega), if_neg he, bne_self_eq_false, cond_false]
      exact ih (i + 1) _ (by omega) s
theorem Lays_b9_yes (hl : l < rn) (hn : rn ≤ 600) (hlen : ys.length = rn) (hys : ∀ x ∈ ys, 0 ≤ x ∧ x < 256) (hm : mayB tw th ys = true) (hc : 1 ≤ cost ∧ cost ≤ 255) (hQ : ∀ w', Sep No W w' [] → Q true w')
    (s : Sep No W w [blkA py 24 (tl tw th ya rn yc), rowA ya rn yc 5 1 (flat by8 (ys.set l cost)), blkA pw 24 (tl tw th wa rn wc), rowA wa rn wc 5 1 (flat by8 ys), blkA px 24 (tl tw th ra rn rc), rowA ra rn rc 5 1 (flat by8 ys)]) :
    herdsmanlaw2_TileLays.b9 Q l cost ⟨px, 0, none⟩ ⟨pw, 0, none⟩ ⟨py, 0, none⟩ true true w := by
  unfold herdsmanlaw2_TileLays.b9
  rw [show (!(true == true)) = false from rfl, cond_false]
  unfold tl at s
  repeat' first
    | refine Sep.LdI s (i := 0) rfl rfl rfl ?_
    | refine Sep.LdS s (i := 0) rfl rfl rfl ?_
    | refine Sep.LdB s (i := 0) rfl rfl rfl ?_
    | refine Sep.LdP s (i := 0) rfl rfl rfl ?_
    | refine And.intro (Sep.cell s (i := 0) rfl rfl rfl) ?_
    | refine Sep.LdI s (i := 1) rfl rfl rfl ?_
    | refine Sep.LdS s (i := 1) rfl rfl rfl ?_
    | refine Sep.LdB s (i := 1) rfl rfl rfl ?_
    | refine Sep.LdP s (i := 1) rfl rfl rfl ?_
    | refine And.intro (Sep.cell s (i := 1) rfl rfl rfl) ?_
    | refine Sep.LdI s (i := 2) rfl rfl rfl ?_
    | refine Sep.LdS s (i := 2) rfl rfl rfl ?_
    | refine Sep.LdB s (i := 2) rfl rfl rfl ?_
    | refine Sep.LdP s (i := 2) rfl rfl rfl ?_
    | refine And.intro (Sep.cell s (i := 2) rfl rfl rfl) ?_
    | refine Sep.LdI s (i := 3) rfl rfl rfl ?_
    | refine Sep.LdS s (i := 3) rfl rfl rfl ?_
    | refine Sep.LdB s (i := 3) rfl rfl rfl ?_
    | refine Sep.LdP s (i := 3) rfl rfl rfl ?_
    | refine And.intro (Sep.cell s (i := 3) rfl rfl rfl) ?_
    | refine Sep.LdI s (i := 4) rfl rfl rfl ?_
    | refine Sep.LdS s (i := 4) rfl rfl rfl ?_
    | refine Sep.LdB s (i := 4) rfl rfl rfl ?_
    | refine Sep.LdP s (i := 4) rfl rfl rfl ?_
    | refine And.intro (Sep.cell s (i := 4) rfl rfl rfl) ?_
    | refine Sep.LdI s (i := 5) rfl rfl rfl ?_
    | refine Sep.LdS s (i := 5) rfl rfl rfl ?_
    | refine Sep.LdB s (i := 5) rfl rfl rfl ?_
    | refine Sep.LdP s (i := 5) rfl rfl rfl ?_
    | refine And.intro (Sep.cell s (i := 5) rfl rfl rfl) ?_
    | (replace s := Sep.drew s; first
      | refine Sep.LdI s (i := 0) rfl rfl rfl ?_
      | refine Sep.LdS s (i := 0) rfl rfl rfl ?_
      | refine Sep.LdB s (i := 0) rfl rfl rfl ?_
      | refine Sep.LdP s (i := 0) rfl rfl rfl ?_
      | refine And.intro (Sep.cell s (i := 0) rfl rfl rfl) ?_
      | refine Sep.LdI s (i := 1) rfl rfl rfl ?_
      | refine Sep.LdS s (i := 1) rfl rfl rfl ?_
      | refine Sep.LdB s (i := 1) rfl rfl rfl ?_
      | refine Sep.LdP s (i := 1) rfl rfl rfl ?_
      | refine And.intro (Sep.cell s (i := 1) rfl rfl rfl) ?_
      | refine Sep.LdI s (i := 2) rfl rfl rfl ?_
      | refine Sep.LdS s (i := 2) rfl rfl rfl ?_
      | refine Sep.LdB s (i := 2) rfl rfl rfl ?_
      | refine Sep.LdP s (i := 2) rfl rfl rfl ?_
      | refine And.intro (Sep.cell s (i := 2) rfl rfl rfl) ?_
      | refine Sep.LdI s (i := 3) rfl rfl rfl ?_
      | refine Sep.LdS s (i := 3) rfl rfl rfl ?_
      | refine Sep.LdB s (i := 3) rfl rfl rfl ?_
      | refine Sep.LdP s (i := 3) rfl rfl rfl ?_
      | refine And.intro (Sep.cell s (i := 3) rfl rfl rfl) ?_
      | refine Sep.LdI s (i := 4) rfl rfl rfl ?_
      | refine Sep.LdS s (i := 4) rfl rfl rfl ?_
      | refine Sep.LdB s (i := 4) rfl rfl rfl ?_
      | refine Sep.LdP s (i := 4) rfl rfl rfl ?_
      | refine And.intro (Sep.cell s (i := 4) rfl rfl rfl) ?_
      | refine Sep.LdI s (i := 5) rfl rfl rfl ?_
      | refine Sep.LdS s (i := 5) rfl rfl rfl ?_
      | refine Sep.LdB s (i := 5) rfl rfl rfl ?_
      | refine Sep.LdP s (i := 5) rfl rfl rfl ?_
      | refine And.intro (Sep.cell s (i := 5) rfl rfl rfl) ?_)
  refine ref_SameTile.spec s (Sep.argrow s (i := 5) rfl by8_len (by decide)) (Sep.argrow s (i := 3) rfl by8_len (by decide)) hys hys fun w s _ => ?_
  rw [sameB_self, show (!true) = false from rfl, cond_false, cond_false]
  exact ⟨rn + 1, Lays_loop hl hn hlen hys hm hc hQ rn 0 w (by omega) (Sep.pick [0, 1, 4, 5] s rfl (by decide))⟩
theorem Lays_b6 {l cost : Int} (hn : rn ≤ 600) (hlen : ys.length = rn) (hys : ∀ x ∈ ys, 0 ≤ x ∧ x < 256) (hQ : ∀ w', Sep No W w' [] → Q true w') (s : Sep No W w [blkA px 24 (tl tw th ra rn rc), rowA ra rn rc 5 1 (flat by8 ys)]) :
    herdsmanlaw2_TileLays.b6 Q l cost ⟨px, 0, none⟩ w := by
  unfold herdsmanlaw2_TileLays.b6
  unfold tl at s
  have hac := fun h => rowA_none s (i := 1) rfl h
  repeat' first
    | refine Sep.LdI s (i := 0) rfl rfl rfl ?_
    | refine Sep.LdS s (i := 0) rfl rfl rfl ?_
    | refine Sep.LdB s (i := 0) rfl rfl rfl ?_
    | refine Sep.LdP s (i := 0) rfl rfl rfl ?_
    | refine And.intro (Sep.cell s (i := 0) rfl rfl rfl) ?_
    | refine Sep.LdI s (i := 1) rfl rfl rfl ?_
    | refine Sep.LdS s (i := 1) rfl rfl rfl ?_
    | refine Sep.LdB s (i := 1) rfl rfl rfl ?_
    | refine Sep.LdP s (i := 1) rfl rfl rfl ?_
    | refine And.intro (Sep.cell s (i := 1) rfl rfl rfl) ?_
    | refine Sep.LdI s (i := 2) rfl rfl rfl ?_
    | refine Sep.LdS s (i := 2) rfl rfl rfl ?_
    | refine Sep.LdB s (i := 2) rfl rfl rfl ?_
    | refine Sep.LdP s (i := 2) rfl rfl rfl ?_
    | refine And.intro (Sep.cell s (i := 2) rfl rfl rfl) ?_
    | refine Sep.LdI s (i := 3) rfl rfl rfl ?_
    | refine Sep.LdS s (i := 3) rfl rfl rfl ?_
    | refine Sep.LdB s (i := 3) rfl rfl rfl ?_
    | refine Sep.LdP s (i := 3) rfl rfl rfl ?_
    | refine And.intro (Sep.cell s (i := 3) rfl rfl rfl) ?_
    | refine Sep.LdI s (i := 4) rfl rfl rfl ?_
    | refine Sep.LdS s (i := 4) rfl rfl rfl ?_
    | refine Sep.LdB s (i := 4) rfl rfl rfl ?_
    | refine Sep.LdP s (i := 4) rfl rfl rfl ?_
    | refine And.intro (Sep.cell s (i := 4) rfl rfl rfl) ?_
    | refine Sep.LdI s (i := 5) rfl rfl rfl ?_
    | refine Sep.LdS s (i := 5) rfl rfl rfl ?_
    | refine Sep.LdB s (i := 5) rfl rfl rfl ?_
    | refine Sep.LdP s (i := 5) rfl rfl rfl ?_
    | refine And.intro (Sep.cell s (i := 5) rfl rfl rfl) ?_
    | (replace s := Sep.drew s; first
      | refine Sep.LdI s (i := 0) rfl rfl rfl ?_
      | refine Sep.LdS s (i := 0) rfl rfl rfl ?_
      | refine Sep.LdB s (i := 0) rfl rfl rfl ?_
      | refine Sep.LdP s (i := 0) rfl rfl rfl ?_
      | refine And.intro (Sep.cell s (i := 0) rfl rfl rfl) ?_
      | refine Sep.LdI s (i := 1) rfl rfl rfl ?_
      | refine Sep.LdS s (i := 1) rfl rfl rfl ?_
      | refine Sep.LdB s (i := 1) rfl rfl rfl ?_
      | refine Sep.LdP s (i := 1) rfl rfl rfl ?_
      | refine And.intro (Sep.cell s (i := 1) rfl rfl rfl) ?_
      | refine Sep.LdI s (i := 2) rfl rfl rfl ?_
      | refine Sep.LdS s (i := 2) rfl rfl rfl ?_
      | refine Sep.LdB s (i := 2) rfl rfl rfl ?_
      | refine Sep.LdP s (i := 2) rfl rfl rfl ?_
      | refine And.intro (Sep.cell s (i := 2) rfl rfl rfl) ?_
      | refine Sep.LdI s (i := 3) rfl rfl rfl ?_
      | refine Sep.LdS s (i := 3) rfl rfl rfl ?_
      | refine Sep.LdB s (i := 3) rfl rfl rfl ?_
      | refine Sep.LdP s (i := 3) rfl rfl rfl ?_
      | refine And.intro (Sep.cell s (i := 3) rfl rfl rfl) ?_
      | refine Sep.LdI s (i := 4) rfl rfl rfl ?_
      | refine Sep.LdS s (i := 4) rfl rfl rfl ?_
      | refine Sep.LdB s (i := 4) rfl rfl rfl ?_
      | refine Sep.LdP s (i := 4) rfl rfl rfl ?_
      | refine And.intro (Sep.cell s (i := 4) rfl rfl rfl) ?_
      | refine Sep.LdI s (i := 5) rfl rfl rfl ?_
      | refine Sep.LdS s (i := 5) rfl rfl rfl ?_
      | refine Sep.LdB s (i := 5) rfl rfl rfl ?_
      | refine Sep.LdP s (i := 5) rfl rfl rfl ?_
      | refine And.intro (Sep.cell s (i := 5) rfl rfl rfl) ?_)
  refine ref_OwnTile.spec s (Sep.argrow s (i := 1) rfl by8_len (by decide)) (by omega) hac fun wa wc w s _ => ?_
  repeat' first
    | refine Sep.LdI s (i := 0) rfl rfl rfl ?_
    | refine Sep.LdS s (i := 0) rfl rfl rfl ?_
    | refine Sep.LdB s (i := 0) rfl rfl rfl ?_
    | refine Sep.LdP s (i := 0) rfl rfl rfl ?_
    | refine And.intro (Sep.cell s (i := 0) rfl rfl rfl) ?_
    | refine Sep.LdI s (i := 1) rfl rfl rfl ?_
    | refine Sep.LdS s (i := 1) rfl rfl rfl ?_
    | refine Sep.LdB s (i := 1) rfl rfl rfl ?_
    | refine Sep.LdP s (i := 1) rfl rfl rfl ?_
    | refine And.intro (Sep.cell s (i := 1) rfl rfl rfl) ?_
    | refine Sep.LdI s (i := 2) rfl rfl rfl ?_
    | refine Sep.LdS s (i := 2) rfl rfl rfl ?_
    | refine Sep.LdB s (i := 2) rfl rfl rfl ?_
    | refine Sep.LdP s (i := 2) rfl rfl rfl ?_
    | refine And.intro (Sep.cell s (i := 2) rfl rfl rfl) ?_
    | refine Sep.LdI s (i := 3) rfl rfl rfl ?_
    | refine Sep.LdS s (i := 3) rfl rfl rfl ?_
    | refine Sep.LdB s (i := 3) rfl rfl rfl ?_
    | refine Sep.LdP s (i := 3) rfl rfl rfl ?_
    | refine And.intro (Sep.cell s (i := 3) rfl rfl rfl) ?_
    | refine Sep.LdI s (i := 4) rfl rfl rfl ?_
    | refine Sep.LdS s (i := 4) rfl rfl rfl ?_
    | refine Sep.LdB s (i := 4) rfl rfl rfl ?_
    | refine Sep.LdP s (i := 4) rfl rfl rfl ?_
    | refine And.intro (Sep.cell s (i := 4) rfl rfl rfl) ?_
    | refine Sep.LdI s (i := 5) rfl rfl rfl ?_
    | refine Sep.LdS s (i := 5) rfl rfl rfl ?_
    | refine Sep.LdB s (i := 5) rfl rfl rfl ?_
    | refine Sep.LdP s (i := 5) rfl rfl rfl ?_
    | refine And.intro (Sep.cell s (i := 5) rfl rfl rfl) ?_
    | (refine Sep.St s (i := 0) rfl rfl rfl fun w s => ?_; simp only [List.set_cons_zero, List.set_cons_succ] at s)
    | (refine Sep.St s (i := 1) rfl rfl rfl fun w s => ?_; simp only [List.set_cons_zero, List.set_cons_succ] at s)
    | (refine Sep.St s (i := 2) rfl rfl rfl fun w s => ?_; simp only [List.set_cons_zero, List.set_cons_succ] at s)
    | (refine Sep.St s (i := 3) rfl rfl rfl fun w s => ?_; simp only [List.set_cons_zero, List.set_cons_succ] at s)
    | (refine Sep.St s (i := 4) rfl rfl rfl fun w s => ?_; simp only [List.set_cons_zero, List.set_cons_succ] at s)
    | (refine Sep.St s (i := 5) rfl rfl rfl fun w s => ?_; simp only [List.set_cons_zero, List.set_cons_succ] at s)
    | refine Sep.Bx s fun b w s => ?_
    | (refine Sep.Al s fun b w s => ?_; simp only [zc24] at s)
    | (replace s := Sep.drew s; first
      | refine Sep.LdI s (i := 0) rfl rfl rfl ?_
      | refine Sep.LdS s (i := 0) rfl rfl rfl ?_
      | refine Sep.LdB s (i := 0) rfl rfl rfl ?_
      | refine Sep.LdP s (i := 0) rfl rfl rfl ?_
      | refine And.intro (Sep.cell s (i := 0) rfl rfl rfl) ?_
      | refine Sep.LdI s (i := 1) rfl rfl rfl ?_
      | refine Sep.LdS s (i := 1) rfl rfl rfl ?_
      | refine Sep.LdB s (i := 1) rfl rfl rfl ?_
      | refine Sep.LdP s (i := 1) rfl rfl rfl ?_
      | refine And.intro (Sep.cell s (i := 1) rfl rfl rfl) ?_
      | refine Sep.LdI s (i := 2) rfl rfl rfl ?_
      | refine Sep.LdS s (i := 2) rfl rfl rfl ?_
      | refine Sep.LdB s (i := 2) rfl rfl rfl ?_
      | refine Sep.LdP s (i := 2) rfl rfl rfl ?_
      | refine And.intro (Sep.cell s (i := 2) rfl rfl rfl) ?_
      | refine Sep.LdI s (i := 3) rfl rfl rfl ?_
      | refine Sep.LdS s (i := 3) rfl rfl rfl ?_
      | refine Sep.LdB s (i := 3) rfl rfl rfl ?_
      | refine Sep.LdP s (i := 3) rfl rfl rfl ?_
      | refine And.intro (Sep.cell s (i := 3) rfl rfl rfl) ?_
      | refine Sep.LdI s (i := 4) rfl rfl rfl ?_
      | refine Sep.LdS s (i := 4) rfl rfl rfl ?_
      | refine Sep.LdB s (i := 4) rfl rfl rfl ?_
      | refine Sep.LdP s (i := 4) rfl rfl rfl ?_
      | refine And.intro (Sep.cell s (i := 4) rfl rfl rfl) ?_
      | refine Sep.LdI s (i := 5) rfl rfl rfl ?_
      | refine Sep.LdS s (i := 5) rfl rfl rfl ?_
      | refine Sep.LdB s (i := 5) rfl rfl rfl ?_
      | refine Sep.LdP s (i := 5) rfl rfl rfl ?_
      | refine And.intro (Sep.cell s (i := 5) rfl rfl rfl) ?_
      | (refine Sep.St s (i := 0) rfl rfl rfl fun w s => ?_; simp only [List.set_cons_zero, List.set_cons_succ] at s)
      | (refine Sep.St s (i := 1) rfl rfl rfl fun w s => ?_; simp only [List.set_cons_zero, List.set_cons_succ] at s)
      | (refine Sep.St s (i := 2) rfl rfl rfl fun w s => ?_; simp only [List.set_cons_zero, List.set_cons_succ] at s)
      | (refine Sep.St s (i := 3) rfl rfl rfl fun w s => ?_; simp only [List.set_cons_zero, List.set_cons_succ] at s)
      | (refine Sep.St s (i := 4) rfl rfl rfl fun w s => ?_; simp only [List.set_cons_zero, List.set_cons_succ] at s)
      | (refine Sep.St s (i := 5) rfl rfl rfl fun w s => ?_; simp only [List.set_cons_zero, List.set_cons_succ] at s)
      | refine Sep.Bx s fun b w s => ?_
      | (refine Sep.Al s fun b w s => ?_; simp only [zc24] at s))
  refine tile_With.spec s (Sep.argrow s (i := 3) rfl by8_len (by decide)) (by omega) hac (fun e ya yc w s _ => ?_) (fun e w s _ => ?_)
  · obtain ⟨k1, k2⟩ := (Bool.and_eq_true ..).mp e
    obtain ⟨k3, k4⟩ := isB_iff.1 k1
    have k2 := of_decide_eq_true k2
    repeat' first
      | refine Sep.LdI s (i := 0) rfl rfl rfl ?_
      | refine Sep.LdS s (i := 0) rfl rfl rfl ?_
      | refine Sep.LdB s (i := 0) rfl rfl rfl ?_
      | refine Sep.LdP s (i := 0) rfl rfl rfl ?_
      | refine And.intro (Sep.cell s (i := 0) rfl rfl rfl) ?_
      | refine Sep.LdI s (i := 1) rfl rfl rfl ?_
      | refine Sep.LdS s (i := 1) rfl rfl rfl ?_
      | refine Sep.LdB s (i := 1) rfl rfl rfl ?_
      | refine Sep.LdP s (i := 1) rfl rfl rfl ?_
      | refine And.intro (Sep.cell s (i := 1) rfl rfl rfl) ?_
      | refine Sep.LdI s (i := 2) rfl rfl rfl ?_
      | refine Sep.LdS s (i := 2) rfl rfl rfl ?_
      | refine Sep.LdB s (i := 2) rfl rfl rfl ?_
      | refine Sep.LdP s (i := 2) rfl rfl rfl ?_
      | refine And.intro (Sep.cell s (i := 2) rfl rfl rfl) ?_
      | refine Sep.LdI s (i := 3) rfl rfl rfl ?_
      | refine Sep.LdS s (i := 3) rfl rfl rfl ?_
      | refine Sep.LdB s (i := 3) rfl rfl rfl ?_
      | refine Sep.LdP s (i := 3) rfl rfl rfl ?_
      | refine And.intro (Sep.cell s (i := 3) rfl rfl rfl) ?_
      | refine Sep.LdI s (i := 4) rfl rfl rfl ?_
      | refine Sep.LdS s (i := 4) rfl rfl rfl ?_
      | refine Sep.LdB s (i := 4) rfl rfl rfl ?_
      | refine Sep.LdP s (i := 4) rfl rfl rfl ?_
      | refine And.intro (Sep.cell s (i := 4) rfl rfl rfl) ?_
      | refine Sep.LdI s (i := 5) rfl rfl rfl ?_
      | refine Sep.LdS s (i := 5) rfl rfl rfl ?_
      | refine Sep.LdB s (i := 5) rfl rfl rfl ?_
      | refine Sep.LdP s (i := 5) rfl rfl rfl ?_
      | refine And.intro (Sep.cell s (i := 5) rfl rfl rfl) ?_
      | (refine Sep.St s (i := 0) rfl rfl rfl fun w s => ?_; simp only [List.set_cons_zero, List.set_cons_succ] at s)
      | (refine Sep.St s (i := 1) rfl rfl rfl fun w s => ?_; simp only [List.set_cons_zero, List.set_cons_succ] at s)
      | (refine Sep.St s (i := 2) rfl rfl rfl fun w s => ?_; simp only [List.set_cons_zero, List.set_cons_succ] at s)
      | (refine Sep.St s (i := 3) rfl rfl rfl fun w s => ?_; simp only [List.set_cons_zero, List.set_cons_succ] at s)
      | (refine Sep.St s (i := 4) rfl rfl rfl fun w s => ?_; simp only [List.set_cons_zero, List.set_cons_succ] at s)
      | (refine Sep.St s (i := 5) rfl rfl rfl fun w s => ?_; simp only [List.set_cons_zero, List.set_cons_succ] at s)
      | refine Sep.Bx s fun b w s => ?_
      | (refine Sep.Al s fun b w s => ?_; simp only [zc24] at s)
      | (replace s := Sep.drew s; first
        | refine Sep.LdI s (i := 0) rfl rfl rfl ?_
        | refine Sep.LdS s (i := 0) rfl rfl rfl ?_
        | refine Sep.LdB s (i := 0) rfl rfl rfl ?_
        | refine Sep.LdP s (i := 0) rfl rfl rfl ?_
        | refine And.intro (Sep.cell s (i := 0) rfl rfl rfl) ?_
        | refine Sep.LdI s (i := 1) rfl rfl rfl ?_
        | refine Sep.LdS s (i := 1) rfl rfl rfl ?_
        | refine Sep.LdB s (i := 1) rfl rfl rfl ?_
        | refine Sep.LdP s (i := 1) rfl rfl rfl ?_
        | refine And.intro (Sep.cell s (i := 1) rfl rfl rfl) ?_
        | refine Sep.LdI s (i := 2) rfl rfl rfl ?_
        | refine Sep.LdS s (i := 2) rfl rfl rfl ?_
        | refine Sep.LdB s (i := 2) rfl rfl rfl ?_
        | refine Sep.LdP s (i := 2) rfl rfl rfl ?_
        | refine And.intro (Sep.cell s (i := 2) rfl rfl rfl) ?_
        | refine Sep.LdI s (i := 3) rfl rfl rfl ?_
        | refine Sep.LdS s (i := 3) rfl rfl rfl ?_
        | refine Sep.LdB s (i := 3) rfl rfl rfl ?_
        | refine Sep.LdP s (i := 3) rfl rfl rfl ?_
        | refine And.intro (Sep.cell s (i := 3) rfl rfl rfl) ?_
        | refine Sep.LdI s (i := 4) rfl rfl rfl ?_
        | refine Sep.LdS s (i := 4) rfl rfl rfl ?_
        | refine Sep.LdB s (i := 4) rfl rfl rfl ?_
        | refine Sep.LdP s (i := 4) rfl rfl rfl ?_
        | refine And.intro (Sep.cell s (i := 4) rfl rfl rfl) ?_
        | refine Sep.LdI s (i := 5) rfl rfl rfl ?_
        | refine Sep.LdS s (i := 5) rfl rfl rfl ?_
        | refine Sep.LdB s (i := 5) rfl rfl rfl ?_
        | refine Sep.LdP s (i := 5) rfl rfl rfl ?_
        | refine And.intro (Sep.cell s (i := 5) rfl rfl rfl) ?_
        | (refine Sep.St s (i := 0) rfl rfl rfl fun w s => ?_; simp only [List.set_cons_zero, List.set_cons_succ] at s)
        | (refine Sep.St s (i := 1) rfl rfl rfl fun w s => ?_; simp only [List.set_cons_zero, List.set_cons_succ] at s)
        | (refine Sep.St s (i := 2) rfl rfl rfl fun w s => ?_; simp only [List.set_cons_zero, List.set_cons_succ] at s)
        | (refine Sep.St s (i := 3) rfl rfl rfl fun w s => ?_; simp only [List.set_cons_zero, List.set_cons_succ] at s)
        | (refine Sep.St s (i := 4) rfl rfl rfl fun w s => ?_; simp only [List.set_cons_zero, List.set_cons_succ] at s)
        | (refine Sep.St s (i := 5) rfl rfl rfl fun w s => ?_; simp only [List.set_cons_zero, List.set_cons_succ] at s)
        | refine Sep.Bx s fun b w s => ?_
        | (refine Sep.Al s fun b w s => ?_; simp only [zc24] at s))
    refine tile_May.spec s (Sep.argrow s (i := 5) rfl by8_len (by decide)) fun w s _ => ?_
    rw [k4, cond_true, decide_eq_true (by omega), cond_true]
    repeat' first
      | refine Sep.LdI s (i := 0) rfl rfl rfl ?_
      | refine Sep.LdS s (i := 0) rfl rfl rfl ?_
      | refine Sep.LdB s (i := 0) rfl rfl rfl ?_
      | refine Sep.LdP s (i := 0) rfl rfl rfl ?_
      | refine And.intro (Sep.cell s (i := 0) rfl rfl rfl) ?_
      | refine Sep.LdI s (i := 1) rfl rfl rfl ?_
      | refine Sep.LdS s (i := 1) rfl rfl rfl ?_
      | refine Sep.LdB s (i := 1) rfl rfl rfl ?_
      | refine Sep.LdP s (i := 1) rfl rfl rfl ?_
      | refine And.intro (Sep.cell s (i := 1) rfl rfl rfl) ?_
      | refine Sep.LdI s (i := 2) rfl rfl rfl ?_
      | refine Sep.LdS s (i := 2) rfl rfl rfl ?_
      | refine Sep.LdB s (i := 2) rfl rfl rfl ?_
      | refine Sep.LdP s (i := 2) rfl rfl rfl ?_
      | refine And.intro (Sep.cell s (i := 2) rfl rfl rfl) ?_
      | refine Sep.LdI s (i := 3) rfl rfl rfl ?_
      | refine Sep.LdS s (i := 3) rfl rfl rfl ?_
      | refine Sep.LdB s (i := 3) rfl rfl rfl ?_
      | refine Sep.LdP s (i := 3) rfl rfl rfl ?_
      | refine And.intro (Sep.cell s (i := 3) rfl rfl rfl) ?_
      | refine Sep.LdI s (i := 4) rfl rfl rfl ?_
      | refine Sep.LdS s (i := 4) rfl rfl rfl ?_
      | refine Sep.LdB s (i := 4) rfl rfl rfl ?_
      | refine Sep.LdP s (i := 4) rfl rfl rfl ?_
      | refine And.intro (Sep.cell s (i := 4) rfl rfl rfl) ?_
      | refine Sep.LdI s (i := 5) rfl rfl rfl ?_
      | refine Sep.LdS s (i := 5) rfl rfl rfl ?_
      | refine Sep.LdB s (i := 5) rfl rfl rfl ?_
      | refine Sep.LdP s (i := 5) rfl rfl rfl ?_
      | refine And.intro (Sep.cell s (i := 5) rfl rfl rfl) ?_
      | (replace s := Sep.drew s; first
        | refine Sep.LdI s (i := 0) rfl rfl rfl ?_
        | refine Sep.LdS s (i := 0) rfl rfl rfl ?_
        | refine Sep.LdB s (i := 0) rfl rfl rfl ?_
        | refine Sep.LdP s (i := 0) rfl rfl rfl ?_
        | refine And.intro (Sep.cell s (i := 0) rfl rfl rfl) ?_
        | refine Sep.LdI s (i := 1) rfl rfl rfl ?_
        | refine Sep.LdS s (i := 1) rfl rfl rfl ?_
        | refine Sep.LdB s (i := 1) rfl rfl rfl ?_
        | refine Sep.LdP s (i := 1) rfl rfl rfl ?_
        | refine And.intro (Sep.cell s (i := 1) rfl rfl rfl) ?_
        | refine Sep.LdI s (i := 2) rfl rfl rfl ?_
        | refine Sep.LdS s (i := 2) rfl rfl rfl ?_
        | refine Sep.LdB s (i := 2) rfl rfl rfl ?_
        | refine Sep.LdP s (i := 2) rfl rfl rfl ?_
        | refine And.intro (Sep.cell s (i := 2) rfl rfl rfl) ?_
        | refine Sep.LdI s (i := 3) rfl rfl rfl ?_
        | refine Sep.LdS s (i := 3) rfl rfl rfl ?_
        | refine Sep.LdB s (i := 3) rfl rfl rfl ?_
        | refine Sep.LdP s (i := 3) rfl rfl rfl ?_
        | refine And.intro (Sep.cell s (i := 3) rfl rfl rfl) ?_
        | refine Sep.LdI s (i := 4) rfl rfl rfl ?_
        | refine Sep.LdS s (i := 4) rfl rfl rfl ?_
        | refine Sep.LdB s (i := 4) rfl rfl rfl ?_
        | refine Sep.LdP s (i := 4) rfl rfl rfl ?_
        | refine And.intro (Sep.cell s (i := 4) rfl rfl rfl) ?_
        | refine Sep.LdI s (i := 5) rfl rfl rfl ?_
        | refine Sep.LdS s (i := 5) rfl rfl rfl ?_
        | refine Sep.LdB s (i := 5) rfl rfl rfl ?_
        | refine Sep.LdP s (i := 5) rfl rfl rfl ?_
        | refine And.intro (Sep.cell s (i := 5) rfl rfl rfl) ?_)
    rw [decide_eq_true (by omega), cond_true, decide_eq_true (by omega), cond_true, decide_eq_true (by omega)]
    obtain ⟨i, rfl⟩ : ∃ i : Nat, l = i := ⟨l.toNat, by omega⟩
    exact Lays_b9_yes (l := i) (by omega) hn hlen hys k4 k2 hQ s
  · repeat' first
      | refine Sep.LdI s (i := 0) rfl rfl rfl ?_
      | refine Sep.LdS s (i := 0) rfl rfl rfl ?_
      | refine Sep.LdB s (i := 0) rfl rfl rfl ?_
      | refine Sep.LdP s (i := 0) rfl rfl rfl ?_
      | refine And.intro (Sep.cell s (i := 0) rfl rfl rfl) ?_
      | refine Sep.LdI s (i := 1) rfl rfl rfl ?_
      | refine Sep.LdS s (i := 1) rfl rfl rfl ?_
      | refine Sep.LdB s (i := 1) rfl rfl rfl ?_
      | refine Sep.LdP s (i := 1) rfl rfl rfl ?_
      | refine And.intro (Sep.cell s (i := 1) rfl rfl rfl) ?_
      | refine Sep.LdI s (i := 2) rfl rfl rfl ?_
      | refine Sep.LdS s (i := 2) rfl rfl rfl ?_
      | refine Sep.LdB s (i := 2) rfl rfl rfl ?_
      | refine Sep.LdP s (i := 2) rfl rfl rfl ?_
      | refine And.intro (Sep.cell s (i := 2) rfl rfl rfl) ?_
      | refine Sep.LdI s (i := 3) rfl rfl rfl ?_
      | refine Sep.LdS s (i := 3) rfl rfl rfl ?_
      | refine Sep.LdB s (i := 3) rfl rfl rfl ?_
      | refine Sep.LdP s (i := 3) rfl rfl rfl ?_
      | refine And.intro (Sep.cell s (i := 3) rfl rfl rfl) ?_
      | refine Sep.LdI s (i := 4) rfl rfl rfl ?_
      | refine Sep.LdS s (i := 4) rfl rfl rfl ?_
      | refine Sep.LdB s (i := 4) rfl rfl rfl ?_
      | refine Sep.LdP s (i := 4) rfl rfl rfl ?_
      | refine And.intro (Sep.cell s (i := 4) rfl rfl rfl) ?_
      | refine Sep.LdI s (i := 5) rfl rfl rfl ?_
      | refine Sep.LdS s (i := 5) rfl rfl rfl ?_
      | refine Sep.LdB s (i := 5) rfl rfl rfl ?_
      | refine Sep.LdP s (i := 5) rfl rfl rfl ?_
      | refine And.intro (Sep.cell s (i := 5) rfl rfl rfl) ?_
      | (refine Sep.St s (i := 0) rfl rfl rfl fun w s => ?_; simp only [List.set_cons_zero, List.set_cons_succ] at s)
      | (refine Sep.St s (i := 1) rfl rfl rfl fun w s => ?_; simp only [List.set_cons_zero, List.set_cons_succ] at s)
      | (refine Sep.St s (i := 2) rfl rfl rfl fun w s => ?_; simp only [List.set_cons_zero, List.set_cons_succ] at s)
      | (refine Sep.St s (i := 3) rfl rfl rfl fun w s => ?_; simp only [List.set_cons_zero, List.set_cons_succ] at s)
      | (refine Sep.St s (i := 4) rfl rfl rfl fun w s => ?_; simp only [List.set_cons_zero, List.set_cons_succ] at s)
      | (refine Sep.St s (i := 5) rfl rfl rfl fun w s => ?_; simp only [List.set_cons_zero, List.set_cons_succ] at s)
      | refine Sep.Bx s fun b w s => ?_
      | (refine Sep.Al s fun b w s => ?_; simp only [zc24] at s)
      | (replace s := Sep.drew s; first
        | refine Sep.LdI s (i := 0) rfl rfl rfl ?_
        | refine Sep.LdS s (i := 0) rfl rfl rfl ?_
        | refine Sep.LdB s (i := 0) rfl rfl rfl ?_
        | refine Sep.LdP s (i := 0) rfl rfl rfl ?_
        | refine And.intro (Sep.cell s (i := 0) rfl rfl rfl) ?_
        | refine Sep.LdI s (i := 1) rfl rfl rfl ?_
        | refine Sep.LdS s (i := 1) rfl rfl rfl ?_
        | refine Sep.LdB s (i := 1) rfl rfl rfl ?_
        | refine Sep.LdP s (i := 1) rfl rfl rfl ?_
        | refine And.intro (Sep.cell s (i := 1) rfl rfl rfl) ?_
        | refine Sep.LdI s (i := 2) rfl rfl rfl ?_
        | refine Sep.LdS s (i := 2) rfl rfl rfl ?_
        | refine Sep.LdB s (i := 2) rfl rfl rfl ?_
        | refine Sep.LdP s (i := 2) rfl rfl rfl ?_
        | refine And.intro (Sep.cell s (i := 2) rfl rfl rfl) ?_
        | refine Sep.LdI s (i := 3) rfl rfl rfl ?_
        | refine Sep.LdS s (i := 3) rfl rfl rfl ?_
        | refine Sep.LdB s (i := 3) rfl rfl rfl ?_
        | refine Sep.LdP s (i := 3) rfl rfl rfl ?_
        | refine And.intro (Sep.cell s (i := 3) rfl rfl rfl) ?_
        | refine Sep.LdI s (i := 4) rfl rfl rfl ?_
        | refine Sep.LdS s (i := 4) rfl rfl rfl ?_
        | refine Sep.LdB s (i := 4) rfl rfl rfl ?_
        | refine Sep.LdP s (i := 4) rfl rfl rfl ?_
        | refine And.intro (Sep.cell s (i := 4) rfl rfl rfl) ?_
        | refine Sep.LdI s (i := 5) rfl rfl rfl ?_
        | refine Sep.LdS s (i := 5) rfl rfl rfl ?_
        | refine Sep.LdB s (i := 5) rfl rfl rfl ?_
        | refine Sep.LdP s (i := 5) rfl rfl rfl ?_
        | refine And.intro (Sep.cell s (i := 5) rfl rfl rfl) ?_
        | (refine Sep.St s (i := 0) rfl rfl rfl fun w s => ?_; simp only [List.set_cons_zero, List.set_cons_succ] at s)
        | (refine Sep.St s (i := 1) rfl rfl rfl fun w s => ?_; simp only [List.set_cons_zero, List.set_cons_succ] at s)
        | (refine Sep.St s (i := 2) rfl rfl rfl fun w s => ?_; simp only [List.set_cons_zero, List.set_cons_succ] at s)
        | (refine Sep.St s (i := 3) rfl rfl rfl fun w s => ?_; simp only [List.set_cons_zero, List.set_cons_succ] at s)
        | (refine Sep.St s (i := 4) rfl rfl rfl fun w s => ?_; simp only [List.set_cons_zero, List.set_cons_succ] at s)
        | (refine Sep.St s (i := 5) rfl rfl rfl fun w s => ?_; simp only [List.set_cons_zero, List.set_cons_succ] at s)
        | refine Sep.Bx s fun b w s => ?_
        | (refine Sep.Al s fun b w s => ?_; simp only [zc24] at s))
    refine tile_May.spec s (Sep.argrow s (i := 4) rfl by8_len (by decide)) fun w s _ => ?_
    have no := Lays_b9_no (l := l) (cost := cost) hys hQ s
    cases hm : mayB tw th ys with
    | false => exact no
    | true =>
      rw [cond_true]
      by_cases h1 : l ≥ 0
      · rw [decide_eq_true h1, cond_true]
        repeat' first
          | refine Sep.LdI s (i := 0) rfl rfl rfl ?_
          | refine Sep.LdS s (i := 0) rfl rfl rfl ?_
          | refine Sep.LdB s (i := 0) rfl rfl rfl ?_
          | refine Sep.LdP s (i := 0) rfl rfl rfl ?_
          | refine And.intro (Sep.cell s (i := 0) rfl rfl rfl) ?_
          | refine Sep.LdI s (i := 1) rfl rfl rfl ?_
          | refine Sep.LdS s (i := 1) rfl rfl rfl ?_
          | refine Sep.LdB s (i := 1) rfl rfl rfl ?_
          | refine Sep.LdP s (i := 1) rfl rfl rfl ?_
          | refine And.intro (Sep.cell s (i := 1) rfl rfl rfl) ?_
          | refine Sep.LdI s (i := 2) rfl rfl rfl ?_
          | refine Sep.LdS s (i := 2) rfl rfl rfl ?_
          | refine Sep.LdB s (i := 2) rfl rfl rfl ?_
          | refine Sep.LdP s (i := 2) rfl rfl rfl ?_
          | refine And.intro (Sep.cell s (i := 2) rfl rfl rfl) ?_
          | refine Sep.LdI s (i := 3) rfl rfl rfl ?_
          | refine Sep.LdS s (i := 3) rfl rfl rfl ?_
          | refine Sep.LdB s (i := 3) rfl rfl rfl ?_
          | refine Sep.LdP s (i := 3) rfl rfl rfl ?_
          | refine And.intro (Sep.cell s (i := 3) rfl rfl rfl) ?_
          | refine Sep.LdI s (i := 4) rfl rfl rfl ?_
          | refine Sep.LdS s (i := 4) rfl rfl rfl ?_
          | refine Sep.LdB s (i := 4) rfl rfl rfl ?_
          | refine Sep.LdP s (i := 4) rfl rfl rfl ?_
          | refine And.intro (Sep.cell s (i := 4) rfl rfl rfl) ?_
          | refine Sep.LdI s (i := 5) rfl rfl rfl ?_
          | refine Sep.LdS s (i := 5) rfl rfl rfl ?_
          | refine Sep.LdB s (i := 5) rfl rfl rfl ?_
          | refine Sep.LdP s (i := 5) rfl rfl rfl ?_
          | refine And.intro (Sep.cell s (i := 5) rfl rfl rfl) ?_
          | (replace s := Sep.drew s; first
            | refine Sep.LdI s (i := 0) rfl rfl rfl ?_
            | refine Sep.LdS s (i := 0) rfl rfl rfl ?_
            | refine Sep.LdB s (i := 0) rfl rfl rfl ?_
            | refine Sep.LdP s (i := 0) rfl rfl rfl ?_
            | refine And.intro (Sep.cell s (i := 0) rfl rfl rfl) ?_
            | refine Sep.LdI s (i := 1) rfl rfl rfl ?_
            | refine Sep.LdS s (i := 1) rfl rfl rfl ?_
            | refine Sep.LdB s (i := 1) rfl rfl rfl ?_
            | refine Sep.LdP s (i := 1) rfl rfl rfl ?_
            | refine And.intro (Sep.cell s (i := 1) rfl rfl rfl) ?_
            | refine Sep.LdI s (i := 2) rfl rfl rfl ?_
            | refine Sep.LdS s (i := 2) rfl rfl rfl ?_
            | refine Sep.LdB s (i := 2) rfl rfl rfl ?_
            | refine Sep.LdP s (i := 2) rfl rfl rfl ?_
            | refine And.intro (Sep.cell s (i := 2) rfl rfl rfl) ?_
            | refine Sep.LdI s (i := 3) rfl rfl rfl ?_
            | refine Sep.LdS s (i := 3) rfl rfl rfl ?_
            | refine Sep.LdB s (i := 3) rfl rfl rfl ?_
            | refine Sep.LdP s (i := 3) rfl rfl rfl ?_
            | refine And.intro (Sep.cell s (i := 3) rfl rfl rfl) ?_
            | refine Sep.LdI s (i := 4) rfl rfl rfl ?_
            | refine Sep.LdS s (i := 4) rfl rfl rfl ?_
            | refine Sep.LdB s (i := 4) rfl rfl rfl ?_
            | refine Sep.LdP s (i := 4) rfl rfl rfl ?_
            | refine And.intro (Sep.cell s (i := 4) rfl rfl rfl) ?_
            | refine Sep.LdI s (i := 5) rfl rfl rfl ?_
            | refine Sep.LdS s (i := 5) rfl rfl rfl ?_
            | refine Sep.LdB s (i := 5) rfl rfl rfl ?_
            | refine Sep.LdP s (i := 5) rfl rfl rfl ?_
            | refine And.intro (Sep.cell s (i := 5) rfl rfl rfl) ?_)
        by_cases h2 : l < rn
        · rw [decide_eq_true h2, cond_true]
          have hb : isB tw th ys l = true := isB_iff.2 ⟨by omega, hm⟩
          unfold withB at e
          rw [hb, Bool.true_and] at e
          have e := of_decide_eq_false e
          by_cases h3 : cost ≥ 1
          · rw [decide_eq_true h3, cond_true, decide_eq_false (by omega)]
            exact no
          · rw [decide_eq_false h3, cond_false]
            exact no
        · rw [decide_eq_false h2, cond_false]
          exact no
      · rw [decide_eq_false h1, cond_false]
        exact no
theorem herdsmanlaw2_TileLays.spec {a : Option Addr} {n c : Nat} {cs : List Int} {w1 h1 l cost : Int} {raw : Bool} (hA : ArgRow W a n 1 by8 cs) (hcs : ∀ x ∈ cs, 0 ≤ x ∧ x < 256) (hac : a = none → c = 0) (hQ : ∀ w', Sep No W w' [] → Q true w') :
    herdsmanlaw2_TileLays.call tw th a n c w1 h1 l cost raw W Q := by
  refine herdsmanlaw2_TileLays.body _ _ _ _ _ _ _ _ _ _ _ _ ?_
  unfold herdsmanlaw2_TileLays.sh
  have s := Sep.nil (F := No) (w := W)
  repeat' first
    | refine Sep.LdI s (i := 0) rfl rfl rfl ?_
    | refine Sep.LdS s (i := 0) rfl rfl rfl ?_
    | refine Sep.LdB s (i := 0) rfl rfl rfl ?_
    | refine Sep.LdP s (i := 0) rfl rfl rfl ?_
    | refine And.intro (Sep.cell s (i := 0) rfl rfl rfl) ?_
    | refine Sep.LdI s (i := 1) rfl rfl rfl ?_
    | refine Sep.LdS s (i := 1) rfl rfl rfl ?_
    | refine Sep.LdB s (i := 1) rfl rfl rfl ?_
    | refine Sep.LdP s (i := 1) rfl rfl rfl ?_
    | refine And.intro (Sep.cell s (i := 1) rfl rfl rfl) ?_
    | refine Sep.LdI s (i := 2) rfl rfl rfl ?_
    | refine Sep.LdS s (i := 2) rfl rfl rfl ?_
    | refine Sep.LdB s (i := 2) rfl rfl rfl ?_
    | refine Sep.LdP s (i := 2) rfl rfl rfl ?_
    | refine And.intro (Sep.cell s (i := 2) rfl rfl rfl) ?_
    | refine Sep.LdI s (i := 3) rfl rfl rfl ?_
    | refine Sep.LdS s (i := 3) rfl rfl rfl ?_
    | refine Sep.LdB s (i := 3) rfl rfl rfl ?_
    | refine Sep.LdP s (i := 3) rfl rfl rfl ?_
    | refine And.intro (Sep.cell s (i := 3) rfl rfl rfl) ?_
    | refine Sep.LdI s (i := 4) rfl rfl rfl ?_
    | refine Sep.LdS s (i := 4) rfl rfl rfl ?_
    | refine Sep.LdB s (i := 4) rfl rfl rfl ?_
    | refine Sep.LdP s (i := 4) rfl rfl rfl ?_
    | refine And.intro (Sep.cell s (i := 4) rfl rfl rfl) ?_
    | refine Sep.LdI s (i := 5) rfl rfl rfl ?_
    | refine Sep.LdS s (i := 5) rfl rfl rfl ?_
    | refine Sep.LdB s (i := 5) rfl rfl rfl ?_
    | refine Sep.LdP s (i := 5) rfl rfl rfl ?_
    | refine And.intro (Sep.cell s (i := 5) rfl rfl rfl) ?_
    | (refine Sep.St s (i := 0) rfl rfl rfl fun w s => ?_; simp only [List.set_cons_zero, List.set_cons_succ] at s)
    | (refine Sep.St s (i := 1) rfl rfl rfl fun w s => ?_; simp only [List.set_cons_zero, List.set_cons_succ] at s)
    | (refine Sep.St s (i := 2) rfl rfl rfl fun w s => ?_; simp only [List.set_cons_zero, List.set_cons_succ] at s)
    | (refine Sep.St s (i := 3) rfl rfl rfl fun w s => ?_; simp only [List.set_cons_zero, List.set_cons_succ] at s)
    | (refine Sep.St s (i := 4) rfl rfl rfl fun w s => ?_; simp only [List.set_cons_zero, List.set_cons_succ] at s)
    | (refine Sep.St s (i := 5) rfl rfl rfl fun w s => ?_; simp only [List.set_cons_zero, List.set_cons_succ] at s)
    | refine Sep.Bx s fun b w s => ?_
    | (refine Sep.Al s fun b w s => ?_; simp only [zc24] at s)
    | (replace s := Sep.drew s; first
      | refine Sep.LdI s (i := 0) rfl rfl rfl ?_
      | refine Sep.LdS s (i := 0) rfl rfl rfl ?_
      | refine Sep.LdB s (i := 0) rfl rfl rfl ?_
      | refine Sep.LdP s (i := 0) rfl rfl rfl ?_
      | refine And.intro (Sep.cell s (i := 0) rfl rfl rfl) ?_
      | refine Sep.LdI s (i := 1) rfl rfl rfl ?_
      | refine Sep.LdS s (i := 1) rfl rfl rfl ?_
      | refine Sep.LdB s (i := 1) rfl rfl rfl ?_
      | refine Sep.LdP s (i := 1) rfl rfl rfl ?_
      | refine And.intro (Sep.cell s (i := 1) rfl rfl rfl) ?_
      | refine Sep.LdI s (i := 2) rfl rfl rfl ?_
      | refine Sep.LdS s (i := 2) rfl rfl rfl ?_
      | refine Sep.LdB s (i := 2) rfl rfl rfl ?_
      | refine Sep.LdP s (i := 2) rfl rfl rfl ?_
      | refine And.intro (Sep.cell s (i := 2) rfl rfl rfl) ?_
      | refine Sep.LdI s (i := 3) rfl rfl rfl ?_
      | refine Sep.LdS s (i := 3) rfl rfl rfl ?_
      | refine Sep.LdB s (i := 3) rfl rfl rfl ?_
      | refine Sep.LdP s (i := 3) rfl rfl rfl ?_
      | refine And.intro (Sep.cell s (i := 3) rfl rfl rfl) ?_
      | refine Sep.LdI s (i := 4) rfl rfl rfl ?_
      | refine Sep.LdS s (i := 4) rfl rfl rfl ?_
      | refine Sep.LdB s (i := 4) rfl rfl rfl ?_
      | refine Sep.LdP s (i := 4) rfl rfl rfl ?_
      | refine And.intro (Sep.cell s (i := 4) rfl rfl rfl) ?_
      | refine Sep.LdI s (i := 5) rfl rfl rfl ?_
      | refine Sep.LdS s (i := 5) rfl rfl rfl ?_
      | refine Sep.LdB s (i := 5) rfl rfl rfl ?_
      | refine Sep.LdP s (i := 5) rfl rfl rfl ?_
      | refine And.intro (Sep.cell s (i := 5) rfl rfl rfl) ?_
      | (refine Sep.St s (i := 0) rfl rfl rfl fun w s => ?_; simp only [List.set_cons_zero, List.set_cons_succ] at s)
      | (refine Sep.St s (i := 1) rfl rfl rfl fun w s => ?_; simp only [List.set_cons_zero, List.set_cons_succ] at s)
      | (refine Sep.St s (i := 2) rfl rfl rfl fun w s => ?_; simp only [List.set_cons_zero, List.set_cons_succ] at s)
      | (refine Sep.St s (i := 3) rfl rfl rfl fun w s => ?_; simp only [List.set_cons_zero, List.set_cons_succ] at s)
      | (refine Sep.St s (i := 4) rfl rfl rfl fun w s => ?_; simp only [List.set_cons_zero, List.set_cons_succ] at s)
      | (refine Sep.St s (i := 5) rfl rfl rfl fun w s => ?_; simp only [List.set_cons_zero, List.set_cons_succ] at s)
      | refine Sep.Bx s fun b w s => ?_
      | (refine Sep.Al s fun b w s => ?_; simp only [zc24] at s))
  by_cases hn : (n : Int) > 600
  · rw [decide_eq_true hn, cond_true]
    exact herdsmanlaw2_told.spec s fun w2 s2 _ => hQ w2 (Sep.drop s2)
  · rw [decide_eq_false hn, cond_false]
    repeat' first
      | refine Sep.LdI s (i := 0) rfl rfl rfl ?_
      | refine Sep.LdS s (i := 0) rfl rfl rfl ?_
      | refine Sep.LdB s (i := 0) rfl rfl rfl ?_
      | refine Sep.LdP s (i := 0) rfl rfl rfl ?_
      | refine And.intro (Sep.cell s (i := 0) rfl rfl rfl) ?_
      | refine Sep.LdI s (i := 1) rfl rfl rfl ?_
      | refine Sep.LdS s (i := 1) rfl rfl rfl ?_
      | refine Sep.LdB s (i := 1) rfl rfl rfl ?_
      | refine Sep.LdP s (i := 1) rfl rfl rfl ?_
      | refine And.intro (Sep.cell s (i := 1) rfl rfl rfl) ?_
      | refine Sep.LdI s (i := 2) rfl rfl rfl ?_
      | refine Sep.LdS s (i := 2) rfl rfl rfl ?_
      | refine Sep.LdB s (i := 2) rfl rfl rfl ?_
      | refine Sep.LdP s (i := 2) rfl rfl rfl ?_
      | refine And.intro (Sep.cell s (i := 2) rfl rfl rfl) ?_
      | refine Sep.LdI s (i := 3) rfl rfl rfl ?_
      | refine Sep.LdS s (i := 3) rfl rfl rfl ?_
      | refine Sep.LdB s (i := 3) rfl rfl rfl ?_
      | refine Sep.LdP s (i := 3) rfl rfl rfl ?_
      | refine And.intro (Sep.cell s (i := 3) rfl rfl rfl) ?_
      | refine Sep.LdI s (i := 4) rfl rfl rfl ?_
      | refine Sep.LdS s (i := 4) rfl rfl rfl ?_
      | refine Sep.LdB s (i := 4) rfl rfl rfl ?_
      | refine Sep.LdP s (i := 4) rfl rfl rfl ?_
      | refine And.intro (Sep.cell s (i := 4) rfl rfl rfl) ?_
      | refine Sep.LdI s (i := 5) rfl rfl rfl ?_
      | refine Sep.LdS s (i := 5) rfl rfl rfl ?_
      | refine Sep.LdB s (i := 5) rfl rfl rfl ?_
      | refine Sep.LdP s (i := 5) rfl rfl rfl ?_
      | refine And.intro (Sep.cell s (i := 5) rfl rfl rfl) ?_
      | (refine Sep.St s (i := 0) rfl rfl rfl fun w s => ?_; simp only [List.set_cons_zero, List.set_cons_succ] at s)
      | (refine Sep.St s (i := 1) rfl rfl rfl fun w s => ?_; simp only [List.set_cons_zero, List.set_cons_succ] at s)
      | (refine Sep.St s (i := 2) rfl rfl rfl fun w s => ?_; simp only [List.set_cons_zero, List.set_cons_succ] at s)
      | (refine Sep.St s (i := 3) rfl rfl rfl fun w s => ?_; simp only [List.set_cons_zero, List.set_cons_succ] at s)
      | (refine Sep.St s (i := 4) rfl rfl rfl fun w s => ?_; simp only [List.set_cons_zero, List.set_cons_succ] at s)
      | (refine Sep.St s (i := 5) rfl rfl rfl fun w s => ?_; simp only [List.set_cons_zero, List.set_cons_succ] at s)
      | refine Sep.Bx s fun b w s => ?_
      | (refine Sep.Al s fun b w s => ?_; simp only [zc24] at s)
      | (replace s := Sep.drew s; first
        | refine Sep.LdI s (i := 0) rfl rfl rfl ?_
        | refine Sep.LdS s (i := 0) rfl rfl rfl ?_
        | refine Sep.LdB s (i := 0) rfl rfl rfl ?_
        | refine Sep.LdP s (i := 0) rfl rfl rfl ?_
        | refine And.intro (Sep.cell s (i := 0) rfl rfl rfl) ?_
        | refine Sep.LdI s (i := 1) rfl rfl rfl ?_
        | refine Sep.LdS s (i := 1) rfl rfl rfl ?_
        | refine Sep.LdB s (i := 1) rfl rfl rfl ?_
        | refine Sep.LdP s (i := 1) rfl rfl rfl ?_
        | refine And.intro (Sep.cell s (i := 1) rfl rfl rfl) ?_
        | refine Sep.LdI s (i := 2) rfl rfl rfl ?_
        | refine Sep.LdS s (i := 2) rfl rfl rfl ?_
        | refine Sep.LdB s (i := 2) rfl rfl rfl ?_
        | refine Sep.LdP s (i := 2) rfl rfl rfl ?_
        | refine And.intro (Sep.cell s (i := 2) rfl rfl rfl) ?_
        | refine Sep.LdI s (i := 3) rfl rfl rfl ?_
        | refine Sep.LdS s (i := 3) rfl rfl rfl ?_
        | refine Sep.LdB s (i := 3) rfl rfl rfl ?_
        | refine Sep.LdP s (i := 3) rfl rfl rfl ?_
        | refine And.intro (Sep.cell s (i := 3) rfl rfl rfl) ?_
        | refine Sep.LdI s (i := 4) rfl rfl rfl ?_
        | refine Sep.LdS s (i := 4) rfl rfl rfl ?_
        | refine Sep.LdB s (i := 4) rfl rfl rfl ?_
        | refine Sep.LdP s (i := 4) rfl rfl rfl ?_
        | refine And.intro (Sep.cell s (i := 4) rfl rfl rfl) ?_
        | refine Sep.LdI s (i := 5) rfl rfl rfl ?_
        | refine Sep.LdS s (i := 5) rfl rfl rfl ?_
        | refine Sep.LdB s (i := 5) rfl rfl rfl ?_
        | refine Sep.LdP s (i := 5) rfl rfl rfl ?_
        | refine And.intro (Sep.cell s (i := 5) rfl rfl rfl) ?_
        | (refine Sep.St s (i := 0) rfl rfl rfl fun w s => ?_; simp only [List.set_cons_zero, List.set_cons_succ] at s)
        | (refine Sep.St s (i := 1) rfl rfl rfl fun w s => ?_; simp only [List.set_cons_zero, List.set_cons_succ] at s)
        | (refine Sep.St s (i := 2) rfl rfl rfl fun w s => ?_; simp only [List.set_cons_zero, List.set_cons_succ] at s)
        | (refine Sep.St s (i := 3) rfl rfl rfl fun w s => ?_; simp only [List.set_cons_zero, List.set_cons_succ] at s)
        | (refine Sep.St s (i := 4) rfl rfl rfl fun w s => ?_; simp only [List.set_cons_zero, List.set_cons_succ] at s)
        | (refine Sep.St s (i := 5) rfl rfl rfl fun w s => ?_; simp only [List.set_cons_zero, List.set_cons_succ] at s)
        | refine Sep.Bx s fun b w s => ?_
        | (refine Sep.Al s fun b w s => ?_; simp only [zc24] at s))
    refine near.spec (F := No) (W := W) (L := []) (Sep.drop s) (hA.fr (sep_fr s)) hcs (by omega) hac fun tw th ra rn rc ys w k1 k2 k3 s => ?_
    repeat' first
      | refine Sep.LdI s (i := 0) rfl rfl rfl ?_
      | refine Sep.LdS s (i := 0) rfl rfl rfl ?_
      | refine Sep.LdB s (i := 0) rfl rfl rfl ?_
      | refine Sep.LdP s (i := 0) rfl rfl rfl ?_
      | refine And.intro (Sep.cell s (i := 0) rfl rfl rfl) ?_
      | refine Sep.LdI s (i := 1) rfl rfl rfl ?_
      | refine Sep.LdS s (i := 1) rfl rfl rfl ?_
      | refine Sep.LdB s (i := 1) rfl rfl rfl ?_
      | refine Sep.LdP s (i := 1) rfl rfl rfl ?_
      | refine And.intro (Sep.cell s (i := 1) rfl rfl rfl) ?_
      | refine Sep.LdI s (i := 2) rfl rfl rfl ?_
      | refine Sep.LdS s (i := 2) rfl rfl rfl ?_
      | refine Sep.LdB s (i := 2) rfl rfl rfl ?_
      | refine Sep.LdP s (i := 2) rfl rfl rfl ?_
      | refine And.intro (Sep.cell s (i := 2) rfl rfl rfl) ?_
      | refine Sep.LdI s (i := 3) rfl rfl rfl ?_
      | refine Sep.LdS s (i := 3) rfl rfl rfl ?_
      | refine Sep.LdB s (i := 3) rfl rfl rfl ?_
      | refine Sep.LdP s (i := 3) rfl rfl rfl ?_
      | refine And.intro (Sep.cell s (i := 3) rfl rfl rfl) ?_
      | refine Sep.LdI s (i := 4) rfl rfl rfl ?_
      | refine Sep.LdS s (i := 4) rfl rfl rfl ?_
      | refine Sep.LdB s (i := 4) rfl rfl rfl ?_
      | refine Sep.LdP s (i := 4) rfl rfl rfl ?_
      | refine And.intro (Sep.cell s (i := 4) rfl rfl rfl) ?_
      | refine Sep.LdI s (i := 5) rfl rfl rfl ?_
      | refine Sep.LdS s (i := 5) rfl rfl rfl ?_
      | refine Sep.LdB s (i := 5) rfl rfl rfl ?_
      | refine Sep.LdP s (i := 5) rfl rfl rfl ?_
      | refine And.intro (Sep.cell s (i := 5) rfl rfl rfl) ?_
      | (refine Sep.St s (i := 0) rfl rfl rfl fun w s => ?_; simp only [List.set_cons_zero, List.set_cons_succ] at s)
      | (refine Sep.St s (i := 1) rfl rfl rfl fun w s => ?_; simp only [List.set_cons_zero, List.set_cons_succ] at s)
      | (refine Sep.St s (i := 2) rfl rfl rfl fun w s => ?_; simp only [List.set_cons_zero, List.set_cons_succ] at s)
      | (refine Sep.St s (i := 3) rfl rfl rfl fun w s => ?_; simp only [List.set_cons_zero, List.set_cons_succ] at s)
      | (refine Sep.St s (i := 4) rfl rfl rfl fun w s => ?_; simp only [List.set_cons_zero, List.set_cons_succ] at s)
      | (refine Sep.St s (i := 5) rfl rfl rfl fun w s => ?_; simp only [List.set_cons_zero, List.set_cons_succ] at s)
      | refine Sep.Bx s fun b w s => ?_
      | (refine Sep.Al s fun b w s => ?_; simp only [zc24] at s)
      | (replace s := Sep.drew s; first
        | refine Sep.LdI s (i := 0) rfl rfl rfl ?_
        | refine Sep.LdS s (i := 0) rfl rfl rfl ?_
        | refine Sep.LdB s (i := 0) rfl rfl rfl ?_
        | refine Sep.LdP s (i := 0) rfl rfl rfl ?_
        | refine And.intro (Sep.cell s (i := 0) rfl rfl rfl) ?_
        | refine Sep.LdI s (i := 1) rfl rfl rfl ?_
        | refine Sep.LdS s (i := 1) rfl rfl rfl ?_
        | refine Sep.LdB s (i := 1) rfl rfl rfl ?_
        | refine Sep.LdP s (i := 1) rfl rfl rfl ?_
        | refine And.intro (Sep.cell s (i := 1) rfl rfl rfl) ?_
        | refine Sep.LdI s (i := 2) rfl rfl rfl ?_
        | refine Sep.LdS s (i := 2) rfl rfl rfl ?_
        | refine Sep.LdB s (i := 2) rfl rfl rfl ?_
        | refine Sep.LdP s (i := 2) rfl rfl rfl ?_
        | refine And.intro (Sep.cell s (i := 2) rfl rfl rfl) ?_
        | refine Sep.LdI s (i := 3) rfl rfl rfl ?_
        | refine Sep.LdS s (i := 3) rfl rfl rfl ?_
        | refine Sep.LdB s (i := 3) rfl rfl rfl ?_
        | refine Sep.LdP s (i := 3) rfl rfl rfl ?_
        | refine And.intro (Sep.cell s (i := 3) rfl rfl rfl) ?_
        | refine Sep.LdI s (i := 4) rfl rfl rfl ?_
        | refine Sep.LdS s (i := 4) rfl rfl rfl ?_
        | refine Sep.LdB s (i := 4) rfl rfl rfl ?_
        | refine Sep.LdP s (i := 4) rfl rfl rfl ?_
        | refine And.intro (Sep.cell s (i := 4) rfl rfl rfl) ?_
        | refine Sep.LdI s (i := 5) rfl rfl rfl ?_
        | refine Sep.LdS s (i := 5) rfl rfl rfl ?_
        | refine Sep.LdB s (i := 5) rfl rfl rfl ?_
        | refine Sep.LdP s (i := 5) rfl rfl rfl ?_
        | refine And.intro (Sep.cell s (i := 5) rfl rfl rfl) ?_
        | (refine Sep.St s (i := 0) rfl rfl rfl fun w s => ?_; simp only [List.set_cons_zero, List.set_cons_succ] at s)
        | (refine Sep.St s (i := 1) rfl rfl rfl fun w s => ?_; simp only [List.set_cons_zero, List.set_cons_succ] at s)
        | (refine Sep.St s (i := 2) rfl rfl rfl fun w s => ?_; simp only [List.set_cons_zero, List.set_cons_succ] at s)
        | (refine Sep.St s (i := 3) rfl rfl rfl fun w s => ?_; simp only [List.set_cons_zero, List.set_cons_succ] at s)
        | (refine Sep.St s (i := 4) rfl rfl rfl fun w s => ?_; simp only [List.set_cons_zero, List.set_cons_succ] at s)
        | (refine Sep.St s (i := 5) rfl rfl rfl fun w s => ?_; simp only [List.set_cons_zero, List.set_cons_succ] at s)
        | refine Sep.Bx s fun b w s => ?_
        | (refine Sep.Al s fun b w s => ?_; simp only [zc24] at s))
    cases raw with
    | true =>
      rw [Bool.not_true, cond_false]
      exact Lays_b6 k2 k1.symm k3 hQ s
    | false =>
      rw [Bool.not_false, cond_true]
      repeat' first
        | refine Sep.LdI s (i := 0) rfl rfl rfl ?_
        | refine Sep.LdS s (i := 0) rfl rfl rfl ?_
        | refine Sep.LdB s (i := 0) rfl rfl rfl ?_
        | refine Sep.LdP s (i := 0) rfl rfl rfl ?_
        | refine And.intro (Sep.cell s (i := 0) rfl rfl rfl) ?_
        | refine Sep.LdI s (i := 1) rfl rfl rfl ?_
        | refine Sep.LdS s (i := 1) rfl rfl rfl ?_
        | refine Sep.LdB s (i := 1) rfl rfl rfl ?_
        | refine Sep.LdP s (i := 1) rfl rfl rfl ?_
        | refine And.intro (Sep.cell s (i := 1) rfl rfl rfl) ?_
        | refine Sep.LdI s (i := 2) rfl rfl rfl ?_
        | refine Sep.LdS s (i := 2) rfl rfl rfl ?_
        | refine Sep.LdB s (i := 2) rfl rfl rfl ?_
        | refine Sep.LdP s (i := 2) rfl rfl rfl ?_
        | refine And.intro (Sep.cell s (i := 2) rfl rfl rfl) ?_
        | refine Sep.LdI s (i := 3) rfl rfl rfl ?_
        | refine Sep.LdS s (i := 3) rfl rfl rfl ?_
        | refine Sep.LdB s (i := 3) rfl rfl rfl ?_
        | refine Sep.LdP s (i := 3) rfl rfl rfl ?_
        | refine And.intro (Sep.cell s (i := 3) rfl rfl rfl) ?_
        | refine Sep.LdI s (i := 4) rfl rfl rfl ?_
        | refine Sep.LdS s (i := 4) rfl rfl rfl ?_
        | refine Sep.LdB s (i := 4) rfl rfl rfl ?_
        | refine Sep.LdP s (i := 4) rfl rfl rfl ?_
        | refine And.intro (Sep.cell s (i := 4) rfl rfl rfl) ?_
        | refine Sep.LdI s (i := 5) rfl rfl rfl ?_
        | refine Sep.LdS s (i := 5) rfl rfl rfl ?_
        | refine Sep.LdB s (i := 5) rfl rfl rfl ?_
        | refine Sep.LdP s (i := 5) rfl rfl rfl ?_
        | refine And.intro (Sep.cell s (i := 5) rfl rfl rfl) ?_
        | (refine Sep.St s (i := 0) rfl rfl rfl fun w s => ?_; simp only [List.set_cons_zero, List.set_cons_succ] at s)
        | (refine Sep.St s (i := 1) rfl rfl rfl fun w s => ?_; simp only [List.set_cons_zero, List.set_cons_succ] at s)
        | (refine Sep.St s (i := 2) rfl rfl rfl fun w s => ?_; simp only [List.set_cons_zero, List.set_cons_succ] at s)
        | (refine Sep.St s (i := 3) rfl rfl rfl fun w s => ?_; simp only [List.set_cons_zero, List.set_cons_succ] at s)
        | (refine Sep.St s (i := 4) rfl rfl rfl fun w s => ?_; simp only [List.set_cons_zero, List.set_cons_succ] at s)
        | (refine Sep.St s (i := 5) rfl rfl rfl fun w s => ?_; simp only [List.set_cons_zero, List.set_cons_succ] at s)
        | refine Sep.Bx s fun b w s => ?_
        | (refine Sep.Al s fun b w s => ?_; simp only [zc24] at s)
        | (replace s := Sep.drew s; first
          | refine Sep.LdI s (i := 0) rfl rfl rfl ?_
          | refine Sep.LdS s (i := 0) rfl rfl rfl ?_
          | refine Sep.LdB s (i := 0) rfl rfl rfl ?_
          | refine Sep.LdP s (i := 0) rfl rfl rfl ?_
          | refine And.intro (Sep.cell s (i := 0) rfl rfl rfl) ?_
          | refine Sep.LdI s (i := 1) rfl rfl rfl ?_
          | refine Sep.LdS s (i := 1) rfl rfl rfl ?_
          | refine Sep.LdB s (i := 1) rfl rfl rfl ?_
          | refine Sep.LdP s (i := 1) rfl rfl rfl ?_
          | refine And.intro (Sep.cell s (i := 1) rfl rfl rfl) ?_
          | refine Sep.LdI s (i := 2) rfl rfl rfl ?_
          | refine Sep.LdS s (i := 2) rfl rfl rfl ?_
          | refine Sep.LdB s (i := 2) rfl rfl rfl ?_
          | refine Sep.LdP s (i := 2) rfl rfl rfl ?_
          | refine And.intro (Sep.cell s (i := 2) rfl rfl rfl) ?_
          | refine Sep.LdI s (i := 3) rfl rfl rfl ?_
          | refine Sep.LdS s (i := 3) rfl rfl rfl ?_
          | refine Sep.LdB s (i := 3) rfl rfl rfl ?_
          | refine Sep.LdP s (i := 3) rfl rfl rfl ?_
          | refine And.intro (Sep.cell s (i := 3) rfl rfl rfl) ?_
          | refine Sep.LdI s (i := 4) rfl rfl rfl ?_
          | refine Sep.LdS s (i := 4) rfl rfl rfl ?_
          | refine Sep.LdB s (i := 4) rfl rfl rfl ?_
          | refine Sep.LdP s (i := 4) rfl rfl rfl ?_
          | refine And.intro (Sep.cell s (i := 4) rfl rfl rfl) ?_
          | refine Sep.LdI s (i := 5) rfl rfl rfl ?_
          | refine Sep.LdS s (i := 5) rfl rfl rfl ?_
          | refine Sep.LdB s (i := 5) rfl rfl rfl ?_
          | refine Sep.LdP s (i := 5) rfl rfl rfl ?_
          | refine And.intro (Sep.cell s (i := 5) rfl rfl rfl) ?_
          | (refine Sep.St s (i := 0) rfl rfl rfl fun w s => ?_; simp only [List.set_cons_zero, List.set_cons_succ] at s)
          | (refine Sep.St s (i := 1) rfl rfl rfl fun w s => ?_; simp only [List.set_cons_zero, List.set_cons_succ] at s)
          | (refine Sep.St s (i := 2) rfl rfl rfl fun w s => ?_; simp only [List.set_cons_zero, List.set_cons_succ] at s)
          | (refine Sep.St s (i := 3) rfl rfl rfl fun w s => ?_; simp only [List.set_cons_zero, List.set_cons_succ] at s)
          | (refine Sep.St s (i := 4) rfl rfl rfl fun w s => ?_; simp only [List.set_cons_zero, List.set_cons_succ] at s)
          | (refine Sep.St s (i := 5) rfl rfl rfl fun w s => ?_; simp only [List.set_cons_zero, List.set_cons_succ] at s)
          | refine Sep.Bx s fun b w s => ?_
          | (refine Sep.Al s fun b w s => ?_; simp only [zc24] at s))
      refine herdsmanref1_Within.spec (by omega) (by decide) (by omega) ?_
      refine herdsmanref1_Within.spec (by decide) (by decide) (by decide) ?_
      exact Lays_b6 k2 k1.symm k3 hQ s
end
theorem TileLays_law : LawOk P 6 [tileS, .int .i64, .int .i64, .int .i64, .int .i64, .bool] := by
  intro W args h
  obtain ⟨v0, r, rfl, h0, h⟩ := RdAll.cons h
  obtain ⟨v1, r, rfl, h1, h⟩ := RdAll.cons h
  obtain ⟨v2, r, rfl, h2, h⟩ := RdAll.cons h
  obtain ⟨v3, r, rfl, h3, h⟩ := RdAll.cons h
  obtain ⟨v4, r, rfl, h4, h⟩ := RdAll.cons h
  obtain ⟨v5, r, rfl, h5, h⟩ := RdAll.cons h
  obtain rfl := RdAll.nil h
  obtain ⟨tw, th, a, n, c, cs, rfl, _, q2, q3, q4⟩ := rdV_tile h0
  obtain ⟨x1, rfl, _⟩ := rdV_int h1
  obtain ⟨x2, rfl, _⟩ := rdV_int h2
  obtain ⟨x3, rfl, _⟩ := rdV_int h3
  obtain ⟨x4, rfl, _⟩ := rdV_int h4
  obtain ⟨b, rfl⟩ := rdV_bool h5
  exact herdsmanlaw2_TileLays.spec (Q := fun r W' => r = true ∧ Go.RowKit.Below W.heap.size W W') q3 q4 q2 fun w' s => ⟨rfl, sep_below s⟩
end Go.Proofs.Ytbecldlnajlnnaa.S
