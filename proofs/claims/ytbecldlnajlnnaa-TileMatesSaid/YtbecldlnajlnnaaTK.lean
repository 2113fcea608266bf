/- Layer 2: TileMates answers true. -/
import Derived.Test.YtbecldlnajlnnaaTJ
set_option linter.unusedVariables false
set_option linter.unusedSimpArgs false
namespace Go.Proofs.Ytbecldlnajlnnaa.S
open Go.Sx
attribute [local irreducible] LdI LdB LdStr LdP LdS LdM LdV St Bx Al App Cpy MkS MkM EqK RunK RunU CallK SlK blkA rowA joinA
section
variable {W w : World} {Q : Bool → World → Prop} {tw th l side : Int} {ra : Option Addr} {rn rc pt pb pe : Nat} {ys : List Int}
def mateL (tw th l : Int) (pe pb pt : Nat) (ra : Option Addr) (rn rc : Nat) (ys : List Int) : List As :=
  [blkA pe 38 [.bool (edgeB tw th l 0), .bool (edgeB tw th l 1), .bool (edgeB tw th l 2), .bool (edgeB tw th l 3)], blkA pb 37 [.int .i64 2, .int .i64 3, .int .i64 0, .int .i64 1], blkA pt 24 [.int .i64 tw, .int .i64 th, .slice ra rn rc], rowA ra rn rc 5 1 (flat by8 ys)]
theorem Mates_step {R6 : Addr → Int → Addr → Addr → Int → World → Prop} (hw : 1 ≤ tw) (hh : 1 ≤ th) (hm : mayB tw th ys = true) (hl : 0 ≤ l ∧ l < tw * th) (hs : 0 ≤ side ∧ side ≤ 3)
    (s : Sep No W w (mateL tw th l pe pb pt ra rn rc ys)) (h : ∀ w', Sep No W w' (mateL tw th l pe pb pt ra rn rc ys) → R6 ⟨pt, 0, none⟩ l ⟨pb, 0, none⟩ ⟨pe, 0, none⟩ (side + 1) w') :
    herdsmanlaw2_TileMates.s6 Q R6 ⟨pt, 0, none⟩ l ⟨pb, 0, none⟩ ⟨pe, 0, none⟩ side w := by
  unfold herdsmanlaw2_TileMates.s6
  unfold mateL at s h
  have hlen := (mayB_iff.1 hm).2.2.1
  rw [decide_eq_true hs.2, cond_true]
  repeat' first
    | refine Sep.LdI s (i := 0) rfl rfl rfl ?_
    | refine Sep.LdS s (i := 0) rfl rfl rfl ?_
    | refine Sep.LdB s (i := 0) rfl rfl rfl ?_
    | refine Sep.LdP s (i := 0) rfl rfl rfl ?_
    | refine And.intro (Sep.cell s (i := 0) rfl rfl rfl) ?_
    | refine Sep.LdI s (i := 1) rfl rfl rfl ?_
    | refine Sep.LdS s (i := 1) rfl rfl rfl ?_
    | refine Sep.LdB s (i := 1) rfl rfl rfl ?_
    | refine Sep.LdP s (i := 1) rfl rfl rfl ?_
    | refine And.intro (Sep.cell s (i := 1) rfl rfl rfl) ?_
    | refine Sep.LdI s (i := 2) rfl rfl rfl ?_
    | refine Sep.LdS s (i := 2) rfl rfl rfl ?_
    | refine Sep.LdB s (i := 2) rfl rfl rfl ?_
    | refine Sep.LdP s (i := 2) rfl rfl rfl ?_
    | refine And.intro (Sep.cell s (i := 2) rfl rfl rfl) ?_
    | refine Sep.LdI s (i := 3) rfl rfl rfl ?_
    | refine Sep.LdS s (i := 3) rfl rfl rfl ?_
    | refine Sep.LdB s (i := 3) rfl rfl rfl ?_
    | refine Sep.LdP s (i := 3) rfl rfl rfl ?_
    | refine And.intro (Sep.cell s (i := 3) rfl rfl rfl) ?_
    | (replace s := Sep.drew s; first
      | refine Sep.LdI s (i := 0) rfl rfl rfl ?_
      | refine Sep.LdS s (i := 0) rfl rfl rfl ?_
      | refine Sep.LdB s (i := 0) rfl rfl rfl ?_
      | refine Sep.LdP s (i := 0) rfl rfl rfl ?_
      | refine And.intro (Sep.cell s (i := 0) rfl rfl rfl) ?_
      | refine Sep.LdI s (i := 1) rfl rfl rfl ?_
      | refine Sep.LdS s (i := 1) rfl rfl rfl ?_
      | refine Sep.LdB s (i := 1) rfl rfl rfl ?_
      | refine Sep.LdP s (i := 1) rfl rfl rfl ?_
      | refine And.intro (Sep.cell s (i := 1) rfl rfl rfl) ?_
      | refine Sep.LdI s (i := 2) rfl rfl rfl ?_
      | refine Sep.LdS s (i := 2) rfl rfl rfl ?_
      | refine Sep.LdB s (i := 2) rfl rfl rfl ?_
      | refine Sep.LdP s (i := 2) rfl rfl rfl ?_
      | refine And.intro (Sep.cell s (i := 2) rfl rfl rfl) ?_
      | refine Sep.LdI s (i := 3) rfl rfl rfl ?_
      | refine Sep.LdS s (i := 3) rfl rfl rfl ?_
      | refine Sep.LdB s (i := 3) rfl rfl rfl ?_
      | refine Sep.LdP s (i := 3) rfl rfl rfl ?_
      | refine And.intro (Sep.cell s (i := 3) rfl rfl rfl) ?_)
  refine tile_Near.spec s (Sep.argrow s (i := 3) rfl by8_len (by decide)) fun w s _ => ?_
  have e1 : nearI tw th ys l side = besideI tw th l side := by
    unfold nearI
    rw [isB_iff.2 ⟨by omega, hm⟩, cond_true]
  rw [e1]
  obtain ⟨m1, m2⟩ := mates hw hh hl hs
  have s := Sep.drew s
  have fin : ∀ {k : Int} (hk : k = backI side), (bif decide (besideI tw th l side ≥ 0) then
      (LdI .i64 ((⟨pt, 0, none⟩ : Addr).add 0) w.drew fun x70_W => LdI .i64 ((⟨pt, 0, none⟩ : Addr).add 1) w.drew fun x70_H => LdS ((⟨pt, 0, none⟩ : Addr).add 2) w.drew fun x70_C_a x70_C_n x70_C_c =>
        InB side 4 <| LdI .i64 ((⟨pb, 0, none⟩ : Addr).add (side.toNat * 1)) w.drew fun x74 =>
        tile_Near.call x70_W x70_H x70_C_a x70_C_n x70_C_c (besideI tw th l side) x74 w.drew fun r75 w0_2 => bif r75 != l then Q false w0_2 else R6 ⟨pt, 0, none⟩ l ⟨pb, 0, none⟩ ⟨pe, 0, none⟩ (IntKind.wrap .i64 (side + 1)) w0_2)
      else R6 ⟨pt, 0, none⟩ l ⟨pb, 0, none⟩ ⟨pe, 0, none⟩ (IntKind.wrap .i64 (side + 1)) w.drew) := by
    intro k hk
    rw [wrap_i64 (n := side + 1) (by omega) (by omega)]
    by_cases h0 : besideI tw th l side ≥ 0
    · rw [decide_eq_true h0, cond_true]
      obtain ⟨r1, r2⟩ := m2 h0
      repeat' first
        | refine Sep.LdI s (i := 0) rfl rfl rfl ?_
        | refine Sep.LdS s (i := 0) rfl rfl rfl ?_
        | refine Sep.LdB s (i := 0) rfl rfl rfl ?_
        | refine Sep.LdP s (i := 0) rfl rfl rfl ?_
        | refine And.intro (Sep.cell s (i := 0) rfl rfl rfl) ?_
        | refine Sep.LdI s (i := 1) rfl rfl rfl ?_
        | refine Sep.LdS s (i := 1) rfl rfl rfl ?_
        | refine Sep.LdB s (i := 1) rfl rfl rfl ?_
        | refine Sep.LdP s (i := 1) rfl rfl rfl ?_
        | refine And.intro (Sep.cell s (i := 1) rfl rfl rfl) ?_
        | refine Sep.LdI s (i := 2) rfl rfl rfl ?_
        | refine Sep.LdS s (i := 2) rfl rfl rfl ?_
        | refine Sep.LdB s (i := 2) rfl rfl rfl ?_
        | refine Sep.LdP s (i := 2) rfl rfl rfl ?_
        | refine And.intro (Sep.cell s (i := 2) rfl rfl rfl) ?_
        | refine Sep.LdI s (i := 3) rfl rfl rfl ?_
        | refine Sep.LdS s (i := 3) rfl rfl rfl ?_
        | refine Sep.LdB s (i := 3) rfl rfl rfl ?_
        | refine Sep.LdP s (i := 3) rfl rfl rfl ?_
        | refine And.intro (Sep.cell s (i := 3) rfl rfl rfl) ?_
        | (replace s := Sep.drew s; first
          | refine Sep.LdI s (i := 0) rfl rfl rfl ?_
          | refine Sep.LdS s (i := 0) rfl rfl rfl ?_
          | refine Sep.LdB s (i := 0) rfl rfl rfl ?_
          | refine Sep.LdP s (i := 0) rfl rfl rfl ?_
          | refine And.intro (Sep.cell s (i := 0) rfl rfl rfl) ?_
          | refine Sep.LdI s (i := 1) rfl rfl rfl ?_
          | refine Sep.LdS s (i := 1) rfl rfl rfl ?_
          | refine Sep.LdB s (i := 1) rfl rfl rfl ?_
          | refine Sep.LdP s (i := 1) rfl rfl rfl ?_
          | refine And.intro (Sep.cell s (i := 1) rfl rfl rfl) ?_
          | refine Sep.LdI s (i := 2) rfl rfl rfl ?_
          | refine Sep.LdS s (i := 2) rfl rfl rfl ?_
          | refine Sep.LdB s (i := 2) rfl rfl rfl ?_
          | refine Sep.LdP s (i := 2) rfl rfl rfl ?_
          | refine And.intro (Sep.cell s (i := 2) rfl rfl rfl) ?_
          | refine Sep.LdI s (i := 3) rfl rfl rfl ?_
          | refine Sep.LdS s (i := 3) rfl rfl rfl ?_
          | refine Sep.LdB s (i := 3) rfl rfl rfl ?_
          | refine Sep.LdP s (i := 3) rfl rfl rfl ?_
          | refine And.intro (Sep.cell s (i := 3) rfl rfl rfl) ?_)
      refine ⟨by omega, by omega, ?_⟩
      have go : LdI .i64 ((⟨pb, 0, none⟩ : Addr).add (side.toNat * 1)) w.drew fun x74 =>
          tile_Near.call tw th ra rn rc (besideI tw th l side) x74 w.drew fun r75 w0_2 => bif r75 != l then Q false w0_2 else R6 ⟨pt, 0, none⟩ l ⟨pb, 0, none⟩ ⟨pe, 0, none⟩ (side + 1) w0_2 := by
        have lo : LdI .i64 ((⟨pb, 0, none⟩ : Addr).add (side.toNat * 1)) w.drew fun x => x = backI side := by
          have hs' : side = 0 ∨ side = 1 ∨ side = 2 ∨ side = 3 := by omega
          rcases hs' with rfl | rfl | rfl | rfl
          · exact Sep.LdI s (i := 1) rfl rfl rfl rfl
          · exact Sep.LdI s (i := 1) rfl rfl rfl rfl
          · exact Sep.LdI s (i := 1) rfl rfl rfl rfl
          · exact Sep.LdI s (i := 1) rfl rfl rfl rfl
        unfold LdI at lo ⊢
        obtain ⟨x, hx, rfl⟩ := lo
        refine ⟨_, hx, ?_⟩
        refine tile_Near.spec s (Sep.argrow s (i := 3) rfl by8_len (by decide)) fun w s _ => ?_
        have e2 : nearI tw th ys (besideI tw th l side) (backI side) = l := by
          unfold nearI
          rw [isB_iff.2 ⟨by omega, hm⟩, cond_true, r2]
        rw [e2, bne_self_eq_false, cond_false]
        exact h _ s
      exact go
    · rw [decide_eq_false h0, cond_false]
      exact h _ s
  have hs' : side = 0 ∨ side = 1 ∨ side = 2 ∨ side = 3 := by omega
  refine ⟨by omega, by omega, ?_⟩
  have lo : LdB ((⟨pe, 0, none⟩ : Addr).add (side.toNat * 1)) w.drew fun x => x = edgeB tw th l side := by
    rcases hs' with rfl | rfl | rfl | rfl
    · exact Sep.LdB s (i := 0) rfl rfl rfl rfl
    · exact Sep.LdB s (i := 0) rfl rfl rfl rfl
    · exact Sep.LdB s (i := 0) rfl rfl rfl rfl
    · exact Sep.LdB s (i := 0) rfl rfl rfl rfl
  unfold LdB at lo ⊢
  obtain ⟨x, hx, rfl⟩ := lo
  refine ⟨_, hx, ?_⟩
  rw [m1]
  simp only [beq_self_eq_true, Bool.not_true, cond_false]
  exact fin (k := backI side) rfl
theorem Mates_end {R6 : Addr → Int → Addr → Addr → Int → World → Prop} (hm : mayB tw th ys = true) (hl : 0 ≤ l ∧ l < tw * th) (hQ : ∀ w', Sep No W w' [] → Q true w') (s : Sep No W w (mateL tw th l pe pb pt ra rn rc ys)) :
    herdsmanlaw2_TileMates.s6 Q R6 ⟨pt, 0, none⟩ l ⟨pb, 0, none⟩ ⟨pe, 0, none⟩ 4 w := by
  unfold herdsmanlaw2_TileMates.s6
  unfold mateL at s
  obtain ⟨hw, hh, hlen, _⟩ := mayB_iff.1 hm
  rw [decide_eq_false (by decide), cond_false]
  refine herdsmanlaw2_told.spec s fun w s _ => ?_
  rw [cond_true]
  repeat' first
    | refine Sep.LdI s (i := 0) rfl rfl rfl ?_
    | refine Sep.LdS s (i := 0) rfl rfl rfl ?_
    | refine Sep.LdB s (i := 0) rfl rfl rfl ?_
    | refine Sep.LdP s (i := 0) rfl rfl rfl ?_
    | refine And.intro (Sep.cell s (i := 0) rfl rfl rfl) ?_
    | refine Sep.LdI s (i := 1) rfl rfl rfl ?_
    | refine Sep.LdS s (i := 1) rfl rfl rfl ?_
    | refine Sep.LdB s (i := 1) rfl rfl rfl ?_
    | refine Sep.LdP s (i := 1) rfl rfl rfl ?_
    | refine And.intro (Sep.cell s (i := 1) rfl rfl rfl) ?_
    | refine Sep.LdI s (i := 2) rfl rfl rfl ?_
    | refine Sep.LdS s (i := 2) rfl rfl rfl ?_
    | refine Sep.LdB s (i := 2) rfl rfl rfl ?_
    | refine Sep.LdP s (i := 2) rfl rfl rfl ?_
    | refine And.intro (Sep.cell s (i := 2) rfl rfl rfl) ?_
    | refine Sep.LdI s (i := 3) rfl rfl rfl ?_
    | refine Sep.LdS s (i := 3) rfl rfl rfl ?_
    | refine Sep.LdB s (i := 3) rfl rfl rfl ?_
    | refine Sep.LdP s (i := 3) rfl rfl rfl ?_
    | refine And.intro (Sep.cell s (i := 3) rfl rfl rfl) ?_
    | (replace s := Sep.drew s; first
      | refine Sep.LdI s (i := 0) rfl rfl rfl ?_
      | refine Sep.LdS s (i := 0) rfl rfl rfl ?_
      | refine Sep.LdB s (i := 0) rfl rfl rfl ?_
      | refine Sep.LdP s (i := 0) rfl rfl rfl ?_
      | refine And.intro (Sep.cell s (i := 0) rfl rfl rfl) ?_
      | refine Sep.LdI s (i := 1) rfl rfl rfl ?_
      | refine Sep.LdS s (i := 1) rfl rfl rfl ?_
      | refine Sep.LdB s (i := 1) rfl rfl rfl ?_
      | refine Sep.LdP s (i := 1) rfl rfl rfl ?_
      | refine And.intro (Sep.cell s (i := 1) rfl rfl rfl) ?_
      | refine Sep.LdI s (i := 2) rfl rfl rfl ?_
      | refine Sep.LdS s (i := 2) rfl rfl rfl ?_
      | refine Sep.LdB s (i := 2) rfl rfl rfl ?_
      | refine Sep.LdP s (i := 2) rfl rfl rfl ?_
      | refine And.intro (Sep.cell s (i := 2) rfl rfl rfl) ?_
      | refine Sep.LdI s (i := 3) rfl rfl rfl ?_
      | refine Sep.LdS s (i := 3) rfl rfl rfl ?_
      | refine Sep.LdB s (i := 3) rfl rfl rfl ?_
      | refine Sep.LdP s (i := 3) rfl rfl rfl ?_
      | refine And.intro (Sep.cell s (i := 3) rfl rfl rfl) ?_)
  refine tile_Near.spec s (Sep.argrow s (i := 3) rfl by8_len (by decide)) fun w s _ => ?_
  have hb : isB tw th ys l = true := isB_iff.2 ⟨by omega, hm⟩
  have e1 : nearI tw th ys l 4 = l := by
    unfold nearI besideI
    rw [hb, cond_true, if_neg (by decide), if_neg (by decide), if_neg (by decide), if_neg (by decide), if_pos rfl]
    have hp := place hw hh hl
    rw [put2_in ⟨hp.1, hp.2.1⟩ ⟨hp.2.2.1, hp.2.2.2⟩, Int.mul_comm]
    exact Int.mul_ediv_add_emod l tw
  rw [e1, beq_self_eq_true, cond_true]
  repeat' first
    | refine Sep.LdI s (i := 0) rfl rfl rfl ?_
    | refine Sep.LdS s (i := 0) rfl rfl rfl ?_
    | refine Sep.LdB s (i := 0) rfl rfl rfl ?_
    | refine Sep.LdP s (i := 0) rfl rfl rfl ?_
    | refine And.intro (Sep.cell s (i := 0) rfl rfl rfl) ?_
    | refine Sep.LdI s (i := 1) rfl rfl rfl ?_
    | refine Sep.LdS s (i := 1) rfl rfl rfl ?_
    | refine Sep.LdB s (i := 1) rfl rfl rfl ?_
    | refine Sep.LdP s (i := 1) rfl rfl rfl ?_
    | refine And.intro (Sep.cell s (i := 1) rfl rfl rfl) ?_
    | refine Sep.LdI s (i := 2) rfl rfl rfl ?_
    | refine Sep.LdS s (i := 2) rfl rfl rfl ?_
    | refine Sep.LdB s (i := 2) rfl rfl rfl ?_
    | refine Sep.LdP s (i := 2) rfl rfl rfl ?_
    | refine And.intro (Sep.cell s (i := 2) rfl rfl rfl) ?_
    | refine Sep.LdI s (i := 3) rfl rfl rfl ?_
    | refine Sep.LdS s (i := 3) rfl rfl rfl ?_
    | refine Sep.LdB s (i := 3) rfl rfl rfl ?_
    | refine Sep.LdP s (i := 3) rfl rfl rfl ?_
    | refine And.intro (Sep.cell s (i := 3) rfl rfl rfl) ?_
    | (replace s := Sep.drew s; first
      | refine Sep.LdI s (i := 0) rfl rfl rfl ?_
      | refine Sep.LdS s (i := 0) rfl rfl rfl ?_
      | refine Sep.LdB s (i := 0) rfl rfl rfl ?_
      | refine Sep.LdP s (i := 0) rfl rfl rfl ?_
      | refine And.intro (Sep.cell s (i := 0) rfl rfl rfl) ?_
      | refine Sep.LdI s (i := 1) rfl rfl rfl ?_
      | refine Sep.LdS s (i := 1) rfl rfl rfl ?_
      | refine Sep.LdB s (i := 1) rfl rfl rfl ?_
      | refine Sep.LdP s (i := 1) rfl rfl rfl ?_
      | refine And.intro (Sep.cell s (i := 1) rfl rfl rfl) ?_
      | refine Sep.LdI s (i := 2) rfl rfl rfl ?_
      | refine Sep.LdS s (i := 2) rfl rfl rfl ?_
      | refine Sep.LdB s (i := 2) rfl rfl rfl ?_
      | refine Sep.LdP s (i := 2) rfl rfl rfl ?_
      | refine And.intro (Sep.cell s (i := 2) rfl rfl rfl) ?_
      | refine Sep.LdI s (i := 3) rfl rfl rfl ?_
      | refine Sep.LdS s (i := 3) rfl rfl rfl ?_
      | refine Sep.LdB s (i := 3) rfl rfl rfl ?_
      | refine Sep.LdP s (i := 3) rfl rfl rfl ?_
      | refine And.intro (Sep.cell s (i := 3) rfl rfl rfl) ?_)
  refine tile_Near.spec s (Sep.argrow s (i := 3) rfl by8_len (by decide)) fun w s _ => ?_
  have e2 : nearI tw th ys l 5 = -1 := by
    unfold nearI besideI
    rw [hb, cond_true, if_neg (by decide), if_neg (by decide), if_neg (by decide), if_neg (by decide), if_neg (by decide)]
  rw [e2]
  exact hQ _ (Sep.pick [] s rfl (by decide))
theorem herdsmanlaw2_TileMates.spec {a : Option Addr} {n c : Nat} {cs : List Int} {w1 h1 l0 : Int} (hA : ArgRow W a n 1 by8 cs) (hcs : ∀ x ∈ cs, 0 ≤ x ∧ x < 256) (hn : n < 9223372036854775808) (hQ : ∀ w', Sep No W w' [] → Q true w') :
    herdsmanlaw2_TileMates.call a n c w1 h1 l0 W Q := by
  refine herdsmanlaw2_TileMates.body _ _ _ _ _ _ _ _ ?_
  unfold herdsmanlaw2_TileMates.sh
  refine ref_MadeTile.spec (F := No) (L := []) Sep.nil hA hcs hn fun tw th ra rn rc ys w hw hh hlen hrn hys s _ => ?_
  repeat' first
    | refine Sep.LdI s (i := 0) rfl rfl rfl ?_
    | refine Sep.LdS s (i := 0) rfl rfl rfl ?_
    | refine Sep.LdB s (i := 0) rfl rfl rfl ?_
    | refine Sep.LdP s (i := 0) rfl rfl rfl ?_
    | refine And.intro (Sep.cell s (i := 0) rfl rfl rfl) ?_
    | refine Sep.LdI s (i := 1) rfl rfl rfl ?_
    | refine Sep.LdS s (i := 1) rfl rfl rfl ?_
    | refine Sep.LdB s (i := 1) rfl rfl rfl ?_
    | refine Sep.LdP s (i := 1) rfl rfl rfl ?_
    | refine And.intro (Sep.cell s (i := 1) rfl rfl rfl) ?_
    | refine Sep.LdI s (i := 2) rfl rfl rfl ?_
    | refine Sep.LdS s (i := 2) rfl rfl rfl ?_
    | refine Sep.LdB s (i := 2) rfl rfl rfl ?_
    | refine Sep.LdP s (i := 2) rfl rfl rfl ?_
    | refine And.intro (Sep.cell s (i := 2) rfl rfl rfl) ?_
    | (refine Sep.St s (i := 0) rfl rfl rfl fun w s => ?_; simp only [List.set_cons_zero, List.set_cons_succ] at s)
    | (refine Sep.St s (i := 1) rfl rfl rfl fun w s => ?_; simp only [List.set_cons_zero, List.set_cons_succ] at s)
    | (refine Sep.St s (i := 2) rfl rfl rfl fun w s => ?_; simp only [List.set_cons_zero, List.set_cons_succ] at s)
    | refine Sep.Bx s fun b w s => ?_
    | (refine Sep.Al s fun b w s => ?_; simp only [zc24, zc37, zc38] at s)
    | (replace s := Sep.drew s; first
      | refine Sep.LdI s (i := 0) rfl rfl rfl ?_
      | refine Sep.LdS s (i := 0) rfl rfl rfl ?_
      | refine Sep.LdB s (i := 0) rfl rfl rfl ?_
      | refine Sep.LdP s (i := 0) rfl rfl rfl ?_
      | refine And.intro (Sep.cell s (i := 0) rfl rfl rfl) ?_
      | refine Sep.LdI s (i := 1) rfl rfl rfl ?_
      | refine Sep.LdS s (i := 1) rfl rfl rfl ?_
      | refine Sep.LdB s (i := 1) rfl rfl rfl ?_
      | refine Sep.LdP s (i := 1) rfl rfl rfl ?_
      | refine And.intro (Sep.cell s (i := 1) rfl rfl rfl) ?_
      | refine Sep.LdI s (i := 2) rfl rfl rfl ?_
      | refine Sep.LdS s (i := 2) rfl rfl rfl ?_
      | refine Sep.LdB s (i := 2) rfl rfl rfl ?_
      | refine Sep.LdP s (i := 2) rfl rfl rfl ?_
      | refine And.intro (Sep.cell s (i := 2) rfl rfl rfl) ?_
      | (refine Sep.St s (i := 0) rfl rfl rfl fun w s => ?_; simp only [List.set_cons_zero, List.set_cons_succ] at s)
      | (refine Sep.St s (i := 1) rfl rfl rfl fun w s => ?_; simp only [List.set_cons_zero, List.set_cons_succ] at s)
      | (refine Sep.St s (i := 2) rfl rfl rfl fun w s => ?_; simp only [List.set_cons_zero, List.set_cons_succ] at s)
      | refine Sep.Bx s fun b w s => ?_
      | (refine Sep.Al s fun b w s => ?_; simp only [zc24, zc37, zc38] at s))
  have q2 : tw * th ≤ 16 * 16 := Int.mul_le_mul hw.2 hh.2 (by omega) (by decide)
  have q1 : 1 * 1 ≤ tw * th := Int.mul_le_mul hw.1 hh.1 (by decide) (by omega)
  have hm : mayB tw th ys = true := mayB_iff.2 ⟨hw, hh, hlen, fun h0 => by have := hys 0 h0; omega⟩
  rw [wrap_i64 (n := (rn : Int) - 1) (by omega) (by omega)]
  refine herdsmanref1_Within.spec (by omega) (by decide) (by omega) ?_
  have r1 := within_range (n := l0) (lo := 0) (hi := (rn : Int) - 1) (by omega)
  generalize (0 + l0 % ((rn : Int) - 1 - 0 + 1)) = l at r1
  repeat' first
    | refine Sep.LdI s (i := 0) rfl rfl rfl ?_
    | refine Sep.LdS s (i := 0) rfl rfl rfl ?_
    | refine Sep.LdB s (i := 0) rfl rfl rfl ?_
    | refine Sep.LdP s (i := 0) rfl rfl rfl ?_
    | refine And.intro (Sep.cell s (i := 0) rfl rfl rfl) ?_
    | refine Sep.LdI s (i := 1) rfl rfl rfl ?_
    | refine Sep.LdS s (i := 1) rfl rfl rfl ?_
    | refine Sep.LdB s (i := 1) rfl rfl rfl ?_
    | refine Sep.LdP s (i := 1) rfl rfl rfl ?_
    | refine And.intro (Sep.cell s (i := 1) rfl rfl rfl) ?_
    | refine Sep.LdI s (i := 2) rfl rfl rfl ?_
    | refine Sep.LdS s (i := 2) rfl rfl rfl ?_
    | refine Sep.LdB s (i := 2) rfl rfl rfl ?_
    | refine Sep.LdP s (i := 2) rfl rfl rfl ?_
    | refine And.intro (Sep.cell s (i := 2) rfl rfl rfl) ?_
    | refine Sep.LdI s (i := 3) rfl rfl rfl ?_
    | refine Sep.LdS s (i := 3) rfl rfl rfl ?_
    | refine Sep.LdB s (i := 3) rfl rfl rfl ?_
    | refine Sep.LdP s (i := 3) rfl rfl rfl ?_
    | refine And.intro (Sep.cell s (i := 3) rfl rfl rfl) ?_
    | (refine Sep.St s (i := 0) rfl rfl rfl fun w s => ?_; simp only [List.set_cons_zero, List.set_cons_succ] at s)
    | (refine Sep.St s (i := 1) rfl rfl rfl fun w s => ?_; simp only [List.set_cons_zero, List.set_cons_succ] at s)
    | (refine Sep.St s (i := 2) rfl rfl rfl fun w s => ?_; simp only [List.set_cons_zero, List.set_cons_succ] at s)
    | (refine Sep.St s (i := 3) rfl rfl rfl fun w s => ?_; simp only [List.set_cons_zero, List.set_cons_succ] at s)
    | refine Sep.Bx s fun b w s => ?_
    | (refine Sep.Al s fun b w s => ?_; simp only [zc24, zc37, zc38] at s)
    | (replace s := Sep.drew s; first
      | refine Sep.LdI s (i := 0) rfl rfl rfl ?_
      | refine Sep.LdS s (i := 0) rfl rfl rfl ?_
      | refine Sep.LdB s (i := 0) rfl rfl rfl ?_
      | refine Sep.LdP s (i := 0) rfl rfl rfl ?_
      | refine And.intro (Sep.cell s (i := 0) rfl rfl rfl) ?_
      | refine Sep.LdI s (i := 1) rfl rfl rfl ?_
      | refine Sep.LdS s (i := 1) rfl rfl rfl ?_
      | refine Sep.LdB s (i := 1) rfl rfl rfl ?_
      | refine Sep.LdP s (i := 1) rfl rfl rfl ?_
      | refine And.intro (Sep.cell s (i := 1) rfl rfl rfl) ?_
      | refine Sep.LdI s (i := 2) rfl rfl rfl ?_
      | refine Sep.LdS s (i := 2) rfl rfl rfl ?_
      | refine Sep.LdB s (i := 2) rfl rfl rfl ?_
      | refine Sep.LdP s (i := 2) rfl rfl rfl ?_
      | refine And.intro (Sep.cell s (i := 2) rfl rfl rfl) ?_
      | refine Sep.LdI s (i := 3) rfl rfl rfl ?_
      | refine Sep.LdS s (i := 3) rfl rfl rfl ?_
      | refine Sep.LdB s (i := 3) rfl rfl rfl ?_
      | refine Sep.LdP s (i := 3) rfl rfl rfl ?_
      | refine And.intro (Sep.cell s (i := 3) rfl rfl rfl) ?_
      | (refine Sep.St s (i := 0) rfl rfl rfl fun w s => ?_; simp only [List.set_cons_zero, List.set_cons_succ] at s)
      | (refine Sep.St s (i := 1) rfl rfl rfl fun w s => ?_; simp only [List.set_cons_zero, List.set_cons_succ] at s)
      | (refine Sep.St s (i := 2) rfl rfl rfl fun w s => ?_; simp only [List.set_cons_zero, List.set_cons_succ] at s)
      | (refine Sep.St s (i := 3) rfl rfl rfl fun w s => ?_; simp only [List.set_cons_zero, List.set_cons_succ] at s)
      | refine Sep.Bx s fun b w s => ?_
      | (refine Sep.Al s fun b w s => ?_; simp only [zc24, zc37, zc38] at s))
  refine ⟨by omega, ?_⟩
  repeat' first
    | refine Sep.LdI s (i := 0) rfl rfl rfl ?_
    | refine Sep.LdS s (i := 0) rfl rfl rfl ?_
    | refine Sep.LdB s (i := 0) rfl rfl rfl ?_
    | refine Sep.LdP s (i := 0) rfl rfl rfl ?_
    | refine And.intro (Sep.cell s (i := 0) rfl rfl rfl) ?_
    | refine Sep.LdI s (i := 1) rfl rfl rfl ?_
    | refine Sep.LdS s (i := 1) rfl rfl rfl ?_
    | refine Sep.LdB s (i := 1) rfl rfl rfl ?_
    | refine Sep.LdP s (i := 1) rfl rfl rfl ?_
    | refine And.intro (Sep.cell s (i := 1) rfl rfl rfl) ?_
    | refine Sep.LdI s (i := 2) rfl rfl rfl ?_
    | refine Sep.LdS s (i := 2) rfl rfl rfl ?_
    | refine Sep.LdB s (i := 2) rfl rfl rfl ?_
    | refine Sep.LdP s (i := 2) rfl rfl rfl ?_
    | refine And.intro (Sep.cell s (i := 2) rfl rfl rfl) ?_
    | refine Sep.LdI s (i := 3) rfl rfl rfl ?_
    | refine Sep.LdS s (i := 3) rfl rfl rfl ?_
    | refine Sep.LdB s (i := 3) rfl rfl rfl ?_
    | refine Sep.LdP s (i := 3) rfl rfl rfl ?_
    | refine And.intro (Sep.cell s (i := 3) rfl rfl rfl) ?_
    | (refine Sep.St s (i := 0) rfl rfl rfl fun w s => ?_; simp only [List.set_cons_zero, List.set_cons_succ] at s)
    | (refine Sep.St s (i := 1) rfl rfl rfl fun w s => ?_; simp only [List.set_cons_zero, List.set_cons_succ] at s)
    | (refine Sep.St s (i := 2) rfl rfl rfl fun w s => ?_; simp only [List.set_cons_zero, List.set_cons_succ] at s)
    | (refine Sep.St s (i := 3) rfl rfl rfl fun w s => ?_; simp only [List.set_cons_zero, List.set_cons_succ] at s)
    | refine Sep.Bx s fun b w s => ?_
    | (refine Sep.Al s fun b w s => ?_; simp only [zc24, zc37, zc38] at s)
    | (replace s := Sep.drew s; first
      | refine Sep.LdI s (i := 0) rfl rfl rfl ?_
      | refine Sep.LdS s (i := 0) rfl rfl rfl ?_
      | refine Sep.LdB s (i := 0) rfl rfl rfl ?_
      | refine Sep.LdP s (i := 0) rfl rfl rfl ?_
      | refine And.intro (Sep.cell s (i := 0) rfl rfl rfl) ?_
      | refine Sep.LdI s (i := 1) rfl rfl rfl ?_
      | refine Sep.LdS s (i := 1) rfl rfl rfl ?_
      | refine Sep.LdB s (i := 1) rfl rfl rfl ?_
      | refine Sep.LdP s (i := 1) rfl rfl rfl ?_
      | refine And.intro (Sep.cell s (i := 1) rfl rfl rfl) ?_
      | refine Sep.LdI s (i := 2) rfl rfl rfl ?_
      | refine Sep.LdS s (i := 2) rfl rfl rfl ?_
      | refine Sep.LdB s (i := 2) rfl rfl rfl ?_
      | refine Sep.LdP s (i := 2) rfl rfl rfl ?_
      | refine And.intro (Sep.cell s (i := 2) rfl rfl rfl) ?_
      | refine Sep.LdI s (i := 3) rfl rfl rfl ?_
      | refine Sep.LdS s (i := 3) rfl rfl rfl ?_
      | refine Sep.LdB s (i := 3) rfl rfl rfl ?_
      | refine Sep.LdP s (i := 3) rfl rfl rfl ?_
      | refine And.intro (Sep.cell s (i := 3) rfl rfl rfl) ?_
      | (refine Sep.St s (i := 0) rfl rfl rfl fun w s => ?_; simp only [List.set_cons_zero, List.set_cons_succ] at s)
      | (refine Sep.St s (i := 1) rfl rfl rfl fun w s => ?_; simp only [List.set_cons_zero, List.set_cons_succ] at s)
      | (refine Sep.St s (i := 2) rfl rfl rfl fun w s => ?_; simp only [List.set_cons_zero, List.set_cons_succ] at s)
      | (refine Sep.St s (i := 3) rfl rfl rfl fun w s => ?_; simp only [List.set_cons_zero, List.set_cons_succ] at s)
      | refine Sep.Bx s fun b w s => ?_
      | (refine Sep.Al s fun b w s => ?_; simp only [zc24, zc37, zc38] at s))
  refine ⟨by omega, ?_⟩
  repeat' first
    | refine Sep.LdI s (i := 0) rfl rfl rfl ?_
    | refine Sep.LdS s (i := 0) rfl rfl rfl ?_
    | refine Sep.LdB s (i := 0) rfl rfl rfl ?_
    | refine Sep.LdP s (i := 0) rfl rfl rfl ?_
    | refine And.intro (Sep.cell s (i := 0) rfl rfl rfl) ?_
    | refine Sep.LdI s (i := 1) rfl rfl rfl ?_
    | refine Sep.LdS s (i := 1) rfl rfl rfl ?_
    | refine Sep.LdB s (i := 1) rfl rfl rfl ?_
    | refine Sep.LdP s (i := 1) rfl rfl rfl ?_
    | refine And.intro (Sep.cell s (i := 1) rfl rfl rfl) ?_
    | refine Sep.LdI s (i := 2) rfl rfl rfl ?_
    | refine Sep.LdS s (i := 2) rfl rfl rfl ?_
    | refine Sep.LdB s (i := 2) rfl rfl rfl ?_
    | refine Sep.LdP s (i := 2) rfl rfl rfl ?_
    | refine And.intro (Sep.cell s (i := 2) rfl rfl rfl) ?_
    | refine Sep.LdI s (i := 3) rfl rfl rfl ?_
    | refine Sep.LdS s (i := 3) rfl rfl rfl ?_
    | refine Sep.LdB s (i := 3) rfl rfl rfl ?_
    | refine Sep.LdP s (i := 3) rfl rfl rfl ?_
    | refine And.intro (Sep.cell s (i := 3) rfl rfl rfl) ?_
    | refine Sep.LdI s (i := 4) rfl rfl rfl ?_
    | refine Sep.LdS s (i := 4) rfl rfl rfl ?_
    | refine Sep.LdB s (i := 4) rfl rfl rfl ?_
    | refine Sep.LdP s (i := 4) rfl rfl rfl ?_
    | refine And.intro (Sep.cell s (i := 4) rfl rfl rfl) ?_
    | (refine Sep.St s (i := 0) rfl rfl rfl fun w s => ?_; simp only [List.set_cons_zero, List.set_cons_succ] at s)
    | (refine Sep.St s (i := 1) rfl rfl rfl fun w s => ?_; simp only [List.set_cons_zero, List.set_cons_succ] at s)
    | (refine Sep.St s (i := 2) rfl rfl rfl fun w s => ?_; simp only [List.set_cons_zero, List.set_cons_succ] at s)
    | (refine Sep.St s (i := 3) rfl rfl rfl fun w s => ?_; simp only [List.set_cons_zero, List.set_cons_succ] at s)
    | (refine Sep.St s (i := 4) rfl rfl rfl fun w s => ?_; simp only [List.set_cons_zero, List.set_cons_succ] at s)
    | refine Sep.Bx s fun b w s => ?_
    | (refine Sep.Al s fun b w s => ?_; simp only [zc24, zc37, zc38] at s)
    | (replace s := Sep.drew s; first
      | refine Sep.LdI s (i := 0) rfl rfl rfl ?_
      | refine Sep.LdS s (i := 0) rfl rfl rfl ?_
      | refine Sep.LdB s (i := 0) rfl rfl rfl ?_
      | refine Sep.LdP s (i := 0) rfl rfl rfl ?_
      | refine And.intro (Sep.cell s (i := 0) rfl rfl rfl) ?_
      | refine Sep.LdI s (i := 1) rfl rfl rfl ?_
      | refine Sep.LdS s (i := 1) rfl rfl rfl ?_
      | refine Sep.LdB s (i := 1) rfl rfl rfl ?_
      | refine Sep.LdP s (i := 1) rfl rfl rfl ?_
      | refine And.intro (Sep.cell s (i := 1) rfl rfl rfl) ?_
      | refine Sep.LdI s (i := 2) rfl rfl rfl ?_
      | refine Sep.LdS s (i := 2) rfl rfl rfl ?_
      | refine Sep.LdB s (i := 2) rfl rfl rfl ?_
      | refine Sep.LdP s (i := 2) rfl rfl rfl ?_
      | refine And.intro (Sep.cell s (i := 2) rfl rfl rfl) ?_
      | refine Sep.LdI s (i := 3) rfl rfl rfl ?_
      | refine Sep.LdS s (i := 3) rfl rfl rfl ?_
      | refine Sep.LdB s (i := 3) rfl rfl rfl ?_
      | refine Sep.LdP s (i := 3) rfl rfl rfl ?_
      | refine And.intro (Sep.cell s (i := 3) rfl rfl rfl) ?_
      | refine Sep.LdI s (i := 4) rfl rfl rfl ?_
      | refine Sep.LdS s (i := 4) rfl rfl rfl ?_
      | refine Sep.LdB s (i := 4) rfl rfl rfl ?_
      | refine Sep.LdP s (i := 4) rfl rfl rfl ?_
      | refine And.intro (Sep.cell s (i := 4) rfl rfl rfl) ?_
      | (refine Sep.St s (i := 0) rfl rfl rfl fun w s => ?_; simp only [List.set_cons_zero, List.set_cons_succ] at s)
      | (refine Sep.St s (i := 1) rfl rfl rfl fun w s => ?_; simp only [List.set_cons_zero, List.set_cons_succ] at s)
      | (refine Sep.St s (i := 2) rfl rfl rfl fun w s => ?_; simp only [List.set_cons_zero, List.set_cons_succ] at s)
      | (refine Sep.St s (i := 3) rfl rfl rfl fun w s => ?_; simp only [List.set_cons_zero, List.set_cons_succ] at s)
      | (refine Sep.St s (i := 4) rfl rfl rfl fun w s => ?_; simp only [List.set_cons_zero, List.set_cons_succ] at s)
      | refine Sep.Bx s fun b w s => ?_
      | (refine Sep.Al s fun b w s => ?_; simp only [zc24, zc37, zc38] at s))
  rw [wrap_i64 (n := tw - 1) (by omega) (by omega), wrap_i64 (n := (rn : Int) - tw) (by omega) (by omega), Int.tmod_eq_emod_of_nonneg r1.1] at s
  have e : (rn : Int) = tw * th := by omega
  rw [e] at s
  have s : Sep No W _ (mateL tw th l _ _ _ ra rn rc ys) := Sep.pick [0, 1, 2, 3] s rfl (by decide)
  have hl : 0 ≤ l ∧ l < tw * th := by omega
  refine ⟨5, ?_⟩
  refine Mates_step hw.1 hh.1 hm hl (by decide) s fun w s => ?_
  refine Mates_step hw.1 hh.1 hm hl (by decide) s fun w s => ?_
  refine Mates_step hw.1 hh.1 hm hl (by decide) s fun w s => ?_
  refine Mates_step hw.1 hh.1 hm hl (by decide) s fun w s => ?_
  exact Mates_end hm hl hQ s
end
theorem TileMates_law : LawOk P 4 [.sl 1 (.int .u8), .int .i64, .int .i64, .int .i64] := by
  intro W args h
  obtain ⟨v0, r, rfl, h0, h⟩ := RdAll.cons h
  obtain ⟨v1, r, rfl, h1, h⟩ := RdAll.cons h
  obtain ⟨v2, r, rfl, h2, h⟩ := RdAll.cons h
  obtain ⟨v3, r, rfl, h3, h⟩ := RdAll.cons h
  obtain rfl := RdAll.nil h
  obtain ⟨a, n, c, cs, rfl, k1, k2, k3, k4, k5⟩ := rdV_ints (k := .u8) (W := W) h0
  obtain ⟨x1, rfl, _⟩ := rdV_int h1
  obtain ⟨x2, rfl, _⟩ := rdV_int h2
  obtain ⟨x3, rfl, _⟩ := rdV_int h3
  exact herdsmanlaw2_TileMates.spec (Q := fun r W' => r = true ∧ Go.RowKit.Below W.heap.size W W') k4 (fun x hx => wf_u8 (k5 x hx)) (by simp only [maxLen] at k2; omega) fun w' s => ⟨rfl, sep_below s⟩
end Go.Proofs.Ytbecldlnajlnnaa.S
