/- Layer 2: near; told; TileAsks answers true. -/
import Derived.Test.YtbecldlnajlnnaaTD
set_option linter.unusedVariables false
set_option linter.unusedSimpArgs false
namespace Go.Proofs.Ytbecldlnajlnnaa.S
open Go.Sx
attribute [local irreducible] LdI LdB LdStr LdP LdS LdM LdV St Bx Al App Cpy MkS MkM EqK RunK RunU CallK SlK blkA rowA joinA
def tl (tw th : Int) (a : Option Addr) (n c : Nat) : List Value := [.int .i64 tw, .int .i64 th, .slice a n c]
section
variable {F : Nat → Prop} {W w : World} {L : List As} {a : Option Addr} {n c : Nat} {cs : List Int}
theorem near.spec {tw th w1 h1 : Int} {raw : Bool} {Q : Int → Int → Option Addr → Nat → Nat → World → Prop} (s : Sep F W w L) (hA : ArgRow w a n 1 by8 cs) (hcs : ∀ x ∈ cs, 0 ≤ x ∧ x < 256) (hn : n ≤ 600) (hac : a = none → c = 0)
    (h : ∀ tw th ra rn rc ys w', rn = ys.length → rn ≤ 600 → (∀ x ∈ ys, 0 ≤ x ∧ x < 256) → Sep F W w' (rowA ra rn rc 5 1 (flat by8 ys) :: L) → Q tw th ra rn rc w') : herdsmanlaw2_near.call tw th a n c w1 h1 raw w Q := by
  refine herdsmanlaw2_near.body _ _ _ _ _ _ _ _ _ _ ?_
  unfold herdsmanlaw2_near.sh
  refine Sep.Bx (F := No) (W := w) (L := []) Sep.nil fun b1 w1 s1 => ?_
  refine Sep.Al s1 fun b2 w2 s2 => ?_
  rw [zc24] at s2
  have hA2 := hA.fr (sep_fr s2)
  cases raw with
  | true =>
    rw [cond_true]
    refine Sep.LdI s2 (i := 1) (j := 0) rfl rfl rfl ?_
    refine Sep.LdI s2 (i := 1) (j := 1) rfl rfl rfl ?_
    refine Sep.LdS s2 (i := 1) (j := 2) rfl rfl rfl ?_
    refine ref_OwnTile.spec s2 hA2 (by omega) hac fun ra rc w3 s3 _ => ?_
    refine Sep.St s3 (i := 1) (j := 0) rfl rfl rfl fun w7 s7 => ?_
    refine Sep.St s7 (i := 1) (j := 1) rfl rfl rfl fun w8 s8 => ?_
    refine Sep.St s8 (i := 1) (j := 2) rfl rfl rfl fun w9 s9 => ?_
    simp only [List.set_cons_zero, List.set_cons_succ] at s9
    refine Sep.LdI s9 (i := 1) (j := 0) rfl rfl rfl ?_
    refine Sep.LdI s9 (i := 1) (j := 1) rfl rfl rfl ?_
    refine Sep.LdS s9 (i := 1) (j := 2) rfl rfl rfl ?_
    exact h _ _ _ _ _ cs w9 hA.1.symm hn hcs (Sep.gain s s9 (i := 0) rfl)
  | false =>
    rw [cond_false]
    refine Sep.LdS s2 (i := 1) (j := 2) rfl rfl rfl ?_
    refine ref_MadeTile.spec s2 hA2 hcs (by omega) fun tw th ra rn rc ys w3 k1 k2 k3 k4 k5 s3 _ => ?_
    refine Sep.St s3 (i := 1) (j := 0) rfl rfl rfl fun w7 s7 => ?_
    refine Sep.St s7 (i := 1) (j := 1) rfl rfl rfl fun w8 s8 => ?_
    refine Sep.St s8 (i := 1) (j := 2) rfl rfl rfl fun w9 s9 => ?_
    simp only [List.set_cons_zero, List.set_cons_succ] at s9
    refine Sep.LdI s9 (i := 1) (j := 0) rfl rfl rfl ?_
    refine Sep.LdI s9 (i := 1) (j := 1) rfl rfl rfl ?_
    refine Sep.LdS s9 (i := 1) (j := 2) rfl rfl rfl ?_
    have q2 : tw * th ≤ 16 * 16 := Int.mul_le_mul k1.2 k2.2 (by omega) (by decide)
    exact h _ _ _ _ _ ys w9 k4 (by omega) (fun x hx => by have := k5 x hx; omega) (Sep.gain s s9 (i := 0) rfl)
theorem herdsmanlaw2_told.spec {Q : Bool → World → Prop} (s : Sep F W w L) (h : ∀ w', Sep F W w' L → Fr No w w' → Q true w') : herdsmanlaw2_told.call w Q := by
  refine herdsmanlaw2_told.body _ _ ?_
  unfold herdsmanlaw2_told.sh
  refine Sep.Bx (F := No) (W := w) (L := []) Sep.nil fun b1 w1 s1 => ?_
  have s1 := Sep.blk_row (n := 4) (size := 1) s1 (i := 0) rfl rfl (by decide) (by simp; decide)
  simp only [List.set_cons_zero] at s1
  have e4 : ([.int .u8 1, .int .u8 255, .int .u8 3, .int .u8 4] : List Value) = flat by8 [1, 255, 3, 4] := rfl
  rw [e4] at s1
  refine Sep.Al s1 fun t w2 s2 => ?_
  rw [zc24] at s2
  refine Sep.St s2 (i := 0) rfl rfl rfl fun w3 s3 => ?_
  refine Sep.St s3 (i := 0) rfl rfl rfl fun w4 s4 => ?_
  refine Sep.St s4 (i := 0) rfl rfl rfl fun w5 s5 => ?_
  simp only [List.set_cons_zero, List.set_cons_succ] at s5
  have hA5 := Sep.argrow s5 (i := 1) rfl by8_len (by decide)
  refine Sep.LdI s5 (i := 0) (j := 0) rfl rfl rfl ?_
  refine Sep.LdI s5 (i := 0) (j := 1) rfl rfl rfl ?_
  refine Sep.LdS s5 (i := 0) (j := 2) rfl rfl rfl ?_
  refine tile_Open.spec s5 hA5 fun oa on oc w6 s6 k6 hon => ?_
  have hol : openL 2 2 [1, 255, 3, 4] = [0, 2, 3] := by decide
  rw [hol] at s6 hon
  subst hon
  have hA6 := Sep.argrow s6 (i := 2) rfl by8_len (by decide)
  have hO6 := Sep.argrow s6 (i := 0) rfl one_len (by decide)
  refine Sep.LdI s6 (i := 1) (j := 0) rfl rfl rfl ?_
  refine Sep.LdI s6 (i := 1) (j := 1) rfl rfl rfl ?_
  refine Sep.LdS s6 (i := 1) (j := 2) rfl rfl rfl ?_
  refine tile_May.spec s6 hA6 fun w7 s7 k7 => ?_
  rw [show mayB 2 2 [1, 255, 3, 4] = true by decide, cond_true, show ((([0, 2, 3] : List Int).length : Int) == 3) = true from rfl, cond_true]
  refine ⟨by decide, by decide, ?_⟩
  have hO7 := hO6.fr k7
  obtain ⟨ad, e, hc⟩ := rd_at1 hO7 (i := 1) (by decide)
  rw [e]
  refine wA_some ?_
  refine LdI_cell (m := 2) hc ?_
  rw [show ((2 : Int) == 2) = true from rfl, cond_true]
  refine Sep.LdI s7 (i := 1) (j := 0) rfl rfl rfl ?_
  refine Sep.LdI s7 (i := 1) (j := 1) rfl rfl rfl ?_
  refine Sep.LdS s7 (i := 1) (j := 2) rfl rfl rfl ?_
  refine tile_Near.spec s7 (hA6.fr k7) fun w8 s8 k8 => ?_
  rw [show nearI 2 2 [1, 255, 3, 4] 3 0 = 1 by decide, show ((1 : Int) == 1) = true from rfl, cond_true]
  refine Sep.LdI s8 (i := 1) (j := 0) rfl rfl rfl ?_
  refine Sep.LdI s8 (i := 1) (j := 1) rfl rfl rfl ?_
  refine Sep.LdS s8 (i := 1) (j := 2) rfl rfl rfl ?_
  refine tile_At.spec s8 ((hA6.fr k7).fr k8) (by decide) fun w9 s9 k9 => ?_
  rw [show atI 2 2 [1, 255, 3, 4] 2 = 3 by decide]
  exact h w9 (Sep.call s (sep_fr s9)) (sep_fr s9)
end
end Go.Proofs.Ytbecldlnajlnnaa.S
