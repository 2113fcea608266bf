/- Layer 2: TileSame and TileMates answer true. -/
import Derived.Test.YtbecldlnajlnnaaTI
set_option linter.unusedVariables false
set_option linter.unusedSimpArgs false
namespace Go.Proofs.Ytbecldlnajlnnaa.S
open Go.Sx
theorem zc37 : zc T 37 = [.int .i64 0, .int .i64 0, .int .i64 0, .int .i64 0] := rfl
theorem zc38 : zc T 38 = [.bool false, .bool false, .bool false, .bool false] := rfl
attribute [local irreducible] LdI LdB LdStr LdP LdS LdM LdV St Bx Al App Cpy MkS MkM EqK RunK RunU CallK SlK blkA rowA joinA
theorem TileSame_law : LawOk P 5 [tileS, tileS, .int .i64, .int .u8, .bool] := by
  intro W args h
  obtain ⟨v0, r, rfl, h0, h⟩ := RdAll.cons h
  obtain ⟨v1, r, rfl, h1, h⟩ := RdAll.cons h
  obtain ⟨v2, r, rfl, h2, h⟩ := RdAll.cons h
  obtain ⟨v3, r, rfl, h3, h⟩ := RdAll.cons h
  obtain ⟨v5, r, rfl, h5, h⟩ := RdAll.cons h
  obtain rfl := RdAll.nil h
  obtain ⟨tw, th, a, n, c, cs, rfl, _, q2, q3, q4⟩ := rdV_tile h0
  obtain ⟨tw', th', b, m, d, ds, rfl, _, p2, p3, p4⟩ := rdV_tile h1
  obtain ⟨x2, rfl, _⟩ := rdV_int h2
  obtain ⟨x3, rfl, _⟩ := rdV_int h3
  obtain ⟨b, rfl⟩ := rdV_bool h5
  exact herdsmanlaw2_TileSame.spec (Q := fun r W' => r = true ∧ Go.RowKit.Below W.heap.size W W') q3 q4 q2 p3 p4 p2 fun w' s => ⟨rfl, sep_below s⟩
/-! Who is beside whom, by row and column. -/
theorem cell_mod {W x y : Int} (hx : 0 ≤ x ∧ x < W) : (y * W + x) % W = x ∧ (y * W + x) / W = y := by
  have hW : 0 < W := by omega
  refine ⟨?_, ?_⟩
  · rw [Int.add_comm, Int.add_mul_emod_self_right, Int.emod_eq_of_lt hx.1 hx.2]
  · rw [Int.add_comm, Int.add_mul_ediv_right _ _ (by omega), Int.ediv_eq_zero_of_lt hx.1 hx.2, Int.zero_add]
theorem put2_in {W H x y : Int} (hx : 0 ≤ x ∧ x < W) (hy : 0 ≤ y ∧ y < H) : put2 W H x y = y * W + x := by unfold put2; rw [if_pos (by omega)]
theorem put2_out {W H x y : Int} (h : ¬ (0 ≤ x ∧ x < W ∧ 0 ≤ y ∧ y < H)) : put2 W H x y = -1 := by unfold put2; rw [if_neg h]
theorem cell_range {W H x y : Int} (hx : 0 ≤ x ∧ x < W) (hy : 0 ≤ y ∧ y < H) : 0 ≤ y * W + x ∧ y * W + x < W * H := by
  have h1 : 0 ≤ y * W := Int.mul_nonneg hy.1 (by omega)
  have h2 : (y + 1) * W ≤ H * W := Int.mul_le_mul_of_nonneg_right (by omega) (by omega)
  rw [Int.add_mul, Int.one_mul, Int.mul_comm H W] at h2
  omega
theorem beside_xy {W H x y side : Int} (hx : 0 ≤ x ∧ x < W) : besideI W H (y * W + x) side =
    if side = 0 then put2 W H x (y - 1) else if side = 2 then put2 W H x (y + 1) else if side = 3 then put2 W H (x - 1) y else if side = 1 then put2 W H (x + 1) y else if side = 4 then put2 W H x y else -1 := by
  unfold besideI
  rw [(cell_mod hx).1, (cell_mod hx).2]
theorem rows_lt {W H x y : Int} (hx : 0 ≤ x ∧ x < W) (hy : 0 ≤ y ∧ y < H) : (y * W + x < W ↔ y = 0) ∧ (y * W + x ≥ W * H - W ↔ y = H - 1) := by
  have hW : 0 < W := by omega
  refine ⟨⟨fun h => ?_, fun h => ?_⟩, ⟨fun h => ?_, fun h => ?_⟩⟩
  · rcases Int.lt_or_le y 1 with h1 | h1
    · omega
    · have := Int.mul_le_mul_of_nonneg_right h1 (show 0 ≤ W by omega)
      omega
  · subst h; omega
  · rcases Int.lt_or_le y (H - 1) with h1 | h1
    · have h2 := Int.mul_le_mul_of_nonneg_right (show y + 1 ≤ H - 1 by omega) (show 0 ≤ W by omega)
      rw [Int.add_mul, Int.sub_mul, Int.one_mul, Int.mul_comm H W] at h2
      omega
    · omega
  · subst h
    rw [Int.sub_mul, Int.one_mul, Int.mul_comm H W]
    omega
def backI (side : Int) : Int := if side = 0 then 2 else if side = 1 then 3 else if side = 2 then 0 else 1
def edgeB (tw th l side : Int) : Bool := if side = 0 then decide (l < tw) else if side = 1 then l % tw == tw - 1 else if side = 2 then decide (l ≥ tw * th - tw) else l % tw == 0
theorem mates {tw th l side : Int} (hw : 1 ≤ tw) (hh : 1 ≤ th) (hl : 0 ≤ l ∧ l < tw * th) (hs : 0 ≤ side ∧ side ≤ 3) :
    decide (besideI tw th l side < 0) = edgeB tw th l side ∧ (0 ≤ besideI tw th l side → besideI tw th l side < tw * th ∧ besideI tw th (besideI tw th l side) (backI side) = l) := by
  obtain ⟨x, y, hx, hy, rfl⟩ : ∃ x y : Int, (0 ≤ x ∧ x < tw) ∧ (0 ≤ y ∧ y < th) ∧ l = y * tw + x := by
    refine ⟨l % tw, l / tw, ⟨Int.emod_nonneg _ (by omega), Int.emod_lt_of_pos _ (by omega)⟩, ⟨Int.ediv_nonneg hl.1 (by omega), Int.ediv_lt_of_lt_mul (by omega) (by rw [Int.mul_comm]; exact hl.2)⟩, ?_⟩
    rw [Int.mul_comm]; exact (Int.mul_ediv_add_emod l tw).symm
  have rl := rows_lt hx hy
  rw [beside_xy hx]
  unfold edgeB backI
  rw [(cell_mod hx).1]
  have io : ∀ x' y' : Int, ((0 ≤ x' ∧ x' < tw) ∧ (0 ≤ y' ∧ y' < th) ∧ put2 tw th x' y' = y' * tw + x' ∧ 0 ≤ y' * tw + x' ∧ y' * tw + x' < tw * th) ∨ (¬ (0 ≤ x' ∧ x' < tw ∧ 0 ≤ y' ∧ y' < th) ∧ put2 tw th x' y' = -1) := fun x' y' => by
    by_cases h : 0 ≤ x' ∧ x' < tw ∧ 0 ≤ y' ∧ y' < th
    · exact .inl ⟨⟨h.1, h.2.1⟩, h.2.2, put2_in ⟨h.1, h.2.1⟩ h.2.2, cell_range ⟨h.1, h.2.1⟩ h.2.2⟩
    · exact .inr ⟨h, put2_out h⟩
  have hs' : side = 0 ∨ side = 1 ∨ side = 2 ∨ side = 3 := by omega
  rcases hs' with rfl | rfl | rfl | rfl
  · simp only [if_pos]
    rcases io x (y - 1) with ⟨h1, h2, e, h3⟩ | ⟨h1, e⟩
    · rw [e]
      refine ⟨decide_eq_decide.2 ?_, fun _ => ⟨h3.2, ?_⟩⟩
      · rw [rl.1]; omega
      · rw [beside_xy h1, if_neg (by decide), if_pos rfl, show y - 1 + 1 = y by omega, put2_in hx hy]
    · rw [e]
      exact ⟨decide_eq_decide.2 (by rw [rl.1]; omega), fun h => by omega⟩
  · rw [if_neg (by decide), if_neg (by decide), if_neg (by decide), if_pos rfl, if_neg (by decide), if_pos rfl, if_neg (by decide), if_pos rfl]
    rcases io (x + 1) y with ⟨h1, h2, e, h3⟩ | ⟨h1, e⟩
    · rw [e]
      refine ⟨?_, fun _ => ⟨h3.2, ?_⟩⟩
      · rw [decide_eq_false (by omega), show (x == tw - 1) = false by rw [beq_eq_false_iff_ne]; omega]
      · rw [beside_xy h1, if_neg (by decide), if_neg (by decide), if_pos rfl, show x + 1 - 1 = x by omega, put2_in hx hy]
    · rw [e]
      exact ⟨by rw [decide_eq_true (by decide), show (x == tw - 1) = true by rw [beq_iff_eq]; omega], fun h => by omega⟩
  · rw [if_neg (by decide), if_pos rfl, if_neg (by decide), if_neg (by decide), if_pos rfl, if_neg (by decide), if_neg (by decide), if_pos rfl]
    rcases io x (y + 1) with ⟨h1, h2, e, h3⟩ | ⟨h1, e⟩
    · rw [e]
      refine ⟨decide_eq_decide.2 ?_, fun _ => ⟨h3.2, ?_⟩⟩
      · rw [rl.2]; omega
      · rw [beside_xy h1, if_pos rfl, show y + 1 - 1 = y by omega, put2_in hx hy]
    · rw [e]
      exact ⟨decide_eq_decide.2 (by rw [rl.2]; omega), fun h => by omega⟩
  · rw [if_neg (by decide), if_neg (by decide), if_pos rfl, if_neg (by decide), if_neg (by decide), if_neg (by decide), if_neg (by decide), if_neg (by decide), if_neg (by decide)]
    rcases io (x - 1) y with ⟨h1, h2, e, h3⟩ | ⟨h1, e⟩
    · rw [e]
      refine ⟨?_, fun _ => ⟨h3.2, ?_⟩⟩
      · rw [decide_eq_false (by omega), show (x == 0) = false by rw [beq_eq_false_iff_ne]; omega]
      · rw [beside_xy h1, if_neg (by decide), if_neg (by decide), if_neg (by decide), if_pos rfl, show x - 1 + 1 = x by omega, put2_in hx hy]
    · rw [e]
      exact ⟨by rw [decide_eq_true (by decide), show (x == 0) = true by rw [beq_iff_eq]; omega], fun h => by omega⟩
end Go.Proofs.Ytbecldlnajlnnaa.S
