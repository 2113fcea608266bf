/- Layer 6: what Bytes makes. -/
import Derived.Test.YthelhikocaeecaaYG
set_option linter.unusedVariables false
set_option linter.unusedSimpArgs false
namespace Go.Proofs.Ythelhikocaeecaa.S
open Go.Sx
attribute [local irreducible] LdI LdB LdStr LdP LdS LdM LdV St Bx Al App Cpy MkS MkM EqK RunK RunU CallK SlK blkA rowA
theorem tab_ok : OkTab P T := okTab_of P rows rows_ok
section
variable {F : Nat → Prop} {W w : World} {L : List As}
/-- One byte more. -/
theorem App8 {b p : Nat} {a : Option Addr} {n c : Nat} {ns : List Int} {v : Int} {K : Option Addr → Nat → Nat → World → Prop}
    (s : Sep F W w (blkA p 5 [.int .u8 v] :: rowA a n c 5 1 (nums ns) :: L)) (hn : n ≤ 100)
    (h : ∀ a' c' w', Sep F W w' (rowA a' (n + 1) c' 5 1 (nums (ns ++ [v])) :: L) → K a' (n + 1) c' w') : App P #[31, 31] 31 (.slice a n c) (.slice (some ⟨p, 0, none⟩) 1 1) w K := by
  refine Sep.App (T := T) (i := 1) (size := 1) (bytes := 1) (news := [.int .u8 v]) tab_ok s rfl rfl rfl rfl rfl rfl (by omega) rfl rfl ?_ ?_ ?_ ?_ ?_
  · intro j u hj
    match j, hj with
    | 0, hj => exact Sep.cell s (i := 0) (add_zero _) rfl hj
    | j + 1, hj => simp at hj
  · intro u hu
    simp at hu
    subst hu
    rfl
  · simp only [maxLen]; omega
  · omega
  · intro a' c' w' s'
    refine h a' c' w' ?_
    have s' := Sep.drop s'
    have e : nums ns ++ [.int .u8 v] = nums (ns ++ [v]) := by simp [nums]
    rw [e] at s'
    exact s'
theorem ishr8 {n : Int} (hn : 0 ≤ n) (t : Nat) : ishr .u64 (n / 256 ^ t) 8 = n / 256 ^ (t + 1) := by
  unfold ishr
  have e : min (8 : Int).toNat (IntKind.u64).bits = 8 := by decide
  have e2 : (256 : Int) ^ (t + 1) = 256 ^ t * 256 := Int.pow_succ ..
  rw [e, Int.fdiv_eq_ediv_of_nonneg _ (by decide), e2, ← Int.ediv_ediv_of_nonneg (Int.pow_nonneg (by omega))]
  rfl
theorem Bytes_in {P3 : Option Addr → Nat → Nat → Int → Int → Int → Int → Int → Int → Int → World → Prop} {Q : Option Addr → Nat → Nat → World → Prop} {x0 x1 x2 x3 x4 x5 t8 n0 : Int} (h0 : U n0) :
    ∀ (m t n : Nat) (a : Option Addr) (c : Nat) (ns : List Int) (w : World), t + m = 8 → n + m ≤ 100 → Sep F W w (rowA a n c 5 1 (nums ns) :: L) →
    (∀ a' c' w', Sep F W w' (rowA a' (n + m) c' 5 1 (nums (ns ++ (List.range' t m).map (byt n0))) :: L) → P3 a' (n + m) c' x0 x1 x2 x3 x4 x5 (IntKind.wrap .i64 (t8 + 1)) w') →
    tally_Bytes.b6 P3 Q (m + 1) a n c (n0 / 256 ^ t) x0 x1 x2 x3 x4 x5 t8 t w := by
  intro m
  induction m with
  | zero =>
    intro t n a c ns w ht hn s h
    show tally_Bytes.s6 P3 Q (tally_Bytes.b6 P3 Q 0) _ _ _ _ _ _ _ _ _ _ _ _ _
    unfold tally_Bytes.s6
    rw [decide_eq_false (by omega), cond_false]
    have := h a c w (by simpa using s)
    simpa using this
  | succ m ih =>
    intro t n a c ns w ht hn s h
    show tally_Bytes.s6 P3 Q (tally_Bytes.b6 P3 Q (m + 1)) _ _ _ _ _ _ _ _ _ _ _ _ _
    unfold tally_Bytes.s6
    rw [decide_eq_true (by omega), cond_true]
    refine Sep.Bx s fun p w1 s => ?_
    refine App8 (b := 0) s (by omega) fun a' c' w2 s => ?_
    refine ⟨by decide, ?_⟩
    rw [ishr8 h0.1, wrap_i64 (by omega) (by omega)]
    refine ih (t + 1) (n + 1) a' c' _ w2 (by omega) (by omega) s fun a2 c2 w3 s => ?_
    have e1 : n + 1 + m = n + (m + 1) := by omega
    rw [e1] at s ⊢
    refine h a2 c2 w3 ?_
    rw [wrap_u8', List.append_assoc] at s
    rw [List.range'_succ, List.map_cons]
    exact s
theorem Bytes_out {Q : Option Addr → Nat → Nat → World → Prop} {x0 x1 x2 x3 x4 x5 : Int} (hU : ∀ x ∈ [x0, x1, x2, x3, x4, x5], U x) :
    ∀ (m t n : Nat) (a : Option Addr) (c : Nat) (ns : List Int) (w : World), t + m = 6 → n = 8 * t → Sep F W w (rowA a n c 5 1 (nums ns) :: L) →
    (∀ a' c' w', Sep F W w' (rowA a' 48 c' 5 1 (nums (ns ++ ([x0, x1, x2, x3, x4, x5].drop t).flatMap le8)) :: L) → Q a' 48 c' w') →
    tally_Bytes.b3 Q (m + 1) a n c x0 x1 x2 x3 x4 x5 t w := by
  intro m
  induction m with
  | zero =>
    intro t n a c ns w ht hn s h
    obtain rfl : t = 6 := by omega
    obtain rfl : n = 48 := by omega
    show tally_Bytes.s3 Q (tally_Bytes.b3 Q 0) _ _ _ _ _ _ _ _ _ _ _
    unfold tally_Bytes.s3
    rw [decide_eq_false (by decide), cond_false]
    exact h a c w (by simpa using s)
  | succ m ih =>
    intro t n a c ns w ht hn s h
    show tally_Bytes.s3 Q (tally_Bytes.b3 Q (m + 1)) _ _ _ _ _ _ _ _ _ _ _
    unfold tally_Bytes.s3
    rw [decide_eq_true (by omega), cond_true]
    refine ⟨by omega, by omega, ?_⟩
    have htl : t < [x0, x1, x2, x3, x4, x5].length := by simp; omega
    have hx : ∃ x, [x0, x1, x2, x3, x4, x5][t]? = some x := ⟨_, List.getElem?_eq_getElem htl⟩
    obtain ⟨x, hx⟩ := hx
    have hix : IxV [.int .u64 x0, .int .u64 x1, .int .u64 x2, .int .u64 x3, .int .u64 x4, .int .u64 x5] ((t : Int).toNat) = IxV ([x0, x1, x2, x3, x4, x5].map (.int .u64)) t := by simp
    rw [hix]
    refine ⟨.int .u64 x, ?_, ?_⟩
    · rw [nthV_eq, List.getElem?_map, hx]; rfl
    show ∃ k', tally_Bytes.b6 _ Q k' a n c x x0 x1 x2 x3 x4 x5 t 0 w
    refine ⟨9, ?_⟩
    have hxU : U x := hU x (List.mem_of_getElem? hx)
    have := Bytes_in (F := F) (W := W) (L := L) (P3 := tally_Bytes.b3 Q (m + 1)) (Q := Q) (x0 := x0) (x1 := x1) (x2 := x2) (x3 := x3) (x4 := x4) (x5 := x5) (t8 := t) hxU 8 0 n a c ns w rfl (by omega) s fun a' c' w' s => ?_
    · simpa using this
    · rw [wrap_i64 (by omega) (by omega)]
      refine ih (t + 1) (n + 8) a' c' _ w' (by omega) (by omega) s fun a2 c2 w2 s => ?_
      refine h a2 c2 w2 ?_
      rw [List.append_assoc] at s
      have e : [x0, x1, x2, x3, x4, x5].drop t = x :: [x0, x1, x2, x3, x4, x5].drop (t + 1) := by
        rw [List.drop_eq_getElem_cons htl]
        rw [List.getElem?_eq_getElem htl] at hx
        cases hx
        rfl
      rw [e, List.flatMap_cons]
      have e2 : le8 x = (List.range' 0 8).map (byt x) := rfl
      rw [e2]
      exact s
end
def bytes6 (a b c d e f : Int) : List Int := [a, b, c, d, e, f].flatMap le8
theorem tally_Bytes.spec {F : Nat → Prop} {W w : World} {L : List As} {a b c d e f : Int} {Q : Option Addr → Nat → Nat → World → Prop} (s : Sep F W w L) (u : U a ∧ U b ∧ U c ∧ U d ∧ U e ∧ U f)
    (h : ∀ p k w', Sep F W w' (rowA p 48 k 5 1 (nums (bytes6 a b c d e f)) :: L) → Q p 48 k w') : tally_Bytes.call a b c d e f w Q := by
  refine tally_Bytes.body _ _ _ _ _ _ _ _ ?_
  unfold tally_Bytes.sh
  refine Sep.Bx s fun b1 w1 s => ?_
  repeat' first
    | refine Sep.LdI s (i := 0) rfl rfl rfl ?_
  refine tally_counts.spec s fun w2 s => ?_
  refine ⟨7, ?_⟩
  refine Bytes_out (F := F) (W := W) (L := L) ?_ 6 0 0 none 0 [] w2 rfl rfl (Sep.row_nil (Sep.drop s) 5 1) fun a' c' w' s => h a' c' w' s
  obtain ⟨ua, ub, uc, ud, ue, uf⟩ := u
  intro x hx
  simp only [List.mem_cons, List.mem_nil_iff, or_false] at hx
  rcases hx with rfl | rfl | rfl | rfl | rfl | rfl <;> assumption
end Go.Proofs.Ythelhikocaeecaa.S
