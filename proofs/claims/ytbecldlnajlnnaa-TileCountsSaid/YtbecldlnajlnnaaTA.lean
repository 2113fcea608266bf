/- Layer 2: what the tile's and the document's readers answer, whatever else the memory holds. -/
import Derived.Test.YtbecldlnajlnnaaSxL
import Derived.Test.YtbecldlnajlnnaaXF0
set_option linter.unusedVariables false
set_option linter.unusedSimpArgs false
namespace Go.Proofs.Ytbecldlnajlnnaa.S
open Go.Sx
theorem tab_ok : OkTab P T := okTab_of P rows rows_ok
attribute [local irreducible] LdI LdB LdStr LdP LdS LdM LdV St Bx Al App Cpy MkS MkM EqK RunK RunU CallK SlK blkA rowA joinA
def mayB (W H : Int) (cs : List Int) : Bool := decide (1 ≤ W ∧ W ≤ 16) && (decide (1 ≤ H ∧ H ≤ 16) && (decide ((cs.length : Int) = W * H) && !decide ((0 : Int) ∈ cs)))
theorem mayB_iff {W H : Int} {cs : List Int} : mayB W H cs = true ↔ (1 ≤ W ∧ W ≤ 16) ∧ (1 ≤ H ∧ H ≤ 16) ∧ (cs.length : Int) = W * H ∧ (0 : Int) ∉ cs := by
  simp [mayB]
section
variable {F : Nat → Prop} {W w : World} {L : List As} {a : Option Addr} {n c : Nat} {cs : List Int}
theorem rd_at (h : ArgRow w a n 1 by8 cs) {i : Nat} (hi : i < n) : ∃ ad, a = some ad ∧ w.cell? (ad.add (i * 1)) = some (.int .u8 (gi cs i)) := by
  obtain ⟨ad, e, hc⟩ := h.2 i _ (gi_get (by rw [h.1]; exact hi))
  exact ⟨ad, e, hc 0 _ rfl⟩
theorem rd_at1 (h : ArgRow w a n 1 one cs) {i : Nat} (hi : i < n) : ∃ ad, a = some ad ∧ w.cell? (ad.add (i * 1)) = some (.int .i64 (gi cs i)) := by
  obtain ⟨ad, e, hc⟩ := h.2 i _ (gi_get (by rw [h.1]; exact hi))
  exact ⟨ad, e, hc 0 _ rfl⟩
theorem LdI_cell {k : IntKind} {m : Int} {ad : Addr} {K : Int → Prop} (h : w.cell? ad = some (.int k m)) (hk : K m) : LdI k ad w K := by
  unfold LdI
  exact ⟨m, h, hk⟩
theorem tile_sized.spec {m : Int} {Q : Bool → World → Prop} (h : Q (decide (1 ≤ m ∧ m ≤ 16)) w) : tile_sized.call m w Q := by
  refine tile_sized.body _ _ _ ?_
  unfold tile_sized.sh
  by_cases h1 : m ≥ 1
  · rw [decide_eq_true h1, cond_true, show decide (m ≤ 16) = decide (1 ≤ m ∧ m ≤ 16) from decide_eq_decide.2 (by omega)]
    exact h
  · rw [decide_eq_false h1, cond_false]
    rwa [decide_eq_false (by omega)] at h
theorem Index_loop {v : Int} {Q : Int → World → Prop} (hA : ArgRow w a n 1 by8 cs) (hn : n < 1000000000) (hy : v ∈ cs → ∀ i : Nat, Q i w) (hno : v ∉ cs → Q (-1) w) :
    ∀ (m i : Nat), i + m = n → (∀ j, j < i → gi cs j ≠ v) → slices_Index_byte_byte.b2 Q (m + 1) a n c v n i w := by
  intro m
  induction m with
  | zero =>
    intro i hi hlow
    show slices_Index_byte_byte.s2 Q (slices_Index_byte_byte.b2 Q 0) _ _ _ _ _ _ _
    unfold slices_Index_byte_byte.s2
    rw [decide_eq_false (by omega), cond_false]
    refine hno fun hv => ?_
    obtain ⟨j, hj, e⟩ := List.getElem_of_mem hv
    have := hlow j (by rw [hA.1] at hj; omega)
    have h2 := gi_get hj
    rw [List.getElem?_eq_getElem hj] at h2
    exact this (by rw [← Option.some.inj h2, e])
  | succ m ih =>
    intro i hi hlow
    show slices_Index_byte_byte.s2 Q (slices_Index_byte_byte.b2 Q (m + 1)) _ _ _ _ _ _ _
    unfold slices_Index_byte_byte.s2
    obtain ⟨ad, rfl, hc⟩ := rd_at hA (i := i) (by omega)
    rw [decide_eq_true (by omega), cond_true]
    refine ⟨by omega, by omega, wA_some ?_⟩
    refine LdI_cell hc ?_
    by_cases hv : v = gi cs i
    · rw [hv, beq_self_eq_true, cond_true]
      exact hy (by rw [hv]; exact gi_mem (by rw [hA.1]; omega)) i
    · rw [show (v == gi cs i) = false by rw [beq_eq_false_iff_ne]; exact hv, cond_false, wrap_i64 (by omega) (by omega)]
      refine ih (i + 1) (by omega) fun j hj => ?_
      by_cases hji : j = i
      · subst hji; exact fun e => hv e.symm
      · exact hlow j (by omega)
theorem Contains.spec {v : Int} {Q : Bool → World → Prop} (hA : ArgRow w a n 1 by8 cs) (hn : n < 1000000000) (h : Q (decide (v ∈ cs)) w) : slices_Contains_byte_byte.call a n c v w Q := by
  refine slices_Contains_byte_byte.body _ _ _ _ _ _ ?_
  unfold slices_Contains_byte_byte.sh
  refine slices_Index_byte_byte.body _ _ _ _ _ _ ?_
  unfold slices_Index_byte_byte.sh
  refine ⟨n + 1, Index_loop hA hn (fun hv i => ?_) (fun hv => ?_) n 0 (by omega) (fun j hj => by omega)⟩
  · rw [decide_eq_true hv] at h
    rw [decide_eq_true (by omega)]
    exact h
  · rw [decide_eq_false hv] at h
    rw [decide_eq_false (by decide)]
    exact h
theorem tile_May.spec {tw th : Int} {Q : Bool → World → Prop} (s : Sep F W w L) (hA : ArgRow w a n 1 by8 cs) (h : ∀ w', Sep F W w' L → Fr No w w' → Q (mayB tw th cs) w') : tile_May.call tw th a n c w Q := by
  refine tile_May.body _ _ _ _ _ _ _ ?_
  unfold tile_May.sh
  refine Sep.Bx (F := No) (W := w) (L := []) Sep.nil fun b1 w1 s1 => ?_
  have hh := h w1 (Sep.call s (sep_fr s1)) (sep_fr s1)
  have hA1 := hA.fr (sep_fr s1)
  unfold mayB at hh
  refine Sep.LdI s1 (i := 0) rfl rfl rfl ?_
  refine tile_sized.spec ?_
  cases h1 : decide (1 ≤ tw ∧ tw ≤ 16) with
  | false =>
    rw [cond_false]
    rwa [h1, Bool.false_and] at hh
  | true =>
    rw [cond_true]
    rw [h1, Bool.true_and] at hh
    refine Sep.LdI s1 (i := 0) rfl rfl rfl ?_
    refine tile_sized.spec ?_
    cases h2 : decide (1 ≤ th ∧ th ≤ 16) with
    | false =>
      rw [cond_false]
      rwa [h2, Bool.false_and] at hh
    | true =>
      rw [cond_true]
      rw [h2, Bool.true_and] at hh
      have h1' := of_decide_eq_true h1
      have h2' := of_decide_eq_true h2
      refine Sep.LdS s1 (i := 0) rfl rfl rfl ?_
      refine Sep.LdI s1 (i := 0) rfl rfl rfl ?_
      refine Sep.LdI s1 (i := 0) rfl rfl rfl ?_
      have hp : 1 ≤ tw * th ∧ tw * th ≤ 256 := by
        have q1 : 1 * 1 ≤ tw * th := Int.mul_le_mul h1'.1 h2'.1 (by decide) (by omega)
        have q2 : tw * th ≤ 16 * 16 := Int.mul_le_mul h1'.2 h2'.2 (by omega) (by decide)
        omega
      rw [wrap_i64 (n := tw * th) (by omega) (by omega)]
      have hl := hA.1
      by_cases h3 : (cs.length : Int) = tw * th
      · rw [decide_eq_true h3, Bool.true_and] at hh
        rw [show ((n : Int) == tw * th) = true by rw [beq_iff_eq]; omega, cond_true]
        refine Sep.LdS s1 (i := 0) rfl rfl rfl ?_
        exact Contains.spec hA1 (by omega) hh
      · rw [decide_eq_false h3, Bool.false_and] at hh
        rw [show ((n : Int) == tw * th) = false by rw [beq_eq_false_iff_ne]; omega, cond_false]
        exact hh
def isB (tw th : Int) (cs : List Int) (l : Int) : Bool := decide (0 ≤ l ∧ l < (cs.length : Int)) && mayB tw th cs
theorem tile_is.spec {tw th l : Int} {Q : Bool → World → Prop} (s : Sep F W w L) (hA : ArgRow w a n 1 by8 cs) (h : ∀ w', Sep F W w' L → Fr No w w' → Q (isB tw th cs l) w') : tile_is.call tw th a n c l w Q := by
  refine tile_is.body _ _ _ _ _ _ _ _ ?_
  unfold tile_is.sh
  refine Sep.Bx (F := No) (W := w) (L := []) Sep.nil fun b1 w1 s1 => ?_
  have hh := h w1 (Sep.call s (sep_fr s1)) (sep_fr s1)
  have hA1 := hA.fr (sep_fr s1)
  have hl := hA.1
  unfold isB at hh
  by_cases h1 : l ≥ 0
  · rw [decide_eq_true h1, cond_true]
    refine Sep.LdS s1 (i := 0) rfl rfl rfl ?_
    by_cases h2 : l < (n : Int)
    · rw [decide_eq_true h2, cond_true]
      refine Sep.LdI s1 (i := 0) rfl rfl rfl ?_
      refine Sep.LdI s1 (i := 0) rfl rfl rfl ?_
      refine Sep.LdS s1 (i := 0) rfl rfl rfl ?_
      refine tile_May.spec (F := No) (W := w) s1 hA1 fun w2 s2 k2 => ?_
      have hh := h w2 (Sep.call s (sep_fr s2)) (sep_fr s2)
      unfold isB at hh
      rwa [decide_eq_true (by omega), Bool.true_and] at hh
    · rw [decide_eq_false h2, cond_false]
      rwa [decide_eq_false (by omega), Bool.false_and] at hh
  · rw [decide_eq_false h1, cond_false]
    rwa [decide_eq_false (by omega), Bool.false_and] at hh
def atI (tw th : Int) (cs : List Int) (l : Int) : Int := cond (isB tw th cs l) (gi cs l.toNat) 0
theorem tile_At.spec {tw th l : Int} {Q : Int → World → Prop} (s : Sep F W w L) (hA : ArgRow w a n 1 by8 cs) (hcs : ∀ x ∈ cs, 0 ≤ x ∧ x < 256) (h : ∀ w', Sep F W w' L → Fr No w w' → Q (atI tw th cs l) w') : tile_At.call tw th a n c l w Q := by
  refine tile_At.body _ _ _ _ _ _ _ _ ?_
  unfold tile_At.sh
  refine Sep.Bx (F := No) (W := w) (L := []) Sep.nil fun b1 w1 s1 => ?_
  refine Sep.LdI s1 (i := 0) rfl rfl rfl ?_
  refine Sep.LdI s1 (i := 0) rfl rfl rfl ?_
  refine Sep.LdS s1 (i := 0) rfl rfl rfl ?_
  refine tile_is.spec s1 (hA.fr (sep_fr s1)) fun w2 s2 k2 => ?_
  have hh := h w2 (Sep.call s (sep_fr s2)) (sep_fr s2)
  have hA2 := hA.fr (sep_fr s2)
  have hl := hA.1
  unfold atI at hh
  cases hb : isB tw th cs l with
  | false =>
    rw [Bool.not_false, cond_true]
    rwa [hb] at hh
  | true =>
    rw [Bool.not_true, cond_false]
    rw [hb, cond_true] at hh
    have hr : 0 ≤ l ∧ l < (cs.length : Int) := by
      unfold isB at hb
      rw [Bool.and_eq_true] at hb
      exact of_decide_eq_true hb.1
    obtain ⟨i, rfl⟩ : ∃ i : Nat, l = i := ⟨l.toNat, by omega⟩
    obtain ⟨ad, rfl, hc⟩ := rd_at hA2 (i := i) (by omega)
    refine Sep.LdS s2 (i := 0) rfl rfl rfl ?_
    refine ⟨by omega, by omega, wA_some ?_⟩
    refine LdI_cell hc ?_
    have := hcs _ (gi_mem (l := cs) (i := i) (by omega))
    rw [wrap_i64 (by omega) (by omega)]
    exact hh
end
end Go.Proofs.Ytbecldlnajlnnaa.S
