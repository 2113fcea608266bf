/- Layer 2: the document's MayTile, Near, Ints. -/
import Derived.Test.YtbecldlnajlnnaaTB
import Derived.Test.YtbecldlnajlnnaaXF1
import Derived.Test.YtbecldlnajlnnaaXF2
set_option linter.unusedVariables false
set_option linter.unusedSimpArgs false
namespace Go.Proofs.Ytbecldlnajlnnaa.S
open Go.Sx
attribute [local irreducible] LdI LdB LdStr LdP LdS LdM LdV St Bx Al App Cpy MkS MkM EqK RunK RunU CallK SlK blkA rowA joinA
section
variable {F : Nat → Prop} {W w : World} {L : List As} {a : Option Addr} {n c : Nat} {cs : List Int}
theorem ref_In.spec {m lo hi : Int} {Q : Bool → World → Prop} (h : Q (decide (lo ≤ m ∧ m ≤ hi)) w) : herdsmanref1_In.call m lo hi w Q := by
  refine herdsmanref1_In.body _ _ _ _ _ ?_
  unfold herdsmanref1_In.sh
  by_cases h1 : m ≥ lo
  · rw [decide_eq_true h1, cond_true, show decide (m ≤ hi) = decide (lo ≤ m ∧ m ≤ hi) from decide_eq_decide.2 (by omega)]
    exact h
  · rw [decide_eq_false h1, cond_false]
    rwa [decide_eq_false (by omega)] at h
theorem full_loop {Q : Bool → World → Prop} (hA : ArgRow w a n 1 by8 cs) (hn : n < 1000000000) (hy : (0 : Int) ∈ cs → Q false w) (hno : (0 : Int) ∉ cs → Q true w) :
    ∀ (m i : Nat), i + m = n → (∀ j, j < i → gi cs j ≠ 0) → herdsmanref1_full.b2 Q (m + 1) a n c i w := by
  intro m
  induction m with
  | zero =>
    intro i hi hlow
    show herdsmanref1_full.s2 Q (herdsmanref1_full.b2 Q 0) _ _ _ _ _
    unfold herdsmanref1_full.s2
    rw [decide_eq_false (by omega), cond_false]
    refine hno fun hv => ?_
    obtain ⟨j, hj, e⟩ := List.getElem_of_mem hv
    have := hlow j (by rw [hA.1] at hj; omega)
    have h2 := gi_get hj
    rw [List.getElem?_eq_getElem hj] at h2
    exact this (by rw [← Option.some.inj h2, e])
  | succ m ih =>
    intro i hi hlow
    show herdsmanref1_full.s2 Q (herdsmanref1_full.b2 Q (m + 1)) _ _ _ _ _
    unfold herdsmanref1_full.s2
    obtain ⟨ad, rfl, hc⟩ := rd_at hA (i := i) (by omega)
    rw [decide_eq_true (by omega), cond_true]
    refine ⟨by omega, by omega, wA_some ?_⟩
    refine LdI_cell hc ?_
    by_cases hv : gi cs i = 0
    · rw [hv, beq_self_eq_true, cond_true]
      exact hy (by rw [← hv]; exact gi_mem (by rw [hA.1]; omega))
    · rw [show (gi cs i == 0) = false by rw [beq_eq_false_iff_ne]; exact hv, cond_false, wrap_i64 (by omega) (by omega)]
      refine ih (i + 1) (by omega) fun j hj => ?_
      by_cases hji : j = i
      · subst hji; exact hv
      · exact hlow j (by omega)
theorem ref_full.spec {Q : Bool → World → Prop} (hA : ArgRow w a n 1 by8 cs) (hn : n < 1000000000) (h : Q (!decide ((0 : Int) ∈ cs)) w) : herdsmanref1_full.call a n c w Q := by
  refine herdsmanref1_full.body _ _ _ _ _ ?_
  unfold herdsmanref1_full.sh
  refine ⟨n + 1, full_loop hA hn (fun hv => ?_) (fun hv => ?_) n 0 (by omega) (fun j hj => by omega)⟩
  · rwa [decide_eq_true hv] at h
  · rwa [decide_eq_false hv] at h
theorem ref_MayTile.spec {tw th : Int} {Q : Bool → World → Prop} (s : Sep F W w L) (hA : ArgRow w a n 1 by8 cs) (h : ∀ w', Sep F W w' L → Fr No w w' → Q (mayB tw th cs) w') : herdsmanref1_MayTile.call tw th a n c w Q := by
  refine herdsmanref1_MayTile.body _ _ _ _ _ _ _ ?_
  unfold herdsmanref1_MayTile.sh
  refine Sep.Bx (F := No) (W := w) (L := []) Sep.nil fun b1 w1 s1 => ?_
  have hh := h w1 (Sep.call s (sep_fr s1)) (sep_fr s1)
  have hA1 := hA.fr (sep_fr s1)
  unfold mayB at hh
  refine Sep.LdI s1 (i := 0) rfl rfl rfl ?_
  refine ref_In.spec ?_
  cases h1 : decide (1 ≤ tw ∧ tw ≤ 16) with
  | false =>
    rw [Bool.not_false, cond_true]
    rwa [h1, Bool.false_and] at hh
  | true =>
    rw [Bool.not_true, cond_false]
    rw [h1, Bool.true_and] at hh
    refine Sep.LdI s1 (i := 0) rfl rfl rfl ?_
    refine ref_In.spec ?_
    cases h2 : decide (1 ≤ th ∧ th ≤ 16) with
    | false =>
      rw [Bool.not_false, cond_true]
      rwa [h2, Bool.false_and] at hh
    | true =>
      rw [Bool.not_true, cond_false]
      rw [h2, Bool.true_and] at hh
      have h1' := of_decide_eq_true h1
      have h2' := of_decide_eq_true h2
      refine Sep.LdS s1 (i := 0) rfl rfl rfl ?_
      refine Sep.LdI s1 (i := 0) rfl rfl rfl ?_
      refine Sep.LdI s1 (i := 0) rfl rfl rfl ?_
      have q1 : 1 * 1 ≤ tw * th := Int.mul_le_mul h1'.1 h2'.1 (by decide) (by omega)
      have q2 : tw * th ≤ 16 * 16 := Int.mul_le_mul h1'.2 h2'.2 (by omega) (by decide)
      rw [wrap_i64 (n := tw * th) (by omega) (by omega)]
      have hl := hA.1
      by_cases h3 : (cs.length : Int) = tw * th
      · rw [decide_eq_true h3, Bool.true_and] at hh
        rw [show ((n : Int) != tw * th) = false by rw [bne_eq_false_iff_eq]; omega, cond_false]
        refine Sep.LdS s1 (i := 0) rfl rfl rfl ?_
        exact ref_full.spec hA1 (by omega) hh
      · rw [decide_eq_false h3, Bool.false_and] at hh
        rw [show ((n : Int) != tw * th) = true by rw [bne_iff_ne]; omega, cond_true]
        exact hh
theorem Step_b12 {tw th x y : Int} {Q : Int → World → Prop} (hw : 1 ≤ tw ∧ tw ≤ 16) (hh : 1 ≤ th ∧ th ≤ 16) (hx : -10 ≤ x ∧ x ≤ 100) (hy : -10 ≤ y ∧ y ≤ 100) (h : Q (put2 tw th x y) w) : herdsmanref1_Step.b12 Q tw th x y w := by
  unfold herdsmanref1_Step.b12
  unfold put2 at h
  rw [wrap_i64 (n := tw - 1) (by omega) (by omega), wrap_i64 (n := th - 1) (by omega) (by omega)]
  refine ref_In.spec ?_
  by_cases h1 : 0 ≤ x ∧ x ≤ tw - 1
  · rw [decide_eq_true h1, Bool.not_true, cond_false]
    refine ref_In.spec ?_
    by_cases h2 : 0 ≤ y ∧ y ≤ th - 1
    · rw [decide_eq_true h2, Bool.not_true, cond_false]
      have q1 : 0 ≤ y * tw := Int.mul_nonneg (by omega) (by omega)
      have q2 : y * tw ≤ 16 * 16 := Int.mul_le_mul (by omega) hw.2 (by omega) (by decide)
      rw [wrap_i64 (n := y * tw) (by omega) (by omega), wrap_i64 (by omega) (by omega)]
      rwa [if_pos (by omega)] at h
    · rw [decide_eq_false h2, Bool.not_false, cond_true]
      rwa [if_neg (by omega)] at h
  · rw [decide_eq_false h1, Bool.not_false, cond_true]
    rwa [if_neg (by omega)] at h
theorem ref_May.spec {tw th : Int} {Q : Bool → World → Prop} (hw : 1 ≤ tw ∧ tw ≤ 16) (hh : 1 ≤ th ∧ th ≤ 16) (h : Q true w) : herdsmanref1_May.call tw th w Q := by
  refine herdsmanref1_May.body _ _ _ _ ?_
  unfold herdsmanref1_May.sh
  refine ref_In.spec ?_
  rw [decide_eq_true (show 1 ≤ tw ∧ tw ≤ 1024 by omega), cond_true]
  refine ref_In.spec ?_
  rw [decide_eq_true (show 1 ≤ th ∧ th ≤ 1024 by omega)]
  exact h
theorem ref_IsCell.spec {tw th l : Int} {Q : Bool → World → Prop} (hw : 1 ≤ tw ∧ tw ≤ 16) (hh : 1 ≤ th ∧ th ≤ 16) (hl : 0 ≤ l ∧ l < tw * th) (h : Q true w) : herdsmanref1_IsCell.call tw th l w Q := by
  refine herdsmanref1_IsCell.body _ _ _ _ _ ?_
  unfold herdsmanref1_IsCell.sh
  have q2 : tw * th ≤ 16 * 16 := Int.mul_le_mul hw.2 hh.2 (by omega) (by decide)
  refine ref_May.spec hw hh ?_
  rw [cond_true, wrap_i64 (n := tw * th) (by omega) (by omega), wrap_i64 (n := tw * th - 1) (by omega) (by omega)]
  refine ref_In.spec ?_
  rw [decide_eq_true (show 0 ≤ l ∧ l ≤ tw * th - 1 by omega)]
  exact h
theorem ref_Step.spec {tw th l side : Int} {Q : Int → World → Prop} (s : Sep F W w L) (hw : 1 ≤ tw ∧ tw ≤ 16) (hh : 1 ≤ th ∧ th ≤ 16) (hl : 0 ≤ l ∧ l < tw * th) (h : ∀ w', Sep F W w' L → Fr No w w' → Q (besideI tw th l side) w') : herdsmanref1_Step.call tw th l side w Q := by
  refine herdsmanref1_Step.body _ _ _ _ _ _ ?_
  unfold herdsmanref1_Step.sh
  have q2 : tw * th ≤ 16 * 16 := Int.mul_le_mul hw.2 hh.2 (by omega) (by decide)
  refine ref_IsCell.spec hw hh hl ?_
  rw [Bool.not_true, cond_false]
  refine ref_In.spec ?_
  have hpl := place hw hh hl
  by_cases hs : 0 ≤ side ∧ side ≤ 4
  · rw [decide_eq_true hs, Bool.not_true, cond_false]
    have s3 : Sep F W w.drew _ := s
    have hq := h w.drew s3 (Fr.refl (w := w))
    refine ⟨by omega, by omega, ?_⟩
    rw [Int.tmod_eq_emod_of_nonneg hl.1, Int.tdiv_eq_ediv_of_nonneg hl.1, wrap_i64 (n := l / tw) (by omega) (by omega), wrap_i64 (n := l / tw - 1) (by omega) (by omega)]
    unfold besideI at hq
    have e : ∀ k : Int, side ≠ k → (side == k) = false := fun k hk => by rw [beq_eq_false_iff_ne]; exact hk
    have t : ∀ k : Int, side = k → (side == k) = true := fun k hk => by rw [beq_iff_eq]; exact hk
    unfold herdsmanref1_Step.b6 herdsmanref1_Step.b8 herdsmanref1_Step.b10
    by_cases c0 : side = 0
    · rw [if_pos c0] at hq
      rw [t 0 c0, e 1 (by omega), e 2 (by omega), e 3 (by omega)]
      simp only [cond_true, cond_false]
      exact Step_b12 hw hh (by omega) (by omega) hq
    · rw [if_neg c0] at hq
      by_cases c2 : side = 2
      · rw [if_pos c2] at hq
        rw [e 0 c0, e 1 (by omega), t 2 c2, e 3 (by omega)]
        simp only [cond_true, cond_false]
        rw [wrap_i64 (by omega) (by omega)]
        exact Step_b12 hw hh (by omega) (by omega) hq
      · rw [if_neg c2] at hq
        by_cases c3 : side = 3
        · rw [if_pos c3] at hq
          rw [e 0 c0, e 1 (by omega), e 2 c2, t 3 c3]
          simp only [cond_true, cond_false]
          rw [wrap_i64 (by omega) (by omega)]
          exact Step_b12 hw hh (by omega) (by omega) hq
        · rw [if_neg c3] at hq
          by_cases c1 : side = 1
          · rw [if_pos c1] at hq
            rw [e 0 c0, t 1 c1, e 2 c2, e 3 c3]
            simp only [cond_true, cond_false]
            rw [wrap_i64 (by omega) (by omega)]
            exact Step_b12 hw hh (by omega) (by omega) hq
          · rw [if_neg c1, if_pos (by omega)] at hq
            rw [e 0 c0, e 1 c1, e 2 c2, e 3 c3]
            simp only [cond_true, cond_false]
            exact Step_b12 hw hh (by omega) (by omega) hq
  · rw [decide_eq_false hs, Bool.not_false, cond_true]
    have hq := h w s Fr.refl
    unfold besideI at hq
    rwa [if_neg (by omega), if_neg (by omega), if_neg (by omega), if_neg (by omega), if_neg (by omega)] at hq
theorem ref_Near.spec {tw th l side : Int} {Q : Int → World → Prop} (s : Sep F W w L) (hA : ArgRow w a n 1 by8 cs) (h : ∀ w', Sep F W w' L → Fr No w w' → Q (nearI tw th cs l side) w') : herdsmanref1_Near.call tw th a n c l side w Q := by
  refine herdsmanref1_Near.body _ _ _ _ _ _ _ _ _ ?_
  unfold herdsmanref1_Near.sh
  refine Sep.Bx (F := No) (W := w) (L := []) Sep.nil fun b1 w1 s1 => ?_
  refine Sep.LdI s1 (i := 0) rfl rfl rfl ?_
  refine Sep.LdI s1 (i := 0) rfl rfl rfl ?_
  refine Sep.LdS s1 (i := 0) rfl rfl rfl ?_
  refine ref_MayTile.spec s1 (hA.fr (sep_fr s1)) fun w2 s2 k2 => ?_
  have hh := h w2 (Sep.call s (sep_fr s2)) (sep_fr s2)
  have hn := hA.1
  unfold nearI isB at hh
  cases hb : mayB tw th cs with
  | false =>
    rw [Bool.not_false, cond_true]
    rwa [hb, Bool.and_false, cond_false] at hh
  | true =>
    rw [Bool.not_true, cond_false]
    obtain ⟨hw, hth, hlen, _⟩ := mayB_iff.1 hb
    have q2 : tw * th ≤ 16 * 16 := Int.mul_le_mul hw.2 hth.2 (by omega) (by decide)
    refine Sep.LdS s2 (i := 0) rfl rfl rfl ?_
    rw [wrap_i64 (by omega) (by omega)]
    refine ref_In.spec ?_
    by_cases hl : 0 ≤ l ∧ l < (cs.length : Int)
    · rw [decide_eq_true (show 0 ≤ l ∧ l ≤ (n : Int) - 1 by omega), Bool.not_true, cond_false]
      refine Sep.LdI s2 (i := 0) rfl rfl rfl ?_
      refine Sep.LdI s2 (i := 0) rfl rfl rfl ?_
      refine ref_Step.spec s2 hw hth (by omega) fun w3 s3 k3 => ?_
      have hh := h w3 (Sep.call s (sep_fr s3)) (sep_fr s3)
      unfold nearI isB at hh
      rwa [hb, decide_eq_true hl, Bool.and_true, cond_true] at hh
    · rw [decide_eq_false (show ¬ (0 ≤ l ∧ l ≤ (n : Int) - 1) by omega), Bool.not_false, cond_true]
      rwa [decide_eq_false hl, Bool.false_and, cond_false] at hh
theorem Ints_loop {b : Option Addr} {m' c' : Nat} {xs ys : List Int} {Q : Bool → World → Prop} (hn : n < 100000000) (hl : m' = n) (hy : xs = ys → ∀ w', Fr No w w' → Q true w') (hno : xs ≠ ys → ∀ w', Fr No w w' → Q false w') :
    ∀ (m i : Nat) (w' : World), Fr No w w' → ArgRow w' a n 1 one xs → ArgRow w' b m' 1 one ys → i + m = n → (∀ j, j < i → gi xs j = gi ys j) → herdsmanref1_Ints.b4 Q (m + 1) a n c b m' c' i w' := by
  intro m
  induction m with
  | zero =>
    intro i w' k hX hY hi hlow
    show herdsmanref1_Ints.s4 Q (herdsmanref1_Ints.b4 Q 0) _ _ _ _ _ _ _ _
    unfold herdsmanref1_Ints.s4
    rw [decide_eq_false (by omega), cond_false]
    refine hy ?_ w' k
    apply List.ext_getElem?
    intro j
    by_cases hj : j < n
    · rw [gi_get (by rw [hX.1]; exact hj), gi_get (by rw [hY.1, hl]; exact hj), hlow j (by omega)]
    · rw [List.getElem?_eq_none (by rw [hX.1]; omega), List.getElem?_eq_none (by rw [hY.1]; omega)]
  | succ m ih =>
    intro i w' k hX hY hi hlow
    show herdsmanref1_Ints.s4 Q (herdsmanref1_Ints.b4 Q (m + 1)) _ _ _ _ _ _ _ _
    unfold herdsmanref1_Ints.s4
    have k' : Fr No w w'.drew := k
    have hX' : ArgRow w'.drew a n 1 one xs := hX
    have hY' : ArgRow w'.drew b m' 1 one ys := hY
    obtain ⟨ad, rfl, hc⟩ := rd_at1 hX' (i := i) (by omega)
    obtain ⟨ad', rfl, hc'⟩ := rd_at1 hY' (i := i) (by omega)
    rw [decide_eq_true (by omega), cond_true]
    refine ⟨by omega, by omega, wA_some ?_⟩
    refine LdI_cell hc ?_
    refine ⟨by omega, by omega, wA_some ?_⟩
    refine LdI_cell hc' ?_
    by_cases hv : gi xs i = gi ys i
    · rw [hv, bne_self_eq_false, cond_false, wrap_i64 (by omega) (by omega)]
      refine ih (i + 1) w'.drew k' hX' hY' (by omega) fun j hj => ?_
      by_cases hji : j = i
      · subst hji; exact hv
      · exact hlow j (by omega)
    · rw [show (gi xs i != gi ys i) = true by rw [bne_iff_ne]; exact hv, cond_true]
      exact hno (fun e => hv (by rw [e])) w'.drew k'
theorem ref_Ints.spec {b : Option Addr} {m c' : Nat} {xs ys : List Int} {Q : Bool → World → Prop} (s : Sep F W w L) (hX : ArgRow w a n 1 one xs) (hY : ArgRow w b m 1 one ys) (hn : n < 100000000) (h : ∀ w', Sep F W w' L → Fr No w w' → Q (decide (xs = ys)) w') : herdsmanref1_Ints.call a n c b m c' w Q := by
  refine herdsmanref1_Ints.body _ _ _ _ _ _ _ _ ?_
  unfold herdsmanref1_Ints.sh
  by_cases hl : m = n
  · subst hl
    rw [bne_self_eq_false, cond_false]
    refine ⟨m + 1, Ints_loop hn rfl (fun e w' k => ?_) (fun e w' k => ?_) m 0 w Fr.refl hX hY (by omega) (fun j hj => by omega)⟩
    · have := h w' (Sep.call s k) k
      rwa [decide_eq_true e] at this
    · have := h w' (Sep.call s k) k
      rwa [decide_eq_false e] at this
  · rw [show ((n : Int) != (m : Int)) = true by rw [bne_iff_ne]; omega, cond_true]
    have := h w s Fr.refl
    rwa [decide_eq_false (fun e => hl (by rw [← hX.1, ← hY.1, e]))] at this
end
end Go.Proofs.Ytbecldlnajlnnaa.S
