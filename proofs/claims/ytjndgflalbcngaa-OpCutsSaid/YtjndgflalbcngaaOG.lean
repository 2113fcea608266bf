/- Layer 26: the document's May, Bytes, Encode. -/
import Derived.Test.YtjndgflalbcngaaOF
set_option linter.unusedVariables false
set_option linter.unusedSimpArgs false
namespace Go.Proofs.Ytjndgflalbcngaa.S
open Go.Sx
attribute [local irreducible] LdI LdB LdStr LdP LdS LdM LdV St Bx Al App Cpy MkS MkM EqK RunK RunU CallK SlK blkA rowA joinA
theorem bool_iff {a b : Bool} (h : a = true ↔ b = true) : a = b := Bool.eq_iff_iff.2 h
theorem may_1 {A B : Int} {m : List Int} : mayP ⟨1, A, B, m⟩ = (decide (A = 0) && (decide (B = 0) && decide (m.length ≤ 4294967295))) := bool_iff (by
  have e1 : shA 1 = 0 := rfl
  have e2 : shB 1 = 0 := rfl
  have e3 : shL 1 = true := rfl
  have e4 : shOk 1 = true := rfl
  unfold mayP
  simp only [e1, e2, e3, e4, Bool.and_eq_true, Bool.or_eq_true, decide_eq_true_eq, fits_iff, Int.pow_zero]
  rw [if_neg (by decide)]
  simp only [Bool.and_eq_true, Bool.or_eq_true, decide_eq_true_eq, fits_iff, Int.pow_zero, true_and]
  constructor
  · rintro ⟨h1, h2, h3⟩
    refine ⟨by omega, by omega, ?_⟩
    rcases h3 with rfl | h3
    · simp
    · exact h3
  · rintro ⟨h1, h2, h3⟩
    exact ⟨by omega, by omega, .inr h3⟩)
theorem may_cut {B : Int} {m : List Int} : mayP ⟨0, -1, B, m⟩ = (decide (B = 0) && (decide (0 < m.length) && (longI m == -1))) := bool_iff (by
  unfold mayP cutP longI
  rw [if_pos rfl, if_pos rfl]
  simp only [Bool.and_eq_true, decide_eq_true_eq, beq_iff_eq]
  cases m with
  | nil => simp
  | cons x r =>
    have g0 : gi (x :: r) 0 = x := rfl
    rw [g0]
    simp only [ne_eq, reduceCtorEq, not_false_eq_true, true_and, List.length_cons, Nat.zero_lt_succ]
    by_cases hk : shOk x = true
    · rw [if_pos hk]
      by_cases hu : (readP (x :: r)).2 = 0
      · rw [if_pos hu]; simp [hu]
      · rw [if_neg hu]
        constructor
        · rintro ⟨_, h⟩; exact (hu h).elim
        · rintro ⟨_, h⟩; omega
    · rw [if_neg hk, readP_cons, if_neg hk]
      simp)
theorem may_0 {A B : Int} (hA : A ≠ -1) : mayP ⟨0, A, B, []⟩ = (decide (B = 0) && (decide (0 ≤ A ∧ A ≤ 255) && !decide (1 ≤ A ∧ A ≤ 8))) := bool_iff (by
  unfold mayP shOk
  rw [if_pos rfl, if_neg hA]
  simp only [Bool.and_eq_true, Bool.not_eq_true', decide_eq_true_eq, decide_eq_false_iff_not, fits_iff]
  exact ⟨fun ⟨h1, h2, h3, _⟩ => ⟨h3, by omega, h2⟩, fun ⟨h1, h2, h3⟩ => ⟨by omega, h3, h1, trivial⟩⟩)
theorem may_k {k A B : Int} (hk : k ≠ 0) : mayP ⟨k, A, B, []⟩ = (shOk k && (fitsP A (shA k) && fitsP B (shB k))) := by
  unfold mayP
  rw [if_neg hk]
  simp
theorem may_map {k A B : Int} {m : List Int} (hm : m ≠ []) (h1 : k ≠ 1) (h0 : ¬ (k = 0 ∧ A = -1)) : mayP ⟨k, A, B, m⟩ = false := by
  cases h : mayP ⟨k, A, B, m⟩ with
  | false => rfl
  | true =>
    exfalso
    unfold mayP at h
    simp only at h
    by_cases hk : k = 0
    · rw [if_pos hk, if_neg (fun e => h0 ⟨hk, e⟩)] at h
      simp only [Bool.and_eq_true, decide_eq_true_eq] at h
      exact hm h.2.2.2
    · rw [if_neg hk] at h
      have : shL k = false := by unfold shL; simpa using h1
      rw [this] at h
      simp only [Bool.and_eq_true, Bool.or_eq_true, decide_eq_true_eq, Bool.false_and, Bool.false_eq_true, or_false] at h
      exact hm h.2.2.2
section
variable {F : Nat → Prop} {W w w0 : World} {L : List As} {a : Option Addr} {n c : Nat} {o : OpP}
theorem ref_May.spec {Q : Bool → World → Prop} (s0 : Sep F W w0 L) (hA : Sl w0 a n c 1 by8 o.m) (hr : Rng o.m) (hn2 : n ≤ 100000000) (h : ∀ w', Sep F W w' L → Fr No w0 w' → Q (mayP o) w') : herdsmanref26_May.call o.k o.A o.B a n c w0 Q := by
  refine herdsmanref26_May.body _ _ _ _ _ _ _ _ ?_
  unfold herdsmanref26_May.sh
  obtain ⟨k, A, B, m⟩ := o
  simp only at hA hr h ⊢
  have hl := hA.len
  have s := Sep.nil (F := No) (w := w0)
  have hh : ∀ w' Ls, Sep No w0 w' Ls → Q (mayP ⟨k, A, B, m⟩) w' := fun w' Ls s => h w' (Sep.call s0 (sep_fr s)) (sep_fr s)
  refine Sep.Bx s fun ob w s => ?_
  refine Sep.LdI s (i := 0) rfl rfl rfl ?_
  have t : ∀ {x y : Int}, x = y → (x == y) = true := fun h => by rw [beq_iff_eq]; exact h
  have f : ∀ {x y : Int}, x ≠ y → (x == y) = false := fun h => by rw [beq_eq_false_iff_ne]; exact h
  have b5 : k ≠ 1 → ¬ (k = 0 ∧ A = -1) → herdsmanref26_May.b5 Q ⟨ob, 0, none⟩ w := by
    intro h1 h0
    unfold herdsmanref26_May.b5
    refine Sep.LdS s (i := 0) rfl rfl rfl ?_
    by_cases hm : m = []
    · subst hm
      obtain rfl : n = 0 := hl.symm
      rw [decide_eq_false (by decide), cond_false]
      refine Sep.LdI s (i := 0) rfl rfl rfl ?_
      by_cases hk : k = 0
      · subst hk
        have hA1 : A ≠ -1 := fun e => h0 ⟨rfl, e⟩
        rw [show ((0 : Int) == 0) = true from rfl, cond_true]
        rw [may_0 hA1] at hh
        refine Sep.LdI s (i := 0) rfl rfl rfl ?_
        by_cases hB : B = 0
        · rw [t hB, cond_true]
          rw [decide_eq_true hB, Bool.true_and] at hh
          refine Sep.LdI s (i := 0) rfl rfl rfl ?_
          refine ref_In.spec ?_
          cases hi : decide (0 ≤ A ∧ A ≤ 255) with
          | false => rw [hi, Bool.false_and] at hh; exact hh _ _ s
          | true =>
            rw [hi, Bool.true_and] at hh
            rw [cond_true]
            refine Sep.LdI s (i := 0) rfl rfl rfl ?_
            refine ref_In.spec ?_
            exact hh _ _ s
        · rw [f hB, cond_false]
          rw [decide_eq_false hB, Bool.false_and] at hh
          exact hh _ _ s
      · rw [f hk, cond_false]
        rw [may_k hk] at hh
        have in4 : ∀ x : Int, decide (0 ≤ x ∧ x ≤ 4294967295) = fitsP x 4 := fun x => bool_iff (by rw [fits_iff, decide_eq_true_eq]; omega)
        have in1 : ∀ x : Int, decide (0 ≤ x ∧ x ≤ 255) = fitsP x 1 := fun x => bool_iff (by rw [fits_iff, decide_eq_true_eq]; omega)
        have in0 : ∀ x : Int, (x == 0) = fitsP x 0 := fun x => bool_iff (by rw [fits_iff, beq_iff_eq]; omega)
        have two : shOk k = true → shA k = 4 → shB k = 4 → herdsmanref26_May.b15 Q ⟨ob, 0, none⟩ w := by
          intro e1 e2 e3
          rw [e1, e2, e3, Bool.true_and] at hh
          unfold herdsmanref26_May.b15
          refine Sep.LdI s (i := 0) rfl rfl rfl ?_
          refine ref_In.spec ?_
          rw [in4]
          cases hi : fitsP A 4 with
          | false => rw [hi, Bool.false_and] at hh; exact hh _ _ s
          | true =>
            rw [hi, Bool.true_and] at hh
            rw [cond_true]
            refine Sep.LdI s (i := 0) rfl rfl rfl ?_
            refine ref_In.spec ?_
            rw [in4]
            exact hh _ _ s
        have none2 : shOk k = true → shA k = 0 → shB k = 0 → herdsmanref26_May.b20 Q ⟨ob, 0, none⟩ w := by
          intro e1 e2 e3
          rw [e1, e2, e3, Bool.true_and] at hh
          unfold herdsmanref26_May.b20
          refine Sep.LdI s (i := 0) rfl rfl rfl ?_
          rw [in0]
          cases hi : fitsP A 0 with
          | false => rw [hi, Bool.false_and] at hh; exact hh _ _ s
          | true =>
            rw [hi, Bool.true_and] at hh
            rw [cond_true]
            refine Sep.LdI s (i := 0) rfl rfl rfl ?_
            rw [in0]
            exact hh _ _ s
        by_cases h2 : k = 2
        · subst h2
          rw [show ((2 : Int) == 2) = true from rfl, cond_true]
          refine Sep.LdI s (i := 0) rfl rfl rfl ?_
          refine ref_In.spec ?_
          rw [in4]
          have hh : ∀ w' Ls, Sep No w0 w' Ls → Q (fitsP A 4 && fitsP B 1) w' := hh
          cases hi : fitsP A 4 with
          | false => rw [hi, Bool.false_and] at hh; exact hh _ _ s
          | true =>
            rw [hi, Bool.true_and] at hh
            rw [cond_true]
            refine Sep.LdI s (i := 0) rfl rfl rfl ?_
            refine ref_In.spec ?_
            rw [in1]
            exact hh _ _ s
        · rw [f h2, cond_false]
          by_cases h3 : k = 3
          · subst h3; exact two rfl rfl rfl
          · rw [f h3, cond_false]
            by_cases h4 : k = 4
            · subst h4; exact two rfl rfl rfl
            · rw [f h4, cond_false]
              by_cases h6 : k = 6
              · subst h6; exact two rfl rfl rfl
              · rw [f h6, cond_false]
                by_cases h5 : k = 5
                · subst h5
                  rw [show ((5 : Int) == 5) = true from rfl, cond_true]
                  refine Sep.LdI s (i := 0) rfl rfl rfl ?_
                  refine ref_In.spec ?_
                  rw [in4]
                  have hh : ∀ w' Ls, Sep No w0 w' Ls → Q (fitsP A 4 && fitsP B 0) w' := hh
                  cases hi : fitsP A 4 with
                  | false => rw [hi, Bool.false_and] at hh; exact hh _ _ s
                  | true =>
                    rw [hi, Bool.true_and] at hh
                    rw [cond_true]
                    refine Sep.LdI s (i := 0) rfl rfl rfl ?_
                    rw [in0]
                    exact hh _ _ s
                · rw [f h5, cond_false]
                  by_cases h7 : k = 7
                  · subst h7; exact none2 rfl rfl rfl
                  · rw [f h7, cond_false]
                    by_cases h8 : k = 8
                    · subst h8; exact none2 rfl rfl rfl
                    · rw [f h8, cond_false]
                      rw [show shOk k = false from decide_eq_false (by omega), Bool.false_and] at hh
                      exact hh _ _ s
    · rw [may_map hm h1 h0] at hh
      have := List.length_pos_iff.2 hm
      rw [decide_eq_true (by omega), cond_true]
      exact hh _ _ s
  by_cases hk1 : k = 1
  · subst hk1
    rw [show ((1 : Int) == 1) = true from rfl, cond_true]
    rw [may_1] at hh
    refine Sep.LdI s (i := 0) rfl rfl rfl ?_
    by_cases hA0 : A = 0
    · rw [t hA0, cond_true]
      rw [decide_eq_true hA0, Bool.true_and] at hh
      refine Sep.LdI s (i := 0) rfl rfl rfl ?_
      by_cases hB0 : B = 0
      · rw [t hB0, cond_true]
        rw [decide_eq_true hB0, Bool.true_and] at hh
        refine Sep.LdS s (i := 0) rfl rfl rfl ?_
        rw [show decide ((n : Int) ≤ 4294967295) = decide (m.length ≤ 4294967295) from decide_eq_decide.2 (by omega)]
        exact hh _ _ s
      · rw [f hB0, cond_false]
        rw [decide_eq_false hB0, Bool.false_and] at hh
        exact hh _ _ s
    · rw [f hA0, cond_false]
      rw [decide_eq_false hA0, Bool.false_and] at hh
      exact hh _ _ s
  · rw [f hk1, cond_false]
    refine Sep.LdI s (i := 0) rfl rfl rfl ?_
    by_cases hk : k = 0
    · rw [t hk, cond_true]
      refine Sep.LdI s (i := 0) rfl rfl rfl ?_
      by_cases hA1 : A = -1
      · rw [t hA1, cond_true]
        subst hk hA1
        rw [may_cut] at hh
        refine Sep.LdI s (i := 0) rfl rfl rfl ?_
        by_cases hB0 : B = 0
        · rw [t hB0, cond_true]
          rw [decide_eq_true hB0, Bool.true_and] at hh
          refine Sep.LdS s (i := 0) rfl rfl rfl ?_
          by_cases hn : 0 < n
          · rw [decide_eq_true (by omega), cond_true]
            rw [decide_eq_true (by omega), Bool.true_and] at hh
            refine Sep.LdS s (i := 0) rfl rfl rfl ?_
            refine ref_long.spec s (hA.fr (sep_fr s)) hr hn (by omega) fun w s _ => ?_
            exact hh _ _ s
          · rw [decide_eq_false (by omega), cond_false]
            rw [decide_eq_false (by omega), Bool.false_and] at hh
            exact hh _ _ s
        · rw [f hB0, cond_false]
          rw [decide_eq_false hB0, Bool.false_and] at hh
          exact hh _ _ s
      · rw [f hA1, cond_false]
        exact b5 hk1 fun h => hA1 h.2
    · rw [f hk, cond_false]
      exact b5 hk1 fun h => hk h.1
theorem four.spec {v : Int} {Q : Option Addr → Nat → Nat → World → Prop} (s0 : Sep F W w0 L) (h : ∀ b w', Sep F W w' (rowA (some ⟨b, 0, none⟩) 4 4 5 1 (flat by8 (putI v 4)) :: L) → Fr No w0 w' → Q (some ⟨b, 0, none⟩) 4 4 w') : herdsmanref26_four.call v w0 Q := by
  refine herdsmanref26_four.body _ _ _ ?_
  unfold herdsmanref26_four.sh
  refine ⟨by decide, by decide, by decide, ?_⟩
  refine Sep.Bx (Sep.nil (F := No) (w := w0)) fun b w s => ?_
  have sh : ∀ (k : Int), ishr .i64 v k = v.fdiv (2 ^ (min k.toNat 64)) := fun k => rfl
  rw [wrap_u8', wrap_u8', wrap_u8', wrap_u8', sh, sh, sh, show (2 : Int) ^ (min (8 : Int).toNat 64) = 256 by decide, show (2 : Int) ^ (min (16 : Int).toNat 64) = 65536 by decide, show (2 : Int) ^ (min (24 : Int).toNat 64) = 16777216 by decide,
    Int.fdiv_eq_ediv_of_nonneg _ (by decide), Int.fdiv_eq_ediv_of_nonneg _ (by decide), Int.fdiv_eq_ediv_of_nonneg _ (by decide), show v / 65536 = v / 256 / 256 by omega, show v / 16777216 = v / 256 / 256 / 256 by omega] at s
  have s := Sep.blk_row (n := 4) (size := 1) s (i := 0) rfl rfl (by decide) (by simp; exact ⟨rfl, rfl, rfl, rfl⟩)
  simp only [List.set_cons_zero] at s
  have s : Sep No w0 w [rowA (some ⟨b, 0, none⟩) 4 4 5 1 (flat by8 (putI v 4))] := s
  exact h b w (Sep.gain s0 s (i := 0) rfl) (sep_fr s)
end
end Go.Proofs.Ytjndgflalbcngaa.S
