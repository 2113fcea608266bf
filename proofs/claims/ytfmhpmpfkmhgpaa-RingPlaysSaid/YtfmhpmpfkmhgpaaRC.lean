/- Layer 7: the ring's functions over what waits, in the order in which it went in. -/
import Derived.Test.YtfmhpmpfkmhgpaaRB
set_option linter.unusedVariables false
set_option linter.unusedSimpArgs false
namespace Go.Proofs.Ytfmhpmpfkmhgpaa.S
open Go.Sx
theorem isNone_pt {p : Addr} {A B : Prop} (h : B) : cond (some p).isNone A B := h
theorem map_brow_get {bs : List Bk} {j : Nat} {b : Bk} (h : bs[j]? = some b) : (bs.map brow)[j]? = some (brow b) := by rw [List.getElem?_map, h]; rfl
theorem rcells_hd {a len : Int} {bs : List Bk} {j : Nat} {b : Bk} (h : bs[j]? = some b) : (rcells a len bs)[j * 2 + 2]? = some (.slice b.a b.xs.length b.c) := by
  show (flat bkc bs)[j * 2 + 0]? = _
  rw [flat_get bkc_len h (by decide)]; rfl
theorem rcells_gone {a len : Int} {bs : List Bk} {j : Nat} {b : Bk} (h : bs[j]? = some b) : (rcells a len bs)[j * 2 + 2 + 1]? = some (.int .i64 b.gone) := by
  show (flat bkc bs)[j * 2 + 1]? = _
  rw [flat_get bkc_len h (by decide)]; rfl
theorem rcells_set_hd {a len : Int} {bs : List Bk} {j : Nat} {b b' : Bk} {v : Value} (h : bs[j]? = some b) (hv : bkc b' = (bkc b).set 0 v) : (rcells a len bs).set (j * 2 + 2) v = rcells a len (bs.set j b') := by
  show _ :: _ :: (flat bkc bs).set (j * 2 + 0) v = _
  rw [flat_set bkc_len h (by decide) hv]; rfl
theorem rcells_set_gone {a len : Int} {bs : List Bk} {j : Nat} {b b' : Bk} {v : Value} (h : bs[j]? = some b) (hv : bkc b' = (bkc b).set 1 v) : (rcells a len bs).set (j * 2 + 2 + 1) v = rcells a len (bs.set j b') := by
  show _ :: _ :: (flat bkc bs).set (j * 2 + 1) v = _
  rw [flat_set bkc_len h (by decide) hv]; rfl
attribute [local irreducible] LdI LdB LdStr LdP LdS LdM LdV St Bx Al App Cpy MkS MkM EqK RunK RunU CallK SlK blkA rowA joinA
section
variable {F : Nat → Prop} {W w : World} {L : List As} {i p : Nat} {a : Int} {l : List E} {bs : List Bk} {N : Nat}
theorem ring_rel (s : Sep F W w L) (hi : L[i]? = some (ringA p a l bs N)) : Rel a l bs N := join_pure s hi
theorem ring_open (s : Sep F W w L) (hi : L[i]? = some (ringA p a l bs N)) : Sep (ringA p a l bs N).fp w w (ringL p a l.length bs) := join_open s hi
theorem ring_Len.spec {Q : Int → World → Prop} (s : Sep F W w L) (hi : L[i]? = some (ringA p a l bs N)) (h : Q (l.length : Int) w) : ring_Ring_Len.call (some ⟨p, 0, none⟩) w Q := by
  refine ring_Ring_Len.body _ _ _ ?_
  unfold ring_Ring_Len.sh
  refine isNone_pt (wA_some ?_)
  exact Sep.LdI (ring_open s hi) (i := 0) (j := 1) rfl rfl rfl h
theorem ring_At.spec {Q : Int → World → Prop} (s : Sep F W w L) (hi : L[i]? = some (ringA p a l bs N)) (h : Q a w) : ring_Ring_At.call (some ⟨p, 0, none⟩) w Q := by
  refine ring_Ring_At.body _ _ _ ?_
  unfold ring_Ring_At.sh
  refine isNone_pt (wA_some ?_)
  exact Sep.LdI (ring_open s hi) (i := 0) (j := 0) rfl rfl rfl h
theorem ring_Put.spec {k x : Int} {Q : Bool → World → Prop} (s : Sep F W w L) (hi : L[i]? = some (ringA p a l bs N)) (hk : k < 9223372036854775808) (hfew : N + 1 < 1000000)
    (hno : ¬ (a ≤ k ∧ k < a + 256) → Q false w) (hyes : a ≤ k ∧ k < a + 256 → ∀ w' bs', Sep F W w' (L.set i (ringA p a (l ++ [(k, x)]) bs' (N + 1))) → Q true w') : ring_Ring_Put.call (some ⟨p, 0, none⟩) k x w Q := by
  refine ring_Ring_Put.body _ _ _ _ _ ?_
  unfold ring_Ring_Put.sh
  have hr := ring_rel s hi
  have s0 := ring_open s hi
  have hnn := hr.nn
  refine isNone_pt (wA_some ?_)
  refine Sep.LdI s0 (i := 0) (j := 0) rfl rfl rfl ?_
  by_cases h1 : k < a
  · rw [decide_eq_true h1, cond_true]
    exact hno (by omega)
  · rw [decide_eq_false h1, cond_false]
    refine wA_some ?_
    refine Sep.LdI s0 (i := 0) (j := 0) rfl rfl rfl ?_
    rw [wrap_i64 (n := k - a) (by omega) (by omega)]
    by_cases h2 : k - a ≥ 256
    · rw [decide_eq_true h2, cond_true]
      exact hno (by omega)
    · rw [decide_eq_false h2, cond_false]
      have hkk : a ≤ k ∧ k < a + 256 := by omega
      rw [Int.tmod_eq_emod_of_nonneg (by omega)]
      obtain ⟨j, hj⟩ : ∃ j : Nat, k % 256 = (j : Int) := ⟨(k % 256).toNat, by omega⟩
      have hj256 : j < 256 := by omega
      obtain ⟨b, hb⟩ : ∃ b, bs[j]? = some b := ⟨_, List.getElem?_eq_getElem (by rw [hr.n]; exact hj256)⟩
      have hbk := hr.bk j b hb
      rw [hj]
      refine ⟨by decide, wA_some ⟨by omega, by omega, ?_⟩⟩
      have ea : ((⟨p, 0, none⟩ : Addr).add 2).add (((j : Int)).toNat * 2) = ⟨p, j * 2 + 2, none⟩ := by
        rw [add_flat, add_flat, show ((j : Int)).toNat = j from rfl]; congr 1; omega
      rw [ea]
      refine bucket_put.spec s0 (i := 0) (j := j + 1) rfl (rcells_hd hb) (by show (bs.map brow)[j]? = _; exact map_brow_get hb) (by omega) (by have := hbk.2.2; have := hr.room; omega) fun w1 a' c' s1 => ?_
      have e1 : rowA a' (b.xs.length + 1) c' 3 1 (ints (b.xs ++ [x])) = brow ⟨a', c', b.xs ++ [x], b.gone⟩ := by unfold brow; rw [List.length_append]; rfl
      have e2 : (rcells a l.length bs).set (j * 2 + 2) (.slice a' (b.xs.length + 1) c') = rcells a l.length (bs.set j ⟨a', c', b.xs ++ [x], b.gone⟩) := rcells_set_hd hb (by unfold bkc; rw [List.length_append]; rfl)
      rw [e1, e2] at s1
      have s1 : Sep (ringA p a l bs N).fp w w1 (blkA p 47 (rcells a l.length (bs.set j ⟨a', c', b.xs ++ [x], b.gone⟩)) :: (bs.map brow).set j (brow ⟨a', c', b.xs ++ [x], b.gone⟩)) := s1
      rw [← List.map_set] at s1
      refine wA_some ?_
      refine Sep.LdI s1 (i := 0) (j := 1) rfl rfl rfl (wA_some ?_)
      have hfl := hr.few
      rw [wrap_i64 (n := (l.length : Int) + 1) (by omega) (by omega)]
      refine Sep.St s1 (i := 0) (j := 1) rfl rfl rfl fun w2 s2 => ?_
      have hlen : ((l.length : Int) + 1) = ((l ++ [(k, x)]).length : Int) := by simp
      rw [hlen] at s2
      refine hyes hkk w2 (bs.set j ⟨a', c', b.xs ++ [x], b.gone⟩) (join_close s hi s2 ?_)
      refine ⟨by simp [hr.n], fit_push hr.fit hkk.1 hkk.2, hr.nn, (by have := hr.big; simp; omega), (by have := hr.few; simp; omega), hfew, fun j' b' hb' => ?_⟩
      rw [pend_push]
      by_cases hjj : j = j'
      · subst hjj
        rw [List.getElem?_set_self (by rw [hr.n]; exact hj256)] at hb'
        cases hb'
        rw [if_pos hj]
        refine ⟨?_, by simp; omega, ?_⟩
        · rw [List.drop_append_of_le_length hbk.2.1, hbk.1]
        · have := hbk.2.2; simp; omega
      · rw [List.getElem?_set_ne hjj] at hb'
        rw [if_neg (by omega)]
        have := hr.bk j' b' hb'
        exact ⟨this.1, this.2.1, by omega⟩
end
end Go.Proofs.Ytfmhpmpfkmhgpaa.S
