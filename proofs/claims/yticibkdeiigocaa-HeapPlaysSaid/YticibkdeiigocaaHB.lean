/- Layer 13: what Within and the heap's functions do, whatever else the memory holds. -/
import Derived.Test.YticibkdeiigocaaHA
import Derived.Test.YticibkdeiigocaaXF0
set_option linter.unusedVariables false
set_option linter.unusedSimpArgs false
namespace Go.Proofs.Yticibkdeiigocaa.S
open Go.Sx
attribute [local irreducible] LdI LdB LdStr LdP LdS LdM LdV St Bx Al App Cpy MkS MkM EqK RunK RunU CallK SlK blkA rowA
theorem tab_ok : OkTab P T := okTab_of P rows rows_ok
theorem herdsmanref1_Within.spec {n lo hi : Int} {w : World} {Q : Int → World → Prop} (h1 : lo ≤ hi) (h2 : -1099511627776 ≤ lo) (h3 : hi ≤ 1099511627776) (h : Q (lo + n % (hi - lo + 1)) w) : herdsmanref1_Within.call n lo hi w Q := by
  refine herdsmanref1_Within.body _ _ _ _ _ ?_
  unfold herdsmanref1_Within.sh
  rw [wrap_i64 (n := hi - lo) (by omega) (by omega), wrap_i64 (n := hi - lo + 1) (by omega) (by omega)]
  generalize hs : hi - lo + 1 = s at h
  have h4 := Int.lt_tmod_of_pos n (b := s) (by omega)
  have h5 := Int.tmod_lt_of_pos n (b := s) (by omega)
  have h6 := Int.tmod_add_mul_tdiv n s
  refine ⟨by omega, ?_⟩
  generalize ht : Int.tmod n s = t at *
  have e : n % s = t % s := by rw [← h6, Int.add_mul_emod_self_left]
  by_cases hn : t < 0
  · rw [decide_eq_true hn, cond_true, wrap_i64 (n := t + hi) (by omega) (by omega), wrap_i64 (n := t + hi - lo) (by omega) (by omega), wrap_i64 (n := t + hi - lo + 1) (by omega) (by omega), wrap_i64 (by omega) (by omega)]
    have e2 : t % s = t + s := by rw [← Int.add_emod_right, Int.emod_eq_of_lt (by omega) (by omega)]
    rw [e, e2] at h
    have e3 : t + hi - lo + 1 = t + s := by omega
    rw [e3]; exact h
  · rw [decide_eq_false hn, cond_false, wrap_i64 (by omega) (by omega)]
    rw [e, Int.emod_eq_of_lt (by omega) h5] at h
    exact h
theorem within_range {n lo hi : Int} (h : lo ≤ hi) : lo ≤ lo + n % (hi - lo + 1) ∧ lo + n % (hi - lo + 1) ≤ hi := by
  have h1 := Int.emod_nonneg n (b := hi - lo + 1) (by omega)
  have h2 := Int.emod_lt_of_pos n (b := hi - lo + 1) (by omega)
  omega
def pr (x : E) : List Value := [.int .i64 x.1, .int .i64 x.2]
theorem pr_len (x : E) : (pr x).length = 2 := rfl
theorem heap_entry_less.spec {F : Nat → Prop} {W w : World} {L : List As} {a b c d : Int} {Q : Bool → World → Prop} (s : Sep F W w L) (h : ∀ w', Sep F W w' L → Q (lt2 (a, b) (c, d)) w') : heap_entry_less.call a b c d w Q := by
  refine heap_entry_less.body _ _ _ _ _ _ ?_
  unfold heap_entry_less.sh
  refine Sep.Bx s fun b1 w1 s => ?_
  refine Sep.Bx s fun b2 w2 s => ?_
  refine Sep.LdI s (i := 1) rfl rfl rfl ?_
  refine Sep.LdI s (i := 0) rfl rfl rfl ?_
  have hh := h w2 (Sep.drop (Sep.drop s))
  unfold lt2 at hh
  by_cases h1 : a < c
  · rw [decide_eq_true h1, cond_true]
    rw [decide_eq_true h1, Bool.true_or] at hh
    exact hh
  · rw [decide_eq_false h1, cond_false]
    rw [decide_eq_false h1, Bool.false_or] at hh
    refine Sep.LdI s (i := 1) rfl rfl rfl ?_
    refine Sep.LdI s (i := 0) rfl rfl rfl ?_
    cases h2 : (a == c) with
    | false =>
      rw [cond_false]
      rw [h2, Bool.false_and] at hh
      exact hh
    | true =>
      rw [cond_true]
      rw [h2, Bool.true_and] at hh
      refine Sep.LdI s (i := 1) rfl rfl rfl ?_
      refine Sep.LdI s (i := 0) rfl rfl rfl ?_
      exact hh
section
variable {F : Nat → Prop} {W w : World} {L : List As} {i j p b o n c : Nat} {Q : World → Prop}
theorem up_loop (hij : i ≠ j) : ∀ (m q : Nat) (es : List E) (w : World), q ≤ m → q < es.length → es.length = n → n ≤ 1000000 → UpInv es q → ∀ L : List As, L[i]? = some (blkA p 43 [.slice (some ⟨b, o, none⟩) n c]) → L[j]? = some (rowA (some ⟨b, o, none⟩) n c 45 2 (flat pr es)) → Sep F W w L →
    (∀ w' es', IsHeap es' → es'.Perm es → Sep F W w' (L.set j (rowA (some ⟨b, o, none⟩) n c 45 2 (flat pr es'))) → Q w') → heap_Heap_up.b1 Q (m + 1) (some ⟨p, 0, none⟩) q w := by
  intro m
  induction m with
  | zero =>
    intro q es w hq hl hn hmax inv L hi hj s h
    obtain rfl : q = 0 := by omega
    show heap_Heap_up.s1 Q (heap_Heap_up.b1 Q 0) _ _ _
    unfold heap_Heap_up.s1
    rw [decide_eq_false (by decide), cond_false]
    refine h w es (up_stop inv (.inl rfl)) (.refl _) ?_
    rw [set_get_self hj]
    exact s
  | succ m ih =>
    intro q es w hq hl hn hmax inv L hi hj s h
    show heap_Heap_up.s1 Q (heap_Heap_up.b1 Q (m + 1)) _ _ _
    unfold heap_Heap_up.s1
    by_cases h0 : q = 0
    · subst h0
      rw [decide_eq_false (by decide), cond_false]
      refine h w es (up_stop inv (.inl rfl)) (.refl _) ?_
      rw [set_get_self hj]
      exact s
    · rw [decide_eq_true (by omega), cond_true]
      have e1 : IntKind.wrap .i64 (Int.tdiv (IntKind.wrap .i64 ((q : Int) - 1)) 2) = (((q - 1) / 2 : Nat) : Int) := by
        rw [wrap_i64 (n := (q : Int) - 1) (by omega) (by omega), Int.tdiv_eq_ediv_of_nonneg (by omega), wrap_i64 (by omega) (by omega)]
        omega
      rw [e1]
      have s' : Sep F W w.drew L := s
      have gq := g_get hl
      have hp : (q - 1) / 2 < es.length := by omega
      have gp := g_get hp
      refine ⟨by decide, wA_some ?_⟩
      refine Sep.LdS s' rfl hi rfl ?_
      refine ⟨by omega, by omega, wA_some ?_⟩
      rw [show ((q : Int)).toNat = q from rfl, show ((((q - 1) / 2 : Nat) : Int)).toNat = (q - 1) / 2 from rfl]
      refine Sep.LdI_el pr_len s' hj gq (j := 0) (el_addr ..) rfl ?_
      refine Sep.LdI_el pr_len s' hj gq (j := 1) (el_addr ..) rfl (wA_some ?_)
      refine Sep.LdS s' rfl hi rfl ?_
      refine ⟨by omega, by omega, wA_some ?_⟩
      refine Sep.LdI_el pr_len s' hj gp (j := 0) (el_addr ..) rfl ?_
      refine Sep.LdI_el pr_len s' hj gp (j := 1) (el_addr ..) rfl ?_
      refine heap_entry_less.spec s' fun w1 s1 => ?_
      cases hs : lt2 (g es q) (g es ((q - 1) / 2)) with
      | false =>
        rw [Bool.not_false, cond_true]
        refine h w1 es (up_stop inv (.inr hs)) (.refl _) ?_
        rw [set_get_self hj]
        exact s1
      | true =>
        rw [Bool.not_true, cond_false]
        have s2 : Sep F W w1.drew L := s1
        refine wA_some ?_
        refine Sep.LdS s2 rfl hi rfl (wA_some ?_)
        refine Sep.LdS s2 rfl hi rfl (wA_some ?_)
        refine Sep.LdS s2 rfl hi rfl ?_
        refine ⟨by omega, by omega, wA_some ?_⟩
        refine Sep.LdI_el pr_len s2 hj gp (j := 0) (el_addr ..) rfl ?_
        refine Sep.LdI_el pr_len s2 hj gp (j := 1) (el_addr ..) rfl (wA_some ?_)
        refine Sep.LdS s2 rfl hi rfl ?_
        refine ⟨by omega, by omega, wA_some ?_⟩
        refine Sep.LdI_el pr_len s2 hj gq (j := 0) (el_addr ..) rfl ?_
        refine Sep.LdI_el pr_len s2 hj gq (j := 1) (el_addr ..) rfl ?_
        refine ⟨by omega, by omega, wA_some ?_⟩
        have hjL : j < L.length := (List.getElem?_eq_some_iff.1 hj).1
        refine Sep.St_el pr_len (j := 0) (x' := ((g es ((q - 1) / 2)).1, (g es q).2)) s2 hj gq (el_addr ..) (by decide) rfl rfl fun w3 s3 => ?_
        refine Sep.St_el pr_len (j := 1) (x := ((g es ((q - 1) / 2)).1, (g es q).2)) (x' := g es ((q - 1) / 2)) s3 (i := j) (by rw [List.getElem?_set_self hjL]) (by rw [List.getElem?_set_self hl]) (el_addr ..) (by decide) rfl rfl fun w4 s4 => ?_
        rw [set_set_same, set_set_same] at s4
        refine ⟨by omega, by omega, wA_some ?_⟩
        have hne : q ≠ (q - 1) / 2 := by omega
        have gp' : (es.set q (g es ((q - 1) / 2)))[(q - 1) / 2]? = some (g es ((q - 1) / 2)) := by rw [List.getElem?_set_ne hne]; exact gp
        refine Sep.St_el pr_len (j := 0) (x' := ((g es q).1, (g es ((q - 1) / 2)).2)) s4 (i := j) (by rw [List.getElem?_set_self hjL]) gp' (el_addr ..) (by decide) rfl rfl fun w5 s5 => ?_
        refine Sep.St_el pr_len (j := 1) (x := ((g es q).1, (g es ((q - 1) / 2)).2)) (x' := g es q) s5 (i := j) (by rw [List.getElem?_set_self (by simpa using hjL)]) (by rw [List.getElem?_set_self (by simpa using hp)]) (el_addr ..) (by decide) rfl rfl fun w6 s6 => ?_
        rw [set_set_same, set_set_same, set_set_same] at s6
        have s6 : Sep F W w6 (L.set j (rowA (some ⟨b, o, none⟩) n c 45 2 (flat pr (swap es q ((q - 1) / 2))))) := s6
        refine ih ((q - 1) / 2) (swap es q ((q - 1) / 2)) w6 (by omega) (by rw [swap_length]; exact hp) (by rw [swap_length]; exact hn) hmax (up_step inv (by omega) hl hs) _ (by rw [List.getElem?_set_ne (Ne.symm hij)]; exact hi) (by rw [List.getElem?_set_self hjL]) s6 fun w' es' k1 k2 k3 => ?_
        rw [set_set_same] at k3
        exact h w' es' k1 (k2.trans (swap_perm hl hp)) k3
end
end Go.Proofs.Yticibkdeiigocaa.S
