/- Layer 13: the heap's functions: going down; all of them over heaps as lists. -/
import Derived.Test.YticibkdeiigocaaHB
set_option linter.unusedVariables false
set_option linter.unusedSimpArgs false
namespace Go.Proofs.Yticibkdeiigocaa.S
open Go.Sx
attribute [local irreducible] LdI LdB LdStr LdP LdS LdM LdV St Bx Al App Cpy MkS MkM EqK RunK RunU CallK SlK blkA rowA
section
variable {F : Nat → Prop} {W w : World} {L : List As} {i j p b o n c : Nat} {Q : World → Prop}
/-- The least of a place and its children. -/
theorem least_loop {P1 : Option Addr → Int → World → Prop} {es : List E} {q : Nat} (hq : q < es.length) (hn : es.length = n) (hmax : n ≤ 1000000)
    (hi : L[i]? = some (blkA p 43 [.slice (some ⟨b, o, none⟩) n c])) (hj : L[j]? = some (rowA (some ⟨b, o, none⟩) n c 45 2 (flat pr es)))
    (h : ∀ w' l, Sep F W w' L → Least es q l (2 * q + 3) → heap_Heap_down.b7 P1 Q (some ⟨p, 0, none⟩) q l w') :
    ∀ (m k l : Nat) (w : World), k + m = 2 * q + 3 → 2 * q + 1 ≤ k → Sep F W w L → Least es q l k → heap_Heap_down.b3 P1 Q (m + 1) (some ⟨p, 0, none⟩) q l k w := by
  intro m
  induction m with
  | zero =>
    intro k l w hk hk2 s hl
    obtain rfl : k = 2 * q + 3 := by omega
    show heap_Heap_down.s3 P1 Q (heap_Heap_down.b3 P1 Q 0) _ _ _ _ _
    unfold heap_Heap_down.s3
    rw [wrap_i64 (n := 2 * (q : Int)) (by omega) (by omega), wrap_i64 (n := 2 * (q : Int) + 2) (by omega) (by omega), decide_eq_false (by omega), cond_false]
    exact h w l s hl
  | succ m ih =>
    intro k l w hk hk2 s hl
    show heap_Heap_down.s3 P1 Q (heap_Heap_down.b3 P1 Q (m + 1)) _ _ _ _ _
    unfold heap_Heap_down.s3
    rw [wrap_i64 (n := 2 * (q : Int)) (by omega) (by omega), wrap_i64 (n := 2 * (q : Int) + 2) (by omega) (by omega), decide_eq_true (by omega), cond_true]
    refine wA_some ?_
    refine Sep.LdS s rfl hi rfl ?_
    by_cases hkn : k < n
    · rw [decide_eq_true (by omega), cond_true]
      have s' : Sep F W w.drew L := s
      have gk := g_get (es := es) (i := k) (by omega)
      have gl := g_get hl.lt
      have hln := hl.lt
      refine wA_some ?_
      refine Sep.LdS s' rfl hi rfl ?_
      refine ⟨by omega, by omega, wA_some ?_⟩
      rw [show ((k : Int)).toNat = k from rfl, show ((l : Int)).toNat = l from rfl]
      refine Sep.LdI_el pr_len s' hj gk (j := 0) (el_addr ..) rfl ?_
      refine Sep.LdI_el pr_len s' hj gk (j := 1) (el_addr ..) rfl (wA_some ?_)
      refine Sep.LdS s' rfl hi rfl ?_
      refine ⟨by omega, by omega, wA_some ?_⟩
      refine Sep.LdI_el pr_len s' hj gl (j := 0) (el_addr ..) rfl ?_
      refine Sep.LdI_el pr_len s' hj gl (j := 1) (el_addr ..) rfl ?_
      refine heap_entry_less.spec s' fun w1 s1 => ?_
      rw [wrap_i64 (n := (k : Int) + 1) (by omega) (by omega)]
      cases hs : lt2 (g es k) (g es l) with
      | true =>
        rw [cond_true]
        refine ih (k + 1) k w1 (by omega) (by omega) s1 ⟨by omega, by omega, lt2_trans' (lt2_asymm hs) hl.self, fun x h1 h2 h3 => ?_⟩
        by_cases hx : x = k
        · subst hx; exact lt2_self
        · exact lt2_trans' (lt2_asymm hs) (hl.kids x h1 (by omega) h3)
      | false =>
        rw [cond_false]
        refine ih (k + 1) l w1 (by omega) (by omega) s1 ⟨hl.lt, hl.who, hl.self, fun x h1 h2 h3 => ?_⟩
        by_cases hx : x = k
        · subst hx; exact hs
        · exact hl.kids x h1 (by omega) h3
    · rw [decide_eq_false (by omega), cond_false]
      exact h w l s ⟨hl.lt, hl.who, hl.self, fun x h1 h2 h3 => hl.kids x h1 (by omega) h3⟩
theorem down_loop (hij : i ≠ j) : ∀ (m q : Nat) (es : List E) (w : World), es.length ≤ q + m → q < es.length → es.length = n → n ≤ 1000000 → DownInv es q → ∀ L : List As, L[i]? = some (blkA p 43 [.slice (some ⟨b, o, none⟩) n c]) → L[j]? = some (rowA (some ⟨b, o, none⟩) n c 45 2 (flat pr es)) → Sep F W w L →
    (∀ w' es', IsHeap es' → es'.Perm es → Sep F W w' (L.set j (rowA (some ⟨b, o, none⟩) n c 45 2 (flat pr es'))) → Q w') → heap_Heap_down.b1 Q (m + 1) (some ⟨p, 0, none⟩) q w := by
  intro m
  induction m with
  | zero =>
    intro q es w hq hl
    omega
  | succ m ih =>
    intro q es w hq hl hn hmax inv L hi hj s h
    show heap_Heap_down.s1 Q (heap_Heap_down.b1 Q (m + 1)) _ _ _
    unfold heap_Heap_down.s1
    rw [wrap_i64 (n := 2 * (q : Int)) (by omega) (by omega), wrap_i64 (n := 2 * (q : Int) + 1) (by omega) (by omega)]
    refine ⟨3, ?_⟩
    have e0 : (2 * (q : Int) + 1) = ((2 * q + 1 : Nat) : Int) := by omega
    rw [e0]
    refine least_loop (n := n) (c := c) (b := b) (o := o) (P1 := heap_Heap_down.b1 Q (m + 1)) (L := L) (F := F) (W := W) hl hn hmax hi hj (fun w1 l s1 hle => ?_) 2 (2 * q + 1) q w (by omega) (by omega) s ⟨hl, .inl rfl, lt2_self, fun x h1 h2 h3 => by omega⟩
    unfold heap_Heap_down.b7
    by_cases hlq : l = q
    · subst hlq
      rw [beq_self_eq_true, cond_true]
      refine h w1 es (down_stop inv fun x h1 h2 h3 => hle.kids x h1 (by omega) h3) (.refl _) ?_
      rw [set_get_self hj]
      exact s1
    · rw [show (((l : Int)) == (q : Int)) = false by rw [beq_eq_false_iff_ne]; omega, cond_false]
      have s2 : Sep F W w1.drew L := s1
      have hll := hle.lt
      have gq := g_get hl
      have gl := g_get hll
      have hw : l = 2 * q + 1 ∨ l = 2 * q + 2 := by rcases hle.who with h | h; · exact absurd h hlq
                                                    · exact h
      refine wA_some ?_
      refine Sep.LdS s2 rfl hi rfl (wA_some ?_)
      refine Sep.LdS s2 rfl hi rfl (wA_some ?_)
      refine Sep.LdS s2 rfl hi rfl ?_
      refine ⟨by omega, by omega, wA_some ?_⟩
      rw [show ((q : Int)).toNat = q from rfl, show ((l : Int)).toNat = l from rfl]
      refine Sep.LdI_el pr_len s2 hj gl (j := 0) (el_addr ..) rfl ?_
      refine Sep.LdI_el pr_len s2 hj gl (j := 1) (el_addr ..) rfl (wA_some ?_)
      refine Sep.LdS s2 rfl hi rfl ?_
      refine ⟨by omega, by omega, wA_some ?_⟩
      refine Sep.LdI_el pr_len s2 hj gq (j := 0) (el_addr ..) rfl ?_
      refine Sep.LdI_el pr_len s2 hj gq (j := 1) (el_addr ..) rfl ?_
      refine ⟨by omega, by omega, wA_some ?_⟩
      have hjL : j < L.length := (List.getElem?_eq_some_iff.1 hj).1
      refine Sep.St_el pr_len (j := 0) (x' := ((g es l).1, (g es q).2)) s2 hj gq (el_addr ..) (by decide) rfl rfl fun w3 s3 => ?_
      refine Sep.St_el pr_len (j := 1) (x := ((g es l).1, (g es q).2)) (x' := g es l) s3 (i := j) (by rw [List.getElem?_set_self hjL]) (by rw [List.getElem?_set_self hl]) (el_addr ..) (by decide) rfl rfl fun w4 s4 => ?_
      rw [set_set_same, set_set_same] at s4
      refine ⟨by omega, by omega, wA_some ?_⟩
      have hne : q ≠ l := by omega
      have gl' : (es.set q (g es l))[l]? = some (g es l) := by rw [List.getElem?_set_ne hne]; exact gl
      refine Sep.St_el pr_len (j := 0) (x' := ((g es q).1, (g es l).2)) s4 (i := j) (by rw [List.getElem?_set_self hjL]) gl' (el_addr ..) (by decide) rfl rfl fun w5 s5 => ?_
      refine Sep.St_el pr_len (j := 1) (x := ((g es q).1, (g es l).2)) (x' := g es q) s5 (i := j) (by rw [List.getElem?_set_self (by simpa using hjL)]) (by rw [List.getElem?_set_self (by simpa using hll)]) (el_addr ..) (by decide) rfl rfl fun w6 s6 => ?_
      rw [set_set_same, set_set_same, set_set_same] at s6
      have s6 : Sep F W w6 (L.set j (rowA (some ⟨b, o, none⟩) n c 45 2 (flat pr (swap es q l)))) := s6
      refine ih l (swap es q l) w6 (by rw [swap_length]; omega) (by rw [swap_length]; exact hll) (by rw [swap_length]; exact hn) hmax (down_step inv hl hll hw hle.self fun x h1 h2 h3 => hle.kids x h1 (by omega) h3) _ (by rw [List.getElem?_set_ne (Ne.symm hij)]; exact hi) (by rw [List.getElem?_set_self hjL]) s6 fun w' es' k1 k2 k3 => ?_
      rw [set_set_same] at k3
      exact h w' es' k1 (k2.trans (swap_perm hl hll)) k3
end
end Go.Proofs.Yticibkdeiigocaa.S
