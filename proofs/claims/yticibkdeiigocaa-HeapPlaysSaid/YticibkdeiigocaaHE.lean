/- Layer 13: told; HeapNone answers true. -/
import Derived.Test.YticibkdeiigocaaHD
import Derived.Test.YticibkdeiigocaaXF1
set_option linter.unusedVariables false
set_option linter.unusedSimpArgs false
namespace Go.Proofs.Yticibkdeiigocaa.S
open Go.Sx
theorem sep_below {W w : World} {L : List As} (s : Sep No W w L) : Go.RowKit.Below W.heap.size W w := Fr.below (F := No) (SepM.fr s) fun _ _ h => h
attribute [local irreducible] LdI LdB LdStr LdP LdS LdM LdV St Bx Al App Cpy MkS MkM EqK RunK RunU CallK SlK blkA rowA heapA
theorem g_mem {es : List E} (h : 0 < es.length) : g es 0 ∈ es := List.mem_of_getElem? (g_get h)
theorem heap_first {es : List E} {l : List E} (h : IsHeap es) (hp : es.Perm l) (h0 : 0 < l.length) : g es 0 ∈ l ∧ ∀ x ∈ l, lt2 x (g es 0) = false := by
  have h1 : 0 < es.length := by rw [hp.length_eq]; exact h0
  exact ⟨hp.mem_iff.1 (g_mem h1), fun x hx => heap_least_mem h (hp.mem_iff.2 hx)⟩
section
variable {F : Nat → Prop} {W w : World} {L : List As} {i p c : Nat} {a : Option Addr} {es : List E}
theorem heap_Push.none {k x : Int} {Q : World → Prop} (h : Q w) : heap_Heap_Push.call none k x w Q := heap_Heap_Push.body _ _ _ _ _ h
theorem heap_Len.none {Q : Int → World → Prop} (h : Q 0 w) : heap_Heap_Len.call none w Q := heap_Heap_Len.body _ _ _ h
theorem heap_Top.none {Q : Int → Int → Bool → World → Prop} (h : Q 0 0 false w) : heap_Heap_Top.call none w Q := heap_Heap_Top.body _ _ _ (heap_Len.none h)
theorem heap_Pop.none {Q : Int → Int → Bool → World → Prop} (h : Q 0 0 false w) : heap_Heap_Pop.call none w Q := heap_Heap_Pop.body _ _ _ (heap_Top.none h)
theorem herdsmanlaw13_told.spec {Q : Bool → World → Prop} (s : Sep F W w L) (h : ∀ w', Sep F W w' L → Q true w') : herdsmanlaw13_told.call w Q := by
  refine herdsmanlaw13_told.body _ _ ?_
  unfold herdsmanlaw13_told.sh
  refine heap_New.spec s fun p w1 s => isNone_pt ?_
  refine heap_Push.spec s (i := 0) rfl (by simp) fun w2 a2 c2 es2 q2 s => ?_
  simp only [List.set_cons_zero] at s
  refine heap_Push.spec s (i := 0) rfl (by rw [q2.length_eq]; simp) fun w3 a3 c3 es3 q3 s => ?_
  simp only [List.set_cons_zero] at s
  refine heap_Push.spec s (i := 0) rfl (by rw [q3.length_eq, List.length_append, q2.length_eq]; simp) fun w4 a4 c4 es4 q4 s => ?_
  simp only [List.set_cons_zero] at s
  have q : es4.Perm [(3, 1), (2, 9), (2, 4)] := (q4.trans ((q3.trans (q2.append_right _)).append_right _))
  have hh := heap_heap s (i := 0) rfl
  obtain ⟨m1, m2⟩ := heap_first hh q (by decide)
  have hg : g es4 0 = (2, 4) := by
    have := m2 (2, 4) (by simp)
    simp only [List.mem_cons, List.mem_nil_iff, or_false] at m1
    rcases m1 with e | e | e <;> rw [e] at this ⊢ <;> simp [lt2] at this
  have hl4 : es4.length = 3 := q.length_eq
  refine heap_Pop.spec s (i := 0) rfl (by omega) (fun he => by rw [he] at hl4; simp at hl4) fun _ w5 a5 c5 es5 q5 s => ?_
  simp only [List.set_cons_zero] at s
  have hl5 : es5.length = 2 := by have := q5.length_eq; simp at this; omega
  rw [hg]
  show cond ((2 : Int) == 2) _ _
  rw [beq_self_eq_true, cond_true]
  show cond ((4 : Int) == 4) _ _
  rw [beq_self_eq_true, cond_true, cond_true]
  refine heap_Len.spec s (i := 0) rfl ?_
  rw [hl5]
  exact h w5 (Sep.drop s)
theorem herdsmanlaw13_HeapNone.spec {k x : Int} {Q : Bool → World → Prop} (s : Sep F W w L) (h : ∀ w', Sep F W w' L → Q true w') : herdsmanlaw13_HeapNone.call k x w Q := by
  refine herdsmanlaw13_HeapNone.body _ _ _ _ ?_
  unfold herdsmanlaw13_HeapNone.sh
  refine heap_Push.none (heap_Pop.none (heap_Top.none ?_))
  refine heap_New.spec s fun p1 w1 s => ?_
  refine heap_New.spec s fun p2 w2 s => isNone_pt (isNone_pt ?_)
  refine heap_Push.spec s (i := 1) rfl (by simp) fun w3 a3 c3 es3 q3 s => ?_
  simp only [List.set_cons_zero, List.set_cons_succ] at s
  have e : es3 = [(k, x)] := List.perm_singleton.1 q3
  subst e
  refine heap_Top.spec s (i := 1) rfl (fun he => by cases he) fun _ w4 s => ?_
  refine herdsmanlaw13_told.spec s fun w5 s => ?_
  show cond true (cond ((0 : Int) == 0) (cond ((0 : Int) == 0) (cond (!false) (cond ((0 : Int) == 0) (cond ((0 : Int) == 0) (cond (!false) _ _) _) _) _) _) _) _
  simp only [beq_self_eq_true, cond_true, Bool.not_false]
  refine heap_Len.none ?_
  rw [beq_self_eq_true, cond_true]
  refine heap_Len.spec s (i := 0) rfl ?_
  rw [show (([] : List E).length : Int) == 0 from rfl, cond_true]
  refine heap_Len.spec s (i := 1) rfl ?_
  rw [show ((([(k, x)] : List E).length : Int) == 1) = true from rfl, cond_true]
  show cond (k == k) (cond (x == x) _ _) _
  simp only [beq_self_eq_true, cond_true]
  exact h w5 (Sep.drop (Sep.drop s))
end
theorem HeapNone_law : LawOk P 6 [.int .i64, .int .i64] := by
  intro W args h
  obtain ⟨v0, r, rfl, h0, h⟩ := RdAll.cons h
  obtain ⟨v1, r, rfl, h1, h⟩ := RdAll.cons h
  obtain rfl := RdAll.nil h
  obtain ⟨p, rfl, _⟩ := rdV_int h0
  obtain ⟨q, rfl, _⟩ := rdV_int h1
  exact herdsmanlaw13_HeapNone.spec (Q := fun r W' => r = true ∧ Go.RowKit.Below W.heap.size W W') (F := No) (L := []) Sep.nil fun w' s => ⟨rfl, sep_below s⟩
end Go.Proofs.Yticibkdeiigocaa.S
