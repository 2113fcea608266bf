/- Layer 13: Push, Top, Pop, Len over a heap as a list; told answers true. -/
import Derived.Test.YticibkdeiigocaaHC
set_option linter.unusedVariables false
set_option linter.unusedSimpArgs false
namespace Go.Proofs.Yticibkdeiigocaa.S
open Go.Sx
def heapA (p : Nat) (a : Option Addr) (c : Nat) (es : List E) : As where
  fp := fun k => k = p ∨ ∃ x, a = some x ∧ x.block = k
  ok := fun h => (blkA p 43 [.slice a es.length c]).ok h ∧ (rowA a es.length c 45 2 (flat pr es)).ok h ∧ (∀ x, a = some x → x.block ≠ p) ∧ IsHeap es
  lt := fun h hb k hk => by
    rcases hk with rfl | hk
    · exact As.lt _ h hb.1 _ rfl
    · exact As.lt _ h hb.2.1 _ hk
  fr := fun h h' hb he => ⟨As.fr _ h h' hb.1 fun b hb => he b (.inl hb), As.fr _ h h' hb.2.1 fun b hb => he b (.inr hb), hb.2.2⟩
section
variable {F : Nat → Prop} {W w w' : World} {L : List As} {i p c : Nat} {a : Option Addr} {es : List E}
theorem heap_open (s : Sep F W w L) (hi : L[i]? = some (heapA p a c es)) : Sep (heapA p a c es).fp w w [blkA p 43 [.slice a es.length c], rowA a es.length c 45 2 (flat pr es)] := by
  obtain ⟨h1, h2, h3, _⟩ := Sep.get s hi
  refine Sep.two h1 h2 (fun b hb => .inl hb) (fun b hb => .inr hb) fun b hb hb' => ?_
  obtain ⟨x, hx, rfl⟩ := hb'
  exact h3 x hx hb
theorem heap_heap (s : Sep F W w L) (hi : L[i]? = some (heapA p a c es)) : IsHeap es := (Sep.get s hi).2.2.2
theorem heap_close {a' : Option Addr} {c' : Nat} {es' : List E} (s : Sep F W w L) (hi : L[i]? = some (heapA p a c es)) (s' : Sep (heapA p a c es).fp w w' [blkA p 43 [.slice a' es'.length c'], rowA a' es'.length c' 45 2 (flat pr es')]) (hh : IsHeap es') :
    Sep F W w' (L.set i (heapA p a' c' es')) := by
  refine Sep.close s hi s' ⟨Sep.get s' (i := 0) rfl, Sep.get s' (i := 1) rfl, fun x hx e => ?_, hh⟩ fun b hb => ?_
  · exact Sep.disj s' (i := 0) (j := 1) rfl rfl (by decide) p rfl ⟨x, hx, e⟩
  · rcases hb with hb | hb
    · exact ⟨_, List.mem_cons_self, hb⟩
    · exact ⟨_, List.mem_cons_of_mem _ List.mem_cons_self, hb⟩
theorem heap_row_pos (s : Sep F W w L) (hi : L[i]? = some (heapA p a c es)) (h0 : 0 < es.length) : ∃ b o, a = some ⟨b, o, none⟩ := rowA_some (heap_open s hi) (i := 1) rfl h0
theorem heap_cap (s : Sep F W w L) (hi : L[i]? = some (heapA p a c es)) : es.length ≤ c := (rowA_cap (heap_open s hi) (i := 1) rfl).1
theorem src_blk {b : Nat} {t : TypeId} {cs : List Value} {m size : Nat} (s : Sep F W w L) (hi : L[i]? = some (blkA b t cs)) (hl : cs.length = m * size) (h1 : ∀ u ∈ cs, u.oneCell' = true) : Src w (some ⟨b, 0, none⟩) m size cs :=
  ⟨hl, h1, fun j u hj => by rw [add_flat, Nat.zero_add]; exact Sep.cell s rfl hi hj⟩
theorem heap_empty {p : Nat} {w : World} (h : (blkA p 43 [.slice none 0 0]).ok w.heap) : (heapA p none 0 []).ok w.heap :=
  ⟨h, ⟨⟨by simp [flat], Nat.le_refl _, by decide, by simp [flat]⟩, .inl ⟨rfl, rfl⟩⟩, fun x hx => (by cases hx), fun j h1 h2 => (by simp at h2)⟩
end
theorem isNone_pt {p : Addr} {A B : Prop} (h : B) : cond (some p).isNone A B := h
attribute [local irreducible] LdI LdB LdStr LdP LdS LdM LdV St Bx Al App Cpy MkS MkM EqK RunK RunU CallK SlK blkA rowA
section
variable {F : Nat → Prop} {W w : World} {L : List As} {i p c : Nat} {a : Option Addr} {es : List E}
theorem heap_New.spec {Q : Option Addr → World → Prop} (s : Sep F W w L) (h : ∀ p w', Sep F W w' (heapA p none 0 [] :: L) → Q (some ⟨p, 0, none⟩) w') : heap_New.call w Q := by
  refine heap_New.body _ _ ?_
  unfold heap_New.sh
  refine Sep.Bx s fun p w1 s => h p w1 ?_
  exact Sep.upd (L := blkA p 43 [.slice none 0 0] :: L) (i := 0) (A' := heapA p none 0 []) s rfl Fr.refl (heap_empty (Sep.get s (i := 0) rfl)) fun b hb => .inl (by
    rcases hb with hb | ⟨x, hx, _⟩
    · subst hb
      unfold blkA
      rfl
    · cases hx)
theorem heap_up.spec {b o n j : Nat} {Q : World → Prop} (hij : i ≠ j) (hl : 0 < es.length) (hn : es.length = n) (hmax : n ≤ 1000000) (inv : UpInv es (n - 1)) (hi : L[i]? = some (blkA p 43 [.slice (some ⟨b, o, none⟩) n c])) (hj : L[j]? = some (rowA (some ⟨b, o, none⟩) n c 45 2 (flat pr es))) (s : Sep F W w L)
    (h : ∀ w' es', IsHeap es' → es'.Perm es → Sep F W w' (L.set j (rowA (some ⟨b, o, none⟩) n c 45 2 (flat pr es'))) → Q w') : heap_Heap_up.call (some ⟨p, 0, none⟩) w Q := by
  refine heap_Heap_up.body _ _ _ ?_
  unfold heap_Heap_up.sh
  refine wA_some ?_
  refine Sep.LdS s rfl hi rfl ?_
  rw [wrap_i64 (n := (n : Int) - 1) (by omega) (by omega), show ((n : Int) - 1) = ((n - 1 : Nat) : Int) by omega]
  exact ⟨n, up_loop hij (n - 1) (n - 1) es w (Nat.le_refl _) (by omega) hn hmax inv L hi hj s h |> fun k => by rwa [show n - 1 + 1 = n by omega] at k⟩
theorem heap_Push.spec {k x : Int} {Q : World → Prop} (s : Sep F W w L) (hi : L[i]? = some (heapA p a c es)) (hn : es.length < 1000000)
    (h : ∀ w' a' c' es', es'.Perm (es ++ [(k, x)]) → Sep F W w' (L.set i (heapA p a' c' es')) → Q w') : heap_Heap_Push.call (some ⟨p, 0, none⟩) k x w Q := by
  refine heap_Heap_Push.body _ _ _ _ _ ?_
  unfold heap_Heap_Push.sh
  refine isNone_pt ?_
  have s0 := heap_open s hi
  have hh := heap_heap s hi
  refine wA_some ?_
  refine Sep.LdS s0 (i := 0) rfl rfl rfl ?_
  refine Sep.Bx s0 fun bx w1 s1 => ?_
  have src := src_blk (m := 1) (size := 2) s1 (i := 0) rfl rfl (fun u hu => by simp at hu; rcases hu with rfl | rfl <;> rfl)
  refine Sep.App tab_ok s1 (i := 2) (size := 2) (bytes := 16) rfl rfl rfl rfl rfl rfl (by decide) rfl src (by simp only [maxLen]; omega) (by omega) (fun e => by cases e) fun a' c' w2 s2 => ?_
  simp only [List.set_cons_zero, List.set_cons_succ] at s2
  have s2 := Sep.drop s2
  have e1 : flat pr es ++ [.int .i64 k, .int .i64 x] = flat pr (es ++ [(k, x)]) := by rw [flat_append]; rfl
  rw [e1] at s2
  refine wA_some ?_
  refine Sep.St s2 (i := 0) rfl rfl rfl fun w3 s3 => ?_
  simp only [List.set_cons_zero, List.set_cons_succ] at s3
  obtain ⟨b, o, rfl⟩ := rowA_some s3 (i := 1) rfl (by omega)
  have hl : (es ++ [(k, x)]).length = es.length + 1 := by simp
  refine heap_up.spec (i := 0) (j := 1) (n := es.length + 1) (es := es ++ [(k, x)]) (by decide) (by omega) hl (by omega) (by rw [show es.length + 1 - 1 = es.length by omega]; exact push_inv hh) rfl rfl s3 fun w4 es' q1 q2 s4 => ?_
  have hl' : es'.length = es.length + 1 := by rw [q2.length_eq, hl]
  refine h w4 (some ⟨b, o, none⟩) c' es' q2 (heap_close s hi ?_ q1)
  rw [hl']
  exact s4
theorem heap_Len.spec {Q : Int → World → Prop} (s : Sep F W w L) (hi : L[i]? = some (heapA p a c es)) (h : Q (es.length : Int) w) : heap_Heap_Len.call (some ⟨p, 0, none⟩) w Q := by
  refine heap_Heap_Len.body _ _ _ ?_
  unfold heap_Heap_Len.sh
  refine isNone_pt (wA_some ?_)
  exact Sep.LdS (heap_open s hi) (i := 0) rfl rfl rfl h
theorem heap_Top.spec {Q : Int → Int → Bool → World → Prop} (s : Sep F W w L) (hi : L[i]? = some (heapA p a c es)) (h0 : es = [] → ∀ w', Sep F W w' L → Q 0 0 false w') (h1 : 0 < es.length → ∀ w', Sep F W w' L → Q (g es 0).1 (g es 0).2 true w') : heap_Heap_Top.call (some ⟨p, 0, none⟩) w Q := by
  refine heap_Heap_Top.body _ _ _ ?_
  unfold heap_Heap_Top.sh
  refine heap_Len.spec s hi ?_
  by_cases he : es.length = 0
  · rw [he]
    exact h0 (List.eq_nil_of_length_eq_zero he) w s
  · rw [show ((es.length : Int) == 0) = false by rw [beq_eq_false_iff_ne]; omega, cond_false]
    obtain ⟨b, o, rfl⟩ := heap_row_pos s hi (by omega)
    have s0 := heap_open s hi
    have s0 : Sep (heapA p (some ⟨b, o, none⟩) c es).fp w w.drew _ := s0
    have g0 := g_get (es := es) (i := 0) (by omega)
    refine wA_some ?_
    refine Sep.LdS s0 (i := 0) rfl rfl rfl ?_
    refine ⟨by omega, by omega, wA_some ?_⟩
    refine Sep.LdI_el pr_len s0 (i := 1) rfl g0 (j := 0) (el_addr0 ..) rfl (wA_some ?_)
    refine Sep.LdS s0 (i := 0) rfl rfl rfl ?_
    refine ⟨by omega, by omega, wA_some ?_⟩
    refine Sep.LdI_el pr_len s0 (i := 1) rfl g0 (j := 1) (el_addr ..) rfl ?_
    refine ⟨Sep.row_cell s0 (i := 1) rfl (j := 0 * 2 + 1) (el_addr ..) (by rw [flat_get pr_len g0 (by decide)]; rfl), Sep.cell s0 (i := 0) rfl rfl rfl, ?_⟩
    exact h1 (by omega) w.drew s
theorem heap_down.spec {b o n j : Nat} {Q : World → Prop} (hij : i ≠ j) (hn : es.length = n) (hmax : n ≤ 1000000) (inv : DownInv es 0) (hi : L[i]? = some (blkA p 43 [.slice (some ⟨b, o, none⟩) n c])) (hj : L[j]? = some (rowA (some ⟨b, o, none⟩) n c 45 2 (flat pr es))) (s : Sep F W w L)
    (h : ∀ w' es', IsHeap es' → es'.Perm es → Sep F W w' (L.set j (rowA (some ⟨b, o, none⟩) n c 45 2 (flat pr es'))) → Q w') : heap_Heap_down.call (some ⟨p, 0, none⟩) w Q := by
  refine heap_Heap_down.body _ _ _ ?_
  unfold heap_Heap_down.sh
  by_cases h0 : es.length = 0
  · have hes : es = [] := List.eq_nil_of_length_eq_zero h0
    subst hes
    obtain rfl : n = 0 := by simpa using hn.symm
    refine ⟨1, ?_⟩
    show heap_Heap_down.s1 Q (heap_Heap_down.b1 Q 0) _ _ _
    unfold heap_Heap_down.s1
    refine ⟨1, ?_⟩
    show heap_Heap_down.s3 _ Q (heap_Heap_down.b3 _ Q 0) _ _ _ _ _
    unfold heap_Heap_down.s3
    rw [show decide (IntKind.wrap .i64 (IntKind.wrap .i64 (2 * 0) + 1) ≤ IntKind.wrap .i64 (IntKind.wrap .i64 (2 * 0) + 2)) = true by decide, cond_true]
    refine wA_some ?_
    refine Sep.LdS s rfl hi rfl ?_
    rw [show decide (IntKind.wrap .i64 (IntKind.wrap .i64 (2 * 0) + 1) < ((0 : Nat) : Int)) = false by decide, cond_false]
    unfold heap_Heap_down.b7
    rw [beq_self_eq_true, cond_true]
    refine h w [] (fun j h1 h2 => by simp at h2) (.refl _) ?_
    rw [set_get_self hj]
    exact s
  · exact ⟨es.length + 1, down_loop hij es.length 0 es w (by omega) (by omega) hn hmax inv L hi hj s h⟩
theorem heap_Pop.spec {Q : Int → Int → Bool → World → Prop} (s : Sep F W w L) (hi : L[i]? = some (heapA p a c es)) (hmax : es.length ≤ 1000000) (h0 : es = [] → ∀ w', Sep F W w' L → Q 0 0 false w')
    (h1 : 0 < es.length → ∀ w' a' c' es', (g es 0 :: es').Perm es → Sep F W w' (L.set i (heapA p a' c' es')) → Q (g es 0).1 (g es 0).2 true w') : heap_Heap_Pop.call (some ⟨p, 0, none⟩) w Q := by
  refine heap_Heap_Pop.body _ _ _ ?_
  unfold heap_Heap_Pop.sh
  refine heap_Top.spec s hi (fun he w1 s1 => ?_) fun hpos w1 s => ?_
  · rw [cond_false]
    unfold heap_Heap_Pop.b7
    exact h0 he w1 s1
  · rw [cond_true]
    obtain ⟨b, o, rfl⟩ := heap_row_pos s hi hpos
    have hh := heap_heap s hi
    have hcap := heap_cap s hi
    have s0 := heap_open s hi
    have s1 : Sep (heapA p (some ⟨b, o, none⟩) c es).fp w1 w1.drew _ := s0
    have e1 : IntKind.wrap .i64 ((es.length : Int) - 1) = ((es.length - 1 : Nat) : Int) := by rw [wrap_i64 (by omega) (by omega)]; omega
    have gl := g_get (es := es) (i := es.length - 1) (by omega)
    have g0 := g_get (es := es) (i := 0) hpos
    refine wA_some ?_
    refine Sep.LdS s0 (i := 0) rfl rfl rfl (wA_some ?_)
    refine Sep.LdS s1 (i := 0) rfl rfl rfl (wA_some ?_)
    refine Sep.LdS s1 (i := 0) rfl rfl rfl ?_
    rw [e1]
    refine ⟨by omega, by omega, wA_some ?_⟩
    rw [show (((es.length - 1 : Nat) : Int)).toNat = es.length - 1 from rfl]
    refine Sep.LdI_el pr_len s1 (i := 1) rfl gl (j := 0) (el_addr ..) rfl ?_
    refine Sep.LdI_el pr_len s1 (i := 1) rfl gl (j := 1) (el_addr ..) rfl ?_
    refine ⟨by omega, by omega, wA_some ?_⟩
    refine Sep.St_el pr_len (j := 0) (k := 0) (x' := ((g es (es.length - 1)).1, (g es 0).2)) s1 (i := 1) rfl g0 (el_addr ..) (by decide) rfl rfl fun w3 s3 => ?_
    simp only [List.set_cons_zero, List.set_cons_succ] at s3
    refine Sep.St_el pr_len (j := 1) (k := 0) (x := ((g es (es.length - 1)).1, (g es 0).2)) (x' := g es (es.length - 1)) s3 (i := 1) rfl (by rw [List.getElem?_set_self hpos]) (el_addr ..) (by decide) rfl rfl fun w4 s4 => ?_
    simp only [List.set_cons_zero, List.set_cons_succ, set_set_same] at s4
    refine wA_some ?_
    refine Sep.LdS s4 (i := 0) rfl rfl rfl ?_
    refine SlK_hi (m := es.length - 1) rfl (by omega) (wA_some ?_)
    refine Sep.St s4 (i := 0) rfl rfl rfl fun w5 s5 => ?_
    have s6 := Sep.row_take s5 (i := 1) rfl (m := es.length - 1) (by omega)
    rw [flat_take pr_len] at s6
    simp only [List.set_cons_zero, List.set_cons_succ] at s6
    have hl : ((es.set 0 (g es (es.length - 1))).take (es.length - 1)).length = es.length - 1 := by simp
    refine heap_down.spec (i := 0) (j := 1) (by decide) hl (by omega) (pop_inv hh hpos) rfl rfl s6 fun w7 es' k1 k2 s7 => ?_
    unfold heap_Heap_Pop.b7
    have hl' : es'.length = es.length - 1 := by rw [k2.length_eq, hl]
    refine h1 hpos w7 (some ⟨b, o, none⟩) c es' ((List.Perm.cons _ k2).trans (pop_perm hpos)) (heap_close s hi ?_ k1)
    rw [hl']
    exact s7
end
end Go.Proofs.Yticibkdeiigocaa.S
