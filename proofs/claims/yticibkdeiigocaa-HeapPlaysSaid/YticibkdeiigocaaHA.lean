/- Heaps as lists of pairs: what going up and going down leave. No program in sight. -/
import Derived.Test.YticibkdeiigocaaSxJ
set_option linter.unusedVariables false
set_option linter.unusedSimpArgs false
namespace Go.Proofs.Yticibkdeiigocaa.S
abbrev E := Int × Int
def lt2 (a b : E) : Bool := decide (a.1 < b.1) || (a.1 == b.1 && decide (a.2 < b.2))
theorem lt2_iff {a b : E} : lt2 a b = true ↔ a.1 < b.1 ∨ a.1 = b.1 ∧ a.2 < b.2 := by simp [lt2]
theorem lt2_not {a b : E} : lt2 a b = false ↔ ¬ (a.1 < b.1 ∨ a.1 = b.1 ∧ a.2 < b.2) := by rw [← lt2_iff, Bool.not_eq_true]
theorem lt2_asymm {a b : E} (h : lt2 a b = true) : lt2 b a = false := by rw [lt2_iff] at h; rw [lt2_not]; omega
theorem lt2_trans' {a b c : E} (h : lt2 b a = false) (k : lt2 c b = false) : lt2 c a = false := by rw [lt2_not] at *; omega
theorem lt2_self {a : E} : lt2 a a = false := by rw [lt2_not]; omega
theorem lt2_antisymm {a b : E} (h : lt2 a b = false) (k : lt2 b a = false) : a = b := by
  rw [lt2_not] at *
  obtain ⟨a1, a2⟩ := a
  obtain ⟨b1, b2⟩ := b
  simp only at *
  rw [Prod.mk.injEq]
  omega
def g (es : List E) (i : Nat) : E := es.getD i (0, 0)
theorem g_get {es : List E} {i : Nat} (h : i < es.length) : es[i]? = some (g es i) := by
  rw [g, List.getD_eq_getElem?_getD, List.getElem?_eq_getElem h]; rfl
theorem g_set {es : List E} {i j : Nat} {x : E} (h : i < es.length) : g (es.set i x) j = if i = j then x else g es j := by
  unfold g
  rw [List.getD_eq_getElem?_getD, List.getD_eq_getElem?_getD, List.getElem?_set]
  by_cases hij : i = j
  · rw [if_pos hij, if_pos hij]
    simp [h]
  · rw [if_neg hij, if_neg hij]
def swap (es : List E) (i p : Nat) : List E := (es.set i (g es p)).set p (g es i)
theorem swap_length (es : List E) (i p : Nat) : (swap es i p).length = es.length := by simp [swap]
theorem g_swap {es : List E} {i p j : Nat} (hi : i < es.length) (hp : p < es.length) : g (swap es i p) j = if p = j then g es i else if i = j then g es p else g es j := by
  unfold swap
  rw [g_set (by simpa using hp), g_set hi]
theorem swap_perm {es : List E} {i p : Nat} (hi : i < es.length) (hp : p < es.length) : (swap es i p).Perm es := by
  rw [List.perm_iff_count]
  intro a
  unfold swap
  rw [List.count_set (by simpa using hp), List.count_set hi, List.getElem_set]
  have e1 : es[i] = g es i := by have := g_get hi; rw [List.getElem?_eq_getElem hi] at this; exact Option.some.inj this
  have e2 : es[p] = g es p := by have := g_get hp; rw [List.getElem?_eq_getElem hp] at this; exact Option.some.inj this
  rw [e1, e2]
  have c1 : (if (g es i == a) = true then 1 else 0) ≤ List.count a es := by
    split
    · rename_i h
      rw [← e1] at h
      have : a ∈ es := by rw [← eq_of_beq h]; exact List.getElem_mem hi
      exact List.count_pos_iff.2 this
    · omega
  by_cases h : i = p
  · subst h
    simp only [if_true]
    omega
  · rw [if_neg h]
    have c2 : (if (g es p == a) = true then 1 else 0) ≤ List.count a es := by
      split
      · rename_i h
        rw [← e2] at h
        have : a ∈ es := by rw [← eq_of_beq h]; exact List.getElem_mem hp
        exact List.count_pos_iff.2 this
      · omega
    omega
def IsHeap (es : List E) : Prop := ∀ j, 0 < j → j < es.length → lt2 (g es j) (g es ((j - 1) / 2)) = false
structure UpInv (es : List E) (i : Nat) : Prop where
  rest : ∀ j, 0 < j → j < es.length → j ≠ i → lt2 (g es j) (g es ((j - 1) / 2)) = false
  over : ∀ j, 0 < j → j < es.length → (j - 1) / 2 = i → 0 < i → lt2 (g es j) (g es ((i - 1) / 2)) = false
theorem up_stop {es : List E} {i : Nat} (h : UpInv es i) (hs : i = 0 ∨ lt2 (g es i) (g es ((i - 1) / 2)) = false) : IsHeap es := by
  intro j h1 h2
  by_cases hj : j = i
  · subst hj
    rcases hs with hs | hs
    · omega
    · exact hs
  · exact h.rest j h1 h2 hj
theorem up_step {es : List E} {i : Nat} (h : UpInv es i) (hi : 0 < i) (hl : i < es.length) (hs : lt2 (g es i) (g es ((i - 1) / 2)) = true) : UpInv (swap es i ((i - 1) / 2)) ((i - 1) / 2) := by
  have hp : (i - 1) / 2 < es.length := by omega
  have hne : (i - 1) / 2 ≠ i := by omega
  constructor
  · intro j h1 h2 hj
    rw [swap_length] at h2
    rw [g_swap hl hp, g_swap hl hp, if_neg (Ne.symm hj)]
    by_cases hji : i = j
    · subst hji
      rw [if_pos rfl, if_pos rfl]
      exact lt2_asymm hs
    · rw [if_neg hji]
      by_cases hpj : (i - 1) / 2 = (j - 1) / 2
      · rw [if_pos hpj]
        have := h.rest j h1 h2 (Ne.symm hji)
        rw [← hpj] at this
        exact lt2_trans' (lt2_asymm hs) this
      · rw [if_neg hpj]
        by_cases hij : i = (j - 1) / 2
        · rw [if_pos hij]
          exact h.over j h1 h2 hij.symm hi
        · rw [if_neg hij]
          exact h.rest j h1 h2 (Ne.symm hji)
  · intro j h1 h2 hj h0
    rw [swap_length] at h2
    have hj' : (i - 1) / 2 ≠ j := by omega
    rw [g_swap hl hp, g_swap hl hp, if_neg hj', if_neg (show (i - 1) / 2 ≠ ((i - 1) / 2 - 1) / 2 by omega), if_neg (show i ≠ ((i - 1) / 2 - 1) / 2 by omega)]
    have hpar := h.rest ((i - 1) / 2) h0 hp hne
    by_cases hji : i = j
    · rw [if_pos hji]
      exact hpar
    · rw [if_neg hji]
      have := h.rest j h1 h2 (Ne.symm hji)
      rw [hj] at this
      exact lt2_trans' hpar this
structure DownInv (es : List E) (i : Nat) : Prop where
  rest : ∀ j, 0 < j → j < es.length → (j - 1) / 2 ≠ i → lt2 (g es j) (g es ((j - 1) / 2)) = false
  over : ∀ j, 0 < j → j < es.length → (j - 1) / 2 = i → 0 < i → lt2 (g es j) (g es ((i - 1) / 2)) = false
/-- The least of i and those of its children that are ahead of k. -/
structure Least (es : List E) (i l k : Nat) : Prop where
  lt : l < es.length
  who : l = i ∨ l = 2 * i + 1 ∨ l = 2 * i + 2
  self : lt2 (g es i) (g es l) = false
  kids : ∀ j, 2 * i + 1 ≤ j → j < k → j < es.length → lt2 (g es j) (g es l) = false
theorem down_stop {es : List E} {i : Nat} (h : DownInv es i) (hs : ∀ j, 2 * i + 1 ≤ j → j ≤ 2 * i + 2 → j < es.length → lt2 (g es j) (g es i) = false) : IsHeap es := by
  intro j h1 h2
  by_cases hj : (j - 1) / 2 = i
  · rw [hj]; exact hs j (by omega) (by omega) h2
  · exact h.rest j h1 h2 hj
theorem down_step {es : List E} {i l : Nat} (h : DownInv es i) (hi : i < es.length) (hl : l < es.length) (hw : l = 2 * i + 1 ∨ l = 2 * i + 2) (hs : lt2 (g es i) (g es l) = false)
    (hk : ∀ j, 2 * i + 1 ≤ j → j ≤ 2 * i + 2 → j < es.length → lt2 (g es j) (g es l) = false) : DownInv (swap es i l) l := by
  have hne : l ≠ i := by omega
  constructor
  · intro j h1 h2 hj
    rw [swap_length] at h2
    rw [g_swap hi hl, g_swap hi hl, if_neg (show l ≠ (j - 1) / 2 from fun e => hj e.symm)]
    by_cases hpi : i = (j - 1) / 2
    · rw [if_pos hpi]
      by_cases hlj : l = j
      · rw [if_pos hlj]; exact hs
      · rw [if_neg hlj, if_neg (show i ≠ j by omega)]
        exact hk j (by omega) (by omega) h2
    · rw [if_neg hpi, if_neg (show l ≠ j by omega)]
      by_cases hij : i = j
      · subst hij
        rw [if_pos rfl]
        exact h.over l (by omega) hl (by omega) h1
      · rw [if_neg hij]
        exact h.rest j h1 h2 (Ne.symm hpi)
  · intro j h1 h2 hj h0
    rw [swap_length] at h2
    have e : (l - 1) / 2 = i := by omega
    rw [e, g_swap hi hl, g_swap hi hl, if_neg (show l ≠ j by omega), if_neg (show i ≠ j by omega), if_neg hne, if_pos rfl]
    have := h.rest j h1 h2 (by omega)
    rw [hj] at this
    exact this
/-- The first is the least. -/
theorem heap_least {es : List E} (h : IsHeap es) : ∀ j, j < es.length → lt2 (g es j) (g es 0) = false := by
  intro j
  induction j using Nat.strongRecOn with
  | _ j ih =>
    intro hj
    by_cases h0 : j = 0
    · subst h0; exact lt2_self
    · exact lt2_trans' (ih ((j - 1) / 2) (by omega) (by omega)) (h j (by omega) hj)
theorem heap_least_mem {es : List E} (h : IsHeap es) {x : E} (hx : x ∈ es) : lt2 x (g es 0) = false := by
  obtain ⟨j, hj, rfl⟩ := List.getElem_of_mem hx
  have := heap_least h j hj
  have e : es[j] = g es j := by have := g_get hj; rw [List.getElem?_eq_getElem hj] at this; exact Option.some.inj this
  rwa [e]
theorem g_append_left {es : List E} {x : E} {j : Nat} (h : j < es.length) : g (es ++ [x]) j = g es j := by
  unfold g
  rw [List.getD_eq_getElem?_getD, List.getD_eq_getElem?_getD, List.getElem?_append_left h]
/-- One more, at the end. -/
theorem push_inv {es : List E} {x : E} (h : IsHeap es) : UpInv (es ++ [x]) es.length := by
  constructor
  · intro j h1 h2 hj
    simp only [List.length_append, List.length_cons, List.length_nil] at h2
    rw [g_append_left (by omega), g_append_left (by omega)]
    exact h j h1 (by omega)
  · intro j h1 h2 hj h0
    simp only [List.length_append, List.length_cons, List.length_nil] at h2
    omega
/-- The last one comes first, and the rest goes down. -/
theorem pop_inv {es : List E} (h : IsHeap es) (h0 : 0 < es.length) : DownInv ((es.set 0 (g es (es.length - 1))).take (es.length - 1)) 0 := by
  have hg : ∀ j, 0 < j → j < es.length - 1 → g ((es.set 0 (g es (es.length - 1))).take (es.length - 1)) j = g es j := by
    intro j h1 h2
    unfold g
    rw [List.getD_eq_getElem?_getD, List.getD_eq_getElem?_getD, List.getElem?_take, if_pos h2, List.getElem?_set, if_neg (by omega), List.getD_eq_getElem?_getD]
  constructor
  · intro j h1 h2 hj
    have h2 : j < es.length - 1 := by simpa using h2
    rw [hg j h1 h2, hg _ (by omega) (by omega)]
    exact h j h1 (by omega)
  · intro j h1 h2 hj h3
    omega
theorem pop_perm {es : List E} (h0 : 0 < es.length) : (g es 0 :: (es.set 0 (g es (es.length - 1))).take (es.length - 1)).Perm es := by
  match es, h0 with
  | [x], _ => simp [g]
  | x :: y :: es, _ =>
    have e : g (x :: y :: es) ((x :: y :: es).length - 1) = (y :: es).getLast (by simp) := by
      unfold g
      rw [List.getD_eq_getElem?_getD, List.getElem?_eq_getElem (by simp)]
      simp [List.getLast_eq_getElem]
    rw [e]
    have e2 : ((x :: y :: es).set 0 ((y :: es).getLast (by simp))).take ((x :: y :: es).length - 1) = (y :: es).getLast (by simp) :: (y :: es).dropLast := by
      simp [List.dropLast_eq_take]
    rw [e2]
    have e3 : g (x :: y :: es) 0 = x := rfl
    rw [e3]
    refine List.Perm.cons x ?_
    have := List.dropLast_concat_getLast (l := y :: es) (by simp)
    refine (List.perm_append_singleton _ _).symm.trans ?_
    rw [this]
/-- Two rows of the same pairs have the same least one. -/
theorem least_eq {es es' : List E} (h : IsHeap es) (h' : IsHeap es') (hp : es.Perm es') (h0 : 0 < es.length) : g es 0 = g es' 0 := by
  have h0' : 0 < es'.length := by rw [← hp.length_eq]; exact h0
  have m : g es 0 ∈ es := by rw [g, List.getD_eq_getElem?_getD, List.getElem?_eq_getElem h0]; exact List.getElem_mem h0
  have m' : g es' 0 ∈ es' := by rw [g, List.getD_eq_getElem?_getD, List.getElem?_eq_getElem h0']; exact List.getElem_mem h0'
  exact lt2_antisymm (heap_least_mem h' (hp.mem_iff.1 m)) (heap_least_mem h (hp.mem_iff.2 m'))
end Go.Proofs.Yticibkdeiigocaa.S
