/- Rings as lists of pairs: what waits, in the order in which it went in. No program in sight. -/
import Derived.Test.YtfmhpmpfkmhgpaaSxK
set_option linter.unusedVariables false
set_option linter.unusedSimpArgs false
namespace Go.Proofs.Ytfmhpmpfkmhgpaa.S
abbrev E := Int × Int
/-- What waits in the bucket j. -/
def inB (j : Nat) (e : E) : Bool := decide (e.1 % 256 = (j : Int))
def pend (l : List E) (j : Nat) : List Int := (l.filter (inB j)).map (·.2)
def Fit (a : Int) (l : List E) : Prop := ∀ e ∈ l, a ≤ e.1 ∧ e.1 < a + 256
theorem pend_nil (j : Nat) : pend [] j = [] := rfl
theorem pend_push (l : List E) (e : E) (j : Nat) : pend (l ++ [e]) j = if e.1 % 256 = (j : Int) then pend l j ++ [e.2] else pend l j := by
  unfold pend
  rw [List.filter_append, List.map_append]
  by_cases h : e.1 % 256 = (j : Int)
  · rw [if_pos h]
    simp [inB, h]
  · rw [if_neg h]
    simp [inB, h]
theorem fit_push {a : Int} {l : List E} {e : E} (h : Fit a l) (h1 : a ≤ e.1) (h2 : e.1 < a + 256) : Fit a (l ++ [e]) := by
  intro x hx
  rcases List.mem_append.1 hx with hx | hx
  · exact h x hx
  · rw [List.mem_singleton.1 hx]; exact ⟨h1, h2⟩
/-- The first of those with the key k. -/
theorem first_key {k : Int} : ∀ {l : List E}, (∃ e ∈ l, e.1 = k) → ∃ l1 x l2, l = l1 ++ (k, x) :: l2 ∧ ∀ e ∈ l1, e.1 ≠ k
  | [], h => by obtain ⟨e, he, _⟩ := h; cases he
  | y :: l, h => by
    by_cases hy : y.1 = k
    · exact ⟨[], y.2, l, by subst hy; rfl, by simp⟩
    · obtain ⟨l1, x, l2, h1, h2⟩ := first_key (k := k) (l := l) (by
        obtain ⟨e, he, hk⟩ := h
        rcases List.mem_cons.1 he with rfl | he
        · exact absurd hk hy
        · exact ⟨e, he, hk⟩)
      refine ⟨y :: l1, x, l2, by rw [h1]; rfl, fun e he => ?_⟩
      rcases List.mem_cons.1 he with rfl | he
      · exact hy
      · exact h2 e he
theorem fit_key {a k : Int} {l : List E} {j : Nat} (h : Fit a l) (hk : a ≤ k ∧ k < a + 256) (hj : k % 256 = (j : Int)) {e : E} (he : e ∈ l) : inB j e = true ↔ e.1 = k := by
  have := h e he
  unfold inB
  rw [decide_eq_true_eq]
  constructor
  · intro h; omega
  · intro h; omega
/-- None waits below k, and somebody with k: he who came first goes out. -/
theorem pop_split {a k : Int} {l : List E} {j : Nat} (h : Fit a l) (hk : a ≤ k ∧ k < a + 256) (hj : k % 256 = (j : Int)) (hlow : ∀ e ∈ l, k ≤ e.1) (hne : pend l j ≠ []) :
    ∃ l1 x l2, l = l1 ++ (k, x) :: l2 ∧ (∀ e ∈ l1, k < e.1) ∧ (∀ e ∈ l2, k ≤ e.1) ∧ pend l j = x :: pend (l1 ++ l2) j ∧ (∀ j', j' ≠ j → pend (l1 ++ l2) j' = pend l j') ∧ Fit k (l1 ++ l2) := by
  have hex : ∃ e ∈ l, e.1 = k := by
    unfold pend at hne
    cases hf : l.filter (inB j) with
    | nil => rw [hf] at hne; simp at hne
    | cons e r =>
      have : e ∈ l.filter (inB j) := by rw [hf]; simp
      obtain ⟨h1, h2⟩ := List.mem_filter.1 this
      exact ⟨e, h1, (fit_key h hk hj h1).1 h2⟩
  obtain ⟨l1, x, l2, rfl, hl1⟩ := first_key hex
  refine ⟨l1, x, l2, rfl, fun e he => ?_, fun e he => hlow e (by simp [he]), ?_, fun j' hj' => ?_, fun e he => ?_⟩
  · have := hlow e (by simp [he])
    have := hl1 e he
    omega
  · unfold pend
    have h1 : l1.filter (inB j) = [] := by
      rw [List.filter_eq_nil_iff]
      intro e he hb
      exact hl1 e he ((fit_key h hk hj (by simp [he])).1 hb)
    rw [List.filter_append, List.filter_append, h1, List.filter_cons_of_pos (by unfold inB; rw [decide_eq_true_eq]; exact hj)]
    rfl
  · unfold pend
    rw [List.filter_append, List.filter_append, List.filter_cons_of_neg (by unfold inB; rw [decide_eq_true_eq]; omega)]
  · have h1 : e ∈ l1 ++ (k, x) :: l2 := by
      rcases List.mem_append.1 he with he | he <;> simp [he]
    have := h e h1
    have := hlow e h1
    omega
/-- From a on there is a first bucket in which somebody waits. -/
theorem exists_next {a : Int} {l : List E} (h : Fit a l) (hne : l ≠ []) : ∃ d : Nat, d < 256 ∧ (∀ e ∈ l, a + d ≤ e.1) ∧ ∃ e ∈ l, e.1 = a + d := by
  have key : ∀ n : Nat, (∃ e ∈ l, e.1 < a + n) → ∃ d : Nat, d < n ∧ (∀ e ∈ l, a + d ≤ e.1) ∧ ∃ e ∈ l, e.1 = a + d := by
    intro n
    induction n with
    | zero =>
      rintro ⟨e, he, hlt⟩
      have := h e he
      omega
    | succ n ih =>
      rintro ⟨e, he, hlt⟩
      by_cases hn : ∃ e ∈ l, e.1 < a + n
      · obtain ⟨d, h1, h2⟩ := ih hn
        exact ⟨d, by omega, h2⟩
      · refine ⟨n, by omega, fun e' he' => ?_, e, he, ?_⟩
        · have : ¬ e'.1 < a + n := fun h => hn ⟨e', he', h⟩
          omega
        · have : ¬ e.1 < a + n := fun h => hn ⟨e, he, h⟩
          omega
  obtain ⟨e, he⟩ := List.exists_mem_of_ne_nil l hne
  exact key 256 ⟨e, he, (h e he).2⟩
theorem pend_empty {a k : Int} {l : List E} {j : Nat} (h : Fit a l) (hk : a ≤ k ∧ k < a + 256) (hj : k % 256 = (j : Int)) : pend l j = [] ↔ ∀ e ∈ l, e.1 ≠ k := by
  unfold pend
  rw [List.map_eq_nil_iff, List.filter_eq_nil_iff]
  constructor
  · intro h1 e he hk'
    exact h1 e he ((fit_key h hk hj he).2 hk')
  · intro h1 e he hb
    exact h1 e he ((fit_key h hk hj he).1 hb)
end Go.Proofs.Ytfmhpmpfkmhgpaa.S
