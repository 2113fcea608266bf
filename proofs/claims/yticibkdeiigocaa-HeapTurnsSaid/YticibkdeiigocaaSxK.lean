/- Slices that were handed in: their elements, as long as nothing old is written. -/
import Derived.Test.YticibkdeiigocaaSxJ
set_option linter.unusedVariables false
set_option linter.unusedSimpArgs false
namespace Go.Sx

theorem list_choice {α : Type} {G : Nat → α → Prop} : ∀ (n : Nat), (∀ i, i < n → ∃ x, G i x) → ∃ xs : List α, xs.length = n ∧ ∀ i x, xs[i]? = some x → G i x
  | 0, _ => ⟨[], rfl, fun i x h => by simp at h⟩
  | n + 1, h => by
    obtain ⟨xs, h1, h2⟩ := list_choice n fun i hi => h i (by omega)
    obtain ⟨y, hy⟩ := h n (by omega)
    refine ⟨xs ++ [y], by simp [h1], fun i x hx => ?_⟩
    rcases Nat.lt_or_ge i n with hi | hi
    · rw [List.getElem?_append_left (by omega)] at hx
      exact h2 i x hx
    · rw [List.getElem?_append_right (by omega), h1] at hx
      obtain rfl : i = n := by
        have := (List.getElem?_eq_some_iff.1 hx).1
        simp at this
        omega
      simp at hx
      subst hx
      exact hy
/-- A slice that was handed in. -/
def ArgRow {α : Type} (W : World) (a : Option Addr) (n size : Nat) (f : α → List Value) (xs : List α) : Prop :=
  xs.length = n ∧ ∀ i x, xs[i]? = some x → ∃ ad, a = some ad ∧ ∀ j v, (f x)[j]? = some v → W.cell? (ad.add (i * size + j)) = some v
theorem rdV_row {α : Type} {W : World} {size : Nat} {e : Sh} {v : Value} {f : α → List Value} {Pr : α → Prop} (he : ∀ es : List Value, es.length = size → Rd W e es → ∃ x, es = f x ∧ Pr x) (h : RdV W (.sl size e) v) :
    ∃ a n c xs, v = .slice a n c ∧ n ≤ c ∧ c ≤ maxLen ∧ (a = none → c = 0) ∧ ArgRow W a n size f xs ∧ ∀ x ∈ xs, Pr x := by
  rcases rdV_sl h with rfl | ⟨a, n, c, rfl, h1, h2, _, h4⟩
  · exact ⟨none, 0, 0, [], rfl, Nat.le_refl _, by decide, fun _ => rfl, ⟨rfl, fun i x hx => (by simp at hx)⟩, by simp⟩
  · obtain ⟨xs, k1, k2⟩ := list_choice (G := fun i x => (∀ j v, (f x)[j]? = some v → W.cell? (a.add (i * size + j)) = some v) ∧ Pr x) n fun i hi => by
      obtain ⟨es, q1, q2, q3⟩ := h4 i (by omega)
      obtain ⟨x, rfl, hp⟩ := he es q1 q3
      exact ⟨x, q2, hp⟩
    refine ⟨some a, n, c, xs, rfl, h1, h2, fun e => (by cases e), ⟨k1, fun i x hx => ⟨a, rfl, (k2 i x hx).1⟩⟩, fun x hx => ?_⟩
    obtain ⟨i, hi, rfl⟩ := List.getElem_of_mem hx
    exact (k2 i _ (List.getElem?_eq_getElem hi)).2
theorem rdV_ints {W : World} {k : IntKind} {v : Value} (h : RdV W (.sl 1 (.int k)) v) :
    ∃ a n c xs, v = .slice a n c ∧ n ≤ c ∧ c ≤ maxLen ∧ (a = none → c = 0) ∧ ArgRow W a n 1 (fun x : Int => [.int k x]) xs ∧ ∀ x ∈ xs, (Lit.int k x).wf = true :=
  rdV_row (fun es h1 h2 => by
    match es, h1 with
    | [v], _ =>
      obtain ⟨n, rfl, hn⟩ := rd_int (w := W) h2
      exact ⟨n, rfl, hn⟩) h
section
variable {α : Type} {W w : World} {L : List As} {a : Option Addr} {n size : Nat} {f : α → List Value} {xs : List α}
theorem ArgRow.take (h : ArgRow W a n size f xs) {m : Nat} (hm : m ≤ n) : ArgRow W a m size f (xs.take m) :=
  ⟨by rw [List.length_take, h.1]; omega, fun i x hx => h.2 i x (by
    rw [List.getElem?_take] at hx
    split at hx
    · exact hx
    · cases hx)⟩
theorem ArgRow.src {e : TypeId} (h : ArgRow W a n size f xs) (s : Sep No W w L) (hf : ∀ x, (f x).length = size) (h1 : ∀ x u, u ∈ f x → u.oneCell' = true) : Src w a n size (flat f xs) := by
  refine ⟨by rw [flat_length hf, h.1], fun u hu => ?_, ?_⟩
  · obtain ⟨x, _, hx⟩ := List.mem_flatMap.1 hu
    exact h1 x u hx
  · cases a with
    | none =>
      show n = 0
      rw [← h.1]
      cases xs with
      | nil => rfl
      | cons x xs => obtain ⟨ad, e, _⟩ := h.2 0 x rfl; cases e
    | some ad =>
      intro j u hj
      have hjl := (List.getElem?_eq_some_iff.1 hj).1
      rw [flat_length hf] at hjl
      have hs : 0 < size := by
        rcases Nat.eq_zero_or_pos size with h0 | h0
        · subst h0; omega
        · exact h0
      have hd : j / size < xs.length := Nat.div_lt_of_lt_mul (by rwa [Nat.mul_comm])
      have hx := List.getElem?_eq_getElem hd
      obtain ⟨ad', e, hc⟩ := h.2 _ _ hx
      cases e
      have hje : j / size * size + j % size = j := by rw [Nat.mul_comm]; exact Nat.div_add_mod j size
      rw [← hje, flat_get hf hx (Nat.mod_lt _ hs)] at hj
      have := hc _ _ hj
      rw [hje] at this
      exact Fr.cell (SepM.fr s) this id
theorem Sep.argc {ad : Addr} {v : Value} (s : Sep No W w L) (h : W.cell? ad = some v) : w.cell? ad = some v := Fr.cell (SepM.fr s) h id
theorem Sep.LdI_arg {k : IntKind} {m : Int} {ad : Addr} {K : Int → Prop} (s : Sep No W w L) (h : W.cell? ad = some (.int k m)) (hk : K m) : Sx.LdI k ad w K := ⟨m, Sep.argc s h, hk⟩
theorem Sep.LdS_arg {b : Option Addr} {m q : Nat} {ad : Addr} {K : Option Addr → Nat → Nat → Prop} (s : Sep No W w L) (h : W.cell? ad = some (.slice b m q)) (hk : K b m q) : Sx.LdS ad w K := ⟨b, m, q, Sep.argc s h, hk⟩
end
end Go.Sx
