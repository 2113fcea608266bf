/- Rows of structs: their fields read and written; a part of the memory opened and closed. -/
import Derived.Test.YtjndgflalbcngaaSxI
set_option linter.unusedVariables false
set_option linter.unusedSimpArgs false
namespace Go.Sx

def flat {α : Type} (f : α → List Value) (es : List α) : List Value := es.flatMap f
section
variable {α : Type} {f : α → List Value} {size : Nat}
theorem flat_length (hf : ∀ x, (f x).length = size) (es : List α) : (flat f es).length = es.length * size := by
  induction es with
  | nil => simp [flat]
  | cons x es ih =>
    have : (flat f (x :: es)).length = (f x).length + (flat f es).length := by simp [flat]
    rw [this, ih, hf, List.length_cons, Nat.succ_mul, Nat.add_comm]
theorem flat_append (es es' : List α) : flat f (es ++ es') = flat f es ++ flat f es' := by simp [flat]
theorem flat_get (hf : ∀ x, (f x).length = size) : ∀ {es : List α} {k j : Nat} {x : α}, es[k]? = some x → j < size → (flat f es)[k * size + j]? = (f x)[j]?
  | [], k, j, x, h, hj => by simp at h
  | y :: es, 0, j, x, h, hj => by
    simp only [List.getElem?_cons_zero, Option.some.injEq] at h
    subst h
    show (f y ++ flat f es)[0 * size + j]? = _
    rw [Nat.zero_mul, Nat.zero_add, List.getElem?_append_left (by rw [hf]; exact hj)]
  | y :: es, k + 1, j, x, h, hj => by
    simp only [List.getElem?_cons_succ] at h
    show (f y ++ flat f es)[(k + 1) * size + j]? = _
    have e : (k + 1) * size + j = size + (k * size + j) := by rw [Nat.succ_mul]; omega
    rw [e, List.getElem?_append_right (by rw [hf]; omega), hf, Nat.add_sub_cancel_left, flat_get hf h hj]
theorem flat_set (hf : ∀ x, (f x).length = size) : ∀ {es : List α} {k j : Nat} {x x' : α} {v : Value}, es[k]? = some x → j < size → f x' = (f x).set j v → (flat f es).set (k * size + j) v = flat f (es.set k x')
  | [], k, j, x, x', v, h, hj, hx => by simp at h
  | y :: es, 0, j, x, x', v, h, hj, hx => by
    simp only [List.getElem?_cons_zero, Option.some.injEq] at h
    subst h
    show (f y ++ flat f es).set (0 * size + j) v = f x' ++ flat f es
    rw [Nat.zero_mul, Nat.zero_add, List.set_append_left _ _ (by rw [hf]; exact hj), hx]
  | y :: es, k + 1, j, x, x', v, h, hj, hx => by
    simp only [List.getElem?_cons_succ] at h
    show (f y ++ flat f es).set ((k + 1) * size + j) v = f y ++ flat f (es.set k x')
    have e : (k + 1) * size + j = size + (k * size + j) := by rw [Nat.succ_mul]; omega
    rw [e, List.set_append_right _ _ (by rw [hf]; omega), hf, Nat.add_sub_cancel_left, flat_set hf h hj hx]
theorem flat_take (hf : ∀ x, (f x).length = size) : ∀ (es : List α) (m : Nat), (flat f es).take (m * size) = flat f (es.take m)
  | [], m => by simp [flat]
  | x :: es, 0 => by simp [flat]
  | x :: es, m + 1 => by
    show (f x ++ flat f es).take ((m + 1) * size) = f x ++ flat f (es.take m)
    have e : (m + 1) * size = (f x).length + m * size := by rw [Nat.succ_mul, hf]; omega
    rw [e, List.take_length_add_append, flat_take hf]
theorem flat_drop (hf : ∀ x, (f x).length = size) : ∀ (es : List α) (m : Nat), (flat f es).drop (m * size) = flat f (es.drop m)
  | [], m => by simp [flat]
  | x :: es, 0 => by simp [flat]
  | x :: es, m + 1 => by
    show (f x ++ flat f es).drop ((m + 1) * size) = flat f (es.drop m)
    have e : (m + 1) * size = (f x).length + m * size := by rw [Nat.succ_mul, hf]; omega
    rw [e, List.drop_length_add_append, flat_drop hf]
end
section
variable {F : Nat → Prop} {W w w' : World} {L : List As} {i j k n c size g o : Nat} {e : TypeId} {α : Type} {f : α → List Value} {es : List α} {x x' : α} {ad : Addr}
theorem el_addr (b o i size j : Nat) : ((⟨b, o, none⟩ : Addr).add (i * size)).add j = ⟨b, o + (i * size + j), none⟩ := by
  rw [add_flat, add_flat, Nat.add_assoc]
theorem el_addr0 (b o i size : Nat) : (⟨b, o, none⟩ : Addr).add (i * size) = ⟨b, o + (i * size + 0), none⟩ := by
  rw [add_flat, Nat.add_zero]
theorem Sep.LdI_el {kd : IntKind} {m : Int} {K : Int → Prop} (hf : ∀ x, (f x).length = size) (s : Sep F W w L) (hi : L[i]? = some (rowA (some ⟨g, o, none⟩) n c e size (flat f es))) (hx : es[k]? = some x) (ha : ad = ⟨g, o + (k * size + j), none⟩) (hj : (f x)[j]? = some (.int kd m)) (h : K m) :
    Sx.LdI kd ad w K := Sep.LdI_row s hi ha (by rw [flat_get hf hx (by have := (List.getElem?_eq_some_iff.1 hj).1; rwa [hf] at this)]; exact hj) h
theorem Sep.LdS_el {b : Option Addr} {m q : Nat} {K : Option Addr → Nat → Nat → Prop} (hf : ∀ x, (f x).length = size) (s : Sep F W w L) (hi : L[i]? = some (rowA (some ⟨g, o, none⟩) n c e size (flat f es))) (hx : es[k]? = some x) (ha : ad = ⟨g, o + (k * size + j), none⟩) (hj : (f x)[j]? = some (.slice b m q)) (h : K b m q) :
    Sx.LdS ad w K := Sep.LdS_row s hi ha (by rw [flat_get hf hx (by have := (List.getElem?_eq_some_iff.1 hj).1; rwa [hf] at this)]; exact hj) h
theorem Sep.LdB_el {m : Bool} {K : Bool → Prop} (hf : ∀ x, (f x).length = size) (s : Sep F W w L) (hi : L[i]? = some (rowA (some ⟨g, o, none⟩) n c e size (flat f es))) (hx : es[k]? = some x) (ha : ad = ⟨g, o + (k * size + j), none⟩) (hj : (f x)[j]? = some (.bool m)) (h : K m) :
    Sx.LdB ad w K := Sep.LdB_row s hi ha (by rw [flat_get hf hx (by have := (List.getElem?_eq_some_iff.1 hj).1; rwa [hf] at this)]; exact hj) h
theorem Sep.St_el {v : Value} {K : World → Prop} (hf : ∀ x, (f x).length = size) (s : Sep F W w L) (hi : L[i]? = some (rowA (some ⟨g, o, none⟩) n c e size (flat f es))) (hx : es[k]? = some x) (ha : ad = ⟨g, o + (k * size + j), none⟩) (hj : j < size) (hx' : f x' = (f x).set j v) (hv : v.oneCell' = true)
    (h : ∀ w', Sep F W w' (L.set i (rowA (some ⟨g, o, none⟩) n c e size (flat f (es.set k x')))) → K w') : Sx.St ad v w K := by
  refine Sep.St_row s hi ha ?_ hv fun w' s => h w' (by rwa [flat_set hf hx hj hx'] at s)
  have h1 := rowA_length s hi
  rw [← h1, flat_length hf]
  have h2 := (List.getElem?_eq_some_iff.1 hx).1
  have h3 : (k + 1) * size ≤ es.length * size := Nat.mul_le_mul_right _ h2
  rw [Nat.succ_mul] at h3
  omega
/-- A part that was opened is closed again. -/
theorem Sep.close {A A' : As} {Ps : List As} (s : Sep F W w L) (hi : L[i]? = some A) (s' : Sep A.fp w w' Ps) (ho : A'.ok w'.heap) (hf : ∀ b, A'.fp b → ∃ B ∈ Ps, B.fp b) : Sep F W w' (L.set i A') :=
  Sep.upd s hi (SepM.fr s') ho fun b hb => by
    obtain ⟨B, hB, h⟩ := hf b hb
    exact (SepM.ok s' B hB).2 b h
theorem Sep.two {A : As} {B C : As} (h1 : B.ok w.heap) (h2 : C.ok w.heap) (h3 : ∀ b, B.fp b → A.fp b) (h4 : ∀ b, C.fp b → A.fp b) (h5 : ∀ b, B.fp b → ¬ C.fp b) : Sep A.fp w w [B, C] := by
  refine ⟨Fr.refl, fun D hD => ?_, by simp; exact h5⟩
  rcases List.mem_cons.1 hD with rfl | hD
  · exact ⟨h1, fun b hb => .inl (h3 b hb)⟩
  · rcases List.mem_cons.1 hD with rfl | hD
    · exact ⟨h2, fun b hb => .inl (h4 b hb)⟩
    · cases hD
theorem Sep.disj {A B : As} (s : Sep F W w L) (hi : L[i]? = some A) (hj : L[j]? = some B) (hn : i ≠ j) : ∀ b, A.fp b → ¬ B.fp b :=
  apart_at (fun a b h x hx hy => h x hy hx) (SepM.apart s) hi hj hn
theorem set_get_self {β : Type} {l : List β} {i : Nat} {x : β} (h : l[i]? = some x) : l.set i x = l := by
  obtain ⟨hl, rfl⟩ := List.getElem?_eq_some_iff.1 h
  exact List.set_getElem_self hl
theorem set_set_same {β : Type} (l : List β) (i : Nat) (a b : β) : (l.set i a).set i b = l.set i b := by simp
theorem wA_some {p : Addr} {K : Addr → Prop} (h : K p) : wA (some p) K := h
end
end Go.Sx
