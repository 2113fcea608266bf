/- Slices that were handed in: their elements, as long as nothing old is written. -/
import Derived.Test.YtjndgflalbcngaaSxJ
import Derived.Laws.MakeOwn
set_option linter.unusedVariables false
set_option linter.unusedSimpArgs false
namespace Go.Sx

theorem list_choice {α : Type} {G : Nat → α → Prop} : ∀ (n : Nat), (∀ i, i < n → ∃ x, G i x) → ∃ xs : List α, xs.length = n ∧ ∀ i x, xs[i]? = some x → G i x
  | 0, _ => ⟨[], rfl, fun i x h => by simp at h⟩
  | n + 1, h => by
    obtain ⟨xs, h1, h2⟩ := list_choice n fun i hi => h i (by omega)
    obtain ⟨y, hy⟩ := h n (by omega)
    refine ⟨xs ++ [y], by simp [h1], fun i x hx => ?_⟩
    rcases Nat.lt_or_ge i n with hi | hi
    · rw [List.getElem?_append_left (by omega)] at hx
      exact h2 i x hx
    · rw [List.getElem?_append_right (by omega), h1] at hx
      obtain rfl : i = n := by
        have := (List.getElem?_eq_some_iff.1 hx).1
        simp at this
        omega
      simp at hx
      subst hx
      exact hy
/-- A slice that was handed in. -/
def ArgRow {α : Type} (W : World) (a : Option Addr) (n size : Nat) (f : α → List Value) (xs : List α) : Prop :=
  xs.length = n ∧ ∀ i x, xs[i]? = some x → ∃ ad, a = some ad ∧ ∀ j v, (f x)[j]? = some v → W.cell? (ad.add (i * size + j)) = some v
theorem rdV_row {α : Type} {W : World} {size : Nat} {e : Sh} {v : Value} {f : α → List Value} {Pr : α → Prop} (he : ∀ es : List Value, es.length = size → Rd W e es → ∃ x, es = f x ∧ Pr x) (h : RdV W (.sl size e) v) :
    ∃ a n c xs, v = .slice a n c ∧ n ≤ c ∧ c ≤ maxLen ∧ (a = none → c = 0) ∧ ArgRow W a n size f xs ∧ ∀ x ∈ xs, Pr x := by
  rcases rdV_sl h with rfl | ⟨a, n, c, rfl, h1, h2, _, h4⟩
  · exact ⟨none, 0, 0, [], rfl, Nat.le_refl _, by decide, fun _ => rfl, ⟨rfl, fun i x hx => (by simp at hx)⟩, by simp⟩
  · obtain ⟨xs, k1, k2⟩ := list_choice (G := fun i x => (∀ j v, (f x)[j]? = some v → W.cell? (a.add (i * size + j)) = some v) ∧ Pr x) n fun i hi => by
      obtain ⟨es, q1, q2, q3⟩ := h4 i (by omega)
      obtain ⟨x, rfl, hp⟩ := he es q1 q3
      exact ⟨x, q2, hp⟩
    refine ⟨some a, n, c, xs, rfl, h1, h2, fun e => (by cases e), ⟨k1, fun i x hx => ⟨a, rfl, (k2 i x hx).1⟩⟩, fun x hx => ?_⟩
    obtain ⟨i, hi, rfl⟩ := List.getElem_of_mem hx
    exact (k2 i _ (List.getElem?_eq_getElem hi)).2
theorem rdV_ints {W : World} {k : IntKind} {v : Value} (h : RdV W (.sl 1 (.int k)) v) :
    ∃ a n c xs, v = .slice a n c ∧ n ≤ c ∧ c ≤ maxLen ∧ (a = none → c = 0) ∧ ArgRow W a n 1 (fun x : Int => [.int k x]) xs ∧ ∀ x ∈ xs, (Lit.int k x).wf = true :=
  rdV_row (fun es h1 h2 => by
    match es, h1 with
    | [v], _ =>
      obtain ⟨n, rfl, hn⟩ := rd_int (w := W) h2
      exact ⟨n, rfl, hn⟩) h
section
variable {α : Type} {W w : World} {L : List As} {a : Option Addr} {n size : Nat} {f : α → List Value} {xs : List α}
theorem ArgRow.take (h : ArgRow W a n size f xs) {m : Nat} (hm : m ≤ n) : ArgRow W a m size f (xs.take m) :=
  ⟨by rw [List.length_take, h.1]; omega, fun i x hx => h.2 i x (by
    rw [List.getElem?_take] at hx
    split at hx
    · exact hx
    · cases hx)⟩
theorem ArgRow.src {e : TypeId} (h : ArgRow W a n size f xs) (s : Sep No W w L) (hf : ∀ x, (f x).length = size) (h1 : ∀ x u, u ∈ f x → u.oneCell' = true) : Src w a n size (flat f xs) := by
  refine ⟨by rw [flat_length hf, h.1], fun u hu => ?_, ?_⟩
  · obtain ⟨x, _, hx⟩ := List.mem_flatMap.1 hu
    exact h1 x u hx
  · cases a with
    | none =>
      show n = 0
      rw [← h.1]
      cases xs with
      | nil => rfl
      | cons x xs => obtain ⟨ad, e, _⟩ := h.2 0 x rfl; cases e
    | some ad =>
      intro j u hj
      have hjl := (List.getElem?_eq_some_iff.1 hj).1
      rw [flat_length hf] at hjl
      have hs : 0 < size := by
        rcases Nat.eq_zero_or_pos size with h0 | h0
        · subst h0; omega
        · exact h0
      have hd : j / size < xs.length := Nat.div_lt_of_lt_mul (by rwa [Nat.mul_comm])
      have hx := List.getElem?_eq_getElem hd
      obtain ⟨ad', e, hc⟩ := h.2 _ _ hx
      cases e
      have hje : j / size * size + j % size = j := by rw [Nat.mul_comm]; exact Nat.div_add_mod j size
      rw [← hje, flat_get hf hx (Nat.mod_lt _ hs)] at hj
      have := hc _ _ hj
      rw [hje] at this
      exact Fr.cell (SepM.fr s) this id
theorem Sep.argc {ad : Addr} {v : Value} (s : Sep No W w L) (h : W.cell? ad = some v) : w.cell? ad = some v := Fr.cell (SepM.fr s) h id
theorem Sep.LdI_arg {k : IntKind} {m : Int} {ad : Addr} {K : Int → Prop} (s : Sep No W w L) (h : W.cell? ad = some (.int k m)) (hk : K m) : Sx.LdI k ad w K := ⟨m, Sep.argc s h, hk⟩
theorem Sep.LdS_arg {b : Option Addr} {m q : Nat} {ad : Addr} {K : Option Addr → Nat → Nat → Prop} (s : Sep No W w L) (h : W.cell? ad = some (.slice b m q)) (hk : K b m q) : Sx.LdS ad w K := ⟨b, m, q, Sep.argc s h, hk⟩
end
theorem made_take {α : Type} {f : α → List Value} {x0 : α} {z : Array Value} {l c : Nat} (hf : ∀ x, (f x).length = z.size) (hx : f x0 = z.toList) (hz : 0 < z.size) (hlc : l ≤ c) : (madeCells z (c * z.size)).toList.take (l * z.size) = flat f (List.replicate l x0) := by
  apply List.ext_getElem?
  intro i
  have hm : l * z.size ≤ c * z.size := Nat.mul_le_mul_right _ hlc
  rw [List.getElem?_take]
  split
  · rename_i hi
    have hd : i / z.size < l := Nat.div_lt_of_lt_mul (by rwa [Nat.mul_comm])
    have hje : i / z.size * z.size + i % z.size = i := by rw [Nat.mul_comm]; exact Nat.div_add_mod i z.size
    have hr : (List.replicate l x0)[i / z.size]? = some x0 := by rw [List.getElem?_replicate, if_pos hd]
    have := flat_get hf hr (Nat.mod_lt i hz)
    rw [hje] at this
    rw [this, hx]
    have hmod := Nat.mod_lt i hz
    simp only [madeCells, Array.toList_map, Array.toList_range, List.getElem?_map]
    rw [List.getElem?_range (by omega)]
    simp [hmod]
  · rename_i hi
    rw [List.getElem?_eq_none]
    rw [flat_length hf, List.length_replicate]
    omega
theorem Sep.MkS {α : Type} {f : α → List Value} {x0 : α} {P : Program} {T : Tab} {F : Nat → Prop} {W w : World} {L : List As} {t e : TypeId} {ti ei : TI} {size bytes ln cn : Nat} {l c : Int} {K : Option Addr → Nat → Nat → World → Prop} (hT : OkTab P T) (s : Sep F W w L)
    (ht : T t = some ti) (hd : ti.d = .slice e) (he : T e = some ei) (hs : ei.size = size) (hb : ei.bytes = bytes) (hz : ei.zero.length = size) (hsz : 0 < size) (hf : ∀ x, (f x).length = size) (hx : f x0 = ei.zero) (h1 : ∀ u ∈ f x0, u.oneCell' = true)
    (hl : l = ln) (hc : c = cn) (hlc : ln ≤ cn) (hbytes : bytes * cn ≤ 281474976710656) (h63 : cn ≤ maxLen) (h : ∀ b w', Sep F W w' (rowA (some ⟨b, 0, none⟩) ln cn e size (flat f (List.replicate ln x0)) :: L) → K (some ⟨b, 0, none⟩) ln cn w') :
    Sx.MkS P t (.int .i64 l) (.int .i64 c) w K := by
  subst hl
  subst hc
  obtain ⟨inf, u, z, k1, k2, k3, k4, k5, k6, k7⟩ := ok_info hT ht
  obtain ⟨inf', u', z', q1, q2, q3, q4, q5, q6, q7⟩ := ok_info hT he
  have hu : u = .slice e := by
    rw [hd] at k3
    cases u <;> simp [mkTD] at k3
    rw [k3]
  subst hu
  have hzs : z'.cells.size = size := by rw [← Array.length_toList, q7, hz]
  subst hzs
  obtain rfl : inf'.bytes = bytes := q5.trans hb
  have h63' : cn ≤ 9223372036854775807 := by simp only [maxLen] at h63; omega
  have hb' : (inf'.bytes : Int) * (cn : Int) ≤ 281474976710656 := by
    have : ((inf'.bytes * cn : Nat) : Int) ≤ 281474976710656 := by omega
    rwa [Int.natCast_mul] at this
  have hr := run_make (P := P) w t e inf' z' k2 q1 q6 .i64 .i64 (ln : Int) (cn : Int) (by omega) (by omega) hb' (by omega)
  rw [q4.trans hs] at hr
  unfold Sx.MkS RunK
  rw [hr]
  refine h w.heap.size _ (Sep.new s (Fr.alloc Fr.refl _) ?_ fun b hb => ?_)
  · refine ⟨⟨by rw [flat_length hf, List.length_replicate], hlc, h63, fun u hu => ?_⟩, .inr ⟨w.heap.size, 0, _, rfl, heap_alloc_new w _, ?_, ?_⟩⟩
    · obtain ⟨x, hx1, hx2⟩ := List.mem_flatMap.1 hu
      rw [List.eq_of_mem_replicate hx1] at hx2
      exact h1 u hx2
    · rw [size_madeCells]
      show 0 + cn * _ ≤ ((cn : Int).toNat) * _
      simp
    · rw [List.drop_zero]
      exact made_take hf (hx.trans q7.symm) hsz hlc
  · obtain ⟨x, hx1, rfl⟩ := hb
    cases hx1
    exact Nat.le_refl _
theorem Src.take {w : World} {a : Option Addr} {n size m : Nat} {xs : List Value} (h : Src w a n size xs) (hm : m ≤ n) : Src w a m size (xs.take (m * size)) := by
  obtain ⟨h1, h2, h3⟩ := h
  refine ⟨by rw [List.length_take, h1]; exact Nat.min_eq_left (Nat.mul_le_mul_right _ hm), fun u hu => h2 u (List.mem_of_mem_take hu), ?_⟩
  cases a with
  | none => have h3 : n = 0 := h3; show m = 0; omega
  | some ad =>
    intro j u hj
    rw [List.getElem?_take] at hj
    split at hj
    · exact h3 j u hj
    · cases hj
theorem Src.drop {w : World} {a : Option Addr} {n size m c : Nat} {xs : List Value} (h : Src w a n size xs) (hm : m ≤ n) (hc : n ≤ c) : Src w (if c = m then a else a.map (·.add (m * size))) (n - m) size (xs.drop (m * size)) := by
  obtain ⟨h1, h2, h3⟩ := h
  have hl : (xs.drop (m * size)).length = (n - m) * size := by rw [List.length_drop, h1, Nat.sub_mul]
  refine ⟨hl, fun u hu => h2 u (List.mem_of_mem_drop hu), ?_⟩
  by_cases hcm : c = m
  · rw [if_pos hcm]
    have hn : n - m = 0 := by omega
    cases a with
    | none => exact hn
    | some ad =>
      intro j u hj
      rw [hn, Nat.zero_mul] at hl
      rw [List.eq_nil_of_length_eq_zero hl] at hj
      simp at hj
  · rw [if_neg hcm]
    cases a with
    | none => have h3 : n = 0 := h3; show n - m = 0; omega
    | some ad =>
      intro j u hj
      rw [List.getElem?_drop] at hj
      have := h3 _ _ hj
      rw [← add_add] at this
      exact this
/-- What is not needed any more may be left out. -/
theorem Sep.sub {F : Nat → Prop} {W w : World} {L L' : List As} (s : Sep F W w L) (h : L'.Sublist L) : Sep F W w L' :=
  ⟨SepM.fr s, fun A hA => SepM.ok s A (h.subset hA), (SepM.apart s).sublist h⟩
theorem rowA_none {F : Nat → Prop} {W w : World} {L : List As} {i n c size : Nat} {a : Option Addr} {e : TypeId} {xs : List Value} (s : Sep F W w L) (hi : L[i]? = some (rowA a n c e size xs)) (ha : a = none) : c = 0 := by
  subst ha
  rcases (Sep.get s hi).2 with ⟨_, h⟩ | ⟨_, _, _, h, _⟩
  · exact h
  · cases h
/-- Several parts as one, with what is known of them besides. -/
def joinA (φ : Prop) (Ps : List As) : As where
  fp := fun k => ∃ A ∈ Ps, A.fp k
  ok := fun h => (φ ∧ Ps.Pairwise fun (A B : As) => ∀ b : Nat, A.fp b → ¬ B.fp b) ∧ ∀ A ∈ Ps, A.ok h
  lt := fun h hb k hk => by
    obtain ⟨A, hA, hk⟩ := hk
    exact A.lt h (hb.2 A hA) k hk
  fr := fun h h' hb he => ⟨hb.1, fun A hA => A.fr h h' (hb.2 A hA) fun b hb => he b ⟨A, hA, hb⟩⟩
section
variable {F : Nat → Prop} {W w w' : World} {L Ps Ps' : List As} {i : Nat} {φ ψ : Prop}
theorem join_pure (s : Sep F W w L) (hi : L[i]? = some (joinA φ Ps)) : φ := (Sep.get s hi).1.1
theorem join_open (s : Sep F W w L) (hi : L[i]? = some (joinA φ Ps)) : Sep (joinA φ Ps).fp w w Ps := by
  have h := Sep.get s hi
  exact ⟨Fr.refl, fun A hA => ⟨h.2 A hA, fun b hb => .inl ⟨A, hA, hb⟩⟩, h.1.2⟩
theorem join_close (s : Sep F W w L) (hi : L[i]? = some (joinA φ Ps)) (s' : Sep (joinA φ Ps).fp w w' Ps') (hψ : ψ) : Sep F W w' (L.set i (joinA ψ Ps')) :=
  Sep.close s hi s' ⟨⟨hψ, SepM.apart s'⟩, fun A hA => (SepM.ok s' A hA).1⟩ fun b hb => hb
/-- What was known at the same place is known still, and the rest as it was. -/
theorem join_same (s : Sep F W w L) (hi : L[i]? = some (joinA φ Ps)) (s' : Sep (joinA φ Ps).fp w w' Ps) : Sep F W w' L := by
  have := join_close s hi s' (join_pure s hi)
  rwa [set_get_self hi] at this
theorem Sep.join (n : Nat) (s : Sep F W w L) (hφ : φ) : Sep F W w (joinA φ (L.take n) :: L.drop n) := by
  have hap := SepM.apart s
  rw [← List.take_append_drop n L, List.pairwise_append] at hap
  refine ⟨SepM.fr s, fun A hA => ?_, ?_⟩
  · rcases List.mem_cons.1 hA with rfl | hA
    · refine ⟨⟨⟨hφ, hap.1⟩, fun A hA => (SepM.ok s A (List.mem_of_mem_take hA)).1⟩, fun b hb => ?_⟩
      obtain ⟨A, hA, hb⟩ := hb
      exact (SepM.ok s A (List.mem_of_mem_take hA)).2 b hb
    · exact SepM.ok s A (List.mem_of_mem_drop hA)
  · rw [List.pairwise_cons]
    refine ⟨fun B hB b hb hb' => ?_, hap.2.1⟩
    obtain ⟨A, hA, hb⟩ := hb
    exact hap.2.2 A hA B hB b hb hb'
end
theorem Sep.perm {F : Nat → Prop} {W w : World} {L L' : List As} (s : Sep F W w L) (h : L.Perm L') : Sep F W w L' :=
  ⟨SepM.fr s, fun A hA => SepM.ok s A (h.mem_iff.2 hA), (h.pairwise_iff fun h b hb hb' => h b hb' hb).1 (SepM.apart s)⟩
theorem Sep.rows_nil {F : Nat → Prop} {W w : World} {L : List As} (s : Sep F W w L) (e : TypeId) (size : Nat) : ∀ n : Nat, Sep F W w (List.replicate n (rowA none 0 0 e size []) ++ L)
  | 0 => s
  | n + 1 => Sep.row_nil (Sep.rows_nil s e size n) e size
theorem Sep.joinApp {F : Nat → Prop} {W w : World} {Ps R : List As} {φ : Prop} (s : Sep F W w (Ps ++ R)) (hφ : φ) : Sep F W w (joinA φ Ps :: R) := by
  have := Sep.join Ps.length s hφ
  rwa [List.take_left, List.drop_left] at this
theorem ArgRow.fr {α : Type} {W W' : World} {a : Option Addr} {n size : Nat} {f : α → List Value} {xs : List α} (h : ArgRow W a n size f xs) (k : Fr No W W') : ArgRow W' a n size f xs :=
  ⟨h.1, fun i x hx => by
    obtain ⟨ad, e, hc⟩ := h.2 i x hx
    exact ⟨ad, e, fun j v hv => Fr.cell k (hc j v hv) id⟩⟩
theorem Sep.argrow {α : Type} {F : Nat → Prop} {W w : World} {L : List As} {i n c size : Nat} {a : Option Addr} {e : TypeId} {f : α → List Value} {xs : List α} (s : Sep F W w L) (hi : L[i]? = some (rowA a n c e size (flat f xs))) (hf : ∀ x, (f x).length = size) (hsz : 0 < size) : ArgRow w a n size f xs := by
  have hl := rowA_length s hi
  rw [flat_length hf] at hl
  have hn : xs.length = n := Nat.eq_of_mul_eq_mul_right hsz hl
  refine ⟨hn, fun j x hx => ?_⟩
  have hj := (List.getElem?_eq_some_iff.1 hx).1
  obtain ⟨g, o, rfl⟩ := rowA_some s hi (by omega)
  refine ⟨_, rfl, fun k v hv => ?_⟩
  have hk := (List.getElem?_eq_some_iff.1 hv).1
  rw [hf] at hk
  exact Sep.row_cell s hi (by rw [add_flat]) (by rw [flat_get hf hx hk]; exact hv)
theorem sep_fr {w w' : World} {L : List As} (s : Sep No w w' L) : Fr No w w' := SepM.fr s
end Go.Sx
