/- Slices of the program's own: read, written, appended to; strings made of them. -/
import Derived.Test.YthelhikocaeecaaSxH
import Derived.Laws.BytesArg
import Derived.ChangeSlices
set_option linter.unusedVariables false
set_option linter.unusedSimpArgs false
namespace Go.Sx

/-- A slice that starts where its block does: its first n elements are xs. -/
def rowA (a : Option Addr) (n c : Nat) (e : TypeId) (size : Nat) (xs : List Value) : As where
  fp := fun k => ∃ x, a = some x ∧ x.block = k
  ok := fun h => xs.length = n * size ∧ ((a = none ∧ n = 0 ∧ c = 0) ∨
    ∃ g cur, a = some ⟨g, 0, none⟩ ∧ h[g]? = some (.cells cur e (0, 0)) ∧ n ≤ c ∧ c ≤ maxLen ∧ cur.size = c * size ∧ cur.toList.take (n * size) = xs)
  lt := fun h hb k hk => by
    obtain ⟨x, hx, rfl⟩ := hk
    rcases hb.2 with ⟨h1, _⟩ | ⟨g, cur, h1, h2, _⟩
    · rw [h1] at hx; cases hx
    · rw [h1] at hx; cases hx; exact (Array.getElem?_eq_some_iff.1 h2).1
  fr := fun h h' hb he => by
    refine ⟨hb.1, ?_⟩
    rcases hb.2 with h1 | ⟨g, cur, h1, h2, h3⟩
    · exact .inl h1
    · exact .inr ⟨g, cur, h1, (he g ⟨_, h1, rfl⟩).trans h2, h3⟩
section
variable {F : Nat → Prop} {W w w' : World} {L : List As} {i j n c size : Nat} {a : Option Addr} {e : TypeId} {xs : List Value}
theorem rowA_own (h : (rowA a n c e size xs).ok w.heap) : w.ownsRow 0 e size (.slice a n c) n xs := by
  refine ⟨h.1, ?_⟩
  rcases h.2 with ⟨rfl, rfl, rfl⟩ | ⟨g, cur, rfl, h2, h3, h4, h5, h6⟩
  · exact .inl ⟨rfl, rfl⟩
  · exact .inr ⟨g, c, cur, rfl, Nat.zero_le _, h2, h3, h4, h5, h6⟩
theorem own_rowA {v : Value} (h : w.ownsRow 0 e size v n xs) : ∃ a c, v = .slice a n c ∧ (rowA a n c e size xs).ok w.heap := by
  obtain ⟨h1, h2⟩ := h
  rcases h2 with ⟨rfl, rfl⟩ | ⟨g, cap, cur, rfl, _, h3, h4, h5, h6, h7⟩
  · exact ⟨none, 0, rfl, h1, .inl ⟨rfl, rfl, rfl⟩⟩
  · exact ⟨_, cap, rfl, h1, .inr ⟨g, cur, rfl, h3, h4, h5, h6, h7⟩⟩
theorem rowA_some (s : Sep F W w L) (hi : L[i]? = some (rowA a n c e size xs)) (hn : 0 < n) : ∃ g, a = some ⟨g, 0, none⟩ := by
  obtain ⟨_, h⟩ := Sep.get s hi
  rcases h with ⟨_, h, _⟩ | ⟨g, _, h, _⟩
  · omega
  · exact ⟨g, h⟩
theorem rowA_length (s : Sep F W w L) (hi : L[i]? = some (rowA a n c e size xs)) : xs.length = n * size := (Sep.get s hi).1
theorem Sep.row_cell {g : Nat} {v : Value} {ad : Addr} (s : Sep F W w L) (hi : L[i]? = some (rowA (some ⟨g, 0, none⟩) n c e size xs)) (ha : ad = ⟨g, j, none⟩) (hj : xs[j]? = some v) : w.cell? ad = some v := by
  obtain ⟨_, h⟩ := Sep.get s hi
  rcases h with ⟨h, _⟩ | ⟨g', cur, h, h2, h3, h4, h5, h6⟩
  · cases h
  · cases h
    rw [ha, cell_of_row w g j cur e (0, 0) h2]
    rw [← h6, List.getElem?_take] at hj
    split at hj
    · simpa using hj
    · cases hj
theorem Sep.LdI_row {g : Nat} {k : IntKind} {m : Int} {ad : Addr} {K : Int → Prop} (s : Sep F W w L) (hi : L[i]? = some (rowA (some ⟨g, 0, none⟩) n c e size xs)) (ha : ad = ⟨g, j, none⟩) (hj : xs[j]? = some (.int k m)) (h : K m) : Sx.LdI k ad w K :=
  ⟨m, Sep.row_cell s hi ha hj, h⟩
theorem Sep.St_row {g : Nat} {v : Value} {ad : Addr} {K : World → Prop} (s : Sep F W w L) (hi : L[i]? = some (rowA (some ⟨g, 0, none⟩) n c e size xs)) (ha : ad = ⟨g, j, none⟩) (hj : j < n * size)
    (h : ∀ w', Sep F W w' (L.set i (rowA (some ⟨g, 0, none⟩) n c e size (xs.set j v))) → K w') : Sx.St ad v w K := by
  subst ha
  obtain ⟨h0, hh⟩ := Sep.get s hi
  rcases hh with ⟨hh, _⟩ | ⟨g', cur, hh, h2, h3, h4, h5, h6⟩
  · cases hh
  · cases hh
    have hjc : j < cur.size := by
      rw [h5]
      exact Nat.lt_of_lt_of_le hj (Nat.mul_le_mul_right _ h3)
    have hw : w.heap[g]? = some (.cells cur e (0, 0)) := h2
    refine ⟨⟨cur[j], ?_⟩, ?_, h _ (Sep.upd s hi (Fr.setCell (p := ⟨g, j, none⟩) (F := (rowA (some ⟨g, 0, none⟩) n c e size xs).fp) Fr.refl (fun _ => ⟨_, rfl, rfl⟩) v) ?_ fun b h => .inl h)⟩
    · rw [cell_of_row w g j cur e (0, 0) hw]; simp [hjc]
    · simp [World.frozen?, hw]
    · refine ⟨by simp [h0], .inr ⟨g, cur.setIfInBounds j v, rfl, ?_, h3, h4, by simp [h5], ?_⟩⟩
      · simp [World.setCell, Array.getElem?_modify, hw]
      · rw [Array.toList_setIfInBounds, List.take_set, h6]
theorem Sep.row_nil (s : Sep F W w L) (e : TypeId) (size : Nat) : Sep F W w (rowA none 0 0 e size [] :: L) :=
  Sep.new s Fr.refl ⟨by simp, .inl ⟨rfl, rfl, rfl⟩⟩ fun b hb => by obtain ⟨x, hx, _⟩ := hb; cases hx
theorem Sep.row_take {m : Nat} (s : Sep F W w L) (hi : L[i]? = some (rowA a n c e size xs)) (hm : m ≤ n) : Sep F W w (L.set i (rowA a m c e size (xs.take (m * size)))) := by
  refine Sep.upd s hi Fr.refl ?_ fun b h => .inl h
  obtain ⟨h0, hh⟩ := Sep.get s hi
  refine ⟨by rw [List.length_take, h0]; exact Nat.min_eq_left (Nat.mul_le_mul_right _ hm), ?_⟩
  rcases hh with ⟨h1, h2, h3⟩ | ⟨g, cur, h1, h2, h3, h4, h5, h6⟩
  · exact .inl ⟨h1, by omega, h3⟩
  · exact .inr ⟨g, cur, h1, h2, by omega, h4, h5, by rw [← h6, List.take_take, Nat.min_eq_left (Nat.mul_le_mul_right _ hm)]⟩
theorem append_block {P : Program} {t ty : TypeId} {inf : TypeInfo} {z : Value} {v v' : Value} {ad : Addr} {m cc : Nat} {news : List Value} (ht : P.underlying t = some (.slice e)) (hi : P.info? e = some inf) (hz : inf.zero = some z)
    (hown : w.ownsRow 0 e inf.size v n xs) (hl : news.length = m * inf.size) (hnews : ∀ j u, news[j]? = some u → w.cell? (ad.add j) = some u) (h1 : ∀ u ∈ news, u.oneCell' = true)
    (h63 : n + m ≤ maxLen) (hbytes : (n + m) * inf.bytes ≤ 140737488355328) (hr : (Builtin.append_ #[t, t] ty #[v, .slice (some ad) m cc]).run P w = .ok v' w') : ∀ b, v'.ownBlock = some b → v.ownBlock = some b ∨ w.heap.size ≤ b := by
  intro b hb
  have hsmall : n + m ≤ 9223372036854775807 := by simp only [maxLen] at h63; omega
  rcases hown.2 with ⟨rfl, rfl⟩ | ⟨g, cap, cur, rfl, hbg, hg, hnc, hcm, hcs, htake⟩
  · by_cases hm : m = 0
    · subst hm
      have hn : news = [] := List.eq_nil_of_length_eq_zero (by simpa using hl)
      subst hn
      simp [Builtin.append_, run_underlying ht, sizeOf, typeInfo, hi, Builtin.lenOf, Builtin.firstCells, loadCells, loadCellsFrom] at hr
      rw [← hr.1] at hb
      simp [Value.ownBlock] at hb
    · have hr' := run_append_nil (P := P) w t ty e inf z ht hi hz ad m cc news hl hnews (by omega) (by omega) (by have hb := hbytes; simp only [Nat.zero_add] at hb; omega)
      rw [hr'] at hr
      cases hr
      simp [Value.ownBlock] at hb
      omega
  · by_cases hroom : n + m ≤ cap
    · have hfit : n * inf.size + news.length ≤ cur.size := by rw [hl, hcs, ← Nat.add_mul]; exact Nat.mul_le_mul_right _ hroom
      have hr' := run_append_room (P := P) w t ty e inf ht hi g n cap cur hg ad m cc news hl hnews h1 hroom hfit
      rw [hr'] at hr
      cases hr
      exact .inl hb
    · have holds : ∀ j u, xs[j]? = some u → w.cell? ((⟨g, 0, none⟩ : Addr).add j) = some u := hown.cells (g := g) rfl
      have hr' := run_append_grow (P := P) w t ty e inf z ht hi hz ⟨g, 0, none⟩ n cap xs hown.1 holds ad m cc news hl hnews (by omega) (by omega) (growslice_fits (by omega) hbytes)
      rw [hr'] at hr
      cases hr
      simp [Value.ownBlock] at hb
      omega
theorem Sep.App {P : Program} {T : Tab} {t ty : TypeId} {ti ei : TI} {ad : Addr} {m cc bytes : Nat} {news : List Value} {K : Option Addr → Nat → Nat → World → Prop} (hT : OkTab P T) (s : Sep F W w L)
    (ht : T t = some ti) (hd : ti.d = .slice e) (he : T e = some ei) (hs : ei.size = size) (hb : ei.bytes = bytes) (hz : ei.zero.length = size) (hsz : 0 < size)
    (hi : L[i]? = some (rowA a n c e size xs)) (hl : news.length = m * size) (hnews : ∀ j u, news[j]? = some u → w.cell? (ad.add j) = some u) (h1 : ∀ u ∈ news, u.oneCell' = true)
    (h63 : n + m ≤ maxLen) (hbytes : (n + m) * bytes ≤ 140737488355328) (h : ∀ a' c' w', Sep F W w' (L.set i (rowA a' (n + m) c' e size (xs ++ news))) → K a' (n + m) c' w') :
    Sx.App P #[t, t] ty (.slice a n c) (.slice (some ad) m cc) w K := by
  obtain ⟨inf, u, z, k1, k2, k3, k4, k5, k6, k7⟩ := ok_info hT ht
  obtain ⟨inf', u', z', q1, q2, q3, q4, q5, q6, q7⟩ := ok_info hT he
  have hu : u = .slice e := by
    rw [hd] at k3
    cases u <;> simp [mkTD] at k3
    rw [k3]
  subst hu
  obtain ⟨v', w', r1, r2, r3, r4⟩ := run_append_own (P := P) w 0 t ty e inf' z' size bytes k2 q1 q6 (q4.trans hs) (q5.trans hb) (by rw [← Array.length_toList, q7, hz]) hsz _ n xs (rowA_own (Sep.get s hi)) ad m cc news hl hnews h1 h63 hbytes (Nat.zero_le _)
  obtain ⟨a', c', rfl, r5⟩ := own_rowA r2
  unfold Sx.App RunK
  rw [r1]
  refine h a' c' w' (Sep.upd s hi (Fr.grown Fr.refl r3 fun k hk _ => ?_) r5 fun b hb => ?_)
  · cases a with
    | none => cases hk
    | some x => exact ⟨x, rfl, by simpa [Value.ownBlock] using hk⟩
  · obtain ⟨x, hx, rfl⟩ := hb
    subst hx
    have hs' : inf'.size = size := q4.trans hs
    have hb' : inf'.bytes = bytes := q5.trans hb
    subst hs'
    subst hb'
    rcases append_block k2 q1 q6 (rowA_own (Sep.get s hi)) hl hnews h1 h63 hbytes r1 x.block rfl with h2 | h2
    · left
      cases a with
      | none => cases h2
      | some y => exact ⟨y, rfl, by simpa [Value.ownBlock] using h2⟩
    · exact .inr h2
/-- A string made of bytes. -/
theorem Sep.Str {P : Program} {T : Tab} {t d : TypeId} {ti ei di : TI} {ns : List Int} {K : Value → World → Prop} (hT : OkTab P T) (s : Sep F W w L)
    (ht : T t = some ti) (hd : ti.d = .slice e) (he : T e = some ei) (hk : ei.d = .int .u8) (hd' : T d = some di) (hds : di.d = .str)
    (hi : L[i]? = some (rowA a n c e 1 (ns.map (.int .u8)))) (h : K (.string (strOfNums ns)) w) : RunK P (convert t d (.slice a n c)) w K := by
  obtain ⟨inf, u, z, k1, k2, k3, k4, k5, k6, k7⟩ := ok_info hT ht
  obtain ⟨inf', u', z', q1, q2, q3, q4, q5, q6, q7⟩ := ok_info hT he
  obtain ⟨inf2, u2, z2, p1, p2, p3, p4, p5, p6, p7⟩ := ok_info hT hd'
  rw [hd] at k3
  rw [hk] at q3
  rw [hds] at p3
  obtain rfl : u = .slice e := by cases u <;> simp [mkTD] at k3; rw [k3]
  obtain rfl : u' = .int .u8 := by cases u' <;> simp [mkTD] at q3; rw [q3]
  obtain rfl : u2 = .string := by cases u2 <;> simp [mkTD] at p3; rfl
  obtain ⟨h0, hh⟩ := Sep.get s hi
  have h0 : ns.length = n := by simpa using h0
  rcases hh with ⟨rfl, rfl, rfl⟩ | ⟨g, cur, rfl, h2⟩
  · have hn : ns = [] := List.eq_nil_of_length_eq_zero h0
    subst hn
    unfold RunK
    rw [run_convert_bytes_nil w t e k2 q2 0 0 d p2]
    exact h
  · unfold RunK
    rw [run_convert_bytes_arg w t e k2 q2 g 0 n c ns h0 (fun j hj => Sep.row_cell s hi (by rw [Nat.zero_add]) (by
      rw [List.getElem?_map, List.getElem?_eq_getElem (by omega)]
      simp [List.getD_eq_getElem?_getD, List.getElem?_eq_getElem (show j < ns.length by omega)])) d p2]
    exact h
end
end Go.Sx
