/- Slices of the program's own: read, written, cut, appended to; strings made of them. -/
import Derived.Test.YtjndgflalbcngaaSxH
import Derived.Laws.BytesArg
import Derived.ChangeSlices
set_option linter.unusedVariables false
set_option linter.unusedSimpArgs false
namespace Go.Sx

/-- A slice of the program's own, wherever in its block it starts: its first n elements are xs. -/
def rowA (a : Option Addr) (n c : Nat) (e : TypeId) (size : Nat) (xs : List Value) : As where
  fp := fun k => ∃ x, a = some x ∧ x.block = k
  ok := fun h => (xs.length = n * size ∧ n ≤ c ∧ c ≤ maxLen ∧ ∀ u ∈ xs, u.oneCell' = true) ∧ ((a = none ∧ c = 0) ∨
    ∃ g o cur, a = some ⟨g, o, none⟩ ∧ h[g]? = some (.cells cur e (0, 0)) ∧ o + c * size ≤ cur.size ∧ (cur.toList.drop o).take (n * size) = xs)
  lt := fun h hb k hk => by
    obtain ⟨x, hx, rfl⟩ := hk
    rcases hb.2 with ⟨h1, _⟩ | ⟨g, o, cur, h1, h2, _⟩
    · rw [h1] at hx; cases hx
    · rw [h1] at hx; cases hx; exact (Array.getElem?_eq_some_iff.1 h2).1
  fr := fun h h' hb he => by
    refine ⟨hb.1, ?_⟩
    rcases hb.2 with h1 | ⟨g, o, cur, h1, h2, h3⟩
    · exact .inl h1
    · exact .inr ⟨g, o, cur, h1, (he g ⟨_, h1, rfl⟩).trans h2, h3⟩
/-- A slice whose first elements are these, wherever. -/
def Src (w : World) (b : Option Addr) (m size : Nat) (news : List Value) : Prop :=
  news.length = m * size ∧ (∀ u ∈ news, u.oneCell' = true) ∧ match b with | none => m = 0 | some ad => ∀ j u, news[j]? = some u → w.cell? (ad.add j) = some u
section
variable {F : Nat → Prop} {W w w' : World} {L : List As} {i j n c size : Nat} {a : Option Addr} {e : TypeId} {xs : List Value}
theorem rowA_some (s : Sep F W w L) (hi : L[i]? = some (rowA a n c e size xs)) (hn : 0 < n) : ∃ g o, a = some ⟨g, o, none⟩ := by
  obtain ⟨h0, h⟩ := Sep.get s hi
  rcases h with ⟨_, h⟩ | ⟨g, o, _, h, _⟩
  · omega
  · exact ⟨g, o, h⟩
theorem rowA_length (s : Sep F W w L) (hi : L[i]? = some (rowA a n c e size xs)) : xs.length = n * size := (Sep.get s hi).1.1
theorem rowA_cap (s : Sep F W w L) (hi : L[i]? = some (rowA a n c e size xs)) : n ≤ c ∧ c ≤ maxLen := ⟨(Sep.get s hi).1.2.1, (Sep.get s hi).1.2.2.1⟩
theorem row_cellH {h : World} {g o : Nat} {v : Value} (hh : (rowA (some ⟨g, o, none⟩) n c e size xs).ok h.heap) (hj : xs[j]? = some v) : h.cell? ⟨g, o + j, none⟩ = some v := by
  rcases hh.2 with ⟨h, _⟩ | ⟨g', o', cur, h1, h2, h3, h4⟩
  · cases h
  · cases h1
    rw [cell_of_row h g (o + j) cur e (0, 0) h2]
    rw [← h4, List.getElem?_take] at hj
    split at hj
    · simpa using hj
    · cases hj
theorem Sep.row_cell {g o : Nat} {v : Value} {ad : Addr} (s : Sep F W w L) (hi : L[i]? = some (rowA (some ⟨g, o, none⟩) n c e size xs)) (ha : ad = ⟨g, o + j, none⟩) (hj : xs[j]? = some v) : w.cell? ad = some v := by
  rw [ha]; exact row_cellH (Sep.get s hi) hj
theorem Sep.src (s : Sep F W w L) (hi : L[i]? = some (rowA a n c e size xs)) : Src w a n size xs := by
  have h := Sep.get s hi
  refine ⟨h.1.1, h.1.2.2.2, ?_⟩
  cases a with
  | none =>
    rcases h.2 with ⟨_, h2⟩ | ⟨_, _, _, h2, _⟩
    · have := h.1.2.1
      show n = 0
      omega
    · cases h2
  | some ad =>
    intro j u hj
    rcases h.2 with ⟨h2, _⟩ | ⟨g, o, cur, h2, _⟩
    · cases h2
    · cases h2
      rw [add_flat]
      exact row_cellH h hj
theorem Sep.LdI_row {g o : Nat} {k : IntKind} {m : Int} {ad : Addr} {K : Int → Prop} (s : Sep F W w L) (hi : L[i]? = some (rowA (some ⟨g, o, none⟩) n c e size xs)) (ha : ad = ⟨g, o + j, none⟩) (hj : xs[j]? = some (.int k m)) (h : K m) : Sx.LdI k ad w K :=
  ⟨m, Sep.row_cell s hi ha hj, h⟩
theorem Sep.LdS_row {g o : Nat} {x : Option Addr} {m q : Nat} {ad : Addr} {K : Option Addr → Nat → Nat → Prop} (s : Sep F W w L) (hi : L[i]? = some (rowA (some ⟨g, o, none⟩) n c e size xs)) (ha : ad = ⟨g, o + j, none⟩) (hj : xs[j]? = some (.slice x m q)) (h : K x m q) : Sx.LdS ad w K :=
  ⟨x, m, q, Sep.row_cell s hi ha hj, h⟩
theorem Sep.LdB_row {g o : Nat} {m : Bool} {ad : Addr} {K : Bool → Prop} (s : Sep F W w L) (hi : L[i]? = some (rowA (some ⟨g, o, none⟩) n c e size xs)) (ha : ad = ⟨g, o + j, none⟩) (hj : xs[j]? = some (.bool m)) (h : K m) : Sx.LdB ad w K :=
  ⟨m, Sep.row_cell s hi ha hj, h⟩
theorem Sep.LdP_row {g o : Nat} {m : Option Addr} {ad : Addr} {K : Option Addr → Prop} (s : Sep F W w L) (hi : L[i]? = some (rowA (some ⟨g, o, none⟩) n c e size xs)) (ha : ad = ⟨g, o + j, none⟩) (hj : xs[j]? = some (.pointer m)) (h : K m) : Sx.LdP ad w K :=
  ⟨m, Sep.row_cell s hi ha hj, h⟩
theorem set_seg (l : List Value) (o j k : Nat) (v : Value) : ((l.set (o + j) v).drop o).take k = ((l.drop o).take k).set j v := by
  rw [← List.take_set]
  congr 1
  apply List.ext_getElem?
  intro i
  rw [List.getElem?_drop, List.getElem?_set, List.getElem?_set, List.getElem?_drop]
  by_cases h : j = i
  · subst h
    simp only [if_true]
    by_cases hl : o + j < l.length
    · rw [if_pos hl, if_pos (by rw [List.length_drop]; omega)]
    · rw [if_neg hl, if_neg (by rw [List.length_drop]; omega)]
  · rw [if_neg h, if_neg (by omega)]
theorem Sep.St_row {g o : Nat} {v : Value} {ad : Addr} {K : World → Prop} (s : Sep F W w L) (hi : L[i]? = some (rowA (some ⟨g, o, none⟩) n c e size xs)) (ha : ad = ⟨g, o + j, none⟩) (hj : j < n * size) (hv : v.oneCell' = true)
    (h : ∀ w', Sep F W w' (L.set i (rowA (some ⟨g, o, none⟩) n c e size (xs.set j v))) → K w') : Sx.St ad v w K := by
  subst ha
  obtain ⟨h0, hh⟩ := Sep.get s hi
  rcases hh with ⟨hh, _⟩ | ⟨g', o', cur, hh, h2, h5, h6⟩
  · cases hh
  · cases hh
    have hnc : n * size ≤ c * size := Nat.mul_le_mul_right _ h0.2.1
    have hjc : o + j < cur.size := by omega
    have hw : w.heap[g]? = some (.cells cur e (0, 0)) := h2
    refine ⟨⟨cur[o + j], ?_⟩, ?_, h _ (Sep.upd s hi (Fr.setCell (p := ⟨g, o + j, none⟩) (F := (rowA (some ⟨g, o, none⟩) n c e size xs).fp) Fr.refl (fun _ => ⟨_, rfl, rfl⟩) v) ?_ fun b h => .inl h)⟩
    · rw [cell_of_row w g (o + j) cur e (0, 0) hw]; simp [hjc]
    · simp [World.frozen?, hw]
    · refine ⟨⟨by simp [h0.1], h0.2.1, h0.2.2.1, fun u hu => ?_⟩, .inr ⟨g, o, cur.setIfInBounds (o + j) v, rfl, ?_, by simpa using h5, ?_⟩⟩
      · rcases List.mem_or_eq_of_mem_set hu with hu | rfl
        · exact h0.2.2.2 u hu
        · exact hv
      · simp [World.setCell, Array.getElem?_modify, hw]
      · rw [Array.toList_setIfInBounds, set_seg, h6]
theorem Sep.row_nil (s : Sep F W w L) (e : TypeId) (size : Nat) : Sep F W w (rowA none 0 0 e size [] :: L) :=
  Sep.new s Fr.refl ⟨⟨by simp, Nat.le_refl _, by decide, by simp⟩, .inl ⟨rfl, rfl⟩⟩ fun b hb => by obtain ⟨x, hx, _⟩ := hb; cases hx
/-- A block that was just made, as a slice. -/
theorem blk_row {w : World} {b : Nat} {cs : List Value} (h : (blkA b e cs).ok w.heap) (hl : cs.length = n * size) (hm : n ≤ maxLen) (h1 : ∀ u ∈ cs, u.oneCell' = true) : (rowA (some ⟨b, 0, none⟩) n n e size cs).ok w.heap := by
  have h : w.heap[b]? = some (.cells cs.toArray e (0, 0)) := h
  refine ⟨⟨hl, Nat.le_refl _, hm, h1⟩, .inr ⟨b, 0, _, rfl, h, by simp [hl], ?_⟩⟩
  rw [List.drop_zero, ← hl]
  simp
theorem Sep.blk_row {b : Nat} {cs : List Value} (s : Sep F W w L) (hi : L[i]? = some (blkA b e cs)) (hl : cs.length = n * size) (hm : n ≤ maxLen) (h1 : ∀ u ∈ cs, u.oneCell' = true) : Sep F W w (L.set i (rowA (some ⟨b, 0, none⟩) n n e size cs)) :=
  Sep.upd s hi Fr.refl (Sx.blk_row (Sep.get s hi) hl hm h1) fun k hk => by
    obtain ⟨x, hx, rfl⟩ := hk
    cases hx
    exact .inl rfl
theorem Sep.row_take {m : Nat} (s : Sep F W w L) (hi : L[i]? = some (rowA a n c e size xs)) (hm : m ≤ n) : Sep F W w (L.set i (rowA a m c e size (xs.take (m * size)))) := by
  refine Sep.upd s hi Fr.refl ?_ fun b h => .inl h
  obtain ⟨h0, hh⟩ := Sep.get s hi
  refine ⟨⟨by rw [List.length_take, h0.1]; exact Nat.min_eq_left (Nat.mul_le_mul_right _ hm), by omega, h0.2.2.1, fun u hu => h0.2.2.2 u (List.mem_of_mem_take hu)⟩, ?_⟩
  rcases hh with h1 | ⟨g, o, cur, h1, h2, h5, h6⟩
  · exact .inl h1
  · exact .inr ⟨g, o, cur, h1, h2, h5, by rw [← h6, List.take_take, Nat.min_eq_left (Nat.mul_le_mul_right _ hm)]⟩
theorem Sep.row_drop {m : Nat} (s : Sep F W w L) (hi : L[i]? = some (rowA a n c e size xs)) (hm : m ≤ n) : Sep F W w (L.set i (rowA (if c = m then a else a.map (·.add (m * size))) (n - m) (c - m) e size (xs.drop (m * size)))) := by
  refine Sep.upd s hi Fr.refl ?_ fun b h => ?_
  · obtain ⟨h0, hh⟩ := Sep.get s hi
    refine ⟨⟨by rw [List.length_drop, h0.1, Nat.sub_mul], by omega, by omega, fun u hu => h0.2.2.2 u (List.mem_of_mem_drop hu)⟩, ?_⟩
    rcases hh with ⟨h1, h2⟩ | ⟨g, o, cur, h1, h2, h5, h6⟩
    · subst h1
      left
      exact ⟨by simp, by omega⟩
    · subst h1
      right
      split
      · rename_i hc
        subst hc
        have hn : n = c := by omega
        subst hn
        refine ⟨g, o, cur, rfl, h2, by simp; omega, ?_⟩
        rw [Nat.sub_self, Nat.zero_mul, List.take_zero, List.drop_eq_nil_of_le (by omega)]
      · refine ⟨g, o + m * size, cur, by simp [add_flat], h2, ?_, ?_⟩
        · have : m * size + (c - m) * size = c * size := by rw [← Nat.add_mul]; congr 1; omega
          omega
        · rw [← h6, List.drop_take, List.drop_drop, Nat.sub_mul]
  · left
    obtain ⟨x, hx, rfl⟩ := h
    split at hx
    · exact ⟨x, hx, rfl⟩
    · obtain ⟨y, hy, rfl⟩ := Option.map_eq_some_iff.1 hx
      exact ⟨y, hy, (add_block _ _).symm⟩
/-- What append does. -/
theorem append_run {P : Program} {t ty : TypeId} {inf : TypeInfo} {z : Value} {b : Option Addr} {m cc : Nat} {news : List Value} (ht : P.underlying t = some (.slice e)) (hi : P.info? e = some inf) (hz : inf.zero = some z) (hzs : z.cells.size = inf.size) (hsz : 0 < inf.size)
    (hr : (rowA a n c e inf.size xs).ok w.heap) (hs : Src w b m inf.size news) (h63 : n + m ≤ maxLen) (hbytes : (n + m) * inf.bytes ≤ 140737488355328) (hcc : b = none → cc = 0) :
    ∃ a' c' w', (Builtin.append_ #[t, t] ty #[.slice a n c, .slice b m cc]).run P w = .ok (.slice a' (n + m) c') w' ∧ (rowA a' (n + m) c' e inf.size (xs ++ news)).ok w'.heap ∧ Fr (rowA a n c e inf.size xs).fp w w' ∧
      ∀ x, a' = some x → (∃ y, a = some y ∧ y.block = x.block) ∨ w.heap.size ≤ x.block := by
  obtain ⟨⟨r1, r2, r3, r4⟩, r5⟩ := hr
  obtain ⟨s1, s2, s3⟩ := hs
  have hsmall : n + m ≤ 9223372036854775807 := by simp only [maxLen] at h63; omega
  have hlen : (xs ++ news).length = (n + m) * inf.size := by rw [List.length_append, r1, s1, Nat.add_mul]
  have hone : ∀ u ∈ xs ++ news, u.oneCell' = true := fun u hu => by
    rcases List.mem_append.1 hu with h | h
    · exact r4 u h
    · exact s2 u h
  cases b with
  | none =>
    have hm : m = 0 := s3
    subst hm
    have hcc0 := hcc rfl
    subst hcc0
    have hn : news = [] := List.eq_nil_of_length_eq_zero (by simpa using s1)
    subst hn
    refine ⟨a, c, w, ?_, ?_, Fr.refl, fun x hx => .inl ⟨x, hx, rfl⟩⟩
    · cases a with
      | none =>
        rcases r5 with ⟨_, h⟩ | ⟨_, _, _, h, _⟩
        · subst h
          obtain rfl : n = 0 := by omega
          simp [Builtin.append_, run_underlying ht, sizeOf, typeInfo, hi, Builtin.lenOf, Builtin.firstCells]
        · cases h
      | some ad => simp [Builtin.append_, run_underlying ht, sizeOf, typeInfo, hi, Builtin.lenOf, Builtin.firstCells, r2, storeCells]
    · simp only [Nat.add_zero, List.append_nil]
      exact ⟨⟨r1, r2, r3, r4⟩, r5⟩
  | some ad =>
    have grown : ∀ old, (rowA (some ⟨w.heap.size, 0, none⟩) (n + m) (grownCap w (n + m) old e) e inf.size (xs ++ news)).ok (w.drew.alloc (.cells (xs.toArray ++ news.toArray ++ Builtin.zeroCells z.cells (grownCap w (n + m) old e - (n + m))) e)).heap := by
      intro old
      have hge := grownCap_ge w (n + m) old e
      refine ⟨⟨hlen, hge, grownCap_le_maxLen w (n + m) old e h63, hone⟩, .inr ⟨w.heap.size, 0, _, rfl, heap_alloc_new w.drew _, ?_, ?_⟩⟩
      · have hsum : (n + m) * inf.size + (grownCap w (n + m) old e - (n + m)) * inf.size = grownCap w (n + m) old e * inf.size := by rw [← Nat.add_mul]; congr 1; omega
        simp only [Array.size_append, List.size_toArray, size_zeroCells, hzs, r1, s1]
        rw [← hsum, Nat.add_mul]
        omega
      · rw [List.drop_zero]
        simp only [Array.toList_append]
        rw [← hlen]
        exact List.take_left
    have hfr : ∀ o : Obj, Fr (rowA a n c e inf.size xs).fp w (w.drew.alloc o) := fun o => Fr.alloc (w := w.drew) Fr.refl o
    rcases r5 with ⟨rfl, rfl⟩ | ⟨g, o, cur, rfl, hg, hco, hcur⟩
    · obtain rfl : n = 0 := by omega
      have hx : xs = [] := List.eq_nil_of_length_eq_zero (by simpa using r1)
      subst hx
      by_cases hm : m = 0
      · subst hm
        have hn : news = [] := List.eq_nil_of_length_eq_zero (by simpa using s1)
        subst hn
        refine ⟨none, 0, w, ?_, ⟨⟨by simp, by simp, by decide, by simp⟩, .inl ⟨rfl, rfl⟩⟩, Fr.refl, fun x hx => by cases hx⟩
        simp [Builtin.append_, run_underlying ht, sizeOf, typeInfo, hi, Builtin.lenOf, Builtin.firstCells, loadCells, loadCellsFrom]
      · have hr := run_append_nil (P := P) w t ty e inf z ht hi hz ad m cc news s1 s3 (by omega) (by omega) (by have hb := hbytes; simp only [Nat.zero_add] at hb; omega)
        have hgr := grown 0
        simp only [Nat.zero_add, List.nil_append, Array.empty_append] at hgr ⊢
        exact ⟨_, _, _, hr, hgr, hfr _, fun x hx => by cases hx; exact .inr (Nat.le_refl _)⟩
    · by_cases hroom : n + m ≤ c
      · have hnm : (n + m) * inf.size ≤ c * inf.size := Nat.mul_le_mul_right _ hroom
        rw [Nat.add_mul] at hnm
        have hf := run_firstCells_some (P := P) w inf.size m ad m cc news s1 s3
        have hst := run_storeCells_at P g (o + n * inf.size) e news 0 cur w hg (by omega) s2
        simp only [Nat.add_zero] at hst
        refine ⟨some ⟨g, o, none⟩, c, w.setRow g (cur.toList.take (o + n * inf.size) ++ news ++ cur.toList.drop (o + n * inf.size + news.length)).toArray, ?_, ?_, ?_, fun x hx => by cases hx; exact .inl ⟨_, rfl, rfl⟩⟩
        · simp [Builtin.append_, run_underlying ht, sizeOf, typeInfo, hi, Builtin.lenOf, hroom, hf, add_flat, hst]
        · refine ⟨⟨hlen, hroom, r3, hone⟩, .inr ⟨g, o, _, rfl, setRow_heap w g cur _ e _ hg, ?_, ?_⟩⟩
          · simp only [List.size_toArray, List.length_append, List.length_take, List.length_drop, Array.length_toList]
            omega
          · have e1 : (cur.toList.take (o + n * inf.size) ++ news ++ cur.toList.drop (o + n * inf.size + news.length)).drop o = xs ++ (news ++ cur.toList.drop (o + n * inf.size + news.length)) := by
              rw [List.append_assoc, List.drop_append_of_le_length (by rw [List.length_take, Array.length_toList]; omega), List.drop_take, Nat.add_sub_cancel_left, hcur]
            rw [e1, ← List.append_assoc, ← hlen]
            exact List.take_left
        · exact ⟨rfl, rfl, rfl, by show w.heap.size ≤ (w.setRow g _).heap.size; simp [World.setRow], fun k _ hk => setRow_other w g k _ (fun e => hk ⟨_, rfl, e.symm⟩)⟩
      · have holds : ∀ j u, xs[j]? = some u → w.cell? ((⟨g, o, none⟩ : Addr).add j) = some u := fun j u hj => by
          rw [add_flat]
          exact row_cellH (c := c) (n := n) (size := inf.size) (e := e) ⟨⟨r1, r2, r3, r4⟩, .inr ⟨g, o, cur, rfl, hg, hco, hcur⟩⟩ hj
        have hr := run_append_grow (P := P) w t ty e inf z ht hi hz ⟨g, o, none⟩ n c xs r1 holds ad m cc news s1 s3 (by omega) (by omega) (growslice_fits (by omega) hbytes)
        exact ⟨_, _, _, hr, grown c, hfr _, fun x hx => by cases hx; exact .inr (Nat.le_refl _)⟩
theorem Sep.App {P : Program} {T : Tab} {t ty : TypeId} {ti ei : TI} {b : Option Addr} {m cc bytes : Nat} {news : List Value} {K : Option Addr → Nat → Nat → World → Prop} (hT : OkTab P T) (s : Sep F W w L)
    (ht : T t = some ti) (hd : ti.d = .slice e) (he : T e = some ei) (hs : ei.size = size) (hb : ei.bytes = bytes) (hz : ei.zero.length = size) (hsz : 0 < size)
    (hi : L[i]? = some (rowA a n c e size xs)) (hsrc : Src w b m size news) (h63 : n + m ≤ maxLen) (hbytes : (n + m) * bytes ≤ 140737488355328) (hcc : b = none → cc = 0)
    (h : ∀ a' c' w', Sep F W w' (L.set i (rowA a' (n + m) c' e size (xs ++ news))) → K a' (n + m) c' w') :
    Sx.App P #[t, t] ty (.slice a n c) (.slice b m cc) w K := by
  obtain ⟨inf, u, z, k1, k2, k3, k4, k5, k6, k7⟩ := ok_info hT ht
  obtain ⟨inf', u', z', q1, q2, q3, q4, q5, q6, q7⟩ := ok_info hT he
  have hu : u = .slice e := by
    rw [hd] at k3
    cases u <;> simp [mkTD] at k3
    rw [k3]
  subst hu
  obtain rfl : inf'.size = size := q4.trans hs
  obtain rfl : inf'.bytes = bytes := q5.trans hb
  obtain ⟨a', c', w', r1, r2, r3, r4⟩ := append_run (P := P) (ty := ty) k2 q1 q6 (by rw [← Array.length_toList, q7, hz]) hsz (Sep.get s hi) hsrc h63 hbytes hcc
  unfold Sx.App RunK
  rw [r1]
  refine h a' c' w' (Sep.upd s hi r3 r2 fun b hb => ?_)
  obtain ⟨x, hx, rfl⟩ := hb
  rcases r4 x hx with ⟨y, h1, h2⟩ | h2
  · exact .inl ⟨y, h1, h2⟩
  · exact .inr h2
/-- A string made of bytes. -/
theorem Sep.Str {P : Program} {T : Tab} {t d : TypeId} {ti ei di : TI} {ns : List Int} {K : Value → World → Prop} (hT : OkTab P T) (s : Sep F W w L)
    (ht : T t = some ti) (hd : ti.d = .slice e) (he : T e = some ei) (hk : ei.d = .int .u8) (hd' : T d = some di) (hds : di.d = .str)
    (hi : L[i]? = some (rowA a n c e 1 (ns.map (.int .u8)))) (h : K (.string (strOfNums ns)) w) : RunK P (convert t d (.slice a n c)) w K := by
  obtain ⟨inf, u, z, k1, k2, k3, k4, k5, k6, k7⟩ := ok_info hT ht
  obtain ⟨inf', u', z', q1, q2, q3, q4, q5, q6, q7⟩ := ok_info hT he
  obtain ⟨inf2, u2, z2, p1, p2, p3, p4, p5, p6, p7⟩ := ok_info hT hd'
  rw [hd] at k3
  rw [hk] at q3
  rw [hds] at p3
  obtain rfl : u = .slice e := by cases u <;> simp [mkTD] at k3; rw [k3]
  obtain rfl : u' = .int .u8 := by cases u' <;> simp [mkTD] at q3; rw [q3]
  obtain rfl : u2 = .string := by cases u2 <;> simp [mkTD] at p3; rfl
  have hok := Sep.get s hi
  have h0 : ns.length = n := by simpa using hok.1.1
  rcases hok.2 with ⟨rfl, rfl⟩ | ⟨g, o, cur, rfl, h2⟩
  · have hn0 : n = 0 := by have := hok.1.2.1; omega
    subst hn0
    have hn : ns = [] := List.eq_nil_of_length_eq_zero h0
    subst hn
    unfold RunK
    rw [run_convert_bytes_nil w t e k2 q2 0 0 d p2]
    exact h
  · unfold RunK
    rw [run_convert_bytes_arg w t e k2 q2 g o n c ns h0 (fun j hj => row_cellH hok (by
      rw [List.getElem?_map, List.getElem?_eq_getElem (by omega)]
      simp [List.getD_eq_getElem?_getD, List.getElem?_eq_getElem (show j < ns.length by omega)])) d p2]
    exact h
/-! Slices cut. -/
theorem SlK_hi {A : Option Addr} {n c size : Nat} {h : Int} {m : Nat} {K : Option Addr → Nat → Nat → Prop} (hh : h = m) (hm : m ≤ c) (k : K A m c) : SlK A n c size none (some h) K := by
  subst hh
  refine ⟨fun h' e => (by cases e; omega), fun l e => (by cases e), ?_⟩
  simpa [add_zero] using k
theorem SlK_lo {A : Option Addr} {n c size : Nat} {l : Int} {m : Nat} {K : Option Addr → Nat → Nat → Prop} (hl : l = m) (hm : m ≤ n) (k : K (if c = m then A else A.map (·.add (m * size))) (n - m) (c - m)) : SlK A n c size (some l) none K := by
  subst hl
  refine ⟨fun h' e => (by cases e), fun l e => (by cases e; simp; omega), ?_⟩
  simpa using k
end
end Go.Sx
