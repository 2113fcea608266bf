/- The reading of one operation is sound: literals of structs, arrays and slices; addresses; slices; calls; all together. -/
import Derived.Test.YtjndgflalbcngaaSx4
set_option linter.unusedVariables false
set_option linter.unusedSimpArgs false
namespace Go.Sx

theorem putCells_length : ∀ (cs : List Value) (n : Nat) (vs : List Value), (putCells cs n vs).length = cs.length
  | [], _, _ => rfl
  | c :: cs, 0, [] => rfl
  | _ :: cs, 0, v :: vs => by simp [putCells, putCells_length cs 0 vs]
  | c :: cs, n + 1, vs => by simp [putCells, putCells_length cs n vs]
theorem putCells_nil : ∀ (cs : List Value) (n : Nat), putCells cs n [] = cs
  | [], _ => rfl
  | c :: cs, 0 => rfl
  | c :: cs, n + 1 => by simp [putCells, putCells_nil cs n]
theorem putCells_cons : ∀ (cs : List Value) (n : Nat) (v : Value) (vs : List Value), putCells cs n (v :: vs) = putCells (cs.set n v) (n + 1) vs
  | [], _, _, _ => by simp [putCells]
  | c :: cs, 0, v, [] => by simp [putCells, putCells_nil]
  | c :: cs, 0, v, u :: vs => by simp [putCells]
  | c :: cs, n + 1, v, vs => by simp [putCells, putCells_cons cs n v vs]
theorem foldl_put (off : Nat) : ∀ (vs : List Value) (k : Nat) (cs : Array Value),
    ((vs.zipIdx k).foldl (fun cs (p : Value × Nat) => cs.setIfInBounds (off + p.2) p.1) cs) = (putCells cs.toList (off + k) vs).toArray
  | [], k, cs => by simp [putCells_nil]
  | v :: vs, k, cs => by
    simp only [List.zipIdx_cons, List.foldl_cons]
    rw [foldl_put off vs (k + 1), putCells_cons]
    congr 2
    simp
theorem fill_eq (place : Nat → Option (Nat × Nat)) : ∀ (ps : List (Nat × Value)) (cells cs : List Value), fillL place cells ps = some cs → Instr.fill place cells.toArray ps = some cs.toArray
  | [], cells, cs, h => by simp only [fillL, Option.some.injEq] at h; subst h; rfl
  | (i, v) :: ps, cells, cs, h => by
    simp only [fillL] at h
    cases hp : place i with
    | none => rw [hp] at h; cases h
    | some p =>
      rw [hp] at h
      simp only at h
      cases hb : Nat.beq v.cells.toList.length p.2 with
      | false => rw [hb] at h; cases h
      | true =>
        rw [hb] at h
        simp only [cond_true] at h
        cases hl : Nat.ble (p.1 + v.cells.toList.length) cells.length with
        | false => rw [hl] at h; cases h
        | true =>
          rw [hl] at h
          simp only [cond_true] at h
          have h1 := Nat.eq_of_beq_eq_true hb
          have h2 := Nat.le_of_ble_eq_true hl
          have := fill_eq place ps _ cs h
          simp only [Array.length_toList] at h1 h2
          simp only [Instr.fill, hp]
          rw [if_neg (by simp; omega)]
          rw [← this]
          congr 1
          have hf := foldl_put p.1 v.cells.toList 0 cells.toArray
          simp only [Nat.add_zero] at hf
          rw [← hf]
          rw [← Array.foldl_toList, Array.toList_zipIdx]

section
variable {C : Cx} {w : World} {K : Value → World → Prop}

theorem places_ok (hC : OkCx C) : ∀ {l : List Field} {pls : List (Nat × Nat)}, placesL C.T (l.map fun f => (f.offset, f.type)) = some pls → ∀ w,
    (l.mapM fun f => do pure (f.offset, ← sizeOf f.type) : Sem (List (Nat × Nat))).run C.P w = .ok pls w
  | [], pls, h, w => by simp only [List.map_nil, placesL, Option.some.injEq] at h; subst h; rfl
  | f :: l, pls, h, w => by
    simp only [List.map_cons, placesL] at h
    split at h
    · rename_i q hq
      split at h
      · rename_i r hr
        simp only [Option.some.injEq] at h
        subst h
        have ih := places_ok hC hr w
        have hs := ok_size hC.tab hq w
        simp only [List.mapM_cons, Sem.run_bind, hs, Result.andThen_ok, Sem.run_pure, ih]
      · cases h
    · cases h
theorem place_ok (hC : OkCx C) {t : TypeId} {pl : Nat → Option (Nat × Nat)} {ps : List (Nat × Value)} {cs : List Value} (hp : place C.T t = some pl) (hf : fillL pl (zc C.T t) ps = some cs) :
    (Instr.build t ps.toArray).run C.P w = .ok (.agg cs.toArray) w := by
  unfold place at hp
  split at hp
  · rename_i i hi
    obtain ⟨u, hu, hd, hr⟩ := ok_und hC.tab hi
    obtain ⟨z, hz, hzr⟩ := ok_zero hC.tab hi
    have hz' : zc C.T t = z.cells.toList := by simp [zc, hi, hz]
    rw [hz'] at hf
    split at hp
    · rename_i fs hfs
      rw [hfs] at hd
      obtain ⟨l, rfl, hl⟩ := mkTD_struct hd
      split at hp
      · rename_i pls hpls
        simp only [Option.some.injEq] at hp
        subst hp
        have hm := places_ok hC (l := l.toList) (by rw [hl]; exact hpls) w
        have hfill := fill_eq _ ps _ cs hf
        rw [Array.toArray_toList] at hfill
        have hfun : (fun x => pls.toArray[x]?) = nthP pls := by funext x; simp [nthP_eq]
        obtain ⟨ll⟩ := l
        simp only [Instr.build, Sem.run_bind, hzr, hr, Result.andThen_ok, List.mapM_toArray, Sem.run_map, hm]
        simp only [hfun, hfill, Sem.run_pure]
      · cases hp
    · rename_i n e he
      rw [he] at hd
      obtain rfl := mkTD_arr hd
      split at hp
      · rename_i q hq
        simp only [Option.some.injEq] at hp
        subst hp
        have hs := ok_size hC.tab hq w
        have := fill_eq _ ps _ cs hf
        rw [Array.toArray_toList] at this
        simp [Instr.build, hzr, hr, hs, this]
      · cases hp
    · cases hp
  · cases hp
end
end Go.Sx
