/- The reading is sound: an operation, a region's operations. -/
import Derived.Test.YtjndgflalbcngaaSx2
set_option linter.unusedVariables false
set_option linter.unusedSimpArgs false
namespace Go.Sx

structure OkCx (C : Cx) : Prop where
  tab : OkTab C.P C.T
  fns : ∀ f, C.F f = true → ∃ fn, C.P.funcs[f]? = some fn ∧ fn.body.isSome = true ∧ (fn.name == "runtime.NumGoroutine") = false
  mixed : C.P.follows .mixedOrders = true

structure Rel (n : Nat) (ρ : Env) (a : Act) : Prop where
  defers : a.defers = []
  size : a.tmps.size = n
  get : ∀ t, a.tmps.getD t undef = ρ t
theorem Rel.eval {n : Nat} {ρ : Env} {a : Act} (h : Rel n ρ a) : a.eval = ev ρ := by
  funext x
  cases x with
  | tmp t => exact h.get t
  | _ => rfl
theorem Rel.put {n : Nat} {ρ : Env} {a : Act} (h : Rel n ρ a) {d : Option Nat} (v : Value) (hd : dstOk n d = true) : Rel n (put ρ d v) (a.put d v) := by
  cases d with
  | none => exact h
  | some t =>
    have ht : t < n := by simpa [dstOk, Nat.blt_eq] using hd
    refine ⟨h.defers, by simpa [Act.put] using h.size, fun s => ?_⟩
    simp only [Act.put, Sx.put]
    have hs := h.get s
    cases hb : Nat.beq s t with
    | true =>
      have := Nat.eq_of_beq_eq_true hb
      subst this
      simp [Array.getD_eq_getD_getElem?, Array.getElem?_setIfInBounds, h.size, ht]
    | false =>
      have hne : t ≠ s := fun e => by subst e; simp [Nat.beq_refl] at hb
      simp only [cond_false]
      rw [← hs]
      simp [Array.getD_eq_getD_getElem?, Array.getElem?_setIfInBounds_ne hne]
theorem Rel.put_same {n : Nat} {ρ : Env} {a : Act} (h : Rel n ρ a) {t : Nat} {v : Value} (hv : ρ t = v) : Rel n (Sx.put ρ (some t) v) a := by
  refine ⟨h.defers, h.size, fun s => ?_⟩
  simp only [Sx.put]
  cases hb : Nat.beq s t with
  | true =>
    have := Nat.eq_of_beq_eq_true hb
    subst this
    rw [h.get, hv]; rfl
  | false => exact h.get s

/-! ### Types -/
section
variable {P : Program} {T : Tab} (hT : OkTab P T)
include hT
theorem ok_info {t : TypeId} {i : TI} (h : T t = some i) : ∃ inf u z, P.info? t = some inf ∧ P.underlying t = some u ∧ mkTD u = i.d ∧ inf.size = i.size ∧ inf.bytes = i.bytes ∧
    inf.zero = some z ∧ z.cells.toList = i.zero := by
  have h := hT t i h
  unfold viewTI at h
  split at h
  · rename_i inf u h1 h2
    split at h
    · rename_i z hz
      simp only [Option.some.injEq, Prod.mk.injEq] at h
      exact ⟨inf, u, z, h1, h2, h.1, h.2.1, h.2.2.1, hz, h.2.2.2⟩
    · cases h
  · cases h
theorem ok_size {t : TypeId} {i : TI} (h : T t = some i) (w : World) : (sizeOf t).run P w = .ok i.size w := by
  obtain ⟨inf, u, z, h1, h2, h3, h4, h5, h6, h7⟩ := ok_info hT h
  simp [sizeOf, typeInfo, h1, h4]
theorem ok_und {t : TypeId} {i : TI} (h : T t = some i) : ∃ u, P.underlying t = some u ∧ mkTD u = i.d ∧ ∀ w, (underlying t).run P w = .ok u w := by
  obtain ⟨inf, u, z, h1, h2, h3, h4, h5, h6, h7⟩ := ok_info hT h
  exact ⟨u, h2, h3, fun w => by simp [underlying, h2]⟩
end
theorem ok_zero {P : Program} {T : Tab} (hT : OkTab P T) {t : TypeId} {i : TI} (h : T t = some i) : ∃ z, z.cells.toList = i.zero ∧ ∀ w, (zeroValue t).run P w = .ok z w := by
  obtain ⟨inf, u, z, h1, h2, h3, h4, h5, h6, h7⟩ := ok_info hT h
  exact ⟨z, h7, fun w => by simp [zeroValue, typeInfo, h1, h6]⟩
theorem ok_bytes {P : Program} {T : Tab} (hT : OkTab P T) {t : TypeId} {i : TI} (h : T t = some i) : ∃ inf, P.info? t = some inf ∧ inf.size = i.size ∧ inf.bytes = i.bytes ∧ ∀ w, (typeInfo t).run P w = .ok inf w := by
  obtain ⟨inf, u, z, h1, h2, h3, h4, h5, h6, h7⟩ := ok_info hT h
  exact ⟨inf, h1, h4, h5, fun w => by simp [typeInfo, h1]⟩
theorem mkTD_slice {u : TypeDesc} {e : TypeId} (h : mkTD u = .slice e) : u = .slice e := by
  cases u <;> simp [mkTD] at h; subst h; rfl
theorem mkTD_arr {u : TypeDesc} {n : Nat} {e : TypeId} (h : mkTD u = .arr n e) : u = .array n e := by
  cases u <;> simp [mkTD] at h; obtain ⟨rfl, rfl⟩ := h; rfl
theorem mkTD_struct {u : TypeDesc} {fs : List (Nat × TypeId)} (h : mkTD u = .struct fs) : ∃ l, u = .struct l ∧ l.toList.map (fun f => (f.offset, f.type)) = fs := by
  cases u <;> simp [mkTD] at h; exact ⟨_, rfl, by simpa using h⟩
theorem mkTD_int {u : TypeDesc} {k : IntKind} (h : mkTD u = .int k) : u = .int k := by
  cases u <;> simp [mkTD] at h; subst h; rfl
theorem mkTD_str {u : TypeDesc} (h : mkTD u = .str) : u = .string := by
  cases u <;> simp [mkTD] at h; rfl

theorem ok_agg {P : Program} {T : Tab} (hT : OkTab P T) {t : TypeId} {i : TI} (h : T t = some i) (w : World) : (isAgg t).run P w = .ok i.agg w := by
  obtain ⟨u, hu, hd, hr⟩ := ok_und hT h
  simp only [isAgg, Sem.run_bind, hr, Result.andThen_ok]
  unfold TI.agg
  rw [← hd]
  cases u <;> rfl

/-! ### Loads, stores -/
theorem run_load_some {P : Program} {w : World} {a : Addr} {v : Value} (h : w.cell? a = some v) : (load a).run P w = .ok v w := by
  simp [h]
theorem ld1_elim {l : Lf} {a : Addr} {w : World} {K : Value → Prop} (h : ld1 l a w K) : ∃ v, w.cell? a = some v ∧ K v := by
  cases l with
  | int k => obtain ⟨n, h1, h2⟩ := h; exact ⟨_, h1, h2⟩
  | bool => obtain ⟨n, h1, h2⟩ := h; exact ⟨_, h1, h2⟩
  | str => obtain ⟨n, h1, h2⟩ := h; exact ⟨_, h1, h2⟩
  | ptr => obtain ⟨n, h1, h2⟩ := h; exact ⟨_, h1, h2⟩
  | sl => obtain ⟨b, n, c, h1, h2⟩ := h; exact ⟨_, h1, h2⟩
  | map => obtain ⟨n, h1, h2⟩ := h; exact ⟨_, h1, h2⟩
  | any => obtain ⟨v, h1, _, h2⟩ := h; exact ⟨_, h1, h2⟩
theorem ldCells_elim {P : Program} : ∀ {ls : List Lf} {a : Addr} {i : Nat} {w : World} {K : List Value → Prop} (acc : Array Value), ldCells ls a i w K →
    ∃ vs, (loadCellsFrom a i ls.length acc).run P w = .ok (acc ++ vs.toArray) w ∧ vs.length = ls.length ∧ K vs
  | [], a, i, w, K, acc, h => ⟨[], by simp [loadCellsFrom], rfl, h⟩
  | l :: ls, a, i, w, K, acc, h => by
    obtain ⟨v, hc, h⟩ := ld1_elim h
    obtain ⟨vs, hr, hl, hk⟩ := ldCells_elim (P := P) (acc.push v) h
    refine ⟨v :: vs, ?_, by simp [hl], hk⟩
    simp only [List.length_cons, loadCellsFrom, Sem.run_bind, run_load_some hc, Result.andThen_ok, hr]
    congr 1
    apply Array.ext'
    simp
theorem ldT_elim {P : Program} {T : Tab} (hT : OkTab P T) {t : TypeId} {a : Addr} {w : World} {K : Value → Prop} (h : ldT T t a w K) : ∃ v, (loadVar t a).run P w = .ok v w ∧ K v := by
  unfold ldT at h
  split at h
  · rename_i i hi
    have ha := ok_agg hT hi w
    have hs := ok_size hT hi w
    split at h
    · rename_i hag
      rw [hag] at ha
      cases hb : Nat.beq i.lf.length i.size with
      | false => rw [hb] at h; exact h.elim
      | true =>
        rw [hb] at h
        obtain ⟨vs, hr, hl, hk⟩ := ldCells_elim (P := P) #[] h
        refine ⟨.agg vs.toArray, ?_, hk⟩
        have hn := Nat.eq_of_beq_eq_true hb
        rw [hn] at hr
        simp [loadVar, ha, hs, loadCells, hr]
    · rename_i hag
      rw [hag] at ha
      split at h
      · obtain ⟨v, hc, hk⟩ := ld1_elim h
        exact ⟨v, by simp [loadVar, ha, hc], hk⟩
      · exact h.elim
  · exact h.elim
theorem plain_one {v : Value} (h : Value.plain v = true) : v.oneCell' = true := by cases v <;> first | rfl | (simp [Value.plain] at h)
theorem plain_cells {v : Value} (h : Value.plain v = true) : v.cells = #[v] := by cases v <;> first | rfl | (simp [Value.plain] at h)
theorem St_elim {P : Program} {a : Addr} {v : Value} {w : World} {K : World → Prop} (hv : Value.plain v = true) (h : St a v w K) : (store a v).run P w = .ok () (w.setCell a v) ∧ K (w.setCell a v) := by
  obtain ⟨⟨u, hu⟩, hf, hk⟩ := h
  refine ⟨?_, hk⟩
  rw [run_store P w a v .plain (plain_one hv)]
  simp [hu, hf]
theorem stCells_elim {P : Program} : ∀ {vs : List Value} {a : Addr} {i : Nat} {w : World} {K : World → Prop}, stCells vs a i w K → ∃ w', (storeCells a vs i).run P w = .ok () w' ∧ K w'
  | [], a, i, w, K, h => ⟨w, by simp [storeCells], h⟩
  | v :: vs, a, i, w, K, h => by
    simp only [stCells] at h
    cases hp : Value.plain v with
    | false => rw [hp] at h; exact h.elim
    | true =>
      rw [hp] at h
      have h1 : St (a.add i) v w (fun w' => stCells vs a (i + 1) w' K) := h
      obtain ⟨hr, h2⟩ := St_elim (P := P) hp h1
      obtain ⟨w', hr', hk⟩ := stCells_elim (P := P) h2
      exact ⟨w', by simp only [storeCells, Sem.run_bind, hr, Result.andThen_ok, hr'], hk⟩
theorem stT_elim {P : Program} {T : Tab} (hT : OkTab P T) {t : TypeId} {a : Addr} {v : Value} {w : World} {K : World → Prop} (h : stT T t a v w K) : ∃ w', (storeVar t a v).run P w = .ok () w' ∧ K w' := by
  unfold stT at h
  split at h
  · rename_i i hi
    have hs := ok_size hT hi w
    split at h
    · split at h
      · rename_i cs
        cases hb : Nat.beq cs.toList.length i.size with
        | false => rw [hb] at h; exact h.elim
        | true =>
          rw [hb] at h
          obtain ⟨w', hr, hk⟩ := stCells_elim (P := P) h
          have hn := Nat.eq_of_beq_eq_true hb
          refine ⟨w', ?_, hk⟩
          simp only [Array.length_toList] at hn
          simp [storeVar, hs, Value.cells, hn, hr]
      · exact h.elim
    · cases hb : Nat.beq 1 i.size with
      | false => rw [hb] at h; exact h.elim
      | true =>
        rw [hb] at h
        cases hp : Value.plain v with
        | false => rw [hp] at h; exact h.elim
        | true =>
          rw [hp] at h
          obtain ⟨hr, hk⟩ := St_elim (P := P) hp h
          have hn := Nat.eq_of_beq_eq_true hb
          refine ⟨_, ?_, hk⟩
          have hr' : (store (a.add 0) v).run P w = .ok () (w.setCell a v) := by simpa [Addr.add] using hr
          simp [storeVar, hs, plain_cells hp, hn, storeCells, hr']
  · exact h.elim
theorem wA_elim {p : Option Addr} {K : Addr → Prop} (h : wA p K) : ∃ a, p = some a ∧ K a := by
  cases p with
  | some a => exact ⟨a, rfl, h⟩
  | none => exact h.elim
theorem RunK_elim {P : Program} {s : Sem Value} {w : World} {K : Value → World → Prop} (h : RunK P s w K) : ∃ v w', s.run P w = .ok v w' ∧ K v w' := by
  unfold RunK at h
  split at h
  · rename_i v w' hr; exact ⟨v, w', hr, h⟩
  · exact h.elim
theorem RunU_elim {P : Program} {s : Sem Unit} {w : World} {K : World → Prop} (h : RunU P s w K) : ∃ w', s.run P w = .ok () w' ∧ K w' := by
  unfold RunU at h
  split at h
  · rename_i v w' hr; exact ⟨w', hr, h⟩
  · exact h.elim
end Go.Sx
