/- The reading of one operation is sound: addresses, slices, calls; all together. -/
import Derived.Test.YtjndgflalbcngaaSx5
set_option linter.unusedVariables false
set_option linter.unusedSimpArgs false
namespace Go.Sx

theorem range_mod (z : List Value) : ∀ (n : Nat), ((Array.range (n * z.length)).map (z.toArray[· % z.toArray.size]!)).toList = (List.replicate n z).flatten := by
  intro n
  apply List.ext_getElem?
  intro i
  by_cases hz : z.length = 0
  · obtain rfl : z = [] := List.eq_nil_of_length_eq_zero hz
    simp
  · have hl : ((List.replicate n z).flatten).length = n * z.length := by simp
    by_cases hi : i < n * z.length
    · have h1 : ((Array.range (n * z.length)).map (z.toArray[· % z.toArray.size]!)).toList[i]? = some (z.toArray[i % z.toArray.size]!) := by
        simp [hi]
      rw [h1]
      have h2 : ∀ (n i : Nat), i < n * z.length → (List.replicate n z).flatten[i]? = some (z.toArray[i % z.toArray.size]!) := by
        intro n
        induction n with
        | zero => intro i h; simp at h
        | succ n ih =>
          intro i h
          rw [List.replicate_succ, List.flatten_cons, List.getElem?_append]
          by_cases hlt : i < z.length
          · rw [if_pos hlt]
            simp [Nat.mod_eq_of_lt hlt, hlt]
          · rw [if_neg hlt]
            rw [ih (i - z.length) (by rw [Nat.succ_mul] at h; omega)]
            have : (i - z.length) % z.length = i % z.length := by
              conv => rhs; rw [show i = (i - z.length) + z.length by omega]
              simp
            simp [this]
      exact (h2 n i hi).symm
    · rw [List.getElem?_eq_none (by simp; omega), List.getElem?_eq_none (by rw [hl]; omega)]

section
variable {C : Cx} {w : World} {K : Value → World → Prop}

theorem buildSlice_ok (hC : OkCx C) {t e : TypeId} {i q : TI} {len : Nat} {ps : List (Nat × Value)} {cs : List Value} (hi : C.T t = some i) (hd : i.d = .slice e) (hq : C.T e = some q)
    (hn : Nat.ble (len * q.size) 16777216 = true) (hz : q.zero.length = q.size) (hf : fillL (fun j => some (j * q.size, q.size)) (reps q.zero len) ps = some cs) :
    (Instr.buildSlice t len ps.toArray).run C.P w = .ok (.slice (some ⟨w.heap.size, 0, none⟩) len len) (w.alloc (.cells cs.toArray e)) := by
  obtain ⟨u, hu, hdu, hr⟩ := ok_und hC.tab hi
  rw [hd] at hdu
  obtain rfl := mkTD_slice hdu
  have hs := ok_size hC.tab hq w
  obtain ⟨z, hzz, hzr⟩ := ok_zero hC.tab hq
  have hn := Nat.le_of_ble_eq_true hn
  have hfill := fill_eq _ ps _ cs hf
  have hrep : (reps q.zero len).toArray = (Array.range (len * q.size)).map (z.cells[· % z.cells.size]!) := by
    rw [reps_eq, ← range_mod q.zero len, Array.toArray_toList, hz, ← hzz]
  rw [hrep] at hfill
  simp only [Instr.buildSlice, Sem.run_bind, hr, Result.andThen_ok, hs]
  rw [if_neg (by omega)]
  by_cases h0 : len * q.size = 0
  · have hfill' : Instr.fill (fun i => some (i * q.size, q.size)) ((Array.range (len * q.size)).map (fun x => (#[] : Array Value)[x % (#[] : Array Value).size]!)) ps = some cs.toArray := by
      have e0 : ∀ f : Nat → Value, (Array.range 0).map f = #[] := fun f => by simp [Array.range]
      rw [h0, e0] at hfill
      rw [h0, e0]
      exact hfill
    simp only [h0, if_true] at hfill' ⊢
    simp only [Sem.run_pure, Result.andThen_ok, hfill', newRow, Sem.run_bind, run_newObj]
    rfl
  · rw [if_neg h0]
    simp only [Sem.run_bind, hzr, Sem.run_pure, Result.andThen_ok, hfill, newRow, run_newObj]
    rfl

theorem RunK.pure {s : Sem Value} {v : Value} (hr : s.run C.P w = .ok v w) (h : K v w) : RunK C.P s w K := .of hr h
theorem convK_ok (hC : OkCx C) {src dst : TypeId} {x : Value} {i : TI} (hi : C.T src = some i) (h : convK C.P C.T i src dst x w K) : RunK C.P (convert src dst x) w K := by
  unfold convK at h
  split at h
  · split at h
    · rename_i k n j hj
      obtain ⟨u, hu, hd, hr⟩ := ok_und hC.tab hj
      obtain ⟨u', hu', hd', hr'⟩ := ok_und hC.tab hi
      split at h
      · rename_i k' hk
        rw [hk] at hd
        obtain rfl := mkTD_int hd
        split at h
        · rename_i k0 n
          refine .of (w' := w) (v := .int k' (k'.wrap n)) ?_ h
          simp only [convert, Sem.run_bind, hr', hr, Result.andThen_ok]
          cases u' <;> rfl
        · exact h.elim
      · exact h.mono (by intro v w' h; exact d1_elim h)
    · exact h.elim
  · exact h.mono (by intro v w' h; exact d1_elim h)
theorem part_ok (hC : OkCx C) {t : TypeId} {cs : Array Value} {off : Nat} {K : Value → Prop} (h : partK C.T t cs off K) : ∃ v, (part t cs off).run C.P w = .ok v w ∧ K v := by
  unfold partK at h
  split at h
  · rename_i i hi
    have ha := ok_agg hC.tab hi w
    have hs := ok_size hC.tab hi w
    split at h
    · rename_i hag
      rw [hag] at ha
      exact ⟨_, by simp [part, ha, hs], h⟩
    · rename_i hag
      rw [hag] at ha
      split at h
      · rename_i v hv
        rw [nthV_eq, Array.getElem?_toList] at hv
        exact ⟨v, by simp [part, ha, hv], h⟩
      · exact h.elim
  · exact h.elim
theorem optI_ok {P : Program} {x : Option Value} {Kp : Option Int → Prop} (h : optI x Kp) : ∃ l, Kp l ∧ ((x = none ∧ l = none) ∨ ∃ k n, x = some (.int k n) ∧ l = some n) := by
  unfold optI at h
  split at h
  · exact ⟨none, h, .inl ⟨rfl, rfl⟩⟩
  · split at h
    · exact ⟨_, h, .inr ⟨_, _, rfl, rfl⟩⟩
    · exact h.elim
theorem sliceBound_ok {P : Program} {k : IntKind} {n : Int} {y : Nat} {code : BoundsCode} {w : World} (h0 : 0 ≤ n) (h1 : n ≤ (y : Int)) : (Instr.sliceBound (.int k n) y code).run P w = .ok n.toNat w := by
  simp [Instr.sliceBound, asIntOf, h0, h1]
theorem slice_ok (hC : OkCx C) {t e : TypeId} {i q : TI} {a : Option Addr} {n c : Nat} {lo hi : Option Value} (hi' : C.T t = some i) (hd : i.d = .slice e) (hq : C.T e = some q)
    (h : optI lo fun l => optI hi fun h => SlK a n c q.size l h fun a' n' c' => K (.slice a' n' c') w) : RunK C.P (Instr.sliceAt t (.slice a n c) lo hi none) w K := by
  obtain ⟨u, hu, hdu, hr⟩ := ok_und hC.tab hi'
  rw [hd] at hdu
  obtain rfl := mkTD_slice hdu
  have hs := ok_size hC.tab hq w
  obtain ⟨l, h, hl⟩ := optI_ok (P := C.P) h
  obtain ⟨hh, h, hhi⟩ := optI_ok (P := C.P) h
  obtain ⟨b1, b2, h⟩ := h
  have hb : (Instr.sliceBounds true n c lo hi none).run C.P w = .ok ((l.map Int.toNat).getD 0, (hh.map Int.toNat).getD n, c) w := by
    rcases hhi with ⟨rfl, rfl⟩ | ⟨k, m, rfl, rfl⟩
    · rcases hl with ⟨rfl, rfl⟩ | ⟨k', m', rfl, rfl⟩
      · simp [Instr.sliceBounds]
      · have := b2 m' rfl
        simp only [Option.map_none, Option.getD_none] at this
        simp [Instr.sliceBounds, sliceBound_ok this.1 this.2]
    · have hm := b1 m rfl
      have e1 := sliceBound_ok (P := C.P) (k := k) (code := .sliceAcap) (w := w) hm.1 hm.2
      rcases hl with ⟨rfl, rfl⟩ | ⟨k', m', rfl, rfl⟩
      · simp [Instr.sliceBounds, e1]
      · have := b2 m' rfl
        simp only [Option.map_some, Option.getD_some] at this
        have e2 := sliceBound_ok (P := C.P) (k := k') (code := .sliceB) (w := w) this.1 this.2
        simp [Instr.sliceBounds, e1, e2]
  refine .of ?_ h
  simp only [Instr.sliceAt, Instr.slice, Sem.run_bind, hr, Result.andThen_ok, hb, hs, Sem.run_pure]
theorem fieldAddr_ok (hC : OkCx C) {t : TypeId} {i q : TI} {fs : List (Nat × TypeId)} {f : Nat} {p : Nat × TypeId} {a : Addr} (hi : C.T t = some i) (hd : i.d = .struct fs) (hp : nthF fs f = some p)
    (hq : C.T p.2 = some q) (hz : Nat.beq q.size 0 = false) : (Instr.fieldAt t (.pointer (some a)) f).run C.P w = .ok (.pointer (some (a.add p.1))) w := by
  obtain ⟨u, hu, hdu, hr⟩ := ok_und hC.tab hi
  rw [hd] at hdu
  obtain ⟨l, rfl, hl⟩ := mkTD_struct hdu
  rw [nthF_eq, ← hl, List.getElem?_map] at hp
  have hs := ok_size hC.tab hq w
  cases hf : l.toList[f]? with
  | none => rw [hf] at hp; cases hp
  | some fl =>
    rw [hf] at hp
    simp only [Option.map_some, Option.some.injEq] at hp
    subst hp
    rw [Array.getElem?_toList] at hf
    have hne : q.size ≠ 0 := fun e => by rw [e] at hz; cases hz
    simp only at hs
    simp [Instr.fieldAt, hr, hf, Instr.sureAddr, fieldPlace, hs, hne]
theorem field_ok (hC : OkCx C) {t : TypeId} {i : TI} {fs : List (Nat × TypeId)} {f : Nat} {p : Nat × TypeId} {cs : Array Value} (hi : C.T t = some i) (hd : i.d = .struct fs) (hp : nthF fs f = some p)
    (h : partK C.T p.2 cs p.1 fun v => K v w) : RunK C.P (Instr.field t (.agg cs) f) w K := by
  obtain ⟨u, hu, hdu, hr⟩ := ok_und hC.tab hi
  rw [hd] at hdu
  obtain ⟨l, rfl, hl⟩ := mkTD_struct hdu
  rw [nthF_eq, ← hl, List.getElem?_map] at hp
  obtain ⟨v, hv, hk⟩ := part_ok (w := w) hC h
  cases hf : l.toList[f]? with
  | none => rw [hf] at hp; cases hp
  | some fl =>
    rw [hf] at hp
    simp only [Option.map_some, Option.some.injEq] at hp
    subst hp
    rw [Array.getElem?_toList] at hf
    exact .of (w' := w) (by simp [Instr.field, hr, hf, asAgg, hv]) hk
theorem indexSl_ok (hC : OkCx C) {t e : TypeId} {i q : TI} {a : Option Addr} {n c : Nat} {k : IntKind} {j : Int} (hi : C.T t = some i) (hd : i.d = .slice e) (hq : C.T e = some q)
    (h : InB j n (wA a fun a => K (.pointer (some (a.add (j.toNat * q.size)))) w)) : RunK C.P (Instr.indexAt t (.slice a n c) (.int k j)) w K := by
  obtain ⟨u, hu, hdu, hr⟩ := ok_und hC.tab hi
  rw [hd] at hdu
  obtain rfl := mkTD_slice hdu
  have hs := ok_size hC.tab hq w
  obtain ⟨h0, h1, h⟩ := h
  obtain ⟨ad, rfl, h'⟩ := wA_elim h
  exact .of (w' := w) (by simp [Instr.indexAt, asIntOf, hr, hs, h0, h1]) h'
theorem indexArr_ok (hC : OkCx C) {t e : TypeId} {i q : TI} {p : Option Addr} {n : Nat} {k : IntKind} {j : Int} (hi : C.T t = some i) (hd : i.d = .arr n e) (hq : C.T e = some q)
    (h : wA p fun a => InB j n (K (.pointer (some (a.add (j.toNat * q.size)))) w)) : RunK C.P (Instr.indexAt t (.pointer p) (.int k j)) w K := by
  obtain ⟨u, hu, hdu, hr⟩ := ok_und hC.tab hi
  rw [hd] at hdu
  obtain rfl := mkTD_arr hdu
  have hs := ok_size hC.tab hq w
  obtain ⟨a, rfl, h'⟩ := wA_elim h
  obtain ⟨h0, h1, h⟩ := h'
  exact .of (w' := w) (by simp [Instr.indexAt, asIntOf, hr, hs, h0, h1, Instr.sureAddr]) h
theorem indexAgg_ok (hC : OkCx C) {t e : TypeId} {i q : TI} {cs : Array Value} {n : Nat} {k : IntKind} {j : Int} (hi : C.T t = some i) (hd : i.d = .arr n e) (hq : C.T e = some q) (hag : q.agg = false) {f : Lf}
    (h : InB j n (cond (Nat.beq q.size 1) (IxV cs.toList j.toNat fun v => dLf f v fun v' => K v' w) False)) : RunK C.P (Instr.index t (.agg cs) (.int k j)) w K := by
  obtain ⟨u, hu, hdu, hr⟩ := ok_und hC.tab hi
  rw [hd] at hdu
  obtain rfl := mkTD_arr hdu
  have hs := ok_size hC.tab hq w
  have ha := ok_agg hC.tab hq w
  rw [hag] at ha
  obtain ⟨h0, h1, h⟩ := h
  cases hb : Nat.beq q.size 1 with
  | false => rw [hb] at h; exact h.elim
  | true =>
    rw [hb] at h
    have h1' := Nat.eq_of_beq_eq_true hb
    obtain ⟨v, hv, h⟩ := h
    rw [nthV_eq, Array.getElem?_toList] at hv
    exact .of (w' := w) (by simp [Instr.index, asIntOf, hr, hs, h0, h1, part, ha, h1', hv]) (dLf_elim h).2
theorem indexStr_ok (hC : OkCx C) {t : TypeId} {i : TI} {s : ByteArray} {k : IntKind} {j : Int} (hi : C.T t = some i) (hd : i.d = .str)
    (h : InB j s.size (K (.int .u8 (sb s j.toNat)) w)) : RunK C.P (Instr.index t (.string s) (.int k j)) w K := by
  obtain ⟨u, hu, hdu, hr⟩ := ok_und hC.tab hi
  rw [hd] at hdu
  obtain rfl := mkTD_str hdu
  obtain ⟨h0, h1, h⟩ := h
  refine .of (w' := w) ?_ h
  have hlt : j.toNat < s.size := by omega
  have hg : s[j.toNat]? = some s[j.toNat] := by simp [hlt]
  simp [Instr.index, asIntOf, hr, h0, hg, sb]
end
end Go.Sx
