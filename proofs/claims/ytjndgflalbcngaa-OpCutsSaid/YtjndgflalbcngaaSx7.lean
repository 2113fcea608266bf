/- The reading of any operation, of a region's operations, is sound. -/
import Derived.Test.YtjndgflalbcngaaSx6
set_option linter.unusedVariables false
set_option linter.unusedSimpArgs false
namespace Go.Sx

theorem CallK.mono {P : Program} {f : FuncId} {args : Array Value} {w : World} {K K' : Value → World → Prop} (hk : ∀ v w', K v w' → K' v w') (h : CallK P f args w K) : CallK P f args w K' :=
  Calls.mono h fun e w' he => by
    cases e with
    | returned v => exact hk _ _ he
    | panicked c => exact he.elim
    | outgrown => exact he.elim
section
variable {C : Cx} {w : World} {K : Value → World → Prop}

theorem callV_ok (hC : OkCx C) {f : Value} {args : List Value} (h : CallV C f args w K) :
    ∃ d, (Deferred.ofValue f args.toArray).run C.P w = .ok d w ∧ After C.P ((invoke d.target d.args).run C.P w) K := by
  unfold CallV at h
  split at h
  · rename_i fn first cap
    split at h
    · rename_i g
      cases hb : C.F g with
      | false => rw [hb] at h; exact h.elim
      | true =>
        rw [hb] at h
        obtain ⟨fn, h1, h2, h3⟩ := hC.fns g hb
        refine ⟨{ target := .fn (.func g) cap, args := first ++ args.toArray }, rfl, ?_⟩
        have hn : fn.body.isNone = false := by cases hbb : fn.body <;> simp_all
        have : (invoke (.fn (.func g) cap) (first ++ args.toArray)).run C.P w = .ok (.enter g (first.toList ++ args ++ cap.toList).toArray) w := by
          simp only [invoke, callFunc, Sem.run_bind, run_program, Result.andThen_ok, h1]
          rw [if_neg (by simpa using h3), if_neg (by simp [hn])]
          simp only [Sem.run_pure]
          congr 2
          apply Array.ext'
          simp
        rw [this]
        exact h
    · exact h.elim
  · exact h.elim
theorem blt_ok (hC : OkCx C) {b : Builtin} {ats : Array TypeId} {ty : TypeId} {cs : Array Bool} {args : List Value} (h : bltK C b ats ty args w K) :
    After C.P ((builtin b ats ty cs args.toArray).run C.P w) K := by
  unfold bltK at h
  split at h
  · exact runV_ok (h.mono (by intro v w' h; obtain ⟨a, n, c, rfl, hk⟩ := dS_elim h; exact hk))
  · exact runV_ok (h.mono (by intro v w' h; obtain ⟨n, rfl, hk⟩ := dI_elim h; exact hk))
  · exact runV_ok h
  · obtain ⟨x, r, rfl, h1⟩ := dCons_elim h
    obtain ⟨y, r', rfl, h2⟩ := dCons_elim h1
    obtain ⟨rfl, h3⟩ := dNil_elim h2
    clear h1 h2 h
    have h := h3
    clear h3
    unfold dI2 at h
    split at h
    · split at h
      · exact runV_ok (.of (w' := w) (by simp only [Builtin.min_, List.toList_toArray, List.foldlM_cons, List.foldlM_nil, Builtin.min2, Sem.run_bind, Sem.run_pure, Result.andThen_ok]; rfl) h)
      · exact h.elim
    · exact h.elim
  · obtain ⟨x, r, rfl, h1⟩ := dCons_elim h
    obtain ⟨y, r', rfl, h2⟩ := dCons_elim h1
    obtain ⟨rfl, h3⟩ := dNil_elim h2
    clear h1 h2 h
    have h := h3
    clear h3
    unfold dI2 at h
    split at h
    · split at h
      · exact runV_ok (.of (w' := w) (by simp only [Builtin.max_, List.toList_toArray, List.foldlM_cons, List.foldlM_nil, Builtin.max2, Sem.run_bind, Sem.run_pure, Result.andThen_ok]; rfl) h)
      · exact h.elim
    · exact h.elim
  · split at h
    · rename_i t ts hts
      split at h
      · rename_i v vs
        split at h
        · rename_i i hi
          obtain ⟨u, hu, hd, hr⟩ := ok_und hC.tab hi
          have hg : ats[0]? = some t := by rw [← Array.getElem?_toList, hts]; rfl
          split at h
          · rename_i e he
            rw [he] at hd
            obtain rfl := mkTD_slice hd
            obtain ⟨a, n, c, rfl, h⟩ := dS_elim h
            refine runV_ok (.of (w' := w) (v := .int .i64 n) ?_ h)
            simp [Builtin.len_, hg, hr, goInt]
          · rename_i he
            rw [he] at hd
            obtain rfl := mkTD_str hd
            obtain ⟨s, rfl, h⟩ := dStr_elim h
            refine runV_ok (.of (w' := w) (v := .int .i64 s.size) ?_ h)
            simp [Builtin.len_, hg, hr, goInt]
          · exact runV_ok (h.mono (by intro v w' h; obtain ⟨n, rfl, hk⟩ := dI_elim h; exact hk))
        · exact h.elim
      · exact h.elim
    · exact h.elim
  · exact runV_ok (h.mono (by intro v w' h; obtain ⟨n, rfl, hk⟩ := dI_elim h; exact hk))
  · exact h.elim
end

theorem cond_elim {b : Bool} {p : Prop} (h : cond b p False) : b = true ∧ p := by
  cases b with
  | true => exact ⟨rfl, h⟩
  | false => exact h.elim
/-- **The reading of an operation is sound.** -/
theorem evOp_sound {C : Cx} (hC : OkCx C) {o : Oper} {ρ : Env} {w : World} {K : Value → World → Prop} (h : evOp C o ρ w K) : After C.P ((execOp (ev ρ) o).run C.P w) K := by
  unfold evOp at h
  unfold execOp
  cases hop : o.op <;> simp only [hop] at h ⊢ <;> try exact h.elim
  case move x => exact h
  case assign x => exact h
  case pick c a b =>
    split at h
    · rename_i t ht
      rw [ht]
      cases t
      · exact h
      · exact h
    · exact h.elim
  case alloc t =>
    split at h
    · rename_i i hi
      exact alloc_ok hC hi (cond_elim h).2
    · exact h.elim
  case box t x => exact box_ok h
  case build t ps =>
    split at h
    · rename_i pl hpl
      split at h
      · rename_i cs hcs
        rw [evParts_eq] at hcs
        refine runV_ok (.of (w' := w) (v := .agg cs.toArray) ?_ h)
        have := place_ok (w := w) hC hpl hcs
        rw [← this]
        congr 2
        apply Array.ext'
        simp
      · exact h.elim
    · exact h.elim
  case buildSlice t len ps =>
    split at h
    · rename_i i hi
      split at h
      · rename_i e he
        split at h
        · rename_i q hq
          obtain ⟨h1, h⟩ := cond_elim h
          obtain ⟨h2, h⟩ := cond_elim h
          split at h
          · rename_i cs hcs
            rw [evParts_eq] at hcs
            have := buildSlice_ok (w := w) hC hi he hq h1 (Nat.eq_of_beq_eq_true h2) hcs
            refine runV_ok (.of (w' := w.alloc (.cells cs.toArray e)) (v := .slice (some ⟨w.heap.size, 0, none⟩) len len) ?_ h)
            rw [← this]
            congr 2
            apply Array.ext'
            simp
          · exact h.elim
        · exact h.elim
      · exact h.elim
    · exact h.elim
  case load t x =>
    split at h
    · rename_i p hp
      rw [hp]
      exact load_ok hC h
    · exact h.elim
  case store t x y =>
    split at h
    · rename_i p hp
      rw [hp]
      exact store_ok hC h
    · exact h.elim
  case nilCheck x =>
    split at h
    · rename_i p hp
      obtain ⟨a, rfl, h'⟩ := wA_elim h
      rw [hp]
      exact h'
    · exact h.elim
  case binOp op t x y yt =>
    split at h
    · rename_i i hi
      exact runV_ok (binK_ok hC hi (by rintro v rfl; rfl) (by rintro v rfl; rfl) h)
    · exact h.elim
  case unOp op t x =>
    split at h
    · rename_i b hb
      rw [hb]
      exact h
    · rename_i k m hb
      rw [hb]
      exact h
    · rename_i k m hb
      rw [hb]
      exact h
    · exact h.elim
  case convert src dst x =>
    split at h
    · rename_i i hi
      exact runV_ok (convK_ok hC hi h)
    · exact h.elim
  case makeInterface t x =>
    split at h
    · rename_i i hi
      obtain ⟨u, hu, hd, hr⟩ := ok_und hC.tab hi
      split at h
      · exact h.elim
      · exact h.elim
      · rename_i h1 h2
        refine runV_ok (.of (w' := w) (v := .iface t (ev ρ x)) ?_ h)
        simp only [Instr.makeInterface, Sem.run_bind, hr, Result.andThen_ok]
        split
        · rename_i ms; exact (h1 hd.symm).elim
        · rfl
    · exact h.elim
  case makeFunc fn first captured =>
    refine runV_ok (.of (w' := w) (v := .func fn (evArgs ρ first.toList).toArray (evArgs ρ captured.toList).toArray) ?_ h)
    simp only [Instr.makeFunc, Sem.run_pure, evArgs_eq]
    congr 2 <;> (apply Array.ext'; simp)
  case makeMap t r => exact runV_ok (by rw [optEv_eq] at h; exact h.mono (by intro v w' h; obtain ⟨n, rfl, hk⟩ := dM_elim h; exact hk))
  case makeSlice t l c => exact runV_ok (h.mono (by intro v w' h; obtain ⟨a, n, c, rfl, hk⟩ := dS_elim h; exact hk))
  case slice t x lo hi mx =>
    split at h
    · exact h.elim
    · split at h
      · rename_i i hi'
        simp only [optEv_eq] at h
        split at h
        · rename_i e he
          split at h
          · rename_i a n c hx
            split at h
            · rename_i q hq
              rw [hx]
              exact runV_ok (slice_ok hC hi' he hq h)
            · exact h.elim
          · exact h.elim
        · exact runV_ok (h.mono (by intro v w' h; exact (dLf_elim h).2))
      · exact h.elim
  case fieldAddr t x f =>
    split at h
    · rename_i i hi
      split at h
      · rename_i fs hfs
        split at h
        · rename_i p hp
          split at h
          · rename_i q hq
            cases hz : Nat.beq q.size 0 with
            | true => rw [hz] at h; exact h.elim
            | false =>
              rw [hz] at h
              simp only [cond_false] at h
              split at h
              · rename_i p' hp'
                obtain ⟨a, rfl, h'⟩ := wA_elim h
                rw [hp']
                exact runV_ok (.of (fieldAddr_ok hC hi hfs hp hq hz) h')
              · exact h.elim
          · exact h.elim
        · exact h.elim
      · exact h.elim
    · exact h.elim
  case field t x f =>
    split at h
    · rename_i i hi
      split at h
      · rename_i fs hfs
        split at h
        · rename_i p hp
          split at h
          · rename_i cs hcs
            rw [hcs]
            exact runV_ok (field_ok hC hi hfs hp h)
          · exact h.elim
        · exact h.elim
      · exact h.elim
    · exact h.elim
  case indexAddr t x ix =>
    split at h
    · rename_i i hi
      split at h
      · rename_i k j hj
        split at h
        · rename_i e he
          split at h
          · rename_i q hq
            split at h
            · rename_i a n c hx
              rw [hx, hj]
              exact runV_ok (indexSl_ok hC hi he hq h)
            · exact h.elim
          · exact h.elim
        · rename_i n e he
          split at h
          · rename_i q hq
            split at h
            · rename_i p hx
              rw [hx, hj]
              exact runV_ok (indexArr_ok hC hi he hq h)
            · exact h.elim
          · exact h.elim
        · exact h.elim
      · exact h.elim
    · exact h.elim
  case index t x ix =>
    split at h
    · rename_i i hi
      split at h
      · rename_i k j hj
        split at h
        · rename_i he
          split at h
          · rename_i s hx
            rw [hx, hj]
            exact runV_ok (indexStr_ok hC hi he h)
          · exact h.elim
        · rename_i n e he
          split at h
          · rename_i q hq
            split at h
            · exact h.elim
            · rename_i hag
              split at h
              · split at h
                · rename_i cs hx
                  rw [hx, hj]
                  exact runV_ok (indexAgg_ok hC hi he hq hag h)
                · exact h.elim
              · exact h.elim
          · exact h.elim
        · exact h.elim
      · exact h.elim
    · exact h.elim
  case lookup t x ix ok => exact runV_ok (h.mono (by intro v w' h; exact dR_elim h))
  case mapUpdate t m k x => exact runU_ok h
  case insert t m k x => exact runU_ok h
  case typeAssert x xt t ok =>
    refine runV_ok (h.mono ?_)
    intro v w' h
    cases ok with
    | true =>
      simp only [cond_true] at h
      obtain ⟨l, rfl, h1⟩ := dT_elim h
      obtain ⟨c0, l1, rfl, h2⟩ := dCons_elim h1
      obtain ⟨c1, l2, rfl, h3⟩ := dCons_elim (d1_elim h2)
      obtain ⟨b, rfl, h4⟩ := dB_elim h3
      obtain ⟨rfl, h5⟩ := dNil_elim h4
      exact h5
    | false =>
      simp only [cond_false] at h
      exact d1_elim h
  case extract x i =>
    split at h
    · rename_i vs hx
      split at h
      · rename_i v hv
        rw [nthV_eq, Array.getElem?_toList] at hv
        rw [hx]
        exact runV_ok (.of (w' := w) (v := v) (by simp [Instr.extract, hv]) h)
      · exact h.elim
    · exact h.elim
  case call c =>
    split at h
    · rename_i b hb
      have := blt_ok (cs := c.args.map fun | .const _ => true | _ => false) hC h
      simp only [resolve, hb, Sem.run_bind, Sem.run_pure, Result.andThen_ok, invoke]
      rw [evArgs_eq] at this
      have e : (List.map (ev ρ) c.args.toList).toArray = c.args.map (ev ρ) := by apply Array.ext'; simp
      rw [e] at this
      exact this
    · rename_i f hf
      obtain ⟨d, hd, hk⟩ := callV_ok hC h
      rw [evArgs_eq] at hd
      have e : (List.map (ev ρ) c.args.toList).toArray = c.args.map (ev ρ) := by apply Array.ext'; simp
      rw [e] at hd
      simp only [resolve, hf, Sem.run_bind, hd, Result.andThen_ok]
      unfold After at hk ⊢
      split at hk
      · exact dR_elim hk
      · exact dR_elim hk
      · exact hk.mono (by intro v w' h; exact dR_elim h)
      · exact hk.elim
    · exact h.elim
end Go.Sx
