/- The reading along a script is sound for every order that the machine may draw. -/
import Derived.Test.YtjndgflalbcngaaSxC
set_option linter.unusedVariables false
set_option linter.unusedSimpArgs false
namespace Go.Sx

section
variable {C : Cx} {ops : Array Oper} {m : List Nat} {K : Env → World → Prop}

/-- The guard of an operation of the script, decided. -/
theorem evD_op {i : Nat} {s : Scr} {H : Held} {ρ : Env} {w : World} {o : Oper} (ho : ops.toList[i]? = some o) (h : evD C ops.toList m (.op i s) H ρ w K) :
    dstOk C.n o.dst = true ∧ (∀ p, o.guard = some p → ∀ d, gslot ops.toList p.1 = some d → d < C.n) ∧ ∃ ρ' : Env, (∀ t, ρ' t = ρ t) ∧
      ((wantE ops.toList o ρ = some true ∧ cond (isQ C o) (evOp C o ρ' w fun v w' => evD C ops.toList m s ((i, factsOf C o ρ' v) :: H) (put ρ' o.dst v) w' K)
          (evOp C o ρ' w fun v w' => heldH m i H w' (evD C ops.toList m s H (put ρ' o.dst v) w' K))) ∨
       (wantE ops.toList o ρ = some false ∧ evD C ops.toList m s H (put ρ' o.dst undef) w K)) := by
  simp only [evD, nthO_eq, ho] at h
  obtain ⟨hd, h⟩ := cond_elim h
  refine ⟨hd, ?_⟩
  cases hg : o.guard with
  | none =>
    simp only [hg] at h
    exact ⟨(by intro p hp; cases hp), ρ, fun _ => rfl, .inl ⟨by simp [wantE, hg], h⟩⟩
  | some p =>
    simp only [hg] at h
    obtain ⟨j, want⟩ := p
    simp only at h
    cases hsl : gslot ops.toList j with
    | none => rw [hsl] at h; exact h.elim
    | some d =>
      rw [hsl] at h
      simp only at h
      obtain ⟨hn, h⟩ := cond_elim h
      have hn' : d < C.n := by simpa [Nat.blt_eq] using hn
      refine ⟨(by rintro p ⟨⟩ d' hd'; rw [hsl] at hd'; cases hd'; exact hn'), ?_⟩
      have same : ∀ b, ρ d = .bool b → ∀ t, put ρ (some d) (.bool b) t = ρ t := by
        intro b hb t
        simp only [put]
        cases he : Nat.beq t d with
        | true => have := Nat.eq_of_beq_eq_true he; rw [this, hb]; rfl
        | false => rfl
      cases hr : ρ d <;> rw [hr] at h <;> try exact h.elim
      rotate_left
      · exact ⟨ρ, fun _ => rfl, .inr ⟨by simp [wantE, hg, hsl, hr], h⟩⟩
      rename_i b
      have hw : wantE ops.toList o ρ = some (b == want) := by simp [wantE, hg, hsl, hr]
      cases want <;> cases b <;> simp only [cond_true, cond_false] at h
      · exact ⟨_, same false hr, .inl ⟨by rw [hw]; rfl, h⟩⟩
      · exact ⟨_, same true hr, .inr ⟨by rw [hw]; rfl, h⟩⟩
      · exact ⟨_, same false hr, .inr ⟨by rw [hw]; rfl, h⟩⟩
      · exact ⟨_, same true hr, .inl ⟨by rw [hw]; rfl, h⟩⟩

/-- What has been taken ahead stays what it is, when the script goes on. -/
theorem Yq.congr {all : List Oper} (hns : ∀ o ∈ all, ∀ cs b, o.op ≠ .select cs b) {o : Oper} (ho : o ∈ all) {ρ ρ' : Env} {v : Value} {fs : List (Addr × Value)} (h : ∀ t ∈ looks all o, ρ t = ρ' t) (hy : Yq C all o ρ v fs) : Yq C all o ρ' v fs := by
  unfold Yq at *
  rw [← wantE_congr h, ← execOp_congr o (hns o ho) (ev_congr h)]
  exact hy
theorem put_other {ρ : Env} {d : Option Nat} {v : Value} {t : Nat} (h : d ≠ some t) : put ρ d v t = ρ t := by
  cases d with
  | none => rfl
  | some s =>
    simp only [put]
    cases hb : Nat.beq t s with
    | true => have := Nat.eq_of_beq_eq_true hb; exact (h (by rw [this])).elim
    | false => rfl
theorem put_here {ρ : Env} {v : Value} {t : Nat} : put ρ (some t) v t = v := by simp [put, Nat.beq_refl]
theorem act_other {a : Act} {d : Option Nat} {v : Value} {t : Nat} (h : d ≠ some t) : (a.put d v).tmps.getD t undef = a.tmps.getD t undef := by
  cases d with
  | none => rfl
  | some s =>
    have hne : s ≠ t := fun e => h (by rw [e])
    simp [Act.put, Array.getD_eq_getD_getElem?, Array.getElem?_setIfInBounds_ne hne]
theorem act_here {a : Act} {v : Value} {t : Nat} (h : t < a.tmps.size) : (a.put (some t) v).tmps.getD t undef = v := by
  simp [Act.put, Array.getD_eq_getD_getElem?, Array.getElem?_setIfInBounds, h]
theorem act_defers {a : Act} {d : Option Nat} {v : Value} : (a.put d v).defers = a.defers := by cases d <;> rfl
theorem act_size {a : Act} {d : Option Nat} {v : Value} : (a.put d v).tmps.size = a.tmps.size := by cases d <;> simp [Act.put]

theorem exAnc (hG : Good ops.toList m) {ex : List Nat} (hs : Shut ops.toList (· ∈ ex)) {i j : Nat} {o : Oper} (ho : ops.toList[i]? = some o) (hi : i ∈ ex) (h : anc m i j = true) : j ∈ ex :=
  hG i o ho j h (· ∈ ex) hs (hs i o ho hi)

/-- The script goes one operation ahead, that only computes or reads (or is passed over). -/
theorem Inv.ahead (hP : Pairs C ops.toList m) (hG : Good ops.toList m) (hns : ∀ o ∈ ops.toList, ∀ cs b, o.op ≠ .select cs b) {ex : List Nat} {H H' : Held} {ρ : Env} {w : World} {listed : Array Bool} {a : Act}
    (inv : Inv C ops m ex H ρ w listed a) {i : Nat} {o : Oper} {v : Value} {fs : List (Addr × Value)} (ho : ops[i]? = some o) (hq : isQ C o = true) (hd : SlotOk C ops.toList o) (hi : i ∉ ex)
    (he : ∀ e ∈ o.after.toList, Region.binds .any e = true → e.on ∈ ex) (hf : fs = [] ∨ (i, fs) ∈ H') (hH : ∀ p ∈ H, p ∈ H') (hh : heldP fs w) (hy : Yq C ops.toList o ρ v fs) :
    Inv C ops m (i :: ex) H' (put ρ o.dst v) w listed a := by
  have hi' : i < ops.size := by
    rcases Nat.lt_or_ge i ops.size with h | h
    · exact h
    · simp [Array.getElem?_eq_none h] at ho
  have ho' : ops.toList[i]? = some o := by rw [Array.getElem?_toList]; exact ho
  have hom : o ∈ ops.toList := List.mem_of_getElem? ho'
  refine ⟨inv.defers, inv.size, inv.lsize, inv.shut, ?_, ?_, fun j hj => List.mem_cons_of_mem _ (inv.sub j hj), ?_, ?_⟩
  · intro j q hj hm e he' hb
    rcases List.mem_cons.1 hm with rfl | hm
    · rw [ho'] at hj; cases hj
      exact List.mem_cons_of_mem _ (he e he' hb)
    · exact List.mem_cons_of_mem _ (inv.exShut j q hj hm e he' hb)
  · intro j hj
    rcases List.mem_cons.1 hj with rfl | hj
    · exact hi'
    · exact inv.exLt j hj
  · intro j hj hnl
    by_cases hji : j = i
    · subst hji
      refine ⟨o, v, fs, ho, hq, hd, hf, hh, ?_, ?_⟩
      · intro d hd'; rw [hd']; exact put_here
      · refine Yq.congr hns hom (fun t ht => ?_) hy
        refine (put_other fun e => ?_).symm
        exact hP.self j o ho' hq t e ht
    · have hjm : j ∈ ex := (List.mem_cons.1 hj).resolve_left hji
      obtain ⟨q, u, gs, h1, h2, h3, h4, h5, h6, h7⟩ := inv.pend j hjm hnl
      have h1' : ops.toList[j]? = some q := by rw [Array.getElem?_toList]; exact h1
      refine ⟨q, u, gs, h1, h2, h3, h4.imp id (hH _), h5, ?_, ?_⟩
      · intro d hd'
        rw [put_other]
        · exact h6 d hd'
        · intro e
          exact hP.dst i o ho' hq j q h1' (Ne.symm hji) d e hd'
      · refine Yq.congr hns (List.mem_of_getElem? h1') (fun t ht => ?_) h7
        refine (put_other fun e => ?_).symm
        have := hP.look i o ho' hq j q h1' (Ne.symm hji) t e ht
        exact hi (exAnc hG inv.exShut h1' hjm this)
  · intro t ht
    have hne : o.dst ≠ some t := ht i (List.mem_cons_self ..) (fun hl => hi (inv.sub i hl)) o ho
    rw [put_other hne]
    exact inv.get t fun j hj hnl q hq' => ht j (List.mem_cons_of_mem _ hj) hnl q hq'

theorem Li_set {listed : Array Bool} {i j : Nat} (h : Li listed i) : Li (listed.setIfInBounds j true) i := by
  unfold Li at *
  by_cases hij : j = i
  · subst hij
    have : j < listed.size := by
      rcases Nat.lt_or_ge j listed.size with h' | h'
      · exact h'
      · simp [Array.getD_eq_getD_getElem?, Array.getElem?_eq_none h'] at h
    simp [Array.getD_eq_getD_getElem?, Array.getElem?_setIfInBounds, this]
  · simpa [Array.getD_eq_getD_getElem?, Array.getElem?_setIfInBounds_ne hij] using h
theorem Li_here {listed : Array Bool} {j : Nat} (h : j < listed.size) : Li (listed.setIfInBounds j true) j := by
  unfold Li
  simp [Array.getD_eq_getD_getElem?, Array.getElem?_setIfInBounds, h]
theorem Li_of_set {listed : Array Bool} {i j : Nat} (hij : i ≠ j) (h : Li (listed.setIfInBounds j true) i) : Li listed i := by
  unfold Li at *
  simpa [Array.getD_eq_getD_getElem?, Array.getElem?_setIfInBounds_ne (Ne.symm hij)] using h

/-- What was taken ahead comes up. -/
theorem Inv.up (hP : Pairs C ops.toList m) {ex : List Nat} {H : Held} {ρ : Env} {w : World} {listed : Array Bool} {a : Act}
    (inv : Inv C ops m ex H ρ w listed a) {j : Nat} {o : Oper} {v : Value} (ho : ops[j]? = some o) (hj : j ∈ ex) (hd : dstOk C.n o.dst = true) (hr : ∀ e ∈ o.after.toList, Region.binds .any e = true → Li listed e.on)
    (hv : ∀ d, o.dst = some d → ρ d = v) : Inv C ops m ex H ρ w (listed.setIfInBounds j true) (a.put o.dst v) := by
  have hj' : j < ops.size := inv.exLt j hj
  have ho' : ops.toList[j]? = some o := by rw [Array.getElem?_toList]; exact ho
  refine ⟨by rw [act_defers]; exact inv.defers, by rw [act_size]; exact inv.size, by simpa using inv.lsize, ?_, inv.exShut, inv.exLt, ?_, ?_, ?_⟩
  · intro i q hi hl e he hb
    by_cases hij : i = j
    · subst hij
      rw [ho'] at hi; cases hi
      exact Li_set (hr e he hb)
    · exact Li_set (inv.shut i q hi (Li_of_set hij hl) e he hb)
  · intro i hl
    by_cases hij : i = j
    · rw [hij]; exact hj
    · exact inv.sub i (Li_of_set hij hl)
  · intro i hi hnl
    exact inv.pend i hi fun hl => hnl (Li_set hl)
  · intro t ht
    by_cases htd : o.dst = some t
    · rw [htd, act_here]
      · exact (hv t htd).symm
      · rw [inv.size]; rw [htd] at hd; simpa [dstOk, Nat.blt_eq] using hd
    · rw [act_other htd]
      refine inv.get t fun i hi hnl q hq => ?_
      by_cases hij : i = j
      · subst hij; rw [ho] at hq; cases hq; exact htd
      · exact ht i hi (fun hl => hnl (Li_of_set hij hl)) q hq

/-- Who acts comes up. -/
theorem Inv.acts (hP : Pairs C ops.toList m) (hG : Good ops.toList m) (hns : ∀ o ∈ ops.toList, ∀ cs b, o.op ≠ .select cs b) {ex : List Nat} {H : Held} {ρ : Env} {w w' : World} {listed : Array Bool} {a : Act}
    (inv : Inv C ops m ex H ρ w listed a) {j : Nat} {o : Oper} {v : Value} (ho : ops[j]? = some o) (hj : j ∉ ex) (hd : dstOk C.n o.dst = true) (hr : ∀ e ∈ o.after.toList, Region.binds .any e = true → Li listed e.on)
    (hh : ∀ i fs, (i, fs) ∈ H → anc m j i = false → heldP fs w → heldP fs w') : Inv C ops m (j :: ex) H (put ρ o.dst v) w' (listed.setIfInBounds j true) (a.put o.dst v) := by
  have hj' : j < ops.size := by
    rcases Nat.lt_or_ge j ops.size with h | h
    · exact h
    · simp [Array.getElem?_eq_none h] at ho
  have ho' : ops.toList[j]? = some o := by rw [Array.getElem?_toList]; exact ho
  refine ⟨by rw [act_defers]; exact inv.defers, by rw [act_size]; exact inv.size, by simpa using inv.lsize, ?_, ?_, ?_, ?_, ?_, ?_⟩
  · intro i q hi hl e he hb
    by_cases hij : i = j
    · subst hij
      rw [ho'] at hi; cases hi
      exact Li_set (hr e he hb)
    · exact Li_set (inv.shut i q hi (Li_of_set hij hl) e he hb)
  · intro i q hi hm e he hb
    rcases List.mem_cons.1 hm with rfl | hm
    · rw [ho'] at hi; cases hi
      exact List.mem_cons_of_mem _ (inv.sub _ (hr e he hb))
    · exact List.mem_cons_of_mem _ (inv.exShut i q hi hm e he hb)
  · intro i hi
    rcases List.mem_cons.1 hi with rfl | hi
    · exact hj'
    · exact inv.exLt i hi
  · intro i hl
    by_cases hij : i = j
    · rw [hij]; exact List.mem_cons_self ..
    · exact List.mem_cons_of_mem _ (inv.sub i (Li_of_set hij hl))
  · intro i hi hnl
    have hij : i ≠ j := by
      rintro rfl
      exact hnl (Li_here (by rw [inv.lsize]; exact hj'))
    have him : i ∈ ex := (List.mem_cons.1 hi).resolve_left hij
    have hnl' : ¬ Li listed i := fun hl => hnl (Li_set hl)
    obtain ⟨q, u, gs, h1, h2, h3, h4, h5, h6, h7⟩ := inv.pend i him hnl'
    have h1' : ops.toList[i]? = some q := by rw [Array.getElem?_toList]; exact h1
    have hanc : anc m j i = false := by
      cases ha : anc m j i with
      | false => rfl
      | true => exact (hnl' (hG j o ho' i ha (Li listed) inv.shut hr)).elim
    refine ⟨q, u, gs, h1, h2, h3, h4, ?_, ?_, ?_⟩
    · rcases h4 with rfl | h4
      · trivial
      · exact hh i gs h4 hanc h5
    · intro d hd'
      rw [put_other]
      · exact h6 d hd'
      · exact fun e => hP.dst i q h1' h2 j o ho' hij d hd' e
    · refine Yq.congr hns (List.mem_of_getElem? h1') (fun t ht => ?_) h7
      refine (put_other fun e => ?_).symm
      rcases hP.write i q h1' h2 j o ho' hij t e ht with h | ⟨h, _⟩
      · exact hj (exAnc hG inv.exShut h1' him h)
      · rw [hanc] at h; cases h
  · intro t ht
    by_cases htd : o.dst = some t
    · rw [htd, act_here, put_here]
      rw [inv.size]; rw [htd] at hd; simpa [dstOk, Nat.blt_eq] using hd
    · rw [act_other htd, put_other htd]
      refine inv.get t fun i hi hnl q hq => ?_
      have hij : i ≠ j := fun e => hj (e ▸ hi)
      exact ht i (List.mem_cons_of_mem _ hi) (fun hl => hnl (Li_of_set hij hl)) q hq
end
end Go.Sx
