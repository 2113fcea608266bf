/- The reading along a script is sound for every order that the machine may draw: the simulation. -/
import Derived.Test.YtjndgflalbcngaaSxB
set_option linter.unusedVariables false
set_option linter.unusedSimpArgs false
namespace Go.Sx

theorem heldH_spec {m : List Nat} {i : Nat} {K : Prop} {w : World} : ∀ {H : Held}, heldH m i H w K → K ∧ ∀ j fs, (j, fs) ∈ H → anc m i j = false → heldP fs w
  | [], h => ⟨h, by intro j fs h; cases h⟩
  | (k, gs) :: H, h => by
    have heldK_spec : ∀ {l : List (Addr × Value)} {K : Prop}, heldK l w K → K ∧ heldP l w := by
      intro l
      induction l with
      | nil => intro K h; exact ⟨h, trivial⟩
      | cons p l ih => intro K h; exact ⟨(ih h.2).1, h.1, (ih h.2).2⟩
    simp only [heldH] at h
    cases ha : anc m i k with
    | true =>
      rw [ha] at h
      obtain ⟨h1, h2⟩ := heldH_spec (H := H) h
      refine ⟨h1, fun j fs hm hj => ?_⟩
      rcases List.mem_cons.1 hm with e | hm
      · cases e; rw [ha] at hj; cases hj
      · exact h2 j fs hm hj
    | false =>
      rw [ha] at h
      obtain ⟨h0, h3⟩ := heldK_spec h
      obtain ⟨h1, h2⟩ := heldH_spec (H := H) h0
      refine ⟨h1, fun j fs hm hj => ?_⟩
      rcases List.mem_cons.1 hm with e | hm
      · cases e; exact h3
      · exact h2 j fs hm hj

/-- What an operation that has been taken ahead yields. -/
def Yq (C : Cx) (all : List Oper) (o : Oper) (ρ : Env) (v : Value) (fs : List (Addr × Value)) : Prop :=
  (wantE all o ρ = some true ∧ ∀ w', heldP fs w' → After C.P ((execOp (ev ρ) o).run C.P w') fun u w'' => u = v ∧ w'' = w') ∨ (wantE all o ρ = some false ∧ v = undef)
def SlotOk (C : Cx) (all : List Oper) (o : Oper) : Prop := dstOk C.n o.dst = true ∧ ∀ p, o.guard = some p → ∀ d, gslot all p.1 = some d → d < C.n
def Li (listed : Array Bool) (i : Nat) : Prop := listed.getD i false = true
structure Inv (C : Cx) (ops : Array Oper) (m : List Nat) (ex : List Nat) (H : Held) (ρ : Env) (w : World) (listed : Array Bool) (a : Act) : Prop where
  defers : a.defers = []
  size : a.tmps.size = C.n
  lsize : listed.size = ops.size
  shut : Shut ops.toList (Li listed)
  exShut : Shut ops.toList (· ∈ ex)
  exLt : ∀ i ∈ ex, i < ops.size
  sub : ∀ i, Li listed i → i ∈ ex
  pend : ∀ i ∈ ex, ¬ Li listed i → ∃ o v fs, ops[i]? = some o ∧ isQ C o = true ∧ SlotOk C ops.toList o ∧ (fs = [] ∨ (i, fs) ∈ H) ∧ heldP fs w ∧ (∀ d, o.dst = some d → ρ d = v) ∧ Yq C ops.toList o ρ v fs
  get : ∀ t, (∀ i ∈ ex, ¬ Li listed i → ∀ o, ops[i]? = some o → o.dst ≠ some t) → a.tmps.getD t undef = ρ t

theorem wantE_congr {all : List Oper} {o : Oper} {ρ ρ' : Env} (h : ∀ t ∈ looks all o, ρ t = ρ' t) : wantE all o ρ = wantE all o ρ' := by
  unfold wantE
  cases hg : o.guard with
  | none => rfl
  | some p =>
    simp only
    cases hs : gslot all p.1 with
    | none => rfl
    | some d =>
      have : ρ d = ρ' d := h d (by simp [looks, hg, hs])
      simp only [this]
theorem ev_congr {all : List Oper} {o : Oper} {ρ ρ' : Env} (h : ∀ t ∈ looks all o, ρ t = ρ' t) : ∀ x ∈ o.op.operands, ev ρ x = ev ρ' x := by
  intro x hx
  cases x with
  | tmp t =>
    refine h t ?_
    unfold looks
    refine List.mem_append_left _ (List.mem_filterMap.2 ⟨.tmp t, by simpa using hx, rfl⟩)
  | _ => rfl
theorem look_gets {C : Cx} {ops : Array Oper} {m : List Nat} {ex : List Nat} {H : Held} {ρ : Env} {w : World} {listed : Array Bool} {a : Act} (hP : Pairs C ops.toList m) (hG : Good ops.toList m)
    (inv : Inv C ops m ex H ρ w listed a) {j : Nat} {q : Oper} (hj : ops[j]? = some q) (hready : ∀ e ∈ q.after.toList, Region.binds .any e = true → Li listed e.on) :
    ∀ t ∈ looks ops.toList q, a.tmps.getD t undef = ρ t := by
  intro t ht
  refine inv.get t fun i hi hni o ho hd => ?_
  have ho' : ops.toList[i]? = some o := by rw [Array.getElem?_toList]; exact ho
  have hj' : ops.toList[j]? = some q := by rw [Array.getElem?_toList]; exact hj
  obtain ⟨o', v, fs, h1, h2, h3⟩ := inv.pend i hi hni
  have e1 : o = o' := by rw [ho] at h1; exact Option.some.inj h1
  rw [← e1] at h2
  by_cases hij : i = j
  · have e2 : o = q := by rw [hij, hj] at ho; exact (Option.some.inj ho).symm
    rw [← e2] at ht
    exact hP.self i o ho' h2 t hd ht
  · have := hP.look i o ho' h2 j q hj' hij t hd ht
    exact hni (hG j q hj' i this (Li listed) inv.shut hready)
theorem wanted_eq {C : Cx} {ops : Array Oper} {o : Oper} {ρ : Env} {a : Act} (hs : a.tmps.size = C.n) (hg : ∀ t ∈ looks ops.toList o, a.tmps.getD t undef = ρ t) {b : Bool} (h : wantE ops.toList o ρ = some b)
    (hd : ∀ p, o.guard = some p → ∀ d, gslot ops.toList p.1 = some d → d < C.n) : Region.wanted o (yielded ops a.tmps) = b := by
  unfold wantE at h
  unfold Region.wanted
  cases hgd : o.guard with
  | none => rw [hgd] at h; simp only [Option.some.injEq] at h; exact h
  | some p =>
    rw [hgd] at h
    obtain ⟨j, want⟩ := p
    simp only at h ⊢
    cases hsl : gslot ops.toList j with
    | none => rw [hsl] at h; cases h
    | some d =>
      rw [hsl] at h
      simp only at h
      have hdn := hd _ hgd d hsl
      have hgt := hg d (by simp [looks, hgd, hsl])
      rw [gslot_eq, Array.getElem?_toList] at hsl
      have h1 : a.tmps[d]? = some (ρ d) := by
        rw [← hgt]
        simp [Array.getD_eq_getD_getElem?, hs, hdn]
      unfold yielded
      simp only [hsl, Option.bind_some, h1]
      cases hr : ρ d <;> rw [hr] at h <;> simp only [reduceCtorEq, Option.some.injEq] at h
      · rw [← h]
        rfl
      · rw [← h]
        simp

/-- How many have not come up. -/
def left (listed : Array Bool) : Nat := listed.toList.countP (fun b => !b)
theorem left_set {listed : Array Bool} {j : Nat} (hj : j < listed.size) (h : listed.getD j false = false) : left (listed.setIfInBounds j true) + 1 = left listed := by
  unfold left
  obtain ⟨l⟩ := listed
  simp only [List.size_toArray] at hj
  simp only [List.setIfInBounds_toArray]
  have : l.getD j false = false := by simpa [Array.getD_eq_getD_getElem?] using h
  clear h
  induction l generalizing j with
  | nil => simp at hj
  | cons b l ih =>
    cases j with
    | zero =>
      simp at this
      subst this
      simp
    | succ j =>
      have := ih (by simpa using hj) (by simpa using this)
      simp only [List.set_cons_succ, List.countP_cons]
      omega
theorem left_zero {listed : Array Bool} (h : left listed = 0) : ∀ i, i < listed.size → Li listed i := by
  intro i hi
  unfold left at h
  rw [List.countP_eq_zero] at h
  have := h (listed[i]) (by simp)
  unfold Li
  simpa [Array.getD_eq_getD_getElem?, hi] using this
end Go.Sx
