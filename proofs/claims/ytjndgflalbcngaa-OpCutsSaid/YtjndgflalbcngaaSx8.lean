/- The reading of a region's operations, of a body as far as the next cut, of a call. -/
import Derived.Test.YtjndgflalbcngaaSx7
set_option linter.unusedVariables false
set_option linter.unusedSimpArgs false
namespace Go.Sx

theorem gslot_eq : ∀ (l : List Oper) (i : Nat), gslot l i = (l[i]?).bind (·.dst)
  | [], i => by simp [gslot]
  | v :: l, 0 => by simp [gslot]
  | v :: l, i + 1 => by simp [gslot, gslot_eq l i]
theorem yielded_eq {n : Nat} {ρ : Env} {a : Act} (hr : Rel n ρ a) {ops : Array Oper} {j d : Nat} (hd : gslot ops.toList j = some d) (hn : d < n) : yielded ops a.tmps j = match ρ d with | .bool b => some b | _ => none := by
  rw [gslot_eq, Array.getElem?_toList] at hd
  have hs := hr.size
  have hg := hr.get d
  have h1 : a.tmps[d]? = some (ρ d) := by
    rw [← hg]
    simp [Array.getD_eq_getD_getElem?, hs, hn]
  unfold yielded
  simp only [hd, Option.bind_some, h1]
  cases ρ d <;> rfl

def opsPost (n : Nat) (K : Env → World → Prop) (e : Exit) (a : Act) (w : World) : Prop := e = .normal ∧ ∃ ρ, Rel n ρ a ∧ K ρ w
theorem evOps_sound {C : Cx} (hC : OkCx C) {ops : Array Oper} {K : Env → World → Prop} : ∀ {r : List Oper} {ρ : Env} {w : World} {a : Act}, Rel C.n ρ a → evOps C ops.toList r ρ w K →
    wpList C.P ops (opsPost C.n K) r a w
  | [], ρ, w, a, hr, h => wpList_nil ⟨rfl, ρ, hr, h⟩
  | o :: r, ρ, w, a, hr, h => by
    obtain ⟨hd, h⟩ := cond_elim h
    have run : ∀ {ρ : Env}, Rel C.n ρ a → (evOp C o ρ w fun v w' => evOps C ops.toList r (put ρ o.dst v) w' K) → Region.wanted o (yielded ops a.tmps) = true → wpList C.P ops (opsPost C.n K) (o :: r) a w := by
      intro ρ hr h hw
      unfold wpList
      rw [if_pos hw]
      have := evOp_sound hC h
      rw [← hr.eval] at this
      exact .inl (this.wp fun v w' hk => evOps_sound hC (hr.put v hd) hk)
    have pass : ∀ {ρ : Env}, Rel C.n ρ a → evOps C ops.toList r (put ρ o.dst undef) w K → Region.wanted o (yielded ops a.tmps) = false → wpList C.P ops (opsPost C.n K) (o :: r) a w := by
      intro ρ hr h hw
      unfold wpList
      rw [if_neg (by rw [hw]; simp)]
      exact evOps_sound hC (hr.put undef hd) h
    cases hg : o.guard with
    | none =>
      simp only [hg] at h
      exact run hr h (by simp [Region.wanted, hg])
    | some p =>
      simp only [hg] at h
      split at h
      · exact h.elim
      · rename_i d hgs
        obtain ⟨hn, h⟩ := cond_elim h
        have hn' : d < C.n := by simpa [Nat.blt_eq] using hn
        have hy := yielded_eq hr hgs hn'
        split at h
        · rename_i b hb
          rw [hb] at hy
          obtain ⟨j, want⟩ := p
          simp only at hy h hgs
          cases want <;> cases b <;> simp only [cond_true, cond_false] at h
          · exact run (hr.put_same hb) h (by simp [Region.wanted, hg, hy])
          · exact pass (hr.put_same hb) h (by simp [Region.wanted, hg, hy])
          · exact pass (hr.put_same hb) h (by simp [Region.wanted, hg, hy])
          · exact run (hr.put_same hb) h (by simp [Region.wanted, hg, hy])
        · rename_i vs hb
          rw [hb] at hy
          simp only at hy
          exact pass hr h (by simp [Region.wanted, hg, hy])
        · exact h.elim

/-- From here the body comes to its end, with what is asked of the slots and the memory there. -/
def Fin (C : Cx) (todo : List Item) (ρ : Env) (w : World) (R : Env → World → Prop) : Prop :=
  ∀ (a : Act) (b : Frame) (cs : List Frame), Rel C.n ρ a → ∃ ρ' a' w' todo', Rel C.n ρ' a' ∧ R ρ' w' ∧ Steps C.P (lone (b.at a todo) cs w) (lone { b.at a' todo' with mode := .returning } cs w')
theorem Fin.step {C : Cx} {todo todo' : List Item} {ρ ρ' : Env} {w w' : World} {R : Env → World → Prop} (h : Fin C todo' ρ' w' R)
    (hs : ∀ (a : Act) (b : Frame) (cs : List Frame), Rel C.n ρ a → ∃ a', Rel C.n ρ' a' ∧ Steps C.P (lone (b.at a todo) cs w) (lone (b.at a' todo') cs w')) : Fin C todo ρ w R := by
  intro a b cs hr
  obtain ⟨a', hr', s⟩ := hs a b cs hr
  obtain ⟨ρ2, a2, w2, t2, h1, h2, h3⟩ := h a' b cs hr'
  exact ⟨ρ2, a2, w2, t2, h1, h2, s.trans h3⟩
theorem Fin.same {C : Cx} {todo todo' : List Item} {ρ : Env} {w : World} {R : Env → World → Prop} (h : Fin C todo' ρ w R)
    (hs : ∀ (a : Act) (b : Frame) (cs : List Frame), Go.step C.P (lone (b.at a todo) cs w) = .next (lone (b.at a todo') cs w)) : Fin C todo ρ w R :=
  h.step fun a b cs hr => ⟨a, hr, .one (hs a b cs)⟩
theorem Fin.ret {C : Cx} {k : List Item} {ρ : Env} {w : World} {R : Env → World → Prop} (h : R ρ w) : Fin C (.code .ret :: k) ρ w R :=
  fun a b cs hr => ⟨ρ, a, w, _, hr, h, .one step_ret⟩
theorem Fin.nil {C : Cx} {ρ : Env} {w : World} {R : Env → World → Prop} (h : R ρ w) : Fin C [] ρ w R :=
  fun a b cs hr => ⟨ρ, a, w, _, hr, h, .one step_end⟩
theorem Fin.wp {C : Cx} {c : Code} {k : List Item} {ρ : Env} {w : World} {R : Env → World → Prop} {K : Env → World → Prop} (hk : ∀ ρ' w', K ρ' w' → Fin C k ρ' w' R)
    (h : ∀ a, Rel C.n ρ a → c.wp C.P (opsPost C.n K) a w) : Fin C (.code c :: k) ρ w R := by
  intro a b cs hr
  obtain ⟨e, a1, w1, ⟨rfl, ρ1, hr1, hK⟩, harr⟩ := h a hr b k cs
  obtain ⟨ρ2, a2, w2, t2, h1, h2, h3⟩ := hk ρ1 w1 hK a1 b cs hr1
  exact ⟨ρ2, a2, w2, t2, h1, h2, Steps.trans harr h3⟩
theorem exitK_eq (id : Nat) : ∀ (k : List Item), exitK id k = exitTo id k
  | [] => rfl
  | it :: k => by
    have ih := exitK_eq id k
    cases it <;> simp only [exitK, exitTo, ih]
    rename_i i
    cases hb : Nat.beq i id with
    | true =>
      have := Nat.eq_of_beq_eq_true hb
      subst this
      simp
    | false =>
      have : (i == id) = false := by
        rw [beq_eq_false_iff_ne]
        intro e
        subst e
        simp [Nat.beq_refl] at hb
      simp [this]

/-- What is asked of the reading of regions that draw their order. -/
def DSound (C : Cx) (D : Nat → List Oper → Env → World → (Env → World → Prop) → Prop) : Prop :=
  ∀ id (ops : Array Oper) ρ w K, D id ops.toList ρ w K → ∀ a, Rel C.n ρ a → (Code.region id ops true).wp C.P (opsPost C.n K) a w
theorem evT_sound {C : Cx} (hC : OkCx C) {L : Cuts} {R : Env → World → Prop} {D : Nat → List Oper → Env → World → (Env → World → Prop) → Prop} (hD : DSound C D) :
    ∀ (f : Nat) {fst : Bool} {todo : List Item} {ρ : Env} {w : World}, (∀ p ∈ leaves (L.map (·.1)) f fst todo, ∀ q, cutAt L p.1 = some q → ∀ ρ w, q ρ w → Fin C p.2 ρ w R) →
      evT C L R D f fst todo ρ w → Fin C todo ρ w R := by
  intro f
  induction f with
  | zero => intro fst todo ρ w _ h; exact h.elim
  | succ f ih =>
    intro fst todo ρ w hL h
    cases todo with
    | nil => exact Fin.nil h
    | cons it k =>
      cases it with
      | inBlock id => exact (ih hL h).same fun a b cs => step_inBlock
      | inLoop c => exact (ih hL h).same fun a b cs => step_inLoop
      | code c =>
        cases c with
        | skip => exact (ih hL h).same fun a b cs => step_skip
        | seq x y => exact (ih hL h).same fun a b cs => step_seq
        | block id c => exact (ih hL h).same fun a b cs => step_block
        | loop c => exact (ih hL h).same fun a b cs => step_loop
        | exit id =>
          simp only [evT] at h
          simp only [leaves] at hL
          split at h
          · rename_i k' hk'
            rw [hk'] at hL
            rw [exitK_eq] at hk'
            exact (ih hL h).same fun a b cs => step_exit hk'
          · exact h.elim
        | ret => exact Fin.ret h
        | cond x thn els =>
          simp only [evT] at h
          simp only [leaves, List.mem_append] at hL
          split at h
          · rename_i t ht
            have hput : ∀ a, Rel C.n ρ a → Rel C.n (putO ρ x (.bool t)) a := by
              intro a hr
              cases x with
              | tmp s => exact hr.put_same ht
              | _ => exact hr
            cases t with
            | true =>
              simp only [cond_true] at h
              refine (ih (fun p hp => hL p (.inl hp)) h).step fun a b cs hr => ⟨a, hput a hr, .one ?_⟩
              exact step_cond (t := true) (by rw [hr.eval]; exact ht)
            | false =>
              simp only [cond_false] at h
              refine (ih (fun p hp => hL p (.inr hp)) h).step fun a b cs hr => ⟨a, hput a hr, .one ?_⟩
              exact step_cond (t := false) (by rw [hr.eval]; exact ht)
          · exact h.elim
        | region id ops dr =>
          simp only [evT] at h
          simp only [leaves] at hL
          have go : (regK C D id ops dr ρ w fun ρ' w' => evT C L R D f false k ρ' w') →
              (∀ p ∈ leaves (L.map (·.1)) f false k, ∀ q, cutAt L p.1 = some q → ∀ ρ w, q ρ w → Fin C p.2 ρ w R) → Fin C (.code (.region id ops dr) :: k) ρ w R := by
            intro h' hL'
            cases dr with
            | false =>
              refine Fin.wp (fun ρ' w' hk => ih hL' hk) fun a hr => ?_
              exact wp_region_list (evOps_sound hC hr h')
            | true => exact Fin.wp (fun ρ' w' hk => ih hL' hk) fun a hr => hD id ops ρ w _ h' a hr
          cases fst with
          | true => exact go h hL
          | false =>
            have hc : ∀ (L : Cuts), (cutAt L id).isSome = (L.map (·.1)).contains id := by
              intro L
              induction L with
              | nil => rfl
              | cons p L ihL =>
                simp only [cutAt, List.map_cons, List.contains_cons]
                cases hb : Nat.beq id p.1 with
                | true =>
                  have := Nat.eq_of_beq_eq_true hb
                  rw [this]
                  simp
                | false =>
                  have hne : (id == p.1) = false := by
                    rw [beq_eq_false_iff_ne]
                    intro e
                    rw [e] at hb
                    simp [Nat.beq_refl] at hb
                  simp only [cond_false, ihL, hne, Bool.false_or]
            cases hq : cutAt L id with
            | some q =>
              have := hc L
              rw [hq] at this
              simp only [Option.isSome_some] at this
              simp only [hq] at h
              simp only [← this] at hL
              exact hL (id, .code (.region id ops dr) :: k) (by simp) q hq ρ w h
            | none =>
              have := hc L
              rw [hq] at this
              simp only [Option.isSome_none] at this
              simp only [hq] at h
              simp only [← this] at hL
              exact go h hL
        | _ => exact h.elim
      | _ => exact h.elim
end Go.Sx
