/- The reading of one operation is sound. -/
import Derived.Test.YtjndgflalbcngaaSx3
set_option linter.unusedVariables false
set_option linter.unusedSimpArgs false
namespace Go.Sx

/-- What an operation that is carried out comes to. -/
def After (P : Program) (r : Result Next) (K : Value → World → Prop) : Prop := match r with
  | .ok (.value v) w => K v w
  | .ok .skip w => K undef w
  | .ok (.enter f args) w => CallK P f args w K
  | _ => False
theorem After.wp {P : Program} {o : Oper} {a : Act} {w : World} {K : Value → World → Prop} {next : Act → World → Prop} {Q : Exit → Act → World → Prop}
    (h : After P ((execOp a.eval o).run P w) K) (hn : ∀ v w', K v w' → next (a.put o.dst v) w') : o.wp P a w next Q := by
  unfold Oper.wp
  generalize (execOp a.eval o).run P w = r at *
  cases r with
  | ok x w' =>
    cases x <;> simp only [After] at h <;> simp only [Oper.upon]
    case value v => exact hn _ _ h
    case skip => exact hn _ _ h
    case enter f args =>
      refine h.mono fun e w'' he => ?_
      cases e with
      | returned v => exact hn _ _ he
      | panicked c => exact he.elim
      | outgrown => exact he.elim
  | halt x w' => simp only [After] at h

theorem evArgs_eq (ρ : Env) (l : List Operand) : evArgs ρ l = l.map (ev ρ) := by
  induction l with
  | nil => rfl
  | cons x l ih => simp [evArgs, ih]
theorem evParts_eq (ρ : Env) (l : List (Nat × Operand)) : evParts ρ l = l.map (fun p => (p.1, ev ρ p.2)) := by
  induction l with
  | nil => rfl
  | cons x l ih => simp [evParts, ih]
theorem optEv_eq (ρ : Env) (x : Option Operand) : optEv ρ x = x.map (ev ρ) := by cases x <;> rfl
theorem nthV_eq : ∀ (l : List Value) (i : Nat), nthV l i = l[i]?
  | [], i => by simp [nthV]
  | v :: l, 0 => by simp [nthV]
  | v :: l, i + 1 => by simp [nthV, nthV_eq l i]
theorem nthF_eq : ∀ (l : List (Nat × TypeId)) (i : Nat), nthF l i = l[i]?
  | [], i => by simp [nthF]
  | v :: l, 0 => by simp [nthF]
  | v :: l, i + 1 => by simp [nthF, nthF_eq l i]
theorem nthP_eq : ∀ (l : List (Nat × Nat)) (i : Nat), nthP l i = l[i]?
  | [], i => by simp [nthP]
  | v :: l, 0 => by simp [nthP]
  | v :: l, i + 1 => by simp [nthP, nthP_eq l i]
theorem reps_eq (z : List Value) : ∀ n, reps z n = (List.replicate n z).flatten
  | 0 => rfl
  | n + 1 => by simp [reps, List.replicate_succ, reps_eq z n]
theorem ikN_inj {k k' : IntKind} (h : Nat.beq (ikN k) (ikN k') = true) : k = k' := by
  cases k <;> cases k' <;> first | rfl | (exact absurd h (by decide))

/-! ### The operations, one by one -/
section
variable {C : Cx} {w : World} {K : Value → World → Prop}

theorem alloc_ok (hC : OkCx C) {t : TypeId} {i : TI} (hi : C.T t = some i) (h : K (.pointer (some ⟨w.heap.size, 0, none⟩)) (w.alloc (.cells (zc C.T t).toArray t))) :
    After C.P ((do pure (Next.value (← Instr.alloc t true (.tuple #[])))).run C.P w) K := by
  obtain ⟨z, hz, hr⟩ := ok_zero hC.tab hi
  have hz' : zc C.T t = z.cells.toList := by simp [zc, hi, hz]
  rw [hz', Array.toArray_toList] at h
  simp only [Instr.alloc, Sem.run_bind, hr, Result.andThen_ok, newVar, newRow, run_newObj, Sem.run_pure]
  exact h
theorem box_ok {t : TypeId} {v : Value} (h : K (.pointer (some ⟨w.heap.size, 0, none⟩)) (w.alloc (.cells v.cells t))) :
    After C.P ((do pure (Next.value (← Instr.box t v))).run C.P w) K := by
  simp only [Instr.box, Sem.run_bind, newVar, newRow, run_newObj, Result.andThen_ok, Sem.run_pure]
  exact h
theorem load_ok (hC : OkCx C) {t : TypeId} {p : Option Addr} (h : wA p fun a => ldT C.T t a w fun v => K v w) :
    After C.P ((do pure (Next.value (← Instr.loadAt t (.pointer p)))).run C.P w) K := by
  obtain ⟨a, rfl, h'⟩ := wA_elim h
  obtain ⟨v, hr, hk⟩ := ldT_elim hC.tab h'
  simp only [Instr.loadAt, Instr.sureAddr, Sem.run_bind, Sem.run_pure, Result.andThen_ok, hr]
  exact hk
theorem store_ok (hC : OkCx C) {t : TypeId} {p : Option Addr} {v : Value} (h : wA p fun a => stT C.T t a v w fun w' => K undef w') :
    After C.P ((do Instr.storeAt t (.pointer p) v; pure Next.skip).run C.P w) K := by
  obtain ⟨a, rfl, h'⟩ := wA_elim h
  obtain ⟨w', hr, hk⟩ := stT_elim hC.tab h'
  simp only [Instr.storeAt, Instr.sureAddr, Sem.run_bind, Sem.run_pure, Result.andThen_ok, hr]
  exact hk
theorem runV_ok {s : Sem Value} (h : RunK C.P s w K) : After C.P ((do pure (Next.value (← s))).run C.P w) K := by
  obtain ⟨v, w', hr, hk⟩ := RunK_elim h
  simp only [Sem.run_bind, hr, Result.andThen_ok, Sem.run_pure]
  exact hk
theorem runU_ok {s : Sem Unit} (h : RunU C.P s w fun w' => K undef w') : After C.P ((do s; pure Next.skip).run C.P w) K := by
  obtain ⟨w', hr, hk⟩ := RunU_elim h
  simp only [Sem.run_bind, hr, Result.andThen_ok, Sem.run_pure]
  exact hk
end
theorem RunK.mono {P : Program} {s : Sem Value} {w : World} {K K' : Value → World → Prop} (hk : ∀ v w', K v w' → K' v w') (h : RunK P s w K) : RunK P s w K' := by
  unfold RunK at *
  split
  · rename_i v w' hr; rw [hr] at h; exact hk _ _ h
  · rename_i hr; rw [hr] at h; exact h
theorem RunK.of {P : Program} {s : Sem Value} {w w' : World} {v : Value} {K : Value → World → Prop} (hr : s.run P w = .ok v w') (h : K v w') : RunK P s w K := by
  unfold RunK; rw [hr]; exact h
theorem arith_ok {P : Program} {op : BinOp} {k : IntKind} {a b : Int} {w : World} {K : Value → Prop} (t : TypeId) (h1 : op ≠ .shl) (h2 : op ≠ .shr) (h : arith op k a b K) :
    RunK P (binOp op t (.int k a) (.int k b)) w fun v w' => w' = w ∧ K v := by
  cases op <;> simp only [arith] at h <;> first | exact (h1 rfl).elim | exact (h2 rfl).elim | exact h.elim | skip
  case quo => exact .of (v := .int k (k.wrap (a.tdiv b))) (w' := w) (by simp [binOp, Op.intDiv, h.1]) ⟨rfl, h.2⟩
  case rem => exact .of (v := .int k (a.tmod b)) (w' := w) (by simp [binOp, Op.intDiv, h.1]) ⟨rfl, h.2⟩
  all_goals exact .of (by simp only [binOp, ne_eq, not_true_eq_false, ite_false, Op.intArith, Op.intBits, Op.intCmp]; rfl) ⟨rfl, h⟩
theorem eqGuard_int {P : Program} {op : BinOp} {t : TypeId} {x y : Operand} {k k' : IntKind} {a b : Int} {w : World} : (eqGuard op t x y (.int k a) (.int k' b)).run P w = .ok () w := by
  cases op <;> rfl
theorem eqGuard_str {P : Program} {op : BinOp} {t : TypeId} {x y : Operand} {a b : ByteArray} {w : World} : (eqGuard op t x y (.string a) (.string b)).run P w = .ok () w := by
  cases op <;> rfl
theorem eqGuard_bool {P : Program} {op : BinOp} {t : TypeId} {x y : Operand} {a b : Bool} {w : World} : (eqGuard op t x y (.bool a) (.bool b)).run P w = .ok () w := by
  cases op <;> rfl
theorem eqR_elim {op : BinOp} {r : Bool} {K : Bool → Prop} (h : eqR op r K) : (op = .eql ∧ K r) ∨ (op = .neq ∧ K (!r)) := by
  cases op <;> simp only [eqR] at h <;> first | exact h.elim | exact .inl ⟨rfl, h⟩ | exact .inr ⟨rfl, h⟩
theorem dIf_elim {v : Value} {K : Bool → Prop} (h : dIf v K) : (v = .nilIface ∧ K true) ∨ (∃ t x, v = .iface t x ∧ K false) := by
  cases v <;> first | exact .inl ⟨rfl, h⟩ | exact .inr ⟨_, _, rfl, h⟩ | exact h.elim
theorem dFn_elim {v : Value} {K : Bool → Prop} (h : dFn v K) : (v = .nilFunc ∧ K true) ∨ (∃ f x y, v = .func f x y ∧ K false) := by
  cases v <;> first | exact .inl ⟨rfl, h⟩ | exact .inr ⟨_, _, _, rfl, h⟩ | exact h.elim
/-- '==' against nil, on either side. -/
theorem nil_eq {P : Program} {d : TD} {u : TypeDesc} {t : TypeId} {x y : Operand} {a b : Value} {w : World} {K : Bool → Prop} (hu : ∀ w, (underlying t).run P w = .ok u w) (hd : mkTD u = d)
    (hc : (isNilC d y = true ∧ (∀ v, y = .const v → b = v) ∧ dNilV d a K) ∨ (isNilC d x = true ∧ (∀ v, x = .const v → a = v) ∧ dNilV d b K)) :
    ∃ r, K r ∧ (Op.equal t a b).run P w = .ok r w ∧ (∀ op, (eqGuard op t x y a b).run P w = .ok () w) ∧ (∀ op, op = .eql ∨ op = .neq → binOp op t a b = match op with | .eql => (do pure (.bool (← Op.equal t a b))) | _ => (do pure (.bool (!(← Op.equal t a b))))) := by
  have he : ∀ x y, Op.equal t x y = Op.equalIn (9999 + 1) t x y := fun _ _ => rfl
  rcases hc with ⟨h1, h2, h3⟩ | ⟨h1, h2, h3⟩
  · cases y with
    | const v =>
      obtain rfl := (h2 v rfl)
      simp only [isNilC] at h1
      simp only [dNilV] at h3
      split at h1
      · split at h1
        · rename_i p
          obtain ⟨q, rfl, hk⟩ := dP_elim h3
          cases p with
          | some _ => cases h1
          | none =>
            refine ⟨_, hk, ?_, fun op => by cases op <;> rfl, fun op ho => by rcases ho with rfl | rfl <;> rfl⟩
            rw [he, Op.equalIn]
            simp only [Sem.run_bind, hu, Result.andThen_ok]
            cases u <;> simp [mkTD] at hd
            cases q <;> rfl
        · cases h1
      · split at h1
        · rename_i p n c
          obtain ⟨q, m, k, rfl, hk⟩ := dS_elim h3
          simp only [Bool.and_eq_true] at h1
          cases p with
          | some _ => cases h1.1.1
          | none =>
            refine ⟨_, hk, ?_, fun op => by cases op <;> rfl, fun op ho => by rcases ho with rfl | rfl <;> rfl⟩
            rw [he, Op.equalIn]
            simp only [Sem.run_bind, hu, Result.andThen_ok]
            cases u <;> simp [mkTD] at hd
            cases q <;> rfl
        · cases h1
      · split at h1
        · rename_i p
          obtain ⟨q, rfl, hk⟩ := dM_elim h3
          cases p with
          | some _ => cases h1
          | none =>
            refine ⟨_, hk, ?_, fun op => by cases op <;> rfl, fun op ho => by rcases ho with rfl | rfl <;> rfl⟩
            rw [he, Op.equalIn]
            simp only [Sem.run_bind, hu, Result.andThen_ok]
            cases u <;> simp [mkTD] at hd
            cases q <;> rfl
        · cases h1
      · split at h1
        · rcases dIf_elim h3 with ⟨rfl, hk⟩ | ⟨_, _, rfl, hk⟩
          all_goals
            refine ⟨_, hk, ?_, fun op => by cases op <;> first | rfl | (unfold eqGuard; simp), fun op ho => by rcases ho with rfl | rfl <;> rfl⟩
            rw [he, Op.equalIn]
            simp only [Sem.run_bind, hu, Result.andThen_ok]
            cases u <;> simp [mkTD] at hd
            rfl
        · cases h1
      · split at h1
        · rcases dFn_elim h3 with ⟨rfl, hk⟩ | ⟨_, _, _, rfl, hk⟩
          all_goals
            refine ⟨_, hk, ?_, fun op => by cases op <;> rfl, fun op ho => by rcases ho with rfl | rfl <;> rfl⟩
            rw [he, Op.equalIn]
            simp only [Sem.run_bind, hu, Result.andThen_ok]
            cases u <;> simp [mkTD] at hd
            rfl
        · cases h1
      · cases h1
    | _ => cases h1
  · cases x with
    | const v =>
      obtain rfl := (h2 v rfl)
      simp only [isNilC] at h1
      simp only [dNilV] at h3
      split at h1
      · split at h1
        · rename_i p
          obtain ⟨q, rfl, hk⟩ := dP_elim h3
          cases p with
          | some _ => cases h1
          | none =>
            refine ⟨_, hk, ?_, fun op => by cases op <;> rfl, fun op ho => by rcases ho with rfl | rfl <;> rfl⟩
            rw [he, Op.equalIn]
            simp only [Sem.run_bind, hu, Result.andThen_ok]
            cases u <;> simp [mkTD] at hd
            cases q <;> rfl
        · cases h1
      · split at h1
        · rename_i p n c
          obtain ⟨q, m, k, rfl, hk⟩ := dS_elim h3
          simp only [Bool.and_eq_true] at h1
          cases p with
          | some _ => cases h1.1.1
          | none =>
            refine ⟨_, hk, ?_, fun op => by cases op <;> rfl, fun op ho => by rcases ho with rfl | rfl <;> rfl⟩
            rw [he, Op.equalIn]
            simp only [Sem.run_bind, hu, Result.andThen_ok]
            cases u <;> simp [mkTD] at hd
            cases q <;> rfl
        · cases h1
      · split at h1
        · rename_i p
          obtain ⟨q, rfl, hk⟩ := dM_elim h3
          cases p with
          | some _ => cases h1
          | none =>
            refine ⟨_, hk, ?_, fun op => by cases op <;> rfl, fun op ho => by rcases ho with rfl | rfl <;> rfl⟩
            rw [he, Op.equalIn]
            simp only [Sem.run_bind, hu, Result.andThen_ok]
            cases u <;> simp [mkTD] at hd
            cases q <;> rfl
        · cases h1
      · split at h1
        · rcases dIf_elim h3 with ⟨rfl, hk⟩ | ⟨_, _, rfl, hk⟩
          all_goals
            refine ⟨_, hk, ?_, fun op => by cases op <;> first | rfl | (unfold eqGuard; simp), fun op ho => by rcases ho with rfl | rfl <;> rfl⟩
            rw [he, Op.equalIn]
            simp only [Sem.run_bind, hu, Result.andThen_ok]
            cases u <;> simp [mkTD] at hd
            rfl
        · cases h1
      · split at h1
        · rcases dFn_elim h3 with ⟨rfl, hk⟩ | ⟨_, _, _, rfl, hk⟩
          all_goals
            refine ⟨_, hk, ?_, fun op => by cases op <;> rfl, fun op ho => by rcases ho with rfl | rfl <;> rfl⟩
            rw [he, Op.equalIn]
            simp only [Sem.run_bind, hu, Result.andThen_ok]
            cases u <;> simp [mkTD] at hd
            rfl
        · cases h1
      · cases h1
    | _ => cases h1
theorem binK_ok {C : Cx} (hC : OkCx C) {op : BinOp} {t : TypeId} {i : TI} {x y : Operand} {a b : Value} {w : World} {K : Value → World → Prop} (hi : C.T t = some i)
    (hx : ∀ v, x = .const v → a = v) (hy : ∀ v, y = .const v → b = v) (h : binK C.P i.d op t x y a b w K) : RunK C.P (do eqGuard op t x y a b; binOp op t a b) w K := by
  obtain ⟨u, hu, hd, hr⟩ := ok_und hC.tab hi
  unfold binK at h
  split at h
  · split at h
    · rename_i k a
      split at h
      · rename_i k' b
        have hg : (eqGuard op t x y (.int k a) (.int k' b)).run C.P w = .ok () w := eqGuard_int
        have go : ∀ {K : Value → World → Prop}, RunK C.P (binOp op t (.int k a) (.int k' b)) w K → RunK C.P (do eqGuard op t x y (.int k a) (.int k' b); binOp op t (.int k a) (.int k' b)) w K := by
          intro K h
          obtain ⟨v, w', hr, hk⟩ := RunK_elim h
          exact .of (by simp only [Sem.run_bind, hg, Result.andThen_ok, hr]) hk
        refine go ?_
        split at h
        · exact .of (v := .int k (ishl k a b)) (w' := w) (by simp [binOp, Op.shift, h.1, Int.not_lt.mpr h.1, ishl]) h.2
        · exact .of (v := .int k (ishr k a b)) (w' := w) (by simp [binOp, Op.shift, h.1, Int.not_lt.mpr h.1, ishr]) h.2
        · rename_i h1 h2
          cases hb : Nat.beq (ikN k) (ikN k') with
          | false => rw [hb] at h; exact h.elim
          | true =>
            rw [hb] at h
            obtain rfl := ikN_inj hb
            exact (arith_ok (K := fun v => K v w) t h1 h2 h).mono (by rintro v w' ⟨rfl, hk⟩; exact hk)
      · exact h.elim
    · exact h.elim
  · split at h
    · rename_i a
      split at h
      · rename_i b
        have hg : (eqGuard op t x y (.string a) (.string b)).run C.P w = .ok () w := eqGuard_str
        split at h
        · exact .of (w' := w) (by simp only [Sem.run_bind, hg, Result.andThen_ok, binOp, Op.stringOp]; rfl) h
        · exact .of (w' := w) (by simp only [Sem.run_bind, hg, Result.andThen_ok, binOp, Op.stringOp]; rfl) h
        · exact h.elim
      · exact h.elim
    · exact h.elim
  · rename_i hdd
    rw [hdd] at hd
    have hub : u = .bool := by cases u <;> simp [mkTD] at hd; rfl
    subst hub
    split at h
    · rename_i a
      split at h
      · rename_i b
        have hg : (eqGuard op t x y (.bool a) (.bool b)).run C.P w = .ok () w := eqGuard_bool
        have he : (Op.equal t (.bool a) (.bool b)).run C.P w = .ok (a == b) w := by
          show (Op.equalIn (9999 + 1) t (.bool a) (.bool b)).run C.P w = _
          rw [Op.equalIn]
          simp only [Sem.run_bind, hr, Result.andThen_ok, Sem.run_pure]
        rcases eqR_elim h with ⟨rfl, hk⟩ | ⟨rfl, hk⟩
        · exact .of (w' := w) (by simp only [Sem.run_bind, hg, Result.andThen_ok, binOp, he, Sem.run_pure]) hk
        · exact .of (w' := w) (by simp only [Sem.run_bind, hg, Result.andThen_ok, binOp, he, Sem.run_pure]) hk
      · exact h.elim
    · exact h.elim
  · split at h
    · rename_i hn
      have : ∃ r, eqR op r (fun r => K (.bool r) w) ∧ _ := nil_eq (x := x) (b := b) (w := w) hr hd (.inl ⟨hn, hy, h⟩)
      obtain ⟨r, hk, h1, h2, h3⟩ := this
      rcases eqR_elim hk with ⟨rfl, hk⟩ | ⟨rfl, hk⟩
      · exact .of (w' := w) (by simp only [Sem.run_bind, h2, Result.andThen_ok, h3 .eql (.inl rfl), h1, Sem.run_pure]) hk
      · exact .of (w' := w) (by simp only [Sem.run_bind, h2, Result.andThen_ok, h3 .neq (.inr rfl), h1, Sem.run_pure]) hk
    · split at h
      · rename_i hn
        have : ∃ r, eqR op r (fun r => K (.bool r) w) ∧ _ := nil_eq (y := y) (a := a) (w := w) hr hd (.inr ⟨hn, hx, h⟩)
        obtain ⟨r, hk, h1, h2, h3⟩ := this
        rcases eqR_elim hk with ⟨rfl, hk⟩ | ⟨rfl, hk⟩
        · exact .of (w' := w) (by simp only [Sem.run_bind, h2, Result.andThen_ok, h3 .eql (.inl rfl), h1, Sem.run_pure]) hk
        · exact .of (w' := w) (by simp only [Sem.run_bind, h2, Result.andThen_ok, h3 .neq (.inr rfl), h1, Sem.run_pure]) hk
      · exact h.mono (by intro v w' h; obtain ⟨r, rfl, hk⟩ := dB_elim h; exact hk)
end Go.Sx
