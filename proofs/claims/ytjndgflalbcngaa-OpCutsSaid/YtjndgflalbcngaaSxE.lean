/- The reading along a script is sound for every order that the machine may draw; a call is what its body reads as. -/
import Derived.Test.YtjndgflalbcngaaSxD
set_option linter.unusedVariables false
set_option linter.unusedSimpArgs false
namespace Go.Sx

section
variable {C : Cx} {ops : Array Oper} {m : List Nat} {K : Env → World → Prop}

theorem okS_done {ex : List Nat} (hall : ∀ i, i < ops.size → i ∈ ex) : ∀ {s : Scr} {top : Bool} {H : Held} {ρ : Env} {w : World}, okS C ops.toList top s ex = true → evD C ops.toList m s H ρ w K → K ρ w
  | .done, top, H, ρ, w, _, h => h
  | .br a b, top, H, ρ, w, hs, h => by
    simp only [okS, Bool.and_eq_true] at hs
    exact okS_done hall hs.1.2 h.1
  | .op i s, top, H, ρ, w, hs, h => by
    simp only [okS] at hs
    cases ho : nthO ops.toList i with
    | none => rw [ho] at hs; cases hs
    | some o =>
      rw [ho] at hs
      simp only [Bool.and_eq_true] at hs
      have hi : i < ops.size := by
        rw [nthO_eq, Array.getElem?_toList] at ho
        rcases Nat.lt_or_ge i ops.size with h | h
        · exact h
        · simp [Array.getElem?_eq_none h] at ho
      have := hs.1.1.1
      rw [(memN_iff).2 (hall i hi)] at this
      cases this
theorem okS_pick {ex : List Nat} {j : Nat} : ∀ {s : Scr} {top : Bool} {H : Held} {ρ : Env} {w : World}, j ∈ heads s → okS C ops.toList top s ex = true → evD C ops.toList m s H ρ w K →
    ∃ s' top', okS C ops.toList top' (.op j s') ex = true ∧ evD C ops.toList m (.op j s') H ρ w K
  | .done, top, H, ρ, w, hj, _, _ => by cases hj
  | .br a b, top, H, ρ, w, hj, hs, h => by
    simp only [okS, Bool.and_eq_true] at hs
    simp only [heads, List.mem_append] at hj
    rcases hj with hj | hj
    · exact okS_pick hj hs.1.2 h.1
    · exact okS_pick hj hs.2 h.2
  | .op i s, top, H, ρ, w, hj, hs, h => by
    simp only [heads, List.mem_singleton] at hj
    subst hj
    exact ⟨s, top, hs, h⟩
theorem actB_spec {all : List Oper} : ∀ {l : List Nat}, actB C all l = true → ∀ i ∈ l, ∀ o, all[i]? = some o → isQ C o = false
  | [], _, i, h, _, _ => by cases h
  | k :: l, h, i, hi, o, ho => by
    simp only [actB, Bool.and_eq_true] at h
    rcases List.mem_cons.1 hi with rfl | hi
    · have := h.1
      rw [nthO_eq, ho] at this
      simpa using this
    · exact actB_spec h.2 i hi o ho

theorem evD_sound (hC : OkCx C) (hP : Pairs C ops.toList m) (hG : Good ops.toList m) (hns : ∀ o ∈ ops.toList, ∀ cs b, o.op ≠ .select cs b) :
    ∀ (fuel : Nat) (s : Scr) {ex : List Nat} {H : Held} {ρ : Env} {w : World} {listed : Array Bool} {a : Act}, okS C ops.toList true s ex = true → Inv C ops m ex H ρ w listed a → left listed ≤ fuel →
      evD C ops.toList m s H ρ w K → wpAny C.P .any ops (opsPost C.n K) fuel listed a w := by
  intro fuel
  induction fuel with
  | zero =>
    intro s
    -- canonical operations ahead, then nothing is left
    induction s with
    | done => 
      intro ex H ρ w listed a hs inv hl h
      have hall := left_zero (Nat.le_zero.1 hl)
      have hin : ∀ i, i < ops.size → i ∈ ex := fun i hi => inv.sub i (hall i (by rw [inv.lsize]; exact hi))
      refine ⟨?_, rfl, ρ, ⟨inv.defers, inv.size, fun t => inv.get t fun i hi hnl => (hnl (hall i (by rw [inv.lsize]; exact inv.exLt i hi))).elim⟩, okS_done hin hs h⟩
      rw [List.eq_nil_iff_forall_not_mem]
      intro i hi
      obtain ⟨h1, o, h2, h3⟩ := mem_ready.1 hi
      have hi' : i < ops.size := by
        rcases Nat.lt_or_ge i ops.size with h | h
        · exact h
        · simp [Array.getElem?_eq_none h] at h2
      have := hall i (by rw [inv.lsize]; exact hi')
      unfold Li at this
      have hsz : i < listed.size := by rw [inv.lsize]; exact hi'
      simp [Array.getD_eq_getD_getElem?, hsz] at this h1
      rw [this] at h1
      cases h1
    | br x y _ _ =>
      intro ex H ρ w listed a hs inv hl h
      have hall := left_zero (Nat.le_zero.1 hl)
      have hin : ∀ i, i < ops.size → i ∈ ex := fun i hi => inv.sub i (hall i (by rw [inv.lsize]; exact hi))
      refine ⟨?_, rfl, ρ, ⟨inv.defers, inv.size, fun t => inv.get t fun i hi hnl => (hnl (hall i (by rw [inv.lsize]; exact inv.exLt i hi))).elim⟩, okS_done hin hs h⟩
      rw [List.eq_nil_iff_forall_not_mem]
      intro i hi
      obtain ⟨h1, o, h2, h3⟩ := mem_ready.1 hi
      have hi' : i < ops.size := by
        rcases Nat.lt_or_ge i ops.size with h | h
        · exact h
        · simp [Array.getElem?_eq_none h] at h2
      have := hall i (by rw [inv.lsize]; exact hi')
      unfold Li at this
      have hsz : i < listed.size := by rw [inv.lsize]; exact hi'
      simp [Array.getD_eq_getD_getElem?, hsz] at this h1
      rw [this] at h1
      cases h1
    | op i s _ =>
      intro ex H ρ w listed a hs inv hl h
      have hall := left_zero (Nat.le_zero.1 hl)
      simp only [okS] at hs
      cases ho : nthO ops.toList i with
      | none => rw [ho] at hs; cases hs
      | some o =>
        rw [ho] at hs
        simp only [Bool.and_eq_true] at hs
        have hi : i < ops.size := by
          rw [nthO_eq, Array.getElem?_toList] at ho
          rcases Nat.lt_or_ge i ops.size with h | h
          · exact h
          · simp [Array.getElem?_eq_none h] at ho
        have hx := inv.sub i (hall i (by rw [inv.lsize]; exact hi))
        have := hs.1.1.1
        rw [(memN_iff).2 hx] at this
        cases this
  | succ fuel ih =>
    intro s
    -- what happens where somebody who acts must come up
    have real : ∀ {s : Scr} {ex : List Nat} {H : Held} {ρ : Env} {w : World} {listed : Array Bool} {a : Act}, okS C ops.toList true s ex = true → closedB C ex (heads s) 0 ops.toList = true → Inv C ops m ex H ρ w listed a → left listed ≤ fuel + 1 →
        evD C ops.toList m s H ρ w K → wpAny C.P .any ops (opsPost C.n K) (fuel + 1) listed a w := by
      intro s ex H ρ w listed a hs hc inv hl h
      refine ⟨fun hr => ?_, fun j hj => ?_⟩
      · -- nothing may come up: all have
        have hall : ∀ i, i < ops.size → Li listed i := by
          intro i
          induction i using Nat.strongRecOn with
          | _ i ihi =>
            intro hi
            unfold Li
            cases hli : listed.getD i false with
            | true => rfl
            | false =>
              exfalso
              have ho : ops[i]? = some ops[i] := by simp [hi]
              have ho' : ops.toList[i]? = some ops[i] := by rw [Array.getElem?_toList]; exact ho
              have : i ∈ Region.ready .any ops listed := by
                refine mem_ready.2 ⟨?_, ops[i], ho, ?_⟩
                · have hsz : i < listed.size := by rw [inv.lsize]; exact hi
                  simpa [Array.getD_eq_getD_getElem?, hsz] using hli
                · intro e he hb
                  exact ihi e.on (hP.down i _ ho' e (by simpa using he) hb) (by have := hP.down i _ ho' e (by simpa using he) hb; omega)
              rw [hr] at this
              cases this
        have hin : ∀ i, i < ops.size → i ∈ ex := fun i hi => inv.sub i (hall i hi)
        exact ⟨rfl, ρ, ⟨inv.defers, inv.size, fun t => inv.get t fun i hi hnl => (hnl (hall i (inv.exLt i hi))).elim⟩, okS_done hin hs h⟩
      · obtain ⟨h1, o, ho, h3⟩ := mem_ready.1 hj
        have hr : ∀ e ∈ o.after.toList, Region.binds .any e = true → Li listed e.on := fun e he hb => h3 e (by simpa using he) hb
        have ho' : ops.toList[j]? = some o := by rw [Array.getElem?_toList]; exact ho
        have hom : o ∈ ops.toList := List.mem_of_getElem? ho'
        have hjs : j < listed.size := by
          rw [inv.lsize]
          rcases Nat.lt_or_ge j ops.size with h | h
          · exact h
          · simp [Array.getElem?_eq_none h] at ho
        have h1' : listed.getD j false = false := by simpa [Array.getD_eq_getD_getElem?, hjs] using h1
        have hnl : ¬ Li listed j := by unfold Li; rw [h1']; simp
        have hleft := left_set hjs h1'
        have hgets := look_gets hP hG inv ho hr
        have heval : execOp a.eval o = execOp (ev ρ) o := execOp_congr o (hns o hom) (fun x hx => by
          have := ev_congr (all := ops.toList) (o := o) (ρ := fun t => a.tmps.getD t undef) (ρ' := ρ) hgets x hx
          rw [← this]
          cases x <;> rfl)
        unfold wpOp
        rw [ho]
        simp only
        by_cases hjx : j ∈ ex
        · obtain ⟨q, v, fs, q1, q2, q3, q4, q5, q6, q7⟩ := inv.pend j hjx hnl
          have e1 : o = q := by rw [ho] at q1; exact Option.some.inj q1
          subst e1
          have inv' := inv.up hP ho hjx q3.1 hr q6
          have hgn := q3.2
          rcases q7 with ⟨hw, hv⟩ | ⟨hw, rfl⟩
          · rw [if_pos (wanted_eq inv.size hgets hw hgn)]
            refine .inl (After.wp (K := fun u w'' => u = v ∧ w'' = w) ?_ ?_)
            · rw [heval]; exact hv w q5
            · rintro u w'' ⟨rfl, rfl⟩
              exact ih s hs inv' (by omega) h
          · rw [if_neg (by rw [wanted_eq inv.size hgets hw hgn]; simp)]
            exact ih s hs inv' (by omega) h
        · have hc' := closedB_spec hc j o ho'
          rw [Nat.zero_add] at hc'
          rcases hc' with hc' | hc' | ⟨hQ, hhd⟩
          · exact (hjx hc').elim
          · exact (hc' fun e he hb => inv.sub _ (hr e he hb)).elim
          · obtain ⟨s', top', hs', h'⟩ := okS_pick hhd hs h
            obtain ⟨hd, hgn, ρ', hρ, h'⟩ := evD_op ho' h'
            have hρe : ρ' = ρ := funext hρ
            subst hρe
            simp only [okS, nthO_eq, ho', Bool.and_eq_true] at hs'
            rcases h' with ⟨hw, h'⟩ | ⟨hw, h'⟩
            · rw [if_pos (wanted_eq inv.size hgets hw hgn)]
              rw [hQ] at h'
              simp only [cond_false] at h'
              refine .inl (After.wp (K := fun v w' => heldH m j H w' (evD C ops.toList m s' H (put ρ' o.dst v) w' K)) ?_ ?_)
              · rw [heval]; exact evOp_sound hC h'
              · intro v w' hk
                obtain ⟨hk, hheld⟩ := heldH_spec hk
                exact ih s' hs'.2 (inv.acts hP hG hns ho hjx hd hr fun i fs hm ha _ => hheld i fs hm ha) (by omega) hk
            · rw [if_neg (by rw [wanted_eq inv.size hgets hw hgn]; simp)]
              exact ih s' hs'.2 (inv.acts hP hG hns ho hjx hd hr fun i fs hm ha hw => hw) (by omega) h'
    induction s with
    | done =>
      intro ex H ρ w listed a hs inv hl h
      have all_closed : ∀ {l : List Oper} {k : Nat}, allB ex k l = true → closedB C ex [] k l = true := by
        intro l
        induction l with
        | nil => intro k _; rfl
        | cons o l ihl =>
          intro k hk
          simp only [allB, Bool.and_eq_true] at hk
          simp only [closedB, Bool.and_eq_true, Bool.or_eq_true]
          exact ⟨.inl (.inl hk.1), ihl hk.2⟩
      exact real hs (all_closed (by simpa [okS] using hs)) inv hl h
    | br x y _ _ =>
      intro ex H ρ w listed a hs inv hl h
      have hs' := hs
      simp only [okS, Bool.not_true, Bool.false_or, Bool.and_eq_true] at hs'
      exact real hs hs'.1.1.1 inv hl h
    | op i s ihs =>
      intro ex H ρ w listed a hs inv hl h
      have hs' := hs
      simp only [okS] at hs'
      cases ho : nthO ops.toList i with
      | none => rw [ho] at hs'; cases hs'
      | some o =>
        rw [ho] at hs'
        simp only [Bool.and_eq_true, Bool.or_eq_true, Bool.not_true, Bool.false_eq_true, or_false] at hs'
        obtain ⟨⟨⟨h1, h2⟩, h3⟩, h4⟩ := hs'
        have hix : i ∉ ex := fun hm => by rw [(memN_iff).2 hm] at h1; cases h1
        rw [nthO_eq] at ho
        have ho' : ops[i]? = some o := by rw [← Array.getElem?_toList]; exact ho
        cases hQ : isQ C o with
        | false =>
          rw [hQ] at h3
          exact real hs (by simpa [heads] using h3) inv hl h
        | true =>
          obtain ⟨hd, hgn, ρ', hρ, h⟩ := evD_op ho h
          have hρe : ρ' = ρ := funext hρ
          subst hρe
          rcases h with ⟨hw, h⟩ | ⟨hw, h⟩
          · rw [hQ] at h
            simp only [cond_true] at h
            obtain ⟨v, hk, hh, hv⟩ := evOp_quiet hQ h
            refine ihs h4 (inv.ahead hP hG hns ho' hQ ⟨hd, hgn⟩ hix (edgesIn_iff.1 h2) (.inr (List.mem_cons_self ..)) (fun p hp => List.mem_cons_of_mem _ hp) hh (.inl ⟨hw, fun w' hw' => ?_⟩)) hl hk
            exact evOp_sound hC (hv w' hw' _ ⟨rfl, rfl⟩)
          · exact ihs h4 (inv.ahead hP hG hns ho' hQ ⟨hd, hgn⟩ hix (edgesIn_iff.1 h2) (.inl rfl) (fun p hp => hp) trivial (.inr ⟨hw, rfl⟩)) hl h

/-- **A region that draws its order.** -/
theorem region_draws (hC : OkCx C) {id : Nat} {s : Scr} (hok : okRegion C ops.toList (masks ops.toList []) s = true) {ρ : Env} {w : World} {a : Act} (hr : Rel C.n ρ a)
    (h : evD C ops.toList (masks ops.toList []) s [] ρ w.drew K) : (Code.region id ops true).wp C.P (opsPost C.n K) a w := by
  simp only [okRegion, Bool.and_eq_true] at hok
  refine wp_region_any hC.mixed (evD_sound hC (pairs_of hok.1.2) (masks_ok _) (noSelB_spec hok.2) _ s hok.1.1 ?_ ?_ h)
  · refine ⟨hr.defers, hr.size, by simp, ?_, ?_, ?_, ?_, ?_, fun t _ => hr.get t⟩
    · intro i o hi hl
      unfold Li at hl
      simp [Array.getD_eq_getD_getElem?, Array.getElem?_replicate] at hl
      split at hl <;> simp at hl
    · intro i o hi hm; cases hm
    · intro i hi; cases hi
    · intro i hl
      unfold Li at hl
      simp [Array.getD_eq_getD_getElem?, Array.getElem?_replicate] at hl
      split at hl <;> simp at hl
    · intro i hi; cases hi
  · unfold left
    have := List.countP_le_length (p := fun b => !b) (l := (Array.replicate ops.size false).toList)
    simpa using this
end

/-- A body's regions that draw, and their scripts. -/
abbrev Scrs := List (Nat × Scr)
def scrAt : Scrs → Nat → Option Scr
  | [], _ => none
  | p :: l, i => cond (Nat.beq i p.1) (some p.2) (scrAt l i)
def drawD (C : Cx) (S : Scrs) (id : Nat) (all : List Oper) (ρ : Env) (w : World) (K : Env → World → Prop) : Prop := match scrAt S id with
  | some s => cond (okRegion C all (masks all []) s) (evD C all (masks all []) s [] ρ w.drew K) False
  | none => False
theorem drawD_sound {C : Cx} (hC : OkCx C) (S : Scrs) : DSound C (drawD C S) := by
  intro id ops ρ w K h a hr
  unfold drawD at h
  split at h
  · obtain ⟨h1, h2⟩ := cond_elim h
    exact region_draws hC h1 hr h2
  · exact h.elim

/-! ### What a body hands back -/
def evRes (C : Cx) : List ResultVar → Env → World → (List Value → Prop) → Prop
  | [], _, _, K => K []
  | .tmp t :: l, ρ, w, K => evRes C l ρ w fun vs => K (ρ t :: vs)
  | .cell a t :: l, ρ, w, K => match ρ a with
    | .pointer p => wA p fun ad => ldT C.T t ad w fun v => evRes C l ρ w fun vs => K (v :: vs)
    | _ => False
def resV : List Value → Value
  | [v] => v
  | l => .tuple l.toArray
def resSem (tmps : Array Value) : ResultVar → Sem Value
  | .tmp t => pure (tmps.getD t undef)
  | .cell b t => do loadVar t (← asAddr (tmps.getD b undef))
theorem evRes_mapM {C : Cx} (hC : OkCx C) {ρ : Env} {w : World} {a : Act} (hr : Rel C.n ρ a) : ∀ {l : List ResultVar} {K : List Value → Prop}, evRes C l ρ w K →
    ∃ vs, (l.mapM (resSem a.tmps)).run C.P w = .ok vs w ∧ vs.length = l.length ∧ K vs
  | [], K, h => ⟨[], rfl, rfl, h⟩
  | .tmp t :: l, K, h => by
    obtain ⟨vs, h1, h2, h3⟩ := evRes_mapM hC hr (l := l) (K := fun vs => K (ρ t :: vs)) h
    refine ⟨ρ t :: vs, ?_, by simp [h2], h3⟩
    have h0 : (resSem a.tmps (.tmp t)).run C.P w = .ok (ρ t) w := by simp [resSem, hr.get]
    simp only [List.mapM_cons, Sem.run_bind, h0, Sem.run_pure, Result.andThen_ok, h1]
  | .cell b t :: l, K, h => by
    simp only [evRes] at h
    split at h
    · rename_i p hp
      obtain ⟨ad, rfl, h'⟩ := wA_elim h
      obtain ⟨v, hv, hk⟩ := ldT_elim hC.tab h'
      obtain ⟨vs, h1, h2, h3⟩ := evRes_mapM hC hr (l := l) (K := fun vs => K (v :: vs)) hk
      refine ⟨v :: vs, ?_, by simp [h2], h3⟩
      have h0 : (resSem a.tmps (.cell b t)).run C.P w = .ok v w := by
        simp only [resSem, hr.get, hp, asAddr, Sem.run_bind, Sem.run_pure, Result.andThen_ok, hv]
      simp only [List.mapM_cons, Sem.run_bind, h0, Sem.run_pure, Result.andThen_ok, h1]
    · exact h.elim
theorem evRes_run {C : Cx} (hC : OkCx C) {ρ : Env} {w : World} {a : Act} (hr : Rel C.n ρ a) {fn : Func} {K : Value → Prop} (h : evRes C fn.results.toList ρ w fun vs => K (resV vs)) :
    ∃ v, (results fn a.tmps).run C.P w = .ok v w ∧ K v := by
  obtain ⟨vs, h1, h2, h3⟩ := evRes_mapM hC hr h
  refine ⟨_, ?_, h3⟩
  have hm : (fn.results.mapM (resSem a.tmps)).run C.P w = .ok vs.toArray w := by
    rw [← Array.toArray_toList (xs := fn.results), List.mapM_toArray, Sem.run_map, h1]
    try rfl
  have he : results fn a.tmps = (do let vs ← fn.results.mapM (resSem a.tmps); pure (if h : vs.size = 1 then vs[0] else .tuple vs)) := by
    unfold results
    have hf : (fun | .tmp t => pure (a.tmps.getD t undef) | .cell b t => do loadVar t (← asAddr (a.tmps.getD b undef)) : ResultVar → Sem Value) = resSem a.tmps := by
      funext r
      cases r <;> rfl
    rw [← hf]
    rfl
  rw [he]
  simp only [Sem.run_bind, hm, Result.andThen_ok, Sem.run_pure]
  match vs with
  | [] => rfl
  | [v] => rfl
  | v :: u :: vs => simp [resV]

/-- **A call is what its body reads as.** -/
theorem call_of {C : Cx} (hC : OkCx C) {f : FuncId} {fn : Func} {c : Code} {args : List Value} {w : World} {K : Value → World → Prop} (hf : C.P.funcs[f]? = some fn) (hb : fn.body = some c) (hn : fn.ntmps = C.n)
    (ha : Nat.ble args.length C.n = true) (h : Fin C [.code c] (argEnv args) w fun ρ w' => evRes C fn.results.toList ρ w' fun vs => K (resV vs) w') : CallK C.P f args.toArray w K := by
  have ha := Nat.le_of_ble_eq_true ha
  intro cs
  let b : Frame := { (default : Frame) with fn := f, kind := .normal }
  let a : Act := { tmps := args.toArray ++ Array.replicate (fn.ntmps - args.toArray.size) undef, defers := [] }
  have henter : Frame.enter C.P f args.toArray .normal = b.at a [.code c] := by
    simp [Frame.enter, Frame.at, hf, hb, b, a]
  have nthL : ∀ (l : List Value) (t : Nat), nth l t = (l[t]?).getD undef := by
    intro l
    induction l with
    | nil => intro t; simp [nth]
    | cons v l ih => intro t; cases t <;> simp [nth, ih]
  have hr : Rel C.n (argEnv args) a := by
    refine ⟨rfl, by simp [a, hn]; omega, fun t => ?_⟩
    simp only [argEnv, nthL, a, Array.getD_eq_getD_getElem?]
    rw [Array.getElem?_append]
    by_cases ht : t < args.length
    · rw [if_pos (by simpa using ht)]; simp
    · rw [if_neg (by simpa using ht)]
      rw [List.getElem?_eq_none (by omega), Array.getElem?_replicate]
      split <;> rfl
  obtain ⟨ρ', a', w', todo', hr', hR, hs⟩ := h a b cs hr
  obtain ⟨v, hv, hk⟩ := evRes_run hC hr' (K := fun v => K v w') hR
  refine ⟨.returned v, w', { b.at a' todo' with mode := .returning }, hk, ?_, rfl, rfl, hr'.defers, rfl, fn, hf, hv⟩
  rw [henter]
  exact hs
theorem Fin.cut {C : Cx} {todo : List Item} {ρ ρ' : Env} {w : World} {R : Env → World → Prop} (h : Fin C todo ρ' w R) (e : ρ' = ρ) : Fin C todo ρ w R := e ▸ h
theorem put_id {ρ : Env} {t : Nat} {v : Value} (h : ρ t = v) : put ρ (some t) v = ρ := by
  funext s
  simp only [put]
  cases hb : Nat.beq s t with
  | true => have := Nat.eq_of_beq_eq_true hb; rw [this, h]; rfl
  | false => rfl
/-- Where a region stands in a body. -/
def todoAt : Code → Nat → List Item → Option (List Item)
  | .region i ops d, id, k => cond (Nat.beq i id) (some (.code (.region i ops d) :: k)) none
  | .seq a b, id, k => match todoAt a id (.code b :: k) with
    | some r => some r
    | none => todoAt b id k
  | .cond _ a b, id, k => match todoAt a id k with
    | some r => some r
    | none => todoAt b id k
  | .block i c, id, k => todoAt c id (.inBlock i :: k)
  | .loop c, id, k => todoAt c id (.inLoop c :: k)
  | _, _, _ => none
def todoOf (fn : Func) (id : Nat) : List Item := match fn.body with
  | some c => match todoAt c id [] with
    | some t => t
    | none => []
  | none => []
def bodyOf (fn : Func) : List Item := match fn.body with
  | some c => [.code c]
  | none => []
theorem castK {p q : Prop} (h : p) (e : p = q) : q := e ▸ h
theorem call_fn {C : Cx} (hC : OkCx C) {f : FuncId} {fn : Func} {args : List Value} {w : World} {K : Value → World → Prop} (hf : C.P.funcs[f]? = some fn) (hb : fn.body.isSome = true) (hn : Nat.beq fn.ntmps C.n = true)
    (ha : Nat.ble args.length C.n = true) (h : Fin C (bodyOf fn) (argEnv args) w fun ρ w' => evRes C fn.results.toList ρ w' fun vs => K (resV vs) w') : CallK C.P f args.toArray w K := by
  cases hbb : fn.body with
  | none => rw [hbb] at hb; cases hb
  | some c =>
    have : bodyOf fn = [.code c] := by simp [bodyOf, hbb]
    rw [this] at h
    exact call_of hC hf hbb (Nat.eq_of_beq_eq_true hn) ha h
/-- The cuts' own proofs, one by one. -/
def AllL (C : Cx) (fn : Func) (R : Env → World → Prop) : Cuts → Prop
  | [] => True
  | p :: l => (∀ ρ w, p.2 ρ w → Fin C (todoOf fn p.1) ρ w R) ∧ AllL C fn R l
theorem leaf_of {C : Cx} {fn : Func} {R : Env → World → Prop} {L : Cuts} {ids : List Nat} {f : Nat} {todo : List Item} (js : List Nat) (hl : leaves ids f true todo = js.map fun j => (j, todoOf fn j)) (hall : AllL C fn R L) :
    ∀ p ∈ leaves ids f true todo, ∀ q, cutAt L p.1 = some q → ∀ ρ w, q ρ w → Fin C p.2 ρ w R := by
  intro p hp q hq ρ w h
  rw [hl] at hp
  obtain ⟨j, hj, rfl⟩ := List.mem_map.1 hp
  simp only at hq ⊢
  clear hp hl hj
  induction L with
  | nil => cases hq
  | cons p l ih =>
    simp only [cutAt] at hq
    cases hb : Nat.beq j p.1 with
    | true =>
      rw [hb] at hq
      simp only [cond_true, Option.some.injEq] at hq
      subst hq
      rw [Nat.eq_of_beq_eq_true hb]
      exact hall.1 ρ w h
    | false =>
      rw [hb] at hq
      exact ih hall.2 hq

/-! ### Short words of the readings -/
def Al (T : Tab) (t : TypeId) (w : World) (K : Addr → World → Prop) : Prop := K ⟨w.heap.size, 0, none⟩ (w.alloc (.cells (zc T t).toArray t))
def Bx (cs : List Value) (t : TypeId) (w : World) (K : Addr → World → Prop) : Prop := K ⟨w.heap.size, 0, none⟩ (w.alloc (.cells cs.toArray t))
def App (P : Program) (ats : Array TypeId) (ty : TypeId) (s x : Value) (w : World) (K : Option Addr → Nat → Nat → World → Prop) : Prop :=
  RunK P (Builtin.append_ ats ty [s, x].toArray) w fun v w' => dS v fun a n c => K a n c w'
def Cpy (P : Program) (ats : Array TypeId) (ty : TypeId) (s x : Value) (w : World) (K : Int → World → Prop) : Prop :=
  RunK P (Builtin.copy_ ats ty [s, x].toArray) w fun v w' => dI .i64 v fun n => K n w'
def MkS (P : Program) (t : TypeId) (l c : Value) (w : World) (K : Option Addr → Nat → Nat → World → Prop) : Prop :=
  RunK P (Instr.makeSlice t l c) w fun v w' => dS v fun a n c => K a n c w'
def MkM (P : Program) (t : TypeId) (r : Option Value) (w : World) (K : Option Nat → World → Prop) : Prop :=
  RunK P (Instr.makeMap t r) w fun v w' => dM v fun m => K m w'
def EqK (P : Program) (op : BinOp) (t : TypeId) (x y : Operand) (a b : Value) (w : World) (K : Bool → World → Prop) : Prop :=
  RunK P (do eqGuard op t x y a b; binOp op t a b) w fun v w' => dB v fun r => K r w'
/-- A function value that is known. -/
def dF (g : Nat) (v : Value) (K : Prop) : Prop := match v with
  | .func fn f c => match fn with
    | .func g' => cond (Nat.beq g' g) (dNil f.toList (dNil c.toList K)) False
    | _ => False
  | _ => False
theorem dF_elim {g : Nat} {v : Value} {K : Prop} (h : dF g v K) : v = .func (.func g) #[] #[] ∧ K := by
  cases v with
  | func fn f c =>
    cases fn with
    | func g' =>
      obtain ⟨hb, h3⟩ := cond_elim h
      obtain ⟨h1, h4⟩ := dNil_elim h3
      obtain ⟨h2, h5⟩ := dNil_elim h4
      rw [Array.toList_eq_nil_iff.1 h1, Array.toList_eq_nil_iff.1 h2, Nat.eq_of_beq_eq_true hb]
      exact ⟨rfl, h5⟩
    | _ => exact h.elim
  | _ => exact h.elim
/-- The functions that have bodies. -/
def fnsB (P : Program) : List Nat → Bool
  | [] => true
  | f :: l => (match P.funcs[f]? with | some fn => fn.body.isSome && !(fn.name == "runtime.NumGoroutine") | none => false) && fnsB P l
theorem okCx_of {P : Program} {l : List (Nat × TI)} {fs : List Nat} (h1 : l.map (fun p => viewTI P p.1) = l.map (fun p => some (p.2.d, p.2.size, p.2.bytes, p.2.zero))) (h2 : fnsB P fs = true) (h3 : P.follows .mixedOrders = true) (n : Nat) :
    OkCx ⟨P, tabOf l, fun f => memN f fs, n⟩ := by
  refine ⟨okTab_of P l h1, ?_, h3⟩
  intro f hf
  simp only at hf
  have hf := memN_iff.1 hf
  simp only
  clear h1
  induction fs with
  | nil => cases hf
  | cons g fs ih =>
    simp only [fnsB, Bool.and_eq_true] at h2
    rcases List.mem_cons.1 hf with rfl | hf
    · have h := h2.1
      split at h
      · rename_i fn hfn
        simp only [Bool.and_eq_true, Bool.not_eq_true'] at h
        exact ⟨fn, hfn, h.1, h.2⟩
      · cases h
    · exact ih h2.2 (memN_iff.2 hf) hf
end Go.Sx
