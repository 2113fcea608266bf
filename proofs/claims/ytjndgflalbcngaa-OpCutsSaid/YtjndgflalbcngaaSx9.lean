/- A region that draws its order: what only computes or reads is taken as soon as it may be; what acts, in its order; what is read stays as it was read. -/
import Derived.Test.YtjndgflalbcngaaSx8
set_option linter.unusedVariables false
set_option linter.unusedSimpArgs false
namespace Go.Sx

def isInt (C : Cx) (t : TypeId) : Bool := match C.T t with
  | some i => match i.d with | .int _ => true | _ => false
  | none => false
def isSl (C : Cx) (t : TypeId) : Bool := match C.T t with
  | some i => match i.d with | .slice _ => true | _ => false
  | none => false
def isLen (C : Cx) (t : TypeId) : Bool := match C.T t with
  | some i => match i.d with | .slice _ => true | .str => true | _ => false
  | none => false
/-- Does an operation only compute, or read cells? -/
def isQ (C : Cx) (o : Oper) : Bool := match o.op with
  | .move _ => true
  | .pick _ _ _ => true
  | .load _ _ => true
  | .nilCheck _ => true
  | .unOp _ _ _ => true
  | .makeInterface _ _ => true
  | .makeFunc _ _ _ => true
  | .build _ _ => true
  | .fieldAddr _ _ _ => true
  | .field _ _ _ => true
  | .indexAddr _ _ _ => true
  | .index _ _ _ => true
  | .extract _ _ => true
  | .binOp _ t x y _ => match C.T t with
    | some i => match i.d with
      | .int _ => true
      | .str => true
      | .bool => true
      | d => isNilC d y || isNilC d x
    | none => false
  | .convert s t _ => isInt C s && isInt C t
  | .slice t _ _ _ _ => isSl C t
  | .call c => match c.callee with
    | .builtin b => match b with
      | .len => match c.argTypes.toList with
        | t :: _ => isLen C t
        | [] => false
      | .min => true
      | .max => true
      | _ => false
    | _ => false
  | _ => false
def zipA (a : Addr) : Nat → List Value → List (Addr × Value)
  | _, [] => []
  | i, v :: l => (a.add i, v) :: zipA a (i + 1) l
def cellsV : Value → List Value | .agg cs => cs.toList | _ => []
/-- What a load has read. -/
def factsOf (C : Cx) (o : Oper) (ρ : Env) (v : Value) : List (Addr × Value) := match o.op with
  | .load t x => match ev ρ x with
    | .pointer p => match p with
      | some a => match C.T t with
        | some i => match i.agg with
          | true => zipA a 0 (cellsV v)
          | false => [(a, v)]
        | none => []
      | none => []
    | _ => []
  | _ => []
def heldP : List (Addr × Value) → World → Prop
  | [], _ => True
  | p :: l, w => w.cell? p.1 = some p.2 ∧ heldP l w

/-! ### What is quiet yields one value, in every world in which what it has read is as it was -/
theorem ld1_again {l : Lf} {a : Addr} {w : World} {K : Value → Prop} (h : ld1 l a w K) : ∃ v, K v ∧ w.cell? a = some v ∧ ∀ w', w'.cell? a = some v → ∀ K' : Value → Prop, K' v → ld1 l a w' K' := by
  cases l with
  | int k => obtain ⟨n, h1, h2⟩ := h; exact ⟨_, h2, h1, fun w' h K' hk => ⟨n, h, hk⟩⟩
  | bool => obtain ⟨n, h1, h2⟩ := h; exact ⟨_, h2, h1, fun w' h K' hk => ⟨n, h, hk⟩⟩
  | str => obtain ⟨n, h1, h2⟩ := h; exact ⟨_, h2, h1, fun w' h K' hk => ⟨n, h, hk⟩⟩
  | ptr => obtain ⟨n, h1, h2⟩ := h; exact ⟨_, h2, h1, fun w' h K' hk => ⟨n, h, hk⟩⟩
  | sl => obtain ⟨b, n, c, h1, h2⟩ := h; exact ⟨_, h2, h1, fun w' h K' hk => ⟨b, n, c, h, hk⟩⟩
  | map => obtain ⟨n, h1, h2⟩ := h; exact ⟨_, h2, h1, fun w' h K' hk => ⟨n, h, hk⟩⟩
  | any => obtain ⟨v, h1, h3, h2⟩ := h; exact ⟨_, h2, h1, fun w' h K' hk => ⟨v, h, h3, hk⟩⟩
theorem ldCells_again : ∀ {ls : List Lf} {a : Addr} {i : Nat} {w : World} {K : List Value → Prop}, ldCells ls a i w K →
    ∃ vs, K vs ∧ heldP (zipA a i vs) w ∧ ∀ w', heldP (zipA a i vs) w' → ∀ K' : List Value → Prop, K' vs → ldCells ls a i w' K'
  | [], a, i, w, K, h => ⟨[], h, trivial, fun w' _ K' hk => hk⟩
  | l :: ls, a, i, w, K, h => by
    obtain ⟨v, h, hc, hv⟩ := ld1_again h
    obtain ⟨vs, hk, hh, hvs⟩ := ldCells_again h
    exact ⟨v :: vs, hk, ⟨hc, hh⟩, fun w' hw K' hk' => hv w' hw.1 _ (hvs w' hw.2 _ hk')⟩
theorem arith_again {op : BinOp} {k : IntKind} {a b : Int} {K : Value → Prop} (h : arith op k a b K) : ∃ v, K v ∧ ∀ K' : Value → Prop, K' v → arith op k a b K' := by
  cases op <;> simp only [arith] at h ⊢ <;> first
    | exact ⟨_, h, fun K' hk => hk⟩
    | (obtain ⟨h1, h2⟩ := h; exact ⟨_, h2, fun K' hk => ⟨h1, hk⟩⟩)
theorem eqR_again {op : BinOp} {r : Bool} {K : Value → Prop} (h : eqR op r fun r => K (.bool r)) : ∃ v, K v ∧ ∀ K' : Value → Prop, K' v → eqR op r fun r => K' (.bool r) := by
  cases op <;> simp only [eqR] at h ⊢ <;> exact ⟨_, h, fun K' hk => hk⟩
theorem dNilV_again {d : TD} {op : BinOp} {a : Value} {K : Value → Prop} (h : dNilV d a fun r => eqR op r fun r => K (.bool r)) : ∃ v, K v ∧ ∀ K' : Value → Prop, K' v → dNilV d a fun r => eqR op r fun r => K' (.bool r) := by
  cases d <;> simp only [dNilV] at h ⊢
  · obtain ⟨p, rfl, h⟩ := dP_elim h
    exact eqR_again h
  · obtain ⟨p, rfl, h⟩ := dM_elim h
    exact eqR_again h
  · rcases dIf_elim h with ⟨rfl, h⟩ | ⟨_, _, rfl, h⟩ <;> exact eqR_again h
  · rcases dFn_elim h with ⟨rfl, h⟩ | ⟨_, _, _, rfl, h⟩ <;> exact eqR_again h
  · obtain ⟨p, n, c, rfl, h⟩ := dS_elim h
    exact eqR_again h
theorem dLf_again {l : Lf} {v : Value} {K : Value → Prop} (h : dLf l v K) : ∃ u, K u ∧ ∀ K' : Value → Prop, K' u → dLf l v K' := by
  cases l with
  | int k => obtain ⟨n, rfl, h'⟩ := dI_elim h; exact ⟨_, h', fun K' hk => by simp only [dLf, dI, Nat.beq_refl, cond_true]; exact hk⟩
  | bool => obtain ⟨n, rfl, h'⟩ := dB_elim h; exact ⟨_, h', fun K' hk => hk⟩
  | str => obtain ⟨n, rfl, h'⟩ := dStr_elim h; exact ⟨_, h', fun K' hk => hk⟩
  | ptr => obtain ⟨n, rfl, h'⟩ := dP_elim h; exact ⟨_, h', fun K' hk => hk⟩
  | sl => obtain ⟨b, n, c, rfl, h'⟩ := dS_elim h; exact ⟨_, h', fun K' hk => hk⟩
  | map => obtain ⟨n, rfl, h'⟩ := dM_elim h; exact ⟨_, h', fun K' hk => hk⟩
  | any => obtain ⟨h1, h'⟩ := dV_elim h; exact ⟨_, h', fun K' hk => by simp only [dLf, dV, h1, cond_true]; exact hk⟩
theorem partK_again {T : Tab} {t : TypeId} {cs : Array Value} {off : Nat} {K : Value → Prop} (h : partK T t cs off K) : ∃ v, K v ∧ ∀ K' : Value → Prop, K' v → partK T t cs off K' := by
  unfold partK at *
  split at h
  · rename_i i hi
    split at h
    · exact ⟨_, h, fun K' hk => by first | exact hk | (simp only [*])⟩
    · split at h
      · exact ⟨_, h, fun K' hk => by first | exact hk | (simp only [*])⟩
      · exact h.elim
  · exact h.elim
theorem ldT_again {C : Cx} {t : TypeId} {a : Addr} {w : World} {K : Value → Prop} (h : ldT C.T t a w K) :
    ∃ v i, K v ∧ C.T t = some i ∧ heldP (match i.agg with | true => zipA a 0 (cellsV v) | false => [(a, v)]) w ∧ ∀ w', heldP (match i.agg with | true => zipA a 0 (cellsV v) | false => [(a, v)]) w' → ∀ K' : Value → Prop, K' v → ldT C.T t a w' K' := by
  unfold ldT at h ⊢
  cases hi : C.T t with
  | none => rw [hi] at h; exact h.elim
  | some i =>
    rw [hi] at h
    simp only at h
    cases hag : i.agg with
    | true =>
      rw [hag] at h
      simp only at h
      obtain ⟨hl, h⟩ := cond_elim h
      obtain ⟨vs, hk, hh, hv⟩ := ldCells_again h
      refine ⟨_, i, hk, rfl, ?_, fun w' hw K' hk' => ?_⟩
      · rw [hag]; simpa [cellsV] using hh
      · rw [hag] at hw
        simp only [hag, hl, cond_true]
        exact hv w' (by simpa [cellsV] using hw) _ hk'
    | false =>
      rw [hag] at h
      simp only at h
      cases hf : i.lf with
      | nil => rw [hf] at h; exact h.elim
      | cons f fs =>
        rw [hf] at h
        obtain ⟨v, hk, hc, hv⟩ := ld1_again h
        refine ⟨v, i, hk, rfl, ?_, fun w' hw K' hk' => ?_⟩
        · rw [hag]; exact ⟨hc, trivial⟩
        · rw [hag] at hw
          simp only [hag, hf]
          exact hv w' hw.1 _ hk'

theorem evOp_quiet {C : Cx} {o : Oper} {ρ : Env} {w : World} {K : Value → World → Prop} (hq : isQ C o = true) (h : evOp C o ρ w K) :
    ∃ v, K v w ∧ heldP (factsOf C o ρ v) w ∧ ∀ w', heldP (factsOf C o ρ v) w' → ∀ K' : Value → World → Prop, K' v w' → evOp C o ρ w' K' := by
  have pure : (∀ v, factsOf C o ρ v = []) → (∃ v, K v w ∧ ∀ w' (K' : Value → World → Prop), K' v w' → evOp C o ρ w' K') →
      ∃ v, K v w ∧ heldP (factsOf C o ρ v) w ∧ ∀ w', heldP (factsOf C o ρ v) w' → ∀ K' : Value → World → Prop, K' v w' → evOp C o ρ w' K' := by
    rintro h0 ⟨v, h1, h2⟩
    exact ⟨v, h1, by rw [h0]; trivial, fun w' _ => h2 w'⟩
  unfold isQ at hq
  cases hop : o.op <;> simp only [hop, Bool.false_eq_true] at hq
  case load t x =>
    unfold evOp at h
    simp only [hop] at h
    split at h
    · rename_i p hp
      obtain ⟨a, rfl, h'⟩ := wA_elim h
      obtain ⟨v, i, hk, hi, hh, hf⟩ := ldT_again h'
      have hff : factsOf C o ρ v = (match i.agg with | true => zipA a 0 (cellsV v) | false => [(a, v)]) := by
        simp only [factsOf, hop, hp, hi]
      refine ⟨v, hk, by rw [hff]; exact hh, fun w' hw K' hk' => ?_⟩
      rw [hff] at hw
      unfold evOp
      simp only [hop, hp]
      exact hf w' hw (fun v => K' v w') hk'
    · exact h.elim
  all_goals refine pure (fun v => by simp only [factsOf, hop]) ?_
  all_goals unfold evOp at h ⊢; simp only [hop] at h ⊢
  case move x => exact ⟨_, h, fun w' K' hk => hk⟩
  case pick c a b =>
    split at h
    · rename_i t ht
      cases t
      · exact ⟨_, h, fun w' K' hk => hk⟩
      · exact ⟨_, h, fun w' K' hk => hk⟩
    · exact h.elim
  case build t ps =>
    split at h
    · rename_i pl hpl
      split at h
      · rename_i cs hcs
        try simp only [hpl, hcs]
        exact ⟨_, h, fun w' K' hk => hk⟩
      · exact h.elim
    · exact h.elim
  case nilCheck x =>
    split at h
    · rename_i p hp
      obtain ⟨a, rfl, h'⟩ := wA_elim h
      exact ⟨_, h', fun w' K' hk => hk⟩
    · exact h.elim
  case binOp op t x y yt =>
    split at h
    · rename_i i hi
      simp only [hi] at hq ⊢
      unfold binK at h ⊢
      split at h
      · rename_i k hd
        try simp only [hd]
        split at h
        · rename_i k1 a ha
          split at h
          · rename_i k2 b hb
            try simp only [ha, hb]
            split at h
            · exact ⟨_, h.2, fun w' K' hk => ⟨h.1, hk⟩⟩
            · exact ⟨_, h.2, fun w' K' hk => ⟨h.1, hk⟩⟩
            · rename_i h1 h2
              obtain ⟨hk, h⟩ := cond_elim h
              obtain ⟨v, hv, ha⟩ := arith_again (K := fun v => K v w) h
              refine ⟨v, hv, fun w' K' hk' => ?_⟩
              rw [hk]
              exact ha (fun v => K' v w') hk'
          · exact h.elim
        · exact h.elim
      · rename_i hd
        try simp only [hd]
        split at h
        · rename_i a ha
          split at h
          · rename_i b hb
            try simp only [ha, hb]
            split at h
            · exact ⟨_, h, fun w' K' hk => hk⟩
            · exact ⟨_, h, fun w' K' hk => hk⟩
            · exact h.elim
          · exact h.elim
        · exact h.elim
      · rename_i hd
        try simp only [hd]
        split at h
        · rename_i a ha
          split at h
          · rename_i b hb
            try simp only [ha, hb]
            obtain ⟨v, hv, ha⟩ := eqR_again (K := fun v => K v w) h
            exact ⟨v, hv, fun w' K' hk => ha (fun v => K' v w') hk⟩
          · exact h.elim
        · exact h.elim
      · rename_i d h1 h2 h3
        have hq' : (isNilC i.d y || isNilC i.d x) = true := by
          split at hq
          · rename_i k hk; exact (h1 k hk).elim
          · rename_i hk; exact (h2 hk).elim
          · rename_i hk; exact (h3 hk).elim
          · exact hq
        split at h
        · rename_i hn
          obtain ⟨v, hv, ha⟩ := dNilV_again (K := fun v => K v w) h
          refine ⟨v, hv, fun w' K' hk => ?_⟩
          exact ha (fun v => K' v w') hk
        · rename_i hn
          split at h
          · rename_i hn'
            obtain ⟨v, hv, ha⟩ := dNilV_again (K := fun v => K v w) h
            refine ⟨v, hv, fun w' K' hk => ?_⟩
            exact ha (fun v => K' v w') hk
          · rename_i hn'
            rw [hn, hn'] at hq'
            exact absurd hq' (by simp)
    · exact h.elim
  case unOp op t x =>
    split at h
    · rename_i b hb
      exact ⟨_, h, fun w' K' hk => hk⟩
    · rename_i k m hb
      exact ⟨_, h, fun w' K' hk => hk⟩
    · rename_i k m hb
      exact ⟨_, h, fun w' K' hk => hk⟩
    · exact h.elim
  case convert s t x =>
    simp only [Bool.and_eq_true] at hq
    split at h
    · rename_i i hi
      try simp only [hi]
      unfold convK at h ⊢
      have h1 := hq.1
      unfold isInt at h1
      simp only [hi] at h1
      split at h
      · rename_i k hk
        try simp only [hk]
        split at h
        · rename_i j hj
          have h2 := hq.2
          unfold isInt at h2
          simp only [hj] at h2 ⊢
          split at h
          · rename_i k' hk'
            try simp only [hk']
            split at h
            · rename_i k0 n hn
              try simp only [hn]
              exact ⟨_, h, fun w' K' hk => hk⟩
            · exact h.elim
          · rename_i hno
            split at h2
            · rename_i k' hk'; exact (hno k' hk').elim
            · cases h2
        · exact h.elim
      · rename_i hno
        split at h1
        · rename_i k' hk'; exact (hno k' hk').elim
        · cases h1
    · exact h.elim
  case makeInterface t x =>
    split at h
    · rename_i i hi
      split at h
      · exact h.elim
      · exact h.elim
      · exact ⟨_, h, fun w' K' hk => hk⟩
    · exact h.elim
  case makeFunc fn first captured => exact ⟨_, h, fun w' K' hk => hk⟩
  case slice t x lo hi mx =>
    split at h
    · exact h.elim
    · split at h
      · rename_i i hi'
        unfold isSl at hq
        simp only [hi'] at hq ⊢
        split at h
        · rename_i e he
          split at h
          · rename_i a n c hx
            split at h
            · rename_i q hqq
              try simp only [hx, hqq]
              obtain ⟨l, h, hl⟩ := optI_ok (P := C.P) h
              obtain ⟨hh, h, hhi⟩ := optI_ok (P := C.P) h
              obtain ⟨b1, b2, h⟩ := h
              refine ⟨_, h, fun w' K' hk => ?_⟩
              rcases hl with ⟨e1, rfl⟩ | ⟨k1, n1, e1, rfl⟩ <;> rcases hhi with ⟨e2, rfl⟩ | ⟨k2, n2, e2, rfl⟩ <;> rw [e1, e2] <;> exact ⟨b1, b2, hk⟩
            · exact h.elim
          · exact h.elim
        · rename_i hno
          split at hq
          · rename_i e he; exact (hno e he).elim
          · cases hq
      · exact h.elim
  case fieldAddr t x f =>
    split at h
    · rename_i i hi
      split at h
      · rename_i fs hfs
        split at h
        · rename_i p hp
          split at h
          · rename_i q hqq
            try simp only [hi, hfs, hp, hqq]
            cases hz : Nat.beq q.size 0 with
            | true => rw [hz] at h; exact h.elim
            | false =>
              rw [hz] at h
              simp only [cond_false] at h ⊢
              split at h
              · rename_i p' hp'
                obtain ⟨a, rfl, h'⟩ := wA_elim h
                exact ⟨_, h', fun w' K' hk => hk⟩
              · exact h.elim
          · exact h.elim
        · exact h.elim
      · exact h.elim
    · exact h.elim
  case field t x f =>
    split at h
    · rename_i i hi
      split at h
      · rename_i fs hfs
        split at h
        · rename_i p hp
          split at h
          · rename_i cs hcs
            try simp only [hi, hfs, hp, hcs]
            obtain ⟨v, hv, ha⟩ := partK_again (K := fun v => K v w) h
            exact ⟨v, hv, fun w' K' hk => ha (fun v => K' v w') hk⟩
          · exact h.elim
        · exact h.elim
      · exact h.elim
    · exact h.elim
  case indexAddr t x ix =>
    split at h
    · rename_i i hi
      split at h
      · rename_i k j hj
        split at h
        · rename_i e he
          split at h
          · rename_i q hqq
            split at h
            · rename_i a n c hx
              obtain ⟨h0, h1, h⟩ := h
              obtain ⟨ad, rfl, h'⟩ := wA_elim h
              try simp only [hi, hj, he, hqq, hx]
              exact ⟨_, h', fun w' K' hk => ⟨h0, h1, hk⟩⟩
            · exact h.elim
          · exact h.elim
        · rename_i n e he
          split at h
          · rename_i q hqq
            split at h
            · rename_i p hx
              obtain ⟨ad, rfl, h'⟩ := wA_elim h
              obtain ⟨h0, h1, h⟩ := h'
              try simp only [hi, hj, he, hqq, hx]
              exact ⟨_, h, fun w' K' hk => ⟨h0, h1, hk⟩⟩
            · exact h.elim
          · exact h.elim
        · exact h.elim
      · exact h.elim
    · exact h.elim
  case index t x ix =>
    split at h
    · rename_i i hi
      split at h
      · rename_i k j hj
        split at h
        · rename_i he
          split at h
          · rename_i s hx
            obtain ⟨h0, h1, h⟩ := h
            try simp only [hi, hj, he, hx]
            exact ⟨_, h, fun w' K' hk => ⟨h0, h1, hk⟩⟩
          · exact h.elim
        · rename_i n e he
          split at h
          · rename_i q hqq
            split at h
            · exact h.elim
            · rename_i hag
              split at h
              · rename_i f fs hf
                split at h
                · rename_i cs hx
                  obtain ⟨h0, h1, h⟩ := h
                  obtain ⟨hb, h⟩ := cond_elim h
                  obtain ⟨v, hv, h⟩ := h
                  obtain ⟨u, hu, h⟩ := dLf_again (K := fun v => K v w) h
                  try simp only [hi, hj, he, hqq, hag, hf, hx]
                  exact ⟨u, hu, fun w' K' hk => ⟨h0, h1, by rw [hb]; exact ⟨v, hv, h (fun v => K' v w') hk⟩⟩⟩
                · exact h.elim
              · exact h.elim
          · exact h.elim
        · exact h.elim
      · exact h.elim
    · exact h.elim
  case extract x i =>
    split at h
    · rename_i vs hx
      split at h
      · rename_i v hv
        try simp only [hx, hv]
        exact ⟨_, h, fun w' K' hk => hk⟩
      · exact h.elim
    · exact h.elim
  case call c =>
    split at h
    · rename_i b hb
      simp only [hb] at hq ⊢
      cases b <;> simp only [Bool.false_eq_true] at hq
      case len =>
        unfold bltK at h ⊢
        simp only at h ⊢
        split at h
        · rename_i t ts hts
          simp only [hts] at hq ⊢
          split at h
          · rename_i v vs hvs
            try simp only [hvs]
            split at h
            · rename_i i hi
              unfold isLen at hq
              simp only [hi] at hq ⊢
              split at h
              · rename_i e he
                try simp only [he]
                obtain ⟨a, n, c, rfl, h⟩ := dS_elim h
                exact ⟨_, h, fun w' K' hk => hk⟩
              · rename_i he
                try simp only [he]
                obtain ⟨s, rfl, h⟩ := dStr_elim h
                exact ⟨_, h, fun w' K' hk => hk⟩
              · rename_i h1 h2
                split at hq
                · rename_i e he; exact (h1 e he).elim
                · rename_i he; exact (h2 he).elim
                · cases hq
            · exact h.elim
          · exact h.elim
        · exact h.elim
      case max =>
        unfold bltK at h ⊢
        simp only at h ⊢
        obtain ⟨x, r, e1, h⟩ := dCons_elim h
        obtain ⟨y, r', e2, h⟩ := dCons_elim h
        obtain ⟨e3, h⟩ := dNil_elim h
        try simp only [e1, e2, e3]
        unfold dI2 at h
        split at h
        · split at h
          · exact ⟨_, h, fun w' K' hk => hk⟩
          · exact h.elim
        · exact h.elim
      case min =>
        unfold bltK at h ⊢
        simp only at h ⊢
        obtain ⟨x, r, e1, h⟩ := dCons_elim h
        obtain ⟨y, r', e2, h⟩ := dCons_elim h
        obtain ⟨e3, h⟩ := dNil_elim h
        try simp only [e1, e2, e3]
        unfold dI2 at h
        split at h
        · split at h
          · exact ⟨_, h, fun w' K' hk => hk⟩
          · exact h.elim
        · exact h.elim
    · exact absurd hq (by simp [*])
    · exact h.elim
end Go.Sx
