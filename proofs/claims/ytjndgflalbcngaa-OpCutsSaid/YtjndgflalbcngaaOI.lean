/- Layer 26: OpAsks answers true. -/
import Derived.Test.YtjndgflalbcngaaOH
set_option linter.unusedVariables false
set_option linter.unusedSimpArgs false
namespace Go.Proofs.Ytjndgflalbcngaa.S
open Go.Sx
theorem herdsmanref1_Within.spec {n lo hi : Int} {w : World} {Q : Int → World → Prop} (h1 : lo ≤ hi) (h2 : -1099511627776 ≤ lo) (h3 : hi ≤ 1099511627776) (h : Q (lo + n % (hi - lo + 1)) w) : herdsmanref1_Within.call n lo hi w Q := by
  refine herdsmanref1_Within.body _ _ _ _ _ ?_
  unfold herdsmanref1_Within.sh
  rw [wrap_i64 (n := hi - lo) (by omega) (by omega), wrap_i64 (n := hi - lo + 1) (by omega) (by omega)]
  generalize hs : hi - lo + 1 = s at h
  have h4 := Int.lt_tmod_of_pos n (b := s) (by omega)
  have h5 := Int.tmod_lt_of_pos n (b := s) (by omega)
  have h6 := Int.tmod_add_mul_tdiv n s
  refine ⟨by omega, ?_⟩
  generalize ht : Int.tmod n s = t at *
  have e : n % s = t % s := by rw [← h6, Int.add_mul_emod_self_left]
  by_cases hn : t < 0
  · rw [decide_eq_true hn, cond_true, wrap_i64 (n := t + hi) (by omega) (by omega), wrap_i64 (n := t + hi - lo) (by omega) (by omega), wrap_i64 (n := t + hi - lo + 1) (by omega) (by omega), wrap_i64 (by omega) (by omega)]
    have e2 : t % s = t + s := by rw [← Int.add_emod_right, Int.emod_eq_of_lt (by omega) (by omega)]
    rw [e, e2] at h
    have e3 : t + hi - lo + 1 = t + s := by omega
    rw [e3]; exact h
  · rw [decide_eq_false hn, cond_false, wrap_i64 (by omega) (by omega)]
    rw [e, Int.emod_eq_of_lt (by omega) h5] at h
    exact h
theorem within_range {n lo hi : Int} (h : lo ≤ hi) : lo ≤ lo + n % (hi - lo + 1) ∧ lo + n % (hi - lo + 1) ≤ hi := by
  have h1 := Int.emod_nonneg n (b := hi - lo + 1) (by omega)
  have h2 := Int.emod_lt_of_pos n (b := hi - lo + 1) (by omega)
  omega
attribute [local irreducible] LdI LdB LdStr LdP LdS LdM LdV St Bx Al App Cpy MkS MkM EqK RunK RunU CallK SlK blkA rowA joinA
theorem encP_rng : ∀ {os : List OpP} {bs : List Int}, (∀ o ∈ os, Rng o.m) → encP os = some bs → Rng bs
  | [], bs, _, e => by cases e; exact Rng.nil
  | o :: os, bs, h, e => by
    rw [encP] at e
    split at e
    · cases e
    · obtain ⟨cs, h1, rfl⟩ := Option.map_eq_some_iff.1 e
      exact Rng.app (wrP_rng (h o (by simp))) (encP_rng (fun o ho => h o (by simp [ho])) h1)
section
variable {W w : World} {L : List As} {la xa : Option Addr} {ln lc xn xc : Nat} {raw : Bool} {es : List (OpR × OpP)} {Q : Bool → World → Prop}
theorem Asks_b22 (hxn : xn ≤ 30) (hm : ∀ e ∈ es, e.2.m.length ≤ 300 ∧ Rng e.2.m) (hQ : ∀ w', Sep No W w' [] → Q true w') (s : Sep No W w (rowA xa xn xc 30 4 (flat opc (es.map (·.1))) :: mapsA es :: L)) : herdsmanlaw26_OpAsks.b22 Q xa xn xc w := by
  unfold herdsmanlaw26_OpAsks.b22
  have hO := maps_know s
  have hm' : ∀ o ∈ es.map (·.2), o.m.length ≤ 100000000 := fun o ho => by
    obtain ⟨e, he, rfl⟩ := List.mem_map.1 ho
    have := (hm e he).1
    omega
  have hr' : ∀ o ∈ es.map (·.2), Rng o.m := fun o ho => by
    obtain ⟨e, he, rfl⟩ := List.mem_map.1 ho
    exact (hm e he).2
  refine op_Encode.spec s hO (by omega) hm' (fun e w s f => ?_) (fun bs e ra rn rc w s f => ?_)
  · refine ref_Encode.spec s (hO.fr f) (by omega) hm' (fun e' w s f => ?_) (fun bs e' ra rn rc w s f => by rw [e] at e'; cases e')
    rw [Bool.not_false, cond_true]
    refine told.spec s fun w s _ => ?_
    rw [cond_true, show ((1 : Int) == 1) = true from rfl, cond_true]
    exact hQ _ (Sep.call Sep.nil (sep_fr s))
  · refine ref_Encode.spec s (hO.fr f) (by omega) hm' (fun e' w s f => by rw [e] at e'; cases e') (fun bs' e' ra' rn' rc' w s f => ?_)
    rw [e] at e'
    cases e'
    rw [Bool.not_true, cond_false]
    refine told.spec s fun w s _ => ?_
    rw [cond_true, show ((0 : Int) == 0) = true from rfl, cond_true]
    have hr := encP_rng hr' e
    refine ref_Bytes.spec (Sep.sl s (i := 1) rfl by8_len (by decide)) (Sep.sl s (i := 0) rfl by8_len (by decide)) hr hr ?_
    rw [decide_eq_true rfl]
    exact hQ _ (Sep.call Sep.nil (sep_fr s))
section
variable {P3 : Option Addr → Nat → Nat → Bool → Option Addr → Nat → Nat → Int → World → Prop} {i : Nat} {ob rn rc : Nat} {k A B : Int} {ra : Option Addr} {m : List Int}
variable (hxn : xn ≤ 30) (hi : i ≤ 30) (hr : Rng m) (hrn : rn ≤ 300) (hes : ∀ e ∈ es, e.2.m.length ≤ 300 ∧ Rng e.2.m)
  (next : ∀ (es' : List (OpR × OpP)) a' n' c' w' L', n' ≤ xn + 1 → (∀ e ∈ es', e.2.m.length ≤ 300 ∧ Rng e.2.m) → Sep No W w' (rowA a' n' c' 30 4 (flat opc (es'.map (·.1))) :: mapsA es' :: L') → P3 la ln lc raw a' n' c' ((i + 1 : Nat) : Int) w')
include hxn hi hr hrn hes next
theorem Asks_b21 (s : Sep No W w (blkA ob 30 [.int .i64 k, .int .i64 A, .int .i64 B, .slice ra rn rc] :: rowA ra rn rc 5 1 (flat by8 m) :: rowA xa xn xc 30 4 (flat opc (es.map (·.1))) :: mapsA es :: L)) :
    herdsmanlaw26_OpAsks.b21 P3 Q la ln lc raw xa xn xc i ⟨ob, 0, none⟩ w := by
  unfold herdsmanlaw26_OpAsks.b21
  have hml := (Sep.sl s (i := 1) rfl by8_len (by decide)).len
  repeat' first
    | refine Sep.LdI s (i := 0) rfl rfl rfl ?_
    | refine Sep.LdS s (i := 0) rfl rfl rfl ?_
    | refine Sep.LdB s (i := 0) rfl rfl rfl ?_
    | refine Sep.LdP s (i := 0) rfl rfl rfl ?_
    | refine And.intro (Sep.cell s (i := 0) rfl rfl rfl) ?_
    | (replace s := Sep.drew s; first
      | refine Sep.LdI s (i := 0) rfl rfl rfl ?_
      | refine Sep.LdS s (i := 0) rfl rfl rfl ?_
      | refine Sep.LdB s (i := 0) rfl rfl rfl ?_
      | refine Sep.LdP s (i := 0) rfl rfl rfl ?_
      | refine And.intro (Sep.cell s (i := 0) rfl rfl rfl) ?_)
  have s := Sep.perm (Sep.drop s) (List.Perm.trans (List.Perm.swap ..) (List.Perm.cons _ (List.Perm.swap ..)))
  rw [wrap_i64 (n := (i : Int) + 1) (by omega) (by omega)]
  refine addOp (v := ⟨k, A, B, ra, rn, rc⟩) (o := ⟨k, A, B, m⟩) s ⟨rfl, rfl, rfl, hr⟩ (by omega) fun a' c' w s => ?_
  refine next _ _ _ _ _ _ (Nat.le_refl _) (fun e he => ?_) s
  rcases List.mem_append.1 he with he | he
  · exact hes e he
  · rw [List.mem_singleton.1 he]
    exact ⟨by show m.length ≤ 300; omega, hr⟩
attribute [local irreducible] herdsmanlaw26_OpAsks.b21 in
theorem Asks_b18 (s : Sep No W w (blkA ob 30 [.int .i64 k, .int .i64 A, .int .i64 B, .slice ra rn rc] :: rowA ra rn rc 5 1 (flat by8 m) :: rowA xa xn xc 30 4 (flat opc (es.map (·.1))) :: mapsA es :: L)) :
    herdsmanlaw26_OpAsks.b18 P3 Q la ln lc raw xa xn xc i ⟨ob, 0, none⟩ w := by
  unfold herdsmanlaw26_OpAsks.b18
  have s := Sep.drew s
  repeat' first
    | refine Sep.LdI s (i := 0) rfl rfl rfl ?_
    | refine Sep.LdS s (i := 0) rfl rfl rfl ?_
    | refine Sep.LdB s (i := 0) rfl rfl rfl ?_
    | refine Sep.LdP s (i := 0) rfl rfl rfl ?_
    | refine And.intro (Sep.cell s (i := 0) rfl rfl rfl) ?_
    | (replace s := Sep.drew s; first
      | refine Sep.LdI s (i := 0) rfl rfl rfl ?_
      | refine Sep.LdS s (i := 0) rfl rfl rfl ?_
      | refine Sep.LdB s (i := 0) rfl rfl rfl ?_
      | refine Sep.LdP s (i := 0) rfl rfl rfl ?_
      | refine And.intro (Sep.cell s (i := 0) rfl rfl rfl) ?_)
  refine op_May.spec (o := ⟨k, A, B, m⟩) s (Sep.sl s (i := 1) rfl by8_len (by decide)) hr (by omega) fun w s _ => ?_
  repeat' first
    | refine Sep.LdI s (i := 0) rfl rfl rfl ?_
    | refine Sep.LdS s (i := 0) rfl rfl rfl ?_
    | refine Sep.LdB s (i := 0) rfl rfl rfl ?_
    | refine Sep.LdP s (i := 0) rfl rfl rfl ?_
    | refine And.intro (Sep.cell s (i := 0) rfl rfl rfl) ?_
    | (replace s := Sep.drew s; first
      | refine Sep.LdI s (i := 0) rfl rfl rfl ?_
      | refine Sep.LdS s (i := 0) rfl rfl rfl ?_
      | refine Sep.LdB s (i := 0) rfl rfl rfl ?_
      | refine Sep.LdP s (i := 0) rfl rfl rfl ?_
      | refine And.intro (Sep.cell s (i := 0) rfl rfl rfl) ?_)
  refine ref_May.spec (o := ⟨k, A, B, m⟩) s (Sep.sl s (i := 1) rfl by8_len (by decide)) hr (by omega) fun w s _ => ?_
  rw [beq_self_eq_true, Bool.not_true, cond_false]
  have go := fun {w : World} {L : List As} => Asks_b21 (w := w) (L := L) (Q := Q) (ob := ob) (k := k) (A := A) (B := B) (ra := ra) (rc := rc) (xa := xa) (xc := xc) hxn hi hr hrn hes next
  repeat' first
    | refine Sep.LdI s (i := 0) rfl rfl rfl ?_
    | refine Sep.LdS s (i := 0) rfl rfl rfl ?_
    | refine Sep.LdB s (i := 0) rfl rfl rfl ?_
    | refine Sep.LdP s (i := 0) rfl rfl rfl ?_
    | refine And.intro (Sep.cell s (i := 0) rfl rfl rfl) ?_
    | (replace s := Sep.drew s; first
      | refine Sep.LdI s (i := 0) rfl rfl rfl ?_
      | refine Sep.LdS s (i := 0) rfl rfl rfl ?_
      | refine Sep.LdB s (i := 0) rfl rfl rfl ?_
      | refine Sep.LdP s (i := 0) rfl rfl rfl ?_
      | refine And.intro (Sep.cell s (i := 0) rfl rfl rfl) ?_)
  by_cases h0 : k = 0
  · rw [show (k == 0) = true by rw [beq_iff_eq]; exact h0, cond_true]
    exact go s
  · rw [show (k == 0) = false by rw [beq_eq_false_iff_ne]; exact h0, cond_false]
    repeat' first
      | refine Sep.LdI s (i := 0) rfl rfl rfl ?_
      | refine Sep.LdS s (i := 0) rfl rfl rfl ?_
      | refine Sep.LdB s (i := 0) rfl rfl rfl ?_
      | refine Sep.LdP s (i := 0) rfl rfl rfl ?_
      | refine And.intro (Sep.cell s (i := 0) rfl rfl rfl) ?_
      | (replace s := Sep.drew s; first
        | refine Sep.LdI s (i := 0) rfl rfl rfl ?_
        | refine Sep.LdS s (i := 0) rfl rfl rfl ?_
        | refine Sep.LdB s (i := 0) rfl rfl rfl ?_
        | refine Sep.LdP s (i := 0) rfl rfl rfl ?_
        | refine And.intro (Sep.cell s (i := 0) rfl rfl rfl) ?_)
    by_cases h1 : k = 1
    · rw [show (k == 1) = true by rw [beq_iff_eq]; exact h1, cond_true]
      exact go s
    · rw [show (k == 1) = false by rw [beq_eq_false_iff_ne]; exact h1, cond_false]
      refine ⟨by decide, ?_⟩
      cases hc : (Int.tmod (i : Int) 5 == 0) with
      | true => exact go s
      | false =>
        rw [cond_false]
        repeat' first
          | refine Sep.LdI s (i := 0) rfl rfl rfl ?_
          | refine Sep.LdS s (i := 0) rfl rfl rfl ?_
          | refine Sep.LdB s (i := 0) rfl rfl rfl ?_
          | refine Sep.LdP s (i := 0) rfl rfl rfl ?_
          | refine And.intro (Sep.cell s (i := 0) rfl rfl rfl) ?_
          | (replace s := Sep.drew s; first
            | refine Sep.LdI s (i := 0) rfl rfl rfl ?_
            | refine Sep.LdS s (i := 0) rfl rfl rfl ?_
            | refine Sep.LdB s (i := 0) rfl rfl rfl ?_
            | refine Sep.LdP s (i := 0) rfl rfl rfl ?_
            | refine And.intro (Sep.cell s (i := 0) rfl rfl rfl) ?_)
        refine ref_May.spec (o := ⟨k, A, B, m⟩) s (Sep.sl s (i := 1) rfl by8_len (by decide)) hr (by omega) fun w s _ => ?_
        cases hmay : mayP ⟨k, A, B, m⟩ with
        | true => exact go s
        | false =>
          rw [cond_false, wrap_i64 (n := (i : Int) + 1) (by omega) (by omega)]
          exact next es _ _ _ _ _ (by omega) hes (Sep.drop (Sep.drop s))
attribute [local irreducible] herdsmanlaw26_OpAsks.b18 herdsmanlaw26_OpAsks.b17 in
theorem Asks_b16 (s : Sep No W w (blkA ob 30 [.int .i64 k, .int .i64 A, .int .i64 B, .slice ra rn rc] :: rowA ra rn rc 5 1 (flat by8 m) :: rowA xa xn xc 30 4 (flat opc (es.map (·.1))) :: mapsA es :: L)) :
    herdsmanlaw26_OpAsks.b16 P3 Q la ln lc raw xa xn xc i ⟨ob, 0, none⟩ w := by
  unfold herdsmanlaw26_OpAsks.b16
  have b17 : herdsmanlaw26_OpAsks.b17 P3 Q la ln lc raw xa xn xc i ⟨ob, 0, none⟩ w := by
    unfold herdsmanlaw26_OpAsks.b17
    refine Sep.St s (i := 0) rfl rfl rfl fun w s => ?_
    exact Asks_b18 hxn hi hr hrn hes next s
  repeat' first
    | refine Sep.LdI s (i := 0) rfl rfl rfl ?_
    | refine Sep.LdS s (i := 0) rfl rfl rfl ?_
    | refine Sep.LdB s (i := 0) rfl rfl rfl ?_
    | refine Sep.LdP s (i := 0) rfl rfl rfl ?_
    | refine And.intro (Sep.cell s (i := 0) rfl rfl rfl) ?_
    | (replace s := Sep.drew s; first
      | refine Sep.LdI s (i := 0) rfl rfl rfl ?_
      | refine Sep.LdS s (i := 0) rfl rfl rfl ?_
      | refine Sep.LdB s (i := 0) rfl rfl rfl ?_
      | refine Sep.LdP s (i := 0) rfl rfl rfl ?_
      | refine And.intro (Sep.cell s (i := 0) rfl rfl rfl) ?_)
  by_cases h5 : k = 5
  · rw [show (k == 5) = true by rw [beq_iff_eq]; exact h5, cond_true]
    exact b17
  · rw [show (k == 5) = false by rw [beq_eq_false_iff_ne]; exact h5, cond_false]
    repeat' first
      | refine Sep.LdI s (i := 0) rfl rfl rfl ?_
      | refine Sep.LdS s (i := 0) rfl rfl rfl ?_
      | refine Sep.LdB s (i := 0) rfl rfl rfl ?_
      | refine Sep.LdP s (i := 0) rfl rfl rfl ?_
      | refine And.intro (Sep.cell s (i := 0) rfl rfl rfl) ?_
      | (replace s := Sep.drew s; first
        | refine Sep.LdI s (i := 0) rfl rfl rfl ?_
        | refine Sep.LdS s (i := 0) rfl rfl rfl ?_
        | refine Sep.LdB s (i := 0) rfl rfl rfl ?_
        | refine Sep.LdP s (i := 0) rfl rfl rfl ?_
        | refine And.intro (Sep.cell s (i := 0) rfl rfl rfl) ?_)
    by_cases h0 : k = 0
    · rw [show (k == 0) = true by rw [beq_iff_eq]; exact h0, cond_true]
      exact b17
    · rw [show (k == 0) = false by rw [beq_eq_false_iff_ne]; exact h0, cond_false]
      exact Asks_b18 hxn hi hr hrn hes next s
attribute [local irreducible] herdsmanlaw26_OpAsks.b16 herdsmanlaw26_OpAsks.b15 in
theorem Asks_b14 (s : Sep No W w (blkA ob 30 [.int .i64 k, .int .i64 A, .int .i64 B, .slice ra rn rc] :: rowA ra rn rc 5 1 (flat by8 m) :: rowA xa xn xc 30 4 (flat opc (es.map (·.1))) :: mapsA es :: L)) :
    herdsmanlaw26_OpAsks.b14 P3 Q la ln lc raw xa xn xc i ⟨ob, 0, none⟩ w := by
  unfold herdsmanlaw26_OpAsks.b14
  have b15 : herdsmanlaw26_OpAsks.b15 P3 Q la ln lc raw xa xn xc i ⟨ob, 0, none⟩ w := by
    unfold herdsmanlaw26_OpAsks.b15
    refine Sep.St s (i := 0) rfl rfl rfl fun w s => ?_
    refine Sep.St s (i := 0) rfl rfl rfl fun w s => ?_
    exact Asks_b16 hxn hi hr hrn hes next s
  repeat' first
    | refine Sep.LdI s (i := 0) rfl rfl rfl ?_
    | refine Sep.LdS s (i := 0) rfl rfl rfl ?_
    | refine Sep.LdB s (i := 0) rfl rfl rfl ?_
    | refine Sep.LdP s (i := 0) rfl rfl rfl ?_
    | refine And.intro (Sep.cell s (i := 0) rfl rfl rfl) ?_
    | (replace s := Sep.drew s; first
      | refine Sep.LdI s (i := 0) rfl rfl rfl ?_
      | refine Sep.LdS s (i := 0) rfl rfl rfl ?_
      | refine Sep.LdB s (i := 0) rfl rfl rfl ?_
      | refine Sep.LdP s (i := 0) rfl rfl rfl ?_
      | refine And.intro (Sep.cell s (i := 0) rfl rfl rfl) ?_)
  by_cases h7 : k ≥ 7
  · rw [decide_eq_true h7, cond_true]
    exact b15
  · rw [decide_eq_false h7, cond_false]
    repeat' first
      | refine Sep.LdI s (i := 0) rfl rfl rfl ?_
      | refine Sep.LdS s (i := 0) rfl rfl rfl ?_
      | refine Sep.LdB s (i := 0) rfl rfl rfl ?_
      | refine Sep.LdP s (i := 0) rfl rfl rfl ?_
      | refine And.intro (Sep.cell s (i := 0) rfl rfl rfl) ?_
      | (replace s := Sep.drew s; first
        | refine Sep.LdI s (i := 0) rfl rfl rfl ?_
        | refine Sep.LdS s (i := 0) rfl rfl rfl ?_
        | refine Sep.LdB s (i := 0) rfl rfl rfl ?_
        | refine Sep.LdP s (i := 0) rfl rfl rfl ?_
        | refine And.intro (Sep.cell s (i := 0) rfl rfl rfl) ?_)
    by_cases h1 : k = 1
    · rw [show (k == 1) = true by rw [beq_iff_eq]; exact h1, cond_true]
      exact b15
    · rw [show (k == 1) = false by rw [beq_eq_false_iff_ne]; exact h1, cond_false]
      exact Asks_b16 hxn hi hr hrn hes next s
end
attribute [local irreducible] herdsmanlaw26_OpAsks.b14 herdsmanlaw26_OpAsks.b18 in
theorem Asks_loop {os : List OpP} (hO : Ops W la ln lc os) (hQ : ∀ w', Sep No W w' [] → Q true w') :
    ∀ (m i : Nat) (xa : Option Addr) (xn xc : Nat) (es : List (OpR × OpP)) (w : World) (L : List As), 30 - i ≤ m → i ≤ 30 → xn ≤ i → (∀ e ∈ es, e.2.m.length ≤ 300 ∧ Rng e.2.m) →
      Sep No W w (rowA xa xn xc 30 4 (flat opc (es.map (·.1))) :: mapsA es :: L) → herdsmanlaw26_OpAsks.b3 Q (m + 1) la ln lc raw xa xn xc i w := by
  have stop : ∀ (R : Option Addr → Nat → Nat → Bool → Option Addr → Nat → Nat → Int → World → Prop) (i : Nat) (xa : Option Addr) (xn xc : Nat) (es : List (OpR × OpP)) (w : World) (L : List As), ¬ (i < ln ∧ i < 30) → xn ≤ 30 → (∀ e ∈ es, e.2.m.length ≤ 300 ∧ Rng e.2.m) →
      Sep No W w (rowA xa xn xc 30 4 (flat opc (es.map (·.1))) :: mapsA es :: L) → herdsmanlaw26_OpAsks.s3 Q R la ln lc raw xa xn xc i w := by
    intro R i xa xn xc es w L hn hx hes s
    unfold herdsmanlaw26_OpAsks.s3
    by_cases h1 : i < ln
    · rw [decide_eq_true (by omega), cond_true, decide_eq_false (by omega), cond_false]
      exact Asks_b22 hx hes hQ s
    · rw [decide_eq_false (by omega), cond_false]
      exact Asks_b22 hx hes hQ s
  intro m
  induction m with
  | zero =>
    intro i xa xn xc es w L hm hi hx hes s
    exact stop _ i xa xn xc es w L (by omega) (by omega) hes s
  | succ m ih =>
    intro i xa xn xc es w L hm hi hx hes s
    show herdsmanlaw26_OpAsks.s3 Q (herdsmanlaw26_OpAsks.b3 Q (m + 1)) _ _ _ _ _ _ _ _ _
    by_cases hgo : i < ln ∧ i < 30
    · unfold herdsmanlaw26_OpAsks.s3
      rw [decide_eq_true (by omega), cond_true, decide_eq_true (by omega), cond_true]
      refine hO.Elf (sep_fr s) rfl (by omega) fun p o1 va1 vn1 vc1 ho1 hv1 hr1 hc1 => ?_
      refine LdS_cell (hc1 3 _ rfl) ?_
      have hl1 := hv1.len
      by_cases h300 : (vn1 : Int) > 300
      · rw [decide_eq_true h300, cond_true]
        exact told.spec s fun w s _ => hQ _ (Sep.call Sep.nil (sep_fr s))
      · rw [decide_eq_false h300, cond_false]
        refine hO.Elf (sep_fr s) rfl (by omega) fun p o va vn vc ho hv hr hc => ?_
        rw [ho1] at ho
        cases ho
        refine LdOp hc ?_
        simp only
        refine Sep.Al s fun ob w s => ?_
        simp only [zc30] at s
        refine Sep.St s (i := 0) rfl rfl rfl fun w s => ?_
        refine Sep.St s (i := 0) rfl rfl rfl fun w s => ?_
        refine Sep.St s (i := 0) rfl rfl rfl fun w s => ?_
        refine Sep.St s (i := 0) rfl rfl rfl fun w s => ?_
        simp only [List.set_cons_zero, List.set_cons_succ] at s
        refine Sep.Bx s fun pb w s => ?_
        refine hO.Elf (sep_fr s) rfl (by omega) fun p o' va' vn' vc' ho' hv' hr' hc' => ?_
        rw [ho1] at ho'
        cases ho'
        refine LdS_cell (hc' 3 _ rfl) ?_
        have hvl := hv'.len
        refine clone0 s (hv'.fr (sep_fr s)) (show vn' ≤ 1000000000000 by omega) fun ra rc w s => ?_
        refine Sep.St s (i := 1) rfl rfl rfl fun w s => ?_
        simp only [List.set_cons_zero, List.set_cons_succ] at s
        have s := Sep.perm s (List.Perm.swap ..)
        have next : ∀ (es' : List (OpR × OpP)) a' n' c' w' L', n' ≤ xn + 1 → (∀ e ∈ es', e.2.m.length ≤ 300 ∧ Rng e.2.m) → Sep No W w' (rowA a' n' c' 30 4 (flat opc (es'.map (·.1))) :: mapsA es' :: L') → herdsmanlaw26_OpAsks.b3 Q (m + 1) la ln lc raw a' n' c' ((i + 1 : Nat) : Int) w' :=
          fun es' a' n' c' w' L' h1 h2 s => ih (i + 1) a' n' c' es' w' L' (by omega) (by omega) (by omega) h2 s
        cases raw with
        | true =>
          rw [Bool.not_true, cond_false]
          exact Asks_b18 (by omega) hi hr' (by omega) hes next s
        | false =>
          rw [Bool.not_false, cond_true]
          refine Sep.LdI s (i := 0) rfl rfl rfl ?_
          refine herdsmanref1_Within.spec (by decide) (by decide) (by decide) ?_
          generalize (0 + o1.k % (8 - 0 + 1)) = k'
          refine Sep.St s (i := 0) rfl rfl rfl fun w s => ?_
          have s := Sep.drew s
          refine Sep.LdI s (i := 0) rfl rfl rfl ?_
          refine Sep.LdI s (i := 0) rfl rfl rfl ?_
          refine herdsmanref1_Within.spec (by decide) (by decide) (by decide) ?_
          generalize (-1 + o1.A % (300 - -1 + 1)) = A'
          refine ⟨Sep.cell s (i := 0) rfl rfl rfl, ?_⟩
          refine herdsmanref1_Within.spec (by decide) (by decide) (by decide) ?_
          generalize (0 + o1.B % (300 - 0 + 1)) = B'
          refine Sep.St s (i := 0) rfl rfl rfl fun w s => ?_
          refine Sep.St s (i := 0) rfl rfl rfl fun w s => ?_
          simp only [List.set_cons_zero, List.set_cons_succ] at s
          refine Sep.LdI s (i := 0) rfl rfl rfl ?_
          by_cases hk1 : k' = 1
          · rw [show (k' != 1) = false by rw [bne_eq_false_iff_eq]; exact hk1, cond_false]
            exact Asks_b14 (by omega) hi hr' (by omega) hes next s
          · rw [show (k' != 1) = true by rw [bne_iff_ne]; exact hk1, cond_true]
            refine Sep.LdS s (i := 0) rfl rfl rfl ?_
            refine ⟨by decide, ?_⟩
            cases hc4 : (Int.tmod (vn' : Int) 4 != 0) with
            | false =>
              rw [cond_false]
              exact Asks_b14 (by omega) hi hr' (by omega) hes next s
            | true =>
              rw [cond_true]
              refine Sep.St s (i := 0) rfl rfl rfl fun w s => ?_
              simp only [List.set_cons_zero, List.set_cons_succ] at s
              have s := Sep.sub (Sep.row_nil s 5 1) (.cons_cons _ (.cons_cons _ (.cons _ (List.Sublist.refl _))))
              have s := Sep.perm s (List.Perm.swap ..)
              exact Asks_b14 (m := []) (rn := 0) (by omega) hi Rng.nil (by omega) hes next s
    · exact stop _ i xa xn xc es w L hgo (by omega) hes s
theorem herdsmanlaw26_OpAsks.spec {os : List OpP} (hO : Ops W la ln lc os) (hQ : ∀ w', Sep No W w' [] → Q true w') : herdsmanlaw26_OpAsks.call la ln lc raw W Q := by
  refine herdsmanlaw26_OpAsks.body _ _ _ _ _ _ ?_
  unfold herdsmanlaw26_OpAsks.sh
  exact ⟨31, Asks_loop hO hQ 30 0 none 0 0 [] W _ (by omega) (by omega) (by omega) (by simp) (Sep.row_nil (mapsA_nil (Sep.nil (F := No) (w := W))) 30 4)⟩
end
def opS : Sh := .agg 4 [(0, 1, .int .i64), (1, 1, .int .i64), (2, 1, .int .i64), (3, 1, .sl 1 (.int .u8))]
theorem rdV_ops {W : World} {v : Value} (h : RdV W (.sl 4 opS) v) : ∃ a n c os, v = .slice a n c ∧ n ≤ maxLen ∧ Ops W a n c os := by
  obtain ⟨a, n, c, vs, rfl, h1, h2, h3, h4, h5⟩ := rdV_row (f := opc) (Pr := fun v => ∃ m, Sl W v.a v.n v.c 1 by8 m ∧ Rng m) (fun es hl he => by
    obtain ⟨_, he⟩ := rd_agg he
    match es, hl with
    | [v0, v1, v2, v3], _ =>
      obtain ⟨k0, he⟩ := rdF_cons he
      obtain ⟨k1, he⟩ := rdF_cons he
      obtain ⟨k2, he⟩ := rdF_cons he
      obtain ⟨k3, he⟩ := rdF_cons he
      obtain ⟨x0, rfl, _⟩ := rd_int (w := W) k0
      obtain ⟨x1, rfl, _⟩ := rd_int (w := W) k1
      obtain ⟨x2, rfl, _⟩ := rd_int (w := W) k2
      obtain ⟨a, n, c, cs, rfl, q1, q2, q3, q4, q5⟩ := rdV_ints (k := .u8) (W := W) (v := v3) k3
      exact ⟨⟨x0, x1, x2, a, n, c⟩, rfl, cs, ⟨q4, q1, q3⟩, fun x hx => wf_u8 (q5 x hx)⟩) h
  obtain ⟨ms, k1, k2⟩ := list_choice (G := fun i m => ∀ v, vs[i]? = some v → Sl W v.a v.n v.c 1 by8 m ∧ Rng m) vs.length fun i hi => by
    obtain ⟨m, hm⟩ := h5 _ (List.getElem_mem hi)
    exact ⟨m, fun v hv => by rw [List.getElem?_eq_getElem hi] at hv; cases hv; exact hm⟩
  have hl : vs.length = n := h4.1
  refine ⟨a, n, c, (vs.zip ms).map (fun p => ⟨p.1.k, p.1.A, p.1.B, p.2⟩), rfl, by omega, vs, ⟨h4, h1, h3⟩, by rw [List.length_map, List.length_zip, k1]; omega, fun i v o hv ho => ?_⟩
  rw [List.getElem?_map] at ho
  obtain ⟨p, hp, rfl⟩ := Option.map_eq_some_iff.1 ho
  obtain ⟨hp1, hp2⟩ := List.getElem?_zip_eq_some.1 hp
  rw [hv] at hp1
  cases hp1
  obtain ⟨q1, q2⟩ := k2 i p.2 hp2 p.1 hv
  exact ⟨rfl, rfl, rfl, q1, q2⟩
theorem OpAsks_law : LawOk P 4 [.sl 4 opS, .bool] := by
  intro W args h
  obtain ⟨v0, r, rfl, h0, h⟩ := RdAll.cons h
  obtain ⟨v1, r, rfl, h1, h⟩ := RdAll.cons h
  obtain rfl := RdAll.nil h
  obtain ⟨a, n, c, os, rfl, k1, k2⟩ := rdV_ops h0
  obtain ⟨b, rfl⟩ := rdV_bool h1
  exact herdsmanlaw26_OpAsks.spec (Q := fun r W' => r = true ∧ Go.RowKit.Below W.heap.size W W') k2 fun w' s => ⟨rfl, sep_below s⟩
end Go.Proofs.Ytjndgflalbcngaa.S
