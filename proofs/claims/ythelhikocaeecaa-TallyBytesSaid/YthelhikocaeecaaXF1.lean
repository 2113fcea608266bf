/- What the bodies ask, and that a call is no more. Printed by a program of this work (sxgen.py) out of the translation. -/
import Derived.Test.YthelhikocaeecaaXT
set_option linter.unusedVariables false
set_option linter.unusedSimpArgs false
namespace Go.Proofs.Ythelhikocaeecaa.S
open Go.Sx
/-! ### 11 herdsman/tally.Bytes -/
def tally_Bytes.s6 (P3 : Option Addr → Nat → Nat → Int → Int → Int → Int → Int → Int → Int → World → Prop) (Q : Option Addr → Nat → Nat → World → Prop) (R6 : Option Addr → Nat → Nat → Int → Int → Int → Int → Int → Int → Int → Int → Int → World → Prop) (b_a : Option Addr) (b_n : Nat) (b_c : Nat) (n : Int) (t7_0 : Int) (t7_1 : Int) (t7_2 : Int) (t7_3 : Int) (t7_4 : Int) (t7_5 : Int) (t8 : Int) (t11 : Int) (w : World) : Prop :=
  cond (decide (t11 < 8))
  (Bx [.int .u8 (IntKind.wrap .u8 n)] 5 w fun p16_s w0_1 =>
  App P #[31, 31] 31 (.slice b_a b_n b_c) (.slice (some p16_s) 1 1) w0_1 fun r17_a r17_n r17_c w0_2 =>
  NNg 8 <|
  R6 r17_a r17_n r17_c (ishr .u64 n 8) t7_0 t7_1 t7_2 t7_3 t7_4 t7_5 t8 (IntKind.wrap .i64 (t11 + 1)) w0_2)
  (P3 b_a b_n b_c t7_0 t7_1 t7_2 t7_3 t7_4 t7_5 (IntKind.wrap .i64 (t8 + 1)) w)
def tally_Bytes.b6 (P3 : Option Addr → Nat → Nat → Int → Int → Int → Int → Int → Int → Int → World → Prop) (Q : Option Addr → Nat → Nat → World → Prop) : Nat → Option Addr → Nat → Nat → Int → Int → Int → Int → Int → Int → Int → Int → Int → World → Prop
  | 0, _, _, _, _, _, _, _, _, _, _, _, _, _ => False
  | k + 1, b_a, b_n, b_c, n, t7_0, t7_1, t7_2, t7_3, t7_4, t7_5, t8, t11, w => tally_Bytes.s6 P3 Q (tally_Bytes.b6 P3 Q k) b_a b_n b_c n t7_0 t7_1 t7_2 t7_3 t7_4 t7_5 t8 t11 w
def tally_Bytes.s3 (Q : Option Addr → Nat → Nat → World → Prop) (R3 : Option Addr → Nat → Nat → Int → Int → Int → Int → Int → Int → Int → World → Prop) (b_a : Option Addr) (b_n : Nat) (b_c : Nat) (t7_0 : Int) (t7_1 : Int) (t7_2 : Int) (t7_3 : Int) (t7_4 : Int) (t7_5 : Int) (t8 : Int) (w : World) : Prop :=
  cond (decide (t8 < 6))
  (InB t8 6 <|
  IxV [.int .u64 t7_0, .int .u64 t7_1, .int .u64 t7_2, .int .u64 t7_3, .int .u64 t7_4, .int .u64 t7_5] t8.toNat fun c =>
  dI .u64 c fun x10 =>
  ∃ k', tally_Bytes.b6 R3 Q k' b_a b_n b_c x10 t7_0 t7_1 t7_2 t7_3 t7_4 t7_5 t8 0 w)
  (Q b_a b_n b_c w)
def tally_Bytes.b3 (Q : Option Addr → Nat → Nat → World → Prop) : Nat → Option Addr → Nat → Nat → Int → Int → Int → Int → Int → Int → Int → World → Prop
  | 0, _, _, _, _, _, _, _, _, _, _, _ => False
  | k + 1, b_a, b_n, b_c, t7_0, t7_1, t7_2, t7_3, t7_4, t7_5, t8, w => tally_Bytes.s3 Q (tally_Bytes.b3 Q k) b_a b_n b_c t7_0 t7_1 t7_2 t7_3 t7_4 t7_5 t8 w
def tally_Bytes.sh (s_Rebuilds : Int) (s_Searches : Int) (s_Builds : Int) (s_Hits : Int) (s_Stale : Int) (s_Evicts : Int) (w : World) (Q : Option Addr → Nat → Nat → World → Prop) : Prop :=
  Bx [.int .u64 s_Rebuilds, .int .u64 s_Searches, .int .u64 s_Builds, .int .u64 s_Hits, .int .u64 s_Stale, .int .u64 s_Evicts] 28 w fun s_b w0_1 =>
  LdI .u64 (s_b.add 0) w0_1 fun x6_Rebuilds =>
  LdI .u64 (s_b.add 1) w0_1 fun x6_Searches =>
  LdI .u64 (s_b.add 2) w0_1 fun x6_Builds =>
  LdI .u64 (s_b.add 3) w0_1 fun x6_Hits =>
  LdI .u64 (s_b.add 4) w0_1 fun x6_Stale =>
  LdI .u64 (s_b.add 5) w0_1 fun x6_Evicts =>
  tally_counts.call x6_Rebuilds x6_Searches x6_Builds x6_Hits x6_Stale x6_Evicts w0_1 fun r7_0 r7_1 r7_2 r7_3 r7_4 r7_5 w0_2 =>
  ∃ k', tally_Bytes.b3 Q k' none 0 0 r7_0 r7_1 r7_2 r7_3 r7_4 r7_5 0 w0_2
noncomputable def tally_Bytes.scr : Scrs := []
def tally_Bytes.R (Q : Option Addr → Nat → Nat → World → Prop) (ρ : Env) (w : World) : Prop := evRes (cx 23) Go.Proofs.Try.f11.results.toList ρ w fun vs => tally_Bytes.qv Q (resV vs) w
def tally_Bytes.d3 (K : Option Addr → Nat → Nat → Int → Int → Int → Int → Int → Int → Int → Prop) (ρ : Env) : Prop :=
  dS (ρ 3) fun b_a b_n b_c => dL (ρ 7) fun t7_l => dCons t7_l fun t7_v0 t7_l0 => dI .u64 t7_v0 fun t7_0 => dCons t7_l0 fun t7_v1 t7_l1 => dI .u64 t7_v1 fun t7_1 => dCons t7_l1 fun t7_v2 t7_l2 => dI .u64 t7_v2 fun t7_2 => dCons t7_l2 fun t7_v3 t7_l3 => dI .u64 t7_v3 fun t7_3 => dCons t7_l3 fun t7_v4 t7_l4 => dI .u64 t7_v4 fun t7_4 => dCons t7_l4 fun t7_v5 t7_l5 => dI .u64 t7_v5 fun t7_5 => dNil t7_l5 <| dI .i64 (ρ 8) fun t8 => K b_a b_n b_c t7_0 t7_1 t7_2 t7_3 t7_4 t7_5 t8
theorem tally_Bytes.d3_elim {K : Option Addr → Nat → Nat → Int → Int → Int → Int → Int → Int → Int → Prop} {ρ : Env} (h0 : tally_Bytes.d3 K ρ) : ∃ (b_a : Option Addr) (b_n : Nat) (b_c : Nat) (t7_0 : Int) (t7_1 : Int) (t7_2 : Int) (t7_3 : Int) (t7_4 : Int) (t7_5 : Int) (t8 : Int), ρ 3 = .slice b_a b_n b_c ∧ ρ 7 = .agg #[.int .u64 t7_0, .int .u64 t7_1, .int .u64 t7_2, .int .u64 t7_3, .int .u64 t7_4, .int .u64 t7_5] ∧ ρ 8 = .int .i64 t8 ∧ K b_a b_n b_c t7_0 t7_1 t7_2 t7_3 t7_4 t7_5 t8 := by
  obtain ⟨b_a, b_n, b_c, e3, h1⟩ := dS_elim h0
  obtain ⟨t7_l, e7, h2⟩ := dL_elim h1
  obtain ⟨t7_v0, t7_l0, rfl, h3⟩ := dCons_elim h2
  obtain ⟨t7_0, rfl, h4⟩ := dI_elim h3
  obtain ⟨t7_v1, t7_l1, rfl, h5⟩ := dCons_elim h4
  obtain ⟨t7_1, rfl, h6⟩ := dI_elim h5
  obtain ⟨t7_v2, t7_l2, rfl, h7⟩ := dCons_elim h6
  obtain ⟨t7_2, rfl, h8⟩ := dI_elim h7
  obtain ⟨t7_v3, t7_l3, rfl, h9⟩ := dCons_elim h8
  obtain ⟨t7_3, rfl, h10⟩ := dI_elim h9
  obtain ⟨t7_v4, t7_l4, rfl, h11⟩ := dCons_elim h10
  obtain ⟨t7_4, rfl, h12⟩ := dI_elim h11
  obtain ⟨t7_v5, t7_l5, rfl, h13⟩ := dCons_elim h12
  obtain ⟨t7_5, rfl, h14⟩ := dI_elim h13
  obtain ⟨rfl, h15⟩ := dNil_elim h14
  obtain ⟨t8, e8, h16⟩ := dI_elim h15
  exact ⟨b_a, b_n, b_c, t7_0, t7_1, t7_2, t7_3, t7_4, t7_5, t8, e3, e7, e8, h16⟩
def tally_Bytes.d6 (K : Option Addr → Nat → Nat → Int → Int → Int → Int → Int → Int → Int → Int → Int → Prop) (ρ : Env) : Prop :=
  dS (ρ 3) fun b_a b_n b_c => dI .u64 (ρ 5) fun n => dL (ρ 7) fun t7_l => dCons t7_l fun t7_v0 t7_l0 => dI .u64 t7_v0 fun t7_0 => dCons t7_l0 fun t7_v1 t7_l1 => dI .u64 t7_v1 fun t7_1 => dCons t7_l1 fun t7_v2 t7_l2 => dI .u64 t7_v2 fun t7_2 => dCons t7_l2 fun t7_v3 t7_l3 => dI .u64 t7_v3 fun t7_3 => dCons t7_l3 fun t7_v4 t7_l4 => dI .u64 t7_v4 fun t7_4 => dCons t7_l4 fun t7_v5 t7_l5 => dI .u64 t7_v5 fun t7_5 => dNil t7_l5 <| dI .i64 (ρ 8) fun t8 => dI .i64 (ρ 11) fun t11 => K b_a b_n b_c n t7_0 t7_1 t7_2 t7_3 t7_4 t7_5 t8 t11
theorem tally_Bytes.d6_elim {K : Option Addr → Nat → Nat → Int → Int → Int → Int → Int → Int → Int → Int → Int → Prop} {ρ : Env} (h0 : tally_Bytes.d6 K ρ) : ∃ (b_a : Option Addr) (b_n : Nat) (b_c : Nat) (n : Int) (t7_0 : Int) (t7_1 : Int) (t7_2 : Int) (t7_3 : Int) (t7_4 : Int) (t7_5 : Int) (t8 : Int) (t11 : Int), ρ 3 = .slice b_a b_n b_c ∧ ρ 5 = .int .u64 n ∧ ρ 7 = .agg #[.int .u64 t7_0, .int .u64 t7_1, .int .u64 t7_2, .int .u64 t7_3, .int .u64 t7_4, .int .u64 t7_5] ∧ ρ 8 = .int .i64 t8 ∧ ρ 11 = .int .i64 t11 ∧ K b_a b_n b_c n t7_0 t7_1 t7_2 t7_3 t7_4 t7_5 t8 t11 := by
  obtain ⟨b_a, b_n, b_c, e3, h1⟩ := dS_elim h0
  obtain ⟨n, e5, h2⟩ := dI_elim h1
  obtain ⟨t7_l, e7, h3⟩ := dL_elim h2
  obtain ⟨t7_v0, t7_l0, rfl, h4⟩ := dCons_elim h3
  obtain ⟨t7_0, rfl, h5⟩ := dI_elim h4
  obtain ⟨t7_v1, t7_l1, rfl, h6⟩ := dCons_elim h5
  obtain ⟨t7_1, rfl, h7⟩ := dI_elim h6
  obtain ⟨t7_v2, t7_l2, rfl, h8⟩ := dCons_elim h7
  obtain ⟨t7_2, rfl, h9⟩ := dI_elim h8
  obtain ⟨t7_v3, t7_l3, rfl, h10⟩ := dCons_elim h9
  obtain ⟨t7_3, rfl, h11⟩ := dI_elim h10
  obtain ⟨t7_v4, t7_l4, rfl, h12⟩ := dCons_elim h11
  obtain ⟨t7_4, rfl, h13⟩ := dI_elim h12
  obtain ⟨t7_v5, t7_l5, rfl, h14⟩ := dCons_elim h13
  obtain ⟨t7_5, rfl, h15⟩ := dI_elim h14
  obtain ⟨rfl, h16⟩ := dNil_elim h15
  obtain ⟨t8, e8, h17⟩ := dI_elim h16
  obtain ⟨t11, e11, h18⟩ := dI_elim h17
  exact ⟨b_a, b_n, b_c, n, t7_0, t7_1, t7_2, t7_3, t7_4, t7_5, t8, t11, e3, e5, e7, e8, e11, h18⟩
set_option maxRecDepth 100000 in
theorem tally_Bytes.f6 (P3 : Option Addr → Nat → Nat → Int → Int → Int → Int → Int → Int → Int → World → Prop) (Q : Option Addr → Nat → Nat → World → Prop) (HP3 : ∀ b_a b_n b_c t7_0 t7_1 t7_2 t7_3 t7_4 t7_5 t8 w, P3 b_a b_n b_c t7_0 t7_1 t7_2 t7_3 t7_4 t7_5 t8 w → ∀ ρ : Env, ρ 3 = .slice b_a b_n b_c → ρ 7 = .agg #[.int .u64 t7_0, .int .u64 t7_1, .int .u64 t7_2, .int .u64 t7_3, .int .u64 t7_4, .int .u64 t7_5] → ρ 8 = .int .i64 t8 → Fin (cx 23) (todoOf Go.Proofs.Try.f11 3) ρ w (tally_Bytes.R Q)) : ∀ k b_a b_n b_c n t7_0 t7_1 t7_2 t7_3 t7_4 t7_5 t8 t11 w, tally_Bytes.b6 P3 Q k b_a b_n b_c n t7_0 t7_1 t7_2 t7_3 t7_4 t7_5 t8 t11 w → ∀ ρ : Env, ρ 3 = .slice b_a b_n b_c → ρ 5 = .int .u64 n → ρ 7 = .agg #[.int .u64 t7_0, .int .u64 t7_1, .int .u64 t7_2, .int .u64 t7_3, .int .u64 t7_4, .int .u64 t7_5] → ρ 8 = .int .i64 t8 → ρ 11 = .int .i64 t11 → Fin (cx 23) (todoOf Go.Proofs.Try.f11 6) ρ w (tally_Bytes.R Q) := by
  intro k
  induction k with
  | zero => intro b_a b_n b_c n t7_0 t7_1 t7_2 t7_3 t7_4 t7_5 t8 t11 w h; exact h.elim
  | succ k ih =>
    intro b_a b_n b_c n t7_0 t7_1 t7_2 t7_3 t7_4 t7_5 t8 t11 w h ρ e3 e5 e7 e8 e11
    have h : tally_Bytes.s6 P3 Q (tally_Bytes.b6 P3 Q k) b_a b_n b_c n t7_0 t7_1 t7_2 t7_3 t7_4 t7_5 t8 t11 w := h
    refine Fin.cut (ρ' := put (put (put (put (put (ρ) (some 3) (.slice b_a b_n b_c)) (some 5) (.int .u64 n)) (some 7) (.agg #[.int .u64 t7_0, .int .u64 t7_1, .int .u64 t7_2, .int .u64 t7_3, .int .u64 t7_4, .int .u64 t7_5])) (some 8) (.int .i64 t8)) (some 11) (.int .i64 t11)) ?_ (by rw [put_id e3, put_id e5, put_id e7, put_id e8, put_id e11])
    refine evT_sound (ok 23) (drawD_sound (ok 23) tally_Bytes.scr) 600 (L := [(3, fun ρ w => tally_Bytes.d3 (fun b_a b_n b_c t7_0 t7_1 t7_2 t7_3 t7_4 t7_5 t8 => P3 b_a b_n b_c t7_0 t7_1 t7_2 t7_3 t7_4 t7_5 t8 w) ρ), (6, fun ρ w => tally_Bytes.d6 (fun b_a b_n b_c n t7_0 t7_1 t7_2 t7_3 t7_4 t7_5 t8 t11 => tally_Bytes.b6 P3 Q k b_a b_n b_c n t7_0 t7_1 t7_2 t7_3 t7_4 t7_5 t8 t11 w) ρ)]) (leaf_of (fn := Go.Proofs.Try.f11) [6, 3] (by kernel_rfl) ⟨fun ρ w h => by obtain ⟨b_a, b_n, b_c, t7_0, t7_1, t7_2, t7_3, t7_4, t7_5, t8, e3, e7, e8, h⟩ := tally_Bytes.d3_elim h; exact HP3 b_a b_n b_c t7_0 t7_1 t7_2 t7_3 t7_4 t7_5 t8 w h ρ e3 e7 e8, fun ρ w h => by obtain ⟨b_a, b_n, b_c, n, t7_0, t7_1, t7_2, t7_3, t7_4, t7_5, t8, t11, e3, e5, e7, e8, e11, h⟩ := tally_Bytes.d6_elim h; exact ih b_a b_n b_c n t7_0 t7_1 t7_2 t7_3 t7_4 t7_5 t8 t11 w h ρ e3 e5 e7 e8 e11, trivial⟩) (castK h (by kernel_rfl))
set_option maxRecDepth 100000 in
theorem tally_Bytes.f3 (Q : Option Addr → Nat → Nat → World → Prop) : ∀ k b_a b_n b_c t7_0 t7_1 t7_2 t7_3 t7_4 t7_5 t8 w, tally_Bytes.b3 Q k b_a b_n b_c t7_0 t7_1 t7_2 t7_3 t7_4 t7_5 t8 w → ∀ ρ : Env, ρ 3 = .slice b_a b_n b_c → ρ 7 = .agg #[.int .u64 t7_0, .int .u64 t7_1, .int .u64 t7_2, .int .u64 t7_3, .int .u64 t7_4, .int .u64 t7_5] → ρ 8 = .int .i64 t8 → Fin (cx 23) (todoOf Go.Proofs.Try.f11 3) ρ w (tally_Bytes.R Q) := by
  intro k
  induction k with
  | zero => intro b_a b_n b_c t7_0 t7_1 t7_2 t7_3 t7_4 t7_5 t8 w h; exact h.elim
  | succ k ih =>
    intro b_a b_n b_c t7_0 t7_1 t7_2 t7_3 t7_4 t7_5 t8 w h ρ e3 e7 e8
    have h : tally_Bytes.s3 Q (tally_Bytes.b3 Q k) b_a b_n b_c t7_0 t7_1 t7_2 t7_3 t7_4 t7_5 t8 w := h
    refine Fin.cut (ρ' := put (put (put (ρ) (some 3) (.slice b_a b_n b_c)) (some 7) (.agg #[.int .u64 t7_0, .int .u64 t7_1, .int .u64 t7_2, .int .u64 t7_3, .int .u64 t7_4, .int .u64 t7_5])) (some 8) (.int .i64 t8)) ?_ (by rw [put_id e3, put_id e7, put_id e8])
    refine evT_sound (ok 23) (drawD_sound (ok 23) tally_Bytes.scr) 600 (L := [(6, fun ρ w => tally_Bytes.d6 (fun b_a b_n b_c n t7_0 t7_1 t7_2 t7_3 t7_4 t7_5 t8 t11 => ∃ k', tally_Bytes.b6 (tally_Bytes.b3 Q k) Q k' b_a b_n b_c n t7_0 t7_1 t7_2 t7_3 t7_4 t7_5 t8 t11 w) ρ)]) (leaf_of (fn := Go.Proofs.Try.f11) [6] (by kernel_rfl) ⟨fun ρ w h => by obtain ⟨b_a, b_n, b_c, n, t7_0, t7_1, t7_2, t7_3, t7_4, t7_5, t8, t11, e3, e5, e7, e8, e11, h⟩ := tally_Bytes.d6_elim h; obtain ⟨k', h⟩ := h; exact tally_Bytes.f6 (tally_Bytes.b3 Q k) Q ih k' b_a b_n b_c n t7_0 t7_1 t7_2 t7_3 t7_4 t7_5 t8 t11 w h ρ e3 e5 e7 e8 e11, trivial⟩) (castK h (by kernel_rfl))
set_option maxRecDepth 100000 in
theorem tally_Bytes.body (s_Rebuilds : Int) (s_Searches : Int) (s_Builds : Int) (s_Hits : Int) (s_Stale : Int) (s_Evicts : Int) (w : World) (Q : Option Addr → Nat → Nat → World → Prop) (h : tally_Bytes.sh s_Rebuilds s_Searches s_Builds s_Hits s_Stale s_Evicts w Q) : tally_Bytes.call s_Rebuilds s_Searches s_Builds s_Hits s_Stale s_Evicts w Q := by
  refine call_fn (ok 23) (fn := Go.Proofs.Try.f11) (args := [.agg #[.int .u64 s_Rebuilds, .int .u64 s_Searches, .int .u64 s_Builds, .int .u64 s_Hits, .int .u64 s_Stale, .int .u64 s_Evicts]]) (K := tally_Bytes.qv Q) Go.Proofs.Try.func11 (by kernel_rfl) (by kernel_rfl) (by kernel_rfl) ?_
  refine evT_sound (ok 23) (drawD_sound (ok 23) tally_Bytes.scr) 600 (L := [(3, fun ρ w => tally_Bytes.d3 (fun b_a b_n b_c t7_0 t7_1 t7_2 t7_3 t7_4 t7_5 t8 => ∃ k', tally_Bytes.b3 Q k' b_a b_n b_c t7_0 t7_1 t7_2 t7_3 t7_4 t7_5 t8 w) ρ)]) (leaf_of (fn := Go.Proofs.Try.f11) [3] (by kernel_rfl) ⟨fun ρ w h => by obtain ⟨b_a, b_n, b_c, t7_0, t7_1, t7_2, t7_3, t7_4, t7_5, t8, e3, e7, e8, h⟩ := tally_Bytes.d3_elim h; obtain ⟨k', h⟩ := h; exact tally_Bytes.f3 Q k' b_a b_n b_c t7_0 t7_1 t7_2 t7_3 t7_4 t7_5 t8 w h ρ e3 e7 e8, trivial⟩) (castK h (by kernel_rfl))
/-! ### 6 herdsman/herdsmanlaw6.TallyBytes -/
def herdsmanlaw6_TallyBytes.s6 (Q : Bool → World → Prop) (R6 : Addr → Addr → Option Addr → Nat → Nat → Option Addr → Nat → Nat → Addr → Int → World → Prop) (a : Addr) (b : Addr) (x_a : Option Addr) (x_n : Nat) (x_c : Nat) (y_a : Option Addr) (y_n : Nat) (y_c : Nat) (l : Addr) (i : Int) (w : World) : Prop :=
  cond (decide (i < 48))
  (InB i x_n <|
  wA x_a fun p =>
  LdI .u8 (p.add (i.toNat * 1)) w.drew fun x41 =>
  NZ 8 <|
  InB (IntKind.wrap .i64 (Int.tdiv i 8)) 6 <|
  LdI .u64 (l.add (((IntKind.wrap .i64 (Int.tdiv i 8))).toNat * 1)) w.drew fun x45 =>
  NZ 8 <|
  NNg (IntKind.wrap .i64 (8 * (Int.tmod i 8))) <|
  cond (x41 != (IntKind.wrap .u8 (ishr .u64 x45 (IntKind.wrap .i64 (8 * (Int.tmod i 8))))))
  (Q false w.drew)
  (R6 a b x_a x_n x_c y_a y_n y_c l (IntKind.wrap .i64 (i + 1)) w.drew))
  (herdsmanlaw6_told.call w.drew fun r52 w0_1 =>
  cond r52
  (LdI .u64 (a.add 0) w0_1 fun x59_Rebuilds =>
  LdI .u64 (a.add 1) w0_1 fun x59_Searches =>
  LdI .u64 (a.add 2) w0_1 fun x59_Builds =>
  LdI .u64 (a.add 3) w0_1 fun x59_Hits =>
  LdI .u64 (a.add 4) w0_1 fun x59_Stale =>
  LdI .u64 (a.add 5) w0_1 fun x59_Evicts =>
  LdI .u64 (b.add 0) w0_1 fun x60_Rebuilds =>
  LdI .u64 (b.add 1) w0_1 fun x60_Searches =>
  LdI .u64 (b.add 2) w0_1 fun x60_Builds =>
  LdI .u64 (b.add 3) w0_1 fun x60_Hits =>
  LdI .u64 (b.add 4) w0_1 fun x60_Stale =>
  LdI .u64 (b.add 5) w0_1 fun x60_Evicts =>
  (RunK P (convert 31 9 (.slice x_a x_n x_c)) w0_1 fun v w0_2 =>
  dStr v fun x55 =>
  w0_2.cell? (b.add 0) = some (.int .u64 x60_Rebuilds) ∧
  w0_2.cell? (b.add 1) = some (.int .u64 x60_Searches) ∧
  w0_2.cell? (b.add 2) = some (.int .u64 x60_Builds) ∧
  w0_2.cell? (b.add 3) = some (.int .u64 x60_Hits) ∧
  w0_2.cell? (b.add 4) = some (.int .u64 x60_Stale) ∧
  w0_2.cell? (b.add 5) = some (.int .u64 x60_Evicts) ∧
  w0_2.cell? (a.add 0) = some (.int .u64 x59_Rebuilds) ∧
  w0_2.cell? (a.add 1) = some (.int .u64 x59_Searches) ∧
  w0_2.cell? (a.add 2) = some (.int .u64 x59_Builds) ∧
  w0_2.cell? (a.add 3) = some (.int .u64 x59_Hits) ∧
  w0_2.cell? (a.add 4) = some (.int .u64 x59_Stale) ∧
  w0_2.cell? (a.add 5) = some (.int .u64 x59_Evicts) ∧
  (RunK P (convert 31 9 (.slice y_a y_n y_c)) w0_2 fun v_1 w0_3 =>
  dStr v_1 fun x57 =>
  w0_3.cell? (b.add 0) = some (.int .u64 x60_Rebuilds) ∧
  w0_3.cell? (b.add 1) = some (.int .u64 x60_Searches) ∧
  w0_3.cell? (b.add 2) = some (.int .u64 x60_Builds) ∧
  w0_3.cell? (b.add 3) = some (.int .u64 x60_Hits) ∧
  w0_3.cell? (b.add 4) = some (.int .u64 x60_Stale) ∧
  w0_3.cell? (b.add 5) = some (.int .u64 x60_Evicts) ∧
  w0_3.cell? (a.add 0) = some (.int .u64 x59_Rebuilds) ∧
  w0_3.cell? (a.add 1) = some (.int .u64 x59_Searches) ∧
  w0_3.cell? (a.add 2) = some (.int .u64 x59_Builds) ∧
  w0_3.cell? (a.add 3) = some (.int .u64 x59_Hits) ∧
  w0_3.cell? (a.add 4) = some (.int .u64 x59_Stale) ∧
  w0_3.cell? (a.add 5) = some (.int .u64 x59_Evicts) ∧
  EqK P .eql 28 (.tmp 59) (.tmp 60) (.agg #[.int .u64 x59_Rebuilds, .int .u64 x59_Searches, .int .u64 x59_Builds, .int .u64 x59_Hits, .int .u64 x59_Stale, .int .u64 x59_Evicts]) (.agg #[.int .u64 x60_Rebuilds, .int .u64 x60_Searches, .int .u64 x60_Builds, .int .u64 x60_Hits, .int .u64 x60_Stale, .int .u64 x60_Evicts]) w0_3 fun b_1 w0_4 =>
  Q ((x55.toList == x57.toList) == b_1) w0_4) ∧
  (EqK P .eql 28 (.tmp 59) (.tmp 60) (.agg #[.int .u64 x59_Rebuilds, .int .u64 x59_Searches, .int .u64 x59_Builds, .int .u64 x59_Hits, .int .u64 x59_Stale, .int .u64 x59_Evicts]) (.agg #[.int .u64 x60_Rebuilds, .int .u64 x60_Searches, .int .u64 x60_Builds, .int .u64 x60_Hits, .int .u64 x60_Stale, .int .u64 x60_Evicts]) w0_2 fun b_2 w0_5 =>
  RunK P (convert 31 9 (.slice y_a y_n y_c)) w0_5 fun v_2 w0_6 =>
  dStr v_2 fun x57_1 =>
  w0_6.cell? (b.add 0) = some (.int .u64 x60_Rebuilds) ∧
  w0_6.cell? (b.add 1) = some (.int .u64 x60_Searches) ∧
  w0_6.cell? (b.add 2) = some (.int .u64 x60_Builds) ∧
  w0_6.cell? (b.add 3) = some (.int .u64 x60_Hits) ∧
  w0_6.cell? (b.add 4) = some (.int .u64 x60_Stale) ∧
  w0_6.cell? (b.add 5) = some (.int .u64 x60_Evicts) ∧
  w0_6.cell? (a.add 0) = some (.int .u64 x59_Rebuilds) ∧
  w0_6.cell? (a.add 1) = some (.int .u64 x59_Searches) ∧
  w0_6.cell? (a.add 2) = some (.int .u64 x59_Builds) ∧
  w0_6.cell? (a.add 3) = some (.int .u64 x59_Hits) ∧
  w0_6.cell? (a.add 4) = some (.int .u64 x59_Stale) ∧
  w0_6.cell? (a.add 5) = some (.int .u64 x59_Evicts) ∧
  Q ((x55.toList == x57_1.toList) == b_2) w0_6)) ∧
  ((RunK P (convert 31 9 (.slice y_a y_n y_c)) w0_1 fun v_3 w0_7 =>
  dStr v_3 fun x57_2 =>
  w0_7.cell? (b.add 0) = some (.int .u64 x60_Rebuilds) ∧
  w0_7.cell? (b.add 1) = some (.int .u64 x60_Searches) ∧
  w0_7.cell? (b.add 2) = some (.int .u64 x60_Builds) ∧
  w0_7.cell? (b.add 3) = some (.int .u64 x60_Hits) ∧
  w0_7.cell? (b.add 4) = some (.int .u64 x60_Stale) ∧
  w0_7.cell? (b.add 5) = some (.int .u64 x60_Evicts) ∧
  w0_7.cell? (a.add 0) = some (.int .u64 x59_Rebuilds) ∧
  w0_7.cell? (a.add 1) = some (.int .u64 x59_Searches) ∧
  w0_7.cell? (a.add 2) = some (.int .u64 x59_Builds) ∧
  w0_7.cell? (a.add 3) = some (.int .u64 x59_Hits) ∧
  w0_7.cell? (a.add 4) = some (.int .u64 x59_Stale) ∧
  w0_7.cell? (a.add 5) = some (.int .u64 x59_Evicts) ∧
  (RunK P (convert 31 9 (.slice x_a x_n x_c)) w0_7 fun v_4 w0_8 =>
  dStr v_4 fun x55_1 =>
  w0_8.cell? (b.add 0) = some (.int .u64 x60_Rebuilds) ∧
  w0_8.cell? (b.add 1) = some (.int .u64 x60_Searches) ∧
  w0_8.cell? (b.add 2) = some (.int .u64 x60_Builds) ∧
  w0_8.cell? (b.add 3) = some (.int .u64 x60_Hits) ∧
  w0_8.cell? (b.add 4) = some (.int .u64 x60_Stale) ∧
  w0_8.cell? (b.add 5) = some (.int .u64 x60_Evicts) ∧
  w0_8.cell? (a.add 0) = some (.int .u64 x59_Rebuilds) ∧
  w0_8.cell? (a.add 1) = some (.int .u64 x59_Searches) ∧
  w0_8.cell? (a.add 2) = some (.int .u64 x59_Builds) ∧
  w0_8.cell? (a.add 3) = some (.int .u64 x59_Hits) ∧
  w0_8.cell? (a.add 4) = some (.int .u64 x59_Stale) ∧
  w0_8.cell? (a.add 5) = some (.int .u64 x59_Evicts) ∧
  EqK P .eql 28 (.tmp 59) (.tmp 60) (.agg #[.int .u64 x59_Rebuilds, .int .u64 x59_Searches, .int .u64 x59_Builds, .int .u64 x59_Hits, .int .u64 x59_Stale, .int .u64 x59_Evicts]) (.agg #[.int .u64 x60_Rebuilds, .int .u64 x60_Searches, .int .u64 x60_Builds, .int .u64 x60_Hits, .int .u64 x60_Stale, .int .u64 x60_Evicts]) w0_8 fun b_3 w0_9 =>
  Q ((x55_1.toList == x57_2.toList) == b_3) w0_9) ∧
  (EqK P .eql 28 (.tmp 59) (.tmp 60) (.agg #[.int .u64 x59_Rebuilds, .int .u64 x59_Searches, .int .u64 x59_Builds, .int .u64 x59_Hits, .int .u64 x59_Stale, .int .u64 x59_Evicts]) (.agg #[.int .u64 x60_Rebuilds, .int .u64 x60_Searches, .int .u64 x60_Builds, .int .u64 x60_Hits, .int .u64 x60_Stale, .int .u64 x60_Evicts]) w0_7 fun b_4 w0_10 =>
  RunK P (convert 31 9 (.slice x_a x_n x_c)) w0_10 fun v_5 w0_11 =>
  dStr v_5 fun x55_2 =>
  w0_11.cell? (b.add 0) = some (.int .u64 x60_Rebuilds) ∧
  w0_11.cell? (b.add 1) = some (.int .u64 x60_Searches) ∧
  w0_11.cell? (b.add 2) = some (.int .u64 x60_Builds) ∧
  w0_11.cell? (b.add 3) = some (.int .u64 x60_Hits) ∧
  w0_11.cell? (b.add 4) = some (.int .u64 x60_Stale) ∧
  w0_11.cell? (b.add 5) = some (.int .u64 x60_Evicts) ∧
  w0_11.cell? (a.add 0) = some (.int .u64 x59_Rebuilds) ∧
  w0_11.cell? (a.add 1) = some (.int .u64 x59_Searches) ∧
  w0_11.cell? (a.add 2) = some (.int .u64 x59_Builds) ∧
  w0_11.cell? (a.add 3) = some (.int .u64 x59_Hits) ∧
  w0_11.cell? (a.add 4) = some (.int .u64 x59_Stale) ∧
  w0_11.cell? (a.add 5) = some (.int .u64 x59_Evicts) ∧
  Q ((x55_2.toList == x57_2.toList) == b_4) w0_11)) ∧
  (EqK P .eql 28 (.tmp 59) (.tmp 60) (.agg #[.int .u64 x59_Rebuilds, .int .u64 x59_Searches, .int .u64 x59_Builds, .int .u64 x59_Hits, .int .u64 x59_Stale, .int .u64 x59_Evicts]) (.agg #[.int .u64 x60_Rebuilds, .int .u64 x60_Searches, .int .u64 x60_Builds, .int .u64 x60_Hits, .int .u64 x60_Stale, .int .u64 x60_Evicts]) w0_1 fun b_5 w0_12 =>
  (RunK P (convert 31 9 (.slice x_a x_n x_c)) w0_12 fun v_6 w0_13 =>
  dStr v_6 fun x55_3 =>
  w0_13.cell? (b.add 0) = some (.int .u64 x60_Rebuilds) ∧
  w0_13.cell? (b.add 1) = some (.int .u64 x60_Searches) ∧
  w0_13.cell? (b.add 2) = some (.int .u64 x60_Builds) ∧
  w0_13.cell? (b.add 3) = some (.int .u64 x60_Hits) ∧
  w0_13.cell? (b.add 4) = some (.int .u64 x60_Stale) ∧
  w0_13.cell? (b.add 5) = some (.int .u64 x60_Evicts) ∧
  w0_13.cell? (a.add 0) = some (.int .u64 x59_Rebuilds) ∧
  w0_13.cell? (a.add 1) = some (.int .u64 x59_Searches) ∧
  w0_13.cell? (a.add 2) = some (.int .u64 x59_Builds) ∧
  w0_13.cell? (a.add 3) = some (.int .u64 x59_Hits) ∧
  w0_13.cell? (a.add 4) = some (.int .u64 x59_Stale) ∧
  w0_13.cell? (a.add 5) = some (.int .u64 x59_Evicts) ∧
  RunK P (convert 31 9 (.slice y_a y_n y_c)) w0_13 fun v_7 w0_14 =>
  dStr v_7 fun x57_3 =>
  w0_14.cell? (b.add 0) = some (.int .u64 x60_Rebuilds) ∧
  w0_14.cell? (b.add 1) = some (.int .u64 x60_Searches) ∧
  w0_14.cell? (b.add 2) = some (.int .u64 x60_Builds) ∧
  w0_14.cell? (b.add 3) = some (.int .u64 x60_Hits) ∧
  w0_14.cell? (b.add 4) = some (.int .u64 x60_Stale) ∧
  w0_14.cell? (b.add 5) = some (.int .u64 x60_Evicts) ∧
  w0_14.cell? (a.add 0) = some (.int .u64 x59_Rebuilds) ∧
  w0_14.cell? (a.add 1) = some (.int .u64 x59_Searches) ∧
  w0_14.cell? (a.add 2) = some (.int .u64 x59_Builds) ∧
  w0_14.cell? (a.add 3) = some (.int .u64 x59_Hits) ∧
  w0_14.cell? (a.add 4) = some (.int .u64 x59_Stale) ∧
  w0_14.cell? (a.add 5) = some (.int .u64 x59_Evicts) ∧
  Q ((x55_3.toList == x57_3.toList) == b_5) w0_14) ∧
  (RunK P (convert 31 9 (.slice y_a y_n y_c)) w0_12 fun v_8 w0_15 =>
  dStr v_8 fun x57_4 =>
  w0_15.cell? (b.add 0) = some (.int .u64 x60_Rebuilds) ∧
  w0_15.cell? (b.add 1) = some (.int .u64 x60_Searches) ∧
  w0_15.cell? (b.add 2) = some (.int .u64 x60_Builds) ∧
  w0_15.cell? (b.add 3) = some (.int .u64 x60_Hits) ∧
  w0_15.cell? (b.add 4) = some (.int .u64 x60_Stale) ∧
  w0_15.cell? (b.add 5) = some (.int .u64 x60_Evicts) ∧
  w0_15.cell? (a.add 0) = some (.int .u64 x59_Rebuilds) ∧
  w0_15.cell? (a.add 1) = some (.int .u64 x59_Searches) ∧
  w0_15.cell? (a.add 2) = some (.int .u64 x59_Builds) ∧
  w0_15.cell? (a.add 3) = some (.int .u64 x59_Hits) ∧
  w0_15.cell? (a.add 4) = some (.int .u64 x59_Stale) ∧
  w0_15.cell? (a.add 5) = some (.int .u64 x59_Evicts) ∧
  RunK P (convert 31 9 (.slice x_a x_n x_c)) w0_15 fun v_9 w0_16 =>
  dStr v_9 fun x55_4 =>
  w0_16.cell? (b.add 0) = some (.int .u64 x60_Rebuilds) ∧
  w0_16.cell? (b.add 1) = some (.int .u64 x60_Searches) ∧
  w0_16.cell? (b.add 2) = some (.int .u64 x60_Builds) ∧
  w0_16.cell? (b.add 3) = some (.int .u64 x60_Hits) ∧
  w0_16.cell? (b.add 4) = some (.int .u64 x60_Stale) ∧
  w0_16.cell? (b.add 5) = some (.int .u64 x60_Evicts) ∧
  w0_16.cell? (a.add 0) = some (.int .u64 x59_Rebuilds) ∧
  w0_16.cell? (a.add 1) = some (.int .u64 x59_Searches) ∧
  w0_16.cell? (a.add 2) = some (.int .u64 x59_Builds) ∧
  w0_16.cell? (a.add 3) = some (.int .u64 x59_Hits) ∧
  w0_16.cell? (a.add 4) = some (.int .u64 x59_Stale) ∧
  w0_16.cell? (a.add 5) = some (.int .u64 x59_Evicts) ∧
  Q ((x55_4.toList == x57_4.toList) == b_5) w0_16))))
  (((Q false w0_1) ∧
  (Q false w0_1)) ∧
  (((Q false w0_1) ∧
  (Q false w0_1)) ∧
  ((Q false w0_1) ∧
  (Q false w0_1)))))
def herdsmanlaw6_TallyBytes.b6 (Q : Bool → World → Prop) : Nat → Addr → Addr → Option Addr → Nat → Nat → Option Addr → Nat → Nat → Addr → Int → World → Prop
  | 0, _, _, _, _, _, _, _, _, _, _, _ => False
  | k + 1, a, b, x_a, x_n, x_c, y_a, y_n, y_c, l, i, w => herdsmanlaw6_TallyBytes.s6 Q (herdsmanlaw6_TallyBytes.b6 Q k) a b x_a x_n x_c y_a y_n y_c l i w
def herdsmanlaw6_TallyBytes.sh (a_Rebuilds : Int) (a_Searches : Int) (a_Builds : Int) (a_Hits : Int) (a_Stale : Int) (a_Evicts : Int) (b_Rebuilds : Int) (b_Searches : Int) (b_Builds : Int) (b_Hits : Int) (b_Stale : Int) (b_Evicts : Int) (w : World) (Q : Bool → World → Prop) : Prop :=
  Bx [.int .u64 a_Rebuilds, .int .u64 a_Searches, .int .u64 a_Builds, .int .u64 a_Hits, .int .u64 a_Stale, .int .u64 a_Evicts] 28 w fun a_b w0_1 =>
  Bx [.int .u64 b_Rebuilds, .int .u64 b_Searches, .int .u64 b_Builds, .int .u64 b_Hits, .int .u64 b_Stale, .int .u64 b_Evicts] 28 w0_1 fun b_b w0_2 =>
  LdI .u64 (a_b.add 0) w0_2.drew fun x9_Rebuilds =>
  LdI .u64 (a_b.add 1) w0_2.drew fun x9_Searches =>
  LdI .u64 (a_b.add 2) w0_2.drew fun x9_Builds =>
  LdI .u64 (a_b.add 3) w0_2.drew fun x9_Hits =>
  LdI .u64 (a_b.add 4) w0_2.drew fun x9_Stale =>
  LdI .u64 (a_b.add 5) w0_2.drew fun x9_Evicts =>
  LdI .u64 (b_b.add 0) w0_2.drew fun x11_Rebuilds =>
  LdI .u64 (b_b.add 1) w0_2.drew fun x11_Searches =>
  LdI .u64 (b_b.add 2) w0_2.drew fun x11_Builds =>
  LdI .u64 (b_b.add 3) w0_2.drew fun x11_Hits =>
  LdI .u64 (b_b.add 4) w0_2.drew fun x11_Stale =>
  LdI .u64 (b_b.add 5) w0_2.drew fun x11_Evicts =>
  tally_Bytes.call x9_Rebuilds x9_Searches x9_Builds x9_Hits x9_Stale x9_Evicts w0_2.drew fun r10_a r10_n r10_c w0_3 =>
  w0_3.cell? (b_b.add 0) = some (.int .u64 x11_Rebuilds) ∧
  w0_3.cell? (b_b.add 1) = some (.int .u64 x11_Searches) ∧
  w0_3.cell? (b_b.add 2) = some (.int .u64 x11_Builds) ∧
  w0_3.cell? (b_b.add 3) = some (.int .u64 x11_Hits) ∧
  w0_3.cell? (b_b.add 4) = some (.int .u64 x11_Stale) ∧
  w0_3.cell? (b_b.add 5) = some (.int .u64 x11_Evicts) ∧
  tally_Bytes.call x11_Rebuilds x11_Searches x11_Builds x11_Hits x11_Stale x11_Evicts w0_3 fun r12_a r12_n r12_c w0_4 =>
  cond ((r10_n : Int) != 48)
  (Q false w0_4)
  (cond ((r12_n : Int) != 48)
  (Q false w0_4)
  (LdI .u64 a_b w0_4 fun x22 =>
  LdI .u64 (a_b.add 1) w0_4 fun x24 =>
  LdI .u64 (a_b.add 2) w0_4 fun x26 =>
  LdI .u64 (a_b.add 3) w0_4 fun x28 =>
  LdI .u64 (a_b.add 4) w0_4 fun x30 =>
  LdI .u64 (a_b.add 5) w0_4 fun x32 =>
  Al T 33 w0_4 fun l w0_5 =>
  St (l.add 0) (.int .u64 x22) w0_5 fun w0_6 =>
  St (l.add 1) (.int .u64 x24) w0_6 fun w0_7 =>
  St (l.add 2) (.int .u64 x26) w0_7 fun w0_8 =>
  St (l.add 3) (.int .u64 x28) w0_8 fun w0_9 =>
  St (l.add 4) (.int .u64 x30) w0_9 fun w0_10 =>
  St (l.add 5) (.int .u64 x32) w0_10 fun w0_11 =>
  ∃ k', herdsmanlaw6_TallyBytes.b6 Q k' a_b b_b r10_a r10_n r10_c r12_a r12_n r12_c l 0 w0_11))
noncomputable def herdsmanlaw6_TallyBytes.scr : Scrs := [(1, .op 0 (.op 2 (.op 1 (.op 3 (.op 4 (.op 5 .done)))))), (8, .op 0 (.op 1 (.op 2 (.op 3 (.op 4 (.op 5 (.op 6 (.op 7 (.op 8 (.op 9 (.op 10 (.op 11 (.op 12 (.op 13 .done)))))))))))))), (10, .op 0 (.op 1 (.op 2 (.op 4 (.op 7 (.op 8 (.br (.op 3 (.br (.op 5 (.op 6 (.op 9 (.op 10 (.op 11 (.op 12 .done)))))) (.op 9 (.op 5 (.op 6 (.op 10 (.op 11 (.op 12 .done)))))))) (.br (.op 5 (.br (.op 3 (.op 6 (.op 9 (.op 10 (.op 11 (.op 12 .done)))))) (.op 9 (.op 3 (.op 6 (.op 10 (.op 11 (.op 12 .done)))))))) (.op 9 (.br (.op 3 (.op 5 (.op 6 (.op 10 (.op 11 (.op 12 .done)))))) (.op 5 (.op 3 (.op 6 (.op 10 (.op 11 (.op 12 .done))))))))))))))))]
def herdsmanlaw6_TallyBytes.R (Q : Bool → World → Prop) (ρ : Env) (w : World) : Prop := evRes (cx 64) Go.Proofs.Try.f6.results.toList ρ w fun vs => herdsmanlaw6_TallyBytes.qv Q (resV vs) w
def herdsmanlaw6_TallyBytes.d6 (K : Addr → Addr → Option Addr → Nat → Nat → Option Addr → Nat → Nat → Addr → Int → Prop) (ρ : Env) : Prop :=
  dP (ρ 2) fun a_p => wA a_p fun a => dP (ρ 3) fun b_p => wA b_p fun b => dS (ρ 5) fun x_a x_n x_c => dS (ρ 6) fun y_a y_n y_c => dP (ρ 7) fun l_p => wA l_p fun l => dI .i64 (ρ 8) fun i => K a b x_a x_n x_c y_a y_n y_c l i
theorem herdsmanlaw6_TallyBytes.d6_elim {K : Addr → Addr → Option Addr → Nat → Nat → Option Addr → Nat → Nat → Addr → Int → Prop} {ρ : Env} (h0 : herdsmanlaw6_TallyBytes.d6 K ρ) : ∃ (a : Addr) (b : Addr) (x_a : Option Addr) (x_n : Nat) (x_c : Nat) (y_a : Option Addr) (y_n : Nat) (y_c : Nat) (l : Addr) (i : Int), ρ 2 = .pointer (some a) ∧ ρ 3 = .pointer (some b) ∧ ρ 5 = .slice x_a x_n x_c ∧ ρ 6 = .slice y_a y_n y_c ∧ ρ 7 = .pointer (some l) ∧ ρ 8 = .int .i64 i ∧ K a b x_a x_n x_c y_a y_n y_c l i := by
  obtain ⟨a_p, e2, h1⟩ := dP_elim h0
  obtain ⟨a, rfl, h2⟩ := wA_elim h1
  obtain ⟨b_p, e3, h3⟩ := dP_elim h2
  obtain ⟨b, rfl, h4⟩ := wA_elim h3
  obtain ⟨x_a, x_n, x_c, e5, h5⟩ := dS_elim h4
  obtain ⟨y_a, y_n, y_c, e6, h6⟩ := dS_elim h5
  obtain ⟨l_p, e7, h7⟩ := dP_elim h6
  obtain ⟨l, rfl, h8⟩ := wA_elim h7
  obtain ⟨i, e8, h9⟩ := dI_elim h8
  exact ⟨a, b, x_a, x_n, x_c, y_a, y_n, y_c, l, i, e2, e3, e5, e6, e7, e8, h9⟩
set_option maxRecDepth 100000 in
theorem herdsmanlaw6_TallyBytes.f6 (Q : Bool → World → Prop) : ∀ k a b x_a x_n x_c y_a y_n y_c l i w, herdsmanlaw6_TallyBytes.b6 Q k a b x_a x_n x_c y_a y_n y_c l i w → ∀ ρ : Env, ρ 2 = .pointer (some a) → ρ 3 = .pointer (some b) → ρ 5 = .slice x_a x_n x_c → ρ 6 = .slice y_a y_n y_c → ρ 7 = .pointer (some l) → ρ 8 = .int .i64 i → Fin (cx 64) (todoOf Go.Proofs.Try.f6 6) ρ w (herdsmanlaw6_TallyBytes.R Q) := by
  intro k
  induction k with
  | zero => intro a b x_a x_n x_c y_a y_n y_c l i w h; exact h.elim
  | succ k ih =>
    intro a b x_a x_n x_c y_a y_n y_c l i w h ρ e2 e3 e5 e6 e7 e8
    have h : herdsmanlaw6_TallyBytes.s6 Q (herdsmanlaw6_TallyBytes.b6 Q k) a b x_a x_n x_c y_a y_n y_c l i w := h
    refine Fin.cut (ρ' := put (put (put (put (put (put (ρ) (some 2) (.pointer (some a))) (some 3) (.pointer (some b))) (some 5) (.slice x_a x_n x_c)) (some 6) (.slice y_a y_n y_c)) (some 7) (.pointer (some l))) (some 8) (.int .i64 i)) ?_ (by rw [put_id e2, put_id e3, put_id e5, put_id e6, put_id e7, put_id e8])
    refine evT_sound (ok 64) (drawD_sound (ok 64) herdsmanlaw6_TallyBytes.scr) 600 (L := [(6, fun ρ w => herdsmanlaw6_TallyBytes.d6 (fun a b x_a x_n x_c y_a y_n y_c l i => herdsmanlaw6_TallyBytes.b6 Q k a b x_a x_n x_c y_a y_n y_c l i w) ρ)]) (leaf_of (fn := Go.Proofs.Try.f6) [6] (by kernel_rfl) ⟨fun ρ w h => by obtain ⟨a, b, x_a, x_n, x_c, y_a, y_n, y_c, l, i, e2, e3, e5, e6, e7, e8, h⟩ := herdsmanlaw6_TallyBytes.d6_elim h; exact ih a b x_a x_n x_c y_a y_n y_c l i w h ρ e2 e3 e5 e6 e7 e8, trivial⟩) (castK h (by kernel_rfl))
set_option maxRecDepth 100000 in
theorem herdsmanlaw6_TallyBytes.body (a_Rebuilds : Int) (a_Searches : Int) (a_Builds : Int) (a_Hits : Int) (a_Stale : Int) (a_Evicts : Int) (b_Rebuilds : Int) (b_Searches : Int) (b_Builds : Int) (b_Hits : Int) (b_Stale : Int) (b_Evicts : Int) (w : World) (Q : Bool → World → Prop) (h : herdsmanlaw6_TallyBytes.sh a_Rebuilds a_Searches a_Builds a_Hits a_Stale a_Evicts b_Rebuilds b_Searches b_Builds b_Hits b_Stale b_Evicts w Q) : herdsmanlaw6_TallyBytes.call a_Rebuilds a_Searches a_Builds a_Hits a_Stale a_Evicts b_Rebuilds b_Searches b_Builds b_Hits b_Stale b_Evicts w Q := by
  refine call_fn (ok 64) (fn := Go.Proofs.Try.f6) (args := [.agg #[.int .u64 a_Rebuilds, .int .u64 a_Searches, .int .u64 a_Builds, .int .u64 a_Hits, .int .u64 a_Stale, .int .u64 a_Evicts], .agg #[.int .u64 b_Rebuilds, .int .u64 b_Searches, .int .u64 b_Builds, .int .u64 b_Hits, .int .u64 b_Stale, .int .u64 b_Evicts]]) (K := herdsmanlaw6_TallyBytes.qv Q) Go.Proofs.Try.func6 (by kernel_rfl) (by kernel_rfl) (by kernel_rfl) ?_
  refine evT_sound (ok 64) (drawD_sound (ok 64) herdsmanlaw6_TallyBytes.scr) 600 (L := [(6, fun ρ w => herdsmanlaw6_TallyBytes.d6 (fun a b x_a x_n x_c y_a y_n y_c l i => ∃ k', herdsmanlaw6_TallyBytes.b6 Q k' a b x_a x_n x_c y_a y_n y_c l i w) ρ)]) (leaf_of (fn := Go.Proofs.Try.f6) [6] (by kernel_rfl) ⟨fun ρ w h => by obtain ⟨a, b, x_a, x_n, x_c, y_a, y_n, y_c, l, i, e2, e3, e5, e6, e7, e8, h⟩ := herdsmanlaw6_TallyBytes.d6_elim h; obtain ⟨k', h⟩ := h; exact herdsmanlaw6_TallyBytes.f6 Q k' a b x_a x_n x_c y_a y_n y_c l i w h ρ e2 e3 e5 e6 e7 e8, trivial⟩) (castK h (by kernel_rfl))
/-! ### 12 herdsman/tally.Sum -/
def tally_Sum.s3 (Q : Int → Int → Int → Int → Int → Int → World → Prop) (R3 : Addr → Addr → Addr → Int → World → Prop) (t4 : Addr) (x : Addr) (y : Addr) (t12 : Int) (w : World) : Prop :=
  cond (decide (t12 < 6))
  (InB t12 6 <|
  LdI .u64 (x.add (t12.toNat * 1)) w.drew fun x18 =>
  InB t12 6 <|
  LdI .u64 (y.add (t12.toNat * 1)) w.drew fun x21 =>
  tally_Add.call x18 x21 w.drew fun r22 w0_1 =>
  InB t12 6 <|
  St (x.add (t12.toNat * 1)) (.int .u64 r22) w0_1 fun w0_2 =>
  R3 t4 x y (IntKind.wrap .i64 (t12 + 1)) w0_2)
  (InB 0 6 <|
  LdI .u64 (x.add (((0 : Int).toNat) * 1)) w fun x26 =>
  InB 1 6 <|
  LdI .u64 (x.add (((1 : Int).toNat) * 1)) w fun x28 =>
  InB 2 6 <|
  LdI .u64 (x.add (((2 : Int).toNat) * 1)) w fun x30 =>
  InB 3 6 <|
  LdI .u64 (x.add (((3 : Int).toNat) * 1)) w fun x32 =>
  InB 4 6 <|
  LdI .u64 (x.add (((4 : Int).toNat) * 1)) w fun x34 =>
  InB 5 6 <|
  LdI .u64 (x.add (((5 : Int).toNat) * 1)) w fun x36 =>
  St (t4.add 0) (.int .u64 x26) w fun w0_3 =>
  St (t4.add 1) (.int .u64 x28) w0_3 fun w0_4 =>
  St (t4.add 2) (.int .u64 x30) w0_4 fun w0_5 =>
  St (t4.add 3) (.int .u64 x32) w0_5 fun w0_6 =>
  St (t4.add 4) (.int .u64 x34) w0_6 fun w0_7 =>
  St (t4.add 5) (.int .u64 x36) w0_7 fun w0_8 =>
  LdI .u64 (t4.add 0) w0_8 fun r4_Rebuilds =>
  LdI .u64 (t4.add 1) w0_8 fun r4_Searches =>
  LdI .u64 (t4.add 2) w0_8 fun r4_Builds =>
  LdI .u64 (t4.add 3) w0_8 fun r4_Hits =>
  LdI .u64 (t4.add 4) w0_8 fun r4_Stale =>
  LdI .u64 (t4.add 5) w0_8 fun r4_Evicts =>
  Q r4_Rebuilds r4_Searches r4_Builds r4_Hits r4_Stale r4_Evicts w0_8)
def tally_Sum.b3 (Q : Int → Int → Int → Int → Int → Int → World → Prop) : Nat → Addr → Addr → Addr → Int → World → Prop
  | 0, _, _, _, _, _ => False
  | k + 1, t4, x, y, t12, w => tally_Sum.s3 Q (tally_Sum.b3 Q k) t4 x y t12 w
def tally_Sum.b2 (Q : Int → Int → Int → Int → Int → Int → World → Prop) (t4 : Addr) (x : Addr) (y : Addr) (w : World) : Prop :=
  ∃ k', tally_Sum.b3 Q k' t4 x y 0 w
def tally_Sum.sh (a_Rebuilds : Int) (a_Searches : Int) (a_Builds : Int) (a_Hits : Int) (a_Stale : Int) (a_Evicts : Int) (b_Rebuilds : Int) (b_Searches : Int) (b_Builds : Int) (b_Hits : Int) (b_Stale : Int) (b_Evicts : Int) (w : World) (Q : Int → Int → Int → Int → Int → Int → World → Prop) : Prop :=
  Bx [.int .u64 a_Rebuilds, .int .u64 a_Searches, .int .u64 a_Builds, .int .u64 a_Hits, .int .u64 a_Stale, .int .u64 a_Evicts] 28 w fun a_b w0_1 =>
  Bx [.int .u64 b_Rebuilds, .int .u64 b_Searches, .int .u64 b_Builds, .int .u64 b_Hits, .int .u64 b_Stale, .int .u64 b_Evicts] 28 w0_1 fun b_b w0_2 =>
  Al T 28 w0_2 fun p4 w0_3 =>
  LdI .u64 (a_b.add 0) w0_3.drew fun x8_Rebuilds =>
  LdI .u64 (a_b.add 1) w0_3.drew fun x8_Searches =>
  LdI .u64 (a_b.add 2) w0_3.drew fun x8_Builds =>
  LdI .u64 (a_b.add 3) w0_3.drew fun x8_Hits =>
  LdI .u64 (a_b.add 4) w0_3.drew fun x8_Stale =>
  LdI .u64 (a_b.add 5) w0_3.drew fun x8_Evicts =>
  LdI .u64 (b_b.add 0) w0_3.drew fun x10_Rebuilds =>
  LdI .u64 (b_b.add 1) w0_3.drew fun x10_Searches =>
  LdI .u64 (b_b.add 2) w0_3.drew fun x10_Builds =>
  LdI .u64 (b_b.add 3) w0_3.drew fun x10_Hits =>
  LdI .u64 (b_b.add 4) w0_3.drew fun x10_Stale =>
  LdI .u64 (b_b.add 5) w0_3.drew fun x10_Evicts =>
  (tally_counts.call x8_Rebuilds x8_Searches x8_Builds x8_Hits x8_Stale x8_Evicts w0_3.drew fun r9_0 r9_1 r9_2 r9_3 r9_4 r9_5 w0_4 =>
  w0_4.cell? (b_b.add 0) = some (.int .u64 x10_Rebuilds) ∧
  w0_4.cell? (b_b.add 1) = some (.int .u64 x10_Searches) ∧
  w0_4.cell? (b_b.add 2) = some (.int .u64 x10_Builds) ∧
  w0_4.cell? (b_b.add 3) = some (.int .u64 x10_Hits) ∧
  w0_4.cell? (b_b.add 4) = some (.int .u64 x10_Stale) ∧
  w0_4.cell? (b_b.add 5) = some (.int .u64 x10_Evicts) ∧
  (tally_counts.call x10_Rebuilds x10_Searches x10_Builds x10_Hits x10_Stale x10_Evicts w0_4 fun r11_0 r11_1 r11_2 r11_3 r11_4 r11_5 w0_5 =>
  (Al T 33 w0_5 fun x w0_6 =>
  w0_6.cell? (b_b.add 0) = some (.int .u64 x10_Rebuilds) ∧
  w0_6.cell? (b_b.add 1) = some (.int .u64 x10_Searches) ∧
  w0_6.cell? (b_b.add 2) = some (.int .u64 x10_Builds) ∧
  w0_6.cell? (b_b.add 3) = some (.int .u64 x10_Hits) ∧
  w0_6.cell? (b_b.add 4) = some (.int .u64 x10_Stale) ∧
  w0_6.cell? (b_b.add 5) = some (.int .u64 x10_Evicts) ∧
  w0_6.cell? (a_b.add 0) = some (.int .u64 x8_Rebuilds) ∧
  w0_6.cell? (a_b.add 1) = some (.int .u64 x8_Searches) ∧
  w0_6.cell? (a_b.add 2) = some (.int .u64 x8_Builds) ∧
  w0_6.cell? (a_b.add 3) = some (.int .u64 x8_Hits) ∧
  w0_6.cell? (a_b.add 4) = some (.int .u64 x8_Stale) ∧
  w0_6.cell? (a_b.add 5) = some (.int .u64 x8_Evicts) ∧
  Al T 33 w0_6 fun y w0_7 =>
  w0_7.cell? (b_b.add 0) = some (.int .u64 x10_Rebuilds) ∧
  w0_7.cell? (b_b.add 1) = some (.int .u64 x10_Searches) ∧
  w0_7.cell? (b_b.add 2) = some (.int .u64 x10_Builds) ∧
  w0_7.cell? (b_b.add 3) = some (.int .u64 x10_Hits) ∧
  w0_7.cell? (b_b.add 4) = some (.int .u64 x10_Stale) ∧
  w0_7.cell? (b_b.add 5) = some (.int .u64 x10_Evicts) ∧
  w0_7.cell? (a_b.add 0) = some (.int .u64 x8_Rebuilds) ∧
  w0_7.cell? (a_b.add 1) = some (.int .u64 x8_Searches) ∧
  w0_7.cell? (a_b.add 2) = some (.int .u64 x8_Builds) ∧
  w0_7.cell? (a_b.add 3) = some (.int .u64 x8_Hits) ∧
  w0_7.cell? (a_b.add 4) = some (.int .u64 x8_Stale) ∧
  w0_7.cell? (a_b.add 5) = some (.int .u64 x8_Evicts) ∧
  St (x.add 0) (.int .u64 r9_0) w0_7 fun w0_8 =>
  St (x.add 1) (.int .u64 r9_1) w0_8 fun w0_9 =>
  St (x.add 2) (.int .u64 r9_2) w0_9 fun w0_10 =>
  St (x.add 3) (.int .u64 r9_3) w0_10 fun w0_11 =>
  St (x.add 4) (.int .u64 r9_4) w0_11 fun w0_12 =>
  St (x.add 5) (.int .u64 r9_5) w0_12 fun w0_13 =>
  St (y.add 0) (.int .u64 r11_0) w0_13 fun w0_14 =>
  St (y.add 1) (.int .u64 r11_1) w0_14 fun w0_15 =>
  St (y.add 2) (.int .u64 r11_2) w0_15 fun w0_16 =>
  St (y.add 3) (.int .u64 r11_3) w0_16 fun w0_17 =>
  St (y.add 4) (.int .u64 r11_4) w0_17 fun w0_18 =>
  St (y.add 5) (.int .u64 r11_5) w0_18 fun w0_19 =>
  tally_Sum.b2 Q p4 x y w0_19) ∧
  (Al T 33 w0_5 fun y_1 w0_20 =>
  w0_20.cell? (b_b.add 0) = some (.int .u64 x10_Rebuilds) ∧
  w0_20.cell? (b_b.add 1) = some (.int .u64 x10_Searches) ∧
  w0_20.cell? (b_b.add 2) = some (.int .u64 x10_Builds) ∧
  w0_20.cell? (b_b.add 3) = some (.int .u64 x10_Hits) ∧
  w0_20.cell? (b_b.add 4) = some (.int .u64 x10_Stale) ∧
  w0_20.cell? (b_b.add 5) = some (.int .u64 x10_Evicts) ∧
  w0_20.cell? (a_b.add 0) = some (.int .u64 x8_Rebuilds) ∧
  w0_20.cell? (a_b.add 1) = some (.int .u64 x8_Searches) ∧
  w0_20.cell? (a_b.add 2) = some (.int .u64 x8_Builds) ∧
  w0_20.cell? (a_b.add 3) = some (.int .u64 x8_Hits) ∧
  w0_20.cell? (a_b.add 4) = some (.int .u64 x8_Stale) ∧
  w0_20.cell? (a_b.add 5) = some (.int .u64 x8_Evicts) ∧
  Al T 33 w0_20 fun x_1 w0_21 =>
  w0_21.cell? (b_b.add 0) = some (.int .u64 x10_Rebuilds) ∧
  w0_21.cell? (b_b.add 1) = some (.int .u64 x10_Searches) ∧
  w0_21.cell? (b_b.add 2) = some (.int .u64 x10_Builds) ∧
  w0_21.cell? (b_b.add 3) = some (.int .u64 x10_Hits) ∧
  w0_21.cell? (b_b.add 4) = some (.int .u64 x10_Stale) ∧
  w0_21.cell? (b_b.add 5) = some (.int .u64 x10_Evicts) ∧
  w0_21.cell? (a_b.add 0) = some (.int .u64 x8_Rebuilds) ∧
  w0_21.cell? (a_b.add 1) = some (.int .u64 x8_Searches) ∧
  w0_21.cell? (a_b.add 2) = some (.int .u64 x8_Builds) ∧
  w0_21.cell? (a_b.add 3) = some (.int .u64 x8_Hits) ∧
  w0_21.cell? (a_b.add 4) = some (.int .u64 x8_Stale) ∧
  w0_21.cell? (a_b.add 5) = some (.int .u64 x8_Evicts) ∧
  St (x_1.add 0) (.int .u64 r9_0) w0_21 fun w0_22 =>
  St (x_1.add 1) (.int .u64 r9_1) w0_22 fun w0_23 =>
  St (x_1.add 2) (.int .u64 r9_2) w0_23 fun w0_24 =>
  St (x_1.add 3) (.int .u64 r9_3) w0_24 fun w0_25 =>
  St (x_1.add 4) (.int .u64 r9_4) w0_25 fun w0_26 =>
  St (x_1.add 5) (.int .u64 r9_5) w0_26 fun w0_27 =>
  St (y_1.add 0) (.int .u64 r11_0) w0_27 fun w0_28 =>
  St (y_1.add 1) (.int .u64 r11_1) w0_28 fun w0_29 =>
  St (y_1.add 2) (.int .u64 r11_2) w0_29 fun w0_30 =>
  St (y_1.add 3) (.int .u64 r11_3) w0_30 fun w0_31 =>
  St (y_1.add 4) (.int .u64 r11_4) w0_31 fun w0_32 =>
  St (y_1.add 5) (.int .u64 r11_5) w0_32 fun w0_33 =>
  tally_Sum.b2 Q p4 x_1 y_1 w0_33)) ∧
  ((Al T 33 w0_4 fun x_2 w0_34 =>
  w0_34.cell? (b_b.add 0) = some (.int .u64 x10_Rebuilds) ∧
  w0_34.cell? (b_b.add 1) = some (.int .u64 x10_Searches) ∧
  w0_34.cell? (b_b.add 2) = some (.int .u64 x10_Builds) ∧
  w0_34.cell? (b_b.add 3) = some (.int .u64 x10_Hits) ∧
  w0_34.cell? (b_b.add 4) = some (.int .u64 x10_Stale) ∧
  w0_34.cell? (b_b.add 5) = some (.int .u64 x10_Evicts) ∧
  w0_34.cell? (a_b.add 0) = some (.int .u64 x8_Rebuilds) ∧
  w0_34.cell? (a_b.add 1) = some (.int .u64 x8_Searches) ∧
  w0_34.cell? (a_b.add 2) = some (.int .u64 x8_Builds) ∧
  w0_34.cell? (a_b.add 3) = some (.int .u64 x8_Hits) ∧
  w0_34.cell? (a_b.add 4) = some (.int .u64 x8_Stale) ∧
  w0_34.cell? (a_b.add 5) = some (.int .u64 x8_Evicts) ∧
  (tally_counts.call x10_Rebuilds x10_Searches x10_Builds x10_Hits x10_Stale x10_Evicts w0_34 fun r11_0_1 r11_1_1 r11_2_1 r11_3_1 r11_4_1 r11_5_1 w0_35 =>
  Al T 33 w0_35 fun y_2 w0_36 =>
  w0_36.cell? (b_b.add 0) = some (.int .u64 x10_Rebuilds) ∧
  w0_36.cell? (b_b.add 1) = some (.int .u64 x10_Searches) ∧
  w0_36.cell? (b_b.add 2) = some (.int .u64 x10_Builds) ∧
  w0_36.cell? (b_b.add 3) = some (.int .u64 x10_Hits) ∧
  w0_36.cell? (b_b.add 4) = some (.int .u64 x10_Stale) ∧
  w0_36.cell? (b_b.add 5) = some (.int .u64 x10_Evicts) ∧
  w0_36.cell? (a_b.add 0) = some (.int .u64 x8_Rebuilds) ∧
  w0_36.cell? (a_b.add 1) = some (.int .u64 x8_Searches) ∧
  w0_36.cell? (a_b.add 2) = some (.int .u64 x8_Builds) ∧
  w0_36.cell? (a_b.add 3) = some (.int .u64 x8_Hits) ∧
  w0_36.cell? (a_b.add 4) = some (.int .u64 x8_Stale) ∧
  w0_36.cell? (a_b.add 5) = some (.int .u64 x8_Evicts) ∧
  St (x_2.add 0) (.int .u64 r9_0) w0_36 fun w0_37 =>
  St (x_2.add 1) (.int .u64 r9_1) w0_37 fun w0_38 =>
  St (x_2.add 2) (.int .u64 r9_2) w0_38 fun w0_39 =>
  St (x_2.add 3) (.int .u64 r9_3) w0_39 fun w0_40 =>
  St (x_2.add 4) (.int .u64 r9_4) w0_40 fun w0_41 =>
  St (x_2.add 5) (.int .u64 r9_5) w0_41 fun w0_42 =>
  St (y_2.add 0) (.int .u64 r11_0_1) w0_42 fun w0_43 =>
  St (y_2.add 1) (.int .u64 r11_1_1) w0_43 fun w0_44 =>
  St (y_2.add 2) (.int .u64 r11_2_1) w0_44 fun w0_45 =>
  St (y_2.add 3) (.int .u64 r11_3_1) w0_45 fun w0_46 =>
  St (y_2.add 4) (.int .u64 r11_4_1) w0_46 fun w0_47 =>
  St (y_2.add 5) (.int .u64 r11_5_1) w0_47 fun w0_48 =>
  tally_Sum.b2 Q p4 x_2 y_2 w0_48) ∧
  (Al T 33 w0_34 fun y_3 w0_49 =>
  w0_49.cell? (b_b.add 0) = some (.int .u64 x10_Rebuilds) ∧
  w0_49.cell? (b_b.add 1) = some (.int .u64 x10_Searches) ∧
  w0_49.cell? (b_b.add 2) = some (.int .u64 x10_Builds) ∧
  w0_49.cell? (b_b.add 3) = some (.int .u64 x10_Hits) ∧
  w0_49.cell? (b_b.add 4) = some (.int .u64 x10_Stale) ∧
  w0_49.cell? (b_b.add 5) = some (.int .u64 x10_Evicts) ∧
  w0_49.cell? (a_b.add 0) = some (.int .u64 x8_Rebuilds) ∧
  w0_49.cell? (a_b.add 1) = some (.int .u64 x8_Searches) ∧
  w0_49.cell? (a_b.add 2) = some (.int .u64 x8_Builds) ∧
  w0_49.cell? (a_b.add 3) = some (.int .u64 x8_Hits) ∧
  w0_49.cell? (a_b.add 4) = some (.int .u64 x8_Stale) ∧
  w0_49.cell? (a_b.add 5) = some (.int .u64 x8_Evicts) ∧
  tally_counts.call x10_Rebuilds x10_Searches x10_Builds x10_Hits x10_Stale x10_Evicts w0_49 fun r11_0_2 r11_1_2 r11_2_2 r11_3_2 r11_4_2 r11_5_2 w0_50 =>
  St (x_2.add 0) (.int .u64 r9_0) w0_50 fun w0_51 =>
  St (x_2.add 1) (.int .u64 r9_1) w0_51 fun w0_52 =>
  St (x_2.add 2) (.int .u64 r9_2) w0_52 fun w0_53 =>
  St (x_2.add 3) (.int .u64 r9_3) w0_53 fun w0_54 =>
  St (x_2.add 4) (.int .u64 r9_4) w0_54 fun w0_55 =>
  St (x_2.add 5) (.int .u64 r9_5) w0_55 fun w0_56 =>
  St (y_3.add 0) (.int .u64 r11_0_2) w0_56 fun w0_57 =>
  St (y_3.add 1) (.int .u64 r11_1_2) w0_57 fun w0_58 =>
  St (y_3.add 2) (.int .u64 r11_2_2) w0_58 fun w0_59 =>
  St (y_3.add 3) (.int .u64 r11_3_2) w0_59 fun w0_60 =>
  St (y_3.add 4) (.int .u64 r11_4_2) w0_60 fun w0_61 =>
  St (y_3.add 5) (.int .u64 r11_5_2) w0_61 fun w0_62 =>
  tally_Sum.b2 Q p4 x_2 y_3 w0_62)) ∧
  (Al T 33 w0_4 fun y_4 w0_63 =>
  w0_63.cell? (b_b.add 0) = some (.int .u64 x10_Rebuilds) ∧
  w0_63.cell? (b_b.add 1) = some (.int .u64 x10_Searches) ∧
  w0_63.cell? (b_b.add 2) = some (.int .u64 x10_Builds) ∧
  w0_63.cell? (b_b.add 3) = some (.int .u64 x10_Hits) ∧
  w0_63.cell? (b_b.add 4) = some (.int .u64 x10_Stale) ∧
  w0_63.cell? (b_b.add 5) = some (.int .u64 x10_Evicts) ∧
  w0_63.cell? (a_b.add 0) = some (.int .u64 x8_Rebuilds) ∧
  w0_63.cell? (a_b.add 1) = some (.int .u64 x8_Searches) ∧
  w0_63.cell? (a_b.add 2) = some (.int .u64 x8_Builds) ∧
  w0_63.cell? (a_b.add 3) = some (.int .u64 x8_Hits) ∧
  w0_63.cell? (a_b.add 4) = some (.int .u64 x8_Stale) ∧
  w0_63.cell? (a_b.add 5) = some (.int .u64 x8_Evicts) ∧
  (tally_counts.call x10_Rebuilds x10_Searches x10_Builds x10_Hits x10_Stale x10_Evicts w0_63 fun r11_0_3 r11_1_3 r11_2_3 r11_3_3 r11_4_3 r11_5_3 w0_64 =>
  Al T 33 w0_64 fun x_3 w0_65 =>
  w0_65.cell? (b_b.add 0) = some (.int .u64 x10_Rebuilds) ∧
  w0_65.cell? (b_b.add 1) = some (.int .u64 x10_Searches) ∧
  w0_65.cell? (b_b.add 2) = some (.int .u64 x10_Builds) ∧
  w0_65.cell? (b_b.add 3) = some (.int .u64 x10_Hits) ∧
  w0_65.cell? (b_b.add 4) = some (.int .u64 x10_Stale) ∧
  w0_65.cell? (b_b.add 5) = some (.int .u64 x10_Evicts) ∧
  w0_65.cell? (a_b.add 0) = some (.int .u64 x8_Rebuilds) ∧
  w0_65.cell? (a_b.add 1) = some (.int .u64 x8_Searches) ∧
  w0_65.cell? (a_b.add 2) = some (.int .u64 x8_Builds) ∧
  w0_65.cell? (a_b.add 3) = some (.int .u64 x8_Hits) ∧
  w0_65.cell? (a_b.add 4) = some (.int .u64 x8_Stale) ∧
  w0_65.cell? (a_b.add 5) = some (.int .u64 x8_Evicts) ∧
  St (x_3.add 0) (.int .u64 r9_0) w0_65 fun w0_66 =>
  St (x_3.add 1) (.int .u64 r9_1) w0_66 fun w0_67 =>
  St (x_3.add 2) (.int .u64 r9_2) w0_67 fun w0_68 =>
  St (x_3.add 3) (.int .u64 r9_3) w0_68 fun w0_69 =>
  St (x_3.add 4) (.int .u64 r9_4) w0_69 fun w0_70 =>
  St (x_3.add 5) (.int .u64 r9_5) w0_70 fun w0_71 =>
  St (y_4.add 0) (.int .u64 r11_0_3) w0_71 fun w0_72 =>
  St (y_4.add 1) (.int .u64 r11_1_3) w0_72 fun w0_73 =>
  St (y_4.add 2) (.int .u64 r11_2_3) w0_73 fun w0_74 =>
  St (y_4.add 3) (.int .u64 r11_3_3) w0_74 fun w0_75 =>
  St (y_4.add 4) (.int .u64 r11_4_3) w0_75 fun w0_76 =>
  St (y_4.add 5) (.int .u64 r11_5_3) w0_76 fun w0_77 =>
  tally_Sum.b2 Q p4 x_3 y_4 w0_77) ∧
  (Al T 33 w0_63 fun x_4 w0_78 =>
  w0_78.cell? (b_b.add 0) = some (.int .u64 x10_Rebuilds) ∧
  w0_78.cell? (b_b.add 1) = some (.int .u64 x10_Searches) ∧
  w0_78.cell? (b_b.add 2) = some (.int .u64 x10_Builds) ∧
  w0_78.cell? (b_b.add 3) = some (.int .u64 x10_Hits) ∧
  w0_78.cell? (b_b.add 4) = some (.int .u64 x10_Stale) ∧
  w0_78.cell? (b_b.add 5) = some (.int .u64 x10_Evicts) ∧
  w0_78.cell? (a_b.add 0) = some (.int .u64 x8_Rebuilds) ∧
  w0_78.cell? (a_b.add 1) = some (.int .u64 x8_Searches) ∧
  w0_78.cell? (a_b.add 2) = some (.int .u64 x8_Builds) ∧
  w0_78.cell? (a_b.add 3) = some (.int .u64 x8_Hits) ∧
  w0_78.cell? (a_b.add 4) = some (.int .u64 x8_Stale) ∧
  w0_78.cell? (a_b.add 5) = some (.int .u64 x8_Evicts) ∧
  tally_counts.call x10_Rebuilds x10_Searches x10_Builds x10_Hits x10_Stale x10_Evicts w0_78 fun r11_0_4 r11_1_4 r11_2_4 r11_3_4 r11_4_4 r11_5_4 w0_79 =>
  St (x_4.add 0) (.int .u64 r9_0) w0_79 fun w0_80 =>
  St (x_4.add 1) (.int .u64 r9_1) w0_80 fun w0_81 =>
  St (x_4.add 2) (.int .u64 r9_2) w0_81 fun w0_82 =>
  St (x_4.add 3) (.int .u64 r9_3) w0_82 fun w0_83 =>
  St (x_4.add 4) (.int .u64 r9_4) w0_83 fun w0_84 =>
  St (x_4.add 5) (.int .u64 r9_5) w0_84 fun w0_85 =>
  St (y_4.add 0) (.int .u64 r11_0_4) w0_85 fun w0_86 =>
  St (y_4.add 1) (.int .u64 r11_1_4) w0_86 fun w0_87 =>
  St (y_4.add 2) (.int .u64 r11_2_4) w0_87 fun w0_88 =>
  St (y_4.add 3) (.int .u64 r11_3_4) w0_88 fun w0_89 =>
  St (y_4.add 4) (.int .u64 r11_4_4) w0_89 fun w0_90 =>
  St (y_4.add 5) (.int .u64 r11_5_4) w0_90 fun w0_91 =>
  tally_Sum.b2 Q p4 x_4 y_4 w0_91)))) ∧
  ((Al T 33 w0_3.drew fun x_5 w0_92 =>
  w0_92.cell? (b_b.add 0) = some (.int .u64 x10_Rebuilds) ∧
  w0_92.cell? (b_b.add 1) = some (.int .u64 x10_Searches) ∧
  w0_92.cell? (b_b.add 2) = some (.int .u64 x10_Builds) ∧
  w0_92.cell? (b_b.add 3) = some (.int .u64 x10_Hits) ∧
  w0_92.cell? (b_b.add 4) = some (.int .u64 x10_Stale) ∧
  w0_92.cell? (b_b.add 5) = some (.int .u64 x10_Evicts) ∧
  w0_92.cell? (a_b.add 0) = some (.int .u64 x8_Rebuilds) ∧
  w0_92.cell? (a_b.add 1) = some (.int .u64 x8_Searches) ∧
  w0_92.cell? (a_b.add 2) = some (.int .u64 x8_Builds) ∧
  w0_92.cell? (a_b.add 3) = some (.int .u64 x8_Hits) ∧
  w0_92.cell? (a_b.add 4) = some (.int .u64 x8_Stale) ∧
  w0_92.cell? (a_b.add 5) = some (.int .u64 x8_Evicts) ∧
  (tally_counts.call x8_Rebuilds x8_Searches x8_Builds x8_Hits x8_Stale x8_Evicts w0_92 fun r9_0_1 r9_1_1 r9_2_1 r9_3_1 r9_4_1 r9_5_1 w0_93 =>
  w0_93.cell? (b_b.add 0) = some (.int .u64 x10_Rebuilds) ∧
  w0_93.cell? (b_b.add 1) = some (.int .u64 x10_Searches) ∧
  w0_93.cell? (b_b.add 2) = some (.int .u64 x10_Builds) ∧
  w0_93.cell? (b_b.add 3) = some (.int .u64 x10_Hits) ∧
  w0_93.cell? (b_b.add 4) = some (.int .u64 x10_Stale) ∧
  w0_93.cell? (b_b.add 5) = some (.int .u64 x10_Evicts) ∧
  (tally_counts.call x10_Rebuilds x10_Searches x10_Builds x10_Hits x10_Stale x10_Evicts w0_93 fun r11_0_5 r11_1_5 r11_2_5 r11_3_5 r11_4_5 r11_5_5 w0_94 =>
  Al T 33 w0_94 fun y_5 w0_95 =>
  w0_95.cell? (b_b.add 0) = some (.int .u64 x10_Rebuilds) ∧
  w0_95.cell? (b_b.add 1) = some (.int .u64 x10_Searches) ∧
  w0_95.cell? (b_b.add 2) = some (.int .u64 x10_Builds) ∧
  w0_95.cell? (b_b.add 3) = some (.int .u64 x10_Hits) ∧
  w0_95.cell? (b_b.add 4) = some (.int .u64 x10_Stale) ∧
  w0_95.cell? (b_b.add 5) = some (.int .u64 x10_Evicts) ∧
  w0_95.cell? (a_b.add 0) = some (.int .u64 x8_Rebuilds) ∧
  w0_95.cell? (a_b.add 1) = some (.int .u64 x8_Searches) ∧
  w0_95.cell? (a_b.add 2) = some (.int .u64 x8_Builds) ∧
  w0_95.cell? (a_b.add 3) = some (.int .u64 x8_Hits) ∧
  w0_95.cell? (a_b.add 4) = some (.int .u64 x8_Stale) ∧
  w0_95.cell? (a_b.add 5) = some (.int .u64 x8_Evicts) ∧
  St (x_5.add 0) (.int .u64 r9_0_1) w0_95 fun w0_96 =>
  St (x_5.add 1) (.int .u64 r9_1_1) w0_96 fun w0_97 =>
  St (x_5.add 2) (.int .u64 r9_2_1) w0_97 fun w0_98 =>
  St (x_5.add 3) (.int .u64 r9_3_1) w0_98 fun w0_99 =>
  St (x_5.add 4) (.int .u64 r9_4_1) w0_99 fun w0_100 =>
  St (x_5.add 5) (.int .u64 r9_5_1) w0_100 fun w0_101 =>
  St (y_5.add 0) (.int .u64 r11_0_5) w0_101 fun w0_102 =>
  St (y_5.add 1) (.int .u64 r11_1_5) w0_102 fun w0_103 =>
  St (y_5.add 2) (.int .u64 r11_2_5) w0_103 fun w0_104 =>
  St (y_5.add 3) (.int .u64 r11_3_5) w0_104 fun w0_105 =>
  St (y_5.add 4) (.int .u64 r11_4_5) w0_105 fun w0_106 =>
  St (y_5.add 5) (.int .u64 r11_5_5) w0_106 fun w0_107 =>
  tally_Sum.b2 Q p4 x_5 y_5 w0_107) ∧
  (Al T 33 w0_93 fun y_6 w0_108 =>
  w0_108.cell? (b_b.add 0) = some (.int .u64 x10_Rebuilds) ∧
  w0_108.cell? (b_b.add 1) = some (.int .u64 x10_Searches) ∧
  w0_108.cell? (b_b.add 2) = some (.int .u64 x10_Builds) ∧
  w0_108.cell? (b_b.add 3) = some (.int .u64 x10_Hits) ∧
  w0_108.cell? (b_b.add 4) = some (.int .u64 x10_Stale) ∧
  w0_108.cell? (b_b.add 5) = some (.int .u64 x10_Evicts) ∧
  w0_108.cell? (a_b.add 0) = some (.int .u64 x8_Rebuilds) ∧
  w0_108.cell? (a_b.add 1) = some (.int .u64 x8_Searches) ∧
  w0_108.cell? (a_b.add 2) = some (.int .u64 x8_Builds) ∧
  w0_108.cell? (a_b.add 3) = some (.int .u64 x8_Hits) ∧
  w0_108.cell? (a_b.add 4) = some (.int .u64 x8_Stale) ∧
  w0_108.cell? (a_b.add 5) = some (.int .u64 x8_Evicts) ∧
  tally_counts.call x10_Rebuilds x10_Searches x10_Builds x10_Hits x10_Stale x10_Evicts w0_108 fun r11_0_6 r11_1_6 r11_2_6 r11_3_6 r11_4_6 r11_5_6 w0_109 =>
  St (x_5.add 0) (.int .u64 r9_0_1) w0_109 fun w0_110 =>
  St (x_5.add 1) (.int .u64 r9_1_1) w0_110 fun w0_111 =>
  St (x_5.add 2) (.int .u64 r9_2_1) w0_111 fun w0_112 =>
  St (x_5.add 3) (.int .u64 r9_3_1) w0_112 fun w0_113 =>
  St (x_5.add 4) (.int .u64 r9_4_1) w0_113 fun w0_114 =>
  St (x_5.add 5) (.int .u64 r9_5_1) w0_114 fun w0_115 =>
  St (y_6.add 0) (.int .u64 r11_0_6) w0_115 fun w0_116 =>
  St (y_6.add 1) (.int .u64 r11_1_6) w0_116 fun w0_117 =>
  St (y_6.add 2) (.int .u64 r11_2_6) w0_117 fun w0_118 =>
  St (y_6.add 3) (.int .u64 r11_3_6) w0_118 fun w0_119 =>
  St (y_6.add 4) (.int .u64 r11_4_6) w0_119 fun w0_120 =>
  St (y_6.add 5) (.int .u64 r11_5_6) w0_120 fun w0_121 =>
  tally_Sum.b2 Q p4 x_5 y_6 w0_121)) ∧
  (Al T 33 w0_92 fun y_7 w0_122 =>
  w0_122.cell? (b_b.add 0) = some (.int .u64 x10_Rebuilds) ∧
  w0_122.cell? (b_b.add 1) = some (.int .u64 x10_Searches) ∧
  w0_122.cell? (b_b.add 2) = some (.int .u64 x10_Builds) ∧
  w0_122.cell? (b_b.add 3) = some (.int .u64 x10_Hits) ∧
  w0_122.cell? (b_b.add 4) = some (.int .u64 x10_Stale) ∧
  w0_122.cell? (b_b.add 5) = some (.int .u64 x10_Evicts) ∧
  w0_122.cell? (a_b.add 0) = some (.int .u64 x8_Rebuilds) ∧
  w0_122.cell? (a_b.add 1) = some (.int .u64 x8_Searches) ∧
  w0_122.cell? (a_b.add 2) = some (.int .u64 x8_Builds) ∧
  w0_122.cell? (a_b.add 3) = some (.int .u64 x8_Hits) ∧
  w0_122.cell? (a_b.add 4) = some (.int .u64 x8_Stale) ∧
  w0_122.cell? (a_b.add 5) = some (.int .u64 x8_Evicts) ∧
  tally_counts.call x8_Rebuilds x8_Searches x8_Builds x8_Hits x8_Stale x8_Evicts w0_122 fun r9_0_2 r9_1_2 r9_2_2 r9_3_2 r9_4_2 r9_5_2 w0_123 =>
  w0_123.cell? (b_b.add 0) = some (.int .u64 x10_Rebuilds) ∧
  w0_123.cell? (b_b.add 1) = some (.int .u64 x10_Searches) ∧
  w0_123.cell? (b_b.add 2) = some (.int .u64 x10_Builds) ∧
  w0_123.cell? (b_b.add 3) = some (.int .u64 x10_Hits) ∧
  w0_123.cell? (b_b.add 4) = some (.int .u64 x10_Stale) ∧
  w0_123.cell? (b_b.add 5) = some (.int .u64 x10_Evicts) ∧
  tally_counts.call x10_Rebuilds x10_Searches x10_Builds x10_Hits x10_Stale x10_Evicts w0_123 fun r11_0_7 r11_1_7 r11_2_7 r11_3_7 r11_4_7 r11_5_7 w0_124 =>
  St (x_5.add 0) (.int .u64 r9_0_2) w0_124 fun w0_125 =>
  St (x_5.add 1) (.int .u64 r9_1_2) w0_125 fun w0_126 =>
  St (x_5.add 2) (.int .u64 r9_2_2) w0_126 fun w0_127 =>
  St (x_5.add 3) (.int .u64 r9_3_2) w0_127 fun w0_128 =>
  St (x_5.add 4) (.int .u64 r9_4_2) w0_128 fun w0_129 =>
  St (x_5.add 5) (.int .u64 r9_5_2) w0_129 fun w0_130 =>
  St (y_7.add 0) (.int .u64 r11_0_7) w0_130 fun w0_131 =>
  St (y_7.add 1) (.int .u64 r11_1_7) w0_131 fun w0_132 =>
  St (y_7.add 2) (.int .u64 r11_2_7) w0_132 fun w0_133 =>
  St (y_7.add 3) (.int .u64 r11_3_7) w0_133 fun w0_134 =>
  St (y_7.add 4) (.int .u64 r11_4_7) w0_134 fun w0_135 =>
  St (y_7.add 5) (.int .u64 r11_5_7) w0_135 fun w0_136 =>
  tally_Sum.b2 Q p4 x_5 y_7 w0_136)) ∧
  (Al T 33 w0_3.drew fun y_8 w0_137 =>
  w0_137.cell? (b_b.add 0) = some (.int .u64 x10_Rebuilds) ∧
  w0_137.cell? (b_b.add 1) = some (.int .u64 x10_Searches) ∧
  w0_137.cell? (b_b.add 2) = some (.int .u64 x10_Builds) ∧
  w0_137.cell? (b_b.add 3) = some (.int .u64 x10_Hits) ∧
  w0_137.cell? (b_b.add 4) = some (.int .u64 x10_Stale) ∧
  w0_137.cell? (b_b.add 5) = some (.int .u64 x10_Evicts) ∧
  w0_137.cell? (a_b.add 0) = some (.int .u64 x8_Rebuilds) ∧
  w0_137.cell? (a_b.add 1) = some (.int .u64 x8_Searches) ∧
  w0_137.cell? (a_b.add 2) = some (.int .u64 x8_Builds) ∧
  w0_137.cell? (a_b.add 3) = some (.int .u64 x8_Hits) ∧
  w0_137.cell? (a_b.add 4) = some (.int .u64 x8_Stale) ∧
  w0_137.cell? (a_b.add 5) = some (.int .u64 x8_Evicts) ∧
  (tally_counts.call x8_Rebuilds x8_Searches x8_Builds x8_Hits x8_Stale x8_Evicts w0_137 fun r9_0_3 r9_1_3 r9_2_3 r9_3_3 r9_4_3 r9_5_3 w0_138 =>
  w0_138.cell? (b_b.add 0) = some (.int .u64 x10_Rebuilds) ∧
  w0_138.cell? (b_b.add 1) = some (.int .u64 x10_Searches) ∧
  w0_138.cell? (b_b.add 2) = some (.int .u64 x10_Builds) ∧
  w0_138.cell? (b_b.add 3) = some (.int .u64 x10_Hits) ∧
  w0_138.cell? (b_b.add 4) = some (.int .u64 x10_Stale) ∧
  w0_138.cell? (b_b.add 5) = some (.int .u64 x10_Evicts) ∧
  (tally_counts.call x10_Rebuilds x10_Searches x10_Builds x10_Hits x10_Stale x10_Evicts w0_138 fun r11_0_8 r11_1_8 r11_2_8 r11_3_8 r11_4_8 r11_5_8 w0_139 =>
  Al T 33 w0_139 fun x_6 w0_140 =>
  w0_140.cell? (b_b.add 0) = some (.int .u64 x10_Rebuilds) ∧
  w0_140.cell? (b_b.add 1) = some (.int .u64 x10_Searches) ∧
  w0_140.cell? (b_b.add 2) = some (.int .u64 x10_Builds) ∧
  w0_140.cell? (b_b.add 3) = some (.int .u64 x10_Hits) ∧
  w0_140.cell? (b_b.add 4) = some (.int .u64 x10_Stale) ∧
  w0_140.cell? (b_b.add 5) = some (.int .u64 x10_Evicts) ∧
  w0_140.cell? (a_b.add 0) = some (.int .u64 x8_Rebuilds) ∧
  w0_140.cell? (a_b.add 1) = some (.int .u64 x8_Searches) ∧
  w0_140.cell? (a_b.add 2) = some (.int .u64 x8_Builds) ∧
  w0_140.cell? (a_b.add 3) = some (.int .u64 x8_Hits) ∧
  w0_140.cell? (a_b.add 4) = some (.int .u64 x8_Stale) ∧
  w0_140.cell? (a_b.add 5) = some (.int .u64 x8_Evicts) ∧
  St (x_6.add 0) (.int .u64 r9_0_3) w0_140 fun w0_141 =>
  St (x_6.add 1) (.int .u64 r9_1_3) w0_141 fun w0_142 =>
  St (x_6.add 2) (.int .u64 r9_2_3) w0_142 fun w0_143 =>
  St (x_6.add 3) (.int .u64 r9_3_3) w0_143 fun w0_144 =>
  St (x_6.add 4) (.int .u64 r9_4_3) w0_144 fun w0_145 =>
  St (x_6.add 5) (.int .u64 r9_5_3) w0_145 fun w0_146 =>
  St (y_8.add 0) (.int .u64 r11_0_8) w0_146 fun w0_147 =>
  St (y_8.add 1) (.int .u64 r11_1_8) w0_147 fun w0_148 =>
  St (y_8.add 2) (.int .u64 r11_2_8) w0_148 fun w0_149 =>
  St (y_8.add 3) (.int .u64 r11_3_8) w0_149 fun w0_150 =>
  St (y_8.add 4) (.int .u64 r11_4_8) w0_150 fun w0_151 =>
  St (y_8.add 5) (.int .u64 r11_5_8) w0_151 fun w0_152 =>
  tally_Sum.b2 Q p4 x_6 y_8 w0_152) ∧
  (Al T 33 w0_138 fun x_7 w0_153 =>
  w0_153.cell? (b_b.add 0) = some (.int .u64 x10_Rebuilds) ∧
  w0_153.cell? (b_b.add 1) = some (.int .u64 x10_Searches) ∧
  w0_153.cell? (b_b.add 2) = some (.int .u64 x10_Builds) ∧
  w0_153.cell? (b_b.add 3) = some (.int .u64 x10_Hits) ∧
  w0_153.cell? (b_b.add 4) = some (.int .u64 x10_Stale) ∧
  w0_153.cell? (b_b.add 5) = some (.int .u64 x10_Evicts) ∧
  w0_153.cell? (a_b.add 0) = some (.int .u64 x8_Rebuilds) ∧
  w0_153.cell? (a_b.add 1) = some (.int .u64 x8_Searches) ∧
  w0_153.cell? (a_b.add 2) = some (.int .u64 x8_Builds) ∧
  w0_153.cell? (a_b.add 3) = some (.int .u64 x8_Hits) ∧
  w0_153.cell? (a_b.add 4) = some (.int .u64 x8_Stale) ∧
  w0_153.cell? (a_b.add 5) = some (.int .u64 x8_Evicts) ∧
  tally_counts.call x10_Rebuilds x10_Searches x10_Builds x10_Hits x10_Stale x10_Evicts w0_153 fun r11_0_9 r11_1_9 r11_2_9 r11_3_9 r11_4_9 r11_5_9 w0_154 =>
  St (x_7.add 0) (.int .u64 r9_0_3) w0_154 fun w0_155 =>
  St (x_7.add 1) (.int .u64 r9_1_3) w0_155 fun w0_156 =>
  St (x_7.add 2) (.int .u64 r9_2_3) w0_156 fun w0_157 =>
  St (x_7.add 3) (.int .u64 r9_3_3) w0_157 fun w0_158 =>
  St (x_7.add 4) (.int .u64 r9_4_3) w0_158 fun w0_159 =>
  St (x_7.add 5) (.int .u64 r9_5_3) w0_159 fun w0_160 =>
  St (y_8.add 0) (.int .u64 r11_0_9) w0_160 fun w0_161 =>
  St (y_8.add 1) (.int .u64 r11_1_9) w0_161 fun w0_162 =>
  St (y_8.add 2) (.int .u64 r11_2_9) w0_162 fun w0_163 =>
  St (y_8.add 3) (.int .u64 r11_3_9) w0_163 fun w0_164 =>
  St (y_8.add 4) (.int .u64 r11_4_9) w0_164 fun w0_165 =>
  St (y_8.add 5) (.int .u64 r11_5_9) w0_165 fun w0_166 =>
  tally_Sum.b2 Q p4 x_7 y_8 w0_166)) ∧
  (Al T 33 w0_137 fun x_8 w0_167 =>
  w0_167.cell? (b_b.add 0) = some (.int .u64 x10_Rebuilds) ∧
  w0_167.cell? (b_b.add 1) = some (.int .u64 x10_Searches) ∧
  w0_167.cell? (b_b.add 2) = some (.int .u64 x10_Builds) ∧
  w0_167.cell? (b_b.add 3) = some (.int .u64 x10_Hits) ∧
  w0_167.cell? (b_b.add 4) = some (.int .u64 x10_Stale) ∧
  w0_167.cell? (b_b.add 5) = some (.int .u64 x10_Evicts) ∧
  w0_167.cell? (a_b.add 0) = some (.int .u64 x8_Rebuilds) ∧
  w0_167.cell? (a_b.add 1) = some (.int .u64 x8_Searches) ∧
  w0_167.cell? (a_b.add 2) = some (.int .u64 x8_Builds) ∧
  w0_167.cell? (a_b.add 3) = some (.int .u64 x8_Hits) ∧
  w0_167.cell? (a_b.add 4) = some (.int .u64 x8_Stale) ∧
  w0_167.cell? (a_b.add 5) = some (.int .u64 x8_Evicts) ∧
  tally_counts.call x8_Rebuilds x8_Searches x8_Builds x8_Hits x8_Stale x8_Evicts w0_167 fun r9_0_4 r9_1_4 r9_2_4 r9_3_4 r9_4_4 r9_5_4 w0_168 =>
  w0_168.cell? (b_b.add 0) = some (.int .u64 x10_Rebuilds) ∧
  w0_168.cell? (b_b.add 1) = some (.int .u64 x10_Searches) ∧
  w0_168.cell? (b_b.add 2) = some (.int .u64 x10_Builds) ∧
  w0_168.cell? (b_b.add 3) = some (.int .u64 x10_Hits) ∧
  w0_168.cell? (b_b.add 4) = some (.int .u64 x10_Stale) ∧
  w0_168.cell? (b_b.add 5) = some (.int .u64 x10_Evicts) ∧
  tally_counts.call x10_Rebuilds x10_Searches x10_Builds x10_Hits x10_Stale x10_Evicts w0_168 fun r11_0_10 r11_1_10 r11_2_10 r11_3_10 r11_4_10 r11_5_10 w0_169 =>
  St (x_8.add 0) (.int .u64 r9_0_4) w0_169 fun w0_170 =>
  St (x_8.add 1) (.int .u64 r9_1_4) w0_170 fun w0_171 =>
  St (x_8.add 2) (.int .u64 r9_2_4) w0_171 fun w0_172 =>
  St (x_8.add 3) (.int .u64 r9_3_4) w0_172 fun w0_173 =>
  St (x_8.add 4) (.int .u64 r9_4_4) w0_173 fun w0_174 =>
  St (x_8.add 5) (.int .u64 r9_5_4) w0_174 fun w0_175 =>
  St (y_8.add 0) (.int .u64 r11_0_10) w0_175 fun w0_176 =>
  St (y_8.add 1) (.int .u64 r11_1_10) w0_176 fun w0_177 =>
  St (y_8.add 2) (.int .u64 r11_2_10) w0_177 fun w0_178 =>
  St (y_8.add 3) (.int .u64 r11_3_10) w0_178 fun w0_179 =>
  St (y_8.add 4) (.int .u64 r11_4_10) w0_179 fun w0_180 =>
  St (y_8.add 5) (.int .u64 r11_5_10) w0_180 fun w0_181 =>
  tally_Sum.b2 Q p4 x_8 y_8 w0_181)))
noncomputable def tally_Sum.scr : Scrs := [(1, .op 0 (.op 2 (.br (.op 1 (.br (.op 3 (.br (.op 4 (.op 5 (.op 6 (.op 7 .done)))) (.op 5 (.op 4 (.op 6 (.op 7 .done)))))) (.br (.op 4 (.br (.op 3 (.op 5 (.op 6 (.op 7 .done)))) (.op 5 (.op 3 (.op 6 (.op 7 .done)))))) (.op 5 (.br (.op 3 (.op 4 (.op 6 (.op 7 .done)))) (.op 4 (.op 3 (.op 6 (.op 7 .done))))))))) (.br (.op 4 (.br (.op 1 (.br (.op 3 (.op 5 (.op 6 (.op 7 .done)))) (.op 5 (.op 3 (.op 6 (.op 7 .done)))))) (.op 5 (.op 1 (.op 3 (.op 6 (.op 7 .done))))))) (.op 5 (.br (.op 1 (.br (.op 3 (.op 4 (.op 6 (.op 7 .done)))) (.op 4 (.op 3 (.op 6 (.op 7 .done)))))) (.op 4 (.op 1 (.op 3 (.op 6 (.op 7 .done))))))))))), (5, .op 0 (.op 1 (.op 2 (.op 3 (.op 4 (.op 5 (.op 6 (.op 7 (.op 8 (.op 9 .done))))))))))]
def tally_Sum.R (Q : Int → Int → Int → Int → Int → Int → World → Prop) (ρ : Env) (w : World) : Prop := evRes (cx 38) Go.Proofs.Try.f12.results.toList ρ w fun vs => tally_Sum.qv Q (resV vs) w
def tally_Sum.d2 (K : Addr → Addr → Addr → Prop) (ρ : Env) : Prop :=
  dP (ρ 4) fun t4_p => wA t4_p fun t4 => dP (ρ 5) fun x_p => wA x_p fun x => dP (ρ 6) fun y_p => wA y_p fun y => K t4 x y
theorem tally_Sum.d2_elim {K : Addr → Addr → Addr → Prop} {ρ : Env} (h0 : tally_Sum.d2 K ρ) : ∃ (t4 : Addr) (x : Addr) (y : Addr), ρ 4 = .pointer (some t4) ∧ ρ 5 = .pointer (some x) ∧ ρ 6 = .pointer (some y) ∧ K t4 x y := by
  obtain ⟨t4_p, e4, h1⟩ := dP_elim h0
  obtain ⟨t4, rfl, h2⟩ := wA_elim h1
  obtain ⟨x_p, e5, h3⟩ := dP_elim h2
  obtain ⟨x, rfl, h4⟩ := wA_elim h3
  obtain ⟨y_p, e6, h5⟩ := dP_elim h4
  obtain ⟨y, rfl, h6⟩ := wA_elim h5
  exact ⟨t4, x, y, e4, e5, e6, h6⟩
def tally_Sum.d3 (K : Addr → Addr → Addr → Int → Prop) (ρ : Env) : Prop :=
  dP (ρ 4) fun t4_p => wA t4_p fun t4 => dP (ρ 5) fun x_p => wA x_p fun x => dP (ρ 6) fun y_p => wA y_p fun y => dI .i64 (ρ 12) fun t12 => K t4 x y t12
theorem tally_Sum.d3_elim {K : Addr → Addr → Addr → Int → Prop} {ρ : Env} (h0 : tally_Sum.d3 K ρ) : ∃ (t4 : Addr) (x : Addr) (y : Addr) (t12 : Int), ρ 4 = .pointer (some t4) ∧ ρ 5 = .pointer (some x) ∧ ρ 6 = .pointer (some y) ∧ ρ 12 = .int .i64 t12 ∧ K t4 x y t12 := by
  obtain ⟨t4_p, e4, h1⟩ := dP_elim h0
  obtain ⟨t4, rfl, h2⟩ := wA_elim h1
  obtain ⟨x_p, e5, h3⟩ := dP_elim h2
  obtain ⟨x, rfl, h4⟩ := wA_elim h3
  obtain ⟨y_p, e6, h5⟩ := dP_elim h4
  obtain ⟨y, rfl, h6⟩ := wA_elim h5
  obtain ⟨t12, e12, h7⟩ := dI_elim h6
  exact ⟨t4, x, y, t12, e4, e5, e6, e12, h7⟩
set_option maxRecDepth 100000 in
theorem tally_Sum.f3 (Q : Int → Int → Int → Int → Int → Int → World → Prop) : ∀ k t4 x y t12 w, tally_Sum.b3 Q k t4 x y t12 w → ∀ ρ : Env, ρ 4 = .pointer (some t4) → ρ 5 = .pointer (some x) → ρ 6 = .pointer (some y) → ρ 12 = .int .i64 t12 → Fin (cx 38) (todoOf Go.Proofs.Try.f12 3) ρ w (tally_Sum.R Q) := by
  intro k
  induction k with
  | zero => intro t4 x y t12 w h; exact h.elim
  | succ k ih =>
    intro t4 x y t12 w h ρ e4 e5 e6 e12
    have h : tally_Sum.s3 Q (tally_Sum.b3 Q k) t4 x y t12 w := h
    refine Fin.cut (ρ' := put (put (put (put (ρ) (some 4) (.pointer (some t4))) (some 5) (.pointer (some x))) (some 6) (.pointer (some y))) (some 12) (.int .i64 t12)) ?_ (by rw [put_id e4, put_id e5, put_id e6, put_id e12])
    refine evT_sound (ok 38) (drawD_sound (ok 38) tally_Sum.scr) 600 (L := [(3, fun ρ w => tally_Sum.d3 (fun t4 x y t12 => tally_Sum.b3 Q k t4 x y t12 w) ρ)]) (leaf_of (fn := Go.Proofs.Try.f12) [3] (by kernel_rfl) ⟨fun ρ w h => by obtain ⟨t4, x, y, t12, e4, e5, e6, e12, h⟩ := tally_Sum.d3_elim h; exact ih t4 x y t12 w h ρ e4 e5 e6 e12, trivial⟩) (castK h (by kernel_rfl))
set_option maxRecDepth 100000 in
theorem tally_Sum.f2 (Q : Int → Int → Int → Int → Int → Int → World → Prop) : ∀ t4 x y w, tally_Sum.b2 Q t4 x y w → ∀ ρ : Env, ρ 4 = .pointer (some t4) → ρ 5 = .pointer (some x) → ρ 6 = .pointer (some y) → Fin (cx 38) (todoOf Go.Proofs.Try.f12 2) ρ w (tally_Sum.R Q) := by
  intro t4 x y w h ρ e4 e5 e6
  refine Fin.cut (ρ' := put (put (put (ρ) (some 4) (.pointer (some t4))) (some 5) (.pointer (some x))) (some 6) (.pointer (some y))) ?_ (by rw [put_id e4, put_id e5, put_id e6])
  refine evT_sound (ok 38) (drawD_sound (ok 38) tally_Sum.scr) 600 (L := [(3, fun ρ w => tally_Sum.d3 (fun t4 x y t12 => ∃ k', tally_Sum.b3 Q k' t4 x y t12 w) ρ)]) (leaf_of (fn := Go.Proofs.Try.f12) [3] (by kernel_rfl) ⟨fun ρ w h => by obtain ⟨t4, x, y, t12, e4, e5, e6, e12, h⟩ := tally_Sum.d3_elim h; obtain ⟨k', h⟩ := h; exact tally_Sum.f3 Q k' t4 x y t12 w h ρ e4 e5 e6 e12, trivial⟩) (castK h (by kernel_rfl))
set_option maxRecDepth 100000 in
theorem tally_Sum.body (a_Rebuilds : Int) (a_Searches : Int) (a_Builds : Int) (a_Hits : Int) (a_Stale : Int) (a_Evicts : Int) (b_Rebuilds : Int) (b_Searches : Int) (b_Builds : Int) (b_Hits : Int) (b_Stale : Int) (b_Evicts : Int) (w : World) (Q : Int → Int → Int → Int → Int → Int → World → Prop) (h : tally_Sum.sh a_Rebuilds a_Searches a_Builds a_Hits a_Stale a_Evicts b_Rebuilds b_Searches b_Builds b_Hits b_Stale b_Evicts w Q) : tally_Sum.call a_Rebuilds a_Searches a_Builds a_Hits a_Stale a_Evicts b_Rebuilds b_Searches b_Builds b_Hits b_Stale b_Evicts w Q := by
  refine call_fn (ok 38) (fn := Go.Proofs.Try.f12) (args := [.agg #[.int .u64 a_Rebuilds, .int .u64 a_Searches, .int .u64 a_Builds, .int .u64 a_Hits, .int .u64 a_Stale, .int .u64 a_Evicts], .agg #[.int .u64 b_Rebuilds, .int .u64 b_Searches, .int .u64 b_Builds, .int .u64 b_Hits, .int .u64 b_Stale, .int .u64 b_Evicts]]) (K := tally_Sum.qv Q) Go.Proofs.Try.func12 (by kernel_rfl) (by kernel_rfl) (by kernel_rfl) ?_
  refine evT_sound (ok 38) (drawD_sound (ok 38) tally_Sum.scr) 600 (L := [(2, fun ρ w => tally_Sum.d2 (fun t4 x y => tally_Sum.b2 Q t4 x y w) ρ)]) (leaf_of (fn := Go.Proofs.Try.f12) [2] (by kernel_rfl) ⟨fun ρ w h => by obtain ⟨t4, x, y, e4, e5, e6, h⟩ := tally_Sum.d2_elim h; exact tally_Sum.f2 Q t4 x y w h ρ e4 e5 e6, trivial⟩) (castK h (by kernel_rfl))
end Go.Proofs.Ythelhikocaeecaa.S
