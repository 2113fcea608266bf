/- What the bodies ask, and that a call is no more. Printed by a program of this work (sxgen.py) out of the translation. -/
import Derived.Test.YtfkpabfamfeggaaXT
set_option linter.unusedVariables false
set_option linter.unusedSimpArgs false
namespace Go.Proofs.Ytfkpabfamfeggaa.S
open Go.Sx
/-! ### 6 herdsman/herdsmanlaw18.LruHuge -/
def herdsmanlaw18_LruHuge.b12 (P6 : Option Addr → Nat → Nat → Option Addr → Int → Int → World → Prop) (Q : Bool → World → Prop) (l_a : Option Addr) (l_n : Nat) (l_c : Nat) (x : Option Addr) (next : Int) (i : Int) (had : Bool) (w : World) : Prop :=
  cond (!had)
  (P6 l_a l_n l_c x (IntKind.wrap .i64 (next + 1)) (IntKind.wrap .i64 (i + 1)) w)
  (P6 l_a l_n l_c x next (IntKind.wrap .i64 (i + 1)) w)
def herdsmanlaw18_LruHuge.b14 (Q : Bool → World → Prop) (x : Option Addr) (next : Int) (w : World) : Prop :=
  herdsmanlaw18_told.call w fun r83 w0_1 =>
  cond r83
  (lru_Lru_Len.call x w0_1 fun r86 w0_2 =>
  Q (r86 == next) w0_2)
  (Q false w0_1)
def herdsmanlaw18_LruHuge.s6 (Q : Bool → World → Prop) (R6 : Option Addr → Nat → Nat → Option Addr → Int → Int → World → Prop) (l_a : Option Addr) (l_n : Nat) (l_c : Nat) (x : Option Addr) (next : Int) (i : Int) (w : World) : Prop :=
  cond (decide (i < (l_n : Int)))
  (cond (decide (i < 60))
  (InB i l_n <|
  wA l_a fun p =>
  InB 0 2 <|
  LdI .i64 ((p.add (i.toNat * 2)).add (((0 : Int).toNat) * 1)) w.drew fun x32 =>
  InB i l_n <|
  wA l_a fun p_1 =>
  InB 1 2 <|
  LdI .i64 ((p_1.add (i.toNat * 2)).add (((1 : Int).toNat) * 1)) w.drew fun x37 =>
  lru_Lru_Find.call x x32 x37 w.drew fun r38 w0_1 =>
  InB i l_n <|
  wA l_a fun p_2 =>
  InB 0 2 <|
  LdI .i64 ((p_2.add (i.toNat * 2)).add (((0 : Int).toNat) * 1)) w0_1.drew fun x45 =>
  InB i l_n <|
  wA l_a fun p_3 =>
  InB 1 2 <|
  LdI .i64 ((p_3.add (i.toNat * 2)).add (((1 : Int).toNat) * 1)) w0_1.drew fun x50 =>
  lru_Lru_Use.call x x45 x50 w0_1.drew fun r51_slot r51_had r51_out w0_2 =>
  cond r51_out
  (Q false w0_2)
  (cond (!(r51_had == (decide (r38 ≥ 0))))
  (Q false w0_2)
  (cond r51_had
  (cond (r51_slot != r38)
  (Q false w0_2)
  (cond (!r51_had)
  (cond (r51_slot != next)
  (Q false w0_2)
  (herdsmanlaw18_LruHuge.b12 R6 Q l_a l_n l_c x next i r51_had w0_2))
  (herdsmanlaw18_LruHuge.b12 R6 Q l_a l_n l_c x next i r51_had w0_2)))
  (cond (!r51_had)
  (cond (r51_slot != next)
  (Q false w0_2)
  (herdsmanlaw18_LruHuge.b12 R6 Q l_a l_n l_c x next i r51_had w0_2))
  (herdsmanlaw18_LruHuge.b12 R6 Q l_a l_n l_c x next i r51_had w0_2)))))
  (herdsmanlaw18_LruHuge.b14 Q x next w))
  (herdsmanlaw18_LruHuge.b14 Q x next w)
def herdsmanlaw18_LruHuge.b6 (Q : Bool → World → Prop) : Nat → Option Addr → Nat → Nat → Option Addr → Int → Int → World → Prop
  | 0, _, _, _, _, _, _, _ => False
  | k + 1, l_a, l_n, l_c, x, next, i, w => herdsmanlaw18_LruHuge.s6 Q (herdsmanlaw18_LruHuge.b6 Q k) l_a l_n l_c x next i w
def herdsmanlaw18_LruHuge.sh (k0 : Int) (l_a : Option Addr) (l_n : Nat) (l_c : Nat) (w : World) (Q : Bool → World → Prop) : Prop :=
  herdsmanref1_Within.call k0 201 4611686018427387904 w fun r13 w0_1 =>
  lru_New.call r13 w0_1 fun r14 w0_2 =>
  cond r14.isNone
  (Q false w0_2)
  (∃ k', herdsmanlaw18_LruHuge.b6 Q k' l_a l_n l_c r14 0 0 w0_2)
noncomputable def herdsmanlaw18_LruHuge.scr : Scrs := [(8, .op 0 (.op 1 (.op 2 (.op 3 (.op 4 (.op 5 (.op 6 (.op 7 (.op 8 (.op 9 (.op 10 (.op 11 (.op 12 .done))))))))))))), (9, .op 0 (.op 1 (.op 2 (.op 3 (.op 4 (.op 5 (.op 6 (.op 7 (.op 8 (.op 9 (.op 10 (.op 11 (.op 12 (.op 13 (.op 14 (.op 15 (.op 16 (.op 17 (.op 18 .done)))))))))))))))))))]
def herdsmanlaw18_LruHuge.R (Q : Bool → World → Prop) (ρ : Env) (w : World) : Prop := evRes (cx 90) Go.Proofs.Try.f6.results.toList ρ w fun vs => herdsmanlaw18_LruHuge.qv Q (resV vs) w
def herdsmanlaw18_LruHuge.d6 (K : Option Addr → Nat → Nat → Option Addr → Int → Int → Prop) (ρ : Env) : Prop :=
  dS (ρ 1) fun l_a l_n l_c => dP (ρ 5) fun x => dI .i64 (ρ 6) fun next => dI .i64 (ρ 7) fun i => K l_a l_n l_c x next i
theorem herdsmanlaw18_LruHuge.d6_elim {K : Option Addr → Nat → Nat → Option Addr → Int → Int → Prop} {ρ : Env} (h0 : herdsmanlaw18_LruHuge.d6 K ρ) : ∃ (l_a : Option Addr) (l_n : Nat) (l_c : Nat) (x : Option Addr) (next : Int) (i : Int), ρ 1 = .slice l_a l_n l_c ∧ ρ 5 = .pointer x ∧ ρ 6 = .int .i64 next ∧ ρ 7 = .int .i64 i ∧ K l_a l_n l_c x next i := by
  obtain ⟨l_a, l_n, l_c, e1, h1⟩ := dS_elim h0
  obtain ⟨x, e5, h2⟩ := dP_elim h1
  obtain ⟨next, e6, h3⟩ := dI_elim h2
  obtain ⟨i, e7, h4⟩ := dI_elim h3
  exact ⟨l_a, l_n, l_c, x, next, i, e1, e5, e6, e7, h4⟩
def herdsmanlaw18_LruHuge.d12 (K : Option Addr → Nat → Nat → Option Addr → Int → Int → Bool → Prop) (ρ : Env) : Prop :=
  dS (ρ 1) fun l_a l_n l_c => dP (ρ 5) fun x => dI .i64 (ρ 6) fun next => dI .i64 (ρ 7) fun i => dB (ρ 10) fun had => K l_a l_n l_c x next i had
theorem herdsmanlaw18_LruHuge.d12_elim {K : Option Addr → Nat → Nat → Option Addr → Int → Int → Bool → Prop} {ρ : Env} (h0 : herdsmanlaw18_LruHuge.d12 K ρ) : ∃ (l_a : Option Addr) (l_n : Nat) (l_c : Nat) (x : Option Addr) (next : Int) (i : Int) (had : Bool), ρ 1 = .slice l_a l_n l_c ∧ ρ 5 = .pointer x ∧ ρ 6 = .int .i64 next ∧ ρ 7 = .int .i64 i ∧ ρ 10 = .bool had ∧ K l_a l_n l_c x next i had := by
  obtain ⟨l_a, l_n, l_c, e1, h1⟩ := dS_elim h0
  obtain ⟨x, e5, h2⟩ := dP_elim h1
  obtain ⟨next, e6, h3⟩ := dI_elim h2
  obtain ⟨i, e7, h4⟩ := dI_elim h3
  obtain ⟨had, e10, h5⟩ := dB_elim h4
  exact ⟨l_a, l_n, l_c, x, next, i, had, e1, e5, e6, e7, e10, h5⟩
def herdsmanlaw18_LruHuge.d14 (K : Option Addr → Int → Prop) (ρ : Env) : Prop :=
  dP (ρ 5) fun x => dI .i64 (ρ 6) fun next => K x next
theorem herdsmanlaw18_LruHuge.d14_elim {K : Option Addr → Int → Prop} {ρ : Env} (h0 : herdsmanlaw18_LruHuge.d14 K ρ) : ∃ (x : Option Addr) (next : Int), ρ 5 = .pointer x ∧ ρ 6 = .int .i64 next ∧ K x next := by
  obtain ⟨x, e5, h1⟩ := dP_elim h0
  obtain ⟨next, e6, h2⟩ := dI_elim h1
  exact ⟨x, next, e5, e6, h2⟩
set_option maxRecDepth 100000 in
theorem herdsmanlaw18_LruHuge.f12 (P6 : Option Addr → Nat → Nat → Option Addr → Int → Int → World → Prop) (Q : Bool → World → Prop) (HP6 : ∀ l_a l_n l_c x next i w, P6 l_a l_n l_c x next i w → ∀ ρ : Env, ρ 1 = .slice l_a l_n l_c → ρ 5 = .pointer x → ρ 6 = .int .i64 next → ρ 7 = .int .i64 i → Fin (cx 90) (todoOf Go.Proofs.Try.f6 6) ρ w (herdsmanlaw18_LruHuge.R Q)) : ∀ l_a l_n l_c x next i had w, herdsmanlaw18_LruHuge.b12 P6 Q l_a l_n l_c x next i had w → ∀ ρ : Env, ρ 1 = .slice l_a l_n l_c → ρ 5 = .pointer x → ρ 6 = .int .i64 next → ρ 7 = .int .i64 i → ρ 10 = .bool had → Fin (cx 90) (todoOf Go.Proofs.Try.f6 12) ρ w (herdsmanlaw18_LruHuge.R Q) := by
  intro l_a l_n l_c x next i had w h ρ e1 e5 e6 e7 e10
  refine Fin.cut (ρ' := put (put (put (put (put (ρ) (some 1) (.slice l_a l_n l_c)) (some 5) (.pointer x)) (some 6) (.int .i64 next)) (some 7) (.int .i64 i)) (some 10) (.bool had)) ?_ (by rw [put_id e1, put_id e5, put_id e6, put_id e7, put_id e10])
  refine evT_sound (ok 90) (drawD_sound (ok 90) herdsmanlaw18_LruHuge.scr) 600 (L := [(6, fun ρ w => herdsmanlaw18_LruHuge.d6 (fun l_a l_n l_c x next i => P6 l_a l_n l_c x next i w) ρ)]) (leaf_of (fn := Go.Proofs.Try.f6) [6, 6] (by kernel_rfl) ⟨fun ρ w h => by obtain ⟨l_a, l_n, l_c, x, next, i, e1, e5, e6, e7, h⟩ := herdsmanlaw18_LruHuge.d6_elim (ρ := ρ) h; exact HP6 l_a l_n l_c x next i w h ρ e1 e5 e6 e7, trivial⟩) (castK h (by kernel_rfl))
set_option maxRecDepth 100000 in
theorem herdsmanlaw18_LruHuge.f14 (Q : Bool → World → Prop) : ∀ x next w, herdsmanlaw18_LruHuge.b14 Q x next w → ∀ ρ : Env, ρ 5 = .pointer x → ρ 6 = .int .i64 next → Fin (cx 90) (todoOf Go.Proofs.Try.f6 14) ρ w (herdsmanlaw18_LruHuge.R Q) := by
  intro x next w h ρ e5 e6
  refine Fin.cut (ρ' := put (put (ρ) (some 5) (.pointer x)) (some 6) (.int .i64 next)) ?_ (by rw [put_id e5, put_id e6])
  refine evT_sound (ok 90) (drawD_sound (ok 90) herdsmanlaw18_LruHuge.scr) 600 (L := []) (leaf_of (fn := Go.Proofs.Try.f6) [] (by kernel_rfl) trivial) (castK h (by kernel_rfl))
set_option maxRecDepth 100000 in
theorem herdsmanlaw18_LruHuge.f6 (Q : Bool → World → Prop) : ∀ k l_a l_n l_c x next i w, herdsmanlaw18_LruHuge.b6 Q k l_a l_n l_c x next i w → ∀ ρ : Env, ρ 1 = .slice l_a l_n l_c → ρ 5 = .pointer x → ρ 6 = .int .i64 next → ρ 7 = .int .i64 i → Fin (cx 90) (todoOf Go.Proofs.Try.f6 6) ρ w (herdsmanlaw18_LruHuge.R Q) := by
  intro k
  induction k with
  | zero => intro l_a l_n l_c x next i w h; exact h.elim
  | succ k ih =>
    intro l_a l_n l_c x next i w h ρ e1 e5 e6 e7
    have h : herdsmanlaw18_LruHuge.s6 Q (herdsmanlaw18_LruHuge.b6 Q k) l_a l_n l_c x next i w := h
    refine Fin.cut (ρ' := put (put (put (put (ρ) (some 1) (.slice l_a l_n l_c)) (some 5) (.pointer x)) (some 6) (.int .i64 next)) (some 7) (.int .i64 i)) ?_ (by rw [put_id e1, put_id e5, put_id e6, put_id e7])
    refine evT_sound (ok 90) (drawD_sound (ok 90) herdsmanlaw18_LruHuge.scr) 600 (L := [(12, fun ρ w => herdsmanlaw18_LruHuge.d12 (fun l_a l_n l_c x next i had => herdsmanlaw18_LruHuge.b12 (herdsmanlaw18_LruHuge.b6 Q k) Q l_a l_n l_c x next i had w) ρ), (14, fun ρ w => herdsmanlaw18_LruHuge.d14 (fun x next => herdsmanlaw18_LruHuge.b14 Q x next w) ρ)]) (leaf_of (fn := Go.Proofs.Try.f6) [12, 14] (by kernel_rfl) ⟨fun ρ w h => by obtain ⟨l_a, l_n, l_c, x, next, i, had, e1, e5, e6, e7, e10, h⟩ := herdsmanlaw18_LruHuge.d12_elim (ρ := ρ) h; exact herdsmanlaw18_LruHuge.f12 (herdsmanlaw18_LruHuge.b6 Q k) Q ih l_a l_n l_c x next i had w h ρ e1 e5 e6 e7 e10, fun ρ w h => by obtain ⟨x, next, e5, e6, h⟩ := herdsmanlaw18_LruHuge.d14_elim (ρ := ρ) h; exact herdsmanlaw18_LruHuge.f14 Q x next w h ρ e5 e6, trivial⟩) (castK h (by kernel_rfl))
set_option maxRecDepth 100000 in
theorem herdsmanlaw18_LruHuge.body (k0 : Int) (l_a : Option Addr) (l_n : Nat) (l_c : Nat) (w : World) (Q : Bool → World → Prop) (h : herdsmanlaw18_LruHuge.sh k0 l_a l_n l_c w Q) : herdsmanlaw18_LruHuge.call k0 l_a l_n l_c w Q := by
  refine call_fn (ok 90) (fn := Go.Proofs.Try.f6) (args := [.int .i64 k0, .slice l_a l_n l_c]) (K := herdsmanlaw18_LruHuge.qv Q) Go.Proofs.Try.func6 (by kernel_rfl) (by kernel_rfl) (by kernel_rfl) ?_
  refine evT_sound (ok 90) (drawD_sound (ok 90) herdsmanlaw18_LruHuge.scr) 600 (L := [(6, fun ρ w => herdsmanlaw18_LruHuge.d6 (fun l_a l_n l_c x next i => ∃ k', herdsmanlaw18_LruHuge.b6 Q k' l_a l_n l_c x next i w) ρ)]) (leaf_of (fn := Go.Proofs.Try.f6) [6] (by kernel_rfl) ⟨fun ρ w h => by obtain ⟨l_a, l_n, l_c, x, next, i, e1, e5, e6, e7, h⟩ := herdsmanlaw18_LruHuge.d6_elim (ρ := ρ) h; obtain ⟨k', h⟩ := h; exact herdsmanlaw18_LruHuge.f6 Q k' l_a l_n l_c x next i w h ρ e1 e5 e6 e7, trivial⟩) (castK h (by kernel_rfl))
/-! ### 7 herdsman/herdsmanlaw18.LruNone -/
def herdsmanlaw18_LruNone.sh (a : Int) (b : Int) (w : World) (Q : Bool → World → Prop) : Prop :=
  lru_Lru_Use.call none a b w fun r17_slot r17_had r17_out w0_1 =>
  lru_Lru_Clear.call none w0_1 fun w0_2 =>
  lru_New.call 3 w0_2 fun r23 w0_3 =>
  cond r23.isNone
  (Q false w0_3)
  (lru_Lru_Use.call r23 a b w0_3 fun r29_slot r29_had r29_out w0_4 =>
  lru_Lru_Use.call r23 b a w0_4 fun r33_slot r33_had r33_out w0_5 =>
  lru_Lru_Clear.call r23 w0_5 fun w0_6 =>
  lru_Lru_Use.call r23 b a w0_6 fun r40_slot r40_had r40_out w0_7 =>
  herdsmanlaw18_told.call w0_7 fun r44 w0_8 =>
  cond r44
  (cond (r17_slot == (-1))
  (cond (!r17_had)
  (cond (!r17_out)
  (lru_Lru_Find.call none a b w0_8 fun r61 w0_9 =>
  cond (r61 == (-1))
  (lru_Lru_Keys.call none w0_9 fun r66_a r66_n r66_c w0_10 =>
  cond ((r66_n : Int) == 0)
  (lru_Lru_Len.call none w0_10 fun r72 w0_11 =>
  cond (r72 == 0)
  (cond (r40_slot == 0)
  (cond (!r40_had)
  (cond (!r40_out)
  (lru_Lru_Len.call r23 w0_11 fun r89 w0_12 =>
  Q (r89 == 1) w0_12)
  (Q false w0_11))
  (Q false w0_11))
  (Q false w0_11))
  (Q false w0_11))
  (Q false w0_10))
  (Q false w0_9))
  (Q false w0_8))
  (Q false w0_8))
  (Q false w0_8))
  (Q false w0_8))
noncomputable def herdsmanlaw18_LruNone.scr : Scrs := []
def herdsmanlaw18_LruNone.R (Q : Bool → World → Prop) (ρ : Env) (w : World) : Prop := evRes (cx 92) Go.Proofs.Try.f7.results.toList ρ w fun vs => herdsmanlaw18_LruNone.qv Q (resV vs) w
set_option maxRecDepth 100000 in
theorem herdsmanlaw18_LruNone.body (a : Int) (b : Int) (w : World) (Q : Bool → World → Prop) (h : herdsmanlaw18_LruNone.sh a b w Q) : herdsmanlaw18_LruNone.call a b w Q := by
  refine call_fn (ok 92) (fn := Go.Proofs.Try.f7) (args := [.int .i64 a, .int .i64 b]) (K := herdsmanlaw18_LruNone.qv Q) Go.Proofs.Try.func7 (by kernel_rfl) (by kernel_rfl) (by kernel_rfl) ?_
  refine evT_sound (ok 92) (drawD_sound (ok 92) herdsmanlaw18_LruNone.scr) 600 (L := []) (leaf_of (fn := Go.Proofs.Try.f7) [] (by kernel_rfl) trivial) (castK h (by kernel_rfl))
end Go.Proofs.Ytfkpabfamfeggaa.S
