/- What the bodies ask, and that a call is no more. Printed by a program of this work (sxgen.py) out of the translation. -/
import Derived.Test.YtfkpabfamfeggaaXT
set_option linter.unusedVariables false
set_option linter.unusedSimpArgs false
namespace Go.Proofs.Ytfkpabfamfeggaa.S
open Go.Sx
/-! ### 17 (*herdsman/herdsmanref18.Lru).Use -/
def herdsmanref18_Lru_Use.b9 (P6 : Option Addr → Int → Int → Int → Bool → Bool → Option Addr → Nat → Nat → Int → World → Prop) (Q : Int → Bool → Bool → World → Prop) (l : Option Addr) (a : Int) (b : Int) (slot : Int) (had : Bool) (out0 : Bool) (rest_a : Option Addr) (rest_n : Nat) (rest_c : Nat) (i : Int) (w : World) : Prop :=
  wA l fun p53 =>
  LdS (p53.add 1) w fun x55_a x55_n x55_c =>
  InB i x55_n <|
  wA x55_a fun p =>
  LdI .i64 ((p.add (i.toNat * 3)).add 0) w fun x58_A =>
  LdI .i64 ((p.add (i.toNat * 3)).add 1) w fun x58_B =>
  LdI .i64 ((p.add (i.toNat * 3)).add 2) w fun x58_Slot =>
  Bx [.int .i64 x58_A, .int .i64 x58_B, .int .i64 x58_Slot] 56 w fun p59_s w0_1 =>
  App P #[36, 36] 36 (.slice rest_a rest_n rest_c) (.slice (some p59_s) 1 1) w0_1 fun r60_a r60_n r60_c w0_2 =>
  P6 l a b slot had out0 r60_a r60_n r60_c (IntKind.wrap .i64 (i + 1)) w0_2
def herdsmanref18_Lru_Use.b16 (Q : Int → Bool → Bool → World → Prop) (l : Option Addr) (a : Int) (b : Int) (slot : Int) (had : Bool) (out0 : Bool) (rest_a : Option Addr) (rest_n : Nat) (rest_c : Nat) (w : World) : Prop :=
  Bx [.int .i64 a, .int .i64 b, .int .i64 slot] 56 w fun p93_s w0_1 =>
  App P #[36, 36] 36 (.slice (some p93_s) 1 1) (.slice rest_a rest_n rest_c) w0_1 fun r95_a r95_n r95_c w0_2 =>
  wA l fun p96 =>
  St (p96.add 1) (.slice r95_a r95_n r95_c) w0_2 fun w0_3 =>
  Q slot had out0 w0_3
def herdsmanref18_Lru_Use.b12 (Q : Int → Bool → Bool → World → Prop) (l : Option Addr) (a : Int) (b : Int) (slot : Int) (had : Bool) (out0 : Bool) (rest_a : Option Addr) (rest_n : Nat) (rest_c : Nat) (w : World) : Prop :=
  cond (!had)
  (InB (IntKind.wrap .i64 ((rest_n : Int) - 1)) rest_n <|
  wA rest_a fun p =>
  LdI .i64 ((p.add (((IntKind.wrap .i64 ((rest_n : Int) - 1))).toNat * 3)).add 2) w fun x82 =>
  SlK rest_a rest_n rest_c 3 none (some (IntKind.wrap .i64 ((rest_n : Int) - 1))) fun s87_a s87_n s87_c =>
  herdsmanref18_Lru_Use.b16 Q l a b x82 had true s87_a s87_n s87_c w)
  (herdsmanref18_Lru_Use.b16 Q l a b slot had out0 rest_a rest_n rest_c w)
def herdsmanref18_Lru_Use.s6 (Q : Int → Bool → Bool → World → Prop) (R6 : Option Addr → Int → Int → Int → Bool → Bool → Option Addr → Nat → Nat → Int → World → Prop) (l : Option Addr) (a : Int) (b : Int) (slot : Int) (had : Bool) (out0 : Bool) (rest_a : Option Addr) (rest_n : Nat) (rest_c : Nat) (i : Int) (w : World) : Prop :=
  wA l fun p22 =>
  LdS (p22.add 1) w fun x24_a x24_n x24_c =>
  cond (decide (i < (x24_n : Int)))
  (wA l fun p30 =>
  LdS (p30.add 1) w fun x32_a x32_n x32_c =>
  InB i x32_n <|
  wA x32_a fun p =>
  LdI .i64 (p.add (i.toNat * 3)) w fun x36 =>
  cond (x36 != a)
  (herdsmanref18_Lru_Use.b9 R6 Q l a b slot had out0 rest_a rest_n rest_c i w)
  (wA l fun p41 =>
  LdS (p41.add 1) w fun x43_a x43_n x43_c =>
  InB i x43_n <|
  wA x43_a fun p_1 =>
  LdI .i64 ((p_1.add (i.toNat * 3)).add 1) w fun x47 =>
  cond (x47 != b)
  (herdsmanref18_Lru_Use.b9 R6 Q l a b slot had out0 rest_a rest_n rest_c i w)
  (R6 l a b slot had out0 rest_a rest_n rest_c (IntKind.wrap .i64 (i + 1)) w)))
  (cond (!had)
  (wA l fun p67 =>
  LdI .i64 p67 w fun x69 =>
  cond (decide ((rest_n : Int) < x69))
  (herdsmanref18_Lru_free.call l w fun r73 w0_1 =>
  herdsmanref18_Lru_Use.b16 Q l a b r73 had out0 rest_a rest_n rest_c w0_1)
  (herdsmanref18_Lru_Use.b12 Q l a b slot had out0 rest_a rest_n rest_c w))
  (herdsmanref18_Lru_Use.b12 Q l a b slot had out0 rest_a rest_n rest_c w))
def herdsmanref18_Lru_Use.b6 (Q : Int → Bool → Bool → World → Prop) : Nat → Option Addr → Int → Int → Int → Bool → Bool → Option Addr → Nat → Nat → Int → World → Prop
  | 0, _, _, _, _, _, _, _, _, _, _, _ => False
  | k + 1, l, a, b, slot, had, out0, rest_a, rest_n, rest_c, i, w => herdsmanref18_Lru_Use.s6 Q (herdsmanref18_Lru_Use.b6 Q k) l a b slot had out0 rest_a rest_n rest_c i w
def herdsmanref18_Lru_Use.sh (l : Option Addr) (a : Int) (b : Int) (w : World) (Q : Int → Bool → Bool → World → Prop) : Prop :=
  herdsmanref18_Lru_Find.call l a b w fun r17 w0_1 =>
  ∃ k', herdsmanref18_Lru_Use.b6 Q k' l a b r17 (decide (r17 ≥ 0)) false none 0 0 0 w0_1
noncomputable def herdsmanref18_Lru_Use.scr : Scrs := []
def herdsmanref18_Lru_Use.R (Q : Int → Bool → Bool → World → Prop) (ρ : Env) (w : World) : Prop := evRes (cx 101) Go.Proofs.Try.f17.results.toList ρ w fun vs => herdsmanref18_Lru_Use.qv Q (resV vs) w
def herdsmanref18_Lru_Use.d6 (K : Option Addr → Int → Int → Int → Bool → Bool → Option Addr → Nat → Nat → Int → Prop) (ρ : Env) : Prop :=
  dP (ρ 0) fun l => dI .i64 (ρ 1) fun a => dI .i64 (ρ 2) fun b => dI .i64 (ρ 9) fun slot => dB (ρ 10) fun had => dB (ρ 11) fun out0 => dS (ρ 12) fun rest_a rest_n rest_c => dI .i64 (ρ 13) fun i => K l a b slot had out0 rest_a rest_n rest_c i
theorem herdsmanref18_Lru_Use.d6_elim {K : Option Addr → Int → Int → Int → Bool → Bool → Option Addr → Nat → Nat → Int → Prop} {ρ : Env} (h0 : herdsmanref18_Lru_Use.d6 K ρ) : ∃ (l : Option Addr) (a : Int) (b : Int) (slot : Int) (had : Bool) (out0 : Bool) (rest_a : Option Addr) (rest_n : Nat) (rest_c : Nat) (i : Int), ρ 0 = .pointer l ∧ ρ 1 = .int .i64 a ∧ ρ 2 = .int .i64 b ∧ ρ 9 = .int .i64 slot ∧ ρ 10 = .bool had ∧ ρ 11 = .bool out0 ∧ ρ 12 = .slice rest_a rest_n rest_c ∧ ρ 13 = .int .i64 i ∧ K l a b slot had out0 rest_a rest_n rest_c i := by
  obtain ⟨l, e0, h1⟩ := dP_elim h0
  obtain ⟨a, e1, h2⟩ := dI_elim h1
  obtain ⟨b, e2, h3⟩ := dI_elim h2
  obtain ⟨slot, e9, h4⟩ := dI_elim h3
  obtain ⟨had, e10, h5⟩ := dB_elim h4
  obtain ⟨out0, e11, h6⟩ := dB_elim h5
  obtain ⟨rest_a, rest_n, rest_c, e12, h7⟩ := dS_elim h6
  obtain ⟨i, e13, h8⟩ := dI_elim h7
  exact ⟨l, a, b, slot, had, out0, rest_a, rest_n, rest_c, i, e0, e1, e2, e9, e10, e11, e12, e13, h8⟩
def herdsmanref18_Lru_Use.d9 (K : Option Addr → Int → Int → Int → Bool → Bool → Option Addr → Nat → Nat → Int → Prop) (ρ : Env) : Prop :=
  dP (ρ 0) fun l => dI .i64 (ρ 1) fun a => dI .i64 (ρ 2) fun b => dI .i64 (ρ 9) fun slot => dB (ρ 10) fun had => dB (ρ 11) fun out0 => dS (ρ 12) fun rest_a rest_n rest_c => dI .i64 (ρ 13) fun i => K l a b slot had out0 rest_a rest_n rest_c i
theorem herdsmanref18_Lru_Use.d9_elim {K : Option Addr → Int → Int → Int → Bool → Bool → Option Addr → Nat → Nat → Int → Prop} {ρ : Env} (h0 : herdsmanref18_Lru_Use.d9 K ρ) : ∃ (l : Option Addr) (a : Int) (b : Int) (slot : Int) (had : Bool) (out0 : Bool) (rest_a : Option Addr) (rest_n : Nat) (rest_c : Nat) (i : Int), ρ 0 = .pointer l ∧ ρ 1 = .int .i64 a ∧ ρ 2 = .int .i64 b ∧ ρ 9 = .int .i64 slot ∧ ρ 10 = .bool had ∧ ρ 11 = .bool out0 ∧ ρ 12 = .slice rest_a rest_n rest_c ∧ ρ 13 = .int .i64 i ∧ K l a b slot had out0 rest_a rest_n rest_c i := by
  obtain ⟨l, e0, h1⟩ := dP_elim h0
  obtain ⟨a, e1, h2⟩ := dI_elim h1
  obtain ⟨b, e2, h3⟩ := dI_elim h2
  obtain ⟨slot, e9, h4⟩ := dI_elim h3
  obtain ⟨had, e10, h5⟩ := dB_elim h4
  obtain ⟨out0, e11, h6⟩ := dB_elim h5
  obtain ⟨rest_a, rest_n, rest_c, e12, h7⟩ := dS_elim h6
  obtain ⟨i, e13, h8⟩ := dI_elim h7
  exact ⟨l, a, b, slot, had, out0, rest_a, rest_n, rest_c, i, e0, e1, e2, e9, e10, e11, e12, e13, h8⟩
def herdsmanref18_Lru_Use.d12 (K : Option Addr → Int → Int → Int → Bool → Bool → Option Addr → Nat → Nat → Prop) (ρ : Env) : Prop :=
  dP (ρ 0) fun l => dI .i64 (ρ 1) fun a => dI .i64 (ρ 2) fun b => dI .i64 (ρ 9) fun slot => dB (ρ 10) fun had => dB (ρ 11) fun out0 => dS (ρ 12) fun rest_a rest_n rest_c => K l a b slot had out0 rest_a rest_n rest_c
theorem herdsmanref18_Lru_Use.d12_elim {K : Option Addr → Int → Int → Int → Bool → Bool → Option Addr → Nat → Nat → Prop} {ρ : Env} (h0 : herdsmanref18_Lru_Use.d12 K ρ) : ∃ (l : Option Addr) (a : Int) (b : Int) (slot : Int) (had : Bool) (out0 : Bool) (rest_a : Option Addr) (rest_n : Nat) (rest_c : Nat), ρ 0 = .pointer l ∧ ρ 1 = .int .i64 a ∧ ρ 2 = .int .i64 b ∧ ρ 9 = .int .i64 slot ∧ ρ 10 = .bool had ∧ ρ 11 = .bool out0 ∧ ρ 12 = .slice rest_a rest_n rest_c ∧ K l a b slot had out0 rest_a rest_n rest_c := by
  obtain ⟨l, e0, h1⟩ := dP_elim h0
  obtain ⟨a, e1, h2⟩ := dI_elim h1
  obtain ⟨b, e2, h3⟩ := dI_elim h2
  obtain ⟨slot, e9, h4⟩ := dI_elim h3
  obtain ⟨had, e10, h5⟩ := dB_elim h4
  obtain ⟨out0, e11, h6⟩ := dB_elim h5
  obtain ⟨rest_a, rest_n, rest_c, e12, h7⟩ := dS_elim h6
  exact ⟨l, a, b, slot, had, out0, rest_a, rest_n, rest_c, e0, e1, e2, e9, e10, e11, e12, h7⟩
def herdsmanref18_Lru_Use.d16 (K : Option Addr → Int → Int → Int → Bool → Bool → Option Addr → Nat → Nat → Prop) (ρ : Env) : Prop :=
  dP (ρ 0) fun l => dI .i64 (ρ 1) fun a => dI .i64 (ρ 2) fun b => dI .i64 (ρ 9) fun slot => dB (ρ 10) fun had => dB (ρ 11) fun out0 => dS (ρ 12) fun rest_a rest_n rest_c => K l a b slot had out0 rest_a rest_n rest_c
theorem herdsmanref18_Lru_Use.d16_elim {K : Option Addr → Int → Int → Int → Bool → Bool → Option Addr → Nat → Nat → Prop} {ρ : Env} (h0 : herdsmanref18_Lru_Use.d16 K ρ) : ∃ (l : Option Addr) (a : Int) (b : Int) (slot : Int) (had : Bool) (out0 : Bool) (rest_a : Option Addr) (rest_n : Nat) (rest_c : Nat), ρ 0 = .pointer l ∧ ρ 1 = .int .i64 a ∧ ρ 2 = .int .i64 b ∧ ρ 9 = .int .i64 slot ∧ ρ 10 = .bool had ∧ ρ 11 = .bool out0 ∧ ρ 12 = .slice rest_a rest_n rest_c ∧ K l a b slot had out0 rest_a rest_n rest_c := by
  obtain ⟨l, e0, h1⟩ := dP_elim h0
  obtain ⟨a, e1, h2⟩ := dI_elim h1
  obtain ⟨b, e2, h3⟩ := dI_elim h2
  obtain ⟨slot, e9, h4⟩ := dI_elim h3
  obtain ⟨had, e10, h5⟩ := dB_elim h4
  obtain ⟨out0, e11, h6⟩ := dB_elim h5
  obtain ⟨rest_a, rest_n, rest_c, e12, h7⟩ := dS_elim h6
  exact ⟨l, a, b, slot, had, out0, rest_a, rest_n, rest_c, e0, e1, e2, e9, e10, e11, e12, h7⟩
set_option maxRecDepth 100000 in
theorem herdsmanref18_Lru_Use.f9 (P6 : Option Addr → Int → Int → Int → Bool → Bool → Option Addr → Nat → Nat → Int → World → Prop) (Q : Int → Bool → Bool → World → Prop) (HP6 : ∀ l a b slot had out0 rest_a rest_n rest_c i w, P6 l a b slot had out0 rest_a rest_n rest_c i w → ∀ ρ : Env, ρ 0 = .pointer l → ρ 1 = .int .i64 a → ρ 2 = .int .i64 b → ρ 9 = .int .i64 slot → ρ 10 = .bool had → ρ 11 = .bool out0 → ρ 12 = .slice rest_a rest_n rest_c → ρ 13 = .int .i64 i → Fin (cx 101) (todoOf Go.Proofs.Try.f17 6) ρ w (herdsmanref18_Lru_Use.R Q)) : ∀ l a b slot had out0 rest_a rest_n rest_c i w, herdsmanref18_Lru_Use.b9 P6 Q l a b slot had out0 rest_a rest_n rest_c i w → ∀ ρ : Env, ρ 0 = .pointer l → ρ 1 = .int .i64 a → ρ 2 = .int .i64 b → ρ 9 = .int .i64 slot → ρ 10 = .bool had → ρ 11 = .bool out0 → ρ 12 = .slice rest_a rest_n rest_c → ρ 13 = .int .i64 i → Fin (cx 101) (todoOf Go.Proofs.Try.f17 9) ρ w (herdsmanref18_Lru_Use.R Q) := by
  intro l a b slot had out0 rest_a rest_n rest_c i w h ρ e0 e1 e2 e9 e10 e11 e12 e13
  refine Fin.cut (ρ' := put (put (put (put (put (put (put (put (ρ) (some 0) (.pointer l)) (some 1) (.int .i64 a)) (some 2) (.int .i64 b)) (some 9) (.int .i64 slot)) (some 10) (.bool had)) (some 11) (.bool out0)) (some 12) (.slice rest_a rest_n rest_c)) (some 13) (.int .i64 i)) ?_ (by rw [put_id e0, put_id e1, put_id e2, put_id e9, put_id e10, put_id e11, put_id e12, put_id e13])
  refine evT_sound (ok 101) (drawD_sound (ok 101) herdsmanref18_Lru_Use.scr) 600 (L := [(6, fun ρ w => herdsmanref18_Lru_Use.d6 (fun l a b slot had out0 rest_a rest_n rest_c i => P6 l a b slot had out0 rest_a rest_n rest_c i w) ρ)]) (leaf_of (fn := Go.Proofs.Try.f17) [6] (by kernel_rfl) ⟨fun ρ w h => by obtain ⟨l, a, b, slot, had, out0, rest_a, rest_n, rest_c, i, e0, e1, e2, e9, e10, e11, e12, e13, h⟩ := herdsmanref18_Lru_Use.d6_elim (ρ := ρ) h; exact HP6 l a b slot had out0 rest_a rest_n rest_c i w h ρ e0 e1 e2 e9 e10 e11 e12 e13, trivial⟩) (castK h (by kernel_rfl))
set_option maxRecDepth 100000 in
theorem herdsmanref18_Lru_Use.f16 (Q : Int → Bool → Bool → World → Prop) : ∀ l a b slot had out0 rest_a rest_n rest_c w, herdsmanref18_Lru_Use.b16 Q l a b slot had out0 rest_a rest_n rest_c w → ∀ ρ : Env, ρ 0 = .pointer l → ρ 1 = .int .i64 a → ρ 2 = .int .i64 b → ρ 9 = .int .i64 slot → ρ 10 = .bool had → ρ 11 = .bool out0 → ρ 12 = .slice rest_a rest_n rest_c → Fin (cx 101) (todoOf Go.Proofs.Try.f17 16) ρ w (herdsmanref18_Lru_Use.R Q) := by
  intro l a b slot had out0 rest_a rest_n rest_c w h ρ e0 e1 e2 e9 e10 e11 e12
  refine Fin.cut (ρ' := put (put (put (put (put (put (put (ρ) (some 0) (.pointer l)) (some 1) (.int .i64 a)) (some 2) (.int .i64 b)) (some 9) (.int .i64 slot)) (some 10) (.bool had)) (some 11) (.bool out0)) (some 12) (.slice rest_a rest_n rest_c)) ?_ (by rw [put_id e0, put_id e1, put_id e2, put_id e9, put_id e10, put_id e11, put_id e12])
  refine evT_sound (ok 101) (drawD_sound (ok 101) herdsmanref18_Lru_Use.scr) 600 (L := []) (leaf_of (fn := Go.Proofs.Try.f17) [] (by kernel_rfl) trivial) (castK h (by kernel_rfl))
set_option maxRecDepth 100000 in
theorem herdsmanref18_Lru_Use.f12 (Q : Int → Bool → Bool → World → Prop) : ∀ l a b slot had out0 rest_a rest_n rest_c w, herdsmanref18_Lru_Use.b12 Q l a b slot had out0 rest_a rest_n rest_c w → ∀ ρ : Env, ρ 0 = .pointer l → ρ 1 = .int .i64 a → ρ 2 = .int .i64 b → ρ 9 = .int .i64 slot → ρ 10 = .bool had → ρ 11 = .bool out0 → ρ 12 = .slice rest_a rest_n rest_c → Fin (cx 101) (todoOf Go.Proofs.Try.f17 12) ρ w (herdsmanref18_Lru_Use.R Q) := by
  intro l a b slot had out0 rest_a rest_n rest_c w h ρ e0 e1 e2 e9 e10 e11 e12
  refine Fin.cut (ρ' := put (put (put (put (put (put (put (ρ) (some 0) (.pointer l)) (some 1) (.int .i64 a)) (some 2) (.int .i64 b)) (some 9) (.int .i64 slot)) (some 10) (.bool had)) (some 11) (.bool out0)) (some 12) (.slice rest_a rest_n rest_c)) ?_ (by rw [put_id e0, put_id e1, put_id e2, put_id e9, put_id e10, put_id e11, put_id e12])
  refine evT_sound (ok 101) (drawD_sound (ok 101) herdsmanref18_Lru_Use.scr) 600 (L := [(16, fun ρ w => herdsmanref18_Lru_Use.d16 (fun l a b slot had out0 rest_a rest_n rest_c => herdsmanref18_Lru_Use.b16 Q l a b slot had out0 rest_a rest_n rest_c w) ρ)]) (leaf_of (fn := Go.Proofs.Try.f17) [16, 16] (by kernel_rfl) ⟨fun ρ w h => by obtain ⟨l, a, b, slot, had, out0, rest_a, rest_n, rest_c, e0, e1, e2, e9, e10, e11, e12, h⟩ := herdsmanref18_Lru_Use.d16_elim (ρ := ρ) h; exact herdsmanref18_Lru_Use.f16 Q l a b slot had out0 rest_a rest_n rest_c w h ρ e0 e1 e2 e9 e10 e11 e12, trivial⟩) (castK h (by kernel_rfl))
set_option maxRecDepth 100000 in
theorem herdsmanref18_Lru_Use.f6 (Q : Int → Bool → Bool → World → Prop) : ∀ k l a b slot had out0 rest_a rest_n rest_c i w, herdsmanref18_Lru_Use.b6 Q k l a b slot had out0 rest_a rest_n rest_c i w → ∀ ρ : Env, ρ 0 = .pointer l → ρ 1 = .int .i64 a → ρ 2 = .int .i64 b → ρ 9 = .int .i64 slot → ρ 10 = .bool had → ρ 11 = .bool out0 → ρ 12 = .slice rest_a rest_n rest_c → ρ 13 = .int .i64 i → Fin (cx 101) (todoOf Go.Proofs.Try.f17 6) ρ w (herdsmanref18_Lru_Use.R Q) := by
  intro k
  induction k with
  | zero => intro l a b slot had out0 rest_a rest_n rest_c i w h; exact h.elim
  | succ k ih =>
    intro l a b slot had out0 rest_a rest_n rest_c i w h ρ e0 e1 e2 e9 e10 e11 e12 e13
    have h : herdsmanref18_Lru_Use.s6 Q (herdsmanref18_Lru_Use.b6 Q k) l a b slot had out0 rest_a rest_n rest_c i w := h
    refine Fin.cut (ρ' := put (put (put (put (put (put (put (put (ρ) (some 0) (.pointer l)) (some 1) (.int .i64 a)) (some 2) (.int .i64 b)) (some 9) (.int .i64 slot)) (some 10) (.bool had)) (some 11) (.bool out0)) (some 12) (.slice rest_a rest_n rest_c)) (some 13) (.int .i64 i)) ?_ (by rw [put_id e0, put_id e1, put_id e2, put_id e9, put_id e10, put_id e11, put_id e12, put_id e13])
    refine evT_sound (ok 101) (drawD_sound (ok 101) herdsmanref18_Lru_Use.scr) 600 (L := [(6, fun ρ w => herdsmanref18_Lru_Use.d6 (fun l a b slot had out0 rest_a rest_n rest_c i => herdsmanref18_Lru_Use.b6 Q k l a b slot had out0 rest_a rest_n rest_c i w) ρ), (9, fun ρ w => herdsmanref18_Lru_Use.d9 (fun l a b slot had out0 rest_a rest_n rest_c i => herdsmanref18_Lru_Use.b9 (herdsmanref18_Lru_Use.b6 Q k) Q l a b slot had out0 rest_a rest_n rest_c i w) ρ), (12, fun ρ w => herdsmanref18_Lru_Use.d12 (fun l a b slot had out0 rest_a rest_n rest_c => herdsmanref18_Lru_Use.b12 Q l a b slot had out0 rest_a rest_n rest_c w) ρ), (16, fun ρ w => herdsmanref18_Lru_Use.d16 (fun l a b slot had out0 rest_a rest_n rest_c => herdsmanref18_Lru_Use.b16 Q l a b slot had out0 rest_a rest_n rest_c w) ρ)]) (leaf_of (fn := Go.Proofs.Try.f17) [9, 6, 16, 12] (by kernel_rfl) ⟨fun ρ w h => by obtain ⟨l, a, b, slot, had, out0, rest_a, rest_n, rest_c, i, e0, e1, e2, e9, e10, e11, e12, e13, h⟩ := herdsmanref18_Lru_Use.d6_elim (ρ := ρ) h; exact ih l a b slot had out0 rest_a rest_n rest_c i w h ρ e0 e1 e2 e9 e10 e11 e12 e13, fun ρ w h => by obtain ⟨l, a, b, slot, had, out0, rest_a, rest_n, rest_c, i, e0, e1, e2, e9, e10, e11, e12, e13, h⟩ := herdsmanref18_Lru_Use.d9_elim (ρ := ρ) h; exact herdsmanref18_Lru_Use.f9 (herdsmanref18_Lru_Use.b6 Q k) Q ih l a b slot had out0 rest_a rest_n rest_c i w h ρ e0 e1 e2 e9 e10 e11 e12 e13, fun ρ w h => by obtain ⟨l, a, b, slot, had, out0, rest_a, rest_n, rest_c, e0, e1, e2, e9, e10, e11, e12, h⟩ := herdsmanref18_Lru_Use.d12_elim (ρ := ρ) h; exact herdsmanref18_Lru_Use.f12 Q l a b slot had out0 rest_a rest_n rest_c w h ρ e0 e1 e2 e9 e10 e11 e12, fun ρ w h => by obtain ⟨l, a, b, slot, had, out0, rest_a, rest_n, rest_c, e0, e1, e2, e9, e10, e11, e12, h⟩ := herdsmanref18_Lru_Use.d16_elim (ρ := ρ) h; exact herdsmanref18_Lru_Use.f16 Q l a b slot had out0 rest_a rest_n rest_c w h ρ e0 e1 e2 e9 e10 e11 e12, trivial⟩) (castK h (by kernel_rfl))
set_option maxRecDepth 100000 in
theorem herdsmanref18_Lru_Use.body (l : Option Addr) (a : Int) (b : Int) (w : World) (Q : Int → Bool → Bool → World → Prop) (h : herdsmanref18_Lru_Use.sh l a b w Q) : herdsmanref18_Lru_Use.call l a b w Q := by
  refine call_fn (ok 101) (fn := Go.Proofs.Try.f17) (args := [.pointer l, .int .i64 a, .int .i64 b]) (K := herdsmanref18_Lru_Use.qv Q) Go.Proofs.Try.func17 (by kernel_rfl) (by kernel_rfl) (by kernel_rfl) ?_
  refine evT_sound (ok 101) (drawD_sound (ok 101) herdsmanref18_Lru_Use.scr) 600 (L := [(6, fun ρ w => herdsmanref18_Lru_Use.d6 (fun l a b slot had out0 rest_a rest_n rest_c i => ∃ k', herdsmanref18_Lru_Use.b6 Q k' l a b slot had out0 rest_a rest_n rest_c i w) ρ)]) (leaf_of (fn := Go.Proofs.Try.f17) [6] (by kernel_rfl) ⟨fun ρ w h => by obtain ⟨l, a, b, slot, had, out0, rest_a, rest_n, rest_c, i, e0, e1, e2, e9, e10, e11, e12, e13, h⟩ := herdsmanref18_Lru_Use.d6_elim (ρ := ρ) h; obtain ⟨k', h⟩ := h; exact herdsmanref18_Lru_Use.f6 Q k' l a b slot had out0 rest_a rest_n rest_c i w h ρ e0 e1 e2 e9 e10 e11 e12 e13, trivial⟩) (castK h (by kernel_rfl))
/-! ### 18 (*herdsman/lru.Lru).Len -/
def lru_Lru_Len.sh (l : Option Addr) (w : World) (Q : Int → World → Prop) : Prop :=
  cond l.isNone
  (Q 0 w)
  (wA l fun p6 =>
  LdS (p6.add 1) w fun x8_a x8_n x8_c =>
  Q (x8_n : Int) w)
noncomputable def lru_Lru_Len.scr : Scrs := []
def lru_Lru_Len.R (Q : Int → World → Prop) (ρ : Env) (w : World) : Prop := evRes (cx 10) Go.Proofs.Try.f18.results.toList ρ w fun vs => lru_Lru_Len.qv Q (resV vs) w
set_option maxRecDepth 100000 in
theorem lru_Lru_Len.body (l : Option Addr) (w : World) (Q : Int → World → Prop) (h : lru_Lru_Len.sh l w Q) : lru_Lru_Len.call l w Q := by
  refine call_fn (ok 10) (fn := Go.Proofs.Try.f18) (args := [.pointer l]) (K := lru_Lru_Len.qv Q) Go.Proofs.Try.func18 (by kernel_rfl) (by kernel_rfl) (by kernel_rfl) ?_
  refine evT_sound (ok 10) (drawD_sound (ok 10) lru_Lru_Len.scr) 600 (L := []) (leaf_of (fn := Go.Proofs.Try.f18) [] (by kernel_rfl) trivial) (castK h (by kernel_rfl))
/-! ### 19 (*herdsman/herdsmanref18.Lru).Keys -/
def herdsmanref18_Lru_Keys.s3 (Q : Option Addr → Nat → Nat → World → Prop) (R3 : Option Addr → Option Addr → Nat → Nat → Int → World → Prop) (l : Option Addr) (out_a : Option Addr) (out_n : Nat) (out_c : Nat) (i : Int) (w : World) : Prop :=
  wA l fun p7 =>
  LdS (p7.add 1) w fun x9_a x9_n x9_c =>
  cond (decide (i < (x9_n : Int)))
  (wA l fun p16 =>
  LdS (p16.add 1) w.drew fun x18_a x18_n x18_c =>
  InB i x18_n <|
  wA x18_a fun p =>
  LdI .i64 (p.add (i.toNat * 3)) w.drew fun x22 =>
  wA l fun p24 =>
  LdS (p24.add 1) w.drew fun x26_a x26_n x26_c =>
  InB i x26_n <|
  wA x26_a fun p_1 =>
  LdI .i64 ((p_1.add (i.toNat * 3)).add 1) w.drew fun x30 =>
  Bx [.int .i64 x22, .int .i64 x30] 29 w.drew fun p32_s w0_1 =>
  App P #[26, 26] 26 (.slice out_a out_n out_c) (.slice (some p32_s) 1 1) w0_1 fun r33_a r33_n r33_c w0_2 =>
  R3 l r33_a r33_n r33_c (IntKind.wrap .i64 (i + 1)) w0_2)
  (Q out_a out_n out_c w)
def herdsmanref18_Lru_Keys.b3 (Q : Option Addr → Nat → Nat → World → Prop) : Nat → Option Addr → Option Addr → Nat → Nat → Int → World → Prop
  | 0, _, _, _, _, _, _ => False
  | k + 1, l, out_a, out_n, out_c, i, w => herdsmanref18_Lru_Keys.s3 Q (herdsmanref18_Lru_Keys.b3 Q k) l out_a out_n out_c i w
def herdsmanref18_Lru_Keys.sh (l : Option Addr) (w : World) (Q : Option Addr → Nat → Nat → World → Prop) : Prop :=
  ∃ k', herdsmanref18_Lru_Keys.b3 Q k' l none 0 0 0 w
noncomputable def herdsmanref18_Lru_Keys.scr : Scrs := [(5, .op 0 (.op 1 (.op 2 (.op 3 (.op 4 (.op 5 (.op 6 (.op 7 (.op 8 (.op 9 (.op 10 (.op 11 (.op 12 (.op 13 (.op 14 (.op 15 (.op 16 (.op 17 (.op 18 (.op 19 (.op 20 .done)))))))))))))))))))))]
def herdsmanref18_Lru_Keys.R (Q : Option Addr → Nat → Nat → World → Prop) (ρ : Env) (w : World) : Prop := evRes (cx 35) Go.Proofs.Try.f19.results.toList ρ w fun vs => herdsmanref18_Lru_Keys.qv Q (resV vs) w
def herdsmanref18_Lru_Keys.d3 (K : Option Addr → Option Addr → Nat → Nat → Int → Prop) (ρ : Env) : Prop :=
  dP (ρ 0) fun l => dS (ρ 3) fun out_a out_n out_c => dI .i64 (ρ 4) fun i => K l out_a out_n out_c i
theorem herdsmanref18_Lru_Keys.d3_elim {K : Option Addr → Option Addr → Nat → Nat → Int → Prop} {ρ : Env} (h0 : herdsmanref18_Lru_Keys.d3 K ρ) : ∃ (l : Option Addr) (out_a : Option Addr) (out_n : Nat) (out_c : Nat) (i : Int), ρ 0 = .pointer l ∧ ρ 3 = .slice out_a out_n out_c ∧ ρ 4 = .int .i64 i ∧ K l out_a out_n out_c i := by
  obtain ⟨l, e0, h1⟩ := dP_elim h0
  obtain ⟨out_a, out_n, out_c, e3, h2⟩ := dS_elim h1
  obtain ⟨i, e4, h3⟩ := dI_elim h2
  exact ⟨l, out_a, out_n, out_c, i, e0, e3, e4, h3⟩
set_option maxRecDepth 100000 in
theorem herdsmanref18_Lru_Keys.f3 (Q : Option Addr → Nat → Nat → World → Prop) : ∀ k l out_a out_n out_c i w, herdsmanref18_Lru_Keys.b3 Q k l out_a out_n out_c i w → ∀ ρ : Env, ρ 0 = .pointer l → ρ 3 = .slice out_a out_n out_c → ρ 4 = .int .i64 i → Fin (cx 35) (todoOf Go.Proofs.Try.f19 3) ρ w (herdsmanref18_Lru_Keys.R Q) := by
  intro k
  induction k with
  | zero => intro l out_a out_n out_c i w h; exact h.elim
  | succ k ih =>
    intro l out_a out_n out_c i w h ρ e0 e3 e4
    have h : herdsmanref18_Lru_Keys.s3 Q (herdsmanref18_Lru_Keys.b3 Q k) l out_a out_n out_c i w := h
    refine Fin.cut (ρ' := put (put (put (ρ) (some 0) (.pointer l)) (some 3) (.slice out_a out_n out_c)) (some 4) (.int .i64 i)) ?_ (by rw [put_id e0, put_id e3, put_id e4])
    refine evT_sound (ok 35) (drawD_sound (ok 35) herdsmanref18_Lru_Keys.scr) 600 (L := [(3, fun ρ w => herdsmanref18_Lru_Keys.d3 (fun l out_a out_n out_c i => herdsmanref18_Lru_Keys.b3 Q k l out_a out_n out_c i w) ρ)]) (leaf_of (fn := Go.Proofs.Try.f19) [3] (by kernel_rfl) ⟨fun ρ w h => by obtain ⟨l, out_a, out_n, out_c, i, e0, e3, e4, h⟩ := herdsmanref18_Lru_Keys.d3_elim (ρ := ρ) h; exact ih l out_a out_n out_c i w h ρ e0 e3 e4, trivial⟩) (castK h (by kernel_rfl))
set_option maxRecDepth 100000 in
theorem herdsmanref18_Lru_Keys.body (l : Option Addr) (w : World) (Q : Option Addr → Nat → Nat → World → Prop) (h : herdsmanref18_Lru_Keys.sh l w Q) : herdsmanref18_Lru_Keys.call l w Q := by
  refine call_fn (ok 35) (fn := Go.Proofs.Try.f19) (args := [.pointer l]) (K := herdsmanref18_Lru_Keys.qv Q) Go.Proofs.Try.func19 (by kernel_rfl) (by kernel_rfl) (by kernel_rfl) ?_
  refine evT_sound (ok 35) (drawD_sound (ok 35) herdsmanref18_Lru_Keys.scr) 600 (L := [(3, fun ρ w => herdsmanref18_Lru_Keys.d3 (fun l out_a out_n out_c i => ∃ k', herdsmanref18_Lru_Keys.b3 Q k' l out_a out_n out_c i w) ρ)]) (leaf_of (fn := Go.Proofs.Try.f19) [3] (by kernel_rfl) ⟨fun ρ w h => by obtain ⟨l, out_a, out_n, out_c, i, e0, e3, e4, h⟩ := herdsmanref18_Lru_Keys.d3_elim (ρ := ρ) h; obtain ⟨k', h⟩ := h; exact herdsmanref18_Lru_Keys.f3 Q k' l out_a out_n out_c i w h ρ e0 e3 e4, trivial⟩) (castK h (by kernel_rfl))
/-! ### 4 herdsman/herdsmanlaw18.LruPlays -/
def herdsmanlaw18_LruPlays.b27 (P10 : Int → Option Addr → Nat → Nat → Bool → Option Addr → Addr → Int → World → Prop) (Q : Bool → World → Prop) (k0 : Int) (l_a : Option Addr) (l_n : Nat) (l_c : Nat) (any : Bool) (x : Option Addr) (w0_1 : Addr) (i : Int) (w : World) : Prop :=
  LdS (w0_1.add 1) w.drew fun x127_a x127_n x127_c =>
  lru_Lru_Len.call x w.drew fun r123 w0_2 =>
  w0_2.cell? (w0_1.add 1) = some (.slice x127_a x127_n x127_c) ∧
  cond (r123 != (x127_n : Int))
  (Q false w0_2)
  (lru_Lru_Keys.call x w0_2 fun r132_a r132_n r132_c w0_3 =>
  herdsmanref18_Lru_Keys.call (some w0_1) w0_3 fun r134_a r134_n r134_c w0_4 =>
  herdsmanref18_SameKeys.call r132_a r132_n r132_c r134_a r134_n r134_c w0_4 fun r135 w0_5 =>
  cond (!r135)
  (Q false w0_5)
  (P10 k0 l_a l_n l_c any x w0_1 (IntKind.wrap .i64 (i + 1)) w0_5))
def herdsmanlaw18_LruPlays.b25 (P10 : Int → Option Addr → Nat → Nat → Bool → Option Addr → Addr → Int → World → Prop) (Q : Bool → World → Prop) (k0 : Int) (l_a : Option Addr) (l_n : Nat) (l_c : Nat) (any : Bool) (x : Option Addr) (w0_1 : Addr) (i : Int) (q : Addr) (w : World) : Prop :=
  LdI .i64 (q.add 1) w.drew fun x111 =>
  LdI .i64 (q.add 2) w.drew fun x113 =>
  LdI .i64 (q.add 1) w.drew fun x117 =>
  LdI .i64 (q.add 2) w.drew fun x119 =>
  lru_Lru_Find.call x x111 x113 w.drew fun r114 w0_2 =>
  w0_2.cell? (q.add 2) = some (.int .i64 x119) ∧
  w0_2.cell? (q.add 1) = some (.int .i64 x117) ∧
  herdsmanref18_Lru_Find.call (some w0_1) x117 x119 w0_2 fun r120 w0_3 =>
  cond (r114 != r120)
  (Q false w0_3)
  (herdsmanlaw18_LruPlays.b27 P10 Q k0 l_a l_n l_c any x w0_1 i w0_3)
def herdsmanlaw18_LruPlays.b15 (P10 : Int → Option Addr → Nat → Nat → Bool → Option Addr → Addr → Int → World → Prop) (Q : Bool → World → Prop) (k0 : Int) (l_a : Option Addr) (l_n : Nat) (l_c : Nat) (any : Bool) (x : Option Addr) (w0_1 : Addr) (i : Int) (q : Addr) (w : World) : Prop :=
  LdI .i64 q w fun x64 =>
  herdsmanref1_Within.call x64 0 15 w fun r65 w0_2 =>
  cond (r65 == 15)
  (lru_Lru_Clear.call x w0_2 fun w0_3 =>
  Bx [.int .i64 k0, .slice none 0 0] 38 w0_3 fun p105_b w0_4 =>
  herdsmanlaw18_LruPlays.b27 P10 Q k0 l_a l_n l_c any x p105_b i w0_4)
  (cond (r65 == 13)
  (herdsmanlaw18_LruPlays.b25 P10 Q k0 l_a l_n l_c any x w0_1 i q w0_2)
  (cond (r65 == 14)
  (herdsmanlaw18_LruPlays.b25 P10 Q k0 l_a l_n l_c any x w0_1 i q w0_2)
  (LdI .i64 (q.add 1) w0_2 fun x69 =>
  LdI .i64 (q.add 2) w0_2 fun x71 =>
  lru_Lru_Use.call x x69 x71 w0_2 fun r72_slot r72_had r72_out w0_5 =>
  LdI .i64 (q.add 1) w0_5 fun x79 =>
  LdI .i64 (q.add 2) w0_5 fun x81 =>
  herdsmanref18_Lru_Use.call (some w0_1) x79 x81 w0_5 fun r82_0 r82_1 r82_2 w0_6 =>
  cond (r72_slot != r82_0)
  (Q false w0_6)
  (cond (!(r72_had == r82_1))
  (Q false w0_6)
  (cond (!(r72_out == r82_2))
  (Q false w0_6)
  (herdsmanlaw18_LruPlays.b27 P10 Q k0 l_a l_n l_c any x w0_1 i w0_6))))))
def herdsmanlaw18_LruPlays.s10 (Q : Bool → World → Prop) (R10 : Int → Option Addr → Nat → Nat → Bool → Option Addr → Addr → Int → World → Prop) (k0 : Int) (l_a : Option Addr) (l_n : Nat) (l_c : Nat) (any : Bool) (x : Option Addr) (w0_1 : Addr) (i : Int) (w : World) : Prop :=
  cond (decide (i < (l_n : Int)))
  (cond (decide (i < 80))
  (InB i l_n <|
  wA l_a fun p =>
  LdI .i64 ((p.add (i.toNat * 3)).add 0) w fun x52_Kind =>
  LdI .i64 ((p.add (i.toNat * 3)).add 1) w fun x52_A =>
  LdI .i64 ((p.add (i.toNat * 3)).add 2) w fun x52_B =>
  Al T 40 w fun q w0_2 =>
  St (q.add 0) (.int .i64 x52_Kind) w0_2 fun w0_3 =>
  St (q.add 1) (.int .i64 x52_A) w0_3 fun w0_4 =>
  St (q.add 2) (.int .i64 x52_B) w0_4 fun w0_5 =>
  cond (!any)
  (LdI .i64 (q.add 1) w0_5.drew fun x56 =>
  LdI .i64 (q.add 2) w0_5.drew fun x59 =>
  herdsmanref1_Within.call x56 (-1) 2 w0_5.drew fun r57 w0_6 =>
  w0_6.cell? (q.add 2) = some (.int .i64 x59) ∧
  herdsmanref1_Within.call x59 0 3 w0_6 fun r60 w0_7 =>
  St (q.add 1) (.int .i64 r57) w0_7 fun w0_8 =>
  St (q.add 2) (.int .i64 r60) w0_8 fun w0_9 =>
  herdsmanlaw18_LruPlays.b15 R10 Q k0 l_a l_n l_c any x w0_1 i q w0_9)
  (herdsmanlaw18_LruPlays.b15 R10 Q k0 l_a l_n l_c any x w0_1 i q w0_5))
  (herdsmanlaw18_told.call w fun r138 w0_10 =>
  Q r138 w0_10))
  (herdsmanlaw18_told.call w fun r138_1 w0_11 =>
  Q r138_1 w0_11)
def herdsmanlaw18_LruPlays.b10 (Q : Bool → World → Prop) : Nat → Int → Option Addr → Nat → Nat → Bool → Option Addr → Addr → Int → World → Prop
  | 0, _, _, _, _, _, _, _, _, _ => False
  | k + 1, k0, l_a, l_n, l_c, any, x, w0_1, i, w => herdsmanlaw18_LruPlays.s10 Q (herdsmanlaw18_LruPlays.b10 Q k) k0 l_a l_n l_c any x w0_1 i w
def herdsmanlaw18_LruPlays.b3 (Q : Bool → World → Prop) (k0 : Int) (l_a : Option Addr) (l_n : Nat) (l_c : Nat) (any : Bool) (w : World) : Prop :=
  lru_New.call k0 w fun r26 w0_1 =>
  cond (decide (k0 < 1))
  (herdsmanlaw18_told.call w0_1 fun r29 w0_2 =>
  cond r29
  (Q r26.isNone w0_2)
  (Q false w0_2))
  (cond r26.isNone
  (Q false w0_1)
  (Bx [.int .i64 k0, .slice none 0 0] 38 w0_1 fun p38_b w0_3 =>
  ∃ k', herdsmanlaw18_LruPlays.b10 Q k' k0 l_a l_n l_c any r26 p38_b 0 w0_3))
def herdsmanlaw18_LruPlays.sh (k0 : Int) (l_a : Option Addr) (l_n : Nat) (l_c : Nat) (any : Bool) (w : World) (Q : Bool → World → Prop) : Prop :=
  cond (decide (k0 > 0))
  (cond (!any)
  (herdsmanref1_Within.call k0 1 6 w fun r24 w0_1 =>
  herdsmanlaw18_LruPlays.b3 Q r24 l_a l_n l_c any w0_1)
  (herdsmanlaw18_LruPlays.b3 Q k0 l_a l_n l_c any w))
  (herdsmanlaw18_LruPlays.b3 Q k0 l_a l_n l_c any w)
noncomputable def herdsmanlaw18_LruPlays.scr : Scrs := [(14, .op 0 (.op 1 (.op 3 (.op 4 (.op 2 (.op 6 (.op 5 (.op 7 (.op 8 (.op 9 .done)))))))))), (25, .op 0 (.op 1 (.op 2 (.op 3 (.op 4 (.op 6 (.op 7 (.op 8 (.op 9 (.op 10 (.op 5 (.op 11 (.op 12 .done))))))))))))), (27, .op 0 (.op 2 (.op 3 (.op 4 (.op 5 (.op 6 (.op 1 (.op 7 (.op 8 (.op 9 (.op 11 (.op 10 (.op 12 (.op 13 (.op 14 (.op 15 .done))))))))))))))))]
def herdsmanlaw18_LruPlays.R (Q : Bool → World → Prop) (ρ : Env) (w : World) : Prop := evRes (cx 139) Go.Proofs.Try.f4.results.toList ρ w fun vs => herdsmanlaw18_LruPlays.qv Q (resV vs) w
def herdsmanlaw18_LruPlays.d3 (K : Int → Option Addr → Nat → Nat → Bool → Prop) (ρ : Env) : Prop :=
  dI .i64 (ρ 0) fun k0 => dS (ρ 1) fun l_a l_n l_c => dB (ρ 2) fun any => K k0 l_a l_n l_c any
theorem herdsmanlaw18_LruPlays.d3_elim {K : Int → Option Addr → Nat → Nat → Bool → Prop} {ρ : Env} (h0 : herdsmanlaw18_LruPlays.d3 K ρ) : ∃ (k0 : Int) (l_a : Option Addr) (l_n : Nat) (l_c : Nat) (any : Bool), ρ 0 = .int .i64 k0 ∧ ρ 1 = .slice l_a l_n l_c ∧ ρ 2 = .bool any ∧ K k0 l_a l_n l_c any := by
  obtain ⟨k0, e0, h1⟩ := dI_elim h0
  obtain ⟨l_a, l_n, l_c, e1, h2⟩ := dS_elim h1
  obtain ⟨any, e2, h3⟩ := dB_elim h2
  exact ⟨k0, l_a, l_n, l_c, any, e0, e1, e2, h3⟩
def herdsmanlaw18_LruPlays.d10 (K : Int → Option Addr → Nat → Nat → Bool → Option Addr → Addr → Int → Prop) (ρ : Env) : Prop :=
  dI .i64 (ρ 0) fun k0 => dS (ρ 1) fun l_a l_n l_c => dB (ρ 2) fun any => dP (ρ 7) fun x => dP (ρ 8) fun w_p => wA w_p fun w0 => dI .i64 (ρ 9) fun i => K k0 l_a l_n l_c any x w0 i
theorem herdsmanlaw18_LruPlays.d10_elim {K : Int → Option Addr → Nat → Nat → Bool → Option Addr → Addr → Int → Prop} {ρ : Env} (h0 : herdsmanlaw18_LruPlays.d10 K ρ) : ∃ (k0 : Int) (l_a : Option Addr) (l_n : Nat) (l_c : Nat) (any : Bool) (x : Option Addr) (w0_1 : Addr) (i : Int), ρ 0 = .int .i64 k0 ∧ ρ 1 = .slice l_a l_n l_c ∧ ρ 2 = .bool any ∧ ρ 7 = .pointer x ∧ ρ 8 = .pointer (some w0_1) ∧ ρ 9 = .int .i64 i ∧ K k0 l_a l_n l_c any x w0_1 i := by
  obtain ⟨k0, e0, h1⟩ := dI_elim h0
  obtain ⟨l_a, l_n, l_c, e1, h2⟩ := dS_elim h1
  obtain ⟨any, e2, h3⟩ := dB_elim h2
  obtain ⟨x, e7, h4⟩ := dP_elim h3
  obtain ⟨w_p, e8, h5⟩ := dP_elim h4
  obtain ⟨w0, rfl, h6⟩ := wA_elim h5
  obtain ⟨i, e9, h7⟩ := dI_elim h6
  exact ⟨k0, l_a, l_n, l_c, any, x, w0, i, e0, e1, e2, e7, e8, e9, h7⟩
def herdsmanlaw18_LruPlays.d15 (K : Int → Option Addr → Nat → Nat → Bool → Option Addr → Addr → Int → Addr → Prop) (ρ : Env) : Prop :=
  dI .i64 (ρ 0) fun k0 => dS (ρ 1) fun l_a l_n l_c => dB (ρ 2) fun any => dP (ρ 7) fun x => dP (ρ 8) fun w_p => wA w_p fun w0 => dI .i64 (ρ 9) fun i => dP (ρ 10) fun q_p => wA q_p fun q => K k0 l_a l_n l_c any x w0 i q
theorem herdsmanlaw18_LruPlays.d15_elim {K : Int → Option Addr → Nat → Nat → Bool → Option Addr → Addr → Int → Addr → Prop} {ρ : Env} (h0 : herdsmanlaw18_LruPlays.d15 K ρ) : ∃ (k0 : Int) (l_a : Option Addr) (l_n : Nat) (l_c : Nat) (any : Bool) (x : Option Addr) (w0_1 : Addr) (i : Int) (q : Addr), ρ 0 = .int .i64 k0 ∧ ρ 1 = .slice l_a l_n l_c ∧ ρ 2 = .bool any ∧ ρ 7 = .pointer x ∧ ρ 8 = .pointer (some w0_1) ∧ ρ 9 = .int .i64 i ∧ ρ 10 = .pointer (some q) ∧ K k0 l_a l_n l_c any x w0_1 i q := by
  obtain ⟨k0, e0, h1⟩ := dI_elim h0
  obtain ⟨l_a, l_n, l_c, e1, h2⟩ := dS_elim h1
  obtain ⟨any, e2, h3⟩ := dB_elim h2
  obtain ⟨x, e7, h4⟩ := dP_elim h3
  obtain ⟨w_p, e8, h5⟩ := dP_elim h4
  obtain ⟨w0, rfl, h6⟩ := wA_elim h5
  obtain ⟨i, e9, h7⟩ := dI_elim h6
  obtain ⟨q_p, e10, h8⟩ := dP_elim h7
  obtain ⟨q, rfl, h9⟩ := wA_elim h8
  exact ⟨k0, l_a, l_n, l_c, any, x, w0, i, q, e0, e1, e2, e7, e8, e9, e10, h9⟩
def herdsmanlaw18_LruPlays.d25 (K : Int → Option Addr → Nat → Nat → Bool → Option Addr → Addr → Int → Addr → Prop) (ρ : Env) : Prop :=
  dI .i64 (ρ 0) fun k0 => dS (ρ 1) fun l_a l_n l_c => dB (ρ 2) fun any => dP (ρ 7) fun x => dP (ρ 8) fun w_p => wA w_p fun w0 => dI .i64 (ρ 9) fun i => dP (ρ 10) fun q_p => wA q_p fun q => K k0 l_a l_n l_c any x w0 i q
theorem herdsmanlaw18_LruPlays.d25_elim {K : Int → Option Addr → Nat → Nat → Bool → Option Addr → Addr → Int → Addr → Prop} {ρ : Env} (h0 : herdsmanlaw18_LruPlays.d25 K ρ) : ∃ (k0 : Int) (l_a : Option Addr) (l_n : Nat) (l_c : Nat) (any : Bool) (x : Option Addr) (w0_1 : Addr) (i : Int) (q : Addr), ρ 0 = .int .i64 k0 ∧ ρ 1 = .slice l_a l_n l_c ∧ ρ 2 = .bool any ∧ ρ 7 = .pointer x ∧ ρ 8 = .pointer (some w0_1) ∧ ρ 9 = .int .i64 i ∧ ρ 10 = .pointer (some q) ∧ K k0 l_a l_n l_c any x w0_1 i q := by
  obtain ⟨k0, e0, h1⟩ := dI_elim h0
  obtain ⟨l_a, l_n, l_c, e1, h2⟩ := dS_elim h1
  obtain ⟨any, e2, h3⟩ := dB_elim h2
  obtain ⟨x, e7, h4⟩ := dP_elim h3
  obtain ⟨w_p, e8, h5⟩ := dP_elim h4
  obtain ⟨w0, rfl, h6⟩ := wA_elim h5
  obtain ⟨i, e9, h7⟩ := dI_elim h6
  obtain ⟨q_p, e10, h8⟩ := dP_elim h7
  obtain ⟨q, rfl, h9⟩ := wA_elim h8
  exact ⟨k0, l_a, l_n, l_c, any, x, w0, i, q, e0, e1, e2, e7, e8, e9, e10, h9⟩
def herdsmanlaw18_LruPlays.d27 (K : Int → Option Addr → Nat → Nat → Bool → Option Addr → Addr → Int → Prop) (ρ : Env) : Prop :=
  dI .i64 (ρ 0) fun k0 => dS (ρ 1) fun l_a l_n l_c => dB (ρ 2) fun any => dP (ρ 7) fun x => dP (ρ 8) fun w_p => wA w_p fun w0 => dI .i64 (ρ 9) fun i => K k0 l_a l_n l_c any x w0 i
theorem herdsmanlaw18_LruPlays.d27_elim {K : Int → Option Addr → Nat → Nat → Bool → Option Addr → Addr → Int → Prop} {ρ : Env} (h0 : herdsmanlaw18_LruPlays.d27 K ρ) : ∃ (k0 : Int) (l_a : Option Addr) (l_n : Nat) (l_c : Nat) (any : Bool) (x : Option Addr) (w0_1 : Addr) (i : Int), ρ 0 = .int .i64 k0 ∧ ρ 1 = .slice l_a l_n l_c ∧ ρ 2 = .bool any ∧ ρ 7 = .pointer x ∧ ρ 8 = .pointer (some w0_1) ∧ ρ 9 = .int .i64 i ∧ K k0 l_a l_n l_c any x w0_1 i := by
  obtain ⟨k0, e0, h1⟩ := dI_elim h0
  obtain ⟨l_a, l_n, l_c, e1, h2⟩ := dS_elim h1
  obtain ⟨any, e2, h3⟩ := dB_elim h2
  obtain ⟨x, e7, h4⟩ := dP_elim h3
  obtain ⟨w_p, e8, h5⟩ := dP_elim h4
  obtain ⟨w0, rfl, h6⟩ := wA_elim h5
  obtain ⟨i, e9, h7⟩ := dI_elim h6
  exact ⟨k0, l_a, l_n, l_c, any, x, w0, i, e0, e1, e2, e7, e8, e9, h7⟩
set_option maxRecDepth 100000 in
theorem herdsmanlaw18_LruPlays.f27 (P10 : Int → Option Addr → Nat → Nat → Bool → Option Addr → Addr → Int → World → Prop) (Q : Bool → World → Prop) (HP10 : ∀ k0 l_a l_n l_c any x w0_1 i w, P10 k0 l_a l_n l_c any x w0_1 i w → ∀ ρ : Env, ρ 0 = .int .i64 k0 → ρ 1 = .slice l_a l_n l_c → ρ 2 = .bool any → ρ 7 = .pointer x → ρ 8 = .pointer (some w0_1) → ρ 9 = .int .i64 i → Fin (cx 139) (todoOf Go.Proofs.Try.f4 10) ρ w (herdsmanlaw18_LruPlays.R Q)) : ∀ k0 l_a l_n l_c any x w0_1 i w, herdsmanlaw18_LruPlays.b27 P10 Q k0 l_a l_n l_c any x w0_1 i w → ∀ ρ : Env, ρ 0 = .int .i64 k0 → ρ 1 = .slice l_a l_n l_c → ρ 2 = .bool any → ρ 7 = .pointer x → ρ 8 = .pointer (some w0_1) → ρ 9 = .int .i64 i → Fin (cx 139) (todoOf Go.Proofs.Try.f4 27) ρ w (herdsmanlaw18_LruPlays.R Q) := by
  intro k0 l_a l_n l_c any x w0_1 i w h ρ e0 e1 e2 e7 e8 e9
  refine Fin.cut (ρ' := put (put (put (put (put (put (ρ) (some 0) (.int .i64 k0)) (some 1) (.slice l_a l_n l_c)) (some 2) (.bool any)) (some 7) (.pointer x)) (some 8) (.pointer (some w0_1))) (some 9) (.int .i64 i)) ?_ (by rw [put_id e0, put_id e1, put_id e2, put_id e7, put_id e8, put_id e9])
  refine evT_sound (ok 139) (drawD_sound (ok 139) herdsmanlaw18_LruPlays.scr) 600 (L := [(10, fun ρ w => herdsmanlaw18_LruPlays.d10 (fun k0 l_a l_n l_c any x w0_1 i => P10 k0 l_a l_n l_c any x w0_1 i w) ρ)]) (leaf_of (fn := Go.Proofs.Try.f4) [10] (by kernel_rfl) ⟨fun ρ w h => by obtain ⟨k0, l_a, l_n, l_c, any, x, w0_1, i, e0, e1, e2, e7, e8, e9, h⟩ := herdsmanlaw18_LruPlays.d10_elim (ρ := ρ) h; exact HP10 k0 l_a l_n l_c any x w0_1 i w h ρ e0 e1 e2 e7 e8 e9, trivial⟩) (castK h (by kernel_rfl))
set_option maxRecDepth 100000 in
theorem herdsmanlaw18_LruPlays.f25 (P10 : Int → Option Addr → Nat → Nat → Bool → Option Addr → Addr → Int → World → Prop) (Q : Bool → World → Prop) (HP10 : ∀ k0 l_a l_n l_c any x w0_1 i w, P10 k0 l_a l_n l_c any x w0_1 i w → ∀ ρ : Env, ρ 0 = .int .i64 k0 → ρ 1 = .slice l_a l_n l_c → ρ 2 = .bool any → ρ 7 = .pointer x → ρ 8 = .pointer (some w0_1) → ρ 9 = .int .i64 i → Fin (cx 139) (todoOf Go.Proofs.Try.f4 10) ρ w (herdsmanlaw18_LruPlays.R Q)) : ∀ k0 l_a l_n l_c any x w0_1 i q w, herdsmanlaw18_LruPlays.b25 P10 Q k0 l_a l_n l_c any x w0_1 i q w → ∀ ρ : Env, ρ 0 = .int .i64 k0 → ρ 1 = .slice l_a l_n l_c → ρ 2 = .bool any → ρ 7 = .pointer x → ρ 8 = .pointer (some w0_1) → ρ 9 = .int .i64 i → ρ 10 = .pointer (some q) → Fin (cx 139) (todoOf Go.Proofs.Try.f4 25) ρ w (herdsmanlaw18_LruPlays.R Q) := by
  intro k0 l_a l_n l_c any x w0_1 i q w h ρ e0 e1 e2 e7 e8 e9 e10
  refine Fin.cut (ρ' := put (put (put (put (put (put (put (ρ) (some 0) (.int .i64 k0)) (some 1) (.slice l_a l_n l_c)) (some 2) (.bool any)) (some 7) (.pointer x)) (some 8) (.pointer (some w0_1))) (some 9) (.int .i64 i)) (some 10) (.pointer (some q))) ?_ (by rw [put_id e0, put_id e1, put_id e2, put_id e7, put_id e8, put_id e9, put_id e10])
  refine evT_sound (ok 139) (drawD_sound (ok 139) herdsmanlaw18_LruPlays.scr) 600 (L := [(27, fun ρ w => herdsmanlaw18_LruPlays.d27 (fun k0 l_a l_n l_c any x w0_1 i => herdsmanlaw18_LruPlays.b27 P10 Q k0 l_a l_n l_c any x w0_1 i w) ρ)]) (leaf_of (fn := Go.Proofs.Try.f4) [27] (by kernel_rfl) ⟨fun ρ w h => by obtain ⟨k0, l_a, l_n, l_c, any, x, w0_1, i, e0, e1, e2, e7, e8, e9, h⟩ := herdsmanlaw18_LruPlays.d27_elim (ρ := ρ) h; exact herdsmanlaw18_LruPlays.f27 P10 Q HP10 k0 l_a l_n l_c any x w0_1 i w h ρ e0 e1 e2 e7 e8 e9, trivial⟩) (castK h (by kernel_rfl))
set_option maxRecDepth 100000 in
theorem herdsmanlaw18_LruPlays.f15 (P10 : Int → Option Addr → Nat → Nat → Bool → Option Addr → Addr → Int → World → Prop) (Q : Bool → World → Prop) (HP10 : ∀ k0 l_a l_n l_c any x w0_1 i w, P10 k0 l_a l_n l_c any x w0_1 i w → ∀ ρ : Env, ρ 0 = .int .i64 k0 → ρ 1 = .slice l_a l_n l_c → ρ 2 = .bool any → ρ 7 = .pointer x → ρ 8 = .pointer (some w0_1) → ρ 9 = .int .i64 i → Fin (cx 139) (todoOf Go.Proofs.Try.f4 10) ρ w (herdsmanlaw18_LruPlays.R Q)) : ∀ k0 l_a l_n l_c any x w0_1 i q w, herdsmanlaw18_LruPlays.b15 P10 Q k0 l_a l_n l_c any x w0_1 i q w → ∀ ρ : Env, ρ 0 = .int .i64 k0 → ρ 1 = .slice l_a l_n l_c → ρ 2 = .bool any → ρ 7 = .pointer x → ρ 8 = .pointer (some w0_1) → ρ 9 = .int .i64 i → ρ 10 = .pointer (some q) → Fin (cx 139) (todoOf Go.Proofs.Try.f4 15) ρ w (herdsmanlaw18_LruPlays.R Q) := by
  intro k0 l_a l_n l_c any x w0_1 i q w h ρ e0 e1 e2 e7 e8 e9 e10
  refine Fin.cut (ρ' := put (put (put (put (put (put (put (ρ) (some 0) (.int .i64 k0)) (some 1) (.slice l_a l_n l_c)) (some 2) (.bool any)) (some 7) (.pointer x)) (some 8) (.pointer (some w0_1))) (some 9) (.int .i64 i)) (some 10) (.pointer (some q))) ?_ (by rw [put_id e0, put_id e1, put_id e2, put_id e7, put_id e8, put_id e9, put_id e10])
  refine evT_sound (ok 139) (drawD_sound (ok 139) herdsmanlaw18_LruPlays.scr) 600 (L := [(25, fun ρ w => herdsmanlaw18_LruPlays.d25 (fun k0 l_a l_n l_c any x w0_1 i q => herdsmanlaw18_LruPlays.b25 P10 Q k0 l_a l_n l_c any x w0_1 i q w) ρ), (27, fun ρ w => herdsmanlaw18_LruPlays.d27 (fun k0 l_a l_n l_c any x w0_1 i => herdsmanlaw18_LruPlays.b27 P10 Q k0 l_a l_n l_c any x w0_1 i w) ρ)]) (leaf_of (fn := Go.Proofs.Try.f4) [27, 25, 27, 25, 27] (by kernel_rfl) ⟨fun ρ w h => by obtain ⟨k0, l_a, l_n, l_c, any, x, w0_1, i, q, e0, e1, e2, e7, e8, e9, e10, h⟩ := herdsmanlaw18_LruPlays.d25_elim (ρ := ρ) h; exact herdsmanlaw18_LruPlays.f25 P10 Q HP10 k0 l_a l_n l_c any x w0_1 i q w h ρ e0 e1 e2 e7 e8 e9 e10, fun ρ w h => by obtain ⟨k0, l_a, l_n, l_c, any, x, w0_1, i, e0, e1, e2, e7, e8, e9, h⟩ := herdsmanlaw18_LruPlays.d27_elim (ρ := ρ) h; exact herdsmanlaw18_LruPlays.f27 P10 Q HP10 k0 l_a l_n l_c any x w0_1 i w h ρ e0 e1 e2 e7 e8 e9, trivial⟩) (castK h (by kernel_rfl))
set_option maxRecDepth 100000 in
theorem herdsmanlaw18_LruPlays.f10 (Q : Bool → World → Prop) : ∀ k k0 l_a l_n l_c any x w0_1 i w, herdsmanlaw18_LruPlays.b10 Q k k0 l_a l_n l_c any x w0_1 i w → ∀ ρ : Env, ρ 0 = .int .i64 k0 → ρ 1 = .slice l_a l_n l_c → ρ 2 = .bool any → ρ 7 = .pointer x → ρ 8 = .pointer (some w0_1) → ρ 9 = .int .i64 i → Fin (cx 139) (todoOf Go.Proofs.Try.f4 10) ρ w (herdsmanlaw18_LruPlays.R Q) := by
  intro k
  induction k with
  | zero => intro k0 l_a l_n l_c any x w0_1 i w h; exact h.elim
  | succ k ih =>
    intro k0 l_a l_n l_c any x w0_1 i w h ρ e0 e1 e2 e7 e8 e9
    have h : herdsmanlaw18_LruPlays.s10 Q (herdsmanlaw18_LruPlays.b10 Q k) k0 l_a l_n l_c any x w0_1 i w := h
    refine Fin.cut (ρ' := put (put (put (put (put (put (ρ) (some 0) (.int .i64 k0)) (some 1) (.slice l_a l_n l_c)) (some 2) (.bool any)) (some 7) (.pointer x)) (some 8) (.pointer (some w0_1))) (some 9) (.int .i64 i)) ?_ (by rw [put_id e0, put_id e1, put_id e2, put_id e7, put_id e8, put_id e9])
    refine evT_sound (ok 139) (drawD_sound (ok 139) herdsmanlaw18_LruPlays.scr) 600 (L := [(15, fun ρ w => herdsmanlaw18_LruPlays.d15 (fun k0 l_a l_n l_c any x w0_1 i q => herdsmanlaw18_LruPlays.b15 (herdsmanlaw18_LruPlays.b10 Q k) Q k0 l_a l_n l_c any x w0_1 i q w) ρ)]) (leaf_of (fn := Go.Proofs.Try.f4) [15, 15] (by kernel_rfl) ⟨fun ρ w h => by obtain ⟨k0, l_a, l_n, l_c, any, x, w0_1, i, q, e0, e1, e2, e7, e8, e9, e10, h⟩ := herdsmanlaw18_LruPlays.d15_elim (ρ := ρ) h; exact herdsmanlaw18_LruPlays.f15 (herdsmanlaw18_LruPlays.b10 Q k) Q ih k0 l_a l_n l_c any x w0_1 i q w h ρ e0 e1 e2 e7 e8 e9 e10, trivial⟩) (castK h (by kernel_rfl))
set_option maxRecDepth 100000 in
theorem herdsmanlaw18_LruPlays.f3 (Q : Bool → World → Prop) : ∀ k0 l_a l_n l_c any w, herdsmanlaw18_LruPlays.b3 Q k0 l_a l_n l_c any w → ∀ ρ : Env, ρ 0 = .int .i64 k0 → ρ 1 = .slice l_a l_n l_c → ρ 2 = .bool any → Fin (cx 139) (todoOf Go.Proofs.Try.f4 3) ρ w (herdsmanlaw18_LruPlays.R Q) := by
  intro k0 l_a l_n l_c any w h ρ e0 e1 e2
  refine Fin.cut (ρ' := put (put (put (ρ) (some 0) (.int .i64 k0)) (some 1) (.slice l_a l_n l_c)) (some 2) (.bool any)) ?_ (by rw [put_id e0, put_id e1, put_id e2])
  refine evT_sound (ok 139) (drawD_sound (ok 139) herdsmanlaw18_LruPlays.scr) 600 (L := [(10, fun ρ w => herdsmanlaw18_LruPlays.d10 (fun k0 l_a l_n l_c any x w0_1 i => ∃ k', herdsmanlaw18_LruPlays.b10 Q k' k0 l_a l_n l_c any x w0_1 i w) ρ)]) (leaf_of (fn := Go.Proofs.Try.f4) [10] (by kernel_rfl) ⟨fun ρ w h => by obtain ⟨k0, l_a, l_n, l_c, any, x, w0_1, i, e0, e1, e2, e7, e8, e9, h⟩ := herdsmanlaw18_LruPlays.d10_elim (ρ := ρ) h; obtain ⟨k', h⟩ := h; exact herdsmanlaw18_LruPlays.f10 Q k' k0 l_a l_n l_c any x w0_1 i w h ρ e0 e1 e2 e7 e8 e9, trivial⟩) (castK h (by kernel_rfl))
set_option maxRecDepth 100000 in
theorem herdsmanlaw18_LruPlays.body (k0 : Int) (l_a : Option Addr) (l_n : Nat) (l_c : Nat) (any : Bool) (w : World) (Q : Bool → World → Prop) (h : herdsmanlaw18_LruPlays.sh k0 l_a l_n l_c any w Q) : herdsmanlaw18_LruPlays.call k0 l_a l_n l_c any w Q := by
  refine call_fn (ok 139) (fn := Go.Proofs.Try.f4) (args := [.int .i64 k0, .slice l_a l_n l_c, .bool any]) (K := herdsmanlaw18_LruPlays.qv Q) Go.Proofs.Try.func4 (by kernel_rfl) (by kernel_rfl) (by kernel_rfl) ?_
  refine evT_sound (ok 139) (drawD_sound (ok 139) herdsmanlaw18_LruPlays.scr) 600 (L := [(3, fun ρ w => herdsmanlaw18_LruPlays.d3 (fun k0 l_a l_n l_c any => herdsmanlaw18_LruPlays.b3 Q k0 l_a l_n l_c any w) ρ)]) (leaf_of (fn := Go.Proofs.Try.f4) [3, 3] (by kernel_rfl) ⟨fun ρ w h => by obtain ⟨k0, l_a, l_n, l_c, any, e0, e1, e2, h⟩ := herdsmanlaw18_LruPlays.d3_elim (ρ := ρ) h; exact herdsmanlaw18_LruPlays.f3 Q k0 l_a l_n l_c any w h ρ e0 e1 e2, trivial⟩) (castK h (by kernel_rfl))
/-! ### 5 herdsman/herdsmanlaw18.LruSlots -/
def herdsmanlaw18_LruSlots.s29 (P12 : Option Addr → Nat → Nat → Int → Option Addr → Addr → Int → World → Prop) (Q : Bool → World → Prop) (R29 : Option Addr → Nat → Nat → Int → Option Addr → Addr → Int → Int → Int → World → Prop) (l_a : Option Addr) (l_n : Nat) (l_c : Nat) (n : Int) (x : Option Addr) (slots : Addr) (i : Int) (many : Int) (t109 : Int) (w : World) : Prop :=
  cond (decide (t109 < 12))
  (InB t109 12 <|
  LdI .i64 (slots.add (t109.toNat * 1)) w.drew fun x117 =>
  lru_Lru_Find.call x t109 1 w.drew fun r114 w0_1 =>
  w0_1.cell? (slots.add (t109.toNat * 1)) = some (.int .i64 x117) ∧
  cond (r114 != x117)
  (Q false w0_1)
  (InB t109 12 <|
  LdI .i64 (slots.add (t109.toNat * 1)) w0_1 fun x121 =>
  cond (decide (x121 ≥ 0))
  (R29 l_a l_n l_c n x slots i (IntKind.wrap .i64 (many + 1)) (IntKind.wrap .i64 (t109 + 1)) w0_1)
  (R29 l_a l_n l_c n x slots i many (IntKind.wrap .i64 (t109 + 1)) w0_1)))
  (lru_Lru_Len.call x w fun r128 w0_2 =>
  cond (many != r128)
  (Q false w0_2)
  (cond (decide (many > n))
  (Q false w0_2)
  (P12 l_a l_n l_c n x slots (IntKind.wrap .i64 (i + 1)) w0_2)))
def herdsmanlaw18_LruSlots.b29 (P12 : Option Addr → Nat → Nat → Int → Option Addr → Addr → Int → World → Prop) (Q : Bool → World → Prop) : Nat → Option Addr → Nat → Nat → Int → Option Addr → Addr → Int → Int → Int → World → Prop
  | 0, _, _, _, _, _, _, _, _, _, _ => False
  | k + 1, l_a, l_n, l_c, n, x, slots, i, many, t109, w => herdsmanlaw18_LruSlots.s29 P12 Q (herdsmanlaw18_LruSlots.b29 P12 Q k) l_a l_n l_c n x slots i many t109 w
def herdsmanlaw18_LruSlots.s19 (P12 : Option Addr → Nat → Nat → Int → Option Addr → Addr → Int → World → Prop) (Q : Bool → World → Prop) (R19 : Option Addr → Nat → Nat → Int → Option Addr → Addr → Int → Int → Int → Bool → Int → World → Prop) (l_a : Option Addr) (l_n : Nat) (l_c : Nat) (n : Int) (x : Option Addr) (slots : Addr) (i : Int) (a : Int) (s0 : Int) (out0 : Bool) (t82 : Int) (w : World) : Prop :=
  cond (decide (t82 < 12))
  (cond (t82 != a)
  (InB t82 12 <|
  LdI .i64 (slots.add (t82.toNat * 1)) w fun x91 =>
  cond (x91 == s0)
  (cond (!out0)
  (Q false w)
  (lru_Lru_Find.call x t82 1 w fun r100 w0_1 =>
  cond (r100 != (-1))
  (Q false w0_1)
  (InB t82 12 <|
  St (slots.add (t82.toNat * 1)) (.int .i64 (-1)) w0_1 fun w0_2 =>
  R19 l_a l_n l_c n x slots i a s0 out0 (IntKind.wrap .i64 (t82 + 1)) w0_2)))
  (R19 l_a l_n l_c n x slots i a s0 out0 (IntKind.wrap .i64 (t82 + 1)) w))
  (R19 l_a l_n l_c n x slots i a s0 out0 (IntKind.wrap .i64 (t82 + 1)) w))
  (InB a 12 <|
  St (slots.add (a.toNat * 1)) (.int .i64 s0) w fun w0_3 =>
  ∃ k', herdsmanlaw18_LruSlots.b29 P12 Q k' l_a l_n l_c n x slots i 0 0 w0_3)
def herdsmanlaw18_LruSlots.b19 (P12 : Option Addr → Nat → Nat → Int → Option Addr → Addr → Int → World → Prop) (Q : Bool → World → Prop) : Nat → Option Addr → Nat → Nat → Int → Option Addr → Addr → Int → Int → Int → Bool → Int → World → Prop
  | 0, _, _, _, _, _, _, _, _, _, _, _, _ => False
  | k + 1, l_a, l_n, l_c, n, x, slots, i, a, s0, out0, t82, w => herdsmanlaw18_LruSlots.s19 P12 Q (herdsmanlaw18_LruSlots.b19 P12 Q k) l_a l_n l_c n x slots i a s0 out0 t82 w
def herdsmanlaw18_LruSlots.s12 (Q : Bool → World → Prop) (R12 : Option Addr → Nat → Nat → Int → Option Addr → Addr → Int → World → Prop) (l_a : Option Addr) (l_n : Nat) (l_c : Nat) (n : Int) (x : Option Addr) (slots : Addr) (i : Int) (w : World) : Prop :=
  cond (decide (i < (l_n : Int)))
  (cond (decide (i < 60))
  (InB i l_n <|
  wA l_a fun p =>
  LdI .i64 (p.add (i.toNat * 1)) w fun x42 =>
  herdsmanref1_Within.call x42 0 11 w fun r43 w0_1 =>
  lru_Lru_Use.call x r43 1 w0_1 fun r47_slot r47_had r47_out w0_2 =>
  cond (decide (r47_slot < 0))
  (Q false w0_2)
  (cond (decide (r47_slot ≥ n))
  (Q false w0_2)
  (InB r43 12 <|
  LdI .i64 (slots.add (r43.toNat * 1)) w0_2 fun x62 =>
  cond (!(r47_had == (decide (x62 ≥ 0))))
  (Q false w0_2)
  (cond r47_had
  (InB r43 12 <|
  LdI .i64 (slots.add (r43.toNat * 1)) w0_2 fun x72 =>
  cond (r47_slot != x72)
  (Q false w0_2)
  (cond r47_had
  (cond r47_out
  (Q false w0_2)
  (∃ k', herdsmanlaw18_LruSlots.b19 R12 Q k' l_a l_n l_c n x slots i r43 r47_slot r47_out 0 w0_2))
  (∃ k', herdsmanlaw18_LruSlots.b19 R12 Q k' l_a l_n l_c n x slots i r43 r47_slot r47_out 0 w0_2)))
  (cond r47_had
  (cond r47_out
  (Q false w0_2)
  (∃ k', herdsmanlaw18_LruSlots.b19 R12 Q k' l_a l_n l_c n x slots i r43 r47_slot r47_out 0 w0_2))
  (∃ k', herdsmanlaw18_LruSlots.b19 R12 Q k' l_a l_n l_c n x slots i r43 r47_slot r47_out 0 w0_2))))))
  (herdsmanlaw18_told.call w fun r135 w0_3 =>
  Q r135 w0_3))
  (herdsmanlaw18_told.call w fun r135_1 w0_4 =>
  Q r135_1 w0_4)
def herdsmanlaw18_LruSlots.b12 (Q : Bool → World → Prop) : Nat → Option Addr → Nat → Nat → Int → Option Addr → Addr → Int → World → Prop
  | 0, _, _, _, _, _, _, _, _ => False
  | k + 1, l_a, l_n, l_c, n, x, slots, i, w => herdsmanlaw18_LruSlots.s12 Q (herdsmanlaw18_LruSlots.b12 Q k) l_a l_n l_c n x slots i w
def herdsmanlaw18_LruSlots.s7 (Q : Bool → World → Prop) (R7 : Option Addr → Nat → Nat → Int → Option Addr → Addr → Int → World → Prop) (l_a : Option Addr) (l_n : Nat) (l_c : Nat) (n : Int) (x : Option Addr) (slots : Addr) (t23 : Int) (w : World) : Prop :=
  cond (decide (t23 < 12))
  (InB t23 12 <|
  St (slots.add (t23.toNat * 1)) (.int .i64 (-1)) w fun w0_1 =>
  R7 l_a l_n l_c n x slots (IntKind.wrap .i64 (t23 + 1)) w0_1)
  (∃ k', herdsmanlaw18_LruSlots.b12 Q k' l_a l_n l_c n x slots 0 w)
def herdsmanlaw18_LruSlots.b7 (Q : Bool → World → Prop) : Nat → Option Addr → Nat → Nat → Int → Option Addr → Addr → Int → World → Prop
  | 0, _, _, _, _, _, _, _, _ => False
  | k + 1, l_a, l_n, l_c, n, x, slots, t23, w => herdsmanlaw18_LruSlots.s7 Q (herdsmanlaw18_LruSlots.b7 Q k) l_a l_n l_c n x slots t23 w
def herdsmanlaw18_LruSlots.sh (k0 : Int) (l_a : Option Addr) (l_n : Nat) (l_c : Nat) (w : World) (Q : Bool → World → Prop) : Prop :=
  herdsmanref1_Within.call k0 1 9 w fun r18 w0_1 =>
  lru_New.call r18 w0_1 fun r20 w0_2 =>
  cond r20.isNone
  (Q false w0_2)
  (Al T 44 w0_2 fun slots w0_3 =>
  ∃ k', herdsmanlaw18_LruSlots.b7 Q k' l_a l_n l_c r18 r20 slots 0 w0_3)
noncomputable def herdsmanlaw18_LruSlots.scr : Scrs := [(31, .op 0 (.op 1 (.op 3 (.op 4 (.op 5 (.op 2 (.op 6 .done)))))))]
def herdsmanlaw18_LruSlots.R (Q : Bool → World → Prop) (ρ : Env) (w : World) : Prop := evRes (cx 136) Go.Proofs.Try.f5.results.toList ρ w fun vs => herdsmanlaw18_LruSlots.qv Q (resV vs) w
def herdsmanlaw18_LruSlots.d7 (K : Option Addr → Nat → Nat → Int → Option Addr → Addr → Int → Prop) (ρ : Env) : Prop :=
  dS (ρ 1) fun l_a l_n l_c => dI .i64 (ρ 5) fun n => dP (ρ 6) fun x => dP (ρ 7) fun slots_p => wA slots_p fun slots => dI .i64 (ρ 23) fun t23 => K l_a l_n l_c n x slots t23
theorem herdsmanlaw18_LruSlots.d7_elim {K : Option Addr → Nat → Nat → Int → Option Addr → Addr → Int → Prop} {ρ : Env} (h0 : herdsmanlaw18_LruSlots.d7 K ρ) : ∃ (l_a : Option Addr) (l_n : Nat) (l_c : Nat) (n : Int) (x : Option Addr) (slots : Addr) (t23 : Int), ρ 1 = .slice l_a l_n l_c ∧ ρ 5 = .int .i64 n ∧ ρ 6 = .pointer x ∧ ρ 7 = .pointer (some slots) ∧ ρ 23 = .int .i64 t23 ∧ K l_a l_n l_c n x slots t23 := by
  obtain ⟨l_a, l_n, l_c, e1, h1⟩ := dS_elim h0
  obtain ⟨n, e5, h2⟩ := dI_elim h1
  obtain ⟨x, e6, h3⟩ := dP_elim h2
  obtain ⟨slots_p, e7, h4⟩ := dP_elim h3
  obtain ⟨slots, rfl, h5⟩ := wA_elim h4
  obtain ⟨t23, e23, h6⟩ := dI_elim h5
  exact ⟨l_a, l_n, l_c, n, x, slots, t23, e1, e5, e6, e7, e23, h6⟩
def herdsmanlaw18_LruSlots.d12 (K : Option Addr → Nat → Nat → Int → Option Addr → Addr → Int → Prop) (ρ : Env) : Prop :=
  dS (ρ 1) fun l_a l_n l_c => dI .i64 (ρ 5) fun n => dP (ρ 6) fun x => dP (ρ 7) fun slots_p => wA slots_p fun slots => dI .i64 (ρ 9) fun i => K l_a l_n l_c n x slots i
theorem herdsmanlaw18_LruSlots.d12_elim {K : Option Addr → Nat → Nat → Int → Option Addr → Addr → Int → Prop} {ρ : Env} (h0 : herdsmanlaw18_LruSlots.d12 K ρ) : ∃ (l_a : Option Addr) (l_n : Nat) (l_c : Nat) (n : Int) (x : Option Addr) (slots : Addr) (i : Int), ρ 1 = .slice l_a l_n l_c ∧ ρ 5 = .int .i64 n ∧ ρ 6 = .pointer x ∧ ρ 7 = .pointer (some slots) ∧ ρ 9 = .int .i64 i ∧ K l_a l_n l_c n x slots i := by
  obtain ⟨l_a, l_n, l_c, e1, h1⟩ := dS_elim h0
  obtain ⟨n, e5, h2⟩ := dI_elim h1
  obtain ⟨x, e6, h3⟩ := dP_elim h2
  obtain ⟨slots_p, e7, h4⟩ := dP_elim h3
  obtain ⟨slots, rfl, h5⟩ := wA_elim h4
  obtain ⟨i, e9, h6⟩ := dI_elim h5
  exact ⟨l_a, l_n, l_c, n, x, slots, i, e1, e5, e6, e7, e9, h6⟩
def herdsmanlaw18_LruSlots.d19 (K : Option Addr → Nat → Nat → Int → Option Addr → Addr → Int → Int → Int → Bool → Int → Prop) (ρ : Env) : Prop :=
  dS (ρ 1) fun l_a l_n l_c => dI .i64 (ρ 5) fun n => dP (ρ 6) fun x => dP (ρ 7) fun slots_p => wA slots_p fun slots => dI .i64 (ρ 9) fun i => dI .i64 (ρ 10) fun a => dI .i64 (ρ 11) fun s0 => dB (ρ 13) fun out0 => dI .i64 (ρ 82) fun t82 => K l_a l_n l_c n x slots i a s0 out0 t82
theorem herdsmanlaw18_LruSlots.d19_elim {K : Option Addr → Nat → Nat → Int → Option Addr → Addr → Int → Int → Int → Bool → Int → Prop} {ρ : Env} (h0 : herdsmanlaw18_LruSlots.d19 K ρ) : ∃ (l_a : Option Addr) (l_n : Nat) (l_c : Nat) (n : Int) (x : Option Addr) (slots : Addr) (i : Int) (a : Int) (s0 : Int) (out0 : Bool) (t82 : Int), ρ 1 = .slice l_a l_n l_c ∧ ρ 5 = .int .i64 n ∧ ρ 6 = .pointer x ∧ ρ 7 = .pointer (some slots) ∧ ρ 9 = .int .i64 i ∧ ρ 10 = .int .i64 a ∧ ρ 11 = .int .i64 s0 ∧ ρ 13 = .bool out0 ∧ ρ 82 = .int .i64 t82 ∧ K l_a l_n l_c n x slots i a s0 out0 t82 := by
  obtain ⟨l_a, l_n, l_c, e1, h1⟩ := dS_elim h0
  obtain ⟨n, e5, h2⟩ := dI_elim h1
  obtain ⟨x, e6, h3⟩ := dP_elim h2
  obtain ⟨slots_p, e7, h4⟩ := dP_elim h3
  obtain ⟨slots, rfl, h5⟩ := wA_elim h4
  obtain ⟨i, e9, h6⟩ := dI_elim h5
  obtain ⟨a, e10, h7⟩ := dI_elim h6
  obtain ⟨s0, e11, h8⟩ := dI_elim h7
  obtain ⟨out0, e13, h9⟩ := dB_elim h8
  obtain ⟨t82, e82, h10⟩ := dI_elim h9
  exact ⟨l_a, l_n, l_c, n, x, slots, i, a, s0, out0, t82, e1, e5, e6, e7, e9, e10, e11, e13, e82, h10⟩
def herdsmanlaw18_LruSlots.d29 (K : Option Addr → Nat → Nat → Int → Option Addr → Addr → Int → Int → Int → Prop) (ρ : Env) : Prop :=
  dS (ρ 1) fun l_a l_n l_c => dI .i64 (ρ 5) fun n => dP (ρ 6) fun x => dP (ρ 7) fun slots_p => wA slots_p fun slots => dI .i64 (ρ 9) fun i => dI .i64 (ρ 15) fun many => dI .i64 (ρ 109) fun t109 => K l_a l_n l_c n x slots i many t109
theorem herdsmanlaw18_LruSlots.d29_elim {K : Option Addr → Nat → Nat → Int → Option Addr → Addr → Int → Int → Int → Prop} {ρ : Env} (h0 : herdsmanlaw18_LruSlots.d29 K ρ) : ∃ (l_a : Option Addr) (l_n : Nat) (l_c : Nat) (n : Int) (x : Option Addr) (slots : Addr) (i : Int) (many : Int) (t109 : Int), ρ 1 = .slice l_a l_n l_c ∧ ρ 5 = .int .i64 n ∧ ρ 6 = .pointer x ∧ ρ 7 = .pointer (some slots) ∧ ρ 9 = .int .i64 i ∧ ρ 15 = .int .i64 many ∧ ρ 109 = .int .i64 t109 ∧ K l_a l_n l_c n x slots i many t109 := by
  obtain ⟨l_a, l_n, l_c, e1, h1⟩ := dS_elim h0
  obtain ⟨n, e5, h2⟩ := dI_elim h1
  obtain ⟨x, e6, h3⟩ := dP_elim h2
  obtain ⟨slots_p, e7, h4⟩ := dP_elim h3
  obtain ⟨slots, rfl, h5⟩ := wA_elim h4
  obtain ⟨i, e9, h6⟩ := dI_elim h5
  obtain ⟨many, e15, h7⟩ := dI_elim h6
  obtain ⟨t109, e109, h8⟩ := dI_elim h7
  exact ⟨l_a, l_n, l_c, n, x, slots, i, many, t109, e1, e5, e6, e7, e9, e15, e109, h8⟩
set_option maxRecDepth 100000 in
theorem herdsmanlaw18_LruSlots.f29 (P12 : Option Addr → Nat → Nat → Int → Option Addr → Addr → Int → World → Prop) (Q : Bool → World → Prop) (HP12 : ∀ l_a l_n l_c n x slots i w, P12 l_a l_n l_c n x slots i w → ∀ ρ : Env, ρ 1 = .slice l_a l_n l_c → ρ 5 = .int .i64 n → ρ 6 = .pointer x → ρ 7 = .pointer (some slots) → ρ 9 = .int .i64 i → Fin (cx 136) (todoOf Go.Proofs.Try.f5 12) ρ w (herdsmanlaw18_LruSlots.R Q)) : ∀ k l_a l_n l_c n x slots i many t109 w, herdsmanlaw18_LruSlots.b29 P12 Q k l_a l_n l_c n x slots i many t109 w → ∀ ρ : Env, ρ 1 = .slice l_a l_n l_c → ρ 5 = .int .i64 n → ρ 6 = .pointer x → ρ 7 = .pointer (some slots) → ρ 9 = .int .i64 i → ρ 15 = .int .i64 many → ρ 109 = .int .i64 t109 → Fin (cx 136) (todoOf Go.Proofs.Try.f5 29) ρ w (herdsmanlaw18_LruSlots.R Q) := by
  intro k
  induction k with
  | zero => intro l_a l_n l_c n x slots i many t109 w h; exact h.elim
  | succ k ih =>
    intro l_a l_n l_c n x slots i many t109 w h ρ e1 e5 e6 e7 e9 e15 e109
    have h : herdsmanlaw18_LruSlots.s29 P12 Q (herdsmanlaw18_LruSlots.b29 P12 Q k) l_a l_n l_c n x slots i many t109 w := h
    refine Fin.cut (ρ' := put (put (put (put (put (put (put (ρ) (some 1) (.slice l_a l_n l_c)) (some 5) (.int .i64 n)) (some 6) (.pointer x)) (some 7) (.pointer (some slots))) (some 9) (.int .i64 i)) (some 15) (.int .i64 many)) (some 109) (.int .i64 t109)) ?_ (by rw [put_id e1, put_id e5, put_id e6, put_id e7, put_id e9, put_id e15, put_id e109])
    refine evT_sound (ok 136) (drawD_sound (ok 136) herdsmanlaw18_LruSlots.scr) 600 (L := [(12, fun ρ w => herdsmanlaw18_LruSlots.d12 (fun l_a l_n l_c n x slots i => P12 l_a l_n l_c n x slots i w) ρ), (29, fun ρ w => herdsmanlaw18_LruSlots.d29 (fun l_a l_n l_c n x slots i many t109 => herdsmanlaw18_LruSlots.b29 P12 Q k l_a l_n l_c n x slots i many t109 w) ρ)]) (leaf_of (fn := Go.Proofs.Try.f5) [29, 29, 12] (by kernel_rfl) ⟨fun ρ w h => by obtain ⟨l_a, l_n, l_c, n, x, slots, i, e1, e5, e6, e7, e9, h⟩ := herdsmanlaw18_LruSlots.d12_elim (ρ := ρ) h; exact HP12 l_a l_n l_c n x slots i w h ρ e1 e5 e6 e7 e9, fun ρ w h => by obtain ⟨l_a, l_n, l_c, n, x, slots, i, many, t109, e1, e5, e6, e7, e9, e15, e109, h⟩ := herdsmanlaw18_LruSlots.d29_elim (ρ := ρ) h; exact ih l_a l_n l_c n x slots i many t109 w h ρ e1 e5 e6 e7 e9 e15 e109, trivial⟩) (castK h (by kernel_rfl))
set_option maxRecDepth 100000 in
theorem herdsmanlaw18_LruSlots.f19 (P12 : Option Addr → Nat → Nat → Int → Option Addr → Addr → Int → World → Prop) (Q : Bool → World → Prop) (HP12 : ∀ l_a l_n l_c n x slots i w, P12 l_a l_n l_c n x slots i w → ∀ ρ : Env, ρ 1 = .slice l_a l_n l_c → ρ 5 = .int .i64 n → ρ 6 = .pointer x → ρ 7 = .pointer (some slots) → ρ 9 = .int .i64 i → Fin (cx 136) (todoOf Go.Proofs.Try.f5 12) ρ w (herdsmanlaw18_LruSlots.R Q)) : ∀ k l_a l_n l_c n x slots i a s0 out0 t82 w, herdsmanlaw18_LruSlots.b19 P12 Q k l_a l_n l_c n x slots i a s0 out0 t82 w → ∀ ρ : Env, ρ 1 = .slice l_a l_n l_c → ρ 5 = .int .i64 n → ρ 6 = .pointer x → ρ 7 = .pointer (some slots) → ρ 9 = .int .i64 i → ρ 10 = .int .i64 a → ρ 11 = .int .i64 s0 → ρ 13 = .bool out0 → ρ 82 = .int .i64 t82 → Fin (cx 136) (todoOf Go.Proofs.Try.f5 19) ρ w (herdsmanlaw18_LruSlots.R Q) := by
  intro k
  induction k with
  | zero => intro l_a l_n l_c n x slots i a s0 out0 t82 w h; exact h.elim
  | succ k ih =>
    intro l_a l_n l_c n x slots i a s0 out0 t82 w h ρ e1 e5 e6 e7 e9 e10 e11 e13 e82
    have h : herdsmanlaw18_LruSlots.s19 P12 Q (herdsmanlaw18_LruSlots.b19 P12 Q k) l_a l_n l_c n x slots i a s0 out0 t82 w := h
    refine Fin.cut (ρ' := put (put (put (put (put (put (put (put (put (ρ) (some 1) (.slice l_a l_n l_c)) (some 5) (.int .i64 n)) (some 6) (.pointer x)) (some 7) (.pointer (some slots))) (some 9) (.int .i64 i)) (some 10) (.int .i64 a)) (some 11) (.int .i64 s0)) (some 13) (.bool out0)) (some 82) (.int .i64 t82)) ?_ (by rw [put_id e1, put_id e5, put_id e6, put_id e7, put_id e9, put_id e10, put_id e11, put_id e13, put_id e82])
    refine evT_sound (ok 136) (drawD_sound (ok 136) herdsmanlaw18_LruSlots.scr) 600 (L := [(19, fun ρ w => herdsmanlaw18_LruSlots.d19 (fun l_a l_n l_c n x slots i a s0 out0 t82 => herdsmanlaw18_LruSlots.b19 P12 Q k l_a l_n l_c n x slots i a s0 out0 t82 w) ρ), (29, fun ρ w => herdsmanlaw18_LruSlots.d29 (fun l_a l_n l_c n x slots i many t109 => ∃ k', herdsmanlaw18_LruSlots.b29 P12 Q k' l_a l_n l_c n x slots i many t109 w) ρ)]) (leaf_of (fn := Go.Proofs.Try.f5) [19, 19, 29] (by kernel_rfl) ⟨fun ρ w h => by obtain ⟨l_a, l_n, l_c, n, x, slots, i, a, s0, out0, t82, e1, e5, e6, e7, e9, e10, e11, e13, e82, h⟩ := herdsmanlaw18_LruSlots.d19_elim (ρ := ρ) h; exact ih l_a l_n l_c n x slots i a s0 out0 t82 w h ρ e1 e5 e6 e7 e9 e10 e11 e13 e82, fun ρ w h => by obtain ⟨l_a, l_n, l_c, n, x, slots, i, many, t109, e1, e5, e6, e7, e9, e15, e109, h⟩ := herdsmanlaw18_LruSlots.d29_elim (ρ := ρ) h; obtain ⟨k', h⟩ := h; exact herdsmanlaw18_LruSlots.f29 P12 Q HP12 k' l_a l_n l_c n x slots i many t109 w h ρ e1 e5 e6 e7 e9 e15 e109, trivial⟩) (castK h (by kernel_rfl))
set_option maxRecDepth 100000 in
theorem herdsmanlaw18_LruSlots.f12 (Q : Bool → World → Prop) : ∀ k l_a l_n l_c n x slots i w, herdsmanlaw18_LruSlots.b12 Q k l_a l_n l_c n x slots i w → ∀ ρ : Env, ρ 1 = .slice l_a l_n l_c → ρ 5 = .int .i64 n → ρ 6 = .pointer x → ρ 7 = .pointer (some slots) → ρ 9 = .int .i64 i → Fin (cx 136) (todoOf Go.Proofs.Try.f5 12) ρ w (herdsmanlaw18_LruSlots.R Q) := by
  intro k
  induction k with
  | zero => intro l_a l_n l_c n x slots i w h; exact h.elim
  | succ k ih =>
    intro l_a l_n l_c n x slots i w h ρ e1 e5 e6 e7 e9
    have h : herdsmanlaw18_LruSlots.s12 Q (herdsmanlaw18_LruSlots.b12 Q k) l_a l_n l_c n x slots i w := h
    refine Fin.cut (ρ' := put (put (put (put (put (ρ) (some 1) (.slice l_a l_n l_c)) (some 5) (.int .i64 n)) (some 6) (.pointer x)) (some 7) (.pointer (some slots))) (some 9) (.int .i64 i)) ?_ (by rw [put_id e1, put_id e5, put_id e6, put_id e7, put_id e9])
    refine evT_sound (ok 136) (drawD_sound (ok 136) herdsmanlaw18_LruSlots.scr) 600 (L := [(19, fun ρ w => herdsmanlaw18_LruSlots.d19 (fun l_a l_n l_c n x slots i a s0 out0 t82 => ∃ k', herdsmanlaw18_LruSlots.b19 (herdsmanlaw18_LruSlots.b12 Q k) Q k' l_a l_n l_c n x slots i a s0 out0 t82 w) ρ)]) (leaf_of (fn := Go.Proofs.Try.f5) [19] (by kernel_rfl) ⟨fun ρ w h => by obtain ⟨l_a, l_n, l_c, n, x, slots, i, a, s0, out0, t82, e1, e5, e6, e7, e9, e10, e11, e13, e82, h⟩ := herdsmanlaw18_LruSlots.d19_elim (ρ := ρ) h; obtain ⟨k', h⟩ := h; exact herdsmanlaw18_LruSlots.f19 (herdsmanlaw18_LruSlots.b12 Q k) Q ih k' l_a l_n l_c n x slots i a s0 out0 t82 w h ρ e1 e5 e6 e7 e9 e10 e11 e13 e82, trivial⟩) (castK h (by kernel_rfl))
set_option maxRecDepth 100000 in
theorem herdsmanlaw18_LruSlots.f7 (Q : Bool → World → Prop) : ∀ k l_a l_n l_c n x slots t23 w, herdsmanlaw18_LruSlots.b7 Q k l_a l_n l_c n x slots t23 w → ∀ ρ : Env, ρ 1 = .slice l_a l_n l_c → ρ 5 = .int .i64 n → ρ 6 = .pointer x → ρ 7 = .pointer (some slots) → ρ 23 = .int .i64 t23 → Fin (cx 136) (todoOf Go.Proofs.Try.f5 7) ρ w (herdsmanlaw18_LruSlots.R Q) := by
  intro k
  induction k with
  | zero => intro l_a l_n l_c n x slots t23 w h; exact h.elim
  | succ k ih =>
    intro l_a l_n l_c n x slots t23 w h ρ e1 e5 e6 e7 e23
    have h : herdsmanlaw18_LruSlots.s7 Q (herdsmanlaw18_LruSlots.b7 Q k) l_a l_n l_c n x slots t23 w := h
    refine Fin.cut (ρ' := put (put (put (put (put (ρ) (some 1) (.slice l_a l_n l_c)) (some 5) (.int .i64 n)) (some 6) (.pointer x)) (some 7) (.pointer (some slots))) (some 23) (.int .i64 t23)) ?_ (by rw [put_id e1, put_id e5, put_id e6, put_id e7, put_id e23])
    refine evT_sound (ok 136) (drawD_sound (ok 136) herdsmanlaw18_LruSlots.scr) 600 (L := [(7, fun ρ w => herdsmanlaw18_LruSlots.d7 (fun l_a l_n l_c n x slots t23 => herdsmanlaw18_LruSlots.b7 Q k l_a l_n l_c n x slots t23 w) ρ), (12, fun ρ w => herdsmanlaw18_LruSlots.d12 (fun l_a l_n l_c n x slots i => ∃ k', herdsmanlaw18_LruSlots.b12 Q k' l_a l_n l_c n x slots i w) ρ)]) (leaf_of (fn := Go.Proofs.Try.f5) [7, 12] (by kernel_rfl) ⟨fun ρ w h => by obtain ⟨l_a, l_n, l_c, n, x, slots, t23, e1, e5, e6, e7, e23, h⟩ := herdsmanlaw18_LruSlots.d7_elim (ρ := ρ) h; exact ih l_a l_n l_c n x slots t23 w h ρ e1 e5 e6 e7 e23, fun ρ w h => by obtain ⟨l_a, l_n, l_c, n, x, slots, i, e1, e5, e6, e7, e9, h⟩ := herdsmanlaw18_LruSlots.d12_elim (ρ := ρ) h; obtain ⟨k', h⟩ := h; exact herdsmanlaw18_LruSlots.f12 Q k' l_a l_n l_c n x slots i w h ρ e1 e5 e6 e7 e9, trivial⟩) (castK h (by kernel_rfl))
set_option maxRecDepth 100000 in
theorem herdsmanlaw18_LruSlots.body (k0 : Int) (l_a : Option Addr) (l_n : Nat) (l_c : Nat) (w : World) (Q : Bool → World → Prop) (h : herdsmanlaw18_LruSlots.sh k0 l_a l_n l_c w Q) : herdsmanlaw18_LruSlots.call k0 l_a l_n l_c w Q := by
  refine call_fn (ok 136) (fn := Go.Proofs.Try.f5) (args := [.int .i64 k0, .slice l_a l_n l_c]) (K := herdsmanlaw18_LruSlots.qv Q) Go.Proofs.Try.func5 (by kernel_rfl) (by kernel_rfl) (by kernel_rfl) ?_
  refine evT_sound (ok 136) (drawD_sound (ok 136) herdsmanlaw18_LruSlots.scr) 600 (L := [(7, fun ρ w => herdsmanlaw18_LruSlots.d7 (fun l_a l_n l_c n x slots t23 => ∃ k', herdsmanlaw18_LruSlots.b7 Q k' l_a l_n l_c n x slots t23 w) ρ)]) (leaf_of (fn := Go.Proofs.Try.f5) [7] (by kernel_rfl) ⟨fun ρ w h => by obtain ⟨l_a, l_n, l_c, n, x, slots, t23, e1, e5, e6, e7, e23, h⟩ := herdsmanlaw18_LruSlots.d7_elim (ρ := ρ) h; obtain ⟨k', h⟩ := h; exact herdsmanlaw18_LruSlots.f7 Q k' l_a l_n l_c n x slots t23 w h ρ e1 e5 e6 e7 e23, trivial⟩) (castK h (by kernel_rfl))
end Go.Proofs.Ytfkpabfamfeggaa.S
