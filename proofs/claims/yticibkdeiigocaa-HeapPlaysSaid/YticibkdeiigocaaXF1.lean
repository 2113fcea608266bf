/- What the bodies ask, and that a call is no more. Printed by a program of this work (sxgen.py) out of the translation. -/
import Derived.Test.YticibkdeiigocaaXT
set_option linter.unusedVariables false
set_option linter.unusedSimpArgs false
namespace Go.Proofs.Yticibkdeiigocaa.S
open Go.Sx
/-! ### 4 herdsman/herdsmanlaw13.HeapSorts -/
def herdsmanlaw13_HeapSorts.b11 (P6 : Option Addr → Nat → Nat → Option Addr → Nat → Nat → Bool → Option Addr → Option Addr → Nat → Nat → Int → World → Prop) (Q : Bool → World → Prop) (keys_a : Option Addr) (keys_n : Nat) (keys_c : Nat) (items_a : Option Addr) (items_n : Nat) (items_c : Nat) (few : Bool) (h0 : Option Addr) (l_a : Option Addr) (l_n : Nat) (l_c : Nat) (i : Int) (x : Addr) (w : World) : Prop :=
  InB 0 2 <|
  LdI .i64 (x.add (((0 : Int).toNat) * 1)) w fun x67 =>
  InB 1 2 <|
  LdI .i64 (x.add (((1 : Int).toNat) * 1)) w fun x69 =>
  heap_Heap_Push.call h0 x67 x69 w fun w0_1 =>
  LdI .i64 (x.add 0) w0_1 fun x72_0 =>
  LdI .i64 (x.add 1) w0_1 fun x72_1 =>
  Bx [.int .i64 x72_0, .int .i64 x72_1] 30 w0_1 fun p73_s w0_2 =>
  App P #[25, 25] 25 (.slice l_a l_n l_c) (.slice (some p73_s) 1 1) w0_2 fun r74_a r74_n r74_c w0_3 =>
  P6 keys_a keys_n keys_c items_a items_n items_c few h0 r74_a r74_n r74_c (IntKind.wrap .i64 (i + 1)) w0_3
def herdsmanlaw13_HeapSorts.s24 (P16 : Option Addr → Option Addr → Nat → Nat → Option Addr → Nat → Nat → Addr → Int → World → Prop) (Q : Bool → World → Prop) (R24 : Option Addr → Option Addr → Nat → Nat → Option Addr → Nat → Nat → Addr → Int → Int → Int → Int → Int → World → Prop) (h0 : Option Addr) (l_a : Option Addr) (l_n : Nat) (l_c : Nat) (met_a : Option Addr) (met_n : Nat) (met_c : Nat) (last : Addr) (n : Int) (k0 : Int) (x : Int) (at0 : Int) (i : Int) (w : World) : Prop :=
  cond (decide (i < (l_n : Int)))
  (InB i met_n <|
  wA met_a fun p =>
  LdB (p.add (i.toNat * 1)) w fun x140 =>
  cond (!x140)
  (InB i l_n <|
  wA l_a fun p_1 =>
  LdI .i64 ((p_1.add (i.toNat * 2)).add 0) w fun x146_0 =>
  LdI .i64 ((p_1.add (i.toNat * 2)).add 1) w fun x146_1 =>
  EqK P .eql 30 (.tmp 146) (.tmp 149) (.agg #[.int .i64 x146_0, .int .i64 x146_1]) (.agg #[.int .i64 k0, .int .i64 x]) w fun b w0_1 =>
  cond b
  (R24 h0 l_a l_n l_c met_a met_n met_c last n k0 x i (IntKind.wrap .i64 (i + 1)) w0_1)
  (R24 h0 l_a l_n l_c met_a met_n met_c last n k0 x at0 (IntKind.wrap .i64 (i + 1)) w0_1))
  (R24 h0 l_a l_n l_c met_a met_n met_c last n k0 x at0 (IntKind.wrap .i64 (i + 1)) w))
  (cond (decide (at0 < 0))
  (Q false w)
  (InB at0 met_n <|
  wA met_a fun p_2 =>
  St (p_2.add (at0.toNat * 1)) (.bool true) w fun w0_2 =>
  St (last.add 0) (.int .i64 k0) w0_2 fun w0_3 =>
  St (last.add 1) (.int .i64 x) w0_3 fun w0_4 =>
  P16 h0 l_a l_n l_c met_a met_n met_c last (IntKind.wrap .i64 (n + 1)) w0_4))
def herdsmanlaw13_HeapSorts.b24 (P16 : Option Addr → Option Addr → Nat → Nat → Option Addr → Nat → Nat → Addr → Int → World → Prop) (Q : Bool → World → Prop) : Nat → Option Addr → Option Addr → Nat → Nat → Option Addr → Nat → Nat → Addr → Int → Int → Int → Int → Int → World → Prop
  | 0, _, _, _, _, _, _, _, _, _, _, _, _, _, _ => False
  | k + 1, h0, l_a, l_n, l_c, met_a, met_n, met_c, last, n, k0, x, at0, i, w => herdsmanlaw13_HeapSorts.s24 P16 Q (herdsmanlaw13_HeapSorts.b24 P16 Q k) h0 l_a l_n l_c met_a met_n met_c last n k0 x at0 i w
def herdsmanlaw13_HeapSorts.s16 (Q : Bool → World → Prop) (R16 : Option Addr → Option Addr → Nat → Nat → Option Addr → Nat → Nat → Addr → Int → World → Prop) (h0 : Option Addr) (l_a : Option Addr) (l_n : Nat) (l_c : Nat) (met_a : Option Addr) (met_n : Nat) (met_c : Nat) (last : Addr) (n : Int) (w : World) : Prop :=
  cond (decide (n < (l_n : Int)))
  (heap_Heap_Top.call h0 w fun r87_key r87_item r87_ok w0_1 =>
  heap_Heap_Pop.call h0 w0_1 fun r93_key r93_item r93_ok w0_2 =>
  cond (!r93_ok)
  (Q false w0_2)
  (cond (!r87_ok)
  (Q false w0_2)
  (cond (r87_key != r93_key)
  (Q false w0_2)
  (cond (r87_item != r93_item)
  (Q false w0_2)
  (InB 0 2 <|
  LdI .i64 (last.add (((0 : Int).toNat) * 1)) w0_2 fun x116 =>
  cond (decide (r93_key < x116))
  (Q false w0_2)
  (InB 0 2 <|
  LdI .i64 (last.add (((0 : Int).toNat) * 1)) w0_2 fun x122 =>
  cond (r93_key == x122)
  (InB 1 2 <|
  LdI .i64 (last.add (((1 : Int).toNat) * 1)) w0_2 fun x127 =>
  cond (decide (r93_item < x127))
  (Q false w0_2)
  (∃ k', herdsmanlaw13_HeapSorts.b24 R16 Q k' h0 l_a l_n l_c met_a met_n met_c last n r93_key r93_item (-1) 0 w0_2))
  (∃ k', herdsmanlaw13_HeapSorts.b24 R16 Q k' h0 l_a l_n l_c met_a met_n met_c last n r93_key r93_item (-1) 0 w0_2)))))))
  (heap_Heap_Pop.call h0 w fun r163_key r163_item r163_ok w0_3 =>
  herdsmanlaw13_told.call w0_3 fun r167 w0_4 =>
  cond r167
  (cond (!r163_ok)
  (heap_Heap_Len.call h0 w0_4 fun r174 w0_5 =>
  Q (r174 == 0) w0_5)
  (Q false w0_4))
  (Q false w0_4))
def herdsmanlaw13_HeapSorts.b16 (Q : Bool → World → Prop) : Nat → Option Addr → Option Addr → Nat → Nat → Option Addr → Nat → Nat → Addr → Int → World → Prop
  | 0, _, _, _, _, _, _, _, _, _, _ => False
  | k + 1, h0, l_a, l_n, l_c, met_a, met_n, met_c, last, n, w => herdsmanlaw13_HeapSorts.s16 Q (herdsmanlaw13_HeapSorts.b16 Q k) h0 l_a l_n l_c met_a met_n met_c last n w
def herdsmanlaw13_HeapSorts.b13 (Q : Bool → World → Prop) (h0 : Option Addr) (l_a : Option Addr) (l_n : Nat) (l_c : Nat) (w : World) : Prop :=
  MkS P 37 (.int .i64 (l_n : Int)) (.int .i64 (l_n : Int)) w fun s77_a s77_n s77_c w0_1 =>
  Al T 30 w0_1 fun last w0_2 =>
  St (last.add 0) (.int .i64 (-9223372036854775808)) w0_2 fun w0_3 =>
  St (last.add 1) (.int .i64 (-9223372036854775808)) w0_3 fun w0_4 =>
  ∃ k', herdsmanlaw13_HeapSorts.b16 Q k' h0 l_a l_n l_c s77_a s77_n s77_c last 0 w0_4
def herdsmanlaw13_HeapSorts.s6 (Q : Bool → World → Prop) (R6 : Option Addr → Nat → Nat → Option Addr → Nat → Nat → Bool → Option Addr → Option Addr → Nat → Nat → Int → World → Prop) (keys_a : Option Addr) (keys_n : Nat) (keys_c : Nat) (items_a : Option Addr) (items_n : Nat) (items_c : Nat) (few : Bool) (h0 : Option Addr) (l_a : Option Addr) (l_n : Nat) (l_c : Nat) (i : Int) (w : World) : Prop :=
  cond (decide (i < (keys_n : Int)))
  (cond (decide (i < (items_n : Int)))
  (cond (decide (i < 100))
  (InB i keys_n <|
  wA keys_a fun p =>
  LdI .i64 (p.add (i.toNat * 1)) w.drew fun x47 =>
  InB i items_n <|
  wA items_a fun p_1 =>
  LdI .i64 (p_1.add (i.toNat * 1)) w.drew fun x51 =>
  Al T 30 w.drew fun x w0_1 =>
  w0_1.cell? (p_1.add (i.toNat * 1)) = some (.int .i64 x51) ∧
  w0_1.cell? (p.add (i.toNat * 1)) = some (.int .i64 x47) ∧
  St (x.add 0) (.int .i64 x47) w0_1 fun w0_2 =>
  St (x.add 1) (.int .i64 x51) w0_2 fun w0_3 =>
  cond few
  (InB i keys_n <|
  wA keys_a fun p_2 =>
  LdI .i64 (p_2.add (i.toNat * 1)) w0_3.drew fun x57 =>
  InB i items_n <|
  wA items_a fun p_3 =>
  LdI .i64 (p_3.add (i.toNat * 1)) w0_3.drew fun x62 =>
  herdsmanref1_Within.call x57 0 5 w0_3.drew fun r58 w0_4 =>
  w0_4.cell? (p_3.add (i.toNat * 1)) = some (.int .i64 x62) ∧
  herdsmanref1_Within.call x62 0 5 w0_4 fun r63 w0_5 =>
  St (x.add 0) (.int .i64 r58) w0_5 fun w0_6 =>
  St (x.add 1) (.int .i64 r63) w0_6 fun w0_7 =>
  herdsmanlaw13_HeapSorts.b11 R6 Q keys_a keys_n keys_c items_a items_n items_c few h0 l_a l_n l_c i x w0_7)
  (herdsmanlaw13_HeapSorts.b11 R6 Q keys_a keys_n keys_c items_a items_n items_c few h0 l_a l_n l_c i x w0_3))
  (herdsmanlaw13_HeapSorts.b13 Q h0 l_a l_n l_c w))
  (herdsmanlaw13_HeapSorts.b13 Q h0 l_a l_n l_c w))
  (herdsmanlaw13_HeapSorts.b13 Q h0 l_a l_n l_c w)
def herdsmanlaw13_HeapSorts.b6 (Q : Bool → World → Prop) : Nat → Option Addr → Nat → Nat → Option Addr → Nat → Nat → Bool → Option Addr → Option Addr → Nat → Nat → Int → World → Prop
  | 0, _, _, _, _, _, _, _, _, _, _, _, _, _ => False
  | k + 1, keys_a, keys_n, keys_c, items_a, items_n, items_c, few, h0, l_a, l_n, l_c, i, w => herdsmanlaw13_HeapSorts.s6 Q (herdsmanlaw13_HeapSorts.b6 Q k) keys_a keys_n keys_c items_a items_n items_c few h0 l_a l_n l_c i w
def herdsmanlaw13_HeapSorts.sh (keys_a : Option Addr) (keys_n : Nat) (keys_c : Nat) (items_a : Option Addr) (items_n : Nat) (items_c : Nat) (few : Bool) (w : World) (Q : Bool → World → Prop) : Prop :=
  heap_New.call w fun r25 w0_1 =>
  cond r25.isNone
  (Q false w0_1)
  (∃ k', herdsmanlaw13_HeapSorts.b6 Q k' keys_a keys_n keys_c items_a items_n items_c few r25 none 0 0 0 w0_1)
noncomputable def herdsmanlaw13_HeapSorts.scr : Scrs := [(8, .op 0 (.op 1 (.op 2 (.op 3 (.op 4 (.op 5 (.op 6 (.op 7 (.op 8 (.op 9 (.op 10 .done))))))))))), (10, .op 0 (.op 1 (.op 2 (.op 3 (.op 5 (.op 6 (.op 7 (.op 8 (.op 4 (.op 9 (.op 10 (.op 11 .done))))))))))))]
def herdsmanlaw13_HeapSorts.R (Q : Bool → World → Prop) (ρ : Env) (w : World) : Prop := evRes (cx 177) Go.Proofs.Try.f4.results.toList ρ w fun vs => herdsmanlaw13_HeapSorts.qv Q (resV vs) w
def herdsmanlaw13_HeapSorts.d6 (K : Option Addr → Nat → Nat → Option Addr → Nat → Nat → Bool → Option Addr → Option Addr → Nat → Nat → Int → Prop) (ρ : Env) : Prop :=
  dS (ρ 0) fun keys_a keys_n keys_c => dS (ρ 1) fun items_a items_n items_c => dB (ρ 2) fun few => dP (ρ 7) fun h0 => dS (ρ 8) fun l_a l_n l_c => dI .i64 (ρ 9) fun i => K keys_a keys_n keys_c items_a items_n items_c few h0 l_a l_n l_c i
theorem herdsmanlaw13_HeapSorts.d6_elim {K : Option Addr → Nat → Nat → Option Addr → Nat → Nat → Bool → Option Addr → Option Addr → Nat → Nat → Int → Prop} {ρ : Env} (h0 : herdsmanlaw13_HeapSorts.d6 K ρ) : ∃ (keys_a : Option Addr) (keys_n : Nat) (keys_c : Nat) (items_a : Option Addr) (items_n : Nat) (items_c : Nat) (few : Bool) (h0 : Option Addr) (l_a : Option Addr) (l_n : Nat) (l_c : Nat) (i : Int), ρ 0 = .slice keys_a keys_n keys_c ∧ ρ 1 = .slice items_a items_n items_c ∧ ρ 2 = .bool few ∧ ρ 7 = .pointer h0 ∧ ρ 8 = .slice l_a l_n l_c ∧ ρ 9 = .int .i64 i ∧ K keys_a keys_n keys_c items_a items_n items_c few h0 l_a l_n l_c i := by
  obtain ⟨keys_a, keys_n, keys_c, e0, h1⟩ := dS_elim h0
  obtain ⟨items_a, items_n, items_c, e1, h2⟩ := dS_elim h1
  obtain ⟨few, e2, h3⟩ := dB_elim h2
  obtain ⟨h0, e7, h4⟩ := dP_elim h3
  obtain ⟨l_a, l_n, l_c, e8, h5⟩ := dS_elim h4
  obtain ⟨i, e9, h6⟩ := dI_elim h5
  exact ⟨keys_a, keys_n, keys_c, items_a, items_n, items_c, few, h0, l_a, l_n, l_c, i, e0, e1, e2, e7, e8, e9, h6⟩
def herdsmanlaw13_HeapSorts.d11 (K : Option Addr → Nat → Nat → Option Addr → Nat → Nat → Bool → Option Addr → Option Addr → Nat → Nat → Int → Addr → Prop) (ρ : Env) : Prop :=
  dS (ρ 0) fun keys_a keys_n keys_c => dS (ρ 1) fun items_a items_n items_c => dB (ρ 2) fun few => dP (ρ 7) fun h0 => dS (ρ 8) fun l_a l_n l_c => dI .i64 (ρ 9) fun i => dP (ρ 10) fun x_p => wA x_p fun x => K keys_a keys_n keys_c items_a items_n items_c few h0 l_a l_n l_c i x
theorem herdsmanlaw13_HeapSorts.d11_elim {K : Option Addr → Nat → Nat → Option Addr → Nat → Nat → Bool → Option Addr → Option Addr → Nat → Nat → Int → Addr → Prop} {ρ : Env} (h0 : herdsmanlaw13_HeapSorts.d11 K ρ) : ∃ (keys_a : Option Addr) (keys_n : Nat) (keys_c : Nat) (items_a : Option Addr) (items_n : Nat) (items_c : Nat) (few : Bool) (h0 : Option Addr) (l_a : Option Addr) (l_n : Nat) (l_c : Nat) (i : Int) (x : Addr), ρ 0 = .slice keys_a keys_n keys_c ∧ ρ 1 = .slice items_a items_n items_c ∧ ρ 2 = .bool few ∧ ρ 7 = .pointer h0 ∧ ρ 8 = .slice l_a l_n l_c ∧ ρ 9 = .int .i64 i ∧ ρ 10 = .pointer (some x) ∧ K keys_a keys_n keys_c items_a items_n items_c few h0 l_a l_n l_c i x := by
  obtain ⟨keys_a, keys_n, keys_c, e0, h1⟩ := dS_elim h0
  obtain ⟨items_a, items_n, items_c, e1, h2⟩ := dS_elim h1
  obtain ⟨few, e2, h3⟩ := dB_elim h2
  obtain ⟨h0, e7, h4⟩ := dP_elim h3
  obtain ⟨l_a, l_n, l_c, e8, h5⟩ := dS_elim h4
  obtain ⟨i, e9, h6⟩ := dI_elim h5
  obtain ⟨x_p, e10, h7⟩ := dP_elim h6
  obtain ⟨x, rfl, h8⟩ := wA_elim h7
  exact ⟨keys_a, keys_n, keys_c, items_a, items_n, items_c, few, h0, l_a, l_n, l_c, i, x, e0, e1, e2, e7, e8, e9, e10, h8⟩
def herdsmanlaw13_HeapSorts.d13 (K : Option Addr → Option Addr → Nat → Nat → Prop) (ρ : Env) : Prop :=
  dP (ρ 7) fun h0 => dS (ρ 8) fun l_a l_n l_c => K h0 l_a l_n l_c
theorem herdsmanlaw13_HeapSorts.d13_elim {K : Option Addr → Option Addr → Nat → Nat → Prop} {ρ : Env} (h0 : herdsmanlaw13_HeapSorts.d13 K ρ) : ∃ (h0 : Option Addr) (l_a : Option Addr) (l_n : Nat) (l_c : Nat), ρ 7 = .pointer h0 ∧ ρ 8 = .slice l_a l_n l_c ∧ K h0 l_a l_n l_c := by
  obtain ⟨h0, e7, h1⟩ := dP_elim h0
  obtain ⟨l_a, l_n, l_c, e8, h2⟩ := dS_elim h1
  exact ⟨h0, l_a, l_n, l_c, e7, e8, h2⟩
def herdsmanlaw13_HeapSorts.d16 (K : Option Addr → Option Addr → Nat → Nat → Option Addr → Nat → Nat → Addr → Int → Prop) (ρ : Env) : Prop :=
  dP (ρ 7) fun h0 => dS (ρ 8) fun l_a l_n l_c => dS (ρ 11) fun met_a met_n met_c => dP (ρ 12) fun last_p => wA last_p fun last => dI .i64 (ρ 13) fun n => K h0 l_a l_n l_c met_a met_n met_c last n
theorem herdsmanlaw13_HeapSorts.d16_elim {K : Option Addr → Option Addr → Nat → Nat → Option Addr → Nat → Nat → Addr → Int → Prop} {ρ : Env} (h0 : herdsmanlaw13_HeapSorts.d16 K ρ) : ∃ (h0 : Option Addr) (l_a : Option Addr) (l_n : Nat) (l_c : Nat) (met_a : Option Addr) (met_n : Nat) (met_c : Nat) (last : Addr) (n : Int), ρ 7 = .pointer h0 ∧ ρ 8 = .slice l_a l_n l_c ∧ ρ 11 = .slice met_a met_n met_c ∧ ρ 12 = .pointer (some last) ∧ ρ 13 = .int .i64 n ∧ K h0 l_a l_n l_c met_a met_n met_c last n := by
  obtain ⟨h0, e7, h1⟩ := dP_elim h0
  obtain ⟨l_a, l_n, l_c, e8, h2⟩ := dS_elim h1
  obtain ⟨met_a, met_n, met_c, e11, h3⟩ := dS_elim h2
  obtain ⟨last_p, e12, h4⟩ := dP_elim h3
  obtain ⟨last, rfl, h5⟩ := wA_elim h4
  obtain ⟨n, e13, h6⟩ := dI_elim h5
  exact ⟨h0, l_a, l_n, l_c, met_a, met_n, met_c, last, n, e7, e8, e11, e12, e13, h6⟩
def herdsmanlaw13_HeapSorts.d24 (K : Option Addr → Option Addr → Nat → Nat → Option Addr → Nat → Nat → Addr → Int → Int → Int → Int → Int → Prop) (ρ : Env) : Prop :=
  dP (ρ 7) fun h0 => dS (ρ 8) fun l_a l_n l_c => dS (ρ 11) fun met_a met_n met_c => dP (ρ 12) fun last_p => wA last_p fun last => dI .i64 (ρ 13) fun n => dI .i64 (ρ 17) fun k0 => dI .i64 (ρ 18) fun x => dI .i64 (ρ 20) fun at0 => dI .i64 (ρ 21) fun i => K h0 l_a l_n l_c met_a met_n met_c last n k0 x at0 i
theorem herdsmanlaw13_HeapSorts.d24_elim {K : Option Addr → Option Addr → Nat → Nat → Option Addr → Nat → Nat → Addr → Int → Int → Int → Int → Int → Prop} {ρ : Env} (h0 : herdsmanlaw13_HeapSorts.d24 K ρ) : ∃ (h0 : Option Addr) (l_a : Option Addr) (l_n : Nat) (l_c : Nat) (met_a : Option Addr) (met_n : Nat) (met_c : Nat) (last : Addr) (n : Int) (k0 : Int) (x : Int) (at0 : Int) (i : Int), ρ 7 = .pointer h0 ∧ ρ 8 = .slice l_a l_n l_c ∧ ρ 11 = .slice met_a met_n met_c ∧ ρ 12 = .pointer (some last) ∧ ρ 13 = .int .i64 n ∧ ρ 17 = .int .i64 k0 ∧ ρ 18 = .int .i64 x ∧ ρ 20 = .int .i64 at0 ∧ ρ 21 = .int .i64 i ∧ K h0 l_a l_n l_c met_a met_n met_c last n k0 x at0 i := by
  obtain ⟨h0, e7, h1⟩ := dP_elim h0
  obtain ⟨l_a, l_n, l_c, e8, h2⟩ := dS_elim h1
  obtain ⟨met_a, met_n, met_c, e11, h3⟩ := dS_elim h2
  obtain ⟨last_p, e12, h4⟩ := dP_elim h3
  obtain ⟨last, rfl, h5⟩ := wA_elim h4
  obtain ⟨n, e13, h6⟩ := dI_elim h5
  obtain ⟨k0, e17, h7⟩ := dI_elim h6
  obtain ⟨x, e18, h8⟩ := dI_elim h7
  obtain ⟨at0, e20, h9⟩ := dI_elim h8
  obtain ⟨i, e21, h10⟩ := dI_elim h9
  exact ⟨h0, l_a, l_n, l_c, met_a, met_n, met_c, last, n, k0, x, at0, i, e7, e8, e11, e12, e13, e17, e18, e20, e21, h10⟩
set_option maxRecDepth 100000 in
theorem herdsmanlaw13_HeapSorts.f11 (P6 : Option Addr → Nat → Nat → Option Addr → Nat → Nat → Bool → Option Addr → Option Addr → Nat → Nat → Int → World → Prop) (Q : Bool → World → Prop) (HP6 : ∀ keys_a keys_n keys_c items_a items_n items_c few h0 l_a l_n l_c i w, P6 keys_a keys_n keys_c items_a items_n items_c few h0 l_a l_n l_c i w → ∀ ρ : Env, ρ 0 = .slice keys_a keys_n keys_c → ρ 1 = .slice items_a items_n items_c → ρ 2 = .bool few → ρ 7 = .pointer h0 → ρ 8 = .slice l_a l_n l_c → ρ 9 = .int .i64 i → Fin (cx 177) (todoOf Go.Proofs.Try.f4 6) ρ w (herdsmanlaw13_HeapSorts.R Q)) : ∀ keys_a keys_n keys_c items_a items_n items_c few h0 l_a l_n l_c i x w, herdsmanlaw13_HeapSorts.b11 P6 Q keys_a keys_n keys_c items_a items_n items_c few h0 l_a l_n l_c i x w → ∀ ρ : Env, ρ 0 = .slice keys_a keys_n keys_c → ρ 1 = .slice items_a items_n items_c → ρ 2 = .bool few → ρ 7 = .pointer h0 → ρ 8 = .slice l_a l_n l_c → ρ 9 = .int .i64 i → ρ 10 = .pointer (some x) → Fin (cx 177) (todoOf Go.Proofs.Try.f4 11) ρ w (herdsmanlaw13_HeapSorts.R Q) := by
  intro keys_a keys_n keys_c items_a items_n items_c few h0 l_a l_n l_c i x w h ρ e0 e1 e2 e7 e8 e9 e10
  refine Fin.cut (ρ' := put (put (put (put (put (put (put (ρ) (some 0) (.slice keys_a keys_n keys_c)) (some 1) (.slice items_a items_n items_c)) (some 2) (.bool few)) (some 7) (.pointer h0)) (some 8) (.slice l_a l_n l_c)) (some 9) (.int .i64 i)) (some 10) (.pointer (some x))) ?_ (by rw [put_id e0, put_id e1, put_id e2, put_id e7, put_id e8, put_id e9, put_id e10])
  refine evT_sound (ok 177) (drawD_sound (ok 177) herdsmanlaw13_HeapSorts.scr) 600 (L := [(6, fun ρ w => herdsmanlaw13_HeapSorts.d6 (fun keys_a keys_n keys_c items_a items_n items_c few h0 l_a l_n l_c i => P6 keys_a keys_n keys_c items_a items_n items_c few h0 l_a l_n l_c i w) ρ)]) (leaf_of (fn := Go.Proofs.Try.f4) [6] (by kernel_rfl) ⟨fun ρ w h => by obtain ⟨keys_a, keys_n, keys_c, items_a, items_n, items_c, few, h0, l_a, l_n, l_c, i, e0, e1, e2, e7, e8, e9, h⟩ := herdsmanlaw13_HeapSorts.d6_elim h; exact HP6 keys_a keys_n keys_c items_a items_n items_c few h0 l_a l_n l_c i w h ρ e0 e1 e2 e7 e8 e9, trivial⟩) (castK h (by kernel_rfl))
set_option maxRecDepth 100000 in
theorem herdsmanlaw13_HeapSorts.f24 (P16 : Option Addr → Option Addr → Nat → Nat → Option Addr → Nat → Nat → Addr → Int → World → Prop) (Q : Bool → World → Prop) (HP16 : ∀ h0 l_a l_n l_c met_a met_n met_c last n w, P16 h0 l_a l_n l_c met_a met_n met_c last n w → ∀ ρ : Env, ρ 7 = .pointer h0 → ρ 8 = .slice l_a l_n l_c → ρ 11 = .slice met_a met_n met_c → ρ 12 = .pointer (some last) → ρ 13 = .int .i64 n → Fin (cx 177) (todoOf Go.Proofs.Try.f4 16) ρ w (herdsmanlaw13_HeapSorts.R Q)) : ∀ k h0 l_a l_n l_c met_a met_n met_c last n k0 x at0 i w, herdsmanlaw13_HeapSorts.b24 P16 Q k h0 l_a l_n l_c met_a met_n met_c last n k0 x at0 i w → ∀ ρ : Env, ρ 7 = .pointer h0 → ρ 8 = .slice l_a l_n l_c → ρ 11 = .slice met_a met_n met_c → ρ 12 = .pointer (some last) → ρ 13 = .int .i64 n → ρ 17 = .int .i64 k0 → ρ 18 = .int .i64 x → ρ 20 = .int .i64 at0 → ρ 21 = .int .i64 i → Fin (cx 177) (todoOf Go.Proofs.Try.f4 24) ρ w (herdsmanlaw13_HeapSorts.R Q) := by
  intro k
  induction k with
  | zero => intro h0 l_a l_n l_c met_a met_n met_c last n k0 x at0 i w h; exact h.elim
  | succ k ih =>
    intro h0 l_a l_n l_c met_a met_n met_c last n k0 x at0 i w h ρ e7 e8 e11 e12 e13 e17 e18 e20 e21
    have h : herdsmanlaw13_HeapSorts.s24 P16 Q (herdsmanlaw13_HeapSorts.b24 P16 Q k) h0 l_a l_n l_c met_a met_n met_c last n k0 x at0 i w := h
    refine Fin.cut (ρ' := put (put (put (put (put (put (put (put (put (ρ) (some 7) (.pointer h0)) (some 8) (.slice l_a l_n l_c)) (some 11) (.slice met_a met_n met_c)) (some 12) (.pointer (some last))) (some 13) (.int .i64 n)) (some 17) (.int .i64 k0)) (some 18) (.int .i64 x)) (some 20) (.int .i64 at0)) (some 21) (.int .i64 i)) ?_ (by rw [put_id e7, put_id e8, put_id e11, put_id e12, put_id e13, put_id e17, put_id e18, put_id e20, put_id e21])
    refine evT_sound (ok 177) (drawD_sound (ok 177) herdsmanlaw13_HeapSorts.scr) 600 (L := [(16, fun ρ w => herdsmanlaw13_HeapSorts.d16 (fun h0 l_a l_n l_c met_a met_n met_c last n => P16 h0 l_a l_n l_c met_a met_n met_c last n w) ρ), (24, fun ρ w => herdsmanlaw13_HeapSorts.d24 (fun h0 l_a l_n l_c met_a met_n met_c last n k0 x at0 i => herdsmanlaw13_HeapSorts.b24 P16 Q k h0 l_a l_n l_c met_a met_n met_c last n k0 x at0 i w) ρ)]) (leaf_of (fn := Go.Proofs.Try.f4) [24, 24, 16] (by kernel_rfl) ⟨fun ρ w h => by obtain ⟨h0, l_a, l_n, l_c, met_a, met_n, met_c, last, n, e7, e8, e11, e12, e13, h⟩ := herdsmanlaw13_HeapSorts.d16_elim h; exact HP16 h0 l_a l_n l_c met_a met_n met_c last n w h ρ e7 e8 e11 e12 e13, fun ρ w h => by obtain ⟨h0, l_a, l_n, l_c, met_a, met_n, met_c, last, n, k0, x, at0, i, e7, e8, e11, e12, e13, e17, e18, e20, e21, h⟩ := herdsmanlaw13_HeapSorts.d24_elim h; exact ih h0 l_a l_n l_c met_a met_n met_c last n k0 x at0 i w h ρ e7 e8 e11 e12 e13 e17 e18 e20 e21, trivial⟩) (castK h (by kernel_rfl))
set_option maxRecDepth 100000 in
theorem herdsmanlaw13_HeapSorts.f16 (Q : Bool → World → Prop) : ∀ k h0 l_a l_n l_c met_a met_n met_c last n w, herdsmanlaw13_HeapSorts.b16 Q k h0 l_a l_n l_c met_a met_n met_c last n w → ∀ ρ : Env, ρ 7 = .pointer h0 → ρ 8 = .slice l_a l_n l_c → ρ 11 = .slice met_a met_n met_c → ρ 12 = .pointer (some last) → ρ 13 = .int .i64 n → Fin (cx 177) (todoOf Go.Proofs.Try.f4 16) ρ w (herdsmanlaw13_HeapSorts.R Q) := by
  intro k
  induction k with
  | zero => intro h0 l_a l_n l_c met_a met_n met_c last n w h; exact h.elim
  | succ k ih =>
    intro h0 l_a l_n l_c met_a met_n met_c last n w h ρ e7 e8 e11 e12 e13
    have h : herdsmanlaw13_HeapSorts.s16 Q (herdsmanlaw13_HeapSorts.b16 Q k) h0 l_a l_n l_c met_a met_n met_c last n w := h
    refine Fin.cut (ρ' := put (put (put (put (put (ρ) (some 7) (.pointer h0)) (some 8) (.slice l_a l_n l_c)) (some 11) (.slice met_a met_n met_c)) (some 12) (.pointer (some last))) (some 13) (.int .i64 n)) ?_ (by rw [put_id e7, put_id e8, put_id e11, put_id e12, put_id e13])
    refine evT_sound (ok 177) (drawD_sound (ok 177) herdsmanlaw13_HeapSorts.scr) 600 (L := [(24, fun ρ w => herdsmanlaw13_HeapSorts.d24 (fun h0 l_a l_n l_c met_a met_n met_c last n k0 x at0 i => ∃ k', herdsmanlaw13_HeapSorts.b24 (herdsmanlaw13_HeapSorts.b16 Q k) Q k' h0 l_a l_n l_c met_a met_n met_c last n k0 x at0 i w) ρ)]) (leaf_of (fn := Go.Proofs.Try.f4) [24] (by kernel_rfl) ⟨fun ρ w h => by obtain ⟨h0, l_a, l_n, l_c, met_a, met_n, met_c, last, n, k0, x, at0, i, e7, e8, e11, e12, e13, e17, e18, e20, e21, h⟩ := herdsmanlaw13_HeapSorts.d24_elim h; obtain ⟨k', h⟩ := h; exact herdsmanlaw13_HeapSorts.f24 (herdsmanlaw13_HeapSorts.b16 Q k) Q ih k' h0 l_a l_n l_c met_a met_n met_c last n k0 x at0 i w h ρ e7 e8 e11 e12 e13 e17 e18 e20 e21, trivial⟩) (castK h (by kernel_rfl))
set_option maxRecDepth 100000 in
theorem herdsmanlaw13_HeapSorts.f13 (Q : Bool → World → Prop) : ∀ h0 l_a l_n l_c w, herdsmanlaw13_HeapSorts.b13 Q h0 l_a l_n l_c w → ∀ ρ : Env, ρ 7 = .pointer h0 → ρ 8 = .slice l_a l_n l_c → Fin (cx 177) (todoOf Go.Proofs.Try.f4 13) ρ w (herdsmanlaw13_HeapSorts.R Q) := by
  intro h0 l_a l_n l_c w h ρ e7 e8
  refine Fin.cut (ρ' := put (put (ρ) (some 7) (.pointer h0)) (some 8) (.slice l_a l_n l_c)) ?_ (by rw [put_id e7, put_id e8])
  refine evT_sound (ok 177) (drawD_sound (ok 177) herdsmanlaw13_HeapSorts.scr) 600 (L := [(16, fun ρ w => herdsmanlaw13_HeapSorts.d16 (fun h0 l_a l_n l_c met_a met_n met_c last n => ∃ k', herdsmanlaw13_HeapSorts.b16 Q k' h0 l_a l_n l_c met_a met_n met_c last n w) ρ)]) (leaf_of (fn := Go.Proofs.Try.f4) [16] (by kernel_rfl) ⟨fun ρ w h => by obtain ⟨h0, l_a, l_n, l_c, met_a, met_n, met_c, last, n, e7, e8, e11, e12, e13, h⟩ := herdsmanlaw13_HeapSorts.d16_elim h; obtain ⟨k', h⟩ := h; exact herdsmanlaw13_HeapSorts.f16 Q k' h0 l_a l_n l_c met_a met_n met_c last n w h ρ e7 e8 e11 e12 e13, trivial⟩) (castK h (by kernel_rfl))
set_option maxRecDepth 100000 in
theorem herdsmanlaw13_HeapSorts.f6 (Q : Bool → World → Prop) : ∀ k keys_a keys_n keys_c items_a items_n items_c few h0 l_a l_n l_c i w, herdsmanlaw13_HeapSorts.b6 Q k keys_a keys_n keys_c items_a items_n items_c few h0 l_a l_n l_c i w → ∀ ρ : Env, ρ 0 = .slice keys_a keys_n keys_c → ρ 1 = .slice items_a items_n items_c → ρ 2 = .bool few → ρ 7 = .pointer h0 → ρ 8 = .slice l_a l_n l_c → ρ 9 = .int .i64 i → Fin (cx 177) (todoOf Go.Proofs.Try.f4 6) ρ w (herdsmanlaw13_HeapSorts.R Q) := by
  intro k
  induction k with
  | zero => intro keys_a keys_n keys_c items_a items_n items_c few h0 l_a l_n l_c i w h; exact h.elim
  | succ k ih =>
    intro keys_a keys_n keys_c items_a items_n items_c few h0 l_a l_n l_c i w h ρ e0 e1 e2 e7 e8 e9
    have h : herdsmanlaw13_HeapSorts.s6 Q (herdsmanlaw13_HeapSorts.b6 Q k) keys_a keys_n keys_c items_a items_n items_c few h0 l_a l_n l_c i w := h
    refine Fin.cut (ρ' := put (put (put (put (put (put (ρ) (some 0) (.slice keys_a keys_n keys_c)) (some 1) (.slice items_a items_n items_c)) (some 2) (.bool few)) (some 7) (.pointer h0)) (some 8) (.slice l_a l_n l_c)) (some 9) (.int .i64 i)) ?_ (by rw [put_id e0, put_id e1, put_id e2, put_id e7, put_id e8, put_id e9])
    refine evT_sound (ok 177) (drawD_sound (ok 177) herdsmanlaw13_HeapSorts.scr) 600 (L := [(11, fun ρ w => herdsmanlaw13_HeapSorts.d11 (fun keys_a keys_n keys_c items_a items_n items_c few h0 l_a l_n l_c i x => herdsmanlaw13_HeapSorts.b11 (herdsmanlaw13_HeapSorts.b6 Q k) Q keys_a keys_n keys_c items_a items_n items_c few h0 l_a l_n l_c i x w) ρ), (13, fun ρ w => herdsmanlaw13_HeapSorts.d13 (fun h0 l_a l_n l_c => herdsmanlaw13_HeapSorts.b13 Q h0 l_a l_n l_c w) ρ)]) (leaf_of (fn := Go.Proofs.Try.f4) [11, 11, 13] (by kernel_rfl) ⟨fun ρ w h => by obtain ⟨keys_a, keys_n, keys_c, items_a, items_n, items_c, few, h0, l_a, l_n, l_c, i, x, e0, e1, e2, e7, e8, e9, e10, h⟩ := herdsmanlaw13_HeapSorts.d11_elim h; exact herdsmanlaw13_HeapSorts.f11 (herdsmanlaw13_HeapSorts.b6 Q k) Q ih keys_a keys_n keys_c items_a items_n items_c few h0 l_a l_n l_c i x w h ρ e0 e1 e2 e7 e8 e9 e10, fun ρ w h => by obtain ⟨h0, l_a, l_n, l_c, e7, e8, h⟩ := herdsmanlaw13_HeapSorts.d13_elim h; exact herdsmanlaw13_HeapSorts.f13 Q h0 l_a l_n l_c w h ρ e7 e8, trivial⟩) (castK h (by kernel_rfl))
set_option maxRecDepth 100000 in
theorem herdsmanlaw13_HeapSorts.body (keys_a : Option Addr) (keys_n : Nat) (keys_c : Nat) (items_a : Option Addr) (items_n : Nat) (items_c : Nat) (few : Bool) (w : World) (Q : Bool → World → Prop) (h : herdsmanlaw13_HeapSorts.sh keys_a keys_n keys_c items_a items_n items_c few w Q) : herdsmanlaw13_HeapSorts.call keys_a keys_n keys_c items_a items_n items_c few w Q := by
  refine call_fn (ok 177) (fn := Go.Proofs.Try.f4) (args := [.slice keys_a keys_n keys_c, .slice items_a items_n items_c, .bool few]) (K := herdsmanlaw13_HeapSorts.qv Q) Go.Proofs.Try.func4 (by kernel_rfl) (by kernel_rfl) (by kernel_rfl) ?_
  refine evT_sound (ok 177) (drawD_sound (ok 177) herdsmanlaw13_HeapSorts.scr) 600 (L := [(6, fun ρ w => herdsmanlaw13_HeapSorts.d6 (fun keys_a keys_n keys_c items_a items_n items_c few h0 l_a l_n l_c i => ∃ k', herdsmanlaw13_HeapSorts.b6 Q k' keys_a keys_n keys_c items_a items_n items_c few h0 l_a l_n l_c i w) ρ)]) (leaf_of (fn := Go.Proofs.Try.f4) [6] (by kernel_rfl) ⟨fun ρ w h => by obtain ⟨keys_a, keys_n, keys_c, items_a, items_n, items_c, few, h0, l_a, l_n, l_c, i, e0, e1, e2, e7, e8, e9, h⟩ := herdsmanlaw13_HeapSorts.d6_elim h; obtain ⟨k', h⟩ := h; exact herdsmanlaw13_HeapSorts.f6 Q k' keys_a keys_n keys_c items_a items_n items_c few h0 l_a l_n l_c i w h ρ e0 e1 e2 e7 e8 e9, trivial⟩) (castK h (by kernel_rfl))
/-! ### 5 herdsman/herdsmanlaw13.HeapTurns -/
def herdsmanlaw13_HeapTurns.s13 (Q : Bool → World → Prop) (R13 : Option Addr → Nat → Nat → Option Addr → Option Addr → Int → World → Prop) (l_a : Option Addr) (l_n : Nat) (l_c : Nat) (a : Option Addr) (b : Option Addr) (i : Int) (w : World) : Prop :=
  cond (decide (i < (l_n : Int)))
  (heap_Heap_Pop.call a w fun r69_key r69_item r69_ok w0_1 =>
  heap_Heap_Pop.call b w0_1 fun r75_key r75_item r75_ok w0_2 =>
  cond (r69_key != r75_key)
  (Q false w0_2)
  (cond (r69_item != r75_item)
  (Q false w0_2)
  (cond (!r69_ok)
  (Q false w0_2)
  (cond (!r75_ok)
  (Q false w0_2)
  (R13 l_a l_n l_c a b (IntKind.wrap .i64 (i + 1)) w0_2)))))
  (herdsmanlaw13_told.call w fun r95 w0_3 =>
  cond r95
  (heap_Heap_Len.call a w0_3 fun r98 w0_4 =>
  cond (r98 == 0)
  (heap_Heap_Len.call b w0_4 fun r103 w0_5 =>
  Q (r103 == 0) w0_5)
  (Q false w0_4))
  (Q false w0_3))
def herdsmanlaw13_HeapTurns.b13 (Q : Bool → World → Prop) : Nat → Option Addr → Nat → Nat → Option Addr → Option Addr → Int → World → Prop
  | 0, _, _, _, _, _, _, _ => False
  | k + 1, l_a, l_n, l_c, a, b, i, w => herdsmanlaw13_HeapTurns.s13 Q (herdsmanlaw13_HeapTurns.b13 Q k) l_a l_n l_c a b i w
def herdsmanlaw13_HeapTurns.s7 (Q : Bool → World → Prop) (R7 : Option Addr → Nat → Nat → Int → Option Addr → Option Addr → Int → World → Prop) (l_a : Option Addr) (l_n : Nat) (l_c : Nat) (n : Int) (a : Option Addr) (b : Option Addr) (i : Int) (w : World) : Prop :=
  cond (decide (i < (l_n : Int)))
  (NZ (l_n : Int) <|
  InB i l_n <|
  wA l_a fun p =>
  LdI .i64 (p.add (i.toNat * 1)) w fun x51 =>
  heap_Heap_Push.call a x51 i w fun w0_1 =>
  InB (Int.tmod (IntKind.wrap .i64 (i + n)) (l_n : Int)) l_n <|
  wA l_a fun p_1 =>
  LdI .i64 (p_1.add (((Int.tmod (IntKind.wrap .i64 (i + n)) (l_n : Int))).toNat * 1)) w0_1 fun x58 =>
  heap_Heap_Push.call b x58 (Int.tmod (IntKind.wrap .i64 (i + n)) (l_n : Int)) w0_1 fun w0_2 =>
  R7 l_a l_n l_c n a b (IntKind.wrap .i64 (i + 1)) w0_2)
  (∃ k', herdsmanlaw13_HeapTurns.b13 Q k' l_a l_n l_c a b 0 w)
def herdsmanlaw13_HeapTurns.b7 (Q : Bool → World → Prop) : Nat → Option Addr → Nat → Nat → Int → Option Addr → Option Addr → Int → World → Prop
  | 0, _, _, _, _, _, _, _, _ => False
  | k + 1, l_a, l_n, l_c, n, a, b, i, w => herdsmanlaw13_HeapTurns.s7 Q (herdsmanlaw13_HeapTurns.b7 Q k) l_a l_n l_c n a b i w
def herdsmanlaw13_HeapTurns.sh (keys_a : Option Addr) (keys_n : Nat) (keys_c : Nat) (turn : Int) (w : World) (Q : Bool → World → Prop) : Prop :=
  SlK keys_a keys_n keys_c 1 none (some (imin (keys_n : Int) 60)) fun s22_a s22_n s22_c =>
  herdsmanref1_Within.call turn 0 (s22_n : Int) w fun r26 w0_1 =>
  heap_New.call w0_1 fun r27 w0_2 =>
  heap_New.call w0_2 fun r28 w0_3 =>
  cond r27.isNone
  (Q false w0_3)
  (cond r28.isNone
  (Q false w0_3)
  (∃ k', herdsmanlaw13_HeapTurns.b7 Q k' s22_a s22_n s22_c r26 r27 r28 0 w0_3))
noncomputable def herdsmanlaw13_HeapTurns.scr : Scrs := []
def herdsmanlaw13_HeapTurns.R (Q : Bool → World → Prop) (ρ : Env) (w : World) : Prop := evRes (cx 106) Go.Proofs.Try.f5.results.toList ρ w fun vs => herdsmanlaw13_HeapTurns.qv Q (resV vs) w
def herdsmanlaw13_HeapTurns.d7 (K : Option Addr → Nat → Nat → Int → Option Addr → Option Addr → Int → Prop) (ρ : Env) : Prop :=
  dS (ρ 5) fun l_a l_n l_c => dI .i64 (ρ 6) fun n => dP (ρ 7) fun a => dP (ρ 8) fun b => dI .i64 (ρ 9) fun i => K l_a l_n l_c n a b i
theorem herdsmanlaw13_HeapTurns.d7_elim {K : Option Addr → Nat → Nat → Int → Option Addr → Option Addr → Int → Prop} {ρ : Env} (h0 : herdsmanlaw13_HeapTurns.d7 K ρ) : ∃ (l_a : Option Addr) (l_n : Nat) (l_c : Nat) (n : Int) (a : Option Addr) (b : Option Addr) (i : Int), ρ 5 = .slice l_a l_n l_c ∧ ρ 6 = .int .i64 n ∧ ρ 7 = .pointer a ∧ ρ 8 = .pointer b ∧ ρ 9 = .int .i64 i ∧ K l_a l_n l_c n a b i := by
  obtain ⟨l_a, l_n, l_c, e5, h1⟩ := dS_elim h0
  obtain ⟨n, e6, h2⟩ := dI_elim h1
  obtain ⟨a, e7, h3⟩ := dP_elim h2
  obtain ⟨b, e8, h4⟩ := dP_elim h3
  obtain ⟨i, e9, h5⟩ := dI_elim h4
  exact ⟨l_a, l_n, l_c, n, a, b, i, e5, e6, e7, e8, e9, h5⟩
def herdsmanlaw13_HeapTurns.d13 (K : Option Addr → Nat → Nat → Option Addr → Option Addr → Int → Prop) (ρ : Env) : Prop :=
  dS (ρ 5) fun l_a l_n l_c => dP (ρ 7) fun a => dP (ρ 8) fun b => dI .i64 (ρ 11) fun i => K l_a l_n l_c a b i
theorem herdsmanlaw13_HeapTurns.d13_elim {K : Option Addr → Nat → Nat → Option Addr → Option Addr → Int → Prop} {ρ : Env} (h0 : herdsmanlaw13_HeapTurns.d13 K ρ) : ∃ (l_a : Option Addr) (l_n : Nat) (l_c : Nat) (a : Option Addr) (b : Option Addr) (i : Int), ρ 5 = .slice l_a l_n l_c ∧ ρ 7 = .pointer a ∧ ρ 8 = .pointer b ∧ ρ 11 = .int .i64 i ∧ K l_a l_n l_c a b i := by
  obtain ⟨l_a, l_n, l_c, e5, h1⟩ := dS_elim h0
  obtain ⟨a, e7, h2⟩ := dP_elim h1
  obtain ⟨b, e8, h3⟩ := dP_elim h2
  obtain ⟨i, e11, h4⟩ := dI_elim h3
  exact ⟨l_a, l_n, l_c, a, b, i, e5, e7, e8, e11, h4⟩
set_option maxRecDepth 100000 in
theorem herdsmanlaw13_HeapTurns.f13 (Q : Bool → World → Prop) : ∀ k l_a l_n l_c a b i w, herdsmanlaw13_HeapTurns.b13 Q k l_a l_n l_c a b i w → ∀ ρ : Env, ρ 5 = .slice l_a l_n l_c → ρ 7 = .pointer a → ρ 8 = .pointer b → ρ 11 = .int .i64 i → Fin (cx 106) (todoOf Go.Proofs.Try.f5 13) ρ w (herdsmanlaw13_HeapTurns.R Q) := by
  intro k
  induction k with
  | zero => intro l_a l_n l_c a b i w h; exact h.elim
  | succ k ih =>
    intro l_a l_n l_c a b i w h ρ e5 e7 e8 e11
    have h : herdsmanlaw13_HeapTurns.s13 Q (herdsmanlaw13_HeapTurns.b13 Q k) l_a l_n l_c a b i w := h
    refine Fin.cut (ρ' := put (put (put (put (ρ) (some 5) (.slice l_a l_n l_c)) (some 7) (.pointer a)) (some 8) (.pointer b)) (some 11) (.int .i64 i)) ?_ (by rw [put_id e5, put_id e7, put_id e8, put_id e11])
    refine evT_sound (ok 106) (drawD_sound (ok 106) herdsmanlaw13_HeapTurns.scr) 600 (L := [(13, fun ρ w => herdsmanlaw13_HeapTurns.d13 (fun l_a l_n l_c a b i => herdsmanlaw13_HeapTurns.b13 Q k l_a l_n l_c a b i w) ρ)]) (leaf_of (fn := Go.Proofs.Try.f5) [13] (by kernel_rfl) ⟨fun ρ w h => by obtain ⟨l_a, l_n, l_c, a, b, i, e5, e7, e8, e11, h⟩ := herdsmanlaw13_HeapTurns.d13_elim h; exact ih l_a l_n l_c a b i w h ρ e5 e7 e8 e11, trivial⟩) (castK h (by kernel_rfl))
set_option maxRecDepth 100000 in
theorem herdsmanlaw13_HeapTurns.f7 (Q : Bool → World → Prop) : ∀ k l_a l_n l_c n a b i w, herdsmanlaw13_HeapTurns.b7 Q k l_a l_n l_c n a b i w → ∀ ρ : Env, ρ 5 = .slice l_a l_n l_c → ρ 6 = .int .i64 n → ρ 7 = .pointer a → ρ 8 = .pointer b → ρ 9 = .int .i64 i → Fin (cx 106) (todoOf Go.Proofs.Try.f5 7) ρ w (herdsmanlaw13_HeapTurns.R Q) := by
  intro k
  induction k with
  | zero => intro l_a l_n l_c n a b i w h; exact h.elim
  | succ k ih =>
    intro l_a l_n l_c n a b i w h ρ e5 e6 e7 e8 e9
    have h : herdsmanlaw13_HeapTurns.s7 Q (herdsmanlaw13_HeapTurns.b7 Q k) l_a l_n l_c n a b i w := h
    refine Fin.cut (ρ' := put (put (put (put (put (ρ) (some 5) (.slice l_a l_n l_c)) (some 6) (.int .i64 n)) (some 7) (.pointer a)) (some 8) (.pointer b)) (some 9) (.int .i64 i)) ?_ (by rw [put_id e5, put_id e6, put_id e7, put_id e8, put_id e9])
    refine evT_sound (ok 106) (drawD_sound (ok 106) herdsmanlaw13_HeapTurns.scr) 600 (L := [(7, fun ρ w => herdsmanlaw13_HeapTurns.d7 (fun l_a l_n l_c n a b i => herdsmanlaw13_HeapTurns.b7 Q k l_a l_n l_c n a b i w) ρ), (13, fun ρ w => herdsmanlaw13_HeapTurns.d13 (fun l_a l_n l_c a b i => ∃ k', herdsmanlaw13_HeapTurns.b13 Q k' l_a l_n l_c a b i w) ρ)]) (leaf_of (fn := Go.Proofs.Try.f5) [7, 13] (by kernel_rfl) ⟨fun ρ w h => by obtain ⟨l_a, l_n, l_c, n, a, b, i, e5, e6, e7, e8, e9, h⟩ := herdsmanlaw13_HeapTurns.d7_elim h; exact ih l_a l_n l_c n a b i w h ρ e5 e6 e7 e8 e9, fun ρ w h => by obtain ⟨l_a, l_n, l_c, a, b, i, e5, e7, e8, e11, h⟩ := herdsmanlaw13_HeapTurns.d13_elim h; obtain ⟨k', h⟩ := h; exact herdsmanlaw13_HeapTurns.f13 Q k' l_a l_n l_c a b i w h ρ e5 e7 e8 e11, trivial⟩) (castK h (by kernel_rfl))
set_option maxRecDepth 100000 in
theorem herdsmanlaw13_HeapTurns.body (keys_a : Option Addr) (keys_n : Nat) (keys_c : Nat) (turn : Int) (w : World) (Q : Bool → World → Prop) (h : herdsmanlaw13_HeapTurns.sh keys_a keys_n keys_c turn w Q) : herdsmanlaw13_HeapTurns.call keys_a keys_n keys_c turn w Q := by
  refine call_fn (ok 106) (fn := Go.Proofs.Try.f5) (args := [.slice keys_a keys_n keys_c, .int .i64 turn]) (K := herdsmanlaw13_HeapTurns.qv Q) Go.Proofs.Try.func5 (by kernel_rfl) (by kernel_rfl) (by kernel_rfl) ?_
  refine evT_sound (ok 106) (drawD_sound (ok 106) herdsmanlaw13_HeapTurns.scr) 600 (L := [(7, fun ρ w => herdsmanlaw13_HeapTurns.d7 (fun l_a l_n l_c n a b i => ∃ k', herdsmanlaw13_HeapTurns.b7 Q k' l_a l_n l_c n a b i w) ρ)]) (leaf_of (fn := Go.Proofs.Try.f5) [7] (by kernel_rfl) ⟨fun ρ w h => by obtain ⟨l_a, l_n, l_c, n, a, b, i, e5, e6, e7, e8, e9, h⟩ := herdsmanlaw13_HeapTurns.d7_elim h; obtain ⟨k', h⟩ := h; exact herdsmanlaw13_HeapTurns.f7 Q k' l_a l_n l_c n a b i w h ρ e5 e6 e7 e8 e9, trivial⟩) (castK h (by kernel_rfl))
/-! ### 6 herdsman/herdsmanlaw13.HeapNone -/
def herdsmanlaw13_HeapNone.sh (key : Int) (item : Int) (w : World) (Q : Bool → World → Prop) : Prop :=
  heap_Heap_Push.call none key item w fun w0_1 =>
  heap_Heap_Pop.call none w0_1 fun r23_key r23_item r23_ok w0_2 =>
  heap_Heap_Top.call none w0_2 fun r29_key r29_item r29_ok w0_3 =>
  heap_New.call w0_3 fun r33 w0_4 =>
  heap_New.call w0_4 fun r34 w0_5 =>
  cond r33.isNone
  (Q false w0_5)
  (cond r34.isNone
  (Q false w0_5)
  (heap_Heap_Push.call r33 key item w0_5 fun w0_6 =>
  heap_Heap_Top.call r33 w0_6 fun r47_key r47_item r47_ok w0_7 =>
  herdsmanlaw13_told.call w0_7 fun r51 w0_8 =>
  cond r51
  (cond (r23_key == 0)
  (cond (r23_item == 0)
  (cond (!r23_ok)
  (cond (r29_key == 0)
  (cond (r29_item == 0)
  (cond (!r29_ok)
  (heap_Heap_Len.call none w0_8 fun r78 w0_9 =>
  cond (r78 == 0)
  (heap_Heap_Len.call r34 w0_9 fun r83 w0_10 =>
  cond (r83 == 0)
  (heap_Heap_Len.call r33 w0_10 fun r88 w0_11 =>
  cond (r88 == 1)
  (cond (r47_key == key)
  (cond (r47_item == item)
  (Q r47_ok w0_11)
  (Q false w0_11))
  (Q false w0_11))
  (Q false w0_11))
  (Q false w0_10))
  (Q false w0_9))
  (Q false w0_8))
  (Q false w0_8))
  (Q false w0_8))
  (Q false w0_8))
  (Q false w0_8))
  (Q false w0_8))
  (Q false w0_8)))
noncomputable def herdsmanlaw13_HeapNone.scr : Scrs := []
def herdsmanlaw13_HeapNone.R (Q : Bool → World → Prop) (ρ : Env) (w : World) : Prop := evRes (cx 104) Go.Proofs.Try.f6.results.toList ρ w fun vs => herdsmanlaw13_HeapNone.qv Q (resV vs) w
set_option maxRecDepth 100000 in
theorem herdsmanlaw13_HeapNone.body (key : Int) (item : Int) (w : World) (Q : Bool → World → Prop) (h : herdsmanlaw13_HeapNone.sh key item w Q) : herdsmanlaw13_HeapNone.call key item w Q := by
  refine call_fn (ok 104) (fn := Go.Proofs.Try.f6) (args := [.int .i64 key, .int .i64 item]) (K := herdsmanlaw13_HeapNone.qv Q) Go.Proofs.Try.func6 (by kernel_rfl) (by kernel_rfl) (by kernel_rfl) ?_
  refine evT_sound (ok 104) (drawD_sound (ok 104) herdsmanlaw13_HeapNone.scr) 600 (L := []) (leaf_of (fn := Go.Proofs.Try.f6) [] (by kernel_rfl) trivial) (castK h (by kernel_rfl))
end Go.Proofs.Yticibkdeiigocaa.S
