/- Words by themselves: structs compared, numbers wrapped. -/
import Derived.Test.YtjndgflalbcngaaSxG
import Derived.Laws.StructEq
import Derived.ChangeKeysEq
set_option linter.unusedVariables false
set_option linter.unusedSimpArgs false
namespace Go.Sx

def eqLeaf (d : Option TypeDesc) (a b : Option Value) : Option Bool := match d with
  | some (.int _) => match a with
    | some (.int k x) => match b with
      | some (.int l y) => cond (Nat.beq (ikN k) (ikN l)) (some (x == y)) none
      | _ => none
    | _ => none
  | some .bool => match a with
    | some (.bool x) => match b with
      | some (.bool y) => some (x == y)
      | _ => none
    | _ => none
  | _ => none
def eqFs (P : Program) (xs ys : Array Value) : List Field → Option Bool
  | [] => some true
  | f :: fs => match f.name == "_" with
    | true => none
    | false => match eqLeaf (P.underlying f.type) xs[f.offset]? ys[f.offset]? with
      | some r => match eqFs P xs ys fs with
        | some s => some (r && s)
        | none => none
      | none => none
theorem eqLeaf_run {P : Program} {t : TypeId} {d : Nat} {xs ys : Array Value} {i : Nat} {r : Bool} {w : World} (h : eqLeaf (P.underlying t) xs[i]? ys[i]? = some r) :
    ∃ a b, (part t xs i).run P w = .ok a w ∧ (part t ys i).run P w = .ok b w ∧ (Op.equalIn (d + 1) t a b).run P w = .ok r w := by
  unfold eqLeaf at h
  split at h
  · rename_i k hu
    split at h
    · rename_i kx x hx
      split at h
      · rename_i ky y hy
        cases hk : Nat.beq (ikN kx) (ikN ky) with
        | false => rw [hk] at h; cases h
        | true =>
          rw [hk] at h
          cases h
          obtain rfl : kx = ky := by revert hk; cases kx <;> cases ky <;> simp [ikN]
          exact ⟨_, _, run_part_plain w (by simp [Program.plainKey, hu]) hx, run_part_plain w (by simp [Program.plainKey, hu]) hy, run_equalIn_int w d t _ _ x y hu⟩
      · cases h
    · cases h
  · rename_i hu
    split at h
    · rename_i x hx
      split at h
      · rename_i y hy
        cases h
        exact ⟨_, _, run_part_plain w (by simp [Program.plainKey, hu]) hx, run_part_plain w (by simp [Program.plainKey, hu]) hy, run_equalIn_bool w d t x y hu⟩
      · cases h
    · cases h
  · cases h
theorem eqFs_run {P : Program} {d : Nat} {xs ys : Array Value} {w : World} : ∀ {fs : List Field} {r : Bool}, eqFs P xs ys fs = some r → (Op.eqFields (d + 1) xs ys fs).run P w = .ok r w
  | [], r, h => by
    cases h
    simp [Op.eqFields]
  | f :: fs, r, h => by
    unfold eqFs at h
    split at h
    · cases h
    · rename_i hn
      split at h
      · rename_i r1 h1
        split at h
        · rename_i s h2
          cases h
          obtain ⟨a, b, ha, hb, he⟩ := eqLeaf_run (d := d) (w := w) h1
          have hn' : f.name ≠ "_" := by simpa using hn
          rw [Op.eqFields]
          simp only [if_pos hn', Sem.run_bind, ha, hb, he, Result.andThen_ok]
          cases r1
          · simp
          · simpa using eqFs_run h2
        · cases h
      · cases h
theorem EqK_of {P : Program} {t : TypeId} {fs : Array Field} {xs ys : Array Value} {x y : Operand} {r : Bool} {w : World} {K : Bool → World → Prop} (hu : P.underlying t = some (.struct fs)) (hp : P.stoodInHeld t = false) (hg : P.eqGuardType P.depth t = false)
    (hr : eqFs P xs ys fs.toList = some r) (h : K r w) : EqK P .eql t x y (.agg xs) (.agg ys) w K := by
  have hf : P.fieldsOf t = fs := by simp [Program.fieldsOf, hu]
  have h1 : (Op.equalIn 10000 t (.agg xs) (.agg ys)).run P w = .ok r w := by
    rw [run_equalIn_struct (P := P) w 9999 t xs ys (by rw [hf]; exact hu) hp, hf]
    exact eqFs_run hr
  unfold EqK RunK
  simp only [Sem.run_bind, run_eqGuard_agg (P := P) w .eql t x y xs ys hg, Result.andThen_ok, run_eql_struct, h1]
  exact h
def eqIs (P : Program) (e : TypeId) (c : Nat) (xs ys : Array Value) : List Nat → Option Bool
  | [] => some true
  | i :: is => match eqLeaf (P.underlying e) xs[i * c]? ys[i * c]? with
    | some r => match eqIs P e c xs ys is with
      | some s => some (r && s)
      | none => none
    | none => none
theorem eqIs_run {P : Program} {e : TypeId} {c d : Nat} {xs ys : Array Value} {w : World} : ∀ {is : List Nat} {r : Bool}, eqIs P e c xs ys is = some r → (Op.eqItems (d + 1) e c xs ys is).run P w = .ok r w
  | [], r, h => by
    cases h
    simp [Op.eqItems]
  | i :: is, r, h => by
    unfold eqIs at h
    split at h
    · rename_i r1 h1
      split at h
      · rename_i s h2
        cases h
        obtain ⟨a, b, ha, hb, he⟩ := eqLeaf_run (d := d) (w := w) h1
        rw [Op.eqItems]
        simp only [Sem.run_bind, ha, hb, he, Result.andThen_ok]
        cases r1
        · simp
        · simpa using eqIs_run h2
      · cases h
    · cases h
theorem EqK_arr {P : Program} {t e : TypeId} {n : Nat} {inf : TypeInfo} {xs ys : Array Value} {x y : Operand} {r : Bool} {w : World} {K : Bool → World → Prop} (hu : P.underlying t = some (.array n e)) (hi : P.info? e = some inf) (hg : P.eqGuardType P.depth t = false)
    (hr : eqIs P e (P.cellsOf e) xs ys (List.range n) = some r) (h : K r w) : EqK P .eql t x y (.agg xs) (.agg ys) w K := by
  have h1 : (Op.equalIn 10000 t (.agg xs) (.agg ys)).run P w = .ok r w := by
    rw [run_equalIn_array (P := P) w 9999 xs ys hu hi]
    exact eqIs_run hr
  unfold EqK RunK
  simp only [Sem.run_bind, run_eqGuard_agg (P := P) w .eql t x y xs ys hg, Result.andThen_ok, run_eql_struct, h1]
  exact h
theorem wrap_id {k : IntKind} {n : Int} (h : (Lit.int k n).wf = true) : k.wrap n = n := by
  cases k <;> simp [Lit.wf, IntKind.wrap, IntKind.min, IntKind.max, IntKind.signed, IntKind.bits] at h ⊢ <;> (try split) <;> omega
theorem wrap_u64 {n : Int} (h1 : 0 ≤ n) (h2 : n < 18446744073709551616) : IntKind.wrap .u64 n = n := by
  simp [IntKind.wrap, IntKind.signed, IntKind.bits]; omega
theorem wrap_i64 {n : Int} (h1 : -9223372036854775808 ≤ n) (h2 : n < 9223372036854775808) : IntKind.wrap .i64 n = n := by
  simp [IntKind.wrap, IntKind.signed, IntKind.bits]; omega
theorem wrap_u8 {n : Int} (h1 : 0 ≤ n) (h2 : n < 256) : IntKind.wrap .u8 n = n := by
  simp [IntKind.wrap, IntKind.signed, IntKind.bits]; omega
theorem wf_u64 {n : Int} (h : (Lit.int .u64 n).wf = true) : 0 ≤ n ∧ n < 18446744073709551616 := by
  simp [Lit.wf, IntKind.min, IntKind.max, IntKind.signed, IntKind.bits] at h; omega
theorem wf_i64 {n : Int} (h : (Lit.int .i64 n).wf = true) : -9223372036854775808 ≤ n ∧ n < 9223372036854775808 := by
  simp [Lit.wf, IntKind.min, IntKind.max, IntKind.signed, IntKind.bits] at h; omega
theorem wf_u8 {n : Int} (h : (Lit.int .u8 n).wf = true) : 0 ≤ n ∧ n < 256 := by
  simp [Lit.wf, IntKind.min, IntKind.max, IntKind.signed, IntKind.bits] at h; omega
theorem bits_wf (k : IntKind) (n : Int) : (Lit.int k (k.wrap n)).wf = true := wf_wrap k n
theorem xor_ones (m : Nat) (hm : m < 2 ^ 64) : (BitVec.allOnes 64 ^^^ BitVec.ofNat 64 m).toNat = 2 ^ 64 - 1 - m := by
  rw [BitVec.allOnes_xor, BitVec.toNat_not, BitVec.toNat_ofNat, Nat.mod_eq_of_lt hm]
theorem inot_u64 {n : Int} (h1 : 0 ≤ n) (h2 : n < 18446744073709551616) : inot .u64 n = 18446744073709551615 - n := by
  obtain ⟨m, rfl⟩ : ∃ m : Nat, n = m := ⟨n.toNat, by omega⟩
  have hm : m < 2 ^ 64 := by omega
  have e : inot .u64 (m : Int) = IntKind.wrap .u64 ((BitVec.allOnes 64 ^^^ BitVec.ofNat 64 m).toNat : Nat) := by
    show IntKind.wrap .u64 ((BitVec.ofInt 64 (2 ^ 64 - 1) ^^^ BitVec.ofInt 64 (m : Int)).toNat : Nat) = _
    have e1 : BitVec.ofInt 64 (2 ^ 64 - 1) = BitVec.allOnes 64 := by decide
    have e2 : BitVec.ofInt 64 (m : Int) = BitVec.ofNat 64 m := by simp
    rw [e1, e2]
  rw [e, xor_ones m hm, wrap_u64] <;> omega
end Go.Sx
