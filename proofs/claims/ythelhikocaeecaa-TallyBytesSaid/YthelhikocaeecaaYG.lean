/- Layer 6: counts' bytes: what Bytes makes, and TallyBytes answers true. -/
import Derived.Test.YthelhikocaeecaaYF
import Derived.Test.YthelhikocaeecaaSxI
set_option linter.unusedVariables false
set_option linter.unusedSimpArgs false
namespace Go.Proofs.Ythelhikocaeecaa.S
open Go.Sx
def byt (n : Int) (j : Nat) : Int := n / 256 ^ j % 256
def le8 (n : Int) : List Int := (List.range 8).map (byt n)
def nums (l : List Int) : List Value := l.map (.int .u8)
theorem byt_range (n : Int) (j : Nat) : 0 ≤ byt n j ∧ byt n j < 256 := by unfold byt; omega
theorem wrap_u8' (n : Int) : IntKind.wrap .u8 n = n % 256 := by simp [IntKind.wrap, IntKind.signed, IntKind.bits]
theorem flat8 : ∀ (ls : List Int) (n : Nat), n < 8 * ls.length → (ls.flatMap le8)[n]? = some (byt (ls.getD (n / 8) 0) (n % 8))
  | [], n, h => by simp at h
  | x :: ls, n, h => by
    rw [List.flatMap_cons]
    have hl : (le8 x).length = 8 := by simp [le8]
    by_cases hn : n < 8
    · rw [List.getElem?_append_left (by omega), Nat.div_eq_of_lt hn, Nat.mod_eq_of_lt hn]
      simp [le8, hn]
    · rw [List.getElem?_append_right (by omega), hl, flat8 ls (n - 8) (by simp at h; omega)]
      have e1 : n / 8 = (n - 8) / 8 + 1 := by omega
      have e2 : (n - 8) % 8 = n % 8 := by omega
      rw [e1, e2, List.getD_cons_succ]
theorem byts_back {m n : Int} : ∀ k : Nat, (∀ j, j < k → byt m j = byt n j) → m / 256 ^ k = n / 256 ^ k → m = n
  | 0, _, h => by simpa using h
  | k + 1, hb, h => by
    refine byts_back k (fun j hj => hb j (by omega)) ?_
    have h1 := hb k (by omega)
    unfold byt at h1
    rw [Int.pow_succ, ← Int.ediv_ediv_of_nonneg (by exact Int.pow_nonneg (by omega)), ← Int.ediv_ediv_of_nonneg (by exact Int.pow_nonneg (by omega))] at h
    omega
theorem byts_inj {m n : Int} (hm : U m) (hn : U n) (h : le8 m = le8 n) : m = n := by
  refine byts_back 8 (fun j hj => ?_) ?_
  · have := congrArg (fun l => l[j]?) h
    simpa [le8, hj] using this
  · unfold U at hm hn
    rw [Int.ediv_eq_zero_of_lt hm.1 (by have : (256 : Int) ^ 8 = 18446744073709551616 := by decide
                                        omega), Int.ediv_eq_zero_of_lt hn.1 (by have : (256 : Int) ^ 8 = 18446744073709551616 := by decide
                                                                                omega)]
end Go.Proofs.Ythelhikocaeecaa.S
