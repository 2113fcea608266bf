/- Layer 26: shaped, fits, number, put, read, cut, May. -/
import Derived.Test.YtjndgflalbcngaaSxM
import Derived.Test.YtjndgflalbcngaaOP
import Derived.Test.YtjndgflalbcngaaXF0
import Derived.Test.YtjndgflalbcngaaXF1
set_option linter.unusedVariables false
set_option linter.unusedSimpArgs false
namespace Go.Proofs.Ytjndgflalbcngaa.S
open Go.Sx
theorem tab_ok : OkTab P T := okTab_of P rows rows_ok
theorem zc30 : zc T 30 = [.int .i64 0, .int .i64 0, .int .i64 0, .slice none 0 0] := rfl
theorem zc47 : zc T 47 = [.int .i64 0, .int .i64 0, .bool false] := rfl
attribute [local irreducible] LdI LdB LdStr LdP LdS LdM LdV St Bx Al App Cpy MkS MkM EqK RunK RunU CallK SlK blkA rowA joinA
theorem op_shaped.spec {F : Nat → Prop} {W w : World} {L : List As} {k : Int} {Q : Int → Int → Bool → Bool → World → Prop} (s0 : Sep F W w L) (h : ∀ w', Sep F W w' L → Fr No w w' → Q (shA k) (shB k) (shL k) (shOk k) w') : op_shaped.call k w Q := by
  refine op_shaped.body _ _ _ ?_
  unfold op_shaped.sh
  have s := Sep.nil (F := No) (w := w)
  by_cases hk : 1 ≤ k ∧ k ≤ 8
  · have hk' : k = 1 ∨ k = 2 ∨ k = 3 ∨ k = 4 ∨ k = 5 ∨ k = 6 ∨ k = 7 ∨ k = 8 := by omega
    rcases hk' with rfl | rfl | rfl | rfl | rfl | rfl | rfl | rfl
    all_goals
      repeat' first
        | refine Sep.LdI s (i := 0) rfl rfl rfl ?_
        | refine Sep.LdS s (i := 0) rfl rfl rfl ?_
        | refine Sep.LdB s (i := 0) rfl rfl rfl ?_
        | refine Sep.LdP s (i := 0) rfl rfl rfl ?_
        | refine And.intro (Sep.cell s (i := 0) rfl rfl rfl) ?_
        | refine Sep.LdI s (i := 1) rfl rfl rfl ?_
        | refine Sep.LdS s (i := 1) rfl rfl rfl ?_
        | refine Sep.LdB s (i := 1) rfl rfl rfl ?_
        | refine Sep.LdP s (i := 1) rfl rfl rfl ?_
        | refine And.intro (Sep.cell s (i := 1) rfl rfl rfl) ?_
        | (refine Sep.St s (i := 0) rfl rfl rfl fun w s => ?_; simp only [List.set_cons_zero, List.set_cons_succ] at s)
        | (refine Sep.St s (i := 1) rfl rfl rfl fun w s => ?_; simp only [List.set_cons_zero, List.set_cons_succ] at s)
        | refine Sep.Bx s fun b w s => ?_
        | (refine Sep.Al s fun b w s => ?_; simp only [zc30, zc47] at s)
        | unfold op_shaped.b13
        | unfold op_shaped.b16
        | (replace s := Sep.drew s; first
          | refine Sep.LdI s (i := 0) rfl rfl rfl ?_
          | refine Sep.LdS s (i := 0) rfl rfl rfl ?_
          | refine Sep.LdB s (i := 0) rfl rfl rfl ?_
          | refine Sep.LdP s (i := 0) rfl rfl rfl ?_
          | refine And.intro (Sep.cell s (i := 0) rfl rfl rfl) ?_
          | refine Sep.LdI s (i := 1) rfl rfl rfl ?_
          | refine Sep.LdS s (i := 1) rfl rfl rfl ?_
          | refine Sep.LdB s (i := 1) rfl rfl rfl ?_
          | refine Sep.LdP s (i := 1) rfl rfl rfl ?_
          | refine And.intro (Sep.cell s (i := 1) rfl rfl rfl) ?_
          | (refine Sep.St s (i := 0) rfl rfl rfl fun w s => ?_; simp only [List.set_cons_zero, List.set_cons_succ] at s)
          | (refine Sep.St s (i := 1) rfl rfl rfl fun w s => ?_; simp only [List.set_cons_zero, List.set_cons_succ] at s)
          | refine Sep.Bx s fun b w s => ?_
          | (refine Sep.Al s fun b w s => ?_; simp only [zc30, zc47] at s)
          | unfold op_shaped.b13
          | unfold op_shaped.b16)
    all_goals exact h _ (Sep.call s0 (sep_fr s)) (sep_fr s)
  · have e : ∀ j : Int, 1 ≤ j ∧ j ≤ 8 → (k == j) = false := fun j hj => by rw [beq_eq_false_iff_ne]; omega
    rw [e 1 (by decide), e 2 (by decide), e 3 (by decide), e 4 (by decide), e 5 (by decide), e 6 (by decide), e 7 (by decide), e 8 (by decide)]
    simp only [cond_false]
    repeat' first
      | refine Sep.LdI s (i := 0) rfl rfl rfl ?_
      | refine Sep.LdS s (i := 0) rfl rfl rfl ?_
      | refine Sep.LdB s (i := 0) rfl rfl rfl ?_
      | refine Sep.LdP s (i := 0) rfl rfl rfl ?_
      | refine And.intro (Sep.cell s (i := 0) rfl rfl rfl) ?_
      | refine Sep.LdI s (i := 1) rfl rfl rfl ?_
      | refine Sep.LdS s (i := 1) rfl rfl rfl ?_
      | refine Sep.LdB s (i := 1) rfl rfl rfl ?_
      | refine Sep.LdP s (i := 1) rfl rfl rfl ?_
      | refine And.intro (Sep.cell s (i := 1) rfl rfl rfl) ?_
      | (refine Sep.St s (i := 0) rfl rfl rfl fun w s => ?_; simp only [List.set_cons_zero, List.set_cons_succ] at s)
      | (refine Sep.St s (i := 1) rfl rfl rfl fun w s => ?_; simp only [List.set_cons_zero, List.set_cons_succ] at s)
      | refine Sep.Bx s fun b w s => ?_
      | (refine Sep.Al s fun b w s => ?_; simp only [zc30, zc47] at s)
      | (replace s := Sep.drew s; first
        | refine Sep.LdI s (i := 0) rfl rfl rfl ?_
        | refine Sep.LdS s (i := 0) rfl rfl rfl ?_
        | refine Sep.LdB s (i := 0) rfl rfl rfl ?_
        | refine Sep.LdP s (i := 0) rfl rfl rfl ?_
        | refine And.intro (Sep.cell s (i := 0) rfl rfl rfl) ?_
        | refine Sep.LdI s (i := 1) rfl rfl rfl ?_
        | refine Sep.LdS s (i := 1) rfl rfl rfl ?_
        | refine Sep.LdB s (i := 1) rfl rfl rfl ?_
        | refine Sep.LdP s (i := 1) rfl rfl rfl ?_
        | refine And.intro (Sep.cell s (i := 1) rfl rfl rfl) ?_
        | (refine Sep.St s (i := 0) rfl rfl rfl fun w s => ?_; simp only [List.set_cons_zero, List.set_cons_succ] at s)
        | (refine Sep.St s (i := 1) rfl rfl rfl fun w s => ?_; simp only [List.set_cons_zero, List.set_cons_succ] at s)
        | refine Sep.Bx s fun b w s => ?_
        | (refine Sep.Al s fun b w s => ?_; simp only [zc30, zc47] at s))
    have := h _ (Sep.call s0 (sep_fr s)) (sep_fr s)
    rw [show shA k = 0 by unfold shA; rw [if_neg (by omega)], show shB k = 0 by unfold shB; rw [if_neg (by omega), if_neg (by omega)], show shL k = false from decide_eq_false (by omega), show shOk k = false from decide_eq_false (by omega)] at this
    exact this
theorem op_fits.spec {w : World} {n : Int} {sz : Nat} {Q : Bool → World → Prop} (hs : sz ≤ 4) (h : Q (fitsP n sz) w) : op_fits.call n sz w Q := by
  refine op_fits.body _ _ _ _ ?_
  unfold op_fits.sh
  unfold fitsP at h
  by_cases h0 : n ≥ 0
  · rw [decide_eq_true h0, cond_true]
    have e : ishl .i64 1 (IntKind.wrap .i64 (8 * (sz : Int))) = 256 ^ sz ∧ 0 ≤ IntKind.wrap .i64 (8 * (sz : Int)) := by
      have hs' : sz = 0 ∨ sz = 1 ∨ sz = 2 ∨ sz = 3 ∨ sz = 4 := by omega
      rcases hs' with rfl | rfl | rfl | rfl | rfl <;> decide
    refine ⟨e.2, ?_⟩
    rw [e.1, show decide (n < 256 ^ sz) = decide (0 ≤ n ∧ n < 256 ^ sz) from decide_eq_decide.2 ⟨fun h => ⟨h0, h⟩, fun h => h.2⟩]
    exact h
  · rw [decide_eq_false h0, cond_false]
    rwa [decide_eq_false (fun h => h0 h.1)] at h
theorem ior_add {a b : Int} {k : Nat} (hk : k ≤ 24) (ha : 0 ≤ a ∧ a < 2 ^ k) (hb : 0 ≤ b ∧ b < 256) : ior .i64 a (ishl .i64 b (k : Int)) = a + b * 2 ^ k := by
  obtain ⟨m, rfl⟩ : ∃ m : Nat, a = m := ⟨a.toNat, by omega⟩
  obtain ⟨p, rfl⟩ : ∃ p : Nat, b = p := ⟨b.toNat, by omega⟩
  have h2 : (2 : Int) ^ k ≤ 2 ^ 24 := by
    have := Nat.pow_le_pow_right (show 0 < 2 by decide) hk
    exact_mod_cast this
  have hm : m < 2 ^ k := by exact_mod_cast ha.2
  have hk2 : (2 : Nat) ^ k ≤ 2 ^ 24 := Nat.pow_le_pow_right (by decide) hk
  have hp : p * 2 ^ k ≤ 255 * 2 ^ 24 := Nat.mul_le_mul (by omega) hk2
  have e1 : ishl .i64 (p : Int) (k : Int) = ((p * 2 ^ k : Nat) : Int) := by
    unfold ishl
    have e : min ((k : Nat) : Int).toNat (IntKind.i64).bits = k := by simp [IntKind.bits]; omega
    rw [e, show (p : Int) * 2 ^ k = ((p * 2 ^ k : Nat) : Int) by push_cast; rfl, wrap_i64 (by omega) (by omega)]
  rw [e1]
  unfold ior
  rw [BitVec.ofInt_natCast, BitVec.ofInt_natCast, BitVec.toNat_or, BitVec.toNat_ofNat, BitVec.toNat_ofNat]
  have b64 : (IntKind.i64).bits = 64 := rfl
  rw [b64, Nat.mod_eq_of_lt (by omega), Nat.mod_eq_of_lt (by omega), Nat.or_comm, Nat.mul_comm p, ← Nat.two_pow_add_eq_or_of_lt hm]
  rw [Nat.mul_comm] at hp
  rw [wrap_i64 (by omega) (by omega)]
  push_cast
  rw [Int.mul_comm, Int.add_comm]
theorem numI_app (l : List Int) (x : Int) : numI (l ++ [x]) = numI l + x * 2 ^ (8 * l.length) := by
  induction l with
  | nil => simp [numI]
  | cons y l ih =>
    simp only [List.cons_append, numI, ih, List.length_cons]
    rw [Nat.mul_add, Nat.mul_one, Int.pow_add, Int.mul_add]
    have : x * ((2 : Int) ^ (8 * l.length) * 2 ^ 8) = 256 * (x * 2 ^ (8 * l.length)) := by
      rw [← Int.mul_assoc, Int.mul_comm]; rfl
    omega
theorem take_snoc {l : List Int} {i : Nat} (h : i < l.length) : l.take (i + 1) = l.take i ++ [gi l i] := by
  rw [List.take_add_one, gi_get h]
  rfl
section
variable {F : Nat → Prop} {W w : World} {L : List As} {a : Option Addr} {n c : Nat} {bs : List Int}
theorem op_number.spec {Q : Int → World → Prop} (hA : Sl w a n c 1 by8 bs) (hr : Rng bs) (hn : n ≤ 4) (h : Q (numI bs) w) : op_number.call a n c w Q := by
  refine op_number.body _ _ _ _ _ ?_
  unfold op_number.sh
  have loop : ∀ (m i : Nat), i + m = n → op_number.b3 Q (m + 1) (numI (bs.take i)) a n c n i w := by
    intro m
    induction m with
    | zero =>
      intro i hi
      show op_number.s3 Q (op_number.b3 Q 0) _ _ _ _ _ _ _
      unfold op_number.s3
      rw [decide_eq_false (by omega), cond_false, List.take_of_length_le (by rw [hA.len]; omega)]
      exact h
    | succ m ih =>
      intro i hi
      show op_number.s3 Q (op_number.b3 Q (m + 1)) _ _ _ _ _ _ _
      unfold op_number.s3
      rw [decide_eq_true (by omega), cond_true]
      refine Sl.rd8 hA rfl (by omega) ?_
      have hv := hr _ (gi_mem (l := bs) (i := i) (by rw [hA.len]; omega))
      rw [wrap_i64 (n := 8 * (i : Int)) (by omega) (by omega), wrap_i64 (n := (i : Int) + 1) (by omega) (by omega), wrap_i64 (n := gi bs i) (by omega) (by omega)]
      refine ⟨by omega, ?_⟩
      have li : (bs.take i).length = i := by rw [List.length_take, hA.len]; omega
      have e := numI_range (hr.take i)
      rw [li] at e
      have e2 : (256 : Int) ^ i = 2 ^ (8 * i) := by rw [Int.pow_mul]; rfl
      rw [show 8 * (i : Int) = ((8 * i : Nat) : Int) by push_cast; rfl, ior_add (by omega) (by rw [← e2]; exact e) hv]
      have := ih (i + 1) (by omega)
      rw [take_snoc (by rw [hA.len]; omega), numI_app, li] at this
      exact this
  have := loop n 0 (by omega)
  exact ⟨n + 1, this⟩
theorem op_put.spec {v : Int} {sz : Nat} {Q : Option Addr → Nat → Nat → World → Prop} (s : Sep F W w (rowA a n c 5 1 (flat by8 bs) :: L)) (hs : sz ≤ 8) (hn : n ≤ 1000000000000)
    (h : ∀ ra rn rc w', rn = n + sz → Sep F W w' (rowA ra rn rc 5 1 (flat by8 (bs ++ putI v sz)) :: L) → Q ra rn rc w') : op_put.call a n c v sz w Q := by
  refine op_put.body _ _ _ _ _ _ _ ?_
  unfold op_put.sh
  have loop : ∀ (m i : Nat) (v : Int) (a : Option Addr) (n c : Nat) (bs : List Int) (w : World), i + m = sz → n + m ≤ 1000000000010 → Sep F W w (rowA a n c 5 1 (flat by8 bs) :: L) →
      (∀ ra rn rc w', rn = n + m → Sep F W w' (rowA ra rn rc 5 1 (flat by8 (bs ++ putI v m)) :: L) → Q ra rn rc w') → op_put.b2 Q (m + 1) a n c v sz i w := by
    intro m
    induction m with
    | zero =>
      intro i v a n c bs w hi hn s h
      show op_put.s2 Q (op_put.b2 Q 0) _ _ _ _ _ _ _
      unfold op_put.s2
      rw [decide_eq_false (by omega), cond_false]
      exact h _ _ _ _ rfl (by rw [putI, List.append_nil]; exact s)
    | succ m ih =>
      intro i v a n c bs w hi hn s h
      show op_put.s2 Q (op_put.b2 Q (m + 1)) _ _ _ _ _ _ _
      unfold op_put.s2
      rw [decide_eq_true (by omega), cond_true]
      refine Sep.Bx s fun b w s => ?_
      have e8 : IntKind.wrap .u8 v = v % 256 := wrap_u8' v
      rw [e8] at s
      have src : Src w (some ⟨b, 0, none⟩) 1 1 [.int .u8 (v % 256)] := ⟨rfl, (fun u hu => by rw [List.mem_singleton.1 hu]; rfl), fun j u hj => by rw [add_flat, Nat.zero_add]; exact Sep.cell s (i := 0) rfl rfl hj⟩
      refine Sep.App tab_ok s (i := 1) (size := 1) (bytes := 1) rfl rfl rfl rfl rfl rfl (by decide) rfl src (by simp only [maxLen]; omega) (by omega) (fun e => by cases e) fun a1 c1 w1 s1 => ?_
      simp only [List.set_cons_zero, List.set_cons_succ] at s1
      have e : flat by8 bs ++ [.int .u8 (v % 256)] = flat by8 (bs ++ [v % 256]) := by rw [flat_append]; rfl
      rw [e] at s1
      refine ⟨by decide, ?_⟩
      rw [wrap_i64 (n := (i : Int) + 1) (by omega) (by omega)]
      have e9 : ishr .i64 v 8 = v / 256 := by
        unfold ishr
        rw [show min (8 : Int).toNat (IntKind.i64).bits = 8 by decide, Int.fdiv_eq_ediv_of_nonneg _ (by decide)]
        rfl
      rw [e9]
      refine ih (i + 1) (v / 256) a1 (n + 1) c1 (bs ++ [v % 256]) w1 (by omega) (by omega) (Sep.drop s1) fun ra rn rc w' hrn s' => h ra rn rc w' (by omega) ?_
      rwa [List.append_assoc, List.singleton_append] at s'
  exact ⟨sz + 1, loop sz 0 v a n c bs w (by omega) (by omega) s h⟩
end
end Go.Proofs.Ytjndgflalbcngaa.S
