/- Layer 7: what Within and the ring's functions do, whatever else the memory holds. -/
import Derived.Test.YtfmhpmpfkmhgpaaRA
import Derived.Test.YtfmhpmpfkmhgpaaXF0
set_option linter.unusedVariables false
set_option linter.unusedSimpArgs false
namespace Go.Proofs.Ytfmhpmpfkmhgpaa.S
open Go.Sx
theorem tab_ok : OkTab P T := okTab_of P rows rows_ok
theorem herdsmanref1_Within.spec {n lo hi : Int} {w : World} {Q : Int → World → Prop} (h1 : lo ≤ hi) (h2 : -1099511627776 ≤ lo) (h3 : hi ≤ 1099511627776) (h : Q (lo + n % (hi - lo + 1)) w) : herdsmanref1_Within.call n lo hi w Q := by
  refine herdsmanref1_Within.body _ _ _ _ _ ?_
  unfold herdsmanref1_Within.sh
  rw [wrap_i64 (n := hi - lo) (by omega) (by omega), wrap_i64 (n := hi - lo + 1) (by omega) (by omega)]
  generalize hs : hi - lo + 1 = s at h
  have h4 := Int.lt_tmod_of_pos n (b := s) (by omega)
  have h5 := Int.tmod_lt_of_pos n (b := s) (by omega)
  have h6 := Int.tmod_add_mul_tdiv n s
  refine ⟨by omega, ?_⟩
  generalize ht : Int.tmod n s = t at *
  have e : n % s = t % s := by rw [← h6, Int.add_mul_emod_self_left]
  by_cases hn : t < 0
  · rw [decide_eq_true hn, cond_true, wrap_i64 (n := t + hi) (by omega) (by omega), wrap_i64 (n := t + hi - lo) (by omega) (by omega), wrap_i64 (n := t + hi - lo + 1) (by omega) (by omega), wrap_i64 (by omega) (by omega)]
    have e2 : t % s = t + s := by rw [← Int.add_emod_right, Int.emod_eq_of_lt (by omega) (by omega)]
    rw [e, e2] at h
    have e3 : t + hi - lo + 1 = t + s := by omega
    rw [e3]; exact h
  · rw [decide_eq_false hn, cond_false, wrap_i64 (by omega) (by omega)]
    rw [e, Int.emod_eq_of_lt (by omega) h5] at h
    exact h
theorem within_range {n lo hi : Int} (h : lo ≤ hi) : lo ≤ lo + n % (hi - lo + 1) ∧ lo + n % (hi - lo + 1) ≤ hi := by
  have h1 := Int.emod_nonneg n (b := hi - lo + 1) (by omega)
  have h2 := Int.emod_lt_of_pos n (b := hi - lo + 1) (by omega)
  omega
/-- A bucket: its slice, how many of it are gone. -/
structure Bk where
  a : Option Addr
  c : Nat
  xs : List Int
  gone : Nat
def ints (l : List Int) : List Value := l.map (.int .i64)
def bkc (b : Bk) : List Value := [.slice b.a b.xs.length b.c, .int .i64 b.gone]
theorem bkc_len (b : Bk) : (bkc b).length = 2 := rfl
def brow (b : Bk) : As := rowA b.a b.xs.length b.c 3 1 (ints b.xs)
def rcells (a len : Int) (bs : List Bk) : List Value := .int .i64 a :: .int .i64 len :: flat bkc bs
def ringL (p : Nat) (a len : Int) (bs : List Bk) : List As := blkA p 47 (rcells a len bs) :: bs.map brow
/-- What a ring holds: the buckets have what waits, in order; an empty one has nothing at all. -/
structure Rel (a : Int) (l : List E) (bs : List Bk) (N : Nat) : Prop where
  n : bs.length = 256
  fit : Fit a l
  nn : 0 ≤ a
  big : a + 256 * (l.length : Int) ≤ 1099511627776 + 256 * (N : Int)
  few : l.length ≤ N
  room : N < 1000000
  bk : ∀ (j : Nat) b, bs[j]? = some b → b.xs.drop b.gone = pend l j ∧ b.gone ≤ b.xs.length ∧ b.xs.length ≤ N
def ringA (p : Nat) (a : Int) (l : List E) (bs : List Bk) (N : Nat) : As := joinA (Rel a l bs N) (ringL p a l.length bs)
attribute [local irreducible] LdI LdB LdStr LdP LdS LdM LdV St Bx Al App Cpy MkS MkM EqK RunK RunU CallK SlK blkA rowA
section
variable {F : Nat → Prop} {W w : World} {L : List As} {i j p o n c : Nat} {t : TypeId} {cs : List Value} {a : Option Addr} {xs : List Int}
theorem bucket_put.spec {x : Int} {Q : World → Prop} (s : Sep F W w L) (hi : L[i]? = some (blkA p t cs)) (ho : cs[o]? = some (.slice a n c)) (hj : L[j]? = some (rowA a n c 3 1 (ints xs))) (hij : i ≠ j) (hn : n < 1000000)
    (h : ∀ w' a' c', Sep F W w' ((L.set j (rowA a' (n + 1) c' 3 1 (ints (xs ++ [x])))).set i (blkA p t (cs.set o (.slice a' (n + 1) c')))) → Q w') : ring_bucket_put.call (some ⟨p, o, none⟩) x w Q := by
  refine ring_bucket_put.body _ _ _ _ ?_
  unfold ring_bucket_put.sh
  have hiL := (List.getElem?_eq_some_iff.1 hi).1
  refine wA_some ?_
  refine Sep.LdS s rfl hi ho ?_
  refine Sep.Bx s fun bx w1 s => ?_
  have src : Src w1 (some ⟨bx, 0, none⟩) 1 1 [.int .i64 x] := ⟨rfl, fun u hu => by rw [List.mem_singleton.1 hu]; rfl, fun j u hj => by rw [add_flat, Nat.zero_add]; exact Sep.cell s (i := 0) rfl rfl hj⟩
  refine Sep.App tab_ok s (i := j + 1) (size := 1) (bytes := 8) rfl rfl rfl rfl rfl rfl (by decide) (by rw [List.getElem?_cons_succ]; exact hj) src (by simp only [maxLen]; omega) (by omega) (fun e => by cases e) fun a' c' w2 s => ?_
  rw [List.set_cons_succ] at s
  have s := Sep.drop s
  have e1 : ints xs ++ [.int .i64 x] = ints (xs ++ [x]) := by simp [ints]
  rw [e1] at s
  refine wA_some ?_
  have ho' := (List.getElem?_eq_some_iff.1 ho).1
  refine Sep.St s (i := i) rfl (by rw [List.getElem?_set_ne (Ne.symm hij)]; exact hi) (by rw [Nat.blt_eq]; exact ho') fun w3 s => ?_
  exact h w3 a' c' s
theorem bucket_empty.spec {g : Int} {Q : Bool → World → Prop} (s : Sep F W w L) (hi : L[i]? = some (blkA p t cs)) (ho : cs[o]? = some (.slice a n c)) (ho' : cs[o + 1]? = some (.int .i64 g)) (h : Q (g == (n : Int)) w.drew) : ring_bucket_empty.call (some ⟨p, o, none⟩) w Q := by
  refine ring_bucket_empty.body _ _ _ ?_
  unfold ring_bucket_empty.sh
  have s' : Sep F W w.drew L := s
  refine wA_some ?_
  refine Sep.LdI s' (by rw [add_flat]) hi ho' (wA_some ?_)
  exact Sep.LdS s' rfl hi ho h
theorem bucket_pop.spec {g : Nat} {x : Int} {Q : Int → World → Prop} (s : Sep F W w L) (hi : L[i]? = some (blkA p t cs)) (ho : cs[o]? = some (.slice a n c)) (ho' : cs[o + 1]? = some (.int .i64 g)) (hj : L[j]? = some (rowA a n c 3 1 (ints xs))) (hij : i ≠ j) (hn : n < 1000000) (hx : xs[g]? = some x)
    (h1 : g + 1 < n → ∀ w', Sep F W w' (L.set i (blkA p t (cs.set (o + 1) (.int .i64 ((g + 1 : Nat) : Int))))) → Q x w')
    (h2 : g + 1 = n → ∀ w', Sep F W w' ((L.set i (blkA p t ((cs.set o (.slice a 0 c)).set (o + 1) (.int .i64 ((0 : Nat) : Int))))).set j (rowA a 0 c 3 1 [])) → Q x w') : ring_bucket_pop.call (some ⟨p, o, none⟩) w Q := by
  refine ring_bucket_pop.body _ _ _ ?_
  unfold ring_bucket_pop.sh
  have hiL := (List.getElem?_eq_some_iff.1 hi).1
  have hjL := (List.getElem?_eq_some_iff.1 hj).1
  have hol := (List.getElem?_eq_some_iff.1 ho).1
  have hol' := (List.getElem?_eq_some_iff.1 ho').1
  have hxl := (List.getElem?_eq_some_iff.1 hx).1
  have hl : xs.length = n := by have := rowA_length s hj; simpa [ints] using this
  obtain ⟨b, ob, rfl⟩ := rowA_some s hj (by omega)
  have s0 : Sep F W w.drew L := s
  refine wA_some ?_
  refine Sep.LdS s0 rfl hi ho (wA_some ?_)
  refine Sep.LdI s0 (by rw [add_flat]) hi ho' ?_
  refine ⟨by omega, by omega, wA_some ?_⟩
  rw [show ((g : Int)).toNat * 1 = g by omega]
  refine Sep.LdI_row s0 hj (by rw [add_flat]) (by rw [ints, List.getElem?_map, hx]; rfl) (wA_some ?_)
  refine Sep.LdI s0 (by rw [add_flat]) hi ho' (wA_some ?_)
  rw [wrap_i64 (n := (g : Int) + 1) (by omega) (by omega), show ((g : Int) + 1) = ((g + 1 : Nat) : Int) by omega]
  refine Sep.St s0 (by rw [add_flat]) hi (by rw [Nat.blt_eq]; exact hol') fun w1 s1 => ?_
  refine bucket_empty.spec (a := some ⟨b, ob, none⟩) (n := n) (c := c) (g := ((g + 1 : Nat) : Int)) s1 (i := i) (List.getElem?_set_self hiL) (by rw [List.getElem?_set_ne (by omega)]; exact ho) (List.getElem?_set_self hol') ?_
  have s2 : Sep F W w1.drew _ := s1
  by_cases he : g + 1 = n
  · rw [he, beq_self_eq_true, cond_true]
    refine wA_some ?_
    refine Sep.LdS s2 (i := i) rfl (List.getElem?_set_self hiL) (by rw [List.getElem?_set_ne (by omega)]; exact ho) ?_
    refine SlK_hi (m := 0) rfl (by omega) (wA_some ?_)
    refine Sep.St s2 (i := i) rfl (List.getElem?_set_self hiL) (by rw [Nat.blt_eq, List.length_set]; exact hol) fun w3 s3 => ?_
    rw [set_set_same] at s3
    refine wA_some ?_
    refine Sep.St s3 (i := i) (by rw [add_flat]) (List.getElem?_set_self hiL) (by rw [Nat.blt_eq, List.length_set, List.length_set]; exact hol') fun w4 s4 => ?_
    rw [set_set_same] at s4
    have s5 := Sep.row_take s4 (i := j) (by rw [List.getElem?_set_ne hij]; exact hj) (m := 0) (Nat.zero_le _)
    refine h2 he w4 ?_
    have ec : ((cs.set (o + 1) (.int .i64 ((n : Nat) : Int))).set o (.slice (some ⟨b, ob, none⟩) 0 c)).set (o + 1) (.int .i64 0) = (cs.set o (.slice (some ⟨b, ob, none⟩) 0 c)).set (o + 1) (.int .i64 ((0 : Nat) : Int)) := by
      have e3 : (cs.set (o + 1) (.int .i64 ((n : Nat) : Int))).set o (.slice (some ⟨b, ob, none⟩) 0 c) = (cs.set o (.slice (some ⟨b, ob, none⟩) 0 c)).set (o + 1) (.int .i64 ((n : Nat) : Int)) := List.set_comm _ _ (by omega)
      rw [e3, set_set_same]; rfl
    rw [he, ec] at s5
    simpa using s5
  · rw [show ((((g + 1 : Nat) : Int)) == (n : Int)) = false by rw [beq_eq_false_iff_ne]; omega, cond_false]
    exact h1 (by omega) w1.drew s2
end
end Go.Proofs.Ytfmhpmpfkmhgpaa.S
