/- Layer 7: RingRound answers true. -/
import Derived.Test.YtfmhpmpfkmhgpaaRE
set_option linter.unusedVariables false
set_option linter.unusedSimpArgs false
namespace Go.Proofs.Ytfmhpmpfkmhgpaa.S
open Go.Sx
attribute [local irreducible] LdI LdB LdStr LdP LdS LdM LdV St Bx Al App Cpy MkS MkM EqK RunK RunU CallK SlK blkA rowA joinA ringA
def one (x : Int) : List Value := [.int .i64 x]
def gi (l : List Int) (i : Nat) : Int := l.getD i 0
theorem gi_get {l : List Int} {i : Nat} (h : i < l.length) : l[i]? = some (gi l i) := by
  rw [gi, List.getD_eq_getElem?_getD, List.getElem?_eq_getElem h]; rfl
section
variable {W : World} {L : List As} {Q : Bool → World → Prop} {la : Option Addr} {ln lc p : Nat} {xs : List Int} {f : Int}
theorem Round_loop (hA : ArgRow W la ln 1 one xs) (hQ : ∀ w', Sep No W w' L → Q true w') :
    ∀ (m i : Nat) (a : Int) (l : List E) (bs : List Bk) (N : Nat) (w : World), i + m = 200 → N ≤ i + 2 → l.length = 2 → f ≤ a → Sep No W w (ringA p a l bs N :: L) → herdsmanlaw7_RingRound.b7 Q (m + 1) la ln lc f (some ⟨p, 0, none⟩) a i w := by
  have fin : ∀ (a : Int) (l : List E) (bs : List Bk) (N : Nat) (w : World), l.length = 2 → f ≤ a → Sep No W w (ringA p a l bs N :: L) → herdsmanlaw7_RingRound.b14 Q f (some ⟨p, 0, none⟩) w := by
    intro a l bs N w hl hf s
    unfold herdsmanlaw7_RingRound.b14
    refine herdsmanlaw7_told.spec s fun w1 s => ?_
    rw [cond_true]
    refine ring_Len.spec s (i := 0) rfl ?_
    rw [hl, show (((2 : Nat) : Int) == 2) = true from rfl, cond_true]
    refine ring_At.spec s (i := 0) rfl ?_
    rw [decide_eq_true (show a ≥ f from hf)]
    exact hQ w1 (Sep.drop s)
  intro m
  induction m with
  | zero =>
    intro i a l bs N w hi hN hl hf s
    show herdsmanlaw7_RingRound.s7 Q (herdsmanlaw7_RingRound.b7 Q 0) _ _ _ _ _ _ _ _
    unfold herdsmanlaw7_RingRound.s7
    cases decide ((i : Int) < (ln : Int)) with
    | false => exact fin a l bs N w hl hf s
    | true =>
      rw [cond_true, decide_eq_false (by omega), cond_false]
      exact fin a l bs N w hl hf s
  | succ m ih =>
    intro i a l bs N w hi hN hl hf s
    show herdsmanlaw7_RingRound.s7 Q (herdsmanlaw7_RingRound.b7 Q (m + 1)) _ _ _ _ _ _ _ _
    unfold herdsmanlaw7_RingRound.s7
    by_cases h1 : i < ln
    · rw [decide_eq_true (by omega), cond_true, decide_eq_true (by omega), cond_true]
      have hxl := hA.1
      obtain ⟨ad, rfl, hc⟩ := hA.2 i _ (gi_get (by omega))
      have hr := ring_rel s (i := 0) rfl
      refine ring_Pop.spec s (i := 0) rfl (fun h => by rw [h] at hl; simp at hl) fun w1 k l1 x l2 bs1 hsplit g1 g2 s => ?_
      simp only [List.set_cons_zero] at s
      have hr1 := ring_rel s (i := 0) rfl
      have hfit := hr.fit (k, x) (by rw [hsplit]; simp)
      have hl12 : (l1 ++ l2).length = 1 := by
        have := congrArg List.length hsplit
        simp at this ⊢
        omega
      have hbig := hr1.big
      have hnn := hr1.nn
      simp only at hfit
      refine ⟨by omega, by omega, wA_some ?_⟩
      refine Sep.LdI_arg s (hc 0 _ rfl) ?_
      refine herdsmanref1_Within.spec (by decide) (by decide) (by decide) ?_
      have r1 := within_range (n := gi xs i) (lo := 0) (hi := 255) (by decide)
      generalize (0 + gi xs i % (255 - 0 + 1)) = st at r1
      rw [Bool.not_true, cond_false, decide_eq_false (by omega), cond_false, wrap_i64 (n := k + 256) (by omega) (by omega), wrap_i64 (n := k - 1) (by omega) (by omega), wrap_i64 (n := k + st) (by omega) (by omega)]
      refine ring_Put.spec s (i := 0) rfl (by omega) (by omega) (fun _ => ?_) (fun h => by omega)
      rw [cond_false]
      refine ring_Put.spec s (i := 0) rfl (by omega) (by omega) (fun _ => ?_) (fun h => by omega)
      rw [cond_false]
      refine ring_Put.spec s (i := 0) rfl (by omega) (by omega) (fun h => by omega) fun _ w2 bs2 s => ?_
      simp only [List.set_cons_zero] at s
      rw [Bool.not_true, cond_false]
      refine ring_Len.spec s (i := 0) rfl ?_
      have hl3 : ((l1 ++ l2) ++ [(k + st, (i : Int))]).length = 2 := by rw [List.length_append, hl12]; rfl
      rw [hl3, show (((2 : Nat) : Int) != 2) = false from rfl, cond_false, wrap_i64 (n := (i : Int) + 1) (by omega) (by omega)]
      exact ih (i + 1) k _ bs2 (N + 1) w2 (by omega) (by omega) hl3 (by omega) s
    · rw [decide_eq_false (by omega), cond_false]
      exact fin a l bs N w hl hf s
theorem herdsmanlaw7_RingRound.spec {f0 : Int} (hA : ArgRow W la ln 1 one xs) (hQ : ∀ w', Sep No W w' [] → Q true w') : herdsmanlaw7_RingRound.call f0 la ln lc W Q := by
  refine herdsmanlaw7_RingRound.body _ _ _ _ _ _ ?_
  unfold herdsmanlaw7_RingRound.sh
  refine herdsmanref1_Within.spec (by decide) (by decide) (by decide) ?_
  have r1 := within_range (n := f0) (lo := 0) (hi := 1073741824) (by decide)
  generalize (0 + f0 % (1073741824 - 0 + 1)) = f at r1
  refine ring_New.spec (W := W) (F := No) (L := []) Sep.nil (fun h => by omega) fun _ p w1 bs1 s => isNone_pt ?_
  refine ring_Put.spec s (i := 0) rfl (by omega) (by decide) (fun h => by omega) fun _ w2 bs2 s => ?_
  simp only [List.set_cons_zero, List.nil_append] at s
  rw [Bool.not_true, cond_false, wrap_i64 (n := f + 255) (by omega) (by omega)]
  refine ring_Put.spec s (i := 0) rfl (by omega) (by decide) (fun h => by omega) fun _ w3 bs3 s => ?_
  simp only [List.set_cons_zero, List.cons_append, List.nil_append] at s
  rw [Bool.not_true, cond_false]
  exact ⟨201, Round_loop hA hQ 200 0 f _ bs3 2 w3 (by omega) (by omega) rfl (Int.le_refl _) s⟩
end
theorem RingRound_law : LawOk P 4 [.int .i64, .sl 1 (.int .i64)] := by
  intro W args h
  obtain ⟨v0, r, rfl, h0, h⟩ := RdAll.cons h
  obtain ⟨v1, r, rfl, h1, h⟩ := RdAll.cons h
  obtain rfl := RdAll.nil h
  obtain ⟨p, rfl, _⟩ := rdV_int h0
  obtain ⟨a, n, c, xs, rfl, _, _, _, k4, _⟩ := rdV_ints h1
  exact herdsmanlaw7_RingRound.spec (Q := fun r W' => r = true ∧ Go.RowKit.Below W.heap.size W W') k4 fun w' s => ⟨rfl, sep_below s⟩
end Go.Proofs.Ytfmhpmpfkmhgpaa.S
