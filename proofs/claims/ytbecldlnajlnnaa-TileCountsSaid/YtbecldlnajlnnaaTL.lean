/- Layer 2: TileCounts answers true. -/
import Derived.Test.YtbecldlnajlnnaaTH
import Derived.Test.YtbecldlnajlnnaaTJ
set_option linter.unusedVariables false
set_option linter.unusedSimpArgs false
namespace Go.Proofs.Ytbecldlnajlnnaa.S
open Go.Sx
attribute [local irreducible] LdI LdB LdStr LdP LdS LdM LdV St Bx Al App Cpy MkS MkM EqK RunK RunU CallK SlK blkA rowA joinA
theorem openI_len (cs : List Int) : ∀ (m k : Nat), k + m = cs.length → (openI cs k).length = (cs.drop k).countP (fun x => x != 255) := by
  intro m
  induction m with
  | zero =>
    intro k hk
    rw [List.drop_eq_nil_of_le (by omega)]
    unfold openI
    rw [show cs.length - k = 0 by omega]
    rfl
  | succ m ih =>
    intro k hk
    rw [openI_step (by omega), List.drop_eq_getElem_cons (by omega), List.countP_cons]
    have e : gi cs k = cs[k]'(by omega) := by
      have := gi_get (l := cs) (i := k) (by omega)
      rw [List.getElem?_eq_getElem (by omega)] at this
      exact (Option.some.inj this).symm
    rw [← e]
    by_cases h : gi cs k = 255
    · rw [if_pos h, ih (k + 1) (by omega), h, if_neg (by decide)]
      rfl
    · rw [if_neg h, List.length_cons, ih (k + 1) (by omega), if_pos (by rw [bne_iff_ne]; exact h)]
theorem openI_len0 (cs : List Int) : (openI cs 0).length = cs.countP (fun x => x != 255) := by
  rw [openI_len cs cs.length 0 (by omega), List.drop_zero]
theorem openI_mem {cs : List Int} {x : Int} (h : x ∈ openI cs 0) : ∃ i : Nat, x = i ∧ i < cs.length ∧ gi cs i ≠ 255 := by
  unfold openI at h
  obtain ⟨i, h1, h2⟩ := List.mem_map.1 h
  obtain ⟨h3, h4⟩ := List.mem_filter.1 h1
  obtain ⟨j, hj, rfl⟩ := List.mem_range'.1 h3
  exact ⟨_, h2.symm, by omega, by simpa using h4⟩
theorem openI_sorted (cs : List Int) : (openI cs 0).Pairwise (· < ·) := by
  unfold openI
  rw [List.pairwise_map]
  exact (List.Pairwise.filter _ List.pairwise_lt_range').imp fun h => by omega
theorem gi_lt {xs : List Int} (h : xs.Pairwise (· < ·)) {i : Nat} (hi : i + 1 < xs.length) : gi xs i < gi xs (i + 1) := by
  have h1 := gi_get (l := xs) (i := i) (by omega)
  have h2 := gi_get (l := xs) (i := i + 1) hi
  obtain ⟨_, e1⟩ := List.getElem?_eq_some_iff.1 h1
  obtain ⟨_, e2⟩ := List.getElem?_eq_some_iff.1 h2
  rw [← e1, ← e2]
  exact List.pairwise_iff_getElem.1 h i (i + 1) (by omega) hi (by omega)
theorem walls_open (cs : List Int) : cs.countP (fun x => x != 255) + cs.countP (fun x => x == 255) = cs.length := by
  rw [List.length_eq_countP_add_countP (fun x : Int => x == 255), Nat.add_comm]
  congr 1
  apply List.countP_congr
  intro x _
  simp
theorem cnt_sets {ys : List Int} {l : Nat} (h : l < ys.length) : ∃ e : Nat, e ≤ 1 ∧ e ≤ ys.countP (fun x => x != 255) ∧ (ys.set l 255).countP (fun x => x != 255) = ys.countP (fun x => x != 255) - e ∧ (ys.set l 1).countP (fun x => x != 255) = ys.countP (fun x => x != 255) - e + 1 := by
  refine ⟨if (ys[l] != 255) = true then 1 else 0, ?_, ?_, ?_, ?_⟩
  · split <;> omega
  · split
    · rename_i h1
      exact List.countP_pos_iff.2 ⟨_, List.getElem_mem h, h1⟩
    · omega
  · rw [List.countP_set h, if_neg (show ¬ ((255 : Int) != 255) = true by decide), Nat.add_zero]
  · rw [List.countP_set h, if_pos (show ((1 : Int) != 255) = true by decide)]
section
variable {W w : World} {L : List As} {Q : Bool → World → Prop} {tw th : Int} {ra ba : Option Addr} {rn rc bn bc an ac dn dc pt : Nat} {aa da : Option Addr} {ys bs : List Int}
theorem Counts_b14 {l walls : Int} (hb : bs.length = bn) (hbn : bn ≤ 600) (hsort : bs.Pairwise (· < ·)) (hne : l ∉ bs) (h1 : IntKind.wrap .i64 ((an : Int) + walls) = rn) (h2 : dn = bn + 1) (h3 : an = dn ∨ an = bn) (hQ : ∀ w', Sep No W w' [] → Q true w') :
    ∀ (m i : Nat) (w : World), i + m = bn → Sep No W w [rowA ba bn bc 3 1 (flat one bs), blkA pt 24 (tl tw th ra rn rc)] →
      herdsmanlaw2_TileCounts.b14 Q (m + 1) ⟨pt, 0, none⟩ l walls aa an ac true true ba bn bc da dn dc i w := by
  intro m
  induction m with
  | zero =>
    intro i w hi s
    show herdsmanlaw2_TileCounts.s14 Q (herdsmanlaw2_TileCounts.b14 Q 0) _ _ _ _ _ _ _ _ _ _ _ _ _ _ _ _
    unfold herdsmanlaw2_TileCounts.s14
    unfold tl at s
    rw [decide_eq_false (by omega), cond_false]
    refine herdsmanlaw2_told.spec s fun w s _ => ?_
    rw [cond_true, cond_true, cond_true]
    repeat' first
      | refine Sep.LdI s (i := 0) rfl rfl rfl ?_
      | refine Sep.LdS s (i := 0) rfl rfl rfl ?_
      | refine Sep.LdB s (i := 0) rfl rfl rfl ?_
      | refine Sep.LdP s (i := 0) rfl rfl rfl ?_
      | refine And.intro (Sep.cell s (i := 0) rfl rfl rfl) ?_
      | refine Sep.LdI s (i := 1) rfl rfl rfl ?_
      | refine Sep.LdS s (i := 1) rfl rfl rfl ?_
      | refine Sep.LdB s (i := 1) rfl rfl rfl ?_
      | refine Sep.LdP s (i := 1) rfl rfl rfl ?_
      | refine And.intro (Sep.cell s (i := 1) rfl rfl rfl) ?_
      | (replace s := Sep.drew s; first
        | refine Sep.LdI s (i := 0) rfl rfl rfl ?_
        | refine Sep.LdS s (i := 0) rfl rfl rfl ?_
        | refine Sep.LdB s (i := 0) rfl rfl rfl ?_
        | refine Sep.LdP s (i := 0) rfl rfl rfl ?_
        | refine And.intro (Sep.cell s (i := 0) rfl rfl rfl) ?_
        | refine Sep.LdI s (i := 1) rfl rfl rfl ?_
        | refine Sep.LdS s (i := 1) rfl rfl rfl ?_
        | refine Sep.LdB s (i := 1) rfl rfl rfl ?_
        | refine Sep.LdP s (i := 1) rfl rfl rfl ?_
        | refine And.intro (Sep.cell s (i := 1) rfl rfl rfl) ?_)
    have := hQ _ (Sep.pick [] s rfl (by decide))
    rw [h1, beq_self_eq_true, cond_true, wrap_i64 (by omega) (by omega), show ((dn : Int) == (bn : Int) + 1) = true by rw [beq_iff_eq]; omega, cond_true]
    by_cases e : an = dn
    · rw [show ((an : Int) == (dn : Int)) = true by rw [beq_iff_eq]; omega, cond_true]
      exact this
    · rw [show ((an : Int) == (dn : Int)) = false by rw [beq_eq_false_iff_ne]; omega, cond_false, show ((an : Int) == (bn : Int)) = true by rw [beq_iff_eq]; omega]
      exact this
  | succ m ih =>
    intro i w hi s
    show herdsmanlaw2_TileCounts.s14 Q (herdsmanlaw2_TileCounts.b14 Q (m + 1)) _ _ _ _ _ _ _ _ _ _ _ _ _ _ _ _
    unfold herdsmanlaw2_TileCounts.s14
    have s := Sep.drew s
    rw [decide_eq_true (by omega), cond_true]
    refine Sep.El s (i := 0) (k := i) rfl rfl (by omega) fun g o e => ?_
    subst e
    refine Sep.LdI_el (i := 0) (j := 0) one_len s rfl (gi_get (l := bs) (i := i) (by omega)) (by rw [add_flat]; congr 1) rfl ?_
    rw [show (gi bs i == l) = false by rw [beq_eq_false_iff_ne]; intro e; exact hne (e ▸ gi_mem (by omega)), cond_false, wrap_i64 (n := (i : Int) + 1) (by omega) (by omega)]
    by_cases h0 : (i : Int) > 0
    · rw [decide_eq_true h0, cond_true]
      refine ⟨by omega, by omega, wA_some ?_⟩
      refine Sep.LdI_el (i := 0) (j := 0) one_len s rfl (gi_get (l := bs) (i := i) (by omega)) (by rw [add_flat]; congr 1) rfl ?_
      rw [wrap_i64 (n := (i : Int) - 1) (by omega) (by omega)]
      obtain ⟨j, rfl⟩ : ∃ j, i = j + 1 := ⟨i - 1, by omega⟩
      have e : ((j + 1 : Nat) : Int) - 1 = (j : Int) := by omega
      rw [e]
      refine ⟨by omega, by omega, wA_some ?_⟩
      refine Sep.LdI_el (i := 0) (j := 0) one_len s rfl (gi_get (l := bs) (i := j) (by omega)) (by rw [add_flat]; congr 1) rfl ?_
      rw [decide_eq_false (by have := gi_lt hsort (i := j) (by omega); omega), cond_false]
      exact ih (j + 1 + 1) _ (by omega) s
    · rw [decide_eq_false h0, cond_false]
      exact ih (i + 1) _ (by omega) s
theorem Counts_b5 {l : Nat} (hl : l < rn) (hrn : rn ≤ 600) (hlen : ys.length = rn) (hys : ∀ x ∈ ys, 0 ≤ x ∧ x < 256) (hm : mayB tw th ys = true) (hQ : ∀ w', Sep No W w' [] → Q true w') :
    ∀ (m i : Nat) (walls : Nat) (w : World), i + m = rn → walls = (ys.take i).countP (fun x => x == 255) → Sep No W w [blkA pt 24 (tl tw th ra rn rc), rowA ra rn rc 5 1 (flat by8 ys)] →
      herdsmanlaw2_TileCounts.b5 Q (m + 1) ⟨pt, 0, none⟩ l walls i w := by
  intro m
  induction m with
  | zero =>
    intro i walls w hi hw s
    obtain rfl : i = rn := by omega
    rw [← hlen, List.take_length] at hw
    show herdsmanlaw2_TileCounts.s5 Q (herdsmanlaw2_TileCounts.b5 Q 0) _ _ _ _ _
    unfold herdsmanlaw2_TileCounts.s5
    unfold tl at s
    have hac := fun h => rowA_none s (i := 1) rfl h
    have cost : ∀ {zs : List Int}, mayB tw th zs = true → zs.length = i → ∀ c : Int, 1 ≤ c ∧ c ≤ 255 → withB tw th zs l c = true := fun h1 h2 c hc => by
      unfold withB
      rw [isB_iff.2 ⟨by omega, h1⟩, decide_eq_true hc]
      rfl
    repeat' first
      | refine Sep.LdI s (i := 0) rfl rfl rfl ?_
      | refine Sep.LdS s (i := 0) rfl rfl rfl ?_
      | refine Sep.LdB s (i := 0) rfl rfl rfl ?_
      | refine Sep.LdP s (i := 0) rfl rfl rfl ?_
      | refine And.intro (Sep.cell s (i := 0) rfl rfl rfl) ?_
      | refine Sep.LdI s (i := 1) rfl rfl rfl ?_
      | refine Sep.LdS s (i := 1) rfl rfl rfl ?_
      | refine Sep.LdB s (i := 1) rfl rfl rfl ?_
      | refine Sep.LdP s (i := 1) rfl rfl rfl ?_
      | refine And.intro (Sep.cell s (i := 1) rfl rfl rfl) ?_
      | (replace s := Sep.drew s; first
        | refine Sep.LdI s (i := 0) rfl rfl rfl ?_
        | refine Sep.LdS s (i := 0) rfl rfl rfl ?_
        | refine Sep.LdB s (i := 0) rfl rfl rfl ?_
        | refine Sep.LdP s (i := 0) rfl rfl rfl ?_
        | refine And.intro (Sep.cell s (i := 0) rfl rfl rfl) ?_
        | refine Sep.LdI s (i := 1) rfl rfl rfl ?_
        | refine Sep.LdS s (i := 1) rfl rfl rfl ?_
        | refine Sep.LdB s (i := 1) rfl rfl rfl ?_
        | refine Sep.LdP s (i := 1) rfl rfl rfl ?_
        | refine And.intro (Sep.cell s (i := 1) rfl rfl rfl) ?_)
    rw [decide_eq_false (by omega), cond_false]
    repeat' first
      | refine Sep.LdI s (i := 0) rfl rfl rfl ?_
      | refine Sep.LdS s (i := 0) rfl rfl rfl ?_
      | refine Sep.LdB s (i := 0) rfl rfl rfl ?_
      | refine Sep.LdP s (i := 0) rfl rfl rfl ?_
      | refine And.intro (Sep.cell s (i := 0) rfl rfl rfl) ?_
      | refine Sep.LdI s (i := 1) rfl rfl rfl ?_
      | refine Sep.LdS s (i := 1) rfl rfl rfl ?_
      | refine Sep.LdB s (i := 1) rfl rfl rfl ?_
      | refine Sep.LdP s (i := 1) rfl rfl rfl ?_
      | refine And.intro (Sep.cell s (i := 1) rfl rfl rfl) ?_
      | (replace s := Sep.drew s; first
        | refine Sep.LdI s (i := 0) rfl rfl rfl ?_
        | refine Sep.LdS s (i := 0) rfl rfl rfl ?_
        | refine Sep.LdB s (i := 0) rfl rfl rfl ?_
        | refine Sep.LdP s (i := 0) rfl rfl rfl ?_
        | refine And.intro (Sep.cell s (i := 0) rfl rfl rfl) ?_
        | refine Sep.LdI s (i := 1) rfl rfl rfl ?_
        | refine Sep.LdS s (i := 1) rfl rfl rfl ?_
        | refine Sep.LdB s (i := 1) rfl rfl rfl ?_
        | refine Sep.LdP s (i := 1) rfl rfl rfl ?_
        | refine And.intro (Sep.cell s (i := 1) rfl rfl rfl) ?_)
    refine tile_Open.spec s (Sep.argrow s (i := 1) rfl by8_len (by decide)) fun aa an ac w s _ hon => ?_
    repeat' first
      | refine Sep.LdI s (i := 0) rfl rfl rfl ?_
      | refine Sep.LdS s (i := 0) rfl rfl rfl ?_
      | refine Sep.LdB s (i := 0) rfl rfl rfl ?_
      | refine Sep.LdP s (i := 0) rfl rfl rfl ?_
      | refine And.intro (Sep.cell s (i := 0) rfl rfl rfl) ?_
      | refine Sep.LdI s (i := 1) rfl rfl rfl ?_
      | refine Sep.LdS s (i := 1) rfl rfl rfl ?_
      | refine Sep.LdB s (i := 1) rfl rfl rfl ?_
      | refine Sep.LdP s (i := 1) rfl rfl rfl ?_
      | refine And.intro (Sep.cell s (i := 1) rfl rfl rfl) ?_
      | refine Sep.LdI s (i := 2) rfl rfl rfl ?_
      | refine Sep.LdS s (i := 2) rfl rfl rfl ?_
      | refine Sep.LdB s (i := 2) rfl rfl rfl ?_
      | refine Sep.LdP s (i := 2) rfl rfl rfl ?_
      | refine And.intro (Sep.cell s (i := 2) rfl rfl rfl) ?_
      | (replace s := Sep.drew s; first
        | refine Sep.LdI s (i := 0) rfl rfl rfl ?_
        | refine Sep.LdS s (i := 0) rfl rfl rfl ?_
        | refine Sep.LdB s (i := 0) rfl rfl rfl ?_
        | refine Sep.LdP s (i := 0) rfl rfl rfl ?_
        | refine And.intro (Sep.cell s (i := 0) rfl rfl rfl) ?_
        | refine Sep.LdI s (i := 1) rfl rfl rfl ?_
        | refine Sep.LdS s (i := 1) rfl rfl rfl ?_
        | refine Sep.LdB s (i := 1) rfl rfl rfl ?_
        | refine Sep.LdP s (i := 1) rfl rfl rfl ?_
        | refine And.intro (Sep.cell s (i := 1) rfl rfl rfl) ?_
        | refine Sep.LdI s (i := 2) rfl rfl rfl ?_
        | refine Sep.LdS s (i := 2) rfl rfl rfl ?_
        | refine Sep.LdB s (i := 2) rfl rfl rfl ?_
        | refine Sep.LdP s (i := 2) rfl rfl rfl ?_
        | refine And.intro (Sep.cell s (i := 2) rfl rfl rfl) ?_)
    refine tile_With.spec s (Sep.argrow s (i := 2) rfl by8_len (by decide)) (by omega) hac (fun e xa xc w s _ => ?_) (fun e w s _ => by rw [cost hm hlen 255 (by decide)] at e; cases e)
    rw [Int.toNat_natCast] at s
    have hm1 := mayB_set (i := l) hm (show (1 : Int) ≤ 255 by decide)
    have hl1 : (ys.set l 255).length = i := by rw [List.length_set]; exact hlen
    have hxc := fun h => rowA_none s (i := 0) rfl h
    repeat' first
      | refine Sep.LdI s (i := 0) rfl rfl rfl ?_
      | refine Sep.LdS s (i := 0) rfl rfl rfl ?_
      | refine Sep.LdB s (i := 0) rfl rfl rfl ?_
      | refine Sep.LdP s (i := 0) rfl rfl rfl ?_
      | refine And.intro (Sep.cell s (i := 0) rfl rfl rfl) ?_
      | refine Sep.LdI s (i := 1) rfl rfl rfl ?_
      | refine Sep.LdS s (i := 1) rfl rfl rfl ?_
      | refine Sep.LdB s (i := 1) rfl rfl rfl ?_
      | refine Sep.LdP s (i := 1) rfl rfl rfl ?_
      | refine And.intro (Sep.cell s (i := 1) rfl rfl rfl) ?_
      | refine Sep.LdI s (i := 2) rfl rfl rfl ?_
      | refine Sep.LdS s (i := 2) rfl rfl rfl ?_
      | refine Sep.LdB s (i := 2) rfl rfl rfl ?_
      | refine Sep.LdP s (i := 2) rfl rfl rfl ?_
      | refine And.intro (Sep.cell s (i := 2) rfl rfl rfl) ?_
      | refine Sep.LdI s (i := 3) rfl rfl rfl ?_
      | refine Sep.LdS s (i := 3) rfl rfl rfl ?_
      | refine Sep.LdB s (i := 3) rfl rfl rfl ?_
      | refine Sep.LdP s (i := 3) rfl rfl rfl ?_
      | refine And.intro (Sep.cell s (i := 3) rfl rfl rfl) ?_
      | refine Sep.LdI s (i := 4) rfl rfl rfl ?_
      | refine Sep.LdS s (i := 4) rfl rfl rfl ?_
      | refine Sep.LdB s (i := 4) rfl rfl rfl ?_
      | refine Sep.LdP s (i := 4) rfl rfl rfl ?_
      | refine And.intro (Sep.cell s (i := 4) rfl rfl rfl) ?_
      | (refine Sep.St s (i := 0) rfl rfl rfl fun w s => ?_; simp only [List.set_cons_zero, List.set_cons_succ] at s)
      | (refine Sep.St s (i := 1) rfl rfl rfl fun w s => ?_; simp only [List.set_cons_zero, List.set_cons_succ] at s)
      | (refine Sep.St s (i := 2) rfl rfl rfl fun w s => ?_; simp only [List.set_cons_zero, List.set_cons_succ] at s)
      | (refine Sep.St s (i := 3) rfl rfl rfl fun w s => ?_; simp only [List.set_cons_zero, List.set_cons_succ] at s)
      | (refine Sep.St s (i := 4) rfl rfl rfl fun w s => ?_; simp only [List.set_cons_zero, List.set_cons_succ] at s)
      | refine Sep.Bx s fun b w s => ?_
      | (refine Sep.Al s fun b w s => ?_; simp only [zc24, zc37, zc38] at s)
      | (replace s := Sep.drew s; first
        | refine Sep.LdI s (i := 0) rfl rfl rfl ?_
        | refine Sep.LdS s (i := 0) rfl rfl rfl ?_
        | refine Sep.LdB s (i := 0) rfl rfl rfl ?_
        | refine Sep.LdP s (i := 0) rfl rfl rfl ?_
        | refine And.intro (Sep.cell s (i := 0) rfl rfl rfl) ?_
        | refine Sep.LdI s (i := 1) rfl rfl rfl ?_
        | refine Sep.LdS s (i := 1) rfl rfl rfl ?_
        | refine Sep.LdB s (i := 1) rfl rfl rfl ?_
        | refine Sep.LdP s (i := 1) rfl rfl rfl ?_
        | refine And.intro (Sep.cell s (i := 1) rfl rfl rfl) ?_
        | refine Sep.LdI s (i := 2) rfl rfl rfl ?_
        | refine Sep.LdS s (i := 2) rfl rfl rfl ?_
        | refine Sep.LdB s (i := 2) rfl rfl rfl ?_
        | refine Sep.LdP s (i := 2) rfl rfl rfl ?_
        | refine And.intro (Sep.cell s (i := 2) rfl rfl rfl) ?_
        | refine Sep.LdI s (i := 3) rfl rfl rfl ?_
        | refine Sep.LdS s (i := 3) rfl rfl rfl ?_
        | refine Sep.LdB s (i := 3) rfl rfl rfl ?_
        | refine Sep.LdP s (i := 3) rfl rfl rfl ?_
        | refine And.intro (Sep.cell s (i := 3) rfl rfl rfl) ?_
        | refine Sep.LdI s (i := 4) rfl rfl rfl ?_
        | refine Sep.LdS s (i := 4) rfl rfl rfl ?_
        | refine Sep.LdB s (i := 4) rfl rfl rfl ?_
        | refine Sep.LdP s (i := 4) rfl rfl rfl ?_
        | refine And.intro (Sep.cell s (i := 4) rfl rfl rfl) ?_
        | (refine Sep.St s (i := 0) rfl rfl rfl fun w s => ?_; simp only [List.set_cons_zero, List.set_cons_succ] at s)
        | (refine Sep.St s (i := 1) rfl rfl rfl fun w s => ?_; simp only [List.set_cons_zero, List.set_cons_succ] at s)
        | (refine Sep.St s (i := 2) rfl rfl rfl fun w s => ?_; simp only [List.set_cons_zero, List.set_cons_succ] at s)
        | (refine Sep.St s (i := 3) rfl rfl rfl fun w s => ?_; simp only [List.set_cons_zero, List.set_cons_succ] at s)
        | (refine Sep.St s (i := 4) rfl rfl rfl fun w s => ?_; simp only [List.set_cons_zero, List.set_cons_succ] at s)
        | refine Sep.Bx s fun b w s => ?_
        | (refine Sep.Al s fun b w s => ?_; simp only [zc24, zc37, zc38] at s))
    refine tile_With.spec s (Sep.argrow s (i := 1) rfl by8_len (by decide)) (by omega) hxc (fun e ya yc w s _ => ?_) (fun e w s _ => by rw [cost hm1 hl1 1 (by decide)] at e; cases e)
    rw [Int.toNat_natCast, List.set_set] at s
    have hm2 := mayB_set (i := l) hm (show (1 : Int) ≤ 1 by decide)
    repeat' first
      | refine Sep.LdI s (i := 0) rfl rfl rfl ?_
      | refine Sep.LdS s (i := 0) rfl rfl rfl ?_
      | refine Sep.LdB s (i := 0) rfl rfl rfl ?_
      | refine Sep.LdP s (i := 0) rfl rfl rfl ?_
      | refine And.intro (Sep.cell s (i := 0) rfl rfl rfl) ?_
      | refine Sep.LdI s (i := 1) rfl rfl rfl ?_
      | refine Sep.LdS s (i := 1) rfl rfl rfl ?_
      | refine Sep.LdB s (i := 1) rfl rfl rfl ?_
      | refine Sep.LdP s (i := 1) rfl rfl rfl ?_
      | refine And.intro (Sep.cell s (i := 1) rfl rfl rfl) ?_
      | refine Sep.LdI s (i := 2) rfl rfl rfl ?_
      | refine Sep.LdS s (i := 2) rfl rfl rfl ?_
      | refine Sep.LdB s (i := 2) rfl rfl rfl ?_
      | refine Sep.LdP s (i := 2) rfl rfl rfl ?_
      | refine And.intro (Sep.cell s (i := 2) rfl rfl rfl) ?_
      | refine Sep.LdI s (i := 3) rfl rfl rfl ?_
      | refine Sep.LdS s (i := 3) rfl rfl rfl ?_
      | refine Sep.LdB s (i := 3) rfl rfl rfl ?_
      | refine Sep.LdP s (i := 3) rfl rfl rfl ?_
      | refine And.intro (Sep.cell s (i := 3) rfl rfl rfl) ?_
      | refine Sep.LdI s (i := 4) rfl rfl rfl ?_
      | refine Sep.LdS s (i := 4) rfl rfl rfl ?_
      | refine Sep.LdB s (i := 4) rfl rfl rfl ?_
      | refine Sep.LdP s (i := 4) rfl rfl rfl ?_
      | refine And.intro (Sep.cell s (i := 4) rfl rfl rfl) ?_
      | refine Sep.LdI s (i := 5) rfl rfl rfl ?_
      | refine Sep.LdS s (i := 5) rfl rfl rfl ?_
      | refine Sep.LdB s (i := 5) rfl rfl rfl ?_
      | refine Sep.LdP s (i := 5) rfl rfl rfl ?_
      | refine And.intro (Sep.cell s (i := 5) rfl rfl rfl) ?_
      | refine Sep.LdI s (i := 6) rfl rfl rfl ?_
      | refine Sep.LdS s (i := 6) rfl rfl rfl ?_
      | refine Sep.LdB s (i := 6) rfl rfl rfl ?_
      | refine Sep.LdP s (i := 6) rfl rfl rfl ?_
      | refine And.intro (Sep.cell s (i := 6) rfl rfl rfl) ?_
      | (refine Sep.St s (i := 0) rfl rfl rfl fun w s => ?_; simp only [List.set_cons_zero, List.set_cons_succ] at s)
      | (refine Sep.St s (i := 1) rfl rfl rfl fun w s => ?_; simp only [List.set_cons_zero, List.set_cons_succ] at s)
      | (refine Sep.St s (i := 2) rfl rfl rfl fun w s => ?_; simp only [List.set_cons_zero, List.set_cons_succ] at s)
      | (refine Sep.St s (i := 3) rfl rfl rfl fun w s => ?_; simp only [List.set_cons_zero, List.set_cons_succ] at s)
      | (refine Sep.St s (i := 4) rfl rfl rfl fun w s => ?_; simp only [List.set_cons_zero, List.set_cons_succ] at s)
      | (refine Sep.St s (i := 5) rfl rfl rfl fun w s => ?_; simp only [List.set_cons_zero, List.set_cons_succ] at s)
      | (refine Sep.St s (i := 6) rfl rfl rfl fun w s => ?_; simp only [List.set_cons_zero, List.set_cons_succ] at s)
      | refine Sep.Bx s fun b w s => ?_
      | (refine Sep.Al s fun b w s => ?_; simp only [zc24, zc37, zc38] at s)
      | (replace s := Sep.drew s; first
        | refine Sep.LdI s (i := 0) rfl rfl rfl ?_
        | refine Sep.LdS s (i := 0) rfl rfl rfl ?_
        | refine Sep.LdB s (i := 0) rfl rfl rfl ?_
        | refine Sep.LdP s (i := 0) rfl rfl rfl ?_
        | refine And.intro (Sep.cell s (i := 0) rfl rfl rfl) ?_
        | refine Sep.LdI s (i := 1) rfl rfl rfl ?_
        | refine Sep.LdS s (i := 1) rfl rfl rfl ?_
        | refine Sep.LdB s (i := 1) rfl rfl rfl ?_
        | refine Sep.LdP s (i := 1) rfl rfl rfl ?_
        | refine And.intro (Sep.cell s (i := 1) rfl rfl rfl) ?_
        | refine Sep.LdI s (i := 2) rfl rfl rfl ?_
        | refine Sep.LdS s (i := 2) rfl rfl rfl ?_
        | refine Sep.LdB s (i := 2) rfl rfl rfl ?_
        | refine Sep.LdP s (i := 2) rfl rfl rfl ?_
        | refine And.intro (Sep.cell s (i := 2) rfl rfl rfl) ?_
        | refine Sep.LdI s (i := 3) rfl rfl rfl ?_
        | refine Sep.LdS s (i := 3) rfl rfl rfl ?_
        | refine Sep.LdB s (i := 3) rfl rfl rfl ?_
        | refine Sep.LdP s (i := 3) rfl rfl rfl ?_
        | refine And.intro (Sep.cell s (i := 3) rfl rfl rfl) ?_
        | refine Sep.LdI s (i := 4) rfl rfl rfl ?_
        | refine Sep.LdS s (i := 4) rfl rfl rfl ?_
        | refine Sep.LdB s (i := 4) rfl rfl rfl ?_
        | refine Sep.LdP s (i := 4) rfl rfl rfl ?_
        | refine And.intro (Sep.cell s (i := 4) rfl rfl rfl) ?_
        | refine Sep.LdI s (i := 5) rfl rfl rfl ?_
        | refine Sep.LdS s (i := 5) rfl rfl rfl ?_
        | refine Sep.LdB s (i := 5) rfl rfl rfl ?_
        | refine Sep.LdP s (i := 5) rfl rfl rfl ?_
        | refine And.intro (Sep.cell s (i := 5) rfl rfl rfl) ?_
        | refine Sep.LdI s (i := 6) rfl rfl rfl ?_
        | refine Sep.LdS s (i := 6) rfl rfl rfl ?_
        | refine Sep.LdB s (i := 6) rfl rfl rfl ?_
        | refine Sep.LdP s (i := 6) rfl rfl rfl ?_
        | refine And.intro (Sep.cell s (i := 6) rfl rfl rfl) ?_
        | (refine Sep.St s (i := 0) rfl rfl rfl fun w s => ?_; simp only [List.set_cons_zero, List.set_cons_succ] at s)
        | (refine Sep.St s (i := 1) rfl rfl rfl fun w s => ?_; simp only [List.set_cons_zero, List.set_cons_succ] at s)
        | (refine Sep.St s (i := 2) rfl rfl rfl fun w s => ?_; simp only [List.set_cons_zero, List.set_cons_succ] at s)
        | (refine Sep.St s (i := 3) rfl rfl rfl fun w s => ?_; simp only [List.set_cons_zero, List.set_cons_succ] at s)
        | (refine Sep.St s (i := 4) rfl rfl rfl fun w s => ?_; simp only [List.set_cons_zero, List.set_cons_succ] at s)
        | (refine Sep.St s (i := 5) rfl rfl rfl fun w s => ?_; simp only [List.set_cons_zero, List.set_cons_succ] at s)
        | (refine Sep.St s (i := 6) rfl rfl rfl fun w s => ?_; simp only [List.set_cons_zero, List.set_cons_succ] at s)
        | refine Sep.Bx s fun b w s => ?_
        | (refine Sep.Al s fun b w s => ?_; simp only [zc24, zc37, zc38] at s))
    refine tile_Open.spec (Sep.drew s) (Sep.argrow (Sep.drew s) (i := 3) rfl by8_len (by decide)) fun ba bn bc w s _ hbn => ?_
    repeat' first
      | refine Sep.LdI s (i := 0) rfl rfl rfl ?_
      | refine Sep.LdS s (i := 0) rfl rfl rfl ?_
      | refine Sep.LdB s (i := 0) rfl rfl rfl ?_
      | refine Sep.LdP s (i := 0) rfl rfl rfl ?_
      | refine And.intro (Sep.cell s (i := 0) rfl rfl rfl) ?_
      | refine Sep.LdI s (i := 1) rfl rfl rfl ?_
      | refine Sep.LdS s (i := 1) rfl rfl rfl ?_
      | refine Sep.LdB s (i := 1) rfl rfl rfl ?_
      | refine Sep.LdP s (i := 1) rfl rfl rfl ?_
      | refine And.intro (Sep.cell s (i := 1) rfl rfl rfl) ?_
      | refine Sep.LdI s (i := 2) rfl rfl rfl ?_
      | refine Sep.LdS s (i := 2) rfl rfl rfl ?_
      | refine Sep.LdB s (i := 2) rfl rfl rfl ?_
      | refine Sep.LdP s (i := 2) rfl rfl rfl ?_
      | refine And.intro (Sep.cell s (i := 2) rfl rfl rfl) ?_
      | (replace s := Sep.drew s; first
        | refine Sep.LdI s (i := 0) rfl rfl rfl ?_
        | refine Sep.LdS s (i := 0) rfl rfl rfl ?_
        | refine Sep.LdB s (i := 0) rfl rfl rfl ?_
        | refine Sep.LdP s (i := 0) rfl rfl rfl ?_
        | refine And.intro (Sep.cell s (i := 0) rfl rfl rfl) ?_
        | refine Sep.LdI s (i := 1) rfl rfl rfl ?_
        | refine Sep.LdS s (i := 1) rfl rfl rfl ?_
        | refine Sep.LdB s (i := 1) rfl rfl rfl ?_
        | refine Sep.LdP s (i := 1) rfl rfl rfl ?_
        | refine And.intro (Sep.cell s (i := 1) rfl rfl rfl) ?_
        | refine Sep.LdI s (i := 2) rfl rfl rfl ?_
        | refine Sep.LdS s (i := 2) rfl rfl rfl ?_
        | refine Sep.LdB s (i := 2) rfl rfl rfl ?_
        | refine Sep.LdP s (i := 2) rfl rfl rfl ?_
        | refine And.intro (Sep.cell s (i := 2) rfl rfl rfl) ?_)
    refine tile_Open.spec s (Sep.argrow s (i := 2) rfl by8_len (by decide)) fun da dn dc w s _ hdn => ?_
    have o1 : openL tw th ys = openI ys 0 := by unfold openL; rw [hm, cond_true]
    have o2 : openL tw th (ys.set l 255) = openI (ys.set l 255) 0 := by unfold openL; rw [hm1, cond_true]
    have o3 : openL tw th (ys.set l 1) = openI (ys.set l 1) 0 := by unfold openL; rw [hm2, cond_true]
    rw [o1, openI_len0] at hon
    rw [o2] at hbn s
    rw [o3, openI_len0] at hdn
    have wo := walls_open ys
    obtain ⟨e1, k1, k2, k3, k4⟩ := cnt_sets (ys := ys) (l := l) (by omega)
    have hbn' := hbn
    rw [openI_len0, k3] at hbn'
    rw [k4] at hdn
    have fin := Counts_b14 (W := W) (Q := Q) (tw := tw) (th := th) (ra := ra) (rc := rc) (rn := i) (aa := aa) (ac := ac) (an := an) (da := da) (dc := dc) (dn := dn) (ba := ba) (bc := bc) (bn := bn) (bs := openI (ys.set l 255) 0) (pt := pt) (l := l) (walls := walls) hbn.symm (by omega) (openI_sorted _) (fun hmem => by
      obtain ⟨k, e1, e2, e3⟩ := openI_mem hmem
      obtain rfl : l = k := by omega
      rw [gi_set (by omega), if_pos rfl] at e3
      exact e3 rfl) (by rw [wrap_i64 (by omega) (by omega)]; omega) (by omega) (by omega) hQ bn 0 w (by omega)
    exact ⟨bn + 1, fin (Sep.pick [1, 7] s rfl (by decide))⟩
  | succ m ih =>
    intro i walls w hi hw s
    show herdsmanlaw2_TileCounts.s5 Q (herdsmanlaw2_TileCounts.b5 Q (m + 1)) _ _ _ _ _
    unfold herdsmanlaw2_TileCounts.s5
    unfold tl at s
    repeat' first
      | refine Sep.LdI s (i := 0) rfl rfl rfl ?_
      | refine Sep.LdS s (i := 0) rfl rfl rfl ?_
      | refine Sep.LdB s (i := 0) rfl rfl rfl ?_
      | refine Sep.LdP s (i := 0) rfl rfl rfl ?_
      | refine And.intro (Sep.cell s (i := 0) rfl rfl rfl) ?_
      | refine Sep.LdI s (i := 1) rfl rfl rfl ?_
      | refine Sep.LdS s (i := 1) rfl rfl rfl ?_
      | refine Sep.LdB s (i := 1) rfl rfl rfl ?_
      | refine Sep.LdP s (i := 1) rfl rfl rfl ?_
      | refine And.intro (Sep.cell s (i := 1) rfl rfl rfl) ?_
      | (replace s := Sep.drew s; first
        | refine Sep.LdI s (i := 0) rfl rfl rfl ?_
        | refine Sep.LdS s (i := 0) rfl rfl rfl ?_
        | refine Sep.LdB s (i := 0) rfl rfl rfl ?_
        | refine Sep.LdP s (i := 0) rfl rfl rfl ?_
        | refine And.intro (Sep.cell s (i := 0) rfl rfl rfl) ?_
        | refine Sep.LdI s (i := 1) rfl rfl rfl ?_
        | refine Sep.LdS s (i := 1) rfl rfl rfl ?_
        | refine Sep.LdB s (i := 1) rfl rfl rfl ?_
        | refine Sep.LdP s (i := 1) rfl rfl rfl ?_
        | refine And.intro (Sep.cell s (i := 1) rfl rfl rfl) ?_)
    rw [decide_eq_true (by omega), cond_true]
    repeat' first
      | refine Sep.LdI s (i := 0) rfl rfl rfl ?_
      | refine Sep.LdS s (i := 0) rfl rfl rfl ?_
      | refine Sep.LdB s (i := 0) rfl rfl rfl ?_
      | refine Sep.LdP s (i := 0) rfl rfl rfl ?_
      | refine And.intro (Sep.cell s (i := 0) rfl rfl rfl) ?_
      | refine Sep.LdI s (i := 1) rfl rfl rfl ?_
      | refine Sep.LdS s (i := 1) rfl rfl rfl ?_
      | refine Sep.LdB s (i := 1) rfl rfl rfl ?_
      | refine Sep.LdP s (i := 1) rfl rfl rfl ?_
      | refine And.intro (Sep.cell s (i := 1) rfl rfl rfl) ?_
      | (replace s := Sep.drew s; first
        | refine Sep.LdI s (i := 0) rfl rfl rfl ?_
        | refine Sep.LdS s (i := 0) rfl rfl rfl ?_
        | refine Sep.LdB s (i := 0) rfl rfl rfl ?_
        | refine Sep.LdP s (i := 0) rfl rfl rfl ?_
        | refine And.intro (Sep.cell s (i := 0) rfl rfl rfl) ?_
        | refine Sep.LdI s (i := 1) rfl rfl rfl ?_
        | refine Sep.LdS s (i := 1) rfl rfl rfl ?_
        | refine Sep.LdB s (i := 1) rfl rfl rfl ?_
        | refine Sep.LdP s (i := 1) rfl rfl rfl ?_
        | refine And.intro (Sep.cell s (i := 1) rfl rfl rfl) ?_)
    refine tile_At.spec s (Sep.argrow s (i := 1) rfl by8_len (by decide)) hys fun w s _ => ?_
    have hwl : walls ≤ i := by
      have := List.countP_le_length (p := fun x : Int => x == 255) (l := ys.take i)
      rw [List.length_take] at this
      omega
    rw [atI_eq hm (by omega) (by omega), Int.toNat_natCast, wrap_i64 (n := (i : Int) + 1) (by omega) (by omega), wrap_i64 (n := (walls : Int) + 1) (by omega) (by omega)]
    have hcnt : (ys.take (i + 1)).countP (fun x => x == 255) = (ys.take i).countP (fun x => x == 255) + (if gi ys i == 255 then 1 else 0) := by
      have e : gi ys i = ys[i]'(by omega) := by
        have := gi_get (l := ys) (i := i) (by omega)
        rw [List.getElem?_eq_getElem (by omega)] at this
        exact (Option.some.inj this).symm
      rw [List.take_succ_eq_append_getElem (by omega), List.countP_append, List.countP_singleton, e]
    by_cases e : gi ys i = 255
    · rw [e, beq_self_eq_true, cond_true]
      rw [e, beq_self_eq_true, if_pos rfl] at hcnt
      exact ih (i + 1) (walls + 1) _ (by omega) (by omega) s
    · rw [show (gi ys i == 255) = false by rw [beq_eq_false_iff_ne]; exact e, cond_false]
      rw [show (gi ys i == 255) = false by rw [beq_eq_false_iff_ne]; exact e, if_neg (by decide)] at hcnt
      exact ih (i + 1) walls _ (by omega) (by omega) s
theorem herdsmanlaw2_TileCounts.spec {a : Option Addr} {n c : Nat} {cs : List Int} {w1 h1 l0 : Int} (hA : ArgRow W a n 1 by8 cs) (hcs : ∀ x ∈ cs, 0 ≤ x ∧ x < 256) (hn : n < 9223372036854775808) (hQ : ∀ w', Sep No W w' [] → Q true w') :
    herdsmanlaw2_TileCounts.call a n c w1 h1 l0 W Q := by
  refine herdsmanlaw2_TileCounts.body _ _ _ _ _ _ _ _ ?_
  unfold herdsmanlaw2_TileCounts.sh
  refine ref_MadeTile.spec (F := No) (L := []) Sep.nil hA hcs hn fun tw th ra rn rc ys w hw hh hlen hrn hys s _ => ?_
  repeat' first
    | refine Sep.LdI s (i := 0) rfl rfl rfl ?_
    | refine Sep.LdS s (i := 0) rfl rfl rfl ?_
    | refine Sep.LdB s (i := 0) rfl rfl rfl ?_
    | refine Sep.LdP s (i := 0) rfl rfl rfl ?_
    | refine And.intro (Sep.cell s (i := 0) rfl rfl rfl) ?_
    | refine Sep.LdI s (i := 1) rfl rfl rfl ?_
    | refine Sep.LdS s (i := 1) rfl rfl rfl ?_
    | refine Sep.LdB s (i := 1) rfl rfl rfl ?_
    | refine Sep.LdP s (i := 1) rfl rfl rfl ?_
    | refine And.intro (Sep.cell s (i := 1) rfl rfl rfl) ?_
    | refine Sep.LdI s (i := 2) rfl rfl rfl ?_
    | refine Sep.LdS s (i := 2) rfl rfl rfl ?_
    | refine Sep.LdB s (i := 2) rfl rfl rfl ?_
    | refine Sep.LdP s (i := 2) rfl rfl rfl ?_
    | refine And.intro (Sep.cell s (i := 2) rfl rfl rfl) ?_
    | (refine Sep.St s (i := 0) rfl rfl rfl fun w s => ?_; simp only [List.set_cons_zero, List.set_cons_succ] at s)
    | (refine Sep.St s (i := 1) rfl rfl rfl fun w s => ?_; simp only [List.set_cons_zero, List.set_cons_succ] at s)
    | (refine Sep.St s (i := 2) rfl rfl rfl fun w s => ?_; simp only [List.set_cons_zero, List.set_cons_succ] at s)
    | refine Sep.Bx s fun b w s => ?_
    | (refine Sep.Al s fun b w s => ?_; simp only [zc24, zc37, zc38] at s)
    | (replace s := Sep.drew s; first
      | refine Sep.LdI s (i := 0) rfl rfl rfl ?_
      | refine Sep.LdS s (i := 0) rfl rfl rfl ?_
      | refine Sep.LdB s (i := 0) rfl rfl rfl ?_
      | refine Sep.LdP s (i := 0) rfl rfl rfl ?_
      | refine And.intro (Sep.cell s (i := 0) rfl rfl rfl) ?_
      | refine Sep.LdI s (i := 1) rfl rfl rfl ?_
      | refine Sep.LdS s (i := 1) rfl rfl rfl ?_
      | refine Sep.LdB s (i := 1) rfl rfl rfl ?_
      | refine Sep.LdP s (i := 1) rfl rfl rfl ?_
      | refine And.intro (Sep.cell s (i := 1) rfl rfl rfl) ?_
      | refine Sep.LdI s (i := 2) rfl rfl rfl ?_
      | refine Sep.LdS s (i := 2) rfl rfl rfl ?_
      | refine Sep.LdB s (i := 2) rfl rfl rfl ?_
      | refine Sep.LdP s (i := 2) rfl rfl rfl ?_
      | refine And.intro (Sep.cell s (i := 2) rfl rfl rfl) ?_
      | (refine Sep.St s (i := 0) rfl rfl rfl fun w s => ?_; simp only [List.set_cons_zero, List.set_cons_succ] at s)
      | (refine Sep.St s (i := 1) rfl rfl rfl fun w s => ?_; simp only [List.set_cons_zero, List.set_cons_succ] at s)
      | (refine Sep.St s (i := 2) rfl rfl rfl fun w s => ?_; simp only [List.set_cons_zero, List.set_cons_succ] at s)
      | refine Sep.Bx s fun b w s => ?_
      | (refine Sep.Al s fun b w s => ?_; simp only [zc24, zc37, zc38] at s))
  have q2 : tw * th ≤ 16 * 16 := Int.mul_le_mul hw.2 hh.2 (by omega) (by decide)
  have q1 : 1 * 1 ≤ tw * th := Int.mul_le_mul hw.1 hh.1 (by decide) (by omega)
  have hm : mayB tw th ys = true := mayB_iff.2 ⟨hw, hh, hlen, fun h0 => by have := hys 0 h0; omega⟩
  rw [wrap_i64 (n := (rn : Int) - 1) (by omega) (by omega)]
  refine herdsmanref1_Within.spec (by omega) (by decide) (by omega) ?_
  have r1 := within_range (n := l0) (lo := 0) (hi := (rn : Int) - 1) (by omega)
  generalize (0 + l0 % ((rn : Int) - 1 - 0 + 1)) = l at r1
  obtain ⟨l, rfl⟩ : ∃ k : Nat, l = k := ⟨l.toNat, by omega⟩
  exact ⟨rn + 1, Counts_b5 (by omega) (by omega) hrn.symm (fun x hx => by have := hys x hx; omega) hm hQ rn 0 0 _ (by omega) rfl s⟩
end
theorem TileCounts_law : LawOk P 7 [.sl 1 (.int .u8), .int .i64, .int .i64, .int .i64] := by
  intro W args h
  obtain ⟨v0, r, rfl, h0, h⟩ := RdAll.cons h
  obtain ⟨v1, r, rfl, h1, h⟩ := RdAll.cons h
  obtain ⟨v2, r, rfl, h2, h⟩ := RdAll.cons h
  obtain ⟨v3, r, rfl, h3, h⟩ := RdAll.cons h
  obtain rfl := RdAll.nil h
  obtain ⟨a, n, c, cs, rfl, k1, k2, k3, k4, k5⟩ := rdV_ints (k := .u8) (W := W) h0
  obtain ⟨x1, rfl, _⟩ := rdV_int h1
  obtain ⟨x2, rfl, _⟩ := rdV_int h2
  obtain ⟨x3, rfl, _⟩ := rdV_int h3
  exact herdsmanlaw2_TileCounts.spec (Q := fun r W' => r = true ∧ Go.RowKit.Below W.heap.size W W') k4 (fun x hx => wf_u8 (k5 x hx)) (by simp only [maxLen] at k2; omega) fun w' s => ⟨rfl, sep_below s⟩
end Go.Proofs.Ytbecldlnajlnnaa.S
