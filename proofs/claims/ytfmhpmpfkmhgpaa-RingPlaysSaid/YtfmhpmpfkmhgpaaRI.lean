/- Layer 7: the document's ring: Pop. -/
import Derived.Test.YtfmhpmpfkmhgpaaRH
set_option linter.unusedVariables false
set_option linter.unusedSimpArgs false
namespace Go.Proofs.Ytfmhpmpfkmhgpaa.S
open Go.Sx
attribute [local irreducible] LdI LdB LdStr LdP LdS LdM LdV St Bx Al App Cpy MkS MkM EqK RunK RunU CallK SlK blkA rowA joinA ringA
def ge (l : List E) (i : Nat) : E := l.getD i (0, 0)
theorem ge_get {l : List E} {i : Nat} (h : i < l.length) : l[i]? = some (ge l i) := by
  rw [ge, List.getD_eq_getElem?_getD, List.getElem?_eq_getElem h]; rfl
theorem ge_mid {l1 l2 : List E} {e : E} : ge (l1 ++ e :: l2) l1.length = e := by
  unfold ge
  rw [List.getD_eq_getElem?_getD, List.getElem?_append_right (Nat.le_refl _), Nat.sub_self]
  rfl
theorem ge_left {l1 l2 : List E} {j : Nat} (h : j < l1.length) : ge (l1 ++ l2) j ∈ l1 := by
  have h1 := ge_get (l := l1 ++ l2) (i := j) (by simp; omega)
  rw [List.getElem?_append_left h] at h1
  exact List.mem_of_getElem? h1
theorem ge_right {l1 l2 : List E} {e : E} {j : Nat} (h : l1.length < j) (hj : j < (l1 ++ e :: l2).length) : ge (l1 ++ e :: l2) j ∈ l2 := by
  have h1 := ge_get (l := l1 ++ e :: l2) hj
  rw [List.getElem?_append_right (by omega)] at h1
  obtain ⟨d, hd⟩ : ∃ d, j - l1.length = d + 1 := ⟨j - l1.length - 1, by omega⟩
  rw [hd, List.getElem?_cons_succ] at h1
  exact List.mem_of_getElem? h1
section
variable {F : Nat → Prop} {W w : World} {L : List As} {i q c : Nat} {a : Int} {l : List E} {la : Option Addr}
theorem ref_pop_loop {l1 l2 : List E} {k x : Int} {Q : Int → Int → Bool → World → Prop} (hl : l = l1 ++ (k, x) :: l2) (h1 : ∀ e ∈ l1, k < e.1) (h2 : ∀ e ∈ l2, k ≤ e.1) (hlen : l.length ≤ 1000) {w0 : World} {G : Nat → Prop}
    (h : ∀ w' la' c', Sep G w0 w' [blkA q 37 [.int .i64 k, .slice la' (l1 ++ l2).length c'], rowA la' (l1 ++ l2).length c' 50 2 (flat pr (l1 ++ l2))] → Q k x true w') :
    ∀ (n i m : Nat) (w : World), i + n = l.length → m < l.length → (∀ j, j < i → j < l.length → (ge l m).1 ≤ (ge l j).1) → (∀ j, j < m → (ge l m).1 < (ge l j).1) → m ≤ i →
      Sep G w0 w [blkA q 37 [.int .i64 a, .slice la l.length c], rowA la l.length c 50 2 (flat pr l)] → herdsmanref7_Ring_Pop.b5 Q (n + 1) (some ⟨q, 0, none⟩) m i w := by
  intro n
  induction n with
  | zero =>
    intro i m w hi hm hle hlt hmi s
    obtain rfl : i = l.length := by omega
    show herdsmanref7_Ring_Pop.s5 Q (herdsmanref7_Ring_Pop.b5 Q 0) _ _ _ _
    unfold herdsmanref7_Ring_Pop.s5
    have hmid : ge l l1.length = (k, x) := by rw [hl]; exact ge_mid
    have hll : l1.length < l.length := by rw [hl]; simp
    have hmeq : m = l1.length := by
      rcases Nat.lt_trichotomy m l1.length with hh | hh | hh
      · have := h1 (ge l m) (by rw [hl]; exact ge_left hh)
        have := hle l1.length hll hll
        rw [hmid] at this
        simp only at this
        omega
      · exact hh
      · have := h2 (ge l m) (by
          have hm' := hm
          rw [hl] at hm' ⊢
          exact ge_right hh hm')
        have := hlt l1.length hh
        rw [hmid] at this
        simp only at this
        omega
    have gm := ge_get hm
    rw [hmeq, hmid] at gm
    have htake : l.take m = l1 := by rw [hmeq, hl, List.take_left]
    have hdrop : l.drop (m + 1) = l2 := by
      rw [hmeq, hl, ← List.drop_drop, List.drop_left]; rfl
    have hcap := rowA_cap s (i := 1) rfl
    have hnone := fun e => rowA_none s (i := 1) rfl e
    obtain ⟨b, o, hb⟩ := rowA_some s (i := 1) rfl (by omega)
    refine wA_some ?_
    refine Sep.LdS s (i := 0) (j := 1) rfl rfl rfl ?_
    rw [decide_eq_false (by omega), cond_false]
    refine wA_some ?_
    refine Sep.LdS s (i := 0) (j := 1) rfl rfl rfl ?_
    refine ⟨by omega, by omega, ?_⟩
    rw [hb]
    refine wA_some ?_
    rw [show ((m : Int)).toNat = m from rfl]
    have s' := s
    rw [hb] at s'
    refine Sep.LdI_el (k := m) pr_len s' (i := 1) rfl (by rw [hmeq]; exact gm) (j := 0) (by exact el_addr ..) rfl ?_
    refine Sep.LdI_el (k := m) pr_len s' (i := 1) rfl (by rw [hmeq]; exact gm) (j := 1) (by exact el_addr ..) rfl ?_
    refine Sep.Al s fun p1 w1 s => ?_
    rw [zc50] at s
    refine Sep.St s (i := 0) rfl rfl rfl fun w2 s => ?_
    refine Sep.St s (i := 0) rfl rfl rfl fun w3 s => ?_
    simp only [List.set_cons_zero, List.set_cons_succ] at s
    have s3 : Sep G w0 w3.drew _ := s
    refine wA_some ?_
    refine Sep.LdS s3 (i := 1) (j := 1) rfl rfl rfl ?_
    refine SlK_hi (m := m) rfl (by omega) (wA_some ?_)
    refine Sep.LdS s3 (i := 1) (j := 1) rfl rfl rfl ?_
    rw [wrap_i64 (n := (m : Int) + 1) (by omega) (by omega)]
    refine SlK_lo (m := m + 1) (by omega) (by omega) ?_
    refine Sep.Bx s3 fun p2 w4 s => ?_
    refine ⟨Sep.cell s (i := 2) rfl rfl rfl, Sep.cell s (i := 2) rfl rfl rfl, ?_⟩
    have s := Sep.blk_row (n := 0) (size := 2) s (i := 0) rfl rfl (by decide) (by simp)
    simp only [List.set_cons_zero] at s
    have src := Src.take (m := m) (Sep.src s (i := 3) rfl) (by omega)
    rw [flat_take pr_len, htake] at src
    refine Sep.App tab_ok s (i := 0) (size := 2) (bytes := 16) rfl rfl rfl rfl rfl rfl (by decide) rfl src (by simp only [maxLen]; omega) (by omega) hnone fun a1 c1 w5 s => ?_
    simp only [List.set_cons_zero, List.nil_append] at s
    refine ⟨Sep.cell s (i := 2) rfl rfl rfl, ?_⟩
    have src := Src.drop (m := m + 1) (c := c) (Sep.src s (i := 3) rfl) (by omega) hcap.1
    rw [flat_drop pr_len, hdrop] at src
    have hcc : (if c = m + 1 then la else la.map (·.add ((m + 1) * 2))) = none → c - (m + 1) = 0 := by
      intro e
      have : la = none := by
        split at e
        · exact e
        · simpa using e
      have := hnone this
      omega
    refine Sep.App tab_ok s (i := 0) (size := 2) (bytes := 16) rfl rfl rfl rfl rfl rfl (by decide) rfl src (by simp only [maxLen]; omega) (by omega) hcc fun a2 c2 w6 s => ?_
    simp only [List.set_cons_zero] at s
    rw [← flat_append] at s
    refine wA_some ?_
    refine Sep.St s (i := 2) (j := 1) rfl rfl rfl fun w7 s => ?_
    refine Sep.LdI s (i := 1) (j := 0) rfl rfl rfl (wA_some ?_)
    refine Sep.St s (i := 2) (j := 0) rfl rfl rfl fun w8 s => ?_
    simp only [List.set_cons_zero, List.set_cons_succ] at s
    have s8 : Sep G w0 w8.drew _ := s
    refine Sep.LdI s8 (i := 1) (j := 0) rfl rfl rfl ?_
    refine Sep.LdI s8 (i := 1) (j := 1) rfl rfl rfl ?_
    refine ⟨Sep.cell s8 (i := 1) rfl rfl rfl, ?_⟩
    have en : 0 + m + (l.length - (m + 1)) = (l1 ++ l2).length := by
      have := congrArg List.length hl
      simp at this ⊢
      omega
    rw [en] at s8
    have s9 := Sep.sub (L' := [rowA a2 (l1 ++ l2).length c2 50 2 (flat pr (l1 ++ l2)), blkA q 37 [.int .i64 k, .slice a2 (l1 ++ l2).length c2]]) s8 (.cons_cons _ (.cons _ (.cons_cons _ (.cons _ .slnil))))
    exact h w8.drew a2 c2 (Sep.perm s9 (List.Perm.swap ..))
  | succ n ih =>
    intro i m w hi hm hle hlt hmi s
    show herdsmanref7_Ring_Pop.s5 Q (herdsmanref7_Ring_Pop.b5 Q (n + 1)) _ _ _ _
    unfold herdsmanref7_Ring_Pop.s5
    obtain ⟨b, o, rfl⟩ := rowA_some s (i := 1) rfl (by omega)
    have s0 : Sep G w0 w.drew _ := s
    have gi' := ge_get (l := l) (i := i) (by omega)
    have gm := ge_get hm
    refine wA_some ?_
    refine Sep.LdS s (i := 0) (j := 1) rfl rfl rfl ?_
    rw [decide_eq_true (by omega), cond_true]
    refine wA_some ?_
    refine Sep.LdS s0 (i := 0) (j := 1) rfl rfl rfl ?_
    refine ⟨by omega, by omega, wA_some ?_⟩
    rw [show ((i : Int)).toNat = i from rfl, show ((m : Int)).toNat = m from rfl]
    refine Sep.LdI_el (k := i) pr_len s0 (i := 1) rfl gi' (j := 0) (by exact el_addr0 ..) rfl (wA_some ?_)
    refine Sep.LdS s0 (i := 0) (j := 1) rfl rfl rfl ?_
    refine ⟨by omega, by omega, wA_some ?_⟩
    refine Sep.LdI_el (k := m) pr_len s0 (i := 1) rfl gm (j := 0) (by exact el_addr0 ..) rfl ?_
    rw [wrap_i64 (n := (i : Int) + 1) (by omega) (by omega)]
    by_cases hc : (ge l i).1 < (ge l m).1
    · rw [decide_eq_true hc, cond_true]
      refine ih (i + 1) i w.drew (by omega) (by omega) (fun j hj hjl => ?_) (fun j hj => ?_) (by omega) s0
      · by_cases hji : j = i
        · subst hji; exact Int.le_refl _
        · have := hle j (by omega) hjl
          omega
      · have := hle j (by omega) (by omega)
        omega
    · rw [decide_eq_false hc, cond_false]
      refine ih (i + 1) m w.drew (by omega) hm (fun j hj hjl => ?_) hlt (by omega) s0
      by_cases hji : j = i
      · subst hji; omega
      · exact hle j (by omega) hjl
theorem ref_Pop.nil {Q : Int → Int → Bool → World → Prop} (s : Sep F W w L) (hi : L[i]? = some (refA q a [] la c)) (h : Q 0 0 false w) : herdsmanref7_Ring_Pop.call (some ⟨q, 0, none⟩) w Q := by
  refine herdsmanref7_Ring_Pop.body _ _ _ ?_
  unfold herdsmanref7_Ring_Pop.sh
  refine wA_some ?_
  refine Sep.LdS (join_open s hi) (i := 0) (j := 1) rfl rfl rfl ?_
  exact h
theorem ref_Pop.some {l1 l2 : List E} {k x : Int} {Q : Int → Int → Bool → World → Prop} (s : Sep F W w L) (hi : L[i]? = .some (refA q a l la c)) (hl : l = l1 ++ (k, x) :: l2) (h1 : ∀ e ∈ l1, k < e.1) (h2 : ∀ e ∈ l2, k ≤ e.1)
    (h : ∀ w' la' c', Sep F W w' (L.set i (refA q k (l1 ++ l2) la' c')) → Q k x true w') : herdsmanref7_Ring_Pop.call (.some ⟨q, 0, none⟩) w Q := by
  refine herdsmanref7_Ring_Pop.body _ _ _ ?_
  unfold herdsmanref7_Ring_Pop.sh
  have hp := join_pure s hi
  have hpos : 0 < l.length := by rw [hl]; simp; omega
  refine wA_some ?_
  refine Sep.LdS (join_open s hi) (i := 0) (j := 1) rfl rfl rfl ?_
  rw [show (((l.length : Int)) == 0) = false by rw [beq_eq_false_iff_ne]; omega, cond_false]
  refine ⟨l.length + 1, ref_pop_loop (a := a) (c := c) (la := la) hl h1 h2 hp (G := (refA q a l la c).fp) (w0 := w) (fun w' la' c' s' => ?_) l.length 0 0 w (by omega) hpos (fun j hj => by omega) (fun j hj => by omega) (Nat.le_refl _) (join_open s hi)⟩
  refine h w' la' c' (join_close s hi s' ?_)
  have := congrArg List.length hl
  simp at this ⊢
  omega
end
end Go.Proofs.Ytfmhpmpfkmhgpaa.S
