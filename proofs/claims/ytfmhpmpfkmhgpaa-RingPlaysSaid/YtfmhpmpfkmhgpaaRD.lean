/- Layer 7: Jump, Pop and New; told answers true. -/
import Derived.Test.YtfmhpmpfkmhgpaaRC
set_option linter.unusedVariables false
set_option linter.unusedSimpArgs false
namespace Go.Proofs.Ytfmhpmpfkmhgpaa.S
open Go.Sx
attribute [local irreducible] LdI LdB LdStr LdP LdS LdM LdV St Bx Al App Cpy MkS MkM EqK RunK RunU CallK SlK blkA rowA joinA
section
variable {F : Nat → Prop} {W w : World} {L : List As} {i p : Nat} {a : Int} {l : List E} {bs : List Bk} {N : Nat}
theorem ring_Jump.spec {k : Int} {Q : Bool → World → Prop} (s : Sep F W w L) (hi : L[i]? = some (ringA p a l bs N))
    (hno : ¬ (l = [] ∧ a ≤ k ∧ k ≤ 1099511627776) → Q false w) (hyes : l = [] ∧ a ≤ k ∧ k ≤ 1099511627776 → ∀ w' bs', Sep F W w' (L.set i (ringA p k [] bs' N)) → Q true w') : ring_Ring_Jump.call (some ⟨p, 0, none⟩) k w Q := by
  refine ring_Ring_Jump.body _ _ _ _ ?_
  unfold ring_Ring_Jump.sh
  have hr := ring_rel s hi
  have s0 := ring_open s hi
  have hnn := hr.nn
  refine isNone_pt (wA_some ?_)
  refine Sep.LdI s0 (i := 0) (j := 1) rfl rfl rfl ?_
  by_cases h0 : l = []
  · subst h0
    rw [decide_eq_false (by simp), cond_false]
    refine wA_some ?_
    refine Sep.LdI s0 (i := 0) (j := 0) rfl rfl rfl ?_
    by_cases h1 : k < a
    · rw [decide_eq_true h1, cond_true]
      exact hno (by omega)
    · rw [decide_eq_false h1, cond_false]
      by_cases h2 : k > 1099511627776
      · rw [decide_eq_true h2, cond_true]
        exact hno (by omega)
      · rw [decide_eq_false h2, cond_false]
        refine wA_some ?_
        refine Sep.St s0 (i := 0) (j := 0) rfl rfl rfl fun w1 s1 => ?_
        have s1 : Sep (ringA p a [] bs N).fp w w1 (ringL p k ([] : List E).length bs) := s1
        exact hyes ⟨rfl, by omega, by omega⟩ w1 bs (join_close s hi s1 ⟨hr.n, (fun e he => by cases he), by omega, (by simp; omega), hr.few, hr.room, hr.bk⟩)
  · have : 0 < l.length := (List.length_pos_iff.2 h0)
    rw [decide_eq_true (by omega), cond_true]
    exact hno (fun h => h0 h.1)
theorem pend_ne {l1 l2 : List E} {k x : Int} {j : Nat} (h : pend (l1 ++ (k, x) :: l2) j = x :: pend (l1 ++ l2) j) : pend (l1 ++ (k, x) :: l2) j ≠ [] := by rw [h]; simp
theorem ring_pop_loop {Q : Int → Int → Bool → World → Prop} (hr : Rel a l bs N) {d : Nat} (hd : d < 256) (hlow : ∀ e ∈ l, a + d ≤ e.1) (hex : ∃ e ∈ l, e.1 = a + d) {w0 : World} {G : Nat → Prop}
    (h : ∀ w' l1 x l2 bs', l = l1 ++ (a + d, x) :: l2 → (∀ e ∈ l1, a + d < e.1) → (∀ e ∈ l2, a + d ≤ e.1) → Rel (a + d) (l1 ++ l2) bs' N → Sep G w0 w' (ringL p (a + d) (l1 ++ l2).length bs') → Q (a + d) x true w') :
    ∀ (m e : Nat) (w : World), e + m = d → Sep G w0 w (ringL p (a + e) l.length bs) → ring_Ring_Pop.b3 Q (m + 1) (some ⟨p, 0, none⟩) w := by
  have hnn := hr.nn
  have hbig := hr.big
  have hfew' := hr.few
  have hroom' := hr.room
  intro m
  induction m with
  | zero =>
    intro e w he s
    obtain rfl : e = d := by omega
    show ring_Ring_Pop.s3 Q (ring_Ring_Pop.b3 Q 0) _ _
    unfold ring_Ring_Pop.s3
    obtain ⟨j, hj⟩ : ∃ j : Nat, (a + e) % 256 = (j : Int) := ⟨((a + e) % 256).toNat, by omega⟩
    have hj256 : j < 256 := by omega
    obtain ⟨b, hb⟩ : ∃ b, bs[j]? = some b := ⟨_, List.getElem?_eq_getElem (by rw [hr.n]; exact hj256)⟩
    have hbk := hr.bk j b hb
    have hroom := hr.room
    have hfew := hr.few
    have hkk : a ≤ a + e ∧ a + e < a + 256 := by omega
    have hpn : pend l j ≠ [] := fun h0 => by
      obtain ⟨x, hx, hxe⟩ := hex
      exact (pend_empty hr.fit hkk hj).1 h0 x hx hxe
    obtain ⟨l1, x, l2, hl, g1, g2, g3, g4, g5⟩ := pop_split hr.fit hkk hj hlow hpn
    have hlt : b.gone < b.xs.length := by
      have := congrArg List.length hbk.1
      rw [List.length_drop] at this
      have : 0 < (pend l j).length := List.length_pos_iff.2 hpn
      omega
    have ea : ((⟨p, 0, none⟩ : Addr).add 2).add (((j : Int)).toNat * 2) = ⟨p, j * 2 + 2, none⟩ := by
      rw [add_flat, add_flat, show ((j : Int)).toNat = j from rfl]; congr 1; omega
    have em : Int.tmod (a + e) 256 = (j : Int) := by rw [Int.tmod_eq_emod_of_nonneg (by omega)]; exact hj
    have s0 : Sep G w0 w.drew _ := s
    refine wA_some ?_
    refine Sep.LdI s0 (i := 0) (j := 0) rfl rfl rfl ?_
    rw [em]
    refine ⟨by decide, wA_some ⟨by omega, by omega, ?_⟩⟩
    rw [ea]
    refine bucket_empty.spec s0 (i := 0) rfl (rcells_hd hb) (rcells_gone hb) ?_
    rw [show (((b.gone : Int)) == (b.xs.length : Int)) = false by rw [beq_eq_false_iff_ne]; omega, cond_false]
    have s1 : Sep G w0 w.drew.drew _ := s
    refine wA_some ?_
    refine Sep.LdI s1 (i := 0) (j := 1) rfl rfl rfl (wA_some ?_)
    refine Sep.St s1 (i := 0) (j := 1) rfl rfl rfl fun w3 s3 => ?_
    have hlpos : 0 < l.length := by
      obtain ⟨x, hx, _⟩ := hex
      exact List.length_pos_of_mem hx
    have el : IntKind.wrap .i64 ((l.length : Int) - 1) = ((l1 ++ l2).length : Int) := by
      rw [wrap_i64 (by omega) (by omega)]
      have := congrArg List.length hl
      simp at this ⊢
      omega
    rw [el] at s3
    have s3 : Sep G w0 w3 (ringL p (a + e) (l1 ++ l2).length bs) := s3
    have s4 : Sep G w0 w3.drew (ringL p (a + e) (l1 ++ l2).length bs) := s3
    refine wA_some ?_
    refine Sep.LdI s4 (i := 0) (j := 0) rfl rfl rfl (wA_some ?_)
    refine Sep.LdI s4 (i := 0) (j := 0) rfl rfl rfl ?_
    rw [em]
    refine ⟨by decide, wA_some ⟨by omega, by omega, ?_⟩⟩
    rw [ea]
    have hx : b.xs[b.gone]? = some x := by
      have := congrArg (fun q => q[0]?) (hbk.1.trans g3)
      simpa using this
    have hdrop : b.xs.drop (b.gone + 1) = pend (l1 ++ l2) j := by
      have := congrArg (List.drop 1) (hbk.1.trans g3)
      simpa [List.drop_drop] using this
    have rel : ∀ b' : Bk, b'.xs.drop b'.gone = pend (l1 ++ l2) j → b'.gone ≤ b'.xs.length → b'.xs.length ≤ N → Rel (a + e) (l1 ++ l2) (bs.set j b') N := by
      intro b' q1 q2 q3
      refine ⟨by simp [hr.n], g5, by omega, ?_, ?_, hroom, fun j' b2 hb2 => ?_⟩
      · have := congrArg List.length hl
        simp at this ⊢
        omega
      · have := congrArg List.length hl
        simp at this ⊢
        omega
      · by_cases hjj : j = j'
        · subst hjj
          rw [List.getElem?_set_self (by rw [hr.n]; exact hj256)] at hb2
          cases hb2
          exact ⟨q1, q2, q3⟩
        · rw [List.getElem?_set_ne hjj] at hb2
          rw [g4 j' (Ne.symm hjj)]
          exact hr.bk j' b2 hb2
    refine bucket_pop.spec s4 (i := 0) (j := j + 1) rfl (rcells_hd hb) (rcells_gone hb) (by show (bs.map brow)[j]? = _; exact map_brow_get hb) (by omega) (by omega) hx (fun hg w5 s5 => ?_) fun hg w5 s5 => ?_
    · have e2 : (rcells (a + e) (l1 ++ l2).length bs).set (j * 2 + 2 + 1) (.int .i64 ((b.gone + 1 : Nat) : Int)) = rcells (a + e) (l1 ++ l2).length (bs.set j { b with gone := b.gone + 1 }) := rcells_set_gone hb rfl
      rw [e2] at s5
      have e3 : bs.map brow = (bs.set j { b with gone := b.gone + 1 }).map brow := by
        rw [List.map_set, show brow { b with gone := b.gone + 1 } = brow b from rfl, set_get_self (map_brow_get hb)]
      have s5 : Sep G w0 w5 (blkA p 47 (rcells (a + e) (l1 ++ l2).length (bs.set j { b with gone := b.gone + 1 })) :: bs.map brow) := s5
      rw [e3] at s5
      refine ⟨Sep.cell s5 (i := 0) (j := 0) rfl rfl rfl, ?_⟩
      exact h w5 l1 x l2 _ hl g1 g2 (rel { b with gone := b.gone + 1 } hdrop (show b.gone + 1 ≤ b.xs.length by omega) hbk.2.2) s5
    · have e2 : ((rcells (a + e) (l1 ++ l2).length bs).set (j * 2 + 2) (.slice b.a 0 b.c)).set (j * 2 + 2 + 1) (.int .i64 ((0 : Nat) : Int)) = rcells (a + e) (l1 ++ l2).length (bs.set j ⟨b.a, b.c, [], 0⟩) := by
        have hjl : j < bs.length := by rw [hr.n]; exact hj256
        rw [rcells_set_hd (b' := ⟨b.a, b.c, [], b.gone⟩) (v := .slice b.a 0 b.c) hb rfl, rcells_set_gone (b := ⟨b.a, b.c, [], b.gone⟩) (b' := ⟨b.a, b.c, [], 0⟩) (v := .int .i64 ((0 : Nat) : Int)) (List.getElem?_set_self hjl) rfl, set_set_same]
      rw [e2] at s5
      have e3 : rowA b.a 0 b.c 3 1 [] = brow ⟨b.a, b.c, [], 0⟩ := rfl
      rw [e3] at s5
      have s5 : Sep G w0 w5 (blkA p 47 (rcells (a + e) (l1 ++ l2).length (bs.set j ⟨b.a, b.c, [], 0⟩)) :: (bs.map brow).set j (brow ⟨b.a, b.c, [], 0⟩)) := s5
      rw [← List.map_set] at s5
      refine ⟨Sep.cell s5 (i := 0) (j := 0) rfl rfl rfl, ?_⟩
      refine h w5 l1 x l2 _ hl g1 g2 (rel _ ?_ (by simp) (by simp)) s5
      rw [← hdrop, hg]
      simp
  | succ m ih =>
    intro e w he s
    show ring_Ring_Pop.s3 Q (ring_Ring_Pop.b3 Q (m + 1)) _ _
    unfold ring_Ring_Pop.s3
    obtain ⟨j, hj⟩ : ∃ j : Nat, (a + e) % 256 = (j : Int) := ⟨((a + e) % 256).toNat, by omega⟩
    have hj256 : j < 256 := by omega
    obtain ⟨b, hb⟩ : ∃ b, bs[j]? = some b := ⟨_, List.getElem?_eq_getElem (by rw [hr.n]; exact hj256)⟩
    have hbk := hr.bk j b hb
    have hkk : a ≤ a + e ∧ a + e < a + 256 := by omega
    have hpn : pend l j = [] := (pend_empty hr.fit hkk hj).2 fun x hx hxe => by
      have := hlow x hx
      omega
    have hgone : b.gone = b.xs.length := by
      have := congrArg List.length hbk.1
      rw [List.length_drop, hpn] at this
      simp at this
      have := hbk.2.1
      omega
    have ea : ((⟨p, 0, none⟩ : Addr).add 2).add (((j : Int)).toNat * 2) = ⟨p, j * 2 + 2, none⟩ := by
      rw [add_flat, add_flat, show ((j : Int)).toNat = j from rfl]; congr 1; omega
    have em : Int.tmod (a + e) 256 = (j : Int) := by rw [Int.tmod_eq_emod_of_nonneg (by omega)]; exact hj
    have s0 : Sep G w0 w.drew _ := s
    refine wA_some ?_
    refine Sep.LdI s0 (i := 0) (j := 0) rfl rfl rfl ?_
    rw [em]
    refine ⟨by decide, wA_some ⟨by omega, by omega, ?_⟩⟩
    rw [ea]
    refine bucket_empty.spec s0 (i := 0) rfl (rcells_hd hb) (rcells_gone hb) ?_
    rw [hgone, beq_self_eq_true, cond_true]
    have s1 : Sep G w0 w.drew.drew _ := s
    refine wA_some ?_
    refine Sep.LdI s1 (i := 0) (j := 0) rfl rfl rfl (wA_some ?_)
    refine Sep.St s1 (i := 0) (j := 0) rfl rfl rfl fun w3 s3 => ?_
    rw [wrap_i64 (by omega) (by omega), show a + (e : Int) + 1 = a + ((e + 1 : Nat) : Int) by omega] at s3
    exact ih (e + 1) w3 (by omega) s3
theorem ring_Pop.spec {Q : Int → Int → Bool → World → Prop} (s : Sep F W w L) (hi : L[i]? = some (ringA p a l bs N)) (h0 : l = [] → Q 0 0 false w)
    (h1 : ∀ w' k l1 x l2 bs', l = l1 ++ (k, x) :: l2 → (∀ e ∈ l1, k < e.1) → (∀ e ∈ l2, k ≤ e.1) → Sep F W w' (L.set i (ringA p k (l1 ++ l2) bs' N)) → Q k x true w') : ring_Ring_Pop.call (some ⟨p, 0, none⟩) w Q := by
  refine ring_Ring_Pop.body _ _ _ ?_
  unfold ring_Ring_Pop.sh
  refine ring_Len.spec s hi ?_
  have hr := ring_rel s hi
  by_cases hl : l = []
  · subst hl
    exact h0 rfl
  · have hpos : 0 < l.length := List.length_pos_iff.2 hl
    rw [show (((l.length : Int)) == 0) = false by rw [beq_eq_false_iff_ne]; omega, cond_false]
    obtain ⟨d, hd, hlow, hex⟩ := exists_next hr.fit hl
    have s0 := ring_open s hi
    refine ⟨d + 1, ring_pop_loop (p := p) (G := (ringA p a l bs N).fp) (w0 := w) hr hd hlow hex (fun w' l1 x l2 bs' q1 q2 q3 q4 s' => ?_) d 0 w (by omega) (by simpa using s0)⟩
    exact h1 w' (a + d) l1 x l2 bs' q1 q2 q3 (join_close s hi s' q4)
theorem flat_rep {α : Type} {f : α → List Value} (x : α) (n : Nat) : flat f (List.replicate n x) = (List.replicate n (f x)).flatten := by
  simp [flat, List.flatMap_replicate]
def noBk : Bk := ⟨none, 0, [], 0⟩
theorem ring_New.spec {f : Int} {Q : Option Addr → World → Prop} (s : Sep F W w L) (hno : f < 0 ∨ f > 1099511627776 → Q none w) (hyes : 0 ≤ f ∧ f ≤ 1099511627776 → ∀ p w' bs, Sep F W w' (ringA p f [] bs 0 :: L) → Q (some ⟨p, 0, none⟩) w') : ring_New.call f w Q := by
  refine ring_New.body _ _ _ ?_
  unfold ring_New.sh
  by_cases h1 : f < 0
  · rw [decide_eq_true h1, cond_true]
    exact hno (.inl h1)
  · rw [decide_eq_false h1, cond_false]
    by_cases h2 : f > 1099511627776
    · rw [decide_eq_true h2, cond_true]
      exact hno (.inr h2)
    · rw [decide_eq_false h2, cond_false]
      refine Sep.Bx s fun p w1 s => ?_
      have s2 := Sep.rows_nil s 3 1 256
      have s3 := Sep.perm s2 List.perm_middle
      have rel : Rel f [] (List.replicate 256 noBk) 0 := by
        refine ⟨List.length_replicate, (fun e he => by cases he), by omega, (by simp only [List.length_nil]; omega), Nat.le_refl _, by decide, fun j b hb => ?_⟩
        have : b = noBk := List.eq_of_mem_replicate (List.mem_of_getElem? hb)
        subst this
        exact ⟨rfl, Nat.le_refl _, Nat.le_refl _⟩
      have e1 : (List.replicate 256 noBk).map brow = List.replicate 256 (rowA none 0 0 3 1 []) := by rw [List.map_replicate]; rfl
      refine hyes (by omega) p w1 (List.replicate 256 noBk) ?_
      have s4 : Sep F W w1 (ringL p f ([] : List E).length (List.replicate 256 noBk) ++ L) := by
        unfold ringL
        rw [e1]
        exact castK s3 (by kernel_rfl)
      exact Sep.joinApp s4 rel
end
end Go.Proofs.Ytfmhpmpfkmhgpaa.S
