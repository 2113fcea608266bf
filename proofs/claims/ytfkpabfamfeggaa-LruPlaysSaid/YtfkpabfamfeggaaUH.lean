/- Layer 18: the document's Find, free, Use, Keys; LruPlays answers true. -/
import Derived.Test.YtfkpabfamfeggaaUE
set_option linter.unusedVariables false
set_option linter.unusedSimpArgs false
namespace Go.Proofs.Ytfkpabfamfeggaa.S
open Go.Sx
open Go.Maps (Keyed)
theorem zc40 : zc T 40 = [.int .i64 0, .int .i64 0, .int .i64 0] := rfl
attribute [local irreducible] LdI LdB LdStr LdP LdS LdM LdV St Bx Al App Cpy MkS MkM EqK RunK RunU CallK SlK blkA rowA joinA mapA
def entc (p : (Int × Int) × Nat) : List Value := [.int .i64 p.1.1, .int .i64 p.1.2, .int .i64 p.2]
theorem entc_len (p : (Int × Int) × Nat) : (entc p).length = 3 := rfl
theorem entc_one (v : (Int × Int) × Nat) (u : Value) (h : u ∈ entc v) : u.oneCell' = true := by
  simp only [entc, List.mem_cons, List.not_mem_nil, or_false] at h
  rcases h with rfl | rfl | rfl <;> rfl
theorem nodup_le : ∀ (n : Nat) (xs : List Nat), xs.Nodup → (∀ x ∈ xs, x < n) → xs.length ≤ n
  | 0, xs, _, h => by
    cases xs with
    | nil => simp
    | cons x xs => have := h x (by simp); omega
  | n + 1, xs, hnd, h => by
    by_cases hn : n ∈ xs
    · have := nodup_le n (xs.erase n) (hnd.erase n) fun x hx => by
        have h1 := h x (List.mem_of_mem_erase hx)
        have h2 : x ≠ n := fun e => by rw [e] at hx; exact (List.Nodup.not_mem_erase hnd) hx
        omega
      rw [List.length_erase_of_mem hn] at this
      omega
    · have := nodup_le n xs hnd fun x hx => by
        have h1 := h x hx
        have h2 : x ≠ n := fun e => hn (e ▸ hx)
        omega
      omega
theorem all_slots {k : Int} {l : KS} (h : Good k l) {m : Nat} (hm : m < l.length) : ∃ p ∈ l, p.2 = m := by
  by_cases hx : m ∈ l.map (·.2)
  · obtain ⟨p, hp, e⟩ := List.mem_map.1 hx
    exact ⟨p, hp, e⟩
  · have := nodup_le l.length (m :: l.map (·.2)) (List.nodup_cons.2 ⟨hx, h.nd⟩) fun x hx => by
      rcases List.mem_cons.1 hx with rfl | hx
      · exact hm
      · obtain ⟨p, hp, rfl⟩ := List.mem_map.1 hx
        exact h.lt p hp
    simp at this
    omega
section
variable {F : Nat → Prop} {W w : World} {L : List As} {q : Nat} {k : Int} {l : KS} {ra : Option Addr} {rn rc : Nat} {key : Int × Int}
theorem ref_Find.spec {Q : Int → World → Prop} (s : Sep F W w (blkA q 38 [.int .i64 k, .slice ra rn rc] :: rowA ra rn rc 56 3 (flat entc l) :: L)) (hl : l.length ≤ 1000) (h : Q (findP l key) w) : herdsmanref18_Lru_Find.call (some ⟨q, 0, none⟩) key.1 key.2 w Q := by
  refine herdsmanref18_Lru_Find.body _ _ _ _ _ ?_
  unfold herdsmanref18_Lru_Find.sh
  have hA := Sep.sl s (i := 1) rfl entc_len (by decide)
  have hlen := hA.len
  have loop : ∀ (post pre : KS) (i : Nat), l = pre ++ post → i = pre.length → (∀ p ∈ pre, p.1 ≠ key) → herdsmanref18_Lru_Find.b2 Q (post.length + 1) (some ⟨q, 0, none⟩) key.1 key.2 i w := by
    intro post
    induction post with
    | nil =>
      intro pre i e hi hno
      rw [List.append_nil] at e
      subst e
      show herdsmanref18_Lru_Find.s2 Q (herdsmanref18_Lru_Find.b2 Q 0) _ _ _ _ _
      unfold herdsmanref18_Lru_Find.s2
      refine wA_some ?_
      refine Sep.LdS s (i := 0) rfl rfl rfl ?_
      rw [decide_eq_false (by omega), cond_false]
      unfold findP at h
      rw [List.find?_eq_none.2 fun p hp => by simpa using hno p hp] at h
      exact h
    | cons x post ih =>
      intro pre i e hi hno
      have hll := congrArg List.length e
      rw [List.length_append, List.length_cons] at hll
      have hx0 : l[i]? = some x := by rw [e, hi]; simp
      have next : x.1 ≠ key → herdsmanref18_Lru_Find.b2 Q (post.length + 1) (some ⟨q, 0, none⟩) key.1 key.2 (IntKind.wrap .i64 ((i : Int) + 1)) w := fun hne => by
        rw [wrap_i64 (n := (i : Int) + 1) (by omega) (by omega)]
        refine ih (pre ++ [x]) (i + 1) (by rw [e]; simp) (by simp [hi]) fun p hp => ?_
        rcases List.mem_append.1 hp with hp | hp
        · exact hno p hp
        · rw [List.mem_singleton.1 hp]; exact hne
      show herdsmanref18_Lru_Find.s2 Q (herdsmanref18_Lru_Find.b2 Q (post.length + 1)) _ _ _ _ _
      unfold herdsmanref18_Lru_Find.s2
      refine wA_some ?_
      refine Sep.LdS s (i := 0) rfl rfl rfl ?_
      rw [decide_eq_true (by omega), cond_true]
      refine wA_some ?_
      refine Sep.LdS s (i := 0) rfl rfl rfl ?_
      refine hA.El rfl (by omega) fun pp y hy hc => ?_
      rw [hx0] at hy
      cases hy
      have c0 := hc 0 _ rfl
      rw [add_zero] at c0
      refine LdI_cell c0 ?_
      by_cases h1 : x.1.1 = key.1
      · rw [show (x.1.1 == key.1) = true by rw [beq_iff_eq]; exact h1, cond_true]
        refine wA_some ?_
        refine Sep.LdS s (i := 0) rfl rfl rfl ?_
        refine hA.El rfl (by omega) fun pp y hy hc => ?_
        rw [hx0] at hy
        cases hy
        refine LdI_cell (hc 1 _ rfl) ?_
        by_cases h2 : x.1.2 = key.2
        · rw [show (x.1.2 == key.2) = true by rw [beq_iff_eq]; exact h2, cond_true]
          refine wA_some ?_
          refine Sep.LdS s (i := 0) rfl rfl rfl ?_
          refine hA.El rfl (by omega) fun pp y hy hc => ?_
          rw [hx0] at hy
          cases hy
          refine LdI_cell (hc 2 _ rfl) ?_
          have e1 : x.1 = key := Prod.ext h1 h2
          unfold findP at h
          rw [e, List.find?_append, List.find?_eq_none.2 (fun p hp => by simpa using hno p hp), List.find?_cons_of_pos (by simpa using e1)] at h
          exact h
        · rw [show (x.1.2 == key.2) = false by rw [beq_eq_false_iff_ne]; exact h2, cond_false]
          exact next fun e => h2 (by rw [e])
      · rw [show (x.1.1 == key.1) = false by rw [beq_eq_false_iff_ne]; exact h1, cond_false]
        exact next fun e => h1 (by rw [e])
  exact ⟨l.length + 1, loop l [] 0 rfl rfl (by simp)⟩
theorem ref_free.spec {Q : Int → World → Prop} (s : Sep F W w (blkA q 38 [.int .i64 k, .slice ra rn rc] :: rowA ra rn rc 56 3 (flat entc l) :: L)) (hl : l.length ≤ 1000) (hg : Good k l) (h : Q (l.length : Nat) w) : herdsmanref18_Lru_free.call (some ⟨q, 0, none⟩) w Q := by
  refine herdsmanref18_Lru_free.body _ _ _ ?_
  unfold herdsmanref18_Lru_free.sh
  have hA := Sep.sl s (i := 1) rfl entc_len (by decide)
  have hlen := hA.len
  have inner : ∀ (P3 : Option Addr → Int → World → Prop) (s0 : Nat), s0 ≤ 1000 → ((∀ p ∈ l, p.2 ≠ s0) → Q s0 w) → ((∃ p ∈ l, p.2 = s0) → P3 (some ⟨q, 0, none⟩) ((s0 + 1 : Nat) : Int) w) →
      ∀ (post pre : KS) (i : Nat) (is : Bool), l = pre ++ post → i = pre.length → is = decide (∀ p ∈ pre, p.2 ≠ s0) → herdsmanref18_Lru_free.b5 P3 Q (post.length + 1) (some ⟨q, 0, none⟩) s0 is i w := by
    intro P3 s0 hs0 hq hp post
    induction post with
    | nil =>
      intro pre i is e hi his
      rw [List.append_nil] at e
      subst e
      show herdsmanref18_Lru_free.s5 P3 Q (herdsmanref18_Lru_free.b5 P3 Q 0) _ _ _ _ _
      unfold herdsmanref18_Lru_free.s5
      refine wA_some ?_
      refine Sep.LdS s (i := 0) rfl rfl rfl ?_
      rw [decide_eq_false (by omega), cond_false, his]
      by_cases hall : ∀ p ∈ l, p.2 ≠ s0
      · rw [decide_eq_true hall, cond_true]
        exact hq hall
      · rw [decide_eq_false hall, cond_false, wrap_i64 (n := (s0 : Int) + 1) (by omega) (by omega)]
        refine hp ?_
        simpa using hall
    | cons x post ih =>
      intro pre i is e hi his
      have hll := congrArg List.length e
      rw [List.length_append, List.length_cons] at hll
      have hx0 : l[i]? = some x := by rw [e, hi]; simp
      show herdsmanref18_Lru_free.s5 P3 Q (herdsmanref18_Lru_free.b5 P3 Q (post.length + 1)) _ _ _ _ _
      unfold herdsmanref18_Lru_free.s5
      refine wA_some ?_
      refine Sep.LdS s (i := 0) rfl rfl rfl ?_
      rw [decide_eq_true (by omega), cond_true, wrap_i64 (n := (i : Int) + 1) (by omega) (by omega)]
      cases is with
      | true =>
        rw [cond_true]
        refine wA_some ?_
        refine Sep.LdS s (i := 0) rfl rfl rfl ?_
        refine hA.El rfl (by omega) fun pp y hy hc => ?_
        rw [hx0] at hy
        cases hy
        refine LdI_cell (hc 2 _ rfl) ?_
        refine ih (pre ++ [x]) (i + 1) _ (by rw [e]; simp) (by simp [hi]) ?_
        have h1 := of_decide_eq_true his.symm
        rw [Bool.eq_iff_iff, bne_iff_ne, decide_eq_true_eq]
        constructor
        · intro hne p hp
          rcases List.mem_append.1 hp with hp | hp
          · exact h1 p hp
          · rw [List.mem_singleton.1 hp]; omega
        · intro hall
          have := hall x (by simp)
          omega
      | false =>
        rw [cond_false]
        refine ih (pre ++ [x]) (i + 1) _ (by rw [e]; simp) (by simp [hi]) ?_
        have h1 := of_decide_eq_false his.symm
        symm
        refine decide_eq_false fun hall => h1 fun p hp => hall p (by simp [hp])
  have outer : ∀ (m s0 : Nat), s0 + m = l.length → herdsmanref18_Lru_free.b3 Q (m + 1) (some ⟨q, 0, none⟩) s0 w := by
    intro m
    induction m with
    | zero =>
      intro s0 hs
      show herdsmanref18_Lru_free.s3 Q (herdsmanref18_Lru_free.b3 Q 0) _ _ _
      unfold herdsmanref18_Lru_free.s3
      refine ⟨l.length + 1, inner _ s0 (by omega) (fun _ => ?_) (fun hex => ?_) l [] 0 true rfl rfl (by simp)⟩
      · obtain rfl : s0 = l.length := by omega
        exact h
      · obtain ⟨p, hp, e⟩ := hex
        have := hg.lt p hp
        omega
    | succ m ih =>
      intro s0 hs
      show herdsmanref18_Lru_free.s3 Q (herdsmanref18_Lru_free.b3 Q (m + 1)) _ _ _
      unfold herdsmanref18_Lru_free.s3
      refine ⟨l.length + 1, inner _ s0 (by omega) (fun hall => ?_) (fun _ => ih (s0 + 1) (by omega)) l [] 0 true rfl rfl (by simp)⟩
      obtain ⟨p, hp, e⟩ := all_slots hg (m := s0) (by omega)
      exact (hall p hp e).elim
  have := outer l.length 0 (by omega)
  exact ⟨l.length + 1, this⟩
end
end Go.Proofs.Ytfkpabfamfeggaa.S
