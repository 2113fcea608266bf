/- Layer 18: LruSlots answers true. -/
import Derived.Test.YtfkpabfamfeggaaUE
set_option linter.unusedVariables false
set_option linter.unusedSimpArgs false
namespace Go.Proofs.Ytfkpabfamfeggaa.S
open Go.Sx
open Go.Maps (Keyed)
theorem findP_mem {l : KS} (hnd : (l.map (·.1)).Nodup) {p : (Int × Int) × Nat} (hp : p ∈ l) : findP l p.1 = p.2 := by
  unfold findP
  rw [find_of_mem hnd hp]
theorem findP_no {l : KS} {key : Int × Int} (h : ∀ p ∈ l, p.1 ≠ key) : findP l key = -1 := by
  unfold findP
  rw [List.find?_eq_none.2 fun p hp => by simpa using h p hp]
theorem findP_cases (l : KS) (key : Int × Int) : (∃ p ∈ l, p.1 = key) ∨ (∀ p ∈ l, p.1 ≠ key) := by
  by_cases h : ∃ p ∈ l, p.1 = key
  · exact .inl h
  · exact .inr fun p hp e => h ⟨p, hp, e⟩
theorem slot_uniq {l : KS} (h : (l.map (·.2)).Nodup) {p q : (Int × Int) × Nat} (hp : p ∈ l) (hq : q ∈ l) (e : p.2 = q.2) : p = q := by
  induction l with
  | nil => cases hp
  | cons x l ih =>
    rw [List.map_cons, List.nodup_cons] at h
    rcases List.mem_cons.1 hp with e1 | hp' <;> rcases List.mem_cons.1 hq with e2 | hq'
    · rw [e1, e2]
    · exact (h.1 (List.mem_map.2 ⟨q, hq', by rw [← e, e1]⟩)).elim
    · exact (h.1 (List.mem_map.2 ⟨p, hp', by rw [e, e2]⟩)).elim
    · exact ih h.2 hp' hq'
/-- What a use does, in words of who is there. -/
structure Used (l l' : KS) (key : Int × Int) (k : Int) (s : Int) (had out : Bool) : Prop where
  good : Good k l'
  slot : ∃ m : Nat, s = m ∧ (key, m) ∈ l'
  hadE : had = decide (findP l key ≥ 0)
  hit : had = true → s = findP l key ∧ out = false
  mem : ∀ p : (Int × Int) × Nat, p.1 ≠ key → (p ∈ l' ↔ p ∈ l ∧ (out = true → (p.2 : Int) ≠ s))
  off : ∀ p ∈ l, p.1 ≠ key → (p.2 : Int) = s → out = true
theorem used {k : Int} {l : KS} {key : Int × Int} (hk : 1 ≤ k) (h : Good k l) : Used l (useP k l key).2 key k (useP k l key).1.1 (useP k l key).1.2.1 (useP k l key).1.2.2 := by
  have hg := good_use (key := key) hk h
  unfold useP at hg ⊢
  cases hf : l.find? (fun p => decide (p.1 = key)) with
  | some q =>
    rw [hf] at hg
    obtain ⟨rfl, hq⟩ := find_some hf
    simp only at hg ⊢
    have hfq := findP_mem h.knd hq
    refine ⟨hg, ⟨q.2, rfl, List.mem_cons_self⟩, by rw [hfq, decide_eq_true (by omega)], fun _ => ⟨hfq.symm, rfl⟩, fun p hp => ?_, fun p hp hne e => ?_⟩
    · rw [List.mem_cons, List.mem_filter]
      constructor
      · rintro (e | ⟨h1, _⟩)
        · exact (hp (by rw [e])).elim
        · exact ⟨h1, fun h => by cases h⟩
      · rintro ⟨h1, _⟩
        exact .inr ⟨h1, by simp [hp]⟩
    · exact (hne (by rw [slot_uniq h.nd hp hq (by omega)])).elim
  | none =>
    have hn := find_none hf
    have hfn := findP_no hn
    rw [hf] at hg
    simp only at hg ⊢
    by_cases hroom : (l.length : Int) < k
    · rw [if_pos hroom] at hg ⊢
      refine ⟨hg, ⟨l.length, rfl, List.mem_cons_self⟩, by rw [hfn]; rfl, (fun h => by cases h), fun p hp => ?_, fun p hp hne e => ?_⟩
      · rw [List.mem_cons]
        constructor
        · rintro (e | h1)
          · exact (hp (by rw [e])).elim
          · exact ⟨h1, fun h => by cases h⟩
        · rintro ⟨h1, _⟩
          exact .inr h1
      · have := h.lt p hp
        have e : (p.2 : Int) = (l.length : Int) := e
        omega
    · rw [if_neg hroom] at hg ⊢
      have hne : l ≠ [] := fun e => by rw [e] at hroom; simp at hroom; omega
      obtain ⟨ys, q, rfl⟩ : ∃ ys q, l = ys ++ [q] := ⟨l.dropLast, l.getLast hne, (List.dropLast_concat_getLast hne).symm⟩
      rw [List.getLast?_concat, List.dropLast_concat] at hg ⊢
      simp only at hg ⊢
      refine ⟨hg, ⟨q.2, rfl, List.mem_cons_self⟩, by rw [hfn]; rfl, (fun h => by cases h), fun p hp => ?_, fun p hp hne e => rfl⟩
      rw [List.mem_cons]
      constructor
      · rintro (e | h1)
        · exact (hp (by rw [e])).elim
        · refine ⟨by simp [h1], fun _ e => ?_⟩
          have e1 := slot_uniq h.nd (p := p) (q := q) (by simp [h1]) (by simp) (by omega)
          subst e1
          have := h.knd
          rw [List.map_append, List.nodup_append] at this
          exact this.2.2 p.1 (List.mem_map.2 ⟨p, h1, rfl⟩) p.1 (by simp) rfl
      · rintro ⟨h1, h2⟩
        rcases List.mem_append.1 h1 with h1 | h1
        · exact .inr h1
        · rw [List.mem_singleton.1 h1] at h2
          exact (h2 rfl rfl).elim
theorem used_find {k : Int} {l l' : KS} {key key' : Int × Int} {s : Int} {had out : Bool} (h : Good k l) (u : Used l l' key k s had out) (hne : key' ≠ key) :
    (findP l key' = s → out = true ∧ findP l' key' = -1) ∧ findP l' key' = if findP l key' = s then -1 else findP l key' := by
  obtain ⟨m, hm, hms⟩ := u.slot
  rcases findP_cases l key' with ⟨p, hp, rfl⟩ | hno
  · have e1 := findP_mem h.knd hp
    rw [e1]
    by_cases e : (p.2 : Int) = s
    · have ho := u.off p hp hne e
      have hn : findP l' p.1 = -1 := findP_no fun p' hp' e' => by
        obtain ⟨h1, h2⟩ := (u.mem p' (by rw [e']; exact hne)).1 hp'
        have := key_uniq h.knd h1 hp e'
        subst this
        exact h2 ho e
      exact ⟨fun _ => ⟨ho, hn⟩, by rw [if_pos e]; exact hn⟩
    · refine ⟨fun h => (e h).elim, ?_⟩
      rw [if_neg e]
      exact findP_mem u.good.knd ((u.mem p hne).2 ⟨hp, fun _ => e⟩)
  · have e1 := findP_no hno
    rw [e1]
    have hn : findP l' key' = -1 := findP_no fun p' hp' e' => hno p' ((u.mem p' (by rw [e']; exact hne)).1 hp').1 e'
    refine ⟨fun e => by omega, ?_⟩
    rw [if_neg (by omega)]
    exact hn
/-- All keys are few numbers. -/
def FewK (l : KS) : Prop := ∀ p ∈ l, ∃ j : Nat, j < 12 ∧ p.1 = ((j : Int), 1)
theorem few_use {k : Int} {l l' : KS} {a : Nat} {s : Int} {had out : Bool} (ha : a < 12) (h : FewK l) (u : Used l l' ((a : Int), 1) k s had out) : FewK l' := fun p hp => by
  by_cases e : p.1 = ((a : Int), 1)
  · exact ⟨a, ha, e⟩
  · exact h p ((u.mem p e).1 hp).1
theorem few_count {k : Int} {l : KS} (hg : Good k l) (h : FewK l) : (List.range 12).countP (fun j : Nat => decide (0 ≤ findP l ((j : Int), 1))) = l.length := by
  have hp : ((List.range 12).filter (fun j : Nat => decide (0 ≤ findP l ((j : Int), 1)))).Perm (l.map fun p => p.1.1.toNat) := by
    refine (List.perm_ext_iff_of_nodup (List.nodup_range.filter _) ?_).2 fun j => ?_
    · rw [List.nodup_iff_pairwise_ne, List.pairwise_map]
      have := hg.knd
      rw [List.nodup_iff_pairwise_ne, List.pairwise_map] at this
      refine this.imp_of_mem fun {p q} hp hq hne e => hne ?_
      obtain ⟨i, _, e1⟩ := h p hp
      obtain ⟨j, _, e2⟩ := h q hq
      rw [e1, e2] at e ⊢
      simp at e
      rw [e]
    · rw [List.mem_filter, List.mem_range, decide_eq_true_eq, List.mem_map]
      constructor
      · rintro ⟨h1, h2⟩
        rcases findP_cases l ((j : Int), 1) with ⟨p, hp, e⟩ | hno
        · exact ⟨p, hp, by rw [e]; simp⟩
        · rw [findP_no hno] at h2; omega
      · rintro ⟨p, hp, rfl⟩
        obtain ⟨j, hj, e⟩ := h p hp
        have := findP_mem hg.knd hp
        rw [e] at this ⊢
        simp only [Int.toNat_natCast]
        exact ⟨hj, by rw [this]; omega⟩
  rw [List.countP_eq_length_filter, hp.length_eq, List.length_map]
theorem zc44 : zc T 44 = (List.replicate 12 0).map (.int .i64) := rfl
attribute [local irreducible] LdI LdB LdStr LdP LdS LdM LdV St Bx Al App Cpy MkS MkM EqK RunK RunU CallK SlK blkA rowA joinA mapA
section
variable {W w : World} {L : List As} {Q : Bool → World → Prop} {p sb : Nat} {n : Nat} {la : Option Addr} {ln lc : Nat} {xs : List Int} {l l' : KS} {r : LruR} {sl : List Int}
/-- The twelve cells. -/
def tw (sb : Nat) (sl : List Int) : As := blkA sb 44 (sl.map (.int .i64))
theorem tw_ld {t : Int} {j : Nat} {K : Int → Prop} {i : Nat} (s : Sep No W w L) (hi : L[i]? = some (tw sb sl)) (ht : t = j) (hj : j < 12) (hl : sl.length = 12) (h : K (gi sl j)) : InB t 12 (LdI .i64 ((⟨sb, 0, none⟩ : Addr).add (t.toNat * 1)) w K) := by
  subst ht
  refine ⟨by omega, by omega, ?_⟩
  refine Sep.LdI s (j := j) (by rw [add_flat]; congr 1; omega) hi ?_ h
  rw [List.getElem?_map, gi_get (by omega)]
  rfl
theorem tw_st {t : Int} {j : Nat} {v : Int} {K : World → Prop} (s : Sep No W w (tw sb sl :: L)) (ht : t = j) (hj : j < 12) (hl : sl.length = 12) (h : ∀ w', Sep No W w' (tw sb (sl.set j v) :: L) → K w') : InB t 12 (St ((⟨sb, 0, none⟩ : Addr).add (t.toNat * 1)) (.int .i64 v) w K) := by
  subst ht
  refine ⟨by omega, by omega, ?_⟩
  refine Sep.St s (i := 0) (j := j) (by rw [add_flat]; congr 1; omega) rfl (by rw [Nat.blt_eq, List.length_map]; omega) fun w' s' => h w' ?_
  simp only [List.set_cons_zero] at s'
  unfold tw
  rw [List.map_set]
  exact s'
theorem wfj {j : Nat} (h : j < 12) : WfK ((j : Int), 1) := ⟨wf_small (by show -1000000 ≤ (j : Int) ∧ _; omega), rfl⟩
theorem Slots_b29 {P12 : Option Addr → Nat → Nat → Int → Option Addr → Addr → Int → World → Prop} {i : Nat} (hl : sl.length = 12) (hg : Good n l) (hf : FewK l) (hsl : ∀ j, j < 12 → gi sl j = findP l ((j : Int), 1)) (hi : i ≤ 1000)
    (next : ∀ w', Sep No W w' [tw sb sl, lruA p n l r] → P12 la ln lc n (some ⟨p, 0, none⟩) ⟨sb, 0, none⟩ ((i + 1 : Nat) : Int) w') :
    ∀ (m j : Nat) (w : World), j + m = 12 → Sep No W w [tw sb sl, lruA p n l r] →
      herdsmanlaw18_LruSlots.b29 P12 Q (m + 1) la ln lc n (some ⟨p, 0, none⟩) ⟨sb, 0, none⟩ i ((List.range j).countP (fun j : Nat => decide (0 ≤ findP l ((j : Int), 1))) : Nat) j w := by
  intro m
  induction m with
  | zero =>
    intro j w hj s
    obtain rfl : j = 12 := by omega
    show herdsmanlaw18_LruSlots.s29 P12 Q (herdsmanlaw18_LruSlots.b29 P12 Q 0) _ _ _ _ _ _ _ _ _ _
    unfold herdsmanlaw18_LruSlots.s29
    rw [decide_eq_false (by decide), cond_false, few_count hg hf]
    have s' := Sep.perm s (List.Perm.swap ..)
    refine Len.spec s' ?_
    rw [bne_self_eq_false, cond_false, decide_eq_false (by have := hg.room; omega), cond_false, wrap_i64 (n := (i : Int) + 1) (by omega) (by omega)]
    exact next _ s
  | succ m ih =>
    intro j w hj s
    show herdsmanlaw18_LruSlots.s29 P12 Q (herdsmanlaw18_LruSlots.b29 P12 Q (m + 1)) _ _ _ _ _ _ _ _ _ _
    unfold herdsmanlaw18_LruSlots.s29
    rw [decide_eq_true (by omega), cond_true]
    have s := Sep.drew s
    obtain ⟨_, _, c0⟩ := tw_ld (K := fun x => x = gi sl j) (t := j) s (i := 0) rfl rfl (by omega) hl rfl
    refine ⟨by omega, by omega, ?_⟩
    have hx := LdI_get c0
    refine LdI_cell hx ?_
    have s' := Sep.perm s (List.Perm.swap ..)
    refine Find.spec (key := ((j : Int), 1)) s' (wfj (by omega)) ?_
    refine ⟨hx, ?_⟩
    rw [hsl j (by omega), bne_self_eq_false, cond_false]
    have hcount : ((List.range (j + 1)).countP (fun j : Nat => decide (0 ≤ findP l ((j : Int), 1)))) = ((List.range j).countP (fun j : Nat => decide (0 ≤ findP l ((j : Int), 1)))) + (if decide (0 ≤ findP l ((j : Int), 1)) = true then 1 else 0) := by
      rw [List.range_succ, List.countP_append, List.countP_singleton]
    have hle : ((List.range j).countP (fun j : Nat => decide (0 ≤ findP l ((j : Int), 1)))) ≤ j := by
      have := List.countP_le_length (p := fun j : Nat => decide (0 ≤ findP l ((j : Int), 1))) (l := List.range j)
      rwa [List.length_range] at this
    have := ih (j + 1) _ (by omega) s
    rw [hcount] at this
    refine tw_ld (j := j) s (i := 0) rfl rfl (by omega) hl ?_
    rw [hsl j (by omega), wrap_i64 (n := (j : Int) + 1) (by omega) (by omega), wrap_i64 (n := ((List.range j).countP (fun j : Nat => decide (0 ≤ findP l ((j : Int), 1))) : Int) + 1) (by omega) (by omega)]
    by_cases h0 : findP l ((j : Int), 1) ≥ 0
    · rw [decide_eq_true h0, cond_true]
      rw [if_pos (decide_eq_true h0)] at this
      exact this
    · rw [decide_eq_false h0, cond_false]
      rw [if_neg (by simpa using h0)] at this
      exact this
/-- The cells behind the j first ones are looked through. -/
def fixI (sl : List Int) (a j : Nat) (s : Int) : List Int := (List.range 12).map fun i => if i < j ∧ i ≠ a ∧ gi sl i = s then -1 else gi sl i
theorem fixI_len {sl : List Int} {a j : Nat} {s : Int} : (fixI sl a j s).length = 12 := by simp [fixI]
theorem fixI_at {sl : List Int} {a j i : Nat} {s : Int} (h : i < 12) : gi (fixI sl a j s) i = if i < j ∧ i ≠ a ∧ gi sl i = s then -1 else gi sl i := by
  unfold fixI
  rw [gi, List.getD_eq_getElem?_getD, List.getElem?_map, List.getElem?_range h]
  rfl
theorem fixI_0 {sl : List Int} {a : Nat} {s : Int} (h : sl.length = 12) : fixI sl a 0 s = sl := by
  refine gi_ext (by rw [fixI_len, h]) fun i hi => ?_
  rw [fixI_len] at hi
  rw [fixI_at hi, if_neg (by omega)]
theorem Slots_b19 {P12 : Option Addr → Nat → Nat → Int → Option Addr → Addr → Int → World → Prop} {i a : Nat} {s0 : Int} {had out : Bool} (hl : sl.length = 12) (ha : a < 12) (hg : Good n l) (hf : FewK l) (u : Used l l' ((a : Int), 1) n s0 had out)
    (hsl : ∀ j, j < 12 → gi sl j = findP l ((j : Int), 1)) (hi : i ≤ 1000)
    (next : ∀ (sl' : List Int) w', sl'.length = 12 → (∀ j, j < 12 → gi sl' j = findP l' ((j : Int), 1)) → Sep No W w' [tw sb sl', lruA p n l' r] → P12 la ln lc n (some ⟨p, 0, none⟩) ⟨sb, 0, none⟩ ((i + 1 : Nat) : Int) w') :
    ∀ (m j : Nat) (w : World), j + m = 12 → Sep No W w [tw sb (fixI sl a j s0), lruA p n l' r] →
      herdsmanlaw18_LruSlots.b19 P12 Q (m + 1) la ln lc n (some ⟨p, 0, none⟩) ⟨sb, 0, none⟩ i a s0 out j w := by
  have key : ∀ j : Nat, j ≠ a → (((j : Int), 1) : Int × Int) ≠ ((a : Int), 1) := fun j h e => h (by have := congrArg Prod.fst e; simp at this; omega)
  intro m
  induction m with
  | zero =>
    intro j w hj s
    obtain rfl : j = 12 := by omega
    show herdsmanlaw18_LruSlots.s19 P12 Q (herdsmanlaw18_LruSlots.b19 P12 Q 0) _ _ _ _ _ _ _ _ _ _ _ _
    unfold herdsmanlaw18_LruSlots.s19
    rw [decide_eq_false (by decide), cond_false]
    refine tw_st s rfl ha fixI_len fun w s => ?_
    have hl2 : ((fixI sl a 12 s0).set a s0).length = 12 := by rw [List.length_set, fixI_len]
    have hsl2 : ∀ j, j < 12 → gi ((fixI sl a 12 s0).set a s0) j = findP l' ((j : Int), 1) := by
      intro j hj
      rw [gi_set (by rw [fixI_len]; exact ha)]
      by_cases e : j = a
      · subst e
        rw [if_pos rfl]
        obtain ⟨m, rfl, hm⟩ := u.slot
        exact (findP_mem u.good.knd hm).symm
      · rw [if_neg e, fixI_at hj, (used_find hg u (key j e)).2, hsl j hj]
        by_cases e2 : findP l ((j : Int), 1) = s0
        · rw [if_pos ⟨hj, e, e2⟩, if_pos e2]
        · rw [if_neg (fun h => e2 h.2.2), if_neg e2]
    have := Slots_b29 (P12 := P12) (Q := Q) hl2 u.good (few_use ha hf u) hsl2 hi (fun w s => next _ w hl2 hsl2 s) 12 0 w rfl s
    exact ⟨13, this⟩
  | succ m ih =>
    intro j w hj s
    show herdsmanlaw18_LruSlots.s19 P12 Q (herdsmanlaw18_LruSlots.b19 P12 Q (m + 1)) _ _ _ _ _ _ _ _ _ _ _ _
    unfold herdsmanlaw18_LruSlots.s19
    rw [decide_eq_true (by omega), cond_true, wrap_i64 (n := (j : Int) + 1) (by omega) (by omega)]
    have same : (j = a ∨ gi sl j ≠ s0) → fixI sl a (j + 1) s0 = fixI sl a j s0 := fun h => by
      refine gi_ext (by rw [fixI_len, fixI_len]) fun i hi => ?_
      rw [fixI_len] at hi
      rw [fixI_at hi, fixI_at hi]
      by_cases e : i = j
      · subst e
        rw [if_neg (fun h' => by rcases h with h | h; exact h'.2.1 h; exact h h'.2.2), if_neg (by omega)]
      · have : (i < j + 1 ∧ i ≠ a ∧ gi sl i = s0) ↔ (i < j ∧ i ≠ a ∧ gi sl i = s0) := by constructor <;> rintro ⟨h1, h2, h3⟩ <;> exact ⟨by omega, h2, h3⟩
        by_cases h5 : i < j ∧ i ≠ a ∧ gi sl i = s0
        · rw [if_pos h5, if_pos (this.2 h5)]
        · rw [if_neg h5, if_neg (fun h6 => h5 (this.1 h6))]
    by_cases hja : j = a
    · rw [show ((j : Int) != (a : Int)) = false by rw [bne_eq_false_iff_eq]; omega, cond_false]
      refine ih (j + 1) w (by omega) ?_
      rw [same (.inl hja)]
      exact s
    · rw [show ((j : Int) != (a : Int)) = true by rw [bne_iff_ne]; omega, cond_true]
      refine tw_ld (j := j) s (i := 0) rfl rfl (by omega) fixI_len ?_
      rw [fixI_at (by omega), if_neg (by omega)]
      by_cases he : gi sl j = s0
      · obtain ⟨ho, hn⟩ := (used_find hg u (key j hja)).1 (by rw [← hsl j (by omega)]; exact he)
        rw [show (gi sl j == s0) = true by rw [beq_iff_eq]; exact he, cond_true, ho, Bool.not_true, cond_false]
        have s' := Sep.perm s (List.Perm.swap ..)
        refine Find.spec (key := ((j : Int), 1)) s' (wfj (by omega)) ?_
        rw [hn, bne_self_eq_false, cond_false]
        refine tw_st s rfl (by omega) fixI_len fun w s => ?_
        subst ho
        refine ih (j + 1) w (by omega) ?_
        have e : (fixI sl a j s0).set j (-1) = fixI sl a (j + 1) s0 := by
          refine gi_ext (by rw [List.length_set, fixI_len, fixI_len]) fun i hi => ?_
          rw [List.length_set, fixI_len] at hi
          rw [gi_set (by rw [fixI_len]; omega), fixI_at hi, fixI_at hi]
          by_cases e : i = j
          · subst e
            rw [if_pos rfl, if_pos ⟨by omega, hja, he⟩]
          · rw [if_neg e]
            have : (i < j + 1 ∧ i ≠ a ∧ gi sl i = s0) ↔ (i < j ∧ i ≠ a ∧ gi sl i = s0) := by constructor <;> rintro ⟨h1, h2, h3⟩ <;> exact ⟨by omega, h2, h3⟩
            by_cases h5 : i < j ∧ i ≠ a ∧ gi sl i = s0
            · rw [if_pos h5, if_pos (this.2 h5)]
            · rw [if_neg h5, if_neg (fun h6 => h5 (this.1 h6))]
        rw [← e]
        exact s
      · rw [show (gi sl j == s0) = false by rw [beq_eq_false_iff_ne]; exact he, cond_false]
        refine ih (j + 1) w (by omega) ?_
        rw [same (.inr he)]
        exact s
theorem Slots_b12 (hA : Sl W la ln lc 1 one xs) (hn : 1 ≤ n ∧ n ≤ 9) (hQ : ∀ w', Sep No W w' [] → Q true w') :
    ∀ (m i : Nat) (sl : List Int) (l : KS) (r : LruR) (w : World), i + m = 60 → sl.length = 12 → FewK l → (∀ j, j < 12 → gi sl j = findP l ((j : Int), 1)) → Sep No W w [tw sb sl, lruA p n l r] →
      herdsmanlaw18_LruSlots.b12 Q (m + 1) la ln lc n (some ⟨p, 0, none⟩) ⟨sb, 0, none⟩ i w := by
  have stop : ∀ R (i : Nat) (sl : List Int) (l : KS) (r : LruR) (w : World), ¬ (i < ln ∧ i < 60) → Sep No W w [tw sb sl, lruA p n l r] → herdsmanlaw18_LruSlots.s12 Q R la ln lc n (some ⟨p, 0, none⟩) ⟨sb, 0, none⟩ i w := by
    intro R i sl l r w hn s
    unfold herdsmanlaw18_LruSlots.s12
    by_cases h1 : i < ln
    · rw [decide_eq_true (by omega), cond_true, decide_eq_false (by omega), cond_false]
      exact told.spec s fun w s _ => hQ _ (Sep.pick [] s rfl (by decide))
    · rw [decide_eq_false (by omega), cond_false]
      exact told.spec s fun w s _ => hQ _ (Sep.pick [] s rfl (by decide))
  intro m
  induction m with
  | zero =>
    intro i sl l r w hi hl hf hsl s
    exact stop _ i sl l r w (by omega) s
  | succ m ih =>
    intro i sl l r w hi hl hf hsl s
    show herdsmanlaw18_LruSlots.s12 Q (herdsmanlaw18_LruSlots.b12 Q (m + 1)) _ _ _ _ _ _ _ _
    by_cases hgo : i < ln ∧ i < 60
    · unfold herdsmanlaw18_LruSlots.s12
      rw [decide_eq_true (by omega), cond_true, decide_eq_true (by omega), cond_true]
      refine Sl.rd1 (hA.fr (sep_fr s)) rfl hgo.1 ?_
      refine herdsmanref1_Within.spec (by decide) (by decide) (by decide) ?_
      have r1 := within_range (n := gi xs i) (lo := 0) (hi := 11) (by decide)
      generalize (0 + gi xs i % (11 - 0 + 1)) = a0 at r1
      obtain ⟨a, rfl⟩ : ∃ a : Nat, a0 = a := ⟨a0.toNat, by omega⟩
      have ha : a < 12 := by omega
      have s := Sep.perm s (List.Perm.swap ..)
      have hg := (lru_open s).1.good
      have hroom := hg.room
      refine Use.spec (key := ((a : Int), 1)) s (wfj ha) (by omega) fun r w s => ?_
      have u := used (key := ((a : Int), 1)) (by omega) hg
      generalize (useP n l ((a : Int), 1)).1.1 = s0 at u ⊢
      generalize (useP n l ((a : Int), 1)).1.2.1 = had at u ⊢
      generalize (useP n l ((a : Int), 1)).1.2.2 = out at u ⊢
      generalize (useP n l ((a : Int), 1)).2 = l' at u s
      have s := Sep.perm s (List.Perm.swap ..)
      obtain ⟨m0, hm0, hms⟩ := u.slot
      have hlt := u.good.lt _ hms
      have hroom' := u.good.room
      have hlt : m0 < l'.length := hlt
      rw [decide_eq_false (by omega), cond_false, decide_eq_false (by omega), cond_false]
      have next : ∃ k', herdsmanlaw18_LruSlots.b19 (herdsmanlaw18_LruSlots.b12 Q (m + 1)) Q k' la ln lc n (some ⟨p, 0, none⟩) ⟨sb, 0, none⟩ i a s0 out 0 w := by
        refine ⟨13, Slots_b19 (W := W) (r := r) hl ha hg hf u hsl (by omega) (fun sl' w' h1 h2 s => ?_) 12 0 w rfl ?_⟩
        · exact ih (i + 1) sl' l' r w' (by omega) h1 (few_use ha hf u) h2 s
        · rw [fixI_0 hl]; exact s
      refine tw_ld (j := a) s (i := 0) rfl rfl ha hl ?_
      rw [hsl a ha, u.hadE, beq_self_eq_true, Bool.not_true, cond_false]
      cases hh : decide (findP l ((a : Int), 1) ≥ 0) with
      | true =>
        obtain ⟨e1, e2⟩ := u.hit (by rw [u.hadE]; exact hh)
        rw [cond_true]
        refine tw_ld (j := a) s (i := 0) rfl rfl ha hl ?_
        rw [hsl a ha, e1, bne_self_eq_false, cond_false, cond_true, e2, cond_false]
        rw [e1, e2] at next
        exact next
      | false =>
        rw [cond_false, cond_false]
        exact next
    · exact stop _ i sl l r w hgo s
theorem LruSlots.spec {k0 : Int} (hA : Sl W la ln lc 1 one xs) (hQ : ∀ w', Sep No W w' [] → Q true w') : herdsmanlaw18_LruSlots.call k0 la ln lc W Q := by
  refine herdsmanlaw18_LruSlots.body _ _ _ _ _ _ ?_
  unfold herdsmanlaw18_LruSlots.sh
  refine herdsmanref1_Within.spec (by decide) (by decide) (by decide) ?_
  have r1 := within_range (n := k0) (lo := 1) (hi := 9) (by decide)
  generalize (1 + k0 % (9 - 1 + 1)) = k at r1
  obtain ⟨n, rfl⟩ : ∃ n : Nat, k = n := ⟨k.toNat, by omega⟩
  refine New.spec (Sep.nil (F := No) (w := W)) (fun h => by omega) fun _ p r w s => ?_
  rw [show (some (⟨p, 0, none⟩ : Addr)).isNone = false from rfl, cond_false]
  refine Sep.Al s fun sb w s => ?_
  rw [zc44] at s
  have s : Sep No W w [tw sb (List.replicate 12 0), lruA p n [] r] := s
  have loop : ∀ (m j : Nat) (sl : List Int) (w : World), j + m = 12 → sl.length = 12 → (∀ i, i < j → gi sl i = -1) → Sep No W w [tw sb sl, lruA p n [] r] → herdsmanlaw18_LruSlots.b7 Q (m + 1) la ln lc n (some ⟨p, 0, none⟩) ⟨sb, 0, none⟩ j w := by
    intro m
    induction m with
    | zero =>
      intro j sl w hj hl hlow s
      show herdsmanlaw18_LruSlots.s7 Q (herdsmanlaw18_LruSlots.b7 Q 0) _ _ _ _ _ _ _ _
      unfold herdsmanlaw18_LruSlots.s7
      rw [decide_eq_false (by omega), cond_false]
      exact ⟨61, Slots_b12 hA (by omega) hQ 60 0 sl [] r w rfl hl (fun p hp => by cases hp) (fun i hi => by rw [hlow i (by omega)]; rfl) s⟩
    | succ m ih =>
      intro j sl w hj hl hlow s
      show herdsmanlaw18_LruSlots.s7 Q (herdsmanlaw18_LruSlots.b7 Q (m + 1)) _ _ _ _ _ _ _ _
      unfold herdsmanlaw18_LruSlots.s7
      rw [decide_eq_true (by omega), cond_true, wrap_i64 (n := (j : Int) + 1) (by omega) (by omega)]
      refine tw_st s rfl (by omega) hl fun w s => ?_
      refine ih (j + 1) _ w (by omega) (by rw [List.length_set, hl]) (fun i hi => ?_) s
      rw [gi_set (by omega)]
      by_cases e : i = j
      · rw [if_pos e]
      · rw [if_neg e]; exact hlow i (by omega)
  exact ⟨13, loop 12 0 _ w rfl (by simp) (fun i hi => by omega) s⟩
end
theorem LruSlots_law : LawOk P 5 [.int .i64, .sl 1 (.int .i64)] := by
  intro W args h
  obtain ⟨v0, r, rfl, h0, h⟩ := RdAll.cons h
  obtain ⟨v1, r, rfl, h1, h⟩ := RdAll.cons h
  obtain rfl := RdAll.nil h
  obtain ⟨x, rfl, hx⟩ := rdV_int h0
  obtain ⟨a, n, c, ks, rfl, k1, k2, k3, k4, k5⟩ := rdV_ints (k := .i64) (W := W) h1
  exact LruSlots.spec (Q := fun r W' => r = true ∧ Go.RowKit.Below W.heap.size W W') ⟨k4, k1, k3⟩ fun w' s => ⟨rfl, sep_below s⟩
end Go.Proofs.Ytfkpabfamfeggaa.S
