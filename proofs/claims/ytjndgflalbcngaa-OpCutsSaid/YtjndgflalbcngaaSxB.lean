/- The reading along a script is sound for every order that the machine may draw. -/
import Derived.Test.YtjndgflalbcngaaSxA
set_option linter.unusedVariables false
set_option linter.unusedSimpArgs false
namespace Go.Sx

theorem memN_iff {i : Nat} : ∀ {l : List Nat}, memN i l = true ↔ i ∈ l
  | [] => by simp [memN]
  | j :: l => by
    have ih := @memN_iff i l
    simp only [memN]
    cases hb : Nat.beq i j with
    | true => have := Nat.eq_of_beq_eq_true hb; simp [this]
    | false =>
      have hne : i ≠ j := fun e => by subst e; simp [Nat.beq_refl] at hb
      simp [ih, hne]
theorem edgesIn_iff {ex : List Nat} : ∀ {l : List Edge}, edgesIn ex l = true ↔ ∀ e ∈ l, Region.binds .any e = true → e.on ∈ ex
  | [] => by simp [edgesIn]
  | e :: l => by
    have ih := @edgesIn_iff ex l
    simp only [edgesIn]
    cases hb : Region.binds .any e with
    | true => simp [memN_iff, ih, hb]
    | false => simp [ih, hb]
theorem edgesDown_iff {i : Nat} : ∀ {l : List Edge}, edgesDown i l = true ↔ ∀ e ∈ l, Region.binds .any e = true → e.on < i
  | [] => by simp [edgesDown]
  | e :: l => by
    have ih := @edgesDown_iff i l
    simp only [edgesDown]
    cases hb : Region.binds .any e with
    | true => simp [ih, hb, Nat.blt_eq]
    | false => simp [ih, hb]
theorem closedB_spec {C : Cx} {ex hs : List Nat} : ∀ {l : List Oper} {k : Nat}, closedB C ex hs k l = true → ∀ j o, l[j]? = some o → (k + j) ∈ ex ∨ (¬ ∀ e ∈ o.after.toList, Region.binds .any e = true → e.on ∈ ex) ∨ (isQ C o = false ∧ (k + j) ∈ hs)
  | [], _, _, _, _, h => by simp at h
  | o :: l, k, h, 0, q, hq => by
    simp only [closedB, Bool.and_eq_true, Bool.or_eq_true] at h
    simp at hq
    subst hq
    rcases h.1 with (h1 | h1) | h1
    · exact .inl (by simpa [memN_iff] using h1)
    · refine .inr (.inl ?_)
      intro hall
      have := edgesIn_iff.2 hall
      simp [this] at h1
    · exact .inr (.inr ⟨by simpa using h1.1, by simpa [memN_iff] using h1.2⟩)
  | o :: l, k, h, j + 1, q, hq => by
    simp only [closedB, Bool.and_eq_true] at h
    have := closedB_spec h.2 j q (by simpa using hq)
    rwa [show k + (j + 1) = k + 1 + j by omega]
theorem allB_spec {ex : List Nat} : ∀ {l : List Oper} {k : Nat}, allB ex k l = true → ∀ j, j < l.length → (k + j) ∈ ex
  | [], _, _, _, h => by simp at h
  | o :: l, k, h, 0, _ => by
    simp only [allB, Bool.and_eq_true] at h
    simpa [memN_iff] using h.1
  | o :: l, k, h, j + 1, hj => by
    simp only [allB, Bool.and_eq_true] at h
    have := allB_spec h.2 j (by simpa using hj)
    rwa [show k + (j + 1) = k + 1 + j by omega]

/-! ### Whom an operation waits for -/
def Shut (all : List Oper) (L : Nat → Prop) : Prop := ∀ i o, all[i]? = some o → L i → ∀ e ∈ o.after.toList, Region.binds .any e = true → L e.on
def Good (all : List Oper) (m : List Nat) : Prop := ∀ i o, all[i]? = some o → ∀ j, anc m i j = true → ∀ L : Nat → Prop, Shut all L → (∀ e ∈ o.after.toList, Region.binds .any e = true → L e.on) → L j
theorem nthN_append (acc : List Nat) (x i : Nat) : nthN (acc ++ [x]) i = if i < acc.length then nthN acc i else if i = acc.length then x else 0 := by
  induction acc generalizing i with
  | nil => cases i <;> simp [nthN]
  | cons a acc ih =>
    cases i with
    | zero => simp [nthN]
    | succ i => simp [nthN, ih]
theorem maskE_spec {acc : List Nat} {j : Nat} : ∀ {l : List Edge}, (maskE acc l).testBit j = true → ∃ e ∈ l, Region.binds .any e = true ∧ (e.on = j ∨ (nthN acc e.on).testBit j = true)
  | [], h => by simp [maskE] at h
  | e :: l, h => by
    simp only [maskE] at h
    cases hb : Region.binds .any e with
    | true =>
      rw [hb] at h
      simp only [cond_true, Nat.testBit_or, Bool.or_eq_true] at h
      rcases h with (h | h) | h
      · refine ⟨e, by simp, hb, .inl ?_⟩
        rw [Nat.testBit_two_pow] at h
        simpa using h
      · exact ⟨e, by simp, hb, .inr h⟩
      · obtain ⟨e', h1, h2⟩ := maskE_spec h
        exact ⟨e', by simp [h1], h2⟩
    | false =>
      rw [hb] at h
      obtain ⟨e', h1, h2⟩ := maskE_spec h
      exact ⟨e', by simp [h1], h2⟩
theorem masks_good (all : List Oper) : ∀ (r : List Oper) (pre : List Oper) (acc : List Nat), all = pre ++ r → acc.length = pre.length →
    (∀ i o, pre[i]? = some o → ∀ j, anc acc i j = true → ∀ L : Nat → Prop, Shut all L → (∀ e ∈ o.after.toList, Region.binds .any e = true → L e.on) → L j) → (∀ i, pre.length ≤ i → ∀ j, anc acc i j = false) → Good all (masks r acc)
  | [], pre, acc, he, hl, hg, h0 => by
    intro i o hi
    simp only [masks]
    rw [he, List.append_nil] at hi
    exact hg i o hi
  | o :: r, pre, acc, he, hl, hg, h0 => by
    simp only [masks]
    refine masks_good all r (pre ++ [o]) _ (by rw [he]; simp) (by simp [hl]) ?_ ?_
    · intro i q hi j ha L hL hd
      have hat : ∀ i j, anc (acc ++ [maskE acc o.after.toList]) i j = if i < acc.length then anc acc i j else if i = acc.length then (maskE acc o.after.toList).testBit j else false := by
        intro i j
        unfold anc
        rw [nthN_append]
        split
        · rfl
        · split <;> simp
      rw [hat] at ha
      by_cases hlt : i < pre.length
      · rw [if_pos (by omega)] at ha
        rw [List.getElem?_append_left hlt] at hi
        exact hg i q hi j ha L hL hd
      · by_cases heq : i = pre.length
        · rw [if_neg (by omega), if_pos (by omega)] at ha
          subst heq
          simp at hi
          subst hi
          obtain ⟨e, h1, h2, h3⟩ := maskE_spec ha
          rcases h3 with rfl | h3
          · exact hd e h1 h2
          · have hLe := hd e h1 h2
            by_cases hlt' : e.on < pre.length
            · have hsome : ∃ q, pre[e.on]? = some q := ⟨pre[e.on], by simp [hlt']⟩
              obtain ⟨q, hq⟩ := hsome
              refine hg e.on q hq j h3 L hL (hL e.on q ?_ hLe)
              rw [he, List.getElem?_append_left hlt', hq]
            · have := h0 e.on (by omega) j
              unfold anc at this
              rw [this] at h3
              cases h3
        · rw [if_neg (by omega), if_neg (by omega)] at ha
          cases ha
    · intro i hi j
      unfold anc
      rw [nthN_append]
      simp at hi
      rw [if_neg (by omega), if_neg (by omega)]
      simp
theorem masks_ok (all : List Oper) : Good all (masks all []) :=
  masks_good all all [] [] rfl rfl (by intro i o h; simp at h) (by intro i _ j; simp [anc, nthN])

/-! ### Pairs of operations -/
structure Pairs (C : Cx) (all : List Oper) (m : List Nat) : Prop where
  down : ∀ (i : Nat) (o : Oper), all[i]? = some o → ∀ e ∈ o.after.toList, Region.binds .any e = true → e.on < i
  self : ∀ (i : Nat) (o : Oper), all[i]? = some o → isQ C o = true → ∀ d, o.dst = some d → d ∉ looks all o
  dst : ∀ (i : Nat) (o : Oper), all[i]? = some o → isQ C o = true → ∀ (j : Nat) (q : Oper), all[j]? = some q → i ≠ j → ∀ d, o.dst = some d → q.dst ≠ some d
  look : ∀ (i : Nat) (o : Oper), all[i]? = some o → isQ C o = true → ∀ (j : Nat) (q : Oper), all[j]? = some q → i ≠ j → ∀ d, o.dst = some d → d ∈ looks all q → anc m j i = true
  write : ∀ (i : Nat) (o : Oper), all[i]? = some o → isQ C o = true → ∀ (j : Nat) (q : Oper), all[j]? = some q → i ≠ j → ∀ e, q.dst = some e → e ∈ looks all o → anc m i j = true ∨ (anc m j i = true ∧ isQ C q = false)
theorem pairB_spec {C : Cx} {all : List Oper} {m : List Nat} {i : Nat} {o : Oper} : ∀ {l : List Oper} {k : Nat}, pairB C all m i o k l = true → ∀ j q, l[j]? = some q → i ≠ k + j →
    (∀ d, o.dst = some d → q.dst ≠ some d ∧ (d ∈ looks all q → anc m (k + j) i = true)) ∧ (∀ e, q.dst = some e → e ∈ looks all o → anc m i (k + j) = true ∨ (anc m (k + j) i = true ∧ isQ C q = false))
  | [], _, _, _, _, h => by simp at h
  | p :: l, k, h, 0, q, hq => by
    intro hne
    simp at hq
    subst hq
    simp only [pairB, Bool.and_eq_true, Bool.or_eq_true] at h
    rcases h.1 with h1 | ⟨h1, h2⟩
    · have := Nat.eq_of_beq_eq_true h1
      omega
    · refine ⟨?_, ?_⟩
      · intro d hd
        rw [hd] at h1
        simp only [Bool.and_eq_true, Bool.or_eq_true] at h1
        refine ⟨?_, fun hm => ?_⟩
        · intro hp
          have := h1.1
          rw [hp] at this
          simp [Nat.beq_refl] at this
        · rcases h1.2 with h3 | h3
          · rw [(memN_iff).2 hm] at h3; cases h3
          · simpa using h3
      · intro e he hm
        rw [he] at h2
        simp only [Bool.or_eq_true, Bool.and_eq_true] at h2
        rcases h2 with (h3 | h3) | h3
        · rw [(memN_iff).2 hm] at h3; cases h3
        · exact .inl (by simpa using h3)
        · exact .inr ⟨by simpa using h3.1, by simpa using h3.2⟩
  | p :: l, k, h, j + 1, q, hq => by
    intro hne
    simp only [pairB, Bool.and_eq_true] at h
    have := pairB_spec h.2 j q (by simpa using hq) (by omega)
    rwa [show k + 1 + j = k + (j + 1) by omega] at this
theorem pairsB_spec {C : Cx} {all : List Oper} {m : List Nat} : ∀ {l : List Oper} {k : Nat}, pairsB C all m k l = true → ∀ i o, l[i]? = some o →
    (∀ e ∈ o.after.toList, Region.binds .any e = true → e.on < k + i) ∧ (isQ C o = true → pairB C all m (k + i) o 0 all = true ∧ ∀ d, o.dst = some d → d ∉ looks all o)
  | [], _, _, _, _, h => by simp at h
  | p :: l, k, h, 0, q, hq => by
    simp at hq
    subst hq
    simp only [pairsB, Bool.and_eq_true, Bool.or_eq_true] at h
    obtain ⟨⟨h1, h2⟩, h3⟩ := h
    refine ⟨edgesDown_iff.1 h2, fun hQ => ?_⟩
    rcases h1 with h1 | ⟨h1, h4⟩
    · rw [hQ] at h1; cases h1
    · refine ⟨h1, fun d hd hm => ?_⟩
      rw [hd] at h4
      simp only [(memN_iff).2 hm] at h4
      cases h4
  | p :: l, k, h, i + 1, q, hq => by
    simp only [pairsB, Bool.and_eq_true] at h
    have := pairsB_spec h.2 i q (by simpa using hq)
    rwa [show k + 1 + i = k + (i + 1) by omega] at this
theorem pairs_of {C : Cx} {all : List Oper} {m : List Nat} (h : pairsB C all m 0 all = true) : Pairs C all m where
  down i o hi := by simpa using (pairsB_spec h i o hi).1
  self i o hi hq := ((pairsB_spec h i o hi).2 hq).2
  dst i o hi hq j q hj hne d hd := ((pairB_spec (by simpa using ((pairsB_spec h i o hi).2 hq).1) j q hj (by omega)).1 d hd).1
  look i o hi hq j q hj hne d hd hm := by
    have := ((pairB_spec (by simpa using ((pairsB_spec h i o hi).2 hq).1) j q hj (by omega)).1 d hd).2 hm
    rwa [Nat.zero_add] at this
  write i o hi hq j q hj hne e he hm := by
    have := (pairB_spec (by simpa using ((pairsB_spec h i o hi).2 hq).1) j q hj (by omega)).2 e he hm
    rwa [Nat.zero_add] at this
theorem noSelB_spec : ∀ {l : List Oper}, noSelB l = true → ∀ o ∈ l, ∀ cs b, o.op ≠ .select cs b
  | [], _, o, h => by simp at h
  | p :: l, h, o, ho => by
    simp only [noSelB, Bool.and_eq_true] at h
    rcases List.mem_cons.1 ho with rfl | ho
    · intro cs b e
      rw [e] at h
      cases h.1
    · exact noSelB_spec h.2 o ho
end Go.Sx
