/- Layer 26, plain: ops and their bytes, with no program in sight. -/
import Derived.Test.YtjndgflalbcngaaSxL
set_option linter.unusedVariables false
set_option linter.unusedSimpArgs false
namespace Go.Proofs.Ytjndgflalbcngaa.S
open Go.Sx
structure OpP where
  k : Int
  A : Int
  B : Int
  m : List Int
deriving DecidableEq
def Rng (l : List Int) : Prop := ∀ x ∈ l, 0 ≤ x ∧ x < 256
theorem Rng.nil : Rng [] := fun x hx => by cases hx
theorem Rng.cons {x : Int} {l : List Int} (h : Rng (x :: l)) : (0 ≤ x ∧ x < 256) ∧ Rng l := ⟨h x (by simp), fun y hy => h y (by simp [hy])⟩
theorem Rng.mk {x : Int} {l : List Int} (h : 0 ≤ x ∧ x < 256) (h' : Rng l) : Rng (x :: l) := fun y hy => by
  rcases List.mem_cons.1 hy with rfl | hy
  · exact h
  · exact h' y hy
theorem Rng.app {l m : List Int} (h : Rng l) (h' : Rng m) : Rng (l ++ m) := fun x hx => by
  rcases List.mem_append.1 hx with hx | hx
  · exact h x hx
  · exact h' x hx
theorem Rng.take {l : List Int} (h : Rng l) (n : Nat) : Rng (l.take n) := fun x hx => h x (List.mem_of_mem_take hx)
theorem Rng.drop {l : List Int} (h : Rng l) (n : Nat) : Rng (l.drop n) := fun x hx => h x (List.mem_of_mem_drop hx)
/-! Numbers and their bytes. -/
def numI : List Int → Int
  | [] => 0
  | x :: xs => x + 256 * numI xs
def putI (n : Int) : Nat → List Int
  | 0 => []
  | s + 1 => (n % 256) :: putI (n / 256) s
theorem putI_length (n : Int) (s : Nat) : (putI n s).length = s := by
  induction s generalizing n with
  | zero => rfl
  | succ s ih => simp [putI, ih]
theorem putI_rng (n : Int) (s : Nat) : Rng (putI n s) := by
  induction s generalizing n with
  | zero => exact Rng.nil
  | succ s ih => exact Rng.mk (by omega) (ih _)
theorem numI_range {l : List Int} (h : Rng l) : 0 ≤ numI l ∧ numI l < 256 ^ l.length := by
  induction l with
  | nil => simp [numI]
  | cons x l ih =>
    have h1 := h.cons
    have h2 := ih h1.2
    simp only [numI, List.length_cons]
    rw [Int.pow_succ]
    omega
theorem putI_num {l : List Int} (h : Rng l) : putI (numI l) l.length = l := by
  induction l with
  | nil => rfl
  | cons x l ih =>
    have h1 := h.cons
    simp only [numI, List.length_cons, putI]
    rw [show (x + 256 * numI l) % 256 = x by omega, show (x + 256 * numI l) / 256 = numI l by omega, ih h1.2]
theorem numI_put {n : Int} {s : Nat} (h : 0 ≤ n ∧ n < 256 ^ s) : numI (putI n s) = n := by
  induction s generalizing n with
  | zero => simp at h; simp only [putI, numI]; omega
  | succ s ih =>
    rw [Int.pow_succ] at h
    simp only [putI, numI]
    rw [ih (by omega)]
    omega
/-! What stands behind an op's kind. -/
def shA (k : Int) : Nat := if k = 2 ∨ k = 3 ∨ k = 4 ∨ k = 5 ∨ k = 6 then 4 else 0
def shB (k : Int) : Nat := if k = 2 then 1 else if k = 3 ∨ k = 4 ∨ k = 6 then 4 else 0
def shL (k : Int) : Bool := decide (k = 1)
def shOk (k : Int) : Bool := decide (1 ≤ k ∧ k ≤ 8)
theorem shAB (k : Int) : shA k ≤ 4 ∧ shB k ≤ 4 := by
  unfold shA shB
  constructor <;> repeat' split
  all_goals omega
theorem shL_AB {k : Int} (h : shL k = true) : shA k = 0 ∧ shB k = 0 ∧ shOk k = true := by
  have := of_decide_eq_true h
  subst this
  decide
def readP : List Int → OpP × Nat
  | [] => (⟨0, 0, 0, []⟩, 0)
  | x :: r =>
    if shOk x = true then
      if shL x = true then
        if r.length < 4 then (⟨0, 0, 0, []⟩, 0)
        else if (r.length : Int) - 4 < numI (r.take 4) then (⟨0, 0, 0, []⟩, 0)
        else (⟨x, 0, 0, (r.drop 4).take (numI (r.take 4)).toNat⟩, 5 + (numI (r.take 4)).toNat)
      else if r.length < shA x + shB x then (⟨0, 0, 0, []⟩, 0)
      else (⟨x, numI (r.take (shA x)), numI ((r.drop (shA x)).take (shB x)), []⟩, 1 + shA x + shB x)
    else (⟨0, x, 0, []⟩, 1)
theorem readP_cons (x : Int) (r : List Int) : readP (x :: r) =
    if shOk x = true then
      if shL x = true then
        if r.length < 4 then (⟨0, 0, 0, []⟩, 0)
        else if (r.length : Int) - 4 < numI (r.take 4) then (⟨0, 0, 0, []⟩, 0)
        else (⟨x, 0, 0, (r.drop 4).take (numI (r.take 4)).toNat⟩, 5 + (numI (r.take 4)).toNat)
      else if r.length < shA x + shB x then (⟨0, 0, 0, []⟩, 0)
      else (⟨x, numI (r.take (shA x)), numI ((r.drop (shA x)).take (shB x)), []⟩, 1 + shA x + shB x)
    else (⟨0, x, 0, []⟩, 1) := rfl
def cutP (m : List Int) : Bool := decide (m ≠ []) && decide ((readP m).2 = 0)
def fitsP (n : Int) (s : Nat) : Bool := decide (0 ≤ n ∧ n < 256 ^ s)
def mayP (o : OpP) : Bool :=
  if o.k = 0 then
    if o.A = -1 then decide (o.B = 0) && cutP o.m
    else fitsP o.A 1 && (!shOk o.A && (decide (o.B = 0) && decide (o.m = [])))
  else shOk o.k && (fitsP o.A (shA o.k) && (fitsP o.B (shB o.k) && (decide (o.m = []) || (shL o.k && decide (o.m.length ≤ 4294967295)))))
def isCut (o : OpP) : Prop := o.k = 0 ∧ o.A = -1
instance (o : OpP) : Decidable (isCut o) := inferInstanceAs (Decidable (_ ∧ _))
def wrP (o : OpP) : List Int :=
  if o.k = 0 then (if o.A ≥ 0 then [o.A % 256] else []) ++ o.m
  else ((o.k % 256) :: (if shL o.k = true then putI o.m.length 4 else [])) ++ (putI o.A (shA o.k) ++ (putI o.B (shB o.k) ++ o.m))
theorem fits_iff {n : Int} {s : Nat} : fitsP n s = true ↔ 0 ≤ n ∧ n < 256 ^ s := by simp [fitsP]
theorem take_app {l m : List Int} {n : Nat} (h : l.length = n) : (l ++ m).take n = l := by rw [← h]; simp
theorem drop_app {l m : List Int} {n : Nat} (h : l.length = n) : (l ++ m).drop n = m := by rw [← h]; simp
/-- An op that may be, and is whole, is read out of its bytes, whatever stands behind. -/
theorem read_wr {o : OpP} (h : mayP o = true) (hc : ¬ isCut o) (r : List Int) : readP (wrP o ++ r) = (o, (wrP o).length) := by
  obtain ⟨k, A, B, m⟩ := o
  unfold mayP at h
  unfold wrP
  unfold isCut at hc
  simp only at h hc ⊢
  by_cases hk : k = 0
  · subst hk
    rw [if_pos rfl] at h ⊢
    rw [if_neg (fun e => hc ⟨rfl, e⟩)] at h
    simp only [Bool.and_eq_true, Bool.not_eq_true', decide_eq_true_eq, fits_iff] at h
    obtain ⟨h1, h2, rfl, rfl⟩ := h
    rw [if_pos h1.1, show A % 256 = A by omega]
    simp [readP, h2]
  · rw [if_neg hk] at h ⊢
    simp only [Bool.and_eq_true, decide_eq_true_eq, fits_iff, Bool.or_eq_true] at h
    obtain ⟨h1, h2, h3, h4⟩ := h
    have hk8 := of_decide_eq_true h1
    rw [show k % 256 = k by omega]
    cases hl : shL k with
    | true =>
      obtain ⟨e1, e2, _⟩ := shL_AB hl
      rw [e1] at h2 ⊢
      rw [e2] at h3 ⊢
      simp only [Int.pow_zero] at h2 h3
      obtain rfl : A = 0 := by omega
      obtain rfl : B = 0 := by omega
      have hm : m.length ≤ 4294967295 := by
        rcases h4 with rfl | h4
        · simp
        · exact h4.2
      have p4 : (putI (m.length : Int) 4).length = 4 := putI_length _ _
      have n4 : numI (putI (m.length : Int) 4) = m.length := numI_put (by constructor <;> omega)
      simp only [putI, List.nil_append, if_pos, List.cons_append]
      show readP (k :: (putI (m.length : Int) 4 ++ m ++ r)) = _
      rw [readP, if_pos h1, if_pos hl, List.append_assoc, take_app p4, n4, drop_app p4, if_neg (by simp [p4]), if_neg (by simp [p4]; omega), Int.toNat_natCast, take_app rfl]
      simp [putI]
      omega
    | false =>
      rw [hl] at h4
      obtain rfl : m = [] := by simpa using h4
      simp only [List.append_nil, if_neg Bool.false_ne_true]
      show readP (k :: ((putI A (shA k) ++ putI B (shB k)) ++ r)) = _
      have pa := putI_length A (shA k)
      have pb := putI_length B (shB k)
      rw [readP, if_pos h1, if_neg (by rw [hl]; decide), if_neg (by simp [pa, pb]), List.append_assoc, take_app pa, drop_app pa, take_app pb, numI_put h2, numI_put h3]
      simp [pa, pb]
      omega
/-- What is read is an op that may be, and its bytes stand there. -/
theorem wr_read {l : List Int} (hr : Rng l) (hu : (readP l).2 ≠ 0) : mayP (readP l).1 = true ∧ ¬ isCut (readP l).1 ∧ wrP (readP l).1 = l.take (readP l).2 ∧ (readP l).2 ≤ l.length ∧ Rng (readP l).1.m := by
  cases l with
  | nil => exact (hu rfl).elim
  | cons x r =>
    obtain ⟨hx, hr⟩ := hr.cons
    rw [readP_cons] at hu ⊢
    split at hu
    · rename_i hk
      rw [if_pos hk]
      have hk8 := of_decide_eq_true hk
      split at hu
      · rename_i hl
        rw [if_pos hl]
        split at hu
        · exact (hu rfl).elim
        · rename_i h4
          rw [if_neg h4]
          split at hu
          · exact (hu rfl).elim
          · rename_i hn
            rw [if_neg hn]
            obtain ⟨e1, e2, _⟩ := shL_AB hl
            have rg := numI_range (hr.take 4)
            have l4 : (r.take 4).length = 4 := by rw [List.length_take]; omega
            rw [l4] at rg
            obtain ⟨n, hn'⟩ : ∃ n : Nat, numI (r.take 4) = n := ⟨(numI (r.take 4)).toNat, by omega⟩
            rw [hn'] at rg hn ⊢
            rw [Int.toNat_natCast]
            have lm : ((r.drop 4).take n).length = n := by rw [List.length_take, List.length_drop]; omega
            refine ⟨?_, fun hc => ?_, ?_, ?_, (hr.drop 4).take n⟩
            · unfold mayP
              simp only
              rw [if_neg (by omega), hk, e1, e2, hl, lm]
              have : n ≤ 4294967295 := by omega
              simp [fitsP, this]
            · unfold isCut at hc
              simp only at hc
              omega
            · unfold wrP
              simp only
              rw [if_neg (by omega), if_pos hl, e1, e2, show x % 256 = x by omega, lm, ← hn']
              have := putI_num (hr.take 4)
              rw [l4] at this
              rw [this]
              show x :: (r.take 4 ++ ((r.drop 4).take n)) = _
              rw [show 5 + n = (4 + n) + 1 by omega, List.take_succ_cons, List.take_add]
            · simp only [List.length_cons]
              omega
      · rename_i hl
        rw [if_neg hl]
        split at hu
        · exact (hu rfl).elim
        · rename_i hn
          rw [if_neg hn]
          have la : (r.take (shA x)).length = shA x := by rw [List.length_take]; omega
          have lb : ((r.drop (shA x)).take (shB x)).length = shB x := by rw [List.length_take, List.length_drop]; omega
          have ra := numI_range (hr.take (shA x))
          have rb := numI_range ((hr.drop (shA x)).take (shB x))
          have pa := putI_num (hr.take (shA x))
          have pb := putI_num ((hr.drop (shA x)).take (shB x))
          rw [la] at ra pa
          rw [lb] at rb pb
          refine ⟨?_, fun hc => ?_, ?_, ?_, Rng.nil⟩
          · unfold mayP
            simp only
            rw [if_neg (by omega), hk, fits_iff.2 ra, fits_iff.2 rb]
            rfl
          · unfold isCut at hc
            simp only at hc
            omega
          · unfold wrP
            simp only
            rw [if_neg (by omega), if_neg hl, show x % 256 = x by omega, pa, pb]
            show x :: (r.take (shA x) ++ ((r.drop (shA x)).take (shB x) ++ [])) = _
            rw [show 1 + shA x + shB x = (shA x + shB x) + 1 by omega, List.take_succ_cons, List.take_add, List.append_nil]
          · simp only [List.length_cons]
            omega
    · rename_i hk
      rw [if_neg hk]
      refine ⟨?_, fun hc => ?_, ?_, by simp, Rng.nil⟩
      · unfold mayP
        simp only
        rw [if_pos trivial, if_neg (by omega)]
        simp only [Bool.not_eq_true] at hk
        rw [hk]
        simp [fitsP]
        omega
      · unfold isCut at hc
        simp only at hc
        omega
      · unfold wrP
        simp only
        rw [if_pos trivial, if_pos hx.1, show x % 256 = x by omega]
        rfl
def decF : Nat → List Int → List OpP
  | 0, _ => []
  | f + 1, l => if l = [] then [] else if (readP l).2 = 0 then [⟨0, -1, 0, l⟩] else (readP l).1 :: decF f (l.drop (readP l).2)
def dec (l : List Int) : List OpP := decF l.length l
theorem decF_eq : ∀ (f g : Nat) (l : List Int), l.length ≤ f → l.length ≤ g → decF f l = decF g l := by
  intro f
  induction f with
  | zero =>
    intro g l hf hg
    have : l = [] := List.eq_nil_of_length_eq_zero (by omega)
    subst this
    cases g <;> simp [decF]
  | succ f ih =>
    intro g l hf hg
    cases g with
    | zero =>
      have : l = [] := List.eq_nil_of_length_eq_zero (by omega)
      subst this
      simp [decF]
    | succ g =>
      unfold decF
      by_cases hl : l = []
      · rw [if_pos hl, if_pos hl]
      · rw [if_neg hl, if_neg hl]
        by_cases hu : (readP l).2 = 0
        · rw [if_pos hu, if_pos hu]
        · rw [if_neg hu, if_neg hu, ih g _ (by rw [List.length_drop]; omega) (by rw [List.length_drop]; omega)]
theorem dec_nil : dec [] = [] := rfl
theorem dec_cut {l : List Int} (hl : l ≠ []) (hu : (readP l).2 = 0) : dec l = [⟨0, -1, 0, l⟩] := by
  unfold dec
  obtain ⟨n, hn⟩ : ∃ n, l.length = n + 1 := ⟨l.length - 1, by have := List.length_pos_iff.2 hl; omega⟩
  rw [hn, decF, if_neg hl, if_pos hu]
theorem dec_cons {l : List Int} (hl : l ≠ []) (hu : (readP l).2 ≠ 0) : dec l = (readP l).1 :: dec (l.drop (readP l).2) := by
  unfold dec
  obtain ⟨n, hn⟩ : ∃ n, l.length = n + 1 := ⟨l.length - 1, by have := List.length_pos_iff.2 hl; omega⟩
  rw [hn, decF, if_neg hl, if_neg hu, decF_eq n (l.drop (readP l).2).length _ (by rw [List.length_drop]; omega) (Nat.le_refl _)]
/-- Any bytes are ops that may be, cut off at most the last one, and these ops are just those bytes. -/
theorem dec_all : ∀ (n : Nat) (l : List Int), l.length ≤ n → Rng l → (∀ o ∈ dec l, mayP o = true ∧ Rng o.m ∧ o.m.length ≤ l.length) ∧ (∀ i o, (dec l)[i]? = some o → i + 1 < (dec l).length → ¬ isCut o) ∧ (dec l).flatMap wrP = l ∧ (dec l).length ≤ l.length := by
  intro n
  induction n with
  | zero =>
    intro l hn hr
    have : l = [] := List.eq_nil_of_length_eq_zero (by omega)
    subst this
    simp [dec_nil]
  | succ n ih =>
    intro l hn hr
    by_cases hl : l = []
    · subst hl; simp [dec_nil]
    · have hpos := List.length_pos_iff.2 hl
      by_cases hu : (readP l).2 = 0
      · rw [dec_cut hl hu]
        refine ⟨fun o ho => ?_, fun i o ho hi => by simp at hi, ?_, by simp; omega⟩
        · rw [List.mem_singleton] at ho
          subst ho
          refine ⟨?_, hr, Nat.le_refl _⟩
          simp [mayP, cutP, hl, hu]
        · simp [wrP]
      · rw [dec_cons hl hu]
        obtain ⟨h1, h2, h3, h4, h5⟩ := wr_read hr hu
        obtain ⟨k1, k2, k3, k4⟩ := ih (l.drop (readP l).2) (by rw [List.length_drop]; omega) (hr.drop _)
        have hd := List.length_drop (l := l) (i := (readP l).2)
        refine ⟨fun o ho => ?_, fun i o ho hi => ?_, ?_, by simp only [List.length_cons]; omega⟩
        · rcases List.mem_cons.1 ho with rfl | ho
          · refine ⟨h1, h5, ?_⟩
            have e := congrArg List.length h3
            rw [List.length_take] at e
            have : (readP l).1.m.length ≤ (wrP (readP l).1).length := by unfold wrP; split <;> simp <;> omega
            omega
          · obtain ⟨q1, q2, q3⟩ := k1 o ho
            exact ⟨q1, q2, by omega⟩
        · cases i with
          | zero => simp only [List.getElem?_cons_zero, Option.some.injEq] at ho; subst ho; exact h2
          | succ i =>
            simp only [List.getElem?_cons_succ, List.length_cons] at ho hi
            exact k2 i o ho (by omega)
        · rw [List.flatMap_cons, h3, k3, List.take_append_drop]
theorem dec_app {xs : List OpP} (h : ∀ o ∈ xs, mayP o = true ∧ ¬ isCut o) (r : List Int) : dec (xs.flatMap wrP ++ r) = xs ++ dec r := by
  induction xs with
  | nil => rfl
  | cons o xs ih =>
    obtain ⟨h1, h2⟩ := h o (by simp)
    have e := read_wr h1 h2 (xs.flatMap wrP ++ r)
    have pos : (wrP o).length ≠ 0 := by
      unfold wrP
      split
      · rename_i hk
        have hA : o.A ≥ 0 := by
          unfold mayP at h1
          rw [if_pos hk, if_neg (fun e => h2 ⟨hk, e⟩)] at h1
          simp only [Bool.and_eq_true, fits_iff] at h1
          exact h1.1.1
        rw [if_pos hA]
        simp
      · simp
    have hne : wrP o ++ (xs.flatMap wrP ++ r) ≠ [] := fun e => by
      have := congrArg List.length e
      rw [List.length_append, List.length_nil] at this
      omega
    rw [List.flatMap_cons, List.append_assoc, dec_cons hne (by rw [e]; exact pos), e]
    simp only
    rw [drop_app rfl, ih fun o ho => h o (by simp [ho]), List.cons_append]
end Go.Proofs.Ytjndgflalbcngaa.S
