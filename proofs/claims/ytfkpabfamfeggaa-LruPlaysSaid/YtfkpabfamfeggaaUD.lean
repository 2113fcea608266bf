/- Layer 18: SameKeys; told; LruNone answers true. -/
import Derived.Test.YtfkpabfamfeggaaUC
import Derived.Test.YtfkpabfamfeggaaXF2
set_option linter.unusedVariables false
set_option linter.unusedSimpArgs false
namespace Go.Proofs.Ytfkpabfamfeggaa.S
open Go.Sx
open Go.Maps (Keyed)
theorem herdsmanref1_Within.spec {n lo hi : Int} {w : World} {Q : Int → World → Prop} (h1 : lo ≤ hi) (h2 : -1099511627776 ≤ lo) (h3 : hi ≤ 1099511627776) (h : Q (lo + n % (hi - lo + 1)) w) : herdsmanref1_Within.call n lo hi w Q := by
  refine herdsmanref1_Within.body _ _ _ _ _ ?_
  unfold herdsmanref1_Within.sh
  rw [wrap_i64 (n := hi - lo) (by omega) (by omega), wrap_i64 (n := hi - lo + 1) (by omega) (by omega)]
  generalize hs : hi - lo + 1 = s at h
  have h4 := Int.lt_tmod_of_pos n (b := s) (by omega)
  have h5 := Int.tmod_lt_of_pos n (b := s) (by omega)
  have h6 := Int.tmod_add_mul_tdiv n s
  refine ⟨by omega, ?_⟩
  generalize ht : Int.tmod n s = t at *
  have e : n % s = t % s := by rw [← h6, Int.add_mul_emod_self_left]
  by_cases hn : t < 0
  · rw [decide_eq_true hn, cond_true, wrap_i64 (n := t + hi) (by omega) (by omega), wrap_i64 (n := t + hi - lo) (by omega) (by omega), wrap_i64 (n := t + hi - lo + 1) (by omega) (by omega), wrap_i64 (by omega) (by omega)]
    have e2 : t % s = t + s := by rw [← Int.add_emod_right, Int.emod_eq_of_lt (by omega) (by omega)]
    rw [e, e2] at h
    have e3 : t + hi - lo + 1 = t + s := by omega
    rw [e3]; exact h
  · rw [decide_eq_false hn, cond_false, wrap_i64 (by omega) (by omega)]
    rw [e, Int.emod_eq_of_lt (by omega) h5] at h
    exact h
theorem within_range {n lo hi : Int} (h : lo ≤ hi) : lo ≤ lo + n % (hi - lo + 1) ∧ lo + n % (hi - lo + 1) ≤ hi := by
  have h1 := Int.emod_nonneg n (b := hi - lo + 1) (by omega)
  have h2 := Int.emod_lt_of_pos n (b := hi - lo + 1) (by omega)
  omega
theorem eql29 {x y : Operand} {a b c d : Int} {w : World} {K : Bool → World → Prop} (h : K ((a == c) && ((b == d) && true)) w) : EqK P .eql 29 x y (.agg #[.int .i64 a, .int .i64 b]) (.agg #[.int .i64 c, .int .i64 d]) w K := by
  obtain ⟨inf, u, z, k1, _⟩ := ok_info tab_ok (t := 3) rfl
  exact EqK_arr (n := 2) (e := 3) arrKey.hu k1 (by kernel_rfl) (by kernel_rfl) h
theorem neq29 {x y : Operand} {a b c d : Int} {w : World} {K : Bool → World → Prop} (h : K (!((a == c) && ((b == d) && true))) w) : EqK P .neq 29 x y (.agg #[.int .i64 a, .int .i64 b]) (.agg #[.int .i64 c, .int .i64 d]) w K :=
  EqK_neq (by kernel_rfl) (eql29 h)
theorem key_beq (p q : Int × Int) : ((p.1 == q.1) && ((p.2 == q.2) && true)) = decide (p = q) := by
  rw [Bool.eq_iff_iff]
  simp [Prod.ext_iff]
attribute [local irreducible] LdI LdB LdStr LdP LdS LdM LdV St Bx Al App Cpy MkS MkM EqK RunK RunU CallK SlK blkA rowA joinA mapA
section
variable {F : Nat → Prop} {W w w0 : World} {L : List As} {a a' : Option Addr} {n c n' c' : Nat} {ks ks' : List (Int × Int)}
theorem SameKeys.spec {Q : Bool → World → Prop} (s0 : Sep F W w0 L) (hA : Sl w0 a n c 2 keyc ks) (hB : Sl w0 a' n' c' 2 keyc ks') (hn : n ≤ 1000000000) (h : ∀ w', Sep F W w' L → Fr No w0 w' → Q (decide (ks = ks')) w') : herdsmanref18_SameKeys.call a n c a' n' c' w0 Q := by
  refine herdsmanref18_SameKeys.body _ _ _ _ _ _ _ _ ?_
  unfold herdsmanref18_SameKeys.sh
  have hh : ∀ w', Fr No w0 w' → Q (decide (ks = ks')) w' := fun w' f => h w' (Sep.call s0 f) f
  by_cases hl : n = n'
  · subst hl
    rw [bne_self_eq_false, cond_false]
    have loop : ∀ (m i : Nat) (w : World), i + m = n → (∀ j, j < i → ks[j]? = ks'[j]?) → Fr No w0 w → herdsmanref18_SameKeys.b4 Q (m + 1) a n c a' n c' i w := by
      intro m
      induction m with
      | zero =>
        intro i w hi hlow f
        show herdsmanref18_SameKeys.s4 Q (herdsmanref18_SameKeys.b4 Q 0) _ _ _ _ _ _ _ _
        unfold herdsmanref18_SameKeys.s4
        rw [decide_eq_false (by omega), cond_false]
        have := hh _ f
        rwa [decide_eq_true] at this
        apply List.ext_getElem?
        intro j
        by_cases hj : j < i
        · exact hlow j hj
        · rw [List.getElem?_eq_none (by rw [hA.len]; omega), List.getElem?_eq_none (by rw [hB.len]; omega)]
      | succ m ih =>
        intro i w hi hlow f
        show herdsmanref18_SameKeys.s4 Q (herdsmanref18_SameKeys.b4 Q (m + 1)) _ _ _ _ _ _ _ _
        unfold herdsmanref18_SameKeys.s4
        rw [decide_eq_true (by omega), cond_true]
        have f : Fr No w0 w.drew := f
        refine (hA.fr f).El rfl (by omega) fun p x hx hc => ?_
        refine LdI_cell (hc 0 _ rfl) ?_
        refine LdI_cell (hc 1 _ rfl) ?_
        refine (hB.fr f).El rfl (by omega) fun p y hy hc => ?_
        refine LdI_cell (hc 0 _ rfl) ?_
        refine LdI_cell (hc 1 _ rfl) ?_
        refine neq29 ?_
        rw [key_beq, wrap_i64 (n := (i : Int) + 1) (by omega) (by omega)]
        by_cases he : x = y
        · rw [decide_eq_true he, Bool.not_true, cond_false]
          refine ih (i + 1) _ (by omega) (fun j hj => ?_) f
          by_cases hji : j = i
          · subst hji; rw [hx, hy, he]
          · exact hlow j (by omega)
        · rw [decide_eq_false he, Bool.not_false, cond_true]
          have := hh _ f
          rwa [decide_eq_false (fun e => he (by rw [e, hy] at hx; exact (Option.some.inj hx).symm))] at this
    exact ⟨n + 1, loop n 0 w0 (by omega) (fun j hj => by omega) Fr.refl⟩
  · rw [show ((n : Int) != (n' : Int)) = true by rw [bne_iff_ne]; omega, cond_true]
    have := hh w0 Fr.refl
    rwa [decide_eq_false (fun e => hl (by rw [← hA.len, ← hB.len, e]))] at this
theorem wf_small {x : Int} (h : -1000000 ≤ x ∧ x ≤ 1000000) : (Lit.int .i64 x).wf = true := by
  have := wf_wrap .i64 x
  rwa [wrap_i64 (by omega) (by omega)] at this
theorem told.spec {Q : Bool → World → Prop} (s0 : Sep F W w0 L) (h : ∀ w', Sep F W w' L → Fr No w0 w' → Q true w') : herdsmanlaw18_told.call w0 Q := by
  refine herdsmanlaw18_told.body _ _ ?_
  unfold herdsmanlaw18_told.sh
  have s := Sep.nil (F := No) (w := w0)
  refine New.spec s (fun h => by omega) fun _ p r w s => ?_
  rw [show (some (⟨p, 0, none⟩ : Addr)).isNone = false from rfl, cond_false]
  refine Use.spec (key := (1, 1)) s ⟨rfl, rfl⟩ (by decide) fun r w s => ?_
  have s : Sep No w0 w [lruA p 2 [((1, 1), 0)] r] := s
  refine Use.spec (key := (2, 2)) s ⟨rfl, rfl⟩ (by decide) fun r w s => ?_
  have s : Sep No w0 w [lruA p 2 [((2, 2), 1), ((1, 1), 0)] r] := s
  refine Use.spec (key := (1, 1)) s ⟨rfl, rfl⟩ (by decide) fun r w s => ?_
  have s : Sep No w0 w [lruA p 2 [((1, 1), 0), ((2, 2), 1)] r] := s
  refine Use.spec (key := (3, 3)) s ⟨rfl, rfl⟩ (by decide) fun r w s => ?_
  have s : Sep No w0 w [lruA p 2 [((3, 3), 1), ((1, 1), 0)] r] := s
  have e : (useP 2 [((1, 1), 0), ((2, 2), 1)] (3, 3)).1 = (1, false, true) := by decide
  rw [e, show ((1 : Int) == 1) = true from rfl, cond_true, Bool.not_false, cond_true, cond_true]
  refine Keys.spec s (by decide) fun a n c w s => ?_
  refine Sep.Bx s fun b w s => ?_
  have s := Sep.blk_row (n := 2) (size := 2) s (i := 0) rfl rfl (by decide) (by simp; decide)
  simp only [List.set_cons_zero] at s
  have e2 : ([.int .i64 3, .int .i64 3, .int .i64 1, .int .i64 1] : List Value) = flat keyc [(3, 3), (1, 1)] := rfl
  rw [e2] at s
  have hk := Sep.sl s (i := 1) rfl keyc_len (by decide)
  refine SameKeys.spec s hk (Sep.sl s (i := 0) rfl keyc_len (by decide)) (by rw [← hk.len]; decide) fun w s _ => ?_
  exact h _ (Sep.call s0 (sep_fr s)) (sep_fr s)
theorem LruNone.spec {x y : Int} {Q : Bool → World → Prop} (hx : (Lit.int .i64 x).wf = true) (hy : (Lit.int .i64 y).wf = true) (hQ : ∀ w', Sep No W w' [] → Q true w') : herdsmanlaw18_LruNone.call x y W Q := by
  refine herdsmanlaw18_LruNone.body _ _ _ _ ?_
  unfold herdsmanlaw18_LruNone.sh
  have s := Sep.nil (F := No) (w := W)
  refine lru_Lru_Use.body _ _ _ _ _ ?_
  unfold lru_Lru_Use.sh
  rw [show (none : Option Addr).isNone = true from rfl, cond_true]
  refine lru_Lru_Clear.body _ _ _ ?_
  unfold lru_Lru_Clear.sh
  rw [show (none : Option Addr).isNone = true from rfl, Bool.not_true, cond_false]
  refine New.spec s (fun h => by omega) fun _ p r w s => ?_
  rw [show (some (⟨p, 0, none⟩ : Addr)).isNone = false from rfl, cond_false]
  refine Use.spec (key := (x, y)) s ⟨hx, hy⟩ (by decide) fun r w s => ?_
  have hl : ∀ (k : Int) (l : KS) (key : Int × Int), (useP k l key).2.length ≤ l.length + 1 := fun k l key => by
    unfold useP
    cases l.find? (fun p => decide (p.1 = key)) with
    | some q => simp only [List.length_cons]; have := List.length_filter_le (fun q : (Int × Int) × Nat => !decide (q.1 = key)) l; omega
    | none =>
      simp only
      split
      · simp
      · split <;> simp
  have l1 := hl 3 [] (x, y)
  refine Use.spec (key := (y, x)) s ⟨hy, hx⟩ (by simp at l1; omega) fun r w s => ?_
  obtain ⟨hI, s⟩ := lru_open s
  refine Clear.spec (by decide) s fun r w s => ?_
  have s := Sep.pick (L' := [_]) [0] s rfl (by decide)
  refine Use.spec (key := (y, x)) s ⟨hy, hx⟩ (by decide) fun r w s => ?_
  have e : useP 3 [] (y, x) = ((0, false, false), [((y, x), 0)]) := rfl
  rw [e] at s ⊢
  refine told.spec s fun w s _ => ?_
  simp only [show ((-1 : Int) == -1) = true from rfl, cond_true, Bool.not_false]
  refine lru_Lru_Find.body _ _ _ _ _ ?_
  unfold lru_Lru_Find.sh
  rw [show (none : Option Addr).isNone = true from rfl, cond_true]
  simp only [show ((-1 : Int) == -1) = true from rfl, cond_true, Bool.not_false]
  refine lru_Lru_Keys.body _ _ _ ?_
  unfold lru_Lru_Keys.sh
  rw [show (none : Option Addr).isNone = true from rfl, cond_true]
  simp only [show (((0 : Nat) : Int) == 0) = true from rfl, cond_true]
  refine lru_Lru_Len.body _ _ _ ?_
  unfold lru_Lru_Len.sh
  rw [show (none : Option Addr).isNone = true from rfl, cond_true]
  simp only [show ((0 : Int) == 0) = true from rfl, cond_true]
  refine Len.spec s ?_
  exact hQ _ (Sep.pick [] s rfl (by decide))
end
theorem LruNone_law : LawOk P 7 [.int .i64, .int .i64] := by
  intro W args h
  obtain ⟨v0, r, rfl, h0, h⟩ := RdAll.cons h
  obtain ⟨v1, r, rfl, h1, h⟩ := RdAll.cons h
  obtain rfl := RdAll.nil h
  obtain ⟨x, rfl, hx⟩ := rdV_int h0
  obtain ⟨y, rfl, hy⟩ := rdV_int h1
  exact LruNone.spec (Q := fun r W' => r = true ∧ Go.RowKit.Below W.heap.size W W') hx hy fun w' s => ⟨rfl, sep_below s⟩
end Go.Proofs.Ytfkpabfamfeggaa.S
