/- Layer 18: LruHuge answers true. -/
import Derived.Test.YtfkpabfamfeggaaUD
set_option linter.unusedVariables false
set_option linter.unusedSimpArgs false
namespace Go.Proofs.Ytfkpabfamfeggaa.S
open Go.Sx
open Go.Maps (Keyed)
theorem herdsmanref1_Within.big {n : Int} {w : World} {Q : Int → World → Prop} (h : Q (201 + n % 4611686018427387704) w) : herdsmanref1_Within.call n 201 4611686018427387904 w Q := by
  refine herdsmanref1_Within.body _ _ _ _ _ ?_
  unfold herdsmanref1_Within.sh
  have e0 : IntKind.wrap .i64 (IntKind.wrap .i64 (4611686018427387904 - 201) + 1) = 4611686018427387704 := by decide
  rw [e0]
  have h4 := Int.lt_tmod_of_pos n (b := 4611686018427387704) (by omega)
  have h5 := Int.tmod_lt_of_pos n (b := 4611686018427387704) (by omega)
  have h6 := Int.tmod_add_mul_tdiv n 4611686018427387704
  refine ⟨by omega, ?_⟩
  generalize ht : Int.tmod n 4611686018427387704 = t at *
  have e : n % 4611686018427387704 = t % 4611686018427387704 := by rw [← h6, Int.add_mul_emod_self_left]
  by_cases hn : t < 0
  · rw [decide_eq_true hn, cond_true, wrap_i64 (n := t + 4611686018427387904) (by omega) (by omega), wrap_i64 (n := t + 4611686018427387904 - 201) (by omega) (by omega), wrap_i64 (n := t + 4611686018427387904 - 201 + 1) (by omega) (by omega), wrap_i64 (by omega) (by omega)]
    rw [e, show t % 4611686018427387704 = t + 4611686018427387704 by omega] at h
    rw [show t + 4611686018427387904 - 201 + 1 = t + 4611686018427387704 by omega]
    exact h
  · rw [decide_eq_false hn, cond_false, wrap_i64 (by omega) (by omega)]
    rw [e, show t % 4611686018427387704 = t by omega] at h
    exact h
attribute [local irreducible] LdI LdB LdStr LdP LdS LdM LdV St Bx Al App Cpy MkS MkM EqK RunK RunU CallK SlK blkA rowA joinA mapA
section
variable {W w : World} {L : List As} {Q : Bool → World → Prop} {p : Nat} {k : Int} {la : Option Addr} {ln lc : Nat} {ks : List (Int × Int)}
theorem Huge_b14 {l : KS} {r : LruR} (hQ : ∀ w', Sep No W w' [] → Q true w') (s : Sep No W w [lruA p k l r]) : herdsmanlaw18_LruHuge.b14 Q (some ⟨p, 0, none⟩) (l.length : Nat) w := by
  unfold herdsmanlaw18_LruHuge.b14
  refine told.spec s fun w s _ => ?_
  rw [cond_true]
  refine Len.spec s ?_
  rw [beq_self_eq_true]
  exact hQ _ (Sep.pick [] s rfl (by decide))
theorem Huge_loop (hA : Sl W la ln lc 2 keyc ks) (hw : ∀ x ∈ ks, WfK x) (hk : 201 ≤ k) (hQ : ∀ w', Sep No W w' [] → Q true w') :
    ∀ (m i : Nat) (l : KS) (r : LruR) (w : World), 60 - i ≤ m → i ≤ 60 → l.length ≤ i → Sep No W w [lruA p k l r] → herdsmanlaw18_LruHuge.b6 Q (m + 1) la ln lc (some ⟨p, 0, none⟩) (l.length : Nat) i w := by
  have stop : ∀ R (i : Nat) (l : KS) (r : LruR) (w : World), ¬ (i < ln ∧ i < 60) → Sep No W w [lruA p k l r] → herdsmanlaw18_LruHuge.s6 Q R la ln lc (some ⟨p, 0, none⟩) (l.length : Nat) i w := by
    intro R i l r w hn s
    unfold herdsmanlaw18_LruHuge.s6
    by_cases h1 : i < ln
    · rw [decide_eq_true (by omega), cond_true, decide_eq_false (by omega), cond_false]
      exact Huge_b14 hQ s
    · rw [decide_eq_false (by omega), cond_false]
      exact Huge_b14 hQ s
  intro m
  induction m with
  | zero =>
    intro i l r w hm hi hl s
    exact stop _ i l r w (by omega) s
  | succ m ih =>
    intro i l r w hm hi hl s
    show herdsmanlaw18_LruHuge.s6 Q (herdsmanlaw18_LruHuge.b6 Q (m + 1)) _ _ _ _ _ _ _
    by_cases hgo : i < ln ∧ i < 60
    · unfold herdsmanlaw18_LruHuge.s6
      rw [decide_eq_true (by omega), cond_true, decide_eq_true (by omega), cond_true]
      have s := Sep.drew s
      have hx0 : ks[i]? = some (ks[i]'(by rw [hA.len]; omega)) := List.getElem?_eq_getElem _
      generalize ks[i]'(by rw [hA.len]; omega) = x at hx0
      have hwx := hw x (List.mem_of_getElem? hx0)
      have rd : ∀ {w : World} {K : Int → Prop} {K' : Int → Prop} (s : Sep No W w [lruA p k l r]), (K x.1 → InB i ln (wA la fun pp => InB 0 2 (LdI .i64 ((pp.add ((i : Int).toNat * 2)).add (((0 : Int).toNat) * 1)) w K))) ∧ (K' x.2 → InB i ln (wA la fun pp => InB 1 2 (LdI .i64 ((pp.add ((i : Int).toNat * 2)).add (((1 : Int).toNat) * 1)) w K'))) := by
        intro w K K' s
        refine ⟨fun h => ?_, fun h => ?_⟩
        · refine (hA.fr (sep_fr s)).El rfl hgo.1 fun pp y hy hc => ?_
          rw [hx0] at hy
          cases hy
          exact ⟨by decide, by decide, LdI_cell (hc 0 _ rfl) h⟩
        · refine (hA.fr (sep_fr s)).El rfl hgo.1 fun pp y hy hc => ?_
          rw [hx0] at hy
          cases hy
          exact ⟨by decide, by decide, LdI_cell (hc 1 _ rfl) h⟩
      refine (rd (K' := fun _ => True) s).1 ?_
      refine (rd (K := fun _ => True) s).2 ?_
      refine Find.spec (key := x) s hwx ?_
      have s := Sep.drew s
      refine (rd (K' := fun _ => True) s).1 ?_
      refine (rd (K := fun _ => True) s).2 ?_
      have hg := (lru_open s).1
      refine Use.spec (key := x) s hwx (by omega) fun r w s => ?_
      unfold useP at s ⊢
      unfold findP
      cases hf : l.find? (fun p => decide (p.1 = x)) with
      | some q =>
        rw [hf] at s
        simp only at s
        obtain ⟨hI, _⟩ := lru_open s
        obtain ⟨e1, hq⟩ := find_some hf
        simp only [cond_false, decide_eq_true (show (q.2 : Int) ≥ 0 by omega), beq_self_eq_true, Bool.not_true, cond_true, bne_self_eq_false]
        unfold herdsmanlaw18_LruHuge.b12
        rw [Bool.not_true, cond_false]
        have hlen : ((x, q.2) :: l.filter (fun q => !decide (q.1 = x))).length = l.length := by
          rw [← e1]
          exact use_len hg.good.knd hq _ _
        rw [wrap_i64 (n := (i : Int) + 1) (by omega) (by omega)]
        have := ih (i + 1) _ r w (by omega) (by omega) (by omega) s
        rw [hlen] at this
        exact this
      | none =>
        rw [hf] at s
        simp only at s
        rw [if_pos (show (l.length : Int) < k by omega)] at s
        simp only [if_pos (show (l.length : Int) < k by omega), cond_false, decide_eq_false (show ¬ ((-1 : Int) ≥ 0) by decide), beq_self_eq_true, Bool.not_true, Bool.not_false, cond_true, bne_self_eq_false]
        unfold herdsmanlaw18_LruHuge.b12
        rw [Bool.not_false, cond_true, wrap_i64 (n := (i : Int) + 1) (by omega) (by omega), wrap_i64 (n := ((l.length : Nat) : Int) + 1) (by omega) (by omega)]
        have := ih (i + 1) _ r w (by omega) (by omega) (by simp only [List.length_cons]; omega) s
        exact this
    · exact stop _ i l r w hgo s
theorem LruHuge.spec {k0 : Int} (hA : Sl W la ln lc 2 keyc ks) (hw : ∀ x ∈ ks, WfK x) (hQ : ∀ w', Sep No W w' [] → Q true w') : herdsmanlaw18_LruHuge.call k0 la ln lc W Q := by
  refine herdsmanlaw18_LruHuge.body _ _ _ _ _ _ ?_
  unfold herdsmanlaw18_LruHuge.sh
  refine herdsmanref1_Within.big ?_
  have h1 : 201 ≤ 201 + k0 % 4611686018427387704 := by omega
  generalize 201 + k0 % 4611686018427387704 = k at h1
  refine New.spec (Sep.nil (F := No) (w := W)) (fun h => by omega) fun _ p r w s => ?_
  rw [show (some (⟨p, 0, none⟩ : Addr)).isNone = false from rfl, cond_false]
  exact ⟨61, Huge_loop hA hw h1 hQ 60 0 [] r w (by omega) (by omega) (by simp) s⟩
end
def keyS : Sh := .agg 2 [(0, 1, .int .i64), (1, 1, .int .i64)]
theorem rdV_keys {W : World} {v : Value} (h : RdV W (.sl 2 keyS) v) : ∃ a n c ks, v = .slice a n c ∧ Sl W a n c 2 keyc ks ∧ ∀ x ∈ ks, WfK x := by
  obtain ⟨a, n, c, xs, rfl, h1, h2, h3, h4, h5⟩ := rdV_row (f := keyc) (Pr := WfK) (fun es hl he => by
    obtain ⟨_, he⟩ := rd_agg he
    match es, hl with
    | [v0, v1], _ =>
      obtain ⟨k0, he⟩ := rdF_cons he
      obtain ⟨k1, he⟩ := rdF_cons he
      obtain ⟨x0, rfl, w0⟩ := rd_int (w := W) k0
      obtain ⟨x1, rfl, w1⟩ := rd_int (w := W) k1
      exact ⟨(x0, x1), rfl, w0, w1⟩) h
  exact ⟨a, n, c, xs, rfl, ⟨h4, h1, h3⟩, h5⟩
theorem LruHuge_law : LawOk P 6 [.int .i64, .sl 2 keyS] := by
  intro W args h
  obtain ⟨v0, r, rfl, h0, h⟩ := RdAll.cons h
  obtain ⟨v1, r, rfl, h1, h⟩ := RdAll.cons h
  obtain rfl := RdAll.nil h
  obtain ⟨x, rfl, hx⟩ := rdV_int h0
  obtain ⟨a, n, c, ks, rfl, k1, k2⟩ := rdV_keys h1
  exact LruHuge.spec (Q := fun r W' => r = true ∧ Go.RowKit.Below W.heap.size W W') k1 k2 fun w' s => ⟨rfl, sep_below s⟩
end Go.Proofs.Ytfkpabfamfeggaa.S
