/- Layer 7: RingAll answers true. -/
import Derived.Test.YtfmhpmpfkmhgpaaRF
set_option linter.unusedVariables false
set_option linter.unusedSimpArgs false
namespace Go.Proofs.Ytfmhpmpfkmhgpaa.S
open Go.Sx
attribute [local irreducible] LdI LdB LdStr LdP LdS LdM LdV St Bx Al App Cpy MkS MkM EqK RunK RunU CallK SlK blkA rowA joinA ringA
def bl (b : Bool) : List Value := [.bool b]
theorem bl_len (b : Bool) : (bl b).length = 1 := rfl
def wi (xs : List Int) (i : Nat) : Int := 0 + gi xs i % (255 - 0 + 1)
theorem wi_range (xs : List Int) (i : Nat) : 0 ≤ wi xs i ∧ wi xs i ≤ 255 := within_range (by decide)
def orig (f : Int) (xs : List Int) (n : Nat) : List E := (List.range n).map fun i => (f + wi xs i, (i : Int))
theorem orig_mem {f : Int} {xs : List Int} {n : Nat} {e : E} (h : e ∈ orig f xs n) : ∃ j : Nat, j < n ∧ e.2 = j ∧ e.1 = f + wi xs j := by
  obtain ⟨j, hj, rfl⟩ := List.mem_map.1 h
  exact ⟨j, List.mem_range.1 hj, rfl, rfl⟩
theorem orig_up (f : Int) (xs : List Int) (n : Nat) : (orig f xs n).Pairwise fun a b => a.2 < b.2 := by
  unfold orig
  rw [List.pairwise_map]
  refine List.pairwise_lt_range.imp fun h => ?_
  simp only
  omega
section
variable {W : World} {L : List As} {Q : Bool → World → Prop} {la : Option Addr} {ln lc p mb : Nat} {xs : List Int} {f : Int}
theorem All_pops (hA : ArgRow W la ln 1 one xs) (hf : 0 ≤ f ∧ f ≤ 1073741824) (hQ : ∀ w', Sep No W w' L → Q true w') {n : Nat} (hn : n ≤ 80) (hnl : n ≤ ln) :
    ∀ (m i : Nat) (a key item : Int) (l : List E) (bs : List Bk) (met : List Bool) (w : World), i + m = n → l.length = m → met.length = n → l.Sublist (orig f xs n) → (∀ e ∈ l, met[e.2.toNat]? = some false) → (∀ e ∈ l, key < e.1 ∨ key = e.1 ∧ item < e.2) →
      Sep No W w (rowA (some ⟨mb, 0, none⟩) n n 4 1 (flat bl met) :: ringA p a l bs n :: L) → herdsmanlaw7_RingAll.b15 Q (m + 1) la ln lc f (some ⟨p, 0, none⟩) n (some ⟨mb, 0, none⟩) n n key item i w := by
  intro m
  induction m with
  | zero =>
    intro i a key item l bs met w hi hl hmet hsub hm hk s
    show herdsmanlaw7_RingAll.s15 Q (herdsmanlaw7_RingAll.b15 Q 0) _ _ _ _ _ _ _ _ _ _ _ _ _
    unfold herdsmanlaw7_RingAll.s15
    rw [decide_eq_false (by omega), cond_false]
    have hnil : l = [] := List.eq_nil_of_length_eq_zero hl
    refine ring_Pop.spec s (i := 1) rfl (fun _ => ?_) (fun w1 k l1 x l2 bs1 hsplit => by rw [hnil] at hsplit; simp at hsplit)
    refine herdsmanlaw7_told.spec s fun w2 s => ?_
    rw [cond_true, Bool.not_false, cond_true]
    refine ring_Len.spec s (i := 1) rfl ?_
    rw [hl]
    exact hQ w2 (Sep.drop (Sep.drop s))
  | succ m ih =>
    intro i a key item l bs met w hi hl hmet hsub hm hk s
    show herdsmanlaw7_RingAll.s15 Q (herdsmanlaw7_RingAll.b15 Q (m + 1)) _ _ _ _ _ _ _ _ _ _ _ _ _
    unfold herdsmanlaw7_RingAll.s15
    rw [decide_eq_true (by omega), cond_true]
    refine ring_Pop.spec s (i := 1) rfl (fun h => by rw [h] at hl; simp at hl) fun w1 k l1 x l2 bs1 hsplit g1 g2 s1 => ?_
    simp only [List.set_cons_zero, List.set_cons_succ] at s1
    subst hsplit
    have hmem : (k, x) ∈ l1 ++ (k, x) :: l2 := by simp
    obtain ⟨j, hj, hxj, hkj⟩ := orig_mem (hsub.subset hmem)
    simp only at hxj hkj
    subst hxj
    have hmj := hm _ hmem
    simp only [show ((j : Int)).toNat = j from rfl] at hmj
    have hkk := hk _ hmem
    simp only at hkk
    have s := s1
    have hrng := wi_range xs j
    have hup := (orig_up f xs n).sublist hsub
    have hup2 : ∀ e ∈ l2, (j : Int) < e.2 := by
      intro e he
      have h1 := (List.pairwise_append.1 hup).2.1
      exact (List.pairwise_cons.1 h1).1 e he
    have hup1 : ∀ e ∈ l1, e.2 ≠ (j : Int) := by
      intro e he
      have h1 := (List.pairwise_append.1 hup).2.2 e he (k, (j : Int)) (by simp)
      simp only at h1
      omega
    have hxl := hA.1
    obtain ⟨ad, rfl, hc⟩ := hA.2 j _ (gi_get (by omega))
    rw [Bool.not_true, cond_false, decide_eq_false (by omega), cond_false, decide_eq_false (by omega), cond_false]
    refine ⟨by omega, by omega, wA_some ?_⟩
    rw [show ((j : Int)).toNat = j from rfl]
    refine Sep.LdB_el (k := j) bl_len s (i := 0) rfl hmj (j := 0) (by exact el_addr0 ..) rfl ?_
    rw [cond_false]
    refine ⟨by omega, by omega, wA_some ?_⟩
    refine Sep.LdI_arg s (hc 0 _ rfl) ?_
    refine herdsmanref1_Within.spec (by decide) (by decide) (by decide) ?_
    rw [show 0 + gi xs j % (255 - 0 + 1) = wi xs j from rfl, wrap_i64 (n := f + wi xs j) (by omega) (by omega), ← hkj, bne_self_eq_false, cond_false, decide_eq_false (by omega), cond_false]
    have next : herdsmanlaw7_RingAll.b20 (herdsmanlaw7_RingAll.b15 Q (m + 1)) Q (some ad) ln lc f (some ⟨p, 0, none⟩) n (some ⟨mb, 0, none⟩) n n i k j w1 := by
      unfold herdsmanlaw7_RingAll.b20
      refine ⟨by omega, by omega, wA_some ?_⟩
      rw [show ((j : Int)).toNat = j from rfl]
      refine Sep.St_el bl_len (k := j) (j := 0) (x := false) (x' := true) s (i := 0) rfl hmj (by exact el_addr0 ..) (by decide) rfl rfl fun w2 s => ?_
      simp only [List.set_cons_zero] at s
      rw [wrap_i64 (by omega) (by omega)]
      refine ih (i + 1) k k j (l1 ++ l2) bs1 (met.set j true) w2 (by omega) (by simp at hl ⊢; omega) (by simpa using hmet) ?_ (fun e he => ?_) (fun e he => ?_) s
      · exact List.Sublist.trans (List.Sublist.append (.refl _) (.cons _ (.refl _))) hsub
      · have hne : e.2 ≠ (j : Int) := by
          rcases List.mem_append.1 he with he | he
          · exact hup1 e he
          · have := hup2 e he
            omega
        have hmem' : e ∈ l1 ++ (k, (j : Int)) :: l2 := by
          rcases List.mem_append.1 he with he | he <;> simp [he]
        obtain ⟨j', _, hj', _⟩ := orig_mem (hsub.subset hmem')
        have hme := hm e hmem'
        rw [hj'] at hne hme ⊢
        simp only [show ((j' : Int)).toNat = j' from rfl] at hme ⊢
        rw [List.getElem?_set_ne (by omega)]
        exact hme
      · rcases List.mem_append.1 he with he | he
        · exact .inl (g1 e he)
        · have := g2 e he
          have := hup2 e he
          omega
    cases hkey : (k == key) with
    | true =>
      have hkey := eq_of_beq hkey
      rw [cond_true, decide_eq_false (by omega), cond_false]
      refine ring_At.spec s (i := 1) rfl ?_
      rw [bne_self_eq_false, cond_false]
      exact next
    | false =>
      rw [cond_false]
      refine ring_At.spec s (i := 1) rfl ?_
      rw [bne_self_eq_false, cond_false]
      exact next
theorem All_b12 (hA : ArgRow W la ln 1 one xs) (hf : 0 ≤ f ∧ f ≤ 1073741824) (hQ : ∀ w', Sep No W w' L → Q true w') {n : Nat} (hn : n ≤ 80) (hnl : n ≤ ln) {a : Int} {bs : List Bk} {w : World} (s : Sep No W w (ringA p a (orig f xs n) bs n :: L)) :
    herdsmanlaw7_RingAll.b12 Q la ln lc f (some ⟨p, 0, none⟩) n w := by
  unfold herdsmanlaw7_RingAll.b12
  refine Sep.MkS (f := bl) (x0 := false) (size := 1) (bytes := 1) (ln := n) (cn := n) tab_ok s rfl rfl rfl rfl rfl rfl (by decide) bl_len rfl (fun u hu => by simp [bl] at hu; subst hu; rfl) rfl rfl (Nat.le_refl _) (by omega) (by simp only [maxLen]; omega) fun mb w1 s => ?_
  refine ⟨n + 1, All_pops hA hf hQ hn hnl n 0 a (-1) (-1) _ bs _ w1 (by omega) (by simp [orig]) (by simp) (.refl _) (fun e he => ?_) (fun e he => ?_) s⟩
  · obtain ⟨j, hj, h1, _⟩ := orig_mem he
    rw [h1]
    simp only [show ((j : Int)).toNat = j from rfl]
    rw [List.getElem?_replicate, if_pos hj]
  · obtain ⟨j, hj, _, h2⟩ := orig_mem he
    have := wi_range xs j
    omega
theorem All_fill (hA : ArgRow W la ln 1 one xs) (hf : 0 ≤ f ∧ f ≤ 1073741824) (hQ : ∀ w', Sep No W w' L → Q true w') :
    ∀ (m i : Nat) (bs : List Bk) (w : World), i + m = 80 → i ≤ ln → Sep No W w (ringA p f (orig f xs i) bs i :: L) → herdsmanlaw7_RingAll.b7 Q (m + 1) la ln lc f (some ⟨p, 0, none⟩) i i w := by
  intro m
  induction m with
  | zero =>
    intro i bs w hi hil s
    show herdsmanlaw7_RingAll.s7 Q (herdsmanlaw7_RingAll.b7 Q 0) _ _ _ _ _ _ _ _
    unfold herdsmanlaw7_RingAll.s7
    have hb := All_b12 (lc := lc) hA hf hQ (by omega) hil s
    cases decide ((i : Int) < (ln : Int)) with
    | false => exact hb
    | true =>
      rw [cond_true, decide_eq_false (by omega), cond_false]
      exact hb
  | succ m ih =>
    intro i bs w hi hil s
    show herdsmanlaw7_RingAll.s7 Q (herdsmanlaw7_RingAll.b7 Q (m + 1)) _ _ _ _ _ _ _ _
    unfold herdsmanlaw7_RingAll.s7
    by_cases h1 : i < ln
    · rw [decide_eq_true (by omega), cond_true, decide_eq_true (by omega), cond_true]
      have hxl := hA.1
      obtain ⟨ad, rfl, hc⟩ := hA.2 i _ (gi_get (by omega))
      have hrng := wi_range xs i
      refine ⟨by omega, by omega, wA_some ?_⟩
      refine Sep.LdI_arg s (hc 0 _ rfl) ?_
      refine herdsmanref1_Within.spec (by decide) (by decide) (by decide) ?_
      rw [show 0 + gi xs i % (255 - 0 + 1) = wi xs i from rfl, wrap_i64 (n := f + wi xs i) (by omega) (by omega)]
      refine ring_Put.spec s (i := 0) rfl (by omega) (by omega) (fun h => by omega) fun _ w1 bs1 s => ?_
      simp only [List.set_cons_zero] at s
      rw [Bool.not_true, cond_false, wrap_i64 (n := (i : Int) + 1) (by omega) (by omega)]
      refine ih (i + 1) bs1 w1 (by omega) (by omega) ?_
      have e : orig f xs (i + 1) = orig f xs i ++ [(f + wi xs i, (i : Int))] := by unfold orig; rw [List.range_succ, List.map_append]; rfl
      rw [e]
      exact s
    · rw [decide_eq_false (by omega), cond_false]
      exact All_b12 hA hf hQ (by omega) hil s
theorem herdsmanlaw7_RingAll.spec {f0 : Int} (hA : ArgRow W la ln 1 one xs) (hQ : ∀ w', Sep No W w' [] → Q true w') : herdsmanlaw7_RingAll.call f0 la ln lc W Q := by
  refine herdsmanlaw7_RingAll.body _ _ _ _ _ _ ?_
  unfold herdsmanlaw7_RingAll.sh
  refine herdsmanref1_Within.spec (by decide) (by decide) (by decide) ?_
  have r1 := within_range (n := f0) (lo := 0) (hi := 1073741824) (by decide)
  generalize (0 + f0 % (1073741824 - 0 + 1)) = f at r1
  refine ring_New.spec (W := W) (F := No) (L := []) Sep.nil (fun h => by omega) fun _ p w1 bs1 s => isNone_pt ?_
  exact ⟨81, All_fill hA r1 hQ 80 0 bs1 w1 (by omega) (by omega) s⟩
end
theorem RingAll_law : LawOk P 3 [.int .i64, .sl 1 (.int .i64)] := by
  intro W args h
  obtain ⟨v0, r, rfl, h0, h⟩ := RdAll.cons h
  obtain ⟨v1, r, rfl, h1, h⟩ := RdAll.cons h
  obtain rfl := RdAll.nil h
  obtain ⟨p, rfl, _⟩ := rdV_int h0
  obtain ⟨a, n, c, xs, rfl, _, _, _, k4, _⟩ := rdV_ints h1
  exact herdsmanlaw7_RingAll.spec (Q := fun r W' => r = true ∧ Go.RowKit.Below W.heap.size W W') k4 fun w' s => ⟨rfl, sep_below s⟩
end Go.Proofs.Ytfmhpmpfkmhgpaa.S
