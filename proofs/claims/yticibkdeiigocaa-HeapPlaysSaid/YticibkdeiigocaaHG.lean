/- Layer 13: HeapSorts answers true. -/
import Derived.Test.YticibkdeiigocaaHF
set_option linter.unusedVariables false
set_option linter.unusedSimpArgs false
namespace Go.Proofs.Yticibkdeiigocaa.S
open Go.Sx
theorem zc30 : zc T 30 = [.int .i64 0, .int .i64 0] := rfl
theorem eql30 {x y : Operand} {a b c d : Int} {w : World} {K : Bool → World → Prop} (h : K ((a == c) && ((b == d) && true)) w) : EqK P .eql 30 x y (.agg #[.int .i64 a, .int .i64 b]) (.agg #[.int .i64 c, .int .i64 d]) w K := by
  obtain ⟨inf, u, z, k1, _⟩ := ok_info tab_ok (t := 3) rfl
  exact EqK_arr (n := 2) (e := 3) Try.underlying30 k1 (by kernel_rfl) (by kernel_rfl) h
attribute [local irreducible] LdI LdB LdStr LdP LdS LdM LdV St Bx Al App Cpy MkS MkM EqK RunK RunU CallK SlK blkA rowA heapA
def bl (b : Bool) : List Value := [.bool b]
theorem bl_len (b : Bool) : (bl b).length = 1 := rfl
def unmet : List E → List Bool → List E
  | v :: vs, m :: ms => match m with
    | true => unmet vs ms
    | false => v :: unmet vs ms
  | _, _ => []
theorem unmet_take : ∀ {vs : List E} {ms : List Bool} {j : Nat} {v : E}, vs[j]? = some v → ms[j]? = some false → (unmet vs ms).Perm (v :: unmet vs (ms.set j true))
  | [], _, j, v, h, _ => by simp at h
  | _ :: _, [], j, v, _, h => by simp at h
  | x :: vs, m :: ms, 0, v, h1, h2 => by
    simp only [List.getElem?_cons_zero, Option.some.injEq] at h1 h2
    subst h1; subst h2
    exact .refl _
  | x :: vs, m :: ms, j + 1, v, h1, h2 => by
    simp only [List.getElem?_cons_succ] at h1 h2
    have ih := unmet_take h1 h2
    cases m with
    | true => exact ih
    | false => exact (List.Perm.cons x ih).trans (List.Perm.swap v x _)
theorem unmet_mem : ∀ {vs : List E} {ms : List Bool} {v : E}, v ∈ unmet vs ms → ∃ j : Nat, vs[j]? = some v ∧ ms[j]? = some false
  | [], ms, v, h => by simp [unmet] at h
  | _ :: _, [], v, h => by simp [unmet] at h
  | x :: vs, m :: ms, v, h => by
    cases m with
    | true =>
      obtain ⟨j, h1, h2⟩ := unmet_mem (vs := vs) (ms := ms) h
      exact ⟨j + 1, h1, h2⟩
    | false =>
      rcases List.mem_cons.1 h with rfl | h
      · exact ⟨0, rfl, rfl⟩
      · obtain ⟨j, h1, h2⟩ := unmet_mem (vs := vs) (ms := ms) h
        exact ⟨j + 1, h1, h2⟩
theorem unmet_all : ∀ (vs : List E), unmet vs (List.replicate vs.length false) = vs
  | [] => rfl
  | x :: vs => congrArg (x :: ·) (unmet_all vs)
section
variable {W : World} {L : List As} {Q : Bool → World → Prop}
theorem Sorts_find {P16 : Option Addr → Option Addr → Nat → Nat → Option Addr → Nat → Nat → Addr → Int → World → Prop} {h0 la : Option Addr} {N lc mb tb pl p n c : Nat} {a : Option Addr} {es vs : List E} {met : List Bool} {last v : E} (hvs : vs.length = N) (hmet : met.length = N) (hN : N ≤ 1000)
    (hex : ∃ j : Nat, vs[j]? = some v ∧ met[j]? = some false)
    (h : ∀ w' (j : Nat), vs[j]? = some v → met[j]? = some false → Sep No W w' (blkA pl 30 (pr v) :: rowA (some ⟨mb, 0, none⟩) N N 4 1 (flat bl (met.set j true)) :: rowA la N lc 30 2 (flat pr vs) :: heapA p a c es :: L) → P16 h0 la N lc (some ⟨mb, 0, none⟩) N N ⟨pl, 0, none⟩ ((n + 1 : Nat) : Int) w')
    (hn : n < 1000) :
    ∀ (m i : Nat) (at0 : Int) (w : World), i + m = N → (at0 = -1 ∧ (∀ j, j < i → ¬ (vs[j]? = some v ∧ met[j]? = some false)) ∨ ∃ j : Nat, at0 = j ∧ vs[j]? = some v ∧ met[j]? = some false) →
      Sep No W w (blkA pl 30 (pr last) :: rowA (some ⟨mb, 0, none⟩) N N 4 1 (flat bl met) :: rowA la N lc 30 2 (flat pr vs) :: heapA p a c es :: L) →
      herdsmanlaw13_HeapSorts.b24 P16 Q (m + 1) h0 la N lc (some ⟨mb, 0, none⟩) N N ⟨pl, 0, none⟩ n v.1 v.2 at0 i w := by
  intro m
  induction m with
  | zero =>
    intro i at0 w hi hat s
    obtain rfl : i = N := by omega
    show herdsmanlaw13_HeapSorts.s24 P16 Q (herdsmanlaw13_HeapSorts.b24 P16 Q 0) _ _ _ _ _ _ _ _ _ _ _ _ _ _
    unfold herdsmanlaw13_HeapSorts.s24
    rw [decide_eq_false (by omega), cond_false]
    obtain ⟨j, rfl, hj1, hj2⟩ : ∃ j : Nat, at0 = j ∧ vs[j]? = some v ∧ met[j]? = some false := by
      rcases hat with ⟨_, hno⟩ | hat
      · obtain ⟨j, h1, h2⟩ := hex
        have hj := (List.getElem?_eq_some_iff.1 h1).1
        exact absurd ⟨h1, h2⟩ (hno j (by omega))
      · exact hat
    have hjl := (List.getElem?_eq_some_iff.1 hj1).1
    rw [decide_eq_false (by omega), cond_false]
    refine ⟨by omega, by omega, wA_some ?_⟩
    refine Sep.St_el bl_len (k := j) (j := 0) (x := false) (x' := true) s (i := 1) rfl hj2 (by rw [show ((j : Int)).toNat = j from rfl]; exact el_addr0 ..) (by decide) rfl rfl fun w1 s => ?_
    simp only [List.set_cons_zero, List.set_cons_succ] at s
    refine Sep.St s (i := 0) rfl rfl rfl fun w2 s => ?_
    refine Sep.St s (i := 0) rfl rfl rfl fun w3 s => ?_
    simp only [List.set_cons_zero, List.set_cons_succ] at s
    rw [wrap_i64 (by omega) (by omega)]
    exact h w3 j hj1 hj2 s
  | succ m ih =>
    intro i at0 w hi hat s
    show herdsmanlaw13_HeapSorts.s24 P16 Q (herdsmanlaw13_HeapSorts.b24 P16 Q (m + 1)) _ _ _ _ _ _ _ _ _ _ _ _ _ _
    unfold herdsmanlaw13_HeapSorts.s24
    rw [decide_eq_true (by omega), cond_true]
    have gv := g_get (es := vs) (i := i) (by omega)
    have gm : met[i]? = some (met[i]'(by omega)) := List.getElem?_eq_getElem (by omega)
    generalize met[i]'(by omega) = mi at gm
    refine ⟨by omega, by omega, wA_some ?_⟩
    refine Sep.LdB_el bl_len s (i := 1) rfl gm (j := 0) (by rw [show ((i : Int)).toNat = i from rfl]; exact el_addr0 ..) rfl ?_
    rw [wrap_i64 (n := (i : Int) + 1) (by omega) (by omega)]
    cases mi with
    | true =>
      rw [Bool.not_true, cond_false]
      refine ih (i + 1) at0 w (by omega) ?_ s
      rcases hat with ⟨h1, h2⟩ | h1
      · refine .inl ⟨h1, fun j hj hh => ?_⟩
        by_cases hji : j = i
        · subst hji
          rw [gm] at hh
          cases hh.2
        · exact h2 j (by omega) hh
      · exact .inr h1
    | false =>
      rw [Bool.not_false, cond_true]
      obtain ⟨b, o, rfl⟩ := rowA_some s (i := 2) rfl (by omega)
      refine ⟨by omega, by omega, wA_some ?_⟩
      rw [show ((i : Int)).toNat = i from rfl]
      refine Sep.LdI_el pr_len s (i := 2) rfl gv (j := 0) (el_addr ..) rfl ?_
      refine Sep.LdI_el pr_len s (i := 2) rfl gv (j := 1) (el_addr ..) rfl ?_
      refine eql30 ?_
      cases hc : ((g vs i).1 == v.1 && ((g vs i).2 == v.2 && true)) with
      | true =>
        rw [cond_true]
        refine ih (i + 1) i w (by omega) (.inr ⟨i, rfl, ?_, gm⟩) s
        rw [gv]
        simp only [Bool.and_true, Bool.and_eq_true, beq_iff_eq] at hc
        rw [Option.some.injEq]
        exact Prod.ext hc.1 hc.2
      | false =>
        rw [cond_false]
        refine ih (i + 1) at0 w (by omega) ?_ s
        rcases hat with ⟨h1, h2⟩ | h1
        · refine .inl ⟨h1, fun j hj hh => ?_⟩
          by_cases hji : j = i
          · subst hji
            rw [gv] at hh
            have := Option.some.inj hh.1
            rw [this] at hc
            simp at hc
          · exact h2 j (by omega) hh
        · exact .inr h1
theorem Sorts_pops {la : Option Addr} {N lc mb pl p : Nat} {vs : List E} (hvs : vs.length = N) (hN : N ≤ 100) (hQ : ∀ w', Sep No W w' L → Q true w') :
    ∀ (m n : Nat) (w : World) (a : Option Addr) (c : Nat) (es : List E) (met : List Bool) (last : E), n + m = N → met.length = N → es.length = m → es.Perm (unmet vs met) → (∀ x ∈ es, lt2 x last = false) →
      Sep No W w (blkA pl 30 (pr last) :: rowA (some ⟨mb, 0, none⟩) N N 4 1 (flat bl met) :: rowA la N lc 30 2 (flat pr vs) :: heapA p a c es :: L) →
      herdsmanlaw13_HeapSorts.b16 Q (m + 1) (some ⟨p, 0, none⟩) la N lc (some ⟨mb, 0, none⟩) N N ⟨pl, 0, none⟩ n w := by
  intro m
  induction m with
  | zero =>
    intro n w a c es met last hn hmet hl hp hlast s
    show herdsmanlaw13_HeapSorts.s16 Q (herdsmanlaw13_HeapSorts.b16 Q 0) _ _ _ _ _ _ _ _ _ _
    unfold herdsmanlaw13_HeapSorts.s16
    rw [decide_eq_false (by omega), cond_false]
    have he : es = [] := List.eq_nil_of_length_eq_zero hl
    refine heap_Pop.spec s (i := 3) rfl (by omega) (fun _ w1 s => ?_) (fun h => by omega)
    refine herdsmanlaw13_told.spec s fun w2 s => ?_
    rw [cond_true, Bool.not_false, cond_true]
    refine heap_Len.spec s (i := 3) rfl ?_
    rw [hl]
    exact hQ w2 (Sep.drop (Sep.drop (Sep.drop (Sep.drop s))))
  | succ m ih =>
    intro n w a c es met last hn hmet hl hp hlast s
    show herdsmanlaw13_HeapSorts.s16 Q (herdsmanlaw13_HeapSorts.b16 Q (m + 1)) _ _ _ _ _ _ _ _ _ _
    unfold herdsmanlaw13_HeapSorts.s16
    rw [decide_eq_true (by omega), cond_true]
    have hne : es ≠ [] := fun e => by rw [e] at hl; simp at hl
    have hh := heap_heap s (i := 3) rfl
    refine heap_Top.spec s (i := 3) rfl (fun e => absurd e hne) fun _ w1 s => ?_
    refine heap_Pop.spec s (i := 3) rfl (by omega) (fun e => absurd e hne) fun hpos w2 a2 c2 es2 q2 s => ?_
    simp only [List.set_cons_zero, List.set_cons_succ] at s
    simp only [bne_self_eq_false, cond_false, Bool.not_true]
    have hmem : g es 0 ∈ es := g_mem hpos
    have hge := hlast _ hmem
    have hge' := lt2_not.1 hge
    have hmm := unmet_mem (hp.mem_iff.1 hmem)
    have next : ∀ w3, Sep No W w3 (blkA pl 30 (pr last) :: rowA (some ⟨mb, 0, none⟩) N N 4 1 (flat bl met) :: rowA la N lc 30 2 (flat pr vs) :: heapA p a2 c2 es2 :: L) →
        ∃ k', herdsmanlaw13_HeapSorts.b24 (herdsmanlaw13_HeapSorts.b16 Q (m + 1)) Q k' (some ⟨p, 0, none⟩) la N lc (some ⟨mb, 0, none⟩) N N ⟨pl, 0, none⟩ n (g es 0).1 (g es 0).2 (-1) 0 w3 := by
      intro w3 s
      refine ⟨N + 1, Sorts_find (tb := 0) hvs hmet (by omega) hmm (fun w4 j k1 k2 s => ?_) (by omega) N 0 (-1) w3 (by omega) (.inl ⟨rfl, fun j hj => by omega⟩) s⟩
      refine ih (n + 1) w4 a2 c2 es2 (met.set j true) (g es 0) (by omega) (by simpa using hmet) (by have := q2.length_eq; simp at this; omega) ?_ (fun x hx => ?_) s
      · exact List.Perm.cons_inv (q2.trans (hp.trans (unmet_take k1 k2)))
      · exact heap_least_mem hh (q2.mem_iff.1 (List.mem_cons_of_mem _ hx))
    refine ⟨by decide, by decide, ?_⟩
    refine Sep.LdI s (i := 0) (j := 0) rfl rfl rfl ?_
    rw [decide_eq_false (by omega), cond_false]
    refine ⟨by decide, by decide, ?_⟩
    refine Sep.LdI s (i := 0) (j := 0) rfl rfl rfl ?_
    cases hc : ((g es 0).1 == last.1) with
    | false =>
      rw [cond_false]
      exact next w2 s
    | true =>
      rw [cond_true]
      refine ⟨by decide, by decide, ?_⟩
      refine Sep.LdI s (i := 0) (j := 1) rfl rfl rfl ?_
      have hc' := eq_of_beq hc
      rw [decide_eq_false (by omega), cond_false]
      exact next w2 s
def low : E := (-9223372036854775808, -9223372036854775808)
def okE (v : E) : Prop := -9223372036854775808 ≤ v.1 ∧ -9223372036854775808 ≤ v.2
theorem Sorts_b13 {la : Option Addr} {N lc p c : Nat} {a : Option Addr} {es vs : List E} {w : World} (hvs : vs.length = N) (hN : N ≤ 100) (hQ : ∀ w', Sep No W w' L → Q true w') (hp : es.Perm vs) (hok : ∀ v ∈ vs, okE v)
    (s : Sep No W w (rowA la N lc 30 2 (flat pr vs) :: heapA p a c es :: L)) : herdsmanlaw13_HeapSorts.b13 Q (some ⟨p, 0, none⟩) la N lc w := by
  unfold herdsmanlaw13_HeapSorts.b13
  refine Sep.MkS (f := bl) (x0 := false) (size := 1) (bytes := 1) (ln := N) (cn := N) tab_ok s rfl rfl rfl rfl rfl rfl (by decide) bl_len rfl (fun u hu => by simp [bl] at hu; subst hu; rfl) rfl rfl (Nat.le_refl _) (by omega) (by simp only [maxLen]; omega) fun mb w1 s => ?_
  refine Sep.Al s fun pl w2 s => ?_
  rw [zc30] at s
  refine Sep.St s (i := 0) rfl rfl rfl fun w3 s => ?_
  refine Sep.St s (i := 0) rfl rfl rfl fun w4 s => ?_
  simp only [List.set_cons_zero, List.set_cons_succ] at s
  have hu : unmet vs (List.replicate N false) = vs := by rw [← hvs]; exact unmet_all vs
  refine ⟨N + 1, Sorts_pops hvs hN hQ N 0 w4 a c es (List.replicate N false) low (by omega) (by simp) (by rw [hp.length_eq]; exact hvs) (by rw [hu]; exact hp) (fun x hx => ?_) s⟩
  have := hok x (hp.mem_iff.1 hx)
  rw [lt2_not]
  unfold okE at this
  simp only [low]
  omega
theorem Sorts_fill {ka ia : Option Addr} {kn kc inn ic p : Nat} {few : Bool} {keys items : List Int} (hK : ArgRow W ka kn 1 one keys) (hI : ArgRow W ia inn 1 one items) (hk : ∀ x ∈ keys, (Lit.int .i64 x).wf = true) (hi : ∀ x ∈ items, (Lit.int .i64 x).wf = true) (hQ : ∀ w', Sep No W w' L → Q true w') :
    ∀ (m i : Nat) (w : World) (a la : Option Addr) (c lc : Nat) (es vs : List E), i + m = 100 → vs.length = i → es.Perm vs → (∀ v ∈ vs, okE v) → Sep No W w (rowA la i lc 30 2 (flat pr vs) :: heapA p a c es :: L) →
      herdsmanlaw13_HeapSorts.b6 Q (m + 1) ka kn kc ia inn ic few (some ⟨p, 0, none⟩) la i lc i w := by
  intro m
  induction m with
  | zero =>
    intro i w a la c lc es vs hi' hl hp hok s
    show herdsmanlaw13_HeapSorts.s6 Q (herdsmanlaw13_HeapSorts.b6 Q 0) _ _ _ _ _ _ _ _ _ _ _ _ _
    unfold herdsmanlaw13_HeapSorts.s6
    have hb := Sorts_b13 hl (by omega) hQ hp hok s
    cases decide ((i : Int) < (kn : Int)) with
    | false => exact hb
    | true =>
      rw [cond_true]
      cases decide ((i : Int) < (inn : Int)) with
      | false => exact hb
      | true =>
        rw [cond_true, decide_eq_false (by omega), cond_false]
        exact hb
  | succ m ih =>
    intro i w a la c lc es vs hi' hl hp hok s
    show herdsmanlaw13_HeapSorts.s6 Q (herdsmanlaw13_HeapSorts.b6 Q (m + 1)) _ _ _ _ _ _ _ _ _ _ _ _ _
    unfold herdsmanlaw13_HeapSorts.s6
    have hb := Sorts_b13 hl (by omega) hQ hp hok s
    by_cases h1 : i < kn
    · rw [decide_eq_true (by omega), cond_true]
      by_cases h2 : i < inn
      · rw [decide_eq_true (by omega), cond_true, decide_eq_true (by omega), cond_true]
        have hkl := hK.1
        have hil := hI.1
        obtain ⟨ad, rfl, hc⟩ := hK.2 i _ (gi_get (by omega))
        obtain ⟨ad', rfl, hc'⟩ := hI.2 i _ (gi_get (by omega))
        have wk := wf_i64 (hk _ (List.mem_of_getElem? (gi_get (l := keys) (i := i) (by omega))))
        have wi := wf_i64 (hi _ (List.mem_of_getElem? (gi_get (l := items) (i := i) (by omega))))
        have last : ∀ (px : Nat) (v : E) (w' : World), okE v → Sep No W w' (blkA px 30 (pr v) :: rowA la i lc 30 2 (flat pr vs) :: heapA p a c es :: L) →
            herdsmanlaw13_HeapSorts.b11 (herdsmanlaw13_HeapSorts.b6 Q (m + 1)) Q (some ad) kn kc (some ad') inn ic few (some ⟨p, 0, none⟩) la i lc i ⟨px, 0, none⟩ w' := by
          intro px v w' hv s
          unfold herdsmanlaw13_HeapSorts.b11
          refine ⟨by decide, by decide, ?_⟩
          refine Sep.LdI s (i := 0) (j := 0) rfl rfl rfl ?_
          refine ⟨by decide, by decide, ?_⟩
          refine Sep.LdI s (i := 0) (j := 1) rfl rfl rfl ?_
          refine heap_Push.spec s (i := 2) rfl (by rw [hp.length_eq]; omega) fun w1 a1 c1 e1 q1 s => ?_
          simp only [List.set_cons_zero, List.set_cons_succ] at s
          refine Sep.LdI s (i := 0) (j := 0) rfl rfl rfl ?_
          refine Sep.LdI s (i := 0) (j := 1) rfl rfl rfl ?_
          refine Sep.Bx s fun bx w2 s => ?_
          have src := src_blk (m := 1) (size := 2) s (i := 0) rfl rfl (fun u hu => by simp at hu; rcases hu with rfl | rfl <;> rfl)
          refine Sep.App tab_ok s (i := 2) (size := 2) (bytes := 16) rfl rfl rfl rfl rfl rfl (by decide) rfl src (by simp only [maxLen]; omega) (by omega) (fun e => by cases e) fun a' c' w3 s => ?_
          simp only [List.set_cons_zero, List.set_cons_succ] at s
          have s := Sep.drop (Sep.drop s)
          have e1 : flat pr vs ++ [.int .i64 v.1, .int .i64 v.2] = flat pr (vs ++ [v]) := by rw [flat_append]; rfl
          rw [e1] at s
          rw [wrap_i64 (by omega) (by omega)]
          refine ih (i + 1) w3 a1 a' c1 c' _ (vs ++ [v]) (by omega) (by simp [hl]) (q1.trans (hp.append_right _)) (fun x hx => ?_) s
          rcases List.mem_append.1 hx with hx | hx
          · exact hok x hx
          · rw [List.mem_singleton.1 hx]; exact hv
        have s' : Sep No W w.drew _ := s
        refine ⟨by omega, by omega, wA_some ?_⟩
        refine Sep.LdI_arg s' (hc 0 _ rfl) ?_
        refine ⟨by omega, by omega, wA_some ?_⟩
        refine Sep.LdI_arg s' (hc' 0 _ rfl) ?_
        refine Sep.Al s' fun px w1 s => ?_
        rw [zc30] at s
        refine ⟨Sep.argc s (hc' 0 _ rfl), Sep.argc s (hc 0 _ rfl), ?_⟩
        refine Sep.St s (i := 0) rfl rfl rfl fun w2 s => ?_
        refine Sep.St s (i := 0) rfl rfl rfl fun w3 s => ?_
        simp only [List.set_cons_zero, List.set_cons_succ] at s
        cases few with
        | false =>
          rw [cond_false]
          exact last px (gi keys i, gi items i) w3 ⟨wk.1, wi.1⟩ s
        | true =>
          rw [cond_true]
          have s3 : Sep No W w3.drew _ := s
          refine ⟨by omega, by omega, wA_some ?_⟩
          refine Sep.LdI_arg s3 (hc 0 _ rfl) ?_
          refine ⟨by omega, by omega, wA_some ?_⟩
          refine Sep.LdI_arg s3 (hc' 0 _ rfl) ?_
          refine herdsmanref1_Within.spec (by decide) (by decide) (by decide) ?_
          refine ⟨Sep.argc s3 (hc' 0 _ rfl), ?_⟩
          refine herdsmanref1_Within.spec (by decide) (by decide) (by decide) ?_
          have r1 := within_range (n := gi keys i) (lo := 0) (hi := 5) (by decide)
          have r2 := within_range (n := gi items i) (lo := 0) (hi := 5) (by decide)
          generalize (0 + gi keys i % (5 - 0 + 1)) = x1 at r1
          generalize (0 + gi items i % (5 - 0 + 1)) = x2 at r2
          refine Sep.St s3 (i := 0) rfl rfl rfl fun w4 s => ?_
          refine Sep.St s (i := 0) rfl rfl rfl fun w5 s => ?_
          simp only [List.set_cons_zero, List.set_cons_succ] at s
          exact last px (x1, x2) w5 ⟨by simp only; omega, by simp only; omega⟩ s
      · rw [decide_eq_false (show ¬ ((i : Int) < (inn : Int)) by omega), cond_false]
        exact hb
    · rw [decide_eq_false (by omega), cond_false]
      exact hb
theorem herdsmanlaw13_HeapSorts.spec {ka ia : Option Addr} {kn kc inn ic : Nat} {few : Bool} {keys items : List Int} (hK : ArgRow W ka kn 1 one keys) (hI : ArgRow W ia inn 1 one items) (hk : ∀ x ∈ keys, (Lit.int .i64 x).wf = true) (hi : ∀ x ∈ items, (Lit.int .i64 x).wf = true) (hQ : ∀ w', Sep No W w' [] → Q true w') :
    herdsmanlaw13_HeapSorts.call ka kn kc ia inn ic few W Q := by
  refine herdsmanlaw13_HeapSorts.body _ _ _ _ _ _ _ _ _ ?_
  unfold herdsmanlaw13_HeapSorts.sh
  refine heap_New.spec (W := W) (F := No) (L := []) Sep.nil fun p w1 s => isNone_pt ?_
  have s := Sep.row_nil s 30 2
  exact ⟨101, Sorts_fill hK hI hk hi hQ 100 0 w1 none none 0 0 [] [] (by omega) rfl (.refl _) (by simp) s⟩
end
theorem HeapSorts_law : LawOk P 4 [.sl 1 (.int .i64), .sl 1 (.int .i64), .bool] := by
  intro W args h
  obtain ⟨v0, r, rfl, h0, h⟩ := RdAll.cons h
  obtain ⟨v1, r, rfl, h1, h⟩ := RdAll.cons h
  obtain ⟨v2, r, rfl, h2, h⟩ := RdAll.cons h
  obtain rfl := RdAll.nil h
  obtain ⟨a, n, c, xs, rfl, _, _, _, k4, k5⟩ := rdV_ints h0
  obtain ⟨a', n', c', xs', rfl, _, _, _, q4, q5⟩ := rdV_ints h1
  obtain ⟨b, rfl⟩ := rdV_bool h2
  exact herdsmanlaw13_HeapSorts.spec (Q := fun r W' => r = true ∧ Go.RowKit.Below W.heap.size W W') k4 q4 k5 q5 fun w' s => ⟨rfl, sep_below s⟩
end Go.Proofs.Yticibkdeiigocaa.S
