/- Layer 18: LruLast answers true. -/
import Derived.Test.YtfkpabfamfeggaaUE
set_option linter.unusedVariables false
set_option linter.unusedSimpArgs false
namespace Go.Proofs.Ytfkpabfamfeggaa.S
open Go.Sx
open Go.Maps (Keyed)
/-! The last ones, each once. -/
def nubK : List (Int × Int) → List (Int × Int)
  | [] => []
  | x :: xs => x :: (nubK xs).filter (fun y => !decide (y = x))
theorem nub_nodup : ∀ (xs : List (Int × Int)), (nubK xs).Nodup
  | [] => .nil
  | x :: xs => by
    rw [nubK, List.nodup_cons]
    exact ⟨fun h => by simpa using (List.mem_filter.1 h).2, (nub_nodup xs).filter _⟩
theorem nub_app (ys xs : List (Int × Int)) : ∃ zs, nubK (ys ++ xs) = nubK ys ++ zs := by
  induction ys with
  | nil => exact ⟨_, rfl⟩
  | cons y ys ih =>
    obtain ⟨zs, e⟩ := ih
    exact ⟨zs.filter (fun z => !decide (z = y)), by rw [List.cons_append, nubK, e, List.filter_append, nubK, List.cons_append]⟩
theorem nub_snoc (ys : List (Int × Int)) (x : Int × Int) : nubK (ys ++ [x]) = if x ∈ nubK ys then nubK ys else nubK ys ++ [x] := by
  induction ys with
  | nil => rfl
  | cons y ys ih =>
    rw [List.cons_append, nubK, ih, nubK]
    by_cases hx : x ∈ nubK ys
    · rw [if_pos hx, if_pos]
      by_cases e : x = y
      · rw [e]; simp
      · exact List.mem_cons_of_mem _ (List.mem_filter.2 ⟨hx, by simp [e]⟩)
    · rw [if_neg hx, List.filter_append]
      by_cases e : x = y
      · subst e
        rw [if_pos (by simp)]
        simp
      · rw [if_neg (fun h => by
          rcases List.mem_cons.1 h with h | h
          · exact e h
          · exact hx (List.mem_filter.1 h).1)]
        simp [e]
/-- What a use does to the keys. -/
theorem use_keys {n : Nat} {k : Int} {l : KS} {D : List (Int × Int)} {q : Int × Int} (hn : 1 ≤ n) (hk : k = n) (hg : Good k l) (hD : D.Nodup) (h : l.map (·.1) = D.take n) :
    (useP k l q).2.map (·.1) = (q :: D.filter (fun y => !decide (y = q))).take n := by
  obtain ⟨n, rfl⟩ : ∃ m, n = m + 1 := ⟨n - 1, by omega⟩
  have ftake : ∀ (m : Nat) (E : List (Int × Int)), q ∉ E.take m → (E.filter (fun y => !decide (y = q))).take m = E.take m := by
    intro m E
    induction E generalizing m with
    | nil => simp
    | cons x E ih =>
      intro hq
      cases m with
      | zero => simp
      | succ m =>
        rw [List.take_succ_cons, List.mem_cons, not_or] at hq
        rw [List.filter_cons_of_pos (by simp; exact fun e => hq.1 e.symm), List.take_succ_cons, List.take_succ_cons, ih m hq.2]
  have fin : ∀ (m : Nat) (E : List (Int × Int)), E.Nodup → q ∈ E.take (m + 1) → (E.take (m + 1)).filter (fun y => !decide (y = q)) = (E.filter (fun y => !decide (y = q))).take m := by
    intro m E
    induction E generalizing m with
    | nil => simp
    | cons x E ih =>
      intro hnd hq
      rw [List.nodup_cons] at hnd
      rw [List.take_succ_cons] at hq ⊢
      by_cases e : x = q
      · subst e
        have h1 : x ∉ E.take m := fun h => hnd.1 (List.mem_of_mem_take h)
        rw [List.filter_cons_of_neg (by simp), List.filter_cons_of_neg (by simp), ftake m E h1, List.filter_eq_self.2]
        intro y hy
        have : y ≠ x := fun e => h1 (e ▸ hy)
        simp [this]
      · rw [List.filter_cons_of_pos (by simp [e]), List.filter_cons_of_pos (by simp [e])]
        have hq' : q ∈ E.take m := by
          rcases List.mem_cons.1 hq with h | h
          · exact (e h.symm).elim
          · exact h
        cases m with
        | zero => simp at hq'
        | succ m => rw [List.take_succ_cons, ih m hnd.2 hq']
  have hlen : l.length = (D.take (n + 1)).length := by rw [← h, List.length_map]
  unfold useP
  rw [List.take_succ_cons]
  cases hf : l.find? (fun p => decide (p.1 = q)) with
  | some p =>
    obtain ⟨rfl, hp⟩ := find_some hf
    simp only [List.map_cons]
    congr 1
    have hm : p.1 ∈ D.take (n + 1) := by rw [← h]; exact List.mem_map.2 ⟨p, hp, rfl⟩
    rw [← fin n D hD hm, ← h, List.filter_map]
    rfl
  | none =>
    have hno : q ∉ D.take (n + 1) := by
      rw [← h]
      intro hm
      obtain ⟨p, hp, e⟩ := List.mem_map.1 hm
      exact find_none hf p hp e
    simp only
    by_cases hroom : (l.length : Int) < k
    · rw [if_pos hroom]
      simp only [List.map_cons]
      have hs : D.length ≤ n := by
        rw [hlen, List.length_take] at hroom
        omega
      have hD' : D.take (n + 1) = D := List.take_of_length_le (by omega)
      rw [hD'] at h hno
      rw [h, List.filter_eq_self.2 (fun y hy => by have : y ≠ q := fun e => hno (e ▸ hy); simp [this]), List.take_of_length_le hs]
    · rw [if_neg hroom]
      have hs : n + 1 ≤ D.length := by
        rw [hlen, List.length_take] at hroom
        omega
      have hne : l ≠ [] := fun e => by rw [e] at hlen; simp at hlen; omega
      rw [List.getLast?_eq_some_getLast hne]
      simp only [List.map_cons]
      congr 1
      have hno' : q ∉ D.take n := fun hm => hno (by rw [List.take_add_one]; exact List.mem_append_left _ hm)
      rw [ftake n D hno', List.map_dropLast, h, List.dropLast_eq_take, List.take_take, List.length_take]
      congr 1
      omega
attribute [local irreducible] LdI LdB LdStr LdP LdS LdM LdV St Bx Al App Cpy MkS MkM EqK RunK RunU CallK SlK blkA rowA joinA mapA
section
variable {W w : World} {L : List As} {Q : Bool → World → Prop} {p : Nat} {n : Nat} {la wa : Option Addr} {ln lc wn wc : Nat} {xs : List Int} {l : KS} {r : LruR}
def qOf (x : Int) : Int × Int := (0 + x % (11 - 0 + 1), 7)
theorem qOf_wf (x : Int) : WfK (qOf x) := ⟨wf_small (by unfold qOf; simp only; omega), rfl⟩
def qsOf (xs : List Int) : List (Int × Int) := (xs.take 100).map qOf
theorem Last_b21 {want : List (Int × Int)} (hl : l.length ≤ 9) (he : l.map (·.1) = want) (hQ : ∀ w', Sep No W w' [] → Q true w') (s : Sep No W w [rowA wa wn wc 29 2 (flat keyc want), lruA p n l r]) : herdsmanlaw18_LruLast.b21 Q (some ⟨p, 0, none⟩) wa wn wc w := by
  unfold herdsmanlaw18_LruLast.b21
  refine told.spec s fun w s _ => ?_
  rw [cond_true]
  have s := Sep.perm s (List.Perm.swap ..)
  refine Keys.spec s (by omega) fun a m c w s => ?_
  have hk := Sep.sl s (i := 0) rfl keyc_len (by decide)
  refine SameKeys.spec s hk (Sep.sl s (i := 2) rfl keyc_len (by decide)) (by rw [← hk.len, List.length_map]; omega) fun w s _ => ?_
  rw [he, decide_eq_true rfl]
  exact hQ _ (Sep.pick [] s rfl (by decide))
theorem Last_b16 {P11 : Option Addr → Nat → Nat → Int → Option Addr → Option Addr → Nat → Nat → Int → World → Prop} {x : Option Addr} {i : Int} {kb : Nat} {q : Int × Int} {want : List (Int × Int)} {nn : Int} (hwn : wn ≤ 1000) (hi : -10 ≤ i ∧ i ≤ 1000)
    (next : ∀ a' n' c' w', n' = (if q ∈ want then want else want ++ [q]).length → Sep No W w' (rowA a' n' c' 29 2 (flat keyc (if q ∈ want then want else want ++ [q])) :: L) → P11 la ln lc nn x a' n' c' (i - 1) w') :
    ∀ (m j : Nat) (b : Bool) (w : World), j + m = wn → b = decide (q ∈ want.take j) → Sep No W w (rowA wa wn wc 29 2 (flat keyc want) :: blkA kb 29 (keyc q) :: L) → herdsmanlaw18_LruLast.b16 P11 Q (m + 1) la ln lc nn x wa wn wc i ⟨kb, 0, none⟩ b j w := by
  intro m
  induction m with
  | zero =>
    intro j b w hj hb s
    show herdsmanlaw18_LruLast.s16 P11 Q (herdsmanlaw18_LruLast.b16 P11 Q 0) _ _ _ _ _ _ _ _ _ _ _ _ _
    unfold herdsmanlaw18_LruLast.s16
    have hl := (Sep.sl s (i := 0) rfl keyc_len (by decide)).len
    rw [decide_eq_false (by omega), cond_false]
    rw [List.take_of_length_le (by omega)] at hb
    subst hb
    rw [wrap_i64 (n := i - 1) (by omega) (by omega)]
    by_cases hq : q ∈ want
    · rw [decide_eq_true hq, Bool.not_true, cond_false]
      refine next wa wn wc w (by rw [if_pos hq, hl]) ?_
      rw [if_pos hq]
      exact Sep.sub s (.cons_cons _ (.cons _ (List.Sublist.refl _)))
    · rw [decide_eq_false hq, Bool.not_false, cond_true]
      refine Sep.LdI s (i := 1) rfl rfl rfl ?_
      refine Sep.LdI s (i := 1) rfl rfl rfl ?_
      refine addKey s (by omega) fun a c w s => ?_
      refine next a _ c w (by rw [if_neg hq, List.length_append, hl]; rfl) ?_
      rw [if_neg hq]
      exact Sep.sub s (.cons_cons _ (.cons _ (List.Sublist.refl _)))
  | succ m ih =>
    intro j b w hj hb s
    show herdsmanlaw18_LruLast.s16 P11 Q (herdsmanlaw18_LruLast.b16 P11 Q (m + 1)) _ _ _ _ _ _ _ _ _ _ _ _ _
    unfold herdsmanlaw18_LruLast.s16
    have hwant := Sep.sl s (i := 0) rfl keyc_len (by decide)
    have hl := hwant.len
    rw [decide_eq_true (by omega), cond_true, wrap_i64 (n := (j : Int) + 1) (by omega) (by omega)]
    have hj0 : want[j]? = some (want[j]'(by omega)) := List.getElem?_eq_getElem _
    have htk : want.take (j + 1) = want.take j ++ [want[j]'(by omega)] := by rw [List.take_add_one, hj0]; rfl
    generalize want[j]'(by omega) = y at hj0 htk
    have s := Sep.drew s
    cases b with
    | true =>
      rw [cond_true]
      refine ih (j + 1) true _ (by omega) ?_ s
      rw [htk, decide_eq_true (List.mem_append_left _ (of_decide_eq_true hb.symm))]
    | false =>
      rw [cond_false]
      refine hwant.drew.El rfl (by omega) fun pp z hz hc => ?_
      rw [hj0] at hz
      cases hz
      refine LdI_cell (hc 0 _ rfl) ?_
      refine LdI_cell (hc 1 _ rfl) ?_
      refine Sep.LdI s (i := 1) rfl rfl rfl ?_
      refine Sep.LdI s (i := 1) rfl rfl rfl ?_
      refine eql29 ?_
      rw [key_beq]
      refine ih (j + 1) _ _ (by omega) ?_ s
      have hno := of_decide_eq_false hb.symm
      rw [htk]
      refine decide_eq_decide.2 ⟨fun e => by rw [e]; simp, fun h => ?_⟩
      rcases List.mem_append.1 h with h | h
      · exact (hno h).elim
      · exact (List.mem_singleton.1 h).symm
theorem Last_b11 (hA : Sl W la ln lc 1 one xs) (hn : n ≤ 9) (hl : l.length ≤ 9) (hkeys : l.map (·.1) = (nubK (qsOf xs).reverse).take n) (hQ : ∀ w', Sep No W w' [] → Q true w') :
    ∀ (m : Nat) (wa : Option Addr) (wn wc : Nat) (w : World), m ≤ (qsOf xs).length → wn = (nubK ((qsOf xs).drop m).reverse).length → wn ≤ n →
      Sep No W w [rowA wa wn wc 29 2 (flat keyc (nubK ((qsOf xs).drop m).reverse)), lruA p n l r] → herdsmanlaw18_LruLast.b11 Q (m + 1) la ln lc n (some ⟨p, 0, none⟩) wa wn wc ((m : Int) - 1) w := by
  have hxl := hA.len
  have hql : (qsOf xs).length = min 100 ln := by unfold qsOf; rw [List.length_map, List.length_take, hxl]
  have done : ∀ (m : Nat) (wa : Option Addr) (wn wc : Nat) (w : World), m ≤ (qsOf xs).length → wn = (nubK ((qsOf xs).drop m).reverse).length → wn ≤ n → (m = 0 ∨ wn = n) →
      Sep No W w [rowA wa wn wc 29 2 (flat keyc (nubK ((qsOf xs).drop m).reverse)), lruA p n l r] → herdsmanlaw18_LruLast.b21 Q (some ⟨p, 0, none⟩) wa wn wc w := by
    intro m wa wn wc w hm hwn hle hor s
    refine Last_b21 hl ?_ hQ s
    rw [hkeys]
    rcases hor with rfl | hor
    · rw [List.drop_zero] at hwn ⊢
      exact List.take_of_length_le (by omega)
    · have e : (qsOf xs).reverse = ((qsOf xs).drop m).reverse ++ ((qsOf xs).take m).reverse := by rw [← List.reverse_append, List.take_append_drop]
      obtain ⟨zs, e2⟩ := nub_app ((qsOf xs).drop m).reverse ((qsOf xs).take m).reverse
      rw [e, e2, ← hor, hwn]
      exact List.take_left
  intro m
  induction m with
  | zero =>
    intro wa wn wc w hm hwn hle s
    show herdsmanlaw18_LruLast.s11 Q (herdsmanlaw18_LruLast.b11 Q 0) _ _ _ _ _ _ _ _ _ _
    unfold herdsmanlaw18_LruLast.s11
    rw [decide_eq_false (by omega), cond_false]
    exact done 0 wa wn wc w hm hwn hle (.inl rfl) s
  | succ m ih =>
    intro wa wn wc w hm hwn hle s
    show herdsmanlaw18_LruLast.s11 Q (herdsmanlaw18_LruLast.b11 Q (m + 1)) _ _ _ _ _ _ _ _ _ _
    unfold herdsmanlaw18_LruLast.s11
    rw [decide_eq_true (by omega), cond_true]
    by_cases hfull : wn < n
    · rw [decide_eq_true (by omega), cond_true]
      have ei : ((m + 1 : Nat) : Int) - 1 = (m : Int) := by omega
      rw [ei]
      have hmx : m < xs.length := by omega
      refine Sl.rd1 (hA.fr (sep_fr s)) rfl (by omega) ?_
      refine herdsmanref1_Within.spec (by decide) (by decide) (by decide) ?_
      have hqm : (qsOf xs)[m]? = some (qOf (gi xs m)) := by
        unfold qsOf
        rw [List.getElem?_map, List.getElem?_take, if_pos (by omega), gi_get hmx]
        rfl
      have hdrop : (qsOf xs).drop m = qOf (gi xs m) :: (qsOf xs).drop (m + 1) := by
        obtain ⟨h1, h2⟩ := List.getElem?_eq_some_iff.1 hqm
        rw [List.drop_eq_getElem_cons h1, h2]
      refine Sep.Al s fun kb w s => ?_
      simp only [zc29] at s
      refine Sep.St s (i := 0) rfl rfl rfl fun w s => ?_
      refine Sep.St s (i := 0) rfl rfl rfl fun w s => ?_
      simp only [List.set_cons_zero, List.set_cons_succ] at s
      have s := Sep.perm s (List.Perm.swap ..)
      refine ⟨wn + 1, Last_b16 (q := qOf (gi xs m)) (by omega) (by omega) (fun a' n' c' w' hn' s' => ?_) wn 0 false w (by omega) (by simp) s⟩
      have e : (if qOf (gi xs m) ∈ nubK ((qsOf xs).drop (m + 1)).reverse then nubK ((qsOf xs).drop (m + 1)).reverse else nubK ((qsOf xs).drop (m + 1)).reverse ++ [qOf (gi xs m)]) = nubK ((qsOf xs).drop m).reverse := by
        rw [hdrop, List.reverse_cons, nub_snoc]
      rw [e] at hn' s'
      refine ih a' n' c' w' (by omega) hn' ?_ s'
      rw [hn', ← e]
      split
      · omega
      · rw [List.length_append, ← hwn]; simp; omega
    · rw [decide_eq_false (by omega), cond_false]
      exact done (m + 1) wa wn wc w hm hwn hle (.inr (by omega)) s
theorem Last_b7 (hA : Sl W la ln lc 1 one xs) (hn : 1 ≤ n ∧ n ≤ 9) (hQ : ∀ w', Sep No W w' [] → Q true w') :
    ∀ (m i : Nat) (l : KS) (r : LruR) (w : World), i + m = 100 → i ≤ ln → l.length ≤ 9 → l.map (·.1) = (nubK ((qsOf xs).take i).reverse).take n → Sep No W w [lruA p n l r] →
      herdsmanlaw18_LruLast.b7 Q (m + 1) la ln lc n (some ⟨p, 0, none⟩) none 0 0 i w := by
  have hxl := hA.len
  have hql : (qsOf xs).length = min 100 ln := by unfold qsOf; rw [List.length_map, List.length_take, hxl]
  have done : ∀ R (i : Nat) (l : KS) (r : LruR) (w : World), ¬ (i < ln ∧ i < 100) → i ≤ 100 → l.length ≤ 9 → l.map (·.1) = (nubK ((qsOf xs).take i).reverse).take n → Sep No W w [lruA p n l r] → herdsmanlaw18_LruLast.s7 Q R la ln lc n (some ⟨p, 0, none⟩) none 0 0 i w := by
    intro R i l r w hstop hi hl hkeys s
    have e9 : (qsOf xs).take i = qsOf xs := List.take_of_length_le (by omega)
    rw [e9] at hkeys
    have b10 : herdsmanlaw18_LruLast.b10 Q la ln lc n (some ⟨p, 0, none⟩) none 0 0 w := by
      unfold herdsmanlaw18_LruLast.b10
      have e : imin (ln : Int) 100 = ((qsOf xs).length : Int) := by unfold imin; rw [hql]; split <;> omega
      rw [e, wrap_i64 (by omega) (by omega)]
      have hd : (qsOf xs).drop (qsOf xs).length = [] := List.drop_eq_nil_of_le (Nat.le_refl _)
      refine ⟨(qsOf xs).length + 1, Last_b11 (r := r) hA hn.2 hl hkeys hQ (qsOf xs).length none 0 0 w (Nat.le_refl _) (by rw [hd]; rfl) (by omega) ?_⟩
      rw [hd]
      exact Sep.row_nil s 29 2
    unfold herdsmanlaw18_LruLast.s7
    by_cases h1 : i < ln
    · rw [decide_eq_true (by omega), cond_true, decide_eq_false (by omega), cond_false]
      exact b10
    · rw [decide_eq_false (by omega), cond_false]
      exact b10
  intro m
  induction m with
  | zero =>
    intro i l r w hi hil hl hkeys s
    exact done _ i l r w (by omega) (by omega) hl hkeys s
  | succ m ih =>
    intro i l r w hi hil hl hkeys s
    show herdsmanlaw18_LruLast.s7 Q (herdsmanlaw18_LruLast.b7 Q (m + 1)) _ _ _ _ _ _ _ _ _ _
    by_cases hgo : i < ln ∧ i < 100
    · unfold herdsmanlaw18_LruLast.s7
      rw [decide_eq_true (by omega), cond_true, decide_eq_true (by omega), cond_true]
      refine Sl.rd1 (hA.fr (sep_fr s)) rfl (by omega) ?_
      refine herdsmanref1_Within.spec (by decide) (by decide) (by decide) ?_
      have hg := (lru_open s).1.good
      refine Use.spec (key := qOf (gi xs i)) s (qOf_wf _) (by omega) fun r w s => ?_
      rw [wrap_i64 (n := (i : Int) + 1) (by omega) (by omega)]
      have hqm : (qsOf xs)[i]? = some (qOf (gi xs i)) := by
        unfold qsOf
        rw [List.getElem?_map, List.getElem?_take, if_pos (by omega), gi_get (by omega)]
        rfl
      have htk : ((qsOf xs).take (i + 1)).reverse = qOf (gi xs i) :: ((qsOf xs).take i).reverse := by rw [List.take_add_one, hqm]; simp
      have hk2 := use_keys (q := qOf (gi xs i)) hn.1 rfl hg (nub_nodup _) hkeys
      have hroom := (good_use (key := qOf (gi xs i)) (by omega) hg).room
      refine ih (i + 1) _ r w (by omega) (by omega) (by omega) ?_ s
      rw [hk2, htk, nubK]
    · exact done _ i l r w hgo (by omega) hl hkeys s
theorem LruLast.spec {k0 : Int} (hA : Sl W la ln lc 1 one xs) (hQ : ∀ w', Sep No W w' [] → Q true w') : herdsmanlaw18_LruLast.call k0 la ln lc W Q := by
  refine herdsmanlaw18_LruLast.body _ _ _ _ _ _ ?_
  unfold herdsmanlaw18_LruLast.sh
  refine herdsmanref1_Within.spec (by decide) (by decide) (by decide) ?_
  have r1 := within_range (n := k0) (lo := 1) (hi := 9) (by decide)
  generalize (1 + k0 % (9 - 1 + 1)) = k at r1
  obtain ⟨n, rfl⟩ : ∃ n : Nat, k = n := ⟨k.toNat, by omega⟩
  refine New.spec (Sep.nil (F := No) (w := W)) (fun h => by omega) fun _ p r w s => ?_
  rw [show (some (⟨p, 0, none⟩ : Addr)).isNone = false from rfl, cond_false]
  exact ⟨101, Last_b7 hA (by omega) hQ 100 0 [] r w (by omega) (by omega) (by simp) (by simp [nubK]) s⟩
end
theorem LruLast_law : LawOk P 3 [.int .i64, .sl 1 (.int .i64)] := by
  intro W args h
  obtain ⟨v0, r, rfl, h0, h⟩ := RdAll.cons h
  obtain ⟨v1, r, rfl, h1, h⟩ := RdAll.cons h
  obtain rfl := RdAll.nil h
  obtain ⟨x, rfl, hx⟩ := rdV_int h0
  obtain ⟨a, n, c, ks, rfl, k1, k2, k3, k4, k5⟩ := rdV_ints (k := .i64) (W := W) h1
  exact LruLast.spec (Q := fun r W' => r = true ∧ Go.RowKit.Below W.heap.size W W') ⟨k4, k1, k3⟩ fun w' s => ⟨rfl, sep_below s⟩
end Go.Proofs.Ytfkpabfamfeggaa.S
