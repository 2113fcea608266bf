/- Layer 13: HeapPlays answers true. -/
import Derived.Test.YticibkdeiigocaaHG
set_option linter.unusedVariables false
set_option linter.unusedSimpArgs false
namespace Go.Proofs.Yticibkdeiigocaa.S
open Go.Sx
theorem zc27 : zc T 27 = [.int .i64 0, .int .i64 0, .int .i64 0] := rfl
attribute [local irreducible] LdI LdB LdStr LdP LdS LdM LdV St Bx Al App Cpy MkS MkM EqK RunK RunU CallK SlK blkA rowA heapA
def Srt (ws : List E) : Prop := ws.Pairwise fun a b => lt2 b a = false
def ins (ws : List E) (k : Nat) (x : E) : List E := ws.take k ++ [x] ++ ws.drop k
theorem g_elem {es : List E} {i : Nat} (h : i < es.length) : es[i] = g es i := by
  have := g_get h
  rw [List.getElem?_eq_getElem h] at this
  exact Option.some.inj this
theorem srt_ins {ws : List E} {k : Nat} {x : E} (hs : Srt ws) (hk : k ≤ ws.length) (h1 : ∀ j, j < k → lt2 (g ws j) x = true) (h2 : k < ws.length → lt2 (g ws k) x = false) : Srt (ins ws k x) := by
  unfold Srt ins
  have hpw : (ws.take k ++ ws.drop k).Pairwise fun a b => lt2 b a = false := by rw [List.take_append_drop]; exact hs
  rw [List.pairwise_append] at hpw
  have hx : ∀ a ∈ ws.take k, lt2 a x = true := by
    intro a ha
    obtain ⟨j, hj, rfl⟩ := List.getElem_of_mem ha
    have hj' : j < k := by rw [List.length_take] at hj; omega
    rw [List.getElem_take, g_elem (by omega)]
    exact h1 j hj'
  have hd : ∀ b ∈ ws.drop k, lt2 b x = false := by
    intro b hb
    obtain ⟨j, hj, rfl⟩ := List.getElem_of_mem hb
    have hj' : k + j < ws.length := by rw [List.length_drop] at hj; omega
    rw [List.getElem_drop]
    have hk' : k < ws.length := by omega
    have h3 := h2 hk'
    by_cases h0 : j = 0
    · subst h0
      rw [g_elem (by omega)]
      exact h3
    · have := (List.pairwise_iff_getElem.1 hs) k (k + j) hk' hj' (by omega)
      rw [g_elem hk'] at this
      exact lt2_trans' h3 this
  rw [List.pairwise_append, List.pairwise_append]
  refine ⟨⟨hpw.1, List.pairwise_singleton _ _, fun a ha b hb => ?_⟩, hpw.2.1, fun a ha b hb => ?_⟩
  · rw [List.mem_singleton.1 hb]
    exact lt2_asymm (hx a ha)
  · rcases List.mem_append.1 ha with ha | ha
    · exact hpw.2.2 a ha b hb
    · rw [List.mem_singleton.1 ha]
      exact hd b hb
theorem ins_perm (ws : List E) (k : Nat) (x : E) : (ins ws k x).Perm (ws ++ [x]) := by
  unfold ins
  rw [List.append_assoc]
  refine (List.perm_append_comm_assoc ..).trans ?_
  rw [List.take_append_drop]
  exact List.perm_append_comm
theorem srt_first {es ws : List E} (hh : IsHeap es) (hs : Srt ws) (hp : es.Perm ws) (h0 : 0 < ws.length) : g es 0 = g ws 0 := by
  obtain ⟨m1, m2⟩ := heap_first hh hp h0
  refine lt2_antisymm ?_ (m2 _ (g_mem h0))
  obtain ⟨j, hj, e⟩ := List.getElem_of_mem m1
  rw [← e]
  by_cases h : j = 0
  · subst h
    rw [g_elem hj]
    exact lt2_self
  · have := (List.pairwise_iff_getElem.1 hs) 0 j h0 hj (by omega)
    rwa [g_elem h0] at this
def ask (x : Int × Int × Int) : List Value := [.int .i64 x.1, .int .i64 x.2.1, .int .i64 x.2.2]
section
variable {W : World} {L : List As} {Q : Bool → World → Prop} {P6 : Option Addr → Nat → Nat → Bool → Option Addr → Option Addr → Nat → Nat → Int → World → Prop} {la : Option Addr} {ln lc : Nat} {few : Bool} {p : Nat}
theorem Plays_b25 {i n wc c : Nat} {wa a : Option Addr} {es ws : List E} {w : World} (hi : i < 1000) (hn : ws.length = n) (hp : es.Perm ws)
    (h : ∀ w', Sep No W w' (rowA wa n wc 30 2 (flat pr ws) :: heapA p a c es :: L) → P6 la ln lc few (some ⟨p, 0, none⟩) wa n wc ((i + 1 : Nat) : Int) w') (s : Sep No W w (rowA wa n wc 30 2 (flat pr ws) :: heapA p a c es :: L)) :
    herdsmanlaw13_HeapPlays.b25 P6 Q la ln lc few (some ⟨p, 0, none⟩) wa n wc i w := by
  unfold herdsmanlaw13_HeapPlays.b25
  refine heap_Len.spec s (i := 1) rfl ?_
  rw [hp.length_eq, hn, bne_self_eq_false, cond_false, wrap_i64 (by omega) (by omega)]
  exact h w s
theorem Plays_b17 {i n wc c px k : Nat} {wa a : Option Addr} {es ws : List E} {x : E} {kd : Int} {w : World} (hi : i < 1000) (hn : ws.length = n) (hmax : n ≤ 1000) (hk : k ≤ n) (hp : es.Perm (ins ws k x))
    (h : ∀ w' wa' wc', Sep No W w' (rowA wa' (n + 1) wc' 30 2 (flat pr (ins ws k x)) :: heapA p a c es :: L) → P6 la ln lc few (some ⟨p, 0, none⟩) wa' (n + 1) wc' ((i + 1 : Nat) : Int) w')
    (s : Sep No W w (blkA px 27 [.int .i64 kd, .int .i64 x.1, .int .i64 x.2] :: rowA wa n wc 30 2 (flat pr ws) :: heapA p a c es :: L)) :
    herdsmanlaw13_HeapPlays.b17 P6 Q la ln lc few (some ⟨p, 0, none⟩) wa n wc i ⟨px, 0, none⟩ k w := by
  unfold herdsmanlaw13_HeapPlays.b17
  have hcap := rowA_cap s (i := 1) rfl
  have hnone := fun e => rowA_none s (i := 1) rfl e
  have s0 : Sep No W w.drew _ := s
  have e1 : flat pr (ws.take k) ++ [.int .i64 x.1, .int .i64 x.2] = flat pr (ws.take k ++ [x]) := by rw [flat_append]; rfl
  have e2 : flat pr (ws.take k ++ [x]) ++ flat pr (ws.drop k) = flat pr (ins ws k x) := by rw [← flat_append]; rfl
  have en : 0 + k + 1 + (n - k) = n + 1 := by omega
  have hlen : (ins ws k x).length = n + 1 := by unfold ins; simp; omega
  have hcc : (if wc = k then wa else wa.map (·.add (k * 2))) = none → wc - k = 0 := by
    intro e
    have : wa = none := by
      split at e
      · exact e
      · simpa using e
    have := hnone this
    omega
  refine SlK_hi (m := k) rfl (by omega) ?_
  refine Sep.LdI s0 (i := 0) (j := 1) rfl rfl rfl ?_
  refine Sep.LdI s0 (i := 0) (j := 2) rfl rfl rfl ?_
  refine SlK_lo (m := k) rfl hk ?_
  refine ⟨?_, ?_⟩
  · refine Sep.Bx s0 fun p1 w1 s => ?_
    refine ⟨Sep.cell s (i := 1) rfl rfl rfl, Sep.cell s (i := 1) rfl rfl rfl, ?_⟩
    refine ⟨?_, ?_⟩
    · have s := Sep.blk_row (n := 0) (size := 2) s (i := 0) rfl rfl (by decide) (by simp)
      simp only [List.set_cons_zero, List.set_cons_succ] at s
      have src := Src.take (m := k) (Sep.src s (i := 2) rfl) hk
      rw [flat_take pr_len] at src
      refine Sep.App tab_ok s (i := 0) (size := 2) (bytes := 16) rfl rfl rfl rfl rfl rfl (by decide) rfl src (by simp only [maxLen]; omega) (by omega) hnone fun a1 c1 w2 s => ?_
      simp only [List.set_cons_zero, List.set_cons_succ, List.nil_append] at s
      refine ⟨Sep.cell s (i := 1) rfl rfl rfl, Sep.cell s (i := 1) rfl rfl rfl, ?_⟩
      refine Sep.Bx s fun p2 w3 s => ?_
      have src := src_blk (m := 1) (size := 2) s (i := 0) rfl rfl (fun u hu => by simp at hu; rcases hu with rfl | rfl <;> rfl)
      refine Sep.App tab_ok s (i := 1) (size := 2) (bytes := 16) rfl rfl rfl rfl rfl rfl (by decide) rfl src (by simp only [maxLen]; omega) (by omega) (fun e => by cases e) fun a2 c2 w4 s => ?_
      simp only [List.set_cons_zero, List.set_cons_succ] at s
      rw [e1] at s
      have src := Src.drop (m := k) (c := wc) (Sep.src s (i := 3) rfl) hk hcap.1
      rw [flat_drop pr_len] at src
      refine Sep.App tab_ok s (i := 1) (size := 2) (bytes := 16) rfl rfl rfl rfl rfl rfl (by decide) rfl src (by simp only [maxLen]; omega) (by omega) hcc fun a3 c3 w5 s => ?_
      simp only [List.set_cons_zero, List.set_cons_succ] at s
      rw [e2] at s
      rw [en] at s ⊢
      have s := Sep.drop s
      have s := Sep.sub (L' := rowA a3 (n + 1) c3 30 2 (flat pr (ins ws k x)) :: heapA p a c es :: L) s (.cons_cons _ (.cons _ (.cons _ (.refl _))))
      exact Plays_b25 hi hlen hp (fun w' s => h w' a3 c3 s) s
    · refine Sep.Bx s fun p2 w2 s => ?_
      have s := Sep.blk_row (n := 0) (size := 2) s (i := 1) rfl rfl (by decide) (by simp)
      simp only [List.set_cons_zero, List.set_cons_succ] at s
      have src := Src.take (m := k) (Sep.src s (i := 3) rfl) hk
      rw [flat_take pr_len] at src
      refine Sep.App tab_ok s (i := 1) (size := 2) (bytes := 16) rfl rfl rfl rfl rfl rfl (by decide) rfl src (by simp only [maxLen]; omega) (by omega) hnone fun a1 c1 w3 s => ?_
      simp only [List.set_cons_zero, List.set_cons_succ, List.nil_append] at s
      refine ⟨Sep.cell s (i := 2) rfl rfl rfl, Sep.cell s (i := 2) rfl rfl rfl, ?_⟩
      have src := src_blk (m := 1) (size := 2) s (i := 0) rfl rfl (fun u hu => by simp at hu; rcases hu with rfl | rfl <;> rfl)
      refine Sep.App tab_ok s (i := 1) (size := 2) (bytes := 16) rfl rfl rfl rfl rfl rfl (by decide) rfl src (by simp only [maxLen]; omega) (by omega) (fun e => by cases e) fun a2 c2 w4 s => ?_
      simp only [List.set_cons_zero, List.set_cons_succ] at s
      rw [e1] at s
      have src := Src.drop (m := k) (c := wc) (Sep.src s (i := 3) rfl) hk hcap.1
      rw [flat_drop pr_len] at src
      refine Sep.App tab_ok s (i := 1) (size := 2) (bytes := 16) rfl rfl rfl rfl rfl rfl (by decide) rfl src (by simp only [maxLen]; omega) (by omega) hcc fun a3 c3 w5 s => ?_
      simp only [List.set_cons_zero, List.set_cons_succ] at s
      rw [e2] at s
      rw [en] at s ⊢
      have s := Sep.drop s
      have s := Sep.sub (L' := rowA a3 (n + 1) c3 30 2 (flat pr (ins ws k x)) :: heapA p a c es :: L) s (.cons_cons _ (.cons _ (.cons _ (.refl _))))
      exact Plays_b25 hi hlen hp (fun w' s => h w' a3 c3 s) s
  · refine Sep.Bx s0 fun p2 w1 s => ?_
    refine Sep.Bx s fun p1 w2 s => ?_
    refine ⟨Sep.cell s (i := 2) rfl rfl rfl, Sep.cell s (i := 2) rfl rfl rfl, ?_⟩
    have s := Sep.blk_row (n := 0) (size := 2) s (i := 0) rfl rfl (by decide) (by simp)
    simp only [List.set_cons_zero, List.set_cons_succ] at s
    have src := Src.take (m := k) (Sep.src s (i := 3) rfl) hk
    rw [flat_take pr_len] at src
    refine Sep.App tab_ok s (i := 0) (size := 2) (bytes := 16) rfl rfl rfl rfl rfl rfl (by decide) rfl src (by simp only [maxLen]; omega) (by omega) hnone fun a1 c1 w3 s => ?_
    simp only [List.set_cons_zero, List.set_cons_succ, List.nil_append] at s
    refine ⟨Sep.cell s (i := 2) rfl rfl rfl, Sep.cell s (i := 2) rfl rfl rfl, ?_⟩
    have src := src_blk (m := 1) (size := 2) s (i := 1) rfl rfl (fun u hu => by simp at hu; rcases hu with rfl | rfl <;> rfl)
    refine Sep.App tab_ok s (i := 0) (size := 2) (bytes := 16) rfl rfl rfl rfl rfl rfl (by decide) rfl src (by simp only [maxLen]; omega) (by omega) (fun e => by cases e) fun a2 c2 w4 s => ?_
    simp only [List.set_cons_zero, List.set_cons_succ] at s
    rw [e1] at s
    have src := Src.drop (m := k) (c := wc) (Sep.src s (i := 3) rfl) hk hcap.1
    rw [flat_drop pr_len] at src
    refine Sep.App tab_ok s (i := 0) (size := 2) (bytes := 16) rfl rfl rfl rfl rfl rfl (by decide) rfl src (by simp only [maxLen]; omega) (by omega) hcc fun a3 c3 w5 s => ?_
    simp only [List.set_cons_zero, List.set_cons_succ] at s
    rw [e2] at s
    rw [en] at s ⊢
    have s := Sep.sub (L' := rowA a3 (n + 1) c3 30 2 (flat pr (ins ws k x)) :: heapA p a c es :: L) s (.cons_cons _ (.cons _ (.cons _ (.cons _ (.refl _)))))
    exact Plays_b25 hi hlen hp (fun w' s => h w' a3 c3 s) s
end
end Go.Proofs.Yticibkdeiigocaa.S
