/- Layer 18: Use. -/
import Derived.Test.YtfkpabfamfeggaaUB
set_option linter.unusedVariables false
set_option linter.unusedSimpArgs false
namespace Go.Proofs.Ytfkpabfamfeggaa.S
open Go.Sx
open Go.Maps (Keyed)
attribute [local irreducible] LdI LdB LdStr LdP LdS LdM LdV St Bx Al App Cpy MkS MkM EqK RunK RunU CallK SlK blkA rowA joinA mapA
theorem keys_sameK {ss ss' : List Seat} (h : SameK ss ss') {l : KS} (hk : ∀ p ∈ l, ss[p.2]?.map (fun s => (s.a, s.b)) = some p.1) : ∀ p ∈ l, ss'[p.2]?.map (fun s => (s.a, s.b)) = some p.1 := fun p hp => (h.2 p.2).trans (hk p hp)
theorem Seg_grow {ss : List Seat} {x : Seat} {p n : Int} {xs : List Nat} (h : ∀ i ∈ xs, i < ss.length) (s : Seg ss p xs n) : Seg (ss ++ [x]) p xs n := by
  refine Seg_cong (fun i hi => ?_) s
  have := h i hi
  simp [nwA, odA, List.getElem?_append_left this]
theorem Seg_key {ss : List Seat} {i : Nat} {x : Seat} {a b : Int} {p n : Int} {xs : List Nat} (hx : ss[i]? = some x) (s : Seg ss p xs n) : Seg (ss.set i { x with a := a, b := b }) p xs n := by
  refine Seg_cong (fun j hj => ?_) s
  unfold nwA odA
  rw [List.getElem?_set]
  split
  · rename_i e
    subst e
    rw [if_pos (List.getElem?_eq_some_iff.1 hx).1, hx]
    exact ⟨rfl, rfl⟩
  · exact ⟨rfl, rfl⟩
theorem m_erase {m : List (Value × Value)} {ys : KS} {q : (Int × Int) × Nat} {j : Nat} {v : Value} (hm : m.Perm ((ys ++ [q]).map ent)) (hj : m[j]? = some (keyV q.1, v)) (hnd : ((ys ++ [q]).map (·.1)).Nodup) : (m.eraseIdx j).Perm (ys.map ent) := by
  have hmem := hm.mem_iff.1 (List.mem_of_getElem? hj)
  obtain ⟨q', hq', e⟩ := List.mem_map.1 hmem
  have e1 : q'.1 = q.1 := keyV_inj (congrArg Prod.fst e)
  have e2 := key_uniq hnd hq' (by simp) e1
  subst e2
  obtain ⟨hjl, hje⟩ := List.getElem?_eq_some_iff.1 hj
  have h1 : m.Perm (ent q' :: m.eraseIdx j) := by
    rw [e, ← hje]
    have e3 : m = m.take j ++ m[j] :: m.drop (j + 1) := by rw [List.getElem_cons_drop, List.take_append_drop]
    rw [List.eraseIdx_eq_take_drop_succ]
    exact (List.Perm.of_eq e3).trans List.perm_middle
  rw [List.map_append, List.map_singleton] at hm
  exact List.Perm.cons_inv (h1.symm.trans (hm.trans (List.perm_append_singleton _ _)))
section
variable {F : Nat → Prop} {W w : World} {L : List As} {p : Nat} {k : Int} {l : KS}
theorem Use_b14 {Q : Int → Bool → Bool → World → Prop} {kb : Nat} {key : Int × Int} {slot : Nat} {had out : Bool} {rest : KS} {sa : Option Addr} {sn sc mb : Nat} {ss : List Seat} {m : List (Value × Value)} {nw od : Int}
    (hk : 1 ≤ k) (hg : Good k ((key, slot) :: rest)) (hsn : sn = rest.length + 1) (hseg : Seg ss (-1) (rest.map (·.2)) (-1)) (hnw : nw = hdO (rest.map (·.2)) (-1)) (hod : od = lsO (rest.map (·.2)) (-1))
    (hkeys : ∀ q ∈ (key, slot) :: rest, ss[q.2]?.map (fun s => (s.a, s.b)) = some q.1) (hm : m.Perm (((key, slot) :: rest).map ent) ∨ m.Perm (rest.map ent)) (hwf : ∀ q ∈ (key, slot) :: rest, WfK q.1)
    (s : Sep F W w (blkA kb 29 (keyc key) :: blkA p 50 [.int .i64 k, .slice sa sn sc, .map (some mb), .int .i64 nw, .int .i64 od] :: rowA sa sn sc 54 4 (flat seatc ss) :: mapA P 29 mb m :: L))
    (h : ∀ r' w', Sep F W w' (lruA p k ((key, slot) :: rest) r' :: L) → Q slot had out w') : lru_Lru_Use.b14 Q (some ⟨p, 0, none⟩) slot had out ⟨kb, 0, none⟩ w := by
  unfold lru_Lru_Use.b14
  have s := Sep.drew s
  refine wA_some ?_
  refine Sep.LdM s (i := 1) rfl rfl rfl ?_
  refine Sep.LdI s (i := 0) rfl rfl rfl ?_
  refine Sep.LdI s (i := 0) rfl rfl rfl ?_
  have hlen : ((key, slot) :: rest).length = sn := by rw [hsn]; rfl
  have fin : ∀ (m' : List (Value × Value)) (w : World), m'.Perm (((key, slot) :: rest).map ent) → Sep F W w (blkA kb 29 (keyc key) :: blkA p 50 [.int .i64 k, .slice sa sn sc, .map (some mb), .int .i64 nw, .int .i64 od] :: rowA sa sn sc 54 4 (flat seatc ss) :: mapA P 29 mb m' :: L) →
      lru_Lru_link.call (some ⟨p, 0, none⟩) slot w fun w0_2 => Q slot had out w0_2 := by
    intro m' w hm' s
    have hnd : (slot :: rest.map (·.2)).Nodup := hg.nd
    refine link.spec (by have := hg.lt (key, slot) (by simp); omega) (fun i hi => ?_) hnd hseg hnw hod (Sep.drop s) fun ss' w hK hS s => ?_
    · obtain ⟨q, hq, rfl⟩ := List.mem_map.1 hi
      have := hg.lt q (by simp [hq])
      omega
    · exact h ⟨sa, sn, sc, mb, ss', m', _, _⟩ w (lru_close s ⟨hk, hg, hlen.symm, rfl, rfl, hS, keys_sameK hK hkeys, hm', hwf⟩)
  refine Sep.MapSet kp mapT s (i := 3) rfl (keyV_of (hwf (key, slot) (by simp))) (fun habs w s => ?_) (fun j v0 hj w s => ?_)
  · simp only [List.set_cons_zero, List.set_cons_succ] at s
    rcases hm with hm | hm
    · exact (habs (ent (key, slot)) (hm.mem_iff.2 (by simp)) rfl).elim
    · refine fin _ w ?_ s
      exact (List.perm_append_singleton _ _).trans (List.Perm.cons _ hm)
  · simp only [List.set_cons_zero, List.set_cons_succ] at s
    rcases hm with hm | hm
    · have hmem := hm.mem_iff.1 (List.mem_of_getElem? hj)
      obtain ⟨q, hq, e⟩ := List.mem_map.1 hmem
      have e1 : q.1 = key := keyV_inj (congrArg Prod.fst e)
      have e2 := key_uniq hg.knd hq (q := (key, slot)) (by simp) e1
      subst e2
      have e3 : m.set j (.agg #[.int .i64 key.1, .int .i64 key.2], .int .i64 slot) = m := by
        have : m[j]? = some (.agg #[.int .i64 key.1, .int .i64 key.2], .int .i64 slot) := by rw [hj, ← e]; rfl
        exact set_get_self this
      rw [e3] at s
      exact fin m w hm s
    · have hmem := hm.mem_iff.1 (List.mem_of_getElem? hj)
      obtain ⟨q, hq, e⟩ := List.mem_map.1 hmem
      have e1 : q.1 = key := keyV_inj (congrArg Prod.fst e)
      have := hg.knd
      simp only [List.map_cons, List.nodup_cons] at this
      exact (this.1 (List.mem_map.2 ⟨q, hq, e1⟩)).elim
attribute [local irreducible] lru_Lru_Use.b14 in
theorem Use.spec {r : LruR} {key : Int × Int} {Q : Int → Bool → Bool → World → Prop} (s : Sep F W w (lruA p k l r :: L)) (hkey : WfK key) (hll : l.length ≤ 1000000)
    (h : ∀ r' w', Sep F W w' (lruA p k (useP k l key).2 r' :: L) → Q (useP k l key).1.1 (useP k l key).1.2.1 (useP k l key).1.2.2 w') : lru_Lru_Use.call (some ⟨p, 0, none⟩) key.1 key.2 w Q := by
  refine lru_Lru_Use.body _ _ _ _ _ ?_
  unfold lru_Lru_Use.sh
  obtain ⟨hI, s⟩ := lru_open s
  have hgood := good_use (key := key) hI.hk hI.good
  have hwf' : ∀ q ∈ (useP k l key).2, WfK q.1 := by
    intro q hq
    unfold useP at hq
    cases hf : l.find? (fun p => decide (p.1 = key)) with
    | some q0 =>
      rw [hf] at hq
      rcases List.mem_cons.1 hq with rfl | hq
      · exact hkey
      · exact hI.wf q (List.mem_filter.1 hq).1
    | none =>
      rw [hf] at hq
      simp only at hq
      split at hq
      · rcases List.mem_cons.1 hq with rfl | hq
        · exact hkey
        · exact hI.wf q hq
      · split at hq
        · rcases List.mem_cons.1 hq with rfl | hq
          · exact hkey
          · exact hI.wf q (List.dropLast_subset l hq)
        · exact hI.wf q hq
  unfold useP at h hgood hwf'
  rw [show (some (⟨p, 0, none⟩ : Addr)).isNone = false from rfl, cond_false]
  have hsl := rowA_length s (i := 1) rfl
  rw [flat_length seatc_len] at hsl
  have hsl : r.ss.length = r.sn := by omega
  have hsn := hI.sn
  have hltl : ∀ i ∈ l.map (·.2), i < r.sn := fun i hi => by
    obtain ⟨q, hq, rfl⟩ := List.mem_map.1 hi
    have := hI.good.lt q hq
    omega
  refine Sep.Al s fun kb w s => ?_
  simp only [zc29] at s
  refine Sep.St s (i := 0) rfl rfl rfl fun w s => ?_
  refine Sep.St s (i := 0) rfl rfl rfl fun w s => ?_
  simp only [List.set_cons_zero, List.set_cons_succ] at s
  have s : Sep F W w (blkA kb 29 (keyc key) :: (lruPs p k r ++ L)) := s
  have s := Sep.drew s
  refine wA_some ?_
  refine Sep.LdM s (i := 1) rfl rfl rfl ?_
  refine Sep.LdI s (i := 0) rfl rfl rfl ?_
  refine Sep.LdI s (i := 0) rfl rfl rfl ?_
  have s' := Sep.perm s (List.perm_middle (l₁ := lruPs p k r)).symm
  refine look s' hI hkey (fun hf => ?_) (fun q hf => ?_)
  · simp only [dT, dCons, dI, dB, dNil, cond_false, cond_true, if_pos, show Nat.beq (ikN .i64) (ikN .i64) = true from rfl]
    rw [hf] at h hgood hwf'
    simp only at h hgood hwf'
    have hn := find_none hf
    have s := Sep.drew s
    refine wA_some ?_
    refine Sep.LdS s (i := 1) rfl rfl rfl ?_
    refine wA_some ?_
    refine Sep.LdI s (i := 1) rfl rfl rfl ?_
    by_cases hroom : (l.length : Int) < k
    · rw [if_pos hroom] at h hgood hwf'
      rw [decide_eq_true (by omega), cond_true]
      refine wA_some ?_
      refine Sep.LdS s (i := 1) rfl rfl rfl ?_
      have s := Sep.drew s
      refine wA_some ?_
      refine Sep.LdS s (i := 1) rfl rfl rfl ?_
      refine Sep.LdI s (i := 0) rfl rfl rfl ?_
      refine Sep.LdI s (i := 0) rfl rfl rfl ?_
      refine Sep.Bx s fun zb w s => ?_
      refine ⟨Sep.cell s (i := 2) rfl rfl rfl, ?_⟩
      have src : Src w (some ⟨zb, 0, none⟩) 1 4 (seatc ⟨key.1, key.2, 0, 0⟩) := ⟨rfl, seatc_one _, fun j u hj => by rw [add_flat, Nat.zero_add]; exact Sep.cell s (i := 0) rfl rfl hj⟩
      refine Sep.App tab_ok s (i := 3) (size := 4) (bytes := 32) rfl rfl rfl rfl rfl rfl (by decide) rfl src (by simp only [maxLen]; omega) (by omega) (fun e => by cases e) fun a1 c1 w s => ?_
      simp only [List.set_cons_zero, List.set_cons_succ] at s
      have e : flat seatc r.ss ++ seatc ⟨key.1, key.2, 0, 0⟩ = flat seatc (r.ss ++ [⟨key.1, key.2, 0, 0⟩]) := by rw [flat_append]; simp [flat]
      rw [e] at s
      refine wA_some ?_
      refine Sep.St s (i := 2) rfl rfl rfl fun w s => ?_
      simp only [List.set_cons_zero, List.set_cons_succ] at s
      rw [hsn] at s ⊢
      have s := Sep.drop s
      refine Use_b14 (key := key) (slot := l.length) (rest := l) hI.hk hgood rfl (Seg_grow (fun i hi => by have := hltl i hi; omega) hI.seg) hI.nw hI.od (fun q hq => ?_) (.inr hI.perm) hwf' s h
      rcases List.mem_cons.1 hq with rfl | hq
      · simp only
        rw [List.getElem?_append_right (by omega), show l.length - r.ss.length = 0 by omega]
        rfl
      · have := hI.good.lt q hq
        rw [List.getElem?_append_left (by omega)]
        exact hI.key q hq
    · rw [if_neg hroom] at h hgood hwf'
      rw [decide_eq_false (by omega), cond_false]
      have hne : l ≠ [] := fun e => by rw [e] at hroom; have := hI.hk; simp at hroom; omega
      have sx := s
      clear s
      obtain ⟨ys, q, rfl⟩ : ∃ ys q, l = ys ++ [q] := ⟨l.dropLast, l.getLast hne, (List.dropLast_concat_getLast hne).symm⟩
      have s := sx
      rw [List.getLast?_concat, List.dropLast_concat] at h hgood hwf'
      simp only at h hgood hwf'
      have hodq : r.od = (q.2 : Int) := by rw [hI.od, List.map_append]; exact lsO_snoc _ _ _
      refine wA_some ?_
      refine Sep.LdI s (i := 1) rfl rfl rfl ?_
      rw [hodq]
      have s := Sep.perm s (List.Perm.trans (List.Perm.swap ..) (List.Perm.cons _ (List.Perm.swap ..)))
      have hnd := hI.good.nd
      have hseg := hI.seg
      have hnw := hI.nw
      have hod := hI.od
      rw [List.map_append, List.map_singleton] at hnd hseg hnw hod hltl
      refine unlink.spec (pre := ys.map (·.2)) (post := []) (y := q.2) hltl hnd hseg hnw hod s fun ss' w hK hS s => ?_
      rw [List.append_nil] at s hS
      have hl' : ss'.length = r.ss.length := hK.1
      have hkeys := keys_sameK hK hI.key
      have s := Sep.drew s
      refine wA_some ?_
      refine Sep.LdM s (i := 0) rfl rfl rfl ?_
      refine wA_some ?_
      refine Sep.LdS s (i := 0) rfl rfl rfl ?_
      have hqlt : q.2 < r.sn := hltl q.2 (by simp)
      have hkq := hkeys q (by simp)
      have hqw := hI.wf q (by simp)
      refine (Sep.sl s (i := 1) rfl seatc_len (by decide)).El (k := q.2) rfl hqlt fun pp x hx hc => ?_
      rw [hx] at hkq
      have hxa : x.a = q.1.1 := congrArg Prod.fst (Option.some.inj hkq)
      have hxb : x.b = q.1.2 := congrArg Prod.snd (Option.some.inj hkq)
      refine LdI_cell (hc 0 _ rfl) ?_
      refine LdI_cell (hc 1 _ rfl) ?_
      rw [hxa, hxb]
      -- what is behind the taking out
      have go : ∀ (m' : List (Value × Value)) (w : World), m'.Perm (ys.map ent) → Sep F W w (blkA p 50 [.int .i64 k, .slice r.sa r.sn r.sc, .map (some r.mb), .int .i64 (hdO (ys.map (·.2)) (-1)), .int .i64 (lsO (ys.map (·.2)) (-1))] :: rowA r.sa r.sn r.sc 54 4 (flat seatc ss') :: blkA kb 29 (keyc key) :: mapA P 29 r.mb m' :: L) →
          wA (some (⟨p, 0, none⟩ : Addr)) fun p44 => LdS (p44.add 1) w.drew fun x46_a x46_n x46_c => LdI .i64 ((⟨kb, 0, none⟩ : Addr).add 0) w.drew fun x48_0 => LdI .i64 ((⟨kb, 0, none⟩ : Addr).add 1) w.drew fun x48_1 => InB (q.2 : Int) x46_n <| wA x46_a fun p_1 =>
            St ((p_1.add ((q.2 : Int).toNat * 4)).add 0) (.int .i64 x48_0) w.drew fun w0_11 => St ((p_1.add ((q.2 : Int).toNat * 4)).add 1) (.int .i64 x48_1) w0_11 fun w0_12 => lru_Lru_Use.b14 Q (some ⟨p, 0, none⟩) q.2 false true ⟨kb, 0, none⟩ w0_12 := by
        intro m' w hm' s
        have s := Sep.drew s
        refine wA_some ?_
        refine Sep.LdS s (i := 0) rfl rfl rfl ?_
        refine Sep.LdI s (i := 2) rfl rfl rfl ?_
        refine Sep.LdI s (i := 2) rfl rfl rfl ?_
        refine Sep.El s (i := 1) (k := q.2) rfl rfl hqlt fun g o e => ?_
        rw [e] at s
        refine Sep.St_el (i := 1) (x' := { x with a := key.1 }) seatc_len s rfl hx (el_addr _ _ _ _ _) (by decide) rfl rfl fun w s => ?_
        have hx' : (ss'.set q.2 { x with a := key.1 })[q.2]? = some { x with a := key.1 } := List.getElem?_set_self (by omega)
        refine Sep.St_el (i := 1) (x' := { x with a := key.1, b := key.2 }) seatc_len s rfl hx' (el_addr _ _ _ _ _) (by decide) rfl rfl fun w s => ?_
        simp only [List.set_cons_zero, List.set_cons_succ] at s
        rw [List.set_set, ← e] at s
        have s := Sep.perm s (List.Perm.trans (List.Perm.cons _ (List.Perm.swap ..)) (List.Perm.swap ..))
        have hsn2 : r.sn = ys.length + 1 := by rw [hsn]; simp
        refine Use_b14 (key := key) (slot := q.2) (rest := ys) hI.hk hgood hsn2 (Seg_key hx hS) rfl rfl (fun z hz => ?_) (.inr hm') hwf' s h
        rw [List.getElem?_set]
        rcases List.mem_cons.1 hz with rfl | hz
        · simp only
          rw [if_pos trivial, if_pos (by omega)]
          rfl
        · have hne : ¬ q.2 = z.2 := fun e => by
            rw [List.nodup_append] at hnd
            exact hnd.2.2 z.2 (List.mem_map.2 ⟨z, hz, rfl⟩) q.2 (by simp) e.symm
          rw [if_neg hne]
          exact hkeys z (by simp [hz])
      have hknd := hI.good.knd
      refine Sep.MapDel kp mapT s (i := 3) rfl (keyV_of hqw) (fun habs w s => ?_) (fun j v0 hj w s => ?_)
      · exact (habs (ent q) (hI.perm.mem_iff.2 (List.mem_map.2 ⟨q, by simp, rfl⟩)) rfl).elim
      · simp only [List.set_cons_zero, List.set_cons_succ] at s
        exact go _ w (m_erase hI.perm hj hknd) s
  · simp only [dT, dCons, dI, dB, dNil, cond_true, if_pos, show Nat.beq (ikN .i64) (ikN .i64) = true from rfl]
    have sx := s
    obtain ⟨rfl, hq⟩ := find_some hf
    have s := sx
    rw [hf] at h hgood hwf'
    simp only at h hgood hwf'
    obtain ⟨pre, post, e1, e2⟩ := split_at hI.good.knd hq
    rw [e2] at h hgood hwf'
    have hnd := hI.good.nd
    have hseg := hI.seg
    have hnw := hI.nw
    have hod := hI.od
    rw [e1, List.map_append, List.map_cons] at hnd hseg hnw hod hltl
    have s := Sep.perm s (List.Perm.trans (List.Perm.swap ..) (List.Perm.cons _ (List.Perm.swap ..)))
    refine unlink.spec (pre := pre.map (·.2)) (post := post.map (·.2)) (y := q.2) hltl hnd hseg hnw hod s fun ss' w hK hS s => ?_
    rw [← List.map_append] at s hS
    have s := Sep.perm s (List.Perm.trans (List.Perm.cons _ (List.Perm.swap ..)) (List.Perm.swap ..))
    have hper : List.Perm ((q.1, q.2) :: (pre ++ post)) l := by rw [e1]; exact List.perm_middle.symm
    have hsn2 : r.sn = (pre ++ post).length + 1 := by rw [hsn, ← hper.length_eq]; rfl
    refine Use_b14 (key := q.1) (slot := q.2) (rest := pre ++ post) hI.hk hgood hsn2 hS rfl rfl (fun z hz => ?_) (.inl (hI.perm.trans (hper.map ent).symm)) hwf' s h
    exact keys_sameK hK hI.key z (hper.mem_iff.1 hz)
end
end Go.Proofs.Ytfkpabfamfeggaa.S
