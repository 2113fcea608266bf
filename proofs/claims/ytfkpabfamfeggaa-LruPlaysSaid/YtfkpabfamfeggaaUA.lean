/- Layer 18: unlink, link. -/
import Derived.Test.YtfkpabfamfeggaaUP
import Derived.Test.YtfkpabfamfeggaaXF0
import Derived.Test.YtfkpabfamfeggaaXF1
set_option linter.unusedVariables false
set_option linter.unusedSimpArgs false
namespace Go.Proofs.Ytfkpabfamfeggaa.S
open Go.Sx
theorem tab_ok : OkTab P T := okTab_of P rows rows_ok
theorem zc54 : zc T 54 = [.int .i64 0, .int .i64 0, .int .i64 0, .int .i64 0] := rfl
theorem zc29 : zc T 29 = [.int .i64 0, .int .i64 0] := rfl
attribute [local irreducible] LdI LdB LdStr LdP LdS LdM LdV St Bx Al App Cpy MkS MkM EqK RunK RunU CallK SlK blkA rowA joinA mapA
def seatc (s : Seat) : List Value := [.int .i64 s.a, .int .i64 s.b, .int .i64 s.nw, .int .i64 s.od]
theorem seatc_len (s : Seat) : (seatc s).length = 4 := rfl
theorem seatc_one (v : Seat) (u : Value) (h : u ∈ seatc v) : u.oneCell' = true := by
  simp only [seatc, List.mem_cons, List.not_mem_nil, or_false] at h
  rcases h with rfl | rfl | rfl | rfl <;> rfl
theorem set_nw {ss : List Seat} {i : Nat} {x : Seat} {v : Int} (h : ss[i]? = some x) : ss.set i { x with nw := v } = setNw ss i v := by
  apply List.ext_getElem?
  intro j
  unfold setNw
  rw [List.getElem?_modify, List.getElem?_set]
  by_cases e : i = j
  · subst e
    rw [if_pos rfl, if_pos (List.getElem?_eq_some_iff.1 h).1, h]
    simp
  · rw [if_neg e]; simp [e]
theorem set_od {ss : List Seat} {i : Nat} {x : Seat} {v : Int} (h : ss[i]? = some x) : ss.set i { x with od := v } = setOd ss i v := by
  apply List.ext_getElem?
  intro j
  unfold setOd
  rw [List.getElem?_modify, List.getElem?_set]
  by_cases e : i = j
  · subst e
    rw [if_pos rfl, if_pos (List.getElem?_eq_some_iff.1 h).1, h]
    simp
  · rw [if_neg e]; simp [e]
/-- The keys of the seats are the same. -/
def SameK (ss ss' : List Seat) : Prop := ss'.length = ss.length ∧ ∀ i : Nat, (ss'[i]?.map fun s => (s.a, s.b)) = ss[i]?.map fun s => (s.a, s.b)
theorem SameK.refl {ss : List Seat} : SameK ss ss := ⟨rfl, fun _ => rfl⟩
theorem SameK.trans {a b c : List Seat} (h : SameK a b) (k : SameK b c) : SameK a c := ⟨k.1.trans h.1, fun i => (k.2 i).trans (h.2 i)⟩
theorem sameK_setNw {ss : List Seat} {i : Nat} {v : Int} : SameK ss (setNw ss i v) := by
  refine ⟨by simp [setNw], fun j => ?_⟩
  unfold setNw
  rw [List.getElem?_modify]
  cases ss[j]? with
  | none => rfl
  | some s =>
    simp only [Option.map_eq_map, Option.map_some]
    split <;> rfl
theorem sameK_setOd {ss : List Seat} {i : Nat} {v : Int} : SameK ss (setOd ss i v) := by
  refine ⟨by simp [setOd], fun j => ?_⟩
  unfold setOd
  rw [List.getElem?_modify]
  cases ss[j]? with
  | none => rfl
  | some s =>
    simp only [Option.map_eq_map, Option.map_some]
    split <;> rfl
theorem seat_at {ss : List Seat} {i : Nat} (h : i < ss.length) : ∃ s, ss[i]? = some s ∧ s.nw = nwA ss i ∧ s.od = odA ss i := by
  refine ⟨ss[i], List.getElem?_eq_getElem h, ?_, ?_⟩
  · simp [nwA, h]
  · simp [odA, h]
section
variable {F : Nat → Prop} {W w : World} {L : List As} {p : Nat} {sa : Option Addr} {sn sc : Nat} {ss : List Seat} {kv mv : Value} {nw od : Int} {Q : World → Prop}
/-- The second half of unlink: who stands behind. -/
theorem unlink_b4 {sb : Nat} {x a b : Int} {pre post : List Nat} {y : Nat} (hs : ∀ i ∈ pre ++ y :: post, i < sn) (hnd : (pre ++ y :: post).Nodup) (h1 : Seg ss (-1) pre (hdO post (-1))) (h2 : Seg ss y post (-1))
    (hod : od = lsO (pre ++ y :: post) (-1))
    (s : Sep F W w (blkA sb 54 [.int .i64 a, .int .i64 b, .int .i64 (lsO pre (-1)), .int .i64 (hdO post (-1))] :: blkA p 50 [kv, .slice sa sn sc, mv, .int .i64 nw, .int .i64 od] :: rowA sa sn sc 54 4 (flat seatc ss) :: L))
    (h : ∀ ss' w', SameK ss ss' → Seg ss' (-1) (pre ++ post) (-1) → Sep F W w' (blkA p 50 [kv, .slice sa sn sc, mv, .int .i64 nw, .int .i64 (lsO (pre ++ post) (-1))] :: rowA sa sn sc 54 4 (flat seatc ss') :: L) → Q w') :
    lru_Lru_unlink.b4 Q (some ⟨p, 0, none⟩) ⟨sb, 0, none⟩ w := by
  unfold lru_Lru_unlink.b4
  have hl := rowA_length s (i := 2) rfl
  rw [flat_length seatc_len] at hl
  have hl : ss.length = sn := by omega
  rw [lsO_app] at hod
  cases post with
  | nil =>
    refine Sep.LdI s (i := 0) rfl rfl rfl ?_
    rw [show ((hdO [] (-1) : Int) == -1) = true from rfl, cond_true]
    refine Sep.LdI s (i := 0) rfl rfl rfl ?_
    refine wA_some ?_
    refine Sep.St s (i := 1) rfl rfl rfl fun w s => ?_
    simp only [List.set_cons_zero, List.set_cons_succ] at s
    refine h ss _ SameK.refl ?_ ?_
    · rw [List.append_nil]; exact h1
    · rw [List.append_nil]; exact Sep.drop s
  | cons z post =>
    have hz : z < sn := hs z (by simp)
    refine Sep.LdI s (i := 0) rfl rfl rfl ?_
    rw [show ((hdO (z :: post) (-1) : Int) == -1) = false by rw [beq_eq_false_iff_ne]; show (z : Int) ≠ -1; omega, cond_false]
    refine wA_some ?_
    have s := Sep.drew s
    refine Sep.LdS s (i := 1) rfl rfl rfl ?_
    refine Sep.LdI s (i := 0) rfl rfl rfl ?_
    refine Sep.LdI s (i := 0) rfl rfl rfl ?_
    obtain ⟨x, hx, hx1, hx2⟩ := seat_at (ss := ss) (i := z) (by omega)
    refine Sep.El s (i := 2) (k := z) rfl rfl hz fun g o e => ?_
    subst e
    refine Sep.St_el (i := 2) (x' := { x with nw := lsO pre (-1) }) seatc_len s rfl hx (el_addr _ _ _ _ _) (by decide) rfl rfl fun w s => ?_
    simp only [List.set_cons_zero, List.set_cons_succ] at s
    rw [set_nw hx] at s
    refine h (setNw ss z (lsO pre (-1))) _ sameK_setNw ?_ ?_
    · rw [Seg_app]
      have hn2 := (List.nodup_append.1 hnd).2.1
      rw [List.nodup_cons] at hn2
      refine ⟨(Seg_off (v := lsO pre (-1)) (by omega) (fun hm => ?_) h1).2, Seg_setNw (by omega) hn2.2 h2⟩
      exact (List.nodup_append.1 hnd).2.2 z hm z (by simp) rfl
    · rw [lsO_app]
      have : od = lsO (z :: post) (lsO pre (-1)) := hod
      rw [← this]
      exact Sep.drop s
theorem unlink.spec {pre post : List Nat} {y : Nat} (hs : ∀ i ∈ pre ++ y :: post, i < sn) (hnd : (pre ++ y :: post).Nodup) (hseg : Seg ss (-1) (pre ++ y :: post) (-1)) (hnw : nw = hdO (pre ++ y :: post) (-1)) (hod : od = lsO (pre ++ y :: post) (-1))
    (s : Sep F W w (blkA p 50 [kv, .slice sa sn sc, mv, .int .i64 nw, .int .i64 od] :: rowA sa sn sc 54 4 (flat seatc ss) :: L))
    (h : ∀ ss' w', SameK ss ss' → Seg ss' (-1) (pre ++ post) (-1) → Sep F W w' (blkA p 50 [kv, .slice sa sn sc, mv, .int .i64 (hdO (pre ++ post) (-1)), .int .i64 (lsO (pre ++ post) (-1))] :: rowA sa sn sc 54 4 (flat seatc ss') :: L) → Q w') :
    lru_Lru_unlink.call (some ⟨p, 0, none⟩) y w Q := by
  refine lru_Lru_unlink.body _ _ _ _ ?_
  unfold lru_Lru_unlink.sh
  have hl := rowA_length s (i := 1) rfl
  rw [flat_length seatc_len] at hl
  have hl : ss.length = sn := by omega
  have hy : y < sn := hs y (by simp)
  obtain ⟨x, hx, hx1, hx2⟩ := seat_at (ss := ss) (i := y) (by omega)
  rw [Seg_app] at hseg
  obtain ⟨h1, h2, h3, h4⟩ := hseg
  have h1 : Seg ss (-1) pre y := h1
  rw [h2] at hx1
  rw [h3] at hx2
  refine wA_some ?_
  refine Sep.LdS s (i := 0) rfl rfl rfl ?_
  refine Sep.El s (i := 1) (k := y) rfl rfl hy fun g o e => ?_
  subst e
  refine Sep.LdI_el (i := 1) seatc_len s rfl hx (el_addr _ _ _ _ _) rfl ?_
  refine Sep.LdI_el (i := 1) seatc_len s rfl hx (el_addr _ _ _ _ _) rfl ?_
  refine Sep.LdI_el (i := 1) seatc_len s rfl hx (el_addr _ _ _ _ _) rfl ?_
  refine Sep.LdI_el (i := 1) seatc_len s rfl hx (el_addr _ _ _ _ _) rfl ?_
  rw [hx1, hx2]
  refine Sep.Al s fun sb w s => ?_
  simp only [zc54] at s
  refine Sep.St s (i := 0) rfl rfl rfl fun w s => ?_
  refine Sep.St s (i := 0) rfl rfl rfl fun w s => ?_
  refine Sep.St s (i := 0) rfl rfl rfl fun w s => ?_
  refine Sep.St s (i := 0) rfl rfl rfl fun w s => ?_
  simp only [List.set_cons_zero, List.set_cons_succ] at s
  refine Sep.LdI s (i := 0) rfl rfl rfl ?_
  rcases List.eq_nil_or_concat pre with rfl | ⟨pre', u, rfl⟩
  · rw [show ((lsO [] (-1) : Int) == -1) = true from rfl, cond_true]
    refine Sep.LdI s (i := 0) rfl rfl rfl ?_
    refine wA_some ?_
    refine Sep.St s (i := 1) rfl rfl rfl fun w s => ?_
    simp only [List.set_cons_zero, List.set_cons_succ] at s
    exact unlink_b4 (x := 0) hs hnd trivial h4 hod s fun ss' w' k1 k2 s => h ss' w' k1 k2 s
  · simp only [List.concat_eq_append] at *
    have hu : u < sn := hs u (by simp)
    rw [lsO_snoc] at s ⊢
    rw [show ((u : Int) == -1) = false by rw [beq_eq_false_iff_ne]; omega, cond_false]
    refine wA_some ?_
    have s := Sep.drew s
    refine Sep.LdS s (i := 1) rfl rfl rfl ?_
    refine Sep.LdI s (i := 0) rfl rfl rfl ?_
    refine Sep.LdI s (i := 0) rfl rfl rfl ?_
    obtain ⟨z, hz, hz1, hz2⟩ := seat_at (ss := ss) (i := u) (by omega)
    refine Sep.El s (i := 2) (k := u) rfl rfl hu fun g' o' e => ?_
    cases e
    refine Sep.St_el (i := 2) (x' := { z with od := hdO post (-1) }) seatc_len s rfl hz (el_addr _ _ _ _ _) (by decide) rfl rfl fun w s => ?_
    simp only [List.set_cons_zero, List.set_cons_succ] at s
    rw [set_od hz] at s
    have hnd1 := (List.nodup_append.1 hnd).1
    have hnd2 := (List.nodup_append.1 hnd).2
    refine unlink_b4 (x := 0) (y := y) (pre := pre' ++ [u]) (post := post) hs hnd (Seg_setOd (by omega) hnd1 h1) ((Seg_off (by omega) (fun hm => hnd2.2 u (by simp) u (by simp [hm]) rfl) h4).1) hod (by rw [lsO_snoc]; exact s) fun ss' w' k1 k2 s => h ss' w' (sameK_setOd.trans k1) k2 ?_
    have e : hdO (pre' ++ [u] ++ post) (-1) = nw := by rw [hnw, hdO_app, hdO_app (pre' ++ [u])]; cases pre' <;> rfl
    rw [e]
    exact s
theorem link_b4 {y : Nat} (s : Sep F W w (blkA p 50 [kv, .slice sa sn sc, mv, .int .i64 nw, .int .i64 od] :: rowA sa sn sc 54 4 (flat seatc ss) :: L))
    (h : ∀ w', Sep F W w' (blkA p 50 [kv, .slice sa sn sc, mv, .int .i64 y, .int .i64 od] :: rowA sa sn sc 54 4 (flat seatc ss) :: L) → Q w') : lru_Lru_link.b4 Q (some ⟨p, 0, none⟩) y w := by
  unfold lru_Lru_link.b4
  refine wA_some ?_
  refine Sep.St s (i := 0) rfl rfl rfl fun w s => ?_
  simp only [List.set_cons_zero, List.set_cons_succ] at s
  exact h _ s
theorem link.spec {xs : List Nat} {y : Nat} (hy : y < sn) (hs : ∀ i ∈ xs, i < sn) (hnd : (y :: xs).Nodup) (hseg : Seg ss (-1) xs (-1)) (hnw : nw = hdO xs (-1)) (hod : od = lsO xs (-1))
    (s : Sep F W w (blkA p 50 [kv, .slice sa sn sc, mv, .int .i64 nw, .int .i64 od] :: rowA sa sn sc 54 4 (flat seatc ss) :: L))
    (h : ∀ ss' w', SameK ss ss' → Seg ss' (-1) (y :: xs) (-1) → Sep F W w' (blkA p 50 [kv, .slice sa sn sc, mv, .int .i64 (hdO (y :: xs) (-1)), .int .i64 (lsO (y :: xs) (-1))] :: rowA sa sn sc 54 4 (flat seatc ss') :: L) → Q w') :
    lru_Lru_link.call (some ⟨p, 0, none⟩) y w Q := by
  refine lru_Lru_link.body _ _ _ _ ?_
  unfold lru_Lru_link.sh
  have hl := rowA_length s (i := 1) rfl
  rw [flat_length seatc_len] at hl
  have hl : ss.length = sn := by omega
  obtain ⟨x, hx, hx1, hx2⟩ := seat_at (ss := ss) (i := y) (by omega)
  rw [List.nodup_cons] at hnd
  have s := Sep.drew s
  refine wA_some ?_
  refine Sep.LdS s (i := 0) rfl rfl rfl ?_
  refine wA_some ?_
  refine Sep.LdS s (i := 0) rfl rfl rfl ?_
  refine wA_some ?_
  refine Sep.LdI s (i := 0) rfl rfl rfl ?_
  refine Sep.El s (i := 1) (k := y) rfl rfl hy fun g o e => ?_
  subst e
  refine Sep.St_el (i := 1) (x' := { x with nw := -1 }) seatc_len s rfl hx (el_addr _ _ _ _ _) (by decide) rfl rfl fun w s => ?_
  refine ⟨by omega, by omega, wA_some ?_⟩
  have hx' : (ss.set y { x with nw := -1 })[y]? = some { x with nw := -1 } := List.getElem?_set_self (by omega)
  refine Sep.St_el (i := 1) (x' := { x with nw := -1, od := nw }) seatc_len s rfl hx' (el_addr _ _ _ _ _) (by decide) rfl rfl fun w s => ?_
  simp only [List.set_cons_zero, List.set_cons_succ] at s
  rw [set_nw hx] at hx' s
  rw [show ({ x with nw := -1, od := nw } : Seat) = { ({ x with nw := -1 } : Seat) with od := nw } from rfl, set_od hx'] at s
  have hl2 : (setNw ss y (-1)).length = ss.length := sameK_setNw.1
  have seg2 : Seg (setOd (setNw ss y (-1)) y nw) (-1) xs (-1) := (Seg_off (by omega) hnd.1 (Seg_off (by omega) hnd.1 hseg).2).1
  have n2 : nwA (setOd (setNw ss y (-1)) y nw) y = -1 := by rw [nwA_setOd, nwA_setNw (by omega), if_pos rfl]
  have o2 : odA (setOd (setNw ss y (-1)) y nw) y = nw := by rw [odA_setOd (by omega), if_pos rfl]
  have k2 : SameK ss (setOd (setNw ss y (-1)) y nw) := sameK_setNw.trans sameK_setOd
  generalize setOd (setNw ss y (-1)) y nw = ss2 at s seg2 n2 o2 k2
  have hl3 := k2.1
  refine wA_some ?_
  refine Sep.LdI s (i := 0) rfl rfl rfl ?_
  cases xs with
  | nil =>
    have e : nw = -1 := hnw
    subst e
    rw [show ((-1 : Int) == -1) = true from rfl, cond_true]
    refine wA_some ?_
    refine Sep.St s (i := 0) rfl rfl rfl fun w s => ?_
    simp only [List.set_cons_zero, List.set_cons_succ] at s
    refine link_b4 s fun w s => h _ _ k2 ⟨n2, o2, trivial⟩ s
  | cons z xs =>
    have e : nw = (z : Int) := hnw
    subst e
    have hz : z < sn := hs z (by simp)
    rw [show ((z : Int) == -1) = false by rw [beq_eq_false_iff_ne]; omega, cond_false]
    have s := Sep.drew s
    refine wA_some ?_
    refine Sep.LdS s (i := 0) rfl rfl rfl ?_
    refine wA_some ?_
    refine Sep.LdI s (i := 0) rfl rfl rfl ?_
    obtain ⟨u, hu, _, _⟩ := seat_at (ss := ss2) (i := z) (by omega)
    refine ⟨by omega, by omega, wA_some ?_⟩
    refine Sep.St_el (i := 1) (x' := { u with nw := (y : Int) }) seatc_len s rfl hu (el_addr _ _ _ _ _) (by decide) rfl rfl fun w s => ?_
    simp only [List.set_cons_zero, List.set_cons_succ] at s
    rw [set_nw hu] at s
    have hne : y ≠ z := fun e => hnd.1 (by simp [e])
    refine link_b4 s fun w s => h (setNw ss2 z (y : Int)) _ (k2.trans sameK_setNw) ⟨?_, ?_, ?_⟩ ?_
    · rw [nwA_setNw (by omega), if_neg hne]; exact n2
    · rw [odA_setNw]; exact o2
    · exact Seg_setNw (by omega) hnd.2 seg2
    · have e2 : lsO (y :: z :: xs) (-1) = od := by rw [hod]; rfl
      rw [e2]
      exact s
end
end Go.Proofs.Ytfkpabfamfeggaa.S
