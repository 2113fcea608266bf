/- Layer 18, plain: who was used last; rows that are linked both ways. -/
import Derived.Test.YtfkpabfamfeggaaSxN
set_option linter.unusedVariables false
set_option linter.unusedSimpArgs false
namespace Go.Proofs.Ytfkpabfamfeggaa.S
open Go.Sx
structure Seat where
  a : Int
  b : Int
  nw : Int
  od : Int
def nwA (ss : List Seat) (i : Nat) : Int := (ss[i]?.map (·.nw)).getD 0
def odA (ss : List Seat) (i : Nat) : Int := (ss[i]?.map (·.od)).getD 0
def hdO (xs : List Nat) (n : Int) : Int := match xs with | [] => n | x :: _ => x
def lsO (xs : List Nat) (p : Int) : Int := match xs with | [] => p | x :: xs => lsO xs x
/-- A piece of the row: who is ahead of it, who behind. -/
def Seg (ss : List Seat) (p : Int) (xs : List Nat) (n : Int) : Prop := match xs with
  | [] => True
  | x :: xs => nwA ss x = p ∧ odA ss x = hdO xs n ∧ Seg ss x xs n
theorem hdO_app (xs ys : List Nat) (n : Int) : hdO (xs ++ ys) n = hdO xs (hdO ys n) := by cases xs <;> rfl
theorem lsO_app (xs ys : List Nat) (p : Int) : lsO (xs ++ ys) p = lsO ys (lsO xs p) := by
  induction xs generalizing p with
  | nil => rfl
  | cons x xs ih => exact ih x
theorem Seg_app {ss : List Seat} {p n : Int} {xs ys : List Nat} : Seg ss p (xs ++ ys) n ↔ Seg ss p xs (hdO ys n) ∧ Seg ss (lsO xs p) ys n := by
  induction xs generalizing p with
  | nil => simp [Seg, lsO]
  | cons x xs ih =>
    simp only [List.cons_append, Seg, ih, hdO_app, lsO]
    exact ⟨fun ⟨a, b, c, d⟩ => ⟨⟨a, b, c⟩, d⟩, fun ⟨⟨a, b, c⟩, d⟩ => ⟨a, b, c, d⟩⟩
/-- Who is not touched stays linked. -/
theorem Seg_cong {ss ss' : List Seat} {p n : Int} {xs : List Nat} (h : ∀ x ∈ xs, nwA ss' x = nwA ss x ∧ odA ss' x = odA ss x) (s : Seg ss p xs n) : Seg ss' p xs n := by
  induction xs generalizing p with
  | nil => trivial
  | cons x xs ih =>
    obtain ⟨h1, h2, h3⟩ := s
    obtain ⟨e1, e2⟩ := h x (by simp)
    exact ⟨e1.trans h1, e2.trans h2, ih (fun y hy => h y (by simp [hy])) h3⟩
def setNw (ss : List Seat) (i : Nat) (v : Int) : List Seat := ss.modify i fun s => { s with nw := v }
def setOd (ss : List Seat) (i : Nat) (v : Int) : List Seat := ss.modify i fun s => { s with od := v }
theorem nwA_setNw {ss : List Seat} {i j : Nat} {v : Int} (h : i < ss.length) : nwA (setNw ss i v) j = if j = i then v else nwA ss j := by
  unfold nwA setNw
  rw [List.getElem?_modify]
  by_cases e : j = i
  · subst e; simp [h]
  · have e' : ¬ i = j := fun h => e h.symm
    simp [e, e']
theorem odA_setNw {ss : List Seat} {i j : Nat} {v : Int} : odA (setNw ss i v) j = odA ss j := by
  unfold odA setNw
  rw [List.getElem?_modify]
  cases ss[j]? with
  | none => rfl
  | some s =>
    simp only [Option.map_eq_map, Option.map_some, Option.getD_some]
    split <;> rfl
theorem odA_setOd {ss : List Seat} {i j : Nat} {v : Int} (h : i < ss.length) : odA (setOd ss i v) j = if j = i then v else odA ss j := by
  unfold odA setOd
  rw [List.getElem?_modify]
  by_cases e : j = i
  · subst e; simp [h]
  · have e' : ¬ i = j := fun h => e h.symm
    simp [e, e']
theorem nwA_setOd {ss : List Seat} {i j : Nat} {v : Int} : nwA (setOd ss i v) j = nwA ss j := by
  unfold nwA setOd
  rw [List.getElem?_modify]
  cases ss[j]? with
  | none => rfl
  | some s =>
    simp only [Option.map_eq_map, Option.map_some, Option.getD_some]
    split <;> rfl
/-- The last one of a piece gets another one behind it. -/
theorem Seg_setOd {ss : List Seat} {p n v : Int} {xs : List Nat} {y : Nat} (hy : y < ss.length) (hnd : (xs ++ [y]).Nodup) (s : Seg ss p (xs ++ [y]) n) : Seg (setOd ss y v) p (xs ++ [y]) v := by
  rw [Seg_app] at s ⊢
  obtain ⟨s1, h1, h2, _⟩ := s
  rw [List.nodup_append] at hnd
  refine ⟨Seg_cong (fun x hx => ?_) s1, nwA_setOd.trans h1, by rw [odA_setOd hy, if_pos rfl]; rfl, trivial⟩
  exact ⟨nwA_setOd, by rw [odA_setOd hy, if_neg (hnd.2.2 x hx y (by simp))]⟩
/-- The first one of a piece gets another one ahead of it. -/
theorem Seg_setNw {ss : List Seat} {p n v : Int} {xs : List Nat} {y : Nat} (hy : y < ss.length) (hnd : (y :: xs).Nodup) (s : Seg ss p (y :: xs) n) : Seg (setNw ss y v) v (y :: xs) n := by
  obtain ⟨h1, h2, h3⟩ := s
  rw [List.nodup_cons] at hnd
  refine ⟨by rw [nwA_setNw hy, if_pos rfl], odA_setNw.trans h2, Seg_cong (fun x hx => ⟨?_, odA_setNw⟩) h3⟩
  rw [nwA_setNw hy, if_neg (fun e : x = y => hnd.1 (by rw [← e]; exact hx))]
theorem Seg_off {ss : List Seat} {p n v : Int} {xs : List Nat} {y : Nat} (hy : y < ss.length) (hx : y ∉ xs) (s : Seg ss p xs n) : Seg (setOd ss y v) p xs n ∧ Seg (setNw ss y v) p xs n :=
  ⟨Seg_cong (fun x h => ⟨nwA_setOd, by rw [odA_setOd hy, if_neg (fun e : x = y => hx (by rw [← e]; exact h))]⟩) s, Seg_cong (fun x h => ⟨by rw [nwA_setNw hy, if_neg (fun e : x = y => hx (by rw [← e]; exact h))], odA_setNw⟩) s⟩
theorem lsO_snoc (xs : List Nat) (y : Nat) (p : Int) : lsO (xs ++ [y]) p = y := by rw [lsO_app]; rfl
/-! Keys with their slots, the one that was used last first. -/
abbrev KS := List ((Int × Int) × Nat)
def findP (l : KS) (key : Int × Int) : Int := match l.find? (fun p => decide (p.1 = key)) with | some p => p.2 | none => -1
def useP (k : Int) (l : KS) (key : Int × Int) : (Int × Bool × Bool) × KS := match l.find? (fun p => decide (p.1 = key)) with
  | some p => ((p.2, true, false), (key, p.2) :: l.filter (fun q => !decide (q.1 = key)))
  | none => if (l.length : Int) < k then ((l.length, false, false), (key, l.length) :: l) else match l.getLast? with
    | some p => ((p.2, false, true), (key, p.2) :: l.dropLast)
    | none => ((-1, false, true), l)
/-- What holds of keys and slots at any time. -/
structure Good (k : Int) (l : KS) : Prop where
  room : (l.length : Int) ≤ k
  nd : (l.map (·.2)).Nodup
  lt : ∀ p ∈ l, p.2 < l.length
  knd : (l.map (·.1)).Nodup
theorem good_nil {k : Int} (h : 0 ≤ k) : Good k [] := ⟨h, .nil, by simp, .nil⟩
theorem key_uniq {l : KS} (h : (l.map (·.1)).Nodup) {p q : (Int × Int) × Nat} (hp : p ∈ l) (hq : q ∈ l) (e : p.1 = q.1) : p = q := by
  induction l with
  | nil => cases hp
  | cons x l ih =>
    rw [List.map_cons, List.nodup_cons] at h
    rcases List.mem_cons.1 hp with e1 | hp' <;> rcases List.mem_cons.1 hq with e2 | hq'
    · rw [e1, e2]
    · exact (h.1 (List.mem_map.2 ⟨q, hq', by rw [← e, e1]⟩)).elim
    · exact (h.1 (List.mem_map.2 ⟨p, hp', by rw [e, e2]⟩)).elim
    · exact ih h.2 hp' hq'
theorem find_some {l : KS} {key : Int × Int} {p : (Int × Int) × Nat} (h : l.find? (fun p => decide (p.1 = key)) = some p) : p.1 = key ∧ p ∈ l := by
  have := List.find?_some h
  exact ⟨of_decide_eq_true this, List.mem_of_find?_eq_some h⟩
theorem find_none {l : KS} {key : Int × Int} (h : l.find? (fun p => decide (p.1 = key)) = none) : ∀ p ∈ l, p.1 ≠ key := fun p hp e => by
  have := List.find?_eq_none.1 h p hp
  simp [e] at this
theorem find_of_mem {l : KS} (hnd : (l.map (·.1)).Nodup) {p : (Int × Int) × Nat} (hp : p ∈ l) : l.find? (fun q => decide (q.1 = p.1)) = some p := by
  cases h : l.find? (fun q => decide (q.1 = p.1)) with
  | none => exact (find_none h p hp rfl).elim
  | some q =>
    obtain ⟨h1, h2⟩ := find_some h
    rw [key_uniq hnd h2 hp h1]
/-- The row about a key: what is ahead, what behind. -/
theorem split_at {l : KS} (hnd : (l.map (·.1)).Nodup) {p : (Int × Int) × Nat} (hp : p ∈ l) : ∃ pre post, l = pre ++ p :: post ∧ l.filter (fun q => !decide (q.1 = p.1)) = pre ++ post := by
  obtain ⟨pre, post, rfl⟩ := List.append_of_mem hp
  refine ⟨pre, post, rfl, ?_⟩
  rw [List.map_append, List.map_cons, List.nodup_append, List.nodup_cons] at hnd
  rw [List.filter_append, List.filter_cons_of_neg (by simp), List.filter_eq_self.2, List.filter_eq_self.2]
  · intro q hq
    have : q.1 ≠ p.1 := fun e => hnd.2.1.1 (List.mem_map.2 ⟨q, hq, e⟩)
    simp [this]
  · intro q hq
    have : q.1 ≠ p.1 := fun e => hnd.2.2 q.1 (List.mem_map.2 ⟨q, hq, rfl⟩) p.1 (by simp) e
    simp [this]
theorem use_len {l : KS} (hnd : (l.map (·.1)).Nodup) {p : (Int × Int) × Nat} (hp : p ∈ l) (k : Int × Int) (n : Nat) : ((k, n) :: l.filter (fun q => !decide (q.1 = p.1))).length = l.length := by
  obtain ⟨pre, post, e1, e2⟩ := split_at hnd hp
  rw [e2, e1]
  simp only [List.length_cons, List.length_append]
  omega
theorem good_use {k : Int} {l : KS} {key : Int × Int} (hk : 1 ≤ k) (h : Good k l) : Good k (useP k l key).2 := by
  unfold useP
  cases hf : l.find? (fun p => decide (p.1 = key)) with
  | some p =>
    obtain ⟨rfl, hp⟩ := find_some hf
    obtain ⟨pre, post, e1, e2⟩ := split_at h.knd hp
    simp only
    rw [e2]
    have hper : List.Perm ((p.1, p.2) :: (pre ++ post)) l := by rw [e1]; exact List.perm_middle.symm
    have hlen := hper.length_eq
    exact ⟨by rw [hlen]; exact h.room, (hper.map (·.2)).nodup_iff.2 h.nd, fun q hq => by rw [hlen]; exact h.lt q (hper.mem_iff.1 hq), (hper.map (·.1)).nodup_iff.2 h.knd⟩
  | none =>
    have hn := find_none hf
    simp only
    by_cases hroom : (l.length : Int) < k
    · rw [if_pos hroom]
      refine ⟨by simp only [List.length_cons]; omega, ?_, fun q hq => ?_, ?_⟩
      · simp only [List.map_cons, List.nodup_cons]
        refine ⟨fun hm => ?_, h.nd⟩
        obtain ⟨q, hq, e⟩ := List.mem_map.1 hm
        have := h.lt q hq
        omega
      · simp only [List.length_cons]
        rcases List.mem_cons.1 hq with rfl | hq
        · simp
        · have := h.lt q hq; omega
      · simp only [List.map_cons, List.nodup_cons]
        refine ⟨fun hm => ?_, h.knd⟩
        obtain ⟨q, hq, e⟩ := List.mem_map.1 hm
        exact hn q hq e
    · rw [if_neg hroom]
      cases hl : l.getLast? with
      | none => exact h
      | some p =>
        simp only
        obtain ⟨ys, rfl⟩ := List.getLast?_eq_some_iff.1 hl
        rw [List.dropLast_concat]
        have e1 : (ys ++ [p]).length = ((key, p.2) :: ys).length := by simp
        have hper : List.Perm (((key, p.2) :: ys).map (·.2)) ((ys ++ [p]).map (·.2)) := by
          rw [List.map_cons, List.map_append]; exact (List.perm_append_singleton _ _).symm
        refine ⟨by rw [← e1]; exact h.room, hper.nodup_iff.2 h.nd, fun q hq => ?_, ?_⟩
        · rw [← e1]
          rcases List.mem_cons.1 hq with rfl | hq
          · exact h.lt p (by simp)
          · exact h.lt q (by simp [hq])
        · simp only [List.map_cons, List.nodup_cons]
          have := h.knd
          rw [List.map_append, List.nodup_append] at this
          refine ⟨fun hm => ?_, this.1⟩
          obtain ⟨q, hq, e⟩ := List.mem_map.1 hm
          exact hn q (by simp [hq]) e
end Go.Proofs.Ytfkpabfamfeggaa.S
