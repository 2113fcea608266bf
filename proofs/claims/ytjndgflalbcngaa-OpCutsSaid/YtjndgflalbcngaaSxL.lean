/- Slices of bytes and of numbers that are read; strings made of them; parts gained by a call. -/
import Derived.Test.YtjndgflalbcngaaSxK
import Derived.Laws.BytesArg
set_option linter.unusedVariables false
set_option linter.unusedSimpArgs false
namespace Go.Sx
open Go.RowKit
def by8 (x : Int) : List Value := [.int .u8 x]
theorem by8_len (x : Int) : (by8 x).length = 1 := rfl
theorem by8_one (x : Int) (u : Value) (h : u ∈ by8 x) : u.oneCell' = true := by rw [by8, List.mem_singleton] at h; rw [h]; rfl
def one (x : Int) : List Value := [.int .i64 x]
theorem one_len (x : Int) : (one x).length = 1 := rfl
theorem one_one (x : Int) (u : Value) (h : u ∈ one x) : u.oneCell' = true := by rw [one, List.mem_singleton] at h; rw [h]; rfl
theorem flat_by8 (xs : List Int) : flat by8 xs = xs.map (.int .u8) := by
  induction xs with
  | nil => rfl
  | cons x xs ih => rw [List.map_cons, ← ih]; rfl
def gi (l : List Int) (i : Nat) : Int := l.getD i 0
theorem gi_get {l : List Int} {i : Nat} (h : i < l.length) : l[i]? = some (gi l i) := by
  rw [gi, List.getD_eq_getElem?_getD, List.getElem?_eq_getElem h]; rfl
theorem gi_mem {l : List Int} {i : Nat} (h : i < l.length) : gi l i ∈ l := List.mem_of_getElem? (gi_get h)
theorem gi_ext {xs ys : List Int} (hl : xs.length = ys.length) (h : ∀ i, i < xs.length → gi xs i = gi ys i) : xs = ys := by
  apply List.ext_getElem?
  intro j
  by_cases hj : j < xs.length
  · rw [gi_get hj, gi_get (by omega), h j hj]
  · rw [List.getElem?_eq_none (by omega), List.getElem?_eq_none (by omega)]
theorem gi_set {l : List Int} {i j : Nat} {v : Int} (h : i < l.length) : gi (l.set i v) j = if j = i then v else gi l j := by
  simp only [gi, List.getD_eq_getElem?_getD]
  by_cases e : j = i
  · subst e; rw [if_pos rfl, List.getElem?_set_self h]; rfl
  · rw [if_neg e, List.getElem?_set_ne (by omega)]
section
variable {F : Nat → Prop} {W w w' : World} {L Ls : List As} {A : As} {i : Nat}
theorem Sep.drew (s : Sep F W w L) : Sep F W w.drew L := s
theorem Sep.gain (s : Sep F W w L) (s' : Sep No w w' Ls) (hi : Ls[i]? = some A) : Sep F W w' (A :: L) :=
  Sep.new s (sep_fr s') (Sep.get s' hi) fun b hb => by
    rcases (SepM.ok s' _ (mem_of_nth hi)).2 b hb with h1 | h1
    · exact h1.elim
    · exact h1
/-- All parts of a call that wrote nothing that was there are new ones. -/
theorem Sep.gains (s : Sep F W w L) (s' : Sep No w w' Ls) : Sep F W w' (Ls ++ L) := by
  have f := sep_fr s'
  refine ⟨Fr.trans (a := W) (SepM.fr s) f fun _ _ h => h.elim, fun B hB => ?_, ?_⟩
  · rcases List.mem_append.1 hB with hB | hB
    · have hW : W.heap.size ≤ w.heap.size := FrM.size (SepM.fr s)
      refine ⟨(SepM.ok s' B hB).1, fun b hb => .inr ?_⟩
      rcases (SepM.ok s' B hB).2 b hb with h | h
      · exact h.elim
      · exact Nat.le_trans hW h
    · have hBs := SepM.ok s B hB
      exact ⟨B.fr _ _ hBs.1 fun b hb => f.block b (B.lt _ hBs.1 b hb) id, hBs.2⟩
  · rw [List.pairwise_append]
    refine ⟨SepM.apart s', SepM.apart s, fun B hB C hC b hb hc => ?_⟩
    have h1 := C.lt _ (SepM.ok s C hC).1 b hc
    rcases (SepM.ok s' B hB).2 b hb with h | h
    · exact h.elim
    · have h : w.heap.size ≤ b := h
      have h1 : b < w.heap.size := h1
      omega
/-- Some of the parts, in whatever order. -/
theorem Sep.pick {L' : List As} (is : List Nat) (s : Sep F W w L) (h : is.map (fun i => L[i]?) = L'.map some) (hn : is.Nodup) : Sep F W w L' := by
  have hat : ∀ (j : Nat) (B : As), L'[j]? = some B → ∃ i, is[j]? = some i ∧ L[i]? = some B := fun j B hB => by
    have e := congrArg (fun l => l[j]?) h
    simp only [List.getElem?_map, hB, Option.map_some] at e
    obtain ⟨i, h1, h2⟩ := Option.map_eq_some_iff.1 e
    exact ⟨i, h1, h2⟩
  refine ⟨SepM.fr s, fun B hB => ?_, ?_⟩
  · obtain ⟨j, hj⟩ := List.getElem?_of_mem hB
    obtain ⟨i, _, hi⟩ := hat j B hj
    exact SepM.ok s B (List.mem_of_getElem? hi)
  · rw [List.pairwise_iff_getElem]
    intro j k hj hk hlt
    obtain ⟨i, h1, h2⟩ := hat j _ (List.getElem?_eq_getElem hj)
    obtain ⟨i', h3, h4⟩ := hat k _ (List.getElem?_eq_getElem hk)
    refine apart_at (fun a b h x hx hy => h x hy hx) (SepM.apart s) h2 h4 fun e => ?_
    subst e
    obtain ⟨hj', e1⟩ := List.getElem?_eq_some_iff.1 h1
    obtain ⟨hk', e2⟩ := List.getElem?_eq_some_iff.1 h3
    exact List.pairwise_iff_getElem.1 hn j k hj' hk' hlt (e1.trans e2.symm)
theorem sep_below (s : Sep No W w L) : Go.RowKit.Below W.heap.size W w := Fr.below (F := No) (SepM.fr s) fun _ _ h => h
end
theorem dStr_mk {b : ByteArray} {K : ByteArray → Prop} (h : K b) : dStr (.string b) K := h
theorem strOf_toList (xs : List Int) : (strOfNums xs).toList = xs.map fun n => UInt8.ofNat n.toNat := by
  rw [ByteArray.toList_eq]; rfl
theorem strOf_inj {xs ys : List Int} (hx : ∀ x ∈ xs, 0 ≤ x ∧ x < 256) (hy : ∀ x ∈ ys, 0 ≤ x ∧ x < 256) (h : (xs.map fun n => UInt8.ofNat n.toNat) = ys.map fun n => UInt8.ofNat n.toNat) : xs = ys := by
  induction xs generalizing ys with
  | nil => cases ys with
    | nil => rfl
    | cons => simp at h
  | cons x xs ih => cases ys with
    | nil => simp at h
    | cons y ys =>
      simp only [List.map_cons, List.cons.injEq] at h
      have h1 := hx x (by simp)
      have h2 := hy y (by simp)
      have e := congrArg UInt8.toNat h.1
      simp only [UInt8.toNat_ofNat'] at e
      rw [ih (fun z hz => hx z (by simp [hz])) (fun z hz => hy z (by simp [hz])) h.2, show x = y by omega]
theorem strOf_beq {xs ys : List Int} (hx : ∀ x ∈ xs, 0 ≤ x ∧ x < 256) (hy : ∀ x ∈ ys, 0 ≤ x ∧ x < 256) : ((strOfNums xs).toList == (strOfNums ys).toList) = decide (xs = ys) := by
  rw [Bool.eq_iff_iff, beq_iff_eq, strOf_toList, strOf_toList, decide_eq_true_eq]
  exact ⟨strOf_inj hx hy, fun e => by rw [e]⟩
theorem ArgRow.Str {P : Program} {T : Tab} {t d e : TypeId} {ti ei di : TI} {ns : List Int} {w : World} {a : Option Addr} {n c : Nat} {K : Value → World → Prop} (hT : OkTab P T) (hA : ArgRow w a n 1 by8 ns)
    (ht : T t = some ti) (hd : ti.d = .slice e) (he : T e = some ei) (hk : ei.d = .int .u8) (hd' : T d = some di) (hds : di.d = .str)
    (h : K (.string (strOfNums ns)) w) : RunK P (convert t d (.slice a n c)) w K := by
  obtain ⟨inf, u, z, k1, k2, k3, k4, k5, k6, k7⟩ := ok_info hT ht
  obtain ⟨inf', u', z', q1, q2, q3, q4, q5, q6, q7⟩ := ok_info hT he
  obtain ⟨inf2, u2, z2, p1, p2, p3, p4, p5, p6, p7⟩ := ok_info hT hd'
  rw [hd] at k3
  rw [hk] at q3
  rw [hds] at p3
  obtain rfl : u = .slice e := by cases u <;> simp [mkTD] at k3; rw [k3]
  obtain rfl : u' = .int .u8 := by cases u' <;> simp [mkTD] at q3; rw [q3]
  obtain rfl : u2 = .string := by cases u2 <;> simp [mkTD] at p3; rfl
  cases a with
  | none =>
    have hn : ns = [] := by
      cases ns with
      | nil => rfl
      | cons x xs =>
        obtain ⟨ad, e1, _⟩ := hA.2 0 x rfl
        cases e1
    subst hn
    unfold RunK
    rw [run_convert_bytes_nil w t e k2 q2 n c d p2]
    exact h
  | some ad =>
    have hlen := hA.1
    have hl : (loadCells ad n).run P w = .ok (ns.map (Value.int .u8)).toArray w := by
      have := run_loadCells_list (P := P) w ad (ns.map (Value.int .u8)) (fun j v hj => by
        rw [List.getElem?_map] at hj
        obtain ⟨x, hx, rfl⟩ := Option.map_eq_some_iff.1 hj
        obtain ⟨ad', e1, hc⟩ := hA.2 j x hx
        cases e1
        have := hc 0 _ rfl
        rwa [show j * 1 + 0 = j by omega] at this)
      simpa [hlen] using this
    unfold RunK
    have e : (convert t d (.slice (some ad) n c)).run P w = .ok (.string (strOfNums ns)) w := by
      rw [run_convert_bytes_string w t d e _ n c k2 q2 p2, run_bytesToString w _ n c ns hl, foldl_push_bytes]
      simp [strOfNums, ByteArray.empty, ByteArray.emptyWithCapacity]
      rfl
    rw [e]
    exact h
section
variable {F : Nat → Prop} {W w : World} {L : List As} {i n c size : Nat} {a : Option Addr} {e : TypeId} {xs : List Value}
/-- An index into a slice of one's own. -/
theorem Sep.El {idx : Int} {k : Nat} {K : Addr → Prop} (s : Sep F W w L) (hi : L[i]? = some (rowA a n c e size xs)) (hk : idx = k) (hn : k < n) (h : ∀ g o, a = some ⟨g, o, none⟩ → K ⟨g, o, none⟩) : InB idx n (wA a K) := by
  obtain ⟨g, o, rfl⟩ := rowA_some s hi (by omega)
  exact ⟨by omega, by omega, h g o rfl⟩
end
end Go.Sx
