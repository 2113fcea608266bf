/- Slices as they are known: read, cut; a part that is several is opened. -/
import Derived.Test.YtjndgflalbcngaaSxL
set_option linter.unusedVariables false
set_option linter.unusedSimpArgs false
namespace Go.Sx
theorem wrap_u8' (n : Int) : IntKind.wrap .u8 n = n % 256 := by simp [IntKind.wrap, IntKind.signed, IntKind.bits]
theorem LdI_cell {w : World} {k : IntKind} {m : Int} {ad : Addr} {K : Int → Prop} (h : w.cell? ad = some (.int k m)) (hk : K m) : LdI k ad w K := ⟨m, h, hk⟩
theorem LdB_cell {w : World} {m : Bool} {ad : Addr} {K : Bool → Prop} (h : w.cell? ad = some (.bool m)) (hk : K m) : LdB ad w K := ⟨m, h, hk⟩
theorem LdS_cell {w : World} {x : Option Addr} {m q : Nat} {ad : Addr} {K : Option Addr → Nat → Nat → Prop} (h : w.cell? ad = some (.slice x m q)) (hk : K x m q) : LdS ad w K := ⟨x, m, q, h, hk⟩
theorem LdI_get {w : World} {k : IntKind} {m : Int} {ad : Addr} (h : LdI k ad w fun x => x = m) : w.cell? ad = some (.int k m) := by
  obtain ⟨x, h1, rfl⟩ := h
  exact h1
theorem LdB_get {w : World} {m : Bool} {ad : Addr} (h : LdB ad w fun x => x = m) : w.cell? ad = some (.bool m) := by
  obtain ⟨x, h1, rfl⟩ := h
  exact h1
theorem SlK_mid {A : Option Addr} {n c size : Nat} {l h : Int} {p q : Nat} {K : Option Addr → Nat → Nat → Prop} (hl : l = p) (hh : h = q) (hpq : p ≤ q) (hq : q ≤ c) (k : K (if c = p then A else A.map (·.add (p * size))) (q - p) (c - p)) : SlK A n c size (some l) (some h) K := by
  subst hl hh
  refine ⟨fun h' e => (by cases e; omega), fun l e => (by cases e; simp; omega), ?_⟩
  simpa using k
/-- A slice that is known. -/
structure Sl {α : Type} (w : World) (a : Option Addr) (n c size : Nat) (f : α → List Value) (xs : List α) : Prop where
  row : ArgRow w a n size f xs
  le : n ≤ c
  nil : a = none → c = 0
section
variable {α : Type} {w w' : World} {a : Option Addr} {n c size : Nat} {f : α → List Value} {xs : List α}
theorem Sl.fr (h : Sl w a n c size f xs) (k : Fr No w w') : Sl w' a n c size f xs := ⟨h.row.fr k, h.le, h.nil⟩
theorem Sl.drew (h : Sl w a n c size f xs) : Sl w.drew a n c size f xs := ⟨h.row, h.le, h.nil⟩
theorem Sl.len (h : Sl w a n c size f xs) : xs.length = n := h.row.1
theorem Sl.none0 : Sl w none 0 0 size f [] := ⟨⟨rfl, fun i x hx => by simp at hx⟩, Nat.le_refl _, fun _ => rfl⟩
theorem ArgRow.drop (h : ArgRow w a n size f xs) {m : Nat} (hm : m ≤ n) (hc : n ≤ c) : ArgRow w (if c = m then a else a.map (·.add (m * size))) (n - m) size f (xs.drop m) := by
  refine ⟨by rw [List.length_drop, h.1], fun i x hx => ?_⟩
  have hi : i < (xs.drop m).length := (List.getElem?_eq_some_iff.1 hx).1
  rw [List.length_drop, h.1] at hi
  rw [if_neg (by omega)]
  rw [List.getElem?_drop] at hx
  obtain ⟨ad, rfl, hv⟩ := h.2 (m + i) x hx
  refine ⟨ad.add (m * size), rfl, fun j v hj => ?_⟩
  rw [add_add, show m * size + (i * size + j) = (m + i) * size + j by rw [Nat.add_mul]; omega]
  exact hv j v hj
theorem Sl.cut (h : Sl w a n c size f xs) {m : Nat} (hm : m ≤ n) : Sl w (if c = m then a else a.map (·.add (m * size))) (n - m) (c - m) size f (xs.drop m) := by
  refine ⟨h.row.drop hm h.le, by have := h.le; omega, fun e => ?_⟩
  split at e
  · omega
  · rw [Option.map_eq_none_iff] at e
    have := h.nil e
    omega
theorem Sl.top (h : Sl w a n c size f xs) {m : Nat} (hm : m ≤ n) : Sl w a m c size f (xs.take m) := ⟨h.row.take hm, by have := h.le; omega, h.nil⟩
theorem Sl.lo {l : Int} {m : Nat} {K : Option Addr → Nat → Nat → Prop} (h : Sl w a n c size f xs) (hl : l = m) (hm : m ≤ n) (k : ∀ a' n' c', n' = n - m → Sl w a' n' c' size f (xs.drop m) → K a' n' c') : SlK a n c size (some l) none K :=
  SlK_lo hl hm (k _ _ _ rfl (h.cut hm))
theorem Sl.hi {l : Int} {m : Nat} {K : Option Addr → Nat → Nat → Prop} (h : Sl w a n c size f xs) (hl : l = m) (hm : m ≤ n) (k : ∀ a' c', Sl w a' m c' size f (xs.take m) → K a' m c') : SlK a n c size none (some l) K :=
  SlK_hi hl (Nat.le_trans hm h.le) (k _ _ (h.top hm))
theorem Sl.mid {l t : Int} {p q : Nat} {K : Option Addr → Nat → Nat → Prop} (h : Sl w a n c size f xs) (hl : l = p) (ht : t = q) (hpq : p ≤ q) (hq : q ≤ n) (k : ∀ a' n' c', n' = q - p → Sl w a' n' c' size f ((xs.drop p).take (q - p)) → K a' n' c') : SlK a n c size (some l) (some t) K := by
  refine SlK_mid hl ht hpq (Nat.le_trans hq h.le) (k _ _ _ rfl ?_)
  have := h.cut (show p ≤ n by omega)
  exact this.top (show q - p ≤ n - p by omega)
theorem Sl.El {idx : Int} {k : Nat} {K : Addr → Prop} (h : Sl w a n c size f xs) (hk : idx = k) (hn : k < n) (hK : ∀ p x, xs[k]? = some x → (∀ j v, (f x)[j]? = some v → w.cell? ((p.add (idx.toNat * size)).add j) = some v) → K p) : InB idx n (wA a K) := by
  subst hk
  obtain ⟨x, hx⟩ : ∃ x, xs[k]? = some x := ⟨xs[k]'(by rw [h.len]; exact hn), List.getElem?_eq_getElem _⟩
  obtain ⟨ad, rfl, hv⟩ := h.row.2 k x hx
  refine ⟨by omega, by omega, hK ad x hx fun j v hj => ?_⟩
  rw [add_add, Int.toNat_natCast]
  exact hv j v hj
theorem Sl.rd {idx : Int} {k : Nat} {kd : IntKind} {ys : List Int} {K : Int → Prop} (h : Sl w a n c 1 (fun x => [.int kd x]) ys) (hk : idx = k) (hn : k < n) (hK : K (gi ys k)) : InB idx n (wA a fun p => LdI kd (p.add (idx.toNat * 1)) w K) :=
  Sl.El h hk hn fun p x hx hc => by
    rw [gi_get (by rw [h.len]; exact hn)] at hx
    cases hx
    have := hc 0 _ rfl
    rw [add_zero] at this
    exact LdI_cell this hK
theorem Sl.rd8 {idx : Int} {k : Nat} {ys : List Int} {K : Int → Prop} (h : Sl w a n c 1 by8 ys) (hk : idx = k) (hn : k < n) (hK : K (gi ys k)) : InB idx n (wA a fun p => LdI .u8 (p.add (idx.toNat * 1)) w K) := Sl.rd h hk hn hK
theorem Sl.rd1 {idx : Int} {k : Nat} {ys : List Int} {K : Int → Prop} (h : Sl w a n c 1 one ys) (hk : idx = k) (hn : k < n) (hK : K (gi ys k)) : InB idx n (wA a fun p => LdI .i64 (p.add (idx.toNat * 1)) w K) := Sl.rd h hk hn hK
theorem Sep.sl {F : Nat → Prop} {W : World} {L : List As} {i : Nat} {e : TypeId} (s : Sep F W w L) (hi : L[i]? = some (rowA a n c e size (flat f xs))) (hf : ∀ x, (f x).length = size) (hsz : 0 < size) : Sl w a n c size f xs :=
  ⟨Sep.argrow s hi hf hsz, (rowA_cap s hi).1, rowA_none s hi⟩
theorem Sl.src (h : Sl w a n c size f xs) {e : TypeId} (hf : ∀ x, (f x).length = size) (h1 : ∀ x u, u ∈ f x → u.oneCell' = true) : Src w a n size (flat f xs) := ArgRow.src (e := e) h.row Sep.nil hf h1
theorem Sep.openJ {F : Nat → Prop} {W : World} {L Ps : List As} {φ : Prop} (s : Sep F W w (joinA φ Ps :: L)) : φ ∧ Sep F W w (Ps ++ L) := by
  refine ⟨join_pure s (i := 0) rfl, ?_⟩
  have := Sep.splice s Ps [] L rfl fun ho => ?_
  · simpa using this
  · have k := join_open s (i := 0) rfl
    refine ⟨fun B hB => (SepM.ok k B hB).1, fun B hB b hb => ?_, SepM.apart k⟩
    rcases (SepM.ok k B hB).2 b hb with h | h
    · exact h
    · have h2 := B.lt _ (SepM.ok k B hB).1 b hb
      have h : w.heap.size ≤ b := h
      have h2 : b < w.heap.size := h2
      omega
end
end Go.Sx
