/- Frames: what a call leaves as it was; parts of the memory that are known, each by itself. -/
import Derived.Test.YtjndgflalbcngaaSxE
import Derived.Below
import Derived.Laws.AppendOwn
set_option linter.unusedVariables false
set_option linter.unusedSimpArgs false
namespace Go.Sx
open Go.RowKit

/-- What of a world a frame speaks of. -/
structure Mm where
  os : Os
  tape : Tape
  output : Array (Nat × ByteArray)
  heap : Array Obj
def mm (w : World) : Mm := ⟨w.os, w.tape, w.output, w.heap⟩
/-- But for the blocks in F the memory that was there is as it was. -/
structure FrM (F : Nat → Prop) (w w' : Mm) : Prop where
  os : w'.os = w.os
  tape : w'.tape = w.tape
  output : w'.output = w.output
  size : w.heap.size ≤ w'.heap.size
  block : ∀ k, k < w.heap.size → ¬ F k → w'.heap[k]? = w.heap[k]?
abbrev Fr (F : Nat → Prop) (w w' : World) : Prop := FrM F (mm w) (mm w')
def No : Nat → Prop := fun _ => False
theorem Fr.refl {F : Nat → Prop} {w : World} : Fr F w w := ⟨rfl, rfl, rfl, Nat.le_refl _, fun _ _ _ => rfl⟩
theorem Fr.size {F : Nat → Prop} {a b : World} (h : Fr F a b) : a.heap.size ≤ b.heap.size := FrM.size h
theorem Fr.block {F : Nat → Prop} {a b : World} (h : Fr F a b) (k : Nat) (hk : k < a.heap.size) (hf : ¬ F k) : b.heap[k]? = a.heap[k]? := FrM.block h k hk hf
theorem Fr.trans {F G : Nat → Prop} {a b c : World} (h : Fr F a b) (k : Fr G b c) (hg : ∀ i, i < a.heap.size → G i → F i) : Fr F a c :=
  ⟨(FrM.os k).trans (FrM.os h), (FrM.tape k).trans (FrM.tape h), (FrM.output k).trans (FrM.output h), Nat.le_trans (FrM.size h) (FrM.size k), fun i hi hf => (k.block i (Nat.lt_of_lt_of_le hi h.size) fun hgi => hf (hg i hi hgi)).trans (h.block i hi hf)⟩
theorem Fr.then {F : Nat → Prop} {a b c : World} (h : Fr F a b) (k : Fr F b c) : Fr F a c := Fr.trans h k fun _ _ h => h
theorem Fr.mono {F G : Nat → Prop} {a b : World} (h : Fr F a b) (hg : ∀ i, i < a.heap.size → F i → G i) : Fr G a b :=
  ⟨FrM.os h, FrM.tape h, FrM.output h, FrM.size h, fun k hk hf => h.block k hk fun hF => hf (hg k hk hF)⟩
theorem Fr.no {F : Nat → Prop} {a b : World} (h : Fr No a b) : Fr F a b := Fr.mono h fun _ _ h => h.elim
theorem Fr.alloc {F : Nat → Prop} {a w : World} (h : Fr F a w) (o : Obj) : Fr F a (w.alloc o) :=
  Fr.trans (G := No) h ⟨rfl, rfl, rfl, by show w.heap.size ≤ (w.alloc o).heap.size; simp, fun k hk _ => Below.heap_alloc _ _ _ hk⟩ fun _ _ h => h.elim
theorem Fr.setCell {F : Nat → Prop} {a w : World} (h : Fr F a w) {p : Addr} (hp : p.block < a.heap.size → F p.block) (u : Value) : Fr F a (w.setCell p u) :=
  Fr.trans (G := fun k => k = p.block) h ⟨rfl, rfl, rfl, by show w.heap.size ≤ (w.setCell p u).heap.size; simp, fun k hk hf => Below.heap_setCell _ _ _ _ hf⟩ fun i hi e => by subst e; exact hp hi
theorem Fr.grown {F : Nat → Prop} {a w w' : World} {row : Option Nat} (h : Fr F a w) (hg : w.grownBy w' row) (hr : ∀ k, row = some k → k < a.heap.size → F k) : Fr F a w' :=
  Fr.trans (G := fun k => row = some k) h ⟨hg.os, hg.tape, hg.output, hg.size, fun k hk hf => hg.block k hk fun e => hf e.symm⟩ fun i hi e => hr i e hi
theorem Fr.below {F : Nat → Prop} {w w' : World} (h : Fr F w w') (hf : ∀ k, k < w.heap.size → ¬ F k) : Below w.heap.size w w' :=
  ⟨FrM.os h, FrM.tape h, FrM.output h, FrM.size h, fun k hk => h.block k hk (hf k hk)⟩
theorem Fr.cell {F : Nat → Prop} {w w' : World} (h : Fr F w w') {p : Addr} {v : Value} (hv : w.cell? p = some v) (hf : ¬ F p.block) : w'.cell? p = some v :=
  (World.cell?_of_block (w := w) (h.block p.block (World.block_lt_of_cell? w p hv) hf)).trans hv

/-- A block of the program's own, with all its cells. -/
def BlkH (h : Array Obj) (b : Nat) (t : TypeId) (cs : List Value) : Prop := h[b]? = some (.cells cs.toArray t (0, 0))
abbrev Blk (w : World) (b : Nat) (t : TypeId) (cs : List Value) : Prop := BlkH w.heap b t cs
theorem Blk.lt {w : World} {b : Nat} {t : TypeId} {cs : List Value} (h : Blk w b t cs) : b < w.heap.size := (Array.getElem?_eq_some_iff.1 h).1
theorem Blk.new {w : World} {t : TypeId} {cs : List Value} : Blk (w.alloc (.cells cs.toArray t)) w.heap.size t cs := heap_alloc_new w _
theorem Blk.cell {w : World} {b : Nat} {t : TypeId} {cs : List Value} (h : Blk w b t cs) (i : Nat) : w.cell? ⟨b, i, none⟩ = cs[i]? := by
  rw [cell_of_row w b i _ _ _ h]; simp
theorem Blk.unfrozen {w : World} {b : Nat} {t : TypeId} {cs : List Value} (h : Blk w b t cs) (p : Addr) (hp : p.block = b) : w.frozen? p = false := by
  subst hp
  have h : w.heap[p.block]? = some (.cells cs.toArray t (0, 0)) := h
  simp [World.frozen?, h]
theorem Blk.fr {F : Nat → Prop} {w w' : World} {b : Nat} {t : TypeId} {cs : List Value} (h : Blk w b t cs) (f : Fr F w w') (hb : ¬ F b) : Blk w' b t cs :=
  (f.block b (Blk.lt h) hb).trans h
theorem Blk.set {w : World} {b : Nat} {t : TypeId} {cs : List Value} (h : Blk w b t cs) (i : Nat) (v : Value) : Blk (w.setCell ⟨b, i, none⟩ v) b t (cs.set i v) := by
  have h : w.heap[b]? = some (.cells cs.toArray t (0, 0)) := h
  simp [Blk, BlkH, World.setCell, Array.getElem?_modify, h]

/-! ### Parts of the memory -/
/-- A part of the memory: its blocks, and what is known of them. -/
structure As where
  fp : Nat → Prop
  ok : Array Obj → Prop
  lt : ∀ h, ok h → ∀ b, fp b → b < h.size
  fr : ∀ h h', ok h → (∀ b, fp b → h'[b]? = h[b]?) → ok h'
def blkA (b : Nat) (t : TypeId) (cs : List Value) : As where
  fp := fun k => k = b
  ok := fun h => BlkH h b t cs
  lt := fun h hb k hk => by subst hk; exact (Array.getElem?_eq_some_iff.1 hb).1
  fr := fun h h' hb he => (he b rfl).trans hb
/-- From W on only blocks in F, and new ones, have been written; these parts are known, each apart from the others, all among these blocks. -/
structure SepM (F : Nat → Prop) (W w : Mm) (L : List As) : Prop where
  fr : FrM F W w
  ok : ∀ A ∈ L, A.ok w.heap ∧ ∀ b, A.fp b → F b ∨ W.heap.size ≤ b
  apart : L.Pairwise fun A B => ∀ b, A.fp b → ¬ B.fp b
abbrev Sep (F : Nat → Prop) (W w : World) (L : List As) : Prop := SepM F (mm W) (mm w) L
theorem Sep.nil {F : Nat → Prop} {w : World} : Sep F w w [] := ⟨Fr.refl, by simp, .nil⟩
theorem mem_of_nth {L : List As} {i : Nat} {A : As} (h : L[i]? = some A) : A ∈ L := List.mem_of_getElem? h
section
variable {F : Nat → Prop} {W w w' : World} {L : List As} {i : Nat} {A A' : As}
theorem Sep.get (s : Sep F W w L) (h : L[i]? = some A) : A.ok w.heap := (SepM.ok s A (mem_of_nth h)).1
theorem apart_set {R : As → As → Prop} (hs : ∀ a b, R a b → R b a) : ∀ {L : List As} {i : Nat} {A A' : As}, L.Pairwise R → L[i]? = some A → (∀ B, R A B → R A' B) → (L.set i A').Pairwise R
  | [], i, A, A', h, hi, hr => by simp at hi
  | B :: L, 0, A, A', h, hi, hr => by
    simp only [List.getElem?_cons_zero, Option.some.injEq] at hi
    subst hi
    rw [List.pairwise_cons] at h
    simp only [List.set_cons_zero, List.pairwise_cons]
    exact ⟨fun C hC => hr C (h.1 C hC), h.2⟩
  | B :: L, i + 1, A, A', h, hi, hr => by
    simp only [List.getElem?_cons_succ] at hi
    rw [List.pairwise_cons] at h
    simp only [List.set_cons_succ, List.pairwise_cons]
    refine ⟨fun C hC => ?_, apart_set hs h.2 hi hr⟩
    rcases List.mem_or_eq_of_mem_set hC with hC | rfl
    · exact h.1 C hC
    · exact hs _ _ (hr B (hs _ _ (h.1 A (List.mem_of_getElem? hi))))
theorem apart_at {R : As → As → Prop} (hs : ∀ a b, R a b → R b a) : ∀ {L : List As} {i j : Nat} {A B : As}, L.Pairwise R → L[i]? = some A → L[j]? = some B → i ≠ j → R A B
  | [], i, j, A, B, h, hi, hj, hn => by simp at hi
  | C :: L, 0, 0, A, B, h, hi, hj, hn => (hn rfl).elim
  | C :: L, 0, j + 1, A, B, h, hi, hj, hn => by
    simp only [List.getElem?_cons_zero, Option.some.injEq, List.getElem?_cons_succ] at hi hj
    subst hi
    exact (List.pairwise_cons.1 h).1 B (List.mem_of_getElem? hj)
  | C :: L, i + 1, 0, A, B, h, hi, hj, hn => by
    simp only [List.getElem?_cons_zero, Option.some.injEq, List.getElem?_cons_succ] at hi hj
    subst hj
    exact hs _ _ ((List.pairwise_cons.1 h).1 A (List.mem_of_getElem? hi))
  | C :: L, i + 1, j + 1, A, B, h, hi, hj, hn => by
    simp only [List.getElem?_cons_succ] at hi hj
    exact apart_at hs (List.pairwise_cons.1 h).2 hi hj (by omega)
/-- A call that writes in one part alone. -/
theorem Sep.upd (s : Sep F W w L) (hi : L[i]? = some A) (f : Fr A.fp w w') (ho : A'.ok w'.heap) (hf : ∀ b, A'.fp b → A.fp b ∨ w.heap.size ≤ b) : Sep F W w' (L.set i A') := by
  have hA := SepM.ok s A (mem_of_nth hi)
  have hW : W.heap.size ≤ w.heap.size := FrM.size (SepM.fr s)
  have hfp : ∀ b, A'.fp b → F b ∨ W.heap.size ≤ b := fun b hb => by
    rcases hf b hb with h | h
    · exact hA.2 b h
    · exact .inr (Nat.le_trans hW h)
  refine ⟨Fr.trans (a := W) (SepM.fr s) f fun k hk hA' => ?_, fun B hB => ?_, ?_⟩
  · rcases hA.2 k hA' with h | h
    · exact h
    · have h : W.heap.size ≤ k := h
      omega
  · rcases List.getElem?_of_mem hB with ⟨j, hj⟩
    rw [List.getElem?_set] at hj
    split at hj
    · split at hj
      · cases hj
        exact ⟨ho, hfp⟩
      · cases hj
    · rename_i hne
      have hBs := SepM.ok s B (List.mem_of_getElem? hj)
      have hap := apart_at (fun a b h x hx hy => h x hy hx) (SepM.apart s) hi hj hne
      exact ⟨B.fr _ _ hBs.1 fun b hb => f.block b (B.lt _ hBs.1 b hb) fun hab => hap b hab hb, hBs.2⟩
  · have hbig : ∀ B ∈ L, ∀ b, B.fp b → b < w.heap.size := fun B hB b hb => B.lt _ (SepM.ok s B hB).1 b hb
    have key : ∀ {L : List As} {i : Nat}, L.Pairwise (fun A B => ∀ b, A.fp b → ¬ B.fp b) → (∀ B ∈ L, ∀ b, B.fp b → b < w.heap.size) → L[i]? = some A → (L.set i A').Pairwise fun A B => ∀ b, A.fp b → ¬ B.fp b := by
      intro L
      induction L with
      | nil => intro i h hb hi; simp at hi
      | cons B L ih =>
        intro i h hb hi
        rw [List.pairwise_cons] at h
        cases i with
        | zero =>
          simp only [List.getElem?_cons_zero, Option.some.injEq] at hi
          subst hi
          simp only [List.set_cons_zero, List.pairwise_cons]
          refine ⟨fun C hC b hb1 hb2 => ?_, h.2⟩
          rcases hf b hb1 with h1 | h1
          · exact h.1 C hC b h1 hb2
          · have := hb C (by simp [hC]) b hb2
            omega
        | succ i =>
          simp only [List.getElem?_cons_succ] at hi
          simp only [List.set_cons_succ, List.pairwise_cons]
          refine ⟨fun C hC b hb1 hb2 => ?_, ih h.2 (fun C hC => hb C (by simp [hC])) hi⟩
          rcases List.mem_or_eq_of_mem_set hC with hC | rfl
          · exact h.1 C hC b hb1 hb2
          · rcases hf b hb2 with h1 | h1
            · exact h.1 A (List.mem_of_getElem? hi) b hb1 h1
            · have := hb B (by simp) b hb1
              omega
    exact key (SepM.apart s) hbig hi
/-- A call that writes nothing that was there. -/
theorem Sep.call (s : Sep F W w L) (f : Fr No w w') : Sep F W w' L := by
  refine ⟨Fr.trans (a := W) (SepM.fr s) f fun _ _ h => h.elim, fun B hB => ?_, SepM.apart s⟩
  have hBs := SepM.ok s B hB
  exact ⟨B.fr _ _ hBs.1 fun b hb => f.block b (B.lt _ hBs.1 b hb) id, hBs.2⟩
/-- A call that brings a new part. -/
theorem Sep.new (s : Sep F W w L) (f : Fr No w w') (ho : A.ok w'.heap) (hf : ∀ b, A.fp b → w.heap.size ≤ b) : Sep F W w' (A :: L) := by
  have s' := Sep.call s f
  have hW : W.heap.size ≤ w.heap.size := FrM.size (SepM.fr s)
  refine ⟨SepM.fr s', fun B hB => ?_, ?_⟩
  · rcases List.mem_cons.1 hB with rfl | hB
    · exact ⟨ho, fun b hb => .inr (Nat.le_trans hW (hf b hb))⟩
    · exact SepM.ok s' B hB
  · rw [List.pairwise_cons]
    refine ⟨fun B hB b hb1 hb2 => ?_, SepM.apart s⟩
    have := B.lt _ (SepM.ok s B hB).1 b hb2
    have := hf b hb1
    simp only [mm] at *
    omega
/-- One part may be seen as several, and several as one. -/
theorem Sep.splice (s : Sep F W w L) (Ls : List As) (L1 L2 : List As) (hL : L = L1 ++ A :: L2) (ho : A.ok w.heap → (∀ B ∈ Ls, B.ok w.heap) ∧ (∀ B ∈ Ls, ∀ b, B.fp b → A.fp b) ∧ Ls.Pairwise fun A B => ∀ b, A.fp b → ¬ B.fp b) : Sep F W w (L1 ++ Ls ++ L2) := by
  subst hL
  have hA := SepM.ok s A (by simp)
  obtain ⟨h1, h2, h3⟩ := ho hA.1
  have hap := SepM.apart s
  rw [List.pairwise_append, List.pairwise_cons] at hap
  refine ⟨SepM.fr s, fun B hB => ?_, ?_⟩
  · rcases List.mem_append.1 hB with hB | hB
    · rcases List.mem_append.1 hB with hB | hB
      · exact SepM.ok s B (by simp [hB])
      · exact ⟨h1 B hB, fun b hb => hA.2 b (h2 B hB b hb)⟩
    · exact SepM.ok s B (by simp [hB])
  · rw [List.pairwise_append, List.pairwise_append]
    refine ⟨⟨hap.1, h3, fun B hB C hC b hb hc => hap.2.2 B hB A (by simp) b hb (h2 C hC b hc)⟩, hap.2.1.2, fun B hB C hC b hb hc => ?_⟩
    rcases List.mem_append.1 hB with hB | hB
    · exact hap.2.2 B hB C (by simp [hC]) b hb hc
    · exact hap.2.1.1 C hC b (h2 B hB b hb) hc
theorem Sep.drop (s : Sep F W w (A :: L)) : Sep F W w L := ⟨SepM.fr s, fun B hB => SepM.ok s B (by simp [hB]), (List.pairwise_cons.1 (SepM.apart s)).2⟩
end

/-! ### Words -/
section
variable {F : Nat → Prop} {W w : World} {L : List As} {a : Addr} {b i j : Nat} {t : TypeId} {cs : List Value}
theorem Sep.cell {v : Value} (s : Sep F W w L) (ha : a = ⟨b, j, none⟩) (hi : L[i]? = some (blkA b t cs)) (hj : cs[j]? = some v) : w.cell? a = some v := by
  rw [ha, Blk.cell (Sep.get s hi)]; exact hj
theorem Sep.LdI {k : IntKind} {n : Int} {K : Int → Prop} (s : Sep F W w L) (ha : a = ⟨b, j, none⟩) (hi : L[i]? = some (blkA b t cs)) (hj : cs[j]? = some (.int k n)) (h : K n) : LdI k a w K := ⟨n, Sep.cell s ha hi hj, h⟩
theorem Sep.LdB {n : Bool} {K : Bool → Prop} (s : Sep F W w L) (ha : a = ⟨b, j, none⟩) (hi : L[i]? = some (blkA b t cs)) (hj : cs[j]? = some (.bool n)) (h : K n) : LdB a w K := ⟨n, Sep.cell s ha hi hj, h⟩
theorem Sep.LdP {n : Option Addr} {K : Option Addr → Prop} (s : Sep F W w L) (ha : a = ⟨b, j, none⟩) (hi : L[i]? = some (blkA b t cs)) (hj : cs[j]? = some (.pointer n)) (h : K n) : LdP a w K := ⟨n, Sep.cell s ha hi hj, h⟩
theorem Sep.LdM {n : Option Nat} {K : Option Nat → Prop} (s : Sep F W w L) (ha : a = ⟨b, j, none⟩) (hi : L[i]? = some (blkA b t cs)) (hj : cs[j]? = some (.map n)) (h : K n) : LdM a w K := ⟨n, Sep.cell s ha hi hj, h⟩
theorem Sep.LdStr {n : ByteArray} {K : ByteArray → Prop} (s : Sep F W w L) (ha : a = ⟨b, j, none⟩) (hi : L[i]? = some (blkA b t cs)) (hj : cs[j]? = some (.string n)) (h : K n) : LdStr a w K := ⟨n, Sep.cell s ha hi hj, h⟩
theorem Sep.LdS {x : Option Addr} {n c : Nat} {K : Option Addr → Nat → Nat → Prop} (s : Sep F W w L) (ha : a = ⟨b, j, none⟩) (hi : L[i]? = some (blkA b t cs)) (hj : cs[j]? = some (.slice x n c)) (h : K x n c) : LdS a w K := ⟨x, n, c, Sep.cell s ha hi hj, h⟩
theorem Sep.set (s : Sep F W w L) (hi : L[i]? = some (blkA b t cs)) (v : Value) : Sep F W (w.setCell ⟨b, j, none⟩ v) (L.set i (blkA b t (cs.set j v))) :=
  Sep.upd s hi (Fr.setCell (p := ⟨b, j, none⟩) (F := (blkA b t cs).fp) Fr.refl (fun _ => rfl) v) (Blk.set (Sep.get s hi) j v) fun b h => .inl h
theorem Sep.St {v : Value} {K : World → Prop} (s : Sep F W w L) (ha : a = ⟨b, j, none⟩) (hi : L[i]? = some (blkA b t cs)) (hj' : Nat.blt j cs.length = true) (h : ∀ w', Sep F W w' (L.set i (blkA b t (cs.set j v))) → K w') : St a v w K := by
  subst ha
  have hj : j < cs.length := by simpa [Nat.blt_eq] using hj'
  have hb : Blk w b t cs := Sep.get s hi
  exact ⟨⟨cs[j], by rw [Blk.cell hb]; simp [hj]⟩, Blk.unfrozen hb _ rfl, h _ (Sep.set s hi v)⟩
theorem Sep.alloc (s : Sep F W w L) (cs : List Value) (t : TypeId) : Sep F W (w.alloc (.cells cs.toArray t)) (blkA w.heap.size t cs :: L) :=
  Sep.new s (Fr.alloc Fr.refl _) Blk.new fun b hb => Nat.le_of_eq hb.symm
theorem Sep.Bx {K : Addr → World → Prop} (s : Sep F W w L) (h : ∀ b w', Sep F W w' (blkA b t cs :: L) → K ⟨b, 0, none⟩ w') : Bx cs t w K := h _ _ (Sep.alloc s cs t)
theorem Sep.Al {T : Tab} {K : Addr → World → Prop} (s : Sep F W w L) (h : ∀ b w', Sep F W w' (blkA b t (zc T t) :: L) → K ⟨b, 0, none⟩ w') : Al T t w K := h _ _ (Sep.alloc s (zc T t) t)
end

theorem add_flat (b o i : Nat) : (⟨b, o, none⟩ : Addr).add i = ⟨b, o + i, none⟩ := by unfold Addr.add; split <;> simp_all
theorem add_block (a : Addr) (i : Nat) : (a.add i).block = a.block := by unfold Addr.add; split <;> rfl
theorem add_add (a : Addr) (i j : Nat) : (a.add i).add j = a.add (i + j) := by
  unfold Addr.add
  by_cases hi : i = 0 <;> by_cases hj : j = 0 <;> simp [hi, hj]
  omega
theorem add_zero (a : Addr) : a.add 0 = a := by simp [Addr.add]
end Go.Sx
