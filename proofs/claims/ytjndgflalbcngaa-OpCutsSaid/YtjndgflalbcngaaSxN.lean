/- Maps: what is in them, asked, put, taken out. -/
import Derived.Test.YtjndgflalbcngaaSxM
import Derived.Maps.Keyed
import Derived.Carry
import Derived.WideKeyPair
set_option linter.unusedVariables false
set_option linter.unusedSimpArgs false
namespace Go.Sx
open Go.RowKit Go.ChangeMaps Go.MapKept
open Go.Maps (Keyed)
theorem NeqK_arr {P : Program} {t e : TypeId} {n : Nat} {inf : TypeInfo} {xs ys : Array Value} {x y : Operand} {r : Bool} {w : World} {K : Bool → World → Prop} (hu : P.underlying t = some (.array n e)) (hi : P.info? e = some inf) (hg : P.eqGuardType P.depth t = false)
    (hr : eqIs P e (P.cellsOf e) xs ys (List.range n) = some r) (h : K (!r) w) : EqK P .neq t x y (.agg xs) (.agg ys) w K := by
  have h1 : (Op.equalIn 10000 t (.agg xs) (.agg ys)).run P w = .ok r w := by
    rw [run_equalIn_array (P := P) w 9999 xs ys hu hi]
    exact eqIs_run hr
  unfold EqK RunK
  simp only [Sem.run_bind, run_eqGuard_agg (P := P) w .neq t x y xs ys hg, Result.andThen_ok, run_neq_struct, h1]
  exact h
theorem EqK_neq {P : Program} {t : TypeId} {xs ys : Array Value} {x y : Operand} {w : World} {K : Bool → World → Prop} (hg : P.eqGuardType P.depth t = false) (h : EqK P .eql t x y (.agg xs) (.agg ys) w fun r w' => K (!r) w') : EqK P .neq t x y (.agg xs) (.agg ys) w K := by
  unfold EqK RunK at h ⊢
  simp only [Sem.run_bind, run_eqGuard_agg (P := P) w .eql t x y xs ys hg, run_eqGuard_agg (P := P) w .neq t x y xs ys hg, Result.andThen_ok, run_eql_struct, run_neq_struct] at h ⊢
  cases hr : (Op.equalIn 10000 t (.agg xs) (.agg ys)).run P w with
  | ok b w' => rw [hr] at h; exact h
  | halt e w' => rw [hr] at h; exact h
/-- A map of one's own: keys and values as they stand in it. -/
def mapA (P : Program) (k : TypeId) (b : Nat) (m : List (Value × Value)) : As where
  fp := fun x => x = b
  ok := fun h => ∃ es clock, h[b]? = some (.map es clock) ∧ es.toList.map (fun e => (e.key, e.val)) = m ∧ ∀ p ∈ m, ∃ l, keyOf P k p.1 = some l
  lt := fun h hb x hx => by
    subst hx
    obtain ⟨es, clock, hb, _⟩ := hb
    exact (Array.getElem?_eq_some_iff.1 hb).1
  fr := fun h h' hb he => by
    obtain ⟨es, clock, hb, r⟩ := hb
    exact ⟨es, clock, (he b rfl).trans hb, r⟩
section
variable {P : Program} {k e t : TypeId} {b : Nat} {m : List (Value × Value)} {F : Nat → Prop} {W w : World} {L : List As} {i : Nat} {key val : Value}
theorem Sep.setBlock (s : Sep F W w L) {A : As} (hi : L[i]? = some A) (hA : A.fp b) {o : Obj} {A' : As} (ho : A'.ok (ChangeMaps.setBlock w b o).heap) (hf : ∀ x, A'.fp x → A.fp x) : Sep F W (ChangeMaps.setBlock w b o) (L.set i A') := by
  refine Sep.upd s hi ⟨rfl, rfl, rfl, by simp [mm, ChangeMaps.setBlock], fun x hx hne => ?_⟩ ho fun x hx => .inl (hf x hx)
  show (w.heap.setIfInBounds b o)[x]? = w.heap[x]?
  exact Array.getElem?_setIfInBounds_ne fun e => hne (by rw [← e]; exact hA)
theorem heap_same {w : World} {b : Nat} {o o' : Obj} (h : w.heap[b]? = some o) : (ChangeMaps.setBlock w b o').heap[b]? = some o' := by
  have := (Array.getElem?_eq_some_iff.1 h).1
  simp [ChangeMaps.setBlock, this]
theorem Sep.MkM {K : Option Nat → World → Prop} (s : Sep F W w L) (P : Program) (k t : TypeId) (h : ∀ b w', Sep F W w' (mapA P k b [] :: L) → K (some b) w') : MkM P t none w K := by
  unfold Sx.MkM RunK
  have e : (Instr.makeMap t none).run P w = .ok (.map (some w.heap.size)) (w.alloc (.map #[] 0)) := by
    simp [Instr.makeMap, newObj, Sem.run, Result.andThen]
  rw [e]
  refine h _ _ (Sep.new s (Fr.alloc Fr.refl _) ?_ fun x hx => ?_)
  · exact ⟨#[], 0, heap_alloc_new w _, rfl, by simp⟩
  · have hx : x = w.heap.size := hx
    omega
theorem Sep.Look {c : Bool} {z : Value} {K : Value → World → Prop} (KP : Keyed P k) (ht : P.underlying t = some (.map k e)) (hz : (zeroValue e).run P w = .ok z w) (s : Sep F W w L) (hi : L[i]? = some (mapA P k b m)) (hkey : ∃ l, keyOf P k key = some l)
    (h0 : (∀ p ∈ m, p.1 ≠ key) → K (if c then .tuple #[z, .bool false] else z) w) (h1 : ∀ (j : Nat) v, m[j]? = some (key, v) → K (if c then .tuple #[v, .bool true] else v) w) : RunK P (Instr.lookup t (.map (some b)) key c) w K := by
  obtain ⟨es, clock, hb, hm, hk⟩ := Sep.get s hi
  obtain ⟨l, hkey⟩ := hkey
  have hks : ∀ x ∈ es.toList, ∃ l, keyOf P k x.key = some l := fun x hx => hk (x.key, x.val) (by rw [← hm]; exact List.mem_map.2 ⟨x, hx, rfl⟩)
  unfold RunK
  rcases KP.find w hkey es.toList hks with ⟨q1, q2⟩ | ⟨j, e0, q1, q2, q3⟩
  · have : (Instr.lookup t (.map (some b)) key c).run P w = .ok (if c then .tuple #[z, .bool false] else z) w := by
      simp [Instr.lookup, run_underlying ht, MapKept.run_getObj_map hb, KP.check w _ hkey, q1, hz, Result.andThen]
    rw [this]
    refine h0 fun p hp => ?_
    rw [← hm] at hp
    obtain ⟨x, hx, rfl⟩ := List.mem_map.1 hp
    exact q2 x hx
  · have : (Instr.lookup t (.map (some b)) key c).run P w = .ok (if c then .tuple #[e0.val, .bool true] else e0.val) w := by
      simp [Instr.lookup, run_underlying ht, MapKept.run_getObj_map hb, KP.check w _ hkey, q1, Result.andThen]
    rw [this]
    exact h1 j e0.val (by rw [← hm, List.getElem?_map, q2, ← q3]; rfl)
theorem Sep.MapSet {K : World → Prop} (KP : Keyed P k) (ht : P.underlying t = some (.map k e)) (s : Sep F W w L) (hi : L[i]? = some (mapA P k b m)) (hkey : ∃ l, keyOf P k key = some l)
    (h0 : (∀ p ∈ m, p.1 ≠ key) → ∀ w', Sep F W w' (L.set i (mapA P k b (m ++ [(key, val)]))) → K w') (h1 : ∀ (j : Nat) v0, m[j]? = some (key, v0) → ∀ w', Sep F W w' (L.set i (mapA P k b (m.set j (key, val)))) → K w') :
    RunU P (Instr.mapUpdate t (.map (some b)) key val) w K := by
  obtain ⟨es, clock, hb, hm, hk⟩ := Sep.get s hi
  have hb : w.heap[b]? = some (.map es clock) := hb
  obtain ⟨l, hkey⟩ := hkey
  have hks : ∀ x ∈ es.toList, ∃ l, keyOf P k x.key = some l := fun x hx => hk (x.key, x.val) (by rw [← hm]; exact List.mem_map.2 ⟨x, hx, rfl⟩)
  unfold RunU
  rcases KP.find w hkey es.toList hks with ⟨q1, q2⟩ | ⟨j, e0, q1, q2, q3⟩
  · have : (Instr.mapUpdate t (.map (some b)) key val).run P w = .ok () (ChangeMaps.setBlock w b (.map (es.push ⟨key, val, clock⟩) (clock + 1))) := by
      simp [Instr.mapUpdate, run_underlying ht, MapKept.run_getObj_map hb, KP.check w false hkey, q1, MapKept.run_setObj_map _ hb, Result.andThen, ChangeMaps.setBlock]
    rw [this]
    refine h0 (fun p hp => ?_) _ (Sep.setBlock s hi rfl ⟨_, _, heap_same hb, ?_, fun p hp => ?_⟩ fun x hx => hx)
    · rw [← hm] at hp
      obtain ⟨x, hx, rfl⟩ := List.mem_map.1 hp
      exact q2 x hx
    · rw [Array.toList_push, List.map_append, hm]; rfl
    · rcases List.mem_append.1 hp with hp | hp
      · exact hk p hp
      · rw [List.mem_singleton.1 hp]; exact ⟨l, hkey⟩
  · have hj : es[j]? = some e0 := by simpa using q2
    have hjl : j < es.toList.length := (List.getElem?_eq_some_iff.1 q2).1
    have : (Instr.mapUpdate t (.map (some b)) key val).run P w = .ok () (ChangeMaps.setBlock w b (.map (es.modify j (fun e' => { e' with key := key, val := val })) clock)) := by
      simp [Instr.mapUpdate, run_underlying ht, MapKept.run_getObj_map hb, KP.check w false hkey, q1, hj, q3, KP.stays w hkey, MapKept.run_setObj_map _ hb, Result.andThen, ChangeMaps.setBlock]
    rw [this]
    have hlist : (es.modify j (fun e' => { e' with key := key, val := val })).toList = es.toList.set j { e0 with key := key, val := val } := by rw [Array.toList_modify, modify_eq_set _ _ _ _ q2]
    refine h1 j e0.val (by rw [← hm, List.getElem?_map, q2, ← q3]; rfl) _ (Sep.setBlock s hi rfl ⟨_, _, heap_same hb, ?_, fun p hp => ?_⟩ fun x hx => hx)
    · rw [hlist, List.map_set, hm]
    · rcases List.mem_or_eq_of_mem_set hp with hp | rfl
      · exact hk p hp
      · exact ⟨l, hkey⟩
theorem Sep.MapDel {ty : TypeId} {K : Value → World → Prop} (KP : Keyed P k) (ht : P.underlying t = some (.map k e)) (s : Sep F W w L) (hi : L[i]? = some (mapA P k b m)) (hkey : ∃ l, keyOf P k key = some l)
    (h0 : (∀ p ∈ m, p.1 ≠ key) → ∀ w', Sep F W w' L → K (.tuple #[]) w') (h1 : ∀ (j : Nat) v0, m[j]? = some (key, v0) → ∀ w', Sep F W w' (L.set i (mapA P k b (m.eraseIdx j))) → K (.tuple #[]) w') :
    RunK P (Builtin.delete_ #[t, k] ty [.map (some b), key].toArray) w K := by
  obtain ⟨es, clock, hb, hm, hk⟩ := Sep.get s hi
  have hb : w.heap[b]? = some (.map es clock) := hb
  obtain ⟨l, hkey⟩ := hkey
  have hks : ∀ x ∈ es.toList, ∃ l, keyOf P k x.key = some l := fun x hx => hk (x.key, x.val) (by rw [← hm]; exact List.mem_map.2 ⟨x, hx, rfl⟩)
  unfold RunK
  rcases KP.find w hkey es.toList hks with ⟨q1, q2⟩ | ⟨j, e0, q1, q2, q3⟩
  · have : (Builtin.delete_ #[t, k] ty [.map (some b), key].toArray).run P w = .ok (.tuple #[]) (ChangeMaps.setBlock w b (.map es clock)) := by
      simp [Builtin.delete_, run_underlying ht, MapKept.run_getObj_map hb, KP.check w _ hkey, q1, MapKept.run_setObj_map _ hb, Result.andThen, ChangeMaps.setBlock]
    rw [this]
    refine h0 (fun p hp => ?_) _ ?_
    · rw [← hm] at hp
      obtain ⟨x, hx, rfl⟩ := List.mem_map.1 hp
      exact q2 x hx
    · have := Sep.setBlock s hi (o := .map es clock) (A' := mapA P k b m) rfl ⟨_, _, heap_same hb, hm, hk⟩ fun x hx => hx
      rwa [set_get_self hi] at this
  · have hjs : j < es.size := by have := (List.getElem?_eq_some_iff.1 q2).1; simpa using this
    have hsub : (es.eraseIdxIfInBounds j).toList = es.toList.eraseIdx j := by
      unfold Array.eraseIdxIfInBounds
      rw [dif_pos hjs]
      simp
    have : (Builtin.delete_ #[t, k] ty [.map (some b), key].toArray).run P w = .ok (.tuple #[]) (ChangeMaps.setBlock w b (.map (es.eraseIdxIfInBounds j) clock)) := by
      simp [Builtin.delete_, run_underlying ht, MapKept.run_getObj_map hb, KP.check w _ hkey, q1, MapKept.run_setObj_map _ hb, Result.andThen, ChangeMaps.setBlock]
    rw [this]
    refine h1 j e0.val (by rw [← hm, List.getElem?_map, q2, ← q3]; rfl) _ (Sep.setBlock s hi rfl ⟨_, _, heap_same hb, ?_, fun p hp => ?_⟩ fun x hx => hx)
    · rw [hsub, ChangeMaps.map_eraseIdx, hm]
    · exact hk p ((List.eraseIdx_sublist _ _).subset hp)
end
end Go.Sx
